/- A part of the proof over this seat's program: the checked evaluator and its soundness (E..), and what it gives here (the others). No condition. -/
import Derived.Test.YtnljmpeaeajcoaaGreatDoorG9
set_option linter.unusedSectionVars false
namespace Go.Eng
open Go
variable [Mode]

/-! append -/
theorem take_rows (A B : List Value) (rest : Array Value) : (A.toArray ++ B.toArray ++ rest).toList.take (A ++ B).length = A ++ B := by
  rw [Array.toList_append, Array.toList_append]
  exact List.take_left
theorem srcCells_sound {P : Program} {sz : Nat} {a : AV} {M : Mem} {K : Nat → List AV → Bool} (h : srcCells sz a M K = true) :
    ∃ n l, K n l = true ∧ ∀ w0 R ρ w ca, MRel w0 R ρ M w → VRel ρ a ca → l.length = n * sz ∧ (Builtin.lenOf ca).run P w = .ok n w ∧ ∃ vs : List Value, VsRel ρ l vs ∧ ∀ k, (Builtin.firstCells sz n ca).run P { w with drawn := k } = .ok vs.toArray { w with drawn := k } := by
  unfold srcCells at h
  split at h
  · refine ⟨0, [], h, fun w0 R ρ w ca hM ha => ?_⟩
    cases ha
    exact ⟨by simp, by simp [Builtin.lenOf], [], .nil, fun k => by simp [Builtin.firstCells]⟩
  · rename_i b o n cap op
    obtain ⟨l, c, op', sz', hK, hb, hl, hlen, hle, H⟩ := rowOf_sound (P := P) h
    refine ⟨n, l, hK, fun w0 R ρ w ca hM ha => ⟨hlen, ?_⟩⟩
    cases ha with
    | slice _ _ _ _ _ B x c' hr hc =>
      refine ⟨by simp [Builtin.lenOf], ?_⟩
      obtain ⟨arr, t, ho, hv, hs⟩ := hM.row hb hr
      refine ⟨(arr.toList.drop o).take (n * sz), ?_, fun k => ?_⟩
      · subst hl
        have := (hv.drop o).take (n * sz)
        rwa [List.drop_take, List.take_take, Nat.min_eq_left (by change o + n * sz ≤ _ at hle; omega)] at this
      · have := run_cells (P := P) (w := { w with drawn := k }) (B := B) (o := o) (n := n * sz) ho (by change o + n * sz ≤ _ at hle; omega)
        simpa [Builtin.firstCells] using this
  · rename_i n s el
    rw [brec_false] at h
    obtain ⟨hss, h⟩ := h
    obtain rfl : s = sz := Nat.eq_of_beq_eq_true hss
    refine ⟨n, _, h, fun w0 R ρ w ca hM ha => ?_⟩
    cases ha with
    | dslice _ _ _ _ hd =>
      cases hd with
      | none _ _ => exact ⟨by rw [Nat.zero_mul]; rfl, by simp [Builtin.lenOf], [], .nil, fun k => by simp [Builtin.firstCells]⟩
      | slice _ _ _ B o cap l hz hc hl hd =>
        obtain ⟨arr, t, fz, ho, hal⟩ := hM.zok B l hz
        have hle : l.length ≤ arr.size := by
          have := congrArg List.length hal
          simp at this; omega
        have hfr := firstEls_rel n hl hd
        refine ⟨?_, by simp [Builtin.lenOf], ?_⟩
        · rw [toAVs_length, hfr.length]
          simp; omega
        refine ⟨(arr.toList.drop o).take (n * s), ?_, fun k => ?_⟩
        · have := hfr.toAVs (ρ := ρ)
          have e : (arr.toList.drop o).take (n * s) = (l.drop o).take (n * s) := by
            rw [← hal]
            simp only [List.drop_take, List.take_take]
            congr 1
            omega
          rw [e]; exact this
        · have := run_cells (P := P) (w := { w with drawn := k }) (B := B) (o := o) (n := n * s) ho (by omega)
          simpa [Builtin.firstCells] using this
  · exact absurd h (by simp)

/-- what append comes to -/
def AppSim (P : Program) (e : TypeId) (s x : AV) (M : Mem) (v : AV) (M' : Mem) : Prop :=
  ∀ w0 R ρ w cs cx, MRel w0 R ρ M w → VRel ρ s cs → VRel ρ x cx → ∃ ρ' cv w', ρ.le ρ' ∧ VRel ρ' v cv ∧ MRel w0 R ρ' M' w' ∧
    ∀ (ts : Array TypeId) (t1 t2 ty : TypeId) (e2 : TypeId), ts[0]? = some t1 → ts[1]? = some t2 → P.underlying t1 = some (.slice e) → P.underlying t2 = some (.slice e2) → (Builtin.append_ ts ty #[cs, cx]).run P w = .ok cv w'

theorem smallOk_spec {P : Program} {e : TypeId} {need : Nat} (h : smallOk P e need = true) : ∃ i, P.info? e = some i ∧ need * i.bytes ≤ 140737488355328 := by
  unfold smallOk at h
  split at h
  · rename_i i hi
    exact ⟨i, hi, nble_le h⟩
  · exact absurd h (by simp)

theorem zeroCells_length (z : Array Value) (n : Nat) : (Builtin.zeroCells z n).size = n * z.size := by simp [Builtin.zeroCells]

/-- the growing append in the model -/
theorem run_grow {P : Program} {w : World} {e : TypeId} {i : TypeInfo} {z : Value} {base : Option Addr} {sLen sCap n : Nat} {cx : Value} {olds news : List Value}
    (hi : P.info? e = some i) (hz : i.zero = some z) (hlen : (Builtin.lenOf cx).run P w = .ok n w)
    (hold : ∀ k, (Builtin.firstCells i.size sLen (.slice base sLen sCap)).run P { w with drawn := k } = .ok olds.toArray { w with drawn := k })
    (hnew : ∀ k, (Builtin.firstCells i.size n cx).run P { w with drawn := k } = .ok news.toArray { w with drawn := k })
    (hg : sCap < sLen + n) (h63 : sLen + n ≤ 9223372036854775807) (hb : (sLen + n) * i.bytes ≤ 140737488355328) :
    ∃ x rest, rest.size = x * z.cells.size ∧ ∀ (ts : Array TypeId) (t1 t2 ty : TypeId) (e2 : TypeId), ts[0]? = some t1 → ts[1]? = some t2 → P.underlying t1 = some (.slice e) → P.underlying t2 = some (.slice e2) →
      (Builtin.append_ ts ty #[.slice base sLen sCap, cx]).run P w =
        .ok (.slice (some ⟨w.heap.size, 0, none⟩) (sLen + n) (sLen + n + x)) { w with drawn := w.drawn + 1, heap := w.heap.push (.cells (olds.toArray ++ news.toArray ++ rest) e) } := by
  let nc := (Question.appendCap (sLen + n) sCap e).cut (w.tape w.drawn (.appendCap (sLen + n) sCap e))
  have hnc : sLen + n ≤ nc := by simp [nc, Question.cut]
  refine ⟨nc - (sLen + n), Builtin.zeroCells z.cells (nc - (sLen + n)), zeroCells_length _ _, fun ts t1 t2 ty e2 h1 h2 hu1 hu2 => ?_⟩
  have hn : ¬ (sLen + n ≤ sCap) := by omega
  have h63' : ¬ (9223372036854775807 < ((sLen : Int) + (n : Int))) := by omega
  have h48 := growslice_fits (need := sLen + n) (old := sCap) (bytes := i.bytes) hg hb
  have h48' : ¬ (281474976710656 < Builtin.nextslicecap (sLen + n) sCap * i.bytes) := by omega
  have hadd : sLen + n + (nc - (sLen + n)) = nc := by omega
  rw [hadd]
  have hold' : (Builtin.firstCells i.size sLen (.slice base sLen sCap)).run P w.drew = .ok olds.toArray w.drew := hold (w.drawn + 1)
  have hnew' : (Builtin.firstCells i.size n cx).run P w.drew = .ok news.toArray w.drew := hnew (w.drawn + 1)
  simp [Builtin.append_, h1, h2, run_und hu1, run_und hu2, sizeOf, run_tinfo hi, hlen, hn, h63', h48', Question.forced, hold', hnew', zeroValue, hz, newRow]
  exact ⟨rfl, by simp only [World.alloc, World.drew, nc, ← Array.append_assoc, List.append_toArray]⟩

theorem growA_sound {P : Program} {e : TypeId} {sz need : Nat} {c : List AV} {M : Mem} {K : AV → Mem → Bool} (h : growA P e sz need c M K = true) :
    ∃ t', K (.slice M.nx 0 need need true) ⟨t', M.nx + 1⟩ = true ∧ (∀ k, t'.get k = if k = M.nx then some (.row c true sz) else M.t.get k) ∧ need ≤ 9223372036854775807 ∧ (∃ i z, P.info? e = some i ∧ i.zero = some z ∧ z.cells.size = i.size ∧ szOf P e = some i.size ∧ need * i.bytes ≤ 140737488355328) := by
  unfold growA at h
  rw [brec_false] at h
  obtain ⟨h63, h⟩ := h
  rw [brec_false] at h
  obtain ⟨hsm, h⟩ := h
  rw [brec_false] at h
  obtain ⟨hok, h⟩ := h
  obtain ⟨t', h, ht⟩ := newB_sound h
  obtain ⟨i, z, hi, hz, hs, hsz⟩ := elemOk_spec hok
  obtain ⟨i', hi', hb⟩ := smallOk_spec hsm
  rw [hi] at hi'
  obtain rfl := Option.some.inj hi'
  exact ⟨t', h, ht, nble_le h63, i, z, hi, hz, hs, hsz, hb⟩

theorem appendA_sound {P : Program} {e : TypeId} {s x : AV} {M : Mem} {K : AV → Mem → Bool} (h : appendA P e s x M K = true) : ∃ v M', K v M' = true ∧ AppSim P e s x M v M' := by
  unfold appendA at h
  split at h
  · exact absurd h (by simp)
  rename_i sz hsz
  obtain ⟨n, new, h, Hx⟩ := srcCells_sound (P := P) h
  split at h
  · -- to nil
    rw [brec_tt] at h
    rcases h with ⟨hn, h⟩ | ⟨hn, h⟩
    · obtain ⟨t', hK, ht, h63, i, z, hi, hz, hzs, hsz', hb⟩ := growA_sound h
      rw [hsz] at hsz'
      obtain rfl := Option.some.inj hsz'
      refine ⟨_, _, hK, fun w0 R ρ w cs cx hM hs hx => ?_⟩
      obtain ⟨hnl, hlen, vs, hv, hfc⟩ := Hx w0 R ρ w cx hM hx
      cases hs
      have hn0 : n ≠ 0 := fun e => by rw [e] at hn; exact absurd hn (by simp)
      obtain ⟨y, rest, hr, hrun⟩ := run_grow (P := P) (w := w) (e := e) (base := none) (sLen := 0) (sCap := 0) (n := n) (olds := []) (news := vs) hi hz hlen (fun k => by simp [Builtin.firstCells]) hfc (by omega) (by omega) (by simpa using hb)
      refine ⟨ρ.ext M.nx (w.heap.size, y), _, _, hM.le_push _, .slice _ _ _ _ _ _ y (n + y) (Env.ext_same _ _ _) (by simp), ?_, fun ts t1 t2 ty e2 a1 a2 a3 a4 => by simpa using hrun ts t1 t2 ty e2 a1 a2 a3 a4⟩
      have hvl := hv.length
      refine row_new hM.drew y _ e ht ?_ ?_
      · have : (vs.toArray ++ rest).toList.take new.length = vs := by simp [hvl]
        rw [this]; exact hv
      · simp [hvl, hr, hzs]
    · refine ⟨_, _, h, fun w0 R ρ w cs cx hM hs hx => ?_⟩
      obtain ⟨hnl, hlen, vs, hv, hfc⟩ := Hx w0 R ρ w cx hM hx
      cases hs
      have hn0 : n = 0 := by have := Nat.eq_of_beq_eq_true hn; exact this
      subst hn0
      refine ⟨ρ, .slice none 0 0, w, .refl _, .nilSlice, hM, fun ts t1 t2 ty e2 a1 a2 a3 a4 => ?_⟩
      have hfc' := hfc w.drawn
      simp [Builtin.append_, a1, a2, run_und a3, run_und a4, run_szOf hsz, hlen, hfc']
  · rename_i b o len cap op _
    rw [fN_eq] at h
    generalize hneed : Nat.add len n = need at h
    obtain rfl : need = len + n := hneed.symm
    rw [brec_tt] at h
    rcases h with ⟨hle, h⟩ | ⟨hle, h⟩
    · -- it must grow, or may
      have hlt : ¬ (len + n ≤ cap) := fun hh => by rw [nble_t hh] at hle; exact absurd hle (by simp)
      obtain ⟨old, c, op', sz', h, hb, hol, holen, hole, Hold⟩ := rowOf_sound (P := P) h
      rw [appK_iff] at h
      rw [brec_tt] at h
      rcases h with ⟨hop, h⟩ | ⟨hop, h⟩
      · -- the capacity is known
        obtain ⟨t', hK, ht, h63, i, z, hi, hz, hzs, hsz', hby⟩ := growA_sound h
        rw [hsz] at hsz'
        obtain rfl := Option.some.inj hsz'
        refine ⟨_, _, hK, fun w0 R ρ w cs cx hM hs hx => ?_⟩
        obtain ⟨hnl, hlen, vs, hv, hfc⟩ := Hx w0 R ρ w cx hM hx
        cases hs with
        | slice _ _ _ _ _ B y c' hr hc =>
          have hc' : c' = cap := by simpa [hop] using hc
          subst hc'
          obtain ⟨arr, t, ho, hva, hsa⟩ := hM.row hb hr
          have holds : ∀ k, (Builtin.firstCells i.size len (.slice (some ⟨B, o, none⟩) len c')).run P { w with drawn := k } = .ok ((arr.toList.drop o).take (len * i.size)).toArray { w with drawn := k } := fun k => by
            have := run_cells (P := P) (w := { w with drawn := k }) (B := B) (o := o) (n := len * i.size) ho (by change o + len * i.size ≤ _ at hole; omega)
            simpa [Builtin.firstCells] using this
          have hrold : VsRel ρ old ((arr.toList.drop o).take (len * i.size)) := by
            subst hol
            have := (hva.drop o).take (len * i.size)
            rwa [List.drop_take, List.take_take, Nat.min_eq_left (by change o + len * i.size ≤ _ at hole; omega)] at this
          obtain ⟨u, rest, hrs, hrun⟩ := run_grow (P := P) (w := w) (e := e) (base := some ⟨B, o, none⟩) (sLen := len) (sCap := c') (n := n) (news := vs) hi hz hlen holds hfc (by omega) h63 hby
          refine ⟨ρ.ext M.nx (w.heap.size, u), _, _, hM.le_push _, .slice _ _ _ _ _ _ u (len + n + u) (Env.ext_same _ _ _) (by simp), ?_, hrun⟩
          have hl := (hrold.append hv).length
          refine row_new hM.drew u _ e ht ?_ ?_
          · have : (((arr.toList.drop o).take (len * i.size)).toArray ++ vs.toArray ++ rest).toList.take (old ++ new).length = (arr.toList.drop o).take (len * i.size) ++ vs := by
              rw [hl]; exact take_rows _ _ _
            rw [this]; exact hrold.append hv
          · have hl' : (old ++ new).length = ((arr.toList.drop o).take (len * i.size)).length + vs.length := by rw [hl]; simp
            rw [hl']
            simp [hrs, hzs]
      · -- the capacity is not known: in place, or anew
        rw [brec_false] at h
        obtain ⟨ho0, h⟩ := h
        rw [brec_false] at h
        obtain ⟨hopen, h⟩ := h
        rw [brec_false] at h
        obtain ⟨hsc, h⟩ := h
        obtain ⟨t1, h, ht1⟩ := setB_sound h
        have ho0' : o = 0 := Nat.eq_of_beq_eq_true ho0
        obtain ⟨t', hK, ht, h63, i, z, hi, hz, hzs, hsz', hby⟩ := growA_sound h
        rw [hsz] at hsz'
        obtain rfl := Option.some.inj hsz'
        unfold openOk at hopen
        rw [hb] at hopen
        simp only at hopen
        rw [brec_false] at hopen
        obtain ⟨hop', hopen⟩ := hopen
        rw [brec_false] at hopen
        obtain ⟨hss, hcl⟩ := hopen
        have hss' : sz' = i.size := Nat.eq_of_beq_eq_true hss
        have hcl' : c.length = cap * i.size := by have := Nat.eq_of_beq_eq_true hcl; rwa [lenL_eq] at this
        refine ⟨_, _, hK, fun w0 R ρ w cs cx hM hs hx => ?_⟩
        subst ho0'
        obtain ⟨hnl, hlen, vs, hv, hfc⟩ := Hx w0 R ρ w cx hM hx
        cases hs with
        | slice _ _ _ _ _ B y c' hr hc =>
          have hc' : c' = cap + y := by simpa [hop] using hc
          obtain ⟨arr, t, ho, hva, hsa⟩ := hM.row hb hr
          have hsa' : arr.size = (cap + y) * i.size := by rw [hsa, hcl', hss', hop']; simp [Nat.add_mul]
          have hole' : len * i.size ≤ c.length := by change 0 + len * i.size ≤ _ at hole; omega
          have hrold : VsRel ρ old (arr.toList.take (len * i.size)) := by
            subst hol
            have := (hva.drop 0).take (len * i.size)
            rw [List.drop_zero, List.drop_zero, List.take_take, Nat.min_eq_left hole'] at this
            simpa using this
          have hvl := hv.length
          have hkill := hM.kill b ht1
          by_cases hfit : len + n ≤ c'
          · -- in place
            have hfit2 : len * i.size + vs.length ≤ arr.size := by
              rw [← hvl, hnl, ← Nat.add_mul, hsa']
              exact Nat.mul_le_mul_right _ (by omega)
            have hrun := run_storeCells_at P B (len * i.size) t vs 0 arr w ho (by omega) (allSc_iff hsc hv)
            let arr' := (arr.toList.take (len * i.size + 0) ++ vs ++ arr.toList.drop (len * i.size + 0 + vs.length)).toArray
            have hrow : (w.setRow B arr').heap[B]? = some (.cells arr' t (0, 0)) := by simp [World.setRow, Array.getElem?_modify, ho]
            have hRB : ¬ R B := by
              obtain ⟨B', x', o', hr', hRB, _, _⟩ := hM.blk b _ hb (by simp)
              rw [hr] at hr'
              obtain ⟨rfl, _⟩ := Prod.mk.inj (Option.some.inj hr')
              exact hRB
            refine ⟨ρ.ext M.nx (B, cap + y - (len + n)), .slice (some ⟨B, 0, none⟩) (len + n) c', w.setRow B arr', Env.le_ext hM.none (.inr ⟨_, _, hr⟩), .slice _ _ _ _ _ _ (cap + y - (len + n)) _ (Env.ext_same _ _ _) (by simp; omega), ?_, fun ts t1 t2 ty e2 a1 a2 a3 a4 => ?_⟩
            · refine hkill.new (.row (old ++ new) true i.size) B _ (.cells arr' t (0, 0)) ht rfl rfl rfl (by simp) (fun k hk _ => by simp [World.setRow, Array.getElem?_modify, Ne.symm hk]) hrow hRB (fun j d u hj hd hrj => ?_) (hM.zsep b _ B y hb (by simp) hr) ⟨?_, ?_, rfl⟩
              · simp only [ht1] at hj
                by_cases ej : j = b
                · rw [if_pos ej] at hj; exact hd (Option.some.inj hj).symm
                · rw [if_neg ej] at hj
                  exact ej (hM.inj j b d _ B u y hj hd hb (by simp) hrj hr)
              · have hl := (hrold.append hv).length
                have : arr'.toList.take (old ++ new).length = arr.toList.take (len * i.size) ++ vs := by
                  rw [hl]; exact List.take_left (l₁ := arr.toList.take (len * i.size) ++ vs)
                rw [this]
                exact (hrold.append hv).sub (Env.sub_ext hM.none)
              · have hl := (hrold.append hv).length
                have h1 : (arr.toList.take (len * i.size)).length = len * i.size := by simp; omega
                have h2 : arr'.size = arr.size := by simp [arr']; omega
                have h3 : (old ++ new).length = (len + n) * i.size := by
                  rw [hl, List.length_append, h1, ← hvl, hnl, Nat.add_mul]
                rw [h2, h3, hsa']
                simp only [if_true]
                rw [← Nat.add_mul]
                congr 1
                omega
            · have hfc' := hfc w.drawn
              simp [Builtin.append_, a1, a2, run_und a3, run_und a4, run_szOf hsz, hlen, hfit, hfc', addr_add]
              have : (Go.storeCells ⟨B, len * i.size, none⟩ vs).run P w = .ok () (w.setRow B arr') := hrun
              simp [this]
          · -- anew
            have holds : ∀ k, (Builtin.firstCells i.size len (.slice (some ⟨B, 0, none⟩) len c')).run P { w with drawn := k } = .ok (arr.toList.take (len * i.size)).toArray { w with drawn := k } := fun k => by
              have := run_cells (P := P) (w := { w with drawn := k }) (B := B) (o := 0) (n := len * i.size) ho (by omega)
              simpa [Builtin.firstCells] using this
            obtain ⟨u, rest, hrs, hrun⟩ := run_grow (P := P) (w := w) (e := e) (base := some ⟨B, 0, none⟩) (sLen := len) (sCap := c') (n := n) (news := vs) hi hz hlen holds hfc (by omega) h63 hby
            refine ⟨ρ.ext M.nx (w.heap.size, u), _, _, hM.le_push _, .slice _ _ _ _ _ _ u (len + n + u) (Env.ext_same _ _ _) (by simp), ?_, hrun⟩
            have hl := (hrold.append hv).length
            refine row_new (M := ⟨t1, M.nx⟩) hkill.drew u _ e ht ?_ ?_
            · have : ((arr.toList.take (len * i.size)).toArray ++ vs.toArray ++ rest).toList.take (old ++ new).length = arr.toList.take (len * i.size) ++ vs := by
                rw [hl]; exact take_rows _ _ _
              rw [this]; exact hrold.append hv
            · have hl' : (old ++ new).length = (arr.toList.take (len * i.size)).length + vs.length := by rw [hl]; simp
              rw [hl']
              simp [hrs, hzs]
    · -- within the capacity
      have hle' : len + n ≤ cap := nble_le hle
      obtain ⟨M', h, H⟩ := storeCells_sound (P := P) h
      refine ⟨_, _, h, fun w0 R ρ w cs cx hM hs hx => ?_⟩
      obtain ⟨hnl, hlen, vs, hv, hfc⟩ := Hx w0 R ρ w cx hM hx
      cases hs with
      | slice _ _ _ _ _ B y c' hr hc =>
        obtain ⟨w', hM', hrun⟩ := H w0 R ρ w B y vs hM hr hv
        refine ⟨ρ, .slice (some ⟨B, o, none⟩) (len + n) c', w', .refl _, .slice _ _ _ _ _ B y _ hr hc, hM', fun ts t1 t2 ty e2 a1 a2 a3 a4 => ?_⟩
        have hfit : len + n ≤ c' := by omega
        have hfc' := hfc w.drawn
        have hrun' : (Go.storeCells ⟨B, o + len * sz, none⟩ vs).run P w = .ok () w' := hrun
        simp [Builtin.append_, a1, a2, run_und a3, run_und a4, run_szOf hsz, hlen, hfit, hfc', addr_add, hrun']
  · exact absurd h (by simp)
end Go.Eng

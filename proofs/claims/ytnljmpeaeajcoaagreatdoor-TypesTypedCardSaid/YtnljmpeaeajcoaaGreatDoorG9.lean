/- A part of the proof over this seat's program: the checked evaluator and its soundness (E..), and what it gives here (the others). No condition. -/
import Derived.Test.YtnljmpeaeajcoaaGreatDoorG8
import Derived.Laws.Append
import Derived.Laws.MakeOwn
import Derived.Laws.RangeString
import Derived.MapKept
set_option linter.unusedSectionVars false
namespace Go.Eng
open Go
variable [Mode]

theorem newB_sound {b : Blk} {M : Mem} {K : Nat → Mem → Bool} (h : newB b M K = true) : ∃ t', K M.nx ⟨t', M.nx + 1⟩ = true ∧ ∀ k, t'.get k = if k = M.nx then some b else M.t.get k := by
  unfold newB at h
  obtain ⟨t', h, ht⟩ := T.set_spec _ _ _ _ h
  rw [fN_eq] at h
  exact ⟨t', h, ht⟩
theorem setB_sound {i : Nat} {b : Blk} {M : Mem} {K : Mem → Bool} (h : setB i b M K = true) : ∃ t', K ⟨t', M.nx⟩ = true ∧ ∀ k, t'.get k = if k = i then some b else M.t.get k := by
  unfold setB at h
  exact T.set_spec _ _ _ _ h

theorem allSc_iff {l : List AV} (h : allSc l = true) {ρ : Env} {vs : List Value} (hr : VsRel ρ l vs) : ∀ v ∈ vs, v.oneCell' = true := by
  induction l generalizing vs with
  | nil => cases hr; simp
  | cons a l ih =>
    change Bool.rec (motive := fun _ => Bool) false (allSc l) (isSc a) = true at h
    rw [brec_false] at h
    cases hr with
    | cons _ v _ vs hv hs =>
      intro x hx
      rcases List.mem_cons.1 hx with rfl | hx
      · cases hv <;> first | rfl | (rename_i hd; cases hd <;> rfl) | (exact absurd h.1 (by simp [isSc]))
      · exact ih h.2 hs x hx

/-- what an operation on memory comes to: a value, or nothing -/
def RunSim (P : Program) (s : (Operand → Value) → Sem Next) (ops : Array Operand) (fr : Fr) (M : Mem) (v : AV) (M' : Mem) : Prop :=
  ∀ w0 R ρ (vals : Operand → Value) w, MRel w0 R ρ M w → (∀ x ∈ ops, RelX ρ fr x (vals x)) →
    ∃ ρ' cv w', ρ.le ρ' ∧ VRel ρ' v cv ∧ MRel w0 R ρ' M' w' ∧ ((s vals).run P w = .ok (.value cv) w' ∨ (cv = Go.undef ∧ (s vals).run P w = .ok .skip w'))

/-! a new row -/
theorem row_new {w0 : World} {R : Nat → Prop} {ρ : Env} {M : Mem} {w : World} {t' : T Blk} {c : List AV} {op : Bool} {sz : Nat} (h : MRel w0 R ρ M w) (x : Nat) (arr : Array Value) (t : TypeId)
    (ht : ∀ k, t'.get k = if k = M.nx then some (.row c op sz) else M.t.get k) (hv : VsRel ρ c (arr.toList.take c.length)) (hs : arr.size = c.length + (if op then x * sz else 0)) :
    MRel w0 R (ρ.ext M.nx (w.heap.size, x)) ⟨t', M.nx + 1⟩ { w with heap := w.heap.push (.cells arr t) } :=
  h.push _ x _ ht ⟨hv.sub (Env.sub_ext h.none), hs, rfl⟩

theorem alloc_sound {P : Program} {t : TypeId} {fr : Fr} {M : Mem} {K : AV → Mem → Bool} (h : (zeroK P t fun z => newB (.row (cellsA z) false 1) M fun r M => K (.ptr r 0) M) = true) :
    ∃ v M', K v M' = true ∧ ∀ dst ty pos aft gd, RunSim P (fun vals => execOp vals ⟨dst, .alloc t, ty, pos, aft, gd⟩) #[] fr M v M' := by
  obtain ⟨z, i, zv, h, hi, hz, hr⟩ := zeroK_sound h
  obtain ⟨t', h, ht⟩ := newB_sound h
  refine ⟨_, _, h, fun dst ty pos aft gd w0 R ρ vals w hM hx => ?_⟩
  have hc := (hr ρ).cells
  refine ⟨ρ.ext M.nx (w.heap.size, 0), .pointer (some ⟨w.heap.size, 0, none⟩), { w with heap := w.heap.push (.cells zv.cells t) }, hM.le_push _, .ptr _ _ _ 0 (Env.ext_same _ _ _), ?_, .inl ?_⟩
  · refine row_new hM 0 zv.cells t ht ?_ ?_
    · rw [hc.length, List.take_length]; exact hc
    · have := hc.length; simp at this; simp [this]
  · simp [execOp, Instr.alloc, zeroValue, run_tinfo hi, hz, newVar, newRow]

theorem box_sound {P : Program} {t : TypeId} {x : Operand} {fr : Fr} {M : Mem} {K : AV → Mem → Bool} (h : (ev fr x fun z => newB (.row (cellsA z) false 1) M fun r M => K (.ptr r 0) M) = true) :
    ∃ v M', K v M' = true ∧ ∀ dst ty pos aft gd, RunSim P (fun vals => execOp vals ⟨dst, .box t x, ty, pos, aft, gd⟩) #[x] fr M v M' := by
  rw [ev_iff] at h
  obtain ⟨a, ha, h⟩ := h
  obtain ⟨t', h, ht⟩ := newB_sound h
  refine ⟨_, _, h, fun dst ty pos aft gd w0 R ρ vals w hM hx => ?_⟩
  have hc := (hx x (by simp) a ha).cells
  refine ⟨ρ.ext M.nx (w.heap.size, 0), .pointer (some ⟨w.heap.size, 0, none⟩), { w with heap := w.heap.push (.cells (vals x).cells t) }, hM.le_push _, .ptr _ _ _ 0 (Env.ext_same _ _ _), ?_, .inl ?_⟩
  · refine row_new hM 0 (vals x).cells t ht ?_ ?_
    · rw [hc.length, List.take_length]; exact hc
    · have := hc.length; simp at this; simp [this]
  · simp [execOp, Instr.box, newVar, newRow]

/-! stores -/
theorem take_seg {α : Type} (A cs : List α) (o k n : Nat) (hk : cs.length = k) (h1 : o + k ≤ n) (h2 : n ≤ A.length) :
    (A.take (o + 0) ++ cs ++ A.drop (o + 0 + cs.length)).take n = (A.take n).take o ++ (cs ++ (A.take n).drop (o + k)) := by
  subst hk
  simp only [Nat.add_zero, List.append_assoc]
  rw [List.take_append, List.take_append, List.take_take, List.take_take, List.drop_take]
  have e1 : (A.take o).length = o := by simp; omega
  rw [e1, Nat.min_eq_right (by omega), Nat.min_eq_left (by omega), List.take_of_length_le (l := cs) (by omega), Nat.sub_sub]
theorem storeCells_sound {P : Program} {b o : Nat} {vs : List AV} {M : Mem} {K : Mem → Bool} (h : storeCells b o vs M K = true) :
    ∃ M', K M' = true ∧ ∀ w0 R ρ w B x (cs : List Value), MRel w0 R ρ M w → ρ b = some (B, x) → VsRel ρ vs cs → ∃ w', MRel w0 R ρ M' w' ∧ (Go.storeCells ⟨B, o, none⟩ cs).run P w = .ok () w' := by
  unfold storeCells at h
  split at h
  · rename_i c op sz hb
    rw [brec_false] at h
    obtain ⟨hsc, h⟩ := h
    rw [putK_iff] at h
    obtain ⟨hle, h⟩ := h
    obtain ⟨t', h, ht⟩ := setB_sound h
    refine ⟨_, h, fun w0 R ρ w B x cs hM hr hv => ?_⟩
    obtain ⟨arr, t, ho, hc, hs⟩ := hM.row hb hr
    have hl := hv.length
    have hrun := run_storeCells_at P B o t cs 0 arr w ho (by omega) (allSc_iff hsc hv)
    refine ⟨_, ?_, hrun⟩
    have hrow : (w.setRow B (arr.toList.take (o + 0) ++ cs ++ arr.toList.drop (o + 0 + cs.length)).toArray).heap[B]? = some (.cells (arr.toList.take (o + 0) ++ cs ++ arr.toList.drop (o + 0 + cs.length)).toArray t (0, 0)) := by
      simp [World.setRow, Array.getElem?_modify, ho]
    refine hM.set hb (by simp) hr (.row (c.take o ++ (vs ++ c.drop (o + vs.length))) op sz) _ ht rfl rfl rfl (by simp) (fun k hk _ => ?_) hrow ⟨?_, ?_, rfl⟩
    · simp [World.setRow, Array.getElem?_modify, Ne.symm hk]
    · have e : ((arr.toList.take (o + 0) ++ cs ++ arr.toList.drop (o + 0 + cs.length)).toArray).toList.take (c.take o ++ (vs ++ c.drop (o + vs.length))).length = (arr.toList.take c.length).take o ++ (cs ++ (arr.toList.take c.length).drop (o + vs.length)) := by
        have h1 : (c.take o ++ (vs ++ c.drop (o + vs.length))).length = c.length := by simp; omega
        rw [h1]
        exact take_seg arr.toList cs o vs.length c.length hl.symm (by omega) (by simp; omega)
      rw [e]
      exact (hc.take o).append (hv.append (hc.drop _))
    · have h1 : (c.take o ++ (vs ++ c.drop (o + vs.length))).length = c.length := by simp; omega
      rw [h1, ← hs]
      simp
      omega
  · exact absurd h (by simp)

theorem store_sound {P : Program} {t : TypeId} {a x : Operand} {fr : Fr} {M : Mem} {K : AV → Mem → Bool} (h : (ev fr a fun a => (match a with
    | .ptr b o => ev fr x fun v => Bool.rec (motive := fun _ => Bool) false (storeCells b o (cellsA v) M fun M => K .undef M)
        (match szOf P t with | some sz => Nat.beq (lenL (cellsA v)) sz | none => false)
    | _ => false)) = true) :
    ∃ v M', K v M' = true ∧ ∀ dst ty pos aft gd, RunSim P (fun vals => execOp vals ⟨dst, .store t a x, ty, pos, aft, gd⟩) #[a, x] fr M v M' := by
  rw [ev_iff] at h
  obtain ⟨p, hp, h⟩ := h
  split at h
  · rename_i b o
    rw [ev_iff] at h
    obtain ⟨v, hv, h⟩ := h
    rw [brec_false] at h
    obtain ⟨hsz, h⟩ := h
    obtain ⟨M', h, H⟩ := storeCells_sound (P := P) h
    refine ⟨_, _, h, fun dst ty pos aft gd w0 R ρ vals w hM hx => ?_⟩
    have ha := hx a (by simp) _ hp
    have hc := (hx x (by simp) _ hv).cells
    have hl := hc.length
    generalize hva : vals a = va at ha
    cases ha with
    | ptr _ _ B y hr =>
      obtain ⟨w', hM', hrun⟩ := H w0 R ρ w B y _ hM hr hc
      refine ⟨ρ, Go.undef, w', .refl _, .undef, hM', .inr ⟨rfl, ?_⟩⟩
      split at hsz
      · rename_i sz hs
        have e : (vals x).cells.size = sz := by
          have := Nat.eq_of_beq_eq_true hsz
          rw [lenL_eq] at this
          simp at hl
          omega
        simp [execOp, Instr.storeAt, Instr.sureAddr, storeVar, hva, run_szOf hs, e, hrun]
      · exact absurd hsz (by simp)
  · exact absurd h (by simp)

/-! a slice literal -/
theorem range_rep (z : Array Value) : ∀ n, ((Array.range (n * z.size)).map (z[· % z.size]!)).toList = (List.replicate n z.toList).flatten := by
  intro n
  simp only [Array.toList_map, Array.toList_range]
  induction n with
  | zero => simp
  | succ n ih =>
    rw [List.replicate_succ', List.flatten_append, ← ih, Nat.succ_mul, List.range_add, List.map_append]
    congr 1
    simp only [List.flatten_cons, List.flatten_nil, List.append_nil, List.map_map]
    apply List.ext_getElem?
    intro j
    by_cases hj : j < z.size
    · have : (n * z.size + j) % z.size = j := by rw [Nat.add_comm, Nat.add_mul_mod_self_right, Nat.mod_eq_of_lt hj]
      simp [hj, Function.comp, this]
    · rw [List.getElem?_eq_none (by simp; omega), List.getElem?_eq_none (by simp; omega)]

theorem elemOk_spec {P : Program} {e : TypeId} (h : elemOk P e = true) : ∃ i z, P.info? e = some i ∧ i.zero = some z ∧ z.cells.size = i.size ∧ szOf P e = some i.size := by
  unfold elemOk at h
  split at h
  · rename_i i hi
    split at h
    · rename_i z hz
      exact ⟨i, z, hi, hz, Nat.eq_of_beq_eq_true h, by simp [szOf, hi]⟩
    · exact absurd h (by simp)
  · exact absurd h (by simp)

theorem buildCells_sound {P : Program} {t : TypeId} {len : Nat} {parts : Array (Nat × Operand)} {fr : Fr} {K : List AV → Nat → Bool} (h : buildCells P t len parts.toList fr K = true) :
    ∃ c sz, K c sz = true ∧ ∀ dst ty pos aft gd ρ (vals : Operand → Value) w, (∀ x ∈ (Op.buildSlice t len parts).operands, RelX ρ fr x (vals x)) → ∃ (cs' : Array Value) (e : TypeId), VsRel ρ c cs'.toList ∧
      (execOp vals ⟨dst, .buildSlice t len parts, ty, pos, aft, gd⟩).run P w = .ok (.value (.slice (some ⟨w.heap.size, 0, none⟩) len len)) { w with heap := w.heap.push (.cells cs' e) } := by
  unfold buildCells at h
  split at h
  · rename_i e hu
    split at h
    · rename_i sz hsz
      rw [brec_false] at h
      obtain ⟨hsm, h⟩ := h
      obtain ⟨z, i, zv, h, hi, hz, hr⟩ := zeroK_sound h
      rw [brec_false] at h
      obtain ⟨hok, h⟩ := h
      rw [repK_iff] at h
      obtain ⟨ps, h, Hps⟩ := evParts_sound h
      obtain ⟨c, hK, Hc⟩ := fillK_sound ps _ _ h
      clear h
      obtain ⟨i', zv', hi', hz', hzs, hsz'⟩ := elemOk_spec hok
      rw [hi] at hi'
      obtain rfl := Option.some.inj hi'
      rw [hz] at hz'
      obtain rfl := Option.some.inj hz'
      rw [hsz] at hsz'
      obtain rfl := Option.some.inj hsz'
      refine ⟨_, _, hK, fun dst ty pos aft gd ρ vals w hx => ?_⟩
      have hsm' : ¬ (len * i.size > 2 ^ 24) := by have := nble_le hsm; change len * i.size ≤ _ at this; omega
      -- the zeros
      let zs : Array Value := (Array.range (len * i.size)).map ((if len * i.size = 0 then #[] else zv.cells)[· % (if len * i.size = 0 then #[] else zv.cells).size]!)
      have hzsl : zs.toList = (List.replicate len zv.cells.toList).flatten := by
        by_cases h0 : len * i.size = 0
        · have hl : ((List.replicate len zv.cells.toList).flatten).length = 0 := by simp [hzs, h0]
          have : zs = #[] := by simp [zs, h0, Array.range_zero']
          rw [this, List.length_eq_zero_iff.1 hl]
        · have := range_rep zv.cells len
          rw [hzs] at this
          simp only [zs, h0, if_false, hzs]
          exact this
      have hrel : VsRel ρ ((List.replicate len (cellsA z)).flatten) zs.toList := by rw [hzsl]; exact (hr ρ).cells.replicate len
      obtain ⟨cs', hf, hcr⟩ := Hc ρ zs _ hrel (Hps ρ vals (fun p hp => hx p.2 (by simp only [Op.operands]; exact List.mem_toArray.2 (List.mem_map.2 ⟨p, hp, rfl⟩))))
      refine ⟨cs', e, hcr, ?_⟩
      have e2 : (parts.map fun x => (x.1, vals x.2)).toList = parts.toList.map fun p => (p.1, vals p.2) := by simp
      rw [← e2] at hf
      simp only [execOp, Sem.run_bind, Instr.buildSlice, run_und hu, Result.andThen_ok, run_szOf hsz, Sem.run_ite, hsm', if_false, Sem.run_pure]
      by_cases h0 : len * i.size = 0
      · simp only [zs, if_pos h0] at hf
        simp only [if_pos h0]
        change ((Sem.run P (match Instr.fill (fun j => some (Nat.mul j i.size, i.size)) (Array.map (fun x => (#[] : Array Value)[x % (#[] : Array Value).size]!) (Array.range (len * i.size))) (Array.map (fun x : Nat × Operand => (x.fst, vals x.snd)) parts).toList with
          | some cells => do
            let __do_lift ← newRow e cells
            pure (Value.slice (some __do_lift) len len)
          | _ => stuck "buildSlice: a part of the wrong size") w).andThen fun a w' => Result.ok (Next.value a) w') = _
        rw [hf]
        simp [newRow]
      · simp only [zs, if_neg h0] at hf
        simp only [if_neg h0, zeroValue, Sem.run_bind, run_tinfo hi, Result.andThen_ok, hz, Sem.run_pure]
        change ((Sem.run P (match Instr.fill (fun j => some (Nat.mul j i.size, i.size)) (Array.map (fun x => zv.cells[x % zv.cells.size]!) (Array.range (len * i.size))) (Array.map (fun x : Nat × Operand => (x.fst, vals x.snd)) parts).toList with
          | some cells => do
            let __do_lift ← newRow e cells
            pure (Value.slice (some __do_lift) len len)
          | _ => stuck "buildSlice: a part of the wrong size") w).andThen fun a w' => Result.ok (Next.value a) w') = _
        rw [hf]
        simp [newRow]
    · exact absurd h (by simp)
  · exact absurd h (by simp)

theorem buildSlice_sound {P : Program} {t : TypeId} {len : Nat} {parts : Array (Nat × Operand)} {fr : Fr} {M : Mem} {K : AV → Mem → Bool} (h : (buildCells P t len parts.toList fr fun c sz => newB (.row c false sz) M fun r M => K (.slice r 0 len len false) M) = true) :
    ∃ v M', K v M' = true ∧ ∀ dst ty pos aft gd, RunSim P (fun vals => execOp vals ⟨dst, .buildSlice t len parts, ty, pos, aft, gd⟩) (Op.buildSlice t len parts).operands fr M v M' := by
  obtain ⟨c, sz, h, H⟩ := buildCells_sound h
  obtain ⟨t', hK, ht⟩ := newB_sound h
  refine ⟨_, _, hK, fun dst ty pos aft gd w0 R ρ vals w hM hx => ?_⟩
  obtain ⟨cs', e, hcr, hrun⟩ := H dst ty pos aft gd ρ vals w hx
  refine ⟨ρ.ext M.nx (w.heap.size, 0), .slice (some ⟨w.heap.size, 0, none⟩) len len, { w with heap := w.heap.push (.cells cs' e) }, hM.le_push _, .slice _ _ _ _ _ _ 0 _ (Env.ext_same _ _ _) (by simp), ?_, .inl hrun⟩
  refine row_new hM 0 cs' e ht ?_ ?_
  · rw [hcr.length, List.take_length]; exact hcr
  · have := hcr.length; simp at this; simp [this]

/-! what stands still from its making on -/
theorem datOf_rel {ρ : Env} {a : AV} {d : Dat} {v : Value} (h : datOf a = some d) (hv : VRel ρ a v) : DRel ρ.z d v := by
  cases hv <;> simp only [datOf] at h <;> first
    | (obtain rfl := Option.some.inj h; first | exact .bool _ | exact .int _ _ | exact .str _ | exact .nilPtr | exact .nilMap | exact .nilFunc | exact .nilIface | assumption)
    | cases h
theorem datsK_sound : ∀ {l : List AV} {K : List Dat → Bool}, datsK l K = true → ∃ ds, K ds = true ∧ ∀ ρ vs, VsRel ρ l vs → DsRel ρ.z ds vs := by
  intro l
  induction l with
  | nil => intro K h; exact ⟨[], h, fun ρ vs hv => by cases hv; exact .nil⟩
  | cons a l ih =>
    intro K h
    change (match datOf a with | some d => datsK l fun r => K (d :: r) | none => false) = true at h
    split at h
    · rename_i d hd
      obtain ⟨ds, hK, H⟩ := ih h
      exact ⟨d :: ds, hK, fun ρ vs hv => by cases hv with | cons _ v _ vs e es => exact .cons _ _ _ _ (datOf_rel hd e) (H ρ vs es)⟩
    · exact absurd h (by simp)
theorem DsRel.drop {Z : Still} {as : List Dat} {vs : List Value} (h : DsRel Z as vs) : ∀ n, DsRel Z (as.drop n) (vs.drop n) := by
  induction as generalizing vs with
  | nil => cases h; intro n; simp; exact .nil
  | cons a as ih =>
    cases h with
    | cons _ v _ vs h hs =>
      intro n
      cases n with
      | zero => exact .cons _ _ _ _ h hs
      | succ n => exact ih hs n
theorem DsRel.take {Z : Still} {as : List Dat} {vs : List Value} (h : DsRel Z as vs) : ∀ n, DsRel Z (as.take n) (vs.take n) := by
  induction as generalizing vs with
  | nil => cases h; intro n; simp; exact .nil
  | cons a as ih =>
    cases h with
    | cons _ v _ vs h hs =>
      intro n
      cases n with
      | zero => exact .nil
      | succ n => exact .cons _ _ _ _ h (ih hs n)
def Env.still (ρ : Env) (B : Nat) (l : List Value) : Env := { ρ with z := fun C => if C = B then some l else ρ.z C }
theorem MRel.pushStill {w0 : World} {R : Nat → Prop} {ρ : Env} {M : Mem} {w : World} (h : MRel w0 R ρ M w) (arr : Array Value) (e : TypeId) :
    ρ.le (ρ.still w.heap.size arr.toList) ∧ MRel w0 R (ρ.still w.heap.size arr.toList) M { w with heap := w.heap.push (.cells arr e) } := by
  have hle : ρ.le (ρ.still w.heap.size arr.toList) := by
    refine ⟨fun _ _ h => h, fun B l e => ?_, rfl, fun B l e => ?_, fun i p e => .inr ⟨i, p.2, e⟩⟩
    · show (if B = w.heap.size then _ else _) = _
      by_cases hB : B = w.heap.size
      · subst hB; rw [h.still] at e; cases e
      · rw [if_neg hB]; exact e
    · change (if B = w.heap.size then _ else _) = _ at e
      by_cases hB : B = w.heap.size
      · exact .inr (.inl (by rw [hB]; exact h.base))
      · rw [if_neg hB] at e; exact .inl e
  have hold : ∀ k, k < w.heap.size → (w.heap.push (.cells arr e))[k]? = w.heap[k]? := fun k hk => by simp [Array.getElem?_push, Nat.ne_of_lt hk]
  refine ⟨hle, h.os, h.tape, h.output, Nat.le_trans h.size (by simp), fun b hb => ?_, h.rlt, fun i b hi hd => ?_, fun i j b c B x y hi hd hj he e1 e2 => h.inj i j b c B x y hi hd hj he e1 e2, h.fresh, fun B l e => ?_, fun i b B x hi hd e => ?_, Nat.le_trans h.base (by simp)⟩
  · rw [hold b (Nat.lt_of_lt_of_le (h.rlt b hb) h.size)]; exact h.keep b hb
  · obtain ⟨B, x, o, hr, hR, ho, hO⟩ := h.blk i b hi hd
    exact ⟨B, x, o, hr, hR, by rw [hold B (Array.getElem?_eq_some_iff.1 ho).1]; exact ho, hO.mono hle⟩
  · change (if B = w.heap.size then _ else _) = _ at e
    by_cases hB : B = w.heap.size
    · rw [if_pos hB] at e
      obtain rfl := Option.some.inj e
      subst hB
      exact ⟨arr, _, (0, 0), by simp; rfl, List.take_length⟩
    · rw [if_neg hB] at e
      obtain ⟨arr', t, fz, ho, hl⟩ := h.zok B l e
      exact ⟨arr', t, fz, by rw [hold B (Array.getElem?_eq_some_iff.1 ho).1]; exact ho, hl⟩
  · have hlt := h.lt hi hd e
    show (if B = w.heap.size then _ else _) = _
    rw [if_neg (by omega)]
    exact h.zsep i b B x hi hd e
theorem chunkN_get {α : Type} {sz : Nat} : ∀ (n : Nat) (l : List α) (i : Nat), i < n → (chunkN sz n l).getD i [] = (l.drop (i * sz)).take sz := by
  intro n
  induction n with
  | zero => intro l i h; exact absurd h (Nat.not_lt_zero _)
  | succ n ih =>
    intro l i hi
    change (l.take sz :: chunkN sz n (l.drop sz)).getD i [] = _
    cases i with
    | zero => simp
    | succ i =>
      rw [List.getD_cons_succ, ih _ _ (by omega), List.drop_drop, Nat.succ_mul, Nat.add_comm]
theorem stillK_sound {P : Program} {o : Oper} {fr : Fr} {K : AV → Bool} (h : stillK P o.op fr K = true) :
    ∃ v, K v = true ∧ ∀ M, RunSim P (fun vals => execOp vals o) o.op.operands fr M v M := by
  obtain ⟨dst, op, ty, pos, aft, gd⟩ := o
  unfold stillK at h
  split at h
  · rename_i t len parts hop
    simp only at hop
    subst hop
    obtain ⟨c, sz, h, H⟩ := buildCells_sound h
    obtain ⟨ds, h, Hd⟩ := datsK_sound h
    rw [brec_false] at h
    obtain ⟨hlen, hK⟩ := h
    have hlen' : ds.length = len * sz := by have := Nat.eq_of_beq_eq_true hlen; rwa [lenL_eq] at this
    refine ⟨_, hK, fun M w0 R ρ vals w hM hx => ?_⟩
    obtain ⟨cs', e, hcr, hrun⟩ := H dst ty pos aft gd ρ vals w hx
    obtain ⟨hle, hM'⟩ := hM.pushStill cs' e
    have hds := (Hd ρ _ hcr).mono hle.z
    refine ⟨_, .slice (some ⟨w.heap.size, 0, none⟩) len len, _, hle, .dslice _ _ _ _ (.slice len sz _ w.heap.size 0 len cs'.toList ?_ (Nat.le_refl _) ?_ fun i hi => ?_), hM', .inl hrun⟩
    · show (if w.heap.size = w.heap.size then _ else _) = _
      rw [if_pos rfl]
    · rw [← hds.length]; omega
    · rw [Nat.zero_add]
      rw [chunkN_get len ds i hi]
      exact (hds.drop _).take _
  · exact absurd h (by simp)
end Go.Eng

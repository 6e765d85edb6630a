/- A part of the proof over this seat's program: the checked evaluator and its soundness (E..), and what it gives here (the others). No condition. -/
import Derived.Test.YtnljmpeaeajcoaaGreatDoorG12
set_option linter.unusedSectionVars false
namespace Go.Eng
open Go
variable [Mode]

/-- what a call of a function comes to -/
def CSim (P : Program) (f : FuncId) (args : List AV) (M : Mem) (v : AV) (M' : Mem) : Prop :=
  ∀ w0 R ρ w (cargs : Array Value), MRel w0 R ρ M w → VsRel ρ args cargs.toList →
    (∃ ρ' cv w', ρ.le ρ' ∧ VRel ρ' v cv ∧ MRel w0 R ρ' M' w' ∧ (callFunc f cargs).run P w = .ok (.value cv) w') ∨
    ((callFunc f cargs).run P w = .ok (.enter f cargs) w ∧ Calls P f cargs w fun e w' => ∃ ρ' cv, ρ.le ρ' ∧ e = .returned cv ∧ VRel ρ' v cv ∧ MRel w0 R ρ' M' w')

/-- what an operation on memory comes to, in the walk's words -/
def StateSim (P : Program) (o : Oper) (fr : Fr) (M : Mem) (v : AV) (M' : Mem) : Prop :=
  ∀ w0 R ρ (a : Act) w, MRel w0 R ρ M w → (∀ x ∈ o.op.operands, RelX ρ fr x (a.eval x)) → ∀ (next : Act → World → Prop) (Q : Exit → Act → World → Prop),
    (∀ ρ' cv w', ρ.le ρ' → VRel ρ' v cv → MRel w0 R ρ' M' w' → next (a.put o.dst cv) w') → o.wp P a w next Q

theorem StateSim.of_run {P : Program} {o : Oper} {fr : Fr} {M M' : Mem} {v : AV} (h : RunSim P (fun vals => execOp vals o) o.op.operands fr M v M') : StateSim P o fr M v M' := by
  intro w0 R ρ a w hM hx next Q hn
  obtain ⟨ρ', cv, w', hle, hv, hM', hr⟩ := h w0 R ρ a.eval w hM hx
  have := hn ρ' cv w' hle hv hM'
  unfold Oper.wp
  rcases hr with hr | ⟨rfl, hr⟩
  · rw [hr]; exact this
  · rw [hr]; exact this

theorem StateSim.of_pure {P : Program} {o : Oper} {fr : Fr} {M : Mem} {v : AV} (h : PureSim P o fr v) : StateSim P o fr M v M := by
  intro w0 R ρ a w hM hx next Q hn
  obtain ⟨cv, hv, hr⟩ := h ρ a.eval hx
  unfold Oper.wp
  rw [hr w]
  exact hn ρ cv w (.refl _) hv hM

theorem StateSim.of_call {P : Program} {dst : Option Tmp} {c : Call} {ty : TypeId} {pos : String} {aft : Array Edge} {gd : Option (Nat × Bool)} {fr : Fr} {M M' : Mem} {v : AV} {g : Operand} {f : FuncId} {first cap args : List AV}
    (hc : c.callee = .value g) (hg : evD fr g = some (.func (.func f) first cap)) (ha : c.args.toList.mapM (evD fr) = some args) (h : CSim P f (first ++ (args ++ cap)) M v M') :
    StateSim P ⟨dst, .call c, ty, pos, aft, gd⟩ fr M v M' := by
  intro w0 R ρ a w hM hx next Q hn
  have hfv := hx g (by simp [Op.operands, Call.operands, hc]) _ hg
  have hargs := relXsA (vals := a.eval) (l := c.args) (fun x hm => hx x (by simp [Op.operands, Call.operands, hm])) ha
  generalize hge : a.eval g = gv at hfv
  cases hfv with
  | func _ _ _ vs ws hvs hws =>
    have hall : VsRel ρ (first ++ (args ++ cap)) ((vs ++ c.args.map a.eval) ++ ws).toList := by
      rw [Array.toList_append, Array.toList_append, List.append_assoc]
      exact hvs.append (hargs.append hws)
    have hrun : (execOp a.eval ⟨dst, .call c, ty, pos, aft, gd⟩).run P w = (callFunc f ((vs ++ c.args.map a.eval) ++ ws)).run P w := by
      simp [execOp, resolve, hc, hge, Deferred.ofValue, invoke]
    unfold Oper.wp
    rw [hrun]
    rcases h w0 R ρ w _ hM hall with ⟨ρ', cv, w', hle, hv, hM', hr⟩ | ⟨hr, hcalls⟩
    · rw [hr]
      exact hn ρ' cv w' hle hv hM'
    · rw [hr]
      refine Calls.mono hcalls ?_
      rintro e w' ⟨ρ', cv, hle, rfl, hv, hM'⟩
      exact hn ρ' cv w' hle hv hM'

theorem undAt_spec {P : Program} {ts : Array TypeId} {i : Nat} {d : TypeDesc} (h : undAt P ts i = some d) : ∃ t, ts[i]? = some t ∧ P.underlying t = some d := by
  unfold undAt at h
  split at h
  · rename_i t ht; exact ⟨t, ht, h⟩
  · cases h

theorem opBuiltin_sound {P : Program} {b : Builtin} {c : Call} {fr : Fr} {M : Mem} {K : AV → Mem → Bool} {args : List AV} (hc : c.callee = .builtin b) (ha : c.args.toList.mapM (evD fr) = some args) (h : opBuiltin P b c.argTypes args M K = true) :
    ∃ v M', K v M' = true ∧ ∀ dst ty pos aft gd, StateSim P ⟨dst, .call c, ty, pos, aft, gd⟩ fr M v M' := by
  have hrun : ∀ (vals : Operand → Value) dst ty pos aft gd w, (execOp vals ⟨dst, .call c, ty, pos, aft, gd⟩).run P w = (builtin b c.argTypes ty (c.args.map fun | .const _ => true | _ => false) (c.args.map vals)).run P w := by
    intro vals dst ty pos aft gd w
    simp [execOp, resolve, hc, invoke]
    rfl
  unfold opBuiltin at h
  split at h
  · -- append
    split at h
    · rename_i s x
      split at h
      · rename_i e e2 h1 h2
        obtain ⟨v, M', hK, H⟩ := appendA_sound h
        refine ⟨v, M', hK, fun dst ty pos aft gd => .of_run fun w0 R ρ vals w hM hx => ?_⟩
        have hargs := relXsA (vals := vals) (l := c.args) (fun x hm => hx x (by simp [Op.operands, Call.operands, hm])) ha
        generalize hl : (c.args.map vals) = cargs at hargs
        obtain ⟨cl⟩ := cargs
        cases hargs with
        | cons _ cs _ _ hs hr =>
          cases hr with
          | cons _ cx _ _ hx' hr =>
            cases hr
            obtain ⟨ρ', cv, w', hle, hv, hM', hrun'⟩ := H w0 R ρ w cs cx hM hs hx'
            obtain ⟨t1, a1, a3⟩ := undAt_spec h1
            obtain ⟨t2, a2, a4⟩ := undAt_spec h2
            refine ⟨ρ', cv, w', hle, hv, hM', .inl ?_⟩
            rw [hrun, hl]
            simp [builtin, hrun' _ t1 t2 ty e2 a1 a2 a3 a4]
      · exact absurd h (by simp)
    · exact absurd h (by simp)
  · -- copy
    split at h
    · rename_i d x
      split at h
      · rename_i e h1
        obtain ⟨v, M', hK, H⟩ := copyA_sound (P := P) h
        refine ⟨v, M', hK, fun dst ty pos aft gd => .of_run fun w0 R ρ vals w hM hx => ?_⟩
        have hargs := relXsA (vals := vals) (l := c.args) (fun x hm => hx x (by simp [Op.operands, Call.operands, hm])) ha
        generalize hl : (c.args.map vals) = cargs at hargs
        obtain ⟨cl⟩ := cargs
        cases hargs with
        | cons _ cd _ _ hd hr =>
          cases hr with
          | cons _ cx _ _ hx' hr =>
            cases hr
            obtain ⟨cv, w', hv, hM', hrun'⟩ := H w0 R ρ w cd cx hM hd hx'
            obtain ⟨t1, a1, a3⟩ := undAt_spec h1
            refine ⟨ρ, cv, w', .refl _, hv, hM', .inl ?_⟩
            rw [hrun, hl]
            simp [builtin, hrun' _ t1 ty a1 a3]
      · exact absurd h (by simp)
    · exact absurd h (by simp)
  · -- len of a map
    split at h
    · rename_i b
      split at h
      · rename_i k e h1
        split at h
        · rename_i es hb
          rw [fN_eq] at h
          refine ⟨_, _, h, fun dst ty pos aft gd => .of_run fun w0 R ρ vals w hM hx => ?_⟩
          have hargs := relXsA (vals := vals) (l := c.args) (fun x hm => hx x (by simp [Op.operands, Call.operands, hm])) ha
          generalize hl : (c.args.map vals) = cargs at hargs
          obtain ⟨cl⟩ := cargs
          cases hargs with
          | cons _ cm _ _ hm hr =>
            cases hr
            cases hm with
            | map _ B x hr =>
              obtain ⟨ces, clock, ho, hes⟩ := hM.mapBlk hb hr
              obtain ⟨t1, a1, a3⟩ := undAt_spec h1
              have hlen : lenL es = ces.size := by rw [lenL_eq, hes.length]; simp
              refine ⟨ρ, .int .i64 (lenL es), w, .refl _, .int _ _, hM, .inl ?_⟩
              rw [hrun, hl]
              simp [builtin, Builtin.len_, a1, run_und a3, run_getObjM ho, goInt, ← hlen]
        · exact absurd h (by simp)
      · exact absurd h (by simp)
    · exact absurd h (by simp)
  · exact absurd h (by simp)

theorem makeSlice_sound {P : Program} {t : TypeId} {l c : Operand} {fr : Fr} {M : Mem} {K : AV → Mem → Bool} (h : (match P.underlying t with
    | some (.slice e) => (match P.info? e with
      | some i => ev fr l fun l => natOf l fun l => ev fr c fun c => natOf c fun c => Bool.rec (motive := fun _ => Bool) false (Bool.rec (motive := fun _ => Bool) false
        (zeroK P e fun z => Bool.rec (motive := fun _ => Bool) false (repK (cellsA z) c fun cs => newB (.row cs false i.size) M fun r M => K (.slice r 0 l c false) M) (elemOk P e))
        (Bool.rec (motive := fun _ => Bool) false (smallOk P e c) (Nat.ble c 9223372036854775807))) (Nat.ble l c)
      | none => false)
    | _ => false) = true) :
    ∃ v M', K v M' = true ∧ ∀ dst ty pos aft gd, RunSim P (fun vals => execOp vals ⟨dst, .makeSlice t l c, ty, pos, aft, gd⟩) #[l, c] fr M v M' := by
  split at h
  · rename_i e hu
    split at h
    · rename_i i hi
      rw [ev_iff] at h
      obtain ⟨al, hal, h⟩ := h
      replace h := natOf_iff h
      obtain ⟨kl, nl, rfl, h⟩ := h
      rw [ev_iff] at h
      obtain ⟨ac, hac, h⟩ := h
      replace h := natOf_iff h
      obtain ⟨kc, nc, rfl, h⟩ := h
      rw [brec_false] at h
      obtain ⟨hlc, h⟩ := h
      rw [brec_false] at h
      obtain ⟨hsm, h⟩ := h
      rw [brec_false] at hsm
      obtain ⟨h63, hsm⟩ := hsm
      have h63 := nble_le h63
      have hlc := nble_le hlc
      obtain ⟨z, i', zv, h, hi', hz, hzr⟩ := zeroK_sound h
      rw [hi] at hi'
      obtain rfl := Option.some.inj hi'
      rw [brec_false] at h
      obtain ⟨hok, h⟩ := h
      rw [repK_iff] at h
      obtain ⟨t', h, ht⟩ := newB_sound h
      refine ⟨_, _, h, fun dst ty pos aft gd w0 R ρ vals w hM hx => ?_⟩
      obtain ⟨i2, z2, hi2, hz2, hzs, _⟩ := elemOk_spec hok
      rw [hi] at hi2
      obtain rfl := Option.some.inj hi2
      rw [hz] at hz2
      obtain rfl := Option.some.inj hz2
      obtain ⟨i3, hi3, hb⟩ := smallOk_spec hsm
      rw [hi] at hi3
      obtain rfl := Option.some.inj hi3
      have hvl := hx l (by simp) _ hal
      have hvc := hx c (by simp) _ hac
      generalize hle : vals l = vl at hvl
      generalize hce : vals c = vc at hvc
      cases hvl
      cases hvc
      have hmk := run_make (P := P) w t e i zv hu hi hz kl kc (Int.ofNat nl) (Int.ofNat nc) (by show (0 : Int) ≤ (nl : Int); omega) (by show (nl : Int) ≤ (nc : Int); omega) (by
        have h1 : ((nc * i.bytes : Nat) : Int) ≤ ((140737488355328 : Nat) : Int) := Int.ofNat_le.2 hb
        rw [Int.natCast_mul] at h1
        rw [Int.mul_comm]
        show (nc : Int) * (i.bytes : Int) ≤ 281474976710656
        omega) (by show (nc : Int) ≤ _; omega)
      have hzl : (madeCells zv.cells (nc * i.size)).toList = (List.replicate nc zv.cells.toList).flatten := by
        have := range_rep zv.cells nc
        unfold madeCells
        rw [← hzs]
        exact this
      have hrel : VsRel ρ ((List.replicate nc (cellsA z)).flatten) (madeCells zv.cells (nc * i.size)).toList := by rw [hzl]; exact (hzr ρ).cells.replicate nc
      refine ⟨ρ.ext M.nx (w.heap.size, 0), .slice (some ⟨w.heap.size, 0, none⟩) nl nc, { w with heap := w.heap.push (.cells (madeCells zv.cells (nc * i.size)) e) }, hM.le_push _, .slice _ _ _ _ _ _ 0 _ (Env.ext_same _ _ _) (by simp), ?_, .inl ?_⟩
      · refine row_new hM 0 _ e ht ?_ ?_
        · rw [hrel.length, List.take_length]; exact hrel
        · have := hrel.length; simp only [Array.length_toList] at this; simp [this]
      · simp only [execOp, Sem.run_bind, hle, hce, hmk, Result.andThen_ok, Sem.run_pure]
        rfl
    · exact absurd h (by simp)
  · exact absurd h (by simp)

theorem opState_sound {P : Program} {call : FuncId → List AV → Mem → (AV → Mem → Bool) → Bool} (hcall : ∀ f args M K, call f args M K = true → ∃ v M', K v M' = true ∧ CSim P f args M v M')
    {o : Oper} {fr : Fr} {M : Mem} {K : AV → Mem → Bool} (h : opState P call o.op fr M K = true) : ∃ v M', K v M' = true ∧ StateSim P o fr M v M' := by
  obtain ⟨dst, op, type, pos, after, guard⟩ := o
  cases op <;> simp only [opState] at h <;> try (exact Bool.noConfusion h)
  case alloc t =>
    obtain ⟨v, M', hK, H⟩ := alloc_sound h
    exact ⟨v, M', hK, .of_run (H _ _ _ _ _)⟩
  case box t x =>
    obtain ⟨v, M', hK, H⟩ := box_sound h
    exact ⟨v, M', hK, .of_run (H _ _ _ _ _)⟩
  case buildSlice t len parts =>
    rw [brec_tt] at h
    rcases h with ⟨_, h⟩ | ⟨_, h⟩
    · obtain ⟨v, M', hK, H⟩ := buildSlice_sound h
      exact ⟨v, M', hK, .of_run (H _ _ _ _ _)⟩
    · obtain ⟨v, hK, H⟩ := stillK_sound (o := ⟨dst, .buildSlice t len parts, type, pos, after, guard⟩) h
      exact ⟨v, M, hK, .of_run (H M)⟩
  case insert t m k x =>
    rw [ev_iff] at h
    obtain ⟨am, ham, h⟩ := h
    rw [ev_iff] at h
    obtain ⟨ak, hak, h⟩ := h
    rw [ev_iff] at h
    obtain ⟨ax, hax, h⟩ := h
    obtain ⟨M', hK, H⟩ := mapUpdA_sound h
    refine ⟨_, M', hK, .of_run fun w0 R ρ vals w hM hx => ?_⟩
    obtain ⟨w', hM', hrun⟩ := H w0 R ρ w _ _ _ hM (hx m (by simp [Op.operands]) _ ham) (hx k (by simp [Op.operands]) _ hak) (hx x (by simp [Op.operands]) _ hax)
    exact ⟨ρ, Go.undef, w', .refl _, .undef, hM', .inr ⟨rfl, by simp [execOp, hrun]⟩⟩
  case mapUpdate t m k x =>
    rw [ev_iff] at h
    obtain ⟨am, ham, h⟩ := h
    rw [ev_iff] at h
    obtain ⟨ak, hak, h⟩ := h
    rw [ev_iff] at h
    obtain ⟨ax, hax, h⟩ := h
    obtain ⟨M', hK, H⟩ := mapUpdA_sound h
    refine ⟨_, M', hK, .of_run fun w0 R ρ vals w hM hx => ?_⟩
    obtain ⟨w', hM', hrun⟩ := H w0 R ρ w _ _ _ hM (hx m (by simp [Op.operands]) _ ham) (hx k (by simp [Op.operands]) _ hak) (hx x (by simp [Op.operands]) _ hax)
    exact ⟨ρ, Go.undef, w', .refl _, .undef, hM', .inr ⟨rfl, by simp [execOp, hrun]⟩⟩
  case store t a x =>
    obtain ⟨v, M', hK, H⟩ := store_sound h
    exact ⟨v, M', hK, .of_run (H _ _ _ _ _)⟩
  case convert s d x =>
    rw [ev_iff] at h
    obtain ⟨a, ha, h⟩ := h
    obtain ⟨v, hK, H⟩ := convMem_sound (P := P) h
    refine ⟨v, M, hK, .of_run fun w0 R ρ vals w hM hx => ?_⟩
    obtain ⟨cv, hv, hrun⟩ := H w0 R ρ w _ hM (hx x (by simp [Op.operands]) _ ha)
    exact ⟨ρ, cv, w, .refl _, hv, hM, .inl (by simp [execOp, hrun])⟩
  case makeMap t r =>
    split at h
    · obtain ⟨t', h, ht⟩ := newB_sound h
      refine ⟨_, _, h, .of_run fun w0 R ρ vals w hM hx => ?_⟩
      refine ⟨ρ.ext M.nx (w.heap.size, 0), .map (some w.heap.size), { w with heap := w.heap.push (.map #[] 0) }, hM.le_push _, .map _ _ 0 (Env.ext_same _ _ _), hM.push _ 0 _ ht .nil, .inl ?_⟩
      simp [execOp, Instr.makeMap]
    · exact absurd h (by simp)
  case makeSlice t l c =>
    obtain ⟨v, M', hK, H⟩ := makeSlice_sound h
    exact ⟨v, M', hK, .of_run (H _ _ _ _ _)⟩
  case lookup t x ix ok =>
    rw [ev_iff] at h
    obtain ⟨am, ham, h⟩ := h
    rw [ev_iff] at h
    obtain ⟨ak, hak, h⟩ := h
    obtain ⟨v, hK, H⟩ := lookupA_sound h
    refine ⟨v, M, hK, .of_run fun w0 R ρ vals w hM hx => ?_⟩
    obtain ⟨cv, hv, hrun⟩ := H w0 R ρ w _ _ hM (hx x (by simp [Op.operands]) _ ham) (hx ix (by simp [Op.operands]) _ hak)
    exact ⟨ρ, cv, w, .refl _, hv, hM, .inl (by simp [execOp, hrun])⟩
  case range t x =>
    rw [ev_iff] at h
    obtain ⟨a, ha, h⟩ := h
    split at h
    · rename_i l c hu
      obtain ⟨t', h, ht⟩ := newB_sound h
      refine ⟨_, _, h, .of_run fun w0 R ρ vals w hM hx => ?_⟩
      have hv := hx x (by simp [Op.operands]) _ ha
      generalize hxe : vals x = xv at hv
      cases hv with
      | str s =>
        refine ⟨ρ.ext M.nx (w.heap.size, 0), .pointer (some ⟨w.heap.size, 0, none⟩), { w with heap := w.heap.push (.stringIter ⟨⟨s⟩⟩ 0) }, hM.le_push _, .ptr _ _ _ 0 (Env.ext_same _ _ _), hM.push _ 0 _ ht ⟨rfl, rfl, rfl⟩, .inl ?_⟩
        simp [execOp, Instr.range, hxe, run_und hu]
    · exact absurd h (by simp)
  case next it s =>
    rw [ev_iff] at h
    obtain ⟨a, ha, h⟩ := h
    split at h
    · rename_i b o
      rw [brec_false, brec_false] at h
      obtain ⟨ho, hs, h⟩ := h
      have ho' : o = 0 := Nat.eq_of_beq_eq_true ho
      obtain ⟨v, M', hK, H⟩ := nextA_sound (P := P) h
      refine ⟨v, M', hK, .of_run fun w0 R ρ vals w hM hx => ?_⟩
      have hv := hx it (by simp [Op.operands]) _ ha
      generalize hxe : vals it = xv at hv
      cases hv with
      | ptr _ _ B x hr =>
        obtain ⟨cv, w', hv, hM', hrun⟩ := H w0 R ρ w B x type hM hr
        exact ⟨ρ, cv, w', .refl _, hv, hM', .inl (by simp [execOp, hxe, ho', hs, hrun])⟩
    · exact absurd h (by simp)
  case call c =>
    split at h
    · rename_i g hc
      rw [ev_iff] at h
      obtain ⟨f, hf, h⟩ := h
      rw [evs_iff] at h
      obtain ⟨args, ha, h⟩ := h
      unfold callV at h
      split at h
      · rename_i f first cap
        rw [appK_iff, appK_iff] at h
        obtain ⟨v, M', hK, H⟩ := hcall _ _ _ _ h
        exact ⟨v, M', hK, .of_call hc hf ha H⟩
      · exact absurd h (by simp)
    · rename_i b hc
      rw [evs_iff] at h
      obtain ⟨args, ha, h⟩ := h
      obtain ⟨v, M', hK, H⟩ := opBuiltin_sound hc ha h
      exact ⟨v, M', hK, H _ _ _ _ _⟩
    · exact absurd h (by simp)

theorem opK_sound {P : Program} {call : FuncId → List AV → Mem → (AV → Mem → Bool) → Bool} (hcall : ∀ f args M K, call f args M K = true → ∃ v M', K v M' = true ∧ CSim P f args M v M')
    {o : Oper} {fr : Fr} {M : Mem} {K : AV → Mem → Bool} (h : opK P call o.op fr M K = true) : ∃ v M', K v M' = true ∧ StateSim P o fr M v M' := by
  unfold opK at h
  split at h
  · obtain ⟨v, hK, H⟩ := opPure_sound h
    exact ⟨v, M, hK, .of_pure H⟩
  · split at h
    · rename_i t a hop
      rw [ev_iff] at h
      obtain ⟨p, hp, h⟩ := h
      obtain ⟨v, hK, H⟩ := loadA_sound h
      refine ⟨v, M, hK, .of_run fun w0 R ρ vals w hM hx => ?_⟩
      obtain ⟨cv, hv, hrun⟩ := H w0 R ρ w _ hM (hx a (by rw [hop]; simp [Op.operands]) _ hp)
      exact ⟨ρ, cv, w, .refl _, hv, hM, .inl (by simp [execOp, hop, hrun])⟩
    · exact absurd h (by simp)
  · exact opState_sound hcall h
end Go.Eng

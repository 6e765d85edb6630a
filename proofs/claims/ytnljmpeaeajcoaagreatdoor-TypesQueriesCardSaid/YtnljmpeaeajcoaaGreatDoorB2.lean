/- A part of the proof over this seat's program: the checked evaluator and its soundness, and what it gives here. No condition. -/
import Derived.Test.YtnljmpeaeajcoaaGreatDoorB1
import Derived.DataReads
import Derived.ChangeArms
import Derived.Deep.DeepHandedRow

set_option linter.all false

namespace Go.Proofs.YtnljmpeaeajcoaaGreatDoor
open Go Go.Eng Go.Vi Go.Knuth
local instance : Go.Eng.Mode := Sl
/-! the decoded query -/
theorem ok17 : FnOk Tryz.prog 17 Tryz.f17 := ⟨Tryz.func17, by kernel_rfl, by kernel_rfl⟩
noncomputable def c17 : Code := codeOf Tryz.f17
noncomputable def N17 : Nat := Tryz.f17.ntmps
noncomputable def zeroQ : List AV := [.int .i64 0, .nilSlice, .int .i64 0, strA [], .bool false, strA [], .bool false, strA [], .nilSlice]
noncomputable def eTd (l : List UInt8) (w v : Nat) (x : Ex) : FuncId × SEnt := (12, ⟨[codesA l, .int .i64 (.ofNat w), .int .i64 (.ofNat v)], [], exA x⟩)
noncomputable def sl17 (l : List UInt8) (t : Nat) : List (Nat × AV) := [(0, codesA l), (1, .int .u8 (.ofNat t)), (4, .ptr 0 0)]
noncomputable def vs17 (l : List UInt8) (t : Nat) : List (Option AV) := [some (codesA l), some (.int .u8 (.ofNat t)), some (.ptr 0 0)]
theorem start17 (l : List UInt8) (t : Nat) (I : IK) : Eng.execN Tryz.prog X0 [] 60 N17 1 c17 (mkFr (argSlots [codesA l, .int .u8 (.ofNat t)] 0)) (mkMem []) (fun o fr' M' => I o (lv [0, 1, 4] fr') (mv [0] M')) = I .normal (vs17 l t) [some (.row zeroQ false 1)] := by kernel_rfl
theorem rem17 (l : List UInt8) (t : Nat) (I : IK) : Eng.exec Tryz.prog X0 [] 60 N17 (lhs (lhs (post 1 c17))) (mkFr (sl17 l t)) (mkMem [.row zeroQ false 1]) (fun o fr' M' => I o (lv [0, 1, 4, 6] fr') (mv [0] M')) =
  I .normal [some (codesA l), some (.int .u8 (.ofNat t)), some (.ptr 0 0), some (.int .u8 (Int.tmod (.ofNat t) 3))] [some (.row zeroQ false 1)] := by kernel_rfl
noncomputable def blk17 (l : List UInt8) (t r : Nat) (x : Ex) (w v : Nat) (I : IK) : Bool := Eng.exec Tryz.prog X0 [eTd l w v x] 60 N17 (rhs (lhs (post 1 c17))) (mkFr (sl17 l t ++ [(6, .int .u8 (.ofNat r))])) (mkMem [.row zeroQ false 1]) (fun o fr' M' => I o (lv [0, 1, 4] fr') (mv [0, 1] M'))
theorem blk_1 (l : List UInt8) (t : Nat) (x : Ex) (I : IK) : blk17 l t 1 x 1 1 I = gD (eTd l 1 1 x) (I .ret (vs17 l t) [some (.row (.int .i64 2 :: .slice 1 0 1 1 false :: toAVs (exD x)) false 1), some (.row (toAVs (namesD [[97]])) false 1)]) := by kernel_rfl
theorem blk_2 (l : List UInt8) (t : Nat) (x : Ex) (I : IK) : blk17 l t 2 x 1 2 I = gD (eTd l 1 2 x) (I .ret (vs17 l t) [some (.row (.int .i64 3 :: .slice 1 0 2 2 false :: toAVs (exD x)) false 1), some (.row (toAVs (namesD [[97], [98]])) false 1)]) := by kernel_rfl
theorem blk_0 (l : List UInt8) (t : Nat) (x : Ex) (I : IK) : blk17 l t 0 x 1 2 I = I .normal (vs17 l t) [some (.row zeroQ false 1), none] := by kernel_rfl
noncomputable def sel17 (t : Nat) : Int := Int.add 1 (Int.tmod (IntKind.i64.wrap (.ofNat t)) 8)
theorem last17 (l : List UInt8) (t : Nat) (x : Ex) (I : AV → List (Option Blk) → Bool) : Eng.exec Tryz.prog X0 [eTd l (1 + t % 8) 0 x] 60 N17 (rhs (post 1 c17)) (mkFr (sl17 l t)) (mkMem [.row zeroQ false 1]) (fun o fr M => endK o (resK Tryz.prog fr M Tryz.f17.results.toList fun vs => I (oneOf vs) (mv [] M))) =
  gB (inI64 (sel17 t)) (gateP ([codesA l, .int .i64 (sel17 t), .int .i64 0] = (eTd l (1 + t % 8) 0 x).2.args) (I (.agg (.int .i64 1 :: .nilSlice :: toAVs (exD x))) [])) := by kernel_rfl
theorem part48 (a b c d e f g h i : AV) (K : AV → Bool) : partK Tryz.prog 48 [a, b, c, d, e, f, g, h, i] 0 K = K (.agg [a, b, c, d, e, f, g, h, i]) := by kernel_rfl
theorem res17 : Tryz.f17.results.toList = [.cell 4 48] := by kernel_rfl
theorem fzas_same {k : Nat} {M : Mem} : ∀ ds : List Dat, FzAs k M (toAVs ds) (toAVs ds)
  | [] => .nil
  | d :: ds => .cons _ _ _ _ (.plain d) (fzas_same ds)
theorem fz_names {M : Mem} {b : Nat} {V : List (List UInt8)} (hb : M.t.get b = some (.row (toAVs (namesD V)) false 1)) : FzA 0 M (.slice b 0 V.length V.length false) (nmsA V) := by
  refine .dat _ (nmsD V) (.slice b 0 _ _ false _ false 1 1 _ (Nat.zero_le _) hb (Nat.le_refl _) (by rw [toAVs_length, namesD_len]; omega) fun i hi => ?_)
  have := names_el V [] i hi
  rw [List.append_nil] at this
  rw [this]
  exact FzDs.sames _
theorem fin17 {k : Int} {b : Nat} {V : List (List UInt8)} {x : Ex} {fr : Fr} {M : Mem} (hl : fr.get 4 = some (.ptr 0 0)) (h0 : M.t.get 0 = some (.row (.int .i64 k :: .slice b 0 V.length V.length false :: toAVs (exD x)) false 1)) (hb : M.t.get b = some (.row (toAVs (namesD V)) false 1)) :
    FinEx Tryz.prog Tryz.f17 0 [] (fun a => a = qA k V x) .ret fr M := by
  refine ⟨qA k V x, rfl, .inr rfl, [.agg (.int .i64 k :: .slice b 0 V.length V.length false :: toAVs (exD x))], ?_, ?_, fun j r hj => by simp at hj⟩
  · rw [res17]
    show getT fr 4 (fun p => loadA Tryz.prog 48 p M fun v => pdec ([v] = _)) = true
    rw [getT_iff]
    refine ⟨_, hl, ?_⟩
    show (match M.t.get 0 with | some (.row c _ _) => partK Tryz.prog 48 c 0 _ | _ => false) = true
    rw [h0]
    exact (part48 _ _ _ _ _ _ _ _ _ _).trans (pdec_iff.2 rfl)
  · exact .agg _ _ (.cons _ _ _ _ (.plain (.int .i64 k)) (.cons _ _ _ _ (fz_names hb) (fzas_same _)))
theorem wrapI64 {t : Nat} (ht : t < 256) : IntKind.i64.wrap (.ofNat t) = .ofNat t := by
  have h : ((List.range 256).all fun t => ieq (IntKind.i64.wrap (.ofNat t)) (.ofNat t)) = true := by kernel_rfl
  have := List.all_eq_true.1 h t (List.mem_range.2 ht)
  rw [ieq_iff] at this
  simpa using this
theorem tm (t n : Nat) : Int.tmod (.ofNat t) (.ofNat n) = .ofNat (t % n) := rfl
theorem sel17_eq {t : Nat} (ht : t < 256) : sel17 t = .ofNat (1 + t % 8) := by
  unfold sel17
  rw [wrapI64 ht]
  rfl
theorem query_c (l : List UInt8) (t : Nat) (ht : t < 256) {w v : Nat} {x : Ex} (hx : BSim Tryz.prog 12 [codesA l, .int .i64 (.ofNat w), .int .i64 (.ofNat v)] [] [] (exA x)) (k : Nat) (V : List (List UInt8))
    (h : (t % 3 = 1 ∧ w = 1 ∧ v = 1 ∧ k = 2 ∧ V = [[97]]) ∨ (t % 3 = 2 ∧ w = 1 ∧ v = 2 ∧ k = 3 ∧ V = [[97], [98]]) ∨ (t % 3 = 0 ∧ w = 1 + t % 8 ∧ v = 0 ∧ k = 1 ∧ V = [])) :
    BSim Tryz.prog 17 [codesA l, .int .u8 (.ofNat t)] [] [] (qA (.ofNat k) V x) := by
  suffices hw : W Tryz.prog N17 0 c17 (mkFr (argSlots [codesA l, .int .u8 (.ofNat t)] 0)) (mkMem []) (FinEx Tryz.prog Tryz.f17 0 [] (fun a => a = qA (.ofNat k) V x)) by
    obtain ⟨_, rfl, hb⟩ := BSim.of_WEx (args0 := [codesA l, .int .u8 (.ofNat t)]) (rows0 := []) (rows1 := []) ok17 (by kernel_rfl) rfl hw
    exact hb
  refine W.runN hm hX0l (S := []) (fun _ h => by cases h) 60 1 _ [0] _ (start17 l t) (pdec_iff.2 fun fr M hl hM => ?_)
  show W Tryz.prog N17 0 (post 1 c17) fr M _
  refine W.next0 (vs := [codesA l, .int .u8 (.ofNat t), .ptr 0 0]) (bs := [.row zeroQ false 1]) (π := [0]) hl hM (sl17 l t) [.row zeroQ false 1] rfl rfl rfl (by decide) ?_
  refine W.parts (by kernel_rfl) (W.parts (by kernel_rfl) ?_)
  refine W.run hm hX0l (S := []) (fun _ h => by cases h) 60 _ [0] _ (rem17 l t) (pdec_iff.2 fun fr1 M1 hl1 hM1 => ?_)
  show W Tryz.prog N17 0 (rhs (lhs (post 1 c17))) fr1 M1 _
  have hr : Int.tmod (.ofNat t) 3 = .ofNat (t % 3) := rfl
  rw [hr] at hl1
  refine W.next0 (vs := [codesA l, .int .u8 (.ofNat t), .ptr 0 0, .int .u8 (.ofNat (t % 3))]) (bs := [.row zeroQ false 1]) (π := [0]) hl1 hM1 (sl17 l t ++ [(6, .int .u8 (.ofNat (t % 3)))]) [.row zeroQ false 1] rfl rfl rfl (by decide) ?_
  have g4 : ∀ {fr : Fr}, lv [0, 1, 4] fr = vs17 l t → fr.get 4 = some (.ptr 0 0) := fun {fr} h => by
    have h' : [fr.get 0, fr.get 1, fr.get 4] = vs17 l t := h
    unfold vs17 at h'
    simp only [List.cons.injEq] at h'
    exact h'.2.2.1
  rcases h with ⟨h3, rfl, rfl, rfl, rfl⟩ | ⟨h3, rfl, rfl, rfl, rfl⟩ | ⟨h3, rfl, rfl, rfl, rfl⟩
  · rw [h3]
    refine W.run hm hX0l (S := [eTd l 1 1 x]) (AllOk.mem ⟨hx.spec0 rfl, trivial⟩) 60 _ [0, 1] _ (blk_1 l t x) ?_
    rw [gD_iff]
    exact pdec_iff.2 fun fr2 M2 hl2 hM2 => fin17 (V := [[97]]) (g4 hl2) (mv_two hM2).1 (mv_two hM2).2
  · rw [h3]
    refine W.run hm hX0l (S := [eTd l 1 2 x]) (AllOk.mem ⟨hx.spec0 rfl, trivial⟩) 60 _ [0, 1] _ (blk_2 l t x) ?_
    rw [gD_iff]
    exact pdec_iff.2 fun fr2 M2 hl2 hM2 => fin17 (V := [[97], [98]]) (g4 hl2) (mv_two hM2).1 (mv_two hM2).2
  · rw [h3]
    have hrun : ∀ I : IK, Eng.exec Tryz.prog X0 [] 60 N17 (rhs (lhs (post 1 c17))) (mkFr (sl17 l t ++ [(6, .int .u8 (.ofNat 0))])) (mkMem [.row zeroQ false 1]) (fun o fr' M' => I o (lv [0, 1, 4] fr') (mv [0, 1] M')) = I .normal (vs17 l t) [some (.row zeroQ false 1), none] := fun I => by kernel_rfl
    refine W.run hm hX0l (S := []) (fun _ h => by cases h) 60 _ [0, 1] _ hrun (pdec_iff.2 fun fr2 M2 hl2 hM2 => ?_)
    show W Tryz.prog N17 0 (rhs (post 1 c17)) fr2 M2 _
    refine W.next0 (vs := [codesA l, .int .u8 (.ofNat t), .ptr 0 0]) (bs := [.row zeroQ false 1]) (π := [0]) hl2 (show [M2.t.get 0] = _ by rw [(mv_two hM2).1]; rfl) (sl17 l t) [.row zeroQ false 1] rfl rfl rfl (by decide) ?_
    refine W.finEx hm hX0l (S := [eTd l (1 + t % 8) 0 x]) (AllOk.mem ⟨hx.spec0 rfl, trivial⟩) 60 [] _ (last17 l t x) ?_
    rw [gB_iff, gateP_iff, sel17_eq ht]
    refine ⟨smallI _ (by omega), rfl, pdec_iff.2 ⟨_, rfl, Leaf.flat fun _ _ => ?_⟩⟩
    exact .agg _ _ (.cons _ _ _ _ (.plain (.int .i64 1)) (.cons _ _ _ _ (.dat _ (nmsD []) (.nil _ _)) (fzas_same _)))
end Go.Proofs.YtnljmpeaeajcoaaGreatDoor

namespace Go.Proofs.YtnljmpeaeajcoaaGreatDoor
open Go Go.Eng Go.Vi Go.Knuth
local instance : Go.Eng.Mode := Sl
/-! the variables of a decoded expression -/
def VOk (v : Nat) (g : Gen) : Prop := ∀ l, ∀ s ∈ vars (g l).1, ∃ i, i < v ∧ s = vname i
theorem vok_leaf {v : Nat} {o : Int} (ho : o ≠ 4) (n : List UInt8) (r : Rt) : ∀ s ∈ vars (.mk o n r []), ∃ i, i < v ∧ s = vname i := by
  intro s hs
  simp [vars, varsL, ho] at hs
theorem VOk.op1 {v : Nat} {o : Int} (ho : o ≠ 4) {f : Gen} (hf : VOk v f) : VOk v (op1 o f) := by
  intro l s hs
  simp only [Go.Proofs.YtnljmpeaeajcoaaGreatDoor.op1, vars, varsL, if_neg ho, List.nil_append, List.append_nil] at hs
  exact hf l s hs
theorem VOk.op2 {v : Nat} {o : Int} (ho : o ≠ 4) {f g : Gen} (hf : VOk v f) (hg : VOk v g) : VOk v (op2 o f g) := by
  intro l s hs
  simp only [Go.Proofs.YtnljmpeaeajcoaaGreatDoor.op2, vars, varsL, if_neg ho, List.nil_append, List.append_nil, List.mem_append] at hs
  rcases hs with hs | hs
  · exact hf l s hs
  · exact hg _ s hs
theorem VOk.op3 {v : Nat} {o : Int} (ho : o ≠ 4) {f g h : Gen} (hf : VOk v f) (hg : VOk v g) (hh : VOk v h) : VOk v (op3 o f g h) := by
  intro l s hs
  simp only [Go.Proofs.YtnljmpeaeajcoaaGreatDoor.op3, vars, varsL, if_neg ho, List.nil_append, List.append_nil, List.mem_append] at hs
  rcases hs with hs | hs | hs
  · exact hf l s hs
  · exact hg _ s hs
  · exact hh _ s hs
theorem vok_nu (v : Nat) : VOk v nu := fun l => vok_leaf (by decide) _ _
theorem vok_zn (v : Nat) : VOk v zn := fun l => vok_leaf (by decide) _ _
theorem vok_pt (v : Nat) : VOk v (pt v) := by
  intro l
  show ∀ s ∈ vars (exPoint v (nx 8 l).1), _
  generalize (nx 8 l).1 = k
  unfold exPoint
  split
  · rename_i h
    intro s hs
    have : s = vname (k % v) := by simpa [exVar, vars, varsL] using hs
    exact ⟨k % v, Nat.mod_lt _ h.1, this⟩
  · exact vok_leaf (by decide) _ _
theorem vok_plc {v : Nat} {T : Nat → Gen} (h : ∀ s, VOk v (T s)) : VOk v (plc T) := by
  intro l
  unfold plc
  split
  · exact h 7 _
  · exact h 3 _
theorem vok_amt {v : Nat} {T : Nat → Gen} (h : ∀ s, VOk v (T s)) : VOk v (amt T) := by
  intro l
  unfold amt
  split
  · exact h 6 _
  · exact vok_nu v _
theorem vok_dfn {v : Nat} {T : Nat → Gen} (h : ∀ s, VOk v (T s)) : VOk v (dfn T) := fun l => VOk.op1 (o := (11 : Int)) (by decide) (h _) _
theorem VOk.ite {v : Nat} {c : Prop} [Decidable c] {a b : Gen} (ha : VOk v a) (hb : VOk v b) : VOk v (if c then a else b) := by
  by_cases h : c
  · rw [if_pos h]; exact ha
  · rw [if_neg h]; exact hb
theorem vok_leafOf {v : Nat} {T : Nat → Gen} (h : ∀ s, VOk v (T s)) (t k : Nat) : VOk v (leafOf v T t k) := by
  unfold leafOf leaf4 leaf6 leaf5 leaf1
  repeat' apply VOk.ite
  all_goals first
    | exact vok_nu v
    | exact vok_zn v
    | exact vok_pt v
    | exact vok_dfn h
    | exact VOk.op1 (by decide) (h _)
    | exact VOk.op1 (by decide) (vok_pt v)
    | exact VOk.op2 (by decide) (h _) (h _)
    | exact VOk.op2 (by decide) (h _) (vok_nu v)
    | exact VOk.op2 (by decide) (vok_nu v) (h _)
    | exact VOk.op2 (by decide) (vok_nu v) (vok_nu v)
    | exact VOk.op2 (by decide) (h _) (vok_plc h)
    | exact VOk.op2 (by decide) (h _) (vok_amt h)
    | exact VOk.op3 (by decide) (vok_pt v) (vok_plc h) (vok_nu v)
theorem vok_typed (v : Nat) : ∀ L t, VOk v (typedM v L t) := by
  intro L
  induction L with
  | zero => intro t; exact vok_leafOf (fun _ => vok_nu v) t 0
  | succ L ih =>
    intro t l
    show ∀ s ∈ vars (if 2 ≤ L then leafOf v (typedM v L) t (nx 10 l).1 (nx 10 l).2 else leafOf v (typedM v L) t 0 l).1, _
    split
    · exact vok_leafOf ih t _ _
    · exact vok_leafOf ih t 0 l
theorem typed_vars {v t : Nat} (l : List UInt8) : ∀ s ∈ vars (typedEx v t l), ∃ i, i < v ∧ s = vname i := vok_typed v 5 t (l.take 24)
/-! the expressions are well formed -/
theorem tab1_ok : ∀ p ∈ tab1, 1 ≤ p.1 ∧ p.1 ≤ 30 ∧ 1 = nArgs p.1 := by decide
theorem tab2_ok : ∀ p ∈ tab2, 1 ≤ p.1 ∧ p.1 ≤ 30 ∧ 2 = nArgs p.1 := by decide
theorem tab3_ok : ∀ p ∈ tab3, 1 ≤ p.1 ∧ p.1 ≤ 30 ∧ 3 = nArgs p.1 := by decide
theorem wf0 {o : Nat} {n : List UInt8} {r : Rt} (h1 : 1 ≤ o) (h2 : o ≤ 30) (h : 0 = nArgs o) : WF (.mk (.ofNat o) n r []) := .mk o n r [] h1 h2 h (fun y hy => by cases hy)
theorem Typ.wf {x : Ex} {t : Nat} (h : Typ x t) : WF x := by
  induction h with
  | num k hk => exact wf0 (o := 1) (by decide) (by decide) (by decide)
  | obj n h1 h2 => exact wf0 (o := 3) (by decide) (by decide) (by decide)
  | var0 => exact wf0 (o := 4) (by decide) (by decide) (by decide)
  | var1 => exact wf0 (o := 4) (by decide) (by decide) (by decide)
  | zone j hj => exact wf0 (o := 5) (by decide) (by decide) (by decide)
  | pt j k hj hk =>
    refine .mk 2 [] Rt.zero [exNum j, exNum k] (by decide) (by decide) (show 2 = nArgs 2 by decide) fun y hy => ?_
    rcases List.mem_cons.1 hy with rfl | hy
    · exact wf0 (o := 1) (by decide) (by decide) (by decide)
    · obtain rfl := List.mem_singleton.1 hy
      exact wf0 (o := 1) (by decide) (by decide) (by decide)
  | n1 o s t h x hx ih =>
    obtain ⟨h1, h2, h3⟩ := tab1_ok _ h
    exact .mk o [] Rt.zero [x] h1 h2 h3 fun y hy => by obtain rfl := List.mem_singleton.1 hy; exact ih
  | n2 o s1 s2 t h x y hx hy ih1 ih2 =>
    obtain ⟨h1, h2, h3⟩ := tab2_ok _ h
    refine .mk o [] Rt.zero [x, y] h1 h2 h3 fun z hz => ?_
    rcases List.mem_cons.1 hz with rfl | hz
    · exact ih1
    · obtain rfl := List.mem_singleton.1 hz; exact ih2
  | n3 o s1 s2 s3 t h x y z hx hy hz ih1 ih2 ih3 =>
    obtain ⟨h1, h2, h3⟩ := tab3_ok _ h
    refine .mk o [] Rt.zero [x, y, z] h1 h2 h3 fun u hu => ?_
    rcases List.mem_cons.1 hu with rfl | hu
    · exact ih1
    rcases List.mem_cons.1 hu with rfl | hu
    · exact ih2
    · obtain rfl := List.mem_singleton.1 hu; exact ih3
/-! what syntax.Check answers for a decoded query -/
theorem check_decoded (l : List UInt8) (t : Nat) (ht : t < 256) : ∃ (k : Nat) (V : List (List UInt8)) (x : Ex) (w : Nat), BSim Tryz.prog 17 [codesA l, .int .u8 (.ofNat t)] [] [] (qA (.ofNat k) V x) ∧ BSim Tryz.prog 18 [qA (.ofNat k) V x] [] [] (.int .i64 0) ∧
    BSim Tryz.prog 14 [exA x] [] [] (.tuple [.int .i64 (.ofNat w), .int .i64 0]) ∧ ((k = 1 ∧ 1 ≤ w ∧ w ≤ 8) ∨ (k = 2 ∧ w = 1) ∨ (k = 3 ∧ w = 1)) := by
  have hk : 1 + t % 8 ∈ [1, 2, 3, 4, 5, 6, 7, 8] := by
    have : t % 8 = 0 ∨ t % 8 = 1 ∨ t % 8 = 2 ∨ t % 8 = 3 ∨ t % 8 = 4 ∨ t % 8 = 5 ∨ t % 8 = 6 ∨ t % 8 = 7 := by omega
    rcases this with h | h | h | h | h | h | h | h <;> rw [h] <;> decide
  have key : ∀ (v w k : Nat) (V : List (List UInt8)), v < 3 → w ∈ [1, 2, 3, 4, 5, 6, 7, 8] → 1 ≤ k → k ≤ 3 → (V.length : Int) = (.ofNat k : Int) - 1 → (∀ s ∈ V, ∃ i, s = vname i) → V.Nodup → (∀ i, i < v → vname i ∈ V) →
      BSim Tryz.prog 18 [qA (.ofNat k) V (typedEx v w l)] [] [] (.int .i64 0) ∧ BSim Tryz.prog 14 [exA (typedEx v w l)] [] [] (.tuple [.int .i64 (.ofNat w), .int .i64 0]) := by
    intro v w k V hv hw k1 k3 hV hn hd hin
    obtain ⟨hT, hs, hp⟩ := typed_ok hv hw l
    have hce := checkExpr_c hT.good (by omega) (by omega)
    obtain ⟨e, h1, _, h3⟩ := check18 (k := .ofNat k) (V := V) (x := typedEx v w l) (nb := fun _ => true) (ce := 0) (smallI k (by omega)) (fun s hs => by obtain ⟨i, rfl⟩ := hn s hs; exact isName_c i) hce (fun _ => hT.wf) (by omega)
    have he : e = 0 := h1 ⟨by show (1 : Int) ≤ (k : Int); omega, by show (k : Int) ≤ 3; omega, hV, fun _ _ => rfl, hd, rfl, fun s hs => by obtain ⟨i, hi, rfl⟩ := typed_vars l s hs; exact hin i hi⟩
    subst he
    exact ⟨h3, of_c hT.good (by omega) (by omega) hT.ty⟩
  have h3 : t % 3 = 0 ∨ t % 3 = 1 ∨ t % 3 = 2 := by omega
  rcases h3 with h3 | h3 | h3
  · have hx := Typed_c 0 (1 + t % 8) (by omega) hk l
    obtain ⟨c1, c2⟩ := key 0 (1 + t % 8) 1 [] (by omega) hk (by omega) (by omega) rfl (by simp) (by simp) (fun i hi => by omega)
    exact ⟨1, [], _, _, query_c l t ht hx 1 [] (.inr (.inr ⟨h3, rfl, rfl, rfl, rfl⟩)), c1, c2, .inl ⟨rfl, by omega, by omega⟩⟩
  · have hx := Typed_c 1 1 (by omega) (by decide) l
    obtain ⟨c1, c2⟩ := key 1 1 2 [[97]] (by omega) (by decide) (by omega) (by omega) rfl (fun s hs => ⟨0, by simpa [vname] using hs⟩) (by decide) (fun i hi => by obtain rfl : i = 0 := Nat.lt_one_iff.1 hi; exact List.mem_singleton.2 rfl)
    exact ⟨2, [[97]], _, _, query_c l t ht hx 2 [[97]] (.inl ⟨h3, rfl, rfl, rfl, rfl⟩), c1, c2, .inr (.inl ⟨rfl, rfl⟩)⟩
  · have hx := Typed_c 2 1 (by omega) (by decide) l
    obtain ⟨c1, c2⟩ := key 2 1 3 [[97], [98]] (by omega) (by decide) (by omega) (by omega) rfl (fun s hs => by
        rcases List.mem_cons.1 hs with rfl | hs
        · exact ⟨0, rfl⟩
        · obtain rfl := List.mem_singleton.1 hs; exact ⟨1, rfl⟩) (by decide) (fun i hi => by
        have : i = 0 ∨ i = 1 := by omega
        rcases this with rfl | rfl <;> decide)
    exact ⟨3, [[97], [98]], _, _, query_c l t ht hx 3 [[97], [98]] (.inr (.inl ⟨h3, rfl, rfl, rfl, rfl⟩)), c1, c2, .inr (.inr ⟨rfl, rfl⟩)⟩
end Go.Proofs.YtnljmpeaeajcoaaGreatDoor

namespace Go.Proofs.YtnljmpeaeajcoaaGreatDoor
open Go Go.Eng Go.Vi Go.Knuth
local instance : Go.Eng.Mode := Sl
/-! types.Of and types.Check -/
theorem ok16 : FnOk Tryz.prog 16 Tryz.f16 := ⟨Tryz.func16, by kernel_rfl, by kernel_rfl⟩
noncomputable def runS (f : Func) (S : List (FuncId × SEnt)) (args : List AV) (I : AV → List (Option Blk) → Bool) : Bool :=
  Eng.exec Tryz.prog X0 S 60 f.ntmps (codeOf f) (mkFr (argSlots args 0)) (mkMem []) (fun o fr M => endK o (resK Tryz.prog fr M f.results.toList fun vs => I (oneOf vs) (mv [] M)))
noncomputable def pairI (t e : Int) : AV := .tuple [.int .i64 t, .int .i64 e]
theorem pair_leaf (t e : Int) : pdec (Leaf 0 [] [] (pairI t e) (pairI t e) []) = true :=
  pdec_iff.2 (Leaf.flat fun _ _ => .tuple _ _ (.cons _ _ _ _ (.plain (.int .i64 t)) (.cons _ _ _ _ (.plain (.int .i64 e)) .nil)))
theorem of_bad_run (x : Ex) (n : Nat) (el : Nat → List Dat) (I) : runS Tryz.f14 [eCe x 0, e26 x 0 n el false] [exA x] I = gD (eCe x 0) (gD (e26 x 0 n el false) (I (pairI 0 14) [])) := by kernel_rfl
theorem of_good_run (x : Ex) (s : Nat) (I) : runS Tryz.f14 [eCe x 0, e26 x (s + 1) 0 el0 true] [exA x] I = gD (eCe x 0) (gD (e26 x (s + 1) 0 el0 true) (I (pairI (.ofNat (s + 1)) 0) [])) := by kernel_rfl
def errT2 (t : Nat) : Int := if t = 0 then 14 else 0
theorem of_any {x : Ex} {t : Nat} (hce : BSim Tryz.prog 24 [exA x] [] [] (.int .i64 0)) (h : TyR x t) : BSim Tryz.prog 14 [exA x] [] [] (pairI (.ofNat t) (errT2 t)) := by
  unfold TyR at h
  cases t with
  | zero =>
    rw [if_pos rfl] at h
    obtain ⟨n, el, _, _, h⟩ := h
    refine BSim.run hm hX0l (S := [eCe x 0, e26 x 0 n el false]) (AllOk.mem ⟨hce.spec0 rfl, h.spec0 rfl, trivial⟩) ok14 (by kernel_rfl) rfl 60 [] _ (of_bad_run x n el) ?_
    rw [gD_iff, gD_iff]
    exact pair_leaf 0 14
  | succ s =>
    rw [if_neg (by omega)] at h
    refine BSim.run hm hX0l (S := [eCe x 0, e26 x (s + 1) 0 el0 true]) (AllOk.mem ⟨hce.spec0 rfl, h.spec0 rfl, trivial⟩) ok14 (by kernel_rfl) rfl 60 [] _ (of_good_run x s) ?_
    rw [gD_iff, gD_iff]
    exact pair_leaf _ 0
noncomputable def c16 : Code := codeOf Tryz.f16
noncomputable def eCkQ (k : Int) (V : List (List UInt8)) (x : Ex) (e : Int) : FuncId × SEnt := (18, ⟨[qA k V x], [], .int .i64 e⟩)
noncomputable def eOf' (x : Ex) (t e : Int) : FuncId × SEnt := (14, ⟨[exA x], [], pairI t e⟩)
theorem early16 (k e : Int) (V : List (List UInt8)) (x : Ex) (I : IK) : Eng.execN Tryz.prog X0 [eCkQ k V x e] 60 Tryz.f16.ntmps 2 c16 (mkFr (argSlots [qA k V x] 0)) (mkMem []) (fun o fr' M' => I o (lv [2, 3] fr') (mv [] M')) =
  gD (eCkQ k V x e) (ifB (Bool.not (ieq e 0)) (I .ret [some (.int .i64 0), some (.int .i64 e)] []) (I .normal [some (.int .i64 0), some (.int .i64 0)] [])) := by kernel_rfl
noncomputable def two16 (k : Int) (V : List (List UInt8)) (x : Ex) (t e : Int) (b : Bool) : Bool := gD (eCkQ k V x 0) (gD (eOf' x t e) b)
theorem bad16 (k : Int) (V : List (List UInt8)) (x : Ex) (I) : runS Tryz.f16 [eCkQ k V x 0, eOf' x 0 14] [qA k V x] I = two16 k V x 0 14 (I (pairI 0 14) []) := by kernel_rfl
theorem val16 (V : List (List UInt8)) (x : Ex) (s : Nat) (I) : runS Tryz.f16 [eCkQ 1 V x 0, eOf' x (.ofNat (s + 1)) 0] [qA 1 V x] I = two16 1 V x (.ofNat (s + 1)) 0 (I (pairI (.ofNat (s + 1)) 0) []) := by kernel_rfl
theorem b2_16 (V : List (List UInt8)) (x : Ex) (I) : runS Tryz.f16 [eCkQ 2 V x 0, eOf' x (.ofNat 1) 0] [qA 2 V x] I = two16 2 V x (.ofNat 1) 0 (I (pairI (.ofNat 1) 0) []) := by kernel_rfl
theorem b3_16 (V : List (List UInt8)) (x : Ex) (I) : runS Tryz.f16 [eCkQ 3 V x 0, eOf' x (.ofNat 1) 0] [qA 3 V x] I = two16 3 V x (.ofNat 1) 0 (I (pairI (.ofNat 1) 0) []) := by kernel_rfl
theorem w2_16 (V : List (List UInt8)) (x : Ex) (s : Nat) (I) : runS Tryz.f16 [eCkQ 2 V x 0, eOf' x (.ofNat (s + 2)) 0] [qA 2 V x] I = two16 2 V x (.ofNat (s + 2)) 0 (I (pairI 0 14) []) := by kernel_rfl
theorem w3_16 (V : List (List UInt8)) (x : Ex) (s : Nat) (I) : runS Tryz.f16 [eCkQ 3 V x 0, eOf' x (.ofNat (s + 2)) 0] [qA 3 V x] I = two16 3 V x (.ofNat (s + 2)) 0 (I (pairI 0 14) []) := by kernel_rfl
theorem res16 : Tryz.f16.results.toList = [.tmp 2, .tmp 3] := by kernel_rfl
theorem check16_bad {k e : Int} {V : List (List UInt8)} {x : Ex} (he : e ≠ 0) (h : BSim Tryz.prog 18 [qA k V x] [] [] (.int .i64 e)) : BSim Tryz.prog 16 [qA k V x] [] [] (pairI 0 e) := by
  suffices hw : W Tryz.prog Tryz.f16.ntmps 0 c16 (mkFr (argSlots [qA k V x] 0)) (mkMem []) (FinEx Tryz.prog Tryz.f16 0 [] (fun a => a = pairI 0 e)) by
    obtain ⟨_, rfl, hb⟩ := BSim.of_WEx (args0 := [qA k V x]) (rows0 := []) (rows1 := []) ok16 (by kernel_rfl) rfl hw
    exact hb
  refine W.runN hm hX0l (S := [eCkQ k V x e]) (AllOk.mem ⟨h.spec0 rfl, trivial⟩) 60 2 _ [] _ (early16 k e V x) ?_
  rw [gD_iff, ifB_true (by rw [ieqf he]; rfl)]
  refine pdec_iff.2 fun fr M hl _ => ?_
  obtain ⟨h2, h3⟩ := two_of hl
  refine ⟨pairI 0 e, rfl, .inr rfl, [.int .i64 0, .int .i64 e], ?_, .tuple _ _ (.cons _ _ _ _ (.plain (.int .i64 0)) (.cons _ _ _ _ (.plain (.int .i64 e)) .nil)), fun j r hj => by simp at hj⟩
  rw [res16]
  show getT fr 2 (fun a => getT fr 3 fun b => pdec ([a, b] = _)) = true
  rw [getT_iff]
  refine ⟨_, h2, ?_⟩
  rw [getT_iff]
  exact ⟨_, h3, pdec_iff.2 rfl⟩
/-- what types.Check answers where syntax.Check says 0 -/
theorem check16_ok {k t : Nat} {V : List (List UInt8)} {x : Ex} (k1 : 1 ≤ k) (k3 : k ≤ 3) (h : BSim Tryz.prog 18 [qA (.ofNat k) V x] [] [] (.int .i64 0)) (ho : BSim Tryz.prog 14 [exA x] [] [] (pairI (.ofNat t) (errT2 t))) :
    BSim Tryz.prog 16 [qA (.ofNat k) V x] [] [] (if t = 0 ∨ (k ≠ 1 ∧ t ≠ 1) then pairI 0 14 else pairI (.ofNat t) 0) := by
  have run : ∀ {a b c d : Int}, BSim Tryz.prog 14 [exA x] [] [] (pairI a b) → (∀ I, runS Tryz.f16 [eCkQ (.ofNat k) V x 0, eOf' x a b] [qA (.ofNat k) V x] I = two16 (.ofNat k) V x a b (I (pairI c d) [])) → BSim Tryz.prog 16 [qA (.ofNat k) V x] [] [] (pairI c d) := by
    intro a b c d ho hr
    refine BSim.run hm hX0l (S := [eCkQ (.ofNat k) V x 0, eOf' x a b]) (AllOk.mem ⟨h.spec0 rfl, ho.spec0 rfl, trivial⟩) ok16 (by kernel_rfl) rfl 60 [] _ hr ?_
    unfold two16
    rw [gD_iff, gD_iff]
    exact pair_leaf c d
  have hk : k = 1 ∨ k = 2 ∨ k = 3 := by omega
  rcases t with _ | _ | s
  · rw [if_pos (.inl rfl)]
    exact run ho (bad16 _ V x)
  · rw [if_neg (by omega)]
    rcases hk with rfl | rfl | rfl
    · exact run ho (val16 V x 0)
    · exact run ho (b2_16 V x)
    · exact run ho (b3_16 V x)
  · rcases hk with rfl | rfl | rfl
    · rw [if_neg (by omega)]; exact run ho (val16 V x (s + 1))
    · rw [if_pos (by omega)]; exact run ho (w2_16 V x s)
    · rw [if_pos (by omega)]; exact run ho (w3_16 V x s)
end Go.Proofs.YtnljmpeaeajcoaaGreatDoor

namespace Go.Proofs.YtnljmpeaeajcoaaGreatDoor
open Go Go.Eng Go.Vi Go.Knuth
local instance : Go.Eng.Mode := Sl
/-! the law -/
theorem ok5' : FnOk Tryz.prog 5 Tryz.f5 := ⟨Tryz.func5, by kernel_rfl, by kernel_rfl⟩
noncomputable def c5 : Code := codeOf Tryz.f5
noncomputable def eKnw : FuncId × SEnt := (6, ⟨[], [], .bool true⟩)
noncomputable def eFew (x : Ex) (b : Bool) : FuncId × SEnt := (15, ⟨[exA x], [], .bool b⟩)
noncomputable def e16 (k : Int) (V : List (List UInt8)) (x : Ex) (t e : Int) : FuncId × SEnt := (16, ⟨[qA k V x], [], pairI t e⟩)
noncomputable def e17 (l : List UInt8) (c : Nat) (k : Int) (V : List (List UInt8)) (x : Ex) : FuncId × SEnt := (17, ⟨[codesA l, .int .u8 (.ofNat c)], [], qA k V x⟩)
noncomputable def a5 (k : Int) (V : List (List UInt8)) (x : Ex) (l : List UInt8) (c : Nat) : List AV := [qA k V x, codesA l, .int .u8 (.ofNat c)]
noncomputable def r5 (S : List (FuncId × SEnt)) (k : Int) (V : List (List UInt8)) (x : Ex) (l : List UInt8) (c : Nat) (I : AV → List (Option Blk) → Bool) : Bool := runS Tryz.f5 S (a5 k V x l c) I
noncomputable def s5 (n : Nat) (S : List (FuncId × SEnt)) (k : Int) (V : List (List UInt8)) (x : Ex) (l : List UInt8) (c : Nat) (I : IK) : Bool :=
  Eng.execN Tryz.prog X0 S 60 Tryz.f5.ntmps n c5 (mkFr (argSlots (a5 k V x l c) 0)) (mkMem []) (fun o fr' M' => I o (lv [6] fr') (mv [] M'))

theorem law_few (k : Int) (V : List (List UInt8)) (x : Ex) (l : List UInt8) (c : Nat) (I) : r5 [eKnw, eFew x false, eKnw] k V x l c I = gD eKnw (gD (eFew x false) (gD eKnw (I (.bool true) []))) := by kernel_rfl
theorem law_many (k : Int) (a b d e f : List UInt8) (V : List (List UInt8)) (x : Ex) (l : List UInt8) (c : Nat) (I) : r5 [eKnw, eFew x true, eKnw] k (a :: b :: d :: e :: f :: V) x l c I = gD eKnw (gD (eFew x true) (gD eKnw (I (.bool true) []))) := by kernel_rfl
theorem law_len0 (k : Int) (x : Ex) (l : List UInt8) (c : Nat) (I : IK) : s5 3 [eKnw, eFew x true] k [] x l c I = gD eKnw (gD (eFew x true) (I .normal [some (.bool false)] [])) := by kernel_rfl
theorem law_bad0 (k g : Int) (x x2 : Ex) (k2 : Int) (V2 : List (List UInt8)) (w : Int) (l : List UInt8) (c : Nat) (I : IK) : s5 7 [eKnw, eFew x true, e16 k [] x 0 g, e17 l c k2 V2 x2, e16 k2 V2 x2 w 0, eCkQ k [] x g] k [] x l c I = gD eKnw (gD (eFew x true) (gD (e16 k [] x 0 g) (gD (e17 l c k2 V2 x2) (gD (e16 k2 V2 x2 w 0) (gD (eCkQ k [] x g) (ifB (Bool.not (ieq g 0)) (ifB (ieq g g) (I .ret [some (.bool true)] []) (I .ret [some (.bool false)] [])) (I .normal [some (.bool false)] []))))))) := by kernel_rfl
theorem law_ok0_0 (x x2 : Ex) (k2 : Int) (V2 : List (List UInt8)) (w : Int) (l : List UInt8) (c : Nat) (n : Nat) (el : Nat → List Dat) (I) : r5 [eKnw, eFew x true, e16 1 [] x 0 14, e17 l c k2 V2 x2, e16 k2 V2 x2 w 0, eCkQ 1 [] x 0, e19 x 0 n el] 1 [] x l c I = gD eKnw (gD (eFew x true) (gD (e16 1 [] x 0 14) (gD (e17 l c k2 V2 x2) (gD (e16 k2 V2 x2 w 0) (gD (eCkQ 1 [] x 0) (gD (e19 x 0 n el) (I (.bool true) []))))))) := by kernel_rfl
theorem law_ok0_s (x x2 : Ex) (k2 : Int) (V2 : List (List UInt8)) (w : Int) (l : List UInt8) (c : Nat) (s : Nat) (I) : r5 [eKnw, eFew x true, e16 1 [] x (.ofNat (s + 1)) 0, e17 l c k2 V2 x2, e16 k2 V2 x2 w 0, eCkQ 1 [] x 0, e19 x (s + 1) 0 el0] 1 [] x l c I = gD eKnw (gD (eFew x true) (gD (e16 1 [] x (.ofNat (s + 1)) 0) (gD (e17 l c k2 V2 x2) (gD (e16 k2 V2 x2 w 0) (gD (eCkQ 1 [] x 0) (gD (e19 x (s + 1) 0 el0) (I (.bool (ieq (.ofNat (s + 1)) (.ofNat (s + 1)))) []))))))) := by kernel_rfl
theorem law_len1 (k : Int) (a : List UInt8) (x : Ex) (l : List UInt8) (c : Nat) (I : IK) : s5 3 [eKnw, eFew x true] k [a] x l c I = gD eKnw (gD (eFew x true) (ifB (ilt 60 (.ofNat a.length)) (I .ret [some (.bool true)] []) (I .normal [some (.bool false)] []))) := by kernel_rfl
theorem law_bad1 (k g : Int) (a : List UInt8) (x x2 : Ex) (k2 : Int) (V2 : List (List UInt8)) (w : Int) (l : List UInt8) (c : Nat) (I : IK) : s5 7 [eKnw, eFew x true, e16 k [a] x 0 g, e17 l c k2 V2 x2, e16 k2 V2 x2 w 0, eCkQ k [a] x g] k [a] x l c I = gD eKnw (gD (eFew x true) (ifB (ilt 60 (.ofNat a.length)) (I .ret [some (.bool true)] []) (gD (e16 k [a] x 0 g) (gD (e17 l c k2 V2 x2) (gD (e16 k2 V2 x2 w 0) (gD (eCkQ k [a] x g) (ifB (Bool.not (ieq g 0)) (ifB (ieq g g) (I .ret [some (.bool true)] []) (I .ret [some (.bool false)] [])) (I .normal [some (.bool false)] [])))))))) := by kernel_rfl
theorem law_ok1_0 (a : List UInt8) (x x2 : Ex) (k2 : Int) (V2 : List (List UInt8)) (w : Int) (l : List UInt8) (c : Nat) (n : Nat) (el : Nat → List Dat) (I) : r5 [eKnw, eFew x true, e16 2 [a] x 0 14, e17 l c k2 V2 x2, e16 k2 V2 x2 w 0, eCkQ 2 [a] x 0, e19 x 0 n el] 2 [a] x l c I = gD eKnw (gD (eFew x true) (ifB (ilt 60 (.ofNat a.length)) (I (.bool true) []) (gD (e16 2 [a] x 0 14) (gD (e17 l c k2 V2 x2) (gD (e16 k2 V2 x2 w 0) (gD (eCkQ 2 [a] x 0) (gD (e19 x 0 n el) (I (.bool true) [])))))))) := by kernel_rfl
theorem law_ok1_1 (a : List UInt8) (x x2 : Ex) (k2 : Int) (V2 : List (List UInt8)) (w : Int) (l : List UInt8) (c : Nat) (I) : r5 [eKnw, eFew x true, e16 2 [a] x (.ofNat 1) 0, e17 l c k2 V2 x2, e16 k2 V2 x2 w 0, eCkQ 2 [a] x 0, e19 x 1 0 el0] 2 [a] x l c I = gD eKnw (gD (eFew x true) (ifB (ilt 60 (.ofNat a.length)) (I (.bool true) []) (gD (e16 2 [a] x (.ofNat 1) 0) (gD (e17 l c k2 V2 x2) (gD (e16 k2 V2 x2 w 0) (gD (eCkQ 2 [a] x 0) (gD (e19 x 1 0 el0) (I (.bool true) [])))))))) := by kernel_rfl
theorem law_ok1_s (a : List UInt8) (x x2 : Ex) (k2 : Int) (V2 : List (List UInt8)) (w : Int) (l : List UInt8) (c : Nat) (s : Nat) (I) : r5 [eKnw, eFew x true, e16 2 [a] x 0 14, e17 l c k2 V2 x2, e16 k2 V2 x2 w 0, eCkQ 2 [a] x 0, e19 x (s + 2) 0 el0] 2 [a] x l c I = gD eKnw (gD (eFew x true) (ifB (ilt 60 (.ofNat a.length)) (I (.bool true) []) (gD (e16 2 [a] x 0 14) (gD (e17 l c k2 V2 x2) (gD (e16 k2 V2 x2 w 0) (gD (eCkQ 2 [a] x 0) (gD (e19 x (s + 2) 0 el0) (I (.bool true) [])))))))) := by kernel_rfl
theorem law_len2 (k : Int) (a b : List UInt8) (x : Ex) (l : List UInt8) (c : Nat) (I : IK) : s5 3 [eKnw, eFew x true] k [a, b] x l c I = gD eKnw (gD (eFew x true) (ifB (ilt 60 (.ofNat a.length)) (I .ret [some (.bool true)] []) (ifB (ilt 60 (.ofNat b.length)) (I .ret [some (.bool true)] []) (I .normal [some (.bool false)] [])))) := by kernel_rfl
theorem law_bad2 (k g : Int) (a b : List UInt8) (x x2 : Ex) (k2 : Int) (V2 : List (List UInt8)) (w : Int) (l : List UInt8) (c : Nat) (I : IK) : s5 7 [eKnw, eFew x true, e16 k [a, b] x 0 g, e17 l c k2 V2 x2, e16 k2 V2 x2 w 0, eCkQ k [a, b] x g] k [a, b] x l c I = gD eKnw (gD (eFew x true) (ifB (ilt 60 (.ofNat a.length)) (I .ret [some (.bool true)] []) (ifB (ilt 60 (.ofNat b.length)) (I .ret [some (.bool true)] []) (gD (e16 k [a, b] x 0 g) (gD (e17 l c k2 V2 x2) (gD (e16 k2 V2 x2 w 0) (gD (eCkQ k [a, b] x g) (ifB (Bool.not (ieq g 0)) (ifB (ieq g g) (I .ret [some (.bool true)] []) (I .ret [some (.bool false)] [])) (I .normal [some (.bool false)] []))))))))) := by kernel_rfl
theorem law_ok2_0 (a b : List UInt8) (x x2 : Ex) (k2 : Int) (V2 : List (List UInt8)) (w : Int) (l : List UInt8) (c : Nat) (n : Nat) (el : Nat → List Dat) (I) : r5 [eKnw, eFew x true, e16 3 [a, b] x 0 14, e17 l c k2 V2 x2, e16 k2 V2 x2 w 0, eCkQ 3 [a, b] x 0, e19 x 0 n el] 3 [a, b] x l c I = gD eKnw (gD (eFew x true) (ifB (ilt 60 (.ofNat a.length)) (I (.bool true) []) (ifB (ilt 60 (.ofNat b.length)) (I (.bool true) []) (gD (e16 3 [a, b] x 0 14) (gD (e17 l c k2 V2 x2) (gD (e16 k2 V2 x2 w 0) (gD (eCkQ 3 [a, b] x 0) (gD (e19 x 0 n el) (I (.bool true) []))))))))) := by kernel_rfl
theorem law_ok2_1 (a b : List UInt8) (x x2 : Ex) (k2 : Int) (V2 : List (List UInt8)) (w : Int) (l : List UInt8) (c : Nat) (I) : r5 [eKnw, eFew x true, e16 3 [a, b] x (.ofNat 1) 0, e17 l c k2 V2 x2, e16 k2 V2 x2 w 0, eCkQ 3 [a, b] x 0, e19 x 1 0 el0] 3 [a, b] x l c I = gD eKnw (gD (eFew x true) (ifB (ilt 60 (.ofNat a.length)) (I (.bool true) []) (ifB (ilt 60 (.ofNat b.length)) (I (.bool true) []) (gD (e16 3 [a, b] x (.ofNat 1) 0) (gD (e17 l c k2 V2 x2) (gD (e16 k2 V2 x2 w 0) (gD (eCkQ 3 [a, b] x 0) (gD (e19 x 1 0 el0) (I (.bool true) []))))))))) := by kernel_rfl
theorem law_ok2_s (a b : List UInt8) (x x2 : Ex) (k2 : Int) (V2 : List (List UInt8)) (w : Int) (l : List UInt8) (c : Nat) (s : Nat) (I) : r5 [eKnw, eFew x true, e16 3 [a, b] x 0 14, e17 l c k2 V2 x2, e16 k2 V2 x2 w 0, eCkQ 3 [a, b] x 0, e19 x (s + 2) 0 el0] 3 [a, b] x l c I = gD eKnw (gD (eFew x true) (ifB (ilt 60 (.ofNat a.length)) (I (.bool true) []) (ifB (ilt 60 (.ofNat b.length)) (I (.bool true) []) (gD (e16 3 [a, b] x 0 14) (gD (e17 l c k2 V2 x2) (gD (e16 k2 V2 x2 w 0) (gD (eCkQ 3 [a, b] x 0) (gD (e19 x (s + 2) 0 el0) (I (.bool true) []))))))))) := by kernel_rfl
theorem law_len3 (k : Int) (a b d : List UInt8) (x : Ex) (l : List UInt8) (c : Nat) (I : IK) : s5 3 [eKnw, eFew x true] k [a, b, d] x l c I = gD eKnw (gD (eFew x true) (ifB (ilt 60 (.ofNat a.length)) (I .ret [some (.bool true)] []) (ifB (ilt 60 (.ofNat b.length)) (I .ret [some (.bool true)] []) (ifB (ilt 60 (.ofNat d.length)) (I .ret [some (.bool true)] []) (I .normal [some (.bool false)] []))))) := by kernel_rfl
theorem law_bad3 (k g : Int) (a b d : List UInt8) (x x2 : Ex) (k2 : Int) (V2 : List (List UInt8)) (w : Int) (l : List UInt8) (c : Nat) (I : IK) : s5 7 [eKnw, eFew x true, e16 k [a, b, d] x 0 g, e17 l c k2 V2 x2, e16 k2 V2 x2 w 0, eCkQ k [a, b, d] x g] k [a, b, d] x l c I = gD eKnw (gD (eFew x true) (ifB (ilt 60 (.ofNat a.length)) (I .ret [some (.bool true)] []) (ifB (ilt 60 (.ofNat b.length)) (I .ret [some (.bool true)] []) (ifB (ilt 60 (.ofNat d.length)) (I .ret [some (.bool true)] []) (gD (e16 k [a, b, d] x 0 g) (gD (e17 l c k2 V2 x2) (gD (e16 k2 V2 x2 w 0) (gD (eCkQ k [a, b, d] x g) (ifB (Bool.not (ieq g 0)) (ifB (ieq g g) (I .ret [some (.bool true)] []) (I .ret [some (.bool false)] [])) (I .normal [some (.bool false)] [])))))))))) := by kernel_rfl
theorem law_len4 (k : Int) (a b d e : List UInt8) (x : Ex) (l : List UInt8) (c : Nat) (I : IK) : s5 3 [eKnw, eFew x true] k [a, b, d, e] x l c I = gD eKnw (gD (eFew x true) (ifB (ilt 60 (.ofNat a.length)) (I .ret [some (.bool true)] []) (ifB (ilt 60 (.ofNat b.length)) (I .ret [some (.bool true)] []) (ifB (ilt 60 (.ofNat d.length)) (I .ret [some (.bool true)] []) (ifB (ilt 60 (.ofNat e.length)) (I .ret [some (.bool true)] []) (I .normal [some (.bool false)] [])))))) := by kernel_rfl
theorem law_bad4 (k g : Int) (a b d e : List UInt8) (x x2 : Ex) (k2 : Int) (V2 : List (List UInt8)) (w : Int) (l : List UInt8) (c : Nat) (I : IK) : s5 7 [eKnw, eFew x true, e16 k [a, b, d, e] x 0 g, e17 l c k2 V2 x2, e16 k2 V2 x2 w 0, eCkQ k [a, b, d, e] x g] k [a, b, d, e] x l c I = gD eKnw (gD (eFew x true) (ifB (ilt 60 (.ofNat a.length)) (I .ret [some (.bool true)] []) (ifB (ilt 60 (.ofNat b.length)) (I .ret [some (.bool true)] []) (ifB (ilt 60 (.ofNat d.length)) (I .ret [some (.bool true)] []) (ifB (ilt 60 (.ofNat e.length)) (I .ret [some (.bool true)] []) (gD (e16 k [a, b, d, e] x 0 g) (gD (e17 l c k2 V2 x2) (gD (e16 k2 V2 x2 w 0) (gD (eCkQ k [a, b, d, e] x g) (ifB (Bool.not (ieq g 0)) (ifB (ieq g g) (I .ret [some (.bool true)] []) (I .ret [some (.bool false)] [])) (I .normal [some (.bool false)] []))))))))))) := by kernel_rfl
noncomputable def lenT (V : List (List UInt8)) (Y N : Bool) : Bool := List.rec (motive := fun _ => Bool) N (fun s _ r => ifB (ilt 60 (.ofNat s.length)) Y r) V
theorem lenT_true {Y N : Bool} (hY : Y = true) : ∀ {V : List (List UInt8)}, (∃ s ∈ V, 60 < s.length) → lenT V Y N = true
  | [], h => by obtain ⟨_, h, _⟩ := h; cases h
  | s :: V, h => by
    show ifB (ilt 60 (.ofNat s.length)) Y (lenT V Y N) = true
    by_cases h60 : 60 < s.length
    · rw [ifB_true (iltT (by simp only [Int.ofNat_eq_natCast]; omega))]; exact hY
    · rw [ifB_false (iltF (by simp only [Int.ofNat_eq_natCast]; omega))]
      obtain ⟨u, hu, hl⟩ := h
      rcases List.mem_cons.1 hu with rfl | hu
      · exact absurd hl h60
      · exact lenT_true hY ⟨u, hu, hl⟩
theorem lenT_false {Y N : Bool} : ∀ {V : List (List UInt8)}, (∀ s ∈ V, ¬ 60 < s.length) → lenT V Y N = N
  | [], _ => rfl
  | s :: V, h => by
    show ifB (ilt 60 (.ofNat s.length)) Y (lenT V Y N) = N
    have h60 := h s (by simp)
    rw [ifB_false (iltF (by simp only [Int.ofNat_eq_natCast]; omega))]
    exact lenT_false fun u hu => h u (by simp [hu])
theorem law_len {V : List (List UInt8)} (hV : V.length ≤ 4) (k : Int) (x : Ex) (l : List UInt8) (c : Nat) (I : IK) : s5 3 [eKnw, eFew x true] k V x l c I = gD eKnw (gD (eFew x true) (lenT V (I .ret [some (.bool true)] []) (I .normal [some (.bool false)] []))) := by
  rcases V with _ | ⟨a, _ | ⟨b, _ | ⟨d, _ | ⟨e, _ | ⟨f, V⟩⟩⟩⟩⟩
  · exact law_len0 k x l c I
  · exact law_len1 k a x l c I
  · exact law_len2 k a b x l c I
  · exact law_len3 k a b d x l c I
  · exact law_len4 k a b d e x l c I
  · simp at hV
noncomputable def calls5 (k : Int) (V : List (List UInt8)) (x x2 : Ex) (k2 : Int) (V2 : List (List UInt8)) (w : Int) (l : List UInt8) (c : Nat) (t e g : Int) (b : Bool) : Bool := gD (e16 k V x t e) (gD (e17 l c k2 V2 x2) (gD (e16 k2 V2 x2 w 0) (gD (eCkQ k V x g) b)))
theorem law_bad {V : List (List UInt8)} (hV : V.length ≤ 4) (k g : Int) (x x2 : Ex) (k2 : Int) (V2 : List (List UInt8)) (w : Int) (l : List UInt8) (c : Nat) (I : IK) :
    s5 7 [eKnw, eFew x true, e16 k V x 0 g, e17 l c k2 V2 x2, e16 k2 V2 x2 w 0, eCkQ k V x g] k V x l c I = gD eKnw (gD (eFew x true) (lenT V (I .ret [some (.bool true)] []) (calls5 k V x x2 k2 V2 w l c 0 g g (ifB (Bool.not (ieq g 0)) (ifB (ieq g g) (I .ret [some (.bool true)] []) (I .ret [some (.bool false)] [])) (I .normal [some (.bool false)] []))))) := by
  rcases V with _ | ⟨a, _ | ⟨b, _ | ⟨d, _ | ⟨e, _ | ⟨f, V⟩⟩⟩⟩⟩
  · exact law_bad0 k g x x2 k2 V2 w l c I
  · exact law_bad1 k g a x x2 k2 V2 w l c I
  · exact law_bad2 k g a b x x2 k2 V2 w l c I
  · exact law_bad3 k g a b d x x2 k2 V2 w l c I
  · exact law_bad4 k g a b d e x x2 k2 V2 w l c I
  · simp at hV
theorem res5 : Tryz.f5.results.toList = [.tmp 6] := by kernel_rfl
theorem true_leaf : pdec (Leaf 0 [] [] (.bool true) (.bool true) []) = true := bleaf rfl
theorem fin5 {fr : Fr} {M : Mem} (hl : fr.get 6 = some (.bool true)) : FinEx Tryz.prog Tryz.f5 0 [] (fun a => a = .bool true) .ret fr M :=
  fin_oneL res5 hl ⟨.bool true, rfl, .plain (.bool true), fun j r hj => by simp at hj⟩
theorem ieq_same (a : Int) : ieq a a = true := by rw [ieq_iff]; simp
theorem queries_law {k : Int} (hk : inI64 k = true) {V : List (List UInt8)} (hV : ∀ s ∈ V, s.length < 4611686018427387904) {x : Ex} (hx : Fits x) (l : List UInt8) {c : Nat} (hc : c < 256) : BSim Tryz.prog 5 (a5 k V x l c) [] [] (.bool true) := by
  have hkn : SSpec Tryz.prog eKnw.1 eKnw.2 := known_c.spec0 rfl
  obtain ⟨b, hb, hfew⟩ := few_any hx
  cases b with
  | false =>
    refine BSim.run hm hX0l (S := [eKnw, eFew x false, eKnw]) (AllOk.mem ⟨hkn, hfew.spec0 rfl, hkn, trivial⟩) ok5' (by kernel_rfl) rfl 60 [] _ (law_few k V x l c) ?_
    rw [gD_iff, gD_iff, gD_iff]
    exact true_leaf
  | true =>
  obtain ⟨hsml, hsize⟩ := hb rfl
  by_cases h4 : 4 < V.length
  · obtain ⟨a, b, d, e, f, V, rfl⟩ : ∃ a b d e f V', V = a :: b :: d :: e :: f :: V' := by
      rcases V with _ | ⟨a, _ | ⟨b, _ | ⟨d, _ | ⟨e, _ | ⟨f, V⟩⟩⟩⟩⟩
      · simp at h4
      · simp at h4
      · simp at h4
      · simp at h4
      · simp at h4
      · exact ⟨a, b, d, e, f, V, rfl⟩
    refine BSim.run hm hX0l (S := [eKnw, eFew x true, eKnw]) (AllOk.mem ⟨hkn, hfew.spec0 rfl, hkn, trivial⟩) ok5' (by kernel_rfl) rfl 60 [] _ (law_many k a b d e f V x l c) ?_
    rw [gD_iff, gD_iff, gD_iff]
    exact true_leaf
  have h4 : V.length ≤ 4 := by omega
  have of_w : W Tryz.prog Tryz.f5.ntmps 0 c5 (mkFr (argSlots (a5 k V x l c) 0)) (mkMem []) (FinEx Tryz.prog Tryz.f5 0 [] (fun a => a = .bool true)) → BSim Tryz.prog 5 (a5 k V x l c) [] [] (.bool true) := by
    intro hw
    obtain ⟨_, rfl, hb⟩ := BSim.of_WEx (args0 := a5 k V x l c) (rows0 := []) (rows1 := []) ok5' (by kernel_rfl) rfl hw
    exact hb
  by_cases h60 : ∃ s ∈ V, 60 < s.length
  · refine of_w (W.runN hm hX0l (S := [eKnw, eFew x true]) (AllOk.mem ⟨hkn, hfew.spec0 rfl, trivial⟩) 60 3 [6] [] _ (law_len h4 k x l c) ?_)
    rw [gD_iff, gD_iff]
    exact lenT_true (pdec_iff.2 fun fr M hl _ => fin5 (one_of hl)) h60
  have h60 : ∀ s ∈ V, ¬ 60 < s.length := fun s hs h => h60 ⟨s, hs, h⟩
  obtain ⟨ce, hwf, hce⟩ := checkExpr_any hsml (by omega)
  have hnames : ∀ s : List UInt8, ∃ b : Bool, s.length < 4611686018427387904 → BSim Tryz.prog 28 [strA s] [] [] (.bool b) := fun s => by
    by_cases h : s.length < 4611686018427387904
    · obtain ⟨b, hb⟩ := isName_any s h; exact ⟨b, fun _ => hb⟩
    · exact ⟨false, fun h' => absurd h' h⟩
  obtain ⟨e, _, he0, h18⟩ := check18 (V := V) (nb := fun s => (hnames s).choose) hk (fun s hs => (hnames s).choose_spec (hV s hs)) hce hwf (by omega)
  obtain ⟨k2, V2, x2, w, q17, q18, q14, hw⟩ := check_decoded l c hc
  have q16 : BSim Tryz.prog 16 [qA (.ofNat k2) V2 x2] [] [] (pairI (.ofNat w) 0) := by
    have e14 : errT2 w = 0 := by unfold errT2; rw [if_neg (by omega)]
    have := check16_ok (k := k2) (t := w) (by omega) (by omega) q18 (by rw [e14]; exact q14)
    rwa [if_neg (by omega)] at this
  by_cases he : e = 0
  · subst he
    obtain ⟨hc0, k1, k3, hkl⟩ := he0 rfl
    subst hc0
    obtain ⟨t, t8, hty, hto⟩ := types_agree (hwf rfl) (by omega)
    have ho := of_any hce hty
    obtain ⟨kn, rfl⟩ : ∃ kn : Nat, k = .ofNat kn := ⟨k.toNat, by simp only [Int.ofNat_eq_natCast]; omega⟩
    have kn1 : 1 ≤ kn := by simp only [Int.ofNat_eq_natCast] at k1; omega
    have kn3 : kn ≤ 3 := by simp only [Int.ofNat_eq_natCast] at k3; omega
    have hkl : V.length + 1 = kn := by simp only [Int.ofNat_eq_natCast] at hkl; omega
    have h16 := check16_ok kn1 kn3 h18 ho
    unfold ToR at hto
    have run : ∀ {t' e' : Int} {tt n : Nat} {el : Nat → List Dat}, BSim Tryz.prog 16 [qA (.ofNat kn) V x] [] [] (pairI t' e') → BSim Tryz.prog 19 [exA x] [] [] (ans19 tt n el) →
        (∀ I, r5 [eKnw, eFew x true, e16 (.ofNat kn) V x t' e', e17 l c (.ofNat k2) V2 x2, e16 (.ofNat k2) V2 x2 (.ofNat w) 0, eCkQ (.ofNat kn) V x 0, e19 x tt n el] (.ofNat kn) V x l c I = gD eKnw (gD (eFew x true) (lenT V (I (.bool true) []) (calls5 (.ofNat kn) V x x2 (.ofNat k2) V2 (.ofNat w) l c t' e' 0 (gD (e19 x tt n el) (I (.bool true) [])))))) → BSim Tryz.prog 5 (a5 (.ofNat kn) V x l c) [] [] (.bool true) := by
      intro t' e' tt n el h16 h19 hr
      refine BSim.run hm hX0l (S := [eKnw, eFew x true, e16 (.ofNat kn) V x t' e', e17 l c (.ofNat k2) V2 x2, e16 (.ofNat k2) V2 x2 (.ofNat w) 0, eCkQ (.ofNat kn) V x 0, e19 x tt n el]) (AllOk.mem ⟨hkn, hfew.spec0 rfl, h16.spec0 rfl, q17.spec0 rfl, q16.spec0 rfl, h18.spec0 rfl, h19.spec0 rfl, trivial⟩) ok5' (by kernel_rfl) rfl 60 [] _ hr ?_
      rw [gD_iff, gD_iff, lenT_false h60]
      unfold calls5
      rw [gD_iff, gD_iff, gD_iff, gD_iff, gD_iff]
      exact true_leaf
    rcases V with _ | ⟨a, _ | ⟨b, _ | ⟨d, V⟩⟩⟩
    · obtain rfl : kn = 1 := by simp at hkl; omega
      rcases t with _ | s
      · rw [if_pos (.inl rfl)] at h16
        rw [if_pos rfl] at hto
        obtain ⟨n, el, _, _, h19⟩ := hto
        exact run h16 h19 (law_ok0_0 x x2 (.ofNat k2) V2 (.ofNat w) l c n el)
      · rw [if_neg (by omega)] at h16
        rw [if_neg (by omega)] at hto
        refine run h16 hto fun I => (law_ok0_s x x2 (.ofNat k2) V2 (.ofNat w) l c s I).trans ?_
        rw [ieq_same]
        rfl
    · obtain rfl : kn = 2 := by simp at hkl; omega
      rcases t with _ | _ | s
      · rw [if_pos (.inl rfl)] at h16
        rw [if_pos rfl] at hto
        obtain ⟨n, el, _, _, h19⟩ := hto
        exact run h16 h19 (law_ok1_0 a x x2 (.ofNat k2) V2 (.ofNat w) l c n el)
      · rw [if_neg (by omega)] at h16
        rw [if_neg (by omega)] at hto
        exact run h16 hto (law_ok1_1 a x x2 (.ofNat k2) V2 (.ofNat w) l c)
      · rw [if_pos (by omega)] at h16
        rw [if_neg (by omega)] at hto
        exact run h16 hto (law_ok1_s a x x2 (.ofNat k2) V2 (.ofNat w) l c s)
    · obtain rfl : kn = 3 := by simp at hkl; omega
      rcases t with _ | _ | s
      · rw [if_pos (.inl rfl)] at h16
        rw [if_pos rfl] at hto
        obtain ⟨n, el, _, _, h19⟩ := hto
        exact run h16 h19 (law_ok2_0 a b x x2 (.ofNat k2) V2 (.ofNat w) l c n el)
      · rw [if_neg (by omega)] at h16
        rw [if_neg (by omega)] at hto
        exact run h16 hto (law_ok2_1 a b x x2 (.ofNat k2) V2 (.ofNat w) l c)
      · rw [if_pos (by omega)] at h16
        rw [if_neg (by omega)] at hto
        exact run h16 hto (law_ok2_s a b x x2 (.ofNat k2) V2 (.ofNat w) l c s)
    · simp at hkl; omega
  · have h16 := check16_bad he h18
    refine of_w (W.runN hm hX0l (S := [eKnw, eFew x true, e16 k V x 0 e, e17 l c (.ofNat k2) V2 x2, e16 (.ofNat k2) V2 x2 (.ofNat w) 0, eCkQ k V x e]) (AllOk.mem ⟨hkn, hfew.spec0 rfl, h16.spec0 rfl, q17.spec0 rfl, q16.spec0 rfl, h18.spec0 rfl, trivial⟩) 60 7 [6] [] _ (law_bad h4 k e x x2 (.ofNat k2) V2 (.ofNat w) l c) ?_)
    rw [gD_iff, gD_iff, lenT_false h60]
    unfold calls5
    rw [gD_iff, gD_iff, gD_iff, gD_iff, ifB_true (by rw [ieqf he]; rfl), ifB_true (ieq_same e)]
    exact pdec_iff.2 fun fr M hl _ => fin5 (one_of hl)
end Go.Proofs.YtnljmpeaeajcoaaGreatDoor

namespace Go.Proofs.YtnljmpeaeajcoaaGreatDoor
open Go Go.Eng Go.Vi Go.Knuth
local instance : Go.Eng.Mode := Sl
/-! the arguments, as they lie in a world -/
section
variable {H : Type} {enc : TypeId × Value → H} {W : World} {held : Bool}
theorem cell_at {W : World} {a : Addr} {v : Value} (h : W.cell? a = some v) : ∃ arr t fz, W.heap[a.block]? = some (.cells arr t fz) ∧ a.spot = none ∧ arr[a.off]? = some v := by
  unfold World.cell? at h
  split at h
  · rename_i arr t fz hb
    split at h
    · cases h
    · rename_i hs
      exact ⟨arr, t, fz, hb, by simpa using hs, h⟩
  · cases h
theorem add_off (a : Addr) (n : Nat) : (a.add n).off = a.off + n ∧ (a.add n).block = a.block := by
  unfold Addr.add
  split
  · rename_i h; subst h; simp
  · simp
/-- the cells of an element -/
theorem cells_at {a : Addr} {i s : Nat} {cs : List Value} {arr : Array Value} {t : TypeId} {fz : Nat × Nat} (hb : W.heap[a.block]? = some (.cells arr t fz)) (h : W.cells? 0 (a.add (i * s)) s = some cs) :
    cs = (arr.toList.drop (a.off + i * s)).take s ∧ cs.length = s := by
  obtain ⟨_, hl, hg⟩ := World.cells?_some h
  refine ⟨List.ext_getElem? fun j => ?_, hl⟩
  by_cases hj : j < s
  · have h1 := hg j hj
    have h2 : ∃ v, cs[j]? = some v := ⟨cs[j]'(by omega), List.getElem?_eq_getElem _⟩
    obtain ⟨v, hv⟩ := h2
    rw [hv] at h1
    obtain ⟨arr', t', fz', hb', _, hv'⟩ := cell_at h1
    rw [(add_off _ _).2, (add_off _ _).2, hb] at hb'
    cases hb'
    rw [(add_off _ _).1, (add_off _ _).1] at hv'
    rw [hv, List.getElem?_take_of_lt hj, List.getElem?_drop, Array.getElem?_toList, hv']
  · rw [List.getElem?_eq_none (by omega), List.getElem?_take_eq_none (by omega)]
/-- a slice, by its elements -/
theorem slice_at {P : Program} {n s : Nat} {e ty : TypeId} {cs : List Value} {x : DataW H × List MemPlace} (ht : P.underlying ty = some (.slice e)) (hs : P.cellsOf e = s) (hs0 : 0 < s) (h : DataW.trod enc P W 0 (fun _ => true) held n ty cs = some x) :
    ∃ (v : Value) (len : Nat) (ds sp : List (DataW H)) (csi : Nat → List Value), cs = [v] ∧ ds.length = len ∧ ((x.1 = .nil ∧ len = 0) ∨ x.1 = .slice ds sp) ∧
      (∀ i, i < len → ∃ m y, m < n ∧ ds[i]? = some y.1 ∧ DataW.trod enc P W 0 (fun _ => true) held m e (csi i) = some y) ∧
      ∀ el : Nat → List Dat, (∀ i, i < len → DsRel (startEnv W).z (el i) (csi i)) → DRel (startEnv W).z (.slice len s el) v := by
  rcases DataW.trod_slice ht h with ⟨rfl, rfl⟩ | ⟨a, len, cap, elems, rest, n', rfl, rfl, rfl, _, hlc, _, hel, hread, hrest, _⟩
  · exact ⟨_, 0, [], [], fun _ => [], rfl, rfl, .inl ⟨rfl, rfl⟩, fun i hi => absurd hi (by omega), fun el _ => .none _ _⟩
  rw [hs] at hread hrest
  by_cases hcap : cap = 0
  · obtain rfl : len = 0 := by omega
    have : elems = [] := List.eq_nil_of_length_eq_zero hel
    subst this
    exact ⟨_, 0, [], rest.map (·.1), fun _ => [], rfl, rfl, .inr (by simp), fun i hi => absurd hi (by omega), fun el _ => .empty _ _ _ _⟩
  -- the first element is read
  have h0 : ∃ cs0, W.cells? 0 (a.add (0 * s)) s = some cs0 := by
    by_cases hl : 0 < len
    · have := hread 0 hl
      rw [List.getElem?_eq_getElem (by omega)] at this
      obtain ⟨cs0, h1, _⟩ := Option.bind_eq_some_iff.1 this
      exact ⟨cs0, h1⟩
    · obtain ⟨hr1, hr2⟩ := hrest rfl
      have := hr2 0 (by omega)
      rw [List.getElem?_eq_getElem (by omega)] at this
      obtain ⟨cs0, h1, _⟩ := Option.bind_eq_some_iff.1 this
      obtain rfl : len = 0 := by omega
      exact ⟨cs0, h1⟩
  obtain ⟨cs0, hc0⟩ := h0
  obtain ⟨_, hl0, hg0⟩ := World.cells?_some hc0
  have hc := hg0 0 hs0
  rw [List.getElem?_eq_getElem (by omega), Nat.zero_mul] at hc
  have hadd : (a.add 0).add 0 = a := rfl
  rw [hadd] at hc
  obtain ⟨arr, t, fz, hb, hsp, hoff⟩ := cell_at hc
  have hlt : a.off < arr.size := (Array.getElem?_eq_some_iff.1 hoff).1
  have ha : a = ⟨a.block, a.off, none⟩ := by cases a; simp_all
  refine ⟨_, len, elems.map (·.1), rest.map (·.1), fun i => (arr.toList.drop (a.off + i * s)).take s, rfl, by simpa using hel, .inr rfl, fun i hi => ?_, fun el hE => ?_⟩
  · have := hread i hi
    rw [List.getElem?_eq_getElem (by omega)] at this
    obtain ⟨cs', h1, h2⟩ := Option.bind_eq_some_iff.1 this
    obtain ⟨rfl, _⟩ := cells_at hb h1
    exact ⟨n', elems[i]'(by omega), by omega, by simp [show i < elems.length by omega], h2⟩
  · rw [ha]
    refine .slice len s el a.block a.off cap arr.toList (startEnv_z hb) hlc ?_ hE
    by_cases hl : 0 < len
    · have := hread (len - 1) (by omega)
      rw [List.getElem?_eq_getElem (by omega)] at this
      obtain ⟨cs', h1, _⟩ := Option.bind_eq_some_iff.1 this
      obtain ⟨h2, h3⟩ := cells_at hb h1
      rw [h2, List.length_take, List.length_drop] at h3
      have e : len * s = (len - 1) * s + s := by
        rw [← Nat.succ_mul]
        congr 1
        omega
      omega
    · obtain rfl : len = 0 := by omega
      simp; omega
theorem u48 : Tryz.prog.underlying 48 = some (.struct #[{ name := "Kind", type := 3, offset := 0, embedded := false, tag := "", pkgPath := "", byteOffset := 0 }, { name := "Variables", type := 28, offset := 1, embedded := false, tag := "", pkgPath := "", byteOffset := 8 }, { name := "Expr", type := 40, offset := 2, embedded := false, tag := "", pkgPath := "", byteOffset := 32 }]) := Tryz.underlying48
theorem cl3 : Tryz.prog.cellsOf 3 = 1 := by kernel_rfl
theorem cl4 : Tryz.prog.cellsOf 4 = 1 := by kernel_rfl
theorem cl9 : Tryz.prog.cellsOf 9 = 1 := by kernel_rfl
theorem cl28 : Tryz.prog.cellsOf 28 = 1 := by kernel_rfl
theorem cl35 : Tryz.prog.cellsOf 35 = 2 := by kernel_rfl
theorem cl37 : Tryz.prog.cellsOf 37 = 4 := by kernel_rfl
theorem cl38 : Tryz.prog.cellsOf 38 = 1 := by kernel_rfl
theorem cl40 : Tryz.prog.cellsOf 40 = 7 := by kernel_rfl
theorem cl48 : Tryz.prog.cellsOf 48 = 9 := by kernel_rfl
theorem un3 : Tryz.prog.underlying 3 = some (.int .i64) := by kernel_rfl
theorem un4 : Tryz.prog.underlying 4 = some .bool := by kernel_rfl
/-- every weight is small -/
def Light (t : TypeId) (d : DataW H) : Prop := ∀ z ∈ d.weights Tryz.prog t, z ≤ reachBytes
theorem str_at {n : Nat} {cs : List Value} {x : DataW H × List MemPlace} (h : DataW.trod enc Tryz.prog W 0 (fun _ => true) held n 9 cs = some x) (hw : Light 9 x.1) : ∃ s : List UInt8, s.length ≤ reachBytes ∧ DsRel (startEnv W).z [sD s] cs := by
  obtain ⟨b, rfl, rfl, _⟩ := DataW.trod_string Tryz.underlying9 h
  refine ⟨b.data.toList, hw _ (by simp [DataW.weights]), .cons _ _ _ _ (.str b.data.toList) .nil⟩
theorem bool_at {n : Nat} {cs : List Value} {x : DataW H × List MemPlace} (h : DataW.trod enc Tryz.prog W 0 (fun _ => true) held n 4 cs = some x) : ∃ b : Bool, DsRel (startEnv W).z [.bool b] cs := by
  obtain ⟨b, rfl, rfl⟩ := DataW.trod_bool un4 h
  exact ⟨b, .cons _ _ _ _ (.bool b) .nil⟩
theorem int_at {n : Nat} {cs : List Value} {x : DataW H × List MemPlace} (h : DataW.trod enc Tryz.prog W 0 (fun _ => true) held n 3 cs = some x) : ∃ k : Int, inI64 k = true ∧ DsRel (startEnv W).z [.int .i64 k] cs := by
  obtain ⟨k, rfl, rfl, hw⟩ := DataW.trod_int un3 h
  refine ⟨k, ?_, .cons _ _ _ _ (.int .i64 k) .nil⟩
  simp [Lit.wf, IntKind.min, IntKind.max, IntKind.signed, IntKind.bits] at hw
  exact i64ok (by omega) (by omega)
theorem light_each {t : TypeId} {fs : Array Field} {parts : List (DataW H)} (ht : Tryz.prog.underlying t = some (.struct fs)) (h : Light t (.agg parts)) : ∀ (i : Nat) (f : Field) (d : DataW H), fs.toList[i]? = some f → parts[i]? = some d → Light f.type d := by
  intro i f d hf hd z hz
  refine h z ?_
  have e : DataW.weights Tryz.prog t (.agg parts) = DataW.weightsEach Tryz.prog (fs.toList.map (·.type)) parts := by simp [DataW.weights, ht]
  rw [e]
  clear e h ht
  generalize fs.toList = l at hf
  induction l generalizing i parts with
  | nil => simp at hf
  | cons g l ih =>
    cases parts with
    | nil => simp at hd
    | cons p parts =>
      simp only [List.map_cons, DataW.weightsEach, List.mem_append]
      cases i with
      | zero =>
        obtain rfl := Option.some.inj hf
        obtain rfl := Option.some.inj hd
        exact .inl hz
      | succ i => exact .inr (ih i (by simpa using hd) (by simpa using hf))
theorem light_all {t e : TypeId} {ds sp : List (DataW H)} (ht : Tryz.prog.underlying t = some (.slice e)) (h : Light t (.slice ds sp)) : ∀ (i : Nat) (d : DataW H), ds[i]? = some d → Light e d := by
  intro i d hd z hz
  refine h z ?_
  simp only [DataW.weights, ht, List.mem_cons, List.mem_append]
  refine .inr (.inl ?_)
  clear h ht
  induction ds generalizing i with
  | nil => simp at hd
  | cons p ds ih =>
    simp only [DataW.weightsAll, List.mem_append]
    cases i with
    | zero => obtain rfl := Option.some.inj hd; exact .inl hz
    | succ i => exact .inr (ih i (by simpa using hd))
/-- half of a fraction -/
theorem half_at {n : Nat} {cs : List Value} {x : DataW H × List MemPlace} (h : DataW.trod enc Tryz.prog W 0 (fun _ => true) held n 35 cs = some x) (hw : Light 35 x.1) :
    ∃ (b : Bool) (s : List UInt8), s.length ≤ reachBytes ∧ DsRel (startEnv W).z [.bool b, sD s] cs := by
  obtain ⟨xs, m, _, rfl, hl, hx, hf⟩ := DataW.trod_struct Tryz.underlying35 h
  rw [cl35] at hl
  have hx : xs.length = 2 := hx
  obtain ⟨y0, y1, rfl⟩ : ∃ y0 y1, xs = [y0, y1] := by
    rcases xs with _ | ⟨y0, _ | ⟨y1, _ | ⟨y2, l⟩⟩⟩
    · simp at hx
    · simp at hx
    · exact ⟨y0, y1, rfl⟩
    · simp at hx
  obtain ⟨c0, c1, rfl⟩ : ∃ c0 c1, cs = [c0, c1] := by
    rcases cs with _ | ⟨y0, _ | ⟨y1, _ | ⟨y2, l⟩⟩⟩
    · simp at hl
    · simp at hl
    · exact ⟨y0, y1, rfl⟩
    · simp at hl
  have f0 : DataW.trod enc Tryz.prog W 0 (fun _ => true) held m 4 ((List.drop 0 [c0, c1]).take (Tryz.prog.cellsOf 4)) = some y0 := hf 0 _ rfl
  have f1 : DataW.trod enc Tryz.prog W 0 (fun _ => true) held m 9 ((List.drop 1 [c0, c1]).take (Tryz.prog.cellsOf 9)) = some y1 := hf 1 _ rfl
  rw [cl4] at f0
  rw [cl9] at f1
  have l1 : Light 9 y1.1 := light_each Tryz.underlying35 hw 1 _ _ rfl rfl
  obtain ⟨b, hb⟩ := bool_at (x := y0) f0
  obtain ⟨s, hs, hs'⟩ := str_at (x := y1) f1 l1
  exact ⟨b, s, hs, show DsRel _ ([.bool b] ++ [sD s]) ([c0] ++ [c1]) from DsRel.append hb hs'⟩
theorem num_at {n : Nat} {cs : List Value} {x : DataW H × List MemPlace} (h : DataW.trod enc Tryz.prog W 0 (fun _ => true) held n 37 cs = some x) (hw : Light 37 x.1) :
    ∃ r : Rt, r.mag.length ≤ reachBytes ∧ r.dmag.length ≤ reachBytes ∧ DsRel (startEnv W).z [.bool r.neg, sD r.mag, .bool r.dneg, sD r.dmag] cs := by
  obtain ⟨xs, m, _, rfl, hl, hx, hf⟩ := DataW.trod_struct Tryz.underlying37 h
  rw [cl37] at hl
  have hx : xs.length = 2 := hx
  obtain ⟨y0, y1, rfl⟩ : ∃ y0 y1, xs = [y0, y1] := by
    rcases xs with _ | ⟨y0, _ | ⟨y1, _ | ⟨y2, l⟩⟩⟩
    · simp at hx
    · simp at hx
    · exact ⟨y0, y1, rfl⟩
    · simp at hx
  obtain ⟨c0, c1, c2, c3, rfl⟩ : ∃ c0 c1 c2 c3, cs = [c0, c1, c2, c3] := by
    rcases cs with _ | ⟨y0, _ | ⟨y1, _ | ⟨y2, _ | ⟨y3, _ | ⟨y4, l⟩⟩⟩⟩⟩
    · simp at hl
    · simp at hl
    · simp at hl
    · simp at hl
    · exact ⟨y0, y1, y2, y3, rfl⟩
    · simp at hl
  have f0 : DataW.trod enc Tryz.prog W 0 (fun _ => true) held m 35 ((List.drop 0 [c0, c1, c2, c3]).take (Tryz.prog.cellsOf 35)) = some y0 := hf 0 _ rfl
  have f1 : DataW.trod enc Tryz.prog W 0 (fun _ => true) held m 35 ((List.drop 2 [c0, c1, c2, c3]).take (Tryz.prog.cellsOf 35)) = some y1 := hf 1 _ rfl
  rw [cl35] at f0 f1
  have l0 : Light 35 y0.1 := light_each Tryz.underlying37 hw 0 _ _ rfl rfl
  have l1 : Light 35 y1.1 := light_each Tryz.underlying37 hw 1 _ _ rfl rfl
  obtain ⟨b, s, hs, hb⟩ := half_at (x := y0) f0 l0
  obtain ⟨b', s', hs', hb'⟩ := half_at (x := y1) f1 l1
  exact ⟨⟨b, s, b', s'⟩, hs, hs', show DsRel _ ([.bool b, sD s] ++ [.bool b', sD s']) ([c0, c1] ++ [c2, c3]) from DsRel.append hb hb'⟩
/-- an expression, by the fuel of the reading -/
theorem expr_at : ∀ {n : Nat} {cs : List Value} {x : DataW H × List MemPlace}, DataW.trod enc Tryz.prog W 0 (fun _ => true) held n 40 cs = some x → Light 40 x.1 → ∃ y : Ex, Fits y ∧ DsRel (startEnv W).z (exD y) cs := by
  intro n
  induction n using Nat.strongRecOn with
  | _ n ih =>
  intro cs x h hw
  obtain ⟨xs, m, hm, rfl, hl, hx, hf⟩ := DataW.trod_struct Tryz.underlying40 h
  rw [cl40] at hl
  have hx : xs.length = 4 := hx
  obtain ⟨y0, y1, y2, y3, rfl⟩ : ∃ y0 y1 y2 y3, xs = [y0, y1, y2, y3] := by
    rcases xs with _ | ⟨y0, _ | ⟨y1, _ | ⟨y2, _ | ⟨y3, _ | ⟨y4, l⟩⟩⟩⟩⟩
    · simp at hx
    · simp at hx
    · simp at hx
    · simp at hx
    · exact ⟨y0, y1, y2, y3, rfl⟩
    · simp at hx
  obtain ⟨c0, c1, c2, c3, c4, c5, c6, rfl⟩ : ∃ c0 c1 c2 c3 c4 c5 c6, cs = [c0, c1, c2, c3, c4, c5, c6] := by
    rcases cs with _ | ⟨y0, _ | ⟨y1, _ | ⟨y2, _ | ⟨y3, _ | ⟨y4, _ | ⟨y5, _ | ⟨y6, _ | ⟨y7, l⟩⟩⟩⟩⟩⟩⟩⟩
    · simp at hl
    · simp at hl
    · simp at hl
    · simp at hl
    · simp at hl
    · simp at hl
    · simp at hl
    · exact ⟨y0, y1, y2, y3, y4, y5, y6, rfl⟩
    · simp at hl
  have f0 : DataW.trod enc Tryz.prog W 0 (fun _ => true) held m 3 ((List.drop 0 [c0, c1, c2, c3, c4, c5, c6]).take (Tryz.prog.cellsOf 3)) = some y0 := hf 0 _ rfl
  have f1 : DataW.trod enc Tryz.prog W 0 (fun _ => true) held m 9 ((List.drop 1 [c0, c1, c2, c3, c4, c5, c6]).take (Tryz.prog.cellsOf 9)) = some y1 := hf 1 _ rfl
  have f2 : DataW.trod enc Tryz.prog W 0 (fun _ => true) held m 37 ((List.drop 2 [c0, c1, c2, c3, c4, c5, c6]).take (Tryz.prog.cellsOf 37)) = some y2 := hf 2 _ rfl
  have f3 : DataW.trod enc Tryz.prog W 0 (fun _ => true) held m 38 ((List.drop 6 [c0, c1, c2, c3, c4, c5, c6]).take (Tryz.prog.cellsOf 38)) = some y3 := hf 3 _ rfl
  rw [cl3] at f0
  rw [cl9] at f1
  rw [cl37] at f2
  rw [cl38] at f3
  have l1 : Light 9 y1.1 := light_each Tryz.underlying40 hw 1 _ _ rfl rfl
  have l2 : Light 37 y2.1 := light_each Tryz.underlying40 hw 2 _ _ rfl rfl
  have l3 : Light 38 y3.1 := light_each Tryz.underlying40 hw 3 _ _ rfl rfl
  obtain ⟨o, _, ho⟩ := int_at (x := y0) f0
  obtain ⟨nm, _, hn⟩ := str_at (x := y1) f1 l1
  obtain ⟨r, hr1, hr2, hr⟩ := num_at (x := y2) f2 l2
  obtain ⟨v, len, ds, sp, csi, hv, hdl, hd, hread, hmk⟩ := slice_at Tryz.underlying38 cl40 (by omega) (x := y3) f3
  have hv : c6 = v := (List.cons.inj hv).1
  have hsub : ∀ i, ∃ y : Ex, Fits y ∧ (i < len → DsRel (startEnv W).z (exD y) (csi i)) := fun i => by
    by_cases hi : i < len
    · obtain ⟨m', y, hlt, hy, ht⟩ := hread i hi
      have hlight : Light 40 y.1 := by
        rcases hd with ⟨_, h0⟩ | hd
        · omega
        · rw [hd] at l3
          exact light_all Tryz.underlying38 l3 i _ hy
      obtain ⟨z, hz, hz'⟩ := ih m' (by omega) ht hlight
      exact ⟨z, hz, fun _ => hz'⟩
    · exact ⟨.mk 0 [] Rt.zero [], .mk _ _ _ _ (by decide) (fun y hy => by cases hy), fun h => absurd h hi⟩
  let args : List Ex := (List.range len).map fun i => (hsub i).choose
  have hal : args.length = len := by simp [args]
  refine ⟨.mk o nm r args, .mk _ _ _ _ ?_ ?_, ?_⟩
  · have : reachBytes < 2305843009213693952 := by decide
    omega
  · intro y hy
    obtain ⟨i, _, rfl⟩ := List.mem_map.1 hy
    exact (hsub i).choose_spec.1
  · have hs : DRel (startEnv W).z (.slice args.length 7 (Ex.el (.mk o nm r args))) c6 := by
      rw [hal, hv]
      refine hmk _ fun i hi => ?_
      have e : Ex.el (.mk o nm r args) i = exD (hsub i).choose := by
        rw [el_eq]
        show (args.map exD).getD i [] = _
        simp [args, hi]
      rw [e]
      exact (hsub i).choose_spec.2 hi
    show DsRel _ ([.int .i64 o] ++ ([sD nm] ++ ([.bool r.neg, sD r.mag, .bool r.dneg, sD r.dmag] ++ [.slice args.length 7 (Ex.el (.mk o nm r args))]))) ([c0] ++ ([c1] ++ ([c2, c3, c4, c5] ++ [c6])))
    exact DsRel.append ho (DsRel.append hn (DsRel.append hr (.cons _ _ _ _ hs .nil)))
end
end Go.Proofs.YtnljmpeaeajcoaaGreatDoor

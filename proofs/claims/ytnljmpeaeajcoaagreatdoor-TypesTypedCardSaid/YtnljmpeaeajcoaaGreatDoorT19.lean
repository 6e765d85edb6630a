/- PROVED: the law viatorlaw44.TypesTyped returns true, and its arguments read as they did, for every slice of bytes, every byte and every pair of bytes, in every memory. No condition. -/
import Derived.Test.YtnljmpeaeajcoaaGreatDoorT18
import Derived.Test.YtnljmpeaeajcoaaGreatDoorG33
import Derived.Test.YtnljmpeaeajcoaaGreatDoorCards
import Derived.Test.YtnljmpeaeajcoaaGreatDoorTie
import Derived.ProofKit
import Derived.OpenShut
import Derived.Deep.DeepHandedRow
import Derived.Lay
import Derived.Carry
namespace Go.Proofs.YtnljmpeaeajcoaaGreatDoor
open Go Go.ChangeShapes Go.WideShapes Go.ChangeAt Go.RowKit Go.Eng Go.Vi
local instance : Go.Eng.Mode := St

theorem own : ownKnob Tryz.prog.godebug = none := by kernel_rfl
theorem laidOut : laidOutB Tryz.prog = true := by kernel_rfl
theorem u32 : Tryz.prog.underlying 32 = some (.slice 5) := by kernel_rfl
theorem u5 : Tryz.prog.underlying 5 = some (.int .u8) := by kernel_rfl
theorem u33 : Tryz.prog.underlying 33 = some (.array 2 5) := by kernel_rfl
theorem u4 : Tryz.prog.underlying 4 = some .bool := by kernel_rfl
theorem c5 : Tryz.prog.cellsOf 5 = 1 := by kernel_rfl
theorem c33 : Tryz.prog.cellsOf 33 = 2 := by kernel_rfl
theorem cts33 : Tryz.prog.cellTypes Tryz.prog.depth 33 = some [5, 5] := by kernel_rfl
theorem params4 : Tryz.f4.params = #[32, 5, 33] := by kernel_rfl
theorem results4 : Tryz.f4.resultTypes = #[4] := by kernel_rfl

theorem okWide_u8 {P : Program} {W : World} {r : Reach} {b0 : Nat} {t : TypeId} {v : Value} (u : P.underlying t = some (.int .u8)) (h : Cell.okWide P W r b0 t v) : ∃ a : Nat, a < 256 ∧ v = .int .u8 (.ofNat a) := by
  have h' : Cell.ok P W r b0 t v := by
    unfold Cell.okWide at h
    rw [u] at h
    cases v <;> exact h
  unfold Cell.ok at h'
  rw [u] at h'
  cases v <;> simp only at h'
  rename_i k n
  obtain ⟨rfl, h1, h2⟩ := h'
  have e1 : IntKind.u8.min = 0 := by decide
  have e2 : IntKind.u8.max = 255 := by decide
  rw [e1] at h1; rw [e2] at h2
  refine ⟨n.toNat, by omega, ?_⟩
  congr 1
  simp only [Int.ofNat_eq_natCast]; omega
/-- the argument of type [2]uint8 -/
theorem arg_pair {P : Program} {W : World} {r : Reach} {b0 : Nat} {t e : TypeId} {v : Value} (u : P.underlying t = some (.array 2 e)) (ue : P.underlying e = some (.int .u8)) (uc : P.cellsOf t = 2) (ut : P.cellTypes P.depth t = some [e, e])
    (h : Value.okWide P W r b0 t v) : ∃ a b : Nat, a < 256 ∧ b < 256 ∧ v = .agg #[.int .u8 (.ofNat a), .int .u8 (.ofNat b)] := by
  simp only [Value.okWide, u] at h
  obtain ⟨cs, rfl, hs, ts, hts, _, hrow⟩ := h
  obtain rfl := Option.some.inj (ut.symm.trans hts)
  rw [uc] at hs
  have one : ∀ i, i < 2 → ∃ a : Nat, a < 256 ∧ cs[i]? = some (.int .u8 (.ofNat a)) := by
    intro i hi
    have hlt : i < cs.size := by omega
    obtain ⟨x, hx, ho⟩ := hrow i _ (Array.getElem?_eq_getElem hlt)
    have hxe : x = e := by
      have : i = 0 ∨ i = 1 := by omega
      rcases this with rfl | rfl <;> simpa using hx.symm
    subst hxe
    obtain ⟨a, ha, e⟩ := okWide_u8 ue ho
    exact ⟨a, ha, (Array.getElem?_eq_getElem hlt).trans (congrArg some e)⟩
  obtain ⟨a, ha, ea⟩ := one 0 (by omega)
  obtain ⟨b, hb, eb⟩ := one 1 (by omega)
  refine ⟨a, b, ha, hb, congrArg Value.agg (Array.ext_getElem? fun i => ?_)⟩
  match i with
  | 0 => exact ea
  | 1 => exact eb
  | i + 2 => rw [Array.getElem?_eq_none (by omega), Array.getElem?_eq_none (by simp)]

set_option maxRecDepth 100000 in
/-- WHAT THE WALK GIVES, FOR EVERY ARGUMENT AND EVERY WORLD. -/
theorem contract (H : Type) (enc : TypeId × Value → H) (W : World) (base : Nat) (args : Array Value) (ds gs : List (DataW H)) (before : List MemPlace)
    (hval : ∀ (j : Nat) t v, Tryz.f4.params[j]? = some t → args[j]? = some v → Value.okWide Tryz.prog W .any base t v)
    (hW : DataW.Whole enc Tryz.prog Tryz.f4.params.toList Rows.typesTypedSpec.vars false W args.toList ds gs before) :
    Calls Tryz.prog 4 args W fun e W' => ∃ v, e = .returned v ∧ Rows.typesTypedSpec.post enc Tryz.prog Tryz.f4 false true false false W args v W' := by
  have hW' := hW
  obtain ⟨p, q, hA0, hV, rfl, hfz, hnd⟩ := hW
  have hA : DataW.TrodAll enc Tryz.prog W 0 (fun _ => true) true Tryz.f4.params.toList args.toList ds p := hA0
  rw [params4] at hA hval
  obtain ⟨v0, v1, v2, d0, d1, d2, p0, p1, p2, rfl, rfl, rfl, h0, h1, h2⟩ := trodAll_three hA
  obtain ⟨rfl, rfl⟩ := trodVars_none hV
  have k0 := h0
  have k2 := h2
  obtain ⟨l, hl⟩ := arg_bytes u32 u5 c5 (hval 0 32 v0 rfl rfl) h0
  obtain ⟨t, rfl, rfl, rfl, wt⟩ := open_int u5 (hval 1 5 v1 rfl rfl) h1
  obtain ⟨a, b, ha, hb, rfl⟩ := arg_pair u33 u5 c33 cts33 (hval 2 33 v2 rfl rfl)
  have ht : 0 ≤ t ∧ t ≤ 255 := bounds_u8 wt
  obtain ⟨m, rfl⟩ : ∃ m : Nat, t = .ofNat m := ⟨t.toNat, by simp only [Int.ofNat_eq_natCast]; omega⟩
  have hm : m < 256 := by simp only [Int.ofNat_eq_natCast] at ht; omega
  clear hA0 hA
  simp only [List.append_nil] at hW'
  have hlt : ∀ x ∈ p0 ++ ([] ++ p2), x.block < W.heap.size := fun x hx => hW'.lt x (by simpa using hx)
  refine ((typed_law l m a b hm ha hb).calls ok4 rfl W #[v0, .int .u8 (.ofNat m), .agg #[.int .u8 (.ofNat a), .int .u8 (.ofNat b)]] (.cons _ _ _ _ hl (.cons _ _ _ _ (.int _ _) (.cons _ _ _ _ (.agg _ _ (.cons _ _ _ _ (.int _ _) (.cons _ _ _ _ (.int _ _) .nil))) .nil)))).mono fun e W' he => ?_
  obtain ⟨ρ', cv, rfl, hcv, hbl⟩ := he
  cases hcv
  exact ⟨_, rfl, _, _, _, [], _, [], hW', trodAll_mk1 (shut_bool u4 _),
    trodAll_mk3 (Below.trod laidOut (by kernel_rfl) (of_decide_eq_true (by kernel_rfl)) k0 hbl (fun x hx => hlt x (by simp [hx]))) (shut_int u5 wt) (Below.trod laidOut (by kernel_rfl) (of_decide_eq_true (by kernel_rfl)) k2 hbl (fun x hx => hlt x (by simp [hx]))), rfl, hbl.frame _, fun h => by cases h⟩

theorem laid_met (os : Os) : laidMet Tryz.prog Rows.typesTypedRow.laid ((World.laidAll Tryz.prog os Rows.typesTypedRow.laid).forCall (fun _ _ => 0) ⟨#[], #[.slice none 0 0, .int .u8 0, .agg #[.int .u8 0, .int .u8 0]], []⟩).memory :=
  laidMet_laidAll _ (by kernel_rfl) (by kernel_rfl)
theorem reads (os : Os) {H : Type} (enc : TypeId × Value → H) : ∃ places, DataW.whole enc Tryz.prog ((World.laidAll Tryz.prog os Rows.typesTypedRow.laid).forCall (fun _ _ => 0) ⟨#[], #[.slice none 0 0, .int .u8 0, .agg #[.int .u8 0, .int .u8 0]], []⟩).memory Tryz.f4.params.toList Rows.typesTypedSpec.vars false #[Value.slice none 0 0, .int .u8 0, .agg #[.int .u8 0, .int .u8 0]].toList 8 = some ([.nil, .lit (.int .u8 0), .agg [.lit (.int .u8 0), .lit (.int .u8 0)]], [], places) :=
  ⟨[], by kernel_rfl⟩

set_option maxRecDepth 100000 in
theorem lifted (os : Os) (started : os.Started) (H : Type) (enc : TypeId × Value → H) (F : Stop.Interp) :
    ReturnsInHanded {} Tryz.checked os 4 .any ((OpenSpec.ofChange Rows.typesTypedSpec).preRow enc Tryz.prog Tryz.f4 Rows.typesTypedRow.domain false Rows.typesTypedRow.laid) (((OpenSpec.ofChange Rows.typesTypedSpec).at F).post enc Tryz.prog Tryz.f4 false true false false) := by
  obtain ⟨places, hx⟩ := reads os enc
  refine returnsInHanded_of_row (C := Tryz.checked) (s := OpenSpec.ofChange Rows.typesTypedSpec) own started (by kernel_rfl) Tryz.func4
    (witness_row_at (enc := enc) (C := Tryz.checked) false (World.laidAll Tryz.prog os Rows.typesTypedRow.laid) #[.slice none 0 0, .int .u8 0, .agg #[.int .u8 0, .int .u8 0]] (World.laidAll_os _ _ _) (by kernel_rfl) (by kernel_rfl) (by kernel_rfl)
      (OpenSpec.preRow_of_cond 8 hx (by kernel_rfl) (fun k hk => by cases hk) (by kernel_rfl) (laid_met os))) ?_
  intro W base args ds gs before hval hW _ _ _ _ _ _
  exact contract H enc W base args ds gs before hval hW

theorem said : Rows.TypesTypedSaid :=
  OpenClaim.holds_of_cond 4 Tryz.f4 rfl rfl rfl rfl rfl rfl rfl ⟨rfl, rfl, rfl, rfl, rfl⟩ rfl rfl rfl rfl rfl (by kernel_rfl) Tryz.func4 (by kernel_rfl)
    (of_decide_eq_true (by kernel_rfl)) (by unfold Func.isWrapper; first | (rw [if_pos (by decide +kernel)]; kernel_rfl) | (rw [if_neg (by decide +kernel)]; exact ⟨rfl, rfl⟩))
    (fun os started H enc _ F => by rw [OpenClaim.pre_eq_preRow]; exact lifted os started H enc F)

theorem plain (f : FuncId) (fn : Func) (hf : Tryz.pinned.checked.prog.funcNamed "viator/viatorlaw44.TypesTyped" = some f) (hfn : Tryz.pinned.checked.prog.funcs[f]? = some fn) :
    false = Tryz.pinned.checked.prog.looks [] ∧ ∀ (j : Nat) t, fn.params[j]? = some t → Tryz.pinned.checked.prog.wantsStandIn t = false := by
  obtain rfl : f = 4 := Option.some.inj ((show Tryz.prog.funcNamed "viator/viatorlaw44.TypesTyped" = some 4 by kernel_rfl).symm.trans hf) |>.symm
  obtain rfl : fn = Tryz.f4 := (Option.some.inj (Tryz.func4.symm.trans hfn)).symm
  refine ⟨by kernel_rfl, fun j t ht => ?_⟩
  rw [params4] at ht
  have : t = 32 ∨ t = 5 ∨ t = 33 := by simpa using Array.mem_of_getElem? ht
  rcases this with rfl | rfl | rfl
  · exact (show Tryz.prog.wantsStandIn 32 = false by kernel_rfl)
  · exact (show Tryz.prog.wantsStandIn 5 = false by kernel_rfl)
  · exact (show Tryz.prog.wantsStandIn 33 = false by kernel_rfl)

/-- ████ THE CARD ████ -/
theorem card : Rows.TypesTypedCardSaid :=
  Claim7.holds_tied_plain_at .later [] _ _ _ _ said (fun _ h => by cases h) (by kernel_rfl) (fun _ h => by cases h) typesTyped_row_tie rfl ⟨rfl, rfl⟩ (by kernel_rfl) rfl plain (by kernel_rfl)
#print axioms card
end Go.Proofs.YtnljmpeaeajcoaaGreatDoor

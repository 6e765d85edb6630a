/- A part of the proof over this seat's program: the checked evaluator and its soundness, and what it gives here. No condition. -/
import Derived.Test.YtnljmpeaeajcoaaGreatDoorB2
import Derived.Test.YtnljmpeaeajcoaaGreatDoorCards
import Derived.Test.YtnljmpeaeajcoaaGreatDoorTie
import Derived.ProofKit
import Derived.OpenShut
import Derived.Deep.DeepHandedRow
import Derived.Lay
import Derived.Carry

set_option linter.all false

/- PROVED: the law viatorlaw44.TypesQueries returns true, and its arguments read as they did, for every query, every slice of bytes and every byte, in every memory. No condition. -/
namespace Go.Proofs.YtnljmpeaeajcoaaGreatDoor
open Go Go.ChangeShapes Go.WideShapes Go.ChangeAt Go.RowKit Go.Eng Go.Vi
local instance : Go.Eng.Mode := Sl
theorem query_at {H : Type} {enc : TypeId × Value → H} {W : World} {held : Bool} {n : Nat} {cs : List Value} {x : DataW H × List MemPlace} (h : DataW.trod enc Tryz.prog W 0 (fun _ => true) held n 48 cs = some x) (hw : Light 48 x.1) :
    ∃ (k : Int) (V : List (List UInt8)) (y : Ex), inI64 k = true ∧ (∀ s ∈ V, s.length ≤ reachBytes) ∧ Fits y ∧ DsRel (startEnv W).z (qD k V y) cs := by
  obtain ⟨xs, m, hm, rfl, hl, hx, hf⟩ := DataW.trod_struct Tryz.underlying48 h
  rw [cl48] at hl
  have hx : xs.length = 3 := hx
  obtain ⟨y0, y1, y2, rfl⟩ : ∃ y0 y1 y2, xs = [y0, y1, y2] := by
    rcases xs with _ | ⟨y0, _ | ⟨y1, _ | ⟨y2, _ | ⟨y3, l⟩⟩⟩⟩
    · simp at hx
    · simp at hx
    · simp at hx
    · exact ⟨y0, y1, y2, rfl⟩
    · simp at hx
  obtain ⟨c0, c1, cs, rfl, hcs⟩ : ∃ c0 c1 cs', cs = c0 :: c1 :: cs' ∧ cs'.length = 7 := by
    rcases cs with _ | ⟨c0, _ | ⟨c1, cs⟩⟩
    · simp at hl
    · simp at hl
    · exact ⟨c0, c1, cs, rfl, by simpa using hl⟩
  have f0 : DataW.trod enc Tryz.prog W 0 (fun _ => true) held m 3 ((List.drop 0 (c0 :: c1 :: cs)).take (Tryz.prog.cellsOf 3)) = some y0 := hf 0 _ rfl
  have f1 : DataW.trod enc Tryz.prog W 0 (fun _ => true) held m 28 ((List.drop 1 (c0 :: c1 :: cs)).take (Tryz.prog.cellsOf 28)) = some y1 := hf 1 _ rfl
  have f2 : DataW.trod enc Tryz.prog W 0 (fun _ => true) held m 40 ((List.drop 2 (c0 :: c1 :: cs)).take (Tryz.prog.cellsOf 40)) = some y2 := hf 2 _ rfl
  rw [cl3] at f0
  rw [cl28] at f1
  rw [cl40] at f2
  have e2 : (List.drop 2 (c0 :: c1 :: cs)).take 7 = cs := by
    show cs.take 7 = cs
    exact List.take_of_length_le (by omega)
  rw [e2] at f2
  have l1 : Light 28 y1.1 := light_each Tryz.underlying48 hw 1 _ _ rfl rfl
  have l2 : Light 40 y2.1 := light_each Tryz.underlying48 hw 2 _ _ rfl rfl
  obtain ⟨k, hk, hk'⟩ := int_at (x := y0) f0
  obtain ⟨v, len, ds, sp, csi, hv, hdl, hd, hread, hmk⟩ := slice_at Tryz.underlying28 cl9 (by omega) (x := y1) f1
  have hv : c1 = v := (List.cons.inj hv).1
  have hsub : ∀ i, ∃ s : List UInt8, s.length ≤ reachBytes ∧ (i < len → DsRel (startEnv W).z [sD s] (csi i)) := fun i => by
    by_cases hi : i < len
    · obtain ⟨m', y, hlt, hy, ht⟩ := hread i hi
      have hlight : Light 9 y.1 := by
        rcases hd with ⟨_, h0⟩ | hd
        · omega
        · rw [hd] at l1
          exact light_all Tryz.underlying28 l1 i _ hy
      obtain ⟨z, hz, hz'⟩ := str_at ht hlight
      exact ⟨z, hz, fun _ => hz'⟩
    · exact ⟨[], Nat.zero_le _, fun h => absurd h hi⟩
  obtain ⟨y, hy, hy'⟩ := expr_at (x := y2) f2 l2
  let V : List (List UInt8) := (List.range len).map fun i => (hsub i).choose
  have hvl : V.length = len := by simp [V]
  refine ⟨k, V, y, hk, ?_, hy, ?_⟩
  · intro s hs
    obtain ⟨i, _, rfl⟩ := List.mem_map.1 hs
    exact (hsub i).choose_spec.1
  · have hs : DRel (startEnv W).z (nmsD V) c1 := by
      unfold nmsD
      rw [hvl, hv]
      refine hmk _ fun i hi => ?_
      have e : nmEl V i = [sD (hsub i).choose] := by
        unfold nmEl
        simp [V, hi]
      rw [e]
      exact (hsub i).choose_spec.2 hi
    show DsRel _ ([.int .i64 k] ++ ([nmsD V] ++ exD y)) ([c0] ++ ([c1] ++ cs))
    exact DsRel.append hk' (DsRel.append (.cons _ _ _ _ hs .nil) hy')

theorem own : ownKnob Tryz.prog.godebug = none := by kernel_rfl
theorem laidOut : laidOutB Tryz.prog = true := by kernel_rfl
theorem u32 : Tryz.prog.underlying 32 = some (.slice 5) := by kernel_rfl
theorem u5 : Tryz.prog.underlying 5 = some (.int .u8) := by kernel_rfl
theorem u4 : Tryz.prog.underlying 4 = some .bool := by kernel_rfl
theorem c5u : Tryz.prog.cellsOf 5 = 1 := by kernel_rfl
theorem params5 : Tryz.f5.params = #[48, 32, 5] := by kernel_rfl
theorem results5 : Tryz.f5.resultTypes = #[4] := by kernel_rfl

set_option maxRecDepth 100000 in
/-- WHAT THE WALK GIVES, FOR EVERY ARGUMENT AND EVERY WORLD. -/
theorem contract (H : Type) (enc : TypeId × Value → H) (W : World) (base : Nat) (args : Array Value) (ds gs : List (DataW H)) (before : List MemPlace)
    (hval : ∀ (j : Nat) t v, Tryz.f5.params[j]? = some t → args[j]? = some v → Value.okWide Tryz.prog W .any base t v)
    (hW : DataW.Whole enc Tryz.prog Tryz.f5.params.toList Rows.typesQueriesSpec.vars false W args.toList ds gs before) (vt : List TypeId)
    (hwt : (DataW.weightsEach Tryz.prog (Tryz.f5.params.toList ++ vt) (ds ++ gs)).all (· ≤ reachBytes) = true) :
    Calls Tryz.prog 5 args W fun e W' => ∃ v, e = .returned v ∧ Rows.typesQueriesSpec.post enc Tryz.prog Tryz.f5 false true false false W args v W' := by
  have hW' := hW
  obtain ⟨p, q, hA0, hV, rfl, hfz, hnd⟩ := hW
  have hA : DataW.TrodAll enc Tryz.prog W 0 (fun _ => true) true Tryz.f5.params.toList args.toList ds p := hA0
  rw [params5] at hA hval hwt
  obtain ⟨v0, v1, v2, d0, d1, d2, p0, p1, p2, rfl, rfl, rfl, h0, h1, h2⟩ := trodAll_three hA
  obtain ⟨rfl, rfl⟩ := trodVars_none hV
  have k0 := h0
  have k1 := h1
  have hl0 : Light 48 d0 := fun z hz => by
    have := List.all_eq_true.1 hwt z (by
      show z ∈ DataW.weightsEach Tryz.prog (48 :: ([32, 5] ++ vt)) (d0 :: ([d1, d2] ++ []))
      simp only [DataW.weightsEach, List.mem_append]
      exact .inl hz)
    simpa using this
  have hq : ∃ cs, v0 = .agg cs := by
    have := hval 0 48 v0 rfl rfl
    simp only [Value.okWide, Tryz.underlying48] at this
    obtain ⟨cs, rfl, _⟩ := this
    exact ⟨cs, rfl⟩
  obtain ⟨cs, rfl⟩ := hq
  obtain ⟨fuel, hfuel⟩ := h0
  obtain ⟨k, V, y, hk, hVl, hy, hds⟩ := query_at (cs := cs.toList) hfuel hl0
  obtain ⟨l, hl⟩ := arg_bytes u32 u5 c5u (hval 1 32 v1 rfl rfl) h1
  obtain ⟨t, rfl, rfl, rfl, wt⟩ := open_int u5 (hval 2 5 v2 rfl rfl) h2
  have ht : 0 ≤ t ∧ t ≤ 255 := bounds_u8 wt
  obtain ⟨m, rfl⟩ : ∃ m : Nat, t = .ofNat m := ⟨t.toNat, by simp only [Int.ofNat_eq_natCast]; omega⟩
  have hm : m < 256 := by simp only [Int.ofNat_eq_natCast] at ht; omega
  clear hA0 hA
  simp only [List.append_nil] at hW'
  have hlt : ∀ x ∈ p0 ++ (p1 ++ []), x.block < W.heap.size := fun x hx => hW'.lt x (by simpa using hx)
  have hb : reachBytes < 4611686018427387904 := by decide
  refine ((queries_law hk (fun s hs => Nat.lt_of_le_of_lt (hVl s hs) hb) hy l hm).calls ok5' rfl W #[.agg cs, v1, .int .u8 (.ofNat m)] (.cons _ _ _ _ (.agg _ _ (DsRel.toAVs hds)) (.cons _ _ _ _ hl (.cons _ _ _ _ (.int _ _) .nil)))).mono fun e W' he => ?_
  obtain ⟨ρ', cv, rfl, hcv, hbl⟩ := he
  cases hcv
  exact ⟨_, rfl, _, _, _, [], _, [], hW', trodAll_mk1 (shut_bool u4 _),
    trodAll_mk3 (Below.trod laidOut (by kernel_rfl) (of_decide_eq_true (by kernel_rfl)) k0 hbl (fun x hx => hlt x (by simp [hx]))) (Below.trod laidOut (by kernel_rfl) (of_decide_eq_true (by kernel_rfl)) k1 hbl (fun x hx => hlt x (by simp [hx]))) (shut_int u5 wt), rfl, hbl.frame _, fun h => by cases h⟩

def args0 : Array Value := #[.agg #[.int .i64 0, .slice none 0 0, .int .i64 0, .string ⟨#[]⟩, .bool false, .string ⟨#[]⟩, .bool false, .string ⟨#[]⟩, .slice none 0 0], .slice none 0 0, .int .u8 0]
theorem laid_met (os : Os) : laidMet Tryz.prog Rows.typesQueriesRow.laid ((World.laidAll Tryz.prog os Rows.typesQueriesRow.laid).forCall (fun _ _ => 0) ⟨#[], args0, []⟩).memory :=
  laidMet_laidAll _ (by kernel_rfl) (by kernel_rfl)
theorem reads (os : Os) {H : Type} (enc : TypeId × Value → H) : ∃ places, DataW.whole enc Tryz.prog ((World.laidAll Tryz.prog os Rows.typesQueriesRow.laid).forCall (fun _ _ => 0) ⟨#[], args0, []⟩).memory Tryz.f5.params.toList Rows.typesQueriesSpec.vars false args0.toList 8 =
    some ([.agg [.lit (.int .i64 0), .nil, .agg [.lit (.int .i64 0), .lit (.string []), .agg [.agg [.lit (.bool false), .lit (.string [])], .agg [.lit (.bool false), .lit (.string [])]], .nil]], .nil, .lit (.int .u8 0)], [], places) :=
  ⟨[], by kernel_rfl⟩

set_option maxRecDepth 100000 in
theorem lifted (os : Os) (started : os.Started) (H : Type) (enc : TypeId × Value → H) (F : Stop.Interp) :
    ReturnsInHanded {} Tryz.checked os 5 .any ((OpenSpec.ofChange Rows.typesQueriesSpec).preRow enc Tryz.prog Tryz.f5 Rows.typesQueriesRow.domain false Rows.typesQueriesRow.laid) (((OpenSpec.ofChange Rows.typesQueriesSpec).at F).post enc Tryz.prog Tryz.f5 false true false false) := by
  obtain ⟨places, hx⟩ := reads os enc
  refine returnsInHanded_of_row (C := Tryz.checked) (s := OpenSpec.ofChange Rows.typesQueriesSpec) own started (by kernel_rfl) Tryz.func5
    (witness_row_at (enc := enc) (C := Tryz.checked) false (World.laidAll Tryz.prog os Rows.typesQueriesRow.laid) args0 (World.laidAll_os _ _ _) (by kernel_rfl) (by kernel_rfl) (by kernel_rfl)
      (OpenSpec.preRow_of_cond 8 hx (by kernel_rfl) (fun k hk => by cases hk) (by kernel_rfl) (laid_met os))) ?_
  intro W base args ds gs before hval hW _ _ hwt _ _ _
  exact contract H enc W base args ds gs before hval hW _ hwt

theorem said : Rows.TypesQueriesSaid :=
  OpenClaim.holds_of_cond 5 Tryz.f5 rfl rfl rfl rfl rfl rfl rfl ⟨rfl, rfl, rfl, rfl, rfl⟩ rfl rfl rfl rfl rfl (by kernel_rfl) Tryz.func5 (by kernel_rfl)
    (of_decide_eq_true (by kernel_rfl)) (by unfold Func.isWrapper; first | (rw [if_pos (by decide +kernel)]; kernel_rfl) | (rw [if_neg (by decide +kernel)]; exact ⟨rfl, rfl⟩))
    (fun os started H enc _ F => by rw [OpenClaim.pre_eq_preRow]; exact lifted os started H enc F)

theorem plain (f : FuncId) (fn : Func) (hf : Tryz.pinned.checked.prog.funcNamed "viator/viatorlaw44.TypesQueries" = some f) (hfn : Tryz.pinned.checked.prog.funcs[f]? = some fn) :
    false = Tryz.pinned.checked.prog.looks [] ∧ ∀ (j : Nat) t, fn.params[j]? = some t → Tryz.pinned.checked.prog.wantsStandIn t = false := by
  obtain rfl : f = 5 := Option.some.inj ((show Tryz.prog.funcNamed "viator/viatorlaw44.TypesQueries" = some 5 by kernel_rfl).symm.trans hf) |>.symm
  obtain rfl : fn = Tryz.f5 := (Option.some.inj (Tryz.func5.symm.trans hfn)).symm
  refine ⟨by kernel_rfl, fun j t ht => ?_⟩
  rw [params5] at ht
  have : t = 48 ∨ t = 32 ∨ t = 5 := by simpa using Array.mem_of_getElem? ht
  rcases this with rfl | rfl | rfl
  · exact (show Tryz.prog.wantsStandIn 48 = false by kernel_rfl)
  · exact (show Tryz.prog.wantsStandIn 32 = false by kernel_rfl)
  · exact (show Tryz.prog.wantsStandIn 5 = false by kernel_rfl)

/-- ████ THE CARD ████ -/
theorem card : Rows.TypesQueriesCardSaid :=
  Claim7.holds_tied_plain_at .later [] _ _ _ _ said (fun _ h => by cases h) (by kernel_rfl) (fun _ h => by cases h) typesQueries_row_tie rfl ⟨rfl, rfl⟩ (by kernel_rfl) rfl plain (by kernel_rfl)
#print axioms card
end Go.Proofs.YtnljmpeaeajcoaaGreatDoor

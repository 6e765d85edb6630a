/- A part of the proof over this seat's program: the checked evaluator and its soundness (E..), and what it gives here (the others). No condition. -/
import Derived.Test.YtnljmpeaeajcoaaGreatDoorG27
set_option linter.unusedSectionVars false
namespace Go.Eng
open Go
variable [Mode]

/-! data that read alike -/
theorem DRel.slice_congr {Z : Still} {n sz : Nat} {el el' : Nat → List Dat} {v : Value} (h : DRel Z (.slice n sz el) v) (he : ∀ i, i < n → el i = el' i) : DRel Z (.slice n sz el') v := by
  cases h with
  | none => exact .none _ _
  | slice _ _ _ B o cap l hz hc hl hd => exact .slice _ _ _ B o cap l hz hc hl fun i hi => by rw [← he i hi]; exact hd i hi
theorem VRel.dslice_congr {ρ : Env} {n sz : Nat} {el el' : Nat → List Dat} {v : Value} (h : VRel ρ (.dslice n sz el) v) (he : ∀ i, i < n → el i = el' i) : VRel ρ (.dslice n sz el') v := by
  cases h with
  | dslice _ _ _ _ hd => exact .dslice _ _ _ _ (hd.slice_congr he)
theorem SSpec.conv_row {P : Program} {f : FuncId} {args : List AV} {b : Nat} {r r' s : List AV} {ans : AV} (h : SSpec P f ⟨args, [(b, r', s)], ans⟩) (hl : r.length = r'.length) (hr : ∀ ρ vs, VsRel ρ r vs → VsRel ρ r' vs) :
    SSpec P f ⟨args, [(b, r, s)], ans⟩ := by
  intro M M' hU
  obtain ⟨sz, M1, hg, hM1, hnx, hE⟩ := hU
  obtain rfl : M' = M1 := hE
  have hU2 : Ups [(b, r', s)] ⟨T.putD (.row r' false sz) M.t b, M.nx⟩ M' := by
    refine ⟨sz, M', by rw [T.putD_get, if_pos rfl], fun k => ?_, hnx, rfl⟩
    rw [hM1, T.putD_get]
    by_cases e : k = b
    · rw [if_pos e, if_pos e]
    · rw [if_neg e, if_neg e, if_neg e]
  intro w0 R ρ w cargs hM hv
  refine h _ _ hU2 w0 R ρ w cargs ?_ hv
  obtain ⟨B, x, o, hb, hRB, ho, hO⟩ := hM.blk b _ hg (by simp)
  refine hM.set hg (by simp) hb _ o (fun k => T.putD_get _ _ _ _) rfl rfl rfl (Nat.le_refl _) (fun _ _ _ => rfl) ho ?_
  unfold ORel at hO ⊢
  cases o <;> simp only at hO ⊢
  rw [← hl]
  exact ⟨hr _ _ hO.1, hO.2⟩
theorem SSpec.conv_args {P : Program} {f : FuncId} {args args' : List AV} {ups : List (Nat × List AV × List AV)} {ans : AV} (h : SSpec P f ⟨args', ups, ans⟩) (ha : ∀ ρ vs, VsRel ρ args vs → VsRel ρ args' vs) : SSpec P f ⟨args, ups, ans⟩ :=
  fun M M' hU w0 R ρ w cargs hM hv => h M M' hU w0 R ρ w cargs hM (ha _ _ hv)
end Go.Eng

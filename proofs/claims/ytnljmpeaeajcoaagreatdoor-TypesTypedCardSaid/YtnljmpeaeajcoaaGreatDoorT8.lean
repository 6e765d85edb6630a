/- A part of the proof over this seat's program: the checked evaluator and its soundness (E..), and what it gives here (the others). No condition. -/
import Derived.Test.YtnljmpeaeajcoaaGreatDoorT7
set_option linter.unusedSectionVars false
namespace Go.Proofs.YtnljmpeaeajcoaaGreatDoor
open Go Go.Eng Go.Vi
local instance : Go.Eng.Mode := Sy

theorem ok43 : FnOk Tryz.prog 43 Tryz.f43 := ⟨Tryz.func43, by kernel_rfl, by kernel_rfl⟩
theorem ok44 : FnOk Tryz.prog 44 Tryz.f44 := ⟨Tryz.func44, by kernel_rfl, by kernel_rfl⟩
theorem place_g {v : Nat} {lev : Int} {T : Nat → Gen} (h7 : GSim 23 [.ptr 0 0, .int .i64 (.ofNat 7), .int .i64 lev] v (T 7)) (h3 : GSim 23 [.ptr 0 0, .int .i64 (.ofNat 3), .int .i64 lev] v (T 3)) : GSim 43 [.ptr 0 0, .int .i64 lev] v (plc T) := by
  intro l
  obtain ⟨j, l1, hj⟩ : ∃ j l1, nx 2 l = (j, l1) := ⟨_, _, rfl⟩
  have hj2 : j < 2 := by have := nx_lt (m := 2) l (by omega); rw [hj] at this; exact this
  have hj' : j = 0 ∨ j = 1 := by omega
  rcases hj' with rfl | rfl
  · have e : plc T l = T 7 l1 := by unfold plc; rw [hj]; rfl
    rw [e]
    refine BSim.run hm hX0 (S := [eNext 0 2 l l1 v 0, eG 23 [.ptr 0 0, .int .i64 (.ofNat 7), .int .i64 lev] v (T 7) l1]) (AllOk.mem ⟨eNext_ok hj, eG_ok h7 rfl _, trivial⟩) ok43 (by kernel_rfl) rfl 60 [0]
      (fun I => gC (eNext 0 2 l l1 v 0) (gC (eG 23 [.ptr 0 0, .int .i64 (.ofNat 7), .int .i64 lev] v (T 7) l1) (I (exA (T 7 l1).1) [some (.row (toAVs (cD (T 7 l1).2 v)) false 1)]))) (fun I => by kernel_rfl) ?_
    simp only [gC_iff]
    exact pdec_iff.2 (Leaf.box fun _ _ => .aggs _)
  · have e : plc T l = T 3 l1 := by unfold plc; rw [hj]; rfl
    rw [e]
    refine BSim.run hm hX0 (S := [eNext 0 2 l l1 v 1, eG 23 [.ptr 0 0, .int .i64 (.ofNat 3), .int .i64 lev] v (T 3) l1]) (AllOk.mem ⟨eNext_ok hj, eG_ok h3 rfl _, trivial⟩) ok43 (by kernel_rfl) rfl 60 [0]
      (fun I => gC (eNext 0 2 l l1 v 1) (gC (eG 23 [.ptr 0 0, .int .i64 (.ofNat 3), .int .i64 lev] v (T 3) l1) (I (exA (T 3 l1).1) [some (.row (toAVs (cD (T 3 l1).2 v)) false 1)]))) (fun I => by kernel_rfl) ?_
    simp only [gC_iff]
    exact pdec_iff.2 (Leaf.box fun _ _ => .aggs _)
theorem amount_g {v : Nat} {lev : Int} {T : Nat → Gen} (h6 : GSim 23 [.ptr 0 0, .int .i64 (.ofNat 6), .int .i64 lev] v (T 6)) : GSim 44 [.ptr 0 0, .int .i64 lev] v (amt T) := by
  intro l
  obtain ⟨j, l1, hj⟩ : ∃ j l1, nx 2 l = (j, l1) := ⟨_, _, rfl⟩
  have hj2 : j < 2 := by have := nx_lt (m := 2) l (by omega); rw [hj] at this; exact this
  have hj' : j = 0 ∨ j = 1 := by omega
  rcases hj' with rfl | rfl
  · have e : amt T l = T 6 l1 := by unfold amt; rw [hj]; rfl
    rw [e]
    refine BSim.run hm hX0 (S := [eNext 0 2 l l1 v 0, eG 23 [.ptr 0 0, .int .i64 (.ofNat 6), .int .i64 lev] v (T 6) l1]) (AllOk.mem ⟨eNext_ok hj, eG_ok h6 rfl _, trivial⟩) ok44 (by kernel_rfl) rfl 60 [0]
      (fun I => gC (eNext 0 2 l l1 v 0) (gC (eG 23 [.ptr 0 0, .int .i64 (.ofNat 6), .int .i64 lev] v (T 6) l1) (I (exA (T 6 l1).1) [some (.row (toAVs (cD (T 6 l1).2 v)) false 1)]))) (fun I => by kernel_rfl) ?_
    simp only [gC_iff]
    exact pdec_iff.2 (Leaf.box fun _ _ => .aggs _)
  · have e : amt T l = nu l1 := by unfold amt; rw [hj]; rfl
    rw [e]
    refine BSim.run hm hX0 (S := [eNext 0 2 l l1 v 1, eG 41 [.ptr 0 0] v nu l1]) (AllOk.mem ⟨eNext_ok hj, eG_ok (number_g v) rfl _, trivial⟩) ok44 (by kernel_rfl) rfl 60 [0]
      (fun I => gC (eNext 0 2 l l1 v 1) (gC (eG 41 [.ptr 0 0] v nu l1) (I (exA (nu l1).1) [some (.row (toAVs (cD (nu l1).2 v)) false 1)]))) (fun I => by kernel_rfl) ?_
    simp only [gC_iff]
    exact pdec_iff.2 (Leaf.box fun _ _ => .aggs _)

/-! at most one level -/
section
variable {v : Nat} (hv : v < 3) {T : Nat → Gen}
include hv in
theorem sm_p1_1 (h5 : GSim 23 [.ptr 0 0, .int .i64 (.ofNat 5), .int .i64 (.ofNat 0)] v (T 5)) (l : List UInt8) : BSim Tryz.prog 23 [.ptr 0 0, .int .i64 (.ofNat 1), .int .i64 (.ofNat 1)] [cD l v] [cD (leafOf v T 1 0 l).2 v] (exA (leafOf v T 1 0 l).1) := by
  show BSim Tryz.prog 23 [.ptr 0 0, .int .i64 (.ofNat 1), .int .i64 (.ofNat 1)] [cD l v] [cD ((T 5 l).2) v] (exA (.mk 26 [] Rt.zero [(T 5 l).1]))
  refine node (S := [eG 23 [.ptr 0 0, .int .i64 (.ofNat 5), .int .i64 (.ofNat 0)] v (T 5) (l)]) ⟨eG_ok h5 rfl _, trivial⟩ 26 [(T 5 l).1] 2 (by omega) (fun c => gC (eG 23 [.ptr 0 0, .int .i64 (.ofNat 5), .int .i64 (.ofNat 0)] v (T 5) (l)) (c)) ?_ (fun I => by kernel_rfl)
  intro c hc; simp only [gC_iff, gB_iff]; exact hc
include hv in
theorem sm_p1_2 (l : List UInt8) : BSim Tryz.prog 23 [.ptr 0 0, .int .i64 (.ofNat 2), .int .i64 (.ofNat 1)] [cD l v] [cD (leafOf v T 2 0 l).2 v] (exA (leafOf v T 2 0 l).1) := by
  show BSim Tryz.prog 23 [.ptr 0 0, .int .i64 (.ofNat 2), .int .i64 (.ofNat 1)] [cD l v] [cD (nu l).2 v] (exA (nu l).1)
  refine nodeH (S := [eG 41 [.ptr 0 0] v nu (l)]) ⟨eG_ok (number_g v) rfl _, trivial⟩ _ (fun c => gC (eG 41 [.ptr 0 0] v nu (l)) c) ?_ (fun I => by kernel_rfl)
  intro c hc; simp only [gC_iff, gB_iff]; exact hc
include hv in
theorem sm_p1_3 (l : List UInt8) : BSim Tryz.prog 23 [.ptr 0 0, .int .i64 (.ofNat 3), .int .i64 (.ofNat 1)] [cD l v] [cD (leafOf v T 3 0 l).2 v] (exA (leafOf v T 3 0 l).1) := by
  show BSim Tryz.prog 23 [.ptr 0 0, .int .i64 (.ofNat 3), .int .i64 (.ofNat 1)] [cD l v] [cD ((nu (nu l).2).2) v] (exA (.mk 2 [] Rt.zero [(nu l).1, (nu (nu l).2).1]))
  refine node (S := [eG 41 [.ptr 0 0] v nu (l), eG 41 [.ptr 0 0] v nu ((nu l).2)]) ⟨eG_ok (number_g v) rfl _, eG_ok (number_g v) rfl _, trivial⟩ 2 [(nu l).1, (nu (nu l).2).1] 2 (by omega) (fun c => gC (eG 41 [.ptr 0 0] v nu (l)) (gC (eG 41 [.ptr 0 0] v nu ((nu l).2)) (c))) ?_ (fun I => by kernel_rfl)
  intro c hc; simp only [gC_iff, gB_iff]; exact hc
include hv in
theorem sm_p1_4 (l : List UInt8) : BSim Tryz.prog 23 [.ptr 0 0, .int .i64 (.ofNat 4), .int .i64 (.ofNat 1)] [cD l v] [cD (leafOf v T 4 0 l).2 v] (exA (leafOf v T 4 0 l).1) := by
  show BSim Tryz.prog 23 [.ptr 0 0, .int .i64 (.ofNat 4), .int .i64 (.ofNat 1)] [cD l v] [cD ((nu (nu l).2).2) v] (exA (.mk 6 [] Rt.zero [(nu l).1, (nu (nu l).2).1]))
  refine node (S := [eG 41 [.ptr 0 0] v nu (l), eG 41 [.ptr 0 0] v nu ((nu l).2)]) ⟨eG_ok (number_g v) rfl _, eG_ok (number_g v) rfl _, trivial⟩ 6 [(nu l).1, (nu (nu l).2).1] 2 (by omega) (fun c => gC (eG 41 [.ptr 0 0] v nu (l)) (gC (eG 41 [.ptr 0 0] v nu ((nu l).2)) (c))) ?_ (fun I => by kernel_rfl)
  intro c hc; simp only [gC_iff, gB_iff]; exact hc
include hv in
theorem sm_p1_5 (hp : GSim 43 [.ptr 0 0, .int .i64 (.ofNat 0)] v (plc T)) (l : List UInt8) : BSim Tryz.prog 23 [.ptr 0 0, .int .i64 (.ofNat 5), .int .i64 (.ofNat 1)] [cD l v] [cD (leafOf v T 5 0 l).2 v] (exA (leafOf v T 5 0 l).1) := by
  show BSim Tryz.prog 23 [.ptr 0 0, .int .i64 (.ofNat 5), .int .i64 (.ofNat 1)] [cD l v] [cD ((nu (plc T (pt v l).2).2).2) v] (exA (.mk 15 [] Rt.zero [(pt v l).1, (plc T (pt v l).2).1, (nu (plc T (pt v l).2).2).1]))
  refine node (S := [eG 42 [.ptr 0 0] v (pt v) (l), eG 43 [.ptr 0 0, .int .i64 (.ofNat 0)] v (plc T) ((pt v l).2), eG 41 [.ptr 0 0] v nu ((plc T (pt v l).2).2)]) ⟨eG_ok (point_g v hv) rfl _, eG_ok hp rfl _, eG_ok (number_g v) rfl _, trivial⟩ 15 [(pt v l).1, (plc T (pt v l).2).1, (nu (plc T (pt v l).2).2).1] 2 (by omega) (fun c => gC (eG 42 [.ptr 0 0] v (pt v) (l)) (gC (eG 43 [.ptr 0 0, .int .i64 (.ofNat 0)] v (plc T) ((pt v l).2)) (gC (eG 41 [.ptr 0 0] v nu ((plc T (pt v l).2).2)) (c)))) ?_ (fun I => by kernel_rfl)
  intro c hc; simp only [gC_iff, gB_iff]; exact hc
include hv in
theorem sm_p1_6 (l : List UInt8) : BSim Tryz.prog 23 [.ptr 0 0, .int .i64 (.ofNat 6), .int .i64 (.ofNat 1)] [cD l v] [cD (leafOf v T 6 0 l).2 v] (exA (leafOf v T 6 0 l).1) := by
  show BSim Tryz.prog 23 [.ptr 0 0, .int .i64 (.ofNat 6), .int .i64 (.ofNat 1)] [cD l v] [cD ((pt v l).2) v] (exA (.mk 14 [] Rt.zero [(pt v l).1]))
  refine node (S := [eG 42 [.ptr 0 0] v (pt v) (l)]) ⟨eG_ok (point_g v hv) rfl _, trivial⟩ 14 [(pt v l).1] 2 (by omega) (fun c => gC (eG 42 [.ptr 0 0] v (pt v) (l)) (c)) ?_ (fun I => by kernel_rfl)
  intro c hc; simp only [gC_iff, gB_iff]; exact hc
include hv in
theorem sm_p1_7 (l : List UInt8) : BSim Tryz.prog 23 [.ptr 0 0, .int .i64 (.ofNat 7), .int .i64 (.ofNat 1)] [cD l v] [cD (leafOf v T 7 0 l).2 v] (exA (leafOf v T 7 0 l).1) := by
  show BSim Tryz.prog 23 [.ptr 0 0, .int .i64 (.ofNat 7), .int .i64 (.ofNat 1)] [cD l v] [cD (pt v l).2 v] (exA (pt v l).1)
  refine nodeH (S := [eG 42 [.ptr 0 0] v (pt v) (l)]) ⟨eG_ok (point_g v hv) rfl _, trivial⟩ _ (fun c => gC (eG 42 [.ptr 0 0] v (pt v) (l)) c) ?_ (fun I => by kernel_rfl)
  intro c hc; simp only [gC_iff, gB_iff]; exact hc
include hv in
theorem sm_p1_8 (l : List UInt8) : BSim Tryz.prog 23 [.ptr 0 0, .int .i64 (.ofNat 8), .int .i64 (.ofNat 1)] [cD l v] [cD (leafOf v T 8 0 l).2 v] (exA (leafOf v T 8 0 l).1) := by
  show BSim Tryz.prog 23 [.ptr 0 0, .int .i64 (.ofNat 8), .int .i64 (.ofNat 1)] [cD l v] [cD (zn l).2 v] (exA (zn l).1)
  obtain ⟨j, l1, hj⟩ : ∃ j l1, nx 3 l = (j, l1) := ⟨_, _, rfl⟩
  have hj3 : j < 3 := by have := nx_lt (m := 3) l (by omega); rw [hj] at this; exact this
  have e1 : (zn l).2 = l1 := by unfold zn; rw [hj]
  have e2 : (zn l).1 = exZone j := by unfold zn; rw [hj]
  rw [e1, e2]
  have hj' : j = 0 ∨ j = 1 ∨ j = 2 := by omega
  rcases hj' with rfl | rfl | rfl
  · refine node0 (S := [eNext 0 3 l l1 v 0]) ⟨eNext_ok hj, trivial⟩ 5 (zname 0) Rt.zero (fun c => gC (eNext 0 3 l l1 v 0) c) ?_ (fun I => by kernel_rfl)
    intro c hc; simp only [gC_iff, gB_iff]; exact hc
  · refine node0 (S := [eNext 0 3 l l1 v 1]) ⟨eNext_ok hj, trivial⟩ 5 (zname 1) Rt.zero (fun c => gC (eNext 0 3 l l1 v 1) c) ?_ (fun I => by kernel_rfl)
    intro c hc; simp only [gC_iff, gB_iff]; exact hc
  · refine node0 (S := [eNext 0 3 l l1 v 2]) ⟨eNext_ok hj, trivial⟩ 5 (zname 2) Rt.zero (fun c => gC (eNext 0 3 l l1 v 2) c) ?_ (fun I => by kernel_rfl)
    intro c hc; simp only [gC_iff, gB_iff]; exact hc
include hv in
theorem sm_z0_3 (l : List UInt8) : BSim Tryz.prog 23 [.ptr 0 0, .int .i64 (.ofNat 3), .int .i64 (.ofNat 0)] [cD l v] [cD (leafOf v T 3 0 l).2 v] (exA (leafOf v T 3 0 l).1) := by
  show BSim Tryz.prog 23 [.ptr 0 0, .int .i64 (.ofNat 3), .int .i64 (.ofNat 0)] [cD l v] [cD ((nu (nu l).2).2) v] (exA (.mk 2 [] Rt.zero [(nu l).1, (nu (nu l).2).1]))
  refine node (S := [eG 41 [.ptr 0 0] v nu (l), eG 41 [.ptr 0 0] v nu ((nu l).2)]) ⟨eG_ok (number_g v) rfl _, eG_ok (number_g v) rfl _, trivial⟩ 2 [(nu l).1, (nu (nu l).2).1] 2 (by omega) (fun c => gC (eG 41 [.ptr 0 0] v nu (l)) (gC (eG 41 [.ptr 0 0] v nu ((nu l).2)) (c))) ?_ (fun I => by kernel_rfl)
  intro c hc; simp only [gC_iff, gB_iff]; exact hc
include hv in
theorem sm_z0_5 (hp : GSim 43 [.ptr 0 0, .int .i64 (.negSucc 0)] v (plc T)) (l : List UInt8) : BSim Tryz.prog 23 [.ptr 0 0, .int .i64 (.ofNat 5), .int .i64 (.ofNat 0)] [cD l v] [cD (leafOf v T 5 0 l).2 v] (exA (leafOf v T 5 0 l).1) := by
  show BSim Tryz.prog 23 [.ptr 0 0, .int .i64 (.ofNat 5), .int .i64 (.ofNat 0)] [cD l v] [cD ((nu (plc T (pt v l).2).2).2) v] (exA (.mk 15 [] Rt.zero [(pt v l).1, (plc T (pt v l).2).1, (nu (plc T (pt v l).2).2).1]))
  refine node (S := [eG 42 [.ptr 0 0] v (pt v) (l), eG 43 [.ptr 0 0, .int .i64 (.negSucc 0)] v (plc T) ((pt v l).2), eG 41 [.ptr 0 0] v nu ((plc T (pt v l).2).2)]) ⟨eG_ok (point_g v hv) rfl _, eG_ok hp rfl _, eG_ok (number_g v) rfl _, trivial⟩ 15 [(pt v l).1, (plc T (pt v l).2).1, (nu (plc T (pt v l).2).2).1] 2 (by omega) (fun c => gC (eG 42 [.ptr 0 0] v (pt v) (l)) (gC (eG 43 [.ptr 0 0, .int .i64 (.negSucc 0)] v (plc T) ((pt v l).2)) (gC (eG 41 [.ptr 0 0] v nu ((plc T (pt v l).2).2)) (c)))) ?_ (fun I => by kernel_rfl)
  intro c hc; simp only [gC_iff, gB_iff]; exact hc
include hv in
theorem sm_z0_7 (l : List UInt8) : BSim Tryz.prog 23 [.ptr 0 0, .int .i64 (.ofNat 7), .int .i64 (.ofNat 0)] [cD l v] [cD (leafOf v T 7 0 l).2 v] (exA (leafOf v T 7 0 l).1) := by
  show BSim Tryz.prog 23 [.ptr 0 0, .int .i64 (.ofNat 7), .int .i64 (.ofNat 0)] [cD l v] [cD (pt v l).2 v] (exA (pt v l).1)
  refine nodeH (S := [eG 42 [.ptr 0 0] v (pt v) (l)]) ⟨eG_ok (point_g v hv) rfl _, trivial⟩ _ (fun c => gC (eG 42 [.ptr 0 0] v (pt v) (l)) c) ?_ (fun I => by kernel_rfl)
  intro c hc; simp only [gC_iff, gB_iff]; exact hc
include hv in
theorem sm_m1_3 (l : List UInt8) : BSim Tryz.prog 23 [.ptr 0 0, .int .i64 (.ofNat 3), .int .i64 (.negSucc 0)] [cD l v] [cD (leafOf v T 3 0 l).2 v] (exA (leafOf v T 3 0 l).1) := by
  show BSim Tryz.prog 23 [.ptr 0 0, .int .i64 (.ofNat 3), .int .i64 (.negSucc 0)] [cD l v] [cD ((nu (nu l).2).2) v] (exA (.mk 2 [] Rt.zero [(nu l).1, (nu (nu l).2).1]))
  refine node (S := [eG 41 [.ptr 0 0] v nu (l), eG 41 [.ptr 0 0] v nu ((nu l).2)]) ⟨eG_ok (number_g v) rfl _, eG_ok (number_g v) rfl _, trivial⟩ 2 [(nu l).1, (nu (nu l).2).1] 2 (by omega) (fun c => gC (eG 41 [.ptr 0 0] v nu (l)) (gC (eG 41 [.ptr 0 0] v nu ((nu l).2)) (c))) ?_ (fun I => by kernel_rfl)
  intro c hc; simp only [gC_iff, gB_iff]; exact hc
include hv in
theorem sm_m1_7 (l : List UInt8) : BSim Tryz.prog 23 [.ptr 0 0, .int .i64 (.ofNat 7), .int .i64 (.negSucc 0)] [cD l v] [cD (leafOf v T 7 0 l).2 v] (exA (leafOf v T 7 0 l).1) := by
  show BSim Tryz.prog 23 [.ptr 0 0, .int .i64 (.ofNat 7), .int .i64 (.negSucc 0)] [cD l v] [cD (pt v l).2 v] (exA (pt v l).1)
  refine nodeH (S := [eG 42 [.ptr 0 0] v (pt v) (l)]) ⟨eG_ok (point_g v hv) rfl _, trivial⟩ _ (fun c => gC (eG 42 [.ptr 0 0] v (pt v) (l)) c) ?_ (fun I => by kernel_rfl)
  intro c hc; simp only [gC_iff, gB_iff]; exact hc
end
/-- what typed does at some levels, for some types -/
def Spec (v : Nat) (lev : Int) (T : Nat → Gen) (dom : List Nat) : Prop := ∀ s ∈ dom, GSim 23 [.ptr 0 0, .int .i64 (.ofNat s), .int .i64 lev] v (T s)
theorem spec_m1 {v : Nat} (hv : v < 3) : Spec v (.negSucc 0) (typedM v 0) [3, 7] := by
  intro s hs l
  simp only [List.mem_cons, List.not_mem_nil, or_false] at hs
  rcases hs with rfl | rfl
  · exact sm_m1_3 hv l
  · exact sm_m1_7 hv l
theorem spec_z0 {v : Nat} (hv : v < 3) : Spec v (.ofNat 0) (typedM v 1) [3, 5, 7] := by
  have h := spec_m1 hv
  have hp : GSim 43 [.ptr 0 0, .int .i64 (.negSucc 0)] v (plc (typedM v 0)) := place_g (h 7 (by decide)) (h 3 (by decide))
  intro s hs l
  have e : typedM v 1 s l = leafOf v (typedM v 0) s 0 l := rfl
  rw [e]
  simp only [List.mem_cons, List.not_mem_nil, or_false] at hs
  rcases hs with rfl | rfl | rfl
  · exact sm_z0_3 hv l
  · exact sm_z0_5 hv hp l
  · exact sm_z0_7 hv l
theorem spec_p1 {v : Nat} (hv : v < 3) : Spec v (.ofNat 1) (typedM v 2) [1, 2, 3, 4, 5, 6, 7, 8] := by
  have h := spec_z0 hv
  have hp : GSim 43 [.ptr 0 0, .int .i64 (.ofNat 0)] v (plc (typedM v 1)) := place_g (h 7 (by decide)) (h 3 (by decide))
  intro s hs l
  have e : typedM v 2 s l = leafOf v (typedM v 1) s 0 l := rfl
  rw [e]
  simp only [List.mem_cons, List.not_mem_nil, or_false] at hs
  rcases hs with rfl | rfl | rfl | rfl | rfl | rfl | rfl | rfl
  · exact sm_p1_1 hv (h 5 (by decide)) l
  · exact sm_p1_2 hv l
  · exact sm_p1_3 hv l
  · exact sm_p1_4 hv l
  · exact sm_p1_5 hv hp l
  · exact sm_p1_6 hv l
  · exact sm_p1_7 hv l
  · exact sm_p1_8 hv l
theorem spec_step {m v : Nat} (hm100 : m < 100) (hv : v < 3) {T : Nat → Gen} (h : Spec v (.ofNat (m + 1)) T [1, 2, 3, 4, 5, 6, 7, 8]) :
    Spec v (.ofNat (m + 2)) (fun t l => leafOf v T t (nx 10 l).1 (nx 10 l).2) [1, 2, 3, 4, 5, 6, 7, 8] := by
  rw [← nOf_eq m] at h
  have IP : GSim 43 [.ptr 0 0, .int .i64 (nOf m)] v (plc T) := place_g (h 7 (by decide)) (h 3 (by decide))
  have IA : GSim 44 [.ptr 0 0, .int .i64 (nOf m)] v (amt T) := amount_g (h 6 (by decide))
  intro s hs l
  obtain ⟨k, l0, hk⟩ : ∃ k l0, nx 10 l = (k, l0) := ⟨_, _, rfl⟩
  have hk10 : k < 10 := by have := nx_lt (m := 10) l (by omega); rw [hk] at this; exact this
  have hk' : k = 0 ∨ k = 1 ∨ k = 2 ∨ k = 3 ∨ k = 4 ∨ k = 5 ∨ k = 6 ∨ k = 7 ∨ k = 8 ∨ k = 9 := by omega
  simp only [hk]
  simp only [List.mem_cons, List.not_mem_nil, or_false] at hs
  rcases hs with rfl | rfl | rfl | rfl | rfl | rfl | rfl | rfl
  · rcases hk' with rfl | rfl | rfl | rfl | rfl | rfl | rfl | rfl | rfl | rfl
    · exact ty_1_0 hm100 hv h IP IA hk
    · exact ty_1_1 hm100 hv h IP IA hk
    · exact ty_1_2 hm100 hv h IP IA hk
    · exact ty_1_3 hm100 hv h IP IA hk
    · exact ty_1_4 hm100 hv h IP IA hk
    · exact ty_1_5 hm100 hv h IP IA hk
    · exact ty_1_6 hm100 hv h IP IA hk
    · exact ty_1_7 hm100 hv h IP IA hk
    · exact ty_1_8 hm100 hv h IP IA hk
    · exact ty_1_9 hm100 hv h IP IA hk
  · exact ty_2_x hm100 hv h IP IA hk
  · exact ty_3_x hm100 hv h IP IA hk
  · rcases hk' with rfl | rfl | rfl | rfl | rfl | rfl | rfl | rfl | rfl | rfl
    · exact ty_4_0 hm100 hv h IP IA hk
    · exact ty_4_1 hm100 hv h IP IA hk
    · exact ty_4_2 hm100 hv h IP IA hk
    · exact ty_4_3 hm100 hv h IP IA hk
    · exact ty_4_4 hm100 hv h IP IA hk
    · exact ty_4_5 hm100 hv h IP IA hk
    · exact ty_4_6 hm100 hv h IP IA hk
    · exact ty_4_7 hm100 hv h IP IA hk
    · exact ty_4_8 hm100 hv h IP IA hk
    · exact ty_4_9 hm100 hv h IP IA hk
  · rcases hk' with rfl | rfl | rfl | rfl | rfl | rfl | rfl | rfl | rfl | rfl
    · exact ty_5_0 hm100 hv h IP IA hk
    · exact ty_5_1 hm100 hv h IP IA hk
    · exact ty_5_2 hm100 hv h IP IA hk
    · exact ty_5_3 hm100 hv h IP IA hk
    · exact ty_5_4 hm100 hv h IP IA hk
    · exact ty_5_5 hm100 hv h IP IA hk
    · exact ty_5_6 hm100 hv h IP IA hk
    · exact ty_5_7 hm100 hv h IP IA hk
    · exact ty_5_8 hm100 hv h IP IA hk
    · exact ty_5_9 hm100 hv h IP IA hk
  · rcases hk' with rfl | rfl | rfl | rfl | rfl | rfl | rfl | rfl | rfl | rfl
    · exact ty_6_0 hm100 hv h IP IA hk
    · exact ty_6_1 hm100 hv h IP IA hk
    · exact ty_6_2 hm100 hv h IP IA hk
    · exact ty_6_3 hm100 hv h IP IA hk
    · exact ty_6_4 hm100 hv h IP IA hk
    · exact ty_6_5 hm100 hv h IP IA hk
    · exact ty_6_6 hm100 hv h IP IA hk
    · exact ty_6_7 hm100 hv h IP IA hk
    · exact ty_6_8 hm100 hv h IP IA hk
    · exact ty_6_9 hm100 hv h IP IA hk
  · rcases hk' with rfl | rfl | rfl | rfl | rfl | rfl | rfl | rfl | rfl | rfl
    · exact ty_7_0 hm100 hv h IP IA hk
    · exact ty_7_1 hm100 hv h IP IA hk
    · exact ty_7_2 hm100 hv h IP IA hk
    · exact ty_7_3 hm100 hv h IP IA hk
    · exact ty_7_4 hm100 hv h IP IA hk
    · exact ty_7_5 hm100 hv h IP IA hk
    · exact ty_7_6 hm100 hv h IP IA hk
    · exact ty_7_7 hm100 hv h IP IA hk
    · exact ty_7_8 hm100 hv h IP IA hk
    · exact ty_7_9 hm100 hv h IP IA hk
  · rcases hk' with rfl | rfl | rfl | rfl | rfl | rfl | rfl | rfl | rfl | rfl
    · exact ty_8_0 hm100 hv h IP IA hk
    · exact ty_8_1 hm100 hv h IP IA hk
    · exact ty_8_2 hm100 hv h IP IA hk
    · exact ty_8_3 hm100 hv h IP IA hk
    · exact ty_8_4 hm100 hv h IP IA hk
    · exact ty_8_5 hm100 hv h IP IA hk
    · exact ty_8_6 hm100 hv h IP IA hk
    · exact ty_8_7 hm100 hv h IP IA hk
    · exact ty_8_8 hm100 hv h IP IA hk
    · exact ty_8_9 hm100 hv h IP IA hk
theorem spec_4 {v : Nat} (hv : v < 3) : Spec v (.ofNat 4) (typedM v 5) [1, 2, 3, 4, 5, 6, 7, 8] := by
  have h1 := spec_p1 hv
  have h2 : Spec v (.ofNat 2) (typedM v 3) [1, 2, 3, 4, 5, 6, 7, 8] := spec_step (m := 0) (by omega) hv h1
  have h3 : Spec v (.ofNat 3) (typedM v 4) [1, 2, 3, 4, 5, 6, 7, 8] := spec_step (m := 1) (by omega) hv h2
  exact spec_step (m := 2) (by omega) hv h3
end Go.Proofs.YtnljmpeaeajcoaaGreatDoor

/- A part of the proof over this seat's program: the checked evaluator and its soundness (E..), and what it gives here (the others). No condition. -/
import Derived.Test.YtnljmpeaeajcoaaGreatDoorT6
set_option linter.unusedSectionVars false
namespace Go.Proofs.YtnljmpeaeajcoaaGreatDoor
open Go Go.Eng Go.Vi
local instance : Go.Eng.Mode := Sy
section
variable {m v : Nat} (hm100 : m < 100) (hv : v < 3) {T : Nat → Gen} (IT : ∀ s ∈ [1, 2, 3, 4, 5, 6, 7, 8], GSim 23 [.ptr 0 0, .int .i64 (.ofNat s), .int .i64 (nOf m)] v (T s))
  (IP : GSim 43 [.ptr 0 0, .int .i64 (nOf m)] v (plc T)) (IA : GSim 44 [.ptr 0 0, .int .i64 (nOf m)] v (amt T))
include hm100 hv IT IP IA in
theorem ty_1_0 {l l0 : List UInt8} (h0 : nx 10 l = (0, l0)) : BSim Tryz.prog 23 [.ptr 0 0, .int .i64 (.ofNat 1), .int .i64 (.ofNat (m + 2))] [cD l v] [cD ((leafOf v T 1 0 l0).2) v] (exA ((leafOf v T 1 0 l0).1)) := by
  show BSim Tryz.prog 23 [.ptr 0 0, .int .i64 (.ofNat 1), .int .i64 (.ofNat (m + 2))] [cD l v] [cD (((T 5) (l0)).2) v] (exA (.mk 26 [] Rt.zero [((T 5) (l0)).1]))
  refine node (S := [eNext 0 10 l l0 v 0, eG 23 [.ptr 0 0, .int .i64 (.ofNat 5), .int .i64 (nOf m)] v (T 5) (l0)]) ⟨eNext_ok h0, eG_ok (IT 5 (by decide)) rfl _, trivial⟩ 26 [((T 5) (l0)).1] 2 (by omega) (fun c => gB (inI64 (nOf m)) (gC (eNext 0 10 l l0 v 0) (gC (eG 23 [.ptr 0 0, .int .i64 (.ofNat 5), .int .i64 (nOf m)] v (T 5) (l0)) (c)))) ?_ (fun I => by kernel_rfl)
  · intro c hc; simp only [gC_iff, gB_iff]; exact ⟨nOf_in hm100, hc⟩
include hm100 hv IT IP IA in
theorem ty_1_1 {l l0 : List UInt8} (h0 : nx 10 l = (1, l0)) : BSim Tryz.prog 23 [.ptr 0 0, .int .i64 (.ofNat 1), .int .i64 (.ofNat (m + 2))] [cD l v] [cD ((leafOf v T 1 1 l0).2) v] (exA ((leafOf v T 1 1 l0).1)) := by
  show BSim Tryz.prog 23 [.ptr 0 0, .int .i64 (.ofNat 1), .int .i64 (.ofNat (m + 2))] [cD l v] [cD (((T 1) (((T 1) (l0)).2)).2) v] (exA (.mk 23 [] Rt.zero [((T 1) (l0)).1, ((T 1) (((T 1) (l0)).2)).1]))
  refine node (S := [eNext 0 10 l l0 v 1, eG 23 [.ptr 0 0, .int .i64 (.ofNat 1), .int .i64 (nOf m)] v (T 1) (l0), eG 23 [.ptr 0 0, .int .i64 (.ofNat 1), .int .i64 (nOf m)] v (T 1) (((T 1) (l0)).2)]) ⟨eNext_ok h0, eG_ok (IT 1 (by decide)) rfl _, eG_ok (IT 1 (by decide)) rfl _, trivial⟩ 23 [((T 1) (l0)).1, ((T 1) (((T 1) (l0)).2)).1] 2 (by omega) (fun c => gB (inI64 (nOf m)) (gC (eNext 0 10 l l0 v 1) (gC (eG 23 [.ptr 0 0, .int .i64 (.ofNat 1), .int .i64 (nOf m)] v (T 1) (l0)) (gC (eG 23 [.ptr 0 0, .int .i64 (.ofNat 1), .int .i64 (nOf m)] v (T 1) (((T 1) (l0)).2)) (c))))) ?_ (fun I => by kernel_rfl)
  · intro c hc; simp only [gC_iff, gB_iff]; exact ⟨nOf_in hm100, hc⟩
include hm100 hv IT IP IA in
theorem ty_1_2 {l l0 : List UInt8} (h0 : nx 10 l = (2, l0)) : BSim Tryz.prog 23 [.ptr 0 0, .int .i64 (.ofNat 1), .int .i64 (.ofNat (m + 2))] [cD l v] [cD ((leafOf v T 1 2 l0).2) v] (exA ((leafOf v T 1 2 l0).1)) := by
  show BSim Tryz.prog 23 [.ptr 0 0, .int .i64 (.ofNat 1), .int .i64 (.ofNat (m + 2))] [cD l v] [cD (((T 1) (((T 1) (l0)).2)).2) v] (exA (.mk 24 [] Rt.zero [((T 1) (l0)).1, ((T 1) (((T 1) (l0)).2)).1]))
  refine node (S := [eNext 0 10 l l0 v 2, eG 23 [.ptr 0 0, .int .i64 (.ofNat 1), .int .i64 (nOf m)] v (T 1) (l0), eG 23 [.ptr 0 0, .int .i64 (.ofNat 1), .int .i64 (nOf m)] v (T 1) (((T 1) (l0)).2)]) ⟨eNext_ok h0, eG_ok (IT 1 (by decide)) rfl _, eG_ok (IT 1 (by decide)) rfl _, trivial⟩ 24 [((T 1) (l0)).1, ((T 1) (((T 1) (l0)).2)).1] 2 (by omega) (fun c => gB (inI64 (nOf m)) (gC (eNext 0 10 l l0 v 2) (gC (eG 23 [.ptr 0 0, .int .i64 (.ofNat 1), .int .i64 (nOf m)] v (T 1) (l0)) (gC (eG 23 [.ptr 0 0, .int .i64 (.ofNat 1), .int .i64 (nOf m)] v (T 1) (((T 1) (l0)).2)) (c))))) ?_ (fun I => by kernel_rfl)
  · intro c hc; simp only [gC_iff, gB_iff]; exact ⟨nOf_in hm100, hc⟩
include hm100 hv IT IP IA in
theorem ty_1_3 {l l0 : List UInt8} (h0 : nx 10 l = (3, l0)) : BSim Tryz.prog 23 [.ptr 0 0, .int .i64 (.ofNat 1), .int .i64 (.ofNat (m + 2))] [cD l v] [cD ((leafOf v T 1 3 l0).2) v] (exA ((leafOf v T 1 3 l0).1)) := by
  show BSim Tryz.prog 23 [.ptr 0 0, .int .i64 (.ofNat 1), .int .i64 (.ofNat (m + 2))] [cD l v] [cD (((T 1) (l0)).2) v] (exA (.mk 25 [] Rt.zero [((T 1) (l0)).1]))
  refine node (S := [eNext 0 10 l l0 v 3, eG 23 [.ptr 0 0, .int .i64 (.ofNat 1), .int .i64 (nOf m)] v (T 1) (l0)]) ⟨eNext_ok h0, eG_ok (IT 1 (by decide)) rfl _, trivial⟩ 25 [((T 1) (l0)).1] 2 (by omega) (fun c => gB (inI64 (nOf m)) (gC (eNext 0 10 l l0 v 3) (gC (eG 23 [.ptr 0 0, .int .i64 (.ofNat 1), .int .i64 (nOf m)] v (T 1) (l0)) (c)))) ?_ (fun I => by kernel_rfl)
  · intro c hc; simp only [gC_iff, gB_iff]; exact ⟨nOf_in hm100, hc⟩
include hm100 hv IT IP IA in
theorem ty_1_4 {l l0 : List UInt8} (h0 : nx 10 l = (4, l0)) : BSim Tryz.prog 23 [.ptr 0 0, .int .i64 (.ofNat 1), .int .i64 (.ofNat (m + 2))] [cD l v] [cD ((leafOf v T 1 4 l0).2) v] (exA ((leafOf v T 1 4 l0).1)) := by
  show BSim Tryz.prog 23 [.ptr 0 0, .int .i64 (.ofNat 1), .int .i64 (.ofNat (m + 2))] [cD l v] [cD ((nu (((T 5) (l0)).2)).2) v] (exA (.mk 28 [] Rt.zero [((T 5) (l0)).1, (nu (((T 5) (l0)).2)).1]))
  refine node (S := [eNext 0 10 l l0 v 4, eG 23 [.ptr 0 0, .int .i64 (.ofNat 5), .int .i64 (nOf m)] v (T 5) (l0), eG 41 [.ptr 0 0] v nu (((T 5) (l0)).2)]) ⟨eNext_ok h0, eG_ok (IT 5 (by decide)) rfl _, eG_ok (number_g v) rfl _, trivial⟩ 28 [((T 5) (l0)).1, (nu (((T 5) (l0)).2)).1] 2 (by omega) (fun c => gB (inI64 (nOf m)) (gC (eNext 0 10 l l0 v 4) (gC (eG 23 [.ptr 0 0, .int .i64 (.ofNat 5), .int .i64 (nOf m)] v (T 5) (l0)) (gC (eG 41 [.ptr 0 0] v nu (((T 5) (l0)).2)) (c))))) ?_ (fun I => by kernel_rfl)
  · intro c hc; simp only [gC_iff, gB_iff]; exact ⟨nOf_in hm100, hc⟩
include hm100 hv IT IP IA in
theorem ty_1_5 {l l0 : List UInt8} (h0 : nx 10 l = (5, l0)) : BSim Tryz.prog 23 [.ptr 0 0, .int .i64 (.ofNat 1), .int .i64 (.ofNat (m + 2))] [cD l v] [cD ((leafOf v T 1 5 l0).2) v] (exA ((leafOf v T 1 5 l0).1)) := by
  show BSim Tryz.prog 23 [.ptr 0 0, .int .i64 (.ofNat 1), .int .i64 (.ofNat (m + 2))] [cD l v] [cD ((nu (((T 6) (l0)).2)).2) v] (exA (.mk 30 [] Rt.zero [((T 6) (l0)).1, (nu (((T 6) (l0)).2)).1]))
  refine node (S := [eNext 0 10 l l0 v 5, eG 23 [.ptr 0 0, .int .i64 (.ofNat 6), .int .i64 (nOf m)] v (T 6) (l0), eG 41 [.ptr 0 0] v nu (((T 6) (l0)).2)]) ⟨eNext_ok h0, eG_ok (IT 6 (by decide)) rfl _, eG_ok (number_g v) rfl _, trivial⟩ 30 [((T 6) (l0)).1, (nu (((T 6) (l0)).2)).1] 2 (by omega) (fun c => gB (inI64 (nOf m)) (gC (eNext 0 10 l l0 v 5) (gC (eG 23 [.ptr 0 0, .int .i64 (.ofNat 6), .int .i64 (nOf m)] v (T 6) (l0)) (gC (eG 41 [.ptr 0 0] v nu (((T 6) (l0)).2)) (c))))) ?_ (fun I => by kernel_rfl)
  · intro c hc; simp only [gC_iff, gB_iff]; exact ⟨nOf_in hm100, hc⟩
include hm100 hv IT IP IA in
theorem ty_1_6 {l l0 : List UInt8} (h0 : nx 10 l = (6, l0)) : BSim Tryz.prog 23 [.ptr 0 0, .int .i64 (.ofNat 1), .int .i64 (.ofNat (m + 2))] [cD l v] [cD ((leafOf v T 1 6 l0).2) v] (exA ((leafOf v T 1 6 l0).1)) := by
  show BSim Tryz.prog 23 [.ptr 0 0, .int .i64 (.ofNat 1), .int .i64 (.ofNat (m + 2))] [cD l v] [cD (((T 5) (l0)).2) v] (exA (.mk 27 [] Rt.zero [((T 5) (l0)).1]))
  refine node (S := [eNext 0 10 l l0 v 6, eG 23 [.ptr 0 0, .int .i64 (.ofNat 5), .int .i64 (nOf m)] v (T 5) (l0)]) ⟨eNext_ok h0, eG_ok (IT 5 (by decide)) rfl _, trivial⟩ 27 [((T 5) (l0)).1] 2 (by omega) (fun c => gB (inI64 (nOf m)) (gC (eNext 0 10 l l0 v 6) (gC (eG 23 [.ptr 0 0, .int .i64 (.ofNat 5), .int .i64 (nOf m)] v (T 5) (l0)) (c)))) ?_ (fun I => by kernel_rfl)
  · intro c hc; simp only [gC_iff, gB_iff]; exact ⟨nOf_in hm100, hc⟩
include hm100 hv IT IP IA in
theorem ty_1_7 {l l0 : List UInt8} (h0 : nx 10 l = (7, l0)) : BSim Tryz.prog 23 [.ptr 0 0, .int .i64 (.ofNat 1), .int .i64 (.ofNat (m + 2))] [cD l v] [cD ((leafOf v T 1 7 l0).2) v] (exA ((leafOf v T 1 7 l0).1)) := by
  show BSim Tryz.prog 23 [.ptr 0 0, .int .i64 (.ofNat 1), .int .i64 (.ofNat (m + 2))] [cD l v] [cD (((T 5) (l0)).2) v] (exA (.mk 26 [] Rt.zero [((T 5) (l0)).1]))
  refine node (S := [eNext 0 10 l l0 v 7, eG 23 [.ptr 0 0, .int .i64 (.ofNat 5), .int .i64 (nOf m)] v (T 5) (l0)]) ⟨eNext_ok h0, eG_ok (IT 5 (by decide)) rfl _, trivial⟩ 26 [((T 5) (l0)).1] 2 (by omega) (fun c => gB (inI64 (nOf m)) (gC (eNext 0 10 l l0 v 7) (gC (eG 23 [.ptr 0 0, .int .i64 (.ofNat 5), .int .i64 (nOf m)] v (T 5) (l0)) (c)))) ?_ (fun I => by kernel_rfl)
  · intro c hc; simp only [gC_iff, gB_iff]; exact ⟨nOf_in hm100, hc⟩
include hm100 hv IT IP IA in
theorem ty_1_8 {l l0 : List UInt8} (h0 : nx 10 l = (8, l0)) : BSim Tryz.prog 23 [.ptr 0 0, .int .i64 (.ofNat 1), .int .i64 (.ofNat (m + 2))] [cD l v] [cD ((leafOf v T 1 8 l0).2) v] (exA ((leafOf v T 1 8 l0).1)) := by
  show BSim Tryz.prog 23 [.ptr 0 0, .int .i64 (.ofNat 1), .int .i64 (.ofNat (m + 2))] [cD l v] [cD (((T 5) (l0)).2) v] (exA (.mk 26 [] Rt.zero [((T 5) (l0)).1]))
  refine node (S := [eNext 0 10 l l0 v 8, eG 23 [.ptr 0 0, .int .i64 (.ofNat 5), .int .i64 (nOf m)] v (T 5) (l0)]) ⟨eNext_ok h0, eG_ok (IT 5 (by decide)) rfl _, trivial⟩ 26 [((T 5) (l0)).1] 2 (by omega) (fun c => gB (inI64 (nOf m)) (gC (eNext 0 10 l l0 v 8) (gC (eG 23 [.ptr 0 0, .int .i64 (.ofNat 5), .int .i64 (nOf m)] v (T 5) (l0)) (c)))) ?_ (fun I => by kernel_rfl)
  · intro c hc; simp only [gC_iff, gB_iff]; exact ⟨nOf_in hm100, hc⟩
include hm100 hv IT IP IA in
theorem ty_1_9 {l l0 : List UInt8} (h0 : nx 10 l = (9, l0)) : BSim Tryz.prog 23 [.ptr 0 0, .int .i64 (.ofNat 1), .int .i64 (.ofNat (m + 2))] [cD l v] [cD ((leafOf v T 1 9 l0).2) v] (exA ((leafOf v T 1 9 l0).1)) := by
  show BSim Tryz.prog 23 [.ptr 0 0, .int .i64 (.ofNat 1), .int .i64 (.ofNat (m + 2))] [cD l v] [cD (((T 5) (l0)).2) v] (exA (.mk 26 [] Rt.zero [((T 5) (l0)).1]))
  refine node (S := [eNext 0 10 l l0 v 9, eG 23 [.ptr 0 0, .int .i64 (.ofNat 5), .int .i64 (nOf m)] v (T 5) (l0)]) ⟨eNext_ok h0, eG_ok (IT 5 (by decide)) rfl _, trivial⟩ 26 [((T 5) (l0)).1] 2 (by omega) (fun c => gB (inI64 (nOf m)) (gC (eNext 0 10 l l0 v 9) (gC (eG 23 [.ptr 0 0, .int .i64 (.ofNat 5), .int .i64 (nOf m)] v (T 5) (l0)) (c)))) ?_ (fun I => by kernel_rfl)
  · intro c hc; simp only [gC_iff, gB_iff]; exact ⟨nOf_in hm100, hc⟩
include hm100 hv IT IP IA in
theorem ty_4_0 {l l0 : List UInt8} (h0 : nx 10 l = (0, l0)) : BSim Tryz.prog 23 [.ptr 0 0, .int .i64 (.ofNat 4), .int .i64 (.ofNat (m + 2))] [cD l v] [cD ((leafOf v T 4 0 l0).2) v] (exA ((leafOf v T 4 0 l0).1)) := by
  show BSim Tryz.prog 23 [.ptr 0 0, .int .i64 (.ofNat 4), .int .i64 (.ofNat (m + 2))] [cD l v] [cD ((nu ((nu (l0)).2)).2) v] (exA (.mk 6 [] Rt.zero [(nu (l0)).1, (nu ((nu (l0)).2)).1]))
  refine node (S := [eNext 0 10 l l0 v 0, eG 41 [.ptr 0 0] v nu (l0), eG 41 [.ptr 0 0] v nu ((nu (l0)).2)]) ⟨eNext_ok h0, eG_ok (number_g v) rfl _, eG_ok (number_g v) rfl _, trivial⟩ 6 [(nu (l0)).1, (nu ((nu (l0)).2)).1] 2 (by omega) (fun c => gB (inI64 (nOf m)) (gC (eNext 0 10 l l0 v 0) (gC (eG 41 [.ptr 0 0] v nu (l0)) (gC (eG 41 [.ptr 0 0] v nu ((nu (l0)).2)) (c))))) ?_ (fun I => by kernel_rfl)
  · intro c hc; simp only [gC_iff, gB_iff]; exact ⟨nOf_in hm100, hc⟩
include hm100 hv IT IP IA in
theorem ty_4_1 {l l0 : List UInt8} (h0 : nx 10 l = (1, l0)) : BSim Tryz.prog 23 [.ptr 0 0, .int .i64 (.ofNat 4), .int .i64 (.ofNat (m + 2))] [cD l v] [cD ((leafOf v T 4 1 l0).2) v] (exA ((leafOf v T 4 1 l0).1)) := by
  show BSim Tryz.prog 23 [.ptr 0 0, .int .i64 (.ofNat 4), .int .i64 (.ofNat (m + 2))] [cD l v] [cD (((T 4) (((T 4) (l0)).2)).2) v] (exA (.mk 7 [] Rt.zero [((T 4) (l0)).1, ((T 4) (((T 4) (l0)).2)).1]))
  refine node (S := [eNext 0 10 l l0 v 1, eG 23 [.ptr 0 0, .int .i64 (.ofNat 4), .int .i64 (nOf m)] v (T 4) (l0), eG 23 [.ptr 0 0, .int .i64 (.ofNat 4), .int .i64 (nOf m)] v (T 4) (((T 4) (l0)).2)]) ⟨eNext_ok h0, eG_ok (IT 4 (by decide)) rfl _, eG_ok (IT 4 (by decide)) rfl _, trivial⟩ 7 [((T 4) (l0)).1, ((T 4) (((T 4) (l0)).2)).1] 2 (by omega) (fun c => gB (inI64 (nOf m)) (gC (eNext 0 10 l l0 v 1) (gC (eG 23 [.ptr 0 0, .int .i64 (.ofNat 4), .int .i64 (nOf m)] v (T 4) (l0)) (gC (eG 23 [.ptr 0 0, .int .i64 (.ofNat 4), .int .i64 (nOf m)] v (T 4) (((T 4) (l0)).2)) (c))))) ?_ (fun I => by kernel_rfl)
  · intro c hc; simp only [gC_iff, gB_iff]; exact ⟨nOf_in hm100, hc⟩
include hm100 hv IT IP IA in
theorem ty_4_2 {l l0 : List UInt8} (h0 : nx 10 l = (2, l0)) : BSim Tryz.prog 23 [.ptr 0 0, .int .i64 (.ofNat 4), .int .i64 (.ofNat (m + 2))] [cD l v] [cD ((leafOf v T 4 2 l0).2) v] (exA ((leafOf v T 4 2 l0).1)) := by
  show BSim Tryz.prog 23 [.ptr 0 0, .int .i64 (.ofNat 4), .int .i64 (.ofNat (m + 2))] [cD l v] [cD (((T 4) (((T 4) (l0)).2)).2) v] (exA (.mk 8 [] Rt.zero [((T 4) (l0)).1, ((T 4) (((T 4) (l0)).2)).1]))
  refine node (S := [eNext 0 10 l l0 v 2, eG 23 [.ptr 0 0, .int .i64 (.ofNat 4), .int .i64 (nOf m)] v (T 4) (l0), eG 23 [.ptr 0 0, .int .i64 (.ofNat 4), .int .i64 (nOf m)] v (T 4) (((T 4) (l0)).2)]) ⟨eNext_ok h0, eG_ok (IT 4 (by decide)) rfl _, eG_ok (IT 4 (by decide)) rfl _, trivial⟩ 8 [((T 4) (l0)).1, ((T 4) (((T 4) (l0)).2)).1] 2 (by omega) (fun c => gB (inI64 (nOf m)) (gC (eNext 0 10 l l0 v 2) (gC (eG 23 [.ptr 0 0, .int .i64 (.ofNat 4), .int .i64 (nOf m)] v (T 4) (l0)) (gC (eG 23 [.ptr 0 0, .int .i64 (.ofNat 4), .int .i64 (nOf m)] v (T 4) (((T 4) (l0)).2)) (c))))) ?_ (fun I => by kernel_rfl)
  · intro c hc; simp only [gC_iff, gB_iff]; exact ⟨nOf_in hm100, hc⟩
include hm100 hv IT IP IA in
theorem ty_4_3 {l l0 : List UInt8} (h0 : nx 10 l = (3, l0)) : BSim Tryz.prog 23 [.ptr 0 0, .int .i64 (.ofNat 4), .int .i64 (.ofNat (m + 2))] [cD l v] [cD ((leafOf v T 4 3 l0).2) v] (exA ((leafOf v T 4 3 l0).1)) := by
  show BSim Tryz.prog 23 [.ptr 0 0, .int .i64 (.ofNat 4), .int .i64 (.ofNat (m + 2))] [cD l v] [cD (((T 4) (((T 4) (l0)).2)).2) v] (exA (.mk 9 [] Rt.zero [((T 4) (l0)).1, ((T 4) (((T 4) (l0)).2)).1]))
  refine node (S := [eNext 0 10 l l0 v 3, eG 23 [.ptr 0 0, .int .i64 (.ofNat 4), .int .i64 (nOf m)] v (T 4) (l0), eG 23 [.ptr 0 0, .int .i64 (.ofNat 4), .int .i64 (nOf m)] v (T 4) (((T 4) (l0)).2)]) ⟨eNext_ok h0, eG_ok (IT 4 (by decide)) rfl _, eG_ok (IT 4 (by decide)) rfl _, trivial⟩ 9 [((T 4) (l0)).1, ((T 4) (((T 4) (l0)).2)).1] 2 (by omega) (fun c => gB (inI64 (nOf m)) (gC (eNext 0 10 l l0 v 3) (gC (eG 23 [.ptr 0 0, .int .i64 (.ofNat 4), .int .i64 (nOf m)] v (T 4) (l0)) (gC (eG 23 [.ptr 0 0, .int .i64 (.ofNat 4), .int .i64 (nOf m)] v (T 4) (((T 4) (l0)).2)) (c))))) ?_ (fun I => by kernel_rfl)
  · intro c hc; simp only [gC_iff, gB_iff]; exact ⟨nOf_in hm100, hc⟩
include hm100 hv IT IP IA in
theorem ty_4_4 {l l0 : List UInt8} (h0 : nx 10 l = (4, l0)) : BSim Tryz.prog 23 [.ptr 0 0, .int .i64 (.ofNat 4), .int .i64 (.ofNat (m + 2))] [cD l v] [cD ((leafOf v T 4 4 l0).2) v] (exA ((leafOf v T 4 4 l0).1)) := by
  show BSim Tryz.prog 23 [.ptr 0 0, .int .i64 (.ofNat 4), .int .i64 (.ofNat (m + 2))] [cD l v] [cD (((T 5) (l0)).2) v] (exA (.mk 10 [] Rt.zero [((T 5) (l0)).1]))
  refine node (S := [eNext 0 10 l l0 v 4, eG 23 [.ptr 0 0, .int .i64 (.ofNat 5), .int .i64 (nOf m)] v (T 5) (l0)]) ⟨eNext_ok h0, eG_ok (IT 5 (by decide)) rfl _, trivial⟩ 10 [((T 5) (l0)).1] 2 (by omega) (fun c => gB (inI64 (nOf m)) (gC (eNext 0 10 l l0 v 4) (gC (eG 23 [.ptr 0 0, .int .i64 (.ofNat 5), .int .i64 (nOf m)] v (T 5) (l0)) (c)))) ?_ (fun I => by kernel_rfl)
  · intro c hc; simp only [gC_iff, gB_iff]; exact ⟨nOf_in hm100, hc⟩
include hm100 hv IT IP IA in
theorem ty_4_5 {l l0 : List UInt8} (h0 : nx 10 l = (5, l0)) : BSim Tryz.prog 23 [.ptr 0 0, .int .i64 (.ofNat 4), .int .i64 (.ofNat (m + 2))] [cD l v] [cD ((leafOf v T 4 5 l0).2) v] (exA ((leafOf v T 4 5 l0).1)) := by
  show BSim Tryz.prog 23 [.ptr 0 0, .int .i64 (.ofNat 4), .int .i64 (.ofNat (m + 2))] [cD l v] [cD (((T 5) (l0)).2) v] (exA (.mk 10 [] Rt.zero [((T 5) (l0)).1]))
  refine node (S := [eNext 0 10 l l0 v 5, eG 23 [.ptr 0 0, .int .i64 (.ofNat 5), .int .i64 (nOf m)] v (T 5) (l0)]) ⟨eNext_ok h0, eG_ok (IT 5 (by decide)) rfl _, trivial⟩ 10 [((T 5) (l0)).1] 2 (by omega) (fun c => gB (inI64 (nOf m)) (gC (eNext 0 10 l l0 v 5) (gC (eG 23 [.ptr 0 0, .int .i64 (.ofNat 5), .int .i64 (nOf m)] v (T 5) (l0)) (c)))) ?_ (fun I => by kernel_rfl)
  · intro c hc; simp only [gC_iff, gB_iff]; exact ⟨nOf_in hm100, hc⟩
include hm100 hv IT IP IA in
theorem ty_4_6 {l l0 : List UInt8} (h0 : nx 10 l = (6, l0)) : BSim Tryz.prog 23 [.ptr 0 0, .int .i64 (.ofNat 4), .int .i64 (.ofNat (m + 2))] [cD l v] [cD ((leafOf v T 4 6 l0).2) v] (exA ((leafOf v T 4 6 l0).1)) := by
  show BSim Tryz.prog 23 [.ptr 0 0, .int .i64 (.ofNat 4), .int .i64 (.ofNat (m + 2))] [cD l v] [cD ((dfn T l0).2) v] (exA ((dfn T l0).1))
  obtain ⟨j, l1, hj⟩ : ∃ j l1, nx 4 l0 = (j, l1) := ⟨_, _, rfl⟩
  have hj4 : j < 4 := by have := nx_lt (m := 4) l0 (by omega); rw [hj] at this; exact this
  have e1 : (dfn T l0).2 = (T (5 + j) l1).2 := by unfold dfn; rw [hj]; rfl
  have e2 : (dfn T l0).1 = .mk 11 [] Rt.zero [(T (5 + j) l1).1] := by unfold dfn; rw [hj]; rfl
  rw [e1, e2]
  have hj' : j = 0 ∨ j = 1 ∨ j = 2 ∨ j = 3 := by omega
  rcases hj' with rfl | rfl | rfl | rfl
  · refine node (S := [eNext 0 10 l l0 v 6, eNext 0 4 l0 l1 v 0, eG 23 [.ptr 0 0, .int .i64 (.ofNat 5), .int .i64 (nOf m)] v (T 5) (l1)]) ⟨eNext_ok h0, eNext_ok hj, eG_ok (IT 5 (by decide)) rfl _, trivial⟩ 11 [(T 5 l1).1] 2 (by omega) (fun c => gB (inI64 (nOf m)) (gC (eNext 0 10 l l0 v 6) (gC (eNext 0 4 l0 l1 v 0) (gC (eG 23 [.ptr 0 0, .int .i64 (.ofNat 5), .int .i64 (nOf m)] v (T 5) (l1)) c)))) ?_ (fun I => by kernel_rfl)
    intro c hc; simp only [gC_iff, gB_iff]; exact ⟨nOf_in hm100, hc⟩
  · refine node (S := [eNext 0 10 l l0 v 6, eNext 0 4 l0 l1 v 1, eG 23 [.ptr 0 0, .int .i64 (.ofNat 6), .int .i64 (nOf m)] v (T 6) (l1)]) ⟨eNext_ok h0, eNext_ok hj, eG_ok (IT 6 (by decide)) rfl _, trivial⟩ 11 [(T 6 l1).1] 2 (by omega) (fun c => gB (inI64 (nOf m)) (gC (eNext 0 10 l l0 v 6) (gC (eNext 0 4 l0 l1 v 1) (gC (eG 23 [.ptr 0 0, .int .i64 (.ofNat 6), .int .i64 (nOf m)] v (T 6) (l1)) c)))) ?_ (fun I => by kernel_rfl)
    intro c hc; simp only [gC_iff, gB_iff]; exact ⟨nOf_in hm100, hc⟩
  · refine node (S := [eNext 0 10 l l0 v 6, eNext 0 4 l0 l1 v 2, eG 23 [.ptr 0 0, .int .i64 (.ofNat 7), .int .i64 (nOf m)] v (T 7) (l1)]) ⟨eNext_ok h0, eNext_ok hj, eG_ok (IT 7 (by decide)) rfl _, trivial⟩ 11 [(T 7 l1).1] 2 (by omega) (fun c => gB (inI64 (nOf m)) (gC (eNext 0 10 l l0 v 6) (gC (eNext 0 4 l0 l1 v 2) (gC (eG 23 [.ptr 0 0, .int .i64 (.ofNat 7), .int .i64 (nOf m)] v (T 7) (l1)) c)))) ?_ (fun I => by kernel_rfl)
    intro c hc; simp only [gC_iff, gB_iff]; exact ⟨nOf_in hm100, hc⟩
  · refine node (S := [eNext 0 10 l l0 v 6, eNext 0 4 l0 l1 v 3, eG 23 [.ptr 0 0, .int .i64 (.ofNat 8), .int .i64 (nOf m)] v (T 8) (l1)]) ⟨eNext_ok h0, eNext_ok hj, eG_ok (IT 8 (by decide)) rfl _, trivial⟩ 11 [(T 8 l1).1] 2 (by omega) (fun c => gB (inI64 (nOf m)) (gC (eNext 0 10 l l0 v 6) (gC (eNext 0 4 l0 l1 v 3) (gC (eG 23 [.ptr 0 0, .int .i64 (.ofNat 8), .int .i64 (nOf m)] v (T 8) (l1)) c)))) ?_ (fun I => by kernel_rfl)
    intro c hc; simp only [gC_iff, gB_iff]; exact ⟨nOf_in hm100, hc⟩
include hm100 hv IT IP IA in
theorem ty_4_7 {l l0 : List UInt8} (h0 : nx 10 l = (7, l0)) : BSim Tryz.prog 23 [.ptr 0 0, .int .i64 (.ofNat 4), .int .i64 (.ofNat (m + 2))] [cD l v] [cD ((leafOf v T 4 7 l0).2) v] (exA ((leafOf v T 4 7 l0).1)) := by
  show BSim Tryz.prog 23 [.ptr 0 0, .int .i64 (.ofNat 4), .int .i64 (.ofNat (m + 2))] [cD l v] [cD ((dfn T l0).2) v] (exA ((dfn T l0).1))
  obtain ⟨j, l1, hj⟩ : ∃ j l1, nx 4 l0 = (j, l1) := ⟨_, _, rfl⟩
  have hj4 : j < 4 := by have := nx_lt (m := 4) l0 (by omega); rw [hj] at this; exact this
  have e1 : (dfn T l0).2 = (T (5 + j) l1).2 := by unfold dfn; rw [hj]; rfl
  have e2 : (dfn T l0).1 = .mk 11 [] Rt.zero [(T (5 + j) l1).1] := by unfold dfn; rw [hj]; rfl
  rw [e1, e2]
  have hj' : j = 0 ∨ j = 1 ∨ j = 2 ∨ j = 3 := by omega
  rcases hj' with rfl | rfl | rfl | rfl
  · refine node (S := [eNext 0 10 l l0 v 7, eNext 0 4 l0 l1 v 0, eG 23 [.ptr 0 0, .int .i64 (.ofNat 5), .int .i64 (nOf m)] v (T 5) (l1)]) ⟨eNext_ok h0, eNext_ok hj, eG_ok (IT 5 (by decide)) rfl _, trivial⟩ 11 [(T 5 l1).1] 2 (by omega) (fun c => gB (inI64 (nOf m)) (gC (eNext 0 10 l l0 v 7) (gC (eNext 0 4 l0 l1 v 0) (gC (eG 23 [.ptr 0 0, .int .i64 (.ofNat 5), .int .i64 (nOf m)] v (T 5) (l1)) c)))) ?_ (fun I => by kernel_rfl)
    intro c hc; simp only [gC_iff, gB_iff]; exact ⟨nOf_in hm100, hc⟩
  · refine node (S := [eNext 0 10 l l0 v 7, eNext 0 4 l0 l1 v 1, eG 23 [.ptr 0 0, .int .i64 (.ofNat 6), .int .i64 (nOf m)] v (T 6) (l1)]) ⟨eNext_ok h0, eNext_ok hj, eG_ok (IT 6 (by decide)) rfl _, trivial⟩ 11 [(T 6 l1).1] 2 (by omega) (fun c => gB (inI64 (nOf m)) (gC (eNext 0 10 l l0 v 7) (gC (eNext 0 4 l0 l1 v 1) (gC (eG 23 [.ptr 0 0, .int .i64 (.ofNat 6), .int .i64 (nOf m)] v (T 6) (l1)) c)))) ?_ (fun I => by kernel_rfl)
    intro c hc; simp only [gC_iff, gB_iff]; exact ⟨nOf_in hm100, hc⟩
  · refine node (S := [eNext 0 10 l l0 v 7, eNext 0 4 l0 l1 v 2, eG 23 [.ptr 0 0, .int .i64 (.ofNat 7), .int .i64 (nOf m)] v (T 7) (l1)]) ⟨eNext_ok h0, eNext_ok hj, eG_ok (IT 7 (by decide)) rfl _, trivial⟩ 11 [(T 7 l1).1] 2 (by omega) (fun c => gB (inI64 (nOf m)) (gC (eNext 0 10 l l0 v 7) (gC (eNext 0 4 l0 l1 v 2) (gC (eG 23 [.ptr 0 0, .int .i64 (.ofNat 7), .int .i64 (nOf m)] v (T 7) (l1)) c)))) ?_ (fun I => by kernel_rfl)
    intro c hc; simp only [gC_iff, gB_iff]; exact ⟨nOf_in hm100, hc⟩
  · refine node (S := [eNext 0 10 l l0 v 7, eNext 0 4 l0 l1 v 3, eG 23 [.ptr 0 0, .int .i64 (.ofNat 8), .int .i64 (nOf m)] v (T 8) (l1)]) ⟨eNext_ok h0, eNext_ok hj, eG_ok (IT 8 (by decide)) rfl _, trivial⟩ 11 [(T 8 l1).1] 2 (by omega) (fun c => gB (inI64 (nOf m)) (gC (eNext 0 10 l l0 v 7) (gC (eNext 0 4 l0 l1 v 3) (gC (eG 23 [.ptr 0 0, .int .i64 (.ofNat 8), .int .i64 (nOf m)] v (T 8) (l1)) c)))) ?_ (fun I => by kernel_rfl)
    intro c hc; simp only [gC_iff, gB_iff]; exact ⟨nOf_in hm100, hc⟩
include hm100 hv IT IP IA in
theorem ty_4_8 {l l0 : List UInt8} (h0 : nx 10 l = (8, l0)) : BSim Tryz.prog 23 [.ptr 0 0, .int .i64 (.ofNat 4), .int .i64 (.ofNat (m + 2))] [cD l v] [cD ((leafOf v T 4 8 l0).2) v] (exA ((leafOf v T 4 8 l0).1)) := by
  show BSim Tryz.prog 23 [.ptr 0 0, .int .i64 (.ofNat 4), .int .i64 (.ofNat (m + 2))] [cD l v] [cD ((nu ((nu (l0)).2)).2) v] (exA (.mk 6 [] Rt.zero [(nu (l0)).1, (nu ((nu (l0)).2)).1]))
  refine node (S := [eNext 0 10 l l0 v 8, eG 41 [.ptr 0 0] v nu (l0), eG 41 [.ptr 0 0] v nu ((nu (l0)).2)]) ⟨eNext_ok h0, eG_ok (number_g v) rfl _, eG_ok (number_g v) rfl _, trivial⟩ 6 [(nu (l0)).1, (nu ((nu (l0)).2)).1] 2 (by omega) (fun c => gB (inI64 (nOf m)) (gC (eNext 0 10 l l0 v 8) (gC (eG 41 [.ptr 0 0] v nu (l0)) (gC (eG 41 [.ptr 0 0] v nu ((nu (l0)).2)) (c))))) ?_ (fun I => by kernel_rfl)
  · intro c hc; simp only [gC_iff, gB_iff]; exact ⟨nOf_in hm100, hc⟩
include hm100 hv IT IP IA in
theorem ty_4_9 {l l0 : List UInt8} (h0 : nx 10 l = (9, l0)) : BSim Tryz.prog 23 [.ptr 0 0, .int .i64 (.ofNat 4), .int .i64 (.ofNat (m + 2))] [cD l v] [cD ((leafOf v T 4 9 l0).2) v] (exA ((leafOf v T 4 9 l0).1)) := by
  show BSim Tryz.prog 23 [.ptr 0 0, .int .i64 (.ofNat 4), .int .i64 (.ofNat (m + 2))] [cD l v] [cD ((nu ((nu (l0)).2)).2) v] (exA (.mk 6 [] Rt.zero [(nu (l0)).1, (nu ((nu (l0)).2)).1]))
  refine node (S := [eNext 0 10 l l0 v 9, eG 41 [.ptr 0 0] v nu (l0), eG 41 [.ptr 0 0] v nu ((nu (l0)).2)]) ⟨eNext_ok h0, eG_ok (number_g v) rfl _, eG_ok (number_g v) rfl _, trivial⟩ 6 [(nu (l0)).1, (nu ((nu (l0)).2)).1] 2 (by omega) (fun c => gB (inI64 (nOf m)) (gC (eNext 0 10 l l0 v 9) (gC (eG 41 [.ptr 0 0] v nu (l0)) (gC (eG 41 [.ptr 0 0] v nu ((nu (l0)).2)) (c))))) ?_ (fun I => by kernel_rfl)
  · intro c hc; simp only [gC_iff, gB_iff]; exact ⟨nOf_in hm100, hc⟩
include hm100 hv IT IP IA in
theorem ty_5_0 {l l0 : List UInt8} (h0 : nx 10 l = (0, l0)) : BSim Tryz.prog 23 [.ptr 0 0, .int .i64 (.ofNat 5), .int .i64 (.ofNat (m + 2))] [cD l v] [cD ((leafOf v T 5 0 l0).2) v] (exA ((leafOf v T 5 0 l0).1)) := by
  show BSim Tryz.prog 23 [.ptr 0 0, .int .i64 (.ofNat 5), .int .i64 (.ofNat (m + 2))] [cD l v] [cD ((nu (((plc T) (((pt v) (l0)).2)).2)).2) v] (exA (.mk 15 [] Rt.zero [((pt v) (l0)).1, ((plc T) (((pt v) (l0)).2)).1, (nu (((plc T) (((pt v) (l0)).2)).2)).1]))
  refine node (S := [eNext 0 10 l l0 v 0, eG 42 [.ptr 0 0] v (pt v) (l0), eG 43 [.ptr 0 0, .int .i64 (nOf m)] v (plc T) (((pt v) (l0)).2), eG 41 [.ptr 0 0] v nu (((plc T) (((pt v) (l0)).2)).2)]) ⟨eNext_ok h0, eG_ok (point_g v hv) rfl _, eG_ok IP rfl _, eG_ok (number_g v) rfl _, trivial⟩ 15 [((pt v) (l0)).1, ((plc T) (((pt v) (l0)).2)).1, (nu (((plc T) (((pt v) (l0)).2)).2)).1] 2 (by omega) (fun c => gB (inI64 (nOf m)) (gC (eNext 0 10 l l0 v 0) (gC (eG 42 [.ptr 0 0] v (pt v) (l0)) (gC (eG 43 [.ptr 0 0, .int .i64 (nOf m)] v (plc T) (((pt v) (l0)).2)) (gC (eG 41 [.ptr 0 0] v nu (((plc T) (((pt v) (l0)).2)).2)) (c)))))) ?_ (fun I => by kernel_rfl)
  · intro c hc; simp only [gC_iff, gB_iff]; exact ⟨nOf_in hm100, hc⟩
include hm100 hv IT IP IA in
theorem ty_5_1 {l l0 : List UInt8} (h0 : nx 10 l = (1, l0)) : BSim Tryz.prog 23 [.ptr 0 0, .int .i64 (.ofNat 5), .int .i64 (.ofNat (m + 2))] [cD l v] [cD ((leafOf v T 5 1 l0).2) v] (exA ((leafOf v T 5 1 l0).1)) := by
  show BSim Tryz.prog 23 [.ptr 0 0, .int .i64 (.ofNat 5), .int .i64 (.ofNat (m + 2))] [cD l v] [cD (((T 8) (((T 7) (l0)).2)).2) v] (exA (.mk 16 [] Rt.zero [((T 7) (l0)).1, ((T 8) (((T 7) (l0)).2)).1]))
  refine node (S := [eNext 0 10 l l0 v 1, eG 23 [.ptr 0 0, .int .i64 (.ofNat 7), .int .i64 (nOf m)] v (T 7) (l0), eG 23 [.ptr 0 0, .int .i64 (.ofNat 8), .int .i64 (nOf m)] v (T 8) (((T 7) (l0)).2)]) ⟨eNext_ok h0, eG_ok (IT 7 (by decide)) rfl _, eG_ok (IT 8 (by decide)) rfl _, trivial⟩ 16 [((T 7) (l0)).1, ((T 8) (((T 7) (l0)).2)).1] 2 (by omega) (fun c => gB (inI64 (nOf m)) (gC (eNext 0 10 l l0 v 1) (gC (eG 23 [.ptr 0 0, .int .i64 (.ofNat 7), .int .i64 (nOf m)] v (T 7) (l0)) (gC (eG 23 [.ptr 0 0, .int .i64 (.ofNat 8), .int .i64 (nOf m)] v (T 8) (((T 7) (l0)).2)) (c))))) ?_ (fun I => by kernel_rfl)
  · intro c hc; simp only [gC_iff, gB_iff]; exact ⟨nOf_in hm100, hc⟩
include hm100 hv IT IP IA in
theorem ty_5_2 {l l0 : List UInt8} (h0 : nx 10 l = (2, l0)) : BSim Tryz.prog 23 [.ptr 0 0, .int .i64 (.ofNat 5), .int .i64 (.ofNat (m + 2))] [cD l v] [cD ((leafOf v T 5 2 l0).2) v] (exA ((leafOf v T 5 2 l0).1)) := by
  show BSim Tryz.prog 23 [.ptr 0 0, .int .i64 (.ofNat 5), .int .i64 (.ofNat (m + 2))] [cD l v] [cD (((T 8) (((T 7) (l0)).2)).2) v] (exA (.mk 16 [] Rt.zero [((T 7) (l0)).1, ((T 8) (((T 7) (l0)).2)).1]))
  refine node (S := [eNext 0 10 l l0 v 2, eG 23 [.ptr 0 0, .int .i64 (.ofNat 7), .int .i64 (nOf m)] v (T 7) (l0), eG 23 [.ptr 0 0, .int .i64 (.ofNat 8), .int .i64 (nOf m)] v (T 8) (((T 7) (l0)).2)]) ⟨eNext_ok h0, eG_ok (IT 7 (by decide)) rfl _, eG_ok (IT 8 (by decide)) rfl _, trivial⟩ 16 [((T 7) (l0)).1, ((T 8) (((T 7) (l0)).2)).1] 2 (by omega) (fun c => gB (inI64 (nOf m)) (gC (eNext 0 10 l l0 v 2) (gC (eG 23 [.ptr 0 0, .int .i64 (.ofNat 7), .int .i64 (nOf m)] v (T 7) (l0)) (gC (eG 23 [.ptr 0 0, .int .i64 (.ofNat 8), .int .i64 (nOf m)] v (T 8) (((T 7) (l0)).2)) (c))))) ?_ (fun I => by kernel_rfl)
  · intro c hc; simp only [gC_iff, gB_iff]; exact ⟨nOf_in hm100, hc⟩
include hm100 hv IT IP IA in
theorem ty_5_3 {l l0 : List UInt8} (h0 : nx 10 l = (3, l0)) : BSim Tryz.prog 23 [.ptr 0 0, .int .i64 (.ofNat 5), .int .i64 (.ofNat (m + 2))] [cD l v] [cD ((leafOf v T 5 3 l0).2) v] (exA ((leafOf v T 5 3 l0).1)) := by
  show BSim Tryz.prog 23 [.ptr 0 0, .int .i64 (.ofNat 5), .int .i64 (.ofNat (m + 2))] [cD l v] [cD (((amt T) (((T 6) (l0)).2)).2) v] (exA (.mk 21 [] Rt.zero [((T 6) (l0)).1, ((amt T) (((T 6) (l0)).2)).1]))
  refine node (S := [eNext 0 10 l l0 v 3, eG 23 [.ptr 0 0, .int .i64 (.ofNat 6), .int .i64 (nOf m)] v (T 6) (l0), eG 44 [.ptr 0 0, .int .i64 (nOf m)] v (amt T) (((T 6) (l0)).2)]) ⟨eNext_ok h0, eG_ok (IT 6 (by decide)) rfl _, eG_ok IA rfl _, trivial⟩ 21 [((T 6) (l0)).1, ((amt T) (((T 6) (l0)).2)).1] 2 (by omega) (fun c => gB (inI64 (nOf m)) (gC (eNext 0 10 l l0 v 3) (gC (eG 23 [.ptr 0 0, .int .i64 (.ofNat 6), .int .i64 (nOf m)] v (T 6) (l0)) (gC (eG 44 [.ptr 0 0, .int .i64 (nOf m)] v (amt T) (((T 6) (l0)).2)) (c))))) ?_ (fun I => by kernel_rfl)
  · intro c hc; simp only [gC_iff, gB_iff]; exact ⟨nOf_in hm100, hc⟩
include hm100 hv IT IP IA in
theorem ty_5_4 {l l0 : List UInt8} (h0 : nx 10 l = (4, l0)) : BSim Tryz.prog 23 [.ptr 0 0, .int .i64 (.ofNat 5), .int .i64 (.ofNat (m + 2))] [cD l v] [cD ((leafOf v T 5 4 l0).2) v] (exA ((leafOf v T 5 4 l0).1)) := by
  show BSim Tryz.prog 23 [.ptr 0 0, .int .i64 (.ofNat 5), .int .i64 (.ofNat (m + 2))] [cD l v] [cD (((amt T) (((T 6) (l0)).2)).2) v] (exA (.mk 22 [] Rt.zero [((T 6) (l0)).1, ((amt T) (((T 6) (l0)).2)).1]))
  refine node (S := [eNext 0 10 l l0 v 4, eG 23 [.ptr 0 0, .int .i64 (.ofNat 6), .int .i64 (nOf m)] v (T 6) (l0), eG 44 [.ptr 0 0, .int .i64 (nOf m)] v (amt T) (((T 6) (l0)).2)]) ⟨eNext_ok h0, eG_ok (IT 6 (by decide)) rfl _, eG_ok IA rfl _, trivial⟩ 22 [((T 6) (l0)).1, ((amt T) (((T 6) (l0)).2)).1] 2 (by omega) (fun c => gB (inI64 (nOf m)) (gC (eNext 0 10 l l0 v 4) (gC (eG 23 [.ptr 0 0, .int .i64 (.ofNat 6), .int .i64 (nOf m)] v (T 6) (l0)) (gC (eG 44 [.ptr 0 0, .int .i64 (nOf m)] v (amt T) (((T 6) (l0)).2)) (c))))) ?_ (fun I => by kernel_rfl)
  · intro c hc; simp only [gC_iff, gB_iff]; exact ⟨nOf_in hm100, hc⟩
include hm100 hv IT IP IA in
theorem ty_5_5 {l l0 : List UInt8} (h0 : nx 10 l = (5, l0)) : BSim Tryz.prog 23 [.ptr 0 0, .int .i64 (.ofNat 5), .int .i64 (.ofNat (m + 2))] [cD l v] [cD ((leafOf v T 5 5 l0).2) v] (exA ((leafOf v T 5 5 l0).1)) := by
  show BSim Tryz.prog 23 [.ptr 0 0, .int .i64 (.ofNat 5), .int .i64 (.ofNat (m + 2))] [cD l v] [cD (((T 5) (((T 5) (l0)).2)).2) v] (exA (.mk 23 [] Rt.zero [((T 5) (l0)).1, ((T 5) (((T 5) (l0)).2)).1]))
  refine node (S := [eNext 0 10 l l0 v 5, eG 23 [.ptr 0 0, .int .i64 (.ofNat 5), .int .i64 (nOf m)] v (T 5) (l0), eG 23 [.ptr 0 0, .int .i64 (.ofNat 5), .int .i64 (nOf m)] v (T 5) (((T 5) (l0)).2)]) ⟨eNext_ok h0, eG_ok (IT 5 (by decide)) rfl _, eG_ok (IT 5 (by decide)) rfl _, trivial⟩ 23 [((T 5) (l0)).1, ((T 5) (((T 5) (l0)).2)).1] 2 (by omega) (fun c => gB (inI64 (nOf m)) (gC (eNext 0 10 l l0 v 5) (gC (eG 23 [.ptr 0 0, .int .i64 (.ofNat 5), .int .i64 (nOf m)] v (T 5) (l0)) (gC (eG 23 [.ptr 0 0, .int .i64 (.ofNat 5), .int .i64 (nOf m)] v (T 5) (((T 5) (l0)).2)) (c))))) ?_ (fun I => by kernel_rfl)
  · intro c hc; simp only [gC_iff, gB_iff]; exact ⟨nOf_in hm100, hc⟩
include hm100 hv IT IP IA in
theorem ty_5_6 {l l0 : List UInt8} (h0 : nx 10 l = (6, l0)) : BSim Tryz.prog 23 [.ptr 0 0, .int .i64 (.ofNat 5), .int .i64 (.ofNat (m + 2))] [cD l v] [cD ((leafOf v T 5 6 l0).2) v] (exA ((leafOf v T 5 6 l0).1)) := by
  show BSim Tryz.prog 23 [.ptr 0 0, .int .i64 (.ofNat 5), .int .i64 (.ofNat (m + 2))] [cD l v] [cD (((T 5) (((T 5) (l0)).2)).2) v] (exA (.mk 24 [] Rt.zero [((T 5) (l0)).1, ((T 5) (((T 5) (l0)).2)).1]))
  refine node (S := [eNext 0 10 l l0 v 6, eG 23 [.ptr 0 0, .int .i64 (.ofNat 5), .int .i64 (nOf m)] v (T 5) (l0), eG 23 [.ptr 0 0, .int .i64 (.ofNat 5), .int .i64 (nOf m)] v (T 5) (((T 5) (l0)).2)]) ⟨eNext_ok h0, eG_ok (IT 5 (by decide)) rfl _, eG_ok (IT 5 (by decide)) rfl _, trivial⟩ 24 [((T 5) (l0)).1, ((T 5) (((T 5) (l0)).2)).1] 2 (by omega) (fun c => gB (inI64 (nOf m)) (gC (eNext 0 10 l l0 v 6) (gC (eG 23 [.ptr 0 0, .int .i64 (.ofNat 5), .int .i64 (nOf m)] v (T 5) (l0)) (gC (eG 23 [.ptr 0 0, .int .i64 (.ofNat 5), .int .i64 (nOf m)] v (T 5) (((T 5) (l0)).2)) (c))))) ?_ (fun I => by kernel_rfl)
  · intro c hc; simp only [gC_iff, gB_iff]; exact ⟨nOf_in hm100, hc⟩
include hm100 hv IT IP IA in
theorem ty_5_7 {l l0 : List UInt8} (h0 : nx 10 l = (7, l0)) : BSim Tryz.prog 23 [.ptr 0 0, .int .i64 (.ofNat 5), .int .i64 (.ofNat (m + 2))] [cD l v] [cD ((leafOf v T 5 7 l0).2) v] (exA ((leafOf v T 5 7 l0).1)) := by
  show BSim Tryz.prog 23 [.ptr 0 0, .int .i64 (.ofNat 5), .int .i64 (.ofNat (m + 2))] [cD l v] [cD (((T 5) (l0)).2) v] (exA (.mk 25 [] Rt.zero [((T 5) (l0)).1]))
  refine node (S := [eNext 0 10 l l0 v 7, eG 23 [.ptr 0 0, .int .i64 (.ofNat 5), .int .i64 (nOf m)] v (T 5) (l0)]) ⟨eNext_ok h0, eG_ok (IT 5 (by decide)) rfl _, trivial⟩ 25 [((T 5) (l0)).1] 2 (by omega) (fun c => gB (inI64 (nOf m)) (gC (eNext 0 10 l l0 v 7) (gC (eG 23 [.ptr 0 0, .int .i64 (.ofNat 5), .int .i64 (nOf m)] v (T 5) (l0)) (c)))) ?_ (fun I => by kernel_rfl)
  · intro c hc; simp only [gC_iff, gB_iff]; exact ⟨nOf_in hm100, hc⟩
include hm100 hv IT IP IA in
theorem ty_5_8 {l l0 : List UInt8} (h0 : nx 10 l = (8, l0)) : BSim Tryz.prog 23 [.ptr 0 0, .int .i64 (.ofNat 5), .int .i64 (.ofNat (m + 2))] [cD l v] [cD ((leafOf v T 5 8 l0).2) v] (exA ((leafOf v T 5 8 l0).1)) := by
  show BSim Tryz.prog 23 [.ptr 0 0, .int .i64 (.ofNat 5), .int .i64 (.ofNat (m + 2))] [cD l v] [cD (((T 4) (((T 5) (l0)).2)).2) v] (exA (.mk 12 [] Rt.zero [((T 5) (l0)).1, ((T 4) (((T 5) (l0)).2)).1]))
  refine node (S := [eNext 0 10 l l0 v 8, eG 23 [.ptr 0 0, .int .i64 (.ofNat 5), .int .i64 (nOf m)] v (T 5) (l0), eG 23 [.ptr 0 0, .int .i64 (.ofNat 4), .int .i64 (nOf m)] v (T 4) (((T 5) (l0)).2)]) ⟨eNext_ok h0, eG_ok (IT 5 (by decide)) rfl _, eG_ok (IT 4 (by decide)) rfl _, trivial⟩ 12 [((T 5) (l0)).1, ((T 4) (((T 5) (l0)).2)).1] 2 (by omega) (fun c => gB (inI64 (nOf m)) (gC (eNext 0 10 l l0 v 8) (gC (eG 23 [.ptr 0 0, .int .i64 (.ofNat 5), .int .i64 (nOf m)] v (T 5) (l0)) (gC (eG 23 [.ptr 0 0, .int .i64 (.ofNat 4), .int .i64 (nOf m)] v (T 4) (((T 5) (l0)).2)) (c))))) ?_ (fun I => by kernel_rfl)
  · intro c hc; simp only [gC_iff, gB_iff]; exact ⟨nOf_in hm100, hc⟩
include hm100 hv IT IP IA in
theorem ty_5_9 {l l0 : List UInt8} (h0 : nx 10 l = (9, l0)) : BSim Tryz.prog 23 [.ptr 0 0, .int .i64 (.ofNat 5), .int .i64 (.ofNat (m + 2))] [cD l v] [cD ((leafOf v T 5 9 l0).2) v] (exA ((leafOf v T 5 9 l0).1)) := by
  show BSim Tryz.prog 23 [.ptr 0 0, .int .i64 (.ofNat 5), .int .i64 (.ofNat (m + 2))] [cD l v] [cD ((nu (((T 5) (l0)).2)).2) v] (exA (.mk 29 [] Rt.zero [((T 5) (l0)).1, (nu (((T 5) (l0)).2)).1]))
  refine node (S := [eNext 0 10 l l0 v 9, eG 23 [.ptr 0 0, .int .i64 (.ofNat 5), .int .i64 (nOf m)] v (T 5) (l0), eG 41 [.ptr 0 0] v nu (((T 5) (l0)).2)]) ⟨eNext_ok h0, eG_ok (IT 5 (by decide)) rfl _, eG_ok (number_g v) rfl _, trivial⟩ 29 [((T 5) (l0)).1, (nu (((T 5) (l0)).2)).1] 2 (by omega) (fun c => gB (inI64 (nOf m)) (gC (eNext 0 10 l l0 v 9) (gC (eG 23 [.ptr 0 0, .int .i64 (.ofNat 5), .int .i64 (nOf m)] v (T 5) (l0)) (gC (eG 41 [.ptr 0 0] v nu (((T 5) (l0)).2)) (c))))) ?_ (fun I => by kernel_rfl)
  · intro c hc; simp only [gC_iff, gB_iff]; exact ⟨nOf_in hm100, hc⟩
include hm100 hv IT IP IA in
theorem ty_6_0 {l l0 : List UInt8} (h0 : nx 10 l = (0, l0)) : BSim Tryz.prog 23 [.ptr 0 0, .int .i64 (.ofNat 6), .int .i64 (.ofNat (m + 2))] [cD l v] [cD ((leafOf v T 6 0 l0).2) v] (exA ((leafOf v T 6 0 l0).1)) := by
  show BSim Tryz.prog 23 [.ptr 0 0, .int .i64 (.ofNat 6), .int .i64 (.ofNat (m + 2))] [cD l v] [cD (((pt v) (l0)).2) v] (exA (.mk 14 [] Rt.zero [((pt v) (l0)).1]))
  refine node (S := [eNext 0 10 l l0 v 0, eG 42 [.ptr 0 0] v (pt v) (l0)]) ⟨eNext_ok h0, eG_ok (point_g v hv) rfl _, trivial⟩ 14 [((pt v) (l0)).1] 2 (by omega) (fun c => gB (inI64 (nOf m)) (gC (eNext 0 10 l l0 v 0) (gC (eG 42 [.ptr 0 0] v (pt v) (l0)) (c)))) ?_ (fun I => by kernel_rfl)
  · intro c hc; simp only [gC_iff, gB_iff]; exact ⟨nOf_in hm100, hc⟩
include hm100 hv IT IP IA in
theorem ty_6_1 {l l0 : List UInt8} (h0 : nx 10 l = (1, l0)) : BSim Tryz.prog 23 [.ptr 0 0, .int .i64 (.ofNat 6), .int .i64 (.ofNat (m + 2))] [cD l v] [cD ((leafOf v T 6 1 l0).2) v] (exA ((leafOf v T 6 1 l0).1)) := by
  show BSim Tryz.prog 23 [.ptr 0 0, .int .i64 (.ofNat 6), .int .i64 (.ofNat (m + 2))] [cD l v] [cD (((plc T) (((T 7) (l0)).2)).2) v] (exA (.mk 13 [] Rt.zero [((T 7) (l0)).1, ((plc T) (((T 7) (l0)).2)).1]))
  refine node (S := [eNext 0 10 l l0 v 1, eG 23 [.ptr 0 0, .int .i64 (.ofNat 7), .int .i64 (nOf m)] v (T 7) (l0), eG 43 [.ptr 0 0, .int .i64 (nOf m)] v (plc T) (((T 7) (l0)).2)]) ⟨eNext_ok h0, eG_ok (IT 7 (by decide)) rfl _, eG_ok IP rfl _, trivial⟩ 13 [((T 7) (l0)).1, ((plc T) (((T 7) (l0)).2)).1] 2 (by omega) (fun c => gB (inI64 (nOf m)) (gC (eNext 0 10 l l0 v 1) (gC (eG 23 [.ptr 0 0, .int .i64 (.ofNat 7), .int .i64 (nOf m)] v (T 7) (l0)) (gC (eG 43 [.ptr 0 0, .int .i64 (nOf m)] v (plc T) (((T 7) (l0)).2)) (c))))) ?_ (fun I => by kernel_rfl)
  · intro c hc; simp only [gC_iff, gB_iff]; exact ⟨nOf_in hm100, hc⟩
include hm100 hv IT IP IA in
theorem ty_6_2 {l l0 : List UInt8} (h0 : nx 10 l = (2, l0)) : BSim Tryz.prog 23 [.ptr 0 0, .int .i64 (.ofNat 6), .int .i64 (.ofNat (m + 2))] [cD l v] [cD ((leafOf v T 6 2 l0).2) v] (exA ((leafOf v T 6 2 l0).1)) := by
  show BSim Tryz.prog 23 [.ptr 0 0, .int .i64 (.ofNat 6), .int .i64 (.ofNat (m + 2))] [cD l v] [cD (((plc T) (((T 7) (l0)).2)).2) v] (exA (.mk 13 [] Rt.zero [((T 7) (l0)).1, ((plc T) (((T 7) (l0)).2)).1]))
  refine node (S := [eNext 0 10 l l0 v 2, eG 23 [.ptr 0 0, .int .i64 (.ofNat 7), .int .i64 (nOf m)] v (T 7) (l0), eG 43 [.ptr 0 0, .int .i64 (nOf m)] v (plc T) (((T 7) (l0)).2)]) ⟨eNext_ok h0, eG_ok (IT 7 (by decide)) rfl _, eG_ok IP rfl _, trivial⟩ 13 [((T 7) (l0)).1, ((plc T) (((T 7) (l0)).2)).1] 2 (by omega) (fun c => gB (inI64 (nOf m)) (gC (eNext 0 10 l l0 v 2) (gC (eG 23 [.ptr 0 0, .int .i64 (.ofNat 7), .int .i64 (nOf m)] v (T 7) (l0)) (gC (eG 43 [.ptr 0 0, .int .i64 (nOf m)] v (plc T) (((T 7) (l0)).2)) (c))))) ?_ (fun I => by kernel_rfl)
  · intro c hc; simp only [gC_iff, gB_iff]; exact ⟨nOf_in hm100, hc⟩
include hm100 hv IT IP IA in
theorem ty_6_3 {l l0 : List UInt8} (h0 : nx 10 l = (3, l0)) : BSim Tryz.prog 23 [.ptr 0 0, .int .i64 (.ofNat 6), .int .i64 (.ofNat (m + 2))] [cD l v] [cD ((leafOf v T 6 3 l0).2) v] (exA ((leafOf v T 6 3 l0).1)) := by
  show BSim Tryz.prog 23 [.ptr 0 0, .int .i64 (.ofNat 6), .int .i64 (.ofNat (m + 2))] [cD l v] [cD (((T 8) (l0)).2) v] (exA (.mk 17 [] Rt.zero [((T 8) (l0)).1]))
  refine node (S := [eNext 0 10 l l0 v 3, eG 23 [.ptr 0 0, .int .i64 (.ofNat 8), .int .i64 (nOf m)] v (T 8) (l0)]) ⟨eNext_ok h0, eG_ok (IT 8 (by decide)) rfl _, trivial⟩ 17 [((T 8) (l0)).1] 2 (by omega) (fun c => gB (inI64 (nOf m)) (gC (eNext 0 10 l l0 v 3) (gC (eG 23 [.ptr 0 0, .int .i64 (.ofNat 8), .int .i64 (nOf m)] v (T 8) (l0)) (c)))) ?_ (fun I => by kernel_rfl)
  · intro c hc; simp only [gC_iff, gB_iff]; exact ⟨nOf_in hm100, hc⟩
include hm100 hv IT IP IA in
theorem ty_6_4 {l l0 : List UInt8} (h0 : nx 10 l = (4, l0)) : BSim Tryz.prog 23 [.ptr 0 0, .int .i64 (.ofNat 6), .int .i64 (.ofNat (m + 2))] [cD l v] [cD ((leafOf v T 6 4 l0).2) v] (exA ((leafOf v T 6 4 l0).1)) := by
  show BSim Tryz.prog 23 [.ptr 0 0, .int .i64 (.ofNat 6), .int .i64 (.ofNat (m + 2))] [cD l v] [cD (((amt T) (((T 6) (l0)).2)).2) v] (exA (.mk 18 [] Rt.zero [((T 6) (l0)).1, ((amt T) (((T 6) (l0)).2)).1]))
  refine node (S := [eNext 0 10 l l0 v 4, eG 23 [.ptr 0 0, .int .i64 (.ofNat 6), .int .i64 (nOf m)] v (T 6) (l0), eG 44 [.ptr 0 0, .int .i64 (nOf m)] v (amt T) (((T 6) (l0)).2)]) ⟨eNext_ok h0, eG_ok (IT 6 (by decide)) rfl _, eG_ok IA rfl _, trivial⟩ 18 [((T 6) (l0)).1, ((amt T) (((T 6) (l0)).2)).1] 2 (by omega) (fun c => gB (inI64 (nOf m)) (gC (eNext 0 10 l l0 v 4) (gC (eG 23 [.ptr 0 0, .int .i64 (.ofNat 6), .int .i64 (nOf m)] v (T 6) (l0)) (gC (eG 44 [.ptr 0 0, .int .i64 (nOf m)] v (amt T) (((T 6) (l0)).2)) (c))))) ?_ (fun I => by kernel_rfl)
  · intro c hc; simp only [gC_iff, gB_iff]; exact ⟨nOf_in hm100, hc⟩
include hm100 hv IT IP IA in
theorem ty_6_5 {l l0 : List UInt8} (h0 : nx 10 l = (5, l0)) : BSim Tryz.prog 23 [.ptr 0 0, .int .i64 (.ofNat 6), .int .i64 (.ofNat (m + 2))] [cD l v] [cD ((leafOf v T 6 5 l0).2) v] (exA ((leafOf v T 6 5 l0).1)) := by
  show BSim Tryz.prog 23 [.ptr 0 0, .int .i64 (.ofNat 6), .int .i64 (.ofNat (m + 2))] [cD l v] [cD (((amt T) (((T 6) (l0)).2)).2) v] (exA (.mk 19 [] Rt.zero [((T 6) (l0)).1, ((amt T) (((T 6) (l0)).2)).1]))
  refine node (S := [eNext 0 10 l l0 v 5, eG 23 [.ptr 0 0, .int .i64 (.ofNat 6), .int .i64 (nOf m)] v (T 6) (l0), eG 44 [.ptr 0 0, .int .i64 (nOf m)] v (amt T) (((T 6) (l0)).2)]) ⟨eNext_ok h0, eG_ok (IT 6 (by decide)) rfl _, eG_ok IA rfl _, trivial⟩ 19 [((T 6) (l0)).1, ((amt T) (((T 6) (l0)).2)).1] 2 (by omega) (fun c => gB (inI64 (nOf m)) (gC (eNext 0 10 l l0 v 5) (gC (eG 23 [.ptr 0 0, .int .i64 (.ofNat 6), .int .i64 (nOf m)] v (T 6) (l0)) (gC (eG 44 [.ptr 0 0, .int .i64 (nOf m)] v (amt T) (((T 6) (l0)).2)) (c))))) ?_ (fun I => by kernel_rfl)
  · intro c hc; simp only [gC_iff, gB_iff]; exact ⟨nOf_in hm100, hc⟩
include hm100 hv IT IP IA in
theorem ty_6_6 {l l0 : List UInt8} (h0 : nx 10 l = (6, l0)) : BSim Tryz.prog 23 [.ptr 0 0, .int .i64 (.ofNat 6), .int .i64 (.ofNat (m + 2))] [cD l v] [cD ((leafOf v T 6 6 l0).2) v] (exA ((leafOf v T 6 6 l0).1)) := by
  show BSim Tryz.prog 23 [.ptr 0 0, .int .i64 (.ofNat 6), .int .i64 (.ofNat (m + 2))] [cD l v] [cD (((T 6) ((nu (l0)).2)).2) v] (exA (.mk 20 [] Rt.zero [(nu (l0)).1, ((T 6) ((nu (l0)).2)).1]))
  refine node (S := [eNext 0 10 l l0 v 6, eG 41 [.ptr 0 0] v nu (l0), eG 23 [.ptr 0 0, .int .i64 (.ofNat 6), .int .i64 (nOf m)] v (T 6) ((nu (l0)).2)]) ⟨eNext_ok h0, eG_ok (number_g v) rfl _, eG_ok (IT 6 (by decide)) rfl _, trivial⟩ 20 [(nu (l0)).1, ((T 6) ((nu (l0)).2)).1] 2 (by omega) (fun c => gB (inI64 (nOf m)) (gC (eNext 0 10 l l0 v 6) (gC (eG 41 [.ptr 0 0] v nu (l0)) (gC (eG 23 [.ptr 0 0, .int .i64 (.ofNat 6), .int .i64 (nOf m)] v (T 6) ((nu (l0)).2)) (c))))) ?_ (fun I => by kernel_rfl)
  · intro c hc; simp only [gC_iff, gB_iff]; exact ⟨nOf_in hm100, hc⟩
include hm100 hv IT IP IA in
theorem ty_6_7 {l l0 : List UInt8} (h0 : nx 10 l = (7, l0)) : BSim Tryz.prog 23 [.ptr 0 0, .int .i64 (.ofNat 6), .int .i64 (.ofNat (m + 2))] [cD l v] [cD ((leafOf v T 6 7 l0).2) v] (exA ((leafOf v T 6 7 l0).1)) := by
  show BSim Tryz.prog 23 [.ptr 0 0, .int .i64 (.ofNat 6), .int .i64 (.ofNat (m + 2))] [cD l v] [cD (((pt v) (l0)).2) v] (exA (.mk 14 [] Rt.zero [((pt v) (l0)).1]))
  refine node (S := [eNext 0 10 l l0 v 7, eG 42 [.ptr 0 0] v (pt v) (l0)]) ⟨eNext_ok h0, eG_ok (point_g v hv) rfl _, trivial⟩ 14 [((pt v) (l0)).1] 2 (by omega) (fun c => gB (inI64 (nOf m)) (gC (eNext 0 10 l l0 v 7) (gC (eG 42 [.ptr 0 0] v (pt v) (l0)) (c)))) ?_ (fun I => by kernel_rfl)
  · intro c hc; simp only [gC_iff, gB_iff]; exact ⟨nOf_in hm100, hc⟩
include hm100 hv IT IP IA in
theorem ty_6_8 {l l0 : List UInt8} (h0 : nx 10 l = (8, l0)) : BSim Tryz.prog 23 [.ptr 0 0, .int .i64 (.ofNat 6), .int .i64 (.ofNat (m + 2))] [cD l v] [cD ((leafOf v T 6 8 l0).2) v] (exA ((leafOf v T 6 8 l0).1)) := by
  show BSim Tryz.prog 23 [.ptr 0 0, .int .i64 (.ofNat 6), .int .i64 (.ofNat (m + 2))] [cD l v] [cD (((T 4) (((T 6) (l0)).2)).2) v] (exA (.mk 12 [] Rt.zero [((T 6) (l0)).1, ((T 4) (((T 6) (l0)).2)).1]))
  refine node (S := [eNext 0 10 l l0 v 8, eG 23 [.ptr 0 0, .int .i64 (.ofNat 6), .int .i64 (nOf m)] v (T 6) (l0), eG 23 [.ptr 0 0, .int .i64 (.ofNat 4), .int .i64 (nOf m)] v (T 4) (((T 6) (l0)).2)]) ⟨eNext_ok h0, eG_ok (IT 6 (by decide)) rfl _, eG_ok (IT 4 (by decide)) rfl _, trivial⟩ 12 [((T 6) (l0)).1, ((T 4) (((T 6) (l0)).2)).1] 2 (by omega) (fun c => gB (inI64 (nOf m)) (gC (eNext 0 10 l l0 v 8) (gC (eG 23 [.ptr 0 0, .int .i64 (.ofNat 6), .int .i64 (nOf m)] v (T 6) (l0)) (gC (eG 23 [.ptr 0 0, .int .i64 (.ofNat 4), .int .i64 (nOf m)] v (T 4) (((T 6) (l0)).2)) (c))))) ?_ (fun I => by kernel_rfl)
  · intro c hc; simp only [gC_iff, gB_iff]; exact ⟨nOf_in hm100, hc⟩
include hm100 hv IT IP IA in
theorem ty_6_9 {l l0 : List UInt8} (h0 : nx 10 l = (9, l0)) : BSim Tryz.prog 23 [.ptr 0 0, .int .i64 (.ofNat 6), .int .i64 (.ofNat (m + 2))] [cD l v] [cD ((leafOf v T 6 9 l0).2) v] (exA ((leafOf v T 6 9 l0).1)) := by
  show BSim Tryz.prog 23 [.ptr 0 0, .int .i64 (.ofNat 6), .int .i64 (.ofNat (m + 2))] [cD l v] [cD ((nu (((T 6) (l0)).2)).2) v] (exA (.mk 29 [] Rt.zero [((T 6) (l0)).1, (nu (((T 6) (l0)).2)).1]))
  refine node (S := [eNext 0 10 l l0 v 9, eG 23 [.ptr 0 0, .int .i64 (.ofNat 6), .int .i64 (nOf m)] v (T 6) (l0), eG 41 [.ptr 0 0] v nu (((T 6) (l0)).2)]) ⟨eNext_ok h0, eG_ok (IT 6 (by decide)) rfl _, eG_ok (number_g v) rfl _, trivial⟩ 29 [((T 6) (l0)).1, (nu (((T 6) (l0)).2)).1] 2 (by omega) (fun c => gB (inI64 (nOf m)) (gC (eNext 0 10 l l0 v 9) (gC (eG 23 [.ptr 0 0, .int .i64 (.ofNat 6), .int .i64 (nOf m)] v (T 6) (l0)) (gC (eG 41 [.ptr 0 0] v nu (((T 6) (l0)).2)) (c))))) ?_ (fun I => by kernel_rfl)
  · intro c hc; simp only [gC_iff, gB_iff]; exact ⟨nOf_in hm100, hc⟩
include hm100 hv IT IP IA in
theorem ty_7_0 {l l0 : List UInt8} (h0 : nx 10 l = (0, l0)) : BSim Tryz.prog 23 [.ptr 0 0, .int .i64 (.ofNat 7), .int .i64 (.ofNat (m + 2))] [cD l v] [cD ((leafOf v T 7 0 l0).2) v] (exA ((leafOf v T 7 0 l0).1)) := by
  show BSim Tryz.prog 23 [.ptr 0 0, .int .i64 (.ofNat 7), .int .i64 (.ofNat (m + 2))] [cD l v] [cD ((pt v l0).2) v] (exA ((pt v l0).1))
  refine nodeH (S := [eNext 0 10 l l0 v 0, eG 42 [.ptr 0 0] v (pt v) (l0)]) ⟨eNext_ok h0, eG_ok (point_g v hv) rfl _, trivial⟩ _ (fun c => gB (inI64 (nOf m)) (gC (eNext 0 10 l l0 v 0) (gC (eG 42 [.ptr 0 0] v (pt v) (l0)) c))) ?_ (fun I => by kernel_rfl)
  · intro c hc; simp only [gC_iff, gB_iff]; exact ⟨nOf_in hm100, hc⟩
include hm100 hv IT IP IA in
theorem ty_7_1 {l l0 : List UInt8} (h0 : nx 10 l = (1, l0)) : BSim Tryz.prog 23 [.ptr 0 0, .int .i64 (.ofNat 7), .int .i64 (.ofNat (m + 2))] [cD l v] [cD ((leafOf v T 7 1 l0).2) v] (exA ((leafOf v T 7 1 l0).1)) := by
  show BSim Tryz.prog 23 [.ptr 0 0, .int .i64 (.ofNat 7), .int .i64 (.ofNat (m + 2))] [cD l v] [cD ((pt v l0).2) v] (exA ((pt v l0).1))
  refine nodeH (S := [eNext 0 10 l l0 v 1, eG 42 [.ptr 0 0] v (pt v) (l0)]) ⟨eNext_ok h0, eG_ok (point_g v hv) rfl _, trivial⟩ _ (fun c => gB (inI64 (nOf m)) (gC (eNext 0 10 l l0 v 1) (gC (eG 42 [.ptr 0 0] v (pt v) (l0)) c))) ?_ (fun I => by kernel_rfl)
  · intro c hc; simp only [gC_iff, gB_iff]; exact ⟨nOf_in hm100, hc⟩
include hm100 hv IT IP IA in
theorem ty_7_2 {l l0 : List UInt8} (h0 : nx 10 l = (2, l0)) : BSim Tryz.prog 23 [.ptr 0 0, .int .i64 (.ofNat 7), .int .i64 (.ofNat (m + 2))] [cD l v] [cD ((leafOf v T 7 2 l0).2) v] (exA ((leafOf v T 7 2 l0).1)) := by
  show BSim Tryz.prog 23 [.ptr 0 0, .int .i64 (.ofNat 7), .int .i64 (.ofNat (m + 2))] [cD l v] [cD ((pt v l0).2) v] (exA ((pt v l0).1))
  refine nodeH (S := [eNext 0 10 l l0 v 2, eG 42 [.ptr 0 0] v (pt v) (l0)]) ⟨eNext_ok h0, eG_ok (point_g v hv) rfl _, trivial⟩ _ (fun c => gB (inI64 (nOf m)) (gC (eNext 0 10 l l0 v 2) (gC (eG 42 [.ptr 0 0] v (pt v) (l0)) c))) ?_ (fun I => by kernel_rfl)
  · intro c hc; simp only [gC_iff, gB_iff]; exact ⟨nOf_in hm100, hc⟩
include hm100 hv IT IP IA in
theorem ty_7_3 {l l0 : List UInt8} (h0 : nx 10 l = (3, l0)) : BSim Tryz.prog 23 [.ptr 0 0, .int .i64 (.ofNat 7), .int .i64 (.ofNat (m + 2))] [cD l v] [cD ((leafOf v T 7 3 l0).2) v] (exA ((leafOf v T 7 3 l0).1)) := by
  show BSim Tryz.prog 23 [.ptr 0 0, .int .i64 (.ofNat 7), .int .i64 (.ofNat (m + 2))] [cD l v] [cD ((pt v l0).2) v] (exA ((pt v l0).1))
  refine nodeH (S := [eNext 0 10 l l0 v 3, eG 42 [.ptr 0 0] v (pt v) (l0)]) ⟨eNext_ok h0, eG_ok (point_g v hv) rfl _, trivial⟩ _ (fun c => gB (inI64 (nOf m)) (gC (eNext 0 10 l l0 v 3) (gC (eG 42 [.ptr 0 0] v (pt v) (l0)) c))) ?_ (fun I => by kernel_rfl)
  · intro c hc; simp only [gC_iff, gB_iff]; exact ⟨nOf_in hm100, hc⟩
include hm100 hv IT IP IA in
theorem ty_7_4 {l l0 : List UInt8} (h0 : nx 10 l = (4, l0)) : BSim Tryz.prog 23 [.ptr 0 0, .int .i64 (.ofNat 7), .int .i64 (.ofNat (m + 2))] [cD l v] [cD ((leafOf v T 7 4 l0).2) v] (exA ((leafOf v T 7 4 l0).1)) := by
  show BSim Tryz.prog 23 [.ptr 0 0, .int .i64 (.ofNat 7), .int .i64 (.ofNat (m + 2))] [cD l v] [cD ((pt v l0).2) v] (exA ((pt v l0).1))
  refine nodeH (S := [eNext 0 10 l l0 v 4, eG 42 [.ptr 0 0] v (pt v) (l0)]) ⟨eNext_ok h0, eG_ok (point_g v hv) rfl _, trivial⟩ _ (fun c => gB (inI64 (nOf m)) (gC (eNext 0 10 l l0 v 4) (gC (eG 42 [.ptr 0 0] v (pt v) (l0)) c))) ?_ (fun I => by kernel_rfl)
  · intro c hc; simp only [gC_iff, gB_iff]; exact ⟨nOf_in hm100, hc⟩
include hm100 hv IT IP IA in
theorem ty_7_5 {l l0 : List UInt8} (h0 : nx 10 l = (5, l0)) : BSim Tryz.prog 23 [.ptr 0 0, .int .i64 (.ofNat 7), .int .i64 (.ofNat (m + 2))] [cD l v] [cD ((leafOf v T 7 5 l0).2) v] (exA ((leafOf v T 7 5 l0).1)) := by
  show BSim Tryz.prog 23 [.ptr 0 0, .int .i64 (.ofNat 7), .int .i64 (.ofNat (m + 2))] [cD l v] [cD ((pt v l0).2) v] (exA ((pt v l0).1))
  refine nodeH (S := [eNext 0 10 l l0 v 5, eG 42 [.ptr 0 0] v (pt v) (l0)]) ⟨eNext_ok h0, eG_ok (point_g v hv) rfl _, trivial⟩ _ (fun c => gB (inI64 (nOf m)) (gC (eNext 0 10 l l0 v 5) (gC (eG 42 [.ptr 0 0] v (pt v) (l0)) c))) ?_ (fun I => by kernel_rfl)
  · intro c hc; simp only [gC_iff, gB_iff]; exact ⟨nOf_in hm100, hc⟩
include hm100 hv IT IP IA in
theorem ty_7_6 {l l0 : List UInt8} (h0 : nx 10 l = (6, l0)) : BSim Tryz.prog 23 [.ptr 0 0, .int .i64 (.ofNat 7), .int .i64 (.ofNat (m + 2))] [cD l v] [cD ((leafOf v T 7 6 l0).2) v] (exA ((leafOf v T 7 6 l0).1)) := by
  show BSim Tryz.prog 23 [.ptr 0 0, .int .i64 (.ofNat 7), .int .i64 (.ofNat (m + 2))] [cD l v] [cD ((pt v l0).2) v] (exA ((pt v l0).1))
  refine nodeH (S := [eNext 0 10 l l0 v 6, eG 42 [.ptr 0 0] v (pt v) (l0)]) ⟨eNext_ok h0, eG_ok (point_g v hv) rfl _, trivial⟩ _ (fun c => gB (inI64 (nOf m)) (gC (eNext 0 10 l l0 v 6) (gC (eG 42 [.ptr 0 0] v (pt v) (l0)) c))) ?_ (fun I => by kernel_rfl)
  · intro c hc; simp only [gC_iff, gB_iff]; exact ⟨nOf_in hm100, hc⟩
include hm100 hv IT IP IA in
theorem ty_7_7 {l l0 : List UInt8} (h0 : nx 10 l = (7, l0)) : BSim Tryz.prog 23 [.ptr 0 0, .int .i64 (.ofNat 7), .int .i64 (.ofNat (m + 2))] [cD l v] [cD ((leafOf v T 7 7 l0).2) v] (exA ((leafOf v T 7 7 l0).1)) := by
  show BSim Tryz.prog 23 [.ptr 0 0, .int .i64 (.ofNat 7), .int .i64 (.ofNat (m + 2))] [cD l v] [cD ((pt v l0).2) v] (exA ((pt v l0).1))
  refine nodeH (S := [eNext 0 10 l l0 v 7, eG 42 [.ptr 0 0] v (pt v) (l0)]) ⟨eNext_ok h0, eG_ok (point_g v hv) rfl _, trivial⟩ _ (fun c => gB (inI64 (nOf m)) (gC (eNext 0 10 l l0 v 7) (gC (eG 42 [.ptr 0 0] v (pt v) (l0)) c))) ?_ (fun I => by kernel_rfl)
  · intro c hc; simp only [gC_iff, gB_iff]; exact ⟨nOf_in hm100, hc⟩
include hm100 hv IT IP IA in
theorem ty_7_8 {l l0 : List UInt8} (h0 : nx 10 l = (8, l0)) : BSim Tryz.prog 23 [.ptr 0 0, .int .i64 (.ofNat 7), .int .i64 (.ofNat (m + 2))] [cD l v] [cD ((leafOf v T 7 8 l0).2) v] (exA ((leafOf v T 7 8 l0).1)) := by
  show BSim Tryz.prog 23 [.ptr 0 0, .int .i64 (.ofNat 7), .int .i64 (.ofNat (m + 2))] [cD l v] [cD (((T 4) (((T 7) (l0)).2)).2) v] (exA (.mk 12 [] Rt.zero [((T 7) (l0)).1, ((T 4) (((T 7) (l0)).2)).1]))
  refine node (S := [eNext 0 10 l l0 v 8, eG 23 [.ptr 0 0, .int .i64 (.ofNat 7), .int .i64 (nOf m)] v (T 7) (l0), eG 23 [.ptr 0 0, .int .i64 (.ofNat 4), .int .i64 (nOf m)] v (T 4) (((T 7) (l0)).2)]) ⟨eNext_ok h0, eG_ok (IT 7 (by decide)) rfl _, eG_ok (IT 4 (by decide)) rfl _, trivial⟩ 12 [((T 7) (l0)).1, ((T 4) (((T 7) (l0)).2)).1] 2 (by omega) (fun c => gB (inI64 (nOf m)) (gC (eNext 0 10 l l0 v 8) (gC (eG 23 [.ptr 0 0, .int .i64 (.ofNat 7), .int .i64 (nOf m)] v (T 7) (l0)) (gC (eG 23 [.ptr 0 0, .int .i64 (.ofNat 4), .int .i64 (nOf m)] v (T 4) (((T 7) (l0)).2)) (c))))) ?_ (fun I => by kernel_rfl)
  · intro c hc; simp only [gC_iff, gB_iff]; exact ⟨nOf_in hm100, hc⟩
include hm100 hv IT IP IA in
theorem ty_7_9 {l l0 : List UInt8} (h0 : nx 10 l = (9, l0)) : BSim Tryz.prog 23 [.ptr 0 0, .int .i64 (.ofNat 7), .int .i64 (.ofNat (m + 2))] [cD l v] [cD ((leafOf v T 7 9 l0).2) v] (exA ((leafOf v T 7 9 l0).1)) := by
  show BSim Tryz.prog 23 [.ptr 0 0, .int .i64 (.ofNat 7), .int .i64 (.ofNat (m + 2))] [cD l v] [cD ((nu (((T 7) (l0)).2)).2) v] (exA (.mk 29 [] Rt.zero [((T 7) (l0)).1, (nu (((T 7) (l0)).2)).1]))
  refine node (S := [eNext 0 10 l l0 v 9, eG 23 [.ptr 0 0, .int .i64 (.ofNat 7), .int .i64 (nOf m)] v (T 7) (l0), eG 41 [.ptr 0 0] v nu (((T 7) (l0)).2)]) ⟨eNext_ok h0, eG_ok (IT 7 (by decide)) rfl _, eG_ok (number_g v) rfl _, trivial⟩ 29 [((T 7) (l0)).1, (nu (((T 7) (l0)).2)).1] 2 (by omega) (fun c => gB (inI64 (nOf m)) (gC (eNext 0 10 l l0 v 9) (gC (eG 23 [.ptr 0 0, .int .i64 (.ofNat 7), .int .i64 (nOf m)] v (T 7) (l0)) (gC (eG 41 [.ptr 0 0] v nu (((T 7) (l0)).2)) (c))))) ?_ (fun I => by kernel_rfl)
  · intro c hc; simp only [gC_iff, gB_iff]; exact ⟨nOf_in hm100, hc⟩
include hm100 hv IT IP IA in
theorem ty_8_0 {l l0 : List UInt8} (h0 : nx 10 l = (0, l0)) : BSim Tryz.prog 23 [.ptr 0 0, .int .i64 (.ofNat 8), .int .i64 (.ofNat (m + 2))] [cD l v] [cD ((leafOf v T 8 0 l0).2) v] (exA ((leafOf v T 8 0 l0).1)) := by
  show BSim Tryz.prog 23 [.ptr 0 0, .int .i64 (.ofNat 8), .int .i64 (.ofNat (m + 2))] [cD l v] [cD ((zn l0).2) v] (exA ((zn l0).1))
  obtain ⟨j, l1, hj⟩ : ∃ j l1, nx 3 l0 = (j, l1) := ⟨_, _, rfl⟩
  have hj3 : j < 3 := by have := nx_lt (m := 3) l0 (by omega); rw [hj] at this; exact this
  have e1 : (zn l0).2 = l1 := by unfold zn; rw [hj]
  have e2 : (zn l0).1 = exZone j := by unfold zn; rw [hj]
  rw [e1, e2]
  have hj' : j = 0 ∨ j = 1 ∨ j = 2 := by omega
  rcases hj' with rfl | rfl | rfl
  · refine node0 (S := [eNext 0 10 l l0 v 0, eNext 0 3 l0 l1 v 0]) ⟨eNext_ok h0, eNext_ok hj, trivial⟩ 5 (zname 0) Rt.zero (fun c => gB (inI64 (nOf m)) (gC (eNext 0 10 l l0 v 0) (gC (eNext 0 3 l0 l1 v 0) c))) ?_ (fun I => by kernel_rfl)
    intro c hc; simp only [gC_iff, gB_iff]; exact ⟨nOf_in hm100, hc⟩
  · refine node0 (S := [eNext 0 10 l l0 v 0, eNext 0 3 l0 l1 v 1]) ⟨eNext_ok h0, eNext_ok hj, trivial⟩ 5 (zname 1) Rt.zero (fun c => gB (inI64 (nOf m)) (gC (eNext 0 10 l l0 v 0) (gC (eNext 0 3 l0 l1 v 1) c))) ?_ (fun I => by kernel_rfl)
    intro c hc; simp only [gC_iff, gB_iff]; exact ⟨nOf_in hm100, hc⟩
  · refine node0 (S := [eNext 0 10 l l0 v 0, eNext 0 3 l0 l1 v 2]) ⟨eNext_ok h0, eNext_ok hj, trivial⟩ 5 (zname 2) Rt.zero (fun c => gB (inI64 (nOf m)) (gC (eNext 0 10 l l0 v 0) (gC (eNext 0 3 l0 l1 v 2) c))) ?_ (fun I => by kernel_rfl)
    intro c hc; simp only [gC_iff, gB_iff]; exact ⟨nOf_in hm100, hc⟩
include hm100 hv IT IP IA in
theorem ty_8_1 {l l0 : List UInt8} (h0 : nx 10 l = (1, l0)) : BSim Tryz.prog 23 [.ptr 0 0, .int .i64 (.ofNat 8), .int .i64 (.ofNat (m + 2))] [cD l v] [cD ((leafOf v T 8 1 l0).2) v] (exA ((leafOf v T 8 1 l0).1)) := by
  show BSim Tryz.prog 23 [.ptr 0 0, .int .i64 (.ofNat 8), .int .i64 (.ofNat (m + 2))] [cD l v] [cD ((zn l0).2) v] (exA ((zn l0).1))
  obtain ⟨j, l1, hj⟩ : ∃ j l1, nx 3 l0 = (j, l1) := ⟨_, _, rfl⟩
  have hj3 : j < 3 := by have := nx_lt (m := 3) l0 (by omega); rw [hj] at this; exact this
  have e1 : (zn l0).2 = l1 := by unfold zn; rw [hj]
  have e2 : (zn l0).1 = exZone j := by unfold zn; rw [hj]
  rw [e1, e2]
  have hj' : j = 0 ∨ j = 1 ∨ j = 2 := by omega
  rcases hj' with rfl | rfl | rfl
  · refine node0 (S := [eNext 0 10 l l0 v 1, eNext 0 3 l0 l1 v 0]) ⟨eNext_ok h0, eNext_ok hj, trivial⟩ 5 (zname 0) Rt.zero (fun c => gB (inI64 (nOf m)) (gC (eNext 0 10 l l0 v 1) (gC (eNext 0 3 l0 l1 v 0) c))) ?_ (fun I => by kernel_rfl)
    intro c hc; simp only [gC_iff, gB_iff]; exact ⟨nOf_in hm100, hc⟩
  · refine node0 (S := [eNext 0 10 l l0 v 1, eNext 0 3 l0 l1 v 1]) ⟨eNext_ok h0, eNext_ok hj, trivial⟩ 5 (zname 1) Rt.zero (fun c => gB (inI64 (nOf m)) (gC (eNext 0 10 l l0 v 1) (gC (eNext 0 3 l0 l1 v 1) c))) ?_ (fun I => by kernel_rfl)
    intro c hc; simp only [gC_iff, gB_iff]; exact ⟨nOf_in hm100, hc⟩
  · refine node0 (S := [eNext 0 10 l l0 v 1, eNext 0 3 l0 l1 v 2]) ⟨eNext_ok h0, eNext_ok hj, trivial⟩ 5 (zname 2) Rt.zero (fun c => gB (inI64 (nOf m)) (gC (eNext 0 10 l l0 v 1) (gC (eNext 0 3 l0 l1 v 2) c))) ?_ (fun I => by kernel_rfl)
    intro c hc; simp only [gC_iff, gB_iff]; exact ⟨nOf_in hm100, hc⟩
include hm100 hv IT IP IA in
theorem ty_8_2 {l l0 : List UInt8} (h0 : nx 10 l = (2, l0)) : BSim Tryz.prog 23 [.ptr 0 0, .int .i64 (.ofNat 8), .int .i64 (.ofNat (m + 2))] [cD l v] [cD ((leafOf v T 8 2 l0).2) v] (exA ((leafOf v T 8 2 l0).1)) := by
  show BSim Tryz.prog 23 [.ptr 0 0, .int .i64 (.ofNat 8), .int .i64 (.ofNat (m + 2))] [cD l v] [cD ((zn l0).2) v] (exA ((zn l0).1))
  obtain ⟨j, l1, hj⟩ : ∃ j l1, nx 3 l0 = (j, l1) := ⟨_, _, rfl⟩
  have hj3 : j < 3 := by have := nx_lt (m := 3) l0 (by omega); rw [hj] at this; exact this
  have e1 : (zn l0).2 = l1 := by unfold zn; rw [hj]
  have e2 : (zn l0).1 = exZone j := by unfold zn; rw [hj]
  rw [e1, e2]
  have hj' : j = 0 ∨ j = 1 ∨ j = 2 := by omega
  rcases hj' with rfl | rfl | rfl
  · refine node0 (S := [eNext 0 10 l l0 v 2, eNext 0 3 l0 l1 v 0]) ⟨eNext_ok h0, eNext_ok hj, trivial⟩ 5 (zname 0) Rt.zero (fun c => gB (inI64 (nOf m)) (gC (eNext 0 10 l l0 v 2) (gC (eNext 0 3 l0 l1 v 0) c))) ?_ (fun I => by kernel_rfl)
    intro c hc; simp only [gC_iff, gB_iff]; exact ⟨nOf_in hm100, hc⟩
  · refine node0 (S := [eNext 0 10 l l0 v 2, eNext 0 3 l0 l1 v 1]) ⟨eNext_ok h0, eNext_ok hj, trivial⟩ 5 (zname 1) Rt.zero (fun c => gB (inI64 (nOf m)) (gC (eNext 0 10 l l0 v 2) (gC (eNext 0 3 l0 l1 v 1) c))) ?_ (fun I => by kernel_rfl)
    intro c hc; simp only [gC_iff, gB_iff]; exact ⟨nOf_in hm100, hc⟩
  · refine node0 (S := [eNext 0 10 l l0 v 2, eNext 0 3 l0 l1 v 2]) ⟨eNext_ok h0, eNext_ok hj, trivial⟩ 5 (zname 2) Rt.zero (fun c => gB (inI64 (nOf m)) (gC (eNext 0 10 l l0 v 2) (gC (eNext 0 3 l0 l1 v 2) c))) ?_ (fun I => by kernel_rfl)
    intro c hc; simp only [gC_iff, gB_iff]; exact ⟨nOf_in hm100, hc⟩
include hm100 hv IT IP IA in
theorem ty_8_3 {l l0 : List UInt8} (h0 : nx 10 l = (3, l0)) : BSim Tryz.prog 23 [.ptr 0 0, .int .i64 (.ofNat 8), .int .i64 (.ofNat (m + 2))] [cD l v] [cD ((leafOf v T 8 3 l0).2) v] (exA ((leafOf v T 8 3 l0).1)) := by
  show BSim Tryz.prog 23 [.ptr 0 0, .int .i64 (.ofNat 8), .int .i64 (.ofNat (m + 2))] [cD l v] [cD ((zn l0).2) v] (exA ((zn l0).1))
  obtain ⟨j, l1, hj⟩ : ∃ j l1, nx 3 l0 = (j, l1) := ⟨_, _, rfl⟩
  have hj3 : j < 3 := by have := nx_lt (m := 3) l0 (by omega); rw [hj] at this; exact this
  have e1 : (zn l0).2 = l1 := by unfold zn; rw [hj]
  have e2 : (zn l0).1 = exZone j := by unfold zn; rw [hj]
  rw [e1, e2]
  have hj' : j = 0 ∨ j = 1 ∨ j = 2 := by omega
  rcases hj' with rfl | rfl | rfl
  · refine node0 (S := [eNext 0 10 l l0 v 3, eNext 0 3 l0 l1 v 0]) ⟨eNext_ok h0, eNext_ok hj, trivial⟩ 5 (zname 0) Rt.zero (fun c => gB (inI64 (nOf m)) (gC (eNext 0 10 l l0 v 3) (gC (eNext 0 3 l0 l1 v 0) c))) ?_ (fun I => by kernel_rfl)
    intro c hc; simp only [gC_iff, gB_iff]; exact ⟨nOf_in hm100, hc⟩
  · refine node0 (S := [eNext 0 10 l l0 v 3, eNext 0 3 l0 l1 v 1]) ⟨eNext_ok h0, eNext_ok hj, trivial⟩ 5 (zname 1) Rt.zero (fun c => gB (inI64 (nOf m)) (gC (eNext 0 10 l l0 v 3) (gC (eNext 0 3 l0 l1 v 1) c))) ?_ (fun I => by kernel_rfl)
    intro c hc; simp only [gC_iff, gB_iff]; exact ⟨nOf_in hm100, hc⟩
  · refine node0 (S := [eNext 0 10 l l0 v 3, eNext 0 3 l0 l1 v 2]) ⟨eNext_ok h0, eNext_ok hj, trivial⟩ 5 (zname 2) Rt.zero (fun c => gB (inI64 (nOf m)) (gC (eNext 0 10 l l0 v 3) (gC (eNext 0 3 l0 l1 v 2) c))) ?_ (fun I => by kernel_rfl)
    intro c hc; simp only [gC_iff, gB_iff]; exact ⟨nOf_in hm100, hc⟩
include hm100 hv IT IP IA in
theorem ty_8_4 {l l0 : List UInt8} (h0 : nx 10 l = (4, l0)) : BSim Tryz.prog 23 [.ptr 0 0, .int .i64 (.ofNat 8), .int .i64 (.ofNat (m + 2))] [cD l v] [cD ((leafOf v T 8 4 l0).2) v] (exA ((leafOf v T 8 4 l0).1)) := by
  show BSim Tryz.prog 23 [.ptr 0 0, .int .i64 (.ofNat 8), .int .i64 (.ofNat (m + 2))] [cD l v] [cD ((zn l0).2) v] (exA ((zn l0).1))
  obtain ⟨j, l1, hj⟩ : ∃ j l1, nx 3 l0 = (j, l1) := ⟨_, _, rfl⟩
  have hj3 : j < 3 := by have := nx_lt (m := 3) l0 (by omega); rw [hj] at this; exact this
  have e1 : (zn l0).2 = l1 := by unfold zn; rw [hj]
  have e2 : (zn l0).1 = exZone j := by unfold zn; rw [hj]
  rw [e1, e2]
  have hj' : j = 0 ∨ j = 1 ∨ j = 2 := by omega
  rcases hj' with rfl | rfl | rfl
  · refine node0 (S := [eNext 0 10 l l0 v 4, eNext 0 3 l0 l1 v 0]) ⟨eNext_ok h0, eNext_ok hj, trivial⟩ 5 (zname 0) Rt.zero (fun c => gB (inI64 (nOf m)) (gC (eNext 0 10 l l0 v 4) (gC (eNext 0 3 l0 l1 v 0) c))) ?_ (fun I => by kernel_rfl)
    intro c hc; simp only [gC_iff, gB_iff]; exact ⟨nOf_in hm100, hc⟩
  · refine node0 (S := [eNext 0 10 l l0 v 4, eNext 0 3 l0 l1 v 1]) ⟨eNext_ok h0, eNext_ok hj, trivial⟩ 5 (zname 1) Rt.zero (fun c => gB (inI64 (nOf m)) (gC (eNext 0 10 l l0 v 4) (gC (eNext 0 3 l0 l1 v 1) c))) ?_ (fun I => by kernel_rfl)
    intro c hc; simp only [gC_iff, gB_iff]; exact ⟨nOf_in hm100, hc⟩
  · refine node0 (S := [eNext 0 10 l l0 v 4, eNext 0 3 l0 l1 v 2]) ⟨eNext_ok h0, eNext_ok hj, trivial⟩ 5 (zname 2) Rt.zero (fun c => gB (inI64 (nOf m)) (gC (eNext 0 10 l l0 v 4) (gC (eNext 0 3 l0 l1 v 2) c))) ?_ (fun I => by kernel_rfl)
    intro c hc; simp only [gC_iff, gB_iff]; exact ⟨nOf_in hm100, hc⟩
include hm100 hv IT IP IA in
theorem ty_8_5 {l l0 : List UInt8} (h0 : nx 10 l = (5, l0)) : BSim Tryz.prog 23 [.ptr 0 0, .int .i64 (.ofNat 8), .int .i64 (.ofNat (m + 2))] [cD l v] [cD ((leafOf v T 8 5 l0).2) v] (exA ((leafOf v T 8 5 l0).1)) := by
  show BSim Tryz.prog 23 [.ptr 0 0, .int .i64 (.ofNat 8), .int .i64 (.ofNat (m + 2))] [cD l v] [cD ((zn l0).2) v] (exA ((zn l0).1))
  obtain ⟨j, l1, hj⟩ : ∃ j l1, nx 3 l0 = (j, l1) := ⟨_, _, rfl⟩
  have hj3 : j < 3 := by have := nx_lt (m := 3) l0 (by omega); rw [hj] at this; exact this
  have e1 : (zn l0).2 = l1 := by unfold zn; rw [hj]
  have e2 : (zn l0).1 = exZone j := by unfold zn; rw [hj]
  rw [e1, e2]
  have hj' : j = 0 ∨ j = 1 ∨ j = 2 := by omega
  rcases hj' with rfl | rfl | rfl
  · refine node0 (S := [eNext 0 10 l l0 v 5, eNext 0 3 l0 l1 v 0]) ⟨eNext_ok h0, eNext_ok hj, trivial⟩ 5 (zname 0) Rt.zero (fun c => gB (inI64 (nOf m)) (gC (eNext 0 10 l l0 v 5) (gC (eNext 0 3 l0 l1 v 0) c))) ?_ (fun I => by kernel_rfl)
    intro c hc; simp only [gC_iff, gB_iff]; exact ⟨nOf_in hm100, hc⟩
  · refine node0 (S := [eNext 0 10 l l0 v 5, eNext 0 3 l0 l1 v 1]) ⟨eNext_ok h0, eNext_ok hj, trivial⟩ 5 (zname 1) Rt.zero (fun c => gB (inI64 (nOf m)) (gC (eNext 0 10 l l0 v 5) (gC (eNext 0 3 l0 l1 v 1) c))) ?_ (fun I => by kernel_rfl)
    intro c hc; simp only [gC_iff, gB_iff]; exact ⟨nOf_in hm100, hc⟩
  · refine node0 (S := [eNext 0 10 l l0 v 5, eNext 0 3 l0 l1 v 2]) ⟨eNext_ok h0, eNext_ok hj, trivial⟩ 5 (zname 2) Rt.zero (fun c => gB (inI64 (nOf m)) (gC (eNext 0 10 l l0 v 5) (gC (eNext 0 3 l0 l1 v 2) c))) ?_ (fun I => by kernel_rfl)
    intro c hc; simp only [gC_iff, gB_iff]; exact ⟨nOf_in hm100, hc⟩
include hm100 hv IT IP IA in
theorem ty_8_6 {l l0 : List UInt8} (h0 : nx 10 l = (6, l0)) : BSim Tryz.prog 23 [.ptr 0 0, .int .i64 (.ofNat 8), .int .i64 (.ofNat (m + 2))] [cD l v] [cD ((leafOf v T 8 6 l0).2) v] (exA ((leafOf v T 8 6 l0).1)) := by
  show BSim Tryz.prog 23 [.ptr 0 0, .int .i64 (.ofNat 8), .int .i64 (.ofNat (m + 2))] [cD l v] [cD ((zn l0).2) v] (exA ((zn l0).1))
  obtain ⟨j, l1, hj⟩ : ∃ j l1, nx 3 l0 = (j, l1) := ⟨_, _, rfl⟩
  have hj3 : j < 3 := by have := nx_lt (m := 3) l0 (by omega); rw [hj] at this; exact this
  have e1 : (zn l0).2 = l1 := by unfold zn; rw [hj]
  have e2 : (zn l0).1 = exZone j := by unfold zn; rw [hj]
  rw [e1, e2]
  have hj' : j = 0 ∨ j = 1 ∨ j = 2 := by omega
  rcases hj' with rfl | rfl | rfl
  · refine node0 (S := [eNext 0 10 l l0 v 6, eNext 0 3 l0 l1 v 0]) ⟨eNext_ok h0, eNext_ok hj, trivial⟩ 5 (zname 0) Rt.zero (fun c => gB (inI64 (nOf m)) (gC (eNext 0 10 l l0 v 6) (gC (eNext 0 3 l0 l1 v 0) c))) ?_ (fun I => by kernel_rfl)
    intro c hc; simp only [gC_iff, gB_iff]; exact ⟨nOf_in hm100, hc⟩
  · refine node0 (S := [eNext 0 10 l l0 v 6, eNext 0 3 l0 l1 v 1]) ⟨eNext_ok h0, eNext_ok hj, trivial⟩ 5 (zname 1) Rt.zero (fun c => gB (inI64 (nOf m)) (gC (eNext 0 10 l l0 v 6) (gC (eNext 0 3 l0 l1 v 1) c))) ?_ (fun I => by kernel_rfl)
    intro c hc; simp only [gC_iff, gB_iff]; exact ⟨nOf_in hm100, hc⟩
  · refine node0 (S := [eNext 0 10 l l0 v 6, eNext 0 3 l0 l1 v 2]) ⟨eNext_ok h0, eNext_ok hj, trivial⟩ 5 (zname 2) Rt.zero (fun c => gB (inI64 (nOf m)) (gC (eNext 0 10 l l0 v 6) (gC (eNext 0 3 l0 l1 v 2) c))) ?_ (fun I => by kernel_rfl)
    intro c hc; simp only [gC_iff, gB_iff]; exact ⟨nOf_in hm100, hc⟩
include hm100 hv IT IP IA in
theorem ty_8_7 {l l0 : List UInt8} (h0 : nx 10 l = (7, l0)) : BSim Tryz.prog 23 [.ptr 0 0, .int .i64 (.ofNat 8), .int .i64 (.ofNat (m + 2))] [cD l v] [cD ((leafOf v T 8 7 l0).2) v] (exA ((leafOf v T 8 7 l0).1)) := by
  show BSim Tryz.prog 23 [.ptr 0 0, .int .i64 (.ofNat 8), .int .i64 (.ofNat (m + 2))] [cD l v] [cD ((zn l0).2) v] (exA ((zn l0).1))
  obtain ⟨j, l1, hj⟩ : ∃ j l1, nx 3 l0 = (j, l1) := ⟨_, _, rfl⟩
  have hj3 : j < 3 := by have := nx_lt (m := 3) l0 (by omega); rw [hj] at this; exact this
  have e1 : (zn l0).2 = l1 := by unfold zn; rw [hj]
  have e2 : (zn l0).1 = exZone j := by unfold zn; rw [hj]
  rw [e1, e2]
  have hj' : j = 0 ∨ j = 1 ∨ j = 2 := by omega
  rcases hj' with rfl | rfl | rfl
  · refine node0 (S := [eNext 0 10 l l0 v 7, eNext 0 3 l0 l1 v 0]) ⟨eNext_ok h0, eNext_ok hj, trivial⟩ 5 (zname 0) Rt.zero (fun c => gB (inI64 (nOf m)) (gC (eNext 0 10 l l0 v 7) (gC (eNext 0 3 l0 l1 v 0) c))) ?_ (fun I => by kernel_rfl)
    intro c hc; simp only [gC_iff, gB_iff]; exact ⟨nOf_in hm100, hc⟩
  · refine node0 (S := [eNext 0 10 l l0 v 7, eNext 0 3 l0 l1 v 1]) ⟨eNext_ok h0, eNext_ok hj, trivial⟩ 5 (zname 1) Rt.zero (fun c => gB (inI64 (nOf m)) (gC (eNext 0 10 l l0 v 7) (gC (eNext 0 3 l0 l1 v 1) c))) ?_ (fun I => by kernel_rfl)
    intro c hc; simp only [gC_iff, gB_iff]; exact ⟨nOf_in hm100, hc⟩
  · refine node0 (S := [eNext 0 10 l l0 v 7, eNext 0 3 l0 l1 v 2]) ⟨eNext_ok h0, eNext_ok hj, trivial⟩ 5 (zname 2) Rt.zero (fun c => gB (inI64 (nOf m)) (gC (eNext 0 10 l l0 v 7) (gC (eNext 0 3 l0 l1 v 2) c))) ?_ (fun I => by kernel_rfl)
    intro c hc; simp only [gC_iff, gB_iff]; exact ⟨nOf_in hm100, hc⟩
include hm100 hv IT IP IA in
theorem ty_8_8 {l l0 : List UInt8} (h0 : nx 10 l = (8, l0)) : BSim Tryz.prog 23 [.ptr 0 0, .int .i64 (.ofNat 8), .int .i64 (.ofNat (m + 2))] [cD l v] [cD ((leafOf v T 8 8 l0).2) v] (exA ((leafOf v T 8 8 l0).1)) := by
  show BSim Tryz.prog 23 [.ptr 0 0, .int .i64 (.ofNat 8), .int .i64 (.ofNat (m + 2))] [cD l v] [cD (((T 4) (((T 8) (l0)).2)).2) v] (exA (.mk 12 [] Rt.zero [((T 8) (l0)).1, ((T 4) (((T 8) (l0)).2)).1]))
  refine node (S := [eNext 0 10 l l0 v 8, eG 23 [.ptr 0 0, .int .i64 (.ofNat 8), .int .i64 (nOf m)] v (T 8) (l0), eG 23 [.ptr 0 0, .int .i64 (.ofNat 4), .int .i64 (nOf m)] v (T 4) (((T 8) (l0)).2)]) ⟨eNext_ok h0, eG_ok (IT 8 (by decide)) rfl _, eG_ok (IT 4 (by decide)) rfl _, trivial⟩ 12 [((T 8) (l0)).1, ((T 4) (((T 8) (l0)).2)).1] 2 (by omega) (fun c => gB (inI64 (nOf m)) (gC (eNext 0 10 l l0 v 8) (gC (eG 23 [.ptr 0 0, .int .i64 (.ofNat 8), .int .i64 (nOf m)] v (T 8) (l0)) (gC (eG 23 [.ptr 0 0, .int .i64 (.ofNat 4), .int .i64 (nOf m)] v (T 4) (((T 8) (l0)).2)) (c))))) ?_ (fun I => by kernel_rfl)
  · intro c hc; simp only [gC_iff, gB_iff]; exact ⟨nOf_in hm100, hc⟩
include hm100 hv IT IP IA in
theorem ty_8_9 {l l0 : List UInt8} (h0 : nx 10 l = (9, l0)) : BSim Tryz.prog 23 [.ptr 0 0, .int .i64 (.ofNat 8), .int .i64 (.ofNat (m + 2))] [cD l v] [cD ((leafOf v T 8 9 l0).2) v] (exA ((leafOf v T 8 9 l0).1)) := by
  show BSim Tryz.prog 23 [.ptr 0 0, .int .i64 (.ofNat 8), .int .i64 (.ofNat (m + 2))] [cD l v] [cD ((nu (((T 8) (l0)).2)).2) v] (exA (.mk 29 [] Rt.zero [((T 8) (l0)).1, (nu (((T 8) (l0)).2)).1]))
  refine node (S := [eNext 0 10 l l0 v 9, eG 23 [.ptr 0 0, .int .i64 (.ofNat 8), .int .i64 (nOf m)] v (T 8) (l0), eG 41 [.ptr 0 0] v nu (((T 8) (l0)).2)]) ⟨eNext_ok h0, eG_ok (IT 8 (by decide)) rfl _, eG_ok (number_g v) rfl _, trivial⟩ 29 [((T 8) (l0)).1, (nu (((T 8) (l0)).2)).1] 2 (by omega) (fun c => gB (inI64 (nOf m)) (gC (eNext 0 10 l l0 v 9) (gC (eG 23 [.ptr 0 0, .int .i64 (.ofNat 8), .int .i64 (nOf m)] v (T 8) (l0)) (gC (eG 41 [.ptr 0 0] v nu (((T 8) (l0)).2)) (c))))) ?_ (fun I => by kernel_rfl)
  · intro c hc; simp only [gC_iff, gB_iff]; exact ⟨nOf_in hm100, hc⟩
include hm100 hv IT IP IA in
theorem ty_2_x {k : Nat} {l l0 : List UInt8} (h0 : nx 10 l = (k, l0)) : BSim Tryz.prog 23 [.ptr 0 0, .int .i64 (.ofNat 2), .int .i64 (.ofNat (m + 2))] [cD l v] [cD ((leafOf v T 2 k l0).2) v] (exA ((leafOf v T 2 k l0).1)) := by
  show BSim Tryz.prog 23 [.ptr 0 0, .int .i64 (.ofNat 2), .int .i64 (.ofNat (m + 2))] [cD l v] [cD ((nu l0).2) v] (exA ((nu l0).1))
  refine nodeH (S := [eNext 0 10 l l0 v k, eG 41 [.ptr 0 0] v nu (l0)]) ⟨eNext_ok h0, eG_ok (number_g v) rfl _, trivial⟩ _ (fun c => gB (inI64 (nOf m)) (gC (eNext 0 10 l l0 v k) (gC (eG 41 [.ptr 0 0] v nu (l0)) c))) ?_ (fun I => by kernel_rfl)
  · intro c hc; simp only [gC_iff, gB_iff]; exact ⟨nOf_in hm100, hc⟩
include hm100 hv IT IP IA in
theorem ty_3_x {k : Nat} {l l0 : List UInt8} (h0 : nx 10 l = (k, l0)) : BSim Tryz.prog 23 [.ptr 0 0, .int .i64 (.ofNat 3), .int .i64 (.ofNat (m + 2))] [cD l v] [cD ((leafOf v T 3 k l0).2) v] (exA ((leafOf v T 3 k l0).1)) := by
  show BSim Tryz.prog 23 [.ptr 0 0, .int .i64 (.ofNat 3), .int .i64 (.ofNat (m + 2))] [cD l v] [cD ((nu ((nu (l0)).2)).2) v] (exA (.mk 2 [] Rt.zero [(nu (l0)).1, (nu ((nu (l0)).2)).1]))
  refine node (S := [eNext 0 10 l l0 v k, eG 41 [.ptr 0 0] v nu (l0), eG 41 [.ptr 0 0] v nu ((nu (l0)).2)]) ⟨eNext_ok h0, eG_ok (number_g v) rfl _, eG_ok (number_g v) rfl _, trivial⟩ 2 [(nu (l0)).1, (nu ((nu (l0)).2)).1] 2 (by omega) (fun c => gB (inI64 (nOf m)) (gC (eNext 0 10 l l0 v k) (gC (eG 41 [.ptr 0 0] v nu (l0)) (gC (eG 41 [.ptr 0 0] v nu ((nu (l0)).2)) (c))))) ?_ (fun I => by kernel_rfl)
  · intro c hc; simp only [gC_iff, gB_iff]; exact ⟨nOf_in hm100, hc⟩
end
end Go.Proofs.YtnljmpeaeajcoaaGreatDoor

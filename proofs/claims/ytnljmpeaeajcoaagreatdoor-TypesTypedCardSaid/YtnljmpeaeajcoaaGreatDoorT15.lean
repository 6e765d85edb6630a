/- A part of the proof over this seat's program: the checked evaluator and its soundness (E..), and what it gives here (the others). No condition. -/
import Derived.Test.YtnljmpeaeajcoaaGreatDoorT14
namespace Go.Proofs.YtnljmpeaeajcoaaGreatDoor
open Go Go.Eng Go.Vi
local instance : Go.Eng.Mode := Sy

def tab1 : List (Nat × Nat × Nat) := [(10, 5, 4), (11, 5, 4), (11, 6, 4), (11, 7, 4), (11, 8, 4), (14, 7, 6), (17, 8, 6), (25, 5, 5), (25, 1, 1), (26, 5, 1), (27, 5, 1)]
def tab2 : List (Nat × Nat × Nat × Nat) := [(6, 2, 2, 4), (7, 4, 4, 4), (8, 4, 4, 4), (9, 4, 4, 4), (12, 5, 4, 5), (29, 5, 2, 5), (12, 6, 4, 6), (29, 6, 2, 6), (12, 7, 4, 7), (29, 7, 2, 7), (12, 8, 4, 8), (29, 8, 2, 8), (13, 7, 7, 6), (13, 7, 3, 6), (16, 7, 8, 5), (18, 6, 6, 6), (18, 6, 2, 6), (19, 6, 6, 6), (19, 6, 2, 6), (20, 2, 6, 6), (21, 6, 6, 5), (21, 6, 2, 5), (22, 6, 6, 5), (22, 6, 2, 5), (23, 5, 5, 5), (23, 1, 1, 1), (24, 5, 5, 5), (24, 1, 1, 1), (28, 5, 2, 1), (30, 6, 2, 1)]
def tab3 : List (Nat × Nat × Nat × Nat × Nat) := [(15, 7, 7, 2, 5), (15, 7, 3, 2, 5)]
/-- the typed expressions -/
inductive Typ : Ex → Nat → Prop
  | num (k : Nat) (hk : k < 256) : Typ (exNum k) 2
  | obj (n : Nat) (h1 : 1 ≤ n) (h2 : n < 257) : Typ (exObj n) 7
  | var0 : Typ (exVar 0) 7
  | var1 : Typ (exVar 1) 7
  | zone (j : Nat) (hj : j < 3) : Typ (exZone j) 8
  | pt (j k : Nat) (hj : j < 256) (hk : k < 256) : Typ (.mk 2 [] Rt.zero [exNum j, exNum k]) 3
  | n1 (o s t : Nat) (h : (o, s, t) ∈ tab1) (x : Ex) (hx : Typ x s) : Typ (.mk (.ofNat o) [] Rt.zero [x]) t
  | n2 (o s1 s2 t : Nat) (h : (o, s1, s2, t) ∈ tab2) (x y : Ex) (hx : Typ x s1) (hy : Typ y s2) : Typ (.mk (.ofNat o) [] Rt.zero [x, y]) t
  | n3 (o s1 s2 s3 t : Nat) (h : (o, s1, s2, s3, t) ∈ tab3) (x y z : Ex) (hx : Typ x s1) (hy : Typ y s2) (hz : Typ z s3) : Typ (.mk (.ofNat o) [] Rt.zero [x, y, z]) t

theorem good_num (k : Nat) (hk : k < 256) : Good (exNum k) := .mk _ _ _ _ (right_num k hk) (by simp) (fun y hy => by cases hy)
theorem Typ.good {x : Ex} {t : Nat} (h : Typ x t) : Good x := by
  have m1 : ∀ {x : Ex}, Good x → ∀ y ∈ [x], Good y := fun h y hy => by obtain rfl := List.mem_singleton.1 hy; exact h
  have m2 : ∀ {x x' : Ex}, Good x → Good x' → ∀ y ∈ [x, x'], Good y := fun h h' y hy => by
    rcases List.mem_cons.1 hy with rfl | hy
    · exact h
    · exact m1 h' y hy
  have m3 : ∀ {x x' x'' : Ex}, Good x → Good x' → Good x'' → ∀ y ∈ [x, x', x''], Good y := fun h h' h'' y hy => by
    rcases List.mem_cons.1 hy with rfl | hy
    · exact h
    · exact m2 h' h'' y hy
  induction h with
  | num k hk => exact good_num k hk
  | obj n h1 h2 => exact .mk _ _ _ _ (right_obj n h1 h2) (by simp) (fun y hy => by cases hy)
  | var0 => exact .mk _ _ _ _ (right_var 0) (by simp) (fun y hy => by cases hy)
  | var1 => exact .mk _ _ _ _ (right_var 1) (by simp) (fun y hy => by cases hy)
  | zone j hj => exact .mk _ _ _ _ (right_zone j hj) (by simp) (fun y hy => by cases hy)
  | pt j k hj hk => exact .mk _ _ _ _ (right_point j k) (by simp) (m2 (good_num j hj) (good_num k hk))
  | n1 o s t h x hx ih =>
    refine .mk _ _ _ _ ?_ (by simp) (m1 ih)
    simp only [tab1, List.mem_cons, Prod.mk.injEq, List.not_mem_nil, or_false] at h
    rcases h with ⟨rfl, rfl, rfl⟩ | ⟨rfl, rfl, rfl⟩ | ⟨rfl, rfl, rfl⟩ | ⟨rfl, rfl, rfl⟩ | ⟨rfl, rfl, rfl⟩ | ⟨rfl, rfl, rfl⟩ | ⟨rfl, rfl, rfl⟩ | ⟨rfl, rfl, rfl⟩ | ⟨rfl, rfl, rfl⟩ | ⟨rfl, rfl, rfl⟩ | ⟨rfl, rfl, rfl⟩
    · exact right_10 x
    · exact right_11 x
    · exact right_11 x
    · exact right_11 x
    · exact right_11 x
    · exact right_14 x
    · exact right_17 x
    · exact right_25 x
    · exact right_25 x
    · exact right_26 x
    · exact right_27 x
  | n2 o s1 s2 t h x y hx hy ihx ihy =>
    refine .mk _ _ _ _ ?_ (by simp) (m2 ihx ihy)
    simp only [tab2, List.mem_cons, Prod.mk.injEq, List.not_mem_nil, or_false] at h
    rcases h with ⟨rfl, rfl, rfl, rfl⟩ | ⟨rfl, rfl, rfl, rfl⟩ | ⟨rfl, rfl, rfl, rfl⟩ | ⟨rfl, rfl, rfl, rfl⟩ | ⟨rfl, rfl, rfl, rfl⟩ | ⟨rfl, rfl, rfl, rfl⟩ | ⟨rfl, rfl, rfl, rfl⟩ | ⟨rfl, rfl, rfl, rfl⟩ | ⟨rfl, rfl, rfl, rfl⟩ | ⟨rfl, rfl, rfl, rfl⟩ | ⟨rfl, rfl, rfl, rfl⟩ | ⟨rfl, rfl, rfl, rfl⟩ | ⟨rfl, rfl, rfl, rfl⟩ | ⟨rfl, rfl, rfl, rfl⟩ | ⟨rfl, rfl, rfl, rfl⟩ | ⟨rfl, rfl, rfl, rfl⟩ | ⟨rfl, rfl, rfl, rfl⟩ | ⟨rfl, rfl, rfl, rfl⟩ | ⟨rfl, rfl, rfl, rfl⟩ | ⟨rfl, rfl, rfl, rfl⟩ | ⟨rfl, rfl, rfl, rfl⟩ | ⟨rfl, rfl, rfl, rfl⟩ | ⟨rfl, rfl, rfl, rfl⟩ | ⟨rfl, rfl, rfl, rfl⟩ | ⟨rfl, rfl, rfl, rfl⟩ | ⟨rfl, rfl, rfl, rfl⟩ | ⟨rfl, rfl, rfl, rfl⟩ | ⟨rfl, rfl, rfl, rfl⟩ | ⟨rfl, rfl, rfl, rfl⟩ | ⟨rfl, rfl, rfl, rfl⟩
    · exact right_6 x y
    · exact right_7 x y
    · exact right_8 x y
    · exact right_9 x y
    · exact right_12 x y
    · exact right_29 x y
    · exact right_12 x y
    · exact right_29 x y
    · exact right_12 x y
    · exact right_29 x y
    · exact right_12 x y
    · exact right_29 x y
    · exact right_13 x y
    · exact right_13 x y
    · exact right_16 x y
    · exact right_18 x y
    · exact right_18 x y
    · exact right_19 x y
    · exact right_19 x y
    · exact right_20 x y
    · exact right_21 x y
    · exact right_21 x y
    · exact right_22 x y
    · exact right_22 x y
    · exact right_23 x y
    · exact right_23 x y
    · exact right_24 x y
    · exact right_24 x y
    · exact right_28 x y
    · exact right_30 x y
  | n3 o s1 s2 s3 t h x y z hx hy hz ihx ihy ihz =>
    refine .mk _ _ _ _ ?_ (by simp) (m3 ihx ihy ihz)
    simp only [tab3, List.mem_cons, Prod.mk.injEq, List.not_mem_nil, or_false] at h
    rcases h with ⟨rfl, rfl, rfl, rfl, rfl⟩ | ⟨rfl, rfl, rfl, rfl, rfl⟩
    · exact right_15 x y z
    · exact right_15 x y z
theorem Typ.ty {x : Ex} {t : Nat} (h : Typ x t) : Ty x (.ofNat t) := by
  induction h with
  | num k hk => exact ty_num _ _
  | obj n h1 h2 => exact ty_obj _ _
  | var0 => exact ty_var _ _
  | var1 => exact ty_var _ _
  | zone j hj => exact ty_zon _ _
  | pt j k hj hk => exact ty_2_22 _ _ (ty_num _ _) (ty_num _ _)
  | n1 o s t h x hx ih =>
    simp only [tab1, List.mem_cons, Prod.mk.injEq, List.not_mem_nil, or_false] at h
    rcases h with ⟨rfl, rfl, rfl⟩ | ⟨rfl, rfl, rfl⟩ | ⟨rfl, rfl, rfl⟩ | ⟨rfl, rfl, rfl⟩ | ⟨rfl, rfl, rfl⟩ | ⟨rfl, rfl, rfl⟩ | ⟨rfl, rfl, rfl⟩ | ⟨rfl, rfl, rfl⟩ | ⟨rfl, rfl, rfl⟩ | ⟨rfl, rfl, rfl⟩ | ⟨rfl, rfl, rfl⟩
    · exact ty_10_5 x ih
    · exact ty_11_5 x ih
    · exact ty_11_6 x ih
    · exact ty_11_7 x ih
    · exact ty_11_8 x ih
    · exact ty_14_7 x ih
    · exact ty_17_8 x ih
    · exact ty_25_5 x ih
    · exact ty_25_1 x ih
    · exact ty_26_5 x ih
    · exact ty_27_5 x ih
  | n2 o s1 s2 t h x y hx hy ihx ihy =>
    simp only [tab2, List.mem_cons, Prod.mk.injEq, List.not_mem_nil, or_false] at h
    rcases h with ⟨rfl, rfl, rfl, rfl⟩ | ⟨rfl, rfl, rfl, rfl⟩ | ⟨rfl, rfl, rfl, rfl⟩ | ⟨rfl, rfl, rfl, rfl⟩ | ⟨rfl, rfl, rfl, rfl⟩ | ⟨rfl, rfl, rfl, rfl⟩ | ⟨rfl, rfl, rfl, rfl⟩ | ⟨rfl, rfl, rfl, rfl⟩ | ⟨rfl, rfl, rfl, rfl⟩ | ⟨rfl, rfl, rfl, rfl⟩ | ⟨rfl, rfl, rfl, rfl⟩ | ⟨rfl, rfl, rfl, rfl⟩ | ⟨rfl, rfl, rfl, rfl⟩ | ⟨rfl, rfl, rfl, rfl⟩ | ⟨rfl, rfl, rfl, rfl⟩ | ⟨rfl, rfl, rfl, rfl⟩ | ⟨rfl, rfl, rfl, rfl⟩ | ⟨rfl, rfl, rfl, rfl⟩ | ⟨rfl, rfl, rfl, rfl⟩ | ⟨rfl, rfl, rfl, rfl⟩ | ⟨rfl, rfl, rfl, rfl⟩ | ⟨rfl, rfl, rfl, rfl⟩ | ⟨rfl, rfl, rfl, rfl⟩ | ⟨rfl, rfl, rfl, rfl⟩ | ⟨rfl, rfl, rfl, rfl⟩ | ⟨rfl, rfl, rfl, rfl⟩ | ⟨rfl, rfl, rfl, rfl⟩ | ⟨rfl, rfl, rfl, rfl⟩ | ⟨rfl, rfl, rfl, rfl⟩ | ⟨rfl, rfl, rfl, rfl⟩
    · exact ty_6_22 x y ihx ihy
    · exact ty_7_44 x y ihx ihy
    · exact ty_8_44 x y ihx ihy
    · exact ty_9_44 x y ihx ihy
    · exact ty_12_54 x y ihx ihy
    · exact ty_29_52 x y ihx ihy
    · exact ty_12_64 x y ihx ihy
    · exact ty_29_62 x y ihx ihy
    · exact ty_12_74 x y ihx ihy
    · exact ty_29_72 x y ihx ihy
    · exact ty_12_84 x y ihx ihy
    · exact ty_29_82 x y ihx ihy
    · exact ty_13_77 x y ihx ihy
    · exact ty_13_73 x y ihx ihy
    · exact ty_16_78 x y ihx ihy
    · exact ty_18_66 x y ihx ihy
    · exact ty_18_62 x y ihx ihy
    · exact ty_19_66 x y ihx ihy
    · exact ty_19_62 x y ihx ihy
    · exact ty_20_26 x y ihx ihy
    · exact ty_21_66 x y ihx ihy
    · exact ty_21_62 x y ihx ihy
    · exact ty_22_66 x y ihx ihy
    · exact ty_22_62 x y ihx ihy
    · exact ty_23_55 x y ihx ihy
    · exact ty_23_11 x y ihx ihy
    · exact ty_24_55 x y ihx ihy
    · exact ty_24_11 x y ihx ihy
    · exact ty_28_52 x y ihx ihy
    · exact ty_30_62 x y ihx ihy
  | n3 o s1 s2 s3 t h x y z hx hy hz ihx ihy ihz =>
    simp only [tab3, List.mem_cons, Prod.mk.injEq, List.not_mem_nil, or_false] at h
    rcases h with ⟨rfl, rfl, rfl, rfl, rfl⟩ | ⟨rfl, rfl, rfl, rfl, rfl⟩
    · exact ty_15_772 x y z ihx ihy ihz
    · exact ty_15_732 x y z ihx ihy ihz
theorem Typ.bd {x : Ex} {t : Nat} (a b : Nat) (ha : 1 ≤ a ∧ a < 257) (hb : 1 ≤ b ∧ b < 257) (h : Typ x t) : ∃ y, Typ y t ∧ Bd a b x y ∧ y.size = x.size ∧ y.dep = x.dep := by
  induction h with
  | num k hk => exact ⟨_, .num k hk, bd_num a b k, rfl, rfl⟩
  | obj n h1 h2 => exact ⟨_, .obj n h1 h2, bd_obj a b n, rfl, rfl⟩
  | var0 => exact ⟨_, .obj a ha.1 ha.2, bd_var0 a b ha.2, rfl, rfl⟩
  | var1 => exact ⟨_, .obj b hb.1 hb.2, bd_var1 a b hb.2, rfl, rfl⟩
  | zone j hj => exact ⟨_, .zone j hj, bd_zone a b j hj, rfl, rfl⟩
  | pt j k hj hk => exact ⟨_, .pt j k hj hk, bd_2 (bd_num a b j) (bd_num a b k), rfl, rfl⟩
  | n1 o s t h x hx ih =>
    obtain ⟨x', h1, h2, h3, h4⟩ := ih
    refine ⟨_, .n1 o s t h x' h1, ?_, by simp [Ex.size, sizeL, h3], by simp [Ex.dep, depL, h4]⟩
    simp only [tab1, List.mem_cons, Prod.mk.injEq, List.not_mem_nil, or_false] at h
    rcases h with ⟨rfl, rfl, rfl⟩ | ⟨rfl, rfl, rfl⟩ | ⟨rfl, rfl, rfl⟩ | ⟨rfl, rfl, rfl⟩ | ⟨rfl, rfl, rfl⟩ | ⟨rfl, rfl, rfl⟩ | ⟨rfl, rfl, rfl⟩ | ⟨rfl, rfl, rfl⟩ | ⟨rfl, rfl, rfl⟩ | ⟨rfl, rfl, rfl⟩ | ⟨rfl, rfl, rfl⟩
    · exact bd_10 h2
    · exact bd_11 h2
    · exact bd_11 h2
    · exact bd_11 h2
    · exact bd_11 h2
    · exact bd_14 h2
    · exact bd_17 h2
    · exact bd_25 h2
    · exact bd_25 h2
    · exact bd_26 h2
    · exact bd_27 h2
  | n2 o s1 s2 t h x y hx hy ihx ihy =>
    obtain ⟨x', h1, h2, h3, h4⟩ := ihx
    obtain ⟨y', g1, g2, g3, g4⟩ := ihy
    refine ⟨_, .n2 o s1 s2 t h x' y' h1 g1, ?_, by simp [Ex.size, sizeL, h3, g3], by simp [Ex.dep, depL, h4, g4]⟩
    simp only [tab2, List.mem_cons, Prod.mk.injEq, List.not_mem_nil, or_false] at h
    rcases h with ⟨rfl, rfl, rfl, rfl⟩ | ⟨rfl, rfl, rfl, rfl⟩ | ⟨rfl, rfl, rfl, rfl⟩ | ⟨rfl, rfl, rfl, rfl⟩ | ⟨rfl, rfl, rfl, rfl⟩ | ⟨rfl, rfl, rfl, rfl⟩ | ⟨rfl, rfl, rfl, rfl⟩ | ⟨rfl, rfl, rfl, rfl⟩ | ⟨rfl, rfl, rfl, rfl⟩ | ⟨rfl, rfl, rfl, rfl⟩ | ⟨rfl, rfl, rfl, rfl⟩ | ⟨rfl, rfl, rfl, rfl⟩ | ⟨rfl, rfl, rfl, rfl⟩ | ⟨rfl, rfl, rfl, rfl⟩ | ⟨rfl, rfl, rfl, rfl⟩ | ⟨rfl, rfl, rfl, rfl⟩ | ⟨rfl, rfl, rfl, rfl⟩ | ⟨rfl, rfl, rfl, rfl⟩ | ⟨rfl, rfl, rfl, rfl⟩ | ⟨rfl, rfl, rfl, rfl⟩ | ⟨rfl, rfl, rfl, rfl⟩ | ⟨rfl, rfl, rfl, rfl⟩ | ⟨rfl, rfl, rfl, rfl⟩ | ⟨rfl, rfl, rfl, rfl⟩ | ⟨rfl, rfl, rfl, rfl⟩ | ⟨rfl, rfl, rfl, rfl⟩ | ⟨rfl, rfl, rfl, rfl⟩ | ⟨rfl, rfl, rfl, rfl⟩ | ⟨rfl, rfl, rfl, rfl⟩ | ⟨rfl, rfl, rfl, rfl⟩
    · exact bd_6 h2 g2
    · exact bd_7 h2 g2
    · exact bd_8 h2 g2
    · exact bd_9 h2 g2
    · exact bd_12 h2 g2
    · exact bd_29 h2 g2
    · exact bd_12 h2 g2
    · exact bd_29 h2 g2
    · exact bd_12 h2 g2
    · exact bd_29 h2 g2
    · exact bd_12 h2 g2
    · exact bd_29 h2 g2
    · exact bd_13 h2 g2
    · exact bd_13 h2 g2
    · exact bd_16 h2 g2
    · exact bd_18 h2 g2
    · exact bd_18 h2 g2
    · exact bd_19 h2 g2
    · exact bd_19 h2 g2
    · exact bd_20 h2 g2
    · exact bd_21 h2 g2
    · exact bd_21 h2 g2
    · exact bd_22 h2 g2
    · exact bd_22 h2 g2
    · exact bd_23 h2 g2
    · exact bd_23 h2 g2
    · exact bd_24 h2 g2
    · exact bd_24 h2 g2
    · exact bd_28 h2 g2
    · exact bd_30 h2 g2
  | n3 o s1 s2 s3 t h x y z hx hy hz ihx ihy ihz =>
    obtain ⟨x', h1, h2, h3, h4⟩ := ihx
    obtain ⟨y', g1, g2, g3, g4⟩ := ihy
    obtain ⟨z', k1, k2, k3, k4⟩ := ihz
    refine ⟨_, .n3 o s1 s2 s3 t h x' y' z' h1 g1 k1, ?_, by simp [Ex.size, sizeL, h3, g3, k3], by simp [Ex.dep, depL, h4, g4, k4]⟩
    simp only [tab3, List.mem_cons, Prod.mk.injEq, List.not_mem_nil, or_false] at h
    rcases h with ⟨rfl, rfl, rfl, rfl, rfl⟩ | ⟨rfl, rfl, rfl, rfl, rfl⟩
    · exact bd_15 h2 g2 k2
    · exact bd_15 h2 g2 k2

/-! what the coder makes is typed, and small -/
def Ok (S D : Nat) (g : Gen) (ss : List Nat) : Prop := ∀ l, (∃ s ∈ ss, Typ (g l).1 s) ∧ (g l).1.size ≤ S ∧ (g l).1.dep ≤ D
theorem Ok.op1 {S D o t : Nat} {f : Gen} {ss : List Nat} (hf : Ok S D f ss) (h : ∀ s ∈ ss, (o, s, t) ∈ tab1) : Ok (2 * S + 1) (D + 1) (op1 (.ofNat o) f) [t] := by
  intro l
  obtain ⟨⟨s, hs, h1⟩, h2, h3⟩ := hf l
  refine ⟨⟨t, by simp, .n1 o s t (h s hs) _ h1⟩, ?_, ?_⟩
  · simp only [Go.Proofs.YtnljmpeaeajcoaaGreatDoor.op1, Ex.size, sizeL]; omega
  · simp only [Go.Proofs.YtnljmpeaeajcoaaGreatDoor.op1, Ex.dep, depL]; omega
theorem Ok.op2 {S D o t : Nat} {f g : Gen} {ss rr : List Nat} (hf : Ok S D f ss) (hg : Ok S D g rr) (h : ∀ s ∈ ss, ∀ r ∈ rr, (o, s, r, t) ∈ tab2) : Ok (2 * S + 1) (D + 1) (op2 (.ofNat o) f g) [t] := by
  intro l
  obtain ⟨⟨s, hs, h1⟩, h2, h3⟩ := hf l
  obtain ⟨⟨r, hr, g1⟩, g2, g3⟩ := hg (f l).2
  refine ⟨⟨t, by simp, .n2 o s r t (h s hs r hr) _ _ h1 g1⟩, ?_, ?_⟩
  · simp only [Go.Proofs.YtnljmpeaeajcoaaGreatDoor.op2, Ex.size, sizeL]; omega
  · simp only [Go.Proofs.YtnljmpeaeajcoaaGreatDoor.op2, Ex.dep, depL]; omega
theorem ok_nu {S D : Nat} (hS : 1 ≤ S) (hD : 1 ≤ D) : Ok S D nu [2] := fun l => ⟨⟨2, by simp, .num _ (nx_lt l (by omega))⟩, hS, hD⟩
theorem ok_pt {S D v : Nat} (hv : v < 3) (hS : 1 ≤ S) (hD : 1 ≤ D) : Ok S D (pt v) [7] := by
  intro l
  have hk := nx_lt (m := 8) l (by omega)
  show (∃ s ∈ [7], Typ (exPoint v (nx 8 l).1) s) ∧ (exPoint v (nx 8 l).1).size ≤ S ∧ (exPoint v (nx 8 l).1).dep ≤ D
  generalize (nx 8 l).1 = k at hk
  unfold exPoint
  split
  · rename_i h
    have : k % v = 0 ∨ k % v = 1 := by
      have hv' : v = 1 ∨ v = 2 := by omega
      rcases hv' with rfl | rfl <;> omega
    rcases this with e | e <;> rw [e]
    · exact ⟨⟨7, by simp, .var0⟩, hS, hD⟩
    · exact ⟨⟨7, by simp, .var1⟩, hS, hD⟩
  · exact ⟨⟨7, by simp, .obj _ (by omega) (by omega)⟩, hS, hD⟩
theorem ok_zn {S D : Nat} (hS : 1 ≤ S) (hD : 1 ≤ D) : Ok S D zn [8] := fun l => ⟨⟨8, by simp, .zone _ (nx_lt l (by omega))⟩, hS, hD⟩
theorem ok_plc {S D : Nat} {T : Nat → Gen} (h7 : Ok S D (T 7) [7]) (h3 : Ok S D (T 3) [3]) : Ok S D (plc T) [7, 3] := by
  intro l
  unfold plc
  split
  · obtain ⟨⟨s, hs, h1⟩, h2⟩ := h7 (nx 2 l).2; exact ⟨⟨s, by simp at hs; simp [hs], h1⟩, h2⟩
  · obtain ⟨⟨s, hs, h1⟩, h2⟩ := h3 (nx 2 l).2; exact ⟨⟨s, by simp at hs; simp [hs], h1⟩, h2⟩
theorem ok_amt {S D : Nat} {T : Nat → Gen} (hS : 1 ≤ S) (hD : 1 ≤ D) (h6 : Ok S D (T 6) [6]) : Ok S D (amt T) [6, 2] := by
  intro l
  unfold amt
  split
  · obtain ⟨⟨s, hs, h1⟩, h2⟩ := h6 (nx 2 l).2; exact ⟨⟨s, by simp at hs; simp [hs], h1⟩, h2⟩
  · obtain ⟨⟨s, hs, h1⟩, h2⟩ := ok_nu hS hD (nx 2 l).2; exact ⟨⟨s, by simp at hs; simp [hs], h1⟩, h2⟩
theorem ok_dfn {S D : Nat} {T : Nat → Gen} (h : ∀ s ∈ [5, 6, 7, 8], Ok S D (T s) [s]) : Ok (2 * S + 1) (D + 1) (dfn T) [4] := by
  intro l
  have hk := nx_lt (m := 4) l (by omega)
  show _ ∧ _
  unfold dfn
  generalize (nx 4 l).1 = k at hk
  have hk' : k = 0 ∨ k = 1 ∨ k = 2 ∨ k = 3 := by omega
  rcases hk' with rfl | rfl | rfl | rfl
  · exact (h 5 (by decide)).op1 (o := 11) (by decide) (nx 4 l).2
  · exact (h 6 (by decide)).op1 (o := 11) (by decide) (nx 4 l).2
  · exact (h 7 (by decide)).op1 (o := 11) (by decide) (nx 4 l).2
  · exact (h 8 (by decide)).op1 (o := 11) (by decide) (nx 4 l).2
theorem Ok.le {S D S' D' : Nat} {g : Gen} {ss : List Nat} (h : Ok S D g ss) (hS : S ≤ S') (hD : D ≤ D') : Ok S' D' g ss := fun l => by
  obtain ⟨h1, h2, h3⟩ := h l
  exact ⟨h1, by omega, by omega⟩
theorem ok_two {S D : Nat} (hS : 1 ≤ S) : Ok (2 * S + 1) (D + 1 + 1) (op2 2 nu nu) [3] := fun l => ⟨⟨3, by simp, .pt _ _ (nx_lt _ (by omega)) (nx_lt _ (by omega))⟩, by show 3 ≤ _; omega, by show 2 ≤ _; omega⟩
theorem ok_op3 {S D v : Nat} {T : Nat → Gen} (hv : v < 3) (hS : 2 ≤ S) (hD : 1 ≤ D) (hp : Ok S D (plc T) [7, 3]) : Ok (2 * S + 1) (D + 1) (op3 15 (pt v) (plc T) nu) [5] := by
  intro l
  obtain ⟨⟨s, hs, h1⟩, h2, h3⟩ := ok_pt (S := 1) (D := 1) hv (by omega) (by omega) l
  obtain ⟨⟨r, hr, g1⟩, g2, g3⟩ := hp (pt v l).2
  obtain ⟨⟨q, hq, k1⟩, k2, k3⟩ := ok_nu (S := 1) (D := 1) (by omega) (by omega) (plc T (pt v l).2).2
  obtain rfl : s = 7 := by simpa using hs
  obtain rfl : q = 2 := by simpa using hq
  refine ⟨⟨5, by simp, .n3 15 7 r 2 5 ?_ _ _ _ h1 g1 k1⟩, ?_, ?_⟩
  · simp only [List.mem_cons, List.not_mem_nil, or_false] at hr
    rcases hr with rfl | rfl <;> decide
  · simp only [op3, Ex.size, sizeL]; omega
  · simp only [op3, Ex.dep, depL]; omega
/-- with all types below -/
theorem ok_leaf {S D v : Nat} {T : Nat → Gen} (hv : v < 3) (hS : 3 ≤ S) (hD : 2 ≤ D) (h : ∀ s ∈ [1, 2, 3, 4, 5, 6, 7, 8], Ok S D (T s) [s]) (t k : Nat) (ht : t ∈ [1, 2, 3, 4, 5, 6, 7, 8]) : Ok (2 * S + 1) (D + 1) (leafOf v T t k) [t] := by
  have h1 := h 1 (by decide); have h4 := h 4 (by decide); have h5 := h 5 (by decide); have h6 := h 6 (by decide); have h7 := h 7 (by decide); have h3 := h 3 (by decide); have h8 := h 8 (by decide)
  have hn : Ok S D nu [2] := ok_nu (by omega) (by omega)
  have hp := ok_plc h7 h3
  have ha := ok_amt (T := T) (by omega) (by omega) h6
  have ho : Ok (2 * S + 1) (D + 1) (op2 2 nu nu) [3] := by
    obtain ⟨D', rfl⟩ : ∃ D', D = D' + 1 := ⟨D - 1, by omega⟩
    exact ok_two (by omega)
  simp only [List.mem_cons, List.not_mem_nil, or_false] at ht
  unfold leafOf
  rcases ht with rfl | rfl | rfl | rfl | rfl | rfl | rfl | rfl
  · rw [if_neg (by omega)]; simp only [if_neg (show ¬ 1 = 2 by decide), if_neg (show ¬ 1 = 3 by decide), if_neg (show ¬ 1 = 7 by decide), if_neg (show ¬ 1 = 8 by decide), if_neg (show ¬ 1 = 4 by decide), if_neg (show ¬ 1 = 6 by decide), if_neg (show ¬ 1 = 5 by decide)]
    unfold leaf1
    repeat' split
    · exact h1.op2 (o := 23) h1 (by decide)
    · exact h1.op2 (o := 24) h1 (by decide)
    · exact h1.op1 (o := 25) (by decide)
    · exact h5.op2 (o := 28) hn (by decide)
    · exact h6.op2 (o := 30) hn (by decide)
    · exact h5.op1 (o := 27) (by decide)
    · exact h5.op1 (o := 26) (by decide)
  · rw [if_neg (by omega), if_pos rfl]; exact hn.le (by omega) (by omega)
  · rw [if_neg (by omega), if_neg (by decide), if_pos rfl]; exact ho
  · rw [if_neg (by omega)]; simp only [if_neg (show ¬ 4 = 2 by decide), if_neg (show ¬ 4 = 3 by decide), if_neg (show ¬ 4 = 7 by decide), if_neg (show ¬ 4 = 8 by decide), if_true]
    unfold leaf4
    repeat' split
    · exact h4.op2 (o := 7) h4 (by decide)
    · exact h4.op2 (o := 8) h4 (by decide)
    · exact h4.op2 (o := 9) h4 (by decide)
    · exact h5.op1 (o := 10) (by decide)
    · exact ok_dfn fun s hs => h s (by simp only [List.mem_cons, List.not_mem_nil, or_false] at hs ⊢; omega)
    · exact hn.op2 (o := 6) hn (by decide)
  · split
    · split
      · exact h5.op2 (o := 12) h4 (by decide)
      · exact h5.op2 (o := 29) hn (by decide)
    · simp only [if_neg (show ¬ 5 = 2 by decide), if_neg (show ¬ 5 = 3 by decide), if_neg (show ¬ 5 = 7 by decide), if_neg (show ¬ 5 = 8 by decide), if_neg (show ¬ 5 = 4 by decide), if_neg (show ¬ 5 = 6 by decide), if_true]
      unfold leaf5
      repeat' split
      · exact h7.op2 (o := 16) h8 (by decide)
      · exact h6.op2 (o := 21) ha (by decide)
      · exact h6.op2 (o := 22) ha (by decide)
      · exact h5.op2 (o := 23) h5 (by decide)
      · exact h5.op2 (o := 24) h5 (by decide)
      · exact h5.op1 (o := 25) (by decide)
      · exact ok_op3 hv (by omega) (by omega) hp
  · split
    · split
      · exact h6.op2 (o := 12) h4 (by decide)
      · exact h6.op2 (o := 29) hn (by decide)
    · simp only [if_neg (show ¬ 6 = 2 by decide), if_neg (show ¬ 6 = 3 by decide), if_neg (show ¬ 6 = 7 by decide), if_neg (show ¬ 6 = 8 by decide), if_neg (show ¬ 6 = 4 by decide), if_true]
      unfold leaf6
      repeat' split
      · exact h7.op2 (o := 13) hp (by decide)
      · exact h8.op1 (o := 17) (by decide)
      · exact h6.op2 (o := 18) ha (by decide)
      · exact h6.op2 (o := 19) ha (by decide)
      · exact hn.op2 (o := 20) h6 (by decide)
      · exact (ok_pt (S := S) (D := D) hv (by omega) (by omega)).op1 (o := 14) (by decide)
  · split
    · split
      · exact h7.op2 (o := 12) h4 (by decide)
      · exact h7.op2 (o := 29) hn (by decide)
    · simp only [if_neg (show ¬ 7 = 2 by decide), if_neg (show ¬ 7 = 3 by decide), if_true]
      exact ok_pt hv (by omega) (by omega)
  · split
    · split
      · exact h8.op2 (o := 12) h4 (by decide)
      · exact h8.op2 (o := 29) hn (by decide)
    · simp only [if_neg (show ¬ 8 = 2 by decide), if_neg (show ¬ 8 = 3 by decide), if_neg (show ¬ 8 = 7 by decide), if_true]
      exact ok_zn (by omega) (by omega)
theorem ok0 {v : Nat} (hv : v < 3) : ∀ s ∈ [3, 7], Ok 3 2 (typedM v 0 s) [s] := by
  intro s hs
  simp only [List.mem_cons, List.not_mem_nil, or_false] at hs
  rcases hs with rfl | rfl
  · exact ok_two (S := 1) (D := 0) (by omega)
  · exact ok_pt hv (by omega) (by omega)
theorem ok1 {v : Nat} (hv : v < 3) : ∀ s ∈ [3, 5, 7], Ok 7 3 (typedM v 1 s) [s] := by
  intro s hs
  have h := ok0 hv
  simp only [List.mem_cons, List.not_mem_nil, or_false] at hs
  rcases hs with rfl | rfl | rfl
  · exact ok_two (S := 3) (D := 1) (by omega)
  · exact ok_op3 (S := 3) (D := 2) hv (by omega) (by omega) (ok_plc (h 7 (by decide)) (h 3 (by decide)))
  · exact ok_pt hv (by omega) (by omega)
theorem ok2 {v : Nat} (hv : v < 3) : ∀ s ∈ [1, 2, 3, 4, 5, 6, 7, 8], Ok 15 4 (typedM v 2 s) [s] := by
  intro s hs
  have h := ok1 hv
  simp only [List.mem_cons, List.not_mem_nil, or_false] at hs
  rcases hs with rfl | rfl | rfl | rfl | rfl | rfl | rfl | rfl
  · exact (h 5 (by decide)).op1 (o := 26) (by decide)
  · exact ok_nu (by omega) (by omega)
  · exact ok_two (S := 7) (D := 2) (by omega)
  · exact (ok_nu (S := 7) (D := 3) (by omega) (by omega)).op2 (o := 6) (ok_nu (by omega) (by omega)) (by decide)
  · exact ok_op3 (S := 7) (D := 3) hv (by omega) (by omega) (ok_plc (h 7 (by decide)) (h 3 (by decide)))
  · exact (ok_pt (S := 7) (D := 3) hv (by omega) (by omega)).op1 (o := 14) (by decide)
  · exact ok_pt hv (by omega) (by omega)
  · exact ok_zn (by omega) (by omega)
theorem ok_up {S D v L : Nat} (hv : v < 3) (hS : 3 ≤ S) (hD : 2 ≤ D) (hL : 2 ≤ L) (h : ∀ s ∈ [1, 2, 3, 4, 5, 6, 7, 8], Ok S D (typedM v L s) [s]) : ∀ s ∈ [1, 2, 3, 4, 5, 6, 7, 8], Ok (2 * S + 1) (D + 1) (typedM v (L + 1) s) [s] := by
  intro s hs l
  have e : typedM v (L + 1) s l = leafOf v (typedM v L) s (nx 10 l).1 (nx 10 l).2 := by
    show (if 2 ≤ L then _ else _) = _
    rw [if_pos hL]
  rw [e]
  exact ok_leaf hv hS hD h s _ hs _
theorem ok5 {v : Nat} (hv : v < 3) : ∀ s ∈ [1, 2, 3, 4, 5, 6, 7, 8], Ok 127 7 (typedM v 5 s) [s] :=
  ok_up (S := 63) (D := 6) hv (by omega) (by omega) (by omega) (ok_up (S := 31) (D := 5) hv (by omega) (by omega) (by omega) (ok_up (S := 15) (D := 4) hv (by omega) (by omega) (by omega) (ok2 hv)))
theorem typed_ok {v t : Nat} (hv : v < 3) (ht : t ∈ [1, 2, 3, 4, 5, 6, 7, 8]) (l : List UInt8) : Typ (typedEx v t l) t ∧ (typedEx v t l).size ≤ 127 ∧ (typedEx v t l).dep ≤ 7 := by
  obtain ⟨⟨s, hs, h1⟩, h2⟩ := ok5 hv t ht (l.take 24)
  obtain rfl : s = t := by simpa using hs
  exact ⟨h1, h2⟩
end Go.Proofs.YtnljmpeaeajcoaaGreatDoor

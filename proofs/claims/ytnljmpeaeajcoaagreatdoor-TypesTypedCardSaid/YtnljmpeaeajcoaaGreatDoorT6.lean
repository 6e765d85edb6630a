/- A part of the proof over this seat's program: the checked evaluator and its soundness (E..), and what it gives here (the others). No condition. -/
import Derived.Test.YtnljmpeaeajcoaaGreatDoorT5
namespace Go.Proofs.YtnljmpeaeajcoaaGreatDoor
open Go Go.Eng Go.Vi
local instance : Go.Eng.Mode := Sy

/-! THE MODEL of the typed expressions: from the numbers that are left to an expression and the numbers that are left then -/
abbrev Gen := List UInt8 → Ex × List UInt8
def op1 (o : Int) (f : Gen) : Gen := fun l => (.mk o [] Rt.zero [(f l).1], (f l).2)
def op2 (o : Int) (f g : Gen) : Gen := fun l => (.mk o [] Rt.zero [(f l).1, (g (f l).2).1], (g (f l).2).2)
def op3 (o : Int) (f g h : Gen) : Gen := fun l => (.mk o [] Rt.zero [(f l).1, (g (f l).2).1, (h (g (f l).2).2).1], (h (g (f l).2).2).2)
def nu : Gen := fun l => (exNum (nx 256 l).1, (nx 256 l).2)
def pt (v : Nat) : Gen := fun l => (exPoint v (nx 8 l).1, (nx 8 l).2)
def zname (j : Nat) : List UInt8 := if j = 0 then [122, 111, 110, 101, 49] else if j = 1 then [122, 111, 110, 101, 50] else [110, 111, 110, 101]
def exZone (j : Nat) : Ex := .mk 5 (zname j) Rt.zero []
def zn : Gen := fun l => (exZone (nx 3 l).1, (nx 3 l).2)
def plc (T : Nat → Gen) : Gen := fun l => if (nx 2 l).1 = 0 then T 7 (nx 2 l).2 else T 3 (nx 2 l).2
def amt (T : Nat → Gen) : Gen := fun l => if (nx 2 l).1 = 0 then T 6 (nx 2 l).2 else nu (nx 2 l).2
def dfn (T : Nat → Gen) : Gen := fun l => op1 11 (T (5 + (nx 4 l).1)) (nx 4 l).2
def leaf4 (T : Nat → Gen) (k : Nat) : Gen :=
  if k = 1 then op2 7 (T 4) (T 4) else if k = 2 then op2 8 (T 4) (T 4) else if k = 3 then op2 9 (T 4) (T 4) else if k = 4 ∨ k = 5 then op1 10 (T 5) else if k = 6 ∨ k = 7 then dfn T else op2 6 nu nu
def leaf6 (v : Nat) (T : Nat → Gen) (k : Nat) : Gen :=
  if k = 1 ∨ k = 2 then op2 13 (T 7) (plc T) else if k = 3 then op1 17 (T 8) else if k = 4 then op2 18 (T 6) (amt T) else if k = 5 then op2 19 (T 6) (amt T) else if k = 6 then op2 20 nu (T 6) else op1 14 (pt v)
def leaf5 (v : Nat) (T : Nat → Gen) (k : Nat) : Gen :=
  if k = 1 ∨ k = 2 then op2 16 (T 7) (T 8) else if k = 3 then op2 21 (T 6) (amt T) else if k = 4 then op2 22 (T 6) (amt T) else if k = 5 then op2 23 (T 5) (T 5) else if k = 6 then op2 24 (T 5) (T 5) else if k = 7 then op1 25 (T 5) else op3 15 (pt v) (plc T) nu
def leaf1 (T : Nat → Gen) (k : Nat) : Gen :=
  if k = 1 then op2 23 (T 1) (T 1) else if k = 2 then op2 24 (T 1) (T 1) else if k = 3 then op1 25 (T 1) else if k = 4 then op2 28 (T 5) nu else if k = 5 then op2 30 (T 6) nu else if k = 6 then op1 27 (T 5) else op1 26 (T 5)
def leafOf (v : Nat) (T : Nat → Gen) (t k : Nat) : Gen :=
  if 5 ≤ t ∧ 8 ≤ k then (if k = 8 then op2 12 (T t) (T 4) else op2 29 (T t) nu)
  else if t = 2 then nu else if t = 3 then op2 2 nu nu else if t = 7 then pt v else if t = 8 then zn else if t = 4 then leaf4 T k else if t = 6 then leaf6 v T k else if t = 5 then leaf5 v T k else leaf1 T k
/-- L: the levels, and one more -/
def typedM (v : Nat) : Nat → Nat → Gen
  | 0 => fun t => leafOf v (fun _ => nu) t 0
  | L + 1 => fun t l => if 2 ≤ L then leafOf v (typedM v L) t (nx 10 l).1 (nx 10 l).2 else leafOf v (typedM v L) t 0 l

/-- a function answers as a part of the model says, and leaves the coder so -/
def GSim (F : FuncId) (args : List AV) (v : Nat) (g : Gen) : Prop := ∀ l, BSim Tryz.prog F args [cD l v] [cD (g l).2 v] (exA (g l).1)
noncomputable def eG (F : FuncId) (args : List AV) (v : Nat) (g : Gen) (l : List UInt8) : FuncId × SEnt := (F, ⟨args, [(0, toAVs (cD l v), toAVs (cD (g l).2 v))], exA (g l).1⟩)
theorem eG_ok {F : FuncId} {args : List AV} {v : Nat} {g : Gen} (h : GSim F args v g) (ha : mapO (renT [0]) args = some args) (l : List UInt8) : SSpec Tryz.prog (eG F args v g l).1 (eG F args v g l).2 := (h l).spec1 0 ha
theorem number_g (v : Nat) : GSim 41 [.ptr 0 0] v nu := fun l => number_c l _ v _ rfl
theorem point_g (v : Nat) (hv : v < 3) : GSim 42 [.ptr 0 0] v (pt v) := fun l => point_c l _ v _ hv rfl
/-- an answer of next, by what is left -/
noncomputable def eN (m : Nat) (l : List UInt8) (v : Nat) : FuncId × SEnt := eNext 0 m l (nx m l).2 v (nx m l).1
theorem eN_ok (m : Nat) (l : List UInt8) (v : Nat) : SSpec Tryz.prog (eN (m + 1) l v).1 (eN (m + 1) l v).2 := eNext_ok rfl

theorem ok23 : FnOk Tryz.prog 23 Tryz.f23 := ⟨Tryz.func23, by kernel_rfl, by kernel_rfl⟩
/-- all of a script is shown -/
def AllOk : List (FuncId × SEnt) → Prop
  | [] => True
  | e :: l => SSpec Tryz.prog e.1 e.2 ∧ AllOk l
theorem AllOk.mem : ∀ {S : List (FuncId × SEnt)}, AllOk S → ∀ e ∈ S, SSpec Tryz.prog e.1 e.2
  | e :: S, h, x, hx => by
    rcases List.mem_cons.1 hx with rfl | hx
    · exact h.1
    · exact AllOk.mem h.2 x hx
/-- what typed's code does from these arguments -/
noncomputable def run23 (S : List (FuncId × SEnt)) (t lev : Int) (l : List UInt8) (v : Nat) (π : List Nat) (I : AV → List (Option Blk) → Bool) : Bool :=
  Eng.exec Tryz.prog X0 S 60 Tryz.f23.ntmps (codeOf Tryz.f23) (mkFr (argSlots [.ptr 0 0, .int .i64 t, .int .i64 lev] 0)) (mkMem (rowsOf [cD l v])) (fun o fr M => endK o (resK Tryz.prog fr M Tryz.f23.results.toList fun vs => I (oneOf vs) (mv π M)))
theorem node {S : List (FuncId × SEnt)} (hS : AllOk S) {t lev : Int} {l l' : List UInt8} {v : Nat} (o : Int) (xs : List Ex) (b : Nat) (hb : 1 ≤ b) (G : Bool → Bool) (hG : ∀ c, c = true → G c = true)
    (hrun : ∀ I, run23 S t lev l v [0, b] I = G (I (mkA o [] Rt.zero (.slice b 0 xs.length xs.length false)) [some (.row (toAVs (cD l' v)) false 1), some (.row (toAVs (xs.map exD).flatten) false 7)])) :
    BSim Tryz.prog 23 [.ptr 0 0, .int .i64 t, .int .i64 lev] [cD l v] [cD l' v] (exA (.mk o [] Rt.zero xs)) := by
  refine BSim.run hm hX0 hS.mem ok23 (by kernel_rfl) rfl 60 [0, b] (fun I => G (I (mkA o [] Rt.zero (.slice b 0 xs.length xs.length false)) [some (.row (toAVs (cD l' v)) false 1), some (.row (toAVs (xs.map exD).flatten) false 7)])) hrun ?_
  refine hG _ (pdec_iff.2 (Leaf.box fun M' hM' => ?_))
  simp only [mv, List.map_cons, List.map_nil, List.cons.injEq] at hM'
  exact fz_ex o [] Rt.zero xs hb hM'.1 (Nat.le_refl _)
theorem node0 {S : List (FuncId × SEnt)} (hS : AllOk S) {t lev : Int} {l l' : List UInt8} {v : Nat} (o : Int) (n : List UInt8) (r : Rt) (G : Bool → Bool) (hG : ∀ c, c = true → G c = true)
    (hrun : ∀ I, run23 S t lev l v [0] I = G (I (mkA o n r .nilSlice) [some (.row (toAVs (cD l' v)) false 1)])) :
    BSim Tryz.prog 23 [.ptr 0 0, .int .i64 t, .int .i64 lev] [cD l v] [cD l' v] (exA (.mk o n r [])) := by
  refine BSim.run hm hX0 hS.mem ok23 (by kernel_rfl) rfl 60 [0] (fun I => G (I (mkA o n r .nilSlice) [some (.row (toAVs (cD l' v)) false 1)])) hrun ?_
  exact hG _ (pdec_iff.2 (Leaf.box fun M' hM' => mkA0 ..))
/-- one that is handed on -/
theorem nodeH {S : List (FuncId × SEnt)} (hS : AllOk S) {t lev : Int} {l l' : List UInt8} {v : Nat} (x : Ex) (G : Bool → Bool) (hG : ∀ c, c = true → G c = true)
    (hrun : ∀ I, run23 S t lev l v [0] I = G (I (exA x) [some (.row (toAVs (cD l' v)) false 1)])) :
    BSim Tryz.prog 23 [.ptr 0 0, .int .i64 t, .int .i64 lev] [cD l v] [cD l' v] (exA x) := by
  refine BSim.run hm hX0 hS.mem ok23 (by kernel_rfl) rfl 60 [0] (fun I => G (I (exA x) [some (.row (toAVs (cD l' v)) false 1)])) hrun ?_
  exact hG _ (pdec_iff.2 (Leaf.box fun M' hM' => .aggs _))
/-- the levels below -/
def nOf (m : Nat) : Int := Int.sub (.ofNat (m + 2)) (.ofNat 1)
theorem nOf_eq (m : Nat) : nOf m = .ofNat (m + 1) := by unfold nOf; show ((m + 2 : Nat) : Int) - ((1 : Nat) : Int) = ((m + 1 : Nat) : Int); omega
theorem nOf_in {m : Nat} (h : m < 100) : inI64 (nOf m) = true := by rw [nOf_eq]; exact smallI _ (by omega)
end Go.Proofs.YtnljmpeaeajcoaaGreatDoor

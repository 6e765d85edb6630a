/- A part of the proof over this seat's program: the checked evaluator and its soundness, and what it gives here. No condition. -/
import Derived.Test.YtnljmpeaeajcoaaGreatDoorA3

set_option linter.all false

namespace Go.Proofs.YtnljmpeaeajcoaaGreatDoor
open Go Go.Eng Go.Vi

/-- a fraction of small numbers, as the package makes it -/
def byteMag (n : Nat) : List UInt8 := if n = 0 then [] else if n < 256 then [UInt8.ofNat n] else [UInt8.ofNat (n / 256), UInt8.ofNat n]
def ratOf (n d : Nat) : Rt := if d = 1 then ⟨false, byteMag n, false, []⟩ else if n % 2 = 0 then ⟨false, byteMag (n / 2), false, []⟩ else ⟨false, byteMag n, false, [2]⟩
def intRt (n : Nat) : Rt := ⟨false, byteMag n, false, []⟩
noncomputable def rtA (r : Rt) : AV := .agg (toAVs (rtD r))

theorem ok61 : FnOk Tryz.prog 61 Tryz.f61 := ⟨Tryz.func61, by kernel_rfl, by kernel_rfl⟩
theorem ok48 : FnOk Tryz.prog 48 Tryz.f48 := ⟨Tryz.func48, by kernel_rfl, by kernel_rfl⟩
noncomputable def fiRun (i : Nat) : Bool := (List.range' i 8).all fun n => [1, 2].all fun d => @closedRun Cl Tryz.prog X0 [] 400 Tryz.f61 [.int .i64 (.ofNat n), .int .i64 (.ofNat d)] (.tuple [rtA (ratOf n d), .int .i64 0])
theorem fi0 : fiRun 0 = true := by kernel_rfl
theorem fi1 : fiRun 8 = true := by kernel_rfl
theorem fi2 : fiRun 16 = true := by kernel_rfl
theorem fi3 : fiRun 24 = true := by kernel_rfl
theorem fi4 : fiRun 32 = true := by kernel_rfl
theorem fi5 : fiRun 40 = true := by kernel_rfl
theorem fi6 : fiRun 48 = true := by kernel_rfl
theorem fi7 : fiRun 56 = true := by kernel_rfl
theorem fromInts (n d : Nat) (hn : n < 64) (hd : d = 1 ∨ d = 2) : BSim Tryz.prog 61 [.int .i64 (.ofNat n), .int .i64 (.ofNat d)] [] [] (.tuple [rtA (ratOf n d), .int .i64 0]) := by
  have key : ∀ i, fiRun i = true → i ≤ n → n < i + 8 → @closedRun Cl Tryz.prog X0 [] 400 Tryz.f61 [.int .i64 (.ofNat n), .int .i64 (.ofNat d)] (.tuple [rtA (ratOf n d), .int .i64 0]) = true := by
    intro i h h1 h2
    exact List.all_eq_true.1 (List.all_eq_true.1 h n (List.mem_range'.2 ⟨n - i, by omega, by omega⟩)) d (by simpa using hd)
  have h : @closedRun Cl Tryz.prog X0 [] 400 Tryz.f61 [.int .i64 (.ofNat n), .int .i64 (.ofNat d)] (.tuple [rtA (ratOf n d), .int .i64 0]) = true := by
    by_cases h0 : n < 8
    · exact key 0 fi0 (by omega) (by omega)
    by_cases h1 : n < 16
    · exact key 8 fi1 (by omega) (by omega)
    by_cases h2 : n < 24
    · exact key 16 fi2 (by omega) (by omega)
    by_cases h3 : n < 32
    · exact key 24 fi3 (by omega) (by omega)
    by_cases h4 : n < 40
    · exact key 32 fi4 (by omega) (by omega)
    by_cases h5 : n < 48
    · exact key 40 fi5 (by omega) (by omega)
    by_cases h6 : n < 56
    · exact key 48 fi6 (by omega) (by omega)
    · exact key 56 fi7 (by omega) (by omega)
  exact @BSim.closed Cl Tryz.prog hm X0 (fun _ _ h => by cases h) [] (fun _ h => by cases h) 61 Tryz.f61 ok61 _ _ (by rfl) 400 h rfl
theorem fromInt_runs : ((List.range 257).all fun n => @closedRun Cl Tryz.prog X0 [] 400 Tryz.f48 [.int .i64 (.ofNat n)] (rtA (intRt n))) = true := by kernel_rfl
theorem fromInt (n : Nat) (hn : n < 257) : BSim Tryz.prog 48 [.int .i64 (.ofNat n)] [] [] (rtA (intRt n)) := by
  have h := List.all_eq_true.1 fromInt_runs n (List.mem_range.2 hn)
  exact @BSim.closed Cl Tryz.prog hm X0 (fun _ _ h => by cases h) [] (fun _ h => by cases h) 48 Tryz.f48 ok48 _ _ (by rfl) 400 h rfl
end Go.Proofs.YtnljmpeaeajcoaaGreatDoor

namespace Go.Proofs.YtnljmpeaeajcoaaGreatDoor
open Go Go.Eng Go.Vi
local instance : Go.Eng.Mode := Sy

def nx (m : Nat) : List UInt8 → Nat × List UInt8
  | [] => (0, [])
  | a :: l => (a.toNat % m, l)
theorem nx_lt {m : Nat} (l : List UInt8) (h : 0 < m) : (nx m l).1 < m := by
  cases l with
  | nil => exact h
  | cons a l => exact Nat.mod_lt _ h
theorem next_c (l : List UInt8) (v m : Nat) : BSim Tryz.prog 39 [.ptr 0 0, .int .i64 (.ofNat (m + 1))] [cD l v] [cD (nx (m + 1) l).2 v] (.int .i64 (.ofNat (nx (m + 1) l).1)) := by
  cases l with
  | nil => exact next_nil v m
  | cons a l => exact next_cons a l v m
/-- an answer of next, for a run -/
noncomputable def eNext (b : Nat) (m : Nat) (l l' : List UInt8) (v k : Nat) : FuncId × SEnt := (39, ⟨[.ptr b 0, .int .i64 (.ofNat m)], [(b, toAVs (cD l v), toAVs (cD l' v))], .int .i64 (.ofNat k)⟩)
theorem eNext_ok {b m : Nat} {l l' : List UInt8} {v k : Nat} (h : nx (m + 1) l = (k, l')) : SSpec Tryz.prog (eNext b (m + 1) l l' v k).1 (eNext b (m + 1) l l' v k).2 := by
  have := next_c l v m
  rw [h] at this
  exact this.spec1 b rfl

noncomputable def mkA (o : Int) (n : List UInt8) (r : Rt) (s : AV) : AV := .agg [.int .i64 o, toAV (sD n), .bool r.neg, toAV (sD r.mag), .bool r.dneg, toAV (sD r.dmag), s]
theorem mkA0 {k : Nat} {M : Mem} (o : Int) (n : List UInt8) (r : Rt) : FzA k M (mkA o n r .nilSlice) (exA (.mk o n r [])) := fz_ex0 o n r
noncomputable def gB (c b : Bool) : Bool := Bool.rec (motive := fun _ => Bool) false b c
theorem gB_iff {c b : Bool} : gB c b = true ↔ c = true ∧ b = true := brec_false
noncomputable def gIf (c x y : Bool) : Bool := Bool.rec (motive := fun _ => Bool) y x c
theorem gIf_of {c x y : Bool} (h1 : c = true → x = true) (h2 : c = false → y = true) : gIf c x y = true := by
  cases c with
  | true => exact h1 rfl
  | false => exact h2 rfl
theorem gIf_f {c x y : Bool} (hc : c = false) (h : y = true) : gIf c x y = true := by subst hc; exact h
noncomputable def gE {α : Type} (x : α) (b : Bool) : Bool := gateP (x = x) b
theorem gE_iff {α : Type} {x : α} {b : Bool} : gE x b = true ↔ b = true := by unfold gE; rw [gateP_iff]; exact ⟨fun h => h.2, fun h => ⟨rfl, h⟩⟩
/-- a call of the script, with its gates -/
noncomputable def gC (e : FuncId × SEnt) (b : Bool) : Bool := gE e.2.args (match e.2.ups with | [] => b | u :: _ => gE u.2.1 b)
theorem gC_iff {e : FuncId × SEnt} {b : Bool} : gC e b = true ↔ b = true := by
  unfold gC
  split <;> simp only [gE_iff]

def exNum (k : Nat) : Ex := .mk 1 [] (ratOf (k % 64) (1 + k / 128)) []
theorem ok41 : FnOk Tryz.prog 41 Tryz.f41 := ⟨Tryz.func41, by kernel_rfl, by kernel_rfl⟩
noncomputable def eInts (n d : Nat) : FuncId × SEnt := (61, ⟨[.int .i64 (.ofNat n), .int .i64 (.ofNat d)], [], .tuple [rtA (ratOf n d), .int .i64 0]⟩)
theorem eInts_ok {n d : Nat} (hn : n < 64) (hd : d = 1 ∨ d = 2) : SSpec Tryz.prog (eInts n d).1 (eInts n d).2 := (fromInts n d hn hd).spec0 rfl
theorem smallI (n : Nat) (h : n < 9223372036854775808) : inI64 (.ofNat n) = true := (inI64_iff _).2 (by simp only [Int.ofNat_eq_natCast]; omega)
theorem number_c (l l' : List UInt8) (v k : Nat) (h : nx 256 l = (k, l')) : BSim Tryz.prog 41 [.ptr 0 0] [cD l v] [cD l' v] (exA (exNum k)) := by
  have hk : k < 256 := by have := nx_lt (m := 256) l (by omega); rw [h] at this; exact this
  refine BSim.run hm hX0 (S := [eNext 0 256 l l' v k, eInts (k % 64) (1 + k / 128)]) (fun e he => ?_) ok41 (by kernel_rfl) rfl 40 [0]
    (fun I => gC (eNext 0 256 l l' v k) (gB (inI64 (.ofNat (k / 128))) (gB (inI64 (.ofNat (1 + k / 128))) (gC (eInts (k % 64) (1 + k / 128)) (I (mkA 1 [] (ratOf (k % 64) (1 + k / 128)) .nilSlice) [some (.row (toAVs (cD l' v)) false 1)]))))) (fun I => by kernel_rfl) ?_
  · rcases List.mem_cons.1 he with rfl | he
    · exact eNext_ok h
    · rcases List.mem_cons.1 he with rfl | he
      · exact eInts_ok (Nat.mod_lt _ (by omega)) (by omega)
      · cases he
  · simp only [gC_iff, gB_iff]
    exact ⟨smallI _ (by omega), smallI _ (by omega), pdec_iff.2 (Leaf.box fun _ _ => mkA0 ..)⟩
end Go.Proofs.YtnljmpeaeajcoaaGreatDoor

namespace Go.Proofs.YtnljmpeaeajcoaaGreatDoor
open Go Go.Eng Go.Vi
local instance : Go.Eng.Mode := Sy

def vname (i : Nat) : List UInt8 := if i = 0 then [97] else [98]
def exObj (n : Nat) : Ex := .mk 3 [] (intRt n) []
def exVar (i : Nat) : Ex := .mk 4 (vname i) Rt.zero []
def exPoint (v k : Nat) : Ex := if 0 < v ∧ 4 ≤ k then exVar (k % v) else exObj (1 + k % 4)
theorem ok42 : FnOk Tryz.prog 42 Tryz.f42 := ⟨Tryz.func42, by kernel_rfl, by kernel_rfl⟩
noncomputable def eInt (n : Nat) : FuncId × SEnt := (48, ⟨[.int .i64 (.ofNat n)], [], rtA (intRt n)⟩)
theorem eInt_ok {n : Nat} (hn : n < 257) : SSpec Tryz.prog (eInt n).1 (eInt n).2 := (fromInt n hn).spec0 rfl
theorem two_mem {a b : FuncId × SEnt} (ha : SSpec Tryz.prog a.1 a.2) (hb : SSpec Tryz.prog b.1 b.2) : ∀ e ∈ [a, b], SSpec Tryz.prog e.1 e.2 := by
  intro e he
  rcases List.mem_cons.1 he with rfl | he
  · exact ha
  · rcases List.mem_cons.1 he with rfl | he
    · exact hb
    · cases he
theorem point_c (l l' : List UInt8) (v k : Nat) (hv : v < 3) (h : nx 8 l = (k, l')) : BSim Tryz.prog 42 [.ptr 0 0] [cD l v] [cD l' v] (exA (exPoint v k)) := by
  have hk : k < 8 := by have := nx_lt (m := 8) l (by omega); rw [h] at this; exact this
  have hk' : k = 0 ∨ k = 1 ∨ k = 2 ∨ k = 3 ∨ k = 4 ∨ k = 5 ∨ k = 6 ∨ k = 7 := by omega
  have hv' : v = 0 ∨ v = 1 ∨ v = 2 := by omega
  have obj : ∀ n, n < 257 → (∀ I : AV → List (Option Blk) → Bool, Eng.exec Tryz.prog X0 [eNext 0 8 l l' v k, eInt n] 40 Tryz.f42.ntmps (codeOf Tryz.f42) (mkFr (argSlots [.ptr 0 0] 0)) (mkMem (rowsOf [cD l v])) (fun o fr M => endK o (resK Tryz.prog fr M Tryz.f42.results.toList fun vs => I (oneOf vs) (mv [0] M))) =
      gC (eNext 0 8 l l' v k) (gC (eInt n) (I (mkA 3 [] (intRt n) .nilSlice) [some (.row (toAVs (cD l' v)) false 1)]))) → BSim Tryz.prog 42 [.ptr 0 0] [cD l v] [cD l' v] (exA (exObj n)) := by
    intro n hn hrun
    refine BSim.run hm hX0 (two_mem (eNext_ok h) (eInt_ok hn)) ok42 (by kernel_rfl) rfl 40 [0] _ hrun ?_
    simp only [gC_iff]
    exact pdec_iff.2 (Leaf.box fun _ _ => mkA0 ..)
  have var : ∀ i, (∀ I : AV → List (Option Blk) → Bool, Eng.exec Tryz.prog X0 [eNext 0 8 l l' v k] 40 Tryz.f42.ntmps (codeOf Tryz.f42) (mkFr (argSlots [.ptr 0 0] 0)) (mkMem (rowsOf [cD l v])) (fun o fr M => endK o (resK Tryz.prog fr M Tryz.f42.results.toList fun vs => I (oneOf vs) (mv [0] M))) =
      gC (eNext 0 8 l l' v k) (I (mkA 4 (vname i) Rt.zero .nilSlice) [some (.row (toAVs (cD l' v)) false 1)])) → BSim Tryz.prog 42 [.ptr 0 0] [cD l v] [cD l' v] (exA (exVar i)) := by
    intro i hrun
    refine BSim.run hm hX0 (S := [eNext 0 8 l l' v k]) (fun e he => ?_) ok42 (by kernel_rfl) rfl 40 [0] _ hrun ?_
    · obtain rfl := List.mem_singleton.1 he
      exact eNext_ok h
    · simp only [gC_iff]
      exact pdec_iff.2 (Leaf.box fun _ _ => mkA0 ..)
  rcases hv' with rfl | rfl | rfl
  · rcases hk' with rfl | rfl | rfl | rfl | rfl | rfl | rfl | rfl
    · exact obj 1 (by omega) (fun I => by kernel_rfl)
    · exact obj 2 (by omega) (fun I => by kernel_rfl)
    · exact obj 3 (by omega) (fun I => by kernel_rfl)
    · exact obj 4 (by omega) (fun I => by kernel_rfl)
    · exact obj 1 (by omega) (fun I => by kernel_rfl)
    · exact obj 2 (by omega) (fun I => by kernel_rfl)
    · exact obj 3 (by omega) (fun I => by kernel_rfl)
    · exact obj 4 (by omega) (fun I => by kernel_rfl)
  · rcases hk' with rfl | rfl | rfl | rfl | rfl | rfl | rfl | rfl
    · exact obj 1 (by omega) (fun I => by kernel_rfl)
    · exact obj 2 (by omega) (fun I => by kernel_rfl)
    · exact obj 3 (by omega) (fun I => by kernel_rfl)
    · exact obj 4 (by omega) (fun I => by kernel_rfl)
    · exact var 0 (fun I => by kernel_rfl)
    · exact var 0 (fun I => by kernel_rfl)
    · exact var 0 (fun I => by kernel_rfl)
    · exact var 0 (fun I => by kernel_rfl)
  · rcases hk' with rfl | rfl | rfl | rfl | rfl | rfl | rfl | rfl
    · exact obj 1 (by omega) (fun I => by kernel_rfl)
    · exact obj 2 (by omega) (fun I => by kernel_rfl)
    · exact obj 3 (by omega) (fun I => by kernel_rfl)
    · exact obj 4 (by omega) (fun I => by kernel_rfl)
    · exact var 0 (fun I => by kernel_rfl)
    · exact var 1 (fun I => by kernel_rfl)
    · exact var 0 (fun I => by kernel_rfl)
    · exact var 1 (fun I => by kernel_rfl)
end Go.Proofs.YtnljmpeaeajcoaaGreatDoor

namespace Go.Proofs.YtnljmpeaeajcoaaGreatDoor
open Go Go.Eng Go.Vi
local instance : Go.Eng.Mode := Sy

/-! THE MODEL of the typed expressions: from the numbers that are left to an expression and the numbers that are left then -/
abbrev Gen := List UInt8 → Ex × List UInt8
def op1 (o : Int) (f : Gen) : Gen := fun l => (.mk o [] Rt.zero [(f l).1], (f l).2)
def op2 (o : Int) (f g : Gen) : Gen := fun l => (.mk o [] Rt.zero [(f l).1, (g (f l).2).1], (g (f l).2).2)
def op3 (o : Int) (f g h : Gen) : Gen := fun l => (.mk o [] Rt.zero [(f l).1, (g (f l).2).1, (h (g (f l).2).2).1], (h (g (f l).2).2).2)
def nu : Gen := fun l => (exNum (nx 256 l).1, (nx 256 l).2)
def pt (v : Nat) : Gen := fun l => (exPoint v (nx 8 l).1, (nx 8 l).2)
def zname (j : Nat) : List UInt8 := if j = 0 then [122, 111, 110, 101, 49] else if j = 1 then [122, 111, 110, 101, 50] else [110, 111, 110, 101]
def exZone (j : Nat) : Ex := .mk 5 (zname j) Rt.zero []
def zn : Gen := fun l => (exZone (nx 3 l).1, (nx 3 l).2)
def plc (T : Nat → Gen) : Gen := fun l => if (nx 2 l).1 = 0 then T 7 (nx 2 l).2 else T 3 (nx 2 l).2
def amt (T : Nat → Gen) : Gen := fun l => if (nx 2 l).1 = 0 then T 6 (nx 2 l).2 else nu (nx 2 l).2
def dfn (T : Nat → Gen) : Gen := fun l => op1 11 (T (5 + (nx 4 l).1)) (nx 4 l).2
def leaf4 (T : Nat → Gen) (k : Nat) : Gen :=
  if k = 1 then op2 7 (T 4) (T 4) else if k = 2 then op2 8 (T 4) (T 4) else if k = 3 then op2 9 (T 4) (T 4) else if k = 4 ∨ k = 5 then op1 10 (T 5) else if k = 6 ∨ k = 7 then dfn T else op2 6 nu nu
def leaf6 (v : Nat) (T : Nat → Gen) (k : Nat) : Gen :=
  if k = 1 ∨ k = 2 then op2 13 (T 7) (plc T) else if k = 3 then op1 17 (T 8) else if k = 4 then op2 18 (T 6) (amt T) else if k = 5 then op2 19 (T 6) (amt T) else if k = 6 then op2 20 nu (T 6) else op1 14 (pt v)
def leaf5 (v : Nat) (T : Nat → Gen) (k : Nat) : Gen :=
  if k = 1 ∨ k = 2 then op2 16 (T 7) (T 8) else if k = 3 then op2 21 (T 6) (amt T) else if k = 4 then op2 22 (T 6) (amt T) else if k = 5 then op2 23 (T 5) (T 5) else if k = 6 then op2 24 (T 5) (T 5) else if k = 7 then op1 25 (T 5) else op3 15 (pt v) (plc T) nu
def leaf1 (T : Nat → Gen) (k : Nat) : Gen :=
  if k = 1 then op2 23 (T 1) (T 1) else if k = 2 then op2 24 (T 1) (T 1) else if k = 3 then op1 25 (T 1) else if k = 4 then op2 28 (T 5) nu else if k = 5 then op2 30 (T 6) nu else if k = 6 then op1 27 (T 5) else op1 26 (T 5)
def leafOf (v : Nat) (T : Nat → Gen) (t k : Nat) : Gen :=
  if 5 ≤ t ∧ 8 ≤ k then (if k = 8 then op2 12 (T t) (T 4) else op2 29 (T t) nu)
  else if t = 2 then nu else if t = 3 then op2 2 nu nu else if t = 7 then pt v else if t = 8 then zn else if t = 4 then leaf4 T k else if t = 6 then leaf6 v T k else if t = 5 then leaf5 v T k else leaf1 T k
/-- L: the levels, and one more -/
def typedM (v : Nat) : Nat → Nat → Gen
  | 0 => fun t => leafOf v (fun _ => nu) t 0
  | L + 1 => fun t l => if 2 ≤ L then leafOf v (typedM v L) t (nx 10 l).1 (nx 10 l).2 else leafOf v (typedM v L) t 0 l

/-- a function answers as a part of the model says, and leaves the coder so -/
def GSim (F : FuncId) (args : List AV) (v : Nat) (g : Gen) : Prop := ∀ l, BSim Tryz.prog F args [cD l v] [cD (g l).2 v] (exA (g l).1)
noncomputable def eG (F : FuncId) (args : List AV) (v : Nat) (g : Gen) (l : List UInt8) : FuncId × SEnt := (F, ⟨args, [(0, toAVs (cD l v), toAVs (cD (g l).2 v))], exA (g l).1⟩)
theorem eG_ok {F : FuncId} {args : List AV} {v : Nat} {g : Gen} (h : GSim F args v g) (ha : mapO (renT [0]) args = some args) (l : List UInt8) : SSpec Tryz.prog (eG F args v g l).1 (eG F args v g l).2 := (h l).spec1 0 ha
theorem number_g (v : Nat) : GSim 41 [.ptr 0 0] v nu := fun l => number_c l _ v _ rfl
theorem point_g (v : Nat) (hv : v < 3) : GSim 42 [.ptr 0 0] v (pt v) := fun l => point_c l _ v _ hv rfl
/-- an answer of next, by what is left -/
noncomputable def eN (m : Nat) (l : List UInt8) (v : Nat) : FuncId × SEnt := eNext 0 m l (nx m l).2 v (nx m l).1
theorem eN_ok (m : Nat) (l : List UInt8) (v : Nat) : SSpec Tryz.prog (eN (m + 1) l v).1 (eN (m + 1) l v).2 := eNext_ok rfl

theorem ok23 : FnOk Tryz.prog 23 Tryz.f23 := ⟨Tryz.func23, by kernel_rfl, by kernel_rfl⟩
/-- all of a script is shown -/
def AllOk : List (FuncId × SEnt) → Prop
  | [] => True
  | e :: l => SSpec Tryz.prog e.1 e.2 ∧ AllOk l
theorem AllOk.mem : ∀ {S : List (FuncId × SEnt)}, AllOk S → ∀ e ∈ S, SSpec Tryz.prog e.1 e.2
  | e :: S, h, x, hx => by
    rcases List.mem_cons.1 hx with rfl | hx
    · exact h.1
    · exact AllOk.mem h.2 x hx
/-- what typed's code does from these arguments -/
noncomputable def run23 (S : List (FuncId × SEnt)) (t lev : Int) (l : List UInt8) (v : Nat) (π : List Nat) (I : AV → List (Option Blk) → Bool) : Bool :=
  Eng.exec Tryz.prog X0 S 60 Tryz.f23.ntmps (codeOf Tryz.f23) (mkFr (argSlots [.ptr 0 0, .int .i64 t, .int .i64 lev] 0)) (mkMem (rowsOf [cD l v])) (fun o fr M => endK o (resK Tryz.prog fr M Tryz.f23.results.toList fun vs => I (oneOf vs) (mv π M)))
theorem node {S : List (FuncId × SEnt)} (hS : AllOk S) {t lev : Int} {l l' : List UInt8} {v : Nat} (o : Int) (xs : List Ex) (b : Nat) (hb : 1 ≤ b) (G : Bool → Bool) (hG : ∀ c, c = true → G c = true)
    (hrun : ∀ I, run23 S t lev l v [0, b] I = G (I (mkA o [] Rt.zero (.slice b 0 xs.length xs.length false)) [some (.row (toAVs (cD l' v)) false 1), some (.row (toAVs (xs.map exD).flatten) false 7)])) :
    BSim Tryz.prog 23 [.ptr 0 0, .int .i64 t, .int .i64 lev] [cD l v] [cD l' v] (exA (.mk o [] Rt.zero xs)) := by
  refine BSim.run hm hX0 hS.mem ok23 (by kernel_rfl) rfl 60 [0, b] (fun I => G (I (mkA o [] Rt.zero (.slice b 0 xs.length xs.length false)) [some (.row (toAVs (cD l' v)) false 1), some (.row (toAVs (xs.map exD).flatten) false 7)])) hrun ?_
  refine hG _ (pdec_iff.2 (Leaf.box fun M' hM' => ?_))
  simp only [mv, List.map_cons, List.map_nil, List.cons.injEq] at hM'
  exact fz_ex o [] Rt.zero xs hb hM'.1 (Nat.le_refl _)
theorem node0 {S : List (FuncId × SEnt)} (hS : AllOk S) {t lev : Int} {l l' : List UInt8} {v : Nat} (o : Int) (n : List UInt8) (r : Rt) (G : Bool → Bool) (hG : ∀ c, c = true → G c = true)
    (hrun : ∀ I, run23 S t lev l v [0] I = G (I (mkA o n r .nilSlice) [some (.row (toAVs (cD l' v)) false 1)])) :
    BSim Tryz.prog 23 [.ptr 0 0, .int .i64 t, .int .i64 lev] [cD l v] [cD l' v] (exA (.mk o n r [])) := by
  refine BSim.run hm hX0 hS.mem ok23 (by kernel_rfl) rfl 60 [0] (fun I => G (I (mkA o n r .nilSlice) [some (.row (toAVs (cD l' v)) false 1)])) hrun ?_
  exact hG _ (pdec_iff.2 (Leaf.box fun M' hM' => mkA0 ..))
/-- one that is handed on -/
theorem nodeH {S : List (FuncId × SEnt)} (hS : AllOk S) {t lev : Int} {l l' : List UInt8} {v : Nat} (x : Ex) (G : Bool → Bool) (hG : ∀ c, c = true → G c = true)
    (hrun : ∀ I, run23 S t lev l v [0] I = G (I (exA x) [some (.row (toAVs (cD l' v)) false 1)])) :
    BSim Tryz.prog 23 [.ptr 0 0, .int .i64 t, .int .i64 lev] [cD l v] [cD l' v] (exA x) := by
  refine BSim.run hm hX0 hS.mem ok23 (by kernel_rfl) rfl 60 [0] (fun I => G (I (exA x) [some (.row (toAVs (cD l' v)) false 1)])) hrun ?_
  exact hG _ (pdec_iff.2 (Leaf.box fun M' hM' => .aggs _))
/-- the levels below -/
def nOf (m : Nat) : Int := Int.sub (.ofNat (m + 2)) (.ofNat 1)
theorem nOf_eq (m : Nat) : nOf m = .ofNat (m + 1) := by unfold nOf; show ((m + 2 : Nat) : Int) - ((1 : Nat) : Int) = ((m + 1 : Nat) : Int); omega
theorem nOf_in {m : Nat} (h : m < 100) : inI64 (nOf m) = true := by rw [nOf_eq]; exact smallI _ (by omega)
end Go.Proofs.YtnljmpeaeajcoaaGreatDoor

set_option linter.unusedSectionVars false
namespace Go.Proofs.YtnljmpeaeajcoaaGreatDoor
open Go Go.Eng Go.Vi
local instance : Go.Eng.Mode := Sy
section
variable {m v : Nat} (hm100 : m < 100) (hv : v < 3) {T : Nat → Gen} (IT : ∀ s ∈ [1, 2, 3, 4, 5, 6, 7, 8], GSim 23 [.ptr 0 0, .int .i64 (.ofNat s), .int .i64 (nOf m)] v (T s))
  (IP : GSim 43 [.ptr 0 0, .int .i64 (nOf m)] v (plc T)) (IA : GSim 44 [.ptr 0 0, .int .i64 (nOf m)] v (amt T))
include hm100 hv IT IP IA in
theorem ty_1_0 {l l0 : List UInt8} (h0 : nx 10 l = (0, l0)) : BSim Tryz.prog 23 [.ptr 0 0, .int .i64 (.ofNat 1), .int .i64 (.ofNat (m + 2))] [cD l v] [cD ((leafOf v T 1 0 l0).2) v] (exA ((leafOf v T 1 0 l0).1)) := by
  show BSim Tryz.prog 23 [.ptr 0 0, .int .i64 (.ofNat 1), .int .i64 (.ofNat (m + 2))] [cD l v] [cD (((T 5) (l0)).2) v] (exA (.mk 26 [] Rt.zero [((T 5) (l0)).1]))
  refine node (S := [eNext 0 10 l l0 v 0, eG 23 [.ptr 0 0, .int .i64 (.ofNat 5), .int .i64 (nOf m)] v (T 5) (l0)]) ⟨eNext_ok h0, eG_ok (IT 5 (by decide)) rfl _, trivial⟩ 26 [((T 5) (l0)).1] 2 (by omega) (fun c => gB (inI64 (nOf m)) (gC (eNext 0 10 l l0 v 0) (gC (eG 23 [.ptr 0 0, .int .i64 (.ofNat 5), .int .i64 (nOf m)] v (T 5) (l0)) (c)))) ?_ (fun I => by kernel_rfl)
  · intro c hc; simp only [gC_iff, gB_iff]; exact ⟨nOf_in hm100, hc⟩
include hm100 hv IT IP IA in
theorem ty_1_1 {l l0 : List UInt8} (h0 : nx 10 l = (1, l0)) : BSim Tryz.prog 23 [.ptr 0 0, .int .i64 (.ofNat 1), .int .i64 (.ofNat (m + 2))] [cD l v] [cD ((leafOf v T 1 1 l0).2) v] (exA ((leafOf v T 1 1 l0).1)) := by
  show BSim Tryz.prog 23 [.ptr 0 0, .int .i64 (.ofNat 1), .int .i64 (.ofNat (m + 2))] [cD l v] [cD (((T 1) (((T 1) (l0)).2)).2) v] (exA (.mk 23 [] Rt.zero [((T 1) (l0)).1, ((T 1) (((T 1) (l0)).2)).1]))
  refine node (S := [eNext 0 10 l l0 v 1, eG 23 [.ptr 0 0, .int .i64 (.ofNat 1), .int .i64 (nOf m)] v (T 1) (l0), eG 23 [.ptr 0 0, .int .i64 (.ofNat 1), .int .i64 (nOf m)] v (T 1) (((T 1) (l0)).2)]) ⟨eNext_ok h0, eG_ok (IT 1 (by decide)) rfl _, eG_ok (IT 1 (by decide)) rfl _, trivial⟩ 23 [((T 1) (l0)).1, ((T 1) (((T 1) (l0)).2)).1] 2 (by omega) (fun c => gB (inI64 (nOf m)) (gC (eNext 0 10 l l0 v 1) (gC (eG 23 [.ptr 0 0, .int .i64 (.ofNat 1), .int .i64 (nOf m)] v (T 1) (l0)) (gC (eG 23 [.ptr 0 0, .int .i64 (.ofNat 1), .int .i64 (nOf m)] v (T 1) (((T 1) (l0)).2)) (c))))) ?_ (fun I => by kernel_rfl)
  · intro c hc; simp only [gC_iff, gB_iff]; exact ⟨nOf_in hm100, hc⟩
include hm100 hv IT IP IA in
theorem ty_1_2 {l l0 : List UInt8} (h0 : nx 10 l = (2, l0)) : BSim Tryz.prog 23 [.ptr 0 0, .int .i64 (.ofNat 1), .int .i64 (.ofNat (m + 2))] [cD l v] [cD ((leafOf v T 1 2 l0).2) v] (exA ((leafOf v T 1 2 l0).1)) := by
  show BSim Tryz.prog 23 [.ptr 0 0, .int .i64 (.ofNat 1), .int .i64 (.ofNat (m + 2))] [cD l v] [cD (((T 1) (((T 1) (l0)).2)).2) v] (exA (.mk 24 [] Rt.zero [((T 1) (l0)).1, ((T 1) (((T 1) (l0)).2)).1]))
  refine node (S := [eNext 0 10 l l0 v 2, eG 23 [.ptr 0 0, .int .i64 (.ofNat 1), .int .i64 (nOf m)] v (T 1) (l0), eG 23 [.ptr 0 0, .int .i64 (.ofNat 1), .int .i64 (nOf m)] v (T 1) (((T 1) (l0)).2)]) ⟨eNext_ok h0, eG_ok (IT 1 (by decide)) rfl _, eG_ok (IT 1 (by decide)) rfl _, trivial⟩ 24 [((T 1) (l0)).1, ((T 1) (((T 1) (l0)).2)).1] 2 (by omega) (fun c => gB (inI64 (nOf m)) (gC (eNext 0 10 l l0 v 2) (gC (eG 23 [.ptr 0 0, .int .i64 (.ofNat 1), .int .i64 (nOf m)] v (T 1) (l0)) (gC (eG 23 [.ptr 0 0, .int .i64 (.ofNat 1), .int .i64 (nOf m)] v (T 1) (((T 1) (l0)).2)) (c))))) ?_ (fun I => by kernel_rfl)
  · intro c hc; simp only [gC_iff, gB_iff]; exact ⟨nOf_in hm100, hc⟩
include hm100 hv IT IP IA in
theorem ty_1_3 {l l0 : List UInt8} (h0 : nx 10 l = (3, l0)) : BSim Tryz.prog 23 [.ptr 0 0, .int .i64 (.ofNat 1), .int .i64 (.ofNat (m + 2))] [cD l v] [cD ((leafOf v T 1 3 l0).2) v] (exA ((leafOf v T 1 3 l0).1)) := by
  show BSim Tryz.prog 23 [.ptr 0 0, .int .i64 (.ofNat 1), .int .i64 (.ofNat (m + 2))] [cD l v] [cD (((T 1) (l0)).2) v] (exA (.mk 25 [] Rt.zero [((T 1) (l0)).1]))
  refine node (S := [eNext 0 10 l l0 v 3, eG 23 [.ptr 0 0, .int .i64 (.ofNat 1), .int .i64 (nOf m)] v (T 1) (l0)]) ⟨eNext_ok h0, eG_ok (IT 1 (by decide)) rfl _, trivial⟩ 25 [((T 1) (l0)).1] 2 (by omega) (fun c => gB (inI64 (nOf m)) (gC (eNext 0 10 l l0 v 3) (gC (eG 23 [.ptr 0 0, .int .i64 (.ofNat 1), .int .i64 (nOf m)] v (T 1) (l0)) (c)))) ?_ (fun I => by kernel_rfl)
  · intro c hc; simp only [gC_iff, gB_iff]; exact ⟨nOf_in hm100, hc⟩
include hm100 hv IT IP IA in
theorem ty_1_4 {l l0 : List UInt8} (h0 : nx 10 l = (4, l0)) : BSim Tryz.prog 23 [.ptr 0 0, .int .i64 (.ofNat 1), .int .i64 (.ofNat (m + 2))] [cD l v] [cD ((leafOf v T 1 4 l0).2) v] (exA ((leafOf v T 1 4 l0).1)) := by
  show BSim Tryz.prog 23 [.ptr 0 0, .int .i64 (.ofNat 1), .int .i64 (.ofNat (m + 2))] [cD l v] [cD ((nu (((T 5) (l0)).2)).2) v] (exA (.mk 28 [] Rt.zero [((T 5) (l0)).1, (nu (((T 5) (l0)).2)).1]))
  refine node (S := [eNext 0 10 l l0 v 4, eG 23 [.ptr 0 0, .int .i64 (.ofNat 5), .int .i64 (nOf m)] v (T 5) (l0), eG 41 [.ptr 0 0] v nu (((T 5) (l0)).2)]) ⟨eNext_ok h0, eG_ok (IT 5 (by decide)) rfl _, eG_ok (number_g v) rfl _, trivial⟩ 28 [((T 5) (l0)).1, (nu (((T 5) (l0)).2)).1] 2 (by omega) (fun c => gB (inI64 (nOf m)) (gC (eNext 0 10 l l0 v 4) (gC (eG 23 [.ptr 0 0, .int .i64 (.ofNat 5), .int .i64 (nOf m)] v (T 5) (l0)) (gC (eG 41 [.ptr 0 0] v nu (((T 5) (l0)).2)) (c))))) ?_ (fun I => by kernel_rfl)
  · intro c hc; simp only [gC_iff, gB_iff]; exact ⟨nOf_in hm100, hc⟩
include hm100 hv IT IP IA in
theorem ty_1_5 {l l0 : List UInt8} (h0 : nx 10 l = (5, l0)) : BSim Tryz.prog 23 [.ptr 0 0, .int .i64 (.ofNat 1), .int .i64 (.ofNat (m + 2))] [cD l v] [cD ((leafOf v T 1 5 l0).2) v] (exA ((leafOf v T 1 5 l0).1)) := by
  show BSim Tryz.prog 23 [.ptr 0 0, .int .i64 (.ofNat 1), .int .i64 (.ofNat (m + 2))] [cD l v] [cD ((nu (((T 6) (l0)).2)).2) v] (exA (.mk 30 [] Rt.zero [((T 6) (l0)).1, (nu (((T 6) (l0)).2)).1]))
  refine node (S := [eNext 0 10 l l0 v 5, eG 23 [.ptr 0 0, .int .i64 (.ofNat 6), .int .i64 (nOf m)] v (T 6) (l0), eG 41 [.ptr 0 0] v nu (((T 6) (l0)).2)]) ⟨eNext_ok h0, eG_ok (IT 6 (by decide)) rfl _, eG_ok (number_g v) rfl _, trivial⟩ 30 [((T 6) (l0)).1, (nu (((T 6) (l0)).2)).1] 2 (by omega) (fun c => gB (inI64 (nOf m)) (gC (eNext 0 10 l l0 v 5) (gC (eG 23 [.ptr 0 0, .int .i64 (.ofNat 6), .int .i64 (nOf m)] v (T 6) (l0)) (gC (eG 41 [.ptr 0 0] v nu (((T 6) (l0)).2)) (c))))) ?_ (fun I => by kernel_rfl)
  · intro c hc; simp only [gC_iff, gB_iff]; exact ⟨nOf_in hm100, hc⟩
include hm100 hv IT IP IA in
theorem ty_1_6 {l l0 : List UInt8} (h0 : nx 10 l = (6, l0)) : BSim Tryz.prog 23 [.ptr 0 0, .int .i64 (.ofNat 1), .int .i64 (.ofNat (m + 2))] [cD l v] [cD ((leafOf v T 1 6 l0).2) v] (exA ((leafOf v T 1 6 l0).1)) := by
  show BSim Tryz.prog 23 [.ptr 0 0, .int .i64 (.ofNat 1), .int .i64 (.ofNat (m + 2))] [cD l v] [cD (((T 5) (l0)).2) v] (exA (.mk 27 [] Rt.zero [((T 5) (l0)).1]))
  refine node (S := [eNext 0 10 l l0 v 6, eG 23 [.ptr 0 0, .int .i64 (.ofNat 5), .int .i64 (nOf m)] v (T 5) (l0)]) ⟨eNext_ok h0, eG_ok (IT 5 (by decide)) rfl _, trivial⟩ 27 [((T 5) (l0)).1] 2 (by omega) (fun c => gB (inI64 (nOf m)) (gC (eNext 0 10 l l0 v 6) (gC (eG 23 [.ptr 0 0, .int .i64 (.ofNat 5), .int .i64 (nOf m)] v (T 5) (l0)) (c)))) ?_ (fun I => by kernel_rfl)
  · intro c hc; simp only [gC_iff, gB_iff]; exact ⟨nOf_in hm100, hc⟩
include hm100 hv IT IP IA in
theorem ty_1_7 {l l0 : List UInt8} (h0 : nx 10 l = (7, l0)) : BSim Tryz.prog 23 [.ptr 0 0, .int .i64 (.ofNat 1), .int .i64 (.ofNat (m + 2))] [cD l v] [cD ((leafOf v T 1 7 l0).2) v] (exA ((leafOf v T 1 7 l0).1)) := by
  show BSim Tryz.prog 23 [.ptr 0 0, .int .i64 (.ofNat 1), .int .i64 (.ofNat (m + 2))] [cD l v] [cD (((T 5) (l0)).2) v] (exA (.mk 26 [] Rt.zero [((T 5) (l0)).1]))
  refine node (S := [eNext 0 10 l l0 v 7, eG 23 [.ptr 0 0, .int .i64 (.ofNat 5), .int .i64 (nOf m)] v (T 5) (l0)]) ⟨eNext_ok h0, eG_ok (IT 5 (by decide)) rfl _, trivial⟩ 26 [((T 5) (l0)).1] 2 (by omega) (fun c => gB (inI64 (nOf m)) (gC (eNext 0 10 l l0 v 7) (gC (eG 23 [.ptr 0 0, .int .i64 (.ofNat 5), .int .i64 (nOf m)] v (T 5) (l0)) (c)))) ?_ (fun I => by kernel_rfl)
  · intro c hc; simp only [gC_iff, gB_iff]; exact ⟨nOf_in hm100, hc⟩
include hm100 hv IT IP IA in
theorem ty_1_8 {l l0 : List UInt8} (h0 : nx 10 l = (8, l0)) : BSim Tryz.prog 23 [.ptr 0 0, .int .i64 (.ofNat 1), .int .i64 (.ofNat (m + 2))] [cD l v] [cD ((leafOf v T 1 8 l0).2) v] (exA ((leafOf v T 1 8 l0).1)) := by
  show BSim Tryz.prog 23 [.ptr 0 0, .int .i64 (.ofNat 1), .int .i64 (.ofNat (m + 2))] [cD l v] [cD (((T 5) (l0)).2) v] (exA (.mk 26 [] Rt.zero [((T 5) (l0)).1]))
  refine node (S := [eNext 0 10 l l0 v 8, eG 23 [.ptr 0 0, .int .i64 (.ofNat 5), .int .i64 (nOf m)] v (T 5) (l0)]) ⟨eNext_ok h0, eG_ok (IT 5 (by decide)) rfl _, trivial⟩ 26 [((T 5) (l0)).1] 2 (by omega) (fun c => gB (inI64 (nOf m)) (gC (eNext 0 10 l l0 v 8) (gC (eG 23 [.ptr 0 0, .int .i64 (.ofNat 5), .int .i64 (nOf m)] v (T 5) (l0)) (c)))) ?_ (fun I => by kernel_rfl)
  · intro c hc; simp only [gC_iff, gB_iff]; exact ⟨nOf_in hm100, hc⟩
include hm100 hv IT IP IA in
theorem ty_1_9 {l l0 : List UInt8} (h0 : nx 10 l = (9, l0)) : BSim Tryz.prog 23 [.ptr 0 0, .int .i64 (.ofNat 1), .int .i64 (.ofNat (m + 2))] [cD l v] [cD ((leafOf v T 1 9 l0).2) v] (exA ((leafOf v T 1 9 l0).1)) := by
  show BSim Tryz.prog 23 [.ptr 0 0, .int .i64 (.ofNat 1), .int .i64 (.ofNat (m + 2))] [cD l v] [cD (((T 5) (l0)).2) v] (exA (.mk 26 [] Rt.zero [((T 5) (l0)).1]))
  refine node (S := [eNext 0 10 l l0 v 9, eG 23 [.ptr 0 0, .int .i64 (.ofNat 5), .int .i64 (nOf m)] v (T 5) (l0)]) ⟨eNext_ok h0, eG_ok (IT 5 (by decide)) rfl _, trivial⟩ 26 [((T 5) (l0)).1] 2 (by omega) (fun c => gB (inI64 (nOf m)) (gC (eNext 0 10 l l0 v 9) (gC (eG 23 [.ptr 0 0, .int .i64 (.ofNat 5), .int .i64 (nOf m)] v (T 5) (l0)) (c)))) ?_ (fun I => by kernel_rfl)
  · intro c hc; simp only [gC_iff, gB_iff]; exact ⟨nOf_in hm100, hc⟩
include hm100 hv IT IP IA in
theorem ty_4_0 {l l0 : List UInt8} (h0 : nx 10 l = (0, l0)) : BSim Tryz.prog 23 [.ptr 0 0, .int .i64 (.ofNat 4), .int .i64 (.ofNat (m + 2))] [cD l v] [cD ((leafOf v T 4 0 l0).2) v] (exA ((leafOf v T 4 0 l0).1)) := by
  show BSim Tryz.prog 23 [.ptr 0 0, .int .i64 (.ofNat 4), .int .i64 (.ofNat (m + 2))] [cD l v] [cD ((nu ((nu (l0)).2)).2) v] (exA (.mk 6 [] Rt.zero [(nu (l0)).1, (nu ((nu (l0)).2)).1]))
  refine node (S := [eNext 0 10 l l0 v 0, eG 41 [.ptr 0 0] v nu (l0), eG 41 [.ptr 0 0] v nu ((nu (l0)).2)]) ⟨eNext_ok h0, eG_ok (number_g v) rfl _, eG_ok (number_g v) rfl _, trivial⟩ 6 [(nu (l0)).1, (nu ((nu (l0)).2)).1] 2 (by omega) (fun c => gB (inI64 (nOf m)) (gC (eNext 0 10 l l0 v 0) (gC (eG 41 [.ptr 0 0] v nu (l0)) (gC (eG 41 [.ptr 0 0] v nu ((nu (l0)).2)) (c))))) ?_ (fun I => by kernel_rfl)
  · intro c hc; simp only [gC_iff, gB_iff]; exact ⟨nOf_in hm100, hc⟩
include hm100 hv IT IP IA in
theorem ty_4_1 {l l0 : List UInt8} (h0 : nx 10 l = (1, l0)) : BSim Tryz.prog 23 [.ptr 0 0, .int .i64 (.ofNat 4), .int .i64 (.ofNat (m + 2))] [cD l v] [cD ((leafOf v T 4 1 l0).2) v] (exA ((leafOf v T 4 1 l0).1)) := by
  show BSim Tryz.prog 23 [.ptr 0 0, .int .i64 (.ofNat 4), .int .i64 (.ofNat (m + 2))] [cD l v] [cD (((T 4) (((T 4) (l0)).2)).2) v] (exA (.mk 7 [] Rt.zero [((T 4) (l0)).1, ((T 4) (((T 4) (l0)).2)).1]))
  refine node (S := [eNext 0 10 l l0 v 1, eG 23 [.ptr 0 0, .int .i64 (.ofNat 4), .int .i64 (nOf m)] v (T 4) (l0), eG 23 [.ptr 0 0, .int .i64 (.ofNat 4), .int .i64 (nOf m)] v (T 4) (((T 4) (l0)).2)]) ⟨eNext_ok h0, eG_ok (IT 4 (by decide)) rfl _, eG_ok (IT 4 (by decide)) rfl _, trivial⟩ 7 [((T 4) (l0)).1, ((T 4) (((T 4) (l0)).2)).1] 2 (by omega) (fun c => gB (inI64 (nOf m)) (gC (eNext 0 10 l l0 v 1) (gC (eG 23 [.ptr 0 0, .int .i64 (.ofNat 4), .int .i64 (nOf m)] v (T 4) (l0)) (gC (eG 23 [.ptr 0 0, .int .i64 (.ofNat 4), .int .i64 (nOf m)] v (T 4) (((T 4) (l0)).2)) (c))))) ?_ (fun I => by kernel_rfl)
  · intro c hc; simp only [gC_iff, gB_iff]; exact ⟨nOf_in hm100, hc⟩
include hm100 hv IT IP IA in
theorem ty_4_2 {l l0 : List UInt8} (h0 : nx 10 l = (2, l0)) : BSim Tryz.prog 23 [.ptr 0 0, .int .i64 (.ofNat 4), .int .i64 (.ofNat (m + 2))] [cD l v] [cD ((leafOf v T 4 2 l0).2) v] (exA ((leafOf v T 4 2 l0).1)) := by
  show BSim Tryz.prog 23 [.ptr 0 0, .int .i64 (.ofNat 4), .int .i64 (.ofNat (m + 2))] [cD l v] [cD (((T 4) (((T 4) (l0)).2)).2) v] (exA (.mk 8 [] Rt.zero [((T 4) (l0)).1, ((T 4) (((T 4) (l0)).2)).1]))
  refine node (S := [eNext 0 10 l l0 v 2, eG 23 [.ptr 0 0, .int .i64 (.ofNat 4), .int .i64 (nOf m)] v (T 4) (l0), eG 23 [.ptr 0 0, .int .i64 (.ofNat 4), .int .i64 (nOf m)] v (T 4) (((T 4) (l0)).2)]) ⟨eNext_ok h0, eG_ok (IT 4 (by decide)) rfl _, eG_ok (IT 4 (by decide)) rfl _, trivial⟩ 8 [((T 4) (l0)).1, ((T 4) (((T 4) (l0)).2)).1] 2 (by omega) (fun c => gB (inI64 (nOf m)) (gC (eNext 0 10 l l0 v 2) (gC (eG 23 [.ptr 0 0, .int .i64 (.ofNat 4), .int .i64 (nOf m)] v (T 4) (l0)) (gC (eG 23 [.ptr 0 0, .int .i64 (.ofNat 4), .int .i64 (nOf m)] v (T 4) (((T 4) (l0)).2)) (c))))) ?_ (fun I => by kernel_rfl)
  · intro c hc; simp only [gC_iff, gB_iff]; exact ⟨nOf_in hm100, hc⟩
include hm100 hv IT IP IA in
theorem ty_4_3 {l l0 : List UInt8} (h0 : nx 10 l = (3, l0)) : BSim Tryz.prog 23 [.ptr 0 0, .int .i64 (.ofNat 4), .int .i64 (.ofNat (m + 2))] [cD l v] [cD ((leafOf v T 4 3 l0).2) v] (exA ((leafOf v T 4 3 l0).1)) := by
  show BSim Tryz.prog 23 [.ptr 0 0, .int .i64 (.ofNat 4), .int .i64 (.ofNat (m + 2))] [cD l v] [cD (((T 4) (((T 4) (l0)).2)).2) v] (exA (.mk 9 [] Rt.zero [((T 4) (l0)).1, ((T 4) (((T 4) (l0)).2)).1]))
  refine node (S := [eNext 0 10 l l0 v 3, eG 23 [.ptr 0 0, .int .i64 (.ofNat 4), .int .i64 (nOf m)] v (T 4) (l0), eG 23 [.ptr 0 0, .int .i64 (.ofNat 4), .int .i64 (nOf m)] v (T 4) (((T 4) (l0)).2)]) ⟨eNext_ok h0, eG_ok (IT 4 (by decide)) rfl _, eG_ok (IT 4 (by decide)) rfl _, trivial⟩ 9 [((T 4) (l0)).1, ((T 4) (((T 4) (l0)).2)).1] 2 (by omega) (fun c => gB (inI64 (nOf m)) (gC (eNext 0 10 l l0 v 3) (gC (eG 23 [.ptr 0 0, .int .i64 (.ofNat 4), .int .i64 (nOf m)] v (T 4) (l0)) (gC (eG 23 [.ptr 0 0, .int .i64 (.ofNat 4), .int .i64 (nOf m)] v (T 4) (((T 4) (l0)).2)) (c))))) ?_ (fun I => by kernel_rfl)
  · intro c hc; simp only [gC_iff, gB_iff]; exact ⟨nOf_in hm100, hc⟩
include hm100 hv IT IP IA in
theorem ty_4_4 {l l0 : List UInt8} (h0 : nx 10 l = (4, l0)) : BSim Tryz.prog 23 [.ptr 0 0, .int .i64 (.ofNat 4), .int .i64 (.ofNat (m + 2))] [cD l v] [cD ((leafOf v T 4 4 l0).2) v] (exA ((leafOf v T 4 4 l0).1)) := by
  show BSim Tryz.prog 23 [.ptr 0 0, .int .i64 (.ofNat 4), .int .i64 (.ofNat (m + 2))] [cD l v] [cD (((T 5) (l0)).2) v] (exA (.mk 10 [] Rt.zero [((T 5) (l0)).1]))
  refine node (S := [eNext 0 10 l l0 v 4, eG 23 [.ptr 0 0, .int .i64 (.ofNat 5), .int .i64 (nOf m)] v (T 5) (l0)]) ⟨eNext_ok h0, eG_ok (IT 5 (by decide)) rfl _, trivial⟩ 10 [((T 5) (l0)).1] 2 (by omega) (fun c => gB (inI64 (nOf m)) (gC (eNext 0 10 l l0 v 4) (gC (eG 23 [.ptr 0 0, .int .i64 (.ofNat 5), .int .i64 (nOf m)] v (T 5) (l0)) (c)))) ?_ (fun I => by kernel_rfl)
  · intro c hc; simp only [gC_iff, gB_iff]; exact ⟨nOf_in hm100, hc⟩
include hm100 hv IT IP IA in
theorem ty_4_5 {l l0 : List UInt8} (h0 : nx 10 l = (5, l0)) : BSim Tryz.prog 23 [.ptr 0 0, .int .i64 (.ofNat 4), .int .i64 (.ofNat (m + 2))] [cD l v] [cD ((leafOf v T 4 5 l0).2) v] (exA ((leafOf v T 4 5 l0).1)) := by
  show BSim Tryz.prog 23 [.ptr 0 0, .int .i64 (.ofNat 4), .int .i64 (.ofNat (m + 2))] [cD l v] [cD (((T 5) (l0)).2) v] (exA (.mk 10 [] Rt.zero [((T 5) (l0)).1]))
  refine node (S := [eNext 0 10 l l0 v 5, eG 23 [.ptr 0 0, .int .i64 (.ofNat 5), .int .i64 (nOf m)] v (T 5) (l0)]) ⟨eNext_ok h0, eG_ok (IT 5 (by decide)) rfl _, trivial⟩ 10 [((T 5) (l0)).1] 2 (by omega) (fun c => gB (inI64 (nOf m)) (gC (eNext 0 10 l l0 v 5) (gC (eG 23 [.ptr 0 0, .int .i64 (.ofNat 5), .int .i64 (nOf m)] v (T 5) (l0)) (c)))) ?_ (fun I => by kernel_rfl)
  · intro c hc; simp only [gC_iff, gB_iff]; exact ⟨nOf_in hm100, hc⟩
include hm100 hv IT IP IA in
theorem ty_4_6 {l l0 : List UInt8} (h0 : nx 10 l = (6, l0)) : BSim Tryz.prog 23 [.ptr 0 0, .int .i64 (.ofNat 4), .int .i64 (.ofNat (m + 2))] [cD l v] [cD ((leafOf v T 4 6 l0).2) v] (exA ((leafOf v T 4 6 l0).1)) := by
  show BSim Tryz.prog 23 [.ptr 0 0, .int .i64 (.ofNat 4), .int .i64 (.ofNat (m + 2))] [cD l v] [cD ((dfn T l0).2) v] (exA ((dfn T l0).1))
  obtain ⟨j, l1, hj⟩ : ∃ j l1, nx 4 l0 = (j, l1) := ⟨_, _, rfl⟩
  have hj4 : j < 4 := by have := nx_lt (m := 4) l0 (by omega); rw [hj] at this; exact this
  have e1 : (dfn T l0).2 = (T (5 + j) l1).2 := by unfold dfn; rw [hj]; rfl
  have e2 : (dfn T l0).1 = .mk 11 [] Rt.zero [(T (5 + j) l1).1] := by unfold dfn; rw [hj]; rfl
  rw [e1, e2]
  have hj' : j = 0 ∨ j = 1 ∨ j = 2 ∨ j = 3 := by omega
  rcases hj' with rfl | rfl | rfl | rfl
  · refine node (S := [eNext 0 10 l l0 v 6, eNext 0 4 l0 l1 v 0, eG 23 [.ptr 0 0, .int .i64 (.ofNat 5), .int .i64 (nOf m)] v (T 5) (l1)]) ⟨eNext_ok h0, eNext_ok hj, eG_ok (IT 5 (by decide)) rfl _, trivial⟩ 11 [(T 5 l1).1] 2 (by omega) (fun c => gB (inI64 (nOf m)) (gC (eNext 0 10 l l0 v 6) (gC (eNext 0 4 l0 l1 v 0) (gC (eG 23 [.ptr 0 0, .int .i64 (.ofNat 5), .int .i64 (nOf m)] v (T 5) (l1)) c)))) ?_ (fun I => by kernel_rfl)
    intro c hc; simp only [gC_iff, gB_iff]; exact ⟨nOf_in hm100, hc⟩
  · refine node (S := [eNext 0 10 l l0 v 6, eNext 0 4 l0 l1 v 1, eG 23 [.ptr 0 0, .int .i64 (.ofNat 6), .int .i64 (nOf m)] v (T 6) (l1)]) ⟨eNext_ok h0, eNext_ok hj, eG_ok (IT 6 (by decide)) rfl _, trivial⟩ 11 [(T 6 l1).1] 2 (by omega) (fun c => gB (inI64 (nOf m)) (gC (eNext 0 10 l l0 v 6) (gC (eNext 0 4 l0 l1 v 1) (gC (eG 23 [.ptr 0 0, .int .i64 (.ofNat 6), .int .i64 (nOf m)] v (T 6) (l1)) c)))) ?_ (fun I => by kernel_rfl)
    intro c hc; simp only [gC_iff, gB_iff]; exact ⟨nOf_in hm100, hc⟩
  · refine node (S := [eNext 0 10 l l0 v 6, eNext 0 4 l0 l1 v 2, eG 23 [.ptr 0 0, .int .i64 (.ofNat 7), .int .i64 (nOf m)] v (T 7) (l1)]) ⟨eNext_ok h0, eNext_ok hj, eG_ok (IT 7 (by decide)) rfl _, trivial⟩ 11 [(T 7 l1).1] 2 (by omega) (fun c => gB (inI64 (nOf m)) (gC (eNext 0 10 l l0 v 6) (gC (eNext 0 4 l0 l1 v 2) (gC (eG 23 [.ptr 0 0, .int .i64 (.ofNat 7), .int .i64 (nOf m)] v (T 7) (l1)) c)))) ?_ (fun I => by kernel_rfl)
    intro c hc; simp only [gC_iff, gB_iff]; exact ⟨nOf_in hm100, hc⟩
  · refine node (S := [eNext 0 10 l l0 v 6, eNext 0 4 l0 l1 v 3, eG 23 [.ptr 0 0, .int .i64 (.ofNat 8), .int .i64 (nOf m)] v (T 8) (l1)]) ⟨eNext_ok h0, eNext_ok hj, eG_ok (IT 8 (by decide)) rfl _, trivial⟩ 11 [(T 8 l1).1] 2 (by omega) (fun c => gB (inI64 (nOf m)) (gC (eNext 0 10 l l0 v 6) (gC (eNext 0 4 l0 l1 v 3) (gC (eG 23 [.ptr 0 0, .int .i64 (.ofNat 8), .int .i64 (nOf m)] v (T 8) (l1)) c)))) ?_ (fun I => by kernel_rfl)
    intro c hc; simp only [gC_iff, gB_iff]; exact ⟨nOf_in hm100, hc⟩
include hm100 hv IT IP IA in
theorem ty_4_7 {l l0 : List UInt8} (h0 : nx 10 l = (7, l0)) : BSim Tryz.prog 23 [.ptr 0 0, .int .i64 (.ofNat 4), .int .i64 (.ofNat (m + 2))] [cD l v] [cD ((leafOf v T 4 7 l0).2) v] (exA ((leafOf v T 4 7 l0).1)) := by
  show BSim Tryz.prog 23 [.ptr 0 0, .int .i64 (.ofNat 4), .int .i64 (.ofNat (m + 2))] [cD l v] [cD ((dfn T l0).2) v] (exA ((dfn T l0).1))
  obtain ⟨j, l1, hj⟩ : ∃ j l1, nx 4 l0 = (j, l1) := ⟨_, _, rfl⟩
  have hj4 : j < 4 := by have := nx_lt (m := 4) l0 (by omega); rw [hj] at this; exact this
  have e1 : (dfn T l0).2 = (T (5 + j) l1).2 := by unfold dfn; rw [hj]; rfl
  have e2 : (dfn T l0).1 = .mk 11 [] Rt.zero [(T (5 + j) l1).1] := by unfold dfn; rw [hj]; rfl
  rw [e1, e2]
  have hj' : j = 0 ∨ j = 1 ∨ j = 2 ∨ j = 3 := by omega
  rcases hj' with rfl | rfl | rfl | rfl
  · refine node (S := [eNext 0 10 l l0 v 7, eNext 0 4 l0 l1 v 0, eG 23 [.ptr 0 0, .int .i64 (.ofNat 5), .int .i64 (nOf m)] v (T 5) (l1)]) ⟨eNext_ok h0, eNext_ok hj, eG_ok (IT 5 (by decide)) rfl _, trivial⟩ 11 [(T 5 l1).1] 2 (by omega) (fun c => gB (inI64 (nOf m)) (gC (eNext 0 10 l l0 v 7) (gC (eNext 0 4 l0 l1 v 0) (gC (eG 23 [.ptr 0 0, .int .i64 (.ofNat 5), .int .i64 (nOf m)] v (T 5) (l1)) c)))) ?_ (fun I => by kernel_rfl)
    intro c hc; simp only [gC_iff, gB_iff]; exact ⟨nOf_in hm100, hc⟩
  · refine node (S := [eNext 0 10 l l0 v 7, eNext 0 4 l0 l1 v 1, eG 23 [.ptr 0 0, .int .i64 (.ofNat 6), .int .i64 (nOf m)] v (T 6) (l1)]) ⟨eNext_ok h0, eNext_ok hj, eG_ok (IT 6 (by decide)) rfl _, trivial⟩ 11 [(T 6 l1).1] 2 (by omega) (fun c => gB (inI64 (nOf m)) (gC (eNext 0 10 l l0 v 7) (gC (eNext 0 4 l0 l1 v 1) (gC (eG 23 [.ptr 0 0, .int .i64 (.ofNat 6), .int .i64 (nOf m)] v (T 6) (l1)) c)))) ?_ (fun I => by kernel_rfl)
    intro c hc; simp only [gC_iff, gB_iff]; exact ⟨nOf_in hm100, hc⟩
  · refine node (S := [eNext 0 10 l l0 v 7, eNext 0 4 l0 l1 v 2, eG 23 [.ptr 0 0, .int .i64 (.ofNat 7), .int .i64 (nOf m)] v (T 7) (l1)]) ⟨eNext_ok h0, eNext_ok hj, eG_ok (IT 7 (by decide)) rfl _, trivial⟩ 11 [(T 7 l1).1] 2 (by omega) (fun c => gB (inI64 (nOf m)) (gC (eNext 0 10 l l0 v 7) (gC (eNext 0 4 l0 l1 v 2) (gC (eG 23 [.ptr 0 0, .int .i64 (.ofNat 7), .int .i64 (nOf m)] v (T 7) (l1)) c)))) ?_ (fun I => by kernel_rfl)
    intro c hc; simp only [gC_iff, gB_iff]; exact ⟨nOf_in hm100, hc⟩
  · refine node (S := [eNext 0 10 l l0 v 7, eNext 0 4 l0 l1 v 3, eG 23 [.ptr 0 0, .int .i64 (.ofNat 8), .int .i64 (nOf m)] v (T 8) (l1)]) ⟨eNext_ok h0, eNext_ok hj, eG_ok (IT 8 (by decide)) rfl _, trivial⟩ 11 [(T 8 l1).1] 2 (by omega) (fun c => gB (inI64 (nOf m)) (gC (eNext 0 10 l l0 v 7) (gC (eNext 0 4 l0 l1 v 3) (gC (eG 23 [.ptr 0 0, .int .i64 (.ofNat 8), .int .i64 (nOf m)] v (T 8) (l1)) c)))) ?_ (fun I => by kernel_rfl)
    intro c hc; simp only [gC_iff, gB_iff]; exact ⟨nOf_in hm100, hc⟩
include hm100 hv IT IP IA in
theorem ty_4_8 {l l0 : List UInt8} (h0 : nx 10 l = (8, l0)) : BSim Tryz.prog 23 [.ptr 0 0, .int .i64 (.ofNat 4), .int .i64 (.ofNat (m + 2))] [cD l v] [cD ((leafOf v T 4 8 l0).2) v] (exA ((leafOf v T 4 8 l0).1)) := by
  show BSim Tryz.prog 23 [.ptr 0 0, .int .i64 (.ofNat 4), .int .i64 (.ofNat (m + 2))] [cD l v] [cD ((nu ((nu (l0)).2)).2) v] (exA (.mk 6 [] Rt.zero [(nu (l0)).1, (nu ((nu (l0)).2)).1]))
  refine node (S := [eNext 0 10 l l0 v 8, eG 41 [.ptr 0 0] v nu (l0), eG 41 [.ptr 0 0] v nu ((nu (l0)).2)]) ⟨eNext_ok h0, eG_ok (number_g v) rfl _, eG_ok (number_g v) rfl _, trivial⟩ 6 [(nu (l0)).1, (nu ((nu (l0)).2)).1] 2 (by omega) (fun c => gB (inI64 (nOf m)) (gC (eNext 0 10 l l0 v 8) (gC (eG 41 [.ptr 0 0] v nu (l0)) (gC (eG 41 [.ptr 0 0] v nu ((nu (l0)).2)) (c))))) ?_ (fun I => by kernel_rfl)
  · intro c hc; simp only [gC_iff, gB_iff]; exact ⟨nOf_in hm100, hc⟩
include hm100 hv IT IP IA in
theorem ty_4_9 {l l0 : List UInt8} (h0 : nx 10 l = (9, l0)) : BSim Tryz.prog 23 [.ptr 0 0, .int .i64 (.ofNat 4), .int .i64 (.ofNat (m + 2))] [cD l v] [cD ((leafOf v T 4 9 l0).2) v] (exA ((leafOf v T 4 9 l0).1)) := by
  show BSim Tryz.prog 23 [.ptr 0 0, .int .i64 (.ofNat 4), .int .i64 (.ofNat (m + 2))] [cD l v] [cD ((nu ((nu (l0)).2)).2) v] (exA (.mk 6 [] Rt.zero [(nu (l0)).1, (nu ((nu (l0)).2)).1]))
  refine node (S := [eNext 0 10 l l0 v 9, eG 41 [.ptr 0 0] v nu (l0), eG 41 [.ptr 0 0] v nu ((nu (l0)).2)]) ⟨eNext_ok h0, eG_ok (number_g v) rfl _, eG_ok (number_g v) rfl _, trivial⟩ 6 [(nu (l0)).1, (nu ((nu (l0)).2)).1] 2 (by omega) (fun c => gB (inI64 (nOf m)) (gC (eNext 0 10 l l0 v 9) (gC (eG 41 [.ptr 0 0] v nu (l0)) (gC (eG 41 [.ptr 0 0] v nu ((nu (l0)).2)) (c))))) ?_ (fun I => by kernel_rfl)
  · intro c hc; simp only [gC_iff, gB_iff]; exact ⟨nOf_in hm100, hc⟩
include hm100 hv IT IP IA in
theorem ty_5_0 {l l0 : List UInt8} (h0 : nx 10 l = (0, l0)) : BSim Tryz.prog 23 [.ptr 0 0, .int .i64 (.ofNat 5), .int .i64 (.ofNat (m + 2))] [cD l v] [cD ((leafOf v T 5 0 l0).2) v] (exA ((leafOf v T 5 0 l0).1)) := by
  show BSim Tryz.prog 23 [.ptr 0 0, .int .i64 (.ofNat 5), .int .i64 (.ofNat (m + 2))] [cD l v] [cD ((nu (((plc T) (((pt v) (l0)).2)).2)).2) v] (exA (.mk 15 [] Rt.zero [((pt v) (l0)).1, ((plc T) (((pt v) (l0)).2)).1, (nu (((plc T) (((pt v) (l0)).2)).2)).1]))
  refine node (S := [eNext 0 10 l l0 v 0, eG 42 [.ptr 0 0] v (pt v) (l0), eG 43 [.ptr 0 0, .int .i64 (nOf m)] v (plc T) (((pt v) (l0)).2), eG 41 [.ptr 0 0] v nu (((plc T) (((pt v) (l0)).2)).2)]) ⟨eNext_ok h0, eG_ok (point_g v hv) rfl _, eG_ok IP rfl _, eG_ok (number_g v) rfl _, trivial⟩ 15 [((pt v) (l0)).1, ((plc T) (((pt v) (l0)).2)).1, (nu (((plc T) (((pt v) (l0)).2)).2)).1] 2 (by omega) (fun c => gB (inI64 (nOf m)) (gC (eNext 0 10 l l0 v 0) (gC (eG 42 [.ptr 0 0] v (pt v) (l0)) (gC (eG 43 [.ptr 0 0, .int .i64 (nOf m)] v (plc T) (((pt v) (l0)).2)) (gC (eG 41 [.ptr 0 0] v nu (((plc T) (((pt v) (l0)).2)).2)) (c)))))) ?_ (fun I => by kernel_rfl)
  · intro c hc; simp only [gC_iff, gB_iff]; exact ⟨nOf_in hm100, hc⟩
include hm100 hv IT IP IA in
theorem ty_5_1 {l l0 : List UInt8} (h0 : nx 10 l = (1, l0)) : BSim Tryz.prog 23 [.ptr 0 0, .int .i64 (.ofNat 5), .int .i64 (.ofNat (m + 2))] [cD l v] [cD ((leafOf v T 5 1 l0).2) v] (exA ((leafOf v T 5 1 l0).1)) := by
  show BSim Tryz.prog 23 [.ptr 0 0, .int .i64 (.ofNat 5), .int .i64 (.ofNat (m + 2))] [cD l v] [cD (((T 8) (((T 7) (l0)).2)).2) v] (exA (.mk 16 [] Rt.zero [((T 7) (l0)).1, ((T 8) (((T 7) (l0)).2)).1]))
  refine node (S := [eNext 0 10 l l0 v 1, eG 23 [.ptr 0 0, .int .i64 (.ofNat 7), .int .i64 (nOf m)] v (T 7) (l0), eG 23 [.ptr 0 0, .int .i64 (.ofNat 8), .int .i64 (nOf m)] v (T 8) (((T 7) (l0)).2)]) ⟨eNext_ok h0, eG_ok (IT 7 (by decide)) rfl _, eG_ok (IT 8 (by decide)) rfl _, trivial⟩ 16 [((T 7) (l0)).1, ((T 8) (((T 7) (l0)).2)).1] 2 (by omega) (fun c => gB (inI64 (nOf m)) (gC (eNext 0 10 l l0 v 1) (gC (eG 23 [.ptr 0 0, .int .i64 (.ofNat 7), .int .i64 (nOf m)] v (T 7) (l0)) (gC (eG 23 [.ptr 0 0, .int .i64 (.ofNat 8), .int .i64 (nOf m)] v (T 8) (((T 7) (l0)).2)) (c))))) ?_ (fun I => by kernel_rfl)
  · intro c hc; simp only [gC_iff, gB_iff]; exact ⟨nOf_in hm100, hc⟩
include hm100 hv IT IP IA in
theorem ty_5_2 {l l0 : List UInt8} (h0 : nx 10 l = (2, l0)) : BSim Tryz.prog 23 [.ptr 0 0, .int .i64 (.ofNat 5), .int .i64 (.ofNat (m + 2))] [cD l v] [cD ((leafOf v T 5 2 l0).2) v] (exA ((leafOf v T 5 2 l0).1)) := by
  show BSim Tryz.prog 23 [.ptr 0 0, .int .i64 (.ofNat 5), .int .i64 (.ofNat (m + 2))] [cD l v] [cD (((T 8) (((T 7) (l0)).2)).2) v] (exA (.mk 16 [] Rt.zero [((T 7) (l0)).1, ((T 8) (((T 7) (l0)).2)).1]))
  refine node (S := [eNext 0 10 l l0 v 2, eG 23 [.ptr 0 0, .int .i64 (.ofNat 7), .int .i64 (nOf m)] v (T 7) (l0), eG 23 [.ptr 0 0, .int .i64 (.ofNat 8), .int .i64 (nOf m)] v (T 8) (((T 7) (l0)).2)]) ⟨eNext_ok h0, eG_ok (IT 7 (by decide)) rfl _, eG_ok (IT 8 (by decide)) rfl _, trivial⟩ 16 [((T 7) (l0)).1, ((T 8) (((T 7) (l0)).2)).1] 2 (by omega) (fun c => gB (inI64 (nOf m)) (gC (eNext 0 10 l l0 v 2) (gC (eG 23 [.ptr 0 0, .int .i64 (.ofNat 7), .int .i64 (nOf m)] v (T 7) (l0)) (gC (eG 23 [.ptr 0 0, .int .i64 (.ofNat 8), .int .i64 (nOf m)] v (T 8) (((T 7) (l0)).2)) (c))))) ?_ (fun I => by kernel_rfl)
  · intro c hc; simp only [gC_iff, gB_iff]; exact ⟨nOf_in hm100, hc⟩
include hm100 hv IT IP IA in
theorem ty_5_3 {l l0 : List UInt8} (h0 : nx 10 l = (3, l0)) : BSim Tryz.prog 23 [.ptr 0 0, .int .i64 (.ofNat 5), .int .i64 (.ofNat (m + 2))] [cD l v] [cD ((leafOf v T 5 3 l0).2) v] (exA ((leafOf v T 5 3 l0).1)) := by
  show BSim Tryz.prog 23 [.ptr 0 0, .int .i64 (.ofNat 5), .int .i64 (.ofNat (m + 2))] [cD l v] [cD (((amt T) (((T 6) (l0)).2)).2) v] (exA (.mk 21 [] Rt.zero [((T 6) (l0)).1, ((amt T) (((T 6) (l0)).2)).1]))
  refine node (S := [eNext 0 10 l l0 v 3, eG 23 [.ptr 0 0, .int .i64 (.ofNat 6), .int .i64 (nOf m)] v (T 6) (l0), eG 44 [.ptr 0 0, .int .i64 (nOf m)] v (amt T) (((T 6) (l0)).2)]) ⟨eNext_ok h0, eG_ok (IT 6 (by decide)) rfl _, eG_ok IA rfl _, trivial⟩ 21 [((T 6) (l0)).1, ((amt T) (((T 6) (l0)).2)).1] 2 (by omega) (fun c => gB (inI64 (nOf m)) (gC (eNext 0 10 l l0 v 3) (gC (eG 23 [.ptr 0 0, .int .i64 (.ofNat 6), .int .i64 (nOf m)] v (T 6) (l0)) (gC (eG 44 [.ptr 0 0, .int .i64 (nOf m)] v (amt T) (((T 6) (l0)).2)) (c))))) ?_ (fun I => by kernel_rfl)
  · intro c hc; simp only [gC_iff, gB_iff]; exact ⟨nOf_in hm100, hc⟩
include hm100 hv IT IP IA in
theorem ty_5_4 {l l0 : List UInt8} (h0 : nx 10 l = (4, l0)) : BSim Tryz.prog 23 [.ptr 0 0, .int .i64 (.ofNat 5), .int .i64 (.ofNat (m + 2))] [cD l v] [cD ((leafOf v T 5 4 l0).2) v] (exA ((leafOf v T 5 4 l0).1)) := by
  show BSim Tryz.prog 23 [.ptr 0 0, .int .i64 (.ofNat 5), .int .i64 (.ofNat (m + 2))] [cD l v] [cD (((amt T) (((T 6) (l0)).2)).2) v] (exA (.mk 22 [] Rt.zero [((T 6) (l0)).1, ((amt T) (((T 6) (l0)).2)).1]))
  refine node (S := [eNext 0 10 l l0 v 4, eG 23 [.ptr 0 0, .int .i64 (.ofNat 6), .int .i64 (nOf m)] v (T 6) (l0), eG 44 [.ptr 0 0, .int .i64 (nOf m)] v (amt T) (((T 6) (l0)).2)]) ⟨eNext_ok h0, eG_ok (IT 6 (by decide)) rfl _, eG_ok IA rfl _, trivial⟩ 22 [((T 6) (l0)).1, ((amt T) (((T 6) (l0)).2)).1] 2 (by omega) (fun c => gB (inI64 (nOf m)) (gC (eNext 0 10 l l0 v 4) (gC (eG 23 [.ptr 0 0, .int .i64 (.ofNat 6), .int .i64 (nOf m)] v (T 6) (l0)) (gC (eG 44 [.ptr 0 0, .int .i64 (nOf m)] v (amt T) (((T 6) (l0)).2)) (c))))) ?_ (fun I => by kernel_rfl)
  · intro c hc; simp only [gC_iff, gB_iff]; exact ⟨nOf_in hm100, hc⟩
include hm100 hv IT IP IA in
theorem ty_5_5 {l l0 : List UInt8} (h0 : nx 10 l = (5, l0)) : BSim Tryz.prog 23 [.ptr 0 0, .int .i64 (.ofNat 5), .int .i64 (.ofNat (m + 2))] [cD l v] [cD ((leafOf v T 5 5 l0).2) v] (exA ((leafOf v T 5 5 l0).1)) := by
  show BSim Tryz.prog 23 [.ptr 0 0, .int .i64 (.ofNat 5), .int .i64 (.ofNat (m + 2))] [cD l v] [cD (((T 5) (((T 5) (l0)).2)).2) v] (exA (.mk 23 [] Rt.zero [((T 5) (l0)).1, ((T 5) (((T 5) (l0)).2)).1]))
  refine node (S := [eNext 0 10 l l0 v 5, eG 23 [.ptr 0 0, .int .i64 (.ofNat 5), .int .i64 (nOf m)] v (T 5) (l0), eG 23 [.ptr 0 0, .int .i64 (.ofNat 5), .int .i64 (nOf m)] v (T 5) (((T 5) (l0)).2)]) ⟨eNext_ok h0, eG_ok (IT 5 (by decide)) rfl _, eG_ok (IT 5 (by decide)) rfl _, trivial⟩ 23 [((T 5) (l0)).1, ((T 5) (((T 5) (l0)).2)).1] 2 (by omega) (fun c => gB (inI64 (nOf m)) (gC (eNext 0 10 l l0 v 5) (gC (eG 23 [.ptr 0 0, .int .i64 (.ofNat 5), .int .i64 (nOf m)] v (T 5) (l0)) (gC (eG 23 [.ptr 0 0, .int .i64 (.ofNat 5), .int .i64 (nOf m)] v (T 5) (((T 5) (l0)).2)) (c))))) ?_ (fun I => by kernel_rfl)
  · intro c hc; simp only [gC_iff, gB_iff]; exact ⟨nOf_in hm100, hc⟩
include hm100 hv IT IP IA in
theorem ty_5_6 {l l0 : List UInt8} (h0 : nx 10 l = (6, l0)) : BSim Tryz.prog 23 [.ptr 0 0, .int .i64 (.ofNat 5), .int .i64 (.ofNat (m + 2))] [cD l v] [cD ((leafOf v T 5 6 l0).2) v] (exA ((leafOf v T 5 6 l0).1)) := by
  show BSim Tryz.prog 23 [.ptr 0 0, .int .i64 (.ofNat 5), .int .i64 (.ofNat (m + 2))] [cD l v] [cD (((T 5) (((T 5) (l0)).2)).2) v] (exA (.mk 24 [] Rt.zero [((T 5) (l0)).1, ((T 5) (((T 5) (l0)).2)).1]))
  refine node (S := [eNext 0 10 l l0 v 6, eG 23 [.ptr 0 0, .int .i64 (.ofNat 5), .int .i64 (nOf m)] v (T 5) (l0), eG 23 [.ptr 0 0, .int .i64 (.ofNat 5), .int .i64 (nOf m)] v (T 5) (((T 5) (l0)).2)]) ⟨eNext_ok h0, eG_ok (IT 5 (by decide)) rfl _, eG_ok (IT 5 (by decide)) rfl _, trivial⟩ 24 [((T 5) (l0)).1, ((T 5) (((T 5) (l0)).2)).1] 2 (by omega) (fun c => gB (inI64 (nOf m)) (gC (eNext 0 10 l l0 v 6) (gC (eG 23 [.ptr 0 0, .int .i64 (.ofNat 5), .int .i64 (nOf m)] v (T 5) (l0)) (gC (eG 23 [.ptr 0 0, .int .i64 (.ofNat 5), .int .i64 (nOf m)] v (T 5) (((T 5) (l0)).2)) (c))))) ?_ (fun I => by kernel_rfl)
  · intro c hc; simp only [gC_iff, gB_iff]; exact ⟨nOf_in hm100, hc⟩
include hm100 hv IT IP IA in
theorem ty_5_7 {l l0 : List UInt8} (h0 : nx 10 l = (7, l0)) : BSim Tryz.prog 23 [.ptr 0 0, .int .i64 (.ofNat 5), .int .i64 (.ofNat (m + 2))] [cD l v] [cD ((leafOf v T 5 7 l0).2) v] (exA ((leafOf v T 5 7 l0).1)) := by
  show BSim Tryz.prog 23 [.ptr 0 0, .int .i64 (.ofNat 5), .int .i64 (.ofNat (m + 2))] [cD l v] [cD (((T 5) (l0)).2) v] (exA (.mk 25 [] Rt.zero [((T 5) (l0)).1]))
  refine node (S := [eNext 0 10 l l0 v 7, eG 23 [.ptr 0 0, .int .i64 (.ofNat 5), .int .i64 (nOf m)] v (T 5) (l0)]) ⟨eNext_ok h0, eG_ok (IT 5 (by decide)) rfl _, trivial⟩ 25 [((T 5) (l0)).1] 2 (by omega) (fun c => gB (inI64 (nOf m)) (gC (eNext 0 10 l l0 v 7) (gC (eG 23 [.ptr 0 0, .int .i64 (.ofNat 5), .int .i64 (nOf m)] v (T 5) (l0)) (c)))) ?_ (fun I => by kernel_rfl)
  · intro c hc; simp only [gC_iff, gB_iff]; exact ⟨nOf_in hm100, hc⟩
include hm100 hv IT IP IA in
theorem ty_5_8 {l l0 : List UInt8} (h0 : nx 10 l = (8, l0)) : BSim Tryz.prog 23 [.ptr 0 0, .int .i64 (.ofNat 5), .int .i64 (.ofNat (m + 2))] [cD l v] [cD ((leafOf v T 5 8 l0).2) v] (exA ((leafOf v T 5 8 l0).1)) := by
  show BSim Tryz.prog 23 [.ptr 0 0, .int .i64 (.ofNat 5), .int .i64 (.ofNat (m + 2))] [cD l v] [cD (((T 4) (((T 5) (l0)).2)).2) v] (exA (.mk 12 [] Rt.zero [((T 5) (l0)).1, ((T 4) (((T 5) (l0)).2)).1]))
  refine node (S := [eNext 0 10 l l0 v 8, eG 23 [.ptr 0 0, .int .i64 (.ofNat 5), .int .i64 (nOf m)] v (T 5) (l0), eG 23 [.ptr 0 0, .int .i64 (.ofNat 4), .int .i64 (nOf m)] v (T 4) (((T 5) (l0)).2)]) ⟨eNext_ok h0, eG_ok (IT 5 (by decide)) rfl _, eG_ok (IT 4 (by decide)) rfl _, trivial⟩ 12 [((T 5) (l0)).1, ((T 4) (((T 5) (l0)).2)).1] 2 (by omega) (fun c => gB (inI64 (nOf m)) (gC (eNext 0 10 l l0 v 8) (gC (eG 23 [.ptr 0 0, .int .i64 (.ofNat 5), .int .i64 (nOf m)] v (T 5) (l0)) (gC (eG 23 [.ptr 0 0, .int .i64 (.ofNat 4), .int .i64 (nOf m)] v (T 4) (((T 5) (l0)).2)) (c))))) ?_ (fun I => by kernel_rfl)
  · intro c hc; simp only [gC_iff, gB_iff]; exact ⟨nOf_in hm100, hc⟩
include hm100 hv IT IP IA in
theorem ty_5_9 {l l0 : List UInt8} (h0 : nx 10 l = (9, l0)) : BSim Tryz.prog 23 [.ptr 0 0, .int .i64 (.ofNat 5), .int .i64 (.ofNat (m + 2))] [cD l v] [cD ((leafOf v T 5 9 l0).2) v] (exA ((leafOf v T 5 9 l0).1)) := by
  show BSim Tryz.prog 23 [.ptr 0 0, .int .i64 (.ofNat 5), .int .i64 (.ofNat (m + 2))] [cD l v] [cD ((nu (((T 5) (l0)).2)).2) v] (exA (.mk 29 [] Rt.zero [((T 5) (l0)).1, (nu (((T 5) (l0)).2)).1]))
  refine node (S := [eNext 0 10 l l0 v 9, eG 23 [.ptr 0 0, .int .i64 (.ofNat 5), .int .i64 (nOf m)] v (T 5) (l0), eG 41 [.ptr 0 0] v nu (((T 5) (l0)).2)]) ⟨eNext_ok h0, eG_ok (IT 5 (by decide)) rfl _, eG_ok (number_g v) rfl _, trivial⟩ 29 [((T 5) (l0)).1, (nu (((T 5) (l0)).2)).1] 2 (by omega) (fun c => gB (inI64 (nOf m)) (gC (eNext 0 10 l l0 v 9) (gC (eG 23 [.ptr 0 0, .int .i64 (.ofNat 5), .int .i64 (nOf m)] v (T 5) (l0)) (gC (eG 41 [.ptr 0 0] v nu (((T 5) (l0)).2)) (c))))) ?_ (fun I => by kernel_rfl)
  · intro c hc; simp only [gC_iff, gB_iff]; exact ⟨nOf_in hm100, hc⟩
include hm100 hv IT IP IA in
theorem ty_6_0 {l l0 : List UInt8} (h0 : nx 10 l = (0, l0)) : BSim Tryz.prog 23 [.ptr 0 0, .int .i64 (.ofNat 6), .int .i64 (.ofNat (m + 2))] [cD l v] [cD ((leafOf v T 6 0 l0).2) v] (exA ((leafOf v T 6 0 l0).1)) := by
  show BSim Tryz.prog 23 [.ptr 0 0, .int .i64 (.ofNat 6), .int .i64 (.ofNat (m + 2))] [cD l v] [cD (((pt v) (l0)).2) v] (exA (.mk 14 [] Rt.zero [((pt v) (l0)).1]))
  refine node (S := [eNext 0 10 l l0 v 0, eG 42 [.ptr 0 0] v (pt v) (l0)]) ⟨eNext_ok h0, eG_ok (point_g v hv) rfl _, trivial⟩ 14 [((pt v) (l0)).1] 2 (by omega) (fun c => gB (inI64 (nOf m)) (gC (eNext 0 10 l l0 v 0) (gC (eG 42 [.ptr 0 0] v (pt v) (l0)) (c)))) ?_ (fun I => by kernel_rfl)
  · intro c hc; simp only [gC_iff, gB_iff]; exact ⟨nOf_in hm100, hc⟩
include hm100 hv IT IP IA in
theorem ty_6_1 {l l0 : List UInt8} (h0 : nx 10 l = (1, l0)) : BSim Tryz.prog 23 [.ptr 0 0, .int .i64 (.ofNat 6), .int .i64 (.ofNat (m + 2))] [cD l v] [cD ((leafOf v T 6 1 l0).2) v] (exA ((leafOf v T 6 1 l0).1)) := by
  show BSim Tryz.prog 23 [.ptr 0 0, .int .i64 (.ofNat 6), .int .i64 (.ofNat (m + 2))] [cD l v] [cD (((plc T) (((T 7) (l0)).2)).2) v] (exA (.mk 13 [] Rt.zero [((T 7) (l0)).1, ((plc T) (((T 7) (l0)).2)).1]))
  refine node (S := [eNext 0 10 l l0 v 1, eG 23 [.ptr 0 0, .int .i64 (.ofNat 7), .int .i64 (nOf m)] v (T 7) (l0), eG 43 [.ptr 0 0, .int .i64 (nOf m)] v (plc T) (((T 7) (l0)).2)]) ⟨eNext_ok h0, eG_ok (IT 7 (by decide)) rfl _, eG_ok IP rfl _, trivial⟩ 13 [((T 7) (l0)).1, ((plc T) (((T 7) (l0)).2)).1] 2 (by omega) (fun c => gB (inI64 (nOf m)) (gC (eNext 0 10 l l0 v 1) (gC (eG 23 [.ptr 0 0, .int .i64 (.ofNat 7), .int .i64 (nOf m)] v (T 7) (l0)) (gC (eG 43 [.ptr 0 0, .int .i64 (nOf m)] v (plc T) (((T 7) (l0)).2)) (c))))) ?_ (fun I => by kernel_rfl)
  · intro c hc; simp only [gC_iff, gB_iff]; exact ⟨nOf_in hm100, hc⟩
include hm100 hv IT IP IA in
theorem ty_6_2 {l l0 : List UInt8} (h0 : nx 10 l = (2, l0)) : BSim Tryz.prog 23 [.ptr 0 0, .int .i64 (.ofNat 6), .int .i64 (.ofNat (m + 2))] [cD l v] [cD ((leafOf v T 6 2 l0).2) v] (exA ((leafOf v T 6 2 l0).1)) := by
  show BSim Tryz.prog 23 [.ptr 0 0, .int .i64 (.ofNat 6), .int .i64 (.ofNat (m + 2))] [cD l v] [cD (((plc T) (((T 7) (l0)).2)).2) v] (exA (.mk 13 [] Rt.zero [((T 7) (l0)).1, ((plc T) (((T 7) (l0)).2)).1]))
  refine node (S := [eNext 0 10 l l0 v 2, eG 23 [.ptr 0 0, .int .i64 (.ofNat 7), .int .i64 (nOf m)] v (T 7) (l0), eG 43 [.ptr 0 0, .int .i64 (nOf m)] v (plc T) (((T 7) (l0)).2)]) ⟨eNext_ok h0, eG_ok (IT 7 (by decide)) rfl _, eG_ok IP rfl _, trivial⟩ 13 [((T 7) (l0)).1, ((plc T) (((T 7) (l0)).2)).1] 2 (by omega) (fun c => gB (inI64 (nOf m)) (gC (eNext 0 10 l l0 v 2) (gC (eG 23 [.ptr 0 0, .int .i64 (.ofNat 7), .int .i64 (nOf m)] v (T 7) (l0)) (gC (eG 43 [.ptr 0 0, .int .i64 (nOf m)] v (plc T) (((T 7) (l0)).2)) (c))))) ?_ (fun I => by kernel_rfl)
  · intro c hc; simp only [gC_iff, gB_iff]; exact ⟨nOf_in hm100, hc⟩
include hm100 hv IT IP IA in
theorem ty_6_3 {l l0 : List UInt8} (h0 : nx 10 l = (3, l0)) : BSim Tryz.prog 23 [.ptr 0 0, .int .i64 (.ofNat 6), .int .i64 (.ofNat (m + 2))] [cD l v] [cD ((leafOf v T 6 3 l0).2) v] (exA ((leafOf v T 6 3 l0).1)) := by
  show BSim Tryz.prog 23 [.ptr 0 0, .int .i64 (.ofNat 6), .int .i64 (.ofNat (m + 2))] [cD l v] [cD (((T 8) (l0)).2) v] (exA (.mk 17 [] Rt.zero [((T 8) (l0)).1]))
  refine node (S := [eNext 0 10 l l0 v 3, eG 23 [.ptr 0 0, .int .i64 (.ofNat 8), .int .i64 (nOf m)] v (T 8) (l0)]) ⟨eNext_ok h0, eG_ok (IT 8 (by decide)) rfl _, trivial⟩ 17 [((T 8) (l0)).1] 2 (by omega) (fun c => gB (inI64 (nOf m)) (gC (eNext 0 10 l l0 v 3) (gC (eG 23 [.ptr 0 0, .int .i64 (.ofNat 8), .int .i64 (nOf m)] v (T 8) (l0)) (c)))) ?_ (fun I => by kernel_rfl)
  · intro c hc; simp only [gC_iff, gB_iff]; exact ⟨nOf_in hm100, hc⟩
include hm100 hv IT IP IA in
theorem ty_6_4 {l l0 : List UInt8} (h0 : nx 10 l = (4, l0)) : BSim Tryz.prog 23 [.ptr 0 0, .int .i64 (.ofNat 6), .int .i64 (.ofNat (m + 2))] [cD l v] [cD ((leafOf v T 6 4 l0).2) v] (exA ((leafOf v T 6 4 l0).1)) := by
  show BSim Tryz.prog 23 [.ptr 0 0, .int .i64 (.ofNat 6), .int .i64 (.ofNat (m + 2))] [cD l v] [cD (((amt T) (((T 6) (l0)).2)).2) v] (exA (.mk 18 [] Rt.zero [((T 6) (l0)).1, ((amt T) (((T 6) (l0)).2)).1]))
  refine node (S := [eNext 0 10 l l0 v 4, eG 23 [.ptr 0 0, .int .i64 (.ofNat 6), .int .i64 (nOf m)] v (T 6) (l0), eG 44 [.ptr 0 0, .int .i64 (nOf m)] v (amt T) (((T 6) (l0)).2)]) ⟨eNext_ok h0, eG_ok (IT 6 (by decide)) rfl _, eG_ok IA rfl _, trivial⟩ 18 [((T 6) (l0)).1, ((amt T) (((T 6) (l0)).2)).1] 2 (by omega) (fun c => gB (inI64 (nOf m)) (gC (eNext 0 10 l l0 v 4) (gC (eG 23 [.ptr 0 0, .int .i64 (.ofNat 6), .int .i64 (nOf m)] v (T 6) (l0)) (gC (eG 44 [.ptr 0 0, .int .i64 (nOf m)] v (amt T) (((T 6) (l0)).2)) (c))))) ?_ (fun I => by kernel_rfl)
  · intro c hc; simp only [gC_iff, gB_iff]; exact ⟨nOf_in hm100, hc⟩
include hm100 hv IT IP IA in
theorem ty_6_5 {l l0 : List UInt8} (h0 : nx 10 l = (5, l0)) : BSim Tryz.prog 23 [.ptr 0 0, .int .i64 (.ofNat 6), .int .i64 (.ofNat (m + 2))] [cD l v] [cD ((leafOf v T 6 5 l0).2) v] (exA ((leafOf v T 6 5 l0).1)) := by
  show BSim Tryz.prog 23 [.ptr 0 0, .int .i64 (.ofNat 6), .int .i64 (.ofNat (m + 2))] [cD l v] [cD (((amt T) (((T 6) (l0)).2)).2) v] (exA (.mk 19 [] Rt.zero [((T 6) (l0)).1, ((amt T) (((T 6) (l0)).2)).1]))
  refine node (S := [eNext 0 10 l l0 v 5, eG 23 [.ptr 0 0, .int .i64 (.ofNat 6), .int .i64 (nOf m)] v (T 6) (l0), eG 44 [.ptr 0 0, .int .i64 (nOf m)] v (amt T) (((T 6) (l0)).2)]) ⟨eNext_ok h0, eG_ok (IT 6 (by decide)) rfl _, eG_ok IA rfl _, trivial⟩ 19 [((T 6) (l0)).1, ((amt T) (((T 6) (l0)).2)).1] 2 (by omega) (fun c => gB (inI64 (nOf m)) (gC (eNext 0 10 l l0 v 5) (gC (eG 23 [.ptr 0 0, .int .i64 (.ofNat 6), .int .i64 (nOf m)] v (T 6) (l0)) (gC (eG 44 [.ptr 0 0, .int .i64 (nOf m)] v (amt T) (((T 6) (l0)).2)) (c))))) ?_ (fun I => by kernel_rfl)
  · intro c hc; simp only [gC_iff, gB_iff]; exact ⟨nOf_in hm100, hc⟩
include hm100 hv IT IP IA in
theorem ty_6_6 {l l0 : List UInt8} (h0 : nx 10 l = (6, l0)) : BSim Tryz.prog 23 [.ptr 0 0, .int .i64 (.ofNat 6), .int .i64 (.ofNat (m + 2))] [cD l v] [cD ((leafOf v T 6 6 l0).2) v] (exA ((leafOf v T 6 6 l0).1)) := by
  show BSim Tryz.prog 23 [.ptr 0 0, .int .i64 (.ofNat 6), .int .i64 (.ofNat (m + 2))] [cD l v] [cD (((T 6) ((nu (l0)).2)).2) v] (exA (.mk 20 [] Rt.zero [(nu (l0)).1, ((T 6) ((nu (l0)).2)).1]))
  refine node (S := [eNext 0 10 l l0 v 6, eG 41 [.ptr 0 0] v nu (l0), eG 23 [.ptr 0 0, .int .i64 (.ofNat 6), .int .i64 (nOf m)] v (T 6) ((nu (l0)).2)]) ⟨eNext_ok h0, eG_ok (number_g v) rfl _, eG_ok (IT 6 (by decide)) rfl _, trivial⟩ 20 [(nu (l0)).1, ((T 6) ((nu (l0)).2)).1] 2 (by omega) (fun c => gB (inI64 (nOf m)) (gC (eNext 0 10 l l0 v 6) (gC (eG 41 [.ptr 0 0] v nu (l0)) (gC (eG 23 [.ptr 0 0, .int .i64 (.ofNat 6), .int .i64 (nOf m)] v (T 6) ((nu (l0)).2)) (c))))) ?_ (fun I => by kernel_rfl)
  · intro c hc; simp only [gC_iff, gB_iff]; exact ⟨nOf_in hm100, hc⟩
include hm100 hv IT IP IA in
theorem ty_6_7 {l l0 : List UInt8} (h0 : nx 10 l = (7, l0)) : BSim Tryz.prog 23 [.ptr 0 0, .int .i64 (.ofNat 6), .int .i64 (.ofNat (m + 2))] [cD l v] [cD ((leafOf v T 6 7 l0).2) v] (exA ((leafOf v T 6 7 l0).1)) := by
  show BSim Tryz.prog 23 [.ptr 0 0, .int .i64 (.ofNat 6), .int .i64 (.ofNat (m + 2))] [cD l v] [cD (((pt v) (l0)).2) v] (exA (.mk 14 [] Rt.zero [((pt v) (l0)).1]))
  refine node (S := [eNext 0 10 l l0 v 7, eG 42 [.ptr 0 0] v (pt v) (l0)]) ⟨eNext_ok h0, eG_ok (point_g v hv) rfl _, trivial⟩ 14 [((pt v) (l0)).1] 2 (by omega) (fun c => gB (inI64 (nOf m)) (gC (eNext 0 10 l l0 v 7) (gC (eG 42 [.ptr 0 0] v (pt v) (l0)) (c)))) ?_ (fun I => by kernel_rfl)
  · intro c hc; simp only [gC_iff, gB_iff]; exact ⟨nOf_in hm100, hc⟩
include hm100 hv IT IP IA in
theorem ty_6_8 {l l0 : List UInt8} (h0 : nx 10 l = (8, l0)) : BSim Tryz.prog 23 [.ptr 0 0, .int .i64 (.ofNat 6), .int .i64 (.ofNat (m + 2))] [cD l v] [cD ((leafOf v T 6 8 l0).2) v] (exA ((leafOf v T 6 8 l0).1)) := by
  show BSim Tryz.prog 23 [.ptr 0 0, .int .i64 (.ofNat 6), .int .i64 (.ofNat (m + 2))] [cD l v] [cD (((T 4) (((T 6) (l0)).2)).2) v] (exA (.mk 12 [] Rt.zero [((T 6) (l0)).1, ((T 4) (((T 6) (l0)).2)).1]))
  refine node (S := [eNext 0 10 l l0 v 8, eG 23 [.ptr 0 0, .int .i64 (.ofNat 6), .int .i64 (nOf m)] v (T 6) (l0), eG 23 [.ptr 0 0, .int .i64 (.ofNat 4), .int .i64 (nOf m)] v (T 4) (((T 6) (l0)).2)]) ⟨eNext_ok h0, eG_ok (IT 6 (by decide)) rfl _, eG_ok (IT 4 (by decide)) rfl _, trivial⟩ 12 [((T 6) (l0)).1, ((T 4) (((T 6) (l0)).2)).1] 2 (by omega) (fun c => gB (inI64 (nOf m)) (gC (eNext 0 10 l l0 v 8) (gC (eG 23 [.ptr 0 0, .int .i64 (.ofNat 6), .int .i64 (nOf m)] v (T 6) (l0)) (gC (eG 23 [.ptr 0 0, .int .i64 (.ofNat 4), .int .i64 (nOf m)] v (T 4) (((T 6) (l0)).2)) (c))))) ?_ (fun I => by kernel_rfl)
  · intro c hc; simp only [gC_iff, gB_iff]; exact ⟨nOf_in hm100, hc⟩
include hm100 hv IT IP IA in
theorem ty_6_9 {l l0 : List UInt8} (h0 : nx 10 l = (9, l0)) : BSim Tryz.prog 23 [.ptr 0 0, .int .i64 (.ofNat 6), .int .i64 (.ofNat (m + 2))] [cD l v] [cD ((leafOf v T 6 9 l0).2) v] (exA ((leafOf v T 6 9 l0).1)) := by
  show BSim Tryz.prog 23 [.ptr 0 0, .int .i64 (.ofNat 6), .int .i64 (.ofNat (m + 2))] [cD l v] [cD ((nu (((T 6) (l0)).2)).2) v] (exA (.mk 29 [] Rt.zero [((T 6) (l0)).1, (nu (((T 6) (l0)).2)).1]))
  refine node (S := [eNext 0 10 l l0 v 9, eG 23 [.ptr 0 0, .int .i64 (.ofNat 6), .int .i64 (nOf m)] v (T 6) (l0), eG 41 [.ptr 0 0] v nu (((T 6) (l0)).2)]) ⟨eNext_ok h0, eG_ok (IT 6 (by decide)) rfl _, eG_ok (number_g v) rfl _, trivial⟩ 29 [((T 6) (l0)).1, (nu (((T 6) (l0)).2)).1] 2 (by omega) (fun c => gB (inI64 (nOf m)) (gC (eNext 0 10 l l0 v 9) (gC (eG 23 [.ptr 0 0, .int .i64 (.ofNat 6), .int .i64 (nOf m)] v (T 6) (l0)) (gC (eG 41 [.ptr 0 0] v nu (((T 6) (l0)).2)) (c))))) ?_ (fun I => by kernel_rfl)
  · intro c hc; simp only [gC_iff, gB_iff]; exact ⟨nOf_in hm100, hc⟩
include hm100 hv IT IP IA in
theorem ty_7_0 {l l0 : List UInt8} (h0 : nx 10 l = (0, l0)) : BSim Tryz.prog 23 [.ptr 0 0, .int .i64 (.ofNat 7), .int .i64 (.ofNat (m + 2))] [cD l v] [cD ((leafOf v T 7 0 l0).2) v] (exA ((leafOf v T 7 0 l0).1)) := by
  show BSim Tryz.prog 23 [.ptr 0 0, .int .i64 (.ofNat 7), .int .i64 (.ofNat (m + 2))] [cD l v] [cD ((pt v l0).2) v] (exA ((pt v l0).1))
  refine nodeH (S := [eNext 0 10 l l0 v 0, eG 42 [.ptr 0 0] v (pt v) (l0)]) ⟨eNext_ok h0, eG_ok (point_g v hv) rfl _, trivial⟩ _ (fun c => gB (inI64 (nOf m)) (gC (eNext 0 10 l l0 v 0) (gC (eG 42 [.ptr 0 0] v (pt v) (l0)) c))) ?_ (fun I => by kernel_rfl)
  · intro c hc; simp only [gC_iff, gB_iff]; exact ⟨nOf_in hm100, hc⟩
include hm100 hv IT IP IA in
theorem ty_7_1 {l l0 : List UInt8} (h0 : nx 10 l = (1, l0)) : BSim Tryz.prog 23 [.ptr 0 0, .int .i64 (.ofNat 7), .int .i64 (.ofNat (m + 2))] [cD l v] [cD ((leafOf v T 7 1 l0).2) v] (exA ((leafOf v T 7 1 l0).1)) := by
  show BSim Tryz.prog 23 [.ptr 0 0, .int .i64 (.ofNat 7), .int .i64 (.ofNat (m + 2))] [cD l v] [cD ((pt v l0).2) v] (exA ((pt v l0).1))
  refine nodeH (S := [eNext 0 10 l l0 v 1, eG 42 [.ptr 0 0] v (pt v) (l0)]) ⟨eNext_ok h0, eG_ok (point_g v hv) rfl _, trivial⟩ _ (fun c => gB (inI64 (nOf m)) (gC (eNext 0 10 l l0 v 1) (gC (eG 42 [.ptr 0 0] v (pt v) (l0)) c))) ?_ (fun I => by kernel_rfl)
  · intro c hc; simp only [gC_iff, gB_iff]; exact ⟨nOf_in hm100, hc⟩
include hm100 hv IT IP IA in
theorem ty_7_2 {l l0 : List UInt8} (h0 : nx 10 l = (2, l0)) : BSim Tryz.prog 23 [.ptr 0 0, .int .i64 (.ofNat 7), .int .i64 (.ofNat (m + 2))] [cD l v] [cD ((leafOf v T 7 2 l0).2) v] (exA ((leafOf v T 7 2 l0).1)) := by
  show BSim Tryz.prog 23 [.ptr 0 0, .int .i64 (.ofNat 7), .int .i64 (.ofNat (m + 2))] [cD l v] [cD ((pt v l0).2) v] (exA ((pt v l0).1))
  refine nodeH (S := [eNext 0 10 l l0 v 2, eG 42 [.ptr 0 0] v (pt v) (l0)]) ⟨eNext_ok h0, eG_ok (point_g v hv) rfl _, trivial⟩ _ (fun c => gB (inI64 (nOf m)) (gC (eNext 0 10 l l0 v 2) (gC (eG 42 [.ptr 0 0] v (pt v) (l0)) c))) ?_ (fun I => by kernel_rfl)
  · intro c hc; simp only [gC_iff, gB_iff]; exact ⟨nOf_in hm100, hc⟩
include hm100 hv IT IP IA in
theorem ty_7_3 {l l0 : List UInt8} (h0 : nx 10 l = (3, l0)) : BSim Tryz.prog 23 [.ptr 0 0, .int .i64 (.ofNat 7), .int .i64 (.ofNat (m + 2))] [cD l v] [cD ((leafOf v T 7 3 l0).2) v] (exA ((leafOf v T 7 3 l0).1)) := by
  show BSim Tryz.prog 23 [.ptr 0 0, .int .i64 (.ofNat 7), .int .i64 (.ofNat (m + 2))] [cD l v] [cD ((pt v l0).2) v] (exA ((pt v l0).1))
  refine nodeH (S := [eNext 0 10 l l0 v 3, eG 42 [.ptr 0 0] v (pt v) (l0)]) ⟨eNext_ok h0, eG_ok (point_g v hv) rfl _, trivial⟩ _ (fun c => gB (inI64 (nOf m)) (gC (eNext 0 10 l l0 v 3) (gC (eG 42 [.ptr 0 0] v (pt v) (l0)) c))) ?_ (fun I => by kernel_rfl)
  · intro c hc; simp only [gC_iff, gB_iff]; exact ⟨nOf_in hm100, hc⟩
include hm100 hv IT IP IA in
theorem ty_7_4 {l l0 : List UInt8} (h0 : nx 10 l = (4, l0)) : BSim Tryz.prog 23 [.ptr 0 0, .int .i64 (.ofNat 7), .int .i64 (.ofNat (m + 2))] [cD l v] [cD ((leafOf v T 7 4 l0).2) v] (exA ((leafOf v T 7 4 l0).1)) := by
  show BSim Tryz.prog 23 [.ptr 0 0, .int .i64 (.ofNat 7), .int .i64 (.ofNat (m + 2))] [cD l v] [cD ((pt v l0).2) v] (exA ((pt v l0).1))
  refine nodeH (S := [eNext 0 10 l l0 v 4, eG 42 [.ptr 0 0] v (pt v) (l0)]) ⟨eNext_ok h0, eG_ok (point_g v hv) rfl _, trivial⟩ _ (fun c => gB (inI64 (nOf m)) (gC (eNext 0 10 l l0 v 4) (gC (eG 42 [.ptr 0 0] v (pt v) (l0)) c))) ?_ (fun I => by kernel_rfl)
  · intro c hc; simp only [gC_iff, gB_iff]; exact ⟨nOf_in hm100, hc⟩
include hm100 hv IT IP IA in
theorem ty_7_5 {l l0 : List UInt8} (h0 : nx 10 l = (5, l0)) : BSim Tryz.prog 23 [.ptr 0 0, .int .i64 (.ofNat 7), .int .i64 (.ofNat (m + 2))] [cD l v] [cD ((leafOf v T 7 5 l0).2) v] (exA ((leafOf v T 7 5 l0).1)) := by
  show BSim Tryz.prog 23 [.ptr 0 0, .int .i64 (.ofNat 7), .int .i64 (.ofNat (m + 2))] [cD l v] [cD ((pt v l0).2) v] (exA ((pt v l0).1))
  refine nodeH (S := [eNext 0 10 l l0 v 5, eG 42 [.ptr 0 0] v (pt v) (l0)]) ⟨eNext_ok h0, eG_ok (point_g v hv) rfl _, trivial⟩ _ (fun c => gB (inI64 (nOf m)) (gC (eNext 0 10 l l0 v 5) (gC (eG 42 [.ptr 0 0] v (pt v) (l0)) c))) ?_ (fun I => by kernel_rfl)
  · intro c hc; simp only [gC_iff, gB_iff]; exact ⟨nOf_in hm100, hc⟩
include hm100 hv IT IP IA in
theorem ty_7_6 {l l0 : List UInt8} (h0 : nx 10 l = (6, l0)) : BSim Tryz.prog 23 [.ptr 0 0, .int .i64 (.ofNat 7), .int .i64 (.ofNat (m + 2))] [cD l v] [cD ((leafOf v T 7 6 l0).2) v] (exA ((leafOf v T 7 6 l0).1)) := by
  show BSim Tryz.prog 23 [.ptr 0 0, .int .i64 (.ofNat 7), .int .i64 (.ofNat (m + 2))] [cD l v] [cD ((pt v l0).2) v] (exA ((pt v l0).1))
  refine nodeH (S := [eNext 0 10 l l0 v 6, eG 42 [.ptr 0 0] v (pt v) (l0)]) ⟨eNext_ok h0, eG_ok (point_g v hv) rfl _, trivial⟩ _ (fun c => gB (inI64 (nOf m)) (gC (eNext 0 10 l l0 v 6) (gC (eG 42 [.ptr 0 0] v (pt v) (l0)) c))) ?_ (fun I => by kernel_rfl)
  · intro c hc; simp only [gC_iff, gB_iff]; exact ⟨nOf_in hm100, hc⟩
include hm100 hv IT IP IA in
theorem ty_7_7 {l l0 : List UInt8} (h0 : nx 10 l = (7, l0)) : BSim Tryz.prog 23 [.ptr 0 0, .int .i64 (.ofNat 7), .int .i64 (.ofNat (m + 2))] [cD l v] [cD ((leafOf v T 7 7 l0).2) v] (exA ((leafOf v T 7 7 l0).1)) := by
  show BSim Tryz.prog 23 [.ptr 0 0, .int .i64 (.ofNat 7), .int .i64 (.ofNat (m + 2))] [cD l v] [cD ((pt v l0).2) v] (exA ((pt v l0).1))
  refine nodeH (S := [eNext 0 10 l l0 v 7, eG 42 [.ptr 0 0] v (pt v) (l0)]) ⟨eNext_ok h0, eG_ok (point_g v hv) rfl _, trivial⟩ _ (fun c => gB (inI64 (nOf m)) (gC (eNext 0 10 l l0 v 7) (gC (eG 42 [.ptr 0 0] v (pt v) (l0)) c))) ?_ (fun I => by kernel_rfl)
  · intro c hc; simp only [gC_iff, gB_iff]; exact ⟨nOf_in hm100, hc⟩
include hm100 hv IT IP IA in
theorem ty_7_8 {l l0 : List UInt8} (h0 : nx 10 l = (8, l0)) : BSim Tryz.prog 23 [.ptr 0 0, .int .i64 (.ofNat 7), .int .i64 (.ofNat (m + 2))] [cD l v] [cD ((leafOf v T 7 8 l0).2) v] (exA ((leafOf v T 7 8 l0).1)) := by
  show BSim Tryz.prog 23 [.ptr 0 0, .int .i64 (.ofNat 7), .int .i64 (.ofNat (m + 2))] [cD l v] [cD (((T 4) (((T 7) (l0)).2)).2) v] (exA (.mk 12 [] Rt.zero [((T 7) (l0)).1, ((T 4) (((T 7) (l0)).2)).1]))
  refine node (S := [eNext 0 10 l l0 v 8, eG 23 [.ptr 0 0, .int .i64 (.ofNat 7), .int .i64 (nOf m)] v (T 7) (l0), eG 23 [.ptr 0 0, .int .i64 (.ofNat 4), .int .i64 (nOf m)] v (T 4) (((T 7) (l0)).2)]) ⟨eNext_ok h0, eG_ok (IT 7 (by decide)) rfl _, eG_ok (IT 4 (by decide)) rfl _, trivial⟩ 12 [((T 7) (l0)).1, ((T 4) (((T 7) (l0)).2)).1] 2 (by omega) (fun c => gB (inI64 (nOf m)) (gC (eNext 0 10 l l0 v 8) (gC (eG 23 [.ptr 0 0, .int .i64 (.ofNat 7), .int .i64 (nOf m)] v (T 7) (l0)) (gC (eG 23 [.ptr 0 0, .int .i64 (.ofNat 4), .int .i64 (nOf m)] v (T 4) (((T 7) (l0)).2)) (c))))) ?_ (fun I => by kernel_rfl)
  · intro c hc; simp only [gC_iff, gB_iff]; exact ⟨nOf_in hm100, hc⟩
include hm100 hv IT IP IA in
theorem ty_7_9 {l l0 : List UInt8} (h0 : nx 10 l = (9, l0)) : BSim Tryz.prog 23 [.ptr 0 0, .int .i64 (.ofNat 7), .int .i64 (.ofNat (m + 2))] [cD l v] [cD ((leafOf v T 7 9 l0).2) v] (exA ((leafOf v T 7 9 l0).1)) := by
  show BSim Tryz.prog 23 [.ptr 0 0, .int .i64 (.ofNat 7), .int .i64 (.ofNat (m + 2))] [cD l v] [cD ((nu (((T 7) (l0)).2)).2) v] (exA (.mk 29 [] Rt.zero [((T 7) (l0)).1, (nu (((T 7) (l0)).2)).1]))
  refine node (S := [eNext 0 10 l l0 v 9, eG 23 [.ptr 0 0, .int .i64 (.ofNat 7), .int .i64 (nOf m)] v (T 7) (l0), eG 41 [.ptr 0 0] v nu (((T 7) (l0)).2)]) ⟨eNext_ok h0, eG_ok (IT 7 (by decide)) rfl _, eG_ok (number_g v) rfl _, trivial⟩ 29 [((T 7) (l0)).1, (nu (((T 7) (l0)).2)).1] 2 (by omega) (fun c => gB (inI64 (nOf m)) (gC (eNext 0 10 l l0 v 9) (gC (eG 23 [.ptr 0 0, .int .i64 (.ofNat 7), .int .i64 (nOf m)] v (T 7) (l0)) (gC (eG 41 [.ptr 0 0] v nu (((T 7) (l0)).2)) (c))))) ?_ (fun I => by kernel_rfl)
  · intro c hc; simp only [gC_iff, gB_iff]; exact ⟨nOf_in hm100, hc⟩
include hm100 hv IT IP IA in
theorem ty_8_0 {l l0 : List UInt8} (h0 : nx 10 l = (0, l0)) : BSim Tryz.prog 23 [.ptr 0 0, .int .i64 (.ofNat 8), .int .i64 (.ofNat (m + 2))] [cD l v] [cD ((leafOf v T 8 0 l0).2) v] (exA ((leafOf v T 8 0 l0).1)) := by
  show BSim Tryz.prog 23 [.ptr 0 0, .int .i64 (.ofNat 8), .int .i64 (.ofNat (m + 2))] [cD l v] [cD ((zn l0).2) v] (exA ((zn l0).1))
  obtain ⟨j, l1, hj⟩ : ∃ j l1, nx 3 l0 = (j, l1) := ⟨_, _, rfl⟩
  have hj3 : j < 3 := by have := nx_lt (m := 3) l0 (by omega); rw [hj] at this; exact this
  have e1 : (zn l0).2 = l1 := by unfold zn; rw [hj]
  have e2 : (zn l0).1 = exZone j := by unfold zn; rw [hj]
  rw [e1, e2]
  have hj' : j = 0 ∨ j = 1 ∨ j = 2 := by omega
  rcases hj' with rfl | rfl | rfl
  · refine node0 (S := [eNext 0 10 l l0 v 0, eNext 0 3 l0 l1 v 0]) ⟨eNext_ok h0, eNext_ok hj, trivial⟩ 5 (zname 0) Rt.zero (fun c => gB (inI64 (nOf m)) (gC (eNext 0 10 l l0 v 0) (gC (eNext 0 3 l0 l1 v 0) c))) ?_ (fun I => by kernel_rfl)
    intro c hc; simp only [gC_iff, gB_iff]; exact ⟨nOf_in hm100, hc⟩
  · refine node0 (S := [eNext 0 10 l l0 v 0, eNext 0 3 l0 l1 v 1]) ⟨eNext_ok h0, eNext_ok hj, trivial⟩ 5 (zname 1) Rt.zero (fun c => gB (inI64 (nOf m)) (gC (eNext 0 10 l l0 v 0) (gC (eNext 0 3 l0 l1 v 1) c))) ?_ (fun I => by kernel_rfl)
    intro c hc; simp only [gC_iff, gB_iff]; exact ⟨nOf_in hm100, hc⟩
  · refine node0 (S := [eNext 0 10 l l0 v 0, eNext 0 3 l0 l1 v 2]) ⟨eNext_ok h0, eNext_ok hj, trivial⟩ 5 (zname 2) Rt.zero (fun c => gB (inI64 (nOf m)) (gC (eNext 0 10 l l0 v 0) (gC (eNext 0 3 l0 l1 v 2) c))) ?_ (fun I => by kernel_rfl)
    intro c hc; simp only [gC_iff, gB_iff]; exact ⟨nOf_in hm100, hc⟩
include hm100 hv IT IP IA in
theorem ty_8_1 {l l0 : List UInt8} (h0 : nx 10 l = (1, l0)) : BSim Tryz.prog 23 [.ptr 0 0, .int .i64 (.ofNat 8), .int .i64 (.ofNat (m + 2))] [cD l v] [cD ((leafOf v T 8 1 l0).2) v] (exA ((leafOf v T 8 1 l0).1)) := by
  show BSim Tryz.prog 23 [.ptr 0 0, .int .i64 (.ofNat 8), .int .i64 (.ofNat (m + 2))] [cD l v] [cD ((zn l0).2) v] (exA ((zn l0).1))
  obtain ⟨j, l1, hj⟩ : ∃ j l1, nx 3 l0 = (j, l1) := ⟨_, _, rfl⟩
  have hj3 : j < 3 := by have := nx_lt (m := 3) l0 (by omega); rw [hj] at this; exact this
  have e1 : (zn l0).2 = l1 := by unfold zn; rw [hj]
  have e2 : (zn l0).1 = exZone j := by unfold zn; rw [hj]
  rw [e1, e2]
  have hj' : j = 0 ∨ j = 1 ∨ j = 2 := by omega
  rcases hj' with rfl | rfl | rfl
  · refine node0 (S := [eNext 0 10 l l0 v 1, eNext 0 3 l0 l1 v 0]) ⟨eNext_ok h0, eNext_ok hj, trivial⟩ 5 (zname 0) Rt.zero (fun c => gB (inI64 (nOf m)) (gC (eNext 0 10 l l0 v 1) (gC (eNext 0 3 l0 l1 v 0) c))) ?_ (fun I => by kernel_rfl)
    intro c hc; simp only [gC_iff, gB_iff]; exact ⟨nOf_in hm100, hc⟩
  · refine node0 (S := [eNext 0 10 l l0 v 1, eNext 0 3 l0 l1 v 1]) ⟨eNext_ok h0, eNext_ok hj, trivial⟩ 5 (zname 1) Rt.zero (fun c => gB (inI64 (nOf m)) (gC (eNext 0 10 l l0 v 1) (gC (eNext 0 3 l0 l1 v 1) c))) ?_ (fun I => by kernel_rfl)
    intro c hc; simp only [gC_iff, gB_iff]; exact ⟨nOf_in hm100, hc⟩
  · refine node0 (S := [eNext 0 10 l l0 v 1, eNext 0 3 l0 l1 v 2]) ⟨eNext_ok h0, eNext_ok hj, trivial⟩ 5 (zname 2) Rt.zero (fun c => gB (inI64 (nOf m)) (gC (eNext 0 10 l l0 v 1) (gC (eNext 0 3 l0 l1 v 2) c))) ?_ (fun I => by kernel_rfl)
    intro c hc; simp only [gC_iff, gB_iff]; exact ⟨nOf_in hm100, hc⟩
include hm100 hv IT IP IA in
theorem ty_8_2 {l l0 : List UInt8} (h0 : nx 10 l = (2, l0)) : BSim Tryz.prog 23 [.ptr 0 0, .int .i64 (.ofNat 8), .int .i64 (.ofNat (m + 2))] [cD l v] [cD ((leafOf v T 8 2 l0).2) v] (exA ((leafOf v T 8 2 l0).1)) := by
  show BSim Tryz.prog 23 [.ptr 0 0, .int .i64 (.ofNat 8), .int .i64 (.ofNat (m + 2))] [cD l v] [cD ((zn l0).2) v] (exA ((zn l0).1))
  obtain ⟨j, l1, hj⟩ : ∃ j l1, nx 3 l0 = (j, l1) := ⟨_, _, rfl⟩
  have hj3 : j < 3 := by have := nx_lt (m := 3) l0 (by omega); rw [hj] at this; exact this
  have e1 : (zn l0).2 = l1 := by unfold zn; rw [hj]
  have e2 : (zn l0).1 = exZone j := by unfold zn; rw [hj]
  rw [e1, e2]
  have hj' : j = 0 ∨ j = 1 ∨ j = 2 := by omega
  rcases hj' with rfl | rfl | rfl
  · refine node0 (S := [eNext 0 10 l l0 v 2, eNext 0 3 l0 l1 v 0]) ⟨eNext_ok h0, eNext_ok hj, trivial⟩ 5 (zname 0) Rt.zero (fun c => gB (inI64 (nOf m)) (gC (eNext 0 10 l l0 v 2) (gC (eNext 0 3 l0 l1 v 0) c))) ?_ (fun I => by kernel_rfl)
    intro c hc; simp only [gC_iff, gB_iff]; exact ⟨nOf_in hm100, hc⟩
  · refine node0 (S := [eNext 0 10 l l0 v 2, eNext 0 3 l0 l1 v 1]) ⟨eNext_ok h0, eNext_ok hj, trivial⟩ 5 (zname 1) Rt.zero (fun c => gB (inI64 (nOf m)) (gC (eNext 0 10 l l0 v 2) (gC (eNext 0 3 l0 l1 v 1) c))) ?_ (fun I => by kernel_rfl)
    intro c hc; simp only [gC_iff, gB_iff]; exact ⟨nOf_in hm100, hc⟩
  · refine node0 (S := [eNext 0 10 l l0 v 2, eNext 0 3 l0 l1 v 2]) ⟨eNext_ok h0, eNext_ok hj, trivial⟩ 5 (zname 2) Rt.zero (fun c => gB (inI64 (nOf m)) (gC (eNext 0 10 l l0 v 2) (gC (eNext 0 3 l0 l1 v 2) c))) ?_ (fun I => by kernel_rfl)
    intro c hc; simp only [gC_iff, gB_iff]; exact ⟨nOf_in hm100, hc⟩
include hm100 hv IT IP IA in
theorem ty_8_3 {l l0 : List UInt8} (h0 : nx 10 l = (3, l0)) : BSim Tryz.prog 23 [.ptr 0 0, .int .i64 (.ofNat 8), .int .i64 (.ofNat (m + 2))] [cD l v] [cD ((leafOf v T 8 3 l0).2) v] (exA ((leafOf v T 8 3 l0).1)) := by
  show BSim Tryz.prog 23 [.ptr 0 0, .int .i64 (.ofNat 8), .int .i64 (.ofNat (m + 2))] [cD l v] [cD ((zn l0).2) v] (exA ((zn l0).1))
  obtain ⟨j, l1, hj⟩ : ∃ j l1, nx 3 l0 = (j, l1) := ⟨_, _, rfl⟩
  have hj3 : j < 3 := by have := nx_lt (m := 3) l0 (by omega); rw [hj] at this; exact this
  have e1 : (zn l0).2 = l1 := by unfold zn; rw [hj]
  have e2 : (zn l0).1 = exZone j := by unfold zn; rw [hj]
  rw [e1, e2]
  have hj' : j = 0 ∨ j = 1 ∨ j = 2 := by omega
  rcases hj' with rfl | rfl | rfl
  · refine node0 (S := [eNext 0 10 l l0 v 3, eNext 0 3 l0 l1 v 0]) ⟨eNext_ok h0, eNext_ok hj, trivial⟩ 5 (zname 0) Rt.zero (fun c => gB (inI64 (nOf m)) (gC (eNext 0 10 l l0 v 3) (gC (eNext 0 3 l0 l1 v 0) c))) ?_ (fun I => by kernel_rfl)
    intro c hc; simp only [gC_iff, gB_iff]; exact ⟨nOf_in hm100, hc⟩
  · refine node0 (S := [eNext 0 10 l l0 v 3, eNext 0 3 l0 l1 v 1]) ⟨eNext_ok h0, eNext_ok hj, trivial⟩ 5 (zname 1) Rt.zero (fun c => gB (inI64 (nOf m)) (gC (eNext 0 10 l l0 v 3) (gC (eNext 0 3 l0 l1 v 1) c))) ?_ (fun I => by kernel_rfl)
    intro c hc; simp only [gC_iff, gB_iff]; exact ⟨nOf_in hm100, hc⟩
  · refine node0 (S := [eNext 0 10 l l0 v 3, eNext 0 3 l0 l1 v 2]) ⟨eNext_ok h0, eNext_ok hj, trivial⟩ 5 (zname 2) Rt.zero (fun c => gB (inI64 (nOf m)) (gC (eNext 0 10 l l0 v 3) (gC (eNext 0 3 l0 l1 v 2) c))) ?_ (fun I => by kernel_rfl)
    intro c hc; simp only [gC_iff, gB_iff]; exact ⟨nOf_in hm100, hc⟩
include hm100 hv IT IP IA in
theorem ty_8_4 {l l0 : List UInt8} (h0 : nx 10 l = (4, l0)) : BSim Tryz.prog 23 [.ptr 0 0, .int .i64 (.ofNat 8), .int .i64 (.ofNat (m + 2))] [cD l v] [cD ((leafOf v T 8 4 l0).2) v] (exA ((leafOf v T 8 4 l0).1)) := by
  show BSim Tryz.prog 23 [.ptr 0 0, .int .i64 (.ofNat 8), .int .i64 (.ofNat (m + 2))] [cD l v] [cD ((zn l0).2) v] (exA ((zn l0).1))
  obtain ⟨j, l1, hj⟩ : ∃ j l1, nx 3 l0 = (j, l1) := ⟨_, _, rfl⟩
  have hj3 : j < 3 := by have := nx_lt (m := 3) l0 (by omega); rw [hj] at this; exact this
  have e1 : (zn l0).2 = l1 := by unfold zn; rw [hj]
  have e2 : (zn l0).1 = exZone j := by unfold zn; rw [hj]
  rw [e1, e2]
  have hj' : j = 0 ∨ j = 1 ∨ j = 2 := by omega
  rcases hj' with rfl | rfl | rfl
  · refine node0 (S := [eNext 0 10 l l0 v 4, eNext 0 3 l0 l1 v 0]) ⟨eNext_ok h0, eNext_ok hj, trivial⟩ 5 (zname 0) Rt.zero (fun c => gB (inI64 (nOf m)) (gC (eNext 0 10 l l0 v 4) (gC (eNext 0 3 l0 l1 v 0) c))) ?_ (fun I => by kernel_rfl)
    intro c hc; simp only [gC_iff, gB_iff]; exact ⟨nOf_in hm100, hc⟩
  · refine node0 (S := [eNext 0 10 l l0 v 4, eNext 0 3 l0 l1 v 1]) ⟨eNext_ok h0, eNext_ok hj, trivial⟩ 5 (zname 1) Rt.zero (fun c => gB (inI64 (nOf m)) (gC (eNext 0 10 l l0 v 4) (gC (eNext 0 3 l0 l1 v 1) c))) ?_ (fun I => by kernel_rfl)
    intro c hc; simp only [gC_iff, gB_iff]; exact ⟨nOf_in hm100, hc⟩
  · refine node0 (S := [eNext 0 10 l l0 v 4, eNext 0 3 l0 l1 v 2]) ⟨eNext_ok h0, eNext_ok hj, trivial⟩ 5 (zname 2) Rt.zero (fun c => gB (inI64 (nOf m)) (gC (eNext 0 10 l l0 v 4) (gC (eNext 0 3 l0 l1 v 2) c))) ?_ (fun I => by kernel_rfl)
    intro c hc; simp only [gC_iff, gB_iff]; exact ⟨nOf_in hm100, hc⟩
include hm100 hv IT IP IA in
theorem ty_8_5 {l l0 : List UInt8} (h0 : nx 10 l = (5, l0)) : BSim Tryz.prog 23 [.ptr 0 0, .int .i64 (.ofNat 8), .int .i64 (.ofNat (m + 2))] [cD l v] [cD ((leafOf v T 8 5 l0).2) v] (exA ((leafOf v T 8 5 l0).1)) := by
  show BSim Tryz.prog 23 [.ptr 0 0, .int .i64 (.ofNat 8), .int .i64 (.ofNat (m + 2))] [cD l v] [cD ((zn l0).2) v] (exA ((zn l0).1))
  obtain ⟨j, l1, hj⟩ : ∃ j l1, nx 3 l0 = (j, l1) := ⟨_, _, rfl⟩
  have hj3 : j < 3 := by have := nx_lt (m := 3) l0 (by omega); rw [hj] at this; exact this
  have e1 : (zn l0).2 = l1 := by unfold zn; rw [hj]
  have e2 : (zn l0).1 = exZone j := by unfold zn; rw [hj]
  rw [e1, e2]
  have hj' : j = 0 ∨ j = 1 ∨ j = 2 := by omega
  rcases hj' with rfl | rfl | rfl
  · refine node0 (S := [eNext 0 10 l l0 v 5, eNext 0 3 l0 l1 v 0]) ⟨eNext_ok h0, eNext_ok hj, trivial⟩ 5 (zname 0) Rt.zero (fun c => gB (inI64 (nOf m)) (gC (eNext 0 10 l l0 v 5) (gC (eNext 0 3 l0 l1 v 0) c))) ?_ (fun I => by kernel_rfl)
    intro c hc; simp only [gC_iff, gB_iff]; exact ⟨nOf_in hm100, hc⟩
  · refine node0 (S := [eNext 0 10 l l0 v 5, eNext 0 3 l0 l1 v 1]) ⟨eNext_ok h0, eNext_ok hj, trivial⟩ 5 (zname 1) Rt.zero (fun c => gB (inI64 (nOf m)) (gC (eNext 0 10 l l0 v 5) (gC (eNext 0 3 l0 l1 v 1) c))) ?_ (fun I => by kernel_rfl)
    intro c hc; simp only [gC_iff, gB_iff]; exact ⟨nOf_in hm100, hc⟩
  · refine node0 (S := [eNext 0 10 l l0 v 5, eNext 0 3 l0 l1 v 2]) ⟨eNext_ok h0, eNext_ok hj, trivial⟩ 5 (zname 2) Rt.zero (fun c => gB (inI64 (nOf m)) (gC (eNext 0 10 l l0 v 5) (gC (eNext 0 3 l0 l1 v 2) c))) ?_ (fun I => by kernel_rfl)
    intro c hc; simp only [gC_iff, gB_iff]; exact ⟨nOf_in hm100, hc⟩
include hm100 hv IT IP IA in
theorem ty_8_6 {l l0 : List UInt8} (h0 : nx 10 l = (6, l0)) : BSim Tryz.prog 23 [.ptr 0 0, .int .i64 (.ofNat 8), .int .i64 (.ofNat (m + 2))] [cD l v] [cD ((leafOf v T 8 6 l0).2) v] (exA ((leafOf v T 8 6 l0).1)) := by
  show BSim Tryz.prog 23 [.ptr 0 0, .int .i64 (.ofNat 8), .int .i64 (.ofNat (m + 2))] [cD l v] [cD ((zn l0).2) v] (exA ((zn l0).1))
  obtain ⟨j, l1, hj⟩ : ∃ j l1, nx 3 l0 = (j, l1) := ⟨_, _, rfl⟩
  have hj3 : j < 3 := by have := nx_lt (m := 3) l0 (by omega); rw [hj] at this; exact this
  have e1 : (zn l0).2 = l1 := by unfold zn; rw [hj]
  have e2 : (zn l0).1 = exZone j := by unfold zn; rw [hj]
  rw [e1, e2]
  have hj' : j = 0 ∨ j = 1 ∨ j = 2 := by omega
  rcases hj' with rfl | rfl | rfl
  · refine node0 (S := [eNext 0 10 l l0 v 6, eNext 0 3 l0 l1 v 0]) ⟨eNext_ok h0, eNext_ok hj, trivial⟩ 5 (zname 0) Rt.zero (fun c => gB (inI64 (nOf m)) (gC (eNext 0 10 l l0 v 6) (gC (eNext 0 3 l0 l1 v 0) c))) ?_ (fun I => by kernel_rfl)
    intro c hc; simp only [gC_iff, gB_iff]; exact ⟨nOf_in hm100, hc⟩
  · refine node0 (S := [eNext 0 10 l l0 v 6, eNext 0 3 l0 l1 v 1]) ⟨eNext_ok h0, eNext_ok hj, trivial⟩ 5 (zname 1) Rt.zero (fun c => gB (inI64 (nOf m)) (gC (eNext 0 10 l l0 v 6) (gC (eNext 0 3 l0 l1 v 1) c))) ?_ (fun I => by kernel_rfl)
    intro c hc; simp only [gC_iff, gB_iff]; exact ⟨nOf_in hm100, hc⟩
  · refine node0 (S := [eNext 0 10 l l0 v 6, eNext 0 3 l0 l1 v 2]) ⟨eNext_ok h0, eNext_ok hj, trivial⟩ 5 (zname 2) Rt.zero (fun c => gB (inI64 (nOf m)) (gC (eNext 0 10 l l0 v 6) (gC (eNext 0 3 l0 l1 v 2) c))) ?_ (fun I => by kernel_rfl)
    intro c hc; simp only [gC_iff, gB_iff]; exact ⟨nOf_in hm100, hc⟩
include hm100 hv IT IP IA in
theorem ty_8_7 {l l0 : List UInt8} (h0 : nx 10 l = (7, l0)) : BSim Tryz.prog 23 [.ptr 0 0, .int .i64 (.ofNat 8), .int .i64 (.ofNat (m + 2))] [cD l v] [cD ((leafOf v T 8 7 l0).2) v] (exA ((leafOf v T 8 7 l0).1)) := by
  show BSim Tryz.prog 23 [.ptr 0 0, .int .i64 (.ofNat 8), .int .i64 (.ofNat (m + 2))] [cD l v] [cD ((zn l0).2) v] (exA ((zn l0).1))
  obtain ⟨j, l1, hj⟩ : ∃ j l1, nx 3 l0 = (j, l1) := ⟨_, _, rfl⟩
  have hj3 : j < 3 := by have := nx_lt (m := 3) l0 (by omega); rw [hj] at this; exact this
  have e1 : (zn l0).2 = l1 := by unfold zn; rw [hj]
  have e2 : (zn l0).1 = exZone j := by unfold zn; rw [hj]
  rw [e1, e2]
  have hj' : j = 0 ∨ j = 1 ∨ j = 2 := by omega
  rcases hj' with rfl | rfl | rfl
  · refine node0 (S := [eNext 0 10 l l0 v 7, eNext 0 3 l0 l1 v 0]) ⟨eNext_ok h0, eNext_ok hj, trivial⟩ 5 (zname 0) Rt.zero (fun c => gB (inI64 (nOf m)) (gC (eNext 0 10 l l0 v 7) (gC (eNext 0 3 l0 l1 v 0) c))) ?_ (fun I => by kernel_rfl)
    intro c hc; simp only [gC_iff, gB_iff]; exact ⟨nOf_in hm100, hc⟩
  · refine node0 (S := [eNext 0 10 l l0 v 7, eNext 0 3 l0 l1 v 1]) ⟨eNext_ok h0, eNext_ok hj, trivial⟩ 5 (zname 1) Rt.zero (fun c => gB (inI64 (nOf m)) (gC (eNext 0 10 l l0 v 7) (gC (eNext 0 3 l0 l1 v 1) c))) ?_ (fun I => by kernel_rfl)
    intro c hc; simp only [gC_iff, gB_iff]; exact ⟨nOf_in hm100, hc⟩
  · refine node0 (S := [eNext 0 10 l l0 v 7, eNext 0 3 l0 l1 v 2]) ⟨eNext_ok h0, eNext_ok hj, trivial⟩ 5 (zname 2) Rt.zero (fun c => gB (inI64 (nOf m)) (gC (eNext 0 10 l l0 v 7) (gC (eNext 0 3 l0 l1 v 2) c))) ?_ (fun I => by kernel_rfl)
    intro c hc; simp only [gC_iff, gB_iff]; exact ⟨nOf_in hm100, hc⟩
include hm100 hv IT IP IA in
theorem ty_8_8 {l l0 : List UInt8} (h0 : nx 10 l = (8, l0)) : BSim Tryz.prog 23 [.ptr 0 0, .int .i64 (.ofNat 8), .int .i64 (.ofNat (m + 2))] [cD l v] [cD ((leafOf v T 8 8 l0).2) v] (exA ((leafOf v T 8 8 l0).1)) := by
  show BSim Tryz.prog 23 [.ptr 0 0, .int .i64 (.ofNat 8), .int .i64 (.ofNat (m + 2))] [cD l v] [cD (((T 4) (((T 8) (l0)).2)).2) v] (exA (.mk 12 [] Rt.zero [((T 8) (l0)).1, ((T 4) (((T 8) (l0)).2)).1]))
  refine node (S := [eNext 0 10 l l0 v 8, eG 23 [.ptr 0 0, .int .i64 (.ofNat 8), .int .i64 (nOf m)] v (T 8) (l0), eG 23 [.ptr 0 0, .int .i64 (.ofNat 4), .int .i64 (nOf m)] v (T 4) (((T 8) (l0)).2)]) ⟨eNext_ok h0, eG_ok (IT 8 (by decide)) rfl _, eG_ok (IT 4 (by decide)) rfl _, trivial⟩ 12 [((T 8) (l0)).1, ((T 4) (((T 8) (l0)).2)).1] 2 (by omega) (fun c => gB (inI64 (nOf m)) (gC (eNext 0 10 l l0 v 8) (gC (eG 23 [.ptr 0 0, .int .i64 (.ofNat 8), .int .i64 (nOf m)] v (T 8) (l0)) (gC (eG 23 [.ptr 0 0, .int .i64 (.ofNat 4), .int .i64 (nOf m)] v (T 4) (((T 8) (l0)).2)) (c))))) ?_ (fun I => by kernel_rfl)
  · intro c hc; simp only [gC_iff, gB_iff]; exact ⟨nOf_in hm100, hc⟩
include hm100 hv IT IP IA in
theorem ty_8_9 {l l0 : List UInt8} (h0 : nx 10 l = (9, l0)) : BSim Tryz.prog 23 [.ptr 0 0, .int .i64 (.ofNat 8), .int .i64 (.ofNat (m + 2))] [cD l v] [cD ((leafOf v T 8 9 l0).2) v] (exA ((leafOf v T 8 9 l0).1)) := by
  show BSim Tryz.prog 23 [.ptr 0 0, .int .i64 (.ofNat 8), .int .i64 (.ofNat (m + 2))] [cD l v] [cD ((nu (((T 8) (l0)).2)).2) v] (exA (.mk 29 [] Rt.zero [((T 8) (l0)).1, (nu (((T 8) (l0)).2)).1]))
  refine node (S := [eNext 0 10 l l0 v 9, eG 23 [.ptr 0 0, .int .i64 (.ofNat 8), .int .i64 (nOf m)] v (T 8) (l0), eG 41 [.ptr 0 0] v nu (((T 8) (l0)).2)]) ⟨eNext_ok h0, eG_ok (IT 8 (by decide)) rfl _, eG_ok (number_g v) rfl _, trivial⟩ 29 [((T 8) (l0)).1, (nu (((T 8) (l0)).2)).1] 2 (by omega) (fun c => gB (inI64 (nOf m)) (gC (eNext 0 10 l l0 v 9) (gC (eG 23 [.ptr 0 0, .int .i64 (.ofNat 8), .int .i64 (nOf m)] v (T 8) (l0)) (gC (eG 41 [.ptr 0 0] v nu (((T 8) (l0)).2)) (c))))) ?_ (fun I => by kernel_rfl)
  · intro c hc; simp only [gC_iff, gB_iff]; exact ⟨nOf_in hm100, hc⟩
include hm100 hv IT IP IA in
theorem ty_2_x {k : Nat} {l l0 : List UInt8} (h0 : nx 10 l = (k, l0)) : BSim Tryz.prog 23 [.ptr 0 0, .int .i64 (.ofNat 2), .int .i64 (.ofNat (m + 2))] [cD l v] [cD ((leafOf v T 2 k l0).2) v] (exA ((leafOf v T 2 k l0).1)) := by
  show BSim Tryz.prog 23 [.ptr 0 0, .int .i64 (.ofNat 2), .int .i64 (.ofNat (m + 2))] [cD l v] [cD ((nu l0).2) v] (exA ((nu l0).1))
  refine nodeH (S := [eNext 0 10 l l0 v k, eG 41 [.ptr 0 0] v nu (l0)]) ⟨eNext_ok h0, eG_ok (number_g v) rfl _, trivial⟩ _ (fun c => gB (inI64 (nOf m)) (gC (eNext 0 10 l l0 v k) (gC (eG 41 [.ptr 0 0] v nu (l0)) c))) ?_ (fun I => by kernel_rfl)
  · intro c hc; simp only [gC_iff, gB_iff]; exact ⟨nOf_in hm100, hc⟩
include hm100 hv IT IP IA in
theorem ty_3_x {k : Nat} {l l0 : List UInt8} (h0 : nx 10 l = (k, l0)) : BSim Tryz.prog 23 [.ptr 0 0, .int .i64 (.ofNat 3), .int .i64 (.ofNat (m + 2))] [cD l v] [cD ((leafOf v T 3 k l0).2) v] (exA ((leafOf v T 3 k l0).1)) := by
  show BSim Tryz.prog 23 [.ptr 0 0, .int .i64 (.ofNat 3), .int .i64 (.ofNat (m + 2))] [cD l v] [cD ((nu ((nu (l0)).2)).2) v] (exA (.mk 2 [] Rt.zero [(nu (l0)).1, (nu ((nu (l0)).2)).1]))
  refine node (S := [eNext 0 10 l l0 v k, eG 41 [.ptr 0 0] v nu (l0), eG 41 [.ptr 0 0] v nu ((nu (l0)).2)]) ⟨eNext_ok h0, eG_ok (number_g v) rfl _, eG_ok (number_g v) rfl _, trivial⟩ 2 [(nu (l0)).1, (nu ((nu (l0)).2)).1] 2 (by omega) (fun c => gB (inI64 (nOf m)) (gC (eNext 0 10 l l0 v k) (gC (eG 41 [.ptr 0 0] v nu (l0)) (gC (eG 41 [.ptr 0 0] v nu ((nu (l0)).2)) (c))))) ?_ (fun I => by kernel_rfl)
  · intro c hc; simp only [gC_iff, gB_iff]; exact ⟨nOf_in hm100, hc⟩
end
end Go.Proofs.YtnljmpeaeajcoaaGreatDoor

set_option linter.unusedSectionVars false
namespace Go.Proofs.YtnljmpeaeajcoaaGreatDoor
open Go Go.Eng Go.Vi
local instance : Go.Eng.Mode := Sy

theorem ok43 : FnOk Tryz.prog 43 Tryz.f43 := ⟨Tryz.func43, by kernel_rfl, by kernel_rfl⟩
theorem ok44 : FnOk Tryz.prog 44 Tryz.f44 := ⟨Tryz.func44, by kernel_rfl, by kernel_rfl⟩
theorem place_g {v : Nat} {lev : Int} {T : Nat → Gen} (h7 : GSim 23 [.ptr 0 0, .int .i64 (.ofNat 7), .int .i64 lev] v (T 7)) (h3 : GSim 23 [.ptr 0 0, .int .i64 (.ofNat 3), .int .i64 lev] v (T 3)) : GSim 43 [.ptr 0 0, .int .i64 lev] v (plc T) := by
  intro l
  obtain ⟨j, l1, hj⟩ : ∃ j l1, nx 2 l = (j, l1) := ⟨_, _, rfl⟩
  have hj2 : j < 2 := by have := nx_lt (m := 2) l (by omega); rw [hj] at this; exact this
  have hj' : j = 0 ∨ j = 1 := by omega
  rcases hj' with rfl | rfl
  · have e : plc T l = T 7 l1 := by unfold plc; rw [hj]; rfl
    rw [e]
    refine BSim.run hm hX0 (S := [eNext 0 2 l l1 v 0, eG 23 [.ptr 0 0, .int .i64 (.ofNat 7), .int .i64 lev] v (T 7) l1]) (AllOk.mem ⟨eNext_ok hj, eG_ok h7 rfl _, trivial⟩) ok43 (by kernel_rfl) rfl 60 [0]
      (fun I => gC (eNext 0 2 l l1 v 0) (gC (eG 23 [.ptr 0 0, .int .i64 (.ofNat 7), .int .i64 lev] v (T 7) l1) (I (exA (T 7 l1).1) [some (.row (toAVs (cD (T 7 l1).2 v)) false 1)]))) (fun I => by kernel_rfl) ?_
    simp only [gC_iff]
    exact pdec_iff.2 (Leaf.box fun _ _ => .aggs _)
  · have e : plc T l = T 3 l1 := by unfold plc; rw [hj]; rfl
    rw [e]
    refine BSim.run hm hX0 (S := [eNext 0 2 l l1 v 1, eG 23 [.ptr 0 0, .int .i64 (.ofNat 3), .int .i64 lev] v (T 3) l1]) (AllOk.mem ⟨eNext_ok hj, eG_ok h3 rfl _, trivial⟩) ok43 (by kernel_rfl) rfl 60 [0]
      (fun I => gC (eNext 0 2 l l1 v 1) (gC (eG 23 [.ptr 0 0, .int .i64 (.ofNat 3), .int .i64 lev] v (T 3) l1) (I (exA (T 3 l1).1) [some (.row (toAVs (cD (T 3 l1).2 v)) false 1)]))) (fun I => by kernel_rfl) ?_
    simp only [gC_iff]
    exact pdec_iff.2 (Leaf.box fun _ _ => .aggs _)
theorem amount_g {v : Nat} {lev : Int} {T : Nat → Gen} (h6 : GSim 23 [.ptr 0 0, .int .i64 (.ofNat 6), .int .i64 lev] v (T 6)) : GSim 44 [.ptr 0 0, .int .i64 lev] v (amt T) := by
  intro l
  obtain ⟨j, l1, hj⟩ : ∃ j l1, nx 2 l = (j, l1) := ⟨_, _, rfl⟩
  have hj2 : j < 2 := by have := nx_lt (m := 2) l (by omega); rw [hj] at this; exact this
  have hj' : j = 0 ∨ j = 1 := by omega
  rcases hj' with rfl | rfl
  · have e : amt T l = T 6 l1 := by unfold amt; rw [hj]; rfl
    rw [e]
    refine BSim.run hm hX0 (S := [eNext 0 2 l l1 v 0, eG 23 [.ptr 0 0, .int .i64 (.ofNat 6), .int .i64 lev] v (T 6) l1]) (AllOk.mem ⟨eNext_ok hj, eG_ok h6 rfl _, trivial⟩) ok44 (by kernel_rfl) rfl 60 [0]
      (fun I => gC (eNext 0 2 l l1 v 0) (gC (eG 23 [.ptr 0 0, .int .i64 (.ofNat 6), .int .i64 lev] v (T 6) l1) (I (exA (T 6 l1).1) [some (.row (toAVs (cD (T 6 l1).2 v)) false 1)]))) (fun I => by kernel_rfl) ?_
    simp only [gC_iff]
    exact pdec_iff.2 (Leaf.box fun _ _ => .aggs _)
  · have e : amt T l = nu l1 := by unfold amt; rw [hj]; rfl
    rw [e]
    refine BSim.run hm hX0 (S := [eNext 0 2 l l1 v 1, eG 41 [.ptr 0 0] v nu l1]) (AllOk.mem ⟨eNext_ok hj, eG_ok (number_g v) rfl _, trivial⟩) ok44 (by kernel_rfl) rfl 60 [0]
      (fun I => gC (eNext 0 2 l l1 v 1) (gC (eG 41 [.ptr 0 0] v nu l1) (I (exA (nu l1).1) [some (.row (toAVs (cD (nu l1).2 v)) false 1)]))) (fun I => by kernel_rfl) ?_
    simp only [gC_iff]
    exact pdec_iff.2 (Leaf.box fun _ _ => .aggs _)

/-! at most one level -/
section
variable {v : Nat} (hv : v < 3) {T : Nat → Gen}
include hv in
theorem sm_p1_1 (h5 : GSim 23 [.ptr 0 0, .int .i64 (.ofNat 5), .int .i64 (.ofNat 0)] v (T 5)) (l : List UInt8) : BSim Tryz.prog 23 [.ptr 0 0, .int .i64 (.ofNat 1), .int .i64 (.ofNat 1)] [cD l v] [cD (leafOf v T 1 0 l).2 v] (exA (leafOf v T 1 0 l).1) := by
  show BSim Tryz.prog 23 [.ptr 0 0, .int .i64 (.ofNat 1), .int .i64 (.ofNat 1)] [cD l v] [cD ((T 5 l).2) v] (exA (.mk 26 [] Rt.zero [(T 5 l).1]))
  refine node (S := [eG 23 [.ptr 0 0, .int .i64 (.ofNat 5), .int .i64 (.ofNat 0)] v (T 5) (l)]) ⟨eG_ok h5 rfl _, trivial⟩ 26 [(T 5 l).1] 2 (by omega) (fun c => gC (eG 23 [.ptr 0 0, .int .i64 (.ofNat 5), .int .i64 (.ofNat 0)] v (T 5) (l)) (c)) ?_ (fun I => by kernel_rfl)
  intro c hc; simp only [gC_iff, gB_iff]; exact hc
include hv in
theorem sm_p1_2 (l : List UInt8) : BSim Tryz.prog 23 [.ptr 0 0, .int .i64 (.ofNat 2), .int .i64 (.ofNat 1)] [cD l v] [cD (leafOf v T 2 0 l).2 v] (exA (leafOf v T 2 0 l).1) := by
  show BSim Tryz.prog 23 [.ptr 0 0, .int .i64 (.ofNat 2), .int .i64 (.ofNat 1)] [cD l v] [cD (nu l).2 v] (exA (nu l).1)
  refine nodeH (S := [eG 41 [.ptr 0 0] v nu (l)]) ⟨eG_ok (number_g v) rfl _, trivial⟩ _ (fun c => gC (eG 41 [.ptr 0 0] v nu (l)) c) ?_ (fun I => by kernel_rfl)
  intro c hc; simp only [gC_iff, gB_iff]; exact hc
include hv in
theorem sm_p1_3 (l : List UInt8) : BSim Tryz.prog 23 [.ptr 0 0, .int .i64 (.ofNat 3), .int .i64 (.ofNat 1)] [cD l v] [cD (leafOf v T 3 0 l).2 v] (exA (leafOf v T 3 0 l).1) := by
  show BSim Tryz.prog 23 [.ptr 0 0, .int .i64 (.ofNat 3), .int .i64 (.ofNat 1)] [cD l v] [cD ((nu (nu l).2).2) v] (exA (.mk 2 [] Rt.zero [(nu l).1, (nu (nu l).2).1]))
  refine node (S := [eG 41 [.ptr 0 0] v nu (l), eG 41 [.ptr 0 0] v nu ((nu l).2)]) ⟨eG_ok (number_g v) rfl _, eG_ok (number_g v) rfl _, trivial⟩ 2 [(nu l).1, (nu (nu l).2).1] 2 (by omega) (fun c => gC (eG 41 [.ptr 0 0] v nu (l)) (gC (eG 41 [.ptr 0 0] v nu ((nu l).2)) (c))) ?_ (fun I => by kernel_rfl)
  intro c hc; simp only [gC_iff, gB_iff]; exact hc
include hv in
theorem sm_p1_4 (l : List UInt8) : BSim Tryz.prog 23 [.ptr 0 0, .int .i64 (.ofNat 4), .int .i64 (.ofNat 1)] [cD l v] [cD (leafOf v T 4 0 l).2 v] (exA (leafOf v T 4 0 l).1) := by
  show BSim Tryz.prog 23 [.ptr 0 0, .int .i64 (.ofNat 4), .int .i64 (.ofNat 1)] [cD l v] [cD ((nu (nu l).2).2) v] (exA (.mk 6 [] Rt.zero [(nu l).1, (nu (nu l).2).1]))
  refine node (S := [eG 41 [.ptr 0 0] v nu (l), eG 41 [.ptr 0 0] v nu ((nu l).2)]) ⟨eG_ok (number_g v) rfl _, eG_ok (number_g v) rfl _, trivial⟩ 6 [(nu l).1, (nu (nu l).2).1] 2 (by omega) (fun c => gC (eG 41 [.ptr 0 0] v nu (l)) (gC (eG 41 [.ptr 0 0] v nu ((nu l).2)) (c))) ?_ (fun I => by kernel_rfl)
  intro c hc; simp only [gC_iff, gB_iff]; exact hc
include hv in
theorem sm_p1_5 (hp : GSim 43 [.ptr 0 0, .int .i64 (.ofNat 0)] v (plc T)) (l : List UInt8) : BSim Tryz.prog 23 [.ptr 0 0, .int .i64 (.ofNat 5), .int .i64 (.ofNat 1)] [cD l v] [cD (leafOf v T 5 0 l).2 v] (exA (leafOf v T 5 0 l).1) := by
  show BSim Tryz.prog 23 [.ptr 0 0, .int .i64 (.ofNat 5), .int .i64 (.ofNat 1)] [cD l v] [cD ((nu (plc T (pt v l).2).2).2) v] (exA (.mk 15 [] Rt.zero [(pt v l).1, (plc T (pt v l).2).1, (nu (plc T (pt v l).2).2).1]))
  refine node (S := [eG 42 [.ptr 0 0] v (pt v) (l), eG 43 [.ptr 0 0, .int .i64 (.ofNat 0)] v (plc T) ((pt v l).2), eG 41 [.ptr 0 0] v nu ((plc T (pt v l).2).2)]) ⟨eG_ok (point_g v hv) rfl _, eG_ok hp rfl _, eG_ok (number_g v) rfl _, trivial⟩ 15 [(pt v l).1, (plc T (pt v l).2).1, (nu (plc T (pt v l).2).2).1] 2 (by omega) (fun c => gC (eG 42 [.ptr 0 0] v (pt v) (l)) (gC (eG 43 [.ptr 0 0, .int .i64 (.ofNat 0)] v (plc T) ((pt v l).2)) (gC (eG 41 [.ptr 0 0] v nu ((plc T (pt v l).2).2)) (c)))) ?_ (fun I => by kernel_rfl)
  intro c hc; simp only [gC_iff, gB_iff]; exact hc
include hv in
theorem sm_p1_6 (l : List UInt8) : BSim Tryz.prog 23 [.ptr 0 0, .int .i64 (.ofNat 6), .int .i64 (.ofNat 1)] [cD l v] [cD (leafOf v T 6 0 l).2 v] (exA (leafOf v T 6 0 l).1) := by
  show BSim Tryz.prog 23 [.ptr 0 0, .int .i64 (.ofNat 6), .int .i64 (.ofNat 1)] [cD l v] [cD ((pt v l).2) v] (exA (.mk 14 [] Rt.zero [(pt v l).1]))
  refine node (S := [eG 42 [.ptr 0 0] v (pt v) (l)]) ⟨eG_ok (point_g v hv) rfl _, trivial⟩ 14 [(pt v l).1] 2 (by omega) (fun c => gC (eG 42 [.ptr 0 0] v (pt v) (l)) (c)) ?_ (fun I => by kernel_rfl)
  intro c hc; simp only [gC_iff, gB_iff]; exact hc
include hv in
theorem sm_p1_7 (l : List UInt8) : BSim Tryz.prog 23 [.ptr 0 0, .int .i64 (.ofNat 7), .int .i64 (.ofNat 1)] [cD l v] [cD (leafOf v T 7 0 l).2 v] (exA (leafOf v T 7 0 l).1) := by
  show BSim Tryz.prog 23 [.ptr 0 0, .int .i64 (.ofNat 7), .int .i64 (.ofNat 1)] [cD l v] [cD (pt v l).2 v] (exA (pt v l).1)
  refine nodeH (S := [eG 42 [.ptr 0 0] v (pt v) (l)]) ⟨eG_ok (point_g v hv) rfl _, trivial⟩ _ (fun c => gC (eG 42 [.ptr 0 0] v (pt v) (l)) c) ?_ (fun I => by kernel_rfl)
  intro c hc; simp only [gC_iff, gB_iff]; exact hc
include hv in
theorem sm_p1_8 (l : List UInt8) : BSim Tryz.prog 23 [.ptr 0 0, .int .i64 (.ofNat 8), .int .i64 (.ofNat 1)] [cD l v] [cD (leafOf v T 8 0 l).2 v] (exA (leafOf v T 8 0 l).1) := by
  show BSim Tryz.prog 23 [.ptr 0 0, .int .i64 (.ofNat 8), .int .i64 (.ofNat 1)] [cD l v] [cD (zn l).2 v] (exA (zn l).1)
  obtain ⟨j, l1, hj⟩ : ∃ j l1, nx 3 l = (j, l1) := ⟨_, _, rfl⟩
  have hj3 : j < 3 := by have := nx_lt (m := 3) l (by omega); rw [hj] at this; exact this
  have e1 : (zn l).2 = l1 := by unfold zn; rw [hj]
  have e2 : (zn l).1 = exZone j := by unfold zn; rw [hj]
  rw [e1, e2]
  have hj' : j = 0 ∨ j = 1 ∨ j = 2 := by omega
  rcases hj' with rfl | rfl | rfl
  · refine node0 (S := [eNext 0 3 l l1 v 0]) ⟨eNext_ok hj, trivial⟩ 5 (zname 0) Rt.zero (fun c => gC (eNext 0 3 l l1 v 0) c) ?_ (fun I => by kernel_rfl)
    intro c hc; simp only [gC_iff, gB_iff]; exact hc
  · refine node0 (S := [eNext 0 3 l l1 v 1]) ⟨eNext_ok hj, trivial⟩ 5 (zname 1) Rt.zero (fun c => gC (eNext 0 3 l l1 v 1) c) ?_ (fun I => by kernel_rfl)
    intro c hc; simp only [gC_iff, gB_iff]; exact hc
  · refine node0 (S := [eNext 0 3 l l1 v 2]) ⟨eNext_ok hj, trivial⟩ 5 (zname 2) Rt.zero (fun c => gC (eNext 0 3 l l1 v 2) c) ?_ (fun I => by kernel_rfl)
    intro c hc; simp only [gC_iff, gB_iff]; exact hc
include hv in
theorem sm_z0_3 (l : List UInt8) : BSim Tryz.prog 23 [.ptr 0 0, .int .i64 (.ofNat 3), .int .i64 (.ofNat 0)] [cD l v] [cD (leafOf v T 3 0 l).2 v] (exA (leafOf v T 3 0 l).1) := by
  show BSim Tryz.prog 23 [.ptr 0 0, .int .i64 (.ofNat 3), .int .i64 (.ofNat 0)] [cD l v] [cD ((nu (nu l).2).2) v] (exA (.mk 2 [] Rt.zero [(nu l).1, (nu (nu l).2).1]))
  refine node (S := [eG 41 [.ptr 0 0] v nu (l), eG 41 [.ptr 0 0] v nu ((nu l).2)]) ⟨eG_ok (number_g v) rfl _, eG_ok (number_g v) rfl _, trivial⟩ 2 [(nu l).1, (nu (nu l).2).1] 2 (by omega) (fun c => gC (eG 41 [.ptr 0 0] v nu (l)) (gC (eG 41 [.ptr 0 0] v nu ((nu l).2)) (c))) ?_ (fun I => by kernel_rfl)
  intro c hc; simp only [gC_iff, gB_iff]; exact hc
include hv in
theorem sm_z0_5 (hp : GSim 43 [.ptr 0 0, .int .i64 (.negSucc 0)] v (plc T)) (l : List UInt8) : BSim Tryz.prog 23 [.ptr 0 0, .int .i64 (.ofNat 5), .int .i64 (.ofNat 0)] [cD l v] [cD (leafOf v T 5 0 l).2 v] (exA (leafOf v T 5 0 l).1) := by
  show BSim Tryz.prog 23 [.ptr 0 0, .int .i64 (.ofNat 5), .int .i64 (.ofNat 0)] [cD l v] [cD ((nu (plc T (pt v l).2).2).2) v] (exA (.mk 15 [] Rt.zero [(pt v l).1, (plc T (pt v l).2).1, (nu (plc T (pt v l).2).2).1]))
  refine node (S := [eG 42 [.ptr 0 0] v (pt v) (l), eG 43 [.ptr 0 0, .int .i64 (.negSucc 0)] v (plc T) ((pt v l).2), eG 41 [.ptr 0 0] v nu ((plc T (pt v l).2).2)]) ⟨eG_ok (point_g v hv) rfl _, eG_ok hp rfl _, eG_ok (number_g v) rfl _, trivial⟩ 15 [(pt v l).1, (plc T (pt v l).2).1, (nu (plc T (pt v l).2).2).1] 2 (by omega) (fun c => gC (eG 42 [.ptr 0 0] v (pt v) (l)) (gC (eG 43 [.ptr 0 0, .int .i64 (.negSucc 0)] v (plc T) ((pt v l).2)) (gC (eG 41 [.ptr 0 0] v nu ((plc T (pt v l).2).2)) (c)))) ?_ (fun I => by kernel_rfl)
  intro c hc; simp only [gC_iff, gB_iff]; exact hc
include hv in
theorem sm_z0_7 (l : List UInt8) : BSim Tryz.prog 23 [.ptr 0 0, .int .i64 (.ofNat 7), .int .i64 (.ofNat 0)] [cD l v] [cD (leafOf v T 7 0 l).2 v] (exA (leafOf v T 7 0 l).1) := by
  show BSim Tryz.prog 23 [.ptr 0 0, .int .i64 (.ofNat 7), .int .i64 (.ofNat 0)] [cD l v] [cD (pt v l).2 v] (exA (pt v l).1)
  refine nodeH (S := [eG 42 [.ptr 0 0] v (pt v) (l)]) ⟨eG_ok (point_g v hv) rfl _, trivial⟩ _ (fun c => gC (eG 42 [.ptr 0 0] v (pt v) (l)) c) ?_ (fun I => by kernel_rfl)
  intro c hc; simp only [gC_iff, gB_iff]; exact hc
include hv in
theorem sm_m1_3 (l : List UInt8) : BSim Tryz.prog 23 [.ptr 0 0, .int .i64 (.ofNat 3), .int .i64 (.negSucc 0)] [cD l v] [cD (leafOf v T 3 0 l).2 v] (exA (leafOf v T 3 0 l).1) := by
  show BSim Tryz.prog 23 [.ptr 0 0, .int .i64 (.ofNat 3), .int .i64 (.negSucc 0)] [cD l v] [cD ((nu (nu l).2).2) v] (exA (.mk 2 [] Rt.zero [(nu l).1, (nu (nu l).2).1]))
  refine node (S := [eG 41 [.ptr 0 0] v nu (l), eG 41 [.ptr 0 0] v nu ((nu l).2)]) ⟨eG_ok (number_g v) rfl _, eG_ok (number_g v) rfl _, trivial⟩ 2 [(nu l).1, (nu (nu l).2).1] 2 (by omega) (fun c => gC (eG 41 [.ptr 0 0] v nu (l)) (gC (eG 41 [.ptr 0 0] v nu ((nu l).2)) (c))) ?_ (fun I => by kernel_rfl)
  intro c hc; simp only [gC_iff, gB_iff]; exact hc
include hv in
theorem sm_m1_7 (l : List UInt8) : BSim Tryz.prog 23 [.ptr 0 0, .int .i64 (.ofNat 7), .int .i64 (.negSucc 0)] [cD l v] [cD (leafOf v T 7 0 l).2 v] (exA (leafOf v T 7 0 l).1) := by
  show BSim Tryz.prog 23 [.ptr 0 0, .int .i64 (.ofNat 7), .int .i64 (.negSucc 0)] [cD l v] [cD (pt v l).2 v] (exA (pt v l).1)
  refine nodeH (S := [eG 42 [.ptr 0 0] v (pt v) (l)]) ⟨eG_ok (point_g v hv) rfl _, trivial⟩ _ (fun c => gC (eG 42 [.ptr 0 0] v (pt v) (l)) c) ?_ (fun I => by kernel_rfl)
  intro c hc; simp only [gC_iff, gB_iff]; exact hc
end
/-- what typed does at some levels, for some types -/
def Spec (v : Nat) (lev : Int) (T : Nat → Gen) (dom : List Nat) : Prop := ∀ s ∈ dom, GSim 23 [.ptr 0 0, .int .i64 (.ofNat s), .int .i64 lev] v (T s)
theorem spec_m1 {v : Nat} (hv : v < 3) : Spec v (.negSucc 0) (typedM v 0) [3, 7] := by
  intro s hs l
  simp only [List.mem_cons, List.not_mem_nil, or_false] at hs
  rcases hs with rfl | rfl
  · exact sm_m1_3 hv l
  · exact sm_m1_7 hv l
theorem spec_z0 {v : Nat} (hv : v < 3) : Spec v (.ofNat 0) (typedM v 1) [3, 5, 7] := by
  have h := spec_m1 hv
  have hp : GSim 43 [.ptr 0 0, .int .i64 (.negSucc 0)] v (plc (typedM v 0)) := place_g (h 7 (by decide)) (h 3 (by decide))
  intro s hs l
  have e : typedM v 1 s l = leafOf v (typedM v 0) s 0 l := rfl
  rw [e]
  simp only [List.mem_cons, List.not_mem_nil, or_false] at hs
  rcases hs with rfl | rfl | rfl
  · exact sm_z0_3 hv l
  · exact sm_z0_5 hv hp l
  · exact sm_z0_7 hv l
theorem spec_p1 {v : Nat} (hv : v < 3) : Spec v (.ofNat 1) (typedM v 2) [1, 2, 3, 4, 5, 6, 7, 8] := by
  have h := spec_z0 hv
  have hp : GSim 43 [.ptr 0 0, .int .i64 (.ofNat 0)] v (plc (typedM v 1)) := place_g (h 7 (by decide)) (h 3 (by decide))
  intro s hs l
  have e : typedM v 2 s l = leafOf v (typedM v 1) s 0 l := rfl
  rw [e]
  simp only [List.mem_cons, List.not_mem_nil, or_false] at hs
  rcases hs with rfl | rfl | rfl | rfl | rfl | rfl | rfl | rfl
  · exact sm_p1_1 hv (h 5 (by decide)) l
  · exact sm_p1_2 hv l
  · exact sm_p1_3 hv l
  · exact sm_p1_4 hv l
  · exact sm_p1_5 hv hp l
  · exact sm_p1_6 hv l
  · exact sm_p1_7 hv l
  · exact sm_p1_8 hv l
theorem spec_step {m v : Nat} (hm100 : m < 100) (hv : v < 3) {T : Nat → Gen} (h : Spec v (.ofNat (m + 1)) T [1, 2, 3, 4, 5, 6, 7, 8]) :
    Spec v (.ofNat (m + 2)) (fun t l => leafOf v T t (nx 10 l).1 (nx 10 l).2) [1, 2, 3, 4, 5, 6, 7, 8] := by
  rw [← nOf_eq m] at h
  have IP : GSim 43 [.ptr 0 0, .int .i64 (nOf m)] v (plc T) := place_g (h 7 (by decide)) (h 3 (by decide))
  have IA : GSim 44 [.ptr 0 0, .int .i64 (nOf m)] v (amt T) := amount_g (h 6 (by decide))
  intro s hs l
  obtain ⟨k, l0, hk⟩ : ∃ k l0, nx 10 l = (k, l0) := ⟨_, _, rfl⟩
  have hk10 : k < 10 := by have := nx_lt (m := 10) l (by omega); rw [hk] at this; exact this
  have hk' : k = 0 ∨ k = 1 ∨ k = 2 ∨ k = 3 ∨ k = 4 ∨ k = 5 ∨ k = 6 ∨ k = 7 ∨ k = 8 ∨ k = 9 := by omega
  simp only [hk]
  simp only [List.mem_cons, List.not_mem_nil, or_false] at hs
  rcases hs with rfl | rfl | rfl | rfl | rfl | rfl | rfl | rfl
  · rcases hk' with rfl | rfl | rfl | rfl | rfl | rfl | rfl | rfl | rfl | rfl
    · exact ty_1_0 hm100 hv h IP IA hk
    · exact ty_1_1 hm100 hv h IP IA hk
    · exact ty_1_2 hm100 hv h IP IA hk
    · exact ty_1_3 hm100 hv h IP IA hk
    · exact ty_1_4 hm100 hv h IP IA hk
    · exact ty_1_5 hm100 hv h IP IA hk
    · exact ty_1_6 hm100 hv h IP IA hk
    · exact ty_1_7 hm100 hv h IP IA hk
    · exact ty_1_8 hm100 hv h IP IA hk
    · exact ty_1_9 hm100 hv h IP IA hk
  · exact ty_2_x hm100 hv h IP IA hk
  · exact ty_3_x hm100 hv h IP IA hk
  · rcases hk' with rfl | rfl | rfl | rfl | rfl | rfl | rfl | rfl | rfl | rfl
    · exact ty_4_0 hm100 hv h IP IA hk
    · exact ty_4_1 hm100 hv h IP IA hk
    · exact ty_4_2 hm100 hv h IP IA hk
    · exact ty_4_3 hm100 hv h IP IA hk
    · exact ty_4_4 hm100 hv h IP IA hk
    · exact ty_4_5 hm100 hv h IP IA hk
    · exact ty_4_6 hm100 hv h IP IA hk
    · exact ty_4_7 hm100 hv h IP IA hk
    · exact ty_4_8 hm100 hv h IP IA hk
    · exact ty_4_9 hm100 hv h IP IA hk
  · rcases hk' with rfl | rfl | rfl | rfl | rfl | rfl | rfl | rfl | rfl | rfl
    · exact ty_5_0 hm100 hv h IP IA hk
    · exact ty_5_1 hm100 hv h IP IA hk
    · exact ty_5_2 hm100 hv h IP IA hk
    · exact ty_5_3 hm100 hv h IP IA hk
    · exact ty_5_4 hm100 hv h IP IA hk
    · exact ty_5_5 hm100 hv h IP IA hk
    · exact ty_5_6 hm100 hv h IP IA hk
    · exact ty_5_7 hm100 hv h IP IA hk
    · exact ty_5_8 hm100 hv h IP IA hk
    · exact ty_5_9 hm100 hv h IP IA hk
  · rcases hk' with rfl | rfl | rfl | rfl | rfl | rfl | rfl | rfl | rfl | rfl
    · exact ty_6_0 hm100 hv h IP IA hk
    · exact ty_6_1 hm100 hv h IP IA hk
    · exact ty_6_2 hm100 hv h IP IA hk
    · exact ty_6_3 hm100 hv h IP IA hk
    · exact ty_6_4 hm100 hv h IP IA hk
    · exact ty_6_5 hm100 hv h IP IA hk
    · exact ty_6_6 hm100 hv h IP IA hk
    · exact ty_6_7 hm100 hv h IP IA hk
    · exact ty_6_8 hm100 hv h IP IA hk
    · exact ty_6_9 hm100 hv h IP IA hk
  · rcases hk' with rfl | rfl | rfl | rfl | rfl | rfl | rfl | rfl | rfl | rfl
    · exact ty_7_0 hm100 hv h IP IA hk
    · exact ty_7_1 hm100 hv h IP IA hk
    · exact ty_7_2 hm100 hv h IP IA hk
    · exact ty_7_3 hm100 hv h IP IA hk
    · exact ty_7_4 hm100 hv h IP IA hk
    · exact ty_7_5 hm100 hv h IP IA hk
    · exact ty_7_6 hm100 hv h IP IA hk
    · exact ty_7_7 hm100 hv h IP IA hk
    · exact ty_7_8 hm100 hv h IP IA hk
    · exact ty_7_9 hm100 hv h IP IA hk
  · rcases hk' with rfl | rfl | rfl | rfl | rfl | rfl | rfl | rfl | rfl | rfl
    · exact ty_8_0 hm100 hv h IP IA hk
    · exact ty_8_1 hm100 hv h IP IA hk
    · exact ty_8_2 hm100 hv h IP IA hk
    · exact ty_8_3 hm100 hv h IP IA hk
    · exact ty_8_4 hm100 hv h IP IA hk
    · exact ty_8_5 hm100 hv h IP IA hk
    · exact ty_8_6 hm100 hv h IP IA hk
    · exact ty_8_7 hm100 hv h IP IA hk
    · exact ty_8_8 hm100 hv h IP IA hk
    · exact ty_8_9 hm100 hv h IP IA hk
theorem spec_4 {v : Nat} (hv : v < 3) : Spec v (.ofNat 4) (typedM v 5) [1, 2, 3, 4, 5, 6, 7, 8] := by
  have h1 := spec_p1 hv
  have h2 : Spec v (.ofNat 2) (typedM v 3) [1, 2, 3, 4, 5, 6, 7, 8] := spec_step (m := 0) (by omega) hv h1
  have h3 : Spec v (.ofNat 3) (typedM v 4) [1, 2, 3, 4, 5, 6, 7, 8] := spec_step (m := 1) (by omega) hv h2
  exact spec_step (m := 2) (by omega) hv h3
end Go.Proofs.YtnljmpeaeajcoaaGreatDoor

namespace Go.Proofs.YtnljmpeaeajcoaaGreatDoor
open Go Go.Eng Go.Vi
local instance : Go.Eng.Mode := Sy

noncomputable def byteEl (l : List UInt8) : Nat → List Dat := fun i => [.int .u8 (.ofNat (l.getD i 0).toNat)]
noncomputable def codesA (l : List UInt8) : AV := .dslice l.length 1 (byteEl l)
noncomputable def qOf (n : Nat) : Nat := Bool.rec (motive := fun _ => Nat) n 24 (Nat.blt 24 n)
theorem qOf_eq (n : Nat) : qOf n = min 24 n := by
  unfold qOf
  by_cases h : 24 < n
  · have : Nat.blt 24 n = true := by rw [Nat.blt_eq]; exact h
    rw [this]; show 24 = _; omega
  · have : Nat.blt 24 n = false := by
      cases e : Nat.blt 24 n with
      | false => rfl
      | true => rw [Nat.blt_eq] at e; exact absurd e h
    rw [this]; show n = _; omega
theorem ok12 : FnOk Tryz.prog 12 Tryz.f12 := ⟨Tryz.func12, by kernel_rfl, by kernel_rfl⟩
/-- the expression of Typed -/
def typedEx (v t : Nat) (l : List UInt8) : Ex := (typedM v 5 t (l.take 24)).1
noncomputable def eTyped (v t : Nat) (l : List UInt8) : FuncId × SEnt := (23, ⟨[.ptr 1 0, .int .i64 (.ofNat t), .int .i64 (.ofNat 4)], [(1, [.dslice (qOf l.length) 1 (byteEl l), .int .i64 (.ofNat v)], toAVs (cD (typedM v 5 t (l.take 24)).2 v))], exA (typedEx v t l)⟩)
theorem eTyped_ok {v t : Nat} (hv : v < 3) (ht : t ∈ [1, 2, 3, 4, 5, 6, 7, 8]) (l : List UInt8) : SSpec Tryz.prog (eTyped v t l).1 (eTyped v t l).2 := by
  have h := (spec_4 hv t ht (l.take 24)).spec1 1 rfl
  refine SSpec.conv_row h rfl fun ρ vs hvs => ?_
  cases hvs with
  | cons _ x _ xs h1 h2 =>
    refine .cons _ _ _ _ ?_ h2
    have e : qOf l.length = (l.take 24).length := by rw [qOf_eq, List.length_take]
    rw [e] at h1
    refine VRel.dslice_congr h1 fun i hi => ?_
    have hi' : i < 24 := by rw [List.length_take] at hi; omega
    show [Dat.int .u8 (.ofNat (l.getD i 0).toNat)] = [Dat.int .u8 (.ofNat ((l.take 24).getD i 0).toNat)]
    rw [List.getD_eq_getElem?_getD, List.getD_eq_getElem?_getD, List.getElem?_take_of_lt hi']
theorem Typed_c (v t : Nat) (hv : v < 3) (ht : t ∈ [1, 2, 3, 4, 5, 6, 7, 8]) (l : List UInt8) : BSim Tryz.prog 12 [codesA l, .int .i64 (.ofNat t), .int .i64 (.ofNat v)] [] [] (exA (typedEx v t l)) := by
  have key : (∀ I : AV → List (Option Blk) → Bool, Eng.exec Tryz.prog X0 [eTyped v t l] 60 Tryz.f12.ntmps (codeOf Tryz.f12) (mkFr (argSlots [codesA l, .int .i64 (.ofNat t), .int .i64 (.ofNat v)] 0)) (mkMem (rowsOf [])) (fun o fr M => endK o (resK Tryz.prog fr M Tryz.f12.results.toList fun vs => I (oneOf vs) (mv [] M))) =
      gB (Nat.ble (qOf l.length) l.length) (gC (eTyped v t l) (I (exA (typedEx v t l)) []))) → BSim Tryz.prog 12 [codesA l, .int .i64 (.ofNat t), .int .i64 (.ofNat v)] [] [] (exA (typedEx v t l)) := by
    intro hrun
    refine BSim.run hm hX0 (S := [eTyped v t l]) (AllOk.mem ⟨eTyped_ok hv ht l, trivial⟩) ok12 (by kernel_rfl) rfl 60 [] _ hrun ?_
    simp only [gC_iff, gB_iff]
    exact ⟨nble_t (by rw [qOf_eq]; omega), pdec_iff.2 (Leaf.flat fun _ _ => .aggs _)⟩
  simp only [List.mem_cons, List.not_mem_nil, or_false] at ht
  have hv' : v = 0 ∨ v = 1 ∨ v = 2 := by omega
  rcases hv' with rfl | rfl | rfl <;> rcases ht with rfl | rfl | rfl | rfl | rfl | rfl | rfl | rfl <;> exact key (fun I => by kernel_rfl)
end Go.Proofs.YtnljmpeaeajcoaaGreatDoor

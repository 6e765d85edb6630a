/- A part of the proof over this seat's program: the checked evaluator and its soundness, and what it gives here. No condition. -/
import Derived.Test.YtnljmpeaeajcoaaGreatDoorA9
import Derived.Test.YtnljmpeaeajcoaaGreatDoorA8

set_option linter.all false

namespace Go.Proofs.YtnljmpeaeajcoaaGreatDoor
open Go Go.Eng Go.Vi Go.Knuth
local instance : Go.Eng.Mode := Sl
/-! the type of an expression, and the path of an operation with wrong arguments: the walk over the arguments -/
noncomputable def el0 : Nat → List Dat := fun _ => []
noncomputable def pthA (n : Nat) (el : Nat → List Dat) : AV := .dslice n 1 el
noncomputable def ans26 (t n : Nat) (el : Nat → List Dat) (b : Bool) : AV := .tuple [.int .i64 (.ofNat t), pthA n el, .bool b]
noncomputable def ans19 (t n : Nat) (el : Nat → List Dat) : AV := .tuple [.int .i64 (.ofNat t), pthA n el]
noncomputable def e26 (x : Ex) (t n : Nat) (el : Nat → List Dat) (b : Bool) : FuncId × SEnt := (26, ⟨[exA x], [], ans26 t n el b⟩)
noncomputable def e19 (x : Ex) (t n : Nat) (el : Nat → List Dat) : FuncId × SEnt := (19, ⟨[exA x], [], ans19 t n el⟩)
noncomputable def o26 (x : Ex) (t : Nat) : FuncId × SEnt := e26 x (t + 1) 0 el0 true
noncomputable def o19 (x : Ex) (t : Nat) : FuncId × SEnt := e19 x (t + 1) 0 el0
noncomputable def b26 (x : Ex) (n : Nat) (el : Nat → List Dat) : FuncId × SEnt := e26 x 0 n el false
noncomputable def b19 (x : Ex) (n : Nat) (el : Nat → List Dat) : FuncId × SEnt := e19 x 0 n el
noncomputable def d26 : Code := codeOf Tryz.f26
noncomputable def d19 : Code := codeOf Tryz.f19
noncomputable def r26 (S : List (FuncId × SEnt)) (x : Ex) (b : Nat) (I : AV → List (Option Blk) → Bool) : Bool :=
  Eng.exec Tryz.prog X0 S 60 Tryz.f26.ntmps d26 (mkFr (argSlots [exA x] 0)) (mkMem []) (fun o fr M => endK o (resK Tryz.prog fr M Tryz.f26.results.toList fun vs => I (oneOf vs) (mv [b] M)))
noncomputable def r19 (S : List (FuncId × SEnt)) (x : Ex) (b : Nat) (I : AV → List (Option Blk) → Bool) : Bool :=
  Eng.exec Tryz.prog X0 S 60 Tryz.f19.ntmps d19 (mkFr (argSlots [exA x] 0)) (mkMem []) (fun o fr M => endK o (resK Tryz.prog fr M Tryz.f19.results.toList fun vs => I (oneOf vs) (mv [b] M)))
noncomputable def s26 (S : List (FuncId × SEnt)) (x : Ex) (b : Nat) (I : IK) : Bool := Eng.execN Tryz.prog X0 S 60 Tryz.f26.ntmps 3 d26 (mkFr (argSlots [exA x] 0)) (mkMem []) (fun o fr' M' => I o (lv [1, 5] fr') (mv [0, b] M'))
noncomputable def s19 (S : List (FuncId × SEnt)) (x : Ex) (b : Nat) (I : IK) : Bool := Eng.execN Tryz.prog X0 S 60 Tryz.f19.ntmps 3 d19 (mkFr (argSlots [exA x] 0)) (mkMem []) (fun o fr' M' => I o (lv [1, 4] fr') (mv [0, b] M'))
noncomputable def rwT (ts : List Nat) : List AV := ts.map fun t => .int .i64 (.ofNat t)
noncomputable def lf26 (b n : Nat) (op : Bool) (row : List AV) (I : AV → List (Option Blk) → Bool) : Bool := I (.tuple [.int .i64 (.ofNat 0), .slice b 0 n n op, .bool false]) [some (.row row op 1)]
noncomputable def lf19 (b n : Nat) (op : Bool) (row : List AV) (I : AV → List (Option Blk) → Bool) : Bool := I (.tuple [.int .i64 (.ofNat 0), .slice b 0 n n op]) [some (.row row op 1)]
noncomputable def long (n : Nat) (b : Bool) : Bool := gB (Nat.ble (Nat.add 1 n) 9223372036854775807) (gB (Nat.ble (Nat.mul (Nat.add 1 n) 8) 140737488355328) b)
noncomputable def st (x : Ex) (b : Nat) (ts : List Nat) (I : IK) : Bool := I .normal [some (.ptr 0 0), some (.slice b 0 ts.length ts.length true)] [some (.row (toAVs (exD x)) false 1), some (.row (rwT ts) true 1)]
noncomputable def st0 (x : Ex) (I : IK) : Bool := I .normal [some (.ptr 0 0), some .nilSlice] [some (.row (toAVs (exD x)) false 1), none]
noncomputable def full (k : Nat) (b : Bool) : Bool := gateP (Nat.ble (Nat.add k 1) k = false) b

theorem st26_0 (o : Int) (nm : List UInt8) (r : Rt) (I : IK) : s26 [] (.mk o nm r []) 9 I = st0 (.mk o nm r []) I := by kernel_rfl
theorem st26_1 (o : Int) (nm : List UInt8) (r : Rt) (y : Ex) (t : Nat) (I : IK) : s26 [o26 y t] (.mk o nm r [y]) 3 I = gD (o26 y t) (st (.mk o nm r [y]) 3 [t + 1] I) := by kernel_rfl
theorem bd26_1_0_0 (o : Int) (nm : List UInt8) (r : Rt) (y : Ex) (el : Nat → List Dat) (I) : r26 [b26 y 0 el] (.mk o nm r [y]) 2 I = gD (b26 y 0 el) (lf26 2 1 false [.int .i64 (.ofNat 0)] I) := by kernel_rfl
theorem bd26_1_0_1 (o : Int) (nm : List UInt8) (r : Rt) (y : Ex) (el : Nat → List Dat) (I) : r26 [b26 y 1 el] (.mk o nm r [y]) 3 I = gD (b26 y 1 el) (lf26 3 (Nat.add 1 1) true (.int .i64 (.ofNat 0) :: toAVs (firstEls el 1)) I) := by kernel_rfl
theorem bd26_1_0_m (o : Int) (nm : List UInt8) (r : Rt) (y : Ex) (m : Nat) (el : Nat → List Dat) (I) : r26 [b26 y (m + 2) el] (.mk o nm r [y]) 3 I = gD (b26 y (m + 2) el) (long (m + 2) (lf26 3 (Nat.add 1 (m + 2)) true (.int .i64 (.ofNat 0) :: toAVs (firstEls el (m + 2))) I)) := by kernel_rfl
theorem st26_2 (o : Int) (nm : List UInt8) (r : Rt) (y z : Ex) (t t2 : Nat) (I : IK) : s26 [o26 y t, o26 z t2] (.mk o nm r [y, z]) 6 I = gD (o26 y t) (gD (o26 z t2) (full 1 (st (.mk o nm r [y, z]) 6 [t + 1, t2 + 1] I))) := by kernel_rfl
theorem bd26_2_0_0 (o : Int) (nm : List UInt8) (r : Rt) (y z : Ex) (el : Nat → List Dat) (I) : r26 [b26 y 0 el] (.mk o nm r [y, z]) 2 I = gD (b26 y 0 el) (lf26 2 1 false [.int .i64 (.ofNat 0)] I) := by kernel_rfl
theorem bd26_2_0_1 (o : Int) (nm : List UInt8) (r : Rt) (y z : Ex) (el : Nat → List Dat) (I) : r26 [b26 y 1 el] (.mk o nm r [y, z]) 3 I = gD (b26 y 1 el) (lf26 3 (Nat.add 1 1) true (.int .i64 (.ofNat 0) :: toAVs (firstEls el 1)) I) := by kernel_rfl
theorem bd26_2_0_m (o : Int) (nm : List UInt8) (r : Rt) (y z : Ex) (m : Nat) (el : Nat → List Dat) (I) : r26 [b26 y (m + 2) el] (.mk o nm r [y, z]) 3 I = gD (b26 y (m + 2) el) (long (m + 2) (lf26 3 (Nat.add 1 (m + 2)) true (.int .i64 (.ofNat 0) :: toAVs (firstEls el (m + 2))) I)) := by kernel_rfl
theorem bd26_2_1_0 (o : Int) (nm : List UInt8) (r : Rt) (y z : Ex) (t : Nat) (el : Nat → List Dat) (I) : r26 [o26 y t, b26 z 0 el] (.mk o nm r [y, z]) 5 I = gD (o26 y t) (gD (b26 z 0 el) (lf26 5 1 false [.int .i64 (.ofNat 1)] I)) := by kernel_rfl
theorem bd26_2_1_1 (o : Int) (nm : List UInt8) (r : Rt) (y z : Ex) (t : Nat) (el : Nat → List Dat) (I) : r26 [o26 y t, b26 z 1 el] (.mk o nm r [y, z]) 6 I = gD (o26 y t) (gD (b26 z 1 el) (lf26 6 (Nat.add 1 1) true (.int .i64 (.ofNat 1) :: toAVs (firstEls el 1)) I)) := by kernel_rfl
theorem bd26_2_1_m (o : Int) (nm : List UInt8) (r : Rt) (y z : Ex) (t : Nat) (m : Nat) (el : Nat → List Dat) (I) : r26 [o26 y t, b26 z (m + 2) el] (.mk o nm r [y, z]) 6 I = gD (o26 y t) (gD (b26 z (m + 2) el) (long (m + 2) (lf26 6 (Nat.add 1 (m + 2)) true (.int .i64 (.ofNat 1) :: toAVs (firstEls el (m + 2))) I))) := by kernel_rfl
theorem st26_3 (o : Int) (nm : List UInt8) (r : Rt) (y z u : Ex) (t t2 t3 : Nat) (I : IK) : s26 [o26 y t, o26 z t2, o26 u t3] (.mk o nm r [y, z, u]) 9 I = gD (o26 y t) (gD (o26 z t2) (full 1 (gD (o26 u t3) (full 2 (st (.mk o nm r [y, z, u]) 9 [t + 1, t2 + 1, t3 + 1] I))))) := by kernel_rfl
theorem bd26_3_0_0 (o : Int) (nm : List UInt8) (r : Rt) (y z u : Ex) (el : Nat → List Dat) (I) : r26 [b26 y 0 el] (.mk o nm r [y, z, u]) 2 I = gD (b26 y 0 el) (lf26 2 1 false [.int .i64 (.ofNat 0)] I) := by kernel_rfl
theorem bd26_3_0_1 (o : Int) (nm : List UInt8) (r : Rt) (y z u : Ex) (el : Nat → List Dat) (I) : r26 [b26 y 1 el] (.mk o nm r [y, z, u]) 3 I = gD (b26 y 1 el) (lf26 3 (Nat.add 1 1) true (.int .i64 (.ofNat 0) :: toAVs (firstEls el 1)) I) := by kernel_rfl
theorem bd26_3_0_m (o : Int) (nm : List UInt8) (r : Rt) (y z u : Ex) (m : Nat) (el : Nat → List Dat) (I) : r26 [b26 y (m + 2) el] (.mk o nm r [y, z, u]) 3 I = gD (b26 y (m + 2) el) (long (m + 2) (lf26 3 (Nat.add 1 (m + 2)) true (.int .i64 (.ofNat 0) :: toAVs (firstEls el (m + 2))) I)) := by kernel_rfl
theorem bd26_3_1_0 (o : Int) (nm : List UInt8) (r : Rt) (y z u : Ex) (t : Nat) (el : Nat → List Dat) (I) : r26 [o26 y t, b26 z 0 el] (.mk o nm r [y, z, u]) 5 I = gD (o26 y t) (gD (b26 z 0 el) (lf26 5 1 false [.int .i64 (.ofNat 1)] I)) := by kernel_rfl
theorem bd26_3_1_1 (o : Int) (nm : List UInt8) (r : Rt) (y z u : Ex) (t : Nat) (el : Nat → List Dat) (I) : r26 [o26 y t, b26 z 1 el] (.mk o nm r [y, z, u]) 6 I = gD (o26 y t) (gD (b26 z 1 el) (lf26 6 (Nat.add 1 1) true (.int .i64 (.ofNat 1) :: toAVs (firstEls el 1)) I)) := by kernel_rfl
theorem bd26_3_1_m (o : Int) (nm : List UInt8) (r : Rt) (y z u : Ex) (t : Nat) (m : Nat) (el : Nat → List Dat) (I) : r26 [o26 y t, b26 z (m + 2) el] (.mk o nm r [y, z, u]) 6 I = gD (o26 y t) (gD (b26 z (m + 2) el) (long (m + 2) (lf26 6 (Nat.add 1 (m + 2)) true (.int .i64 (.ofNat 1) :: toAVs (firstEls el (m + 2))) I))) := by kernel_rfl
theorem bd26_3_2_0 (o : Int) (nm : List UInt8) (r : Rt) (y z u : Ex) (t t2 : Nat) (el : Nat → List Dat) (I) : r26 [o26 y t, o26 z t2, b26 u 0 el] (.mk o nm r [y, z, u]) 8 I = gD (o26 y t) (gD (o26 z t2) (full 1 (gD (b26 u 0 el) (lf26 8 1 false [.int .i64 (.ofNat 2)] I)))) := by kernel_rfl
theorem bd26_3_2_1 (o : Int) (nm : List UInt8) (r : Rt) (y z u : Ex) (t t2 : Nat) (el : Nat → List Dat) (I) : r26 [o26 y t, o26 z t2, b26 u 1 el] (.mk o nm r [y, z, u]) 9 I = gD (o26 y t) (gD (o26 z t2) (full 1 (gD (b26 u 1 el) (lf26 9 (Nat.add 1 1) true (.int .i64 (.ofNat 2) :: toAVs (firstEls el 1)) I)))) := by kernel_rfl
theorem bd26_3_2_m (o : Int) (nm : List UInt8) (r : Rt) (y z u : Ex) (t t2 : Nat) (m : Nat) (el : Nat → List Dat) (I) : r26 [o26 y t, o26 z t2, b26 u (m + 2) el] (.mk o nm r [y, z, u]) 9 I = gD (o26 y t) (gD (o26 z t2) (full 1 (gD (b26 u (m + 2) el) (long (m + 2) (lf26 9 (Nat.add 1 (m + 2)) true (.int .i64 (.ofNat 2) :: toAVs (firstEls el (m + 2))) I))))) := by kernel_rfl
theorem st19_0 (o : Int) (nm : List UInt8) (r : Rt) (I : IK) : s19 [] (.mk o nm r []) 9 I = st0 (.mk o nm r []) I := by kernel_rfl
theorem st19_1 (o : Int) (nm : List UInt8) (r : Rt) (y : Ex) (t : Nat) (I : IK) : s19 [o19 y t] (.mk o nm r [y]) 2 I = gD (o19 y t) (st (.mk o nm r [y]) 2 [t + 1] I) := by kernel_rfl
theorem bd19_1_0_0 (o : Int) (nm : List UInt8) (r : Rt) (y : Ex) (el : Nat → List Dat) (I) : r19 [b19 y 0 el] (.mk o nm r [y]) 1 I = gD (b19 y 0 el) (lf19 1 1 false [.int .i64 (.ofNat 0)] I) := by kernel_rfl
theorem bd19_1_0_1 (o : Int) (nm : List UInt8) (r : Rt) (y : Ex) (el : Nat → List Dat) (I) : r19 [b19 y 1 el] (.mk o nm r [y]) 2 I = gD (b19 y 1 el) (lf19 2 (Nat.add 1 1) true (.int .i64 (.ofNat 0) :: toAVs (firstEls el 1)) I) := by kernel_rfl
theorem bd19_1_0_m (o : Int) (nm : List UInt8) (r : Rt) (y : Ex) (m : Nat) (el : Nat → List Dat) (I) : r19 [b19 y (m + 2) el] (.mk o nm r [y]) 2 I = gD (b19 y (m + 2) el) (long (m + 2) (lf19 2 (Nat.add 1 (m + 2)) true (.int .i64 (.ofNat 0) :: toAVs (firstEls el (m + 2))) I)) := by kernel_rfl
theorem st19_2 (o : Int) (nm : List UInt8) (r : Rt) (y z : Ex) (t t2 : Nat) (I : IK) : s19 [o19 y t, o19 z t2] (.mk o nm r [y, z]) 4 I = gD (o19 y t) (gD (o19 z t2) (full 1 (st (.mk o nm r [y, z]) 4 [t + 1, t2 + 1] I))) := by kernel_rfl
theorem bd19_2_0_0 (o : Int) (nm : List UInt8) (r : Rt) (y z : Ex) (el : Nat → List Dat) (I) : r19 [b19 y 0 el] (.mk o nm r [y, z]) 1 I = gD (b19 y 0 el) (lf19 1 1 false [.int .i64 (.ofNat 0)] I) := by kernel_rfl
theorem bd19_2_0_1 (o : Int) (nm : List UInt8) (r : Rt) (y z : Ex) (el : Nat → List Dat) (I) : r19 [b19 y 1 el] (.mk o nm r [y, z]) 2 I = gD (b19 y 1 el) (lf19 2 (Nat.add 1 1) true (.int .i64 (.ofNat 0) :: toAVs (firstEls el 1)) I) := by kernel_rfl
theorem bd19_2_0_m (o : Int) (nm : List UInt8) (r : Rt) (y z : Ex) (m : Nat) (el : Nat → List Dat) (I) : r19 [b19 y (m + 2) el] (.mk o nm r [y, z]) 2 I = gD (b19 y (m + 2) el) (long (m + 2) (lf19 2 (Nat.add 1 (m + 2)) true (.int .i64 (.ofNat 0) :: toAVs (firstEls el (m + 2))) I)) := by kernel_rfl
theorem bd19_2_1_0 (o : Int) (nm : List UInt8) (r : Rt) (y z : Ex) (t : Nat) (el : Nat → List Dat) (I) : r19 [o19 y t, b19 z 0 el] (.mk o nm r [y, z]) 3 I = gD (o19 y t) (gD (b19 z 0 el) (lf19 3 1 false [.int .i64 (.ofNat 1)] I)) := by kernel_rfl
theorem bd19_2_1_1 (o : Int) (nm : List UInt8) (r : Rt) (y z : Ex) (t : Nat) (el : Nat → List Dat) (I) : r19 [o19 y t, b19 z 1 el] (.mk o nm r [y, z]) 4 I = gD (o19 y t) (gD (b19 z 1 el) (lf19 4 (Nat.add 1 1) true (.int .i64 (.ofNat 1) :: toAVs (firstEls el 1)) I)) := by kernel_rfl
theorem bd19_2_1_m (o : Int) (nm : List UInt8) (r : Rt) (y z : Ex) (t : Nat) (m : Nat) (el : Nat → List Dat) (I) : r19 [o19 y t, b19 z (m + 2) el] (.mk o nm r [y, z]) 4 I = gD (o19 y t) (gD (b19 z (m + 2) el) (long (m + 2) (lf19 4 (Nat.add 1 (m + 2)) true (.int .i64 (.ofNat 1) :: toAVs (firstEls el (m + 2))) I))) := by kernel_rfl
theorem st19_3 (o : Int) (nm : List UInt8) (r : Rt) (y z u : Ex) (t t2 t3 : Nat) (I : IK) : s19 [o19 y t, o19 z t2, o19 u t3] (.mk o nm r [y, z, u]) 6 I = gD (o19 y t) (gD (o19 z t2) (full 1 (gD (o19 u t3) (full 2 (st (.mk o nm r [y, z, u]) 6 [t + 1, t2 + 1, t3 + 1] I))))) := by kernel_rfl
theorem bd19_3_0_0 (o : Int) (nm : List UInt8) (r : Rt) (y z u : Ex) (el : Nat → List Dat) (I) : r19 [b19 y 0 el] (.mk o nm r [y, z, u]) 1 I = gD (b19 y 0 el) (lf19 1 1 false [.int .i64 (.ofNat 0)] I) := by kernel_rfl
theorem bd19_3_0_1 (o : Int) (nm : List UInt8) (r : Rt) (y z u : Ex) (el : Nat → List Dat) (I) : r19 [b19 y 1 el] (.mk o nm r [y, z, u]) 2 I = gD (b19 y 1 el) (lf19 2 (Nat.add 1 1) true (.int .i64 (.ofNat 0) :: toAVs (firstEls el 1)) I) := by kernel_rfl
theorem bd19_3_0_m (o : Int) (nm : List UInt8) (r : Rt) (y z u : Ex) (m : Nat) (el : Nat → List Dat) (I) : r19 [b19 y (m + 2) el] (.mk o nm r [y, z, u]) 2 I = gD (b19 y (m + 2) el) (long (m + 2) (lf19 2 (Nat.add 1 (m + 2)) true (.int .i64 (.ofNat 0) :: toAVs (firstEls el (m + 2))) I)) := by kernel_rfl
theorem bd19_3_1_0 (o : Int) (nm : List UInt8) (r : Rt) (y z u : Ex) (t : Nat) (el : Nat → List Dat) (I) : r19 [o19 y t, b19 z 0 el] (.mk o nm r [y, z, u]) 3 I = gD (o19 y t) (gD (b19 z 0 el) (lf19 3 1 false [.int .i64 (.ofNat 1)] I)) := by kernel_rfl
theorem bd19_3_1_1 (o : Int) (nm : List UInt8) (r : Rt) (y z u : Ex) (t : Nat) (el : Nat → List Dat) (I) : r19 [o19 y t, b19 z 1 el] (.mk o nm r [y, z, u]) 4 I = gD (o19 y t) (gD (b19 z 1 el) (lf19 4 (Nat.add 1 1) true (.int .i64 (.ofNat 1) :: toAVs (firstEls el 1)) I)) := by kernel_rfl
theorem bd19_3_1_m (o : Int) (nm : List UInt8) (r : Rt) (y z u : Ex) (t : Nat) (m : Nat) (el : Nat → List Dat) (I) : r19 [o19 y t, b19 z (m + 2) el] (.mk o nm r [y, z, u]) 4 I = gD (o19 y t) (gD (b19 z (m + 2) el) (long (m + 2) (lf19 4 (Nat.add 1 (m + 2)) true (.int .i64 (.ofNat 1) :: toAVs (firstEls el (m + 2))) I))) := by kernel_rfl
theorem bd19_3_2_0 (o : Int) (nm : List UInt8) (r : Rt) (y z u : Ex) (t t2 : Nat) (el : Nat → List Dat) (I) : r19 [o19 y t, o19 z t2, b19 u 0 el] (.mk o nm r [y, z, u]) 5 I = gD (o19 y t) (gD (o19 z t2) (full 1 (gD (b19 u 0 el) (lf19 5 1 false [.int .i64 (.ofNat 2)] I)))) := by kernel_rfl
theorem bd19_3_2_1 (o : Int) (nm : List UInt8) (r : Rt) (y z u : Ex) (t t2 : Nat) (el : Nat → List Dat) (I) : r19 [o19 y t, o19 z t2, b19 u 1 el] (.mk o nm r [y, z, u]) 6 I = gD (o19 y t) (gD (o19 z t2) (full 1 (gD (b19 u 1 el) (lf19 6 (Nat.add 1 1) true (.int .i64 (.ofNat 2) :: toAVs (firstEls el 1)) I)))) := by kernel_rfl
theorem bd19_3_2_m (o : Int) (nm : List UInt8) (r : Rt) (y z u : Ex) (t t2 : Nat) (m : Nat) (el : Nat → List Dat) (I) : r19 [o19 y t, o19 z t2, b19 u (m + 2) el] (.mk o nm r [y, z, u]) 6 I = gD (o19 y t) (gD (o19 z t2) (full 1 (gD (b19 u (m + 2) el) (long (m + 2) (lf19 6 (Nat.add 1 (m + 2)) true (.int .i64 (.ofNat 2) :: toAVs (firstEls el (m + 2))) I))))) := by kernel_rfl
end Go.Proofs.YtnljmpeaeajcoaaGreatDoor

namespace Go.Proofs.YtnljmpeaeajcoaaGreatDoor
open Go Go.Eng Go.Vi Go.Knuth
local instance : Go.Eng.Mode := Sl
/-! the families, in one -/
theorem fam2_of {A : Nat → Nat → Bool} {T : Nat → List Nat → Bool} {os : List Nat} (ha : ∀ y, fam2a A T y os = true) (hb : fam2b A T os = true) {o x y : Nat} (ho : o ∈ os) (hx : x ∈ tys) (hy : y ∈ tys) : T o [x, y] = true := by
  have h1 := List.all_eq_true.1 (List.all_eq_true.1 (ha y) o ho) x hx
  have h2 := List.all_eq_true.1 (List.all_eq_true.1 hb o ho) x hx
  cases hA : A o x with
  | false => rw [hA] at h1; simpa using h1
  | true =>
    rw [hA] at h2
    simp only [Bool.not_true, Bool.false_or] at h2
    exact List.all_eq_true.1 h2 y hy
theorem fam3_of {T : Nat → List Nat → Bool} (ha : ∀ y z, fam3a T y z = true) (hb : ∀ z, fam3b T z = true) (hc : fam3c T = true) {x y z : Nat} (hx : x ∈ tys) (hy : y ∈ tys) (hz : z ∈ tys) : T 15 [x, y, z] = true := by
  have h1 := List.all_eq_true.1 (ha y z) x hx
  cases hA : Nat.beq x 7 with
  | false => rw [hA] at h1; simpa using h1
  | true =>
    obtain rfl := Nat.eq_of_beq_eq_true hA
    have h2 := List.all_eq_true.1 (hb z) y hy
    have h3 := List.all_eq_true.1 hc y hy
    cases hB : ac2 y with
    | false => rw [hB] at h2; simpa using h2
    | true =>
      rw [hB] at h3
      simp only [Bool.not_true, Bool.false_or] at h3
      exact List.all_eq_true.1 h3 z hz
theorem ops_of {o : Nat} (h1 : 1 ≤ o) (h2 : o ≤ 30) (h : nArgs o = 2) : o ∈ ops1 ∨ o ∈ ops2 ∨ o ∈ ops3 ∨ o ∈ ops4 ∨ o ∈ ops5 := by
  have : ∀ o : Nat, o < 31 → 1 ≤ o → nArgs o = 2 → o ∈ ops1 ++ (ops2 ++ (ops3 ++ (ops4 ++ ops5))) := by decide
  have := this o (by omega) h1 h
  simpa only [List.mem_append] using this
theorem ops1_of {o : Nat} (h1 : 1 ≤ o) (h2 : o ≤ 30) (h : nArgs o = 1) : o ∈ [10, 11, 14, 17, 25, 26, 27] := by
  have : ∀ o : Nat, o < 31 → 1 ≤ o → nArgs o = 1 → o ∈ [10, 11, 14, 17, 25, 26, 27] := by decide
  exact this o (by omega) h1 h
theorem ops0_of {o : Nat} (h1 : 1 ≤ o) (h2 : o ≤ 30) (h : nArgs o = 0) : o ∈ [1, 3, 4, 5] := by
  have : ∀ o : Nat, o < 31 → 1 ≤ o → nArgs o = 0 → o ∈ [1, 3, 4, 5] := by decide
  exact this o (by omega) h1 h
theorem ops3_of {o : Nat} (h1 : 1 ≤ o) (h2 : o ≤ 30) (h : nArgs o = 3) : o = 15 := by
  have : ∀ o : Nat, o < 31 → 1 ≤ o → nArgs o = 3 → o = 15 := by decide
  exact this o (by omega) h1 h
theorem tail_ok {T : Nat → List Nat → Bool} {A : Nat → Nat → Bool} (t0 : fam0 T = true) (t1 : fam1 T = true)
    (a1 : ∀ y, fam2a A T y ops1 = true) (b1 : fam2b A T ops1 = true) (a2 : ∀ y, fam2a A T y ops2 = true) (b2 : fam2b A T ops2 = true) (a3 : ∀ y, fam2a A T y ops3 = true) (b3 : fam2b A T ops3 = true)
    (a4 : ∀ y, fam2a A T y ops4 = true) (b4 : fam2b A T ops4 = true) (a5 : ∀ y, fam2a A T y ops5 = true) (b5 : fam2b A T ops5 = true) (c1 : ∀ y z, fam3a T y z = true) (c2 : ∀ z, fam3b T z = true) (c3 : fam3c T = true)
    {o : Nat} (h1 : 1 ≤ o) (h2 : o ≤ 30) {ts : List Nat} (hl : ts.length = nArgs o) (hts : ∀ t ∈ ts, t ∈ tys) : T o ts = true := by
  rcases ts with _ | ⟨x, _ | ⟨y, _ | ⟨z, _ | ⟨u, l⟩⟩⟩⟩
  · exact List.all_eq_true.1 t0 o (ops0_of h1 h2 hl.symm)
  · exact List.all_eq_true.1 (List.all_eq_true.1 t1 o (ops1_of h1 h2 hl.symm)) x (hts x (by simp))
  · have hx := hts x (by simp)
    have hy := hts y (by simp)
    rcases ops_of h1 h2 hl.symm with h | h | h | h | h
    · exact fam2_of a1 b1 h hx hy
    · exact fam2_of a2 b2 h hx hy
    · exact fam2_of a3 b3 h hx hy
    · exact fam2_of a4 b4 h hx hy
    · exact fam2_of a5 b5 h hx hy
  · obtain rfl := ops3_of h1 h2 hl.symm
    exact fam3_of c1 c2 c3 (hts x (by simp)) (hts y (by simp)) (hts z (by simp))
  · have := nArgs_le o
    simp at hl; omega
theorem tail26_ok {o : Nat} (h1 : 1 ≤ o) (h2 : o ≤ 30) {ts : List Nat} (hl : ts.length = nArgs o) (hts : ∀ t ∈ ts, t ∈ tys) (n : List UInt8) (r : Rt) (a : List Ex) : tail26 o n r a ts = true :=
  tail_ok (T := fun o ts => tail26 o n r a ts) (t26_0 n r a) (t26_1 n r a) (t26_2a1 n r a) (t26_2b1 n r a) (t26_2a2 n r a) (t26_2b2 n r a) (t26_2a3 n r a) (t26_2b3 n r a) (t26_2a4 n r a) (t26_2b4 n r a) (t26_2a5 n r a) (t26_2b5 n r a) (t26_3a n r a) (t26_3b n r a) (t26_3c n r a) h1 h2 hl hts
theorem tail19_ok {o : Nat} (h1 : 1 ≤ o) (h2 : o ≤ 30) {ts : List Nat} (hl : ts.length = nArgs o) (hts : ∀ t ∈ ts, t ∈ tys) (n : List UInt8) (r : Rt) (a : List Ex) : tail19 o n r a ts = true :=
  tail_ok (T := fun o ts => tail19 o n r a ts) (t19_0 n r a) (t19_1 n r a) (t19_2a1 n r a) (t19_2b1 n r a) (t19_2a2 n r a) (t19_2b2 n r a) (t19_2a3 n r a) (t19_2b3 n r a) (t19_2a4 n r a) (t19_2b4 n r a) (t19_2a5 n r a) (t19_2b5 n r a) (t19_3a n r a) (t19_3b n r a) (t19_3c n r a) h1 h2 hl hts
theorem whenN_le {b : Bool} {t : Nat} (h : t ≤ 8) : whenN b t ≤ 8 := by unfold whenN; cases b <;> simp [h]
theorem resN_le (o : Nat) {x : Nat} (y z : Nat) (hx : x ≤ 8) : resN o x y z ≤ 8 := by
  unfold resN
  repeat' first | exact whenN_le hx | exact whenN_le (by decide) | decide | (rw [cond_eq_ite]; split)
/-! the paths -/
def PathOk (n : Nat) (el : Nat → List Dat) : Prop := ∀ i, i < n → (el i).length = 1
noncomputable def chop (D : List Dat) (j : Nat) : List Dat := (D.drop j).take 1
theorem chop_ok (D : List Dat) : PathOk D.length (chop D) := by
  intro i hi
  unfold chop
  rw [List.length_take, List.length_drop]
  omega
theorem chop_fz {M : Mem} {b cap : Nat} {op op' : Bool} {sz : Nat} {D : List Dat} (hb : M.t.get b = some (.row (toAVs D) op' sz)) (hc : D.length ≤ cap) : FzD 0 M (.slice b 0 D.length cap op) (.slice D.length 1 (chop D)) := by
  refine .slice b 0 _ _ op _ op' sz 1 _ (Nat.zero_le _) hb hc (by rw [toAVs_length]; omega) fun i hi => ?_
  rw [Nat.zero_add, Nat.mul_one, toAVs_drop, toAVs_take]
  exact FzDs.sames _
end Go.Proofs.YtnljmpeaeajcoaaGreatDoor

namespace Go.Proofs.YtnljmpeaeajcoaaGreatDoor
open Go Go.Eng Go.Vi Go.Knuth
local instance : Go.Eng.Mode := Sl
theorem okT26 : FnOk Tryz.prog 26 Tryz.f26 := ⟨Tryz.func26, by kernel_rfl, by kernel_rfl⟩
theorem ok19 : FnOk Tryz.prog 19 Tryz.f19 := ⟨Tryz.func19, by kernel_rfl, by kernel_rfl⟩
def TyR (x : Ex) (t : Nat) : Prop := if t = 0 then ∃ n el, n ≤ x.size ∧ PathOk n el ∧ BSim Tryz.prog 26 [exA x] [] [] (ans26 0 n el false) else BSim Tryz.prog 26 [exA x] [] [] (ans26 t 0 el0 true)
def ToR (x : Ex) (t : Nat) : Prop := if t = 0 then ∃ n el, n ≤ x.size ∧ PathOk n el ∧ BSim Tryz.prog 19 [exA x] [] [] (ans19 0 n el) else BSim Tryz.prog 19 [exA x] [] [] (ans19 t 0 el0)
theorem pathA (M : Mem) (el : Nat → List Dat) : FzA 0 M .nilSlice (pthA 0 el) := .dat _ (.slice 0 1 el) (.nil _ _)
theorem tail26_fin {o : Nat} (h1 : 1 ≤ o) (h2 : o ≤ 30) {ts : List Nat} (hl : ts.length = nArgs o) (hts : ∀ t ∈ ts, t ∈ tys) (n : List UInt8) (r : Rt) (a : List Ex) :
    W Tryz.prog Tryz.f26.ntmps 0 (post 3 d26) (mkFr [(1, .ptr 0 0), (5, argT ts)]) (mkMem (rowsT o n r a ts)) (Fin Tryz.prog Tryz.f26 0 [] (ans26 (resL o ts) 0 el0 (Nat.blt 0 (resL o ts)))) := by
  refine W.fin hm hX0l (S := []) (fun _ h => by cases h) 100 (fun v _ => beqT v (.tuple [.int .i64 (.ofNat (resL o ts)), .nilSlice, .bool (Nat.blt 0 (resL o ts))])) (tail26_ok h1 h2 hl hts n r a) fun v M' h => ?_
  obtain rfl := beqT_sound h
  exact ⟨.tuple _ _ (.cons _ _ _ _ (.plain (.int .i64 _)) (.cons _ _ _ _ (pathA M' el0) (.cons _ _ _ _ (.plain (.bool _)) .nil))), fun j r hj => by simp at hj⟩
theorem tail19_fin {o : Nat} (h1 : 1 ≤ o) (h2 : o ≤ 30) {ts : List Nat} (hl : ts.length = nArgs o) (hts : ∀ t ∈ ts, t ∈ tys) (n : List UInt8) (r : Rt) (a : List Ex) :
    W Tryz.prog Tryz.f19.ntmps 0 (post 3 d19) (mkFr [(1, .ptr 0 0), (4, argT ts)]) (mkMem (rowsT o n r a ts)) (Fin Tryz.prog Tryz.f19 0 [] (ans19 (resL o ts) 0 el0)) := by
  refine W.fin hm hX0l (S := []) (fun _ h => by cases h) 100 (fun v _ => beqT v (.tuple [.int .i64 (.ofNat (resL o ts)), .nilSlice])) (tail19_ok h1 h2 hl hts n r a) fun v M' h => ?_
  obtain rfl := beqT_sound h
  exact ⟨.tuple _ _ (.cons _ _ _ _ (.plain (.int .i64 _)) (.cons _ _ _ _ (pathA M' el0) .nil)), fun j r hj => by simp at hj⟩
theorem tyR_of {x : Ex} {t : Nat} (h : BSim Tryz.prog 26 [exA x] [] [] (ans26 t 0 el0 (Nat.blt 0 t))) : TyR x t := by
  unfold TyR
  by_cases h0 : t = 0
  · subst h0; rw [if_pos rfl]; exact ⟨0, el0, Nat.zero_le _, fun i hi => by omega, h⟩
  · rw [if_neg h0]
    have : Nat.blt 0 t = true := by rw [Nat.blt_eq]; omega
    rwa [this] at h
theorem toR_of {x : Ex} {t : Nat} (h : BSim Tryz.prog 19 [exA x] [] [] (ans19 t 0 el0)) : ToR x t := by
  unfold ToR
  by_cases h0 : t = 0
  · subst h0; rw [if_pos rfl]; exact ⟨0, el0, Nat.zero_le _, fun i hi => by omega, h⟩
  · rw [if_neg h0]; exact h
/-- all arguments have types: the operation's -/
theorem good26 {o : Nat} (h1 : 1 ≤ o) (h2 : o ≤ 30) {ts : List Nat} (hl : ts.length = nArgs o) (hts : ∀ t ∈ ts, t ∈ tys) {n : List UInt8} {r : Rt} {a : List Ex} {S : List (FuncId × SEnt)} (hS : AllOk S) (b : Nat) (hb : b ≠ 0)
    (T : Bool → Bool) (hT : ∀ c, c = true → T c = true) (hrun : ∀ I : IK, s26 S (.mk (.ofNat o) n r a) b I = T (bif ts.isEmpty then st0 (.mk (.ofNat o) n r a) I else st (.mk (.ofNat o) n r a) b ts I)) (hb9 : ts = [] → b = 9) : TyR (.mk (.ofNat o) n r a) (resL o ts) := by
  refine tyR_of (BSim.of_W okT26.at_ (codeOf_some okT26.body) okT26.name (nble_le (by kernel_rfl)) rfl ?_)
  refine W.runN hm hX0l hS.mem 60 3 [1, 5] [0, b] (fun I => T (bif ts.isEmpty then st0 (.mk (.ofNat o) n r a) I else st (.mk (.ofNat o) n r a) b ts I)) hrun (hT _ ?_)
  cases ts with
  | nil =>
    refine pdec_iff.2 fun fr M hv hM => ?_
    have hM0 : mv [0] M = [some (.row (toAVs (exD (.mk (.ofNat o) n r a))) false 1)] := by
      show [M.t.get 0] = _
      rw [(mv_two hM).1]
    refine W.next0 (vs := [.ptr 0 0, .nilSlice]) (bs := [.row (toAVs (exD (.mk (.ofNat o) n r a))) false 1]) (π := [0]) hv hM0 [(1, .ptr 0 0), (5, argT [])] (rowsT o n r a []) rfl rfl ?_ (show okPi 0 [0] 1 = true by decide) (tail26_fin h1 h2 hl hts n r a)
    show [renB [0] (.row (toAVs (exD (.mk (.ofNat o) n r a))) false 1)] = _
    rw [renB_data]; rfl
  | cons t ts =>
    refine pdec_iff.2 fun fr M hv hM => ?_
    refine W.next0 (vs := [.ptr 0 0, .slice b 0 (t :: ts).length (t :: ts).length true]) (bs := [.row (toAVs (exD (.mk (.ofNat o) n r a))) false 1, .row (rwT (t :: ts)) true 1]) (π := [0, b]) hv hM [(1, .ptr 0 0), (5, argT (t :: ts))] (rowsT o n r a (t :: ts)) rfl rfl ?_ ?_ (tail26_fin h1 h2 hl hts n r a)
    · show [renB [0, b] (.row (toAVs (exD (.mk (.ofNat o) n r a))) false 1), renB [0, b] (.row (rowT (t :: ts)) true 1)] = _
      have e : rowT (t :: ts) = toAVs ((t :: ts).map fun t => .int .i64 (.ofNat t)) := by
        unfold rowT
        generalize t :: ts = l
        induction l with
        | nil => rfl
        | cons u l ih => exact congrArg _ ih
      rw [renB_data, e, renB_data, ← e]; rfl
    · show okPi 0 [0, b] 2 = true
      unfold okPi
      simp [Ne.symm hb]
theorem good19 {o : Nat} (h1 : 1 ≤ o) (h2 : o ≤ 30) {ts : List Nat} (hl : ts.length = nArgs o) (hts : ∀ t ∈ ts, t ∈ tys) {n : List UInt8} {r : Rt} {a : List Ex} {S : List (FuncId × SEnt)} (hS : AllOk S) (b : Nat) (hb : b ≠ 0)
    (T : Bool → Bool) (hT : ∀ c, c = true → T c = true) (hrun : ∀ I : IK, s19 S (.mk (.ofNat o) n r a) b I = T (bif ts.isEmpty then st0 (.mk (.ofNat o) n r a) I else st (.mk (.ofNat o) n r a) b ts I)) (hb9 : ts = [] → b = 9) : ToR (.mk (.ofNat o) n r a) (resL o ts) := by
  refine toR_of (BSim.of_W ok19.at_ (codeOf_some ok19.body) ok19.name (nble_le (by kernel_rfl)) rfl ?_)
  refine W.runN hm hX0l hS.mem 60 3 [1, 4] [0, b] (fun I => T (bif ts.isEmpty then st0 (.mk (.ofNat o) n r a) I else st (.mk (.ofNat o) n r a) b ts I)) hrun (hT _ ?_)
  cases ts with
  | nil =>
    refine pdec_iff.2 fun fr M hv hM => ?_
    have hM0 : mv [0] M = [some (.row (toAVs (exD (.mk (.ofNat o) n r a))) false 1)] := by
      show [M.t.get 0] = _
      rw [(mv_two hM).1]
    refine W.next0 (vs := [.ptr 0 0, .nilSlice]) (bs := [.row (toAVs (exD (.mk (.ofNat o) n r a))) false 1]) (π := [0]) hv hM0 [(1, .ptr 0 0), (4, argT [])] (rowsT o n r a []) rfl rfl ?_ (show okPi 0 [0] 1 = true by decide) (tail19_fin h1 h2 hl hts n r a)
    show [renB [0] (.row (toAVs (exD (.mk (.ofNat o) n r a))) false 1)] = _
    rw [renB_data]; rfl
  | cons t ts =>
    refine pdec_iff.2 fun fr M hv hM => ?_
    refine W.next0 (vs := [.ptr 0 0, .slice b 0 (t :: ts).length (t :: ts).length true]) (bs := [.row (toAVs (exD (.mk (.ofNat o) n r a))) false 1, .row (rwT (t :: ts)) true 1]) (π := [0, b]) hv hM [(1, .ptr 0 0), (4, argT (t :: ts))] (rowsT o n r a (t :: ts)) rfl rfl ?_ ?_ (tail19_fin h1 h2 hl hts n r a)
    · show [renB [0, b] (.row (toAVs (exD (.mk (.ofNat o) n r a))) false 1), renB [0, b] (.row (rowT (t :: ts)) true 1)] = _
      have e : rowT (t :: ts) = toAVs ((t :: ts).map fun t => .int .i64 (.ofNat t)) := by
        unfold rowT
        generalize t :: ts = l
        induction l with
        | nil => rfl
        | cons u l ih => exact congrArg _ ih
      rw [renB_data, e, renB_data, ← e]; rfl
    · show okPi 0 [0, b] 2 = true
      unfold okPi
      simp [Ne.symm hb]
/-! an argument has no type -/
theorem size_mk (o : Int) (nm : List UInt8) (r : Rt) (a : List Ex) : (Ex.mk o nm r a).size = 1 + sizeL a := by simp [Ex.size]
theorem bad26_of {x : Ex} {S : List (FuncId × SEnt)} (hS : AllOk S) (b N : Nat) (op : Bool) (D : List Dat) (hN : N = D.length) (hx : N ≤ x.size) (T : Bool → Bool) (hT : ∀ c, c = true → T c = true) (hrun : ∀ I, r26 S x b I = T (lf26 b N op (toAVs D) I)) :
    ∃ n el, n ≤ x.size ∧ PathOk n el ∧ BSim Tryz.prog 26 [exA x] [] [] (ans26 0 n el false) := by
  subst hN
  refine ⟨D.length, chop D, hx, chop_ok D, BSim.run hm hX0l hS.mem okT26 (by kernel_rfl) rfl 60 [b] (fun I => T (lf26 b D.length op (toAVs D) I)) hrun (hT _ (pdec_iff.2 (Leaf.flat fun M' hM' => ?_)))⟩
  have hb : M'.t.get b = some (.row (toAVs D) op 1) := (List.cons.inj hM').1
  exact .tuple _ _ (.cons _ _ _ _ (.plain (.int .i64 _)) (.cons _ _ _ _ (.dat _ (.slice D.length 1 (chop D)) (chop_fz hb (Nat.le_refl _))) (.cons _ _ _ _ (.plain (.bool _)) .nil)))
theorem bad19_of {x : Ex} {S : List (FuncId × SEnt)} (hS : AllOk S) (b N : Nat) (op : Bool) (D : List Dat) (hN : N = D.length) (hx : N ≤ x.size) (T : Bool → Bool) (hT : ∀ c, c = true → T c = true) (hrun : ∀ I, r19 S x b I = T (lf19 b N op (toAVs D) I)) :
    ∃ n el, n ≤ x.size ∧ PathOk n el ∧ BSim Tryz.prog 19 [exA x] [] [] (ans19 0 n el) := by
  subst hN
  refine ⟨D.length, chop D, hx, chop_ok D, BSim.run hm hX0l hS.mem ok19 (by kernel_rfl) rfl 60 [b] (fun I => T (lf19 b D.length op (toAVs D) I)) hrun (hT _ (pdec_iff.2 (Leaf.flat fun M' hM' => ?_)))⟩
  have hb : M'.t.get b = some (.row (toAVs D) op 1) := (List.cons.inj hM').1
  exact .tuple _ _ (.cons _ _ _ _ (.plain (.int .i64 _)) (.cons _ _ _ _ (.dat _ (.slice D.length 1 (chop D)) (chop_fz hb (Nat.le_refl _))) .nil))
theorem long_of {n : Nat} (hn : n < 1000000) {b : Bool} (h : b = true) : long n b = true := by
  unfold long
  rw [gB_iff, gB_iff]
  refine ⟨?_, ?_, h⟩
  · rw [Nat.ble_eq]; show 1 + n ≤ _; omega
  · rw [Nat.ble_eq]; show (1 + n) * 8 ≤ _; omega
theorem full_of {k : Nat} (hk : k ≤ 100) {b : Bool} (h : b = true) : full k b = true := by
  unfold full
  rw [gateP_iff]
  exact ⟨by rw [← Bool.not_eq_true, Nat.ble_eq]; exact Nat.not_succ_le_self _, h⟩
theorem path_len {n : Nat} {el : Nat → List Dat} (h : PathOk n el) : (firstEls el n).length = n := by rw [firstEls_length n h, Nat.mul_one]
end Go.Proofs.YtnljmpeaeajcoaaGreatDoor

namespace Go.Proofs.YtnljmpeaeajcoaaGreatDoor
open Go Go.Eng Go.Vi Go.Knuth
local instance : Go.Eng.Mode := Sl
theorem bad26_1_0 {o : Int} {nm : List UInt8} {r : Rt} {y : Ex} {n : Nat} {el : Nat → List Dat} (hb : BSim Tryz.prog 26 [exA y] [] [] (ans26 0 n el false)) (hp : PathOk n el) (hn : n ≤ y.size) (hz : (Ex.mk o nm r [y]).size < 1000000) : ∃ n2 el2, n2 ≤ (Ex.mk o nm r [y]).size ∧ PathOk n2 el2 ∧ BSim Tryz.prog 26 [exA (.mk o nm r [y])] [] [] (ans26 0 n2 el2 false) := by
  have hs : n + 1 ≤ (Ex.mk o nm r [y]).size := by rw [size_mk]; simp only [sizeL]; omega
  rcases n with _ | _ | m
  · exact bad26_of (S := [b26 y 0 el]) ⟨hb.spec0 rfl, trivial⟩ 2 1 false [.int .i64 (.ofNat 0)] rfl (by omega) (fun c => gD (b26 y 0 el) (c)) (fun c hc => gD_iff.2 (hc)) (bd26_1_0_0 o nm r y  el)
  · exact bad26_of (S := [b26 y 1 el]) ⟨hb.spec0 rfl, trivial⟩ 3 (Nat.add 1 1) true (.int .i64 (.ofNat 0) :: firstEls el 1) (by rw [List.length_cons, path_len hp]) (by show 1 + 1 ≤ _; omega) (fun c => gD (b26 y 1 el) (c)) (fun c hc => gD_iff.2 (hc)) (bd26_1_0_1 o nm r y  el)
  · exact bad26_of (S := [b26 y (m + 2) el]) ⟨hb.spec0 rfl, trivial⟩ 3 (Nat.add 1 (m + 2)) true (.int .i64 (.ofNat 0) :: firstEls el (m + 2)) (by rw [List.length_cons, path_len hp]; show 1 + (m + 2) = _; omega) (by show 1 + (m + 2) ≤ _; omega) (fun c => gD (b26 y (m + 2) el) (long (m + 2) c)) (fun c hc => gD_iff.2 (long_of (by omega) hc)) (bd26_1_0_m o nm r y  m el)
theorem bad26_2_0 {o : Int} {nm : List UInt8} {r : Rt} {y z : Ex} {n : Nat} {el : Nat → List Dat} (hb : BSim Tryz.prog 26 [exA y] [] [] (ans26 0 n el false)) (hp : PathOk n el) (hn : n ≤ y.size) (hz : (Ex.mk o nm r [y, z]).size < 1000000) : ∃ n2 el2, n2 ≤ (Ex.mk o nm r [y, z]).size ∧ PathOk n2 el2 ∧ BSim Tryz.prog 26 [exA (.mk o nm r [y, z])] [] [] (ans26 0 n2 el2 false) := by
  have hs : n + 1 ≤ (Ex.mk o nm r [y, z]).size := by rw [size_mk]; simp only [sizeL]; omega
  rcases n with _ | _ | m
  · exact bad26_of (S := [b26 y 0 el]) ⟨hb.spec0 rfl, trivial⟩ 2 1 false [.int .i64 (.ofNat 0)] rfl (by omega) (fun c => gD (b26 y 0 el) (c)) (fun c hc => gD_iff.2 (hc)) (bd26_2_0_0 o nm r y z  el)
  · exact bad26_of (S := [b26 y 1 el]) ⟨hb.spec0 rfl, trivial⟩ 3 (Nat.add 1 1) true (.int .i64 (.ofNat 0) :: firstEls el 1) (by rw [List.length_cons, path_len hp]) (by show 1 + 1 ≤ _; omega) (fun c => gD (b26 y 1 el) (c)) (fun c hc => gD_iff.2 (hc)) (bd26_2_0_1 o nm r y z  el)
  · exact bad26_of (S := [b26 y (m + 2) el]) ⟨hb.spec0 rfl, trivial⟩ 3 (Nat.add 1 (m + 2)) true (.int .i64 (.ofNat 0) :: firstEls el (m + 2)) (by rw [List.length_cons, path_len hp]; show 1 + (m + 2) = _; omega) (by show 1 + (m + 2) ≤ _; omega) (fun c => gD (b26 y (m + 2) el) (long (m + 2) c)) (fun c hc => gD_iff.2 (long_of (by omega) hc)) (bd26_2_0_m o nm r y z  m el)
theorem bad26_2_1 {o : Int} {nm : List UInt8} {r : Rt} {y z : Ex} {t : Nat} {n : Nat} {el : Nat → List Dat} (h0 : BSim Tryz.prog 26 [exA y] [] [] (ans26 (t + 1) 0 el0 true)) (hb : BSim Tryz.prog 26 [exA z] [] [] (ans26 0 n el false)) (hp : PathOk n el) (hn : n ≤ z.size) (hz : (Ex.mk o nm r [y, z]).size < 1000000) : ∃ n2 el2, n2 ≤ (Ex.mk o nm r [y, z]).size ∧ PathOk n2 el2 ∧ BSim Tryz.prog 26 [exA (.mk o nm r [y, z])] [] [] (ans26 0 n2 el2 false) := by
  have hs : n + 1 ≤ (Ex.mk o nm r [y, z]).size := by rw [size_mk]; simp only [sizeL]; omega
  rcases n with _ | _ | m
  · exact bad26_of (S := [o26 y t, b26 z 0 el]) ⟨h0.spec0 rfl, hb.spec0 rfl, trivial⟩ 5 1 false [.int .i64 (.ofNat 1)] rfl (by omega) (fun c => gD (o26 y t) (gD (b26 z 0 el) (c))) (fun c hc => gD_iff.2 (gD_iff.2 (hc))) (bd26_2_1_0 o nm r y z t el)
  · exact bad26_of (S := [o26 y t, b26 z 1 el]) ⟨h0.spec0 rfl, hb.spec0 rfl, trivial⟩ 6 (Nat.add 1 1) true (.int .i64 (.ofNat 1) :: firstEls el 1) (by rw [List.length_cons, path_len hp]) (by show 1 + 1 ≤ _; omega) (fun c => gD (o26 y t) (gD (b26 z 1 el) (c))) (fun c hc => gD_iff.2 (gD_iff.2 (hc))) (bd26_2_1_1 o nm r y z t el)
  · exact bad26_of (S := [o26 y t, b26 z (m + 2) el]) ⟨h0.spec0 rfl, hb.spec0 rfl, trivial⟩ 6 (Nat.add 1 (m + 2)) true (.int .i64 (.ofNat 1) :: firstEls el (m + 2)) (by rw [List.length_cons, path_len hp]; show 1 + (m + 2) = _; omega) (by show 1 + (m + 2) ≤ _; omega) (fun c => gD (o26 y t) (gD (b26 z (m + 2) el) (long (m + 2) c))) (fun c hc => gD_iff.2 (gD_iff.2 (long_of (by omega) hc))) (bd26_2_1_m o nm r y z t m el)
theorem bad26_3_0 {o : Int} {nm : List UInt8} {r : Rt} {y z u : Ex} {n : Nat} {el : Nat → List Dat} (hb : BSim Tryz.prog 26 [exA y] [] [] (ans26 0 n el false)) (hp : PathOk n el) (hn : n ≤ y.size) (hz : (Ex.mk o nm r [y, z, u]).size < 1000000) : ∃ n2 el2, n2 ≤ (Ex.mk o nm r [y, z, u]).size ∧ PathOk n2 el2 ∧ BSim Tryz.prog 26 [exA (.mk o nm r [y, z, u])] [] [] (ans26 0 n2 el2 false) := by
  have hs : n + 1 ≤ (Ex.mk o nm r [y, z, u]).size := by rw [size_mk]; simp only [sizeL]; omega
  rcases n with _ | _ | m
  · exact bad26_of (S := [b26 y 0 el]) ⟨hb.spec0 rfl, trivial⟩ 2 1 false [.int .i64 (.ofNat 0)] rfl (by omega) (fun c => gD (b26 y 0 el) (c)) (fun c hc => gD_iff.2 (hc)) (bd26_3_0_0 o nm r y z u  el)
  · exact bad26_of (S := [b26 y 1 el]) ⟨hb.spec0 rfl, trivial⟩ 3 (Nat.add 1 1) true (.int .i64 (.ofNat 0) :: firstEls el 1) (by rw [List.length_cons, path_len hp]) (by show 1 + 1 ≤ _; omega) (fun c => gD (b26 y 1 el) (c)) (fun c hc => gD_iff.2 (hc)) (bd26_3_0_1 o nm r y z u  el)
  · exact bad26_of (S := [b26 y (m + 2) el]) ⟨hb.spec0 rfl, trivial⟩ 3 (Nat.add 1 (m + 2)) true (.int .i64 (.ofNat 0) :: firstEls el (m + 2)) (by rw [List.length_cons, path_len hp]; show 1 + (m + 2) = _; omega) (by show 1 + (m + 2) ≤ _; omega) (fun c => gD (b26 y (m + 2) el) (long (m + 2) c)) (fun c hc => gD_iff.2 (long_of (by omega) hc)) (bd26_3_0_m o nm r y z u  m el)
theorem bad26_3_1 {o : Int} {nm : List UInt8} {r : Rt} {y z u : Ex} {t : Nat} {n : Nat} {el : Nat → List Dat} (h0 : BSim Tryz.prog 26 [exA y] [] [] (ans26 (t + 1) 0 el0 true)) (hb : BSim Tryz.prog 26 [exA z] [] [] (ans26 0 n el false)) (hp : PathOk n el) (hn : n ≤ z.size) (hz : (Ex.mk o nm r [y, z, u]).size < 1000000) : ∃ n2 el2, n2 ≤ (Ex.mk o nm r [y, z, u]).size ∧ PathOk n2 el2 ∧ BSim Tryz.prog 26 [exA (.mk o nm r [y, z, u])] [] [] (ans26 0 n2 el2 false) := by
  have hs : n + 1 ≤ (Ex.mk o nm r [y, z, u]).size := by rw [size_mk]; simp only [sizeL]; omega
  rcases n with _ | _ | m
  · exact bad26_of (S := [o26 y t, b26 z 0 el]) ⟨h0.spec0 rfl, hb.spec0 rfl, trivial⟩ 5 1 false [.int .i64 (.ofNat 1)] rfl (by omega) (fun c => gD (o26 y t) (gD (b26 z 0 el) (c))) (fun c hc => gD_iff.2 (gD_iff.2 (hc))) (bd26_3_1_0 o nm r y z u t el)
  · exact bad26_of (S := [o26 y t, b26 z 1 el]) ⟨h0.spec0 rfl, hb.spec0 rfl, trivial⟩ 6 (Nat.add 1 1) true (.int .i64 (.ofNat 1) :: firstEls el 1) (by rw [List.length_cons, path_len hp]) (by show 1 + 1 ≤ _; omega) (fun c => gD (o26 y t) (gD (b26 z 1 el) (c))) (fun c hc => gD_iff.2 (gD_iff.2 (hc))) (bd26_3_1_1 o nm r y z u t el)
  · exact bad26_of (S := [o26 y t, b26 z (m + 2) el]) ⟨h0.spec0 rfl, hb.spec0 rfl, trivial⟩ 6 (Nat.add 1 (m + 2)) true (.int .i64 (.ofNat 1) :: firstEls el (m + 2)) (by rw [List.length_cons, path_len hp]; show 1 + (m + 2) = _; omega) (by show 1 + (m + 2) ≤ _; omega) (fun c => gD (o26 y t) (gD (b26 z (m + 2) el) (long (m + 2) c))) (fun c hc => gD_iff.2 (gD_iff.2 (long_of (by omega) hc))) (bd26_3_1_m o nm r y z u t m el)
theorem bad26_3_2 {o : Int} {nm : List UInt8} {r : Rt} {y z u : Ex} {t t2 : Nat} {n : Nat} {el : Nat → List Dat} (h0 : BSim Tryz.prog 26 [exA y] [] [] (ans26 (t + 1) 0 el0 true)) (h1 : BSim Tryz.prog 26 [exA z] [] [] (ans26 (t2 + 1) 0 el0 true)) (hb : BSim Tryz.prog 26 [exA u] [] [] (ans26 0 n el false)) (hp : PathOk n el) (hn : n ≤ u.size) (hz : (Ex.mk o nm r [y, z, u]).size < 1000000) : ∃ n2 el2, n2 ≤ (Ex.mk o nm r [y, z, u]).size ∧ PathOk n2 el2 ∧ BSim Tryz.prog 26 [exA (.mk o nm r [y, z, u])] [] [] (ans26 0 n2 el2 false) := by
  have hs : n + 1 ≤ (Ex.mk o nm r [y, z, u]).size := by rw [size_mk]; simp only [sizeL]; omega
  rcases n with _ | _ | m
  · exact bad26_of (S := [o26 y t, o26 z t2, b26 u 0 el]) ⟨h0.spec0 rfl, h1.spec0 rfl, hb.spec0 rfl, trivial⟩ 8 1 false [.int .i64 (.ofNat 2)] rfl (by omega) (fun c => gD (o26 y t) (gD (o26 z t2) (full 1 (gD (b26 u 0 el) (c))))) (fun c hc => gD_iff.2 (gD_iff.2 (full_of (by decide) (gD_iff.2 (hc))))) (bd26_3_2_0 o nm r y z u t t2 el)
  · exact bad26_of (S := [o26 y t, o26 z t2, b26 u 1 el]) ⟨h0.spec0 rfl, h1.spec0 rfl, hb.spec0 rfl, trivial⟩ 9 (Nat.add 1 1) true (.int .i64 (.ofNat 2) :: firstEls el 1) (by rw [List.length_cons, path_len hp]) (by show 1 + 1 ≤ _; omega) (fun c => gD (o26 y t) (gD (o26 z t2) (full 1 (gD (b26 u 1 el) (c))))) (fun c hc => gD_iff.2 (gD_iff.2 (full_of (by decide) (gD_iff.2 (hc))))) (bd26_3_2_1 o nm r y z u t t2 el)
  · exact bad26_of (S := [o26 y t, o26 z t2, b26 u (m + 2) el]) ⟨h0.spec0 rfl, h1.spec0 rfl, hb.spec0 rfl, trivial⟩ 9 (Nat.add 1 (m + 2)) true (.int .i64 (.ofNat 2) :: firstEls el (m + 2)) (by rw [List.length_cons, path_len hp]; show 1 + (m + 2) = _; omega) (by show 1 + (m + 2) ≤ _; omega) (fun c => gD (o26 y t) (gD (o26 z t2) (full 1 (gD (b26 u (m + 2) el) (long (m + 2) c))))) (fun c hc => gD_iff.2 (gD_iff.2 (full_of (by decide) (gD_iff.2 (long_of (by omega) hc))))) (bd26_3_2_m o nm r y z u t t2 m el)
theorem bad19_1_0 {o : Int} {nm : List UInt8} {r : Rt} {y : Ex} {n : Nat} {el : Nat → List Dat} (hb : BSim Tryz.prog 19 [exA y] [] [] (ans19 0 n el)) (hp : PathOk n el) (hn : n ≤ y.size) (hz : (Ex.mk o nm r [y]).size < 1000000) : ∃ n2 el2, n2 ≤ (Ex.mk o nm r [y]).size ∧ PathOk n2 el2 ∧ BSim Tryz.prog 19 [exA (.mk o nm r [y])] [] [] (ans19 0 n2 el2) := by
  have hs : n + 1 ≤ (Ex.mk o nm r [y]).size := by rw [size_mk]; simp only [sizeL]; omega
  rcases n with _ | _ | m
  · exact bad19_of (S := [b19 y 0 el]) ⟨hb.spec0 rfl, trivial⟩ 1 1 false [.int .i64 (.ofNat 0)] rfl (by omega) (fun c => gD (b19 y 0 el) (c)) (fun c hc => gD_iff.2 (hc)) (bd19_1_0_0 o nm r y  el)
  · exact bad19_of (S := [b19 y 1 el]) ⟨hb.spec0 rfl, trivial⟩ 2 (Nat.add 1 1) true (.int .i64 (.ofNat 0) :: firstEls el 1) (by rw [List.length_cons, path_len hp]) (by show 1 + 1 ≤ _; omega) (fun c => gD (b19 y 1 el) (c)) (fun c hc => gD_iff.2 (hc)) (bd19_1_0_1 o nm r y  el)
  · exact bad19_of (S := [b19 y (m + 2) el]) ⟨hb.spec0 rfl, trivial⟩ 2 (Nat.add 1 (m + 2)) true (.int .i64 (.ofNat 0) :: firstEls el (m + 2)) (by rw [List.length_cons, path_len hp]; show 1 + (m + 2) = _; omega) (by show 1 + (m + 2) ≤ _; omega) (fun c => gD (b19 y (m + 2) el) (long (m + 2) c)) (fun c hc => gD_iff.2 (long_of (by omega) hc)) (bd19_1_0_m o nm r y  m el)
theorem bad19_2_0 {o : Int} {nm : List UInt8} {r : Rt} {y z : Ex} {n : Nat} {el : Nat → List Dat} (hb : BSim Tryz.prog 19 [exA y] [] [] (ans19 0 n el)) (hp : PathOk n el) (hn : n ≤ y.size) (hz : (Ex.mk o nm r [y, z]).size < 1000000) : ∃ n2 el2, n2 ≤ (Ex.mk o nm r [y, z]).size ∧ PathOk n2 el2 ∧ BSim Tryz.prog 19 [exA (.mk o nm r [y, z])] [] [] (ans19 0 n2 el2) := by
  have hs : n + 1 ≤ (Ex.mk o nm r [y, z]).size := by rw [size_mk]; simp only [sizeL]; omega
  rcases n with _ | _ | m
  · exact bad19_of (S := [b19 y 0 el]) ⟨hb.spec0 rfl, trivial⟩ 1 1 false [.int .i64 (.ofNat 0)] rfl (by omega) (fun c => gD (b19 y 0 el) (c)) (fun c hc => gD_iff.2 (hc)) (bd19_2_0_0 o nm r y z  el)
  · exact bad19_of (S := [b19 y 1 el]) ⟨hb.spec0 rfl, trivial⟩ 2 (Nat.add 1 1) true (.int .i64 (.ofNat 0) :: firstEls el 1) (by rw [List.length_cons, path_len hp]) (by show 1 + 1 ≤ _; omega) (fun c => gD (b19 y 1 el) (c)) (fun c hc => gD_iff.2 (hc)) (bd19_2_0_1 o nm r y z  el)
  · exact bad19_of (S := [b19 y (m + 2) el]) ⟨hb.spec0 rfl, trivial⟩ 2 (Nat.add 1 (m + 2)) true (.int .i64 (.ofNat 0) :: firstEls el (m + 2)) (by rw [List.length_cons, path_len hp]; show 1 + (m + 2) = _; omega) (by show 1 + (m + 2) ≤ _; omega) (fun c => gD (b19 y (m + 2) el) (long (m + 2) c)) (fun c hc => gD_iff.2 (long_of (by omega) hc)) (bd19_2_0_m o nm r y z  m el)
theorem bad19_2_1 {o : Int} {nm : List UInt8} {r : Rt} {y z : Ex} {t : Nat} {n : Nat} {el : Nat → List Dat} (h0 : BSim Tryz.prog 19 [exA y] [] [] (ans19 (t + 1) 0 el0)) (hb : BSim Tryz.prog 19 [exA z] [] [] (ans19 0 n el)) (hp : PathOk n el) (hn : n ≤ z.size) (hz : (Ex.mk o nm r [y, z]).size < 1000000) : ∃ n2 el2, n2 ≤ (Ex.mk o nm r [y, z]).size ∧ PathOk n2 el2 ∧ BSim Tryz.prog 19 [exA (.mk o nm r [y, z])] [] [] (ans19 0 n2 el2) := by
  have hs : n + 1 ≤ (Ex.mk o nm r [y, z]).size := by rw [size_mk]; simp only [sizeL]; omega
  rcases n with _ | _ | m
  · exact bad19_of (S := [o19 y t, b19 z 0 el]) ⟨h0.spec0 rfl, hb.spec0 rfl, trivial⟩ 3 1 false [.int .i64 (.ofNat 1)] rfl (by omega) (fun c => gD (o19 y t) (gD (b19 z 0 el) (c))) (fun c hc => gD_iff.2 (gD_iff.2 (hc))) (bd19_2_1_0 o nm r y z t el)
  · exact bad19_of (S := [o19 y t, b19 z 1 el]) ⟨h0.spec0 rfl, hb.spec0 rfl, trivial⟩ 4 (Nat.add 1 1) true (.int .i64 (.ofNat 1) :: firstEls el 1) (by rw [List.length_cons, path_len hp]) (by show 1 + 1 ≤ _; omega) (fun c => gD (o19 y t) (gD (b19 z 1 el) (c))) (fun c hc => gD_iff.2 (gD_iff.2 (hc))) (bd19_2_1_1 o nm r y z t el)
  · exact bad19_of (S := [o19 y t, b19 z (m + 2) el]) ⟨h0.spec0 rfl, hb.spec0 rfl, trivial⟩ 4 (Nat.add 1 (m + 2)) true (.int .i64 (.ofNat 1) :: firstEls el (m + 2)) (by rw [List.length_cons, path_len hp]; show 1 + (m + 2) = _; omega) (by show 1 + (m + 2) ≤ _; omega) (fun c => gD (o19 y t) (gD (b19 z (m + 2) el) (long (m + 2) c))) (fun c hc => gD_iff.2 (gD_iff.2 (long_of (by omega) hc))) (bd19_2_1_m o nm r y z t m el)
theorem bad19_3_0 {o : Int} {nm : List UInt8} {r : Rt} {y z u : Ex} {n : Nat} {el : Nat → List Dat} (hb : BSim Tryz.prog 19 [exA y] [] [] (ans19 0 n el)) (hp : PathOk n el) (hn : n ≤ y.size) (hz : (Ex.mk o nm r [y, z, u]).size < 1000000) : ∃ n2 el2, n2 ≤ (Ex.mk o nm r [y, z, u]).size ∧ PathOk n2 el2 ∧ BSim Tryz.prog 19 [exA (.mk o nm r [y, z, u])] [] [] (ans19 0 n2 el2) := by
  have hs : n + 1 ≤ (Ex.mk o nm r [y, z, u]).size := by rw [size_mk]; simp only [sizeL]; omega
  rcases n with _ | _ | m
  · exact bad19_of (S := [b19 y 0 el]) ⟨hb.spec0 rfl, trivial⟩ 1 1 false [.int .i64 (.ofNat 0)] rfl (by omega) (fun c => gD (b19 y 0 el) (c)) (fun c hc => gD_iff.2 (hc)) (bd19_3_0_0 o nm r y z u  el)
  · exact bad19_of (S := [b19 y 1 el]) ⟨hb.spec0 rfl, trivial⟩ 2 (Nat.add 1 1) true (.int .i64 (.ofNat 0) :: firstEls el 1) (by rw [List.length_cons, path_len hp]) (by show 1 + 1 ≤ _; omega) (fun c => gD (b19 y 1 el) (c)) (fun c hc => gD_iff.2 (hc)) (bd19_3_0_1 o nm r y z u  el)
  · exact bad19_of (S := [b19 y (m + 2) el]) ⟨hb.spec0 rfl, trivial⟩ 2 (Nat.add 1 (m + 2)) true (.int .i64 (.ofNat 0) :: firstEls el (m + 2)) (by rw [List.length_cons, path_len hp]; show 1 + (m + 2) = _; omega) (by show 1 + (m + 2) ≤ _; omega) (fun c => gD (b19 y (m + 2) el) (long (m + 2) c)) (fun c hc => gD_iff.2 (long_of (by omega) hc)) (bd19_3_0_m o nm r y z u  m el)
theorem bad19_3_1 {o : Int} {nm : List UInt8} {r : Rt} {y z u : Ex} {t : Nat} {n : Nat} {el : Nat → List Dat} (h0 : BSim Tryz.prog 19 [exA y] [] [] (ans19 (t + 1) 0 el0)) (hb : BSim Tryz.prog 19 [exA z] [] [] (ans19 0 n el)) (hp : PathOk n el) (hn : n ≤ z.size) (hz : (Ex.mk o nm r [y, z, u]).size < 1000000) : ∃ n2 el2, n2 ≤ (Ex.mk o nm r [y, z, u]).size ∧ PathOk n2 el2 ∧ BSim Tryz.prog 19 [exA (.mk o nm r [y, z, u])] [] [] (ans19 0 n2 el2) := by
  have hs : n + 1 ≤ (Ex.mk o nm r [y, z, u]).size := by rw [size_mk]; simp only [sizeL]; omega
  rcases n with _ | _ | m
  · exact bad19_of (S := [o19 y t, b19 z 0 el]) ⟨h0.spec0 rfl, hb.spec0 rfl, trivial⟩ 3 1 false [.int .i64 (.ofNat 1)] rfl (by omega) (fun c => gD (o19 y t) (gD (b19 z 0 el) (c))) (fun c hc => gD_iff.2 (gD_iff.2 (hc))) (bd19_3_1_0 o nm r y z u t el)
  · exact bad19_of (S := [o19 y t, b19 z 1 el]) ⟨h0.spec0 rfl, hb.spec0 rfl, trivial⟩ 4 (Nat.add 1 1) true (.int .i64 (.ofNat 1) :: firstEls el 1) (by rw [List.length_cons, path_len hp]) (by show 1 + 1 ≤ _; omega) (fun c => gD (o19 y t) (gD (b19 z 1 el) (c))) (fun c hc => gD_iff.2 (gD_iff.2 (hc))) (bd19_3_1_1 o nm r y z u t el)
  · exact bad19_of (S := [o19 y t, b19 z (m + 2) el]) ⟨h0.spec0 rfl, hb.spec0 rfl, trivial⟩ 4 (Nat.add 1 (m + 2)) true (.int .i64 (.ofNat 1) :: firstEls el (m + 2)) (by rw [List.length_cons, path_len hp]; show 1 + (m + 2) = _; omega) (by show 1 + (m + 2) ≤ _; omega) (fun c => gD (o19 y t) (gD (b19 z (m + 2) el) (long (m + 2) c))) (fun c hc => gD_iff.2 (gD_iff.2 (long_of (by omega) hc))) (bd19_3_1_m o nm r y z u t m el)
theorem bad19_3_2 {o : Int} {nm : List UInt8} {r : Rt} {y z u : Ex} {t t2 : Nat} {n : Nat} {el : Nat → List Dat} (h0 : BSim Tryz.prog 19 [exA y] [] [] (ans19 (t + 1) 0 el0)) (h1 : BSim Tryz.prog 19 [exA z] [] [] (ans19 (t2 + 1) 0 el0)) (hb : BSim Tryz.prog 19 [exA u] [] [] (ans19 0 n el)) (hp : PathOk n el) (hn : n ≤ u.size) (hz : (Ex.mk o nm r [y, z, u]).size < 1000000) : ∃ n2 el2, n2 ≤ (Ex.mk o nm r [y, z, u]).size ∧ PathOk n2 el2 ∧ BSim Tryz.prog 19 [exA (.mk o nm r [y, z, u])] [] [] (ans19 0 n2 el2) := by
  have hs : n + 1 ≤ (Ex.mk o nm r [y, z, u]).size := by rw [size_mk]; simp only [sizeL]; omega
  rcases n with _ | _ | m
  · exact bad19_of (S := [o19 y t, o19 z t2, b19 u 0 el]) ⟨h0.spec0 rfl, h1.spec0 rfl, hb.spec0 rfl, trivial⟩ 5 1 false [.int .i64 (.ofNat 2)] rfl (by omega) (fun c => gD (o19 y t) (gD (o19 z t2) (full 1 (gD (b19 u 0 el) (c))))) (fun c hc => gD_iff.2 (gD_iff.2 (full_of (by decide) (gD_iff.2 (hc))))) (bd19_3_2_0 o nm r y z u t t2 el)
  · exact bad19_of (S := [o19 y t, o19 z t2, b19 u 1 el]) ⟨h0.spec0 rfl, h1.spec0 rfl, hb.spec0 rfl, trivial⟩ 6 (Nat.add 1 1) true (.int .i64 (.ofNat 2) :: firstEls el 1) (by rw [List.length_cons, path_len hp]) (by show 1 + 1 ≤ _; omega) (fun c => gD (o19 y t) (gD (o19 z t2) (full 1 (gD (b19 u 1 el) (c))))) (fun c hc => gD_iff.2 (gD_iff.2 (full_of (by decide) (gD_iff.2 (hc))))) (bd19_3_2_1 o nm r y z u t t2 el)
  · exact bad19_of (S := [o19 y t, o19 z t2, b19 u (m + 2) el]) ⟨h0.spec0 rfl, h1.spec0 rfl, hb.spec0 rfl, trivial⟩ 6 (Nat.add 1 (m + 2)) true (.int .i64 (.ofNat 2) :: firstEls el (m + 2)) (by rw [List.length_cons, path_len hp]; show 1 + (m + 2) = _; omega) (by show 1 + (m + 2) ≤ _; omega) (fun c => gD (o19 y t) (gD (o19 z t2) (full 1 (gD (b19 u (m + 2) el) (long (m + 2) c))))) (fun c hc => gD_iff.2 (gD_iff.2 (full_of (by decide) (gD_iff.2 (long_of (by omega) hc))))) (bd19_3_2_m o nm r y z u t t2 m el)
end Go.Proofs.YtnljmpeaeajcoaaGreatDoor

namespace Go.Proofs.YtnljmpeaeajcoaaGreatDoor
open Go Go.Eng Go.Vi Go.Knuth
local instance : Go.Eng.Mode := Sl
/-! types agree -/
theorem tys_of {s : Nat} (h : s + 1 ≤ 8) : s + 1 ∈ tys := by
  have : ∀ s : Nat, s < 8 → s + 1 ∈ tys := by decide
  exact this s (by omega)
def Out (y : Ex) : Prop := (∃ s, s + 1 ≤ 8 ∧ BSim Tryz.prog 26 [exA y] [] [] (ans26 (s + 1) 0 el0 true) ∧ BSim Tryz.prog 19 [exA y] [] [] (ans19 (s + 1) 0 el0)) ∨
  ((∃ n el, n ≤ y.size ∧ PathOk n el ∧ BSim Tryz.prog 26 [exA y] [] [] (ans26 0 n el false)) ∧ ∃ n el, n ≤ y.size ∧ PathOk n el ∧ BSim Tryz.prog 19 [exA y] [] [] (ans19 0 n el))
theorem out_of {y : Ex} (h : ∃ t, t ≤ 8 ∧ TyR y t ∧ ToR y t) : Out y := by
  obtain ⟨t, h8, h1, h2⟩ := h
  cases t with
  | zero => unfold TyR at h1; unfold ToR at h2; rw [if_pos rfl] at h1 h2; exact .inr ⟨h1, h2⟩
  | succ s => unfold TyR at h1; unfold ToR at h2; rw [if_neg (by omega)] at h1 h2; exact .inl ⟨s, h8, h1, h2⟩
theorem none_of {x : Ex} (h1 : ∃ n el, n ≤ x.size ∧ PathOk n el ∧ BSim Tryz.prog 26 [exA x] [] [] (ans26 0 n el false)) (h2 : ∃ n el, n ≤ x.size ∧ PathOk n el ∧ BSim Tryz.prog 19 [exA x] [] [] (ans19 0 n el)) : ∃ t, t ≤ 8 ∧ TyR x t ∧ ToR x t :=
  ⟨0, by omega, by unfold TyR; rw [if_pos rfl]; exact h1, by unfold ToR; rw [if_pos rfl]; exact h2⟩
theorem resL_le {o : Nat} {ts : List Nat} (h : ∀ t ∈ ts, t ∈ tys) : resL o ts ≤ 8 := by
  unfold resL
  refine resN_le o _ _ ?_
  rcases ts with _ | ⟨t, ts⟩
  · simp
  · have : ∀ s ∈ tys, s ≤ 8 := by decide
    exact this t (h t (by simp))
theorem types_agree : ∀ {x : Ex}, WF x → x.size < 1000000 → ∃ t, t ≤ 8 ∧ TyR x t ∧ ToR x t := by
  intro x hx
  induction hx with
  | mk o n r args h1 h2 hl ha ih =>
    intro hz
    have es := size_mk (.ofNat o) n r args
    have h3 : args.length ≤ 3 := hl ▸ nArgs_le o
    rcases args with _ | ⟨y, _ | ⟨z, _ | ⟨u, _ | ⟨v, l⟩⟩⟩⟩
    · exact ⟨resL o [], resL_le (by simp), good26 h1 h2 (ts := []) hl (by simp) (S := []) trivial 9 (by decide) (fun c => c) (fun c h => h) (st26_0 _ n r) (fun _ => rfl),
        good19 h1 h2 (ts := []) hl (by simp) (S := []) trivial 9 (by decide) (fun c => c) (fun c h => h) (st19_0 _ n r) (fun _ => rfl)⟩
    · simp only [sizeL] at es
      rcases out_of (ih y (by simp) (by omega)) with ⟨s, s8, p26, p19⟩ | ⟨⟨m, el, hm', hp, q26⟩, m', el', hm2, hp', q19⟩
      · have hts : ∀ t ∈ [s + 1], t ∈ tys := fun t ht => by obtain rfl := List.mem_singleton.1 ht; exact tys_of s8
        exact ⟨resL o [s + 1], resL_le hts, good26 h1 h2 (ts := [s + 1]) hl hts (S := [o26 y s]) ⟨p26.spec0 rfl, trivial⟩ 3 (by decide) (fun c => gD (o26 y s) c) (fun c h => gD_iff.2 h) (st26_1 _ n r y s) (fun h => by cases h),
          good19 h1 h2 (ts := [s + 1]) hl hts (S := [o19 y s]) ⟨p19.spec0 rfl, trivial⟩ 2 (by decide) (fun c => gD (o19 y s) c) (fun c h => gD_iff.2 h) (st19_1 _ n r y s) (fun h => by cases h)⟩
      · exact none_of (bad26_1_0 q26 hp hm' hz) (bad19_1_0 q19 hp' hm2 hz)
    · simp only [sizeL] at es
      rcases out_of (ih y (by simp) (by omega)) with ⟨s, s8, p26, p19⟩ | ⟨⟨m, el, hm', hp, q26⟩, m', el', hm2, hp', q19⟩
      · rcases out_of (ih z (by simp) (by omega)) with ⟨t, t8, p26', p19'⟩ | ⟨⟨m, el, hm', hp, q26⟩, m', el', hm2, hp', q19⟩
        · have hts : ∀ w ∈ [s + 1, t + 1], w ∈ tys := fun w hw => by
            rcases List.mem_cons.1 hw with rfl | hw
            · exact tys_of s8
            · obtain rfl := List.mem_singleton.1 hw; exact tys_of t8
          exact ⟨resL o [s + 1, t + 1], resL_le hts, good26 h1 h2 (ts := [s + 1, t + 1]) hl hts (S := [o26 y s, o26 z t]) ⟨p26.spec0 rfl, p26'.spec0 rfl, trivial⟩ 6 (by decide) (fun c => gD (o26 y s) (gD (o26 z t) (full 1 c))) (fun c h => gD_iff.2 (gD_iff.2 (full_of (by decide) h))) (st26_2 _ n r y z s t) (fun h => by cases h),
            good19 h1 h2 (ts := [s + 1, t + 1]) hl hts (S := [o19 y s, o19 z t]) ⟨p19.spec0 rfl, p19'.spec0 rfl, trivial⟩ 4 (by decide) (fun c => gD (o19 y s) (gD (o19 z t) (full 1 c))) (fun c h => gD_iff.2 (gD_iff.2 (full_of (by decide) h))) (st19_2 _ n r y z s t) (fun h => by cases h)⟩
        · exact none_of (bad26_2_1 p26 q26 hp hm' hz) (bad19_2_1 p19 q19 hp' hm2 hz)
      · exact none_of (bad26_2_0 q26 hp hm' hz) (bad19_2_0 q19 hp' hm2 hz)
    · simp only [sizeL] at es
      rcases out_of (ih y (by simp) (by omega)) with ⟨s, s8, p26, p19⟩ | ⟨⟨m, el, hm', hp, q26⟩, m', el', hm2, hp', q19⟩
      · rcases out_of (ih z (by simp) (by omega)) with ⟨t, t8, p26', p19'⟩ | ⟨⟨m, el, hm', hp, q26⟩, m', el', hm2, hp', q19⟩
        · rcases out_of (ih u (by simp) (by omega)) with ⟨w, w8, p26'', p19''⟩ | ⟨⟨m, el, hm', hp, q26⟩, m', el', hm2, hp', q19⟩
          · have hts : ∀ v ∈ [s + 1, t + 1, w + 1], v ∈ tys := fun v hv => by
              rcases List.mem_cons.1 hv with rfl | hv
              · exact tys_of s8
              rcases List.mem_cons.1 hv with rfl | hv
              · exact tys_of t8
              · obtain rfl := List.mem_singleton.1 hv; exact tys_of w8
            exact ⟨resL o [s + 1, t + 1, w + 1], resL_le hts, good26 h1 h2 (ts := [s + 1, t + 1, w + 1]) hl hts (S := [o26 y s, o26 z t, o26 u w]) ⟨p26.spec0 rfl, p26'.spec0 rfl, p26''.spec0 rfl, trivial⟩ 9 (by decide) (fun c => gD (o26 y s) (gD (o26 z t) (full 1 (gD (o26 u w) (full 2 c))))) (fun c h => gD_iff.2 (gD_iff.2 (full_of (by decide) (gD_iff.2 (full_of (by decide) h))))) (st26_3 _ n r y z u s t w) (fun h => by cases h),
              good19 h1 h2 (ts := [s + 1, t + 1, w + 1]) hl hts (S := [o19 y s, o19 z t, o19 u w]) ⟨p19.spec0 rfl, p19'.spec0 rfl, p19''.spec0 rfl, trivial⟩ 6 (by decide) (fun c => gD (o19 y s) (gD (o19 z t) (full 1 (gD (o19 u w) (full 2 c))))) (fun c h => gD_iff.2 (gD_iff.2 (full_of (by decide) (gD_iff.2 (full_of (by decide) h))))) (st19_3 _ n r y z u s t w) (fun h => by cases h)⟩
          · exact none_of (bad26_3_2 p26 p26' q26 hp hm' hz) (bad19_3_2 p19 p19' q19 hp' hm2 hz)
        · exact none_of (bad26_3_1 p26 q26 hp hm' hz) (bad19_3_1 p19 q19 hp' hm2 hz)
      · exact none_of (bad26_3_0 q26 hp hm' hz) (bad19_3_0 q19 hp' hm2 hz)
    · simp at h3
end Go.Proofs.YtnljmpeaeajcoaaGreatDoor

namespace Go.Proofs.YtnljmpeaeajcoaaGreatDoor
open Go Go.Eng Go.Vi Go.Knuth
local instance : Go.Eng.Mode := Sl
/-! few: how large an expression is -/
theorem ok27 : FnOk Tryz.prog 27 Tryz.f27 := ⟨Tryz.func27, by kernel_rfl, by kernel_rfl⟩
theorem ok15 : FnOk Tryz.prog 15 Tryz.f15 := ⟨Tryz.func15, by kernel_rfl, by kernel_rfl⟩
noncomputable def c27 : Code := codeOf Tryz.f27
noncomputable def eSm (x : Ex) (lev : Nat) (n n' : Int) (b : Bool) : FuncId × SEnt := (27, ⟨[exA x, .int .i64 (.ofNat lev), .ptr 0 0], [(0, [.int .i64 n], [.int .i64 n'])], .bool b⟩)
noncomputable def r27 (S : List (FuncId × SEnt)) (x : Ex) (lev : Nat) (n : Int) (I : AV → List (Option Blk) → Bool) : Bool :=
  Eng.exec Tryz.prog X0 S 60 Tryz.f27.ntmps c27 (mkFr (argSlots [exA x, .int .i64 (.ofNat lev), .ptr 0 0] 0)) (mkMem (rowsOf [[.int .i64 n]])) (fun o fr M => endK o (resK Tryz.prog fr M Tryz.f27.results.toList fun vs => I (oneOf vs) (mv [0] M)))
noncomputable def s27 (x : Ex) (lev : Nat) (n : Int) (I : IK) : Bool :=
  Eng.execN Tryz.prog X0 [] 60 Tryz.f27.ntmps 3 c27 (mkFr (argSlots [exA x, .int .i64 (.ofNat lev), .ptr 0 0] 0)) (mkMem (rowsOf [[.int .i64 n]])) (fun o fr M => I o (lv [6] fr) (mv [0] M))
noncomputable def row27 (n : Int) : List (Option Blk) := [some (.row [.int .i64 n] false 1)]
noncomputable def top27 (x : Ex) (lev : Nat) (n : Int) (F A : Bool) : Bool := gB (inI64 (Int.sub n 1)) (ifB (ilt (Int.sub n 1) 0) F (ifB (ilt 40 (.ofNat lev)) F (ifB (ilt 60 (.ofNat x.name.length)) F (gB (inI64 (Int.add (.ofNat x.num.mag.length) (.ofNat x.num.dmag.length))) (ifB (ilt 20 (Int.add (.ofNat x.num.mag.length) (.ofNat x.num.dmag.length))) F A)))))
noncomputable def sub27 (y : Ex) (lev : Nat) (n n' : Int) (b c : Bool) : Bool := gB (inI64 (.ofNat (lev + 1))) (gD (eSm y (lev + 1) n n' b) c)
theorem early27 (x : Ex) (lev : Nat) (n : Int) (I : IK) : s27 x lev n I = gB (inI64 (Int.sub n 1)) (ifB (ilt (Int.sub n 1) 0) (I .ret [some (.bool false)] (row27 (Int.sub n 1))) (ifB (ilt 40 (.ofNat lev)) (I .ret [some (.bool false)] (row27 (Int.sub n 1))) (ifB (ilt 4 (.ofNat x.args.length)) (I .ret [some (.bool false)] (row27 (Int.sub n 1))) (ifB (ilt 60 (.ofNat x.name.length)) (I .ret [some (.bool false)] (row27 (Int.sub n 1))) (gB (inI64 (Int.add (.ofNat x.num.mag.length) (.ofNat x.num.dmag.length))) (ifB (ilt 20 (Int.add (.ofNat x.num.mag.length) (.ofNat x.num.dmag.length))) (I .ret [some (.bool false)] (row27 (Int.sub n 1))) (I .normal [some (.bool false)] (row27 (Int.sub n 1))))))))) := by kernel_rfl

theorem sm_0_t (o : Int) (nm : List UInt8) (r : Rt) (lev : Nat) (n : Int) (I) : r27 [] (.mk o nm r []) lev n I = top27 (.mk o nm r []) lev n (I (.bool false) (row27 (Int.sub n 1))) (I (.bool true) (row27 (Int.sub n 1))) := by kernel_rfl
theorem sm_1_0 (o : Int) (nm : List UInt8) (r : Rt) (y : Ex) (lev : Nat) (n : Int) (n0 : Int) (I) : r27 [eSm y (lev + 1) (Int.sub n 1) n0 false] (.mk o nm r [y]) lev n I = top27 (.mk o nm r [y]) lev n (I (.bool false) (row27 (Int.sub n 1))) (sub27 y lev (Int.sub n 1) n0 false (I (.bool false) (row27 n0))) := by kernel_rfl
theorem sm_1_t (o : Int) (nm : List UInt8) (r : Rt) (y : Ex) (lev : Nat) (n : Int) (n0 : Int) (I) : r27 [eSm y (lev + 1) (Int.sub n 1) n0 true] (.mk o nm r [y]) lev n I = top27 (.mk o nm r [y]) lev n (I (.bool false) (row27 (Int.sub n 1))) (sub27 y lev (Int.sub n 1) n0 true (I (.bool true) (row27 n0))) := by kernel_rfl
theorem sm_2_0 (o : Int) (nm : List UInt8) (r : Rt) (y z : Ex) (lev : Nat) (n : Int) (n0 : Int) (I) : r27 [eSm y (lev + 1) (Int.sub n 1) n0 false] (.mk o nm r [y, z]) lev n I = top27 (.mk o nm r [y, z]) lev n (I (.bool false) (row27 (Int.sub n 1))) (sub27 y lev (Int.sub n 1) n0 false (I (.bool false) (row27 n0))) := by kernel_rfl
theorem sm_2_1 (o : Int) (nm : List UInt8) (r : Rt) (y z : Ex) (lev : Nat) (n : Int) (n0 n1 : Int) (I) : r27 [eSm y (lev + 1) (Int.sub n 1) n0 true, eSm z (lev + 1) n0 n1 false] (.mk o nm r [y, z]) lev n I = top27 (.mk o nm r [y, z]) lev n (I (.bool false) (row27 (Int.sub n 1))) (sub27 y lev (Int.sub n 1) n0 true (sub27 z lev n0 n1 false (I (.bool false) (row27 n1)))) := by kernel_rfl
theorem sm_2_t (o : Int) (nm : List UInt8) (r : Rt) (y z : Ex) (lev : Nat) (n : Int) (n0 n1 : Int) (I) : r27 [eSm y (lev + 1) (Int.sub n 1) n0 true, eSm z (lev + 1) n0 n1 true] (.mk o nm r [y, z]) lev n I = top27 (.mk o nm r [y, z]) lev n (I (.bool false) (row27 (Int.sub n 1))) (sub27 y lev (Int.sub n 1) n0 true (sub27 z lev n0 n1 true (I (.bool true) (row27 n1)))) := by kernel_rfl
theorem sm_3_0 (o : Int) (nm : List UInt8) (r : Rt) (y z u : Ex) (lev : Nat) (n : Int) (n0 : Int) (I) : r27 [eSm y (lev + 1) (Int.sub n 1) n0 false] (.mk o nm r [y, z, u]) lev n I = top27 (.mk o nm r [y, z, u]) lev n (I (.bool false) (row27 (Int.sub n 1))) (sub27 y lev (Int.sub n 1) n0 false (I (.bool false) (row27 n0))) := by kernel_rfl
theorem sm_3_1 (o : Int) (nm : List UInt8) (r : Rt) (y z u : Ex) (lev : Nat) (n : Int) (n0 n1 : Int) (I) : r27 [eSm y (lev + 1) (Int.sub n 1) n0 true, eSm z (lev + 1) n0 n1 false] (.mk o nm r [y, z, u]) lev n I = top27 (.mk o nm r [y, z, u]) lev n (I (.bool false) (row27 (Int.sub n 1))) (sub27 y lev (Int.sub n 1) n0 true (sub27 z lev n0 n1 false (I (.bool false) (row27 n1)))) := by kernel_rfl
theorem sm_3_2 (o : Int) (nm : List UInt8) (r : Rt) (y z u : Ex) (lev : Nat) (n : Int) (n0 n1 n2 : Int) (I) : r27 [eSm y (lev + 1) (Int.sub n 1) n0 true, eSm z (lev + 1) n0 n1 true, eSm u (lev + 1) n1 n2 false] (.mk o nm r [y, z, u]) lev n I = top27 (.mk o nm r [y, z, u]) lev n (I (.bool false) (row27 (Int.sub n 1))) (sub27 y lev (Int.sub n 1) n0 true (sub27 z lev n0 n1 true (sub27 u lev n1 n2 false (I (.bool false) (row27 n2))))) := by kernel_rfl
theorem sm_3_t (o : Int) (nm : List UInt8) (r : Rt) (y z u : Ex) (lev : Nat) (n : Int) (n0 n1 n2 : Int) (I) : r27 [eSm y (lev + 1) (Int.sub n 1) n0 true, eSm z (lev + 1) n0 n1 true, eSm u (lev + 1) n1 n2 true] (.mk o nm r [y, z, u]) lev n I = top27 (.mk o nm r [y, z, u]) lev n (I (.bool false) (row27 (Int.sub n 1))) (sub27 y lev (Int.sub n 1) n0 true (sub27 z lev n0 n1 true (sub27 u lev n1 n2 true (I (.bool true) (row27 n2))))) := by kernel_rfl
theorem sm_4_0 (o : Int) (nm : List UInt8) (r : Rt) (y z u v : Ex) (lev : Nat) (n : Int) (n0 : Int) (I) : r27 [eSm y (lev + 1) (Int.sub n 1) n0 false] (.mk o nm r [y, z, u, v]) lev n I = top27 (.mk o nm r [y, z, u, v]) lev n (I (.bool false) (row27 (Int.sub n 1))) (sub27 y lev (Int.sub n 1) n0 false (I (.bool false) (row27 n0))) := by kernel_rfl
theorem sm_4_1 (o : Int) (nm : List UInt8) (r : Rt) (y z u v : Ex) (lev : Nat) (n : Int) (n0 n1 : Int) (I) : r27 [eSm y (lev + 1) (Int.sub n 1) n0 true, eSm z (lev + 1) n0 n1 false] (.mk o nm r [y, z, u, v]) lev n I = top27 (.mk o nm r [y, z, u, v]) lev n (I (.bool false) (row27 (Int.sub n 1))) (sub27 y lev (Int.sub n 1) n0 true (sub27 z lev n0 n1 false (I (.bool false) (row27 n1)))) := by kernel_rfl
theorem sm_4_2 (o : Int) (nm : List UInt8) (r : Rt) (y z u v : Ex) (lev : Nat) (n : Int) (n0 n1 n2 : Int) (I) : r27 [eSm y (lev + 1) (Int.sub n 1) n0 true, eSm z (lev + 1) n0 n1 true, eSm u (lev + 1) n1 n2 false] (.mk o nm r [y, z, u, v]) lev n I = top27 (.mk o nm r [y, z, u, v]) lev n (I (.bool false) (row27 (Int.sub n 1))) (sub27 y lev (Int.sub n 1) n0 true (sub27 z lev n0 n1 true (sub27 u lev n1 n2 false (I (.bool false) (row27 n2))))) := by kernel_rfl
theorem sm_4_3 (o : Int) (nm : List UInt8) (r : Rt) (y z u v : Ex) (lev : Nat) (n : Int) (n0 n1 n2 n3 : Int) (I) : r27 [eSm y (lev + 1) (Int.sub n 1) n0 true, eSm z (lev + 1) n0 n1 true, eSm u (lev + 1) n1 n2 true, eSm v (lev + 1) n2 n3 false] (.mk o nm r [y, z, u, v]) lev n I = top27 (.mk o nm r [y, z, u, v]) lev n (I (.bool false) (row27 (Int.sub n 1))) (sub27 y lev (Int.sub n 1) n0 true (sub27 z lev n0 n1 true (sub27 u lev n1 n2 true (sub27 v lev n2 n3 false (I (.bool false) (row27 n3)))))) := by kernel_rfl
theorem sm_4_t (o : Int) (nm : List UInt8) (r : Rt) (y z u v : Ex) (lev : Nat) (n : Int) (n0 n1 n2 n3 : Int) (I) : r27 [eSm y (lev + 1) (Int.sub n 1) n0 true, eSm z (lev + 1) n0 n1 true, eSm u (lev + 1) n1 n2 true, eSm v (lev + 1) n2 n3 true] (.mk o nm r [y, z, u, v]) lev n I = top27 (.mk o nm r [y, z, u, v]) lev n (I (.bool false) (row27 (Int.sub n 1))) (sub27 y lev (Int.sub n 1) n0 true (sub27 z lev n0 n1 true (sub27 u lev n1 n2 true (sub27 v lev n2 n3 true (I (.bool true) (row27 n3)))))) := by kernel_rfl
def Sm (x : Ex) (lev : Nat) (n n' : Int) (b : Bool) : Prop := BSim Tryz.prog 27 [exA x, .int .i64 (.ofNat lev), .ptr 0 0] [[.int .i64 n]] [[.int .i64 n']] (.bool b)
theorem eSm_ok {x : Ex} {lev : Nat} {n n' : Int} {b : Bool} (h : Sm x lev n n' b) : SSpec Tryz.prog (eSm x lev n n' b).1 (eSm x lev n n' b).2 := h.spec1 0 rfl
def Early (x : Ex) (lev : Nat) (n : Int) : Prop := n - 1 < 0 ∨ 40 < lev ∨ 4 < x.args.length ∨ 60 < x.name.length ∨ 20 < x.num.mag.length + x.num.dmag.length
theorem res27 : Tryz.f27.results.toList = [.tmp 6] := by kernel_rfl
theorem leaf27 {b : Bool} {n : Int} : pdec (Leaf 1 [0] [[.int .i64 n]] (.bool b) (.bool b) (row27 n)) = true := by
  refine pdec_iff.2 fun M' hM' => ⟨.plain (.bool b), fun j r hj => ?_⟩
  cases j with
  | zero =>
    obtain rfl : [Dat.int .i64 n] = r := by simpa using hj
    exact ⟨_, _, (List.cons.inj hM').1, .cons _ _ _ _ (.same (.int .i64 n)) .nil⟩
  | succ j => simp at hj
theorem iltT {a b : Int} (h : a < b) : ilt a b = true := by rw [ilt_iff]; exact decide_eq_true h
theorem iltF {a b : Int} (h : ¬ a < b) : ilt a b = false := by rw [ilt_iff]; exact decide_eq_false h
theorem inSub {n : Int} (h0 : 0 ≤ n) (h1 : n ≤ 60) : inI64 (Int.sub n 1) = true := i64ok (by show -9223372036854775808 ≤ n - 1; omega) (by show n - 1 < _; omega)
theorem inSum {a b : Nat} (h : a + b < 4611686018427387904) : inI64 (Int.add (.ofNat a) (.ofNat b)) = true := smallI (a + b) (by omega)
theorem small_early {x : Ex} {lev : Nat} {n : Int} (h0 : 0 ≤ n) (h1 : n ≤ 60) (hm : x.num.mag.length + x.num.dmag.length < 4611686018427387904) (h : Early x lev n) : Sm x lev n (Int.sub n 1) false := by
  suffices hw : W Tryz.prog Tryz.f27.ntmps 1 c27 (mkFr (argSlots [exA x, .int .i64 (.ofNat lev), .ptr 0 0] 0)) (mkMem (rowsOf [[.int .i64 n]])) (FinEx Tryz.prog Tryz.f27 1 [[.int .i64 (Int.sub n 1)]] (fun a => a = .bool false)) by
    obtain ⟨_, rfl, hb⟩ := BSim.of_WEx (args0 := [exA x, .int .i64 (.ofNat lev), .ptr 0 0]) (rows0 := [[.int .i64 n]]) (rows1 := [[.int .i64 (Int.sub n 1)]]) ok27 (by kernel_rfl) rfl hw
    exact hb
  refine W.runN Go.Proofs.YtnljmpeaeajcoaaGreatDoor.hm hX0l (S := []) (fun _ h => by cases h) 60 3 [6] [0] _ (early27 x lev n) ?_
  have fin : ∀ (Q : AE → Fr → Mem → Prop), (∀ fr M, fr.get 6 = some (.bool false) → M.t.get 0 = some (.row [.int .i64 (Int.sub n 1)] false 1) → Q .ret fr M) → pdec (∀ fr' M', lv [6] fr' = [some (.bool false)] → mv [0] M' = row27 (Int.sub n 1) → Q .ret fr' M') = true :=
    fun Q h => pdec_iff.2 fun fr M hl hM => h fr M (one_of hl) (List.cons.inj hM).1
  have done : pdec (∀ fr' M', lv [6] fr' = [some (.bool false)] → mv [0] M' = row27 (Int.sub n 1) → Nxt Tryz.prog Tryz.f27.ntmps 1 (post 3 c27) (FinEx Tryz.prog Tryz.f27 1 [[.int .i64 (Int.sub n 1)]] (fun a => a = .bool false)) .ret fr' M') = true := by
    refine fin _ fun fr M hl hM => ?_
    refine fin_oneL res27 hl ⟨.bool false, rfl, .plain (.bool false), fun j r hj => ?_⟩
    cases j with
    | zero =>
      obtain rfl : [Dat.int .i64 (Int.sub n 1)] = r := by simpa using hj
      exact ⟨_, _, hM, .cons _ _ _ _ (.same (.int .i64 (Int.sub n 1))) .nil⟩
    | succ j => simp at hj
  rw [gB_iff]
  refine ⟨inSub h0 h1, ?_⟩
  by_cases c1 : n - 1 < 0
  · rw [ifB_true (iltT (a := Int.sub n 1) c1)]; exact done
  rw [ifB_false (iltF (a := Int.sub n 1) c1)]
  by_cases c2 : 40 < lev
  · rw [ifB_true (iltT (by simp only [Int.ofNat_eq_natCast]; omega))]; exact done
  rw [ifB_false (iltF (by simp only [Int.ofNat_eq_natCast]; omega))]
  by_cases c3 : 4 < x.args.length
  · rw [ifB_true (iltT (by simp only [Int.ofNat_eq_natCast]; omega))]; exact done
  rw [ifB_false (iltF (by simp only [Int.ofNat_eq_natCast]; omega))]
  by_cases c4 : 60 < x.name.length
  · rw [ifB_true (iltT (by simp only [Int.ofNat_eq_natCast]; omega))]; exact done
  rw [ifB_false (iltF (by simp only [Int.ofNat_eq_natCast]; omega)), gB_iff]
  have c5 : 20 < x.num.mag.length + x.num.dmag.length := by
    rcases h with h | h | h | h | h
    · exact absurd h c1
    · exact absurd h c2
    · exact absurd h c3
    · exact absurd h c4
    · exact h
  refine ⟨inSum hm, ?_⟩
  rw [ifB_true (iltT (by show (20 : Int) < (x.num.mag.length : Int) + x.num.dmag.length; omega))]
  exact done
theorem small_late {x : Ex} {lev : Nat} {n : Int} (h0 : 0 ≤ n) (h1 : n ≤ 60) (h : ¬ Early x lev n) {S : List (FuncId × SEnt)} (hS : AllOk S) {n' : Int} {b : Bool} (A : (AV → List (Option Blk) → Bool) → Bool) (hA : ∀ I : AV → List (Option Blk) → Bool, I (.bool b) (row27 n') = true → A I = true)
    (hrun : ∀ I, r27 S x lev n I = top27 x lev n (I (.bool false) (row27 (Int.sub n 1))) (A I)) : Sm x lev n n' b := by
  refine BSim.run hm hX0l hS.mem ok27 (by kernel_rfl) rfl 60 [0] _ hrun ?_
  unfold Early at h
  simp only [not_or] at h
  obtain ⟨c1, c2, c3, c4, c5⟩ := h
  unfold top27
  rw [gB_iff, ifB_false (iltF (a := Int.sub n 1) c1), ifB_false (iltF (by simp only [Int.ofNat_eq_natCast]; omega)), ifB_false (iltF (by simp only [Int.ofNat_eq_natCast]; omega)), gB_iff, ifB_false (iltF (by show ¬ (20 : Int) < (x.num.mag.length : Int) + x.num.dmag.length; omega))]
  exact ⟨inSub h0 h1, inSum (by omega), hA _ leaf27⟩
theorem sub_of {y : Ex} {lev : Nat} {n n' : Int} {b c : Bool} (hl : lev ≤ 40) (h : c = true) : sub27 y lev n n' b c = true := by
  unfold sub27
  rw [gB_iff, gD_iff]
  exact ⟨smallI _ (by omega), h⟩
/-- the lengths of an expression's strings -/
inductive Fits : Ex → Prop
  | mk (o : Int) (n : List UInt8) (r : Rt) (args : List Ex) (hr : r.mag.length + r.dmag.length < 4611686018427387904) (ha : ∀ y ∈ args, Fits y) : Fits (.mk o n r args)
def SmOut (x : Ex) (lev : Nat) (n : Int) : Prop := ∃ (n' : Int) (b : Bool), (b = true → Sml x ∧ 0 ≤ n' ∧ (x.size : Int) ≤ n - n' ∧ n' ≤ 60) ∧ Sm x lev n n' b
theorem early_out {x : Ex} {lev : Nat} {n : Int} (h : Sm x lev n (Int.sub n 1) false) : SmOut x lev n := ⟨_, false, (fun h => by cases h), h⟩
theorem small_any : ∀ {x : Ex}, Fits x → ∀ (lev : Nat) (n : Int), 0 ≤ n → n ≤ 60 → SmOut x lev n := by
  intro x hx
  induction hx with
  | mk o nm r args hr ha ih =>
    intro lev n h0 h1
    by_cases he : Early (.mk o nm r args) lev n
    · exact early_out (small_early h0 h1 hr he)
    have he' := he
    unfold Early at he'
    simp only [not_or] at he'
    obtain ⟨c1, c2, c3, c4, c5⟩ := he'
    have c3 : ¬ 4 < args.length := c3
    have c4 : ¬ 60 < nm.length := c4
    have c5 : ¬ 20 < r.mag.length + r.dmag.length := c5
    have g0 : (0 : Int) ≤ Int.sub n 1 := by show (0 : Int) ≤ n - 1; omega
    have g1 : Int.sub n 1 ≤ 60 := by show n - 1 ≤ 60; omega
    have gs : Int.sub n 1 = n - 1 := rfl
    have hsz := size_mk o nm r args
    rcases args with _ | ⟨y, _ | ⟨z, _ | ⟨u, _ | ⟨v, _ | ⟨w, l⟩⟩⟩⟩⟩
    · simp only [sizeL] at hsz
      refine ⟨(Int.sub n 1), true, fun _ => ⟨.mk _ _ _ _ (by omega) (by omega) (by simp) ?_, by omega, by rw [hsz]; omega, by omega⟩, small_late h0 h1 he (S := []) trivial (fun I => I (.bool true) (row27 (Int.sub n 1))) (fun I h => h) (sm_0_t o nm r  lev n )⟩
      exact fun w hw => by cases hw
    · simp only [sizeL] at hsz
      obtain ⟨n0, b, p0, s0⟩ := ih y (by simp) (lev + 1) (Int.sub n 1) g0 g1
      cases b with
      | false => exact ⟨n0, false, (fun h => by cases h), small_late h0 h1 he (S := [eSm y (lev + 1) (Int.sub n 1) n0 false]) ⟨eSm_ok s0, trivial⟩ (fun I => sub27 y lev (Int.sub n 1) n0 false (I (.bool false) (row27 n0))) (fun I h => sub_of (by omega) (h)) (sm_1_0 o nm r y lev n n0)⟩
      | true =>
        have q0 := p0 rfl
        refine ⟨n0, true, fun _ => ⟨.mk _ _ _ _ (by omega) (by omega) (by simp) ?_, by omega, by rw [hsz]; omega, by omega⟩, small_late h0 h1 he (S := [eSm y (lev + 1) (Int.sub n 1) n0 true]) ⟨eSm_ok s0, trivial⟩ (fun I => sub27 y lev (Int.sub n 1) n0 true (I (.bool true) (row27 n0))) (fun I h => sub_of (by omega) (h)) (sm_1_t o nm r y lev n n0)⟩
        exact fun w hw => by
            · obtain rfl := List.mem_singleton.1 hw; exact (p0 rfl).1
    · simp only [sizeL] at hsz
      obtain ⟨n0, b, p0, s0⟩ := ih y (by simp) (lev + 1) (Int.sub n 1) g0 g1
      cases b with
      | false => exact ⟨n0, false, (fun h => by cases h), small_late h0 h1 he (S := [eSm y (lev + 1) (Int.sub n 1) n0 false]) ⟨eSm_ok s0, trivial⟩ (fun I => sub27 y lev (Int.sub n 1) n0 false (I (.bool false) (row27 n0))) (fun I h => sub_of (by omega) (h)) (sm_2_0 o nm r y z lev n n0)⟩
      | true =>
        obtain ⟨n1, b, p1, s1⟩ := ih z (by simp) (lev + 1) n0 (p0 rfl).2.1 (p0 rfl).2.2.2
        cases b with
        | false => exact ⟨n1, false, (fun h => by cases h), small_late h0 h1 he (S := [eSm y (lev + 1) (Int.sub n 1) n0 true, eSm z (lev + 1) n0 n1 false]) ⟨eSm_ok s0, eSm_ok s1, trivial⟩ (fun I => sub27 y lev (Int.sub n 1) n0 true (sub27 z lev n0 n1 false (I (.bool false) (row27 n1)))) (fun I h => sub_of (by omega) (sub_of (by omega) (h))) (sm_2_1 o nm r y z lev n n0 n1)⟩
        | true =>
          have q0 := p0 rfl
          have q1 := p1 rfl
          refine ⟨n1, true, fun _ => ⟨.mk _ _ _ _ (by omega) (by omega) (by simp) ?_, by omega, by rw [hsz]; omega, by omega⟩, small_late h0 h1 he (S := [eSm y (lev + 1) (Int.sub n 1) n0 true, eSm z (lev + 1) n0 n1 true]) ⟨eSm_ok s0, eSm_ok s1, trivial⟩ (fun I => sub27 y lev (Int.sub n 1) n0 true (sub27 z lev n0 n1 true (I (.bool true) (row27 n1)))) (fun I h => sub_of (by omega) (sub_of (by omega) (h))) (sm_2_t o nm r y z lev n n0 n1)⟩
          exact fun w hw => by
              rcases List.mem_cons.1 hw with rfl | hw
              · exact (p0 rfl).1
              · obtain rfl := List.mem_singleton.1 hw; exact (p1 rfl).1
    · simp only [sizeL] at hsz
      obtain ⟨n0, b, p0, s0⟩ := ih y (by simp) (lev + 1) (Int.sub n 1) g0 g1
      cases b with
      | false => exact ⟨n0, false, (fun h => by cases h), small_late h0 h1 he (S := [eSm y (lev + 1) (Int.sub n 1) n0 false]) ⟨eSm_ok s0, trivial⟩ (fun I => sub27 y lev (Int.sub n 1) n0 false (I (.bool false) (row27 n0))) (fun I h => sub_of (by omega) (h)) (sm_3_0 o nm r y z u lev n n0)⟩
      | true =>
        obtain ⟨n1, b, p1, s1⟩ := ih z (by simp) (lev + 1) n0 (p0 rfl).2.1 (p0 rfl).2.2.2
        cases b with
        | false => exact ⟨n1, false, (fun h => by cases h), small_late h0 h1 he (S := [eSm y (lev + 1) (Int.sub n 1) n0 true, eSm z (lev + 1) n0 n1 false]) ⟨eSm_ok s0, eSm_ok s1, trivial⟩ (fun I => sub27 y lev (Int.sub n 1) n0 true (sub27 z lev n0 n1 false (I (.bool false) (row27 n1)))) (fun I h => sub_of (by omega) (sub_of (by omega) (h))) (sm_3_1 o nm r y z u lev n n0 n1)⟩
        | true =>
          obtain ⟨n2, b, p2, s2⟩ := ih u (by simp) (lev + 1) n1 (p1 rfl).2.1 (p1 rfl).2.2.2
          cases b with
          | false => exact ⟨n2, false, (fun h => by cases h), small_late h0 h1 he (S := [eSm y (lev + 1) (Int.sub n 1) n0 true, eSm z (lev + 1) n0 n1 true, eSm u (lev + 1) n1 n2 false]) ⟨eSm_ok s0, eSm_ok s1, eSm_ok s2, trivial⟩ (fun I => sub27 y lev (Int.sub n 1) n0 true (sub27 z lev n0 n1 true (sub27 u lev n1 n2 false (I (.bool false) (row27 n2))))) (fun I h => sub_of (by omega) (sub_of (by omega) (sub_of (by omega) (h)))) (sm_3_2 o nm r y z u lev n n0 n1 n2)⟩
          | true =>
            have q0 := p0 rfl
            have q1 := p1 rfl
            have q2 := p2 rfl
            refine ⟨n2, true, fun _ => ⟨.mk _ _ _ _ (by omega) (by omega) (by simp) ?_, by omega, by rw [hsz]; omega, by omega⟩, small_late h0 h1 he (S := [eSm y (lev + 1) (Int.sub n 1) n0 true, eSm z (lev + 1) n0 n1 true, eSm u (lev + 1) n1 n2 true]) ⟨eSm_ok s0, eSm_ok s1, eSm_ok s2, trivial⟩ (fun I => sub27 y lev (Int.sub n 1) n0 true (sub27 z lev n0 n1 true (sub27 u lev n1 n2 true (I (.bool true) (row27 n2))))) (fun I h => sub_of (by omega) (sub_of (by omega) (sub_of (by omega) (h)))) (sm_3_t o nm r y z u lev n n0 n1 n2)⟩
            exact fun w hw => by
                rcases List.mem_cons.1 hw with rfl | hw
                · exact (p0 rfl).1
                rcases List.mem_cons.1 hw with rfl | hw
                · exact (p1 rfl).1
                · obtain rfl := List.mem_singleton.1 hw; exact (p2 rfl).1
    · simp only [sizeL] at hsz
      obtain ⟨n0, b, p0, s0⟩ := ih y (by simp) (lev + 1) (Int.sub n 1) g0 g1
      cases b with
      | false => exact ⟨n0, false, (fun h => by cases h), small_late h0 h1 he (S := [eSm y (lev + 1) (Int.sub n 1) n0 false]) ⟨eSm_ok s0, trivial⟩ (fun I => sub27 y lev (Int.sub n 1) n0 false (I (.bool false) (row27 n0))) (fun I h => sub_of (by omega) (h)) (sm_4_0 o nm r y z u v lev n n0)⟩
      | true =>
        obtain ⟨n1, b, p1, s1⟩ := ih z (by simp) (lev + 1) n0 (p0 rfl).2.1 (p0 rfl).2.2.2
        cases b with
        | false => exact ⟨n1, false, (fun h => by cases h), small_late h0 h1 he (S := [eSm y (lev + 1) (Int.sub n 1) n0 true, eSm z (lev + 1) n0 n1 false]) ⟨eSm_ok s0, eSm_ok s1, trivial⟩ (fun I => sub27 y lev (Int.sub n 1) n0 true (sub27 z lev n0 n1 false (I (.bool false) (row27 n1)))) (fun I h => sub_of (by omega) (sub_of (by omega) (h))) (sm_4_1 o nm r y z u v lev n n0 n1)⟩
        | true =>
          obtain ⟨n2, b, p2, s2⟩ := ih u (by simp) (lev + 1) n1 (p1 rfl).2.1 (p1 rfl).2.2.2
          cases b with
          | false => exact ⟨n2, false, (fun h => by cases h), small_late h0 h1 he (S := [eSm y (lev + 1) (Int.sub n 1) n0 true, eSm z (lev + 1) n0 n1 true, eSm u (lev + 1) n1 n2 false]) ⟨eSm_ok s0, eSm_ok s1, eSm_ok s2, trivial⟩ (fun I => sub27 y lev (Int.sub n 1) n0 true (sub27 z lev n0 n1 true (sub27 u lev n1 n2 false (I (.bool false) (row27 n2))))) (fun I h => sub_of (by omega) (sub_of (by omega) (sub_of (by omega) (h)))) (sm_4_2 o nm r y z u v lev n n0 n1 n2)⟩
          | true =>
            obtain ⟨n3, b, p3, s3⟩ := ih v (by simp) (lev + 1) n2 (p2 rfl).2.1 (p2 rfl).2.2.2
            cases b with
            | false => exact ⟨n3, false, (fun h => by cases h), small_late h0 h1 he (S := [eSm y (lev + 1) (Int.sub n 1) n0 true, eSm z (lev + 1) n0 n1 true, eSm u (lev + 1) n1 n2 true, eSm v (lev + 1) n2 n3 false]) ⟨eSm_ok s0, eSm_ok s1, eSm_ok s2, eSm_ok s3, trivial⟩ (fun I => sub27 y lev (Int.sub n 1) n0 true (sub27 z lev n0 n1 true (sub27 u lev n1 n2 true (sub27 v lev n2 n3 false (I (.bool false) (row27 n3)))))) (fun I h => sub_of (by omega) (sub_of (by omega) (sub_of (by omega) (sub_of (by omega) (h))))) (sm_4_3 o nm r y z u v lev n n0 n1 n2 n3)⟩
            | true =>
              have q0 := p0 rfl
              have q1 := p1 rfl
              have q2 := p2 rfl
              have q3 := p3 rfl
              refine ⟨n3, true, fun _ => ⟨.mk _ _ _ _ (by omega) (by omega) (by simp) ?_, by omega, by rw [hsz]; omega, by omega⟩, small_late h0 h1 he (S := [eSm y (lev + 1) (Int.sub n 1) n0 true, eSm z (lev + 1) n0 n1 true, eSm u (lev + 1) n1 n2 true, eSm v (lev + 1) n2 n3 true]) ⟨eSm_ok s0, eSm_ok s1, eSm_ok s2, eSm_ok s3, trivial⟩ (fun I => sub27 y lev (Int.sub n 1) n0 true (sub27 z lev n0 n1 true (sub27 u lev n1 n2 true (sub27 v lev n2 n3 true (I (.bool true) (row27 n3)))))) (fun I h => sub_of (by omega) (sub_of (by omega) (sub_of (by omega) (sub_of (by omega) (h))))) (sm_4_t o nm r y z u v lev n n0 n1 n2 n3)⟩
              exact fun w hw => by
                  rcases List.mem_cons.1 hw with rfl | hw
                  · exact (p0 rfl).1
                  rcases List.mem_cons.1 hw with rfl | hw
                  · exact (p1 rfl).1
                  rcases List.mem_cons.1 hw with rfl | hw
                  · exact (p2 rfl).1
                  · obtain rfl := List.mem_singleton.1 hw; exact (p3 rfl).1
    · simp at c3
noncomputable def e27 (x : Ex) (n' : Int) (b : Bool) : FuncId × SEnt := (27, ⟨[exA x, .int .i64 (.ofNat 1), .ptr 1 0], [(1, [.int .i64 60], [.int .i64 n'])], .bool b⟩)
theorem few_any {x : Ex} (hx : Fits x) : ∃ b : Bool, (b = true → Sml x ∧ x.size ≤ 60) ∧ BSim Tryz.prog 15 [exA x] [] [] (.bool b) := by
  obtain ⟨n', b, hb, h⟩ := small_any hx 1 60 (by decide) (by decide)
  refine ⟨b, fun e => ⟨(hb e).1, by have := hb e; omega⟩, ?_⟩
  refine BSim.run hm hX0l (S := [e27 x n' b]) (AllOk.mem ⟨h.spec1 1 rfl, trivial⟩) ok15 (by kernel_rfl) rfl 60 [] (fun I => gD (e27 x n' b) (I (.bool b) [])) (fun I => by kernel_rfl) ?_
  rw [gD_iff]
  exact bleaf rfl
end Go.Proofs.YtnljmpeaeajcoaaGreatDoor

/- A part of the proof over this seat's program: the checked evaluator and its soundness, and what it gives here. No condition. -/
import Derived.Test.YtnljmpeaeajcoaaGreatDoorA3

set_option linter.all false

namespace Go.Proofs.YtnljmpeaeajcoaaGreatDoor
open Go Go.Eng Go.Vi
local instance modeQ11x : Go.Eng.Mode := Sl
/-! the type of an operation for the types of its arguments -/
def whenN (b : Bool) (t : Nat) : Nat := bif b then t else 0
def movN (x : Nat) : Bool := Nat.ble 5 x && Nat.ble x 8
def isN (o : Nat) (l : List Nat) : Bool := l.any fun k => Nat.beq o k
def resN (o x y z : Nat) : Nat :=
  bif isN o [1] then 2 else bif isN o [3, 4] then 7 else bif isN o [5] then 8 else
  bif isN o [2] then whenN (Nat.beq x 2 && Nat.beq y 2) 3 else
  bif isN o [6] then whenN (Nat.beq x 2 && Nat.beq y 2) 4 else
  bif isN o [7, 8, 9] then whenN (Nat.beq x 4 && Nat.beq y 4) 4 else
  bif isN o [10] then whenN (Nat.beq x 5) 4 else
  bif isN o [11] then whenN (movN x) 4 else
  bif isN o [12] then whenN (movN x && Nat.beq y 4) x else
  bif isN o [13] then whenN (Nat.beq x 7 && (Nat.beq y 7 || Nat.beq y 3)) 6 else
  bif isN o [14] then whenN (Nat.beq x 7) 6 else
  bif isN o [15] then whenN (Nat.beq x 7 && (Nat.beq y 7 || Nat.beq y 3) && Nat.beq z 2) 5 else
  bif isN o [16] then whenN (Nat.beq x 7 && Nat.beq y 8) 5 else
  bif isN o [17] then whenN (Nat.beq x 8) 6 else
  bif isN o [18, 19] then whenN (Nat.beq x 6 && (Nat.beq y 6 || Nat.beq y 2)) 6 else
  bif isN o [20] then whenN (Nat.beq x 2 && Nat.beq y 6) 6 else
  bif isN o [21, 22] then whenN (Nat.beq x 6 && (Nat.beq y 6 || Nat.beq y 2)) 5 else
  bif isN o [23, 24] then whenN ((Nat.beq x 5 || Nat.beq x 1) && Nat.beq x y) x else
  bif isN o [25] then whenN (Nat.beq x 5 || Nat.beq x 1) x else
  bif isN o [26, 27] then whenN (Nat.beq x 5) 1 else
  bif isN o [28] then whenN (Nat.beq x 5 && Nat.beq y 2) 1 else
  bif isN o [29] then whenN (movN x && Nat.beq y 2) x else
  bif isN o [30] then whenN (Nat.beq x 6 && Nat.beq y 2) 1 else 0
noncomputable def rowT (ts : List Nat) : List AV := ts.map fun t => .int .i64 (.ofNat t)
noncomputable def resL (o : Nat) (ts : List Nat) : Nat := resN o (ts.getD 0 0) (ts.getD 1 0) (ts.getD 2 0)
noncomputable def c26 : Code := codeOf Tryz.f26
noncomputable def c19 : Code := codeOf Tryz.f19
noncomputable def argT (ts : List Nat) : AV := match ts with | [] => .nilSlice | _ :: _ => .slice 1 0 ts.length ts.length true
noncomputable def rowsT (o : Nat) (n : List UInt8) (r : Rt) (a : List Ex) (ts : List Nat) : List Blk := .row (toAVs (exD (.mk (.ofNat o) n r a))) false 1 :: (match ts with | [] => [] | _ :: _ => [.row (rowT ts) true 1])
noncomputable def tail26 (o : Nat) (n : List UInt8) (r : Rt) (a : List Ex) (ts : List Nat) : Bool :=
  Eng.exec Tryz.prog X0 [] 100 Tryz.f26.ntmps (post 3 c26) (mkFr [(1, .ptr 0 0), (5, argT ts)]) (mkMem (rowsT o n r a ts)) (fun o' fr M => endK o' (resK Tryz.prog fr M Tryz.f26.results.toList fun vs => beqT (oneOf vs) (.tuple [.int .i64 (.ofNat (resL o ts)), .nilSlice, .bool (Nat.blt 0 (resL o ts))])))
noncomputable def tail19 (o : Nat) (n : List UInt8) (r : Rt) (a : List Ex) (ts : List Nat) : Bool :=
  Eng.exec Tryz.prog X0 [] 100 Tryz.f19.ntmps (post 3 c19) (mkFr [(1, .ptr 0 0), (4, argT ts)]) (mkMem (rowsT o n r a ts)) (fun o' fr M => endK o' (resK Tryz.prog fr M Tryz.f19.results.toList fun vs => beqT (oneOf vs) (.tuple [.int .i64 (.ofNat (resL o ts)), .nilSlice])))
def tys : List Nat := [1, 2, 3, 4, 5, 6, 7, 8]
/-- with such a first argument the other ones matter -/
def acc (o x : Nat) : Bool :=
  bif isN o [2, 6, 20] then Nat.beq x 2 else bif isN o [7, 8, 9] then Nat.beq x 4 else bif isN o [13, 15, 16] then Nat.beq x 7 else bif isN o [18, 19, 21, 22, 30] then Nat.beq x 6 else
  bif isN o [28] then Nat.beq x 5 else bif isN o [12, 29] then movN x else bif isN o [23, 24] then Nat.beq x 5 || Nat.beq x 1 else true
def acR (o x : Nat) : Bool := acc o x || isN o [23, 24]
def ac2 (y : Nat) : Bool := Nat.beq y 7 || Nat.beq y 3
noncomputable def fam0 (T : Nat → List Nat → Bool) : Bool := [1, 3, 4, 5].all fun o => T o []
noncomputable def fam1 (T : Nat → List Nat → Bool) : Bool := [10, 11, 14, 17, 25, 26, 27].all fun o => tys.all fun x => T o [x]
noncomputable def fam2a (A : Nat → Nat → Bool) (T : Nat → List Nat → Bool) (y : Nat) (os : List Nat) : Bool := os.all fun o => tys.all fun x => A o x || T o [x, y]
noncomputable def fam2b (A : Nat → Nat → Bool) (T : Nat → List Nat → Bool) (os : List Nat) : Bool := os.all fun o => tys.all fun x => !A o x || tys.all fun y => T o [x, y]
noncomputable def fam3a (T : Nat → List Nat → Bool) (y z : Nat) : Bool := tys.all fun x => Nat.beq x 7 || T 15 [x, y, z]
noncomputable def fam3b (T : Nat → List Nat → Bool) (z : Nat) : Bool := tys.all fun y => ac2 y || T 15 [7, y, z]
noncomputable def fam3c (T : Nat → List Nat → Bool) : Bool := tys.all fun y => !ac2 y || tys.all fun z => T 15 [7, y, z]
def ops1 : List Nat := [2, 6, 7, 8]
def ops2 : List Nat := [9, 12, 13, 16]
def ops3 : List Nat := [18, 19, 20, 21]
def ops4 : List Nat := [22, 23, 24]
def ops5 : List Nat := [28, 29, 30]
theorem t26_0 (n : List UInt8) (r : Rt) (a : List Ex) : fam0 (fun o ts => tail26 o n r a ts) = true := by kernel_rfl
theorem t26_1 (n : List UInt8) (r : Rt) (a : List Ex) : fam1 (fun o ts => tail26 o n r a ts) = true := by kernel_rfl
theorem t26_2a1 (n : List UInt8) (r : Rt) (a : List Ex) (y : Nat) : fam2a acc (fun o ts => tail26 o n r a ts) y ops1 = true := by kernel_rfl
theorem t26_2b1 (n : List UInt8) (r : Rt) (a : List Ex) : fam2b acc (fun o ts => tail26 o n r a ts) ops1 = true := by kernel_rfl
theorem t26_2a2 (n : List UInt8) (r : Rt) (a : List Ex) (y : Nat) : fam2a acc (fun o ts => tail26 o n r a ts) y ops2 = true := by kernel_rfl
theorem t26_2b2 (n : List UInt8) (r : Rt) (a : List Ex) : fam2b acc (fun o ts => tail26 o n r a ts) ops2 = true := by kernel_rfl
theorem t26_2a3 (n : List UInt8) (r : Rt) (a : List Ex) (y : Nat) : fam2a acc (fun o ts => tail26 o n r a ts) y ops3 = true := by kernel_rfl
theorem t26_2b3 (n : List UInt8) (r : Rt) (a : List Ex) : fam2b acc (fun o ts => tail26 o n r a ts) ops3 = true := by kernel_rfl
theorem t26_2a4 (n : List UInt8) (r : Rt) (a : List Ex) (y : Nat) : fam2a acc (fun o ts => tail26 o n r a ts) y ops4 = true := by kernel_rfl
theorem t26_2b4 (n : List UInt8) (r : Rt) (a : List Ex) : fam2b acc (fun o ts => tail26 o n r a ts) ops4 = true := by kernel_rfl
theorem t26_2a5 (n : List UInt8) (r : Rt) (a : List Ex) (y : Nat) : fam2a acc (fun o ts => tail26 o n r a ts) y ops5 = true := by kernel_rfl
theorem t26_2b5 (n : List UInt8) (r : Rt) (a : List Ex) : fam2b acc (fun o ts => tail26 o n r a ts) ops5 = true := by kernel_rfl
theorem t26_3a (n : List UInt8) (r : Rt) (a : List Ex) (y z : Nat) : fam3a (fun o ts => tail26 o n r a ts) y z = true := by kernel_rfl
theorem t26_3b (n : List UInt8) (r : Rt) (a : List Ex) (z : Nat) : fam3b (fun o ts => tail26 o n r a ts) z = true := by kernel_rfl
theorem t26_3c (n : List UInt8) (r : Rt) (a : List Ex) : fam3c (fun o ts => tail26 o n r a ts) = true := by kernel_rfl
theorem t19_0 (n : List UInt8) (r : Rt) (a : List Ex) : fam0 (fun o ts => tail19 o n r a ts) = true := by kernel_rfl
theorem t19_1 (n : List UInt8) (r : Rt) (a : List Ex) : fam1 (fun o ts => tail19 o n r a ts) = true := by kernel_rfl
theorem t19_2a1 (n : List UInt8) (r : Rt) (a : List Ex) (y : Nat) : fam2a acR (fun o ts => tail19 o n r a ts) y ops1 = true := by kernel_rfl
theorem t19_2b1 (n : List UInt8) (r : Rt) (a : List Ex) : fam2b acR (fun o ts => tail19 o n r a ts) ops1 = true := by kernel_rfl
theorem t19_2a2 (n : List UInt8) (r : Rt) (a : List Ex) (y : Nat) : fam2a acR (fun o ts => tail19 o n r a ts) y ops2 = true := by kernel_rfl
theorem t19_2b2 (n : List UInt8) (r : Rt) (a : List Ex) : fam2b acR (fun o ts => tail19 o n r a ts) ops2 = true := by kernel_rfl
theorem t19_2a3 (n : List UInt8) (r : Rt) (a : List Ex) (y : Nat) : fam2a acR (fun o ts => tail19 o n r a ts) y ops3 = true := by kernel_rfl
theorem t19_2b3 (n : List UInt8) (r : Rt) (a : List Ex) : fam2b acR (fun o ts => tail19 o n r a ts) ops3 = true := by kernel_rfl
theorem t19_2a4 (n : List UInt8) (r : Rt) (a : List Ex) (y : Nat) : fam2a acR (fun o ts => tail19 o n r a ts) y ops4 = true := by kernel_rfl
theorem t19_2b4 (n : List UInt8) (r : Rt) (a : List Ex) : fam2b acR (fun o ts => tail19 o n r a ts) ops4 = true := by kernel_rfl
theorem t19_2a5 (n : List UInt8) (r : Rt) (a : List Ex) (y : Nat) : fam2a acR (fun o ts => tail19 o n r a ts) y ops5 = true := by kernel_rfl
theorem t19_2b5 (n : List UInt8) (r : Rt) (a : List Ex) : fam2b acR (fun o ts => tail19 o n r a ts) ops5 = true := by kernel_rfl
theorem t19_3a (n : List UInt8) (r : Rt) (a : List Ex) (y z : Nat) : fam3a (fun o ts => tail19 o n r a ts) y z = true := by kernel_rfl
theorem t19_3b (n : List UInt8) (r : Rt) (a : List Ex) (z : Nat) : fam3b (fun o ts => tail19 o n r a ts) z = true := by kernel_rfl
theorem t19_3c (n : List UInt8) (r : Rt) (a : List Ex) : fam3c (fun o ts => tail19 o n r a ts) = true := by kernel_rfl
end Go.Proofs.YtnljmpeaeajcoaaGreatDoor

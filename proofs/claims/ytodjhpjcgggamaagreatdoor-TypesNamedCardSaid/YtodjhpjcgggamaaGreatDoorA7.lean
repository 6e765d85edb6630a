/- PROVED: the law viatorlaw44.TypesNamed returns true, and its arguments read as they did, for every expression and every fleet, in every memory. No condition. -/
import Derived.Test.YtodjhpjcgggamaaGreatDoorA6
import Derived.Sort.Walk0
import Derived.DataReads
import Derived.ChangeArms
import Derived.Deep.DeepHandedRow
import Derived.Test.YtodjhpjcgggamaaGreatDoorCards
import Derived.Test.YtodjhpjcgggamaaGreatDoorTie
import Derived.ProofKit
import Derived.OpenShut
import Derived.Lay
import Derived.Carry

set_option linter.all false

namespace Go.Proofs.YtodjhpjcgggamaaGreatDoor
open Go Go.Eng Go.Vi Go.Knuth
noncomputable section
section
local instance : Go.Eng.Mode := Sb
def c9:Code:=codeOf Tryz.f9
def T9:Nat:=Tryz.f9.ntmps
def X9:Code:=lhs (rhs c9)
def A9:Code:=thenOf (rhs X9)
def Y9:Code:=lhs (rhs (rhs c9))
def B9:Code:=thenOf (rhs Y9)
def Z9:Code:=lhs (rhs (rhs (rhs c9)))
def lpA:Code:=bodyOf (bodyOf (rhs (lhs (rhs A9))))
def lpK:Code:=bodyOf (bodyOf (lhs (rhs (rhs A9))))
def inA:Code:=rhs (rhs (rhs A9))
def lpS:Code:=bodyOf (bodyOf (lhs (rhs B9)))
def inS9:Code:=rhs (rhs B9)
def lpC:Code:=bodyOf (bodyOf (rhs Z9))
def xRow (x:Ex):Blk:=.row (toAVs (exD x)) false 1
def idEl (g:Nat→Nat) (i:Nat):List Dat:=[.int .i64 (.ofNat (g i))]
def idsA (n:Nat) (g:Nat→Nat):AV:=.dslice n 1 (idEl g)
def zsEl (h:Nat→List UInt8) (i:Nat):List Dat:=[sD (h i)]
def zsA (m:Nat) (h:Nat→List UInt8):AV:=.dslice m 1 (zsEl h)
def s9 (n:Nat) (g:Nat→Nat) (m:Nat) (h:Nat→List UInt8):List (Nat × AV):=[(1,idsA n g),(2,zsA m h),(3,.ptr 0 0)]
theorem k_pre (x:Ex) (n:Nat) (g:Nat→Nat) (m:Nat) (h:Nat→List UInt8) (I:IK):xN [] 60 T9 1 c9 (argSlots [exA x,idsA n g,zsA m h] 0) [] [1,2,3] [0] I=I .normal [some (.dslice n 1 (idEl g)),some (.dslice m 1 (zsEl h)),some (.ptr 0 0)] [some (xRow x)]:=by kernel_rfl
theorem k_op (x:Ex) (n:Nat) (g:Nat→Nat) (m:Nat) (h:Nat→List UInt8) (I:IK):@xE Sb [] 60 T9 (lhs X9) (s9 n g m h) [xRow x] [1,2,3,15] [0] I=I .normal [some (.dslice n 1 (idEl g)),some (.dslice m 1 (zsEl h)),some (.ptr 0 0),some (.bool (ieq x.op 3))] [some (xRow x)]:=by kernel_rfl
theorem k_z (x:Ex) (n:Nat) (g:Nat→Nat) (m:Nat) (h:Nat→List UInt8) (I:IK):@xE Sb [] 60 T9 (lhs A9) (s9 n g m h) [xRow x] [1,2,3,8,9] [0] I=I .normal [some (.dslice n 1 (idEl g)),some (.dslice m 1 (zsEl h)),some (.ptr 0 0),some (.int .i64 0),some (.int .i64 0)] [some (xRow x)]:=by kernel_rfl
theorem k_i (x:Ex) (n:Nat) (g:Nat→Nat) (m:Nat) (h:Nat→List UInt8) (id:Int) (I:IK):@xE Sb [] 60 T9 (lhs (lhs (rhs A9))) (s9 n g m h++[(8,.int .i64 id),(9,.int .i64 0)]) [xRow x] [1,2,3,8,9,10] [0] I=I .normal [some (.dslice n 1 (idEl g)),some (.dslice m 1 (zsEl h)),some (.ptr 0 0),some (.int .i64 id),some (.int .i64 0),some (.int .i64 0)] [some (xRow x)]:=by kernel_rfl
theorem k_ah (x:Ex) (n:Nat) (g:Nat→Nat) (m:Nat) (h:Nat→List UInt8) (id:Int) (i:Nat) (I:IK):@xE Sb [] 60 T9 (lhs (lhs lpA)) (s9 n g m h++[(8,.int .i64 id),(9,.int .i64 0),(10,.int .i64 (.ofNat i))]) [xRow x] [1,2,3,8,9,10,22] [0] I=I .normal [some (.dslice n 1 (idEl g)),some (.dslice m 1 (zsEl h)),some (.ptr 0 0),some (.int .i64 id),some (.int .i64 0),some (.int .i64 (.ofNat i)),some (.bool (ilt (.ofNat i) (.ofNat x.num.mag.length)))] [some (xRow x)]:=by kernel_rfl
theorem k_ab (x:Ex) (n:Nat) (g:Nat→Nat) (m:Nat) (h:Nat→List UInt8) (id:Int) (i:Nat) (I:IK):@xE Sb [] 60 T9 (rhs lpA) (s9 n g m h++[(8,.int .i64 id),(9,.int .i64 0),(10,.int .i64 (.ofNat i))]) [xRow x] [1,2,3,8,9,10] [0] I=gB (inI64 (Int.mul 256 id)) (gB (Nat.blt i x.num.mag.length) (gB (inI64 ((Int.mul 256 id).add (IntKind.i64.wrap (.ofNat (((enc x.num.mag).div (Nat.pow 256 i)).mod 256))))) (gB (inI64 ((Int.ofNat i).add 1)) (I .normal [some (.dslice n 1 (idEl g)),some (.dslice m 1 (zsEl h)),some (.ptr 0 0),some (.int .i64 ((Int.mul 256 id).add (IntKind.i64.wrap (.ofNat (((enc x.num.mag).div (Nat.pow 256 i)).mod 256))))),some (.int .i64 0),some (.int .i64 ((Int.ofNat i).add 1))] [some (xRow x)])))):=by kernel_rfl
theorem k_khT (x:Ex) (n:Nat) (g:Nat→Nat) (m:Nat) (h:Nat→List UInt8) (id:Int) (k:Nat) (I:IK):@xE (So [(137,38,true),(137,45,true)]) [] 60 T9 (lhs (lhs lpK)) (s9 n g m h++[(8,.int .i64 id),(9,.int .i64 (.ofNat k))]) [xRow x] [1,2,3,8,9,46] [0] I=gB (ilt (.ofNat k) (.ofNat n)) (gB (Nat.blt k n) (gB (ilt (.ofNat (g k)) id) (I .normal [some (.dslice n 1 (idEl g)),some (.dslice m 1 (zsEl h)),some (.ptr 0 0),some (.int .i64 id),some (.int .i64 (.ofNat k)),some (.bool true)] [some (xRow x)]))):=by kernel_rfl
theorem k_khF (x:Ex) (n:Nat) (g:Nat→Nat) (m:Nat) (h:Nat→List UInt8) (id:Int) (k:Nat) (I:IK):@xE (So [(137,38,true),(137,45,false)]) [] 60 T9 (lhs (lhs lpK)) (s9 n g m h++[(8,.int .i64 id),(9,.int .i64 (.ofNat k))]) [xRow x] [1,2,3,8,9,46] [0] I=gB (ilt (.ofNat k) (.ofNat n)) (gB (Nat.blt k n) (gN (ilt (.ofNat (g k)) id) (I .normal [some (.dslice n 1 (idEl g)),some (.dslice m 1 (zsEl h)),some (.ptr 0 0),some (.int .i64 id),some (.int .i64 (.ofNat k)),some (.bool false)] [some (xRow x)]))):=by kernel_rfl
theorem k_khE (x:Ex) (n:Nat) (g:Nat→Nat) (m:Nat) (h:Nat→List UInt8) (id:Int) (k:Nat) (I:IK):@xE (So [(137,38,false)]) [] 60 T9 (lhs (lhs lpK)) (s9 n g m h++[(8,.int .i64 id),(9,.int .i64 (.ofNat k))]) [xRow x] [1,2,3,8,9,46] [0] I=gN (ilt (.ofNat k) (.ofNat n)) (I .normal [some (.dslice n 1 (idEl g)),some (.dslice m 1 (zsEl h)),some (.ptr 0 0),some (.int .i64 id),some (.int .i64 (.ofNat k)),some (.bool false)] [some (xRow x)]):=by kernel_rfl
theorem k_kb (x:Ex) (n:Nat) (g:Nat→Nat) (m:Nat) (h:Nat→List UInt8) (id:Int) (k:Nat) (I:IK):@xE Sb [] 60 T9 (rhs lpK) (s9 n g m h++[(8,.int .i64 id),(9,.int .i64 (.ofNat k))]) [xRow x] [1,2,3,8,9] [0] I=gB (inI64 ((Int.ofNat k).add 1)) (I .normal [some (.dslice n 1 (idEl g)),some (.dslice m 1 (zsEl h)),some (.ptr 0 0),some (.int .i64 id),some (.int .i64 ((Int.ofNat k).add 1))] [some (xRow x)]):=by kernel_rfl
theorem k_ktE (x:Ex) (n:Nat) (g:Nat→Nat) (m:Nat) (h:Nat→List UInt8) (id:Int) (k:Nat) (I:IK):@xE (So [(137,52,true)]) [] 60 T9 (lhs inA) (s9 n g m h++[(8,.int .i64 id),(9,.int .i64 (.ofNat k))]) [xRow x] [1,2,3,8,9,60] [0] I=gB (ieq (.ofNat k) (.ofNat n)) (I .normal [some (.dslice n 1 (idEl g)),some (.dslice m 1 (zsEl h)),some (.ptr 0 0),some (.int .i64 id),some (.int .i64 (.ofNat k)),some (.bool true)] [some (xRow x)]):=by kernel_rfl
theorem k_ktN (x:Ex) (n:Nat) (g:Nat→Nat) (m:Nat) (h:Nat→List UInt8) (id:Int) (k:Nat) (I:IK):@xE (So [(137,52,false),(137,59,true)]) [] 60 T9 (lhs inA) (s9 n g m h++[(8,.int .i64 id),(9,.int .i64 (.ofNat k))]) [xRow x] [1,2,3,8,9,60] [0] I=gN (ieq (.ofNat k) (.ofNat n)) (gB (Nat.blt k n) (gB (!ieq (.ofNat (g k)) id) (I .normal [some (.dslice n 1 (idEl g)),some (.dslice m 1 (zsEl h)),some (.ptr 0 0),some (.int .i64 id),some (.int .i64 (.ofNat k)),some (.bool true)] [some (xRow x)]))):=by kernel_rfl
theorem k_ktQ (x:Ex) (n:Nat) (g:Nat→Nat) (m:Nat) (h:Nat→List UInt8) (id:Int) (k:Nat) (I:IK):@xE (So [(137,52,false),(137,59,false)]) [] 60 T9 (lhs inA) (s9 n g m h++[(8,.int .i64 id),(9,.int .i64 (.ofNat k))]) [xRow x] [1,2,3,8,9,60] [0] I=gN (ieq (.ofNat k) (.ofNat n)) (gB (Nat.blt k n) (gN (!ieq (.ofNat (g k)) id) (I .normal [some (.dslice n 1 (idEl g)),some (.dslice m 1 (zsEl h)),some (.ptr 0 0),some (.int .i64 id),some (.int .i64 (.ofNat k)),some (.bool false)] [some (xRow x)]))):=by kernel_rfl
theorem k_in0 (x:Ex) (n:Nat) (g:Nat→Nat) (m:Nat) (h:Nat→List UInt8) (id:Int) (I:IK):@xE (So [(0,0,true)]) [] 100 T9 (thenOf (rhs inA)) (s9 n g m h++[(8,.int .i64 id),(9,.int .i64 0)]) [xRow x] [1,2,3] [0,3] I=gateP ((Nat.ble 1 (Nat.add 1 (Nat.sub n 0)))=true) (gB (allSc (toAVs (firstEls (fun i=>idEl g (i.add 0)) (n.sub 0)))) (gB (Nat.ble (Nat.add 1 (Nat.sub n 0)) 9223372036854775807) (gB (smallOk Tryz.prog 3 (((Nat.add 0 (Nat.sub 0 0)).add 1).add (n.sub 0))) (I .normal [some (.slice 3 0 (Nat.add 1 (Nat.sub n 0)) (Nat.add 1 (Nat.sub n 0)) true),some (.dslice m 1 (zsEl h)),some (.ptr 0 0)] [some (xRow x),some (.row ((.int .i64 id)::(List.append [] (toAVs (firstEls (fun i=>idEl g (i.add 0)) (n.sub 0))))) true 1)])))):=by kernel_rfl
theorem k_inS (x:Ex) (n:Nat) (g:Nat→Nat) (m:Nat) (h:Nat→List UInt8) (id:Int) (k:Nat) (I:IK):@xE (So [(0,0,true)]) [] 100 T9 (thenOf (rhs inA)) (s9 n g m h++[(8,.int .i64 id),(9,.int .i64 (.ofNat (Nat.succ k)))]) [xRow x] [1,2,3] [0,4] I=gB (Nat.ble k.succ n) (gB (Nat.ble (Nat.add 0 (Nat.sub k.succ 0)) 9223372036854775807) (gB (smallOk Tryz.prog 3 (Nat.add 0 (k.succ.sub 0))) (gateP ((Nat.ble (Nat.add 0 (Nat.sub k.succ 0)) (Nat.add (Nat.add 0 (Nat.sub k.succ 0)) 1))=true) (gB (Nat.ble (Nat.mul (Nat.add 0 (Nat.sub k.succ 0)) 1) (lenL (List.drop 0 (List.append [] (toAVs (firstEls (fun i=>idEl g (i.add 0)) (k.succ.sub 0))))))) (gB (Nat.beq (lenL (List.append [] (toAVs (firstEls (fun i=>idEl g (i.add 0)) (k.succ.sub 0))))) (Nat.mul (Nat.add 0 (Nat.sub k.succ 0)) 1)) (gB (Nat.ble (Nat.add (Nat.add 0 (Nat.sub k.succ 0)) 1) 9223372036854775807) (gB (smallOk Tryz.prog 3 ((Nat.add 0 (k.succ.sub 0)).add 1)) (gB (Nat.ble k.succ n) (gateP ((Nat.ble (Nat.add (Nat.add 0 (Nat.sub k.succ 0)) 1) (Nat.add (Nat.add (Nat.add 0 (Nat.sub k.succ 0)) 1) (Nat.sub n k.succ)))=true) (gB (Nat.ble (Nat.mul (Nat.add (Nat.add 0 (Nat.sub k.succ 0)) 1) 1) (lenL (List.drop 0 (List.append (List.take (Nat.mul (Nat.add 0 (Nat.sub k.succ 0)) 1) (List.drop 0 (List.append [] (toAVs (firstEls (fun i=>idEl g (i.add 0)) (k.succ.sub 0)))))) [AV.int IntKind.i64 id])))) (gB (Nat.beq (lenL (List.append (List.take (Nat.mul (Nat.add 0 (Nat.sub k.succ 0)) 1) (List.drop 0 (List.append [] (toAVs (firstEls (fun i=>idEl g (i.add 0)) (k.succ.sub 0)))))) [AV.int IntKind.i64 id])) (Nat.mul (Nat.add (Nat.add 0 (Nat.sub k.succ 0)) 1) 1)) (gB (allSc (toAVs (firstEls (fun i=>idEl g (i.add k.succ)) (n.sub k.succ)))) (gB (Nat.ble (Nat.add (Nat.add (Nat.add 0 (Nat.sub k.succ 0)) 1) (Nat.sub n k.succ)) 9223372036854775807) (gB (smallOk Tryz.prog 3 (((Nat.add 0 (k.succ.sub 0)).add 1).add (n.sub k.succ))) (I .normal [some (.slice 4 0 (Nat.add (Nat.add (Nat.add 0 (Nat.sub k.succ 0)) 1) (Nat.sub n k.succ)) (Nat.add (Nat.add (Nat.add 0 (Nat.sub k.succ 0)) 1) (Nat.sub n k.succ)) true),some (.dslice m 1 (zsEl h)),some (.ptr 0 0)] [some (xRow x),some (.row (List.append (List.take (Nat.mul (Nat.add (Nat.add 0 (Nat.sub k.succ 0)) 1) 1) (List.drop 0 (List.append (List.take (Nat.mul (Nat.add 0 (Nat.sub k.succ 0)) 1) (List.drop 0 (List.append [] (toAVs (firstEls (fun i=>idEl g (i.add 0)) (k.succ.sub 0)))))) [AV.int IntKind.i64 id]))) (toAVs (firstEls (fun i=>idEl g (i.add k.succ)) (n.sub k.succ)))) true 1)]))))))))))))))):=by kernel_rfl
theorem b_op (x:Ex) (n:Nat) (g:Nat→Nat) (m:Nat) (h:Nat→List UInt8) (I:IK):@xE Sb [] 60 T9 (lhs Y9) (s9 n g m h) [xRow x] [1,2,3,75] [0] I=I .normal [some (.dslice n 1 (idEl g)),some (.dslice m 1 (zsEl h)),some (.ptr 0 0),some (.bool (ieq x.op 5))] [some (xRow x)]:=by kernel_rfl
theorem b_z (x:Ex) (n:Nat) (g:Nat→Nat) (m:Nat) (h:Nat→List UInt8) (I:IK):@xE Sb [] 60 T9 (lhs B9) (s9 n g m h) [xRow x] [1,2,3,11] [0] I=I .normal [some (.dslice n 1 (idEl g)),some (.dslice m 1 (zsEl h)),some (.ptr 0 0),some (.int .i64 0)] [some (xRow x)]:=by kernel_rfl
theorem b_khT (x:Ex) (n:Nat) (g:Nat→Nat) (m:Nat) (h:Nat→List UInt8) (k:Nat) (I:IK):@xE (So [(137,79,true),(137,87,true)]) [] 60 T9 (lhs (lhs lpS)) (s9 n g m h++[(11,.int .i64 (.ofNat k))]) [xRow x] [1,2,3,11,88] [0] I=gB (ilt (.ofNat k) (.ofNat m)) (gB (Nat.blt k m) (gB (sltA (h k).length (enc (h k)) x.name.length (enc x.name)) (I .normal [some (.dslice n 1 (idEl g)),some (.dslice m 1 (zsEl h)),some (.ptr 0 0),some (.int .i64 (.ofNat k)),some (.bool true)] [some (xRow x)]))):=by kernel_rfl
theorem b_khF (x:Ex) (n:Nat) (g:Nat→Nat) (m:Nat) (h:Nat→List UInt8) (k:Nat) (I:IK):@xE (So [(137,79,true),(137,87,false)]) [] 60 T9 (lhs (lhs lpS)) (s9 n g m h++[(11,.int .i64 (.ofNat k))]) [xRow x] [1,2,3,11,88] [0] I=gB (ilt (.ofNat k) (.ofNat m)) (gB (Nat.blt k m) (gN (sltA (h k).length (enc (h k)) x.name.length (enc x.name)) (I .normal [some (.dslice n 1 (idEl g)),some (.dslice m 1 (zsEl h)),some (.ptr 0 0),some (.int .i64 (.ofNat k)),some (.bool false)] [some (xRow x)]))):=by kernel_rfl
theorem b_khE (x:Ex) (n:Nat) (g:Nat→Nat) (m:Nat) (h:Nat→List UInt8) (k:Nat) (I:IK):@xE (So [(137,79,false)]) [] 60 T9 (lhs (lhs lpS)) (s9 n g m h++[(11,.int .i64 (.ofNat k))]) [xRow x] [1,2,3,11,88] [0] I=gN (ilt (.ofNat k) (.ofNat m)) (I .normal [some (.dslice n 1 (idEl g)),some (.dslice m 1 (zsEl h)),some (.ptr 0 0),some (.int .i64 (.ofNat k)),some (.bool false)] [some (xRow x)]):=by kernel_rfl
theorem b_kb (x:Ex) (n:Nat) (g:Nat→Nat) (m:Nat) (h:Nat→List UInt8) (k:Nat) (I:IK):@xE Sb [] 60 T9 (rhs lpS) (s9 n g m h++[(11,.int .i64 (.ofNat k))]) [xRow x] [1,2,3,11] [0] I=gB (inI64 ((Int.ofNat k).add 1)) (I .normal [some (.dslice n 1 (idEl g)),some (.dslice m 1 (zsEl h)),some (.ptr 0 0),some (.int .i64 ((Int.ofNat k).add 1))] [some (xRow x)]):=by kernel_rfl
theorem b_ktE (x:Ex) (n:Nat) (g:Nat→Nat) (m:Nat) (h:Nat→List UInt8) (k:Nat) (I:IK):@xE (So [(137,94,true)]) [] 60 T9 (lhs inS9) (s9 n g m h++[(11,.int .i64 (.ofNat k))]) [xRow x] [1,2,3,11,103] [0] I=gB (ieq (.ofNat k) (.ofNat m)) (I .normal [some (.dslice n 1 (idEl g)),some (.dslice m 1 (zsEl h)),some (.ptr 0 0),some (.int .i64 (.ofNat k)),some (.bool true)] [some (xRow x)]):=by kernel_rfl
theorem b_ktN (x:Ex) (n:Nat) (g:Nat→Nat) (m:Nat) (h:Nat→List UInt8) (k:Nat) (I:IK):@xE (So [(137,94,false),(137,102,true)]) [] 60 T9 (lhs inS9) (s9 n g m h++[(11,.int .i64 (.ofNat k))]) [xRow x] [1,2,3,11,103] [0] I=gN (ieq (.ofNat k) (.ofNat m)) (gB (Nat.blt k m) (gB (!seqA (h k).length (enc (h k)) x.name.length (enc x.name)) (I .normal [some (.dslice n 1 (idEl g)),some (.dslice m 1 (zsEl h)),some (.ptr 0 0),some (.int .i64 (.ofNat k)),some (.bool true)] [some (xRow x)]))):=by kernel_rfl
theorem b_ktQ (x:Ex) (n:Nat) (g:Nat→Nat) (m:Nat) (h:Nat→List UInt8) (k:Nat) (I:IK):@xE (So [(137,94,false),(137,102,false)]) [] 60 T9 (lhs inS9) (s9 n g m h++[(11,.int .i64 (.ofNat k))]) [xRow x] [1,2,3,11,103] [0] I=gN (ieq (.ofNat k) (.ofNat m)) (gB (Nat.blt k m) (gN (!seqA (h k).length (enc (h k)) x.name.length (enc x.name)) (I .normal [some (.dslice n 1 (idEl g)),some (.dslice m 1 (zsEl h)),some (.ptr 0 0),some (.int .i64 (.ofNat k)),some (.bool false)] [some (xRow x)]))):=by kernel_rfl
theorem b_in0 (x:Ex) (n:Nat) (g:Nat→Nat) (m:Nat) (h:Nat→List UInt8) (I:IK):@xE (So [(0,0,true)]) [] 100 T9 (thenOf (rhs inS9)) (s9 n g m h++[(11,.int .i64 0)]) [xRow x] [1,2,3] [0,3] I=gateP ((Nat.ble 1 (Nat.add 1 (Nat.sub m 0)))=true) (gB (allSc (toAVs (firstEls (fun i=>zsEl h (i.add 0)) (m.sub 0)))) (gB (Nat.ble (Nat.add 1 (Nat.sub m 0)) 9223372036854775807) (gB (smallOk Tryz.prog 9 (((Nat.add 0 (Nat.sub 0 0)).add 1).add (m.sub 0))) (gB (gB (gB (gX (strA x.name) true) (gB (gX (strA x.name) true) true)) true) (I .normal [some (.dslice n 1 (idEl g)),some (.slice 3 0 (Nat.add 1 (Nat.sub m 0)) (Nat.add 1 (Nat.sub m 0)) true),some (.ptr 0 0)] [some (xRow x),some (.row ((strA x.name)::(List.append [] (toAVs (firstEls (fun i=>zsEl h (i.add 0)) (m.sub 0))))) true 1)]))))):=by kernel_rfl
theorem b_inS (x:Ex) (n:Nat) (g:Nat→Nat) (m:Nat) (h:Nat→List UInt8) (k:Nat) (I:IK):@xE (So [(0,0,true)]) [] 100 T9 (thenOf (rhs inS9)) (s9 n g m h++[(11,.int .i64 (.ofNat (Nat.succ k)))]) [xRow x] [1,2,3] [0,4] I=gB (Nat.ble k.succ m) (gB (Nat.ble (Nat.add 0 (Nat.sub k.succ 0)) 9223372036854775807) (gB (smallOk Tryz.prog 9 (Nat.add 0 (k.succ.sub 0))) (gateP ((Nat.ble (Nat.add 0 (Nat.sub k.succ 0)) (Nat.add (Nat.add 0 (Nat.sub k.succ 0)) 1))=true) (gB (Nat.ble (Nat.mul (Nat.add 0 (Nat.sub k.succ 0)) 1) (lenL (List.drop 0 (List.append [] (toAVs (firstEls (fun i=>zsEl h (i.add 0)) (k.succ.sub 0))))))) (gB (Nat.beq (lenL (List.append [] (toAVs (firstEls (fun i=>zsEl h (i.add 0)) (k.succ.sub 0))))) (Nat.mul (Nat.add 0 (Nat.sub k.succ 0)) 1)) (gB (Nat.ble (Nat.add (Nat.add 0 (Nat.sub k.succ 0)) 1) 9223372036854775807) (gB (smallOk Tryz.prog 9 ((Nat.add 0 (k.succ.sub 0)).add 1)) (gB (Nat.ble k.succ m) (gateP ((Nat.ble (Nat.add (Nat.add 0 (Nat.sub k.succ 0)) 1) (Nat.add (Nat.add (Nat.add 0 (Nat.sub k.succ 0)) 1) (Nat.sub m k.succ)))=true) (gB (Nat.ble (Nat.mul (Nat.add (Nat.add 0 (Nat.sub k.succ 0)) 1) 1) (lenL (List.drop 0 (List.append (List.take (Nat.mul (Nat.add 0 (Nat.sub k.succ 0)) 1) (List.drop 0 (List.append [] (toAVs (firstEls (fun i=>zsEl h (i.add 0)) (k.succ.sub 0)))))) [strA x.name])))) (gB (Nat.beq (lenL (List.append (List.take (Nat.mul (Nat.add 0 (Nat.sub k.succ 0)) 1) (List.drop 0 (List.append [] (toAVs (firstEls (fun i=>zsEl h (i.add 0)) (k.succ.sub 0)))))) [strA x.name])) (Nat.mul (Nat.add (Nat.add 0 (Nat.sub k.succ 0)) 1) 1)) (gB (allSc (toAVs (firstEls (fun i=>zsEl h (i.add k.succ)) (m.sub k.succ)))) (gB (Nat.ble (Nat.add (Nat.add (Nat.add 0 (Nat.sub k.succ 0)) 1) (Nat.sub m k.succ)) 9223372036854775807) (gB (smallOk Tryz.prog 9 (((Nat.add 0 (k.succ.sub 0)).add 1).add (m.sub k.succ))) (gB (gB (gB (gX (strA x.name) true) (gB (gX (strA x.name) true) true)) true) (I .normal [some (.dslice n 1 (idEl g)),some (.slice 4 0 (Nat.add (Nat.add (Nat.add 0 (Nat.sub k.succ 0)) 1) (Nat.sub m k.succ)) (Nat.add (Nat.add (Nat.add 0 (Nat.sub k.succ 0)) 1) (Nat.sub m k.succ)) true),some (.ptr 0 0)] [some (xRow x),some (.row (List.append (List.take (Nat.mul (Nat.add (Nat.add 0 (Nat.sub k.succ 0)) 1) 1) (List.drop 0 (List.append (List.take (Nat.mul (Nat.add 0 (Nat.sub k.succ 0)) 1) (List.drop 0 (List.append [] (toAVs (firstEls (fun i=>zsEl h (i.add 0)) (k.succ.sub 0)))))) [strA x.name]))) (toAVs (firstEls (fun i=>zsEl h (i.add k.succ)) (m.sub k.succ)))) true 1)])))))))))))))))):=by kernel_rfl
theorem c_i (x:Ex) (n:Nat) (g:Nat→Nat) (m:Nat) (h:Nat→List UInt8) (I:IK):@xE Sb [] 60 T9 (lhs Z9) (s9 n g m h) [xRow x] [1,2,3,12] [0] I=I .normal [some (.dslice n 1 (idEl g)),some (.dslice m 1 (zsEl h)),some (.ptr 0 0),some (.int .i64 0)] [some (xRow x)]:=by kernel_rfl
theorem c_h (x:Ex) (n:Nat) (g:Nat→Nat) (m:Nat) (h:Nat→List UInt8) (i:Nat) (I:IK):@xE Sb [] 60 T9 (lhs (lhs lpC)) (s9 n g m h++[(12,.int .i64 (.ofNat i))]) [xRow x] [1,2,3,12,121] [0] I=I .normal [some (.dslice n 1 (idEl g)),some (.dslice m 1 (zsEl h)),some (.ptr 0 0),some (.int .i64 (.ofNat i)),some (.bool (ilt (.ofNat i) (.ofNat x.args.length)))] [some (xRow x)]:=by kernel_rfl
def eNa (y:Ex) (n:Nat) (g:Nat→Nat) (m:Nat) (h:Nat→List UInt8) (n':Nat) (g':Nat→Nat) (m':Nat) (h':Nat→List UInt8):FuncId × SEnt:=(9,⟨[exA y,idsA n g,zsA m h],[],.tuple [idsA n' g',zsA m' h']⟩)
def E9:Code:=rhs (rhs (rhs (rhs c9)))
theorem c_b0 (o:Int) (nm:List UInt8) (r:Rt) (y:Ex) (a:List Ex) (n:Nat) (g:Nat→Nat) (m:Nat) (h:Nat→List UInt8) (n':Nat) (g':Nat→Nat) (m':Nat) (h':Nat→List UInt8) (I:IK):xE [eNa y n g m h n' g' m' h'] 60 T9 (rhs lpC) (s9 n g m h++[(12,.int .i64 0)]) [xRow (.mk o nm r (y::a))] [1,2,3,12] [0] I=gX (eNa y n g m h n' g' m' h').snd.args (I .normal [some (idsA n' g'),some (zsA m' h'),some (.ptr 0 0),some (.int .i64 (0+1))] [some (xRow (.mk o nm r (y::a)))]):=by kernel_rfl
theorem c_b1 (o:Int) (nm:List UInt8) (r:Rt) (u0 y:Ex) (a:List Ex) (n:Nat) (g:Nat→Nat) (m:Nat) (h:Nat→List UInt8) (n':Nat) (g':Nat→Nat) (m':Nat) (h':Nat→List UInt8) (I:IK):xE [eNa y n g m h n' g' m' h'] 60 T9 (rhs lpC) (s9 n g m h++[(12,.int .i64 1)]) [xRow (.mk o nm r (u0::y::a))] [1,2,3,12] [0] I=gX (eNa y n g m h n' g' m' h').snd.args (I .normal [some (idsA n' g'),some (zsA m' h'),some (.ptr 0 0),some (.int .i64 (1+1))] [some (xRow (.mk o nm r (u0::y::a)))]):=by kernel_rfl
theorem c_b2 (o:Int) (nm:List UInt8) (r:Rt) (u0 u1 y:Ex) (a:List Ex) (n:Nat) (g:Nat→Nat) (m:Nat) (h:Nat→List UInt8) (n':Nat) (g':Nat→Nat) (m':Nat) (h':Nat→List UInt8) (I:IK):xE [eNa y n g m h n' g' m' h'] 60 T9 (rhs lpC) (s9 n g m h++[(12,.int .i64 2)]) [xRow (.mk o nm r (u0::u1::y::a))] [1,2,3,12] [0] I=gX (eNa y n g m h n' g' m' h').snd.args (I .normal [some (idsA n' g'),some (zsA m' h'),some (.ptr 0 0),some (.int .i64 (2+1))] [some (xRow (.mk o nm r (u0::u1::y::a)))]):=by kernel_rfl
theorem c_fin (x:Ex) (n:Nat) (g:Nat→Nat) (m:Nat) (h:Nat→List UInt8) (i:Nat) (I:AK):xR [] 60 T9 E9 (s9 n g m h++[(12,.int .i64 (.ofNat i))]) [xRow x] Tryz.f9 [] I=I (.tuple [.dslice n 1 (idEl g),.dslice m 1 (zsEl h)]) []:=by kernel_rfl
end
end
end Go.Proofs.YtodjhpjcgggamaaGreatDoor

namespace Go.Proofs.YtodjhpjcgggamaaGreatDoor
open Go Go.Eng Go.Vi Go.Knuth
noncomputable section
section
local instance : Go.Eng.Mode := Sb
theorem first_take {α:Type} (D:α→Dat) (d:α) (l:List α) (a:Nat):∀ m,a+m≤l.length→firstEls (fun i=>[D (l.getD (i+a) d)]) m=((l.drop a).take m).map D
 | 0,_=>by show ([]:List Dat)=((l.drop a).take 0).map D;simp
 | m+1,h=>by
  have ih:=first_take D d l a m (by omega)
  have h1:(l.drop a).take (m+1)=(l.drop a).take m++[l[m+a]'(by omega)]:=by
   rw [List.take_add_one,List.getElem?_drop,List.getElem?_eq_getElem (by omega)]
   simp [Nat.add_comm]
  rw [h1,List.map_append,← ih]
  show firstEls _ m++[D (l.getD (m+a) d)]=_
  rw [getD_lt d (by omega)]
  rfl
theorem allSc_map {α:Type} (D:α→Dat) (h:∀ a,isSc (toAV (D a))=true):∀ l:List α,allSc (toAVs (l.map D))=true
 | []=>rfl
 | a::l=>by
  have ih:=allSc_map D h l
  show Bool.rec (motive:=fun _=>Bool) false (allSc (toAVs (l.map D))) (isSc (toAV (D a)))=true
  rw [h a];exact ih
theorem row_take {α:Type} (D:α→Dat) (L:List α) {n:Nat} (h:L.length=n):List.take n (toAVs (L.map D))=toAVs (L.map D):=List.take_of_length_le (by rw [toAVs_length,List.length_map];omega)
def sL (l:List Nat) (z:List (List UInt8)):List (Nat × AV):=s9 l.length (fun i=>l.getD i 0) z.length (fun i=>z.getD i [])
abbrev KW (x:Ex) (s:List (Nat × AV)) (c:Code) (Q:AE→Fr→Mem→Prop):Prop:=W Tryz.prog T9 0 c (mkFr s) (mkMem [xRow x]) Q
theorem plnX (x:Ex):Pln [xRow x]:=Pln.cons Pln.nil
theorem fz_row {α:Type} (D:α→Dat) (d:α) (L:List α) {b N k:Nat} {op op':Bool} {sz:Nat} (hN:L.length=N) (hk:k≤b) {M:Mem} (hb:M.t.get b=some (.row (toAVs (L.map D)) op sz)):FzD k M (.slice b 0 N N op') (slD D d L):=by
 subst hN
 refine .slice b 0 _ _ op' _ op sz 1 _ hk hb (Nat.le_refl _) (by rw [toAVs_length,List.length_map];omega) fun i hi=>?_
 have h:=row_el D d L [] i hi
 rw [List.append_nil] at h
 rw [h]
 exact .cons _ _ _ _ (.same _) .nil
theorem FzBs.sames {k:Nat} {M:Mem}:∀ ds:List Dat,FzBs k M (toAVs ds) (toAVs ds)
 | []=>.nil
 | d::ds=>.cons _ _ _ _ (.cell _ _ (.dat _ d (.same d))) (FzBs.sames ds)
theorem fz_rows {x:Ex} {M:Mem} (h:M.t.get 0=some (xRow x)):∀ (j:Nat) (b:Blk),[xRow x][j]? = some b→∃ c c' op sz,b=.row c' op sz∧M.t.get j=some (.row c op sz)∧FzBs [xRow x].length M c c':=by
 intro j b hb
 cases j with
 | zero =>
  obtain rfl:xRow x=b:=by simpa using hb
  exact ⟨_,_,_,_,rfl,h,FzBs.sames (exD x)⟩
 | succ j=>simp at hb
theorem fzI {x:Ex} {l':List Nat} {z:List (List UInt8)} {N b:Nat} {fr:Fr} {M:Mem} {c:Code} {Q:AE→Fr→Mem→Prop} (hv:lv [1,2,3] fr=[some (.slice b 0 N N true),some (slA sD [] z),some (.ptr 0 0)]) (hb:1≤b)
  (hM:mv [0,b] M=[some (xRow x),some (.row (toAVs (l'.map nD)) true 1)]) (hN:l'.length=N) (h:KW x (sL l' z) c Q):W Tryz.prog T9 0 c fr M Q:=by
 have hv:[fr.get 1,fr.get 2,fr.get 3]=_:=hv
 simp only [List.cons.injEq,and_true] at hv
 refine W.fz (sL l' z) [xRow x] (Nat.zero_le _) ?_ (fz_rows (mv_two hM).1) h
 intro p hp
 rcases List.mem_cons.1 hp with rfl | hp
 ·exact ⟨_,hv.1,.cell _ _ (.dat _ (slD nD 0 l') (fz_row nD 0 l' hN hb (mv_two hM).2))⟩
 rcases List.mem_cons.1 hp with rfl | hp
 ·exact ⟨_,hv.2.1,.cell _ _ (.dat _ (slD sD [] z) (.same (slD sD [] z)))⟩
 obtain rfl:=List.mem_singleton.1 hp
 exact ⟨_,hv.2.2,.cell _ _ (.ptr 0 0 (Nat.lt_succ_self 0))⟩
theorem fzS {x:Ex} {l:List Nat} {z':List (List UInt8)} {N b:Nat} {fr:Fr} {M:Mem} {c:Code} {Q:AE→Fr→Mem→Prop} (hv:lv [1,2,3] fr=[some (slA nD 0 l),some (.slice b 0 N N true),some (.ptr 0 0)]) (hb:1≤b)
  (hM:mv [0,b] M=[some (xRow x),some (.row (toAVs (z'.map sD)) true 1)]) (hN:z'.length=N) (h:KW x (sL l z') c Q):W Tryz.prog T9 0 c fr M Q:=by
 have hv:[fr.get 1,fr.get 2,fr.get 3]=_:=hv
 simp only [List.cons.injEq,and_true] at hv
 refine W.fz (sL l z') [xRow x] (Nat.zero_le _) ?_ (fz_rows (mv_two hM).1) h
 intro p hp
 rcases List.mem_cons.1 hp with rfl | hp
 ·exact ⟨_,hv.1,.cell _ _ (.dat _ (slD nD 0 l) (.same (slD nD 0 l)))⟩
 rcases List.mem_cons.1 hp with rfl | hp
 ·exact ⟨_,hv.2.1,.cell _ _ (.dat _ (slD sD [] z') (fz_row sD [] z' hN hb (mv_two hM).2))⟩
 obtain rfl:=List.mem_singleton.1 hp
 exact ⟨_,hv.2.2,.cell _ _ (.ptr 0 0 (Nat.lt_succ_self 0))⟩
theorem insI {x:Ex} {l:List Nat} {z:List (List UInt8)} {v k:Nat} (hk:k≤l.length) (hl:l.length<1000000) {c:Code} {Q:AE→Fr→Mem→Prop}
  (hQ:KW x (sL (l.take k++v::l.drop k) z) c Q):KW x (sL l z++[(8,.int .i64 (.ofNat v)),(9,.int .i64 (.ofNat k))]) (thenOf (rhs inA)) (Nxt Tryz.prog T9 0 c Q):=by
 have eE:∀ a m,a+m≤l.length→firstEls (fun i=>idEl (fun i=>l.getD i 0) (i.add a)) m=((l.drop a).take m).map nD:=fun a m h=>first_take nD 0 l a m h
 have hsc:=allSc_map nD (fun a=>rfl)
 cases k with
 | zero =>
  have key:=fun Q=>@W.run (So [(0,0,true)]) Tryz.prog hm X0 hX0l [] (fun _ h=>by cases h) T9 0 _ _ _ Q 100 [1,2,3] [0,3] _ (k_in0 x l.length (fun i=>l.getD i 0) z.length (fun i=>z.getD i []) (.ofNat v))
  refine key _ ?_
  rw [show l.length.sub 0=l.length from rfl,eE 0 l.length (by omega)]
  simp only [gB_iff,gateP_iff,small3,hsc,true_and,Nat.add_eq,Nat.sub_eq,Nat.mul_eq,Nat.zero_add,Nat.sub_zero,Nat.ble_eq,List.append_eq,List.nil_append]
  refine ⟨by omega,by omega,by omega,pdec_iff.2 fun fr M hv hM=>?_⟩
  refine fzI hv (by decide) (l':=l.take 0++v::l.drop 0) (hM.trans ?_) (by simp;omega) hQ
  have:(l.drop 0).take l.length=l:=by simp
  rw [this]
  rfl
 | succ k =>
  have key:=fun Q=>@W.run (So [(0,0,true)]) Tryz.prog hm X0 hX0l [] (fun _ h=>by cases h) T9 0 _ _ _ Q 100 [1,2,3] [0,4] _ (k_inS x l.length (fun i=>l.getD i 0) z.length (fun i=>z.getD i []) (.ofNat v) k)
  refine key _ ?_
  have e1:firstEls (fun i=>idEl (fun i=>l.getD i 0) (i.add 0)) (k.succ.sub 0)=(l.take (k+1)).map nD:=eE 0 (k+1) (by omega)
  have e2:firstEls (fun i=>idEl (fun i=>l.getD i 0) (i.add k.succ)) (l.length.sub k.succ)=(l.drop (k+1)).map nD:=by
   rw [eE k.succ (l.length.sub k.succ) (by show k+1+(l.length-(k+1))≤_;omega)]
   congr 1
   exact List.take_of_length_le (by rw [List.length_drop];exact Nat.le_refl _)
  have hlen:(l.take (k+1)).length=k+1:=by rw [List.length_take];omega
  have hlen1:(toAVs ((l.take (k+1)).map nD)).length=k+1:=by rw [toAVs_length,List.length_map,hlen]
  have t1:=row_take nD (l.take (k+1)) hlen
  have t2:List.take (k+1+1) (toAVs ((l.take (k+1)).map nD)++[.int .i64 (.ofNat v)])=toAVs ((l.take (k+1)).map nD)++[.int .i64 (.ofNat v)]:=List.take_of_length_le (by rw [List.length_append,hlen1];exact Nat.le_refl _)
  have hlen2:(toAVs ((l.take (k+1)).map nD)++[AV.int .i64 (.ofNat v)]).length=k+1+1:=by rw [List.length_append,hlen1];rfl
  rw [e1,e2]
  simp only [gB_iff,gateP_iff,small3,hsc,true_and,Nat.add_eq,Nat.sub_eq,Nat.mul_eq,Nat.zero_add,Nat.sub_zero,Nat.ble_eq,Nat.beq_eq,List.append_eq,List.nil_append,Nat.succ_eq_add_one,List.drop_zero,lenL_eq,Nat.mul_one,t1,t2,hlen1,hlen2]
  repeat (refine ⟨by omega,?_⟩)
  refine pdec_iff.2 fun fr M hv hM=>?_
  refine fzI hv (by decide) (l':=l.take (k+1)++v::l.drop (k+1)) (hM.trans ?_) (by simp;omega) hQ
  rw [List.map_append,toAVs_append,List.append_assoc]
  rfl
theorem insS {x:Ex} {l:List Nat} {z:List (List UInt8)} {k:Nat} (hk:k≤z.length) (hl:z.length<1000000) {c:Code} {Q:AE→Fr→Mem→Prop}
  (hQ:KW x (sL l (z.take k++x.name::z.drop k)) c Q):KW x (sL l z++[(11,.int .i64 (.ofNat k))]) (thenOf (rhs inS9)) (Nxt Tryz.prog T9 0 c Q):=by
 have eE:∀ a m,a+m≤z.length→firstEls (fun i=>zsEl (fun i=>z.getD i []) (i.add a)) m=((z.drop a).take m).map sD:=fun a m h=>first_take sD [] z a m h
 have hsc:=allSc_map sD (fun a=>rfl)
 cases k with
 | zero =>
  have key:=fun Q=>@W.run (So [(0,0,true)]) Tryz.prog hm X0 hX0l [] (fun _ h=>by cases h) T9 0 _ _ _ Q 100 [1,2,3] [0,3] _ (b_in0 x l.length (fun i=>l.getD i 0) z.length (fun i=>z.getD i []))
  refine key _ ?_
  rw [show z.length.sub 0=z.length from rfl,eE 0 z.length (by omega)]
  simp only [gB_iff,gX_iff,gateP_iff,small9,hsc,true_and,Nat.add_eq,Nat.sub_eq,Nat.mul_eq,Nat.zero_add,Nat.sub_zero,Nat.ble_eq,List.append_eq,List.nil_append]
  refine ⟨by omega,by omega,by omega,pdec_iff.2 fun fr M hv hM=>?_⟩
  refine fzS hv (by decide) (z':=z.take 0++x.name::z.drop 0) (hM.trans ?_) (by simp;omega) hQ
  have:(z.drop 0).take z.length=z:=by simp
  rw [this]
  rfl
 | succ k =>
  have key:=fun Q=>@W.run (So [(0,0,true)]) Tryz.prog hm X0 hX0l [] (fun _ h=>by cases h) T9 0 _ _ _ Q 100 [1,2,3] [0,4] _ (b_inS x l.length (fun i=>l.getD i 0) z.length (fun i=>z.getD i []) k)
  refine key _ ?_
  have e1:firstEls (fun i=>zsEl (fun i=>z.getD i []) (i.add 0)) (k.succ.sub 0)=(z.take (k+1)).map sD:=eE 0 (k+1) (by omega)
  have e2:firstEls (fun i=>zsEl (fun i=>z.getD i []) (i.add k.succ)) (z.length.sub k.succ)=(z.drop (k+1)).map sD:=by
   rw [eE k.succ (z.length.sub k.succ) (by show k+1+(z.length-(k+1))≤_;omega)]
   congr 1
   exact List.take_of_length_le (by rw [List.length_drop];exact Nat.le_refl _)
  have hlen:(z.take (k+1)).length=k+1:=by rw [List.length_take];omega
  have hlen1:(toAVs ((z.take (k+1)).map sD)).length=k+1:=by rw [toAVs_length,List.length_map,hlen]
  have t1:=row_take sD (z.take (k+1)) hlen
  have t2:List.take (k+1+1) (toAVs ((z.take (k+1)).map sD)++[strA x.name])=toAVs ((z.take (k+1)).map sD)++[strA x.name]:=List.take_of_length_le (by rw [List.length_append,hlen1];exact Nat.le_refl _)
  have hlen2:(toAVs ((z.take (k+1)).map sD)++[strA x.name]).length=k+1+1:=by rw [List.length_append,hlen1];rfl
  rw [e1,e2]
  simp only [gB_iff,gX_iff,gateP_iff,small9,hsc,true_and,Nat.add_eq,Nat.sub_eq,Nat.mul_eq,Nat.zero_add,Nat.sub_zero,Nat.ble_eq,Nat.beq_eq,List.append_eq,List.nil_append,Nat.succ_eq_add_one,List.drop_zero,lenL_eq,Nat.mul_one,t1,t2,hlen1,hlen2]
  repeat (refine ⟨by omega,?_⟩)
  refine pdec_iff.2 fun fr M hv hM=>?_
  refine fzS hv (by decide) (z':=z.take (k+1)++x.name::z.drop (k+1)) (hM.trans ?_) (by simp;omega) hQ
  rw [List.map_append,toAVs_append,List.append_assoc]
  rfl
end
end
end Go.Proofs.YtodjhpjcgggamaaGreatDoor

namespace Go.Proofs.YtodjhpjcgggamaaGreatDoor
open Go Go.Eng Go.Vi Go.Knuth
noncomputable section
section
local instance : Go.Eng.Mode := Sb
theorem x9_eq:X9=.seq (lhs X9) (.cond (.tmp 15) A9 .skip):=by kernel_rfl
theorem a9_eq:A9=.seq (lhs A9) (.seq (.seq (lhs (lhs (rhs A9))) (.block 0 (.loop lpA))) (.seq (.block 2 (.loop lpK)) inA)):=by kernel_rfl
theorem lpA_eq:lpA=.seq (.seq (lhs (lhs lpA)) (.cond (.tmp 22) .skip (.exit 0))) (rhs lpA):=by kernel_rfl
theorem lpK_eq:lpK=.seq (.seq (lhs (lhs lpK)) (.cond (.tmp 46) .skip (.exit 2))) (rhs lpK):=by kernel_rfl
theorem inA_eq:inA=.seq (lhs inA) (.cond (.tmp 60) (thenOf (rhs inA)) .skip):=by kernel_rfl
theorem y9_eq:Y9=.seq (lhs Y9) (.cond (.tmp 75) B9 .skip):=by kernel_rfl
theorem b9_eq:B9=.seq (lhs B9) (.seq (.block 4 (.loop lpS)) inS9):=by kernel_rfl
theorem lpS_eq:lpS=.seq (.seq (lhs (lhs lpS)) (.cond (.tmp 88) .skip (.exit 4))) (rhs lpS):=by kernel_rfl
theorem inS_eq:inS9=.seq (lhs inS9) (.cond (.tmp 103) (thenOf (rhs inS9)) .skip):=by kernel_rfl
theorem z9_eq:Z9=.seq (lhs Z9) (.block 6 (.loop lpC)):=by kernel_rfl
theorem lpC_eq:lpC=.seq (.seq (lhs (lhs lpC)) (.cond (.tmp 121) .skip (.exit 6))) (rhs lpC):=by kernel_rfl
theorem p9_eq:post 1 c9=.seq X9 (.seq Y9 (.seq Z9 E9)):=by kernel_rfl
theorem hereX {x:Ex} {s:List (Nat × AV)} {fr:Fr} {M:Mem} (h1:(vals2 [0] s).all Option.isSome=true) (hv:lv (s.map (·.1)) fr=vals2 [0] s) (hM:mv [0] M=[some (xRow x)]):Here 0 s [xRow x] fr M :=
 ⟨[0],by show okPi 0 [0] 1=true;decide,h1,hv,hM⟩
theorem goX {x:Ex} (s:List (Nat × AV)) {c:Code} {Q:AE→Fr→Mem→Prop} {fr:Fr} {M:Mem} (h1:(vals2 [0] s).all Option.isSome=true) (hv:lv (s.map (·.1)) fr=vals2 [0] s) (hM:mv [0] M=[some (xRow x)]) (h:KW x s c Q):W Tryz.prog T9 0 c fr M Q :=
 W.here (plnX x) (hereX h1 hv hM) h
theorem ilt_t {a b:Nat} (h:a<b):ilt (.ofNat a) (.ofNat b)=true:=by rw [natlt];exact decide_eq_true h
theorem ilt_f {a b:Nat} (h:¬ a<b):ilt (.ofNat a) (.ofNat b)=false:=by rw [natlt];exact decide_eq_false h
theorem ieq_n (a b:Nat):ieq (.ofNat a) (.ofNat b)=decide (a=b):=by
 rw [ieq_iff]
 by_cases h:a=b
 ·subst h;simp
 ·rw [decide_eq_false h];exact beq_eq_false_iff_ne.2 fun e=>h (Int.ofNat.inj e)
theorem slt_d (s t:List UInt8):sltA s.length (enc s) t.length (enc t)=decide (s<t):=by rw [sltA_iff];exact bytesLess_eq s t
theorem seq_d (s t:List UInt8):seqA s.length (enc s) t.length (enc t)=decide (s=t):=by
 rw [seqA_iff]
 by_cases h:s=t<;>simp [h]
abbrev eI (v k:Nat):List (Nat × AV):=[(8,.int .i64 (.ofNat v)),(9,.int .i64 (.ofNat k))]
abbrev eS (k:Nat):List (Nat × AV):=[(11,.int .i64 (.ofNat k))]
abbrev eA (v i:Nat):List (Nat × AV):=[(8,.int .i64 (.ofNat v)),(9,.int .i64 0),(10,.int .i64 (.ofNat i))]
theorem lastI {x:Ex} {l:List Nat} {z:List (List UInt8)} {v:Nat} {k:Nat} (hs:Srt (fun a b:Nat=>a<b) l) (hl:l.length<1000000) (hk:k≤l.length) (h1:∀ j (h:j<l.length),j<k→l[j]<v) (h2:∀ h:k<l.length,¬ l[k]<v) {c:Code} {Q:AE→Fr→Mem→Prop}
  (hQ:∀ l2:List Nat,Srt (fun a b:Nat=>a<b) l2→(∀ w,w∈l2↔w∈l∨w=v)→l2.length≤l.length+1→KW x (sL l2 z) c Q):KW x (sL l z++eI v k) inA (Nxt Tryz.prog T9 0 c Q):=by
 have hin:∀ hn:(∀ h:k<l.length,v<l[k]),KW x (sL l z++eI v k) (thenOf (rhs inA)) (Nxt Tryz.prog T9 0 c Q):=fun hn =>
  insI (v:=v) hk hl (hQ _ (ins_srt ltNat hs h1 hn) (fun w=>ins_mem) (by simp;omega))
 rw [inA_eq]
 by_cases hlt:k<l.length
 ·have hg:l.getD k 0=l[k]:=getD_lt _ hlt
  by_cases he:l[k]=v
  ·have key:=fun Q=>@W.run (So [(137,52,false),(137,59,false)]) Tryz.prog hm X0 hX0l [] (fun _ h=>by cases h) T9 0 _ _ _ Q 60 [1,2,3,8,9,60] [0] _ (k_ktQ x l.length (fun i=>l.getD i 0) z.length (fun i=>z.getD i []) (.ofNat v) k)
   refine W.ifs (key _ ?_)
   simp only [gB_iff,gN_iff,hg]
   refine ⟨by rw [ieq_n];exact decide_eq_false (by omega),nblt_of hlt,by rw [ieq_n,decide_eq_true he];rfl,pdec_iff.2 fun fr M hv hM=>⟨by first | rfl | trivial,.inr ?_⟩⟩
   obtain ⟨hv3,ht⟩:=lv_snoc (ts:=[1,2,3,8,9]) (t:=60) (vs:=vals2 [0] (sL l z++eI v k)) (v:=some (.bool false)) hv
   refine ⟨ht,?_⟩
   show W Tryz.prog T9 0 c fr M Q
   have hv3:[fr.get 1,fr.get 2,fr.get 3,fr.get 8,fr.get 9]=_:=hv3
   simp only [vals2,sL,s9,List.map_append,List.map_cons,List.map_nil,List.cons_append,List.nil_append,List.cons.injEq] at hv3
   refine goX (sL l z) rfl ?_ hM (hQ l hs (fun w=>⟨.inl,fun h=>h.elim id fun h=>by rw [h,← he];exact List.getElem_mem hlt⟩) (by omega))
   show [fr.get 1,fr.get 2,fr.get 3]=_
   rw [hv3.1,hv3.2.1,hv3.2.2.1]
   rfl
  ·have key:=fun Q=>@W.run (So [(137,52,false),(137,59,true)]) Tryz.prog hm X0 hX0l [] (fun _ h=>by cases h) T9 0 _ _ _ Q 60 [1,2,3,8,9,60] [0] _ (k_ktN x l.length (fun i=>l.getD i 0) z.length (fun i=>z.getD i []) (.ofNat v) k)
   refine W.ifs (key _ ?_)
   simp only [gB_iff,gN_iff,hg]
   refine ⟨by rw [ieq_n];exact decide_eq_false (by omega),nblt_of hlt,by rw [ieq_n,decide_eq_false he];rfl,pdec_iff.2 fun fr M hv hM=>⟨by first | rfl | trivial,.inl ?_⟩⟩
   obtain ⟨hv3,ht⟩:=lv_snoc (ts:=[1,2,3,8,9]) (t:=60) (vs:=vals2 [0] (sL l z++eI v k)) (v:=some (.bool true)) hv
   exact ⟨ht,goX (sL l z++eI v k) rfl hv3 hM (hin fun h=>((ltNat).tri _ _).resolve_left (h2 h) |>.resolve_left he)⟩
 ·have key:=fun Q=>@W.run (So [(137,52,true)]) Tryz.prog hm X0 hX0l [] (fun _ h=>by cases h) T9 0 _ _ _ Q 60 [1,2,3,8,9,60] [0] _ (k_ktE x l.length (fun i=>l.getD i 0) z.length (fun i=>z.getD i []) (.ofNat v) k)
  refine W.ifs (key _ ?_)
  simp only [gB_iff]
  refine ⟨by rw [ieq_n];exact decide_eq_true (by omega),pdec_iff.2 fun fr M hv hM=>⟨by first | rfl | trivial,.inl ?_⟩⟩
  obtain ⟨hv3,ht⟩:=lv_snoc (ts:=[1,2,3,8,9]) (t:=60) (vs:=vals2 [0] (sL l z++eI v k)) (v:=some (.bool true)) hv
  exact ⟨ht,goX (sL l z++eI v k) rfl hv3 hM (hin fun h=>absurd h hlt)⟩
theorem seekI {x:Ex} {l:List Nat} {z:List (List UInt8)} {v:Nat} (hs:Srt (fun a b:Nat=>a<b) l) (hl:l.length<1000000) {c:Code} {Q:AE→Fr→Mem→Prop}
  (hQ:∀ l2:List Nat,Srt (fun a b:Nat=>a<b) l2→(∀ w,w∈l2↔w∈l∨w=v)→l2.length≤l.length+1→KW x (sL l2 z) c Q) {fr:Fr} {M:Mem}
  (h0:Here 0 ((fun k:Nat=>sL l z++eI v k) 0) [xRow x] fr M):W Tryz.prog T9 0 (.seq (.block 2 (.loop lpK)) inA) fr M (Nxt Tryz.prog T9 0 c Q):=by
 refine W.seq (W.block (W.loopP (σ:={ k:Nat // k≤l.length∧∀ j (h:j<l.length),j<k→l[j]<v }) (fun k=>(fun k:Nat=>sL l z++eI v k) k.1) (fun _=>[xRow x]) (fun k=>l.length-k.1) (fun _=>plnX x) ?_ ⟨0,Nat.zero_le _,fun j h hj=>by omega⟩ h0))
 rintro ⟨k,hk,h1⟩
 show KW x (sL l z++eI v k) lpK _
 rw [lpK_eq]
 by_cases hkl:k<l.length
 ·have hg:l.getD k 0=l[k]:=getD_lt _ hkl
  by_cases hlt:l[k]<v
  ·have key:=fun Q=>@W.run (So [(137,38,true),(137,45,true)]) Tryz.prog hm X0 hX0l [] (fun _ h=>by cases h) T9 0 _ _ _ Q 60 [1,2,3,8,9,46] [0] _ (k_khT x l.length (fun i=>l.getD i 0) z.length (fun i=>z.getD i []) (.ofNat v) k)
   refine W.test (key _ ?_)
   simp only [gB_iff,hg]
   refine ⟨ilt_t hkl,nblt_of hkl,ilt_t hlt,pdec_iff.2 fun fr M hv hM=>⟨by first | rfl | trivial,.inl ?_⟩⟩
   obtain ⟨hv3,ht⟩:=lv_snoc (ts:=[1,2,3,8,9]) (t:=46) (vs:=vals2 [0] (sL l z++eI v k)) (v:=some (.bool true)) hv
   have keyb:=fun Q=>@W.run Sb Tryz.prog hm X0 hX0l [] (fun _ h=>by cases h) T9 0 _ _ _ Q 60 [1,2,3,8,9] [0] _ (k_kb x l.length (fun i=>l.getD i 0) z.length (fun i=>z.getD i []) (.ofNat v) k)
   refine ⟨ht,goX (sL l z++eI v k) rfl hv3 hM (keyb _ ?_)⟩
   simp only [gB_iff]
   refine ⟨inI_succ hkl (by omega),pdec_iff.2 fun fr M hv hM=>.inl ⟨by first | rfl | trivial,⟨k+1,hkl,fun j h hj=>?_⟩,by simp only;omega,hereX rfl hv hM⟩⟩
   rcases Nat.lt_or_eq_of_le (Nat.le_of_lt_succ hj) with hj | rfl
   ·exact h1 j h hj
   ·exact hlt
  ·have key:=fun Q=>@W.run (So [(137,38,true),(137,45,false)]) Tryz.prog hm X0 hX0l [] (fun _ h=>by cases h) T9 0 _ _ _ Q 60 [1,2,3,8,9,46] [0] _ (k_khF x l.length (fun i=>l.getD i 0) z.length (fun i=>z.getD i []) (.ofNat v) k)
   refine W.test (key _ ?_)
   simp only [gB_iff,gN_iff,hg]
   refine ⟨ilt_t hkl,nblt_of hkl,ilt_f hlt,pdec_iff.2 fun fr M hv hM=>⟨by first | rfl | trivial,.inr ?_⟩⟩
   obtain ⟨hv3,ht⟩:=lv_snoc (ts:=[1,2,3,8,9]) (t:=46) (vs:=vals2 [0] (sL l z++eI v k)) (v:=some (.bool false)) hv
   exact ⟨ht,.inr ⟨by simp,Blkd_eq (goX (sL l z++eI v k) rfl hv3 hM (lastI hs hl hk h1 (fun _=>hlt) hQ))⟩⟩
 ·have key:=fun Q=>@W.run (So [(137,38,false)]) Tryz.prog hm X0 hX0l [] (fun _ h=>by cases h) T9 0 _ _ _ Q 60 [1,2,3,8,9,46] [0] _ (k_khE x l.length (fun i=>l.getD i 0) z.length (fun i=>z.getD i []) (.ofNat v) k)
  refine W.test (key _ ?_)
  simp only [gN_iff]
  refine ⟨ilt_f hkl,pdec_iff.2 fun fr M hv hM=>⟨by first | rfl | trivial,.inr ?_⟩⟩
  obtain ⟨hv3,ht⟩:=lv_snoc (ts:=[1,2,3,8,9]) (t:=46) (vs:=vals2 [0] (sL l z++eI v k)) (v:=some (.bool false)) hv
  exact ⟨ht,.inr ⟨by simp,Blkd_eq (goX (sL l z++eI v k) rfl hv3 hM (lastI hs hl hk h1 (fun h=>absurd h hkl) hQ))⟩⟩
theorem lastS {x:Ex} {l:List Nat} {z:List (List UInt8)} {k:Nat} (hs:Srt (fun a b:List UInt8=>a<b) z) (hl:z.length<1000000) (hk:k≤z.length) (h1:∀ j (h:j<z.length),j<k→z[j]<x.name) (h2:∀ h:k<z.length,¬ z[k]<x.name) {c:Code} {Q:AE→Fr→Mem→Prop}
  (hQ:∀ z2:List (List UInt8),Srt (fun a b:List UInt8=>a<b) z2→(∀ w,w∈z2↔w∈z∨w=x.name)→z2.length≤z.length+1→KW x (sL l z2) c Q):KW x (sL l z++eS k) inS9 (Nxt Tryz.prog T9 0 c Q):=by
 have hin:∀ hn:(∀ h:k<z.length,x.name<z[k]),KW x (sL l z++eS k) (thenOf (rhs inS9)) (Nxt Tryz.prog T9 0 c Q):=fun hn =>
  insS hk hl (hQ _ (ins_srt ltStr hs h1 hn) (fun w=>ins_mem) (by simp;omega))
 rw [inS_eq]
 by_cases hlt:k<z.length
 ·have hg:z.getD k []=z[k]:=getD_lt _ hlt
  by_cases he:z[k]=x.name
  ·have key:=fun Q=>@W.run (So [(137,94,false),(137,102,false)]) Tryz.prog hm X0 hX0l [] (fun _ h=>by cases h) T9 0 _ _ _ Q 60 [1,2,3,11,103] [0] _ (b_ktQ x l.length (fun i=>l.getD i 0) z.length (fun i=>z.getD i []) k)
   refine W.ifs (key _ ?_)
   simp only [gB_iff,gN_iff,hg]
   refine ⟨by rw [ieq_n];exact decide_eq_false (by omega),nblt_of hlt,by rw [seq_d,decide_eq_true he];rfl,pdec_iff.2 fun fr M hv hM=>⟨by first | rfl | trivial,.inr ?_⟩⟩
   obtain ⟨hv3,ht⟩:=lv_snoc (ts:=[1,2,3,11]) (t:=103) (vs:=vals2 [0] (sL l z++eS k)) (v:=some (.bool false)) hv
   refine ⟨ht,?_⟩
   show W Tryz.prog T9 0 c fr M Q
   have hv3:[fr.get 1,fr.get 2,fr.get 3,fr.get 11]=_:=hv3
   simp only [vals2,sL,s9,List.map_append,List.map_cons,List.map_nil,List.cons_append,List.nil_append,List.cons.injEq] at hv3
   refine goX (sL l z) rfl ?_ hM (hQ z hs (fun w=>⟨.inl,fun h=>h.elim id fun h=>by rw [h,← he];exact List.getElem_mem hlt⟩) (by omega))
   show [fr.get 1,fr.get 2,fr.get 3]=_
   rw [hv3.1,hv3.2.1,hv3.2.2.1]
   rfl
  ·have key:=fun Q=>@W.run (So [(137,94,false),(137,102,true)]) Tryz.prog hm X0 hX0l [] (fun _ h=>by cases h) T9 0 _ _ _ Q 60 [1,2,3,11,103] [0] _ (b_ktN x l.length (fun i=>l.getD i 0) z.length (fun i=>z.getD i []) k)
   refine W.ifs (key _ ?_)
   simp only [gB_iff,gN_iff,hg]
   refine ⟨by rw [ieq_n];exact decide_eq_false (by omega),nblt_of hlt,by rw [seq_d,decide_eq_false he];rfl,pdec_iff.2 fun fr M hv hM=>⟨by first | rfl | trivial,.inl ?_⟩⟩
   obtain ⟨hv3,ht⟩:=lv_snoc (ts:=[1,2,3,11]) (t:=103) (vs:=vals2 [0] (sL l z++eS k)) (v:=some (.bool true)) hv
   exact ⟨ht,goX (sL l z++eS k) rfl hv3 hM (hin fun h=>((ltStr).tri _ _).resolve_left (h2 h) |>.resolve_left he)⟩
 ·have key:=fun Q=>@W.run (So [(137,94,true)]) Tryz.prog hm X0 hX0l [] (fun _ h=>by cases h) T9 0 _ _ _ Q 60 [1,2,3,11,103] [0] _ (b_ktE x l.length (fun i=>l.getD i 0) z.length (fun i=>z.getD i []) k)
  refine W.ifs (key _ ?_)
  simp only [gB_iff]
  refine ⟨by rw [ieq_n];exact decide_eq_true (by omega),pdec_iff.2 fun fr M hv hM=>⟨by first | rfl | trivial,.inl ?_⟩⟩
  obtain ⟨hv3,ht⟩:=lv_snoc (ts:=[1,2,3,11]) (t:=103) (vs:=vals2 [0] (sL l z++eS k)) (v:=some (.bool true)) hv
  exact ⟨ht,goX (sL l z++eS k) rfl hv3 hM (hin fun h=>absurd h hlt)⟩
theorem seekS {x:Ex} {l:List Nat} {z:List (List UInt8)} (hs:Srt (fun a b:List UInt8=>a<b) z) (hl:z.length<1000000) {c:Code} {Q:AE→Fr→Mem→Prop}
  (hQ:∀ z2:List (List UInt8),Srt (fun a b:List UInt8=>a<b) z2→(∀ w,w∈z2↔w∈z∨w=x.name)→z2.length≤z.length+1→KW x (sL l z2) c Q) {fr:Fr} {M:Mem}
  (h0:Here 0 ((fun k:Nat=>sL l z++eS k) 0) [xRow x] fr M):W Tryz.prog T9 0 (.seq (.block 4 (.loop lpS)) inS9) fr M (Nxt Tryz.prog T9 0 c Q):=by
 refine W.seq (W.block (W.loopP (σ:={ k:Nat // k≤z.length∧∀ j (h:j<z.length),j<k→z[j]<x.name }) (fun k=>(fun k:Nat=>sL l z++eS k) k.1) (fun _=>[xRow x]) (fun k=>z.length-k.1) (fun _=>plnX x) ?_ ⟨0,Nat.zero_le _,fun j h hj=>by omega⟩ h0))
 rintro ⟨k,hk,h1⟩
 show KW x (sL l z++eS k) lpS _
 rw [lpS_eq]
 by_cases hkl:k<z.length
 ·have hg:z.getD k []=z[k]:=getD_lt _ hkl
  by_cases hlt:z[k]<x.name
  ·have key:=fun Q=>@W.run (So [(137,79,true),(137,87,true)]) Tryz.prog hm X0 hX0l [] (fun _ h=>by cases h) T9 0 _ _ _ Q 60 [1,2,3,11,88] [0] _ (b_khT x l.length (fun i=>l.getD i 0) z.length (fun i=>z.getD i []) k)
   refine W.test (key _ ?_)
   simp only [gB_iff,hg]
   refine ⟨ilt_t hkl,nblt_of hkl,by rw [slt_d];exact decide_eq_true hlt,pdec_iff.2 fun fr M hv hM=>⟨by first | rfl | trivial,.inl ?_⟩⟩
   obtain ⟨hv3,ht⟩:=lv_snoc (ts:=[1,2,3,11]) (t:=88) (vs:=vals2 [0] (sL l z++eS k)) (v:=some (.bool true)) hv
   have keyb:=fun Q=>@W.run Sb Tryz.prog hm X0 hX0l [] (fun _ h=>by cases h) T9 0 _ _ _ Q 60 [1,2,3,11] [0] _ (b_kb x l.length (fun i=>l.getD i 0) z.length (fun i=>z.getD i []) k)
   refine ⟨ht,goX (sL l z++eS k) rfl hv3 hM (keyb _ ?_)⟩
   simp only [gB_iff]
   refine ⟨inI_succ hkl (by omega),pdec_iff.2 fun fr M hv hM=>.inl ⟨by first | rfl | trivial,⟨k+1,hkl,fun j h hj=>?_⟩,by simp only;omega,hereX rfl hv hM⟩⟩
   rcases Nat.lt_or_eq_of_le (Nat.le_of_lt_succ hj) with hj | rfl
   ·exact h1 j h hj
   ·exact hlt
  ·have key:=fun Q=>@W.run (So [(137,79,true),(137,87,false)]) Tryz.prog hm X0 hX0l [] (fun _ h=>by cases h) T9 0 _ _ _ Q 60 [1,2,3,11,88] [0] _ (b_khF x l.length (fun i=>l.getD i 0) z.length (fun i=>z.getD i []) k)
   refine W.test (key _ ?_)
   simp only [gB_iff,gN_iff,hg]
   refine ⟨ilt_t hkl,nblt_of hkl,by rw [slt_d];exact decide_eq_false hlt,pdec_iff.2 fun fr M hv hM=>⟨by first | rfl | trivial,.inr ?_⟩⟩
   obtain ⟨hv3,ht⟩:=lv_snoc (ts:=[1,2,3,11]) (t:=88) (vs:=vals2 [0] (sL l z++eS k)) (v:=some (.bool false)) hv
   exact ⟨ht,.inr ⟨by simp,Blkd_eq (goX (sL l z++eS k) rfl hv3 hM (lastS hs hl hk h1 (fun _=>hlt) hQ))⟩⟩
 ·have key:=fun Q=>@W.run (So [(137,79,false)]) Tryz.prog hm X0 hX0l [] (fun _ h=>by cases h) T9 0 _ _ _ Q 60 [1,2,3,11,88] [0] _ (b_khE x l.length (fun i=>l.getD i 0) z.length (fun i=>z.getD i []) k)
  refine W.test (key _ ?_)
  simp only [gN_iff]
  refine ⟨ilt_f hkl,pdec_iff.2 fun fr M hv hM=>⟨by first | rfl | trivial,.inr ?_⟩⟩
  obtain ⟨hv3,ht⟩:=lv_snoc (ts:=[1,2,3,11]) (t:=88) (vs:=vals2 [0] (sL l z++eS k)) (v:=some (.bool false)) hv
  exact ⟨ht,.inr ⟨by simp,Blkd_eq (goX (sL l z++eS k) rfl hv3 hM (lastS hs hl hk h1 (fun h=>absurd h hkl) hQ))⟩⟩
theorem sgA {x:Ex} (ho:ObjOk x.num) {l:List Nat} {z:List (List UInt8)} (hs:Srt (fun a b:Nat=>a<b) l) (hl:l.length<1000000) {c:Code} {Q:AE→Fr→Mem→Prop}
  (hQ:∀ l2:List Nat,Srt (fun a b:Nat=>a<b) l2→(∀ w,w∈l2↔w∈l∨w=be x.num.mag)→l2.length≤l.length+1→KW x (sL l2 z) c Q):KW x (sL l z) A9 (Nxt Tryz.prog T9 0 c Q):=by
 obtain ⟨_,_,hbe,hlen⟩:=ho
 rw [a9_eq]
 have k1:=fun Q=>@W.run Sb Tryz.prog hm X0 hX0l [] (fun _ h=>by cases h) T9 0 _ _ _ Q 60 [1,2,3,8,9] [0] _ (k_z x l.length (fun i=>l.getD i 0) z.length (fun i=>z.getD i []))
 refine W.seq (k1 _ (pdec_iff.2 fun fr M hv hM=>?_))
 refine goX (sL l z++eI 0 0) rfl hv hM ?_
 have k2:=fun Q=>@W.run Sb Tryz.prog hm X0 hX0l [] (fun _ h=>by cases h) T9 0 _ _ _ Q 60 [1,2,3,8,9,10] [0] _ (k_i x l.length (fun i=>l.getD i 0) z.length (fun i=>z.getD i []) (.ofNat 0))
 refine W.seq (W.seq (k2 _ (pdec_iff.2 fun fr M hv hM=>?_)))
 refine W.block (W.loopP (σ:={ i:Nat // i≤x.num.mag.length }) (fun i=>(fun i:Nat=>sL l z++eA (be (x.num.mag.take i)) i) i.1) (fun _=>[xRow x]) (fun i=>x.num.mag.length-i.1) (fun _=>plnX x) ?_ ⟨0,Nat.zero_le _⟩ (hereX rfl hv hM))
 rintro ⟨i,hi⟩
 show KW x (sL l z++eA (be (x.num.mag.take i)) i) lpA _
 rw [lpA_eq]
 have k3:=fun Q=>@W.run Sb Tryz.prog hm X0 hX0l [] (fun _ h=>by cases h) T9 0 _ _ _ Q 60 [1,2,3,8,9,10,22] [0] _ (k_ah x l.length (fun i=>l.getD i 0) z.length (fun i=>z.getD i []) (.ofNat (be (x.num.mag.take i))) i)
 refine W.test (k3 _ (pdec_iff.2 fun fr M hv hM=>⟨rfl,?_⟩))
 obtain ⟨hv3,ht⟩:=lv_snoc (ts:=[1,2,3,8,9,10]) (t:=22) (vs:=vals2 [0] (sL l z++eA (be (x.num.mag.take i)) i)) (v:=some (.bool (ilt (.ofNat i) (.ofNat x.num.mag.length)))) hv
 by_cases hlt:i<x.num.mag.length
 ·rw [ilt_t hlt] at ht
  have k4:=fun Q=>@W.run Sb Tryz.prog hm X0 hX0l [] (fun _ h=>by cases h) T9 0 _ _ _ Q 60 [1,2,3,8,9,10] [0] _ (k_ab x l.length (fun i=>l.getD i 0) z.length (fun i=>z.getD i []) (.ofNat (be (x.num.mag.take i))) i)
  refine .inl ⟨ht,goX (sL l z++eA (be (x.num.mag.take i)) i) rfl hv3 hM (k4 _ ?_)⟩
  have eb:((enc x.num.mag).div (Nat.pow 256 i)).mod 256=x.num.mag[i].toNat:=enc_get x.num.mag i hlt
  have hb:x.num.mag[i].toNat<256:=x.num.mag[i].toBitVec.isLt
  have h1:=be_take_le x.num.mag i
  have h2:=be_take_le x.num.mag (i+1)
  have h3:=be_take_succ hlt
  have ew:IntKind.i64.wrap (Int.ofNat x.num.mag[i].toNat)=.ofNat x.num.mag[i].toNat:=wrap_i64 (by simp only [Int.ofNat_eq_natCast];omega)
  have es:(Int.mul 256 (.ofNat (be (x.num.mag.take i)))).add (.ofNat x.num.mag[i].toNat)=.ofNat (be (x.num.mag.take (i+1))):=by
   show 256*((be (x.num.mag.take i):Nat):Int)+((x.num.mag[i].toNat:Nat):Int)=((be (x.num.mag.take (i+1)):Nat):Int)
   omega
  rw [eb,ew,es]
  simp only [gB_iff]
  refine ⟨?_,nblt_of hlt,?_,inI_succ hlt (by omega),pdec_iff.2 fun fr M hv hM=>.inl ⟨by first | rfl | trivial,⟨i+1,hlt⟩,by simp only;omega,hereX rfl hv hM⟩⟩
  ·rw [inI64_iff]
   show -9223372036854775808≤256*((be (x.num.mag.take i):Nat):Int)∧256*((be (x.num.mag.take i):Nat):Int)<9223372036854775808
   omega
  ·rw [inI64_iff];simp only [Int.ofNat_eq_natCast];omega
 ·rw [ilt_f hlt] at ht
  obtain rfl:i=x.num.mag.length:=by omega
  refine .inr ⟨ht,.inr ⟨by simp,Blkd_eq ?_⟩⟩
  obtain ⟨hv4,_⟩:=lv_snoc (ts:=[1,2,3,8,9]) (t:=10) (vs:=vals2 [0] (sL l z++eI (be (x.num.mag.take x.num.mag.length)) 0)) (v:=some (.int .i64 (.ofNat x.num.mag.length))) hv3
  have hh:=hereX (x:=x) (s:=(sL l z++eI (be (x.num.mag.take x.num.mag.length)) 0)) rfl hv4 hM
  rw [List.take_length] at hh
  exact seekI hs hl hQ hh
theorem sgB {x:Ex} {l:List Nat} {z:List (List UInt8)} (hs:Srt (fun a b:List UInt8=>a<b) z) (hl:z.length<1000000) {c:Code} {Q:AE→Fr→Mem→Prop}
  (hQ:∀ z2:List (List UInt8),Srt (fun a b:List UInt8=>a<b) z2→(∀ w,w∈z2↔w∈z∨w=x.name)→z2.length≤z.length+1→KW x (sL l z2) c Q):KW x (sL l z) B9 (Nxt Tryz.prog T9 0 c Q):=by
 rw [b9_eq]
 have k1:=fun Q=>@W.run Sb Tryz.prog hm X0 hX0l [] (fun _ h=>by cases h) T9 0 _ _ _ Q 60 [1,2,3,11] [0] _ (b_z x l.length (fun i=>l.getD i 0) z.length (fun i=>z.getD i []))
 refine W.seq (k1 _ (pdec_iff.2 fun fr M hv hM=>?_))
 exact seekS hs hl hQ (hereX rfl hv hM)
end
end
end Go.Proofs.YtodjhpjcgggamaaGreatDoor

namespace Go.Proofs.YtodjhpjcgggamaaGreatDoor
open Go Go.Eng Go.Vi Go.Knuth
noncomputable section
section
local instance : Go.Eng.Mode := Sb
abbrev SrN (l:List Nat):Prop:=Srt (fun a b:Nat=>a<b) l
abbrev SrS (z:List (List UInt8)):Prop:=Srt (fun a b:List UInt8=>a<b) z
theorem sg1 {x:Ex} (hob:x.op=3→ObjOk x.num) {l:List Nat} {z:List (List UInt8)} (hs:SrN l) (hl:l.length<1000000) {c:Code} {Q:AE→Fr→Mem→Prop}
  (hQ:∀ l2,SrN l2→(∀ w,w∈l2↔w∈l∨w∈(if x.op=3 then [be x.num.mag] else []))→l2.length≤l.length+1→KW x (sL l2 z) c Q):KW x (sL l z) X9 (Nxt Tryz.prog T9 0 c Q):=by
 have key:=fun Q=>@W.run Sb Tryz.prog hm X0 hX0l [] (fun _ h=>by cases h) T9 0 _ _ _ Q 60 [1,2,3,15] [0] _ (k_op x l.length (fun i=>l.getD i 0) z.length (fun i=>z.getD i []))
 rw [x9_eq]
 refine W.ifs (key _ (pdec_iff.2 fun fr M hv hM=>⟨rfl,?_⟩))
 obtain ⟨hv3,ht⟩:=lv_snoc (ts:=[1,2,3]) (t:=15) (vs:=vals2 [0] (sL l z)) (v:=some (.bool (ieq x.op 3))) hv
 by_cases ho:x.op=3
 ·rw [if_pos ho] at hQ
  rw [ho] at ht
  exact .inl ⟨ht,goX (sL l z) rfl hv3 hM (sgA (hob ho) hs hl fun l2 h1 h2 h3=>hQ l2 h1 (fun w=>(h2 w).trans (by simp)) h3)⟩
 ·rw [if_neg ho] at hQ
  rw [ieqf ho] at ht
  exact .inr ⟨ht,goX (sL l z) rfl hv3 hM (hQ l hs (fun w=>by simp) (by omega))⟩
theorem sg2 {x:Ex} {l:List Nat} {z:List (List UInt8)} (hs:SrS z) (hl:z.length<1000000) {c:Code} {Q:AE→Fr→Mem→Prop}
  (hQ:∀ z2,SrS z2→(∀ w,w∈z2↔w∈z∨w∈(if x.op=5 then [x.name] else []))→z2.length≤z.length+1→KW x (sL l z2) c Q):KW x (sL l z) Y9 (Nxt Tryz.prog T9 0 c Q):=by
 have key:=fun Q=>@W.run Sb Tryz.prog hm X0 hX0l [] (fun _ h=>by cases h) T9 0 _ _ _ Q 60 [1,2,3,75] [0] _ (b_op x l.length (fun i=>l.getD i 0) z.length (fun i=>z.getD i []))
 rw [y9_eq]
 refine W.ifs (key _ (pdec_iff.2 fun fr M hv hM=>⟨rfl,?_⟩))
 obtain ⟨hv3,ht⟩:=lv_snoc (ts:=[1,2,3]) (t:=75) (vs:=vals2 [0] (sL l z)) (v:=some (.bool (ieq x.op 5))) hv
 by_cases ho:x.op=5
 ·rw [if_pos ho] at hQ
  rw [ho] at ht
  exact .inl ⟨ht,goX (sL l z) rfl hv3 hM (sgB hs hl fun l2 h1 h2 h3=>hQ l2 h1 (fun w=>(h2 w).trans (by simp)) h3)⟩
 ·rw [if_neg ho] at hQ
  rw [ieqf ho] at ht
  exact .inr ⟨ht,goX (sL l z) rfl hv3 hM (hQ z hs (fun w=>by simp) (by omega))⟩
def NaP (x:Ex) (l:List Nat) (z:List (List UInt8)) (ans:AV):Prop:=∃ l' z',SrN l'∧SrS z'∧(∀ w,w∈l'↔w∈l∨w∈objs x)∧(∀ w,w∈z'↔w∈z∨w∈zns x)∧l'.length≤l.length+x.size∧z'.length≤z.length+x.size∧ans=.tuple [slA nD 0 l',slA sD [] z']
def NaOk (x:Ex):Prop:=∀ l z,SrN l→SrS z→l.length+x.size<1000000→z.length+x.size<1000000→∃ ans,NaP x l z ans∧BSim Tryz.prog 9 [exA x,slA nD 0 l,slA sD [] z] [] [] ans
theorem objsL_take:∀ (args:List Ex) (i:Nat) (y:Ex),args[i]? = some y→objsL (args.take (i+1))=objsL (args.take i)++objs y
 | [],i,y,h=>by simp at h
 | u::args,0,y,h=>by obtain rfl:=Option.some.inj h;simp [objsL]
 | u::args,i+1,y,h=>by
  have:=objsL_take args i y h
  simp only [List.take_succ_cons,objsL,this,List.append_assoc]
theorem znsL_take:∀ (args:List Ex) (i:Nat) (y:Ex),args[i]? = some y→znsL (args.take (i+1))=znsL (args.take i)++zns y
 | [],i,y,h=>by simp at h
 | u::args,0,y,h=>by obtain rfl:=Option.some.inj h;simp [znsL]
 | u::args,i+1,y,h=>by
  have:=znsL_take args i y h
  simp only [List.take_succ_cons,znsL,this,List.append_assoc]
abbrev eC (i:Nat):List (Nat × AV):=[(12,.int .i64 (.ofNat i))]
structure InvC (args:List Ex) (l:List Nat) (z:List (List UInt8)) (i:Nat) (l':List Nat) (z':List (List UInt8)):Prop where
 hi:i≤args.length
 sl:SrN l'
 sz:SrS z'
 ml:∀ w,w∈l'↔w∈l∨w∈objsL (args.take i)
 mz:∀ w,w∈z'↔w∈z∨w∈znsL (args.take i)
 nl:l'.length≤l.length+sizeL (args.take i)
 nz:z'.length≤z.length+sizeL (args.take i)
theorem sizeL_take_succ:∀ (args:List Ex) (i:Nat) (y:Ex),args[i]? = some y→sizeL (args.take (i+1))=sizeL (args.take i)+y.size
 | [],i,y,h=>by simp at h
 | u::args,0,y,h=>by obtain rfl:=Option.some.inj h;simp [sizeL]
 | u::args,i+1,y,h=>by
  have:=sizeL_take_succ args i y h
  simp only [List.take_succ_cons,sizeL,this]
  omega
theorem sg3 {x:Ex} (h3:x.args.length≤3) {l:List Nat} {z:List (List UInt8)} (hsl:SrN l) (hsz:SrS z) (hb1:l.length+sizeL x.args<1000000) (hb2:z.length+sizeL x.args<1000000) (ih:∀ y∈x.args,NaOk y) {Q:AE→Fr→Mem→Prop}
  (hQ:∀ l' z',InvC x.args l z x.args.length l' z'→KW x (sL l' z'++eC x.args.length) E9 Q):KW x (sL l z) Z9 (Nxt Tryz.prog T9 0 E9 Q):=by
 rw [z9_eq]
 have k1:=fun Q=>@W.run Sb Tryz.prog hm X0 hX0l [] (fun _ h=>by cases h) T9 0 _ _ _ Q 60 [1,2,3,12] [0] _ (c_i x l.length (fun i=>l.getD i 0) z.length (fun i=>z.getD i []))
 refine W.seq (k1 _ (pdec_iff.2 fun fr M hv hM=>?_))
 refine W.block (W.loopP (σ:={ p:Nat × List Nat × List (List UInt8) // InvC x.args l z p.1 p.2.1 p.2.2 }) (fun p=>sL p.1.2.1 p.1.2.2++eC p.1.1) (fun _=>[xRow x]) (fun p=>x.args.length-p.1.1) (fun _=>plnX x) ?_
  ⟨(0,l,z),⟨Nat.zero_le _,hsl,hsz,fun w=>by simp [objsL],fun w=>by simp [znsL],by simp [sizeL],by simp [sizeL]⟩⟩ (hereX rfl hv hM))
 rintro ⟨⟨i,l1,z1⟩,hinv⟩
 show KW x (sL l1 z1++eC i) lpC _
 rw [lpC_eq]
 have k2:=fun Q=>@W.run Sb Tryz.prog hm X0 hX0l [] (fun _ h=>by cases h) T9 0 _ _ _ Q 60 [1,2,3,12,121] [0] _ (c_h x l1.length (fun i=>l1.getD i 0) z1.length (fun i=>z1.getD i []) i)
 refine W.test (k2 _ (pdec_iff.2 fun fr M hv hM=>⟨rfl,?_⟩))
 obtain ⟨hv3,ht⟩:=lv_snoc (ts:=[1,2,3,12]) (t:=121) (vs:=vals2 [0] (sL l1 z1++eC i)) (v:=some (.bool (ilt (.ofNat i) (.ofNat x.args.length)))) hv
 by_cases hlt:i<x.args.length
 ·rw [ilt_t hlt] at ht
  refine .inl ⟨ht,goX (sL l1 z1++eC i) rfl hv3 hM ?_⟩
  have hy:=List.getElem?_eq_getElem hlt
  generalize hyy:x.args[i]=y at hy
  have hst:=size_take x.args i y hy
  have hss:=sizeL_take_succ x.args i y hy
  obtain ⟨_,⟨l2,z2,g1,g2,g3,g4,g5,g6,rfl⟩,hE⟩:=ih y (List.mem_of_getElem? hy) l1 z1 hinv.sl hinv.sz (by have:=hinv.nl;simp only at this;omega) (by have:=hinv.nz;simp only at this;omega)
  have hrun:∀ I:IK,Eng.exec Tryz.prog X0 [eNa y l1.length (fun i=>l1.getD i 0) z1.length (fun i=>z1.getD i []) l2.length (fun i=>l2.getD i 0) z2.length (fun i=>z2.getD i [])] 60 T9 (rhs lpC) (mkFr (sL l1 z1++eC i)) (mkMem [xRow x]) (fun o fr' M'=>I o (lv [1,2,3,12] fr') (mv [0] M')) =
    gX (eNa y l1.length (fun i=>l1.getD i 0) z1.length (fun i=>z1.getD i []) l2.length (fun i=>l2.getD i 0) z2.length (fun i=>z2.getD i [])).snd.args (I .normal (vals2 [0] (sL l2 z2++eC (i+1))) [some (xRow x)]):=by
   clear hQ hinv hv hM hv3 ht k1 k2 ih hst hss hyy hlt
   obtain ⟨o,nm,r,args⟩:=x
   rcases get3 (by have h3:args.length≤3:=h3;have hy:args[i]? = some y:=hy;have:=(List.getElem?_eq_some_iff.1 hy).1;omega) hy with ⟨rfl,a,rfl⟩ | ⟨rfl,u0,a,rfl⟩ | ⟨rfl,u0,u1,a,rfl⟩
   ·exact c_b0 o nm r y a _ _ _ _ _ _ _ _
   ·exact c_b1 o nm r u0 y a _ _ _ _ _ _ _ _
   ·exact c_b2 o nm r u0 u1 y a _ _ _ _ _ _ _ _
  have key:=fun Q=>@W.run Sb Tryz.prog hm X0 hX0l [eNa y l1.length (fun i=>l1.getD i 0) z1.length (fun i=>z1.getD i []) l2.length (fun i=>l2.getD i 0) z2.length (fun i=>z2.getD i [])] (AllOk.mem ⟨hE.spec0 rfl,trivial⟩) T9 0 _ _ _ Q 60 [1,2,3,12] [0] _ hrun
  refine key _ ?_
  simp only [gX_iff]
  refine pdec_iff.2 fun fr M hv hM=>.inl ⟨by first | rfl | trivial,⟨(i+1,l2,z2),?_⟩,by simp only;omega,hereX rfl hv hM⟩
  refine ⟨hlt,g1,g2,fun w=>?_,fun w=>?_,?_,?_⟩
  ·simp only [g3 w,hinv.ml w,objsL_take x.args i y hy,List.mem_append,or_assoc]
  ·simp only [g4 w,hinv.mz w,znsL_take x.args i y hy,List.mem_append,or_assoc]
  ·have:=hinv.nl;simp only at this ⊢;omega
  ·have:=hinv.nz;simp only at this ⊢;omega
 ·rw [ilt_f hlt] at ht
  obtain rfl:i=x.args.length:=by have:=hinv.hi;simp only at this;omega
  exact .inr ⟨ht,.inr ⟨by simp,Blkd_eq (goX (sL l1 z1++eC x.args.length) rfl hv3 hM (hQ l1 z1 hinv))⟩⟩
theorem ok9:FnOk Tryz.prog 9 Tryz.f9:=⟨Tryz.func9,by kernel_rfl,by kernel_rfl⟩
theorem named_c:∀ {x:Ex},WF x→NaOk x:=by
 intro x hx
 induction hx with
 | mk o n r args h1 h2 hal hob ha ih =>
  intro l z hsl hsz hb1 hb2
  have es:(Ex.mk (.ofNat o) n r args).size=1+sizeL args:=by simp [Ex.size]
  have h3:args.length≤3:=hal▸nArgs_le o
  let x:Ex:=.mk (.ofNat o) n r args
  have hob':x.op=3→ObjOk x.num:=fun h=>hob (by have h:(Int.ofNat o)=3:=h;simp only [Int.ofNat_eq_natCast] at h;omega)
  have hsx:x.size=1+sizeL x.args:=es
  rw [es] at hb1 hb2
  refine BSim.of_WEx ok9 (by kernel_rfl) rfl ?_
  have k1:=fun Q=>@W.runN Sb Tryz.prog hm X0 hX0l [] (fun _ h=>by cases h) T9 0 _ _ _ Q 60 1 [1,2,3] [0] _ (k_pre x l.length (fun i=>l.getD i 0) z.length (fun i=>z.getD i []))
  refine k1 _ (pdec_iff.2 fun fr M hv hM=>?_)
  refine goX (x:=x) (sL l z) rfl hv hM ?_
  show KW x (sL l z) (post 1 c9) _
  rw [p9_eq]
  refine W.seq (sg1 hob' hsl (by omega) fun l1 a1 a2 a3=>?_)
  refine W.seq (sg2 hsz (by omega) fun z1 b1 b2 b3=>?_)
  refine W.seq (sg3 (x:=x) h3 a1 b1 (by show l1.length+sizeL args<_;omega) (by show z1.length+sizeL args<_;omega) ih fun l2 z2 hinv=>?_)
  have key3:=@W.finEx Sb Tryz.prog hm X0 hX0l [] (fun _ h=>by cases h) Tryz.f9 T9 0 _ _ _ [] (NaP x l z) 60 [] _ (c_fin x l2.length (fun i=>l2.getD i 0) z2.length (fun i=>z2.getD i []) x.args.length)
  refine key3 (pdec_iff.2 ⟨_,⟨l2,z2,hinv.sl,hinv.sz,fun w=>?_,fun w=>?_,?_,?_,rfl⟩,fun M' _=>⟨.tuple _ _ (.cons _ _ _ _ (.dat _ (slD nD 0 l2) (.same (slD nD 0 l2))) (.cons _ _ _ _ (.dat _ (slD sD [] z2) (.same (slD sD [] z2))) .nil)),fun j r hr=>by cases hr⟩⟩)
  ·rw [hinv.ml w,a2 w,List.take_length]
   show _↔w∈l∨w∈(if x.op=3 then [be r.mag] else [])++objsL args
   rw [List.mem_append,or_assoc]
   exact Iff.rfl
  ·rw [hinv.mz w,b2 w,List.take_length]
   show _↔w∈z∨w∈(if x.op=5 then [n] else [])++znsL args
   rw [List.mem_append,or_assoc]
   exact Iff.rfl
  ·have:=hinv.nl;rw [List.take_length] at this;omega
  ·have:=hinv.nz;rw [List.take_length] at this;omega
end
end
end Go.Proofs.YtodjhpjcgggamaaGreatDoor

namespace Go.Proofs.YtodjhpjcgggamaaGreatDoor
open Go Go.Eng Go.Vi Go.Knuth
noncomputable section
section
local instance : Go.Eng.Mode := Sb
def fO:AV:=.func (.func 25) [] [.ptr 0 0]
def fZ:AV:=.func (.func 27) [] [.ptr 0 0]
theorem ho_0_x (ud:Nat→Dat) (v:Nat) (I:AK):@xR (So [(8,7,false)]) [] 200 Tryz.f24.ntmps (codeOf Tryz.f24) (argSlots [objsA 0 ud,fO] 0) (rowsOf [[nD v]]) Tryz.f24 [0] I=I (.bool false) [some (.row [.int .i64 (.ofNat v)] false 1)]:=by kernel_rfl
theorem ho_1_1 (ud:Nat→Dat) (I:AK):@xR Sb [] 200 Tryz.f24.ntmps (codeOf Tryz.f24) (argSlots [objsA 1 ud,fO] 0) (rowsOf [[nD 1]]) Tryz.f24 [0] I=I (.bool true) [some (.row [.int .i64 (.ofNat 1)] false 1)]:=by kernel_rfl
theorem ho_1_x (ud:Nat→Dat) (v:Nat) (I:AK):@xR (So [(8,7,false)]) [] 200 Tryz.f24.ntmps (codeOf Tryz.f24) (argSlots [objsA 1 ud,fO] 0) (rowsOf [[nD v]]) Tryz.f24 [0] I=gN (ieq (.ofNat (0+1)) (.ofNat v)) (I (.bool false) [some (.row [.int .i64 (.ofNat v)] false 1)]):=by kernel_rfl
theorem ho_2_1 (ud:Nat→Dat) (I:AK):@xR Sb [] 200 Tryz.f24.ntmps (codeOf Tryz.f24) (argSlots [objsA 2 ud,fO] 0) (rowsOf [[nD 1]]) Tryz.f24 [0] I=I (.bool true) [some (.row [.int .i64 (.ofNat 1)] false 1)]:=by kernel_rfl
theorem ho_2_2 (ud:Nat→Dat) (I:AK):@xR Sb [] 200 Tryz.f24.ntmps (codeOf Tryz.f24) (argSlots [objsA 2 ud,fO] 0) (rowsOf [[nD 2]]) Tryz.f24 [0] I=I (.bool true) [some (.row [.int .i64 (.ofNat 2)] false 1)]:=by kernel_rfl
theorem ho_2_x (ud:Nat→Dat) (v:Nat) (I:AK):@xR (So [(8,7,false)]) [] 200 Tryz.f24.ntmps (codeOf Tryz.f24) (argSlots [objsA 2 ud,fO] 0) (rowsOf [[nD v]]) Tryz.f24 [0] I=gN (ieq (.ofNat (0+1)) (.ofNat v)) (gN (ieq (.ofNat (0+1+1)) (.ofNat v)) (I (.bool false) [some (.row [.int .i64 (.ofNat v)] false 1)])):=by kernel_rfl
theorem ho_3_1 (ud:Nat→Dat) (I:AK):@xR Sb [] 200 Tryz.f24.ntmps (codeOf Tryz.f24) (argSlots [objsA 3 ud,fO] 0) (rowsOf [[nD 1]]) Tryz.f24 [0] I=I (.bool true) [some (.row [.int .i64 (.ofNat 1)] false 1)]:=by kernel_rfl
theorem ho_3_2 (ud:Nat→Dat) (I:AK):@xR Sb [] 200 Tryz.f24.ntmps (codeOf Tryz.f24) (argSlots [objsA 3 ud,fO] 0) (rowsOf [[nD 2]]) Tryz.f24 [0] I=I (.bool true) [some (.row [.int .i64 (.ofNat 2)] false 1)]:=by kernel_rfl
theorem ho_3_3 (ud:Nat→Dat) (I:AK):@xR Sb [] 200 Tryz.f24.ntmps (codeOf Tryz.f24) (argSlots [objsA 3 ud,fO] 0) (rowsOf [[nD 3]]) Tryz.f24 [0] I=I (.bool true) [some (.row [.int .i64 (.ofNat 3)] false 1)]:=by kernel_rfl
theorem ho_3_x (ud:Nat→Dat) (v:Nat) (I:AK):@xR (So [(8,7,false)]) [] 200 Tryz.f24.ntmps (codeOf Tryz.f24) (argSlots [objsA 3 ud,fO] 0) (rowsOf [[nD v]]) Tryz.f24 [0] I=gN (ieq (.ofNat (0+1)) (.ofNat v)) (gN (ieq (.ofNat (0+1+1)) (.ofNat v)) (gN (ieq (.ofNat (0+1+1+1)) (.ofNat v)) (I (.bool false) [some (.row [.int .i64 (.ofNat v)] false 1)]))):=by kernel_rfl
theorem ho_4_1 (ud:Nat→Dat) (I:AK):@xR Sb [] 200 Tryz.f24.ntmps (codeOf Tryz.f24) (argSlots [objsA 4 ud,fO] 0) (rowsOf [[nD 1]]) Tryz.f24 [0] I=I (.bool true) [some (.row [.int .i64 (.ofNat 1)] false 1)]:=by kernel_rfl
theorem ho_4_2 (ud:Nat→Dat) (I:AK):@xR Sb [] 200 Tryz.f24.ntmps (codeOf Tryz.f24) (argSlots [objsA 4 ud,fO] 0) (rowsOf [[nD 2]]) Tryz.f24 [0] I=I (.bool true) [some (.row [.int .i64 (.ofNat 2)] false 1)]:=by kernel_rfl
theorem ho_4_3 (ud:Nat→Dat) (I:AK):@xR Sb [] 200 Tryz.f24.ntmps (codeOf Tryz.f24) (argSlots [objsA 4 ud,fO] 0) (rowsOf [[nD 3]]) Tryz.f24 [0] I=I (.bool true) [some (.row [.int .i64 (.ofNat 3)] false 1)]:=by kernel_rfl
theorem ho_4_4 (ud:Nat→Dat) (I:AK):@xR Sb [] 200 Tryz.f24.ntmps (codeOf Tryz.f24) (argSlots [objsA 4 ud,fO] 0) (rowsOf [[nD 4]]) Tryz.f24 [0] I=I (.bool true) [some (.row [.int .i64 (.ofNat 4)] false 1)]:=by kernel_rfl
theorem ho_4_x (ud:Nat→Dat) (v:Nat) (I:AK):@xR (So [(8,7,false)]) [] 200 Tryz.f24.ntmps (codeOf Tryz.f24) (argSlots [objsA 4 ud,fO] 0) (rowsOf [[nD v]]) Tryz.f24 [0] I=gN (ieq (.ofNat (0+1)) (.ofNat v)) (gN (ieq (.ofNat (0+1+1)) (.ofNat v)) (gN (ieq (.ofNat (0+1+1+1)) (.ofNat v)) (gN (ieq (.ofNat (0+1+1+1+1)) (.ofNat v)) (I (.bool false) [some (.row [.int .i64 (.ofNat v)] false 1)])))):=by kernel_rfl
theorem hz_0_x (e:Nat→Nat→List Dat) (s:List UInt8) (I:AK):@xR (So [(8,7,false)]) [] 200 Tryz.f26.ntmps (codeOf Tryz.f26) (argSlots [zonesA 0 e,fZ] 0) (rowsOf [[sD s]]) Tryz.f26 [0] I=I (.bool false) [some (.row [strA s] false 1)]:=by kernel_rfl
theorem hz_1_0 (e:Nat→Nat→List Dat) (I:AK):@xR Sb [] 200 Tryz.f26.ntmps (codeOf Tryz.f26) (argSlots [zonesA 1 e,fZ] 0) (rowsOf [[.str 5 (enc (zName 0))]]) Tryz.f26 [0] I=I (.bool true) [some (.row [.str 5 212155133818] false 1)]:=by kernel_rfl
theorem hz_1_x (e:Nat→Nat→List Dat) (s:List UInt8) (I:AK):@xR (So [(8,7,false)]) [] 200 Tryz.f26.ntmps (codeOf Tryz.f26) (argSlots [zonesA 1 e,fZ] 0) (rowsOf [[sD s]]) Tryz.f26 [0] I=gN (seqA 5 (enc (zName 0)) s.length (enc s)) (I (.bool false) [some (.row [strA s] false 1)]):=by kernel_rfl
theorem hz_2_0 (e:Nat→Nat→List Dat) (I:AK):@xR Sb [] 200 Tryz.f26.ntmps (codeOf Tryz.f26) (argSlots [zonesA 2 e,fZ] 0) (rowsOf [[.str 5 (enc (zName 0))]]) Tryz.f26 [0] I=I (.bool true) [some (.row [.str 5 212155133818] false 1)]:=by kernel_rfl
theorem hz_2_1 (e:Nat→Nat→List Dat) (I:AK):@xR Sb [] 200 Tryz.f26.ntmps (codeOf Tryz.f26) (argSlots [zonesA 2 e,fZ] 0) (rowsOf [[.str 5 (enc (zName 1))]]) Tryz.f26 [0] I=I (.bool true) [some (.row [.str 5 216450101114] false 1)]:=by kernel_rfl
theorem hz_2_x (e:Nat→Nat→List Dat) (s:List UInt8) (I:AK):@xR (So [(8,7,false)]) [] 200 Tryz.f26.ntmps (codeOf Tryz.f26) (argSlots [zonesA 2 e,fZ] 0) (rowsOf [[sD s]]) Tryz.f26 [0] I=gN (seqA 5 (enc (zName 0)) s.length (enc s)) (gN (seqA 5 (enc (zName (0+1))) s.length (enc s)) (I (.bool false) [some (.row [strA s] false 1)])):=by kernel_rfl
theorem ok24:FnOk Tryz.prog 24 Tryz.f24:=⟨Tryz.func24,by kernel_rfl,by kernel_rfl⟩
theorem ok26:FnOk Tryz.prog 26 Tryz.f26:=⟨Tryz.func26,by kernel_rfl,by kernel_rfl⟩
set_option maxRecDepth 100000 in
theorem has_o {m v:Nat} (hm':m≤4) (hv:1≤v) (ud:Nat→Dat):BSim Tryz.prog 24 [objsA m ud,fO] [[nD v]] [[nD v]] (.bool (decide (v≤m))):=by
 have lf:∀ (b:Bool) (v:Nat),pdec (Leaf 1 [0] [[nD v]] (.bool b) (.bool b) [some (.row [.int .i64 (.ofNat v)] false 1)])=true:=fun b v=>pdec_iff.2 (Leaf.box (r:=[nD v]) (π:=[]) (bs:=[]) fun _ _=>.dat _ (.bool b) (.same (.bool b)))
 by_cases h:v≤m
 ·rw [decide_eq_true h]
  have h4:m=1∨m=2∨m=3∨m=4:=by omega
  rcases h4 with rfl | rfl | rfl | rfl
  ·have hv':v=1:=by omega
   rcases hv' with rfl
   ·exact @BSim.run Sb Tryz.prog hm X0 hX0l [] (fun _ h=>by cases h) 24 Tryz.f24 ok24 [objsA 1 ud,fO] [[nD 1]] [[nD 1]] (.bool true) (by kernel_rfl) rfl 200 [0] _ (ho_1_1 ud) (lf true 1)
  ·have hv':v=1∨v=2:=by omega
   rcases hv' with rfl | rfl
   ·exact @BSim.run Sb Tryz.prog hm X0 hX0l [] (fun _ h=>by cases h) 24 Tryz.f24 ok24 [objsA 2 ud,fO] [[nD 1]] [[nD 1]] (.bool true) (by kernel_rfl) rfl 200 [0] _ (ho_2_1 ud) (lf true 1)
   ·exact @BSim.run Sb Tryz.prog hm X0 hX0l [] (fun _ h=>by cases h) 24 Tryz.f24 ok24 [objsA 2 ud,fO] [[nD 2]] [[nD 2]] (.bool true) (by kernel_rfl) rfl 200 [0] _ (ho_2_2 ud) (lf true 2)
  ·have hv':v=1∨v=2∨v=3:=by omega
   rcases hv' with rfl | rfl | rfl
   ·exact @BSim.run Sb Tryz.prog hm X0 hX0l [] (fun _ h=>by cases h) 24 Tryz.f24 ok24 [objsA 3 ud,fO] [[nD 1]] [[nD 1]] (.bool true) (by kernel_rfl) rfl 200 [0] _ (ho_3_1 ud) (lf true 1)
   ·exact @BSim.run Sb Tryz.prog hm X0 hX0l [] (fun _ h=>by cases h) 24 Tryz.f24 ok24 [objsA 3 ud,fO] [[nD 2]] [[nD 2]] (.bool true) (by kernel_rfl) rfl 200 [0] _ (ho_3_2 ud) (lf true 2)
   ·exact @BSim.run Sb Tryz.prog hm X0 hX0l [] (fun _ h=>by cases h) 24 Tryz.f24 ok24 [objsA 3 ud,fO] [[nD 3]] [[nD 3]] (.bool true) (by kernel_rfl) rfl 200 [0] _ (ho_3_3 ud) (lf true 3)
  ·have hv':v=1∨v=2∨v=3∨v=4:=by omega
   rcases hv' with rfl | rfl | rfl | rfl
   ·exact @BSim.run Sb Tryz.prog hm X0 hX0l [] (fun _ h=>by cases h) 24 Tryz.f24 ok24 [objsA 4 ud,fO] [[nD 1]] [[nD 1]] (.bool true) (by kernel_rfl) rfl 200 [0] _ (ho_4_1 ud) (lf true 1)
   ·exact @BSim.run Sb Tryz.prog hm X0 hX0l [] (fun _ h=>by cases h) 24 Tryz.f24 ok24 [objsA 4 ud,fO] [[nD 2]] [[nD 2]] (.bool true) (by kernel_rfl) rfl 200 [0] _ (ho_4_2 ud) (lf true 2)
   ·exact @BSim.run Sb Tryz.prog hm X0 hX0l [] (fun _ h=>by cases h) 24 Tryz.f24 ok24 [objsA 4 ud,fO] [[nD 3]] [[nD 3]] (.bool true) (by kernel_rfl) rfl 200 [0] _ (ho_4_3 ud) (lf true 3)
   ·exact @BSim.run Sb Tryz.prog hm X0 hX0l [] (fun _ h=>by cases h) 24 Tryz.f24 ok24 [objsA 4 ud,fO] [[nD 4]] [[nD 4]] (.bool true) (by kernel_rfl) rfl 200 [0] _ (ho_4_4 ud) (lf true 4)
 ·rw [decide_eq_false h]
  have h4:m=0∨m=1∨m=2∨m=3∨m=4:=by omega
  have ne:∀ k:Nat,k≠v→ieq (.ofNat k) (.ofNat v)=false:=fun k hk=>by rw [ieq_n];exact decide_eq_false hk
  rcases h4 with rfl | rfl | rfl | rfl | rfl
  ·exact @BSim.run (So [(8,7,false)]) Tryz.prog hm X0 hX0l [] (fun _ h=>by cases h) 24 Tryz.f24 ok24 [objsA 0 ud,fO] [[nD v]] [[nD v]] (.bool false) (by kernel_rfl) rfl 200 [0] _ (ho_0_x ud v) (lf false v)
  ·refine @BSim.run (So [(8,7,false)]) Tryz.prog hm X0 hX0l [] (fun _ h=>by cases h) 24 Tryz.f24 ok24 [objsA 1 ud,fO] [[nD v]] [[nD v]] (.bool false) (by kernel_rfl) rfl 200 [0] _ (ho_1_x ud v) ?_
   simp only [gN_iff]
   exact ⟨ne 1 (by omega),lf false v⟩
  ·refine @BSim.run (So [(8,7,false)]) Tryz.prog hm X0 hX0l [] (fun _ h=>by cases h) 24 Tryz.f24 ok24 [objsA 2 ud,fO] [[nD v]] [[nD v]] (.bool false) (by kernel_rfl) rfl 200 [0] _ (ho_2_x ud v) ?_
   simp only [gN_iff]
   exact ⟨ne 1 (by omega),ne 2 (by omega),lf false v⟩
  ·refine @BSim.run (So [(8,7,false)]) Tryz.prog hm X0 hX0l [] (fun _ h=>by cases h) 24 Tryz.f24 ok24 [objsA 3 ud,fO] [[nD v]] [[nD v]] (.bool false) (by kernel_rfl) rfl 200 [0] _ (ho_3_x ud v) ?_
   simp only [gN_iff]
   exact ⟨ne 1 (by omega),ne 2 (by omega),ne 3 (by omega),lf false v⟩
  ·refine @BSim.run (So [(8,7,false)]) Tryz.prog hm X0 hX0l [] (fun _ h=>by cases h) 24 Tryz.f24 ok24 [objsA 4 ud,fO] [[nD v]] [[nD v]] (.bool false) (by kernel_rfl) rfl 200 [0] _ (ho_4_x ud v) ?_
   simp only [gN_iff]
   exact ⟨ne 1 (by omega),ne 2 (by omega),ne 3 (by omega),ne 4 (by omega),lf false v⟩
def inZ (m:Nat) (s:List UInt8):Bool:=(List.range m).any fun i=>decide (zName i=s)
set_option maxRecDepth 100000 in
theorem has_z {m:Nat} {s:List UInt8} (hm':m≤2) (e:Nat→Nat→List Dat):BSim Tryz.prog 26 [zonesA m e,fZ] [[sD s]] [[sD s]] (.bool (inZ m s)):=by
 have lf:∀ (b:Bool) (s:List UInt8),pdec (Leaf 1 [0] [[sD s]] (.bool b) (.bool b) [some (.row [strA s] false 1)])=true:=fun b s=>pdec_iff.2 (Leaf.box (r:=[sD s]) (π:=[]) (bs:=[]) fun _ _=>.dat _ (.bool b) (.same (.bool b)))
 have h3:m=0∨m=1∨m=2:=by omega
 have ne:∀ i,zName i≠s→seqA 5 (enc (zName i)) s.length (enc s)=false:=fun i h=>by
  have hl:(zName i).length=5:=by unfold zName;split<;>rfl
  have:=seq_d (zName i) s
  rw [hl] at this
  rw [this];exact decide_eq_false h
 rcases h3 with rfl | rfl | rfl
 ·exact @BSim.run (So [(8,7,false)]) Tryz.prog hm X0 hX0l [] (fun _ h=>by cases h) 26 Tryz.f26 ok26 [zonesA 0 e,fZ] [[sD s]] [[sD s]] (.bool false) (by kernel_rfl) rfl 200 [0] _ (hz_0_x e s) (lf false s)
 ·by_cases h0:zName 0=s
  ·subst h0
   exact @BSim.run Sb Tryz.prog hm X0 hX0l [] (fun _ h=>by cases h) 26 Tryz.f26 ok26 [zonesA 1 e,fZ] [[sD (zName 0)]] [[sD (zName 0)]] (.bool true) (by kernel_rfl) rfl 200 [0] _ (hz_1_0 e) (lf true (zName 0))
  ·have hb:inZ 1 s=false:=by simp [inZ,List.range_succ,h0]
   rw [hb]
   refine @BSim.run (So [(8,7,false)]) Tryz.prog hm X0 hX0l [] (fun _ h=>by cases h) 26 Tryz.f26 ok26 [zonesA 1 e,fZ] [[sD s]] [[sD s]] (.bool false) (by kernel_rfl) rfl 200 [0] _ (hz_1_x e s) ?_
   simp only [gN_iff]
   exact ⟨ne 0 h0,lf false s⟩
 ·by_cases h0:zName 0=s
  ·subst h0
   exact @BSim.run Sb Tryz.prog hm X0 hX0l [] (fun _ h=>by cases h) 26 Tryz.f26 ok26 [zonesA 2 e,fZ] [[sD (zName 0)]] [[sD (zName 0)]] (.bool true) (by kernel_rfl) rfl 200 [0] _ (hz_2_0 e) (lf true (zName 0))
  ·by_cases h1:zName 1=s
   ·subst h1
    exact @BSim.run Sb Tryz.prog hm X0 hX0l [] (fun _ h=>by cases h) 26 Tryz.f26 ok26 [zonesA 2 e,fZ] [[sD (zName 1)]] [[sD (zName 1)]] (.bool true) (by kernel_rfl) rfl 200 [0] _ (hz_2_1 e) (lf true (zName 1))
   ·have hb:inZ 2 s=false:=by simp [inZ,List.range_succ,h0,h1]
    rw [hb]
    refine @BSim.run (So [(8,7,false)]) Tryz.prog hm X0 hX0l [] (fun _ h=>by cases h) 26 Tryz.f26 ok26 [zonesA 2 e,fZ] [[sD s]] [[sD s]] (.bool false) (by kernel_rfl) rfl 200 [0] _ (hz_2_x e s) ?_
    simp only [gN_iff]
    exact ⟨ne 0 h0,ne 1 h1,lf false s⟩
end
end
end Go.Proofs.YtodjhpjcgggamaaGreatDoor

namespace Go.Proofs.YtodjhpjcgggamaaGreatDoor
open Go Go.Eng Go.Vi Go.Knuth
noncomputable section
section
local instance : Go.Eng.Mode := Sb
def c10:Code:=codeOf Tryz.f10
def T10:Nat:=Tryz.f10.ntmps
def P10:Code:=lhs (rhs c10)
def R10:Code:=lhs (rhs (rhs c10))
def E10:Code:=rhs (rhs (rhs c10))
def lpO:Code:=bodyOf (bodyOf (rhs P10))
def lpZ:Code:=bodyOf (bodyOf (rhs R10))
def dAgg (m1:Nat) (ud:Nat→Dat) (m2:Nat) (e:Nat→Nat→List Dat):AV:=.agg [objsA m1 ud,zonesA m2 e]
def dRow (m1:Nat) (ud:Nat→Dat) (m2:Nat) (e:Nat→Nat→List Dat):Blk:=.row [objsA m1 ud,zonesA m2 e] false 1
def eOb (x:Ex) (n:Nat) (g:Nat→Nat):FuncId × SEnt:=(12,⟨[exA x],[],idsA n g⟩)
def eZo (x:Ex) (n:Nat) (h:Nat→List UInt8):FuncId × SEnt:=(14,⟨[exA x],[],zsA n h⟩)
def eHO (m1:Nat) (ud:Nat→Dat) (v:Nat) (b:Nat) (t:Bool):FuncId × SEnt:=(24,⟨[objsA m1 ud,.func (.func 25) [] [.ptr b 0]],[(b,[.int .i64 (.ofNat v)],[.int .i64 (.ofNat v)])],.bool t⟩)
def eHZ (m2:Nat) (e:Nat→Nat→List Dat) (s:List UInt8) (b:Nat) (t:Bool):FuncId × SEnt:=(26,⟨[zonesA m2 e,.func (.func 27) [] [.ptr b 0]],[(b,[strA s],[strA s])],.bool t⟩)
abbrev s1 (n:Nat) (g:Nat→Nat) (i:Nat) (out:AV):List (Nat × AV):=[(2,.ptr 0 0),(3,.ptr 1 0),(5,.nilSlice),(11,idsA n g),(12,.int .i64 (.ofNat n)),(13,.int .i64 (.ofNat i)),(4,out)]
abbrev s2 (q:Nat) (g2:Nat→Nat) (n:Nat) (h:Nat→List UInt8) (i:Nat) (out:AV):List (Nat × AV):=[(2,.ptr 0 0),(3,.ptr 1 0),(4,idsA q g2),(28,zsA n h),(29,.int .i64 (.ofNat n)),(30,.int .i64 (.ofNat i)),(5,out)]
theorem o_pre (x:Ex) (m1:Nat) (ud:Nat→Dat) (m2:Nat) (e:Nat→Nat→List Dat) (I:IK):xN [] 60 T10 1 c10 (argSlots [exA x,dAgg m1 ud m2 e] 0) [] [2,3,4,5] [0,1] I=I .normal [some (.ptr 0 0),some (.ptr 1 0),some .nilSlice,some .nilSlice] [some (xRow x),some (dRow m1 ud m2 e)]:=by kernel_rfl
theorem o_ini (x:Ex) (m1:Nat) (ud:Nat→Dat) (m2:Nat) (e:Nat→Nat→List Dat) (n:Nat) (g:Nat→Nat) (I:IK):@xE Sb [eOb x n g] 100 T10 (lhs P10) ([(2,.ptr 0 0),(3,.ptr 1 0),(4,.nilSlice),(5,.nilSlice)]) [xRow x,dRow m1 ud m2 e] [2,3,5,11,12,13,4] [0,1] I=gX ((eOb x n g).snd.args) (I .normal [some (.ptr 0 0),some (.ptr 1 0),some .nilSlice,some (.dslice n 1 (idEl g)),some (.int .i64 (.ofNat n)),some (.int .i64 0),some .nilSlice] [some (xRow x),some (dRow m1 ud m2 e)]):=by kernel_rfl
theorem o_hn (x:Ex) (m1:Nat) (ud:Nat→Dat) (m2:Nat) (e:Nat→Nat→List Dat) (n:Nat) (g:Nat→Nat) (i:Nat) (I:IK):@xE Sb [] 100 T10 (lhs lpO) (s1 n g i .nilSlice) [xRow x,dRow m1 ud m2 e] [2,3,5,11,12,13,4,14] [0,1] I=I .normal [some (.ptr 0 0),some (.ptr 1 0),some .nilSlice,some (.dslice n 1 (idEl g)),some (.int .i64 (.ofNat n)),some (.int .i64 (.ofNat i)),some .nilSlice,some (.bool (ilt (.ofNat i) (.ofNat n)))] [some (xRow x),some (dRow m1 ud m2 e)]:=by kernel_rfl
theorem o_hc (x:Ex) (m1:Nat) (ud:Nat→Dat) (m2:Nat) (e:Nat→Nat→List Dat) (n:Nat) (g:Nat→Nat) (i:Nat) (k:Nat) (L:List AV) (I:IK):@xE Sb [] 100 T10 (lhs lpO) (s1 n g i (.slice 2 0 k k true)) [xRow x,dRow m1 ud m2 e,.row L true 1] [2,3,5,11,12,13,4,14] [0,1,2] I=I .normal [some (.ptr 0 0),some (.ptr 1 0),some .nilSlice,some (.dslice n 1 (idEl g)),some (.int .i64 (.ofNat n)),some (.int .i64 (.ofNat i)),some (.slice 2 0 k k true),some (.bool (ilt (.ofNat i) (.ofNat n)))] [some (xRow x),some (dRow m1 ud m2 e),some (.row L true 1)]:=by kernel_rfl
theorem o_bnt (x:Ex) (m1:Nat) (ud:Nat→Dat) (m2:Nat) (e:Nat→Nat→List Dat) (n:Nat) (g:Nat→Nat) (i:Nat) (I:IK):@xE Sb [eHO m1 ud (g i) 2 true] 100 T10 (rhs (rhs lpO)) (s1 n g i .nilSlice) [xRow x,dRow m1 ud m2 e] [2,3,5,11,12,13,4] [0,1] I=gB (Nat.blt i n) (gX ((eHO m1 ud (g i) 2 true).snd.args) (gX ((2,[AV.int IntKind.i64 (Int.ofNat (g i))],[AV.int IntKind.i64 (Int.ofNat (g i))]).snd.fst) (gB (inI64 ((Int.ofNat i).add 1)) (I .normal [some (.ptr 0 0),some (.ptr 1 0),some .nilSlice,some (.dslice n 1 (idEl g)),some (.int .i64 (.ofNat n)),some (.int .i64 ((Int.ofNat i).add 1)),some .nilSlice] [some (xRow x),some (dRow m1 ud m2 e)])))):=by kernel_rfl
theorem o_bnf (x:Ex) (m1:Nat) (ud:Nat→Dat) (m2:Nat) (e:Nat→Nat→List Dat) (n:Nat) (g:Nat→Nat) (i:Nat) (I:IK):@xE Sb [eHO m1 ud (g i) 2 false] 100 T10 (rhs (rhs lpO)) (s1 n g i .nilSlice) [xRow x,dRow m1 ud m2 e] [2,3,5,11,12,13,4] [0,1,4] I=gB (Nat.blt i n) (gX ((eHO m1 ud (g i) 2 false).snd.args) (gX ((2,[AV.int IntKind.i64 (Int.ofNat (g i))],[AV.int IntKind.i64 (Int.ofNat (g i))]).snd.fst) (gB (inI64 ((Int.ofNat i).add 1)) (I .normal [some (.ptr 0 0),some (.ptr 1 0),some .nilSlice,some (.dslice n 1 (idEl g)),some (.int .i64 (.ofNat n)),some (.int .i64 ((Int.ofNat i).add 1)),some (.slice 4 0 1 1 true)] [some (xRow x),some (dRow m1 ud m2 e),some (.row [.int .i64 (.ofNat (g i))] true 1)])))):=by kernel_rfl
theorem o_bct (x:Ex) (m1:Nat) (ud:Nat→Dat) (m2:Nat) (e:Nat→Nat→List Dat) (n:Nat) (g:Nat→Nat) (i:Nat) (k:Nat) (L:List AV) (I:IK):@xE Sb [eHO m1 ud (g i) 3 true] 100 T10 (rhs (rhs lpO)) (s1 n g i (.slice 2 0 k k true)) [xRow x,dRow m1 ud m2 e,.row L true 1] [2,3,5,11,12,13,4] [0,1,2] I=gB (Nat.blt i n) (gX ((eHO m1 ud (g i) 3 true).snd.args) (gX ((3,[AV.int IntKind.i64 (Int.ofNat (g i))],[AV.int IntKind.i64 (Int.ofNat (g i))]).snd.fst) (gB (inI64 ((Int.ofNat i).add 1)) (I .normal [some (.ptr 0 0),some (.ptr 1 0),some .nilSlice,some (.dslice n 1 (idEl g)),some (.int .i64 (.ofNat n)),some (.int .i64 ((Int.ofNat i).add 1)),some (.slice 2 0 k k true)] [some (xRow x),some (dRow m1 ud m2 e),some (.row L true 1)])))):=by kernel_rfl
theorem o_bcf (x:Ex) (m1:Nat) (ud:Nat→Dat) (m2:Nat) (e:Nat→Nat→List Dat) (n:Nat) (g:Nat→Nat) (i:Nat) (k:Nat) (L:List AV) (I:IK):@xE Sb [eHO m1 ud (g i) 3 false] 100 T10 (rhs (rhs lpO)) (s1 n g i (.slice 2 0 k k true)) [xRow x,dRow m1 ud m2 e,.row L true 1] [2,3,5,11,12,13,4] [0,1,5] I=gB (Nat.blt i n) (gX ((eHO m1 ud (g i) 3 false).snd.args) (gX ((3,[AV.int IntKind.i64 (Int.ofNat (g i))],[AV.int IntKind.i64 (Int.ofNat (g i))]).snd.fst) (gateP ((Nat.ble (Nat.add k 1) k)=false) (gB (Nat.ble (Nat.mul k 1) (lenL (List.drop 0 L))) (gB (Nat.beq (lenL L) (Nat.mul k 1)) (gB (Nat.ble (Nat.add k 1) 9223372036854775807) (gB (smallOk Tryz.prog 3 (k.add 1)) (gB (inI64 ((Int.ofNat i).add 1)) (I .normal [some (.ptr 0 0),some (.ptr 1 0),some .nilSlice,some (.dslice n 1 (idEl g)),some (.int .i64 (.ofNat n)),some (.int .i64 ((Int.ofNat i).add 1)),some (.slice 5 0 (Nat.add k 1) (Nat.add k 1) true)] [some (xRow x),some (dRow m1 ud m2 e),some (.row (List.append (List.take (Nat.mul k 1) (List.drop 0 L)) [AV.int IntKind.i64 (Int.ofNat (g i))]) true 1)]))))))))):=by kernel_rfl
theorem z_ini (x:Ex) (m1:Nat) (ud:Nat→Dat) (m2:Nat) (e:Nat→Nat→List Dat) (q:Nat) (g2:Nat→Nat) (n:Nat) (h:Nat→List UInt8) (I:IK):@xE Sb [eZo x n h] 100 T10 (lhs R10) ([(2,.ptr 0 0),(3,.ptr 1 0),(4,idsA q g2),(5,.nilSlice)]) [xRow x,dRow m1 ud m2 e] [2,3,4,28,29,30,5] [0,1] I=gX ((eZo x n h).snd.args) (I .normal [some (.ptr 0 0),some (.ptr 1 0),some (.dslice q 1 (idEl g2)),some (.dslice n 1 (zsEl h)),some (.int .i64 (.ofNat n)),some (.int .i64 0),some .nilSlice] [some (xRow x),some (dRow m1 ud m2 e)]):=by kernel_rfl
theorem z_hn (x:Ex) (m1:Nat) (ud:Nat→Dat) (m2:Nat) (e:Nat→Nat→List Dat) (q:Nat) (g2:Nat→Nat) (n:Nat) (h:Nat→List UInt8) (i:Nat) (I:IK):@xE Sb [] 100 T10 (lhs lpZ) (s2 q g2 n h i .nilSlice) [xRow x,dRow m1 ud m2 e] [2,3,4,28,29,30,5,31] [0,1] I=I .normal [some (.ptr 0 0),some (.ptr 1 0),some (.dslice q 1 (idEl g2)),some (.dslice n 1 (zsEl h)),some (.int .i64 (.ofNat n)),some (.int .i64 (.ofNat i)),some .nilSlice,some (.bool (ilt (.ofNat i) (.ofNat n)))] [some (xRow x),some (dRow m1 ud m2 e)]:=by kernel_rfl
theorem z_hc (x:Ex) (m1:Nat) (ud:Nat→Dat) (m2:Nat) (e:Nat→Nat→List Dat) (q:Nat) (g2:Nat→Nat) (n:Nat) (h:Nat→List UInt8) (i:Nat) (k:Nat) (L:List AV) (I:IK):@xE Sb [] 100 T10 (lhs lpZ) (s2 q g2 n h i (.slice 2 0 k k true)) [xRow x,dRow m1 ud m2 e,.row L true 1] [2,3,4,28,29,30,5,31] [0,1,2] I=I .normal [some (.ptr 0 0),some (.ptr 1 0),some (.dslice q 1 (idEl g2)),some (.dslice n 1 (zsEl h)),some (.int .i64 (.ofNat n)),some (.int .i64 (.ofNat i)),some (.slice 2 0 k k true),some (.bool (ilt (.ofNat i) (.ofNat n)))] [some (xRow x),some (dRow m1 ud m2 e),some (.row L true 1)]:=by kernel_rfl
theorem z_bnt (x:Ex) (m1:Nat) (ud:Nat→Dat) (m2:Nat) (e:Nat→Nat→List Dat) (q:Nat) (g2:Nat→Nat) (n:Nat) (h:Nat→List UInt8) (i:Nat) (I:IK):@xE Sb [eHZ m2 e (h i) 2 true] 100 T10 (rhs (rhs lpZ)) (s2 q g2 n h i .nilSlice) [xRow x,dRow m1 ud m2 e] [2,3,4,28,29,30,5] [0,1] I=gB (Nat.blt i n) (gX ((eHZ m2 e (h i) 2 true).snd.args) (gX ((2,[strA (h i)],[strA (h i)]).snd.fst) (gB (inI64 ((Int.ofNat i).add 1)) (I .normal [some (.ptr 0 0),some (.ptr 1 0),some (.dslice q 1 (idEl g2)),some (.dslice n 1 (zsEl h)),some (.int .i64 (.ofNat n)),some (.int .i64 ((Int.ofNat i).add 1)),some .nilSlice] [some (xRow x),some (dRow m1 ud m2 e)])))):=by kernel_rfl
theorem z_bnf (x:Ex) (m1:Nat) (ud:Nat→Dat) (m2:Nat) (e:Nat→Nat→List Dat) (q:Nat) (g2:Nat→Nat) (n:Nat) (h:Nat→List UInt8) (i:Nat) (I:IK):@xE Sb [eHZ m2 e (h i) 2 false] 100 T10 (rhs (rhs lpZ)) (s2 q g2 n h i .nilSlice) [xRow x,dRow m1 ud m2 e] [2,3,4,28,29,30,5] [0,1,4] I=gB (Nat.blt i n) (gX ((eHZ m2 e (h i) 2 false).snd.args) (gX ((2,[strA (h i)],[strA (h i)]).snd.fst) (gB (inI64 ((Int.ofNat i).add 1)) (I .normal [some (.ptr 0 0),some (.ptr 1 0),some (.dslice q 1 (idEl g2)),some (.dslice n 1 (zsEl h)),some (.int .i64 (.ofNat n)),some (.int .i64 ((Int.ofNat i).add 1)),some (.slice 4 0 1 1 true)] [some (xRow x),some (dRow m1 ud m2 e),some (.row [strA (h i)] true 1)])))):=by kernel_rfl
theorem z_bct (x:Ex) (m1:Nat) (ud:Nat→Dat) (m2:Nat) (e:Nat→Nat→List Dat) (q:Nat) (g2:Nat→Nat) (n:Nat) (h:Nat→List UInt8) (i:Nat) (k:Nat) (L:List AV) (I:IK):@xE Sb [eHZ m2 e (h i) 3 true] 100 T10 (rhs (rhs lpZ)) (s2 q g2 n h i (.slice 2 0 k k true)) [xRow x,dRow m1 ud m2 e,.row L true 1] [2,3,4,28,29,30,5] [0,1,2] I=gB (Nat.blt i n) (gX ((eHZ m2 e (h i) 3 true).snd.args) (gX ((3,[strA (h i)],[strA (h i)]).snd.fst) (gB (inI64 ((Int.ofNat i).add 1)) (I .normal [some (.ptr 0 0),some (.ptr 1 0),some (.dslice q 1 (idEl g2)),some (.dslice n 1 (zsEl h)),some (.int .i64 (.ofNat n)),some (.int .i64 ((Int.ofNat i).add 1)),some (.slice 2 0 k k true)] [some (xRow x),some (dRow m1 ud m2 e),some (.row L true 1)])))):=by kernel_rfl
theorem z_bcf (x:Ex) (m1:Nat) (ud:Nat→Dat) (m2:Nat) (e:Nat→Nat→List Dat) (q:Nat) (g2:Nat→Nat) (n:Nat) (h:Nat→List UInt8) (i:Nat) (k:Nat) (L:List AV) (I:IK):@xE Sb [eHZ m2 e (h i) 3 false] 100 T10 (rhs (rhs lpZ)) (s2 q g2 n h i (.slice 2 0 k k true)) [xRow x,dRow m1 ud m2 e,.row L true 1] [2,3,4,28,29,30,5] [0,1,5] I=gB (Nat.blt i n) (gX ((eHZ m2 e (h i) 3 false).snd.args) (gX ((3,[strA (h i)],[strA (h i)]).snd.fst) (gateP ((Nat.ble (Nat.add k 1) k)=false) (gB (Nat.ble (Nat.mul k 1) (lenL (List.drop 0 L))) (gB (Nat.beq (lenL L) (Nat.mul k 1)) (gB (Nat.ble (Nat.add k 1) 9223372036854775807) (gB (smallOk Tryz.prog 9 (k.add 1)) (gB (inI64 ((Int.ofNat i).add 1)) (I .normal [some (.ptr 0 0),some (.ptr 1 0),some (.dslice q 1 (idEl g2)),some (.dslice n 1 (zsEl h)),some (.int .i64 (.ofNat n)),some (.int .i64 ((Int.ofNat i).add 1)),some (.slice 5 0 (Nat.add k 1) (Nat.add k 1) true)] [some (xRow x),some (dRow m1 ud m2 e),some (.row (List.append (List.take (Nat.mul k 1) (List.drop 0 L)) [strA (h i)]) true 1)]))))))))):=by kernel_rfl
theorem z_fin (x:Ex) (m1:Nat) (ud:Nat→Dat) (m2:Nat) (e:Nat→Nat→List Dat) (q:Nat) (g2:Nat→Nat) (n:Nat) (h:Nat→List UInt8) (I:AK):xR [] 60 T10 E10 [(4,idsA q g2),(5,zsA n h)] [] Tryz.f10 [] I=I (.tuple [.dslice q 1 (idEl g2),.dslice n 1 (zsEl h)]) []:=by kernel_rfl
end
end
end Go.Proofs.YtodjhpjcgggamaaGreatDoor

namespace Go.Proofs.YtodjhpjcgggamaaGreatDoor
open Go Go.Eng Go.Vi Go.Knuth
noncomputable section
section
local instance : Go.Eng.Mode := Sb
def outM (b:Nat):List Dat→AV
 | []=>.nilSlice
 | d::l=>.slice b 0 (d::l).length (d::l).length true
def rowsM (R0:List Blk):List Dat→List Blk
 | []=>R0
 | d::l=>R0++[.row (toAVs (d::l)) true 1]
theorem Pln.rowsM {R0:List Blk} (h:Pln R0) (l:List Dat):Pln (rowsM R0 l):=by
 cases l with
 | nil=>exact h
 | cons d l =>
  intro b hb
  rcases List.mem_append.1 hb with hb | hb
  ·exact h b hb
  ·exact ⟨_,_,_,List.mem_singleton.1 hb⟩
theorem okP {π:List Nat} {rows:List Blk} {n:Nat} (h:rows.length=n) (hd:okPi 0 π n=true):okPi 0 π rows.length=true:=by rw [h];exact hd
theorem W.test2 [Go.Eng.Mode] {nt k:Nat} {h r:Code} {t x:Nat} {Q:AE→Fr→Mem→Prop} {fr:Fr} {M:Mem}
  (hh:W Tryz.prog nt k h fr M fun o fr1 M1=>o=.normal∧((fr1.get t=some (.bool true)∧W Tryz.prog nt k r fr1 M1 Q)∨(fr1.get t=some (.bool false)∧Q (.exit x) fr1 M1))):W Tryz.prog nt k (.seq h (.seq (.cond (.tmp t) .skip (.exit x)) r)) fr M Q:=by
 refine W.seq (W.mono hh ?_)
 rintro o fr1 M1 ⟨rfl,⟨h1,h2⟩ | ⟨h1,h2⟩⟩
 ·exact W.seq (W.cond true h1 (fun _=>W.skip h2) (fun h=>by cases h))
 ·exact W.seq (W.cond false h1 (fun h=>by cases h) (fun _=>W.exit h2))
theorem filt_succ {α:Type} (p:α→Bool) (D:α→Dat) (d:α) (l:List α) {i:Nat} (hi:i<l.length):((l.take (i+1)).filter p).map D=if p (l.getD i d)=true then ((l.take i).filter p).map D++[D (l.getD i d)] else ((l.take i).filter p).map D:=by
 rw [List.take_add_one,List.getElem?_eq_getElem hi,getD_lt d hi]
 show ((l.take i++[l[i]]).filter p).map D=_
 rw [List.filter_append,List.map_append]
 by_cases h:p l[i]=true
 ·rw [if_pos h];simp [h]
 ·rw [if_neg h];simp [h]
theorem mv_three3 {a b c:Nat} {M:Mem} {x y z:Option Blk} (h:mv [a,b,c] M=[x,y,z]):M.t.get a=x∧M.t.get b=y∧M.t.get c=z:=by
 have h:[M.t.get a,M.t.get b,M.t.get c]=[x,y,z]:=h
 simpa using h
theorem W.fzc {nt:Nat} {c:Code} {Q:AE→Fr→Mem→Prop} (s s':List (Nat × AV)) (R0:List Blk) (rows:List Blk) (hp:Pln R0) (hr:∀ j,j<R0.length→rows[j]? = R0[j]?)
  (hs:∀ p∈s',∃ a,(mkFr s).get p.1=some a∧FzB R0.length (mkMem rows) a p.2) (h:W Tryz.prog nt 0 c (mkFr s') (mkMem R0) Q):W Tryz.prog nt 0 c (mkFr s) (mkMem rows) Q:=by
 refine W.fz s' R0 (Nat.zero_le _) hs (fun j b hb=>?_) h
 obtain ⟨d,op,sz,rfl⟩:=hp b (List.mem_of_getElem? hb)
 refine ⟨_,_,op,sz,rfl,?_,FzBs.sames d⟩
 rw [mkMem_get,hr j (List.getElem?_eq_some_iff.1 hb).1,hb]
theorem fzM {α:Type} (D:α→Dat) (d:α) (R0:List Blk) (l:List α):FzB R0.length (mkMem (rowsM R0 (l.map D))) (outM R0.length (l.map D)) (slA D d l):=by
 refine .cell _ _ (.dat _ (slD D d l) ?_)
 cases l with
 | nil=>exact .nil _ _
 | cons a l =>
  have hb:(mkMem (rowsM R0 ((a::l).map D))).t.get R0.length=some (.row (toAVs ((a::l).map D)) true 1):=by
   rw [mkMem_get]
   show (R0++[_])[R0.length]? = _
   rw [List.getElem?_append_right (Nat.le_refl _),Nat.sub_self]
   rfl
  have hn:((a::l).map D).length=(a::l).length:=by simp
  show FzD R0.length _ (.slice R0.length 0 ((a::l).map D).length ((a::l).map D).length true) _
  rw [hn]
  exact fz_row D d (a::l) rfl (Nat.le_refl _) hb
theorem fzM0 {α:Type} (D:α→Dat) (d:α) (R0:List Blk) (l:List α):FzB 0 (mkMem (rowsM R0 (l.map D))) (outM R0.length (l.map D)) (slA D d l):=by
 refine .cell _ _ (.dat _ (slD D d l) ?_)
 cases l with
 | nil=>exact .nil _ _
 | cons a l =>
  have hb:(mkMem (rowsM R0 ((a::l).map D))).t.get R0.length=some (.row (toAVs ((a::l).map D)) true 1):=by
   rw [mkMem_get]
   show (R0++[_])[R0.length]? = _
   rw [List.getElem?_append_right (Nat.le_refl _),Nat.sub_self]
   rfl
  have hn:((a::l).map D).length=(a::l).length:=by simp
  show FzD 0 _ (.slice R0.length 0 ((a::l).map D).length ((a::l).map D).length true) _
  rw [hn]
  exact fz_row D d (a::l) rfl (Nat.zero_le _) hb
theorem rowsM_lt (R0:List Blk) (l:List Dat):∀ j,j<R0.length→(rowsM R0 l)[j]? = R0[j]?:=by
 intro j hj
 cases l with
 | nil=>rfl
 | cons d l=>exact List.getElem?_append_left hj
abbrev R2 (x:Ex) (m1:Nat) (ud:Nat→Dat) (m2:Nat) (e:Nat→Nat→List Dat):List Blk:=[xRow x,dRow m1 ud m2 e]
theorem plnR2 (x:Ex) (m1:Nat) (ud:Nat→Dat) (m2:Nat) (e:Nat→Nat→List Dat):Pln (R2 x m1 ud m2 e) :=
 Pln.cons (Pln.cons (d:=[.slice m1 2 (fun i=>[.int .i64 (.ofNat (i+1)),ud i]),.slice m2 2 (fun i=>[.str 5 (enc (zName i)),.slice 1 22 (e i)])]) Pln.nil)
theorem lpO_eq:lpO=.seq (lhs lpO) (.seq (.cond (.tmp 14) .skip (.exit 0)) (rhs (rhs lpO))):=by kernel_rfl
theorem lpZ_eq:lpZ=.seq (lhs lpZ) (.seq (.cond (.tmp 31) .skip (.exit 2)) (rhs (rhs lpZ))):=by kernel_rfl
theorem c10_eq:post 1 c10=.seq (.seq (lhs P10) (.block 0 (.loop lpO))) (.seq (.seq (lhs R10) (.block 2 (.loop lpZ))) E10):=by kernel_rfl
theorem stepO {x:Ex} {m1:Nat} {ud:Nat→Dat} {m2:Nat} {e:Nat→Nat→List Dat} (ids:List Nat) {i:Nat} (hi:i<ids.length) (hn:ids.length<1000000) (l:List Dat) (hl:l.length≤i) (q:Bool) (hE:BSim Tryz.prog 24 [objsA m1 ud,fO] [[nD (ids.getD i 0)]] [[nD (ids.getD i 0)]] (.bool (!q))) {Q:AE→Fr→Mem→Prop}
  (hQ:∀ fr M,Here 0 (s1 ids.length (fun i=>ids.getD i 0) (i+1) (outM 2 (if q=true then l++[nD (ids.getD i 0)] else l))) (rowsM (R2 x m1 ud m2 e) (if q=true then l++[nD (ids.getD i 0)] else l)) fr M→Q .normal fr M):W Tryz.prog T10 0 (rhs (rhs lpO)) (mkFr (s1 ids.length (fun i=>ids.getD i 0) i (outM 2 l))) (mkMem (rowsM (R2 x m1 ud m2 e) l)) Q:=by
 have g0:∀ c,List.append (List.take (Nat.mul l.length 1) (toAVs l)) c=toAVs l++c:=grow_row (by rw [toAVs_length];omega)
 have hlen:lenL (toAVs l)=l.length:=by rw [lenL_eq,toAVs_length]
 cases q with
 | false =>
  cases l with
  | nil =>
   have key:=fun Q=>@W.run Sb Tryz.prog hm X0 hX0l [eHO m1 ud (ids.getD i 0) 2 true] (AllOk.mem ⟨hE.spec1 2 rfl,trivial⟩) T10 0 _ _ _ Q 100 [2,3,5,11,12,13,4] [0,1] _ (o_bnt x m1 ud m2 e ids.length (fun i=>ids.getD i 0) i)
   refine key _ ?_
   simp only [gB_iff,gX_iff]
   exact ⟨nblt_of hi,inI_succ hi (by omega),pdec_iff.2 fun fr M hv hM=>hQ fr M ⟨[0,1],okP (n:=2) rfl (by decide),rfl,hv,hM⟩⟩
  | cons d l =>
   have key:=fun Q=>@W.run Sb Tryz.prog hm X0 hX0l [eHO m1 ud (ids.getD i 0) 3 true] (AllOk.mem ⟨hE.spec1 3 rfl,trivial⟩) T10 0 _ _ _ Q 100 [2,3,5,11,12,13,4] [0,1,2] _ (o_bct x m1 ud m2 e ids.length (fun i=>ids.getD i 0) i (d::l).length (toAVs (d::l)))
   refine key _ ?_
   simp only [gB_iff,gX_iff]
   exact ⟨nblt_of hi,inI_succ hi (by omega),pdec_iff.2 fun fr M hv hM=>hQ fr M ⟨[0,1,2],okP (n:=3) rfl (by decide),rfl,hv,hM⟩⟩
 | true =>
  cases l with
  | nil =>
   have key:=fun Q=>@W.run Sb Tryz.prog hm X0 hX0l [eHO m1 ud (ids.getD i 0) 2 false] (AllOk.mem ⟨hE.spec1 2 rfl,trivial⟩) T10 0 _ _ _ Q 100 [2,3,5,11,12,13,4] [0,1,4] _ (o_bnf x m1 ud m2 e ids.length (fun i=>ids.getD i 0) i)
   refine key _ ?_
   simp only [gB_iff,gX_iff]
   exact ⟨nblt_of hi,inI_succ hi (by omega),pdec_iff.2 fun fr M hv hM=>hQ fr M ⟨[0,1,4],okP (n:=3) rfl (by decide),rfl,hv,hM⟩⟩
  | cons d l =>
   have key:=fun Q=>@W.run Sb Tryz.prog hm X0 hX0l [eHO m1 ud (ids.getD i 0) 3 false] (AllOk.mem ⟨hE.spec1 3 rfl,trivial⟩) T10 0 _ _ _ Q 100 [2,3,5,11,12,13,4] [0,1,5] _ (o_bcf x m1 ud m2 e ids.length (fun i=>ids.getD i 0) i (d::l).length (toAVs (d::l)))
   refine key _ ?_
   simp only [gB_iff,gX_iff,gateP_iff,List.drop_zero,g0,small3,nble_succ,hlen,true_and]
   refine ⟨nblt_of hi,ble_of (by show _*1≤_;omega),beq_of (by show _=_*1;omega),ble_of (by show _+1≤_;omega),ble_of (by show (_+1)*8≤_;omega),inI_succ hi (by omega),pdec_iff.2 fun fr M hv hM=>hQ fr M ⟨[0,1,5],okP (n:=3) rfl (by decide),rfl,?_,?_⟩⟩
   ·have hl1:((d::l)++[nD (ids.getD i 0)]).length=(d::l).length+1:=by simp
    refine hv.trans ?_
    show _=vals2 [0,1,5] (s1 ids.length (fun i=>ids.getD i 0) (i+1) (.slice 2 0 ((d::l)++[nD (ids.getD i 0)]).length ((d::l)++[nD (ids.getD i 0)]).length true))
    rw [hl1]
    rfl
   ·refine hM.trans ?_
    show _=[some (xRow x),some (dRow m1 ud m2 e),some (.row (toAVs ((d::l)++[nD (ids.getD i 0)])) true 1)]
    rw [toAVs_append]
    rfl
theorem mloopO {x:Ex} {m1:Nat} {ud:Nat→Dat} {m2:Nat} {e:Nat→Nat→List Dat} (ids:List Nat) (hn:ids.length<1000000) (p:Nat→Bool) (hE:∀ v∈ids,BSim Tryz.prog 24 [objsA m1 ud,fO] [[nD v]] [[nD v]] (.bool (!p v))) {c:Code} {Q:AE→Fr→Mem→Prop}
  (hQ:∀ k,k=ids.filter p→W Tryz.prog T10 0 c (mkFr [(2,.ptr 0 0),(3,.ptr 1 0),(4,slA nD 0 k),(5,.nilSlice)]) (mkMem (R2 x m1 ud m2 e)) Q) {fr:Fr} {M:Mem} (h0:Here 0 (s1 ids.length (fun i=>ids.getD i 0) 0 .nilSlice) (R2 x m1 ud m2 e) fr M):W Tryz.prog T10 0 (.block 0 (.loop lpO)) fr M (Nxt Tryz.prog T10 0 c Q):=by
 refine W.block (W.loopP (σ:={ i:Nat // i≤ids.length }) (fun i=>s1 ids.length (fun i=>ids.getD i 0) i.1 (outM 2 (((ids.take i.1).filter p).map nD))) (fun i=>rowsM (R2 x m1 ud m2 e) (((ids.take i.1).filter p).map nD)) (fun i=>ids.length-i.1) (fun i=>Pln.rowsM (plnR2 x m1 ud m2 e) _) ?_ ⟨0,Nat.zero_le _⟩ h0)
 rintro ⟨i,hi⟩
 show W Tryz.prog T10 0 lpO (mkFr (s1 ids.length (fun i=>ids.getD i 0) i (outM 2 (((ids.take i).filter p).map nD)))) (mkMem (rowsM (R2 x m1 ud m2 e) (((ids.take i).filter p).map nD))) _
 rw [lpO_eq]
 refine W.test2 ?_
 have hhead:∀ Q:AE→Fr→Mem→Prop,(∀ fr M,fr.get 14=some (.bool (ilt (.ofNat i) (.ofNat ids.length)))→Here 0 (s1 ids.length (fun i=>ids.getD i 0) i (outM 2 (((ids.take i).filter p).map nD))) (rowsM (R2 x m1 ud m2 e) (((ids.take i).filter p).map nD)) fr M→Q .normal fr M)→W Tryz.prog T10 0 (lhs lpO) (mkFr (s1 ids.length (fun i=>ids.getD i 0) i (outM 2 (((ids.take i).filter p).map nD)))) (mkMem (rowsM (R2 x m1 ud m2 e) (((ids.take i).filter p).map nD))) Q:=by
  intro Q hQ
  generalize ((ids.take i).filter p).map nD=l at hQ
  cases l with
  | nil =>
   have key:=fun Q=>@W.run Sb Tryz.prog hm X0 hX0l [] (fun _ h=>by cases h) T10 0 _ _ _ Q 100 [2,3,5,11,12,13,4,14] [0,1] _ (o_hn x m1 ud m2 e ids.length (fun i=>ids.getD i 0) i)
   refine key _ (pdec_iff.2 fun fr M hv hM=>?_)
   obtain ⟨hv3,ht⟩:=lv_snoc (ts:=[2,3,5,11,12,13,4]) (t:=14) (vs:=vals2 [0,1] (s1 ids.length (fun i=>ids.getD i 0) i .nilSlice)) (v:=some (.bool (ilt (.ofNat i) (.ofNat ids.length)))) hv
   exact hQ fr M ht ⟨[0,1],okP (n:=2) rfl (by decide),rfl,hv3,hM⟩
  | cons d l =>
   have key:=fun Q=>@W.run Sb Tryz.prog hm X0 hX0l [] (fun _ h=>by cases h) T10 0 _ _ _ Q 100 [2,3,5,11,12,13,4,14] [0,1,2] _ (o_hc x m1 ud m2 e ids.length (fun i=>ids.getD i 0) i (d::l).length (toAVs (d::l)))
   refine key _ (pdec_iff.2 fun fr M hv hM=>?_)
   obtain ⟨hv3,ht⟩:=lv_snoc (ts:=[2,3,5,11,12,13,4]) (t:=14) (vs:=vals2 [0,1,2] (s1 ids.length (fun i=>ids.getD i 0) i (.slice 2 0 (d::l).length (d::l).length true))) (v:=some (.bool (ilt (.ofNat i) (.ofNat ids.length)))) hv
   exact hQ fr M ht ⟨[0,1,2],okP (n:=3) rfl (by decide),rfl,hv3,hM⟩
 refine hhead _ fun fr M ht hh=>⟨rfl,?_⟩
 by_cases hlt:i<ids.length
 ·rw [ilt_t hlt] at ht
  refine .inl ⟨ht,W.here (Pln.rowsM (plnR2 x m1 ud m2 e) _) hh ?_⟩
  have hg:ids.getD i 0=ids[i]:=getD_lt _ hlt
  refine stepO ids hlt hn _ ?_ (p (ids.getD i 0)) (hE _ (by rw [hg];exact List.getElem_mem hlt)) fun fr M hh=>.inl ⟨rfl,⟨i+1,hlt⟩,by simp only;omega,?_⟩
  ·rw [List.length_map];exact Nat.le_trans (List.length_filter_le _ _) (by rw [List.length_take];omega)
  ·have hf:=filt_succ p nD 0 ids hlt
   simp only
   rw [hf]
   exact hh
 ·rw [ilt_f hlt] at ht
  obtain rfl:i=ids.length:=by omega
  refine .inr ⟨ht,.inr ⟨by simp,Blkd_eq ?_⟩⟩
  refine W.here (Pln.rowsM (plnR2 x m1 ud m2 e) _) hh ?_
  rw [List.take_length]
  refine W.fzc _ [(2,.ptr 0 0),(3,.ptr 1 0),(4,slA nD 0 (ids.filter p)),(5,.nilSlice)] (R2 x m1 ud m2 e) _ (plnR2 x m1 ud m2 e) (fun j hj=>rowsM_lt _ _ j hj) ?_ (hQ _ rfl)
  intro q hq
  rcases List.mem_cons.1 hq with rfl | hq
  ·exact ⟨_,rfl,.cell _ _ (.ptr 0 0 (by show 0<2;decide))⟩
  rcases List.mem_cons.1 hq with rfl | hq
  ·exact ⟨_,rfl,.cell _ _ (.ptr 1 0 (by show 1<2;decide))⟩
  rcases List.mem_cons.1 hq with rfl | hq
  ·exact ⟨_,rfl,fzM nD 0 (R2 x m1 ud m2 e) (ids.filter p)⟩
  obtain rfl:=List.mem_singleton.1 hq
  exact ⟨_,rfl,.cell _ _ .nilS⟩
theorem stepZ {x:Ex} {m1:Nat} {ud:Nat→Dat} {m2:Nat} {e:Nat→Nat→List Dat} (l0:List Nat) (ids:List (List UInt8)) {i:Nat} (hi:i<ids.length) (hn:ids.length<1000000) (l:List Dat) (hl:l.length≤i) (q:Bool) (hE:BSim Tryz.prog 26 [zonesA m2 e,fZ] [[sD (ids.getD i [])]] [[sD (ids.getD i [])]] (.bool (!q))) {Q:AE→Fr→Mem→Prop}
  (hQ:∀ fr M,Here 0 (s2 l0.length (fun i=>l0.getD i 0) ids.length (fun i=>ids.getD i []) (i+1) (outM 2 (if q=true then l++[sD (ids.getD i [])] else l))) (rowsM (R2 x m1 ud m2 e) (if q=true then l++[sD (ids.getD i [])] else l)) fr M→Q .normal fr M):W Tryz.prog T10 0 (rhs (rhs lpZ)) (mkFr (s2 l0.length (fun i=>l0.getD i 0) ids.length (fun i=>ids.getD i []) i (outM 2 l))) (mkMem (rowsM (R2 x m1 ud m2 e) l)) Q:=by
 have g0:∀ c,List.append (List.take (Nat.mul l.length 1) (toAVs l)) c=toAVs l++c:=grow_row (by rw [toAVs_length];omega)
 have hlen:lenL (toAVs l)=l.length:=by rw [lenL_eq,toAVs_length]
 cases q with
 | false =>
  cases l with
  | nil =>
   have key:=fun Q=>@W.run Sb Tryz.prog hm X0 hX0l [eHZ m2 e (ids.getD i []) 2 true] (AllOk.mem ⟨hE.spec1 2 rfl,trivial⟩) T10 0 _ _ _ Q 100 [2,3,4,28,29,30,5] [0,1] _ (z_bnt x m1 ud m2 e l0.length (fun i=>l0.getD i 0) ids.length (fun i=>ids.getD i []) i)
   refine key _ ?_
   simp only [gB_iff,gX_iff]
   exact ⟨nblt_of hi,inI_succ hi (by omega),pdec_iff.2 fun fr M hv hM=>hQ fr M ⟨[0,1],okP (n:=2) rfl (by decide),rfl,hv,hM⟩⟩
  | cons d l =>
   have key:=fun Q=>@W.run Sb Tryz.prog hm X0 hX0l [eHZ m2 e (ids.getD i []) 3 true] (AllOk.mem ⟨hE.spec1 3 rfl,trivial⟩) T10 0 _ _ _ Q 100 [2,3,4,28,29,30,5] [0,1,2] _ (z_bct x m1 ud m2 e l0.length (fun i=>l0.getD i 0) ids.length (fun i=>ids.getD i []) i (d::l).length (toAVs (d::l)))
   refine key _ ?_
   simp only [gB_iff,gX_iff]
   exact ⟨nblt_of hi,inI_succ hi (by omega),pdec_iff.2 fun fr M hv hM=>hQ fr M ⟨[0,1,2],okP (n:=3) rfl (by decide),rfl,hv,hM⟩⟩
 | true =>
  cases l with
  | nil =>
   have key:=fun Q=>@W.run Sb Tryz.prog hm X0 hX0l [eHZ m2 e (ids.getD i []) 2 false] (AllOk.mem ⟨hE.spec1 2 rfl,trivial⟩) T10 0 _ _ _ Q 100 [2,3,4,28,29,30,5] [0,1,4] _ (z_bnf x m1 ud m2 e l0.length (fun i=>l0.getD i 0) ids.length (fun i=>ids.getD i []) i)
   refine key _ ?_
   simp only [gB_iff,gX_iff]
   exact ⟨nblt_of hi,inI_succ hi (by omega),pdec_iff.2 fun fr M hv hM=>hQ fr M ⟨[0,1,4],okP (n:=3) rfl (by decide),rfl,hv,hM⟩⟩
  | cons d l =>
   have key:=fun Q=>@W.run Sb Tryz.prog hm X0 hX0l [eHZ m2 e (ids.getD i []) 3 false] (AllOk.mem ⟨hE.spec1 3 rfl,trivial⟩) T10 0 _ _ _ Q 100 [2,3,4,28,29,30,5] [0,1,5] _ (z_bcf x m1 ud m2 e l0.length (fun i=>l0.getD i 0) ids.length (fun i=>ids.getD i []) i (d::l).length (toAVs (d::l)))
   refine key _ ?_
   simp only [gB_iff,gX_iff,gateP_iff,List.drop_zero,g0,small9,nble_succ,hlen,true_and]
   refine ⟨nblt_of hi,ble_of (by show _*1≤_;omega),beq_of (by show _=_*1;omega),ble_of (by show _+1≤_;omega),ble_of (by show (_+1)*16≤_;omega),inI_succ hi (by omega),pdec_iff.2 fun fr M hv hM=>hQ fr M ⟨[0,1,5],okP (n:=3) rfl (by decide),rfl,?_,?_⟩⟩
   ·have hl1:((d::l)++[sD (ids.getD i [])]).length=(d::l).length+1:=by simp
    refine hv.trans ?_
    show _=vals2 [0,1,5] (s2 l0.length (fun i=>l0.getD i 0) ids.length (fun i=>ids.getD i []) (i+1) (.slice 2 0 ((d::l)++[sD (ids.getD i [])]).length ((d::l)++[sD (ids.getD i [])]).length true))
    rw [hl1]
    rfl
   ·refine hM.trans ?_
    show _=[some (xRow x),some (dRow m1 ud m2 e),some (.row (toAVs ((d::l)++[sD (ids.getD i [])])) true 1)]
    rw [toAVs_append]
    rfl
theorem mloopZ {x:Ex} {m1:Nat} {ud:Nat→Dat} {m2:Nat} {e:Nat→Nat→List Dat} (l0:List Nat) (ids:List (List UInt8)) (hn:ids.length<1000000) (p:List UInt8→Bool) (hE:∀ v∈ids,BSim Tryz.prog 26 [zonesA m2 e,fZ] [[sD v]] [[sD v]] (.bool (!p v))) {c:Code} {Q:AE→Fr→Mem→Prop}
  (hQ:∀ k,k=ids.filter p→W Tryz.prog T10 0 c (mkFr [(4,slA nD 0 l0),(5,slA sD [] k)]) (mkMem []) Q) {fr:Fr} {M:Mem} (h0:Here 0 (s2 l0.length (fun i=>l0.getD i 0) ids.length (fun i=>ids.getD i []) 0 .nilSlice) (R2 x m1 ud m2 e) fr M):W Tryz.prog T10 0 (.block 2 (.loop lpZ)) fr M (Nxt Tryz.prog T10 0 c Q):=by
 refine W.block (W.loopP (σ:={ i:Nat // i≤ids.length }) (fun i=>s2 l0.length (fun i=>l0.getD i 0) ids.length (fun i=>ids.getD i []) i.1 (outM 2 (((ids.take i.1).filter p).map sD))) (fun i=>rowsM (R2 x m1 ud m2 e) (((ids.take i.1).filter p).map sD)) (fun i=>ids.length-i.1) (fun i=>Pln.rowsM (plnR2 x m1 ud m2 e) _) ?_ ⟨0,Nat.zero_le _⟩ h0)
 rintro ⟨i,hi⟩
 show W Tryz.prog T10 0 lpZ (mkFr (s2 l0.length (fun i=>l0.getD i 0) ids.length (fun i=>ids.getD i []) i (outM 2 (((ids.take i).filter p).map sD)))) (mkMem (rowsM (R2 x m1 ud m2 e) (((ids.take i).filter p).map sD))) _
 rw [lpZ_eq]
 refine W.test2 ?_
 have hhead:∀ Q:AE→Fr→Mem→Prop,(∀ fr M,fr.get 31=some (.bool (ilt (.ofNat i) (.ofNat ids.length)))→Here 0 (s2 l0.length (fun i=>l0.getD i 0) ids.length (fun i=>ids.getD i []) i (outM 2 (((ids.take i).filter p).map sD))) (rowsM (R2 x m1 ud m2 e) (((ids.take i).filter p).map sD)) fr M→Q .normal fr M)→W Tryz.prog T10 0 (lhs lpZ) (mkFr (s2 l0.length (fun i=>l0.getD i 0) ids.length (fun i=>ids.getD i []) i (outM 2 (((ids.take i).filter p).map sD)))) (mkMem (rowsM (R2 x m1 ud m2 e) (((ids.take i).filter p).map sD))) Q:=by
  intro Q hQ
  generalize ((ids.take i).filter p).map sD=l at hQ
  cases l with
  | nil =>
   have key:=fun Q=>@W.run Sb Tryz.prog hm X0 hX0l [] (fun _ h=>by cases h) T10 0 _ _ _ Q 100 [2,3,4,28,29,30,5,31] [0,1] _ (z_hn x m1 ud m2 e l0.length (fun i=>l0.getD i 0) ids.length (fun i=>ids.getD i []) i)
   refine key _ (pdec_iff.2 fun fr M hv hM=>?_)
   obtain ⟨hv3,ht⟩:=lv_snoc (ts:=[2,3,4,28,29,30,5]) (t:=31) (vs:=vals2 [0,1] (s2 l0.length (fun i=>l0.getD i 0) ids.length (fun i=>ids.getD i []) i .nilSlice)) (v:=some (.bool (ilt (.ofNat i) (.ofNat ids.length)))) hv
   exact hQ fr M ht ⟨[0,1],okP (n:=2) rfl (by decide),rfl,hv3,hM⟩
  | cons d l =>
   have key:=fun Q=>@W.run Sb Tryz.prog hm X0 hX0l [] (fun _ h=>by cases h) T10 0 _ _ _ Q 100 [2,3,4,28,29,30,5,31] [0,1,2] _ (z_hc x m1 ud m2 e l0.length (fun i=>l0.getD i 0) ids.length (fun i=>ids.getD i []) i (d::l).length (toAVs (d::l)))
   refine key _ (pdec_iff.2 fun fr M hv hM=>?_)
   obtain ⟨hv3,ht⟩:=lv_snoc (ts:=[2,3,4,28,29,30,5]) (t:=31) (vs:=vals2 [0,1,2] (s2 l0.length (fun i=>l0.getD i 0) ids.length (fun i=>ids.getD i []) i (.slice 2 0 (d::l).length (d::l).length true))) (v:=some (.bool (ilt (.ofNat i) (.ofNat ids.length)))) hv
   exact hQ fr M ht ⟨[0,1,2],okP (n:=3) rfl (by decide),rfl,hv3,hM⟩
 refine hhead _ fun fr M ht hh=>⟨rfl,?_⟩
 by_cases hlt:i<ids.length
 ·rw [ilt_t hlt] at ht
  refine .inl ⟨ht,W.here (Pln.rowsM (plnR2 x m1 ud m2 e) _) hh ?_⟩
  have hg:ids.getD i []=ids[i]:=getD_lt _ hlt
  refine stepZ l0 ids hlt hn _ ?_ (p (ids.getD i [])) (hE _ (by rw [hg];exact List.getElem_mem hlt)) fun fr M hh=>.inl ⟨rfl,⟨i+1,hlt⟩,by simp only;omega,?_⟩
  ·rw [List.length_map];exact Nat.le_trans (List.length_filter_le _ _) (by rw [List.length_take];omega)
  ·have hf:=filt_succ p sD [] ids hlt
   simp only
   rw [hf]
   exact hh
 ·rw [ilt_f hlt] at ht
  obtain rfl:i=ids.length:=by omega
  refine .inr ⟨ht,.inr ⟨by simp,Blkd_eq ?_⟩⟩
  refine W.here (Pln.rowsM (plnR2 x m1 ud m2 e) _) hh ?_
  rw [List.take_length]
  refine W.fzc _ [(4,slA nD 0 l0),(5,slA sD [] (ids.filter p))] [] _ Pln.nil (fun j hj=>absurd hj (by simp)) ?_ (hQ _ rfl)
  intro q hq
  rcases List.mem_cons.1 hq with rfl | hq
  ·exact ⟨_,rfl,.cell _ _ (.dat _ (slD nD 0 l0) (.same (slD nD 0 l0)))⟩
  obtain rfl:=List.mem_singleton.1 hq
  exact ⟨_,rfl,fzM0 sD [] (R2 x m1 ud m2 e) (ids.filter p)⟩
end
end
end Go.Proofs.YtodjhpjcgggamaaGreatDoor

namespace Go.Proofs.YtodjhpjcgggamaaGreatDoor
open Go Go.Eng Go.Vi Go.Knuth
section
local instance : Go.Eng.Mode := Sb
theorem ok10:FnOk Tryz.prog 10 Tryz.f10:=⟨Tryz.func10,by kernel_rfl,by kernel_rfl⟩
theorem here2 {x:Ex} {m1:Nat} {ud:Nat→Dat} {m2:Nat} {e:Nat→Nat→List Dat} {s:List (Nat × AV)} {fr:Fr} {M:Mem} {i j:Nat} (hij:i≠j) (h1:(vals2 [i,j] s).all Option.isSome=true) (hv:lv (s.map (·.1)) fr=vals2 [i,j] s) (hM:mv [i,j] M=[some (xRow x),some (dRow m1 ud m2 e)]):Here 0 s (R2 x m1 ud m2 e) fr M :=
 ⟨[i,j],okP (n:=2) rfl (by unfold okPi;simp [hij]),h1,hv,hM⟩
set_option maxRecDepth 100000 in
theorem missing_c {x:Ex} {l0:List Nat} {z0:List (List UInt8)} {m1:Nat} {ud:Nat→Dat} {m2:Nat} {e:Nat→Nat→List Dat} (hm1:m1≤4) (hm2:m2≤2) (hpos:∀ v∈l0,1≤v) (hl:l0.length<1000000) (hz:z0.length<1000000)
  (hO:BSim Tryz.prog 12 [exA x] [] [] (slA nD 0 l0)) (hZ:BSim Tryz.prog 14 [exA x] [] [] (slA sD [] z0)) :
  BSim Tryz.prog 10 [exA x,dAgg m1 ud m2 e] [] [] (.tuple [slA nD 0 (l0.filter fun v=>!decide (v≤m1)),slA sD [] (z0.filter fun s=>!inZ m2 s)]):=by
 refine BSim.of_W ok10.at_ (codeOf_some ok10.body) ok10.name (nble_le (by kernel_rfl)) rfl ?_
 have k1:=fun Q=>@W.runN Sb Tryz.prog hm X0 hX0l [] (fun _ h=>by cases h) T10 0 _ _ _ Q 60 1 [2,3,4,5] [0,1] _ (o_pre x m1 ud m2 e)
 refine k1 _ (pdec_iff.2 fun fr M hv hM=>?_)
 refine W.here (plnR2 x m1 ud m2 e) (here2 (s:=[(2,.ptr 0 0),(3,.ptr 1 0),(4,.nilSlice),(5,.nilSlice)]) (by decide) rfl hv hM) ?_
 show W Tryz.prog T10 0 (post 1 c10) _ _ _
 rw [c10_eq]
 have k2:=fun Q=>@W.run Sb Tryz.prog hm X0 hX0l [eOb x l0.length (fun i=>l0.getD i 0)] (AllOk.mem ⟨hO.spec0 rfl,trivial⟩) T10 0 _ _ _ Q 100 [2,3,5,11,12,13,4] [0,1] _ (o_ini x m1 ud m2 e l0.length (fun i=>l0.getD i 0))
 refine W.seq (W.seq (k2 _ ?_))
 simp only [gX_iff]
 refine pdec_iff.2 fun fr M hv hM=>?_
 refine mloopO l0 hl (fun v=>!decide (v≤m1)) (fun v hv=>by rw [Bool.not_not];exact has_o hm1 (hpos v hv) ud) (fun k hk=>?_) (here2 (by decide) rfl hv hM)
 subst hk
 have k3:=fun Q=>@W.run Sb Tryz.prog hm X0 hX0l [eZo x z0.length (fun i=>z0.getD i [])] (AllOk.mem ⟨hZ.spec0 rfl,trivial⟩) T10 0 _ _ _ Q 100 [2,3,4,28,29,30,5] [0,1] _ (z_ini x m1 ud m2 e (l0.filter fun v=>!decide (v≤m1)).length (fun i=>(l0.filter fun v=>!decide (v≤m1)).getD i 0) z0.length (fun i=>z0.getD i []))
 refine W.seq (W.seq (k3 _ ?_))
 simp only [gX_iff]
 refine pdec_iff.2 fun fr M hv hM=>?_
 refine mloopZ (l0.filter fun v=>!decide (v≤m1)) z0 hz (fun s=>!inZ m2 s) (fun s _=>by rw [Bool.not_not];exact has_z hm2 e) (fun k hk=>?_) (here2 (by decide) rfl hv hM)
 subst hk
 have k5:=@W.finRun Sb Tryz.prog hm X0 hX0l [] (fun _ h=>by cases h) Tryz.f10 T10 0 _ _ _ [] (.tuple [slA nD 0 (l0.filter fun v=>!decide (v≤m1)),slA sD [] (z0.filter fun s=>!inZ m2 s)]) 60 [] _ (z_fin x m1 ud m2 e (l0.filter fun v=>!decide (v≤m1)).length (fun i=>(l0.filter fun v=>!decide (v≤m1)).getD i 0) (z0.filter fun s=>!inZ m2 s).length (fun i=>(z0.filter fun s=>!inZ m2 s).getD i []))
 exact k5 (pdec_iff.2 (Leaf.flat fun M' _=>.tuple _ _ (.cons _ _ _ _ (.dat _ (slD nD 0 _) (.same (slD nD 0 _))) (.cons _ _ _ _ (.dat _ (slD sD [] _) (.same (slD sD [] _))) .nil))))
theorem ok8:FnOk Tryz.prog 8 Tryz.f8:=⟨Tryz.func8,by kernel_rfl,by kernel_rfl⟩
theorem rg_r (x:Ex) (e:Int) (I:AK):xR [eCk x e] 60 Tryz.f8.ntmps (codeOf Tryz.f8) (argSlots [exA x] 0) (rowsOf []) Tryz.f8 [] I=gX (eCk x e).snd.args (I (.bool (ieq e 0)) []):=by kernel_rfl
set_option maxRecDepth 100000 in
theorem right_c {x:Ex} {e:Int} (h:SSpec Tryz.prog 23 (eCk x e).2):BSim Tryz.prog 8 [exA x] [] [] (.bool (ieq e 0)):=by
 have hr:=rg_r x e
 refine @BSim.run Sb Tryz.prog hm X0 hX0l [eCk x e] (AllOk.mem ⟨h,trivial⟩) 8 Tryz.f8 ok8 [exA x] [] [] (.bool (ieq e 0)) (by kernel_rfl) rfl 60 [] _ hr ?_
 simp only [gX_iff]
 exact pdec_iff.2 (Leaf.flat fun M' _=>.dat _ (.bool (ieq e 0)) (.same (.bool (ieq e 0))))
theorem toNat_map {L:List Int} (h:∀ v∈L,0≤v):(L.map Int.toNat).map Int.ofNat=L:=by
 rw [List.map_map]
 conv=>rhs;rw [← List.map_id L]
 exact List.map_congr_left fun v hv=>Int.toNat_of_nonneg (h v hv)
theorem slA_nat (l:List Nat):slA iD 0 (l.map Int.ofNat)=slA nD 0 l:=by
 unfold slA
 rw [List.length_map]
 congr 1
 funext i
 unfold iD nD
 rw [List.getD_eq_getElem?_getD,List.getD_eq_getElem?_getD,List.getElem?_map]
 cases l[i]?<;>rfl
theorem objects_n {x:Ex} (hx:WF x) (hsz:x.size<1000000) (hck:SSpec Tryz.prog 23 (eCk x 0).2):∃ l,SrN l∧(∀ w,w∈l↔w∈objs x)∧BSim Tryz.prog 12 [exA x] [] [] (slA nD 0 l):=by
 have h:=objects_c hx hsz hck
 obtain ⟨h1,h2⟩:=srtI_c ((objs x).map Int.ofNat)
 have hL:Go.Lib.compact (srtI ((objs x).map Int.ofNat))=Go.Lib.compact (((objs x).map Int.ofNat).mergeSort fun x y=>decide (x≤y)):=rfl
 rw [hL] at h
 generalize Go.Lib.compact (((objs x).map Int.ofNat).mergeSort fun x y=>decide (x≤y))=L at h h1 h2
 have hpos:∀ v∈L,0≤v:=fun v hv=>by
  obtain ⟨n,_,rfl⟩:=List.mem_map.1 ((h2 v).1 hv)
  exact Int.natCast_nonneg n
 have he:=toNat_map hpos
 rw [← he,slA_nat] at h
 refine ⟨L.map Int.toNat,?_,fun w=>?_,h⟩
 ·rw [← he] at h1
  exact (List.pairwise_map.1 h1).imp fun {a b} h=>by simp only [Int.ofNat_eq_natCast] at h;omega
 ·constructor
  ·intro hw
   obtain ⟨v,hv,rfl⟩:=List.mem_map.1 hw
   obtain ⟨n,hn,rfl⟩:=List.mem_map.1 ((h2 v).1 hv)
   exact hn
  ·intro hw
   exact List.mem_map.2 ⟨Int.ofNat w,(h2 _).2 (List.mem_map.2 ⟨w,hw,rfl⟩),rfl⟩
end
end Go.Proofs.YtodjhpjcgggamaaGreatDoor

namespace Go.Proofs.YtodjhpjcgggamaaGreatDoor
open Go Go.Eng Go.Vi Go.Knuth
noncomputable section
section
local instance : Go.Eng.Mode := Sb
def c3:Code:=codeOf Tryz.f3
def T3:Nat:=Tryz.f3.ntmps
def C6:Code:=lhs (post 5 c3)
def C8:Code:=lhs (rhs (post 5 c3))
def C13:Code:=lhs (rhs (rhs (post 5 c3)))
def C23:Code:=rhs (rhs (rhs (post 5 c3)))
def lp0:Code:=bodyOf (bodyOf (rhs C8))
def lp2:Code:=bodyOf (bodyOf (rhs C13))
def B3:Code:=bodyOf (lhs (rhs lp2))
def I17:Code:=lhs (rhs B3)
def I21:Code:=rhs (rhs B3)
def lp4:Code:=bodyOf (bodyOf (rhs I17))
def eKn:FuncId × SEnt:=(4,⟨[],[],.bool true⟩)
def eFw (x:Ex) (b:Bool):FuncId × SEnt:=(5,⟨[exA x],[],.bool b⟩)
def eSrt (f:Fleet) (b:Bool):FuncId × SEnt:=(6,⟨[Go.Proofs.YtodjhpjcgggamaaGreatDoor.flA f],[],.bool b⟩)
def eDb (f:Fleet) (m1:Nat) (ud:Nat→Dat) (m2:Nat) (e:Nat→Nat→List Dat):FuncId × SEnt:=(7,⟨[Go.Proofs.YtodjhpjcgggamaaGreatDoor.flA f],[],dAgg m1 ud m2 e⟩)
def eRgt (x:Ex) (b:Bool):FuncId × SEnt:=(8,⟨[exA x],[],.bool b⟩)
def eNn (x:Ex) (n:Nat) (g:Nat→Nat) (m:Nat) (h:Nat→List UInt8):FuncId × SEnt:=(9,⟨[exA x,.nilSlice,.nilSlice],[],.tuple [idsA n g,zsA m h]⟩)
def eMi (x:Ex) (m1:Nat) (ud:Nat→Dat) (m2:Nat) (e:Nat→Nat→List Dat) (q:Nat) (g2:Nat→Nat) (r:Nat) (h2:Nat→List UInt8):FuncId × SEnt:=(10,⟨[exA x,dAgg m1 ud m2 e],[],.tuple [idsA q g2,zsA r h2]⟩)
def eSI (a b:AV):FuncId × SEnt:=(11,⟨[a,b],[],.bool true⟩)
def eSS (a b:AV):FuncId × SEnt:=(13,⟨[a,b],[],.bool true⟩)
theorem l_few (x:Ex) (f:Fleet) (I:AK):xR [eKn,eFw x false,eKn] 100 Tryz.f3.ntmps (codeOf Tryz.f3) (argSlots [exA x,Go.Proofs.YtodjhpjcgggamaaGreatDoor.flA f] 0) (rowsOf []) Tryz.f3 [] I=gX eKn.snd.args (gX ((eFw x false).snd.args) (gX eKn.snd.args (I (.bool true) []))):=by kernel_rfl
theorem l_sho (x:Ex) (f:Fleet) (I:AK):xR [eKn,eFw x true,eSrt f false,eKn] 100 Tryz.f3.ntmps (codeOf Tryz.f3) (argSlots [exA x,Go.Proofs.YtodjhpjcgggamaaGreatDoor.flA f] 0) (rowsOf []) Tryz.f3 [] I=gX eKn.snd.args (gX ((eFw x true).snd.args) (gX ((eSrt f false).snd.args) (gX eKn.snd.args (I (.bool true) [])))):=by kernel_rfl
theorem l_pre (x:Ex) (f:Fleet) (m1:Nat) (ud:Nat→Dat) (m2:Nat) (e:Nat→Nat→List Dat) (I:IK):xN [eKn,eFw x true,eSrt f true,eDb f m1 ud m2 e] 100 T3 5 c3 (argSlots [exA x,Go.Proofs.YtodjhpjcgggamaaGreatDoor.flA f] 0) [] [2,5,6,7,8,9] [0,2] I=gX eKn.snd.args (gX ((eFw x true).snd.args) (gX ((eSrt f true).snd.args) (gX ((eDb f m1 ud m2 e).snd.args) (I .normal [some (.ptr 0 0),some (.ptr 2 0),some .nilSlice,some .nilSlice,some .nilSlice,some .nilSlice] [some (xRow x),some (dRow m1 ud m2 e)])))):=by kernel_rfl
theorem l_bad (x:Ex) (m1:Nat) (ud:Nat→Dat) (m2:Nat) (e:Nat→Nat→List Dat) (g:Nat→Nat) (h:Nat→List UInt8) (I:AK):xR [eRgt x false,eMi x m1 ud m2 e 0 g 0 h,eOb x 0 g,eSI (idsA 0 g) .nilSlice,eZo x 0 h,eSS (zsA 0 h) .nilSlice,eSI (idsA 0 g) .nilSlice,eSS (zsA 0 h) .nilSlice] 200 T3 (post 5 c3) [(2,.ptr 0 0),(5,.ptr 1 0),(6,.nilSlice),(7,.nilSlice),(8,.nilSlice),(9,.nilSlice)] [xRow x,dRow m1 ud m2 e] Tryz.f3 [] I=gX ((eRgt x false).snd.args) (gX ((eMi x m1 ud m2 e 0 g 0 h).snd.args) (gX ((eOb x 0 g).snd.args) (gX ((eSI (idsA 0 g) AV.nilSlice).snd.args) (gX ((eZo x 0 h).snd.args) (gX ((eSS (zsA 0 h) AV.nilSlice).snd.args) (gX ((eSI (idsA 0 g) AV.nilSlice).snd.args) (gX ((eSS (zsA 0 h) AV.nilSlice).snd.args) (I (.bool true) [])))))))):=by kernel_rfl
theorem l_nam (x:Ex) (m1:Nat) (ud:Nat→Dat) (m2:Nat) (e:Nat→Nat→List Dat) (n:Nat) (g:Nat→Nat) (m:Nat) (h:Nat→List UInt8) (I:IK):@xE Sb [eRgt x true,eNn x n g m h] 100 T3 C6 ([(2,.ptr 0 0),(5,.ptr 1 0),(6,.nilSlice),(7,.nilSlice),(8,.nilSlice),(9,.nilSlice)]) [xRow x,dRow m1 ud m2 e] [2,5,6,8,9,7] [0,1] I=gX ((eRgt x true).snd.args) (gX ((eNn x n g m h).snd.args) (I .normal [some (.ptr 0 0),some (.ptr 1 0),some (.dslice n 1 (idEl g)),some (.dslice m 1 (zsEl h)),some .nilSlice,some .nilSlice] [some (xRow x),some (dRow m1 ud m2 e)])):=by kernel_rfl
abbrev t0 (n:Nat) (g:Nat→Nat) (m:Nat) (h:Nat→List UInt8) (out:AV):List (Nat × AV):=[(2,.ptr 0 0),(5,.ptr 1 0),(6,idsA n g),(8,zsA m h),(9,.nilSlice),(7,out)]
abbrev t1 (n:Nat) (g:Nat→Nat) (m:Nat) (h:Nat→List UInt8) (i:Nat) (out:AV):List (Nat × AV):=[(2,.ptr 0 0),(5,.ptr 1 0),(6,idsA n g),(8,zsA m h),(9,.nilSlice),(10,.int .i64 (.ofNat i)),(7,out)]
abbrev t2 (n:Nat) (g:Nat→Nat) (m:Nat) (h:Nat→List UInt8) (q:Nat) (g2:Nat→Nat) (i:Nat) (out:AV):List (Nat × AV):=[(2,.ptr 0 0),(5,.ptr 1 0),(6,idsA n g),(8,zsA m h),(7,idsA q g2),(11,.int .i64 (.ofNat i)),(9,out)]
abbrev t3 (n:Nat) (g:Nat→Nat) (m:Nat) (h:Nat→List UInt8) (q:Nat) (g2:Nat→Nat) (i:Nat) (b:Bool) (k:Nat) (out:AV):List (Nat × AV):=[(2,.ptr 0 0),(5,.ptr 1 0),(6,idsA n g),(8,zsA m h),(7,idsA q g2),(11,.int .i64 (.ofNat i)),(12,.bool b),(13,.int .i64 (.ofNat k)),(9,out)]
theorem l_i0 (x:Ex) (m1:Nat) (ud:Nat→Dat) (m2:Nat) (e:Nat→Nat→List Dat) (n:Nat) (g:Nat→Nat) (m:Nat) (h:Nat→List UInt8) (I:IK):@xE Sb [] 100 T3 (lhs C8) (t0 n g m h .nilSlice) [xRow x,dRow m1 ud m2 e] [2,5,6,8,9,10,7] [0,1] I=I .normal [some (.ptr 0 0),some (.ptr 1 0),some (.dslice n 1 (idEl g)),some (.dslice m 1 (zsEl h)),some .nilSlice,some (.int .i64 0),some .nilSlice] [some (xRow x),some (dRow m1 ud m2 e)]:=by kernel_rfl
theorem l_hn (x:Ex) (m1:Nat) (ud:Nat→Dat) (m2:Nat) (e:Nat→Nat→List Dat) (n:Nat) (g:Nat→Nat) (m:Nat) (h:Nat→List UInt8) (i:Nat) (I:IK):@xE Sb [] 100 T3 (lhs (lhs lp0)) (t1 n g m h i .nilSlice) [xRow x,dRow m1 ud m2 e] [2,5,6,8,9,10,7,41] [0,1] I=I .normal [some (.ptr 0 0),some (.ptr 1 0),some (.dslice n 1 (idEl g)),some (.dslice m 1 (zsEl h)),some .nilSlice,some (.int .i64 (.ofNat i)),some .nilSlice,some (.bool (ilt (.ofNat i) (.ofNat n)))] [some (xRow x),some (dRow m1 ud m2 e)]:=by kernel_rfl
theorem l_bnf (x:Ex) (m1:Nat) (ud:Nat→Dat) (m2:Nat) (e:Nat→Nat→List Dat) (n:Nat) (g:Nat→Nat) (m:Nat) (h:Nat→List UInt8) (i:Nat) (I:IK):@xE (So [(121,51,false)]) [] 100 T3 (rhs lp0) (t1 n g m h i .nilSlice) [xRow x,dRow m1 ud m2 e] [2,5,6,8,9,10,7] [0,1] I=gB (Nat.blt i n) (gN (ilt (.ofNat m1) (.ofNat (g i))) (gB (inI64 ((Int.ofNat i).add 1)) (I .normal [some (.ptr 0 0),some (.ptr 1 0),some (.dslice n 1 (idEl g)),some (.dslice m 1 (zsEl h)),some .nilSlice,some (.int .i64 ((Int.ofNat i).add 1)),some .nilSlice] [some (xRow x),some (dRow m1 ud m2 e)]))):=by kernel_rfl
theorem l_bnt (x:Ex) (m1:Nat) (ud:Nat→Dat) (m2:Nat) (e:Nat→Nat→List Dat) (n:Nat) (g:Nat→Nat) (m:Nat) (h:Nat→List UInt8) (i:Nat) (I:IK):@xE (So [(121,51,true)]) [] 100 T3 (rhs lp0) (t1 n g m h i .nilSlice) [xRow x,dRow m1 ud m2 e] [2,5,6,8,9,10,7] [0,1,3] I=gB (Nat.blt i n) (gB (ilt (.ofNat m1) (.ofNat (g i))) (gB (Nat.blt i n) (gB (inI64 ((Int.ofNat i).add 1)) (I .normal [some (.ptr 0 0),some (.ptr 1 0),some (.dslice n 1 (idEl g)),some (.dslice m 1 (zsEl h)),some .nilSlice,some (.int .i64 ((Int.ofNat i).add 1)),some (.slice 3 0 1 1 true)] [some (xRow x),some (dRow m1 ud m2 e),some (.row [.int .i64 (.ofNat (g i))] true 1)])))):=by kernel_rfl
theorem l_hc (x:Ex) (m1:Nat) (ud:Nat→Dat) (m2:Nat) (e:Nat→Nat→List Dat) (n:Nat) (g:Nat→Nat) (m:Nat) (h:Nat→List UInt8) (i:Nat) (k:Nat) (L:List AV) (I:IK):@xE Sb [] 100 T3 (lhs (lhs lp0)) (t1 n g m h i (.slice 2 0 k k true)) [xRow x,dRow m1 ud m2 e,.row L true 1] [2,5,6,8,9,10,7,41] [0,1,2] I=I .normal [some (.ptr 0 0),some (.ptr 1 0),some (.dslice n 1 (idEl g)),some (.dslice m 1 (zsEl h)),some .nilSlice,some (.int .i64 (.ofNat i)),some (.slice 2 0 k k true),some (.bool (ilt (.ofNat i) (.ofNat n)))] [some (xRow x),some (dRow m1 ud m2 e),some (.row L true 1)]:=by kernel_rfl
theorem l_bcf (x:Ex) (m1:Nat) (ud:Nat→Dat) (m2:Nat) (e:Nat→Nat→List Dat) (n:Nat) (g:Nat→Nat) (m:Nat) (h:Nat→List UInt8) (i:Nat) (k:Nat) (L:List AV) (I:IK):@xE (So [(121,51,false)]) [] 100 T3 (rhs lp0) (t1 n g m h i (.slice 2 0 k k true)) [xRow x,dRow m1 ud m2 e,.row L true 1] [2,5,6,8,9,10,7] [0,1,2] I=gB (Nat.blt i n) (gN (ilt (.ofNat m1) (.ofNat (g i))) (gB (inI64 ((Int.ofNat i).add 1)) (I .normal [some (.ptr 0 0),some (.ptr 1 0),some (.dslice n 1 (idEl g)),some (.dslice m 1 (zsEl h)),some .nilSlice,some (.int .i64 ((Int.ofNat i).add 1)),some (.slice 2 0 k k true)] [some (xRow x),some (dRow m1 ud m2 e),some (.row L true 1)]))):=by kernel_rfl
theorem l_bct (x:Ex) (m1:Nat) (ud:Nat→Dat) (m2:Nat) (e:Nat→Nat→List Dat) (n:Nat) (g:Nat→Nat) (m:Nat) (h:Nat→List UInt8) (i:Nat) (k:Nat) (L:List AV) (I:IK):@xE (So [(121,51,true)]) [] 100 T3 (rhs lp0) (t1 n g m h i (.slice 2 0 k k true)) [xRow x,dRow m1 ud m2 e,.row L true 1] [2,5,6,8,9,10,7] [0,1,4] I=gB (Nat.blt i n) (gB (ilt (.ofNat m1) (.ofNat (g i))) (gB (Nat.blt i n) (gateP ((Nat.ble (Nat.add k 1) k)=false) (gB (Nat.ble (Nat.mul k 1) (lenL (List.drop 0 L))) (gB (Nat.beq (lenL L) (Nat.mul k 1)) (gB (Nat.ble (Nat.add k 1) 9223372036854775807) (gB (smallOk Tryz.prog 3 (k.add 1)) (gB (inI64 ((Int.ofNat i).add 1)) (I .normal [some (.ptr 0 0),some (.ptr 1 0),some (.dslice n 1 (idEl g)),some (.dslice m 1 (zsEl h)),some .nilSlice,some (.int .i64 ((Int.ofNat i).add 1)),some (.slice 4 0 (Nat.add k 1) (Nat.add k 1) true)] [some (xRow x),some (dRow m1 ud m2 e),some (.row (List.append (List.take (Nat.mul k 1) (List.drop 0 L)) [AV.int IntKind.i64 (Int.ofNat (g i))]) true 1)]))))))))):=by kernel_rfl
theorem k2_i (x:Ex) (m1:Nat) (ud:Nat→Dat) (m2:Nat) (e:Nat→Nat→List Dat) (n:Nat) (g:Nat→Nat) (m:Nat) (h:Nat→List UInt8) (q:Nat) (g2:Nat→Nat) (I:IK):@xE Sb [] 100 T3 (lhs C13) ([(2,.ptr 0 0),(5,.ptr 1 0),(6,idsA n g),(8,zsA m h),(7,idsA q g2),(9,.nilSlice)]) [xRow x,dRow m1 ud m2 e] [2,5,6,8,7,11,9] [0,1] I=I .normal [some (.ptr 0 0),some (.ptr 1 0),some (.dslice n 1 (idEl g)),some (.dslice m 1 (zsEl h)),some (.dslice q 1 (idEl g2)),some (.int .i64 0),some .nilSlice] [some (xRow x),some (dRow m1 ud m2 e)]:=by kernel_rfl
theorem k2_hn (x:Ex) (m1:Nat) (ud:Nat→Dat) (m2:Nat) (e:Nat→Nat→List Dat) (n:Nat) (g:Nat→Nat) (m:Nat) (h:Nat→List UInt8) (q:Nat) (g2:Nat→Nat) (i:Nat) (I:IK):@xE Sb [] 100 T3 (lhs (lhs lp2)) (t2 n g m h q g2 i .nilSlice) [xRow x,dRow m1 ud m2 e] [2,5,6,8,7,11,9,62] [0,1] I=I .normal [some (.ptr 0 0),some (.ptr 1 0),some (.dslice n 1 (idEl g)),some (.dslice m 1 (zsEl h)),some (.dslice q 1 (idEl g2)),some (.int .i64 (.ofNat i)),some .nilSlice,some (.bool (ilt (.ofNat i) (.ofNat m)))] [some (xRow x),some (dRow m1 ud m2 e)]:=by kernel_rfl
theorem k2_sn (x:Ex) (m1:Nat) (ud:Nat→Dat) (m2:Nat) (e:Nat→Nat→List Dat) (n:Nat) (g:Nat→Nat) (m:Nat) (h:Nat→List UInt8) (q:Nat) (g2:Nat→Nat) (i:Nat) (I:IK):@xE Sb [] 100 T3 (lhs B3) (t2 n g m h q g2 i .nilSlice) [xRow x,dRow m1 ud m2 e] [2,5,6,8,7,11,9,12] [0,1] I=I .normal [some (.ptr 0 0),some (.ptr 1 0),some (.dslice n 1 (idEl g)),some (.dslice m 1 (zsEl h)),some (.dslice q 1 (idEl g2)),some (.int .i64 (.ofNat i)),some .nilSlice,some (.bool false)] [some (xRow x),some (dRow m1 ud m2 e)]:=by kernel_rfl
theorem k2_kn (x:Ex) (m1:Nat) (ud:Nat→Dat) (m2:Nat) (e:Nat→Nat→List Dat) (n:Nat) (g:Nat→Nat) (m:Nat) (h:Nat→List UInt8) (q:Nat) (g2:Nat→Nat) (i:Nat) (I:IK):@xE Sb [] 100 T3 (lhs I17) (t2 n g m h q g2 i .nilSlice++[(12,.bool false)]) [xRow x,dRow m1 ud m2 e] [2,5,6,8,7,11,12,13,9] [0,1] I=I .normal [some (.ptr 0 0),some (.ptr 1 0),some (.dslice n 1 (idEl g)),some (.dslice m 1 (zsEl h)),some (.dslice q 1 (idEl g2)),some (.int .i64 (.ofNat i)),some (.bool false),some (.int .i64 0),some .nilSlice] [some (xRow x),some (dRow m1 ud m2 e)]:=by kernel_rfl
theorem k3_hn (x:Ex) (m1:Nat) (ud:Nat→Dat) (m2:Nat) (e:Nat→Nat→List Dat) (n:Nat) (g:Nat→Nat) (m:Nat) (h:Nat→List UInt8) (q:Nat) (g2:Nat→Nat) (i:Nat) (b:Bool) (k:Nat) (I:IK):@xE Sb [] 100 T3 (lhs (lhs lp4)) (t3 n g m h q g2 i b k .nilSlice) [xRow x,dRow m1 ud m2 e] [2,5,6,8,7,11,12,13,9,69] [0,1] I=I .normal [some (.ptr 0 0),some (.ptr 1 0),some (.dslice n 1 (idEl g)),some (.dslice m 1 (zsEl h)),some (.dslice q 1 (idEl g2)),some (.int .i64 (.ofNat i)),some (.bool b),some (.int .i64 (.ofNat k)),some .nilSlice,some (.bool (ilt (.ofNat k) (.ofNat m2)))] [some (xRow x),some (dRow m1 ud m2 e)]:=by kernel_rfl
theorem k3_bnt (x:Ex) (m1:Nat) (ud:Nat→Dat) (m2:Nat) (e:Nat→Nat→List Dat) (n:Nat) (g:Nat→Nat) (m:Nat) (h:Nat→List UInt8) (q:Nat) (g2:Nat→Nat) (i:Nat) (k:Nat) (I:IK):@xE Sb [] 100 T3 (rhs lp4) (t3 n g m h q g2 i true k .nilSlice) [xRow x,dRow m1 ud m2 e] [2,5,6,8,7,11,12,13,9] [0,1] I=gB (inI64 ((Int.ofNat k).add 1)) (I .normal [some (.ptr 0 0),some (.ptr 1 0),some (.dslice n 1 (idEl g)),some (.dslice m 1 (zsEl h)),some (.dslice q 1 (idEl g2)),some (.int .i64 (.ofNat i)),some (.bool true),some (.int .i64 ((Int.ofNat k).add 1)),some .nilSlice] [some (xRow x),some (dRow m1 ud m2 e)]):=by kernel_rfl
theorem k3_bny (x:Ex) (m1:Nat) (ud:Nat→Dat) (m2:Nat) (e:Nat→Nat→List Dat) (n:Nat) (g:Nat→Nat) (m:Nat) (h:Nat→List UInt8) (q:Nat) (g2:Nat→Nat) (i:Nat) (k:Nat) (I:IK):@xE (So [(121,84,true)]) [] 100 T3 (rhs lp4) (t3 n g m h q g2 i false k .nilSlice) [xRow x,dRow m1 ud m2 e] [2,5,6,8,7,11,12,13,9] [0,1] I=gB (Nat.blt k m2) (gB (Nat.blt i m) (gB (seqA 5 (enc (zName k)) (h i).length (enc (h i))) (gB (inI64 ((Int.ofNat k).add 1)) (I .normal [some (.ptr 0 0),some (.ptr 1 0),some (.dslice n 1 (idEl g)),some (.dslice m 1 (zsEl h)),some (.dslice q 1 (idEl g2)),some (.int .i64 (.ofNat i)),some (.bool true),some (.int .i64 ((Int.ofNat k).add 1)),some .nilSlice] [some (xRow x),some (dRow m1 ud m2 e)])))):=by kernel_rfl
theorem k3_bnf (x:Ex) (m1:Nat) (ud:Nat→Dat) (m2:Nat) (e:Nat→Nat→List Dat) (n:Nat) (g:Nat→Nat) (m:Nat) (h:Nat→List UInt8) (q:Nat) (g2:Nat→Nat) (i:Nat) (k:Nat) (I:IK):@xE (So [(121,84,false)]) [] 100 T3 (rhs lp4) (t3 n g m h q g2 i false k .nilSlice) [xRow x,dRow m1 ud m2 e] [2,5,6,8,7,11,12,13,9] [0,1] I=gB (Nat.blt k m2) (gB (Nat.blt i m) (gN (seqA 5 (enc (zName k)) (h i).length (enc (h i))) (gB (inI64 ((Int.ofNat k).add 1)) (I .normal [some (.ptr 0 0),some (.ptr 1 0),some (.dslice n 1 (idEl g)),some (.dslice m 1 (zsEl h)),some (.dslice q 1 (idEl g2)),some (.int .i64 (.ofNat i)),some (.bool false),some (.int .i64 ((Int.ofNat k).add 1)),some .nilSlice] [some (xRow x),some (dRow m1 ud m2 e)])))):=by kernel_rfl
theorem k2_ent (x:Ex) (m1:Nat) (ud:Nat→Dat) (m2:Nat) (e:Nat→Nat→List Dat) (n:Nat) (g:Nat→Nat) (m:Nat) (h:Nat→List UInt8) (q:Nat) (g2:Nat→Nat) (i:Nat) (k:Nat) (I:IK):@xE Sb [] 100 T3 I21 (t3 n g m h q g2 i true k .nilSlice) [xRow x,dRow m1 ud m2 e] [2,5,6,8,7,11,9] [0,1] I=I .normal [some (.ptr 0 0),some (.ptr 1 0),some (.dslice n 1 (idEl g)),some (.dslice m 1 (zsEl h)),some (.dslice q 1 (idEl g2)),some (.int .i64 (.ofNat i)),some .nilSlice] [some (xRow x),some (dRow m1 ud m2 e)]:=by kernel_rfl
theorem k2_enf (x:Ex) (m1:Nat) (ud:Nat→Dat) (m2:Nat) (e:Nat→Nat→List Dat) (n:Nat) (g:Nat→Nat) (m:Nat) (h:Nat→List UInt8) (q:Nat) (g2:Nat→Nat) (i:Nat) (k:Nat) (I:IK):@xE Sb [] 100 T3 I21 (t3 n g m h q g2 i false k .nilSlice) [xRow x,dRow m1 ud m2 e] [2,5,6,8,7,11,9] [0,1,3] I=gB (Nat.blt i m) (I .normal [some (.ptr 0 0),some (.ptr 1 0),some (.dslice n 1 (idEl g)),some (.dslice m 1 (zsEl h)),some (.dslice q 1 (idEl g2)),some (.int .i64 (.ofNat i)),some (.slice 3 0 1 1 true)] [some (xRow x),some (dRow m1 ud m2 e),some (.row [strA (h i)] true 1)]):=by kernel_rfl
theorem k2_pn (x:Ex) (m1:Nat) (ud:Nat→Dat) (m2:Nat) (e:Nat→Nat→List Dat) (n:Nat) (g:Nat→Nat) (m:Nat) (h:Nat→List UInt8) (q:Nat) (g2:Nat→Nat) (i:Nat) (I:IK):@xE Sb [] 100 T3 (rhs (rhs lp2)) (t2 n g m h q g2 i .nilSlice) [xRow x,dRow m1 ud m2 e] [2,5,6,8,7,11,9] [0,1] I=gB (inI64 ((Int.ofNat i).add 1)) (I .normal [some (.ptr 0 0),some (.ptr 1 0),some (.dslice n 1 (idEl g)),some (.dslice m 1 (zsEl h)),some (.dslice q 1 (idEl g2)),some (.int .i64 ((Int.ofNat i).add 1)),some .nilSlice] [some (xRow x),some (dRow m1 ud m2 e)]):=by kernel_rfl
theorem k2_hc (x:Ex) (m1:Nat) (ud:Nat→Dat) (m2:Nat) (e:Nat→Nat→List Dat) (n:Nat) (g:Nat→Nat) (m:Nat) (h:Nat→List UInt8) (q:Nat) (g2:Nat→Nat) (i:Nat) (l:Nat) (L:List AV) (I:IK):@xE Sb [] 100 T3 (lhs (lhs lp2)) (t2 n g m h q g2 i (.slice 2 0 l l true)) [xRow x,dRow m1 ud m2 e,.row L true 1] [2,5,6,8,7,11,9,62] [0,1,2] I=I .normal [some (.ptr 0 0),some (.ptr 1 0),some (.dslice n 1 (idEl g)),some (.dslice m 1 (zsEl h)),some (.dslice q 1 (idEl g2)),some (.int .i64 (.ofNat i)),some (.slice 2 0 l l true),some (.bool (ilt (.ofNat i) (.ofNat m)))] [some (xRow x),some (dRow m1 ud m2 e),some (.row L true 1)]:=by kernel_rfl
theorem k2_sc (x:Ex) (m1:Nat) (ud:Nat→Dat) (m2:Nat) (e:Nat→Nat→List Dat) (n:Nat) (g:Nat→Nat) (m:Nat) (h:Nat→List UInt8) (q:Nat) (g2:Nat→Nat) (i:Nat) (l:Nat) (L:List AV) (I:IK):@xE Sb [] 100 T3 (lhs B3) (t2 n g m h q g2 i (.slice 2 0 l l true)) [xRow x,dRow m1 ud m2 e,.row L true 1] [2,5,6,8,7,11,9,12] [0,1,2] I=I .normal [some (.ptr 0 0),some (.ptr 1 0),some (.dslice n 1 (idEl g)),some (.dslice m 1 (zsEl h)),some (.dslice q 1 (idEl g2)),some (.int .i64 (.ofNat i)),some (.slice 2 0 l l true),some (.bool false)] [some (xRow x),some (dRow m1 ud m2 e),some (.row L true 1)]:=by kernel_rfl
theorem k2_kc (x:Ex) (m1:Nat) (ud:Nat→Dat) (m2:Nat) (e:Nat→Nat→List Dat) (n:Nat) (g:Nat→Nat) (m:Nat) (h:Nat→List UInt8) (q:Nat) (g2:Nat→Nat) (i:Nat) (l:Nat) (L:List AV) (I:IK):@xE Sb [] 100 T3 (lhs I17) (t2 n g m h q g2 i (.slice 2 0 l l true)++[(12,.bool false)]) [xRow x,dRow m1 ud m2 e,.row L true 1] [2,5,6,8,7,11,12,13,9] [0,1,2] I=I .normal [some (.ptr 0 0),some (.ptr 1 0),some (.dslice n 1 (idEl g)),some (.dslice m 1 (zsEl h)),some (.dslice q 1 (idEl g2)),some (.int .i64 (.ofNat i)),some (.bool false),some (.int .i64 0),some (.slice 2 0 l l true)] [some (xRow x),some (dRow m1 ud m2 e),some (.row L true 1)]:=by kernel_rfl
theorem k3_hc (x:Ex) (m1:Nat) (ud:Nat→Dat) (m2:Nat) (e:Nat→Nat→List Dat) (n:Nat) (g:Nat→Nat) (m:Nat) (h:Nat→List UInt8) (q:Nat) (g2:Nat→Nat) (i:Nat) (b:Bool) (k:Nat) (l:Nat) (L:List AV) (I:IK):@xE Sb [] 100 T3 (lhs (lhs lp4)) (t3 n g m h q g2 i b k (.slice 2 0 l l true)) [xRow x,dRow m1 ud m2 e,.row L true 1] [2,5,6,8,7,11,12,13,9,69] [0,1,2] I=I .normal [some (.ptr 0 0),some (.ptr 1 0),some (.dslice n 1 (idEl g)),some (.dslice m 1 (zsEl h)),some (.dslice q 1 (idEl g2)),some (.int .i64 (.ofNat i)),some (.bool b),some (.int .i64 (.ofNat k)),some (.slice 2 0 l l true),some (.bool (ilt (.ofNat k) (.ofNat m2)))] [some (xRow x),some (dRow m1 ud m2 e),some (.row L true 1)]:=by kernel_rfl
theorem k3_bct (x:Ex) (m1:Nat) (ud:Nat→Dat) (m2:Nat) (e:Nat→Nat→List Dat) (n:Nat) (g:Nat→Nat) (m:Nat) (h:Nat→List UInt8) (q:Nat) (g2:Nat→Nat) (i:Nat) (k:Nat) (l:Nat) (L:List AV) (I:IK):@xE Sb [] 100 T3 (rhs lp4) (t3 n g m h q g2 i true k (.slice 2 0 l l true)) [xRow x,dRow m1 ud m2 e,.row L true 1] [2,5,6,8,7,11,12,13,9] [0,1,2] I=gB (inI64 ((Int.ofNat k).add 1)) (I .normal [some (.ptr 0 0),some (.ptr 1 0),some (.dslice n 1 (idEl g)),some (.dslice m 1 (zsEl h)),some (.dslice q 1 (idEl g2)),some (.int .i64 (.ofNat i)),some (.bool true),some (.int .i64 ((Int.ofNat k).add 1)),some (.slice 2 0 l l true)] [some (xRow x),some (dRow m1 ud m2 e),some (.row L true 1)]):=by kernel_rfl
theorem k3_bcy (x:Ex) (m1:Nat) (ud:Nat→Dat) (m2:Nat) (e:Nat→Nat→List Dat) (n:Nat) (g:Nat→Nat) (m:Nat) (h:Nat→List UInt8) (q:Nat) (g2:Nat→Nat) (i:Nat) (k:Nat) (l:Nat) (L:List AV) (I:IK):@xE (So [(121,84,true)]) [] 100 T3 (rhs lp4) (t3 n g m h q g2 i false k (.slice 2 0 l l true)) [xRow x,dRow m1 ud m2 e,.row L true 1] [2,5,6,8,7,11,12,13,9] [0,1,2] I=gB (Nat.blt k m2) (gB (Nat.blt i m) (gB (seqA 5 (enc (zName k)) (h i).length (enc (h i))) (gB (inI64 ((Int.ofNat k).add 1)) (I .normal [some (.ptr 0 0),some (.ptr 1 0),some (.dslice n 1 (idEl g)),some (.dslice m 1 (zsEl h)),some (.dslice q 1 (idEl g2)),some (.int .i64 (.ofNat i)),some (.bool true),some (.int .i64 ((Int.ofNat k).add 1)),some (.slice 2 0 l l true)] [some (xRow x),some (dRow m1 ud m2 e),some (.row L true 1)])))):=by kernel_rfl
theorem k3_bcf (x:Ex) (m1:Nat) (ud:Nat→Dat) (m2:Nat) (e:Nat→Nat→List Dat) (n:Nat) (g:Nat→Nat) (m:Nat) (h:Nat→List UInt8) (q:Nat) (g2:Nat→Nat) (i:Nat) (k:Nat) (l:Nat) (L:List AV) (I:IK):@xE (So [(121,84,false)]) [] 100 T3 (rhs lp4) (t3 n g m h q g2 i false k (.slice 2 0 l l true)) [xRow x,dRow m1 ud m2 e,.row L true 1] [2,5,6,8,7,11,12,13,9] [0,1,2] I=gB (Nat.blt k m2) (gB (Nat.blt i m) (gN (seqA 5 (enc (zName k)) (h i).length (enc (h i))) (gB (inI64 ((Int.ofNat k).add 1)) (I .normal [some (.ptr 0 0),some (.ptr 1 0),some (.dslice n 1 (idEl g)),some (.dslice m 1 (zsEl h)),some (.dslice q 1 (idEl g2)),some (.int .i64 (.ofNat i)),some (.bool false),some (.int .i64 ((Int.ofNat k).add 1)),some (.slice 2 0 l l true)] [some (xRow x),some (dRow m1 ud m2 e),some (.row L true 1)])))):=by kernel_rfl
theorem k2_ect (x:Ex) (m1:Nat) (ud:Nat→Dat) (m2:Nat) (e:Nat→Nat→List Dat) (n:Nat) (g:Nat→Nat) (m:Nat) (h:Nat→List UInt8) (q:Nat) (g2:Nat→Nat) (i:Nat) (k:Nat) (l:Nat) (L:List AV) (I:IK):@xE Sb [] 100 T3 I21 (t3 n g m h q g2 i true k (.slice 2 0 l l true)) [xRow x,dRow m1 ud m2 e,.row L true 1] [2,5,6,8,7,11,9] [0,1,2] I=I .normal [some (.ptr 0 0),some (.ptr 1 0),some (.dslice n 1 (idEl g)),some (.dslice m 1 (zsEl h)),some (.dslice q 1 (idEl g2)),some (.int .i64 (.ofNat i)),some (.slice 2 0 l l true)] [some (xRow x),some (dRow m1 ud m2 e),some (.row L true 1)]:=by kernel_rfl
theorem k2_ecf (x:Ex) (m1:Nat) (ud:Nat→Dat) (m2:Nat) (e:Nat→Nat→List Dat) (n:Nat) (g:Nat→Nat) (m:Nat) (h:Nat→List UInt8) (q:Nat) (g2:Nat→Nat) (i:Nat) (k:Nat) (l:Nat) (L:List AV) (I:IK):@xE Sb [] 100 T3 I21 (t3 n g m h q g2 i false k (.slice 2 0 l l true)) [xRow x,dRow m1 ud m2 e,.row L true 1] [2,5,6,8,7,11,9] [0,1,4] I=gB (Nat.blt i m) (gateP ((Nat.ble (Nat.add l 1) l)=false) (gB (Nat.ble (Nat.mul l 1) (lenL (List.drop 0 L))) (gB (Nat.beq (lenL L) (Nat.mul l 1)) (gB (Nat.ble (Nat.add l 1) 9223372036854775807) (gB (smallOk Tryz.prog 9 (l.add 1)) (I .normal [some (.ptr 0 0),some (.ptr 1 0),some (.dslice n 1 (idEl g)),some (.dslice m 1 (zsEl h)),some (.dslice q 1 (idEl g2)),some (.int .i64 (.ofNat i)),some (.slice 4 0 (Nat.add l 1) (Nat.add l 1) true)] [some (xRow x),some (dRow m1 ud m2 e),some (.row (List.append (List.take (Nat.mul l 1) (List.drop 0 L)) [strA (h i)]) true 1)])))))):=by kernel_rfl
theorem k2_pc (x:Ex) (m1:Nat) (ud:Nat→Dat) (m2:Nat) (e:Nat→Nat→List Dat) (n:Nat) (g:Nat→Nat) (m:Nat) (h:Nat→List UInt8) (q:Nat) (g2:Nat→Nat) (i:Nat) (l:Nat) (L:List AV) (I:IK):@xE Sb [] 100 T3 (rhs (rhs lp2)) (t2 n g m h q g2 i (.slice 2 0 l l true)) [xRow x,dRow m1 ud m2 e,.row L true 1] [2,5,6,8,7,11,9] [0,1,2] I=gB (inI64 ((Int.ofNat i).add 1)) (I .normal [some (.ptr 0 0),some (.ptr 1 0),some (.dslice n 1 (idEl g)),some (.dslice m 1 (zsEl h)),some (.dslice q 1 (idEl g2)),some (.int .i64 ((Int.ofNat i).add 1)),some (.slice 2 0 l l true)] [some (xRow x),some (dRow m1 ud m2 e),some (.row L true 1)]):=by kernel_rfl
theorem l_end (x:Ex) (m1:Nat) (ud:Nat→Dat) (m2:Nat) (e:Nat→Nat→List Dat) (n:Nat) (g:Nat→Nat) (m:Nat) (h:Nat→List UInt8) (q:Nat) (g2:Nat→Nat) (r:Nat) (h2:Nat→List UInt8) (I:AK):xR [eMi x m1 ud m2 e q g2 r h2,eOb x n g,eSI (idsA n g) (idsA n g),eZo x m h,eSS (zsA m h) (zsA m h),eSI (idsA q g2) (idsA q g2),eSS (zsA r h2) (zsA r h2)] 200 T3 C23 [(2,.ptr 0 0),(5,.ptr 1 0),(6,idsA n g),(8,zsA m h),(7,idsA q g2),(9,zsA r h2)] [xRow x,dRow m1 ud m2 e] Tryz.f3 [] I=gX ((eMi x m1 ud m2 e q g2 r h2).snd.args) (gX ((eOb x n g).snd.args) (gX ((eSI (idsA n g) (idsA n g)).snd.args) (gX ((eZo x m h).snd.args) (gX ((eSS (zsA m h) (zsA m h)).snd.args) (gX ((eSI (idsA q g2) (idsA q g2)).snd.args) (gX ((eSS (zsA r h2) (zsA r h2)).snd.args) (I (.bool true) []))))))):=by kernel_rfl
end
end
end Go.Proofs.YtodjhpjcgggamaaGreatDoor

namespace Go.Proofs.YtodjhpjcgggamaaGreatDoor
open Go Go.Eng Go.Vi Go.Knuth
noncomputable section
section
local instance : Go.Eng.Mode := Sb
theorem c3_eq:post 5 c3=.seq C6 (.seq C8 (.seq C13 C23)):=by kernel_rfl
theorem C8_eq:C8=.seq (lhs C8) (.block 0 (.loop lp0)):=by kernel_rfl
theorem C13_eq:C13=.seq (lhs C13) (.block 2 (.loop lp2)):=by kernel_rfl
theorem lp0_eq:lp0=.seq (.seq (lhs (lhs lp0)) (.cond (.tmp 41) .skip (.exit 0))) (rhs lp0):=by kernel_rfl
theorem lp2_eq:lp2=.seq (.seq (lhs (lhs lp2)) (.cond (.tmp 62) .skip (.exit 2))) (.seq (.block 3 B3) (rhs (rhs lp2))):=by kernel_rfl
theorem B3_eq:B3=.seq (lhs B3) (.seq (.seq (lhs I17) (.block 4 (.loop lp4))) I21):=by kernel_rfl
theorem lp4_eq:lp4=.seq (.seq (lhs (lhs lp4)) (.cond (.tmp 69) .skip (.exit 4))) (rhs lp4):=by kernel_rfl
abbrev eF:List (Nat × AV):=[(12,.bool false)]
theorem seq5 (k:Nat) (s:List UInt8):seqA 5 (enc (zName k)) s.length (enc s)=decide (zName k=s):=by
 have hl:(zName k).length=5:=by unfold zName;split<;>rfl
 have:=seq_d (zName k) s
 rwa [hl] at this
theorem lw_h1 {x:Ex} {m1:Nat} {ud:Nat→Dat} {m2:Nat} {e:Nat→Nat→List Dat} (ids:List Nat) (zs:List (List UInt8)) (i:Nat) {Q:AE→Fr→Mem→Prop} (l:List Dat) (hQ:∀ fr M,fr.get 41=some (.bool (ilt (.ofNat i) (.ofNat ids.length)))→Here 0 (t1 ids.length (fun i=>ids.getD i 0) zs.length (fun i=>zs.getD i []) i (outM 2 l)) (rowsM (R2 x m1 ud m2 e) l) fr M→Q .normal fr M):W Tryz.prog T3 0 (lhs (lhs lp0)) (mkFr (t1 ids.length (fun i=>ids.getD i 0) zs.length (fun i=>zs.getD i []) i (outM 2 l))) (mkMem (rowsM (R2 x m1 ud m2 e) l)) Q:=by
 cases l with
 | nil =>
  have key:=fun Q=>@W.run Sb Tryz.prog hm X0 hX0l [] (fun _ h=>by cases h) T3 0 _ _ _ Q 100 [2,5,6,8,9,10,7,41] [0,1] _ (l_hn x m1 ud m2 e ids.length (fun i=>ids.getD i 0) zs.length (fun i=>zs.getD i []) i)
  refine key _ (pdec_iff.2 fun fr M hv hM=>?_)
  obtain ⟨hv3,ht⟩:=lv_snoc (ts:=[2,5,6,8,9,10,7]) (t:=41) (vs:=vals2 [0,1] (t1 ids.length (fun i=>ids.getD i 0) zs.length (fun i=>zs.getD i []) i .nilSlice)) (v:=some (.bool (ilt (.ofNat i) (.ofNat ids.length)))) hv
  exact hQ fr M ht ⟨[0,1],okP (n:=2) rfl (by decide),rfl,hv3,hM⟩
 | cons d l =>
  have key:=fun Q=>@W.run Sb Tryz.prog hm X0 hX0l [] (fun _ h=>by cases h) T3 0 _ _ _ Q 100 [2,5,6,8,9,10,7,41] [0,1,2] _ (l_hc x m1 ud m2 e ids.length (fun i=>ids.getD i 0) zs.length (fun i=>zs.getD i []) i (d::l).length (toAVs (d::l)))
  refine key _ (pdec_iff.2 fun fr M hv hM=>?_)
  obtain ⟨hv3,ht⟩:=lv_snoc (ts:=[2,5,6,8,9,10,7]) (t:=41) (vs:=vals2 [0,1,2] (t1 ids.length (fun i=>ids.getD i 0) zs.length (fun i=>zs.getD i []) i (.slice 2 0 (d::l).length (d::l).length true))) (v:=some (.bool (ilt (.ofNat i) (.ofNat ids.length)))) hv
  exact hQ fr M ht ⟨[0,1,2],okP (n:=3) rfl (by decide),rfl,hv3,hM⟩
theorem lw_h2 {x:Ex} {m1:Nat} {ud:Nat→Dat} {m2:Nat} {e:Nat→Nat→List Dat} (ids:List Nat) (zs:List (List UInt8)) (ks:List Nat) (i:Nat) {Q:AE→Fr→Mem→Prop} (l:List Dat) (hQ:∀ fr M,fr.get 62=some (.bool (ilt (.ofNat i) (.ofNat zs.length)))→Here 0 (t2 ids.length (fun i=>ids.getD i 0) zs.length (fun i=>zs.getD i []) ks.length (fun i=>ks.getD i 0) i (outM 2 l)) (rowsM (R2 x m1 ud m2 e) l) fr M→Q .normal fr M):W Tryz.prog T3 0 (lhs (lhs lp2)) (mkFr (t2 ids.length (fun i=>ids.getD i 0) zs.length (fun i=>zs.getD i []) ks.length (fun i=>ks.getD i 0) i (outM 2 l))) (mkMem (rowsM (R2 x m1 ud m2 e) l)) Q:=by
 cases l with
 | nil =>
  have key:=fun Q=>@W.run Sb Tryz.prog hm X0 hX0l [] (fun _ h=>by cases h) T3 0 _ _ _ Q 100 [2,5,6,8,7,11,9,62] [0,1] _ (k2_hn x m1 ud m2 e ids.length (fun i=>ids.getD i 0) zs.length (fun i=>zs.getD i []) ks.length (fun i=>ks.getD i 0) i)
  refine key _ (pdec_iff.2 fun fr M hv hM=>?_)
  obtain ⟨hv3,ht⟩:=lv_snoc (ts:=[2,5,6,8,7,11,9]) (t:=62) (vs:=vals2 [0,1] (t2 ids.length (fun i=>ids.getD i 0) zs.length (fun i=>zs.getD i []) ks.length (fun i=>ks.getD i 0) i .nilSlice)) (v:=some (.bool (ilt (.ofNat i) (.ofNat zs.length)))) hv
  exact hQ fr M ht ⟨[0,1],okP (n:=2) rfl (by decide),rfl,hv3,hM⟩
 | cons d l =>
  have key:=fun Q=>@W.run Sb Tryz.prog hm X0 hX0l [] (fun _ h=>by cases h) T3 0 _ _ _ Q 100 [2,5,6,8,7,11,9,62] [0,1,2] _ (k2_hc x m1 ud m2 e ids.length (fun i=>ids.getD i 0) zs.length (fun i=>zs.getD i []) ks.length (fun i=>ks.getD i 0) i (d::l).length (toAVs (d::l)))
  refine key _ (pdec_iff.2 fun fr M hv hM=>?_)
  obtain ⟨hv3,ht⟩:=lv_snoc (ts:=[2,5,6,8,7,11,9]) (t:=62) (vs:=vals2 [0,1,2] (t2 ids.length (fun i=>ids.getD i 0) zs.length (fun i=>zs.getD i []) ks.length (fun i=>ks.getD i 0) i (.slice 2 0 (d::l).length (d::l).length true))) (v:=some (.bool (ilt (.ofNat i) (.ofNat zs.length)))) hv
  exact hQ fr M ht ⟨[0,1,2],okP (n:=3) rfl (by decide),rfl,hv3,hM⟩
theorem lw_s2 {x:Ex} {m1:Nat} {ud:Nat→Dat} {m2:Nat} {e:Nat→Nat→List Dat} (ids:List Nat) (zs:List (List UInt8)) (ks:List Nat) (i:Nat) {Q:AE→Fr→Mem→Prop} (l:List Dat) (hQ:∀ fr M,Here 0 (t2 ids.length (fun i=>ids.getD i 0) zs.length (fun i=>zs.getD i []) ks.length (fun i=>ks.getD i 0) i (outM 2 l)++eF) (rowsM (R2 x m1 ud m2 e) l) fr M→Q .normal fr M):W Tryz.prog T3 0 (lhs B3) (mkFr (t2 ids.length (fun i=>ids.getD i 0) zs.length (fun i=>zs.getD i []) ks.length (fun i=>ks.getD i 0) i (outM 2 l))) (mkMem (rowsM (R2 x m1 ud m2 e) l)) Q:=by
 cases l with
 | nil =>
  have key:=fun Q=>@W.run Sb Tryz.prog hm X0 hX0l [] (fun _ h=>by cases h) T3 0 _ _ _ Q 100 [2,5,6,8,7,11,9,12] [0,1] _ (k2_sn x m1 ud m2 e ids.length (fun i=>ids.getD i 0) zs.length (fun i=>zs.getD i []) ks.length (fun i=>ks.getD i 0) i)
  refine key _ (pdec_iff.2 fun fr M hv hM=>?_)
  exact hQ fr M ⟨[0,1],okP (n:=2) rfl (by decide),rfl,hv,hM⟩
 | cons d l =>
  have key:=fun Q=>@W.run Sb Tryz.prog hm X0 hX0l [] (fun _ h=>by cases h) T3 0 _ _ _ Q 100 [2,5,6,8,7,11,9,12] [0,1,2] _ (k2_sc x m1 ud m2 e ids.length (fun i=>ids.getD i 0) zs.length (fun i=>zs.getD i []) ks.length (fun i=>ks.getD i 0) i (d::l).length (toAVs (d::l)))
  refine key _ (pdec_iff.2 fun fr M hv hM=>?_)
  exact hQ fr M ⟨[0,1,2],okP (n:=3) rfl (by decide),rfl,hv,hM⟩
theorem lw_k2 {x:Ex} {m1:Nat} {ud:Nat→Dat} {m2:Nat} {e:Nat→Nat→List Dat} (ids:List Nat) (zs:List (List UInt8)) (ks:List Nat) (i:Nat) {Q:AE→Fr→Mem→Prop} (l:List Dat) (hQ:∀ fr M,Here 0 (t3 ids.length (fun i=>ids.getD i 0) zs.length (fun i=>zs.getD i []) ks.length (fun i=>ks.getD i 0) i false 0 (outM 2 l)) (rowsM (R2 x m1 ud m2 e) l) fr M→Q .normal fr M):W Tryz.prog T3 0 (lhs I17) (mkFr (t2 ids.length (fun i=>ids.getD i 0) zs.length (fun i=>zs.getD i []) ks.length (fun i=>ks.getD i 0) i (outM 2 l)++eF)) (mkMem (rowsM (R2 x m1 ud m2 e) l)) Q:=by
 cases l with
 | nil =>
  have key:=fun Q=>@W.run Sb Tryz.prog hm X0 hX0l [] (fun _ h=>by cases h) T3 0 _ _ _ Q 100 [2,5,6,8,7,11,12,13,9] [0,1] _ (k2_kn x m1 ud m2 e ids.length (fun i=>ids.getD i 0) zs.length (fun i=>zs.getD i []) ks.length (fun i=>ks.getD i 0) i)
  refine key _ (pdec_iff.2 fun fr M hv hM=>?_)
  exact hQ fr M ⟨[0,1],okP (n:=2) rfl (by decide),rfl,hv,hM⟩
 | cons d l =>
  have key:=fun Q=>@W.run Sb Tryz.prog hm X0 hX0l [] (fun _ h=>by cases h) T3 0 _ _ _ Q 100 [2,5,6,8,7,11,12,13,9] [0,1,2] _ (k2_kc x m1 ud m2 e ids.length (fun i=>ids.getD i 0) zs.length (fun i=>zs.getD i []) ks.length (fun i=>ks.getD i 0) i (d::l).length (toAVs (d::l)))
  refine key _ (pdec_iff.2 fun fr M hv hM=>?_)
  exact hQ fr M ⟨[0,1,2],okP (n:=3) rfl (by decide),rfl,hv,hM⟩
theorem lw_h3 {x:Ex} {m1:Nat} {ud:Nat→Dat} {m2:Nat} {e:Nat→Nat→List Dat} (ids:List Nat) (zs:List (List UInt8)) (ks:List Nat) (i:Nat) (b:Bool) (k:Nat) {Q:AE→Fr→Mem→Prop} (l:List Dat) (hQ:∀ fr M,fr.get 69=some (.bool (ilt (.ofNat k) (.ofNat m2)))→Here 0 (t3 ids.length (fun i=>ids.getD i 0) zs.length (fun i=>zs.getD i []) ks.length (fun i=>ks.getD i 0) i b k (outM 2 l)) (rowsM (R2 x m1 ud m2 e) l) fr M→Q .normal fr M):W Tryz.prog T3 0 (lhs (lhs lp4)) (mkFr (t3 ids.length (fun i=>ids.getD i 0) zs.length (fun i=>zs.getD i []) ks.length (fun i=>ks.getD i 0) i b k (outM 2 l))) (mkMem (rowsM (R2 x m1 ud m2 e) l)) Q:=by
 cases l with
 | nil =>
  have key:=fun Q=>@W.run Sb Tryz.prog hm X0 hX0l [] (fun _ h=>by cases h) T3 0 _ _ _ Q 100 [2,5,6,8,7,11,12,13,9,69] [0,1] _ (k3_hn x m1 ud m2 e ids.length (fun i=>ids.getD i 0) zs.length (fun i=>zs.getD i []) ks.length (fun i=>ks.getD i 0) i b k)
  refine key _ (pdec_iff.2 fun fr M hv hM=>?_)
  obtain ⟨hv3,ht⟩:=lv_snoc (ts:=[2,5,6,8,7,11,12,13,9]) (t:=69) (vs:=vals2 [0,1] (t3 ids.length (fun i=>ids.getD i 0) zs.length (fun i=>zs.getD i []) ks.length (fun i=>ks.getD i 0) i b k .nilSlice)) (v:=some (.bool (ilt (.ofNat k) (.ofNat m2)))) hv
  exact hQ fr M ht ⟨[0,1],okP (n:=2) rfl (by decide),rfl,hv3,hM⟩
 | cons d l =>
  have key:=fun Q=>@W.run Sb Tryz.prog hm X0 hX0l [] (fun _ h=>by cases h) T3 0 _ _ _ Q 100 [2,5,6,8,7,11,12,13,9,69] [0,1,2] _ (k3_hc x m1 ud m2 e ids.length (fun i=>ids.getD i 0) zs.length (fun i=>zs.getD i []) ks.length (fun i=>ks.getD i 0) i b k (d::l).length (toAVs (d::l)))
  refine key _ (pdec_iff.2 fun fr M hv hM=>?_)
  obtain ⟨hv3,ht⟩:=lv_snoc (ts:=[2,5,6,8,7,11,12,13,9]) (t:=69) (vs:=vals2 [0,1,2] (t3 ids.length (fun i=>ids.getD i 0) zs.length (fun i=>zs.getD i []) ks.length (fun i=>ks.getD i 0) i b k (.slice 2 0 (d::l).length (d::l).length true))) (v:=some (.bool (ilt (.ofNat k) (.ofNat m2)))) hv
  exact hQ fr M ht ⟨[0,1,2],okP (n:=3) rfl (by decide),rfl,hv3,hM⟩
theorem lw_b3t {x:Ex} {m1:Nat} {ud:Nat→Dat} {m2:Nat} {e:Nat→Nat→List Dat} (ids:List Nat) (zs:List (List UInt8)) (ks:List Nat) (i:Nat) (k:Nat) (hk:k<m2) (hi:i<zs.length) (h2:m2≤2)  {Q:AE→Fr→Mem→Prop} (l:List Dat) (hQ:∀ fr M,Here 0 (t3 ids.length (fun i=>ids.getD i 0) zs.length (fun i=>zs.getD i []) ks.length (fun i=>ks.getD i 0) i true (k+1) (outM 2 l)) (rowsM (R2 x m1 ud m2 e) l) fr M→Q .normal fr M):W Tryz.prog T3 0 (rhs lp4) (mkFr (t3 ids.length (fun i=>ids.getD i 0) zs.length (fun i=>zs.getD i []) ks.length (fun i=>ks.getD i 0) i true k (outM 2 l))) (mkMem (rowsM (R2 x m1 ud m2 e) l)) Q:=by
 cases l with
 | nil =>
  have key:=fun Q=>@W.run Sb Tryz.prog hm X0 hX0l [] (fun _ h=>by cases h) T3 0 _ _ _ Q 100 [2,5,6,8,7,11,12,13,9] [0,1] _ (k3_bnt x m1 ud m2 e ids.length (fun i=>ids.getD i 0) zs.length (fun i=>zs.getD i []) ks.length (fun i=>ks.getD i 0) i k)
  refine key _ ?_
  simp only [gB_iff,gN_iff]
  refine ⟨inI_succ hk (by omega),pdec_iff.2 fun fr M hv hM=>?_⟩
  exact hQ fr M ⟨[0,1],okP (n:=2) rfl (by decide),rfl,hv,hM⟩
 | cons d l =>
  have key:=fun Q=>@W.run Sb Tryz.prog hm X0 hX0l [] (fun _ h=>by cases h) T3 0 _ _ _ Q 100 [2,5,6,8,7,11,12,13,9] [0,1,2] _ (k3_bct x m1 ud m2 e ids.length (fun i=>ids.getD i 0) zs.length (fun i=>zs.getD i []) ks.length (fun i=>ks.getD i 0) i k (d::l).length (toAVs (d::l)))
  refine key _ ?_
  simp only [gB_iff,gN_iff]
  refine ⟨inI_succ hk (by omega),pdec_iff.2 fun fr M hv hM=>?_⟩
  exact hQ fr M ⟨[0,1,2],okP (n:=3) rfl (by decide),rfl,hv,hM⟩
theorem lw_b3y {x:Ex} {m1:Nat} {ud:Nat→Dat} {m2:Nat} {e:Nat→Nat→List Dat} (ids:List Nat) (zs:List (List UInt8)) (ks:List Nat) (i:Nat) (k:Nat) (hk:k<m2) (hi:i<zs.length) (h2:m2≤2) (hz:zName k=zs.getD i [])  {Q:AE→Fr→Mem→Prop} (l:List Dat) (hQ:∀ fr M,Here 0 (t3 ids.length (fun i=>ids.getD i 0) zs.length (fun i=>zs.getD i []) ks.length (fun i=>ks.getD i 0) i true (k+1) (outM 2 l)) (rowsM (R2 x m1 ud m2 e) l) fr M→Q .normal fr M):W Tryz.prog T3 0 (rhs lp4) (mkFr (t3 ids.length (fun i=>ids.getD i 0) zs.length (fun i=>zs.getD i []) ks.length (fun i=>ks.getD i 0) i false k (outM 2 l))) (mkMem (rowsM (R2 x m1 ud m2 e) l)) Q:=by
 cases l with
 | nil =>
  have key:=fun Q=>@W.run (So [(121,84,true)]) Tryz.prog hm X0 hX0l [] (fun _ h=>by cases h) T3 0 _ _ _ Q 100 [2,5,6,8,7,11,12,13,9] [0,1] _ (k3_bny x m1 ud m2 e ids.length (fun i=>ids.getD i 0) zs.length (fun i=>zs.getD i []) ks.length (fun i=>ks.getD i 0) i k)
  refine key _ ?_
  simp only [gB_iff,gN_iff]
  refine ⟨nblt_of hk,nblt_of hi,by rw [seq5];exact decide_eq_true hz,inI_succ hk (by omega),pdec_iff.2 fun fr M hv hM=>?_⟩
  exact hQ fr M ⟨[0,1],okP (n:=2) rfl (by decide),rfl,hv,hM⟩
 | cons d l =>
  have key:=fun Q=>@W.run (So [(121,84,true)]) Tryz.prog hm X0 hX0l [] (fun _ h=>by cases h) T3 0 _ _ _ Q 100 [2,5,6,8,7,11,12,13,9] [0,1,2] _ (k3_bcy x m1 ud m2 e ids.length (fun i=>ids.getD i 0) zs.length (fun i=>zs.getD i []) ks.length (fun i=>ks.getD i 0) i k (d::l).length (toAVs (d::l)))
  refine key _ ?_
  simp only [gB_iff,gN_iff]
  refine ⟨nblt_of hk,nblt_of hi,by rw [seq5];exact decide_eq_true hz,inI_succ hk (by omega),pdec_iff.2 fun fr M hv hM=>?_⟩
  exact hQ fr M ⟨[0,1,2],okP (n:=3) rfl (by decide),rfl,hv,hM⟩
theorem lw_b3f {x:Ex} {m1:Nat} {ud:Nat→Dat} {m2:Nat} {e:Nat→Nat→List Dat} (ids:List Nat) (zs:List (List UInt8)) (ks:List Nat) (i:Nat) (k:Nat) (hk:k<m2) (hi:i<zs.length) (h2:m2≤2) (hz:¬ zName k=zs.getD i [])  {Q:AE→Fr→Mem→Prop} (l:List Dat) (hQ:∀ fr M,Here 0 (t3 ids.length (fun i=>ids.getD i 0) zs.length (fun i=>zs.getD i []) ks.length (fun i=>ks.getD i 0) i false (k+1) (outM 2 l)) (rowsM (R2 x m1 ud m2 e) l) fr M→Q .normal fr M):W Tryz.prog T3 0 (rhs lp4) (mkFr (t3 ids.length (fun i=>ids.getD i 0) zs.length (fun i=>zs.getD i []) ks.length (fun i=>ks.getD i 0) i false k (outM 2 l))) (mkMem (rowsM (R2 x m1 ud m2 e) l)) Q:=by
 cases l with
 | nil =>
  have key:=fun Q=>@W.run (So [(121,84,false)]) Tryz.prog hm X0 hX0l [] (fun _ h=>by cases h) T3 0 _ _ _ Q 100 [2,5,6,8,7,11,12,13,9] [0,1] _ (k3_bnf x m1 ud m2 e ids.length (fun i=>ids.getD i 0) zs.length (fun i=>zs.getD i []) ks.length (fun i=>ks.getD i 0) i k)
  refine key _ ?_
  simp only [gB_iff,gN_iff]
  refine ⟨nblt_of hk,nblt_of hi,by rw [seq5];exact decide_eq_false hz,inI_succ hk (by omega),pdec_iff.2 fun fr M hv hM=>?_⟩
  exact hQ fr M ⟨[0,1],okP (n:=2) rfl (by decide),rfl,hv,hM⟩
 | cons d l =>
  have key:=fun Q=>@W.run (So [(121,84,false)]) Tryz.prog hm X0 hX0l [] (fun _ h=>by cases h) T3 0 _ _ _ Q 100 [2,5,6,8,7,11,12,13,9] [0,1,2] _ (k3_bcf x m1 ud m2 e ids.length (fun i=>ids.getD i 0) zs.length (fun i=>zs.getD i []) ks.length (fun i=>ks.getD i 0) i k (d::l).length (toAVs (d::l)))
  refine key _ ?_
  simp only [gB_iff,gN_iff]
  refine ⟨nblt_of hk,nblt_of hi,by rw [seq5];exact decide_eq_false hz,inI_succ hk (by omega),pdec_iff.2 fun fr M hv hM=>?_⟩
  exact hQ fr M ⟨[0,1,2],okP (n:=3) rfl (by decide),rfl,hv,hM⟩
theorem lw_e2t {x:Ex} {m1:Nat} {ud:Nat→Dat} {m2:Nat} {e:Nat→Nat→List Dat} (ids:List Nat) (zs:List (List UInt8)) (ks:List Nat) (i:Nat) (k:Nat)  {Q:AE→Fr→Mem→Prop} (l:List Dat) (hQ:∀ fr M,Here 0 (t2 ids.length (fun i=>ids.getD i 0) zs.length (fun i=>zs.getD i []) ks.length (fun i=>ks.getD i 0) i (outM 2 l)) (rowsM (R2 x m1 ud m2 e) l) fr M→Q .normal fr M):W Tryz.prog T3 0 I21 (mkFr (t3 ids.length (fun i=>ids.getD i 0) zs.length (fun i=>zs.getD i []) ks.length (fun i=>ks.getD i 0) i true k (outM 2 l))) (mkMem (rowsM (R2 x m1 ud m2 e) l)) Q:=by
 cases l with
 | nil =>
  have key:=fun Q=>@W.run Sb Tryz.prog hm X0 hX0l [] (fun _ h=>by cases h) T3 0 _ _ _ Q 100 [2,5,6,8,7,11,9] [0,1] _ (k2_ent x m1 ud m2 e ids.length (fun i=>ids.getD i 0) zs.length (fun i=>zs.getD i []) ks.length (fun i=>ks.getD i 0) i k)
  refine key _ (pdec_iff.2 fun fr M hv hM=>?_)
  exact hQ fr M ⟨[0,1],okP (n:=2) rfl (by decide),rfl,hv,hM⟩
 | cons d l =>
  have key:=fun Q=>@W.run Sb Tryz.prog hm X0 hX0l [] (fun _ h=>by cases h) T3 0 _ _ _ Q 100 [2,5,6,8,7,11,9] [0,1,2] _ (k2_ect x m1 ud m2 e ids.length (fun i=>ids.getD i 0) zs.length (fun i=>zs.getD i []) ks.length (fun i=>ks.getD i 0) i k (d::l).length (toAVs (d::l)))
  refine key _ (pdec_iff.2 fun fr M hv hM=>?_)
  exact hQ fr M ⟨[0,1,2],okP (n:=3) rfl (by decide),rfl,hv,hM⟩
theorem lw_p2 {x:Ex} {m1:Nat} {ud:Nat→Dat} {m2:Nat} {e:Nat→Nat→List Dat} (ids:List Nat) (zs:List (List UInt8)) (ks:List Nat) (i:Nat) (hi:i<zs.length) (hn:zs.length<1000000)  {Q:AE→Fr→Mem→Prop} (l:List Dat) (hQ:∀ fr M,Here 0 (t2 ids.length (fun i=>ids.getD i 0) zs.length (fun i=>zs.getD i []) ks.length (fun i=>ks.getD i 0) (i+1) (outM 2 l)) (rowsM (R2 x m1 ud m2 e) l) fr M→Q .normal fr M):W Tryz.prog T3 0 (rhs (rhs lp2)) (mkFr (t2 ids.length (fun i=>ids.getD i 0) zs.length (fun i=>zs.getD i []) ks.length (fun i=>ks.getD i 0) i (outM 2 l))) (mkMem (rowsM (R2 x m1 ud m2 e) l)) Q:=by
 cases l with
 | nil =>
  have key:=fun Q=>@W.run Sb Tryz.prog hm X0 hX0l [] (fun _ h=>by cases h) T3 0 _ _ _ Q 100 [2,5,6,8,7,11,9] [0,1] _ (k2_pn x m1 ud m2 e ids.length (fun i=>ids.getD i 0) zs.length (fun i=>zs.getD i []) ks.length (fun i=>ks.getD i 0) i)
  refine key _ ?_
  simp only [gB_iff,gN_iff]
  refine ⟨inI_succ hi (by omega),pdec_iff.2 fun fr M hv hM=>?_⟩
  exact hQ fr M ⟨[0,1],okP (n:=2) rfl (by decide),rfl,hv,hM⟩
 | cons d l =>
  have key:=fun Q=>@W.run Sb Tryz.prog hm X0 hX0l [] (fun _ h=>by cases h) T3 0 _ _ _ Q 100 [2,5,6,8,7,11,9] [0,1,2] _ (k2_pc x m1 ud m2 e ids.length (fun i=>ids.getD i 0) zs.length (fun i=>zs.getD i []) ks.length (fun i=>ks.getD i 0) i (d::l).length (toAVs (d::l)))
  refine key _ ?_
  simp only [gB_iff,gN_iff]
  refine ⟨inI_succ hi (by omega),pdec_iff.2 fun fr M hv hM=>?_⟩
  exact hQ fr M ⟨[0,1,2],okP (n:=3) rfl (by decide),rfl,hv,hM⟩
theorem lw_b1f {x:Ex} {m1:Nat} {ud:Nat→Dat} {m2:Nat} {e:Nat→Nat→List Dat} (ids:List Nat) (zs:List (List UInt8)) (i:Nat) (hi:i<ids.length) (hn:ids.length<1000000) (hv:¬ m1<ids.getD i 0)  {Q:AE→Fr→Mem→Prop} (l:List Dat) (hQ:∀ fr M,Here 0 (t1 ids.length (fun i=>ids.getD i 0) zs.length (fun i=>zs.getD i []) (i+1) (outM 2 l)) (rowsM (R2 x m1 ud m2 e) l) fr M→Q .normal fr M):W Tryz.prog T3 0 (rhs lp0) (mkFr (t1 ids.length (fun i=>ids.getD i 0) zs.length (fun i=>zs.getD i []) i (outM 2 l))) (mkMem (rowsM (R2 x m1 ud m2 e) l)) Q:=by
 cases l with
 | nil =>
  have key:=fun Q=>@W.run (So [(121,51,false)]) Tryz.prog hm X0 hX0l [] (fun _ h=>by cases h) T3 0 _ _ _ Q 100 [2,5,6,8,9,10,7] [0,1] _ (l_bnf x m1 ud m2 e ids.length (fun i=>ids.getD i 0) zs.length (fun i=>zs.getD i []) i)
  refine key _ ?_
  simp only [gB_iff,gN_iff]
  refine ⟨nblt_of hi,ilt_f hv,inI_succ hi (by omega),pdec_iff.2 fun fr M hv hM=>?_⟩
  exact hQ fr M ⟨[0,1],okP (n:=2) rfl (by decide),rfl,hv,hM⟩
 | cons d l =>
  have key:=fun Q=>@W.run (So [(121,51,false)]) Tryz.prog hm X0 hX0l [] (fun _ h=>by cases h) T3 0 _ _ _ Q 100 [2,5,6,8,9,10,7] [0,1,2] _ (l_bcf x m1 ud m2 e ids.length (fun i=>ids.getD i 0) zs.length (fun i=>zs.getD i []) i (d::l).length (toAVs (d::l)))
  refine key _ ?_
  simp only [gB_iff,gN_iff]
  refine ⟨nblt_of hi,ilt_f hv,inI_succ hi (by omega),pdec_iff.2 fun fr M hv hM=>?_⟩
  exact hQ fr M ⟨[0,1,2],okP (n:=3) rfl (by decide),rfl,hv,hM⟩
theorem lw_b1t {x:Ex} {m1:Nat} {ud:Nat→Dat} {m2:Nat} {e:Nat→Nat→List Dat} (ids:List Nat) (zs:List (List UInt8)) (i:Nat) (hi:i<ids.length) (hn:ids.length<1000000) (hv:m1<ids.getD i 0)  {Q:AE→Fr→Mem→Prop} (l:List Dat) (hl:l.length<1000000) (hQ:∀ fr M,Here 0 (t1 ids.length (fun i=>ids.getD i 0) zs.length (fun i=>zs.getD i []) (i+1) (outM 2 (l++[nD (ids.getD i 0)]))) (rowsM (R2 x m1 ud m2 e) (l++[nD (ids.getD i 0)])) fr M→Q .normal fr M):W Tryz.prog T3 0 (rhs lp0) (mkFr (t1 ids.length (fun i=>ids.getD i 0) zs.length (fun i=>zs.getD i []) i (outM 2 l))) (mkMem (rowsM (R2 x m1 ud m2 e) l)) Q:=by
 have g0:∀ c,List.append (List.take (Nat.mul l.length 1) (toAVs l)) c=toAVs l++c:=grow_row (by rw [toAVs_length];omega)
 have hlen:lenL (toAVs l)=l.length:=by rw [lenL_eq,toAVs_length]
 cases l with
 | nil =>
  have key:=fun Q=>@W.run (So [(121,51,true)]) Tryz.prog hm X0 hX0l [] (fun _ h=>by cases h) T3 0 _ _ _ Q 100 [2,5,6,8,9,10,7] [0,1,3] _ (l_bnt x m1 ud m2 e ids.length (fun i=>ids.getD i 0) zs.length (fun i=>zs.getD i []) i)
  refine key _ ?_
  simp only [gB_iff,gN_iff]
  exact ⟨nblt_of hi,ilt_t hv,nblt_of hi,inI_succ hi (by omega),pdec_iff.2 fun fr M hv hM=>hQ fr M ⟨[0,1,3],okP (n:=3) rfl (by decide),rfl,hv,hM⟩⟩
 | cons d l =>
  have key:=fun Q=>@W.run (So [(121,51,true)]) Tryz.prog hm X0 hX0l [] (fun _ h=>by cases h) T3 0 _ _ _ Q 100 [2,5,6,8,9,10,7] [0,1,4] _ (l_bct x m1 ud m2 e ids.length (fun i=>ids.getD i 0) zs.length (fun i=>zs.getD i []) i (d::l).length (toAVs (d::l)))
  refine key _ ?_
  simp only [gB_iff,gN_iff,gateP_iff,List.drop_zero,g0,small3,nble_succ,hlen,true_and]
  refine ⟨nblt_of hi,ilt_t hv,nblt_of hi,ble_of (by show _*1≤_;omega),beq_of (by show _=_*1;omega),ble_of (by show _+1≤_;omega),ble_of (by show (_+1)*8≤_;omega),inI_succ hi (by omega),pdec_iff.2 fun fr M hv hM=>hQ fr M ⟨[0,1,4],okP (n:=3) rfl (by decide),rfl,?_,?_⟩⟩
  ·have hl1:((d::l)++[nD (ids.getD i 0)]).length=(d::l).length+1:=by simp
   refine hv.trans ?_
   show _=vals2 [0,1,4] (t1 ids.length (fun i=>ids.getD i 0) zs.length (fun i=>zs.getD i []) (i+1) (.slice 2 0 ((d::l)++[nD (ids.getD i 0)]).length ((d::l)++[nD (ids.getD i 0)]).length true))
   rw [hl1]
   rfl
  ·refine hM.trans ?_
   show _=[some (xRow x),some (dRow m1 ud m2 e),some (.row (toAVs ((d::l)++[nD (ids.getD i 0)])) true 1)]
   rw [toAVs_append]
   rfl
theorem lw_e2f {x:Ex} {m1:Nat} {ud:Nat→Dat} {m2:Nat} {e:Nat→Nat→List Dat} (ids:List Nat) (zs:List (List UInt8)) (ks:List Nat) (i:Nat) (k:Nat) (hi:i<zs.length)  {Q:AE→Fr→Mem→Prop} (l:List Dat) (hl:l.length<1000000) (hQ:∀ fr M,Here 0 (t2 ids.length (fun i=>ids.getD i 0) zs.length (fun i=>zs.getD i []) ks.length (fun i=>ks.getD i 0) i (outM 2 (l++[sD (zs.getD i [])]))) (rowsM (R2 x m1 ud m2 e) (l++[sD (zs.getD i [])])) fr M→Q .normal fr M):W Tryz.prog T3 0 I21 (mkFr (t3 ids.length (fun i=>ids.getD i 0) zs.length (fun i=>zs.getD i []) ks.length (fun i=>ks.getD i 0) i false k (outM 2 l))) (mkMem (rowsM (R2 x m1 ud m2 e) l)) Q:=by
 have g0:∀ c,List.append (List.take (Nat.mul l.length 1) (toAVs l)) c=toAVs l++c:=grow_row (by rw [toAVs_length];omega)
 have hlen:lenL (toAVs l)=l.length:=by rw [lenL_eq,toAVs_length]
 cases l with
 | nil =>
  have key:=fun Q=>@W.run Sb Tryz.prog hm X0 hX0l [] (fun _ h=>by cases h) T3 0 _ _ _ Q 100 [2,5,6,8,7,11,9] [0,1,3] _ (k2_enf x m1 ud m2 e ids.length (fun i=>ids.getD i 0) zs.length (fun i=>zs.getD i []) ks.length (fun i=>ks.getD i 0) i k)
  refine key _ ?_
  simp only [gB_iff,gN_iff]
  exact ⟨nblt_of hi,pdec_iff.2 fun fr M hv hM=>hQ fr M ⟨[0,1,3],okP (n:=3) rfl (by decide),rfl,hv,hM⟩⟩
 | cons d l =>
  have key:=fun Q=>@W.run Sb Tryz.prog hm X0 hX0l [] (fun _ h=>by cases h) T3 0 _ _ _ Q 100 [2,5,6,8,7,11,9] [0,1,4] _ (k2_ecf x m1 ud m2 e ids.length (fun i=>ids.getD i 0) zs.length (fun i=>zs.getD i []) ks.length (fun i=>ks.getD i 0) i k (d::l).length (toAVs (d::l)))
  refine key _ ?_
  simp only [gB_iff,gN_iff,gateP_iff,List.drop_zero,g0,small9,nble_succ,hlen,true_and]
  refine ⟨nblt_of hi,ble_of (by show _*1≤_;omega),beq_of (by show _=_*1;omega),ble_of (by show _+1≤_;omega),ble_of (by show (_+1)*16≤_;omega),pdec_iff.2 fun fr M hv hM=>hQ fr M ⟨[0,1,4],okP (n:=3) rfl (by decide),rfl,?_,?_⟩⟩
  ·have hl1:((d::l)++[sD (zs.getD i [])]).length=(d::l).length+1:=by simp
   refine hv.trans ?_
   show _=vals2 [0,1,4] (t2 ids.length (fun i=>ids.getD i 0) zs.length (fun i=>zs.getD i []) ks.length (fun i=>ks.getD i 0) i (.slice 2 0 ((d::l)++[sD (zs.getD i [])]).length ((d::l)++[sD (zs.getD i [])]).length true))
   rw [hl1]
   rfl
  ·refine hM.trans ?_
   show _=[some (xRow x),some (dRow m1 ud m2 e),some (.row (toAVs ((d::l)++[sD (zs.getD i [])])) true 1)]
   rw [toAVs_append]
   rfl
end
end
end Go.Proofs.YtodjhpjcgggamaaGreatDoor

namespace Go.Proofs.YtodjhpjcgggamaaGreatDoor
open Go Go.Eng Go.Vi Go.Knuth
section
local instance : Go.Eng.Mode := Sb
theorem inZ_succ (k:Nat) (s:List UInt8):inZ (k+1) s=(inZ k s||decide (zName k=s)):=by
 unfold inZ
 rw [List.range_succ,List.any_append]
 simp
theorem lw_loop1 {x:Ex} {m1:Nat} {ud:Nat→Dat} {m2:Nat} {e:Nat→Nat→List Dat} (ids:List Nat) (zs:List (List UInt8)) (hn:ids.length<1000000) {c:Code} {Q:AE→Fr→Mem→Prop} (hQ:∀ ks,ks=ids.filter (fun v=>!decide (v≤m1))→W Tryz.prog T3 0 c (mkFr [(2,.ptr 0 0),(5,.ptr 1 0),(6,slA nD 0 ids),(8,slA sD [] zs),(7,slA nD 0 ks),(9,.nilSlice)]) (mkMem (R2 x m1 ud m2 e)) Q) {fr:Fr} {M:Mem} (h0:Here 0 (t1 ids.length (fun i=>ids.getD i 0) zs.length (fun i=>zs.getD i []) 0 .nilSlice) (R2 x m1 ud m2 e) fr M):W Tryz.prog T3 0 (.block 0 (.loop lp0)) fr M (Nxt Tryz.prog T3 0 c Q):=by
 refine W.block (W.loopP (σ:={ i:Nat // i≤ids.length }) (fun i=>(fun i:Nat=>t1 ids.length (fun i=>ids.getD i 0) zs.length (fun i=>zs.getD i []) i (outM 2 (((ids.take i).filter (fun v=>!decide (v≤m1))).map nD))) i.1) (fun i=>(fun i:Nat=>rowsM (R2 x m1 ud m2 e) (((ids.take i).filter (fun v=>!decide (v≤m1))).map nD)) i.1) (fun i=>ids.length-i.1) (fun i=>Pln.rowsM (plnR2 x m1 ud m2 e) _) ?_ ⟨0,Nat.zero_le _⟩ h0)
 rintro ⟨i,hi⟩
 show W Tryz.prog T3 0 lp0 (mkFr (t1 ids.length (fun i=>ids.getD i 0) zs.length (fun i=>zs.getD i []) i (outM 2 (((ids.take i).filter (fun v=>!decide (v≤m1))).map nD)))) (mkMem (rowsM (R2 x m1 ud m2 e) (((ids.take i).filter (fun v=>!decide (v≤m1))).map nD))) _
 rw [lp0_eq]
 refine W.test (lw_h1 ids zs i _ fun fr M ht hh=>⟨rfl,?_⟩)
 by_cases hlt:i<ids.length
 ·rw [ilt_t hlt] at ht
  refine .inl ⟨ht,W.here (Pln.rowsM (plnR2 x m1 ud m2 e) _) hh ?_⟩
  have hf:=filt_succ (fun v=>!decide (v≤m1)) nD 0 ids hlt
  by_cases hv:m1<ids.getD i 0
  ·rw [if_pos (by simp only [Bool.not_eq_true',decide_eq_false_iff_not];omega)] at hf
   refine lw_b1t ids zs i hlt hn hv _ ?_ fun fr M hh=>.inl ⟨rfl,⟨i+1,hlt⟩,by simp only;omega,?_⟩
   ·rw [List.length_map];exact Nat.lt_of_le_of_lt (List.length_filter_le _ _) (by rw [List.length_take];omega)
   ·simp only
    rw [hf]
    exact hh
  ·rw [if_neg (by simp only [Bool.not_eq_true',decide_eq_false_iff_not];omega)] at hf
   refine lw_b1f ids zs i hlt hn hv _ fun fr M hh=>.inl ⟨rfl,⟨i+1,hlt⟩,by simp only;omega,?_⟩
   simp only
   rw [hf]
   exact hh
 ·rw [ilt_f hlt] at ht
  obtain rfl:i=ids.length:=by omega
  refine .inr ⟨ht,.inr ⟨by simp,Blkd_eq ?_⟩⟩
  refine W.here (Pln.rowsM (plnR2 x m1 ud m2 e) _) hh ?_
  rw [List.take_length]
  refine W.fzc _ [(2,.ptr 0 0),(5,.ptr 1 0),(6,slA nD 0 ids),(8,slA sD [] zs),(7,slA nD 0 (ids.filter (fun v=>!decide (v≤m1)))),(9,.nilSlice)] (R2 x m1 ud m2 e) _ (plnR2 x m1 ud m2 e) (fun j hj=>rowsM_lt _ _ j hj) ?_ (hQ _ rfl)
  intro q hq
  rcases List.mem_cons.1 hq with rfl | hq
  ·exact ⟨_,rfl,.cell _ _ (.ptr 0 0 (by show 0<2;decide))⟩
  rcases List.mem_cons.1 hq with rfl | hq
  ·exact ⟨_,rfl,.cell _ _ (.ptr 1 0 (by show 1<2;decide))⟩
  rcases List.mem_cons.1 hq with rfl | hq
  ·exact ⟨_,rfl,.cell _ _ (.dat _ (slD nD 0 ids) (.same (slD nD 0 ids)))⟩
  rcases List.mem_cons.1 hq with rfl | hq
  ·exact ⟨_,rfl,.cell _ _ (.dat _ (slD sD [] zs) (.same (slD sD [] zs)))⟩
  rcases List.mem_cons.1 hq with rfl | hq
  ·exact ⟨_,rfl,fzM nD 0 (R2 x m1 ud m2 e) (ids.filter (fun v=>!decide (v≤m1)))⟩
  obtain rfl:=List.mem_singleton.1 hq
  exact ⟨_,rfl,.cell _ _ .nilS⟩
theorem lw_loop4 {x:Ex} {m1:Nat} {ud:Nat→Dat} {m2:Nat} {e:Nat→Nat→List Dat} (ids:List Nat) (zs:List (List UInt8)) (ks:List Nat)  {i:Nat} (hi:i<zs.length) (h2:m2≤2) (l:List Dat) {Q:AE→Fr→Mem→Prop} (hQ:∀ fr M,Here 0 (t3 ids.length (fun i=>ids.getD i 0) zs.length (fun i=>zs.getD i []) ks.length (fun i=>ks.getD i 0) i (inZ m2 (zs.getD i [])) m2 (outM 2 l)) (rowsM (R2 x m1 ud m2 e) l) fr M→Q .normal fr M) {fr:Fr} {M:Mem} (h0:Here 0 (t3 ids.length (fun i=>ids.getD i 0) zs.length (fun i=>zs.getD i []) ks.length (fun i=>ks.getD i 0) i false 0 (outM 2 l)) (rowsM (R2 x m1 ud m2 e) l) fr M):W Tryz.prog T3 0 (.block 4 (.loop lp4)) fr M Q:=by
 refine W.block (W.loopP (σ:={ k:Nat // k≤m2 }) (fun k=>(fun k:Nat=>t3 ids.length (fun i=>ids.getD i 0) zs.length (fun i=>zs.getD i []) ks.length (fun i=>ks.getD i 0) i (inZ k (zs.getD i [])) k (outM 2 l)) k.1) (fun _=>rowsM (R2 x m1 ud m2 e) l) (fun k=>m2-k.1) (fun _=>Pln.rowsM (plnR2 x m1 ud m2 e) _) ?_ ⟨0,Nat.zero_le _⟩ h0)
 rintro ⟨k,hk⟩
 show W Tryz.prog T3 0 lp4 (mkFr (t3 ids.length (fun i=>ids.getD i 0) zs.length (fun i=>zs.getD i []) ks.length (fun i=>ks.getD i 0) i (inZ k (zs.getD i [])) k (outM 2 l))) (mkMem (rowsM (R2 x m1 ud m2 e) l)) _
 rw [lp4_eq]
 refine W.test (lw_h3 ids zs ks i _ k _ fun fr M ht hh=>⟨rfl,?_⟩)
 by_cases hlt:k<m2
 ·rw [ilt_t hlt] at ht
  refine .inl ⟨ht,W.here (Pln.rowsM (plnR2 x m1 ud m2 e) _) hh ?_⟩
  have hs:=inZ_succ k (zs.getD i [])
  have hfin:∀ fr M,Here 0 (t3 ids.length (fun i=>ids.getD i 0) zs.length (fun i=>zs.getD i []) ks.length (fun i=>ks.getD i 0) i (inZ (k+1) (zs.getD i [])) (k+1) (outM 2 l)) (rowsM (R2 x m1 ud m2 e) l) fr M→(AE.normal=AE.normal∧∃ z':{ k:Nat // k≤m2 },m2-z'.1<m2-k∧Here 0 ((fun k:Nat=>t3 ids.length (fun i=>ids.getD i 0) zs.length (fun i=>zs.getD i []) ks.length (fun i=>ks.getD i 0) i (inZ k (zs.getD i [])) k (outM 2 l)) z'.1) (rowsM (R2 x m1 ud m2 e) l) fr M)∨(AE.normal≠AE.normal∧Blkd 4 Q AE.normal fr M) :=
   fun fr M hh=>.inl ⟨rfl,⟨k+1,hlt⟩,by simp only;omega,hh⟩
  cases hb:inZ k (zs.getD i []) with
  | true =>
   rw [hb,Bool.true_or] at hs
   rw [hs] at hfin
   exact lw_b3t ids zs ks i k hlt hi h2 l hfin
  | false =>
   rw [hb,Bool.false_or] at hs
   by_cases hz:zName k=zs.getD i []
   ·rw [decide_eq_true hz] at hs
    rw [hs] at hfin
    exact lw_b3y ids zs ks i k hlt hi h2 hz l hfin
   ·rw [decide_eq_false hz] at hs
    rw [hs] at hfin
    exact lw_b3f ids zs ks i k hlt hi h2 hz l hfin
 ·rw [ilt_f hlt] at ht
  obtain rfl:k=m2:=by omega
  exact .inr ⟨ht,.inr ⟨by simp,Blkd_eq (hQ fr M hh)⟩⟩
theorem lw_loop2 {x:Ex} {m1:Nat} {ud:Nat→Dat} {m2:Nat} {e:Nat→Nat→List Dat} (ids:List Nat) (zs:List (List UInt8)) (ks:List Nat) (hn:zs.length<1000000) (h2:m2≤2) {c:Code} {Q:AE→Fr→Mem→Prop} (hQ:∀ qs,qs=zs.filter (fun s=>!inZ m2 s)→W Tryz.prog T3 0 c (mkFr [(2,.ptr 0 0),(5,.ptr 1 0),(6,slA nD 0 ids),(8,slA sD [] zs),(7,slA nD 0 ks),(9,slA sD [] qs)]) (mkMem (R2 x m1 ud m2 e)) Q) {fr:Fr} {M:Mem} (h0:Here 0 (t2 ids.length (fun i=>ids.getD i 0) zs.length (fun i=>zs.getD i []) ks.length (fun i=>ks.getD i 0) 0 .nilSlice) (R2 x m1 ud m2 e) fr M):W Tryz.prog T3 0 (.block 2 (.loop lp2)) fr M (Nxt Tryz.prog T3 0 c Q):=by
 refine W.block (W.loopP (σ:={ i:Nat // i≤zs.length }) (fun i=>(fun i:Nat=>t2 ids.length (fun i=>ids.getD i 0) zs.length (fun i=>zs.getD i []) ks.length (fun i=>ks.getD i 0) i (outM 2 (((zs.take i).filter (fun s=>!inZ m2 s)).map sD))) i.1) (fun i=>(fun i:Nat=>rowsM (R2 x m1 ud m2 e) (((zs.take i).filter (fun s=>!inZ m2 s)).map sD)) i.1) (fun i=>zs.length-i.1) (fun i=>Pln.rowsM (plnR2 x m1 ud m2 e) _) ?_ ⟨0,Nat.zero_le _⟩ h0)
 rintro ⟨i,hi⟩
 show W Tryz.prog T3 0 lp2 (mkFr (t2 ids.length (fun i=>ids.getD i 0) zs.length (fun i=>zs.getD i []) ks.length (fun i=>ks.getD i 0) i (outM 2 (((zs.take i).filter (fun s=>!inZ m2 s)).map sD)))) (mkMem (rowsM (R2 x m1 ud m2 e) (((zs.take i).filter (fun s=>!inZ m2 s)).map sD))) _
 rw [lp2_eq]
 refine W.test (lw_h2 ids zs ks i _ fun fr M ht hh=>⟨rfl,?_⟩)
 by_cases hlt:i<zs.length
 ·rw [ilt_t hlt] at ht
  have hpl:∀ l,Pln (rowsM (R2 x m1 ud m2 e) l):=fun l=>Pln.rowsM (plnR2 x m1 ud m2 e) l
  refine .inl ⟨ht,W.here (hpl _) hh ?_⟩
  have hf:=filt_succ (fun s=>!inZ m2 s) sD [] zs hlt
  have hll:(((zs.take i).filter (fun s=>!inZ m2 s)).map sD).length<1000000:=by
   rw [List.length_map];exact Nat.lt_of_le_of_lt (List.length_filter_le _ _) (by rw [List.length_take];omega)
  generalize (((zs.take i).filter (fun s=>!inZ m2 s)).map sD)=l at hf hll
  refine W.seq (W.block ?_)
  rw [B3_eq]
  refine W.seq (lw_s2 ids zs ks i l fun fr M hh=>W.here (hpl l) hh (W.seq (W.seq (lw_k2 ids zs ks i l fun fr M hh=>?_))))
  refine lw_loop4 ids zs ks hlt h2 l (fun fr M hh=>W.here (hpl l) hh ?_) hh
  cases hb:inZ m2 (zs.getD i []) with
  | true =>
   rw [if_neg (by rw [hb];decide)] at hf
   refine lw_e2t ids zs ks i m2 l fun fr M hh=>W.here (hpl l) hh ?_
   refine lw_p2 ids zs ks i hlt hn l fun fr M hh=>.inl ⟨rfl,⟨i+1,hlt⟩,by simp only;omega,?_⟩
   simp only
   rw [hf]
   exact hh
  | false =>
   rw [if_pos (by rw [hb];decide)] at hf
   refine lw_e2f ids zs ks i m2 hlt l hll fun fr M hh=>W.here (hpl _) hh ?_
   refine lw_p2 ids zs ks i hlt hn _ fun fr M hh=>.inl ⟨rfl,⟨i+1,hlt⟩,by simp only;omega,?_⟩
   simp only
   rw [hf]
   exact hh
 ·rw [ilt_f hlt] at ht
  obtain rfl:i=zs.length:=by omega
  refine .inr ⟨ht,.inr ⟨by simp,Blkd_eq ?_⟩⟩
  refine W.here (Pln.rowsM (plnR2 x m1 ud m2 e) _) hh ?_
  rw [List.take_length]
  refine W.fzc _ [(2,.ptr 0 0),(5,.ptr 1 0),(6,slA nD 0 ids),(8,slA sD [] zs),(7,slA nD 0 ks),(9,slA sD [] (zs.filter (fun s=>!inZ m2 s)))] (R2 x m1 ud m2 e) _ (plnR2 x m1 ud m2 e) (fun j hj=>rowsM_lt _ _ j hj) ?_ (hQ _ rfl)
  intro q hq
  rcases List.mem_cons.1 hq with rfl | hq
  ·exact ⟨_,rfl,.cell _ _ (.ptr 0 0 (by show 0<2;decide))⟩
  rcases List.mem_cons.1 hq with rfl | hq
  ·exact ⟨_,rfl,.cell _ _ (.ptr 1 0 (by show 1<2;decide))⟩
  rcases List.mem_cons.1 hq with rfl | hq
  ·exact ⟨_,rfl,.cell _ _ (.dat _ (slD nD 0 ids) (.same (slD nD 0 ids)))⟩
  rcases List.mem_cons.1 hq with rfl | hq
  ·exact ⟨_,rfl,.cell _ _ (.dat _ (slD sD [] zs) (.same (slD sD [] zs)))⟩
  rcases List.mem_cons.1 hq with rfl | hq
  ·exact ⟨_,rfl,.cell _ _ (.dat _ (slD nD 0 ks) (.same (slD nD 0 ks)))⟩
  obtain rfl:=List.mem_singleton.1 hq
  exact ⟨_,rfl,fzM sD [] (R2 x m1 ud m2 e) (zs.filter (fun s=>!inZ m2 s))⟩
end
end Go.Proofs.YtodjhpjcgggamaaGreatDoor

namespace Go.Proofs.YtodjhpjcgggamaaGreatDoor
open Go Go.Eng Go.Vi Go.Knuth
section
local instance : Go.Eng.Mode := Sb
theorem nil_dsl {ρ:Env} {v:Value} (sz:Nat) (el:Nat→List Dat) (h:VRel ρ .nilSlice v):VRel ρ (.dslice 0 sz el) v:=by
 cases h
 exact .dslice _ _ _ _ (.none _ _)
theorem ok3:FnOk Tryz.prog 3 Tryz.f3:=⟨Tryz.func3,by kernel_rfl,by kernel_rfl⟩
theorem tru (k:Nat):pdec (Leaf k [] [] (.bool true) (.bool true) [])=true:=pdec_iff.2 (Leaf.flat fun M' _=>.dat _ (.bool true) (.same (.bool true)))
theorem kn_s:SSpec Tryz.prog 4 eKn.2:=known_c.spec0 rfl
theorem objs_pos {x:Ex} (hx:WF x):∀ v∈objs x,1≤v:=by
 induction hx with
 | mk o n r args h1 h2 hal hob ha ih =>
  intro v hv
  simp only [objs,List.mem_append] at hv
  rcases hv with hv | hv
  ·split at hv
   ·rename_i ho
    rw [List.mem_singleton.1 hv]
    exact (hob (by simp only [Int.ofNat_eq_natCast] at ho;omega)).2.1
   ·cases hv
  ·clear hal ha hob h1 h2
   induction args with
   | nil=>cases hv
   | cons y l ihl =>
    simp only [objsL,List.mem_append] at hv
    rcases hv with hv | hv
    ·exact ih y (List.mem_cons_self ..) v hv
    ·exact ihl (fun z hz=>ih z (List.mem_cons_of_mem _ hz)) hv
set_option maxRecDepth 100000 in
theorem named_law {x:Ex} (hx:Fits x) (f:Fleet) (hN:f.nc<4611686018427387904) (ha:∀ i,(f.a i).k<256):BSim Tryz.prog 3 [exA x,Go.Proofs.YtodjhpjcgggamaaGreatDoor.flA f] [] [] (.bool true):=by
 obtain ⟨bw,hw,hW⟩:=few_any hx
 cases bw with
 | false =>
  have hr:=l_few x f
  refine @BSim.run Sb Tryz.prog hm X0 hX0l [eKn,eFw x false,eKn] (AllOk.mem ⟨kn_s,hW.spec0 rfl,kn_s,trivial⟩) 3 Tryz.f3 ok3 [exA x,Go.Proofs.YtodjhpjcgggamaaGreatDoor.flA f] [] [] (.bool true) (by kernel_rfl) rfl 100 [] _ hr ?_
  simp only [gX_iff]
  exact tru 0
 | true =>
 obtain ⟨hsml,hsz⟩:=hw rfl
 obtain ⟨bs,hs,hS⟩:=short_c f hN
 cases bs with
 | false =>
  have hr:=l_sho x f
  refine @BSim.run Sb Tryz.prog hm X0 hX0l [eKn,eFw x true,eSrt f false,eKn] (AllOk.mem ⟨kn_s,hW.spec0 rfl,hS.spec0 rfl,kn_s,trivial⟩) 3 Tryz.f3 ok3 [exA x,Go.Proofs.YtodjhpjcgggamaaGreatDoor.flA f] [] [] (.bool true) (by kernel_rfl) rfl 100 [] _ hr ?_
  simp only [gX_iff]
  exact tru 0
 | true =>
 obtain ⟨h4,h2,h6⟩:=hs rfl
 obtain ⟨ud,e,hD⟩:=db_c f h4 h6 h2 (fun i _=>ha i)
 obtain ⟨ce,hce,hC⟩:=checkExpr_any hsml (by omega)
 have hck:SSpec Tryz.prog 23 (eCk x ce).2:=hC.spec0 rfl
 have hright:=right_c hck
 refine BSim.of_W ok3.at_ (codeOf_some ok3.body) ok3.name (nble_le (by kernel_rfl)) rfl ?_
 have k1:=fun Q=>@W.runN Sb Tryz.prog hm X0 hX0l [eKn,eFw x true,eSrt f true,eDb f f.nc ud f.na e] (AllOk.mem ⟨kn_s,hW.spec0 rfl,hS.spec0 rfl,hD.spec0 rfl,trivial⟩) T3 0 _ _ _ Q 100 5 [2,5,6,7,8,9] [0,2] _ (l_pre x f f.nc ud f.na e)
 refine k1 _ ?_
 simp only [gX_iff]
 refine pdec_iff.2 fun fr M hv hM=>?_
 refine W.here (plnR2 x f.nc ud f.na e) (here2 (s:=[(2,.ptr 0 0),(5,.ptr 1 0),(6,.nilSlice),(7,.nilSlice),(8,.nilSlice),(9,.nilSlice)]) (by decide) rfl hv hM) ?_
 show W Tryz.prog T3 0 (post 5 c3) _ _ _
 by_cases hc0:ce=0
 ·subst hc0
  have hwf:=hce rfl
  obtain ⟨l,hl1,hl2,hO⟩:=objects_n hwf (by omega) hck
  have hZ:=zones_c hwf (by omega) hck
  obtain ⟨hz1,hz2⟩:=srtS_c (zns x)
  obtain ⟨_,⟨l',z',a1,a2,a3,a4,a5,a6,rfl⟩,hNm⟩:=named_c hwf [] [] .nil .nil (by simp;omega) (by simp;omega)
  obtain rfl:l'=l:=srt_uniq ltNat a1 hl1 fun w=>by rw [a3,hl2];simp
  obtain rfl:z'=Go.Lib.compact (srtS (zns x)):=srt_uniq ltStr a2 hz1 fun w=>by rw [a4];exact (by simp:(w∈([]:List (List UInt8))∨w∈zns x)↔w∈zns x).trans (hz2 w).symm
  generalize Go.Lib.compact (srtS (zns x))=z at *
  have hll:l'.length<1000000:=by simp at a5;omega
  have hzl:z.length<1000000:=by simp at a6;omega
  have hpos:∀ v∈l',1≤v:=fun v hv=>objs_pos hwf v ((hl2 v).1 hv)
  have hNs:SSpec Tryz.prog 9 (eNn x l'.length (fun i=>l'.getD i 0) z.length (fun i=>z.getD i [])).2:=(hNm.spec0 rfl).conv_args fun ρ vs h=>by
   cases h with
   | cons _ v1 _ vs h1 h =>
   cases h with
   | cons _ v2 _ vs h2 h =>
   cases h with
   | cons _ v3 _ vs h3 h =>
   exact .cons _ _ _ _ h1 (.cons _ _ _ _ (nil_dsl _ _ h2) (.cons _ _ _ _ (nil_dsl _ _ h3) h))
  rw [c3_eq]
  have k2:=fun Q=>@W.run Sb Tryz.prog hm X0 hX0l [eRgt x true,eNn x l'.length (fun i=>l'.getD i 0) z.length (fun i=>z.getD i [])] (AllOk.mem ⟨hright.spec0 rfl,hNs,trivial⟩) T3 0 _ _ _ Q 100 [2,5,6,8,9,7] [0,1] _ (l_nam x f.nc ud f.na e l'.length (fun i=>l'.getD i 0) z.length (fun i=>z.getD i []))
  refine W.seq (k2 _ ?_)
  simp only [gX_iff]
  refine pdec_iff.2 fun fr M hv hM=>?_
  refine W.here (plnR2 x f.nc ud f.na e) (here2 (s:=t0 l'.length (fun i=>l'.getD i 0) z.length (fun i=>z.getD i []) .nilSlice) (by decide) rfl hv hM) ?_
  refine W.seq ?_
  rw [C8_eq]
  have k3:=fun Q=>@W.run Sb Tryz.prog hm X0 hX0l [] (fun _ h=>by cases h) T3 0 _ _ _ Q 100 [2,5,6,8,9,10,7] [0,1] _ (l_i0 x f.nc ud f.na e l'.length (fun i=>l'.getD i 0) z.length (fun i=>z.getD i []))
  refine W.seq (k3 _ (pdec_iff.2 fun fr M hv hM=>?_))
  refine lw_loop1 l' z hll (fun ks hks=>?_) (here2 (by decide) rfl hv hM)
  refine W.seq ?_
  rw [C13_eq]
  have k4:=fun Q=>@W.run Sb Tryz.prog hm X0 hX0l [] (fun _ h=>by cases h) T3 0 _ _ _ Q 100 [2,5,6,8,7,11,9] [0,1] _ (k2_i x f.nc ud f.na e l'.length (fun i=>l'.getD i 0) z.length (fun i=>z.getD i []) ks.length (fun i=>ks.getD i 0))
  refine W.seq (k4 _ (pdec_iff.2 fun fr M hv hM=>?_))
  refine lw_loop2 l' z ks hzl h2 (fun qs hqs=>?_) (here2 (by decide) rfl hv hM)
  have hMi:=missing_c (ud:=ud) (e:=e) h4 h2 hpos hll hzl hO hZ
  rw [← hks,← hqs] at hMi
  have hkl:ks.length≤1000000:=by rw [hks];exact Nat.le_trans (List.length_filter_le _ _) (by omega)
  have hql:qs.length≤1000000:=by rw [hqs];exact Nat.le_trans (List.length_filter_le _ _) (by omega)
  have k5:=@W.finRun Sb Tryz.prog hm X0 hX0l [eMi x f.nc ud f.na e ks.length (fun i=>ks.getD i 0) qs.length (fun i=>qs.getD i []),eOb x l'.length (fun i=>l'.getD i 0),eSI (idsA l'.length (fun i=>l'.getD i 0)) (idsA l'.length (fun i=>l'.getD i 0)),eZo x z.length (fun i=>z.getD i []),eSS (zsA z.length (fun i=>z.getD i [])) (zsA z.length (fun i=>z.getD i [])),eSI (idsA ks.length (fun i=>ks.getD i 0)) (idsA ks.length (fun i=>ks.getD i 0)),eSS (zsA qs.length (fun i=>qs.getD i [])) (zsA qs.length (fun i=>qs.getD i []))]
   (AllOk.mem ⟨hMi.spec0 rfl,hO.spec0 rfl,(same11 (by omega) _).spec0 rfl,hZ.spec0 rfl,(same13 (by omega) _).spec0 rfl,(same11 hkl _).spec0 rfl,(same13 hql _).spec0 rfl,trivial⟩) Tryz.f3 T3 0 _ _ _ [] (.bool true) 200 [] _ (l_end x f.nc ud f.na e l'.length (fun i=>l'.getD i 0) z.length (fun i=>z.getD i []) ks.length (fun i=>ks.getD i 0) qs.length (fun i=>qs.getD i []))
  refine k5 ?_
  simp only [gX_iff]
  exact tru 0
 ·rw [ieqf hc0] at hright
  have hO:BSim Tryz.prog 12 [exA x] [] [] (slA nD 0 []):=by
   have:=objects_c0 hc0 hck
   rwa [show (slA iD 0 []:AV)=slA nD 0 [] from slA_nat []] at this
  have hZ:=zones_c0 hc0 hck
  have hMi:=missing_c (l0:=[]) (z0:=[]) (ud:=ud) (e:=e) h4 h2 (fun v hv=>by cases hv) (by simp) (by simp) hO hZ
  have hSI:SSpec Tryz.prog 11 (eSI (idsA 0 (fun i=>[].getD i 0)) .nilSlice).2:=((same11 (n:=0) (Nat.zero_le _) (fun i=>[].getD i 0)).spec0 rfl).conv_args fun ρ vs h=>by
   cases h with
   | cons _ v1 _ vs h1 h =>
   cases h with
   | cons _ v2 _ vs h2 h =>
   exact .cons _ _ _ _ h1 (.cons _ _ _ _ (nil_dsl _ _ h2) h)
  have hSS:SSpec Tryz.prog 13 (eSS (zsA 0 (fun i=>[].getD i [])) .nilSlice).2:=((same13 (n:=0) (Nat.zero_le _) (fun i=>[].getD i [])).spec0 rfl).conv_args fun ρ vs h=>by
   cases h with
   | cons _ v1 _ vs h1 h =>
   cases h with
   | cons _ v2 _ vs h2 h =>
   exact .cons _ _ _ _ h1 (.cons _ _ _ _ (nil_dsl _ _ h2) h)
  have k5:=@W.finRun Sb Tryz.prog hm X0 hX0l [eRgt x false,eMi x f.nc ud f.na e 0 (fun i=>[].getD i 0) 0 (fun i=>[].getD i []),eOb x 0 (fun i=>[].getD i 0),eSI (idsA 0 (fun i=>[].getD i 0)) .nilSlice,eZo x 0 (fun i=>[].getD i []),eSS (zsA 0 (fun i=>[].getD i [])) .nilSlice,eSI (idsA 0 (fun i=>[].getD i 0)) .nilSlice,eSS (zsA 0 (fun i=>[].getD i [])) .nilSlice]
   (AllOk.mem ⟨hright.spec0 rfl,hMi.spec0 rfl,hO.spec0 rfl,hSI,hZ.spec0 rfl,hSS,hSI,hSS,trivial⟩) Tryz.f3 T3 0 _ _ _ [] (.bool true) 200 [] _ (l_bad x f.nc ud f.na e (fun i=>[].getD i 0) (fun i=>[].getD i []))
  refine k5 ?_
  simp only [gX_iff]
  exact tru 0
end
end Go.Proofs.YtodjhpjcgggamaaGreatDoor

namespace Go.Proofs.YtodjhpjcgggamaaGreatDoor
open Go Go.Eng Go.Vi Go.Knuth
section
local instance : Go.Eng.Mode := Sb
variable {H:Type} {enc:TypeId × Value→H} {W:World} {held:Bool}
theorem cell_at {W:World} {a:Addr} {v:Value} (h:W.cell? a=some v):∃ arr t fz,W.heap[a.block]? = some (.cells arr t fz)∧a.spot=none∧arr[a.off]? = some v:=by
 unfold World.cell? at h
 split at h
 ·rename_i arr t fz hb
  split at h
  ·cases h
  ·rename_i hs
   exact ⟨arr,t,fz,hb,by simpa using hs,h⟩
 ·cases h
theorem add_off (a:Addr) (n:Nat):(a.add n).off=a.off+n∧(a.add n).block=a.block:=by
 unfold Addr.add
 split
 ·rename_i h;subst h;simp
 ·simp
theorem cells_at {a:Addr} {i s:Nat} {cs:List Value} {arr:Array Value} {t:TypeId} {fz:Nat × Nat} (hb:W.heap[a.block]? = some (.cells arr t fz)) (h:W.cells? 0 (a.add (i*s)) s=some cs) :
  cs=(arr.toList.drop (a.off+i*s)).take s∧cs.length=s:=by
 obtain ⟨_,hl,hg⟩:=World.cells?_some h
 refine ⟨List.ext_getElem? fun j=>?_,hl⟩
 by_cases hj:j<s
 ·have h1:=hg j hj
  have h2:∃ v,cs[j]? = some v:=⟨cs[j]'(by omega),List.getElem?_eq_getElem _⟩
  obtain ⟨v,hv⟩:=h2
  rw [hv] at h1
  obtain ⟨arr',t',fz',hb',_,hv'⟩:=cell_at h1
  rw [(add_off _ _).2,(add_off _ _).2,hb] at hb'
  cases hb'
  rw [(add_off _ _).1,(add_off _ _).1] at hv'
  rw [hv,List.getElem?_take_of_lt hj,List.getElem?_drop,Array.getElem?_toList,hv']
 ·rw [List.getElem?_eq_none (by omega),List.getElem?_take_eq_none (by omega)]
theorem slice_at {P:Program} {n s:Nat} {e ty:TypeId} {cs:List Value} {x:DataW H × List MemPlace} (ht:P.underlying ty=some (.slice e)) (hs:P.cellsOf e=s) (hs0:0<s) (h:DataW.trod enc P W 0 (fun _=>true) held n ty cs=some x) :
  ∃ (v:Value) (len:Nat) (ds sp:List (DataW H)) (csi:Nat→List Value),cs=[v]∧ds.length=len∧((x.1=.nil∧len=0)∨x.1=.slice ds sp) ∧
   (∀ i,i<len→∃ m y,m<n∧ds[i]? = some y.1∧DataW.trod enc P W 0 (fun _=>true) held m e (csi i)=some y) ∧
   ∀ el:Nat→List Dat,(∀ i,i<len→DsRel (startEnv W).z (el i) (csi i))→DRel (startEnv W).z (.slice len s el) v:=by
 rcases DataW.trod_slice ht h with ⟨rfl,rfl⟩ | ⟨a,len,cap,elems,rest,n',rfl,rfl,rfl,_,hlc,_,hel,hread,hrest,_⟩
 ·exact ⟨_,0,[],[],fun _=>[],rfl,rfl,.inl ⟨rfl,rfl⟩,fun i hi=>absurd hi (by omega),fun el _=>.none _ _⟩
 rw [hs] at hread hrest
 by_cases hcap:cap=0
 ·obtain rfl:len=0:=by omega
  have:elems=[]:=List.eq_nil_of_length_eq_zero hel
  subst this
  exact ⟨_,0,[],rest.map (·.1),fun _=>[],rfl,rfl,.inr (by simp),fun i hi=>absurd hi (by omega),fun el _=>.empty _ _ _ _⟩
 have h0:∃ cs0,W.cells? 0 (a.add (0*s)) s=some cs0:=by
  by_cases hl:0<len
  ·have:=hread 0 hl
   rw [List.getElem?_eq_getElem (by omega)] at this
   obtain ⟨cs0,h1,_⟩:=Option.bind_eq_some_iff.1 this
   exact ⟨cs0,h1⟩
  ·obtain ⟨hr1,hr2⟩:=hrest rfl
   have:=hr2 0 (by omega)
   rw [List.getElem?_eq_getElem (by omega)] at this
   obtain ⟨cs0,h1,_⟩:=Option.bind_eq_some_iff.1 this
   obtain rfl:len=0:=by omega
   exact ⟨cs0,h1⟩
 obtain ⟨cs0,hc0⟩:=h0
 obtain ⟨_,hl0,hg0⟩:=World.cells?_some hc0
 have hc:=hg0 0 hs0
 rw [List.getElem?_eq_getElem (by omega),Nat.zero_mul] at hc
 have hadd:(a.add 0).add 0=a:=rfl
 rw [hadd] at hc
 obtain ⟨arr,t,fz,hb,hsp,hoff⟩:=cell_at hc
 have hlt:a.off<arr.size:=(Array.getElem?_eq_some_iff.1 hoff).1
 have ha:a=⟨a.block,a.off,none⟩:=by cases a;simp_all
 refine ⟨_,len,elems.map (·.1),rest.map (·.1),fun i=>(arr.toList.drop (a.off+i*s)).take s,rfl,by simpa using hel,.inr rfl,fun i hi=>?_,fun el hE=>?_⟩
 ·have:=hread i hi
  rw [List.getElem?_eq_getElem (by omega)] at this
  obtain ⟨cs',h1,h2⟩:=Option.bind_eq_some_iff.1 this
  obtain ⟨rfl,_⟩:=cells_at hb h1
  exact ⟨n',elems[i]'(by omega),by omega,by simp [show i<elems.length by omega],h2⟩
 ·rw [ha]
  refine .slice len s el a.block a.off cap arr.toList (startEnv_z hb) hlc ?_ hE
  by_cases hl:0<len
  ·have:=hread (len-1) (by omega)
   rw [List.getElem?_eq_getElem (by omega)] at this
   obtain ⟨cs',h1,_⟩:=Option.bind_eq_some_iff.1 this
   obtain ⟨h2,h3⟩:=cells_at hb h1
   rw [h2,List.length_take,List.length_drop] at h3
   have e:len*s=(len-1)*s+s:=by
    rw [← Nat.succ_mul]
    congr 1
    omega
   omega
  ·obtain rfl:len=0:=by omega
   simp;omega
theorem cl3:Tryz.prog.cellsOf 3=1:=by kernel_rfl
theorem cl4:Tryz.prog.cellsOf 4=1:=by kernel_rfl
theorem cl9:Tryz.prog.cellsOf 9=1:=by kernel_rfl
theorem cl23:Tryz.prog.cellsOf 23=2:=by kernel_rfl
theorem cl25:Tryz.prog.cellsOf 25=4:=by kernel_rfl
theorem cl26:Tryz.prog.cellsOf 26=1:=by kernel_rfl
theorem cl28:Tryz.prog.cellsOf 28=7:=by kernel_rfl
theorem un3:Tryz.prog.underlying 3=some (.int .i64):=by kernel_rfl
theorem un4:Tryz.prog.underlying 4=some .bool:=by kernel_rfl
def Light (t:TypeId) (d:DataW H):Prop:=∀ z∈d.weights Tryz.prog t,z≤reachBytes
theorem str_at {n:Nat} {cs:List Value} {x:DataW H × List MemPlace} (h:DataW.trod enc Tryz.prog W 0 (fun _=>true) held n 9 cs=some x) (hw:Light 9 x.1):∃ s:List UInt8,s.length≤reachBytes∧DsRel (startEnv W).z [sD s] cs:=by
 obtain ⟨b,rfl,rfl,_⟩:=DataW.trod_string Tryz.underlying9 h
 refine ⟨b.data.toList,hw _ (by simp [DataW.weights]),.cons _ _ _ _ (.str b.data.toList) .nil⟩
theorem bool_at {n:Nat} {cs:List Value} {x:DataW H × List MemPlace} (h:DataW.trod enc Tryz.prog W 0 (fun _=>true) held n 4 cs=some x):∃ b:Bool,DsRel (startEnv W).z [.bool b] cs:=by
 obtain ⟨b,rfl,rfl⟩:=DataW.trod_bool un4 h
 exact ⟨b,.cons _ _ _ _ (.bool b) .nil⟩
theorem int_at {n:Nat} {cs:List Value} {x:DataW H × List MemPlace} (h:DataW.trod enc Tryz.prog W 0 (fun _=>true) held n 3 cs=some x):∃ k:Int,inI64 k=true∧DsRel (startEnv W).z [.int .i64 k] cs:=by
 obtain ⟨k,rfl,rfl,hw⟩:=DataW.trod_int un3 h
 refine ⟨k,?_,.cons _ _ _ _ (.int .i64 k) .nil⟩
 simp [Lit.wf,IntKind.min,IntKind.max,IntKind.signed,IntKind.bits] at hw
 exact i64ok (by omega) (by omega)
theorem light_each {t:TypeId} {fs:Array Field} {parts:List (DataW H)} (ht:Tryz.prog.underlying t=some (.struct fs)) (h:Light t (.agg parts)):∀ (i:Nat) (f:Field) (d:DataW H),fs.toList[i]? = some f→parts[i]? = some d→Light f.type d:=by
 intro i f d hf hd z hz
 refine h z ?_
 have e:DataW.weights Tryz.prog t (.agg parts)=DataW.weightsEach Tryz.prog (fs.toList.map (·.type)) parts:=by simp [DataW.weights,ht]
 rw [e]
 clear e h ht
 generalize fs.toList=l at hf
 induction l generalizing i parts with
 | nil=>simp at hf
 | cons g l ih =>
  cases parts with
  | nil=>simp at hd
  | cons p parts =>
   simp only [List.map_cons,DataW.weightsEach,List.mem_append]
   cases i with
   | zero =>
    obtain rfl:=Option.some.inj hf
    obtain rfl:=Option.some.inj hd
    exact .inl hz
   | succ i=>exact .inr (ih i (by simpa using hd) (by simpa using hf))
theorem light_all {t e:TypeId} {ds sp:List (DataW H)} (ht:Tryz.prog.underlying t=some (.slice e)) (h:Light t (.slice ds sp)):∀ (i:Nat) (d:DataW H),ds[i]? = some d→Light e d:=by
 intro i d hd z hz
 refine h z ?_
 simp only [DataW.weights,ht,List.mem_cons,List.mem_append]
 refine .inr (.inl ?_)
 clear h ht
 induction ds generalizing i with
 | nil=>simp at hd
 | cons p ds ih =>
  simp only [DataW.weightsAll,List.mem_append]
  cases i with
  | zero=>obtain rfl:=Option.some.inj hd;exact .inl hz
  | succ i=>exact .inr (ih i (by simpa using hd))
theorem half_at {n:Nat} {cs:List Value} {x:DataW H × List MemPlace} (h:DataW.trod enc Tryz.prog W 0 (fun _=>true) held n 23 cs=some x) (hw:Light 23 x.1) :
  ∃ (b:Bool) (s:List UInt8),s.length≤reachBytes∧DsRel (startEnv W).z [.bool b,sD s] cs:=by
 obtain ⟨xs,m,_,rfl,hl,hx,hf⟩:=DataW.trod_struct Tryz.underlying23 h
 rw [cl23] at hl
 have hx:xs.length=2:=hx
 obtain ⟨y0,y1,rfl⟩:∃ y0 y1,xs=[y0,y1]:=by
  rcases xs with _ | ⟨y0,_ | ⟨y1,_ | ⟨y2,l⟩⟩⟩
  ·simp at hx
  ·simp at hx
  ·exact ⟨y0,y1,rfl⟩
  ·simp at hx
 obtain ⟨c0,c1,rfl⟩:∃ c0 c1,cs=[c0,c1]:=by
  rcases cs with _ | ⟨y0,_ | ⟨y1,_ | ⟨y2,l⟩⟩⟩
  ·simp at hl
  ·simp at hl
  ·exact ⟨y0,y1,rfl⟩
  ·simp at hl
 have f0:DataW.trod enc Tryz.prog W 0 (fun _=>true) held m 4 ((List.drop 0 [c0,c1]).take (Tryz.prog.cellsOf 4))=some y0:=hf 0 _ rfl
 have f1:DataW.trod enc Tryz.prog W 0 (fun _=>true) held m 9 ((List.drop 1 [c0,c1]).take (Tryz.prog.cellsOf 9))=some y1:=hf 1 _ rfl
 rw [cl4] at f0
 rw [cl9] at f1
 have l1:Light 9 y1.1:=light_each Tryz.underlying23 hw 1 _ _ rfl rfl
 obtain ⟨b,hb⟩:=bool_at (x:=y0) f0
 obtain ⟨s,hs,hs'⟩:=str_at (x:=y1) f1 l1
 exact ⟨b,s,hs,show DsRel _ ([.bool b]++[sD s]) ([c0]++[c1]) from DsRel.append hb hs'⟩
theorem num_at {n:Nat} {cs:List Value} {x:DataW H × List MemPlace} (h:DataW.trod enc Tryz.prog W 0 (fun _=>true) held n 25 cs=some x) (hw:Light 25 x.1) :
  ∃ r:Rt,r.mag.length≤reachBytes∧r.dmag.length≤reachBytes∧DsRel (startEnv W).z [.bool r.neg,sD r.mag,.bool r.dneg,sD r.dmag] cs:=by
 obtain ⟨xs,m,_,rfl,hl,hx,hf⟩:=DataW.trod_struct Tryz.underlying25 h
 rw [cl25] at hl
 have hx:xs.length=2:=hx
 obtain ⟨y0,y1,rfl⟩:∃ y0 y1,xs=[y0,y1]:=by
  rcases xs with _ | ⟨y0,_ | ⟨y1,_ | ⟨y2,l⟩⟩⟩
  ·simp at hx
  ·simp at hx
  ·exact ⟨y0,y1,rfl⟩
  ·simp at hx
 obtain ⟨c0,c1,c2,c3,rfl⟩:∃ c0 c1 c2 c3,cs=[c0,c1,c2,c3]:=by
  rcases cs with _ | ⟨y0,_ | ⟨y1,_ | ⟨y2,_ | ⟨y3,_ | ⟨y4,l⟩⟩⟩⟩⟩
  ·simp at hl
  ·simp at hl
  ·simp at hl
  ·simp at hl
  ·exact ⟨y0,y1,y2,y3,rfl⟩
  ·simp at hl
 have f0:DataW.trod enc Tryz.prog W 0 (fun _=>true) held m 23 ((List.drop 0 [c0,c1,c2,c3]).take (Tryz.prog.cellsOf 23))=some y0:=hf 0 _ rfl
 have f1:DataW.trod enc Tryz.prog W 0 (fun _=>true) held m 23 ((List.drop 2 [c0,c1,c2,c3]).take (Tryz.prog.cellsOf 23))=some y1:=hf 1 _ rfl
 rw [cl23] at f0 f1
 have l0:Light 23 y0.1:=light_each Tryz.underlying25 hw 0 _ _ rfl rfl
 have l1:Light 23 y1.1:=light_each Tryz.underlying25 hw 1 _ _ rfl rfl
 obtain ⟨b,s,hs,hb⟩:=half_at (x:=y0) f0 l0
 obtain ⟨b',s',hs',hb'⟩:=half_at (x:=y1) f1 l1
 exact ⟨⟨b,s,b',s'⟩,hs,hs',show DsRel _ ([.bool b,sD s]++[.bool b',sD s']) ([c0,c1]++[c2,c3]) from DsRel.append hb hb'⟩
theorem expr_at:∀ {n:Nat} {cs:List Value} {x:DataW H × List MemPlace},DataW.trod enc Tryz.prog W 0 (fun _=>true) held n 28 cs=some x→Light 28 x.1→∃ y:Ex,Fits y∧DsRel (startEnv W).z (exD y) cs:=by
 intro n
 induction n using Nat.strongRecOn with
 | _ n ih =>
 intro cs x h hw
 obtain ⟨xs,m,hm,rfl,hl,hx,hf⟩:=DataW.trod_struct Tryz.underlying28 h
 rw [cl28] at hl
 have hx:xs.length=4:=hx
 obtain ⟨y0,y1,y2,y3,rfl⟩:∃ y0 y1 y2 y3,xs=[y0,y1,y2,y3]:=by
  rcases xs with _ | ⟨y0,_ | ⟨y1,_ | ⟨y2,_ | ⟨y3,_ | ⟨y4,l⟩⟩⟩⟩⟩
  ·simp at hx
  ·simp at hx
  ·simp at hx
  ·simp at hx
  ·exact ⟨y0,y1,y2,y3,rfl⟩
  ·simp at hx
 obtain ⟨c0,c1,c2,c3,c4,c5,c6,rfl⟩:∃ c0 c1 c2 c3 c4 c5 c6,cs=[c0,c1,c2,c3,c4,c5,c6]:=by
  rcases cs with _ | ⟨y0,_ | ⟨y1,_ | ⟨y2,_ | ⟨y3,_ | ⟨y4,_ | ⟨y5,_ | ⟨y6,_ | ⟨y7,l⟩⟩⟩⟩⟩⟩⟩⟩
  ·simp at hl
  ·simp at hl
  ·simp at hl
  ·simp at hl
  ·simp at hl
  ·simp at hl
  ·simp at hl
  ·exact ⟨y0,y1,y2,y3,y4,y5,y6,rfl⟩
  ·simp at hl
 have f0:DataW.trod enc Tryz.prog W 0 (fun _=>true) held m 3 ((List.drop 0 [c0,c1,c2,c3,c4,c5,c6]).take (Tryz.prog.cellsOf 3))=some y0:=hf 0 _ rfl
 have f1:DataW.trod enc Tryz.prog W 0 (fun _=>true) held m 9 ((List.drop 1 [c0,c1,c2,c3,c4,c5,c6]).take (Tryz.prog.cellsOf 9))=some y1:=hf 1 _ rfl
 have f2:DataW.trod enc Tryz.prog W 0 (fun _=>true) held m 25 ((List.drop 2 [c0,c1,c2,c3,c4,c5,c6]).take (Tryz.prog.cellsOf 25))=some y2:=hf 2 _ rfl
 have f3:DataW.trod enc Tryz.prog W 0 (fun _=>true) held m 26 ((List.drop 6 [c0,c1,c2,c3,c4,c5,c6]).take (Tryz.prog.cellsOf 26))=some y3:=hf 3 _ rfl
 rw [cl3] at f0
 rw [cl9] at f1
 rw [cl25] at f2
 rw [cl26] at f3
 have l1:Light 9 y1.1:=light_each Tryz.underlying28 hw 1 _ _ rfl rfl
 have l2:Light 25 y2.1:=light_each Tryz.underlying28 hw 2 _ _ rfl rfl
 have l3:Light 26 y3.1:=light_each Tryz.underlying28 hw 3 _ _ rfl rfl
 obtain ⟨o,_,ho⟩:=int_at (x:=y0) f0
 obtain ⟨nm,_,hn⟩:=str_at (x:=y1) f1 l1
 obtain ⟨r,hr1,hr2,hr⟩:=num_at (x:=y2) f2 l2
 obtain ⟨v,len,ds,sp,csi,hv,hdl,hd,hread,hmk⟩:=slice_at Tryz.underlying26 cl28 (by omega) (x:=y3) f3
 have hv:c6=v:=(List.cons.inj hv).1
 have hsub:∀ i,∃ y:Ex,Fits y∧(i<len→DsRel (startEnv W).z (exD y) (csi i)):=fun i=>by
  by_cases hi:i<len
  ·obtain ⟨m',y,hlt,hy,ht⟩:=hread i hi
   have hlight:Light 28 y.1:=by
    rcases hd with ⟨_,h0⟩ | hd
    ·omega
    ·rw [hd] at l3
     exact light_all Tryz.underlying26 l3 i _ hy
   obtain ⟨z,hz,hz'⟩:=ih m' (by omega) ht hlight
   exact ⟨z,hz,fun _=>hz'⟩
  ·exact ⟨.mk 0 [] Rt.zero [],.mk _ _ _ _ (by decide) (fun y hy=>by cases hy),fun h=>absurd h hi⟩
 let args:List Ex:=(List.range len).map fun i=>(hsub i).choose
 have hal:args.length=len:=by simp [args]
 refine ⟨.mk o nm r args,.mk _ _ _ _ ?_ ?_,?_⟩
 ·have:reachBytes<2305843009213693952:=by decide
  omega
 ·intro y hy
  obtain ⟨i,_,rfl⟩:=List.mem_map.1 hy
  exact (hsub i).choose_spec.1
 ·have hs:DRel (startEnv W).z (.slice args.length 7 (Ex.el (.mk o nm r args))) c6:=by
   rw [hal,hv]
   refine hmk _ fun i hi=>?_
   have e:Ex.el (.mk o nm r args) i=exD (hsub i).choose:=by
    rw [el_eq]
    show (args.map exD).getD i []=_
    simp [args,hi]
   rw [e]
   exact (hsub i).choose_spec.2 hi
  show DsRel _ ([.int .i64 o]++([sD nm]++([.bool r.neg,sD r.mag,.bool r.dneg,sD r.dmag]++[.slice args.length 7 (Ex.el (.mk o nm r args))]))) ([c0]++([c1]++([c2,c3,c4,c5]++[c6])))
  exact DsRel.append ho (DsRel.append hn (DsRel.append hr (.cons _ _ _ _ hs .nil)))
theorem cl5:Tryz.prog.cellsOf 5=1:=by kernel_rfl
theorem cl32:Tryz.prog.cellsOf 32=2:=by kernel_rfl
theorem cl29:Tryz.prog.cellsOf 29=1:=by kernel_rfl
theorem cl30:Tryz.prog.cellsOf 30=1:=by kernel_rfl
theorem cl66:Tryz.prog.cellsOf 66=1:=by kernel_rfl
theorem cl68:Tryz.prog.cellsOf 68=4:=by kernel_rfl
theorem cl107:Tryz.prog.cellsOf 107=9:=by kernel_rfl
theorem cl137:Tryz.prog.cellsOf 137=4:=by kernel_rfl
theorem by68:Tryz.prog.bytesOf 68=32:=by kernel_rfl
theorem un5:Tryz.prog.underlying 5=some (.int .u8):=by kernel_rfl
theorem u8_at {n:Nat} {cs:List Value} {x:DataW H × List MemPlace} (h:DataW.trod enc Tryz.prog W 0 (fun _=>true) held n 5 cs=some x):∃ k:Nat,k<256∧DsRel (startEnv W).z [.int .u8 (.ofNat k)] cs:=by
 obtain ⟨k,rfl,rfl,hw⟩:=DataW.trod_int un5 h
 simp [Lit.wf,IntKind.min,IntKind.max,IntKind.signed,IntKind.bits] at hw
 obtain ⟨m,rfl⟩:∃ m:Nat,k=.ofNat m:=⟨k.toNat,by simp only [Int.ofNat_eq_natCast];omega⟩
 exact ⟨m,by simp only [Int.ofNat_eq_natCast] at hw;omega,.cons _ _ _ _ (.int .u8 _) .nil⟩
theorem step_at {n:Nat} {cs:List Value} {x:DataW H × List MemPlace} (h:DataW.trod enc Tryz.prog W 0 (fun _=>true) held n 137 cs=some x):∃ s:Stp,DsRel (startEnv W).z (stD s) cs:=by
 obtain ⟨xs,m,_,rfl,hl,hx,hf⟩:=DataW.trod_struct Tryz.underlying137 h
 rw [cl137] at hl
 have hx:xs.length=4:=hx
 obtain ⟨y0,y1,y2,y3,rfl⟩:∃ y0 y1 y2 y3,xs=[y0,y1,y2,y3]:=by
  rcases xs with _ | ⟨y0,_ | ⟨y1,_ | ⟨y2,_ | ⟨y3,_ | ⟨y4,l⟩⟩⟩⟩⟩
  ·simp at hx
  ·simp at hx
  ·simp at hx
  ·simp at hx
  ·exact ⟨y0,y1,y2,y3,rfl⟩
  ·simp at hx
 obtain ⟨c0,c1,c2,c3,rfl⟩:∃ c0 c1 c2 c3,cs=[c0,c1,c2,c3]:=by
  rcases cs with _ | ⟨c0,_ | ⟨c1,_ | ⟨c2,_ | ⟨c3,_ | ⟨c4,l⟩⟩⟩⟩⟩
  ·simp at hl
  ·simp at hl
  ·simp at hl
  ·simp at hl
  ·exact ⟨c0,c1,c2,c3,rfl⟩
  ·simp at hl
 have f0:DataW.trod enc Tryz.prog W 0 (fun _=>true) held m 5 ((List.drop 0 [c0,c1,c2,c3]).take (Tryz.prog.cellsOf 5))=some y0:=hf 0 _ rfl
 rw [cl5] at f0
 have f1:DataW.trod enc Tryz.prog W 0 (fun _=>true) held m 5 ((List.drop 1 [c0,c1,c2,c3]).take (Tryz.prog.cellsOf 5))=some y1:=hf 1 _ rfl
 rw [cl5] at f1
 have f2:DataW.trod enc Tryz.prog W 0 (fun _=>true) held m 5 ((List.drop 2 [c0,c1,c2,c3]).take (Tryz.prog.cellsOf 5))=some y2:=hf 2 _ rfl
 rw [cl5] at f2
 have f3:DataW.trod enc Tryz.prog W 0 (fun _=>true) held m 5 ((List.drop 3 [c0,c1,c2,c3]).take (Tryz.prog.cellsOf 5))=some y3:=hf 3 _ rfl
 rw [cl5] at f3
 obtain ⟨k0,_,h0⟩:=u8_at (x:=y0) f0
 obtain ⟨k1,_,h1⟩:=u8_at (x:=y1) f1
 obtain ⟨k2,_,h2⟩:=u8_at (x:=y2) f2
 obtain ⟨k3,_,h3⟩:=u8_at (x:=y3) f3
 exact ⟨⟨k0,k1,k2,k3⟩,show DsRel _ ([.int .u8 (.ofNat k0)]++([.int .u8 (.ofNat k1)]++([.int .u8 (.ofNat k2)]++[.int .u8 (.ofNat k3)]))) ([c0]++([c1]++([c2]++[c3]))) from DsRel.append h0 (DsRel.append h1 (DsRel.append h2 h3))⟩
theorem area_at {n:Nat} {cs:List Value} {x:DataW H × List MemPlace} (h:DataW.trod enc Tryz.prog W 0 (fun _=>true) held n 107 cs=some x):∃ a:Area,a.k<256∧DsRel (startEnv W).z (areaD a) cs:=by
 obtain ⟨xs,m,_,rfl,hl,hx,hf⟩:=DataW.trod_struct Tryz.underlying107 h
 rw [cl107] at hl
 have hx:xs.length=9:=hx
 obtain ⟨y0,y1,y2,y3,y4,y5,y6,y7,y8,rfl⟩:∃ y0 y1 y2 y3 y4 y5 y6 y7 y8,xs=[y0,y1,y2,y3,y4,y5,y6,y7,y8]:=by
  rcases xs with _ | ⟨y0,_ | ⟨y1,_ | ⟨y2,_ | ⟨y3,_ | ⟨y4,_ | ⟨y5,_ | ⟨y6,_ | ⟨y7,_ | ⟨y8,_ | ⟨y9,l⟩⟩⟩⟩⟩⟩⟩⟩⟩⟩
  ·simp at hx
  ·simp at hx
  ·simp at hx
  ·simp at hx
  ·simp at hx
  ·simp at hx
  ·simp at hx
  ·simp at hx
  ·simp at hx
  ·exact ⟨y0,y1,y2,y3,y4,y5,y6,y7,y8,rfl⟩
  ·simp at hx
 obtain ⟨c0,c1,c2,c3,c4,c5,c6,c7,c8,rfl⟩:∃ c0 c1 c2 c3 c4 c5 c6 c7 c8,cs=[c0,c1,c2,c3,c4,c5,c6,c7,c8]:=by
  rcases cs with _ | ⟨c0,_ | ⟨c1,_ | ⟨c2,_ | ⟨c3,_ | ⟨c4,_ | ⟨c5,_ | ⟨c6,_ | ⟨c7,_ | ⟨c8,_ | ⟨c9,l⟩⟩⟩⟩⟩⟩⟩⟩⟩⟩
  ·simp at hl
  ·simp at hl
  ·simp at hl
  ·simp at hl
  ·simp at hl
  ·simp at hl
  ·simp at hl
  ·simp at hl
  ·simp at hl
  ·exact ⟨c0,c1,c2,c3,c4,c5,c6,c7,c8,rfl⟩
  ·simp at hl
 have f0:DataW.trod enc Tryz.prog W 0 (fun _=>true) held m 5 ((List.drop 0 [c0,c1,c2,c3,c4,c5,c6,c7,c8]).take (Tryz.prog.cellsOf 5))=some y0:=hf 0 _ rfl
 rw [cl5] at f0
 have f1:DataW.trod enc Tryz.prog W 0 (fun _=>true) held m 5 ((List.drop 1 [c0,c1,c2,c3,c4,c5,c6,c7,c8]).take (Tryz.prog.cellsOf 5))=some y1:=hf 1 _ rfl
 rw [cl5] at f1
 have f2:DataW.trod enc Tryz.prog W 0 (fun _=>true) held m 5 ((List.drop 2 [c0,c1,c2,c3,c4,c5,c6,c7,c8]).take (Tryz.prog.cellsOf 5))=some y2:=hf 2 _ rfl
 rw [cl5] at f2
 have f3:DataW.trod enc Tryz.prog W 0 (fun _=>true) held m 5 ((List.drop 3 [c0,c1,c2,c3,c4,c5,c6,c7,c8]).take (Tryz.prog.cellsOf 5))=some y3:=hf 3 _ rfl
 rw [cl5] at f3
 have f4:DataW.trod enc Tryz.prog W 0 (fun _=>true) held m 5 ((List.drop 4 [c0,c1,c2,c3,c4,c5,c6,c7,c8]).take (Tryz.prog.cellsOf 5))=some y4:=hf 4 _ rfl
 rw [cl5] at f4
 have f5:DataW.trod enc Tryz.prog W 0 (fun _=>true) held m 5 ((List.drop 5 [c0,c1,c2,c3,c4,c5,c6,c7,c8]).take (Tryz.prog.cellsOf 5))=some y5:=hf 5 _ rfl
 rw [cl5] at f5
 have f6:DataW.trod enc Tryz.prog W 0 (fun _=>true) held m 5 ((List.drop 6 [c0,c1,c2,c3,c4,c5,c6,c7,c8]).take (Tryz.prog.cellsOf 5))=some y6:=hf 6 _ rfl
 rw [cl5] at f6
 have f7:DataW.trod enc Tryz.prog W 0 (fun _=>true) held m 5 ((List.drop 7 [c0,c1,c2,c3,c4,c5,c6,c7,c8]).take (Tryz.prog.cellsOf 5))=some y7:=hf 7 _ rfl
 rw [cl5] at f7
 have f8:DataW.trod enc Tryz.prog W 0 (fun _=>true) held m 5 ((List.drop 8 [c0,c1,c2,c3,c4,c5,c6,c7,c8]).take (Tryz.prog.cellsOf 5))=some y8:=hf 8 _ rfl
 rw [cl5] at f8
 obtain ⟨k0,b0,h0⟩:=u8_at (x:=y0) f0
 obtain ⟨k1,b1,h1⟩:=u8_at (x:=y1) f1
 obtain ⟨k2,b2,h2⟩:=u8_at (x:=y2) f2
 obtain ⟨k3,b3,h3⟩:=u8_at (x:=y3) f3
 obtain ⟨k4,b4,h4⟩:=u8_at (x:=y4) f4
 obtain ⟨k5,b5,h5⟩:=u8_at (x:=y5) f5
 obtain ⟨k6,b6,h6⟩:=u8_at (x:=y6) f6
 obtain ⟨k7,b7,h7⟩:=u8_at (x:=y7) f7
 obtain ⟨k8,b8,h8⟩:=u8_at (x:=y8) f8
 exact ⟨⟨k0,k1,k2,k3,k4,k5,k6,k7,k8⟩,b0,show DsRel _ ([.int .u8 (.ofNat k0)]++([.int .u8 (.ofNat k1)]++([.int .u8 (.ofNat k2)]++([.int .u8 (.ofNat k3)]++([.int .u8 (.ofNat k4)]++([.int .u8 (.ofNat k5)]++([.int .u8 (.ofNat k6)]++([.int .u8 (.ofNat k7)]++([.int .u8 (.ofNat k8)]))))))))) ([c0]++([c1]++([c2]++([c3]++([c4]++([c5]++([c6]++([c7]++([c8]))))))))) from DsRel.append h0 (DsRel.append h1 (DsRel.append h2 (DsRel.append h3 (DsRel.append h4 (DsRel.append h5 (DsRel.append h6 (DsRel.append h7 (h8))))))))⟩
theorem car_at {n:Nat} {cs:List Value} {x:DataW H × List MemPlace} (h:DataW.trod enc Tryz.prog W 0 (fun _=>true) held n 68 cs=some x):∃ c:Car,DsRel (startEnv W).z (carD c) cs:=by
 obtain ⟨xs,m,_,rfl,hl,hx,hf⟩:=DataW.trod_struct Tryz.underlying68 h
 rw [cl68] at hl
 have hx:xs.length=4:=hx
 obtain ⟨y0,y1,y2,y3,rfl⟩:∃ y0 y1 y2 y3,xs=[y0,y1,y2,y3]:=by
  rcases xs with _ | ⟨y0,_ | ⟨y1,_ | ⟨y2,_ | ⟨y3,_ | ⟨y4,l⟩⟩⟩⟩⟩
  ·simp at hx
  ·simp at hx
  ·simp at hx
  ·simp at hx
  ·exact ⟨y0,y1,y2,y3,rfl⟩
  ·simp at hx
 obtain ⟨c0,c1,c2,c3,rfl⟩:∃ c0 c1 c2 c3,cs=[c0,c1,c2,c3]:=by
  rcases cs with _ | ⟨c0,_ | ⟨c1,_ | ⟨c2,_ | ⟨c3,_ | ⟨c4,l⟩⟩⟩⟩⟩
  ·simp at hl
  ·simp at hl
  ·simp at hl
  ·simp at hl
  ·exact ⟨c0,c1,c2,c3,rfl⟩
  ·simp at hl
 have f0:DataW.trod enc Tryz.prog W 0 (fun _=>true) held m 5 ((List.drop 0 [c0,c1,c2,c3]).take (Tryz.prog.cellsOf 5))=some y0:=hf 0 _ rfl
 rw [cl5] at f0
 have f1:DataW.trod enc Tryz.prog W 0 (fun _=>true) held m 5 ((List.drop 1 [c0,c1,c2,c3]).take (Tryz.prog.cellsOf 5))=some y1:=hf 1 _ rfl
 rw [cl5] at f1
 have f2:DataW.trod enc Tryz.prog W 0 (fun _=>true) held m 5 ((List.drop 2 [c0,c1,c2,c3]).take (Tryz.prog.cellsOf 5))=some y2:=hf 2 _ rfl
 rw [cl5] at f2
 have f3:DataW.trod enc Tryz.prog W 0 (fun _=>true) held m 66 ((List.drop 3 [c0,c1,c2,c3]).take (Tryz.prog.cellsOf 66))=some y3:=hf 3 _ rfl
 rw [cl66] at f3
 obtain ⟨k0,b0,h0⟩:=u8_at (x:=y0) f0
 obtain ⟨k1,b1,h1⟩:=u8_at (x:=y1) f1
 obtain ⟨k2,b2,h2⟩:=u8_at (x:=y2) f2
 obtain ⟨v,len,ds,sp,csi,hv,hdl,hd,hread,hmk⟩:=slice_at Tryz.underlying66 cl137 (by omega) (x:=y3) f3
 have hv:c3=v:=(List.cons.inj hv).1
 have hsub:∀ i,∃ s:Stp,i<len→DsRel (startEnv W).z (stD s) (csi i):=fun i=>by
  by_cases hi:i<len
  ·obtain ⟨m',y,hlt,hy,ht⟩:=hread i hi
   obtain ⟨s,hs⟩:=step_at ht
   exact ⟨s,fun _=>hs⟩
  ·exact ⟨⟨0,0,0,0⟩,fun h=>absurd h hi⟩
 have hs:DRel (startEnv W).z (.slice len 4 (fun i=>stD (hsub i).choose)) c3:=by
  rw [hv]
  exact hmk _ fun i hi=>(hsub i).choose_spec hi
 exact ⟨⟨k0,k1,k2,len,fun i=>(hsub i).choose⟩,show DsRel _ ([.int .u8 (.ofNat k0)]++([.int .u8 (.ofNat k1)]++([.int .u8 (.ofNat k2)]++[.slice len 4 (fun i=>stD (hsub i).choose)]))) ([c0]++([c1]++([c2]++[c3]))) from DsRel.append h0 (DsRel.append h1 (DsRel.append h2 (.cons _ _ _ _ hs .nil)))⟩
theorem fleet_at {n:Nat} {cs:List Value} {x:DataW H × List MemPlace} (h:DataW.trod enc Tryz.prog W 0 (fun _=>true) held n 32 cs=some x) (hw:Light 32 x.1):∃ f:Fleet,f.nc≤reachBytes∧(∀ i,(f.a i).k<256)∧DsRel (startEnv W).z [.slice f.nc 4 (fun i=>carD (f.c i)),.slice f.na 9 (fun i=>areaD (f.a i))] cs:=by
 obtain ⟨xs,m,_,rfl,hl,hx,hf⟩:=DataW.trod_struct Tryz.underlying32 h
 rw [cl32] at hl
 have hx:xs.length=2:=hx
 obtain ⟨y0,y1,rfl⟩:∃ y0 y1,xs=[y0,y1]:=by
  rcases xs with _ | ⟨y0,_ | ⟨y1,_ | ⟨y2,l⟩⟩⟩
  ·simp at hx
  ·simp at hx
  ·exact ⟨y0,y1,rfl⟩
  ·simp at hx
 obtain ⟨c0,c1,rfl⟩:∃ c0 c1,cs=[c0,c1]:=by
  rcases cs with _ | ⟨c0,_ | ⟨c1,_ | ⟨c2,l⟩⟩⟩
  ·simp at hl
  ·simp at hl
  ·exact ⟨c0,c1,rfl⟩
  ·simp at hl
 have f0:DataW.trod enc Tryz.prog W 0 (fun _=>true) held m 29 ((List.drop 0 [c0,c1]).take (Tryz.prog.cellsOf 29))=some y0:=hf 0 _ rfl
 rw [cl29] at f0
 have f1:DataW.trod enc Tryz.prog W 0 (fun _=>true) held m 30 ((List.drop 1 [c0,c1]).take (Tryz.prog.cellsOf 30))=some y1:=hf 1 _ rfl
 rw [cl30] at f1
 have l0:Light 29 y0.1:=light_each Tryz.underlying32 hw 0 _ _ rfl rfl
 obtain ⟨v,len,ds,sp,csi,hv,hdl,hd,hread,hmk⟩:=slice_at Tryz.underlying29 cl68 (by omega) (x:=y0) f0
 obtain ⟨v',len',ds',sp',csi',hv',hdl',hd',hread',hmk'⟩:=slice_at Tryz.underlying30 cl107 (by omega) (x:=y1) f1
 have hv:c0=v:=(List.cons.inj hv).1
 have hv':c1=v':=(List.cons.inj hv').1
 have hlen:len≤reachBytes:=by
  rcases hd with ⟨_,h0⟩ | hd
  ·omega
  ·rw [hd] at l0
   have:=l0 ((ds.length+sp.length)*Tryz.prog.bytesOf 68) (by simp [DataW.weights,Tryz.underlying29])
   rw [by68,hdl] at this
   omega
 have hsub:∀ i,∃ s:Car,i<len→DsRel (startEnv W).z (carD s) (csi i):=fun i=>by
  by_cases hi:i<len
  ·obtain ⟨m',y,hlt,hy,ht⟩:=hread i hi
   obtain ⟨s,hs⟩:=car_at ht
   exact ⟨s,fun _=>hs⟩
  ·exact ⟨⟨0,0,0,0,fun _=>⟨0,0,0,0⟩⟩,fun h=>absurd h hi⟩
 have hsub':∀ i,∃ s:Area,s.k<256∧(i<len'→DsRel (startEnv W).z (areaD s) (csi' i)):=fun i=>by
  by_cases hi:i<len'
  ·obtain ⟨m',y,hlt,hy,ht⟩:=hread' i hi
   obtain ⟨s,h1,hs⟩:=area_at ht
   exact ⟨s,h1,fun _=>hs⟩
  ·exact ⟨⟨0,0,0,0,0,0,0,0,0⟩,by decide,fun h=>absurd h hi⟩
 have hs:DRel (startEnv W).z (.slice len 4 (fun i=>carD (hsub i).choose)) c0:=by
  rw [hv]
  exact hmk _ fun i hi=>(hsub i).choose_spec hi
 have hs':DRel (startEnv W).z (.slice len' 9 (fun i=>areaD (hsub' i).choose)) c1:=by
  rw [hv']
  exact hmk' _ fun i hi=>(hsub' i).choose_spec.2 hi
 exact ⟨⟨len,fun i=>(hsub i).choose,len',fun i=>(hsub' i).choose⟩,hlen,fun i=>(hsub' i).choose_spec.1,.cons _ _ _ _ hs (.cons _ _ _ _ hs' .nil)⟩
end
end Go.Proofs.YtodjhpjcgggamaaGreatDoor

namespace Go.Proofs.YtodjhpjcgggamaaGreatDoor
open Go Go.ChangeShapes Go.WideShapes Go.ChangeAt Go.RowKit Go.Eng Go.Vi
section
local instance : Go.Eng.Mode := Sb
theorem own:ownKnob Tryz.prog.godebug=none:=by kernel_rfl
theorem laidOut:laidOutB Tryz.prog=true:=by kernel_rfl
theorem u4:Tryz.prog.underlying 4=some .bool:=by kernel_rfl
theorem params3:Tryz.f3.params=#[28,32]:=by kernel_rfl
theorem results3:Tryz.f3.resultTypes=#[4]:=by kernel_rfl
set_option maxRecDepth 100000 in
theorem contract (H:Type) (enc:TypeId × Value→H) (W:World) (base:Nat) (args:Array Value) (ds gs:List (DataW H)) (before:List MemPlace)
  (hval:∀ (j:Nat) t v,Tryz.f3.params[j]? = some t→args[j]? = some v→Value.okWide Tryz.prog W .any base t v)
  (hW:DataW.Whole enc Tryz.prog Tryz.f3.params.toList Rows.typesNamedSpec.vars false W args.toList ds gs before) (vt:List TypeId)
  (hwt:(DataW.weightsEach Tryz.prog (Tryz.f3.params.toList++vt) (ds++gs)).all (·≤reachBytes)=true) :
  Calls Tryz.prog 3 args W fun e W'=>∃ v,e=.returned v∧Rows.typesNamedSpec.post enc Tryz.prog Tryz.f3 false true false false W args v W':=by
 have hW':=hW
 obtain ⟨p,q,hA0,hV,rfl,hfz,hnd⟩:=hW
 have hA:DataW.TrodAll enc Tryz.prog W 0 (fun _=>true) true Tryz.f3.params.toList args.toList ds p:=hA0
 rw [params3] at hA hval hwt
 obtain ⟨v0,v1,d0,d1,p0,p1,rfl,rfl,rfl,h0,h1⟩:=trodAll_two hA
 obtain ⟨rfl,rfl⟩:=trodVars_none hV
 have k0:=h0
 have k1:=h1
 have hl0:Light 28 d0:=fun z hz=>by
  have:=List.all_eq_true.1 hwt z (by
   show z∈DataW.weightsEach Tryz.prog (28::([32]++vt)) (d0::([d1]++[]))
   simp only [DataW.weightsEach,List.mem_append]
   exact .inl hz)
  simpa using this
 have hl1:Light 32 d1:=fun z hz=>by
  have:=List.all_eq_true.1 hwt z (by
   show z∈DataW.weightsEach Tryz.prog (28::32::vt) (d0::d1::[])
   simp only [DataW.weightsEach,List.mem_append]
   exact .inr (.inl hz))
  simpa using this
 have hq:∃ cs,v0=.agg cs:=by
  have:=hval 0 28 v0 rfl rfl
  simp only [Value.okWide,Tryz.underlying28] at this
  obtain ⟨cs,rfl,_⟩:=this
  exact ⟨cs,rfl⟩
 have hq':∃ cs,v1=.agg cs:=by
  have:=hval 1 32 v1 rfl rfl
  simp only [Value.okWide,Tryz.underlying32] at this
  obtain ⟨cs,rfl,_⟩:=this
  exact ⟨cs,rfl⟩
 obtain ⟨cs,rfl⟩:=hq
 obtain ⟨cs',rfl⟩:=hq'
 obtain ⟨fuel,hfuel⟩:=h0
 obtain ⟨fuel',hfuel'⟩:=h1
 obtain ⟨y,hy,hds⟩:=expr_at (cs:=cs.toList) hfuel hl0
 obtain ⟨f,hn,hk,hds'⟩:=fleet_at (cs:=cs'.toList) hfuel' hl1
 clear hA0 hA
 simp only [List.append_nil] at hW'
 have hlt:∀ x∈p0++p1,x.block<W.heap.size:=fun x hx=>hW'.lt x (by simpa using hx)
 have hb:reachBytes<4611686018427387904:=by decide
 refine ((named_law hy f (Nat.lt_of_le_of_lt hn hb) hk).calls ok3 rfl W #[.agg cs,.agg cs'] (.cons _ _ _ _ (.agg _ _ (DsRel.toAVs hds)) (.cons _ _ _ _ (.agg _ _ (DsRel.toAVs hds')) .nil))).mono fun e W' he=>?_
 obtain ⟨ρ',cv,rfl,hcv,hbl⟩:=he
 cases hcv
 exact ⟨_,rfl,_,_,_,[],_,[],hW',trodAll_mk1 (shut_bool u4 _),
  trodAll_mk2 (Below.trod laidOut (by kernel_rfl) (of_decide_eq_true (by kernel_rfl)) k0 hbl (fun x hx=>hlt x (by simp [hx]))) (Below.trod laidOut (by kernel_rfl) (of_decide_eq_true (by kernel_rfl)) k1 hbl (fun x hx=>hlt x (by simp [hx]))),rfl,hbl.frame _,fun h=>by cases h⟩
def args0:Array Value:=#[.agg #[.int .i64 0,.string ⟨#[]⟩,.bool false,.string ⟨#[]⟩,.bool false,.string ⟨#[]⟩,.slice none 0 0],.agg #[.slice none 0 0,.slice none 0 0]]
theorem laid_met (os:Os):laidMet Tryz.prog Rows.typesNamedRow.laid ((World.laidAll Tryz.prog os Rows.typesNamedRow.laid).forCall (fun _ _=>0) ⟨#[],args0,[]⟩).memory :=
 laidMet_laidAll _ (by kernel_rfl) (by kernel_rfl)
theorem reads (os:Os) {H:Type} (enc:TypeId × Value→H):∃ places,DataW.whole enc Tryz.prog ((World.laidAll Tryz.prog os Rows.typesNamedRow.laid).forCall (fun _ _=>0) ⟨#[],args0,[]⟩).memory Tryz.f3.params.toList Rows.typesNamedSpec.vars false args0.toList 8 =
  some ([.agg [.lit (.int .i64 0),.lit (.string []),.agg [.agg [.lit (.bool false),.lit (.string [])],.agg [.lit (.bool false),.lit (.string [])]],.nil],.agg [.nil,.nil]],[],places) :=
 ⟨[],by kernel_rfl⟩
set_option maxRecDepth 100000 in
theorem lifted (os:Os) (started:os.Started) (H:Type) (enc:TypeId × Value→H) (F:Stop.Interp) :
  ReturnsInHanded {} Tryz.checked os 3 .any ((OpenSpec.ofChange Rows.typesNamedSpec).preRow enc Tryz.prog Tryz.f3 Rows.typesNamedRow.domain false Rows.typesNamedRow.laid) (((OpenSpec.ofChange Rows.typesNamedSpec).at F).post enc Tryz.prog Tryz.f3 false true false false):=by
 obtain ⟨places,hx⟩:=reads os enc
 refine returnsInHanded_of_row (C:=Tryz.checked) (s:=OpenSpec.ofChange Rows.typesNamedSpec) own started (by kernel_rfl) Tryz.func3
  (witness_row_at (enc:=enc) (C:=Tryz.checked) false (World.laidAll Tryz.prog os Rows.typesNamedRow.laid) args0 (World.laidAll_os _ _ _) (by kernel_rfl) (by kernel_rfl) (by kernel_rfl)
   (OpenSpec.preRow_of_cond 8 hx (by kernel_rfl) (fun k hk=>by cases hk) (by kernel_rfl) (laid_met os))) ?_
 intro W base args ds gs before hval hW _ _ hwt _ _ _
 exact contract H enc W base args ds gs before hval hW _ hwt
theorem said:Rows.TypesNamedSaid :=
 OpenClaim.holds_of_cond 3 Tryz.f3 rfl rfl rfl rfl rfl rfl rfl ⟨rfl,rfl,rfl,rfl,rfl⟩ rfl rfl rfl rfl rfl (by kernel_rfl) Tryz.func3 (by kernel_rfl)
  (of_decide_eq_true (by kernel_rfl)) (by unfold Func.isWrapper;first | (rw [if_pos (by decide +kernel)];kernel_rfl) | (rw [if_neg (by decide +kernel)];exact ⟨rfl,rfl⟩))
  (fun os started H enc _ F=>by rw [OpenClaim.pre_eq_preRow];exact lifted os started H enc F)
theorem plain (f:FuncId) (fn:Func) (hf:Tryz.pinned.checked.prog.funcNamed "viator/viatorlaw44.TypesNamed"=some f) (hfn:Tryz.pinned.checked.prog.funcs[f]? = some fn) :
  false=Tryz.pinned.checked.prog.looks []∧∀ (j:Nat) t,fn.params[j]? = some t→Tryz.pinned.checked.prog.wantsStandIn t=false:=by
 obtain rfl:f=3:=Option.some.inj ((show Tryz.prog.funcNamed "viator/viatorlaw44.TypesNamed"=some 3 by kernel_rfl).symm.trans hf) |>.symm
 obtain rfl:fn=Tryz.f3:=(Option.some.inj (Tryz.func3.symm.trans hfn)).symm
 refine ⟨by kernel_rfl,fun j t ht=>?_⟩
 rw [params3] at ht
 have:t=28∨t=32:=by simpa using Array.mem_of_getElem? ht
 rcases this with rfl | rfl
 ·exact (show Tryz.prog.wantsStandIn 28=false by kernel_rfl)
 ·exact (show Tryz.prog.wantsStandIn 32=false by kernel_rfl)
theorem card:Rows.TypesNamedCardSaid :=
 Claim7.holds_tied_plain_at .later [] _ _ _ _ said (fun _ h=>by cases h) (by kernel_rfl) (fun _ h=>by cases h) typesNamed_row_tie rfl ⟨rfl,rfl⟩ (by kernel_rfl) rfl plain (by kernel_rfl)
#print axioms card
end
end Go.Proofs.YtodjhpjcgggamaaGreatDoor

/- A part of the proof over this seat's program: the checked evaluator and its soundness, and what it gives here. No condition. -/
import Derived.Test.YtodjhpjcgggamaaGreatDoorA5
import Derived.Sort.OwnSorted
import Derived.Sort.OwnSortedInts
import Derived.Shelf.SortM.Plain
import Derived.Shelf.SortM.SortNone
import Derived.Shelf.SlicesG.CompactS
import Derived.Shelf.SlicesG.CompactI
import Derived.Lib.SlicesCompact
import Derived.Sort.Walk0

set_option linter.all false

namespace Go.Proofs.YtodjhpjcgggamaaGreatDoor
open Go Go.Eng Go.Vi Go.Knuth
noncomputable section
section
local instance : Go.Eng.Mode := Sl
theorem okUnits:FnOk Tryz.prog 110 Tryz.f110:=⟨Tryz.func110,by kernel_rfl,by kernel_rfl⟩
theorem okPoints:FnOk Tryz.prog 111 Tryz.f111:=⟨Tryz.func111,by kernel_rfl,by kernel_rfl⟩
theorem okNorm:FnOk Tryz.prog 64 Tryz.f64:=⟨Tryz.func64,by kernel_rfl,by kernel_rfl⟩
def runC [Go.Eng.Mode] (f:Func) (S:List (FuncId × SEnt)) (args:List AV) (π:List Nat) (I:AK):Bool :=
 Eng.exec Tryz.prog X0 S 400 f.ntmps (codeOf f) (mkFr (argSlots args 0)) (mkMem (rowsOf [])) (fun o fr M=>endK o (resK Tryz.prog fr M f.results.toList fun vs=>I (oneOf vs) (mv π M)))
theorem un110_0 (I:AK):runC Tryz.f110 [] [unsA []] [] I=I .nilSlice []:=by kernel_rfl
theorem un110_1 (u1:Un) (I:AK):runC Tryz.f110 [] [unsA [u1]] [1] I=I (.slice 1 0 1 1 true) [some (.row (toAVs (unsD [u1])) true 36)]:=by kernel_rfl
theorem un110_2 (u1 u2:Un) (I:AK):runC Tryz.f110 [] [unsA [u1,u2]] [3] I=gateP ((Nat.ble 2 1)=false) (I (.slice 3 0 2 2 true) [some (.row (toAVs (unsD [u1,u2])) true 36)]):=by kernel_rfl
theorem un110_3 (u1 u2 u3:Un) (I:AK):runC Tryz.f110 [] [unsA [u1,u2,u3]] [5] I=gateP ((Nat.ble 2 1)=false) (gateP ((Nat.ble 3 2)=false) (I (.slice 5 0 3 3 true) [some (.row (toAVs (unsD [u1,u2,u3])) true 36)])):=by kernel_rfl
theorem un110_4 (u1 u2 u3 u4:Un) (I:AK):runC Tryz.f110 [] [unsA [u1,u2,u3,u4]] [7] I=gateP ((Nat.ble 2 1)=false) (gateP ((Nat.ble 3 2)=false) (gateP ((Nat.ble 4 3)=false) (I (.slice 7 0 4 4 true) [some (.row (toAVs (unsD [u1,u2,u3,u4])) true 36)]))):=by kernel_rfl
theorem un110_5 (u1 u2 u3 u4 u5:Un) (I:AK):runC Tryz.f110 [] [unsA [u1,u2,u3,u4,u5]] [9] I=gateP ((Nat.ble 2 1)=false) (gateP ((Nat.ble 3 2)=false) (gateP ((Nat.ble 4 3)=false) (gateP ((Nat.ble 5 4)=false) (I (.slice 9 0 5 5 true) [some (.row (toAVs (unsD [u1,u2,u3,u4,u5])) true 36)])))):=by kernel_rfl
theorem un110_6 (u1 u2 u3 u4 u5 u6:Un) (I:AK):runC Tryz.f110 [] [unsA [u1,u2,u3,u4,u5,u6]] [11] I=gateP ((Nat.ble 2 1)=false) (gateP ((Nat.ble 3 2)=false) (gateP ((Nat.ble 4 3)=false) (gateP ((Nat.ble 5 4)=false) (gateP ((Nat.ble 6 5)=false) (I (.slice 11 0 6 6 true) [some (.row (toAVs (unsD [u1,u2,u3,u4,u5,u6])) true 36)]))))):=by kernel_rfl
theorem un111_0 (I:AK):runC Tryz.f111 [] [unsA []] [] I=I .nilSlice []:=by kernel_rfl
theorem un111_1 (u1:Un) (I:AK):runC Tryz.f111 [] [unsA [u1]] [1] I=I (.slice 1 0 1 1 true) [some (.row (toAVs (unsD [u1])) true 36)]:=by kernel_rfl
theorem un111_2 (u1 u2:Un) (I:AK):runC Tryz.f111 [] [unsA [u1,u2]] [3] I=gateP ((Nat.ble 2 1)=false) (I (.slice 3 0 2 2 true) [some (.row (toAVs (unsD [u1,u2])) true 36)]):=by kernel_rfl
theorem un111_3 (u1 u2 u3:Un) (I:AK):runC Tryz.f111 [] [unsA [u1,u2,u3]] [5] I=gateP ((Nat.ble 2 1)=false) (gateP ((Nat.ble 3 2)=false) (I (.slice 5 0 3 3 true) [some (.row (toAVs (unsD [u1,u2,u3])) true 36)])):=by kernel_rfl
theorem un111_4 (u1 u2 u3 u4:Un) (I:AK):runC Tryz.f111 [] [unsA [u1,u2,u3,u4]] [7] I=gateP ((Nat.ble 2 1)=false) (gateP ((Nat.ble 3 2)=false) (gateP ((Nat.ble 4 3)=false) (I (.slice 7 0 4 4 true) [some (.row (toAVs (unsD [u1,u2,u3,u4])) true 36)]))):=by kernel_rfl
theorem un111_5 (u1 u2 u3 u4 u5:Un) (I:AK):runC Tryz.f111 [] [unsA [u1,u2,u3,u4,u5]] [9] I=gateP ((Nat.ble 2 1)=false) (gateP ((Nat.ble 3 2)=false) (gateP ((Nat.ble 4 3)=false) (gateP ((Nat.ble 5 4)=false) (I (.slice 9 0 5 5 true) [some (.row (toAVs (unsD [u1,u2,u3,u4,u5])) true 36)])))):=by kernel_rfl
theorem un111_6 (u1 u2 u3 u4 u5 u6:Un) (I:AK):runC Tryz.f111 [] [unsA [u1,u2,u3,u4,u5,u6]] [11] I=gateP ((Nat.ble 2 1)=false) (gateP ((Nat.ble 3 2)=false) (gateP ((Nat.ble 4 3)=false) (gateP ((Nat.ble 5 4)=false) (gateP ((Nat.ble 6 5)=false) (I (.slice 11 0 6 6 true) [some (.row (toAVs (unsD [u1,u2,u3,u4,u5,u6])) true 36)]))))):=by kernel_rfl
def eUn (us:List Un):FuncId × SEnt:=(110,⟨[unsA us],[],unsA us⟩)
def ePo (us:List Un):FuncId × SEnt:=(111,⟨[unsA us],[],unsA us⟩)
def eNml (us outs:List Un):FuncId × SEnt:=(109,⟨nmArgs us,[],.tuple [unsA outs,.int .i64 0]⟩)
theorem nm_r (us outs:List Un) (I:AK):runC Tryz.f64 [eUn us,eNml us outs,ePo outs] [unsA us] [] I=gX ((eUn us).snd.args) (gX ((eNml us outs).snd.args) (gX ((ePo outs).snd.args) (I (.tuple [.dslice outs.length 36 (fun i=>unD (outs.getD i un0)),.int .i64 0]) []))):=by kernel_rfl
theorem us110_0:BSim Tryz.prog 110 [unsA []] [] [] (unsA []):=BSim.run hm hX0l (S:=[]) (AllOk.mem trivial) okUnits (by kernel_rfl) rfl 400 [] _ (un110_0 ) (by
 simp only [gX_iff,gateP_iff]
 exact pdec_iff.2 fun M' _=>⟨fz_units0,fun j r hr=>by cases hr⟩)
theorem us110_1 (u1:Un):BSim Tryz.prog 110 [unsA [u1]] [] [] (unsA [u1]):=BSim.run hm hX0l (S:=[]) (AllOk.mem trivial) okUnits (by kernel_rfl) rfl 400 [1] _ (un110_1 u1) (by
 simp only [gX_iff,gateP_iff]
 exact pdec_iff.2 fun M' h=>⟨fz_units [u1] (Nat.zero_le _) (List.cons.inj h).1 (Nat.le_refl _),fun j r hr=>by cases hr⟩)
theorem us110_2 (u1 u2:Un):BSim Tryz.prog 110 [unsA [u1,u2]] [] [] (unsA [u1,u2]):=BSim.run hm hX0l (S:=[]) (AllOk.mem trivial) okUnits (by kernel_rfl) rfl 400 [3] _ (un110_2 u1 u2) (by
 simp only [gX_iff,gateP_iff]
 exact ⟨rfl,pdec_iff.2 fun M' h=>⟨fz_units [u1,u2] (Nat.zero_le _) (List.cons.inj h).1 (Nat.le_refl _),fun j r hr=>by cases hr⟩⟩)
theorem us110_3 (u1 u2 u3:Un):BSim Tryz.prog 110 [unsA [u1,u2,u3]] [] [] (unsA [u1,u2,u3]):=BSim.run hm hX0l (S:=[]) (AllOk.mem trivial) okUnits (by kernel_rfl) rfl 400 [5] _ (un110_3 u1 u2 u3) (by
 simp only [gX_iff,gateP_iff]
 exact ⟨rfl,rfl,pdec_iff.2 fun M' h=>⟨fz_units [u1,u2,u3] (Nat.zero_le _) (List.cons.inj h).1 (Nat.le_refl _),fun j r hr=>by cases hr⟩⟩)
theorem us110_4 (u1 u2 u3 u4:Un):BSim Tryz.prog 110 [unsA [u1,u2,u3,u4]] [] [] (unsA [u1,u2,u3,u4]):=BSim.run hm hX0l (S:=[]) (AllOk.mem trivial) okUnits (by kernel_rfl) rfl 400 [7] _ (un110_4 u1 u2 u3 u4) (by
 simp only [gX_iff,gateP_iff]
 exact ⟨rfl,rfl,rfl,pdec_iff.2 fun M' h=>⟨fz_units [u1,u2,u3,u4] (Nat.zero_le _) (List.cons.inj h).1 (Nat.le_refl _),fun j r hr=>by cases hr⟩⟩)
theorem us110_5 (u1 u2 u3 u4 u5:Un):BSim Tryz.prog 110 [unsA [u1,u2,u3,u4,u5]] [] [] (unsA [u1,u2,u3,u4,u5]):=BSim.run hm hX0l (S:=[]) (AllOk.mem trivial) okUnits (by kernel_rfl) rfl 400 [9] _ (un110_5 u1 u2 u3 u4 u5) (by
 simp only [gX_iff,gateP_iff]
 exact ⟨rfl,rfl,rfl,rfl,pdec_iff.2 fun M' h=>⟨fz_units [u1,u2,u3,u4,u5] (Nat.zero_le _) (List.cons.inj h).1 (Nat.le_refl _),fun j r hr=>by cases hr⟩⟩)
theorem us110_6 (u1 u2 u3 u4 u5 u6:Un):BSim Tryz.prog 110 [unsA [u1,u2,u3,u4,u5,u6]] [] [] (unsA [u1,u2,u3,u4,u5,u6]):=BSim.run hm hX0l (S:=[]) (AllOk.mem trivial) okUnits (by kernel_rfl) rfl 400 [11] _ (un110_6 u1 u2 u3 u4 u5 u6) (by
 simp only [gX_iff,gateP_iff]
 exact ⟨rfl,rfl,rfl,rfl,rfl,pdec_iff.2 fun M' h=>⟨fz_units [u1,u2,u3,u4,u5,u6] (Nat.zero_le _) (List.cons.inj h).1 (Nat.le_refl _),fun j r hr=>by cases hr⟩⟩)
theorem units_c:∀ us:List Un,us.length≤6→BSim Tryz.prog 110 [unsA us] [] [] (unsA us)
 | [],_=>us110_0 
 | [u1],_=>us110_1 u1
 | [u1,u2],_=>us110_2 u1 u2
 | [u1,u2,u3],_=>us110_3 u1 u2 u3
 | [u1,u2,u3,u4],_=>us110_4 u1 u2 u3 u4
 | [u1,u2,u3,u4,u5],_=>us110_5 u1 u2 u3 u4 u5
 | [u1,u2,u3,u4,u5,u6],_=>us110_6 u1 u2 u3 u4 u5 u6
 | _::_::_::_::_::_::_::_,h=>by simp at h
theorem us111_0:BSim Tryz.prog 111 [unsA []] [] [] (unsA []):=BSim.run hm hX0l (S:=[]) (AllOk.mem trivial) okPoints (by kernel_rfl) rfl 400 [] _ (un111_0 ) (by
 simp only [gX_iff,gateP_iff]
 exact pdec_iff.2 fun M' _=>⟨fz_units0,fun j r hr=>by cases hr⟩)
theorem us111_1 (u1:Un):BSim Tryz.prog 111 [unsA [u1]] [] [] (unsA [u1]):=BSim.run hm hX0l (S:=[]) (AllOk.mem trivial) okPoints (by kernel_rfl) rfl 400 [1] _ (un111_1 u1) (by
 simp only [gX_iff,gateP_iff]
 exact pdec_iff.2 fun M' h=>⟨fz_units [u1] (Nat.zero_le _) (List.cons.inj h).1 (Nat.le_refl _),fun j r hr=>by cases hr⟩)
theorem us111_2 (u1 u2:Un):BSim Tryz.prog 111 [unsA [u1,u2]] [] [] (unsA [u1,u2]):=BSim.run hm hX0l (S:=[]) (AllOk.mem trivial) okPoints (by kernel_rfl) rfl 400 [3] _ (un111_2 u1 u2) (by
 simp only [gX_iff,gateP_iff]
 exact ⟨rfl,pdec_iff.2 fun M' h=>⟨fz_units [u1,u2] (Nat.zero_le _) (List.cons.inj h).1 (Nat.le_refl _),fun j r hr=>by cases hr⟩⟩)
theorem us111_3 (u1 u2 u3:Un):BSim Tryz.prog 111 [unsA [u1,u2,u3]] [] [] (unsA [u1,u2,u3]):=BSim.run hm hX0l (S:=[]) (AllOk.mem trivial) okPoints (by kernel_rfl) rfl 400 [5] _ (un111_3 u1 u2 u3) (by
 simp only [gX_iff,gateP_iff]
 exact ⟨rfl,rfl,pdec_iff.2 fun M' h=>⟨fz_units [u1,u2,u3] (Nat.zero_le _) (List.cons.inj h).1 (Nat.le_refl _),fun j r hr=>by cases hr⟩⟩)
theorem us111_4 (u1 u2 u3 u4:Un):BSim Tryz.prog 111 [unsA [u1,u2,u3,u4]] [] [] (unsA [u1,u2,u3,u4]):=BSim.run hm hX0l (S:=[]) (AllOk.mem trivial) okPoints (by kernel_rfl) rfl 400 [7] _ (un111_4 u1 u2 u3 u4) (by
 simp only [gX_iff,gateP_iff]
 exact ⟨rfl,rfl,rfl,pdec_iff.2 fun M' h=>⟨fz_units [u1,u2,u3,u4] (Nat.zero_le _) (List.cons.inj h).1 (Nat.le_refl _),fun j r hr=>by cases hr⟩⟩)
theorem us111_5 (u1 u2 u3 u4 u5:Un):BSim Tryz.prog 111 [unsA [u1,u2,u3,u4,u5]] [] [] (unsA [u1,u2,u3,u4,u5]):=BSim.run hm hX0l (S:=[]) (AllOk.mem trivial) okPoints (by kernel_rfl) rfl 400 [9] _ (un111_5 u1 u2 u3 u4 u5) (by
 simp only [gX_iff,gateP_iff]
 exact ⟨rfl,rfl,rfl,rfl,pdec_iff.2 fun M' h=>⟨fz_units [u1,u2,u3,u4,u5] (Nat.zero_le _) (List.cons.inj h).1 (Nat.le_refl _),fun j r hr=>by cases hr⟩⟩)
theorem us111_6 (u1 u2 u3 u4 u5 u6:Un):BSim Tryz.prog 111 [unsA [u1,u2,u3,u4,u5,u6]] [] [] (unsA [u1,u2,u3,u4,u5,u6]):=BSim.run hm hX0l (S:=[]) (AllOk.mem trivial) okPoints (by kernel_rfl) rfl 400 [11] _ (un111_6 u1 u2 u3 u4 u5 u6) (by
 simp only [gX_iff,gateP_iff]
 exact ⟨rfl,rfl,rfl,rfl,rfl,pdec_iff.2 fun M' h=>⟨fz_units [u1,u2,u3,u4,u5,u6] (Nat.zero_le _) (List.cons.inj h).1 (Nat.le_refl _),fun j r hr=>by cases hr⟩⟩)
theorem points_c:∀ us:List Un,us.length≤6→BSim Tryz.prog 111 [unsA us] [] [] (unsA us)
 | [],_=>us111_0 
 | [u1],_=>us111_1 u1
 | [u1,u2],_=>us111_2 u1 u2
 | [u1,u2,u3],_=>us111_3 u1 u2 u3
 | [u1,u2,u3,u4],_=>us111_4 u1 u2 u3 u4
 | [u1,u2,u3,u4,u5],_=>us111_5 u1 u2 u3 u4 u5
 | [u1,u2,u3,u4,u5,u6],_=>us111_6 u1 u2 u3 u4 u5 u6
 | _::_::_::_::_::_::_::_,h=>by simp at h
theorem norm_c {us:List Un} (h0:us≠[]) (h6:us.length≤6) (h:Ch none us):∃ ans,UnsTup ans∧BSim Tryz.prog 64 [unsA us] [] [] ans:=by
 obtain ⟨ans,⟨outs,ho,rfl⟩,hn⟩:=normal_c h0 h6 h
 refine ⟨_,⟨outs,ho,rfl⟩,BSim.run hm hX0l (S:=[eUn us,eNml us outs,ePo outs]) (AllOk.mem ⟨(units_c us h6).spec0 rfl,hn.spec0 rfl,(points_c outs ho).spec0 rfl,trivial⟩) okNorm (by kernel_rfl) rfl 400 [] _ (nm_r us outs) ?_⟩
 simp only [gX_iff,gB_iff,and_true,true_and]
 exact pdec_iff.2 fun M' _=>⟨.tuple _ _ (.cons _ _ _ _ (.plain (.slice outs.length 36 (fun i=>unD (outs.getD i un0)))) (.cons _ _ _ _ (.plain (.int .i64 0)) .nil)),fun j r hr=>by cases hr⟩
end
end
end Go.Proofs.YtodjhpjcgggamaaGreatDoor

namespace Go.Proofs.YtodjhpjcgggamaaGreatDoor
open Go Go.Eng Go.Vi Go.Knuth
noncomputable section
section
local instance : Go.Eng.Mode := Sb
structure Stp where
 t:Nat
 x:Nat
 y:Nat
 k:Nat
def stD (s:Stp):List Dat:=[.int .u8 (.ofNat s.t),.int .u8 (.ofNat s.x),.int .u8 (.ofNat s.y),.int .u8 (.ofNat s.k)]
def stA (N:Nat) (s:Nat→Stp):AV:=.dslice N 4 (fun i=>stD (s i))
def T45:Nat:=Tryz.f45.ntmps
def cTj:Code:=codeOf Tryz.f45
def L45:Code:=lhs (post 4 cTj)
def B45:Code:=bodyOf (bodyOf (rhs L45))
def smC (t x y:Rt):List AV:=toAVs (rtD t++rtD x++rtD y)
def zm (z k:Nat):Int:=IntKind.i64.wrap (Int.tmod (.ofNat z) (.ofNat k))
def eSa (z x y:Int) (a b c:Rt):FuncId × SEnt:=(60,⟨[.int .i64 z,.int .i64 x,.int .i64 y],[],smA a b c⟩)
def eToI (r:Rt) (z:Int):FuncId × SEnt:=(30,⟨[intA r.neg r.mag],[],zbA z true⟩)
def eTh (a b c a' b' c':Rt) (f:Ln):FuncId × SEnt:=(62,⟨[smA a b c,smA a' b' c'],[],lnA f⟩)
def eFR (r:Rt):FuncId × SEnt:=(61,⟨[rtA r],[],realA r⟩)
def kRow (T X Y N:Nat) (s:Nat→Stp):Blk:=.row [.int .u8 (.ofNat T),.int .u8 (.ofNat X),.int .u8 (.ofNat Y),stA N s] false 1
def tjS (out:AV) (al:Bool) (i:Nat):List (Nat × AV):=[(1,.ptr 0 0),(3,out),(4,.ptr 1 0),(5,.bool al),(6,.int .i64 (.ofNat i))]
def tjV (out:AV) (b0 b1:Nat) (al:Bool) (i:Nat):List (Option AV):=[some (.ptr b0 0),some out,some (.ptr b1 0),some (.bool al),some (.int .i64 (.ofNat i))]
def lRow (m:List UInt8) (x y:Rt):Blk:=.row (smC (tR m) x y) false 1
def runJ [Go.Eng.Mode] (S:List (FuncId × SEnt)) (out:AV) (al:Bool) (l:List Blk) (i:Nat) (π:List Nat) (I:IK):Bool :=
 Eng.exec Tryz.prog X0 S 400 T45 (rhs B45) (mkFr (tjS out al i)) (mkMem l) (fun o fr' M'=>I o (lv [1,3,4,5,6] fr') (mv π M'))
theorem jW0 (T X Y N i:Nat) (s:Nat→Stp) (m m2:List UInt8) (x y x2 y2:Rt) (x3 x4 y4:Rt) (z:Int) (f:Ln) (I:IK):@runJ (So [(133,70,false),(133,85,false),(133,111,true)]) [eToI (tR m) z,eSa ((z.add 1).add (zm (s i).t 8)) (zm (s i).x 64) (zm (s i).y 64) (tR m2) x2 y2] .nilSlice true [kRow T X Y N s,lRow m x y] i [0,1] I=gB (Nat.blt i N) (gX ((eToI (tR m) z).snd.args) (gB (inI64 (z.add 1)) (gB (inI64 ((z.add 1).add (IntKind.i64.wrap ((Int.ofNat (s i).t).tmod 8)))) (gX ((eSa ((z.add 1).add (zm (s i).t 8)) (zm (s i).x 64) (zm (s i).y 64) (tR m2) x2 y2).snd.args) (gN (ieq ((Int.ofNat (s i).k).tmod 8) 1) (gN (!ieq ((Int.ofNat (s i).k).tmod 8) 0) (gB (ieq ((Int.ofNat (s i).k).tmod 8) 0) (gB (inI64 ((Int.ofNat i).add 1)) (I .normal [some (.ptr 0 0),some .nilSlice,some (.ptr 1 0),some (.bool true),some (.int .i64 ((Int.ofNat i).add 1))] [some (.row [.int .u8 (.ofNat T),.int .u8 (.ofNat X),.int .u8 (.ofNat Y),.dslice N 4 (fun i=>stD (s i))] false 1),some (.row [.bool false,strA m2,.bool false,strA [],.bool x2.neg,strA x2.mag,.bool x2.dneg,strA x2.dmag,.bool y2.neg,strA y2.mag,.bool y2.dneg,strA y2.dmag] false 1)]))))))))):=by kernel_rfl
theorem jW1 (T X Y N i:Nat) (s:Nat→Stp) (m m2:List UInt8) (x y x2 y2:Rt) (x3 x4 y4:Rt) (z:Int) (f:Ln) (n:Nat) (L:List AV) (I:IK):@runJ (So [(133,70,false),(133,85,false),(133,111,true)]) [eToI (tR m) z,eSa ((z.add 1).add (zm (s i).t 8)) (zm (s i).x 64) (zm (s i).y 64) (tR m2) x2 y2] (.slice 2 0 n n true) true [kRow T X Y N s,lRow m x y,.row L true 36] i [0,1,2] I=gB (Nat.blt i N) (gX ((eToI (tR m) z).snd.args) (gB (inI64 (z.add 1)) (gB (inI64 ((z.add 1).add (IntKind.i64.wrap ((Int.ofNat (s i).t).tmod 8)))) (gX ((eSa ((z.add 1).add (zm (s i).t 8)) (zm (s i).x 64) (zm (s i).y 64) (tR m2) x2 y2).snd.args) (gN (ieq ((Int.ofNat (s i).k).tmod 8) 1) (gN (!ieq ((Int.ofNat (s i).k).tmod 8) 0) (gB (ieq ((Int.ofNat (s i).k).tmod 8) 0) (gB (inI64 ((Int.ofNat i).add 1)) (I .normal [some (.ptr 0 0),some (.slice 2 0 n n true),some (.ptr 1 0),some (.bool true),some (.int .i64 ((Int.ofNat i).add 1))] [some (.row [.int .u8 (.ofNat T),.int .u8 (.ofNat X),.int .u8 (.ofNat Y),.dslice N 4 (fun i=>stD (s i))] false 1),some (.row [.bool false,strA m2,.bool false,strA [],.bool x2.neg,strA x2.mag,.bool x2.dneg,strA x2.dmag,.bool y2.neg,strA y2.mag,.bool y2.dneg,strA y2.dmag] false 1),some (.row L true 36)]))))))))):=by kernel_rfl
theorem jG0 (T X Y N i:Nat) (s:Nat→Stp) (m m2:List UInt8) (x y x2 y2:Rt) (x3 x4 y4:Rt) (z:Int) (f:Ln) (I:IK):@runJ (So [(133,70,false),(133,85,true),(133,111,false)]) [eToI (tR m) z,eSa ((z.add 1).add (zm (s i).t 8)) (zm (s i).x 64) (zm (s i).y 64) (tR m2) x2 y2,eFR (tR m),eFR (tR m2),eTh (tR m) x y (tR m2) x2 y2 f] .nilSlice true [kRow T X Y N s,lRow m x y] i [0,1,22] I=gB (Nat.blt i N) (gX ((eToI (tR m) z).snd.args) (gB (inI64 (z.add 1)) (gB (inI64 ((z.add 1).add (IntKind.i64.wrap ((Int.ofNat (s i).t).tmod 8)))) (gX ((eSa ((z.add 1).add (zm (s i).t 8)) (zm (s i).x 64) (zm (s i).y 64) (tR m2) x2 y2).snd.args) (gN (ieq ((Int.ofNat (s i).k).tmod 8) 1) (gB (!ieq ((Int.ofNat (s i).k).tmod 8) 0) (gX ((eFR (tR m)).snd.args) (gX ((eFR (tR m2)).snd.args) (gB (gB (gB (gX (AV.agg [AV.bool false,strA m2,AV.bool false,strA []]) true) true) true) (gX ((eTh (tR m) x y (tR m2) x2 y2 f).snd.args) (gB (gB (gB (gX (ivA ⟨m,m2,false,false⟩) true) true) true) (gN (ieq ((Int.ofNat (s i).k).tmod 8) 0) (gB (inI64 ((Int.ofNat i).add 1)) (I .normal [some (.ptr 0 0),some (.slice 22 0 1 1 true),some (.ptr 1 0),some (.bool false),some (.int .i64 ((Int.ofNat i).add 1))] [some (.row [.int .u8 (.ofNat T),.int .u8 (.ofNat X),.int .u8 (.ofNat Y),.dslice N 4 (fun i=>stD (s i))] false 1),some (.row [.bool false,strA m2,.bool false,strA [],.bool x2.neg,strA x2.mag,.bool x2.dneg,strA x2.dmag,.bool y2.neg,strA y2.mag,.bool y2.dneg,strA y2.dmag] false 1),some (.row [.bool false,strA m,.bool false,strA [],.bool false,strA [],.bool false,strA [],.bool false,.bool false,strA m2,.bool false,strA [],.bool false,strA [],.bool false,strA [],.bool false,.bool false,.bool false,.bool f.x0.neg,strA f.x0.mag,.bool f.x0.dneg,strA f.x0.dmag,.bool f.x1.neg,strA f.x1.mag,.bool f.x1.dneg,strA f.x1.dmag,.bool f.y0.neg,strA f.y0.mag,.bool f.y0.dneg,strA f.y0.dmag,.bool f.y1.neg,strA f.y1.mag,.bool f.y1.dneg,strA f.y1.dmag] true 36)])))))))))))))):=by kernel_rfl
theorem jG1 (T X Y N i:Nat) (s:Nat→Stp) (m m2:List UInt8) (x y x2 y2:Rt) (x3 x4 y4:Rt) (z:Int) (f:Ln) (n:Nat) (L:List AV) (I:IK):@runJ (So [(133,70,false),(133,85,true),(133,111,false),(133,94,true)]) [eToI (tR m) z,eSa ((z.add 1).add (zm (s i).t 8)) (zm (s i).x 64) (zm (s i).y 64) (tR m2) x2 y2,eFR (tR m),eFR (tR m2),eTh (tR m) x y (tR m2) x2 y2 f] (.slice 2 0 n n true) true [kRow T X Y N s,lRow m x y,.row L true 36] i [0,1,23] I=gB (Nat.blt i N) (gX ((eToI (tR m) z).snd.args) (gB (inI64 (z.add 1)) (gB (inI64 ((z.add 1).add (IntKind.i64.wrap ((Int.ofNat (s i).t).tmod 8)))) (gX ((eSa ((z.add 1).add (zm (s i).t 8)) (zm (s i).x 64) (zm (s i).y 64) (tR m2) x2 y2).snd.args) (gN (ieq ((Int.ofNat (s i).k).tmod 8) 1) (gB (!ieq ((Int.ofNat (s i).k).tmod 8) 0) (gX ((eFR (tR m)).snd.args) (gX ((eFR (tR m2)).snd.args) (gB (ilt 0 (.ofNat n)) (gB (gB (gB (gX (AV.agg [AV.bool false,strA m2,AV.bool false,strA []]) true) true) true) (gX ((eTh (tR m) x y (tR m2) x2 y2 f).snd.args) (gateP ((Nat.ble (Nat.add n 1) n)=false) (gB (Nat.ble (Nat.mul n 36) (lenL (List.drop 0 L))) (gB (Nat.beq (lenL L) (Nat.mul n 36)) (gB (Nat.ble (Nat.add n 1) 9223372036854775807) (gB (smallOk Tryz.prog 147 (n.add 1)) (gB (gB (gB (gX (ivA ⟨m,m2,false,false⟩) true) true) true) (gN (ieq ((Int.ofNat (s i).k).tmod 8) 0) (gB (inI64 ((Int.ofNat i).add 1)) (I .normal [some (.ptr 0 0),some (.slice 23 0 (Nat.add n 1) (Nat.add n 1) true),some (.ptr 1 0),some (.bool false),some (.int .i64 ((Int.ofNat i).add 1))] [some (.row [.int .u8 (.ofNat T),.int .u8 (.ofNat X),.int .u8 (.ofNat Y),.dslice N 4 (fun i=>stD (s i))] false 1),some (.row [.bool false,strA m2,.bool false,strA [],.bool x2.neg,strA x2.mag,.bool x2.dneg,strA x2.dmag,.bool y2.neg,strA y2.mag,.bool y2.dneg,strA y2.dmag] false 1),some (.row (List.append (List.take (Nat.mul n 36) (List.drop 0 L)) [AV.bool false,strA m,AV.bool false,strA [],AV.bool false,strA [],AV.bool false,strA [],AV.bool false,AV.bool false,strA m2,AV.bool false,strA [],AV.bool false,strA [],AV.bool false,strA [],AV.bool false,AV.bool false,AV.bool false,AV.bool f.x0.neg,strA f.x0.mag,AV.bool f.x0.dneg,strA f.x0.dmag,AV.bool f.x1.neg,strA f.x1.mag,AV.bool f.x1.dneg,strA f.x1.dmag,AV.bool f.y0.neg,strA f.y0.mag,AV.bool f.y0.dneg,strA f.y0.dmag,AV.bool f.y1.neg,strA f.y1.mag,AV.bool f.y1.dneg,strA f.y1.dmag]) true 36)])))))))))))))))))))):=by kernel_rfl
theorem jG2 (T X Y N i:Nat) (s:Nat→Stp) (m m2:List UInt8) (x y x2 y2:Rt) (x3 x4 y4:Rt) (z:Int) (f:Ln) (n:Nat) (L:List AV) (I:IK):@runJ (So [(133,70,false),(133,85,true),(133,111,false),(133,94,true)]) [eToI (tR m) z,eSa ((z.add 1).add (zm (s i).t 8)) (zm (s i).x 64) (zm (s i).y 64) (tR m2) x2 y2,eFR (tR m),eFR (tR m2),eTh (tR m) x y (tR m2) x2 y2 f] (.slice 2 0 n n true) false [kRow T X Y N s,lRow m x y,.row L true 36] i [0,1,23] I=gB (Nat.blt i N) (gX ((eToI (tR m) z).snd.args) (gB (inI64 (z.add 1)) (gB (inI64 ((z.add 1).add (IntKind.i64.wrap ((Int.ofNat (s i).t).tmod 8)))) (gX ((eSa ((z.add 1).add (zm (s i).t 8)) (zm (s i).x 64) (zm (s i).y 64) (tR m2) x2 y2).snd.args) (gN (ieq ((Int.ofNat (s i).k).tmod 8) 1) (gB (!ieq ((Int.ofNat (s i).k).tmod 8) 0) (gX ((eFR (tR m)).snd.args) (gX ((eFR (tR m2)).snd.args) (gB (ilt 0 (.ofNat n)) (gB (gB (gB (gX (AV.agg [AV.bool false,strA m2,AV.bool false,strA []]) true) true) true) (gX ((eTh (tR m) x y (tR m2) x2 y2 f).snd.args) (gateP ((Nat.ble (Nat.add n 1) n)=false) (gB (Nat.ble (Nat.mul n 36) (lenL (List.drop 0 L))) (gB (Nat.beq (lenL L) (Nat.mul n 36)) (gB (Nat.ble (Nat.add n 1) 9223372036854775807) (gB (smallOk Tryz.prog 147 (n.add 1)) (gB (gB (gB (gX (ivA ⟨m,m2,true,false⟩) true) true) true) (gN (ieq ((Int.ofNat (s i).k).tmod 8) 0) (gB (inI64 ((Int.ofNat i).add 1)) (I .normal [some (.ptr 0 0),some (.slice 23 0 (Nat.add n 1) (Nat.add n 1) true),some (.ptr 1 0),some (.bool false),some (.int .i64 ((Int.ofNat i).add 1))] [some (.row [.int .u8 (.ofNat T),.int .u8 (.ofNat X),.int .u8 (.ofNat Y),.dslice N 4 (fun i=>stD (s i))] false 1),some (.row [.bool false,strA m2,.bool false,strA [],.bool x2.neg,strA x2.mag,.bool x2.dneg,strA x2.dmag,.bool y2.neg,strA y2.mag,.bool y2.dneg,strA y2.dmag] false 1),some (.row (List.append (List.take (Nat.mul n 36) (List.drop 0 L)) [AV.bool false,strA m,AV.bool false,strA [],AV.bool false,strA [],AV.bool false,strA [],AV.bool false,AV.bool false,strA m2,AV.bool false,strA [],AV.bool false,strA [],AV.bool false,strA [],AV.bool false,AV.bool true,AV.bool false,AV.bool f.x0.neg,strA f.x0.mag,AV.bool f.x0.dneg,strA f.x0.dmag,AV.bool f.x1.neg,strA f.x1.mag,AV.bool f.x1.dneg,strA f.x1.dmag,AV.bool f.y0.neg,strA f.y0.mag,AV.bool f.y0.dneg,strA f.y0.dmag,AV.bool f.y1.neg,strA f.y1.mag,AV.bool f.y1.dneg,strA f.y1.dmag]) true 36)])))))))))))))))))))):=by kernel_rfl
theorem jJ0 (T X Y N i:Nat) (s:Nat→Stp) (m m2:List UInt8) (x y x2 y2:Rt) (x3 x4 y4:Rt) (z:Int) (f:Ln) (I:IK):@runJ (So [(133,70,true),(133,85,true),(133,111,false)]) [eToI (tR m) z,eSa ((z.add 1).add (zm (s i).t 8)) (zm (s i).x 64) (zm (s i).y 64) (tR m2) x2 y2,eSa 0 (zm (s i).y 64) (zm (s i).x 64) x3 x4 y4,eFR (tR m),eFR (tR m2),eTh (tR m) x4 y4 (tR m2) x2 y2 f] .nilSlice true [kRow T X Y N s,lRow m x y] i [0,1,22] I=gB (Nat.blt i N) (gX ((eToI (tR m) z).snd.args) (gB (inI64 (z.add 1)) (gB (inI64 ((z.add 1).add (IntKind.i64.wrap ((Int.ofNat (s i).t).tmod 8)))) (gX ((eSa ((z.add 1).add (zm (s i).t 8)) (zm (s i).x 64) (zm (s i).y 64) (tR m2) x2 y2).snd.args) (gB (ieq ((Int.ofNat (s i).k).tmod 8) 1) (gX ((eSa 0 (zm (s i).y 64) (zm (s i).x 64) x3 x4 y4).snd.args) (gB (!ieq ((Int.ofNat (s i).k).tmod 8) 0) (gX ((eFR (tR m)).snd.args) (gX ((eFR (tR m2)).snd.args) (gB (gB (gB (gX (AV.agg [AV.bool false,strA m2,AV.bool false,strA []]) true) true) true) (gX ((eTh (tR m) x4 y4 (tR m2) x2 y2 f).snd.args) (gB (gB (gB (gX (ivA ⟨m,m2,false,false⟩) true) true) true) (gN (ieq ((Int.ofNat (s i).k).tmod 8) 0) (gB (inI64 ((Int.ofNat i).add 1)) (I .normal [some (.ptr 0 0),some (.slice 22 0 1 1 true),some (.ptr 1 0),some (.bool false),some (.int .i64 ((Int.ofNat i).add 1))] [some (.row [.int .u8 (.ofNat T),.int .u8 (.ofNat X),.int .u8 (.ofNat Y),.dslice N 4 (fun i=>stD (s i))] false 1),some (.row [.bool false,strA m2,.bool false,strA [],.bool x2.neg,strA x2.mag,.bool x2.dneg,strA x2.dmag,.bool y2.neg,strA y2.mag,.bool y2.dneg,strA y2.dmag] false 1),some (.row [.bool false,strA m,.bool false,strA [],.bool false,strA [],.bool false,strA [],.bool false,.bool false,strA m2,.bool false,strA [],.bool false,strA [],.bool false,strA [],.bool false,.bool false,.bool false,.bool f.x0.neg,strA f.x0.mag,.bool f.x0.dneg,strA f.x0.dmag,.bool f.x1.neg,strA f.x1.mag,.bool f.x1.dneg,strA f.x1.dmag,.bool f.y0.neg,strA f.y0.mag,.bool f.y0.dneg,strA f.y0.dmag,.bool f.y1.neg,strA f.y1.mag,.bool f.y1.dneg,strA f.y1.dmag] true 36)]))))))))))))))):=by kernel_rfl
theorem jJ1 (T X Y N i:Nat) (s:Nat→Stp) (m m2:List UInt8) (x y x2 y2:Rt) (x3 x4 y4:Rt) (z:Int) (f:Ln) (n:Nat) (L:List AV) (I:IK):@runJ (So [(133,70,true),(133,85,true),(133,111,false),(133,94,true)]) [eToI (tR m) z,eSa ((z.add 1).add (zm (s i).t 8)) (zm (s i).x 64) (zm (s i).y 64) (tR m2) x2 y2,eSa 0 (zm (s i).y 64) (zm (s i).x 64) x3 x4 y4,eFR (tR m),eFR (tR m2),eTh (tR m) x4 y4 (tR m2) x2 y2 f] (.slice 2 0 n n true) true [kRow T X Y N s,lRow m x y,.row L true 36] i [0,1,23] I=gB (Nat.blt i N) (gX ((eToI (tR m) z).snd.args) (gB (inI64 (z.add 1)) (gB (inI64 ((z.add 1).add (IntKind.i64.wrap ((Int.ofNat (s i).t).tmod 8)))) (gX ((eSa ((z.add 1).add (zm (s i).t 8)) (zm (s i).x 64) (zm (s i).y 64) (tR m2) x2 y2).snd.args) (gB (ieq ((Int.ofNat (s i).k).tmod 8) 1) (gX ((eSa 0 (zm (s i).y 64) (zm (s i).x 64) x3 x4 y4).snd.args) (gB (!ieq ((Int.ofNat (s i).k).tmod 8) 0) (gX ((eFR (tR m)).snd.args) (gX ((eFR (tR m2)).snd.args) (gB (ilt 0 (.ofNat n)) (gB (gB (gB (gX (AV.agg [AV.bool false,strA m2,AV.bool false,strA []]) true) true) true) (gX ((eTh (tR m) x4 y4 (tR m2) x2 y2 f).snd.args) (gateP ((Nat.ble (Nat.add n 1) n)=false) (gB (Nat.ble (Nat.mul n 36) (lenL (List.drop 0 L))) (gB (Nat.beq (lenL L) (Nat.mul n 36)) (gB (Nat.ble (Nat.add n 1) 9223372036854775807) (gB (smallOk Tryz.prog 147 (n.add 1)) (gB (gB (gB (gX (ivA ⟨m,m2,false,false⟩) true) true) true) (gN (ieq ((Int.ofNat (s i).k).tmod 8) 0) (gB (inI64 ((Int.ofNat i).add 1)) (I .normal [some (.ptr 0 0),some (.slice 23 0 (Nat.add n 1) (Nat.add n 1) true),some (.ptr 1 0),some (.bool false),some (.int .i64 ((Int.ofNat i).add 1))] [some (.row [.int .u8 (.ofNat T),.int .u8 (.ofNat X),.int .u8 (.ofNat Y),.dslice N 4 (fun i=>stD (s i))] false 1),some (.row [.bool false,strA m2,.bool false,strA [],.bool x2.neg,strA x2.mag,.bool x2.dneg,strA x2.dmag,.bool y2.neg,strA y2.mag,.bool y2.dneg,strA y2.dmag] false 1),some (.row (List.append (List.take (Nat.mul n 36) (List.drop 0 L)) [AV.bool false,strA m,AV.bool false,strA [],AV.bool false,strA [],AV.bool false,strA [],AV.bool false,AV.bool false,strA m2,AV.bool false,strA [],AV.bool false,strA [],AV.bool false,strA [],AV.bool false,AV.bool false,AV.bool false,AV.bool f.x0.neg,strA f.x0.mag,AV.bool f.x0.dneg,strA f.x0.dmag,AV.bool f.x1.neg,strA f.x1.mag,AV.bool f.x1.dneg,strA f.x1.dmag,AV.bool f.y0.neg,strA f.y0.mag,AV.bool f.y0.dneg,strA f.y0.dmag,AV.bool f.y1.neg,strA f.y1.mag,AV.bool f.y1.dneg,strA f.y1.dmag]) true 36)]))))))))))))))))))))):=by kernel_rfl
theorem jJ2 (T X Y N i:Nat) (s:Nat→Stp) (m m2:List UInt8) (x y x2 y2:Rt) (x3 x4 y4:Rt) (z:Int) (f:Ln) (n:Nat) (L:List AV) (I:IK):@runJ (So [(133,70,true),(133,85,true),(133,111,false),(133,94,true)]) [eToI (tR m) z,eSa ((z.add 1).add (zm (s i).t 8)) (zm (s i).x 64) (zm (s i).y 64) (tR m2) x2 y2,eSa 0 (zm (s i).y 64) (zm (s i).x 64) x3 x4 y4,eFR (tR m),eFR (tR m2),eTh (tR m) x4 y4 (tR m2) x2 y2 f] (.slice 2 0 n n true) false [kRow T X Y N s,lRow m x y,.row L true 36] i [0,1,23] I=gB (Nat.blt i N) (gX ((eToI (tR m) z).snd.args) (gB (inI64 (z.add 1)) (gB (inI64 ((z.add 1).add (IntKind.i64.wrap ((Int.ofNat (s i).t).tmod 8)))) (gX ((eSa ((z.add 1).add (zm (s i).t 8)) (zm (s i).x 64) (zm (s i).y 64) (tR m2) x2 y2).snd.args) (gB (ieq ((Int.ofNat (s i).k).tmod 8) 1) (gX ((eSa 0 (zm (s i).y 64) (zm (s i).x 64) x3 x4 y4).snd.args) (gB (!ieq ((Int.ofNat (s i).k).tmod 8) 0) (gX ((eFR (tR m)).snd.args) (gX ((eFR (tR m2)).snd.args) (gB (ilt 0 (.ofNat n)) (gB (gB (gB (gX (AV.agg [AV.bool false,strA m2,AV.bool false,strA []]) true) true) true) (gX ((eTh (tR m) x4 y4 (tR m2) x2 y2 f).snd.args) (gateP ((Nat.ble (Nat.add n 1) n)=false) (gB (Nat.ble (Nat.mul n 36) (lenL (List.drop 0 L))) (gB (Nat.beq (lenL L) (Nat.mul n 36)) (gB (Nat.ble (Nat.add n 1) 9223372036854775807) (gB (smallOk Tryz.prog 147 (n.add 1)) (gB (gB (gB (gX (ivA ⟨m,m2,true,false⟩) true) true) true) (gN (ieq ((Int.ofNat (s i).k).tmod 8) 0) (gB (inI64 ((Int.ofNat i).add 1)) (I .normal [some (.ptr 0 0),some (.slice 23 0 (Nat.add n 1) (Nat.add n 1) true),some (.ptr 1 0),some (.bool false),some (.int .i64 ((Int.ofNat i).add 1))] [some (.row [.int .u8 (.ofNat T),.int .u8 (.ofNat X),.int .u8 (.ofNat Y),.dslice N 4 (fun i=>stD (s i))] false 1),some (.row [.bool false,strA m2,.bool false,strA [],.bool x2.neg,strA x2.mag,.bool x2.dneg,strA x2.dmag,.bool y2.neg,strA y2.mag,.bool y2.dneg,strA y2.dmag] false 1),some (.row (List.append (List.take (Nat.mul n 36) (List.drop 0 L)) [AV.bool false,strA m,AV.bool false,strA [],AV.bool false,strA [],AV.bool false,strA [],AV.bool false,AV.bool false,strA m2,AV.bool false,strA [],AV.bool false,strA [],AV.bool false,strA [],AV.bool false,AV.bool true,AV.bool false,AV.bool f.x0.neg,strA f.x0.mag,AV.bool f.x0.dneg,strA f.x0.dmag,AV.bool f.x1.neg,strA f.x1.mag,AV.bool f.x1.dneg,strA f.x1.dmag,AV.bool f.y0.neg,strA f.y0.mag,AV.bool f.y0.dneg,strA f.y0.dmag,AV.bool f.y1.neg,strA f.y1.mag,AV.bool f.y1.dneg,strA f.y1.dmag]) true 36)]))))))))))))))))))))):=by kernel_rfl
theorem jW1f (T X Y N i:Nat) (s:Nat→Stp) (m m2:List UInt8) (x y x2 y2:Rt) (x3 x4 y4:Rt) (z:Int) (f:Ln) (n:Nat) (L:List AV) (I:IK):@runJ (So [(133,70,false),(133,85,false),(133,111,true)]) [eToI (tR m) z,eSa ((z.add 1).add (zm (s i).t 8)) (zm (s i).x 64) (zm (s i).y 64) (tR m2) x2 y2] (.slice 2 0 n n true) false [kRow T X Y N s,lRow m x y,.row L true 36] i [0,1,2] I=gB (Nat.blt i N) (gX ((eToI (tR m) z).snd.args) (gB (inI64 (z.add 1)) (gB (inI64 ((z.add 1).add (IntKind.i64.wrap ((Int.ofNat (s i).t).tmod 8)))) (gX ((eSa ((z.add 1).add (zm (s i).t 8)) (zm (s i).x 64) (zm (s i).y 64) (tR m2) x2 y2).snd.args) (gN (ieq ((Int.ofNat (s i).k).tmod 8) 1) (gN (!ieq ((Int.ofNat (s i).k).tmod 8) 0) (gB (ieq ((Int.ofNat (s i).k).tmod 8) 0) (gB (inI64 ((Int.ofNat i).add 1)) (I .normal [some (.ptr 0 0),some (.slice 2 0 n n true),some (.ptr 1 0),some (.bool true),some (.int .i64 ((Int.ofNat i).add 1))] [some (.row [.int .u8 (.ofNat T),.int .u8 (.ofNat X),.int .u8 (.ofNat Y),.dslice N 4 (fun i=>stD (s i))] false 1),some (.row [.bool false,strA m2,.bool false,strA [],.bool x2.neg,strA x2.mag,.bool x2.dneg,strA x2.dmag,.bool y2.neg,strA y2.mag,.bool y2.dneg,strA y2.dmag] false 1),some (.row L true 36)]))))))))):=by kernel_rfl
theorem small147 (n:Nat):smallOk Tryz.prog 147 n=Nat.ble (Nat.mul n 408) 140737488355328:=by kernel_rfl
theorem zm_eq (z k:Nat) (hk:0<k) (h:k≤1000):zm z k=.ofNat (z % k):=by
 have hl:=Nat.mod_lt z hk
 unfold zm
 have e:Int.tmod (.ofNat z) (.ofNat k)=.ofNat (z % k):=rfl
 rw [e]
 exact wrap_i64 ⟨by simp only [Int.ofNat_eq_natCast];omega,by simp only [Int.ofNat_eq_natCast];omega⟩
theorem ieq_mod (z k c:Nat):ieq ((Int.ofNat z).tmod (.ofNat k)) (.ofNat c)=decide (z % k=c):=by
 have e:Int.tmod (.ofNat z) (.ofNat k)=.ofNat (z % k):=rfl
 rw [e,ieq_iff]
 by_cases h:z % k=c
 ·rw [h];simp
 ·rw [decide_eq_false h];simp only [beq_eq_false_iff_ne,Int.ofNat_eq_natCast];omega
theorem toInt_mg {t:Nat} (h:t<9223372036854775808):SSpec Tryz.prog (eToI (tR (mg t)) (.ofNat t)).1 (eToI (tR (mg t)) (.ofNat t)).2:=by
 have hc:=toInt_c false (mg t)
 have e:tiZ false (mg t)=(.ofNat t,true):=by
  unfold tiZ
  rw [if_pos (mg_len8 (by omega)),if_neg (by decide),mg_be,if_pos (by omega)]
 rw [e] at hc
 exact hc.spec0 rfl
def nT (t:Nat) (s:Stp):Nat:=t+1+s.t % 8
def rowsT (T X Y N:Nat) (s:Nat→Stp) (t x y:Nat) (us:List Un):List Blk:=kRow T X Y N s::lRow (mg t) (qR x 1) (qR y 1)::rowsO us
def AtT (T X Y N:Nat) (s:Nat→Stp) (t x y:Nat) (us:List Un) (b:Nat) (M:Mem):Prop :=
 M.t.get 0=some (kRow T X Y N s)∧M.t.get 1=some (lRow (mg t) (qR x 1) (qR y 1))∧(us=[]∨(2≤b∧M.t.get b=some (.row (toAVs (unsD us)) true 36)))
theorem mv_two' {M:Mem} {i j:Nat} {a b:Option Blk} (h:mv [i,j] M=[a,b]):M.t.get i=a∧M.t.get j=b:=by
 have h':[M.t.get i,M.t.get j]=[a,b]:=h
 simpa using h'
theorem mv_three {M:Mem} {i j k:Nat} {a b c:Option Blk} (h:mv [i,j,k] M=[a,b,c]):M.t.get i=a∧M.t.get j=b∧M.t.get k=c:=by
 have h':[M.t.get i,M.t.get j,M.t.get k]=[a,b,c]:=h
 simpa using h'
def NxU (t t':Nat) (us us':List Un) (al al':Bool):Prop :=
 (us'=us∧al'=true)∨(al'=false∧∃ f,GL f∧us'=us++[⟨⟨mg t,mg t',!al,false⟩,f⟩])
theorem GL.of {f:Ln} (h:LB 10000000 10000 f):GL f:=⟨_,_,h,by decide,by decide⟩
theorem roundT {T X Y N i t x y:Nat} {s:Nat→Stp} {us:List Un} {al:Bool} (hi:i<N) (hN:N≤1000000) (ht:t≤900) (hx:x<64) (hy:y<64) (hus:us.length≤1000) (hal:al=false→us≠[]) (hal0:us=[]→al=true)
  {Q:AE→Fr→Mem→Prop} (hQ:∀ us' al',NxU t (nT t (s i)) us us' al al'→∀ fr M b,lv [1,3,4,5,6] fr=tjV (outAV b us') 0 1 al' (i+1)→AtT T X Y N s (nT t (s i)) ((s i).x % 64) ((s i).y % 64) us' b M→Q .normal fr M) :
  W Tryz.prog T45 0 (rhs B45) (mkFr (tjS (outAV 2 us) al i)) (mkMem (rowsT T X Y N s t x y us)) Q:=by
 have hm8:(s i).t % 8<8:=Nat.mod_lt _ (by decide)
 have hmx:(s i).x % 64<64:=Nat.mod_lt _ (by decide)
 have hmy:(s i).y % 64<64:=Nat.mod_lt _ (by decide)
 have hnt:nT t (s i)=t+1+(s i).t % 8:=rfl
 have hz:((Int.ofNat t).add 1).add (zm (s i).t 8)=.ofNat (nT t (s i)):=by rw [zm_eq _ 8 (by decide) (by decide)];rfl
 have hb:Nat.blt i N=true:=by rw [Nat.blt_eq];exact hi
 have h1:inI64 ((Int.ofNat t).add 1)=true:=smallI (t+1) (by omega)
 have h2:inI64 (((Int.ofNat t).add 1).add (IntKind.i64.wrap ((Int.ofNat (s i).t).tmod 8)))=true:=by
  show inI64 (((Int.ofNat t).add 1).add (zm (s i).t 8))=true
  rw [hz];exact smallI _ (by omega)
 have h4:inI64 ((Int.ofNat i).add 1)=true:=smallI (i+1) (by omega)
 have k1:ieq ((Int.ofNat (s i).k).tmod 8) 1=decide ((s i).k % 8=1):=ieq_mod (s i).k 8 1
 have k0:ieq ((Int.ofNat (s i).k).tmod 8) 0=decide ((s i).k % 8=0):=ieq_mod (s i).k 8 0
 have sT:=toInt_mg (t:=t) (by omega)
 have sS:SSpec Tryz.prog (eSa (((Int.ofNat t).add 1).add (zm (s i).t 8)) (zm (s i).x 64) (zm (s i).y 64) (tR (mg (nT t (s i)))) (qR ((s i).x % 64:Nat) 1) (qR ((s i).y % 64:Nat) 1)).1 (eSa (((Int.ofNat t).add 1).add (zm (s i).t 8)) (zm (s i).x 64) (zm (s i).y 64) (tR (mg (nT t (s i)))) (qR ((s i).x % 64:Nat) 1) (qR ((s i).y % 64:Nat) 1)).2:=by
  rw [hz,zm_eq _ 64 (by decide) (by decide),zm_eq _ 64 (by decide) (by decide)]
  exact (sample_c (by omega) (by omega) (by omega)).spec0 rfl
 have sJ:SSpec Tryz.prog (eSa 0 (zm (s i).y 64) (zm (s i).x 64) (tR (mg 0)) (qR ((s i).y % 64:Nat) 1) (qR ((s i).x % 64:Nat) 1)).1 (eSa 0 (zm (s i).y 64) (zm (s i).x 64) (tR (mg 0)) (qR ((s i).y % 64:Nat) 1) (qR ((s i).x % 64:Nat) 1)).2:=by
  rw [zm_eq _ 64 (by decide) (by decide),zm_eq _ 64 (by decide) (by decide)]
  exact (sample_c (t:=0) (by omega) (by omega) (by omega)).spec0 rfl
 have sF1:SSpec Tryz.prog (eFR (tR (mg t))).1 (eFR (tR (mg t))).2:=(fromrat_c _).spec0 rfl
 have sF2:SSpec Tryz.prog (eFR (tR (mg (nT t (s i))))).1 (eFR (tR (mg (nT t (s i))))).2:=(fromrat_c _).spec0 rfl
 obtain ⟨fG,hfG,hG⟩:=through_c (t:=t) (u:=nT t (s i)) (x:=x) (y:=y) (x':=((s i).x % 64:Nat)) (y':=((s i).y % 64:Nat)) (by omega) (by omega) (by omega) (by omega) (by omega) (by omega)
 obtain ⟨fJ,hfJ,hJ⟩:=through_c (t:=t) (u:=nT t (s i)) (x:=((s i).y % 64:Nat)) (y:=((s i).x % 64:Nat)) (x':=((s i).x % 64:Nat)) (y':=((s i).y % 64:Nat)) (by omega) (by omega) (by omega) (by omega) (by omega) (by omega)
 have sG:SSpec Tryz.prog (eTh (tR (mg t)) (qR x 1) (qR y 1) (tR (mg (nT t (s i)))) (qR ((s i).x % 64:Nat) 1) (qR ((s i).y % 64:Nat) 1) fG).1 (eTh (tR (mg t)) (qR x 1) (qR y 1) (tR (mg (nT t (s i)))) (qR ((s i).x % 64:Nat) 1) (qR ((s i).y % 64:Nat) 1) fG).2:=hG.spec0 rfl
 have sH:SSpec Tryz.prog (eTh (tR (mg t)) (qR ((s i).y % 64:Nat) 1) (qR ((s i).x % 64:Nat) 1) (tR (mg (nT t (s i)))) (qR ((s i).x % 64:Nat) 1) (qR ((s i).y % 64:Nat) 1) fJ).1 (eTh (tR (mg t)) (qR ((s i).y % 64:Nat) 1) (qR ((s i).x % 64:Nat) 1) (tR (mg (nT t (s i)))) (qR ((s i).x % 64:Nat) 1) (qR ((s i).y % 64:Nat) 1) fJ).2:=hJ.spec0 rfl
 cases hu:us with
 | nil =>
  subst hu
  obtain rfl:=hal0 rfl
  have fin0:∀ us' al',NxU t (nT t (s i)) [] us' true al'→us'≠[]→∀ fr M b,2≤b→lv [1,3,4,5,6] fr=tjV (.slice b 0 us'.length us'.length true) 0 1 al' (i+1) →
    (M.t.get 0=some (kRow T X Y N s)∧M.t.get 1=some (lRow (mg (nT t (s i))) (qR ((s i).x % 64:Nat) 1) (qR ((s i).y % 64:Nat) 1))∧M.t.get b=some (.row (toAVs (unsD us')) true 36))→Q .normal fr M:=by
   intro us' al' hn hne fr M b hb2 hv hM
   refine hQ us' al' hn fr M b ?_ ⟨hM.1,hM.2.1,.inr ⟨hb2,hM.2.2⟩⟩
   rw [hv]
   cases us' with
   | nil=>exact absurd rfl hne
   | cons=>rfl
  by_cases hw:(s i).k % 8=0
  ·have kk0:=k0.trans (decide_eq_true hw)
   have kk1:=k1.trans (decide_eq_false (by omega))
   have key:=fun Q=>@W.run (So [(133,70,false),(133,85,false),(133,111,true)]) Tryz.prog hm X0 hX0l [eToI (tR (mg t)) (.ofNat t),eSa _ _ _ _ _ _] (AllOk.mem ⟨sT,sS,trivial⟩) T45 0 _ _ _ Q 400 [1,3,4,5,6] [0,1] _ (jW0 T X Y N i s (mg t) (mg (nT t (s i))) (qR x 1) (qR y 1) (qR ((s i).x % 64:Nat) 1) (qR ((s i).y % 64:Nat) 1) Rt.zero Rt.zero Rt.zero (.ofNat t) lnZ)
   refine key _ ?_
   simp only [gX_iff,gB_iff,gN_iff,gateP_iff,hb,h1,h2,h4,kk1,kk0,and_true,true_and,Bool.not_true,Bool.not_false]
   exact pdec_iff.2 fun fr M hv hM=>hQ [] true (.inl ⟨rfl,rfl⟩) fr M 0 hv ⟨(mv_two' hM).1,(mv_two' hM).2,.inl rfl⟩
  ·have kk0:=k0.trans (decide_eq_false hw)
   by_cases hj:(s i).k % 8=1
   ·have kk1:=k1.trans (decide_eq_true hj)
    have key:=fun Q=>@W.run (So [(133,70,true),(133,85,true),(133,111,false)]) Tryz.prog hm X0 hX0l [eToI (tR (mg t)) (.ofNat t),eSa _ _ _ _ _ _,eSa _ _ _ _ _ _,eFR _,eFR _,eTh _ _ _ _ _ _ _] (AllOk.mem ⟨sT,sS,sJ,sF1,sF2,sH,trivial⟩) T45 0 _ _ _ Q 400 [1,3,4,5,6] [0,1,22] _ (jJ0 T X Y N i s (mg t) (mg (nT t (s i))) (qR x 1) (qR y 1) (qR ((s i).x % 64:Nat) 1) (qR ((s i).y % 64:Nat) 1) (tR (mg 0)) (qR ((s i).y % 64:Nat) 1) (qR ((s i).x % 64:Nat) 1) (.ofNat t) fJ)
    refine key _ ?_
    simp only [gX_iff,gB_iff,gN_iff,gateP_iff,hb,h1,h2,h4,kk1,kk0,and_true,true_and,Bool.not_true,Bool.not_false]
    exact pdec_iff.2 fun fr M hv hM=>fin0 [⟨⟨mg t,mg (nT t (s i)),false,false⟩,fJ⟩] false (.inr ⟨rfl,fJ,GL.of hfJ,rfl⟩) (by simp) fr M 22 (by decide) hv (mv_three hM)
   ·have kk1:=k1.trans (decide_eq_false hj)
    have key:=fun Q=>@W.run (So [(133,70,false),(133,85,true),(133,111,false)]) Tryz.prog hm X0 hX0l [eToI (tR (mg t)) (.ofNat t),eSa _ _ _ _ _ _,eFR _,eFR _,eTh _ _ _ _ _ _ _] (AllOk.mem ⟨sT,sS,sF1,sF2,sG,trivial⟩) T45 0 _ _ _ Q 400 [1,3,4,5,6] [0,1,22] _ (jG0 T X Y N i s (mg t) (mg (nT t (s i))) (qR x 1) (qR y 1) (qR ((s i).x % 64:Nat) 1) (qR ((s i).y % 64:Nat) 1) Rt.zero Rt.zero Rt.zero (.ofNat t) fG)
    refine key _ ?_
    simp only [gX_iff,gB_iff,gN_iff,gateP_iff,hb,h1,h2,h4,kk1,kk0,and_true,true_and,Bool.not_true,Bool.not_false]
    exact pdec_iff.2 fun fr M hv hM=>fin0 [⟨⟨mg t,mg (nT t (s i)),false,false⟩,fG⟩] false (.inr ⟨rfl,fG,GL.of hfG,rfl⟩) (by simp) fr M 22 (by decide) hv (mv_three hM)
 | cons u0 l0 =>
  have hne:us≠[]:=by rw [hu];simp
  have hrow:rowsT T X Y N s t x y (u0::l0)=[kRow T X Y N s,lRow (mg t) (qR x 1) (qR y 1),.row (toAVs (unsD us)) true 36]:=by rw [hu];rfl
  have hout:outAV 2 (u0::l0)=.slice 2 0 us.length us.length true:=by rw [hu];rfl
  rw [hrow,hout]
  have hpos:ilt 0 (Int.ofNat us.length)=true:=by
   have:0<us.length:=by rw [hu];simp
   exact (natlt 0 us.length).trans (decide_eq_true this)
  have hLU:∀ (m:List Un) (c:List Un),toAVs (unsD m)++toAVs (unsD c)=toAVs (unsD (m++c)):=fun m c=>by rw [unsD_append,toAVs_append]
  have hlU:∀ m:List Un,(toAVs (unsD m)).length=m.length*36:=fun m=>by rw [toAVs_length,unsD_len]
  have g0:∀ c,List.append (List.take (Nat.mul us.length 36) (toAVs (unsD us))) c=toAVs (unsD us)++c:=grow_row (hlU _)
  have hap:∀ (u:Un) (b0 b1:Nat) (b:Nat),True:=fun _ _ _ _=>trivial
  clear hu hal0
  cases al with
  | true =>
   have fin:∀ us' al',NxU t (nT t (s i)) us us' true al'→us'≠[]→∀ fr M b,2≤b→lv [1,3,4,5,6] fr=tjV (.slice b 0 us'.length us'.length true) 0 1 al' (i+1) →
     (M.t.get 0=some (kRow T X Y N s)∧M.t.get 1=some (lRow (mg (nT t (s i))) (qR ((s i).x % 64:Nat) 1) (qR ((s i).y % 64:Nat) 1))∧M.t.get b=some (.row (toAVs (unsD us')) true 36))→Q .normal fr M:=by
    intro us' al' hn hne fr M b hb2 hv hM
    refine hQ us' al' hn fr M b ?_ ⟨hM.1,hM.2.1,.inr ⟨hb2,hM.2.2⟩⟩
    rw [hv]
    cases us' with
    | nil=>exact absurd rfl hne
    | cons=>rfl
   by_cases hw:(s i).k % 8=0
   ·have kk0:=k0.trans (decide_eq_true hw)
    have kk1:=k1.trans (decide_eq_false (by omega))
    have key:=fun Q=>@W.run (So [(133,70,false),(133,85,false),(133,111,true)]) Tryz.prog hm X0 hX0l [eToI (tR (mg t)) (.ofNat t),eSa _ _ _ _ _ _] (AllOk.mem ⟨sT,sS,trivial⟩) T45 0 _ _ _ Q 400 [1,3,4,5,6] [0,1,2] _ (jW1 T X Y N i s (mg t) (mg (nT t (s i))) (qR x 1) (qR y 1) (qR ((s i).x % 64:Nat) 1) (qR ((s i).y % 64:Nat) 1) Rt.zero Rt.zero Rt.zero (.ofNat t) lnZ us.length (toAVs (unsD us)))
    refine key _ ?_
    simp only [gX_iff,gB_iff,gN_iff,gateP_iff,hb,h1,h2,h4,kk1,kk0,and_true,true_and,Bool.not_true,Bool.not_false]
    exact pdec_iff.2 fun fr M hv hM=>fin us true (.inl ⟨rfl,rfl⟩) hne fr M 2 (by decide) hv (mv_three hM)
   ·have kk0:=k0.trans (decide_eq_false hw)
    by_cases hj:(s i).k % 8=1
    ·have kk1:=k1.trans (decide_eq_true hj)
     have key:=fun Q=>@W.run (So [(133,70,true),(133,85,true),(133,111,false),(133,94,true)]) Tryz.prog hm X0 hX0l [eToI (tR (mg t)) (.ofNat t),eSa _ _ _ _ _ _,eSa _ _ _ _ _ _,eFR _,eFR _,eTh _ _ _ _ _ _ _] (AllOk.mem ⟨sT,sS,sJ,sF1,sF2,sH,trivial⟩) T45 0 _ _ _ Q 400 [1,3,4,5,6] [0,1,23] _ (jJ1 T X Y N i s (mg t) (mg (nT t (s i))) (qR x 1) (qR y 1) (qR ((s i).x % 64:Nat) 1) (qR ((s i).y % 64:Nat) 1) (tR (mg 0)) (qR ((s i).y % 64:Nat) 1) (qR ((s i).x % 64:Nat) 1) (.ofNat t) fJ us.length (toAVs (unsD us)))
     refine key _ ?_
     simp only [gX_iff,gB_iff,gN_iff,gateP_iff,hb,h1,h2,h4,kk1,kk0,g0,hLU,small147,List.drop_zero,lenL_eq,hlU,hpos,nble_succ,and_true,true_and,Bool.not_true,Bool.not_false]
     exact ⟨ble_of (Nat.le_refl _),Nat.beq_refl _,ble_of (show us.length+1≤_ by omega),ble_of (show (us.length+1)*408≤_ by omega),pdec_iff.2 fun fr M hv hM=>fin (us++[⟨⟨mg t,mg (nT t (s i)),false,false⟩,fJ⟩]) false (.inr ⟨rfl,fJ,GL.of hfJ,rfl⟩) (by simp) fr M 23 (by decide) (by rw [hv,List.length_append];rfl) (mv_three (hM.trans (by rw [← hLU];rfl)))⟩
    ·have kk1:=k1.trans (decide_eq_false hj)
     have key:=fun Q=>@W.run (So [(133,70,false),(133,85,true),(133,111,false),(133,94,true)]) Tryz.prog hm X0 hX0l [eToI (tR (mg t)) (.ofNat t),eSa _ _ _ _ _ _,eFR _,eFR _,eTh _ _ _ _ _ _ _] (AllOk.mem ⟨sT,sS,sF1,sF2,sG,trivial⟩) T45 0 _ _ _ Q 400 [1,3,4,5,6] [0,1,23] _ (jG1 T X Y N i s (mg t) (mg (nT t (s i))) (qR x 1) (qR y 1) (qR ((s i).x % 64:Nat) 1) (qR ((s i).y % 64:Nat) 1) Rt.zero Rt.zero Rt.zero (.ofNat t) fG us.length (toAVs (unsD us)))
     refine key _ ?_
     simp only [gX_iff,gB_iff,gN_iff,gateP_iff,hb,h1,h2,h4,kk1,kk0,g0,hLU,small147,List.drop_zero,lenL_eq,hlU,hpos,nble_succ,and_true,true_and,Bool.not_true,Bool.not_false]
     exact ⟨ble_of (Nat.le_refl _),Nat.beq_refl _,ble_of (show us.length+1≤_ by omega),ble_of (show (us.length+1)*408≤_ by omega),pdec_iff.2 fun fr M hv hM=>fin (us++[⟨⟨mg t,mg (nT t (s i)),false,false⟩,fG⟩]) false (.inr ⟨rfl,fG,GL.of hfG,rfl⟩) (by simp) fr M 23 (by decide) (by rw [hv,List.length_append];rfl) (mv_three (hM.trans (by rw [← hLU];rfl)))⟩
  | false =>
   have fin:∀ us' al',NxU t (nT t (s i)) us us' false al'→us'≠[]→∀ fr M b,2≤b→lv [1,3,4,5,6] fr=tjV (.slice b 0 us'.length us'.length true) 0 1 al' (i+1) →
     (M.t.get 0=some (kRow T X Y N s)∧M.t.get 1=some (lRow (mg (nT t (s i))) (qR ((s i).x % 64:Nat) 1) (qR ((s i).y % 64:Nat) 1))∧M.t.get b=some (.row (toAVs (unsD us')) true 36))→Q .normal fr M:=by
    intro us' al' hn hne fr M b hb2 hv hM
    refine hQ us' al' hn fr M b ?_ ⟨hM.1,hM.2.1,.inr ⟨hb2,hM.2.2⟩⟩
    rw [hv]
    cases us' with
    | nil=>exact absurd rfl hne
    | cons=>rfl
   by_cases hw:(s i).k % 8=0
   ·have kk0:=k0.trans (decide_eq_true hw)
    have kk1:=k1.trans (decide_eq_false (by omega))
    have key:=fun Q=>@W.run (So [(133,70,false),(133,85,false),(133,111,true)]) Tryz.prog hm X0 hX0l [eToI (tR (mg t)) (.ofNat t),eSa _ _ _ _ _ _] (AllOk.mem ⟨sT,sS,trivial⟩) T45 0 _ _ _ Q 400 [1,3,4,5,6] [0,1,2] _ (jW1f T X Y N i s (mg t) (mg (nT t (s i))) (qR x 1) (qR y 1) (qR ((s i).x % 64:Nat) 1) (qR ((s i).y % 64:Nat) 1) Rt.zero Rt.zero Rt.zero (.ofNat t) lnZ us.length (toAVs (unsD us)))
    refine key _ ?_
    simp only [gX_iff,gB_iff,gN_iff,gateP_iff,hb,h1,h2,h4,kk1,kk0,and_true,true_and,Bool.not_true,Bool.not_false]
    exact pdec_iff.2 fun fr M hv hM=>fin us true (.inl ⟨rfl,rfl⟩) hne fr M 2 (by decide) hv (mv_three hM)
   ·have kk0:=k0.trans (decide_eq_false hw)
    by_cases hj:(s i).k % 8=1
    ·have kk1:=k1.trans (decide_eq_true hj)
     have key:=fun Q=>@W.run (So [(133,70,true),(133,85,true),(133,111,false),(133,94,true)]) Tryz.prog hm X0 hX0l [eToI (tR (mg t)) (.ofNat t),eSa _ _ _ _ _ _,eSa _ _ _ _ _ _,eFR _,eFR _,eTh _ _ _ _ _ _ _] (AllOk.mem ⟨sT,sS,sJ,sF1,sF2,sH,trivial⟩) T45 0 _ _ _ Q 400 [1,3,4,5,6] [0,1,23] _ (jJ2 T X Y N i s (mg t) (mg (nT t (s i))) (qR x 1) (qR y 1) (qR ((s i).x % 64:Nat) 1) (qR ((s i).y % 64:Nat) 1) (tR (mg 0)) (qR ((s i).y % 64:Nat) 1) (qR ((s i).x % 64:Nat) 1) (.ofNat t) fJ us.length (toAVs (unsD us)))
     refine key _ ?_
     simp only [gX_iff,gB_iff,gN_iff,gateP_iff,hb,h1,h2,h4,kk1,kk0,g0,hLU,small147,List.drop_zero,lenL_eq,hlU,hpos,nble_succ,and_true,true_and,Bool.not_true,Bool.not_false]
     exact ⟨ble_of (Nat.le_refl _),Nat.beq_refl _,ble_of (show us.length+1≤_ by omega),ble_of (show (us.length+1)*408≤_ by omega),pdec_iff.2 fun fr M hv hM=>fin (us++[⟨⟨mg t,mg (nT t (s i)),true,false⟩,fJ⟩]) false (.inr ⟨rfl,fJ,GL.of hfJ,rfl⟩) (by simp) fr M 23 (by decide) (by rw [hv,List.length_append];rfl) (mv_three (hM.trans (by rw [← hLU];rfl)))⟩
    ·have kk1:=k1.trans (decide_eq_false hj)
     have key:=fun Q=>@W.run (So [(133,70,false),(133,85,true),(133,111,false),(133,94,true)]) Tryz.prog hm X0 hX0l [eToI (tR (mg t)) (.ofNat t),eSa _ _ _ _ _ _,eFR _,eFR _,eTh _ _ _ _ _ _ _] (AllOk.mem ⟨sT,sS,sF1,sF2,sG,trivial⟩) T45 0 _ _ _ Q 400 [1,3,4,5,6] [0,1,23] _ (jG2 T X Y N i s (mg t) (mg (nT t (s i))) (qR x 1) (qR y 1) (qR ((s i).x % 64:Nat) 1) (qR ((s i).y % 64:Nat) 1) Rt.zero Rt.zero Rt.zero (.ofNat t) fG us.length (toAVs (unsD us)))
     refine key _ ?_
     simp only [gX_iff,gB_iff,gN_iff,gateP_iff,hb,h1,h2,h4,kk1,kk0,g0,hLU,small147,List.drop_zero,lenL_eq,hlU,hpos,nble_succ,and_true,true_and,Bool.not_true,Bool.not_false]
     exact ⟨ble_of (Nat.le_refl _),Nat.beq_refl _,ble_of (show us.length+1≤_ by omega),ble_of (show (us.length+1)*408≤_ by omega),pdec_iff.2 fun fr M hv hM=>fin (us++[⟨⟨mg t,mg (nT t (s i)),true,false⟩,fG⟩]) false (.inr ⟨rfl,fG,GL.of hfG,rfl⟩) (by simp) fr M 23 (by decide) (by rw [hv,List.length_append];rfl) (mv_three (hM.trans (by rw [← hLU];rfl)))⟩
end
end
end Go.Proofs.YtodjhpjcgggamaaGreatDoor

namespace Go.Proofs.YtodjhpjcgggamaaGreatDoor
open Go Go.Eng Go.Vi Go.Knuth
noncomputable section
section
local instance : Go.Eng.Mode := Sb
theorem okTraj:FnOk Tryz.prog 45 Tryz.f45:=⟨Tryz.func45,by kernel_rfl,by kernel_rfl⟩
def carA (T X Y N:Nat) (s:Nat→Stp):AV:=.agg [.int .u8 (.ofNat T),.int .u8 (.ofNat X),.int .u8 (.ofNat Y),stA N s]
def eSt (x y:Rt) (f:Ln):FuncId × SEnt:=(63,⟨[ptA x y],[],lnA f⟩)
def eNo (us outs:List Un):FuncId × SEnt:=(64,⟨[unsA us],[],.tuple [unsA outs,.int .i64 0]⟩)
def P45:Code:=rhs (post 4 cTj)
theorem t_body:B45=.seq (.seq (lhs (lhs B45)) (.cond (.tmp 35) .skip (.exit 0))) (rhs B45):=by kernel_rfl
theorem t_loop:L45=.seq (lhs L45) (.block 0 (.loop B45)):=by kernel_rfl
theorem t_post:post 4 cTj=.seq L45 P45:=by kernel_rfl
theorem t_tail:P45=.seq (lhs P45) (rhs P45):=by kernel_rfl
theorem t_pre (T X Y N:Nat) (s:Nat→Stp) (m:List UInt8) (x y:Rt) (I:IK):xN [eSa (zm T 16) (zm X 64) (zm Y 64) (tR m) x y] 300 T45 4 cTj (argSlots [carA T X Y N s] 0) [] [1,3,4,5] [0,1] I=gX ((eSa (zm T 16) (zm X 64) (zm Y 64) (tR m) x y).snd.args) (I .normal [some (.ptr 0 0),some .nilSlice,some (.ptr 1 0),some (.bool true)] [some (.row [.int .u8 (.ofNat T),.int .u8 (.ofNat X),.int .u8 (.ofNat Y),.dslice N 4 (fun i=>stD (s i))] false 1),some (.row [.bool false,strA m,.bool false,strA [],.bool x.neg,strA x.mag,.bool x.dneg,strA x.dmag,.bool y.neg,strA y.mag,.bool y.dneg,strA y.dmag] false 1)]):=by kernel_rfl
theorem t_init (T X Y N:Nat) (s:Nat→Stp) (m:List UInt8) (x y:Rt) (I:IK):xE [] 60 T45 (lhs L45) [(1,.ptr 0 0),(3,.nilSlice),(4,.ptr 1 0),(5,.bool true)] [kRow T X Y N s,lRow m x y] [1,3,4,5,6] [0,1] I=I .normal [some (.ptr 0 0),some .nilSlice,some (.ptr 1 0),some (.bool true),some (.int .i64 0)] [some (.row [.int .u8 (.ofNat T),.int .u8 (.ofNat X),.int .u8 (.ofNat Y),.dslice N 4 (fun i=>stD (s i))] false 1),some (.row [.bool false,strA m,.bool false,strA [],.bool x.neg,strA x.mag,.bool x.dneg,strA x.dmag,.bool y.neg,strA y.mag,.bool y.dneg,strA y.dmag] false 1)]:=by kernel_rfl
theorem t_hT0 (out:AV) (al:Bool) (T X Y N i:Nat) (s:Nat→Stp) (m:List UInt8) (x y:Rt) (I:IK):@xE (So [(133,31,true),(133,34,true)]) [] 60 T45 (lhs (lhs B45)) (tjS out al i) [kRow T X Y N s,lRow m x y] [1,3,4,5,6,35] [0,1] I=gB (ilt (.ofNat i) (.ofNat N)) (gB (ilt (.ofNat i) 6) (I .normal [some (.ptr 0 0),some ((3,out).snd),some (.ptr 1 0),some (.bool al),some (.int .i64 (.ofNat i)),some (.bool true)] [some (.row [.int .u8 (.ofNat T),.int .u8 (.ofNat X),.int .u8 (.ofNat Y),.dslice N 4 (fun i=>stD (s i))] false 1),some (.row [.bool false,strA m,.bool false,strA [],.bool x.neg,strA x.mag,.bool x.dneg,strA x.dmag,.bool y.neg,strA y.mag,.bool y.dneg,strA y.dmag] false 1)])):=by kernel_rfl
theorem t_hT1 (out:AV) (al:Bool) (T X Y N i:Nat) (s:Nat→Stp) (m:List UInt8) (x y:Rt) (L:List AV) (I:IK):@xE (So [(133,31,true),(133,34,true)]) [] 60 T45 (lhs (lhs B45)) (tjS out al i) [kRow T X Y N s,lRow m x y,.row L true 36] [1,3,4,5,6,35] [0,1,2] I=gB (ilt (.ofNat i) (.ofNat N)) (gB (ilt (.ofNat i) 6) (I .normal [some (.ptr 0 0),some ((3,out).snd),some (.ptr 1 0),some (.bool al),some (.int .i64 (.ofNat i)),some (.bool true)] [some (.row [.int .u8 (.ofNat T),.int .u8 (.ofNat X),.int .u8 (.ofNat Y),.dslice N 4 (fun i=>stD (s i))] false 1),some (.row [.bool false,strA m,.bool false,strA [],.bool x.neg,strA x.mag,.bool x.dneg,strA x.dmag,.bool y.neg,strA y.mag,.bool y.dneg,strA y.dmag] false 1),some (.row L true 36)])):=by kernel_rfl
theorem t_hF0 (out:AV) (al:Bool) (T X Y N i:Nat) (s:Nat→Stp) (m:List UInt8) (x y:Rt) (I:IK):@xE (So [(133,31,false)]) [] 60 T45 (lhs (lhs B45)) (tjS out al i) [kRow T X Y N s,lRow m x y] [1,3,4,5,6,35] [0,1] I=gN (ilt (.ofNat i) (.ofNat N)) (I .normal [some (.ptr 0 0),some ((3,out).snd),some (.ptr 1 0),some (.bool al),some (.int .i64 (.ofNat i)),some (.bool false)] [some (.row [.int .u8 (.ofNat T),.int .u8 (.ofNat X),.int .u8 (.ofNat Y),.dslice N 4 (fun i=>stD (s i))] false 1),some (.row [.bool false,strA m,.bool false,strA [],.bool x.neg,strA x.mag,.bool x.dneg,strA x.dmag,.bool y.neg,strA y.mag,.bool y.dneg,strA y.dmag] false 1)]):=by kernel_rfl
theorem t_hF1 (out:AV) (al:Bool) (T X Y N i:Nat) (s:Nat→Stp) (m:List UInt8) (x y:Rt) (L:List AV) (I:IK):@xE (So [(133,31,false)]) [] 60 T45 (lhs (lhs B45)) (tjS out al i) [kRow T X Y N s,lRow m x y,.row L true 36] [1,3,4,5,6,35] [0,1,2] I=gN (ilt (.ofNat i) (.ofNat N)) (I .normal [some (.ptr 0 0),some ((3,out).snd),some (.ptr 1 0),some (.bool al),some (.int .i64 (.ofNat i)),some (.bool false)] [some (.row [.int .u8 (.ofNat T),.int .u8 (.ofNat X),.int .u8 (.ofNat Y),.dslice N 4 (fun i=>stD (s i))] false 1),some (.row [.bool false,strA m,.bool false,strA [],.bool x.neg,strA x.mag,.bool x.dneg,strA x.dmag,.bool y.neg,strA y.mag,.bool y.dneg,strA y.dmag] false 1),some (.row L true 36)]):=by kernel_rfl
theorem t_a0 (T X Y N i:Nat) (s:Nat→Stp) (m:List UInt8) (x y:Rt) (f:Ln) (I:IK):xE [eFR (tR m),eSt x y f] 100 T45 (lhs P45) (tjS .nilSlice true i) [kRow T X Y N s,lRow m x y] [3] [4] I=gX ((eFR (tR m)).snd.args) (gX ((eSt x y f).snd.args) (gB (gB (gB (gX (tmA m) true) true) (gB (gB (gX (tmA m) true) true) true)) (I .normal [some (.slice 4 0 1 1 true)] [some (.row [.bool false,strA m,.bool false,strA [],.bool false,strA [],.bool false,strA [],.bool false,.bool false,strA m,.bool false,strA [],.bool false,strA [],.bool false,strA [],.bool false,.bool false,.bool false,.bool f.x0.neg,strA f.x0.mag,.bool f.x0.dneg,strA f.x0.dmag,.bool f.x1.neg,strA f.x1.mag,.bool f.x1.dneg,strA f.x1.dmag,.bool f.y0.neg,strA f.y0.mag,.bool f.y0.dneg,strA f.y0.dmag,.bool f.y1.neg,strA f.y1.mag,.bool f.y1.dneg,strA f.y1.dmag] true 36)]))):=by kernel_rfl
theorem t_a1 (T X Y N i:Nat) (s:Nat→Stp) (m:List UInt8) (x y:Rt) (f:Ln) (n:Nat) (L:List AV) (I:IK):xE [eFR (tR m),eSt x y f] 100 T45 (lhs P45) (tjS (.slice 2 0 n n true) true i) [kRow T X Y N s,lRow m x y,.row L true 36] [3] [5] I=gX ((eFR (tR m)).snd.args) (gX ((eSt x y f).snd.args) (gateP ((Nat.ble (Nat.add n 1) n)=false) (gB (Nat.ble (Nat.mul n 36) (lenL (List.drop 0 L))) (gB (Nat.beq (lenL L) (Nat.mul n 36)) (gB (Nat.ble (Nat.add n 1) 9223372036854775807) (gB (smallOk Tryz.prog 147 (n.add 1)) (gB (gB (gB (gX (tmA m) true) true) (gB (gB (gX (tmA m) true) true) true)) (I .normal [some (.slice 5 0 (Nat.add n 1) (Nat.add n 1) true)] [some (.row (List.append (List.take (Nat.mul n 36) (List.drop 0 L)) [AV.bool false,strA m,AV.bool false,strA [],AV.bool false,strA [],AV.bool false,strA [],AV.bool false,AV.bool false,strA m,AV.bool false,strA [],AV.bool false,strA [],AV.bool false,strA [],AV.bool false,AV.bool false,AV.bool false,AV.bool f.x0.neg,strA f.x0.mag,AV.bool f.x0.dneg,strA f.x0.dmag,AV.bool f.x1.neg,strA f.x1.mag,AV.bool f.x1.dneg,strA f.x1.dmag,AV.bool f.y0.neg,strA f.y0.mag,AV.bool f.y0.dneg,strA f.y0.dmag,AV.bool f.y1.neg,strA f.y1.mag,AV.bool f.y1.dneg,strA f.y1.dmag]) true 36)])))))))):=by kernel_rfl
theorem t_b1 (T X Y N i:Nat) (s:Nat→Stp) (m:List UInt8) (x y:Rt) (f:Ln) (n:Nat) (L:List AV) (I:IK):xE [] 100 T45 (lhs P45) (tjS (.slice 2 0 n n true) false i) [kRow T X Y N s,lRow m x y,.row L true 36] [3] [2] I=I .normal [some (.slice 2 0 n n true)] [some (.row L true 36)]:=by kernel_rfl
theorem t_end (us outs:List Un) (I:AK):xR [eNo us outs] 60 T45 (rhs P45) [(3,unsA us)] [] Tryz.f45 [] I=gX ((eNo us outs).snd.args) (I (.dslice outs.length 36 (fun i=>unD (outs.getD i un0))) []):=by kernel_rfl
theorem fzd_units {k:Nat} {M:Mem} {b cap sz':Nat} {op op':Bool} (us:List Un) (hk:k≤b) (hb:M.t.get b=some (.row (toAVs (unsD us)) op' sz')) (hc:us.length≤cap) :
  FzB k M (.slice b 0 us.length cap op) (unsA us):=by
 refine .cell _ _ (.dat _ (.slice us.length 36 (fun i=>unD (us.getD i un0))) (.slice b 0 us.length cap op _ op' sz' 36 _ hk hb hc ?_ fun i hi=>?_))
 ·rw [toAVs_length,unsD_len];omega
 ·rw [Nat.zero_add,toAVs_drop,toAVs_take]
  have h:=chunk_get (us.map unD) (sz:=36) i (fun c hc=>by obtain ⟨u,_,rfl⟩:=List.mem_map.1 hc;rfl) (by simpa using hi)
  unfold unsD
  rw [h]
  have e:(us.map unD).getD i []=unD (us.getD i un0):=by
   rw [List.getD_eq_getElem?_getD,List.getD_eq_getElem?_getD,List.getElem?_map,List.getElem?_eq_getElem hi];rfl
  rw [e]
  exact FzDs.sames _
theorem tjS_vals (us:List Un) (b:Nat) (al:Bool) (i:Nat) (π:List Nat) (h0:π[0]? = some 0) (h1:π[1]? = some 1) (h:π[2]? = some b∨us=[]):vals2 π (tjS (outAV 2 us) al i)=tjV (outAV b us) 0 1 al i:=by
 match π,h0,h1,h with
 | [],h0,_,_=>cases h0
 | [_],_,h1,_=>cases h1
 | a::c::π,h0,h1,h =>
  obtain rfl:a=0:=by simpa using h0
  obtain rfl:c=1:=by simpa using h1
  cases us with
  | nil=>rfl
  | cons u l =>
   rcases h with h | h
   ·cases π with
    | nil=>cases h
    | cons d π =>
     obtain rfl:d=b:=by simpa using h
     rfl
   ·cases h
theorem tjV_some (out:AV) (b0 b1:Nat) (al:Bool) (i:Nat):∀ v∈tjV out b0 b1 al i,v≠none:=by
 intro v hv e
 subst e
 simp [tjV] at hv
theorem lRow_ren (π:List Nat) (m:List UInt8) (x y:Rt):renB π (lRow m x y)=some (lRow m x y):=renB_data π _ _ _
theorem kRow_ren (π:List Nat) (T X Y N:Nat) (s:Nat→Stp):renB π (kRow T X Y N s)=some (kRow T X Y N s):=renB_data π [.int .u8 (.ofNat T),.int .u8 (.ofNat X),.int .u8 (.ofNat Y),.slice N 4 (fun i=>stD (s i))] false 1
theorem W.fromT {c:Code} {Q:AE→Fr→Mem→Prop} {fr:Fr} {M:Mem} {T X Y N i t x y b:Nat} {s:Nat→Stp} {us:List Un} {al:Bool} (hv:lv [1,3,4,5,6] fr=tjV (outAV b us) 0 1 al i) (hM:AtT T X Y N s t x y us b M)
  (h:W Tryz.prog T45 0 c (mkFr (tjS (outAV 2 us) al i)) (mkMem (rowsT T X Y N s t x y us)) Q):W Tryz.prog T45 0 c fr M Q:=by
 obtain ⟨h0,h1,hb⟩:=hM
 cases us with
 | nil =>
  refine W.next (π:=[0,1]) (bs:=[some (kRow T X Y N s),some (lRow (mg t) (qR x 1) (qR y 1))]) hv (by show [M.t.get 0,M.t.get 1]=_;rw [h0,h1]) (tjS (outAV 2 []) al i) (rowsT T X Y N s t x y []) rfl (tjS_vals [] b al i [0,1] rfl rfl (.inr rfl)) ?_ (by show okPi 0 [0,1] 2=true;decide) (tjV_some _ 0 1 al i) (by simp) h
  show [renB [0,1] (kRow T X Y N s),renB [0,1] (lRow (mg t) (qR x 1) (qR y 1))]=_
  rw [kRow_ren,lRow_ren]
 | cons u l =>
  rcases hb with hb | ⟨hb2,hb⟩
  ·cases hb
  refine W.next (π:=[0,1,b]) (bs:=[some (kRow T X Y N s),some (lRow (mg t) (qR x 1) (qR y 1)),some (.row (toAVs (unsD (u::l))) true 36)]) hv (by show [M.t.get 0,M.t.get 1,M.t.get b]=_;rw [h0,h1,hb]) (tjS (outAV 2 (u::l)) al i) (rowsT T X Y N s t x y (u::l)) rfl (tjS_vals (u::l) b al i [0,1,b] rfl rfl (.inl rfl)) ?_ ?_ (tjV_some _ 0 1 al i) (by simp) h
  ·show [renB [0,1,b] (kRow T X Y N s),renB [0,1,b] (lRow (mg t) (qR x 1) (qR y 1)),renB [0,1,b] (.row (toAVs (unsD (u::l))) true 36)]=_
   rw [kRow_ren,lRow_ren,renB_data]
  ·unfold okPi
   have e:(rowsT T X Y N s t x y (u::l)).length=3:=rfl
   rw [e]
   have:0≠b∧1≠b:=by omega
   simp [this.1,this.2]
abbrev StT (T X Y N:Nat) (s:Nat→Stp) (Q:AE→Fr→Mem→Prop) (us:List Un) (al:Bool) (t x y i:Nat):Prop :=
 ∀ fr M b,lv [1,3,4,5,6] fr=tjV (outAV b us) 0 1 al i→AtT T X Y N s t x y us b M→LX Tryz.prog T45 0 B45 Q fr M
theorem W.tb {fr:Fr} {M:Mem} {Q:AE→Fr→Mem→Prop} (h:W Tryz.prog T45 0 (.seq (.seq (lhs (lhs B45)) (.cond (.tmp 35) .skip (.exit 0))) (rhs B45)) fr M Q):W Tryz.prog T45 0 B45 fr M Q:=by rw [t_body];exact h
theorem split6 {fr:Fr} {out:AV} {al c:Bool} {i:Nat} (h:lv [1,3,4,5,6,35] fr=[some (.ptr 0 0),some out,some (.ptr 1 0),some (.bool al),some (.int .i64 (.ofNat i)),some (.bool c)]) :
  lv [1,3,4,5,6] fr=tjV out 0 1 al i∧fr.get 35=some (.bool c):=by
 have h':[fr.get 1,fr.get 3,fr.get 4,fr.get 5,fr.get 6,fr.get 35]=_:=h
 simp only [List.cons.injEq] at h'
 refine ⟨?_,h'.2.2.2.2.2.1⟩
 show [fr.get 1,fr.get 3,fr.get 4,fr.get 5,fr.get 6]=_
 rw [h'.1,h'.2.1,h'.2.2.1,h'.2.2.2.1,h'.2.2.2.2.1]
 rfl
theorem headT {T X Y N i t x y:Nat} {s:Nat→Stp} {us:List Un} {al:Bool} (hi:i<N) (h6:N≤6) {Q:AE→Fr→Mem→Prop}
  (hQ:∀ fr M,lv [1,3,4,5,6] fr=tjV (outAV 2 us) 0 1 al i→fr.get 35=some (.bool true)→AtT T X Y N s t x y us 2 M→Q .normal fr M):W Tryz.prog T45 0 (lhs (lhs B45)) (mkFr (tjS (outAV 2 us) al i)) (mkMem (rowsT T X Y N s t x y us)) Q:=by
 have c1:ilt (.ofNat i) (.ofNat N)=true:=(natlt i N).trans (decide_eq_true hi)
 have c2:ilt (.ofNat i) 6=true:=(natlt i 6).trans (decide_eq_true (by omega))
 cases us with
 | nil =>
  have key:=fun Q=>@W.run (So [(133,31,true),(133,34,true)]) Tryz.prog hm X0 hX0l [] (fun _ h=>by cases h) T45 0 _ _ _ Q 60 [1,3,4,5,6,35] [0,1] _ (t_hT0 (outAV 2 []) al T X Y N i s (mg t) (qR x 1) (qR y 1))
  refine key _ ?_
  simp only [gB_iff]
  exact ⟨c1,c2,pdec_iff.2 fun fr M hv hM=>hQ fr M (split6 hv).1 (split6 hv).2 ⟨(mv_two' hM).1,(mv_two' hM).2,.inl rfl⟩⟩
 | cons u l =>
  have key:=fun Q=>@W.run (So [(133,31,true),(133,34,true)]) Tryz.prog hm X0 hX0l [] (fun _ h=>by cases h) T45 0 _ _ _ Q 60 [1,3,4,5,6,35] [0,1,2] _ (t_hT1 (outAV 2 (u::l)) al T X Y N i s (mg t) (qR x 1) (qR y 1) (toAVs (unsD (u::l))))
  refine key _ ?_
  simp only [gB_iff]
  exact ⟨c1,c2,pdec_iff.2 fun fr M hv hM=>hQ fr M (split6 hv).1 (split6 hv).2 ⟨(mv_three hM).1,(mv_three hM).2.1,.inr ⟨Nat.le_refl _,(mv_three hM).2.2⟩⟩⟩
theorem headF {T X Y N i t x y:Nat} {s:Nat→Stp} {us:List Un} {al:Bool} (hi:¬ i<N) {Q:AE→Fr→Mem→Prop}
  (hQ:∀ fr M,lv [1,3,4,5,6] fr=tjV (outAV 2 us) 0 1 al i→fr.get 35=some (.bool false)→AtT T X Y N s t x y us 2 M→Q .normal fr M):W Tryz.prog T45 0 (lhs (lhs B45)) (mkFr (tjS (outAV 2 us) al i)) (mkMem (rowsT T X Y N s t x y us)) Q:=by
 have c1:ilt (.ofNat i) (.ofNat N)=false:=(natlt i N).trans (decide_eq_false hi)
 cases us with
 | nil =>
  have key:=fun Q=>@W.run (So [(133,31,false)]) Tryz.prog hm X0 hX0l [] (fun _ h=>by cases h) T45 0 _ _ _ Q 60 [1,3,4,5,6,35] [0,1] _ (t_hF0 (outAV 2 []) al T X Y N i s (mg t) (qR x 1) (qR y 1))
  refine key _ ?_
  simp only [gN_iff]
  exact ⟨c1,pdec_iff.2 fun fr M hv hM=>hQ fr M (split6 hv).1 (split6 hv).2 ⟨(mv_two' hM).1,(mv_two' hM).2,.inl rfl⟩⟩
 | cons u l =>
  have key:=fun Q=>@W.run (So [(133,31,false)]) Tryz.prog hm X0 hX0l [] (fun _ h=>by cases h) T45 0 _ _ _ Q 60 [1,3,4,5,6,35] [0,1,2] _ (t_hF1 (outAV 2 (u::l)) al T X Y N i s (mg t) (qR x 1) (qR y 1) (toAVs (unsD (u::l))))
  refine key _ ?_
  simp only [gN_iff]
  exact ⟨c1,pdec_iff.2 fun fr M hv hM=>hQ fr M (split6 hv).1 (split6 hv).2 ⟨(mv_three hM).1,(mv_three hM).2.1,.inr ⟨Nat.le_refl _,(mv_three hM).2.2⟩⟩⟩
structure TjInv (us:List Un) (al:Bool) (t i:Nat):Prop where
 ch:∃ p,(∀ rest,Ch p rest→Ch none (us++rest))∧(al=false→p=some t)∧(al=true→∀ q,p=some q→q<t)
 ne:al=false→us≠[]
 len:us.length≤i
 len1:al=true→us=[]∨us.length+1≤i
 time:t≤15+8*i
theorem TjInv.next {us us':List Un} {al al':Bool} {t i:Nat} {s:Stp} (h:TjInv us al t i) (hn:NxU t (nT t s) us us' al al') (hi:i<6):TjInv us' al' (nT t s) (i+1):=by
 obtain ⟨⟨p,hp,hf,ht⟩,hne,hl,hl1,htm⟩:=h
 have hm8:s.t % 8<8:=Nat.mod_lt _ (by decide)
 have hnt:nT t s=t+1+s.t % 8:=rfl
 rcases hn with ⟨rfl,rfl⟩ | ⟨rfl,f,hgl,rfl⟩
 ·refine ⟨⟨p,hp,(fun h=>by cases h),fun _ q hq=>?_⟩,(fun h=>by cases h),by omega,fun _=>.inr (by omega),by omega⟩
  cases al with
  | true=>have:=ht rfl q hq;omega
  | false=>have:=hf rfl;rw [this] at hq;cases hq;omega
 ·refine ⟨⟨some (nT t s),fun rest hr=>?_,fun _=>rfl,(fun h=>by cases h)⟩,fun _=>by simp,by simp;omega,(fun h=>by cases h),by omega⟩
  rw [List.append_assoc]
  refine hp _ ?_
  cases al with
  | true=>exact .cl p _ t (nT t s) rest ⟨rfl,rfl,rfl,by omega,by omega⟩ rfl (ht rfl) (by omega) hgl hr
  | false =>
   rw [hf rfl]
   exact .co _ t (nT t s) rest ⟨rfl,rfl,rfl,by omega,by omega⟩ rfl (by omega) hgl hr
theorem loopT {T X Y N:Nat} {s:Nat→Stp} (h6:N≤6) {Q:AE→Fr→Mem→Prop} (hfin:∀ (us:List Un) (al:Bool) (t x y:Nat),TjInv us al t N→x<64→y<64 →
   ∀ fr M,lv [1,3,4,5,6] fr=tjV (outAV 2 us) 0 1 al N→AtT T X Y N s t x y us 2 M→Q (.exit 0) fr M) :
  ∀ (d i:Nat) (us:List Un) (al:Bool) (t x y:Nat),i+d=N→TjInv us al t i→x<64→y<64→StT T X Y N s Q us al t x y i:=by
 intro d
 induction d with
 | zero =>
  intro i us al t x y hd hI hx hy fr M b hv hM
  obtain rfl:i=N:=by omega
  refine LX.step (W.fromT hv hM (W.tb ?_))
  refine W.seq (W.seq (headF (Nat.lt_irrefl _) fun fr1 M1 hv1 hc hM1=>?_))
  refine W.cond false hc (fun h=>by cases h) (fun _=>W.exit ?_)
  exact .inr ⟨by simp,hfin us al t x y hI hx hy fr1 M1 hv1 hM1⟩
 | succ d ih =>
  intro i us al t x y hd hI hx hy fr M b hv hM
  refine LX.step (W.fromT hv hM (W.tb ?_))
  refine W.seq (W.seq (headT (by omega) h6 fun fr1 M1 hv1 hc hM1=>?_))
  refine W.cond true hc (fun _=>W.skip ?_) (fun h=>by cases h)
  show W Tryz.prog T45 0 (rhs B45) fr1 M1 _
  have h1:=hI.len
  have h2:=hI.time
  refine W.fromT hv1 hM1 (roundT (by omega) (by omega) (by omega) hx hy (by omega) hI.ne ?_ fun us' al' hn fr2 M2 b2 hv2 hM2=>?_)
  ·intro e
   cases al with
   | true=>rfl
   | false=>exact absurd e (hI.ne rfl)
  ·exact .inl ⟨rfl,ih (i+1) us' al' _ _ _ (by omega) (hI.next hn (by omega)) (Nat.mod_lt _ (by decide)) (Nat.mod_lt _ (by decide)) fr2 M2 b2 hv2 hM2⟩
def UnsAns (a:AV):Prop:=∃ outs:List Un,outs.length≤6∧a=unsA outs
theorem endT {us:List Un} {Q':AE→Fr→Mem→Prop} (h0:us≠[]) (h6:us.length≤6) (h:Ch none us) {fr:Fr} {M:Mem} {b:Nat} (hv:lv [3] fr=[some (.slice b 0 us.length us.length true)]) (hM:M.t.get b=some (.row (toAVs (unsD us)) true 36)) :
  W Tryz.prog T45 0 (rhs P45) fr M (FinEx Tryz.prog Tryz.f45 0 [] UnsAns):=by
 have hg:fr.get 3=some (.slice b 0 us.length us.length true):=(List.cons.inj hv).1
 refine W.fz [(3,unsA us)] [] (Nat.le_refl _) ?_ ?_ ?_
 ·intro p hp
  obtain rfl:p=(3,unsA us):=by simpa using hp
  exact ⟨_,hg,fzd_units us (Nat.zero_le _) hM (Nat.le_refl _)⟩
 ·intro j b hj
  simp at hj
 ·obtain ⟨ans,⟨outs,ho,rfl⟩,hn⟩:=norm_c h0 h6 h
  have key:=@W.finEx Sb Tryz.prog hm X0 hX0l [eNo us outs] (AllOk.mem ⟨hn.spec0 rfl,trivial⟩) Tryz.f45 T45 0 _ _ _ [] UnsAns 60 [] _ (t_end us outs)
  refine key ?_
  simp only [gX_iff]
  exact pdec_iff.2 ⟨_,⟨outs,ho,rfl⟩,fun M' _=>⟨.plain (.slice outs.length 36 (fun i=>unD (outs.getD i un0))),fun j r hr=>by cases hr⟩⟩
theorem tailT {T X Y N t x y:Nat} {s:Nat→Stp} {us:List Un} {al:Bool} (h6:N≤6) (hI:TjInv us al t N) (hx:x<64) (hy:y<64) :
  W Tryz.prog T45 0 P45 (mkFr (tjS (outAV 2 us) al N)) (mkMem (rowsT T X Y N s t x y us)) (FinEx Tryz.prog Tryz.f45 0 [] UnsAns):=by
 obtain ⟨⟨p,hp,hf,ht⟩,hne,hl,hl1,htm⟩:=hI
 rw [t_tail]
 have sF:SSpec Tryz.prog (eFR (tR (mg t))).1 (eFR (tR (mg t))).2:=(fromrat_c _).spec0 rfl
 have sS:SSpec Tryz.prog (eSt (qR x 1) (qR y 1) (stillL x y)).1 (eSt (qR x 1) (qR y 1) (stillL x y)).2:=(still_c x y).spec0 rfl
 have hch:al=true→Ch none (us++[⟨⟨mg t,mg t,false,false⟩,stillL x y⟩]):=fun h =>
  hp _ (.lone p _ t ⟨rfl,rfl,rfl,Nat.le_refl _,by omega⟩ rfl (ht h) ⟨x,y,rfl,by omega,by omega⟩)
 have hLU:∀ (m:List Un) (c:List Un),toAVs (unsD m)++toAVs (unsD c)=toAVs (unsD (m++c)):=fun m c=>by rw [unsD_append,toAVs_append]
 have hlU:∀ m:List Un,(toAVs (unsD m)).length=m.length*36:=fun m=>by rw [toAVs_length,unsD_len]
 cases al with
 | true =>
  have hch:=hch rfl
  have hlen:us.length+1≤6:=by
   rcases hl1 rfl with e | e
   ·rw [e];decide
   ·omega
  cases us with
  | nil =>
   have key:=fun Q=>@W.run Sb Tryz.prog hm X0 hX0l [eFR _,eSt _ _ _] (AllOk.mem ⟨sF,sS,trivial⟩) T45 0 _ _ _ Q 100 [3] [4] _ (t_a0 T X Y N N s (mg t) (qR x 1) (qR y 1) (stillL x y))
   refine W.seq (key _ ?_)
   simp only [gX_iff,gB_iff,and_true,true_and]
   exact pdec_iff.2 fun fr M hv hM=>endT (us:=[⟨⟨mg t,mg t,false,false⟩,stillL x y⟩]) (Q':=fun _ _ _=>True) (by simp) (by simp) hch hv (mv_one hM)
  | cons u0 l0 =>
   generalize hu:u0::l0=us at *
   have hne:us≠[]:=by rw [← hu];simp
   have hrow:rowsT T X Y N s t x y us=[kRow T X Y N s,lRow (mg t) (qR x 1) (qR y 1),.row (toAVs (unsD us)) true 36]:=by rw [← hu];rfl
   have hout:outAV 2 us=.slice 2 0 us.length us.length true:=by rw [← hu];rfl
   rw [hrow,hout]
   have g0:∀ c,List.append (List.take (Nat.mul us.length 36) (toAVs (unsD us))) c=toAVs (unsD us)++c:=grow_row (hlU _)
   have key:=fun Q=>@W.run Sb Tryz.prog hm X0 hX0l [eFR _,eSt _ _ _] (AllOk.mem ⟨sF,sS,trivial⟩) T45 0 _ _ _ Q 100 [3] [5] _ (t_a1 T X Y N N s (mg t) (qR x 1) (qR y 1) (stillL x y) us.length (toAVs (unsD us)))
   refine W.seq (key _ ?_)
   simp only [gX_iff,gB_iff,gateP_iff,g0,hLU,small147,List.drop_zero,lenL_eq,hlU,nble_succ,and_true,true_and]
   refine ⟨ble_of (Nat.le_refl _),Nat.beq_refl _,ble_of (show us.length+1≤_ by omega),ble_of (show (us.length+1)*408≤_ by omega),pdec_iff.2 fun fr M hv hM=>?_⟩
   exact endT (us:=us++[⟨⟨mg t,mg t,false,false⟩,stillL x y⟩]) (Q':=fun _ _ _=>True) (by simp) (by simp;omega) hch (by rw [hv,List.length_append];rfl) (mv_one (hM.trans (by rw [← hLU];rfl)))
 | false =>
  have hne:=hne rfl
  have hch:Ch none us:=by have:=hp [] (.nil p);rwa [List.append_nil] at this
  cases us with
  | nil=>exact absurd rfl hne
  | cons u0 l0 =>
   have key:=fun Q=>@W.run Sb Tryz.prog hm X0 hX0l [] (fun _ h=>by cases h) T45 0 _ _ _ Q 100 [3] [2] _ (t_b1 T X Y N N s (mg t) (qR x 1) (qR y 1) (stillL x y) (u0::l0).length (toAVs (unsD (u0::l0))))
   exact W.seq (key _ (pdec_iff.2 fun fr M hv hM=>endT (us:=u0::l0) (Q':=fun _ _ _=>True) hne (by omega) hch hv (mv_one hM)))
theorem traj_c (T X Y N:Nat) (s:Nat→Stp) (h6:N≤6):∃ ans,UnsAns ans∧BSim Tryz.prog 45 [carA T X Y N s] [] [] ans:=by
 refine BSim.of_WEx okTraj (by kernel_rfl) rfl ?_
 show W Tryz.prog T45 0 cTj (mkFr (argSlots [carA T X Y N s] 0)) (mkMem []) (FinEx Tryz.prog Tryz.f45 0 [] UnsAns)
 have hmT:T % 16<16:=Nat.mod_lt _ (by decide)
 have hmX:X % 64<64:=Nat.mod_lt _ (by decide)
 have hmY:Y % 64<64:=Nat.mod_lt _ (by decide)
 have sS:SSpec Tryz.prog (eSa (zm T 16) (zm X 64) (zm Y 64) (tR (mg (T % 16))) (qR (X % 64:Nat) 1) (qR (Y % 64:Nat) 1)).1 (eSa (zm T 16) (zm X 64) (zm Y 64) (tR (mg (T % 16))) (qR (X % 64:Nat) 1) (qR (Y % 64:Nat) 1)).2:=by
  rw [zm_eq _ 16 (by decide) (by decide),zm_eq _ 64 (by decide) (by decide),zm_eq _ 64 (by decide) (by decide)]
  exact (sample_c (by omega) (by omega) (by omega)).spec0 rfl
 have key:=fun Q=>@W.runN Sb Tryz.prog hm X0 hX0l [eSa _ _ _ _ _ _] (AllOk.mem ⟨sS,trivial⟩) T45 0 _ _ _ Q 300 4 [1,3,4,5] [0,1] _ (t_pre T X Y N s (mg (T % 16)) (qR (X % 64:Nat) 1) (qR (Y % 64:Nat) 1))
 refine key _ ?_
 simp only [gX_iff]
 refine pdec_iff.2 fun fr M hv hM=>?_
 show W Tryz.prog T45 0 (post 4 cTj) fr M _
 rw [t_post]
 refine W.seq ?_
 rw [t_loop]
 refine W.next (π:=[0,1]) hv hM [(1,.ptr 0 0),(3,.nilSlice),(4,.ptr 1 0),(5,.bool true)] [kRow T X Y N s,lRow (mg (T % 16)) (qR (X % 64:Nat) 1) (qR (Y % 64:Nat) 1)] rfl rfl ?_ (by show okPi 0 [0,1] 2=true;decide) (by simp) (by simp) ?_
 ·show [renB [0,1] (kRow T X Y N s),renB [0,1] (lRow (mg (T % 16)) (qR (X % 64:Nat) 1) (qR (Y % 64:Nat) 1))]=_
  rw [kRow_ren,lRow_ren]
  rfl
 have key2:=fun Q=>@W.run Sb Tryz.prog hm X0 hX0l [] (fun _ h=>by cases h) T45 0 _ _ _ Q 60 [1,3,4,5,6] [0,1] _ (t_init T X Y N s (mg (T % 16)) (qR (X % 64:Nat) 1) (qR (Y % 64:Nat) 1))
 refine W.seq (key2 _ (pdec_iff.2 fun fr1 M1 hv1 hm1=>?_))
 refine W.block (LX.loop ?_)
 refine loopT h6 (fun us al t x y hI hx hy fr2 M2 hv2 hM2=>Blkd_eq ?_) N 0 [] true (T % 16) (X % 64) (Y % 64) (Nat.zero_add _)
  ⟨⟨none,fun rest h=>h,(fun h=>by cases h),(fun _ q hq=>by cases hq)⟩,(fun h=>by cases h),Nat.le_refl _,fun _=>.inl rfl,by omega⟩ hmX hmY fr1 M1 2 hv1 ⟨(mv_two' hm1).1,(mv_two' hm1).2,.inl rfl⟩
 show W Tryz.prog T45 0 P45 fr2 M2 (FinEx Tryz.prog Tryz.f45 0 [] UnsAns)
 exact W.fromT hv2 hM2 (tailT h6 hI hx hy)
end
end
end Go.Proofs.YtodjhpjcgggamaaGreatDoor

namespace Go.Proofs.YtodjhpjcgggamaaGreatDoor
open Go Go.Eng Go.Vi Go.Knuth
noncomputable section
section
local instance : Go.Eng.Mode := Sb
structure Car where
 t:Nat
 x:Nat
 y:Nat
 n:Nat
 s:Nat→Stp
structure Area where
 k:Nat
 x:Nat
 y:Nat
 z:Nat
 t:Nat
 l:Nat
 u:Nat
 v:Nat
 g:Nat
structure Fleet where
 nc:Nat
 c:Nat→Car
 na:Nat
 a:Nat→Area
def carD (c:Car):List Dat:=[.int .u8 (.ofNat c.t),.int .u8 (.ofNat c.x),.int .u8 (.ofNat c.y),.slice c.n 4 (fun i=>stD (c.s i))]
def areaD (a:Area):List Dat:=[.int .u8 (.ofNat a.k),.int .u8 (.ofNat a.x),.int .u8 (.ofNat a.y),.int .u8 (.ofNat a.z),.int .u8 (.ofNat a.t),.int .u8 (.ofNat a.l),.int .u8 (.ofNat a.u),.int .u8 (.ofNat a.v),.int .u8 (.ofNat a.g)]
def carsA (n:Nat) (c:Nat→Car):AV:=.dslice n 4 (fun i=>carD (c i))
def areasA (n:Nat) (a:Nat→Area):AV:=.dslice n 9 (fun i=>areaD (a i))
def flA (f:Fleet):AV:=.agg [carsA f.nc f.c,areasA f.na f.a]
def fRow (f:Fleet):Blk:=.row [carsA f.nc f.c,areasA f.na f.a] false 1
def T6:Nat:=Tryz.f6.ntmps
def c6:Code:=codeOf Tryz.f6
def L6:Code:=lhs (post 1 c6)
def B6:Code:=bodyOf (bodyOf (rhs L6))
theorem okShort:FnOk Tryz.prog 6 Tryz.f6:=⟨Tryz.func6,by kernel_rfl,by kernel_rfl⟩
theorem okPts:FnOk Tryz.prog 21 Tryz.f21:=⟨Tryz.func21,by kernel_rfl,by kernel_rfl⟩
theorem s_body:B6=.seq (.seq (lhs (lhs B6)) (.cond (.tmp 8) .skip (.exit 0))) (rhs B6):=by kernel_rfl
theorem s_loop:L6=.seq (lhs L6) (.block 0 (.loop B6)):=by kernel_rfl
theorem s_post:post 1 c6=.seq L6 (rhs (post 1 c6)):=by kernel_rfl
theorem s_pre (f:Fleet) (I:IK):xN [] 300 T6 1 c6 (argSlots [flA f] 0) [] [1,2] [0] I=I .normal [some (.ptr 0 0),some (.bool false)] [some (.row [.dslice f.nc 4 (fun i=>carD (f.c i)),.dslice f.na 9 (fun i=>areaD (f.a i))] false 1)]:=by kernel_rfl
theorem s_init (f:Fleet) (I:IK):xE [] 60 T6 (lhs L6) [(1,.ptr 0 0),(2,.bool false)] [fRow f] [1,2,3] [0] I=I .normal [some (.ptr 0 0),some (.bool false),some (.int .i64 0)] [some (.row [.dslice f.nc 4 (fun i=>carD (f.c i)),.dslice f.na 9 (fun i=>areaD (f.a i))] false 1)]:=by kernel_rfl
theorem s_head (f:Fleet) (i:Nat) (I:IK):xE [] 60 T6 (lhs (lhs B6)) [(1,.ptr 0 0),(2,.bool false),(3,.int .i64 (.ofNat i))] [fRow f] [1,2,3,8] [0] I=I .normal [some (.ptr 0 0),some (.bool false),some (.int .i64 (.ofNat i)),some (.bool (ilt (.ofNat i) (.ofNat f.nc)))] [some (.row [.dslice f.nc 4 (fun i=>carD (f.c i)),.dslice f.na 9 (fun i=>areaD (f.a i))] false 1)]:=by kernel_rfl
theorem s_far (f:Fleet) (i:Nat) (I:IK):@xE (So [(29,18,true)]) [] 60 T6 (rhs B6) [(1,.ptr 0 0),(2,.bool false),(3,.int .i64 (.ofNat i))] [fRow f] [2] [] I=gB (Nat.blt i f.nc) (gB (ilt 6 (.ofNat (f.c i).n)) (I .ret [some (.bool false)] [])):=by kernel_rfl
theorem s_near (f:Fleet) (i:Nat) (I:IK):@xE (So [(29,18,false)]) [] 60 T6 (rhs B6) [(1,.ptr 0 0),(2,.bool false),(3,.int .i64 (.ofNat i))] [fRow f] [1,2,3] [0] I=gB (Nat.blt i f.nc) (gN (ilt 6 (.ofNat (f.c i).n)) (gB (inI64 ((Int.ofNat i).add 1)) (I .normal [some (.ptr 0 0),some (.bool false),some (.int .i64 ((Int.ofNat i).add 1))] [some (.row [.dslice f.nc 4 (fun i=>carD (f.c i)),.dslice f.na 9 (fun i=>areaD (f.a i))] false 1)]))):=by kernel_rfl
theorem s_tail:rhs (post 1 c6)=.seq (lhs (rhs (post 1 c6))) (rhs (rhs (post 1 c6))):=by kernel_rfl
theorem s_fin1 (f:Fleet) (i:Nat) (I:IK):@xE (So [(29,22,true)]) [] 60 T6 (lhs (rhs (post 1 c6))) [(1,.ptr 0 0),(2,.bool false),(3,.int .i64 (.ofNat i))] [fRow f] [2] [] I=gB (!ilt 4 (.ofNat f.nc)) (I .normal [some (.bool (!ilt 2 (.ofNat f.na)))] []):=by kernel_rfl
theorem s_fin2 (f:Fleet) (i:Nat) (I:IK):@xE (So [(29,22,false)]) [] 60 T6 (lhs (rhs (post 1 c6))) [(1,.ptr 0 0),(2,.bool false),(3,.int .i64 (.ofNat i))] [fRow f] [2] [] I=gN (!ilt 4 (.ofNat f.nc)) (I .normal [some (.bool false)] []):=by kernel_rfl
theorem s_ret (b:Bool) (I:AK):xR [] 60 T6 (rhs (rhs (post 1 c6))) [(2,.bool b)] [] Tryz.f6 [] I=I (.bool b) []:=by kernel_rfl
end
section
local instance : Go.Eng.Mode := Sl
def eTr (c:Car) (o:List Un):FuncId × SEnt:=(45,⟨[carA c.t c.x c.y c.n c.s],[],unsA o⟩)
def fl4 (n:Nat) (c:Nat→Car) (m:Nat) (a:Nat→Area):AV:=.agg [carsA n c,areasA m a]
theorem po_0 (c:Nat→Car) (m:Nat) (a:Nat→Area) (u:Nat→List Un) (I:AK):@runC Sl Tryz.f21 [] [fl4 0 c m a] [] I=I .nilSlice []:=by kernel_rfl
theorem po_1 (c:Nat→Car) (m:Nat) (a:Nat→Area) (u:Nat→List Un) (I:AK):@runC Sl Tryz.f21 [eTr (c 0) (u 0)] [fl4 1 c m a] [2] I=gX ((eTr (c 0) (u 0)).snd.args) (I (.slice 2 0 1 1 true) [some (.row [.int .i64 (Int.add 0 1),.dslice ((u 0).length) 36 (fun i=>unD ((u 0).getD i un0))] true 2)]):=by kernel_rfl
theorem po_2 (c:Nat→Car) (m:Nat) (a:Nat→Area) (u:Nat→List Un) (I:AK):@runC Sl Tryz.f21 [eTr (c 0) (u 0),eTr (c 1) (u 1)] [fl4 2 c m a] [4] I=gX ((eTr (c 0) (u 0)).snd.args) (gX ((eTr (c 1) (u 1)).snd.args) (gateP ((Nat.ble 2 1)=false) (I (.slice 4 0 2 2 true) [some (.row [.int .i64 (Int.add 0 1),.dslice ((u 0).length) 36 (fun i=>unD ((u 0).getD i un0)),.int .i64 ((Int.add 0 1).add 1),.dslice ((u 1).length) 36 (fun i=>unD ((u 1).getD i un0))] true 2)]))):=by kernel_rfl
theorem po_3 (c:Nat→Car) (m:Nat) (a:Nat→Area) (u:Nat→List Un) (I:AK):@runC Sl Tryz.f21 [eTr (c 0) (u 0),eTr (c 1) (u 1),eTr (c 2) (u 2)] [fl4 3 c m a] [6] I=gX ((eTr (c 0) (u 0)).snd.args) (gX ((eTr (c 1) (u 1)).snd.args) (gateP ((Nat.ble 2 1)=false) (gX ((eTr (c 2) (u 2)).snd.args) (gateP ((Nat.ble 3 2)=false) (I (.slice 6 0 3 3 true) [some (.row [.int .i64 (Int.add 0 1),.dslice ((u 0).length) 36 (fun i=>unD ((u 0).getD i un0)),.int .i64 ((Int.add 0 1).add 1),.dslice ((u 1).length) 36 (fun i=>unD ((u 1).getD i un0)),.int .i64 (((Int.add 0 1).add 1).add 1),.dslice ((u 2).length) 36 (fun i=>unD ((u 2).getD i un0))] true 2)]))))):=by kernel_rfl
theorem po_4 (c:Nat→Car) (m:Nat) (a:Nat→Area) (u:Nat→List Un) (I:AK):@runC Sl Tryz.f21 [eTr (c 0) (u 0),eTr (c 1) (u 1),eTr (c 2) (u 2),eTr (c 3) (u 3)] [fl4 4 c m a] [8] I=gX ((eTr (c 0) (u 0)).snd.args) (gX ((eTr (c 1) (u 1)).snd.args) (gateP ((Nat.ble 2 1)=false) (gX ((eTr (c 2) (u 2)).snd.args) (gateP ((Nat.ble 3 2)=false) (gX ((eTr (c 3) (u 3)).snd.args) (gateP ((Nat.ble 4 3)=false) (I (.slice 8 0 4 4 true) [some (.row [.int .i64 (Int.add 0 1),.dslice ((u 0).length) 36 (fun i=>unD ((u 0).getD i un0)),.int .i64 ((Int.add 0 1).add 1),.dslice ((u 1).length) 36 (fun i=>unD ((u 1).getD i un0)),.int .i64 (((Int.add 0 1).add 1).add 1),.dslice ((u 2).length) 36 (fun i=>unD ((u 2).getD i un0)),.int .i64 ((((Int.add 0 1).add 1).add 1).add 1),.dslice ((u 3).length) 36 (fun i=>unD ((u 3).getD i un0))] true 2)]))))))):=by kernel_rfl
end
section
local instance : Go.Eng.Mode := Sb
theorem s_res:Tryz.f6.results.toList=[.tmp 2]:=by kernel_rfl
def ShortB (f:Fleet) (b:Bool):Prop:=b=true→f.nc≤4∧f.na≤2∧∀ i,i<f.nc→(f.c i).n≤6
def ShortAns (f:Fleet) (a:AV):Prop:=∃ b,a=.bool b∧ShortB f b
theorem split_fr {fr:Fr} {i:Nat} {c:Bool} (h:lv [1,2,3,8] fr=[some (.ptr 0 0),some (.bool false),some (.int .i64 (.ofNat i)),some (.bool c)]) :
  lv [1,2,3] fr=[some (.ptr 0 0),some (.bool false),some (.int .i64 (.ofNat i))]∧fr.get 8=some (.bool c):=by
 have h':[fr.get 1,fr.get 2,fr.get 3,fr.get 8]=_:=h
 simp only [List.cons.injEq] at h'
 refine ⟨?_,h'.2.2.2.1⟩
 show [fr.get 1,fr.get 2,fr.get 3]=_
 rw [h'.1,h'.2.1,h'.2.2.1]
theorem fRow_ren (π:List Nat) (f:Fleet):renB π (fRow f)=some (fRow f):=renB_data π [.slice f.nc 4 (fun i=>carD (f.c i)),.slice f.na 9 (fun i=>areaD (f.a i))] false 1
theorem W.fromS {c:Code} {Q:AE→Fr→Mem→Prop} {fr:Fr} {M:Mem} {f:Fleet} {i:Nat} (hv:lv [1,2,3] fr=[some (.ptr 0 0),some (.bool false),some (.int .i64 (.ofNat i))]) (hM:mv [0] M=[some (fRow f)])
  (h:W Tryz.prog T6 0 c (mkFr [(1,.ptr 0 0),(2,.bool false),(3,.int .i64 (.ofNat i))]) (mkMem [fRow f]) Q):W Tryz.prog T6 0 c fr M Q :=
 W.next (π:=[0]) hv hM [(1,.ptr 0 0),(2,.bool false),(3,.int .i64 (.ofNat i))] [fRow f] rfl rfl (by show [renB [0] (fRow f)]=_;rw [fRow_ren]) (by show okPi 0 [0] 1=true;decide) (by simp) (by simp) h
theorem W.sb {fr:Fr} {M:Mem} {Q:AE→Fr→Mem→Prop} (h:W Tryz.prog T6 0 (.seq (.seq (lhs (lhs B6)) (.cond (.tmp 8) .skip (.exit 0))) (rhs B6)) fr M Q):W Tryz.prog T6 0 B6 fr M Q:=by rw [s_body];exact h
theorem loopS {f:Fleet} (hN:f.nc<4611686018427387904):∀ (d i:Nat),i+d=f.nc→(∀ j,j<i→(f.c j).n≤6)→∀ fr M,lv [1,2,3] fr=[some (.ptr 0 0),some (.bool false),some (.int .i64 (.ofNat i))]→mv [0] M=[some (fRow f)] →
  LX Tryz.prog T6 0 B6 (Blkd 0 (Nxt Tryz.prog T6 0 (rhs (post 1 c6)) (FinEx Tryz.prog Tryz.f6 0 [] (ShortAns f)))) fr M:=by
 intro d
 induction d with
 | zero =>
  intro i hd hall fr M hv hM
  refine LX.step (W.fromS hv hM (W.sb ?_))
  have hc:ilt (.ofNat i) (.ofNat f.nc)=false:=(natlt i f.nc).trans (decide_eq_false (by omega))
  have key:=fun Q=>@W.run Sb Tryz.prog hm X0 hX0l [] (fun _ h=>by cases h) T6 0 _ _ _ Q 60 [1,2,3,8] [0] _ (s_head f i)
  refine W.seq (W.seq (key _ (pdec_iff.2 fun fr1 M1 hv1 hM1=>?_)))
  rw [hc] at hv1
  obtain ⟨hv1,h8⟩:=split_fr hv1
  refine W.cond false h8 (fun h=>by cases h) (fun _=>W.exit (.inr ⟨by simp,Blkd_eq ?_⟩))
  show W Tryz.prog T6 0 (rhs (post 1 c6)) fr1 M1 _
  refine W.fromS hv1 hM1 ?_
  have hret:∀ (b:Bool),ShortB f b→∀ fr M,lv [2] fr=[some (.bool b)]→W Tryz.prog T6 0 (rhs (rhs (post 1 c6))) fr M (FinEx Tryz.prog Tryz.f6 0 [] (ShortAns f)):=by
   intro b hb fr M hv
   refine W.next (π:=[]) (bs:=[]) hv rfl [(2,.bool b)] [] rfl rfl rfl (by decide) (by simp) (by simp) ?_
   have key:=@W.finEx Sb Tryz.prog hm X0 hX0l [] (fun _ h=>by cases h) Tryz.f6 T6 0 _ _ _ [] (ShortAns f) 60 [] _ (s_ret b)
   exact key (pdec_iff.2 ⟨_,⟨b,rfl,hb⟩,fun M' _=>⟨.plain (.bool _),fun j r hr=>by cases hr⟩⟩)
  rw [s_tail]
  by_cases h4:f.nc≤4
  ·have key:=fun Q=>@W.run (So [(29,22,true)]) Tryz.prog hm X0 hX0l [] (fun _ h=>by cases h) T6 0 _ _ _ Q 60 [2] [] _ (s_fin1 f i)
   refine W.seq (key _ ?_)
   simp only [gB_iff]
   have e4:ilt 4 (Int.ofNat f.nc)=false:=(natlt 4 f.nc).trans (decide_eq_false (by omega))
   have e2:ilt 2 (Int.ofNat f.na)=decide (2<f.na):=natlt 2 f.na
   refine ⟨by rw [e4];rfl,pdec_iff.2 fun fr2 M2 hv2 _=>hret _ (fun hb=>⟨h4,?_,fun j hj=>hall j (by omega)⟩) fr2 M2 hv2⟩
   rw [e2] at hb
   simpa using hb
  ·have key:=fun Q=>@W.run (So [(29,22,false)]) Tryz.prog hm X0 hX0l [] (fun _ h=>by cases h) T6 0 _ _ _ Q 60 [2] [] _ (s_fin2 f i)
   refine W.seq (key _ ?_)
   simp only [gN_iff]
   have e4:ilt 4 (Int.ofNat f.nc)=true:=(natlt 4 f.nc).trans (decide_eq_true (by omega))
   exact ⟨by rw [e4];rfl,pdec_iff.2 fun fr2 M2 hv2 _=>hret false (fun hb=>by cases hb) fr2 M2 hv2⟩
 | succ d ih =>
  intro i hd hall fr M hv hM
  refine LX.step (W.fromS hv hM (W.sb ?_))
  have hc:ilt (.ofNat i) (.ofNat f.nc)=true:=(natlt i f.nc).trans (decide_eq_true (by omega))
  have hb:Nat.blt i f.nc=true:=by rw [Nat.blt_eq];omega
  have key:=fun Q=>@W.run Sb Tryz.prog hm X0 hX0l [] (fun _ h=>by cases h) T6 0 _ _ _ Q 60 [1,2,3,8] [0] _ (s_head f i)
  refine W.seq (W.seq (key _ (pdec_iff.2 fun fr1 M1 hv1 hM1=>?_)))
  rw [hc] at hv1
  obtain ⟨hv1,h8⟩:=split_fr hv1
  refine W.cond true h8 (fun _=>W.skip ?_) (fun h=>by cases h)
  show W Tryz.prog T6 0 (rhs B6) fr1 M1 _
  refine W.fromS hv1 hM1 ?_
  have hI:inI64 ((Int.ofNat i).add 1)=true:=smallI (i+1) (by omega)
  have h6:ilt 6 (Int.ofNat (f.c i).n)=decide (6<(f.c i).n):=natlt 6 _
  by_cases hn:(f.c i).n≤6
  ·have key:=fun Q=>@W.run (So [(29,18,false)]) Tryz.prog hm X0 hX0l [] (fun _ h=>by cases h) T6 0 _ _ _ Q 60 [1,2,3] [0] _ (s_near f i)
   refine key _ ?_
   simp only [gB_iff,gN_iff]
   refine ⟨hb,by rw [h6];exact decide_eq_false (by omega),hI,pdec_iff.2 fun fr2 M2 hv2 hM2=>.inl ⟨by first | rfl | trivial,ih (i+1) (by omega) (fun j hj=>?_) fr2 M2 hv2 hM2⟩⟩
   rcases Nat.lt_or_ge j i with h | h
   ·exact hall j h
   ·obtain rfl:j=i:=by omega
    exact hn
  ·have key:=fun Q=>@W.run (So [(29,18,true)]) Tryz.prog hm X0 hX0l [] (fun _ h=>by cases h) T6 0 _ _ _ Q 60 [2] [] _ (s_far f i)
   refine key _ ?_
   simp only [gB_iff]
   refine ⟨hb,by rw [h6];exact decide_eq_true (by omega),pdec_iff.2 fun fr2 M2 hv2 hM2=>.inr ⟨by simp,?_⟩⟩
   have hg:fr2.get 2=some (.bool false):=(List.cons.inj hv2).1
   refine ⟨.bool false,⟨false,rfl,fun hb=>by cases hb⟩,.inr rfl,[.bool false],?_,.plain (.bool false),fun j r hr=>by cases hr⟩
   rw [s_res]
   show (getT fr2 2 fun v=>pdec ([v]=[.bool false]))=true
   rw [getT_iff]
   exact ⟨_,hg,pdec_iff.2 rfl⟩
theorem short_c (f:Fleet) (hN:f.nc<4611686018427387904):∃ b,ShortB f b∧BSim Tryz.prog 6 [flA f] [] [] (.bool b):=by
 have h:∃ ans,ShortAns f ans∧BSim Tryz.prog 6 [flA f] [] [] ans:=by
  refine BSim.of_WEx okShort (by kernel_rfl) rfl ?_
  show W Tryz.prog T6 0 c6 (mkFr (argSlots [flA f] 0)) (mkMem []) (FinEx Tryz.prog Tryz.f6 0 [] (ShortAns f))
  have key:=fun Q=>@W.runN Sb Tryz.prog hm X0 hX0l [] (fun _ h=>by cases h) T6 0 _ _ _ Q 300 1 [1,2] [0] _ (s_pre f)
  refine key _ (pdec_iff.2 fun fr M hv hM=>?_)
  show W Tryz.prog T6 0 (post 1 c6) fr M _
  rw [s_post]
  refine W.seq ?_
  rw [s_loop]
  refine W.next (π:=[0]) hv hM [(1,.ptr 0 0),(2,.bool false)] [fRow f] rfl rfl (by show [renB [0] (fRow f)]=_;rw [fRow_ren];rfl) (by show okPi 0 [0] 1=true;decide) (by simp) (by simp) ?_
  have key2:=fun Q=>@W.run Sb Tryz.prog hm X0 hX0l [] (fun _ h=>by cases h) T6 0 _ _ _ Q 60 [1,2,3] [0] _ (s_init f)
  refine W.seq (key2 _ (pdec_iff.2 fun fr1 M1 hv1 hm1=>?_))
  exact W.block (LX.loop (loopS hN f.nc 0 (Nat.zero_add _) (fun j hj=>absurd hj (Nat.not_lt_zero _)) fr1 M1 hv1 hm1))
 obtain ⟨ans,⟨b,rfl,hb⟩,h⟩:=h
 exact ⟨b,hb,h⟩
end
section
local instance : Go.Eng.Mode := Sl
def objsA (n:Nat) (ud:Nat→Dat):AV:=.dslice n 2 (fun i=>[.int .i64 (.ofNat (i+1)),ud i])
def unsDat (us:List Un):Dat:=.slice us.length 36 (fun i=>unD (us.getD i un0))
theorem fz_objs {n b:Nat} {u:Nat→Dat} {M:Mem} {L:List AV} (h:M.t.get b=some (.row L true 2)) (hl:n*2≤L.length) (hel:∀ i,i<n→(L.drop (i*2)).take 2=toAVs [.int .i64 (.ofNat (i+1)),u i]):FzA 0 M (.slice b 0 n n true) (objsA n u):=by
 refine .dat _ (.slice n 2 (fun i=>[.int .i64 (.ofNat (i+1)),u i])) (.slice b 0 n n true L true 2 2 _ (Nat.zero_le _) h (Nat.le_refl _) (by omega) fun i hi=>?_)
 rw [Nat.zero_add,hel i hi]
 exact FzDs.sames _
theorem pts_0 (c:Nat→Car) (m:Nat) (a:Nat→Area) (hc:∀ i,i<0→(c i).n≤6):∃ ud,BSim Tryz.prog 21 [fl4 0 c m a] [] [] (objsA 0 ud):=by
 refine ⟨fun i=>unsDat ((([]:List (List Un)).getD i [])),BSim.run hm hX0l (S:=[]) (AllOk.mem trivial) okPts (by kernel_rfl) rfl 400 [] _ (po_0 c m a (fun i=>([]:List (List Un)).getD i [])) ?_⟩
 simp only [gX_iff,gB_iff,gateP_iff,and_true,true_and]
 exact pdec_iff.2 fun M' _=>⟨.dat _ (.slice 0 2 _) (.nil _ _),fun j r hr=>by cases hr⟩
theorem pts_1 (c:Nat→Car) (m:Nat) (a:Nat→Area) (hc:∀ i,i<1→(c i).n≤6):∃ ud,BSim Tryz.prog 21 [fl4 1 c m a] [] [] (objsA 1 ud):=by
 obtain ⟨_,⟨o0,_,rfl⟩,h0⟩:=traj_c (c 0).t (c 0).x (c 0).y (c 0).n (c 0).s (hc 0 (by decide))
 refine ⟨fun i=>unsDat ((([o0]:List (List Un)).getD i [])),BSim.run hm hX0l (S:=[eTr (c 0) o0]) (AllOk.mem ⟨h0.spec0 rfl,trivial⟩) okPts (by kernel_rfl) rfl 400 [2] _ (po_1 c m a (fun i=>([o0]:List (List Un)).getD i [])) ?_⟩
 simp only [gX_iff,gB_iff,gateP_iff,and_true,true_and]
 exact pdec_iff.2 fun M' h=>⟨fz_objs (n:=1) (mv_one h) (Nat.le_refl _) (fun i hi=>match i,hi with | 0,_=>rfl),fun j r hr=>by cases hr⟩
theorem pts_2 (c:Nat→Car) (m:Nat) (a:Nat→Area) (hc:∀ i,i<2→(c i).n≤6):∃ ud,BSim Tryz.prog 21 [fl4 2 c m a] [] [] (objsA 2 ud):=by
 obtain ⟨_,⟨o0,_,rfl⟩,h0⟩:=traj_c (c 0).t (c 0).x (c 0).y (c 0).n (c 0).s (hc 0 (by decide))
 obtain ⟨_,⟨o1,_,rfl⟩,h1⟩:=traj_c (c 1).t (c 1).x (c 1).y (c 1).n (c 1).s (hc 1 (by decide))
 refine ⟨fun i=>unsDat ((([o0,o1]:List (List Un)).getD i [])),BSim.run hm hX0l (S:=[eTr (c 0) o0,eTr (c 1) o1]) (AllOk.mem ⟨h0.spec0 rfl,h1.spec0 rfl,trivial⟩) okPts (by kernel_rfl) rfl 400 [4] _ (po_2 c m a (fun i=>([o0,o1]:List (List Un)).getD i [])) ?_⟩
 simp only [gX_iff,gB_iff,gateP_iff,and_true,true_and]
 exact ⟨rfl,pdec_iff.2 fun M' h=>⟨fz_objs (n:=2) (mv_one h) (Nat.le_refl _) (fun i hi=>match i,hi with | 0,_=>rfl | 1,_=>rfl),fun j r hr=>by cases hr⟩⟩
theorem pts_3 (c:Nat→Car) (m:Nat) (a:Nat→Area) (hc:∀ i,i<3→(c i).n≤6):∃ ud,BSim Tryz.prog 21 [fl4 3 c m a] [] [] (objsA 3 ud):=by
 obtain ⟨_,⟨o0,_,rfl⟩,h0⟩:=traj_c (c 0).t (c 0).x (c 0).y (c 0).n (c 0).s (hc 0 (by decide))
 obtain ⟨_,⟨o1,_,rfl⟩,h1⟩:=traj_c (c 1).t (c 1).x (c 1).y (c 1).n (c 1).s (hc 1 (by decide))
 obtain ⟨_,⟨o2,_,rfl⟩,h2⟩:=traj_c (c 2).t (c 2).x (c 2).y (c 2).n (c 2).s (hc 2 (by decide))
 refine ⟨fun i=>unsDat ((([o0,o1,o2]:List (List Un)).getD i [])),BSim.run hm hX0l (S:=[eTr (c 0) o0,eTr (c 1) o1,eTr (c 2) o2]) (AllOk.mem ⟨h0.spec0 rfl,h1.spec0 rfl,h2.spec0 rfl,trivial⟩) okPts (by kernel_rfl) rfl 400 [6] _ (po_3 c m a (fun i=>([o0,o1,o2]:List (List Un)).getD i [])) ?_⟩
 simp only [gX_iff,gB_iff,gateP_iff,and_true,true_and]
 exact ⟨rfl,rfl,pdec_iff.2 fun M' h=>⟨fz_objs (n:=3) (mv_one h) (Nat.le_refl _) (fun i hi=>match i,hi with | 0,_=>rfl | 1,_=>rfl | 2,_=>rfl),fun j r hr=>by cases hr⟩⟩
theorem pts_4 (c:Nat→Car) (m:Nat) (a:Nat→Area) (hc:∀ i,i<4→(c i).n≤6):∃ ud,BSim Tryz.prog 21 [fl4 4 c m a] [] [] (objsA 4 ud):=by
 obtain ⟨_,⟨o0,_,rfl⟩,h0⟩:=traj_c (c 0).t (c 0).x (c 0).y (c 0).n (c 0).s (hc 0 (by decide))
 obtain ⟨_,⟨o1,_,rfl⟩,h1⟩:=traj_c (c 1).t (c 1).x (c 1).y (c 1).n (c 1).s (hc 1 (by decide))
 obtain ⟨_,⟨o2,_,rfl⟩,h2⟩:=traj_c (c 2).t (c 2).x (c 2).y (c 2).n (c 2).s (hc 2 (by decide))
 obtain ⟨_,⟨o3,_,rfl⟩,h3⟩:=traj_c (c 3).t (c 3).x (c 3).y (c 3).n (c 3).s (hc 3 (by decide))
 refine ⟨fun i=>unsDat ((([o0,o1,o2,o3]:List (List Un)).getD i [])),BSim.run hm hX0l (S:=[eTr (c 0) o0,eTr (c 1) o1,eTr (c 2) o2,eTr (c 3) o3]) (AllOk.mem ⟨h0.spec0 rfl,h1.spec0 rfl,h2.spec0 rfl,h3.spec0 rfl,trivial⟩) okPts (by kernel_rfl) rfl 400 [8] _ (po_4 c m a (fun i=>([o0,o1,o2,o3]:List (List Un)).getD i [])) ?_⟩
 simp only [gX_iff,gB_iff,gateP_iff,and_true,true_and]
 exact ⟨rfl,rfl,rfl,pdec_iff.2 fun M' h=>⟨fz_objs (n:=4) (mv_one h) (Nat.le_refl _) (fun i hi=>match i,hi with | 0,_=>rfl | 1,_=>rfl | 2,_=>rfl | 3,_=>rfl),fun j r hr=>by cases hr⟩⟩
theorem pts_c (f:Fleet) (hn:f.nc≤4) (hc:∀ i,i<f.nc→(f.c i).n≤6):∃ ud,BSim Tryz.prog 21 [flA f] [] [] (objsA f.nc ud):=by
 obtain ⟨n,c,m,a⟩:=f
 match n,hn,hc with
 | 0,_,hc=>exact pts_0 c m a hc
 | 1,_,hc=>exact pts_1 c m a hc
 | 2,_,hc=>exact pts_2 c m a hc
 | 3,_,hc=>exact pts_3 c m a hc
 | 4,_,hc=>exact pts_4 c m a hc
 | n+5,hn,_=>exact absurd hn (by show ¬ n+5≤4;omega)
end
end
end Go.Proofs.YtodjhpjcgggamaaGreatDoor

namespace Go.Proofs.YtodjhpjcgggamaaGreatDoor
open Go Go.Eng Go.Vi Go.Knuth
noncomputable section
section
local instance : Go.Eng.Mode := Sl
theorem fzd_chunks {α:Type} {k:Nat} {M:Mem} {b cap sz' sz:Nat} {op op':Bool} (D:α→List Dat) (hD:∀ a,(D a).length=sz) (l:List α) (a0:α) (hk:k≤b) (hb:M.t.get b=some (.row (toAVs (l.map D).flatten) op' sz')) (hc:l.length≤cap) :
  FzD k M (.slice b 0 l.length cap op) (.slice l.length sz (fun i=>D (l.getD i a0))):=by
 have hlen:((l.map D).flatten).length=l.length*sz:=by
  rw [flatten_len (sz:=sz) (l.map D) (fun c hc=>by obtain ⟨u,_,rfl⟩:=List.mem_map.1 hc;exact hD u),List.length_map]
 refine .slice b 0 l.length cap op _ op' sz' sz _ hk hb hc ?_ fun i hi=>?_
 ·rw [toAVs_length,hlen];omega
 ·rw [Nat.zero_add,toAVs_drop,toAVs_take]
  have h:=chunk_get (l.map D) (sz:=sz) i (fun c hc=>by obtain ⟨u,_,rfl⟩:=List.mem_map.1 hc;exact hD u) (by simpa using hi)
  rw [h]
  have e:(l.map D).getD i []=D (l.getD i a0):=by
   rw [List.getD_eq_getElem?_getD,List.getD_eq_getElem?_getD,List.getElem?_map,List.getElem?_eq_getElem hi];rfl
  rw [e]
  exact FzDs.sames _
theorem okShape:FnOk Tryz.prog 66 Tryz.f66:=⟨Tryz.func66,by kernel_rfl,by kernel_rfl⟩
theorem okRegion:FnOk Tryz.prog 46 Tryz.f46:=⟨Tryz.func46,by kernel_rfl,by kernel_rfl⟩
def shL (r:Nat):List (Int × Int):=match r with
 | 0=>[(-1,-1),(1,-1),(1,1),(-1,1)]
 | 1=>[(-1,-1),(2,0),(0,1)]
 | 2=>[(-2,0),(0,-1),(2,0),(1,2),(-1,2)]
 | _=>[(-2,-2),(2,-2),(0,0),(2,2),(-2,2)]
def shD (p:Int × Int):List Dat:=[.int .i64 p.1,.int .i64 p.2]
def shA (l:List (Int × Int)):AV:=.dslice l.length 2 (fun i=>shD (l.getD i (0,0)))
def shJ (l:List (Int × Int)) (v:AV) (M:Mem):Bool:=match v with
 | .slice b o n c _=>Nat.beq o 0&&Nat.beq n l.length&&Nat.ble n c&&(match M.t.get b with | some (.row row _ _)=>beqAs row (toAVs (l.map shD).flatten) | _=>false)
 | _=>false
def shRun (k:Nat):Bool:=@Eng.exec Cl Tryz.prog X1 [] 60 Tryz.f66.ntmps (codeOf Tryz.f66) (mkFr (argSlots [.int .u8 (.ofNat k)] 0)) (mkMem (rowsOf [])) (fun o fr M=>@endK o (@resK Cl Tryz.prog fr M Tryz.f66.results.toList fun vs=>shJ (shL (Nat.mod k 4)) (oneOf vs) M))
theorem sh_all:(List.range' 0 256).all shRun=true:=by kernel_rfl
theorem shape_c {k:Nat} (hk:k<256):BSim Tryz.prog 66 [.int .u8 (.ofNat k)] [] [] (shA (shL (k % 4))):=by
 refine @BSim.exec Cl Tryz.prog hm X1 (@hX1 Cl) [] (fun _ h=>by cases h) 66 Tryz.f66 okShape [.int .u8 (.ofNat k)] [] [] _ (by rfl) rfl 60 (fun v M=>shJ (shL (k % 4)) v M) (List.all_eq_true.1 sh_all k (List.mem_range'.2 ⟨k,by omega,by omega⟩)) fun v M' hJ=>?_
 refine ⟨?_,fun j r hr=>by cases hr⟩
 unfold shJ at hJ
 split at hJ
 ·rename_i b o n c op
  simp only [Bool.and_eq_true] at hJ
  obtain ⟨⟨⟨h1,h2⟩,h3⟩,h4⟩:=hJ
  have h1:=Nat.eq_of_beq_eq_true h1
  have h2:=Nat.eq_of_beq_eq_true h2
  have h3:=Nat.le_of_ble_eq_true h3
  subst h1 h2
  split at h4
  ·rename_i row op' sz hb
   have e:=beqAs_sound _ _ h4
   subst e
   exact .dat _ (.slice _ 2 _) (fzd_chunks shD (fun _=>rfl) _ (0,0) (Nat.zero_le _) hb h3)
  ·cases h4
 ·cases hJ
def areaA (a:Area):AV:=.agg (toAVs (areaD a))
def eSh (k n:Nat) (p q:Nat→Int):FuncId × SEnt:=(66,⟨[.int .u8 (.ofNat k)],[],.dslice n 2 (fun i=>[.int .i64 (p i),.int .i64 (q i)])⟩)
def eVx (x y:Rt) (n m:Int) (x' y':Rt):FuncId × SEnt:=(67,⟨[ptA x y,.int .i64 n,.int .i64 m],[],ptA x' y'⟩)
def eRl (z:Int) (m:List UInt8):FuncId × SEnt:=(65,⟨[.int .i64 z],[],realA (tR m)⟩)
def rgT (a:Area):Int:=zm a.t 16
def rgL (a:Area):Int:=Int.add 1 (zm a.l 24)
def rgS (a:Area):Int:=Int.add 1 (zm a.z 12)
def rgG (a:Area):Int:=(rgS a).add (zm a.g 8)
def rgHd (a:Area) (n:Nat) (p q:Nat→Int) (m1 m2:List UInt8) (x y x' y':Rt):List (FuncId × SEnt) :=
 [eSa (rgT a) (zm a.x 64) (zm a.y 64) (tR m1) x y,eSa ((rgT a).add (rgL a)) (zm a.u 64) (zm a.v 64) (tR m2) x' y',eRl (rgT a) m1,eRl ((rgT a).add (rgL a)) m2,eSh a.k n p q]
def rgV (a:Area) (i:Nat) (p q:Nat→Int) (m1 m2:List UInt8) (x y x' y':Rt) (v w v' w':Nat→Rt) (f:Nat→Ln):List (FuncId × SEnt) :=
 [eVx x y ((rgS a).mul (p i)) ((rgS a).mul (q i)) (v i) (w i),eVx x' y' ((rgG a).mul (p i)) ((rgG a).mul (q i)) (v' i) (w' i),eTh (tR m1) (v i) (w i) (tR m2) (v' i) (w' i) (f i)]
theorem rg_3 (a:Area) (p q:Nat→Int) (m1 m2:List UInt8) (x y x' y':Rt) (v w v' w':Nat→Rt) (f:Nat→Ln) (I:AK):@runC Sl Tryz.f46 [eSa (rgT a) (zm a.x 64) (zm a.y 64) (tR m1) x y,eSa ((rgT a).add (rgL a)) (zm a.u 64) (zm a.v 64) (tR m2) x' y',eRl (rgT a) m1,eRl ((rgT a).add (rgL a)) m2,eSh a.k 3 p q,eVx x y ((rgS a).mul (p 0)) ((rgS a).mul (q 0)) (v 0) (w 0),eVx x' y' ((rgG a).mul (p 0)) ((rgG a).mul (q 0)) (v' 0) (w' 0),eTh (tR m1) (v 0) (w 0) (tR m2) (v' 0) (w' 0) (f 0),eVx x y ((rgS a).mul (p 1)) ((rgS a).mul (q 1)) (v 1) (w 1),eVx x' y' ((rgG a).mul (p 1)) ((rgG a).mul (q 1)) (v' 1) (w' 1),eTh (tR m1) (v 1) (w 1) (tR m2) (v' 1) (w' 1) (f 1),eVx x y ((rgS a).mul (p 2)) ((rgS a).mul (q 2)) (v 2) (w 2),eVx x' y' ((rgG a).mul (p 2)) ((rgG a).mul (q 2)) (v' 2) (w' 2),eTh (tR m1) (v 2) (w 2) (tR m2) (v' 2) (w' 2) (f 2)] [areaA a] [52,51] I=gB (inI64 (Int.add 1 (IntKind.i64.wrap ((Int.ofNat a.l).tmod 24)))) (gB (inI64 (Int.add 1 (IntKind.i64.wrap ((Int.ofNat a.z).tmod 12)))) (gX ((eSa (rgT a) (zm a.x 64) (zm a.y 64) (tR m1) x y).snd.args) (gB (inI64 ((IntKind.i64.wrap ((Int.ofNat a.t).tmod 16)).add (Int.add 1 (IntKind.i64.wrap ((Int.ofNat a.l).tmod 24))))) (gX ((eSa ((rgT a).add (rgL a)) (zm a.u 64) (zm a.v 64) (tR m2) x' y').snd.args) (gB (gB (gB (gX (AV.int IntKind.u8 (Int.ofNat a.v)) true) true) (gB (gB (gX (AV.int IntKind.u8 (Int.ofNat a.u)) true) true) true)) (gX ((eRl (rgT a) m1).snd.args) (gB (inI64 ((IntKind.i64.wrap ((Int.ofNat a.t).tmod 16)).add (Int.add 1 (IntKind.i64.wrap ((Int.ofNat a.l).tmod 24))))) (gX ((eRl ((rgT a).add (rgL a)) m2).snd.args) (gX ((eSh a.k 3 p q).snd.args) (gB (gB (gB (gX (AV.agg [AV.bool false,strA m2,AV.bool false,strA [],AV.bool x'.neg,strA x'.mag,AV.bool x'.dneg,strA x'.dmag,AV.bool y'.neg,strA y'.mag,AV.bool y'.dneg,strA y'.dmag]) true) true) true) (gB (inI64 ((Int.add 1 (IntKind.i64.wrap ((Int.ofNat a.z).tmod 12))).mul (p 0))) (gB (inI64 ((Int.add 1 (IntKind.i64.wrap ((Int.ofNat a.z).tmod 12))).mul (q 0))) (gX ((eVx x y ((rgS a).mul (p 0)) ((rgS a).mul (q 0)) (v 0) (w 0)).snd.args) (gB (inI64 ((Int.add 1 (IntKind.i64.wrap ((Int.ofNat a.z).tmod 12))).add (IntKind.i64.wrap ((Int.ofNat a.g).tmod 8)))) (gB (inI64 (((Int.add 1 (IntKind.i64.wrap ((Int.ofNat a.z).tmod 12))).add (IntKind.i64.wrap ((Int.ofNat a.g).tmod 8))).mul (p 0))) (gB (inI64 ((Int.add 1 (IntKind.i64.wrap ((Int.ofNat a.z).tmod 12))).add (IntKind.i64.wrap ((Int.ofNat a.g).tmod 8)))) (gB (inI64 (((Int.add 1 (IntKind.i64.wrap ((Int.ofNat a.z).tmod 12))).add (IntKind.i64.wrap ((Int.ofNat a.g).tmod 8))).mul (q 0))) (gX ((eVx x' y' ((rgG a).mul (p 0)) ((rgG a).mul (q 0)) (v' 0) (w' 0)).snd.args) (gX ((eTh (tR m1) (v 0) (w 0) (tR m2) (v' 0) (w' 0) (f 0)).snd.args) (gB (gB (gB (gX AV.nilSlice true) (gB (gX AV.nilSlice true) true)) true) (gB (gB (gB (gX (AV.agg [AV.bool false,strA m2,AV.bool false,strA [],AV.bool x'.neg,strA x'.mag,AV.bool x'.dneg,strA x'.dmag,AV.bool y'.neg,strA y'.mag,AV.bool y'.dneg,strA y'.dmag]) true) true) true) (gB (inI64 ((Int.add 1 (IntKind.i64.wrap ((Int.ofNat a.z).tmod 12))).mul (p (0+1)))) (gB (inI64 ((Int.add 1 (IntKind.i64.wrap ((Int.ofNat a.z).tmod 12))).mul (q (0+1)))) (gX ((eVx x y ((rgS a).mul (p 1)) ((rgS a).mul (q 1)) (v 1) (w 1)).snd.args) (gB (inI64 ((Int.add 1 (IntKind.i64.wrap ((Int.ofNat a.z).tmod 12))).add (IntKind.i64.wrap ((Int.ofNat a.g).tmod 8)))) (gB (inI64 (((Int.add 1 (IntKind.i64.wrap ((Int.ofNat a.z).tmod 12))).add (IntKind.i64.wrap ((Int.ofNat a.g).tmod 8))).mul (p (0+1)))) (gB (inI64 ((Int.add 1 (IntKind.i64.wrap ((Int.ofNat a.z).tmod 12))).add (IntKind.i64.wrap ((Int.ofNat a.g).tmod 8)))) (gB (inI64 (((Int.add 1 (IntKind.i64.wrap ((Int.ofNat a.z).tmod 12))).add (IntKind.i64.wrap ((Int.ofNat a.g).tmod 8))).mul (q (0+1)))) (gX ((eVx x' y' ((rgG a).mul (p 1)) ((rgG a).mul (q 1)) (v' 1) (w' 1)).snd.args) (gX ((eTh (tR m1) (v 1) (w 1) (tR m2) (v' 1) (w' 1) (f 1)).snd.args) (gateP ((Nat.ble 2 1)=false) (gB (gB (gB (gX (AV.slice 35 0 1 1 true) true) (gB (gX (AV.slice 35 0 1 1 true) true) true)) true) (gB (gB (gB (gX (AV.agg [AV.bool false,strA m2,AV.bool false,strA [],AV.bool x'.neg,strA x'.mag,AV.bool x'.dneg,strA x'.dmag,AV.bool y'.neg,strA y'.mag,AV.bool y'.dneg,strA y'.dmag]) true) true) true) (gB (inI64 ((Int.add 1 (IntKind.i64.wrap ((Int.ofNat a.z).tmod 12))).mul (p (0+1+1)))) (gB (inI64 ((Int.add 1 (IntKind.i64.wrap ((Int.ofNat a.z).tmod 12))).mul (q (0+1+1)))) (gX ((eVx x y ((rgS a).mul (p 2)) ((rgS a).mul (q 2)) (v 2) (w 2)).snd.args) (gB (inI64 ((Int.add 1 (IntKind.i64.wrap ((Int.ofNat a.z).tmod 12))).add (IntKind.i64.wrap ((Int.ofNat a.g).tmod 8)))) (gB (inI64 (((Int.add 1 (IntKind.i64.wrap ((Int.ofNat a.z).tmod 12))).add (IntKind.i64.wrap ((Int.ofNat a.g).tmod 8))).mul (p (0+1+1)))) (gB (inI64 ((Int.add 1 (IntKind.i64.wrap ((Int.ofNat a.z).tmod 12))).add (IntKind.i64.wrap ((Int.ofNat a.g).tmod 8)))) (gB (inI64 (((Int.add 1 (IntKind.i64.wrap ((Int.ofNat a.z).tmod 12))).add (IntKind.i64.wrap ((Int.ofNat a.g).tmod 8))).mul (q (0+1+1)))) (gX ((eVx x' y' ((rgG a).mul (p 2)) ((rgG a).mul (q 2)) (v' 2) (w' 2)).snd.args) (gX ((eTh (tR m1) (v 2) (w 2) (tR m2) (v' 2) (w' 2) (f 2)).snd.args) (gateP ((Nat.ble 3 2)=false) (gB (gB (gB (gX (AV.slice 43 0 2 2 true) true) (gB (gX (AV.slice 43 0 2 2 true) true) true)) true) (I (.slice 52 0 1 1 false) [some (.row [.bool false,strA m1,.bool false,strA [],.bool false,strA [],.bool false,strA [],.bool false,.bool false,strA m2,.bool false,strA [],.bool false,strA [],.bool false,strA [],.bool false,.bool false,.bool false,.slice 51 0 3 3 true,.nilSlice] false 22),some (.row (toAVs (([f 0,f 1,f 2]:List Ln).map lnD).flatten) true 16)]))))))))))))))))))))))))))))))))))))))))))))):=by kernel_rfl
theorem rg_4 (a:Area) (p q:Nat→Int) (m1 m2:List UInt8) (x y x' y':Rt) (v w v' w':Nat→Rt) (f:Nat→Ln) (I:AK):@runC Sl Tryz.f46 [eSa (rgT a) (zm a.x 64) (zm a.y 64) (tR m1) x y,eSa ((rgT a).add (rgL a)) (zm a.u 64) (zm a.v 64) (tR m2) x' y',eRl (rgT a) m1,eRl ((rgT a).add (rgL a)) m2,eSh a.k 4 p q,eVx x y ((rgS a).mul (p 0)) ((rgS a).mul (q 0)) (v 0) (w 0),eVx x' y' ((rgG a).mul (p 0)) ((rgG a).mul (q 0)) (v' 0) (w' 0),eTh (tR m1) (v 0) (w 0) (tR m2) (v' 0) (w' 0) (f 0),eVx x y ((rgS a).mul (p 1)) ((rgS a).mul (q 1)) (v 1) (w 1),eVx x' y' ((rgG a).mul (p 1)) ((rgG a).mul (q 1)) (v' 1) (w' 1),eTh (tR m1) (v 1) (w 1) (tR m2) (v' 1) (w' 1) (f 1),eVx x y ((rgS a).mul (p 2)) ((rgS a).mul (q 2)) (v 2) (w 2),eVx x' y' ((rgG a).mul (p 2)) ((rgG a).mul (q 2)) (v' 2) (w' 2),eTh (tR m1) (v 2) (w 2) (tR m2) (v' 2) (w' 2) (f 2),eVx x y ((rgS a).mul (p 3)) ((rgS a).mul (q 3)) (v 3) (w 3),eVx x' y' ((rgG a).mul (p 3)) ((rgG a).mul (q 3)) (v' 3) (w' 3),eTh (tR m1) (v 3) (w 3) (tR m2) (v' 3) (w' 3) (f 3)] [areaA a] [60,59] I=gB (inI64 (Int.add 1 (IntKind.i64.wrap ((Int.ofNat a.l).tmod 24)))) (gB (inI64 (Int.add 1 (IntKind.i64.wrap ((Int.ofNat a.z).tmod 12)))) (gX ((eSa (rgT a) (zm a.x 64) (zm a.y 64) (tR m1) x y).snd.args) (gB (inI64 ((IntKind.i64.wrap ((Int.ofNat a.t).tmod 16)).add (Int.add 1 (IntKind.i64.wrap ((Int.ofNat a.l).tmod 24))))) (gX ((eSa ((rgT a).add (rgL a)) (zm a.u 64) (zm a.v 64) (tR m2) x' y').snd.args) (gB (gB (gB (gX (AV.int IntKind.u8 (Int.ofNat a.v)) true) true) (gB (gB (gX (AV.int IntKind.u8 (Int.ofNat a.u)) true) true) true)) (gX ((eRl (rgT a) m1).snd.args) (gB (inI64 ((IntKind.i64.wrap ((Int.ofNat a.t).tmod 16)).add (Int.add 1 (IntKind.i64.wrap ((Int.ofNat a.l).tmod 24))))) (gX ((eRl ((rgT a).add (rgL a)) m2).snd.args) (gX ((eSh a.k 4 p q).snd.args) (gB (gB (gB (gX (AV.agg [AV.bool false,strA m2,AV.bool false,strA [],AV.bool x'.neg,strA x'.mag,AV.bool x'.dneg,strA x'.dmag,AV.bool y'.neg,strA y'.mag,AV.bool y'.dneg,strA y'.dmag]) true) true) true) (gB (inI64 ((Int.add 1 (IntKind.i64.wrap ((Int.ofNat a.z).tmod 12))).mul (p 0))) (gB (inI64 ((Int.add 1 (IntKind.i64.wrap ((Int.ofNat a.z).tmod 12))).mul (q 0))) (gX ((eVx x y ((rgS a).mul (p 0)) ((rgS a).mul (q 0)) (v 0) (w 0)).snd.args) (gB (inI64 ((Int.add 1 (IntKind.i64.wrap ((Int.ofNat a.z).tmod 12))).add (IntKind.i64.wrap ((Int.ofNat a.g).tmod 8)))) (gB (inI64 (((Int.add 1 (IntKind.i64.wrap ((Int.ofNat a.z).tmod 12))).add (IntKind.i64.wrap ((Int.ofNat a.g).tmod 8))).mul (p 0))) (gB (inI64 ((Int.add 1 (IntKind.i64.wrap ((Int.ofNat a.z).tmod 12))).add (IntKind.i64.wrap ((Int.ofNat a.g).tmod 8)))) (gB (inI64 (((Int.add 1 (IntKind.i64.wrap ((Int.ofNat a.z).tmod 12))).add (IntKind.i64.wrap ((Int.ofNat a.g).tmod 8))).mul (q 0))) (gX ((eVx x' y' ((rgG a).mul (p 0)) ((rgG a).mul (q 0)) (v' 0) (w' 0)).snd.args) (gX ((eTh (tR m1) (v 0) (w 0) (tR m2) (v' 0) (w' 0) (f 0)).snd.args) (gB (gB (gB (gX AV.nilSlice true) (gB (gX AV.nilSlice true) true)) true) (gB (gB (gB (gX (AV.agg [AV.bool false,strA m2,AV.bool false,strA [],AV.bool x'.neg,strA x'.mag,AV.bool x'.dneg,strA x'.dmag,AV.bool y'.neg,strA y'.mag,AV.bool y'.dneg,strA y'.dmag]) true) true) true) (gB (inI64 ((Int.add 1 (IntKind.i64.wrap ((Int.ofNat a.z).tmod 12))).mul (p (0+1)))) (gB (inI64 ((Int.add 1 (IntKind.i64.wrap ((Int.ofNat a.z).tmod 12))).mul (q (0+1)))) (gX ((eVx x y ((rgS a).mul (p 1)) ((rgS a).mul (q 1)) (v 1) (w 1)).snd.args) (gB (inI64 ((Int.add 1 (IntKind.i64.wrap ((Int.ofNat a.z).tmod 12))).add (IntKind.i64.wrap ((Int.ofNat a.g).tmod 8)))) (gB (inI64 (((Int.add 1 (IntKind.i64.wrap ((Int.ofNat a.z).tmod 12))).add (IntKind.i64.wrap ((Int.ofNat a.g).tmod 8))).mul (p (0+1)))) (gB (inI64 ((Int.add 1 (IntKind.i64.wrap ((Int.ofNat a.z).tmod 12))).add (IntKind.i64.wrap ((Int.ofNat a.g).tmod 8)))) (gB (inI64 (((Int.add 1 (IntKind.i64.wrap ((Int.ofNat a.z).tmod 12))).add (IntKind.i64.wrap ((Int.ofNat a.g).tmod 8))).mul (q (0+1)))) (gX ((eVx x' y' ((rgG a).mul (p 1)) ((rgG a).mul (q 1)) (v' 1) (w' 1)).snd.args) (gX ((eTh (tR m1) (v 1) (w 1) (tR m2) (v' 1) (w' 1) (f 1)).snd.args) (gateP ((Nat.ble 2 1)=false) (gB (gB (gB (gX (AV.slice 35 0 1 1 true) true) (gB (gX (AV.slice 35 0 1 1 true) true) true)) true) (gB (gB (gB (gX (AV.agg [AV.bool false,strA m2,AV.bool false,strA [],AV.bool x'.neg,strA x'.mag,AV.bool x'.dneg,strA x'.dmag,AV.bool y'.neg,strA y'.mag,AV.bool y'.dneg,strA y'.dmag]) true) true) true) (gB (inI64 ((Int.add 1 (IntKind.i64.wrap ((Int.ofNat a.z).tmod 12))).mul (p (0+1+1)))) (gB (inI64 ((Int.add 1 (IntKind.i64.wrap ((Int.ofNat a.z).tmod 12))).mul (q (0+1+1)))) (gX ((eVx x y ((rgS a).mul (p 2)) ((rgS a).mul (q 2)) (v 2) (w 2)).snd.args) (gB (inI64 ((Int.add 1 (IntKind.i64.wrap ((Int.ofNat a.z).tmod 12))).add (IntKind.i64.wrap ((Int.ofNat a.g).tmod 8)))) (gB (inI64 (((Int.add 1 (IntKind.i64.wrap ((Int.ofNat a.z).tmod 12))).add (IntKind.i64.wrap ((Int.ofNat a.g).tmod 8))).mul (p (0+1+1)))) (gB (inI64 ((Int.add 1 (IntKind.i64.wrap ((Int.ofNat a.z).tmod 12))).add (IntKind.i64.wrap ((Int.ofNat a.g).tmod 8)))) (gB (inI64 (((Int.add 1 (IntKind.i64.wrap ((Int.ofNat a.z).tmod 12))).add (IntKind.i64.wrap ((Int.ofNat a.g).tmod 8))).mul (q (0+1+1)))) (gX ((eVx x' y' ((rgG a).mul (p 2)) ((rgG a).mul (q 2)) (v' 2) (w' 2)).snd.args) (gX ((eTh (tR m1) (v 2) (w 2) (tR m2) (v' 2) (w' 2) (f 2)).snd.args) (gateP ((Nat.ble 3 2)=false) (gB (gB (gB (gX (AV.slice 43 0 2 2 true) true) (gB (gX (AV.slice 43 0 2 2 true) true) true)) true) (gB (gB (gB (gX (AV.agg [AV.bool false,strA m2,AV.bool false,strA [],AV.bool x'.neg,strA x'.mag,AV.bool x'.dneg,strA x'.dmag,AV.bool y'.neg,strA y'.mag,AV.bool y'.dneg,strA y'.dmag]) true) true) true) (gB (inI64 ((Int.add 1 (IntKind.i64.wrap ((Int.ofNat a.z).tmod 12))).mul (p (0+1+1+1)))) (gB (inI64 ((Int.add 1 (IntKind.i64.wrap ((Int.ofNat a.z).tmod 12))).mul (q (0+1+1+1)))) (gX ((eVx x y ((rgS a).mul (p 3)) ((rgS a).mul (q 3)) (v 3) (w 3)).snd.args) (gB (inI64 ((Int.add 1 (IntKind.i64.wrap ((Int.ofNat a.z).tmod 12))).add (IntKind.i64.wrap ((Int.ofNat a.g).tmod 8)))) (gB (inI64 (((Int.add 1 (IntKind.i64.wrap ((Int.ofNat a.z).tmod 12))).add (IntKind.i64.wrap ((Int.ofNat a.g).tmod 8))).mul (p (0+1+1+1)))) (gB (inI64 ((Int.add 1 (IntKind.i64.wrap ((Int.ofNat a.z).tmod 12))).add (IntKind.i64.wrap ((Int.ofNat a.g).tmod 8)))) (gB (inI64 (((Int.add 1 (IntKind.i64.wrap ((Int.ofNat a.z).tmod 12))).add (IntKind.i64.wrap ((Int.ofNat a.g).tmod 8))).mul (q (0+1+1+1)))) (gX ((eVx x' y' ((rgG a).mul (p 3)) ((rgG a).mul (q 3)) (v' 3) (w' 3)).snd.args) (gX ((eTh (tR m1) (v 3) (w 3) (tR m2) (v' 3) (w' 3) (f 3)).snd.args) (gateP ((Nat.ble 4 3)=false) (gB (gB (gB (gX (AV.slice 51 0 3 3 true) true) (gB (gX (AV.slice 51 0 3 3 true) true) true)) true) (I (.slice 60 0 1 1 false) [some (.row [.bool false,strA m1,.bool false,strA [],.bool false,strA [],.bool false,strA [],.bool false,.bool false,strA m2,.bool false,strA [],.bool false,strA [],.bool false,strA [],.bool false,.bool false,.bool false,.slice 59 0 4 4 true,.nilSlice] false 22),some (.row (toAVs (([f 0,f 1,f 2,f 3]:List Ln).map lnD).flatten) true 16)]))))))))))))))))))))))))))))))))))))))))))))))))))))))))):=by kernel_rfl
theorem rg_5 (a:Area) (p q:Nat→Int) (m1 m2:List UInt8) (x y x' y':Rt) (v w v' w':Nat→Rt) (f:Nat→Ln) (I:AK):@runC Sl Tryz.f46 [eSa (rgT a) (zm a.x 64) (zm a.y 64) (tR m1) x y,eSa ((rgT a).add (rgL a)) (zm a.u 64) (zm a.v 64) (tR m2) x' y',eRl (rgT a) m1,eRl ((rgT a).add (rgL a)) m2,eSh a.k 5 p q,eVx x y ((rgS a).mul (p 0)) ((rgS a).mul (q 0)) (v 0) (w 0),eVx x' y' ((rgG a).mul (p 0)) ((rgG a).mul (q 0)) (v' 0) (w' 0),eTh (tR m1) (v 0) (w 0) (tR m2) (v' 0) (w' 0) (f 0),eVx x y ((rgS a).mul (p 1)) ((rgS a).mul (q 1)) (v 1) (w 1),eVx x' y' ((rgG a).mul (p 1)) ((rgG a).mul (q 1)) (v' 1) (w' 1),eTh (tR m1) (v 1) (w 1) (tR m2) (v' 1) (w' 1) (f 1),eVx x y ((rgS a).mul (p 2)) ((rgS a).mul (q 2)) (v 2) (w 2),eVx x' y' ((rgG a).mul (p 2)) ((rgG a).mul (q 2)) (v' 2) (w' 2),eTh (tR m1) (v 2) (w 2) (tR m2) (v' 2) (w' 2) (f 2),eVx x y ((rgS a).mul (p 3)) ((rgS a).mul (q 3)) (v 3) (w 3),eVx x' y' ((rgG a).mul (p 3)) ((rgG a).mul (q 3)) (v' 3) (w' 3),eTh (tR m1) (v 3) (w 3) (tR m2) (v' 3) (w' 3) (f 3),eVx x y ((rgS a).mul (p 4)) ((rgS a).mul (q 4)) (v 4) (w 4),eVx x' y' ((rgG a).mul (p 4)) ((rgG a).mul (q 4)) (v' 4) (w' 4),eTh (tR m1) (v 4) (w 4) (tR m2) (v' 4) (w' 4) (f 4)] [areaA a] [68,67] I=gB (inI64 (Int.add 1 (IntKind.i64.wrap ((Int.ofNat a.l).tmod 24)))) (gB (inI64 (Int.add 1 (IntKind.i64.wrap ((Int.ofNat a.z).tmod 12)))) (gX ((eSa (rgT a) (zm a.x 64) (zm a.y 64) (tR m1) x y).snd.args) (gB (inI64 ((IntKind.i64.wrap ((Int.ofNat a.t).tmod 16)).add (Int.add 1 (IntKind.i64.wrap ((Int.ofNat a.l).tmod 24))))) (gX ((eSa ((rgT a).add (rgL a)) (zm a.u 64) (zm a.v 64) (tR m2) x' y').snd.args) (gB (gB (gB (gX (AV.int IntKind.u8 (Int.ofNat a.v)) true) true) (gB (gB (gX (AV.int IntKind.u8 (Int.ofNat a.u)) true) true) true)) (gX ((eRl (rgT a) m1).snd.args) (gB (inI64 ((IntKind.i64.wrap ((Int.ofNat a.t).tmod 16)).add (Int.add 1 (IntKind.i64.wrap ((Int.ofNat a.l).tmod 24))))) (gX ((eRl ((rgT a).add (rgL a)) m2).snd.args) (gX ((eSh a.k 5 p q).snd.args) (gB (gB (gB (gX (AV.agg [AV.bool false,strA m2,AV.bool false,strA [],AV.bool x'.neg,strA x'.mag,AV.bool x'.dneg,strA x'.dmag,AV.bool y'.neg,strA y'.mag,AV.bool y'.dneg,strA y'.dmag]) true) true) true) (gB (inI64 ((Int.add 1 (IntKind.i64.wrap ((Int.ofNat a.z).tmod 12))).mul (p 0))) (gB (inI64 ((Int.add 1 (IntKind.i64.wrap ((Int.ofNat a.z).tmod 12))).mul (q 0))) (gX ((eVx x y ((rgS a).mul (p 0)) ((rgS a).mul (q 0)) (v 0) (w 0)).snd.args) (gB (inI64 ((Int.add 1 (IntKind.i64.wrap ((Int.ofNat a.z).tmod 12))).add (IntKind.i64.wrap ((Int.ofNat a.g).tmod 8)))) (gB (inI64 (((Int.add 1 (IntKind.i64.wrap ((Int.ofNat a.z).tmod 12))).add (IntKind.i64.wrap ((Int.ofNat a.g).tmod 8))).mul (p 0))) (gB (inI64 ((Int.add 1 (IntKind.i64.wrap ((Int.ofNat a.z).tmod 12))).add (IntKind.i64.wrap ((Int.ofNat a.g).tmod 8)))) (gB (inI64 (((Int.add 1 (IntKind.i64.wrap ((Int.ofNat a.z).tmod 12))).add (IntKind.i64.wrap ((Int.ofNat a.g).tmod 8))).mul (q 0))) (gX ((eVx x' y' ((rgG a).mul (p 0)) ((rgG a).mul (q 0)) (v' 0) (w' 0)).snd.args) (gX ((eTh (tR m1) (v 0) (w 0) (tR m2) (v' 0) (w' 0) (f 0)).snd.args) (gB (gB (gB (gX AV.nilSlice true) (gB (gX AV.nilSlice true) true)) true) (gB (gB (gB (gX (AV.agg [AV.bool false,strA m2,AV.bool false,strA [],AV.bool x'.neg,strA x'.mag,AV.bool x'.dneg,strA x'.dmag,AV.bool y'.neg,strA y'.mag,AV.bool y'.dneg,strA y'.dmag]) true) true) true) (gB (inI64 ((Int.add 1 (IntKind.i64.wrap ((Int.ofNat a.z).tmod 12))).mul (p (0+1)))) (gB (inI64 ((Int.add 1 (IntKind.i64.wrap ((Int.ofNat a.z).tmod 12))).mul (q (0+1)))) (gX ((eVx x y ((rgS a).mul (p 1)) ((rgS a).mul (q 1)) (v 1) (w 1)).snd.args) (gB (inI64 ((Int.add 1 (IntKind.i64.wrap ((Int.ofNat a.z).tmod 12))).add (IntKind.i64.wrap ((Int.ofNat a.g).tmod 8)))) (gB (inI64 (((Int.add 1 (IntKind.i64.wrap ((Int.ofNat a.z).tmod 12))).add (IntKind.i64.wrap ((Int.ofNat a.g).tmod 8))).mul (p (0+1)))) (gB (inI64 ((Int.add 1 (IntKind.i64.wrap ((Int.ofNat a.z).tmod 12))).add (IntKind.i64.wrap ((Int.ofNat a.g).tmod 8)))) (gB (inI64 (((Int.add 1 (IntKind.i64.wrap ((Int.ofNat a.z).tmod 12))).add (IntKind.i64.wrap ((Int.ofNat a.g).tmod 8))).mul (q (0+1)))) (gX ((eVx x' y' ((rgG a).mul (p 1)) ((rgG a).mul (q 1)) (v' 1) (w' 1)).snd.args) (gX ((eTh (tR m1) (v 1) (w 1) (tR m2) (v' 1) (w' 1) (f 1)).snd.args) (gateP ((Nat.ble 2 1)=false) (gB (gB (gB (gX (AV.slice 35 0 1 1 true) true) (gB (gX (AV.slice 35 0 1 1 true) true) true)) true) (gB (gB (gB (gX (AV.agg [AV.bool false,strA m2,AV.bool false,strA [],AV.bool x'.neg,strA x'.mag,AV.bool x'.dneg,strA x'.dmag,AV.bool y'.neg,strA y'.mag,AV.bool y'.dneg,strA y'.dmag]) true) true) true) (gB (inI64 ((Int.add 1 (IntKind.i64.wrap ((Int.ofNat a.z).tmod 12))).mul (p (0+1+1)))) (gB (inI64 ((Int.add 1 (IntKind.i64.wrap ((Int.ofNat a.z).tmod 12))).mul (q (0+1+1)))) (gX ((eVx x y ((rgS a).mul (p 2)) ((rgS a).mul (q 2)) (v 2) (w 2)).snd.args) (gB (inI64 ((Int.add 1 (IntKind.i64.wrap ((Int.ofNat a.z).tmod 12))).add (IntKind.i64.wrap ((Int.ofNat a.g).tmod 8)))) (gB (inI64 (((Int.add 1 (IntKind.i64.wrap ((Int.ofNat a.z).tmod 12))).add (IntKind.i64.wrap ((Int.ofNat a.g).tmod 8))).mul (p (0+1+1)))) (gB (inI64 ((Int.add 1 (IntKind.i64.wrap ((Int.ofNat a.z).tmod 12))).add (IntKind.i64.wrap ((Int.ofNat a.g).tmod 8)))) (gB (inI64 (((Int.add 1 (IntKind.i64.wrap ((Int.ofNat a.z).tmod 12))).add (IntKind.i64.wrap ((Int.ofNat a.g).tmod 8))).mul (q (0+1+1)))) (gX ((eVx x' y' ((rgG a).mul (p 2)) ((rgG a).mul (q 2)) (v' 2) (w' 2)).snd.args) (gX ((eTh (tR m1) (v 2) (w 2) (tR m2) (v' 2) (w' 2) (f 2)).snd.args) (gateP ((Nat.ble 3 2)=false) (gB (gB (gB (gX (AV.slice 43 0 2 2 true) true) (gB (gX (AV.slice 43 0 2 2 true) true) true)) true) (gB (gB (gB (gX (AV.agg [AV.bool false,strA m2,AV.bool false,strA [],AV.bool x'.neg,strA x'.mag,AV.bool x'.dneg,strA x'.dmag,AV.bool y'.neg,strA y'.mag,AV.bool y'.dneg,strA y'.dmag]) true) true) true) (gB (inI64 ((Int.add 1 (IntKind.i64.wrap ((Int.ofNat a.z).tmod 12))).mul (p (0+1+1+1)))) (gB (inI64 ((Int.add 1 (IntKind.i64.wrap ((Int.ofNat a.z).tmod 12))).mul (q (0+1+1+1)))) (gX ((eVx x y ((rgS a).mul (p 3)) ((rgS a).mul (q 3)) (v 3) (w 3)).snd.args) (gB (inI64 ((Int.add 1 (IntKind.i64.wrap ((Int.ofNat a.z).tmod 12))).add (IntKind.i64.wrap ((Int.ofNat a.g).tmod 8)))) (gB (inI64 (((Int.add 1 (IntKind.i64.wrap ((Int.ofNat a.z).tmod 12))).add (IntKind.i64.wrap ((Int.ofNat a.g).tmod 8))).mul (p (0+1+1+1)))) (gB (inI64 ((Int.add 1 (IntKind.i64.wrap ((Int.ofNat a.z).tmod 12))).add (IntKind.i64.wrap ((Int.ofNat a.g).tmod 8)))) (gB (inI64 (((Int.add 1 (IntKind.i64.wrap ((Int.ofNat a.z).tmod 12))).add (IntKind.i64.wrap ((Int.ofNat a.g).tmod 8))).mul (q (0+1+1+1)))) (gX ((eVx x' y' ((rgG a).mul (p 3)) ((rgG a).mul (q 3)) (v' 3) (w' 3)).snd.args) (gX ((eTh (tR m1) (v 3) (w 3) (tR m2) (v' 3) (w' 3) (f 3)).snd.args) (gateP ((Nat.ble 4 3)=false) (gB (gB (gB (gX (AV.slice 51 0 3 3 true) true) (gB (gX (AV.slice 51 0 3 3 true) true) true)) true) (gB (gB (gB (gX (AV.agg [AV.bool false,strA m2,AV.bool false,strA [],AV.bool x'.neg,strA x'.mag,AV.bool x'.dneg,strA x'.dmag,AV.bool y'.neg,strA y'.mag,AV.bool y'.dneg,strA y'.dmag]) true) true) true) (gB (inI64 ((Int.add 1 (IntKind.i64.wrap ((Int.ofNat a.z).tmod 12))).mul (p (0+1+1+1+1)))) (gB (inI64 ((Int.add 1 (IntKind.i64.wrap ((Int.ofNat a.z).tmod 12))).mul (q (0+1+1+1+1)))) (gX ((eVx x y ((rgS a).mul (p 4)) ((rgS a).mul (q 4)) (v 4) (w 4)).snd.args) (gB (inI64 ((Int.add 1 (IntKind.i64.wrap ((Int.ofNat a.z).tmod 12))).add (IntKind.i64.wrap ((Int.ofNat a.g).tmod 8)))) (gB (inI64 (((Int.add 1 (IntKind.i64.wrap ((Int.ofNat a.z).tmod 12))).add (IntKind.i64.wrap ((Int.ofNat a.g).tmod 8))).mul (p (0+1+1+1+1)))) (gB (inI64 ((Int.add 1 (IntKind.i64.wrap ((Int.ofNat a.z).tmod 12))).add (IntKind.i64.wrap ((Int.ofNat a.g).tmod 8)))) (gB (inI64 (((Int.add 1 (IntKind.i64.wrap ((Int.ofNat a.z).tmod 12))).add (IntKind.i64.wrap ((Int.ofNat a.g).tmod 8))).mul (q (0+1+1+1+1)))) (gX ((eVx x' y' ((rgG a).mul (p 4)) ((rgG a).mul (q 4)) (v' 4) (w' 4)).snd.args) (gX ((eTh (tR m1) (v 4) (w 4) (tR m2) (v' 4) (w' 4) (f 4)).snd.args) (gateP ((Nat.ble 5 4)=false) (gB (gB (gB (gX (AV.slice 59 0 4 4 true) true) (gB (gX (AV.slice 59 0 4 4 true) true) true)) true) (I (.slice 68 0 1 1 false) [some (.row [.bool false,strA m1,.bool false,strA [],.bool false,strA [],.bool false,strA [],.bool false,.bool false,strA m2,.bool false,strA [],.bool false,strA [],.bool false,strA [],.bool false,.bool false,.bool false,.slice 67 0 5 5 true,.nilSlice] false 22),some (.row (toAVs (([f 0,f 1,f 2,f 3,f 4]:List Ln).map lnD).flatten) true 16)]))))))))))))))))))))))))))))))))))))))))))))))))))))))))))))))))))))):=by kernel_rfl
theorem FzDs.app {k:Nat} {M:Mem} {l:List AV} {m:List Dat} {l':List AV} {m':List Dat} (h:FzDs k M l m) (h':FzDs k M l' m'):FzDs k M (l++l') (m++m'):=by
 induction l generalizing m with
 | nil=>cases h;exact h'
 | cons a l ih=>cases h with | cons _ d _ m h hs=>exact .cons _ _ _ _ h (ih hs)
def rgD (m1 m2:List UInt8) (fs:List Ln):List Dat:=ivD ⟨m1,m2,false,false⟩++[.slice fs.length 16 (fun j=>lnD (fs.getD j lnZ)),.slice 0 1 (fun _=>[])]
theorem rg_leaf (m1 m2:List UInt8) (fs:List Ln) (b b':Nat) {M:Mem} (h:mv [b,b'] M=[some (.row (toAVs (ivD ⟨m1,m2,false,false⟩)++[.slice b' 0 fs.length fs.length true,.nilSlice]) false 22),some (.row (toAVs (fs.map lnD).flatten) true 16)]) :
  FzA 0 M (.slice b 0 1 1 false) (toAV (.slice 1 22 (fun _=>rgD m1 m2 fs))):=by
 obtain ⟨h1,h2⟩:=mv_two' h
 have hlen:(toAVs (ivD ⟨m1,m2,false,false⟩)++[AV.slice b' 0 fs.length fs.length true,.nilSlice]).length=22:=rfl
 refine .dat _ (.slice 1 22 (fun _=>rgD m1 m2 fs)) (.slice b 0 1 1 false _ false 22 22 _ (Nat.zero_le _) h1 (Nat.le_refl _) (by rw [hlen];decide) fun i hi=>?_)
 obtain rfl:i=0:=by omega
 rw [Nat.zero_mul,Nat.add_zero,List.drop_zero,List.take_of_length_le (by rw [hlen];decide)]
 refine FzDs.app (FzDs.sames (ivD ⟨m1,m2,false,false⟩)) (.cons _ _ _ _ ?_ (.cons _ _ _ _ (.nil _ _) .nil))
 exact fzd_chunks lnD (fun _=>rfl) fs lnZ (Nat.zero_le _) h2 (Nat.le_refl _)
theorem shA_0:shA (shL 0)=.dslice 4 2 (fun i=>[.int .i64 ((shL 0).getD i (0,0)).1,.int .i64 ((shL 0).getD i (0,0)).2]):=rfl
theorem shA_1:shA (shL 1)=.dslice 3 2 (fun i=>[.int .i64 ((shL 1).getD i (0,0)).1,.int .i64 ((shL 1).getD i (0,0)).2]):=rfl
theorem shA_2:shA (shL 2)=.dslice 5 2 (fun i=>[.int .i64 ((shL 2).getD i (0,0)).1,.int .i64 ((shL 2).getD i (0,0)).2]):=rfl
theorem shA_3:shA (shL 3)=.dslice 5 2 (fun i=>[.int .i64 ((shL 3).getD i (0,0)).1,.int .i64 ((shL 3).getD i (0,0)).2]):=rfl
theorem rgI (z:Int) (h:z.natAbs≤1000):inI64 z=true:=(inI64_iff z).2 (by omega)
set_option maxRecDepth 100000 in
theorem reg_gen (a:Area) (hk:a.k<256):∃ e:Nat→List Dat,BSim Tryz.prog 46 [areaA a] [] [] (.dslice 1 22 e):=by
 have m16:a.t % 16<16:=Nat.mod_lt _ (by decide)
 have m24:a.l % 24<24:=Nat.mod_lt _ (by decide)
 have m12:a.z % 12<12:=Nat.mod_lt _ (by decide)
 have m8:a.g % 8<8:=Nat.mod_lt _ (by decide)
 have mx:a.x % 64<64:=Nat.mod_lt _ (by decide)
 have my:a.y % 64<64:=Nat.mod_lt _ (by decide)
 have mu:a.u % 64<64:=Nat.mod_lt _ (by decide)
 have mw:a.v % 64<64:=Nat.mod_lt _ (by decide)
 have eT:rgT a=.ofNat (a.t % 16):=zm_eq _ 16 (by decide) (by decide)
 have eL:rgL a=.ofNat (1+a.l % 24):=by unfold rgL;rw [zm_eq _ 24 (by decide) (by decide)];rfl
 have eS:rgS a=.ofNat (1+a.z % 12):=by unfold rgS;rw [zm_eq _ 12 (by decide) (by decide)];rfl
 have eG:rgG a=.ofNat (1+a.z % 12+a.g % 8):=by unfold rgG;rw [eS,zm_eq _ 8 (by decide) (by decide)];rfl
 have eTL:(rgT a).add (rgL a)=.ofNat (a.t % 16+(1+a.l % 24)):=by rw [eT,eL];rfl
 have s1:SSpec Tryz.prog (eSa (rgT a) (zm a.x 64) (zm a.y 64) (tR (mg (a.t % 16))) (qR (a.x % 64:Nat) 1) (qR (a.y % 64:Nat) 1)).1 (eSa (rgT a) (zm a.x 64) (zm a.y 64) (tR (mg (a.t % 16))) (qR (a.x % 64:Nat) 1) (qR (a.y % 64:Nat) 1)).2:=by
  rw [eT,zm_eq _ 64 (by decide) (by decide),zm_eq _ 64 (by decide) (by decide)]
  exact (sample_c (by omega) (by omega) (by omega)).spec0 rfl
 have s2:SSpec Tryz.prog (eSa ((rgT a).add (rgL a)) (zm a.u 64) (zm a.v 64) (tR (mg (a.t % 16+(1+a.l % 24)))) (qR (a.u % 64:Nat) 1) (qR (a.v % 64:Nat) 1)).1 (eSa ((rgT a).add (rgL a)) (zm a.u 64) (zm a.v 64) (tR (mg (a.t % 16+(1+a.l % 24)))) (qR (a.u % 64:Nat) 1) (qR (a.v % 64:Nat) 1)).2:=by
  rw [eTL,zm_eq _ 64 (by decide) (by decide),zm_eq _ 64 (by decide) (by decide)]
  exact (sample_c (by omega) (by omega) (by omega)).spec0 rfl
 have s3:SSpec Tryz.prog (eRl (rgT a) (mg (a.t % 16))).1 (eRl (rgT a) (mg (a.t % 16))).2:=by
  rw [eT];exact (realint_c (by omega)).spec0 rfl
 have s4:SSpec Tryz.prog (eRl ((rgT a).add (rgL a)) (mg (a.t % 16+(1+a.l % 24)))).1 (eRl ((rgT a).add (rgL a)) (mg (a.t % 16+(1+a.l % 24)))).2:=by
  rw [eTL];exact (realint_c (by omega)).spec0 rfl
 have key:∀ (n:Nat) (p q:Nat→Int),(n=3∨n=4∨n=5)→(∀ i,(p i).natAbs≤2∧(q i).natAbs≤2)→SSpec Tryz.prog (eSh a.k n p q).1 (eSh a.k n p q).2→∃ e:Nat→List Dat,BSim Tryz.prog 46 [areaA a] [] [] (.dslice 1 22 e):=by
  intro n p q hn hpq sK
  have hmul:∀ (n:Nat) (z:Int),n≤19→z.natAbs≤2→((n:Int)*z).natAbs≤38:=by
   intro n z hn hz
   rw [Int.natAbs_mul,Int.natAbs_natCast]
   exact Nat.mul_le_mul hn hz
  let A:Int:=(a.x % 64:Nat)
  let B:Int:=(a.y % 64:Nat)
  let C:Int:=(a.u % 64:Nat)
  let D:Int:=(a.v % 64:Nat)
  let S:Int:=(1+a.z % 12:Nat)
  let G:Int:=(1+a.z % 12+a.g % 8:Nat)
  have sv:∀ i,∃ f:Ln,SSpec Tryz.prog (eVx (qR A 1) (qR B 1) ((rgS a).mul (p i)) ((rgS a).mul (q i)) (qR (A+S*p i) 1) (qR (B+S*q i) 1)).1 (eVx (qR A 1) (qR B 1) ((rgS a).mul (p i)) ((rgS a).mul (q i)) (qR (A+S*p i) 1) (qR (B+S*q i) 1)).2 ∧
    SSpec Tryz.prog (eVx (qR C 1) (qR D 1) ((rgG a).mul (p i)) ((rgG a).mul (q i)) (qR (C+G*p i) 1) (qR (D+G*q i) 1)).1 (eVx (qR C 1) (qR D 1) ((rgG a).mul (p i)) ((rgG a).mul (q i)) (qR (C+G*p i) 1) (qR (D+G*q i) 1)).2 ∧
    SSpec Tryz.prog (eTh (tR (mg (a.t % 16))) (qR (A+S*p i) 1) (qR (B+S*q i) 1) (tR (mg (a.t % 16+(1+a.l % 24)))) (qR (C+G*p i) 1) (qR (D+G*q i) 1) f).1 (eTh (tR (mg (a.t % 16))) (qR (A+S*p i) 1) (qR (B+S*q i) 1) (tR (mg (a.t % 16+(1+a.l % 24)))) (qR (C+G*p i) 1) (qR (D+G*q i) 1) f).2:=by
   intro i
   have e1:=hmul (1+a.z % 12) (p i) (by omega) (hpq i).1
   have e2:=hmul (1+a.z % 12) (q i) (by omega) (hpq i).2
   have e3:=hmul (1+a.z % 12+a.g % 8) (p i) (by omega) (hpq i).1
   have e4:=hmul (1+a.z % 12+a.g % 8) (q i) (by omega) (hpq i).2
   have nA:A.natAbs<64:=by show ((a.x % 64:Nat):Int).natAbs<64;omega
   have nB:B.natAbs<64:=by show ((a.y % 64:Nat):Int).natAbs<64;omega
   have nC:C.natAbs<64:=by show ((a.u % 64:Nat):Int).natAbs<64;omega
   have nD:D.natAbs<64:=by show ((a.v % 64:Nat):Int).natAbs<64;omega
   have n1:(S*p i).natAbs≤38:=e1
   have n2:(S*q i).natAbs≤38:=e2
   have n3:(G*p i).natAbs≤38:=e3
   have n4:(G*q i).natAbs≤38:=e4
   obtain ⟨f,_,hf⟩:=through_c (t:=a.t % 16) (u:=a.t % 16+(1+a.l % 24)) (x:=A+S*p i) (y:=B+S*q i) (x':=C+G*p i) (y':=D+G*q i) (by omega) (by omega) (by omega) (by omega) (by omega) (by omega)
   refine ⟨f,?_,?_,hf.spec0 rfl⟩
   ·rw [eS];exact (padd_c (x:=A) (y:=B) (n:=S*p i) (m:=S*q i) (by omega) (by omega) (by omega) (by omega)).spec0 rfl
   ·rw [eG];exact (padd_c (x:=C) (y:=D) (n:=G*p i) (m:=G*q i) (by omega) (by omega) (by omega) (by omega)).spec0 rfl
  obtain ⟨f,hf⟩:=Classical.axiomOfChoice sv
  have i1:inI64 (Int.add 1 (IntKind.i64.wrap ((Int.ofNat a.l).tmod 24)))=true:=by
   show inI64 (rgL a)=true
   rw [eL];exact rgI _ (by simp only [Int.ofNat_eq_natCast];omega)
  have i2:inI64 (Int.add 1 (IntKind.i64.wrap ((Int.ofNat a.z).tmod 12)))=true:=by
   show inI64 (rgS a)=true
   rw [eS];exact rgI _ (by simp only [Int.ofNat_eq_natCast];omega)
  have i3:inI64 ((IntKind.i64.wrap ((Int.ofNat a.t).tmod 16)).add (Int.add 1 (IntKind.i64.wrap ((Int.ofNat a.l).tmod 24))))=true:=by
   show inI64 ((rgT a).add (rgL a))=true
   rw [eTL];exact rgI _ (by simp only [Int.ofNat_eq_natCast];omega)
  have i4:inI64 ((Int.add 1 (IntKind.i64.wrap ((Int.ofNat a.z).tmod 12))).add (IntKind.i64.wrap ((Int.ofNat a.g).tmod 8)))=true:=by
   show inI64 (rgG a)=true
   rw [eG];exact rgI _ (by simp only [Int.ofNat_eq_natCast];omega)
  have j1:∀ i,inI64 ((Int.add 1 (IntKind.i64.wrap ((Int.ofNat a.z).tmod 12))).mul (p i))=true:=by
   intro i;show inI64 ((rgS a).mul (p i))=true
   rw [eS];exact rgI _ (Nat.le_trans (hmul (1+a.z % 12) (p i) (by omega) (hpq i).1) (by decide))
  have j2:∀ i,inI64 ((Int.add 1 (IntKind.i64.wrap ((Int.ofNat a.z).tmod 12))).mul (q i))=true:=by
   intro i;show inI64 ((rgS a).mul (q i))=true
   rw [eS];exact rgI _ (Nat.le_trans (hmul (1+a.z % 12) (q i) (by omega) (hpq i).2) (by decide))
  have j3:∀ i,inI64 (((Int.add 1 (IntKind.i64.wrap ((Int.ofNat a.z).tmod 12))).add (IntKind.i64.wrap ((Int.ofNat a.g).tmod 8))).mul (p i))=true:=by
   intro i;show inI64 ((rgG a).mul (p i))=true
   rw [eG];exact rgI _ (Nat.le_trans (hmul (1+a.z % 12+a.g % 8) (p i) (by omega) (hpq i).1) (by decide))
  have j4:∀ i,inI64 (((Int.add 1 (IntKind.i64.wrap ((Int.ofNat a.z).tmod 12))).add (IntKind.i64.wrap ((Int.ofNat a.g).tmod 8))).mul (q i))=true:=by
   intro i;show inI64 ((rgG a).mul (q i))=true
   rw [eG];exact rgI _ (Nat.le_trans (hmul (1+a.z % 12+a.g % 8) (q i) (by omega) (hpq i).2) (by decide))
  rcases hn with rfl | rfl | rfl
  ·have hr:=rg_3 a p q (mg (a.t % 16)) (mg (a.t % 16+(1+a.l % 24))) (qR A 1) (qR B 1) (qR C 1) (qR D 1) (fun i=>qR (A+S*p i) 1) (fun i=>qR (B+S*q i) 1) (fun i=>qR (C+G*p i) 1) (fun i=>qR (D+G*q i) 1) f
   have key3:=fun ans hlen hS=>@BSim.run Sl Tryz.prog hm X0 hX0l _ hS 46 Tryz.f46 okRegion [areaA a] [] [] ans hlen rfl 400 [52,51] _ hr
   refine ⟨fun _=>rgD (mg (a.t % 16)) (mg (a.t % 16+(1+a.l % 24))) [f 0,f 1,f 2],key3 _ (by kernel_rfl) (AllOk.mem ⟨s1,s2,s3,s4,sK,(hf 0).1,(hf 0).2.1,(hf 0).2.2,(hf 1).1,(hf 1).2.1,(hf 1).2.2,(hf 2).1,(hf 2).2.1,(hf 2).2.2,trivial⟩) ?_⟩
   simp only [gX_iff,gB_iff,gateP_iff,i1,i2,i3,i4,j1,j2,j3,j4,and_true,true_and]
   exact ⟨rfl,rfl,pdec_iff.2 fun M' h=>⟨rg_leaf _ _ [f 0,f 1,f 2] 52 51 h,fun j r hr=>by cases hr⟩⟩
  ·have hr:=rg_4 a p q (mg (a.t % 16)) (mg (a.t % 16+(1+a.l % 24))) (qR A 1) (qR B 1) (qR C 1) (qR D 1) (fun i=>qR (A+S*p i) 1) (fun i=>qR (B+S*q i) 1) (fun i=>qR (C+G*p i) 1) (fun i=>qR (D+G*q i) 1) f
   have key3:=fun ans hlen hS=>@BSim.run Sl Tryz.prog hm X0 hX0l _ hS 46 Tryz.f46 okRegion [areaA a] [] [] ans hlen rfl 400 [60,59] _ hr
   refine ⟨fun _=>rgD (mg (a.t % 16)) (mg (a.t % 16+(1+a.l % 24))) [f 0,f 1,f 2,f 3],key3 _ (by kernel_rfl) (AllOk.mem ⟨s1,s2,s3,s4,sK,(hf 0).1,(hf 0).2.1,(hf 0).2.2,(hf 1).1,(hf 1).2.1,(hf 1).2.2,(hf 2).1,(hf 2).2.1,(hf 2).2.2,(hf 3).1,(hf 3).2.1,(hf 3).2.2,trivial⟩) ?_⟩
   simp only [gX_iff,gB_iff,gateP_iff,i1,i2,i3,i4,j1,j2,j3,j4,and_true,true_and]
   exact ⟨rfl,rfl,rfl,pdec_iff.2 fun M' h=>⟨rg_leaf _ _ [f 0,f 1,f 2,f 3] 60 59 h,fun j r hr=>by cases hr⟩⟩
  ·have hr:=rg_5 a p q (mg (a.t % 16)) (mg (a.t % 16+(1+a.l % 24))) (qR A 1) (qR B 1) (qR C 1) (qR D 1) (fun i=>qR (A+S*p i) 1) (fun i=>qR (B+S*q i) 1) (fun i=>qR (C+G*p i) 1) (fun i=>qR (D+G*q i) 1) f
   have key3:=fun ans hlen hS=>@BSim.run Sl Tryz.prog hm X0 hX0l _ hS 46 Tryz.f46 okRegion [areaA a] [] [] ans hlen rfl 400 [68,67] _ hr
   refine ⟨fun _=>rgD (mg (a.t % 16)) (mg (a.t % 16+(1+a.l % 24))) [f 0,f 1,f 2,f 3,f 4],key3 _ (by kernel_rfl) (AllOk.mem ⟨s1,s2,s3,s4,sK,(hf 0).1,(hf 0).2.1,(hf 0).2.2,(hf 1).1,(hf 1).2.1,(hf 1).2.2,(hf 2).1,(hf 2).2.1,(hf 2).2.2,(hf 3).1,(hf 3).2.1,(hf 3).2.2,(hf 4).1,(hf 4).2.1,(hf 4).2.2,trivial⟩) ?_⟩
   simp only [gX_iff,gB_iff,gateP_iff,i1,i2,i3,i4,j1,j2,j3,j4,and_true,true_and]
   exact ⟨rfl,rfl,rfl,rfl,pdec_iff.2 fun M' h=>⟨rg_leaf _ _ [f 0,f 1,f 2,f 3,f 4] 68 67 h,fun j r hr=>by cases hr⟩⟩
 have h4:a.k % 4<4:=Nat.mod_lt _ (by decide)
 have hsh:=shape_c hk
 have hall:∀ l:List (Int × Int),(∀ x∈l,x.1.natAbs≤2∧x.2.natAbs≤2)→∀ i,(l.getD i (0,0)).1.natAbs≤2∧(l.getD i (0,0)).2.natAbs≤2:=by
  intro l hl i
  rw [List.getD_eq_getElem?_getD]
  cases hx:l[i]? with
  | none=>exact ⟨by decide,by decide⟩
  | some x=>exact hl x (List.mem_of_getElem? hx)
 generalize a.k % 4=r at h4 hsh
 match r,h4 with
 | 0,_=>rw [shA_0] at hsh;exact key 4 _ _ (by omega) (hall (shL 0) (by decide)) (hsh.spec0 rfl)
 | 1,_=>rw [shA_1] at hsh;exact key 3 _ _ (by omega) (hall (shL 1) (by decide)) (hsh.spec0 rfl)
 | 2,_=>rw [shA_2] at hsh;exact key 5 _ _ (by omega) (hall (shL 2) (by decide)) (hsh.spec0 rfl)
 | 3,_=>rw [shA_3] at hsh;exact key 5 _ _ (by omega) (hall (shL 3) (by decide)) (hsh.spec0 rfl)
end
end
end Go.Proofs.YtodjhpjcgggamaaGreatDoor

namespace Go.Proofs.YtodjhpjcgggamaaGreatDoor
open Go Go.Eng Go.Vi Go.Knuth
noncomputable section
section
local instance : Go.Eng.Mode := Sl
theorem okZones:FnOk Tryz.prog 22 Tryz.f22:=⟨Tryz.func22,by kernel_rfl,by kernel_rfl⟩
theorem okDb:FnOk Tryz.prog 7 Tryz.f7:=⟨Tryz.func7,by kernel_rfl,by kernel_rfl⟩
def eRg (a:Area) (e:Nat→List Dat):FuncId × SEnt:=(46,⟨[areaA a],[],.dslice 1 22 e⟩)
def zName (i:Nat):List UInt8:=match i with | 0=>[122,111,110,101,49] | _=>[122,111,110,101,50]
def zonesA (m:Nat) (e:Nat→Nat→List Dat):AV:=.dslice m 2 (fun i=>[.str 5 (enc (zName i)),.slice 1 22 (e i)])
theorem zo_0 (n:Nat) (c:Nat→Car) (a:Nat→Area) (e:Nat→Nat→List Dat) (I:AK):@runC Sl Tryz.f22 [] [fl4 n c 0 a] [] I=I .nilSlice []:=by kernel_rfl
theorem zo_1 (n:Nat) (c:Nat→Car) (a:Nat→Area) (e:Nat→Nat→List Dat) (I:AK):@runC Sl Tryz.f22 [eRg (a 0) (e 0)] [fl4 n c 1 a] [2] I=gX ((eRg (a 0) (e 0)).snd.args) (gB (gB (gB (gX (AV.str 5 212155133818) true) true) true) (I (.slice 2 0 1 1 true) [some (.row [.str 5 212155133818,.dslice 1 22 (e 0)] true 2)])):=by kernel_rfl
theorem zo_2 (n:Nat) (c:Nat→Car) (a:Nat→Area) (e:Nat→Nat→List Dat) (I:AK):@runC Sl Tryz.f22 [eRg (a 0) (e 0),eRg (a 1) (e 1)] [fl4 n c 2 a] [4] I=gX ((eRg (a 0) (e 0)).snd.args) (gB (gB (gB (gX (AV.str 5 212155133818) true) true) true) (gX ((eRg (a 1) (e 1)).snd.args) (gateP ((Nat.ble 2 1)=false) (gB (gB (gB (gX (AV.str 5 216450101114) true) true) true) (I (.slice 4 0 2 2 true) [some (.row [.str 5 212155133818,.dslice 1 22 (e 0),.str 5 216450101114,.dslice 1 22 (e 1)] true 2)]))))):=by kernel_rfl
def ePt (f:Fleet) (ud:Nat→Dat):FuncId × SEnt:=(21,⟨[flA f],[],objsA f.nc ud⟩)
def eZs (f:Fleet) (e:Nat→Nat→List Dat):FuncId × SEnt:=(22,⟨[flA f],[],zonesA f.na e⟩)
def dbA (f:Fleet) (ud:Nat→Dat) (e:Nat→Nat→List Dat):AV:=.agg [objsA f.nc ud,zonesA f.na e]
theorem db_r (f:Fleet) (ud:Nat→Dat) (e:Nat→Nat→List Dat) (I:AK):@runC Sl Tryz.f7 [ePt f ud,eZs f e] [flA f] [] I=gX ((ePt f ud).snd.args) (gX ((eZs f e).snd.args) (gB (gB (gB (gX (AV.agg [AV.dslice f.nc 4 (fun i=>carD (f.c i)),AV.dslice f.na 9 (fun i=>areaD (f.a i))]) true) true) true) (I (.agg [.dslice f.nc 2 (fun i=>[Dat.int .i64 (.ofNat (i+1)),ud i]),.dslice f.na 2 (fun i=>[Dat.str 5 (enc (zName i)),Dat.slice 1 22 (e i)])]) []))):=by kernel_rfl
theorem fz_zones {n b:Nat} {e:Nat→Nat→List Dat} {M:Mem} {L:List AV} (h:M.t.get b=some (.row L true 2)) (hl:n*2≤L.length) (hel:∀ i,i<n→(L.drop (i*2)).take 2=toAVs [.str 5 (enc (zName i)),.slice 1 22 (e i)]):FzA 0 M (.slice b 0 n n true) (zonesA n e):=by
 refine .dat _ (.slice n 2 (fun i=>[.str 5 (enc (zName i)),.slice 1 22 (e i)])) (.slice b 0 n n true L true 2 2 _ (Nat.zero_le _) h (Nat.le_refl _) (by omega) fun i hi=>?_)
 rw [Nat.zero_add,hel i hi]
 exact FzDs.sames _
theorem zns_0 (n:Nat) (c:Nat→Car) (a:Nat→Area) (ha:∀ i,i<0→(a i).k<256):∃ e,BSim Tryz.prog 22 [fl4 n c 0 a] [] [] (zonesA 0 e):=by
 refine ⟨fun _ _=>[],BSim.run hm hX0l (S:=[]) (AllOk.mem trivial) okZones (by kernel_rfl) rfl 400 [] _ (zo_0 n c a (fun _ _=>[])) ?_⟩
 simp only [gX_iff,gB_iff,gateP_iff,and_true,true_and]
 exact pdec_iff.2 fun M' _=>⟨.dat _ (.slice 0 2 _) (.nil _ _),fun j r hr=>by cases hr⟩
theorem zns_1 (n:Nat) (c:Nat→Car) (a:Nat→Area) (ha:∀ i,i<1→(a i).k<256):∃ e,BSim Tryz.prog 22 [fl4 n c 1 a] [] [] (zonesA 1 e):=by
 obtain ⟨e0,h0⟩:=reg_gen (a 0) (ha 0 (by decide))
 refine ⟨fun i=>match i with | 0=>e0 | _=>fun _=>[],BSim.run hm hX0l (S:=[eRg (a 0) e0]) (AllOk.mem ⟨h0.spec0 rfl,trivial⟩) okZones (by kernel_rfl) rfl 400 [2] _ (zo_1 n c a (fun i=>match i with | 0=>e0 | _=>fun _=>[])) ?_⟩
 simp only [gX_iff,gB_iff,gateP_iff,and_true,true_and]
 exact pdec_iff.2 fun M' h=>⟨fz_zones (n:=1) (mv_one h) (Nat.le_refl _) (fun i hi=>match i,hi with | 0,_=>rfl),fun j r hr=>by cases hr⟩
theorem zns_2 (n:Nat) (c:Nat→Car) (a:Nat→Area) (ha:∀ i,i<2→(a i).k<256):∃ e,BSim Tryz.prog 22 [fl4 n c 2 a] [] [] (zonesA 2 e):=by
 obtain ⟨e0,h0⟩:=reg_gen (a 0) (ha 0 (by decide))
 obtain ⟨e1,h1⟩:=reg_gen (a 1) (ha 1 (by decide))
 refine ⟨fun i=>match i with | 0=>e0 | 1=>e1 | _=>fun _=>[],BSim.run hm hX0l (S:=[eRg (a 0) e0,eRg (a 1) e1]) (AllOk.mem ⟨h0.spec0 rfl,h1.spec0 rfl,trivial⟩) okZones (by kernel_rfl) rfl 400 [4] _ (zo_2 n c a (fun i=>match i with | 0=>e0 | 1=>e1 | _=>fun _=>[])) ?_⟩
 simp only [gX_iff,gB_iff,gateP_iff,and_true,true_and]
 exact ⟨rfl,pdec_iff.2 fun M' h=>⟨fz_zones (n:=2) (mv_one h) (Nat.le_refl _) (fun i hi=>match i,hi with | 0,_=>rfl | 1,_=>rfl),fun j r hr=>by cases hr⟩⟩
theorem zns_c (f:Fleet) (hn:f.na≤2) (ha:∀ i,i<f.na→(f.a i).k<256):∃ e,BSim Tryz.prog 22 [flA f] [] [] (zonesA f.na e):=by
 obtain ⟨n,c,m,a⟩:=f
 match m,hn,ha with
 | 0,_,ha=>exact zns_0 n c a ha
 | 1,_,ha=>exact zns_1 n c a ha
 | 2,_,ha=>exact zns_2 n c a ha
 | m+3,hn,_=>exact absurd hn (by show ¬ m+3≤2;omega)
theorem db_c (f:Fleet) (hn:f.nc≤4) (hc:∀ i,i<f.nc→(f.c i).n≤6) (hm':f.na≤2) (ha:∀ i,i<f.na→(f.a i).k<256):∃ ud e,BSim Tryz.prog 7 [flA f] [] [] (dbA f ud e):=by
 obtain ⟨ud,h1⟩:=pts_c f hn hc
 obtain ⟨e,h2⟩:=zns_c f hm' ha
 refine ⟨ud,e,BSim.run hm hX0l (S:=[ePt f ud,eZs f e]) (AllOk.mem ⟨h1.spec0 rfl,h2.spec0 rfl,trivial⟩) okDb (by kernel_rfl) rfl 400 [] _ (db_r f ud e) ?_⟩
 simp only [gX_iff,gB_iff,gateP_iff,and_true,true_and]
 exact pdec_iff.2 fun M' _=>⟨.aggs [.slice f.nc 2 (fun i=>[.int .i64 (.ofNat (i+1)),ud i]),.slice f.na 2 (fun i=>[.str 5 (enc (zName i)),.slice 1 22 (e i)])],fun j r hr=>by cases hr⟩
end
end
end Go.Proofs.YtodjhpjcgggamaaGreatDoor

namespace Go.Proofs.YtodjhpjcgggamaaGreatDoor
open Go Go.Eng Go.Vi Go.Knuth
noncomputable section
section
local instance : Go.Eng.Mode := Sb
def outR (b:Nat) (l:List Dat):List AV:=List.rec (motive:=fun _=>List AV) [.nilSlice] (fun _ _ _=>[.slice b 0 l.length l.length true]) l
def looseR (l:List Dat):List Blk:=List.rec (motive:=fun _=>List Blk) [] (fun _ _ _=>[.row (toAVs l) true 1]) l
def rowsR (l:List Dat):List Blk:=.row (outR 1 l) false 1::looseR l
def fC (F:Nat):AV:=.func (.func F) [] [.ptr 0 0]
def viArgs (F:Nat) (x:Ex):List AV:=[exA x,fC F]
def Vi (F:Nat) (x:Ex) (l l':List Dat):Prop:=NSpec Tryz.prog 28 (viArgs F x) [.row (outR 1 l) false 1] (looseR l) (fun nx=>[.row (outR nx l') false 1]) (fun _=>looseR l') (fun _=>.tuple [])
def eVi (F:Nat) (x:Ex) (l l':List Dat) (nx:Nat):MEnt:=nEnt (viArgs F x) [.row (outR 1 l) false 1] (looseR l) (fun nx=>[.row (outR nx l') false 1]) (fun _=>looseR l') (fun _=>.tuple []) nx
theorem okVisit:FnOk Tryz.prog 28 Tryz.f28:=⟨Tryz.func28,by kernel_rfl,by kernel_rfl⟩
def c28:Code:=codeOf Tryz.f28
def T28:Nat:=Tryz.f28.ntmps
def body28:Code:=bodyOf (bodyOf (post 3 c28))
def slV (F:Nat) (x:Ex) (i:Nat):List (Nat × AV):=[(1,fC F),(10,.dslice x.args.length 7 x.el),(11,.int .i64 (.ofNat x.args.length)),(12,.int .i64 (.ofNat i))]
def valsW (F:Nat) (x:Ex) (i:Nat):List (Option AV):=[some (fC F),some (.dslice x.args.length 7 x.el),some (.int .i64 (.ofNat x.args.length)),some (.int .i64 (.ofNat i))]
def runW (F:Nat) (x:Ex) (i:Nat) (e:MEnt) (l:List Dat) (π:List Nat) (I:IK):Bool :=
 Eng.exec Tryz.prog (Xm X0 28 e) [] 60 T28 (rhs (rhs body28)) (mkFr (slV F x i)) (mkMem (rowsR l)) (fun o fr' M'=>I o (lv [1,10,11,12] fr') (mv π M'))
theorem body28_eq:body28=.seq (lhs body28) (.seq (.cond (.tmp 13) .skip (.exit 0)) (rhs (rhs body28))):=by kernel_rfl
theorem post28:post 3 c28=.block 0 (.loop body28):=by kernel_rfl
theorem cond28 (F:Nat) (x:Ex) (i:Nat) (l:List Dat) (I:IK):Eng.exec Tryz.prog X0 [] 60 T28 (lhs body28) (mkFr (slV F x i)) (mkMem (rowsR l)) (fun o fr' M'=>I o (lv [1,10,11,12,13] fr') (mv [0,1] M')) =
 I .normal (valsW F x i++[some (.bool (ilt (.ofNat i) (.ofNat x.args.length)))]) (mv [0,1] (mkMem (rowsR l))):=by kernel_rfl
def rowsN (n:Nat) (L:List AV):List Blk:=[.row [.slice 1 0 n n true] false 1,.row L true 1]
theorem vo_nf (x:Ex) (z:Int) (b:Bool) (I:IK):@xN (So [(22,14,false)]) [eTI x.num.neg x.num.mag z b] 60 T28 3 c28 (argSlots (viArgs 29 x) 0) (rowsR []) [1,10,11,12] [0] I=gX ((eTI x.num.neg x.num.mag z b).snd.args) (gN (ieq x.op 3) (I .normal [some (.func (Fn.func 29) [] [.ptr 0 0]),some (.dslice x.args.length 7 x.el),some (.int .i64 (.ofNat x.args.length)),some (.int .i64 0)] [some (.row [.nilSlice] false 1)])):=by kernel_rfl
theorem vo_nt (x:Ex) (z:Int) (I:IK):@xN (So [(22,14,true)]) [eTI x.num.neg x.num.mag z true] 60 T28 3 c28 (argSlots (viArgs 29 x) 0) (rowsR []) [1,10,11,12] [0,4] I=gX ((eTI x.num.neg x.num.mag z true).snd.args) (gB (ieq x.op 3) (I .normal [some (.func (Fn.func 29) [] [.ptr 0 0]),some (.dslice x.args.length 7 x.el),some (.int .i64 (.ofNat x.args.length)),some (.int .i64 0)] [some (.row [.slice 4 0 1 1 true] false 1),some (.row [.int .i64 z] true 1)])):=by kernel_rfl
theorem vo_cf (x:Ex) (z:Int) (b:Bool) (n:Nat) (L:List AV) (I:IK):@xN (So [(22,14,false)]) [eTI x.num.neg x.num.mag z b] 60 T28 3 c28 (argSlots (viArgs 29 x) 0) (rowsN n L) [1,10,11,12] [0,1] I=gX ((eTI x.num.neg x.num.mag z b).snd.args) (gN (ieq x.op 3) (I .normal [some (.func (Fn.func 29) [] [.ptr 0 0]),some (.dslice x.args.length 7 x.el),some (.int .i64 (.ofNat x.args.length)),some (.int .i64 0)] [some (.row [.slice 1 0 n n true] false 1),some (.row L true 1)])):=by kernel_rfl
theorem vo_ct (x:Ex) (z:Int) (n:Nat) (L:List AV) (I:IK):@xN (So [(22,14,true)]) [eTI x.num.neg x.num.mag z true] 60 T28 3 c28 (argSlots (viArgs 29 x) 0) (rowsN n L) [1,10,11,12] [0,5] I=gX ((eTI x.num.neg x.num.mag z true).snd.args) (gB (ieq x.op 3) (gateP ((Nat.ble (Nat.add n 1) n)=false) (gB (Nat.ble (Nat.mul n 1) (lenL (List.drop 0 L))) (gB (Nat.beq (lenL L) (Nat.mul n 1)) (gB (Nat.ble (Nat.add n 1) 9223372036854775807) (gB (smallOk Tryz.prog 3 (n.add 1)) (I .normal [some (.func (Fn.func 29) [] [.ptr 0 0]),some (.dslice x.args.length 7 x.el),some (.int .i64 (.ofNat x.args.length)),some (.int .i64 0)] [some (.row [.slice 5 0 (Nat.add n 1) (Nat.add n 1) true] false 1),some (.row (List.append (List.take (Nat.mul n 1) (List.drop 0 L)) [AV.int IntKind.i64 z]) true 1)]))))))):=by kernel_rfl
theorem vz_nf (x:Ex) (I:IK):@xN (So [(11,5,false)]) [] 60 T28 3 c28 (argSlots (viArgs 33 x) 0) (rowsR []) [1,10,11,12] [0] I=gN (ieq x.op 5) (I .normal [some (.func (Fn.func 33) [] [.ptr 0 0]),some (.dslice x.args.length 7 x.el),some (.int .i64 (.ofNat x.args.length)),some (.int .i64 0)] [some (.row [.nilSlice] false 1)]):=by kernel_rfl
theorem vz_nt (x:Ex) (I:IK):@xN (So [(11,5,true)]) [] 60 T28 3 c28 (argSlots (viArgs 33 x) 0) (rowsR []) [1,10,11,12] [0,4] I=gB (ieq x.op 5) (I .normal [some (.func (Fn.func 33) [] [.ptr 0 0]),some (.dslice x.args.length 7 x.el),some (.int .i64 (.ofNat x.args.length)),some (.int .i64 0)] [some (.row [.slice 4 0 1 1 true] false 1),some (.row [strA x.name] true 1)]):=by kernel_rfl
theorem vz_cf (x:Ex) (n:Nat) (L:List AV) (I:IK):@xN (So [(11,5,false)]) [] 60 T28 3 c28 (argSlots (viArgs 33 x) 0) (rowsN n L) [1,10,11,12] [0,1] I=gN (ieq x.op 5) (I .normal [some (.func (Fn.func 33) [] [.ptr 0 0]),some (.dslice x.args.length 7 x.el),some (.int .i64 (.ofNat x.args.length)),some (.int .i64 0)] [some (.row [.slice 1 0 n n true] false 1),some (.row L true 1)]):=by kernel_rfl
theorem vz_ct (x:Ex) (n:Nat) (L:List AV) (I:IK):@xN (So [(11,5,true)]) [] 60 T28 3 c28 (argSlots (viArgs 33 x) 0) (rowsN n L) [1,10,11,12] [0,5] I=gB (ieq x.op 5) (gateP ((Nat.ble (Nat.add n 1) n)=false) (gB (Nat.ble (Nat.mul n 1) (lenL (List.drop 0 L))) (gB (Nat.beq (lenL L) (Nat.mul n 1)) (gB (Nat.ble (Nat.add n 1) 9223372036854775807) (gB (smallOk Tryz.prog 9 (n.add 1)) (I .normal [some (.func (Fn.func 33) [] [.ptr 0 0]),some (.dslice x.args.length 7 x.el),some (.int .i64 (.ofNat x.args.length)),some (.int .i64 0)] [some (.row [.slice 5 0 (Nat.add n 1) (Nat.add n 1) true] false 1),some (.row (List.append (List.take (Nat.mul n 1) (List.drop 0 L)) [strA x.name]) true 1)])))))):=by kernel_rfl
theorem w0_nn (F:Nat) (o:Int) (nm:List UInt8) (r:Rt) (y:Ex) (a:List Ex) (I:IK):runW F (.mk o nm r (y::a)) 0 (eVi F y [] [] 2) [] [0] I=gM (eVi F y [] [] 2) (I .normal (valsW F (.mk o nm r (y::a)) (0+1)) [some (.row (outR 1 []) false 1)]):=by kernel_rfl
theorem w0_nc (F:Nat) (o:Int) (nm:List UInt8) (r:Rt) (y:Ex) (a:List Ex) (s2:Dat) (l2:List Dat) (I:IK):runW F (.mk o nm r (y::a)) 0 (eVi F y [] (s2::l2) 2) [] [0,2] I=gM (eVi F y [] (s2::l2) 2) (I .normal (valsW F (.mk o nm r (y::a)) (0+1)) [some (.row (outR 2 (s2::l2)) false 1),some (.row (toAVs (s2::l2)) true 1)]):=by kernel_rfl
theorem w0_cc (F:Nat) (o:Int) (nm:List UInt8) (r:Rt) (y:Ex) (a:List Ex) (s:Dat) (l:List Dat) (s2:Dat) (l2:List Dat) (I:IK):runW F (.mk o nm r (y::a)) 0 (eVi F y (s::l) (s2::l2) 3) (s::l) [0,3] I=gM (eVi F y (s::l) (s2::l2) 3) (I .normal (valsW F (.mk o nm r (y::a)) (0+1)) [some (.row (outR 3 (s2::l2)) false 1),some (.row (toAVs (s2::l2)) true 1)]):=by kernel_rfl
theorem w1_nn (F:Nat) (o:Int) (nm:List UInt8) (r:Rt) (u0 y:Ex) (a:List Ex) (I:IK):runW F (.mk o nm r (u0::y::a)) 1 (eVi F y [] [] 2) [] [0] I=gM (eVi F y [] [] 2) (I .normal (valsW F (.mk o nm r (u0::y::a)) (1+1)) [some (.row (outR 1 []) false 1)]):=by kernel_rfl
theorem w1_nc (F:Nat) (o:Int) (nm:List UInt8) (r:Rt) (u0 y:Ex) (a:List Ex) (s2:Dat) (l2:List Dat) (I:IK):runW F (.mk o nm r (u0::y::a)) 1 (eVi F y [] (s2::l2) 2) [] [0,2] I=gM (eVi F y [] (s2::l2) 2) (I .normal (valsW F (.mk o nm r (u0::y::a)) (1+1)) [some (.row (outR 2 (s2::l2)) false 1),some (.row (toAVs (s2::l2)) true 1)]):=by kernel_rfl
theorem w1_cc (F:Nat) (o:Int) (nm:List UInt8) (r:Rt) (u0 y:Ex) (a:List Ex) (s:Dat) (l:List Dat) (s2:Dat) (l2:List Dat) (I:IK):runW F (.mk o nm r (u0::y::a)) 1 (eVi F y (s::l) (s2::l2) 3) (s::l) [0,3] I=gM (eVi F y (s::l) (s2::l2) 3) (I .normal (valsW F (.mk o nm r (u0::y::a)) (1+1)) [some (.row (outR 3 (s2::l2)) false 1),some (.row (toAVs (s2::l2)) true 1)]):=by kernel_rfl
theorem w2_nn (F:Nat) (o:Int) (nm:List UInt8) (r:Rt) (u0 u1 y:Ex) (a:List Ex) (I:IK):runW F (.mk o nm r (u0::u1::y::a)) 2 (eVi F y [] [] 2) [] [0] I=gM (eVi F y [] [] 2) (I .normal (valsW F (.mk o nm r (u0::u1::y::a)) (2+1)) [some (.row (outR 1 []) false 1)]):=by kernel_rfl
theorem w2_nc (F:Nat) (o:Int) (nm:List UInt8) (r:Rt) (u0 u1 y:Ex) (a:List Ex) (s2:Dat) (l2:List Dat) (I:IK):runW F (.mk o nm r (u0::u1::y::a)) 2 (eVi F y [] (s2::l2) 2) [] [0,2] I=gM (eVi F y [] (s2::l2) 2) (I .normal (valsW F (.mk o nm r (u0::u1::y::a)) (2+1)) [some (.row (outR 2 (s2::l2)) false 1),some (.row (toAVs (s2::l2)) true 1)]):=by kernel_rfl
theorem w2_cc (F:Nat) (o:Int) (nm:List UInt8) (r:Rt) (u0 u1 y:Ex) (a:List Ex) (s:Dat) (l:List Dat) (s2:Dat) (l2:List Dat) (I:IK):runW F (.mk o nm r (u0::u1::y::a)) 2 (eVi F y (s::l) (s2::l2) 3) (s::l) [0,3] I=gM (eVi F y (s::l) (s2::l2) 3) (I .normal (valsW F (.mk o nm r (u0::u1::y::a)) (2+1)) [some (.row (outR 3 (s2::l2)) false 1),some (.row (toAVs (s2::l2)) true 1)]):=by kernel_rfl
theorem small3 (n:Nat):smallOk Tryz.prog 3 n=Nat.ble (Nat.mul n 8) 140737488355328:=by kernel_rfl
theorem small9 (n:Nat):smallOk Tryz.prog 9 n=Nat.ble (Nat.mul n 16) 140737488355328:=by kernel_rfl
def AtR (l:List Dat) (M:Mem):Prop:=∃ i,M.t.get 0=some (.row (outR i l) false 1)∧(l=[]∨(i≠0∧M.t.get i=some (.row (toAVs l) true 1)))
theorem slV_vals (F:Nat) (x:Ex) (i:Nat) (π:List Nat) (h:π[0]? = some 0):vals2 π (slV F x i)=valsW F x i:=by
 cases π with
 | nil=>cases h
 | cons a π =>
  obtain rfl:a=0:=by simpa using h
  rfl
theorem valsW_some (F:Nat) (x:Ex) (i:Nat):∀ v∈valsW F x i,v≠none:=by
 intro v hv e
 subst e
 simp [valsW] at hv
theorem W.fromR {c:Code} {Q:AE→Fr→Mem→Prop} {fr:Fr} {M:Mem} {F:Nat} {x:Ex} {i:Nat} {l:List Dat} (hv:lv [1,10,11,12] fr=valsW F x i) (hM:AtR l M)
  (h:W Tryz.prog T28 1 c (mkFr (slV F x i)) (mkMem (rowsR l)) Q):W Tryz.prog T28 1 c fr M Q:=by
 obtain ⟨j,h0,hj⟩:=hM
 cases l with
 | nil=>exact W.next (π:=[0]) (bs:=[some (.row (outR 1 []) false 1)]) hv (by show [M.t.get 0]=_;rw [h0];rfl) (slV F x i) (rowsR []) rfl (slV_vals F x i [0] rfl) rfl (by decide) (valsW_some F x i) (by simp) h
 | cons s l =>
  rcases hj with hj | ⟨hj0,hj⟩
  ·cases hj
  refine W.next (π:=[0,j]) (bs:=[some (.row (outR j (s::l)) false 1),some (.row (toAVs (s::l)) true 1)]) hv (by show [M.t.get 0,M.t.get j]=_;rw [h0,hj]) (slV F x i) (rowsR (s::l)) rfl (slV_vals F x i [0,j] rfl) ?_ ?_ (valsW_some F x i) (by simp) h
  ·show [renB [0,j] (.row (outR 1 (s::l)) false 1),renB [0,j] (.row (toAVs (s::l)) true 1)]=_
   rw [renB_data]
   rfl
  ·unfold okPi
   have:(rowsR (s::l)).length=2:=rfl
   rw [this]
   simp [Ne.symm hj0]
theorem res28:Tryz.f28.results.toList=[]:=by kernel_rfl
theorem AtR.fin {l:List Dat} {fr:Fr} {M:Mem} (h:AtR l M):FinN Tryz.prog Tryz.f28 1 (fun nx=>[.row (outR nx l) false 1]) (fun _=>looseR l) (fun _=>.tuple []) .normal fr M:=by
 obtain ⟨j,h0,hj⟩:=h
 cases l with
 | nil =>
  refine ⟨.inl rfl,[],[],?_,List.nodup_nil,by simp,fun nx=>⟨rfl,.tuple _ _ .nil,fun i b hi=>?_,fun i b hi=>by simp [looseR] at hi⟩⟩
  ·rw [res28];exact pdec_iff.2 rfl
  ·cases i with
   | zero =>
    obtain rfl:Blk.row (outR nx []) false 1=b:=by simpa using hi
    exact ⟨_,h0,.row _ _ _ _ (.cons _ _ _ _ .nil .nil)⟩
   | succ i=>simp at hi
 | cons s l =>
  rcases hj with hj | ⟨hj0,hj⟩
  ·cases hj
  refine ⟨.inl rfl,[],[j],?_,by simp,by simp;omega,fun nx=>⟨rfl,.tuple _ _ .nil,fun i b hi=>?_,fun i b hi=>?_⟩⟩
  ·rw [res28];exact pdec_iff.2 rfl
  ·cases i with
   | zero =>
    obtain rfl:Blk.row (outR nx (s::l)) false 1=b:=by simpa using hi
    exact ⟨_,h0,.row _ _ _ _ (.cons _ _ _ _ (.nslice 0 _ _ _ _ _ rfl) .nil)⟩
   | succ i=>simp at hi
  ·cases i with
   | zero =>
    obtain rfl:Blk.row (toAVs (s::l)) true 1=b:=by simpa [looseR] using hi
    exact ⟨j,_,rfl,hj,.row _ _ _ _ (FzNs.sames _)⟩
   | succ i=>simp [looseR] at hi
theorem get3 {i:Nat} {args:List Ex} {y:Ex} (hi:i<3) (hy:args[i]? = some y):(i=0∧∃ a,args=y::a)∨(i=1∧∃ u a,args=u::y::a)∨(i=2∧∃ u v a,args=u::v::y::a):=by
 rcases args with _ | ⟨u,_ | ⟨v,_ | ⟨z,a⟩⟩⟩
 ·simp at hy
 ·rcases i with _ | i
  ·obtain rfl:=Option.some.inj hy;exact .inl ⟨rfl,_,rfl⟩
  ·simp at hy
 ·rcases i with _ | _ | i
  ·obtain rfl:=Option.some.inj hy;exact .inl ⟨rfl,_,rfl⟩
  ·obtain rfl:=Option.some.inj hy;exact .inr (.inl ⟨rfl,_,_,rfl⟩)
  ·simp at hy
 ·rcases i with _ | _ | _ | i
  ·obtain rfl:=Option.some.inj hy;exact .inl ⟨rfl,_,rfl⟩
  ·obtain rfl:=Option.some.inj hy;exact .inr (.inl ⟨rfl,_,_,rfl⟩)
  ·obtain rfl:=Option.some.inj hy;exact .inr (.inr ⟨rfl,_,_,_,rfl⟩)
  ·omega
theorem round28 {F:Nat} {x:Ex} {i:Nat} {y:Ex} {l l2:List Dat} (hi:i<3) (hy:x.args[i]? = some y) (hl:l2=[]→l=[]) (hE:Vi F y l l2) {Q:AE→Fr→Mem→Prop}
  (hQ:∀ fr M,lv [1,10,11,12] fr=valsW F x (i+1)→AtR l2 M→Q .normal fr M):W Tryz.prog T28 1 (rhs (rhs body28)) (mkFr (slV F x i)) (mkMem (rowsR l)) Q:=by
 have key:∀ nx π bs,nx=(rowsR l).length+1→(∀ I,runW F x i (eVi F y l l2 nx) l π I=gM (eVi F y l l2 nx) (I .normal (valsW F x (i+1)) bs))→(∀ M,mv π M=bs→AtR l2 M)→W Tryz.prog T28 1 (rhs (rhs body28)) (mkFr (slV F x i)) (mkMem (rowsR l)) Q:=by
  intro nx π bs hnx hrun hat
  have key2:=@W.run Sb Tryz.prog hm (Xm X0 28 (eVi F y l l2 nx)) (@hXm Sb _ _ (fun f x h=>hX0l f x h) _ _ (hE nx (by subst hnx;cases l<;>simp [looseR,rowsR]))) [] (fun _ h=>by cases h) T28 1 _ _ _ Q 60 [1,10,11,12] π _ hrun
  refine key2 ?_
  rw [gM_iff]
  exact pdec_iff.2 fun fr M hv hM=>hQ fr M hv (hat M hM)
 obtain ⟨o,nm,r,args⟩:=x
 have hy:args[i]? = some y:=hy
 cases l with
 | nil =>
  cases l2 with
  | nil =>
   refine key 2 [0] [some (.row (outR 1 []) false 1)] rfl ?_ (fun M h=>⟨1,(List.cons.inj h).1,.inl rfl⟩)
   rcases get3 hi hy with ⟨rfl,a,rfl⟩ | ⟨rfl,u0,a,rfl⟩ | ⟨rfl,u0,u1,a,rfl⟩
   ·exact w0_nn F o nm r y a
   ·exact w1_nn F o nm r u0 y a
   ·exact w2_nn F o nm r u0 u1 y a
  | cons s l2 =>
   refine key 2 [0,2] [some (.row (outR 2 (s::l2)) false 1),some (.row (toAVs (s::l2)) true 1)] rfl ?_ (fun M h=>⟨2,(mv_two h).1,.inr ⟨by decide,(mv_two h).2⟩⟩)
   rcases get3 hi hy with ⟨rfl,a,rfl⟩ | ⟨rfl,u0,a,rfl⟩ | ⟨rfl,u0,u1,a,rfl⟩
   ·exact w0_nc F o nm r y a s l2
   ·exact w1_nc F o nm r u0 y a s l2
   ·exact w2_nc F o nm r u0 u1 y a s l2
 | cons s l =>
  cases l2 with
  | nil=>cases hl rfl
  | cons s2 l2 =>
   refine key 3 [0,3] [some (.row (outR 3 (s2::l2)) false 1),some (.row (toAVs (s2::l2)) true 1)] rfl ?_ (fun M h=>⟨3,(mv_two h).1,.inr ⟨by decide,(mv_two h).2⟩⟩)
   rcases get3 hi hy with ⟨rfl,a,rfl⟩ | ⟨rfl,u0,a,rfl⟩ | ⟨rfl,u0,u1,a,rfl⟩
   ·exact w0_cc F o nm r y a s l s2 l2
   ·exact w1_cc F o nm r u0 y a s l s2 l2
   ·exact w2_cc F o nm r u0 u1 y a s l s2 l2
theorem loop28 {F:Nat} {x:Ex} (ls:Nat→List Dat) (h3:x.args.length≤3) (hmono:∀ i,ls (i+1)=[]→ls i=[]) (hE:∀ i y,x.args[i]? = some y→Vi F y (ls i) (ls (i+1)))
  {fr:Fr} {M:Mem} (hv:lv [1,10,11,12] fr=valsW F x 0) (hM:AtR (ls 0) M) :
  W Tryz.prog T28 1 (post 3 c28) fr M (FinN Tryz.prog Tryz.f28 1 (fun nx=>[.row (outR nx (ls x.args.length)) false 1]) (fun _=>looseR (ls x.args.length)) (fun _=>.tuple [])):=by
 rw [post28]
 refine W.block (W.loop (σ:={ i:Nat // i≤x.args.length }) (fun i fr M=>lv [1,10,11,12] fr=valsW F x i.1∧AtR (ls i.1) M) (fun i=>x.args.length-i.1) ?_ ⟨0,Nat.zero_le _⟩ ⟨hv,hM⟩)
 rintro ⟨i,hi⟩ fr M ⟨hv,hM⟩
 simp only at hv hM
 refine W.fromR hv hM ?_
 rw [body28_eq]
 have hh:=cond28 F x i (ls i)
 have key:=fun Q=>@W.run Sb Tryz.prog hm X0 hX0l [] (fun _ h=>by cases h) T28 1 _ _ _ Q 60 [1,10,11,12,13] [0,1] _ hh
 refine W.seq (key _ (pdec_iff.2 fun fr1 M1 hl1 hm1=>?_))
 have h':[fr1.get 1,fr1.get 10,fr1.get 11,fr1.get 12,fr1.get 13]=_:=hl1
 simp only [valsW,List.cons_append,List.nil_append,List.cons.injEq] at h'
 have hv1:lv [1,10,11,12] fr1=valsW F x i:=by
  show [fr1.get 1,fr1.get 10,fr1.get 11,fr1.get 12]=_
  rw [h'.1,h'.2.1,h'.2.2.1,h'.2.2.2.1]
  rfl
 have hM1:AtR (ls i) M1:=by
  obtain ⟨g0,g1⟩:=mv_two hm1
  cases hls:ls i with
  | nil=>rw [hls] at g0;exact ⟨1,g0,.inl rfl⟩
  | cons s l=>rw [hls] at g0 g1;exact ⟨1,g0,.inr ⟨by decide,g1⟩⟩
 refine W.seq ?_
 by_cases hlt:i<x.args.length
 ·have hc:ilt (.ofNat i) (.ofNat x.args.length)=true:=by rw [natlt];exact decide_eq_true hlt
  rw [hc] at h'
  refine W.cond true h'.2.2.2.2.1 (fun _=>W.skip ?_) (fun h=>by cases h)
  show W Tryz.prog T28 1 (rhs (rhs body28)) fr1 M1 _
  refine W.fromR hv1 hM1 ?_
  refine round28 (y:=x.args[i]) (by omega) (List.getElem?_eq_getElem hlt) (hmono i) (hE i _ (List.getElem?_eq_getElem hlt)) (fun fr2 M2 hv2 hM2=>?_)
  exact .inl ⟨rfl,⟨i+1,hlt⟩,by simp only;omega,hv2,hM2⟩
 ·have hc:ilt (.ofNat i) (.ofNat x.args.length)=false:=by rw [natlt];exact decide_eq_false hlt
  rw [hc] at h'
  refine W.cond false h'.2.2.2.2.1 (fun h=>by cases h) (fun _=>W.exit ?_)
  obtain rfl:i=x.args.length:=by omega
  exact .inr ⟨by simp,Blkd_eq (AtR.fin hM1)⟩
def hdD (F:Nat) (x:Ex):List Dat:=if F=29 then (if x.op=3 then [.int .i64 (.ofNat (be x.num.mag))] else []) else (if x.op=5 then [sD x.name] else [])
mutual
def cds (F:Nat):Ex→List Dat | .mk o n r args=>hdD F (.mk o n r args)++cdsL F args
def cdsL (F:Nat):List Ex→List Dat
 | []=>[]
 | y::l=>cds F y++cdsL F l
end
theorem AtR.app {l:List Dat} {d:Dat} {M:Mem} {b:Nat} (hb:b≠0) (h0:M.t.get 0=some (.row [.slice b 0 (l.length+1) (l.length+1) true] false 1)) (h1:M.t.get b=some (.row (toAVs l++[toAV d]) true 1)):AtR (l++[d]) M:=by
 have e:toAVs (l++[d])=toAVs l++[toAV d]:=by rw [toAVs_append];rfl
 refine ⟨b,?_,.inr ⟨hb,by rw [h1,e]⟩⟩
 rw [h0]
 have hl:(l++[d]).length=l.length+1:=by simp
 cases hx:l++[d] with
 | nil=>simp at hx
 | cons s t =>
  rw [hx] at hl
  show _=some (Blk.row [.slice b 0 (s::t).length (s::t).length true] false 1)
  rw [hl]
theorem startV {F:Nat} (hF:F=29∨F=33) {x:Ex} (hob:x.op=3→ObjOk x.num) {l:List Dat} (hl:l.length<1000000) {Q:AE→Fr→Mem→Prop}
  (hQ:∀ fr M,lv [1,10,11,12] fr=valsW F x 0→AtR (l++hdD F x) M→W Tryz.prog T28 1 (post 3 c28) fr M Q):W Tryz.prog T28 1 c28 (mkFr (argSlots (viArgs F x) 0)) (mkMem (rowsR l)) Q:=by
 have g0:∀ c,List.append (List.take (Nat.mul l.length 1) (toAVs l)) c=toAVs l++c:=grow_row (by rw [toAVs_length];omega)
 have hlen:lenL (toAVs l)=l.length:=by rw [lenL_eq,toAVs_length]
 have hnn:∀ {M:Mem},mv [0] M=[some (.row [.nilSlice] false 1)]→AtR [] M:=fun h=>⟨1,mv_one h,.inl rfl⟩
 rcases hF with rfl | rfl
 ·have e29:∀ x:Ex,hdD 29 x=if x.op=3 then [.int .i64 (.ofNat (be x.num.mag))] else []:=fun x=>if_pos rfl
  rw [e29] at hQ
  have hti:=(toInt_c x.num.neg x.num.mag).spec0 rfl
  by_cases ho:x.op=3
  ·rw [if_pos ho] at hQ
   obtain ⟨h1,h2,h3,h4⟩:=hob ho
   have e:tiZ x.num.neg x.num.mag=(.ofNat (be x.num.mag),true):=by
    unfold tiZ
    rw [if_pos h4,h1,if_neg (by decide),if_pos (by omega)]
   rw [e] at hti
   have hi:ieq x.op 3=true:=by rw [ho];rfl
   cases l with
   | nil =>
    have key:=fun Q=>@W.runN (So [(22,14,true)]) Tryz.prog hm X0 hX0l [eTI _ _ _ true] (AllOk.mem ⟨hti,trivial⟩) T28 1 _ _ _ Q 60 3 [1,10,11,12] [0,4] _ (vo_nt x (.ofNat (be x.num.mag)))
    refine key _ ?_
    simp only [gX_iff,gB_iff]
    exact ⟨hi,pdec_iff.2 fun fr M hv hM=>hQ fr M hv (AtR.app (l:=[]) (b:=4) (by decide) (mv_two hM).1 (mv_two hM).2)⟩
   | cons s l =>
    have key:=fun Q=>@W.runN (So [(22,14,true)]) Tryz.prog hm X0 hX0l [eTI _ _ _ true] (AllOk.mem ⟨hti,trivial⟩) T28 1 _ _ _ Q 60 3 [1,10,11,12] [0,5] _ (vo_ct x (.ofNat (be x.num.mag)) (s::l).length (toAVs (s::l)))
    refine key _ ?_
    simp only [gX_iff,gB_iff,gateP_iff,List.drop_zero,g0,small3,nble_succ,hlen,true_and]
    exact ⟨hi,ble_of (by show _*1≤_;omega),beq_of (by show _=_*1;omega),ble_of (by show _+1≤_;omega),ble_of (by show (_+1)*8≤_;omega),pdec_iff.2 fun fr M hv hM=>hQ fr M hv (AtR.app (b:=5) (by decide) (mv_two hM).1 (mv_two hM).2)⟩
  ·rw [if_neg ho,List.append_nil] at hQ
   have hi:ieq x.op 3=false:=ieqf ho
   generalize (tiZ x.num.neg x.num.mag).1=z at hti
   generalize (tiZ x.num.neg x.num.mag).2=b at hti
   cases l with
   | nil =>
    have key:=fun Q=>@W.runN (So [(22,14,false)]) Tryz.prog hm X0 hX0l [eTI _ _ z b] (AllOk.mem ⟨hti,trivial⟩) T28 1 _ _ _ Q 60 3 [1,10,11,12] [0] _ (vo_nf x z b)
    refine key _ ?_
    simp only [gX_iff,gN_iff]
    exact ⟨hi,pdec_iff.2 fun fr M hv hM=>hQ fr M hv (hnn hM)⟩
   | cons s l =>
    have key:=fun Q=>@W.runN (So [(22,14,false)]) Tryz.prog hm X0 hX0l [eTI _ _ z b] (AllOk.mem ⟨hti,trivial⟩) T28 1 _ _ _ Q 60 3 [1,10,11,12] [0,1] _ (vo_cf x z b (s::l).length (toAVs (s::l)))
    refine key _ ?_
    simp only [gX_iff,gN_iff]
    exact ⟨hi,pdec_iff.2 fun fr M hv hM=>hQ fr M hv ⟨1,(mv_two hM).1,.inr ⟨by decide,(mv_two hM).2⟩⟩⟩
 ·have e33:∀ x:Ex,hdD 33 x=if x.op=5 then [sD x.name] else []:=fun x=>if_neg (by decide)
  rw [e33] at hQ
  by_cases ho:x.op=5
  ·rw [if_pos ho] at hQ
   have hi:ieq x.op 5=true:=by rw [ho];rfl
   cases l with
   | nil =>
    have key:=fun Q=>@W.runN (So [(11,5,true)]) Tryz.prog hm X0 hX0l [] (fun _ h=>by cases h) T28 1 _ _ _ Q 60 3 [1,10,11,12] [0,4] _ (vz_nt x)
    refine key _ ?_
    simp only [gB_iff]
    exact ⟨hi,pdec_iff.2 fun fr M hv hM=>hQ fr M hv (AtR.app (l:=[]) (b:=4) (by decide) (mv_two hM).1 (mv_two hM).2)⟩
   | cons s l =>
    have key:=fun Q=>@W.runN (So [(11,5,true)]) Tryz.prog hm X0 hX0l [] (fun _ h=>by cases h) T28 1 _ _ _ Q 60 3 [1,10,11,12] [0,5] _ (vz_ct x (s::l).length (toAVs (s::l)))
    refine key _ ?_
    simp only [gB_iff,gateP_iff,List.drop_zero,g0,small9,nble_succ,hlen,true_and]
    exact ⟨hi,ble_of (by show _*1≤_;omega),beq_of (by show _=_*1;omega),ble_of (by show _+1≤_;omega),ble_of (by show (_+1)*16≤_;omega),pdec_iff.2 fun fr M hv hM=>hQ fr M hv (AtR.app (b:=5) (by decide) (mv_two hM).1 (mv_two hM).2)⟩
  ·rw [if_neg ho,List.append_nil] at hQ
   have hi:ieq x.op 5=false:=ieqf ho
   cases l with
   | nil =>
    have key:=fun Q=>@W.runN (So [(11,5,false)]) Tryz.prog hm X0 hX0l [] (fun _ h=>by cases h) T28 1 _ _ _ Q 60 3 [1,10,11,12] [0] _ (vz_nf x)
    refine key _ ?_
    simp only [gN_iff]
    exact ⟨hi,pdec_iff.2 fun fr M hv hM=>hQ fr M hv (hnn hM)⟩
   | cons s l =>
    have key:=fun Q=>@W.runN (So [(11,5,false)]) Tryz.prog hm X0 hX0l [] (fun _ h=>by cases h) T28 1 _ _ _ Q 60 3 [1,10,11,12] [0,1] _ (vz_cf x (s::l).length (toAVs (s::l)))
    refine key _ ?_
    simp only [gN_iff]
    exact ⟨hi,pdec_iff.2 fun fr M hv hM=>hQ fr M hv ⟨1,(mv_two hM).1,.inr ⟨by decide,(mv_two hM).2⟩⟩⟩
theorem cdsL_take (F:Nat):∀ (args:List Ex) (i:Nat) (y:Ex),args[i]? = some y→cdsL F (args.take (i+1))=cdsL F (args.take i)++cds F y
 | [],i,y,h=>by simp at h
 | z::args,0,y,h=>by obtain rfl:=Option.some.inj h;simp [cdsL]
 | z::args,i+1,y,h=>by
  have:=cdsL_take F args i y h
  simp only [List.take_succ_cons,cdsL,this,List.append_assoc]
theorem size_take:∀ (args:List Ex) (i:Nat) (y:Ex),args[i]? = some y→sizeL (args.take i)+y.size≤sizeL args
 | [],i,y,h=>by simp at h
 | z::args,0,y,h=>by obtain rfl:=Option.some.inj h;simp [sizeL]
 | z::args,i+1,y,h=>by
  have:=size_take args i y h
  simp only [List.take_succ_cons,sizeL]
  omega
theorem hdD_len (F:Nat) (x:Ex):(hdD F x).length≤1:=by
 unfold hdD
 split<;>split<;>simp
mutual
theorem cds_len (F:Nat):∀ x:Ex,(cds F x).length≤x.size
 | .mk o n r args=>by
  have h0:=hdD_len F (.mk o n r args)
  have:=cdsL_len F args
  simp only [cds,Ex.size,List.length_append]
  omega
theorem cdsL_len (F:Nat):∀ l:List Ex,(cdsL F l).length≤sizeL l
 | []=>by simp [cdsL]
 | y::l=>by
  have h1:=cds_len F y
  have h2:=cdsL_len F l
  simp only [cdsL,sizeL,List.length_append]
  omega
end
theorem visit_c {F:Nat} (hF:F=29∨F=33):∀ {x:Ex},WF x→∀ l,l.length+x.size<1000000→Vi F x l (l++cds F x):=by
 intro x hx
 induction hx with
 | mk o n r args h1 h2 hal hob ha ih =>
  intro l hl
  have es:(Ex.mk (.ofNat o) n r args).size=1+sizeL args:=by simp [Ex.size]
  rw [es] at hl
  have h3:args.length≤3:=hal▸nArgs_le o
  let l1:List Dat:=l++hdD F (.mk (.ofNat o) n r args)
  have hl1:l1.length≤l.length+1:=by
   show (l++hdD F (.mk (.ofNat o) n r args)).length≤_
   have:=hdD_len F (.mk (.ofNat o) n r args)
   rw [List.length_append];omega
  have hE:∀ i y,args[i]? = some y→Vi F y (l1++cdsL F (args.take i)) (l1++cdsL F (args.take (i+1))):=by
   intro i y hy
   have h5:=size_take args i y hy
   have h6:=cdsL_len F (args.take i)
   have:=ih y (List.mem_of_getElem? hy) (l1++cdsL F (args.take i)) (by rw [List.length_append];omega)
   rw [cdsL_take F args i y hy,← List.append_assoc]
   exact this
  have hfin:l1++cdsL F (args.take args.length)=l++cds F (.mk (.ofNat o) n r args):=by
   rw [List.take_length]
   show (l++_)++_=_
   rw [List.append_assoc]
   simp only [cds]
  refine NSpec.of okVisit (by kernel_rfl) (fun _=>rfl) ?_ ?_ ?_ ?_
  ·cases l with
   | nil=>simp [looseR,isRow]
   | cons s l=>simp [looseR,isRow]
  ·cases l<;>rfl
  ·cases l with
   | nil =>
    intro b hb
    obtain rfl:b=.row (outR 1 []) false 1:=by simpa [looseR] using hb
    rfl
   | cons s l =>
    intro b hb
    rcases List.mem_cons.1 hb with rfl | hb
    ·rfl
    ·obtain rfl:b=.row (toAVs (s::l)) true 1:=List.mem_singleton.1 hb
     exact renB_data _ _ _ _
  ·rw [← hfin]
   refine startV hF (x:=.mk (.ofNat o) n r args) (fun h=>hob (by have h:(Int.ofNat o)=3:=h;simp only [Int.ofNat_eq_natCast] at h;omega)) (by omega) fun fr M hv hM=>?_
   refine loop28 (x:=.mk (.ofNat o) n r args) (fun i=>l1++cdsL F (args.take i)) h3 ?_ hE hv ?_
   ·intro i h
    have h':l1++cdsL F (args.take (i+1))=[]:=h
    cases hy:args[i]? with
    | some y =>
     rw [cdsL_take F args i y hy] at h'
     show l1++cdsL F (args.take i)=[]
     simp only [List.append_eq_nil_iff] at h' ⊢
     exact ⟨h'.1,h'.2.1⟩
    | none =>
     have hle:=List.getElem?_eq_none_iff.1 hy
     show l1++cdsL F (args.take i)=[]
     rw [List.take_of_length_le (by omega)] at h'
     rw [List.take_of_length_le hle]
     exact h'
   ·have:(fun i=>l1++cdsL F (args.take i)) 0=l1:=by simp [cdsL]
    show AtR ((fun i=>l1++cdsL F (args.take i)) 0) M
    rw [this]
    exact hM
end
end
end Go.Proofs.YtodjhpjcgggamaaGreatDoor

namespace Go.Proofs.YtodjhpjcgggamaaGreatDoor
open Go Go.Eng Go.Shelf Go.Proofs Go.Vi Go.Knuth
noncomputable section
section
local instance : Go.Eng.Mode := Sl
def sortI_ren:Go.Shelf.Ren:=⟨fun | 5=>31 | 8=>53 | 7=>52 | 19=>82 | 20=>83 | 10=>73 | 11=>74 | 12=>75 | 13=>76 | 14=>77 | 15=>78 | 16=>79 | 17=>80 | 18=>81 | 30=>118 | 31=>119 | 32=>120 | 33=>121 | 34=>122 | 35=>123 | 40=>153 | n=>n,fun | 23=>41 | 25=>3 | 3=>3 | 32=>116 | 22=>41 | 0=>0 | 44=>171 | 46=>111 | 4=>4 | 36=>165 | 35=>164 | 41=>80 | 5=>5 | 9=>9 | 53=>210 | 57=>65 | 63=>253 | 64=>254 | n=>n,fun | n=>n⟩
theorem sortI:Go.Proofs.SlLaysM.n5 Tryz.prog sortI_ren where
 mixed:=by kernel_rfl
 f5:=⟨ "slices.Sort[[]int,int]",by decide,Tryz.func31.trans (congrArg some (by kernel_rfl))⟩
 f7:=⟨ "slices.pdqsortOrdered[int]",by decide,Tryz.func52.trans (congrArg some (by kernel_rfl))⟩
 f8:=Tryz.func53.trans (congrArg some (by kernel_rfl))
 f10:=⟨ "slices.insertionSortOrdered[int]",by decide,Tryz.func73.trans (congrArg some (by kernel_rfl))⟩
 f11:=⟨ "slices.heapSortOrdered[int]",by decide,Tryz.func74.trans (congrArg some (by kernel_rfl))⟩
 f12:=⟨ "slices.breakPatternsOrdered[int]",by decide,Tryz.func75.trans (congrArg some (by kernel_rfl))⟩
 f13:=⟨ "slices.choosePivotOrdered[int]",by decide,Tryz.func76.trans (congrArg some (by kernel_rfl))⟩
 f14:=⟨ "slices.reverseRangeOrdered[int]",by decide,Tryz.func77.trans (congrArg some (by kernel_rfl))⟩
 f15:=⟨ "slices.partialInsertionSortOrdered[int]",by decide,Tryz.func78.trans (congrArg some (by kernel_rfl))⟩
 f16:=⟨ "cmp.Less[int]",by decide,Tryz.func79.trans (congrArg some (by kernel_rfl))⟩
 f17:=⟨ "slices.partitionEqualOrdered[int]",by decide,Tryz.func80.trans (congrArg some (by kernel_rfl))⟩
 f18:=⟨ "slices.partitionOrdered[int]",by decide,Tryz.func81.trans (congrArg some (by kernel_rfl))⟩
 f19:=Tryz.func82.trans (congrArg some (by kernel_rfl))
 f20:=Tryz.func83.trans (congrArg some (by kernel_rfl))
 f30:=⟨ "slices.siftDownOrdered[int]",by decide,Tryz.func118.trans (congrArg some (by kernel_rfl))⟩
 f31:=Tryz.func119.trans (congrArg some (by kernel_rfl))
 f32:=Tryz.func120.trans (congrArg some (by kernel_rfl))
 f33:=⟨ "slices.medianAdjacentOrdered[int]",by decide,Tryz.func121.trans (congrArg some (by kernel_rfl))⟩
 f34:=⟨ "slices.medianOrdered[int]",by decide,Tryz.func122.trans (congrArg some (by kernel_rfl))⟩
 f35:=⟨ "cmp.isNaN[int]",by decide,Tryz.func123.trans (congrArg some (by kernel_rfl))⟩
 f40:=⟨ "slices.order2Ordered[int]",by decide,Tryz.func153.trans (congrArg some (by kernel_rfl))⟩
 t0:=Tryz.underlying0
 a0:=Tryz.isAgg0
 z0:=Tryz.sizeOf0
 v0:=Tryz.zeroValue0
 t3:=Tryz.underlying3
 a3:=Tryz.isAgg3
 z3:=Tryz.sizeOf3
 v3:=Tryz.zeroValue3
 t4:=Tryz.underlying4
 a4:=Tryz.isAgg4
 z4:=Tryz.sizeOf4
 v4:=Tryz.zeroValue4
 t5:=Tryz.underlying5
 a5:=Tryz.isAgg5
 z5:=Tryz.sizeOf5
 v5:=Tryz.zeroValue5
 t9:=Tryz.underlying9
 a9:=Tryz.isAgg9
 z9:=Tryz.sizeOf9
 v9:=Tryz.zeroValue9
 t22:=Tryz.underlying41
 a22:=Tryz.isAgg41
 z22:=Tryz.sizeOf41
 v22:=Tryz.zeroValue41
 t23:=Tryz.underlying41
 a23:=Tryz.isAgg41
 z23:=Tryz.sizeOf41
 v23:=Tryz.zeroValue41
 t25:=Tryz.underlying3
 a25:=Tryz.isAgg3
 z25:=Tryz.sizeOf3
 v25:=Tryz.zeroValue3
 t32:=Tryz.underlying116
 a32:=Tryz.isAgg116
 z32:=Tryz.sizeOf116
 v32:=Tryz.zeroValue116
 t35:=Tryz.underlying164
 a35:=Tryz.isAgg164
 z35:=Tryz.sizeOf164
 v35:=Tryz.zeroValue164
 t36:=Tryz.underlying165
 a36:=Tryz.isAgg165
 z36:=Tryz.sizeOf165
 v36:=Tryz.zeroValue165
 t41:=Tryz.underlying80
 a41:=Tryz.isAgg80
 z41:=Tryz.sizeOf80
 v41:=Tryz.zeroValue80
 t44:=Tryz.underlying171
 a44:=Tryz.isAgg171
 z44:=Tryz.sizeOf171
 v44:=Tryz.zeroValue171
 t46:=Tryz.underlying111
 a46:=Tryz.isAgg111
 z46:=Tryz.sizeOf111
 v46:=Tryz.zeroValue111
 t53:=Tryz.underlying210
 a53:=Tryz.isAgg210
 z53:=Tryz.sizeOf210
 v53:=Tryz.zeroValue210
 t57:=Tryz.underlying65
 a57:=Tryz.isAgg65
 z57:=Tryz.sizeOf65
 v57:=Tryz.zeroValue65
 t63:=Tryz.underlying253
 a63:=Tryz.isAgg253
 z63:=Tryz.sizeOf253
 v63:=Tryz.zeroValue253
 t64:=Tryz.underlying254
 a64:=Tryz.isAgg254
 z64:=Tryz.sizeOf254
 v64:=Tryz.zeroValue254
def sortS_ren:Go.Shelf.Ren:=⟨fun | 6=>34 | 8=>53 | 9=>54 | 19=>82 | 20=>83 | 21=>84 | 22=>85 | 23=>86 | 24=>87 | 25=>88 | 26=>89 | 27=>90 | 28=>91 | 29=>92 | 36=>124 | 31=>119 | 32=>120 | 37=>125 | 38=>126 | 39=>127 | 41=>154 | n=>n,fun | 27=>42 | 29=>9 | 3=>3 | 32=>116 | 26=>42 | 0=>0 | 44=>171 | 46=>111 | 4=>4 | 36=>165 | 35=>164 | 41=>80 | 5=>5 | 9=>9 | 53=>210 | 57=>65 | 63=>253 | 64=>254 | n=>n,fun | n=>n⟩
theorem sortS:Go.Proofs.SlLaysM.n6 Tryz.prog sortS_ren where
 mixed:=by kernel_rfl
 f6:=⟨ "slices.Sort[[]string,string]",by decide,Tryz.func34.trans (congrArg some (by kernel_rfl))⟩
 f8:=Tryz.func53.trans (congrArg some (by kernel_rfl))
 f9:=⟨ "slices.pdqsortOrdered[string]",by decide,Tryz.func54.trans (congrArg some (by kernel_rfl))⟩
 f19:=Tryz.func82.trans (congrArg some (by kernel_rfl))
 f20:=Tryz.func83.trans (congrArg some (by kernel_rfl))
 f21:=⟨ "slices.insertionSortOrdered[string]",by decide,Tryz.func84.trans (congrArg some (by kernel_rfl))⟩
 f22:=⟨ "slices.heapSortOrdered[string]",by decide,Tryz.func85.trans (congrArg some (by kernel_rfl))⟩
 f23:=⟨ "slices.breakPatternsOrdered[string]",by decide,Tryz.func86.trans (congrArg some (by kernel_rfl))⟩
 f24:=⟨ "slices.choosePivotOrdered[string]",by decide,Tryz.func87.trans (congrArg some (by kernel_rfl))⟩
 f25:=⟨ "slices.reverseRangeOrdered[string]",by decide,Tryz.func88.trans (congrArg some (by kernel_rfl))⟩
 f26:=⟨ "slices.partialInsertionSortOrdered[string]",by decide,Tryz.func89.trans (congrArg some (by kernel_rfl))⟩
 f27:=⟨ "cmp.Less[string]",by decide,Tryz.func90.trans (congrArg some (by kernel_rfl))⟩
 f28:=⟨ "slices.partitionEqualOrdered[string]",by decide,Tryz.func91.trans (congrArg some (by kernel_rfl))⟩
 f29:=⟨ "slices.partitionOrdered[string]",by decide,Tryz.func92.trans (congrArg some (by kernel_rfl))⟩
 f31:=Tryz.func119.trans (congrArg some (by kernel_rfl))
 f32:=Tryz.func120.trans (congrArg some (by kernel_rfl))
 f36:=⟨ "slices.siftDownOrdered[string]",by decide,Tryz.func124.trans (congrArg some (by kernel_rfl))⟩
 f37:=⟨ "slices.medianAdjacentOrdered[string]",by decide,Tryz.func125.trans (congrArg some (by kernel_rfl))⟩
 f38:=⟨ "slices.medianOrdered[string]",by decide,Tryz.func126.trans (congrArg some (by kernel_rfl))⟩
 f39:=⟨ "cmp.isNaN[string]",by decide,Tryz.func127.trans (congrArg some (by kernel_rfl))⟩
 f41:=⟨ "slices.order2Ordered[string]",by decide,Tryz.func154.trans (congrArg some (by kernel_rfl))⟩
 t0:=Tryz.underlying0
 a0:=Tryz.isAgg0
 z0:=Tryz.sizeOf0
 v0:=Tryz.zeroValue0
 t3:=Tryz.underlying3
 a3:=Tryz.isAgg3
 z3:=Tryz.sizeOf3
 v3:=Tryz.zeroValue3
 t4:=Tryz.underlying4
 a4:=Tryz.isAgg4
 z4:=Tryz.sizeOf4
 v4:=Tryz.zeroValue4
 t5:=Tryz.underlying5
 a5:=Tryz.isAgg5
 z5:=Tryz.sizeOf5
 v5:=Tryz.zeroValue5
 t9:=Tryz.underlying9
 a9:=Tryz.isAgg9
 z9:=Tryz.sizeOf9
 v9:=Tryz.zeroValue9
 t26:=Tryz.underlying42
 a26:=Tryz.isAgg42
 z26:=Tryz.sizeOf42
 v26:=Tryz.zeroValue42
 t27:=Tryz.underlying42
 a27:=Tryz.isAgg42
 z27:=Tryz.sizeOf42
 v27:=Tryz.zeroValue42
 t29:=Tryz.underlying9
 a29:=Tryz.isAgg9
 z29:=Tryz.sizeOf9
 v29:=Tryz.zeroValue9
 t32:=Tryz.underlying116
 a32:=Tryz.isAgg116
 z32:=Tryz.sizeOf116
 v32:=Tryz.zeroValue116
 t35:=Tryz.underlying164
 a35:=Tryz.isAgg164
 z35:=Tryz.sizeOf164
 v35:=Tryz.zeroValue164
 t36:=Tryz.underlying165
 a36:=Tryz.isAgg165
 z36:=Tryz.sizeOf165
 v36:=Tryz.zeroValue165
 t41:=Tryz.underlying80
 a41:=Tryz.isAgg80
 z41:=Tryz.sizeOf80
 v41:=Tryz.zeroValue80
 t44:=Tryz.underlying171
 a44:=Tryz.isAgg171
 z44:=Tryz.sizeOf171
 v44:=Tryz.zeroValue171
 t46:=Tryz.underlying111
 a46:=Tryz.isAgg111
 z46:=Tryz.sizeOf111
 v46:=Tryz.zeroValue111
 t53:=Tryz.underlying210
 a53:=Tryz.isAgg210
 z53:=Tryz.sizeOf210
 v53:=Tryz.zeroValue210
 t57:=Tryz.underlying65
 a57:=Tryz.isAgg65
 z57:=Tryz.sizeOf65
 v57:=Tryz.zeroValue65
 t63:=Tryz.underlying253
 a63:=Tryz.isAgg253
 z63:=Tryz.sizeOf253
 v63:=Tryz.zeroValue253
 t64:=Tryz.underlying254
 a64:=Tryz.isAgg254
 z64:=Tryz.sizeOf254
 v64:=Tryz.zeroValue254
def compI_ren:Go.Shelf.Ren:=⟨fun | 43=>32 | n=>n,fun | 22=>41 | 23=>3 | 3=>3 | 4=>4 | 0=>0 | n=>n,fun | n=>n⟩
theorem compI:Go.Proofs.SlLaysN.n43 Tryz.prog compI_ren where
 mixed:=by kernel_rfl
 f43:=⟨ "slices.Compact[[]int,int]",by decide,Tryz.func32.trans (congrArg some (by kernel_rfl))⟩
 t0:=Tryz.underlying0
 a0:=Tryz.isAgg0
 z0:=Tryz.sizeOf0
 v0:=Tryz.zeroValue0
 t3:=Tryz.underlying3
 a3:=Tryz.isAgg3
 z3:=Tryz.sizeOf3
 v3:=Tryz.zeroValue3
 t4:=Tryz.underlying4
 a4:=Tryz.isAgg4
 z4:=Tryz.sizeOf4
 v4:=Tryz.zeroValue4
 t22:=Tryz.underlying41
 a22:=Tryz.isAgg41
 z22:=Tryz.sizeOf41
 v22:=Tryz.zeroValue41
 t23:=Tryz.underlying3
 a23:=Tryz.isAgg3
 z23:=Tryz.sizeOf3
 v23:=Tryz.zeroValue3
 i23:=by kernel_rfl
def compS_ren:Go.Shelf.Ren:=⟨fun | 44=>35 | n=>n,fun | 25=>42 | 26=>9 | 3=>3 | 4=>4 | 0=>0 | n=>n,fun | n=>n⟩
theorem compS:Go.Proofs.SlLaysN.n44 Tryz.prog compS_ren where
 mixed:=by kernel_rfl
 f44:=⟨ "slices.Compact[[]string,string]",by decide,Tryz.func35.trans (congrArg some (by kernel_rfl))⟩
 t0:=Tryz.underlying0
 a0:=Tryz.isAgg0
 z0:=Tryz.sizeOf0
 v0:=Tryz.zeroValue0
 t3:=Tryz.underlying3
 a3:=Tryz.isAgg3
 z3:=Tryz.sizeOf3
 v3:=Tryz.zeroValue3
 t4:=Tryz.underlying4
 a4:=Tryz.isAgg4
 z4:=Tryz.sizeOf4
 v4:=Tryz.zeroValue4
 t25:=Tryz.underlying42
 a25:=Tryz.isAgg42
 z25:=Tryz.sizeOf42
 v25:=Tryz.zeroValue42
 t26:=Tryz.underlying9
 a26:=Tryz.isAgg9
 z26:=Tryz.sizeOf9
 v26:=Tryz.zeroValue9
 i26:=by kernel_rfl
theorem strRel {ρ:Env} {s:List UInt8} {v:Value} (h:VRel ρ (strA s) v):v=encStr s:=by
 have h':VRel ρ (.str s.length (enc s)) v:=h
 generalize hn:s.length=n at h'
 generalize he:enc s=c at h'
 cases h' with
 | str l =>
  have:l=s:=enc_inj _ _ hn.symm he.symm
  subst this
  rfl
def iD (z:Int):Dat:=.int .i64 z
structure CodeOk {α:Type} [Inhabited α] (D:α→Dat) (ev:α→Value):Prop where
 rel:∀ (ρ:Env) (l:List α) (vs:List Value),VsRel ρ (toAVs (l.map D)) vs→vs=l.map ev
 back:∀ (ρ:Env) (l:List α),VsRel ρ (toAVs (l.map D)) (l.map ev)
 put:∀ (cur:Array Value) (ts:List α),ts.length≤cur.size→(Go.Sort.putCells ev 0 ts.toArray cur).toList.take ts.length=ts.map ev
theorem codeS:CodeOk sD encStr where
 rel ρ l:=by
  induction l with
  | nil=>intro vs h;cases h;rfl
  | cons s l ih =>
   intro vs h
   have h':VsRel ρ (strA s::toAVs (l.map sD)) vs:=h
   cases h' with
   | cons _ v _ vs h1 h2=>rw [strRel h1,ih _ h2];rfl
 back ρ l:=by
  induction l with
  | nil=>exact .nil
  | cons s l ih=>exact .cons _ _ _ _ (.str s) ih
 put cur ts h:=take_putCells cur ts h
theorem codeI:CodeOk iD (Value.int .i64) where
 rel ρ l:=by
  induction l with
  | nil=>intro vs h;cases h;rfl
  | cons s l ih =>
   intro vs h
   have h':VsRel ρ (.int .i64 s::toAVs (l.map iD)) vs:=h
   cases h' with
   | cons _ v _ vs h1 h2=>cases h1;rw [ih _ h2];rfl
 back ρ l:=by
  induction l with
  | nil=>exact .nil
  | cons s l ih=>exact .cons _ _ _ _ (.int _ _) ih
 put cur ts h:=take_putCellsI cur ts h
theorem MSpec.putRow {α:Type} [Inhabited α] {D:α→Dat} {ev:α→Value} (hco:CodeOk D ev) {f:FuncId} (hent:∀ cargs w,(callFunc f cargs).run Tryz.prog w=.ok (.enter f cargs) w) {i cap nx:Nat} {op:Bool} {l l':List α} (hl:l'.length=l.length) (hcap:l.length≤cap) {ans:AV}
  (h:∀ (w:World) (B c:Nat),Go.Sort.Holds ev w B 0 l.toArray→B<w.heap.size→l.length≤c→Calls Tryz.prog f #[.slice (some ⟨B,0,none⟩) l.length c] w fun e w' =>
   ∃ cv,e=.returned cv∧(∀ (ρ:Env) (x:Nat),ρ i=some (B,x)→c=cap+(if op then x else 0)→VRel ρ ans cv)∧∃ q os,w'=Go.Sort.grow (Go.Sort.putRow ev (Go.Sort.ahead w q) B 0 l'.toArray) os) :
  MSpec Tryz.prog f ⟨[.slice i 0 l.length cap op],nx,[(i,.row (toAVs (l.map D)) op 1,.row (toAVs (l'.map D)) op 1)],[],ans⟩:=by
 intro M M1 M' _ hU hN w0 R ρ w cargs hM hv
 obtain ⟨M2,g1,g2,g3,rfl⟩:=hU
 obtain rfl:M'=M1:=hN
 have hv:VsRel ρ [.slice i 0 l.length cap op] cargs.toList:=hv
 refine .inr ⟨hent cargs w,?_⟩
 generalize hc:cargs.toList=vs at hv
 cases hv with
 | cons _ v _ vs2 h1 h2 =>
  cases h2
  cases h1 with
  | slice _ _ _ _ _ B x c hr hcc =>
   obtain rfl:cargs=#[.slice (some ⟨B,0,none⟩) l.length c]:=by
    apply Array.toList_inj.1;exact hc
   obtain ⟨arr,t,ho,hrel,hsz⟩:=hM.row g1 hr
   have hln:(toAVs (l.map D)).length=l.length:=by rw [toAVs_length,List.length_map]
   have hln':(toAVs (l'.map D)).length=l.length:=by rw [toAVs_length,List.length_map,hl]
   rw [hln] at hrel hsz
   have htake:=hco.rel _ _ _ hrel
   have hle:l.length≤arr.size:=by omega
   have hB:B<w.heap.size:=(Array.getElem?_eq_some_iff.1 ho).1
   have hH:Go.Sort.Holds ev w B 0 l.toArray:=by
    intro j hj
    have hj':j<l.length:=by simpa using hj
    constructor
    ·show (match w.heap[B]? with | some (.cells c _ _)=>if (none:Option _).isSome then none else c[0+j]? | _=>none)=_
     rw [ho]
     show arr[0+j]? = _
     rw [Nat.zero_add,← Array.getElem?_toList]
     have:(arr.toList.take l.length)[j]? = (l.map ev)[j]?:=by rw [htake]
     rw [List.getElem?_take_of_lt hj',List.getElem?_map,List.getElem?_eq_getElem hj'] at this
     rw [this]
     simp [hj']
    ·show (match w.heap[B]? with | some (.cells _ _ (lo,hi))=>lo≤0+j&&0+j<hi | _=>false)=false
     rw [ho]
     simp
   refine (h w B c hH hB (by omega)).mono fun e w'=>?_
   rintro ⟨cv,rfl,hcv,q,os,rfl⟩
   refine ⟨ρ,cv,Env.le.refl _,rfl,hcv ρ x hr hcc,?_⟩
   have hMM:M'=⟨M'.t,M.nx⟩:=by cases M';simp only at g3;rw [g3]
   rw [hMM]
   refine hM.set g1 (by simp) hr (.row (toAVs (l'.map D)) op 1) (.cells (Go.Sort.putCells ev 0 l'.toArray arr) t (0,0)) (fun k=>g2 k) rfl rfl rfl ?_ ?_ ?_ ?_
   ·simp [Go.Sort.grow,Go.Sort.putRow,Go.Sort.mapBlock,Go.Sort.ahead]
   ·intro k hk hks
    rw [Go.Sort.heap_grow_old _ _ (by simpa [Go.Sort.putRow,Go.Sort.mapBlock,Go.Sort.ahead] using hks)]
    have:B≠k:=Ne.symm hk
    simp [Go.Sort.putRow,Go.Sort.mapBlock,Go.Sort.ahead,Array.getElem?_modify,this]
   ·rw [Go.Sort.heap_grow_old _ _ (by simpa [Go.Sort.putRow,Go.Sort.mapBlock,Go.Sort.ahead] using hB)]
    simp [Go.Sort.putRow,Go.Sort.mapBlock,Go.Sort.ahead,Array.getElem?_modify,ho,Go.Sort.onCells]
   ·refine ⟨?_,?_,rfl⟩
    ·rw [hln',← hl,hco.put arr l' (by omega)]
     exact hco.back ρ l'
    ·rw [hln']
     simp [Go.Sort.putCells,hsz]
theorem entered {f:FuncId} {fn:Func} (hf:FnOk Tryz.prog f fn) (cargs:Array Value) (w:World):(callFunc f cargs).run Tryz.prog w=.ok (.enter f cargs) w:=by
 have hne:¬ fn.name = "runtime.NumGoroutine":=by simpa using hf.name
 simp [callFunc,hf.at_,hne,codeOf_some hf.body]
theorem ok31:FnOk Tryz.prog 31 Tryz.f31:=⟨Tryz.func31,by kernel_rfl,by kernel_rfl⟩
theorem ok32:FnOk Tryz.prog 32 Tryz.f32:=⟨Tryz.func32,by kernel_rfl,by kernel_rfl⟩
theorem ok34:FnOk Tryz.prog 34 Tryz.f34:=⟨Tryz.func34,by kernel_rfl,by kernel_rfl⟩
theorem ok35:FnOk Tryz.prog 35 Tryz.f35:=⟨Tryz.func35,by kernel_rfl,by kernel_rfl⟩
section
variable {α:Type} [Inhabited α] [DecidableEq α]
def pad (z:α) (l:List α):List α:=Go.Lib.compact l++List.replicate (l.length-(Go.Lib.compact l).length) z
theorem cmpn_len (l:List α):(Go.Lib.compact l).length≤l.length:=by
 unfold Go.Lib.compact Go.Lib.compactUpTo
 rw [List.length_map]
 exact Nat.le_trans (List.length_filter_le _ _) (by simp)
theorem pad_len (z:α) (l:List α):(pad z l).length=l.length:=by
 have:=cmpn_len l
 unfold pad;simp;omega
end
def mSort (b nx n:Nat) (L L':List AV):MEnt:=⟨[.slice b 0 n n true],nx,[(b,.row L true 1,.row L' true 1)],[],.tuple []⟩
def mComp (b nx n k:Nat) (L L':List AV):MEnt:=⟨[.slice b 0 n n true],nx,[(b,.row L true 1,.row L' true 1)],[],.slice b 0 k n true⟩
def srtI (l:List Int):List Int:=l.mergeSort fun x y=>decide (x≤y)
def srtS (l:List (List UInt8)):List (List UInt8):=l.mergeSort fun x y=>decide (x≤y)
theorem srtI_len (l:List Int):(srtI l).length=l.length:=List.length_mergeSort l
theorem srtS_len (l:List (List UInt8)):(srtS l).length=l.length:=List.length_mergeSort l
theorem sortI_ok (b nx:Nat) (l:List Int) (hl:l.length<4611686018427387904):MSpec Tryz.prog 31 (mSort b nx l.length (toAVs (l.map iD)) (toAVs ((srtI l).map iD))) :=
 MSpec.putRow codeI (entered ok31) (srtI_len l) (Nat.le_refl _) fun w B c hH hB _=>(AnyM.slices_Sort_int sortI B 0 c l w hH hB hl).mono fun e w' ⟨h1,n,os,h2⟩=>⟨_,h1,fun ρ x _ _=>.tuple _ _ .nil,n,os,h2⟩
theorem sortS_ok (b nx:Nat) (l:List (List UInt8)) (hl:l.length<4611686018427387904):MSpec Tryz.prog 34 (mSort b nx l.length (toAVs (l.map sD)) (toAVs ((srtS l).map sD))) :=
 MSpec.putRow codeS (entered ok34) (srtS_len l) (Nat.le_refl _) fun w B c hH hB _=>(AnyM.slices_Sort_string sortS B 0 c l w hH hB hl).mono fun e w' ⟨h1,n,os,h2⟩=>⟨_,h1,fun ρ x _ _=>.tuple _ _ .nil,n,os,h2⟩
theorem compI_ok (b nx:Nat) {n:Nat} (l:List Int) (hn:l.length=n) (hl:n<4611686018427387904):MSpec Tryz.prog 32 (mComp b nx n (Go.Lib.compact l).length (toAVs (l.map iD)) (toAVs ((pad 0 l).map iD))):=by
 subst hn
 have:=cmpn_len l
 exact MSpec.putRow codeI (entered ok32) (l':=pad 0 l) (pad_len 0 l) (Nat.le_refl _) fun w B c hH _ hc=>(AnyG.slices_Compact_int compI B 0 c l w hH (by omega) hc).mono fun _ _ ⟨h1,q,h2⟩ =>
  ⟨_,h1,fun _ x hr hcc=>.slice _ _ _ _ _ B x c hr hcc,q,#[],h2.trans (Go.Sort.grow_empty _).symm⟩
theorem compS_ok (b nx:Nat) {n:Nat} (l:List (List UInt8)) (hn:l.length=n) (hl:n<4611686018427387904):MSpec Tryz.prog 35 (mComp b nx n (Go.Lib.compact l).length (toAVs (l.map sD)) (toAVs ((pad [] l).map sD))):=by
 subst hn
 have:=cmpn_len l
 exact MSpec.putRow codeS (entered ok35) (l':=pad [] l) (pad_len [] l) (Nat.le_refl _) fun w B c hH _ hc=>(AnyG.slices_Compact_string compS B 0 c l w hH (by omega) hc).mono fun _ _ ⟨h1,q,h2⟩ =>
  ⟨_,h1,fun _ x hr hcc=>.slice _ _ _ _ _ B x c hr hcc,q,#[],h2.trans (Go.Sort.grow_empty _).symm⟩
def mNil (ans:AV) (nx:Nat):MEnt:=⟨[.nilSlice],nx,[],[],ans⟩
theorem nil_inv {ρ:Env} {cargs:Array Value} (h:VsRel ρ [.nilSlice] cargs.toList):cargs=#[.slice none 0 0]:=by
 generalize hc:cargs.toList=vs at h
 cases h with
 | cons _ v _ vs h1 h2=>cases h1;cases h2;apply Array.toList_inj.1;exact hc
theorem mNil_ok {f:FuncId} {ans:AV} {cv:Value} (hent:∀ cargs w,(callFunc f cargs).run Tryz.prog w=.ok (.enter f cargs) w) (hv:∀ ρ,VRel ρ ans cv) (h:∀ w,Calls Tryz.prog f #[.slice none 0 0] w fun e w'=>e=.returned cv∧w'=w) (nx:Nat):MSpec Tryz.prog f (mNil ans nx):=by
 intro M M1 M' _ hU hN w0 R ρ w cargs hM hv'
 obtain rfl:M1=M:=hU
 obtain rfl:M'=M1:=hN
 obtain rfl:=nil_inv hv'
 exact .inr ⟨hent _ _,(h w).mono fun e w' ⟨h1,h2⟩=>⟨ρ,_,Env.le.refl _,h1,hv ρ,h2▸hM⟩⟩
theorem mNil31 (nx:Nat):MSpec Tryz.prog 31 (mNil (.tuple []) nx):=mNil_ok (entered ok31) (fun _=>.tuple _ _ .nil) (fun w=>AnyM.slices_Sort_int_none sortI none 0 w) nx
theorem mNil34 (nx:Nat):MSpec Tryz.prog 34 (mNil (.tuple []) nx):=mNil_ok (entered ok34) (fun _=>.tuple _ _ .nil) (fun w=>AnyM.slices_Sort_string_none sortS none 0 w) nx
theorem mNil32 (nx:Nat):MSpec Tryz.prog 32 (mNil .nilSlice nx):=mNil_ok (entered ok32) (fun _=>.nilSlice) (fun w=>AnyG.slices_Compact_int_empty compI none 0 w) nx
theorem mNil35 (nx:Nat):MSpec Tryz.prog 35 (mNil .nilSlice nx):=mNil_ok (entered ok35) (fun _=>.nilSlice) (fun w=>AnyG.slices_Compact_string_empty compS none 0 w) nx
end
end
end Go.Proofs.YtodjhpjcgggamaaGreatDoor

namespace Go.Proofs.YtodjhpjcgggamaaGreatDoor
open Go
structure LtOk {α:Type} (lt:α→α→Prop):Prop where
 irr:∀ a,¬ lt a a
 tr:∀ a b c,lt a b→lt b c→lt a c
 tri:∀ a b,lt a b∨a=b∨lt b a
theorem ltNat:LtOk (fun a b:Nat=>a<b):=⟨Nat.lt_irrefl,fun _ _ _=>Nat.lt_trans,fun a b=>by omega⟩
theorem ltInt:LtOk (fun a b:Int=>a<b):=⟨Int.lt_irrefl,fun _ _ _=>Int.lt_trans,fun a b=>by omega⟩
theorem ltStr:LtOk (fun a b:List UInt8=>a<b):=by
 refine ⟨fun a=>List.lt_irrefl a,fun a b c=>List.lt_trans,fun a b=>?_⟩
 by_cases h:a<b
 ·exact .inl h
 ·by_cases h':b<a
  ·exact .inr (.inr h')
  ·exact .inr (.inl (List.le_antisymm (List.not_lt.1 h') (List.not_lt.1 h)))
section
variable {α:Type} {lt:α→α→Prop}
abbrev Srt (lt:α→α→Prop) (l:List α):Prop:=l.Pairwise lt
theorem srt_at (ho:LtOk lt) {l:List α} (hs:Srt lt l) {i j:Nat} (hi:i<l.length) (hj:j<l.length) (h:i<j):lt l[i] l[j]:=List.pairwise_iff_getElem.1 hs i j hi hj h
theorem ins_srt (ho:LtOk lt) {l:List α} (hs:Srt lt l) {v:α} {k:Nat} (h1:∀ j (h:j<l.length),j<k→lt l[j] v) (h2:∀ h:k<l.length,lt v l[k]):Srt lt (l.take k++v::l.drop k):=by
 have hd:∀ b∈l.drop k,lt v b:=by
  intro b hb
  obtain ⟨j,hj,rfl⟩:=List.getElem_of_mem hb
  rw [List.length_drop] at hj
  rw [List.getElem_drop]
  have hk:k<l.length:=by omega
  by_cases e:j=0
  ·subst e;exact h2 hk
  ·exact ho.tr _ _ _ (h2 hk) (srt_at ho hs hk (by omega) (by omega))
 have ht:∀ a∈l.take k,lt a v:=by
  intro a ha
  obtain ⟨j,hj,rfl⟩:=List.getElem_of_mem ha
  rw [List.length_take] at hj
  rw [List.getElem_take]
  exact h1 j (by omega) (by omega)
 refine List.pairwise_append.2 ⟨hs.sublist (List.take_sublist _ _),List.pairwise_cons.2 ⟨hd,hs.sublist (List.drop_sublist _ _)⟩,fun a ha b hb=>?_⟩
 rcases List.mem_cons.1 hb with rfl | hb
 ·exact ht a ha
 ·exact ho.tr _ _ _ (ht a ha) (hd b hb)
theorem ins_mem {l:List α} {v w:α} {k:Nat}:w∈l.take k++v::l.drop k↔w∈l∨w=v:=by
 have e:w∈l↔w∈l.take k∨w∈l.drop k:=by
  rw [← List.mem_append,List.take_append_drop]
 rw [e,List.mem_append,List.mem_cons]
 constructor
 ·rintro (h | h | h)
  ·exact .inl (.inl h)
  ·exact .inr h
  ·exact .inl (.inr h)
 ·rintro ((h | h) | h)
  ·exact .inl h
  ·exact .inr (.inr h)
  ·exact .inr (.inl h)
theorem srt_uniq (ho:LtOk lt):∀ {l l':List α},Srt lt l→Srt lt l'→(∀ w,w∈l↔w∈l')→l=l'
 | [],[],_,_,_=>rfl
 | [],b::l',_,_,h=>by have:=(h b).2 (List.mem_cons_self ..);cases this
 | a::l,[],_,_,h=>by have:=(h a).1 (List.mem_cons_self ..);cases this
 | a::l,b::l',hs,hs',h=>by
  have ha:=List.pairwise_cons.1 hs
  have hb:=List.pairwise_cons.1 hs'
  have e:a=b:=by
   rcases List.mem_cons.1 ((h a).1 (List.mem_cons_self ..)) with e | h1
   ·exact e
   ·rcases List.mem_cons.1 ((h b).2 (List.mem_cons_self ..)) with e | h2
    ·exact e.symm
    ·exact absurd (ho.tr _ _ _ (ha.1 b h2) (hb.1 a h1)) (ho.irr a)
  subst e
  rw [srt_uniq ho ha.2 hb.2 fun w=>?_]
  constructor
  ·intro hw
   rcases List.mem_cons.1 ((h w).1 (List.mem_cons_of_mem _ hw)) with e | h1
   ·subst e;exact absurd (ha.1 w hw) (ho.irr w)
   ·exact h1
  ·intro hw
   rcases List.mem_cons.1 ((h w).2 (List.mem_cons_of_mem _ hw)) with e | h1
   ·subst e;exact absurd (hb.1 w hw) (ho.irr w)
   ·exact h1
theorem comp_srt [Inhabited α] [DecidableEq α] (ho:LtOk lt) {l:List α} (hs:l.Pairwise fun a b=>¬ lt b a):Srt lt (Go.Lib.compact l)∧∀ w,w∈Go.Lib.compact l↔w∈l:=by
 have hget:∀ i (h:i<l.length),l.toArray[i]! = l[i]:=fun i h=>by simp [h]
 have hle:∀ i j (hi:i<l.length) (hj:j<l.length),i≤j→¬ lt l[j] l[i]:=by
  intro i j hi hj hij
  rcases Nat.lt_or_eq_of_le hij with h | h
  ·exact List.pairwise_iff_getElem.1 hs i j hi hj h
  ·subst h;exact ho.irr _
 have hk:∀ j,Go.Lib.keeps l.toArray j=true↔(j=0∨l.toArray[j]!≠l.toArray[j-1]!):=by
  intro j
  simp [Go.Lib.keeps]
 constructor
 ·unfold Go.Lib.compact Go.Lib.compactUpTo
  rw [Srt,List.pairwise_map]
  refine List.Pairwise.imp_of_mem ?_ (List.Pairwise.filter _ List.pairwise_lt_range)
  intro i j hi hj hij
  have hj2:=List.mem_filter.1 hj
  have hjl:j<l.length:=List.mem_range.1 hj2.1
  rw [hget i (by omega),hget j hjl]
  rcases (hk j).1 hj2.2 with e | e
  ·omega
  ·rw [hget j hjl,hget (j-1) (by omega)] at e
   have h1:¬ lt l[j] l[j-1]:=hle (j-1) j (by omega) hjl (by omega)
   have h2:¬ lt l[j-1] l[i]:=hle i (j-1) (by omega) (by omega) (by omega)
   have h3:lt l[j-1] l[j]:=by
    rcases ho.tri l[j-1] l[j] with h | h | h
    ·exact h
    ·exact absurd h.symm e
    ·exact absurd h h1
   rcases ho.tri l[i] l[j-1] with h | h | h
   ·exact ho.tr _ _ _ h h3
   ·rw [h];exact h3
   ·exact absurd h h2
 ·intro w
  unfold Go.Lib.compact Go.Lib.compactUpTo
  constructor
  ·intro hw
   obtain ⟨j,hj,rfl⟩:=List.mem_map.1 hw
   have hjl:j<l.length:=List.mem_range.1 (List.mem_filter.1 hj).1
   rw [hget j hjl];exact List.getElem_mem hjl
  ·intro hw
   obtain ⟨i,hi,rfl⟩:=List.getElem_of_mem hw
   induction i with
   | zero=>exact List.mem_map.2 ⟨0,List.mem_filter.2 ⟨List.mem_range.2 hi,(hk 0).2 (.inl rfl)⟩,hget 0 hi⟩
   | succ i ih =>
    by_cases e:l[i+1]=l[i]
    ·rw [e];exact ih (by omega) (List.getElem_mem _)
    ·exact List.mem_map.2 ⟨i+1,List.mem_filter.2 ⟨List.mem_range.2 hi,(hk _).2 (.inr (by rw [hget _ hi,Nat.add_sub_cancel,hget i (by omega)];exact e))⟩,hget _ hi⟩
end
theorem srtI_c (l:List Int):Srt (fun a b:Int=>a<b) (Go.Lib.compact (l.mergeSort fun x y=>decide (x≤y)))∧∀ w,w∈Go.Lib.compact (l.mergeSort fun x y=>decide (x≤y))↔w∈l:=by
 have h:=List.pairwise_mergeSort (le:=fun x y:Int=>decide (x≤y)) (fun a b c h1 h2=>by simp at h1 h2 ⊢;omega) (fun a b=>by simp;omega) l
 have hc:=comp_srt ltInt (l:=l.mergeSort fun x y=>decide (x≤y)) (h.imp fun {a b} h=>by simpa using h)
 exact ⟨hc.1,fun w=>(hc.2 w).trans (List.mergeSort_perm l _).mem_iff⟩
theorem srtS_c (l:List (List UInt8)):Srt (fun a b:List UInt8=>a<b) (Go.Lib.compact (l.mergeSort fun x y=>decide (x≤y)))∧∀ w,w∈Go.Lib.compact (l.mergeSort fun x y=>decide (x≤y))↔w∈l:=by
 have h:=List.pairwise_mergeSort (le:=fun x y:List UInt8=>decide (x≤y)) (fun a b c h1 h2=>by simp only [decide_eq_true_eq] at h1 h2 ⊢;exact List.le_trans h1 h2) (fun a b=>by simp only [Bool.or_eq_true,decide_eq_true_eq];exact List.le_total a b) l
 have hc:=comp_srt ltStr (l:=l.mergeSort fun x y=>decide (x≤y)) (h.imp fun {a b} h=>by simp only [decide_eq_true_eq] at h;exact List.not_lt.2 h)
 exact ⟨hc.1,fun w=>(hc.2 w).trans (List.mergeSort_perm l _).mem_iff⟩
theorem be_app_le (a b:List UInt8):be a≤be (a++b):=by
 induction b generalizing a with
 | nil=>simp
 | cons c b ih =>
  have h:=ih (a++[c])
  rw [List.append_assoc] at h
  rw [be_snoc] at h
  show be a≤be (a++([c]++b))
  omega
theorem be_take_le (m:List UInt8) (i:Nat):be (m.take i)≤be m:=by
 have:=be_app_le (m.take i) (m.drop i)
 rwa [List.take_append_drop] at this
theorem be_take_succ {m:List UInt8} {i:Nat} (h:i<m.length):be (m.take (i+1))=be (m.take i)*256+m[i].toNat:=by
 rw [List.take_add_one,List.getElem?_eq_getElem h]
 exact be_snoc _ _
end Go.Proofs.YtodjhpjcgggamaaGreatDoor

namespace Go.Proofs.YtodjhpjcgggamaaGreatDoor
open Go Go.Eng Go.Vi Go.Knuth
noncomputable section
mutual
def objs:Ex→List Nat | .mk o _ r args=>(if o=3 then [be r.mag] else [])++objsL args
def objsL:List Ex→List Nat
 | []=>[]
 | y::l=>objs y++objsL l
end
mutual
def zns:Ex→List (List UInt8) | .mk o n _ args=>(if o=5 then [n] else [])++znsL args
def znsL:List Ex→List (List UInt8)
 | []=>[]
 | y::l=>zns y++znsL l
end
def nD (n:Nat):Dat:=.int .i64 (.ofNat n)
mutual
theorem cds_29:∀ x:Ex,cds 29 x=(objs x).map nD
 | .mk o n r args=>by
  have h:=cdsL_29 args
  simp only [cds,objs,List.map_append,← h]
  congr 1
  show (if (29:Nat)=29 then (if o=3 then [nD (be r.mag)] else []) else _)=_
  rw [if_pos rfl]
  split<;>rfl
theorem cdsL_29:∀ l:List Ex,cdsL 29 l=(objsL l).map nD
 | []=>rfl
 | y::l=>by
  have h1:=cds_29 y
  have h2:=cdsL_29 l
  simp only [cdsL,objsL,List.map_append,h1,h2]
end
mutual
theorem cds_33:∀ x:Ex,cds 33 x=(zns x).map sD
 | .mk o n r args=>by
  have h:=cdsL_33 args
  simp only [cds,zns,List.map_append,← h]
  congr 1
  show (if (33:Nat)=29 then _ else (if o=5 then [sD n] else []))=_
  rw [if_neg (by decide)]
  split<;>rfl
theorem cdsL_33:∀ l:List Ex,cdsL 33 l=(znsL l).map sD
 | []=>rfl
 | y::l=>by
  have h1:=cds_33 y
  have h2:=cdsL_33 l
  simp only [cdsL,znsL,List.map_append,h1,h2]
end
def slD {α:Type} (D:α→Dat) (d:α) (l:List α):Dat:=.slice l.length 1 (fun i=>[D (l.getD i d)])
def slA {α:Type} (D:α→Dat) (d:α) (l:List α):AV:=.dslice l.length 1 (fun i=>[D (l.getD i d)])
def eCk (x:Ex) (e:Int):FuncId × SEnt:=(23,⟨[exA x],[],.int .i64 e⟩)
theorem toAVs_mapD {α:Type} (D:α→Dat) (l:List α):toAVs (l.map D)=l.map fun a=>toAV (D a):=by
 induction l with
 | nil=>rfl
 | cons s l ih=>exact congrArg (toAV (D s)::·) ih
theorem row_el {α:Type} (D:α→Dat) (d:α) (R Z:List α) (i:Nat) (hi:i<R.length):((toAVs ((R++Z).map D)).drop (0+i*1)).take 1=[toAV (D (R.getD i d))]:=by
 rw [toAVs_mapD,Nat.zero_add,Nat.mul_one,← List.map_drop,← List.map_take]
 have h1:(R++Z).drop i=R[i]::(R++Z).drop (i+1):=by
  rw [List.drop_eq_getElem_cons (by simp;omega),List.getElem_append_left hi]
 rw [h1]
 show [toAV (D R[i])]=_
 rw [List.getD_eq_getElem?_getD,List.getElem?_eq_getElem hi]
 rfl
theorem fz_pad [Go.Eng.Mode] {α:Type} [Inhabited α] [DecidableEq α] (D:α→Dat) (d:α) (s:List α) {n b:Nat} (hn:s.length=n) {M:Mem} (hb:M.t.get b=some (.row (toAVs ((pad d s).map D)) true 1)):FzD 0 M (.slice b 0 (Go.Lib.compact s).length n true) (slD D d (Go.Lib.compact s)):=by
 have hc:=cmpn_len s
 have hl:0+(Go.Lib.compact s).length*1≤(toAVs ((pad d s).map D)).length:=by
  have h1:(toAVs ((pad d s).map D)).length=s.length:=by rw [toAVs_length,List.length_map,pad_len]
  omega
 refine .slice b 0 _ _ true _ true 1 1 _ (Nat.zero_le _) hb (by omega) hl fun i hi=>?_
 have:pad d s=Go.Lib.compact s++List.replicate (s.length-(Go.Lib.compact s).length) d:=rfl
 rw [this,row_el D d _ _ i hi]
 exact .cons _ _ _ _ (.same _) .nil
end
end Go.Proofs.YtodjhpjcgggamaaGreatDoor

namespace Go.Proofs.YtodjhpjcgggamaaGreatDoor
open Go Go.Eng Go.Vi Go.Knuth
section
variable [Go.Eng.Mode] {nt k:Nat}
def Pln (rows:List Blk):Prop:=∀ b∈rows,∃ d op sz,b=.row (toAVs d) op sz
theorem Pln.nil:Pln []:=fun _ h=>by cases h
theorem Pln.cons {d:List Dat} {op:Bool} {sz:Nat} {rows:List Blk} (h:Pln rows):Pln (.row (toAVs d) op sz::rows):=by
 intro b hb
 rcases List.mem_cons.1 hb with rfl | hb
 ·exact ⟨d,op,sz,rfl⟩
 ·exact h b hb
theorem Pln.rows2 {rows:List Blk} (h:Pln rows) (π:List Nat):Go.Eng.rows2 π rows=rows.map some:=by
 induction rows with
 | nil=>rfl
 | cons b l ih =>
  obtain ⟨d,op,sz,rfl⟩:=h b (List.mem_cons_self ..)
  show renB π (.row (toAVs d) op sz)::Go.Eng.rows2 π l=_
  rw [renB_data,ih fun b hb=>h b (List.mem_cons_of_mem _ hb)]
  rfl
def Here (k:Nat) (s:List (Nat × AV)) (rows:List Blk) (fr:Fr) (M:Mem):Prop :=
 ∃ π,okPi k π rows.length=true∧(vals2 π s).all Option.isSome=true∧lv (s.map (·.1)) fr=vals2 π s∧mv π M=rows.map some
theorem all_some {α:Type} {l:List (Option α)} (h:l.all Option.isSome=true):∀ v∈l,v≠none:=by
 intro v hv e
 subst e
 have:=List.all_eq_true.1 h _ hv
 cases this
theorem W.here {c:Code} {Q:AE→Fr→Mem→Prop} {fr:Fr} {M:Mem} {s:List (Nat × AV)} {rows:List Blk} (hp:Pln rows) (hh:Here k s rows fr M) (h:W Tryz.prog nt k c (mkFr s) (mkMem rows) Q):W Tryz.prog nt k c fr M Q:=by
 obtain ⟨π,hk,h1,hv,hM⟩:=hh
 refine W.next hv hM s rows rfl rfl (hp.rows2 π) hk (all_some h1) (fun x hx e=>?_) h
 subst e
 simp at hx
theorem W.loopP {b:Code} {Q:AE→Fr→Mem→Prop} {σ:Type} (s:σ→List (Nat × AV)) (rows:σ→List Blk) (m:σ→Nat) (hp:∀ z,Pln (rows z))
  (h:∀ z,W Tryz.prog nt k b (mkFr (s z)) (mkMem (rows z)) fun o fr' M'=>(o=.normal∧∃ z',m z'<m z∧Here k (s z') (rows z') fr' M')∨(o≠.normal∧Q o fr' M'))
  (z:σ) {fr:Fr} {M:Mem} (hI:Here k (s z) (rows z) fr M):W Tryz.prog nt k (.loop b) fr M Q :=
 W.loop (fun z fr M=>Here k (s z) (rows z) fr M) m (fun z fr M hI=>W.here (hp z) hI (h z)) z hI
theorem W.test {h r:Code} {t x:Nat} {Q:AE→Fr→Mem→Prop} {fr:Fr} {M:Mem}
  (hh:W Tryz.prog nt k h fr M fun o fr1 M1=>o=.normal∧((fr1.get t=some (.bool true)∧W Tryz.prog nt k r fr1 M1 Q)∨(fr1.get t=some (.bool false)∧Q (.exit x) fr1 M1))):W Tryz.prog nt k (.seq (.seq h (.cond (.tmp t) .skip (.exit x))) r) fr M Q:=by
 refine W.seq (W.seq (W.mono hh ?_))
 rintro o fr1 M1 ⟨rfl,⟨h1,h2⟩ | ⟨h1,h2⟩⟩
 ·exact W.cond true h1 (fun _=>W.skip h2) (fun h=>by cases h)
 ·exact W.cond false h1 (fun h=>by cases h) (fun _=>W.exit h2)
theorem W.ifs {h y:Code} {t:Nat} {Q:AE→Fr→Mem→Prop} {fr:Fr} {M:Mem}
  (hh:W Tryz.prog nt k h fr M fun o fr1 M1=>o=.normal∧((fr1.get t=some (.bool true)∧W Tryz.prog nt k y fr1 M1 Q)∨(fr1.get t=some (.bool false)∧Q .normal fr1 M1))):W Tryz.prog nt k (.seq h (.cond (.tmp t) y .skip)) fr M Q:=by
 refine W.seq (W.mono hh ?_)
 rintro o fr1 M1 ⟨rfl,⟨h1,h2⟩ | ⟨h1,h2⟩⟩
 ·exact W.cond true h1 (fun _=>h2) (fun h=>by cases h)
 ·exact W.cond false h1 (fun h=>by cases h) (fun _=>W.skip h2)
end
theorem lv_snoc {ts:List Nat} {t:Nat} {fr:Fr} {vs:List (Option AV)} {v:Option AV} (h:lv (ts++[t]) fr=vs++[v]):lv ts fr=vs∧fr.get t=v:=by
 have h:(ts++[t]).map fr.get=vs++[v]:=h
 rw [List.map_append] at h
 have:=List.append_inj' h rfl
 exact ⟨this.1,List.head_eq_of_cons_eq this.2⟩
theorem inI_succ [Go.Eng.Mode] {i n:Nat} (h:i<n) (hn:n≤1000000000000):inI64 ((Int.ofNat i).add 1)=true:=by
 rw [inI64_iff]
 have:(Int.ofNat i).add 1=((i+1:Nat):Int):=by simp [Int.add_def]
 rw [this]
 omega
theorem nblt_of {a b:Nat} (h:a<b):Nat.blt a b=true:=by
 show Nat.ble (a+1) b=true
 rw [Nat.ble_eq];exact h
theorem getD_lt {α:Type} {l:List α} {i:Nat} (d:α) (h:i<l.length):l.getD i d=l[i]:=by
 rw [List.getD_eq_getElem?_getD,List.getElem?_eq_getElem h];rfl
end Go.Proofs.YtodjhpjcgggamaaGreatDoor

namespace Go.Proofs.YtodjhpjcgggamaaGreatDoor
open Go Go.Eng Go.Vi Go.Knuth
noncomputable section
section
local instance : Go.Eng.Mode := Sb
theorem ok12:FnOk Tryz.prog 12 Tryz.f12:=⟨Tryz.func12,by kernel_rfl,by kernel_rfl⟩
def c12:Code:=codeOf Tryz.f12
def T12:Nat:=Tryz.f12.ntmps
def rows12 (x:Ex):List Blk:=[.row [.nilSlice] false 1,.row (toAVs (exD x)) false 1]
def sl12:List (Nat × AV):=[(1,.ptr 1 0),(3,.ptr 0 0)]
theorem start12 (x:Ex) (I:IK):xN [eCk x 0] 60 T12 3 c12 (argSlots [exA x] 0) [] [1,3] [1,0] I=gC (eCk x 0) (I .normal [some (.ptr 0 0),some (.ptr 1 0)] [some (.row [.nilSlice] false 1),some (.row (toAVs (exD x)) false 1)]):=by kernel_rfl
theorem v12_n (x:Ex) (I:AK):Eng.exec Tryz.prog (Xm (Xm (Xm X0 28 (eVi 29 x [] [] 2)) 31 (mNil (.tuple []) 2)) 32 (mNil .nilSlice 2)) [] 60 T12 (post 3 c12) (mkFr sl12) (mkMem (rows12 x)) (fun o fr M=>endK o (resK Tryz.prog fr M Tryz.f12.results.toList fun vs=>I (oneOf vs) (mv [2] M)))=gM (eVi 29 x [] [] 2) (gM (mNil (.tuple []) 2) (gM (mNil .nilSlice 2) (I .nilSlice [none]))):=by kernel_rfl
theorem v12_c (x:Ex) (d:Dat) (ds:List Dat) (k:Nat) (L1 L2:List AV) (I:AK):Eng.exec Tryz.prog (Xm (Xm (Xm X0 28 (eVi 29 x [] (d::ds) 2)) 31 (mSort 2 3 (d::ds).length (toAVs (d::ds)) L1)) 32 (mComp 2 3 (d::ds).length k L1 L2)) [] 60 T12 (post 3 c12) (mkFr sl12) (mkMem (rows12 x)) (fun o fr M=>endK o (resK Tryz.prog fr M Tryz.f12.results.toList fun vs=>I (oneOf vs) (mv [2] M))) =
 gM (eVi 29 x [] (d::ds) 2) (gM (mSort 2 3 (d::ds).length (toAVs (d::ds)) L1) (gM (mComp 2 3 (d::ds).length k L1 L2) (I (.slice 2 0 k (d::ds).length true) [some (.row L2 true 1)]))):=by kernel_rfl
theorem v12_e (x:Ex) (e:Int) (I:AK):@xR (So [(14,6,true)]) [eCk x e] 60 Tryz.f12.ntmps (codeOf Tryz.f12) (argSlots [exA x] 0) (rowsOf []) Tryz.f12 [] I=gX ((eCk x e).snd.args) (gB (!ieq e 0) (I .nilSlice [])):=by kernel_rfl
theorem objects_c {x:Ex} (hx:WF x) (hsz:x.size<1000000) (hck:SSpec Tryz.prog 23 (eCk x 0).2):BSim Tryz.prog 12 [exA x] [] [] (slA iD 0 (Go.Lib.compact (srtI ((objs x).map Int.ofNat)))):=by
 have hE:=visit_c (F:=29) (by decide) hx [] (by simpa using hsz)
 rw [List.nil_append] at hE
 have hlen:=cds_len 29 x
 have hcd:cds 29 x=((objs x).map Int.ofNat).map iD:=by
  rw [cds_29]
  all_goals (rw [List.map_map];rfl)
 rw [hcd] at hE hlen
 refine BSim.of_W ok12.at_ (codeOf_some ok12.body) ok12.name (nble_le (by kernel_rfl)) rfl ?_
 refine @W.runN Sb Tryz.prog hm X0 hX0l [eCk x 0] (AllOk.mem ⟨hck,trivial⟩) T12 0 _ _ _ _ 60 3 [1,3] [1,0] _ (start12 x) ?_
 rw [gC_iff]
 refine pdec_iff.2 fun fr M hv hM=>?_
 show W Tryz.prog T12 0 (post 3 c12) fr M _
 refine W.next0 (vs:=[.ptr 0 0,.ptr 1 0]) (bs:=[.row [.nilSlice] false 1,.row (toAVs (exD x)) false 1]) (π:=[1,0]) hv hM sl12 (rows12 x) rfl rfl ?_ (show okPi 0 [1,0] 2=true by decide) ?_
 ·show [renB [1,0] (.row [.nilSlice] false 1),renB [1,0] (.row (toAVs (exD x)) false 1)]=_
  rw [renB_data]
  rfl
 generalize hvs:((objs x).map Int.ofNat)=L at hE hlen
 rw [List.length_map] at hlen
 cases L with
 | nil =>
  have h0:(Go.Lib.compact (srtI [])).length=0:=Nat.eq_zero_of_le_zero (Nat.le_trans (cmpn_len _) (by rw [srtI_len];exact Nat.le_refl _))
  refine @W.finRun Sb Tryz.prog hm _ (@hXm Sb _ _ (@hXm Sb _ _ (@hXm Sb _ _ (fun f x h=>hX0l f x h) _ _ (hE 2 (by decide))) _ _ (mNil31 2)) _ _ (mNil32 2)) [] (fun _ h=>by cases h) Tryz.f12 T12 0 _ _ _ [] _ 60 [2] _ (v12_n x) ?_
  rw [gM_iff,gM_iff,gM_iff]
  refine pdec_iff.2 (Leaf.flat fun M' _=>.dat _ (slD iD 0 (Go.Lib.compact (srtI []))) ?_)
  show FzD 0 M' .nilSlice (.slice (Go.Lib.compact (srtI [])).length 1 _)
  rw [h0]
  exact .nil _ _
 | cons s l =>
  have hn:=srtI_len (s::l)
  have e1:(iD s::l.map iD).length=(s::l).length:=by simp
  have hs:=sortI_ok 2 3 (s::l) (by omega)
  have hc:=compI_ok 2 3 (n:=(s::l).length) (srtI (s::l)) hn (by omega)
  rw [← e1] at hs hc
  refine @W.finRun Sb Tryz.prog hm _ (@hXm Sb _ _ (@hXm Sb _ _ (@hXm Sb _ _ (fun f x h=>hX0l f x h) _ _ (hE 2 (by decide))) _ _ hs) _ _ hc) [] (fun _ h=>by cases h) Tryz.f12 T12 0 _ _ _ [] _ 60 [2] _ (v12_c x (iD s) (l.map iD) _ _ _) ?_
  rw [gM_iff,gM_iff,gM_iff]
  refine pdec_iff.2 (Leaf.flat fun M' hM'=>.dat _ (slD iD 0 (Go.Lib.compact (srtI (s::l)))) ?_)
  exact fz_pad iD 0 _ (hn.trans e1.symm) (List.cons.inj hM').1
set_option maxRecDepth 100000 in
theorem objects_c0 {x:Ex} {e:Int} (he:e≠0) (hck:SSpec Tryz.prog 23 (eCk x e).2):BSim Tryz.prog 12 [exA x] [] [] (slA iD 0 []):=by
 have key:=fun ans=>@BSim.run (So [(14,6,true)]) Tryz.prog hm X0 hX0l [eCk x e] (AllOk.mem ⟨hck,trivial⟩) 12 Tryz.f12 ok12 [exA x] [] [] ans (by kernel_rfl) rfl 60 [] (fun I=>gX (eCk x e).snd.args (gB (Bool.not (ieq e 0)) (I .nilSlice []))) (v12_e x e)
 refine key _ ?_
 simp only [gB_iff,gX_iff]
 exact ⟨by simp [ieqf he],pdec_iff.2 (Leaf.flat fun M' _=>.dat _ (slD iD 0 []) (.nil _ _))⟩
theorem ok14:FnOk Tryz.prog 14 Tryz.f14:=⟨Tryz.func14,by kernel_rfl,by kernel_rfl⟩
def c14:Code:=codeOf Tryz.f14
def T14:Nat:=Tryz.f14.ntmps
def rows14 (x:Ex):List Blk:=[.row [.nilSlice] false 1,.row (toAVs (exD x)) false 1]
def sl14:List (Nat × AV):=[(1,.ptr 1 0),(3,.ptr 0 0)]
theorem start14 (x:Ex) (I:IK):xN [eCk x 0] 60 T14 3 c14 (argSlots [exA x] 0) [] [1,3] [1,0] I=gC (eCk x 0) (I .normal [some (.ptr 0 0),some (.ptr 1 0)] [some (.row [.nilSlice] false 1),some (.row (toAVs (exD x)) false 1)]):=by kernel_rfl
theorem v14_n (x:Ex) (I:AK):Eng.exec Tryz.prog (Xm (Xm (Xm X0 28 (eVi 33 x [] [] 2)) 34 (mNil (.tuple []) 2)) 35 (mNil .nilSlice 2)) [] 60 T14 (post 3 c14) (mkFr sl14) (mkMem (rows14 x)) (fun o fr M=>endK o (resK Tryz.prog fr M Tryz.f14.results.toList fun vs=>I (oneOf vs) (mv [2] M)))=gM (eVi 33 x [] [] 2) (gM (mNil (.tuple []) 2) (gM (mNil .nilSlice 2) (I .nilSlice [none]))):=by kernel_rfl
theorem v14_c (x:Ex) (d:Dat) (ds:List Dat) (k:Nat) (L1 L2:List AV) (I:AK):Eng.exec Tryz.prog (Xm (Xm (Xm X0 28 (eVi 33 x [] (d::ds) 2)) 34 (mSort 2 3 (d::ds).length (toAVs (d::ds)) L1)) 35 (mComp 2 3 (d::ds).length k L1 L2)) [] 60 T14 (post 3 c14) (mkFr sl14) (mkMem (rows14 x)) (fun o fr M=>endK o (resK Tryz.prog fr M Tryz.f14.results.toList fun vs=>I (oneOf vs) (mv [2] M))) =
 gM (eVi 33 x [] (d::ds) 2) (gM (mSort 2 3 (d::ds).length (toAVs (d::ds)) L1) (gM (mComp 2 3 (d::ds).length k L1 L2) (I (.slice 2 0 k (d::ds).length true) [some (.row L2 true 1)]))):=by kernel_rfl
theorem v14_e (x:Ex) (e:Int) (I:AK):@xR (So [(14,6,true)]) [eCk x e] 60 Tryz.f14.ntmps (codeOf Tryz.f14) (argSlots [exA x] 0) (rowsOf []) Tryz.f14 [] I=gX ((eCk x e).snd.args) (gB (!ieq e 0) (I .nilSlice [])):=by kernel_rfl
theorem zones_c {x:Ex} (hx:WF x) (hsz:x.size<1000000) (hck:SSpec Tryz.prog 23 (eCk x 0).2):BSim Tryz.prog 14 [exA x] [] [] (slA sD [] (Go.Lib.compact (srtS (zns x)))):=by
 have hE:=visit_c (F:=33) (by decide) hx [] (by simpa using hsz)
 rw [List.nil_append] at hE
 have hlen:=cds_len 33 x
 have hcd:cds 33 x=(zns x).map sD:=by
  rw [cds_33]
  all_goals (rw [List.map_map];rfl)
 rw [hcd] at hE hlen
 refine BSim.of_W ok14.at_ (codeOf_some ok14.body) ok14.name (nble_le (by kernel_rfl)) rfl ?_
 refine @W.runN Sb Tryz.prog hm X0 hX0l [eCk x 0] (AllOk.mem ⟨hck,trivial⟩) T14 0 _ _ _ _ 60 3 [1,3] [1,0] _ (start14 x) ?_
 rw [gC_iff]
 refine pdec_iff.2 fun fr M hv hM=>?_
 show W Tryz.prog T14 0 (post 3 c14) fr M _
 refine W.next0 (vs:=[.ptr 0 0,.ptr 1 0]) (bs:=[.row [.nilSlice] false 1,.row (toAVs (exD x)) false 1]) (π:=[1,0]) hv hM sl14 (rows14 x) rfl rfl ?_ (show okPi 0 [1,0] 2=true by decide) ?_
 ·show [renB [1,0] (.row [.nilSlice] false 1),renB [1,0] (.row (toAVs (exD x)) false 1)]=_
  rw [renB_data]
  rfl
 generalize hvs:(zns x)=L at hE hlen
 rw [List.length_map] at hlen
 cases L with
 | nil =>
  have h0:(Go.Lib.compact (srtS [])).length=0:=Nat.eq_zero_of_le_zero (Nat.le_trans (cmpn_len _) (by rw [srtS_len];exact Nat.le_refl _))
  refine @W.finRun Sb Tryz.prog hm _ (@hXm Sb _ _ (@hXm Sb _ _ (@hXm Sb _ _ (fun f x h=>hX0l f x h) _ _ (hE 2 (by decide))) _ _ (mNil34 2)) _ _ (mNil35 2)) [] (fun _ h=>by cases h) Tryz.f14 T14 0 _ _ _ [] _ 60 [2] _ (v14_n x) ?_
  rw [gM_iff,gM_iff,gM_iff]
  refine pdec_iff.2 (Leaf.flat fun M' _=>.dat _ (slD sD [] (Go.Lib.compact (srtS []))) ?_)
  show FzD 0 M' .nilSlice (.slice (Go.Lib.compact (srtS [])).length 1 _)
  rw [h0]
  exact .nil _ _
 | cons s l =>
  have hn:=srtS_len (s::l)
  have e1:(sD s::l.map sD).length=(s::l).length:=by simp
  have hs:=sortS_ok 2 3 (s::l) (by omega)
  have hc:=compS_ok 2 3 (n:=(s::l).length) (srtS (s::l)) hn (by omega)
  rw [← e1] at hs hc
  refine @W.finRun Sb Tryz.prog hm _ (@hXm Sb _ _ (@hXm Sb _ _ (@hXm Sb _ _ (fun f x h=>hX0l f x h) _ _ (hE 2 (by decide))) _ _ hs) _ _ hc) [] (fun _ h=>by cases h) Tryz.f14 T14 0 _ _ _ [] _ 60 [2] _ (v14_c x (sD s) (l.map sD) _ _ _) ?_
  rw [gM_iff,gM_iff,gM_iff]
  refine pdec_iff.2 (Leaf.flat fun M' hM'=>.dat _ (slD sD [] (Go.Lib.compact (srtS (s::l)))) ?_)
  exact fz_pad sD [] _ (hn.trans e1.symm) (List.cons.inj hM').1
set_option maxRecDepth 100000 in
theorem zones_c0 {x:Ex} {e:Int} (he:e≠0) (hck:SSpec Tryz.prog 23 (eCk x e).2):BSim Tryz.prog 14 [exA x] [] [] (slA sD [] []):=by
 have key:=fun ans=>@BSim.run (So [(14,6,true)]) Tryz.prog hm X0 hX0l [eCk x e] (AllOk.mem ⟨hck,trivial⟩) 14 Tryz.f14 ok14 [exA x] [] [] ans (by kernel_rfl) rfl 60 [] (fun I=>gX (eCk x e).snd.args (gB (Bool.not (ieq e 0)) (I .nilSlice []))) (v14_e x e)
 refine key _ ?_
 simp only [gB_iff,gX_iff]
 exact ⟨by simp [ieqf he],pdec_iff.2 (Leaf.flat fun M' _=>.dat _ (slD sD [] []) (.nil _ _))⟩
end
end
end Go.Proofs.YtodjhpjcgggamaaGreatDoor

namespace Go.Proofs.YtodjhpjcgggamaaGreatDoor
open Go Go.Eng Go.Vi Go.Knuth
noncomputable section
section
local instance : Go.Eng.Mode := Sb
theorem ok11:FnOk Tryz.prog 11 Tryz.f11:=⟨Tryz.func11,by kernel_rfl,by kernel_rfl⟩
def c11:Code:=codeOf Tryz.f11
def T11:Nat:=Tryz.f11.ntmps
def L11:Code:=lhs (post 2 c11)
def b11:Code:=bodyOf (bodyOf (rhs L11))
def sa11 (n:Nat) (g:Nat→Nat) (i:Nat):List (Nat × AV):=[(0,.dslice n 1 (fun i=>[.int .i64 (.ofNat (g i))])),(1,.dslice n 1 (fun i=>[.int .i64 (.ofNat (g i))])),(5,.int .i64 (.ofNat i))]
theorem sI_pre (n:Nat) (g:Nat→Nat) (I:IK):@xN (So [(26,10,false)]) [] 60 T11 2 c11 (argSlots [.dslice n 1 (fun i=>[.int .i64 (.ofNat (g i))]),.dslice n 1 (fun i=>[.int .i64 (.ofNat (g i))])] 0) [] [0,1] [] I=gN (!ieq (.ofNat n) (.ofNat n)) (I .normal [some (.dslice n 1 (fun i=>[Dat.int .i64 (.ofNat (g i))])),some (.dslice n 1 (fun i=>[Dat.int .i64 (.ofNat (g i))]))] []):=by kernel_rfl
theorem sI_z (n:Nat) (g:Nat→Nat) (I:IK):xE [] 60 T11 (lhs L11) [(0,.dslice n 1 (fun i=>[.int .i64 (.ofNat (g i))])),(1,.dslice n 1 (fun i=>[.int .i64 (.ofNat (g i))]))] [] [0,1,5] [] I=I .normal [some (.dslice n 1 (fun i=>[Dat.int .i64 (.ofNat (g i))])),some (.dslice n 1 (fun i=>[Dat.int .i64 (.ofNat (g i))])),some (.int .i64 0)] []:=by kernel_rfl
theorem sI_h (n:Nat) (g:Nat→Nat) (i:Nat) (I:IK):xE [] 60 T11 (lhs (lhs b11)) (sa11 n g i) [] [0,1,5,14] [] I=I .normal [some (.dslice n 1 (fun i=>[Dat.int .i64 (.ofNat (g i))])),some (.dslice n 1 (fun i=>[Dat.int .i64 (.ofNat (g i))])),some (.int .i64 (.ofNat i)),some (.bool (ilt (.ofNat i) (.ofNat n)))] []:=by kernel_rfl
theorem sI_b (n:Nat) (g:Nat→Nat) (i:Nat) (I:IK):@xE (So [(26,25,false)]) [] 60 T11 (rhs b11) (sa11 n g i) [] [0,1,5] [] I=gB (Nat.blt i n) (gB (Nat.blt i n) (gN (!ieq (.ofNat (g i)) (.ofNat (g i))) (gB (inI64 ((Int.ofNat i).add 1)) (I .normal [some (.dslice n 1 (fun i=>[Dat.int .i64 (.ofNat (g i))])),some (.dslice n 1 (fun i=>[Dat.int .i64 (.ofNat (g i))])),some (.int .i64 ((Int.ofNat i).add 1))] [])))):=by kernel_rfl
theorem sI_f (n:Nat) (g:Nat→Nat) (i:Nat) (I:AK):xR [] 60 T11 (rhs (post 2 c11)) (sa11 n g i) [] Tryz.f11 [] I=I (.bool true) []:=by kernel_rfl
theorem sI_body:b11=.seq (.seq (lhs (lhs b11)) (.cond (.tmp 14) .skip (.exit 0))) (rhs b11):=by kernel_rfl
theorem sI_post:post 2 c11=.seq (.seq (lhs L11) (.block 0 (.loop b11))) (rhs (post 2 c11)):=by kernel_rfl
theorem same11 {n:Nat} (hn:n≤1000000) (g:Nat→Nat):BSim Tryz.prog 11 [.dslice n 1 (fun i=>[.int .i64 (.ofNat (g i))]),.dslice n 1 (fun i=>[.int .i64 (.ofNat (g i))])] [] [] (.bool true):=by
 refine BSim.of_W ok11.at_ (codeOf_some ok11.body) ok11.name (nble_le (by kernel_rfl)) rfl ?_
 have k1:=fun Q=>@W.runN (So [(26,10,false)]) Tryz.prog hm X0 hX0l [] (fun _ h=>by cases h) T11 0 _ _ _ Q 60 2 [0,1] [] _ (sI_pre n g)
 have k2:=fun Q=>@W.run Sb Tryz.prog hm X0 hX0l [] (fun _ h=>by cases h) T11 0 _ _ _ Q 60 [0,1,5] [] _ (sI_z n g)
 have k3:=fun i Q=>@W.run Sb Tryz.prog hm X0 hX0l [] (fun _ h=>by cases h) T11 0 _ _ _ Q 60 [0,1,5,14] [] _ (sI_h n g i)
 have k4:=fun i Q=>@W.run (So [(26,25,false)]) Tryz.prog hm X0 hX0l [] (fun _ h=>by cases h) T11 0 _ _ _ Q 60 [0,1,5] [] _ (sI_b n g i)
 refine k1 _ ?_
 simp only [gN_iff]
 refine ⟨by rw [ieq_self];rfl,pdec_iff.2 fun fr M hv hM=>?_⟩
 refine W.here (s:=[(0,.dslice n 1 (fun i=>[.int .i64 (.ofNat (g i))])),(1,.dslice n 1 (fun i=>[.int .i64 (.ofNat (g i))]))]) (rows:=[]) Pln.nil ⟨[],by decide,rfl,hv,hM⟩ ?_
 show W Tryz.prog T11 0 (post 2 c11) _ _ _
 rw [sI_post]
 refine W.seq (W.seq (k2 _ (pdec_iff.2 fun fr M hv hM=>?_)))
 refine W.block (W.loopP (σ:={ i:Nat // i≤n }) (fun z=>sa11 n g z.1) (fun _=>[]) (fun z=>n-z.1) (fun _=>Pln.nil) ?_ ⟨0,Nat.zero_le _⟩ ⟨[],by decide,rfl,hv,hM⟩)
 rintro ⟨i,hi⟩
 rw [sI_body]
 refine W.test (k3 i _ (pdec_iff.2 fun fr M hv hM=>⟨rfl,?_⟩))
 obtain ⟨hv3,ht⟩:=lv_snoc (ts:=[0,1,5]) (vs:=vals2 [] (sa11 n g i)) (v:=some (.bool (ilt (.ofNat i) (.ofNat n)))) hv
 have hh:Here 0 (sa11 n g i) [] fr M:=⟨[],by decide,rfl,hv3,hM⟩
 rw [natlt] at ht
 by_cases hlt:i<n
 ·rw [decide_eq_true hlt] at ht
  refine .inl ⟨ht,W.here Pln.nil hh (k4 i _ ?_)⟩
  simp only [gB_iff,gN_iff]
  exact ⟨nblt_of hlt,nblt_of hlt,by rw [ieq_self];rfl,inI_succ hlt (by omega),pdec_iff.2 fun fr M hv hM=>.inl ⟨by first | rfl | trivial,⟨i+1,hlt⟩,by simp only;omega,[],by decide,rfl,hv,hM⟩⟩
 ·rw [decide_eq_false hlt] at ht
  refine .inr ⟨ht,.inr ⟨by simp,Blkd_eq ?_⟩⟩
  show W Tryz.prog T11 0 (rhs (post 2 c11)) fr M _
  have k5:=@W.finRun Sb Tryz.prog hm X0 hX0l [] (fun _ h=>by cases h) Tryz.f11 T11 0 (rhs (post 2 c11)) (mkFr (sa11 n g i)) (mkMem []) [] (.bool true) 60 [] (fun I=>I (.bool true) []) (sI_f n g i) (pdec_iff.2 (Leaf.flat fun M' _=>.dat _ (.bool true) (.same (.bool true))))
  exact W.here Pln.nil hh k5
theorem ok13:FnOk Tryz.prog 13 Tryz.f13:=⟨Tryz.func13,by kernel_rfl,by kernel_rfl⟩
def c13:Code:=codeOf Tryz.f13
def T13:Nat:=Tryz.f13.ntmps
def L13:Code:=lhs (post 2 c13)
def b13:Code:=bodyOf (bodyOf (rhs L13))
def sa13 (n:Nat) (g:Nat→List UInt8) (i:Nat):List (Nat × AV):=[(0,.dslice n 1 (fun i=>[sD (g i)])),(1,.dslice n 1 (fun i=>[sD (g i)])),(5,.int .i64 (.ofNat i))]
theorem sS_pre (n:Nat) (g:Nat→List UInt8) (I:IK):@xN (So [(26,10,false)]) [] 60 T13 2 c13 (argSlots [.dslice n 1 (fun i=>[sD (g i)]),.dslice n 1 (fun i=>[sD (g i)])] 0) [] [0,1] [] I=gN (!ieq (.ofNat n) (.ofNat n)) (I .normal [some (.dslice n 1 (fun i=>[sD (g i)])),some (.dslice n 1 (fun i=>[sD (g i)]))] []):=by kernel_rfl
theorem sS_z (n:Nat) (g:Nat→List UInt8) (I:IK):xE [] 60 T13 (lhs L13) [(0,.dslice n 1 (fun i=>[sD (g i)])),(1,.dslice n 1 (fun i=>[sD (g i)]))] [] [0,1,5] [] I=I .normal [some (.dslice n 1 (fun i=>[sD (g i)])),some (.dslice n 1 (fun i=>[sD (g i)])),some (.int .i64 0)] []:=by kernel_rfl
theorem sS_h (n:Nat) (g:Nat→List UInt8) (i:Nat) (I:IK):xE [] 60 T13 (lhs (lhs b13)) (sa13 n g i) [] [0,1,5,14] [] I=I .normal [some (.dslice n 1 (fun i=>[sD (g i)])),some (.dslice n 1 (fun i=>[sD (g i)])),some (.int .i64 (.ofNat i)),some (.bool (ilt (.ofNat i) (.ofNat n)))] []:=by kernel_rfl
theorem sS_b (n:Nat) (g:Nat→List UInt8) (i:Nat) (I:IK):@xE (So [(26,25,false)]) [] 60 T13 (rhs b13) (sa13 n g i) [] [0,1,5] [] I=gB (Nat.blt i n) (gB (Nat.blt i n) (gN (!seqA (g i).length (enc (g i)) (g i).length (enc (g i))) (gB (inI64 ((Int.ofNat i).add 1)) (I .normal [some (.dslice n 1 (fun i=>[sD (g i)])),some (.dslice n 1 (fun i=>[sD (g i)])),some (.int .i64 ((Int.ofNat i).add 1))] [])))):=by kernel_rfl
theorem sS_f (n:Nat) (g:Nat→List UInt8) (i:Nat) (I:AK):xR [] 60 T13 (rhs (post 2 c13)) (sa13 n g i) [] Tryz.f13 [] I=I (.bool true) []:=by kernel_rfl
theorem sS_body:b13=.seq (.seq (lhs (lhs b13)) (.cond (.tmp 14) .skip (.exit 0))) (rhs b13):=by kernel_rfl
theorem sS_post:post 2 c13=.seq (.seq (lhs L13) (.block 0 (.loop b13))) (rhs (post 2 c13)):=by kernel_rfl
theorem same13 {n:Nat} (hn:n≤1000000) (g:Nat→List UInt8):BSim Tryz.prog 13 [.dslice n 1 (fun i=>[sD (g i)]),.dslice n 1 (fun i=>[sD (g i)])] [] [] (.bool true):=by
 refine BSim.of_W ok13.at_ (codeOf_some ok13.body) ok13.name (nble_le (by kernel_rfl)) rfl ?_
 have k1:=fun Q=>@W.runN (So [(26,10,false)]) Tryz.prog hm X0 hX0l [] (fun _ h=>by cases h) T13 0 _ _ _ Q 60 2 [0,1] [] _ (sS_pre n g)
 have k2:=fun Q=>@W.run Sb Tryz.prog hm X0 hX0l [] (fun _ h=>by cases h) T13 0 _ _ _ Q 60 [0,1,5] [] _ (sS_z n g)
 have k3:=fun i Q=>@W.run Sb Tryz.prog hm X0 hX0l [] (fun _ h=>by cases h) T13 0 _ _ _ Q 60 [0,1,5,14] [] _ (sS_h n g i)
 have k4:=fun i Q=>@W.run (So [(26,25,false)]) Tryz.prog hm X0 hX0l [] (fun _ h=>by cases h) T13 0 _ _ _ Q 60 [0,1,5] [] _ (sS_b n g i)
 refine k1 _ ?_
 simp only [gN_iff]
 refine ⟨by rw [ieq_self];rfl,pdec_iff.2 fun fr M hv hM=>?_⟩
 refine W.here (s:=[(0,.dslice n 1 (fun i=>[sD (g i)])),(1,.dslice n 1 (fun i=>[sD (g i)]))]) (rows:=[]) Pln.nil ⟨[],by decide,rfl,hv,hM⟩ ?_
 show W Tryz.prog T13 0 (post 2 c13) _ _ _
 rw [sS_post]
 refine W.seq (W.seq (k2 _ (pdec_iff.2 fun fr M hv hM=>?_)))
 refine W.block (W.loopP (σ:={ i:Nat // i≤n }) (fun z=>sa13 n g z.1) (fun _=>[]) (fun z=>n-z.1) (fun _=>Pln.nil) ?_ ⟨0,Nat.zero_le _⟩ ⟨[],by decide,rfl,hv,hM⟩)
 rintro ⟨i,hi⟩
 rw [sS_body]
 refine W.test (k3 i _ (pdec_iff.2 fun fr M hv hM=>⟨rfl,?_⟩))
 obtain ⟨hv3,ht⟩:=lv_snoc (ts:=[0,1,5]) (vs:=vals2 [] (sa13 n g i)) (v:=some (.bool (ilt (.ofNat i) (.ofNat n)))) hv
 have hh:Here 0 (sa13 n g i) [] fr M:=⟨[],by decide,rfl,hv3,hM⟩
 rw [natlt] at ht
 by_cases hlt:i<n
 ·rw [decide_eq_true hlt] at ht
  refine .inl ⟨ht,W.here Pln.nil hh (k4 i _ ?_)⟩
  simp only [gB_iff,gN_iff]
  exact ⟨nblt_of hlt,nblt_of hlt,by rw [seqA_iff];simp,inI_succ hlt (by omega),pdec_iff.2 fun fr M hv hM=>.inl ⟨by first | rfl | trivial,⟨i+1,hlt⟩,by simp only;omega,[],by decide,rfl,hv,hM⟩⟩
 ·rw [decide_eq_false hlt] at ht
  refine .inr ⟨ht,.inr ⟨by simp,Blkd_eq ?_⟩⟩
  show W Tryz.prog T13 0 (rhs (post 2 c13)) fr M _
  have k5:=@W.finRun Sb Tryz.prog hm X0 hX0l [] (fun _ h=>by cases h) Tryz.f13 T13 0 (rhs (post 2 c13)) (mkFr (sa13 n g i)) (mkMem []) [] (.bool true) 60 [] (fun I=>I (.bool true) []) (sS_f n g i) (pdec_iff.2 (Leaf.flat fun M' _=>.dat _ (.bool true) (.same (.bool true))))
  exact W.here Pln.nil hh k5
end
end
end Go.Proofs.YtodjhpjcgggamaaGreatDoor

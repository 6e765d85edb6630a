/- A part of the proof over this seat's program: the checked evaluator and its soundness, and what it gives here. No condition. -/
import Derived.Test.YtodjhpjcgggamaaGreatDoorA4

set_option linter.all false

namespace Go.Proofs.YtodjhpjcgggamaaGreatDoor
open Go Go.Eng Go.Vi Go.Knuth
noncomputable section
def zA (z:Int):AV:=intA (decide (z<0)) (mg z.natAbs)
def zS (b:Bool) (n:Nat):Int:=if b then -(n:Int) else n
theorem zA_nat (n:Nat):zA n=intA false (mg n):=by
 unfold zA
 have:decide ((n:Int)<0)=false:=decide_eq_false (by omega)
 rw [this];simp
theorem zA_zero:zA 0=intA false []:=by have:=zA_nat 0;rw [mg_zero] at this;exact this
theorem zA_one:zA 1=intA false [1]:=by have:=zA_nat 1;rw [mg_one] at this;exact this
theorem zA_neg (n:Nat):zA (-(n:Int))=intA (decide (n≠0)) (mg n):=by
 unfold zA
 have e:decide (-(n:Int)<0)=decide (n≠0):=by
  by_cases h:n=0
  ·subst h;rfl
  ·rw [decide_eq_true h,decide_eq_true (by omega)]
 rw [e];simp
theorem zA_S (b:Bool) (n:Nat):zA (zS b n)=intA (b&&decide (n≠0)) (mg n):=by
 cases b with
 | false=>exact zA_nat n
 | true=>exact zA_neg n
theorem zcase (z:Int):(∃ n:Nat,z=n)∨(∃ n:Nat,n≠0∧z=-(n:Int)):=by
 by_cases h:0≤z
 ·exact .inl ⟨z.toNat,by omega⟩
 ·exact .inr ⟨(-z).toNat,by omega,by omega⟩
section
local instance : Go.Eng.Mode := Sl
theorem zz_leaf (b:Bool) (l:List UInt8) {π:List Nat} {bs:List (Option Blk)}:Leaf 0 π [] (intA b l) (.agg [.bool b,strA l]) bs:=Leaf.flat fun _ _=>.aggs [.bool b,.str l.length (enc l)]
def eAd (x y s:List UInt8):FuncId × SEnt:=(172,⟨[strA x,strA y],[],strA s⟩)
def eSb (x y s:List UInt8):FuncId × SEnt:=(173,⟨[strA x,strA y],[],strA s⟩)
def eMd (b:Bool) (s:List UInt8) (n:Bool):FuncId × SEnt:=(150,⟨[.bool b,strA s],[],intA n s⟩)
def eCm (x y:List UInt8) (c:Int):FuncId × SEnt:=(148,⟨[strA x,strA y],[],.int .i64 c⟩)
def eMu (x y s:List UInt8):FuncId × SEnt:=(183,⟨[strA x,strA y],[],strA s⟩)
def eDv (x y q:List UInt8):FuncId × SEnt:=(152,⟨[strA x,strA y],[],.tuple [strA q,strA []]⟩)
theorem okMade:FnOk Tryz.prog 150 Tryz.f150:=⟨Tryz.func150,by kernel_rfl,by kernel_rfl⟩
theorem okNeg:FnOk Tryz.prog 157 Tryz.f157:=⟨Tryz.func157,by kernel_rfl,by kernel_rfl⟩
theorem okAdd:FnOk Tryz.prog 145 Tryz.f145:=⟨Tryz.func145,by kernel_rfl,by kernel_rfl⟩
theorem okMul:FnOk Tryz.prog 162 Tryz.f162:=⟨Tryz.func162,by kernel_rfl,by kernel_rfl⟩
theorem okSign:FnOk Tryz.prog 147 Tryz.f147:=⟨Tryz.func147,by kernel_rfl,by kernel_rfl⟩
theorem okDivMod:FnOk Tryz.prog 188 Tryz.f188:=⟨Tryz.func188,by kernel_rfl,by kernel_rfl⟩
theorem okFromInt:FnOk Tryz.prog 133 Tryz.f133:=⟨Tryz.func133,by kernel_rfl,by kernel_rfl⟩
theorem made_nt (I:AK):runF Tryz.f150 [] [.bool true,strA []] I=I (Go.Eng.AV.agg [Go.Eng.AV.bool false,strA []]) []:=by kernel_rfl
theorem made_ct (c:UInt8) (l:List UInt8) (I:AK):runF Tryz.f150 [] [.bool true,strA (c::l)] I=I (Go.Eng.AV.agg [Go.Eng.AV.bool true,strA (c::l)]) []:=by kernel_rfl
theorem made_nf (I:AK):runF Tryz.f150 [] [.bool false,strA []] I=I (Go.Eng.AV.agg [Go.Eng.AV.bool false,strA []]) []:=by kernel_rfl
theorem made_cf (c:UInt8) (l:List UInt8) (I:AK):runF Tryz.f150 [] [.bool false,strA (c::l)] I=I (Go.Eng.AV.agg [Go.Eng.AV.bool false,strA (c::l)]) []:=by kernel_rfl
theorem made_z (b:Bool) (u:Nat):BSim Tryz.prog 150 [.bool b,strA (mg u)] [] [] (zA (zS b u)):=by
 rw [zA_S]
 by_cases h:u=0
 ·subst h
  rw [mg_zero]
  cases b
  ·exact BSim.run hm hX0l (S:=[]) (fun _ h=>by cases h) okMade (by kernel_rfl) rfl 300 [] _ made_nf (pdec_iff.2 (zz_leaf _ _))
  ·exact BSim.run hm hX0l (S:=[]) (fun _ h=>by cases h) okMade (by kernel_rfl) rfl 300 [] _ made_nt (pdec_iff.2 (zz_leaf _ _))
 ·obtain ⟨c,m,e⟩:=mg_cons h
  rw [e,decide_eq_true h]
  cases b
  ·exact BSim.run hm hX0l (S:=[]) (fun _ h=>by cases h) okMade (by kernel_rfl) rfl 300 [] _ (made_cf c m) (pdec_iff.2 (zz_leaf _ _))
  ·exact BSim.run hm hX0l (S:=[]) (fun _ h=>by cases h) okMade (by kernel_rfl) rfl 300 [] _ (made_ct c m) (pdec_iff.2 (zz_leaf _ _))
theorem eMd_ok (b:Bool) (u:Nat):SSpec Tryz.prog (eMd b (mg u) (b&&decide (u≠0))).1 (eMd b (mg u) (b&&decide (u≠0))).2:=by
 have:=(made_z b u).spec0 rfl
 rw [zA_S] at this
 exact this
theorem neg_nt (I:AK):runF Tryz.f157 [] [intA true []] I=I (Go.Eng.AV.agg [Go.Eng.AV.bool false,strA []]) []:=by kernel_rfl
theorem neg_ct (c:UInt8) (l:List UInt8) (I:AK):runF Tryz.f157 [] [intA true (c::l)] I=I (Go.Eng.AV.agg [Go.Eng.AV.bool false,strA (c::l)]) []:=by kernel_rfl
theorem neg_nf (I:AK):runF Tryz.f157 [] [intA false []] I=I (Go.Eng.AV.agg [Go.Eng.AV.bool false,strA []]) []:=by kernel_rfl
theorem neg_cf (c:UInt8) (l:List UInt8) (I:AK):runF Tryz.f157 [] [intA false (c::l)] I=I (Go.Eng.AV.agg [Go.Eng.AV.bool true,strA (c::l)]) []:=by kernel_rfl
theorem neg_z (z:Int):BSim Tryz.prog 157 [zA z] [] [] (zA (-z)):=by
 rcases zcase z with ⟨n,rfl⟩ | ⟨n,h,rfl⟩
 ·rw [zA_neg,zA_nat]
  by_cases h:n=0
  ·subst h
   rw [mg_zero]
   exact BSim.run hm hX0l (S:=[]) (fun _ h=>by cases h) okNeg (by kernel_rfl) rfl 300 [] _ neg_nf (pdec_iff.2 (zz_leaf _ _))
  ·obtain ⟨c,m,e⟩:=mg_cons h
   rw [e,decide_eq_true h]
   exact BSim.run hm hX0l (S:=[]) (fun _ h=>by cases h) okNeg (by kernel_rfl) rfl 300 [] _ (neg_cf c m) (pdec_iff.2 (zz_leaf _ _))
 ·rw [Int.neg_neg,zA_neg,zA_nat]
  obtain ⟨c,m,e⟩:=mg_cons h
  rw [e,decide_eq_true h]
  exact BSim.run hm hX0l (S:=[]) (fun _ h=>by cases h) okNeg (by kernel_rfl) rfl 300 [] _ (neg_ct c m) (pdec_iff.2 (zz_leaf _ _))
theorem add_st (x y s:List UInt8) (n:Bool) (I:AK):runF Tryz.f145 [eAd x y s,eMd true s n] [intA true x,intA true y] I=gX ((eAd x y s).snd.args) (gX ((eMd true s n).snd.args) (gB (gB (gB (gX (Go.Eng.AV.bool true) true) true) true) (I (Go.Eng.AV.agg [Go.Eng.AV.bool n,strA s]) []))):=by kernel_rfl
theorem add_sf (x y s:List UInt8) (n:Bool) (I:AK):runF Tryz.f145 [eAd x y s,eMd false s n] [intA false x,intA false y] I=gX ((eAd x y s).snd.args) (gX ((eMd false s n).snd.args) (gB (gB (gB (gX (Go.Eng.AV.bool false) true) true) true) (I (Go.Eng.AV.agg [Go.Eng.AV.bool n,strA s]) []))):=by kernel_rfl
theorem add_tz (x y s:List UInt8) (n:Bool) (I:AK):runF Tryz.f145 [eCm x y 0,eSb x y s,eMd true s n] [intA true x,intA false y] I=gX ((eCm x y 0).snd.args) (gX ((eSb x y s).snd.args) (gX ((eMd true s n).snd.args) (gB (gB (gB (gX (Go.Eng.AV.bool true) true) true) true) (I (Go.Eng.AV.agg [Go.Eng.AV.bool n,strA s]) [])))):=by kernel_rfl
theorem add_tp (x y s:List UInt8) (n:Bool) (I:AK):runF Tryz.f145 [eCm x y 1,eSb x y s,eMd true s n] [intA true x,intA false y] I=gX ((eCm x y 1).snd.args) (gX ((eSb x y s).snd.args) (gX ((eMd true s n).snd.args) (gB (gB (gB (gX (Go.Eng.AV.bool true) true) true) true) (I (Go.Eng.AV.agg [Go.Eng.AV.bool n,strA s]) [])))):=by kernel_rfl
theorem add_tm (x y s:List UInt8) (n:Bool) (I:AK):runF Tryz.f145 [eCm x y (-1),eSb y x s,eMd false s n] [intA true x,intA false y] I=gX ((eCm x y (-1)).snd.args) (gX ((eSb y x s).snd.args) (gX ((eMd false s n).snd.args) (gB (gB (gB (gX (Go.Eng.AV.bool false) true) true) true) (I (Go.Eng.AV.agg [Go.Eng.AV.bool n,strA s]) [])))):=by kernel_rfl
theorem add_fz (x y s:List UInt8) (n:Bool) (I:AK):runF Tryz.f145 [eCm x y 0,eSb x y s,eMd false s n] [intA false x,intA true y] I=gX ((eCm x y 0).snd.args) (gX ((eSb x y s).snd.args) (gX ((eMd false s n).snd.args) (gB (gB (gB (gX (Go.Eng.AV.bool false) true) true) true) (I (Go.Eng.AV.agg [Go.Eng.AV.bool n,strA s]) [])))):=by kernel_rfl
theorem add_fp (x y s:List UInt8) (n:Bool) (I:AK):runF Tryz.f145 [eCm x y 1,eSb x y s,eMd false s n] [intA false x,intA true y] I=gX ((eCm x y 1).snd.args) (gX ((eSb x y s).snd.args) (gX ((eMd false s n).snd.args) (gB (gB (gB (gX (Go.Eng.AV.bool false) true) true) true) (I (Go.Eng.AV.agg [Go.Eng.AV.bool n,strA s]) [])))):=by kernel_rfl
theorem add_fm (x y s:List UInt8) (n:Bool) (I:AK):runF Tryz.f145 [eCm x y (-1),eSb y x s,eMd true s n] [intA false x,intA true y] I=gX ((eCm x y (-1)).snd.args) (gX ((eSb y x s).snd.args) (gX ((eMd true s n).snd.args) (gB (gB (gB (gX (Go.Eng.AV.bool true) true) true) true) (I (Go.Eng.AV.agg [Go.Eng.AV.bool n,strA s]) [])))):=by kernel_rfl
theorem add_same (b:Bool) {x y:Nat} (h:x+y<18446744073709551616):BSim Tryz.prog 145 [intA b (mg x),intA b (mg y)] [] [] (zA (zS b (x+y))):=by
 have hS:AllOk [eAd (mg x) (mg y) (mg (x+y)),eMd b (mg (x+y)) (b&&decide (x+y≠0))]:=⟨(add0_z h).spec0 rfl,eMd_ok _ _,trivial⟩
 rw [zA_S]
 cases b
 ·refine BSim.run hm hX0l hS.mem okAdd (by kernel_rfl) rfl 300 [] _ (add_sf _ _ _ _) ?_
  simp only [gX_iff,gB_iff,and_true,true_and]
  exact pdec_iff.2 (zz_leaf _ _)
 ·refine BSim.run hm hX0l hS.mem okAdd (by kernel_rfl) rfl 300 [] _ (add_st _ _ _ _) ?_
  simp only [gX_iff,gB_iff,and_true,true_and]
  exact pdec_iff.2 (zz_leaf _ _)
theorem add_ge (b:Bool) {x y:Nat} (h:y≤x) (hx:x<18446744073709551616):BSim Tryz.prog 145 [intA b (mg x),intA (!b) (mg y)] [] [] (zA (zS b (x-y))):=by
 rw [zA_S]
 have hc:=compare_z x y
 have hS:∀ c,cmpN x y=c→AllOk [eCm (mg x) (mg y) c,eSb (mg x) (mg y) (mg (x-y)),eMd b (mg (x-y)) (b&&decide (x-y≠0))]:=fun c e=>⟨(e▸hc).spec0 rfl,(sub0_z h hx).spec0 rfl,eMd_ok _ _,trivial⟩
 have hcc:cmpN x y=0∨cmpN x y=1:=by
  unfold cmpN;rw [if_neg (by omega)]
  by_cases h':y<x
  ·exact .inr (if_pos h')
  ·exact .inl (if_neg h')
 rcases hcc with e | e<;>cases b
 ·refine BSim.run hm hX0l (hS _ e).mem okAdd (by kernel_rfl) rfl 300 [] _ (add_fz _ _ _ _) ?_
  simp only [gX_iff,gB_iff,and_true,true_and]
  exact pdec_iff.2 (zz_leaf _ _)
 ·refine BSim.run hm hX0l (hS _ e).mem okAdd (by kernel_rfl) rfl 300 [] _ (add_tz _ _ _ _) ?_
  simp only [gX_iff,gB_iff,and_true,true_and]
  exact pdec_iff.2 (zz_leaf _ _)
 ·refine BSim.run hm hX0l (hS _ e).mem okAdd (by kernel_rfl) rfl 300 [] _ (add_fp _ _ _ _) ?_
  simp only [gX_iff,gB_iff,and_true,true_and]
  exact pdec_iff.2 (zz_leaf _ _)
 ·refine BSim.run hm hX0l (hS _ e).mem okAdd (by kernel_rfl) rfl 300 [] _ (add_tp _ _ _ _) ?_
  simp only [gX_iff,gB_iff,and_true,true_and]
  exact pdec_iff.2 (zz_leaf _ _)
theorem add_lt (b:Bool) {x y:Nat} (h:x<y) (hy:y<18446744073709551616):BSim Tryz.prog 145 [intA b (mg x),intA (!b) (mg y)] [] [] (zA (zS (!b) (y-x))):=by
 rw [zA_S]
 have hc:=compare_z x y
 have e:cmpN x y=-1:=if_pos h
 rw [e] at hc
 have hS:AllOk [eCm (mg x) (mg y) (-1),eSb (mg y) (mg x) (mg (y-x)),eMd (!b) (mg (y-x)) (!b&&decide (y-x≠0))]:=⟨hc.spec0 rfl,(sub0_z (by omega) hy).spec0 rfl,eMd_ok _ _,trivial⟩
 cases b
 ·refine BSim.run hm hX0l hS.mem okAdd (by kernel_rfl) rfl 300 [] _ (add_fm _ _ _ _) ?_
  simp only [gX_iff,gB_iff,and_true,true_and]
  exact pdec_iff.2 (zz_leaf _ _)
 ·refine BSim.run hm hX0l hS.mem okAdd (by kernel_rfl) rfl 300 [] _ (add_tm _ _ _ _) ?_
  simp only [gX_iff,gB_iff,and_true,true_and]
  exact pdec_iff.2 (zz_leaf _ _)
theorem zA_neg' {n:Nat} (h:n≠0):zA (-(n:Int))=intA true (mg n):=by rw [zA_neg,decide_eq_true h]
theorem add_z {z w:Int} (h:z.natAbs+w.natAbs<18446744073709551616):BSim Tryz.prog 145 [zA z,zA w] [] [] (zA (z+w)):=by
 rcases zcase z with ⟨x,rfl⟩ | ⟨x,hx,rfl⟩<;>rcases zcase w with ⟨y,rfl⟩ | ⟨y,hy,rfl⟩
 ·rw [zA_nat,zA_nat,show (x:Int)+y=zS false (x+y) by simp [zS]]
  exact add_same false (by omega)
 ·rw [zA_nat,zA_neg' hy]
  by_cases hl:y≤x
  ·rw [show (x:Int) + -y=zS false (x-y) by simp [zS];omega]
   exact add_ge false hl (by omega)
  ·rw [show (x:Int) + -y=zS (!false) (y-x) by simp [zS];omega]
   exact add_lt false (by omega) (by omega)
 ·rw [zA_neg' hx,zA_nat]
  by_cases hl:y≤x
  ·rw [show -(x:Int)+y=zS true (x-y) by simp [zS];omega]
   exact add_ge true hl (by omega)
  ·rw [show -(x:Int)+y=zS (!true) (y-x) by simp [zS];omega]
   exact add_lt true (by omega) (by omega)
 ·rw [zA_neg' hx,zA_neg' hy,show -(x:Int) + -y=zS true (x+y) by simp [zS];omega]
  exact add_same true (by omega)
theorem mul_tt (x y s:List UInt8) (n:Bool) (I:AK):runF Tryz.f162 [eMu x y s,eMd false s n] [intA true x,intA true y] I=gX ((eMu x y s).snd.args) (gX ((eMd false s n).snd.args) (gB (gB (gB (gX (Go.Eng.AV.bool true) true) true) (gB (gB (gX (Go.Eng.AV.bool true) true) true) true)) (I (Go.Eng.AV.agg [Go.Eng.AV.bool n,strA s]) []))):=by kernel_rfl
theorem mul_tf (x y s:List UInt8) (n:Bool) (I:AK):runF Tryz.f162 [eMu x y s,eMd true s n] [intA true x,intA false y] I=gX ((eMu x y s).snd.args) (gX ((eMd true s n).snd.args) (gB (gB (gB (gX (Go.Eng.AV.bool false) true) true) (gB (gB (gX (Go.Eng.AV.bool true) true) true) true)) (I (Go.Eng.AV.agg [Go.Eng.AV.bool n,strA s]) []))):=by kernel_rfl
theorem mul_ft (x y s:List UInt8) (n:Bool) (I:AK):runF Tryz.f162 [eMu x y s,eMd true s n] [intA false x,intA true y] I=gX ((eMu x y s).snd.args) (gX ((eMd true s n).snd.args) (gB (gB (gB (gX (Go.Eng.AV.bool true) true) true) (gB (gB (gX (Go.Eng.AV.bool false) true) true) true)) (I (Go.Eng.AV.agg [Go.Eng.AV.bool n,strA s]) []))):=by kernel_rfl
theorem mul_ff (x y s:List UInt8) (n:Bool) (I:AK):runF Tryz.f162 [eMu x y s,eMd false s n] [intA false x,intA false y] I=gX ((eMu x y s).snd.args) (gX ((eMd false s n).snd.args) (gB (gB (gB (gX (Go.Eng.AV.bool false) true) true) (gB (gB (gX (Go.Eng.AV.bool false) true) true) true)) (I (Go.Eng.AV.agg [Go.Eng.AV.bool n,strA s]) []))):=by kernel_rfl
theorem mul_b (a b:Bool) {x y:Nat} (hx:x<4294967296) (hy:y<4294967296):BSim Tryz.prog 162 [intA a (mg x),intA b (mg y)] [] [] (zA (zS (a != b) (x*y))):=by
 rw [zA_S]
 have hS:AllOk [eMu (mg x) (mg y) (mg (x*y)),eMd (a != b) (mg (x*y)) ((a != b)&&decide (x*y≠0))]:=⟨(mul0_z hx hy).spec0 rfl,eMd_ok _ _,trivial⟩
 cases a<;>cases b
 ·refine BSim.run hm hX0l hS.mem okMul (by kernel_rfl) rfl 300 [] _ (mul_ff _ _ _ _) ?_
  simp only [gX_iff,gB_iff,and_true,true_and]
  exact pdec_iff.2 (zz_leaf _ _)
 ·refine BSim.run hm hX0l hS.mem okMul (by kernel_rfl) rfl 300 [] _ (mul_ft _ _ _ _) ?_
  simp only [gX_iff,gB_iff,and_true,true_and]
  exact pdec_iff.2 (zz_leaf _ _)
 ·refine BSim.run hm hX0l hS.mem okMul (by kernel_rfl) rfl 300 [] _ (mul_tf _ _ _ _) ?_
  simp only [gX_iff,gB_iff,and_true,true_and]
  exact pdec_iff.2 (zz_leaf _ _)
 ·refine BSim.run hm hX0l hS.mem okMul (by kernel_rfl) rfl 300 [] _ (mul_tt _ _ _ _) ?_
  simp only [gX_iff,gB_iff,and_true,true_and]
  exact pdec_iff.2 (zz_leaf _ _)
theorem mul_z {z w:Int} (hz:z.natAbs<4294967296) (hw:w.natAbs<4294967296):BSim Tryz.prog 162 [zA z,zA w] [] [] (zA (z*w)):=by
 rcases zcase z with ⟨x,rfl⟩ | ⟨x,hx,rfl⟩<;>rcases zcase w with ⟨y,rfl⟩ | ⟨y,hy,rfl⟩
 ·rw [zA_nat,zA_nat,show (x:Int)*y=zS (false != false) (x*y) by simp [zS]]
  exact mul_b false false (by omega) (by omega)
 ·rw [zA_nat,zA_neg' hy,show (x:Int)*-y=zS (false != true) (x*y) by simp [zS,Int.mul_neg]]
  exact mul_b false true (by omega) (by omega)
 ·rw [zA_neg' hx,zA_nat,show -(x:Int)*y=zS (true != false) (x*y) by simp [zS,Int.neg_mul]]
  exact mul_b true false (by omega) (by omega)
 ·rw [zA_neg' hx,zA_neg' hy,show -(x:Int)*-y=zS (true != true) (x*y) by simp [zS,Int.neg_mul_neg]]
  exact mul_b true true (by omega) (by omega)
theorem sign_n (I:AK):runF Tryz.f147 [] [intA false []] I=I (Go.Eng.AV.int .i64 0) []:=by kernel_rfl
theorem sign_p (c:UInt8) (l:List UInt8) (I:AK):runF Tryz.f147 [] [intA false (c::l)] I=I (Go.Eng.AV.int .i64 1) []:=by kernel_rfl
theorem sign_m (c:UInt8) (l:List UInt8) (I:AK):runF Tryz.f147 [] [intA true (c::l)] I=I (Go.Eng.AV.int .i64 (-1)) []:=by kernel_rfl
theorem sign_z (z:Int):BSim Tryz.prog 147 [zA z] [] [] (.int .i64 z.sign):=by
 rcases zcase z with ⟨n,rfl⟩ | ⟨n,h,rfl⟩
 ·rw [zA_nat]
  by_cases h:n=0
  ·subst h
   rw [mg_zero]
   exact BSim.run hm hX0l (S:=[]) (fun _ h=>by cases h) okSign (by kernel_rfl) rfl 300 [] _ sign_n (pdec_iff.2 (iL_leaf 0))
  ·obtain ⟨c,m,e⟩:=mg_cons h
   rw [e,show (n:Int).sign=1 from Int.sign_eq_one_of_pos (by omega)]
   exact BSim.run hm hX0l (S:=[]) (fun _ h=>by cases h) okSign (by kernel_rfl) rfl 300 [] _ (sign_p c m) (pdec_iff.2 (iL_leaf 1))
 ·rw [zA_neg' h]
  obtain ⟨c,m,e⟩:=mg_cons h
  rw [e,show (-(n:Int)).sign=-1 from Int.sign_eq_neg_one_of_neg (by omega)]
  exact BSim.run hm hX0l (S:=[]) (fun _ h=>by cases h) okSign (by kernel_rfl) rfl 300 [] _ (sign_m c m) (pdec_iff.2 (iL_leaf (-1)))
theorem div_t (x y q:List UInt8) (c:UInt8) (n:Bool) (I:AK):runF Tryz.f188 [eDv x (c::y) q,eMd true q n,eMd false [] false] [intA true x,intA false (c::y)] I=gX ((eDv x (c::y) q).snd.args) (gX ((eMd true q n).snd.args) (gX ((eMd false [] false).snd.args) (I (Go.Eng.AV.tuple [Go.Eng.AV.agg [Go.Eng.AV.bool n,strA q],Go.Eng.AV.agg [Go.Eng.AV.bool false,strA []],Go.Eng.AV.int .i64 0]) []))):=by kernel_rfl
theorem div_f (x y q:List UInt8) (c:UInt8) (n:Bool) (I:AK):runF Tryz.f188 [eDv x (c::y) q,eMd false q n,eMd false [] false] [intA false x,intA false (c::y)] I=gX ((eDv x (c::y) q).snd.args) (gX ((eMd false q n).snd.args) (gX ((eMd false [] false).snd.args) (I (Go.Eng.AV.tuple [Go.Eng.AV.agg [Go.Eng.AV.bool n,strA q],Go.Eng.AV.agg [Go.Eng.AV.bool false,strA []],Go.Eng.AV.int .i64 0]) []))):=by kernel_rfl
def dmA (z:Int):AV:=.tuple [zA z,zA 0,.int .i64 0]
theorem dm_leaf (b:Bool) (l:List UInt8) {π:List Nat} {bs:List (Option Blk)}:Leaf 0 π [] (.tuple [intA b l,intA false [],.int .i64 0]) (.tuple [.agg [.bool b,strA l],.agg [.bool false,strA []],.int .i64 0]) bs :=
 Leaf.flat fun _ _=>.tuple _ _ (.cons _ _ _ _ (.aggs [.bool b,.str l.length (enc l)]) (.cons _ _ _ _ (.aggs [.bool false,.str 0 0]) (.cons _ _ _ _ (.plain (.int .i64 0)) .nil)))
theorem div_b (a:Bool) {x d:Nat} (hx:x<18446744073709551616) (hd:d<18446744073709551616) (h0:d≠0) (h:x % d=0):BSim Tryz.prog 188 [intA a (mg x),intA false (mg d)] [] [] (dmA (zS a (x / d))):=by
 unfold dmA
 rw [zA_S,zA_zero]
 have hdv:=div0_z hx hd h0
 rw [h,mg_zero] at hdv
 have hm0:SSpec Tryz.prog (eMd false [] false).1 (eMd false [] false).2:=by have:=eMd_ok false 0;rw [mg_zero] at this;exact this
 obtain ⟨c,m,e⟩:=mg_cons h0
 rw [e] at hdv ⊢
 have hS:AllOk [eDv (mg x) (c::m) (mg (x / d)),eMd a (mg (x / d)) (a&&decide (x / d≠0)),eMd false [] false]:=⟨hdv.spec0 rfl,eMd_ok _ _,hm0,trivial⟩
 cases a
 ·refine BSim.run hm hX0l hS.mem okDivMod (by kernel_rfl) rfl 300 [] _ (div_f _ _ _ _ _) ?_
  simp only [gX_iff,gB_iff,and_true,true_and]
  exact pdec_iff.2 (dm_leaf _ _)
 ·refine BSim.run hm hX0l hS.mem okDivMod (by kernel_rfl) rfl 300 [] _ (div_t _ _ _ _ _) ?_
  simp only [gX_iff,gB_iff,and_true,true_and]
  exact pdec_iff.2 (dm_leaf _ _)
theorem divmod_z {z:Int} {d:Nat} (hz:z.natAbs<18446744073709551616) (hd:d<18446744073709551616) (h0:d≠0) (h:z.natAbs % d=0):BSim Tryz.prog 188 [zA z,zA d] [] [] (dmA (z / d)):=by
 rw [zA_nat]
 rcases zcase z with ⟨x,rfl⟩ | ⟨x,hx,rfl⟩
 ·rw [zA_nat,show (x:Int) / d=zS false (x / d) by simp [zS]]
  exact div_b false (by omega) hd h0 (by simpa using h)
 ·have h':x % d=0:=by simpa using h
  rw [zA_neg' hx,show -(x:Int) / d=zS true (x / d) by
   simp only [zS,if_true]
   rw [Int.neg_ediv_of_dvd (Int.natCast_dvd_natCast.2 (Nat.dvd_of_mod_eq_zero h'))];simp]
  exact div_b true (by omega) hd h0 h'
end
theorem gcd_zz {z:Int} {d:Nat} (hz:z.natAbs<18446744073709551616) (hd:d<18446744073709551616):BSim Tryz.prog 116 [zA z,zA d] [] [] (zA (Nat.gcd z.natAbs d)):=by
 rw [zA_nat,zA_nat]
 exact gcd_z _ false hz hd
end
end Go.Proofs.YtodjhpjcgggamaaGreatDoor

namespace Go.Proofs.YtodjhpjcgggamaaGreatDoor
open Go Go.Eng Go.Vi Go.Knuth
noncomputable section
def dm (d:Nat):List UInt8:=if d=1 then [] else mg d
def qR (z:Int) (d:Nat):Rt:=⟨decide (z<0),mg z.natAbs,false,dm d⟩
def qA (z:Int) (d:Nat):AV:=rtA (qR z d)
def qN (z:Int) (d:Nat):AV:=qA (z / (Nat.gcd z.natAbs d:Nat)) (d / Nat.gcd z.natAbs d)
theorem dm_one:dm 1=[]:=if_pos rfl
theorem dm_ne {d:Nat} (h:d≠1):dm d=mg d:=if_neg h
theorem dm_inj {d e:Nat} (hd:1≤d) (he:1≤e) (h:dm d=dm e):d=e:=by
 unfold dm at h
 by_cases h1:d=1<;>by_cases h2:e=1
 ·omega
 ·rw [if_pos h1,if_neg h2] at h
  have:=congrArg be h;rw [mg_be] at this;simp [be] at this;omega
 ·rw [if_neg h1,if_pos h2] at h
  have:=congrArg be h;rw [mg_be] at this;simp [be] at this;omega
 ·rw [if_neg h1,if_neg h2] at h
  have:=congrArg be h;rw [mg_be,mg_be] at this;exact this
section
local instance : Go.Eng.Mode := Sl
theorem rt_leaf (n:Bool) (m:List UInt8) (n':Bool) (m':List UInt8) {π:List Nat} {bs:List (Option Blk)}:Leaf 0 π [] (rtA ⟨n,m,n',m'⟩) (.agg [.bool n,strA m,.bool n',strA m']) bs :=
 Leaf.flat fun _ _=>.aggs [.bool n,.str m.length (enc m),.bool n',.str m'.length (enc m')]
def eSg (n:Bool) (m:List UInt8) (e:Int):FuncId × SEnt:=(147,⟨[intA n m],[],.int .i64 e⟩)
def eGc (n:Bool) (m:List UInt8) (n':Bool) (m' g:List UInt8):FuncId × SEnt:=(116,⟨[intA n m,intA n' m'],[],intA false g⟩)
def eQu (n:Bool) (m:List UInt8) (g:List UInt8) (n':Bool) (m':List UInt8):FuncId × SEnt:=(171,⟨[intA n m,intA false g],[],intA n' m'⟩)
def eO:FuncId × SEnt:=(115,⟨[],[],intA false [1]⟩)
def eDM (n:Bool) (m:List UInt8) (g:List UInt8) (n':Bool) (m':List UInt8):FuncId × SEnt:=(188,⟨[intA n m,intA false g],[],.tuple [intA n' m',intA false [],.int .i64 0]⟩)
def eDen (r:Rt) (n:Bool) (m:List UInt8):FuncId × SEnt:=(163,⟨[rtA r],[],intA n m⟩)
def eZm (n:Bool) (m:List UInt8) (n':Bool) (m':List UInt8) (n'':Bool) (m'':List UInt8):FuncId × SEnt:=(162,⟨[intA n m,intA n' m'],[],intA n'' m''⟩)
def eZa (n:Bool) (m:List UInt8) (n':Bool) (m':List UInt8) (n'':Bool) (m'':List UInt8):FuncId × SEnt:=(145,⟨[intA n m,intA n' m'],[],intA n'' m''⟩)
def eCan (n:Bool) (m:List UInt8) (m':List UInt8) (r:Rt):FuncId × SEnt:=(144,⟨[intA n m,intA false m'],[],rtA r⟩)
def eCr (r s:Rt) (n:Bool) (m:List UInt8) (n':Bool) (m':List UInt8) (d:List UInt8):FuncId × SEnt:=(143,⟨[rtA r,rtA s],[],.tuple [intA n m,intA n' m',intA false d]⟩)
def eNg (n:Bool) (m:List UInt8) (n':Bool):FuncId × SEnt:=(157,⟨[intA n m],[],intA n' m⟩)
def eQn (r s:Rt):FuncId × SEnt:=(131,⟨[rtA r],[],rtA s⟩)
def eQa (r s u:Rt):FuncId × SEnt:=(112,⟨[rtA r,rtA s],[],rtA u⟩)
def eMk (n:Bool) (m:List UInt8) (m':List UInt8) (r:Rt):FuncId × SEnt:=(161,⟨[intA n m,intA false m'],[],.tuple [rtA r,.int .i64 0]⟩)
def eFI (n:Int) (b:Bool) (m:List UInt8):FuncId × SEnt:=(133,⟨[.int .i64 n],[],intA b m⟩)
def eQs (r:Rt) (e:Int):FuncId × SEnt:=(187,⟨[rtA r],[],.int .i64 e⟩)
theorem okQuo:FnOk Tryz.prog 171 Tryz.f171:=⟨Tryz.func171,by kernel_rfl,by kernel_rfl⟩
theorem okCan:FnOk Tryz.prog 144 Tryz.f144:=⟨Tryz.func144,by kernel_rfl,by kernel_rfl⟩
theorem okDen:FnOk Tryz.prog 163 Tryz.f163:=⟨Tryz.func163,by kernel_rfl,by kernel_rfl⟩
theorem okCross:FnOk Tryz.prog 143 Tryz.f143:=⟨Tryz.func143,by kernel_rfl,by kernel_rfl⟩
theorem okRAdd:FnOk Tryz.prog 112 Tryz.f112:=⟨Tryz.func112,by kernel_rfl,by kernel_rfl⟩
theorem okRSub:FnOk Tryz.prog 135 Tryz.f135:=⟨Tryz.func135,by kernel_rfl,by kernel_rfl⟩
theorem okRMul:FnOk Tryz.prog 137 Tryz.f137:=⟨Tryz.func137,by kernel_rfl,by kernel_rfl⟩
theorem okRDiv:FnOk Tryz.prog 134 Tryz.f134:=⟨Tryz.func134,by kernel_rfl,by kernel_rfl⟩
theorem okRMake:FnOk Tryz.prog 161 Tryz.f161:=⟨Tryz.func161,by kernel_rfl,by kernel_rfl⟩
theorem okRFromInt:FnOk Tryz.prog 107 Tryz.f107:=⟨Tryz.func107,by kernel_rfl,by kernel_rfl⟩
theorem okRNeg:FnOk Tryz.prog 131 Tryz.f131:=⟨Tryz.func131,by kernel_rfl,by kernel_rfl⟩
theorem okRSign:FnOk Tryz.prog 187 Tryz.f187:=⟨Tryz.func187,by kernel_rfl,by kernel_rfl⟩
theorem fi_p (n:Nat) (l:List UInt8) (b:Bool) (I:AK):runF Tryz.f133 [eMgz (IntKind.u64.wrap (.ofNat n)) l,eMd false l b] [.int .i64 (.ofNat n)] I=gX ((eMgz (IntKind.u64.wrap (Int.ofNat n)) l).snd.args) (gX ((eMd false l b).snd.args) (I (Go.Eng.AV.agg [Go.Eng.AV.bool b,strA l]) [])):=by kernel_rfl
theorem fi_m (n:Nat) (l:List UInt8) (b:Bool) (I:AK):runF Tryz.f133 [eMgz (IntKind.u64.wrap (Int.neg (IntKind.u64.wrap (.negSucc n)))) l,eMd true l b] [.int .i64 (.negSucc n)] I=gX ((eMgz (IntKind.u64.wrap (IntKind.u64.wrap (Int.negSucc n)).neg) l).snd.args) (gX ((eMd true l b).snd.args) (I (Go.Eng.AV.agg [Go.Eng.AV.bool b,strA l]) [])):=by kernel_rfl
theorem den_1 (n:Bool) (m:List UInt8) (I:AK):runF Tryz.f163 [eO] [rtA ⟨n,m,false,[]⟩] I=gX eO.snd.args (I (Go.Eng.AV.agg [Go.Eng.AV.bool false,strA [1]]) []):=by kernel_rfl
theorem den_c (n:Bool) (m:List UInt8) (c:UInt8) (l:List UInt8) (I:AK):runF Tryz.f163 [] [rtA ⟨n,m,false,c::l⟩] I=I (Go.Eng.AV.agg [Go.Eng.AV.bool false,strA (c::l)]) []:=by kernel_rfl
theorem quo_r (n:Bool) (m g:List UInt8) (n2:Bool) (m2:List UInt8) (I:AK):runF Tryz.f171 [eDM n m g n2 m2] [intA n m,intA false g] I=gX ((eDM n m g n2 m2).snd.args) (I (Go.Eng.AV.agg [Go.Eng.AV.bool n2,strA m2]) []):=by kernel_rfl
theorem can_r (n:Bool) (m l g:List UInt8) (c:UInt8) (n2:Bool) (m2 y:List UInt8) (I:AK):runF Tryz.f144 [eSg false (c::l) 1,eGc n m false (c::l) g,eQu n m g n2 m2,eQu false (c::l) g false y,eO] [intA n m,intA false (c::l)] I=gX ((eSg false (c::l) 1).snd.args) (gX ((eGc n m false (c::l) g).snd.args) (gX ((eQu n m g n2 m2).snd.args) (gX ((eQu false (c::l) g false y).snd.args) (gB (gB (gB (gX (Go.Eng.AV.agg [Go.Eng.AV.bool false,strA g]) true) true) (gB (gB (gX (Go.Eng.AV.agg [Go.Eng.AV.bool false,strA (c::l)]) true) true) true)) (gX eO.snd.args (gIf (seqA y.length (enc y) [1].length (enc [1])) (gB (gB (gB (gX (Go.Eng.AV.agg [Go.Eng.AV.bool false,strA y]) true) true) true) (I (Go.Eng.AV.agg [Go.Eng.AV.bool n2,strA m2,Go.Eng.AV.bool false,Go.Eng.AV.str 0 0]) [])) (gB (gB (gB (gX (Go.Eng.AV.agg [Go.Eng.AV.bool false,strA y]) true) true) true) (I (Go.Eng.AV.agg [Go.Eng.AV.bool n2,strA m2,Go.Eng.AV.bool false,strA y]) [])))))))):=by kernel_rfl
theorem make_r (n:Bool) (m l:List UInt8) (c:UInt8) (r:Rt) (I:AK):runF Tryz.f161 [eSg false (c::l) 1,eCan n m (c::l) r] [intA n m,intA false (c::l)] I=gX ((eSg false (c::l) 1).snd.args) (gX ((eCan n m (c::l) r).snd.args) (I (Go.Eng.AV.tuple [Go.Eng.AV.agg [Go.Eng.AV.bool r.neg,strA r.mag,Go.Eng.AV.bool r.dneg,strA r.dmag],Go.Eng.AV.int .i64 0]) [])):=by kernel_rfl
theorem rneg_r (n:Bool) (m:List UInt8) (n1:Bool) (m1:List UInt8) (n2:Bool) (I:AK):runF Tryz.f131 [eNg n m n2] [rtA ⟨n,m,n1,m1⟩] I=gX ((eNg n m n2).snd.args) (gB (gB (gB (gX (Go.Eng.AV.agg [Go.Eng.AV.bool ((Rt.mk n m n1 m1).dneg),strA ((Rt.mk n m n1 m1).dmag)]) true) true) true) (I (Go.Eng.AV.agg [Go.Eng.AV.bool n2,strA m,Go.Eng.AV.bool ((Rt.mk n m n1 m1).dneg),strA ((Rt.mk n m n1 m1).dmag)]) [])):=by kernel_rfl
theorem cross_e (n:Bool) (m:List UInt8) (n2:Bool) (m2 d e:List UInt8) (I:AK):runF Tryz.f143 [eDen ⟨n,m,false,d⟩ false e,eZm false [] false [] false []] [rtA ⟨n,m,false,d⟩,rtA ⟨n2,m2,false,d⟩] I=gIf (seqA (Rt.mk n m false d).dmag.length (enc (Rt.mk n m false d).dmag) (Rt.mk n2 m2 false d).dmag.length (enc (Rt.mk n2 m2 false d).dmag)) (gX ((eDen (Rt.mk n m false d) false e).snd.args) (gB (gB (gB (gX (Go.Eng.AV.agg [Go.Eng.AV.bool ((Rt.mk n2 m2 false d).neg),strA ((Rt.mk n2 m2 false d).mag)]) true) (gB (gX (Go.Eng.AV.agg [Go.Eng.AV.bool ((Rt.mk n2 m2 false d).neg),strA ((Rt.mk n2 m2 false d).mag)]) true) true)) (gB (gB (gX (Go.Eng.AV.agg [Go.Eng.AV.bool ((Rt.mk n m false d).neg),strA ((Rt.mk n m false d).mag)]) true) true) true)) (I (Go.Eng.AV.tuple [Go.Eng.AV.agg [Go.Eng.AV.bool ((Rt.mk n m false d).neg),strA ((Rt.mk n m false d).mag)],Go.Eng.AV.agg [Go.Eng.AV.bool ((Rt.mk n2 m2 false d).neg),strA ((Rt.mk n2 m2 false d).mag)],Go.Eng.AV.agg [Go.Eng.AV.bool false,strA e]]) []))) (Go.Eng.gateP ([Go.Eng.AV.agg [Go.Eng.AV.bool ((Rt.mk n2 m2 false d).neg),strA ((Rt.mk n2 m2 false d).mag),Go.Eng.AV.bool false,strA ((Rt.mk n2 m2 false d).dmag)]]=[Go.Eng.AV.agg [Go.Eng.AV.bool ((Rt.mk n m false d).neg),strA ((Rt.mk n m false d).mag),Go.Eng.AV.bool false,strA ((Rt.mk n m false d).dmag)]]) (Go.Eng.gateP ([Go.Eng.AV.agg [Go.Eng.AV.bool ((Rt.mk n m false d).neg),strA ((Rt.mk n m false d).mag)],Go.Eng.AV.agg [Go.Eng.AV.bool false,strA e]]=[Go.Eng.AV.agg [Go.Eng.AV.bool false,strA []],Go.Eng.AV.agg [Go.Eng.AV.bool false,strA []]]) false)):=by kernel_rfl
theorem cross_n (n:Bool) (m:List UInt8) (n2:Bool) (m2 d d2 e e2:List UInt8) (s1:Bool) (p1:List UInt8) (s2:Bool) (p2 p3:List UInt8) (I:AK):runF Tryz.f143 [eDen ⟨n2,m2,false,d2⟩ false e2,eZm n m false e2 s1 p1,eDen ⟨n,m,false,d⟩ false e,eZm n2 m2 false e s2 p2,eDen ⟨n,m,false,d⟩ false e,eDen ⟨n2,m2,false,d2⟩ false e2,eZm false e false e2 false p3] [rtA ⟨n,m,false,d⟩,rtA ⟨n2,m2,false,d2⟩] I=gIf (seqA (Rt.mk n m false d).dmag.length (enc (Rt.mk n m false d).dmag) (Rt.mk n2 m2 false d2).dmag.length (enc (Rt.mk n2 m2 false d2).dmag)) (Go.Eng.gateP ([Go.Eng.AV.agg [Go.Eng.AV.bool ((Rt.mk n m false d).neg),strA ((Rt.mk n m false d).mag),Go.Eng.AV.bool false,strA ((Rt.mk n m false d).dmag)]]=[Go.Eng.AV.agg [Go.Eng.AV.bool ((Rt.mk n2 m2 false d2).neg),strA ((Rt.mk n2 m2 false d2).mag),Go.Eng.AV.bool false,strA ((Rt.mk n2 m2 false d2).dmag)]]) (gB (gB (gB (gX (Go.Eng.AV.agg [Go.Eng.AV.bool ((Rt.mk n2 m2 false d2).neg),strA ((Rt.mk n2 m2 false d2).mag)]) true) (gB (gX (Go.Eng.AV.agg [Go.Eng.AV.bool ((Rt.mk n2 m2 false d2).neg),strA ((Rt.mk n2 m2 false d2).mag)]) true) true)) (gB (gB (gX (Go.Eng.AV.agg [Go.Eng.AV.bool ((Rt.mk n m false d).neg),strA ((Rt.mk n m false d).mag)]) true) true) true)) (I (Go.Eng.AV.tuple [Go.Eng.AV.agg [Go.Eng.AV.bool ((Rt.mk n m false d).neg),strA ((Rt.mk n m false d).mag)],Go.Eng.AV.agg [Go.Eng.AV.bool ((Rt.mk n2 m2 false d2).neg),strA ((Rt.mk n2 m2 false d2).mag)],Go.Eng.AV.agg [Go.Eng.AV.bool false,strA e2]]) []))) (gX ((eDen (Rt.mk n2 m2 false d2) false e2).snd.args) (gX ((eZm n m false e2 s1 p1).snd.args) (gX ((eDen (Rt.mk n m false d) false e).snd.args) (gX ((eZm n2 m2 false e s2 p2).snd.args) (gX ((eDen (Rt.mk n m false d) false e).snd.args) (gX ((eDen (Rt.mk n2 m2 false d2) false e2).snd.args) (gX ((eZm false e false e2 false p3).snd.args) (gB (gB (gB (gX (Go.Eng.AV.agg [Go.Eng.AV.bool ((Rt.mk n2 m2 false d2).neg),strA ((Rt.mk n2 m2 false d2).mag),Go.Eng.AV.bool false,strA ((Rt.mk n2 m2 false d2).dmag)]) true) (gB (gX (Go.Eng.AV.agg [Go.Eng.AV.bool ((Rt.mk n2 m2 false d2).neg),strA ((Rt.mk n2 m2 false d2).mag),Go.Eng.AV.bool false,strA ((Rt.mk n2 m2 false d2).dmag)]) true) (gB (gX (Go.Eng.AV.agg [Go.Eng.AV.bool ((Rt.mk n2 m2 false d2).neg),strA ((Rt.mk n2 m2 false d2).mag),Go.Eng.AV.bool false,strA ((Rt.mk n2 m2 false d2).dmag)]) true) (gB (gX (Go.Eng.AV.agg [Go.Eng.AV.bool ((Rt.mk n2 m2 false d2).neg),strA ((Rt.mk n2 m2 false d2).mag),Go.Eng.AV.bool false,strA ((Rt.mk n2 m2 false d2).dmag)]) true) (gB (gX (Go.Eng.AV.agg [Go.Eng.AV.bool ((Rt.mk n2 m2 false d2).neg),strA ((Rt.mk n2 m2 false d2).mag),Go.Eng.AV.bool false,strA ((Rt.mk n2 m2 false d2).dmag)]) true) true))))) (gB (gB (gX (Go.Eng.AV.agg [Go.Eng.AV.bool ((Rt.mk n m false d).neg),strA ((Rt.mk n m false d).mag),Go.Eng.AV.bool false,strA ((Rt.mk n m false d).dmag)]) true) (gB (gX (Go.Eng.AV.agg [Go.Eng.AV.bool ((Rt.mk n m false d).neg),strA ((Rt.mk n m false d).mag),Go.Eng.AV.bool false,strA ((Rt.mk n m false d).dmag)]) true) (gB (gX (Go.Eng.AV.agg [Go.Eng.AV.bool ((Rt.mk n m false d).neg),strA ((Rt.mk n m false d).mag),Go.Eng.AV.bool false,strA ((Rt.mk n m false d).dmag)]) true) (gB (gX (Go.Eng.AV.agg [Go.Eng.AV.bool ((Rt.mk n m false d).neg),strA ((Rt.mk n m false d).mag),Go.Eng.AV.bool false,strA ((Rt.mk n m false d).dmag)]) true) true)))) (gB (gB (gX (Go.Eng.AV.agg [Go.Eng.AV.bool ((Rt.mk n m false d).neg),strA ((Rt.mk n m false d).mag),Go.Eng.AV.bool false,strA ((Rt.mk n m false d).dmag)]) true) (gB (gX (Go.Eng.AV.agg [Go.Eng.AV.bool ((Rt.mk n m false d).neg),strA ((Rt.mk n m false d).mag),Go.Eng.AV.bool false,strA ((Rt.mk n m false d).dmag)]) true) true)) (gB (gB (gX (Go.Eng.AV.agg [Go.Eng.AV.bool ((Rt.mk n2 m2 false d2).neg),strA ((Rt.mk n2 m2 false d2).mag)]) true) (gB (gX (Go.Eng.AV.agg [Go.Eng.AV.bool ((Rt.mk n2 m2 false d2).neg),strA ((Rt.mk n2 m2 false d2).mag)]) true) (gB (gX (Go.Eng.AV.agg [Go.Eng.AV.bool ((Rt.mk n2 m2 false d2).neg),strA ((Rt.mk n2 m2 false d2).mag)]) true) true))) (gB (gB (gX (Go.Eng.AV.agg [Go.Eng.AV.bool ((Rt.mk n m false d).neg),strA ((Rt.mk n m false d).mag)]) true) true) true))))) (I (Go.Eng.AV.tuple [Go.Eng.AV.agg [Go.Eng.AV.bool s1,strA p1],Go.Eng.AV.agg [Go.Eng.AV.bool s2,strA p2],Go.Eng.AV.agg [Go.Eng.AV.bool false,strA p3]]) []))))))))):=by kernel_rfl
theorem radd_r (r s u:Rt) (n:Bool) (m:List UInt8) (n2:Bool) (m2 d:List UInt8) (n3:Bool) (m3:List UInt8) (I:AK):runF Tryz.f112 [eCr r s n m n2 m2 d,eZa n m n2 m2 n3 m3,eCan n3 m3 d u] [rtA r,rtA s] I=gX ((eCr r s n m n2 m2 d).snd.args) (gX ((eZa n m n2 m2 n3 m3).snd.args) (gX ((eCan n3 m3 d u).snd.args) (gB (gB (gB (gX (Go.Eng.AV.agg [Go.Eng.AV.bool false,strA d]) true) true) true) (I (Go.Eng.AV.agg [Go.Eng.AV.bool u.neg,strA u.mag,Go.Eng.AV.bool u.dneg,strA u.dmag]) [])))):=by kernel_rfl
theorem rsub_r (r s t u:Rt) (I:AK):runF Tryz.f135 [eQn s t,eQa r t u] [rtA r,rtA s] I=gX ((eQn s t).snd.args) (gX ((eQa r t u).snd.args) (gB (gB (gB (gX (Go.Eng.AV.agg [Go.Eng.AV.bool r.neg,strA r.mag,Go.Eng.AV.bool r.dneg,strA r.dmag]) true) true) true) (I (Go.Eng.AV.agg [Go.Eng.AV.bool u.neg,strA u.mag,Go.Eng.AV.bool u.dneg,strA u.dmag]) []))):=by kernel_rfl
theorem rmul_r (n:Bool) (m:List UInt8) (n2:Bool) (m2 d d2 e e2:List UInt8) (s1:Bool) (p1 p2:List UInt8) (u:Rt) (I:AK):runF Tryz.f137 [eZm n m n2 m2 s1 p1,eDen ⟨n,m,false,d⟩ false e,eDen ⟨n2,m2,false,d2⟩ false e2,eZm false e false e2 false p2,eCan s1 p1 p2 u] [rtA ⟨n,m,false,d⟩,rtA ⟨n2,m2,false,d2⟩] I=gX ((eZm n m n2 m2 s1 p1).snd.args) (gX ((eDen (Rt.mk n m false d) false e).snd.args) (gX ((eDen (Rt.mk n2 m2 false d2) false e2).snd.args) (gX ((eZm false e false e2 false p2).snd.args) (gX ((eCan s1 p1 p2 u).snd.args) (gB (gB (gB (gX (Go.Eng.AV.agg [Go.Eng.AV.bool ((Rt.mk n2 m2 false d2).neg),strA ((Rt.mk n2 m2 false d2).mag),Go.Eng.AV.bool false,strA ((Rt.mk n2 m2 false d2).dmag)]) true) (gB (gX (Go.Eng.AV.agg [Go.Eng.AV.bool ((Rt.mk n2 m2 false d2).neg),strA ((Rt.mk n2 m2 false d2).mag),Go.Eng.AV.bool false,strA ((Rt.mk n2 m2 false d2).dmag)]) true) true)) (gB (gB (gX (Go.Eng.AV.agg [Go.Eng.AV.bool ((Rt.mk n m false d).neg),strA ((Rt.mk n m false d).mag),Go.Eng.AV.bool false,strA ((Rt.mk n m false d).dmag)]) true) true) true)) (I (Go.Eng.AV.agg [Go.Eng.AV.bool u.neg,strA u.mag,Go.Eng.AV.bool u.dneg,strA u.dmag]) [])))))):=by kernel_rfl
theorem rdiv_r (n:Bool) (m:List UInt8) (n2:Bool) (m2 d d2 e e2:List UInt8) (s1:Bool) (p1 p2:List UInt8) (u:Rt) (I:AK):runF Tryz.f134 [eDen ⟨n2,m2,false,d2⟩ false e2,eZm n m false e2 s1 p1,eDen ⟨n,m,false,d⟩ false e,eZm false e n2 m2 false p2,eMk s1 p1 p2 u] [rtA ⟨n,m,false,d⟩,rtA ⟨n2,m2,false,d2⟩] I=gX ((eDen (Rt.mk n2 m2 false d2) false e2).snd.args) (gX ((eZm n m false e2 s1 p1).snd.args) (gX ((eDen (Rt.mk n m false d) false e).snd.args) (gX ((eZm false e n2 m2 false p2).snd.args) (gX ((eMk s1 p1 p2 u).snd.args) (gB (gB (gB (gX (Go.Eng.AV.agg [Go.Eng.AV.bool ((Rt.mk n2 m2 false d2).neg),strA ((Rt.mk n2 m2 false d2).mag)]) true) (gB (gX (Go.Eng.AV.agg [Go.Eng.AV.bool ((Rt.mk n2 m2 false d2).neg),strA ((Rt.mk n2 m2 false d2).mag)]) true) (gB (gX (Go.Eng.AV.agg [Go.Eng.AV.bool ((Rt.mk n2 m2 false d2).neg),strA ((Rt.mk n2 m2 false d2).mag)]) true) true))) (gB (gB (gX (Go.Eng.AV.agg [Go.Eng.AV.bool ((Rt.mk n m false d).neg),strA ((Rt.mk n m false d).mag),Go.Eng.AV.bool false,strA ((Rt.mk n m false d).dmag)]) true) (gB (gX (Go.Eng.AV.agg [Go.Eng.AV.bool ((Rt.mk n m false d).neg),strA ((Rt.mk n m false d).mag),Go.Eng.AV.bool false,strA ((Rt.mk n m false d).dmag)]) true) true)) (gB (gB (gX (Go.Eng.AV.agg [Go.Eng.AV.bool ((Rt.mk n m false d).neg),strA ((Rt.mk n m false d).mag)]) true) true) true))) (I (Go.Eng.AV.tuple [Go.Eng.AV.agg [Go.Eng.AV.bool u.neg,strA u.mag,Go.Eng.AV.bool u.dneg,strA u.dmag],Go.Eng.AV.int .i64 0]) [])))))):=by kernel_rfl
theorem rfi_r (n:Int) (b:Bool) (m:List UInt8) (I:AK):runF Tryz.f107 [eFI n b m] [.int .i64 n] I=gX ((eFI n b m).snd.args) (I (Go.Eng.AV.agg [Go.Eng.AV.bool b,strA m,Go.Eng.AV.bool false,Go.Eng.AV.str 0 0]) []):=by kernel_rfl
theorem rsg_r (n:Bool) (m:List UInt8) (n1:Bool) (m1:List UInt8) (e:Int) (I:AK):runF Tryz.f187 [eSg n m e] [rtA ⟨n,m,n1,m1⟩] I=gX ((eSg n m e).snd.args) (I (Go.Eng.AV.int .i64 e) []):=by kernel_rfl
end
end
end Go.Proofs.YtodjhpjcgggamaaGreatDoor

namespace Go.Proofs.YtodjhpjcgggamaaGreatDoor
open Go Go.Eng Go.Vi Go.Knuth
noncomputable section
theorem zA_eq (z:Int):zA z=intA (decide (z<0)) (mg z.natAbs):=rfl
theorem qA_eq (z:Int) (d:Nat):qA z d=rtA ⟨decide (z<0),mg z.natAbs,false,dm d⟩:=rfl
theorem rtA_i (z:Int) (d:Nat):(rtA (qR z d))=rtA ⟨decide (z<0),mg z.natAbs,false,dm d⟩:=rfl
section
local instance : Go.Eng.Mode := Sl
theorem den_z (z:Int) {d:Nat} (h:1≤d):BSim Tryz.prog 163 [qA z d] [] [] (zA d):=by
 rw [qA_eq,zA_nat]
 by_cases h1:d=1
 ·subst h1
  rw [dm_one,mg_one]
  refine BSim.run hm hX0l (S:=[eO]) (AllOk.mem ⟨one_c.spec0 rfl,trivial⟩) okDen (by kernel_rfl) rfl 300 [] _ (den_1 _ _) ?_
  rw [gX_iff]
  exact pdec_iff.2 (zz_leaf _ _)
 ·rw [dm_ne h1]
  obtain ⟨c,m,e⟩:=mg_cons (show d≠0 by omega)
  rw [e]
  exact BSim.run hm hX0l (S:=[]) (fun _ h=>by cases h) okDen (by kernel_rfl) rfl 300 [] _ (den_c _ _ c m) (pdec_iff.2 (zz_leaf _ _))
theorem quo_z {z:Int} {d:Nat} (hz:z.natAbs<18446744073709551616) (hd:d<18446744073709551616) (h0:d≠0) (h:z.natAbs % d=0):BSim Tryz.prog 171 [zA z,zA d] [] [] (zA (z / d)):=by
 have hdv:=divmod_z hz hd h0 h
 unfold dmA at hdv
 rw [zA_nat,zA_zero,zA_eq z,zA_eq (z / d)] at hdv
 rw [zA_nat,zA_eq z,zA_eq (z / d)]
 refine BSim.run hm hX0l (S:=[eDM _ _ _ _ _]) (AllOk.mem ⟨hdv.spec0 rfl,trivial⟩) okQuo (by kernel_rfl) rfl 300 [] _ (quo_r _ _ _ _ _) ?_
 rw [gX_iff]
 exact pdec_iff.2 (zz_leaf _ _)
theorem gcd_facts (z:Int) {d:Nat} (hd:1≤d):Nat.gcd z.natAbs d≠0∧Nat.gcd z.natAbs d≤d∧z.natAbs % Nat.gcd z.natAbs d=0∧d % Nat.gcd z.natAbs d=0∧1≤d / Nat.gcd z.natAbs d∧d / Nat.gcd z.natAbs d≤d∧(z / (Nat.gcd z.natAbs d:Nat)).natAbs≤z.natAbs:=by
 have h1:0<Nat.gcd z.natAbs d:=Nat.gcd_pos_of_pos_right _ hd
 have h2:Nat.gcd z.natAbs d≤d:=Nat.gcd_le_right _ hd
 refine ⟨by omega,h2,Nat.mod_eq_zero_of_dvd (Nat.gcd_dvd_left _ _),Nat.mod_eq_zero_of_dvd (Nat.gcd_dvd_right _ _),Nat.div_pos h2 h1,Nat.div_le_self _ _,?_⟩
 have hdv:((Nat.gcd z.natAbs d:Nat):Int) ∣ z:=Int.ofNat_dvd_left.2 (Nat.gcd_dvd_left _ _)
 rw [Int.natAbs_ediv_of_dvd hdv]
 exact Nat.div_le_self _ _
theorem qN_ex (z:Int) {d:Nat} (hd:1≤d):∃ (z':Int) (d':Nat),qN z d=qA z' d'∧z'.natAbs≤z.natAbs∧1≤d'∧d'≤d:=by
 obtain ⟨h1,h2,h3,h4,h5,h6,h7⟩:=gcd_facts z hd
 exact ⟨_,_,rfl,h7,h5,h6⟩
theorem qN_one (z:Int):qN z 1=qA z 1:=by
 unfold qN
 rw [Nat.gcd_one_right];simp
theorem qN_zero {d:Nat} (hd:1≤d):qN 0 d=qA 0 1:=by
 unfold qN
 rw [show (0:Int).natAbs=0 from rfl,Nat.gcd_zero_left,Int.zero_ediv,Nat.div_self hd]
theorem can_z {z:Int} {d:Nat} (hz:z.natAbs<18446744073709551616) (hd:d<18446744073709551616) (h1:1≤d):BSim Tryz.prog 144 [zA z,zA d] [] [] (qN z d):=by
 have hg:=gcd_zz hz hd
 have hs:=sign_z (d:Int)
 rw [Int.sign_eq_one_of_pos (by omega:(0:Int)<d)] at hs
 obtain ⟨g0,g1,g2,g3,g4,g5,g6⟩:=gcd_facts z h1
 have hq1:=quo_z hz (show Nat.gcd z.natAbs d<_ by omega) g0 g2
 have hq2:=quo_z (z:=(d:Int)) (by simpa using hd) (show Nat.gcd z.natAbs d<_ by omega) g0 (by simpa using g3)
 unfold qN
 rw [← Int.natCast_ediv] at hq2
 generalize Nat.gcd z.natAbs d=g at *
 rw [zA_nat,zA_nat,zA_nat] at hq2
 rw [zA_nat] at hs
 rw [zA_nat,zA_nat,zA_eq z] at hg
 rw [zA_nat g,zA_eq z,zA_eq (z / (g:Int))] at hq1
 rw [zA_nat,zA_eq z,qA_eq]
 obtain ⟨c,l,e⟩:=mg_cons (show d≠0 by omega)
 rw [e] at hq2 hs hg ⊢
 have hS:AllOk [eSg false (c::l) 1,eGc (decide (z<0)) (mg z.natAbs) false (c::l) (mg g),eQu (decide (z<0)) (mg z.natAbs) (mg g) (decide (z / (g:Int)<0)) (mg (z / (g:Int)).natAbs),eQu false (c::l) (mg g) false (mg (d / g)),eO] :=
  ⟨hs.spec0 rfl,hg.spec0 rfl,hq1.spec0 rfl,hq2.spec0 rfl,one_c.spec0 rfl,trivial⟩
 refine BSim.run hm hX0l hS.mem okCan (by kernel_rfl) rfl 300 [] _ (can_r _ _ _ _ _ _ _ _) ?_
 simp only [gX_iff,gB_iff,and_true,true_and]
 have hsq:=seqA_iff (mg (d / g)) [1]
 refine gIf_of (fun h=>?_) (fun h=>?_)
 ·have h':mg (d / g)=[1]:=by have h2:(mg (d / g)==[1])=true:=hsq.symm.trans h;simpa using h2
  have:d / g=1:=by have:=congrArg be h';rw [mg_be] at this;simpa [be] using this
  rw [this,dm_one]
  simp only [gX_iff,gB_iff,and_true,true_and]
  exact pdec_iff.2 (rt_leaf _ _ _ _)
 ·have h':mg (d / g)≠[1]:=by intro e;have h2:(mg (d / g)==[1])=false:=hsq.symm.trans h;simp [e] at h2
  have:d / g≠1:=by intro e;rw [e,mg_one] at h';exact h' rfl
  rw [dm_ne this]
  simp only [gX_iff,gB_iff,and_true,true_and]
  exact pdec_iff.2 (rt_leaf _ _ _ _)
theorem can_e {z:Int} {d:Nat} (hz:z.natAbs<18446744073709551616) (hd:d<18446744073709551616) (h1:1≤d):∃ (z':Int) (d':Nat),qN z d=qA z' d'∧BSim Tryz.prog 144 [intA (decide (z<0)) (mg z.natAbs),intA false (mg d)] [] [] (rtA (qR z' d')):=by
 have:=can_z hz hd h1
 rw [zA_nat] at this
 exact ⟨_,_,rfl,this⟩
theorem make_z {z:Int} {d:Nat} (hz:z.natAbs<18446744073709551616) (hd:d<18446744073709551616) (h1:1≤d):BSim Tryz.prog 161 [zA z,zA d] [] [] (.tuple [qN z d,.int .i64 0]):=by
 obtain ⟨z',d',e,hc⟩:=can_e hz hd h1
 rw [e]
 have hs:=sign_z (d:Int)
 rw [Int.sign_eq_one_of_pos (by omega:(0:Int)<d),zA_nat] at hs
 rw [zA_nat,zA_eq z]
 obtain ⟨c,l,e⟩:=mg_cons (show d≠0 by omega)
 rw [e] at hs hc ⊢
 have hS:AllOk [eSg false (c::l) 1,eCan (decide (z<0)) (mg z.natAbs) (c::l) (qR z' d')]:=⟨hs.spec0 rfl,hc.spec0 rfl,trivial⟩
 refine BSim.run hm hX0l hS.mem okRMake (by kernel_rfl) rfl 300 [] _ (make_r _ _ _ _ _) ?_
 simp only [gX_iff,gB_iff,and_true,true_and]
 exact pdec_iff.2 (Leaf.flat fun _ _=>.tuple _ _ (.cons _ _ _ _ (.aggs [.bool _,.str _ _,.bool _,.str _ _]) (.cons _ _ _ _ (.plain (.int .i64 0)) .nil)))
theorem rneg_z (z:Int) (d:Nat):BSim Tryz.prog 131 [qA z d] [] [] (qA (-z) d):=by
 have hn:=neg_z z
 have e:(-z).natAbs=z.natAbs:=Int.natAbs_neg z
 rw [zA_eq z,zA_eq (-z),e] at hn
 rw [qA_eq z,qA_eq (-z),e]
 refine BSim.run hm hX0l (S:=[eNg _ _ _]) (AllOk.mem ⟨hn.spec0 rfl,trivial⟩) okRNeg (by kernel_rfl) rfl 300 [] _ (rneg_r _ _ _ _ _) ?_
 simp only [gX_iff,gB_iff,and_true,true_and]
 exact pdec_iff.2 (rt_leaf _ _ _ _)
theorem seq_refl (l:List UInt8):seqA l.length (enc l) l.length (enc l)=true:=by rw [seqA_iff];simp
theorem seq_ne {l m:List UInt8} (h:l≠m):seqA l.length (enc l) m.length (enc m)=false:=by rw [seqA_iff];simpa using h
theorem gIf_t {c x y:Bool} (hc:c=true) (h:x=true):gIf c x y=true:=by subst hc;exact h
theorem i3_leaf (n:Bool) (m:List UInt8) (n':Bool) (m':List UInt8) (n'':Bool) (m'':List UInt8) {π:List Nat} {bs:List (Option Blk)}:Leaf 0 π [] (.tuple [intA n m,intA n' m',intA n'' m'']) (.tuple [.agg [.bool n,strA m],.agg [.bool n',strA m'],.agg [.bool n'',strA m'']]) bs :=
 Leaf.flat fun _ _=>.tuple _ _ (.cons _ _ _ _ (.aggs [.bool n,.str _ _]) (.cons _ _ _ _ (.aggs [.bool n',.str _ _]) (.cons _ _ _ _ (.aggs [.bool n'',.str _ _]) .nil)))
def crA (z w:Int) (d e:Nat):AV:=if d=e then .tuple [zA z,zA w,zA d] else .tuple [zA (z*e),zA (w*d),zA (d*e:Nat)]
theorem cross_eq (z w:Int) {d:Nat} (h1:1≤d):BSim Tryz.prog 143 [qA z d,qA w d] [] [] (.tuple [zA z,zA w,zA d]):=by
 have hd:=den_z z h1
 rw [zA_nat,qA_eq] at hd
 rw [qA_eq,qA_eq,zA_eq z,zA_eq w,zA_nat]
 have hz:SSpec Tryz.prog (eZm false [] false [] false []).1 (eZm false [] false [] false []).2:=by
  have:=mul_z (z:=0) (w:=0) (by decide) (by decide)
  rw [Int.mul_zero,zA_zero] at this
  exact this.spec0 rfl
 refine BSim.run hm hX0l (S:=[eDen _ _ _,eZm false [] false [] false []]) (AllOk.mem ⟨hd.spec0 rfl,hz,trivial⟩) okCross (by kernel_rfl) rfl 300 [] _ (cross_e _ _ _ _ _ _) ?_
 refine gIf_t (seq_refl _) ?_
 simp only [gX_iff,gB_iff,and_true,true_and]
 exact pdec_iff.2 (i3_leaf _ _ _ _ _ _)
theorem zmul_e {z w:Int} (hz:z.natAbs<4294967296) (hw:w.natAbs<4294967296):SSpec Tryz.prog (eZm (decide (z<0)) (mg z.natAbs) (decide (w<0)) (mg w.natAbs) (decide (z*w<0)) (mg (z*w).natAbs)).1 (eZm (decide (z<0)) (mg z.natAbs) (decide (w<0)) (mg w.natAbs) (decide (z*w<0)) (mg (z*w).natAbs)).2:=(mul_z hz hw).spec0 rfl
theorem zmul_d {z:Int} {d:Nat} (hz:z.natAbs<4294967296) (hd:d<4294967296):SSpec Tryz.prog (eZm (decide (z<0)) (mg z.natAbs) false (mg d) (decide (z*d<0)) (mg (z*d).natAbs)).1 (eZm (decide (z<0)) (mg z.natAbs) false (mg d) (decide (z*d<0)) (mg (z*d).natAbs)).2:=by
 have:=mul_z (z:=z) (w:=d) hz (by simpa using hd)
 rw [zA_nat] at this
 exact this.spec0 rfl
theorem zmul_dd {d e:Nat} (hd:d<4294967296) (he:e<4294967296):SSpec Tryz.prog (eZm false (mg d) false (mg e) false (mg (d*e))).1 (eZm false (mg d) false (mg e) false (mg (d*e))).2:=by
 have:=mul_z (z:=d) (w:=e) (by simpa using hd) (by simpa using he)
 rw [← Int.natCast_mul,zA_nat,zA_nat,zA_nat] at this
 exact this.spec0 rfl
theorem zmul_dz {w:Int} {d:Nat} (hd:d<4294967296) (hw:w.natAbs<4294967296) (h0:0<w):SSpec Tryz.prog (eZm false (mg d) (decide (w<0)) (mg w.natAbs) false (mg (d*w.natAbs))).1 (eZm false (mg d) (decide (w<0)) (mg w.natAbs) false (mg (d*w.natAbs))).2:=by
 rw [decide_eq_false (show ¬ w<0 by omega)]
 exact zmul_dd hd hw
theorem cross_ne (z w:Int) {d e:Nat} (h1:1≤d) (h2:1≤e) (hne:d≠e) (hz:z.natAbs<4294967296) (hw:w.natAbs<4294967296) (hd:d<4294967296) (he:e<4294967296) :
  BSim Tryz.prog 143 [qA z d,qA w e] [] [] (.tuple [zA (z*e),zA (w*d),zA (d*e:Nat)]):=by
 have hd1:=den_z z h1
 have hd2:=den_z w h2
 rw [zA_nat,qA_eq] at hd1 hd2
 rw [qA_eq,qA_eq,zA_eq (z*e),zA_eq (w*d),zA_nat]
 have d1:=hd1.spec0 rfl
 have d2:=hd2.spec0 rfl
 refine BSim.run hm hX0l (S:=[eDen _ _ _,eZm _ _ _ _ _ _,eDen _ _ _,eZm _ _ _ _ _ _,eDen _ _ _,eDen _ _ _,eZm _ _ _ _ _ _]) (AllOk.mem ⟨d2,zmul_d hz he,d1,zmul_d hw hd,d1,d2,zmul_dd hd he,trivial⟩) okCross (by kernel_rfl) rfl 300 [] _ (cross_n _ _ _ _ _ _ _ _ _ _ _ _ _) ?_
 refine gIf_f (seq_ne fun h=>hne (dm_inj h1 h2 h)) ?_
 simp only [gX_iff,gB_iff,and_true,true_and]
 exact pdec_iff.2 (i3_leaf _ _ _ _ _ _)
def sumN (z w:Int) (d e:Nat):Int:=if d=e then z+w else z*e+w*d
def sumD (d e:Nat):Nat:=if d=e then d else d*e
theorem natAbs_mul_le {z:Int} {d p q:Nat} (hz:z.natAbs≤p) (hd:d≤q):(z*d).natAbs≤p*q:=by
 rw [Int.natAbs_mul];exact Nat.mul_le_mul hz (by simpa using hd)
theorem sumD_pos {d e:Nat} (h1:1≤d) (h2:1≤e):1≤sumD d e:=by
 unfold sumD;split
 ·exact h1
 ·exact Nat.mul_pos h1 h2
theorem radd_z {z w:Int} {d e:Nat} (h1:1≤d) (h2:1≤e) (hz:z.natAbs<2147483648) (hw:w.natAbs<2147483648) (hd:d<2147483648) (he:e<2147483648) :
  BSim Tryz.prog 112 [qA z d,qA w e] [] [] (qN (sumN z w d e) (sumD d e)):=by
 have key:∀ (x y:Int) (k:Nat),x.natAbs≤4611686018427387904→y.natAbs≤4611686018427387904→k≤4611686018427387904→1≤k→BSim Tryz.prog 143 [qA z d,qA w e] [] [] (.tuple [zA x,zA y,zA k])→BSim Tryz.prog 112 [qA z d,qA w e] [] [] (qN (x+y) k):=by
  intro x y k hx hy hk hk1 hc
  have hs:(x+y).natAbs≤x.natAbs+y.natAbs:=Int.natAbs_add_le _ _
  obtain ⟨z',d',e',hcan⟩:=can_e (z:=x+y) (d:=k) (by omega) (by omega) hk1
  have ha:=add_z (z:=x) (w:=y) (by omega)
  rw [e']
  rw [zA_eq x,zA_eq y,zA_nat] at hc
  rw [zA_eq x,zA_eq y,zA_eq (x+y)] at ha
  refine BSim.run hm hX0l (S:=[eCr (qR z d) (qR w e) _ _ _ _ _,eZa _ _ _ _ _ _,eCan _ _ _ (qR z' d')]) (AllOk.mem ⟨hc.spec0 rfl,ha.spec0 rfl,hcan.spec0 rfl,trivial⟩) okRAdd (by kernel_rfl) rfl 300 [] _ (radd_r _ _ _ _ _ _ _ _ _ _) ?_
  simp only [gX_iff,gB_iff,and_true,true_and]
  exact pdec_iff.2 (rt_leaf _ _ _ _)
 unfold sumN sumD
 by_cases hne:d=e
 ·subst hne
  rw [if_pos rfl,if_pos rfl]
  exact key z w d (by omega) (by omega) (by omega) h1 (cross_eq z w h1)
 ·rw [if_neg hne,if_neg hne]
  have m1:=natAbs_mul_le (z:=z) (d:=e) (p:=2147483647) (q:=2147483647) (by omega) (by omega)
  have m2:=natAbs_mul_le (z:=w) (d:=d) (p:=2147483647) (q:=2147483647) (by omega) (by omega)
  have m3:d*e≤2147483647*2147483647:=Nat.mul_le_mul (by omega) (by omega)
  exact key _ _ (d*e) (by omega) (by omega) (by omega) (Nat.mul_pos h1 h2) (cross_ne z w h1 h2 hne (by omega) (by omega) (by omega) (by omega))
theorem rsub_z {z w:Int} {d e:Nat} (h1:1≤d) (h2:1≤e) (hz:z.natAbs<2147483648) (hw:w.natAbs<2147483648) (hd:d<2147483648) (he:e<2147483648) :
  BSim Tryz.prog 135 [qA z d,qA w e] [] [] (qN (sumN z (-w) d e) (sumD d e)):=by
 have ha:=radd_z (z:=z) (w:=-w) h1 h2 hz (by simpa using hw) hd he
 have hn:=rneg_z w e
 obtain ⟨z',d',e',_,_,_⟩:=qN_ex (sumN z (-w) d e) (sumD_pos h1 h2)
 rw [e'] at ha ⊢
 refine BSim.run hm hX0l (S:=[eQn (qR w e) (qR (-w) e),eQa (qR z d) (qR (-w) e) (qR z' d')]) (AllOk.mem ⟨hn.spec0 rfl,ha.spec0 rfl,trivial⟩) okRSub (by kernel_rfl) rfl 300 [] _ (rsub_r _ _ _ _) ?_
 simp only [gX_iff,gB_iff,and_true,true_and]
 exact pdec_iff.2 (rt_leaf _ _ _ _)
theorem mul_bound {x y:Nat} (hx:x<2147483648) (hy:y<2147483648):x*y≤4611686014132420609:=by
 have:x*y≤2147483647*2147483647:=Nat.mul_le_mul (by omega) (by omega)
 omega
theorem rmul_z {z w:Int} {d e:Nat} (h1:1≤d) (h2:1≤e) (hz:z.natAbs<2147483648) (hw:w.natAbs<2147483648) (hd:d<2147483648) (he:e<2147483648) :
  BSim Tryz.prog 137 [qA z d,qA w e] [] [] (qN (z*w) (d*e)):=by
 have hd1:=den_z z h1
 have hd2:=den_z w h2
 rw [zA_nat,qA_eq] at hd1 hd2
 have b1:(z*w).natAbs≤4611686014132420609:=by rw [Int.natAbs_mul];exact mul_bound hz hw
 have b2:=mul_bound hd he
 obtain ⟨z',d',e',hcan⟩:=can_e (z:=z*w) (d:=d*e) (by omega) (by omega) (Nat.mul_pos h1 h2)
 rw [e',qA_eq,qA_eq]
 refine BSim.run hm hX0l (S:=[eZm _ _ _ _ _ _,eDen _ _ _,eDen _ _ _,eZm _ _ _ _ _ _,eCan _ _ _ (qR z' d')]) (AllOk.mem ⟨zmul_e (by omega) (by omega),hd1.spec0 rfl,hd2.spec0 rfl,zmul_dd (by omega) (by omega),hcan.spec0 rfl,trivial⟩) okRMul (by kernel_rfl) rfl 300 [] _ (rmul_r _ _ _ _ _ _ _ _ _ _ _ _) ?_
 simp only [gX_iff,gB_iff,and_true,true_and]
 exact pdec_iff.2 (rt_leaf _ _ _ _)
theorem rdiv_z {z w:Int} {d e:Nat} (h1:1≤d) (h2:1≤e) (hz:z.natAbs<2147483648) (hw:w.natAbs<2147483648) (hd:d<2147483648) (he:e<2147483648) (h0:0<w) :
  BSim Tryz.prog 134 [qA z d,qA w e] [] [] (.tuple [qN (z*e) (d*w.natAbs),.int .i64 0]):=by
 have hd1:=den_z z h1
 have hd2:=den_z w h2
 rw [zA_nat,qA_eq] at hd1 hd2
 have b1:(z*e).natAbs≤4611686014132420609:=by rw [Int.natAbs_mul];exact mul_bound hz (by simpa using he)
 have b2:=mul_bound hd hw
 have hp:1≤d*w.natAbs:=Nat.mul_pos h1 (by omega)
 have hmk:=make_z (z:=z*e) (d:=d*w.natAbs) (by omega) (by omega) hp
 obtain ⟨z',d',e',_,_,_⟩:=qN_ex (z*e) hp
 rw [e'] at hmk ⊢
 rw [zA_nat,zA_eq (z*e)] at hmk
 rw [qA_eq z,qA_eq w]
 refine BSim.run hm hX0l (S:=[eDen _ _ _,eZm _ _ _ _ _ _,eDen _ _ _,eZm _ _ _ _ _ _,eMk _ _ _ (qR z' d')]) (AllOk.mem ⟨hd2.spec0 rfl,zmul_d (by omega) (by omega),hd1.spec0 rfl,zmul_dz (by omega) (by omega) h0,hmk.spec0 rfl,trivial⟩) okRDiv (by kernel_rfl) rfl 300 [] _ (rdiv_r _ _ _ _ _ _ _ _ _ _ _ _) ?_
 simp only [gX_iff,gB_iff,and_true,true_and]
 exact pdec_iff.2 (Leaf.flat fun _ _=>.tuple _ _ (.cons _ _ _ _ (.aggs [.bool _,.str _ _,.bool _,.str _ _]) (.cons _ _ _ _ (.plain (.int .i64 0)) .nil)))
theorem fi_z {n:Int} (h:n.natAbs<9223372036854775808):BSim Tryz.prog 133 [.int .i64 n] [] [] (zA n):=by
 cases n with
 | ofNat n =>
  have h:n<9223372036854775808:=h
  have hm0:=mg_z n (by omega)
  have hmd:=eMd_ok false n
  have e:zA (Int.ofNat n)=intA false (mg n):=zA_nat n
  rw [e]
  refine BSim.run hm hX0l (S:=[eMgz (IntKind.u64.wrap (.ofNat n)) (mg n),eMd false (mg n) false]) (AllOk.mem ⟨by rw [wrapU64 n (by omega)];exact hm0.spec0 rfl,hmd,trivial⟩) okFromInt (by kernel_rfl) rfl 300 [] _ (fi_p _ _ _) ?_
  simp only [gX_iff,gB_iff,and_true,true_and]
  exact pdec_iff.2 (zz_leaf _ _)
 | negSucc n =>
  have h:n+1<9223372036854775808:=h
  have e:zA (Int.negSucc n)=intA true (mg (n+1)):=by
   have:=zA_neg' (n:=n+1) (by omega)
   exact this
  have e2:IntKind.u64.wrap (Int.neg (IntKind.u64.wrap (.negSucc n)))=.ofNat (n+1):=by
   have a1:IntKind.u64.wrap (.negSucc n)=.ofNat (18446744073709551616-(n+1)):=by
    simp [IntKind.wrap,IntKind.bits,IntKind.signed];omega
   rw [a1]
   have a2:Int.neg (Int.ofNat (18446744073709551616-(n+1)))=.negSucc (18446744073709551616-(n+1)-1):=by
    obtain ⟨m,hm1⟩:∃ m,18446744073709551616-(n+1)=m+1:=⟨18446744073709551616-(n+1)-1,by omega⟩
    rw [hm1];rfl
   rw [a2]
   simp [IntKind.wrap,IntKind.bits,IntKind.signed];omega
  have hm0:=mg_z (n+1) (by omega)
  have hmd:=eMd_ok true (n+1)
  have e3:(true&&decide (n+1≠0))=true:=by simp
  rw [e3] at hmd
  rw [e]
  refine BSim.run hm hX0l (S:=[eMgz (IntKind.u64.wrap (Int.neg (IntKind.u64.wrap (.negSucc n)))) (mg (n+1)),eMd true (mg (n+1)) true]) (AllOk.mem ⟨by rw [e2];exact hm0.spec0 rfl,hmd,trivial⟩) okFromInt (by kernel_rfl) rfl 300 [] _ (fi_m _ _ _) ?_
  simp only [gX_iff,gB_iff,and_true,true_and]
  exact pdec_iff.2 (zz_leaf _ _)
theorem rfi_z {n:Int} (h:n.natAbs<9223372036854775808):BSim Tryz.prog 107 [.int .i64 n] [] [] (qA n 1):=by
 have hf:=fi_z h
 rw [zA_eq] at hf
 rw [qA_eq,dm_one]
 refine BSim.run hm hX0l (S:=[eFI _ _ _]) (AllOk.mem ⟨hf.spec0 rfl,trivial⟩) okRFromInt (by kernel_rfl) rfl 300 [] _ (rfi_r _ _ _) ?_
 simp only [gX_iff,gB_iff,and_true,true_and]
 exact pdec_iff.2 (rt_leaf _ _ false [])
theorem rsg_z (z:Int) (d:Nat):BSim Tryz.prog 187 [qA z d] [] [] (.int .i64 z.sign):=by
 have hs:=sign_z z
 rw [zA_eq] at hs
 rw [qA_eq]
 refine BSim.run hm hX0l (S:=[eSg _ _ _]) (AllOk.mem ⟨hs.spec0 rfl,trivial⟩) okRSign (by kernel_rfl) rfl 300 [] _ (rsg_r _ _ _ _ _) ?_
 simp only [gX_iff,gB_iff,and_true,true_and]
 exact pdec_iff.2 (iL_leaf _)
end
end
end Go.Proofs.YtodjhpjcgggamaaGreatDoor

namespace Go.Proofs.YtodjhpjcgggamaaGreatDoor
open Go Go.Eng Go.Vi Go.Knuth
noncomputable section
def tR (m:List UInt8):Rt:=⟨false,m,false,[]⟩
def rOne:Rt:=⟨false,[1],false,[]⟩
def rMone:Rt:=⟨true,[1],false,[]⟩
def realD (r:Rt):List Dat:=rtD r++rtD Rt.zero++[.bool false]
def realA (r:Rt):AV:=.agg (toAVs (realD r))
def qd (a b c:Rt):AV:=.agg (toAVs (rtD a++rtD b++rtD c))
structure Ln where
 x0:Rt
 x1:Rt
 y0:Rt
 y1:Rt
def lnD (f:Ln):List Dat:=rtD f.x0++rtD f.x1++rtD f.y0++rtD f.y1
def lnA (f:Ln):AV:=.agg (toAVs (lnD f))
structure Iv where
 a:List UInt8
 b:List UInt8
 ao:Bool
 bo:Bool
def ivD (i:Iv):List Dat:=realD (tR i.a)++realD (tR i.b)++[.bool i.ao,.bool i.bo]
def ivA (i:Iv):AV:=.agg (toAVs (ivD i))
def ptA (x y:Rt):AV:=.agg (toAVs (rtD x++rtD y))
def smA (t x y:Rt):AV:=.agg (toAVs (rtD t++rtD x++rtD y))
section
local instance : Go.Eng.Mode := Sl
def eRS (r s u:Rt):FuncId × SEnt:=(135,⟨[rtA r,rtA s],[],rtA u⟩)
def eRM (r s u:Rt):FuncId × SEnt:=(137,⟨[rtA r,rtA s],[],rtA u⟩)
def eRD (r s u:Rt):FuncId × SEnt:=(134,⟨[rtA r,rtA s],[],.tuple [rtA u,.int .i64 0]⟩)
def eRI (n:Int) (r:Rt):FuncId × SEnt:=(107,⟨[.int .i64 n],[],rtA r⟩)
def eEv (a b c t v:Rt):FuncId × SEnt:=(240,⟨[qd a b c,rtA t],[],rtA v⟩)
def eQS (a b c a' b' c' a2 b2 c2:Rt):FuncId × SEnt:=(242,⟨[qd a b c,qd a' b' c'],[],qd a2 b2 c2⟩)
def eRed (a b c t a2 b2 c2:Rt):FuncId × SEnt:=(236,⟨[qd a b c,realA t],[],qd a2 b2 c2⟩)
def eSmp (a b c a' b' c' t:Rt):FuncId × SEnt:=(237,⟨[qd a b c,qd a' b' c',realA t],[],.bool true⟩)
def eFac (r:Rt):FuncId × SEnt:=(185,⟨[realA r],[],rtA rOne⟩)
def eSgn (a b r:Rt) (e:Int):FuncId × SEnt:=(186,⟨[rtA a,rtA b,rtA r],[],.int .i64 e⟩)
def eRC (a b:Rt) (e:Int):FuncId × SEnt:=(169,⟨[realA a,realA b],[],.int .i64 e⟩)
def eBt (t v u w c s:Rt):FuncId × SEnt:=(108,⟨[rtA t,rtA v,rtA u,rtA w],[],.tuple [qd c s Rt.zero,.int .i64 0]⟩)
theorem okBetween:FnOk Tryz.prog 108 Tryz.f108:=⟨Tryz.func108,by kernel_rfl,by kernel_rfl⟩
theorem okQSub:FnOk Tryz.prog 242 Tryz.f242:=⟨Tryz.func242,by kernel_rfl,by kernel_rfl⟩
theorem okEval:FnOk Tryz.prog 240 Tryz.f240:=⟨Tryz.func240,by kernel_rfl,by kernel_rfl⟩
theorem okReduce:FnOk Tryz.prog 236 Tryz.f236:=⟨Tryz.func236,by kernel_rfl,by kernel_rfl⟩
theorem okSame:FnOk Tryz.prog 237 Tryz.f237:=⟨Tryz.func237,by kernel_rfl,by kernel_rfl⟩
theorem okLSame:FnOk Tryz.prog 234 Tryz.f234:=⟨Tryz.func234,by kernel_rfl,by kernel_rfl⟩
theorem okLReduce:FnOk Tryz.prog 233 Tryz.f233:=⟨Tryz.func233,by kernel_rfl,by kernel_rfl⟩
theorem okLEqual:FnOk Tryz.prog 232 Tryz.f232:=⟨Tryz.func232,by kernel_rfl,by kernel_rfl⟩
theorem okFactor:FnOk Tryz.prog 185 Tryz.f185:=⟨Tryz.func185,by kernel_rfl,by kernel_rfl⟩
theorem okRSgn:FnOk Tryz.prog 186 Tryz.f186:=⟨Tryz.func186,by kernel_rfl,by kernel_rfl⟩
theorem okRCmp:FnOk Tryz.prog 169 Tryz.f169:=⟨Tryz.func169,by kernel_rfl,by kernel_rfl⟩
theorem okFromRat:FnOk Tryz.prog 61 Tryz.f61:=⟨Tryz.func61,by kernel_rfl,by kernel_rfl⟩
theorem okRealInt:FnOk Tryz.prog 65 Tryz.f65:=⟨Tryz.func65,by kernel_rfl,by kernel_rfl⟩
theorem okInstant:FnOk Tryz.prog 141 Tryz.f141:=⟨Tryz.func141,by kernel_rfl,by kernel_rfl⟩
theorem okApart:FnOk Tryz.prog 139 Tryz.f139:=⟨Tryz.func139,by kernel_rfl,by kernel_rfl⟩
theorem okThrough:FnOk Tryz.prog 62 Tryz.f62:=⟨Tryz.func62,by kernel_rfl,by kernel_rfl⟩
theorem okStill:FnOk Tryz.prog 63 Tryz.f63:=⟨Tryz.func63,by kernel_rfl,by kernel_rfl⟩
theorem okSample:FnOk Tryz.prog 60 Tryz.f60:=⟨Tryz.func60,by kernel_rfl,by kernel_rfl⟩
theorem okPAdd:FnOk Tryz.prog 67 Tryz.f67:=⟨Tryz.func67,by kernel_rfl,by kernel_rfl⟩
theorem between_r (t v u w a b s m c:Rt) (I:AK):runF Tryz.f108 [eRS w v a,eRS u t b,eRD a b s,eRM s t m,eRS v m c] [rtA t,rtA v,rtA u,rtA w] I=gX ((eRS w v a).snd.args) (gX ((eRS u t b).snd.args) (gX ((eRD a b s).snd.args) (gB (gB (gB (gX (Go.Eng.AV.agg [Go.Eng.AV.bool t.neg,strA t.mag,Go.Eng.AV.bool t.dneg,strA t.dmag]) true) true) (gB (gB (gX (Go.Eng.AV.agg [Go.Eng.AV.bool u.neg,strA u.mag,Go.Eng.AV.bool u.dneg,strA u.dmag]) true) true) true)) (gX ((eRM s t m).snd.args) (gX ((eRS v m c).snd.args) (gB (gB (gB (gX (Go.Eng.AV.agg [Go.Eng.AV.bool s.neg,strA s.mag,Go.Eng.AV.bool s.dneg,strA s.dmag]) true) (gB (gX (Go.Eng.AV.agg [Go.Eng.AV.bool s.neg,strA s.mag,Go.Eng.AV.bool s.dneg,strA s.dmag]) true) true)) (gB (gB (gX (Go.Eng.AV.agg [Go.Eng.AV.bool v.neg,strA v.mag,Go.Eng.AV.bool v.dneg,strA v.dmag]) true) true) true)) (I (Go.Eng.AV.tuple [Go.Eng.AV.agg [Go.Eng.AV.bool c.neg,strA c.mag,Go.Eng.AV.bool c.dneg,strA c.dmag,Go.Eng.AV.bool s.neg,strA s.mag,Go.Eng.AV.bool s.dneg,strA s.dmag,Go.Eng.AV.bool false,Go.Eng.AV.str 0 0,Go.Eng.AV.bool false,Go.Eng.AV.str 0 0],Go.Eng.AV.int .i64 0]) []))))))):=by kernel_rfl
theorem qsub_r (p0 p1 p2 q0 q1 q2 a b c:Rt) (I:AK):runF Tryz.f242 [eRS p0 q0 a,eRS p1 q1 b,eRS p2 q2 c] [qd p0 p1 p2,qd q0 q1 q2] I=gX ((eRS p0 q0 a).snd.args) (gX ((eRS p1 q1 b).snd.args) (gX ((eRS p2 q2 c).snd.args) (gB (gB (gB (gX (Go.Eng.AV.agg [Go.Eng.AV.bool q2.neg,strA q2.mag,Go.Eng.AV.bool q2.dneg,strA q2.dmag]) true) (gB (gX (Go.Eng.AV.agg [Go.Eng.AV.bool q2.neg,strA q2.mag,Go.Eng.AV.bool q2.dneg,strA q2.dmag]) true) true)) (gB (gB (gX (Go.Eng.AV.agg [Go.Eng.AV.bool p2.neg,strA p2.mag,Go.Eng.AV.bool p2.dneg,strA p2.dmag]) true) (gB (gX (Go.Eng.AV.agg [Go.Eng.AV.bool p2.neg,strA p2.mag,Go.Eng.AV.bool p2.dneg,strA p2.dmag]) true) true)) (gB (gB (gX (Go.Eng.AV.agg [Go.Eng.AV.bool q1.neg,strA q1.mag,Go.Eng.AV.bool q1.dneg,strA q1.dmag]) true) true) (gB (gB (gX (Go.Eng.AV.agg [Go.Eng.AV.bool p1.neg,strA p1.mag,Go.Eng.AV.bool p1.dneg,strA p1.dmag]) true) true) true)))) (I (Go.Eng.AV.agg [Go.Eng.AV.bool a.neg,strA a.mag,Go.Eng.AV.bool a.dneg,strA a.dmag,Go.Eng.AV.bool b.neg,strA b.mag,Go.Eng.AV.bool b.dneg,strA b.dmag,Go.Eng.AV.bool c.neg,strA c.mag,Go.Eng.AV.bool c.dneg,strA c.dmag]) [])))):=by kernel_rfl
theorem eval_r (c0 c1 c2 t a b c d:Rt) (I:AK):runF Tryz.f240 [eRM t c2 a,eQa c1 a b,eRM t b c,eQa c0 c d] [qd c0 c1 c2,rtA t] I=gX ((eRM t c2 a).snd.args) (gX ((eQa c1 a b).snd.args) (gX ((eRM t b c).snd.args) (gX ((eQa c0 c d).snd.args) (gB (gB (gB (gX (Go.Eng.AV.agg [Go.Eng.AV.bool c1.neg,strA c1.mag,Go.Eng.AV.bool c1.dneg,strA c1.dmag]) true) true) (gB (gB (gX (Go.Eng.AV.agg [Go.Eng.AV.bool t.neg,strA t.mag,Go.Eng.AV.bool t.dneg,strA t.dmag]) true) (gB (gX (Go.Eng.AV.agg [Go.Eng.AV.bool t.neg,strA t.mag,Go.Eng.AV.bool t.dneg,strA t.dmag]) true) true)) (gB (gB (gX (Go.Eng.AV.agg [Go.Eng.AV.bool c0.neg,strA c0.mag,Go.Eng.AV.bool c0.dneg,strA c0.dmag]) true) (gB (gX (Go.Eng.AV.agg [Go.Eng.AV.bool c0.neg,strA c0.mag,Go.Eng.AV.bool c0.dneg,strA c0.dmag]) true) (gB (gX (Go.Eng.AV.agg [Go.Eng.AV.bool c0.neg,strA c0.mag,Go.Eng.AV.bool c0.dneg,strA c0.dmag]) true) true))) true))) (I (Go.Eng.AV.agg [Go.Eng.AV.bool d.neg,strA d.mag,Go.Eng.AV.bool d.dneg,strA d.dmag]) []))))):=by kernel_rfl
theorem reduce_r (c0 c1 c2 t v:Rt) (I:AK):runF Tryz.f236 [eEv c0 c1 c2 t v] [qd c0 c1 c2,realA t] I=gX ((eEv c0 c1 c2 t v).snd.args) (I (Go.Eng.AV.agg [Go.Eng.AV.bool v.neg,strA v.mag,Go.Eng.AV.bool v.dneg,strA v.dmag,Go.Eng.AV.bool false,Go.Eng.AV.str 0 0,Go.Eng.AV.bool false,Go.Eng.AV.str 0 0,Go.Eng.AV.bool false,Go.Eng.AV.str 0 0,Go.Eng.AV.bool false,Go.Eng.AV.str 0 0]) []):=by kernel_rfl
theorem same_r (p0 p1 p2 q0 q1 q2 t:Rt) (I:AK):runF Tryz.f237 [eQS p0 p1 p2 q0 q1 q2 Rt.zero Rt.zero Rt.zero,eRed Rt.zero Rt.zero Rt.zero t Rt.zero Rt.zero Rt.zero] [qd p0 p1 p2,qd q0 q1 q2,realA t] I=gX ((eQS p0 p1 p2 q0 q1 q2 Rt.zero Rt.zero Rt.zero).snd.args) (gX ((eRed Rt.zero Rt.zero Rt.zero t Rt.zero Rt.zero Rt.zero).snd.args) (gB (gB (gB (gX (Go.Eng.AV.agg [Go.Eng.AV.bool t.neg,strA t.mag,Go.Eng.AV.bool t.dneg,strA t.dmag,Go.Eng.AV.bool false,strA [],Go.Eng.AV.bool false,strA [],Go.Eng.AV.bool false]) true) true) true) (I (Go.Eng.AV.bool true) []))):=by kernel_rfl
theorem lsame_r (f g:Ln) (t:Rt) (I:AK):runF Tryz.f234 [eSmp f.x0 f.x1 Rt.zero g.x0 g.x1 Rt.zero t,eSmp f.y0 f.y1 Rt.zero g.y0 g.y1 Rt.zero t] [.agg [],lnA f,lnA g,realA t] I=gB (gB (gB (gX (Go.Eng.AV.agg [Go.Eng.AV.bool f.y1.neg,strA f.y1.mag,Go.Eng.AV.bool f.y1.dneg,strA f.y1.dmag]) true) true) (gB (gB (gX (Go.Eng.AV.agg [Go.Eng.AV.bool f.y0.neg,strA f.y0.mag,Go.Eng.AV.bool f.y0.dneg,strA f.y0.dmag]) true) true) true)) (gB (gB (gB (gX (Go.Eng.AV.agg [Go.Eng.AV.bool g.y1.neg,strA g.y1.mag,Go.Eng.AV.bool g.y1.dneg,strA g.y1.dmag]) true) true) (gB (gB (gX (Go.Eng.AV.agg [Go.Eng.AV.bool g.y0.neg,strA g.y0.mag,Go.Eng.AV.bool g.y0.dneg,strA g.y0.dmag]) true) true) true)) (gX ((eSmp f.x0 f.x1 Rt.zero g.x0 g.x1 Rt.zero t).snd.args) (gX ((eSmp f.y0 f.y1 Rt.zero g.y0 g.y1 Rt.zero t).snd.args) (I (Go.Eng.AV.bool true) [])))):=by kernel_rfl
theorem lreduce_r (f:Ln) (t a b:Rt) (I:AK):runF Tryz.f233 [eRed f.x0 f.x1 Rt.zero t a Rt.zero Rt.zero,eRed f.y0 f.y1 Rt.zero t b Rt.zero Rt.zero] [.agg [],lnA f,realA t] I=gB (gB (gB (gX (Go.Eng.AV.agg [Go.Eng.AV.bool f.y1.neg,strA f.y1.mag,Go.Eng.AV.bool f.y1.dneg,strA f.y1.dmag]) true) true) (gB (gB (gX (Go.Eng.AV.agg [Go.Eng.AV.bool f.y0.neg,strA f.y0.mag,Go.Eng.AV.bool f.y0.dneg,strA f.y0.dmag]) true) true) true)) (gX ((eRed f.x0 f.x1 Rt.zero t a Rt.zero Rt.zero).snd.args) (gX ((eRed f.y0 f.y1 Rt.zero t b Rt.zero Rt.zero).snd.args) (gB (gB (gB (gX (Go.Eng.AV.agg [Go.Eng.AV.bool t.neg,strA t.mag,Go.Eng.AV.bool t.dneg,strA t.dmag,Go.Eng.AV.bool false,strA [],Go.Eng.AV.bool false,strA [],Go.Eng.AV.bool false]) true) true) (gB (gB (gX (Go.Eng.AV.agg [Go.Eng.AV.bool f.y0.neg,strA f.y0.mag,Go.Eng.AV.bool f.y0.dneg,strA f.y0.dmag,Go.Eng.AV.bool f.y1.neg,strA f.y1.mag,Go.Eng.AV.bool f.y1.dneg,strA f.y1.dmag,Go.Eng.AV.bool false,Go.Eng.AV.str 0 0,Go.Eng.AV.bool false,Go.Eng.AV.str 0 0]) true) true) true)) (I (Go.Eng.AV.agg [Go.Eng.AV.bool a.neg,strA a.mag,Go.Eng.AV.bool a.dneg,strA a.dmag,Go.Eng.AV.bool false,strA [],Go.Eng.AV.bool false,strA [],Go.Eng.AV.bool b.neg,strA b.mag,Go.Eng.AV.bool b.dneg,strA b.dmag,Go.Eng.AV.bool false,strA [],Go.Eng.AV.bool false,strA []]) [])))):=by kernel_rfl
theorem lequal_r (f g:Ln) (I:AK):runF Tryz.f232 [] [.agg [],lnA f,lnA g] I=(gIf (gIf (f.x0.1) (g.x0.1) (gIf (g.x0.1) false true)) (gIf (seqA f.x0.mag.length (enc f.x0.mag) g.x0.mag.length (enc g.x0.mag)) (gIf (gIf (f.x0.3) (g.x0.3) (gIf (g.x0.3) false true)) (gIf (seqA f.x0.dmag.length (enc f.x0.dmag) g.x0.dmag.length (enc g.x0.dmag)) (gIf (gIf (f.x1.1) (g.x1.1) (gIf (g.x1.1) false true)) (gIf (seqA f.x1.mag.length (enc f.x1.mag) g.x1.mag.length (enc g.x1.mag)) (gIf (gIf (f.x1.3) (g.x1.3) (gIf (g.x1.3) false true)) (gIf (seqA f.x1.dmag.length (enc f.x1.dmag) g.x1.dmag.length (enc g.x1.dmag)) (gIf (gIf (f.y0.1) (g.y0.1) (gIf (g.y0.1) false true)) (gIf (seqA f.y0.mag.length (enc f.y0.mag) g.y0.mag.length (enc g.y0.mag)) (gIf (gIf (f.y0.3) (g.y0.3) (gIf (g.y0.3) false true)) (gIf (seqA f.y0.dmag.length (enc f.y0.dmag) g.y0.dmag.length (enc g.y0.dmag)) (gIf (gIf (f.y1.1) (g.y1.1) (gIf (g.y1.1) false true)) (gIf (seqA f.y1.mag.length (enc f.y1.mag) g.y1.mag.length (enc g.y1.mag)) (gIf (gIf (f.y1.3) (g.y1.3) (gIf (g.y1.3) false true)) (gIf (seqA f.y1.dmag.length (enc f.y1.dmag) g.y1.dmag.length (enc g.y1.dmag)) (I (Go.Eng.AV.bool true) []) (I (Go.Eng.AV.bool false) [])) (I (Go.Eng.AV.bool false) [])) (I (Go.Eng.AV.bool false) [])) (I (Go.Eng.AV.bool false) [])) (I (Go.Eng.AV.bool false) [])) (I (Go.Eng.AV.bool false) [])) (I (Go.Eng.AV.bool false) [])) (I (Go.Eng.AV.bool false) [])) (I (Go.Eng.AV.bool false) [])) (I (Go.Eng.AV.bool false) [])) (I (Go.Eng.AV.bool false) [])) (I (Go.Eng.AV.bool false) [])) (I (Go.Eng.AV.bool false) [])) (I (Go.Eng.AV.bool false) [])) (I (Go.Eng.AV.bool false) [])) (I (Go.Eng.AV.bool false) [])):=by kernel_rfl
theorem factor_r (r:Rt) (I:AK):runF Tryz.f185 [eRI 1 rOne] [realA r] I=gX ((eRI 1 rOne).snd.args) (I (Go.Eng.AV.agg [Go.Eng.AV.bool false,strA [1],Go.Eng.AV.bool false,strA []]) []):=by kernel_rfl
theorem rsgn_r (a b r:Rt) (e:Int) (I:AK):runF Tryz.f186 [eQs a e,eQs b 1,eQs r 0] [rtA a,rtA b,rtA r] I=gX ((eQs a e).snd.args) (gX ((eQs b 1).snd.args) (gX ((eQs r 0).snd.args) (gB (gB (gB (gX (Go.Eng.AV.agg [Go.Eng.AV.bool r.neg,strA r.mag,Go.Eng.AV.bool r.dneg,strA r.dmag]) true) (gB (gX (Go.Eng.AV.agg [Go.Eng.AV.bool r.neg,strA r.mag,Go.Eng.AV.bool r.dneg,strA r.dmag]) true) true)) (gB (gB (gX (Go.Eng.AV.agg [Go.Eng.AV.bool b.neg,strA b.mag,Go.Eng.AV.bool b.dneg,strA b.dmag]) true) true) true)) (I (Go.Eng.AV.int .i64 e) [])))):=by kernel_rfl
theorem rcmp_r (a b c:Rt) (e:Int) (I:AK):runF Tryz.f169 [eRS a b c,eFac a,eFac b,eQn rOne rMone,eSgn c rOne Rt.zero e,eQs rMone (-1),eQs Rt.zero 0] [realA a,realA b] I=gX ((eRS a b c).snd.args) (gX ((eFac a).snd.args) (gX ((eFac b).snd.args) (gX ((eQn rOne rMone).snd.args) (gB (gB (gB (gX (Go.Eng.AV.agg [Go.Eng.AV.bool b.neg,strA b.mag,Go.Eng.AV.bool b.dneg,strA b.dmag,Go.Eng.AV.bool false,strA [],Go.Eng.AV.bool false,strA [],Go.Eng.AV.bool false]) true) (gB (gX (Go.Eng.AV.agg [Go.Eng.AV.bool b.neg,strA b.mag,Go.Eng.AV.bool b.dneg,strA b.dmag,Go.Eng.AV.bool false,strA [],Go.Eng.AV.bool false,strA [],Go.Eng.AV.bool false]) true) true)) (gB (gB (gX (Go.Eng.AV.agg [Go.Eng.AV.bool a.neg,strA a.mag,Go.Eng.AV.bool a.dneg,strA a.dmag,Go.Eng.AV.bool false,strA [],Go.Eng.AV.bool false,strA [],Go.Eng.AV.bool false]) true) true) true)) (gX ((eSgn c rOne Rt.zero e).snd.args) (gX ((eQs rMone (-1)).snd.args) (gX ((eQs Rt.zero 0).snd.args) (gB (gB (gB (gX (Go.Eng.AV.agg [Go.Eng.AV.bool false,strA [],Go.Eng.AV.bool false,strA []]) true) (gB (gX (Go.Eng.AV.agg [Go.Eng.AV.bool false,strA [],Go.Eng.AV.bool false,strA []]) true) true)) (gB (gB (gX (Go.Eng.AV.agg [Go.Eng.AV.bool true,strA [1],Go.Eng.AV.bool false,strA []]) true) true) true)) (I (Go.Eng.AV.int .i64 e) []))))))))):=by kernel_rfl
theorem fromrat_r (r:Rt) (I:AK):runF Tryz.f61 [] [rtA r] I=I (Go.Eng.AV.agg [Go.Eng.AV.bool r.neg,strA r.mag,Go.Eng.AV.bool r.dneg,strA r.dmag,Go.Eng.AV.bool false,Go.Eng.AV.str 0 0,Go.Eng.AV.bool false,Go.Eng.AV.str 0 0,Go.Eng.AV.bool false]) []:=by kernel_rfl
theorem realint_r (n:Int) (r:Rt) (I:AK):runF Tryz.f65 [eRI n r] [.int .i64 n] I=gX ((eRI n r).snd.args) (I (Go.Eng.AV.agg [Go.Eng.AV.bool r.neg,strA r.mag,Go.Eng.AV.bool r.dneg,strA r.dmag,Go.Eng.AV.bool false,Go.Eng.AV.str 0 0,Go.Eng.AV.bool false,Go.Eng.AV.str 0 0,Go.Eng.AV.bool false]) []):=by kernel_rfl
theorem instant_r (i:Iv) (I:AK):runF Tryz.f141 [] [ivA i] I=(gIf (seqA (tR i.a).mag.length (enc (tR i.a).mag) (tR i.b).mag.length (enc (tR i.b).mag)) (I (Go.Eng.AV.bool true) []) (I (Go.Eng.AV.bool false) [])):=by kernel_rfl
theorem apart_m (i j:Iv) (I:AK):runF Tryz.f139 [eRC (tR i.b) (tR j.a) (-1)] [ivA i,ivA j] I=gX ((eRC (tR i.b) (tR j.a) (-1)).snd.args) (I (Go.Eng.AV.bool true) []):=by kernel_rfl
theorem apart_z (i j:Iv) (I:AK):runF Tryz.f139 [eRC (tR i.b) (tR j.a) 0] [ivA i,ivA j] I=gX ((eRC (tR i.b) (tR j.a) 0).snd.args) (gIf i.4 (I (Go.Eng.AV.bool true) []) (I (Go.Eng.AV.bool j.ao) [])):=by kernel_rfl
theorem through_r (ta xa ya tb xb yb c s d u:Rt) (I:AK):runF Tryz.f62 [eBt ta xa tb xb c s,eBt ta ya tb yb d u] [smA ta xa ya,smA tb xb yb] I=gX ((eBt ta xa tb xb c s).snd.args) (gX ((eBt ta ya tb yb d u).snd.args) (I (Go.Eng.AV.agg [Go.Eng.AV.bool c.neg,strA c.mag,Go.Eng.AV.bool c.dneg,strA c.dmag,Go.Eng.AV.bool s.neg,strA s.mag,Go.Eng.AV.bool s.dneg,strA s.dmag,Go.Eng.AV.bool d.neg,strA d.mag,Go.Eng.AV.bool d.dneg,strA d.dmag,Go.Eng.AV.bool u.neg,strA u.mag,Go.Eng.AV.bool u.dneg,strA u.dmag]) [])):=by kernel_rfl
theorem still_r (x y:Rt) (I:AK):runF Tryz.f63 [] [ptA x y] I=I (Go.Eng.AV.agg [Go.Eng.AV.bool x.neg,strA x.mag,Go.Eng.AV.bool x.dneg,strA x.dmag,Go.Eng.AV.bool false,Go.Eng.AV.str 0 0,Go.Eng.AV.bool false,Go.Eng.AV.str 0 0,Go.Eng.AV.bool y.neg,strA y.mag,Go.Eng.AV.bool y.dneg,strA y.dmag,Go.Eng.AV.bool false,Go.Eng.AV.str 0 0,Go.Eng.AV.bool false,Go.Eng.AV.str 0 0]) []:=by kernel_rfl
theorem sample_r (t x y:Int) (a b c:Rt) (I:AK):runF Tryz.f60 [eRI t a,eRI x b,eRI y c] [.int .i64 t,.int .i64 x,.int .i64 y] I=gX ((eRI t a).snd.args) (gX ((eRI x b).snd.args) (gX ((eRI y c).snd.args) (I (Go.Eng.AV.agg [Go.Eng.AV.bool a.neg,strA a.mag,Go.Eng.AV.bool a.dneg,strA a.dmag,Go.Eng.AV.bool b.neg,strA b.mag,Go.Eng.AV.bool b.dneg,strA b.dmag,Go.Eng.AV.bool c.neg,strA c.mag,Go.Eng.AV.bool c.dneg,strA c.dmag]) []))):=by kernel_rfl
theorem padd_r (x y:Rt) (n m:Int) (a b c d:Rt) (I:AK):runF Tryz.f67 [eRI n a,eQa x a c,eRI m b,eQa y b d] [ptA x y,.int .i64 n,.int .i64 m] I=gX ((eRI n a).snd.args) (gX ((eQa x a c).snd.args) (gX ((eRI m b).snd.args) (gX ((eQa y b d).snd.args) (gB (gB (gB (gX (Go.Eng.AV.agg [Go.Eng.AV.bool y.neg,strA y.mag,Go.Eng.AV.bool y.dneg,strA y.dmag]) true) (gB (gX (Go.Eng.AV.agg [Go.Eng.AV.bool y.neg,strA y.mag,Go.Eng.AV.bool y.dneg,strA y.dmag]) true) (gB (gX (Go.Eng.AV.agg [Go.Eng.AV.bool y.neg,strA y.mag,Go.Eng.AV.bool y.dneg,strA y.dmag]) true) true))) (gB (gB (gX (Go.Eng.AV.agg [Go.Eng.AV.bool x.neg,strA x.mag,Go.Eng.AV.bool x.dneg,strA x.dmag]) true) true) true)) (I (Go.Eng.AV.agg [Go.Eng.AV.bool c.neg,strA c.mag,Go.Eng.AV.bool c.dneg,strA c.dmag,Go.Eng.AV.bool d.neg,strA d.mag,Go.Eng.AV.bool d.dneg,strA d.dmag]) []))))):=by kernel_rfl
end
end
end Go.Proofs.YtodjhpjcgggamaaGreatDoor

namespace Go.Proofs.YtodjhpjcgggamaaGreatDoor
open Go Go.Eng Go.Vi Go.Knuth
theorem qR_zero:qR 0 1=Rt.zero:=by
 unfold qR Rt.zero
 rw [dm_one,show (0:Int).natAbs=0 from rfl,mg_zero];rfl
theorem qR_nat (n:Nat):qR n 1=tR (mg n):=by
 unfold qR tR
 rw [dm_one,show (n:Int).natAbs=n from rfl,decide_eq_false (show ¬ (n:Int)<0 by omega)]
theorem qR_one:qR 1 1=rOne:=by have:=qR_nat 1;rw [mg_one] at this;exact this
theorem qR_mone:qR (-1) 1=rMone:=by
 unfold qR rMone
 rw [dm_one,show (-1:Int).natAbs=1 from rfl,mg_one];rfl
def RB (p q:Nat) (r:Rt):Prop:=∃ (z:Int) (d:Nat),r=qR z d∧z.natAbs≤p∧1≤d∧d≤q
theorem RB.mono {p q p' q':Nat} {r:Rt} (h:RB p q r) (hp:p≤p') (hq:q≤q'):RB p' q' r:=by
 obtain ⟨z,d,e,h1,h2,h3⟩:=h
 exact ⟨z,d,e,by omega,h2,by omega⟩
theorem RB.zero (p q:Nat) (hq:1≤q):RB p q Rt.zero:=⟨0,1,qR_zero.symm,by simp,Nat.le_refl _,hq⟩
theorem RB.nat {n p q:Nat} (h:n≤p) (hq:1≤q):RB p q (tR (mg n)):=⟨n,1,(qR_nat n).symm,by simpa using h,Nat.le_refl _,hq⟩
theorem RB.int {n:Int} {p q:Nat} (h:n.natAbs≤p) (hq:1≤q):RB p q (qR n 1):=⟨n,1,rfl,h,Nat.le_refl _,hq⟩
structure LB (p q:Nat) (f:Ln):Prop where
 x0:RB p q f.x0
 x1:RB p q f.x1
 y0:RB p q f.y0
 y1:RB p q f.y1
theorem qNA (z:Int) {d:Nat} (hd:1≤d):∃ r:Rt,qN z d=rtA r∧RB z.natAbs d r:=by
 obtain ⟨z',d',e,h1,h2,h3⟩:=qN_ex z hd
 exact ⟨qR z' d',e,z',d',rfl,h1,h2,h3⟩
theorem rsub_b {p q p' q':Nat} {r s:Rt} (hr:RB p q r) (hs:RB p' q' s) (h1:p<2147483648) (h2:q<2147483648) (h3:p'<2147483648) (h4:q'<2147483648) :
  ∃ u,RB (p*q'+p'*q) (q*q') u∧BSim Tryz.prog 135 [rtA r,rtA s] [] [] (rtA u):=by
 obtain ⟨z,d,rfl,a1,a2,a3⟩:=hr
 obtain ⟨w,e,rfl,b1,b2,b3⟩:=hs
 have h:=rsub_z (z:=z) (w:=w) a2 b2 (by omega) (by omega) (by omega) (by omega)
 obtain ⟨u,e1,hu⟩:=qNA (sumN z (-w) d e) (sumD_pos a2 b2)
 rw [e1] at h
 refine ⟨u,hu.mono ?_ ?_,h⟩
 ·unfold sumN
  split
  ·have:p≤p*q':=Nat.le_mul_of_pos_right _ (by omega)
   have:p'≤p'*q:=Nat.le_mul_of_pos_right _ (by omega)
   have:=Int.natAbs_add_le z (-w)
   rw [Int.natAbs_neg] at this
   omega
  ·have m1:=natAbs_mul_le a1 b3
   have m2:=natAbs_mul_le (z:=-w) (d:=d) (p:=p') (q:=q) (by rw [Int.natAbs_neg];exact b1) a3
   have:=Int.natAbs_add_le (z*e) (-w*d)
   omega
 ·unfold sumD
  split
  ·have:q≤q*q':=Nat.le_mul_of_pos_right _ (by omega)
   omega
  ·exact Nat.mul_le_mul a3 b3
theorem rmul_b {p q p' q':Nat} {r s:Rt} (hr:RB p q r) (hs:RB p' q' s) (h1:p<2147483648) (h2:q<2147483648) (h3:p'<2147483648) (h4:q'<2147483648) :
  ∃ u,RB (p*p') (q*q') u∧BSim Tryz.prog 137 [rtA r,rtA s] [] [] (rtA u):=by
 obtain ⟨z,d,rfl,a1,a2,a3⟩:=hr
 obtain ⟨w,e,rfl,b1,b2,b3⟩:=hs
 have h:=rmul_z (z:=z) (w:=w) a2 b2 (by omega) (by omega) (by omega) (by omega)
 obtain ⟨u,e1,hu⟩:=qNA (z*w) (Nat.mul_pos a2 b2)
 rw [e1] at h
 refine ⟨u,hu.mono ?_ (Nat.mul_le_mul a3 b3),h⟩
 rw [Int.natAbs_mul]
 exact Nat.mul_le_mul a1 b1
theorem rtA_zero:rtA Rt.zero=qA 0 1:=by unfold qA;rw [qR_zero]
theorem radd_0 {n:Int} (h:n.natAbs<2147483648):BSim Tryz.prog 112 [rtA (qR n 1),rtA Rt.zero] [] [] (rtA (qR n 1)):=by
 rw [rtA_zero]
 have h:=radd_z (z:=n) (w:=0) (d:=1) (e:=1) (by decide) (by decide) h (by decide) (by decide) (by decide)
 have e:sumN n 0 1 1=n:=by simp [sumN]
 have e2:sumD 1 1=1:=rfl
 rw [e,e2,qN_one] at h
 exact h
theorem radd_00:BSim Tryz.prog 112 [rtA Rt.zero,rtA Rt.zero] [] [] (rtA Rt.zero):=by
 have:=radd_0 (n:=0) (by decide)
 rw [qR_zero] at this;exact this
theorem rmul_0 {n:Int} (h:n.natAbs<2147483648):BSim Tryz.prog 137 [rtA (qR n 1),rtA Rt.zero] [] [] (rtA Rt.zero):=by
 rw [rtA_zero]
 have h:=rmul_z (z:=n) (w:=0) (d:=1) (e:=1) (by decide) (by decide) h (by decide) (by decide) (by decide)
 rw [Int.mul_zero,Nat.mul_one,qN_one] at h
 exact h
theorem rsub_self {p q:Nat} {r:Rt} (hr:RB p q r) (h1:p<2147483648) (h2:q<2147483648):BSim Tryz.prog 135 [rtA r,rtA r] [] [] (rtA Rt.zero):=by
 obtain ⟨z,d,rfl,a1,a2,a3⟩:=hr
 have h:=rsub_z (z:=z) (w:=z) a2 a2 (by omega) (by omega) (by omega) (by omega)
 have e:sumN z (-z) d d=0:=by simp [sumN];omega
 have e2:sumD d d=d:=if_pos rfl
 rw [e,e2,qN_zero a2,← rtA_zero] at h
 exact h
theorem rsub_int {n m:Int} (hn:n.natAbs<2147483648) (hm':m.natAbs<2147483648):BSim Tryz.prog 135 [rtA (qR n 1),rtA (qR m 1)] [] [] (rtA (qR (n-m) 1)):=by
 have h:=rsub_z (z:=n) (w:=m) (d:=1) (e:=1) (by decide) (by decide) hn hm' (by decide) (by decide)
 have e:sumN n (-m) 1 1=n-m:=by simp [sumN];omega
 have e2:sumD 1 1=1:=rfl
 rw [e,e2,qN_one] at h
 exact h
theorem radd_int {n m:Int} (hn:n.natAbs<2147483648) (hm':m.natAbs<2147483648):BSim Tryz.prog 112 [rtA (qR n 1),rtA (qR m 1)] [] [] (rtA (qR (n+m) 1)):=by
 have h:=radd_z (z:=n) (w:=m) (d:=1) (e:=1) (by decide) (by decide) hn hm' (by decide) (by decide)
 have e:sumN n m 1 1=n+m:=by simp [sumN]
 have e2:sumD 1 1=1:=rfl
 rw [e,e2,qN_one] at h
 exact h
section
local instance : Go.Eng.Mode := Sl
theorem bool_leaf (b:Bool) {π:List Nat} {bs:List (Option Blk)}:Leaf 0 π [] (.bool b) (.bool b) bs:=Leaf.flat fun _ _=>.plain (.bool b)
theorem aggs_leaf (l:List Dat) {π:List Nat} {bs:List (Option Blk)}:Leaf 0 π [] (.agg (toAVs l)) (.agg (toAVs l)) bs:=Leaf.flat fun _ _=>.aggs l
theorem factor_c (r:Rt):BSim Tryz.prog 185 [realA r] [] [] (rtA rOne):=by
 have h:=rfi_z (n:=1) (by decide)
 have e:qA 1 1=rtA rOne:=by unfold qA;rw [qR_one]
 rw [e] at h
 refine BSim.run hm hX0l (S:=[eRI 1 rOne]) (AllOk.mem ⟨h.spec0 rfl,trivial⟩) okFactor (by kernel_rfl) rfl 300 [] _ (factor_r r) ?_
 simp only [gX_iff,gB_iff,and_true,true_and]
 exact pdec_iff.2 (aggs_leaf (rtD rOne))
theorem rsgn_c (z:Int) (d:Nat):BSim Tryz.prog 186 [rtA (qR z d),rtA rOne,rtA Rt.zero] [] [] (.int .i64 z.sign):=by
 have h1:=rsg_z z d
 have h2:=rsg_z 1 1
 have h3:=rsg_z 0 1
 have e:qA 1 1=rtA rOne:=by unfold qA;rw [qR_one]
 rw [e] at h2
 rw [← rtA_zero] at h3
 refine BSim.run hm hX0l (S:=[eQs (qR z d) z.sign,eQs rOne 1,eQs Rt.zero 0]) (AllOk.mem ⟨h1.spec0 rfl,h2.spec0 rfl,h3.spec0 rfl,trivial⟩) okRSgn (by kernel_rfl) rfl 300 [] _ (rsgn_r _ _ _ _) ?_
 simp only [gX_iff,gB_iff,and_true,true_and]
 exact pdec_iff.2 (iL_leaf _)
theorem cmp_t {t u:Nat} (ht:t<2147483648) (hu:u<2147483648):BSim Tryz.prog 169 [realA (tR (mg t)),realA (tR (mg u))] [] [] (.int .i64 ((t:Int)-u).sign):=by
 have h1:=rsub_int (n:=t) (m:=u) (by simpa using ht) (by simpa using hu)
 rw [qR_nat,qR_nat] at h1
 have h2:=rneg_z 1 1
 have e1:qA 1 1=rtA rOne:=by unfold qA;rw [qR_one]
 have e2:qA (-1) 1=rtA rMone:=by unfold qA;rw [qR_mone]
 rw [e1,e2] at h2
 have h3:=rsg_z (-1) 1
 rw [e2] at h3
 have h4:=rsg_z 0 1
 rw [← rtA_zero] at h4
 have hS:AllOk [eRS (tR (mg t)) (tR (mg u)) (qR (t-u) 1),eFac (tR (mg t)),eFac (tR (mg u)),eQn rOne rMone,eSgn (qR (t-u) 1) rOne Rt.zero ((t:Int)-u).sign,eQs rMone (-1),eQs Rt.zero 0] :=
  ⟨h1.spec0 rfl,(factor_c _).spec0 rfl,(factor_c _).spec0 rfl,h2.spec0 rfl,(rsgn_c _ _).spec0 rfl,h3.spec0 rfl,h4.spec0 rfl,trivial⟩
 refine BSim.run hm hX0l hS.mem okRCmp (by kernel_rfl) rfl 300 [] _ (rcmp_r _ _ _ _) ?_
 simp only [gX_iff,gB_iff,and_true,true_and]
 exact pdec_iff.2 (iL_leaf _)
theorem fromrat_c (r:Rt):BSim Tryz.prog 61 [rtA r] [] [] (realA r) :=
 BSim.run hm hX0l (S:=[]) (fun _ h=>by cases h) okFromRat (by kernel_rfl) rfl 300 [] _ (fromrat_r r) (pdec_iff.2 (aggs_leaf (realD r)))
theorem realint_c {n:Nat} (h:n<2147483648):BSim Tryz.prog 65 [.int .i64 (.ofNat n)] [] [] (realA (tR (mg n))):=by
 have h:=rfi_z (n:=.ofNat n) (by simp only [Int.ofNat_eq_natCast,Int.natAbs_natCast];omega)
 have e:qA (.ofNat n) 1=rtA (tR (mg n)):=by unfold qA;exact congrArg rtA (qR_nat n)
 rw [e] at h
 refine BSim.run hm hX0l (S:=[eRI (.ofNat n) (tR (mg n))]) (AllOk.mem ⟨h.spec0 rfl,trivial⟩) okRealInt (by kernel_rfl) rfl 300 [] _ (realint_r _ _) ?_
 simp only [gX_iff,gB_iff,and_true,true_and]
 exact pdec_iff.2 (aggs_leaf (realD (tR (mg n))))
theorem evz {t:Nat} (ht:t<2147483648):BSim Tryz.prog 240 [qd Rt.zero Rt.zero Rt.zero,rtA (tR (mg t))] [] [] (rtA Rt.zero):=by
 have h1:=rmul_0 (n:=t) (by simpa using ht)
 rw [qR_nat] at h1
 refine BSim.run hm hX0l (S:=[eRM _ _ _,eQa _ _ _,eRM _ _ _,eQa _ _ _]) (AllOk.mem ⟨h1.spec0 rfl,radd_00.spec0 rfl,h1.spec0 rfl,radd_00.spec0 rfl,trivial⟩) okEval (by kernel_rfl) rfl 300 [] _ (eval_r _ _ _ _ _ _ _ _) ?_
 simp only [gX_iff,gB_iff,and_true,true_and]
 exact pdec_iff.2 (aggs_leaf (rtD Rt.zero))
theorem ev0 {n:Int} {t:Nat} (hn:n.natAbs<2147483648) (ht:t<2147483648):BSim Tryz.prog 240 [qd (qR n 1) Rt.zero Rt.zero,rtA (tR (mg t))] [] [] (rtA (qR n 1)):=by
 have h1:=rmul_0 (n:=t) (by simpa using ht)
 rw [qR_nat] at h1
 refine BSim.run hm hX0l (S:=[eRM _ _ _,eQa _ _ _,eRM _ _ _,eQa _ _ _]) (AllOk.mem ⟨h1.spec0 rfl,radd_00.spec0 rfl,h1.spec0 rfl,(radd_0 hn).spec0 rfl,trivial⟩) okEval (by kernel_rfl) rfl 300 [] _ (eval_r _ _ _ _ _ _ _ _) ?_
 simp only [gX_iff,gB_iff,and_true,true_and]
 exact pdec_iff.2 (aggs_leaf (rtD (qR n 1)))
theorem red_c {a b c v:Rt} {t:Nat} (h:BSim Tryz.prog 240 [qd a b c,rtA (tR (mg t))] [] [] (rtA v)):BSim Tryz.prog 236 [qd a b c,realA (tR (mg t))] [] [] (qd v Rt.zero Rt.zero):=by
 refine BSim.run hm hX0l (S:=[eEv a b c (tR (mg t)) v]) (AllOk.mem ⟨h.spec0 rfl,trivial⟩) okReduce (by kernel_rfl) rfl 300 [] _ (reduce_r _ _ _ _ _) ?_
 simp only [gX_iff,gB_iff,and_true,true_and]
 exact pdec_iff.2 (aggs_leaf (rtD v++rtD Rt.zero++rtD Rt.zero))
theorem same_c {p q:Nat} {a b:Rt} {t:Nat} (ha:RB p q a) (hb:RB p q b) (h1:p<2147483648) (h2:q<2147483648) (ht:t<2147483648):BSim Tryz.prog 237 [qd a b Rt.zero,qd a b Rt.zero,realA (tR (mg t))] [] [] (.bool true):=by
 have hs:BSim Tryz.prog 242 [qd a b Rt.zero,qd a b Rt.zero] [] [] (qd Rt.zero Rt.zero Rt.zero):=by
  refine BSim.run hm hX0l (S:=[eRS _ _ _,eRS _ _ _,eRS _ _ _]) (AllOk.mem ⟨(rsub_self ha h1 h2).spec0 rfl,(rsub_self hb h1 h2).spec0 rfl,(rsub_self (RB.zero 1 1 (by decide)) (by decide) (by decide)).spec0 rfl,trivial⟩) okQSub (by kernel_rfl) rfl 300 [] _ (qsub_r _ _ _ _ _ _ _ _ _) ?_
  simp only [gX_iff,gB_iff,and_true,true_and]
  exact pdec_iff.2 (aggs_leaf (rtD Rt.zero++rtD Rt.zero++rtD Rt.zero))
 have hr:=red_c (evz ht)
 refine BSim.run hm hX0l (S:=[eQS _ _ _ _ _ _ _ _ _,eRed _ _ _ _ _ _ _]) (AllOk.mem ⟨hs.spec0 rfl,hr.spec0 rfl,trivial⟩) okSame (by kernel_rfl) rfl 300 [] _ (same_r _ _ _ _ _ _ _) ?_
 simp only [gX_iff,gB_iff,and_true,true_and]
 exact pdec_iff.2 (bool_leaf true)
theorem lsame_c {p q:Nat} {f:Ln} {t:Nat} (hf:LB p q f) (h1:p<2147483648) (h2:q<2147483648) (ht:t<2147483648):BSim Tryz.prog 234 [.agg [],lnA f,lnA f,realA (tR (mg t))] [] [] (.bool true):=by
 refine BSim.run hm hX0l (S:=[eSmp _ _ _ _ _ _ _,eSmp _ _ _ _ _ _ _]) (AllOk.mem ⟨(same_c hf.x0 hf.x1 h1 h2 ht).spec0 rfl,(same_c hf.y0 hf.y1 h1 h2 ht).spec0 rfl,trivial⟩) okLSame (by kernel_rfl) rfl 300 [] _ (lsame_r _ _ _) ?_
 simp only [gX_iff,gB_iff,and_true,true_and]
 exact pdec_iff.2 (bool_leaf true)
def stillL (x y:Int):Ln:=⟨qR x 1,Rt.zero,qR y 1,Rt.zero⟩
theorem lreduce_c {x y:Int} {t:Nat} (hx:x.natAbs<2147483648) (hy:y.natAbs<2147483648) (ht:t<2147483648):BSim Tryz.prog 233 [.agg [],lnA (stillL x y),realA (tR (mg t))] [] [] (lnA (stillL x y)):=by
 have hS:AllOk [eRed (stillL x y).x0 (stillL x y).x1 Rt.zero (tR (mg t)) (qR x 1) Rt.zero Rt.zero,eRed (stillL x y).y0 (stillL x y).y1 Rt.zero (tR (mg t)) (qR y 1) Rt.zero Rt.zero]:=⟨(red_c (ev0 hx ht)).spec0 rfl,(red_c (ev0 hy ht)).spec0 rfl,trivial⟩
 refine BSim.run hm hX0l hS.mem okLReduce (by kernel_rfl) rfl 300 [] _ (lreduce_r _ _ _ _) ?_
 simp only [gX_iff,gB_iff,and_true,true_and]
 exact pdec_iff.2 (aggs_leaf (lnD (stillL x y)))
theorem beq_b {x y:Bool} (h:gIf x y (gIf y false true)=true):x=y:=by cases x<;>cases y<;>first | rfl | cases h
theorem seq_eq {l m:List UInt8} (h:seqA l.length (enc l) m.length (enc m)=true):l=m:=by rw [seqA_iff] at h;simpa using h
theorem lequal_c (f g:Ln):∃ b:Bool,(b=true→f=g)∧BSim Tryz.prog 232 [.agg [],lnA f,lnA g] [] [] (.bool b):=by
 classical
 by_cases h:f=g
 ·subst h
  refine ⟨true,fun _=>rfl,BSim.run hm hX0l (S:=[]) (fun _ h=>by cases h) okLEqual (by kernel_rfl) rfl 300 [] _ (lequal_r f f) ?_⟩
  have hb:∀ x:Bool,gIf x x (gIf x false true)=true:=by intro x;cases x<;>rfl
  exact (gIf_t (hb _) (gIf_t (seq_refl _) (gIf_t (hb _) (gIf_t (seq_refl _) (gIf_t (hb _) (gIf_t (seq_refl _) (gIf_t (hb _) (gIf_t (seq_refl _) (gIf_t (hb _) (gIf_t (seq_refl _) (gIf_t (hb _) (gIf_t (seq_refl _) (gIf_t (hb _) (gIf_t (seq_refl _) (gIf_t (hb _) (gIf_t (seq_refl _) (pdec_iff.2 (bool_leaf true))))))))))))))))))
 ·refine ⟨false,fun h=>(by cases h),BSim.run hm hX0l (S:=[]) (fun _ h=>by cases h) okLEqual (by kernel_rfl) rfl 300 [] _ (lequal_r f g) ?_⟩
  have L:pdec (Leaf 0 [] [] (.bool false) (.bool false) [])=true:=pdec_iff.2 (bool_leaf false)
  have key:gIf f.x0.neg g.x0.neg (gIf g.x0.neg false true)=true→seqA f.x0.mag.length (enc f.x0.mag) g.x0.mag.length (enc g.x0.mag)=true→gIf f.x0.dneg g.x0.dneg (gIf g.x0.dneg false true)=true→seqA f.x0.dmag.length (enc f.x0.dmag) g.x0.dmag.length (enc g.x0.dmag)=true→gIf f.x1.neg g.x1.neg (gIf g.x1.neg false true)=true→seqA f.x1.mag.length (enc f.x1.mag) g.x1.mag.length (enc g.x1.mag)=true→gIf f.x1.dneg g.x1.dneg (gIf g.x1.dneg false true)=true→seqA f.x1.dmag.length (enc f.x1.dmag) g.x1.dmag.length (enc g.x1.dmag)=true→gIf f.y0.neg g.y0.neg (gIf g.y0.neg false true)=true→seqA f.y0.mag.length (enc f.y0.mag) g.y0.mag.length (enc g.y0.mag)=true→gIf f.y0.dneg g.y0.dneg (gIf g.y0.dneg false true)=true→seqA f.y0.dmag.length (enc f.y0.dmag) g.y0.dmag.length (enc g.y0.dmag)=true→gIf f.y1.neg g.y1.neg (gIf g.y1.neg false true)=true→seqA f.y1.mag.length (enc f.y1.mag) g.y1.mag.length (enc g.y1.mag)=true→gIf f.y1.dneg g.y1.dneg (gIf g.y1.dneg false true)=true→seqA f.y1.dmag.length (enc f.y1.dmag) g.y1.dmag.length (enc g.y1.dmag)=true→f=g:=by
   intro h0 h1 h2 h3 h4 h5 h6 h7 h8 h9 h10 h11 h12 h13 h14 h15
   have r:∀ a b:Rt,a.neg=b.neg→a.mag=b.mag→a.dneg=b.dneg→a.dmag=b.dmag→a=b:=by
    rintro ⟨a1,a2,a3,a4⟩ ⟨b1,b2,b3,b4⟩ rfl rfl rfl rfl;rfl
   have e0:=r _ _ (beq_b h0) (seq_eq h1) (beq_b h2) (seq_eq h3)
   have e1:=r _ _ (beq_b h4) (seq_eq h5) (beq_b h6) (seq_eq h7)
   have e2:=r _ _ (beq_b h8) (seq_eq h9) (beq_b h10) (seq_eq h11)
   have e3:=r _ _ (beq_b h12) (seq_eq h13) (beq_b h14) (seq_eq h15)
   cases f;cases g;simp only at e0 e1 e2 e3;subst e0 e1 e2 e3;rfl
  exact gIf_of (fun h0=>gIf_of (fun h1=>gIf_of (fun h2=>gIf_of (fun h3=>gIf_of (fun h4=>gIf_of (fun h5=>gIf_of (fun h6=>gIf_of (fun h7=>gIf_of (fun h8=>gIf_of (fun h9=>gIf_of (fun h10=>gIf_of (fun h11=>gIf_of (fun h12=>gIf_of (fun h13=>gIf_of (fun h14=>gIf_of (fun h15=>absurd (key h0 h1 h2 h3 h4 h5 h6 h7 h8 h9 h10 h11 h12 h13 h14 h15) h) (fun _=>L)) (fun _=>L)) (fun _=>L)) (fun _=>L)) (fun _=>L)) (fun _=>L)) (fun _=>L)) (fun _=>L)) (fun _=>L)) (fun _=>L)) (fun _=>L)) (fun _=>L)) (fun _=>L)) (fun _=>L)) (fun _=>L)) (fun _=>L)
theorem instant_c (i:Iv):BSim Tryz.prog 141 [ivA i] [] [] (.bool (decide (i.a=i.b))):=by
 refine BSim.run hm hX0l (S:=[]) (fun _ h=>by cases h) okInstant (by kernel_rfl) rfl 300 [] _ (instant_r i) ?_
 by_cases h:i.a=i.b
 ·rw [decide_eq_true h]
  refine gIf_t ?_ (pdec_iff.2 (bool_leaf true))
  show seqA i.a.length (enc i.a) i.b.length (enc i.b)=true
  rw [h];exact seq_refl _
 ·rw [decide_eq_false h]
  exact gIf_f (seq_ne h) (pdec_iff.2 (bool_leaf false))
theorem apart_c {i j:Iv} {t u:Nat} (hi:i.b=mg t) (hj:j.a=mg u) (h:t<u∨t=u∧j.ao=true) (hu:u<2147483648):BSim Tryz.prog 139 [ivA i,ivA j] [] [] (.bool true):=by
 have hc:=cmp_t (t:=t) (u:=u) (by omega) hu
 rw [← hi,← hj] at hc
 rcases h with h | ⟨rfl,h⟩
 ·rw [Int.sign_eq_neg_one_of_neg (by omega:(t:Int)-u<0)] at hc
  refine BSim.run hm hX0l (S:=[eRC _ _ _]) (AllOk.mem ⟨hc.spec0 rfl,trivial⟩) okApart (by kernel_rfl) rfl 300 [] _ (apart_m i j) ?_
  simp only [gX_iff]
  exact pdec_iff.2 (bool_leaf true)
 ·rw [Int.sub_self] at hc
  refine BSim.run hm hX0l (S:=[eRC _ _ 0]) (AllOk.mem ⟨hc.spec0 rfl,trivial⟩) okApart (by kernel_rfl) rfl 300 [] _ (apart_z i j) ?_
  simp only [gX_iff]
  refine gIf_of (fun _=>pdec_iff.2 (bool_leaf true)) (fun _=>?_)
  rw [h]
  exact pdec_iff.2 (bool_leaf true)
theorem between_c {t u:Nat} {v w:Int} (htu:t<u) (hu:u≤1000) (hv:v.natAbs≤1000) (hw:w.natAbs≤1000) :
  ∃ c s:Rt,RB 10000000 10000 c∧RB 10000000 10000 s∧BSim Tryz.prog 108 [rtA (tR (mg t)),rtA (qR v 1),rtA (tR (mg u)),rtA (qR w 1)] [] [] (.tuple [qd c s Rt.zero,.int .i64 0]):=by
 have h1:=rsub_int (n:=w) (m:=v) (by omega) (by omega)
 have h2:=rsub_int (n:=u) (m:=t) (by omega) (by omega)
 rw [qR_nat u,qR_nat t] at h2
 have hp:(0:Int)<(u:Int)-t:=by omega
 have b1:(w-v).natAbs≤2000:=by omega
 have b2:((u:Int)-t).natAbs≤1000:=by omega
 have h3:=rdiv_z (z:=w-v) (w:=(u:Int)-t) (d:=1) (e:=1) (by decide) (by decide) (by omega) (by omega) (by decide) (by decide) hp
 obtain ⟨s,es,hs⟩:=qNA ((w-v)*(1:Nat)) (d:=1*((u:Int)-t).natAbs) (by omega)
 rw [es] at h3
 have hs':RB 2000 1000 s:=hs.mono (by omega) (by omega)
 obtain ⟨m,hm1,h4⟩:=rmul_b hs' (RB.nat (n:=t) (p:=1000) (q:=1) (by omega) (by decide)) (by decide) (by decide) (by decide) (by decide)
 obtain ⟨c,hc1,h5⟩:=rsub_b (RB.int (n:=v) (p:=1000) (q:=1) hv (by decide)) hm1 (by decide) (by decide) (by decide) (by decide)
 refine ⟨c,s,hc1.mono (by decide) (by decide),hs'.mono (by decide) (by decide),?_⟩
 refine BSim.run hm hX0l (S:=[eRS _ _ _,eRS _ _ _,eRD _ _ _,eRM _ _ _,eRS _ _ _]) (AllOk.mem ⟨h1.spec0 rfl,h2.spec0 rfl,h3.spec0 rfl,h4.spec0 rfl,h5.spec0 rfl,trivial⟩) okBetween (by kernel_rfl) rfl 300 [] _ (between_r _ _ _ _ _ _ _ _ _) ?_
 simp only [gX_iff,gB_iff,and_true,true_and]
 exact pdec_iff.2 (Leaf.flat fun _ _=>.tuple _ _ (.cons _ _ _ _ (.aggs (rtD c++rtD s++rtD Rt.zero)) (.cons _ _ _ _ (.plain (.int .i64 0)) .nil)))
theorem through_c {t u:Nat} {x y x' y':Int} (htu:t<u) (hu:u≤1000) (hx:x.natAbs≤1000) (hy:y.natAbs≤1000) (hx':x'.natAbs≤1000) (hy':y'.natAbs≤1000) :
  ∃ f:Ln,LB 10000000 10000 f∧BSim Tryz.prog 62 [smA (tR (mg t)) (qR x 1) (qR y 1),smA (tR (mg u)) (qR x' 1) (qR y' 1)] [] [] (lnA f):=by
 obtain ⟨c,s,hc,hs,h1⟩:=between_c htu hu hx hx'
 obtain ⟨d,e,hd,he,h2⟩:=between_c htu hu hy hy'
 refine ⟨⟨c,s,d,e⟩,⟨hc,hs,hd,he⟩,?_⟩
 refine BSim.run hm hX0l (S:=[eBt _ _ _ _ _ _,eBt _ _ _ _ _ _]) (AllOk.mem ⟨h1.spec0 rfl,h2.spec0 rfl,trivial⟩) okThrough (by kernel_rfl) rfl 300 [] _ (through_r _ _ _ _ _ _ _ _ _ _) ?_
 simp only [gX_iff,gB_iff,and_true,true_and]
 exact pdec_iff.2 (aggs_leaf (lnD ⟨c,s,d,e⟩))
theorem still_c (x y:Int):BSim Tryz.prog 63 [ptA (qR x 1) (qR y 1)] [] [] (lnA (stillL x y)) :=
 BSim.run hm hX0l (S:=[]) (fun _ h=>by cases h) okStill (by kernel_rfl) rfl 300 [] _ (still_r _ _) (pdec_iff.2 (aggs_leaf (lnD (stillL x y))))
theorem ri_e {n:Int} (h:n.natAbs<9223372036854775808):SSpec Tryz.prog (eRI n (qR n 1)).1 (eRI n (qR n 1)).2:=(rfi_z h).spec0 rfl
theorem sample_c {t x y:Nat} (ht:t<2147483648) (hx:x<2147483648) (hy:y<2147483648):BSim Tryz.prog 60 [.int .i64 (.ofNat t),.int .i64 (.ofNat x),.int .i64 (.ofNat y)] [] [] (smA (tR (mg t)) (qR x 1) (qR y 1)):=by
 have h1:=ri_e (n:=.ofNat t) (by simp only [Int.ofNat_eq_natCast,Int.natAbs_natCast];omega)
 have e1:qR (.ofNat t) 1=tR (mg t):=qR_nat t
 rw [e1] at h1
 have h2:=ri_e (n:=.ofNat x) (by simp only [Int.ofNat_eq_natCast,Int.natAbs_natCast];omega)
 have h3:=ri_e (n:=.ofNat y) (by simp only [Int.ofNat_eq_natCast,Int.natAbs_natCast];omega)
 refine BSim.run hm hX0l (S:=[eRI _ _,eRI _ _,eRI _ _]) (AllOk.mem ⟨h1,h2,h3,trivial⟩) okSample (by kernel_rfl) rfl 300 [] _ (sample_r _ _ _ _ _ _) ?_
 simp only [gX_iff,gB_iff,and_true,true_and]
 exact pdec_iff.2 (aggs_leaf (rtD (tR (mg t))++rtD (qR x 1)++rtD (qR y 1)))
theorem padd_c {x y n m:Int} (hx:x.natAbs≤1000) (hy:y.natAbs≤1000) (hn:n.natAbs≤1000) (hm':m.natAbs≤1000):BSim Tryz.prog 67 [ptA (qR x 1) (qR y 1),.int .i64 n,.int .i64 m] [] [] (ptA (qR (x+n) 1) (qR (y+m) 1)):=by
 refine BSim.run hm hX0l (S:=[eRI _ _,eQa _ _ _,eRI _ _,eQa _ _ _]) (AllOk.mem ⟨ri_e (n:=n) (by omega),(radd_int (n:=x) (m:=n) (by omega) (by omega)).spec0 rfl,ri_e (n:=m) (by omega),(radd_int (n:=y) (m:=m) (by omega) (by omega)).spec0 rfl,trivial⟩) okPAdd (by kernel_rfl) rfl 300 [] _ (padd_r _ _ _ _ _ _ _ _) ?_
 simp only [gX_iff,gB_iff,and_true,true_and]
 exact pdec_iff.2 (aggs_leaf (rtD (qR (x+n) 1)++rtD (qR (y+m) 1)))
end
end Go.Proofs.YtodjhpjcgggamaaGreatDoor

namespace Go.Proofs.YtodjhpjcgggamaaGreatDoor
open Go Go.Eng Go.Vi Go.Knuth
noncomputable section
structure Un where
 iv:Iv
 f:Ln
def unD (u:Un):List Dat:=ivD u.iv++lnD u.f
def unA (u:Un):AV:=.agg (toAVs (unD u))
def unsD (us:List Un):List Dat:=(us.map unD).flatten
def lnZ:Ln:=⟨Rt.zero,Rt.zero,Rt.zero,Rt.zero⟩
def un0:Un:=⟨⟨[],[],false,false⟩,lnZ⟩
def unsA (us:List Un):AV:=.dslice us.length 36 (fun i=>unD (us.getD i un0))
def tmA (m:List UInt8):AV:=realA (tR m)
section
local instance : Go.Eng.Mode := Sl
def runB [Go.Eng.Mode] (f:Func) (S:List (FuncId × SEnt)) (args:List AV) (π:List Nat) (I:AK):Bool :=
 Eng.exec Tryz.prog X0 S 300 f.ntmps (codeOf f) (mkFr (argSlots args 0)) (mkMem (rowsOf [])) (fun o fr M=>endK o (resK Tryz.prog fr M f.results.toList fun vs=>I (oneOf vs) (mv π M)))
def eSc (a b:Un):FuncId × SEnt:=(166,⟨[unA a,unA b],[],.int .i64 1⟩)
def eOp (i:Iv) (n:Int):FuncId × SEnt:=(167,⟨[ivA i],[],.int .i64 n⟩)
def eC2 (a b c:Int):FuncId × SEnt:=(146,⟨[.int .i64 a,.int .i64 b],[],.int .i64 c⟩)
theorem okSc:FnOk Tryz.prog 166 Tryz.f166:=⟨Tryz.func166,by kernel_rfl,by kernel_rfl⟩
theorem okOpen:FnOk Tryz.prog 167 Tryz.f167:=⟨Tryz.func167,by kernel_rfl,by kernel_rfl⟩
theorem okSorted:FnOk Tryz.prog 138 Tryz.f138:=⟨Tryz.func138,by kernel_rfl,by kernel_rfl⟩
theorem open_r (i:Iv) (I:AK):runF Tryz.f167 [] [ivA i] I=gIf i.3 (I (.int .i64 1) []) (I (.int .i64 0) []):=by kernel_rfl
theorem c2_00  (I:AK):runF Tryz.f146 [] [.int .i64 0,.int .i64 0] I=I (.int .i64 0) []:=by kernel_rfl
theorem c2_01  (I:AK):runF Tryz.f146 [] [.int .i64 0,.int .i64 1] I=I (.int .i64 (-1)) []:=by kernel_rfl
theorem c2_10  (I:AK):runF Tryz.f146 [] [.int .i64 1,.int .i64 0] I=I (.int .i64 1) []:=by kernel_rfl
theorem c2_11  (I:AK):runF Tryz.f146 [] [.int .i64 1,.int .i64 1] I=I (.int .i64 0) []:=by kernel_rfl
theorem sc_r (a b:Un) (e m n k:Int) (I:AK):runF Tryz.f166 [eRC (tR a.iv.a) (tR b.iv.a) 1,eOp a.iv m,eOp b.iv n,eC2 m n k,eRC (tR a.iv.b) (tR b.iv.b) e] [unA a,unA b] I=gX ((eRC (tR a.iv.a) (tR b.iv.a) 1).snd.args) (gX ((eOp a.iv m).snd.args) (gX ((eOp b.iv n).snd.args) (gX ((eC2 m n k).snd.args) (gX ((eRC (tR a.iv.b) (tR b.iv.b) e).snd.args) (gB (gB (gB (gX (tmA b.iv.b) true) (gB (gX (tmA b.iv.b) true) (gB (gX (tmA b.iv.b) true) (gB (gX (tmA b.iv.b) true) true)))) (gB (gB (gX (tmA a.iv.b) true) (gB (gX (tmA a.iv.b) true) (gB (gX (tmA a.iv.b) true) (gB (gX (tmA a.iv.b) true) true)))) (gB (gB (gX (ivA ⟨b.iv.a,b.iv.b,b.iv.ao,b.iv.bo⟩) true) (gB (gX (ivA ⟨b.iv.a,b.iv.b,b.iv.ao,b.iv.bo⟩) true) true)) (gB (gB (gX (ivA ⟨a.iv.a,a.iv.b,a.iv.ao,a.iv.bo⟩) true) true) true)))) (I (.int .i64 1) [])))))):=by kernel_rfl
theorem so1_r (u0:Un) (I:AK):runB Tryz.f138 [] [unsA [u0]] [1] I=I (.slice 1 0 1 1 true) [some (.row (toAVs (unsD [u0])) true 36)]:=by kernel_rfl
theorem so2_r (u0 u1:Un) (I:AK):runB Tryz.f138 [eSc u1 u0] [unsA [u0,u1]] [1] I=gX ((eSc u1 u0).snd.args) (I (.slice 1 0 2 2 true) [some (.row (toAVs (unsD [u0,u1])) true 36)]):=by kernel_rfl
theorem so3_r (u0 u1 u2:Un) (I:AK):runB Tryz.f138 [eSc u1 u0,eSc u2 u1] [unsA [u0,u1,u2]] [1] I=gX ((eSc u1 u0).snd.args) (gX ((eSc u2 u1).snd.args) (I (.slice 1 0 3 3 true) [some (.row (toAVs (unsD [u0,u1,u2])) true 36)])):=by kernel_rfl
theorem so4_r (u0 u1 u2 u3:Un) (I:AK):runB Tryz.f138 [eSc u1 u0,eSc u2 u1,eSc u3 u2] [unsA [u0,u1,u2,u3]] [1] I=gX ((eSc u1 u0).snd.args) (gX ((eSc u2 u1).snd.args) (gX ((eSc u3 u2).snd.args) (I (.slice 1 0 4 4 true) [some (.row (toAVs (unsD [u0,u1,u2,u3])) true 36)]))):=by kernel_rfl
theorem so5_r (u0 u1 u2 u3 u4:Un) (I:AK):runB Tryz.f138 [eSc u1 u0,eSc u2 u1,eSc u3 u2,eSc u4 u3] [unsA [u0,u1,u2,u3,u4]] [1] I=gX ((eSc u1 u0).snd.args) (gX ((eSc u2 u1).snd.args) (gX ((eSc u3 u2).snd.args) (gX ((eSc u4 u3).snd.args) (I (.slice 1 0 5 5 true) [some (.row (toAVs (unsD [u0,u1,u2,u3,u4])) true 36)])))):=by kernel_rfl
theorem so6_r (u0 u1 u2 u3 u4 u5:Un) (I:AK):runB Tryz.f138 [eSc u1 u0,eSc u2 u1,eSc u3 u2,eSc u4 u3,eSc u5 u4] [unsA [u0,u1,u2,u3,u4,u5]] [1] I=gX ((eSc u1 u0).snd.args) (gX ((eSc u2 u1).snd.args) (gX ((eSc u3 u2).snd.args) (gX ((eSc u4 u3).snd.args) (gX ((eSc u5 u4).snd.args) (I (.slice 1 0 6 6 true) [some (.row (toAVs (unsD [u0,u1,u2,u3,u4,u5])) true 36)]))))):=by kernel_rfl
theorem unD_len (u:Un):(unD u).length=36:=rfl
theorem unsD_len (us:List Un):(unsD us).length=us.length*36:=by
 unfold unsD
 rw [flatten_len (sz:=36) (us.map unD) (fun c hc=>by obtain ⟨u,_,rfl⟩:=List.mem_map.1 hc;rfl),List.length_map]
theorem unsD_append (a b:List Un):unsD (a++b)=unsD a++unsD b:=by unfold unsD;simp
theorem fz_units {k:Nat} {M:Mem} {b cap sz':Nat} {op op':Bool} (us:List Un) (hk:k≤b) (hb:M.t.get b=some (.row (toAVs (unsD us)) op' sz')) (hc:us.length≤cap) :
  FzA k M (.slice b 0 us.length cap op) (unsA us):=by
 refine .dat _ (.slice us.length 36 (fun i=>unD (us.getD i un0))) (.slice b 0 us.length cap op _ op' sz' 36 _ hk hb hc ?_ fun i hi=>?_)
 ·rw [toAVs_length,unsD_len];omega
 ·rw [Nat.zero_add,toAVs_drop,toAVs_take]
  have h:=chunk_get (us.map unD) (sz:=36) i (fun c hc=>by obtain ⟨u,_,rfl⟩:=List.mem_map.1 hc;rfl) (by simpa using hi)
  unfold unsD
  rw [h]
  have e:(us.map unD).getD i []=unD (us.getD i un0):=by
   rw [List.getD_eq_getElem?_getD,List.getD_eq_getElem?_getD,List.getElem?_map,List.getElem?_eq_getElem hi];rfl
  rw [e]
  exact FzDs.sames _
theorem fz_units0 {k:Nat} {M:Mem}:FzA k M .nilSlice (unsA []):=.dat _ (.slice 0 36 _) (.nil _ _)
theorem open_c (i:Iv):BSim Tryz.prog 167 [ivA i] [] [] (.int .i64 (if i.ao=true then 1 else 0)):=by
 refine BSim.run hm hX0l (S:=[]) (fun _ h=>by cases h) okOpen (by kernel_rfl) rfl 300 [] _ (open_r i) ?_
 by_cases h:i.ao=true
 ·rw [if_pos h];exact gIf_t h (pdec_iff.2 (iL_leaf _))
 ·rw [if_neg h];exact gIf_f (by simpa using h) (pdec_iff.2 (iL_leaf _))
theorem okCmp146:FnOk Tryz.prog 146 Tryz.f146:=⟨Tryz.func146,by kernel_rfl,by kernel_rfl⟩
theorem c2_c (a b:Bool):∃ k,BSim Tryz.prog 146 [.int .i64 (if a=true then 1 else 0),.int .i64 (if b=true then 1 else 0)] [] [] (.int .i64 k):=by
 cases a<;>cases b
 ·exact ⟨_,BSim.run hm hX0l (S:=[]) (fun _ h=>by cases h) okCmp146 (by kernel_rfl) rfl 300 [] _ c2_00 (pdec_iff.2 (iL_leaf _))⟩
 ·exact ⟨_,BSim.run hm hX0l (S:=[]) (fun _ h=>by cases h) okCmp146 (by kernel_rfl) rfl 300 [] _ c2_01 (pdec_iff.2 (iL_leaf _))⟩
 ·exact ⟨_,BSim.run hm hX0l (S:=[]) (fun _ h=>by cases h) okCmp146 (by kernel_rfl) rfl 300 [] _ c2_10 (pdec_iff.2 (iL_leaf _))⟩
 ·exact ⟨_,BSim.run hm hX0l (S:=[]) (fun _ h=>by cases h) okCmp146 (by kernel_rfl) rfl 300 [] _ c2_11 (pdec_iff.2 (iL_leaf _))⟩
def SrtU (a b:Un):Prop:=∃ t u t' u':Nat,u<t∧t<2147483648∧t'<2147483648∧u'<2147483648∧a.iv.a=mg u∧b.iv.a=mg t∧a.iv.b=mg u'∧b.iv.b=mg t'
theorem sc_c {a b:Un} (h:SrtU b a):BSim Tryz.prog 166 [unA a,unA b] [] [] (.int .i64 1):=by
 obtain ⟨t,u,t',u',h1,h2,h3,h4,ea,eb,ea',eb'⟩:=h
 have c1:=cmp_t (t:=t) (u:=u) h2 (by omega)
 rw [← ea,← eb,Int.sign_eq_one_of_pos (by omega)] at c1
 have c3:=cmp_t (t:=t') (u:=u') h3 h4
 rw [← ea',← eb'] at c3
 obtain ⟨k,c2⟩:=c2_c a.iv.ao b.iv.ao
 refine BSim.run hm hX0l (S:=[eRC _ _ 1,eOp _ _,eOp _ _,eC2 _ _ _,eRC _ _ _]) (AllOk.mem ⟨c1.spec0 rfl,(open_c a.iv).spec0 rfl,(open_c b.iv).spec0 rfl,c2.spec0 rfl,c3.spec0 rfl,trivial⟩) okSc (by kernel_rfl) rfl 300 [] _ (sc_r a b _ _ _ _) ?_
 simp only [gX_iff,gB_iff,and_true,true_and]
 exact pdec_iff.2 (iL_leaf _)
def Cons2 {α:Type} (R:α→α→Prop):List α→Prop
 | x::y::l=>R x y∧Cons2 R (y::l)
 | _=>True
theorem units_leaf (us:List Un):Leaf 0 [1] [] (unsA us) (.slice 1 0 us.length us.length true) [some (.row (toAVs (unsD us)) true 36)] :=
 fun M' h=>⟨fz_units us (Nat.zero_le _) (List.cons.inj h).1 (Nat.le_refl _),fun j r hr=>by cases hr⟩
theorem scS {a b:Un} (h:SrtU b a):SSpec Tryz.prog (eSc a b).1 (eSc a b).2:=(sc_c h).spec0 rfl
theorem sorted_c {us:List Un} (h0:us≠[]) (h6:us.length≤6) (h:Cons2 SrtU us):BSim Tryz.prog 138 [unsA us] [] [] (unsA us):=by
 have s1:∀ u0:Un,True→BSim Tryz.prog 138 [unsA [u0]] [] [] (unsA [u0]):=fun u0 _ =>
  BSim.run hm hX0l (S:=[]) (AllOk.mem trivial) okSorted (by kernel_rfl) rfl 300 [1] _ (so1_r u0) (by
   simp only [gX_iff]
   exact pdec_iff.2 (units_leaf [u0]))
 have s2:∀ u0 u1:Un,SrtU u0 u1∧True→BSim Tryz.prog 138 [unsA [u0,u1]] [] [] (unsA [u0,u1]):=fun u0 u1 ⟨h0,_⟩ =>
  BSim.run hm hX0l (S:=[eSc u1 u0]) (AllOk.mem ⟨scS h0,trivial⟩) okSorted (by kernel_rfl) rfl 300 [1] _ (so2_r u0 u1) (by
   simp only [gX_iff]
   exact pdec_iff.2 (units_leaf [u0,u1]))
 have s3:∀ u0 u1 u2:Un,SrtU u0 u1∧SrtU u1 u2∧True→BSim Tryz.prog 138 [unsA [u0,u1,u2]] [] [] (unsA [u0,u1,u2]):=fun u0 u1 u2 ⟨h0,h1,_⟩ =>
  BSim.run hm hX0l (S:=[eSc u1 u0,eSc u2 u1]) (AllOk.mem ⟨scS h0,scS h1,trivial⟩) okSorted (by kernel_rfl) rfl 300 [1] _ (so3_r u0 u1 u2) (by
   simp only [gX_iff]
   exact pdec_iff.2 (units_leaf [u0,u1,u2]))
 have s4:∀ u0 u1 u2 u3:Un,SrtU u0 u1∧SrtU u1 u2∧SrtU u2 u3∧True→BSim Tryz.prog 138 [unsA [u0,u1,u2,u3]] [] [] (unsA [u0,u1,u2,u3]):=fun u0 u1 u2 u3 ⟨h0,h1,h2,_⟩ =>
  BSim.run hm hX0l (S:=[eSc u1 u0,eSc u2 u1,eSc u3 u2]) (AllOk.mem ⟨scS h0,scS h1,scS h2,trivial⟩) okSorted (by kernel_rfl) rfl 300 [1] _ (so4_r u0 u1 u2 u3) (by
   simp only [gX_iff]
   exact pdec_iff.2 (units_leaf [u0,u1,u2,u3]))
 have s5:∀ u0 u1 u2 u3 u4:Un,SrtU u0 u1∧SrtU u1 u2∧SrtU u2 u3∧SrtU u3 u4∧True→BSim Tryz.prog 138 [unsA [u0,u1,u2,u3,u4]] [] [] (unsA [u0,u1,u2,u3,u4]):=fun u0 u1 u2 u3 u4 ⟨h0,h1,h2,h3,_⟩ =>
  BSim.run hm hX0l (S:=[eSc u1 u0,eSc u2 u1,eSc u3 u2,eSc u4 u3]) (AllOk.mem ⟨scS h0,scS h1,scS h2,scS h3,trivial⟩) okSorted (by kernel_rfl) rfl 300 [1] _ (so5_r u0 u1 u2 u3 u4) (by
   simp only [gX_iff]
   exact pdec_iff.2 (units_leaf [u0,u1,u2,u3,u4]))
 have s6:∀ u0 u1 u2 u3 u4 u5:Un,SrtU u0 u1∧SrtU u1 u2∧SrtU u2 u3∧SrtU u3 u4∧SrtU u4 u5∧True→BSim Tryz.prog 138 [unsA [u0,u1,u2,u3,u4,u5]] [] [] (unsA [u0,u1,u2,u3,u4,u5]):=fun u0 u1 u2 u3 u4 u5 ⟨h0,h1,h2,h3,h4,_⟩ =>
  BSim.run hm hX0l (S:=[eSc u1 u0,eSc u2 u1,eSc u3 u2,eSc u4 u3,eSc u5 u4]) (AllOk.mem ⟨scS h0,scS h1,scS h2,scS h3,scS h4,trivial⟩) okSorted (by kernel_rfl) rfl 300 [1] _ (so6_r u0 u1 u2 u3 u4 u5) (by
   simp only [gX_iff]
   exact pdec_iff.2 (units_leaf [u0,u1,u2,u3,u4,u5]))
 match us,h0,h6,h with
 | [u0],_,_,_=>exact s1 u0 trivial
 | [u0,u1],_,_,⟨h0,_⟩=>exact s2 u0 u1 ⟨h0,trivial⟩
 | [u0,u1,u2],_,_,⟨h0,h1,_⟩=>exact s3 u0 u1 u2 ⟨h0,h1,trivial⟩
 | [u0,u1,u2,u3],_,_,⟨h0,h1,h2,_⟩=>exact s4 u0 u1 u2 u3 ⟨h0,h1,h2,trivial⟩
 | [u0,u1,u2,u3,u4],_,_,⟨h0,h1,h2,h3,_⟩=>exact s5 u0 u1 u2 u3 u4 ⟨h0,h1,h2,h3,trivial⟩
 | [u0,u1,u2,u3,u4,u5],_,_,⟨h0,h1,h2,h3,h4,_⟩=>exact s6 u0 u1 u2 u3 u4 u5 ⟨h0,h1,h2,h3,h4,trivial⟩
 | _::_::_::_::_::_::_::_,_,h6,_=>simp at h6
end
end
end Go.Proofs.YtodjhpjcgggamaaGreatDoor

namespace Go.Proofs.YtodjhpjcgggamaaGreatDoor
open Go Go.Eng Go.Vi Go.Knuth
noncomputable section
section
local instance : Go.Eng.Mode := Sb
def T140:Nat:=Tryz.f140.ntmps
def c140:Code:=codeOf Tryz.f140
def L140:Code:=lhs (post 3 c140)
def B140:Code:=bodyOf (bodyOf (rhs L140))
def gL (N:Nat) (g:Nat→Un):AV:=.dslice N 36 (fun i=>unD (g i))
def aF:AV:=.func (.func 170) [] [.ptr 0 0]
def oRow (b:Nat) (l:List Un):List AV:=List.rec (motive:=fun _=>List AV) [.nilSlice] (fun _ _ _=>[.slice b 0 l.length l.length true]) l
def oLoose (l:List Un):List Blk:=List.rec (motive:=fun _=>List Blk) [] (fun _ _ _=>[.row (toAVs (unsD l)) true 36]) l
def rowsU (l:List Un):List Blk:=.row (oRow 1 l) false 1::oLoose l
def aS (N i:Nat) (g:Nat→Un):List (Nat × AV):=[(3,.ptr 0 0),(4,aF),(8,gL N g),(9,.int .i64 (.ofNat N)),(10,.int .i64 (.ofNat i))]
def aV (N i:Nat) (g:Nat→Un):List (Option AV):=[some (.ptr 0 0),some aF,some (gL N g),some (.int .i64 (.ofNat N)),some (.int .i64 (.ofNat i))]
def eIn (i:Iv) (b:Bool):FuncId × SEnt:=(141,⟨[ivA i],[],.bool b⟩)
def rowsA (n:Nat) (L:List AV):List Blk:=[.row [.slice 1 0 n n true] false 1,.row L true 36]
def runA [Go.Eng.Mode] (S:List (FuncId × SEnt)) (l:List Blk) (N i:Nat) (g:Nat→Un) (π:List Nat) (I:IK):Bool :=
 Eng.exec Tryz.prog X0 S 300 T140 (rhs (rhs B140)) (mkFr (aS N i g)) (mkMem l) (fun o fr' M'=>I o (lv [3,4,8,9,10] fr') (mv π M'))
theorem okAtoms:FnOk Tryz.prog 140 Tryz.f140:=⟨Tryz.func140,by kernel_rfl,by kernel_rfl⟩
theorem a_start (N:Nat) (g:Nat→Un) (I:IK):xN [] 60 T140 3 c140 (argSlots [gL N g] 0) [] [0,3,4] [0] I=I .normal [some (gL N g),some (.ptr 0 0),some aF] [some (.row [.nilSlice] false 1)]:=by kernel_rfl
theorem a_init (N:Nat) (g:Nat→Un) (I:IK):xE [] 60 T140 (lhs L140) [(0,gL N g),(3,.ptr 0 0),(4,aF)] (rowsU []) [3,4,8,9,10] [0] I=I .normal (aV N 0 g) [some (.row [.nilSlice] false 1)]:=by kernel_rfl
theorem a_head (N i:Nat) (g:Nat→Un) (l:List Un) (π:List Nat) (I:IK):Eng.exec Tryz.prog X0 [] 60 T140 (lhs B140) (mkFr (aS N i g)) (mkMem (rowsU l)) (fun o fr' M'=>I o (lv [3,4,8,9,10,11] fr') (mv π M'))=I .normal (aV N i g++[some (.bool (ilt (.ofNat i) (.ofNat N)))]) (mv π (mkMem (rowsU l))):=by kernel_rfl
theorem a_fin (n:Nat) (L:List AV) (N i:Nat) (g:Nat→Un) (I:AK):xR [] 60 T140 (rhs (post 3 c140)) (aS N i g) (rowsA n L) Tryz.f140 [1] I=I (.slice 1 0 n n true) [some (.row L true 36)]:=by kernel_rfl
theorem a_fin0 (N i:Nat) (g:Nat→Un) (I:AK):xR [] 60 T140 (rhs (post 3 c140)) (aS N i g) (rowsU []) Tryz.f140 [] I=I .nilSlice []:=by kernel_rfl
theorem a_body:B140=.seq (lhs B140) (.seq (.cond (.tmp 11) .skip (.exit 0)) (rhs (rhs B140))):=by kernel_rfl
theorem a_loop:L140=.seq (lhs L140) (.block 0 (.loop B140)):=by kernel_rfl
theorem a_post:post 3 c140=.seq L140 (rhs (post 3 c140)):=by kernel_rfl
theorem a_cn (N i:Nat) (g:Nat→Un) (I:IK):@runA (So [(54,17,true),(54,44,true)]) [eIn (g i).iv false] (rowsU []) N i g [0,11] I=gB (Nat.blt i N) (gB (!(g i).iv.ao) (gX ((eIn (g i).iv false).snd.args) (gateP ((Nat.ble 2 1)=false) (gB (!(g i).iv.bo) (gateP ((Nat.ble 3 2)=false) (gB (inI64 ((Int.ofNat i).add 1)) (I .normal [some (.ptr 0 0),some (.func (Fn.func 170) [] [.ptr 0 0]),some (.dslice N 36 (fun i=>unD (g i))),some (.int .i64 (.ofNat N)),some (.int .i64 ((Int.ofNat i).add 1))] [some (.row [.slice 11 0 3 3 true] false 1),some (.row (toAVs (unsD [⟨⟨(g i).iv.a,(g i).iv.a,false,false⟩,(g i).f⟩,⟨⟨(g i).iv.a,(g i).iv.b,true,true⟩,(g i).f⟩,⟨⟨(g i).iv.b,(g i).iv.b,false,false⟩,(g i).f⟩])) true 36)]))))))):=by kernel_rfl
theorem a_cc (n:Nat) (L:List AV) (N i:Nat) (g:Nat→Un) (I:IK):@runA (So [(54,17,true),(54,44,true)]) [eIn (g i).iv false] (rowsA n L) N i g [0,12] I=gB (Nat.blt i N) (gB (!(g i).iv.ao) (gateP ((Nat.ble (Nat.add n 1) n)=false) (gB (Nat.ble (Nat.mul n 36) (lenL (List.drop 0 L))) (gB (Nat.beq (lenL L) (Nat.mul n 36)) (gB (Nat.ble (Nat.add n 1) 9223372036854775807) (gB (smallOk Tryz.prog 234 (n.add 1)) (gX ((eIn (g i).iv false).snd.args) (gateP ((Nat.ble (Nat.add (Nat.add n 1) 1) (Nat.add n 1))=false) (gB (Nat.ble (Nat.mul (Nat.add n 1) 36) (lenL (List.drop 0 (List.append (List.take (Nat.mul n 36) (List.drop 0 L)) (toAVs (unsD [⟨⟨(g i).iv.a,(g i).iv.a,false,false⟩,(g i).f⟩])))))) (gB (Nat.beq (lenL (List.append (List.take (Nat.mul n 36) (List.drop 0 L)) (toAVs (unsD [⟨⟨(g i).iv.a,(g i).iv.a,false,false⟩,(g i).f⟩])))) (Nat.mul (Nat.add n 1) 36)) (gB (Nat.ble (Nat.add (Nat.add n 1) 1) 9223372036854775807) (gB (smallOk Tryz.prog 234 ((n.add 1).add 1)) (gB (!(g i).iv.bo) (gateP ((Nat.ble (Nat.add (Nat.add (Nat.add n 1) 1) 1) (Nat.add (Nat.add n 1) 1))=false) (gB (Nat.ble (Nat.mul (Nat.add (Nat.add n 1) 1) 36) (lenL (List.drop 0 (List.append (List.take (Nat.mul (Nat.add n 1) 36) (List.drop 0 (List.append (List.take (Nat.mul n 36) (List.drop 0 L)) (toAVs (unsD [⟨⟨(g i).iv.a,(g i).iv.a,false,false⟩,(g i).f⟩]))))) (toAVs (unsD [⟨⟨(g i).iv.a,(g i).iv.b,true,true⟩,(g i).f⟩])))))) (gB (Nat.beq (lenL (List.append (List.take (Nat.mul (Nat.add n 1) 36) (List.drop 0 (List.append (List.take (Nat.mul n 36) (List.drop 0 L)) (toAVs (unsD [⟨⟨(g i).iv.a,(g i).iv.a,false,false⟩,(g i).f⟩]))))) (toAVs (unsD [⟨⟨(g i).iv.a,(g i).iv.b,true,true⟩,(g i).f⟩])))) (Nat.mul (Nat.add (Nat.add n 1) 1) 36)) (gB (Nat.ble (Nat.add (Nat.add (Nat.add n 1) 1) 1) 9223372036854775807) (gB (smallOk Tryz.prog 234 (((n.add 1).add 1).add 1)) (gB (inI64 ((Int.ofNat i).add 1)) (I .normal [some (.ptr 0 0),some (.func (Fn.func 170) [] [.ptr 0 0]),some (.dslice N 36 (fun i=>unD (g i))),some (.int .i64 (.ofNat N)),some (.int .i64 ((Int.ofNat i).add 1))] [some (.row [.slice 12 0 (Nat.add (Nat.add (Nat.add n 1) 1) 1) (Nat.add (Nat.add (Nat.add n 1) 1) 1) true] false 1),some (.row (List.append (List.take (Nat.mul (Nat.add (Nat.add n 1) 1) 36) (List.drop 0 (List.append (List.take (Nat.mul (Nat.add n 1) 36) (List.drop 0 (List.append (List.take (Nat.mul n 36) (List.drop 0 L)) (toAVs (unsD [⟨⟨(g i).iv.a,(g i).iv.a,false,false⟩,(g i).f⟩]))))) (toAVs (unsD [⟨⟨(g i).iv.a,(g i).iv.b,true,true⟩,(g i).f⟩]))))) (toAVs (unsD [⟨⟨(g i).iv.b,(g i).iv.b,false,false⟩,(g i).f⟩]))) true 36)])))))))))))))))))))):=by kernel_rfl
theorem a_oc (n:Nat) (L:List AV) (N i:Nat) (g:Nat→Un) (I:IK):@runA (So [(54,17,false),(54,44,true)]) [eIn (g i).iv false] (rowsA n L) N i g [0,8] I=gB (Nat.blt i N) (gN (!(g i).iv.ao) (gX ((eIn (g i).iv false).snd.args) (gateP ((Nat.ble (Nat.add n 1) n)=false) (gB (Nat.ble (Nat.mul n 36) (lenL (List.drop 0 L))) (gB (Nat.beq (lenL L) (Nat.mul n 36)) (gB (Nat.ble (Nat.add n 1) 9223372036854775807) (gB (smallOk Tryz.prog 234 (n.add 1)) (gB (!(g i).iv.bo) (gateP ((Nat.ble (Nat.add (Nat.add n 1) 1) (Nat.add n 1))=false) (gB (Nat.ble (Nat.mul (Nat.add n 1) 36) (lenL (List.drop 0 (List.append (List.take (Nat.mul n 36) (List.drop 0 L)) (toAVs (unsD [⟨⟨(g i).iv.a,(g i).iv.b,true,true⟩,(g i).f⟩])))))) (gB (Nat.beq (lenL (List.append (List.take (Nat.mul n 36) (List.drop 0 L)) (toAVs (unsD [⟨⟨(g i).iv.a,(g i).iv.b,true,true⟩,(g i).f⟩])))) (Nat.mul (Nat.add n 1) 36)) (gB (Nat.ble (Nat.add (Nat.add n 1) 1) 9223372036854775807) (gB (smallOk Tryz.prog 234 ((n.add 1).add 1)) (gB (inI64 ((Int.ofNat i).add 1)) (I .normal [some (.ptr 0 0),some (.func (Fn.func 170) [] [.ptr 0 0]),some (.dslice N 36 (fun i=>unD (g i))),some (.int .i64 (.ofNat N)),some (.int .i64 ((Int.ofNat i).add 1))] [some (.row [.slice 8 0 (Nat.add (Nat.add n 1) 1) (Nat.add (Nat.add n 1) 1) true] false 1),some (.row (List.append (List.take (Nat.mul (Nat.add n 1) 36) (List.drop 0 (List.append (List.take (Nat.mul n 36) (List.drop 0 L)) (toAVs (unsD [⟨⟨(g i).iv.a,(g i).iv.b,true,true⟩,(g i).f⟩]))))) (toAVs (unsD [⟨⟨(g i).iv.b,(g i).iv.b,false,false⟩,(g i).f⟩]))) true 36)]))))))))))))))):=by kernel_rfl
theorem a_ln (N i:Nat) (g:Nat→Un) (I:IK):@runA (So [(54,17,true)]) [eIn (g i).iv true] (rowsU []) N i g [0,5] I=gB (Nat.blt i N) (gB (!(g i).iv.ao) (gX ((eIn (g i).iv true).snd.args) (gB (inI64 ((Int.ofNat i).add 1)) (I .normal [some (.ptr 0 0),some (.func (Fn.func 170) [] [.ptr 0 0]),some (.dslice N 36 (fun i=>unD (g i))),some (.int .i64 (.ofNat N)),some (.int .i64 ((Int.ofNat i).add 1))] [some (.row [.slice 5 0 1 1 true] false 1),some (.row (toAVs (unsD [⟨⟨(g i).iv.a,(g i).iv.a,false,false⟩,(g i).f⟩])) true 36)])))):=by kernel_rfl
theorem a_lc (n:Nat) (L:List AV) (N i:Nat) (g:Nat→Un) (I:IK):@runA (So [(54,17,true)]) [eIn (g i).iv true] (rowsA n L) N i g [0,6] I=gB (Nat.blt i N) (gB (!(g i).iv.ao) (gateP ((Nat.ble (Nat.add n 1) n)=false) (gB (Nat.ble (Nat.mul n 36) (lenL (List.drop 0 L))) (gB (Nat.beq (lenL L) (Nat.mul n 36)) (gB (Nat.ble (Nat.add n 1) 9223372036854775807) (gB (smallOk Tryz.prog 234 (n.add 1)) (gX ((eIn (g i).iv true).snd.args) (gB (inI64 ((Int.ofNat i).add 1)) (I .normal [some (.ptr 0 0),some (.func (Fn.func 170) [] [.ptr 0 0]),some (.dslice N 36 (fun i=>unD (g i))),some (.int .i64 (.ofNat N)),some (.int .i64 ((Int.ofNat i).add 1))] [some (.row [.slice 6 0 (Nat.add n 1) (Nat.add n 1) true] false 1),some (.row (List.append (List.take (Nat.mul n 36) (List.drop 0 L)) (toAVs (unsD [⟨⟨(g i).iv.a,(g i).iv.a,false,false⟩,(g i).f⟩]))) true 36)]))))))))):=by kernel_rfl
theorem small234 (n:Nat):smallOk Tryz.prog 234 n=Nat.ble (Nat.mul n 408) 140737488355328:=by kernel_rfl
def atm (u:Un):List Un:=(if u.iv.ao=true then [] else [⟨⟨u.iv.a,u.iv.a,false,false⟩,u.f⟩])++(if u.iv.a=u.iv.b then [] else [⟨⟨u.iv.a,u.iv.b,true,true⟩,u.f⟩,⟨⟨u.iv.b,u.iv.b,false,false⟩,u.f⟩])
def atoms (us:List Un):List Un:=(us.map atm).flatten
theorem atoms_take {us:List Un} {i:Nat} (h:i<us.length):atoms (us.take (i+1))=atoms (us.take i)++atm (us.getD i un0):=by
 unfold atoms
 rw [List.take_add_one,List.map_append,List.flatten_append,List.getElem?_eq_getElem h,List.getD_eq_getElem?_getD,List.getElem?_eq_getElem h]
 simp
theorem atm_len (u:Un):(atm u).length≤3:=by
 unfold atm
 split<;>split<;>simp
theorem atoms_len (us:List Un):(atoms us).length≤3*us.length:=by
 induction us with
 | nil=>simp [atoms]
 | cons u us ih =>
  have:=atm_len u
  simp only [atoms,List.map_cons,List.flatten_cons,List.length_append,List.length_cons] at ih ⊢
  omega
def AtU (l:List Un) (M:Mem):Prop:=∃ b,M.t.get 0=some (.row (oRow b l) false 1)∧(l=[]∨(b≠0∧M.t.get b=some (.row (toAVs (unsD l)) true 36)))
theorem mv_two {M:Mem} {i:Nat} {a b:Option Blk} (h:mv [0,i] M=[a,b]):M.t.get 0=a∧M.t.get i=b:=by
 have h':[M.t.get 0,M.t.get i]=[a,b]:=h
 simpa using h'
theorem aS_vals (N i:Nat) (g:Nat→Un) (π:List Nat) (h:π[0]? = some 0):vals2 π (aS N i g)=aV N i g:=by
 cases π with
 | nil=>cases h
 | cons a π =>
  obtain rfl:a=0:=by simpa using h
  rfl
theorem aV_some (N i:Nat) (g:Nat→Un):∀ v∈aV N i g,v≠none:=by
 intro v hv e
 subst e
 simp [aV] at hv
theorem W.fromU {c:Code} {Q:AE→Fr→Mem→Prop} {fr:Fr} {M:Mem} {N i:Nat} {g:Nat→Un} {l:List Un} (hv:lv [3,4,8,9,10] fr=aV N i g) (hM:AtU l M)
  (h:W Tryz.prog T140 0 c (mkFr (aS N i g)) (mkMem (rowsU l)) Q):W Tryz.prog T140 0 c fr M Q:=by
 obtain ⟨j,h0,hj⟩:=hM
 cases l with
 | nil=>exact W.next (π:=[0]) (bs:=[some (.row (oRow 1 []) false 1)]) hv (by show [M.t.get 0]=_;rw [h0];rfl) (aS N i g) (rowsU []) rfl (aS_vals N i g [0] rfl) rfl (by decide) (aV_some N i g) (by simp) h
 | cons s l =>
  rcases hj with hj | ⟨hj0,hj⟩
  ·cases hj
  refine W.next (π:=[0,j]) (bs:=[some (.row (oRow j (s::l)) false 1),some (.row (toAVs (unsD (s::l))) true 36)]) hv (by show [M.t.get 0,M.t.get j]=_;rw [h0,hj]) (aS N i g) (rowsU (s::l)) rfl (aS_vals N i g [0,j] rfl) ?_ ?_ (aV_some N i g) (by simp) h
  ·show [renB [0,j] (.row (oRow 1 (s::l)) false 1),renB [0,j] (.row (toAVs (unsD (s::l))) true 36)]=_
   rw [renB_data]
   rfl
  ·unfold okPi
   have:(rowsU (s::l)).length=2:=rfl
   rw [this]
   simp [Ne.symm hj0]
theorem nble_succ (n:Nat):Nat.ble (Nat.add n 1) n=false:=by
 rw [← Bool.not_eq_true,Nat.ble_eq];exact Nat.not_succ_le_self _
theorem grow_row {sz:Nat} {n:Nat} {L:List AV} (h:L.length=n*sz) (c:List AV):List.append (List.take (Nat.mul n sz) L) c=L++c:=by
 rw [List.take_of_length_le (by show L.length≤n*sz;omega)];rfl
theorem ble_of {a b:Nat} (h:a≤b):Nat.ble a b=true:=by rw [Nat.ble_eq];exact h
theorem beq_of {a b:Nat} (h:a=b):Nat.beq a b=true:=by rw [h];exact Nat.beq_refl _
theorem atm_mid {u:Un} (h1:u.iv.ao=false) (h2:u.iv.a≠u.iv.b):atm u=[⟨⟨u.iv.a,u.iv.a,false,false⟩,u.f⟩,⟨⟨u.iv.a,u.iv.b,true,true⟩,u.f⟩,⟨⟨u.iv.b,u.iv.b,false,false⟩,u.f⟩]:=by
 unfold atm;rw [h1,if_neg (by decide),if_neg h2];rfl
theorem atm_open {u:Un} (h1:u.iv.ao=true) (h2:u.iv.a≠u.iv.b):atm u=[⟨⟨u.iv.a,u.iv.b,true,true⟩,u.f⟩,⟨⟨u.iv.b,u.iv.b,false,false⟩,u.f⟩]:=by
 unfold atm;rw [if_pos h1,if_neg h2];rfl
theorem atm_one {u:Un} (h1:u.iv.ao=false) (h2:u.iv.a=u.iv.b):atm u=[⟨⟨u.iv.a,u.iv.a,false,false⟩,u.f⟩]:=by
 unfold atm;rw [h1,if_neg (by decide),if_pos h2];rfl
theorem eInS (i:Iv):SSpec Tryz.prog (eIn i (decide (i.a=i.b))).1 (eIn i (decide (i.a=i.b))).2:=(instant_c i).spec0 rfl
theorem roundA {N i:Nat} {g:Nat→Un} {l:List Un} (hi:i<N) (hN:N≤1000) (hl:l.length≤3000) (hbo:(g i).iv.bo=false) (hin:(g i).iv.a=(g i).iv.b→(g i).iv.ao=false) (h0:l=[]→(g i).iv.ao=false)
  {Q:AE→Fr→Mem→Prop} (hQ:∀ fr M,lv [3,4,8,9,10] fr=aV N (i+1) g→AtU (l++atm (g i)) M→Q .normal fr M):W Tryz.prog T140 0 (rhs (rhs B140)) (mkFr (aS N i g)) (mkMem (rowsU l)) Q:=by
 have hI:inI64 ((Int.ofNat i).add 1)=true:=smallI _ (show i+1<_ by omega)
 have hb:Nat.blt i N=true:=by rw [Nat.blt_eq];exact hi
 have fin:∀ {b:Nat} {m:List Un},b≠0→m≠[]→∀ fr M,lv [3,4,8,9,10] fr=aV N (i+1) g→mv [0,b] M=[some (.row [.slice b 0 m.length m.length true] false 1),some (.row (toAVs (unsD m)) true 36)]→m=l++atm (g i)→Q .normal fr M:=by
  intro b m hb hm fr M hv hM e
  refine hQ fr M hv ⟨b,?_,.inr ⟨hb,?_⟩⟩
  ·rw [(mv_two hM).1,← e]
   cases m with
   | nil=>exact absurd rfl hm
   | cons=>rfl
  ·rw [(mv_two hM).2,← e]
 cases l with
 | nil =>
  have ha:=h0 rfl
  by_cases he:(g i).iv.a=(g i).iv.b
  ·have hs:=eInS (g i).iv
   rw [decide_eq_true he] at hs
   refine @W.run (So [(54,17,true)]) _ hm _ hX0l [eIn (g i).iv true] (AllOk.mem ⟨hs,trivial⟩) _ _ _ _ _ _ 300 [3,4,8,9,10] [0,5] _ (a_ln N i g) ?_
   simp only [gX_iff,gB_iff,gateP_iff]
   refine ⟨hb,by rw [ha];rfl,hI,pdec_iff.2 fun fr M hv hM=>fin (b:=5) (m:=atm (g i)) (by decide) (by rw [atm_one ha he];simp) fr M hv ?_ rfl⟩
   rw [hM,atm_one ha he];rfl
  ·have hs:=eInS (g i).iv
   rw [decide_eq_false he] at hs
   refine @W.run (So [(54,17,true),(54,44,true)]) _ hm _ hX0l [eIn (g i).iv false] (AllOk.mem ⟨hs,trivial⟩) _ _ _ _ _ _ 300 [3,4,8,9,10] [0,11] _ (a_cn N i g) ?_
   simp only [gX_iff,gB_iff,gateP_iff]
   refine ⟨hb,by rw [ha];rfl,by decide,by rw [hbo];rfl,by decide,hI,pdec_iff.2 fun fr M hv hM=>fin (b:=11) (m:=atm (g i)) (by decide) (by rw [atm_mid ha he];simp) fr M hv ?_ rfl⟩
   rw [hM,atm_mid ha he];rfl
 | cons s l =>
  have hLU:∀ (m:List Un) (c:List Un),toAVs (unsD m)++toAVs (unsD c)=toAVs (unsD (m++c)):=fun m c=>by rw [unsD_append,toAVs_append]
  have hlU:∀ m:List Un,(toAVs (unsD m)).length=m.length*36:=fun m=>by rw [toAVs_length,unsD_len]
  generalize hs:s::l=ll at *
  have g0:∀ c,List.append (List.take (Nat.mul ll.length 36) (toAVs (unsD ll))) c=toAVs (unsD ll)++c:=grow_row (hlU _)
  have g1:∀ a c,List.append (List.take (Nat.mul (Nat.add ll.length 1) 36) (toAVs (unsD (ll++[a])))) c=toAVs (unsD (ll++[a]))++c:=fun a=>grow_row (by rw [hlU,List.length_append];rfl)
  have g2:∀ a b c,List.append (List.take (Nat.mul (Nat.add (Nat.add ll.length 1) 1) 36) (toAVs (unsD (ll++[a]++[b])))) c=toAVs (unsD (ll++[a]++[b]))++c:=fun a b=>grow_row (by rw [hlU,List.length_append,List.length_append];rfl)
  have lne:ll≠[]:=by rw [← hs];simp
  have hrow:rowsU ll=rowsA ll.length (toAVs (unsD ll)):=by rw [← hs];rfl
  rw [hrow]
  by_cases he:(g i).iv.a=(g i).iv.b
  ·have ha:=hin he
   have hs:=eInS (g i).iv
   rw [decide_eq_true he] at hs
   refine @W.run (So [(54,17,true)]) _ hm _ hX0l [eIn (g i).iv true] (AllOk.mem ⟨hs,trivial⟩) _ _ _ _ _ _ 300 [3,4,8,9,10] [0,6] _ (a_lc ll.length (toAVs (unsD ll)) N i g) ?_
   simp only [gX_iff,gB_iff,gateP_iff,g0,hLU,small234,List.drop_zero,lenL_eq,hlU]
   refine ⟨hb,by rw [ha];rfl,nble_succ _,ble_of (Nat.le_refl _),Nat.beq_refl _,ble_of ?_,ble_of ?_,hI,pdec_iff.2 fun fr M hv hM=>fin (b:=6) (m:=ll++atm (g i)) (by decide) (by simp [lne]) fr M hv ?_ rfl⟩
   ·show ll.length+1≤_;omega
   ·show (ll.length+1)*408≤_;omega
   ·rw [hM,atm_one ha he];simp
  ·have hs:=eInS (g i).iv
   rw [decide_eq_false he] at hs
   by_cases ha:(g i).iv.ao=true
   ·refine @W.run (So [(54,17,false),(54,44,true)]) _ hm _ hX0l [eIn (g i).iv false] (AllOk.mem ⟨hs,trivial⟩) _ _ _ _ _ _ 300 [3,4,8,9,10] [0,8] _ (a_oc ll.length (toAVs (unsD ll)) N i g) ?_
    simp only [gX_iff,gB_iff,gN_iff,gateP_iff,g0,g1,hLU,small234,List.drop_zero,lenL_eq,hlU,List.length_append,List.length_cons,List.length_nil]
    refine ⟨hb,by rw [ha];rfl,nble_succ _,ble_of (Nat.le_refl _),Nat.beq_refl _,ble_of ?_,ble_of ?_,by rw [hbo];rfl,nble_succ _,ble_of (Nat.le_refl _),Nat.beq_refl _,ble_of ?_,ble_of ?_,hI,pdec_iff.2 fun fr M hv hM=>fin (b:=8) (m:=ll++atm (g i)) (by decide) (by simp [lne]) fr M hv ?_ rfl⟩
    ·show ll.length+1≤_;omega
    ·show (ll.length+1)*408≤_;omega
    ·show ll.length+1+1≤_;omega
    ·show (ll.length+1+1)*408≤_;omega
    ·rw [hM,atm_open ha he];simp
   ·have ha:(g i).iv.ao=false:=by simpa using ha
    refine @W.run (So [(54,17,true),(54,44,true)]) _ hm _ hX0l [eIn (g i).iv false] (AllOk.mem ⟨hs,trivial⟩) _ _ _ _ _ _ 300 [3,4,8,9,10] [0,12] _ (a_cc ll.length (toAVs (unsD ll)) N i g) ?_
    simp only [gX_iff,gB_iff,gateP_iff,g0,g1,g2,hLU,small234,List.drop_zero,lenL_eq,hlU,List.length_append,List.length_cons,List.length_nil]
    refine ⟨hb,by rw [ha];rfl,nble_succ _,ble_of (Nat.le_refl _),Nat.beq_refl _,ble_of ?_,ble_of ?_,nble_succ _,ble_of (Nat.le_refl _),Nat.beq_refl _,ble_of ?_,ble_of ?_,by rw [hbo];rfl,nble_succ _,ble_of (Nat.le_refl _),Nat.beq_refl _,ble_of ?_,ble_of ?_,hI,pdec_iff.2 fun fr M hv hM=>fin (b:=12) (m:=ll++atm (g i)) (by decide) (by simp [lne]) fr M hv ?_ rfl⟩
    ·show ll.length+1≤_;omega
    ·show (ll.length+1)*408≤_;omega
    ·show ll.length+1+1≤_;omega
    ·show (ll.length+1+1)*408≤_;omega
    ·show ll.length+1+1+1≤_;omega
    ·show (ll.length+1+1+1)*408≤_;omega
    ·rw [hM,atm_mid ha he];simp
def AtOk (us:List Un):Prop:=(∀ u∈us,u.iv.bo=false∧(u.iv.a=u.iv.b→u.iv.ao=false))∧∀ u,us.head? = some u→u.iv.ao=false
theorem atm_ne (u:Un) (h:u.iv.ao=false):atm u≠[]:=by unfold atm;rw [h];simp
theorem loopA {us:List Un} (h:AtOk us) (hN:us.length≤1000) {fr:Fr} {M:Mem} (hv:lv [3,4,8,9,10] fr=aV us.length 0 (fun i=>us.getD i un0)) (hM:AtU [] M) {Q:AE→Fr→Mem→Prop}
  (hQ:∀ fr M,lv [3,4,8,9,10] fr=aV us.length us.length (fun i=>us.getD i un0)→AtU (atoms us) M→Q .normal fr M) :
  W Tryz.prog T140 0 (.block 0 (.loop B140)) fr M Q:=by
 refine W.block (W.loop (σ:={ i:Nat // i≤us.length }) (fun i fr M=>lv [3,4,8,9,10] fr=aV us.length i.1 (fun i=>us.getD i un0)∧AtU (atoms (us.take i.1)) M) (fun i=>us.length-i.1) ?_ ⟨0,Nat.zero_le _⟩ ⟨hv,hM⟩)
 rintro ⟨i,hi⟩ fr M ⟨hv,hM⟩
 simp only at hv hM
 refine W.fromU hv hM ?_
 rw [a_body]
 have hh:=a_head us.length i (fun i=>us.getD i un0) (atoms (us.take i)) [0,1]
 refine W.seq ?_
 have key:=fun Q=>@W.run Sb Tryz.prog hm X0 hX0l [] (fun _ h=>by cases h) T140 0 _ _ _ Q 60 [3,4,8,9,10,11] [0,1] _ hh
 refine key _ (pdec_iff.2 fun fr1 M1 hl1 hm1=>?_)
 have h':[fr1.get 3,fr1.get 4,fr1.get 8,fr1.get 9,fr1.get 10,fr1.get 11]=_:=hl1
 simp only [aV,List.cons_append,List.nil_append,List.cons.injEq] at h'
 have hv1:lv [3,4,8,9,10] fr1=aV us.length i (fun i=>us.getD i un0):=by
  show [fr1.get 3,fr1.get 4,fr1.get 8,fr1.get 9,fr1.get 10]=_
  rw [h'.1,h'.2.1,h'.2.2.1,h'.2.2.2.1,h'.2.2.2.2.1]
  rfl
 have hM1:AtU (atoms (us.take i)) M1:=by
  obtain ⟨g0,g1⟩:=mv_two hm1
  cases hls:atoms (us.take i) with
  | nil=>rw [hls] at g0;exact ⟨1,g0,.inl rfl⟩
  | cons s l=>rw [hls] at g0 g1;exact ⟨1,g0,.inr ⟨by decide,g1⟩⟩
 refine W.seq ?_
 by_cases hlt:i<us.length
 ·have hc:ilt (.ofNat i) (.ofNat us.length)=true:=by rw [natlt];exact decide_eq_true hlt
  rw [hc] at h'
  refine W.cond true h'.2.2.2.2.2.1 (fun _=>W.skip ?_) (fun h=>by cases h)
  show W Tryz.prog T140 0 (rhs (rhs B140)) fr1 M1 _
  refine W.fromU hv1 hM1 ?_
  have hu:us.getD i un0=us[i]:=by rw [List.getD_eq_getElem?_getD,List.getElem?_eq_getElem hlt];rfl
  have hmem:us.getD i un0∈us:=by rw [hu];exact List.getElem_mem hlt
  refine roundA hlt hN ?_ (h.1 _ hmem).1 (h.1 _ hmem).2 ?_ (fun fr2 M2 hv2 hM2=>?_)
  ·have:=atoms_len (us.take i)
   rw [List.length_take] at this
   omega
  ·intro h0
   cases i with
   | zero=>exact h.2 _ (by rw [hu];cases us with | nil=>simp at hlt | cons=>rfl)
   | succ i =>
    cases us with
    | nil=>simp at hlt
    | cons u us =>
     exfalso
     have:=atm_ne u (h.2 u rfl)
     rw [List.take_succ_cons] at h0
     simp only [atoms,List.map_cons,List.flatten_cons,List.append_eq_nil_iff] at h0
     exact this h0.1
  ·refine .inl ⟨rfl,⟨i+1,hlt⟩,by simp only;omega,hv2,?_⟩
   simp only
   rw [atoms_take hlt]
   exact hM2
 ·have hc:ilt (.ofNat i) (.ofNat us.length)=false:=by rw [natlt];exact decide_eq_false hlt
  rw [hc] at h'
  refine W.cond false h'.2.2.2.2.2.1 (fun h=>by cases h) (fun _=>W.exit ?_)
  obtain rfl:i=us.length:=by omega
  rw [List.take_length] at hM1
  exact .inr ⟨by simp,Blkd_eq (hQ _ _ hv1 hM1)⟩
theorem atoms_c {us:List Un} (h:AtOk us) (hN:us.length≤1000):BSim Tryz.prog 140 [unsA us] [] [] (unsA (atoms us)):=by
 refine BSim.of_W okAtoms.at_ (codeOf_some okAtoms.body) okAtoms.name (nble_le (by kernel_rfl)) rfl ?_
 show W Tryz.prog T140 0 c140 (mkFr (argSlots [gL us.length (fun i=>us.getD i un0)] 0)) (mkMem []) (Fin Tryz.prog Tryz.f140 0 [] (unsA (atoms us)))
 have hh:=a_start us.length (fun i=>us.getD i un0)
 have key:=fun Q=>@W.runN Sb Tryz.prog hm X0 hX0l [] (fun _ h=>by cases h) T140 0 _ _ _ Q 60 3 [0,3,4] [0] _ hh
 refine key _ (pdec_iff.2 fun fr M hv hM=>?_)
 show W Tryz.prog T140 0 (post 3 c140) fr M _
 rw [a_post]
 refine W.seq ?_
 rw [a_loop]
 refine W.next (π:=[0]) hv hM [(0,gL us.length (fun i=>us.getD i un0)),(3,.ptr 0 0),(4,aF)] (rowsU []) rfl rfl rfl (by decide) (by simp) (by simp) ?_
 have hh2:=a_init us.length (fun i=>us.getD i un0)
 have key2:=fun Q=>@W.run Sb Tryz.prog hm X0 hX0l [] (fun _ h=>by cases h) T140 0 _ _ _ Q 60 [3,4,8,9,10] [0] _ hh2
 refine W.seq (key2 _ (pdec_iff.2 fun fr1 M1 hv1 hm1=>?_))
 refine loopA h hN hv1 ⟨1,(List.cons.inj hm1).1,.inl rfl⟩ fun fr2 M2 hv2 hM2=>?_
 refine W.fromU hv2 hM2 ?_
 generalize he:atoms us=l
 cases l with
 | nil =>
  have hh3:=a_fin0 us.length us.length (fun i=>us.getD i un0)
  have key3:=@W.finRun Sb Tryz.prog hm X0 hX0l [] (fun _ h=>by cases h) Tryz.f140 T140 0 _ _ _ [] (unsA []) 60 [] _ hh3
  exact key3 (pdec_iff.2 fun M' _=>⟨fz_units0,fun j r hr=>by cases hr⟩)
 | cons s l =>
  have hh3:=a_fin (s::l).length (toAVs (unsD (s::l))) us.length us.length (fun i=>us.getD i un0)
  have key3:=@W.finRun Sb Tryz.prog hm X0 hX0l [] (fun _ h=>by cases h) Tryz.f140 T140 0 _ _ _ [] (unsA (s::l)) 60 [1] _ hh3
  exact key3 (pdec_iff.2 fun M' h=>⟨fz_units (s::l) (Nat.zero_le _) (List.cons.inj h).1 (Nat.le_refl _),fun j r hr=>by cases hr⟩)
end
end
end Go.Proofs.YtodjhpjcgggamaaGreatDoor

namespace Go.Proofs.YtodjhpjcgggamaaGreatDoor
open Go Go.Eng Go.Vi Go.Knuth
noncomputable section
section
local instance : Go.Eng.Mode := Sb
def T109:Nat:=Tryz.f109.ntmps
def c109:Code:=codeOf Tryz.f109
def L109:Code:=lhs (post 5 c109)
def B109:Code:=bodyOf (bodyOf (rhs L109))
def nS (out:AV) (N i:Nat) (g:Nat→Un):List (Nat × AV):=[(0,.iface 199 (.agg [])),(7,out),(8,gL N g),(41,gL N g),(42,.int .i64 (.ofNat N)),(43,.int .i64 (.ofNat i))]
def nV (out:AV) (N i:Nat) (g:Nat→Un):List (Option AV):=[some (.iface 199 (.agg [])),some out,some (gL N g),some (gL N g),some (.int .i64 (.ofNat N)),some (.int .i64 (.ofNat i))]
def eSame (f g:Ln) (t:List UInt8):FuncId × SEnt:=(234,⟨[.agg [],lnA f,lnA g,tmA t],[],.bool true⟩)
def eEq (f g:Ln) (b:Bool):FuncId × SEnt:=(232,⟨[.agg [],lnA f,lnA g],[],.bool b⟩)
def eRdc (f:Ln) (t:List UInt8):FuncId × SEnt:=(233,⟨[.agg [],lnA f,tmA t],[],lnA f⟩)
def oA (b m:Nat):AV:=.slice b 0 m m true
def oB (us:List Un):Blk:=.row (toAVs (unsD us)) true 36
def runR [Go.Eng.Mode] (S:List (FuncId × SEnt)) (out:AV) (bs:List Blk) (N i:Nat) (g:Nat→Un) (π:List Nat) (I:IK):Bool :=
 Eng.exec Tryz.prog X0 S 300 T109 (rhs (rhs B109)) (mkFr (nS out N i g)) (mkMem bs) (fun o fr' M'=>I o (lv [0,7,8,41,42,43] fr') (mv π M'))
theorem head109 (N i:Nat) (g:Nat→Un) (out:AV) (bs:List Blk) (π:List Nat) (I:IK):Eng.exec Tryz.prog X0 [] 60 T109 (lhs B109) (mkFr (nS out N i g)) (mkMem bs) (fun o fr' M'=>I o (lv [0,7,8,41,42,43,44] fr') (mv π M'))=I .normal (nV out N i g++[some (.bool (ilt (.ofNat i) (.ofNat N)))]) (mv π (mkMem bs)):=by kernel_rfl
theorem nA0 (N i:Nat) (g:Nat→Un) (I:IK):@runR (So [(219,189,true),(219,199,true)]) [eIn (g i).iv true,eSame (g (i+1)).f (g i).f (g i).iv.a] .nilSlice [] N i g [] I=gB (Nat.blt i N) (gX ((eIn (g i).iv true).snd.args) (gB (inI64 ((Int.ofNat i).add 1)) (gB (ilt ((Int.ofNat i).add 1) (.ofNat N)) (gB (inI64 ((Int.ofNat i).add 1)) (gB (Nat.blt (i+1) N) (gB (seqA (g (i+1)).iv.a.length (enc (g (i+1)).iv.a) (g i).iv.a.length (enc (g i).iv.a)) (gB (inI64 ((Int.ofNat i).add 1)) (gB (Nat.blt (i+1) N) (gX ((eSame (g (i+1)).f (g i).f (g i).iv.a).snd.args) (gB (inI64 ((Int.ofNat i).add 1)) (I .normal [some (.iface 199 (.agg [])),some .nilSlice,some (.dslice N 36 (fun i=>unD (g i))),some (.dslice N 36 (fun i=>unD (g i))),some (.int .i64 (.ofNat N)),some (.int .i64 ((Int.ofNat i).add 1))] []))))))))))):=by kernel_rfl
theorem nA1 (u1:Un) (N i:Nat) (g:Nat→Un) (I:IK):@runR (So [(219,64,false),(219,189,true),(219,199,true)]) [eIn (g i).iv true,eSame (g (i+1)).f (g i).f (g i).iv.a] (oA 0 1) [oB [u1]] N i g [0] I=gB (Nat.blt i N) (gN (seqA u1.iv.b.length (enc u1.iv.b) (g i).iv.a.length (enc (g i).iv.a)) (gX ((eIn (g i).iv true).snd.args) (gB (inI64 ((Int.ofNat i).add 1)) (gB (ilt ((Int.ofNat i).add 1) (.ofNat N)) (gB (inI64 ((Int.ofNat i).add 1)) (gB (Nat.blt (i+1) N) (gB (seqA (g (i+1)).iv.a.length (enc (g (i+1)).iv.a) (g i).iv.a.length (enc (g i).iv.a)) (gB (inI64 ((Int.ofNat i).add 1)) (gB (Nat.blt (i+1) N) (gX ((eSame (g (i+1)).f (g i).f (g i).iv.a).snd.args) (gB (inI64 ((Int.ofNat i).add 1)) (I .normal [some (.iface 199 (.agg [])),some (.slice 0 0 1 1 true),some (.dslice N 36 (fun i=>unD (g i))),some (.dslice N 36 (fun i=>unD (g i))),some (.int .i64 (.ofNat N)),some (.int .i64 ((Int.ofNat i).add 1))] [some (.row (toAVs (unsD [u1])) true 36)])))))))))))):=by kernel_rfl
theorem nA2 (u1 u2:Un) (N i:Nat) (g:Nat→Un) (I:IK):@runR (So [(219,64,false),(219,189,true),(219,199,true)]) [eIn (g i).iv true,eSame (g (i+1)).f (g i).f (g i).iv.a] (oA 0 2) [oB [u1,u2]] N i g [0] I=gB (Nat.blt i N) (gN (seqA u2.iv.b.length (enc u2.iv.b) (g i).iv.a.length (enc (g i).iv.a)) (gX ((eIn (g i).iv true).snd.args) (gB (inI64 ((Int.ofNat i).add 1)) (gB (ilt ((Int.ofNat i).add 1) (.ofNat N)) (gB (inI64 ((Int.ofNat i).add 1)) (gB (Nat.blt (i+1) N) (gB (seqA (g (i+1)).iv.a.length (enc (g (i+1)).iv.a) (g i).iv.a.length (enc (g i).iv.a)) (gB (inI64 ((Int.ofNat i).add 1)) (gB (Nat.blt (i+1) N) (gX ((eSame (g (i+1)).f (g i).f (g i).iv.a).snd.args) (gB (inI64 ((Int.ofNat i).add 1)) (I .normal [some (.iface 199 (.agg [])),some (.slice 0 0 2 2 true),some (.dslice N 36 (fun i=>unD (g i))),some (.dslice N 36 (fun i=>unD (g i))),some (.int .i64 (.ofNat N)),some (.int .i64 ((Int.ofNat i).add 1))] [some (.row (toAVs (unsD [u1,u2])) true 36)])))))))))))):=by kernel_rfl
theorem nA3 (u1 u2 u3:Un) (N i:Nat) (g:Nat→Un) (I:IK):@runR (So [(219,64,false),(219,189,true),(219,199,true)]) [eIn (g i).iv true,eSame (g (i+1)).f (g i).f (g i).iv.a] (oA 0 3) [oB [u1,u2,u3]] N i g [0] I=gB (Nat.blt i N) (gN (seqA u3.iv.b.length (enc u3.iv.b) (g i).iv.a.length (enc (g i).iv.a)) (gX ((eIn (g i).iv true).snd.args) (gB (inI64 ((Int.ofNat i).add 1)) (gB (ilt ((Int.ofNat i).add 1) (.ofNat N)) (gB (inI64 ((Int.ofNat i).add 1)) (gB (Nat.blt (i+1) N) (gB (seqA (g (i+1)).iv.a.length (enc (g (i+1)).iv.a) (g i).iv.a.length (enc (g i).iv.a)) (gB (inI64 ((Int.ofNat i).add 1)) (gB (Nat.blt (i+1) N) (gX ((eSame (g (i+1)).f (g i).f (g i).iv.a).snd.args) (gB (inI64 ((Int.ofNat i).add 1)) (I .normal [some (.iface 199 (.agg [])),some (.slice 0 0 3 3 true),some (.dslice N 36 (fun i=>unD (g i))),some (.dslice N 36 (fun i=>unD (g i))),some (.int .i64 (.ofNat N)),some (.int .i64 ((Int.ofNat i).add 1))] [some (.row (toAVs (unsD [u1,u2,u3])) true 36)])))))))))))):=by kernel_rfl
theorem nA4 (u1 u2 u3 u4:Un) (N i:Nat) (g:Nat→Un) (I:IK):@runR (So [(219,64,false),(219,189,true),(219,199,true)]) [eIn (g i).iv true,eSame (g (i+1)).f (g i).f (g i).iv.a] (oA 0 4) [oB [u1,u2,u3,u4]] N i g [0] I=gB (Nat.blt i N) (gN (seqA u4.iv.b.length (enc u4.iv.b) (g i).iv.a.length (enc (g i).iv.a)) (gX ((eIn (g i).iv true).snd.args) (gB (inI64 ((Int.ofNat i).add 1)) (gB (ilt ((Int.ofNat i).add 1) (.ofNat N)) (gB (inI64 ((Int.ofNat i).add 1)) (gB (Nat.blt (i+1) N) (gB (seqA (g (i+1)).iv.a.length (enc (g (i+1)).iv.a) (g i).iv.a.length (enc (g i).iv.a)) (gB (inI64 ((Int.ofNat i).add 1)) (gB (Nat.blt (i+1) N) (gX ((eSame (g (i+1)).f (g i).f (g i).iv.a).snd.args) (gB (inI64 ((Int.ofNat i).add 1)) (I .normal [some (.iface 199 (.agg [])),some (.slice 0 0 4 4 true),some (.dslice N 36 (fun i=>unD (g i))),some (.dslice N 36 (fun i=>unD (g i))),some (.int .i64 (.ofNat N)),some (.int .i64 ((Int.ofNat i).add 1))] [some (.row (toAVs (unsD [u1,u2,u3,u4])) true 36)])))))))))))):=by kernel_rfl
theorem nA5 (u1 u2 u3 u4 u5:Un) (N i:Nat) (g:Nat→Un) (I:IK):@runR (So [(219,64,false),(219,189,true),(219,199,true)]) [eIn (g i).iv true,eSame (g (i+1)).f (g i).f (g i).iv.a] (oA 0 5) [oB [u1,u2,u3,u4,u5]] N i g [0] I=gB (Nat.blt i N) (gN (seqA u5.iv.b.length (enc u5.iv.b) (g i).iv.a.length (enc (g i).iv.a)) (gX ((eIn (g i).iv true).snd.args) (gB (inI64 ((Int.ofNat i).add 1)) (gB (ilt ((Int.ofNat i).add 1) (.ofNat N)) (gB (inI64 ((Int.ofNat i).add 1)) (gB (Nat.blt (i+1) N) (gB (seqA (g (i+1)).iv.a.length (enc (g (i+1)).iv.a) (g i).iv.a.length (enc (g i).iv.a)) (gB (inI64 ((Int.ofNat i).add 1)) (gB (Nat.blt (i+1) N) (gX ((eSame (g (i+1)).f (g i).f (g i).iv.a).snd.args) (gB (inI64 ((Int.ofNat i).add 1)) (I .normal [some (.iface 199 (.agg [])),some (.slice 0 0 5 5 true),some (.dslice N 36 (fun i=>unD (g i))),some (.dslice N 36 (fun i=>unD (g i))),some (.int .i64 (.ofNat N)),some (.int .i64 ((Int.ofNat i).add 1))] [some (.row (toAVs (unsD [u1,u2,u3,u4,u5])) true 36)])))))))))))):=by kernel_rfl
theorem nB0 (N j:Nat) (g:Nat→Un) (I:IK):@runR (So [(219,130,true),(219,149,true)]) [eIn (g (Nat.succ j)).iv false,eIn (g j).iv true] .nilSlice [] N (Nat.succ j) g [4] I=gB (Nat.blt j.succ N) (gX ((eIn (g j.succ).iv false).snd.args) (gB (inI64 (subI (.ofNat j.succ) 1)) (gB (Nat.blt j N) (gX ((eIn (g j).iv true).snd.args) (gB (inI64 (subI (.ofNat j.succ) 1)) (gB (Nat.blt j N) (gB (seqA (g j).iv.a.length (enc (g j).iv.a) (g j.succ).iv.a.length (enc (g j.succ).iv.a)) (gB (inI64 ((Int.ofNat j.succ).add 1)) (I .normal [some (.iface 199 (.agg [])),some (.slice 4 0 1 1 true),some (.dslice N 36 (fun i=>unD (g i))),some (.dslice N 36 (fun i=>unD (g i))),some (.int .i64 (.ofNat N)),some (.int .i64 ((Int.ofNat j.succ).add 1))] [some (.row (toAVs (unsD [⟨⟨(g j.succ).iv.a,(g j.succ).iv.b,false,(g j.succ).iv.bo⟩,(g j.succ).f⟩])) true 36)]))))))))):=by kernel_rfl
theorem nB1 (u1:Un) (N j:Nat) (g:Nat→Un) (I:IK):@runR (So [(219,64,false),(219,130,true),(219,149,true),(31,19,false)]) [eIn (g (Nat.succ j)).iv false,eIn (g j).iv true] (oA 0 1) [oB [u1]] N (Nat.succ j) g [5] I=gB (Nat.blt j.succ N) (gN (seqA u1.iv.b.length (enc u1.iv.b) (g j.succ).iv.a.length (enc (g j.succ).iv.a)) (gX ((eIn (g j.succ).iv false).snd.args) (gB (inI64 (subI (.ofNat j.succ) 1)) (gB (Nat.blt j N) (gX ((eIn (g j).iv true).snd.args) (gB (inI64 (subI (.ofNat j.succ) 1)) (gB (Nat.blt j N) (gB (seqA (g j).iv.a.length (enc (g j).iv.a) (g j.succ).iv.a.length (enc (g j.succ).iv.a)) (gN (seqA u1.iv.b.length (enc u1.iv.b) (g j.succ).iv.a.length (enc (g j.succ).iv.a)) (gateP ((Nat.ble 2 1)=false) (gB (inI64 ((Int.ofNat j.succ).add 1)) (I .normal [some (.iface 199 (.agg [])),some (.slice 5 0 2 2 true),some (.dslice N 36 (fun i=>unD (g i))),some (.dslice N 36 (fun i=>unD (g i))),some (.int .i64 (.ofNat N)),some (.int .i64 ((Int.ofNat j.succ).add 1))] [some (.row (toAVs (unsD [u1,⟨⟨(g j.succ).iv.a,(g j.succ).iv.b,false,(g j.succ).iv.bo⟩,(g j.succ).f⟩])) true 36)])))))))))))):=by kernel_rfl
theorem nB2 (u1 u2:Un) (N j:Nat) (g:Nat→Un) (I:IK):@runR (So [(219,64,false),(219,130,true),(219,149,true),(31,19,false)]) [eIn (g (Nat.succ j)).iv false,eIn (g j).iv true] (oA 0 2) [oB [u1,u2]] N (Nat.succ j) g [5] I=gB (Nat.blt j.succ N) (gN (seqA u2.iv.b.length (enc u2.iv.b) (g j.succ).iv.a.length (enc (g j.succ).iv.a)) (gX ((eIn (g j.succ).iv false).snd.args) (gB (inI64 (subI (.ofNat j.succ) 1)) (gB (Nat.blt j N) (gX ((eIn (g j).iv true).snd.args) (gB (inI64 (subI (.ofNat j.succ) 1)) (gB (Nat.blt j N) (gB (seqA (g j).iv.a.length (enc (g j).iv.a) (g j.succ).iv.a.length (enc (g j.succ).iv.a)) (gN (seqA u2.iv.b.length (enc u2.iv.b) (g j.succ).iv.a.length (enc (g j.succ).iv.a)) (gateP ((Nat.ble 3 2)=false) (gB (inI64 ((Int.ofNat j.succ).add 1)) (I .normal [some (.iface 199 (.agg [])),some (.slice 5 0 3 3 true),some (.dslice N 36 (fun i=>unD (g i))),some (.dslice N 36 (fun i=>unD (g i))),some (.int .i64 (.ofNat N)),some (.int .i64 ((Int.ofNat j.succ).add 1))] [some (.row (toAVs (unsD [u1,u2,⟨⟨(g j.succ).iv.a,(g j.succ).iv.b,false,(g j.succ).iv.bo⟩,(g j.succ).f⟩])) true 36)])))))))))))):=by kernel_rfl
theorem nB3 (u1 u2 u3:Un) (N j:Nat) (g:Nat→Un) (I:IK):@runR (So [(219,64,false),(219,130,true),(219,149,true),(31,19,false)]) [eIn (g (Nat.succ j)).iv false,eIn (g j).iv true] (oA 0 3) [oB [u1,u2,u3]] N (Nat.succ j) g [5] I=gB (Nat.blt j.succ N) (gN (seqA u3.iv.b.length (enc u3.iv.b) (g j.succ).iv.a.length (enc (g j.succ).iv.a)) (gX ((eIn (g j.succ).iv false).snd.args) (gB (inI64 (subI (.ofNat j.succ) 1)) (gB (Nat.blt j N) (gX ((eIn (g j).iv true).snd.args) (gB (inI64 (subI (.ofNat j.succ) 1)) (gB (Nat.blt j N) (gB (seqA (g j).iv.a.length (enc (g j).iv.a) (g j.succ).iv.a.length (enc (g j.succ).iv.a)) (gN (seqA u3.iv.b.length (enc u3.iv.b) (g j.succ).iv.a.length (enc (g j.succ).iv.a)) (gateP ((Nat.ble 4 3)=false) (gB (inI64 ((Int.ofNat j.succ).add 1)) (I .normal [some (.iface 199 (.agg [])),some (.slice 5 0 4 4 true),some (.dslice N 36 (fun i=>unD (g i))),some (.dslice N 36 (fun i=>unD (g i))),some (.int .i64 (.ofNat N)),some (.int .i64 ((Int.ofNat j.succ).add 1))] [some (.row (toAVs (unsD [u1,u2,u3,⟨⟨(g j.succ).iv.a,(g j.succ).iv.b,false,(g j.succ).iv.bo⟩,(g j.succ).f⟩])) true 36)])))))))))))):=by kernel_rfl
theorem nB4 (u1 u2 u3 u4:Un) (N j:Nat) (g:Nat→Un) (I:IK):@runR (So [(219,64,false),(219,130,true),(219,149,true),(31,19,false)]) [eIn (g (Nat.succ j)).iv false,eIn (g j).iv true] (oA 0 4) [oB [u1,u2,u3,u4]] N (Nat.succ j) g [5] I=gB (Nat.blt j.succ N) (gN (seqA u4.iv.b.length (enc u4.iv.b) (g j.succ).iv.a.length (enc (g j.succ).iv.a)) (gX ((eIn (g j.succ).iv false).snd.args) (gB (inI64 (subI (.ofNat j.succ) 1)) (gB (Nat.blt j N) (gX ((eIn (g j).iv true).snd.args) (gB (inI64 (subI (.ofNat j.succ) 1)) (gB (Nat.blt j N) (gB (seqA (g j).iv.a.length (enc (g j).iv.a) (g j.succ).iv.a.length (enc (g j.succ).iv.a)) (gN (seqA u4.iv.b.length (enc u4.iv.b) (g j.succ).iv.a.length (enc (g j.succ).iv.a)) (gateP ((Nat.ble 5 4)=false) (gB (inI64 ((Int.ofNat j.succ).add 1)) (I .normal [some (.iface 199 (.agg [])),some (.slice 5 0 5 5 true),some (.dslice N 36 (fun i=>unD (g i))),some (.dslice N 36 (fun i=>unD (g i))),some (.int .i64 (.ofNat N)),some (.int .i64 ((Int.ofNat j.succ).add 1))] [some (.row (toAVs (unsD [u1,u2,u3,u4,⟨⟨(g j.succ).iv.a,(g j.succ).iv.b,false,(g j.succ).iv.bo⟩,(g j.succ).f⟩])) true 36)])))))))))))):=by kernel_rfl
theorem nB5 (u1 u2 u3 u4 u5:Un) (N j:Nat) (g:Nat→Un) (I:IK):@runR (So [(219,64,false),(219,130,true),(219,149,true),(31,19,false)]) [eIn (g (Nat.succ j)).iv false,eIn (g j).iv true] (oA 0 5) [oB [u1,u2,u3,u4,u5]] N (Nat.succ j) g [5] I=gB (Nat.blt j.succ N) (gN (seqA u5.iv.b.length (enc u5.iv.b) (g j.succ).iv.a.length (enc (g j.succ).iv.a)) (gX ((eIn (g j.succ).iv false).snd.args) (gB (inI64 (subI (.ofNat j.succ) 1)) (gB (Nat.blt j N) (gX ((eIn (g j).iv true).snd.args) (gB (inI64 (subI (.ofNat j.succ) 1)) (gB (Nat.blt j N) (gB (seqA (g j).iv.a.length (enc (g j).iv.a) (g j.succ).iv.a.length (enc (g j.succ).iv.a)) (gN (seqA u5.iv.b.length (enc u5.iv.b) (g j.succ).iv.a.length (enc (g j.succ).iv.a)) (gateP ((Nat.ble 6 5)=false) (gB (inI64 ((Int.ofNat j.succ).add 1)) (I .normal [some (.iface 199 (.agg [])),some (.slice 5 0 6 6 true),some (.dslice N 36 (fun i=>unD (g i))),some (.dslice N 36 (fun i=>unD (g i))),some (.int .i64 (.ofNat N)),some (.int .i64 ((Int.ofNat j.succ).add 1))] [some (.row (toAVs (unsD [u1,u2,u3,u4,u5,⟨⟨(g j.succ).iv.a,(g j.succ).iv.b,false,(g j.succ).iv.bo⟩,(g j.succ).f⟩])) true 36)])))))))))))):=by kernel_rfl
theorem nC1 (u1:Un) (N i:Nat) (g:Nat→Un) (I:IK):@runR (So [(219,64,true)]) [eIn u1.iv false,eIn (g i).iv true,eSame u1.f (g i).f (g i).iv.a] (oA 0 1) [oB [u1]] N i g [0] I=gB (Nat.blt i N) (gB (seqA u1.iv.b.length (enc u1.iv.b) (g i).iv.a.length (enc (g i).iv.a)) (gX ((eIn u1.iv false).snd.args) (gX ((eIn (g i).iv true).snd.args) (gX ((eSame u1.f (g i).f (g i).iv.a).snd.args) (gB (inI64 ((Int.ofNat i).add 1)) (I .normal [some (.iface 199 (.agg [])),some (.slice 0 0 1 1 true),some (.dslice N 36 (fun i=>unD (g i))),some (.dslice N 36 (fun i=>unD (g i))),some (.int .i64 (.ofNat N)),some (.int .i64 ((Int.ofNat i).add 1))] [some (.row (toAVs (unsD [⟨⟨u1.iv.a,u1.iv.b,u1.iv.ao,false⟩,u1.f⟩])) true 36)])))))):=by kernel_rfl
theorem nC2 (u1 u2:Un) (N i:Nat) (g:Nat→Un) (I:IK):@runR (So [(219,64,true)]) [eIn u2.iv false,eIn (g i).iv true,eSame u2.f (g i).f (g i).iv.a] (oA 0 2) [oB [u1,u2]] N i g [0] I=gB (Nat.blt i N) (gB (seqA u2.iv.b.length (enc u2.iv.b) (g i).iv.a.length (enc (g i).iv.a)) (gX ((eIn u2.iv false).snd.args) (gX ((eIn (g i).iv true).snd.args) (gX ((eSame u2.f (g i).f (g i).iv.a).snd.args) (gB (inI64 ((Int.ofNat i).add 1)) (I .normal [some (.iface 199 (.agg [])),some (.slice 0 0 2 2 true),some (.dslice N 36 (fun i=>unD (g i))),some (.dslice N 36 (fun i=>unD (g i))),some (.int .i64 (.ofNat N)),some (.int .i64 ((Int.ofNat i).add 1))] [some (.row (toAVs (unsD [u1,⟨⟨u2.iv.a,u2.iv.b,u2.iv.ao,false⟩,u2.f⟩])) true 36)])))))):=by kernel_rfl
theorem nC3 (u1 u2 u3:Un) (N i:Nat) (g:Nat→Un) (I:IK):@runR (So [(219,64,true)]) [eIn u3.iv false,eIn (g i).iv true,eSame u3.f (g i).f (g i).iv.a] (oA 0 3) [oB [u1,u2,u3]] N i g [0] I=gB (Nat.blt i N) (gB (seqA u3.iv.b.length (enc u3.iv.b) (g i).iv.a.length (enc (g i).iv.a)) (gX ((eIn u3.iv false).snd.args) (gX ((eIn (g i).iv true).snd.args) (gX ((eSame u3.f (g i).f (g i).iv.a).snd.args) (gB (inI64 ((Int.ofNat i).add 1)) (I .normal [some (.iface 199 (.agg [])),some (.slice 0 0 3 3 true),some (.dslice N 36 (fun i=>unD (g i))),some (.dslice N 36 (fun i=>unD (g i))),some (.int .i64 (.ofNat N)),some (.int .i64 ((Int.ofNat i).add 1))] [some (.row (toAVs (unsD [u1,u2,⟨⟨u3.iv.a,u3.iv.b,u3.iv.ao,false⟩,u3.f⟩])) true 36)])))))):=by kernel_rfl
theorem nC4 (u1 u2 u3 u4:Un) (N i:Nat) (g:Nat→Un) (I:IK):@runR (So [(219,64,true)]) [eIn u4.iv false,eIn (g i).iv true,eSame u4.f (g i).f (g i).iv.a] (oA 0 4) [oB [u1,u2,u3,u4]] N i g [0] I=gB (Nat.blt i N) (gB (seqA u4.iv.b.length (enc u4.iv.b) (g i).iv.a.length (enc (g i).iv.a)) (gX ((eIn u4.iv false).snd.args) (gX ((eIn (g i).iv true).snd.args) (gX ((eSame u4.f (g i).f (g i).iv.a).snd.args) (gB (inI64 ((Int.ofNat i).add 1)) (I .normal [some (.iface 199 (.agg [])),some (.slice 0 0 4 4 true),some (.dslice N 36 (fun i=>unD (g i))),some (.dslice N 36 (fun i=>unD (g i))),some (.int .i64 (.ofNat N)),some (.int .i64 ((Int.ofNat i).add 1))] [some (.row (toAVs (unsD [u1,u2,u3,⟨⟨u4.iv.a,u4.iv.b,u4.iv.ao,false⟩,u4.f⟩])) true 36)])))))):=by kernel_rfl
theorem nC5 (u1 u2 u3 u4 u5:Un) (N i:Nat) (g:Nat→Un) (I:IK):@runR (So [(219,64,true)]) [eIn u5.iv false,eIn (g i).iv true,eSame u5.f (g i).f (g i).iv.a] (oA 0 5) [oB [u1,u2,u3,u4,u5]] N i g [0] I=gB (Nat.blt i N) (gB (seqA u5.iv.b.length (enc u5.iv.b) (g i).iv.a.length (enc (g i).iv.a)) (gX ((eIn u5.iv false).snd.args) (gX ((eIn (g i).iv true).snd.args) (gX ((eSame u5.f (g i).f (g i).iv.a).snd.args) (gB (inI64 ((Int.ofNat i).add 1)) (I .normal [some (.iface 199 (.agg [])),some (.slice 0 0 5 5 true),some (.dslice N 36 (fun i=>unD (g i))),some (.dslice N 36 (fun i=>unD (g i))),some (.int .i64 (.ofNat N)),some (.int .i64 ((Int.ofNat i).add 1))] [some (.row (toAVs (unsD [u1,u2,u3,u4,⟨⟨u5.iv.a,u5.iv.b,u5.iv.ao,false⟩,u5.f⟩])) true 36)])))))):=by kernel_rfl
theorem nC6 (u1 u2 u3 u4 u5 u6:Un) (N i:Nat) (g:Nat→Un) (I:IK):@runR (So [(219,64,true)]) [eIn u6.iv false,eIn (g i).iv true,eSame u6.f (g i).f (g i).iv.a] (oA 0 6) [oB [u1,u2,u3,u4,u5,u6]] N i g [0] I=gB (Nat.blt i N) (gB (seqA u6.iv.b.length (enc u6.iv.b) (g i).iv.a.length (enc (g i).iv.a)) (gX ((eIn u6.iv false).snd.args) (gX ((eIn (g i).iv true).snd.args) (gX ((eSame u6.f (g i).f (g i).iv.a).snd.args) (gB (inI64 ((Int.ofNat i).add 1)) (I .normal [some (.iface 199 (.agg [])),some (.slice 0 0 6 6 true),some (.dslice N 36 (fun i=>unD (g i))),some (.dslice N 36 (fun i=>unD (g i))),some (.int .i64 (.ofNat N)),some (.int .i64 ((Int.ofNat i).add 1))] [some (.row (toAVs (unsD [u1,u2,u3,u4,u5,⟨⟨u6.iv.a,u6.iv.b,u6.iv.ao,false⟩,u6.f⟩])) true 36)])))))):=by kernel_rfl
theorem nD1 (u1:Un) (N i:Nat) (g:Nat→Un) (I:IK):@runR (So [(219,64,true),(219,102,false)]) [eIn u1.iv false,eIn (g i).iv false,eEq u1.f (g i).f true] (oA 0 1) [oB [u1]] N i g [0] I=gB (Nat.blt i N) (gB (seqA u1.iv.b.length (enc u1.iv.b) (g i).iv.a.length (enc (g i).iv.a)) (gX ((eIn u1.iv false).snd.args) (gX ((eIn (g i).iv false).snd.args) (gN u1.iv.4 (gX ((eEq u1.f (g i).f true).snd.args) (gB (inI64 ((Int.ofNat i).add 1)) (I .normal [some (.iface 199 (.agg [])),some (.slice 0 0 1 1 true),some (.dslice N 36 (fun i=>unD (g i))),some (.dslice N 36 (fun i=>unD (g i))),some (.int .i64 (.ofNat N)),some (.int .i64 ((Int.ofNat i).add 1))] [some (.row (toAVs (unsD [⟨⟨u1.iv.a,(g i).iv.b,u1.iv.ao,true⟩,u1.f⟩])) true 36)]))))))):=by kernel_rfl
theorem nD2 (u1 u2:Un) (N i:Nat) (g:Nat→Un) (I:IK):@runR (So [(219,64,true),(219,102,false)]) [eIn u2.iv false,eIn (g i).iv false,eEq u2.f (g i).f true] (oA 0 2) [oB [u1,u2]] N i g [0] I=gB (Nat.blt i N) (gB (seqA u2.iv.b.length (enc u2.iv.b) (g i).iv.a.length (enc (g i).iv.a)) (gX ((eIn u2.iv false).snd.args) (gX ((eIn (g i).iv false).snd.args) (gN u2.iv.4 (gX ((eEq u2.f (g i).f true).snd.args) (gB (inI64 ((Int.ofNat i).add 1)) (I .normal [some (.iface 199 (.agg [])),some (.slice 0 0 2 2 true),some (.dslice N 36 (fun i=>unD (g i))),some (.dslice N 36 (fun i=>unD (g i))),some (.int .i64 (.ofNat N)),some (.int .i64 ((Int.ofNat i).add 1))] [some (.row (toAVs (unsD [u1,⟨⟨u2.iv.a,(g i).iv.b,u2.iv.ao,true⟩,u2.f⟩])) true 36)]))))))):=by kernel_rfl
theorem nD3 (u1 u2 u3:Un) (N i:Nat) (g:Nat→Un) (I:IK):@runR (So [(219,64,true),(219,102,false)]) [eIn u3.iv false,eIn (g i).iv false,eEq u3.f (g i).f true] (oA 0 3) [oB [u1,u2,u3]] N i g [0] I=gB (Nat.blt i N) (gB (seqA u3.iv.b.length (enc u3.iv.b) (g i).iv.a.length (enc (g i).iv.a)) (gX ((eIn u3.iv false).snd.args) (gX ((eIn (g i).iv false).snd.args) (gN u3.iv.4 (gX ((eEq u3.f (g i).f true).snd.args) (gB (inI64 ((Int.ofNat i).add 1)) (I .normal [some (.iface 199 (.agg [])),some (.slice 0 0 3 3 true),some (.dslice N 36 (fun i=>unD (g i))),some (.dslice N 36 (fun i=>unD (g i))),some (.int .i64 (.ofNat N)),some (.int .i64 ((Int.ofNat i).add 1))] [some (.row (toAVs (unsD [u1,u2,⟨⟨u3.iv.a,(g i).iv.b,u3.iv.ao,true⟩,u3.f⟩])) true 36)]))))))):=by kernel_rfl
theorem nD4 (u1 u2 u3 u4:Un) (N i:Nat) (g:Nat→Un) (I:IK):@runR (So [(219,64,true),(219,102,false)]) [eIn u4.iv false,eIn (g i).iv false,eEq u4.f (g i).f true] (oA 0 4) [oB [u1,u2,u3,u4]] N i g [0] I=gB (Nat.blt i N) (gB (seqA u4.iv.b.length (enc u4.iv.b) (g i).iv.a.length (enc (g i).iv.a)) (gX ((eIn u4.iv false).snd.args) (gX ((eIn (g i).iv false).snd.args) (gN u4.iv.4 (gX ((eEq u4.f (g i).f true).snd.args) (gB (inI64 ((Int.ofNat i).add 1)) (I .normal [some (.iface 199 (.agg [])),some (.slice 0 0 4 4 true),some (.dslice N 36 (fun i=>unD (g i))),some (.dslice N 36 (fun i=>unD (g i))),some (.int .i64 (.ofNat N)),some (.int .i64 ((Int.ofNat i).add 1))] [some (.row (toAVs (unsD [u1,u2,u3,⟨⟨u4.iv.a,(g i).iv.b,u4.iv.ao,true⟩,u4.f⟩])) true 36)]))))))):=by kernel_rfl
theorem nD5 (u1 u2 u3 u4 u5:Un) (N i:Nat) (g:Nat→Un) (I:IK):@runR (So [(219,64,true),(219,102,false)]) [eIn u5.iv false,eIn (g i).iv false,eEq u5.f (g i).f true] (oA 0 5) [oB [u1,u2,u3,u4,u5]] N i g [0] I=gB (Nat.blt i N) (gB (seqA u5.iv.b.length (enc u5.iv.b) (g i).iv.a.length (enc (g i).iv.a)) (gX ((eIn u5.iv false).snd.args) (gX ((eIn (g i).iv false).snd.args) (gN u5.iv.4 (gX ((eEq u5.f (g i).f true).snd.args) (gB (inI64 ((Int.ofNat i).add 1)) (I .normal [some (.iface 199 (.agg [])),some (.slice 0 0 5 5 true),some (.dslice N 36 (fun i=>unD (g i))),some (.dslice N 36 (fun i=>unD (g i))),some (.int .i64 (.ofNat N)),some (.int .i64 ((Int.ofNat i).add 1))] [some (.row (toAVs (unsD [u1,u2,u3,u4,⟨⟨u5.iv.a,(g i).iv.b,u5.iv.ao,true⟩,u5.f⟩])) true 36)]))))))):=by kernel_rfl
theorem nD6 (u1 u2 u3 u4 u5 u6:Un) (N i:Nat) (g:Nat→Un) (I:IK):@runR (So [(219,64,true),(219,102,false)]) [eIn u6.iv false,eIn (g i).iv false,eEq u6.f (g i).f true] (oA 0 6) [oB [u1,u2,u3,u4,u5,u6]] N i g [0] I=gB (Nat.blt i N) (gB (seqA u6.iv.b.length (enc u6.iv.b) (g i).iv.a.length (enc (g i).iv.a)) (gX ((eIn u6.iv false).snd.args) (gX ((eIn (g i).iv false).snd.args) (gN u6.iv.4 (gX ((eEq u6.f (g i).f true).snd.args) (gB (inI64 ((Int.ofNat i).add 1)) (I .normal [some (.iface 199 (.agg [])),some (.slice 0 0 6 6 true),some (.dslice N 36 (fun i=>unD (g i))),some (.dslice N 36 (fun i=>unD (g i))),some (.int .i64 (.ofNat N)),some (.int .i64 ((Int.ofNat i).add 1))] [some (.row (toAVs (unsD [u1,u2,u3,u4,u5,⟨⟨u6.iv.a,(g i).iv.b,u6.iv.ao,true⟩,u6.f⟩])) true 36)]))))))):=by kernel_rfl
theorem nE1 (u1:Un) (N j:Nat) (g:Nat→Un) (I:IK):@runR (So [(219,64,true),(219,102,false),(219,130,true),(219,149,true),(31,19,true),(31,28,false)]) [eIn u1.iv false,eIn (g (Nat.succ j)).iv false,eEq u1.f (g (Nat.succ j)).f false,eIn (g j).iv true] (oA 0 1) [oB [u1]] N (Nat.succ j) g [5] I=gB (Nat.blt j.succ N) (gB (seqA u1.iv.b.length (enc u1.iv.b) (g j.succ).iv.a.length (enc (g j.succ).iv.a)) (gX ((eIn u1.iv false).snd.args) (gX ((eIn (g j.succ).iv false).snd.args) (gN u1.iv.4 (gX ((eEq u1.f (g j.succ).f false).snd.args) (gB (inI64 (subI (.ofNat j.succ) 1)) (gB (Nat.blt j N) (gX ((eIn (g j).iv true).snd.args) (gB (inI64 (subI (.ofNat j.succ) 1)) (gB (Nat.blt j N) (gB (seqA (g j).iv.a.length (enc (g j).iv.a) (g j.succ).iv.a.length (enc (g j.succ).iv.a)) (gB (seqA u1.iv.b.length (enc u1.iv.b) (g j.succ).iv.a.length (enc (g j.succ).iv.a)) (gN u1.iv.4 (gateP ((Nat.ble 2 1)=false) (gB (inI64 ((Int.ofNat j.succ).add 1)) (I .normal [some (.iface 199 (.agg [])),some (.slice 5 0 2 2 true),some (.dslice N 36 (fun i=>unD (g i))),some (.dslice N 36 (fun i=>unD (g i))),some (.int .i64 (.ofNat N)),some (.int .i64 ((Int.ofNat j.succ).add 1))] [some (.row (toAVs (unsD [u1,g j.succ])) true 36)])))))))))))))))):=by kernel_rfl
theorem nE2 (u1 u2:Un) (N j:Nat) (g:Nat→Un) (I:IK):@runR (So [(219,64,true),(219,102,false),(219,130,true),(219,149,true),(31,19,true),(31,28,false)]) [eIn u2.iv false,eIn (g (Nat.succ j)).iv false,eEq u2.f (g (Nat.succ j)).f false,eIn (g j).iv true] (oA 0 2) [oB [u1,u2]] N (Nat.succ j) g [5] I=gB (Nat.blt j.succ N) (gB (seqA u2.iv.b.length (enc u2.iv.b) (g j.succ).iv.a.length (enc (g j.succ).iv.a)) (gX ((eIn u2.iv false).snd.args) (gX ((eIn (g j.succ).iv false).snd.args) (gN u2.iv.4 (gX ((eEq u2.f (g j.succ).f false).snd.args) (gB (inI64 (subI (.ofNat j.succ) 1)) (gB (Nat.blt j N) (gX ((eIn (g j).iv true).snd.args) (gB (inI64 (subI (.ofNat j.succ) 1)) (gB (Nat.blt j N) (gB (seqA (g j).iv.a.length (enc (g j).iv.a) (g j.succ).iv.a.length (enc (g j.succ).iv.a)) (gB (seqA u2.iv.b.length (enc u2.iv.b) (g j.succ).iv.a.length (enc (g j.succ).iv.a)) (gN u2.iv.4 (gateP ((Nat.ble 3 2)=false) (gB (inI64 ((Int.ofNat j.succ).add 1)) (I .normal [some (.iface 199 (.agg [])),some (.slice 5 0 3 3 true),some (.dslice N 36 (fun i=>unD (g i))),some (.dslice N 36 (fun i=>unD (g i))),some (.int .i64 (.ofNat N)),some (.int .i64 ((Int.ofNat j.succ).add 1))] [some (.row (toAVs (unsD [u1,u2,g j.succ])) true 36)])))))))))))))))):=by kernel_rfl
theorem nE3 (u1 u2 u3:Un) (N j:Nat) (g:Nat→Un) (I:IK):@runR (So [(219,64,true),(219,102,false),(219,130,true),(219,149,true),(31,19,true),(31,28,false)]) [eIn u3.iv false,eIn (g (Nat.succ j)).iv false,eEq u3.f (g (Nat.succ j)).f false,eIn (g j).iv true] (oA 0 3) [oB [u1,u2,u3]] N (Nat.succ j) g [5] I=gB (Nat.blt j.succ N) (gB (seqA u3.iv.b.length (enc u3.iv.b) (g j.succ).iv.a.length (enc (g j.succ).iv.a)) (gX ((eIn u3.iv false).snd.args) (gX ((eIn (g j.succ).iv false).snd.args) (gN u3.iv.4 (gX ((eEq u3.f (g j.succ).f false).snd.args) (gB (inI64 (subI (.ofNat j.succ) 1)) (gB (Nat.blt j N) (gX ((eIn (g j).iv true).snd.args) (gB (inI64 (subI (.ofNat j.succ) 1)) (gB (Nat.blt j N) (gB (seqA (g j).iv.a.length (enc (g j).iv.a) (g j.succ).iv.a.length (enc (g j.succ).iv.a)) (gB (seqA u3.iv.b.length (enc u3.iv.b) (g j.succ).iv.a.length (enc (g j.succ).iv.a)) (gN u3.iv.4 (gateP ((Nat.ble 4 3)=false) (gB (inI64 ((Int.ofNat j.succ).add 1)) (I .normal [some (.iface 199 (.agg [])),some (.slice 5 0 4 4 true),some (.dslice N 36 (fun i=>unD (g i))),some (.dslice N 36 (fun i=>unD (g i))),some (.int .i64 (.ofNat N)),some (.int .i64 ((Int.ofNat j.succ).add 1))] [some (.row (toAVs (unsD [u1,u2,u3,g j.succ])) true 36)])))))))))))))))):=by kernel_rfl
theorem nE4 (u1 u2 u3 u4:Un) (N j:Nat) (g:Nat→Un) (I:IK):@runR (So [(219,64,true),(219,102,false),(219,130,true),(219,149,true),(31,19,true),(31,28,false)]) [eIn u4.iv false,eIn (g (Nat.succ j)).iv false,eEq u4.f (g (Nat.succ j)).f false,eIn (g j).iv true] (oA 0 4) [oB [u1,u2,u3,u4]] N (Nat.succ j) g [5] I=gB (Nat.blt j.succ N) (gB (seqA u4.iv.b.length (enc u4.iv.b) (g j.succ).iv.a.length (enc (g j.succ).iv.a)) (gX ((eIn u4.iv false).snd.args) (gX ((eIn (g j.succ).iv false).snd.args) (gN u4.iv.4 (gX ((eEq u4.f (g j.succ).f false).snd.args) (gB (inI64 (subI (.ofNat j.succ) 1)) (gB (Nat.blt j N) (gX ((eIn (g j).iv true).snd.args) (gB (inI64 (subI (.ofNat j.succ) 1)) (gB (Nat.blt j N) (gB (seqA (g j).iv.a.length (enc (g j).iv.a) (g j.succ).iv.a.length (enc (g j.succ).iv.a)) (gB (seqA u4.iv.b.length (enc u4.iv.b) (g j.succ).iv.a.length (enc (g j.succ).iv.a)) (gN u4.iv.4 (gateP ((Nat.ble 5 4)=false) (gB (inI64 ((Int.ofNat j.succ).add 1)) (I .normal [some (.iface 199 (.agg [])),some (.slice 5 0 5 5 true),some (.dslice N 36 (fun i=>unD (g i))),some (.dslice N 36 (fun i=>unD (g i))),some (.int .i64 (.ofNat N)),some (.int .i64 ((Int.ofNat j.succ).add 1))] [some (.row (toAVs (unsD [u1,u2,u3,u4,g j.succ])) true 36)])))))))))))))))):=by kernel_rfl
theorem nE5 (u1 u2 u3 u4 u5:Un) (N j:Nat) (g:Nat→Un) (I:IK):@runR (So [(219,64,true),(219,102,false),(219,130,true),(219,149,true),(31,19,true),(31,28,false)]) [eIn u5.iv false,eIn (g (Nat.succ j)).iv false,eEq u5.f (g (Nat.succ j)).f false,eIn (g j).iv true] (oA 0 5) [oB [u1,u2,u3,u4,u5]] N (Nat.succ j) g [5] I=gB (Nat.blt j.succ N) (gB (seqA u5.iv.b.length (enc u5.iv.b) (g j.succ).iv.a.length (enc (g j.succ).iv.a)) (gX ((eIn u5.iv false).snd.args) (gX ((eIn (g j.succ).iv false).snd.args) (gN u5.iv.4 (gX ((eEq u5.f (g j.succ).f false).snd.args) (gB (inI64 (subI (.ofNat j.succ) 1)) (gB (Nat.blt j N) (gX ((eIn (g j).iv true).snd.args) (gB (inI64 (subI (.ofNat j.succ) 1)) (gB (Nat.blt j N) (gB (seqA (g j).iv.a.length (enc (g j).iv.a) (g j.succ).iv.a.length (enc (g j.succ).iv.a)) (gB (seqA u5.iv.b.length (enc u5.iv.b) (g j.succ).iv.a.length (enc (g j.succ).iv.a)) (gN u5.iv.4 (gateP ((Nat.ble 6 5)=false) (gB (inI64 ((Int.ofNat j.succ).add 1)) (I .normal [some (.iface 199 (.agg [])),some (.slice 5 0 6 6 true),some (.dslice N 36 (fun i=>unD (g i))),some (.dslice N 36 (fun i=>unD (g i))),some (.int .i64 (.ofNat N)),some (.int .i64 ((Int.ofNat j.succ).add 1))] [some (.row (toAVs (unsD [u1,u2,u3,u4,u5,g j.succ])) true 36)])))))))))))))))):=by kernel_rfl
theorem nF0 (N i:Nat) (g:Nat→Un) (I:IK):@runR (So [(219,189,false)]) [eIn (g i).iv true,eRdc (g i).f (g i).iv.a] .nilSlice [] N i g [3] I=gB (Nat.blt i N) (gX ((eIn (g i).iv true).snd.args) (gB (inI64 ((Int.ofNat i).add 1)) (gN (ilt ((Int.ofNat i).add 1) (.ofNat N)) (gX ((eRdc (g i).f (g i).iv.a).snd.args) (gB (inI64 ((Int.ofNat i).add 1)) (I .normal [some (.iface 199 (.agg [])),some (.slice 3 0 1 1 true),some (.dslice N 36 (fun i=>unD (g i))),some (.dslice N 36 (fun i=>unD (g i))),some (.int .i64 (.ofNat N)),some (.int .i64 ((Int.ofNat i).add 1))] [some (.row (toAVs (unsD [g i])) true 36)])))))):=by kernel_rfl
theorem nF1 (u1:Un) (N i:Nat) (g:Nat→Un) (I:IK):@runR (So [(219,64,false),(219,189,false)]) [eIn (g i).iv true,eRdc (g i).f (g i).iv.a] (oA 0 1) [oB [u1]] N i g [4] I=gB (Nat.blt i N) (gN (seqA u1.iv.b.length (enc u1.iv.b) (g i).iv.a.length (enc (g i).iv.a)) (gX ((eIn (g i).iv true).snd.args) (gB (inI64 ((Int.ofNat i).add 1)) (gN (ilt ((Int.ofNat i).add 1) (.ofNat N)) (gX ((eRdc (g i).f (g i).iv.a).snd.args) (gateP ((Nat.ble 2 1)=false) (gB (inI64 ((Int.ofNat i).add 1)) (I .normal [some (.iface 199 (.agg [])),some (.slice 4 0 2 2 true),some (.dslice N 36 (fun i=>unD (g i))),some (.dslice N 36 (fun i=>unD (g i))),some (.int .i64 (.ofNat N)),some (.int .i64 ((Int.ofNat i).add 1))] [some (.row (toAVs (unsD [u1,g i])) true 36)])))))))):=by kernel_rfl
theorem nF2 (u1 u2:Un) (N i:Nat) (g:Nat→Un) (I:IK):@runR (So [(219,64,false),(219,189,false)]) [eIn (g i).iv true,eRdc (g i).f (g i).iv.a] (oA 0 2) [oB [u1,u2]] N i g [4] I=gB (Nat.blt i N) (gN (seqA u2.iv.b.length (enc u2.iv.b) (g i).iv.a.length (enc (g i).iv.a)) (gX ((eIn (g i).iv true).snd.args) (gB (inI64 ((Int.ofNat i).add 1)) (gN (ilt ((Int.ofNat i).add 1) (.ofNat N)) (gX ((eRdc (g i).f (g i).iv.a).snd.args) (gateP ((Nat.ble 3 2)=false) (gB (inI64 ((Int.ofNat i).add 1)) (I .normal [some (.iface 199 (.agg [])),some (.slice 4 0 3 3 true),some (.dslice N 36 (fun i=>unD (g i))),some (.dslice N 36 (fun i=>unD (g i))),some (.int .i64 (.ofNat N)),some (.int .i64 ((Int.ofNat i).add 1))] [some (.row (toAVs (unsD [u1,u2,g i])) true 36)])))))))):=by kernel_rfl
theorem nF3 (u1 u2 u3:Un) (N i:Nat) (g:Nat→Un) (I:IK):@runR (So [(219,64,false),(219,189,false)]) [eIn (g i).iv true,eRdc (g i).f (g i).iv.a] (oA 0 3) [oB [u1,u2,u3]] N i g [4] I=gB (Nat.blt i N) (gN (seqA u3.iv.b.length (enc u3.iv.b) (g i).iv.a.length (enc (g i).iv.a)) (gX ((eIn (g i).iv true).snd.args) (gB (inI64 ((Int.ofNat i).add 1)) (gN (ilt ((Int.ofNat i).add 1) (.ofNat N)) (gX ((eRdc (g i).f (g i).iv.a).snd.args) (gateP ((Nat.ble 4 3)=false) (gB (inI64 ((Int.ofNat i).add 1)) (I .normal [some (.iface 199 (.agg [])),some (.slice 4 0 4 4 true),some (.dslice N 36 (fun i=>unD (g i))),some (.dslice N 36 (fun i=>unD (g i))),some (.int .i64 (.ofNat N)),some (.int .i64 ((Int.ofNat i).add 1))] [some (.row (toAVs (unsD [u1,u2,u3,g i])) true 36)])))))))):=by kernel_rfl
theorem nF4 (u1 u2 u3 u4:Un) (N i:Nat) (g:Nat→Un) (I:IK):@runR (So [(219,64,false),(219,189,false)]) [eIn (g i).iv true,eRdc (g i).f (g i).iv.a] (oA 0 4) [oB [u1,u2,u3,u4]] N i g [4] I=gB (Nat.blt i N) (gN (seqA u4.iv.b.length (enc u4.iv.b) (g i).iv.a.length (enc (g i).iv.a)) (gX ((eIn (g i).iv true).snd.args) (gB (inI64 ((Int.ofNat i).add 1)) (gN (ilt ((Int.ofNat i).add 1) (.ofNat N)) (gX ((eRdc (g i).f (g i).iv.a).snd.args) (gateP ((Nat.ble 5 4)=false) (gB (inI64 ((Int.ofNat i).add 1)) (I .normal [some (.iface 199 (.agg [])),some (.slice 4 0 5 5 true),some (.dslice N 36 (fun i=>unD (g i))),some (.dslice N 36 (fun i=>unD (g i))),some (.int .i64 (.ofNat N)),some (.int .i64 ((Int.ofNat i).add 1))] [some (.row (toAVs (unsD [u1,u2,u3,u4,g i])) true 36)])))))))):=by kernel_rfl
theorem nF5 (u1 u2 u3 u4 u5:Un) (N i:Nat) (g:Nat→Un) (I:IK):@runR (So [(219,64,false),(219,189,false)]) [eIn (g i).iv true,eRdc (g i).f (g i).iv.a] (oA 0 5) [oB [u1,u2,u3,u4,u5]] N i g [4] I=gB (Nat.blt i N) (gN (seqA u5.iv.b.length (enc u5.iv.b) (g i).iv.a.length (enc (g i).iv.a)) (gX ((eIn (g i).iv true).snd.args) (gB (inI64 ((Int.ofNat i).add 1)) (gN (ilt ((Int.ofNat i).add 1) (.ofNat N)) (gX ((eRdc (g i).f (g i).iv.a).snd.args) (gateP ((Nat.ble 6 5)=false) (gB (inI64 ((Int.ofNat i).add 1)) (I .normal [some (.iface 199 (.agg [])),some (.slice 4 0 6 6 true),some (.dslice N 36 (fun i=>unD (g i))),some (.dslice N 36 (fun i=>unD (g i))),some (.int .i64 (.ofNat N)),some (.int .i64 ((Int.ofNat i).add 1))] [some (.row (toAVs (unsD [u1,u2,u3,u4,u5,g i])) true 36)])))))))):=by kernel_rfl
def outAV (b:Nat) (l:List Un):AV:=List.rec (motive:=fun _=>AV) .nilSlice (fun _ _ _=>.slice b 0 l.length l.length true) l
def rowsO (l:List Un):List Blk:=List.rec (motive:=fun _=>List Blk) [] (fun _ _ _=>[.row (toAVs (unsD l)) true 36]) l
def AtO (l:List Un) (b:Nat) (M:Mem):Prop:=l=[]∨M.t.get b=some (.row (toAVs (unsD l)) true 36)
theorem mv_one {M:Mem} {i:Nat} {a:Option Blk} {l:List (Option Blk)} (h:mv [i] M=a::l):M.t.get i=a:=(List.cons.inj h).1
theorem inT {i:Iv} (h:i.a=i.b):SSpec Tryz.prog (eIn i true).1 (eIn i true).2:=by have:=eInS i;rw [decide_eq_true h] at this;exact this
theorem inF {i:Iv} (h:i.a≠i.b):SSpec Tryz.prog (eIn i false).1 (eIn i false).2:=by have:=eInS i;rw [decide_eq_false h] at this;exact this
abbrev lastB (l:List Un) (m:List UInt8):Prop:=∀ u,l.getLast? = some u→u.iv.b≠m
theorem seqF {l m:List UInt8} (h:l≠m):seqA l.length (enc l) m.length (enc m)=false:=seq_ne h
theorem seqT {l m:List UInt8} (h:l=m):seqA l.length (enc l) m.length (enc m)=true:=by rw [h];exact seq_refl _
theorem rdA {N i:Nat} {g:Nat→Un} (hi:i+1<N) (hN:N≤1000) (hx:(g i).iv.a=(g i).iv.b) (hnx:(g (i+1)).iv.a=(g i).iv.a) (hS:SSpec Tryz.prog (eSame (g (i+1)).f (g i).f (g i).iv.a).1 (eSame (g (i+1)).f (g i).f (g i).iv.a).2) {Q:AE→Fr→Mem→Prop} :
  ∀ l:List Un,l.length≤5→lastB l (g i).iv.a→(∀ fr M b,lv [0,7,8,41,42,43] fr=nV (outAV b l) N (i+1) g→AtO l b M→Q .normal fr M)→W Tryz.prog T109 0 (rhs (rhs B109)) (mkFr (nS (outAV 0 l) N i g)) (mkMem (rowsO l)) Q:=by
 have hb:Nat.blt i N=true:=by rw [Nat.blt_eq];omega
 have hb1:Nat.blt (i+1) N=true:=by rw [Nat.blt_eq];omega
 have hJ:inI64 ((Int.ofNat i).add 1)=true:=smallI (i+1) (by omega)
 have hlt:ilt ((Int.ofNat i).add 1) (Int.ofNat N)=true:=(natlt (i+1) N).trans (decide_eq_true hi)
 have hs:=seqT hnx
 exact fun
 | [],hl,hlast,hQ=>by
  have key:=fun Q=>@W.run (So [(219,189,true),(219,199,true)]) Tryz.prog hm X0 hX0l [eIn (g i).iv true,eSame (g (i+1)).f (g i).f (g i).iv.a] (AllOk.mem ⟨inT hx,hS,trivial⟩) T109 0 _ _ _ Q 300 [0,7,8,41,42,43] [] _ (nA0 N i g)
  refine key _ ?_
  simp only [gX_iff,gB_iff,gN_iff,gateP_iff,hb,hb1,hJ,hlt,hs,and_true,true_and]
  exact pdec_iff.2 fun fr M hv hM=>hQ fr M 0 hv (.inl rfl)
 | [u1],hl,hlast,hQ=>by
  have key:=fun Q=>@W.run (So [(219,64,false),(219,189,true),(219,199,true)]) Tryz.prog hm X0 hX0l [eIn (g i).iv true,eSame (g (i+1)).f (g i).f (g i).iv.a] (AllOk.mem ⟨inT hx,hS,trivial⟩) T109 0 _ _ _ Q 300 [0,7,8,41,42,43] [0] _ (nA1 u1 N i g)
  refine key _ ?_
  simp only [gX_iff,gB_iff,gN_iff,gateP_iff,hb,hb1,hJ,hlt,hs,seqF (hlast u1 rfl),and_true,true_and]
  exact pdec_iff.2 fun fr M hv hM=>hQ fr M 0 hv (.inr (mv_one hM))
 | [u1,u2],hl,hlast,hQ=>by
  have key:=fun Q=>@W.run (So [(219,64,false),(219,189,true),(219,199,true)]) Tryz.prog hm X0 hX0l [eIn (g i).iv true,eSame (g (i+1)).f (g i).f (g i).iv.a] (AllOk.mem ⟨inT hx,hS,trivial⟩) T109 0 _ _ _ Q 300 [0,7,8,41,42,43] [0] _ (nA2 u1 u2 N i g)
  refine key _ ?_
  simp only [gX_iff,gB_iff,gN_iff,gateP_iff,hb,hb1,hJ,hlt,hs,seqF (hlast u2 rfl),and_true,true_and]
  exact pdec_iff.2 fun fr M hv hM=>hQ fr M 0 hv (.inr (mv_one hM))
 | [u1,u2,u3],hl,hlast,hQ=>by
  have key:=fun Q=>@W.run (So [(219,64,false),(219,189,true),(219,199,true)]) Tryz.prog hm X0 hX0l [eIn (g i).iv true,eSame (g (i+1)).f (g i).f (g i).iv.a] (AllOk.mem ⟨inT hx,hS,trivial⟩) T109 0 _ _ _ Q 300 [0,7,8,41,42,43] [0] _ (nA3 u1 u2 u3 N i g)
  refine key _ ?_
  simp only [gX_iff,gB_iff,gN_iff,gateP_iff,hb,hb1,hJ,hlt,hs,seqF (hlast u3 rfl),and_true,true_and]
  exact pdec_iff.2 fun fr M hv hM=>hQ fr M 0 hv (.inr (mv_one hM))
 | [u1,u2,u3,u4],hl,hlast,hQ=>by
  have key:=fun Q=>@W.run (So [(219,64,false),(219,189,true),(219,199,true)]) Tryz.prog hm X0 hX0l [eIn (g i).iv true,eSame (g (i+1)).f (g i).f (g i).iv.a] (AllOk.mem ⟨inT hx,hS,trivial⟩) T109 0 _ _ _ Q 300 [0,7,8,41,42,43] [0] _ (nA4 u1 u2 u3 u4 N i g)
  refine key _ ?_
  simp only [gX_iff,gB_iff,gN_iff,gateP_iff,hb,hb1,hJ,hlt,hs,seqF (hlast u4 rfl),and_true,true_and]
  exact pdec_iff.2 fun fr M hv hM=>hQ fr M 0 hv (.inr (mv_one hM))
 | [u1,u2,u3,u4,u5],hl,hlast,hQ=>by
  have key:=fun Q=>@W.run (So [(219,64,false),(219,189,true),(219,199,true)]) Tryz.prog hm X0 hX0l [eIn (g i).iv true,eSame (g (i+1)).f (g i).f (g i).iv.a] (AllOk.mem ⟨inT hx,hS,trivial⟩) T109 0 _ _ _ Q 300 [0,7,8,41,42,43] [0] _ (nA5 u1 u2 u3 u4 u5 N i g)
  refine key _ ?_
  simp only [gX_iff,gB_iff,gN_iff,gateP_iff,hb,hb1,hJ,hlt,hs,seqF (hlast u5 rfl),and_true,true_and]
  exact pdec_iff.2 fun fr M hv hM=>hQ fr M 0 hv (.inr (mv_one hM))
 | _::_::_::_::_::_::_,hl,_,_=>by simp at hl
theorem rdB {N j:Nat} {g:Nat→Un} (hi:j+1<N) (hN:N≤1000) (hx:(g j.succ).iv.a≠(g j.succ).iv.b) (hp:(g j).iv.a=(g j).iv.b) (hnx:(g j).iv.a=(g j.succ).iv.a) {Q:AE→Fr→Mem→Prop} :
  ∀ l:List Un,l.length≤5→lastB l (g j.succ).iv.a→(∀ fr M b,lv [0,7,8,41,42,43] fr=nV (outAV b (l++[⟨⟨(g j.succ).iv.a,(g j.succ).iv.b,false,(g j.succ).iv.bo⟩,(g j.succ).f⟩])) N (j.succ+1) g→AtO (l++[⟨⟨(g j.succ).iv.a,(g j.succ).iv.b,false,(g j.succ).iv.bo⟩,(g j.succ).f⟩]) b M→Q .normal fr M)→W Tryz.prog T109 0 (rhs (rhs B109)) (mkFr (nS (outAV 0 l) N j.succ g)) (mkMem (rowsO l)) Q:=by
 have hb:Nat.blt j.succ N=true:=by rw [Nat.blt_eq];omega
 have hb1:Nat.blt j N=true:=by rw [Nat.blt_eq];omega
 have hJ:inI64 ((Int.ofNat j.succ).add 1)=true:=smallI (j+1+1) (by omega)
 have hJ':inI64 (subI (Int.ofNat j.succ) 1)=true:=smallI j (by omega)
 have hs:=seqT hnx
 exact fun
 | [],hl,hlast,hQ=>by
  have key:=fun Q=>@W.run (So [(219,130,true),(219,149,true)]) Tryz.prog hm X0 hX0l [eIn (g (Nat.succ j)).iv false,eIn (g j).iv true] (AllOk.mem ⟨inF hx,inT hp,trivial⟩) T109 0 _ _ _ Q 300 [0,7,8,41,42,43] [4] _ (nB0 N j g)
  refine key _ ?_
  simp only [gX_iff,gB_iff,gN_iff,gateP_iff,hb,hb1,hJ,hJ',hs,and_true,true_and]
  exact pdec_iff.2 fun fr M hv hM=>hQ fr M 4 hv (.inr (mv_one hM))
 | [u1],hl,hlast,hQ=>by
  have key:=fun Q=>@W.run (So [(219,64,false),(219,130,true),(219,149,true),(31,19,false)]) Tryz.prog hm X0 hX0l [eIn (g (Nat.succ j)).iv false,eIn (g j).iv true] (AllOk.mem ⟨inF hx,inT hp,trivial⟩) T109 0 _ _ _ Q 300 [0,7,8,41,42,43] [5] _ (nB1 u1 N j g)
  refine key _ ?_
  simp only [gX_iff,gB_iff,gN_iff,gateP_iff,hb,hb1,hJ,hJ',hs,seqF (hlast u1 rfl),and_true,true_and]
  exact ⟨rfl,pdec_iff.2 fun fr M hv hM=>hQ fr M 5 hv (.inr (mv_one hM))⟩
 | [u1,u2],hl,hlast,hQ=>by
  have key:=fun Q=>@W.run (So [(219,64,false),(219,130,true),(219,149,true),(31,19,false)]) Tryz.prog hm X0 hX0l [eIn (g (Nat.succ j)).iv false,eIn (g j).iv true] (AllOk.mem ⟨inF hx,inT hp,trivial⟩) T109 0 _ _ _ Q 300 [0,7,8,41,42,43] [5] _ (nB2 u1 u2 N j g)
  refine key _ ?_
  simp only [gX_iff,gB_iff,gN_iff,gateP_iff,hb,hb1,hJ,hJ',hs,seqF (hlast u2 rfl),and_true,true_and]
  exact ⟨rfl,pdec_iff.2 fun fr M hv hM=>hQ fr M 5 hv (.inr (mv_one hM))⟩
 | [u1,u2,u3],hl,hlast,hQ=>by
  have key:=fun Q=>@W.run (So [(219,64,false),(219,130,true),(219,149,true),(31,19,false)]) Tryz.prog hm X0 hX0l [eIn (g (Nat.succ j)).iv false,eIn (g j).iv true] (AllOk.mem ⟨inF hx,inT hp,trivial⟩) T109 0 _ _ _ Q 300 [0,7,8,41,42,43] [5] _ (nB3 u1 u2 u3 N j g)
  refine key _ ?_
  simp only [gX_iff,gB_iff,gN_iff,gateP_iff,hb,hb1,hJ,hJ',hs,seqF (hlast u3 rfl),and_true,true_and]
  exact ⟨rfl,pdec_iff.2 fun fr M hv hM=>hQ fr M 5 hv (.inr (mv_one hM))⟩
 | [u1,u2,u3,u4],hl,hlast,hQ=>by
  have key:=fun Q=>@W.run (So [(219,64,false),(219,130,true),(219,149,true),(31,19,false)]) Tryz.prog hm X0 hX0l [eIn (g (Nat.succ j)).iv false,eIn (g j).iv true] (AllOk.mem ⟨inF hx,inT hp,trivial⟩) T109 0 _ _ _ Q 300 [0,7,8,41,42,43] [5] _ (nB4 u1 u2 u3 u4 N j g)
  refine key _ ?_
  simp only [gX_iff,gB_iff,gN_iff,gateP_iff,hb,hb1,hJ,hJ',hs,seqF (hlast u4 rfl),and_true,true_and]
  exact ⟨rfl,pdec_iff.2 fun fr M hv hM=>hQ fr M 5 hv (.inr (mv_one hM))⟩
 | [u1,u2,u3,u4,u5],hl,hlast,hQ=>by
  have key:=fun Q=>@W.run (So [(219,64,false),(219,130,true),(219,149,true),(31,19,false)]) Tryz.prog hm X0 hX0l [eIn (g (Nat.succ j)).iv false,eIn (g j).iv true] (AllOk.mem ⟨inF hx,inT hp,trivial⟩) T109 0 _ _ _ Q 300 [0,7,8,41,42,43] [5] _ (nB5 u1 u2 u3 u4 u5 N j g)
  refine key _ ?_
  simp only [gX_iff,gB_iff,gN_iff,gateP_iff,hb,hb1,hJ,hJ',hs,seqF (hlast u5 rfl),and_true,true_and]
  exact ⟨rfl,pdec_iff.2 fun fr M hv hM=>hQ fr M 5 hv (.inr (mv_one hM))⟩
 | _::_::_::_::_::_::_,hl,_,_=>by simp at hl
theorem rdC {N i:Nat} {g:Nat→Un} {u:Un} (hi:i<N) (hN:N≤1000) (hx:(g i).iv.a=(g i).iv.b) (hu:u.iv.a≠u.iv.b) (he:u.iv.b=(g i).iv.a) (hS:SSpec Tryz.prog (eSame u.f (g i).f (g i).iv.a).1 (eSame u.f (g i).f (g i).iv.a).2) {Q:AE→Fr→Mem→Prop} :
  ∀ l:List Un,l.length≤5→(∀ fr M b,lv [0,7,8,41,42,43] fr=nV (outAV b (l++[⟨⟨u.iv.a,u.iv.b,u.iv.ao,false⟩,u.f⟩])) N (i+1) g→AtO (l++[⟨⟨u.iv.a,u.iv.b,u.iv.ao,false⟩,u.f⟩]) b M→Q .normal fr M)→W Tryz.prog T109 0 (rhs (rhs B109)) (mkFr (nS (outAV 0 (l++[u])) N i g)) (mkMem (rowsO (l++[u]))) Q:=by
 have hb:Nat.blt i N=true:=by rw [Nat.blt_eq];omega
 have hJ:inI64 ((Int.ofNat i).add 1)=true:=smallI (i+1) (by omega)
 have hs:=seqT he
 exact fun
 | [],hl,hQ=>by
  have key:=fun Q=>@W.run (So [(219,64,true)]) Tryz.prog hm X0 hX0l [eIn u.iv false,eIn (g i).iv true,eSame u.f (g i).f (g i).iv.a] (AllOk.mem ⟨inF hu,inT hx,hS,trivial⟩) T109 0 _ _ _ Q 300 [0,7,8,41,42,43] [0] _ (nC1 u N i g)
  refine key _ ?_
  simp only [gX_iff,gB_iff,gN_iff,gateP_iff,hb,hJ,hs,and_true,true_and]
  exact pdec_iff.2 fun fr M hv hM=>hQ fr M 0 hv (.inr (mv_one hM))
 | [u1],hl,hQ=>by
  have key:=fun Q=>@W.run (So [(219,64,true)]) Tryz.prog hm X0 hX0l [eIn u.iv false,eIn (g i).iv true,eSame u.f (g i).f (g i).iv.a] (AllOk.mem ⟨inF hu,inT hx,hS,trivial⟩) T109 0 _ _ _ Q 300 [0,7,8,41,42,43] [0] _ (nC2 u1 u N i g)
  refine key _ ?_
  simp only [gX_iff,gB_iff,gN_iff,gateP_iff,hb,hJ,hs,and_true,true_and]
  exact pdec_iff.2 fun fr M hv hM=>hQ fr M 0 hv (.inr (mv_one hM))
 | [u1,u2],hl,hQ=>by
  have key:=fun Q=>@W.run (So [(219,64,true)]) Tryz.prog hm X0 hX0l [eIn u.iv false,eIn (g i).iv true,eSame u.f (g i).f (g i).iv.a] (AllOk.mem ⟨inF hu,inT hx,hS,trivial⟩) T109 0 _ _ _ Q 300 [0,7,8,41,42,43] [0] _ (nC3 u1 u2 u N i g)
  refine key _ ?_
  simp only [gX_iff,gB_iff,gN_iff,gateP_iff,hb,hJ,hs,and_true,true_and]
  exact pdec_iff.2 fun fr M hv hM=>hQ fr M 0 hv (.inr (mv_one hM))
 | [u1,u2,u3],hl,hQ=>by
  have key:=fun Q=>@W.run (So [(219,64,true)]) Tryz.prog hm X0 hX0l [eIn u.iv false,eIn (g i).iv true,eSame u.f (g i).f (g i).iv.a] (AllOk.mem ⟨inF hu,inT hx,hS,trivial⟩) T109 0 _ _ _ Q 300 [0,7,8,41,42,43] [0] _ (nC4 u1 u2 u3 u N i g)
  refine key _ ?_
  simp only [gX_iff,gB_iff,gN_iff,gateP_iff,hb,hJ,hs,and_true,true_and]
  exact pdec_iff.2 fun fr M hv hM=>hQ fr M 0 hv (.inr (mv_one hM))
 | [u1,u2,u3,u4],hl,hQ=>by
  have key:=fun Q=>@W.run (So [(219,64,true)]) Tryz.prog hm X0 hX0l [eIn u.iv false,eIn (g i).iv true,eSame u.f (g i).f (g i).iv.a] (AllOk.mem ⟨inF hu,inT hx,hS,trivial⟩) T109 0 _ _ _ Q 300 [0,7,8,41,42,43] [0] _ (nC5 u1 u2 u3 u4 u N i g)
  refine key _ ?_
  simp only [gX_iff,gB_iff,gN_iff,gateP_iff,hb,hJ,hs,and_true,true_and]
  exact pdec_iff.2 fun fr M hv hM=>hQ fr M 0 hv (.inr (mv_one hM))
 | [u1,u2,u3,u4,u5],hl,hQ=>by
  have key:=fun Q=>@W.run (So [(219,64,true)]) Tryz.prog hm X0 hX0l [eIn u.iv false,eIn (g i).iv true,eSame u.f (g i).f (g i).iv.a] (AllOk.mem ⟨inF hu,inT hx,hS,trivial⟩) T109 0 _ _ _ Q 300 [0,7,8,41,42,43] [0] _ (nC6 u1 u2 u3 u4 u5 u N i g)
  refine key _ ?_
  simp only [gX_iff,gB_iff,gN_iff,gateP_iff,hb,hJ,hs,and_true,true_and]
  exact pdec_iff.2 fun fr M hv hM=>hQ fr M 0 hv (.inr (mv_one hM))
 | _::_::_::_::_::_::_,hl,_=>by simp at hl
theorem rdD {N i:Nat} {g:Nat→Un} {u:Un} (hi:i<N) (hN:N≤1000) (hx:(g i).iv.a≠(g i).iv.b) (hu:u.iv.a≠u.iv.b) (he:u.iv.b=(g i).iv.a) (hbo:u.iv.bo=false) (hS:SSpec Tryz.prog (eEq u.f (g i).f true).1 (eEq u.f (g i).f true).2) {Q:AE→Fr→Mem→Prop} :
  ∀ l:List Un,l.length≤5→(∀ fr M b,lv [0,7,8,41,42,43] fr=nV (outAV b (l++[⟨⟨u.iv.a,(g i).iv.b,u.iv.ao,true⟩,u.f⟩])) N (i+1) g→AtO (l++[⟨⟨u.iv.a,(g i).iv.b,u.iv.ao,true⟩,u.f⟩]) b M→Q .normal fr M)→W Tryz.prog T109 0 (rhs (rhs B109)) (mkFr (nS (outAV 0 (l++[u])) N i g)) (mkMem (rowsO (l++[u]))) Q:=by
 have hb:Nat.blt i N=true:=by rw [Nat.blt_eq];omega
 have hJ:inI64 ((Int.ofNat i).add 1)=true:=smallI (i+1) (by omega)
 have hs:=seqT he
 exact fun
 | [],hl,hQ=>by
  have key:=fun Q=>@W.run (So [(219,64,true),(219,102,false)]) Tryz.prog hm X0 hX0l [eIn u.iv false,eIn (g i).iv false,eEq u.f (g i).f true] (AllOk.mem ⟨inF hu,inF hx,hS,trivial⟩) T109 0 _ _ _ Q 300 [0,7,8,41,42,43] [0] _ (nD1 u N i g)
  refine key _ ?_
  simp only [gX_iff,gB_iff,gN_iff,gateP_iff,hb,hJ,hs,hbo,and_true,true_and]
  exact pdec_iff.2 fun fr M hv hM=>hQ fr M 0 hv (.inr (mv_one hM))
 | [u1],hl,hQ=>by
  have key:=fun Q=>@W.run (So [(219,64,true),(219,102,false)]) Tryz.prog hm X0 hX0l [eIn u.iv false,eIn (g i).iv false,eEq u.f (g i).f true] (AllOk.mem ⟨inF hu,inF hx,hS,trivial⟩) T109 0 _ _ _ Q 300 [0,7,8,41,42,43] [0] _ (nD2 u1 u N i g)
  refine key _ ?_
  simp only [gX_iff,gB_iff,gN_iff,gateP_iff,hb,hJ,hs,hbo,and_true,true_and]
  exact pdec_iff.2 fun fr M hv hM=>hQ fr M 0 hv (.inr (mv_one hM))
 | [u1,u2],hl,hQ=>by
  have key:=fun Q=>@W.run (So [(219,64,true),(219,102,false)]) Tryz.prog hm X0 hX0l [eIn u.iv false,eIn (g i).iv false,eEq u.f (g i).f true] (AllOk.mem ⟨inF hu,inF hx,hS,trivial⟩) T109 0 _ _ _ Q 300 [0,7,8,41,42,43] [0] _ (nD3 u1 u2 u N i g)
  refine key _ ?_
  simp only [gX_iff,gB_iff,gN_iff,gateP_iff,hb,hJ,hs,hbo,and_true,true_and]
  exact pdec_iff.2 fun fr M hv hM=>hQ fr M 0 hv (.inr (mv_one hM))
 | [u1,u2,u3],hl,hQ=>by
  have key:=fun Q=>@W.run (So [(219,64,true),(219,102,false)]) Tryz.prog hm X0 hX0l [eIn u.iv false,eIn (g i).iv false,eEq u.f (g i).f true] (AllOk.mem ⟨inF hu,inF hx,hS,trivial⟩) T109 0 _ _ _ Q 300 [0,7,8,41,42,43] [0] _ (nD4 u1 u2 u3 u N i g)
  refine key _ ?_
  simp only [gX_iff,gB_iff,gN_iff,gateP_iff,hb,hJ,hs,hbo,and_true,true_and]
  exact pdec_iff.2 fun fr M hv hM=>hQ fr M 0 hv (.inr (mv_one hM))
 | [u1,u2,u3,u4],hl,hQ=>by
  have key:=fun Q=>@W.run (So [(219,64,true),(219,102,false)]) Tryz.prog hm X0 hX0l [eIn u.iv false,eIn (g i).iv false,eEq u.f (g i).f true] (AllOk.mem ⟨inF hu,inF hx,hS,trivial⟩) T109 0 _ _ _ Q 300 [0,7,8,41,42,43] [0] _ (nD5 u1 u2 u3 u4 u N i g)
  refine key _ ?_
  simp only [gX_iff,gB_iff,gN_iff,gateP_iff,hb,hJ,hs,hbo,and_true,true_and]
  exact pdec_iff.2 fun fr M hv hM=>hQ fr M 0 hv (.inr (mv_one hM))
 | [u1,u2,u3,u4,u5],hl,hQ=>by
  have key:=fun Q=>@W.run (So [(219,64,true),(219,102,false)]) Tryz.prog hm X0 hX0l [eIn u.iv false,eIn (g i).iv false,eEq u.f (g i).f true] (AllOk.mem ⟨inF hu,inF hx,hS,trivial⟩) T109 0 _ _ _ Q 300 [0,7,8,41,42,43] [0] _ (nD6 u1 u2 u3 u4 u5 u N i g)
  refine key _ ?_
  simp only [gX_iff,gB_iff,gN_iff,gateP_iff,hb,hJ,hs,hbo,and_true,true_and]
  exact pdec_iff.2 fun fr M hv hM=>hQ fr M 0 hv (.inr (mv_one hM))
 | _::_::_::_::_::_::_,hl,_=>by simp at hl
theorem rdE {N j:Nat} {g:Nat→Un} {u:Un} (hi:j+1<N) (hN:N≤1000) (hx:(g j.succ).iv.a≠(g j.succ).iv.b) (hp:(g j).iv.a=(g j).iv.b) (hnx:(g j).iv.a=(g j.succ).iv.a) (hu:u.iv.a≠u.iv.b) (he:u.iv.b=(g j.succ).iv.a) (hbo:u.iv.bo=false) (hS:SSpec Tryz.prog (eEq u.f (g j.succ).f false).1 (eEq u.f (g j.succ).f false).2) {Q:AE→Fr→Mem→Prop} :
  ∀ l:List Un,l.length≤4→(∀ fr M b,lv [0,7,8,41,42,43] fr=nV (outAV b (l++[u]++[g j.succ])) N (j.succ+1) g→AtO (l++[u]++[g j.succ]) b M→Q .normal fr M)→W Tryz.prog T109 0 (rhs (rhs B109)) (mkFr (nS (outAV 0 (l++[u])) N j.succ g)) (mkMem (rowsO (l++[u]))) Q:=by
 have hb:Nat.blt j.succ N=true:=by rw [Nat.blt_eq];omega
 have hb1:Nat.blt j N=true:=by rw [Nat.blt_eq];omega
 have hJ:inI64 ((Int.ofNat j.succ).add 1)=true:=smallI (j+1+1) (by omega)
 have hJ':inI64 (subI (Int.ofNat j.succ) 1)=true:=smallI j (by omega)
 have hs:=seqT hnx
 have hs':=seqT he
 exact fun
 | [],hl,hQ=>by
  have key:=fun Q=>@W.run (So [(219,64,true),(219,102,false),(219,130,true),(219,149,true),(31,19,true),(31,28,false)]) Tryz.prog hm X0 hX0l [eIn u.iv false,eIn (g (Nat.succ j)).iv false,eEq u.f (g (Nat.succ j)).f false,eIn (g j).iv true] (AllOk.mem ⟨inF hu,inF hx,hS,inT hp,trivial⟩) T109 0 _ _ _ Q 300 [0,7,8,41,42,43] [5] _ (nE1 u N j g)
  refine key _ ?_
  simp only [gX_iff,gB_iff,gN_iff,gateP_iff,hb,hJ,hs,hb1,hJ',hs',hbo,and_true,true_and]
  exact ⟨rfl,pdec_iff.2 fun fr M hv hM=>hQ fr M 5 hv (.inr (mv_one hM))⟩
 | [u1],hl,hQ=>by
  have key:=fun Q=>@W.run (So [(219,64,true),(219,102,false),(219,130,true),(219,149,true),(31,19,true),(31,28,false)]) Tryz.prog hm X0 hX0l [eIn u.iv false,eIn (g (Nat.succ j)).iv false,eEq u.f (g (Nat.succ j)).f false,eIn (g j).iv true] (AllOk.mem ⟨inF hu,inF hx,hS,inT hp,trivial⟩) T109 0 _ _ _ Q 300 [0,7,8,41,42,43] [5] _ (nE2 u1 u N j g)
  refine key _ ?_
  simp only [gX_iff,gB_iff,gN_iff,gateP_iff,hb,hJ,hs,hb1,hJ',hs',hbo,and_true,true_and]
  exact ⟨rfl,pdec_iff.2 fun fr M hv hM=>hQ fr M 5 hv (.inr (mv_one hM))⟩
 | [u1,u2],hl,hQ=>by
  have key:=fun Q=>@W.run (So [(219,64,true),(219,102,false),(219,130,true),(219,149,true),(31,19,true),(31,28,false)]) Tryz.prog hm X0 hX0l [eIn u.iv false,eIn (g (Nat.succ j)).iv false,eEq u.f (g (Nat.succ j)).f false,eIn (g j).iv true] (AllOk.mem ⟨inF hu,inF hx,hS,inT hp,trivial⟩) T109 0 _ _ _ Q 300 [0,7,8,41,42,43] [5] _ (nE3 u1 u2 u N j g)
  refine key _ ?_
  simp only [gX_iff,gB_iff,gN_iff,gateP_iff,hb,hJ,hs,hb1,hJ',hs',hbo,and_true,true_and]
  exact ⟨rfl,pdec_iff.2 fun fr M hv hM=>hQ fr M 5 hv (.inr (mv_one hM))⟩
 | [u1,u2,u3],hl,hQ=>by
  have key:=fun Q=>@W.run (So [(219,64,true),(219,102,false),(219,130,true),(219,149,true),(31,19,true),(31,28,false)]) Tryz.prog hm X0 hX0l [eIn u.iv false,eIn (g (Nat.succ j)).iv false,eEq u.f (g (Nat.succ j)).f false,eIn (g j).iv true] (AllOk.mem ⟨inF hu,inF hx,hS,inT hp,trivial⟩) T109 0 _ _ _ Q 300 [0,7,8,41,42,43] [5] _ (nE4 u1 u2 u3 u N j g)
  refine key _ ?_
  simp only [gX_iff,gB_iff,gN_iff,gateP_iff,hb,hJ,hs,hb1,hJ',hs',hbo,and_true,true_and]
  exact ⟨rfl,pdec_iff.2 fun fr M hv hM=>hQ fr M 5 hv (.inr (mv_one hM))⟩
 | [u1,u2,u3,u4],hl,hQ=>by
  have key:=fun Q=>@W.run (So [(219,64,true),(219,102,false),(219,130,true),(219,149,true),(31,19,true),(31,28,false)]) Tryz.prog hm X0 hX0l [eIn u.iv false,eIn (g (Nat.succ j)).iv false,eEq u.f (g (Nat.succ j)).f false,eIn (g j).iv true] (AllOk.mem ⟨inF hu,inF hx,hS,inT hp,trivial⟩) T109 0 _ _ _ Q 300 [0,7,8,41,42,43] [5] _ (nE5 u1 u2 u3 u4 u N j g)
  refine key _ ?_
  simp only [gX_iff,gB_iff,gN_iff,gateP_iff,hb,hJ,hs,hb1,hJ',hs',hbo,and_true,true_and]
  exact ⟨rfl,pdec_iff.2 fun fr M hv hM=>hQ fr M 5 hv (.inr (mv_one hM))⟩
 | _::_::_::_::_::_,hl,_=>by simp at hl
theorem rdF {N i:Nat} {g:Nat→Un} (hi:i+1=N) (hN:N≤1000) (hx:(g i).iv.a=(g i).iv.b) (hS:SSpec Tryz.prog (eRdc (g i).f (g i).iv.a).1 (eRdc (g i).f (g i).iv.a).2) {Q:AE→Fr→Mem→Prop} :
  ∀ l:List Un,l.length≤5→lastB l (g i).iv.a→(∀ fr M b,lv [0,7,8,41,42,43] fr=nV (outAV b (l++[g i])) N (i+1) g→AtO (l++[g i]) b M→Q .normal fr M)→W Tryz.prog T109 0 (rhs (rhs B109)) (mkFr (nS (outAV 0 l) N i g)) (mkMem (rowsO l)) Q:=by
 have hb:Nat.blt i N=true:=by rw [Nat.blt_eq];omega
 have hJ:inI64 ((Int.ofNat i).add 1)=true:=smallI (i+1) (by omega)
 have hlt:ilt ((Int.ofNat i).add 1) (Int.ofNat N)=false:=(natlt (i+1) N).trans (decide_eq_false (by omega))
 exact fun
 | [],hl,hlast,hQ=>by
  have key:=fun Q=>@W.run (So [(219,189,false)]) Tryz.prog hm X0 hX0l [eIn (g i).iv true,eRdc (g i).f (g i).iv.a] (AllOk.mem ⟨inT hx,hS,trivial⟩) T109 0 _ _ _ Q 300 [0,7,8,41,42,43] [3] _ (nF0 N i g)
  refine key _ ?_
  simp only [gX_iff,gB_iff,gN_iff,gateP_iff,hb,hJ,hlt,and_true,true_and]
  exact pdec_iff.2 fun fr M hv hM=>hQ fr M 3 hv (.inr (mv_one hM))
 | [u1],hl,hlast,hQ=>by
  have key:=fun Q=>@W.run (So [(219,64,false),(219,189,false)]) Tryz.prog hm X0 hX0l [eIn (g i).iv true,eRdc (g i).f (g i).iv.a] (AllOk.mem ⟨inT hx,hS,trivial⟩) T109 0 _ _ _ Q 300 [0,7,8,41,42,43] [4] _ (nF1 u1 N i g)
  refine key _ ?_
  simp only [gX_iff,gB_iff,gN_iff,gateP_iff,hb,hJ,hlt,seqF (hlast u1 rfl),and_true,true_and]
  exact ⟨rfl,pdec_iff.2 fun fr M hv hM=>hQ fr M 4 hv (.inr (mv_one hM))⟩
 | [u1,u2],hl,hlast,hQ=>by
  have key:=fun Q=>@W.run (So [(219,64,false),(219,189,false)]) Tryz.prog hm X0 hX0l [eIn (g i).iv true,eRdc (g i).f (g i).iv.a] (AllOk.mem ⟨inT hx,hS,trivial⟩) T109 0 _ _ _ Q 300 [0,7,8,41,42,43] [4] _ (nF2 u1 u2 N i g)
  refine key _ ?_
  simp only [gX_iff,gB_iff,gN_iff,gateP_iff,hb,hJ,hlt,seqF (hlast u2 rfl),and_true,true_and]
  exact ⟨rfl,pdec_iff.2 fun fr M hv hM=>hQ fr M 4 hv (.inr (mv_one hM))⟩
 | [u1,u2,u3],hl,hlast,hQ=>by
  have key:=fun Q=>@W.run (So [(219,64,false),(219,189,false)]) Tryz.prog hm X0 hX0l [eIn (g i).iv true,eRdc (g i).f (g i).iv.a] (AllOk.mem ⟨inT hx,hS,trivial⟩) T109 0 _ _ _ Q 300 [0,7,8,41,42,43] [4] _ (nF3 u1 u2 u3 N i g)
  refine key _ ?_
  simp only [gX_iff,gB_iff,gN_iff,gateP_iff,hb,hJ,hlt,seqF (hlast u3 rfl),and_true,true_and]
  exact ⟨rfl,pdec_iff.2 fun fr M hv hM=>hQ fr M 4 hv (.inr (mv_one hM))⟩
 | [u1,u2,u3,u4],hl,hlast,hQ=>by
  have key:=fun Q=>@W.run (So [(219,64,false),(219,189,false)]) Tryz.prog hm X0 hX0l [eIn (g i).iv true,eRdc (g i).f (g i).iv.a] (AllOk.mem ⟨inT hx,hS,trivial⟩) T109 0 _ _ _ Q 300 [0,7,8,41,42,43] [4] _ (nF4 u1 u2 u3 u4 N i g)
  refine key _ ?_
  simp only [gX_iff,gB_iff,gN_iff,gateP_iff,hb,hJ,hlt,seqF (hlast u4 rfl),and_true,true_and]
  exact ⟨rfl,pdec_iff.2 fun fr M hv hM=>hQ fr M 4 hv (.inr (mv_one hM))⟩
 | [u1,u2,u3,u4,u5],hl,hlast,hQ=>by
  have key:=fun Q=>@W.run (So [(219,64,false),(219,189,false)]) Tryz.prog hm X0 hX0l [eIn (g i).iv true,eRdc (g i).f (g i).iv.a] (AllOk.mem ⟨inT hx,hS,trivial⟩) T109 0 _ _ _ Q 300 [0,7,8,41,42,43] [4] _ (nF5 u1 u2 u3 u4 u5 N i g)
  refine key _ ?_
  simp only [gX_iff,gB_iff,gN_iff,gateP_iff,hb,hJ,hlt,seqF (hlast u5 rfl),and_true,true_and]
  exact ⟨rfl,pdec_iff.2 fun fr M hv hM=>hQ fr M 4 hv (.inr (mv_one hM))⟩
 | _::_::_::_::_::_::_,hl,_,_=>by simp at hl
end
end
end Go.Proofs.YtodjhpjcgggamaaGreatDoor

namespace Go.Proofs.YtodjhpjcgggamaaGreatDoor
open Go Go.Eng Go.Vi Go.Knuth
noncomputable section
section
local instance : Go.Eng.Mode := Sb
def nmArgs (us:List Un):List AV:=[.iface 199 (.agg []),unsA us]
def eSo (us:List Un):FuncId × SEnt:=(138,⟨[unsA us],[],unsA us⟩)
def eAp (a b:Un):FuncId × SEnt:=(139,⟨[ivA a.iv,ivA b.iv],[],.bool true⟩)
def eAt (us:List Un) (N:Nat) (g:Nat→Un):FuncId × SEnt:=(140,⟨[unsA us],[],gL N g⟩)
theorem okNormal:FnOk Tryz.prog 109 Tryz.f109:=⟨Tryz.func109,by kernel_rfl,by kernel_rfl⟩
theorem init109 (N:Nat) (g:Nat→Un) (I:IK):xE [] 60 T109 (lhs L109) [(0,.iface 199 (.agg [])),(7,.nilSlice),(8,gL N g)] [] [0,7,8,41,42,43] [] I=I .normal (nV .nilSlice N 0 g) []:=by kernel_rfl
theorem n_body:B109=.seq (lhs B109) (.seq (.cond (.tmp 44) .skip (.exit 2)) (rhs (rhs B109))):=by kernel_rfl
theorem W.nb {fr:Fr} {M:Mem} {Q:AE→Fr→Mem→Prop} (h:W Tryz.prog T109 0 (.seq (lhs B109) (.seq (.cond (.tmp 44) .skip (.exit 2)) (rhs (rhs B109)))) fr M Q):W Tryz.prog T109 0 B109 fr M Q:=by rw [n_body];exact h
theorem n_loop:L109=.seq (lhs L109) (.block 2 (.loop B109)):=by kernel_rfl
theorem n_post:post 5 c109=.seq L109 (rhs (post 5 c109)):=by kernel_rfl
theorem n_fin (n:Nat) (L:List AV) (N i:Nat) (g:Nat→Un) (I:AK):xR [] 60 T109 (rhs (post 5 c109)) (nS (.slice 0 0 n n true) N i g) [.row L true 36] Tryz.f109 [0] I=I (.tuple [.slice 0 0 n n true,.int .i64 0]) [some (.row L true 36)]:=by kernel_rfl
theorem n_fin0 (N i:Nat) (g:Nat→Un) (I:AK):xR [] 60 T109 (rhs (post 5 c109)) (nS .nilSlice N i g) [] Tryz.f109 [] I=I (.tuple [.nilSlice,.int .i64 0]) []:=by kernel_rfl
theorem np_1 (u1:Un) (N:Nat) (g:Nat→Un) (I:IK):xN [eSo [u1],eAt [u1] N g] 300 T109 5 c109 (argSlots (nmArgs [u1]) 0) [] [0,7,8] [] I=gX ((eSo [u1]).snd.args) (gX ((eAt [u1] N g).snd.args) (I .normal [some (.iface 199 (.agg [])),some .nilSlice,some (.dslice N 36 (fun i=>unD (g i)))] [])):=by kernel_rfl
theorem np_2 (u1 u2:Un) (N:Nat) (g:Nat→Un) (I:IK):xN [eSo [u1,u2],eAp u1 u2,eAt [u1,u2] N g] 300 T109 5 c109 (argSlots (nmArgs [u1,u2]) 0) [] [0,7,8] [] I=gX ((eSo [u1,u2]).snd.args) (gX ((eAp u1 u2).snd.args) (gX ((eAt [u1,u2] N g).snd.args) (I .normal [some (.iface 199 (.agg [])),some .nilSlice,some (.dslice N 36 (fun i=>unD (g i)))] []))):=by kernel_rfl
theorem np_3 (u1 u2 u3:Un) (N:Nat) (g:Nat→Un) (I:IK):xN [eSo [u1,u2,u3],eAp u1 u2,eAp u2 u3,eAt [u1,u2,u3] N g] 300 T109 5 c109 (argSlots (nmArgs [u1,u2,u3]) 0) [] [0,7,8] [] I=gX ((eSo [u1,u2,u3]).snd.args) (gX ((eAp u1 u2).snd.args) (gX ((eAp u2 u3).snd.args) (gX ((eAt [u1,u2,u3] N g).snd.args) (I .normal [some (.iface 199 (.agg [])),some .nilSlice,some (.dslice N 36 (fun i=>unD (g i)))] [])))):=by kernel_rfl
theorem np_4 (u1 u2 u3 u4:Un) (N:Nat) (g:Nat→Un) (I:IK):xN [eSo [u1,u2,u3,u4],eAp u1 u2,eAp u2 u3,eAp u3 u4,eAt [u1,u2,u3,u4] N g] 300 T109 5 c109 (argSlots (nmArgs [u1,u2,u3,u4]) 0) [] [0,7,8] [] I=gX ((eSo [u1,u2,u3,u4]).snd.args) (gX ((eAp u1 u2).snd.args) (gX ((eAp u2 u3).snd.args) (gX ((eAp u3 u4).snd.args) (gX ((eAt [u1,u2,u3,u4] N g).snd.args) (I .normal [some (.iface 199 (.agg [])),some .nilSlice,some (.dslice N 36 (fun i=>unD (g i)))] []))))):=by kernel_rfl
theorem np_5 (u1 u2 u3 u4 u5:Un) (N:Nat) (g:Nat→Un) (I:IK):xN [eSo [u1,u2,u3,u4,u5],eAp u1 u2,eAp u2 u3,eAp u3 u4,eAp u4 u5,eAt [u1,u2,u3,u4,u5] N g] 300 T109 5 c109 (argSlots (nmArgs [u1,u2,u3,u4,u5]) 0) [] [0,7,8] [] I=gX ((eSo [u1,u2,u3,u4,u5]).snd.args) (gX ((eAp u1 u2).snd.args) (gX ((eAp u2 u3).snd.args) (gX ((eAp u3 u4).snd.args) (gX ((eAp u4 u5).snd.args) (gX ((eAt [u1,u2,u3,u4,u5] N g).snd.args) (I .normal [some (.iface 199 (.agg [])),some .nilSlice,some (.dslice N 36 (fun i=>unD (g i)))] [])))))):=by kernel_rfl
theorem np_6 (u1 u2 u3 u4 u5 u6:Un) (N:Nat) (g:Nat→Un) (I:IK):xN [eSo [u1,u2,u3,u4,u5,u6],eAp u1 u2,eAp u2 u3,eAp u3 u4,eAp u4 u5,eAp u5 u6,eAt [u1,u2,u3,u4,u5,u6] N g] 300 T109 5 c109 (argSlots (nmArgs [u1,u2,u3,u4,u5,u6]) 0) [] [0,7,8] [] I=gX ((eSo [u1,u2,u3,u4,u5,u6]).snd.args) (gX ((eAp u1 u2).snd.args) (gX ((eAp u2 u3).snd.args) (gX ((eAp u3 u4).snd.args) (gX ((eAp u4 u5).snd.args) (gX ((eAp u5 u6).snd.args) (gX ((eAt [u1,u2,u3,u4,u5,u6] N g).snd.args) (I .normal [some (.iface 199 (.agg [])),some .nilSlice,some (.dslice N 36 (fun i=>unD (g i)))] []))))))):=by kernel_rfl
theorem mg_inj {t u:Nat} (h:mg t=mg u):t=u:=by rw [← mg_be t,h,mg_be]
def LW (P:Program) (nt k:Nat) (b:Code) (Q:AE→Fr→Mem→Prop):Nat→Fr→Mem→Prop
 | 0,_,_=>False
 | n+1,fr,M=>W P nt k b fr M fun o fr' M'=>(o=.normal∧LW P nt k b Q n fr' M')∨(o≠.normal∧Q o fr' M')
def LX (P:Program) (nt k:Nat) (b:Code) (Q:AE→Fr→Mem→Prop) (fr:Fr) (M:Mem):Prop:=∃ n,LW P nt k b Q n fr M
theorem LX.step {P:Program} {nt k:Nat} {b:Code} {Q:AE→Fr→Mem→Prop} {fr:Fr} {M:Mem} (h:W P nt k b fr M fun o fr' M'=>(o=.normal∧LX P nt k b Q fr' M')∨(o≠.normal∧Q o fr' M')):LX P nt k b Q fr M:=by
 obtain ⟨o,fr',M',hq,hs⟩:=h
 rcases hq with ⟨e,n,hn⟩ | hq
 ·exact ⟨n+1,o,fr',M',.inl ⟨e,hn⟩,hs⟩
 ·exact ⟨1,o,fr',M',.inr hq,hs⟩
theorem LX.loop {P:Program} {nt k:Nat} {b:Code} {Q:AE→Fr→Mem→Prop} {fr:Fr} {M:Mem} (h:LX P nt k b Q fr M):W P nt k (.loop b) fr M Q:=by
 obtain ⟨n,h⟩:=h
 refine W.loop (σ:=Nat) (fun n fr M=>LW P nt k b Q n fr M) (fun n=>n) ?_ n h
 intro s fr M hs
 cases s with
 | zero=>exact hs.elim
 | succ s =>
  refine W.mono hs ?_
  rintro o fr' M' (⟨e,h⟩ | h)
  ·exact .inl ⟨e,s,Nat.lt_succ_self _,h⟩
  ·exact .inr h
def Tr (x:Un) (t u:Nat):Prop:=x.iv.a=mg t∧x.iv.b=mg u∧x.iv.bo=false∧t≤u∧u≤1000
def GL (f:Ln):Prop:=∃ p q,LB p q f∧p<2147483648∧q<2147483648
inductive Ch:Option Nat→List Un→Prop
 | nil (p:Option Nat):Ch p []
 | cl (p:Option Nat) (x:Un) (t u:Nat) (us:List Un) (h:Tr x t u) (ha:x.iv.ao=false) (hp:∀ q,p=some q→q<t) (hlt:t<u) (hf:GL x.f) (hs:Ch (some u) us):Ch p (x::us)
 | co (x:Un) (t u:Nat) (us:List Un) (h:Tr x t u) (ha:x.iv.ao=true) (hlt:t<u) (hf:GL x.f) (hs:Ch (some u) us):Ch (some t) (x::us)
 | lone (p:Option Nat) (x:Un) (t:Nat) (h:Tr x t t) (ha:x.iv.ao=false) (hp:∀ q,p=some q→q<t) (hf:∃ a b:Int,x.f=stillL a b∧a.natAbs<2147483648∧b.natAbs<2147483648):Ch p [x]
theorem Ch.head {p:Option Nat} {us:List Un} (h:Ch p us):∀ x l,us=x::l→∃ t u,Tr x t u∧(∀ q,p=some q→q<t∨(q=t∧x.iv.ao=true)):=by
 intro x l e
 cases h with
 | nil=>cases e
 | cl _ _ t u us h ha hp hlt hf hs=>cases e;exact ⟨t,u,h,fun q hq=>.inl (hp q hq)⟩
 | co _ t u us h ha hlt hf hs=>cases e;exact ⟨t,u,h,fun q hq=>by cases hq;exact .inr ⟨rfl,ha⟩⟩
 | lone _ _ t h ha hp hf=>cases e;exact ⟨t,t,h,fun q hq=>.inl (hp q hq)⟩
theorem srt_of {x y:Un} {t u t' u':Nat} (h:Tr x t u) (h':Tr y t' u') (hlt:t<u) (hle:u≤t'):SrtU x y:=by
 obtain ⟨a1,a2,_,a3,a4⟩:=h
 obtain ⟨b1,b2,_,b3,b4⟩:=h'
 exact ⟨t',t,u',u,by omega,by omega,by omega,by omega,a1,b1,a2,b2⟩
def ApU (a b:Un):Prop:=SSpec Tryz.prog (eAp a b).1 (eAp a b).2
theorem ap_of {x y:Un} {t u t' u':Nat} (h:Tr x t u) (h':Tr y t' u') (hc:u<t'∨(u=t'∧y.iv.ao=true)):ApU x y :=
 (apart_c (i:=x.iv) (j:=y.iv) h.2.1 h'.1 hc (by have:=h'.2.2.2.1;have:=h'.2.2.2.2;omega)).spec0 rfl
theorem Ch.two {p:Option Nat} {us:List Un} (h:Ch p us):Cons2 SrtU us∧Cons2 ApU us:=by
 induction h with
 | nil=>exact ⟨trivial,trivial⟩
 | cl p x t u us h ha hp hlt hf hs ih =>
  cases us with
  | nil=>exact ⟨trivial,trivial⟩
  | cons y us =>
   obtain ⟨t',u',h',hc⟩:=hs.head y us rfl
   exact ⟨⟨srt_of h h' hlt (by rcases hc u rfl with h | h<;>omega),ih.1⟩,ap_of h h' (hc u rfl),ih.2⟩
 | co x t u us h ha hlt hf hs ih =>
  cases us with
  | nil=>exact ⟨trivial,trivial⟩
  | cons y us =>
   obtain ⟨t',u',h',hc⟩:=hs.head y us rfl
   exact ⟨⟨srt_of h h' hlt (by rcases hc u rfl with h | h<;>omega),ih.1⟩,ap_of h h' (hc u rfl),ih.2⟩
 | lone=>exact ⟨trivial,trivial⟩
theorem Ch.ok {p:Option Nat} {us:List Un} (h:Ch p us):∀ u∈us,u.iv.bo=false∧(u.iv.a=u.iv.b→u.iv.ao=false):=by
 induction h with
 | nil=>intro u hu;cases hu
 | cl p x t u us h ha hp hlt hf hs ih =>
  intro y hy
  rcases List.mem_cons.1 hy with rfl | hy
  ·exact ⟨h.2.2.1,fun _=>ha⟩
  ·exact ih y hy
 | co x t u us h ha hlt hf hs ih =>
  intro y hy
  rcases List.mem_cons.1 hy with rfl | hy
  ·exact ⟨h.2.2.1,fun e=>by rw [h.1,h.2.1] at e;have:=mg_inj e;omega⟩
  ·exact ih y hy
 | lone p x t h ha hp hf =>
  intro y hy
  obtain rfl:y=x:=by simpa using hy
  exact ⟨h.2.2.1,fun _=>ha⟩
theorem Ch.atOk {us:List Un} (h:Ch none us):AtOk us:=by
 refine ⟨h.ok,fun u hu=>?_⟩
 cases h with
 | nil=>cases hu
 | cl _ x t u us h ha=>cases hu;exact ha
 | lone _ x t h ha=>cases hu;exact ha
def Ph (p:Option Nat) (l:List Un):Prop :=
 (p=none∧l=[])∨∃ q l0 y s,p=some q∧l=l0++[y]∧y.iv.a=mg s∧y.iv.b=mg q∧s<q∧y.iv.bo=false∧GL y.f
theorem Ph.last {p:Option Nat} {l:List Un} {t:Nat} (h:Ph p l) (hp:∀ q,p=some q→q<t):lastB l (mg t):=by
 intro u hu e
 rcases h with ⟨rfl,rfl⟩ | ⟨q,l0,y,s,rfl,rfl,h1,h2,h3,h4,h5⟩
 ·cases hu
 ·rw [List.getLast?_append] at hu
  obtain rfl:y=u:=by simpa using hu
  rw [h2] at e
  have:=hp q rfl
  have:=mg_inj e
  omega
abbrev aGet (us:List Un):Nat→Un:=fun i=>(atoms us).getD i un0
abbrev St (us:List Un) (Q:AE→Fr→Mem→Prop) (l:List Un) (i:Nat):Prop :=
 ∀ fr M b,lv [0,7,8,41,42,43] fr=nV (outAV b l) (atoms us).length i (aGet us)→AtO l b M→LX Tryz.prog T109 0 B109 Q fr M
theorem nS_vals (l:List Un) (b:Nat) (N i:Nat) (g:Nat→Un) (π:List Nat) (h:π[0]? = some b∨l=[]):vals2 π (nS (outAV 0 l) N i g)=nV (outAV b l) N i g:=by
 cases l with
 | nil=>rfl
 | cons u l =>
  rcases h with h | h
  ·cases π with
   | nil=>cases h
   | cons a π =>
    obtain rfl:a=b:=by simpa using h
    rfl
  ·cases h
theorem nV_some (out:AV) (N i:Nat) (g:Nat→Un):∀ v∈nV out N i g,v≠none:=by
 intro v hv e
 subst e
 simp [nV] at hv
theorem W.fromO {c:Code} {Q:AE→Fr→Mem→Prop} {fr:Fr} {M:Mem} {N i b:Nat} {g:Nat→Un} {l:List Un} (hv:lv [0,7,8,41,42,43] fr=nV (outAV b l) N i g) (hM:AtO l b M)
  (h:W Tryz.prog T109 0 c (mkFr (nS (outAV 0 l) N i g)) (mkMem (rowsO l)) Q):W Tryz.prog T109 0 c fr M Q:=by
 cases l with
 | nil=>exact W.next (π:=[]) (bs:=[]) hv rfl (nS (outAV 0 []) N i g) (rowsO []) rfl (nS_vals [] b N i g [] (.inr rfl)) rfl (by decide) (nV_some _ N i g) (by simp) h
 | cons s l =>
  rcases hM with hM | hM
  ·cases hM
  refine W.next (π:=[b]) (bs:=[some (.row (toAVs (unsD (s::l))) true 36)]) hv (by show [M.t.get b]=_;rw [hM]) (nS (outAV 0 (s::l)) N i g) (rowsO (s::l)) rfl (nS_vals (s::l) b N i g [b] (.inl rfl)) ?_ ?_ (nV_some _ N i g) (by simp) h
  ·show [renB [b] (.row (toAVs (unsD (s::l))) true 36)]=_
   rw [renB_data]
  ·unfold okPi
   have:(rowsO (s::l)).length=1:=rfl
   rw [this]
   simp
theorem AtO_start (l:List Un):AtO l 0 (mkMem (rowsO l)):=by
 cases l with
 | nil=>exact .inl rfl
 | cons s l=>exact .inr rfl
theorem roundO {us:List Un} {Q:AE→Fr→Mem→Prop} {l:List Un} {i:Nat} (hi:i<(atoms us).length)
  (h:W Tryz.prog T109 0 (rhs (rhs B109)) (mkFr (nS (outAV 0 l) (atoms us).length i (aGet us))) (mkMem (rowsO l)) (fun o fr M=>o=.normal∧LX Tryz.prog T109 0 B109 Q fr M)):St us Q l i:=by
 intro fr M b hv hM
 refine LX.step (W.fromO hv hM (W.nb ?_))
 have hh:=head109 (atoms us).length i (aGet us) (outAV 0 l) (rowsO l) [0]
 have key:=fun Q=>@W.run Sb Tryz.prog hm X0 hX0l [] (fun _ h=>by cases h) T109 0 _ _ _ Q 60 [0,7,8,41,42,43,44] [0] _ hh
 refine W.seq (key _ (pdec_iff.2 fun fr1 M1 hl1 hm1=>?_))
 have h':[fr1.get 0,fr1.get 7,fr1.get 8,fr1.get 41,fr1.get 42,fr1.get 43,fr1.get 44]=_:=hl1
 simp only [nV,List.cons_append,List.nil_append,List.cons.injEq] at h'
 have hv1:lv [0,7,8,41,42,43] fr1=nV (outAV 0 l) (atoms us).length i (aGet us):=by
  show [fr1.get 0,fr1.get 7,fr1.get 8,fr1.get 41,fr1.get 42,fr1.get 43]=_
  rw [h'.1,h'.2.1,h'.2.2.1,h'.2.2.2.1,h'.2.2.2.2.1,h'.2.2.2.2.2.1]
  rfl
 have hM1:AtO l 0 M1:=by
  cases l with
  | nil=>exact .inl rfl
  | cons s l=>exact .inr (mv_one hm1)
 have hc:ilt (.ofNat i) (.ofNat (atoms us).length)=true:=by rw [natlt];exact decide_eq_true hi
 rw [hc] at h'
 refine W.seq (W.cond true h'.2.2.2.2.2.2.1 (fun _=>W.skip ?_) (fun h=>by cases h))
 show W Tryz.prog T109 0 (rhs (rhs B109)) fr1 M1 _
 refine W.fromO hv1 hM1 (W.mono h ?_)
 exact fun o fr' M' hq=>.inl hq
theorem endO {us:List Un} {Q:AE→Fr→Mem→Prop} {l:List Un} (hQ:∀ fr M b,lv [0,7,8,41,42,43] fr=nV (outAV b l) (atoms us).length (atoms us).length (aGet us)→AtO l b M→Q (.exit 2) fr M):St us Q l (atoms us).length:=by
 intro fr M b hv hM
 refine LX.step (W.fromO hv hM (W.nb ?_))
 have hh:=head109 (atoms us).length (atoms us).length (aGet us) (outAV 0 l) (rowsO l) [0]
 have key:=fun Q=>@W.run Sb Tryz.prog hm X0 hX0l [] (fun _ h=>by cases h) T109 0 _ _ _ Q 60 [0,7,8,41,42,43,44] [0] _ hh
 refine W.seq (key _ (pdec_iff.2 fun fr1 M1 hl1 hm1=>?_))
 have h':[fr1.get 0,fr1.get 7,fr1.get 8,fr1.get 41,fr1.get 42,fr1.get 43,fr1.get 44]=_:=hl1
 simp only [nV,List.cons_append,List.nil_append,List.cons.injEq] at h'
 have hv1:lv [0,7,8,41,42,43] fr1=nV (outAV 0 l) (atoms us).length (atoms us).length (aGet us):=by
  show [fr1.get 0,fr1.get 7,fr1.get 8,fr1.get 41,fr1.get 42,fr1.get 43]=_
  rw [h'.1,h'.2.1,h'.2.2.1,h'.2.2.2.1,h'.2.2.2.2.1,h'.2.2.2.2.2.1]
  rfl
 have hM1:AtO l 0 M1:=by
  cases l with
  | nil=>exact .inl rfl
  | cons s l=>exact .inr (mv_one hm1)
 have hc:ilt (.ofNat (atoms us).length) (.ofNat (atoms us).length)=false:=by rw [natlt];exact decide_eq_false (Nat.lt_irrefl _)
 rw [hc] at h'
 refine W.seq (W.cond false h'.2.2.2.2.2.2.1 (fun h=>by cases h) (fun _=>W.exit ?_))
 exact .inr ⟨by simp,hQ fr1 M1 0 hv1 hM1⟩
theorem get_at {a:List Un} {y:Un} {b:List Un} {k:Nat} (h:k=a.length):(a++y::b).getD k un0=y:=by
 subst h
 rw [List.getD_eq_getElem?_getD,List.getElem?_append_right (Nat.le_refl _),Nat.sub_self]
 rfl
theorem atoms_app (a b:List Un):atoms (a++b)=atoms a++atoms b:=by simp [atoms]
theorem atoms_cons (x:Un) (b:List Un):atoms (x::b)=atm x++atoms b:=by simp [atoms]
theorem same_of {f:Ln} {m:List UInt8} {t:Nat} (hf:GL f) (hm':m=mg t) (ht:t≤1000):SSpec Tryz.prog (eSame f f m).1 (eSame f f m).2:=by
 obtain ⟨p,q,h,h1,h2⟩:=hf
 subst hm'
 exact (lsame_c h h1 h2 (show t<2147483648 by omega)).spec0 rfl
theorem loopO {us:List Un} (hN:(atoms us).length≤1000) (h6:us.length≤6) {Q:AE→Fr→Mem→Prop} (hfin:∀ outs:List Un,outs.length≤6→St us Q outs (atoms us).length) :
  ∀ {p:Option Nat} {rest:List Un},Ch p rest→∀ (pre l:List Un),us=pre++rest→Ph p l→l.length≤pre.length →
   (∀ q,p=some q→∃ j,(atoms pre).length=j+1∧(aGet us j).iv.a=mg q∧(aGet us j).iv.b=mg q)→St us Q l (atoms pre).length:=by
 intro p rest hch
 induction hch with
 | nil =>
  intro pre l e hph hl hj
  obtain rfl:us=pre:=by simpa using e
  exact hfin l (by omega)
 | cl p x t u rest h ha hp hlt hf hs ih =>
  intro pre l e hph hl hj
  obtain ⟨h1,h2,h3,h4,h5⟩:=h
  have hne:x.iv.a≠x.iv.b:=by rw [h1,h2];intro e;have:=mg_inj e;omega
  have hlen:pre.length+1+rest.length≤6:=by rw [e] at h6;simpa [Nat.add_assoc,Nat.add_comm 1] using h6
  have hat:atoms us=atoms pre++(⟨⟨x.iv.a,x.iv.a,false,false⟩,x.f⟩::⟨⟨x.iv.a,x.iv.b,true,true⟩,x.f⟩::⟨⟨x.iv.b,x.iv.b,false,false⟩,x.f⟩::atoms rest):=by
   rw [e,atoms_app,atoms_cons,atm_mid ha hne];rfl
  have g0:aGet us (atoms pre).length=⟨⟨x.iv.a,x.iv.a,false,false⟩,x.f⟩:=by show (atoms us).getD _ _=_;rw [hat];exact get_at rfl
  have g1:aGet us ((atoms pre).length+1)=⟨⟨x.iv.a,x.iv.b,true,true⟩,x.f⟩:=by
   show (atoms us).getD _ _=_
   rw [hat,List.append_cons];exact get_at (by simp)
  have g2:aGet us ((atoms pre).length+1+1)=⟨⟨x.iv.b,x.iv.b,false,false⟩,x.f⟩:=by
   show (atoms us).getD _ _=_
   rw [hat,List.append_cons,List.append_cons];exact get_at (by simp)
  have hlenA:(atoms pre).length+3+(atoms rest).length=(atoms us).length:=by rw [hat];simp;omega
  have gl1:∀ i,i=(atoms pre).length→aGet us i=⟨⟨x.iv.a,x.iv.a,false,false⟩,x.f⟩:=fun i hi=>by rw [hi];exact g0
  have hpre:(atoms (pre++[x])).length=(atoms pre).length+1+1+1:=by rw [atoms_app,atoms_cons,atm_mid ha hne,List.length_append];rfl
  have hend:=ih (pre++[x]) (l++[⟨⟨x.iv.a,x.iv.b,false,false⟩,x.f⟩]) (by rw [e];simp) (.inr ⟨u,l,_,t,rfl,rfl,h1,h2,hlt,rfl,hf⟩) (by simp;omega)
   (fun q hq=>⟨(atoms pre).length+1+1,hpre,by rw [g2];cases hq;exact h2,by rw [g2];cases hq;exact h2⟩)
  rw [hpre] at hend
  have hlast:lastB l x.iv.a:=by rw [h1];exact hph.last hp
  refine roundO (by omega) (rdA (by omega) hN (by rw [g0]) (by rw [g0,g1]) (by rw [g0,g1];exact same_of hf h1 (by omega)) l (by omega) (by rw [g0];exact hlast) fun fr M b hv hM=>⟨rfl,?_⟩)
  refine roundO (l:=l) (by omega) (rdB (j:=(atoms pre).length) (by omega) hN (by rw [g1];exact hne) (by rw [g0]) (by rw [g0,g1]) l (by omega) (by rw [g1];exact hlast) fun fr M b hv hM=>⟨rfl,?_⟩) fr M b hv hM
  rw [g1] at hv hM
  refine roundO (by omega) (rdC (u:=⟨⟨x.iv.a,x.iv.b,false,true⟩,x.f⟩) (by omega) hN (by rw [g2]) hne (by rw [g2]) (by rw [g2];exact same_of hf h2 (by omega)) l (by omega) fun fr M b hv hM=>⟨rfl,?_⟩) fr M b hv hM
  exact hend fr M b hv hM
 | co x t u rest h ha hlt hf hs ih =>
  intro pre l e hph hl hj
  obtain ⟨h1,h2,h3,h4,h5⟩:=h
  have hne:x.iv.a≠x.iv.b:=by rw [h1,h2];intro e;have:=mg_inj e;omega
  have hlen:pre.length+1+rest.length≤6:=by rw [e] at h6;simpa [Nat.add_assoc,Nat.add_comm 1] using h6
  obtain ⟨j,hj0,hja,hjb⟩:=hj t rfl
  have hat:atoms us=atoms pre++(⟨⟨x.iv.a,x.iv.b,true,true⟩,x.f⟩::⟨⟨x.iv.b,x.iv.b,false,false⟩,x.f⟩::atoms rest):=by
   rw [e,atoms_app,atoms_cons,atm_open ha hne];rfl
  have g1:aGet us (j+1)=⟨⟨x.iv.a,x.iv.b,true,true⟩,x.f⟩:=by show (atoms us).getD _ _=_;rw [hat];exact get_at hj0.symm
  have g2:aGet us (j+1+1)=⟨⟨x.iv.b,x.iv.b,false,false⟩,x.f⟩:=by
   show (atoms us).getD _ _=_
   rw [hat,List.append_cons];exact get_at (by simp [hj0])
  have hlenA:(atoms pre).length+2+(atoms rest).length=(atoms us).length:=by rw [hat];simp;omega
  have hpre:(atoms (pre++[x])).length=j+1+1+1:=by rw [atoms_app,atoms_cons,atm_open ha hne,List.length_append,hj0];rfl
  have hjn:∀ q,some u=some q→∃ j,(atoms (pre++[x])).length=j+1∧(aGet us j).iv.a=mg q∧(aGet us j).iv.b=mg q :=
   fun q hq=>⟨j+1+1,hpre,by rw [g2];cases hq;exact h2,by rw [g2];cases hq;exact h2⟩
  rcases hph with ⟨hc,_⟩ | ⟨q,l0,y,s,hq,rfl,k1,k2,k3,k4,k5⟩
  ·cases hc
  obtain rfl:t=q:=by simpa using hq
  have hyne:y.iv.a≠y.iv.b:=by rw [k1,k2];intro e;have:=mg_inj e;omega
  have hl0:l0.length+1≤pre.length:=by simpa using hl
  obtain ⟨b,hb,hS⟩:=lequal_c y.f x.f
  rw [hj0]
  cases b with
  | true =>
   have hfe:=hb rfl
   have hend:=ih (pre++[x]) (l0++[⟨⟨y.iv.a,x.iv.b,y.iv.ao,false⟩,y.f⟩]) (by rw [e];simp) (.inr ⟨u,l0,_,s,rfl,rfl,k1,h2,by omega,rfl,k5⟩) (by simp;omega) hjn
   rw [hpre] at hend
   have hyne':y.iv.a≠x.iv.b:=by rw [k1,h2];intro e;have:=mg_inj e;omega
   refine roundO (by omega) (rdD (u:=y) (by omega) hN (by rw [g1];exact hne) hyne (by rw [g1,k2,h1]) k4 (by rw [g1];exact hS.spec0 rfl) l0 (by omega) fun fr M b hv hM=>⟨rfl,?_⟩)
   rw [g1] at hv hM
   refine roundO (by omega) (rdC (u:=⟨⟨y.iv.a,x.iv.b,y.iv.ao,true⟩,y.f⟩) (by omega) hN (by rw [g2]) hyne' (by rw [g2]) (by rw [g2,hfe];exact same_of hf h2 (by omega)) l0 (by omega) fun fr M b hv hM=>⟨rfl,?_⟩) fr M b hv hM
   exact hend fr M b hv hM
  | false =>
   have hend:=ih (pre++[x]) (l0++[y]++[⟨⟨x.iv.a,x.iv.b,true,false⟩,x.f⟩]) (by rw [e];simp) (.inr ⟨u,_,_,t,rfl,rfl,h1,h2,hlt,rfl,hf⟩) (by simp;omega) hjn
   rw [hpre] at hend
   refine roundO (by omega) (rdE (j:=j) (u:=y) (by omega) hN (by rw [g1];exact hne) (by rw [hja,hjb]) (by rw [g1,hja,h1]) hyne (by rw [g1,k2,h1]) k4 (by rw [g1];exact hS.spec0 rfl) l0 (by omega) fun fr M b hv hM=>⟨rfl,?_⟩)
   rw [g1] at hv hM
   refine roundO (by omega) (rdC (u:=⟨⟨x.iv.a,x.iv.b,true,true⟩,x.f⟩) (by omega) hN (by rw [g2]) hne (by rw [g2]) (by rw [g2];exact same_of hf h2 (by omega)) (l0++[y]) (by simp;omega) fun fr M b hv hM=>⟨rfl,?_⟩) fr M b hv hM
   exact hend fr M b hv hM
 | lone p x t h ha hp hf =>
  intro pre l e hph hl hj
  obtain ⟨h1,h2,h3,h4,h5⟩:=h
  have hlen:pre.length+1≤6:=by rw [e] at h6;simpa using h6
  have hat:atoms us=atoms pre++[⟨⟨x.iv.a,x.iv.a,false,false⟩,x.f⟩]:=by
   rw [e,atoms_app,atoms_cons,atm_one ha (by rw [h1,h2])];rfl
  have g0:aGet us (atoms pre).length=⟨⟨x.iv.a,x.iv.a,false,false⟩,x.f⟩:=by show (atoms us).getD _ _=_;rw [hat];exact get_at rfl
  have hlenA:(atoms pre).length+1=(atoms us).length:=by rw [hat];simp
  obtain ⟨a,b,hfe,ha',hb'⟩:=hf
  have hlast:lastB l x.iv.a:=by rw [h1];exact hph.last hp
  refine roundO (by omega) (rdF hlenA hN (by rw [g0]) ?_ l (by omega) (by rw [g0];exact hlast) fun fr M b hv hM=>⟨rfl,?_⟩)
  ·rw [g0]
   show SSpec Tryz.prog (eRdc x.f x.iv.a).1 (eRdc x.f x.iv.a).2
   rw [hfe,h1]
   exact (lreduce_c ha' hb' (show t<2147483648 by omega)).spec0 rfl
  ·rw [hlenA] at hv
   exact hfin _ (by simp;omega) fr M b hv hM
def UnsTup (a:AV):Prop:=∃ outs:List Un,outs.length≤6∧a=.tuple [unsA outs,.int .i64 0]
theorem pre_c {us:List Un} (h0:us≠[]) (h6:us.length≤6) (h:Ch none us) {Q:AE→Fr→Mem→Prop}
  (hQ:∀ fr M,lv [0,7,8] fr=[some (.iface 199 (.agg [])),some .nilSlice,some (gL (atoms us).length (aGet us))]→mv [] M=[]→W Tryz.prog T109 0 (post 5 c109) fr M Q) :
  W Tryz.prog T109 0 c109 (mkFr (argSlots (nmArgs us) 0)) (mkMem []) Q:=by
 have sS:SSpec Tryz.prog (eSo us).1 (eSo us).2:=(sorted_c h0 h6 h.two.1).spec0 rfl
 have sA:SSpec Tryz.prog (eAt us (atoms us).length (aGet us)).1 (eAt us (atoms us).length (aGet us)).2:=(atoms_c h.atOk (by omega)).spec0 rfl
 have hA:=h.two.2
 clear h
 have s1:∀ u1:Un,us=[u1]→Cons2 ApU [u1]→W Tryz.prog T109 0 c109 (mkFr (argSlots (nmArgs us) 0)) (mkMem []) Q:=fun u1 e hc=>by
  subst e
  have key:=fun Q=>@W.runN Sb Tryz.prog hm X0 hX0l [eSo [u1],eAt [u1] _ (aGet [u1])] (AllOk.mem ⟨sS,sA,trivial⟩) T109 0 _ _ _ Q 300 5 [0,7,8] [] _ (np_1 u1 (atoms [u1]).length (aGet [u1]))
  refine key _ ?_
  simp only [gX_iff,gB_iff,and_true,true_and]
  exact pdec_iff.2 fun fr M hv hM=>hQ fr M hv hM
 have s2:∀ u1 u2:Un,us=[u1,u2]→Cons2 ApU [u1,u2]→W Tryz.prog T109 0 c109 (mkFr (argSlots (nmArgs us) 0)) (mkMem []) Q:=fun u1 u2 e hc=>by
  subst e
  have key:=fun Q=>@W.runN Sb Tryz.prog hm X0 hX0l [eSo [u1,u2],eAp u1 u2,eAt [u1,u2] _ (aGet [u1,u2])] (AllOk.mem ⟨sS,hc.1,sA,trivial⟩) T109 0 _ _ _ Q 300 5 [0,7,8] [] _ (np_2 u1 u2 (atoms [u1,u2]).length (aGet [u1,u2]))
  refine key _ ?_
  simp only [gX_iff,gB_iff,and_true,true_and]
  exact pdec_iff.2 fun fr M hv hM=>hQ fr M hv hM
 have s3:∀ u1 u2 u3:Un,us=[u1,u2,u3]→Cons2 ApU [u1,u2,u3]→W Tryz.prog T109 0 c109 (mkFr (argSlots (nmArgs us) 0)) (mkMem []) Q:=fun u1 u2 u3 e hc=>by
  subst e
  have key:=fun Q=>@W.runN Sb Tryz.prog hm X0 hX0l [eSo [u1,u2,u3],eAp u1 u2,eAp u2 u3,eAt [u1,u2,u3] _ (aGet [u1,u2,u3])] (AllOk.mem ⟨sS,hc.1,hc.2.1,sA,trivial⟩) T109 0 _ _ _ Q 300 5 [0,7,8] [] _ (np_3 u1 u2 u3 (atoms [u1,u2,u3]).length (aGet [u1,u2,u3]))
  refine key _ ?_
  simp only [gX_iff,gB_iff,and_true,true_and]
  exact pdec_iff.2 fun fr M hv hM=>hQ fr M hv hM
 have s4:∀ u1 u2 u3 u4:Un,us=[u1,u2,u3,u4]→Cons2 ApU [u1,u2,u3,u4]→W Tryz.prog T109 0 c109 (mkFr (argSlots (nmArgs us) 0)) (mkMem []) Q:=fun u1 u2 u3 u4 e hc=>by
  subst e
  have key:=fun Q=>@W.runN Sb Tryz.prog hm X0 hX0l [eSo [u1,u2,u3,u4],eAp u1 u2,eAp u2 u3,eAp u3 u4,eAt [u1,u2,u3,u4] _ (aGet [u1,u2,u3,u4])] (AllOk.mem ⟨sS,hc.1,hc.2.1,hc.2.2.1,sA,trivial⟩) T109 0 _ _ _ Q 300 5 [0,7,8] [] _ (np_4 u1 u2 u3 u4 (atoms [u1,u2,u3,u4]).length (aGet [u1,u2,u3,u4]))
  refine key _ ?_
  simp only [gX_iff,gB_iff,and_true,true_and]
  exact pdec_iff.2 fun fr M hv hM=>hQ fr M hv hM
 have s5:∀ u1 u2 u3 u4 u5:Un,us=[u1,u2,u3,u4,u5]→Cons2 ApU [u1,u2,u3,u4,u5]→W Tryz.prog T109 0 c109 (mkFr (argSlots (nmArgs us) 0)) (mkMem []) Q:=fun u1 u2 u3 u4 u5 e hc=>by
  subst e
  have key:=fun Q=>@W.runN Sb Tryz.prog hm X0 hX0l [eSo [u1,u2,u3,u4,u5],eAp u1 u2,eAp u2 u3,eAp u3 u4,eAp u4 u5,eAt [u1,u2,u3,u4,u5] _ (aGet [u1,u2,u3,u4,u5])] (AllOk.mem ⟨sS,hc.1,hc.2.1,hc.2.2.1,hc.2.2.2.1,sA,trivial⟩) T109 0 _ _ _ Q 300 5 [0,7,8] [] _ (np_5 u1 u2 u3 u4 u5 (atoms [u1,u2,u3,u4,u5]).length (aGet [u1,u2,u3,u4,u5]))
  refine key _ ?_
  simp only [gX_iff,gB_iff,and_true,true_and]
  exact pdec_iff.2 fun fr M hv hM=>hQ fr M hv hM
 have s6:∀ u1 u2 u3 u4 u5 u6:Un,us=[u1,u2,u3,u4,u5,u6]→Cons2 ApU [u1,u2,u3,u4,u5,u6]→W Tryz.prog T109 0 c109 (mkFr (argSlots (nmArgs us) 0)) (mkMem []) Q:=fun u1 u2 u3 u4 u5 u6 e hc=>by
  subst e
  have key:=fun Q=>@W.runN Sb Tryz.prog hm X0 hX0l [eSo [u1,u2,u3,u4,u5,u6],eAp u1 u2,eAp u2 u3,eAp u3 u4,eAp u4 u5,eAp u5 u6,eAt [u1,u2,u3,u4,u5,u6] _ (aGet [u1,u2,u3,u4,u5,u6])] (AllOk.mem ⟨sS,hc.1,hc.2.1,hc.2.2.1,hc.2.2.2.1,hc.2.2.2.2.1,sA,trivial⟩) T109 0 _ _ _ Q 300 5 [0,7,8] [] _ (np_6 u1 u2 u3 u4 u5 u6 (atoms [u1,u2,u3,u4,u5,u6]).length (aGet [u1,u2,u3,u4,u5,u6]))
  refine key _ ?_
  simp only [gX_iff,gB_iff,and_true,true_and]
  exact pdec_iff.2 fun fr M hv hM=>hQ fr M hv hM
 match us,h0,h6,hA,s1,s2,s3,s4,s5,s6 with
 | [u1],_,_,hA,s1,_,_,_,_,_=>exact s1 u1 rfl hA
 | [u1,u2],_,_,hA,_,s2,_,_,_,_=>exact s2 u1 u2 rfl hA
 | [u1,u2,u3],_,_,hA,_,_,s3,_,_,_=>exact s3 u1 u2 u3 rfl hA
 | [u1,u2,u3,u4],_,_,hA,_,_,_,s4,_,_=>exact s4 u1 u2 u3 u4 rfl hA
 | [u1,u2,u3,u4,u5],_,_,hA,_,_,_,_,s5,_=>exact s5 u1 u2 u3 u4 u5 rfl hA
 | [u1,u2,u3,u4,u5,u6],_,_,hA,_,_,_,_,_,s6=>exact s6 u1 u2 u3 u4 u5 u6 rfl hA
 | _::_::_::_::_::_::_::_,_,h6,_,_,_,_,_,_,_=>simp at h6
theorem outs_leaf (outs:List Un) (b:Nat) {M:Mem} (h:AtO outs b M):FzA 0 M (.tuple [outAV b outs,.int .i64 0]) (.tuple [unsA outs,.int .i64 0]):=by
 refine .tuple _ _ (.cons _ _ _ _ ?_ (.cons _ _ _ _ (.plain (.int .i64 0)) .nil))
 cases outs with
 | nil=>exact fz_units0
 | cons u l =>
  rcases h with h | h
  ·cases h
  ·exact fz_units (u::l) (Nat.zero_le _) h (Nat.le_refl _)
theorem normal_c {us:List Un} (h0:us≠[]) (h6:us.length≤6) (h:Ch none us):∃ ans,UnsTup ans∧BSim Tryz.prog 109 (nmArgs us) [] [] ans:=by
 refine BSim.of_WEx okNormal (by kernel_rfl) rfl ?_
 show W Tryz.prog T109 0 c109 (mkFr (argSlots (nmArgs us) 0)) (mkMem []) (FinEx Tryz.prog Tryz.f109 0 [] UnsTup)
 refine pre_c h0 h6 h fun fr M hv hM=>?_
 rw [n_post]
 refine W.seq ?_
 rw [n_loop]
 refine W.next (π:=[]) (bs:=[]) hv hM [(0,.iface 199 (.agg [])),(7,.nilSlice),(8,gL (atoms us).length (aGet us))] [] rfl rfl rfl (by decide) (by simp) (by simp) ?_
 have hh:=init109 (atoms us).length (aGet us)
 have key:=fun Q=>@W.run Sb Tryz.prog hm X0 hX0l [] (fun _ h=>by cases h) T109 0 _ _ _ Q 60 [0,7,8,41,42,43] [] _ hh
 refine W.seq (key _ (pdec_iff.2 fun fr1 M1 hv1 hm1=>?_))
 refine W.block (LX.loop ?_)
 have hN:(atoms us).length≤1000:=by have:=atoms_len us;omega
 refine loopO hN h6 (fun outs ho=>endO fun fr M b hv hM=>Blkd_eq ?_) h [] [] rfl (.inl ⟨rfl,rfl⟩) (Nat.le_refl _) (fun q hq=>by cases hq) fr1 M1 0 hv1 (.inl rfl)
 show W Tryz.prog T109 0 (rhs (post 5 c109)) fr M (FinEx Tryz.prog Tryz.f109 0 [] UnsTup)
 refine W.fromO hv hM ?_
 cases outs with
 | nil =>
  have key3:=@W.finEx Sb Tryz.prog hm X0 hX0l [] (fun _ h=>by cases h) Tryz.f109 T109 0 _ _ _ [] UnsTup 60 [] _ (n_fin0 (atoms us).length (atoms us).length (aGet us))
  exact key3 (pdec_iff.2 ⟨_,⟨[],by simp,rfl⟩,fun M' _=>⟨outs_leaf [] 0 (.inl rfl),fun j r hr=>by cases hr⟩⟩)
 | cons u l =>
  have key3:=@W.finEx Sb Tryz.prog hm X0 hX0l [] (fun _ h=>by cases h) Tryz.f109 T109 0 _ _ _ [] UnsTup 60 [0] _ (n_fin (u::l).length (toAVs (unsD (u::l))) (atoms us).length (atoms us).length (aGet us))
  exact key3 (pdec_iff.2 ⟨_,⟨u::l,ho,rfl⟩,fun M' h=>⟨outs_leaf (u::l) 0 (.inr (List.cons.inj h).1),fun j r hr=>by cases hr⟩⟩)
end
end
end Go.Proofs.YtodjhpjcgggamaaGreatDoor

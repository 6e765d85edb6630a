/- A part of the proof over this seat's program: the checked evaluator and its soundness, and what it gives here. No condition. -/
import Derived.Test.YtodjhpjcgggamaaGreatDoorA3

set_option linter.all false

namespace Go.Proofs.YtodjhpjcgggamaaGreatDoor
open Go Go.Eng Go.Vi Go.Knuth
noncomputable section
local instance : Go.Eng.Mode := Sy
theorem shCond:rhs (lhs (post 4 c111))=.cond (.tmp 54) shTop .skip:=by kernel_rfl
def eBy (n:Nat) (ds:List Nat) (b:Nat) (l:List UInt8):FuncId × SEnt:=(177,⟨[.slice b 0 n n false],[(b,toAVs (rowD ds),toAVs (rowD ds))],strA l⟩)
theorem eBy_ok {ds:List Nat} {l:List UInt8} (b:Nat) (h:BSim Tryz.prog 177 [.slice 0 0 ds.length ds.length false] [rowD ds] [rowD ds] (strA l)):SSpec Tryz.prog (eBy ds.length ds b l).1 (eBy ds.length ds b l).2:=h.spec1 b rfl
theorem eMag_ok {u:Nat} {l:List UInt8} (h:BSim Tryz.prog 151 [.int .u64 (.ofNat u)] [] [] (strA l)):SSpec Tryz.prog (eMag u l).1 (eMag u l).2:=h.spec0 rfl
theorem sh_end (qs:List Nat) (r:Nat) (l m:List UInt8) (I:IK) :
  Eng.execN Tryz.prog X0 [eBy qs.length qs 0 l,eMag r m] 300 Tryz.f152.ntmps 1 (post 2 shTop) (mkFr [(10,.slice 0 0 qs.length qs.length false),(11,.int .u32 (.ofNat r))]) (mkMem [.row (toAVs (rowD qs)) false 1]) (fun o fr' M'=>I o (lv [4,5] fr') (mv [] M')) =
   gC (eBy qs.length qs 0 l) (gateP ([AV.int .u64 (IntKind.u64.wrap (.ofNat r))]=[AV.int .u64 (.ofNat r)]) (I .normal [some (strA l),some (strA m)] [])):=by kernel_rfl
theorem shRet:post 1 (post 2 shTop)=.ret:=by kernel_rfl
theorem W.ret {nt k:Nat} {fr:Fr} {M:Mem} {Q:AE→Fr→Mem→Prop} (h:Q .ret fr M):W Tryz.prog nt k .ret fr M Q :=
 (W.exec hm hX0 (S:=[]) (fun _ h=>by cases h) (k:=k) (n:=1) (c:=.ret) (K:=fun o fr' M'=>pdec (Q o fr' M')) (show pdec (Q .ret fr M)=true from pdec_iff.2 h)).mono fun _ _ _ hK=>pdec_iff.1 hK
theorem div_short {a b:List UInt8} (hw:¬ (a.length≤8∧b.length≤8)) (hc:¬ compareN a b<0) (h1:1≤b.length) (h2:b.length≤4) (hb:NZ b) (ha1:9≤a.length) (ha2:a.length≤20) :
  ∃ ans,DivOk a b ans∧BSim Tryz.prog 152 [strA a,strA b] [] [] ans:=by
 obtain ⟨y,hy⟩:∃ y,dgL b=[y]:=by
  have hl:=dgL_len b
  match hd:dgL b,hl with
  | [y],_=>exact ⟨y,rfl⟩
  | [],h=>simp at h;omega
  | _::_::_,h=>simp at h;omega
 have hyv:y=be b:=by have:=dgL_val b;rw [hy] at this;simpa [val] using this
 have hy0:0<y:=by
  rw [hyv]
  cases b with
  | nil=>simp at h1
  | cons c l =>
   rw [be_cons]
   have:0<c.toNat:=by
    apply Nat.pos_of_ne_zero
    intro e
    exact hb c l rfl (UInt8.toNat_inj.1 e)
   exact Nat.lt_of_lt_of_le (Nat.mul_pos this (Nat.pow_pos (by decide))) (Nat.le_add_right _ _)
 have hyB:y<4294967296:=dgL_lt b y (by rw [hy];simp)
 obtain ⟨ds,hds⟩:∃ ds,dgL a=ds:=⟨_,rfl⟩
 have hdl:3≤ds.length∧ds.length≤5:=by rw [← hds,dgL_len];omega
 have hdB:∀ d∈ds,d<4294967296:=by rw [← hds];exact dgL_lt a
 have hrun:ShRun a ds y:=by
  match ds,hdl with
  | [_,_,_],_=>exact sh_3 _ _ _ _ _
  | [_,_,_,_],_=>exact sh_4 _ _ _ _ _ _
  | [_,_,_,_,_],_=>exact sh_5 _ _ _ _ _ _ _
  | [],h=>simp at h
  | [_],h=>simp at h
  | [_,_],h=>simp at h
  | _::_::_::_::_::_::_,h=>simp at h
 refine div_head hw hc h1 (by omega) hy ?_
 refine W.parts (by kernel_rfl) (W.parts (by kernel_rfl) ?_)
 refine W.run hm hX0 (S:=[]) (fun _ h=>by cases h) 300 [0,9,54] [0] (fun I=>I .normal [some (strA a),some (.slice 0 0 1 1 false),some (.bool true)] [some (.row (toAVs (rowD [y])) false 1)]) (fun I=>by kernel_rfl) (pdec_iff.2 fun fr1 M1 hv1 hm1=>?_)
 show W Tryz.prog Tryz.f152.ntmps 0 (rhs (lhs (post 4 c111))) fr1 M1 _
 rw [shCond]
 simp only [lv,List.map_cons,List.map_nil,List.cons.injEq] at hv1
 refine W.cond true hv1.2.2.1 (fun _=>?_) (fun h=>by cases h)
 refine W.next0 (ts:=[0,9]) (vs:=[strA a,.slice 0 0 1 1 false]) (bs:=[.row (toAVs (rowD [y])) false 1]) (by simp only [lv,List.map_cons,List.map_nil,hv1.1,hv1.2.1]) hm1 [(0,strA a),(9,.slice 0 0 1 1 false)] [.row (toAVs (rowD [y])) false 1] rfl rfl
  (by simp only [rows2,List.map_cons,List.map_nil,renB_data]) (by rfl) ?_
 refine W.runN hm (hXm hX0 (eDig_ok a ds 1 (by omega) (by omega) hds)) (S:=[]) (fun _ h=>by cases h) 300 2 [10,11] [1] _ hrun ?_
 rw [gM_iff]
 refine gNs_of (by rw [wrapU64 y (by omega),ieq_iff];simp only [Int.ofNat_eq_natCast,beq_eq_false_iff_ne,ne_eq];omega) ?_
 rw [shF_eq hy0 hyB ds hdB]
 have hr:=shN_lt hy0 ds
 rw [wrapU32 _ (by omega),rowI_eq]
 have hql:=shN_len y ds
 have hqB:=shN_q hy0 ds hdB
 have hvl:=shN_val hy0 ds
 generalize (shN y ds).2=r at *
 generalize (shN y ds).1=qs at *
 rw [← hql]
 refine pdec_iff.2 fun fr2 M2 hv2 hm2=>?_
 show W Tryz.prog Tryz.f152.ntmps 0 (post 2 shTop) fr2 M2 _
 refine W.next (π:=[1]) hv2 hm2 [(10,.slice 0 0 qs.length qs.length false),(11,.int .u32 (.ofNat r))] [.row (toAVs (rowD qs)) false 1] rfl rfl (by simp only [rows2,List.map_cons,List.map_nil,renB_data]) (by rfl) (by simp) (by simp) ?_
 obtain ⟨l,hl1,hl2,hl3⟩:=bytes_c qs (by omega) hqB
 obtain ⟨m,hm1',hm2',hm3'⟩:=mag_c r (by omega)
 refine W.runN hm hX0 (S:=[eBy qs.length qs 0 l,eMag r m]) (AllOk.mem ⟨eBy_ok 0 hl3,eMag_ok hm3',trivial⟩) 300 1 [4,5] [] _ (sh_end qs r l m) ?_
 rw [gC_iff,gateP_iff]
 refine ⟨by rw [wrapU64 r (by omega)],pdec_iff.2 fun fr3 M3 hv3 _=>?_⟩
 show W Tryz.prog Tryz.f152.ntmps 0 (post 1 (post 2 shTop)) fr3 M3 _
 rw [shRet]
 refine W.ret (fin_of_lv res111 rfl hv3 ⟨.tuple [strA l,strA m],⟨l,m,rfl,?_,hl2,hm2'⟩,.tuple _ _ (.cons _ _ _ _ (.plain (.str l.length (enc l))) (.cons _ _ _ _ (.plain (.str m.length (enc m))) .nil)),fun j r hj=>by simp at hj⟩)
 rw [hm1',← hyv];exact hr
end
end Go.Proofs.YtodjhpjcgggamaaGreatDoor

namespace Go.Proofs.YtodjhpjcgggamaaGreatDoor
open Go Go.Eng Go.Vi Go.Knuth
noncomputable section
local instance : Go.Eng.Mode := Sy
theorem ok99:FnOk Tryz.prog 82 Tryz.f82:=⟨Tryz.func82,by kernel_rfl,by kernel_rfl⟩
theorem ok132:FnOk Tryz.prog 178 Tryz.f178:=⟨Tryz.func178,by kernel_rfl,by kernel_rfl⟩
def run99 (u:Nat) (I:AK):Bool :=
 Eng.exec Tryz.prog X0 [] 300 Tryz.f82.ntmps (codeOf Tryz.f82) (mkFr (argSlots [.int .u32 (.ofNat u)] 0)) (mkMem (rowsOf [])) (fun o fr M=>endK o (resK Tryz.prog fr M Tryz.f82.results.toList fun vs=>I (oneOf vs) (mv [] M)))
theorem len32_run (u:Nat):∀ I,run99 u I=gIf (Bool.not (ilt (.ofNat u) 65536)) (len8 I (u / 65536) 16) (len8 I u 0):=fun I=>by kernel_rfl
theorem len32_c (u:Nat) (hu:u<4294967296):∃ n,LenOk u n∧BSim Tryz.prog 82 [.int .u32 (.ofNat u)] [] [] (lenA n):=by
 obtain ⟨ans,⟨n,hn,rfl⟩,h⟩:=BSim.runEx hm hX0 (S:=[]) (fun _ h=>by cases h) ok99 (by kernel_rfl) rfl 300 [] (Pr:=fun ans=>∃ n,LenOk u n∧ans=lenA n) _ (len32_run u)
  (gIf_of (fun hc=>len8_of (Pr:=LenOk u) (fun n hn=>pdec_iff.2 ⟨_,⟨n,hn,rfl⟩,Leaf.flat fun _ _=>.plain (.int .i64 (.ofNat n))⟩) (by omega) (by omega) fun m hm=>by
    have hc:=nilt.1 hc
    exact LenOk.lift (y:=u) (k:=16) (n:=m) hm (Nat.div_pos hc (by decide)))
   (fun hc=>len8_of (Pr:=LenOk u) (fun n hn=>pdec_iff.2 ⟨_,⟨n,hn,rfl⟩,Leaf.flat fun _ _=>.plain (.int .i64 (.ofNat n))⟩) (nilt.2 hc) (by omega) fun m hm=>by rw [Nat.zero_add];exact hm))
 exact ⟨n,hn,h⟩
def eL32 (u n:Nat):FuncId × SEnt:=(82,⟨[.int .u32 (.ofNat u)],[],lenA n⟩)
def eLz (v:Nat) (b:Nat):FuncId × SEnt:=(178,⟨[.int .u32 (.ofNat v)],[],.int .i64 (.ofNat b)⟩)
theorem lz_c (u:Nat) (hu:u<4294967296) (h0:0<u):∃ b,b≤31∧u*2 ^ b<4294967296∧4294967296≤2*(u*2 ^ b)∧BSim Tryz.prog 178 [.int .u32 (.ofNat u)] [] [] (.int .i64 (.ofNat b)):=by
 obtain ⟨n,⟨h1,h2⟩,h⟩:=len32_c u hu
 have h2:=h2 h0
 have hn:n≤32:=by
  apply Nat.le_of_not_lt
  intro h
  have:2 ^ 33≤2 ^ n:=Nat.pow_le_pow_right (by decide) h
  omega
 have hn1:1≤n:=by
  apply Nat.pos_of_ne_zero
  rintro rfl
  simp at h1;omega
 have e:2 ^ n*2 ^ (32-n)=4294967296:=by rw [← Nat.pow_add,Nat.add_sub_cancel' hn]
 have hp:0<2 ^ (32-n):=Nat.pow_pos (by decide)
 refine ⟨32-n,by omega,?_,?_,?_⟩
 ·rw [← e];exact Nat.mul_lt_mul_of_pos_right h1 hp
 ·rw [← e,← Nat.mul_assoc];exact Nat.mul_le_mul_right _ h2
 ·refine BSim.run hm hX0 (S:=[eL32 u n]) (AllOk.mem ⟨h.spec0 rfl,trivial⟩) ok132 (by kernel_rfl) rfl 300 [] (fun I=>gC (eL32 u n) (gB (inI64 (Int.sub 32 (.ofNat n))) (I (.int .i64 (Int.sub 32 (.ofNat n))) []))) (fun I=>by kernel_rfl) ?_
  rw [gC_iff,gB_iff]
  have e2:Int.sub 32 (.ofNat n)=.ofNat (32-n):=by
   show (32:Int)-(n:Int)=((32-n:Nat):Int)
   omega
  rw [e2]
  exact ⟨inI64_iff _ |>.2 (by simp only [Int.ofNat_eq_natCast];omega),pdec_iff.2 (Leaf.flat fun _ _=>.plain (.int .i64 (.ofNat (32-n))))⟩
def wF (d:Int) (b:Nat):Int:=IntKind.u64.wrap (Int.mul (IntKind.u64.wrap d) (.ofNat (Nat.pow 2 (shAmt .u64 b))))
def shlF (b:Nat):Int→List Int→List Int
 | cur,[]=>[cur]
 | cur,d::l=>IntKind.u32.wrap (.ofNat (Nat.lor (toU .u32 cur) (toU .u32 (IntKind.u32.wrap (wF d b)))))::shlF b (IntKind.u32.wrap (fdivP (wF d b) (Nat.pow 2 (shAmt .u64 32)))) l
def shlN (b:Nat):Nat→List Nat→List Nat
 | cur,[]=>[cur]
 | cur,d::l=>((d*2 ^ b) % 4294967296+cur)::shlN b (d*2 ^ b / 4294967296) l
theorem shl_low {b d cur:Nat} (hb:b≤31) (hc:cur<2 ^ b):Nat.lor cur (d*2 ^ b % 4294967296)=d*2 ^ b % 4294967296+cur∧d*2 ^ b % 4294967296+cur<4294967296:=by
 have e:2 ^ b*2 ^ (32-b)=4294967296:=by rw [← Nat.pow_add,Nat.add_sub_cancel' (by omega)]
 have e1:d*2 ^ b % 4294967296=d % 2 ^ (32-b)*2 ^ b:=by
  rw [← e,Nat.mul_comm (2 ^ b),Nat.mul_mod_mul_right]
 have h1:d % 2 ^ (32-b)<2 ^ (32-b):=Nat.mod_lt _ (Nat.pow_pos (by decide))
 constructor
 ·rw [e1,← lor_low _ cur b hc];exact Nat.or_comm ..
 ·have:(d % 2 ^ (32-b)+1)*2 ^ b≤2 ^ (32-b)*2 ^ b:=Nat.mul_le_mul_right _ h1
  rw [Nat.add_mul,Nat.mul_comm (2 ^ (32-b)),e] at this
  omega
theorem shl_hi {b d:Nat} (hd:d<4294967296):d*2 ^ b / 4294967296<2 ^ b:=by
 rw [Nat.div_lt_iff_lt_mul (by decide),Nat.mul_comm (2 ^ b)]
 exact Nat.mul_lt_mul_of_pos_right hd (Nat.pow_pos (by decide))
theorem shAmt64 (s:Nat) (h:s≤64):shAmt .u64 s=s:=by
 unfold shAmt
 have:Nat.ble s (bitsOf .u64)=true:=by rw [Nat.ble_eq];exact h
 rw [this]
theorem wrapU32m (n:Nat):IntKind.u32.wrap (.ofNat n)=.ofNat (n % 4294967296):=by
 simp [IntKind.wrap,IntKind.bits,IntKind.signed]
theorem shlF_eq {b:Nat} (hb:b≤31):∀ (l:List Nat) (cur:Nat),(∀ d∈l,d<4294967296)→cur<2 ^ b→shlF b (.ofNat cur) (l.map Int.ofNat)=(shlN b cur l).map Int.ofNat
 | [],cur,_,_=>rfl
 | d::l,cur,h,hc=>by
  have hd:=h d (List.mem_cons_self ..)
  have h2:=shl_hi (b:=b) hd
  obtain ⟨h3,h4⟩:=shl_low (d:=d) hb hc
  have hw:wF (.ofNat d) b=.ofNat (d*2 ^ b):=by
   unfold wF
   rw [shAmt64 b (by omega),wrapU64 d (by omega)]
   have e1:Int.mul (.ofNat d) (.ofNat (Nat.pow 2 b))=.ofNat (d*2 ^ b):=rfl
   have h5:d*2 ^ b≤4294967296*2 ^ 31:=Nat.mul_le_mul (by omega) (Nat.pow_le_pow_right (by decide) hb)
   have h6:(4294967296:Nat)*2 ^ 31=9223372036854775808:=by decide
   rw [e1,wrapU64 _ (by omega)]
  have h31:2 ^ b≤2 ^ 31:=Nat.pow_le_pow_right (by decide) hb
  have h32:(2:Nat) ^ 31=2147483648:=by decide
  rw [List.map_cons,shlF,hw,shAmt64 32 (by decide),shlN,List.map_cons]
  have e2:fdivP (.ofNat (d*2 ^ b)) (Nat.pow 2 32)=.ofNat (d*2 ^ b / 4294967296):=rfl
  rw [e2,wrapU32m (d*2 ^ b),toU32 cur (by omega),toU32 _ (Nat.mod_lt _ (by decide)),h3,wrapU32 _ h4,wrapU32 _ (by omega),shlF_eq hb l _ (fun x hx=>h x (List.mem_cons_of_mem _ hx)) h2]
theorem shlN_len (b:Nat):∀ (l:List Nat) (cur:Nat),(shlN b cur l).length=l.length+1
 | [],_=>rfl
 | d::l,cur=>by rw [shlN,List.length_cons,shlN_len b l];rfl
theorem shlN_val (b:Nat):∀ (l:List Nat) (cur:Nat),val 4294967296 (shlN b cur l)=val 4294967296 l*2 ^ b+cur
 | [],cur=>by simp [shlN,val]
 | d::l,cur=>by
  have h:=Nat.div_add_mod (d*2 ^ b) 4294967296
  rw [shlN,val,shlN_val b l,val,Nat.add_mul,Nat.mul_add,Nat.mul_assoc]
  omega
theorem shlN_lt {b:Nat} (hb:b≤31):∀ (l:List Nat) (cur:Nat),(∀ d∈l,d<4294967296)→cur<2 ^ b→∀ d∈shlN b cur l,d<4294967296
 | [],cur,_,hc,d,hd=>by
  have h31:2 ^ b≤2 ^ 31:=Nat.pow_le_pow_right (by decide) hb
  have h32:(2:Nat) ^ 31=2147483648:=by decide
  obtain rfl:=List.mem_singleton.1 hd
  omega
 | x::l,cur,h,hc,d,hd=>by
  rcases List.mem_cons.1 hd with rfl | hd
  ·exact (shl_low hb hc).2
  ·exact shlN_lt hb l _ (fun x hx=>h x (List.mem_cons_of_mem _ hx)) (shl_hi (h x (List.mem_cons_self ..))) d hd
theorem shlN_top {b:Nat}:∀ (l:List Nat) (cur:Nat),(∀ d∈l,d<4294967296)→cur<2 ^ b→∀ (m:List Nat) (t:Nat),shlN b cur l=m++[t]→t<2 ^ b
 | [],cur,_,hc,m,t,h=>by
  cases m with
  | nil=>simp [shlN] at h;omega
  | cons x m=>simp [shlN] at h
 | x::l,cur,hl,hc,m,t,h=>by
  cases m with
  | nil=>simp [shlN] at h;have:=shlN_len b l (x*2 ^ b / 4294967296);rw [h.2] at this;simp at this
  | cons y m =>
   rw [shlN,List.cons_append] at h
   exact shlN_top l _ (fun d hd=>hl d (List.mem_cons_of_mem _ hd)) (shl_hi (hl x (List.mem_cons_self ..))) m t (List.cons.inj h).2
end
end Go.Proofs.YtodjhpjcgggamaaGreatDoor

namespace Go.Proofs.YtodjhpjcgggamaaGreatDoor
open Go Go.Eng Go.Vi Go.Knuth
noncomputable section
local instance : Go.Eng.Mode := Sy
def zrow (n:Nat):List Nat:=List.replicate n 0
def ShfRun (a:List UInt8) (ds ys:List Nat) (t b:Nat):Prop:=∀ I:IK,
 Eng.execN Tryz.prog (XD a ds 1) [eLz t b] 300 Tryz.f152.ntmps 6 (post 4 c111) (mkFr [(0,strA a),(9,.slice 0 0 ys.length ys.length false)]) (mkMem [.row (toAVs (rowD ys)) false 1]) (fun o fr' M'=>I o (lv [9,12,13,14,15] fr') (mv [2,3,4] M')) =
  gC (eLz t b) (gM (eDig a ds 1) (I .normal [some (.slice 3 0 ys.length (ys.length+1) false),some (.int .i64 (.ofNat b)),some (.slice 2 0 (ds.length+1) (ds.length+1) false),some (.int .i64 (.ofNat ys.length)),some (.slice 4 0 (ds.length+1-ys.length) (ds.length+1-ys.length) false)]
   [some (.row (rowI (shlF b (.ofNat 0) (ds.map Int.ofNat))) false 1),some (.row (rowI (shlF b (.ofNat 0) (ys.map Int.ofNat))) false 1),some (.row (toAVs (rowD (zrow (ds.length+1-ys.length)))) false 1)]))
theorem shf_23 (a:List UInt8) (d0 d1 d2 y0 y1 b:Nat):ShfRun a [d0,d1,d2] [y0,y1] y1 b:=fun I=>by kernel_rfl
theorem shf_24 (a:List UInt8) (d0 d1 d2 d3 y0 y1 b:Nat):ShfRun a [d0,d1,d2,d3] [y0,y1] y1 b:=fun I=>by kernel_rfl
theorem shf_33 (a:List UInt8) (d0 d1 d2 y0 y1 y2 b:Nat):ShfRun a [d0,d1,d2] [y0,y1,y2] y2 b:=fun I=>by kernel_rfl
def divSlots (n m b:Nat):List (Nat × AV):=[(9,.slice 1 0 n (n+1) false),(12,.int .i64 (.ofNat b)),(13,.slice 0 0 m m false),(14,.int .i64 (.ofNat n)),(15,.slice 2 0 (m-n) (m-n) false)]
def divRows (xs ys os:List Nat):List Blk:=[.row (toAVs (rowD xs)) false 1,.row (toAVs (rowD ys)) false 1,.row (toAVs (rowD os)) false 1]
theorem divRows_ren (π:List Nat) (xs ys os:List Nat):rows2 π (divRows xs ys os)=(divRows xs ys os).map some:=by
 simp only [rows2,divRows,List.map_cons,List.map_nil,renB_data]
theorem div_shift {a b:List UInt8} {ds ys:List Nat} {t:Nat} (ha1:9≤a.length) (ha2:a.length≤20) (hd:dgL a=ds) (hrun:∀ b,ShfRun a ds ys t b) (ht:t<4294967296) (ht0:0<t) (hys:∀ d∈ys,d<4294967296)
  {Pr:AV→Prop} (h:∀ sh,sh≤31→t*2 ^ sh<4294967296→4294967296≤2*(t*2 ^ sh) →
   W Tryz.prog Tryz.f152.ntmps 0 (post 10 c111) (mkFr (divSlots ys.length (ds.length+1) sh)) (mkMem (divRows (shlN sh 0 ds) (shlN sh 0 ys) (zrow (ds.length+1-ys.length)))) (FinEx Tryz.prog Tryz.f152 0 [] Pr)) :
  W Tryz.prog Tryz.f152.ntmps 0 (post 4 c111) (mkFr [(0,strA a),(1,strA b),(9,.slice 0 0 ys.length ys.length false)]) (mkMem [.row (toAVs (rowD ys)) false 1]) (FinEx Tryz.prog Tryz.f152 0 [] Pr):=by
 obtain ⟨sh,h1,h2,h3,h4⟩:=lz_c t ht ht0
 have hds:∀ d∈ds,d<4294967296:=by rw [← hd];exact dgL_lt a
 refine W.next0 (ts:=[0,9]) (π:=[0]) (vs:=[strA a,.slice 0 0 ys.length ys.length false]) (bs:=[.row (toAVs (rowD ys)) false 1]) rfl (by rfl) [(0,strA a),(9,.slice 0 0 ys.length ys.length false)] [.row (toAVs (rowD ys)) false 1] rfl rfl
  (by simp only [rows2,List.map_cons,List.map_nil,renB_data]) (by rfl) ?_
 refine W.runN hm (hXm hX0 (eDig_ok a ds 1 (by omega) (by omega) hd)) (S:=[eLz t sh]) (AllOk.mem ⟨h4.spec0 rfl,trivial⟩) 300 6 [9,12,13,14,15] [2,3,4] _ (hrun sh) ?_
 have hp:0<2 ^ sh:=Nat.pow_pos (by decide)
 rw [gC_iff,gM_iff,shlF_eq h1 ds 0 hds hp,shlF_eq h1 ys 0 hys hp,rowI_eq,rowI_eq]
 refine pdec_iff.2 fun fr1 M1 hv1 hm1=>?_
 exact W.next (π:=[2,3,4]) hv1 hm1 (divSlots ys.length (ds.length+1) sh) (divRows (shlN sh 0 ds) (shlN sh 0 ys) (zrow (ds.length+1-ys.length))) rfl rfl (divRows_ren ..) (by rfl) (by simp) (by simp) (h sh h1 h2 h3)
end
end Go.Proofs.YtodjhpjcgggamaaGreatDoor

namespace Go.Proofs.YtodjhpjcgggamaaGreatDoor
open Go Go.Eng Go.Vi Go.Knuth
noncomputable section
local instance : Go.Eng.Mode := Sy
def bodyL:Code:=bodyOf (bodyOf (rhs (lhs (post 10 c111))))
def bodyJ:Code:=bodyOf (lhs (rhs bodyL))
def bodyG:Code:=bodyOf (bodyOf (lhs (post 2 bodyJ)))
def jSlots (j:Int) (n m sh:Nat):List (Nat × AV):=(16,.int .i64 j)::divSlots n m sh
def gSlots (g r:Int) (j:Int) (n m sh:Nat):List (Nat × AV):=(18,.int .u64 g)::(19,.int .u64 r)::jSlots j n m sh
def kys (l:List (Nat × AV)):List Nat:=List.map (·.1) l
def vls (l:List (Nat × AV)):List (Option AV):=List.map (fun p=>some p.2) l
def rws (l:List Blk):List (Option Blk):=List.map some l
def T111:Nat:=Tryz.f152.ntmps
def HeadJ (j:Int) (n m sh:Nat) (xs ys os:List Nat):Prop:=∀ I:IK,Eng.exec Tryz.prog X0 [] 300 T111 (lhs bodyL) (mkFr (jSlots j n m sh)) (mkMem (divRows xs ys os)) (fun o fr' M'=>I o (lv (kys (jSlots j n m sh)) fr') (mv [0,1,2] M'))=I .normal (vls (jSlots j n m sh)) (rws (divRows xs ys os))
def InitG (j:Int) (n m sh:Nat) (xs ys os:List Nat) (u0 u1 v:Nat):Prop:=∀ I:IK,Eng.execN Tryz.prog X0 [] 300 T111 2 bodyJ (mkFr (jSlots j n m sh)) (mkMem (divRows xs ys os)) (fun o fr' M'=>I o (lv (kys (gSlots 0 0 j n m sh)) fr') (mv [0,1,2] M')) =
 gNs 2 (ieq (IntKind.u64.wrap (.ofNat v)) 0) (I .normal (vls (gSlots (IntKind.u64.wrap (Int.tdiv (hiF (IntKind.u64.wrap (.ofNat u0)) (.ofNat u1)) (IntKind.u64.wrap (.ofNat v)))) (Int.tmod (hiF (IntKind.u64.wrap (.ofNat u0)) (.ofNat u1)) (IntKind.u64.wrap (.ofNat v))) j n m sh)) (rws (divRows xs ys os)))
def gtF (g r y2 u2:Nat):Bool:=ilt (hiF (.ofNat r) (.ofNat u2)) (IntKind.u64.wrap (Int.mul (.ofNat g) (IntKind.u64.wrap (.ofNat y2))))
def tSlots (b:Bool) (g r:Nat) (j:Int) (n m sh:Nat):List (Nat × AV):=(154,.bool b)::gSlots (.ofNat g) (.ofNat r) j n m sh
def TestG (j:Int) (n m sh:Nat) (xs ys os:List Nat) (y2 u2:Nat):Prop:=∀ (g r:Nat) (I:IK),Eng.exec Tryz.prog X0 [] 300 T111 (lhs (lhs bodyG)) (mkFr (gSlots (.ofNat g) (.ofNat r) j n m sh)) (mkMem (divRows xs ys os)) (fun o fr' M'=>I o (lv (kys (tSlots true g r j n m sh)) fr') (mv [0,1,2] M')) =
 gIf (Bool.not (ilt (.ofNat g) 4294967296)) (I .normal (vls (tSlots true g r j n m sh)) (rws (divRows xs ys os))) (I .normal (vls (tSlots (gtF g r y2 u2) g r j n m sh)) (rws (divRows xs ys os)))
def rvF (r v:Nat):Int:=IntKind.u64.wrap (Int.add (.ofNat r) (IntKind.u64.wrap (.ofNat v)))
def StepG (j:Int) (n m sh:Nat) (xs ys os:List Nat) (v:Nat):Prop:=∀ (g r:Nat) (I:IK),Eng.exec Tryz.prog X0 [] 300 T111 (bodyOf (rhs bodyG)) (mkFr (gSlots (.ofNat g) (.ofNat r) j n m sh)) (mkMem (divRows xs ys os)) (fun o fr' M'=>I o (lv (kys (gSlots 0 0 j n m sh)) fr') (mv [0,1,2] M')) =
 gIf (Bool.not (ilt (rvF r v) 4294967296)) (I (.exit 2) (vls (gSlots (IntKind.u64.wrap (Int.sub (.ofNat g) 1)) (rvF r v) j n m sh)) (rws (divRows xs ys os))) (I .normal (vls (gSlots (IntKind.u64.wrap (Int.sub (.ofNat g) 1)) (rvF r v) j n m sh)) (rws (divRows xs ys os)))
def c1F (g:Int) (y:Nat) (c:Int):Int:=IntKind.u64.wrap (Int.add c (IntKind.u64.wrap (Int.mul g (IntKind.u64.wrap (.ofNat y)))))
def dF (x:Nat) (b t:Int):Int:=Int.sub (Int.sub (.ofNat x) b) t
def upF (c:Int):Int:=fdivP c (Nat.pow 2 (shAmt .u64 32))
def msT (g:Int) (K:List Int→Int→Int→Bool):List (Nat × Nat)→Int→Int→List Int→Bool
 | [],b,c,acc=>K acc b c
 | p::l,b,c,acc =>
  gB (inI64 (.ofNat p.1)) (gB (inI64 (Int.sub (.ofNat p.1) b)) (gB (inI64 (IntKind.u32.wrap (c1F g p.2 c))) (gB (inI64 (dF p.1 b (IntKind.u32.wrap (c1F g p.2 c))))
   (gIf (ilt (dF p.1 b (IntKind.u32.wrap (c1F g p.2 c))) 0)
    (gB (inI64 (Int.add (dF p.1 b (IntKind.u32.wrap (c1F g p.2 c))) 4294967296)) (msT g K l 1 (upF (c1F g p.2 c)) (acc++[IntKind.u32.wrap (Int.add (dF p.1 b (IntKind.u32.wrap (c1F g p.2 c))) 4294967296)])))
    (msT g K l 0 (upF (c1F g p.2 c)) (acc++[IntKind.u32.wrap (dF p.1 b (IntKind.u32.wrap (c1F g p.2 c)))]))))))
def s1F (s x:Int) (y:Nat):Int:=IntKind.u64.wrap (Int.add s (IntKind.u64.wrap (Int.add (IntKind.u64.wrap x) (IntKind.u64.wrap (.ofNat y)))))
def adF:List Int→List Nat→Int→List Int × Int
 | x::xs,y::ys,s=>(IntKind.u32.wrap (s1F s x y)::(adF xs ys (upF (s1F s x y))).1,(adF xs ys (upF (s1F s x y))).2)
 | _,_,s=>([],s)
def setI (l:List Int) (i:Nat) (x:Int):List Int:=List.take i l++x::List.drop (i+1) l
def roundRows (lo hi:List Nat) (w:List Int) (t:Int) (ys os:List Nat) (j:Nat) (q:Int):List Blk :=
 [.row (rowI (lo.map Int.ofNat++w++t::hi.map Int.ofNat)) false 1,.row (toAVs (rowD ys)) false 1,.row (rowI (setI (os.map Int.ofNat) j q)) false 1]
def topT (I:IK) (g:Int) (jn n m sh:Nat) (lo hi ys yn os:List Nat) (u0:Nat) (acc:List Int) (b c:Int):Bool :=
 gB (inI64 (.ofNat u0)) (gB (inI64 (Int.sub (.ofNat u0) b)) (gB (inI64 c) (gB (inI64 (dF u0 b c))
  (gIf (ilt (dF u0 b c) 0)
   (I .normal (vls (jSlots (.ofNat jn) n m sh)) (rws (roundRows lo hi (adF acc yn 0).1 (IntKind.u32.wrap (Int.add (IntKind.u32.wrap (dF u0 b c)) (IntKind.u32.wrap (adF acc yn 0).2))) ys os jn (IntKind.u32.wrap (IntKind.u64.wrap (Int.sub g 1))))))
   (I .normal (vls (jSlots (.ofNat jn) n m sh)) (rws (roundRows lo hi acc (IntKind.u32.wrap (dF u0 b c)) ys os jn (IntKind.u32.wrap g))))))))
def RestJ (jn n m sh:Nat) (lo w hi yn ys os:List Nat) (u0:Nat):Prop:=∀ (g:Nat) (I:IK),Eng.exec Tryz.prog X0 [] 300 T111 (post 3 bodyJ) (mkFr ((18,.int .u64 (.ofNat g))::jSlots (.ofNat jn) n m sh)) (mkMem (divRows (lo++w++u0::hi) ys os)) (fun o fr' M'=>I o (lv (kys (jSlots 0 n m sh)) fr') (mv [0,1,2] M')) =
 msT (.ofNat g) (fun acc b c=>topT I (.ofNat g) jn n m sh lo hi ys yn os u0 acc b c) (w.zip yn) 0 0 []
def NextJ (j:Int) (n m sh:Nat) (xs ys os:List Nat):Prop:=∀ I:IK,Eng.exec Tryz.prog X0 [] 300 T111 (rhs (rhs bodyL)) (mkFr (jSlots j n m sh)) (mkMem (divRows xs ys os)) (fun o fr' M'=>I o (lv (kys (jSlots 0 n m sh)) fr') (mv [0,1,2] M'))=I .normal (vls (jSlots (Int.sub j 1) n m sh)) (rws (divRows xs ys os))
def ExitJ (n m sh:Nat) (xs ys os:List Nat):Prop:=∀ I:IK,Eng.exec Tryz.prog X0 [] 300 T111 (lhs bodyL) (mkFr (jSlots (-1) n m sh)) (mkMem (divRows xs ys os)) (fun o fr' M'=>I o (lv (kys (divSlots n m sh)) fr') (mv [0,1,2] M'))=I (.exit 0) (vls (divSlots n m sh)) (rws (divRows xs ys os))
structure Round (j n m sh:Nat) (lo w3 hi yl os:List Nat) (u0 u1 u2 y2 v yt:Nat):Prop where
 head:HeadJ (.ofNat j) n m sh (lo++(w3++[u2,u1])++u0::hi) (yl++[y2,v]++[yt]) os
 init:InitG (.ofNat j) n m sh (lo++(w3++[u2,u1])++u0::hi) (yl++[y2,v]++[yt]) os u0 u1 v
 test:TestG (.ofNat j) n m sh (lo++(w3++[u2,u1])++u0::hi) (yl++[y2,v]++[yt]) os y2 u2
 step:StepG (.ofNat j) n m sh (lo++(w3++[u2,u1])++u0::hi) (yl++[y2,v]++[yt]) os v
 rest:RestJ j n m sh lo (w3++[u2,u1]) hi (yl++[y2,v]) (yl++[y2,v]++[yt]) os u0
theorem nextJ (j:Int) (n m sh:Nat) (xs ys os:List Nat) (I:IK):Eng.exec Tryz.prog X0 [] 300 T111 (rhs (rhs bodyL)) (mkFr (jSlots j n m sh)) (mkMem (divRows xs ys os)) (fun o fr' M'=>I o (lv (kys (jSlots 0 n m sh)) fr') (mv [0,1,2] M')) =
 gB (inI64 (Int.sub j 1)) (I .normal (vls (jSlots (Int.sub j 1) n m sh)) (rws (divRows xs ys os))):=by kernel_rfl
theorem exitJ (n m sh:Nat) (xs ys os:List Nat):ExitJ n m sh xs ys os:=fun I=>by kernel_rfl
theorem rd241 (l0 o0 o1 sh u0 u1 u2 y2 v yt:Nat):Round 1 2 4 sh [l0] [] [] [] [o0,o1] u0 u1 u2 y2 v yt :=
 ⟨fun I=>by kernel_rfl,fun I=>by kernel_rfl,fun g r I=>by kernel_rfl,fun g r I=>by kernel_rfl,fun g I=>by kernel_rfl⟩
theorem rd240 (h0 o0 o1 sh u0 u1 u2 y2 v yt:Nat):Round 0 2 4 sh [] [] [h0] [] [o0,o1] u0 u1 u2 y2 v yt :=
 ⟨fun I=>by kernel_rfl,fun I=>by kernel_rfl,fun g r I=>by kernel_rfl,fun g r I=>by kernel_rfl,fun g I=>by kernel_rfl⟩
theorem rd252 (l0 l1 o0 o1 o2 sh u0 u1 u2 y2 v yt:Nat):Round 2 2 5 sh [l0,l1] [] [] [] [o0,o1,o2] u0 u1 u2 y2 v yt :=
 ⟨fun I=>by kernel_rfl,fun I=>by kernel_rfl,fun g r I=>by kernel_rfl,fun g r I=>by kernel_rfl,fun g I=>by kernel_rfl⟩
theorem rd251 (l0 h0 o0 o1 o2 sh u0 u1 u2 y2 v yt:Nat):Round 1 2 5 sh [l0] [] [h0] [] [o0,o1,o2] u0 u1 u2 y2 v yt :=
 ⟨fun I=>by kernel_rfl,fun I=>by kernel_rfl,fun g r I=>by kernel_rfl,fun g r I=>by kernel_rfl,fun g I=>by kernel_rfl⟩
theorem rd250 (h0 h1 o0 o1 o2 sh u0 u1 u2 y2 v yt:Nat):Round 0 2 5 sh [] [] [h0,h1] [] [o0,o1,o2] u0 u1 u2 y2 v yt :=
 ⟨fun I=>by kernel_rfl,fun I=>by kernel_rfl,fun g r I=>by kernel_rfl,fun g r I=>by kernel_rfl,fun g I=>by kernel_rfl⟩
theorem rd340 (w0 z0 o0 sh u0 u1 u2 y2 v yt:Nat):Round 0 3 4 sh [] [w0] [] [z0] [o0] u0 u1 u2 y2 v yt :=
 ⟨fun I=>by kernel_rfl,fun I=>by kernel_rfl,fun g r I=>by kernel_rfl,fun g r I=>by kernel_rfl,fun g I=>by kernel_rfl⟩
end
end Go.Proofs.YtodjhpjcgggamaaGreatDoor

namespace Go.Proofs.YtodjhpjcgggamaaGreatDoor
open Go Go.Eng Go.Vi Go.Knuth
local instance : Go.Eng.Mode := Sy
theorem vls_vals (l:List (Nat × AV)) (π:List Nat) (h:∀ p∈l,renT π p.2=some p.2):vals2 π l=vls l:=by
 unfold vals2 vls
 exact List.map_congr_left h
theorem vls_some (l:List (Nat × AV)):∀ x∈vls l,x≠none:=by
 intro x hx e
 subst e
 obtain ⟨p,_,h⟩:=List.mem_map.1 hx
 cases h
theorem divSlots_ren (n m sh:Nat):∀ p∈divSlots n m sh,renT [0,1,2] p.2=some p.2:=by
 intro p hp
 simp only [divSlots,List.mem_cons,List.not_mem_nil,or_false] at hp
 rcases hp with rfl | rfl | rfl | rfl | rfl<;>rfl
theorem jSlots_ren (j:Int) (n m sh:Nat):∀ p∈jSlots j n m sh,renT [0,1,2] p.2=some p.2:=by
 intro p hp
 rcases List.mem_cons.1 hp with rfl | hp
 ·rfl
 ·exact divSlots_ren n m sh p hp
theorem gSlots_ren (g r j:Int) (n m sh:Nat):∀ p∈gSlots g r j n m sh,renT [0,1,2] p.2=some p.2:=by
 intro p hp
 rcases List.mem_cons.1 hp with rfl | hp
 ·rfl
 rcases List.mem_cons.1 hp with rfl | hp
 ·rfl
 ·exact jSlots_ren j n m sh p hp
theorem W.from {c:Code} {Q:AE→Fr→Mem→Prop} {fr:Fr} {M:Mem} (slots:List (Nat × AV)) (hs:∀ p∈slots,renT [0,1,2] p.2=some p.2) (xs ys os:List Nat) (hv:lv (kys slots) fr=vls slots) (hm':mv [0,1,2] M=rws (divRows xs ys os))
  (h:W Tryz.prog T111 0 c (mkFr slots) (mkMem (divRows xs ys os)) Q):W Tryz.prog T111 0 c fr M Q :=
 W.next (π:=[0,1,2]) hv hm' slots (divRows xs ys os) rfl (vls_vals slots _ hs) (divRows_ren ..) (by rfl) (vls_some slots) (by simp [rws]) h
theorem Blkd_ne {id j:Nat} {Q:AE→Fr→Mem→Prop} {fr:Fr} {M:Mem} (h:j≠id) (hq:Q (.exit j) fr M):Blkd id Q (.exit j) fr M:=by
 show if j=id then Q .normal fr M else Q (.exit j) fr M
 rw [if_neg h];exact hq
theorem bodyG_cond:rhs (lhs bodyG)=.cond (.tmp 154) .skip (.exit 2):=by kernel_rfl
theorem bodyG_blk:rhs bodyG=.block 3 (bodyOf (rhs bodyG)):=by kernel_rfl
theorem W.skip {nt k:Nat} {fr:Fr} {M:Mem} {Q:AE→Fr→Mem→Prop} (h:Q .normal fr M):W Tryz.prog nt k .skip fr M Q :=
 (W.exec hm hX0 (S:=[]) (fun _ h=>by cases h) (k:=k) (n:=1) (c:=.skip) (K:=fun o fr' M'=>pdec (Q o fr' M')) (show pdec (Q .normal fr M)=true from pdec_iff.2 h)).mono fun _ _ _ hK=>pdec_iff.1 hK
theorem W.exit {nt k id:Nat} {fr:Fr} {M:Mem} {Q:AE→Fr→Mem→Prop} (h:Q (.exit id) fr M):W Tryz.prog nt k (.exit id) fr M Q :=
 (W.exec hm hX0 (S:=[]) (fun _ h=>by cases h) (k:=k) (n:=1) (c:=.exit id) (K:=fun o fr' M'=>pdec (Q o fr' M')) (show pdec (Q (.exit id) fr M)=true from pdec_iff.2 h)).mono fun _ _ _ hK=>pdec_iff.1 hK
theorem gtF_eq {g r y2 u2:Nat} (hg:g<4294967296) (hr:r<4294967296) (hy:y2<4294967296) (hu:u2<4294967296):gtF g r y2 u2=decide (r*4294967296+u2<g*y2):=by
 unfold gtF
 have h1:g*y2≤(4294967296-1)*(4294967296-1):=Nat.mul_le_mul (by omega) (by omega)
 have h2:(4294967296-1)*(4294967296-1)=18446744065119617025:=by decide
 have e1:Int.mul (.ofNat g) (.ofNat y2)=.ofNat (g*y2):=rfl
 rw [hiF_eq r u2 hr hu,wrapU64 y2 (by omega),e1,wrapU64 (g*y2) (by omega),natlt]
theorem rvF_eq {r v:Nat} (hr:r<4294967296) (hv:v<4294967296):rvF r v=.ofNat (r+v):=by
 unfold rvF
 have e1:Int.add (.ofNat r) (.ofNat v)=.ofNat (r+v):=rfl
 rw [wrapU64 v (by omega),e1,wrapU64 _ (by omega)]
theorem sub1_eq {g:Nat} (h:0<g) (hg:g<18446744073709551616):IntKind.u64.wrap (Int.sub (.ofNat g) 1)=.ofNat (g-1):=by
 have e1:Int.sub (.ofNat g) 1=.ofNat (g-1):=by
  show (g:Int)-1=((g-1:Nat):Int)
  omega
 rw [e1,wrapU64 _ (by omega)]
theorem tSlots_lv {b:Bool} {g r:Nat} {j:Int} {n m sh:Nat} {fr:Fr} (h:lv (kys (tSlots true g r j n m sh)) fr=vls (tSlots b g r j n m sh)) :
  fr.get 154=some (.bool b)∧lv (kys (gSlots (.ofNat g) (.ofNat r) j n m sh)) fr=vls (gSlots (.ofNat g) (.ofNat r) j n m sh):=by
 have h':fr.get 154::lv (kys (gSlots (.ofNat g) (.ofNat r) j n m sh)) fr=some (.bool b)::vls (gSlots (.ofNat g) (.ofNat r) j n m sh):=h
 exact List.cons.inj h'
theorem guess_loop {j:Int} {n m sh:Nat} {xs ys os:List Nat} {y2 u2 v:Nat} (hT:TestG j n m sh xs ys os y2 u2) (hS:StepG j n m sh xs ys os v) (hv1:v<4294967296) (hy:y2<4294967296) (hu:u2<4294967296) (G:Nat)
  {f g r:Nat} (hf:4294967296≤r+f*v) (hr:r<4294967296) (hg:g<17179869184) (hG:adj 4294967296 v y2 u2 f g r=G) {fr:Fr} {M:Mem} (hl:lv (kys (gSlots (.ofNat g) (.ofNat r) j n m sh)) fr=vls (gSlots (.ofNat g) (.ofNat r) j n m sh)) (hm0:mv [0,1,2] M=rws (divRows xs ys os)) :
  W Tryz.prog T111 0 (.loop bodyG) fr M fun o fr' M'=>o=.exit 2∧(∃ r':Int,lv (kys (gSlots 0 0 j n m sh)) fr'=vls (gSlots (.ofNat G) r' j n m sh))∧mv [0,1,2] M'=rws (divRows xs ys os):=by
 refine W.loop (σ:={ p:Nat × Nat × Nat // 4294967296≤p.2.2+p.1*v∧p.2.2<4294967296∧p.2.1<17179869184∧adj 4294967296 v y2 u2 p.1 p.2.1 p.2.2=G })
  (fun s fr M=>lv (kys (gSlots (.ofNat s.1.2.1) (.ofNat s.1.2.2) j n m sh)) fr=vls (gSlots (.ofNat s.1.2.1) (.ofNat s.1.2.2) j n m sh)∧mv [0,1,2] M=rws (divRows xs ys os)) (fun s=>s.1.1) ?_ ⟨(f,g,r),hf,hr,hg,hG⟩ ⟨hl,hm0⟩
 rintro ⟨⟨f,g,r⟩,hf,hr,hg,hG⟩ fr M ⟨hl,hm0⟩
 simp only at hf hr hg hG hl
 refine W.from (gSlots (.ofNat g) (.ofNat r) j n m sh) (gSlots_ren _ _ _ _ _ _) xs ys os hl hm0 ?_
 refine W.parts (by kernel_rfl) (W.parts (by kernel_rfl) ?_)
 refine W.run hm hX0 (S:=[]) (fun _ h=>by cases h) 300 _ [0,1,2] _ (hT g r) ?_
 obtain ⟨f,rfl⟩:∃ k,f=k+1:=⟨f-1,by
  have:f≠0:=by rintro rfl;simp at hf;omega
  omega⟩
 have less:∀ fr1 M1,0<g→(4294967296≤g∨r*4294967296+u2<g*y2)→lv (kys (gSlots (.ofNat g) (.ofNat r) j n m sh)) fr1=vls (gSlots (.ofNat g) (.ofNat r) j n m sh)→mv [0,1,2] M1=rws (divRows xs ys os) →
   W Tryz.prog T111 0 (rhs bodyG) fr1 M1 fun o fr' M'=>(o=.normal∧∃ s':{ p:Nat × Nat × Nat // 4294967296≤p.2.2+p.1*v∧p.2.2<4294967296∧p.2.1<17179869184∧adj 4294967296 v y2 u2 p.1 p.2.1 p.2.2=G },s'.1.1<f+1∧lv (kys (gSlots (.ofNat s'.1.2.1) (.ofNat s'.1.2.2) j n m sh)) fr'=vls (gSlots (.ofNat s'.1.2.1) (.ofNat s'.1.2.2) j n m sh)∧mv [0,1,2] M'=rws (divRows xs ys os)) ∨
    (o≠.normal∧o=.exit 2∧(∃ r':Int,lv (kys (gSlots 0 0 j n m sh)) fr'=vls (gSlots (.ofNat G) r' j n m sh))∧mv [0,1,2] M'=rws (divRows xs ys os)):=by
  intro fr1 M1 hg0 hc hl1 hm1
  refine W.from (gSlots (.ofNat g) (.ofNat r) j n m sh) (gSlots_ren _ _ _ _ _ _) xs ys os hl1 hm1 ?_
  rw [bodyG_blk]
  refine W.block (W.run hm hX0 (S:=[]) (fun _ h=>by cases h) 300 _ [0,1,2] _ (hS g r) ?_)
  rw [sub1_eq hg0 (by omega),rvF_eq hr hv1]
  have ha:adj 4294967296 v y2 u2 (f+1) g r=if 4294967296≤r+v then g-1 else adj 4294967296 v y2 u2 f (g-1) (r+v):=by
   rw [adj,if_pos hc]
  rw [ha] at hG
  refine gIf_of (fun h1=>pdec_iff.2 fun fr2 M2 hl2 hm2=>?_) (fun h1=>pdec_iff.2 fun fr2 M2 hl2 hm2=>?_)
  ·have h1:4294967296≤r+v:=nilt.1 h1
   rw [if_pos h1] at hG
   subst hG
   exact Blkd_ne (by decide) (.inr ⟨by simp,rfl,⟨_,hl2⟩,hm2⟩)
  ·have h1:r+v<4294967296:=nilt.2 h1
   rw [if_neg (by omega)] at hG
   refine .inl ⟨rfl,⟨(f,g-1,r+v),?_,h1,show g-1<17179869184 by omega,hG⟩,Nat.lt_succ_self f,hl2,hm2⟩
   rw [Nat.add_mul,Nat.one_mul] at hf
   simp only
   omega
 refine gIf_of (fun h1=>pdec_iff.2 fun fr1 M1 hl1 hm1=>?_) (fun h1=>pdec_iff.2 fun fr1 M1 hl1 hm1=>?_)
 ·obtain ⟨h154,hl1⟩:=tSlots_lv hl1
  have h1:4294967296≤g:=nilt.1 h1
  show W Tryz.prog T111 0 (rhs (lhs bodyG)) fr1 M1 _
  rw [bodyG_cond]
  exact W.cond true h154 (fun _=>W.skip (less fr1 M1 (by omega) (.inl h1) hl1 hm1)) (fun h=>by cases h)
 ·obtain ⟨h154,hl1⟩:=tSlots_lv hl1
  have h1:g<4294967296:=nilt.2 h1
  show W Tryz.prog T111 0 (rhs (lhs bodyG)) fr1 M1 _
  rw [bodyG_cond]
  rw [gtF_eq h1 hr hy hu] at h154
  by_cases hc:r*4294967296+u2<g*y2
  ·rw [decide_eq_true hc] at h154
   refine W.cond true h154 (fun _=>W.skip (less fr1 M1 ?_ (.inr hc) hl1 hm1)) (fun h=>by cases h)
   apply Nat.pos_of_ne_zero
   rintro rfl
   omega
  ·rw [decide_eq_false hc] at h154
   refine W.cond false h154 (fun h=>by cases h) (fun _=>W.exit ?_)
   rw [adj,if_neg (by omega)] at hG
   subst hG
   exact .inr ⟨by simp,rfl,⟨_,hl1⟩,hm1⟩
end Go.Proofs.YtodjhpjcgggamaaGreatDoor

namespace Go.Proofs.YtodjhpjcgggamaaGreatDoor
open Go Go.Eng Go.Vi Go.Knuth
local instance : Go.Eng.Mode := Sy
theorem i64ok {x:Int} (h1:-9223372036854775808≤x) (h2:x<9223372036854775808):inI64 x=true:=(inI64_iff _).2 ⟨h1,h2⟩
theorem upF_eq (n:Nat):upF (.ofNat n)=.ofNat (n / 4294967296):=by
 unfold upF
 rw [shAmt64 32 (by decide)]
 rfl
theorem gy_lt {c g y:Nat} (hg:g<4294967296) (hy:y<4294967296) (hc:c<4294967296):c+g*y<18446744073709551616∧(c+g*y) / 4294967296<4294967296:=by
 have h1:g*y≤4294967295*4294967295:=Nat.mul_le_mul (by omega) (by omega)
 constructor
 ·omega
 ·omega
theorem c1F_eq {c g y:Nat} (hg:g<4294967296) (hy:y<4294967296) (hc:c<4294967296):c1F (.ofNat g) y (.ofNat c)=.ofNat (c+g*y):=by
 obtain ⟨h1,_⟩:=gy_lt hg hy hc
 unfold c1F
 have e1:Int.mul (.ofNat g) (.ofNat y)=.ofNat (g*y):=rfl
 have e2:Int.add (.ofNat c) (.ofNat (g*y))=.ofNat (c+g*y):=rfl
 rw [wrapU64 y (by omega),e1,wrapU64 (g*y) (by omega),e2,wrapU64 _ h1]
theorem dF_eq (x b t:Nat):dF x (.ofNat b) (.ofNat t)=(x:Int)-b-t:=rfl
theorem wrapU32i {z:Int} {n:Nat} (h:z=.ofNat n) (hn:n<4294967296):IntKind.u32.wrap z=.ofNat n:=by rw [h,wrapU32 n hn]
theorem msT_of {g:Nat} (hg:g<4294967296) {K:List Int→Int→Int→Bool}:∀ (xs ys:List Nat) (b c:Nat) (acc:List Int),xs.length=ys.length→(∀ x∈xs,x<4294967296)→(∀ y∈ys,y<4294967296)→b≤1→c<4294967296 →
  K (acc++(mulsub 4294967296 g xs ys b c).1.map Int.ofNat) (.ofNat (mulsub 4294967296 g xs ys b c).2.1) (.ofNat (mulsub 4294967296 g xs ys b c).2.2)=true→msT (.ofNat g) K (xs.zip ys) (.ofNat b) (.ofNat c) acc=true
 | [],[],b,c,acc,_,_,_,_,_,h=>by simpa [mulsub,msT] using h
 | x::xs,y::ys,b,c,acc,hl,hx,hy,hb,hc,h=>by
  have hx0:=hx x (List.mem_cons_self ..)
  have hy0:=hy y (List.mem_cons_self ..)
  obtain ⟨h1,h2⟩:=gy_lt hg hy0 hc
  have hm':=Nat.mod_lt (c+g*y) (show 0<4294967296 by decide)
  have ih:=msT_of hg (K:=K) xs ys
  rw [List.zip_cons_cons,msT]
  simp only []
  rw [c1F_eq hg hy0 hc,wrapU32m,upF_eq,dF_eq]
  simp only [gB_iff]
  refine ⟨i64ok (by simp only [Int.ofNat_eq_natCast];omega) (by simp only [Int.ofNat_eq_natCast];omega),i64ok (by show -9223372036854775808≤(x:Int)-(b:Int);omega) (by show (x:Int)-(b:Int)<_;omega),i64ok (by simp only [Int.ofNat_eq_natCast];omega) (by simp only [Int.ofNat_eq_natCast];omega),i64ok (by omega) (by omega),?_⟩
  rw [ilt_iff]
  refine gIf_of (fun hlt=>?_) (fun hlt=>?_)
  ·have hlt:=of_decide_eq_true hlt
   have hlt':x<b+(c+g*y) % 4294967296:=by omega
   have e:Int.add ((x:Int)-b-((c+g*y) % 4294967296:Nat)) 4294967296=.ofNat (x+4294967296-(b+(c+g*y) % 4294967296)):=by
    show (x:Int)-b-((c+g*y) % 4294967296:Nat)+4294967296=((x+4294967296-(b+(c+g*y) % 4294967296):Nat):Int)
    omega
   rw [gB_iff,e,wrapU32 _ (by omega)]
   refine ⟨i64ok (by simp only [Int.ofNat_eq_natCast];omega) (by simp only [Int.ofNat_eq_natCast];omega),?_⟩
   refine ih 1 _ _ (by simpa using hl) (fun z hz=>hx z (List.mem_cons_of_mem _ hz)) (fun z hz=>hy z (List.mem_cons_of_mem _ hz)) (by omega) h2 ?_
   simp only [mulsub,if_pos hlt'] at h
   simpa [List.append_assoc] using h
  ·have hlt:=of_decide_eq_false hlt
   have hlt':¬ x<b+(c+g*y) % 4294967296:=by omega
   have e:(x:Int)-b-((c+g*y) % 4294967296:Nat)=.ofNat (x-(b+(c+g*y) % 4294967296)):=by
    show _=((x-(b+(c+g*y) % 4294967296):Nat):Int)
    omega
   rw [wrapU32i e (by omega)]
   refine ih 0 _ _ (by simpa using hl) (fun z hz=>hx z (List.mem_cons_of_mem _ hz)) (fun z hz=>hy z (List.mem_cons_of_mem _ hz)) (by omega) h2 ?_
   simp only [mulsub,if_neg hlt'] at h
   simpa [List.append_assoc] using h
 | [],_::_,_,_,_,hl,_,_,_,_,_=>by simp at hl
 | _::_,[],_,_,_,hl,_,_,_,_,_=>by simp at hl
theorem mulsub_c {g:Nat} (hg:g<4294967296):∀ (xs ys:List Nat) (b c:Nat),(∀ y∈ys,y<4294967296)→c<4294967296→(mulsub 4294967296 g xs ys b c).2.2<4294967296
 | [],_,b,c,_,hc=>by simpa [mulsub] using hc
 | _::_,[],b,c,_,hc=>by simpa [mulsub] using hc
 | x::xs,y::ys,b,c,hy,hc=>by
  simp only [mulsub]
  exact mulsub_c hg xs ys _ _ (fun z hz=>hy z (List.mem_cons_of_mem _ hz)) (gy_lt hg (hy y (List.mem_cons_self ..)) hc).2
theorem adF_eq:∀ (xs ys:List Nat) (s:Nat),(∀ x∈xs,x<4294967296)→(∀ y∈ys,y<4294967296)→s≤2→adF (xs.map Int.ofNat) ys (.ofNat s)=((addb 4294967296 xs ys s).1.map Int.ofNat,.ofNat (addb 4294967296 xs ys s).2)
 | [],ys,s,_,_,_=>by cases ys<;>simp [adF,addb]
 | _::_,[],s,_,_,_=>by simp [adF,addb]
 | x::xs,y::ys,s,hx,hy,hs=>by
  have hx0:=hx x (List.mem_cons_self ..)
  have hy0:=hy y (List.mem_cons_self ..)
  have e:s1F (.ofNat s) (.ofNat x) y=.ofNat (s+(x+y)):=by
   unfold s1F
   have e1:Int.add (.ofNat x) (.ofNat y)=.ofNat (x+y):=rfl
   have e2:Int.add (.ofNat s) (.ofNat (x+y))=.ofNat (s+(x+y)):=rfl
   rw [wrapU64 x (by omega),wrapU64 y (by omega),e1,wrapU64 _ (by omega),e2,wrapU64 _ (by omega)]
  rw [List.map_cons,adF,e,upF_eq,wrapU32m,adF_eq xs ys _ (fun z hz=>hx z (List.mem_cons_of_mem _ hz)) (fun z hz=>hy z (List.mem_cons_of_mem _ hz)) (by omega)]
  simp [addb]
theorem u32_any (z:Int):∃ n:Nat,n<4294967296∧IntKind.u32.wrap z=.ofNat n:=by
 have h1:0≤z % 4294967296:=Int.emod_nonneg _ (by decide)
 have h2:z % 4294967296<4294967296:=Int.emod_lt_of_pos _ (by decide)
 refine ⟨(z % 4294967296).toNat,by omega,?_⟩
 have:IntKind.u32.wrap z=z % 4294967296:=by simp [IntKind.wrap,IntKind.bits,IntKind.signed]
 rw [this]
 simp only [Int.ofNat_eq_natCast];omega
def setN (l:List Nat) (i:Nat) (x:Nat):List Nat:=l.take i++x::l.drop (i+1)
theorem setI_eq (l:List Nat) (i x:Nat):setI (l.map Int.ofNat) i (.ofNat x)=(setN l i x).map Int.ofNat:=by
 simp [setI,setN,List.map_take,List.map_drop]
theorem roundRows_eq (lo hi w:List Nat) (ys os:List Nat) (j q:Nat):roundRows lo hi (w.map Int.ofNat) (.ofNat 0) ys os j (.ofNat q)=divRows (lo++w++0::hi) ys (setN os j q):=by
 unfold roundRows divRows
 rw [setI_eq,rowI_eq,← rowI_eq (lo++w++0::hi)]
 simp
theorem topT_of {I:IK} {g jn n m sh u0:Nat} {lo hi ys yn os xs:List Nat} (hg:g<4294967296) (hl:xs.length=yn.length) (hx:∀ x∈xs,x<4294967296) (hy:∀ y∈yn,y<4294967296) (hu:u0<4294967296)
  (h1:¬ u0<(mulsub 4294967296 g xs yn 0 0).2.1+(mulsub 4294967296 g xs yn 0 0).2.2→(mulsub 4294967296 g xs yn 0 0).2.1+(mulsub 4294967296 g xs yn 0 0).2.2=u0)
  (h2:u0<(mulsub 4294967296 g xs yn 0 0).2.1+(mulsub 4294967296 g xs yn 0 0).2.2→(mulsub 4294967296 g xs yn 0 0).2.1+(mulsub 4294967296 g xs yn 0 0).2.2=u0+1∧(addb 4294967296 (mulsub 4294967296 g xs yn 0 0).1 yn 0).2=1)
  (hI:∀ q,q<4294967296→I .normal (vls (jSlots (.ofNat jn) n m sh)) (rws (divRows (lo++stepW 4294967296 g xs yn u0++0::hi) ys (setN os jn q)))=true) :
  msT (.ofNat g) (fun acc b c=>topT I (.ofNat g) jn n m sh lo hi ys yn os u0 acc b c) (xs.zip yn) 0 0 []=true:=by
 refine msT_of hg xs yn 0 0 [] hl hx hy (by omega) (by omega) ?_
 rw [List.nil_append]
 have hmv:=mulsub_val (B:=4294967296) (by decide) g xs yn 0 0 hl hx (by omega)
 have hmc:=mulsub_c hg xs yn 0 0 hy (by omega)
 unfold stepW at hI
 generalize hr:mulsub 4294967296 g xs yn 0 0=r at *
 obtain ⟨ds,b,c⟩:=r
 simp only at *
 obtain ⟨_,hb,hds⟩:=hmv
 unfold topT
 simp only [gB_iff]
 refine ⟨i64ok (by simp only [Int.ofNat_eq_natCast];omega) (by simp only [Int.ofNat_eq_natCast];omega),i64ok (by show -9223372036854775808≤(u0:Int)-(b:Int);omega) (by show (u0:Int)-(b:Int)<_;omega),i64ok (by simp only [Int.ofNat_eq_natCast];omega) (by simp only [Int.ofNat_eq_natCast];omega),i64ok (by rw [dF_eq];omega) (by rw [dF_eq];omega),?_⟩
 rw [ilt_iff]
 refine gIf_of (fun hlt=>?_) (fun hlt=>?_)
 ·have hlt:=of_decide_eq_true hlt
  rw [dF_eq] at hlt
  have hlt':u0<b+c:=by omega
  obtain ⟨h3,h4⟩:=h2 hlt'
  have e:IntKind.u32.wrap (dF u0 (.ofNat b) (.ofNat c))=.ofNat 4294967295:=by
   have:dF u0 (.ofNat b) (.ofNat c)=-1:=by rw [dF_eq];omega
   rw [this];rfl
  obtain ⟨q,hq,eq⟩:=u32_any (IntKind.u64.wrap (Int.sub (.ofNat g) 1))
  have had:adF (ds.map Int.ofNat) yn 0=_:=adF_eq ds yn 0 hds hy (by omega)
  rw [e,had,h4,eq]
  have e2:IntKind.u32.wrap (Int.add (.ofNat 4294967295) (IntKind.u32.wrap (.ofNat 1)))=.ofNat 0:=rfl
  rw [e2,roundRows_eq]
  have:=hI q hq
  rwa [if_pos hlt'] at this
 ·have hlt:=of_decide_eq_false hlt
  rw [dF_eq] at hlt
  have hlt':¬ u0<b+c:=by omega
  have h3:=h1 hlt'
  have e:IntKind.u32.wrap (dF u0 (.ofNat b) (.ofNat c))=.ofNat 0:=by
   have:dF u0 (.ofNat b) (.ofNat c)=0:=by rw [dF_eq];omega
   rw [this];rfl
  obtain ⟨q,hq,eq⟩:=u32_any (.ofNat g)
  rw [e,eq,roundRows_eq]
  have:=hI q hq
  rwa [if_neg hlt'] at this
end Go.Proofs.YtodjhpjcgggamaaGreatDoor

namespace Go.Proofs.YtodjhpjcgggamaaGreatDoor
open Go Go.Eng Go.Vi Go.Knuth
local instance : Go.Eng.Mode := Sy
theorem bodyL_blk:lhs (rhs bodyL)=.block 1 bodyJ:=by kernel_rfl
theorem bodyJ_blk:lhs (post 2 bodyJ)=.block 2 (.loop bodyG):=by kernel_rfl
theorem Blkd_eq {id:Nat} {Q:AE→Fr→Mem→Prop} {fr:Fr} {M:Mem} (hq:Q .normal fr M):Blkd id Q (.exit id) fr M:=by
 show if id=id then Q .normal fr M else Q (.exit id) fr M
 rw [if_pos rfl];exact hq
theorem ieq0 {v:Nat} (hv:v<4294967296) (h0:0<v):ieq (IntKind.u64.wrap (.ofNat v)) 0=false:=by
 rw [wrapU64 v (by omega),ieq_iff]
 simp only [Int.ofNat_eq_natCast,beq_eq_false_iff_ne,ne_eq]
 omega
theorem kys_g (g r j:Int) (n m sh:Nat):kys (gSlots g r j n m sh)=[18,19,16,9,12,13,14,15]:=rfl
theorem kys_j (j:Int) (n m sh:Nat):kys (jSlots j n m sh)=[16,9,12,13,14,15]:=rfl
theorem round_c {j n m sh:Nat} {lo w3 hi yl os:List Nat} {u0 u1 u2 y2 v yt:Nat} (hR:Round j n m sh lo w3 hi yl os u0 u1 u2 y2 v yt) (hl:yl.length=w3.length) (hv:4294967296≤2*v) (hvB:v<4294967296) (hy2:y2<4294967296)
  (hu0:u0<4294967296) (hu1:u1<4294967296) (hu2:u2<4294967296) (hyl:∀ d∈yl,d<4294967296) (hw3:∀ d∈w3,d<4294967296) (hj:j<4294967296)
  (hU:val 4294967296 (w3++[u2,u1])+4294967296 ^ (yl++[y2,v]).length*u0<val 4294967296 (yl++[y2,v])*4294967296) :
  W Tryz.prog T111 0 bodyL (mkFr (jSlots (.ofNat j) n m sh)) (mkMem (divRows (lo++(w3++[u2,u1])++u0::hi) (yl++[y2,v]++[yt]) os)) fun o fr' M' =>
   o=.normal∧∃ (q:Nat) (ws:List Nat),q<4294967296∧val 4294967296 ws<val 4294967296 (yl++[y2,v])∧ws.length=(yl++[y2,v]).length∧(∀ d∈ws,d<4294967296) ∧
    lv (kys (jSlots 0 n m sh)) fr'=vls (jSlots (Int.sub (.ofNat j) 1) n m sh)∧mv [0,1,2] M'=rws (divRows (lo++ws++0::hi) (yl++[y2,v]++[yt]) (setN os j q)):=by
 obtain ⟨k1,k2,k3,k4,k5,k6⟩:=window_full (B:=4294967296) (by decide) rfl hl hv hvB hy2 hu2 hu1 hyl hw3 hU
 have hhigh:u0*4294967296+u1<18446744073709551616:=by omega
 have hv0:0<v:=by omega
 have hq0:(u0*4294967296+u1) / v<17179869184:=by
  rw [Nat.div_lt_iff_lt_mul hv0]
  have:17179869184*2147483648≤17179869184*v:=Nat.mul_le_mul_left _ (by omega)
  omega
 have hr0:=Nat.mod_lt (u0*4294967296+u1) hv0
 have hyn:∀ d∈yl++[y2,v],d<4294967296:=by
  intro d hd
  rcases List.mem_append.1 hd with hd | hd
  ·exact hyl d hd
  ·simp only [List.mem_cons,List.not_mem_nil,or_false] at hd
   rcases hd with rfl | rfl<;>assumption
 have hxs:∀ d∈w3++[u2,u1],d<4294967296:=by
  intro d hd
  rcases List.mem_append.1 hd with hd | hd
  ·exact hw3 d hd
  ·simp only [List.mem_cons,List.not_mem_nil,or_false] at hd
   rcases hd with rfl | rfl<;>assumption
 have hadj:adj 4294967296 v y2 u2 2 ((u0*4294967296+u1) / v) ((u0*4294967296+u1) % v)=_:=rfl
 generalize hG:adj 4294967296 v y2 u2 2 ((u0*4294967296+u1) / v) ((u0*4294967296+u1) % v)=G at k1 k2 k3 k4 k5 k6
 refine W.parts (by kernel_rfl) (W.run hm hX0 (S:=[]) (fun _ h=>by cases h) 300 _ [0,1,2] _ hR.head (pdec_iff.2 fun fr1 M1 hl1 hm1=>?_))
 show W Tryz.prog T111 0 (rhs bodyL) fr1 M1 _
 refine W.from _ (jSlots_ren _ _ _ _) _ _ _ hl1 hm1 ?_
 refine W.parts (by kernel_rfl) ?_
 rw [bodyL_blk]
 refine W.block ?_
 refine W.runN hm hX0 (S:=[]) (fun _ h=>by cases h) 300 2 _ [0,1,2] _ hR.init ?_
 refine gNs_of (ieq0 hvB hv0) ?_
 rw [wrapU64 u0 (by omega),hiF_eq u0 u1 hu0 hu1,wrapU64 v (by omega)]
 have e1:Int.tdiv (.ofNat (u0*4294967296+u1)) (.ofNat v)=.ofNat ((u0*4294967296+u1) / v):=rfl
 have e2:Int.tmod (.ofNat (u0*4294967296+u1)) (.ofNat v)=.ofNat ((u0*4294967296+u1) % v):=rfl
 rw [e1,e2,wrapU64 _ (by omega)]
 clear e1 e2 hadj
 generalize (u0*4294967296+u1) / v=g0 at *
 generalize (u0*4294967296+u1) % v=r0 at *
 refine pdec_iff.2 fun fr2 M2 hl2 hm2=>?_
 rw [kys_g] at hl2
 show W Tryz.prog T111 0 (post 2 bodyJ) fr2 M2 _
 refine W.parts (by kernel_rfl) ?_
 rw [bodyJ_blk]
 refine W.block ((guess_loop hR.test hR.step hvB hy2 hu2 G (f:=2) (by omega) (by omega) hq0 hG (by rw [kys_g];exact hl2) hm2).mono fun o fr3 M3 h=>?_)
 obtain ⟨rfl,⟨r',hl3⟩,hm3⟩:=h
 refine Blkd_eq ?_
 show W Tryz.prog T111 0 (rhs (post 2 bodyJ)) fr3 M3 _
 refine W.from ((18,.int .u64 (.ofNat G))::jSlots (.ofNat j) n m sh) ?_ (lo++(w3++[u2,u1])++u0::hi) (yl++[y2,v]++[yt]) os ?_ hm3 ?_
 ·intro p hp
  rcases List.mem_cons.1 hp with rfl | hp
  ·rfl
  ·exact jSlots_ren _ _ _ _ p hp
 ·have h':fr3.get 18::fr3.get 19::lv (kys (jSlots (.ofNat j) n m sh)) fr3=some (.int .u64 (.ofNat G))::some (.int .u64 r')::vls (jSlots (.ofNat j) n m sh):=hl3
  have h18:=(List.cons.inj h').1
  have h0:=(List.cons.inj (List.cons.inj h').2).2
  show fr3.get 18::lv (kys (jSlots (.ofNat j) n m sh)) fr3=some (.int .u64 (.ofNat G))::vls (jSlots (.ofNat j) n m sh)
  rw [h18,h0]
 refine W.run hm hX0 (S:=[]) (fun _ h=>by cases h) 300 _ [0,1,2] _ (hR.rest G) ?_
 refine topT_of k1 (by simp [hl]) hxs hyn hu0 k5 k6 fun q hq=>pdec_iff.2 fun fr4 M4 hl4 hm4=>?_
 show W Tryz.prog T111 0 (rhs (rhs bodyL)) fr4 M4 _
 refine W.from (jSlots (.ofNat j) n m sh) (jSlots_ren _ _ _ _) _ _ _ hl4 hm4 ?_
 refine W.run hm hX0 (S:=[]) (fun _ h=>by cases h) 300 _ [0,1,2] _ (nextJ (.ofNat j) n m sh _ _ _) ?_
 rw [gB_iff]
 refine ⟨i64ok (by show -9223372036854775808≤(j:Int)-1;omega) (by show (j:Int)-1<_;omega),pdec_iff.2 fun fr5 M5 hl5 hm5=>?_⟩
 exact ⟨rfl,q,_,hq,k2,k3,k4,hl5,hm5⟩
end Go.Proofs.YtodjhpjcgggamaaGreatDoor

namespace Go.Proofs.YtodjhpjcgggamaaGreatDoor
open Go Go.Eng Go.Vi Go.Knuth
local instance : Go.Eng.Mode := Sy
def jv (c:Nat):Int:=match c with | 0=>-1 | j+1=>.ofNat j
theorem jv_pred (j:Nat):Int.sub (.ofNat j) 1=jv j:=by
 cases j with
 | zero=>rfl
 | succ j=>show ((j+1:Nat):Int)-1=(j:Int);omega
structure Inv (n m:Nat) (ysn:List Nat) (c:Nat) (xs os:List Nat):Prop where
 len:xs.length=m
 olen:os.length=m-n
 hc:c≤m-n
 dig:∀ d∈xs,d<4294967296
 odig:∀ d∈os,d<4294967296
 win:(c=0→∃ ws hi,xs=ws++0::hi∧ws.length=n∧val 4294967296 ws<val 4294967296 ysn) ∧
  ∀ j,c=j+1→∃ lo w u0 hi,xs=lo++w++u0::hi∧lo.length=j∧w.length=n∧val 4294967296 w+4294967296 ^ n*u0<val 4294967296 ysn*4294967296
def Rounds (n m:Nat):Prop:=∀ (j:Nat) (lo w3 hi yl os:List Nat) (sh u0 u1 u2 y2 v yt:Nat),lo.length=j→w3.length=n-2→yl.length=n-2→hi.length=m-1-n-j→os.length=m-n→j<m-n→Round j n m sh lo w3 hi yl os u0 u1 u2 y2 v yt
theorem last2:∀ (l:List Nat),2≤l.length→∃ l' a b,l=l'++[a,b]
 | [],h=>by simp at h
 | [_],h=>by simp at h
 | [a,b],_=>⟨[],a,b,rfl⟩
 | a::b::c::l,_=>by
  obtain ⟨l',x,y,h⟩:=last2 (b::c::l) (by simp)
  exact ⟨a::l',x,y,by rw [h];rfl⟩
theorem last1:∀ (l:List Nat),1≤l.length→∃ l' a,l=l'++[a]
 | [],h=>by simp at h
 | [a],_=>⟨[],a,rfl⟩
 | a::b::l,_=>by
  obtain ⟨l',x,h⟩:=last1 (b::l) (by simp)
  exact ⟨a::l',x,by rw [h];rfl⟩
theorem setN_len (l:List Nat) (i x:Nat) (h:i<l.length):(setN l i x).length=l.length:=by
 simp [setN];omega
theorem setN_mem {l:List Nat} {i x d:Nat} (h:d∈setN l i x):d=x∨d∈l:=by
 unfold setN at h
 rcases List.mem_append.1 h with h | h
 ·exact .inr (List.mem_of_mem_take h)
 ·rcases List.mem_cons.1 h with h | h
  ·exact .inl h
  ·exact .inr (List.mem_of_mem_drop h)
theorem rounds_loop {n m sh:Nat} (hn:2≤n) (hm4:m<4294967296) (hR:Rounds n m) {yl:List Nat} {y2 v yt:Nat} (hyl:yl.length=n-2) (hv:4294967296≤2*v) (hvB:v<4294967296) (hy2:y2<4294967296) (hylB:∀ d∈yl,d<4294967296)
  {c:Nat} {xs os:List Nat} (hI:Inv n m (yl++[y2,v]) c xs os) {fr:Fr} {M:Mem} (hl:lv [16,9,12,13,14,15] fr=vls (jSlots (jv c) n m sh)) (hm0:mv [0,1,2] M=rws (divRows xs (yl++[y2,v]++[yt]) os)) :
  W Tryz.prog T111 0 (.loop bodyL) fr M fun o fr' M'=>o=.exit 0∧∃ ws hi os',ws.length=n∧val 4294967296 ws<val 4294967296 (yl++[y2,v])∧(ws++0::hi).length=m∧os'.length=m-n∧(∀ d∈ws++0::hi,d<4294967296)∧(∀ d∈os',d<4294967296) ∧
   lv [9,12,13,14,15] fr'=vls (divSlots n m sh)∧mv [0,1,2] M'=rws (divRows (ws++0::hi) (yl++[y2,v]++[yt]) os'):=by
 refine W.loop (σ:={ p:Nat × List Nat × List Nat // Inv n m (yl++[y2,v]) p.1 p.2.1 p.2.2 })
  (fun s fr M=>lv [16,9,12,13,14,15] fr=vls (jSlots (jv s.1.1) n m sh)∧mv [0,1,2] M=rws (divRows s.1.2.1 (yl++[y2,v]++[yt]) s.1.2.2)) (fun s=>s.1.1) ?_ ⟨(c,xs,os),hI⟩ ⟨hl,hm0⟩
 rintro ⟨⟨c,xs,os⟩,hI⟩ fr M ⟨hl,hm0⟩
 simp only at hI hl hm0
 refine W.from (jSlots (jv c) n m sh) (jSlots_ren _ _ _ _) xs _ os (by rw [kys_j];exact hl) hm0 ?_
 cases c with
 | zero =>
  obtain ⟨ws,hi,rfl,h1,h2⟩:=hI.win.1 rfl
  refine W.parts (by kernel_rfl) (W.run hm hX0 (S:=[]) (fun _ h=>by cases h) 300 _ [0,1,2] _ (exitJ n m sh _ _ _) (pdec_iff.2 fun fr1 M1 hl1 hm1=>?_))
  exact .inr ⟨by simp,rfl,ws,hi,os,h1,h2,hI.len,hI.olen,hI.dig,hI.odig,hl1,hm1⟩
 | succ j =>
  obtain ⟨lo,w,u0,hi,rfl,h1,h2,h3⟩:=hI.win.2 j rfl
  obtain ⟨w3,u2,u1,rfl⟩:=last2 w (by omega)
  have hjn:j<m-n:=hI.hc
  have hlen:=hI.len
  simp only [List.length_append,List.length_cons,List.length_nil] at hlen h2
  have hnl:(yl++[y2,v]).length=n:=by simp [hyl];omega
  have hdig:=hI.dig
  have d1:∀ d∈w3++[u2,u1],d<4294967296:=fun d hd=>hdig d (by simp only [List.mem_append] at hd ⊢;exact .inl (.inr hd))
  refine (round_c (hR j lo w3 hi yl os sh u0 u1 u2 y2 v yt h1 (by omega) hyl (by omega) hI.olen hjn) (by omega) hv hvB hy2 (hdig u0 (by simp)) (d1 u1 (by simp)) (d1 u2 (by simp)) hylB (fun d hd=>d1 d (by simp [hd])) (by omega) (by rw [hnl];exact h3)).mono fun o fr' M' h=>?_
  obtain ⟨rfl,q,ws,k1,k2,k3,k4,k5,k6⟩:=h
  rw [kys_j,jv_pred] at k5
  refine .inl ⟨rfl,⟨(j,lo++ws++0::hi,setN os j q),?_⟩,Nat.lt_succ_self j,k5,k6⟩
  have hdig':∀ d∈lo++ws++0::hi,d<4294967296:=by
   intro d hd
   simp only [List.mem_append,List.mem_cons] at hd
   rcases hd with (hd | hd) | rfl | hd
   ·exact hdig d (by simp [hd])
   ·exact k4 d hd
   ·decide
   ·exact hdig d (by simp [hd])
  refine ⟨?_,by rw [setN_len _ _ _ (by rw [hI.olen];exact hjn)];exact hI.olen,by simp only;omega,hdig',fun d hd=>?_,fun hj=>?_,fun i hi'=>?_⟩
  ·show (lo++ws++0::hi).length=m
   rw [List.length_append,List.length_append,k3,hnl,List.length_cons];omega
  ·rcases setN_mem hd with rfl | hd
   ·exact k1
   ·exact hI.odig d hd
  ·have hj:j=0:=hj
   have:lo=[]:=List.eq_nil_of_length_eq_zero (by omega)
   subst this
   exact ⟨ws,hi,by simp,by rw [k3,hnl],k2⟩
  ·have hji:j=i+1:=hi'
   obtain ⟨lo',a,rfl⟩:=last1 lo (by omega)
   obtain ⟨ws',b,rfl⟩:=last1 ws (by rw [k3,hnl];omega)
   simp only [List.length_append,List.length_cons,List.length_nil] at h1 k3
   refine ⟨lo',a::ws',b,0::hi,by simp,by omega,by simp only [List.length_cons];simp only [List.length_append,List.length_cons,List.length_nil] at hnl;omega,?_⟩
   have ha:a<4294967296:=hdig a (by simp)
   have hws:ws'.length=n-1:=by simp only [List.length_append,List.length_cons,List.length_nil] at hnl;omega
   rw [val_append] at k2
   simp only [val,Nat.mul_zero,Nat.add_zero] at k2 ⊢
   obtain ⟨n',rfl⟩:∃ n',n=n'+1:=⟨n-1,by omega⟩
   rw [hws,Nat.add_sub_cancel] at k2
   rw [Nat.pow_succ,Nat.mul_comm (4294967296 ^ n') 4294967296,Nat.mul_assoc]
   have:=Nat.mul_le_mul_left 4294967296 (Nat.succ_le_of_lt k2)
   rw [Nat.mul_succ,Nat.mul_add] at this
   rw [Nat.mul_comm (val _ _) 4294967296]
   omega
end Go.Proofs.YtodjhpjcgggamaaGreatDoor

namespace Go.Proofs.YtodjhpjcgggamaaGreatDoor
open Go Go.Eng Go.Vi Go.Knuth
noncomputable section
local instance : Go.Eng.Mode := Sy
def endL:Code:=rhs (post 10 c111)
theorem r16_run (n m sh:Nat) (xs ys os:List Nat) (I:IK):Eng.exec Tryz.prog X0 [] 300 T111 (lhs (lhs (post 10 c111))) (mkFr (divSlots n m sh)) (mkMem (divRows xs ys os)) (fun o fr' M'=>I o (lv [16,9,12,13,14,15] fr') (mv [0,1,2] M')) =
 gB (inI64 (Int.sub (.ofNat (m-n)) 1)) (I .normal (vls (jSlots (Int.sub (.ofNat (m-n)) 1) n m sh)) (rws (divRows xs ys os))):=by kernel_rfl
theorem b0_blk:rhs (lhs (post 10 c111))=.block 0 (.loop bodyL):=by kernel_rfl
def rsF (sh:Nat):List Nat→List Int
 | a::b::l=>IntKind.u32.wrap (fdivP (hiF (IntKind.u64.wrap (.ofNat b)) (.ofNat a)) (Nat.pow 2 (shAmt .u64 sh)))::rsF sh (b::l)
 | _=>[]
def rsN (sh:Nat):List Nat→List Nat
 | a::b::l=>((b*4294967296+a) / 2 ^ sh % 4294967296)::rsN sh (b::l)
 | _=>[]
theorem rsF_eq {sh:Nat} (hs:sh≤31):∀ l:List Nat,(∀ d∈l,d<4294967296)→rsF sh l=(rsN sh l).map Int.ofNat
 | [],_=>rfl
 | [_],_=>rfl
 | a::b::l,h=>by
  have ha:=h a (by simp)
  have hb:=h b (by simp)
  rw [rsF,rsN,wrapU64 b (by omega),hiF_eq b a hb ha,shAmt64 sh (by omega)]
  have e:fdivP (.ofNat (b*4294967296+a)) (Nat.pow 2 sh)=.ofNat ((b*4294967296+a) / 2 ^ sh):=rfl
  rw [e,wrapU32m,rsF_eq hs (b::l) fun d hd=>h d (List.mem_cons_of_mem _ hd)]
  rfl
theorem rsN_len (sh:Nat):∀ (l:List Nat) (x:Nat),(rsN sh (x::l)).length=l.length
 | [],_=>rfl
 | b::l,_=>by rw [rsN,List.length_cons,rsN_len sh l b];rfl
theorem rsN_lt (sh:Nat):∀ (l:List Nat),∀ d∈rsN sh l,d<4294967296
 | [],d,h=>by cases h
 | [_],d,h=>by cases h
 | a::b::l,d,h=>by
  rw [rsN] at h
  rcases List.mem_cons.1 h with rfl | h
  ·exact Nat.mod_lt _ (by decide)
  ·exact rsN_lt sh (b::l) d h
theorem rs_digit {sh a b:Nat} (hs:sh≤31) (ha:a<4294967296) (_hb:b<4294967296):(b*4294967296+a) / 2 ^ sh % 4294967296*2 ^ sh+a % 2 ^ sh=a+4294967296*(b % 2 ^ sh):=by
 have e:2 ^ sh*2 ^ (32-sh)=4294967296:=by rw [← Nat.pow_add,Nat.add_sub_cancel' (by omega)]
 have hp:0<2 ^ sh:=Nat.pow_pos (by decide)
 have hq:0<2 ^ (32-sh):=Nat.pow_pos (by decide)
 generalize 2 ^ sh=s at *
 generalize 2 ^ (32-sh)=t at *
 have h1:(b*4294967296+a) / s=b*t+a / s:=by
  rw [← e,Nat.mul_comm s t,← Nat.mul_assoc,Nat.add_comm,Nat.add_mul_div_right _ _ hp,Nat.add_comm]
 have hd1:=Nat.div_add_mod a s
 have hd2:=Nat.div_add_mod b s
 have hm1:=Nat.mod_lt a hp
 have hm2:=Nat.mod_lt b hp
 have hat:a / s<t:=by rw [Nat.div_lt_iff_lt_mul hp,Nat.mul_comm,e];exact ha
 have h2:(b*t+a / s) % 4294967296=(b % s)*t+a / s:=by
  have e1:b*t+a / s=(b % s)*t+a / s+4294967296*(b / s):=by
   have:b*t=(s*(b / s)+b % s)*t:=by rw [hd2]
   rw [this,Nat.add_mul,← e]
   have:s*(b / s)*t=s*t*(b / s):=by rw [Nat.mul_assoc,Nat.mul_comm (b / s) t,← Nat.mul_assoc]
   omega
  rw [e1,Nat.add_mul_mod_self_left,Nat.mod_eq_of_lt]
  have:(b % s+1)*t≤s*t:=Nat.mul_le_mul_right _ hm2
  rw [Nat.add_mul,Nat.one_mul,e] at this
  omega
 rw [h1,h2,Nat.add_mul,Nat.mul_assoc,Nat.mul_comm t s,e,Nat.mul_comm (a / s) s,Nat.mul_comm (b % s)]
 omega
theorem rsN_val {sh:Nat} (hs:sh≤31):∀ (l:List Nat) (x:Nat),(∀ d∈x::l,d<4294967296)→∀ (ws:List Nat) (t:Nat),x::l=ws++[t]→val 4294967296 (rsN sh (x::l))*2 ^ sh+x % 2 ^ sh=val 4294967296 ws+4294967296 ^ ws.length*(t % 2 ^ sh)
 | [],x,_,ws,t,h=>by
  cases ws with
  | nil=>simp only [List.nil_append,List.cons.injEq] at h;simp [rsN,val,h.1]
  | cons w ws=>simp at h
 | y::l,x,hB,ws,t,h=>by
  cases ws with
  | nil=>simp at h
  | cons w ws =>
   rw [List.cons_append] at h
   obtain ⟨rfl,h2⟩:=List.cons.inj h
   have ih:=rsN_val hs l y (fun d hd=>hB d (List.mem_cons_of_mem _ hd)) ws t h2
   have hd:=rs_digit (sh:=sh) (a:=x) (b:=y) hs (hB x (by simp)) (hB y (by simp))
   rw [rsN,val,val,List.length_cons,Nat.pow_succ,Nat.mul_comm (4294967296 ^ ws.length) 4294967296,Nat.mul_assoc,Nat.add_mul,Nat.mul_assoc]
   have:=congrArg (fun z=>4294967296*z) ih
   simp only [Nat.mul_add] at this
   omega
def FinRun (n m:Nat) (xs ys os:List Nat):Prop:=∀ (sh:Nat) (I:IK),Eng.execN Tryz.prog X0 [] 300 T111 2 endL (mkFr (divSlots n m sh)) (mkMem (divRows xs ys os)) (fun o fr' M'=>I o (lv [15,27] fr') (mv [2,3] M')) =
 I .normal [some (.slice 2 0 (m-n) (m-n) false),some (.slice 3 0 n n false)] [some (.row (toAVs (rowD os)) false 1),some (.row (rowI (rsF sh (xs.take (n+1)))) false 1)]
theorem fin_24 (x0 x1 x2 x3:Nat) (ys os:List Nat):FinRun 2 4 [x0,x1,x2,x3] ys os:=fun sh I=>by kernel_rfl
theorem fin_25 (x0 x1 x2 x3 x4:Nat) (ys os:List Nat):FinRun 2 5 [x0,x1,x2,x3,x4] ys os:=fun sh I=>by kernel_rfl
theorem fin_34 (x0 x1 x2 x3:Nat) (ys os:List Nat):FinRun 3 4 [x0,x1,x2,x3] ys os:=fun sh I=>by kernel_rfl
theorem end_run (os rs:List Nat) (l m:List UInt8) (I:IK) :
  Eng.execN Tryz.prog X0 [eBy os.length os 0 l,eBy rs.length rs 1 m] 300 T111 1 (post 2 endL) (mkFr [(15,.slice 0 0 os.length os.length false),(27,.slice 1 0 rs.length rs.length false)]) (mkMem [.row (toAVs (rowD os)) false 1,.row (toAVs (rowD rs)) false 1]) (fun o fr' M'=>I o (lv [4,5] fr') (mv [] M')) =
   gC (eBy os.length os 0 l) (gC (eBy rs.length rs 1 m) (I .normal [some (strA l),some (strA m)] [])):=by kernel_rfl
theorem endRet:post 1 (post 2 endL)=.ret:=by kernel_rfl
end
end Go.Proofs.YtodjhpjcgggamaaGreatDoor

namespace Go.Proofs.YtodjhpjcgggamaaGreatDoor
open Go Go.Eng Go.Vi Go.Knuth
local instance : Go.Eng.Mode := Sy
theorem jv_eq (c:Nat):Int.sub (.ofNat c) 1=jv c:=jv_pred c
theorem top_pos {b:List UInt8} (hb:NZ b) {l:List Nat} {t:Nat} (h:dgL b=l++[t]):0<t:=by
 apply Nat.pos_of_ne_zero
 rintro rfl
 have h1:=dgL_val b
 have h2:=dgL_len b
 have h3:=dgL_lt b
 rw [h] at h1 h2 h3
 rw [val_append] at h1
 simp only [val,Nat.mul_zero,Nat.add_zero] at h1
 have h4:=val_lt (B:=4294967296) (by decide) l fun d hd=>h3 d (by simp [hd])
 simp only [List.length_append,List.length_cons,List.length_nil] at h2
 cases b with
 | nil=>simp at h2
 | cons c r =>
  have hc:0<c.toNat:=Nat.pos_of_ne_zero fun e=>hb c r rfl (UInt8.toNat_inj.1 e)
  rw [be_cons] at h1
  have h5:256 ^ r.length≤c.toNat*256 ^ r.length:=Nat.le_mul_of_pos_left _ hc
  have h6:(4294967296:Nat) ^ l.length≤256 ^ r.length:=by
   rw [show (4294967296:Nat)=256 ^ 4 by decide,← Nat.pow_mul]
   exact Nat.pow_le_pow_right (by decide) (by simp only [List.length_cons] at h2;omega)
  omega
theorem norm_top {l:List Nat} {t sh:Nat} (hl:∀ d∈l,d<4294967296) (hs:sh≤31) (ht1:t*2 ^ sh<4294967296) (ht2:4294967296≤2*(t*2 ^ sh)) {yl:List Nat} {v yt:Nat} (hyB:∀ d∈yl,d<4294967296) (hlen:yl.length=l.length)
  (h:val 4294967296 (yl++[v]++[yt])=val 4294967296 (l++[t])*2 ^ sh) (hvB:v<4294967296):yt=0∧4294967296≤2*v∧val 4294967296 (yl++[v])=val 4294967296 (l++[t])*2 ^ sh:=by
 have e:2 ^ sh*2 ^ (32-sh)=4294967296:=by rw [← Nat.pow_add,Nat.add_sub_cancel' (by omega)]
 have hp:0<2 ^ sh:=Nat.pow_pos (by decide)
 have h1:=val_lt (B:=4294967296) (by decide) l hl
 have h2:=val_lt (B:=4294967296) (by decide) yl hyB
 rw [hlen] at h2
 have ht:(t+1)*2 ^ sh≤4294967296:=by
  have:t<2 ^ (32-sh):=by
   apply Nat.lt_of_mul_lt_mul_right (a:=2 ^ sh)
   rw [Nat.mul_comm (2 ^ (32-sh)),e];exact ht1
  rw [← e,Nat.mul_comm (2 ^ sh)]
  exact Nat.mul_le_mul_right _ this
 rw [val_append (yl++[v]),val_append yl,val_append l,List.length_append,hlen] at h
 rw [val_append yl,val_append l,hlen]
 simp only [val,Nat.mul_zero,Nat.add_zero,List.length_cons,List.length_nil,Nat.zero_add,Nat.pow_succ] at h ⊢
 generalize 4294967296 ^ l.length=P at *
 generalize 2 ^ sh=s at *
 generalize val 4294967296 yl=A at *
 generalize val 4294967296 l=C at *
 have k1:(C+P*t+1)*s≤P*4294967296:=by
  have:(C+P*t+1)*s≤(P*(t+1))*s:=Nat.mul_le_mul_right _ (by rw [Nat.mul_add];omega)
  refine Nat.le_trans this ?_
  rw [Nat.mul_assoc]
  exact Nat.mul_le_mul_left _ ht
 have k2:P*(t*s)≤(C+P*t)*s:=by
  rw [← Nat.mul_assoc];exact Nat.mul_le_mul_right _ (by omega)
 have k3:P*4294967296≤P*(2*(t*s)):=Nat.mul_le_mul_left _ ht2
 have k4:(C+P*t)*s<P*4294967296:=by rw [Nat.add_mul,Nat.one_mul] at k1;omega
 have y0:yt=0:=by
  apply Nat.eq_zero_of_not_pos
  intro hy
  have:P*4294967296*1≤P*4294967296*yt:=Nat.mul_le_mul_left _ hy
  omega
 rw [y0,Nat.mul_zero,Nat.add_zero] at h
 refine ⟨y0,?_,h⟩
 rcases Nat.lt_or_ge (2*v) 4294967296 with hlt | hge
 case inr=>exact hge
 have k5:P*(2*v+2)≤P*4294967296:=Nat.mul_le_mul_left _ (by omega)
 have k6:P*(2*(t*s))=2*(P*(t*s)):=Nat.mul_left_comm ..
 rw [Nat.mul_add,Nat.mul_left_comm] at k5
 omega
theorem div_long {a b:List UInt8} {n k:Nat} (hn:2≤n) (hnk:n≤k) (hk6:k≤5) (hR:Rounds n (k+1)) (hF:∀ xs ys os,xs.length=k+1→FinRun n (k+1) xs ys os)
  (hS:∀ (ds yl:List Nat) (t sh:Nat),ds.length=k→yl.length=n-1→ShfRun a ds (yl++[t]) t sh) (hw:¬ (a.length≤8∧b.length≤8)) (hc:¬ compareN a b<0) (h1:1≤b.length) (h2:b.length≤20) (hb:NZ b) (ha1:9≤a.length) (ha2:a.length≤20)
  (hka:(dgL a).length=k) (hnb:(dgL b).length=n):∃ ans,DivOk a b ans∧BSim Tryz.prog 152 [strA a,strA b] [] [] ans:=by
 obtain ⟨yl0,t,hyt⟩:=last1 (dgL b) (by omega)
 have htp:=top_pos hb hyt
 have hyB:=dgL_lt b
 have hdB:=dgL_lt a
 have hyv:=dgL_val b
 rw [hyt] at hyB hyv hnb
 obtain ⟨ds,hds⟩:∃ ds,dgL a=ds:=⟨_,rfl⟩
 rw [hds] at hka hdB
 simp only [List.length_append,List.length_cons,List.length_nil] at hnb
 refine div_head hw hc h1 h2 hyt ?_
 refine div_shift ha1 ha2 hds (fun sh=>hS ds yl0 t sh hka (by omega)) (hyB t (by simp)) htp hyB fun sh hs hs1 hs2=>?_
 have hp:0<2 ^ sh:=Nat.pow_pos (by decide)
 have hxl:=shlN_len sh ds 0
 have hyl:=shlN_len sh (yl0++[t]) 0
 have hxB:=shlN_lt hs ds 0 hdB hp
 have hysB:=shlN_lt hs (yl0++[t]) 0 hyB hp
 have hysv:=shlN_val sh (yl0++[t]) 0
 have htop:=shlN_top (b:=sh) ds 0 hdB hp
 rw [Nat.add_zero] at hysv
 generalize shlN sh 0 (yl0++[t])=ys at *
 generalize shlN sh 0 ds=xs at *
 have hylen:(yl0++[t]).length=n:=by simp;omega
 rw [hylen] at hyl ⊢
 rw [hka] at hxl ⊢
 obtain ⟨ys1,yt,rfl⟩:=last1 ys (by omega)
 simp only [List.length_append,List.length_cons,List.length_nil] at hyl
 obtain ⟨yl,y2,v,rfl⟩:=last2 ys1 (by omega)
 simp only [List.length_append,List.length_cons,List.length_nil] at hyl
 have hy2B:y2<4294967296:=hysB y2 (by simp)
 have hvB:v<4294967296:=hysB v (by simp)
 have hylB:∀ d∈yl,d<4294967296:=fun d hd=>hysB d (by simp [hd])
 have hsplit:yl++[y2,v]=yl++[y2]++[v]:=by simp
 obtain ⟨hyt0,hv2,hval⟩:=norm_top (l:=yl0) (t:=t) (sh:=sh) (fun d hd=>hyB d (by simp [hd])) hs hs1 hs2 (yl:=yl++[y2]) (v:=v) (yt:=yt)
  (fun d hd=>(List.mem_append.1 hd).elim (hylB d) fun hd=>by obtain rfl:=List.mem_singleton.1 hd;exact hy2B) (by simp;omega) (by rw [← hsplit];exact hysv) hvB
 rw [← hsplit] at hval
 obtain ⟨x1,u0,rfl⟩:=last1 xs (by omega)
 have hu0:=htop x1 u0 rfl
 simp only [List.length_append,List.length_cons,List.length_nil] at hxl
 have hInv:Inv n (k+1) (yl++[y2,v]) (k+1-n) (x1++[u0]) (zrow (k+1-n)):=by
  refine ⟨by simp;omega,by simp [zrow],Nat.le_refl _,hxB,fun d hd=>by rw [List.eq_of_mem_replicate hd];decide,fun h=>by omega,fun j hj=>?_⟩
  refine ⟨x1.take j,x1.drop j,u0,[],by simp,by simp;omega,by simp;omega,?_⟩
  have e1:=val_lt (B:=4294967296) (by decide) (x1.drop j) fun d hd=>hxB d (by simp [List.mem_of_mem_drop hd])
  have e2:(x1.drop j).length=n:=by simp;omega
  rw [e2] at e1
  have e3:(2:Nat) ^ sh≤2 ^ 31:=Nat.pow_le_pow_right (by decide) hs
  have e4:(2:Nat) ^ 31=2147483648:=by decide
  have e5:4294967296 ^ n*(u0+1)≤4294967296 ^ n*v:=Nat.mul_le_mul_left _ (by omega)
  have e6:4294967296 ^ n*v≤val 4294967296 (yl++[y2,v])*4294967296:=by
   rw [hsplit,val_append]
   simp only [val,Nat.mul_zero,Nat.add_zero]
   have:(yl++[y2]).length=n-1:=by simp;omega
   rw [this]
   obtain ⟨n',rfl⟩:∃ n',n=n'+1:=⟨n-1,by omega⟩
   rw [Nat.add_sub_cancel,Nat.pow_succ,Nat.add_mul,Nat.mul_assoc,Nat.mul_comm 4294967296 v,← Nat.mul_assoc]
   exact Nat.le_add_left ..
  rw [Nat.mul_add,Nat.mul_one] at e5
  omega
 refine W.parts (by kernel_rfl) (W.parts (by kernel_rfl) ?_)
 refine W.run hm hX0 (S:=[]) (fun _ h=>by cases h) 300 _ [0,1,2] _ (r16_run n (k+1) sh _ _ _) ?_
 rw [gB_iff]
 refine ⟨i64ok (by show -9223372036854775808≤((k+1-n:Nat):Int)-1;omega) (by show ((k+1-n:Nat):Int)-1<_;omega),?_⟩
 rw [jv_eq]
 refine pdec_iff.2 fun fr1 M1 hl1 hm1=>?_
 show W Tryz.prog T111 0 (rhs (lhs (post 10 c111))) fr1 M1 _
 rw [b0_blk]
 refine W.block ((rounds_loop hn (by omega) hR (by omega) hv2 hvB hy2B hylB hInv hl1 hm1).mono fun o fr2 M2 h=>?_)
 obtain ⟨rfl,ws,hi,os,k1,k2,k3,k4,k5,k6,hl2,hm2⟩:=h
 refine Blkd_eq ?_
 show W Tryz.prog T111 0 endL fr2 M2 _
 refine W.from (divSlots n (k+1) sh) (divSlots_ren n (k+1) sh) _ _ _ hl2 hm2 ?_
 refine W.runN hm hX0 (S:=[]) (fun _ h=>by cases h) 300 2 [15,27] [2,3] _ (hF _ _ _ k3 sh) ?_
 have etake:(ws++0::hi).take (n+1)=ws++[0]:=by
  rw [List.take_append,k1,List.take_of_length_le (by omega)]
  simp
 have hwB:∀ d∈ws++[0],d<4294967296:=by
  intro d hd
  rcases List.mem_append.1 hd with hd | hd
  ·exact k5 d (by simp [hd])
  ·obtain rfl:=List.mem_singleton.1 hd;decide
 rw [etake,rsF_eq hs _ hwB,rowI_eq]
 obtain ⟨w0,wl,hwl⟩:∃ w0 wl,ws++[0]=w0::wl:=by
  cases ws with
  | nil=>exact ⟨0,[],rfl⟩
  | cons w ws=>exact ⟨w,ws++[0],rfl⟩
 have hrl:(rsN sh (ws++[0])).length=n:=by
  have:=congrArg List.length hwl
  rw [hwl,rsN_len]
  simp at this;omega
 have hrv:val 4294967296 (rsN sh (ws++[0]))*2 ^ sh+w0 % 2 ^ sh=val 4294967296 ws:=by
  have:=rsN_val hs wl w0 (by rw [← hwl];exact hwB) ws 0 hwl.symm
  rw [← hwl,Nat.zero_mod,Nat.mul_zero,Nat.add_zero] at this
  exact this
 have hrB:=rsN_lt sh (ws++[0])
 generalize rsN sh (ws++[0])=rs at *
 refine pdec_iff.2 fun fr3 M3 hl3 hm3=>?_
 show W Tryz.prog T111 0 (post 2 endL) fr3 M3 _
 obtain ⟨l,hl1',hl2',hl3'⟩:=bytes_c os (by omega) k6
 obtain ⟨r,hr1,hr2,hr3⟩:=bytes_c rs (by omega) hrB
 rw [← k4,← hrl] at hl3
 refine W.next (π:=[2,3]) hl3 hm3 [(15,.slice 0 0 os.length os.length false),(27,.slice 1 0 rs.length rs.length false)] [.row (toAVs (rowD os)) false 1,.row (toAVs (rowD rs)) false 1] rfl rfl
  (by simp only [rows2,List.map_cons,List.map_nil,renB_data]) (by rfl) (by simp) (by simp) ?_
 refine W.runN hm hX0 (S:=[eBy os.length os 0 l,eBy rs.length rs 1 r]) (AllOk.mem ⟨eBy_ok 0 hl3',eBy_ok 1 hr3,trivial⟩) 300 1 [4,5] [] _ (end_run os rs l r) ?_
 rw [gC_iff,gC_iff]
 refine pdec_iff.2 fun fr4 M4 hv4 _=>?_
 show W Tryz.prog T111 0 (post 1 (post 2 endL)) fr4 M4 _
 rw [endRet]
 refine W.ret (fin_of_lv res111 rfl hv4 ⟨.tuple [strA l,strA r],⟨l,r,rfl,?_,hl2',hr2⟩,.tuple _ _ (.cons _ _ _ _ (.plain (.str l.length (enc l))) (.cons _ _ _ _ (.plain (.str r.length (enc r))) .nil)),fun j r hj=>by simp at hj⟩)
 rw [hr1,← hyv]
 apply Nat.lt_of_mul_lt_mul_right (a:=2 ^ sh)
 rw [← hval]
 omega
end Go.Proofs.YtodjhpjcgggamaaGreatDoor

namespace Go.Proofs.YtodjhpjcgggamaaGreatDoor
open Go Go.Eng Go.Vi Go.Knuth
local instance : Go.Eng.Mode := Sy
theorem lenE0 {α:Type} {l:List α} (h:l.length=0):l=[]:=List.eq_nil_of_length_eq_zero h
theorem lenE1 {α:Type} {l:List α} (h:l.length=1):∃ a,l=[a]:=by
 match l,h with
 | [a],_=>exact ⟨a,rfl⟩
theorem lenE2 {α:Type} {l:List α} (h:l.length=2):∃ a b,l=[a,b]:=by
 match l,h with
 | [a,b],_=>exact ⟨a,b,rfl⟩
theorem lenE3 {α:Type} {l:List α} (h:l.length=3):∃ a b c,l=[a,b,c]:=by
 match l,h with
 | [a,b,c],_=>exact ⟨a,b,c,rfl⟩
theorem lenE4 {α:Type} {l:List α} (h:l.length=4):∃ a b c d,l=[a,b,c,d]:=by
 match l,h with
 | [a,b,c,d],_=>exact ⟨a,b,c,d,rfl⟩
theorem lenE5 {α:Type} {l:List α} (h:l.length=5):∃ a b c d e,l=[a,b,c,d,e]:=by
 match l,h with
 | [a,b,c,d,e],_=>exact ⟨a,b,c,d,e,rfl⟩
theorem rounds_24:Rounds 2 4:=by
 intro j lo w3 hi yl os sh u0 u1 u2 y2 v yt h1 h2 h3 h4 h5 h6
 obtain rfl:=lenE0 h2
 obtain rfl:=lenE0 h3
 obtain ⟨o0,o1,rfl⟩:=lenE2 h5
 match j,h1,h4,h6 with
 | 0,h1,h4,_ =>
  obtain rfl:=lenE0 h1
  obtain ⟨h0,rfl⟩:=lenE1 h4
  exact rd240 h0 o0 o1 sh u0 u1 u2 y2 v yt
 | 1,h1,h4,_ =>
  obtain ⟨l0,rfl⟩:=lenE1 h1
  obtain rfl:=lenE0 h4
  exact rd241 l0 o0 o1 sh u0 u1 u2 y2 v yt
 | j+2,_,_,h=>omega
theorem rounds_25:Rounds 2 5:=by
 intro j lo w3 hi yl os sh u0 u1 u2 y2 v yt h1 h2 h3 h4 h5 h6
 obtain rfl:=lenE0 h2
 obtain rfl:=lenE0 h3
 obtain ⟨o0,o1,o2,rfl⟩:=lenE3 h5
 match j,h1,h4,h6 with
 | 0,h1,h4,_ =>
  obtain rfl:=lenE0 h1
  obtain ⟨h0,h1',rfl⟩:=lenE2 h4
  exact rd250 h0 h1' o0 o1 o2 sh u0 u1 u2 y2 v yt
 | 1,h1,h4,_ =>
  obtain ⟨l0,rfl⟩:=lenE1 h1
  obtain ⟨h0,rfl⟩:=lenE1 h4
  exact rd251 l0 h0 o0 o1 o2 sh u0 u1 u2 y2 v yt
 | 2,h1,h4,_ =>
  obtain ⟨l0,l1,rfl⟩:=lenE2 h1
  obtain rfl:=lenE0 h4
  exact rd252 l0 l1 o0 o1 o2 sh u0 u1 u2 y2 v yt
 | j+3,_,_,h=>omega
theorem rounds_34:Rounds 3 4:=by
 intro j lo w3 hi yl os sh u0 u1 u2 y2 v yt h1 h2 h3 h4 h5 h6
 obtain ⟨w0,rfl⟩:=lenE1 h2
 obtain ⟨z0,rfl⟩:=lenE1 h3
 obtain ⟨o0,rfl⟩:=lenE1 h5
 match j,h1,h4,h6 with
 | 0,h1,h4,_ =>
  obtain rfl:=lenE0 h1
  obtain rfl:=lenE0 h4
  exact rd340 w0 z0 o0 sh u0 u1 u2 y2 v yt
 | j+1,_,_,h=>omega
theorem cmp_len {a b:List UInt8} (h:¬ compareN a b<0):b.length≤a.length:=by
 apply Nat.le_of_not_lt
 intro hlt
 apply h
 have e:cmpN a.length b.length=-1:=if_pos hlt
 unfold compareN
 rw [e,if_neg (by decide)]
 decide
theorem div_ge {a b:List UInt8} (hw:¬ (a.length≤8∧b.length≤8)) (hc:¬ compareN a b<0) (hs:a.length+b.length≤20) (h1:1≤b.length) (hb:NZ b) :
  ∃ ans,DivOk a b ans∧BSim Tryz.prog 152 [strA a,strA b] [] [] ans:=by
 have hle:=cmp_len hc
 have ha:9≤a.length:=by omega
 by_cases h4:b.length≤4
 ·exact div_short hw hc h1 h4 hb ha (by omega)
 have hal:=dgL_len a
 have hbl:=dgL_len b
 by_cases h8:b.length≤8
 ·have hb2:(dgL b).length=2:=by omega
  have hcase:(dgL a).length=3∨(dgL a).length=4:=by omega
  rcases hcase with h3 | h3
  ·refine div_long (n:=2) (k:=3) (by omega) (by omega) (by omega) rounds_24 (fun xs ys os hx=>?_) (fun ds yl t sh hd hy=>?_) hw hc h1 (by omega) hb ha (by omega) h3 hb2
   ·obtain ⟨x0,x1,x2,x3,rfl⟩:=lenE4 hx
    exact fin_24 x0 x1 x2 x3 ys os
   ·obtain ⟨d0,d1,d2,rfl⟩:=lenE3 hd
    obtain ⟨y0,rfl⟩:=lenE1 hy
    exact shf_23 a d0 d1 d2 y0 t sh
  ·refine div_long (n:=2) (k:=4) (by omega) (by omega) (by omega) rounds_25 (fun xs ys os hx=>?_) (fun ds yl t sh hd hy=>?_) hw hc h1 (by omega) hb ha (by omega) h3 hb2
   ·obtain ⟨x0,x1,x2,x3,x4,rfl⟩:=lenE5 hx
    exact fin_25 x0 x1 x2 x3 x4 ys os
   ·obtain ⟨d0,d1,d2,d3,rfl⟩:=lenE4 hd
    obtain ⟨y0,rfl⟩:=lenE1 hy
    exact shf_24 a d0 d1 d2 d3 y0 t sh
 ·refine div_long (n:=3) (k:=3) (by omega) (by omega) (by omega) rounds_34 (fun xs ys os hx=>?_) (fun ds yl t sh hd hy=>?_) hw hc h1 (by omega) hb ha (by omega) (by omega) (by omega)
  ·obtain ⟨x0,x1,x2,x3,rfl⟩:=lenE4 hx
   exact fin_34 x0 x1 x2 x3 ys os
  ·obtain ⟨d0,d1,d2,rfl⟩:=lenE3 hd
   obtain ⟨y0,y1,rfl⟩:=lenE2 hy
   exact shf_33 a d0 d1 d2 y0 y1 t sh
theorem div_lt {a b:List UInt8} (hw:¬ (a.length≤8∧b.length≤8)) (hc:compareN a b<0):BSim Tryz.prog 152 [strA a,strA b] [] [] (.tuple [strA [],strA a]):=by
 have hcmp:=compare_c a b
 have e:compareN a b=-1:=by
  unfold compareN at hc ⊢
  have h1:=cmpN_3 a.length b.length
  have h2:=scmpN_3 a b
  split at hc<;>split<;>simp_all<;>omega
 rw [e] at hcmp
 refine BSim.run hm hX0 (S:=[eWords a b,eCmpB a b (-1)]) (AllOk.mem ⟨eWords_ok hw,hcmp.spec0 rfl,trivial⟩) ok111 (by kernel_rfl) rfl 300 [] (fun I=>gC (eWords a b) (gC (eCmpB a b (-1)) (I (.tuple [strA [],strA a]) []))) (fun I=>by kernel_rfl) ?_
 rw [gC_iff,gC_iff]
 exact pdec_iff.2 (Leaf.flat fun _ _=>.tuple _ _ (.cons _ _ _ _ (.plain (.str 0 0)) (.cons _ _ _ _ (.plain (.str a.length (enc a))) .nil)))
end Go.Proofs.YtodjhpjcgggamaaGreatDoor

namespace Go.Proofs.YtodjhpjcgggamaaGreatDoor
open Go Go.Eng Go.Vi Go.Knuth
local instance : Go.Eng.Mode := Sy
theorem be_ge {l:List UInt8} (h:NZ l) (h0:l≠[]):256 ^ (l.length-1)≤be l:=by
 cases l with
 | nil=>exact absurd rfl h0
 | cons c r =>
  have hc:0<c.toNat:=Nat.pos_of_ne_zero fun e=>h c r rfl (UInt8.toNat_inj.1 e)
  rw [be_cons]
  have h5:256 ^ r.length≤c.toNat*256 ^ r.length:=Nat.le_mul_of_pos_left _ hc
  simp only [List.length_cons,Nat.add_sub_cancel]
  omega
theorem be_len_lt {x y:List UInt8} (hy:NZ y) (h:x.length<y.length):be x<be y:=by
 have h1:=be_lt x
 have h2:=be_ge hy (by rintro rfl;simp at h)
 have h3:256 ^ x.length≤256 ^ (y.length-1):=Nat.pow_le_pow_right (by decide) (by omega)
 omega
theorem be_len_le {x y:List UInt8} (hx:NZ x) (h:be x<be y):x.length≤y.length:=by
 apply Nat.le_of_not_lt
 intro hlt
 have:=be_len_lt hx hlt
 omega
theorem less_be:∀ (x y:List UInt8),x.length=y.length→Op.bytesLess x y=true→be x<be y
 | [],[],_,h=>by simp [Op.bytesLess] at h
 | a::x,b::y,hl,h=>by
  have hl':x.length=y.length:=by simpa using hl
  rw [be_cons,be_cons,hl']
  have h1:=be_lt x
  have h2:=be_lt y
  rw [hl'] at h1
  simp only [Op.bytesLess] at h
  by_cases hab:a<b
  ·have:a.toNat<b.toNat:=hab
   have:(a.toNat+1)*256 ^ y.length≤b.toNat*256 ^ y.length:=Nat.mul_le_mul_right _ this
   rw [Nat.add_mul,Nat.one_mul] at this
   omega
  ·simp only [hab,decide_false,Bool.false_or,Bool.and_eq_true,beq_iff_eq] at h
   obtain ⟨rfl,h⟩:=h
   have:=less_be x y hl' h
   omega
 | [],_::_,hl,_=>by simp at hl
 | _::_,[],hl,_=>by simp at hl
theorem cmp_lt_be {x y:List UInt8} (hy:NZ y) (h:compareN x y<0):be x<be y:=by
 unfold compareN at h
 by_cases h1:x.length<y.length
 ·exact be_len_lt hy h1
 ·by_cases h2:y.length<x.length
  ·have e:cmpN x.length y.length=1:=by unfold cmpN;rw [if_neg h1,if_pos h2]
   rw [e,if_neg (by decide)] at h
   exact absurd h (by decide)
  ·have e:cmpN x.length y.length=0:=by unfold cmpN;rw [if_neg h1,if_neg h2]
   rw [e,if_pos rfl] at h
   unfold scmpN at h
   split at h
   ·exact absurd h (by decide)
   ·split at h
    ·rename_i h3;exact less_be x y (by omega) h3
    ·exact absurd h (by decide)
end Go.Proofs.YtodjhpjcgggamaaGreatDoor

namespace Go.Proofs.YtodjhpjcgggamaaGreatDoor
open Go Go.Eng Go.Vi Go.Knuth
noncomputable section
local instance : Go.Eng.Mode := Sy
theorem ok86:FnOk Tryz.prog 116 Tryz.f116:=⟨Tryz.func116,by kernel_rfl,by kernel_rfl⟩
def c86:Code:=codeOf Tryz.f116
def T86:Nat:=Tryz.f116.ntmps
def body86:Code:=bodyOf (bodyOf (lhs (post 2 c86)))
def blk86:Code:=bodyOf (rhs body86)
def inn86:Code:=thenOf (rhs (rhs (lhs blk86)))
def bodyI:Code:=bodyOf (bodyOf (lhs inn86))
def eWordsT (x y:List UInt8):FuncId × SEnt:=(149,⟨[strA x,strA y],[],.tuple [.int .u64 (.ofNat (wordN x)),.int .u64 (.ofNat (wordN y)),.bool true]⟩)
theorem eWordsT_ok {x y:List UInt8} (h:x.length≤8∧y.length≤8):SSpec Tryz.prog (eWordsT x y).1 (eWordsT x y).2:=by
 have:=(words_c x y).spec0 rfl
 have e:(decide (x.length≤8)&&decide (y.length≤8))=true:=by simp [h.1,h.2]
 unfold wordsA at this
 rw [e] at this
 exact this
def gRow:List Blk:=[.row [.bool false,.str 0 0] false 1]
def gS (x y:List UInt8):List (Nat × AV):=[(4,.ptr 0 0),(5,strA x),(6,strA y)]
def uvS (u v:Nat):List (Nat × AV):=[(4,.ptr 0 0),(7,.int .u64 (.ofNat u)),(8,.int .u64 (.ofNat v))]
theorem g_start (a b:List UInt8) (na nb:Bool) (I:IK) :
  Eng.execN Tryz.prog X0 [] 300 T86 2 c86 (mkFr (argSlots [.agg [.bool na,strA a],.agg [.bool nb,strA b]] 0)) (mkMem (rowsOf [])) (fun o fr' M'=>I o (lv [4,5,6] fr') (mv [2] M'))=I .normal [some (.ptr 2 0),some (strA a),some (strA b)] [some (.row [.bool false,.str 0 0] false 1)]:=by kernel_rfl
theorem g_exit (x:List UInt8) (I:IK):xE [] 300 T86 (lhs body86) (gS x []) gRow [4,5,6] [0] I=I (.exit 0) (vls (gS x [])) (rws gRow):=by kernel_rfl
theorem g_head (x y:List UInt8) (c:UInt8) (I:IK):xE [] 300 T86 (lhs body86) (gS x (c::y)) gRow [4,5,6] [0] I=I .normal (vls (gS x (c::y))) (rws gRow):=by kernel_rfl
theorem g_words (x y:List UInt8) (I:IK):Eng.exec Tryz.prog X0 [eWordsT x y] 300 T86 (lhs (lhs blk86)) (mkFr (gS x y)) (mkMem gRow) (fun o fr' M'=>I o (lv [4,7,8,9] fr') (mv [0] M')) =
 gC (eWordsT x y) (I .normal (vls (uvS (wordN x) (wordN y))++[some (.bool true)]) (rws gRow)):=by kernel_rfl
theorem g_cond (u v:Nat) (I:IK):xE [] 300 T86 (lhs (rhs (lhs blk86))) (uvS u v++[(9,.bool true)]) gRow [4,7,8,25] [0] I=I .normal (vls (uvS u v)++[some (.bool true)]) (rws gRow):=by kernel_rfl
theorem g_in (u v:Nat) (I:IK):xE [] 300 T86 bodyI (uvS u (v+1)) gRow [4,7,8] [0] I=I .normal [some (.ptr 0 0),some (.int .u64 (.ofNat (v+1))),some (.int .u64 (.ofNat (u % (v+1))))] (rws gRow):=by kernel_rfl
theorem g_in0 (u:Nat) (I:IK):xE [] 300 T86 bodyI (uvS u 0) gRow [4,7,8] [0] I=I (.exit 2) (vls (uvS u 0)) (rws gRow):=by kernel_rfl
theorem g_mag (u:Nat) (l:List UInt8) (I:IK):xE [eMag u l] 300 T86 (rhs inn86) (uvS u 0) gRow [4] [0] I=gC (eMag u l) (I .ret [some (.ptr 0 0)] [some (.row [.bool false,strA l] false 1)]):=by kernel_rfl
theorem g_div2 (x y q r:List UInt8) (I:IK):xE [(152,⟨[strA x,strA y],[],.tuple [strA q,strA r]⟩)] 300 T86 (rhs blk86) (gS x y) gRow [4,5,6] [0] I=gC (152,⟨[strA x,strA y],[],.tuple [strA q,strA r]⟩) (I .normal (vls (gS y r)) (rws gRow)):=by kernel_rfl
theorem g_end (l:List UInt8) (I:IK):xE [] 300 T86 (rhs (post 2 c86)) (gS l []) gRow [4] [0] I=I .ret [some (.ptr 0 0)] [some (.row [.bool false,strA l] false 1)]:=by kernel_rfl
theorem g_blk0:lhs (post 2 c86)=.block 0 (.loop body86):=by kernel_rfl
theorem g_blk1:rhs body86=.block 1 blk86:=by kernel_rfl
theorem g_blk2:lhs inn86=.block 2 (.loop bodyI):=by kernel_rfl
theorem g_if:rhs (rhs (lhs blk86))=.cond (.tmp 25) inn86 .skip:=by kernel_rfl
theorem gS_ren (x y:List UInt8):∀ p∈gS x y,renT [0] p.2=some p.2:=by
 intro p hp
 simp only [gS,List.mem_cons,List.not_mem_nil,or_false] at hp
 rcases hp with rfl | rfl | rfl<;>rfl
theorem uvS_ren (u v:Nat):∀ p∈uvS u v,renT [0] p.2=some p.2:=by
 intro p hp
 simp only [uvS,List.mem_cons,List.not_mem_nil,or_false] at hp
 rcases hp with rfl | rfl | rfl<;>rfl
theorem gRow_ren:rows2 [0] gRow=rws gRow:=by rfl
theorem W.fromG {c:Code} {Q:AE→Fr→Mem→Prop} {fr:Fr} {M:Mem} (slots:List (Nat × AV)) (hs:∀ p∈slots,renT [0] p.2=some p.2) (hv:lv (kys slots) fr=vls slots) (hm':mv [0] M=rws gRow)
  (h:W Tryz.prog T86 0 c (mkFr slots) (mkMem gRow) Q):W Tryz.prog T86 0 c fr M Q :=
 W.next (π:=[0]) hv hm' slots gRow rfl (vls_vals slots _ hs) gRow_ren (by rfl) (vls_some slots) (by simp [rws,gRow]) h
def GPr (ans:AV):Prop:=∃ g:List UInt8,ans=.agg [.bool false,strA g]
theorem res86:Tryz.f116.results.toList=[.cell 4 23]:=by kernel_rfl
theorem part35 (l:List UInt8) (K:AV→Bool):partK Tryz.prog 23 [.bool false,strA l] 0 K=K (.agg [.bool false,strA l]):=by kernel_rfl
theorem fin86 {fr:Fr} {M:Mem} {l:List UInt8} (h1:lv [4] fr=[some (.ptr 0 0)]) (h2:mv [0] M=[some (.row [.bool false,strA l] false 1)]):FinEx Tryz.prog Tryz.f116 0 [] GPr .ret fr M:=by
 simp only [lv,mv,List.map_cons,List.map_nil,List.cons.injEq] at h1 h2
 refine ⟨.agg [.bool false,strA l],⟨l,rfl⟩,.inr rfl,[.agg [.bool false,strA l]],?_,.aggs [.bool false,.str l.length (enc l)],fun j r hj=>by simp at hj⟩
 rw [res86]
 show getT fr 4 (fun p=>loadA Tryz.prog 23 p M fun v=>pdec ([v]=[.agg [.bool false,strA l]]))=true
 rw [getT_iff]
 refine ⟨.ptr 0 0,h1.1,?_⟩
 show (match M.t.get 0 with
  | some (.row c _ _)=>partK Tryz.prog 23 c 0 _
  | _=>false)=true
 rw [h2.1]
 exact (part35 l _).trans (pdec_iff.2 rfl)
theorem inner_loop (u v:Nat) {fr:Fr} {M:Mem} (hl:lv [4,7,8] fr=vls (uvS u v)) (hm0:mv [0] M=rws gRow) :
  W Tryz.prog T86 0 (.loop bodyI) fr M fun o fr' M'=>o=.exit 2∧(∃ g,(g=u∨g≤u∨g≤v)∧lv [4,7,8] fr'=vls (uvS g 0))∧mv [0] M'=rws gRow:=by
 refine W.loop (σ:={ p:Nat × Nat // p.1≤u∨p.1≤v }) (fun s fr M=>(s.1.2≤v)∧lv [4,7,8] fr=vls (uvS s.1.1 s.1.2)∧mv [0] M=rws gRow) (fun s=>s.1.2) ?_ ⟨(u,v),.inl (Nat.le_refl _)⟩ ⟨Nat.le_refl _,hl,hm0⟩
 rintro ⟨⟨p,q⟩,hp⟩ fr M ⟨hq,hl,hm0⟩
 simp only at hq hl hp
 refine W.fromG (uvS p q) (uvS_ren p q) hl hm0 ?_
 cases q with
 | zero =>
  refine W.run hm hX0 (S:=[]) (fun _ h=>by cases h) 300 _ [0] _ (g_in0 p) (pdec_iff.2 fun fr1 M1 hl1 hm1=>?_)
  exact .inr ⟨by simp,rfl,⟨p,.inr hp,hl1⟩,hm1⟩
 | succ q =>
  refine W.run hm hX0 (S:=[]) (fun _ h=>by cases h) 300 _ [0] _ (g_in p q) (pdec_iff.2 fun fr1 M1 hl1 hm1=>?_)
  have h1:p % (q+1)<q+1:=Nat.mod_lt _ (by omega)
  exact .inl ⟨rfl,⟨(q+1,p % (q+1)),.inr hq⟩,h1,by simp only;omega,hl1,hm1⟩
theorem wordN_lt (x:List UInt8):wordN x<18446744073709551616:=by
 unfold wordN
 split
 ·rename_i h
  refine Nat.lt_of_lt_of_le (be_lt x) ?_
  rw [show (18446744073709551616:Nat)=256 ^ 8 by decide]
  exact Nat.pow_le_pow_right (by decide) h
 ·decide
theorem gcd_c (a b:List UInt8) (na nb:Bool) (ha:NZ a) (hb:NZ b) (hs:a.length+b.length≤20):∃ g:List UInt8,BSim Tryz.prog 116 [.agg [.bool na,strA a],.agg [.bool nb,strA b]] [] [] (.agg [.bool false,strA g]):=by
 suffices h:∃ ans,GPr ans∧BSim Tryz.prog 116 [.agg [.bool na,strA a],.agg [.bool nb,strA b]] [] [] ans by
  obtain ⟨_,⟨g,rfl⟩,h⟩:=h
  exact ⟨g,h⟩
 refine BSim.of_WEx ok86 (by kernel_rfl) rfl ?_
 refine W.runN hm hX0 (S:=[]) (fun _ h=>by cases h) 300 2 [4,5,6] [2] _ (g_start a b na nb) (pdec_iff.2 fun fr1 M1 hl1 hm1=>?_)
 show W Tryz.prog T86 0 (post 2 c86) fr1 M1 _
 refine W.next (π:=[2]) hl1 hm1 (gS a b) gRow rfl rfl (by rfl) (by rfl) (by simp) (by simp) ?_
 refine W.parts (by kernel_rfl) ?_
 rw [g_blk0]
 refine W.block ?_
 refine W.loop (σ:={ p:List UInt8 × List UInt8 // NZ p.1∧NZ p.2∧p.1.length+p.2.length≤20 }) (fun s fr M=>lv [4,5,6] fr=vls (gS s.1.1 s.1.2)∧mv [0] M=rws gRow) (fun s=>be s.1.2) ?_ ⟨(a,b),ha,hb,hs⟩ ⟨rfl,rfl⟩
 rintro ⟨⟨x,y⟩,hx,hy,hs⟩ fr M ⟨hl,hm0⟩
 simp only at hx hy hs hl
 refine W.fromG (gS x y) (gS_ren x y) hl hm0 ?_
 cases y with
 | nil =>
  refine W.parts (by kernel_rfl) (W.run hm hX0 (S:=[]) (fun _ h=>by cases h) 300 _ [0] _ (g_exit x) (pdec_iff.2 fun fr2 M2 hl2 hm2=>?_))
  refine .inr ⟨by simp,Blkd_eq ?_⟩
  show W Tryz.prog T86 0 (rhs (post 2 c86)) fr2 M2 _
  refine W.fromG (gS x []) (gS_ren x []) hl2 hm2 ?_
  exact W.run hm hX0 (S:=[]) (fun _ h=>by cases h) 300 _ [0] _ (g_end x) (pdec_iff.2 fun fr3 M3 hl3 hm3=>fin86 hl3 hm3)
 | cons c y =>
  refine W.parts (by kernel_rfl) (W.run hm hX0 (S:=[]) (fun _ h=>by cases h) 300 _ [0] _ (g_head x y c) (pdec_iff.2 fun fr2 M2 hl2 hm2=>?_))
  show W Tryz.prog T86 0 (rhs body86) fr2 M2 _
  rw [g_blk1]
  have h1y:1≤(c::y).length:=by simp
  have hbe0:=be_ge hy (by simp)
  generalize c::y=y' at *
  refine W.fromG (gS x y') (gS_ren x y') hl2 hm2 (W.block ?_)
  by_cases hw:x.length≤8∧y'.length≤8
  ·refine W.parts (by kernel_rfl) (W.parts (by kernel_rfl) ?_)
   refine W.run hm hX0 (S:=[eWordsT x y']) (AllOk.mem ⟨eWordsT_ok hw,trivial⟩) 300 [4,7,8,9] [0] _ (g_words x y') ?_
   rw [gC_iff]
   refine pdec_iff.2 fun fr3 M3 hl3 hm3=>?_
   have hl3':fr3.get 4::fr3.get 7::fr3.get 8::[fr3.get 9]=[some (.ptr 0 0),some (.int .u64 (.ofNat (wordN x))),some (.int .u64 (.ofNat (wordN y'))),some (.bool true)]:=hl3
   show W Tryz.prog T86 0 (rhs (lhs blk86)) fr3 M3 _
   refine W.parts (by kernel_rfl) ?_
   refine W.next (ts:=[4,7,8,9]) (π:=[0]) hl3' hm3 (uvS (wordN x) (wordN y')++[(9,.bool true)]) gRow rfl rfl gRow_ren (by rfl) (by simp) (by simp [rws,gRow]) ?_
   refine W.run hm hX0 (S:=[]) (fun _ h=>by cases h) 300 [4,7,8,25] [0] _ (g_cond (wordN x) (wordN y')) (pdec_iff.2 fun fr4 M4 hl4 hm4=>?_)
   have hl4':fr4.get 4::fr4.get 7::fr4.get 8::[fr4.get 25]=[some (.ptr 0 0),some (.int .u64 (.ofNat (wordN x))),some (.int .u64 (.ofNat (wordN y'))),some (.bool true)]:=hl4
   simp only [List.cons.injEq] at hl4'
   show W Tryz.prog T86 0 (rhs (rhs (lhs blk86))) fr4 M4 _
   rw [g_if]
   refine W.cond true hl4'.2.2.2.1 (fun _=>?_) (fun h=>by cases h)
   refine W.parts (by kernel_rfl) ?_
   rw [g_blk2]
   refine W.block ((inner_loop (wordN x) (wordN y') (fr:=fr4) (by show [fr4.get 4,fr4.get 7,fr4.get 8]=_;rw [hl4'.1,hl4'.2.1,hl4'.2.2.1];rfl) hm4).mono fun o fr5 M5 h=>?_)
   obtain ⟨rfl,⟨g,hg,hl5⟩,hm5⟩:=h
   refine Blkd_eq ?_
   show W Tryz.prog T86 0 (rhs inn86) fr5 M5 _
   have hx1:=wordN_lt x
   have hy1:=wordN_lt y'
   obtain ⟨m,_,_,hm6⟩:=mag_c g (by omega)
   refine W.fromG (uvS g 0) (uvS_ren g 0) hl5 hm5 ?_
   refine W.run hm hX0 (S:=[eMag g m]) (AllOk.mem ⟨eMag_ok hm6,trivial⟩) 300 [4] [0] _ (g_mag g m) ?_
   rw [gC_iff]
   refine pdec_iff.2 fun fr6 M6 hl6 hm6=>?_
   exact .inr ⟨by simp,fin86 hl6 hm6⟩
  ·refine W.runN hm hX0 (S:=[eWords x y']) (AllOk.mem ⟨eWords_ok hw,trivial⟩) 300 1 [4,5,6] [0] (fun I=>gC (eWords x y') (I .normal (vls (gS x y')) (rws gRow))) (fun I=>by kernel_rfl) ?_
   rw [gC_iff]
   refine pdec_iff.2 fun fr3 M3 hl3 hm3=>?_
   show W Tryz.prog T86 0 (rhs blk86) fr3 M3 _
   refine W.fromG (gS x y') (gS_ren x y') hl3 hm3 ?_
   have key:∀ q r:List UInt8,BSim Tryz.prog 152 [strA x,strA y'] [] [] (.tuple [strA q,strA r])→NZ r→be r<be y'→y'.length+r.length≤20→W Tryz.prog T86 0 (rhs blk86) (mkFr (gS x y')) (mkMem gRow) (Blkd 1 fun o fr' M' =>
     (o=.normal∧∃ s':{ p:List UInt8 × List UInt8 // NZ p.1∧NZ p.2∧p.1.length+p.2.length≤20 },be s'.1.2<be y'∧lv [4,5,6] fr'=vls (gS s'.1.1 s'.1.2)∧mv [0] M'=rws gRow) ∨
     (o≠.normal∧Blkd 0 (Nxt Tryz.prog T86 0 (rhs (post 2 c86)) (FinEx Tryz.prog Tryz.f116 0 [] GPr)) o fr' M')):=by
    intro q r hd hr hlt hs'
    refine W.run hm hX0 (S:=[(152,⟨[strA x,strA y'],[],.tuple [strA q,strA r]⟩)]) (AllOk.mem ⟨hd.spec0 rfl,trivial⟩) 300 _ [0] _ (g_div2 x y' q r) ?_
    rw [gC_iff]
    exact pdec_iff.2 fun fr4 M4 hl4 hm4=>.inl ⟨rfl,⟨(y',r),hy,hr,hs'⟩,hlt,hl4,hm4⟩
   by_cases hc:compareN x y'<0
   ·exact key [] x (div_lt hw hc) hx (cmp_lt_be hy hc) (by omega)
   ·obtain ⟨ans,⟨q,r,rfl,h1,h2,h3⟩,hd⟩:=div_ge hw hc hs h1y hy
    have:=be_len_le h3 h1
    have:=cmp_len hc
    exact key q r hd h3 h1 (by omega)
end
end Go.Proofs.YtodjhpjcgggamaaGreatDoor

namespace Go.Proofs.YtodjhpjcgggamaaGreatDoor
open Go Go.Eng Go.Vi Go.Knuth
noncomputable section
def intA (n:Bool) (m:List UInt8):AV:=.agg [.bool n,strA m]
theorem ok83:FnOk Tryz.prog 113 Tryz.f113:=⟨Tryz.func113,by kernel_rfl,by kernel_rfl⟩
theorem ok84:FnOk Tryz.prog 114 Tryz.f114:=⟨Tryz.func114,by kernel_rfl,by kernel_rfl⟩
theorem ok85:FnOk Tryz.prog 115 Tryz.f115:=⟨Tryz.func115,by kernel_rfl,by kernel_rfl⟩
def runF [Go.Eng.Mode] (f:Func) (S:List (FuncId × SEnt)) (args:List AV) (I:AK):Bool :=
 Eng.exec Tryz.prog X0 S 300 f.ntmps (codeOf f) (mkFr (argSlots args 0)) (mkMem (rowsOf [])) (fun o fr M=>endK o (resK Tryz.prog fr M f.results.toList fun vs=>I (oneOf vs) (mv [] M)))
def eIC (n:Bool) (m:List UInt8) (e:Int):FuncId × SEnt:=(113,⟨[intA n m],[],.int .i64 e⟩)
def eOne:FuncId × SEnt:=(115,⟨[],[],intA false [1]⟩)
def eCp (n:Bool) (m:List UInt8) (e:Int):FuncId × SEnt:=(114,⟨[intA n m,intA false [1]],[],.int .i64 e⟩)
def eGcd (n:Bool) (m:List UInt8) (n':Bool) (m' g:List UInt8):FuncId × SEnt:=(116,⟨[intA n m,intA n' m'],[],intA false g⟩)
def eCC (m:List UInt8) (e:Int):FuncId × SEnt:=(148,⟨[strA m,strA [1]],[],.int .i64 e⟩)
section
local instance : Go.Eng.Mode := Sy
theorem hX0s:∀ f x,X0 f=some x→ExtSpec Tryz.prog f x:=hX0
theorem i0_leaf (n:Int) {π:List Nat} {bs:List (Option Blk)}:Leaf 0 π [] (.int .i64 n) (.int .i64 n) bs:=Leaf.flat fun _ _=>.plain (.int .i64 n)
theorem icheck (n:Bool) (m:List UInt8):BSim Tryz.prog 113 [intA n m] [] [] (.int .i64 5)∨(NZ m∧(m=[]→n=false)∧BSim Tryz.prog 113 [intA n m] [] [] (.int .i64 0)):=by
 cases m with
 | nil =>
  cases n with
  | false=>exact .inr ⟨(fun _ _ h=>by cases h),fun _=>rfl,BSim.run hm hX0 (S:=[]) (fun _ h=>by cases h) ok83 (by kernel_rfl) rfl 300 [] (fun I=>I (.int .i64 0) []) (fun I=>by kernel_rfl) (pdec_iff.2 (i0_leaf 0))⟩
  | true=>exact .inl (BSim.run hm hX0 (S:=[]) (fun _ h=>by cases h) ok83 (by kernel_rfl) rfl 300 [] (fun I=>I (.int .i64 5) []) (fun I=>by kernel_rfl) (pdec_iff.2 (i0_leaf 5)))
 | cons c l =>
  have hrun:∀ I:AK,runF Tryz.f113 [] [intA n (c::l)] I=gIf (ieq (.ofNat (byte0 (c::l))) 0) (I (.int .i64 5) []) (I (.int .i64 0) []):=fun I=>by kernel_rfl
  by_cases hc:c=0
  ·refine .inl (BSim.run hm hX0 (S:=[]) (fun _ h=>by cases h) ok83 (by kernel_rfl) rfl 300 [] _ hrun ?_)
   rw [byte0_eq,hc]
   exact gIf_of (fun _=>pdec_iff.2 (i0_leaf 5)) (fun h=>by cases h)
  ·refine .inr ⟨(fun b r h=>by obtain ⟨rfl,_⟩:=List.cons.inj h;exact hc),(fun h=>by cases h),BSim.run hm hX0 (S:=[]) (fun _ h=>by cases h) ok83 (by kernel_rfl) rfl 300 [] _ hrun ?_⟩
   rw [byte0_eq]
   refine gIf_of (fun h=>?_) (fun _=>pdec_iff.2 (i0_leaf 0))
   rw [ieq_iff] at h
   have h:Int.ofNat c.toNat=0:=by simpa using h
   exact absurd (UInt8.toNat_inj.1 (show c.toNat=(0:UInt8).toNat by have:=Int.ofNat.inj h;exact this)) hc
end
theorem one_run:@closedRun Cl Tryz.prog X1 [] 400 Tryz.f115 [] (intA false [1])=true:=by kernel_rfl
theorem one_c:BSim Tryz.prog 115 [] [] [] (intA false [1]) :=
 @BSim.closed Cl Tryz.prog hm X1 (@hX1 Cl) [] (fun _ h=>by cases h) 115 Tryz.f115 ok85 _ _ (by rfl) 400 one_run rfl
section
local instance : Go.Eng.Mode := Sy
theorem cmp1_t (c:UInt8) (m:List UInt8):BSim Tryz.prog 114 [intA true (c::m),intA false [1]] [] [] (.int .i64 (-1)) :=
 BSim.run hm hX0 (S:=[]) (fun _ h=>by cases h) ok84 (by kernel_rfl) rfl 300 [] (fun I=>I (.int .i64 (-1)) []) (fun I=>by kernel_rfl) (pdec_iff.2 (i0_leaf (-1)))
theorem cmp1_f (m:List UInt8):BSim Tryz.prog 114 [intA false m,intA false [1]] [] [] (.int .i64 (compareN m [1])):=by
 have h:=compare_c m [1]
 generalize compareN m [1]=e at h
 refine BSim.run hm hX0 (S:=[eCC m e]) (AllOk.mem ⟨h.spec0 rfl,trivial⟩) ok84 (by kernel_rfl) rfl 300 [] (fun I=>gC (eCC m e) (I (.int .i64 e) [])) (fun I=>by kernel_rfl) ?_
 rw [gC_iff]
 exact pdec_iff.2 (i0_leaf e)
end
theorem cmp1 (n:Bool) (c:UInt8) (m:List UInt8):∃ e:Int,(e=-1∨e=0∨e=1)∧BSim Tryz.prog 114 [intA n (c::m),intA false [1]] [] [] (.int .i64 e):=by
 cases n with
 | true=>exact ⟨-1,.inl rfl,cmp1_t c m⟩
 | false =>
  refine ⟨_,?_,cmp1_f (c::m)⟩
  unfold compareN
  split
  ·exact scmpN_3 _ _
  ·exact cmpN_3 _ _
section
local instance : Go.Eng.Mode := Sl
theorem hX0l:∀ f x,X0 f=some x→ExtSpec Tryz.prog f x:=fun _ _ h=>by cases h
theorem iL_leaf (n:Int) {π:List Nat} {bs:List (Option Blk)}:Leaf 0 π [] (.int .i64 n) (.int .i64 n) bs:=Leaf.flat fun _ _=>.plain (.int .i64 n)
def run63 (S:List (FuncId × SEnt)) (r:Rt) (I:AK):Bool:=runF Tryz.f69 S [rtA r] I
theorem ck_a (n n':Bool) (m m':List UInt8) (I:AK):run63 [eIC n m 5] ⟨n,m,n',m'⟩ I=gC (eIC n m 5) (I (.int .i64 5) []):=by kernel_rfl
theorem ck_b (n n':Bool) (m m':List UInt8) (I:AK):run63 [eIC n m 0,eIC n' m' 5] ⟨n,m,n',m'⟩ I=gC (eIC n m 0) (gC (eIC n' m' 5) (I (.int .i64 5) [])):=by kernel_rfl
theorem ck_c (n:Bool) (m:List UInt8) (I:AK):run63 [eIC n m 0,eIC false [] 0] ⟨n,m,false,[]⟩ I=gC (eIC n m 0) (gC (eIC false [] 0) (I (.int .i64 0) [])):=by kernel_rfl
def gLd (v:AV) (b:Bool):Bool:=gB (gB (gB (gX v true) true) true) b
theorem gLd_iff {v:AV} {b:Bool}:gLd v b=true↔b=true:=by
 unfold gLd
 simp only [gB_iff,gX_iff,and_true,true_and]
def CkD (b:Bool) (e:Int):Prop:=∀ (n:Bool) (m l:List UInt8) (c:UInt8) (I:AK),run63 [eIC n m 0,eIC b (c::l) 0,eOne,eCp b (c::l) e] ⟨n,m,b,c::l⟩ I =
 gC (eIC n m 0) (gC (eIC b (c::l) 0) (gC eOne (gC (eCp b (c::l) e) (gLd (intA b (c::l)) (I (.int .i64 5) [])))))
theorem ck_d1:CkD true (-1):=fun n m l c I=>by kernel_rfl
theorem ck_d2:CkD true 0:=fun n m l c I=>by kernel_rfl
theorem ck_d3:CkD false (-1):=fun n m l c I=>by kernel_rfl
theorem ck_d4:CkD false 0:=fun n m l c I=>by kernel_rfl
def CkE (b:Bool):Prop:=∀ (n:Bool) (m l g:List UInt8) (c:UInt8) (I:AK),run63 [eIC n m 0,eIC b (c::l) 0,eOne,eCp b (c::l) 1,eGcd n m b (c::l) g,eOne] ⟨n,m,b,c::l⟩ I =
 gC (eIC n m 0) (gC (eIC b (c::l) 0) (gC eOne (gC (eCp b (c::l) 1) (gC (eGcd n m b (c::l) g) (gC eOne (gIf (seqA g.length (enc g) [(1:UInt8)].length (enc [1])) (gLd (intA b (c::l)) (I (.int .i64 0) [])) (gLd (intA b (c::l)) (I (.int .i64 5) []))))))))
theorem ck_e1:CkE true:=fun n m l g c I=>by kernel_rfl
theorem ck_e2:CkE false:=fun n m l g c I=>by kernel_rfl
theorem check_any (r:Rt) (hr:r.mag.length+r.dmag.length≤20):∃ e:Int,(e=0∨e=5)∧BSim Tryz.prog 69 [rtA r] [] [] (.int .i64 e):=by
 obtain ⟨n,m,n',m'⟩:=r
 simp only at hr
 have r5:∀ {S:List (FuncId × SEnt)},AllOk S→∀ G:Bool→Bool,(∀ b,b=true→G b=true)→(∀ I,run63 S ⟨n,m,n',m'⟩ I=G (I (.int .i64 5) []))→BSim Tryz.prog 69 [rtA ⟨n,m,n',m'⟩] [] [] (.int .i64 5):=fun hS G hG hrun =>
  BSim.run hm hX0l hS.mem ok63 (by kernel_rfl) rfl 300 [] _ hrun (hG _ (pdec_iff.2 (iL_leaf 5)))
 rcases icheck n m with h1 | ⟨hm1,_,h1⟩
 ·exact ⟨5,.inr rfl,r5 (S:=[eIC n m 5]) ⟨h1.spec0 rfl,trivial⟩ (fun b=>gC (eIC n m 5) b) (fun b hb=>by rw [gC_iff];exact hb) (ck_a n n' m m')⟩
 rcases icheck n' m' with h2 | ⟨hm2,hn2,h2⟩
 ·exact ⟨5,.inr rfl,r5 (S:=[eIC n m 0,eIC n' m' 5]) ⟨h1.spec0 rfl,h2.spec0 rfl,trivial⟩ (fun b=>gC (eIC n m 0) (gC (eIC n' m' 5) b)) (fun b hb=>by rw [gC_iff,gC_iff];exact hb) (ck_b n n' m m')⟩
 cases m' with
 | nil =>
  obtain rfl:=hn2 rfl
  refine ⟨0,.inl rfl,BSim.run hm hX0l (S:=[eIC n m 0,eIC false [] 0]) (AllOk.mem ⟨h1.spec0 rfl,h2.spec0 rfl,trivial⟩) ok63 (by kernel_rfl) rfl 300 [] _ (ck_c n m) ?_⟩
  rw [gC_iff,gC_iff]
  exact pdec_iff.2 (iL_leaf 0)
 | cons c l =>
  obtain ⟨e,he,hc⟩:=cmp1 n' c l
  have hone:SSpec Tryz.prog eOne.1 eOne.2:=one_c.spec0 rfl
  have d5:∀ e:Int,CkD n' e→BSim Tryz.prog 114 [intA n' (c::l),intA false [1]] [] [] (.int .i64 e)→BSim Tryz.prog 69 [rtA ⟨n,m,n',c::l⟩] [] [] (.int .i64 5):=fun e hrun hcp=>by
   refine r5 (S:=[eIC n m 0,eIC n' (c::l) 0,eOne,eCp n' (c::l) e]) ⟨h1.spec0 rfl,h2.spec0 rfl,hone,hcp.spec0 rfl,trivial⟩ (fun b=>gC (eIC n m 0) (gC (eIC n' (c::l) 0) (gC eOne (gC (eCp n' (c::l) e) (gLd (intA n' (c::l)) b))))) (fun b hb=>by simp only [gC_iff,gLd_iff];exact hb) (hrun n m l c)
  rcases he with rfl | rfl | rfl
  ·exact ⟨5,.inr rfl,d5 (-1) (by cases n';exact ck_d3;exact ck_d1) hc⟩
  ·exact ⟨5,.inr rfl,d5 0 (by cases n';exact ck_d4;exact ck_d2) hc⟩
  ·obtain ⟨g,hg⟩:=gcd_c m (c::l) n n' hm1 hm2 hr
   have hrun:CkE n':=by cases n';exact ck_e2;exact ck_e1
   have hS:AllOk [eIC n m 0,eIC n' (c::l) 0,eOne,eCp n' (c::l) 1,eGcd n m n' (c::l) g,eOne]:=⟨h1.spec0 rfl,h2.spec0 rfl,hone,hc.spec0 rfl,hg.spec0 rfl,hone,trivial⟩
   have hs:=seqA_iff g [1]
   by_cases hg1:g=[1]
   ·refine ⟨0,.inl rfl,BSim.run hm hX0l hS.mem ok63 (by kernel_rfl) rfl 300 [] _ (hrun n m l g c) ?_⟩
    simp only [gC_iff]
    rw [hs]
    refine gIf_of (fun _=>?_) (fun h=>absurd hg1 (by simpa using h))
    rw [gLd_iff]
    exact pdec_iff.2 (iL_leaf 0)
   ·refine ⟨5,.inr rfl,BSim.run hm hX0l hS.mem ok63 (by kernel_rfl) rfl 300 [] _ (hrun n m l g c) ?_⟩
    simp only [gC_iff]
    rw [hs]
    refine gIf_of (fun h=>absurd (by simpa using h) hg1) (fun _=>?_)
    rw [gLd_iff]
    exact pdec_iff.2 (iL_leaf 5)
end
end
end Go.Proofs.YtodjhpjcgggamaaGreatDoor

namespace Go.Proofs.YtodjhpjcgggamaaGreatDoor
open Go Go.Eng Go.Vi Go.Knuth
noncomputable section
local instance : Go.Eng.Mode := Sl
theorem ok87:FnOk Tryz.prog 30 Tryz.f30:=⟨Tryz.func30,by kernel_rfl,by kernel_rfl⟩
def eWd (m:List UInt8) (b:Bool):FuncId × SEnt:=(51,⟨[strA m],[],.tuple [.int .u64 (.ofNat (wordN m)),.bool b]⟩)
def eTI (n:Bool) (m:List UInt8) (z:Int) (b:Bool):FuncId × SEnt:=(30,⟨[intA n m],[],.tuple [.int .i64 z,.bool b]⟩)
def eCk2 (r:Rt) (e:Int):FuncId × SEnt:=(69,⟨[rtA r],[],.int .i64 e⟩)
def zbA (z:Int) (b:Bool):AV:=.tuple [.int .i64 z,.bool b]
theorem zb_leaf (z:Int) (b:Bool) {π:List Nat} {bs:List (Option Blk)}:Leaf 0 π [] (zbA z b) (zbA z b) bs:=Leaf.flat fun _ _=>.tuple _ _ (.cons _ _ _ _ (.plain (.int .i64 z)) (.cons _ _ _ _ (.plain (.bool b)) .nil))
def tiZ (n:Bool) (m:List UInt8):Int × Bool :=
 if m.length≤8 then (if n then (if be m≤9223372036854775808 then (IntKind.i64.wrap (IntKind.u64.wrap (Int.neg (.ofNat (be m)))),true) else (0,false)) else (if be m≤9223372036854775807 then (.ofNat (be m),true) else (0,false))) else (0,false)
theorem ti_0 (n:Bool) (m:List UInt8) (I:AK):runF Tryz.f30 [eWd m false] [intA n m] I=gC (eWd m false) (I (zbA 0 false) []):=by kernel_rfl
theorem ti_t (m:List UInt8) (I:AK):runF Tryz.f30 [eWd m true] [intA true m] I=gC (eWd m true) (gIf (Bool.not (ilt 9223372036854775808 (.ofNat (wordN m)))) (I (zbA (IntKind.i64.wrap (IntKind.u64.wrap (Int.neg (.ofNat (wordN m))))) true) []) (I (zbA 0 false) [])):=by kernel_rfl
theorem ti_f (m:List UInt8) (I:AK):runF Tryz.f30 [eWd m true] [intA false m] I=gC (eWd m true) (gIf (Bool.not (ilt 9223372036854775807 (.ofNat (wordN m)))) (I (zbA (IntKind.i64.wrap (.ofNat (wordN m))) true) []) (I (zbA 0 false) [])):=by kernel_rfl
theorem nlt_le {x c:Nat}:Bool.not (ilt (.ofNat c) (.ofNat x))=decide (x≤c):=by
 rw [natlt]
 by_cases h:c<x
 ·simp [h]
 ·simp [h];omega
theorem toInt_c (n:Bool) (m:List UInt8):BSim Tryz.prog 30 [intA n m] [] [] (zbA (tiZ n m).1 (tiZ n m).2):=by
 have hw:=word_c m
 unfold wordA at hw
 by_cases hl:m.length≤8
 ·rw [decide_eq_true hl] at hw
  have hN:wordN m=be m:=if_pos hl
  have hS:AllOk [eWd m true]:=⟨hw.spec0 rfl,trivial⟩
  cases n with
  | true =>
   refine BSim.run hm hX0l hS.mem ok87 (by kernel_rfl) rfl 300 [] _ (ti_t m) ?_
   rw [gC_iff,hN]
   have e:=nlt_le (x:=be m) (c:=9223372036854775808)
   refine gIf_of (fun h=>?_) (fun h=>?_)
   ·have h':be m≤9223372036854775808:=of_decide_eq_true (e.symm.trans h)
    have e:tiZ true m=(IntKind.i64.wrap (IntKind.u64.wrap (Int.neg (.ofNat (be m)))),true):=by unfold tiZ;rw [if_pos hl,if_pos rfl,if_pos h']
    rw [e];exact pdec_iff.2 (zb_leaf _ _)
   ·have h':¬ be m≤9223372036854775808:=of_decide_eq_false (e.symm.trans h)
    have e:tiZ true m=(0,false):=by unfold tiZ;rw [if_pos hl,if_pos rfl,if_neg h']
    rw [e];exact pdec_iff.2 (zb_leaf _ _)
  | false =>
   refine BSim.run hm hX0l hS.mem ok87 (by kernel_rfl) rfl 300 [] _ (ti_f m) ?_
   rw [gC_iff,hN]
   have e:=nlt_le (x:=be m) (c:=9223372036854775807)
   refine gIf_of (fun h=>?_) (fun h=>?_)
   ·have h':be m≤9223372036854775807:=of_decide_eq_true (e.symm.trans h)
    have e:tiZ false m=(.ofNat (be m),true):=by unfold tiZ;rw [if_pos hl,if_neg (by decide),if_pos h']
    have e2:IntKind.i64.wrap (.ofNat (be m))=.ofNat (be m):=wrap_i64 ⟨by simp only [Int.ofNat_eq_natCast];omega,by simp only [Int.ofNat_eq_natCast];omega⟩
    rw [e,e2];exact pdec_iff.2 (zb_leaf _ _)
   ·have h':¬ be m≤9223372036854775807:=of_decide_eq_false (e.symm.trans h)
    have e:tiZ false m=(0,false):=by unfold tiZ;rw [if_pos hl,if_neg (by decide),if_neg h']
    rw [e];exact pdec_iff.2 (zb_leaf _ _)
 ·rw [decide_eq_false hl] at hw
  have e:tiZ n m=(0,false):=by unfold tiZ;rw [if_neg hl]
  rw [e]
  refine BSim.run hm hX0l (S:=[eWd m false]) (AllOk.mem ⟨hw.spec0 rfl,trivial⟩) ok87 (by kernel_rfl) rfl 300 [] _ (ti_0 n m) ?_
  rw [gC_iff]
  exact pdec_iff.2 (zb_leaf _ _)
theorem id_0 (n n':Bool) (m m':List UInt8) (z:Int) (I:AK):runF Tryz.f70 [eTI n m z false] [rtA ⟨n,m,n',m'⟩] I=gC (eTI n m z false) (I (zbA z false) []):=by kernel_rfl
theorem id_5 (n n':Bool) (m m':List UInt8) (z:Int) (I:AK):runF Tryz.f70 [eTI n m z true,eCk2 ⟨n,m,n',m'⟩ 5] [rtA ⟨n,m,n',m'⟩] I=gC (eTI n m z true) (gC (eCk2 ⟨n,m,n',m'⟩ 5) (I (zbA z false) [])):=by kernel_rfl
theorem id_z (n:Bool) (m:List UInt8) (z:Int) (I:AK):runF Tryz.f70 [eTI n m z true,eCk2 ⟨n,m,false,[]⟩ 0] [rtA ⟨n,m,false,[]⟩] I=gC (eTI n m z true) (gC (eCk2 ⟨n,m,false,[]⟩ 0) (gIf (Bool.not (ilt z 1)) (I (zbA z (Bool.not (ilt 1073741824 z))) []) (I (zbA z false) []))):=by kernel_rfl
theorem id_c' (n:Bool) (m m':List UInt8) (c:UInt8) (z:Int) (I:AK):runF Tryz.f70 [eTI n m z true,eCk2 ⟨n,m,false,c::m'⟩ 0] [rtA ⟨n,m,false,c::m'⟩] I=gC (eTI n m z true) (gC (eCk2 ⟨n,m,false,c::m'⟩ 0) (I (zbA z false) [])):=by kernel_rfl
theorem id_t (n:Bool) (m m':List UInt8) (z:Int) (I:AK):runF Tryz.f70 [eTI n m z true,eCk2 ⟨n,m,true,m'⟩ 0] [rtA ⟨n,m,true,m'⟩] I=gC (eTI n m z true) (gC (eCk2 ⟨n,m,true,m'⟩ 0) (I (zbA z false) [])):=by kernel_rfl
def ObjOk (r:Rt):Prop:=r.neg=false∧1≤be r.mag∧be r.mag≤1073741824∧r.mag.length≤8
theorem tiZ_pos {n:Bool} {m:List UInt8} {z:Int} (h:tiZ n m=(z,true)) (h1:1≤z) (h2:z≤1073741824):n=false∧1≤be m∧be m≤1073741824∧m.length≤8:=by
 unfold tiZ at h
 split at h
 ·rename_i h8
  cases n with
  | true =>
   rw [if_pos rfl] at h
   split at h
   ·rename_i hb
    have e:=(Prod.mk.inj h).1
    exfalso
    have e':IntKind.i64.wrap (IntKind.u64.wrap (-((be m:Nat):Int)))=z:=e
    simp [IntKind.wrap,IntKind.bits,IntKind.signed] at e'
    omega
   ·have:=(Prod.mk.inj h).2;cases this
  | false =>
   rw [if_neg (by decide)] at h
   split at h
   ·have e:=(Prod.mk.inj h).1
    refine ⟨rfl,?_,?_,h8⟩
    ·have:(Int.ofNat (be m))=z:=e
     simp only [Int.ofNat_eq_natCast] at this;omega
    ·have:(Int.ofNat (be m))=z:=e
     simp only [Int.ofNat_eq_natCast] at this;omega
   ·have:=(Prod.mk.inj h).2;cases this
 ·have:=(Prod.mk.inj h).2;cases this
theorem id_any (r:Rt) (hr:r.mag.length+r.dmag.length≤20):∃ (z:Int) (b:Bool),BSim Tryz.prog 70 [rtA r] [] [] (zbA z b)∧(b=true→(tiZ r.neg r.mag)=(z,true)∧ObjOk r):=by
 have hck:=check_any r hr
 obtain ⟨n,m,n',m'⟩:=r
 obtain ⟨e,he,hck⟩:=hck
 have hti:=toInt_c n m
 simp only
 generalize hz:tiZ n m=zb at hti
 obtain ⟨z,b⟩:=zb
 simp only at hti
 cases b with
 | false =>
  refine ⟨z,false,BSim.run hm hX0l (S:=[eTI n m z false]) (AllOk.mem ⟨hti.spec0 rfl,trivial⟩) ok64 (by kernel_rfl) rfl 300 [] _ (id_0 n n' m m' z) ?_,fun h=>by cases h⟩
  rw [gC_iff];exact pdec_iff.2 (zb_leaf _ _)
 | true =>
  rcases he with rfl | rfl
  ·have hS:AllOk [eTI n m z true,eCk2 ⟨n,m,n',m'⟩ 0]:=⟨hti.spec0 rfl,hck.spec0 rfl,trivial⟩
   cases n' with
   | true =>
    refine ⟨z,false,BSim.run hm hX0l hS.mem ok64 (by kernel_rfl) rfl 300 [] _ (id_t n m m' z) ?_,fun h=>by cases h⟩
    rw [gC_iff,gC_iff];exact pdec_iff.2 (zb_leaf _ _)
   | false =>
    cases m' with
    | cons c m' =>
     refine ⟨z,false,BSim.run hm hX0l hS.mem ok64 (by kernel_rfl) rfl 300 [] _ (id_c' n m m' c z) ?_,fun h=>by cases h⟩
     rw [gC_iff,gC_iff];exact pdec_iff.2 (zb_leaf _ _)
    | nil =>
     by_cases h1:Bool.not (ilt z 1)=true
     ·refine ⟨z,Bool.not (ilt 1073741824 z),BSim.run hm hX0l hS.mem ok64 (by kernel_rfl) rfl 300 [] _ (id_z n m z) ?_,fun hb=>⟨rfl,tiZ_pos hz ?_ ?_⟩⟩
      rotate_left
      ·rw [ilt_iff] at h1;simpa using h1
      ·rw [ilt_iff] at hb;simpa using hb
      rw [gC_iff,gC_iff]
      exact gIf_of (fun _=>pdec_iff.2 (zb_leaf _ _)) (fun h=>by rw [h] at h1;cases h1)
     ·refine ⟨z,false,BSim.run hm hX0l hS.mem ok64 (by kernel_rfl) rfl 300 [] _ (id_z n m z) ?_,fun h=>by cases h⟩
      rw [gC_iff,gC_iff]
      exact gIf_of (fun h=>absurd h h1) (fun _=>pdec_iff.2 (zb_leaf _ _))
  ·refine ⟨z,false,BSim.run hm hX0l (S:=[eTI n m z true,eCk2 ⟨n,m,n',m'⟩ 5]) (AllOk.mem ⟨hti.spec0 rfl,hck.spec0 rfl,trivial⟩) ok64 (by kernel_rfl) rfl 300 [] _ (id_5 n n' m m' z) ?_,fun h=>by cases h⟩
   rw [gC_iff,gC_iff];exact pdec_iff.2 (zb_leaf _ _)
end
end Go.Proofs.YtodjhpjcgggamaaGreatDoor

namespace Go.Proofs.YtodjhpjcgggamaaGreatDoor
open Go Go.Eng Go.Vi Go.Knuth
noncomputable section
local instance : Go.Eng.Mode := Sy
theorem ok49:FnOk Tryz.prog 95 Tryz.f95:=⟨Tryz.func95,by kernel_rfl,by kernel_rfl⟩
theorem ok67:FnOk Tryz.prog 94 Tryz.f94:=⟨Tryz.func94,by kernel_rfl,by kernel_rfl⟩
theorem ok68:FnOk Tryz.prog 96 Tryz.f96:=⟨Tryz.func96,by kernel_rfl,by kernel_rfl⟩
def eIL (x:Int) (b:Bool):FuncId × SEnt:=(94,⟨[.int .u8 x],[],.bool b⟩)
def eID (x:Int) (b:Bool):FuncId × SEnt:=(96,⟨[.int .u8 x],[],.bool b⟩)
def eIW (s:List UInt8) (b:Bool):FuncId × SEnt:=(95,⟨[strA s],[],.bool b⟩)
def bt (s:List UInt8) (i:Nat):Int:=.ofNat (Nat.mod (Nat.div (enc s) (Nat.pow 256 i)) 256)
theorem b_leaf (b:Bool) {π:List Nat} {bs:List (Option Blk)}:Leaf 0 π [] (.bool b) (.bool b) bs:=Leaf.flat fun _ _=>.plain (.bool b)
theorem gIf_any {c x y:Bool} (hx:x=true) (hy:y=true):gIf c x y=true:=gIf_of (fun _=>hx) (fun _=>hy)
def BPr (v:AV):Prop:=∃ b:Bool,v=.bool b
theorem bEx {π:List Nat} {bs:List (Option Blk)} (b:Bool):pdec (∃ ans,BPr ans∧Leaf 0 π [] ans (.bool b) bs)=true:=pdec_iff.2 ⟨_,⟨b,rfl⟩,b_leaf b⟩
theorem il_run (x:Int) (I:AK):runF Tryz.f94 [] [.int .u8 x] I=gIf (Bool.not (ilt x 65)) (gIf (Bool.not (ilt 90 x)) (I (.bool true) []) (gIf (Bool.not (ilt x 97)) (I (.bool (Bool.not (ilt 122 x))) []) (I (.bool false) [])))
 (gIf (Bool.not (ilt x 97)) (I (.bool (Bool.not (ilt 122 x))) []) (I (.bool false) [])):=by kernel_rfl
theorem id_run (x:Int) (I:AK):runF Tryz.f96 [] [.int .u8 x] I=gIf (Bool.not (ilt x 48)) (I (.bool (Bool.not (ilt 57 x))) []) (I (.bool false) []):=by kernel_rfl
theorem isLetter_any (x:Int):∃ b:Bool,BSim Tryz.prog 94 [.int .u8 x] [] [] (.bool b):=by
 obtain ⟨_,⟨b,rfl⟩,h⟩:=BSim.runEx hm hX0 (S:=[]) (fun _ h=>by cases h) ok67 (by kernel_rfl) rfl 300 [] (Pr:=BPr) _ (il_run x) (gIf_any (gIf_any (bEx _) (gIf_any (bEx _) (bEx _))) (gIf_any (bEx _) (bEx _)))
 exact ⟨b,h⟩
theorem isDigit_any (x:Int):∃ b:Bool,BSim Tryz.prog 96 [.int .u8 x] [] [] (.bool b):=by
 obtain ⟨_,⟨b,rfl⟩,h⟩:=BSim.runEx hm hX0 (S:=[]) (fun _ h=>by cases h) ok68 (by kernel_rfl) rfl 300 [] (Pr:=BPr) _ (id_run x) (gIf_any (bEx _) (bEx _))
 exact ⟨b,h⟩
def c65:Code:=codeOf Tryz.f72
def body65:Code:=bodyOf (bodyOf (rhs (lhs (post 1 c65))))
def c49:Code:=codeOf Tryz.f95
def body49:Code:=bodyOf (bodyOf (rhs (lhs (post 1 c49))))
def siS (s:List UInt8) (i:Nat):List (Nat × AV):=[(0,strA s),(5,.int .i64 (.ofNat s.length)),(6,.int .i64 (.ofNat i))]
def run65 (s:List UInt8) (i:Nat) (I:IK):Bool:=Eng.exec Tryz.prog X0 [] 300 Tryz.f72.ntmps body65 (mkFr (siS s i)) (mkMem []) (fun o fr' M'=>I o (lv [0,5,6,2] fr') (mv [] M'))
def rt65 (s:List UInt8) (i:Nat) (I:IK):Bool:=I .ret [some (strA s),some (.int .i64 (.ofNat s.length)),some (.int .i64 (.ofNat i)),some (.bool false)] []
def nx65 (s:List UInt8) (i:Nat) (I:IK):Bool:=gB (inI64 (Int.add (.ofNat i) 1)) (I .normal [some (strA s),some (.int .i64 (.ofNat s.length)),some (.int .i64 (Int.add (.ofNat i) 1)),none] [])
def ex65 (s:List UInt8) (i:Nat) (I:IK):Bool:=I (.exit 0) [some (strA s),some (.int .i64 (.ofNat s.length)),some (.int .i64 (.ofNat i)),none] []
theorem z_run (s:List UInt8) (i:Nat) (I:IK):run65 s i I=gIf (ilt (.ofNat i) (.ofNat s.length)) (gB (Nat.blt i s.length) (gIf (ilt (bt s i) 32) (rt65 s i I) (gB (Nat.blt i s.length) (gIf (ilt 126 (bt s i)) (rt65 s i I) (nx65 s i I))))) (ex65 s i I):=by kernel_rfl
def run49 (S:List (FuncId × SEnt)) (s:List UInt8) (i:Nat) (I:IK):Bool:=Eng.exec Tryz.prog X0 S 300 Tryz.f95.ntmps body49 (mkFr (siS s i)) (mkMem []) (fun o fr' M'=>I o (lv [0,5,6,2] fr') (mv [] M'))
theorem w_run1 (s:List UInt8) (i:Nat) (I:IK):run49 [eIL (bt s i) true] s i I=gIf (ilt (.ofNat i) (.ofNat s.length)) (gB (Nat.blt i s.length) (gC (eIL (bt s i) true) (nx65 s i I))) (ex65 s i I):=by kernel_rfl
theorem w_run2 (s:List UInt8) (I:IK):run49 [eIL (bt s 0) false] s 0 I=gIf (ilt (.ofNat 0) (.ofNat s.length)) (gB (Nat.blt 0 s.length) (gC (eIL (bt s 0) false) (rt65 s 0 I))) (ex65 s 0 I):=by kernel_rfl
theorem w_run3 (s:List UInt8) (i:Nat) (I:IK):run49 [eIL (bt s (i+1)) false,eID (bt s (i+1)) true] s (i+1) I=gIf (ilt (.ofNat (i+1)) (.ofNat s.length)) (gB (Nat.blt (i+1) s.length) (gC (eIL (bt s (i+1)) false) (gB (Nat.blt (i+1) s.length) (gC (eID (bt s (i+1)) true) (nx65 s (i+1) I))))) (ex65 s (i+1) I):=by kernel_rfl
theorem w_run4 (s:List UInt8) (i:Nat) (I:IK):run49 [eIL (bt s (i+1)) false,eID (bt s (i+1)) false] s (i+1) I=gIf (ilt (.ofNat (i+1)) (.ofNat s.length)) (gB (Nat.blt (i+1) s.length) (gC (eIL (bt s (i+1)) false) (gB (Nat.blt (i+1) s.length) (gC (eID (bt s (i+1)) false) (gB (Nat.blt (i+1) s.length) (gIf (Bool.not (ieq (bt s (i+1)) 95)) (rt65 s (i+1) I) (nx65 s (i+1) I))))))) (ex65 s (i+1) I):=by kernel_rfl
theorem z_end (s:List UInt8) (I:IK):xE [] 300 Tryz.f72.ntmps (post 2 c65) [(0,strA s)] [] [2] [] I=gIf (Bool.not (ilt (.ofNat s.length) 1)) (I .ret [some (.bool (Bool.not (ilt 40 (.ofNat s.length))))] []) (I .ret [some (.bool false)] []):=by kernel_rfl
theorem w_end (s:List UInt8) (I:IK):xE [] 300 Tryz.f95.ntmps (post 2 c49) [(0,strA s)] [] [2] [] I=I .ret [some (.bool (Bool.not (seqA s.length (enc s) 0 0)))] []:=by kernel_rfl
theorem z_start (s:List UInt8) (I:IK):xN [] 300 Tryz.f72.ntmps 1 c65 (argSlots [strA s] 0) (rowsOf []) [0] [] I=I .normal [some (strA s)] []:=by kernel_rfl
theorem z_r1 (s:List UInt8) (I:IK):xE [] 300 Tryz.f72.ntmps (lhs (lhs (post 1 c65))) [(0,strA s)] [] [0,5,6] [] I=I .normal [some (strA s),some (.int .i64 (.ofNat s.length)),some (.int .i64 (.ofNat 0))] []:=by kernel_rfl
theorem w_start (s:List UInt8) (I:IK):xN [] 300 Tryz.f95.ntmps 1 c49 (argSlots [strA s] 0) (rowsOf []) [0] [] I=I .normal [some (strA s)] []:=by kernel_rfl
theorem w_r1 (s:List UInt8) (I:IK):xE [] 300 Tryz.f95.ntmps (lhs (lhs (post 1 c49))) [(0,strA s)] [] [0,5,6] [] I=I .normal [some (strA s),some (.int .i64 (.ofNat s.length)),some (.int .i64 (.ofNat 0))] []:=by kernel_rfl
theorem z_blk:rhs (lhs (post 1 c65))=.block 0 (.loop body65):=by kernel_rfl
theorem w_blk:rhs (lhs (post 1 c49))=.block 0 (.loop body49):=by kernel_rfl
theorem res65:Tryz.f72.results.toList=[.tmp 2]:=by kernel_rfl
theorem res49:Tryz.f95.results.toList=[.tmp 2]:=by kernel_rfl
theorem fin_one {fn:Func} {a:Nat} (hres:fn.results.toList=[.tmp a]) {k:Nat} {rows1:List (List Dat)} {Pr:AV→Prop} {fr:Fr} {M:Mem} {x:AV} (hl:fr.get a=some x)
  (h:∃ ans,Pr ans∧FzA k M x ans∧∀ (j:Nat) (r:List Dat),rows1[j]? = some r→∃ c sz,M.t.get j=some (.row c false sz)∧FzDs k M c r):FinEx Tryz.prog fn k rows1 Pr .ret fr M:=by
 obtain ⟨ans,hp,hf,hr⟩:=h
 refine ⟨ans,hp,.inr rfl,[x],?_,hf,hr⟩
 rw [hres]
 show getT fr a (fun v=>pdec ([v]=[x]))=true
 rw [getT_iff]
 exact ⟨x,hl,pdec_iff.2 rfl⟩
theorem fin_bool {fn:Func} {a:Nat} (hres:fn.results.toList=[.tmp a]) {fr:Fr} {M:Mem} {b:Bool} (hl:fr.get a=some (.bool b)):FinEx Tryz.prog fn 0 [] BPr .ret fr M :=
 fin_one hres hl ⟨.bool b,⟨b,rfl⟩,.plain (.bool b),fun j r hj=>by simp at hj⟩
theorem lt_t {i n:Nat} (h:ilt (.ofNat i) (.ofNat n)=true):i<n:=by rw [natlt] at h;exact of_decide_eq_true h
theorem str_loop {f:Func} {body rest:Code} {s:List UInt8} (hres:f.results.toList=[.tmp 2])
  (hround:∀ i Q,(∀ fr M,fr.get 2=some (.bool false)→Q .ret fr M)→(∀ fr M,lv [0,5,6] fr=vls (siS s (i+1))→i<s.length→Q .normal fr M)→(∀ fr M,lv [0,5,6] fr=vls (siS s i)→Q (.exit 0) fr M)→W Tryz.prog f.ntmps 0 body (mkFr (siS s i)) (mkMem []) Q)
  (hrest:∀ fr M,fr.get 0=some (strA s)→W Tryz.prog f.ntmps 0 rest fr M (FinEx Tryz.prog f 0 [] BPr)) {fr:Fr} {M:Mem} (hl:lv [0,5,6] fr=vls (siS s 0)) :
  W Tryz.prog f.ntmps 0 (.block 0 (.loop body)) fr M (Nxt Tryz.prog f.ntmps 0 rest (FinEx Tryz.prog f 0 [] BPr)):=by
 refine W.block (W.loopF (σ:={ i:Nat // i≤s.length }) (fun i=>siS s i.1) (fun i=>s.length-i.1) (fun i x hx=>?_) (fun i=>?_) ⟨0,Nat.zero_le _⟩ hl)
 ·simp only [vals2,siS,List.map_cons,List.map_nil,List.mem_cons,List.not_mem_nil,or_false] at hx
  rcases hx with rfl | rfl | rfl
  ·exact Option.some_ne_none (strA s)
  ·exact Option.some_ne_none (AV.int .i64 _)
  ·exact Option.some_ne_none (AV.int .i64 _)
 ·obtain ⟨i,hi⟩:=i
  refine hround i _ (fun fr M h=>.inr ⟨by simp,fin_bool hres h⟩) (fun fr M h hlt=>.inl ⟨rfl,⟨i+1,hlt⟩,by simp only;omega,h⟩) (fun fr M h=>.inr ⟨by simp,Blkd_eq ?_⟩)
  have h':[fr.get 0,fr.get 5,fr.get 6]=[some (strA s),some (.int .i64 (.ofNat s.length)),some (.int .i64 (.ofNat i))]:=h
  simp only [List.cons.injEq] at h'
  exact hrest fr M h'.1
theorem rt_of {s:List UInt8} {i:Nat} {Q:AE→Fr→Mem→Prop} (h:∀ fr M,fr.get 2=some (.bool false)→Q .ret fr M):rt65 s i (fun o vs bs=>pdec (∀ fr' M',lv [0,5,6,2] fr'=vs→mv [] M'=bs→Q o fr' M'))=true:=by
 refine pdec_iff.2 fun fr M hl _=>h fr M ?_
 have h':[fr.get 0,fr.get 5,fr.get 6,fr.get 2]=_:=hl
 simp only [List.cons.injEq] at h'
 exact h'.2.2.2.1
theorem nx_of {s:List UInt8} {i:Nat} (hi:i<4611686018427387904) {Q:AE→Fr→Mem→Prop} (h:∀ fr M,lv [0,5,6] fr=vls (siS s (i+1))→Q .normal fr M):nx65 s i (fun o vs bs=>pdec (∀ fr' M',lv [0,5,6,2] fr'=vs→mv [] M'=bs→Q o fr' M'))=true:=by
 unfold nx65
 rw [gB_iff]
 refine ⟨i64ok (by show -9223372036854775808≤(i:Int)+1;omega) (by show (i:Int)+1<_;omega),pdec_iff.2 fun fr M hl _=>h fr M ?_⟩
 have h':[fr.get 0,fr.get 5,fr.get 6,fr.get 2]=_:=hl
 simp only [List.cons.injEq] at h'
 show [fr.get 0,fr.get 5,fr.get 6]=_
 rw [h'.1,h'.2.1,h'.2.2.1]
 rfl
theorem ex_of {s:List UInt8} {i:Nat} {Q:AE→Fr→Mem→Prop} (h:∀ fr M,lv [0,5,6] fr=vls (siS s i)→Q (.exit 0) fr M):ex65 s i (fun o vs bs=>pdec (∀ fr' M',lv [0,5,6,2] fr'=vs→mv [] M'=bs→Q o fr' M'))=true:=by
 refine pdec_iff.2 fun fr M hl _=>h fr M ?_
 have h':[fr.get 0,fr.get 5,fr.get 6,fr.get 2]=_:=hl
 simp only [List.cons.injEq] at h'
 show [fr.get 0,fr.get 5,fr.get 6]=_
 rw [h'.1,h'.2.1,h'.2.2.1]
 rfl
theorem one_of {a:Nat} {fr:Fr} {x:Option AV} (h:lv [a] fr=[x]):fr.get a=x:=by
 have h':[fr.get a]=[x]:=h
 exact (List.cons.inj h').1
theorem blt_t {i n:Nat} (h:i<n):Nat.blt i n=true:=by rw [Nat.blt_eq];exact h
theorem isZone_any (s:List UInt8) (hs:s.length<4611686018427387904):∃ b:Bool,BSim Tryz.prog 72 [strA s] [] [] (.bool b):=by
 suffices h:∃ ans,BPr ans∧BSim Tryz.prog 72 [strA s] [] [] ans by obtain ⟨_,⟨b,rfl⟩,h⟩:=h;exact ⟨b,h⟩
 refine BSim.of_WEx ok65 (by kernel_rfl) rfl ?_
 refine W.runN hm hX0 (S:=[]) (fun _ h=>by cases h) 300 1 [0] [] _ (z_start s) (pdec_iff.2 fun fr1 M1 hl1 hm1=>?_)
 show W Tryz.prog Tryz.f72.ntmps 0 (post 1 c65) fr1 M1 _
 refine W.next0 (vs:=[strA s]) (bs:=[]) (π:=[]) hl1 hm1 [(0,strA s)] [] rfl rfl rfl (by rfl) ?_
 refine W.parts (by kernel_rfl) (W.parts (by kernel_rfl) ?_)
 refine W.run hm hX0 (S:=[]) (fun _ h=>by cases h) 300 _ [] _ (z_r1 s) (pdec_iff.2 fun fr2 M2 hl2 hm2=>?_)
 show W Tryz.prog Tryz.f72.ntmps 0 (rhs (lhs (post 1 c65))) fr2 M2 _
 rw [z_blk]
 refine str_loop res65 (rest:=rhs (post 1 c65)) (fun i Q h1 h2 h3=>?_) (fun fr M h0=>?_) hl2
 ·refine W.run hm hX0 (S:=[]) (fun _ h=>by cases h) 300 [0,5,6,2] [] _ (z_run s i) ?_
  refine gIf_of (fun hi=>?_) (fun _=>ex_of h3)
  have hi:=lt_t hi
  rw [gB_iff]
  refine ⟨blt_t hi,gIf_any (rt_of h1) ?_⟩
  rw [gB_iff]
  exact ⟨blt_t hi,gIf_any (rt_of h1) (nx_of (by omega) fun fr M h=>h2 fr M h hi)⟩
 ·refine W.next0 (ts:=[0]) (vs:=[strA s]) (bs:=[]) (π:=[]) (by show [fr.get 0]=_;rw [h0];rfl) rfl [(0,strA s)] [] rfl rfl rfl (by rfl) ?_
  exact W.run hm hX0 (S:=[]) (fun _ h=>by cases h) 300 [2] [] _ (z_end s) (gIf_any (pdec_iff.2 fun fr M hl _=>fin_bool res65 (one_of hl)) (pdec_iff.2 fun fr M hl _=>fin_bool res65 (one_of hl)))
theorem isWord_any (s:List UInt8) (hs:s.length<4611686018427387904):∃ b:Bool,BSim Tryz.prog 95 [strA s] [] [] (.bool b):=by
 suffices h:∃ ans,BPr ans∧BSim Tryz.prog 95 [strA s] [] [] ans by obtain ⟨_,⟨b,rfl⟩,h⟩:=h;exact ⟨b,h⟩
 refine BSim.of_WEx ok49 (by kernel_rfl) rfl ?_
 refine W.runN hm hX0 (S:=[]) (fun _ h=>by cases h) 300 1 [0] [] _ (w_start s) (pdec_iff.2 fun fr1 M1 hl1 hm1=>?_)
 show W Tryz.prog Tryz.f95.ntmps 0 (post 1 c49) fr1 M1 _
 refine W.next0 (vs:=[strA s]) (bs:=[]) (π:=[]) hl1 hm1 [(0,strA s)] [] rfl rfl rfl (by rfl) ?_
 refine W.parts (by kernel_rfl) (W.parts (by kernel_rfl) ?_)
 refine W.run hm hX0 (S:=[]) (fun _ h=>by cases h) 300 _ [] _ (w_r1 s) (pdec_iff.2 fun fr2 M2 hl2 hm2=>?_)
 show W Tryz.prog Tryz.f95.ntmps 0 (rhs (lhs (post 1 c49))) fr2 M2 _
 rw [w_blk]
 refine str_loop res49 (rest:=rhs (post 1 c49)) (fun i Q h1 h2 h3=>?_) (fun fr M h0=>?_) hl2
 ·obtain ⟨b,hb⟩:=isLetter_any (bt s i)
  cases b with
  | true =>
   refine W.run hm hX0 (S:=[eIL (bt s i) true]) (AllOk.mem ⟨hb.spec0 rfl,trivial⟩) 300 [0,5,6,2] [] _ (w_run1 s i) ?_
   refine gIf_of (fun hi=>?_) (fun _=>ex_of h3)
   have hi:=lt_t hi
   rw [gB_iff,gC_iff]
   exact ⟨blt_t hi,nx_of (by omega) fun fr M h=>h2 fr M h hi⟩
  | false =>
   cases i with
   | zero =>
    refine W.run hm hX0 (S:=[eIL (bt s 0) false]) (AllOk.mem ⟨hb.spec0 rfl,trivial⟩) 300 [0,5,6,2] [] _ (w_run2 s) ?_
    refine gIf_of (fun hi=>?_) (fun _=>ex_of h3)
    have hi:=lt_t hi
    rw [gB_iff,gC_iff]
    exact ⟨blt_t hi,rt_of h1⟩
   | succ i =>
    obtain ⟨b',hb'⟩:=isDigit_any (bt s (i+1))
    cases b' with
    | true =>
     refine W.run hm hX0 (S:=[eIL (bt s (i+1)) false,eID (bt s (i+1)) true]) (AllOk.mem ⟨hb.spec0 rfl,hb'.spec0 rfl,trivial⟩) 300 [0,5,6,2] [] _ (w_run3 s i) ?_
     refine gIf_of (fun hi=>?_) (fun _=>ex_of h3)
     have hi:=lt_t hi
     simp only [gB_iff,gC_iff]
     exact ⟨blt_t hi,blt_t hi,nx_of (by omega) fun fr M h=>h2 fr M h hi⟩
    | false =>
     refine W.run hm hX0 (S:=[eIL (bt s (i+1)) false,eID (bt s (i+1)) false]) (AllOk.mem ⟨hb.spec0 rfl,hb'.spec0 rfl,trivial⟩) 300 [0,5,6,2] [] _ (w_run4 s i) ?_
     refine gIf_of (fun hi=>?_) (fun _=>ex_of h3)
     have hi:=lt_t hi
     simp only [gB_iff,gC_iff]
     exact ⟨blt_t hi,blt_t hi,blt_t hi,gIf_any (rt_of h1) (nx_of (by omega) fun fr M h=>h2 fr M h hi)⟩
 ·refine W.next0 (ts:=[0]) (vs:=[strA s]) (bs:=[]) (π:=[]) (by show [fr.get 0]=_;rw [h0];rfl) rfl [(0,strA s)] [] rfl rfl rfl (by rfl) ?_
  exact W.run hm hX0 (S:=[]) (fun _ h=>by cases h) 300 [2] [] _ (w_end s) (pdec_iff.2 fun fr M hl _=>fin_bool res49 (one_of hl))
def wordL:List (List UInt8):=[[118,97,108,117,101],[111,98,106,101,99,116,115],[119,104,101,114,101],[112,97,105,114,115],[112,111,105,110,116],[111,98,106,101,99,116],[122,111,110,101],[111,114],[97,110,100],[110,111,116],[60],[61],[43],[45],[124],[92],[42],[38],[100,117,114,105,110,103],[119,104,101,110],[100,101,102,105,110,101,100],[100,105,115,116,97,110,99,101,50],[115,112,101,101,100,50],[119,105,116,104,105,110],[105,110,115,105,100,101],[97,114,101,97,50],[115,111,109,101,116,105,109,101],[97,108,119,97,121,115],[108,97,115,116,105,110,103],[115,104,105,102,116],[108,101,97,115,116]]
def chT (l c:Nat) (I:AK) (ws:List (List UInt8)):Bool:=List.rec (motive:=fun _=>Bool) (I (.bool true) []) (fun w _ ih=>gIf (seqA l c (lenL w) (enc w)) (I (.bool false) []) ih) ws
theorem n_run0 (s:List UInt8) (I:AK):runF Tryz.f71 [eIW s false] [strA s] I=gIf (Bool.not (ilt 40 (.ofNat s.length))) (gC (eIW s false) (I (.bool false) [])) (I (.bool false) []):=by kernel_rfl
theorem n_run1 (s:List UInt8) (I:AK):runF Tryz.f71 [eIW s true] [strA s] I=gIf (Bool.not (ilt 40 (.ofNat s.length))) (gC (eIW s true) (chT s.length (enc s) I wordL)) (I (.bool false) []):=by kernel_rfl
theorem chT_of {l c:Nat} {I:AK} (h:∀ b,I (.bool b) []=true):∀ ws,chT l c I ws=true
 | []=>h true
 | _::ws=>gIf_any (h false) (chT_of h ws)
theorem isName_any (s:List UInt8) (hs:s.length<4611686018427387904):∃ b:Bool,BSim Tryz.prog 71 [strA s] [] [] (.bool b):=by
 obtain ⟨b,hb⟩:=isWord_any s hs
 suffices h:∃ ans,BPr ans∧BSim Tryz.prog 71 [strA s] [] [] ans by obtain ⟨_,⟨b,rfl⟩,h⟩:=h;exact ⟨b,h⟩
 cases b with
 | false =>
  refine BSim.runEx hm hX0 (S:=[eIW s false]) (AllOk.mem ⟨hb.spec0 rfl,trivial⟩) ok28 (by kernel_rfl) rfl 300 [] _ (n_run0 s) (gIf_any ?_ (bEx _))
  rw [gC_iff];exact bEx _
 | true =>
  refine BSim.runEx hm hX0 (S:=[eIW s true]) (AllOk.mem ⟨hb.spec0 rfl,trivial⟩) ok28 (by kernel_rfl) rfl 300 [] _ (n_run1 s) (gIf_any ?_ (bEx _))
  rw [gC_iff];exact chT_of (fun b=>bEx b) _
end
end Go.Proofs.YtodjhpjcgggamaaGreatDoor

namespace Go.Proofs.YtodjhpjcgggamaaGreatDoor
open Go Go.Eng Go.Vi Go.Knuth
noncomputable section
local instance : Go.Eng.Mode := Sy
def eCnt (o n:Int):FuncId × SEnt:=(68,⟨[.int .i64 o],[],.int .i64 n⟩)
def eIdz (r:Rt) (z:Int) (b:Bool):FuncId × SEnt:=(70,⟨[rtA r],[],zbA z b⟩)
def eNm (s:List UInt8) (b:Bool):FuncId × SEnt:=(71,⟨[strA s],[],.bool b⟩)
def eZn (s:List UInt8) (b:Bool):FuncId × SEnt:=(72,⟨[strA s],[],.bool b⟩)
def ckN (S:List (FuncId × SEnt)) (x:Ex) (I:AK):Bool:=runF Tryz.f48 S [exA x] I
def cntC (o:Int) (I:Int→Bool) (l:List (Int × Int)):Bool:=List.rec (motive:=fun _=>Bool) (I (-1)) (fun p _ ih=>gIf (ieq p.1 o) (I p.2) ih) l
def cntL:List (Int × Int):=[(10,1),(11,1),(13,2),(14,1),(15,3),(16,2),(17,1),(26,1),(27,1),(28,2),(29,2),(30,2),(24,2),(23,2),(25,2),(21,2),(22,2),(18,2),(19,2),(7,2),(9,2),(20,2),(8,2),(12,2)]
def cnt2 (o:Int) (I:Int→Bool):Bool:=gIf (ieq o 25) (I 1) (gIf (ieq o 2) (gIf (ieq o 2) (I 2) (cntC o I cntL)) (gIf (ieq o 6) (I 2) (cntC o I cntL)))
def cntT (o:Int) (I:Int→Bool):Bool:=gIf (ieq o 1) (gIf (ieq o 1) (I 0) (cnt2 o I)) (gIf (ieq o 3) (gIf (ieq o 3) (I 0) (cnt2 o I)) (gIf (ieq o 4) (gIf (ieq o 4) (I 0) (cnt2 o I)) (gIf (ieq o 5) (I 0) (cnt2 o I))))
theorem cnt_run (o:Int) (I:AK):runF Tryz.f68 [] [.int .i64 o] I=cntT o (fun n=>I (.int .i64 n) []):=by kernel_rfl
theorem ieqf {a b:Int} (h:a≠b):ieq a b=false:=by rw [ieq_iff];simpa using h
theorem cntC_of {o:Int} {I:Int→Bool} (h:I (-1)=true):∀ l:List (Int × Int),(∀ p∈l,p.1≠o)→cntC o I l=true
 | [],_=>h
 | p::l,hl=>gIf_f (ieqf (hl p (List.mem_cons_self ..))) (cntC_of h l fun q hq=>hl q (List.mem_cons_of_mem _ hq))
theorem count_bad (o:Int) (ho:¬ (1≤o∧o≤30)):BSim Tryz.prog 68 [.int .i64 o] [] [] (.int .i64 (-1)):=by
 refine BSim.run hm hX0 (S:=[]) (fun _ h=>by cases h) ok62 (by kernel_rfl) rfl 300 [] _ (cnt_run o) ?_
 have hl:pdec (Leaf 0 [] [] (.int .i64 (-1)) (.int .i64 (-1)) [])=true:=pdec_iff.2 (i0_leaf (-1))
 have hc:cntC o (fun n=>pdec (Leaf 0 [] [] (.int .i64 (-1)) (.int .i64 n) [])) cntL=true:=cntC_of hl _ (by
  intro p hp
  simp only [cntL,List.mem_cons,List.not_mem_nil,or_false] at hp
  rcases hp with rfl | rfl | rfl | rfl | rfl | rfl | rfl | rfl | rfl | rfl | rfl | rfl | rfl | rfl | rfl | rfl | rfl | rfl | rfl | rfl | rfl | rfl | rfl | rfl<;>(simp only;omega))
 exact gIf_f (ieqf (by omega)) (gIf_f (ieqf (by omega)) (gIf_f (ieqf (by omega)) (gIf_f (ieqf (by omega)) (gIf_f (ieqf (by omega)) (gIf_f (ieqf (by omega)) (gIf_f (ieqf (by omega)) hc))))))
def numZ (r:Rt) (k5 k:Bool):Bool:=gIf (Bool.rec (motive:=fun _=>Bool) (Bool.not false) false r.neg) (gIf (seqA r.mag.length (enc r.mag) 0 0) (gIf (Bool.rec (motive:=fun _=>Bool) (Bool.not false) false r.dneg) (gIf (seqA r.dmag.length (enc r.dmag) 0 0) k k5) k5) k5) k5
def nameZ (n:List UInt8) (k5 k:Bool):Bool:=gIf (Bool.not (seqA n.length (enc n) 0 0)) k5 k
def i46 (I:AK) (e:Int):Bool:=I (.int .i64 e) []
def lenZ (a:List Ex) (n:Int) (k5 k:Bool):Bool:=gIf (Bool.not (ieq (.ofNat a.length) n)) k5 k
def cnBad (o:Int) (i4:Bool):Bool:=gC (eCnt o (-1)) (gIf (ieq o 1) (gIf (ieq o 4) i4 i4) (gIf (ieq o 4) i4 i4))
theorem cn_bad (o:Int) (n:List UInt8) (r:Rt) (a:List Ex) (I:AK):ckN [eCnt o (-1)] (.mk o n r a) I=cnBad o (i46 I 4):=by kernel_rfl
def cnGen (o k:Int) (n:List UInt8) (r:Rt) (a:List Ex) (z:Int) (b:Bool) (I:AK):Bool :=
 gC (eCnt o k) (lenZ a k (i46 I 5) (numZ r (i46 I 5) (nameZ n (i46 I 5) (gC (eIdz r z b) (i46 I 0)))))
theorem cn_6 (n:List UInt8) (r:Rt) (a:List Ex) (z:Int) (b:Bool) (I:AK):ckN [eCnt 6 2,eIdz r z b] (.mk 6 n r a) I=cnGen 6 2 n r a z b I:=by kernel_rfl
theorem cn_7 (n:List UInt8) (r:Rt) (a:List Ex) (z:Int) (b:Bool) (I:AK):ckN [eCnt 7 2,eIdz r z b] (.mk 7 n r a) I=cnGen 7 2 n r a z b I:=by kernel_rfl
theorem cn_8 (n:List UInt8) (r:Rt) (a:List Ex) (z:Int) (b:Bool) (I:AK):ckN [eCnt 8 2,eIdz r z b] (.mk 8 n r a) I=cnGen 8 2 n r a z b I:=by kernel_rfl
theorem cn_9 (n:List UInt8) (r:Rt) (a:List Ex) (z:Int) (b:Bool) (I:AK):ckN [eCnt 9 2,eIdz r z b] (.mk 9 n r a) I=cnGen 9 2 n r a z b I:=by kernel_rfl
theorem cn_10 (n:List UInt8) (r:Rt) (a:List Ex) (z:Int) (b:Bool) (I:AK):ckN [eCnt 10 1,eIdz r z b] (.mk 10 n r a) I=cnGen 10 1 n r a z b I:=by kernel_rfl
theorem cn_11 (n:List UInt8) (r:Rt) (a:List Ex) (z:Int) (b:Bool) (I:AK):ckN [eCnt 11 1,eIdz r z b] (.mk 11 n r a) I=cnGen 11 1 n r a z b I:=by kernel_rfl
theorem cn_12 (n:List UInt8) (r:Rt) (a:List Ex) (z:Int) (b:Bool) (I:AK):ckN [eCnt 12 2,eIdz r z b] (.mk 12 n r a) I=cnGen 12 2 n r a z b I:=by kernel_rfl
theorem cn_13 (n:List UInt8) (r:Rt) (a:List Ex) (z:Int) (b:Bool) (I:AK):ckN [eCnt 13 2,eIdz r z b] (.mk 13 n r a) I=cnGen 13 2 n r a z b I:=by kernel_rfl
theorem cn_14 (n:List UInt8) (r:Rt) (a:List Ex) (z:Int) (b:Bool) (I:AK):ckN [eCnt 14 1,eIdz r z b] (.mk 14 n r a) I=cnGen 14 1 n r a z b I:=by kernel_rfl
theorem cn_15 (n:List UInt8) (r:Rt) (a:List Ex) (z:Int) (b:Bool) (I:AK):ckN [eCnt 15 3,eIdz r z b] (.mk 15 n r a) I=cnGen 15 3 n r a z b I:=by kernel_rfl
theorem cn_16 (n:List UInt8) (r:Rt) (a:List Ex) (z:Int) (b:Bool) (I:AK):ckN [eCnt 16 2,eIdz r z b] (.mk 16 n r a) I=cnGen 16 2 n r a z b I:=by kernel_rfl
theorem cn_17 (n:List UInt8) (r:Rt) (a:List Ex) (z:Int) (b:Bool) (I:AK):ckN [eCnt 17 1,eIdz r z b] (.mk 17 n r a) I=cnGen 17 1 n r a z b I:=by kernel_rfl
theorem cn_18 (n:List UInt8) (r:Rt) (a:List Ex) (z:Int) (b:Bool) (I:AK):ckN [eCnt 18 2,eIdz r z b] (.mk 18 n r a) I=cnGen 18 2 n r a z b I:=by kernel_rfl
theorem cn_19 (n:List UInt8) (r:Rt) (a:List Ex) (z:Int) (b:Bool) (I:AK):ckN [eCnt 19 2,eIdz r z b] (.mk 19 n r a) I=cnGen 19 2 n r a z b I:=by kernel_rfl
theorem cn_20 (n:List UInt8) (r:Rt) (a:List Ex) (z:Int) (b:Bool) (I:AK):ckN [eCnt 20 2,eIdz r z b] (.mk 20 n r a) I=cnGen 20 2 n r a z b I:=by kernel_rfl
theorem cn_21 (n:List UInt8) (r:Rt) (a:List Ex) (z:Int) (b:Bool) (I:AK):ckN [eCnt 21 2,eIdz r z b] (.mk 21 n r a) I=cnGen 21 2 n r a z b I:=by kernel_rfl
theorem cn_22 (n:List UInt8) (r:Rt) (a:List Ex) (z:Int) (b:Bool) (I:AK):ckN [eCnt 22 2,eIdz r z b] (.mk 22 n r a) I=cnGen 22 2 n r a z b I:=by kernel_rfl
theorem cn_23 (n:List UInt8) (r:Rt) (a:List Ex) (z:Int) (b:Bool) (I:AK):ckN [eCnt 23 2,eIdz r z b] (.mk 23 n r a) I=cnGen 23 2 n r a z b I:=by kernel_rfl
theorem cn_24 (n:List UInt8) (r:Rt) (a:List Ex) (z:Int) (b:Bool) (I:AK):ckN [eCnt 24 2,eIdz r z b] (.mk 24 n r a) I=cnGen 24 2 n r a z b I:=by kernel_rfl
theorem cn_25 (n:List UInt8) (r:Rt) (a:List Ex) (z:Int) (b:Bool) (I:AK):ckN [eCnt 25 1,eIdz r z b] (.mk 25 n r a) I=cnGen 25 1 n r a z b I:=by kernel_rfl
theorem cn_26 (n:List UInt8) (r:Rt) (a:List Ex) (z:Int) (b:Bool) (I:AK):ckN [eCnt 26 1,eIdz r z b] (.mk 26 n r a) I=cnGen 26 1 n r a z b I:=by kernel_rfl
theorem cn_27 (n:List UInt8) (r:Rt) (a:List Ex) (z:Int) (b:Bool) (I:AK):ckN [eCnt 27 1,eIdz r z b] (.mk 27 n r a) I=cnGen 27 1 n r a z b I:=by kernel_rfl
theorem cn_28 (n:List UInt8) (r:Rt) (a:List Ex) (z:Int) (b:Bool) (I:AK):ckN [eCnt 28 2,eIdz r z b] (.mk 28 n r a) I=cnGen 28 2 n r a z b I:=by kernel_rfl
theorem cn_29 (n:List UInt8) (r:Rt) (a:List Ex) (z:Int) (b:Bool) (I:AK):ckN [eCnt 29 2,eIdz r z b] (.mk 29 n r a) I=cnGen 29 2 n r a z b I:=by kernel_rfl
theorem cn_30 (n:List UInt8) (r:Rt) (a:List Ex) (z:Int) (b:Bool) (I:AK):ckN [eCnt 30 2,eIdz r z b] (.mk 30 n r a) I=cnGen 30 2 n r a z b I:=by kernel_rfl
theorem cn_2 (n:List UInt8) (r:Rt) (x y:Ex) (z:Int) (b:Bool) (I:AK):ckN [eCnt 2 2,eIdz r z b] (.mk 2 n r [x,y]) I =
 gC (eCnt 2 2) (numZ r (i46 I 5) (nameZ n (i46 I 5) (gIf (Bool.not (ieq x.op 1)) (i46 I 5) (gIf (Bool.not (ieq y.op 1)) (i46 I 5) (gC (eIdz r z b) (i46 I 0)))))):=by kernel_rfl
theorem cn_2_0 (n:List UInt8) (r:Rt) (I:AK):ckN [eCnt 2 2] (.mk 2 n r []) I=gC (eCnt 2 2) (i46 I 5):=by kernel_rfl
theorem cn_2_1 (n:List UInt8) (r:Rt) (x:Ex) (I:AK):ckN [eCnt 2 2] (.mk 2 n r [x]) I=gC (eCnt 2 2) (i46 I 5):=by kernel_rfl
theorem cn_2_3 (n:List UInt8) (r:Rt) (x y u:Ex) (l:List Ex) (I:AK):ckN [eCnt 2 2] (.mk 2 n r (x::y::u::l)) I=gC (eCnt 2 2) (i46 I 5):=by kernel_rfl
theorem cn_1 (n:List UInt8) (r:Rt) (a:List Ex) (z:Int) (b:Bool) (I:AK):ckN [eCnt 1 0,eCk2 r 0,eIdz r z b] (.mk 1 n r a) I =
 gC (eCnt 1 0) (lenZ a 0 (i46 I 5) (nameZ n (i46 I 5) (gC (eCk2 r 0) (gC (eIdz r z b) (i46 I 0))))):=by kernel_rfl
theorem cn_1b (n:List UInt8) (r:Rt) (a:List Ex) (I:AK):ckN [eCnt 1 0,eCk2 r 5] (.mk 1 n r a) I =
 gC (eCnt 1 0) (lenZ a 0 (i46 I 5) (nameZ n (i46 I 5) (gC (eCk2 r 5) (i46 I 5)))):=by kernel_rfl
theorem cn_3 (n:List UInt8) (r:Rt) (a:List Ex) (z:Int) (I:AK):ckN [eCnt 3 0,eIdz r z true] (.mk 3 n r a) I =
 gC (eCnt 3 0) (lenZ a 0 (i46 I 5) (nameZ n (i46 I 5) (gC (eIdz r z true) (i46 I 0)))):=by kernel_rfl
theorem cn_3b (n:List UInt8) (r:Rt) (a:List Ex) (z:Int) (I:AK):ckN [eCnt 3 0,eIdz r z false] (.mk 3 n r a) I =
 gC (eCnt 3 0) (lenZ a 0 (i46 I 5) (nameZ n (i46 I 5) (gC (eIdz r z false) (i46 I 27)))):=by kernel_rfl
theorem cn_4 (n:List UInt8) (r:Rt) (a:List Ex) (z:Int) (b:Bool) (I:AK):ckN [eCnt 4 0,eIdz r z b,eNm n true] (.mk 4 n r a) I =
 gC (eCnt 4 0) (lenZ a 0 (i46 I 5) (numZ r (i46 I 5) (gC (eIdz r z b) (gC (eNm n true) (i46 I 0))))):=by kernel_rfl
theorem cn_4b (n:List UInt8) (r:Rt) (a:List Ex) (z:Int) (b:Bool) (I:AK):ckN [eCnt 4 0,eIdz r z b,eNm n false] (.mk 4 n r a) I =
 gC (eCnt 4 0) (lenZ a 0 (i46 I 5) (numZ r (i46 I 5) (gC (eIdz r z b) (gC (eNm n false) (i46 I 34))))):=by kernel_rfl
theorem cn_5 (n:List UInt8) (r:Rt) (a:List Ex) (z:Int) (b:Bool) (I:AK):ckN [eCnt 5 0,eIdz r z b,eZn n true] (.mk 5 n r a) I =
 gC (eCnt 5 0) (lenZ a 0 (i46 I 5) (numZ r (i46 I 5) (gC (eIdz r z b) (gC (eZn n true) (i46 I 0))))):=by kernel_rfl
theorem cn_5b (n:List UInt8) (r:Rt) (a:List Ex) (z:Int) (b:Bool) (I:AK):ckN [eCnt 5 0,eIdz r z b,eZn n false] (.mk 5 n r a) I =
 gC (eCnt 5 0) (lenZ a 0 (i46 I 5) (numZ r (i46 I 5) (gC (eIdz r z b) (gC (eZn n false) (i46 I 34))))):=by kernel_rfl
end
end Go.Proofs.YtodjhpjcgggamaaGreatDoor

namespace Go.Proofs.YtodjhpjcgggamaaGreatDoor
open Go Go.Eng Go.Vi Go.Knuth
local instance : Go.Eng.Mode := Sy
theorem gIf_or (c:Bool):(∀ x y,gIf c x y=x)∨(∀ x y,gIf c x y=y):=by
 cases c with
 | true=>exact .inl fun _ _=>rfl
 | false=>exact .inr fun _ _=>rfl
theorem numZ_or (r:Rt):(∀ x y,numZ r x y=y)∨(∀ x y,numZ r x y=x):=by
 unfold numZ
 rcases gIf_or (Bool.rec (motive:=fun _=>Bool) (Bool.not false) false r.neg) with h1 | h1
 ·rcases gIf_or (seqA r.mag.length (enc r.mag) 0 0) with h2 | h2
  ·rcases gIf_or (Bool.rec (motive:=fun _=>Bool) (Bool.not false) false r.dneg) with h3 | h3
   ·rcases gIf_or (seqA r.dmag.length (enc r.dmag) 0 0) with h4 | h4
    ·exact .inl fun x y=>by rw [h1,h2,h3,h4]
    ·exact .inr fun x y=>by rw [h1,h2,h3,h4]
   ·exact .inr fun x y=>by rw [h1,h2,h3]
  ·exact .inr fun x y=>by rw [h1,h2]
 ·exact .inr fun x y=>by rw [h1]
theorem nameZ_or (n:List UInt8):(∀ x y,nameZ n x y=y)∨(∀ x y,nameZ n x y=x):=(gIf_or _).symm
theorem lenZ_or (a:List Ex) (k:Nat):(a.length=k∧∀ x y,lenZ a (.ofNat k) x y=y)∨(∀ x y,lenZ a (.ofNat k) x y=x):=by
 by_cases h:a.length=k
 ·refine .inl ⟨h,fun x y=>?_⟩
  unfold lenZ
  rw [h,ieq_self];rfl
 ·refine .inr fun x y=>?_
  unfold lenZ
  rw [ieqf (by simp only [Int.ofNat_eq_natCast,ne_eq];omega)];rfl
def Er46 (e:Int):Prop:=e=0∨e=4∨e=5∨e=27∨e=34
instance (e : Int) : Decidable (Er46 e) := by unfold Er46; infer_instance
def CkOk (x:Ex) (o k:Nat):Prop:=∃ e:Int,Er46 e∧BSim Tryz.prog 48 [exA x] [] [] (.int .i64 e)∧(e=0→x.op=.ofNat o∧x.args.length=k∧(o=3→ObjOk x.num))
theorem p46 (n:Int):pdec (Leaf 0 [] [] (.int .i64 n) (.int .i64 n) [])=true:=pdec_iff.2 (i0_leaf n)
theorem ck46 {S:List (FuncId × SEnt)} (hS:AllOk S) {x:Ex} (e:Int) {T:(AK)→Bool} (hrun:∀ I,ckN S x I=T I) (hT:∀ I:AK,i46 I e=true→T I=true):BSim Tryz.prog 48 [exA x] [] [] (.int .i64 e) :=
 BSim.run hm hX0 hS.mem ok46 (by kernel_rfl) rfl 300 [] T hrun (hT _ (p46 e))
theorem cnt_ok (o k:Nat) (h1:1≤o) (h2:o≤30) (hk:nArgs o=k):SSpec Tryz.prog (eCnt (.ofNat o) (.ofNat k)).1 (eCnt (.ofNat o) (.ofNat k)).2:=by
 subst hk;exact (count_c o h1 h2).spec0 rfl
theorem ck_gen {o k:Nat} (h1:6≤o) (h2:o≤30) (hk:nArgs o=k) {n:List UInt8} {r:Rt} {a:List Ex} (hr:r.mag.length+r.dmag.length≤20)
  (hrun:∀ (z:Int) (b:Bool) (I:AK),ckN [eCnt (.ofNat o) (.ofNat k),eIdz r z b] (.mk (.ofNat o) n r a) I=cnGen (.ofNat o) (.ofNat k) n r a z b I):CkOk (.mk (.ofNat o) n r a) o k:=by
 obtain ⟨z,b,hid,_⟩:=id_any r hr
 have hS:AllOk [eCnt (.ofNat o) (.ofNat k),eIdz r z b]:=⟨cnt_ok o k (by omega) h2 hk,hid.spec0 rfl,trivial⟩
 rcases lenZ_or a k with ⟨hl,hL⟩ | hL
 ·rcases numZ_or r with hN | hN
  ·rcases nameZ_or n with hM | hM
   ·exact ⟨0,by decide,ck46 hS 0 (hrun z b) (fun I hI=>by unfold cnGen;rw [gC_iff,hL,hN,hM,gC_iff];exact hI),fun _=>⟨rfl,hl,fun h=>absurd h (by omega)⟩⟩
   ·exact ⟨5,by decide,ck46 hS 5 (hrun z b) (fun I hI=>by unfold cnGen;rw [gC_iff,hL,hN,hM];exact hI),fun h=>by cases h⟩
  ·exact ⟨5,by decide,ck46 hS 5 (hrun z b) (fun I hI=>by unfold cnGen;rw [gC_iff,hL,hN];exact hI),fun h=>by cases h⟩
 ·exact ⟨5,by decide,ck46 hS 5 (hrun z b) (fun I hI=>by unfold cnGen;rw [gC_iff,hL];exact hI),fun h=>by cases h⟩
theorem ck_1 (n:List UInt8) (r:Rt) (a:List Ex) (hr:r.mag.length+r.dmag.length≤20):CkOk (.mk (.ofNat 1) n r a) 1 0:=by
 obtain ⟨z,b,hid,_⟩:=id_any r hr
 obtain ⟨e,he,hck⟩:=check_any r hr
 have hc:=cnt_ok 1 0 (by omega) (by omega) rfl
 rcases he with rfl | rfl
 ·have hS:AllOk [eCnt 1 0,eCk2 r 0,eIdz r z b]:=⟨hc,hck.spec0 rfl,hid.spec0 rfl,trivial⟩
  rcases lenZ_or a 0 with ⟨hl,hL⟩ | hL
  ·rcases nameZ_or n with hM | hM
   ·exact ⟨0,by decide,ck46 hS 0 (cn_1 n r a z b) (fun I hI=>by rw [gC_iff];refine (hL _ _).trans ?_;rw [hM,gC_iff,gC_iff];exact hI),fun _=>⟨rfl,hl,fun h=>absurd h (by omega)⟩⟩
   ·exact ⟨5,by decide,ck46 hS 5 (cn_1 n r a z b) (fun I hI=>by rw [gC_iff];refine (hL _ _).trans ?_;rw [hM];exact hI),fun h=>by cases h⟩
  ·exact ⟨5,by decide,ck46 hS 5 (cn_1 n r a z b) (fun I hI=>by rw [gC_iff];exact (hL _ _).trans hI),fun h=>by cases h⟩
 ·have hS:AllOk [eCnt 1 0,eCk2 r 5]:=⟨hc,hck.spec0 rfl,trivial⟩
  refine ⟨5,by decide,ck46 hS 5 (cn_1b n r a) (fun I hI=>?_),fun h=>by cases h⟩
  rw [gC_iff]
  rcases lenZ_or a 0 with ⟨hl,hL⟩ | hL
  ·refine (hL _ _).trans ?_
   rcases nameZ_or n with hM | hM
   ·rw [hM,gC_iff];exact hI
   ·rw [hM];exact hI
  ·exact (hL _ _).trans hI
theorem ck_2 (n:List UInt8) (r:Rt) (a:List Ex) (hr:r.mag.length+r.dmag.length≤20):CkOk (.mk (.ofNat 2) n r a) 2 2:=by
 obtain ⟨z,b,hid,_⟩:=id_any r hr
 have hc:=cnt_ok 2 2 (by omega) (by omega) rfl
 have hS2:AllOk [eCnt 2 2]:=⟨hc,trivial⟩
 have h5:∀ {a:List Ex},(∀ I,ckN [eCnt 2 2] (.mk 2 n r a) I=gC (eCnt 2 2) (i46 I 5))→CkOk (.mk (.ofNat 2) n r a) 2 2:=fun hrun =>
  ⟨5,by decide,ck46 hS2 5 hrun (fun I hI=>by rw [gC_iff];exact hI),fun h=>by cases h⟩
 match a with
 | []=>exact h5 (cn_2_0 n r)
 | [x]=>exact h5 (cn_2_1 n r x)
 | x::y::u::l=>exact h5 (cn_2_3 n r x y u l)
 | [x,y] =>
  have hS:AllOk [eCnt 2 2,eIdz r z b]:=⟨hc,hid.spec0 rfl,trivial⟩
  rcases numZ_or r with hN | hN
  ·rcases nameZ_or n with hM | hM
   ·rcases gIf_or (Bool.not (ieq x.op 1)) with h1 | h1
    ·exact ⟨5,by decide,ck46 hS 5 (cn_2 n r x y z b) (fun I hI=>by rw [gC_iff,hN,hM,h1];exact hI),fun h=>by cases h⟩
    ·rcases gIf_or (Bool.not (ieq y.op 1)) with h2 | h2
     ·exact ⟨5,by decide,ck46 hS 5 (cn_2 n r x y z b) (fun I hI=>by rw [gC_iff,hN,hM,h1,h2];exact hI),fun h=>by cases h⟩
     ·exact ⟨0,by decide,ck46 hS 0 (cn_2 n r x y z b) (fun I hI=>by rw [gC_iff,hN,hM,h1,h2,gC_iff];exact hI),fun _=>⟨rfl,rfl,fun h=>absurd h (by omega)⟩⟩
   ·exact ⟨5,by decide,ck46 hS 5 (cn_2 n r x y z b) (fun I hI=>by rw [gC_iff,hN,hM];exact hI),fun h=>by cases h⟩
  ·exact ⟨5,by decide,ck46 hS 5 (cn_2 n r x y z b) (fun I hI=>by rw [gC_iff,hN];exact hI),fun h=>by cases h⟩
theorem ck_3 (n:List UInt8) (r:Rt) (a:List Ex) (hr:r.mag.length+r.dmag.length≤20):CkOk (.mk (.ofNat 3) n r a) 3 0:=by
 obtain ⟨z,b,hid,hob⟩:=id_any r hr
 have hc:=cnt_ok 3 0 (by omega) (by omega) rfl
 cases b with
 | true =>
  have hS:AllOk [eCnt 3 0,eIdz r z true]:=⟨hc,hid.spec0 rfl,trivial⟩
  rcases lenZ_or a 0 with ⟨hl,hL⟩ | hL
  ·rcases nameZ_or n with hM | hM
   ·exact ⟨0,by decide,ck46 hS 0 (cn_3 n r a z) (fun I hI=>by rw [gC_iff];refine (hL _ _).trans ?_;rw [hM,gC_iff];exact hI),fun _=>⟨rfl,hl,fun _=>(hob rfl).2⟩⟩
   ·exact ⟨5,by decide,ck46 hS 5 (cn_3 n r a z) (fun I hI=>by rw [gC_iff];refine (hL _ _).trans ?_;rw [hM];exact hI),fun h=>by cases h⟩
  ·exact ⟨5,by decide,ck46 hS 5 (cn_3 n r a z) (fun I hI=>by rw [gC_iff];exact (hL _ _).trans hI),fun h=>by cases h⟩
 | false =>
  have hS:AllOk [eCnt 3 0,eIdz r z false]:=⟨hc,hid.spec0 rfl,trivial⟩
  rcases lenZ_or a 0 with ⟨hl,hL⟩ | hL
  ·rcases nameZ_or n with hM | hM
   ·exact ⟨27,by decide,ck46 hS 27 (cn_3b n r a z) (fun I hI=>by rw [gC_iff];refine (hL _ _).trans ?_;rw [hM,gC_iff];exact hI),fun h=>by cases h⟩
   ·exact ⟨5,by decide,ck46 hS 5 (cn_3b n r a z) (fun I hI=>by rw [gC_iff];refine (hL _ _).trans ?_;rw [hM];exact hI),fun h=>by cases h⟩
  ·exact ⟨5,by decide,ck46 hS 5 (cn_3b n r a z) (fun I hI=>by rw [gC_iff];exact (hL _ _).trans hI),fun h=>by cases h⟩
theorem ck_4 (n:List UInt8) (r:Rt) (a:List Ex) (hn:n.length<4611686018427387904) (hr:r.mag.length+r.dmag.length≤20):CkOk (.mk (.ofNat 4) n r a) 4 0:=by
 obtain ⟨z,b,hid,_⟩:=id_any r hr
 obtain ⟨b',hnm⟩:=isName_any n hn
 have hc:=cnt_ok 4 0 (by omega) (by omega) rfl
 cases b' with
 | true =>
  have hS:AllOk [eCnt 4 0,eIdz r z b,eNm n true]:=⟨hc,hid.spec0 rfl,hnm.spec0 rfl,trivial⟩
  rcases lenZ_or a 0 with ⟨hl,hL⟩ | hL
  ·rcases numZ_or r with hM | hM
   ·exact ⟨0,by decide,ck46 hS 0 (cn_4 n r a z b) (fun I hI=>by rw [gC_iff];refine (hL _ _).trans ?_;rw [hM,gC_iff,gC_iff];exact hI),fun _=>⟨rfl,hl,fun h=>absurd h (by omega)⟩⟩
   ·exact ⟨5,by decide,ck46 hS 5 (cn_4 n r a z b) (fun I hI=>by rw [gC_iff];refine (hL _ _).trans ?_;rw [hM];exact hI),fun h=>by cases h⟩
  ·exact ⟨5,by decide,ck46 hS 5 (cn_4 n r a z b) (fun I hI=>by rw [gC_iff];exact (hL _ _).trans hI),fun h=>by cases h⟩
 | false =>
  have hS:AllOk [eCnt 4 0,eIdz r z b,eNm n false]:=⟨hc,hid.spec0 rfl,hnm.spec0 rfl,trivial⟩
  rcases lenZ_or a 0 with ⟨hl,hL⟩ | hL
  ·rcases numZ_or r with hM | hM
   ·exact ⟨34,by decide,ck46 hS 34 (cn_4b n r a z b) (fun I hI=>by rw [gC_iff];refine (hL _ _).trans ?_;rw [hM,gC_iff,gC_iff];exact hI),fun h=>by cases h⟩
   ·exact ⟨5,by decide,ck46 hS 5 (cn_4b n r a z b) (fun I hI=>by rw [gC_iff];refine (hL _ _).trans ?_;rw [hM];exact hI),fun h=>by cases h⟩
  ·exact ⟨5,by decide,ck46 hS 5 (cn_4b n r a z b) (fun I hI=>by rw [gC_iff];exact (hL _ _).trans hI),fun h=>by cases h⟩
theorem ck_5 (n:List UInt8) (r:Rt) (a:List Ex) (hn:n.length<4611686018427387904) (hr:r.mag.length+r.dmag.length≤20):CkOk (.mk (.ofNat 5) n r a) 5 0:=by
 obtain ⟨z,b,hid,_⟩:=id_any r hr
 obtain ⟨b',hnm⟩:=isZone_any n hn
 have hc:=cnt_ok 5 0 (by omega) (by omega) rfl
 cases b' with
 | true =>
  have hS:AllOk [eCnt 5 0,eIdz r z b,eZn n true]:=⟨hc,hid.spec0 rfl,hnm.spec0 rfl,trivial⟩
  rcases lenZ_or a 0 with ⟨hl,hL⟩ | hL
  ·rcases numZ_or r with hM | hM
   ·exact ⟨0,by decide,ck46 hS 0 (cn_5 n r a z b) (fun I hI=>by rw [gC_iff];refine (hL _ _).trans ?_;rw [hM,gC_iff,gC_iff];exact hI),fun _=>⟨rfl,hl,fun h=>absurd h (by omega)⟩⟩
   ·exact ⟨5,by decide,ck46 hS 5 (cn_5 n r a z b) (fun I hI=>by rw [gC_iff];refine (hL _ _).trans ?_;rw [hM];exact hI),fun h=>by cases h⟩
  ·exact ⟨5,by decide,ck46 hS 5 (cn_5 n r a z b) (fun I hI=>by rw [gC_iff];exact (hL _ _).trans hI),fun h=>by cases h⟩
 | false =>
  have hS:AllOk [eCnt 5 0,eIdz r z b,eZn n false]:=⟨hc,hid.spec0 rfl,hnm.spec0 rfl,trivial⟩
  rcases lenZ_or a 0 with ⟨hl,hL⟩ | hL
  ·rcases numZ_or r with hM | hM
   ·exact ⟨34,by decide,ck46 hS 34 (cn_5b n r a z b) (fun I hI=>by rw [gC_iff];refine (hL _ _).trans ?_;rw [hM,gC_iff,gC_iff];exact hI),fun h=>by cases h⟩
   ·exact ⟨5,by decide,ck46 hS 5 (cn_5b n r a z b) (fun I hI=>by rw [gC_iff];refine (hL _ _).trans ?_;rw [hM];exact hI),fun h=>by cases h⟩
  ·exact ⟨5,by decide,ck46 hS 5 (cn_5b n r a z b) (fun I hI=>by rw [gC_iff];exact (hL _ _).trans hI),fun h=>by cases h⟩
theorem checkNode_any (x:Ex) (hn:x.name.length<4611686018427387904) (hr:x.num.mag.length+x.num.dmag.length≤20):∃ e:Int,Er46 e∧BSim Tryz.prog 48 [exA x] [] [] (.int .i64 e)∧(e=0→∃ o:Nat,1≤o∧o≤30∧x.op=.ofNat o∧x.args.length=nArgs o∧(o=3→ObjOk x.num)):=by
 obtain ⟨op,n,r,a⟩:=x
 change n.length<_ at hn
 change r.mag.length+r.dmag.length≤20 at hr
 by_cases ho:1≤op∧op≤30
 ·obtain ⟨o,rfl⟩:∃ o:Nat,op=.ofNat o:=⟨op.toNat,by simp only [Int.ofNat_eq_natCast];omega⟩
  have h1:1≤o:=by have:=ho.1;simp only [Int.ofNat_eq_natCast] at this;omega
  have h2:o≤30:=by have:=ho.2;simp only [Int.ofNat_eq_natCast] at this;omega
  suffices h:CkOk (.mk (.ofNat o) n r a) o (nArgs o) by
   obtain ⟨e,hE,he,h0⟩:=h
   exact ⟨e,hE,he,fun h=>⟨o,h1,h2,(h0 h).1,(h0 h).2.1,(h0 h).2.2⟩⟩
  have hcase:o=1∨o=2∨o=3∨o=4∨o=5∨o=6∨o=7∨o=8∨o=9∨o=10∨o=11∨o=12∨o=13∨o=14∨o=15∨o=16∨o=17∨o=18∨o=19∨o=20∨o=21∨o=22∨o=23∨o=24∨o=25∨o=26∨o=27∨o=28∨o=29∨o=30:=by omega
  rcases hcase with rfl | rfl | rfl | rfl | rfl | rfl | rfl | rfl | rfl | rfl | rfl | rfl | rfl | rfl | rfl | rfl | rfl | rfl | rfl | rfl | rfl | rfl | rfl | rfl | rfl | rfl | rfl | rfl | rfl | rfl
  ·exact ck_1 n r a hr
  ·exact ck_2 n r a hr
  ·exact ck_3 n r a hr
  ·exact ck_4 n r a hn hr
  ·exact ck_5 n r a hn hr
  ·exact ck_gen (o:=6) (k:=2) (by omega) (by omega) rfl hr (cn_6 n r a)
  ·exact ck_gen (o:=7) (k:=2) (by omega) (by omega) rfl hr (cn_7 n r a)
  ·exact ck_gen (o:=8) (k:=2) (by omega) (by omega) rfl hr (cn_8 n r a)
  ·exact ck_gen (o:=9) (k:=2) (by omega) (by omega) rfl hr (cn_9 n r a)
  ·exact ck_gen (o:=10) (k:=1) (by omega) (by omega) rfl hr (cn_10 n r a)
  ·exact ck_gen (o:=11) (k:=1) (by omega) (by omega) rfl hr (cn_11 n r a)
  ·exact ck_gen (o:=12) (k:=2) (by omega) (by omega) rfl hr (cn_12 n r a)
  ·exact ck_gen (o:=13) (k:=2) (by omega) (by omega) rfl hr (cn_13 n r a)
  ·exact ck_gen (o:=14) (k:=1) (by omega) (by omega) rfl hr (cn_14 n r a)
  ·exact ck_gen (o:=15) (k:=3) (by omega) (by omega) rfl hr (cn_15 n r a)
  ·exact ck_gen (o:=16) (k:=2) (by omega) (by omega) rfl hr (cn_16 n r a)
  ·exact ck_gen (o:=17) (k:=1) (by omega) (by omega) rfl hr (cn_17 n r a)
  ·exact ck_gen (o:=18) (k:=2) (by omega) (by omega) rfl hr (cn_18 n r a)
  ·exact ck_gen (o:=19) (k:=2) (by omega) (by omega) rfl hr (cn_19 n r a)
  ·exact ck_gen (o:=20) (k:=2) (by omega) (by omega) rfl hr (cn_20 n r a)
  ·exact ck_gen (o:=21) (k:=2) (by omega) (by omega) rfl hr (cn_21 n r a)
  ·exact ck_gen (o:=22) (k:=2) (by omega) (by omega) rfl hr (cn_22 n r a)
  ·exact ck_gen (o:=23) (k:=2) (by omega) (by omega) rfl hr (cn_23 n r a)
  ·exact ck_gen (o:=24) (k:=2) (by omega) (by omega) rfl hr (cn_24 n r a)
  ·exact ck_gen (o:=25) (k:=1) (by omega) (by omega) rfl hr (cn_25 n r a)
  ·exact ck_gen (o:=26) (k:=1) (by omega) (by omega) rfl hr (cn_26 n r a)
  ·exact ck_gen (o:=27) (k:=1) (by omega) (by omega) rfl hr (cn_27 n r a)
  ·exact ck_gen (o:=28) (k:=2) (by omega) (by omega) rfl hr (cn_28 n r a)
  ·exact ck_gen (o:=29) (k:=2) (by omega) (by omega) rfl hr (cn_29 n r a)
  ·exact ck_gen (o:=30) (k:=2) (by omega) (by omega) rfl hr (cn_30 n r a)
 ·refine ⟨4,by decide,ck46 (S:=[eCnt op (-1)]) ⟨(count_bad op ho).spec0 rfl,trivial⟩ 4 (cn_bad op n r a) (fun I hI=>?_),fun h=>by cases h⟩
  unfold cnBad
  rw [gC_iff]
  exact gIf_any (gIf_any hI hI) (gIf_any hI hI)
end Go.Proofs.YtodjhpjcgggamaaGreatDoor

namespace Go.Proofs.YtodjhpjcgggamaaGreatDoor
open Go Go.Eng Go.Vi Go.Knuth
noncomputable section
local instance : Go.Eng.Mode := Sy
inductive Sml:Ex→Prop
 | mk (o:Int) (n:List UInt8) (r:Rt) (args:List Ex) (hn:n.length≤60) (hr:r.mag.length+r.dmag.length≤20) (hl:args.length≤4) (ha:∀ y∈args,Sml y):Sml (.mk o n r args)
inductive WF:Ex→Prop
 | mk (o:Nat) (n:List UInt8) (r:Rt) (args:List Ex) (h1:1≤o) (h2:o≤30) (hl:args.length=nArgs o) (ho:o=3→ObjOk r) (ha:∀ y∈args,WF y):WF (.mk (.ofNat o) n r args)
def eRe (x:Ex) (e:Int):FuncId × SEnt:=(48,⟨[exA x],[],.int .i64 e⟩)
def eVe (x:Ex) (lev n n':Nat) (e:Int):FuncId × SEnt:=(47,⟨[exA x,.int .i64 (.ofNat lev),.ptr 0 0,.ptr 1 0],[(0,[.int .i64 (.ofNat n)],[.int .i64 (.ofNat n')]),(1,[fV],[fV])],.int .i64 e⟩)
def Vis (x:Ex) (lev n n':Nat) (e:Int):Prop:=BSimG Tryz.prog 47 [exA x,.int .i64 (.ofNat lev),.ptr 0 0,.ptr 1 0] (rowsV n) (rowsV n') (.int .i64 e)
theorem eVe_ok {x:Ex} {lev n n':Nat} {e:Int} (h:Vis x lev n n' e):SSpec Tryz.prog (eVe x lev n n' e).1 (eVe x lev n n' e).2:=h [0,1] _ _ _ rfl (by decide) rfl rfl rfl
def visT (x:Ex) (lev n:Nat) (I:AK) (e0:Int) (K:Bool):Bool :=
 ifB (Bool.not (ilt (.ofNat n) 256)) (leafV n 3 I) (ifB (ilt 32 (.ofNat lev)) (leafV n 33 I) (gB (inI64 (.ofNat (n+1))) (gD (eRe x e0) K)))
theorem vis_of {S:List (FuncId × SEnt)} (hS:AllOk S) {x:Ex} {lev n n':Nat} {e e0:Int} (hn:n<256) (hlev:lev≤32) (K:(AK)→Bool) (hK:∀ I,leafV n' e I=true→K I=true)
  (hrun:∀ I,runV S x lev n I=visT x lev n I e0 (K I)):Vis x lev n n' e:=by
 refine BSimG.run hm hX0 hS.mem ok45 (by kernel_rfl) rfl 60 [0,1] _ hrun ?_
 have c1:Bool.not (ilt (.ofNat n) 256)=false:=by rw [ilt_iff];simp;omega
 have c2:ilt 32 (.ofNat lev)=false:=by rw [ilt_iff];simp;omega
 unfold visT
 simp only [ifB_false c1,ifB_false c2,gB_iff,gD_iff]
 exact ⟨smallI _ (by omega),hK _ (pdec_iff.2 (LeafG.of (rowsV_fz n') fun _ _=>.plain (.int .i64 e)))⟩
def c45:Code:=codeOf Tryz.f47
theorem vis_deep_run (x:Ex) (lev n:Nat) (I:IK):Eng.execN Tryz.prog X0 [] 60 Tryz.f47.ntmps 2 c45 (mkFr (argSlots [exA x,.int .i64 (.ofNat lev),.ptr 0 0,.ptr 1 0] 0)) (mkMem (rowsG (rowsV n))) (fun o fr' M'=>I o (lv [6] fr') (mv [0,1] M')) =
 ifB (Bool.not (ilt (.ofNat n) 256)) (I .ret [some (.int .i64 3)] ((rowsG (rowsV n)).map some)) (ifB (ilt 32 (.ofNat lev)) (I .ret [some (.int .i64 33)] ((rowsG (rowsV n)).map some)) (I .normal [some (.int .i64 0)] ((rowsG (rowsV n)).map some))):=by kernel_rfl
theorem res45:Tryz.f47.results.toList=[.tmp 6]:=by kernel_rfl
theorem finG_one {fn:Func} {a:Nat} (hres:fn.results.toList=[.tmp a]) {k:Nat} {rows1:List (List AV)} {ans:AV} {fr:Fr} {M:Mem} {x:AV} (hl:lv [a] fr=[some x]) (hf:FzA k M x ans)
  (hr:∀ (j:Nat) (r:List AV),rows1[j]? = some r→∃ c sz,M.t.get j=some (.row c false sz)∧FzBs k M c r):FinG Tryz.prog fn k rows1 ans .ret fr M:=by
 refine ⟨.inr rfl,[x],?_,hf,hr⟩
 rw [hres]
 show getT fr a (fun v=>pdec ([v]=[x]))=true
 rw [getT_iff]
 exact ⟨x,one_of hl,pdec_iff.2 rfl⟩
theorem ifB_true {c a b:Bool} (h:c=true):ifB c a b=a:=by subst h;rfl
theorem vis_deep (x:Ex) {lev n:Nat} (hn:n<256) (hlev:32<lev):Vis x lev n n 33:=by
 refine BSimG.of_W ok45.at_ (codeOf_some ok45.body) ok45.name (nble_le (by kernel_rfl)) rfl ?_
 refine W.runN hm hX0 (S:=[]) (fun _ h=>by cases h) 60 2 [6] [0,1] _ (vis_deep_run x lev n) ?_
 have c1:Bool.not (ilt (.ofNat n) 256)=false:=by rw [ilt_iff];simp;omega
 have c2:ilt 32 (.ofNat lev)=true:=by rw [ilt_iff];simp;omega
 rw [ifB_false c1,ifB_true c2]
 refine pdec_iff.2 fun fr M hl hm'=>?_
 refine finG_one res45 hl (.plain (.int .i64 33)) ?_
 have:=rowsG_of_mv (k:=2) (rows1:=rowsV n) (i:=0) (M':=M) hm' (rowsV_fz n M)
 intro j r hj
 have h:=this j r hj
 rw [Nat.zero_add] at h
 exact h
theorem vis_e4 (x:Ex) (lev n:Nat) (I):runV [eRe x 4] x lev n I=visT x lev n I 4 (leafV (n+1) 4 I):=by kernel_rfl
theorem vis_e5 (x:Ex) (lev n:Nat) (I):runV [eRe x 5] x lev n I=visT x lev n I 5 (leafV (n+1) 5 I):=by kernel_rfl
theorem vis_e27 (x:Ex) (lev n:Nat) (I):runV [eRe x 27] x lev n I=visT x lev n I 27 (leafV (n+1) 27 I):=by kernel_rfl
theorem vis_e34 (x:Ex) (lev n:Nat) (I):runV [eRe x 34] x lev n I=visT x lev n I 34 (leafV (n+1) 34 I):=by kernel_rfl
def stepE (y:Ex) (lev n n':Nat) (e:Int) (b:Bool):Bool:=gB (inI64 (.ofNat (lev+1))) (gD (eVe y (lev+1) n n' e) b)
def bad45 (lev:Nat):Bool:=gB (inI64 (.ofNat (lev+1))) false
def errT (n:Nat) (e:Int) (I:AK) (b:Bool):Bool:=ifB (Bool.not (ieq e 0)) (leafV n e I) b
theorem v_11 (o:Int) (nm:List UInt8) (r:Rt) (y:Ex) (lev n n1:Nat) (e:Int) (I):runV [eRe (.mk o nm r [y]) 0,eVe y (lev+1) (n+1) n1 e] (.mk o nm r [y]) lev n I =
 visT (.mk o nm r [y]) lev n I 0 (stepE y lev (n+1) n1 e (errT n1 e I (leafV n1 0 I))):=by kernel_rfl
theorem v_21 (o:Int) (nm:List UInt8) (r:Rt) (y z:Ex) (lev n n1:Nat) (e:Int) (I):runV [eRe (.mk o nm r [y,z]) 0,eVe y (lev+1) (n+1) n1 e] (.mk o nm r [y,z]) lev n I =
 visT (.mk o nm r [y,z]) lev n I 0 (stepE y lev (n+1) n1 e (errT n1 e I (bad45 lev))):=by kernel_rfl
theorem v_22 (o:Int) (nm:List UInt8) (r:Rt) (y z:Ex) (lev n n1 n2:Nat) (e:Int) (I):runV [eRe (.mk o nm r [y,z]) 0,eVe y (lev+1) (n+1) n1 0,eVe z (lev+1) n1 n2 e] (.mk o nm r [y,z]) lev n I =
 visT (.mk o nm r [y,z]) lev n I 0 (stepE y lev (n+1) n1 0 (stepE z lev n1 n2 e (errT n2 e I (leafV n2 0 I)))):=by kernel_rfl
theorem v_31 (o:Int) (nm:List UInt8) (r:Rt) (y z u:Ex) (lev n n1:Nat) (e:Int) (I):runV [eRe (.mk o nm r [y,z,u]) 0,eVe y (lev+1) (n+1) n1 e] (.mk o nm r [y,z,u]) lev n I =
 visT (.mk o nm r [y,z,u]) lev n I 0 (stepE y lev (n+1) n1 e (errT n1 e I (bad45 lev))):=by kernel_rfl
theorem v_32 (o:Int) (nm:List UInt8) (r:Rt) (y z u:Ex) (lev n n1 n2:Nat) (e:Int) (I):runV [eRe (.mk o nm r [y,z,u]) 0,eVe y (lev+1) (n+1) n1 0,eVe z (lev+1) n1 n2 e] (.mk o nm r [y,z,u]) lev n I =
 visT (.mk o nm r [y,z,u]) lev n I 0 (stepE y lev (n+1) n1 0 (stepE z lev n1 n2 e (errT n2 e I (bad45 lev)))):=by kernel_rfl
theorem v_33 (o:Int) (nm:List UInt8) (r:Rt) (y z u:Ex) (lev n n1 n2 n3:Nat) (e:Int) (I):runV [eRe (.mk o nm r [y,z,u]) 0,eVe y (lev+1) (n+1) n1 0,eVe z (lev+1) n1 n2 0,eVe u (lev+1) n2 n3 e] (.mk o nm r [y,z,u]) lev n I =
 visT (.mk o nm r [y,z,u]) lev n I 0 (stepE y lev (n+1) n1 0 (stepE z lev n1 n2 0 (stepE u lev n2 n3 e (errT n3 e I (leafV n3 0 I))))):=by kernel_rfl
theorem v_0 (o:Int) (nm:List UInt8) (r:Rt) (lev n:Nat) (I):runV [eRe (.mk o nm r []) 0] (.mk o nm r []) lev n I=visT (.mk o nm r []) lev n I 0 (leafV (n+1) 0 I):=by kernel_rfl
theorem errT_of {n:Nat} {e:Int} (he:e≠0) {I:AK} {b:Bool} (h:leafV n e I=true):errT n e I b=true:=by
 unfold errT
 rw [ifB_true (by rw [ieqf he];rfl)]
 exact h
theorem stepE_of {y:Ex} {lev n n':Nat} {e:Int} {b:Bool} (hl:lev≤1000) (h:b=true):stepE y lev n n' e b=true:=by
 unfold stepE
 rw [gB_iff,gD_iff]
 exact ⟨smallI _ (by omega),h⟩
theorem nArgs_le (o:Nat):nArgs o≤3:=by
 unfold nArgs
 split
 ·omega
 ·split
  ·omega
  ·split<;>omega
theorem visit_any:∀ {x:Ex},Sml x→∀ lev n,lev≤1000→n+x.size≤256→∃ (e:Int) (n':Nat),n'≤n+x.size∧(e=0→WF x)∧Vis x lev n n' e:=by
 intro x hx
 induction hx with
 | mk o nm r args hnm hr hl ha ih =>
  intro lev n hlv hn
  have e1:(Ex.mk o nm r args).size=1+sizeL args:=by simp [Ex.size]
  rw [e1] at hn ⊢
  by_cases hlev:32<lev
  ·exact ⟨33,n,by omega,(fun h=>by cases h),vis_deep _ (by omega) hlev⟩
  obtain ⟨e,hE,hck,h0⟩:=checkNode_any (.mk o nm r args) (by show nm.length<_;omega) hr
  have hS:∀ {e:Int},BSim Tryz.prog 48 [exA (.mk o nm r args)] [] [] (.int .i64 e)→SSpec Tryz.prog (eRe (.mk o nm r args) e).1 (eRe (.mk o nm r args) e).2:=fun h=>h.spec0 rfl
  rcases hE with rfl | rfl | rfl | rfl | rfl
  ·obtain ⟨o',h1,h2,h3,h4,hob⟩:=h0 rfl
   have h3:o=.ofNat o':=h3
   have h4:args.length=nArgs o':=h4
   subst h3
   have hR:=hS hck
   have h5:=nArgs_le o'
   have wf:(∀ y∈args,WF y)→WF (.mk (.ofNat o') nm r args):=fun h=>.mk o' nm r args h1 h2 h4 hob h
   have h5:args.length≤3:=h4▸h5
   clear h0 hck
   match args,h5 with
   | [],_ =>
    refine ⟨0,n+1,by simp only [sizeL];omega,fun _=>wf (fun y hy=>by cases hy),?_⟩
    exact vis_of (S:=[eRe (.mk (.ofNat o') nm r []) 0]) ⟨hR,trivial⟩ (by omega) (by omega) _ (fun I h=>h) (v_0 _ nm r lev n)
   | [y],_ =>
    simp only [sizeL,Nat.add_zero] at hn ⊢
    obtain ⟨ey,n1,b1,w1,s1⟩:=ih y (by simp) (lev+1) (n+1) (by omega) (by omega)
    by_cases he:ey=0
    ·subst he
     refine ⟨0,n1,by omega,fun _=>wf (fun z hz=>by obtain rfl:=List.mem_singleton.1 hz;exact w1 rfl),?_⟩
     exact vis_of (S:=[eRe (.mk (.ofNat o') nm r [y]) 0,eVe y (lev+1) (n+1) n1 0]) ⟨hR,eVe_ok s1,trivial⟩ (by omega) (by omega) _ (fun I h=>stepE_of hlv h) (v_11 _ nm r y lev n n1 0)
    ·refine ⟨ey,n1,by omega,fun h=>absurd h he,?_⟩
     exact vis_of (S:=[eRe (.mk (.ofNat o') nm r [y]) 0,eVe y (lev+1) (n+1) n1 ey]) ⟨hR,eVe_ok s1,trivial⟩ (by omega) (by omega) _ (fun I h=>stepE_of hlv (errT_of he h)) (v_11 _ nm r y lev n n1 ey)
   | [y,z],_ =>
    simp only [sizeL,Nat.add_zero] at hn ⊢
    obtain ⟨ey,n1,b1,w1,s1⟩:=ih y (by simp) (lev+1) (n+1) (by omega) (by omega)
    by_cases he:ey=0
    ·subst he
     obtain ⟨ez,n2,b2,w2,s2⟩:=ih z (by simp) (lev+1) n1 (by omega) (by omega)
     have hS2:AllOk [eRe (.mk (.ofNat o') nm r [y,z]) 0,eVe y (lev+1) (n+1) n1 0,eVe z (lev+1) n1 n2 ez]:=⟨hR,eVe_ok s1,eVe_ok s2,trivial⟩
     by_cases he2:ez=0
     ·subst he2
      refine ⟨0,n2,by omega,fun _=>wf (fun u hu=>by
       rcases List.mem_cons.1 hu with rfl | hu
       ·exact w1 rfl
       ·obtain rfl:=List.mem_singleton.1 hu;exact w2 rfl),?_⟩
      exact vis_of hS2 (by omega) (by omega) _ (fun I h=>stepE_of hlv (stepE_of hlv h)) (v_22 _ nm r y z lev n n1 n2 0)
     ·refine ⟨ez,n2,by omega,fun h=>absurd h he2,?_⟩
      exact vis_of hS2 (by omega) (by omega) _ (fun I h=>stepE_of hlv (stepE_of hlv (errT_of he2 h))) (v_22 _ nm r y z lev n n1 n2 ez)
    ·refine ⟨ey,n1,by omega,fun h=>absurd h he,?_⟩
     exact vis_of (S:=[eRe (.mk (.ofNat o') nm r [y,z]) 0,eVe y (lev+1) (n+1) n1 ey]) ⟨hR,eVe_ok s1,trivial⟩ (by omega) (by omega) _ (fun I h=>stepE_of hlv (errT_of he h)) (v_21 _ nm r y z lev n n1 ey)
   | [y,z,u],_ =>
    simp only [sizeL,Nat.add_zero] at hn ⊢
    obtain ⟨ey,n1,b1,w1,s1⟩:=ih y (by simp) (lev+1) (n+1) (by omega) (by omega)
    by_cases he:ey=0
    ·subst he
     obtain ⟨ez,n2,b2,w2,s2⟩:=ih z (by simp) (lev+1) n1 (by omega) (by omega)
     by_cases he2:ez=0
     ·subst he2
      obtain ⟨eu,n3,b3,w3,s3⟩:=ih u (by simp) (lev+1) n2 (by omega) (by omega)
      have hS3:AllOk [eRe (.mk (.ofNat o') nm r [y,z,u]) 0,eVe y (lev+1) (n+1) n1 0,eVe z (lev+1) n1 n2 0,eVe u (lev+1) n2 n3 eu]:=⟨hR,eVe_ok s1,eVe_ok s2,eVe_ok s3,trivial⟩
      by_cases he3:eu=0
      ·subst he3
       refine ⟨0,n3,by omega,fun _=>wf (fun t ht=>by
        rcases List.mem_cons.1 ht with rfl | ht
        ·exact w1 rfl
        rcases List.mem_cons.1 ht with rfl | ht
        ·exact w2 rfl
        ·obtain rfl:=List.mem_singleton.1 ht;exact w3 rfl),?_⟩
       exact vis_of hS3 (by omega) (by omega) _ (fun I h=>stepE_of hlv (stepE_of hlv (stepE_of hlv h))) (v_33 _ nm r y z u lev n n1 n2 n3 0)
      ·refine ⟨eu,n3,by omega,fun h=>absurd h he3,?_⟩
       exact vis_of hS3 (by omega) (by omega) _ (fun I h=>stepE_of hlv (stepE_of hlv (stepE_of hlv (errT_of he3 h)))) (v_33 _ nm r y z u lev n n1 n2 n3 eu)
     ·refine ⟨ez,n2,by omega,fun h=>absurd h he2,?_⟩
      exact vis_of (S:=[eRe (.mk (.ofNat o') nm r [y,z,u]) 0,eVe y (lev+1) (n+1) n1 0,eVe z (lev+1) n1 n2 ez]) ⟨hR,eVe_ok s1,eVe_ok s2,trivial⟩ (by omega) (by omega) _ (fun I h=>stepE_of hlv (stepE_of hlv (errT_of he2 h))) (v_32 _ nm r y z u lev n n1 n2 ez)
    ·refine ⟨ey,n1,by omega,fun h=>absurd h he,?_⟩
     exact vis_of (S:=[eRe (.mk (.ofNat o') nm r [y,z,u]) 0,eVe y (lev+1) (n+1) n1 ey]) ⟨hR,eVe_ok s1,trivial⟩ (by omega) (by omega) _ (fun I h=>stepE_of hlv (errT_of he h)) (v_31 _ nm r y z u lev n n1 ey)
   | _::_::_::_::_,h=>simp at h
  ·exact ⟨4,n+1,by omega,(fun h=>by cases h),vis_of (S:=[eRe (.mk o nm r args) 4]) ⟨hS hck,trivial⟩ (by omega) (by omega) _ (fun I h=>h) (vis_e4 _ lev n)⟩
  ·exact ⟨5,n+1,by omega,(fun h=>by cases h),vis_of (S:=[eRe (.mk o nm r args) 5]) ⟨hS hck,trivial⟩ (by omega) (by omega) _ (fun I h=>h) (vis_e5 _ lev n)⟩
  ·exact ⟨27,n+1,by omega,(fun h=>by cases h),vis_of (S:=[eRe (.mk o nm r args) 27]) ⟨hS hck,trivial⟩ (by omega) (by omega) _ (fun I h=>h) (vis_e27 _ lev n)⟩
  ·exact ⟨34,n+1,by omega,(fun h=>by cases h),vis_of (S:=[eRe (.mk o nm r args) 34]) ⟨hS hck,trivial⟩ (by omega) (by omega) _ (fun I h=>h) (vis_e34 _ lev n)⟩
def eV12e (x:Ex) (n':Nat) (e:Int):FuncId × SEnt:=(47,⟨[exA x,.int .i64 (.ofNat 1),.ptr 1 0,.ptr 2 0],[(1,[.int .i64 (.ofNat 0)],[.int .i64 (.ofNat n')]),(2,[.func (.func 47) [] [.ptr 1 0,.ptr 2 0]],[.func (.func 47) [] [.ptr 1 0,.ptr 2 0]])],.int .i64 e⟩)
theorem ok24':FnOk Tryz.prog 23 Tryz.f23:=⟨Tryz.func23,by kernel_rfl,by kernel_rfl⟩
theorem checkExpr_any {x:Ex} (hx:Sml x) (hn:x.size≤256):∃ e:Int,(e=0→WF x)∧BSim Tryz.prog 23 [exA x] [] [] (.int .i64 e):=by
 obtain ⟨e,n',_,hw,h⟩:=visit_any hx 1 0 (by omega) (by omega)
 refine ⟨e,hw,?_⟩
 refine BSim.run hm hX0 (S:=[eV12e x n' e]) (AllOk.mem ⟨h [1,2] _ _ _ rfl (by decide) rfl rfl rfl,trivial⟩) ok24' (by kernel_rfl) rfl 60 [] (fun I=>gD (eV12e x n' e) (I (.int .i64 e) [])) (fun I=>by kernel_rfl) ?_
 simp only [gD_iff]
 exact pdec_iff.2 (Leaf.flat fun _ _=>.plain (.int .i64 e))
end
end Go.Proofs.YtodjhpjcgggamaaGreatDoor

namespace Go.Proofs.YtodjhpjcgggamaaGreatDoor
open Go Go.Eng Go.Vi Go.Knuth
noncomputable section
local instance : Go.Eng.Mode := Sl
theorem bleaf {b c:Bool} (h:c=b):pdec (Leaf 0 [] [] (.bool c) (.bool b) [])=true:=by
 subst h
 exact pdec_iff.2 (Leaf.flat fun _ _=>.dat _ _ (.same (.bool c)))
theorem fin_oneL {fn:Func} {a:Nat} (hres:fn.results.toList=[.tmp a]) {k:Nat} {rows1:List (List Dat)} {Pr:AV→Prop} {fr:Fr} {M:Mem} {x:AV} (hl:fr.get a=some x)
  (h:∃ ans,Pr ans∧FzA k M x ans∧∀ (j:Nat) (r:List Dat),rows1[j]? = some r→∃ c sz,M.t.get j=some (.row c false sz)∧FzDs k M c r):FinEx Tryz.prog fn k rows1 Pr .ret fr M:=by
 obtain ⟨ans,hp,hf,hr⟩:=h
 refine ⟨ans,hp,.inr rfl,[x],?_,hf,hr⟩
 rw [hres]
 show getT fr a (fun v=>pdec ([v]=[x]))=true
 rw [getT_iff]
 exact ⟨x,hl,pdec_iff.2 rfl⟩
theorem two_of {a b:Nat} {fr:Fr} {x y:Option AV} (h:lv [a,b] fr=[x,y]):fr.get a=x∧fr.get b=y:=by
 have h':[fr.get a,fr.get b]=[x,y]:=h
 simpa using h'
theorem size_mk (o:Int) (nm:List UInt8) (r:Rt) (a:List Ex):(Ex.mk o nm r a).size=1+sizeL a:=by simp [Ex.size]
theorem ok27:FnOk Tryz.prog 20 Tryz.f20:=⟨Tryz.func20,by kernel_rfl,by kernel_rfl⟩
theorem ok15:FnOk Tryz.prog 5 Tryz.f5:=⟨Tryz.func5,by kernel_rfl,by kernel_rfl⟩
def c27:Code:=codeOf Tryz.f20
def eSm (x:Ex) (lev:Nat) (n n':Int) (b:Bool):FuncId × SEnt:=(20,⟨[exA x,.int .i64 (.ofNat lev),.ptr 0 0],[(0,[.int .i64 n],[.int .i64 n'])],.bool b⟩)
def r27 (S:List (FuncId × SEnt)) (x:Ex) (lev:Nat) (n:Int) (I:AK):Bool :=
 Eng.exec Tryz.prog X0 S 60 Tryz.f20.ntmps c27 (mkFr (argSlots [exA x,.int .i64 (.ofNat lev),.ptr 0 0] 0)) (mkMem (rowsOf [[.int .i64 n]])) (fun o fr M=>endK o (resK Tryz.prog fr M Tryz.f20.results.toList fun vs=>I (oneOf vs) (mv [0] M)))
def s27 (x:Ex) (lev:Nat) (n:Int) (I:IK):Bool :=
 Eng.execN Tryz.prog X0 [] 60 Tryz.f20.ntmps 3 c27 (mkFr (argSlots [exA x,.int .i64 (.ofNat lev),.ptr 0 0] 0)) (mkMem (rowsOf [[.int .i64 n]])) (fun o fr M=>I o (lv [6] fr) (mv [0] M))
def row27 (n:Int):List (Option Blk):=[some (.row [.int .i64 n] false 1)]
def top27 (x:Ex) (lev:Nat) (n:Int) (F A:Bool):Bool:=gB (inI64 (Int.sub n 1)) (ifB (ilt (Int.sub n 1) 0) F (ifB (ilt 40 (.ofNat lev)) F (ifB (ilt 60 (.ofNat x.name.length)) F (gB (inI64 (Int.add (.ofNat x.num.mag.length) (.ofNat x.num.dmag.length))) (ifB (ilt 20 (Int.add (.ofNat x.num.mag.length) (.ofNat x.num.dmag.length))) F A)))))
def sub27 (y:Ex) (lev:Nat) (n n':Int) (b c:Bool):Bool:=gB (inI64 (.ofNat (lev+1))) (gD (eSm y (lev+1) n n' b) c)
theorem early27 (x:Ex) (lev:Nat) (n:Int) (I:IK):s27 x lev n I=gB (inI64 (Int.sub n 1)) (ifB (ilt (Int.sub n 1) 0) (I .ret [some (.bool false)] (row27 (Int.sub n 1))) (ifB (ilt 40 (.ofNat lev)) (I .ret [some (.bool false)] (row27 (Int.sub n 1))) (ifB (ilt 4 (.ofNat x.args.length)) (I .ret [some (.bool false)] (row27 (Int.sub n 1))) (ifB (ilt 60 (.ofNat x.name.length)) (I .ret [some (.bool false)] (row27 (Int.sub n 1))) (gB (inI64 (Int.add (.ofNat x.num.mag.length) (.ofNat x.num.dmag.length))) (ifB (ilt 20 (Int.add (.ofNat x.num.mag.length) (.ofNat x.num.dmag.length))) (I .ret [some (.bool false)] (row27 (Int.sub n 1))) (I .normal [some (.bool false)] (row27 (Int.sub n 1))))))))):=by kernel_rfl
theorem sm_0_t (o:Int) (nm:List UInt8) (r:Rt) (lev:Nat) (n:Int) (I):r27 [] (.mk o nm r []) lev n I=top27 (.mk o nm r []) lev n (I (.bool false) (row27 (Int.sub n 1))) (I (.bool true) (row27 (Int.sub n 1))):=by kernel_rfl
theorem sm_1_0 (o:Int) (nm:List UInt8) (r:Rt) (y:Ex) (lev:Nat) (n:Int) (n0:Int) (I):r27 [eSm y (lev+1) (Int.sub n 1) n0 false] (.mk o nm r [y]) lev n I=top27 (.mk o nm r [y]) lev n (I (.bool false) (row27 (Int.sub n 1))) (sub27 y lev (Int.sub n 1) n0 false (I (.bool false) (row27 n0))):=by kernel_rfl
theorem sm_1_t (o:Int) (nm:List UInt8) (r:Rt) (y:Ex) (lev:Nat) (n:Int) (n0:Int) (I):r27 [eSm y (lev+1) (Int.sub n 1) n0 true] (.mk o nm r [y]) lev n I=top27 (.mk o nm r [y]) lev n (I (.bool false) (row27 (Int.sub n 1))) (sub27 y lev (Int.sub n 1) n0 true (I (.bool true) (row27 n0))):=by kernel_rfl
theorem sm_2_0 (o:Int) (nm:List UInt8) (r:Rt) (y z:Ex) (lev:Nat) (n:Int) (n0:Int) (I):r27 [eSm y (lev+1) (Int.sub n 1) n0 false] (.mk o nm r [y,z]) lev n I=top27 (.mk o nm r [y,z]) lev n (I (.bool false) (row27 (Int.sub n 1))) (sub27 y lev (Int.sub n 1) n0 false (I (.bool false) (row27 n0))):=by kernel_rfl
theorem sm_2_1 (o:Int) (nm:List UInt8) (r:Rt) (y z:Ex) (lev:Nat) (n:Int) (n0 n1:Int) (I):r27 [eSm y (lev+1) (Int.sub n 1) n0 true,eSm z (lev+1) n0 n1 false] (.mk o nm r [y,z]) lev n I=top27 (.mk o nm r [y,z]) lev n (I (.bool false) (row27 (Int.sub n 1))) (sub27 y lev (Int.sub n 1) n0 true (sub27 z lev n0 n1 false (I (.bool false) (row27 n1)))):=by kernel_rfl
theorem sm_2_t (o:Int) (nm:List UInt8) (r:Rt) (y z:Ex) (lev:Nat) (n:Int) (n0 n1:Int) (I):r27 [eSm y (lev+1) (Int.sub n 1) n0 true,eSm z (lev+1) n0 n1 true] (.mk o nm r [y,z]) lev n I=top27 (.mk o nm r [y,z]) lev n (I (.bool false) (row27 (Int.sub n 1))) (sub27 y lev (Int.sub n 1) n0 true (sub27 z lev n0 n1 true (I (.bool true) (row27 n1)))):=by kernel_rfl
theorem sm_3_0 (o:Int) (nm:List UInt8) (r:Rt) (y z u:Ex) (lev:Nat) (n:Int) (n0:Int) (I):r27 [eSm y (lev+1) (Int.sub n 1) n0 false] (.mk o nm r [y,z,u]) lev n I=top27 (.mk o nm r [y,z,u]) lev n (I (.bool false) (row27 (Int.sub n 1))) (sub27 y lev (Int.sub n 1) n0 false (I (.bool false) (row27 n0))):=by kernel_rfl
theorem sm_3_1 (o:Int) (nm:List UInt8) (r:Rt) (y z u:Ex) (lev:Nat) (n:Int) (n0 n1:Int) (I):r27 [eSm y (lev+1) (Int.sub n 1) n0 true,eSm z (lev+1) n0 n1 false] (.mk o nm r [y,z,u]) lev n I=top27 (.mk o nm r [y,z,u]) lev n (I (.bool false) (row27 (Int.sub n 1))) (sub27 y lev (Int.sub n 1) n0 true (sub27 z lev n0 n1 false (I (.bool false) (row27 n1)))):=by kernel_rfl
theorem sm_3_2 (o:Int) (nm:List UInt8) (r:Rt) (y z u:Ex) (lev:Nat) (n:Int) (n0 n1 n2:Int) (I):r27 [eSm y (lev+1) (Int.sub n 1) n0 true,eSm z (lev+1) n0 n1 true,eSm u (lev+1) n1 n2 false] (.mk o nm r [y,z,u]) lev n I=top27 (.mk o nm r [y,z,u]) lev n (I (.bool false) (row27 (Int.sub n 1))) (sub27 y lev (Int.sub n 1) n0 true (sub27 z lev n0 n1 true (sub27 u lev n1 n2 false (I (.bool false) (row27 n2))))):=by kernel_rfl
theorem sm_3_t (o:Int) (nm:List UInt8) (r:Rt) (y z u:Ex) (lev:Nat) (n:Int) (n0 n1 n2:Int) (I):r27 [eSm y (lev+1) (Int.sub n 1) n0 true,eSm z (lev+1) n0 n1 true,eSm u (lev+1) n1 n2 true] (.mk o nm r [y,z,u]) lev n I=top27 (.mk o nm r [y,z,u]) lev n (I (.bool false) (row27 (Int.sub n 1))) (sub27 y lev (Int.sub n 1) n0 true (sub27 z lev n0 n1 true (sub27 u lev n1 n2 true (I (.bool true) (row27 n2))))):=by kernel_rfl
theorem sm_4_0 (o:Int) (nm:List UInt8) (r:Rt) (y z u v:Ex) (lev:Nat) (n:Int) (n0:Int) (I):r27 [eSm y (lev+1) (Int.sub n 1) n0 false] (.mk o nm r [y,z,u,v]) lev n I=top27 (.mk o nm r [y,z,u,v]) lev n (I (.bool false) (row27 (Int.sub n 1))) (sub27 y lev (Int.sub n 1) n0 false (I (.bool false) (row27 n0))):=by kernel_rfl
theorem sm_4_1 (o:Int) (nm:List UInt8) (r:Rt) (y z u v:Ex) (lev:Nat) (n:Int) (n0 n1:Int) (I):r27 [eSm y (lev+1) (Int.sub n 1) n0 true,eSm z (lev+1) n0 n1 false] (.mk o nm r [y,z,u,v]) lev n I=top27 (.mk o nm r [y,z,u,v]) lev n (I (.bool false) (row27 (Int.sub n 1))) (sub27 y lev (Int.sub n 1) n0 true (sub27 z lev n0 n1 false (I (.bool false) (row27 n1)))):=by kernel_rfl
theorem sm_4_2 (o:Int) (nm:List UInt8) (r:Rt) (y z u v:Ex) (lev:Nat) (n:Int) (n0 n1 n2:Int) (I):r27 [eSm y (lev+1) (Int.sub n 1) n0 true,eSm z (lev+1) n0 n1 true,eSm u (lev+1) n1 n2 false] (.mk o nm r [y,z,u,v]) lev n I=top27 (.mk o nm r [y,z,u,v]) lev n (I (.bool false) (row27 (Int.sub n 1))) (sub27 y lev (Int.sub n 1) n0 true (sub27 z lev n0 n1 true (sub27 u lev n1 n2 false (I (.bool false) (row27 n2))))):=by kernel_rfl
theorem sm_4_3 (o:Int) (nm:List UInt8) (r:Rt) (y z u v:Ex) (lev:Nat) (n:Int) (n0 n1 n2 n3:Int) (I):r27 [eSm y (lev+1) (Int.sub n 1) n0 true,eSm z (lev+1) n0 n1 true,eSm u (lev+1) n1 n2 true,eSm v (lev+1) n2 n3 false] (.mk o nm r [y,z,u,v]) lev n I=top27 (.mk o nm r [y,z,u,v]) lev n (I (.bool false) (row27 (Int.sub n 1))) (sub27 y lev (Int.sub n 1) n0 true (sub27 z lev n0 n1 true (sub27 u lev n1 n2 true (sub27 v lev n2 n3 false (I (.bool false) (row27 n3)))))):=by kernel_rfl
theorem sm_4_t (o:Int) (nm:List UInt8) (r:Rt) (y z u v:Ex) (lev:Nat) (n:Int) (n0 n1 n2 n3:Int) (I):r27 [eSm y (lev+1) (Int.sub n 1) n0 true,eSm z (lev+1) n0 n1 true,eSm u (lev+1) n1 n2 true,eSm v (lev+1) n2 n3 true] (.mk o nm r [y,z,u,v]) lev n I=top27 (.mk o nm r [y,z,u,v]) lev n (I (.bool false) (row27 (Int.sub n 1))) (sub27 y lev (Int.sub n 1) n0 true (sub27 z lev n0 n1 true (sub27 u lev n1 n2 true (sub27 v lev n2 n3 true (I (.bool true) (row27 n3)))))):=by kernel_rfl
def Sm (x:Ex) (lev:Nat) (n n':Int) (b:Bool):Prop:=BSim Tryz.prog 20 [exA x,.int .i64 (.ofNat lev),.ptr 0 0] [[.int .i64 n]] [[.int .i64 n']] (.bool b)
theorem eSm_ok {x:Ex} {lev:Nat} {n n':Int} {b:Bool} (h:Sm x lev n n' b):SSpec Tryz.prog (eSm x lev n n' b).1 (eSm x lev n n' b).2:=h.spec1 0 rfl
def Early (x:Ex) (lev:Nat) (n:Int):Prop:=n-1<0∨40<lev∨4<x.args.length∨60<x.name.length∨20<x.num.mag.length+x.num.dmag.length
theorem res27:Tryz.f20.results.toList=[.tmp 6]:=by kernel_rfl
theorem leaf27 {b:Bool} {n:Int}:pdec (Leaf 1 [0] [[.int .i64 n]] (.bool b) (.bool b) (row27 n))=true:=by
 refine pdec_iff.2 fun M' hM'=>⟨.plain (.bool b),fun j r hj=>?_⟩
 cases j with
 | zero =>
  obtain rfl:[Dat.int .i64 n]=r:=by simpa using hj
  exact ⟨_,_,(List.cons.inj hM').1,.cons _ _ _ _ (.same (.int .i64 n)) .nil⟩
 | succ j=>simp at hj
theorem iltT {a b:Int} (h:a<b):ilt a b=true:=by rw [ilt_iff];exact decide_eq_true h
theorem iltF {a b:Int} (h:¬ a<b):ilt a b=false:=by rw [ilt_iff];exact decide_eq_false h
theorem inSub {n:Int} (h0:0≤n) (h1:n≤60):inI64 (Int.sub n 1)=true:=i64ok (by show -9223372036854775808≤n-1;omega) (by show n-1<_;omega)
theorem inSum {a b:Nat} (h:a+b<4611686018427387904):inI64 (Int.add (.ofNat a) (.ofNat b))=true:=smallI (a+b) (by omega)
theorem small_early {x:Ex} {lev:Nat} {n:Int} (h0:0≤n) (h1:n≤60) (hm:x.num.mag.length+x.num.dmag.length<4611686018427387904) (h:Early x lev n):Sm x lev n (Int.sub n 1) false:=by
 suffices hw:W Tryz.prog Tryz.f20.ntmps 1 c27 (mkFr (argSlots [exA x,.int .i64 (.ofNat lev),.ptr 0 0] 0)) (mkMem (rowsOf [[.int .i64 n]])) (FinEx Tryz.prog Tryz.f20 1 [[.int .i64 (Int.sub n 1)]] (fun a=>a=.bool false)) by
  obtain ⟨_,rfl,hb⟩:=BSim.of_WEx (args0:=[exA x,.int .i64 (.ofNat lev),.ptr 0 0]) (rows0:=[[.int .i64 n]]) (rows1:=[[.int .i64 (Int.sub n 1)]]) ok27 (by kernel_rfl) rfl hw
  exact hb
 refine W.runN Go.Proofs.YtodjhpjcgggamaaGreatDoor.hm hX0l (S:=[]) (fun _ h=>by cases h) 60 3 [6] [0] _ (early27 x lev n) ?_
 have fin:∀ (Q:AE→Fr→Mem→Prop),(∀ fr M,fr.get 6=some (.bool false)→M.t.get 0=some (.row [.int .i64 (Int.sub n 1)] false 1)→Q .ret fr M)→pdec (∀ fr' M',lv [6] fr'=[some (.bool false)]→mv [0] M'=row27 (Int.sub n 1)→Q .ret fr' M')=true :=
  fun Q h=>pdec_iff.2 fun fr M hl hM=>h fr M (one_of hl) (List.cons.inj hM).1
 have done:pdec (∀ fr' M',lv [6] fr'=[some (.bool false)]→mv [0] M'=row27 (Int.sub n 1)→Nxt Tryz.prog Tryz.f20.ntmps 1 (post 3 c27) (FinEx Tryz.prog Tryz.f20 1 [[.int .i64 (Int.sub n 1)]] (fun a=>a=.bool false)) .ret fr' M')=true:=by
  refine fin _ fun fr M hl hM=>?_
  refine fin_oneL res27 hl ⟨.bool false,rfl,.plain (.bool false),fun j r hj=>?_⟩
  cases j with
  | zero =>
   obtain rfl:[Dat.int .i64 (Int.sub n 1)]=r:=by simpa using hj
   exact ⟨_,_,hM,.cons _ _ _ _ (.same (.int .i64 (Int.sub n 1))) .nil⟩
  | succ j=>simp at hj
 rw [gB_iff]
 refine ⟨inSub h0 h1,?_⟩
 by_cases c1:n-1<0
 ·rw [ifB_true (iltT (a:=Int.sub n 1) c1)];exact done
 rw [ifB_false (iltF (a:=Int.sub n 1) c1)]
 by_cases c2:40<lev
 ·rw [ifB_true (iltT (by simp only [Int.ofNat_eq_natCast];omega))];exact done
 rw [ifB_false (iltF (by simp only [Int.ofNat_eq_natCast];omega))]
 by_cases c3:4<x.args.length
 ·rw [ifB_true (iltT (by simp only [Int.ofNat_eq_natCast];omega))];exact done
 rw [ifB_false (iltF (by simp only [Int.ofNat_eq_natCast];omega))]
 by_cases c4:60<x.name.length
 ·rw [ifB_true (iltT (by simp only [Int.ofNat_eq_natCast];omega))];exact done
 rw [ifB_false (iltF (by simp only [Int.ofNat_eq_natCast];omega)),gB_iff]
 have c5:20<x.num.mag.length+x.num.dmag.length:=by
  rcases h with h | h | h | h | h
  ·exact absurd h c1
  ·exact absurd h c2
  ·exact absurd h c3
  ·exact absurd h c4
  ·exact h
 refine ⟨inSum hm,?_⟩
 rw [ifB_true (iltT (by show (20:Int)<(x.num.mag.length:Int)+x.num.dmag.length;omega))]
 exact done
theorem small_late {x:Ex} {lev:Nat} {n:Int} (h0:0≤n) (h1:n≤60) (h:¬ Early x lev n) {S:List (FuncId × SEnt)} (hS:AllOk S) {n':Int} {b:Bool} (A:(AK)→Bool) (hA:∀ I:AK,I (.bool b) (row27 n')=true→A I=true)
  (hrun:∀ I,r27 S x lev n I=top27 x lev n (I (.bool false) (row27 (Int.sub n 1))) (A I)):Sm x lev n n' b:=by
 refine BSim.run hm hX0l hS.mem ok27 (by kernel_rfl) rfl 60 [0] _ hrun ?_
 unfold Early at h
 simp only [not_or] at h
 obtain ⟨c1,c2,c3,c4,c5⟩:=h
 unfold top27
 rw [gB_iff,ifB_false (iltF (a:=Int.sub n 1) c1),ifB_false (iltF (by simp only [Int.ofNat_eq_natCast];omega)),ifB_false (iltF (by simp only [Int.ofNat_eq_natCast];omega)),gB_iff,ifB_false (iltF (by show ¬ (20:Int)<(x.num.mag.length:Int)+x.num.dmag.length;omega))]
 exact ⟨inSub h0 h1,inSum (by omega),hA _ leaf27⟩
theorem sub_of {y:Ex} {lev:Nat} {n n':Int} {b c:Bool} (hl:lev≤40) (h:c=true):sub27 y lev n n' b c=true:=by
 unfold sub27
 rw [gB_iff,gD_iff]
 exact ⟨smallI _ (by omega),h⟩
inductive Fits:Ex→Prop
 | mk (o:Int) (n:List UInt8) (r:Rt) (args:List Ex) (hr:r.mag.length+r.dmag.length<4611686018427387904) (ha:∀ y∈args,Fits y):Fits (.mk o n r args)
def SmOut (x:Ex) (lev:Nat) (n:Int):Prop:=∃ (n':Int) (b:Bool),(b=true→Sml x∧0≤n'∧(x.size:Int)≤n-n'∧n'≤60)∧Sm x lev n n' b
theorem early_out {x:Ex} {lev:Nat} {n:Int} (h:Sm x lev n (Int.sub n 1) false):SmOut x lev n:=⟨_,false,(fun h=>by cases h),h⟩
theorem small_any:∀ {x:Ex},Fits x→∀ (lev:Nat) (n:Int),0≤n→n≤60→SmOut x lev n:=by
 intro x hx
 induction hx with
 | mk o nm r args hr ha ih =>
  intro lev n h0 h1
  by_cases he:Early (.mk o nm r args) lev n
  ·exact early_out (small_early h0 h1 hr he)
  have he':=he
  unfold Early at he'
  simp only [not_or] at he'
  obtain ⟨c1,c2,c3,c4,c5⟩:=he'
  have c3:¬ 4<args.length:=c3
  have c4:¬ 60<nm.length:=c4
  have c5:¬ 20<r.mag.length+r.dmag.length:=c5
  have g0:(0:Int)≤Int.sub n 1:=by show (0:Int)≤n-1;omega
  have g1:Int.sub n 1≤60:=by show n-1≤60;omega
  have gs:Int.sub n 1=n-1:=rfl
  have hsz:=size_mk o nm r args
  rcases args with _ | ⟨y,_ | ⟨z,_ | ⟨u,_ | ⟨v,_ | ⟨w,l⟩⟩⟩⟩⟩
  ·simp only [sizeL] at hsz
   refine ⟨(Int.sub n 1),true,fun _=>⟨.mk _ _ _ _ (by omega) (by omega) (by simp) ?_,by omega,by rw [hsz];omega,by omega⟩,small_late h0 h1 he (S:=[]) trivial (fun I=>I (.bool true) (row27 (Int.sub n 1))) (fun I h=>h) (sm_0_t o nm r  lev n )⟩
   exact fun w hw=>by cases hw
  ·simp only [sizeL] at hsz
   obtain ⟨n0,b,p0,s0⟩:=ih y (by simp) (lev+1) (Int.sub n 1) g0 g1
   cases b with
   | false=>exact ⟨n0,false,(fun h=>by cases h),small_late h0 h1 he (S:=[eSm y (lev+1) (Int.sub n 1) n0 false]) ⟨eSm_ok s0,trivial⟩ (fun I=>sub27 y lev (Int.sub n 1) n0 false (I (.bool false) (row27 n0))) (fun I h=>sub_of (by omega) (h)) (sm_1_0 o nm r y lev n n0)⟩
   | true =>
    have q0:=p0 rfl
    refine ⟨n0,true,fun _=>⟨.mk _ _ _ _ (by omega) (by omega) (by simp) ?_,by omega,by rw [hsz];omega,by omega⟩,small_late h0 h1 he (S:=[eSm y (lev+1) (Int.sub n 1) n0 true]) ⟨eSm_ok s0,trivial⟩ (fun I=>sub27 y lev (Int.sub n 1) n0 true (I (.bool true) (row27 n0))) (fun I h=>sub_of (by omega) (h)) (sm_1_t o nm r y lev n n0)⟩
    exact fun w hw=>by
      ·obtain rfl:=List.mem_singleton.1 hw;exact (p0 rfl).1
  ·simp only [sizeL] at hsz
   obtain ⟨n0,b,p0,s0⟩:=ih y (by simp) (lev+1) (Int.sub n 1) g0 g1
   cases b with
   | false=>exact ⟨n0,false,(fun h=>by cases h),small_late h0 h1 he (S:=[eSm y (lev+1) (Int.sub n 1) n0 false]) ⟨eSm_ok s0,trivial⟩ (fun I=>sub27 y lev (Int.sub n 1) n0 false (I (.bool false) (row27 n0))) (fun I h=>sub_of (by omega) (h)) (sm_2_0 o nm r y z lev n n0)⟩
   | true =>
    obtain ⟨n1,b,p1,s1⟩:=ih z (by simp) (lev+1) n0 (p0 rfl).2.1 (p0 rfl).2.2.2
    cases b with
    | false=>exact ⟨n1,false,(fun h=>by cases h),small_late h0 h1 he (S:=[eSm y (lev+1) (Int.sub n 1) n0 true,eSm z (lev+1) n0 n1 false]) ⟨eSm_ok s0,eSm_ok s1,trivial⟩ (fun I=>sub27 y lev (Int.sub n 1) n0 true (sub27 z lev n0 n1 false (I (.bool false) (row27 n1)))) (fun I h=>sub_of (by omega) (sub_of (by omega) (h))) (sm_2_1 o nm r y z lev n n0 n1)⟩
    | true =>
     have q0:=p0 rfl
     have q1:=p1 rfl
     refine ⟨n1,true,fun _=>⟨.mk _ _ _ _ (by omega) (by omega) (by simp) ?_,by omega,by rw [hsz];omega,by omega⟩,small_late h0 h1 he (S:=[eSm y (lev+1) (Int.sub n 1) n0 true,eSm z (lev+1) n0 n1 true]) ⟨eSm_ok s0,eSm_ok s1,trivial⟩ (fun I=>sub27 y lev (Int.sub n 1) n0 true (sub27 z lev n0 n1 true (I (.bool true) (row27 n1)))) (fun I h=>sub_of (by omega) (sub_of (by omega) (h))) (sm_2_t o nm r y z lev n n0 n1)⟩
     exact fun w hw=>by
       rcases List.mem_cons.1 hw with rfl | hw
       ·exact (p0 rfl).1
       ·obtain rfl:=List.mem_singleton.1 hw;exact (p1 rfl).1
  ·simp only [sizeL] at hsz
   obtain ⟨n0,b,p0,s0⟩:=ih y (by simp) (lev+1) (Int.sub n 1) g0 g1
   cases b with
   | false=>exact ⟨n0,false,(fun h=>by cases h),small_late h0 h1 he (S:=[eSm y (lev+1) (Int.sub n 1) n0 false]) ⟨eSm_ok s0,trivial⟩ (fun I=>sub27 y lev (Int.sub n 1) n0 false (I (.bool false) (row27 n0))) (fun I h=>sub_of (by omega) (h)) (sm_3_0 o nm r y z u lev n n0)⟩
   | true =>
    obtain ⟨n1,b,p1,s1⟩:=ih z (by simp) (lev+1) n0 (p0 rfl).2.1 (p0 rfl).2.2.2
    cases b with
    | false=>exact ⟨n1,false,(fun h=>by cases h),small_late h0 h1 he (S:=[eSm y (lev+1) (Int.sub n 1) n0 true,eSm z (lev+1) n0 n1 false]) ⟨eSm_ok s0,eSm_ok s1,trivial⟩ (fun I=>sub27 y lev (Int.sub n 1) n0 true (sub27 z lev n0 n1 false (I (.bool false) (row27 n1)))) (fun I h=>sub_of (by omega) (sub_of (by omega) (h))) (sm_3_1 o nm r y z u lev n n0 n1)⟩
    | true =>
     obtain ⟨n2,b,p2,s2⟩:=ih u (by simp) (lev+1) n1 (p1 rfl).2.1 (p1 rfl).2.2.2
     cases b with
     | false=>exact ⟨n2,false,(fun h=>by cases h),small_late h0 h1 he (S:=[eSm y (lev+1) (Int.sub n 1) n0 true,eSm z (lev+1) n0 n1 true,eSm u (lev+1) n1 n2 false]) ⟨eSm_ok s0,eSm_ok s1,eSm_ok s2,trivial⟩ (fun I=>sub27 y lev (Int.sub n 1) n0 true (sub27 z lev n0 n1 true (sub27 u lev n1 n2 false (I (.bool false) (row27 n2))))) (fun I h=>sub_of (by omega) (sub_of (by omega) (sub_of (by omega) (h)))) (sm_3_2 o nm r y z u lev n n0 n1 n2)⟩
     | true =>
      have q0:=p0 rfl
      have q1:=p1 rfl
      have q2:=p2 rfl
      refine ⟨n2,true,fun _=>⟨.mk _ _ _ _ (by omega) (by omega) (by simp) ?_,by omega,by rw [hsz];omega,by omega⟩,small_late h0 h1 he (S:=[eSm y (lev+1) (Int.sub n 1) n0 true,eSm z (lev+1) n0 n1 true,eSm u (lev+1) n1 n2 true]) ⟨eSm_ok s0,eSm_ok s1,eSm_ok s2,trivial⟩ (fun I=>sub27 y lev (Int.sub n 1) n0 true (sub27 z lev n0 n1 true (sub27 u lev n1 n2 true (I (.bool true) (row27 n2))))) (fun I h=>sub_of (by omega) (sub_of (by omega) (sub_of (by omega) (h)))) (sm_3_t o nm r y z u lev n n0 n1 n2)⟩
      exact fun w hw=>by
        rcases List.mem_cons.1 hw with rfl | hw
        ·exact (p0 rfl).1
        rcases List.mem_cons.1 hw with rfl | hw
        ·exact (p1 rfl).1
        ·obtain rfl:=List.mem_singleton.1 hw;exact (p2 rfl).1
  ·simp only [sizeL] at hsz
   obtain ⟨n0,b,p0,s0⟩:=ih y (by simp) (lev+1) (Int.sub n 1) g0 g1
   cases b with
   | false=>exact ⟨n0,false,(fun h=>by cases h),small_late h0 h1 he (S:=[eSm y (lev+1) (Int.sub n 1) n0 false]) ⟨eSm_ok s0,trivial⟩ (fun I=>sub27 y lev (Int.sub n 1) n0 false (I (.bool false) (row27 n0))) (fun I h=>sub_of (by omega) (h)) (sm_4_0 o nm r y z u v lev n n0)⟩
   | true =>
    obtain ⟨n1,b,p1,s1⟩:=ih z (by simp) (lev+1) n0 (p0 rfl).2.1 (p0 rfl).2.2.2
    cases b with
    | false=>exact ⟨n1,false,(fun h=>by cases h),small_late h0 h1 he (S:=[eSm y (lev+1) (Int.sub n 1) n0 true,eSm z (lev+1) n0 n1 false]) ⟨eSm_ok s0,eSm_ok s1,trivial⟩ (fun I=>sub27 y lev (Int.sub n 1) n0 true (sub27 z lev n0 n1 false (I (.bool false) (row27 n1)))) (fun I h=>sub_of (by omega) (sub_of (by omega) (h))) (sm_4_1 o nm r y z u v lev n n0 n1)⟩
    | true =>
     obtain ⟨n2,b,p2,s2⟩:=ih u (by simp) (lev+1) n1 (p1 rfl).2.1 (p1 rfl).2.2.2
     cases b with
     | false=>exact ⟨n2,false,(fun h=>by cases h),small_late h0 h1 he (S:=[eSm y (lev+1) (Int.sub n 1) n0 true,eSm z (lev+1) n0 n1 true,eSm u (lev+1) n1 n2 false]) ⟨eSm_ok s0,eSm_ok s1,eSm_ok s2,trivial⟩ (fun I=>sub27 y lev (Int.sub n 1) n0 true (sub27 z lev n0 n1 true (sub27 u lev n1 n2 false (I (.bool false) (row27 n2))))) (fun I h=>sub_of (by omega) (sub_of (by omega) (sub_of (by omega) (h)))) (sm_4_2 o nm r y z u v lev n n0 n1 n2)⟩
     | true =>
      obtain ⟨n3,b,p3,s3⟩:=ih v (by simp) (lev+1) n2 (p2 rfl).2.1 (p2 rfl).2.2.2
      cases b with
      | false=>exact ⟨n3,false,(fun h=>by cases h),small_late h0 h1 he (S:=[eSm y (lev+1) (Int.sub n 1) n0 true,eSm z (lev+1) n0 n1 true,eSm u (lev+1) n1 n2 true,eSm v (lev+1) n2 n3 false]) ⟨eSm_ok s0,eSm_ok s1,eSm_ok s2,eSm_ok s3,trivial⟩ (fun I=>sub27 y lev (Int.sub n 1) n0 true (sub27 z lev n0 n1 true (sub27 u lev n1 n2 true (sub27 v lev n2 n3 false (I (.bool false) (row27 n3)))))) (fun I h=>sub_of (by omega) (sub_of (by omega) (sub_of (by omega) (sub_of (by omega) (h))))) (sm_4_3 o nm r y z u v lev n n0 n1 n2 n3)⟩
      | true =>
       have q0:=p0 rfl
       have q1:=p1 rfl
       have q2:=p2 rfl
       have q3:=p3 rfl
       refine ⟨n3,true,fun _=>⟨.mk _ _ _ _ (by omega) (by omega) (by simp) ?_,by omega,by rw [hsz];omega,by omega⟩,small_late h0 h1 he (S:=[eSm y (lev+1) (Int.sub n 1) n0 true,eSm z (lev+1) n0 n1 true,eSm u (lev+1) n1 n2 true,eSm v (lev+1) n2 n3 true]) ⟨eSm_ok s0,eSm_ok s1,eSm_ok s2,eSm_ok s3,trivial⟩ (fun I=>sub27 y lev (Int.sub n 1) n0 true (sub27 z lev n0 n1 true (sub27 u lev n1 n2 true (sub27 v lev n2 n3 true (I (.bool true) (row27 n3)))))) (fun I h=>sub_of (by omega) (sub_of (by omega) (sub_of (by omega) (sub_of (by omega) (h))))) (sm_4_t o nm r y z u v lev n n0 n1 n2 n3)⟩
       exact fun w hw=>by
         rcases List.mem_cons.1 hw with rfl | hw
         ·exact (p0 rfl).1
         rcases List.mem_cons.1 hw with rfl | hw
         ·exact (p1 rfl).1
         rcases List.mem_cons.1 hw with rfl | hw
         ·exact (p2 rfl).1
         ·obtain rfl:=List.mem_singleton.1 hw;exact (p3 rfl).1
  ·simp at c3
def e27 (x:Ex) (n':Int) (b:Bool):FuncId × SEnt:=(20,⟨[exA x,.int .i64 (.ofNat 1),.ptr 1 0],[(1,[.int .i64 60],[.int .i64 n'])],.bool b⟩)
theorem few_any {x:Ex} (hx:Fits x):∃ b:Bool,(b=true→Sml x∧x.size≤60)∧BSim Tryz.prog 5 [exA x] [] [] (.bool b):=by
 obtain ⟨n',b,hb,h⟩:=small_any hx 1 60 (by decide) (by decide)
 refine ⟨b,fun e=>⟨(hb e).1,by have:=hb e;omega⟩,?_⟩
 refine BSim.run hm hX0l (S:=[e27 x n' b]) (AllOk.mem ⟨h.spec1 1 rfl,trivial⟩) ok15 (by kernel_rfl) rfl 60 [] (fun I=>gD (e27 x n' b) (I (.bool b) [])) (fun I=>by kernel_rfl) ?_
 rw [gD_iff]
 exact bleaf rfl
end
end Go.Proofs.YtodjhpjcgggamaaGreatDoor

namespace Go.Proofs.YtodjhpjcgggamaaGreatDoor
open Go Go.Eng Go.Vi Go.Knuth
def mg (n:Nat):List UInt8:=if _h:n=0 then [] else mg (n / 256)++[UInt8.ofNat (n % 256)]
 termination_by n
 decreasing_by omega
theorem mg_zero:mg 0=[]:=by rw [mg];simp
theorem mg_pos {n:Nat} (h:n≠0):mg n=mg (n / 256)++[UInt8.ofNat (n % 256)]:=by rw [mg,dif_neg h]
theorem mg_be (n:Nat):be (mg n)=n:=by
 induction n using Nat.strongRecOn with
 | ind n ih =>
  by_cases h:n=0
  ·subst h;rw [mg_zero];rfl
  ·rw [mg_pos h,be_snoc,ih _ (by omega),UInt8.toNat_ofNat']
   omega
theorem mg_nz (n:Nat):NZ (mg n):=by
 induction n using Nat.strongRecOn with
 | ind n ih =>
  by_cases h:n=0
  ·subst h;rw [mg_zero];intro b r e;cases e
  ·rw [mg_pos h]
   intro b r e
   by_cases h2:n / 256=0
   ·rw [h2,mg_zero] at e
    simp only [List.nil_append,List.cons.injEq] at e
    obtain ⟨rfl,_⟩:=e
    intro h3
    have:=congrArg UInt8.toNat h3
    rw [UInt8.toNat_ofNat'] at this
    have:n % 256 % 256=0:=this
    omega
   ·obtain ⟨c,m,hm⟩:∃ c m,mg (n / 256)=c::m:=by
     cases hh:mg (n / 256) with
     | nil=>have:=mg_be (n / 256);rw [hh] at this;exact absurd this.symm h2
     | cons c m=>exact ⟨c,m,rfl⟩
    have:=ih (n / 256) (by omega) c m hm
    rw [hm] at e
    simp only [List.cons_append,List.cons.injEq] at e
    rw [← e.1];exact this
theorem be_inj_len:∀ {x y:List UInt8},x.length=y.length→be x=be y→x=y:=by
 intro x
 induction x with
 | nil=>intro y h _;exact (List.eq_nil_of_length_eq_zero h.symm).symm
 | cons a x ih =>
  intro y h e
  cases y with
  | nil=>cases h
  | cons b y =>
   have hl:x.length=y.length:=by simpa using h
   rw [be_cons,be_cons,hl] at e
   have h1:=be_lt x
   have h2:=be_lt y
   rw [hl] at h1
   have h0:0<256 ^ y.length:=Nat.pow_pos (by decide)
   have e1:a.toNat=b.toNat:=by
    have e2:(a.toNat*256 ^ y.length+be x) / 256 ^ y.length=(b.toNat*256 ^ y.length+be y) / 256 ^ y.length:=by rw [e]
    rw [Nat.add_comm,Nat.add_mul_div_right _ _ h0,Nat.div_eq_of_lt h1,Nat.add_comm (b.toNat*_),Nat.add_mul_div_right _ _ h0,Nat.div_eq_of_lt h2] at e2
    omega
   rw [e1] at e
   rw [ih hl (by omega),UInt8.toNat_inj.1 e1]
theorem be_inj {x y:List UInt8} (hx:NZ x) (hy:NZ y) (h:be x=be y):x=y:=by
 have hl:x.length=y.length:=by
  rcases Nat.lt_trichotomy x.length y.length with h1 | h1 | h1
  ·have:=be_len_lt hy h1;omega
  ·exact h1
  ·have:=be_len_lt hx h1;omega
 exact be_inj_len hl h
theorem mg_uniq {l:List UInt8} {n:Nat} (h:be l=n) (hz:NZ l):l=mg n:=be_inj hz (mg_nz n) (by rw [h,mg_be])
theorem mg_len {n k:Nat} (h:n<256 ^ k):(mg n).length≤k:=by
 by_cases h0:mg n=[]
 ·rw [h0];simp
 ·have:=be_ge (mg_nz n) h0
  rw [mg_be] at this
  apply Nat.le_of_not_lt
  intro hk
  have:256 ^ k≤256 ^ ((mg n).length-1):=Nat.pow_le_pow_right (by decide) (by omega)
  omega
theorem mg_len8 {n:Nat} (h:n<18446744073709551616):(mg n).length≤8:=mg_len (by rw [show (256:Nat) ^ 8=18446744073709551616 by decide];exact h)
theorem mg_cons {n:Nat} (h:n≠0):∃ c m,mg n=c::m:=by
 cases hh:mg n with
 | nil=>have:=mg_be n;rw [hh] at this;exact absurd this.symm h
 | cons c m=>exact ⟨c,m,rfl⟩
theorem mg_one:mg 1=[1]:=by
 rw [mg_pos (by decide),show 1 / 256=0 by decide,mg_zero];rfl
theorem mg_z (u:Nat) (hu:u<18446744073709551616):BSim Tryz.prog 151 [.int .u64 (.ofNat u)] [] [] (strA (mg u)):=by
 obtain ⟨l,h1,h2,h3⟩:=mag_c u hu
 rw [← mg_uniq h1 h2];exact h3
theorem words_z {x y:Nat} (hx:x<18446744073709551616) (hy:y<18446744073709551616) :
  BSim Tryz.prog 149 [strA (mg x),strA (mg y)] [] [] (.tuple [.int .u64 (.ofNat x),.int .u64 (.ofNat y),.bool true]):=by
 have h:=words_c (mg x) (mg y)
 unfold wordsA at h
 have e1:=mg_len8 hx
 have e2:=mg_len8 hy
 have a1:wordN (mg x)=x:=by unfold wordN;rw [if_pos e1,mg_be]
 have a2:wordN (mg y)=y:=by unfold wordN;rw [if_pos e2,mg_be]
 simpa [a1,a2,e1,e2] using h
theorem less_tot:∀ (x y:List UInt8),x.length=y.length→x≠y→Op.bytesLess x y=false→be y<be x:=by
 intro x
 induction x with
 | nil=>intro y h hn;cases y with | nil=>exact absurd rfl hn | cons=>cases h
 | cons a x ih =>
  intro y h hn hb
  cases y with
  | nil=>cases h
  | cons b y =>
   have hl:x.length=y.length:=by simpa using h
   rw [be_cons,be_cons,hl]
   have h1:=be_lt x
   have h2:=be_lt y
   rw [hl] at h1
   simp only [Op.bytesLess] at hb
   by_cases hab:a=b
   ·subst hab
    have:=ih y hl (fun e=>hn (by rw [e])) (by simpa using hb)
    omega
   ·have h3:b.toNat<a.toNat:=by
     have:¬ a<b:=by intro h;simp [h] at hb
     have h4:¬ a.toNat<b.toNat:=by intro h;exact this (UInt8.lt_iff_toNat_lt.2 h)
     have h5:a.toNat≠b.toNat:=fun e=>hab (UInt8.toNat_inj.1 e)
     omega
    calc b.toNat*256 ^ y.length+be y<(b.toNat+1)*256 ^ y.length:=by rw [Nat.add_mul];omega
     _≤a.toNat*256 ^ y.length:=Nat.mul_le_mul_right _ h3
     _≤_:=Nat.le_add_right _ _
theorem cmp_be {x y:List UInt8} (hx:NZ x) (hy:NZ y):compareN x y=cmpN (be x) (be y):=by
 unfold compareN
 rcases Nat.lt_trichotomy x.length y.length with h | h | h
 ·have e:cmpN x.length y.length=-1:=if_pos h
  rw [e,if_neg (by decide)]
  exact (if_pos (be_len_lt hy h)).symm
 ·have e:cmpN x.length y.length=0:=by unfold cmpN;rw [if_neg (by omega),if_neg (by omega)]
  rw [e,if_pos rfl]
  unfold scmpN
  by_cases hxy:x=y
  ·subst hxy;rw [if_pos rfl];unfold cmpN;rw [if_neg (by omega),if_neg (by omega)]
  ·rw [if_neg hxy]
   cases hb:Op.bytesLess x y with
   | true=>rw [if_pos rfl];exact (if_pos (less_be x y h hb)).symm
   | false =>
    have:=less_tot x y h hxy hb
    rw [if_neg (by decide)];unfold cmpN;rw [if_neg (by omega),if_pos this]
 ·have e:cmpN x.length y.length=1:=by unfold cmpN;rw [if_neg (by omega),if_pos h]
  rw [e,if_neg (by decide)]
  have:=be_len_lt hx h
  unfold cmpN;rw [if_neg (by omega),if_pos this]
theorem compare_z (x y:Nat):BSim Tryz.prog 148 [strA (mg x),strA (mg y)] [] [] (.int .i64 (cmpN x y)):=by
 have h:=compare_c (mg x) (mg y)
 rw [cmp_be (mg_nz x) (mg_nz y),mg_be,mg_be] at h
 exact h
end Go.Proofs.YtodjhpjcgggamaaGreatDoor

namespace Go.Proofs.YtodjhpjcgggamaaGreatDoor
open Go Go.Eng Go.Vi Go.Knuth
noncomputable section
theorem SSpec.ext [Go.Eng.Mode] {f:FuncId} {x:Ext} (hX:ExtSpec Tryz.prog f x) {args:List AV} {v:AV} (h:extA x args (fun u=>pdec (u=v))=true):SSpec Tryz.prog f ⟨args,[],v⟩:=by
 intro M M' hu
 obtain rfl:M'=M:=hu
 obtain ⟨u,hu,H⟩:=ExtSpec.ext hX args _ h
 obtain rfl:=pdec_iff.1 hu
 intro w0 R ρ w cargs hM hv
 obtain ⟨cv,hr,hrun⟩:=H ρ cargs hv
 exact .inl ⟨ρ,cv,w,.refl _,hr,hM,hrun w⟩
section
local instance : Go.Eng.Mode := Sl
def eWs (x y:List UInt8) (n m:Nat):FuncId × SEnt:=(149,⟨[strA x,strA y],[],.tuple [.int .u64 (.ofNat n),.int .u64 (.ofNat m),.bool true]⟩)
def eMgz (e:Int) (l:List UInt8):FuncId × SEnt:=(151,⟨[.int .u64 e],[],strA l⟩)
def eA64 (n m s:Nat):FuncId × SEnt:=(189,⟨[.int .u64 (.ofNat n),.int .u64 (.ofNat m),.int .u64 0],[],.tuple [.int .u64 (.ofNat s),.int .u64 0]⟩)
def eM64 (n m s:Nat):FuncId × SEnt:=(195,⟨[.int .u64 (.ofNat n),.int .u64 (.ofNat m)],[],.tuple [.int .u64 0,.int .u64 (.ofNat s)]⟩)
theorem sl_leaf (l:List UInt8) {π:List Nat} {bs:List (Option Blk)}:Leaf 0 π [] (strA l) (strA l) bs:=Leaf.flat fun _ _=>.plain (.str l.length (enc l))
theorem a64_z {n m:Nat} (h:n+m<18446744073709551616):SSpec Tryz.prog (eA64 n m (n+m)).1 (eA64 n m (n+m)).2:=by
 refine SSpec.ext (x:=.add64) (hX1 189 .add64 rfl) ?_
 show pdec (AV.tuple [.int .u64 (.ofNat (((n.add m).add 0).mod 18446744073709551616)),.int .u64 (.ofNat (((n.add m).add 0).div 18446744073709551616))]=AV.tuple [.int .u64 (.ofNat (n+m)),.int .u64 0])=true
 have e1:((n.add m).add 0).mod 18446744073709551616=n+m:=Nat.mod_eq_of_lt h
 have e2:((n.add m).add 0).div 18446744073709551616=0:=Nat.div_eq_of_lt h
 rw [e1,e2]
 exact pdec_iff.2 rfl
theorem okAdd0:FnOk Tryz.prog 172 Tryz.f172:=⟨Tryz.func172,by kernel_rfl,by kernel_rfl⟩
theorem okSub0:FnOk Tryz.prog 173 Tryz.f173:=⟨Tryz.func173,by kernel_rfl,by kernel_rfl⟩
theorem okMul0:FnOk Tryz.prog 183 Tryz.f183:=⟨Tryz.func183,by kernel_rfl,by kernel_rfl⟩
theorem okMul64:FnOk Tryz.prog 195 Tryz.f195:=⟨Tryz.func195,by kernel_rfl,by kernel_rfl⟩
theorem add0_run (x y l:List UInt8) (n m s:Nat) (I:AK):runF Tryz.f172 [eWs x y n m,eA64 n m s,eMgz (.ofNat s) l] [strA x,strA y] I=gC (eWs x y n m) (gC (eA64 n m s) (gC (eMgz (.ofNat s) l) (I (strA l) []))):=by kernel_rfl
theorem add0_z {x y:Nat} (h:x+y<18446744073709551616):BSim Tryz.prog 172 [strA (mg x),strA (mg y)] [] [] (strA (mg (x+y))):=by
 refine BSim.run hm hX0l (S:=[eWs (mg x) (mg y) x y,eA64 x y (x+y),eMgz (.ofNat (x+y)) (mg (x+y))]) (AllOk.mem ⟨(words_z (by omega) (by omega)).spec0 rfl,a64_z h,(mg_z _ h).spec0 rfl,trivial⟩) okAdd0 (by kernel_rfl) rfl 300 [] _ (add0_run _ _ _ _ _ _) ?_
 simp only [gC_iff]
 exact pdec_iff.2 (sl_leaf _)
theorem sub0_run (x y l:List UInt8) (n m:Nat) (I:AK):runF Tryz.f173 [eWs x y n m,eMgz (IntKind.u64.wrap ((Int.ofNat n).sub (Int.ofNat m))) l] [strA x,strA y] I=gC (eWs x y n m) (gC (eMgz (IntKind.u64.wrap ((Int.ofNat n).sub (.ofNat m))) l) (I (strA l) [])):=by kernel_rfl
theorem sub0_z {x y:Nat} (h:y≤x) (hx:x<18446744073709551616):BSim Tryz.prog 173 [strA (mg x),strA (mg y)] [] [] (strA (mg (x-y))):=by
 have e:IntKind.u64.wrap ((Int.ofNat x).sub (Int.ofNat y))=.ofNat (x-y):=by
  have:(Int.ofNat x).sub (Int.ofNat y)=.ofNat (x-y):=by show (Int.ofNat x)-(Int.ofNat y)=_;simp only [Int.ofNat_eq_natCast];omega
  rw [this,wrapU64 _ (by omega)]
 refine BSim.run hm hX0l (S:=[eWs (mg x) (mg y) x y,eMgz (IntKind.u64.wrap ((Int.ofNat x).sub (Int.ofNat y))) (mg (x-y))]) (AllOk.mem ⟨(words_z (by omega) (by omega)).spec0 rfl,by rw [e];exact (mg_z _ (by omega)).spec0 rfl,trivial⟩) okSub0 (by kernel_rfl) rfl 300 [] _ (sub0_run _ _ _ _ _) ?_
 simp only [gC_iff]
 exact pdec_iff.2 (sl_leaf _)
def lowP (a:Int):Int:=IntKind.u64.wrap (.ofNat (Nat.land (toU .u64 a) (toU .u64 4294967295)))
def hiP (a:Int):Int:=fdivP a (Nat.pow 2 (shAmt .u64 32))
def wMul (a b:Int):Int:=IntKind.u64.wrap (Int.mul a b)
def wAdd (a b:Int):Int:=IntKind.u64.wrap (Int.add a b)
def mulT (x y:Int):Int:=wAdd (wMul (hiP x) (lowP y)) (hiP (wMul (lowP x) (lowP y)))
def mulH (x y:Int):Int:=wAdd (wAdd (wMul (hiP x) (hiP y)) (hiP (mulT x y))) (hiP (wAdd (lowP (mulT x y)) (wMul (lowP x) (hiP y))))
theorem mul64_run (n m:Nat) (I:AK):runF Tryz.f195 [] [.int .u64 (.ofNat n),.int .u64 (.ofNat m)] I=I (.tuple [.int .u64 (mulH (.ofNat n) (.ofNat m)),.int .u64 (wMul (.ofNat n) (.ofNat m))]) []:=by kernel_rfl
theorem lowP_small {n:Nat} (h:n<4294967296):lowP (.ofNat n)=.ofNat n:=by
 unfold lowP
 rw [toU64 n (by omega)]
 have e:toU .u64 4294967295=4294967295:=rfl
 rw [e]
 have:Nat.land n 4294967295=n:=by
  have:=Nat.and_two_pow_sub_one_eq_mod n 32
  rw [show (2:Nat) ^ 32-1=4294967295 by decide,show (2:Nat) ^ 32=4294967296 by decide,Nat.mod_eq_of_lt h] at this
  exact this
 rw [this,wrapU64 _ (by omega)]
theorem hiP_eq (n:Nat):hiP (.ofNat n)=.ofNat (n / 4294967296):=rfl
theorem wMul_eq {n m:Nat} (h:n*m<18446744073709551616):wMul (.ofNat n) (.ofNat m)=.ofNat (n*m):=by
 unfold wMul
 have:Int.mul (.ofNat n) (.ofNat m)=.ofNat (n*m):=rfl
 rw [this,wrapU64 _ h]
theorem wAdd_eq {n m:Nat} (h:n+m<18446744073709551616):wAdd (.ofNat n) (.ofNat m)=.ofNat (n+m):=by
 unfold wAdd
 have:Int.add (.ofNat n) (.ofNat m)=.ofNat (n+m):=rfl
 rw [this,wrapU64 _ h]
theorem mul_small {n m:Nat} (hn:n<4294967296) (hm':m<4294967296):n*m<18446744073709551616:=by
 calc n*m≤4294967295*4294967295:=Nat.mul_le_mul (by omega) (by omega)
  _<_:=by decide
theorem mul64_z {n m:Nat} (hn:n<4294967296) (hm':m<4294967296):BSim Tryz.prog 195 [.int .u64 (.ofNat n),.int .u64 (.ofNat m)] [] [] (.tuple [.int .u64 0,.int .u64 (.ofNat (n*m))]):=by
 have hs:=mul_small hn hm'
 have e1:n / 4294967296=0:=Nat.div_eq_of_lt hn
 have e2:m / 4294967296=0:=Nat.div_eq_of_lt hm'
 have ht:n*m / 4294967296<4294967296:=by omega
 have e3:mulT (.ofNat n) (.ofNat m)=.ofNat (n*m / 4294967296):=by
  unfold mulT
  rw [lowP_small hn,lowP_small hm',hiP_eq,e1,wMul_eq (by omega),wMul_eq hs,hiP_eq,wAdd_eq (by omega)]
  simp
 have e4:mulH (.ofNat n) (.ofNat m)=0:=by
  unfold mulH
  rw [e3,hiP_eq,hiP_eq,hiP_eq,e1,e2,lowP_small ht,lowP_small hn,wMul_eq (by omega),wMul_eq (by omega),wAdd_eq (by omega),wAdd_eq (by omega),hiP_eq,wAdd_eq (by omega)]
  have e5:n*m / 4294967296 / 4294967296=0:=Nat.div_eq_of_lt ht
  simp only [e5,Nat.mul_zero,Nat.add_zero,Nat.zero_add]
  rfl
 refine BSim.run hm hX0l (S:=[]) (fun _ h=>by cases h) okMul64 (by kernel_rfl) rfl 300 [] _ (mul64_run n m) ?_
 rw [e4,wMul_eq hs]
 exact pdec_iff.2 (Leaf.flat fun _ _=>.tuple _ _ (.cons _ _ _ _ (.plain (.int .u64 0)) (.cons _ _ _ _ (.plain (.int .u64 (.ofNat (n*m)))) .nil)))
theorem mul0_run (x y l:List UInt8) (n m s:Nat) (I:AK):runF Tryz.f183 [eWs x y n m,eM64 n m s,eMgz (.ofNat s) l] [strA x,strA y] I=gC (eWs x y n m) (gC (eM64 n m s) (gC (eMgz (.ofNat s) l) (I (strA l) []))):=by kernel_rfl
theorem mul0_z {x y:Nat} (hx:x<4294967296) (hy:y<4294967296):BSim Tryz.prog 183 [strA (mg x),strA (mg y)] [] [] (strA (mg (x*y))):=by
 refine BSim.run hm hX0l (S:=[eWs (mg x) (mg y) x y,eM64 x y (x*y),eMgz (.ofNat (x*y)) (mg (x*y))]) (AllOk.mem ⟨(words_z (by omega) (by omega)).spec0 rfl,(mul64_z hx hy).spec0 rfl,(mg_z _ (mul_small hx hy)).spec0 rfl,trivial⟩) okMul0 (by kernel_rfl) rfl 300 [] _ (mul0_run _ _ _ _ _ _) ?_
 simp only [gC_iff]
 exact pdec_iff.2 (sl_leaf _)
def dQ (n m:Nat):Int:=IntKind.u64.wrap ((Int.ofNat n).tdiv (Int.ofNat (m+1)))
def dR (n m:Nat):Int:=(Int.ofNat n).tmod (Int.ofNat (m+1))
theorem div0_run (x y q r:List UInt8) (n m:Nat) (I:AK):runF Tryz.f152 [eWs x y n (m+1),eMgz (dQ n m) q,eMgz (dR n m) r] [strA x,strA y] I=gC (eWs x y n (m+1)) (gC (eMgz (dQ n m) q) (gC (eMgz (dR n m) r) (I (.tuple [strA q,strA r]) []))):=by kernel_rfl
theorem div0_z {x y:Nat} (hx:x<18446744073709551616) (hy:y<18446744073709551616) (h0:y≠0):BSim Tryz.prog 152 [strA (mg x),strA (mg y)] [] [] (.tuple [strA (mg (x / y)),strA (mg (x % y))]):=by
 obtain ⟨m,rfl⟩:∃ m,y=m+1:=⟨y-1,by omega⟩
 have hq:x / (m+1)≤x:=Nat.div_le_self _ _
 have hr:x % (m+1)≤x:=Nat.mod_le _ _
 have e1:dQ x m=.ofNat (x / (m+1)):=by
  unfold dQ
  have:(Int.ofNat x).tdiv (Int.ofNat (m+1))=.ofNat (x / (m+1)):=rfl
  rw [this,wrapU64 _ (by omega)]
 have e2:dR x m=.ofNat (x % (m+1)):=rfl
 refine BSim.run hm hX0l (S:=[eWs (mg x) (mg (m+1)) x (m+1),eMgz (dQ x m) (mg (x / (m+1))),eMgz (dR x m) (mg (x % (m+1)))])
  (AllOk.mem ⟨(words_z (by omega) (by omega)).spec0 rfl,by rw [e1];exact (mg_z _ (by omega)).spec0 rfl,by rw [e2];exact (mg_z _ (by omega)).spec0 rfl,trivial⟩) ok111 (by kernel_rfl) rfl 300 [] _ (div0_run _ _ _ _ _ _) ?_
 simp only [gC_iff]
 exact pdec_iff.2 (Leaf.flat fun _ _=>.tuple _ _ (.cons _ _ _ _ (.plain (.str _ _)) (.cons _ _ _ _ (.plain (.str _ _)) .nil)))
end
end
end Go.Proofs.YtodjhpjcgggamaaGreatDoor

namespace Go.Proofs.YtodjhpjcgggamaaGreatDoor
open Go Go.Eng Go.Vi Go.Knuth
section
local instance : Go.Eng.Mode := Sy
theorem finG86 {Pr:AV→Prop} {fr:Fr} {M:Mem} {l:List UInt8} (hp:Pr (intA false l)) (h1:lv [4] fr=[some (.ptr 0 0)]) (h2:mv [0] M=[some (.row [.bool false,strA l] false 1)]):FinEx Tryz.prog Tryz.f116 0 [] Pr .ret fr M:=by
 simp only [lv,mv,List.map_cons,List.map_nil,List.cons.injEq] at h1 h2
 refine ⟨.agg [.bool false,strA l],hp,.inr rfl,[.agg [.bool false,strA l]],?_,.aggs [.bool false,.str l.length (enc l)],fun j r hj=>by simp at hj⟩
 rw [res86]
 show getT fr 4 (fun p=>loadA Tryz.prog 23 p M fun v=>pdec ([v]=[.agg [.bool false,strA l]]))=true
 rw [getT_iff]
 refine ⟨.ptr 0 0,h1.1,?_⟩
 show (match M.t.get 0 with
  | some (.row c _ _)=>partK Tryz.prog 23 c 0 _
  | _=>false)=true
 rw [h2.1]
 exact (part35 l _).trans (pdec_iff.2 rfl)
theorem gcd_step (p q:Nat):Nat.gcd (q+1) (p % (q+1))=Nat.gcd p (q+1):=by
 rw [Nat.gcd_comm p,Nat.gcd_rec (q+1) p,Nat.gcd_comm]
theorem inner_gcd (u v:Nat) {fr:Fr} {M:Mem} (hl:lv [4,7,8] fr=vls (uvS u v)) (hm0:mv [0] M=rws gRow) :
  W Tryz.prog T86 0 (.loop bodyI) fr M fun o fr' M'=>o=.exit 2∧lv [4,7,8] fr'=vls (uvS (Nat.gcd u v) 0)∧mv [0] M'=rws gRow:=by
 refine W.loop (σ:={ p:Nat × Nat // Nat.gcd p.1 p.2=Nat.gcd u v }) (fun s fr M=>lv [4,7,8] fr=vls (uvS s.1.1 s.1.2)∧mv [0] M=rws gRow) (fun s=>s.1.2) ?_ ⟨(u,v),rfl⟩ ⟨hl,hm0⟩
 rintro ⟨⟨p,q⟩,hp⟩ fr M ⟨hl,hm0⟩
 simp only at hl hp
 refine W.fromG (uvS p q) (uvS_ren p q) hl hm0 ?_
 cases q with
 | zero =>
  refine W.run hm hX0 (S:=[]) (fun _ h=>by cases h) 300 _ [0] _ (g_in0 p) (pdec_iff.2 fun fr1 M1 hl1 hm1=>?_)
  rw [Nat.gcd_zero_right] at hp
  subst hp
  exact .inr ⟨by simp,rfl,hl1,hm1⟩
 | succ q =>
  refine W.run hm hX0 (S:=[]) (fun _ h=>by cases h) 300 _ [0] _ (g_in p q) (pdec_iff.2 fun fr1 M1 hl1 hm1=>?_)
  have h1:p % (q+1)<q+1:=Nat.mod_lt _ (by omega)
  exact .inl ⟨rfl,⟨(q+1,p % (q+1)),(gcd_step p q).trans hp⟩,h1,hl1,hm1⟩
theorem gcd_z {a b:Nat} (na nb:Bool) (ha:a<18446744073709551616) (hb:b<18446744073709551616):BSim Tryz.prog 116 [intA na (mg a),intA nb (mg b)] [] [] (intA false (mg (Nat.gcd a b))):=by
 suffices h:∃ ans,ans=intA false (mg (Nat.gcd a b))∧BSim Tryz.prog 116 [.agg [.bool na,strA (mg a)],.agg [.bool nb,strA (mg b)]] [] [] ans by
  obtain ⟨_,rfl,h⟩:=h
  exact h
 refine BSim.of_WEx ok86 (by kernel_rfl) rfl ?_
 refine W.runN hm hX0 (S:=[]) (fun _ h=>by cases h) 300 2 [4,5,6] [2] _ (g_start (mg a) (mg b) na nb) (pdec_iff.2 fun fr1 M1 hl1 hm1=>?_)
 show W Tryz.prog T86 0 (post 2 c86) fr1 M1 _
 refine W.next (π:=[2]) hl1 hm1 (gS (mg a) (mg b)) gRow rfl rfl (by rfl) (by rfl) (by simp) (by simp) ?_
 refine W.parts (by kernel_rfl) ?_
 rw [g_blk0]
 refine W.block ?_
 refine W.loop (σ:=Unit) (fun _ fr M=>lv [4,5,6] fr=vls (gS (mg a) (mg b))∧mv [0] M=rws gRow) (fun _=>0) ?_ () ⟨rfl,rfl⟩
 rintro _ fr M ⟨hl,hm0⟩
 refine W.fromG (gS (mg a) (mg b)) (gS_ren _ _) hl hm0 ?_
 by_cases hb0:b=0
 ·subst hb0
  rw [mg_zero] at hl ⊢
  rw [Nat.gcd_zero_right]
  refine W.parts (by kernel_rfl) (W.run hm hX0 (S:=[]) (fun _ h=>by cases h) 300 _ [0] _ (g_exit (mg a)) (pdec_iff.2 fun fr2 M2 hl2 hm2=>?_))
  refine .inr ⟨by simp,Blkd_eq ?_⟩
  show W Tryz.prog T86 0 (rhs (post 2 c86)) fr2 M2 _
  refine W.fromG (gS (mg a) []) (gS_ren _ []) hl2 hm2 ?_
  exact W.run hm hX0 (S:=[]) (fun _ h=>by cases h) 300 _ [0] _ (g_end (mg a)) (pdec_iff.2 fun fr3 M3 hl3 hm3=>finG86 rfl hl3 hm3)
 ·have hw:(mg a).length≤8∧(mg b).length≤8:=⟨mg_len8 ha,mg_len8 hb⟩
  have w1:wordN (mg a)=a:=by unfold wordN;rw [if_pos hw.1,mg_be]
  have w2:wordN (mg b)=b:=by unfold wordN;rw [if_pos hw.2,mg_be]
  have hcb:=mg_cons hb0
  generalize hx:mg a=x at *
  generalize hy:mg b=y' at *
  obtain ⟨c,y,rfl⟩:=hcb
  refine W.parts (by kernel_rfl) (W.run hm hX0 (S:=[]) (fun _ h=>by cases h) 300 _ [0] _ (g_head x y c) (pdec_iff.2 fun fr2 M2 hl2 hm2=>?_))
  show W Tryz.prog T86 0 (rhs body86) fr2 M2 _
  rw [g_blk1]
  generalize c::y=y' at *
  refine W.fromG (gS x y') (gS_ren x y') hl2 hm2 (W.block ?_)
  refine W.parts (by kernel_rfl) (W.parts (by kernel_rfl) ?_)
  refine W.run hm hX0 (S:=[eWordsT x y']) (AllOk.mem ⟨eWordsT_ok hw,trivial⟩) 300 [4,7,8,9] [0] _ (g_words x y') ?_
  rw [gC_iff]
  refine pdec_iff.2 fun fr3 M3 hl3 hm3=>?_
  have hl3':fr3.get 4::fr3.get 7::fr3.get 8::[fr3.get 9]=[some (.ptr 0 0),some (.int .u64 (.ofNat (wordN x))),some (.int .u64 (.ofNat (wordN y'))),some (.bool true)]:=hl3
  show W Tryz.prog T86 0 (rhs (lhs blk86)) fr3 M3 _
  refine W.parts (by kernel_rfl) ?_
  refine W.next (ts:=[4,7,8,9]) (π:=[0]) hl3' hm3 (uvS (wordN x) (wordN y')++[(9,.bool true)]) gRow rfl rfl gRow_ren (by rfl) (by simp) (by simp [rws,gRow]) ?_
  refine W.run hm hX0 (S:=[]) (fun _ h=>by cases h) 300 [4,7,8,25] [0] _ (g_cond (wordN x) (wordN y')) (pdec_iff.2 fun fr4 M4 hl4 hm4=>?_)
  have hl4':fr4.get 4::fr4.get 7::fr4.get 8::[fr4.get 25]=[some (.ptr 0 0),some (.int .u64 (.ofNat (wordN x))),some (.int .u64 (.ofNat (wordN y'))),some (.bool true)]:=hl4
  simp only [List.cons.injEq] at hl4'
  show W Tryz.prog T86 0 (rhs (rhs (lhs blk86))) fr4 M4 _
  rw [g_if]
  refine W.cond true hl4'.2.2.2.1 (fun _=>?_) (fun h=>by cases h)
  refine W.parts (by kernel_rfl) ?_
  rw [g_blk2]
  refine W.block ((inner_gcd (wordN x) (wordN y') (fr:=fr4) (by show [fr4.get 4,fr4.get 7,fr4.get 8]=_;rw [hl4'.1,hl4'.2.1,hl4'.2.2.1];rfl) hm4).mono fun o fr5 M5 h=>?_)
  obtain ⟨rfl,hl5,hm5⟩:=h
  refine Blkd_eq ?_
  show W Tryz.prog T86 0 (rhs inn86) fr5 M5 _
  rw [w1,w2] at hl5
  have hg:Nat.gcd a b<18446744073709551616:=by
   have:=Nat.gcd_le_right a (show 0<b by omega)
   omega
  refine W.fromG (uvS (Nat.gcd a b) 0) (uvS_ren _ 0) hl5 hm5 ?_
  refine W.run hm hX0 (S:=[eMag (Nat.gcd a b) (mg (Nat.gcd a b))]) (AllOk.mem ⟨eMag_ok (mg_z _ hg),trivial⟩) 300 [4] [0] _ (g_mag _ _) ?_
  rw [gC_iff]
  refine pdec_iff.2 fun fr6 M6 hl6 hm6=>?_
  exact .inr ⟨by simp,finG86 rfl hl6 hm6⟩
end
end Go.Proofs.YtodjhpjcgggamaaGreatDoor

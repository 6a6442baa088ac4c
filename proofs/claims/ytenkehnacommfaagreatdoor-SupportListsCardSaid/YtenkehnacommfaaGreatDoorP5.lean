/-
  Part 5: a symbolic executor over the model, contracts of functions and plain laws.
-/
import Derived.Test.YtenkehnacommfaaGreatDoorP4
import Derived.Shelf.Strconv.Itoa3
import Derived.Shelf.Strconv.AtoiAll
import Derived.Shelf.Strings.Repeat
import Derived.Shelf.Strings.SlTrimAscii
import Derived.Shelf.Strings.Search3
import Derived.Shelf.Strings.Builder1
import Derived.Test.YtenkehnacommfaaGreatDoorProg
import Derived.Lib.SmallJoins
import Derived.Lib.AtoiAllCases
import Derived.Lib.AppendIntMem
import Derived.Lib.Bytealg
set_option linter.unusedVariables false
set_option linter.unusedSimpArgs false
set_option maxRecDepth 10000
set_option maxHeartbeats 80000000
section
open Go Go.Proofs Go.Eng Go.Shelf IB
namespace RB
def c134:Con:=bB 235 false fun args K=>match args with | [.seq (.int .i64) a,.val (.int .i64 d)]=>Need (InB B9 a/\(0<d/\d<1000000000)/\a.length<=100000) (K (.tup [Ls (aZ B9 (valB B9 a/d).toNat),Ls (aZ B9 (valB B9 a%d).toNat)])) | _=>False
theorem k134:aS Tryz.prog c134:=by
 refine kQ { asks:=[(0,[])] } Tryz.func235 Tryz.ntmps235 (kc k135 (kc k166 (kc k131 kn))) fun _ _ h=>?_
 split at h
 case h_2=>exact h.elim
 rename_i a d
 refine kb h.go ?_
 replace h:=h.ok
 obtain ⟨ha,hd,hla⟩:=h
 obtain ⟨q1,q2,q3⟩:=aUm (B:=B9) (by decide) hd.1 hd.2 ha
 (repeat' first|refine ZG ?_|refine Zg fun _=>?_)
 refine Ask.mk ⟨{ X:=Nat,pre:=fun i=>i<=a.length,mod:=fun _ _=>[],heap:=fun i _=>[.cells [I d] 3,V [],.cells [.ref 4 1] 41,V [],V (divK B9 d a i).1,.cells [I (divK B9 d a i).2] 3],mu:=fun i=>i },rfl,?_⟩
 (repeat refine ZG ?_)
 refine ⟨⟨(0:Nat),rfl,aI _,?_⟩,fun (i:Nat) hi (hlt:i<a.length)=>?_,fun (i:Nat) hi (he:i=a.length)=>?_⟩
 ·exact ZE
 ·obtain ⟨g1,g2,g3,_⟩:=aBo (B:=B9) (by decide) hd.1 ha i (by omega)
  have ga:=get9 ha (a.length-1-i)
  have hm:=bY (show (divK B9 d a i).2<=999999998 by omega) (show (0:Int)<=1000000000 by omega)
  have hm0:=eC g3.1 (show (0:Int)<=1000000000 by omega)
  show hnfL (itB a i) _
  (repeat'((conv=>whnf);first|refine Zg fun _=>?_|refine Za ?_|refine Zn ?_|refine Zj ?_|apply pI|apply pJ|(apply PinH.mk;apply aF;apply aF)|exact Zf|refine Zc ?_ ?_|fail))
  refine ⟨(i+1:Nat),rfl,hlt,ZE⟩
 subst he
 (repeat'((conv=>whnf);first|apply pI|apply pJ|(apply PinH.mk;apply aF;apply aF)|exact Zf|refine Zc ?_ ?_|refine Zl ?_|fail))
 (conv=>whnf)
 (repeat' first|exact trivial|apply aA)
 ·exact q1
 exact q3
theorem b137 (v:List Int) (j q:Int) (u:List Int) (h:InB B9 u/\InB B9 v/\0<=j/\(0<=q/\q<=8000000000)/\j+v.length+1<=u.length/\u.length<=300000):aGj Tryz.prog [c132] { asks:=[(0,[])] } Tryz.f239 0 true [.any,Ls v,I j,I q] (.int .i64) u 3 (.bl (0<(eP B9 u v j.toNat q (v.length+1)).2) inferInstance) (eP B9 u v j.toNat q (v.length+1)).1:=by
 obtain ⟨hu,hv,hj,hq,hl,hlu⟩:=h
 obtain ⟨j,rfl⟩:∃k:Nat,j=k:=⟨j.toNat,by omega⟩
 rw[aP]
 (repeat' first|refine ZG ?_|refine Zg fun _=>?_)
 refine Ask.mk ⟨{ X:=Nat,pre:=fun k=>k<=v.length+1,mod:=fun k _=>[(15,I k),(9,I (eP B9 u v j q k).2)],heap:=fun k _=>[V (eP B9 u v j q k).1],mu:=fun k=>v.length+1-k },rfl,?_⟩
 (repeat refine ZG ?_)
 refine ⟨⟨(0:Nat),aI _,ZE⟩,fun (k:Nat) (hk:k<=v.length+1)=>?_⟩
 obtain ⟨m1,m2,m3,_⟩:=oO (B:=B9) (by decide) hu hv (j:=j) hq.1 k (by omega)
 have gv:=get9 hv k
 have gm:=get9 m2 (j+k)
 have hm:0<=q*v.getD k 0/\q*v.getD k 0<=8000000000*999999999:=⟨eC hq.1 gv.1,gD (bY hq.2 gv.1) (aY (by omega) (by omega))⟩
 (apply Br.mk<;>intro)
 ·have hlt:k<v.length+1:=by omega
  (repeat'((conv=>whnf);first|refine Zg fun _=>?_|refine Zn ?_|refine Zj ?_|apply pI|apply pJ|fail))
  (apply Br.mk<;>intro)
  ·rename_i hneg
   have ht:eP B9 u v j q (k+1)=((eP B9 u v j q k).1.set (j+k) ((eP B9 u v j q k).1.getD (j+k) 0-(eP B9 u v j q k).2-q*v.getD k 0+(-((eP B9 u v j q k).1.getD (j+k) 0-(eP B9 u v j q k).2-q*v.getD k 0)+1000000000-1)/1000000000*1000000000),(-((eP B9 u v j q k).1.getD (j+k) 0-(eP B9 u v j q k).2-q*v.getD k 0)+1000000000-1)/1000000000):=by
    simp only[eP]
    rw[aD hneg]
    rfl
   (repeat refine ZG ?_)
   refine ⟨(k+1:Nat),by show v.length+1-(k+1)<v.length+1-k;omega,hlt,?_⟩
   (repeat' first|exact trivial|rfl|apply aA)
   all_goals first | exact (aO Prod.fst ht).symm | exact (aO Prod.snd ht).symm
  rename_i hneg
  have ht:eP B9 u v j q (k+1)=((eP B9 u v j q k).1.set (j+k) ((eP B9 u v j q k).1.getD (j+k) 0-(eP B9 u v j q k).2-q*v.getD k 0+0*1000000000),0):=by
   simp only[eP]
   rw[aC hneg]
   rfl
  (repeat refine ZG ?_)
  refine ⟨(k+1:Nat),by show v.length+1-(k+1)<v.length+1-k;omega,hlt,?_⟩
  (repeat' first|exact trivial|rfl|apply aA)
  all_goals first | exact (aO Prod.fst ht).symm | exact (aO Prod.snd ht).symm
 have e:k=v.length+1:=by omega
 subst e
 exact ZF
def c137:Con:=aDi 239 0 true fun args o K=>match args,o with | [.any,.seq (.int .i64) v,.val (.int .i64 j),.val (.int .i64 q)],.vec 1 (.int .i64) u 3=>Need (InB B9 u/\InB B9 v/\0<=j/\(0<=q/\q<=8000000000)/\j+v.length+1<=u.length/\u.length<=300000) (K (.bl (0<(eP B9 u v j.toNat q (v.length+1)).2) inferInstance) (.vec 1 (.int .i64) ((eP B9 u v j.toNat q (v.length+1)).1) 3)) | _,_=>False
theorem k137:aS Tryz.prog c137:=by
 refine zS (enters_of Tryz.func239 (by kernel_rfl) rfl) ?_
 intro args t xs e K hfl h
 split at h
 ·rename_i v j q zs heq
  cases heq
  first | exact ⟨_,_,h.go,kM (by simp[k132]) Tryz.func239 (by simp[Tryz.ntmps239]) rfl (b137 v j q zs h.ok)⟩ | exact ⟨_,_,h.go,kM (by simp[k132]) Tryz.func239 (by simp[Tryz.ntmps239]) rfl (b137 v j q xs h.ok)⟩
 exact h.elim
theorem b138 (v:List Int) (j q:Int) (u:List Int) (h:InB B9 u/\InB B9 v/\0<=j/\(0<=q/\q<=8000000000)/\j+v.length+1<=u.length/\u.length<=300000):aGj Tryz.prog [c132] { asks:=[(0,[])] } Tryz.f240 0 true [.any,Ls v,I j,I q] (.int .i64) u 3 (.ref 0 1) (mulK B9 q v j.toNat u (v.length+1)).1:=by
 obtain ⟨hu,hv,hj,hq,hl,hlu⟩:=h
 obtain ⟨j,rfl⟩:∃k:Nat,j=k:=⟨j.toNat,by omega⟩
 rw[aP]
 (repeat' first|refine ZG ?_|refine Zg fun _=>?_)
 refine Ask.mk ⟨{ X:=Nat,pre:=fun k=>k<=v.length+1,mod:=fun k _=>[(15,I k),(9,I (mulK B9 q v j u k).2)],heap:=fun k _=>[V (mulK B9 q v j u k).1,V []],mu:=fun k=>v.length+1-k },rfl,?_⟩
 (repeat refine ZG ?_)
 refine ⟨⟨(0:Nat),aI _,ZE⟩,fun (k:Nat) (hk:k<=v.length+1)=>?_⟩
 obtain ⟨m1,m2,m3,_⟩:=aBp (B:=B9) (by decide) (x:=q) hq.1 hv (i:=j) hu k (by omega)
 have gv:=get9 hv k
 have gm:=get9 m2 (j+k)
 have hm:0<=q*v.getD k 0/\q*v.getD k 0<=8000000000*999999999:=⟨eC hq.1 gv.1,gD (bY hq.2 gv.1) (aY (by omega) (by omega))⟩
 (apply Br.mk<;>intro)
 ·have hlt:k<v.length+1:=by omega
  (repeat'((conv=>whnf);first|refine Zg fun _=>?_|refine Za ?_|refine Zn ?_|refine Zj ?_|apply pI|apply pJ|fail))
  refine ⟨(k+1:Nat),by show v.length+1-(k+1)<v.length+1-k;omega,hlt,?_⟩
  exact ZE
 have e:k=v.length+1:=by omega
 subst e
 exact ZF
def c138:Con:=aDi 240 0 true fun args o K=>match args,o with | [.any,.seq (.int .i64) v,.val (.int .i64 j),.val (.int .i64 q)],.vec 1 (.int .i64) u 3=>Need (InB B9 u/\InB B9 v/\0<=j/\(0<=q/\q<=8000000000)/\j+v.length+1<=u.length/\u.length<=300000) (K (.ref 0 1) (.vec 1 (.int .i64) ((mulK B9 q v j.toNat u (v.length+1)).1) 3)) | _,_=>False
theorem k138:aS Tryz.prog c138:=by
 refine zS (enters_of Tryz.func240 (by kernel_rfl) rfl) ?_
 intro args t xs e K hfl h
 split at h
 ·rename_i v j q zs heq
  cases heq
  first | exact ⟨_,_,h.go,kM (by simp[k132]) Tryz.func240 (by simp[Tryz.ntmps240]) rfl (b138 v j q zs h.ok)⟩ | exact ⟨_,_,h.go,kM (by simp[k132]) Tryz.func240 (by simp[Tryz.ntmps240]) rfl (b138 v j q xs h.ok)⟩
 exact h.elim
abbrev top2 (u v:List Int) (j:Nat):Int:=u.getD (j+v.length) 0*1000000000+u.getD (j+v.length-1) 0
abbrev estL (u v:List Int) (j:Nat):Int:=estF 1000000000 (v.getD (v.length-1) 0) (v.getD (v.length-2) 0) (u.getD (j+v.length-2) 0) 8 (top2 u v j/v.getD (v.length-1) 0) (top2 u v j%v.getD (v.length-1) 0)
def eQ (u v:List Int) (j i:Nat):Int:=top2 u v j/v.getD (v.length-1) 0-i
def eR (u v:List Int) (j i:Nat):Int:=top2 u v j%v.getD (v.length-1) 0+i*v.getD (v.length-1) 0
theorem qE (u v:List Int) (j i:Nat):eR u v j (i+1)=eR u v j i+v.getD (v.length-1) 0:=by
 unfold eR
 have:((i+1:Nat):Int)*v.getD (v.length-1) 0=i*v.getD (v.length-1) 0+v.getD (v.length-1) 0:=by rw[Int.natCast_succ,jT,gF]
 omega
theorem aAn (u v:List Int) (j i:Nat):eQ u v j (i+1)=eQ u v j i-1:=by unfold eQ;omega
theorem b136 (u v:List Int) (j:Int) (h:InB B9 u/\InB B9 v/\0<=j/\2<=v.length/\250000000<=v.getD (v.length-1) 0/\j+v.length+1<=u.length/\u.length<=300000):body Tryz.prog [] { asks:=[(0,[])] } true Tryz.f238 [Ls u,Ls v,I j] (I (estL u v j.toNat)):=by
 obtain ⟨hu,hv,hj,hn,hv1,hl,hlu⟩:=h
 obtain ⟨j,rfl⟩:∃k:Nat,j=k:=⟨j.toNat,by omega⟩
 rw[aP]
 have g0:=get9 hu (j+v.length)
 have g1:=get9 hu (j+v.length-1)
 have g2:=get9 hu (j+v.length-2)
 have w1:=get9 hv (v.length-1)
 have w2:=get9 hv (v.length-2)
 (repeat'((conv=>whnf);first|refine Zg fun _=>?_|refine Zn ?_|refine Zj ?_|apply pI|apply pJ|fail))
 refine cX (j+v.length-1) (by omega) ?_
 (repeat'((conv=>whnf);first|refine Zg fun _=>?_|refine Zn ?_|apply pI|apply pJ|fail))
 refine cX (v.length-1) (by omega) ?_
 (repeat'((conv=>whnf);first|refine Zg fun _=>?_|refine Za ?_|refine Zn ?_|apply pI|apply pJ|fail))
 refine cX (v.length-1) (by omega) ?_
 (repeat'((conv=>whnf);first|refine Zg fun _=>?_|refine Za ?_|apply pI|apply pJ|fail))
 have hT:0<=top2 u v j/\top2 u v j<1000000000000000000:=by unfold top2;omega
 have hr:0<=top2 u v j%v.getD (v.length-1) 0/\top2 u v j%v.getD (v.length-1) 0<v.getD (v.length-1) 0:=⟨gE _ (by omega),dX _ (by omega)⟩
 have hq:0<=top2 u v j/v.getD (v.length-1) 0/\top2 u v j/v.getD (v.length-1) 0<=4000000000:=by
  refine ⟨eA hT.1 (by omega),?_⟩
  refine gD (tJ (by omega) (show top2 u v j<=4000000000*v.getD (v.length-1) 0 by omega)) ?_
  rw[Int.mul_ediv_cancel _ (by omega)]
  exact gT _
 refine Ask.mk ⟨{ X:=Nat,pre:=fun i=>eR u v j i<1000000000/\estL u v j=estF 1000000000 (v.getD (v.length-1) 0) (v.getD (v.length-2) 0) (u.getD (j+v.length-2) 0) (8-i) (eQ u v j i) (eR u v j i),mod:=fun i _=>[(9,I (eQ u v j i)),(10,I (eR u v j i))],heap:=fun _ _=>[],mu:=fun i=>8-i },rfl,?_⟩
 (repeat refine ZG ?_)
 refine ⟨⟨(0:Nat),⟨by unfold eR;omega,by simp only[estL,eQ,eR];congr 1<;>omega⟩,?_⟩,fun (i:Nat) hi=>?_⟩
 ·(repeat' first|exact trivial|rfl|apply aA)
  ·show top2 u v j/ _= _
   unfold eQ;omega
  show top2 u v j% _= _
  unfold eR;omega
 obtain ⟨hi1,hi2⟩:=hi
 have hi4:(i:Int)*250000000<=i*v.getD (v.length-1) 0:=aY hv1 (by omega)
 have hi3:i<=3:=by unfold eR at hi1;omega
 have hR:0<=eR u v j i:=by unfold eR;omega
 have hQ: -3<=eQ u v j i/\eQ u v j i<=4000000000:=by unfold eQ;omega
 have hQv: -3*999999999<=eQ u v j i*v.getD (v.length-2) 0/\eQ u v j i*v.getD (v.length-2) 0<=4000000000*999999999:=by
  refine ⟨gD (kI (by omega) (show v.getD (v.length-2) 0<=999999999 by omega)) (bY hQ.1 w2.1),gD (bY hQ.2 w2.1) (aY (by omega) (by omega))⟩
 obtain ⟨f,hf⟩:∃f,8-i=f+1:=⟨7-i,by omega⟩
 have hf1:8-(i+1)=f:=by omega
 rw[hf,estF,<- qE,<- aAn] at hi2
 (repeat'((conv=>whnf);first|apply pI|apply pJ|fail))
 (apply Br.mk<;>intro)
 ·rename_i hq1
  rw[aD (.inl hq1)] at hi2
  (repeat'((conv=>whnf);first|refine Zn ?_|apply pI|apply pJ|fail))
  refine cX (v.length-1) (by omega) ?_
  (repeat'((conv=>whnf);first|refine Zg fun _=>?_|refine Zn ?_|apply pI|apply pJ|fail))
  (apply Br.mk<;>intro)
  ·rename_i hb
   rw[qE,aD hb,aAn] at hi2
   (conv=>whnf)
   (repeat' first|rfl|apply aA)
   exact hi2.symm
  rename_i hb
  rw[aC (by rw[qE];exact hb)] at hi2
  refine ⟨(i+1:Nat),by show 8-(i+1)<8-i;omega,⟨by rw[qE];omega,by rw[hi2,hf1]⟩,?_⟩
  (repeat' first|exact trivial|rfl|apply aA)
  ·exact (aAn u v j i).symm
  exact (qE u v j i).symm
 rename_i hq1
 (repeat'((conv=>whnf);first|apply pI|apply pJ|fail))
 (apply Br.mk<;>intro)
 ·rename_i hr1
  (repeat'((conv=>whnf);first|refine Zn ?_|apply pI|apply pJ|fail))
  refine cX (v.length-2) (by omega) ?_
  (repeat'((conv=>whnf);first|refine Zg fun _=>?_|refine Zn ?_|apply pI|apply pJ|fail))
  refine cX (j+v.length-2) (by omega) ?_
  (repeat'((conv=>whnf);first|refine Zg fun _=>?_|refine Zn ?_|apply pI|apply pJ|fail))
  (apply Br.mk<;>intro)
  ·rename_i hgt
   rw[aD (.inr ⟨hr1,hgt⟩)] at hi2
   (repeat'((conv=>whnf);first|refine Zn ?_|apply pI|apply pJ|fail))
   refine cX (v.length-1) (by omega) ?_
   (repeat'((conv=>whnf);first|refine Zg fun _=>?_|refine Zn ?_|apply pI|apply pJ|fail))
   (apply Br.mk<;>intro)
   ·rename_i hb
    rw[qE,aD hb,aAn] at hi2
    (conv=>whnf)
    (repeat' first|rfl|apply aA)
    exact hi2.symm
   rename_i hb
   rw[aC (by rw[qE];exact hb)] at hi2
   refine ⟨(i+1:Nat),by show 8-(i+1)<8-i;omega,⟨by rw[qE];omega,by rw[hi2,hf1]⟩,?_⟩
   (repeat' first|exact trivial|rfl|apply aA)
   ·exact (aAn u v j i).symm
   exact (qE u v j i).symm
  rename_i hgt
  rw[aC (by omega)] at hi2
  (conv=>whnf)
  (repeat' first|rfl|apply aA)
  exact hi2.symm
 omega
def c136:Con:=bB 238 true fun args K=>match args with | [.seq (.int .i64) u,.seq (.int .i64) v,.val (.int .i64 j)]=>Need (InB B9 u/\InB B9 v/\0<=j/\2<=v.length/\250000000<=v.getD (v.length-1) 0/\j+v.length+1<=u.length/\u.length<=300000) (K (I (estL u v j.toNat))) | _=>False
theorem k136:aS Tryz.prog c136:=by
 refine kO Tryz.func238 fun args K h=>?_
 simp only[c136] at h;split at h
 ·rename_i u v j;exact ⟨_,h.go,triB Tryz.func238 Tryz.ntmps238 (by simp) (b136 u v j h.ok)⟩
 exact h.elim
end RB
end
section
set_option maxRecDepth 100000
namespace Go.Proofs
open Go.Shelf
def RL.lI_ren:Go.Shelf.Ren:=⟨fun | 171=>188 | 243=>231 | 246=>281 | 283=>316 | 284=>317 | 285=>318 | 286=>319 | 129=>111 | 317=>332 | 318=>333 | 319=>334 | 320=>335 | 337=>343 | 338=>344 | n=>n,fun | 3=>3 | 9=>9 | 2=>2 | 4=>4 | 171=>316 | 0=>0 | 53=>142 | 37=>284 | 5=>5 | 173=>318 | 212=>334 | 51=>140 | 20=>20 | 213=>335 | 46=>108 | 232=>349 | 233=>350 | n=>n,fun | 17=>3 | 18=>6 | 19=>7 | n=>n⟩
theorem RL.lI:Go.Proofs.LaysM.n171 Tryz.prog RL.lI_ren where
 mixed:=by kernel_rfl
 f129:=Tryz.func111.trans (aO some (by kernel_rfl))
 f171:=Tryz.func188.trans (aO some (by kernel_rfl))
 f243:=Tryz.func231.trans (aO some (by kernel_rfl))
 f246:=Tryz.func281.trans (aO some (by kernel_rfl))
 f283:=Tryz.func316.trans (aO some (by kernel_rfl))
 f284:=Tryz.func317.trans (aO some (by kernel_rfl))
 f285:=Tryz.func318.trans (aO some (by kernel_rfl))
 f286:=Tryz.func319.trans (aO some (by kernel_rfl))
 f317:=Tryz.func332.trans (aO some (by kernel_rfl))
 f318:=Tryz.func333.trans (aO some (by kernel_rfl))
 f319:=Tryz.func334.trans (aO some (by kernel_rfl))
 f320:=Tryz.func335.trans (aO some (by kernel_rfl))
 f337:=Tryz.func343.trans (aO some (by kernel_rfl))
 f338:=Tryz.func344.trans (aO some (by kernel_rfl))
 t0:=Tryz.underlying0
 a0:=Tryz.isAgg0
 z0:=Tryz.sizeOf0
 v0:=Tryz.zeroValue0
 t2:=Tryz.underlying2
 a2:=Tryz.isAgg2
 z2:=Tryz.sizeOf2
 v2:=Tryz.zeroValue2
 t3:=Tryz.underlying3
 a3:=Tryz.isAgg3
 z3:=Tryz.sizeOf3
 v3:=Tryz.zeroValue3
 t4:=Tryz.underlying4
 a4:=Tryz.isAgg4
 z4:=Tryz.sizeOf4
 v4:=Tryz.zeroValue4
 t5:=Tryz.underlying5
 a5:=Tryz.isAgg5
 z5:=Tryz.sizeOf5
 v5:=Tryz.zeroValue5
 t9:=Tryz.underlying9
 a9:=Tryz.isAgg9
 z9:=Tryz.sizeOf9
 v9:=Tryz.zeroValue9
 t20:=Tryz.underlying20
 a20:=Tryz.isAgg20
 z20:=Tryz.sizeOf20
 v20:=Tryz.zeroValue20
 t37:=Tryz.underlying284
 a37:=Tryz.isAgg284
 z37:=Tryz.sizeOf284
 v37:=Tryz.zeroValue284
 t46:=Tryz.underlying108
 a46:=Tryz.isAgg108
 z46:=Tryz.sizeOf108
 v46:=Tryz.zeroValue108
 t51:=Tryz.underlying140
 a51:=Tryz.isAgg140
 z51:=Tryz.sizeOf140
 v51:=Tryz.zeroValue140
 t53:=Tryz.underlying142
 a53:=Tryz.isAgg142
 z53:=Tryz.sizeOf142
 v53:=Tryz.zeroValue142
 t171:=Tryz.underlying316
 a171:=Tryz.isAgg316
 z171:=Tryz.sizeOf316
 v171:=Tryz.zeroValue316
 t173:=Tryz.underlying318
 a173:=Tryz.isAgg318
 z173:=Tryz.sizeOf318
 v173:=Tryz.zeroValue318
 t212:=Tryz.underlying334
 a212:=Tryz.isAgg334
 z212:=Tryz.sizeOf334
 v212:=Tryz.zeroValue334
 t213:=Tryz.underlying335
 a213:=Tryz.isAgg335
 z213:=Tryz.sizeOf335
 t232:=Tryz.underlying349
 a232:=Tryz.isAgg349
 z232:=Tryz.sizeOf349
 v232:=Tryz.zeroValue349
 t233:=Tryz.underlying350
 a233:=Tryz.isAgg350
 z233:=Tryz.sizeOf350
 v233:=Tryz.zeroValue350
 g17:=by kernel_rfl
 g18:=by kernel_rfl
 g19:=by kernel_rfl
 i0:=by kernel_rfl
 i2:=by kernel_rfl
 i3:=by kernel_rfl
 i4:=by kernel_rfl
 i5:=by kernel_rfl
 i9:=by kernel_rfl
 i20:=by kernel_rfl
 i37:=by kernel_rfl
 i46:=by kernel_rfl
 i51:=by kernel_rfl
 i53:=by kernel_rfl
 i171:=by kernel_rfl
 i173:=by kernel_rfl
 i212:=by kernel_rfl
 i232:=by kernel_rfl
 i233:=by kernel_rfl
 m17:=by kernel_rfl
 m18:=by kernel_rfl
 m19:=by kernel_rfl
def RL.lA_ren:Go.Shelf.Ren:=⟨fun | 172=>230 | 244=>279 | 245=>280 | 247=>311 | 279=>312 | 280=>313 | 281=>314 | 282=>315 | 287=>329 | 316=>330 | 171=>188 | 205=>331 | 321=>341 | 322=>342 | 243=>231 | 246=>281 | 283=>316 | 284=>317 | 285=>318 | 286=>319 | 129=>111 | 317=>332 | 318=>333 | 319=>334 | 320=>335 | 337=>343 | 338=>344 | n=>n,fun | 9=>9 | 3=>3 | 75=>263 | 76=>264 | 4=>4 | 5=>5 | 167=>310 | 37=>284 | 0=>0 | 85=>311 | 2=>2 | 168=>313 | 53=>142 | 175=>328 | 46=>108 | 210=>331 | 127=>322 | 145=>342 | 143=>340 | 21=>21 | 171=>316 | 173=>318 | 212=>334 | 51=>140 | 20=>20 | 213=>335 | 232=>349 | 233=>350 | 80=>295 | n=>n,fun | 15=>1 | 16=>2 | 17=>3 | 18=>6 | 19=>7 | n=>n⟩
theorem RL.lA:Go.Proofs.LaysC.n172 Tryz.prog RL.lA_ren where
 mixed:=by kernel_rfl
 f129:=Tryz.func111.trans (aO some (by kernel_rfl))
 f171:=Tryz.func188.trans (aO some (by kernel_rfl))
 f172:=Tryz.func230.trans (aO some (by kernel_rfl))
 f205:=Tryz.func331.trans (aO some (by kernel_rfl))
 f243:=Tryz.func231.trans (aO some (by kernel_rfl))
 f244:=Tryz.func279.trans (aO some (by kernel_rfl))
 f245:=Tryz.func280.trans (aO some (by kernel_rfl))
 f246:=Tryz.func281.trans (aO some (by kernel_rfl))
 f247:=Tryz.func311.trans (aO some (by kernel_rfl))
 f279:=Tryz.func312.trans (aO some (by kernel_rfl))
 f280:=Tryz.func313.trans (aO some (by kernel_rfl))
 f281:=Tryz.func314.trans (aO some (by kernel_rfl))
 f282:=Tryz.func315.trans (aO some (by kernel_rfl))
 f283:=Tryz.func316.trans (aO some (by kernel_rfl))
 f284:=Tryz.func317.trans (aO some (by kernel_rfl))
 f285:=Tryz.func318.trans (aO some (by kernel_rfl))
 f286:=Tryz.func319.trans (aO some (by kernel_rfl))
 f287:=Tryz.func329.trans (aO some (by kernel_rfl))
 f316:=Tryz.func330.trans (aO some (by kernel_rfl))
 f317:=Tryz.func332.trans (aO some (by kernel_rfl))
 f318:=Tryz.func333.trans (aO some (by kernel_rfl))
 f319:=Tryz.func334.trans (aO some (by kernel_rfl))
 f320:=Tryz.func335.trans (aO some (by kernel_rfl))
 f321:=Tryz.func341.trans (aO some (by kernel_rfl))
 f322:=Tryz.func342.trans (aO some (by kernel_rfl))
 f337:=Tryz.func343.trans (aO some (by kernel_rfl))
 f338:=Tryz.func344.trans (aO some (by kernel_rfl))
 t0:=Tryz.underlying0
 a0:=Tryz.isAgg0
 z0:=Tryz.sizeOf0
 v0:=Tryz.zeroValue0
 t2:=Tryz.underlying2
 a2:=Tryz.isAgg2
 z2:=Tryz.sizeOf2
 v2:=Tryz.zeroValue2
 t3:=Tryz.underlying3
 a3:=Tryz.isAgg3
 z3:=Tryz.sizeOf3
 v3:=Tryz.zeroValue3
 t4:=Tryz.underlying4
 a4:=Tryz.isAgg4
 z4:=Tryz.sizeOf4
 v4:=Tryz.zeroValue4
 t5:=Tryz.underlying5
 a5:=Tryz.isAgg5
 z5:=Tryz.sizeOf5
 v5:=Tryz.zeroValue5
 t9:=Tryz.underlying9
 a9:=Tryz.isAgg9
 z9:=Tryz.sizeOf9
 v9:=Tryz.zeroValue9
 t20:=Tryz.underlying20
 a20:=Tryz.isAgg20
 z20:=Tryz.sizeOf20
 v20:=Tryz.zeroValue20
 t21:=Tryz.underlying21
 a21:=Tryz.isAgg21
 z21:=Tryz.sizeOf21
 v21:=Tryz.zeroValue21
 t37:=Tryz.underlying284
 a37:=Tryz.isAgg284
 z37:=Tryz.sizeOf284
 v37:=Tryz.zeroValue284
 t46:=Tryz.underlying108
 a46:=Tryz.isAgg108
 z46:=Tryz.sizeOf108
 v46:=Tryz.zeroValue108
 t51:=Tryz.underlying140
 a51:=Tryz.isAgg140
 z51:=Tryz.sizeOf140
 v51:=Tryz.zeroValue140
 t53:=Tryz.underlying142
 a53:=Tryz.isAgg142
 z53:=Tryz.sizeOf142
 v53:=Tryz.zeroValue142
 t75:=Tryz.underlying263
 a75:=Tryz.isAgg263
 z75:=Tryz.sizeOf263
 v75:=Tryz.zeroValue263
 t76:=Tryz.underlying264
 a76:=Tryz.isAgg264
 z76:=Tryz.sizeOf264
 v76:=Tryz.zeroValue264
 t85:=Tryz.underlying311
 a85:=Tryz.isAgg311
 z85:=Tryz.sizeOf311
 v85:=Tryz.zeroValue311
 t127:=Tryz.underlying322
 a127:=Tryz.isAgg322
 z127:=Tryz.sizeOf322
 v127:=Tryz.zeroValue322
 t143:=Tryz.underlying340
 a143:=Tryz.isAgg340
 z143:=Tryz.sizeOf340
 v143:=Tryz.zeroValue340
 t145:=Tryz.underlying342
 a145:=Tryz.isAgg342
 z145:=Tryz.sizeOf342
 v145:=Tryz.zeroValue342
 t167:=Tryz.underlying310
 a167:=Tryz.isAgg310
 z167:=Tryz.sizeOf310
 v167:=Tryz.zeroValue310
 t168:=Tryz.underlying313
 a168:=Tryz.isAgg313
 z168:=Tryz.sizeOf313
 v168:=Tryz.zeroValue313
 t171:=Tryz.underlying316
 a171:=Tryz.isAgg316
 z171:=Tryz.sizeOf316
 v171:=Tryz.zeroValue316
 t173:=Tryz.underlying318
 a173:=Tryz.isAgg318
 z173:=Tryz.sizeOf318
 v173:=Tryz.zeroValue318
 t175:=Tryz.underlying328
 a175:=Tryz.isAgg328
 z175:=Tryz.sizeOf328
 v175:=Tryz.zeroValue328
 t210:=Tryz.underlying331
 a210:=Tryz.isAgg331
 z210:=Tryz.sizeOf331
 v210:=Tryz.zeroValue331
 t212:=Tryz.underlying334
 a212:=Tryz.isAgg334
 z212:=Tryz.sizeOf334
 v212:=Tryz.zeroValue334
 t213:=Tryz.underlying335
 a213:=Tryz.isAgg335
 z213:=Tryz.sizeOf335
 t232:=Tryz.underlying349
 a232:=Tryz.isAgg349
 z232:=Tryz.sizeOf349
 v232:=Tryz.zeroValue349
 t233:=Tryz.underlying350
 a233:=Tryz.isAgg350
 z233:=Tryz.sizeOf350
 v233:=Tryz.zeroValue350
 g15:=by kernel_rfl
 g16:=by kernel_rfl
 g17:=by kernel_rfl
 g18:=by kernel_rfl
 g19:=by kernel_rfl
 t80:=Tryz.underlying295
 a80:=Tryz.isAgg295
 z80:=Tryz.sizeOf295
 v80:=Tryz.zeroValue295
 i0:=by kernel_rfl
 i2:=by kernel_rfl
 i3:=by kernel_rfl
 i4:=by kernel_rfl
 i5:=by kernel_rfl
 i9:=by kernel_rfl
 i20:=by kernel_rfl
 i21:=by kernel_rfl
 i37:=by kernel_rfl
 i46:=by kernel_rfl
 i51:=by kernel_rfl
 i53:=by kernel_rfl
 i75:=by kernel_rfl
 i76:=by kernel_rfl
 i80:=by kernel_rfl
 i85:=by kernel_rfl
 i127:=by kernel_rfl
 i143:=by kernel_rfl
 i145:=by kernel_rfl
 i167:=by kernel_rfl
 i168:=by kernel_rfl
 i171:=by kernel_rfl
 i173:=by kernel_rfl
 i175:=by kernel_rfl
 i210:=by kernel_rfl
 i212:=by kernel_rfl
 i232:=by kernel_rfl
 i233:=by kernel_rfl
 m15:=by kernel_rfl
 m16:=by kernel_rfl
 m17:=by kernel_rfl
 m18:=by kernel_rfl
 m19:=by kernel_rfl
 c0:=by kernel_rfl
 c2:=by kernel_rfl
 c3:=by kernel_rfl
 c4:=by kernel_rfl
 c5:=by kernel_rfl
 c9:=by kernel_rfl
 c20:=by kernel_rfl
 c21:=by kernel_rfl
 c37:=by kernel_rfl
 c46:=by kernel_rfl
 c51:=by kernel_rfl
 c53:=by kernel_rfl
 c75:=by kernel_rfl
 c76:=by kernel_rfl
 c80:=by kernel_rfl
 c85:=by kernel_rfl
 c127:=by kernel_rfl
 c143:=by kernel_rfl
 c145:=by kernel_rfl
 c167:=by kernel_rfl
 c168:=by kernel_rfl
 c171:=by kernel_rfl
 c173:=by kernel_rfl
 c175:=by kernel_rfl
 c210:=by kernel_rfl
 c212:=by kernel_rfl
 c213:=by kernel_rfl
 c232:=by kernel_rfl
 c233:=by kernel_rfl
def RL.lR_ren:Go.Shelf.Ren:=⟨fun | 105=>287 | 212=>136 | 99=>249 | 165=>321 | 166=>286 | 170=>322 | 169=>288 | 263=>178 | 264=>179 | 206=>145 | 240=>320 | 241=>337 | 276=>336 | 277=>345 | n=>n,fun | 9=>9 | 3=>3 | 4=>4 | 20=>20 | 0=>0 | 46=>108 | 109=>169 | 5=>5 | 72=>292 | 76=>264 | 51=>140 | 146=>216 | 53=>142 | 148=>218 | 70=>290 | 37=>284 | 75=>263 | 127=>322 | 164=>336 | 80=>295 | n=>n,fun | n=>n⟩
theorem RL.lR:Go.Proofs.Lays.n105 Tryz.prog RL.lR_ren where
 mixed:=by kernel_rfl
 f99:=Tryz.func249.trans (aO some (by kernel_rfl))
 f105:=Tryz.func287.trans (aO some (by kernel_rfl))
 f165:=Tryz.func321.trans (aO some (by kernel_rfl))
 f166:=Tryz.func286.trans (aO some (by kernel_rfl))
 f169:=Tryz.func288.trans (aO some (by kernel_rfl))
 f170:=Tryz.func322.trans (aO some (by kernel_rfl))
 f206:=Tryz.func145.trans (aO some (by kernel_rfl))
 f212:=Tryz.func136.trans (aO some (by kernel_rfl))
 f240:=Tryz.func320.trans (aO some (by kernel_rfl))
 f241:=Tryz.func337.trans (aO some (by kernel_rfl))
 f263:=Tryz.func178.trans (aO some (by kernel_rfl))
 f264:=Tryz.func179.trans (aO some (by kernel_rfl))
 f276:=Tryz.func336.trans (aO some (by kernel_rfl))
 f277:=Tryz.func345.trans (aO some (by kernel_rfl))
 t0:=Tryz.underlying0
 a0:=Tryz.isAgg0
 z0:=Tryz.sizeOf0
 v0:=Tryz.zeroValue0
 t3:=Tryz.underlying3
 a3:=Tryz.isAgg3
 z3:=Tryz.sizeOf3
 v3:=Tryz.zeroValue3
 t4:=Tryz.underlying4
 a4:=Tryz.isAgg4
 z4:=Tryz.sizeOf4
 v4:=Tryz.zeroValue4
 t5:=Tryz.underlying5
 a5:=Tryz.isAgg5
 z5:=Tryz.sizeOf5
 v5:=Tryz.zeroValue5
 t9:=Tryz.underlying9
 a9:=Tryz.isAgg9
 z9:=Tryz.sizeOf9
 v9:=Tryz.zeroValue9
 t20:=Tryz.underlying20
 a20:=Tryz.isAgg20
 z20:=Tryz.sizeOf20
 v20:=Tryz.zeroValue20
 t37:=Tryz.underlying284
 a37:=Tryz.isAgg284
 z37:=Tryz.sizeOf284
 v37:=Tryz.zeroValue284
 t46:=Tryz.underlying108
 a46:=Tryz.isAgg108
 z46:=Tryz.sizeOf108
 v46:=Tryz.zeroValue108
 t51:=Tryz.underlying140
 a51:=Tryz.isAgg140
 z51:=Tryz.sizeOf140
 v51:=Tryz.zeroValue140
 t53:=Tryz.underlying142
 a53:=Tryz.isAgg142
 z53:=Tryz.sizeOf142
 v53:=Tryz.zeroValue142
 t70:=Tryz.underlying290
 a70:=Tryz.isAgg290
 z70:=Tryz.sizeOf290
 v70:=Tryz.zeroValue290
 t72:=Tryz.underlying292
 a72:=Tryz.isAgg292
 z72:=Tryz.sizeOf292
 v72:=Tryz.zeroValue292
 t75:=Tryz.underlying263
 a75:=Tryz.isAgg263
 z75:=Tryz.sizeOf263
 v75:=Tryz.zeroValue263
 t76:=Tryz.underlying264
 a76:=Tryz.isAgg264
 z76:=Tryz.sizeOf264
 v76:=Tryz.zeroValue264
 t109:=Tryz.underlying169
 a109:=Tryz.isAgg169
 z109:=Tryz.sizeOf169
 v109:=Tryz.zeroValue169
 t127:=Tryz.underlying322
 a127:=Tryz.isAgg322
 z127:=Tryz.sizeOf322
 v127:=Tryz.zeroValue322
 t146:=Tryz.underlying216
 a146:=Tryz.isAgg216
 z146:=Tryz.sizeOf216
 v146:=Tryz.zeroValue216
 t148:=Tryz.underlying218
 a148:=Tryz.isAgg218
 z148:=Tryz.sizeOf218
 v148:=Tryz.zeroValue218
 t164:=Tryz.underlying336
 a164:=Tryz.isAgg336
 z164:=Tryz.sizeOf336
 v164:=Tryz.zeroValue336
def RL.lT_ren:Go.Shelf.Ren:=⟨fun | 160=>278 | 232=>305 | 231=>304 | 227=>306 | 234=>308 | 233=>307 | 236=>310 | 235=>309 | 228=>325 | 271=>328 | 151=>327 | 197=>326 | 120=>340 | 152=>339 | 260=>338 | 137=>346 | 119=>347 | 224=>302 | 225=>301 | 217=>300 | 266=>323 | n=>n,fun | 9=>9 | 4=>4 | 3=>3 | 5=>5 | 117=>306 | 116=>305 | 0=>0 | 124=>309 | 21=>21 | 105=>325 | 46=>108 | 119=>344 | 139=>347 | 138=>346 | n=>n,fun | 3=>4 | 4=>5 | n=>n⟩
theorem RL.lT:Go.Proofs.Lays.n160 Tryz.prog RL.lT_ren where
 mixed:=by kernel_rfl
 f119:=Tryz.func347.trans (aO some (by kernel_rfl))
 f120:=Tryz.func340.trans (aO some (by kernel_rfl))
 f137:=Tryz.func346.trans (aO some (by kernel_rfl))
 f151:=Tryz.func327.trans (aO some (by kernel_rfl))
 f152:=Tryz.func339.trans (aO some (by kernel_rfl))
 f160:=Tryz.func278.trans (aO some (by kernel_rfl))
 f197:=Tryz.func326.trans (aO some (by kernel_rfl))
 f217:=Tryz.func300.trans (aO some (by kernel_rfl))
 f224:=Tryz.func302.trans (aO some (by kernel_rfl))
 f225:=Tryz.func301.trans (aO some (by kernel_rfl))
 f227:=Tryz.func306.trans (aO some (by kernel_rfl))
 f228:=Tryz.func325.trans (aO some (by kernel_rfl))
 f231:=Tryz.func304.trans (aO some (by kernel_rfl))
 f232:=Tryz.func305.trans (aO some (by kernel_rfl))
 f233:=Tryz.func307.trans (aO some (by kernel_rfl))
 f234:=Tryz.func308.trans (aO some (by kernel_rfl))
 f235:=Tryz.func309.trans (aO some (by kernel_rfl))
 f236:=Tryz.func310.trans (aO some (by kernel_rfl))
 f260:=Tryz.func338.trans (aO some (by kernel_rfl))
 f266:=Tryz.func323.trans (aO some (by kernel_rfl))
 f271:=Tryz.func328.trans (aO some (by kernel_rfl))
 t0:=Tryz.underlying0
 a0:=Tryz.isAgg0
 z0:=Tryz.sizeOf0
 v0:=Tryz.zeroValue0
 t3:=Tryz.underlying3
 a3:=Tryz.isAgg3
 z3:=Tryz.sizeOf3
 v3:=Tryz.zeroValue3
 t4:=Tryz.underlying4
 a4:=Tryz.isAgg4
 z4:=Tryz.sizeOf4
 v4:=Tryz.zeroValue4
 t5:=Tryz.underlying5
 a5:=Tryz.isAgg5
 z5:=Tryz.sizeOf5
 v5:=Tryz.zeroValue5
 t9:=Tryz.underlying9
 a9:=Tryz.isAgg9
 z9:=Tryz.sizeOf9
 v9:=Tryz.zeroValue9
 t21:=Tryz.underlying21
 a21:=Tryz.isAgg21
 z21:=Tryz.sizeOf21
 v21:=Tryz.zeroValue21
 t46:=Tryz.underlying108
 a46:=Tryz.isAgg108
 z46:=Tryz.sizeOf108
 v46:=Tryz.zeroValue108
 t105:=Tryz.underlying325
 a105:=Tryz.isAgg325
 z105:=Tryz.sizeOf325
 v105:=Tryz.zeroValue325
 t116:=Tryz.underlying305
 a116:=Tryz.isAgg305
 z116:=Tryz.sizeOf305
 t117:=Tryz.underlying306
 a117:=Tryz.isAgg306
 z117:=Tryz.sizeOf306
 v117:=Tryz.zeroValue306
 t119:=Tryz.underlying344
 a119:=Tryz.isAgg344
 z119:=Tryz.sizeOf344
 t124:=Tryz.underlying309
 a124:=Tryz.isAgg309
 z124:=Tryz.sizeOf309
 v124:=Tryz.zeroValue309
 t138:=Tryz.underlying346
 a138:=Tryz.isAgg346
 z138:=Tryz.sizeOf346
 v138:=Tryz.zeroValue346
 t139:=Tryz.underlying347
 a139:=Tryz.isAgg347
 z139:=Tryz.sizeOf347
 v139:=Tryz.zeroValue347
 g3:=by kernel_rfl
 g4:=by kernel_rfl
def RL.lX_ren:Go.Shelf.Ren:=⟨fun | 219=>277 | 217=>300 | 225=>301 | 224=>302 | 267=>303 | 266=>323 | 314=>324 | n=>n,fun | 9=>9 | 3=>3 | 4=>4 | 5=>5 | 46=>108 | 146=>216 | 51=>140 | n=>n,fun | 1=>0 | n=>n⟩
theorem RL.lX:Go.Proofs.Lays.n219 Tryz.prog RL.lX_ren where
 mixed:=by kernel_rfl
 f217:=Tryz.func300.trans (aO some (by kernel_rfl))
 f219:=Tryz.func277.trans (aO some (by kernel_rfl))
 f224:=Tryz.func302.trans (aO some (by kernel_rfl))
 f225:=Tryz.func301.trans (aO some (by kernel_rfl))
 f266:=Tryz.func323.trans (aO some (by kernel_rfl))
 f267:=Tryz.func303.trans (aO some (by kernel_rfl))
 f314:=Tryz.func324.trans (aO some (by kernel_rfl))
 t3:=Tryz.underlying3
 a3:=Tryz.isAgg3
 z3:=Tryz.sizeOf3
 v3:=Tryz.zeroValue3
 t4:=Tryz.underlying4
 a4:=Tryz.isAgg4
 z4:=Tryz.sizeOf4
 v4:=Tryz.zeroValue4
 t5:=Tryz.underlying5
 a5:=Tryz.isAgg5
 z5:=Tryz.sizeOf5
 v5:=Tryz.zeroValue5
 t9:=Tryz.underlying9
 a9:=Tryz.isAgg9
 z9:=Tryz.sizeOf9
 v9:=Tryz.zeroValue9
 t46:=Tryz.underlying108
 a46:=Tryz.isAgg108
 z46:=Tryz.sizeOf108
 v46:=Tryz.zeroValue108
 t51:=Tryz.underlying140
 a51:=Tryz.isAgg140
 z51:=Tryz.sizeOf140
 v51:=Tryz.zeroValue140
 t146:=Tryz.underlying216
 a146:=Tryz.isAgg216
 z146:=Tryz.sizeOf216
 v146:=Tryz.zeroValue216
 g1:=by kernel_rfl
def RL.lC_ren:Go.Shelf.Ren:=⟨fun | 240=>320 | 276=>336 | n=>n,fun | 70=>290 | 0=>0 | 72=>292 | 4=>4 | 164=>336 | 37=>284 | 5=>5 | n=>n,fun | n=>n⟩
theorem RL.lC:Go.Proofs.Lays.n240 Tryz.prog RL.lC_ren where
 mixed:=by kernel_rfl
 f240:=Tryz.func320.trans (aO some (by kernel_rfl))
 f276:=Tryz.func336.trans (aO some (by kernel_rfl))
 t0:=Tryz.underlying0
 a0:=Tryz.isAgg0
 z0:=Tryz.sizeOf0
 v0:=Tryz.zeroValue0
 t4:=Tryz.underlying4
 a4:=Tryz.isAgg4
 z4:=Tryz.sizeOf4
 v4:=Tryz.zeroValue4
 t9:=Tryz.underlying9
 a9:=Tryz.isAgg9
 z9:=Tryz.sizeOf9
 v9:=Tryz.zeroValue9
 t20:=Tryz.underlying20
 a20:=Tryz.isAgg20
 z20:=Tryz.sizeOf20
 v20:=Tryz.zeroValue20
 t70:=Tryz.underlying290
 a70:=Tryz.isAgg290
 z70:=Tryz.sizeOf290
 v70:=Tryz.zeroValue290
 t72:=Tryz.underlying292
 a72:=Tryz.isAgg292
 z72:=Tryz.sizeOf292
 v72:=Tryz.zeroValue292
 t164:=Tryz.underlying336
 a164:=Tryz.isAgg336
 z164:=Tryz.sizeOf336
 v164:=Tryz.zeroValue336
def RL.lS_ren:Go.Shelf.Ren:=⟨fun | 169=>288 | n=>n,fun | 70=>290 | 9=>9 | 0=>0 | 72=>292 | 37=>284 | 127=>322 | 3=>3 | 5=>5 | n=>n,fun | n=>n⟩
theorem RL.lS:Go.Proofs.Lays.n169 Tryz.prog RL.lS_ren where
 mixed:=by kernel_rfl
 f169:=Tryz.func288.trans (aO some (by kernel_rfl))
 t0:=Tryz.underlying0
 a0:=Tryz.isAgg0
 z0:=Tryz.sizeOf0
 v0:=Tryz.zeroValue0
 t3:=Tryz.underlying3
 a3:=Tryz.isAgg3
 z3:=Tryz.sizeOf3
 v3:=Tryz.zeroValue3
 t9:=Tryz.underlying9
 a9:=Tryz.isAgg9
 z9:=Tryz.sizeOf9
 v9:=Tryz.zeroValue9
 t37:=Tryz.underlying284
 a37:=Tryz.isAgg284
 z37:=Tryz.sizeOf284
 v37:=Tryz.zeroValue284
 t70:=Tryz.underlying290
 a70:=Tryz.isAgg290
 z70:=Tryz.sizeOf290
 v70:=Tryz.zeroValue290
 t72:=Tryz.underlying292
 a72:=Tryz.isAgg292
 z72:=Tryz.sizeOf292
 v72:=Tryz.zeroValue292
 t127:=Tryz.underlying322
 a127:=Tryz.isAgg322
 z127:=Tryz.sizeOf322
 v127:=Tryz.zeroValue322
end Go.Proofs
end
section
open Go Go.Proofs Go.Eng Go.Shelf IB Go.Lib Go.RowKit
namespace RB
def hasP (s p:Bx):Prop:=p.length<=s.length/\s.take p.length=p
instance (s p:Bx):Decidable (hasP s p):=by unfold hasP;infer_instance
def aHn (s p:Bx):Bx:=if hasP s p then s.drop p.length else s
theorem uK (s:Bx):hasP s [45]↔s.headD 0=45:=by
 cases s with
 | nil=>simp[hasP]
 | cons c r=>simp[hasP]
theorem aCi (s:Bx):aHn s [45]=digs s:=by
 unfold aHn digs
 by_cases h:s.headD 0=45
 ·rw[aD h,aD ((uK s).2 h)]
  cases s<;>rfl
 rw[aC h,aC (fun e=>h ((uK s).1 e))]
def c126:Con:=bB 145 true fun args K=>match args with | [.str s,.str p]=>K (.bl (hasP s p) inferInstance) | _=>False
theorem k126:aS Tryz.prog c126:=by
 refine kQ {} Tryz.func145 Tryz.ntmps145 kn fun _ _ h=>?_
 split at h
 case h_2=>exact h.elim
 refine kb h ?_
 (repeat'((conv=>whnf);first|refine Zg fun _=>?_|fail))
 (apply Br.mk<;>intro)
 ·rename_i h
  (repeat' first|refine ZG ?_|refine Zg fun _=>?_)
  (conv=>whnf)
  unfold hasP
  exact ⟨fun e=>⟨by omega,e⟩,fun e=>e.2⟩
 rename_i h
 (conv=>whnf)
 intro e
 exact h (by have:=e.1;omega)
theorem b91 (s:Bx):body Tryz.prog [c126] {} true Tryz.f249 [S s,S [45]] (.bl (s.headD 0=45) inferInstance):=by
 (conv=>whnf)
 exact uK s
def c91:Con:=bB 249 true fun args K=>match args with | [.str s,.str p]=>Need (p= [45]) (K (.bl (s.headD 0=45) inferInstance)) | _=>False
theorem k91:aS Tryz.prog c91:=by
 refine kO Tryz.func249 fun args K h=>?_
 simp only[c91] at h;split at h
 ·rename_i s p
  obtain ⟨rfl,h⟩:=h
  exact ⟨_,h,triB Tryz.func249 Tryz.ntmps249 (by simp[k126]) (b91 s)⟩
 exact h.elim
def c125:Con:=bB 116 true fun args K=>match args with | [.str s,.str p]=>K (.str (aHn s p)) | _=>False
theorem k125:aS Tryz.prog c125:=by
 refine kQ {} Tryz.func116 Tryz.ntmps116 (kc k126 kn) fun _ _ h=>?_
 split at h
 case h_2=>exact h.elim
 refine kb h ?_
 unfold aHn
 (apply Br.mk<;>intro)
 ·rename_i h
  rw[aD h]
  have:=h.1
  (repeat' first|refine ZG ?_|refine Zg fun _=>?_)
  (conv=>whnf)
 rename_i h
 rw[aC h]
 (conv=>whnf)
theorem b88 (s:Bx):body Tryz.prog [c125] {} true Tryz.f75 [S s,S [45]] (S (digs s)):=by
 rw[<- aCi]
 (conv=>whnf)
def c88:Con:=bB 75 true fun args K=>match args with | [.str s,.str p]=>Need (p= [45]) (K (S (digs s))) | _=>False
theorem k88:aS Tryz.prog c88:=by
 refine kO Tryz.func75 fun args K h=>?_
 simp only[c88] at h;split at h
 ·rename_i s p
  obtain ⟨rfl,h⟩:=h
  exact ⟨_,h,triB Tryz.func75 Tryz.ntmps75 (by simp[k125]) (b88 s)⟩
 exact h.elim
def c155:Con:=bB 228 true fun args K=>match args with | [.str s,.str p]=>K (.tup [S (aHn s p),.bl (hasP s p) inferInstance]) | _=>False
theorem k155:aS Tryz.prog c155:=by
 refine kQ {} Tryz.func228 Tryz.ntmps228 (kc k126 kn) fun _ _ h=>?_
 split at h
 case h_2=>exact h.elim
 refine kb h ?_
 unfold aHn
 (apply Br.mk<;>intro)
 ·rename_i h
  rw[aC h]
  (conv=>whnf)
  (repeat' first|exact trivial|rfl|apply aA)
  exact h
 rename_i h
 have h:=bD.1 h
 rw[aD h]
 have:=h.1
 (repeat' first|refine ZG ?_|refine Zg fun _=>?_)
 (conv=>whnf)
 (repeat' first|exact trivial|rfl|apply aA)
 all_goals first | exact h | exact h.1 | exact h.2
theorem b123 (s:Bx):body Tryz.prog [c155] {} true Tryz.f182 [S s,S [45]] (.tup [S (digs s),.bl (s.headD 0=45) inferInstance]):=by
 rw[<- aCi]
 (conv=>whnf)
 (repeat' first|exact trivial|rfl|apply aA)
 exact uK s
def c123:Con:=bB 182 true fun args K=>match args with | [.str s,.str p]=>Need (p= [45]) (K (.tup [S (digs s),.bl (s.headD 0=45) inferInstance])) | _=>False
theorem k123:aS Tryz.prog c123:=by
 refine kO Tryz.func182 fun args K h=>?_
 simp only[c123] at h;split at h
 ·rename_i s p
  obtain ⟨rfl,h⟩:=h
  exact ⟨_,h,triB Tryz.func182 Tryz.ntmps182 (by simp[k155]) (b123 s)⟩
 exact h.elim
theorem aAo {E:Env} {s:Bx} {vs:List Value} (h:RelL E [.str s] vs):vs= [.string ⟨s.toArray⟩]/\s.length<=maxL:=by
 obtain ⟨v,rfl,h1⟩:=h.one
 cases h1 with
 | str _ hl=>exact ⟨rfl,hl⟩
theorem aL8 {E:Env} {k:IntKind} {n:Int} {vs:List Value} (h:RelL E [.val (.int k n)] vs):vs= [.int k n]/\inK k n:=by
 obtain ⟨v,rfl,h1⟩:=h.one
 obtain ⟨rfl,h2⟩:=h1.int_inv
 exact ⟨rfl,h2⟩
theorem aVh {ok:Nat→Prop} {w:World} (h:GW Tryz.prog ok w):Lib.TabIs Tryz.prog w "internal/strconv.uint64pow10" .u64 Lib.pow10Tab:=by
 obtain ⟨cs,h1,h2⟩:=h.var (n:= "internal/strconv.uint64pow10") (by simp[gnames]) (g:=3) (by kernel_rfl)
 unfold Lib.TabIs
 rw[h1,h2.pow rfl]
 rfl
theorem aN4 (n:Nat) (h:n<=9223372036854775808):(decDigits n).length<=20:=IB.nO 19 n (by omega)
theorem aVi (n:Int) (h:inK .i64 n):(itoa n).length<=maxL:=by
 have h: -9223372036854775808<=n/\n<=9223372036854775807:=h
 have h1:=aN4 n.natAbs (by omega)
 rw[<- gM] at h1
 have h2:(itoa n).length<=(digs (itoa n)).length+1:=by
  unfold digs
  split
  ·rw[List.length_tail];omega
  omega
 show _<=140737488355328
 omega
theorem t61 (n:Int):Tri Tryz.prog true 188 [I n] (S (itoa n)):=by
 intro ok w vs hg hok hr
 obtain ⟨rfl,hn⟩:=aL8 hr
 have hn': -9223372036854775808<=n/\n<=9223372036854775807:=hn
 refine (Any.strconv_Itoa RL.lI n hn'.1 hn'.2 w (aVh hg)).mono ?_
 rintro e w' ⟨rfl,k,os,rfl⟩
 exact ⟨_,rfl,Lib.below_grow _ _ (aM _) _ _,.str _ (aVi n hn)⟩
def c61:Con:=bB 188 true fun args K=>match args with | [.val (.int .i64 n)]=>K (S (itoa n)) | _=>False
theorem k61:aS Tryz.prog c61:=by
 refine kO Tryz.func188 fun args K h=>?_
 simp only[c61] at h;split at h
 ·exact ⟨_,h,t61 _⟩
 exact h.elim
abbrev fitI (n:Int):Prop:= -9223372036854775808<=n/\n<=9223372036854775807
def wC (acc:Nat) (l:Bx):Nat:=l.foldl (fun n c=>10*n+(c.toNat-48)) acc
theorem aHo:∀(l:Bx) (acc:Nat),acc<=wC acc l
 | [],acc=>aM _
 | c::r,acc=>by
  have:=aHo r (10*acc+(c.toNat-48))
  simp only[wC,pR] at this ⊢
  omega
theorem aAp:∀(l:Bx) (acc:Nat),(∀c∈l,eU c)->acc<18446744073709551616->parseUint10 acc l=if wC acc l<18446744073709551616 then .ok (wC acc l) else .range
 | [],acc,_,h=>by simp[parseUint10,wC,h]
 | c::r,acc,hd,h=>by
  have hc:=hd c (by simp)
  have ih:=aAp r (acc*10+(c.toNat-48)) fun x hx=>hd x (by simp[hx])
  have hg:=aHo r (10*acc+(c.toNat-48))
  have e:wC acc (c::r)=wC (acc*10+(c.toNat-48)) r:=by simp only[wC,pR];rw[gB]
  rw[gB] at hg
  simp only[parseUint10]
  have hc:48<=c.toNat/\c.toNat<=57:=hc
  rw[aD hc,e]
  by_cases h1:1844674407370955162<=acc
  ·rw[aD h1,aC (by omega)]
  rw[aC h1]
  by_cases h2:18446744073709551616<=acc*10+(c.toNat-48)
  ·rw[aD h2,aC (by omega)]
  rw[aC h2,ih (by omega)]
theorem aHp {l:Bx} (h:∀c∈l,eU c) (hne:l≠ []):parseMag l=if cD l<18446744073709551616 then .ok (cD l) else .range:=by
 unfold parseMag
 rw[aC hne,aAp l 0 h (by omega)]
 rfl
theorem aZ1 {c:UInt8} (h:eU c):c.toNat≠43/\c.toNat≠45:=by unfold eU at h;omega
theorem aHq {s:Bx} (h:form s):atoiAll s=(if fitI (valI s) then .ok (valI s) else .range)/\(¬fitI (valI s)->(9223372036854775807<valI s/\atoiSat s=9223372036854775807)\/(valI s < -9223372036854775808/\atoiSat s= -9223372036854775808)):=by
 obtain ⟨h1,h2,h3⟩:=h
 cases s with
 | nil=>simp[digs] at h1
 | cons c r=>
  by_cases hc:c=45
  ·subst hc
   have e1:digs (45::r)=r:=rfl
   have e2:valI (45::r)= -(cD r:Int):=rfl
   rw[e1] at h1 h3
   rw[e2];unfold fitI;rw[atoiAll_minus,aHp h3 h1,atoiSat_minus]
   refine ⟨?_,fun hn=>.inr ⟨by omega,rfl⟩⟩
   by_cases h4:cD r<18446744073709551616
   ·rw[aD h4]
    simp only[signed]
    by_cases h5:9223372036854775808<cD r
    ·rw[aD h5,aC (by omega)]
    rw[aC h5,aD (by omega)]
   rw[aC h4,aC (by omega)];rfl
  have e1:digs (c::r)=c::r:=by simp[digs,hc]
  have e2:valI (c::r)=cD (c::r):=by simp[valI,hc]
  rw[e1] at h1 h3
  obtain ⟨g1,g2⟩:=aZ1 (h3 c (by simp))
  rw[e2];unfold fitI;rw[atoiAll_plain c r g1 g2,aHp h3 h1,atoiSat_other c r g2]
  refine ⟨?_,fun hn=>.inl ⟨by omega,rfl⟩⟩
  by_cases h4:cD (c::r)<18446744073709551616
  ·rw[aD h4]
   simp only[signless]
   by_cases h5:9223372036854775808<=cD (c::r)
   ·rw[aD h5,aC (by omega)]
   rw[aC h5,aD (by omega)]
  rw[aC h4,aC (by omega)];rfl
theorem t72ok (s:Bx) (hf:form s) (hv:fitI (valI s)):Tri Tryz.prog true 230 [S s] (.tup [I (valI s),.val .nilIface]):=by
 intro ok w vs hg hok hr
 obtain ⟨rfl,hl⟩:=aAo hr
 have hl':s.length<=140737488355328:=hl
 have ha:=(aHq hf).1
 rw[aD hv] at ha
 refine (Any.strconv_Atoi_ok RL.lA ⟨s.toArray⟩ (by show s.toArray.size<= _;rw[eN];omega) (valI s) (by simpa using ha) w).mono ?_
 rintro e w' ⟨rfl,hw⟩
 refine ⟨_,rfl,?_,.tup _ _ (.cons _ _ _ _ (.val _ hv) (.cons _ _ _ _ (.val _ trivial) .nil))⟩
 rcases hw with rfl | ⟨t,rfl⟩
 ·exact Below.refl _ _
 exact Go.Joins.below_bytesWorld _ _ _ _ (aM _)
theorem aVj {ok:Nat->Prop} {w:World} (h:GW Tryz.prog ok w):∃ev,w.cell? ⟨(RL.lA_ren).g 16,0,none⟩=some ev/\∃te pe,ev= .iface te pe:=by
 obtain ⟨hk,cs,e,f,h2,h3⟩:=h "strconv.ErrRange" (by simp[gnames]) ((RL.lA_ren).g 16) (by kernel_rfl)
 obtain ⟨tp,p,hc⟩:=h3.err (.inl rfl)
 refine ⟨_,?_,tp,p,rfl⟩
 rw[World.cell?,h2,hc]
 rfl
theorem aZ2 (s:Bx) (hf:form s) (hv:¬fitI (valI s)) (hl:s.length<=281474976710656):Tri Tryz.prog true 230 [S s] (.tup [I (atoiSat s),.ifc]):=by
 intro ok w vs hg hok hr
 obtain ⟨rfl,_⟩:=aAo hr
 have ha:=(aHq hf).1
 rw[aC hv] at ha
 obtain ⟨ev,h1,h2⟩:=aVj hg
 refine (Any.strconv_Atoi_range RL.lA ⟨s.toArray⟩ (by show s.toArray.size<= _;rw[eN];omega) (by simpa using ha) ev w h1 (.inr h2)).mono ?_
 rintro e w' ⟨N,rfl,_,_,hb⟩
 refine ⟨_,rfl,hb,.tup _ _ (.cons _ _ _ _ ?_ (.cons _ _ _ _ (.ifc _ (.inr ⟨_,_,rfl⟩)) .nil))⟩
 exact .val _ (atoiSat_bounds _)
def c72:Con:=bB 230 true fun args K=>match args with
 | [.str s]=>Need (form s/\s.length<=1000) (Br (fitI (valI s)) (K (.tup [I (valI s),.val .nilIface])) (K (.tup [I (atoiSat s),.ifc])))
 | _=>False
theorem k72:aS Tryz.prog c72:=by
 refine kO Tryz.func230 fun args K h=>?_
 simp only[c72] at h;split at h
 ·rename_i s
  obtain ⟨⟨hf,hl⟩,h⟩:=h
  by_cases hv:fitI (valI s)
  ·exact ⟨_,h.yes hv,t72ok s hf hv⟩
  exact ⟨_,h.no hv,aZ2 s hf hv (by omega)⟩
 exact h.elim
abbrev digitsS:Bx:=[48,49,50,51,52,53,54,55,56,57]
theorem aFo (c:UInt8):digitsS.contains c=true↔eU c:=by
 have h:∀n:Fin 256,(digitsS.contains (UInt8.ofNat n.val)=true)↔(48<=n.val/\n.val<=57):=by decide
 have h1:=h ⟨c.toNat,c.toNat_lt⟩
 simp only[UInt8.ofNat_toNat] at h1
 exact h1
theorem aHr (s cs:Bx):trimS s cs= []↔∀c∈s,cs.contains c=true:=by
 have hd:∀l:Bx,l.dropWhile (cs.contains ·)= []↔∀c∈l,cs.contains c=true:=by
  intro l
  induction l with
  | nil=>simp
  | cons x r ih=>
   simp only[List.dropWhile_cons,bE,forall_eq_or_imp]
   by_cases h:cs.contains x=true
   ·rw[aD h,ih];simp only[h,true_and]
   rw[aC h];exact ⟨(fun e=>by cases e),(fun e=>(h e.1).elim)⟩
 have hmem:∀l:Bx,(∀c∈l.dropWhile (cs.contains ·),cs.contains c=true)↔∀c∈l,cs.contains c=true:=by
  intro l
  induction l with
  | nil=>simp
  | cons x r ih=>
   simp only[List.dropWhile_cons]
   by_cases h:cs.contains x=true
   ·rw[aD h,ih];simp only[bE,forall_eq_or_imp,h,true_and]
   rw[aC h]
 unfold trimS trimLeftS trimRightS
 rw[hd]
 have:=hmem s.reverse
 simp only[List.mem_reverse] at this ⊢
 exact this
theorem aRo (s cs:Bx):(trimS s cs).length<=s.length:=by
 have h:∀l:Bx,(l.dropWhile (cs.contains ·)).length<=l.length:=fun l=>(List.dropWhile_sublist _).length_le
 unfold trimS trimLeftS trimRightS
 have h1:=h (s.reverse.dropWhile (cs.contains ·)).reverse
 have h2:=h s.reverse
 simp only[List.length_reverse] at h1 h2
 omega
theorem t156 (s:Bx):Tri Tryz.prog true 278 [S s,S digitsS] (S (trimS s digitsS)):=by
 intro ok w vs hg hok hr
 cases hr with
 | cons _ v1 _ vs1 h1 hr=>
 cases h1 with
 | str _ hl=>
 obtain ⟨rfl,_⟩:=aAo hr
 have hl':s.length<=140737488355328:=hl
 refine (Any.strings_Trim_laid RL.lT (by kernel_rfl) ⟨s.toArray⟩ ⟨digitsS.toArray⟩ w (by show s.toArray.size<= _;rw[eN];omega) (by decide) (ascii_of_all (by decide))).mono ?_
 rintro e w' ⟨rfl,hb⟩
 exact ⟨_,rfl,hb,.str _ (by have:=aRo s digitsS;show _<=140737488355328;omega)⟩
def c156:Con:=bB 278 true fun args K=>match args with | [.str s,.str cs]=>Need (cs=digitsS) (K (S (trimS s digitsS))) | _=>False
theorem k156:aS Tryz.prog c156:=by
 refine kO Tryz.func278 fun args K h=>?_
 simp only[c156] at h;split at h
 ·rename_i s cs
  obtain ⟨rfl,h⟩:=h
  exact ⟨_,h,t156 _⟩
 exact h.elim
theorem ex9:Builder.Extra Tryz.prog RL.lR_ren where
 sizeBuilder:=by kernel_rfl
 liesBuilder:=by kernel_rfl
 t5:=Tryz.underlying5
 a5:=Tryz.isAgg5
 z5:=Tryz.sizeOf5
 v5:=Tryz.zeroValue5
 infoByte:=by kernel_rfl
 cellsByte:=by kernel_rfl
 sizeByte:=by kernel_rfl
 neB5:=by decide
theorem yX (c:UInt8):∀n,repeatL [c] n=List.replicate n c
 | 0=>rfl
 | n+1=>by rw[repeatL,yX c n];rfl
theorem t159 (c:UInt8) (n:Int) (hn:0<=n/\n<=1000):Tri Tryz.prog true 287 [S [c],I n] (S (List.replicate n.toNat c)):=by
 intro ok w vs hg hok hr
 cases hr with
 | cons _ v1 _ vs1 h1 hr=>
 cases h1 with
 | str _ hl=>
 obtain ⟨rfl,_⟩:=aL8 hr
 obtain ⟨k,rfl⟩:∃k:Nat,n=k:=⟨n.toNat,by omega⟩
 refine (Any.strings_Repeat RL.lR ex9 ⟨[c].toArray⟩ k w (by omega) (by show 1*k<= _;omega)).mono ?_
 rintro e w' ⟨rfl,hb⟩
 rw[aP,<- yX]
 exact ⟨_,rfl,hb,.str _ (by rw[yX,cC];show _<=140737488355328;omega)⟩
def c159:Con:=bB 287 true fun args K=>match args with | [.str [c],.val (.int .i64 n)]=>Need (0<=n/\n<=1000) (K (S (List.replicate n.toNat c))) | _=>False
theorem k159:aS Tryz.prog c159:=by
 refine kO Tryz.func287 fun args K h=>?_
 simp only[c159] at h;split at h
 ·exact ⟨_,h.go,t159 _ _ h.ok⟩
 exact h.elim
theorem aJn {s:Bx} (h:digs s= []\/((digs s).headD 0=48/\s≠ [48])\/trimS (digs s) digitsS≠ []):chkI s=11:=by
 unfold chkI
 rw[aC]
 rintro ⟨h1,h2,h3⟩
 rcases h with h | h | h
 ·exact h1 h
 ·rcases h2 with h2 | h2
  ·exact h2 h.1
  exact h.2 h2
 exact h ((aHr _ _).2 fun c hc=>(aFo c).2 (h3 c hc))
theorem aXe {s:Bx} (h1:digs s≠ []) (h2:(digs s).headD 0=48->s= [48]) (h3:trimS (digs s) digitsS= []):form s:=
 ⟨h1,(Classical.em ((digs s).headD 0=48)).elim (fun e=>.inr (h2 e)) .inl,fun c hc=>(aFo c).1 ((aHr _ _).1 h3 c hc)⟩
theorem wD {s:Bx} (h:form s):chkI s=if 300<(digs s).length then 4 else 0:=by unfold chkI;rw[aD h]
def c127:Con:=bB 229 true fun args K=>match args with | [.str s]=>K (I (chkI s)) | _=>False
theorem k127:aS Tryz.prog c127:=by
 refine kQ {} Tryz.func229 Tryz.ntmps229 (kc k88 (kc k156 kn)) fun _ _ h=>?_
 split at h
 case h_2=>exact h.elim
 rename_i s
 refine kb h ?_
 (repeat refine ZG ?_)
 (apply Br.mk<;>intro)
 ·rename_i h
  rw[aJn (.inl h)]
  exact ZF
 rename_i h
 have hpos:0<(digs s).length:=cQ.2 h
 have hb:dT (digs s) 0=48↔(digs s).headD 0=48:=by
  unfold dT
  cases hd:digs s with
  | nil=>rw[hd] at hpos;simp at hpos
  | cons c r=>
   show (c.toNat:Int)=48↔c=48
   constructor
   ·intro e
    have:c.toNat=(48:UInt8).toNat:=by show c.toNat=48;omega
    exact vC this
   rintro rfl;rfl
 (repeat'((conv=>whnf);first|refine Zg fun _=>?_|refine Zn ?_|refine Z0 ?_|refine Zr (fun _=>?_) fun _=>?_|fail))
 all_goals (skip;(conv=>whnf);(repeat' first|rfl|apply aA))
 all_goals first
  | exact (aJn (.inr (.inl ⟨hb.1 (by assumption),by assumption⟩))).symm
  | exact (aJn (.inr (.inr (by assumption)))).symm
  | (have hf:form s:=aXe h (fun e=>by first | exact bD.1 (by assumption) | exact absurd (hb.2 e) (by assumption)) (by exact bD.1 (by assumption))
     rw[wD hf]
     first | (rw[aD (by omega)]) | (rw[aC (by omega)])
     done)
noncomputable def chk2 (a b:Bx):Int:=if chkI a≠0 then chkI a else chkI b
def c94:Con:=bB 186 true fun args K=>match args with | [.str a,.str b]=>K (I (chk2 a b)) | _=>False
theorem k94:aS Tryz.prog c94:=by
 refine kQ {} Tryz.func186 Tryz.ntmps186 (kc k127 kn) fun _ _ h=>?_
 split at h
 case h_2=>exact h.elim
 refine kb h ?_
 unfold chk2
 (apply Br.mk<;>intro)
 ·rename_i h
  rw[aD h]
  exact ZF
 rename_i h
 rw[aC h]
 exact ZF
theorem iY {s:Bx} (h:chkI s=0):form s/\(digs s).length<=300:=by
 unfold chkI at h
 split at h
 ·rename_i hf
  split at h
  ·cases h
  exact ⟨hf,by omega⟩
 cases h
theorem aFp (s:Bx):(digs s).length<=s.length/\s.length<=(digs s).length+1:=by
 unfold digs
 split
 ·rw[List.length_tail];omega
 omega
theorem lB {s:Bx} (h:form s) (hl:s.length<=18): -1000000000000000000<valI s/\valI s<1000000000000000000:=by
 obtain ⟨h1,h2,h3⟩:=h
 have hb:=rH (digs s) h3
 have hp:(10:Nat)^ (digs s).length<=10^18:=cL (by omega) (by have:=aFp s;omega)
 have h18:(10:Nat)^18=1000000000000000000:=by decide
 have hv:valI s=cD (digs s)\/valI s= -(cD (digs s):Int):=by
  unfold valI digs
  split
  ·exact .inr rfl
  exact .inl rfl
 omega
theorem b95y (a b:Bx) (ha:form a) (hb:form b) (hs:a.length<=18/\b.length<=18):body Tryz.prog [c72] {} true Tryz.f187 [S a,S b,I 18] (.tup [I (valI a),I (valI b),.val (.bool true)]):=by
 have h1:=lB ha hs.1
 have h2:=lB hb hs.2
 have f1:fitI (valI a):=by unfold fitI;omega
 have f2:fitI (valI b):=by unfold fitI;omega
 (repeat'((conv=>whnf);first|refine Zg fun _=>?_|refine Zm ?_|fail))
 refine Need.mk ⟨ha,by omega⟩ ?_
 refine Br.mkY f1 ?_
 refine Need.mk ⟨hb,by omega⟩ ?_
 refine Br.mkY f2 ?_
 (repeat'((conv=>whnf);first|apply pI|apply pJ|fail))
 exact ZF
theorem b95n (a b:Bx) (hs:¬(a.length<=18/\b.length<=18)):body Tryz.prog [c72] {} true Tryz.f187 [S a,S b,I 18] (.tup [I 0,I 0,.val (.bool false)]):=by
 (repeat'((conv=>whnf);first|refine Zg fun _=>?_|refine Zy ?_|refine Zr (fun _=>?_) fun _=>?_|fail))
 all_goals first | (exfalso;omega) | skip
 all_goals (skip;(conv=>whnf);(repeat' first|exact trivial|rfl|apply aA))
def c95:Con:=bB 187 true fun args K=>match args with
 | [.str a,.str b,.val (.int .i64 m)]=>Need (m=18/\form a/\form b) (Br (a.length<=18/\b.length<=18) (K (.tup [I (valI a),I (valI b),.val (.bool true)])) (K (.tup [I 0,I 0,.val (.bool false)])))
 | _=>False
theorem k95:aS Tryz.prog c95:=by
 refine kO Tryz.func187 fun args K h=>?_
 simp only[c95] at h;split at h
 ·rename_i a b m
  obtain ⟨⟨rfl,ha,hb⟩,h⟩:=h
  by_cases hs:a.length<=18/\b.length<=18
  ·exact ⟨_,h.yes hs,triB Tryz.func187 Tryz.ntmps187 (by simp[k72]) (b95y a b ha hb hs)⟩
  exact ⟨_,h.no hs,triB Tryz.func187 Tryz.ntmps187 (by simp[k72]) (b95n a b hs)⟩
 exact h.elim
abbrev itD (s:Bx) (i:Nat):List SV:=[I i,I (dgt s i)]
def c130:Con:=bB 232 false fun args K=>match args with | [.str s]=>K (.clo 282 [] [.lelem [S s] 0]) | _=>False
theorem k130:aS Tryz.prog c130:=by
 refine kQ {} Tryz.func232 Tryz.ntmps232 kn fun _ _ h=>?_
 split at h
 case h_2=>exact h.elim
 refine kb h ?_
 exact ZF
theorem aVk {s:Bx} (h:∀c∈s,eU c) {i:Nat} (hi:i<s.length):dT s (s.length-1-i)-48=dgt s i/\48<=dT s (s.length-1-i)/\dT s (s.length-1-i)<=57:=by
 have hj:s.length-1-i<s.length:=by omega
 have e:∀d:UInt8,s.getD (s.length-1-i) d=s[s.length-1-i]:=fun d=>by simp[aB,hj]
 have hd:eU s[s.length-1-i]:=h _ (cU hj)
 unfold dT dgt
 rw[e,e]
 unfold eU at hd
 omega
theorem b161 (s:Bx) (h:∀c∈s,eU c):aD2 Tryz.prog [] { asks:=[(0,[])] } Tryz.f282 [.lelem [S s] 0] s.length (itD s):=by
 (repeat'((conv=>whnf);first|refine Zg fun _=>?_|fail))
 refine Ask.mk ⟨{ X:=Nat,pre:=fun i=>i<=s.length,mod:=fun i _=>[(6,I i)],heap:=fun i _=>[.yst (some i) s.length (itD s)],mu:=fun i=>s.length-i },rfl,?_⟩
 (repeat refine ZG ?_)
 refine ⟨⟨(0:Nat),aI _,ZE⟩,fun (i:Nat) (hi:i<=s.length)=>?_⟩
 (apply Br.mk<;>intro)
 ·have hlt:i<s.length:=by omega
  obtain ⟨e1,e2,e3⟩:=aVk h hlt
  (repeat' first|refine ZG ?_|refine Zg fun _=>?_)
  refine cX (s.length-1-i) (by omega) ?_
  (repeat'((conv=>whnf);first|refine Zg fun _=>?_|refine Zn ?_|fail))
  refine Need.mk (by (repeat' first|exact trivial|rfl|apply aA);exact e1) ?_
  refine Two.mk ?_ ?_
  ·(repeat refine ZG ?_)
   refine ⟨(i+1:Nat),by show s.length-(i+1)<s.length-i;omega,hlt,?_⟩
   exact ZE
  (conv=>whnf)
  trivial
 (conv=>whnf)
 omega
def c161:Con:=bB 282 false fun args K=>match args with | [.lelem [.str s] 0]=>Need (∀c∈s,eU c) (K (.itr s.length (itD s))) | _=>False
theorem k161:aS Tryz.prog c161:=by
 refine kO Tryz.func282 fun args K h=>?_
 simp only[c161] at h;split at h
 ·rename_i s;exact ⟨_,h.go,qC (by simp) Tryz.func282 (by simp[Tryz.ntmps282]) (b161 s h.ok)⟩
 exact h.elim
abbrev aFq (i:Nat):Int:=if i=0 then 1 else 10^ ((i-1)%9+1)
theorem aXf (i:Nat) (h:i%9≠0):aFq i=10^ (i%9):=by
 unfold aFq
 rw[aC (by omega)]
 congr 1
 omega
theorem aRp (i:Nat):aFq (i+1)=10^ (i%9)*10:=by
 unfold aFq
 rw[aC (by omega),Nat.add_sub_cancel,gC]
theorem aVl (i:Nat):1<=(10:Int)^ (i%9)/\(10:Int)^ (i%9)<=100000000:=by
 have:i%9<9:=eT _ (by omega)
 generalize i%9=k at this
 match k,this with
 | 0,_ | 1,_ | 2,_ | 3,_ | 4,_ | 5,_ | 6,_ | 7,_ | 8,_=>decide
abbrev nL (s:Bx):Nat:=(s.length+8)/9
def c98:Con:=bB 189 true fun args K=>match args with | [.str s]=>Need (form s/\(digs s).length<=600) (K (.agg [.bl (s.headD 0=45) inferInstance,Ls (aZ B9 (cD (digs s)))])) | _=>False
theorem k98:aS Tryz.prog c98:=by
 refine kQ { asks:=[(0,[])] } Tryz.func189 Tryz.ntmps189 (kc k123 (kc k130 (kc k161 (kc k131 kn)))) fun _ _ h=>?_
 split at h
 case h_2=>exact h.elim
 rename_i s
 refine kb h.go ?_
 replace h:=h.ok
 obtain ⟨hf,hl⟩:=h
 have hd:=hf.2.2
 have hn:(digs s).length<=9*nL (digs s):=by unfold nL;omega
 have e9:(10:Nat)^9=B9:=by decide
 (repeat' first|refine ZG ?_|refine Zg fun _=>?_)
 refine Ask.mk ⟨{ X:=Nat,pre:=fun i=>i<=(digs s).length,mod:=fun _ _=>[],heap:=fun i H=>[hget H 0,V (rdK (digs s) (nL (digs s)) i),hget H 2,.cells [I (aFq i)] 3],mu:=fun i=>i },rfl,?_⟩
 (repeat refine ZG ?_)
 refine ⟨⟨(0:Nat),rfl,aI _,?_⟩,fun (i:Nat) hi (hlt:i<(digs s).length)=>?_,fun (i:Nat) hi (he:i=(digs s).length)=>?_⟩
 ·(repeat' first|exact trivial|rfl|apply aA)
  (conv=>whnf)
  show List.replicate _ _=List.replicate _ _
  congr 1;unfold nL;omega
 ·obtain ⟨g1,g2,g3,g4,g5⟩:=aE9 hd hn i (by omega)
  have gd:=aPr hd hlt
  have gi:=get9 g2 (i/9)
  have gu:=aVl i
  have hi9:i/9<nL (digs s):=by unfold nL;omega
  have g5:(rdK (digs s) (nL (digs s)) i).getD (i/9) 0<(10:Int)^ (i%9):=g5
  have hm:0<=dgt (digs s) i*10^ (i%9)/\dgt (digs s) i*10^ (i%9)<=9*100000000:=⟨eC gd.1 (by omega),gD (bY gd.2.1 (by omega)) (aY gu.2 (by omega))⟩
  have hst:rdK (digs s) (nL (digs s)) (i+1)=(rdK (digs s) (nL (digs s)) i).set (i/9) ((rdK (digs s) (nL (digs s)) i).getD (i/9) 0+dgt (digs s) i*10^ (i%9)):=rfl
  have hun:=aRp i
  show hnfL (itD (digs s) i) _
  (repeat' first|refine ZG ?_|refine Zg fun _=>?_)
  (apply Br.mk<;>intro)
  ·rename_i hz
   have hz:i%9=0:=by omega
   rw[hz] at hm hst hun
   (repeat'((conv=>whnf);first|refine Zg fun _=>?_|refine Za ?_|refine Zn ?_|refine Zj ?_|apply pI|apply pJ|fail))
   refine Need.mk (show -9223372036854775808<=(rdK (digs s) (nL (digs s)) i).getD (i/9) 0+dgt (digs s) i*1/\(rdK (digs s) (nL (digs s)) i).getD (i/9) 0+dgt (digs s) i*1<=9223372036854775807 by omega) ?_
   (repeat refine ZG ?_)
   refine ⟨(i+1:Nat),rfl,hlt,?_⟩
   (repeat' first|exact trivial|rfl|apply aA|omega)
   exact hst.symm
  rename_i hz
  have hz:i%9≠0:=by omega
  rw[<- aXf i hz] at hm hst hun gu
  (repeat'((conv=>whnf);first|refine Zg fun _=>?_|refine Za ?_|refine Zn ?_|refine Zj ?_|apply pI|apply pJ|fail))
  refine Need.mk (show -9223372036854775808<=(rdK (digs s) (nL (digs s)) i).getD (i/9) 0+dgt (digs s) i*aFq i/\(rdK (digs s) (nL (digs s)) i).getD (i/9) 0+dgt (digs s) i*aFq i<=9223372036854775807 by omega) ?_
  (repeat refine ZG ?_)
  refine ⟨(i+1:Nat),rfl,hlt,?_⟩
  (repeat' first|exact trivial|rfl|apply aA|omega)
  exact hst.symm
 subst he
 (conv=>whnf)
 (repeat' first|exact trivial|rfl|apply aA)
 have:=aWm hd hn
 rw[e9] at this
 exact this
theorem aYz:Builder.X72 Tryz.prog RL.lC_ren where
 sizeBuilder:=by kernel_rfl
 liesBuilder:=by kernel_rfl
theorem ex160:Builder.Extra Tryz.prog RL.lS_ren where
 sizeBuilder:=by kernel_rfl
 liesBuilder:=by kernel_rfl
 t5:=Tryz.underlying5
 a5:=Tryz.isAgg5
 z5:=Tryz.sizeOf5
 v5:=Tryz.zeroValue5
 infoByte:=by kernel_rfl
 cellsByte:=by kernel_rfl
 sizeByte:=by kernel_rfl
 neB5:=by decide
def aHs (nm:Nat) (A:SV):Prop:=A= .val (.pointer none)\/A= .ptr nm 0
def c178:Con:=aDj 320 fun args H K=>match args with
 | [.ptr nm 0]=>(match hget H nm with
  | .cells [A,x] e=>Need (aHs nm A/\e=292) <| K (.tup []) (hset H nm (.cells [.ptr nm 0,x] 292))
  | _=>False)
 | _=>False
theorem k178:aS Tryz.prog c178:=by
 refine wY (enters_of Tryz.func320 (by kernel_rfl) rfl) ?_
 intro args H K h
 split at h
 case h_2=>exact h.elim
 rename_i nm
 split at h
 case h_2=>exact h.elim
 rename_i A x e ho
 obtain ⟨⟨hA,rfl⟩,hK⟩:=h
 refine ⟨fun s H'=>s= .tup []/\H'=hset H nm (.cells [.ptr nm 0,x] 292),fun s H' e=>by rw[e.1,e.2];exact hK,?_⟩
 intro G loc ver w vs hC hI hr
 cases hr with
 | cons _ v1 _ vs1 h1 hr=>
 cases hr
 obtain ⟨b,hbk,rfl⟩:=sU hI h1 (by simp only[live,ho])
 have hn:=aR ho (by simp)
 obtain ⟨h0,b',vals,g1,g2,g3⟩:=hI.objs nm _ hn
 rw[hbk] at g1;cases g1
 replace g2:w.heap[b]? =some (.cells ⟨vals⟩ 292 (0,0)):=g2
 cases g3 with
 | cons _ u _ us r1 r2=>
 cases r2 with
 | cons _ u2 _ us2 r2 r3=>
 cases r3
 have hfin:∀w':World,w'.heap.size=w.heap.size->w'.os=w.os->w'.tape=w.tape->w'.output=w.output->(∀k,k≠b->w'.heap[k]? =w.heap[k]?)->w'.heap[b]? =some (.cells #[.pointer (some ⟨b,0,none⟩),u2] 292 (0,0))->Res G (envOf G H loc ver w) (fun s H'=>s= .tup []/\H'=hset H nm (.cells [.ptr nm 0,x] 292)) (.tuple #[]) w':=by
  intro w' q1 q2 q3 q4 q5 q6
  have hin:=hI.inPlace (w':=w') (o':=.cells [.ptr nm 0,x] 292) hn (b:=b) (by simp[Owns,hbk]) (fun _ h=>h) q1 q2 q3 q4 q5
   (fun hx'=>⟨h0,b,[.pointer (some ⟨b,0,none⟩),u2],hbk,q6,.cons _ _ _ _ (h1.ext hx') (.cons _ _ _ _ (r2.ext hx') .nil)⟩)
  exact ⟨_,_,_,_,⟨rfl,rfl⟩,hin.1,.tup [] [] .nil,hin.2⟩
 rcases hA with rfl | rfl
 ·cases r1
  refine (Any.Builder_copyCheck_fresh RL.lC aYz b w (by rw[Lib.cell_of_heap g2];rfl) (by unfold World.shape?;rw[g2];rfl) (Lib.frozen_of_heap g2 0)).mono ?_
  rintro e w' ⟨rfl,rfl⟩
  exact ⟨_,rfl,hfin _ (by simp[World.setCell]) rfl rfl rfl (fun k hk=>Below.heap_setCell w _ _ k hk) (by unfold World.setCell;rw[lE];simp[g2])⟩
 obtain ⟨b2,hb2,rfl⟩:=sU hI r1 (by simp only[live,ho])
 rw[hbk] at hb2;cases hb2
 refine (Any.Builder_copyCheck_used RL.lC aYz b w (by rw[Lib.cell_of_heap g2];rfl)).mono ?_
 rintro e w' ⟨rfl,rfl⟩
 exact ⟨_,rfl,hfin _ rfl rfl rfl rfl (fun _ _=>rfl) g2⟩
abbrev H3 (p:Prop) (hp:Decidable p) (a:List Int) (A:SV) (k:Nat) (bs:List Int):List HO:=[.cells [.bl p hp,Ls a] 233,.cells [A,.ref 2 k] 292,.vec k (.int .u8) bs 5]
theorem b157 (p:Prop) (hp:Decidable p) (a:List Int) (A:SV) (hA:aHs 1 A) (bs:List Int) (hl:bs.length<=1000000):
  sR Tryz.prog [c178] {} Tryz.f285 [.ptr 1 0,.val (.int .u8 45)] (H3 p hp a A 1 bs) (fun s H'=>s= .val .nilIface/\H'=H3 p hp a (.ptr 1 0) 2 (List.append (α:=Int) bs [45])):=by
 (conv=>whnf)
 refine Need.mk rfl ?_
 (repeat refine ZG ?_)
 (conv=>whnf)
 refine ⟨_,_,⟨rfl,rfl⟩,rfl,rfl,rfl,rfl,?_⟩
 exact ZE
theorem b158 (p:Prop) (hp:Decidable p) (a:List Int) (A:SV) (hA:aHs 1 A) (k:Nat) (hk:k=1\/k=2) (bs:List Int) (s:Bx) (hl:bs.length+s.length<=1000000):
  sR Tryz.prog [c178] {} Tryz.f286 [.ptr 1 0,S s] (H3 p hp a A k bs++ [.gone]) (fun r H'=>r= .tup [I s.length,.val .nilIface]/\H'=H3 p hp a (.ptr 1 0) (k+1) (List.append (α:=Int) bs (eG s))++ [.gone]):=by
 rcases hk with rfl | rfl
 ·(conv=>whnf)
  refine Need.mk rfl ?_
  (repeat' first|refine ZG ?_|refine Zg fun _=>?_)
  (conv=>whnf)
  refine ⟨_,_,⟨rfl,rfl⟩,rfl,?_,rfl,rfl,?_⟩
  all_goals (repeat' first|exact trivial|rfl|apply aA)
 (conv=>whnf)
 refine Need.mk rfl ?_
 (repeat' first|refine ZG ?_|refine Zg fun _=>?_)
 (conv=>whnf)
 refine ⟨_,_,⟨rfl,rfl⟩,rfl,?_,rfl,rfl,?_⟩
 all_goals (repeat' first|exact trivial|rfl|apply aA)
def c157:Con:=aDj 285 fun args H K=>match args,H with
 | [.ptr 1 0,.val (.int .u8 45)],[.cells [.bl p hp,.seq (.int .i64) a] e1,.cells [A,.ref 2 1] e2,.vec 1 (.int .u8) bs e3]=>
  Need (aHs 1 A/\e1=233/\e2=292/\e3=5/\List.length (α:=Int) bs<=1000000) (K (.val .nilIface) (H3 p hp a (.ptr 1 0) 2 (List.append (α:=Int) bs [45])))
 | _,_=>False
theorem k157:aS Tryz.prog c157:=by
 refine wY (enters_of Tryz.func285 (by kernel_rfl) rfl) ?_
 intro args H K h
 split at h
 ·obtain ⟨⟨hA,rfl,rfl,rfl,hl⟩,hK⟩:=h
  refine ⟨_,?_,fX (by simp[k178]) Tryz.func285 (by simp[Tryz.ntmps285]) (b157 _ _ _ _ hA _ hl)⟩
  rintro s H' ⟨rfl,rfl⟩
  exact hK
 exact h.elim
def c158:Con:=aDj 286 fun args H K=>match args,H with
 | [.ptr 1 0,.str s],[.cells [.bl p hp,.seq (.int .i64) a] e1,.cells [A,.ref 2 k] e2,.vec k' (.int .u8) bs e3,.gone]=>
  Need (aHs 1 A/\k'=k/\(k=1\/k=2)/\e1=233/\e2=292/\e3=5/\List.length (α:=Int) bs+s.length<=1000000) (K (.tup [I s.length,.val .nilIface]) (H3 p hp a (.ptr 1 0) (k+1) (List.append (α:=Int) bs (eG s))++ [.gone]))
 | _,_=>False
theorem k158:aS Tryz.prog c158:=by
 refine wY (enters_of Tryz.func286 (by kernel_rfl) rfl) ?_
 intro args H K h
 split at h
 ·obtain ⟨⟨hA,rfl,hk,rfl,rfl,rfl,hl⟩,hK⟩:=h
  refine ⟨_,?_,fX (by simp[k178]) Tryz.func286 (by simp[Tryz.ntmps286]) (b158 _ _ _ _ hA _ hk _ _ hl)⟩
  rintro s H' ⟨rfl,rfl⟩
  exact hK
 exact h.elim
set_option maxRecDepth 100000 in
theorem aRq {P:Program} {ρ:Ren} (L:Lays.n169 P ρ) (X:Builder.Extra P ρ) (b g cap:Nat) (p:Value) (cur:Array Value) (l:Bx) (w:World) (h0:l≠ []) (hbk:w.heap[b]? =some (.cells #[p,.slice (some ⟨g,0,none⟩) l.length cap] (ρ.t 72) (0,0)))
  (hg:w.heap[g]? =some (.cells cur (ρ.t 5) (0,0))) (hnc:l.length<=cap) (hcm:cap<=maxLen) (hcs:cap<=cur.size) (hcell:∀(j:Nat) (x:UInt8),l[j]? =some x->cur[j]? =some (Value.int .u8 x.toNat)):
  Calls P (ρ.f 169) #[.pointer (some ⟨b,0,none⟩)] w fun e w'=>e= .returned (.string ⟨l.toArray⟩)/\w'=w.drew.freeze ⟨g,0,none⟩ l.length:=by
 have hl0:l.length≠0:=by simpa using h0
 have c1:w.drew.cell? ⟨b,1,none⟩=some (.slice (some ⟨g,0,none⟩) l.length cap):=by
  have:w.drew.heap[b]? =some (.cells #[p,.slice (some ⟨g,0,none⟩) l.length cap] (ρ.t 72) (0,0)):=hbk
  rw[Lib.cell_of_heap this];rfl
 have hSD:(Builtin.unsafeSliceData_ #[(ρ.t 37)] (ρ.t 127) #[.slice (some ⟨g,0,none⟩) l.length cap]).run P w.drew= .ok (.pointer (some ⟨g,0,none⟩)) w.drew:=
  Lib.run_unsafeSliceData_row _ _ _ _ _ _ (by omega)
 have hUS:(Builtin.unsafeString_ #[(ρ.t 127),(ρ.t 3)] (ρ.t 9) #[.pointer (some ⟨g,0,none⟩),.int .i64 l.length]).run P w.drew= .ok (.string ⟨l.toArray⟩) (w.drew.freeze ⟨g,0,none⟩ l.length):=by
  refine Lib.run_unsafeString_row w.drew (ρ.t 127) (ρ.t 3) (ρ.t 9) (ρ.t 5) L.t127 X.cellsByte g cur.size (by have hg':w.drew.heap[g]? =some (.cells cur (ρ.t 5) (0,0)):=hg;simp[World.shape?,hg']) l h0 (by omega) (by unfold maxLen at hcm;omega) ?_
  intro j x hx
  have hg':w.drew.heap[g]? =some (.cells cur (ρ.t 5) (0,0)):=hg
  rw[Addr.add_mid,Lib.cell_of_heap hg',dB]
  exact hcell j x hx
 have mixed:=L.mixed
 have t72:=L.t72;have a72:=L.a72;have z72:=L.z72;have v72:=L.v72;have u72:=run_underlying L.t72
 have t70:=L.t70;have a70:=L.a70;have z70:=L.z70;have v70:=L.v70;have u70:=run_underlying L.t70
 have t37:=L.t37;have a37:=L.a37;have z37:=L.z37;have v37:=L.v37;have u37:=run_underlying L.t37
 have t127:=L.t127;have a127:=L.a127;have z127:=L.z127;have v127:=L.v127;have u127:=run_underlying L.t127
 have t3:=L.t3;have a3:=L.a3;have z3:=L.z3;have v3:=L.v3;have u3:=run_underlying L.t3
 have t9:=L.t9;have a9:=L.a9;have z9:=L.z9;have v9:=L.v9;have u9:=run_underlying L.t9
 have t5:=X.t5;have a5:=X.a5;have z5:=X.z5;have v5:=X.v5;have u5:=run_underlying X.t5
 go_enter L.f169,Body.n169_ntmps ρ
 go_wp2
 go_region_o
 all_goals (go_wp2;go_ret;exact ⟨rfl,rfl⟩)
def ofI (bs:List Int):Bx:=bs.map fun n=>UInt8.ofNat n.toNat
theorem aFr (l:Bx):ofI (eG l)=l:=by
 unfold ofI eG
 rw[List.map_map]
 conv=>rhs;rw[<- List.map_id l]
 refine pU fun x _=>?_
 simp
def c160:Con:=aDj 288 fun args H K=>match args with
 | [.ptr nm 0]=>(match hget H nm with
  | .cells [A,.ref nm2 k] e=>(match hget H nm2 with
   | .vec k' (.int .u8) bs e'=>Need (aHs nm A/\k'=k/\e=292/\e'=5/\0<List.length (α:=Int) bs/\nm≠nm2) (K (.str (ofI bs)) (hset H nm2 .dead))
   | _=>False)
  | _=>False)
 | _=>False
theorem k160:aS Tryz.prog c160:=by
 refine wY (enters_of Tryz.func288 (by kernel_rfl) rfl) ?_
 intro args H K h
 split at h
 case h_2=>exact h.elim
 rename_i nm
 split at h
 case h_2=>exact h.elim
 rename_i A nm2 k e ho
 split at h
 case h_2=>exact h.elim
 rename_i k' bs e' ho2
 obtain ⟨⟨hA,hkk,rfl,rfl,hpos,hne⟩,hK⟩:=h
 subst hkk
 refine ⟨fun s H'=>s= .str (ofI bs)/\H'=hset H nm2 .dead,fun s H' e=>by rw[e.1,e.2];exact hK,?_⟩
 intro G loc ver w vs hC hI hr
 cases hr with
 | cons _ v1 _ vs1 h1 hr=>
 cases hr
 obtain ⟨b,hbk,rfl⟩:=sU hI h1 (by simp only[live,ho])
 have hn:=aR ho (by simp)
 have hn2:=aR ho2 (by simp)
 obtain ⟨h0,b',vals,g1,g2,g3⟩:=hI.objs nm _ hn
 rw[hbk] at g1;cases g1
 replace g2:w.heap[b]? =some (.cells ⟨vals⟩ 292 (0,0)):=g2
 cases g3 with
 | cons _ u _ us r1 r2=>
 cases r2 with
 | cons _ u2 _ us2 r2 r3=>
 cases r3
 obtain ⟨hu2,hlt2⟩:=pF hI r2 ho2
 subst hu2
 obtain ⟨q1,q2,hlen,hmax,vs2,hown,hel⟩:=hI.objs nm2 _ hn2
 have hlen':(loc nm2).len=List.length (α:=Int) bs:=hlen
 have hmax':(loc nm2).len<=140737488355328:=hmax
 have hel':∀i,i<(loc nm2).len->Reads w (okN G H loc w) (.int .u8) (List.getD (α:=Int) bs i 0) ((vs2.drop (i*1)).take 1):=hel
 rcases cE hown with ⟨_,_,_,e4⟩ | ⟨g,cur,e1,e2,e3,e4,e5,e6,e7⟩
 ·omega
 have e3':w.heap[g]? =some (.cells cur 5 (0,0)):=e3
 have hol:(ofI bs).length=List.length (α:=Int) bs:=by simp[ofI]
 have e7':cur.toList.take (List.length (α:=Int) bs)=vs2:=by rw[<- hlen'];simpa [Ty.size] using e7
 have hcell:∀(j:Nat) (x:UInt8),(ofI bs)[j]? =some x->cur[j]? =some (Value.int .u8 x.toNat):=by
  intro j x hj
  have hjl:j<List.length (α:=Int) bs:=by rw[<- hol];exact (aK.1 hj).1
  have hR:=hel' j (by omega)
  have hg1:List.getD (α:=Int) bs j 0=bs[j]:=by simp[aB,hjl]
  have hx:x=UInt8.ofNat (bs[j]:Int).toNat:=by
   simp[ofI,hjl] at hj
   exact hj.symm
  obtain ⟨hR1,hR2⟩:=hR
  have hR2:(0:Int)<=List.getD (α:=Int) bs j 0/\List.getD (α:=Int) bs j 0<=255:=hR2
  have hjc:(cur.toList.take (List.length (α:=Int) bs))[j]? =some (Value.int .u8 (List.getD (α:=Int) bs j 0)):=by
   rw[e7']
   have h1:((vs2.drop (j*1)).take 1)[0]? =some (Value.int .u8 (List.getD (α:=Int) bs j 0)):=by rw[hR1];rfl
   simpa using h1
  rw[aJ,aD hjl] at hjc
  rw[<- eJ,hjc,hx]
  rw[hg1] at hR2 ⊢
  congr 2
  simp only[rP]
  omega
 have hhead:(loc nm2).head= .slice (some ⟨g,0,none⟩) (ofI bs).length (loc nm2).cap:=by simp[Core.head,e1,e2,hlen',hol]
 have hb3:w.heap[b]? =some (.cells #[u,.slice (some ⟨g,0,none⟩) (ofI bs).length (loc nm2).cap] 292 (0,0)):=by rw[<- hhead];exact g2
 refine (aRq RL.lS ex160 b g (loc nm2).cap u cur (ofI bs) w (by intro e;rw[e] at hol;simp at hol;omega) hb3 e3' (by omega) e5 (by simpa [Ty.size] using e6) hcell).mono ?_
 rintro e w' ⟨rfl,rfl⟩
 refine ⟨_,rfl,?_⟩
 have hfr:∀c,c≠g->(w.drew.freeze ⟨g,0,none⟩ (ofI bs).length).heap[c]? =w.heap[c]? :=by
  intro c hc
  unfold World.freeze
  split
  ·rfl
  show (w.heap.modify _ _)[c]? = _
  rw[lE,aC (fun e=>hc e.symm)]
 have hsz:(w.drew.freeze ⟨g,0,none⟩ (ofI bs).length).heap.size=w.heap.size:=by
  unfold World.freeze
  split
  ·rfl
  simp
 have hin:=hI.inPlace (w':=w.drew.freeze ⟨g,0,none⟩ (ofI bs).length) (o':=.dead) hn2 (b:=g) (by simp[Owns,e1]) (fun _ h=>h.elim) hsz (by unfold World.freeze;split<;>rfl) (by unfold World.freeze;split<;>rfl) (by unfold World.freeze;split<;>rfl) hfr (fun _=>trivial)
 exact ⟨_,_,_,_,⟨rfl,rfl⟩,hin.1,.str _ (by show (ofI bs).length<=140737488355328;omega),hin.2⟩
theorem sK (a b:Bx):eG (a++b)=List.append (α:=Int) (eG a) (eG b):=by simp[eG]
theorem aCj (p w r t:Bx):List.append (α:=Int) (List.append (α:=Int) (eG (p++w)) (eG r)) (eG t)=eG (p++(w++(r++t))):=by
 rw[<- sK,<- sK]
 simp only[bZ]
theorem aL9 (p w t:Bx):List.append (α:=Int) (eG (p++w)) (eG t)=eG (p++(w++([]++t))):=by
 rw[<- sK,bZ,iE]
def wrA:Nat->SV
 | 0=>.val (.pointer none)
 | _+1=>.ptr 1 0
theorem aQa {x:Int} (h:0<=x/\x<1000000000):(itoa x).length<=9:=by
 unfold itoa
 rw[aC (by omega)]
 exact nO 8 _ (by omega)
theorem aVm {x:Int}:0<(itoa x).length:=by
 cases h:itoa x with
 | nil=>exact absurd h (by unfold itoa;split<;>simp[aJg])
 | cons=>simp
theorem aQb (a:List Int) (m:Nat):0<(wrK a (m+1)).length:=by
 have:=aVm (x:=a.getD (a.length-1-m) 0)
 show 0<(wrK a m++((if 0<m then List.replicate (9-(itoa (a.getD (a.length-1-m) 0)).length) 48 else [])++itoa (a.getD (a.length-1-m) 0))).length
 simp only[aQ];omega
theorem aCz {a:List Int} (h:InB B9 a):∀i,(wrK a i).length<=9*i
 | 0=>aM _
 | i+1=>by
  have h1:=aCz h i
  have h2:=aQa (get9 h (a.length-1-i))
  show (wrK a i++((if 0<i then List.replicate (9-(itoa (a.getD (a.length-1-i) 0)).length) 48 else [])++itoa (a.getD (a.length-1-i) 0))).length<=9*(i+1)
  by_cases h0:0<i
  ·rw[aD h0];simp only[aQ,cC];omega
  rw[aC h0];simp only[aQ,mU];omega
theorem b128 (p:Prop) (hp:Decidable p) (a:List Int) (h:InB B9 a/\a.length<=200):body Tryz.prog [c157,c158,c160,c61,c159,c135,c166] { asks:=[(0,[2])] } true Tryz.f241 [.agg [.bl p hp,Ls a]] (S (if a= [] then [48] else (if p then [45] else [])++wrK a a.length)):=by
 (repeat'((conv=>whnf);first|refine Zg fun _=>?_|fail))
 (apply Br.mk<;>intro)
 ·rename_i hz
  have e:a= []:=bW (by omega)
  (conv=>whnf)
  rw[aD e]
 rename_i hz
 refine Own.r ?_
 (conv=>whnf)
 refine ⟨1,.int .u8,5,?_⟩
 (apply Br.mk<;>intro)
 ·rename_i hp'
  (conv=>whnf)
  refine Need.mk ⟨.inl rfl,rfl,rfl,rfl,aI _⟩ ?_
  (conv=>whnf)
  refine Ask.mk ⟨{ X:=Nat,pre:=fun i=>i<=a.length,mod:=fun i _=>[],heap:=fun i H=>[hget H 0,.cells [.ptr 1 0,.ref 2 1] 292,.vec 1 (.int .u8) (eG ([45]++wrK a i)) 5],mu:=fun i=>i,objs:=[2] },rfl,?_⟩
  (repeat refine ZN ?_)
  refine ⟨⟨(0:Nat),rfl,aI _,?_⟩,fun (i:Nat) hi (hlt:i<a.length)=>?_,fun (i:Nat) hi (he:i=a.length)=>?_⟩
  ·exact ZE
  ·have hx:=aQa (get9 h.1 (a.length-1-i))
   have hb:([45]++wrK a i).length<=1+9*i:=by have:=aCz h.1 i;simp only[aQ,cW,mU];omega
   rw[<- fH] at hb
   have h2:=h.2
   have hst:wrK a (i+1)=wrK a i++((if 0<i then List.replicate (9-(itoa (a.getD (a.length-1-i) 0)).length) 48 else [])++itoa (a.getD (a.length-1-i) 0)):=rfl
   show hnfL (itB a i) _
   (repeat' first|refine ZG ?_|refine Zg fun _=>?_)
   (apply Br.mk<;>intro)
   ·rw[aD (by omega)] at hst
    (repeat'((conv=>whnf);first|refine Zg fun _=>?_|refine Zn ?_|fail))
    refine Need.mk ⟨.inr rfl,rfl,.inl rfl,rfl,rfl,rfl,?_⟩ ?_
    ·show _+(List.replicate (9-((itoa (a.getD (a.length-1-i) 0)).length:Int)).toNat 48).length<=1000000
     rw[cC];omega
    refine Need.mk ⟨.inr rfl,rfl,.inr rfl,rfl,rfl,rfl,?_⟩ ?_
    ·show (List.append (α:=Int) _ (eG (List.replicate (9-((itoa (a.getD (a.length-1-i) 0)).length:Int)).toNat 48))).length+ _<=1000000
     show (_++ _:List Int).length+ _<= _
     rw[aQ,fH (List.replicate _ _),cC];omega
    refine ⟨(i+1:Nat),rfl,hlt,?_⟩
    (repeat' first|exact trivial|rfl|exact Nat.one_pos|apply aA)
    rw[hst,show (9-((itoa (a.getD (a.length-1-i) 0)).length:Int)).toNat=9-(itoa (a.getD (a.length-1-i) 0)).length by omega]
    exact aCj [45] _ _ _
   rw[aC (by omega)] at hst
   refine Need.mk ⟨.inr rfl,rfl,.inl rfl,rfl,rfl,rfl,by omega⟩ ?_
   refine ⟨(i+1:Nat),rfl,hlt,?_⟩
   (repeat' first|exact trivial|rfl|exact Nat.one_pos|apply aA)
   rw[hst]
   exact aL9 [45] _ _
  subst he
  have hpos:0<(eG ([45]++wrK a a.length)).length:=by
   rw[fH]
   obtain ⟨m,hm⟩:∃m,a.length=m+1:=⟨a.length-1,by omega⟩
   have:=aQb a m
   rw[hm,aQ];omega
  refine Need.mk ⟨.inr rfl,rfl,rfl,rfl,hpos,by show (1:Nat)≠2;decide⟩ ?_
  (conv=>whnf)
  rw[aC (by intro e;rw[e] at hz;exact hz rfl),aD hp',aFr]
 rename_i hp'
 refine Ask.mk ⟨{ X:=Nat,pre:=fun i=>i<=a.length,mod:=fun i _=>[],heap:=fun i H=>[hget H 0,.cells [wrA i,.ref 2 1] 292,.vec 1 (.int .u8) (eG ([]++wrK a i)) 5],mu:=fun i=>i,objs:=[2] },rfl,?_⟩
 (repeat refine ZN ?_)
 refine ⟨⟨(0:Nat),rfl,aI _,?_⟩,fun (i:Nat) hi (hlt:i<a.length)=>?_,fun (i:Nat) hi (he:i=a.length)=>?_⟩
 ·exact ZE
 ·have h2:=h.2
  rcases i with _ | k
  ·have hx:=aQa (get9 h.1 (a.length-1-(0)))
   have hb:([]++wrK a (0)).length<=1+9*(0):=by have:=aCz h.1 (0);simp only[aQ,mU];omega
   rw[<- fH] at hb
   have hst:wrK a (0+1)=wrK a (0)++((if 0<(0) then List.replicate (9-(itoa (a.getD (a.length-1-(0)) 0)).length) 48 else [])++itoa (a.getD (a.length-1-(0)) 0)):=rfl
   show hnfL (itB a (0)) _
   (repeat' first|refine ZG ?_|refine Zg fun _=>?_)
   (apply Br.mk<;>intro)
   ·exfalso;omega
   rw[aC (by omega)] at hst
   refine Need.mk ⟨.inl rfl,rfl,.inl rfl,rfl,rfl,rfl,by omega⟩ ?_
   refine ⟨(0+1:Nat),rfl,hlt,?_⟩
   exact ZE
  have hx:=aQa (get9 h.1 (a.length-1-(k+1)))
  have hb:([]++wrK a (k+1)).length<=1+9*(k+1):=by have:=aCz h.1 (k+1);simp only[aQ,mU];omega
  rw[<- fH] at hb
  have hst:wrK a (k+1+1)=wrK a (k+1)++((if 0<(k+1) then List.replicate (9-(itoa (a.getD (a.length-1-(k+1)) 0)).length) 48 else [])++itoa (a.getD (a.length-1-(k+1)) 0)):=rfl
  show hnfL (itB a (k+1)) _
  (repeat' first|refine ZG ?_|refine Zg fun _=>?_)
  (apply Br.mk<;>intro)
  ·rw[aD (by omega)] at hst
   (repeat'((conv=>whnf);first|refine Zg fun _=>?_|refine Zn ?_|fail))
   refine Need.mk ⟨.inr rfl,rfl,.inl rfl,rfl,rfl,rfl,?_⟩ ?_
   ·show _+(List.replicate (9-((itoa (a.getD (a.length-1-(k+1)) 0)).length:Int)).toNat 48).length<=1000000
    rw[cC];omega
   refine Need.mk ⟨.inr rfl,rfl,.inr rfl,rfl,rfl,rfl,?_⟩ ?_
   ·show (List.append (α:=Int) _ (eG (List.replicate (9-((itoa (a.getD (a.length-1-(k+1)) 0)).length:Int)).toNat 48))).length+ _<=1000000
    show (_++ _:List Int).length+ _<= _
    rw[aQ,fH (List.replicate _ _),cC];omega
   refine ⟨(k+1+1:Nat),rfl,hlt,?_⟩
   (repeat' first|exact trivial|rfl|exact Nat.one_pos|apply aA)
   rw[hst,show (9-((itoa (a.getD (a.length-1-(k+1)) 0)).length:Int)).toNat=9-(itoa (a.getD (a.length-1-(k+1)) 0)).length by omega]
   exact aCj [] _ _ _
  exfalso;omega
 obtain ⟨m,rfl⟩:∃m,i=m+1:=⟨i-1,by omega⟩
 have hpos:0<(eG ([]++wrK a (m+1))).length:=by
  rw[fH]
  exact aQb a m
 refine Need.mk ⟨.inr rfl,rfl,rfl,rfl,hpos,by show (1:Nat)≠2;decide⟩ ?_
 (conv=>whnf)
 rw[aC (by intro e;rw[e] at hz;exact hz rfl),aC hp',aFr,he]
def aCk (a:List Int):Prop:=a=aZ B9 (valB B9 a).toNat/\a.length<=200
theorem iR {m:Nat} (h:m<B9^200):aCk (aZ B9 m):=by
 refine ⟨by rw[kY (by decide),aP],?_⟩
 rcases dN m with rfl | hm
 ·rw[fY];exact aI _
 obtain ⟨h1,_,h3⟩:=mJ (B:=B9) (by decide) hm
 have h1:B9^ ((aZ B9 m).length-1)<=m:=by exact_mod_cast h1
 have:=(gQ (show 1<B9 by decide)).1 (cP h1 h)
 omega
theorem aMa {a:List Int} (h:aCk a):InB B9 a:=by rw[h.1];exact fI (by decide) _
def sgP (p:Prop) [Decidable p] (n:Int):Int:=if p then -n else n
theorem aVn (p:Prop) [hp:Decidable p] {a:List Int} (h:aCk a):(if a= [] then [48] else (if p then [45] else [])++wrK a a.length)=itoa (sgP p (valB B9 a)):=by
 have hz:=kY (B:=B9) (by decide) (valB B9 a).toNat
 rw[<- h.1] at hz
 by_cases e:a= []
 ·rw[aD e]
  subst e
  have:sgP p (valB B9 [])=0:=by unfold sgP;split<;>rfl
  rw[this]
  unfold itoa
  rw[aC (by omega)]
  exact (iL (show 0<10 by omega)).symm
 rw[aC e]
 have hl:a.getLast e≠0:=by
  have:=yT (B:=B9) (by decide) (valB B9 a).toNat
  rw[<- h.1] at this
  exact this e
 obtain ⟨m,hm⟩:∃m,a.length=m+1:=⟨a.length-1,by have:=cQ.2 e;omega⟩
 obtain ⟨h1,h2⟩:=aLp (show InB (10^9) a from aMa h) e hl m (by omega)
 have e9:(10:Nat)^9=B9:=by decide
 rw[show a.length-1-m=0 by omega,iZ,e9] at h1 h2
 rw[hm,h2]
 have h3:=aZe (decide p) (valB B9 a).toNat
 unfold wrM at h3
 rw[aC (by omega)] at h3
 have h4:sgn (decide p) (valB B9 a).toNat=sgP p (valB B9 a):=by
  unfold sgn sgP
  by_cases hq:p
  ·rw[aD (by simp[hq]),aD hq];omega
  rw[aC (by simp[hq]),aC hq];omega
 rw[<- h4,<- h3]
 by_cases hq:p
 ·rw[aD hq,aD (by simp[hq])];rfl
 rw[aC hq,aC (by simp[hq])];rfl
def c128:Con:=bB 241 true fun args K=>match args with
 | [.agg [.bl p hp,.seq (.int .i64) a]]=>Need (aCk a) (K (S (itoa (@sgP p hp (valB B9 a)))))
 | _=>False
theorem k128:aS Tryz.prog c128:=by
 refine kO Tryz.func241 fun args K h=>?_
 simp only[c128] at h;split at h
 ·rename_i p hp a
  refine ⟨_,h.go,?_⟩
  rw[<- aVn p h.ok]
  exact triB Tryz.func241 Tryz.ntmps241 (by simp[k157,k158,k160,k61,k159,k135,k166]) (b128 p hp a ⟨aMa h.ok,h.ok.2⟩)
 exact h.elim
def resI (n:Int):Bx × Int:=if lim n then ([],4) else (itoa n,0)
theorem b96 (p:Prop) (hp:Decidable p) (a:List Int) (h:aCk a):body Tryz.prog [c128,c88] {} true Tryz.f191 [.agg [.bl p hp,Ls a]] (.tup [S (resI (sgP p (valB B9 a))).1,I (resI (sgP p (valB B9 a))).2]):=by
 have ht:=aO List.length (gM (sgP p (valB B9 a)))
 unfold resI lim
 (repeat' first|refine ZG ?_|refine Zg fun _=>?_)
 (apply Br.mk<;>intro)
 ·rename_i hg
  rw[aD (by simp;omega)]
  exact ZF
 rename_i hg
 rw[aC (by simp;omega)]
 exact ZF
def c96:Con:=bB 191 true fun args K=>match args with
 | [.agg [.bl p hp,.seq (.int .i64) a]]=>Need (aCk a) (K (.tup [S (resI (@sgP p hp (valB B9 a))).1,I (resI (@sgP p hp (valB B9 a))).2]))
 | _=>False
theorem k96:aS Tryz.prog c96:=by
 refine kO Tryz.func191 fun args K h=>?_
 simp only[c96] at h;split at h
 ·rename_i p hp a
  exact ⟨_,h.go,triB Tryz.func191 Tryz.ntmps191 (by simp[k128,k88]) (b96 p hp a h.ok)⟩
 exact h.elim
def addP (p:Prop) (m:Nat) (q:Prop) (n:Nat):Prop:=(((p↔q)\/n<=m)/\p)\/(¬((p↔q)\/n<=m)/\q)
instance (p:Prop) [Decidable p] (m:Nat) (q:Prop) [Decidable q] (n:Nat):Decidable (addP p m q n):=by unfold addP;infer_instance
def addN (p:Prop) [Decidable p] (m:Nat) (q:Prop) [Decidable q] (n:Nat):Nat:=if p↔q then m+n else if n<=m then m-n else n-m
theorem aQc (p:Prop) [Decidable p] (m:Nat) (q:Prop) [Decidable q] (n:Nat):sgP (addP p m q n) (addN p m q n)=sgP p m+sgP q n:=by
 unfold sgP addP addN
 by_cases hp:p<;>by_cases hq:q<;>by_cases h:n<=m<;>simp[hp,hq,h]<;>omega
theorem aVo {p:Prop} [Decidable p] {m:Nat} {q:Prop} [Decidable q] {n:Nat} (hm:m<B9^100) (hn:n<B9^100):addN p m q n<B9^200:=by
 have h:B9^100+B9^100<=B9^200:=by
  rw[<- Nat.two_mul]
  exact bI (aU _ (show 2<=B9 by decide)) (by rw[<- Nat.pow_succ'];exact cL (by decide) (by omega))
 unfold addN
 split
 ·omega
 split<;>omega
theorem mR {m k:Nat} (h:m<B9^k):(aZ B9 m).length<=k:=by
 rcases dN m with rfl | hm
 ·rw[fY];exact aI _
 obtain ⟨h1,_,h3⟩:=mJ (B:=B9) (by decide) hm
 have h1:B9^ ((aZ B9 m).length-1)<=m:=by exact_mod_cast h1
 have:=(gQ (show 1<B9 by decide)).1 (cP h1 h)
 omega
theorem v9 (m:Nat):valB B9 (aZ B9 m)=m:=kY (by decide) m
theorem b97 (p:Prop) (hp:Decidable p) (m:Nat) (q:Prop) (hq:Decidable q) (n:Nat) (hm:m<B9^100) (hn:n<B9^100):
  body Tryz.prog [c107,c129] {} false Tryz.f290 [.agg [.bl p hp,Ls (aZ B9 m)],.agg [.bl q hq,Ls (aZ B9 n)]] (.agg [.bl (addP p m q n) inferInstance,Ls (aZ B9 (addN p m q n))]):=by
 have im:InB B9 (aZ B9 m):=fI (by decide) m
 have jn:InB B9 (aZ B9 n):=fI (by decide) n
 have lm:=mR hm
 have ln:=mR hn
 have hc:=aFn m n
 have vm:=v9 m
 have vn:=v9 n
 (repeat refine ZG ?_)
 (apply Br.mk<;>intro)
 ·rename_i h
  have e1:p↔addP p m q n:=by unfold addP;simp[h]
  have e2:(valB B9 (aZ B9 m)+valB B9 (aZ B9 n)).toNat=addN p m q n:=by unfold addN;rw[aD h];omega
  (repeat'((conv=>whnf);first|apply pI|apply pJ|fail))
  refine Need.mk ⟨im,jn,by omega,by omega⟩ ?_
  (repeat'((conv=>whnf);first|apply pJ|fail))
  (conv=>whnf)
  (repeat' first|exact trivial|apply aA)
  ·exact e1
  skip
  exact aO (aZ B9) e2
 rename_i h
 (conv=>whnf)
 refine Need.mk ⟨im,jn⟩ ?_
 (apply Br.mk<;>intro)
 ·rename_i hg
  have hle:n<=m:=by omega
  have e1:p↔addP p m q n:=by unfold addP;simp[hle]
  have e2:(valB B9 (aZ B9 m)-valB B9 (aZ B9 n)).toNat=addN p m q n:=by unfold addN;rw[aC h,aD hle];omega
  (repeat'((conv=>whnf);first|apply pI|apply pJ|fail))
  refine Need.mk ⟨im,jn,by omega,by omega,by omega⟩ ?_
  (repeat'((conv=>whnf);first|apply pJ|fail))
  (conv=>whnf)
  (repeat' first|exact trivial|apply aA)
  ·exact e1
  (conv=>whnf)
  exact aO (aZ B9) e2
 rename_i hg
 have hle:¬n<=m:=by omega
 have e1:q↔addP p m q n:=by unfold addP;simp[hle,h]
 have e2:(valB B9 (aZ B9 n)-valB B9 (aZ B9 m)).toNat=addN p m q n:=by unfold addN;rw[aC h,aC hle];omega
 (repeat'((conv=>whnf);first|apply pI|apply pJ|fail))
 refine Need.mk ⟨jn,im,by omega,by omega,by omega⟩ ?_
 (repeat'((conv=>whnf);first|apply pJ|fail))
 (conv=>whnf)
 (repeat' first|exact trivial|apply aA)
 ·exact e1
 (conv=>whnf)
 exact aO (aZ B9) e2
def yY (a:List Int):Prop:=a=aZ B9 (valB B9 a).toNat/\(valB B9 a).toNat<B9^100
def c97:Con:=bB 290 false fun args K=>match args with
 | [.agg [.bl p hp,.seq (.int .i64) a],.agg [.bl q hq,.seq (.int .i64) b]]=>Need (yY a/\yY b) (K (.agg [.bl (addP p (valB B9 a).toNat q (valB B9 b).toNat) inferInstance,Ls (aZ B9 (@addN p hp (valB B9 a).toNat q hq (valB B9 b).toNat))]))
 | _=>False
theorem k97:aS Tryz.prog c97:=by
 refine kO Tryz.func290 fun args K h=>?_
 simp only[c97] at h;split at h
 ·rename_i p hp a q hq b
  refine ⟨_,h.go,?_⟩
  obtain ⟨⟨ha,hm⟩,hb,hn⟩:=h.ok
  have ht:=triB Tryz.func290 Tryz.ntmps290 (by simp[k107,k129]) (b97 p hp (valB B9 a).toNat q hq (valB B9 b).toNat hm hn)
  rw[<- ha,<- hb] at ht
  exact ht
 exact h.elim
theorem aXg {l k:Nat} (h:l<=9*k):(10:Nat)^l<=B9^k:=by
 have e9:(10:Nat)^9=B9:=by decide
 rw[<- e9,<- Nat.pow_mul]
 exact cL (by omega) h
theorem oQ {s:Bx} (h:form s) (hl:(digs s).length<=300):cD (digs s)<B9^34:=
 bJ (rH (digs s) h.2.2) (aXg (by omega))
theorem qF {s:Bx}:valI s=sgP (s.headD 0=45) (cD (digs s):Nat):=by
 unfold valI sgP digs
 split
 ·rfl
 rfl
theorem fC {s:Bx} (h:form s) (hl:(digs s).length<=300):yY (aZ B9 (cD (digs s))):=by
 refine ⟨by rw[v9,aP],?_⟩
 rw[v9,aP]
 exact bJ (oQ h hl) (cL (by decide) (by omega))
noncomputable def mB (a b:Bx) (r:Bx × Int):Bx × Int:=if chk2 a b≠0 then ([],chk2 a b) else r
theorem qS {a b:Bx} (h:¬chk2 a b≠0):chkI a=0/\chkI b=0:=by
 unfold chk2 at h
 split at h
 ·rename_i h1;exact absurd h1 h
 rename_i h1;exact ⟨bD.1 h1,bD.1 h⟩
theorem oR {n:Int} (h:n.natAbs<10^40):resI n=(itoa n,0):=by
 unfold resI lim
 rw[aC]
 have:=nO 39 n.natAbs h
 simp;omega
theorem aZ3 (a b:Bx):sgP (addP (a.headD 0=45) (valB B9 (aZ B9 (cD (digs a)))).toNat (b.headD 0=45) (valB B9 (aZ B9 (cD (digs b)))).toNat) (valB B9 (aZ B9 (addN (a.headD 0=45) (valB B9 (aZ B9 (cD (digs a)))).toNat (b.headD 0=45) (valB B9 (aZ B9 (cD (digs b)))).toNat)))=valI a+valI b:=by
 simp only[v9,aP,aQc,qF]
theorem b55 (a b:Bx):body Tryz.prog [c94,c95,c61,c98,c97,c96] {} true Tryz.f253 [S a,S b] (.tup [S (mB a b (resI (valI a+valI b))).1,I (mB a b (resI (valI a+valI b))).2]):=by
 unfold mB
 (apply Br.mk<;>intro)
 ·rename_i h
  rw[aD h]
  exact ZF
 rename_i h
 rw[aC h]
 obtain ⟨ha,hb⟩:=qS h
 obtain ⟨fa,la⟩:=iY ha
 obtain ⟨fb,lb⟩:=iY hb
 refine Need.mk ⟨rfl,fa,fb⟩ ?_
 (apply Br.mk<;>intro)
 ·rename_i hs
  have h1:=lB fa hs.1
  have h2:=lB fb hs.2
  rw[oR (by omega)]
  exact ZGF
 rename_i hs
 have hv:=aZ3 a b
 refine Need.mk ⟨fa,by omega⟩ ?_
 refine Need.mk ⟨fb,by omega⟩ ?_
 refine Need.mk ⟨fC fa la,fC fb lb⟩ ?_
 refine Need.mk (iR (aVo (fC fa la).2 (fC fb lb).2)) ?_
 (conv=>whnf)
 (repeat' first|exact trivial|rfl|apply aA)
 ·exact aO (fun z=>(resI z).1) hv
 exact aO (fun z=>(resI z).2) hv
theorem aXh (p:Prop) [Decidable p] (n:Int):sgP (¬p) n= -sgP p n:=by unfold sgP;by_cases h:p<;>simp[h]
theorem aVp (a b:Bx):sgP (addP (a.headD 0=45) (valB B9 (aZ B9 (cD (digs a)))).toNat (¬b.headD 0=45) (valB B9 (aZ B9 (cD (digs b)))).toNat) (valB B9 (aZ B9 (addN (a.headD 0=45) (valB B9 (aZ B9 (cD (digs a)))).toNat (¬b.headD 0=45) (valB B9 (aZ B9 (cD (digs b)))).toNat)))=valI a-valI b:=by
 simp only[v9,aP,aQc,qF,aXh]
 omega
theorem b60 (a b:Bx):body Tryz.prog [c94,c95,c61,c98,c97,c96] {} true Tryz.f244 [S a,S b] (.tup [S (mB a b (resI (valI a-valI b))).1,I (mB a b (resI (valI a-valI b))).2]):=by
 unfold mB
 (apply Br.mk<;>intro)
 ·rename_i h
  rw[aD h]
  exact ZF
 rename_i h
 rw[aC h]
 obtain ⟨ha,hb⟩:=qS h
 obtain ⟨fa,la⟩:=iY ha
 obtain ⟨fb,lb⟩:=iY hb
 refine Need.mk ⟨rfl,fa,fb⟩ ?_
 (apply Br.mk<;>intro)
 ·rename_i hs
  have h1:=lB fa hs.1
  have h2:=lB fb hs.2
  rw[oR (by omega)]
  exact ZGF
 rename_i hs
 have hv:=aVp a b
 refine Need.mk ⟨fb,by omega⟩ ?_
 (repeat'((conv=>whnf);first|apply pI|apply pJ|refine Zl ?_|fail))
 refine Need.mk ⟨fa,by omega⟩ ?_
 (repeat'((conv=>whnf);first|apply pI|apply pJ|fail))
 refine Need.mk ⟨fC fa la,fC fb lb⟩ ?_
 (repeat'((conv=>whnf);first|apply pI|apply pJ|fail))
 refine Need.mk (iR (aVo (fC fa la).2 (fC fb lb).2)) ?_
 (repeat'((conv=>whnf);first|apply pI|apply pJ|fail))
 (conv=>whnf)
 (repeat' first|exact trivial|rfl|apply aA)
 ·exact aO (fun z=>(resI z).1) hv
 exact aO (fun z=>(resI z).2) hv
theorem aL3 {P:Program} {f:FuncId} {args:List SV} {t:Ty} {ys:List t.T} {e:TypeId} (h2:t.flat=true) (h:OTri P f args (.ref 0 1) t ys e):Tri P true f args (.seq t ys):=by
 intro ok w vs hg hok hr
 refine (h ok w vs hg hok hr).mono ?_
 rintro en w' ⟨v,L',rfl,hb,hL,⟨hlen,hmax,us,hown,hel⟩,hrel⟩
 refine ⟨v,rfl,hb,?_⟩
 cases hrel with
 | ref _ _ _ hn h0 hk hv=>
 have:=hv rfl
 subst this
 refine .seq t ys _ ?_
 rcases cE hown with ⟨e1,e2,e3,e4⟩ | ⟨g,cur,e1,e2,e3,e4,e5,e6,e7⟩
 ·exact ⟨none,0,0,by simp[Core.head,envO,e1,e2,e3],by omega,aM _,aI _,fun h=>absurd h (fJ _)⟩
 have hg1:w.heap.size<=g:=hL g (by simp[e1])
 have hg2:g<w'.heap.size:=(aG.1 e3).1
 refine ⟨some ⟨g,0,none⟩,L'.len,L'.cap,by simp[Core.head,envO,e1],hlen,e4,hmax,fun h0=>⟨g,0,rfl,.inr ⟨hg1,hg2⟩,fun i hi=>⟨_,(hel i hi).length,?_,(hel i hi).flat h2⟩⟩⟩
 intro j v hj
 rw[aJ] at hj
 split at hj
 ·rw[aT,<- e7,aJ] at hj
  split at hj
  ·simp only[env0,World.cell?,e3]
   simpa using hj
  cases hj
 cases hj
def c99f:Con:=bB 236 true fun args K=>match args with
 | [.seq (.int .i64) a,.seq (.int .i64) b]=>Need (InB B9 a/\InB B9 b/\a.length<=100000/\b.length<=100000) (K (Ls (aZ B9 (valB B9 a*valB B9 b).toNat)))
 | _=>False
theorem k99f:aS Tryz.prog c99f:=by
 refine kO Tryz.func236 fun args K h=>?_
 simp only[c99f] at h;split at h
 ·rename_i a b
  exact ⟨_,h.go,aL3 rfl (qB (by simp[k132,k131]) Tryz.func236 (by simp[Tryz.ntmps236]) rfl (b99 a b h.ok))⟩
 exact h.elim
theorem aW2 (p q:Prop) [Decidable p] [Decidable q] (m n:Int):sgP (¬(p↔q)) (m*n)=sgP p m*sgP q n:=by
 unfold sgP
 by_cases hp:p<;>by_cases hq:q<;>simp[hp,hq,Int.neg_mul,wH]
theorem aP4 {s:Bx} (h:form s):(valI s).natAbs<10^s.length:=by
 obtain ⟨h1,h2,h3⟩:=h
 have hb:=rH (digs s) h3
 have hp:(10:Nat)^ (digs s).length<=10^s.length:=cL (by omega) (aFp s).1
 have hv:valI s=cD (digs s)\/valI s= -(cD (digs s):Int):=by
  unfold valI digs
  split
  ·exact .inr rfl
  exact .inl rfl
 omega
theorem aRl {a b:Bx} (ha:form a) (hb:form b) (h:a.length+b.length<=18):(valI a*valI b).natAbs<1000000000000000000:=by
 have h1:=aP4 ha
 have h2:=aP4 hb
 rw[dH]
 have h3:(valI a).natAbs*(valI b).natAbs<10^a.length*10^b.length:=eW h1 h2
 rw[<- sA] at h3
 exact bJ h3 (bI (cL (by omega) h) (by decide))
theorem aZo (a b:Bx) (m:Nat) (hd:Decidable (¬(a.headD 0=45↔b.headD 0=45))) (hm:m=(valB B9 (aZ B9 (cD (digs a)))*valB B9 (aZ B9 (cD (digs b)))).toNat):sgP (¬(a.headD 0=45↔b.headD 0=45)) (valB B9 (aZ B9 m))=valI a*valI b:=by
 subst hm
 have:hd=instDecidableNot:=Subsingleton.elim _ _
 subst this
 rw[v9,v9,v9,<- gG,aP,gG,aW2,qF,qF]
theorem aRm {a b:Bx} (fa:form a) (la:(digs a).length<=300) (fb:form b) (lb:(digs b).length<=300):aCk (aZ B9 (valB B9 (aZ B9 (cD (digs a)))*valB B9 (aZ B9 (cD (digs b)))).toNat):=by
 refine iR ?_
 rw[v9,v9,<- gG,aP]
 have h3:=eW (oQ fa la) (oQ fb lb)
 rw[<- sA] at h3
 exact bJ h3 (cL (by decide) (by omega))
theorem b58 (a b:Bx):body Tryz.prog [c94,c95,c61,c98,c99f,c96] {} true Tryz.f247 [S a,S b] (.tup [S (mB a b (resI (valI a*valI b))).1,I (mB a b (resI (valI a*valI b))).2]):=by
 unfold mB
 (apply Br.mk<;>intro)
 ·rename_i h
  rw[aD h]
  exact ZF
 rename_i h
 rw[aC h]
 obtain ⟨ha,hb⟩:=qS h
 obtain ⟨fa,la⟩:=iY ha
 obtain ⟨fb,lb⟩:=iY hb
 (repeat' first|refine ZG ?_|refine Zg fun _=>?_)
 (apply Br.mk<;>intro)
 ·rename_i hs
  have hm:=aRl fa fb (by omega)
  refine Need.mk ⟨rfl,fa,fb⟩ ?_
  refine Br.mk (fun _=>?_) (fun hn=>absurd (show a.length<=18/\b.length<=18 by omega) hn)
  rw[oR (by omega)]
  exact ZGF
 rename_i hs
 have hv:=fun hd=>aZo a b _ hd rfl
 refine Need.mk ⟨fa,by omega⟩ ?_
 refine Need.mk ⟨fb,by omega⟩ ?_
 have l1:=mR (oQ fa la)
 have l2:=mR (oQ fb lb)
 (repeat'((conv=>whnf);first|apply pI|apply pJ|refine Zl ?_|fail))
 refine Need.mk ⟨fI (by decide) _,fI (by decide) _,by omega,by omega⟩ ?_
 (repeat'((conv=>whnf);first|apply pI|apply pJ|fail))
 refine Need.mk (aRm fa la fb lb) ?_
 (repeat'((conv=>whnf);first|apply pI|apply pJ|fail))
 (conv=>whnf)
 (repeat' first|exact trivial|rfl|apply aA)
 ·exact aO (fun z=>(resI z).1) (hv _)
 exact aO (fun z=>(resI z).2) (hv _)
def cmpI (x y:Int):Int:=if x<y then -1 else if x=y then 0 else 1
def c119:Con:=bB 99 true fun args K=>match args with | [.val (.int .i64 x)]=>K (.val (.bool false)) | _=>False
theorem k119:aS Tryz.prog c119:=by
 refine kQ {} Tryz.func99 Tryz.ntmps99 kn fun _ _ h=>?_
 split at h
 case h_2=>exact h.elim
 refine kb h ?_
 (conv=>whnf)
 exact ⟨fun h=>absurd rfl h,fun h=>by cases h⟩
def c76:Con:=bB 64 true fun args K=>match args with | [.val (.int .i64 x),.val (.int .i64 y)]=>K (I (cmpI x y)) | _=>False
theorem k76:aS Tryz.prog c76:=by
 refine kQ {} Tryz.func64 Tryz.ntmps64 (kc k119 kn) fun _ _ h=>?_
 split at h
 case h_2=>exact h.elim
 refine kb h ?_
 unfold cmpI
 (repeat'((conv=>whnf);first|refine Zr (fun _=>?_) fun _=>?_|fail))
 all_goals (skip;(conv=>whnf);(repeat' first|rfl|apply aA))
 all_goals (repeat' split)
 all_goals omega
noncomputable def aP5 (a b:Bx) (r:Int):Int × Int:=if chk2 a b≠0 then (0,chk2 a b) else (r,0)
theorem aZp (p:Prop) [Decidable p] (n:Nat) (x y:Int) (hv:sgP p (valB B9 (aZ B9 n))=x-y):cmpI x y=if ((aZ B9 n).length:Int)=0 then 0 else if p then -1 else 1:=by
 rw[v9] at hv
 have h0:((aZ B9 n).length:Int)=0↔n=0:=by
  rw[<- qN (B:=B9) (by decide),<- iC];omega
 unfold sgP at hv
 unfold cmpI
 by_cases hn:n=0
 ·rw[aD (h0.2 hn)]
  subst hn
  have:x-y=0:=by rw[<- hv];split<;>rfl
  rw[aC (by omega),aD (by omega)]
 rw[aC (fun h=>hn (h0.1 h))]
 by_cases hp:p
 ·rw[aD hp] at hv ⊢
  rw[aD (by omega)]
 rw[aC hp] at hv ⊢
 rw[aC (by omega),aC (by omega)]
theorem b77 (a b:Bx):body Tryz.prog [c94,c95,c98,c97,c76] {} true Tryz.f294 [S a,S b] (.tup [I (aP5 a b (cmpI (valI a) (valI b))).1,I (aP5 a b (cmpI (valI a) (valI b))).2]):=by
 unfold aP5
 (apply Br.mk<;>intro)
 ·rename_i h
  rw[aD h]
  exact ZF
 rename_i h
 rw[aC h]
 obtain ⟨ha,hb⟩:=qS h
 obtain ⟨fa,la⟩:=iY ha
 obtain ⟨fb,lb⟩:=iY hb
 refine Need.mk ⟨rfl,fa,fb⟩ ?_
 (apply Br.mk<;>intro)
 ·skip
  exact ZF
 have hv:=aVp a b
 refine Need.mk ⟨fa,by omega⟩ ?_
 refine Need.mk ⟨fb,by omega⟩ ?_
 (repeat'((conv=>whnf);first|refine Zl ?_|fail))
 refine Need.mk ⟨fC fa la,fC fb lb⟩ ?_
 have hc:=aZp _ _ _ _ hv
 (repeat' first|refine ZG ?_|refine Zg fun _=>?_)
 (apply Br.mk<;>intro)
 ·rename_i h0
  rw[aD h0] at hc
  (conv=>whnf)
  (repeat' first|exact trivial|rfl|apply aA)
  exact hc.symm
 rename_i h0
 rw[aC h0] at hc
 (apply Br.mk<;>intro)
 ·rename_i h1
  rw[aD h1] at hc
  (conv=>whnf)
  (repeat' first|exact trivial|rfl|apply aA)
  exact hc.symm
 rename_i h1
 rw[aC h1] at hc
 (conv=>whnf)
 (repeat' first|exact trivial|rfl|apply aA)
 exact hc.symm
theorem w135 (a:Option Addr) (n c:Nat) (w:World):Calls Tryz.prog 237 #[.slice a n c] w fun e w'=>e= .returned (.func (.func 284) #[] #[.pointer (some ⟨w.heap.size,0,none⟩)])/\w'=w.alloc (.cells #[.slice a n c] 41):=by
 go_enter Tryz.func237,Tryz.ntmps237
 go_wp2
 go_ret
 exact ⟨rfl,rfl⟩
def aYy:Con:=aDj 237 fun args H K=>match args with
 | [.ref nm k]=>(match hget H nm with
  | .vec j t xs e=>Need (j=k) <| K (.clo 284 [] [.lelem [.ref nm k] 0]) H
  | _=>False)
 | _=>False
theorem k135h:aS Tryz.prog aYy:=by
 refine wY (enters_of Tryz.func237 (by kernel_rfl) rfl) ?_
 intro args H K h
 split at h
 case h_2=>exact h.elim
 rename_i nm k
 split at h
 case h_2=>exact h.elim
 rename_i j t xs e ho
 obtain ⟨hjk,hK⟩:=h
 subst hjk
 refine ⟨fun s H'=>s= .clo 284 [] [.lelem [.ref nm j] 0]/\H'=H,fun s H' e=>by rw[e.1,e.2];exact hK,?_⟩
 intro G loc ver w vs hC hI hr
 cases hr with
 | cons _ v1 _ vs1 h1 hr=>
 cases hr
 obtain ⟨hv,_⟩:=pF hI h1 ho
 have hw:=w135 ((loc nm).blk.map fun p=>⟨p.1,p.2,none⟩) (loc nm).len (loc nm).cap w
 rw[show (Value.slice ((loc nm).blk.map fun p=>⟨p.1,p.2,none⟩) (loc nm).len (loc nm).cap)=v1 from hv.symm] at hw
 refine hw.mono ?_
 rintro en w' ⟨rfl,rfl⟩
 obtain ⟨hI',hx⟩:=hI.grow (w':=w.alloc (.cells #[v1] 41)) ((Below.refl _ _).alloc (aM _) _)
 refine ⟨_,rfl,_,_,_,_,⟨rfl,rfl⟩,hI',.clo _ _ _ _ _ .nil (.cons _ _ _ _ ?_ .nil),hx⟩
 refine .lelem _ 0 w.heap.size 0 [v1] (.cons _ _ _ _ (h1.ext hx) .nil) ?_ ?_
 ·refine ⟨.inr (.inr hI.size),by simp,?_⟩
  rintro ⟨k,o,hk,hb⟩
  have:=(hI.objs k _ hk).block (b:=w.heap.size) hb
  exact absurd this (by simp[envOf])
 intro i u hi
 cases i with
 | zero=>
  simp at hi;subst hi
  have:=jG w (.cells #[v1] 41)
  show (w.alloc (.cells #[v1] 41)).cell? ⟨w.heap.size,0+0,none⟩=some v1
  unfold World.cell?
  simp only[this]
  rfl
 | succ i=>simp at hi
abbrev itS (n k:Nat):List SV:=[I ((n-1-k:Nat)),.any]
theorem b166s (n:Nat):aD2 Tryz.prog [] { asks:=[(0,[])] } Tryz.f284 [.lelem [.sft none] 0] n (itS n):=by
 (repeat' first|refine ZG ?_|refine Zg fun _=>?_)
 refine Ask.mk ⟨{ X:=Nat,pre:=fun i=>i<=n,mod:=fun i _=>[(3,I ((n:Int)-1-i))],heap:=fun i _=>[.yst (some i) n (itS n)],mu:=fun i=>n-i },rfl,?_⟩
 (repeat refine ZG ?_)
 refine ⟨⟨(0:Nat),aI _,ZE⟩,fun (i:Nat) (hi:i<=n)=>?_⟩
 (apply Br.mk<;>intro)
 ·have hlt:i<n:=by omega
  have e:((n:Int)-1-i)=((n-1-i:Nat):Int):=by omega
  (repeat refine ZG ?_)
  refine cX (n-1-i) (by omega) ?_
  (repeat'((conv=>whnf);first|refine Zn ?_|fail))
  refine Need.mk (by (repeat' first|exact trivial|rfl|apply aA);exact e) ?_
  refine Two.mk ?_ ?_
  ·(repeat refine ZG ?_)
   refine ⟨(i+1:Nat),by show n-(i+1)<n-i;omega,hlt,?_⟩
   exact ZE
  (conv=>whnf)
  trivial
 (conv=>whnf)
 omega
def aU6:Con:=bB 284 false fun args K=>match args with | [.lelem [.sft none] 0]=>∃n,K (.itr n (itS n)) | _=>False
theorem k166s:aS Tryz.prog aU6:=by
 refine kO Tryz.func284 fun args K h=>?_
 simp only[aU6] at h;split at h
 ·obtain ⟨n,hK⟩:=h
  exact ⟨_,hK,qC (by simp) Tryz.func284 (by simp[Tryz.ntmps284]) (b166s n)⟩
 exact h.elim
end RB
end
section
namespace IB
theorem aRb {B:Nat} (hB:2<=B) {w:List Int} (h:InB B w) {j k:Nat} (hk:2<=k) (hl:j+k<w.length) (hz:∀i,j+(k+1)<=i->w.getD i 0=0):
  valB B (w.drop j)<((w.getD (j+k) 0*B+w.getD (j+k-1) 0)*B+w.getD (j+k-2) 0+1)*(B:Int)^ (k-2):=by
 have e0:=nI (B:=B) (w.drop j) (k-2) (by rw[dR];omega)
 rw[dJ,show j+(k-2)=j+k-2 by omega] at e0
 have b0:=rJ hB (uE (qD h j) (k-2)) (n:=k-2) (by rw[bA];omega)
 rw[fO w (j+k-2) (by omega),show j+k-2+1=j+k-1 by omega,fO w (j+k-1) (by omega),show j+k-1+1=j+k by omega,fO w (j+k) hl] at e0
 have ez:valB B (w.drop (j+k+1))=0:=by
  have:w.drop (j+k+1)=List.replicate (w.length-(j+k+1)) 0:=by
   refine tE (by simp) fun i hi=>?_
   have:=hz (j+k+1+i) (by omega)
   rw[dR] at hi
   have hi':j+k+1+i<w.length:=by omega
   simpa [aB,aT,bR,hi,hi'] using this
  rw[this,tB]
 simp only[valB,ez,eO,gO] at e0
 have hP:=mA hB (k-2)
 generalize (B:Int)^ (k-2)=P at*
 generalize w.getD (j+k) 0=x0 at*
 generalize w.getD (j+k-1) 0=x1 at*
 generalize w.getD (j+k-2) 0=x2 at*
 rw[e0,show ((x0*B+x1)*B+x2+1)*P=P*(x2+B*(x1+B*x0))+P by
  rw[jT _ 1,gF,cB _ P,nW _ x2,cB _ (B:Int),nW _ x1,cB x0]]
 omega
theorem aWp {B:Nat} (hB:2<=B) {v:List Int} (h:InB B v) (hk:2<=v.length):
  (v.getD (v.length-1) 0*B+v.getD (v.length-2) 0)*(B:Int)^ (v.length-2)<=valB B v:=by
 have e0:=nI (B:=B) v (v.length-2) (by omega)
 have b0:=eZ (uE h (v.length-2))
 rw[fO v (v.length-2) (by omega),show v.length-2+1=v.length-1 by omega,fO v (v.length-1) (by omega),eX (by omega)] at e0
 simp only[valB,eO,gO] at e0
 rw[cB,nW (v.getD (v.length-1) 0*(B:Int)),cB (v.getD (v.length-1) 0)]
 omega
theorem aNv {B:Nat} (hB:2<=B) {u v:List Int} (hu:InB B u) (hv:InB B v) (hV:0<valB B v) {m:Nat} (hm:m+v.length=u.length) (h0:valB B (u.drop m)<valB B v) (hk:2<=v.length) (hv1:0<v.getD (v.length-1) 0) (s:Nat) (hs:s<m) (f:Nat):
  (∀i,m-1-s+(v.length+1)<=i->(fZ B u v m s).1.getD i 0=0)/\
  0<=valB B ((fZ B u v m s).1.drop (m-1-s))/valB B v/\valB B ((fZ B u v m s).1.drop (m-1-s))/valB B v<B/\
  (∀top,top=(fZ B u v m s).1.getD (m-1-s+v.length) 0*B+(fZ B u v m s).1.getD (m-1-s+v.length-1) 0->
   valB B ((fZ B u v m s).1.drop (m-1-s))/valB B v<=estF B (v.getD (v.length-1) 0) (v.getD (v.length-2) 0) ((fZ B u v m s).1.getD (m-1-s+v.length-2) 0) f (top/v.getD (v.length-1) 0) (top%v.getD (v.length-1) 0)/\
   estF B (v.getD (v.length-1) 0) (v.getD (v.length-2) 0) ((fZ B u v m s).1.getD (m-1-s+v.length-2) 0) f (top/v.getD (v.length-1) 0) (top%v.getD (v.length-1) 0)<=top/v.getD (v.length-1) 0):=by
 obtain ⟨h1,h2,h3,h4,h5,h6⟩:=uF hB hu hv hV hm h0 s (by omega)
 obtain ⟨j,hj⟩:∃j,m-1-s=j:=⟨_,rfl⟩
 have e1:m-s=j+1:=by omega
 rw[hj]
 rw[e1] at h5
 generalize (fZ B u v m s).1=w at h1 h2 h5 ⊢
 have hw:valB B (w.drop j)=w.getD j 0+(B:Int)*valB B (w.drop (j+1)):=by rw[fO w j (by omega)];rfl
 have g1:=h2.get (show j<w.length by omega)
 have hVB:=sI hv
 have hz:∀i,j+(v.length+1)<=i->w.getD i 0=0:=fun i hi=>by
  have:=aHa hB (qD h2 (j+1)) (n:=v.length) (by omega) (i-(j+1)) (by omega)
  rw[aAh] at this
  rwa [show j+1+(i-(j+1))=i by omega] at this
 have hW0:=eZ (qD h2 j)
 have hWB:valB B (w.drop j)<(B:Int)*valB B v:=by
  have:(B:Int)*(valB B (w.drop (j+1))+1)<=B*valB B v:=aY (by omega) (by omega)
  rw[cH,eF] at this
  omega
 have t3:=aRb hB h2 hk (by omega) hz
 have t2:=aWp hB hv hk
 obtain ⟨W,hW⟩:∃W,valB B (w.drop j)=W:=⟨_,rfl⟩
 rw[hW] at hWB hW0 t3 ⊢
 have hQ0:0<=W/valB B v:=eA (by omega) (by omega)
 have hQV:W/valB B v*valB B v<=W:=vA _ (by omega)
 have hQB:W/valB B v<B:=fF hV hWB
 refine ⟨hz,hQ0,hQB,?_⟩
 rintro top rfl
 have hP:=mA hB (v.length-2)
 have x2:=h2.get (show j+v.length-2<w.length by omega)
 have hB':(0:Int)<B:=by omega
 have hPB:(0:Int)<B*(B:Int)^ (v.length-2):=mE hB' hP
 have w2:=hv.get (show v.length-2<v.length by omega)
 refine aPx hP (by omega) t2 (by omega) t3 hQB hQ0 hQV f _ _ ?_ ?_
 ·rw[cB (_/ _) _];exact (Int.mul_ediv_add_emod _ _).symm
 refine aQ9 (B:=(B:Int)) (P:=B*(B:Int)^ (v.length-2)) hPB hv1 ?_ ?_ hQ0 hQV
 ·refine gD ?_ t2
  rw[<- cO]
  exact bY (by omega) (dQ hP)
 refine Int.lt_of_lt_of_le t3 ?_
 rw[<- cO]
 refine bY ?_ (dQ hP)
 rw[jT _ 1,gF];omega
theorem aNw {B:Nat} (hB:2<=B) {u v:List Int} (hu:InB B u) (hv:InB B v) (hk:1<=v.length) (hv1:0<v.getD (v.length-1) 0) {m:Nat} (hm:m+v.length=u.length) (hz:u.getD (u.length-1) 0=0):valB B (u.drop m)<valB B v/\0<valB B v:=by
 have e0:=nI (B:=B) v (v.length-1) (by omega)
 have b0:=eZ (uE hv (v.length-1))
 rw[fO v (v.length-1) (by omega),eX (by omega)] at e0
 simp only[valB,eO,gO] at e0
 have hP:=mA hB (v.length-1)
 have h1:(B:Int)^ (v.length-1)*1<=(B:Int)^ (v.length-1)*v.getD (v.length-1) 0:=aY (by omega) (by omega)
 have h2:valB B (u.drop m)<(B:Int)^ (v.length-1):=aPw hB (qD hu m) fun i hi=>by
  rw[aAh]
  by_cases hi2:m+i<u.length
  ·rw[show m+i=u.length-1 by omega];exact hz
  exact aAg _ _ (by omega)
 omega
end IB
end
section
namespace IB
theorem aHb {B:Nat} (hB:2<=B) {n k:Nat} (hk:1<=k) (h1:B^ (k-1)<=n) (h2:n<B^k):
  (aZ B n).length=k/\(aZ B n).getD (k-1) 0*(B:Int)^ (k-1)<=n/\(n:Int)<((aZ B n).getD (k-1) 0+1)*(B:Int)^ (k-1):=by
 have hp:0<B^ (k-1):=Nat.pow_pos (by omega)
 obtain ⟨g1,g2,g3⟩:=mJ hB (n:=n) (by omega)
 have g1:B^ ((aZ B n).length-1)<=n:=by exact_mod_cast g1
 have g2:n<B^ (aZ B n).length:=by exact_mod_cast g2
 have a1:=(gQ (show 1<B by omega)).1 (cP g1 h2)
 have a2:=(gQ (show 1<B by omega)).1 (cP h1 g2)
 have hl:(aZ B n).length=k:=by omega
 have hi:=fI hB n
 have e0:=nI (B:=B) (aZ B n) (k-1) (by omega)
 have b0:=eZ (uE hi (k-1))
 have b1:=rJ hB (uE hi (k-1)) (n:=k-1) (by rw[bA];omega)
 rw[fO _ (k-1) (by omega),eX (by omega),kY hB] at e0
 simp only[valB,eO,gO] at e0
 refine ⟨hl,?_,?_⟩
 ·rw[cB];omega
 rw[jT,gF,cB];omega
theorem scale {B:Nat} (hB:2<=B) {n:Nat} (hn:0<n) {f:Nat} (hf:(f:Int)=(B:Int)/((aZ B n).getD ((aZ B n).length-1) 0+1)):
  0<f/\f<B/\(aZ B (n*f)).length=(aZ B n).length/\(B:Int)<=4*(aZ B (n*f)).getD ((aZ B (n*f)).length-1) 0:=by
 obtain ⟨g1,g2,g3⟩:=mJ hB hn
 have g1:B^ ((aZ B n).length-1)<=n:=by exact_mod_cast g1
 have g2:n<B^ (aZ B n).length:=by exact_mod_cast g2
 obtain ⟨k,hk⟩:∃k,(aZ B n).length=k:=⟨_,rfl⟩
 rw[hk] at g1 g2 g3 hf ⊢
 obtain ⟨_,t1,t2⟩:=aHb hB g3 g1 g2
 have ht:=(fI hB n).get (show k-1<(aZ B n).length by omega)
 have ht1:(aZ B n).getD (k-1) 0≠0:=by
  have hne:aZ B n≠ []:=by rw[<- cQ];omega
  have:=yT hB n hne
  rw[List.getLast_eq_getElem] at this
  rw[aB,aH (by omega),kC]
  simpa [hk] using this
 obtain ⟨t,ht'⟩:∃t:Nat,(aZ B n).getD (k-1) 0=t:=⟨_,(bM ht.1).choose_spec⟩
 rw[ht'] at hf t1 t2 ht ht1
 obtain ⟨f1,f2,f3⟩:=aNu (B:=(B:Int)) (t:=(t:Int)) (f:=(f:Int)) (by omega) ht.2 hf
 have f2:f*(t+1)<=B:=by exact_mod_cast f2
 have f3:B<=4*(f*t):=by exact_mod_cast f3
 have t1:t*B^ (k-1)<=n:=by exact_mod_cast t1
 have t2:n<(t+1)*B^ (k-1):=by exact_mod_cast t2
 have hf0:0<f:=by omega
 have u1:f*t*B^ (k-1)<=n*f:=by
  rw[pB,gB n f];exact pV f t1
 have u2:n*f<f*(t+1)*B^ (k-1):=by
  rw[pB,gB n f];exact Nat.mul_lt_mul_of_pos_left t2 hf0
 have u3:f*(t+1)*B^ (k-1)<=B^k:=by
  rw[show B^k=B*B^ (k-1) by rw[<- Nat.pow_succ'];congr 1;omega]
  exact aU _ f2
 have hft:1<=f*t:=rZ hf0 (by omega)
 have u4:B^ (k-1)<=n*f:=bI (by rw[<- dV (B^ (k-1)),<- pB,dU];exact aU _ hft) u1
 obtain ⟨v1,v2,v3⟩:=aHb hB g3 u4 (bJ u2 u3)
 have hfB:f<B:=by
  have:f*2<=f*(t+1):=pV f (by omega)
  omega
 refine ⟨hf0,hfB,v1,?_⟩
 rw[v1]
 have hp:(0:Int)<(B:Int)^ (k-1):=mA hB (k-1)
 have u1':(f:Int)*t*(B:Int)^ (k-1)<=((n*f:Nat):Int):=by exact_mod_cast u1
 have:(f:Int)*t<(aZ B (n*f)).getD (k-1) 0+1:=mD (Int.lt_of_le_of_lt u1' v3) (dQ hp)
 have f3':(B:Int)<=4*((f:Int)*t):=by exact_mod_cast f3
 omega
theorem aRc {B:Nat} (hB:2<=B) (n k:Nat):InB B (aZ B n++List.replicate k 0)/\valB B (aZ B n++List.replicate k 0)=n/\(0<k->(aZ B n++List.replicate k 0).getD ((aZ B n++List.replicate k 0).length-1) 0=0):=by
 refine ⟨InB.append.2 ⟨fI hB n,fun x hx=>?_⟩,?_,fun hk=>?_⟩
 ·rw[(kT.1 hx).2];omega
 ·rw[mZ,tB,eO,gO,kY hB]
 rw[aB,bX (by simp;omega)]
 simp[bR]
 split<;>rfl
theorem aRd {B:Nat} (hB:2<=B) {m f:Nat} (hf:f<B):(aZ B (m*f)).length<=(aZ B m).length+1:=by
 rcases dN m with rfl | hm
 ·rw[uO,fY];exact aI _
 rcases dN f with rfl | hf0
 ·rw[Nat.mul_zero,fY];exact aI _
 obtain ⟨g1,g2,g3⟩:=mJ hB hm
 have g2:m<B^ (aZ B m).length:=by exact_mod_cast g2
 obtain ⟨q1,_,_⟩:=mJ hB (n:=m*f) (rZ hm hf0)
 have q1:B^ ((aZ B (m*f)).length-1)<=m*f:=by exact_mod_cast q1
 have:m*f<B^ ((aZ B m).length+1):=by
  rw[jR];exact eW g2 hf
 have:=(gQ (show 1<B by omega)).1 (cP q1 this)
 omega
end IB
end
section
open Go Go.Proofs Go.Eng Go.Shelf IB Go.Lib Go.RowKit
namespace RB
theorem aU7 {n:Nat} (h:(aZ B9 n).length=1):(aZ B9 n).getD 0 0=n/\n<1000000000:=by
 have hv:=v9 n
 have hg:=get9 (show InB B9 (aZ B9 n) from fI (by decide) n) 0
 cases hl:aZ B9 n with
 | nil=>rw[hl] at h;simp at h
 | cons x r=>
  have hr:r= []:=by rw[hl] at h;simpa using h
  subst hr
  rw[hl] at hv hg
  simp only[valB,eO,gO] at hv
  refine ⟨hv,?_⟩
  have hg:0<=x/\x<1000000000:=hg
  omega
theorem aU8 (l:List Int) (k:Nat):l++List.replicate k 0++ [0]=l++List.replicate (k+1) 0:=by
 rw[bZ,<- wG]
theorem b106 (m n:Nat) (hm:m<B9^100) (hn:0<n/\n<B9^100):
  body Tryz.prog [c129,c134,c99,aYy,aU6,c136,c137,c138,c131] { asks:=[(0,[3]),(2,[3]),(4,[3])] } false Tryz.f190 [Ls (aZ B9 m),Ls (aZ B9 n)] (.tup [Ls (aZ B9 (m/n)),Ls (aZ B9 (m%n))]):=by
 obtain ⟨hn0,hn⟩:=hn
 have im:InB B9 (aZ B9 m):=fI (by decide) m
 have jn:InB B9 (aZ B9 n):=fI (by decide) n
 have lm:=mR hm
 have ln:=mR hn
 have hc:=aFn m n
 have vm:=v9 m
 have vn:=v9 n
 refine Need.mk ⟨im,jn⟩ ?_
 (apply Br.mk<;>intro)
 ·rename_i h
  have hlt:m<n:=by omega
  rw[Nat.div_eq_of_lt hlt,fQ hlt,fY]
  exact ZF
 rename_i h
 have hle:n<=m:=by omega
 (repeat'((conv=>whnf);first|refine Zg fun _=>?_|fail))
 (apply Br.mk<;>intro)
 ·rename_i h1
  obtain ⟨hx,hxlt⟩:=aU7 (n:=n) (by omega)
  (repeat'((conv=>whnf);first|refine Zg fun _=>?_|refine Zn ?_|refine Z0 ?_|fail))
  refine Need.mk ⟨im,by omega,by omega⟩ ?_
  (conv=>whnf)
  have e1:(valB B9 (aZ B9 m)/(aZ B9 n).getD 0 0).toNat=m/n:=by rw[vm,hx,<- oS,aP]
  have e2:(valB B9 (aZ B9 m)% (aZ B9 n).getD 0 0).toNat=m%n:=by rw[vm,hx,<- tF,aP]
  (repeat' first|exact trivial|apply aA)
  ·exact aO (aZ B9) e1
  exact aO (aZ B9) e2
 rename_i h1
 have hk:2<=(aZ B9 n).length:=by
  have:=(mJ (B:=B9) (by decide) hn0).2.2
  omega
 have ht:=get9 jn ((aZ B9 n).length-1)
 obtain ⟨f,hf⟩:∃f:Nat,(f:Int)=1000000000/((aZ B9 n).getD ((aZ B9 n).length-1) 0+1):=⟨_,(bM (eA (by omega) (by omega))).choose_spec.symm⟩
 obtain ⟨f0,fB,sl,st⟩:=scale (B:=B9) (by decide) hn0 hf
 have st:(1000000000:Int)<=4*(aZ B9 (n*f)).getD ((aZ B9 (n*f)).length-1) 0:=st
 have fB:f<1000000000:=fB
 (repeat' first|refine ZG ?_|refine Zg fun _=>?_)
 refine cX ((aZ B9 n).length-1) (by omega) ?_
 (repeat' first|refine ZG ?_|refine Zg fun _=>?_)
 rw[<- hf]
 have if1:InB B9 [(f:Int)]:=fun x hx=>by
  have:x=f:=by simpa using hx
  subst this
  exact ⟨by omega,by show (f:Int)<1000000000;omega⟩
 have ef:∀k:Nat,(valB B9 (aZ B9 k)*valB B9 [(f:Int)]).toNat=k*f:=fun k=>by
  rw[v9,show valB B9 [(f:Int)]=f by simp[valB],<- gG,aP]
 refine Need.mk ⟨im,if1,by omega,by show 1<=100000;omega⟩ ?_
 rw[ef]
 have sm:=aRd (B:=B9) (by decide) (m:=m) (show f<B9 from fB)
 (repeat'((conv=>whnf);first|refine Zn ?_|refine Zl ?_|fail))
 refine Need.mk ⟨jn,if1,by omega,by show 1<=100000;omega⟩ ?_
 rw[ef]
 have ka:(aZ B9 n).length<=(aZ B9 m).length:=aL fun hx=>by
  have:=vX (B:=B9) (by decide) (m:=m) (n:=n) (by omega)
  omega
 refine Ask.mk ⟨{ X:=Nat,pre:=fun i=>(aZ B9 (m*f)).length+i<=(aZ B9 m).length+1,mod:=fun _ _=>[],heap:=fun i H=>[V [],.cells [.ref 0 1] 41,V [],V (aZ B9 (m*f)++List.replicate (i+1) 0),V (aZ B9 (n*f)),V [],.cells [.ref 3 1] 41,V [],.cells [.ref 4 1] 41],mu:=fun i=>(aZ B9 m).length+1-(aZ B9 (m*f)).length-i,objs:=[3] },rfl,?_⟩
 (repeat refine ZG ?_)
 refine ⟨⟨(0:Nat),sm,?_⟩,fun (i:Nat) hi=>?_⟩
 ·exact ZE
 have hi:(aZ B9 (m*f)).length+i<=(aZ B9 m).length+1:=hi
 have hul:(aZ B9 (m*f)++List.replicate (i+1) (0:Int)).length=(aZ B9 (m*f)).length+(i+1):=by simp
 (repeat' first|refine ZG ?_|refine Zg fun _=>?_)
 (apply Br.mk<;>intro)
 ·rename_i hlt
  (repeat refine ZG ?_)
  refine ⟨(i+1:Nat),by show (aZ B9 m).length+1-(aZ B9 (m*f)).length-(i+1)<(aZ B9 m).length+1-(aZ B9 (m*f)).length-i;omega,by show _+(i+1)<= _;omega,?_⟩
  (repeat' first|exact trivial|rfl|exact Nat.one_pos|apply aA)
  exact aU8 _ _
 rename_i hge
 have hge:(aZ B9 m).length+1<=(aZ B9 (m*f)).length+(i+1):=by omega
 obtain ⟨iu,vu,zu⟩:=aRc (B:=B9) (by decide) (m*f) (i+1)
 have zu:=zu (by omega)
 have jv:InB B9 (aZ B9 (n*f)):=fI (by decide) _
 obtain ⟨u,hu⟩:∃u,aZ B9 (m*f)++List.replicate (i+1) (0:Int)=u:=⟨_,rfl⟩
 rw[hu] at iu vu zu hul ⊢
 obtain ⟨v,hv⟩:∃v,aZ B9 (n*f)=v:=⟨_,rfl⟩
 have vv:valB B9 v=((n*f:Nat):Int):=by rw[<- hv];exact v9 _
 rw[hv] at st sl jv ⊢
 obtain ⟨M,hM⟩:∃M,u.length-v.length=M:=⟨_,rfl⟩
 have hMu:M+v.length=u.length:=by omega
 obtain ⟨s1,s2⟩:=aNw (B:=B9) (by decide) iu jv (by omega) (by omega) hMu zu
 (repeat' first|refine ZG ?_|refine Zg fun _=>?_)
 rw[show ((u.length:Int)-v.length)=(M:Int) by omega]
 have v1p:250000000<=v.getD (v.length-1) 0:=by omega
 have hspec:=uF (B:=B9) (by decide) iu jv s2 hMu s1
 refine Ask.mk ⟨{ X:=Nat,pre:=fun s=>s<=M,mod:=fun _ _=>[],heap:=fun s H=>[V [],.cells [.ref 9 1] 41,V [],V (fZ B9 u v M s).1,V v,V [],.cells [.ref 3 1] 41,V [],.cells [.ref 4 1] 41,V (fZ B9 u v M s).2],mu:=fun s=>s,objs:=[3] },rfl,?_⟩
 refine ⟨M,?_⟩
 (conv=>whnf)
 refine Need.mk ⟨⟨rfl,rfl,by simp⟩,fun s hs=>⟨rfl,rfl,(hspec s hs).2.2.1⟩⟩ ?_
 (repeat refine ZG ?_)
 refine ⟨⟨(0:Nat),rfl,aI _,?_⟩,fun (s:Nat) hs (hlt:s<M)=>?_,fun (s:Nat) hs (he:s=M)=>?_⟩
 ·exact ZE
 ·obtain ⟨w1,w2,w3,w4,w5,w6⟩:=hspec s (by omega)
  obtain ⟨r1,r2,r3,r4⟩:=aNv (B:=B9) (by decide) iu jv s2 hMu s1 (by omega) (by omega) s hlt 8
  have hst1:(fZ B9 u v M (s+1)).1=(eP B9 (fZ B9 u v M s).1 v (M-1-s) (valB B9 ((fZ B9 u v M s).1.drop (M-1-s))/valB B9 v) (v.length+1)).1:=rfl
  have hst2:(fZ B9 u v M (s+1)).2=(fZ B9 u v M s).2.set (M-1-s) (valB B9 ((fZ B9 u v M s).1.drop (M-1-s))/valB B9 v):=rfl
  obtain ⟨w,hw⟩:∃w,(fZ B9 u v M s).1=w:=⟨_,rfl⟩
  obtain ⟨p,hp⟩:∃p,(fZ B9 u v M s).2=p:=⟨_,rfl⟩
  obtain ⟨j,hj⟩:∃j,M-1-s=j:=⟨_,rfl⟩
  obtain ⟨Q,hQ⟩:∃Q,valB B9 (w.drop j)/valB B9 v=Q:=⟨_,rfl⟩
  rw[hw] at w1 w2 w5 w6 r1 r2 r3 r4 hst1 hst2
  rw[hp] at w3 w4 w6 hst2
  rw[hj] at r1 r2 r3 r4 hst1 hst2
  rw[hQ] at r2 r3 r4 hst1 hst2
  show hnfL (itS M s) _
  (repeat'((conv=>whnf);first|refine Zg fun _=>?_|fail))
  (conv=>whnf)
  rw[hw,hj]
  refine Need.mk ⟨w2,jv,by omega,by omega,v1p,by omega,by omega⟩ ?_
  rw[aP]
  have g0:=get9 w2 (j+v.length)
  have g1:=get9 w2 (j+v.length-1)
  have hT:0<=top2 w v j/\top2 w v j<1000000000000000000:=by unfold top2;omega
  have hq4:top2 w v j/v.getD (v.length-1) 0<=4000000000:=by
   refine gD (tJ (by omega) (show top2 w v j<=4000000000*v.getD (v.length-1) 0 by omega)) ?_
   rw[Int.mul_ediv_cancel _ (by omega)]
   exact gT _
  have r5:Q<=estL w v j/\estL w v j<=4000000000:=⟨(r4 (top2 w v j) rfl).1,gD (r4 (top2 w v j) rfl).2 hq4⟩
  obtain ⟨q0,hq0⟩:∃q0,estL w v j=q0:=⟨_,rfl⟩
  rw[hq0] at r5
  refine Ask.mk ⟨{ X:=Int,pre:=fun q=>Q<=q/\q<=4000000000,mod:=fun q _=>[(10,I q)],heap:=fun q H=>[V [],.cells [.ref 9 1] 41,V [],V w,V v,V [],.cells [.ref 3 1] 41,V [],.cells [.ref 4 1] 41,V p,.gone],mu:=fun q=>(q-Q).toNat,objs:=[3] },rfl,?_⟩
  (repeat refine ZG ?_)
  refine ⟨⟨q0,r5,?_⟩,fun (q:Int) hq=>?_⟩
  ·(repeat' first|exact trivial|rfl|exact Nat.one_pos|apply aA)
   ·exact hq0
   exact hp
  obtain ⟨q1,q2⟩:=hq
  have q1:Q<=q:=q1
  obtain ⟨k1,k2,k3,_⟩:=oO (B:=B9) (by decide) w2 jv (j:=j) (q:=q) (by omega) (v.length+1) (by omega)
  obtain ⟨k4,_⟩:=aLq (B:=B9) (by decide) w2 jv (j:=j) (q:=q) (by omega) (by omega) r1
  have krest:=aNt (B:=B9) (by decide) w2 jv (j:=j) (q:=q) (by omega) (k:=v.length+1) (by omega)
  have kQ:q*valB B9 v<=valB B9 (w.drop j)↔q<=Q:=by rw[<- hQ,kU s2]
  refine Need.mk ⟨w2,jv,by omega,by omega,by omega,by omega⟩ ?_
  rw[aP]
  (apply Br.mk<;>intro)
  ·rename_i hc
   have hgt:Q<q:=by
    refine aL fun hx=>?_
    have:=k4.2 (kQ.2 (by omega))
    omega
   refine Need.mk ⟨k2,jv,by omega,by omega,by omega,by omega⟩ ?_
   (repeat refine ZG ?_)
   refine ⟨q-1,?_,⟨by show Q<=q-1;omega,by show q-1<=4000000000;omega⟩,?_⟩
   ·show (q-1-Q).toNat<(q-Q).toNat
    omega
   (repeat' first|exact trivial|rfl|exact Nat.one_pos|apply aA)
   exact krest
  rename_i hc
  have hqQ:q=Q:=by
   have:=kQ.1 (k4.1 (by omega))
   omega
  subst hqQ
  (repeat refine ZG ?_)
  refine ⟨(s+1:Nat),rfl,hlt,?_⟩
  (repeat' first|exact trivial|rfl|exact Nat.one_pos|apply aA)
  ·exact hst1.symm
  exact hst2.symm
 subst he
 obtain ⟨a1,a2⟩:=aRa (B:=B9) (by decide) iu jv s2 hMu s1
 have e1:(valB B9 u/valB B9 v).toNat=m/n:=by
  rw[vu,vv,<- oS,aP,Nat.mul_div_mul_right _ _ f0]
 have e2:(valB B9 u%valB B9 v).toNat=m%n*f:=by
  rw[vu,vv,<- tF,aP,Nat.mul_mod_mul_right]
 rw[e1] at a1
 rw[e2] at a2
 have hr:m%n*f<B9^101:=by
  rw[jR]
  exact eW (eV (eT m hn0) hn) fB
 have lr:=mR hr
 (conv=>whnf)
 rw[a2]
 refine Need.mk ⟨fI (by decide) _,by omega,by omega⟩ ?_
 have e3:(valB B9 (aZ B9 (m%n*f))/(f:Int)).toNat=m%n:=by
  rw[v9,<- oS,aP,Nat.mul_div_cancel _ f0]
 rw[e3]
 (conv=>whnf)
 (repeat' first|exact trivial|rfl|apply aA)
 exact a1
def c106:Con:=bB 190 false fun args K=>match args with
 | [.seq (.int .i64) a,.seq (.int .i64) b]=>Need (yY a/\yY b/\b≠ []) (K (.tup [Ls (aZ B9 ((valB B9 a).toNat/(valB B9 b).toNat)),Ls (aZ B9 ((valB B9 a).toNat% (valB B9 b).toNat))]))
 | _=>False
theorem aNz {b:List Int} (h:yY b) (hb:b≠ []):0<(valB B9 b).toNat:=by
 refine kS fun h0=>hb ?_
 rw[h.1,h0,fY]
theorem k106:aS Tryz.prog c106:=by
 refine kO Tryz.func190 fun args K h=>?_
 simp only[c106] at h;split at h
 ·rename_i a b
  refine ⟨_,h.go,?_⟩
  obtain ⟨⟨ha,hm⟩,⟨hb,hn⟩,hne⟩:=h.ok
  have ht:=triB Tryz.func190 Tryz.ntmps190 (by simp[k129,k134,k99,k135h,k166s,k136,k137,k138,k131]) (b106 (valB B9 a).toNat (valB B9 b).toNat hm ⟨aNz ⟨hb,hn⟩ hne,hn⟩)
  rw[<- ha,<- hb] at ht
  exact ht
 exact h.elim
def dvI (x y:Int):Bx × Bx × Int:=if lim (x.fdiv y) || lim (x.fmod y) then ([],[],4) else (itoa (x.fdiv y),itoa (x.fmod y),0)
noncomputable def divI (a b:Bx):Bx × Bx × Int:=if chk2 a b≠0 then ([],[],chk2 a b) else if b= [48] then ([],[],12) else dvI (valI a) (valI b)
theorem aU9 {b:Bx} (h:form b) (h0:¬b= [48]):valI b≠0:=fun e=>h0 (by
 have:=aAd h
 rw[e] at this
 rw[this]
 unfold itoa
 rw[aC (by omega)]
 exact iL (show 0<10 by omega))
theorem pw12:B9^100<B9^200:=Nat.pow_lt_pow_right (by decide) (by omega)
theorem aVa (x y:Int):dvI x y=if (resI (x.fdiv y)).2≠0\/(resI (x.fmod y)).2≠0 then ([],[],4) else ((resI (x.fdiv y)).1,(resI (x.fmod y)).1,0):=by
 unfold dvI resI
 by_cases h1:lim (x.fdiv y)=true<;>by_cases h2:lim (x.fmod y)=true<;>simp[h1,h2]
theorem aBq {x y q r:Int} (hq:q=x.fdiv y) (hr:r=x.fmod y) (h1:q.natAbs<10^40) (h2:r.natAbs<10^40):dvI x y=(itoa q,itoa r,0):=by
 rw[aVa,<- hq,<- hr,oR h1,oR h2]
 simp
theorem aVb (p q:Prop) [Decidable p] [Decidable q] (m n:Nat) (hn:0<n):
  sgP (¬(p↔q)) ((if ¬(p↔q)/\0<m%n then m/n+1 else m/n:Nat):Int)=(sgP p m).fdiv (sgP q n)/\sgP q ((if ¬(p↔q)/\0<m%n then n-m%n else m%n:Nat):Int)=(sgP p m).fmod (sgP q n):=by
 have h:=aWo (decide p) m (decide q) n hn
 have e1:∀(r:Prop) [Decidable r] (k:Nat),sgn (decide r) k=sgP r k:=fun r _ k=>by unfold sgn sgP;by_cases hr:r<;>simp[hr]
 rw[fT,e1,e1,e1] at h
 have e2:∀k,sgn (decide p != decide q) k=sgP (¬(p↔q)) k:=fun k=>by
  unfold sgn sgP
  by_cases hp:p<;>by_cases hq:q<;>simp[hp,hq]
 rw[e2] at h
 have e3:(decide p≠decide q)↔¬(p↔q):=by by_cases hp:p<;>by_cases hq:q<;>simp[hp,hq]
 by_cases hc:¬(p↔q)/\0<m%n
 ·rw[aD hc,aD hc]
  rw[aD ⟨e3.2 hc.1,hc.2⟩,aD ⟨e3.2 hc.1,hc.2⟩] at h
  exact h
 rw[aC hc,aC hc]
 rw[aC (fun hx=>hc ⟨e3.1 hx.1,hx.2⟩),aC (fun hx=>hc ⟨e3.1 hx.1,hx.2⟩)] at h
 exact h
theorem b69 (a b:Bx):body Tryz.prog [c94,c95,c61,c98,c106,c107,c96] {} true Tryz.f251 [S a,S b] (.tup [S (divI a b).1,S (divI a b).2.1,I (divI a b).2.2]):=by
 unfold divI
 (apply Br.mk<;>intro)
 ·rename_i h
  rw[aD h]
  exact ZF
 rename_i h
 rw[aC h]
 obtain ⟨ha,hb⟩:=qS h
 obtain ⟨fa,la⟩:=iY ha
 obtain ⟨fb,lb⟩:=iY hb
 (apply Br.mk<;>intro)
 ·rename_i h0
  rw[aD h0]
  exact ZF
 rename_i h0
 rw[aC h0]
 have hy:=aU9 fb h0
 refine Need.mk ⟨rfl,fa,fb⟩ ?_
 (apply Br.mk<;>intro)
 ·rename_i hs
  have h1:=lB fa hs.1
  have h2:=lB fb hs.2
  have hd:((valI a).tdiv (valI b)).natAbs<=(valI a).natAbs:=by rw[Int.natAbs_tdiv];exact jK _ _
  have hm:((valI a).tmod (valI b)).natAbs<(valI b).natAbs:=by rw[jJ];exact eT _ (by omega)
  have hsd:=aQ8 (valI a) (valI b) hy
  (repeat'((conv=>whnf);first|refine Zb ?_|refine Zn ?_|apply pI|apply pJ|fail))
  (apply Br.mk<;>intro)
  ·rename_i hr
   (apply Br.mk<;>intro)
   ·rename_i hsg
    rw[aD ⟨hr,hsg⟩,fT] at hsd
    rw[aBq hsd.1 hsd.2 (by omega) (by omega)]
    exact ZGF
   rename_i hsg
   rw[aC (fun hx=>hsg hx.2),fT] at hsd
   rw[aBq hsd.1 hsd.2 (by omega) (by omega)]
   exact ZF
  rename_i hr
  rw[aC (fun hx=>hr hx.1),fT] at hsd
  rw[aBq hsd.1 hsd.2 (by omega) (by omega)]
  exact ZF
 rename_i hs
 refine Need.mk ⟨fa,by omega⟩ ?_
 refine Need.mk ⟨fb,by omega⟩ ?_
 have pb:0<cD (digs b):=kS fun e=>hy (by rw[qF,e];unfold sgP;split<;>rfl)
 (repeat'((conv=>whnf);first|refine Zl ?_|fail))
 refine Need.mk ⟨fC fa la,fC fb lb,fun e=>by rw[qN (by decide)] at e;omega⟩ ?_
 rw[v9,v9,aP,aP]
 obtain ⟨d1,d2⟩:=aVb (a.headD 0=45) (b.headD 0=45) (cD (digs a)) (cD (digs b)) pb
 rw[<- qF,<- qF] at d1 d2
 rw[aVa]
 obtain ⟨M,hM⟩:∃M,cD (digs a)=M:=⟨_,rfl⟩
 obtain ⟨N,hN⟩:∃N,cD (digs b)=N:=⟨_,rfl⟩
 have cM:=(fC fa la).2
 have cN:=(fC fb lb).2
 rw[v9,aP,hM] at cM
 rw[v9,aP,hN] at cN
 rw[hM,hN] at d1 d2 ⊢
 rw[hN] at pb
 (apply Br.mk<;>intro)
 ·rename_i hne
  (repeat'((conv=>whnf);first|refine Zg fun _=>?_|fail))
  (apply Br.mk<;>intro)
  ·rename_i hrm
   have hpos:0<M%N:=kS fun e=>by rw[e,fY] at hrm;exact absurd hrm (by decide)
   rw[aD ⟨hne,hpos⟩] at d1 d2
   have ex1:(valB B9 (aZ B9 (M/N))+valB B9 [(1:Int)]).toNat=M/N+1:=by rw[v9,show valB B9 [(1:Int)]=1 by simp[valB]];generalize M/N=k;omega
   have ex2:(valB B9 (aZ B9 N)-valB B9 (aZ B9 (M%N))).toNat=N-M%N:=by rw[v9,v9];omega
   have hv1:∀hd,@sgP (¬(a.headD 0=45↔b.headD 0=45)) hd (valB B9 (aZ B9 (M/N+1)))=(valI a).fdiv (valI b):=fun hd=>by rw[<- d1,v9];congr
   have hv2:sgP (b.headD 0=45) (valB B9 (aZ B9 (N-M%N)))=(valI a).fmod (valI b):=by rw[<- d2,v9]
   have lq:=mR (show M/N<B9^100 from cP (jK _ _) cM)
   have lr:=mR (show M%N<B9^100 from eV (eT _ pb) cN)
   have hml:=eT M pb
   have lN:=mR cN
   have big1:M/N+1<B9^200:=by
    have h1:M/N<B9^100:=cP (jK _ _) cM
    have h2:B9^100<B9^200:=Nat.pow_lt_pow_right (by decide) (by omega)
    omega
   (repeat'((conv=>whnf);first|apply pI|apply pJ|refine Zl ?_|fail))
   refine Need.mk ⟨fI (by decide) _,fun x hx=>?_,by omega,by show 1<=100000;omega⟩ ?_
   ·have:x=1:=by simpa using hx
    subst this
    exact ⟨by omega,by show (1:Int)<1000000000;omega⟩
   rw[ex1]
   (repeat'((conv=>whnf);first|apply pI|apply pJ|fail))
   refine Need.mk ⟨fI (by decide) _,fI (by decide) _,by rw[v9,v9];omega,by omega,by omega⟩ ?_
   rw[ex2]
   refine Need.mk (iR (show M/N+1<B9^200 from big1)) ?_
   rw[hv1]
   refine Need.mk (iR (show N-M%N<B9^200 from (eV (show N-M%N<B9^100 from cP (Nat.sub_le _ _) cN) pw12))) ?_
   rw[hv2]
   (apply Br.mk<;>intro)
   ·rename_i z1
    rw[aD (.inl z1)]
    exact ZF
   rename_i z1
   (apply Br.mk<;>intro)
   ·rename_i z2
    rw[aD (.inr z2)]
    exact ZF
   rename_i z2
   rw[aC (fun hx=>hx.elim z1 z2)]
   exact ZF
  rename_i hrm
  have h00:M%N=0:=by
   have:(aZ B9 (M%N)).length=0:=by omega
   exact (qN (by decide)).1 (bW this)
  have d1':(valI a).fdiv (valI b)=sgP (¬(a.headD 0=45↔b.headD 0=45)) ((M/N:Nat):Int):=by rw[<- d1,aC (fun hx=>absurd hx.2 (by omega))]
  have d2':(valI a).fmod (valI b)=sgP (b.headD 0=45) ((M%N:Nat):Int):=by rw[<- d2,aC (fun hx=>absurd hx.2 (by omega))]
  have hv1:∀hd,@sgP (¬(a.headD 0=45↔b.headD 0=45)) hd (valB B9 (aZ B9 (M/N)))=(valI a).fdiv (valI b):=fun hd=>by rw[d1',v9];congr
  have hv2:sgP (b.headD 0=45) (valB B9 (aZ B9 (M%N)))=(valI a).fmod (valI b):=by rw[d2',v9]
  refine Need.mk (iR (eV ((show M/N<B9^100 from cP (jK _ _) cM)) pw12)) ?_
  rw[hv1]
  refine Need.mk (iR (eV ((show M%N<B9^100 from eV (eT _ pb) cN)) pw12)) ?_
  rw[hv2]
  (apply Br.mk<;>intro)
  ·rename_i z1
   rw[aD (.inl z1)]
   exact ZF
  rename_i z1
  (apply Br.mk<;>intro)
  ·rename_i z2
   rw[aD (.inr z2)]
   exact ZF
  rename_i z2
  rw[aC (fun hx=>hx.elim z1 z2)]
  exact ZF
 rename_i hne
 have d1':(valI a).fdiv (valI b)=sgP (¬(a.headD 0=45↔b.headD 0=45)) ((M/N:Nat):Int):=by rw[<- d1,aC (fun hx=>hne hx.1)]
 have d2':(valI a).fmod (valI b)=sgP (b.headD 0=45) ((M%N:Nat):Int):=by rw[<- d2,aC (fun hx=>hne hx.1)]
 have hv1:∀hd,@sgP (¬(a.headD 0=45↔b.headD 0=45)) hd (valB B9 (aZ B9 (M/N)))=(valI a).fdiv (valI b):=fun hd=>by rw[d1',v9];congr
 have hv2:sgP (b.headD 0=45) (valB B9 (aZ B9 (M%N)))=(valI a).fmod (valI b):=by rw[d2',v9]
 refine Need.mk (iR (eV ((show M/N<B9^100 from cP (jK _ _) cM)) pw12)) ?_
 rw[hv1]
 refine Need.mk (iR (eV ((show M%N<B9^100 from eV (eT _ pb) cN)) pw12)) ?_
 rw[hv2]
 (apply Br.mk<;>intro)
 ·rename_i z1
  rw[aD (.inl z1)]
  exact ZF
 rename_i z1
 (apply Br.mk<;>intro)
 ·rename_i z2
  rw[aD (.inr z2)]
  exact ZF
 rename_i z2
 rw[aC (fun hx=>hx.elim z1 z2)]
 exact ZF
def c69:Con:=bB 251 true fun args K=>match args with | [.str a,.str b]=>K (.tup [S (divI a b).1,S (divI a b).2.1,I (divI a b).2.2]) | _=>False
theorem k69:aS Tryz.prog c69:=by
 refine kO Tryz.func251 fun args K h=>?_
 simp only[c69] at h;split at h
 ·rename_i a b;exact ⟨_,h,triB Tryz.func251 Tryz.ntmps251 (by simp[k94,k95,k61,k98,k106,k107,k96]) (b69 a b)⟩
 exact h.elim
theorem aVc {P:Program} {fr:Bool} {f:FuncId} {args args':List SV} {r:SV} (h:Tri P fr f args r) (he:ent.entL args' args):Tri P fr f args' r:=
 fun ok w vs hg hok hr=>h ok w vs hg hok (iD he hr)
def c96g:Con:=bB 191 true fun args K=>match args with
 | [.agg [.val (.bool false),.seq (.int .i64) a]]=>Need (aCk a) (K (.tup [S (resI (valB B9 a)).1,I (resI (valB B9 a)).2]))
 | _=>False
theorem k96g:aS Tryz.prog c96g:=by
 refine kO Tryz.func191 fun args K h=>?_
 simp only[c96g] at h;split at h
 ·rename_i a
  refine ⟨_,h.go,?_⟩
  have ht:=triB Tryz.func191 Tryz.ntmps191 (by simp[k128,k88]) (b96 False inferInstance a h.ok)
  refine aVc (args:=[.agg [.bl False inferInstance,Ls a]]) ht ⟨⟨fun h=>h,?_,trivial⟩,trivial⟩
  rfl
 exact h.elim
theorem aL4 (x y:Int):Int.gcd y (x.tmod y)=Int.gcd x y:=by
 unfold Int.gcd
 rw[jJ,qI,<- Nat.gcd_rec,qI]
theorem aCx (p:Prop) [Decidable p] (n:Nat):(sgP p n).natAbs=n:=by unfold sgP;split<;>omega
theorem aFh {m:Nat} (h:m<B9^34):yY (aZ B9 m):=by
 refine ⟨by rw[v9,aP],?_⟩
 rw[v9,aP]
 exact bJ h (cL (by decide) (by omega))
def c89:Con:=bB 144 true fun args K=>match args with | [.str a,.str b]=>K (.tup [S (mB a b (resI (Int.gcd (valI a) (valI b)))).1,I (mB a b (resI (Int.gcd (valI a) (valI b)))).2]) | _=>False
theorem k89:aS Tryz.prog c89:=by
 refine kQ { asks:=[(0,[]),(2,[])] } Tryz.func144 Tryz.ntmps144 (kc k94 (kc k95 (kc k61 (kc k98 (kc k106 (kc k96g kn)))))) fun _ _ h=>?_
 split at h
 case h_2=>exact h.elim
 rename_i a b
 refine kb h ?_
 unfold mB
 (apply Br.mk<;>intro)
 ·rename_i h
  rw[aD h]
  exact ZF
 rename_i h
 rw[aC h]
 obtain ⟨ha,hb⟩:=qS h
 obtain ⟨fa,la⟩:=iY ha
 obtain ⟨fb,lb⟩:=iY hb
 refine Need.mk ⟨rfl,fa,fb⟩ ?_
 (apply Br.mk<;>intro)
 ·rename_i hs
  have h1:=lB fa hs.1
  have h2:=lB fb hs.2
  refine Ask.mk ⟨{ X:=Int × Int,pre:=fun z=>Int.gcd z.1 z.2=Int.gcd (valI a) (valI b)/\z.1.natAbs<=1000000000000000000/\z.2.natAbs<=1000000000000000000,mod:=fun z _=>[(7,I z.1),(8,I z.2)],heap:=fun _ _=>[],mu:=fun z=>z.2.natAbs },rfl,?_⟩
  (repeat refine ZG ?_)
  refine ⟨⟨(valI a,valI b),⟨rfl,by show (valI a).natAbs<= _;omega,by show (valI b).natAbs<= _;omega⟩,ZE⟩,fun (z:Int × Int) hz=>?_⟩
  obtain ⟨z1,z2,z3⟩:=hz
  (apply Br.mk<;>intro)
  ·rename_i hy
   have hm:(z.1.tmod z.2).natAbs<z.2.natAbs:=by rw[jJ];exact eT _ (by omega)
   (repeat'((conv=>whnf);first|refine Zb ?_|apply pI|apply pJ|fail))
   (conv=>whnf)
   refine ⟨(z.2,z.1.tmod z.2),hm,⟨by rw[<- z1];exact aL4 _ _,z3,by show (z.1.tmod z.2).natAbs<= _;omega⟩,?_⟩
   exact ZE
  rename_i hy
  have hy:z.2=0:=by omega
  have hg:((Int.gcd (valI a) (valI b):Nat):Int)=max z.1 (-z.1):=by
   rw[<- z1,hy,Int.gcd_zero_right]
   omega
  rw[hg,oR (by omega)]
  exact ZGF
 rename_i hs
 refine Need.mk ⟨fa,by omega⟩ ?_
 refine Need.mk ⟨fb,by omega⟩ ?_
 have pM:=oQ fa la
 have pN:=oQ fb lb
 have hgv:Int.gcd (valI a) (valI b)=Nat.gcd (cD (digs a)) (cD (digs b)):=by
  unfold Int.gcd
  rw[qF,qF,aCx,aCx]
 rw[hgv]
 refine Ask.mk ⟨{ X:=Nat × Nat,pre:=fun z=>Nat.gcd z.1 z.2=Nat.gcd (cD (digs a)) (cD (digs b))/\z.1<B9^34/\z.2<B9^34,mod:=fun z _=>[(10,Ls (aZ B9 z.1)),(11,Ls (aZ B9 z.2))],heap:=fun _ _=>[],mu:=fun z=>z.2 },rfl,?_⟩
 (repeat refine ZG ?_)
 refine ⟨⟨(cD (digs a),cD (digs b)),⟨rfl,pM,pN⟩,ZE⟩,fun (z:Nat × Nat) hz=>?_⟩
 obtain ⟨z1,z2,z3⟩:=hz
 (repeat'((conv=>whnf);first|refine Zg fun _=>?_|fail))
 (apply Br.mk<;>intro)
 ·rename_i hy
  have hy:0<z.2:=kS fun e=>by rw[e,fY] at hy;exact absurd hy (by decide)
  refine Need.mk ⟨aFh z2,aFh z3,fun e=>by rw[qN (by decide)] at e;omega⟩ ?_
  rw[v9,v9,aP,aP]
  refine ⟨(z.2,z.1%z.2),eT _ hy,⟨by rw[<- z1];show Nat.gcd z.2 (z.1%z.2)= _;rw[qI z.1 z.2,Nat.gcd_rec z.2 z.1];exact qI _ _,z3,eV (eT _ hy) z3⟩,?_⟩
  exact ZE
 rename_i hy
 have hy:z.2=0:=(qN (B:=B9) (by decide)).1 (bW (by omega))
 rw[hy,Nat.gcd_zero_right] at z1
 rw[<- z1]
 refine Need.mk (iR (bJ z2 (cL (by decide) (by omega)))) ?_
 rw[v9]
 exact ZF
end RB
end
section
namespace IB
open Go.Lib
def lead:Bx->Nat
 | []=>0
 | c::r=>if 48<=c.toNat/\c.toNat<=57 then lead r+1 else 0
theorem aJh:∀s,lead s<=s.length
 | []=>aM _
 | c::r=>by
  unfold lead
  split
  ·have:=aJh r;simp only[cW];omega
  omega
theorem aFa:∀s:Bx,∀c∈s.take (lead s),eU c
 | [],c,h=>by simp at h
 | x::r,c,h=>by
  unfold lead at h
  split at h
  ·rename_i hx
   rw[List.take_succ_cons] at h
   rcases bE.1 h with rfl | h
   ·exact hx
   exact aFa r c h
  simp at h
theorem aAi:∀(s:Bx) (n:Nat),n<=s.length->(∀i,i<n->eU (s.getD i 0))->(n=s.length\/¬eU (s.getD n 0))->lead s=n
 | [],n,h1,_,_=>by simp at h1;subst h1;rfl
 | c::r,0,_,_,h3=>by
  rcases h3 with h3 | h3
  ·simp at h3
  unfold lead
  rw[aC]
  exact h3
 | c::r,n+1,h1,h2,h3=>by
  have hc:48<=c.toNat/\c.toNat<=57:=h2 0 (by omega)
  unfold lead
  rw[aD hc,aAi r n (by simpa using h1) (fun i hi=>h2 (i+1) (by omega)) (by
   rcases h3 with h3 | h3
   ·exact .inl (by simpa using h3)
   exact .inr h3)]
theorem aUo {s:Bx}:lead s=s.length↔∀c∈s,eU c:=by
 constructor
 ·intro h c hc
  have:=aFa s c
  rw[h,fP] at this
  exact this hc
 intro h
 exact aAi s s.length (aM _) (fun i hi=>by
  rw[aB,aH hi]
  exact h _ (cU hi)) (.inl rfl)
def dgsN (s:Bx):Nat:=if 1<lead s/\s.headD 0=48 then 0 else lead s
def okD (s:Bx):Prop:=dgsN s≠0/\s.length<=dgsN s
theorem aPz (s:Bx):okD s↔s≠ []/\(∀c∈s,eU c)/\(s.length=1\/s.headD 0≠48):=by
 have hl:=aJh s
 unfold okD dgsN
 rw[<- aUo]
 by_cases h:1<lead s/\s.headD 0=48
 ·rw[aD h]
  refine ⟨fun hx=>absurd rfl hx.1,?_⟩
  rintro ⟨_,h2,h3⟩
  rcases h3 with h3 | h3
  ·omega
  exact absurd h.2 h3
 rw[aC h]
 constructor
 ·rintro ⟨h1,h2⟩
  have e:lead s=s.length:=by omega
  refine ⟨fun hx=>by rw[hx] at h1;exact h1 rfl,e,?_⟩
  by_cases h48:s.headD 0=48
  ·left
   have:¬1<lead s:=fun hx=>h ⟨hx,h48⟩
   omega
  exact .inr h48
 rintro ⟨h1,h2,h3⟩
 have:=cQ.2 h1
 exact ⟨by omega,by omega⟩
theorem aWq {s:Bx} (h1:s.length=1) (h:s.headD 0=48):s= [48]:=by
 cases s with
 | nil=>simp at h1
 | cons c r=>
  have:r= []:=by simpa using h1
  subst this
  simp at h;rw[h]
theorem aUp (t:Bx):form t↔okD (digs t)/\¬(t.headD 0=45/\digs t= [48]):=by
 rw[aPz]
 unfold form
 constructor
 ·rintro ⟨h1,h2,h3⟩
  refine ⟨⟨h1,h3,?_⟩,?_⟩
  ·rcases h2 with h2 | h2
   ·exact .inr h2
   left;rw[h2];rfl
  rintro ⟨q1,q2⟩
  rcases h2 with h2 | h2
  ·rw[q2] at h2;exact h2 rfl
  rw[h2] at q1;simp at q1
 rintro ⟨⟨h1,h2,h3⟩,h4⟩
 refine ⟨h1,?_,h2⟩
 by_cases h48:(digs t).headD 0=48
 ·right
  rcases h3 with h3 | h3
  ·have e:=aWq h3 h48
   have hn:¬t.headD 0=45:=fun q=>h4 ⟨q,e⟩
   unfold digs at e
   rw[aC hn] at e
   exact e
  exact absurd h48 h3
 exact .inl h48
theorem aWr (d:Bx):(d=decDigits (cD d)/\2<=cD d)↔okD d/\¬d= [48]/\¬d= [49]:=by
 rw[aPz]
 constructor
 ·rintro ⟨h1,h2⟩
  have hd:∀c∈d,eU c:=fun c hc=>by rw[h1] at hc;exact uH _ _ hc
  have hne:d≠ []:=fun e=>by rw[e] at h2;exact absurd h2 (by decide)
  refine ⟨⟨hne,hd,?_⟩,fun e=>by rw[e] at h2;exact absurd h2 (by decide),fun e=>by rw[e] at h2;exact absurd h2 (by decide)⟩
  right
  rw[h1]
  exact aLs _ (by omega)
 rintro ⟨⟨h1,h2,h3⟩,h4,h5⟩
 have e:=xD d.length d rfl h1 h2 h3
 refine ⟨e.symm,?_⟩
 apply aL
 intro hn
 have:cD d=0\/cD d=1:=by omega
 rcases this with h | h
 ·rw[h,iL (by omega)] at e;exact h4 e.symm
 rw[h,iL (by omega)] at e;exact h5 e.symm
theorem sJ:∀s:Bx,Go.Lib.indexByte s 47=if botS s= [] then -1 else ((topS s).length:Int)
 | []=>rfl
 | c::r=>by
  have ih:=sJ r
  by_cases h:c=47
  ·subst h
   simp[Go.Lib.indexByte,botS,topS]
  have e1:botS (c::r)=botS r:=by simp[botS,h]
  have e2:topS (c::r)=c::topS r:=by simp[topS,h]
  rw[e1,e2]
  simp only[Go.Lib.indexByte]
  rw[ih]
  by_cases hb:botS r= []
  ·simp[hb,h]
  simp[hb,h]
theorem aAj (s:Bx):topS s++botS s=s:=nY
theorem aUq (s:Bx):s.take (topS s).length=topS s:=by
 have:=List.take_left (l₁:=topS s) (l₂:=botS s)
 rwa [aAj] at this
theorem aUr (s:Bx):s.drop (topS s).length=botS s:=by
 have:=List.drop_left (l₁:=topS s) (l₂:=botS s)
 rwa [aAj] at this
end IB
end
section
open Go Go.Proofs Go.Eng Go.Shelf IB Go.Lib Go.RowKit
namespace RB
def c105:Con:=bB 185 true fun args K=>match args with | [.val (.int .i64 a),.val (.int .i64 b)]=>Need ((0<=a/\a<=4000000000000000000)/\(0<=b/\b<=4000000000000000000)) (K (I (Int.gcd a b))) | _=>False
theorem k105:aS Tryz.prog c105:=by
 refine kQ { asks:=[(0,[])] } Tryz.func185 Tryz.ntmps185 kn fun _ _ h=>?_
 split at h
 case h_2=>exact h.elim
 rename_i a b
 refine kb h.go ?_
 replace h:=h.ok
 obtain ⟨ha,hb⟩:=h
 refine Ask.mk ⟨{ X:=Int × Int,pre:=fun z=>Int.gcd z.1 z.2=Int.gcd a b/\(0<=z.1/\z.1<=4000000000000000000)/\(0<=z.2/\z.2<=4000000000000000000),mod:=fun z _=>[(0,I z.1),(1,I z.2)],heap:=fun _ _=>[],mu:=fun z=>z.2.natAbs },rfl,?_⟩
 (repeat refine ZG ?_)
 refine ⟨⟨(a,b),⟨rfl,ha,hb⟩,ZE⟩,fun (z:Int × Int) hz=>?_⟩
 obtain ⟨z1,z2,z3⟩:=hz
 (apply Br.mk<;>intro)
 ·rename_i hy
  have hm:(z.1.tmod z.2).natAbs<z.2.natAbs:=by rw[jJ];exact eT _ (by omega)
  have hm0:0<=z.1.tmod z.2:=uW _ z2.1
  (repeat'((conv=>whnf);first|refine Za ?_|apply pI|apply pJ|fail))
  (conv=>whnf)
  refine ⟨(z.2,z.1.tmod z.2),hm,⟨by rw[<- z1];exact aL4 _ _,z3,hm0,by show z.1.tmod z.2<= _;omega⟩,?_⟩
  (repeat' first|exact trivial|rfl|apply aA)
  exact (rM z2.1).symm
 rename_i hy
 have hy:z.2=0:=by omega
 have hg:((Int.gcd a b:Nat):Int)=z.1:=by
  rw[<- z1,hy,Int.gcd_zero_right]
  omega
 rw[hg]
 exact ZF
theorem aW3 {P:Program} {fr:Bool} {f:FuncId} {s:Bx} {r:List SV} {x:SV} (h:s.length<=140737488355328->Tri P fr f (.str s::r) x):Tri P fr f (.str s::r) x:=by
 intro ok w vs hg hok hr
 cases hr with
 | cons _ v1 _ vs1 h1 hr=>
 cases h1 with
 | str _ hl=>exact h hl ok w _ hg hok (.cons _ _ _ _ (.str _ hl) hr)
theorem aP6 (s:Bx): -1<=Lib.indexByte s 47/\Lib.indexByte s 47<=s.length:=by
 rw[sJ]
 split
 ·omega
 have:=aO List.length (aAj s)
 rw[aQ] at this
 omega
theorem t170 (s:Bx):Tri Tryz.prog true 277 [S s,S [47]] (I (Lib.indexByte s 47)):=by
 intro ok w vs hg hok hr
 cases hr with
 | cons _ v1 _ vs1 h1 hr=>
 cases h1 with
 | str _ hl=>
 obtain ⟨rfl,_⟩:=aAo hr
 have hl':s.length<=140737488355328:=hl
 have hb:=aP6 s
 refine (Any.stringslite_Index_one RL.lX ⟨s.toArray⟩ 47 w).mono ?_
 rintro e w' ⟨rfl,rfl⟩
 have hw:WV (.int .i64 (Lib.indexByte s 47)):=by constructor<;>simp only[lo,hi]<;>omega
 exact ⟨_,rfl,Below.refl _ _,.val _ hw⟩
def c170:Con:=bB 277 true fun args K=>match args with | [.str s,.str p]=>Need (p= [47]) (K (I (Lib.indexByte s 47))) | _=>False
theorem k170:aS Tryz.prog c170:=by
 refine kO Tryz.func277 fun args K h=>?_
 simp only[c170] at h;split at h
 ·obtain ⟨rfl,h⟩:=h
  exact ⟨_,h,t170 _⟩
 exact h.elim
theorem b154 (s:Bx) (hl:s.length<=140737488355328):body Tryz.prog [c170] {} true Tryz.f227 [S s,S [47]] (.tup [S (topS s),S (botS s).tail,.bl (botS s≠ []) inferInstance]):=by
 have hb:=aP6 s
 have hi:=sJ s
 have htb:=aO List.length (aAj s)
 rw[aQ] at htb
 (repeat refine ZG ?_)
 (apply Br.mk<;>intro)
 ·rename_i h
  by_cases hbn:botS s= []
  ·rw[aD hbn] at hi;omega
  rw[aC hbn] at hi
  have hpos:=cQ.2 hbn
  rw[hi]
  (repeat'((conv=>whnf);first|refine Zg fun _=>?_|refine Zn ?_|refine Zj ?_|apply pI|apply pJ|fail))
  (conv=>whnf)
  (repeat' first|exact trivial|apply aA)
  ·exact aUq s
  ·show s.drop ((topS s).length+1)=(botS s).tail
   rw[<- dJ,aUr,iT]
  exact hbn
 rename_i h
 have hbn:botS s= []:=by
  refine aL fun hx=>?_
  rw[aC hx] at hi;omega
 have ht:topS s=s:=by have:=aAj s;rw[hbn,eB] at this;exact this
 (conv=>whnf)
 (repeat' first|exact trivial|apply aA)
 ·exact ht.symm
 ·show ([]:Bx)= _
  rw[hbn];rfl
 exact fun hx=>hx hbn
def c154:Con:=bB 227 true fun args K=>match args with | [.str s,.str p]=>Need (p= [47]) (K (.tup [S (topS s),S (botS s).tail,.bl (botS s≠ []) inferInstance])) | _=>False
theorem k154:aS Tryz.prog c154:=by
 refine kO Tryz.func227 fun args K h=>?_
 simp only[c154] at h;split at h
 ·obtain ⟨rfl,h⟩:=h
  exact ⟨_,h,aW3 fun hl=>triB Tryz.func227 Tryz.ntmps227 (by simp[k170]) (b154 _ hl)⟩
 exact h.elim
theorem b122 (s:Bx):body Tryz.prog [c154] {} true Tryz.f181 [S s,S [47]] (.tup [S (topS s),S (botS s).tail,.bl (botS s≠ []) inferInstance]):=by
 exact ZGF
def c122:Con:=bB 181 true fun args K=>match args with | [.str s,.str p]=>Need (p= [47]) (K (.tup [S (topS s),S (botS s).tail,.bl (botS s≠ []) inferInstance])) | _=>False
theorem k122:aS Tryz.prog c122:=by
 refine kO Tryz.func181 fun args K h=>?_
 simp only[c122] at h;split at h
 ·obtain ⟨rfl,h⟩:=h
  exact ⟨_,h,triB Tryz.func181 Tryz.ntmps181 (by simp[k154]) (b122 _)⟩
 exact h.elim
theorem aFi (s:Bx) (i:Nat):(48<=dT s i/\dT s i<=57)↔eU (s.getD i 0):=by
 unfold dT eU;omega
theorem aBr (s:Bx):dT s 0=48↔s.headD 0=48:=by
 unfold dT
 have e:s.getD 0 0=s.headD 0:=by cases s<;>rfl
 rw[e]
 constructor
 ·intro h
  have:(s.headD 0).toNat=(48:UInt8).toNat:=by show _=48;omega
  exact vC this
 intro h;rw[h];rfl
def c124:Con:=bB 183 true fun args K=>match args with | [.str s]=>K (I (dgsN s)) | _=>False
theorem k124:aS Tryz.prog c124:=by
 refine kQ { asks:=[(0,[])] } Tryz.func183 Tryz.ntmps183 kn fun _ _ h=>?_
 split at h
 case h_2=>exact h.elim
 rename_i s
 refine kb h ?_
 refine Ask.mk ⟨{ X:=Nat,pre:=fun n=>n<=s.length/\∀i,i<n->eU (s.getD i 0),mod:=fun n _=>[(3,I n)],heap:=fun _ _=>[],mu:=fun n=>s.length-n },rfl,?_⟩
 (repeat refine ZG ?_)
 refine ⟨⟨(0:Nat),⟨aI _,fun i hi=>absurd hi (bG _)⟩,ZE⟩,fun (n:Nat) hn=>?_⟩
 obtain ⟨n1,n2⟩:=hn
 have hb:=aFi s n
 have h0:=aBr s
 by_cases hc:n<s.length/\48<=dT s n/\dT s n<=57
 ·(repeat'((conv=>whnf);first|refine Zg fun _=>?_|refine Zn ?_|refine Zj ?_|refine Zy ?_|fail))
  all_goals first | (exfalso;omega) | skip
  refine ⟨(n+1:Nat),by show s.length-(n+1)<s.length-n;omega,⟨by omega,fun i hi=>?_⟩,ZE⟩
  by_cases e:i=n
  ·subst e;exact hb.1 hc.2
  exact n2 i (by omega)
 have hl:lead s=n:=aAi s n n1 n2 (by
  by_cases e:n=s.length
  ·exact .inl e
  right
  rw[<- hb];intro hx;exact hc ⟨by omega,hx⟩)
 have hd:(dgsN s:Int)=if 1<n/\dT s 0=48 then 0 else (n:Int):=by
  unfold dgsN
  rw[hl]
  by_cases q:1<n/\dT s 0=48
  ·rw[aD q,aD ⟨q.1,h0.1 q.2⟩];rfl
  rw[aC q,aC (fun hx=>q ⟨hx.1,h0.2 hx.2⟩)]
 (repeat'((conv=>whnf);first|refine Zg fun _=>?_|refine Zn ?_|refine Z0 ?_|refine Zj ?_|refine Zm ?_|refine Zr (fun _=>?_) fun _=>?_|fail))
 all_goals first | (exfalso;omega) | skip
 all_goals (skip;(conv=>whnf);(repeat' first|rfl|apply aA))
 all_goals (rw[hd];first | rw[aD (by omega)] | rw[aC (by omega)])
theorem itoa_zero:itoa 0= [48]:=by
 unfold itoa
 rw[aC (by omega)]
 exact iL (show 0<10 by omega)
theorem b92 (x:Int) (hlx:(itoa x).length<=1000):body Tryz.prog [c123] {} true Tryz.f250 [S (itoa x)] (S (itoa (-x))):=by
 (apply Br.mk<;>intro)
 ·rename_i h
  have hx:x=0:=rK (by rw[itoa_zero];exact h)
  subst hx
  (conv=>whnf)
  exact ZE
 rename_i h
 have hx:x≠0:=fun e=>h (by rw[e,itoa_zero])
 have hh:=oL x
 have hd:=gM x
 (repeat refine ZG ?_)
 (apply Br.mk<;>intro)
 ·rename_i hn
  have hn:=hh.1 hn
  have e:itoa (-x)=digs (itoa x):=by
   rw[hd]
   unfold itoa
   rw[aC (by omega)]
   congr 1;omega
  rw[e]
  (conv=>whnf)
 rename_i hn
 have hn:¬x<0:=fun e=>hn (hh.2 e)
 have e:itoa (-x)=45::itoa x:=by
  unfold itoa
  rw[aD (by omega),aC (by omega)]
  congr 2;omega
 rw[e]
 (repeat refine ZG ?_)
 (conv=>whnf)
 exact ZE
def c92:Con:=bB 250 true fun args K=>match args with | [.str s]=>Need (form s/\s.length<=1000) (K (S (itoa (-valI s)))) | _=>False
theorem k92:aS Tryz.prog c92:=by
 refine kO Tryz.func250 fun args K h=>?_
 simp only[c92] at h;split at h
 ·rename_i s
  obtain ⟨⟨h1,h2⟩,h⟩:=h
  refine ⟨_,h,?_⟩
  have e:=aAd h1
  have:=triB Tryz.func250 Tryz.ntmps250 (by simp[k123]) (b92 (valI s) (by rw[<- e];exact h2))
  rwa [<- e] at this
 exact h.elim
def bot1 (s:Bx):Bx:=if botS s= [] then [49] else (botS s).tail
theorem aCf (s:Bx):rV s↔(((dgsN (digs (topS s)):Int)≠0/\((digs (topS s)).length:Int)<=dgsN (digs (topS s)))/\¬((topS s).headD 0=45/\digs (topS s)= [48]))/\
  (botS s= []\/(((dgsN (botS s).tail:Int)≠0/\((botS s).tail.length:Int)<=dgsN (botS s).tail)/\¬(botS s).tail= [48]/\¬(botS s).tail= [49])):=by
 unfold rV
 rw[aUp]
 have e:∀d:Bx,okD d↔((dgsN d:Int)≠0/\(d.length:Int)<=dgsN d):=fun d=>by unfold okD;omega
 rw[e]
 refine and_congr lH ?_
 by_cases hb:botS s= []
 ·simp[hb]
 have hd:denS s=cD (botS s).tail:=by unfold denS;rw[aC hb]
 rw[hd,aWr,e]
theorem b87y (s:Bx) (hf:rV s):body Tryz.prog [c122,c123,c124] {} true Tryz.f142 [S s] (.tup [.agg [S (topS s),S (bot1 s)],.val (.bool true)]):=by
 have hF:=(aCf s).1 hf
 obtain ⟨⟨⟨f1,f2⟩,f3⟩,f4⟩:=hF
 unfold bot1
 (repeat'((conv=>whnf);first|refine Zg fun _=>?_|refine Zn ?_|refine Zm ?_|refine Zr (fun _=>?_) fun _=>?_|fail))
 all_goals first | (exfalso;omega) | skip
 all_goals first
  | (exfalso;simp_all;done)
  | (exfalso;simp_all;omega)
  | (skip;(conv=>whnf);(repeat' first|exact trivial|rfl|apply aA);simp_all;exact @rfl (Bx) _)
theorem b87n (s:Bx) (hf:¬rV s):body Tryz.prog [c122,c123,c124] {} true Tryz.f142 [S s] (.tup [.agg [S [],S []],.val (.bool false)]):=by
 have hF:=fun h=>hf ((aCf s).2 h)
 (repeat'((conv=>whnf);first|refine Zg fun _=>?_|refine Zn ?_|refine Zr (fun _=>?_) fun _=>?_|fail))
 all_goals first
  | (exfalso;simp_all;done)
  | (exfalso;simp_all;omega)
  | (skip;(conv=>whnf);(repeat' first|exact trivial|rfl|apply aA);done)
  | (exfalso;refine hF ⟨⟨⟨by omega,by omega⟩,?_⟩,?_⟩
     ·first | exact fun hx=>absurd hx.2 (by assumption) | exact fun hx=>absurd hx.1 (by assumption)
     first | exact .inl (bD.1 (by assumption)) | exact .inr ⟨⟨by omega,by omega⟩,by assumption,by assumption⟩)
def c87:Con:=bB 142 true fun args K=>match args with
 | [.str s]=>Br (rV s) (K (.tup [.agg [S (topS s),S (bot1 s)],.val (.bool true)])) (K (.tup [.agg [S [],S []],.val (.bool false)]))
 | _=>False
theorem k87:aS Tryz.prog c87:=by
 refine kO Tryz.func142 fun args K h=>?_
 simp only[c87] at h;split at h
 ·rename_i s
  by_cases hf:rV s
  ·exact ⟨_,h.yes hf,triB Tryz.func142 Tryz.ntmps142 (by simp[k122,k123,k124]) (b87y s hf)⟩
  exact ⟨_,h.no hf,triB Tryz.func142 Tryz.ntmps142 (by simp[k122,k123,k124]) (b87n s hf)⟩
 exact h.elim
def aCg (s:Bx):Prop:=1<=lead s/\lead s<=8/\¬(1<lead s/\s.headD 0=48)
theorem aVd {s:Bx} {i:Nat} (hi:i<=s.length) (h:∀j,j<i->eU (s.getD j 0)):∀c∈s.take i,eU c:=by
 intro c hc
 obtain ⟨j,hj,rfl⟩:=bV hc
 rw[bA] at hj
 have:=h j (by omega)
 rw[aB,aH (by omega)] at this
 simpa using this
theorem aFj {s:Bx} {i:Nat} (hi:i<s.length) (hd:eU (s.getD i 0)):(cD (s.take (i+1)):Int)=10*cD (s.take i)+(dT s i-48):=by
 have e:s.take (i+1)=s.take i++ [s.getD i 0]:=by
  rw[dA hi]
  simp[aB,hi]
 rw[e,nA]
 unfold dT
 unfold eU at hd
 omega
theorem aFk {s:Bx} {i:Nat} (hi:i<=s.length) (h:∀j,j<i->eU (s.getD j 0)) (h9:i<=9):cD (s.take i)<1000000000:=by
 have h1:=rH (s.take i) (aVd hi h)
 have h2:(10:Nat)^ (s.take i).length<=10^9:=cL (by omega) (by rw[bA];omega)
 have h3:(10:Nat)^9=1000000000:=by decide
 omega
theorem aJj:∀(s:Bx) (n:Nat),n<=s.length->(∀i,i<n->eU (s.getD i 0))->n<=lead s
 | _,0,_,_=>aI _
 | [],n+1,h,_=>by simp at h
 | c::r,n+1,h1,h2=>by
  have hc:48<=c.toNat/\c.toNat<=57:=h2 0 (by omega)
  unfold lead
  rw[aD hc]
  have:=aJj r n (by simpa using h1) (fun i hi=>h2 (i+1) (by omega))
  omega
theorem b104y (s:Bx) (h:aCg s):body Tryz.prog [] { asks:=[(0,[])] } true Tryz.f184 [S s] (.tup [I (cD (s.take (lead s))),S (s.drop (lead s)),.val (.bool true)]):=by
 obtain ⟨o1,o2,o3⟩:=h
 rw[<- aBr] at o3
 refine Ask.mk ⟨{ X:=Nat,pre:=fun n=>n<=9/\n<=s.length/\∀i,i<n->eU (s.getD i 0),mod:=fun n _=>[(5,I (cD (s.take n))),(6,I n)],heap:=fun _ _=>[],mu:=fun n=>s.length-n },rfl,?_⟩
 (repeat refine ZG ?_)
 refine ⟨⟨(0:Nat),⟨by omega,aI _,fun i hi=>absurd hi (bG _)⟩,ZE⟩,fun (n:Nat) hn=>?_⟩
 obtain ⟨n9,n1,n2⟩:=hn
 have hb:=aFi s n
 have hv:=aFk n1 n2 n9
 have hge:=aJj s n n1 n2
 by_cases hc:n<s.length/\48<=dT s n/\dT s n<=57
 ·have hs:=aFj hc.1 (hb.1 hc.2)
  (repeat'((conv=>whnf);first|refine Zg fun _=>?_|refine Zn ?_|refine Zj ?_|refine Zy ?_|fail))
  all_goals first | (exfalso;omega) | skip
  all_goals (skip;(conv=>whnf);refine ⟨(n+1:Nat),by show s.length-(n+1)<s.length-n;omega,⟨by omega,by omega,fun i hi=>by
     by_cases e:i=n
     ·subst e;exact hb.1 hc.2
     exact n2 i (by omega)⟩,?_⟩;(repeat' first|exact trivial|rfl|apply aA|omega);done)
 have hl:lead s=n:=aAi s n n1 n2 (by
  by_cases e:n=s.length
  ·exact .inl e
  right
  rw[<- hb];intro hx;exact hc ⟨by omega,hx⟩)
 have hr:(.tup [I (cD (s.take (lead s))),S (s.drop (lead s)),.val (.bool true)]:SV)= .tup [I (cD (s.take n)),S (s.drop n),.val (.bool true)]:=by rw[hl]
 rw[hr]
 rw[hl] at o1 o2 o3
 (repeat'((conv=>whnf);first|refine Zg fun _=>?_|refine Zn ?_|refine Z0 ?_|refine Zj ?_|apply pI|apply pJ|refine Zy ?_|refine Zm ?_|refine Zr (fun _=>?_) fun _=>?_|fail))
 all_goals first | (exfalso;omega) | skip
 all_goals (skip;(conv=>whnf);(repeat' first|exact trivial|rfl|apply aA))
theorem b104n (s:Bx) (h:¬aCg s):body Tryz.prog [] { asks:=[(0,[])] } true Tryz.f184 [S s] (.tup [I 0,S [],.val (.bool false)]):=by
 have h:¬(1<=lead s/\lead s<=8/\¬(1<lead s/\dT s 0=48)):=by rw[aBr];exact h
 refine Ask.mk ⟨{ X:=Nat,pre:=fun n=>n<=9/\n<=s.length/\∀i,i<n->eU (s.getD i 0),mod:=fun n _=>[(5,I (cD (s.take n))),(6,I n)],heap:=fun _ _=>[],mu:=fun n=>s.length-n },rfl,?_⟩
 (repeat refine ZG ?_)
 refine ⟨⟨(0:Nat),⟨by omega,aI _,fun i hi=>absurd hi (bG _)⟩,ZE⟩,fun (n:Nat) hn=>?_⟩
 obtain ⟨n9,n1,n2⟩:=hn
 have hb:=aFi s n
 have hv:=aFk n1 n2 n9
 have hge:=aJj s n n1 n2
 by_cases hc:n<s.length/\48<=dT s n/\dT s n<=57
 ·have hs:=aFj hc.1 (hb.1 hc.2)
  (repeat'((conv=>whnf);first|refine Zg fun _=>?_|refine Zn ?_|refine Zj ?_|refine Zy ?_|refine Zm ?_|refine Zr (fun _=>?_) fun _=>?_|fail))
  all_goals first | (exfalso;omega) | skip
  all_goals first | (skip;(conv=>whnf);refine ⟨(n+1:Nat),by show s.length-(n+1)<s.length-n;omega,⟨by omega,by omega,fun i hi=>by
     by_cases e:i=n
     ·subst e;exact hb.1 hc.2
     exact n2 i (by omega)⟩,?_⟩;(repeat' first|exact trivial|rfl|apply aA|omega);done) | (skip;(conv=>whnf);(repeat' first|exact trivial|rfl|apply aA);done)
 have hl:lead s=n:=aAi s n n1 n2 (by
  by_cases e:n=s.length
  ·exact .inl e
  right
  rw[<- hb];intro hx;exact hc ⟨by omega,hx⟩)
 rw[hl] at h
 (repeat'((conv=>whnf);first|refine Zg fun _=>?_|refine Zn ?_|refine Z0 ?_|refine Zj ?_|refine Zy ?_|refine Zm ?_|refine Zr (fun _=>?_) fun _=>?_|fail))
 all_goals first | (exfalso;omega) | skip
 all_goals (skip;(conv=>whnf);(repeat' first|exact trivial|rfl|apply aA))
theorem qP {s:Bx} (h:aCg s):s.take (lead s)=decDigits (cD (s.take (lead s)))/\cD (s.take (lead s))<100000000:=by
 obtain ⟨h1,h2,h3⟩:=h
 have hl:=aJh s
 have hd:=aFa s
 have hlen:(s.take (lead s)).length=lead s:=by rw[bA];omega
 have hh:(s.take (lead s)).headD 0=s.headD 0:=by
  cases s with
  | nil=>rfl
  | cons c r=>
   obtain ⟨k,hk⟩:∃k,lead (c::r)=k+1:=⟨lead (c::r)-1,by omega⟩
   rw[hk];rfl
 refine ⟨(xD _ _ rfl (fun e=>by rw[e] at hlen;simp at hlen;omega) hd ?_).symm,?_⟩
 ·rw[hlen,hh]
  by_cases h48:s.headD 0=48
  ·left
   have:¬1<lead s:=fun hx=>h3 ⟨hx,h48⟩
   omega
  exact .inr h48
 have h1:=rH (s.take (lead s)) hd
 have h2:(10:Nat)^ (s.take (lead s)).length<=10^8:=cL (by omega) (by rw[hlen];omega)
 have h3:(10:Nat)^8=100000000:=by decide
 omega
def c104:Con:=bB 184 true fun args K=>match args with
 | [.str s]=>Br (aCg s) (Giv (cD (s.take (lead s))<100000000) (K (.tup [I (cD (s.take (lead s))),S (s.drop (lead s)),.val (.bool true)]))) (K (.tup [I 0,S [],.val (.bool false)]))
 | _=>False
theorem k104:aS Tryz.prog c104:=by
 refine kO Tryz.func184 fun args K h=>?_
 simp only[c104] at h;split at h
 ·rename_i s
  by_cases hf:aCg s
  ·exact ⟨_,(h.yes hf).go (qP hf).2,triB Tryz.func184 Tryz.ntmps184 (by simp) (b104y s hf)⟩
  exact ⟨_,h.no hf,triB Tryz.func184 Tryz.ntmps184 (by simp) (b104n s hf)⟩
 exact h.elim
abbrev nvN (s:Bx):Nat:=cD ((digs s).take (lead (digs s)))
abbrev nvR (s:Bx):Bx:=(digs s).drop (lead (digs s))
abbrev nvD (s:Bx):Nat:=cD ((nvR s).tail.take (lead (nvR s).tail))
def nvOK (s:Bx):Prop:=aCg (digs s)/\¬(s.headD 0=45/\nvN s=0)/\(nvR s= []\/((nvR s).headD 0=47/\aCg (nvR s).tail/\(nvR s).tail.drop (lead (nvR s).tail)= []/\2<=nvD s/\Nat.gcd (nvN s) (nvD s)=1))
theorem aVe (s:Bx):s=(if s.headD 0=45 then [45] else [])++digs s:=by
 unfold digs
 by_cases h:s.headD 0=45
 ·rw[aD h,aD h]
  cases s with
  | nil=>simp at h
  | cons c r=>simp at h;rw[h];rfl
 rw[aC h,aC h];rfl
theorem aVf {p:Prop} [Decidable p] {n:Nat} (h:¬(p/\n=0)):itoa (sgP p n)=(if p then [45] else [])++decDigits n:=by
 unfold itoa sgP
 by_cases hp:p
 ·rw[aD hp,aD hp]
  have:n≠0:=fun e=>h ⟨hp,e⟩
  rw[aD (by omega)]
  show 45:: _=45:: _
  congr 2;omega
 rw[aC hp,aC hp,aC (by omega)]
 simp
theorem aZq {s:Bx} (h:nvOK s):∃q:Rat,s=numS q/\q.num=sgP (s.headD 0=45) (nvN s)/\(q.den:Int)=(if nvR s= [] then 1 else nvD s:Nat)/\nvN s<100000000/\q.den<100000000:=by
 obtain ⟨h1,h2,h3⟩:=h
 obtain ⟨a1,a2⟩:=qP h1
 have hs:=aVe s
 have ht:digs s=decDigits (nvN s)++nvR s:=by
  rw[<- a1];exact (gK _ _).symm
 have hi:=aVf h2
 have hs2:s=itoa (sgP (s.headD 0=45) (nvN s))++nvR s:=by
  rw[hi,bZ,<- ht];exact hs
 rcases h3 with h3 | ⟨b1,b2,b3,b4,b5⟩
 ·refine ⟨⟨sgP (s.headD 0=45) (nvN s),1,by decide,by simp⟩,?_,rfl,by rw[aD h3],a2,by show (1:Nat)< _;decide⟩
  unfold numS
  rw[aD rfl]
  rw[h3,eB] at hs2
  exact hs2
 have hne:nvR s≠ []:=fun e=>by rw[e] at b1;simp at b1
 obtain ⟨c1,c2⟩:=qP b2
 have hr:nvR s=47::decDigits (nvD s):=by
  cases hq:nvR s with
  | nil=>exact absurd hq hne
  | cons c r=>
   have hc:c=47:=by rw[hq] at b1;simpa using b1
   have ht2:(nvR s).tail=r:=by rw[hq];rfl
   rw[<- ht2,hc]
   congr 1
   rw[<- c1]
   have:=gK (lead (nvR s).tail) (nvR s).tail
   rw[b3,eB] at this
   exact this.symm
 refine ⟨⟨sgP (s.headD 0=45) (nvN s),nvD s,by omega,?_⟩,?_,rfl,by rw[aC hne],a2,c2⟩
 ·rw[aCx];exact b5
 unfold numS
 rw[aC (by show ¬nvD s=1;omega)]
 show s=itoa _++47::decDigits (nvD s)
 rw[<- hr];exact hs2
theorem iX {s:Bx} (h:nvOK s):s=numS (valQ s)/\(valQ s).num=sgP (s.headD 0=45) (nvN s)/\((valQ s).den:Int)=(if nvR s= [] then 1 else nvD s:Nat)/\(valQ s).num.natAbs<100000000/\(valQ s).den<100000000:=by
 obtain ⟨q,q1,q2,q3,q4,q5⟩:=aZq h
 have e:valQ s=q:=by rw[q1];exact jH q
 rw[e]
 exact ⟨q1,q2,q3,by rw[q2,aCx];exact q4,q5⟩
theorem qQ (s:Bx) (c:UInt8):dT s 0=c.toNat↔s.headD 0=c:=by
 unfold dT
 have e:s.getD 0 0=s.headD 0:=by cases s<;>rfl
 rw[e]
 constructor
 ·intro h
  exact vC (by omega)
 intro h;rw[h]
theorem b68y (s:Bx) (h:nvOK s):body Tryz.prog [c104,c105] {} true Tryz.f143 [S s] (.tup [.agg [I (sgP (s.headD 0=45) (nvN s)),I (if nvR s= [] then 1 else nvD s:Nat)],.val (.bool true)]):=by
 obtain ⟨h1,h2,h3⟩:=h
 have hb:dT s 0=45↔s.headD 0=45:=qQ s 45
 have hd8:=(qP h1).2
 unfold sgP
 by_cases hn:s.headD 0=45
 ·rw[aD hn]
  have hb0:dT s 0=45:=hb.2 hn
  have hs0:¬s= []:=fun e=>by rw[e] at hn;simp at hn
  have hlen:(s.drop 1).length=s.length-1:=dR
  have hpos:=cQ.2 hs0
  have hdg:digs s=s.drop 1:=by unfold digs;rw[aD hn,iT]
  have hN:nvN s≠0:=fun e=>h2 ⟨hn,e⟩
  simp only[nvN,nvR,nvD,hdg] at*
  rcases h3 with h3 | ⟨d1,d2,d3,d4,d5⟩
  ·skip
   rw[aD h3]
   exact ZRF
  skip
  have hR:¬List.drop (lead (List.drop 1 s)) (List.drop 1 s)= []:=fun e=>by rw[e] at d1;simp at d1
  have hRp:=cQ.2 hR
  have hb47:dT (List.drop (lead (List.drop 1 s)) (List.drop 1 s)) 0=47:=(qQ _ 47).2 d1
  rw[<- iT] at d2 d3 d4 d5
  have hg:((Int.gcd ((cD (List.take (lead (List.drop 1 s)) (List.drop 1 s)):Nat):Int) ((cD (List.take (lead (List.drop 1 (List.drop (lead (List.drop 1 s)) (List.drop 1 s)))) (List.drop 1 (List.drop (lead (List.drop 1 s)) (List.drop 1 s)))):Nat):Int):Nat):Int)=1:=by rw[kE,d5];rfl
  have hd9:=(qP d2).2
  rw[aC hR,<- iT]
  exact ZRF
 rw[aC hn]
 have hb0:¬dT s 0=45:=fun e=>hn (hb.1 e)
 have hs0:¬s= []:=fun e=>by rw[e] at h1;exact absurd h1.1 (by decide)
 have hpos:=cQ.2 hs0
 have hdg:digs s=s:=by unfold digs;rw[aC hn]
 simp only[nvN,nvR,nvD,hdg] at*
 rcases h3 with h3 | ⟨d1,d2,d3,d4,d5⟩
 ·skip
  rw[aD h3]
  exact ZRF
 skip
 have hR:¬List.drop (lead s) s= []:=fun e=>by rw[e] at d1;simp at d1
 have hRp:=cQ.2 hR
 have hb47:dT (List.drop (lead s) s) 0=47:=(qQ _ 47).2 d1
 rw[<- iT] at d2 d3 d4 d5
 have hg:((Int.gcd ((cD (List.take (lead s) s):Nat):Int) ((cD (List.take (lead (List.drop 1 (List.drop (lead s) s))) (List.drop 1 (List.drop (lead s) s))):Nat):Int):Nat):Int)=1:=by rw[kE,d5];rfl
 have hd9:=(qP d2).2
 rw[aC hR,<- iT]
 exact ZRF
theorem b68n (s:Bx) (h:¬nvOK s):body Tryz.prog [c104,c105] {} true Tryz.f143 [S s] (.tup [.agg [I 0,I 0],.val (.bool false)]):=by
 have hb:dT s 0=45↔s.headD 0=45:=qQ s 45
 unfold nvOK at h
 by_cases hn:s.headD 0=45
 ·have hb0:dT s 0=45:=hb.2 hn
  have hs0:¬s= []:=fun e=>by rw[e] at hn;simp at hn
  have hlen:(s.drop 1).length=s.length-1:=dR
  have hpos:=cQ.2 hs0
  have hdg:digs s=s.drop 1:=by unfold digs;rw[aD hn,iT]
  simp only[nvN,nvR,nvD,hdg,<- iT] at h
  (repeat' first|refine ZR ?_|refine Zg fun _=>?_)
  (apply Br.mk<;>intro)
  ·rename_i hk
   (repeat' first|refine ZR ?_|refine Zg fun _=>?_)
   (apply Br.mk<;>intro)
   ·rename_i hN
    exact ZF
   rename_i hN
   (apply Br.mk<;>intro)
   ·rename_i hR
    have hRp:=cQ.2 hR
    (repeat' first|refine ZG ?_|refine Zg fun _=>?_)
    (apply Br.mk<;>intro)
    ·rename_i hc
     exact ZF
    rename_i hc
    have hc:=(qQ _ 47).1 (bD.1 hc)
    (repeat refine ZG ?_)
    (apply Br.mk<;>intro)
    ·rename_i hk2
     (repeat'((conv=>whnf);first|refine Zg fun _=>?_|fail))
     (apply Br.mk<;>intro)
     ·rename_i he
      exact ZF
     rename_i he
     have he:=bD.1 he
     (apply Br.mk<;>intro)
     ·rename_i h2d
      exact ZF
     rename_i h2d
     (repeat refine ZG ?_)
     (apply Br.mk<;>intro)
     ·rename_i hg
      exact ZF
     rename_i hg
     exfalso
     have hg:=bD.1 hg
     rw[kE] at hg
     exact h ⟨hk,(fun hx=>hN (by omega)),.inr ⟨hc,hk2,he,by omega,by omega⟩⟩
    rename_i hk2
    exact ZF
   rename_i hR
   exfalso
   exact h ⟨hk,(fun hx=>hN (by omega)),.inl (bD.1 hR)⟩
  rename_i hk
  exact ZF
 have hb0:¬dT s 0=45:=fun e=>hn (hb.1 e)
 have hdg:digs s=s:=by unfold digs;rw[aC hn]
 simp only[nvN,nvR,nvD,hdg,<- iT] at h
 by_cases hs0:s= []
 ·subst hs0
  have hk:¬aCg []:=fun h=>absurd h.1 (by decide)
  exact ZRF
 have hpos:=cQ.2 hs0
 (repeat' first|refine ZR ?_|refine Zg fun _=>?_)
 (apply Br.mk<;>intro)
 ·rename_i hk
  (repeat' first|refine ZR ?_|refine Zg fun _=>?_)
  (apply Br.mk<;>intro)
  ·rename_i hR
   have hRp:=cQ.2 hR
   (repeat' first|refine ZG ?_|refine Zg fun _=>?_)
   (apply Br.mk<;>intro)
   ·rename_i hc
    exact ZF
   rename_i hc
   have hc:=(qQ _ 47).1 (bD.1 hc)
   (repeat refine ZG ?_)
   (apply Br.mk<;>intro)
   ·rename_i hk2
    (repeat'((conv=>whnf);first|refine Zg fun _=>?_|fail))
    (apply Br.mk<;>intro)
    ·rename_i he
     exact ZF
    rename_i he
    have he:=bD.1 he
    (apply Br.mk<;>intro)
    ·rename_i h2d
     exact ZF
    rename_i h2d
    (repeat refine ZG ?_)
    (apply Br.mk<;>intro)
    ·rename_i hg
     exact ZF
    rename_i hg
    exfalso
    have hg:=bD.1 hg
    rw[kE] at hg
    exact h ⟨hk,(fun hx=>hn hx.1),.inr ⟨hc,hk2,he,by omega,by omega⟩⟩
   rename_i hk2
   exact ZF
  rename_i hR
  exfalso
  exact h ⟨hk,(fun hx=>hn hx.1),.inl (bD.1 hR)⟩
 rename_i hk
 exact ZF
noncomputable instance (s:Bx):Decidable (nvOK s):=Cp
def fN (s:Bx):Prop:=s=numS (valQ s)/\(valQ s).num.natAbs<100000000/\(valQ s).den<100000000
def c68:Con:=bB 143 true fun args K=>match args with
 | [.str s]=>Br (nvOK s) (Giv (fN s) (K (.tup [.agg [I (valQ s).num,I (valQ s).den],.val (.bool true)]))) (K (.tup [.agg [I 0,I 0],.val (.bool false)]))
 | _=>False
theorem k68:aS Tryz.prog c68:=by
 refine kO Tryz.func143 fun args K h=>?_
 simp only[c68] at h;split at h
 ·rename_i s
  by_cases hf:nvOK s
  ·obtain ⟨v1,v2,v3,v4,v5⟩:=iX hf
   refine ⟨_,(h.yes hf).go ⟨v1,v4,v5⟩,?_⟩
   rw[v2,v3]
   exact triB Tryz.func143 Tryz.ntmps143 (by simp[k104,k105]) (b68y s hf)
  exact ⟨_,h.no hf,triB Tryz.func143 Tryz.ntmps143 (by simp[k104,k105]) (b68n s hf)⟩
 exact h.elim
theorem vY (n:Nat):itoa (n:Int)=decDigits n:=by
 unfold itoa
 rw[aC (by omega),aP]
theorem aL5 {g d k:Nat} (h:g<=d) (hd:(decDigits d).length<=k+1):(decDigits g).length<=k+1:=by
 have h2:=rH (decDigits d) (uH _)
 rw[kZ] at h2
 exact nO k g (bJ (cP h h2) (cL (by omega) hd))
theorem aFl {s:Bx} (h:rV s):bot1 s=decDigits (denS s)/\1<=denS s/\(300<(bot1 s).length↔300<(botS s).tail.length):=by
 unfold bot1
 rcases h.2 with h | ⟨h1,h2⟩
 ·have hd:denS s=1:=by unfold denS;rw[aD h]
  rw[aD h,hd,h]
  exact ⟨(iL (show 1<10 by omega)).symm,aM _,by simp⟩
 have hb:botS s≠ []:=fun e=>by
  have hd:denS s=1:=by unfold denS;rw[aD e]
  omega
 rw[aC hb]
 exact ⟨h1,by omega,lH⟩
theorem aFm {s:Bx} (h:s=numS (valQ s)) (h1:(digs (topS s)).length<=300) (h2:(botS s).tail.length<=300):chkQ s=0:=by
 have hf:rV s:=by rw[h];exact yU _
 have hg:(valI (topS s)).natAbs.gcd (denS s)=1:=by rw[h];exact aJf _
 unfold chkQ
 rw[aD hf,aC (by omega),aD hg]
theorem aHi {n:Nat} (h:n<100000000):(decDigits n).length<=8:=nO 7 n (by simpa using h)
theorem qR {s:Bx} (h:fN s):chkQ s=0:=by
 obtain ⟨h1,h2,h3⟩:=h
 refine aFm h1 ?_ ?_
 ·rw[h1,rI,gM]
  have:=aHi h2
  omega
 rw[h1,vW]
 split
 ·simp
 have:=aHi h3
 simp;omega
theorem aBs {s:Bx} (h:s=numS (valQ s)):topS s=itoa (valQ s).num/\bot1 s=decDigits (valQ s).den:=by
 have hf:rV s:=by rw[h];exact yU _
 have e:=(aFl hf).1
 have ed:denS s=(valQ s).den:=(aO denS h).trans (aAe _)
 rw[ed] at e
 exact ⟨(aO topS h).trans (rI _),e⟩
theorem aP7 {d:Nat} (h:(decDigits d).length<=300):form (decDigits d)/\chkI (decDigits d)=0/\valI (decDigits d)=d:=by
 rw[<- vY]
 refine ⟨oM _,?_,dP _⟩
 rw[wD (oM _),aC]
 rw[gM]
 simpa using h
noncomputable def rdV (s:Bx):SV:=if chkQ s=0 then .tup [.agg [S (itoa (valQ s).num),S (decDigits (valQ s).den)],I 0] else .tup [.agg [S [],S []],I (chkQ s)]
theorem b46 (s:Bx):body Tryz.prog [c87,c68,c88,c89] {} true Tryz.f115 [S s] (rdV s):=by
 (apply Br.mk<;>intro)
 ·rename_i hf
  obtain ⟨hb1,hb2,hb3⟩:=aFl hf
  (apply Br.mk<;>intro)
  ·rename_i hn
   refine Giv.mk fun hs=>?_
   have h0:=qR hs
   obtain ⟨p1,p2⟩:=aBs hs.1
   unfold rdV
   rw[aD h0,<- p1,<- p2]
   exact ZF
  rename_i hn
  have hq:chkQ s=if 300<(digs (topS s)).length\/300<(bot1 s).length then 4 else if (valI (topS s)).natAbs.gcd (denS s)=1 then 0 else 11:=by
   unfold chkQ
   rw[aD hf]
   simp only[hb3]
  have hnum:(valI (topS s)).natAbs.gcd (denS s)=1->topS s=itoa (valQ s).num/\bot1 s=decDigits (valQ s).den:=fun hg=>aBs (aPt hf hg)
  (repeat' first|refine ZG ?_|refine Zg fun _=>?_)
  (apply Br.mk<;>intro)
  ·rename_i hl
   have h4:chkQ s=4:=by rw[hq,aD (.inl (by omega))]
   unfold rdV
   rw[aC (by omega),h4]
   exact ZF
  rename_i hl
  (repeat'((conv=>whnf);first|refine Zg fun _=>?_|fail))
  (apply Br.mk<;>intro)
  ·rename_i hl2
   have h4:chkQ s=4:=by rw[hq,aD (.inr (by omega))]
   unfold rdV
   rw[aC (by omega),h4]
   exact ZF
  rename_i hl2
  rw[aC (by omega)] at hq
  (apply Br.mk<;>intro)
  ·rename_i h1
   have hd:denS s=1:=by
    rw[hb1] at h1
    have:=aO cD h1
    rw[kZ] at this
    exact this
   have hg:(valI (topS s)).natAbs.gcd (denS s)=1:=by rw[hd];exact Nat.gcd_one_right _
   obtain ⟨p1,p2⟩:=hnum hg
   rw[aD hg] at hq
   unfold rdV
   rw[aD hq,<- p1,<- p2]
   exact ZF
  rename_i h1
  obtain ⟨d1,d2,d3⟩:=aP7 (d:=denS s) (by rw[<- hb1];omega)
  have hct:chkI (topS s)=0:=by rw[wD hf.1,aC (by omega)]
  have hb:mB (topS s) (bot1 s) (resI (Int.gcd (valI (topS s)) (valI (bot1 s))))=(decDigits ((valI (topS s)).natAbs.gcd (denS s)),0):=by
   unfold mB chk2
   rw[hb1,hct,d2,d3,aC (by simp),show Int.gcd (valI (topS s)) (denS s:Int)=(valI (topS s)).natAbs.gcd (denS s) by unfold Int.gcd;simp]
   unfold resI lim
   rw[aC]
   ·rw[vY]
   have h3:(valI (topS s)).natAbs.gcd (denS s)<=denS s:=oT _ (by omega)
   have h4:(decDigits (denS s)).length<=300:=by rw[<- hb1];omega
   have h5:=aL5 h3 (k:=299) h4
   simpa using h5
  have z1:=aO Prod.fst hb
  have z2:(mB (topS s) (bot1 s) (resI (Int.gcd (valI (topS s)) (valI (bot1 s))))).2=0:=aO Prod.snd hb
  (repeat refine ZR ?_)
  (apply Br.mk<;>intro)
  ·rename_i hg
   rw[z1] at hg
   have hg1:(valI (topS s)).natAbs.gcd (denS s)≠1:=fun e=>hg (by rw[e];exact iL (show 1<10 by omega))
   rw[aC hg1] at hq
   unfold rdV
   rw[aC (by omega),hq]
   exact ZF
  rename_i hg
  have hg:=bD.1 hg
  rw[z1] at hg
  have hg1:(valI (topS s)).natAbs.gcd (denS s)=1:=by
   have:=aO cD hg
   rw[kZ] at this
   exact this
  obtain ⟨p1,p2⟩:=hnum hg1
  rw[aD hg1] at hq
  unfold rdV
  rw[aD hq,<- p1,<- p2]
  exact ZF
 rename_i hf
 have h11:chkQ s=11:=by unfold chkQ;rw[aC hf]
 unfold rdV
 rw[aC (by omega),h11]
 exact ZF
def aVg (s:Bx):Prop:=s=numS (valQ s)/\(decDigits (valQ s).num.natAbs).length<=300/\(decDigits (valQ s).den).length<=300
theorem jX {s:Bx} (h:chkQ s=0):aVg s:=by
 obtain ⟨h1,h2,h3⟩:=aCv h
 have hf:rV s:=by rw[h1];exact yU _
 obtain ⟨p1,p2⟩:=aBs h1
 refine ⟨h1,?_,?_⟩
 ·rw[p1,gM] at h2;exact h2
 have:=(aFl hf).2.2
 rw[p2] at this
 omega
def c46:Con:=bB 115 true fun args K=>match args with
 | [.str s]=>Br (chkQ s=0) (Giv (aVg s) (K (.tup [.agg [S (itoa (valQ s).num),S (decDigits (valQ s).den)],I 0]))) (K (.tup [.agg [S [],S []],I (chkQ s)]))
 | _=>False
theorem k46:aS Tryz.prog c46:=by
 refine kO Tryz.func115 fun args K h=>?_
 simp only[c46] at h;split at h
 ·rename_i s
  have ht:=aCb (r:=rdV s) (Γ:=[c87,c68,c88,c89]) (by simp[k87,k68,k88,k89]) Tryz.func115 (by simp[Tryz.ntmps115]) (by unfold rdV;split<;>rfl) (b46 s)
  unfold rdV at ht
  by_cases hf:chkQ s=0
  ·rw[aD hf] at ht
   exact ⟨_,(h.yes hf).go (jX hf),ht⟩
  rw[aC hf] at ht
  exact ⟨_,h.no hf,by
   cases hc:chkQ s with
   | _=>exact hc ▸ ht⟩
 exact h.elim
theorem eS {x:Int} (h:lim x=false):chkI (itoa x)=0:=by
 rw[wD (oM x),gM,aC]
 unfold lim at h
 simpa using h
theorem aL6 {x:Int} (h:chkI (itoa x)=0):lim x=false:=by
 rw[wD (oM x),gM] at h
 unfold lim
 split at h
 ·cases h
 rename_i hn
 exact decide_eq_false hn
theorem aP8 (x:Int):lim (-x)=lim x:=by unfold lim;rw[Int.natAbs_neg]
theorem vZ {x y:Int} (h:x.natAbs<=y.natAbs) (hy:lim y=false):lim x=false:=by
 unfold lim at hy ⊢
 have hy:(decDigits y.natAbs).length<=299+1:=by simpa using hy
 have:=aL5 h hy
 simpa using this
theorem oY {x:Int} (h:lim x=false):(itoa x).length<=301:=by
 have h1:=(aFp (itoa x)).2
 rw[gM] at h1
 unfold lim at h
 have h:(decDigits x.natAbs).length<=300:=by simpa using h
 omega
theorem aL7 {x y:Int} (hx:lim x=false) (hy:lim y=false) (h0:y≠0):mB (itoa x) (itoa y) (resI (Int.gcd (valI (itoa x)) (valI (itoa y))))=(itoa (Int.gcd x y),0):=by
 unfold mB chk2
 rw[eS hx,eS hy,aC (by simp),dP,dP]
 unfold resI
 have hg:lim ((Int.gcd x y:Nat):Int)=false:=by
  refine vZ (y:=y) ?_ hy
  rw[dZ]
  exact oT _ (by omega)
 rw[hg];rfl
theorem aCy {x y:Int} (hx:lim x=false) (hy:lim y=false) (h0:0<y) (hd:y ∣ x):divI (itoa x) (itoa y)=(itoa (x/y),itoa 0,0):=by
 unfold divI chk2
 rw[eS hx,eS hy,aC (by simp),aC (fun e=>by
  have:=rK (e.trans itoa_zero.symm);omega),dP,dP]
 have e1:x.fdiv y=x/y:=Int.fdiv_eq_ediv_of_nonneg _ (by omega)
 have e2:x.fmod y=0:=Int.fmod_eq_zero_of_dvd hd
 unfold dvI
 rw[e1,e2]
 have l1:lim (x/y)=false:=vZ (y:=x) (by
  obtain ⟨k,rfl⟩:=hd
  rw[dE _ (by omega),dH]
  exact dL _ (by omega)) hx
 have l2:lim 0=false:=by
  unfold lim
  rw[show (0:Int).natAbs=0 from rfl,iL (by omega)];rfl
 rw[l1,l2];rfl
theorem aJk {x y:Int} (h0:0<y):numS (mkRat x y.toNat)=if itoa (y/(Int.gcd x y:Nat))= [49] then itoa (x/(Int.gcd x y:Nat)) else itoa (x/(Int.gcd x y:Nat))++47::itoa (y/(Int.gcd x y:Nat)):=by
 obtain ⟨d,rfl⟩:=bM (dQ h0)
 have hg:Int.gcd x (d:Int)=d.gcd x.natAbs:=by unfold Int.gcd;rw[dZ,qI]
 rw[aP,aWn _ _ (by omega),hg,<- oS,vY]
 have e1:decDigits (d/d.gcd x.natAbs)= [49]↔d/d.gcd x.natAbs=1:=by
  constructor
  ·intro h
   have:=aO cD h
   rw[kZ] at this
   exact this
  intro h;rw[h];exact iL (show 1<10 by omega)
 by_cases h:d/d.gcd x.natAbs=1
 ·rw[aD h,aD (e1.2 h)]
 rw[aC h,aC (fun hx=>h (e1.1 hx))]
theorem itoa_one:itoa 1= [49]:=by
 rw[show (1:Int)=((1:Nat):Int) from rfl,vY];exact iL (show 1<10 by omega)
theorem b52p (x y:Int) (hx:lim x=false) (hy:lim y=false) (h0:0<y):body Tryz.prog [c91,c92,c89,c69] {} true Tryz.f199 [S (itoa x),S (itoa y)] (.tup [S (numS (mkRat x y.toNat)),I 0]):=by
 have hh:=oL y
 have hneg:¬(itoa y).headD 0=45:=fun e=>by have:=hh.1 e;omega
 have hb:=aL7 hx hy (by omega)
 have z1:(mB (itoa x) (itoa y) (resI (Int.gcd (valI (itoa x)) (valI (itoa y))))).1=itoa (Int.gcd x y):=aO Prod.fst hb
 have z2:(mB (itoa x) (itoa y) (resI (Int.gcd (valI (itoa x)) (valI (itoa y))))).2=0:=aO Prod.snd hb
 have lx:=oY hx
 have ly:=oY hy
 have hm:=aJk (x:=x) h0
 obtain ⟨g,hg⟩:∃g,Int.gcd x y=g:=⟨_,rfl⟩
 have gx:(g:Int) ∣ x:=by rw[<- hg];exact oU _ _
 have gy:(g:Int) ∣ y:=by rw[<- hg];exact nX _ _
 have gp:0<g:=by rw[<- hg];exact iH _ (by omega)
 rw[hg] at z1 hm
 rw[hm]
 have lg:lim (g:Int)=false:=vZ (y:=y) (by rw[dZ,<- hg];exact oT _ (by omega)) hy
 have dx:=aCy hx lg (by omega) gx
 have dy:=aCy hy lg (by omega) gy
 have q1:(divI (itoa x) (itoa g)).1=itoa (x/g):=by rw[dx]
 have q2:(divI (itoa y) (itoa g)).1=itoa (y/g):=by rw[dy]
 (repeat refine ZR ?_)
 (apply Br.mk<;>intro)
 ·rename_i h1
  rw[z1,<- q1,<- q2]
  have l1:lim (x/g)=false:=vZ (y:=x) (by
   obtain ⟨k,rfl⟩:=gx
   rw[dE _ (by omega),dH]
   exact dL _ (by omega)) hx
  have l2:lim (y/g)=false:=vZ (y:=y) (by
   obtain ⟨k,rfl⟩:=gy
   rw[dE _ (by omega),dH]
   exact dL _ (by omega)) hy
  have m1:(divI (itoa x) (itoa g)).1.length<=301:=by rw[q1];exact oY l1
  have m2:(divI (itoa y) (itoa g)).1.length<=301:=by rw[q2];exact oY l2
  (apply Br.mk<;>intro)
  ·rename_i h2
   rw[aD h2]
   exact ZF
  rename_i h2
  rw[aC h2]
  (repeat refine ZG ?_)
  (conv=>whnf)
  (repeat' first|exact trivial|rfl|apply aA)
  exact bZ _ [47] _
 rename_i h1
 have h1:=bD.1 h1
 rw[z1] at h1
 have hg1:(g:Int)=1:=rK (h1.trans itoa_one.symm)
 rw[hg1,uR,uR]
 (apply Br.mk<;>intro)
 ·rename_i h2
  rw[aD h2]
  exact ZF
 rename_i h2
 rw[aC h2]
 (repeat refine ZG ?_)
 (conv=>whnf)
 (repeat' first|exact trivial|rfl|apply aA)
 exact bZ _ [47] _
theorem b52n (x0 y0:Int) (hx0:lim x0=false) (hy0:lim y0=false) (h00:y0<0):body Tryz.prog [c91,c92,c89,c69] {} true Tryz.f199 [S (itoa x0),S (itoa y0)] (.tup [S (numS (mkRat (-x0) (-y0).toNat)),I 0]):=by
 have hh:=oL y0
 have hneg:(itoa y0).headD 0=45:=hh.2 h00
 have lx0:=oY hx0
 have ly0:=oY hy0
 obtain ⟨x,ex⟩:∃x, -x0=x:=⟨_,rfl⟩
 obtain ⟨y,ey⟩:∃y, -y0=y:=⟨_,rfl⟩
 have hx:lim x=false:=by rw[<- ex,aP8];exact hx0
 have hy:lim y=false:=by rw[<- ey,aP8];exact hy0
 have h0:0<y:=by omega
 rw[ex,ey]
 have hb:=aL7 hx hy (by omega)
 have z1:(mB (itoa x) (itoa y) (resI (Int.gcd (valI (itoa x)) (valI (itoa y))))).1=itoa (Int.gcd x y):=aO Prod.fst hb
 have z2:(mB (itoa x) (itoa y) (resI (Int.gcd (valI (itoa x)) (valI (itoa y))))).2=0:=aO Prod.snd hb
 have lx:=oY hx
 have ly:=oY hy
 have hm:=aJk (x:=x) h0
 obtain ⟨g,hg⟩:∃g,Int.gcd x y=g:=⟨_,rfl⟩
 have gx:(g:Int) ∣ x:=by rw[<- hg];exact oU _ _
 have gy:(g:Int) ∣ y:=by rw[<- hg];exact nX _ _
 have gp:0<g:=by rw[<- hg];exact iH _ (by omega)
 rw[hg] at z1 hm
 rw[hm]
 have lg:lim (g:Int)=false:=vZ (y:=y) (by rw[dZ,<- hg];exact oT _ (by omega)) hy
 have dx:=aCy hx lg (by omega) gx
 have dy:=aCy hy lg (by omega) gy
 have q1:(divI (itoa x) (itoa g)).1=itoa (x/g):=by rw[dx]
 have q2:(divI (itoa y) (itoa g)).1=itoa (y/g):=by rw[dy]
 (repeat'((conv=>whnf);first|refine Zn ?_|refine Zy ?_|fail))
 refine Need.mk ⟨oM _,by omega⟩ ?_
 rw[dP,ex]
 refine Need.mk ⟨oM _,by omega⟩ ?_
 rw[dP,ey]
 (repeat refine ZR ?_)
 (apply Br.mk<;>intro)
 ·rename_i h1
  rw[z1,<- q1,<- q2]
  have l1:lim (x/g)=false:=vZ (y:=x) (by
   obtain ⟨k,rfl⟩:=gx
   rw[dE _ (by omega),dH]
   exact dL _ (by omega)) hx
  have l2:lim (y/g)=false:=vZ (y:=y) (by
   obtain ⟨k,rfl⟩:=gy
   rw[dE _ (by omega),dH]
   exact dL _ (by omega)) hy
  have m1:(divI (itoa x) (itoa g)).1.length<=301:=by rw[q1];exact oY l1
  have m2:(divI (itoa y) (itoa g)).1.length<=301:=by rw[q2];exact oY l2
  (apply Br.mk<;>intro)
  ·rename_i h2
   rw[aD h2]
   exact ZF
  rename_i h2
  rw[aC h2]
  (repeat refine ZG ?_)
  (conv=>whnf)
  (repeat' first|exact trivial|rfl|apply aA)
  exact bZ _ [47] _
 rename_i h1
 have h1:=bD.1 h1
 rw[z1] at h1
 have hg1:(g:Int)=1:=rK (h1.trans itoa_one.symm)
 rw[hg1,uR,uR]
 (apply Br.mk<;>intro)
 ·rename_i h2
  rw[aD h2]
  exact ZF
 rename_i h2
 rw[aC h2]
 (repeat refine ZG ?_)
 (conv=>whnf)
 (repeat' first|exact trivial|rfl|apply aA)
 exact bZ _ [47] _
noncomputable def numQ (a b:Bx):Bx:=numS (Rat.divInt (valI a) (valI b))
def c52:Con:=bB 199 true fun args K=>match args with
 | [.str a,.str b]=>Need (chkI a=0/\chkI b=0/\valI b≠0) (K (.tup [S (numQ a b),I 0]))
 | _=>False
theorem k52:aS Tryz.prog c52:=by
 refine kO Tryz.func199 fun args K h=>?_
 simp only[c52] at h;split at h
 ·rename_i a b
  obtain ⟨⟨h1,h2,h3⟩,h⟩:=h
  refine ⟨_,h,?_⟩
  have ea:=aAd (iY h1).1
  have eb:=aAd (iY h2).1
  have la:lim (valI a)=false:=aL6 (by rw[<- ea];exact h1)
  have lb:lim (valI b)=false:=aL6 (by rw[<- eb];exact h2)
  unfold numQ
  rcases nB h3 with hn | hp
  ·have:=triB Tryz.func199 Tryz.ntmps199 (by simp[k91,k92,k89,k69]) (b52n (valI a) (valI b) la lb hn)
   rw[<- ea,<- eb] at this
   rw[yV _ _ hn]
   exact this
  have:=triB Tryz.func199 Tryz.ntmps199 (by simp[k91,k92,k89,k69]) (b52p (valI a) (valI b) la lb hp)
  rw[<- ea,<- eb] at this
  rw[oN _ _ hp]
  exact this
 exact h.elim
theorem aAm {x:Int} (h:x.natAbs<1000000000000000000):(itoa x).length<=19:=by
 unfold itoa
 have h1:=nO 17 x.natAbs (by simpa using h)
 split
 ·simp only[cW];omega
 rename_i hx
 rw[show x.toNat=x.natAbs by omega];omega
theorem b90p (x y:Int) (hx:x.natAbs<1000000000000000000) (hy:y.natAbs<1000000000000000000) (h0:0<y):body Tryz.prog [c105,c61] {} true Tryz.f248 [.agg [I x,I y]] (S (numS (mkRat x y.toNat))):=by
 have hm:=aJk (x:=x) h0
 obtain ⟨g,hg⟩:∃g,Int.gcd x y=g:=⟨_,rfl⟩
 have gx:(g:Int) ∣ x:=by rw[<- hg];exact oU _ _
 have gy:(g:Int) ∣ y:=by rw[<- hg];exact nX _ _
 have gp:0<g:=by rw[<- hg];exact iH _ (by omega)
 have hgm:Int.gcd (max x (-x)) y=g:=by
  rw[<- hg];unfold Int.gcd
  rw[show (max x (-x)).natAbs=x.natAbs by omega]
 rw[hg] at hm
 rw[hm]
 have t1:x.tdiv g=x/g:=kF gx
 have t2:y.tdiv g=y/g:=kF gy
 have b1:(x/g).natAbs<=x.natAbs:=by
  obtain ⟨k,rfl⟩:=gx
  rw[dE _ (by omega),dH]
  exact dL _ (by omega)
 have b2:(y/g).natAbs<=y.natAbs:=by
  obtain ⟨k,rfl⟩:=gy
  rw[dE _ (by omega),dH]
  exact dL _ (by omega)
 have m1:=aAm (x:=x/g) (by omega)
 have m2:=aAm (x:=y/g) (by omega)
 (repeat'((conv=>whnf);first|refine Zb ?_|refine Zn ?_|apply pI|apply pJ|refine Zm ?_|fail))
 rw[hgm]
 (repeat'((conv=>whnf);first|refine Za ?_|refine Zn ?_|apply pI|apply pJ|fail))
 rw[<- t1]
 rw[<- t1] at m1
 (apply Br.mk<;>intro)
 ·rename_i h1
  rw[aD (by rw[h1];exact itoa_one)]
  (conv=>whnf)
 rename_i h1
 rw[aC (fun e=>h1 (rK (e.trans itoa_one.symm)))]
 (repeat refine ZR ?_)
 (conv=>whnf)
 exact bZ _ [47] _
theorem b90n (x0 y0:Int) (hx0:x0.natAbs<1000000000000000000) (hy0:y0.natAbs<1000000000000000000) (h00:y0<0):body Tryz.prog [c105,c61] {} true Tryz.f248 [.agg [I x0,I y0]] (S (numS (mkRat (-x0) (-y0).toNat))):=by
 obtain ⟨x,ex⟩:∃x, -x0=x:=⟨_,rfl⟩
 obtain ⟨y,ey⟩:∃y, -y0=y:=⟨_,rfl⟩
 have hx:x.natAbs<1000000000000000000:=by omega
 have hy:y.natAbs<1000000000000000000:=by omega
 have h0:0<y:=by omega
 rw[ex,ey]
 have hm:=aJk (x:=x) h0
 obtain ⟨g,hg⟩:∃g,Int.gcd x y=g:=⟨_,rfl⟩
 have gx:(g:Int) ∣ x:=by rw[<- hg];exact oU _ _
 have gy:(g:Int) ∣ y:=by rw[<- hg];exact nX _ _
 have gp:0<g:=by rw[<- hg];exact iH _ (by omega)
 have hgm:Int.gcd (max x (-x)) y=g:=by
  rw[<- hg];unfold Int.gcd
  rw[show (max x (-x)).natAbs=x.natAbs by omega]
 rw[hg] at hm
 rw[hm]
 have t1:x.tdiv g=x/g:=kF gx
 have t2:y.tdiv g=y/g:=kF gy
 have b1:(x/g).natAbs<=x.natAbs:=by
  obtain ⟨k,rfl⟩:=gx
  rw[dE _ (by omega),dH]
  exact dL _ (by omega)
 have b2:(y/g).natAbs<=y.natAbs:=by
  obtain ⟨k,rfl⟩:=gy
  rw[dE _ (by omega),dH]
  exact dL _ (by omega)
 have m1:=aAm (x:=x/g) (by omega)
 have m2:=aAm (x:=y/g) (by omega)
 (repeat'((conv=>whnf);first|refine Zn ?_|apply pI|apply pJ|refine .r ?_|refine Zy ?_|fail))
 rw[ex,ey,hgm]
 (repeat'((conv=>whnf);first|refine Za ?_|refine Zn ?_|apply pI|apply pJ|fail))
 rw[<- t1]
 rw[<- t1] at m1
 (apply Br.mk<;>intro)
 ·rename_i h1
  rw[aD (by rw[h1];exact itoa_one)]
  (conv=>whnf)
 rename_i h1
 rw[aC (fun e=>h1 (rK (e.trans itoa_one.symm)))]
 (repeat refine ZR ?_)
 (conv=>whnf)
 exact bZ _ [47] _
def c90:Con:=bB 248 true fun args K=>match args with
 | [.agg [.val (.int .i64 x),.val (.int .i64 y)]]=>Need (x.natAbs<1000000000000000000/\y.natAbs<1000000000000000000/\y≠0) (K (S (numS (Rat.divInt x y))))
 | _=>False
theorem k90:aS Tryz.prog c90:=by
 refine kO Tryz.func248 fun args K h=>?_
 simp only[c90] at h;split at h
 ·rename_i x y
  obtain ⟨⟨h1,h2,h3⟩,h⟩:=h
  refine ⟨_,h,?_⟩
  rcases nB h3 with hn | hp
  ·rw[yV _ _ hn]
   exact triB Tryz.func248 Tryz.ntmps248 (by simp[k105,k61]) (b90n x y h1 h2 hn)
  rw[oN _ _ hp]
  exact triB Tryz.func248 Tryz.ntmps248 (by simp[k105,k61]) (b90p x y h1 h2 hp)
 exact h.elim
theorem mul8 {a b:Int} (ha:a.natAbs<100000000) (hb:b.natAbs<100000000): -10000000000000000<a*b/\a*b<10000000000000000:=by
 have h:=eW ha hb
 rw[<- dH] at h
 omega
abbrev n8 (a b c d:Int):Prop:=a.natAbs<100000000/\b.natAbs<100000000/\c.natAbs<100000000/\d.natAbs<100000000
def c53:Con:=bB 252 true fun args K=>match args with | [.agg [.val (.int .i64 a),.val (.int .i64 b)],.agg [.val (.int .i64 c),.val (.int .i64 d)]]=>Need (n8 a b c d) (K (.agg [I (a*d+c*b),I (b*d)])) | _=>False
theorem k53:aS Tryz.prog c53:=by
 refine kQ {} Tryz.func252 Tryz.ntmps252 kn fun _ _ h=>?_
 split at h
 case h_2=>exact h.elim
 refine kb h.go ?_
 replace h:=h.ok
 obtain ⟨h1,h2,h3,h4⟩:=h
 have m1:=mul8 h1 h4
 have m2:=mul8 h3 h2
 have m3:=mul8 h2 h4
 have m4:=mul8 h1 h3
 have m5:=mul8 h2 h3
 exact ZRF
def c59:Con:=bB 242 true fun args K=>match args with | [.agg [.val (.int .i64 a),.val (.int .i64 b)],.agg [.val (.int .i64 c),.val (.int .i64 d)]]=>Need (n8 a b c d) (K (.agg [I (a*d-c*b),I (b*d)])) | _=>False
theorem k59:aS Tryz.prog c59:=by
 refine kQ {} Tryz.func242 Tryz.ntmps242 kn fun _ _ h=>?_
 split at h
 case h_2=>exact h.elim
 refine kb h.go ?_
 replace h:=h.ok
 obtain ⟨h1,h2,h3,h4⟩:=h
 have m1:=mul8 h1 h4
 have m2:=mul8 h3 h2
 have m3:=mul8 h2 h4
 have m4:=mul8 h1 h3
 have m5:=mul8 h2 h3
 exact ZRF
def c56:Con:=bB 245 true fun args K=>match args with | [.agg [.val (.int .i64 a),.val (.int .i64 b)],.agg [.val (.int .i64 c),.val (.int .i64 d)]]=>Need (n8 a b c d) (K (.agg [I (a*c),I (b*d)])) | _=>False
theorem k56:aS Tryz.prog c56:=by
 refine kQ {} Tryz.func245 Tryz.ntmps245 kn fun _ _ h=>?_
 split at h
 case h_2=>exact h.elim
 refine kb h.go ?_
 replace h:=h.ok
 obtain ⟨h1,h2,h3,h4⟩:=h
 have m1:=mul8 h1 h4
 have m2:=mul8 h3 h2
 have m3:=mul8 h2 h4
 have m4:=mul8 h1 h3
 have m5:=mul8 h2 h3
 exact ZRF
def c48:Con:=bB 195 true fun args K=>match args with | [.agg [.val (.int .i64 a),.val (.int .i64 b)],.agg [.val (.int .i64 c),.val (.int .i64 d)]]=>Need (n8 a b c d) (K (.agg [I (a*d),I (b*c)])) | _=>False
theorem k48:aS Tryz.prog c48:=by
 refine kQ {} Tryz.func195 Tryz.ntmps195 kn fun _ _ h=>?_
 split at h
 case h_2=>exact h.elim
 refine kb h.go ?_
 replace h:=h.ok
 obtain ⟨h1,h2,h3,h4⟩:=h
 have m1:=mul8 h1 h4
 have m2:=mul8 h3 h2
 have m3:=mul8 h2 h4
 have m4:=mul8 h1 h3
 have m5:=mul8 h2 h3
 exact ZRF
theorem fE {s:Bx} (h:fN s):(valQ s).num.natAbs<100000000/\((valQ s).den:Int).natAbs<100000000/\0<((valQ s).den:Int):=by
 have:=(valQ s).den_pos
 exact ⟨h.2.1,by rw[dZ];exact h.2.2,by omega⟩
theorem aHj (p q:Rat):Rat.divInt (p.num*q.den+q.num*p.den) (p.den*q.den)=p+q:=by
 rw[aG7,oN _ _ (mE (by have:=p.den_pos;omega) (by have:=q.den_pos;omega))];rfl
theorem aHk (p q:Rat):Rat.divInt (p.num*q.den-q.num*p.den) (p.den*q.den)=p-q:=by
 rw[aBj,oN _ _ (mE (by have:=p.den_pos;omega) (by have:=q.den_pos;omega))];rfl
theorem aHl (p q:Rat):Rat.divInt (p.num*q.num) (p.den*q.den)=p*q:=by
 rw[aG8,oN _ _ (mE (by have:=p.den_pos;omega) (by have:=q.den_pos;omega))];rfl
theorem aHm (p q:Rat) (hq:q≠0):Rat.divInt (p.num*q.den) (p.den*q.num)=p/q:=(aG9 p q hq).symm
def nv2 (a b:Bx):Prop:=nvOK a/\nvOK b
theorem aW4 (a b:Bx) (h:nv2 a b) (ha:fN a) (hb:fN b):body Tryz.prog [c68,c53,c90] {} true Tryz.f194 [S a,S b,.clo 252 [] []] (.tup [S (numS (valQ a+valQ b)),.val (.bool true)]):=by
 obtain ⟨na,nb⟩:=h
 obtain ⟨p1,p2,p3⟩:=fE ha
 obtain ⟨q1,q2,q3⟩:=fE hb
 have m1:=mul8 p1 q2
 have m2:=mul8 q1 p2
 have m4:=mul8 p1 q1
 have m3:=mul8 p2 q2
 rw[<- aHj (valQ a) (valQ b)]
 exact ZRF
theorem aW5 (a b:Bx) (h:¬nv2 a b):body Tryz.prog [c68,c53,c90] {} true Tryz.f194 [S a,S b,.clo 252 [] []] (.tup [S [],.val (.bool false)]):=by
 by_cases na:nvOK a
 ·have nb:¬nvOK b:=fun e=>h ⟨na,e⟩
  exact ZRF
 exact ZRF
def q53:Con:=bB 194 true fun args K=>match args with
 | [.str a,.str b,.clo 252 [] []]=>Br (nv2 a b) (Giv (fN a/\fN b) (K (.tup [S (numS (valQ a+valQ b)),.val (.bool true)]))) (K (.tup [S [],.val (.bool false)]))
 | _=>False
theorem kq53:aS Tryz.prog q53:=by
 refine kO Tryz.func194 fun args K h=>?_
 simp only[q53] at h;split at h
 ·rename_i a b
  by_cases hf:nv2 a b
  ·obtain ⟨v1,_,_,v2,v3⟩:=iX hf.1
   obtain ⟨w1,_,_,w2,w3⟩:=iX hf.2
   exact ⟨_,(h.yes hf).go ⟨⟨v1,v2,v3⟩,w1,w2,w3⟩,triB Tryz.func194 Tryz.ntmps194 (by simp[k68,k53,k90]) (aW4 a b hf ⟨v1,v2,v3⟩ ⟨w1,w2,w3⟩)⟩
  exact ⟨_,h.no hf,triB Tryz.func194 Tryz.ntmps194 (by simp[k68,k53,k90]) (aW5 a b hf)⟩
 exact h.elim
theorem aW6 (a b:Bx) (h:nv2 a b) (ha:fN a) (hb:fN b):body Tryz.prog [c68,c59,c90] {} true Tryz.f194 [S a,S b,.clo 242 [] []] (.tup [S (numS (valQ a-valQ b)),.val (.bool true)]):=by
 obtain ⟨na,nb⟩:=h
 obtain ⟨p1,p2,p3⟩:=fE ha
 obtain ⟨q1,q2,q3⟩:=fE hb
 have m1:=mul8 p1 q2
 have m2:=mul8 q1 p2
 have m4:=mul8 p1 q1
 have m3:=mul8 p2 q2
 rw[<- aHk (valQ a) (valQ b)]
 exact ZRF
theorem aW7 (a b:Bx) (h:¬nv2 a b):body Tryz.prog [c68,c59,c90] {} true Tryz.f194 [S a,S b,.clo 242 [] []] (.tup [S [],.val (.bool false)]):=by
 by_cases na:nvOK a
 ·have nb:¬nvOK b:=fun e=>h ⟨na,e⟩
  exact ZRF
 exact ZRF
def q59:Con:=bB 194 true fun args K=>match args with
 | [.str a,.str b,.clo 242 [] []]=>Br (nv2 a b) (Giv (fN a/\fN b) (K (.tup [S (numS (valQ a-valQ b)),.val (.bool true)]))) (K (.tup [S [],.val (.bool false)]))
 | _=>False
theorem kq59:aS Tryz.prog q59:=by
 refine kO Tryz.func194 fun args K h=>?_
 simp only[q59] at h;split at h
 ·rename_i a b
  by_cases hf:nv2 a b
  ·obtain ⟨v1,_,_,v2,v3⟩:=iX hf.1
   obtain ⟨w1,_,_,w2,w3⟩:=iX hf.2
   exact ⟨_,(h.yes hf).go ⟨⟨v1,v2,v3⟩,w1,w2,w3⟩,triB Tryz.func194 Tryz.ntmps194 (by simp[k68,k59,k90]) (aW6 a b hf ⟨v1,v2,v3⟩ ⟨w1,w2,w3⟩)⟩
  exact ⟨_,h.no hf,triB Tryz.func194 Tryz.ntmps194 (by simp[k68,k59,k90]) (aW7 a b hf)⟩
 exact h.elim
theorem aW8 (a b:Bx) (h:nv2 a b) (ha:fN a) (hb:fN b):body Tryz.prog [c68,c56,c90] {} true Tryz.f194 [S a,S b,.clo 245 [] []] (.tup [S (numS (valQ a*valQ b)),.val (.bool true)]):=by
 obtain ⟨na,nb⟩:=h
 obtain ⟨p1,p2,p3⟩:=fE ha
 obtain ⟨q1,q2,q3⟩:=fE hb
 have m1:=mul8 p1 q2
 have m2:=mul8 q1 p2
 have m4:=mul8 p1 q1
 have m3:=mul8 p2 q2
 rw[<- aHl (valQ a) (valQ b)]
 exact ZRF
theorem aW9 (a b:Bx) (h:¬nv2 a b):body Tryz.prog [c68,c56,c90] {} true Tryz.f194 [S a,S b,.clo 245 [] []] (.tup [S [],.val (.bool false)]):=by
 by_cases na:nvOK a
 ·have nb:¬nvOK b:=fun e=>h ⟨na,e⟩
  exact ZRF
 exact ZRF
def q56:Con:=bB 194 true fun args K=>match args with
 | [.str a,.str b,.clo 245 [] []]=>Br (nv2 a b) (Giv (fN a/\fN b) (K (.tup [S (numS (valQ a*valQ b)),.val (.bool true)]))) (K (.tup [S [],.val (.bool false)]))
 | _=>False
theorem kq56:aS Tryz.prog q56:=by
 refine kO Tryz.func194 fun args K h=>?_
 simp only[q56] at h;split at h
 ·rename_i a b
  by_cases hf:nv2 a b
  ·obtain ⟨v1,_,_,v2,v3⟩:=iX hf.1
   obtain ⟨w1,_,_,w2,w3⟩:=iX hf.2
   exact ⟨_,(h.yes hf).go ⟨⟨v1,v2,v3⟩,w1,w2,w3⟩,triB Tryz.func194 Tryz.ntmps194 (by simp[k68,k56,k90]) (aW8 a b hf ⟨v1,v2,v3⟩ ⟨w1,w2,w3⟩)⟩
  exact ⟨_,h.no hf,triB Tryz.func194 Tryz.ntmps194 (by simp[k68,k56,k90]) (aW9 a b hf)⟩
 exact h.elim
theorem aXa (a b:Bx) (hq:valQ b≠0) (h:nv2 a b) (ha:fN a) (hb:fN b):body Tryz.prog [c68,c48,c90] {} true Tryz.f194 [S a,S b,.clo 195 [] []] (.tup [S (numS (valQ a/valQ b)),.val (.bool true)]):=by
 obtain ⟨na,nb⟩:=h
 obtain ⟨p1,p2,p3⟩:=fE ha
 obtain ⟨q1,q2,q3⟩:=fE hb
 have m1:=mul8 p1 q2
 have m2:=mul8 q1 p2
 have m4:=mul8 p1 q1
 have hq0:(valQ b).num≠0:=fun e=>hq (vB.1 e)
 have m3:=mul8 p2 q1
 rw[<- aHm (valQ a) (valQ b) hq]
 (repeat'((conv=>whnf);first|refine Zg fun _=>?_|refine Zn ?_|refine Zy ?_|fail))
 refine Need.mk ⟨by omega,by omega,Int.mul_ne_zero (by omega) hq0⟩ ?_
 exact ZF
theorem aXb (a b:Bx) (h:¬nv2 a b):body Tryz.prog [c68,c48,c90] {} true Tryz.f194 [S a,S b,.clo 195 [] []] (.tup [S [],.val (.bool false)]):=by
 by_cases na:nvOK a
 ·have nb:¬nvOK b:=fun e=>h ⟨na,e⟩
  exact ZRF
 exact ZRF
def q48:Con:=bB 194 true fun args K=>match args with
 | [.str a,.str b,.clo 195 [] []]=>Need (¬b= [48]) (Br (nv2 a b) (Giv (fN a/\fN b) (K (.tup [S (numS (valQ a/valQ b)),.val (.bool true)]))) (K (.tup [S [],.val (.bool false)])))
 | _=>False
theorem xF:numS 0= [48]:=by
 unfold numS
 rw[aD (show Rat.den 0=1 from rfl)]
 exact itoa_zero
theorem kq48:aS Tryz.prog q48:=by
 refine kO Tryz.func194 fun args K h=>?_
 simp only[q48] at h;split at h
 ·rename_i a b
  obtain ⟨hb0,h⟩:=h
  by_cases hf:nv2 a b
  ·obtain ⟨v1,_,_,v2,v3⟩:=iX hf.1
   obtain ⟨w1,_,_,w2,w3⟩:=iX hf.2
   have hq:valQ b≠0:=fun e=>hb0 (by rw[w1,e];exact xF)
   exact ⟨_,(h.yes hf).go ⟨⟨v1,v2,v3⟩,w1,w2,w3⟩,triB Tryz.func194 Tryz.ntmps194 (by simp[k68,k48,k90]) (aXa a b hq hf ⟨v1,v2,v3⟩ ⟨w1,w2,w3⟩)⟩
  exact ⟨_,h.no hf,triB Tryz.func194 Tryz.ntmps194 (by simp[k68,k48,k90]) (aXb a b hf)⟩
 exact h.elim
theorem aJl {a b:Bx} (ha:chkI a=0) (hb:chkI b=0) (r:Bx × Int):mB a b r=r:=by
 unfold mB chk2
 rw[ha,hb,aC (by simp)]
def c58r:Con:=bB 247 true fun args K=>match args with
 | [.str a,.str b]=>Need (chkI a=0/\chkI b=0) (Br (lim (valI a*valI b)=false) (K (.tup [S (itoa (valI a*valI b)),I 0])) (K (.tup [S [],I 4])))
 | _=>False
theorem k58r:aS Tryz.prog c58r:=by
 refine kO Tryz.func247 fun args K h=>?_
 simp only[c58r] at h;split at h
 ·rename_i a b
  obtain ⟨⟨ha,hb⟩,h⟩:=h
  have ht:=triB Tryz.func247 Tryz.ntmps247 (by simp[k94,k95,k61,k98,k99f,k96]) (b58 a b)
  rw[aJl ha hb] at ht
  by_cases hl:lim (valI a*valI b)=false
  ·refine ⟨_,h.yes hl,?_⟩
   unfold resI at ht
   rw[hl] at ht
   exact ht
  refine ⟨_,h.no hl,?_⟩
  unfold resI at ht
  rw[show lim _=true from by simpa using hl] at ht
  exact ht
 exact h.elim
def c55r:Con:=bB 253 true fun args K=>match args with
 | [.str a,.str b]=>Need (chkI a=0/\chkI b=0) (Br (lim (valI a+valI b)=false) (K (.tup [S (itoa (valI a+valI b)),I 0])) (K (.tup [S [],I 4])))
 | _=>False
theorem k55r:aS Tryz.prog c55r:=by
 refine kO Tryz.func253 fun args K h=>?_
 simp only[c55r] at h;split at h
 ·rename_i a b
  obtain ⟨⟨ha,hb⟩,h⟩:=h
  have ht:=triB Tryz.func253 Tryz.ntmps253 (by simp[k94,k95,k61,k98,k97,k96]) (b55 a b)
  rw[aJl ha hb] at ht
  by_cases hl:lim (valI a+valI b)=false
  ·refine ⟨_,h.yes hl,?_⟩
   unfold resI at ht
   rw[hl] at ht
   exact ht
  refine ⟨_,h.no hl,?_⟩
  unfold resI at ht
  rw[show lim _=true from by simpa using hl] at ht
  exact ht
 exact h.elim
def c60r:Con:=bB 244 true fun args K=>match args with
 | [.str a,.str b]=>Need (chkI a=0/\chkI b=0) (Br (lim (valI a-valI b)=false) (K (.tup [S (itoa (valI a-valI b)),I 0])) (K (.tup [S [],I 4])))
 | _=>False
theorem k60r:aS Tryz.prog c60r:=by
 refine kO Tryz.func244 fun args K h=>?_
 simp only[c60r] at h;split at h
 ·rename_i a b
  obtain ⟨⟨ha,hb⟩,h⟩:=h
  have ht:=triB Tryz.func244 Tryz.ntmps244 (by simp[k94,k95,k61,k98,k97,k96]) (b60 a b)
  rw[aJl ha hb] at ht
  by_cases hl:lim (valI a-valI b)=false
  ·refine ⟨_,h.yes hl,?_⟩
   unfold resI at ht
   rw[hl] at ht
   exact ht
  refine ⟨_,h.no hl,?_⟩
  unfold resI at ht
  rw[show lim _=true from by simpa using hl] at ht
  exact ht
 exact h.elim
abbrev ck4 (a b c d:Bx):Prop:=(chkI a=0/\chkI b=0)/\(chkI c=0/\chkI d=0)
def mQ (a b c d:Bx):Prop:=lim (valI a*valI d)=false/\lim (valI c*valI b)=false
instance (a b c d:Bx):Decidable (mQ a b c d):=by unfold mQ;infer_instance
theorem b51y (a b c d:Bx) (h:ck4 a b c d) (hl:mQ a b c d):body Tryz.prog [c58r] {} true Tryz.f198 [.agg [S a,S b],.agg [S c,S d]] (.tup [S (itoa (valI a*valI d)),S (itoa (valI c*valI b)),I 0]):=by
 obtain ⟨⟨h1,h2⟩,h3,h4⟩:=h
 obtain ⟨l1,l2⟩:=hl
 exact ZRF
theorem b51n (a b c d:Bx) (h:ck4 a b c d) (hl:¬mQ a b c d):body Tryz.prog [c58r] {} true Tryz.f198 [.agg [S a,S b],.agg [S c,S d]] (.tup [.any,.any,I 4]):=by
 obtain ⟨⟨h1,h2⟩,h3,h4⟩:=h
 by_cases l1:lim (valI a*valI d)=false
 ·have l2:¬lim (valI c*valI b)=false:=fun e=>hl ⟨l1,e⟩
  exact ZRF
 exact ZRF
def c51:Con:=bB 198 true fun args K=>match args with
 | [.agg [.str a,.str b],.agg [.str c,.str d]]=>Need (ck4 a b c d) (Br (mQ a b c d) (K (.tup [S (itoa (valI a*valI d)),S (itoa (valI c*valI b)),I 0])) (K (.tup [.any,.any,I 4])))
 | _=>False
theorem k51:aS Tryz.prog c51:=by
 refine kO Tryz.func198 fun args K h=>?_
 simp only[c51] at h;split at h
 ·rename_i a b c d
  obtain ⟨h0,h⟩:=h
  by_cases hl:mQ a b c d
  ·exact ⟨_,h.yes hl,triB Tryz.func198 Tryz.ntmps198 (by simp[k58r]) (b51y a b c d h0 hl)⟩
  exact ⟨_,h.no hl,triB Tryz.func198 Tryz.ntmps198 (by simp[k58r]) (b51n a b c d h0 hl)⟩
 exact h.elim
abbrev dens (b d:Bx):Prop:=0<valI b/\0<valI d
theorem xG (n d:Int):numQ (itoa n) (itoa d)=numS (Rat.divInt n d):=by
 unfold numQ
 rw[dP,dP]
theorem aJm {n:Int} (h:0<n):valI (itoa n)≠0:=by rw[dP];omega
def ok57 (a b c d:Bx):Prop:=lim (valI a*valI c)=false/\lim (valI b*valI d)=false
instance (a b c d:Bx):Decidable (ok57 a b c d):=by unfold ok57;infer_instance
theorem b57y (a b c d:Bx) (h:ck4 a b c d/\dens b d) (hl:ok57 a b c d):body Tryz.prog [c58r,c52] {} true Tryz.f246 [.agg [S a,S b],.agg [S c,S d]] (.tup [S (numQ (itoa (valI a*valI c)) (itoa (valI b*valI d))),I 0]):=by
 obtain ⟨⟨⟨h1,h2⟩,h3,h4⟩,hb,hd⟩:=h
 obtain ⟨l1,l2⟩:=hl
 have k1:=eS l1
 have k2:=eS l2
 have k3:=aJm (mE hb hd)
 exact ZRF
theorem b57n (a b c d:Bx) (h:ck4 a b c d) (hl:¬ok57 a b c d):body Tryz.prog [c58r,c52] {} true Tryz.f246 [.agg [S a,S b],.agg [S c,S d]] (.tup [S [],I 4]):=by
 obtain ⟨⟨h1,h2⟩,h3,h4⟩:=h
 by_cases l1:lim (valI a*valI c)=false
 ·have l2:¬lim (valI b*valI d)=false:=fun e=>hl ⟨l1,e⟩
  exact ZRF
 exact ZRF
def c57:Con:=bB 246 true fun args K=>match args with
 | [.agg [.str a,.str b],.agg [.str c,.str d]]=>Need (ck4 a b c d/\dens b d) (Br (ok57 a b c d) (K (.tup [S (numS (Rat.divInt (valI a*valI c) (valI b*valI d))),I 0])) (K (.tup [S [],I 4])))
 | _=>False
theorem k57:aS Tryz.prog c57:=by
 refine kO Tryz.func246 fun args K h=>?_
 simp only[c57] at h;split at h
 ·rename_i a b c d
  obtain ⟨h0,h⟩:=h
  by_cases hl:ok57 a b c d
  ·refine ⟨_,h.yes hl,?_⟩
   rw[<- xG]
   exact triB Tryz.func246 Tryz.ntmps246 (by simp[k58r,k52]) (b57y a b c d h0 hl)
  exact ⟨_,h.no hl,triB Tryz.func246 Tryz.ntmps246 (by simp[k58r,k52]) (b57n a b c d h0.1 hl)⟩
 exact h.elim
def wA (a b c d:Bx):Prop:=mQ a b c d/\lim (valI a*valI d+valI c*valI b)=false/\lim (valI b*valI d)=false
instance (a b c d:Bx):Decidable (wA a b c d):=by unfold wA;infer_instance
theorem b93ay (a b c d:Bx) (h:ck4 a b c d/\dens b d) (hl:wA a b c d):body Tryz.prog [c51,c55r,c58r,c52] {} true Tryz.f289 [.agg [S a,S b],.agg [S c,S d],.lelem [.clo 253 [] []] 0] (.tup [S (numQ (itoa (valI a*valI d+valI c*valI b)) (itoa (valI b*valI d))),I 0]):=by
 obtain ⟨⟨⟨h1,h2⟩,h3,h4⟩,hb,hd⟩:=h
 obtain ⟨l1,l2,l3⟩:=hl
 have k1:=eS l2
 have k2:=eS l3
 have k3:=aJm (mE hb hd)
 have j1:=eS l1.1
 have j2:=eS l1.2
 have e1:=dP (valI a*valI d)
 have e2:=dP (valI c*valI b)
 (repeat refine ZR ?_)
 rw[e1,e2]
 exact ZRF
theorem b93an (a b c d:Bx) (h:ck4 a b c d) (hl:¬wA a b c d):body Tryz.prog [c51,c55r,c58r,c52] {} true Tryz.f289 [.agg [S a,S b],.agg [S c,S d],.lelem [.clo 253 [] []] 0] (.tup [S [],I 4]):=by
 obtain ⟨⟨h1,h2⟩,h3,h4⟩:=h
 by_cases l1:mQ a b c d
 ·have j1:=eS l1.1
  have j2:=eS l1.2
  have e1:=dP (valI a*valI d)
  have e2:=dP (valI c*valI b)
  by_cases l2:lim (valI a*valI d+valI c*valI b)=false
  ·have l3:¬lim (valI b*valI d)=false:=fun e=>hl ⟨l1,l2,e⟩
   (repeat refine ZR ?_)
   rw[e1,e2]
   exact ZRF
  (repeat refine ZR ?_)
  rw[e1,e2]
  exact ZRF
 exact ZRF
def c93a:Con:=bB 289 true fun args K=>match args with
 | [.agg [.str a,.str b],.agg [.str c,.str d],.lelem [.clo 253 [] []] 0]=>Need (ck4 a b c d/\dens b d) (Br (wA a b c d) (K (.tup [S (numS (Rat.divInt (valI a*valI d+valI c*valI b) (valI b*valI d))),I 0])) (K (.tup [S [],I 4])))
 | _=>False
theorem k93a:aS Tryz.prog c93a:=by
 refine kO Tryz.func289 fun args K h=>?_
 simp only[c93a] at h;split at h
 ·rename_i a b c d
  obtain ⟨h0,h⟩:=h
  by_cases hl:wA a b c d
  ·refine ⟨_,h.yes hl,?_⟩
   rw[<- xG]
   exact triB Tryz.func289 Tryz.ntmps289 (by simp[k51,k55r,k58r,k52]) (b93ay a b c d h0 hl)
  exact ⟨_,h.no hl,triB Tryz.func289 Tryz.ntmps289 (by simp[k51,k55r,k58r,k52]) (b93an a b c d h0.1 hl)⟩
 exact h.elim
def wB (a b c d:Bx):Prop:=mQ a b c d/\lim (valI a*valI d-valI c*valI b)=false/\lim (valI b*valI d)=false
instance (a b c d:Bx):Decidable (wB a b c d):=by unfold wB;infer_instance
theorem b93sy (a b c d:Bx) (h:ck4 a b c d/\dens b d) (hl:wB a b c d):body Tryz.prog [c51,c60r,c58r,c52] {} true Tryz.f289 [.agg [S a,S b],.agg [S c,S d],.lelem [.clo 244 [] []] 0] (.tup [S (numQ (itoa (valI a*valI d-valI c*valI b)) (itoa (valI b*valI d))),I 0]):=by
 obtain ⟨⟨⟨h1,h2⟩,h3,h4⟩,hb,hd⟩:=h
 obtain ⟨l1,l2,l3⟩:=hl
 have k1:=eS l2
 have k2:=eS l3
 have k3:=aJm (mE hb hd)
 have j1:=eS l1.1
 have j2:=eS l1.2
 have e1:=dP (valI a*valI d)
 have e2:=dP (valI c*valI b)
 (repeat refine ZR ?_)
 rw[e1,e2]
 exact ZRF
theorem b93sn (a b c d:Bx) (h:ck4 a b c d) (hl:¬wB a b c d):body Tryz.prog [c51,c60r,c58r,c52] {} true Tryz.f289 [.agg [S a,S b],.agg [S c,S d],.lelem [.clo 244 [] []] 0] (.tup [S [],I 4]):=by
 obtain ⟨⟨h1,h2⟩,h3,h4⟩:=h
 by_cases l1:mQ a b c d
 ·have j1:=eS l1.1
  have j2:=eS l1.2
  have e1:=dP (valI a*valI d)
  have e2:=dP (valI c*valI b)
  by_cases l2:lim (valI a*valI d-valI c*valI b)=false
  ·have l3:¬lim (valI b*valI d)=false:=fun e=>hl ⟨l1,l2,e⟩
   (repeat refine ZR ?_)
   rw[e1,e2]
   exact ZRF
  (repeat refine ZR ?_)
  rw[e1,e2]
  exact ZRF
 exact ZRF
def c93s:Con:=bB 289 true fun args K=>match args with
 | [.agg [.str a,.str b],.agg [.str c,.str d],.lelem [.clo 244 [] []] 0]=>Need (ck4 a b c d/\dens b d) (Br (wB a b c d) (K (.tup [S (numS (Rat.divInt (valI a*valI d-valI c*valI b) (valI b*valI d))),I 0])) (K (.tup [S [],I 4])))
 | _=>False
theorem k93s:aS Tryz.prog c93s:=by
 refine kO Tryz.func289 fun args K h=>?_
 simp only[c93s] at h;split at h
 ·rename_i a b c d
  obtain ⟨h0,h⟩:=h
  by_cases hl:wB a b c d
  ·refine ⟨_,h.yes hl,?_⟩
   rw[<- xG]
   exact triB Tryz.func289 Tryz.ntmps289 (by simp[k51,k60r,k58r,k52]) (b93sy a b c d h0 hl)
  exact ⟨_,h.no hl,triB Tryz.func289 Tryz.ntmps289 (by simp[k51,k60r,k58r,k52]) (b93sn a b c d h0.1 hl)⟩
 exact h.elim
def ok50 (a b c d:Bx):Prop:=mQ a b c d
instance (a b c d:Bx):Decidable (ok50 a b c d):=by unfold ok50;infer_instance
theorem b50y (a b c d:Bx) (h:ck4 a b c d/\dens b d/\¬c= [48]) (hl:ok50 a b c d):body Tryz.prog [c51,c52] {} true Tryz.f197 [.agg [S a,S b],.agg [S c,S d]] (.tup [S (numQ (itoa (valI a*valI d)) (itoa (valI c*valI b))),I 0]):=by
 obtain ⟨⟨⟨h1,h2⟩,h3,h4⟩,⟨hb,hd⟩,hc⟩:=h
 have k1:=eS hl.1
 have k2:=eS hl.2
 have k3:valI (itoa (valI c*valI b))≠0:=by
  rw[dP]
  exact Int.mul_ne_zero (aU9 (iY h3).1 hc) (by omega)
 exact ZRF
theorem b50n (a b c d:Bx) (h:ck4 a b c d/\¬c= [48]) (hl:¬ok50 a b c d):body Tryz.prog [c51,c52] {} true Tryz.f197 [.agg [S a,S b],.agg [S c,S d]] (.tup [S [],I 4]):=by
 obtain ⟨⟨⟨h1,h2⟩,h3,h4⟩,hc⟩:=h
 have hl:¬mQ a b c d:=hl
 exact ZRF
def c50:Con:=bB 197 true fun args K=>match args with
 | [.agg [.str a,.str b],.agg [.str c,.str d]]=>Need (ck4 a b c d/\dens b d) (Br (c= [48]) (K (.tup [S [],I 12])) (Br (ok50 a b c d) (K (.tup [S (numS (Rat.divInt (valI a*valI d) (valI c*valI b))),I 0])) (K (.tup [S [],I 4]))))
 | _=>False
theorem b50z (a b c d:Bx) (hc:c= [48]):body Tryz.prog [c51,c52] {} true Tryz.f197 [.agg [S a,S b],.agg [S c,S d]] (.tup [S [],I 12]):=by
 exact ZRF
theorem k50:aS Tryz.prog c50:=by
 refine kO Tryz.func197 fun args K h=>?_
 simp only[c50] at h;split at h
 ·rename_i a b c d
  obtain ⟨h0,h⟩:=h
  by_cases hc:c= [48]
  ·exact ⟨_,h.yes hc,triB Tryz.func197 Tryz.ntmps197 (by simp[k51,k52]) (b50z a b c d hc)⟩
  replace h:=h.no hc
  by_cases hl:ok50 a b c d
  ·refine ⟨_,h.yes hl,?_⟩
   rw[<- xG]
   exact triB Tryz.func197 Tryz.ntmps197 (by simp[k51,k52]) (b50y a b c d ⟨h0.1,h0.2,hc⟩ hl)
  exact ⟨_,h.no hl,triB Tryz.func197 Tryz.ntmps197 (by simp[k51,k52]) (b50n a b c d ⟨h0.1,hc⟩ hl)⟩
 exact h.elim
def c54:Con:=bB 243 false fun args K=>match args with | [.clo f [] []]=>K (.clo 289 [] [.lelem [.clo f [] []] 0]) | _=>False
theorem k54:aS Tryz.prog c54:=by
 refine kQ {} Tryz.func243 Tryz.ntmps243 kn fun _ _ h=>?_
 split at h
 case h_2=>exact h.elim
 refine kb h ?_
 exact ZF
end RB
end

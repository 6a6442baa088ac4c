/-
  Part 5: a symbolic executor over the model, contracts of functions and plain laws.
-/
import Derived.Test.YtenkehnacommfaaGreatDoorP4
import Derived.Lib.Bytealg
set_option linter.unusedVariables false
set_option linter.unusedSimpArgs false
set_option maxRecDepth 10000
set_option maxHeartbeats 80000000
noncomputable section
section
open Go Go.Proofs Go.Eng Go.Shelf IB Go.Lib Go.RowKit Tryz
namespace RB
theorem vV (a b:Bx):cJ (a++b)=List.append (α:=Int) (cJ a) (cJ b):=by simp[cJ]
theorem Hv (p w r t:Bx):List.append (α:=Int) (List.append (α:=Int) (cJ (p++w)) (cJ r)) (cJ t)=cJ (p++(w++(r++t))):=by
 rw[<- vV,<- vV];simp only[cC]
theorem Xd (p w t:Bx):List.append (α:=Int) (cJ (p++w)) (cJ t)=cJ (p++(w++([]++t))):=by
 rw[<- vV,cC,kJ]
def wrA:Nat->SV
 | 0=>.val (.pointer none)
 | _+1=>.ptr 1 0
theorem aDa {x:Int} (h:0<=x/\x<1000000000):(itoa x).length<=9:=by
 unfold itoa;rw[aC om];exact oC 8 _ om
theorem qT {x:Int}:0<(itoa x).length:=by
 cases h:itoa x with
 | nil=>exact absurd h (by unfold itoa;split<;>simp[zL])
 | cons=>simp
theorem aDb (a:List Int) (m:Nat):0<(wrK a (m+1)).length:=by
 have:=qT (x:=a.getD (a.length-1-m) 0);show 0<(wrK a m++((if 0<m then List.replicate (9-(itoa (a.getD (a.length-1-m) 0)).length) 48 else [])++itoa (a.getD (a.length-1-m) 0))).length;simp only[aS];omega
theorem Io {a:List Int} (h:InB B9 a):∀i,(wrK a i).length<=9*i
 | 0=>aN _
 | i+1=>by
  have h1:=Io h i;have h2:=aDa (get9 h (a.length-1-i));show (wrK a i++((if 0<i then List.replicate (9-(itoa (a.getD (a.length-1-i) 0)).length) 48 else [])++itoa (a.getD (a.length-1-i) 0))).length<=9*(i+1);by_cases h0:0<i
  ·rw[aD h0];simp only[aS,fJ];omega
  rw[aC h0];simp only[aS,pL];omega
theorem b128 (p:Prop) (hp:Decidable p) (a:List Int) (h:InB B9 a/\a.length<=200):body Tp [c157,c158,c160,c61,c159,c135,c166] { asks:=[(0,[2])] } true f241 [.agg [.bl p hp,Ls a]] (S (if a= [] then [48] else (if p then [45] else [])++wrK a a.length)):=by
 (repeat'((conv=>whnf);first|refine Zg fun _=>?_|fail));(apply Br.mk<;>intro)
 ·rename_i hz;have e:a= []:=cF om;(conv=>whnf);rw[aD e]
 rename_i hz;refine Own.r ?_;(conv=>whnf);refine ⟨1,.int .u8,5,?_⟩;(apply Br.mk<;>intro)
 ·rename_i hp';(conv=>whnf);refine Need.mk ⟨.inl rfl,rfl,rfl,rfl,aK _⟩ ?_;(conv=>whnf);refine Ask.mk ⟨{ X:=Nat,pre:=fun i=>i<=a.length,mod:=fun i _=>[],heap:=fun i H=>[hget H 0,.cells [.ptr 1 0,.ref 2 1] 292,.vec 1 (.int .u8) (cJ ([45]++wrK a i)) 5],mu:=fun i=>i,objs:=[2] },rfl,?_⟩;(repeat refine ZN ?_);refine ⟨⟨(0:Nat),rfl,aK _,?_⟩,fun (i:Nat) hi (hlt:i<a.length)=>?_,fun (i:Nat) hi (he:i=a.length)=>?_⟩
  ·exact ZE
  ·have hx:=aDa (get9 h.1 (a.length-1-i));have hb:([45]++wrK a i).length<=1+9*i:=by have:=Io h.1 i;simp only[aS,bS,pL];omega
   rw[<- gD] at hb;have h2:=h.2;have hst:wrK a (i+1)=wrK a i++((if 0<i then List.replicate (9-(itoa (a.getD (a.length-1-i) 0)).length) 48 else [])++itoa (a.getD (a.length-1-i) 0)):=rfl;show hnfL (itB a i) _;(repeat' first|refine ZG ?_|refine Zg fun _=>?_);(apply Br.mk<;>intro)
   ·rw[aD om] at hst;(repeat'((conv=>whnf);first|refine Zg fun _=>?_|refine Zn ?_|fail));refine Need.mk ⟨.inr rfl,rfl,.inl rfl,rfl,rfl,rfl,?_⟩ ?_
    ·show _+(List.replicate (9-((itoa (a.getD (a.length-1-i) 0)).length:Int)).toNat 48).length<=1000000;rw[fJ];omega
    refine Need.mk ⟨.inr rfl,rfl,.inr rfl,rfl,rfl,rfl,?_⟩ ?_
    ·show (List.append (α:=Int) _ (cJ (List.replicate (9-((itoa (a.getD (a.length-1-i) 0)).length:Int)).toNat 48))).length+ _<=1000000;show (_++ _:List Int).length+ _<= _;rw[aS,gD (List.replicate _ _),fJ];omega
    refine ⟨(i+1:Nat),rfl,hlt,?_⟩;(repeat' first|exact trivial|rfl|exact Nat.one_pos|apply aA);rw[hst,show (9-((itoa (a.getD (a.length-1-i) 0)).length:Int)).toNat=9-(itoa (a.getD (a.length-1-i) 0)).length by omega];exact Hv [45] _ _ _
   rw[aC om] at hst;refine Need.mk ⟨.inr rfl,rfl,.inl rfl,rfl,rfl,rfl,om⟩ ?_;refine ⟨(i+1:Nat),rfl,hlt,?_⟩;(repeat' first|exact trivial|rfl|exact Nat.one_pos|apply aA);rw[hst];exact Xd [45] _ _
  subst he;have hpos:0<(cJ ([45]++wrK a a.length)).length:=by
   rw[gD];obtain ⟨m,hm⟩:∃m,a.length=m+1:=⟨a.length-1,om⟩;have:=aDb a m;rw[hm,aS];omega
  refine Need.mk ⟨.inr rfl,rfl,rfl,rfl,hpos,by show (1:Nat)≠2;decide⟩ ?_;(conv=>whnf);rw[aC (by intro e;rw[e] at hz;exact hz rfl),aD hp',Mh]
 rename_i hp';refine Ask.mk ⟨{ X:=Nat,pre:=fun i=>i<=a.length,mod:=fun i _=>[],heap:=fun i H=>[hget H 0,.cells [wrA i,.ref 2 1] 292,.vec 1 (.int .u8) (cJ ([]++wrK a i)) 5],mu:=fun i=>i,objs:=[2] },rfl,?_⟩;(repeat refine ZN ?_);refine ⟨⟨(0:Nat),rfl,aK _,?_⟩,fun (i:Nat) hi (hlt:i<a.length)=>?_,fun (i:Nat) hi (he:i=a.length)=>?_⟩
 ·exact ZE
 ·have h2:=h.2;rcases i with _ | k
  ·have hx:=aDa (get9 h.1 (a.length-1-(0)));have hb:([]++wrK a (0)).length<=1+9*(0):=by have:=Io h.1 (0);simp only[aS,pL];omega
   rw[<- gD] at hb;have hst:wrK a (0+1)=wrK a (0)++((if 0<(0) then List.replicate (9-(itoa (a.getD (a.length-1-(0)) 0)).length) 48 else [])++itoa (a.getD (a.length-1-(0)) 0)):=rfl;show hnfL (itB a (0)) _;(repeat' first|refine ZG ?_|refine Zg fun _=>?_);(apply Br.mk<;>intro)
   ·exfalso;omega
   rw[aC om] at hst;refine Need.mk ⟨.inl rfl,rfl,.inl rfl,rfl,rfl,rfl,om⟩ ?_;refine ⟨(0+1:Nat),rfl,hlt,?_⟩;exact ZE
  have hx:=aDa (get9 h.1 (a.length-1-(k+1)));have hb:([]++wrK a (k+1)).length<=1+9*(k+1):=by have:=Io h.1 (k+1);simp only[aS,pL];omega
  rw[<- gD] at hb;have hst:wrK a (k+1+1)=wrK a (k+1)++((if 0<(k+1) then List.replicate (9-(itoa (a.getD (a.length-1-(k+1)) 0)).length) 48 else [])++itoa (a.getD (a.length-1-(k+1)) 0)):=rfl;show hnfL (itB a (k+1)) _;(repeat' first|refine ZG ?_|refine Zg fun _=>?_);(apply Br.mk<;>intro)
  ·rw[aD om] at hst;(repeat'((conv=>whnf);first|refine Zg fun _=>?_|refine Zn ?_|fail));refine Need.mk ⟨.inr rfl,rfl,.inl rfl,rfl,rfl,rfl,?_⟩ ?_
   ·show _+(List.replicate (9-((itoa (a.getD (a.length-1-(k+1)) 0)).length:Int)).toNat 48).length<=1000000;rw[fJ];omega
   refine Need.mk ⟨.inr rfl,rfl,.inr rfl,rfl,rfl,rfl,?_⟩ ?_
   ·show (List.append (α:=Int) _ (cJ (List.replicate (9-((itoa (a.getD (a.length-1-(k+1)) 0)).length:Int)).toNat 48))).length+ _<=1000000;show (_++ _:List Int).length+ _<= _;rw[aS,gD (List.replicate _ _),fJ];omega
   refine ⟨(k+1+1:Nat),rfl,hlt,?_⟩;(repeat' first|exact trivial|rfl|exact Nat.one_pos|apply aA);rw[hst,show (9-((itoa (a.getD (a.length-1-(k+1)) 0)).length:Int)).toNat=9-(itoa (a.getD (a.length-1-(k+1)) 0)).length by omega];exact Hv [] _ _ _
  exfalso;omega
 obtain ⟨m,rfl⟩:∃m,i=m+1:=⟨i-1,om⟩;have hpos:0<(cJ ([]++wrK a (m+1))).length:=by
  rw[gD];exact aDb a m
 refine Need.mk ⟨.inr rfl,rfl,rfl,rfl,hpos,by show (1:Nat)≠2;decide⟩ ?_;(conv=>whnf);rw[aC (by intro e;rw[e] at hz;exact hz rfl),aC hp',Mh,he]
def Hw (a:List Int):Prop:=a=aI B9 (valB B9 a).toNat/\a.length<=200
theorem jM {m:Nat} (h:m<B9^200):Hw (aI B9 m):=by
 refine ⟨by rw[iT de,aJ],?_⟩;rcases dB m with rfl | hm
 ·rw[dM];exact aK _
 obtain ⟨h1,_,h3⟩:=kH (B:=B9) de hm;have h1:B9^ ((aI B9 m).length-1)<=m:=by exact_mod_cast h1
 have:=(fD (show 1<B9 by decide)).1 (bX h1 h);omega
theorem Xe {a:List Int} (h:Hw a):InB B9 a:=by rw[h.1];exact cR de _
def sgP (p:Prop) [Decidable p] (n:Int):Int:=if p then -n else n
theorem aIj (p:Prop) [hp:Decidable p] {a:List Int} (h:Hw a):(if a= [] then [48] else (if p then [45] else [])++wrK a a.length)=itoa (sgP p (valB B9 a)):=by
 have hz:=iT (B:=B9) de (valB B9 a).toNat;rw[<- h.1] at hz;by_cases e:a= []
 ·rw[aD e];subst e;have:sgP p (valB B9 [])=0:=by unfold sgP;split<;>rfl
  rw[this];unfold itoa;rw[aC om];exact (jG (show 0<10 by omega)).symm
 rw[aC e];have hl:a.getLast e≠0:=by
  have:=xQ (B:=B9) de (valB B9 a).toNat;rw[<- h.1] at this;exact this e
 obtain ⟨m,hm⟩:∃m,a.length=m+1:=⟨a.length-1,by have:=cB.2 e;omega⟩;obtain ⟨h1,h2⟩:=Wd (show InB (10^9) a from Xe h) e hl m om;have e9:(10:Nat)^9=B9:=de;rw[show a.length-1-m=0 by omega,eX,e9] at h1 h2;rw[hm,h2];have h3:=aNn (decide p) (valB B9 a).toNat;unfold wrM at h3;rw[aC om] at h3;have h4:sgn (decide p) (valB B9 a).toNat=sgP p (valB B9 a):=by
  unfold sgn sgP;by_cases hq:p
  ·rw[aD (by simp[hq]),aD hq];omega
  rw[aC (by simp[hq]),aC hq];omega
 rw[<- h4,<- h3];by_cases hq:p
 ·rw[aD hq,aD (by simp[hq])];rfl
 rw[aC hq,aC (by simp[hq])];rfl
def c128:Con:=aR 241 true fun args K=>match args with
 | [.agg [.bl p hp,.seq (.int .i64) a]]=>Need (Hw a) (K (S (itoa (@sgP p hp (valB B9 a)))))
 | _=>False
theorem k128:aO Tp c128:=by
 refine kO func241 fun args K h=>?_;simp only[c128] at h;split at h
 ·rename_i p hp a;refine ⟨_,h.go,?_⟩;rw[<- aIj p h.ok];exact triB func241 ntmps241 (by simp[k157,k158,k160,k61,k159,k135,k166]) (b128 p hp a ⟨Xe h.ok,h.ok.2⟩)
 cases h
def resI (n:Int):Bx × Int:=if lim n then ([],4) else (itoa n,0)
theorem b96 (p:Prop) (hp:Decidable p) (a:List Int) (h:Hw a):body Tp [c128,c88] {} true f191 [.agg [.bl p hp,Ls a]] (.tup [S (resI (sgP p (valB B9 a))).1,I (resI (sgP p (valB B9 a))).2]):=by
 have ht:=aP List.length (fN (sgP p (valB B9 a)));unfold resI lim;(repeat' first|refine ZG ?_|refine Zg fun _=>?_);(apply Br.mk<;>intro)
 ·rename_i hg;rw[aD (by simp;omega)];exact ZF
 rename_i hg;rw[aC (by simp;omega)];exact ZF
def c96:Con:=aR 191 true fun args K=>match args with
 | [.agg [.bl p hp,.seq (.int .i64) a]]=>Need (Hw a) (K (.tup [S (resI (@sgP p hp (valB B9 a))).1,I (resI (@sgP p hp (valB B9 a))).2]))
 | _=>False
theorem k96:aO Tp c96:=by
 refine kO func191 fun args K h=>?_;simp only[c96] at h;split at h
 ·rename_i p hp a;exact ⟨_,h.go,triB func191 ntmps191 (by simp[k128,k88]) (b96 p hp a h.ok)⟩
 cases h
def addP (p:Prop) (m:Nat) (q:Prop) (n:Nat):Prop:=(((p↔q)\/n<=m)/\p)\/(¬((p↔q)\/n<=m)/\q)
instance (p:Prop) [Decidable p] (m:Nat) (q:Prop) [Decidable q] (n:Nat):Decidable (addP p m q n):=by unfold addP;infer_instance
def addN (p:Prop) [Decidable p] (m:Nat) (q:Prop) [Decidable q] (n:Nat):Nat:=if p↔q then m+n else if n<=m then m-n else n-m
theorem Sj (p:Prop) [Decidable p] (m:Nat) (q:Prop) [Decidable q] (n:Nat):sgP (addP p m q n) (addN p m q n)=sgP p m+sgP q n:=by
 unfold sgP addP addN;by_cases hp:p<;>by_cases hq:q<;>by_cases h:n<=m<;>simp[hp,hq,h]<;>omega
theorem aIk {p:Prop} [Decidable p] {m:Nat} {q:Prop} [Decidable q] {n:Nat} (hm:m<B9^100) (hn:n<B9^100):addN p m q n<B9^200:=by
 have h:B9^100+B9^100<=B9^200:=by
  rw[<- Nat.two_mul];exact bL (bQ _ (show 2<=B9 by decide)) (by rw[<- Nat.pow_succ'];exact bG de om)
 unfold addN;split
 ·omega
 split<;>omega
theorem pC {m k:Nat} (h:m<B9^k):(aI B9 m).length<=k:=by
 rcases dB m with rfl | hm
 ·rw[dM];exact aK _
 obtain ⟨h1,_,h3⟩:=kH (B:=B9) de hm;have h1:B9^ ((aI B9 m).length-1)<=m:=by exact_mod_cast h1
 have:=(fD (show 1<B9 by decide)).1 (bX h1 h);omega
theorem v9 (m:Nat):valB B9 (aI B9 m)=m:=iT de m
theorem b97 (p:Prop) (hp:Decidable p) (m:Nat) (q:Prop) (hq:Decidable q) (n:Nat) (hm:m<B9^100) (hn:n<B9^100):
  body Tp [c107,c129] {} false f290 [.agg [.bl p hp,Ls (aI B9 m)],.agg [.bl q hq,Ls (aI B9 n)]] (.agg [.bl (addP p m q n) inferInstance,Ls (aI B9 (addN p m q n))]):=by
 have im:InB B9 (aI B9 m):=cR de m;have jn:InB B9 (aI B9 n):=cR de n;have lm:=pC hm;have ln:=pC hn;have hc:=Me m n;have vm:=v9 m;have vn:=v9 n;(repeat refine ZG ?_);(apply Br.mk<;>intro)
 ·rename_i h;have e1:p↔addP p m q n:=by unfold addP;simp[h]
  have e2:(valB B9 (aI B9 m)+valB B9 (aI B9 n)).toNat=addN p m q n:=by unfold addN;rw[aD h];omega
  (repeat'((conv=>whnf);first|apply pI|apply pJ|fail));refine Need.mk ⟨im,jn,om,om⟩ ?_;(repeat'((conv=>whnf);first|apply pJ|fail));(conv=>whnf);(repeat' first|exact trivial|apply aA)
  ·exact e1
  skip;exact aP (aI B9) e2
 rename_i h;(conv=>whnf);refine Need.mk ⟨im,jn⟩ ?_;(apply Br.mk<;>intro)
 ·rename_i hg;have hle:n<=m:=om;have e1:p↔addP p m q n:=by unfold addP;simp[hle]
  have e2:(valB B9 (aI B9 m)-valB B9 (aI B9 n)).toNat=addN p m q n:=by unfold addN;rw[aC h,aD hle];omega
  (repeat'((conv=>whnf);first|apply pI|apply pJ|fail));refine Need.mk ⟨im,jn,om,om,om⟩ ?_;(repeat'((conv=>whnf);first|apply pJ|fail));(conv=>whnf);(repeat' first|exact trivial|apply aA)
  ·exact e1
  (conv=>whnf);exact aP (aI B9) e2
 rename_i hg;have hle:¬n<=m:=om;have e1:q↔addP p m q n:=by unfold addP;simp[hle,h]
 have e2:(valB B9 (aI B9 n)-valB B9 (aI B9 m)).toNat=addN p m q n:=by unfold addN;rw[aC h,aC hle];omega
 (repeat'((conv=>whnf);first|apply pI|apply pJ|fail));refine Need.mk ⟨jn,im,om,om,om⟩ ?_;(repeat'((conv=>whnf);first|apply pJ|fail));(conv=>whnf);(repeat' first|exact trivial|apply aA)
 ·exact e1
 (conv=>whnf);exact aP (aI B9) e2
def Cw (a:List Int):Prop:=a=aI B9 (valB B9 a).toNat/\(valB B9 a).toNat<B9^100
def c97:Con:=aR 290 false fun args K=>match args with
 | [.agg [.bl p hp,.seq (.int .i64) a],.agg [.bl q hq,.seq (.int .i64) b]]=>Need (Cw a/\Cw b) (K (.agg [.bl (addP p (valB B9 a).toNat q (valB B9 b).toNat) inferInstance,Ls (aI B9 (@addN p hp (valB B9 a).toNat q hq (valB B9 b).toNat))]))
 | _=>False
theorem k97:aO Tp c97:=by
 refine kO func290 fun args K h=>?_;simp only[c97] at h;split at h
 ·rename_i p hp a q hq b;refine ⟨_,h.go,?_⟩;obtain ⟨⟨ha,hm⟩,hb,hn⟩:=h.ok;have ht:=triB func290 ntmps290 (by simp[k107,k129]) (b97 p hp (valB B9 a).toNat q hq (valB B9 b).toNat hm hn);rw[<- ha,<- hb] at ht;exact ht
 cases h
theorem aKz {l k:Nat} (h:l<=9*k):(10:Nat)^l<=B9^k:=by
 have e9:(10:Nat)^9=B9:=de;rw[<- e9,<- Nat.pow_mul];exact bG om h
theorem rX {s:Bx} (h:form s) (hl:(digs s).length<=300):aT (digs s)<B9^34:=
 aZ (iE (digs s) h.2.2) (aKz om)
theorem jH {s:Bx}:valI s=sgP (s.headD 0=45) (aT (digs s):Nat):=by
 unfold valI sgP digs;split
 ·rfl
 rfl
theorem fU {s:Bx} (h:form s) (hl:(digs s).length<=300):Cw (aI B9 (aT (digs s))):=by
 refine ⟨by rw[v9,aJ],?_⟩;rw[v9,aJ];exact aZ (rX h hl) (bG de om)
def eN (a b:Bx) (r:Bx × Int):Bx × Int:=if chk2 a b≠0 then ([],chk2 a b) else r
theorem oF {a b:Bx} (h:¬chk2 a b≠0):chkI a=0/\chkI b=0:=by
 unfold chk2 at h;split at h
 ·rename_i h1;exact absurd h1 h
 rename_i h1;exact ⟨bC.1 h1,bC.1 h⟩
theorem lZ {n:Int} (h:n.natAbs<10^40):resI n=(itoa n,0):=by
 unfold resI lim;rw[aC];have:=oC 39 n.natAbs h;simp;omega
theorem aOg (a b:Bx):sgP (addP (a.headD 0=45) (valB B9 (aI B9 (aT (digs a)))).toNat (b.headD 0=45) (valB B9 (aI B9 (aT (digs b)))).toNat) (valB B9 (aI B9 (addN (a.headD 0=45) (valB B9 (aI B9 (aT (digs a)))).toNat (b.headD 0=45) (valB B9 (aI B9 (aT (digs b)))).toNat)))=valI a+valI b:=by
 simp only[v9,aJ,Sj,jH]
theorem b55 (a b:Bx):body Tp [c94,c95,c61,c98,c97,c96] {} true f253 [S a,S b] (.tup [S (eN a b (resI (valI a+valI b))).1,I (eN a b (resI (valI a+valI b))).2]):=by
 unfold eN;(apply Br.mk<;>intro)
 ·rename_i h;rw[aD h];exact ZF
 rename_i h;rw[aC h];obtain ⟨ha,hb⟩:=oF h;obtain ⟨fa,la⟩:=eK ha;obtain ⟨fb,lb⟩:=eK hb;refine Need.mk ⟨rfl,fa,fb⟩ ?_;(apply Br.mk<;>intro)
 ·rename_i hs;have h1:=lH fa hs.1;have h2:=lH fb hs.2;rw[lZ om];exact ZGF
 rename_i hs;have hv:=aOg a b;refine Need.mk ⟨fa,om⟩ ?_;refine Need.mk ⟨fb,om⟩ ?_;refine Need.mk ⟨fU fa la,fU fb lb⟩ ?_;refine Need.mk (jM (aIk (fU fa la).2 (fU fb lb).2)) ?_;(conv=>whnf);(repeat' first|exact trivial|rfl|apply aA)
 ·exact aP (fun z=>(resI z).1) hv
 exact aP (fun z=>(resI z).2) hv
theorem aK0 (p:Prop) [Decidable p] (n:Int):sgP (¬p) n= -sgP p n:=by unfold sgP;by_cases h:p<;>simp[h]
theorem aIl (a b:Bx):sgP (addP (a.headD 0=45) (valB B9 (aI B9 (aT (digs a)))).toNat (¬b.headD 0=45) (valB B9 (aI B9 (aT (digs b)))).toNat) (valB B9 (aI B9 (addN (a.headD 0=45) (valB B9 (aI B9 (aT (digs a)))).toNat (¬b.headD 0=45) (valB B9 (aI B9 (aT (digs b)))).toNat)))=valI a-valI b:=by
 simp only[v9,aJ,Sj,jH,aK0];omega
theorem b60 (a b:Bx):body Tp [c94,c95,c61,c98,c97,c96] {} true f244 [S a,S b] (.tup [S (eN a b (resI (valI a-valI b))).1,I (eN a b (resI (valI a-valI b))).2]):=by
 unfold eN;(apply Br.mk<;>intro)
 ·rename_i h;rw[aD h];exact ZF
 rename_i h;rw[aC h];obtain ⟨ha,hb⟩:=oF h;obtain ⟨fa,la⟩:=eK ha;obtain ⟨fb,lb⟩:=eK hb;refine Need.mk ⟨rfl,fa,fb⟩ ?_;(apply Br.mk<;>intro)
 ·rename_i hs;have h1:=lH fa hs.1;have h2:=lH fb hs.2;rw[lZ om];exact ZGF
 rename_i hs;have hv:=aIl a b;refine Need.mk ⟨fb,om⟩ ?_;(repeat'((conv=>whnf);first|apply pI|apply pJ|refine Zl ?_|fail));refine Need.mk ⟨fa,om⟩ ?_;(repeat'((conv=>whnf);first|apply pI|apply pJ|fail));refine Need.mk ⟨fU fa la,fU fb lb⟩ ?_;(repeat'((conv=>whnf);first|apply pI|apply pJ|fail));refine Need.mk (jM (aIk (fU fa la).2 (fU fb lb).2)) ?_;(repeat'((conv=>whnf);first|apply pI|apply pJ|fail));(conv=>whnf);(repeat' first|exact trivial|rfl|apply aA)
 ·exact aP (fun z=>(resI z).1) hv
 exact aP (fun z=>(resI z).2) hv
theorem Xa {P:Program} {f:FuncId} {args:List SV} {t:Ty} {ys:List t.T} {e:TypeId} (h2:t.flat=true) (h:OTri P f args (.ref 0 1) t ys e):Tri P true f args (.seq t ys):=by
 intro ok w vs hg hok hr;refine (h ok w vs hg hok hr).mono ?_;rintro en w' ⟨v,L',rfl,hb,hL,⟨hlen,hmax,us,hown,hel⟩,hrel⟩;refine ⟨v,rfl,hb,?_⟩;cases hrel with
 | ref _ _ _ hn h0 hk hv=>
 have:=hv rfl;subst this;refine .seq t ys _ ?_;rcases dJ hown with ⟨e1,e2,e3,e4⟩ | ⟨g,cur,e1,e2,e3,e4,e5,e6,e7⟩
 ·exact ⟨none,0,0,by simp[Core.head,envO,e1,e2,e3],om,aN _,aK _,fun h=>absurd h (gR _)⟩
 have hg1:w.heap.size<=g:=hL g (by simp[e1]);have hg2:g<w'.heap.size:=(aF.1 e3).1;refine ⟨some ⟨g,0,none⟩,L'.len,L'.cap,by simp[Core.head,envO,e1],hlen,e4,hmax,fun h0=>⟨g,0,rfl,.inr ⟨hg1,hg2⟩,fun i hi=>⟨_,(hel i hi).length,?_,(hel i hi).flat h2⟩⟩⟩;intro j v hj;rw[aU] at hj;split at hj
 ·rw[bD,<- e7,aU] at hj;split at hj
  ·simp only[env0,World.cell?,e3];simpa using hj
  cases hj
 cases hj
def c99f:Con:=aR 236 true fun args K=>match args with
 | [.seq (.int .i64) a,.seq (.int .i64) b]=>Need (InB B9 a/\InB B9 b/\a.length<=100000/\b.length<=100000) (K (Ls (aI B9 (valB B9 a*valB B9 b).toNat)))
 | _=>False
theorem k99f:aO Tp c99f:=by
 refine kO func236 fun args K h=>?_;simp only[c99f] at h;split at h
 ·rename_i a b;exact ⟨_,h.go,Xa rfl (tG (by simp[k132,k131]) func236 (by simp[ntmps236]) rfl (b99 a b h.ok))⟩
 cases h
theorem aC5 (p q:Prop) [Decidable p] [Decidable q] (m n:Int):sgP (¬(p↔q)) (m*n)=sgP p m*sgP q n:=by
 unfold sgP;by_cases hp:p<;>by_cases hq:q<;>simp[hp,hq,Int.neg_mul,sS]
theorem aC6 {s:Bx} (h:form s):(valI s).natAbs<10^s.length:=by
 obtain ⟨h1,h2,h3⟩:=h;have hb:=iE (digs s) h3;have hp:(10:Nat)^ (digs s).length<=10^s.length:=bG om (uT s).1;have hv:valI s=aT (digs s)\/valI s= -(aT (digs s):Int):=by
  unfold valI digs;split
  ·exact .inr rfl
  exact .inl rfl
 omega
theorem Oz {a b:Bx} (ha:form a) (hb:form b) (h:a.length+b.length<=18):(valI a*valI b).natAbs<1000000000000000000:=by
 have h1:=aC6 ha;have h2:=aC6 hb;rw[dQ];have h3:(valI a).natAbs*(valI b).natAbs<10^a.length*10^b.length:=eL h1 h2;rw[<- sO] at h3;exact aZ h3 (bL (bG om h) de)
theorem aN1 (a b:Bx) (m:Nat) (hd:Decidable (¬(a.headD 0=45↔b.headD 0=45))) (hm:m=(valB B9 (aI B9 (aT (digs a)))*valB B9 (aI B9 (aT (digs b)))).toNat):sgP (¬(a.headD 0=45↔b.headD 0=45)) (valB B9 (aI B9 m))=valI a*valI b:=by
 subst hm;have:hd=instDecidableNot:=Subsingleton.elim _ _;subst this;rw[v9,v9,v9,<- dE,aJ,dE,aC5,jH,jH]
theorem aEo {a b:Bx} (fa:form a) (la:(digs a).length<=300) (fb:form b) (lb:(digs b).length<=300):Hw (aI B9 (valB B9 (aI B9 (aT (digs a)))*valB B9 (aI B9 (aT (digs b)))).toNat):=by
 refine jM ?_;rw[v9,v9,<- dE,aJ];have h3:=eL (rX fa la) (rX fb lb);rw[<- sO] at h3;exact aZ h3 (bG de om)
theorem b58 (a b:Bx):body Tp [c94,c95,c61,c98,c99f,c96] {} true f247 [S a,S b] (.tup [S (eN a b (resI (valI a*valI b))).1,I (eN a b (resI (valI a*valI b))).2]):=by
 unfold eN;(apply Br.mk<;>intro)
 ·rename_i h;rw[aD h];exact ZF
 rename_i h;rw[aC h];obtain ⟨ha,hb⟩:=oF h;obtain ⟨fa,la⟩:=eK ha;obtain ⟨fb,lb⟩:=eK hb;(repeat' first|refine ZG ?_|refine Zg fun _=>?_);(apply Br.mk<;>intro)
 ·rename_i hs;have hm:=Oz fa fb om;refine Need.mk ⟨rfl,fa,fb⟩ ?_;refine Br.mk (fun _=>?_) (fun hn=>absurd (show a.length<=18/\b.length<=18 by omega) hn);rw[lZ om];exact ZGF
 rename_i hs;have hv:=fun hd=>aN1 a b _ hd rfl;refine Need.mk ⟨fa,om⟩ ?_;refine Need.mk ⟨fb,om⟩ ?_;have l1:=pC (rX fa la);have l2:=pC (rX fb lb);(repeat'((conv=>whnf);first|apply pI|apply pJ|refine Zl ?_|fail));refine Need.mk ⟨cR de _,cR de _,om,om⟩ ?_;(repeat'((conv=>whnf);first|apply pI|apply pJ|fail));refine Need.mk (aEo fa la fb lb) ?_;(repeat'((conv=>whnf);first|apply pI|apply pJ|fail));(conv=>whnf);(repeat' first|exact trivial|rfl|apply aA)
 ·exact aP (fun z=>(resI z).1) (hv _)
 exact aP (fun z=>(resI z).2) (hv _)
def cmpI (x y:Int):Int:=if x<y then -1 else if x=y then 0 else 1
def c119:Con:=aR 99 true fun | [.val (.int .i64 x)],K=>K (.val (.bool false)) | _,_=>False
theorem k119:aO Tp c119:=by
 refine kQ {} func99 ntmps99 kn fun _ _ h=>?_;split at h;case h_2=>cases h
 refine kb h ?_;(conv=>whnf);exact ⟨fun h=>absurd rfl h,fun h=>by cases h⟩
def c76:Con:=aR 64 true fun | [.val (.int .i64 x),.val (.int .i64 y)],K=>K (I (cmpI x y)) | _,_=>False
theorem k76:aO Tp c76:=by
 refine kQ {} func64 ntmps64 (kc k119 kn) fun _ _ h=>?_;split at h;case h_2=>cases h
 refine kb h ?_;unfold cmpI;(repeat'((conv=>whnf);first|refine Zr (fun _=>?_) fun _=>?_|fail));all_goals (skip;(conv=>whnf);(repeat' first|rfl|apply aA))
 all_goals (repeat' split)
 all_goals omega
def aC7 (a b:Bx) (r:Int):Int × Int:=if chk2 a b≠0 then (0,chk2 a b) else (r,0)
theorem aN2 (p:Prop) [Decidable p] (n:Nat) (x y:Int) (hv:sgP p (valB B9 (aI B9 n))=x-y):cmpI x y=if ((aI B9 n).length:Int)=0 then 0 else if p then -1 else 1:=by
 rw[v9] at hv;have h0:((aI B9 n).length:Int)=0↔n=0:=by
  rw[<- rP (B:=B9) de,<- cI];omega
 unfold sgP at hv;unfold cmpI;by_cases hn:n=0
 ·rw[aD (h0.2 hn)];subst hn;have:x-y=0:=by rw[<- hv];split<;>rfl
  rw[aC om,aD om]
 rw[aC (fun h=>hn (h0.1 h))];by_cases hp:p
 ·rw[aD hp] at hv ⊢;rw[aD om]
 rw[aC hp] at hv ⊢;rw[aC om,aC om]
theorem b77 (a b:Bx):body Tp [c94,c95,c98,c97,c76] {} true f294 [S a,S b] (.tup [I (aC7 a b (cmpI (valI a) (valI b))).1,I (aC7 a b (cmpI (valI a) (valI b))).2]):=by
 unfold aC7;(apply Br.mk<;>intro)
 ·rename_i h;rw[aD h];exact ZF
 rename_i h;rw[aC h];obtain ⟨ha,hb⟩:=oF h;obtain ⟨fa,la⟩:=eK ha;obtain ⟨fb,lb⟩:=eK hb;refine Need.mk ⟨rfl,fa,fb⟩ ?_;(apply Br.mk<;>intro)
 ·skip;exact ZF
 have hv:=aIl a b;refine Need.mk ⟨fa,om⟩ ?_;refine Need.mk ⟨fb,om⟩ ?_;(repeat'((conv=>whnf);first|refine Zl ?_|fail));refine Need.mk ⟨fU fa la,fU fb lb⟩ ?_;have hc:=aN2 _ _ _ _ hv;(repeat' first|refine ZG ?_|refine Zg fun _=>?_);(apply Br.mk<;>intro)
 ·rename_i h0;rw[aD h0] at hc;(conv=>whnf);(repeat' first|exact trivial|rfl|apply aA);exact hc.symm
 rename_i h0;rw[aC h0] at hc;(apply Br.mk<;>intro)
 ·rename_i h1;rw[aD h1] at hc;(conv=>whnf);(repeat' first|exact trivial|rfl|apply aA);exact hc.symm
 rename_i h1;rw[aC h1] at hc;(conv=>whnf);(repeat' first|exact trivial|rfl|apply aA);exact hc.symm
theorem w135 (a:Option Addr) (n c:Nat) (w:World):Calls Tp 237 #[.slice a n c] w fun e w'=>e= .returned (.func (.func 284) #[] #[.pointer (some ⟨w.heap.size,0,none⟩)])/\w'=w.alloc (.cells #[.slice a n c] 41):=by
 go_enter func237,ntmps237
 go_wp2
 go_ret
 exact ⟨rfl,rfl⟩
def aMz:Con:=Jf 237 fun args H K=>match args with
 | [.ref nm k]=>(match hget H nm with
  | .vec j t xs e=>Need (j=k) <| K (.clo 284 [] [.lelem [.ref nm k] 0]) H
  | _=>False)
 | _=>False
theorem k135h:aO Tp aMz:=by
 refine An (enters_of func237 kr rfl) ?_;intro args H K h;split at h;case h_2=>cases h
 rename_i nm k;split at h;case h_2=>cases h
 rename_i j t xs e ho;obtain ⟨hjk,hK⟩:=h;subst hjk;refine ⟨fun s H'=>s= .clo 284 [] [.lelem [.ref nm j] 0]/\H'=H,fun s H' e=>by rw[e.1,e.2];exact hK,?_⟩;intro G loc ver w vs hC hI hr;cases hr with
 | cons _ v1 _ vs1 h1 hr=>
 cases hr;obtain ⟨hv,_⟩:=wG hI h1 ho;have hw:=w135 ((loc nm).blk.map fun p=>⟨p.1,p.2,none⟩) (loc nm).len (loc nm).cap w;rw[show (Value.slice ((loc nm).blk.map fun p=>⟨p.1,p.2,none⟩) (loc nm).len (loc nm).cap)=v1 from hv.symm] at hw;refine hw.mono ?_;rintro en w' ⟨rfl,rfl⟩;obtain ⟨hI',hx⟩:=hI.grow (w':=w.alloc (.cells #[v1] 41)) ((Below.refl _ _).alloc (aN _) _);refine ⟨_,rfl,_,_,_,_,⟨rfl,rfl⟩,hI',.clo _ _ _ _ _ .nil (.cons _ _ _ _ ?_ .nil),hx⟩;refine .lelem _ 0 w.heap.size 0 [v1] (.cons _ _ _ _ (h1.ext hx) .nil) ?_ ?_
 ·refine ⟨.inr (.inr hI.size),si,?_⟩;rintro ⟨k,o,hk,hb⟩;have:=(hI.objs k _ hk).block (b:=w.heap.size) hb;exact absurd this (by simp[envOf])
 intro i u hi;cases i with
 | zero=>
  simp at hi;subst hi;have:=kG w (.cells #[v1] 41);show (w.alloc (.cells #[v1] 41)).cell? ⟨w.heap.size,0+0,none⟩=some v1;unfold World.cell?;simp only[this];rfl
 | succ i=>simp at hi
abbrev itS (n k:Nat):List SV:=[I ((n-1-k:Nat)),.any]
theorem b166s (n:Nat):Jv Tp [] { asks:=[(0,[])] } f284 [.lelem [.sft none] 0] n (itS n):=by
 (repeat' first|refine ZG ?_|refine Zg fun _=>?_);refine Ask.mk ⟨{ X:=Nat,pre:=fun i=>i<=n,mod:=fun i _=>[(3,I ((n:Int)-1-i))],heap:=fun i _=>[.yst (some i) n (itS n)],mu:=fun i=>n-i },rfl,?_⟩;(repeat refine ZG ?_);refine ⟨⟨(0:Nat),aK _,ZE⟩,fun (i:Nat) (hi:i<=n)=>?_⟩;(apply Br.mk<;>intro)
 ·have hlt:i<n:=om;have e:((n:Int)-1-i)=((n-1-i:Nat):Int):=om;(repeat refine ZG ?_);refine eS (n-1-i) om ?_;(repeat'((conv=>whnf);first|refine Zn ?_|fail));refine Need.mk (by (repeat' first|exact trivial|rfl|apply aA);exact e) ?_;refine Two.mk ?_ ?_
  ·(repeat refine ZG ?_);refine ⟨(i+1:Nat),by show n-(i+1)<n-i;omega,hlt,?_⟩;exact ZE
  (conv=>whnf)
  trivial
 (conv=>whnf);omega
def aH4:Con:=aR 284 false fun args K=>match args with | [.lelem [.sft none] 0]=>∃n,K (.itr n (itS n)) | _=>False
theorem k166s:aO Tp aH4:=by
 refine kO func284 fun args K h=>?_;simp only[aH4] at h;split at h
 ·obtain ⟨n,hK⟩:=h;exact ⟨_,hK,tH si func284 (by simp[ntmps284]) (b166s n)⟩
 cases h
end RB
end
section
namespace IB
theorem aEg {B:Nat} (hB:2<=B) {w:List Int} (h:InB B w) {j k:Nat} (hk:2<=k) (hl:j+k<w.length) (hz:∀i,j+(k+1)<=i->w.getD i 0=0):
  valB B (w.drop j)<((w.getD (j+k) 0*B+w.getD (j+k-1) 0)*B+w.getD (j+k-2) 0+1)*(B:Int)^ (k-2):=by
 have e0:=mU (B:=B) (w.drop j) (k-2) (by rw[bB];omega);rw[gE,show j+(k-2)=j+k-2 by omega] at e0;have b0:=nM hB (tI (pF h j) (k-2)) (n:=k-2) (by rw[aY];omega);rw[eU w (j+k-2) om,show j+k-2+1=j+k-1 by omega,eU w (j+k-1) om,show j+k-1+1=j+k by omega,eU w (j+k) hl] at e0;have ez:valB B (w.drop (j+k+1))=0:=by
  have:w.drop (j+k+1)=List.replicate (w.length-(j+k+1)) 0:=by
   refine rS si fun i hi=>?_;have:=hz (j+k+1+i) om;rw[bB] at hi;have hi':j+k+1+i<w.length:=om;simpa [aB,bD,cZ,hi,hi'] using this
  rw[this,wL]
 simp only[valB,ez,dL,eV] at e0;have hP:=kN hB (k-2);generalize (B:Int)^ (k-2)=P at*;generalize w.getD (j+k) 0=x0 at*;generalize w.getD (j+k-1) 0=x1 at*;generalize w.getD (j+k-2) 0=x2 at*
 rw[e0,show ((x0*B+x1)*B+x2+1)*P=P*(x2+B*(x1+B*x0))+P by
  rw[jO _ 1,iP,bJ _ P,iM _ x2,bJ _ (B:Int),iM _ x1,bJ x0]]
 omega
theorem aJ9 {B:Nat} (hB:2<=B) {v:List Int} (h:InB B v) (hk:2<=v.length):
  (v.getD (v.length-1) 0*B+v.getD (v.length-2) 0)*(B:Int)^ (v.length-2)<=valB B v:=by
 have e0:=mU (B:=B) v (v.length-2) om;have b0:=dZ (tI h (v.length-2));rw[eU v (v.length-2) om,show v.length-2+1=v.length-1 by omega,eU v (v.length-1) om,dF om] at e0;simp only[valB,dL,eV] at e0;rw[bJ,iM (v.getD (v.length-1) 0*(B:Int)),bJ (v.getD (v.length-1) 0)];omega
theorem aAc {B:Nat} (hB:2<=B) {u v:List Int} (hu:InB B u) (hv:InB B v) (hV:0<valB B v) {m:Nat} (hm:m+v.length=u.length) (h0:valB B (u.drop m)<valB B v) (hk:2<=v.length) (hv1:0<v.getD (v.length-1) 0) (s:Nat) (hs:s<m) (f:Nat):
  (∀i,m-1-s+(v.length+1)<=i->(gX B u v m s).1.getD i 0=0)/\
  0<=valB B ((gX B u v m s).1.drop (m-1-s))/valB B v/\valB B ((gX B u v m s).1.drop (m-1-s))/valB B v<B/\
  (∀top,top=(gX B u v m s).1.getD (m-1-s+v.length) 0*B+(gX B u v m s).1.getD (m-1-s+v.length-1) 0->
   valB B ((gX B u v m s).1.drop (m-1-s))/valB B v<=estF B (v.getD (v.length-1) 0) (v.getD (v.length-2) 0) ((gX B u v m s).1.getD (m-1-s+v.length-2) 0) f (top/v.getD (v.length-1) 0) (top%v.getD (v.length-1) 0)/\
   estF B (v.getD (v.length-1) 0) (v.getD (v.length-2) 0) ((gX B u v m s).1.getD (m-1-s+v.length-2) 0) f (top/v.getD (v.length-1) 0) (top%v.getD (v.length-1) 0)<=top/v.getD (v.length-1) 0):=by
 obtain ⟨h1,h2,h3,h4,h5,h6⟩:=xR hB hu hv hV hm h0 s om;obtain ⟨j,hj⟩:∃j,m-1-s=j:=⟨_,rfl⟩;have e1:m-s=j+1:=om;rw[hj];rw[e1] at h5;generalize (gX B u v m s).1=w at h1 h2 h5 ⊢;have hw:valB B (w.drop j)=w.getD j 0+(B:Int)*valB B (w.drop (j+1)):=by rw[eU w j om];rfl
 have g1:=h2.get (show j<w.length by omega);have hVB:=vT hv;have hz:∀i,j+(v.length+1)<=i->w.getD i 0=0:=fun i hi=>by
  have:=Ou hB (pF h2 (j+1)) (n:=v.length) om (i-(j+1)) om;rw[Ef] at this;rwa [show j+1+(i-(j+1))=i by omega] at this
 have hW0:=dZ (pF h2 j);have hWB:valB B (w.drop j)<(B:Int)*valB B v:=by
  have:(B:Int)*(valB B (w.drop (j+1))+1)<=B*valB B v:=aV om om;rw[cO,eT] at this;omega
 have t3:=aEg hB h2 hk om hz;have t2:=aJ9 hB hv hk;obtain ⟨W,hW⟩:∃W,valB B (w.drop j)=W:=⟨_,rfl⟩;rw[hW] at hWB hW0 t3 ⊢;have hQ0:0<=W/valB B v:=dU om om;have hQV:W/valB B v*valB B v<=W:=sZ _ om;have hQB:W/valB B v<B:=fI hV hWB;refine ⟨hz,hQ0,hQB,?_⟩;rintro top rfl;have hP:=kN hB (v.length-2);have x2:=h2.get (show j+v.length-2<w.length by omega);have hB':(0:Int)<B:=om;have hPB:(0:Int)<B*(B:Int)^ (v.length-2):=jP hB' hP;have w2:=hv.get (show v.length-2<v.length by omega);refine aCw hP om t2 om t3 hQB hQ0 hQV f _ _ ?_ ?_
 ·rw[bJ (_/ _) _];exact (Int.mul_ediv_add_emod _ _).symm
 refine aEe (B:=(B:Int)) (P:=B*(B:Int)^ (v.length-2)) hPB hv1 ?_ ?_ hQ0 hQV
 ·refine eW ?_ t2;rw[<- cP];exact bN om (dW hP)
 refine Int.lt_of_lt_of_le t3 ?_;rw[<- cP];refine bN ?_ (dW hP);rw[jO _ 1,iP];omega
theorem aAd {B:Nat} (hB:2<=B) {u v:List Int} (hu:InB B u) (hv:InB B v) (hk:1<=v.length) (hv1:0<v.getD (v.length-1) 0) {m:Nat} (hm:m+v.length=u.length) (hz:u.getD (u.length-1) 0=0):valB B (u.drop m)<valB B v/\0<valB B v:=by
 have e0:=mU (B:=B) v (v.length-1) om;have b0:=dZ (tI hv (v.length-1));rw[eU v (v.length-1) om,dF om] at e0;simp only[valB,dL,eV] at e0;have hP:=kN hB (v.length-1);have h1:(B:Int)^ (v.length-1)*1<=(B:Int)^ (v.length-1)*v.getD (v.length-1) 0:=aV om om;have h2:valB B (u.drop m)<(B:Int)^ (v.length-1):=aCv hB (pF hu m) fun i hi=>by
  rw[Ef];by_cases hi2:m+i<u.length
  ·rw[show m+i=u.length-1 by omega];exact hz
  exact mN _ _ om
 omega
theorem Ov {B:Nat} (hB:2<=B) {n k:Nat} (hk:1<=k) (h1:B^ (k-1)<=n) (h2:n<B^k):
  (aI B n).length=k/\(aI B n).getD (k-1) 0*(B:Int)^ (k-1)<=n/\(n:Int)<((aI B n).getD (k-1) 0+1)*(B:Int)^ (k-1):=by
 have hp:0<B^ (k-1):=sQ om;obtain ⟨g1,g2,g3⟩:=kH hB (n:=n) om;have g1:B^ ((aI B n).length-1)<=n:=by exact_mod_cast g1
 have g2:n<B^ (aI B n).length:=by exact_mod_cast g2
 have a1:=(fD (show 1<B by omega)).1 (bX g1 h2);have a2:=(fD (show 1<B by omega)).1 (bX h1 g2);have hl:(aI B n).length=k:=om;have hi:=cR hB n;have e0:=mU (B:=B) (aI B n) (k-1) om;have b0:=dZ (tI hi (k-1));have b1:=nM hB (tI hi (k-1)) (n:=k-1) (by rw[aY];omega);rw[eU _ (k-1) om,dF om,iT hB] at e0;simp only[valB,dL,eV] at e0;refine ⟨hl,?_,?_⟩
 ·rw[bJ];omega
 rw[jO,iP,bJ];omega
theorem scale {B:Nat} (hB:2<=B) {n:Nat} (hn:0<n) {f:Nat} (hf:(f:Int)=(B:Int)/((aI B n).getD ((aI B n).length-1) 0+1)):
  0<f/\f<B/\(aI B (n*f)).length=(aI B n).length/\(B:Int)<=4*(aI B (n*f)).getD ((aI B (n*f)).length-1) 0:=by
 obtain ⟨g1,g2,g3⟩:=kH hB hn;have g1:B^ ((aI B n).length-1)<=n:=by exact_mod_cast g1
 have g2:n<B^ (aI B n).length:=by exact_mod_cast g2
 obtain ⟨k,hk⟩:∃k,(aI B n).length=k:=⟨_,rfl⟩;rw[hk] at g1 g2 g3 hf ⊢;obtain ⟨_,t1,t2⟩:=Ov hB g3 g1 g2;have ht:=(cR hB n).get (show k-1<(aI B n).length by omega);have ht1:(aI B n).getD (k-1) 0≠0:=by
  have hne:aI B n≠ []:=by rw[<- cB];omega
  have:=xQ hB n hne;rw[List.getLast_eq_getElem] at this;rw[aB,aM om,oJ];simpa [hk] using this
 obtain ⟨t,ht'⟩:∃t:Nat,(aI B n).getD (k-1) 0=t:=⟨_,(bT ht.1).choose_spec⟩;rw[ht'] at hf t1 t2 ht ht1;obtain ⟨f1,f2,f3⟩:=aAb (B:=(B:Int)) (t:=(t:Int)) (f:=(f:Int)) om ht.2 hf;have f2:f*(t+1)<=B:=by exact_mod_cast f2
 have f3:B<=4*(f*t):=by exact_mod_cast f3
 have t1:t*B^ (k-1)<=n:=by exact_mod_cast t1
 have t2:n<(t+1)*B^ (k-1):=by exact_mod_cast t2
 have hf0:0<f:=om;have u1:f*t*B^ (k-1)<=n*f:=by
  rw[pD,fL n f];exact oS f t1
 have u2:n*f<f*(t+1)*B^ (k-1):=by
  rw[pD,fL n f];exact Nat.mul_lt_mul_of_pos_left t2 hf0
 have u3:f*(t+1)*B^ (k-1)<=B^k:=by
  rw[show B^k=B*B^ (k-1) by rw[<- Nat.pow_succ'];congr 1;omega];exact bQ _ f2
 have hft:1<=f*t:=vK hf0 om;have u4:B^ (k-1)<=n*f:=bL (by rw[<- iC (B^ (k-1)),<- pD,vI];exact bQ _ hft) u1;obtain ⟨v1,v2,v3⟩:=Ov hB g3 u4 (aZ u2 u3);have hfB:f<B:=by
  have:f*2<=f*(t+1):=oS f om;omega
 refine ⟨hf0,hfB,v1,?_⟩;rw[v1];have hp:(0:Int)<(B:Int)^ (k-1):=kN hB (k-1);have u1':(f:Int)*t*(B:Int)^ (k-1)<=((n*f:Nat):Int):=by exact_mod_cast u1
 have:(f:Int)*t<(aI B (n*f)).getD (k-1) 0+1:=nU (Int.lt_of_le_of_lt u1' v3) (dW hp);have f3':(B:Int)<=4*((f:Int)*t):=by exact_mod_cast f3
 omega
theorem aEh {B:Nat} (hB:2<=B) (n k:Nat):InB B (aI B n++List.replicate k 0)/\valB B (aI B n++List.replicate k 0)=n/\(0<k->(aI B n++List.replicate k 0).getD ((aI B n++List.replicate k 0).length-1) 0=0):=by
 refine ⟨InB.append.2 ⟨cR hB n,fun x hx=>?_⟩,?_,fun hk=>?_⟩
 ·rw[(mH.1 hx).2];omega
 ·rw[pW,wL,dL,eV,iT hB]
 rw[aB,cS (by simp;omega)];simp[cZ];split<;>rfl
theorem aEi {B:Nat} (hB:2<=B) {m f:Nat} (hf:f<B):(aI B (m*f)).length<=(aI B m).length+1:=by
 rcases dB m with rfl | hm
 ·rw[yG,dM];exact aK _
 rcases dB f with rfl | hf0
 ·rw[Nat.mul_zero,dM];exact aK _
 obtain ⟨g1,g2,g3⟩:=kH hB hm;have g2:m<B^ (aI B m).length:=by exact_mod_cast g2
 obtain ⟨q1,_,_⟩:=kH hB (n:=m*f) (vK hm hf0);have q1:B^ ((aI B (m*f)).length-1)<=m*f:=by exact_mod_cast q1
 have:m*f<B^ ((aI B m).length+1):=by
  rw[eD];exact eL g2 hf
 have:=(fD (show 1<B by omega)).1 (bX q1 this);omega
end IB
end
section
open Go Go.Proofs Go.Eng Go.Shelf IB Go.Lib Go.RowKit Tryz
namespace RB
theorem aH5 {n:Nat} (h:(aI B9 n).length=1):(aI B9 n).getD 0 0=n/\n<1000000000:=by
 have hv:=v9 n;have hg:=get9 (show InB B9 (aI B9 n) from cR de n) 0;cases hl:aI B9 n with
 | nil=>rw[hl] at h;simp at h
 | cons x r=>
  have hr:r= []:=by rw[hl] at h;simpa using h
  subst hr;rw[hl] at hv hg;simp only[valB,dL,eV] at hv;refine ⟨hv,?_⟩;have hg:0<=x/\x<1000000000:=hg;omega
theorem aH6 (l:List Int) (k:Nat):l++List.replicate k 0++ [0]=l++List.replicate (k+1) 0:=by
 rw[cC,<- sR]
theorem b106 (m n:Nat) (hm:m<B9^100) (hn:0<n/\n<B9^100):
  body Tp [c129,c134,c99,aMz,aH4,c136,c137,c138,c131] { asks:=[(0,[3]),(2,[3]),(4,[3])] } false f190 [Ls (aI B9 m),Ls (aI B9 n)] (.tup [Ls (aI B9 (m/n)),Ls (aI B9 (m%n))]):=by
 obtain ⟨hn0,hn⟩:=hn;have im:InB B9 (aI B9 m):=cR de m;have jn:InB B9 (aI B9 n):=cR de n;have lm:=pC hm;have ln:=pC hn;have hc:=Me m n;have vm:=v9 m;have vn:=v9 n;refine Need.mk ⟨im,jn⟩ ?_;(apply Br.mk<;>intro)
 ·rename_i h;have hlt:m<n:=om;rw[wT hlt,eB hlt,dM];exact ZF
 rename_i h;have hle:n<=m:=om;(repeat'((conv=>whnf);first|refine Zg fun _=>?_|fail));(apply Br.mk<;>intro)
 ·rename_i h1;obtain ⟨hx,hxlt⟩:=aH5 (n:=n) om;(repeat'((conv=>whnf);first|refine Zg fun _=>?_|refine Zn ?_|refine Z0 ?_|fail));refine Need.mk ⟨im,om,om⟩ ?_;(conv=>whnf);have e1:(valB B9 (aI B9 m)/(aI B9 n).getD 0 0).toNat=m/n:=by rw[vm,hx,<- fS,aJ]
  have e2:(valB B9 (aI B9 m)% (aI B9 n).getD 0 0).toNat=m%n:=by rw[vm,hx,<- sD,aJ]
  (repeat' first|exact trivial|apply aA)
  ·exact aP (aI B9) e1
  exact aP (aI B9) e2
 rename_i h1;have hk:2<=(aI B9 n).length:=by
  have:=(kH (B:=B9) de hn0).2.2;omega
 have ht:=get9 jn ((aI B9 n).length-1);obtain ⟨f,hf⟩:∃f:Nat,(f:Int)=1000000000/((aI B9 n).getD ((aI B9 n).length-1) 0+1):=⟨_,(bT (dU om om)).choose_spec.symm⟩;obtain ⟨f0,fB,sl,st⟩:=scale (B:=B9) de hn0 hf;have st:(1000000000:Int)<=4*(aI B9 (n*f)).getD ((aI B9 (n*f)).length-1) 0:=st;have fB:f<1000000000:=fB;(repeat' first|refine ZG ?_|refine Zg fun _=>?_);refine eS ((aI B9 n).length-1) om ?_;(repeat' first|refine ZG ?_|refine Zg fun _=>?_);rw[<- hf];have if1:InB B9 [(f:Int)]:=fun x hx=>by
  have:x=f:=by simpa using hx
  subst this;exact ⟨om,by show (f:Int)<1000000000;omega⟩
 have ef:∀k:Nat,(valB B9 (aI B9 k)*valB B9 [(f:Int)]).toNat=k*f:=fun k=>by
  rw[v9,show valB B9 [(f:Int)]=f by simp[valB],<- dE,aJ]
 refine Need.mk ⟨im,if1,om,by show 1<=100000;omega⟩ ?_;rw[ef];have sm:=aEi (B:=B9) de (m:=m) (show f<B9 from fB);(repeat'((conv=>whnf);first|refine Zn ?_|refine Zl ?_|fail));refine Need.mk ⟨jn,if1,om,by show 1<=100000;omega⟩ ?_;rw[ef];have ka:(aI B9 n).length<=(aI B9 m).length:=aH fun hx=>by
  have:=qH (B:=B9) de (m:=m) (n:=n) om;omega
 refine Ask.mk ⟨{ X:=Nat,pre:=fun i=>(aI B9 (m*f)).length+i<=(aI B9 m).length+1,mod:=fun _ _=>[],heap:=fun i H=>[V [],.cells [.ref 0 1] 41,V [],V (aI B9 (m*f)++List.replicate (i+1) 0),V (aI B9 (n*f)),V [],.cells [.ref 3 1] 41,V [],.cells [.ref 4 1] 41],mu:=fun i=>(aI B9 m).length+1-(aI B9 (m*f)).length-i,objs:=[3] },rfl,?_⟩;(repeat refine ZG ?_);refine ⟨⟨(0:Nat),sm,?_⟩,fun (i:Nat) hi=>?_⟩
 ·exact ZE
 have hi:(aI B9 (m*f)).length+i<=(aI B9 m).length+1:=hi;have hul:(aI B9 (m*f)++List.replicate (i+1) (0:Int)).length=(aI B9 (m*f)).length+(i+1):=by simp
 (repeat' first|refine ZG ?_|refine Zg fun _=>?_);(apply Br.mk<;>intro)
 ·rename_i hlt;(repeat refine ZG ?_);refine ⟨(i+1:Nat),by show (aI B9 m).length+1-(aI B9 (m*f)).length-(i+1)<(aI B9 m).length+1-(aI B9 (m*f)).length-i;omega,by show _+(i+1)<= _;omega,?_⟩;(repeat' first|exact trivial|rfl|exact Nat.one_pos|apply aA);exact aH6 _ _
 rename_i hge;have hge:(aI B9 m).length+1<=(aI B9 (m*f)).length+(i+1):=om;obtain ⟨iu,vu,zu⟩:=aEh (B:=B9) de (m*f) (i+1);have zu:=zu om;have jv:InB B9 (aI B9 (n*f)):=cR de _;obtain ⟨u,hu⟩:∃u,aI B9 (m*f)++List.replicate (i+1) (0:Int)=u:=⟨_,rfl⟩;rw[hu] at iu vu zu hul ⊢;obtain ⟨v,hv⟩:∃v,aI B9 (n*f)=v:=⟨_,rfl⟩;have vv:valB B9 v=((n*f:Nat):Int):=by rw[<- hv];exact v9 _
 rw[hv] at st sl jv ⊢;obtain ⟨M,hM⟩:∃M,u.length-v.length=M:=⟨_,rfl⟩;have hMu:M+v.length=u.length:=om;obtain ⟨s1,s2⟩:=aAd (B:=B9) de iu jv om om hMu zu;(repeat' first|refine ZG ?_|refine Zg fun _=>?_);rw[show ((u.length:Int)-v.length)=(M:Int) by omega];have v1p:250000000<=v.getD (v.length-1) 0:=om;have hspec:=xR (B:=B9) de iu jv s2 hMu s1;refine Ask.mk ⟨{ X:=Nat,pre:=fun s=>s<=M,mod:=fun _ _=>[],heap:=fun s H=>[V [],.cells [.ref 9 1] 41,V [],V (gX B9 u v M s).1,V v,V [],.cells [.ref 3 1] 41,V [],.cells [.ref 4 1] 41,V (gX B9 u v M s).2],mu:=fun s=>s,objs:=[3] },rfl,?_⟩;refine ⟨M,?_⟩;(conv=>whnf);refine Need.mk ⟨⟨rfl,rfl,si⟩,fun s hs=>⟨rfl,rfl,(hspec s hs).2.2.1⟩⟩ ?_;(repeat refine ZG ?_);refine ⟨⟨(0:Nat),rfl,aK _,?_⟩,fun (s:Nat) hs (hlt:s<M)=>?_,fun (s:Nat) hs (he:s=M)=>?_⟩
 ·exact ZE
 ·obtain ⟨w1,w2,w3,w4,w5,w6⟩:=hspec s om;obtain ⟨r1,r2,r3,r4⟩:=aAc (B:=B9) de iu jv s2 hMu s1 om om s hlt 8;have hst1:(gX B9 u v M (s+1)).1=(fO B9 (gX B9 u v M s).1 v (M-1-s) (valB B9 ((gX B9 u v M s).1.drop (M-1-s))/valB B9 v) (v.length+1)).1:=rfl;have hst2:(gX B9 u v M (s+1)).2=(gX B9 u v M s).2.set (M-1-s) (valB B9 ((gX B9 u v M s).1.drop (M-1-s))/valB B9 v):=rfl;obtain ⟨w,hw⟩:∃w,(gX B9 u v M s).1=w:=⟨_,rfl⟩;obtain ⟨p,hp⟩:∃p,(gX B9 u v M s).2=p:=⟨_,rfl⟩;obtain ⟨j,hj⟩:∃j,M-1-s=j:=⟨_,rfl⟩;obtain ⟨Q,hQ⟩:∃Q,valB B9 (w.drop j)/valB B9 v=Q:=⟨_,rfl⟩;rw[hw] at w1 w2 w5 w6 r1 r2 r3 r4 hst1 hst2;rw[hp] at w3 w4 w6 hst2;rw[hj] at r1 r2 r3 r4 hst1 hst2;rw[hQ] at r2 r3 r4 hst1 hst2;show hnfL (itS M s) _;(repeat'((conv=>whnf);first|refine Zg fun _=>?_|fail));(conv=>whnf);rw[hw,hj];refine Need.mk ⟨w2,jv,om,om,v1p,om,om⟩ ?_;rw[aJ];have g0:=get9 w2 (j+v.length);have g1:=get9 w2 (j+v.length-1);have hT:0<=top2 w v j/\top2 w v j<1000000000000000000:=by unfold top2;omega
  have hq4:top2 w v j/v.getD (v.length-1) 0<=4000000000:=by
   refine eW (wU om (show top2 w v j<=4000000000*v.getD (v.length-1) 0 by omega)) ?_;rw[Int.mul_ediv_cancel _ om];exact fX _
  have r5:Q<=estL w v j/\estL w v j<=4000000000:=⟨(r4 (top2 w v j) rfl).1,eW (r4 (top2 w v j) rfl).2 hq4⟩;obtain ⟨q0,hq0⟩:∃q0,estL w v j=q0:=⟨_,rfl⟩;rw[hq0] at r5;refine Ask.mk ⟨{ X:=Int,pre:=fun q=>Q<=q/\q<=4000000000,mod:=fun q _=>[(10,I q)],heap:=fun q H=>[V [],.cells [.ref 9 1] 41,V [],V w,V v,V [],.cells [.ref 3 1] 41,V [],.cells [.ref 4 1] 41,V p,.gone],mu:=fun q=>(q-Q).toNat,objs:=[3] },rfl,?_⟩;(repeat refine ZG ?_);refine ⟨⟨q0,r5,?_⟩,fun (q:Int) hq=>?_⟩
  ·(repeat' first|exact trivial|rfl|exact Nat.one_pos|apply aA)
   ·exact hq0
   exact hp
  obtain ⟨q1,q2⟩:=hq;have q1:Q<=q:=q1;obtain ⟨k1,k2,k3,_⟩:=rT (B:=B9) de w2 jv (j:=j) (q:=q) om (v.length+1) om;obtain ⟨k4,_⟩:=Wk (B:=B9) de w2 jv (j:=j) (q:=q) om om r1;have krest:=aAa (B:=B9) de w2 jv (j:=j) (q:=q) om (k:=v.length+1) om;have kQ:q*valB B9 v<=valB B9 (w.drop j)↔q<=Q:=by rw[<- hQ,hZ s2]
  refine Need.mk ⟨w2,jv,om,om,om,om⟩ ?_;rw[aJ];(apply Br.mk<;>intro)
  ·rename_i hc;have hgt:Q<q:=by
    refine aH fun hx=>?_;have:=k4.2 (kQ.2 om);omega
   refine Need.mk ⟨k2,jv,om,om,om,om⟩ ?_;(repeat refine ZG ?_);refine ⟨q-1,?_,⟨by show Q<=q-1;omega,by show q-1<=4000000000;omega⟩,?_⟩
   ·show (q-1-Q).toNat<(q-Q).toNat;omega
   (repeat' first|exact trivial|rfl|exact Nat.one_pos|apply aA);exact krest
  rename_i hc;have hqQ:q=Q:=by
   have:=kQ.1 (k4.1 om);omega
  subst hqQ;(repeat refine ZG ?_);refine ⟨(s+1:Nat),rfl,hlt,?_⟩;(repeat' first|exact trivial|rfl|exact Nat.one_pos|apply aA)
  ·exact hst1.symm
  exact hst2.symm
 subst he;obtain ⟨a1,a2⟩:=aEf (B:=B9) de iu jv s2 hMu s1;have e1:(valB B9 u/valB B9 v).toNat=m/n:=by
  rw[vu,vv,<- fS,aJ,Nat.mul_div_mul_right _ _ f0]
 have e2:(valB B9 u%valB B9 v).toNat=m%n*f:=by
  rw[vu,vv,<- sD,aJ,Nat.mul_mod_mul_right]
 rw[e1] at a1;rw[e2] at a2;have hr:m%n*f<B9^101:=by
  rw[eD];exact eL (fM (dO m hn0) hn) fB
 have lr:=pC hr;(conv=>whnf);rw[a2];refine Need.mk ⟨cR de _,om,om⟩ ?_;have e3:(valB B9 (aI B9 (m%n*f))/(f:Int)).toNat=m%n:=by
  rw[v9,<- fS,aJ,Nat.mul_div_cancel _ f0]
 rw[e3];(conv=>whnf);(repeat' first|exact trivial|rfl|apply aA);exact a1
def c106:Con:=aR 190 false fun args K=>match args with
 | [.seq (.int .i64) a,.seq (.int .i64) b]=>Need (Cw a/\Cw b/\b≠ []) (K (.tup [Ls (aI B9 ((valB B9 a).toNat/(valB B9 b).toNat)),Ls (aI B9 ((valB B9 a).toNat% (valB B9 b).toNat))]))
 | _=>False
theorem aAi {b:List Int} (h:Cw b) (hb:b≠ []):0<(valB B9 b).toNat:=by
 refine dP fun h0=>hb ?_;rw[h.1,h0,dM]
theorem k106:aO Tp c106:=by
 refine kO func190 fun args K h=>?_;simp only[c106] at h;split at h
 ·rename_i a b;refine ⟨_,h.go,?_⟩;obtain ⟨⟨ha,hm⟩,⟨hb,hn⟩,hne⟩:=h.ok;have ht:=triB func190 ntmps190 (by simp[k129,k134,k99,k135h,k166s,k136,k137,k138,k131]) (b106 (valB B9 a).toNat (valB B9 b).toNat hm ⟨aAi ⟨hb,hn⟩ hne,hn⟩);rw[<- ha,<- hb] at ht;exact ht
 cases h
def dvI (x y:Int):Bx × Bx × Int:=if lim (x.fdiv y) || lim (x.fmod y) then ([],[],4) else (itoa (x.fdiv y),itoa (x.fmod y),0)
def divI (a b:Bx):Bx × Bx × Int:=if chk2 a b≠0 then ([],[],chk2 a b) else if b= [48] then ([],[],12) else dvI (valI a) (valI b)
theorem aH7 {b:Bx} (h:form b) (h0:¬b= [48]):valI b≠0:=fun e=>h0 (by
 have:=As h;rw[e] at this;rw[this];unfold itoa;rw[aC om]
 exact jG (show 0<10 by omega))
theorem pw12:B9^100<B9^200:=Nat.pow_lt_pow_right de om
theorem aH8 (x y:Int):dvI x y=if (resI (x.fdiv y)).2≠0\/(resI (x.fmod y)).2≠0 then ([],[],4) else ((resI (x.fdiv y)).1,(resI (x.fmod y)).1,0):=by
 unfold dvI resI;by_cases h1:lim (x.fdiv y)=true<;>by_cases h2:lim (x.fmod y)=true<;>simp[h1,h2]
theorem Gg {x y q r:Int} (hq:q=x.fdiv y) (hr:r=x.fmod y) (h1:q.natAbs<10^40) (h2:r.natAbs<10^40):dvI x y=(itoa q,itoa r,0):=by
 rw[aH8,<- hq,<- hr,lZ h1,lZ h2];simp
theorem aH9 (p q:Prop) [Decidable p] [Decidable q] (m n:Nat) (hn:0<n):
  sgP (¬(p↔q)) ((if ¬(p↔q)/\0<m%n then m/n+1 else m/n:Nat):Int)=(sgP p m).fdiv (sgP q n)/\sgP q ((if ¬(p↔q)/\0<m%n then n-m%n else m%n:Nat):Int)=(sgP p m).fmod (sgP q n):=by
 have h:=aJ7 (decide p) m (decide q) n hn;have e1:∀(r:Prop) [Decidable r] (k:Nat),sgn (decide r) k=sgP r k:=fun r _ k=>by unfold sgn sgP;by_cases hr:r<;>simp[hr]
 rw[eF,e1,e1,e1] at h;have e2:∀k,sgn (decide p != decide q) k=sgP (¬(p↔q)) k:=fun k=>by
  unfold sgn sgP;by_cases hp:p<;>by_cases hq:q<;>simp[hp,hq]
 rw[e2] at h;have e3:(decide p≠decide q)↔¬(p↔q):=by by_cases hp:p<;>by_cases hq:q<;>simp[hp,hq]
 by_cases hc:¬(p↔q)/\0<m%n
 ·rw[aD hc,aD hc];rw[aD ⟨e3.2 hc.1,hc.2⟩,aD ⟨e3.2 hc.1,hc.2⟩] at h;exact h
 rw[aC hc,aC hc];rw[aC (fun hx=>hc ⟨e3.1 hx.1,hx.2⟩),aC (fun hx=>hc ⟨e3.1 hx.1,hx.2⟩)] at h;exact h
theorem b69 (a b:Bx):body Tp [c94,c95,c61,c98,c106,c107,c96] {} true f251 [S a,S b] (.tup [S (divI a b).1,S (divI a b).2.1,I (divI a b).2.2]):=by
 unfold divI;(apply Br.mk<;>intro)
 ·rename_i h;rw[aD h];exact ZF
 rename_i h;rw[aC h];obtain ⟨ha,hb⟩:=oF h;obtain ⟨fa,la⟩:=eK ha;obtain ⟨fb,lb⟩:=eK hb;(apply Br.mk<;>intro)
 ·rename_i h0;rw[aD h0];exact ZF
 rename_i h0;rw[aC h0];have hy:=aH7 fb h0;refine Need.mk ⟨rfl,fa,fb⟩ ?_;(apply Br.mk<;>intro)
 ·rename_i hs;have h1:=lH fa hs.1;have h2:=lH fb hs.2;have hd:((valI a).tdiv (valI b)).natAbs<=(valI a).natAbs:=by rw[Int.natAbs_tdiv];exact fA _ _
  have hm:((valI a).tmod (valI b)).natAbs<(valI b).natAbs:=by rw[iD];exact dO _ om
  have hsd:=aEd (valI a) (valI b) hy;(repeat'((conv=>whnf);first|refine Zb ?_|refine Zn ?_|apply pI|apply pJ|fail));(apply Br.mk<;>intro)
  ·rename_i hr;(apply Br.mk<;>intro)
   ·rename_i hsg;rw[aD ⟨hr,hsg⟩,eF] at hsd;rw[Gg hsd.1 hsd.2 om om];exact ZGF
   rename_i hsg;rw[aC (fun hx=>hsg hx.2),eF] at hsd;rw[Gg hsd.1 hsd.2 om om];exact ZF
  rename_i hr;rw[aC (fun hx=>hr hx.1),eF] at hsd;rw[Gg hsd.1 hsd.2 om om];exact ZF
 rename_i hs;refine Need.mk ⟨fa,om⟩ ?_;refine Need.mk ⟨fb,om⟩ ?_;have pb:0<aT (digs b):=dP fun e=>hy (by rw[jH,e];unfold sgP;split<;>rfl);(repeat'((conv=>whnf);first|refine Zl ?_|fail));refine Need.mk ⟨fU fa la,fU fb lb,fun e=>by rw[rP de] at e;omega⟩ ?_;rw[v9,v9,aJ,aJ];obtain ⟨d1,d2⟩:=aH9 (a.headD 0=45) (b.headD 0=45) (aT (digs a)) (aT (digs b)) pb;rw[<- jH,<- jH] at d1 d2;rw[aH8];obtain ⟨M,hM⟩:∃M,aT (digs a)=M:=⟨_,rfl⟩;obtain ⟨N,hN⟩:∃N,aT (digs b)=N:=⟨_,rfl⟩;have cM:=(fU fa la).2;have cN:=(fU fb lb).2;rw[v9,aJ,hM] at cM;rw[v9,aJ,hN] at cN;rw[hM,hN] at d1 d2 ⊢;rw[hN] at pb;(apply Br.mk<;>intro)
 ·rename_i hne;(repeat'((conv=>whnf);first|refine Zg fun _=>?_|fail));(apply Br.mk<;>intro)
  ·rename_i hrm;have hpos:0<M%N:=dP fun e=>by rw[e,dM] at hrm;exact absurd hrm de
   rw[aD ⟨hne,hpos⟩] at d1 d2;have ex1:(valB B9 (aI B9 (M/N))+valB B9 [(1:Int)]).toNat=M/N+1:=by rw[v9,show valB B9 [(1:Int)]=1 by simp[valB]];generalize M/N=k;omega
   have ex2:(valB B9 (aI B9 N)-valB B9 (aI B9 (M%N))).toNat=N-M%N:=by rw[v9,v9];omega
   have hv1:∀hd,@sgP (¬(a.headD 0=45↔b.headD 0=45)) hd (valB B9 (aI B9 (M/N+1)))=(valI a).fdiv (valI b):=fun hd=>by rw[<- d1,v9];congr
   have hv2:sgP (b.headD 0=45) (valB B9 (aI B9 (N-M%N)))=(valI a).fmod (valI b):=by rw[<- d2,v9]
   have lq:=pC (show M/N<B9^100 from bX (fA _ _) cM);have lr:=pC (show M%N<B9^100 from fM (dO _ pb) cN);have hml:=dO M pb;have lN:=pC cN;have big1:M/N+1<B9^200:=by
    have h1:M/N<B9^100:=bX (fA _ _) cM;have h2:B9^100<B9^200:=Nat.pow_lt_pow_right de om;omega
   (repeat'((conv=>whnf);first|apply pI|apply pJ|refine Zl ?_|fail));refine Need.mk ⟨cR de _,fun x hx=>?_,om,by show 1<=100000;omega⟩ ?_
   ·have:x=1:=by simpa using hx
    subst this;exact ⟨om,by show (1:Int)<1000000000;omega⟩
   rw[ex1];(repeat'((conv=>whnf);first|apply pI|apply pJ|fail));refine Need.mk ⟨cR de _,cR de _,by rw[v9,v9];omega,om,om⟩ ?_;rw[ex2];refine Need.mk (jM (show M/N+1<B9^200 from big1)) ?_;rw[hv1];refine Need.mk (jM (show N-M%N<B9^200 from (fM (show N-M%N<B9^100 from bX (Nat.sub_le _ _) cN) pw12))) ?_;rw[hv2];(apply Br.mk<;>intro)
   ·rename_i z1;rw[aD (.inl z1)];exact ZF
   rename_i z1;(apply Br.mk<;>intro)
   ·rename_i z2;rw[aD (.inr z2)];exact ZF
   rename_i z2;rw[aC (fun hx=>hx.elim z1 z2)];exact ZF
  rename_i hrm;have h00:M%N=0:=by
   have:(aI B9 (M%N)).length=0:=om;exact (rP de).1 (cF this)
  have d1':(valI a).fdiv (valI b)=sgP (¬(a.headD 0=45↔b.headD 0=45)) ((M/N:Nat):Int):=by rw[<- d1,aC (fun hx=>absurd hx.2 om)]
  have d2':(valI a).fmod (valI b)=sgP (b.headD 0=45) ((M%N:Nat):Int):=by rw[<- d2,aC (fun hx=>absurd hx.2 om)]
  have hv1:∀hd,@sgP (¬(a.headD 0=45↔b.headD 0=45)) hd (valB B9 (aI B9 (M/N)))=(valI a).fdiv (valI b):=fun hd=>by rw[d1',v9];congr
  have hv2:sgP (b.headD 0=45) (valB B9 (aI B9 (M%N)))=(valI a).fmod (valI b):=by rw[d2',v9]
  refine Need.mk (jM (fM ((show M/N<B9^100 from bX (fA _ _) cM)) pw12)) ?_;rw[hv1];refine Need.mk (jM (fM ((show M%N<B9^100 from fM (dO _ pb) cN)) pw12)) ?_;rw[hv2];(apply Br.mk<;>intro)
  ·rename_i z1;rw[aD (.inl z1)];exact ZF
  rename_i z1;(apply Br.mk<;>intro)
  ·rename_i z2;rw[aD (.inr z2)];exact ZF
  rename_i z2;rw[aC (fun hx=>hx.elim z1 z2)];exact ZF
 rename_i hne;have d1':(valI a).fdiv (valI b)=sgP (¬(a.headD 0=45↔b.headD 0=45)) ((M/N:Nat):Int):=by rw[<- d1,aC (fun hx=>hne hx.1)]
 have d2':(valI a).fmod (valI b)=sgP (b.headD 0=45) ((M%N:Nat):Int):=by rw[<- d2,aC (fun hx=>hne hx.1)]
 have hv1:∀hd,@sgP (¬(a.headD 0=45↔b.headD 0=45)) hd (valB B9 (aI B9 (M/N)))=(valI a).fdiv (valI b):=fun hd=>by rw[d1',v9];congr
 have hv2:sgP (b.headD 0=45) (valB B9 (aI B9 (M%N)))=(valI a).fmod (valI b):=by rw[d2',v9]
 refine Need.mk (jM (fM ((show M/N<B9^100 from bX (fA _ _) cM)) pw12)) ?_;rw[hv1];refine Need.mk (jM (fM ((show M%N<B9^100 from fM (dO _ pb) cN)) pw12)) ?_;rw[hv2];(apply Br.mk<;>intro)
 ·rename_i z1;rw[aD (.inl z1)];exact ZF
 rename_i z1;(apply Br.mk<;>intro)
 ·rename_i z2;rw[aD (.inr z2)];exact ZF
 rename_i z2;rw[aC (fun hx=>hx.elim z1 z2)];exact ZF
def c69:Con:=aR 251 true fun args K=>match args with | [.str a,.str b]=>K (.tup [S (divI a b).1,S (divI a b).2.1,I (divI a b).2.2]) | _=>False
theorem k69:aO Tp c69:=by
 refine kO func251 fun args K h=>?_;simp only[c69] at h;split at h
 ·rename_i a b;exact ⟨_,h,triB func251 ntmps251 (by simp[k94,k95,k61,k98,k106,k107,k96]) (b69 a b)⟩
 cases h
theorem Lv {P:Program} {fr:Bool} {f:FuncId} {args args':List SV} {r:SV} (h:Tri P fr f args r) (he:ent.entL args' args):Tri P fr f args' r:=
 fun ok w vs hg hok hr=>h ok w vs hg hok (iY he hr)
def c96g:Con:=aR 191 true fun args K=>match args with
 | [.agg [.val (.bool false),.seq (.int .i64) a]]=>Need (Hw a) (K (.tup [S (resI (valB B9 a)).1,I (resI (valB B9 a)).2]))
 | _=>False
theorem k96g:aO Tp c96g:=by
 refine kO func191 fun args K h=>?_;simp only[c96g] at h;split at h
 ·rename_i a;refine ⟨_,h.go,?_⟩;have ht:=triB func191 ntmps191 (by simp[k128,k88]) (b96 False inferInstance a h.ok);refine Lv (args:=[.agg [.bl False inferInstance,Ls a]]) ht ⟨⟨fun h=>h,?_,trivial⟩,trivial⟩;rfl
 cases h
theorem Em (x y:Int):Int.gcd y (x.tmod y)=Int.gcd x y:=by
 unfold Int.gcd;rw[iD,kY,<- Nat.gcd_rec,kY]
theorem xV (p:Prop) [Decidable p] (n:Nat):(sgP p n).natAbs=n:=by unfold sgP;split<;>omega
theorem Lw {m:Nat} (h:m<B9^34):Cw (aI B9 m):=by
 refine ⟨by rw[v9,aJ],?_⟩;rw[v9,aJ];exact aZ h (bG de om)
def c89:Con:=aR 144 true fun | [.str a,.str b],K=>K (.tup [S (eN a b (resI (Int.gcd (valI a) (valI b)))).1,I (eN a b (resI (Int.gcd (valI a) (valI b)))).2]) | _,_=>False
theorem k89:aO Tp c89:=by
 refine kQ { asks:=[(0,[]),(2,[])] } func144 ntmps144 (kc k94 (kc k95 (kc k61 (kc k98 (kc k106 (kc k96g kn)))))) fun _ _ h=>?_;split at h;case h_2=>cases h
 rename_i a b;refine kb h ?_;unfold eN;(apply Br.mk<;>intro)
 ·rename_i h;rw[aD h];exact ZF
 rename_i h;rw[aC h];obtain ⟨ha,hb⟩:=oF h;obtain ⟨fa,la⟩:=eK ha;obtain ⟨fb,lb⟩:=eK hb;refine Need.mk ⟨rfl,fa,fb⟩ ?_;(apply Br.mk<;>intro)
 ·rename_i hs;have h1:=lH fa hs.1;have h2:=lH fb hs.2;refine Ask.mk ⟨{ X:=Int × Int,pre:=fun z=>Int.gcd z.1 z.2=Int.gcd (valI a) (valI b)/\z.1.natAbs<=1000000000000000000/\z.2.natAbs<=1000000000000000000,mod:=fun z _=>[(7,I z.1),(8,I z.2)],heap:=fun _ _=>[],mu:=fun z=>z.2.natAbs },rfl,?_⟩;(repeat refine ZG ?_);refine ⟨⟨(valI a,valI b),⟨rfl,by show (valI a).natAbs<= _;omega,by show (valI b).natAbs<= _;omega⟩,ZE⟩,fun (z:Int × Int) hz=>?_⟩;obtain ⟨z1,z2,z3⟩:=hz;(apply Br.mk<;>intro)
  ·rename_i hy;have hm:(z.1.tmod z.2).natAbs<z.2.natAbs:=by rw[iD];exact dO _ om
   (repeat'((conv=>whnf);first|refine Zb ?_|apply pI|apply pJ|fail));(conv=>whnf);refine ⟨(z.2,z.1.tmod z.2),hm,⟨by rw[<- z1];exact Em _ _,z3,by show (z.1.tmod z.2).natAbs<= _;omega⟩,?_⟩;exact ZE
  rename_i hy;have hy:z.2=0:=om;have hg:((Int.gcd (valI a) (valI b):Nat):Int)=max z.1 (-z.1):=by
   rw[<- z1,hy,qA];omega
  rw[hg,lZ om];exact ZGF
 rename_i hs;refine Need.mk ⟨fa,om⟩ ?_;refine Need.mk ⟨fb,om⟩ ?_;have pM:=rX fa la;have pN:=rX fb lb;have hgv:Int.gcd (valI a) (valI b)=Nat.gcd (aT (digs a)) (aT (digs b)):=by
  unfold Int.gcd;rw[jH,jH,xV,xV]
 rw[hgv];refine Ask.mk ⟨{ X:=Nat × Nat,pre:=fun z=>Nat.gcd z.1 z.2=Nat.gcd (aT (digs a)) (aT (digs b))/\z.1<B9^34/\z.2<B9^34,mod:=fun z _=>[(10,Ls (aI B9 z.1)),(11,Ls (aI B9 z.2))],heap:=fun _ _=>[],mu:=fun z=>z.2 },rfl,?_⟩;(repeat refine ZG ?_);refine ⟨⟨(aT (digs a),aT (digs b)),⟨rfl,pM,pN⟩,ZE⟩,fun (z:Nat × Nat) hz=>?_⟩;obtain ⟨z1,z2,z3⟩:=hz;(repeat'((conv=>whnf);first|refine Zg fun _=>?_|fail));(apply Br.mk<;>intro)
 ·rename_i hy;have hy:0<z.2:=dP fun e=>by rw[e,dM] at hy;exact absurd hy de
  refine Need.mk ⟨Lw z2,Lw z3,fun e=>by rw[rP de] at e;omega⟩ ?_;rw[v9,v9,aJ,aJ];refine ⟨(z.2,z.1%z.2),dO _ hy,⟨by rw[<- z1];show Nat.gcd z.2 (z.1%z.2)= _;rw[kY z.1 z.2,Nat.gcd_rec z.2 z.1];exact kY _ _,z3,fM (dO _ hy) z3⟩,?_⟩;exact ZE
 rename_i hy;have hy:z.2=0:=(rP (B:=B9) de).1 (cF om);rw[hy,Nat.gcd_zero_right] at z1;rw[<- z1];refine Need.mk (jM (aZ z2 (bG de om))) ?_;rw[v9];exact ZF
end RB
end
section
namespace IB
open Go.Lib
def lead:Bx->Nat
 | []=>0
 | c::r=>if 48<=c.toNat/\c.toNat<=57 then lead r+1 else 0
theorem Rz:∀s,lead s<=s.length
 | []=>aN _
 | c::r=>by
  unfold lead;split
  ·have:=Rz r;simp only[bS];omega
  omega
theorem Lm:∀s:Bx,∀c∈s.take (lead s),cY c
 | [],c,h=>by simp at h
 | x::r,c,h=>by
  unfold lead at h;split at h
  ·rename_i hx;rw[List.take_succ_cons] at h;rcases bH.1 h with rfl | h
   ·exact hx
   exact Lm r c h
  simp at h
theorem Eg:∀(s:Bx) (n:Nat),n<=s.length->(∀i,i<n->cY (s.getD i 0))->(n=s.length\/¬cY (s.getD n 0))->lead s=n
 | [],n,h1,_,_=>by simp at h1;subst h1;rfl
 | c::r,0,_,_,h3=>by
  rcases h3 with h3 | h3
  ·simp at h3
  unfold lead;rw[aC];exact h3
 | c::r,n+1,h1,h2,h3=>by
  have hc:48<=c.toNat/\c.toNat<=57:=h2 0 om;unfold lead
  rw[aD hc,Eg r n (by simpa using h1) (fun i hi=>h2 (i+1) om) (by
   rcases h3 with h3 | h3
   ·exact .inl (by simpa using h3)
   exact .inr h3)]
theorem aHn {s:Bx}:lead s=s.length↔∀c∈s,cY c:=by
 constructor
 ·intro h c hc;have:=Lm s c;rw[h,eA] at this;exact this hc
 intro h
 exact Eg s s.length (aN _) (fun i hi=>by
  rw[aB,aM hi]
  exact h _ (cT hi)) (.inl rfl)
def dgsN (s:Bx):Nat:=if 1<lead s/\s.headD 0=48 then 0 else lead s
def okD (s:Bx):Prop:=dgsN s≠0/\s.length<=dgsN s
theorem qP (s:Bx):okD s↔s≠ []/\(∀c∈s,cY c)/\(s.length=1\/s.headD 0≠48):=by
 have hl:=Rz s;unfold okD dgsN;rw[<- aHn];by_cases h:1<lead s/\s.headD 0=48
 ·rw[aD h];refine ⟨fun hx=>absurd rfl hx.1,?_⟩;rintro ⟨_,h2,h3⟩;rcases h3 with h3 | h3
  ·omega
  exact absurd h.2 h3
 rw[aC h];constructor
 ·rintro ⟨h1,h2⟩;have e:lead s=s.length:=om;refine ⟨fun hx=>by rw[hx] at h1;exact h1 rfl,e,?_⟩;by_cases h48:s.headD 0=48
  ·left
   have:¬1<lead s:=fun hx=>h ⟨hx,h48⟩;omega
  exact .inr h48
 rintro ⟨h1,h2,h3⟩;have:=cB.2 h1;exact ⟨om,om⟩
theorem aCy {s:Bx} (h1:s.length=1) (h:s.headD 0=48):s= [48]:=by
 cases s with
 | nil=>simp at h1
 | cons c r=>
  have:r= []:=by simpa using h1
  subst this;simp at h;rw[h]
theorem Wm (t:Bx):form t↔okD (digs t)/\¬(t.headD 0=45/\digs t= [48]):=by
 rw[qP];unfold form;constructor
 ·rintro ⟨h1,h2,h3⟩;refine ⟨⟨h1,h3,?_⟩,?_⟩
  ·rcases h2 with h2 | h2
   ·exact .inr h2
   left;rw[h2];rfl
  rintro ⟨q1,q2⟩;rcases h2 with h2 | h2
  ·rw[q2] at h2;exact h2 rfl
  rw[h2] at q1;simp at q1
 rintro ⟨⟨h1,h2,h3⟩,h4⟩;refine ⟨h1,?_,h2⟩;by_cases h48:(digs t).headD 0=48
 ·right
  rcases h3 with h3 | h3
  ·have e:=aCy h3 h48;have hn:¬t.headD 0=45:=fun q=>h4 ⟨q,e⟩;unfold digs at e;rw[aC hn] at e;exact e
  exact absurd h48 h3
 exact .inl h48
theorem aCz (d:Bx):(d=decDigits (aT d)/\2<=aT d)↔okD d/\¬d= [48]/\¬d= [49]:=by
 rw[qP];constructor
 ·rintro ⟨h1,h2⟩;have hd:∀c∈d,cY c:=fun c hc=>by rw[h1] at hc;exact oE _ _ hc
  have hne:d≠ []:=fun e=>by rw[e] at h2;exact absurd h2 de
  refine ⟨⟨hne,hd,?_⟩,fun e=>by rw[e] at h2;exact absurd h2 de,fun e=>by rw[e] at h2;exact absurd h2 de⟩
  right
  rw[h1];exact zM _ om
 rintro ⟨⟨h1,h2,h3⟩,h4,h5⟩;have e:=wM d.length d rfl h1 h2 h3;refine ⟨e.symm,?_⟩;apply aH;intro hn;have:aT d=0\/aT d=1:=om;rcases this with h | h
 ·rw[h,jG om] at e;exact h4 e.symm
 rw[h,jG om] at e;exact h5 e.symm
theorem vU:∀s:Bx,Go.Lib.indexByte s 47=if botS s= [] then -1 else ((topS s).length:Int)
 | []=>rfl
 | c::r=>by
  have ih:=vU r;by_cases h:c=47
  ·subst h;simp[Go.Lib.indexByte,botS,topS]
  have e1:botS (c::r)=botS r:=by simp[botS,h]
  have e2:topS (c::r)=c::topS r:=by simp[topS,h]
  rw[e1,e2];simp only[Go.Lib.indexByte];rw[ih];by_cases hb:botS r= []
  ·simp[hb,h]
  simp[hb,h]
theorem Eh (s:Bx):topS s++botS s=s:=rD
theorem aHo (s:Bx):s.take (topS s).length=topS s:=by
 have:=List.take_left (l₁:=topS s) (l₂:=botS s);rwa [Eh] at this
theorem aHp (s:Bx):s.drop (topS s).length=botS s:=by
 have:=List.drop_left (l₁:=topS s) (l₂:=botS s);rwa [Eh] at this
end IB
end
section
open Go Go.Proofs Go.Eng Go.Shelf IB Go.Lib Go.RowKit Tryz
namespace RB
def c105:Con:=aR 185 true fun | [.val (.int .i64 a),.val (.int .i64 b)],K=>Need ((0<=a/\a<=4000000000000000000)/\(0<=b/\b<=4000000000000000000)) (K (I (Int.gcd a b))) | _,_=>False
theorem k105:aO Tp c105:=by
 refine kQ { asks:=[(0,[])] } func185 ntmps185 kn fun _ _ h=>?_;split at h;case h_2=>cases h
 rename_i a b;refine kb h.go ?_;replace h:=h.ok;obtain ⟨ha,hb⟩:=h;refine Ask.mk ⟨{ X:=Int × Int,pre:=fun z=>Int.gcd z.1 z.2=Int.gcd a b/\(0<=z.1/\z.1<=4000000000000000000)/\(0<=z.2/\z.2<=4000000000000000000),mod:=fun z _=>[(0,I z.1),(1,I z.2)],heap:=fun _ _=>[],mu:=fun z=>z.2.natAbs },rfl,?_⟩;(repeat refine ZG ?_);refine ⟨⟨(a,b),⟨rfl,ha,hb⟩,ZE⟩,fun (z:Int × Int) hz=>?_⟩;obtain ⟨z1,z2,z3⟩:=hz;(apply Br.mk<;>intro)
 ·rename_i hy;have hm:(z.1.tmod z.2).natAbs<z.2.natAbs:=by rw[iD];exact dO _ om
  have hm0:0<=z.1.tmod z.2:=sW _ z2.1;(repeat'((conv=>whnf);first|refine Za ?_|apply pI|apply pJ|fail));(conv=>whnf);refine ⟨(z.2,z.1.tmod z.2),hm,⟨by rw[<- z1];exact Em _ _,z3,hm0,by show z.1.tmod z.2<= _;omega⟩,?_⟩;(repeat' first|exact trivial|rfl|apply aA);exact (fR z2.1).symm
 rename_i hy;have hy:z.2=0:=om;have hg:((Int.gcd a b:Nat):Int)=z.1:=by
  rw[<- z1,hy,qA];omega
 rw[hg];exact ZF
theorem aKm {P:Program} {fr:Bool} {f:FuncId} {s:Bx} {r:List SV} {x:SV} (h:s.length<=140737488355328->Tri P fr f (.str s::r) x):Tri P fr f (.str s::r) x:=by
 intro ok w vs hg hok hr;cases hr with
 | cons _ v1 _ vs1 h1 hr=>
 cases h1 with
 | str _ hl=>exact h hl ok w _ hg hok (.cons _ _ _ _ (.str _ hl) hr)
theorem aC8 (s:Bx): -1<=Lib.indexByte s 47/\Lib.indexByte s 47<=s.length:=by
 rw[vU];split
 ·omega
 have:=aP List.length (Eh s);rw[aS] at this;omega
theorem t170 (s:Bx):Tri Tp true 277 [S s,S [47]] (I (Lib.indexByte s 47)):=by
 intro ok w vs hg hok hr;cases hr with
 | cons _ v1 _ vs1 h1 hr=>
 cases h1 with
 | str _ hl=>
 obtain ⟨rfl,_⟩:=Er hr;have hl':s.length<=140737488355328:=hl;have hb:=aC8 s;refine (Any.stringslite_Index_one RL.lX ⟨s.toArray⟩ 47 w).mono ?_;rintro e w' ⟨rfl,rfl⟩;have hw:WV (.int .i64 (Lib.indexByte s 47)):=by constructor<;>simp only[lo,hi]<;>omega
 exact ⟨_,rfl,Below.refl _ _,.val _ hw⟩
def c170:Con:=aR 277 true fun args K=>match args with | [.str s,.str p]=>Need (p= [47]) (K (I (Lib.indexByte s 47))) | _=>False
theorem k170:aO Tp c170:=by
 refine kO func277 fun args K h=>?_;simp only[c170] at h;split at h
 ·obtain ⟨rfl,h⟩:=h;exact ⟨_,h,t170 _⟩
 cases h
theorem b154 (s:Bx) (hl:s.length<=140737488355328):body Tp [c170] {} true f227 [S s,S [47]] (.tup [S (topS s),S (botS s).tail,.bl (botS s≠ []) inferInstance]):=by
 have hb:=aC8 s;have hi:=vU s;have htb:=aP List.length (Eh s);rw[aS] at htb;(repeat refine ZG ?_);(apply Br.mk<;>intro)
 ·rename_i h;by_cases hbn:botS s= []
  ·rw[aD hbn] at hi;omega
  rw[aC hbn] at hi;have hpos:=cB.2 hbn;rw[hi];(repeat'((conv=>whnf);first|refine Zg fun _=>?_|refine Zn ?_|refine Zj ?_|apply pI|apply pJ|fail));(conv=>whnf);(repeat' first|exact trivial|apply aA)
  ·exact aHo s
  ·show s.drop ((topS s).length+1)=(botS s).tail;rw[<- gE,aHp,gS]
  exact hbn
 rename_i h;have hbn:botS s= []:=by
  refine aH fun hx=>?_;rw[aC hx] at hi;omega
 have ht:topS s=s:=by have:=Eh s;rw[hbn,eZ] at this;exact this
 (conv=>whnf);(repeat' first|exact trivial|apply aA)
 ·exact ht.symm
 ·show ([]:Bx)= _;rw[hbn];rfl
 exact fun hx=>hx hbn
def c154:Con:=aR 227 true fun args K=>match args with | [.str s,.str p]=>Need (p= [47]) (K (.tup [S (topS s),S (botS s).tail,.bl (botS s≠ []) inferInstance])) | _=>False
theorem k154:aO Tp c154:=by
 refine kO func227 fun args K h=>?_;simp only[c154] at h;split at h
 ·obtain ⟨rfl,h⟩:=h;exact ⟨_,h,aKm fun hl=>triB func227 ntmps227 (by simp[k170]) (b154 _ hl)⟩
 cases h
theorem b122 (s:Bx):body Tp [c154] {} true f181 [S s,S [47]] (.tup [S (topS s),S (botS s).tail,.bl (botS s≠ []) inferInstance]):=by
 exact ZGF
def c122:Con:=aR 181 true fun args K=>match args with | [.str s,.str p]=>Need (p= [47]) (K (.tup [S (topS s),S (botS s).tail,.bl (botS s≠ []) inferInstance])) | _=>False
theorem k122:aO Tp c122:=by
 refine kO func181 fun args K h=>?_;simp only[c122] at h;split at h
 ·obtain ⟨rfl,h⟩:=h;exact ⟨_,h,triB func181 ntmps181 (by simp[k154]) (b122 _)⟩
 cases h
theorem Ly (s:Bx) (i:Nat):(48<=bE s i/\bE s i<=57)↔cY (s.getD i 0):=by
 unfold bE cY;omega
theorem Gh (s:Bx):bE s 0=48↔s.headD 0=48:=by
 unfold bE;have e:s.getD 0 0=s.headD 0:=by cases s<;>rfl
 rw[e];constructor
 ·intro h;have:(s.headD 0).toNat=(48:UInt8).toNat:=by show _=48;omega
  exact pP this
 intro h;rw[h];rfl
def c124:Con:=aR 183 true fun | [.str s],K=>K (I (dgsN s)) | _,_=>False
theorem k124:aO Tp c124:=by
 refine kQ { asks:=[(0,[])] } func183 ntmps183 kn fun _ _ h=>?_;split at h;case h_2=>cases h
 rename_i s;refine kb h ?_;refine Ask.mk ⟨{ X:=Nat,pre:=fun n=>n<=s.length/\∀i,i<n->cY (s.getD i 0),mod:=fun n _=>[(3,I n)],heap:=fun _ _=>[],mu:=fun n=>s.length-n },rfl,?_⟩;(repeat refine ZG ?_);refine ⟨⟨(0:Nat),⟨aK _,fun i hi=>absurd hi (bV _)⟩,ZE⟩,fun (n:Nat) hn=>?_⟩;obtain ⟨n1,n2⟩:=hn;have hb:=Ly s n;have h0:=Gh s;by_cases hc:n<s.length/\48<=bE s n/\bE s n<=57
 ·(repeat'((conv=>whnf);first|refine Zg fun _=>?_|refine Zn ?_|refine Zj ?_|refine Zy ?_|fail));all_goals first | (exfalso;omega) | skip
  refine ⟨(n+1:Nat),by show s.length-(n+1)<s.length-n;omega,⟨om,fun i hi=>?_⟩,ZE⟩;by_cases e:i=n
  ·subst e;exact hb.1 hc.2
  exact n2 i om
 have hl:lead s=n:=Eg s n n1 n2 (by
  by_cases e:n=s.length
  ·exact .inl e
  right
  rw[<- hb];intro hx;exact hc ⟨om,hx⟩)
 have hd:(dgsN s:Int)=if 1<n/\bE s 0=48 then 0 else (n:Int):=by
  unfold dgsN;rw[hl];by_cases q:1<n/\bE s 0=48
  ·rw[aD q,aD ⟨q.1,h0.1 q.2⟩];rfl
  rw[aC q,aC (fun hx=>q ⟨hx.1,h0.2 hx.2⟩)]
 (repeat'((conv=>whnf);first|refine Zg fun _=>?_|refine Zn ?_|refine Z0 ?_|refine Zj ?_|refine Zm ?_|refine Zr (fun _=>?_) fun _=>?_|fail));all_goals first | (exfalso;omega) | skip
 all_goals (skip;(conv=>whnf);(repeat' first|rfl|apply aA))
 all_goals (rw[hd];first | rw[aD om] | rw[aC om])
theorem itoa_zero:itoa 0= [48]:=by
 unfold itoa;rw[aC om];exact jG (show 0<10 by omega)
theorem b92 (x:Int) (hlx:(itoa x).length<=1000):body Tp [c123] {} true f250 [S (itoa x)] (S (itoa (-x))):=by
 (apply Br.mk<;>intro)
 ·rename_i h;have hx:x=0:=sL (by rw[itoa_zero];exact h);subst hx;(conv=>whnf);exact ZE
 rename_i h;have hx:x≠0:=fun e=>h (by rw[e,itoa_zero]);have hh:=rQ x;have hd:=fN x;(repeat refine ZG ?_);(apply Br.mk<;>intro)
 ·rename_i hn;have hn:=hh.1 hn;have e:itoa (-x)=digs (itoa x):=by
   rw[hd];unfold itoa;rw[aC om];congr 1;omega
  rw[e];(conv=>whnf)
 rename_i hn;have hn:¬x<0:=fun e=>hn (hh.2 e);have e:itoa (-x)=45::itoa x:=by
  unfold itoa;rw[aD om,aC om];congr 2;omega
 rw[e];(repeat refine ZG ?_);(conv=>whnf);exact ZE
def c92:Con:=aR 250 true fun args K=>match args with | [.str s]=>Need (form s/\s.length<=1000) (K (S (itoa (-valI s)))) | _=>False
theorem k92:aO Tp c92:=by
 refine kO func250 fun args K h=>?_;simp only[c92] at h;split at h
 ·rename_i s;obtain ⟨⟨h1,h2⟩,h⟩:=h;refine ⟨_,h,?_⟩;have e:=As h1;have:=triB func250 ntmps250 (by simp[k123]) (b92 (valI s) (by rw[<- e];exact h2));rwa [<- e] at this
 cases h
def bot1 (s:Bx):Bx:=if botS s= [] then [49] else (botS s).tail
theorem Hr (s:Bx):tA s↔(((dgsN (digs (topS s)):Int)≠0/\((digs (topS s)).length:Int)<=dgsN (digs (topS s)))/\¬((topS s).headD 0=45/\digs (topS s)= [48]))/\
  (botS s= []\/(((dgsN (botS s).tail:Int)≠0/\((botS s).tail.length:Int)<=dgsN (botS s).tail)/\¬(botS s).tail= [48]/\¬(botS s).tail= [49])):=by
 unfold tA;rw[Wm];have e:∀d:Bx,okD d↔((dgsN d:Int)≠0/\(d.length:Int)<=dgsN d):=fun d=>by unfold okD;omega
 rw[e];refine and_congr gQ ?_;by_cases hb:botS s= []
 ·simp[hb]
 have hd:denS s=aT (botS s).tail:=by unfold denS;rw[aC hb]
 rw[hd,aCz,e]
theorem b87y (s:Bx) (hf:tA s):body Tp [c122,c123,c124] {} true f142 [S s] (.tup [.agg [S (topS s),S (bot1 s)],.val (.bool true)]):=by
 have hF:=(Hr s).1 hf;obtain ⟨⟨⟨f1,f2⟩,f3⟩,f4⟩:=hF;unfold bot1;(repeat'((conv=>whnf);first|refine Zg fun _=>?_|refine Zn ?_|refine Zm ?_|refine Zr (fun _=>?_) fun _=>?_|fail));all_goals first | (exfalso;omega) | skip
 all_goals first
  | (exfalso;simp_all;done)
  | (exfalso;simp_all;omega)
  | (skip;(conv=>whnf);(repeat' first|exact trivial|rfl|apply aA);simp_all;exact @rfl (Bx) _)
theorem b87n (s:Bx) (hf:¬tA s):body Tp [c122,c123,c124] {} true f142 [S s] (.tup [.agg [S [],S []],.val (.bool false)]):=by
 have hF:=fun h=>hf ((Hr s).2 h);(repeat'((conv=>whnf);first|refine Zg fun _=>?_|refine Zn ?_|refine Zr (fun _=>?_) fun _=>?_|fail));all_goals first
  | (exfalso;simp_all;done)
  | (exfalso;simp_all;omega)
  | (skip;(conv=>whnf);(repeat' first|exact trivial|rfl|apply aA);done)
  | (exfalso;refine hF ⟨⟨⟨om,om⟩,?_⟩,?_⟩
     ·first | exact fun hx=>absurd hx.2 (by assumption) | exact fun hx=>absurd hx.1 (by assumption)
     first | exact .inl (bC.1 (by assumption)) | exact .inr ⟨⟨om,om⟩,by assumption,by assumption⟩)
def c87:Con:=aR 142 true fun args K=>match args with
 | [.str s]=>Br (tA s) (K (.tup [.agg [S (topS s),S (bot1 s)],.val (.bool true)])) (K (.tup [.agg [S [],S []],.val (.bool false)]))
 | _=>False
theorem k87:aO Tp c87:=by
 refine kO func142 fun args K h=>?_;simp only[c87] at h;split at h
 ·rename_i s;by_cases hf:tA s
  ·exact ⟨_,h.yes hf,triB func142 ntmps142 (by simp[k122,k123,k124]) (b87y s hf)⟩
  exact ⟨_,h.no hf,triB func142 ntmps142 (by simp[k122,k123,k124]) (b87n s hf)⟩
 cases h
def Hs (s:Bx):Prop:=1<=lead s/\lead s<=8/\¬(1<lead s/\s.headD 0=48)
theorem aIa {s:Bx} {i:Nat} (hi:i<=s.length) (h:∀j,j<i->cY (s.getD j 0)):∀c∈s.take i,cY c:=by
 intro c hc;obtain ⟨j,hj,rfl⟩:=dD hc;rw[aY] at hj;have:=h j om;rw[aB,aM om] at this;simpa using this
theorem Lz {s:Bx} {i:Nat} (hi:i<s.length) (hd:cY (s.getD i 0)):(aT (s.take (i+1)):Int)=10*aT (s.take i)+(bE s i-48):=by
 have e:s.take (i+1)=s.take i++ [s.getD i 0]:=by
  rw[cV hi];simp[aB,hi]
 rw[e,jW];unfold bE;unfold cY at hd;omega
theorem Ma {s:Bx} {i:Nat} (hi:i<=s.length) (h:∀j,j<i->cY (s.getD j 0)) (h9:i<=9):aT (s.take i)<1000000000:=by
 have h1:=iE (s.take i) (aIa hi h);have h2:(10:Nat)^ (s.take i).length<=10^9:=bG om (by rw[aY];omega);have h3:(10:Nat)^9=1000000000:=de;omega
theorem Sf:∀(s:Bx) (n:Nat),n<=s.length->(∀i,i<n->cY (s.getD i 0))->n<=lead s
 | _,0,_,_=>aK _
 | [],n+1,h,_=>by simp at h
 | c::r,n+1,h1,h2=>by
  have hc:48<=c.toNat/\c.toNat<=57:=h2 0 om;unfold lead;rw[aD hc];have:=Sf r n (by simpa using h1) (fun i hi=>h2 (i+1) om);omega
theorem b104y (s:Bx) (h:Hs s):body Tp [] { asks:=[(0,[])] } true f184 [S s] (.tup [I (aT (s.take (lead s))),S (s.drop (lead s)),.val (.bool true)]):=by
 obtain ⟨o1,o2,o3⟩:=h;rw[<- Gh] at o3;refine Ask.mk ⟨{ X:=Nat,pre:=fun n=>n<=9/\n<=s.length/\∀i,i<n->cY (s.getD i 0),mod:=fun n _=>[(5,I (aT (s.take n))),(6,I n)],heap:=fun _ _=>[],mu:=fun n=>s.length-n },rfl,?_⟩;(repeat refine ZG ?_);refine ⟨⟨(0:Nat),⟨om,aK _,fun i hi=>absurd hi (bV _)⟩,ZE⟩,fun (n:Nat) hn=>?_⟩;obtain ⟨n9,n1,n2⟩:=hn;have hb:=Ly s n;have hv:=Ma n1 n2 n9;have hge:=Sf s n n1 n2;by_cases hc:n<s.length/\48<=bE s n/\bE s n<=57
 ·have hs:=Lz hc.1 (hb.1 hc.2);(repeat'((conv=>whnf);first|refine Zg fun _=>?_|refine Zn ?_|refine Zj ?_|refine Zy ?_|fail));all_goals first | (exfalso;omega) | skip
  all_goals (skip;(conv=>whnf);refine ⟨(n+1:Nat),by show s.length-(n+1)<s.length-n;omega,⟨om,om,fun i hi=>by
     by_cases e:i=n
     ·subst e;exact hb.1 hc.2
     exact n2 i om⟩,?_⟩;(repeat' first|exact trivial|rfl|apply aA|omega);done)
 have hl:lead s=n:=Eg s n n1 n2 (by
  by_cases e:n=s.length
  ·exact .inl e
  right
  rw[<- hb];intro hx;exact hc ⟨om,hx⟩)
 have hr:(.tup [I (aT (s.take (lead s))),S (s.drop (lead s)),.val (.bool true)]:SV)= .tup [I (aT (s.take n)),S (s.drop n),.val (.bool true)]:=by rw[hl]
 rw[hr];rw[hl] at o1 o2 o3;(repeat'((conv=>whnf);first|refine Zg fun _=>?_|refine Zn ?_|refine Z0 ?_|refine Zj ?_|apply pI|apply pJ|refine Zy ?_|refine Zm ?_|refine Zr (fun _=>?_) fun _=>?_|fail));all_goals first | (exfalso;omega) | skip
 all_goals (skip;(conv=>whnf);(repeat' first|exact trivial|rfl|apply aA))
theorem b104n (s:Bx) (h:¬Hs s):body Tp [] { asks:=[(0,[])] } true f184 [S s] (.tup [I 0,S [],.val (.bool false)]):=by
 have h:¬(1<=lead s/\lead s<=8/\¬(1<lead s/\bE s 0=48)):=by rw[Gh];exact h
 refine Ask.mk ⟨{ X:=Nat,pre:=fun n=>n<=9/\n<=s.length/\∀i,i<n->cY (s.getD i 0),mod:=fun n _=>[(5,I (aT (s.take n))),(6,I n)],heap:=fun _ _=>[],mu:=fun n=>s.length-n },rfl,?_⟩;(repeat refine ZG ?_);refine ⟨⟨(0:Nat),⟨om,aK _,fun i hi=>absurd hi (bV _)⟩,ZE⟩,fun (n:Nat) hn=>?_⟩;obtain ⟨n9,n1,n2⟩:=hn;have hb:=Ly s n;have hv:=Ma n1 n2 n9;have hge:=Sf s n n1 n2;by_cases hc:n<s.length/\48<=bE s n/\bE s n<=57
 ·have hs:=Lz hc.1 (hb.1 hc.2);(repeat'((conv=>whnf);first|refine Zg fun _=>?_|refine Zn ?_|refine Zj ?_|refine Zy ?_|refine Zm ?_|refine Zr (fun _=>?_) fun _=>?_|fail));all_goals first | (exfalso;omega) | skip
  all_goals first | (skip;(conv=>whnf);refine ⟨(n+1:Nat),by show s.length-(n+1)<s.length-n;omega,⟨om,om,fun i hi=>by
     by_cases e:i=n
     ·subst e;exact hb.1 hc.2
     exact n2 i om⟩,?_⟩;(repeat' first|exact trivial|rfl|apply aA|omega);done) | (skip;(conv=>whnf);(repeat' first|exact trivial|rfl|apply aA);done)
 have hl:lead s=n:=Eg s n n1 n2 (by
  by_cases e:n=s.length
  ·exact .inl e
  right
  rw[<- hb];intro hx;exact hc ⟨om,hx⟩)
 rw[hl] at h;(repeat'((conv=>whnf);first|refine Zg fun _=>?_|refine Zn ?_|refine Z0 ?_|refine Zj ?_|refine Zy ?_|refine Zm ?_|refine Zr (fun _=>?_) fun _=>?_|fail));all_goals first | (exfalso;omega) | skip
 all_goals (skip;(conv=>whnf);(repeat' first|exact trivial|rfl|apply aA))
theorem tZ {s:Bx} (h:Hs s):s.take (lead s)=decDigits (aT (s.take (lead s)))/\aT (s.take (lead s))<100000000:=by
 obtain ⟨h1,h2,h3⟩:=h;have hl:=Rz s;have hd:=Lm s;have hlen:(s.take (lead s)).length=lead s:=by rw[aY];omega
 have hh:(s.take (lead s)).headD 0=s.headD 0:=by
  cases s with
  | nil=>rfl
  | cons c r=>
   obtain ⟨k,hk⟩:∃k,lead (c::r)=k+1:=⟨lead (c::r)-1,om⟩;rw[hk];rfl
 refine ⟨(wM _ _ rfl (fun e=>by rw[e] at hlen;simp at hlen;omega) hd ?_).symm,?_⟩
 ·rw[hlen,hh];by_cases h48:s.headD 0=48
  ·left
   have:¬1<lead s:=fun hx=>h3 ⟨hx,h48⟩;omega
  exact .inr h48
 have h1:=iE (s.take (lead s)) hd;have h2:(10:Nat)^ (s.take (lead s)).length<=10^8:=bG om (by rw[hlen];omega);have h3:(10:Nat)^8=100000000:=de;omega
def c104:Con:=aR 184 true fun args K=>match args with
 | [.str s]=>Br (Hs s) (Giv (aT (s.take (lead s))<100000000) (K (.tup [I (aT (s.take (lead s))),S (s.drop (lead s)),.val (.bool true)]))) (K (.tup [I 0,S [],.val (.bool false)]))
 | _=>False
theorem k104:aO Tp c104:=by
 refine kO func184 fun args K h=>?_;simp only[c104] at h;split at h
 ·rename_i s;by_cases hf:Hs s
  ·exact ⟨_,(h.yes hf).go (tZ hf).2,triB func184 ntmps184 si (b104y s hf)⟩
  exact ⟨_,h.no hf,triB func184 ntmps184 si (b104n s hf)⟩
 cases h
abbrev nvN (s:Bx):Nat:=aT ((digs s).take (lead (digs s)))
abbrev nvR (s:Bx):Bx:=(digs s).drop (lead (digs s))
abbrev nvD (s:Bx):Nat:=aT ((nvR s).tail.take (lead (nvR s).tail))
def nvOK (s:Bx):Prop:=Hs (digs s)/\¬(s.headD 0=45/\nvN s=0)/\(nvR s= []\/((nvR s).headD 0=47/\Hs (nvR s).tail/\(nvR s).tail.drop (lead (nvR s).tail)= []/\2<=nvD s/\Nat.gcd (nvN s) (nvD s)=1))
theorem aIb (s:Bx):s=(if s.headD 0=45 then [45] else [])++digs s:=by
 unfold digs;by_cases h:s.headD 0=45
 ·rw[aD h,aD h];cases s with
  | nil=>simp at h
  | cons c r=>simp at h;rw[h];rfl
 rw[aC h,aC h];rfl
theorem aIc {p:Prop} [Decidable p] {n:Nat} (h:¬(p/\n=0)):itoa (sgP p n)=(if p then [45] else [])++decDigits n:=by
 unfold itoa sgP;by_cases hp:p
 ·rw[aD hp,aD hp];have:n≠0:=fun e=>h ⟨hp,e⟩;rw[aD om];show 45:: _=45:: _;congr 2;omega
 rw[aC hp,aC hp,aC om];simp
theorem aN3 {s:Bx} (h:nvOK s):∃q:Rat,s=numS q/\q.num=sgP (s.headD 0=45) (nvN s)/\(q.den:Int)=(if nvR s= [] then 1 else nvD s:Nat)/\nvN s<100000000/\q.den<100000000:=by
 obtain ⟨h1,h2,h3⟩:=h;obtain ⟨a1,a2⟩:=tZ h1;have hs:=aIb s;have ht:digs s=decDigits (nvN s)++nvR s:=by
  rw[<- a1];exact (fH _ _).symm
 have hi:=aIc h2;have hs2:s=itoa (sgP (s.headD 0=45) (nvN s))++nvR s:=by
  rw[hi,cC,<- ht];exact hs
 rcases h3 with h3 | ⟨b1,b2,b3,b4,b5⟩
 ·refine ⟨⟨sgP (s.headD 0=45) (nvN s),1,de,si⟩,?_,rfl,by rw[aD h3],a2,by show (1:Nat)< _;decide⟩;unfold numS;rw[aD rfl];rw[h3,eZ] at hs2;exact hs2
 have hne:nvR s≠ []:=fun e=>by rw[e] at b1;simp at b1
 obtain ⟨c1,c2⟩:=tZ b2;have hr:nvR s=47::decDigits (nvD s):=by
  cases hq:nvR s with
  | nil=>exact absurd hq hne
  | cons c r=>
   have hc:c=47:=by rw[hq] at b1;simpa using b1
   have ht2:(nvR s).tail=r:=by rw[hq];rfl
   rw[<- ht2,hc];congr 1
   rw[<- c1];have:=fH (lead (nvR s).tail) (nvR s).tail;rw[b3,eZ] at this;exact this.symm
 refine ⟨⟨sgP (s.headD 0=45) (nvN s),nvD s,om,?_⟩,?_,rfl,by rw[aC hne],a2,c2⟩
 ·rw[xV];exact b5
 unfold numS;rw[aC (by show ¬nvD s=1;omega)];show s=itoa _++47::decDigits (nvD s);rw[<- hr];exact hs2
theorem jX {s:Bx} (h:nvOK s):s=numS (valQ s)/\(valQ s).num=sgP (s.headD 0=45) (nvN s)/\((valQ s).den:Int)=(if nvR s= [] then 1 else nvD s:Nat)/\(valQ s).num.natAbs<100000000/\(valQ s).den<100000000:=by
 obtain ⟨q,q1,q2,q3,q4,q5⟩:=aN3 h;have e:valQ s=q:=by rw[q1];exact gM q
 rw[e];exact ⟨q1,q2,q3,by rw[q2,xV];exact q4,q5⟩
theorem uA (s:Bx) (c:UInt8):bE s 0=c.toNat↔s.headD 0=c:=by
 unfold bE;have e:s.getD 0 0=s.headD 0:=by cases s<;>rfl
 rw[e];constructor
 ·intro h;exact pP om
 intro h;rw[h]
theorem b68y (s:Bx) (h:nvOK s):body Tp [c104,c105] {} true f143 [S s] (.tup [.agg [I (sgP (s.headD 0=45) (nvN s)),I (if nvR s= [] then 1 else nvD s:Nat)],.val (.bool true)]):=by
 obtain ⟨h1,h2,h3⟩:=h;have hb:bE s 0=45↔s.headD 0=45:=uA s 45;have hd8:=(tZ h1).2;unfold sgP;by_cases hn:s.headD 0=45
 ·rw[aD hn];have hb0:bE s 0=45:=hb.2 hn;have hs0:¬s= []:=fun e=>by rw[e] at hn;simp at hn
  have hlen:(s.drop 1).length=s.length-1:=bB;have hpos:=cB.2 hs0;have hdg:digs s=s.drop 1:=by unfold digs;rw[aD hn,gS]
  have hN:nvN s≠0:=fun e=>h2 ⟨hn,e⟩;simp only[nvN,nvR,nvD,hdg] at*;rcases h3 with h3 | ⟨d1,d2,d3,d4,d5⟩
  ·skip;rw[aD h3];exact ZRF
  skip;have hR:¬List.drop (lead (List.drop 1 s)) (List.drop 1 s)= []:=fun e=>by rw[e] at d1;simp at d1
  have hRp:=cB.2 hR;have hb47:bE (List.drop (lead (List.drop 1 s)) (List.drop 1 s)) 0=47:=(uA _ 47).2 d1;rw[<- gS] at d2 d3 d4 d5;have hg:((Int.gcd ((aT (List.take (lead (List.drop 1 s)) (List.drop 1 s)):Nat):Int) ((aT (List.take (lead (List.drop 1 (List.drop (lead (List.drop 1 s)) (List.drop 1 s)))) (List.drop 1 (List.drop (lead (List.drop 1 s)) (List.drop 1 s)))):Nat):Int):Nat):Int)=1:=by rw[lL,d5];rfl
  have hd9:=(tZ d2).2;rw[aC hR,<- gS];exact ZRF
 rw[aC hn];have hb0:¬bE s 0=45:=fun e=>hn (hb.1 e);have hs0:¬s= []:=fun e=>by rw[e] at h1;exact absurd h1.1 de
 have hpos:=cB.2 hs0;have hdg:digs s=s:=by unfold digs;rw[aC hn]
 simp only[nvN,nvR,nvD,hdg] at*;rcases h3 with h3 | ⟨d1,d2,d3,d4,d5⟩
 ·skip;rw[aD h3];exact ZRF
 skip;have hR:¬List.drop (lead s) s= []:=fun e=>by rw[e] at d1;simp at d1
 have hRp:=cB.2 hR;have hb47:bE (List.drop (lead s) s) 0=47:=(uA _ 47).2 d1;rw[<- gS] at d2 d3 d4 d5;have hg:((Int.gcd ((aT (List.take (lead s) s):Nat):Int) ((aT (List.take (lead (List.drop 1 (List.drop (lead s) s))) (List.drop 1 (List.drop (lead s) s))):Nat):Int):Nat):Int)=1:=by rw[lL,d5];rfl
 have hd9:=(tZ d2).2;rw[aC hR,<- gS];exact ZRF
theorem b68n (s:Bx) (h:¬nvOK s):body Tp [c104,c105] {} true f143 [S s] (.tup [.agg [I 0,I 0],.val (.bool false)]):=by
 have hb:bE s 0=45↔s.headD 0=45:=uA s 45;unfold nvOK at h;by_cases hn:s.headD 0=45
 ·have hb0:bE s 0=45:=hb.2 hn;have hs0:¬s= []:=fun e=>by rw[e] at hn;simp at hn
  have hlen:(s.drop 1).length=s.length-1:=bB;have hpos:=cB.2 hs0;have hdg:digs s=s.drop 1:=by unfold digs;rw[aD hn,gS]
  simp only[nvN,nvR,nvD,hdg,<- gS] at h;(repeat' first|refine ZR ?_|refine Zg fun _=>?_);(apply Br.mk<;>intro)
  ·rename_i hk;(repeat' first|refine ZR ?_|refine Zg fun _=>?_);(apply Br.mk<;>intro)
   ·rename_i hN;exact ZF
   rename_i hN;(apply Br.mk<;>intro)
   ·rename_i hR;have hRp:=cB.2 hR;(repeat' first|refine ZG ?_|refine Zg fun _=>?_);(apply Br.mk<;>intro)
    ·rename_i hc;exact ZF
    rename_i hc;have hc:=(uA _ 47).1 (bC.1 hc);(repeat refine ZG ?_);(apply Br.mk<;>intro)
    ·rename_i hk2;(repeat'((conv=>whnf);first|refine Zg fun _=>?_|fail));(apply Br.mk<;>intro)
     ·rename_i he;exact ZF
     rename_i he;have he:=bC.1 he;(apply Br.mk<;>intro)
     ·rename_i h2d;exact ZF
     rename_i h2d;(repeat refine ZG ?_);(apply Br.mk<;>intro)
     ·rename_i hg;exact ZF
     rename_i hg;exfalso;have hg:=bC.1 hg;rw[lL] at hg;exact h ⟨hk,(fun hx=>hN om),.inr ⟨hc,hk2,he,om,om⟩⟩
    rename_i hk2;exact ZF
   rename_i hR;exfalso;exact h ⟨hk,(fun hx=>hN om),.inl (bC.1 hR)⟩
  rename_i hk;exact ZF
 have hb0:¬bE s 0=45:=fun e=>hn (hb.1 e);have hdg:digs s=s:=by unfold digs;rw[aC hn]
 simp only[nvN,nvR,nvD,hdg,<- gS] at h;by_cases hs0:s= []
 ·subst hs0;have hk:¬Hs []:=fun h=>absurd h.1 de;exact ZRF
 have hpos:=cB.2 hs0;(repeat' first|refine ZR ?_|refine Zg fun _=>?_);(apply Br.mk<;>intro)
 ·rename_i hk;(repeat' first|refine ZR ?_|refine Zg fun _=>?_);(apply Br.mk<;>intro)
  ·rename_i hR;have hRp:=cB.2 hR;(repeat' first|refine ZG ?_|refine Zg fun _=>?_);(apply Br.mk<;>intro)
   ·rename_i hc;exact ZF
   rename_i hc;have hc:=(uA _ 47).1 (bC.1 hc);(repeat refine ZG ?_);(apply Br.mk<;>intro)
   ·rename_i hk2;(repeat'((conv=>whnf);first|refine Zg fun _=>?_|fail));(apply Br.mk<;>intro)
    ·rename_i he;exact ZF
    rename_i he;have he:=bC.1 he;(apply Br.mk<;>intro)
    ·rename_i h2d;exact ZF
    rename_i h2d;(repeat refine ZG ?_);(apply Br.mk<;>intro)
    ·rename_i hg;exact ZF
    rename_i hg;exfalso;have hg:=bC.1 hg;rw[lL] at hg;exact h ⟨hk,(fun hx=>hn hx.1),.inr ⟨hc,hk2,he,om,om⟩⟩
   rename_i hk2;exact ZF
  rename_i hR;exfalso;exact h ⟨hk,(fun hx=>hn hx.1),.inl (bC.1 hR)⟩
 rename_i hk;exact ZF
instance (s:Bx):Decidable (nvOK s):=Cp
def gL (s:Bx):Prop:=s=numS (valQ s)/\(valQ s).num.natAbs<100000000/\(valQ s).den<100000000
def c68:Con:=aR 143 true fun args K=>match args with
 | [.str s]=>Br (nvOK s) (Giv (gL s) (K (.tup [.agg [I (valQ s).num,I (valQ s).den],.val (.bool true)]))) (K (.tup [.agg [I 0,I 0],.val (.bool false)]))
 | _=>False
theorem k68:aO Tp c68:=by
 refine kO func143 fun args K h=>?_;simp only[c68] at h;split at h
 ·rename_i s;by_cases hf:nvOK s
  ·obtain ⟨v1,v2,v3,v4,v5⟩:=jX hf;refine ⟨_,(h.yes hf).go ⟨v1,v4,v5⟩,?_⟩;rw[v2,v3];exact triB func143 ntmps143 (by simp[k104,k105]) (b68y s hf)
  exact ⟨_,h.no hf,triB func143 ntmps143 (by simp[k104,k105]) (b68n s hf)⟩
 cases h
theorem nO (n:Nat):itoa (n:Int)=decDigits n:=by
 unfold itoa;rw[aC om,aJ]
theorem Xb {g d k:Nat} (h:g<=d) (hd:(decDigits d).length<=k+1):(decDigits g).length<=k+1:=by
 have h2:=iE (decDigits d) (oE _);rw[iA] at h2;exact oC k g (aZ (bX h h2) (bG om hd))
theorem Mb {s:Bx} (h:tA s):bot1 s=decDigits (denS s)/\1<=denS s/\(300<(bot1 s).length↔300<(botS s).tail.length):=by
 unfold bot1;rcases h.2 with h | ⟨h1,h2⟩
 ·have hd:denS s=1:=by unfold denS;rw[aD h]
  rw[aD h,hd,h];exact ⟨(jG (show 1<10 by omega)).symm,aN _,si⟩
 have hb:botS s≠ []:=fun e=>by
  have hd:denS s=1:=by unfold denS;rw[aD e]
  omega
 rw[aC hb];exact ⟨h1,om,gQ⟩
theorem Mc {s:Bx} (h:s=numS (valQ s)) (h1:(digs (topS s)).length<=300) (h2:(botS s).tail.length<=300):chkQ s=0:=by
 have hf:tA s:=by rw[h];exact Cr _
 have hg:(valI (topS s)).natAbs.gcd (denS s)=1:=by rw[h];exact Ry _
 unfold chkQ;rw[aD hf,aC om,aD hg]
theorem Pa {n:Nat} (h:n<100000000):(decDigits n).length<=8:=oC 7 n (by simpa using h)
theorem uB {s:Bx} (h:gL s):chkQ s=0:=by
 obtain ⟨h1,h2,h3⟩:=h;refine Mc h1 ?_ ?_
 ·rw[h1,oX,fN];have:=Pa h2;omega
 rw[h1,sK];split
 ·simp
 have:=Pa h3;simp;omega
theorem Gi {s:Bx} (h:s=numS (valQ s)):topS s=itoa (valQ s).num/\bot1 s=decDigits (valQ s).den:=by
 have hf:tA s:=by rw[h];exact Cr _
 have e:=(Mb hf).1;have ed:denS s=(valQ s).den:=(aP denS h).trans (Ec _);rw[ed] at e;exact ⟨(aP topS h).trans (oX _),e⟩
theorem Sg {d:Nat} (h:(decDigits d).length<=300):form (decDigits d)/\chkI (decDigits d)=0/\valI (decDigits d)=d:=by
 rw[<- nO];refine ⟨oB _,?_,cH _⟩;rw[qS (oB _),aC];rw[fN];simpa using h
def rdV (s:Bx):SV:=if chkQ s=0 then .tup [.agg [S (itoa (valQ s).num),S (decDigits (valQ s).den)],I 0] else .tup [.agg [S [],S []],I (chkQ s)]
theorem b46 (s:Bx):body Tp [c87,c68,c88,c89] {} true f115 [S s] (rdV s):=by
 (apply Br.mk<;>intro)
 ·rename_i hf;obtain ⟨hb1,hb2,hb3⟩:=Mb hf;(apply Br.mk<;>intro)
  ·rename_i hn;refine Giv.mk fun hs=>?_;have h0:=uB hs;obtain ⟨p1,p2⟩:=Gi hs.1;unfold rdV;rw[aD h0,<- p1,<- p2];exact ZF
  rename_i hn;have hq:chkQ s=if 300<(digs (topS s)).length\/300<(bot1 s).length then 4 else if (valI (topS s)).natAbs.gcd (denS s)=1 then 0 else 11:=by
   unfold chkQ;rw[aD hf];simp only[hb3]
  have hnum:(valI (topS s)).natAbs.gcd (denS s)=1->topS s=itoa (valQ s).num/\bot1 s=decDigits (valQ s).den:=fun hg=>Gi (aCt hf hg);(repeat' first|refine ZG ?_|refine Zg fun _=>?_);(apply Br.mk<;>intro)
  ·rename_i hl;have h4:chkQ s=4:=by rw[hq,aD (.inl om)]
   unfold rdV;rw[aC om,h4];exact ZF
  rename_i hl;(repeat'((conv=>whnf);first|refine Zg fun _=>?_|fail));(apply Br.mk<;>intro)
  ·rename_i hl2;have h4:chkQ s=4:=by rw[hq,aD (.inr om)]
   unfold rdV;rw[aC om,h4];exact ZF
  rename_i hl2;rw[aC om] at hq;(apply Br.mk<;>intro)
  ·rename_i h1;have hd:denS s=1:=by
    rw[hb1] at h1;have:=aP aT h1;rw[iA] at this;exact this
   have hg:(valI (topS s)).natAbs.gcd (denS s)=1:=by rw[hd];exact Nat.gcd_one_right _
   obtain ⟨p1,p2⟩:=hnum hg;rw[aD hg] at hq;unfold rdV;rw[aD hq,<- p1,<- p2];exact ZF
  rename_i h1;obtain ⟨d1,d2,d3⟩:=Sg (d:=denS s) (by rw[<- hb1];omega);have hct:chkI (topS s)=0:=by rw[qS hf.1,aC om]
  have hb:eN (topS s) (bot1 s) (resI (Int.gcd (valI (topS s)) (valI (bot1 s))))=(decDigits ((valI (topS s)).natAbs.gcd (denS s)),0):=by
   unfold eN chk2;rw[hb1,hct,d2,d3,aC si,show Int.gcd (valI (topS s)) (denS s:Int)=(valI (topS s)).natAbs.gcd (denS s) by unfold Int.gcd;simp];unfold resI lim;rw[aC]
   ·rw[nO]
   have h3:(valI (topS s)).natAbs.gcd (denS s)<=denS s:=oM _ om;have h4:(decDigits (denS s)).length<=300:=by rw[<- hb1];omega
   have h5:=Xb h3 (k:=299) h4;simpa using h5
  have z1:=aP Prod.fst hb;have z2:(eN (topS s) (bot1 s) (resI (Int.gcd (valI (topS s)) (valI (bot1 s))))).2=0:=aP Prod.snd hb;(repeat refine ZR ?_);(apply Br.mk<;>intro)
  ·rename_i hg;rw[z1] at hg;have hg1:(valI (topS s)).natAbs.gcd (denS s)≠1:=fun e=>hg (by rw[e];exact jG (show 1<10 by omega));rw[aC hg1] at hq;unfold rdV;rw[aC om,hq];exact ZF
  rename_i hg;have hg:=bC.1 hg;rw[z1] at hg;have hg1:(valI (topS s)).natAbs.gcd (denS s)=1:=by
   have:=aP aT hg;rw[iA] at this;exact this
  obtain ⟨p1,p2⟩:=hnum hg1;rw[aD hg1] at hq;unfold rdV;rw[aD hq,<- p1,<- p2];exact ZF
 rename_i hf;have h11:chkQ s=11:=by unfold chkQ;rw[aC hf]
 unfold rdV;rw[aC om,h11];exact ZF
def aId (s:Bx):Prop:=s=numS (valQ s)/\(decDigits (valQ s).num.natAbs).length<=300/\(decDigits (valQ s).den).length<=300
theorem lG {s:Bx} (h:chkQ s=0):aId s:=by
 obtain ⟨h1,h2,h3⟩:=Ed h;have hf:tA s:=by rw[h1];exact Cr _
 obtain ⟨p1,p2⟩:=Gi h1;refine ⟨h1,?_,?_⟩
 ·rw[p1,fN] at h2;exact h2
 have:=(Mb hf).2.2;rw[p2] at this;omega
def c46:Con:=aR 115 true fun args K=>match args with
 | [.str s]=>Br (chkQ s=0) (Giv (aId s) (K (.tup [.agg [S (itoa (valQ s).num),S (decDigits (valQ s).den)],I 0]))) (K (.tup [.agg [S [],S []],I (chkQ s)]))
 | _=>False
theorem k46:aO Tp c46:=by
 refine kO func115 fun args K h=>?_;simp only[c46] at h;split at h
 ·rename_i s;have ht:=Hn (r:=rdV s) (Γ:=[c87,c68,c88,c89]) (by simp[k87,k68,k88,k89]) func115 (by simp[ntmps115]) (by unfold rdV;split<;>rfl) (b46 s);unfold rdV at ht;by_cases hf:chkQ s=0
  ·rw[aD hf] at ht;exact ⟨_,(h.yes hf).go (lG hf),ht⟩
  rw[aC hf] at ht
  exact ⟨_,h.no hf,by
   cases hc:chkQ s with
   | _=>exact hc ▸ ht⟩
 cases h
theorem cX {x:Int} (h:lim x=false):chkI (itoa x)=0:=by
 rw[qS (oB x),fN,aC];unfold lim at h;simpa using h
theorem En {x:Int} (h:chkI (itoa x)=0):lim x=false:=by
 rw[qS (oB x),fN] at h;unfold lim;split at h
 ·cases h
 rename_i hn;exact decide_eq_false hn
theorem tJ (x:Int):lim (-x)=lim x:=by unfold lim;rw[nV]
theorem uS {x y:Int} (h:x.natAbs<=y.natAbs) (hy:lim y=false):lim x=false:=by
 unfold lim at hy ⊢;have hy:(decDigits y.natAbs).length<=299+1:=by simpa using hy
 have:=Xb h hy;simpa using this
theorem mZ {x:Int} (h:lim x=false):(itoa x).length<=301:=by
 have h1:=(uT (itoa x)).2;rw[fN] at h1;unfold lim at h;have h:(decDigits x.natAbs).length<=300:=by simpa using h
 omega
theorem Md {x y:Int} (hx:lim x=false) (hy:lim y=false) (h0:y≠0):eN (itoa x) (itoa y) (resI (Int.gcd (valI (itoa x)) (valI (itoa y))))=(itoa (Int.gcd x y),0):=by
 unfold eN chk2;rw[cX hx,cX hy,aC si,cH,cH];unfold resI;have hg:lim ((Int.gcd x y:Nat):Int)=false:=by
  refine uS (y:=y) ?_ hy;rw[dC];exact oM _ om
 rw[hg];rfl
theorem Im {x y:Int} (hx:lim x=false) (hy:lim y=false) (h0:0<y) (hd:y ∣ x):divI (itoa x) (itoa y)=(itoa (x/y),itoa 0,0):=by
 unfold divI chk2
 rw[cX hx,cX hy,aC si,aC (fun e=>by
  have:=sL (e.trans itoa_zero.symm);omega),cH,cH]
 have e1:x.fdiv y=x/y:=Int.fdiv_eq_ediv_of_nonneg _ om;have e2:x.fmod y=0:=Int.fmod_eq_zero_of_dvd hd;unfold dvI;rw[e1,e2]
 have l1:lim (x/y)=false:=uS (y:=x) (by
  obtain ⟨k,rfl⟩:=hd;rw[dR _ om,dQ]
  exact eE _ om) hx
 have l2:lim 0=false:=by
  unfold lim;rw[show (0:Int).natAbs=0 from rfl,jG om];rfl
 rw[l1,l2];rfl
theorem Sh {x y:Int} (h0:0<y):numS (mkRat x y.toNat)=if itoa (y/(Int.gcd x y:Nat))= [49] then itoa (x/(Int.gcd x y:Nat)) else itoa (x/(Int.gcd x y:Nat))++47::itoa (y/(Int.gcd x y:Nat)):=by
 obtain ⟨d,rfl⟩:=bT (dW h0);have hg:Int.gcd x (d:Int)=d.gcd x.natAbs:=by unfold Int.gcd;rw[dC,kY]
 rw[aJ,Ik _ _ om,hg,<- fS,nO];have e1:decDigits (d/d.gcd x.natAbs)= [49]↔d/d.gcd x.natAbs=1:=by
  constructor
  ·intro h;have:=aP aT h;rw[iA] at this;exact this
  intro h;rw[h];exact jG (show 1<10 by omega)
 by_cases h:d/d.gcd x.natAbs=1
 ·rw[aD h,aD (e1.2 h)]
 rw[aC h,aC (fun hx=>h (e1.1 hx))]
theorem itoa_one:itoa 1= [49]:=by
 rw[show (1:Int)=((1:Nat):Int) from rfl,nO];exact jG (show 1<10 by omega)
theorem b52p (x y:Int) (hx:lim x=false) (hy:lim y=false) (h0:0<y):body Tp [c91,c92,c89,c69] {} true f199 [S (itoa x),S (itoa y)] (.tup [S (numS (mkRat x y.toNat)),I 0]):=by
 have hh:=rQ y;have hneg:¬(itoa y).headD 0=45:=fun e=>by have:=hh.1 e;omega
 have hb:=Md hx hy om;have z1:(eN (itoa x) (itoa y) (resI (Int.gcd (valI (itoa x)) (valI (itoa y))))).1=itoa (Int.gcd x y):=aP Prod.fst hb;have z2:(eN (itoa x) (itoa y) (resI (Int.gcd (valI (itoa x)) (valI (itoa y))))).2=0:=aP Prod.snd hb;have lx:=mZ hx;have ly:=mZ hy;have hm:=Sh (x:=x) h0;obtain ⟨g,hg⟩:∃g,Int.gcd x y=g:=⟨_,rfl⟩;have gx:(g:Int) ∣ x:=by rw[<- hg];exact oN _ _
 have gy:(g:Int) ∣ y:=by rw[<- hg];exact nF _ _
 have gp:0<g:=by rw[<- hg];exact gJ _ om
 rw[hg] at z1 hm;rw[hm];have lg:lim (g:Int)=false:=uS (y:=y) (by rw[dC,<- hg];exact oM _ om) hy;have dx:=Im hx lg om gx;have dy:=Im hy lg om gy;have q1:(divI (itoa x) (itoa g)).1=itoa (x/g):=by rw[dx]
 have q2:(divI (itoa y) (itoa g)).1=itoa (y/g):=by rw[dy]
 (repeat refine ZR ?_);(apply Br.mk<;>intro)
 ·rename_i h1;rw[z1,<- q1,<- q2]
  have l1:lim (x/g)=false:=uS (y:=x) (by
   obtain ⟨k,rfl⟩:=gx;rw[dR _ om,dQ]
   exact eE _ om) hx
  have l2:lim (y/g)=false:=uS (y:=y) (by
   obtain ⟨k,rfl⟩:=gy;rw[dR _ om,dQ]
   exact eE _ om) hy
  have m1:(divI (itoa x) (itoa g)).1.length<=301:=by rw[q1];exact mZ l1
  have m2:(divI (itoa y) (itoa g)).1.length<=301:=by rw[q2];exact mZ l2
  (apply Br.mk<;>intro)
  ·rename_i h2;rw[aD h2];exact ZF
  rename_i h2;rw[aC h2];(repeat refine ZG ?_);(conv=>whnf);(repeat' first|exact trivial|rfl|apply aA);exact cC _ [47] _
 rename_i h1;have h1:=bC.1 h1;rw[z1] at h1;have hg1:(g:Int)=1:=sL (h1.trans itoa_one.symm);rw[hg1,yH,yH];(apply Br.mk<;>intro)
 ·rename_i h2;rw[aD h2];exact ZF
 rename_i h2;rw[aC h2];(repeat refine ZG ?_);(conv=>whnf);(repeat' first|exact trivial|rfl|apply aA);exact cC _ [47] _
theorem b52n (x0 y0:Int) (hx0:lim x0=false) (hy0:lim y0=false) (h00:y0<0):body Tp [c91,c92,c89,c69] {} true f199 [S (itoa x0),S (itoa y0)] (.tup [S (numS (mkRat (-x0) (-y0).toNat)),I 0]):=by
 have hh:=rQ y0;have hneg:(itoa y0).headD 0=45:=hh.2 h00;have lx0:=mZ hx0;have ly0:=mZ hy0;obtain ⟨x,ex⟩:∃x, -x0=x:=⟨_,rfl⟩;obtain ⟨y,ey⟩:∃y, -y0=y:=⟨_,rfl⟩;have hx:lim x=false:=by rw[<- ex,tJ];exact hx0
 have hy:lim y=false:=by rw[<- ey,tJ];exact hy0
 have h0:0<y:=om;rw[ex,ey];have hb:=Md hx hy om;have z1:(eN (itoa x) (itoa y) (resI (Int.gcd (valI (itoa x)) (valI (itoa y))))).1=itoa (Int.gcd x y):=aP Prod.fst hb;have z2:(eN (itoa x) (itoa y) (resI (Int.gcd (valI (itoa x)) (valI (itoa y))))).2=0:=aP Prod.snd hb;have lx:=mZ hx;have ly:=mZ hy;have hm:=Sh (x:=x) h0;obtain ⟨g,hg⟩:∃g,Int.gcd x y=g:=⟨_,rfl⟩;have gx:(g:Int) ∣ x:=by rw[<- hg];exact oN _ _
 have gy:(g:Int) ∣ y:=by rw[<- hg];exact nF _ _
 have gp:0<g:=by rw[<- hg];exact gJ _ om
 rw[hg] at z1 hm;rw[hm];have lg:lim (g:Int)=false:=uS (y:=y) (by rw[dC,<- hg];exact oM _ om) hy;have dx:=Im hx lg om gx;have dy:=Im hy lg om gy;have q1:(divI (itoa x) (itoa g)).1=itoa (x/g):=by rw[dx]
 have q2:(divI (itoa y) (itoa g)).1=itoa (y/g):=by rw[dy]
 (repeat'((conv=>whnf);first|refine Zn ?_|refine Zy ?_|fail));refine Need.mk ⟨oB _,om⟩ ?_;rw[cH,ex];refine Need.mk ⟨oB _,om⟩ ?_;rw[cH,ey];(repeat refine ZR ?_);(apply Br.mk<;>intro)
 ·rename_i h1;rw[z1,<- q1,<- q2]
  have l1:lim (x/g)=false:=uS (y:=x) (by
   obtain ⟨k,rfl⟩:=gx;rw[dR _ om,dQ]
   exact eE _ om) hx
  have l2:lim (y/g)=false:=uS (y:=y) (by
   obtain ⟨k,rfl⟩:=gy;rw[dR _ om,dQ]
   exact eE _ om) hy
  have m1:(divI (itoa x) (itoa g)).1.length<=301:=by rw[q1];exact mZ l1
  have m2:(divI (itoa y) (itoa g)).1.length<=301:=by rw[q2];exact mZ l2
  (apply Br.mk<;>intro)
  ·rename_i h2;rw[aD h2];exact ZF
  rename_i h2;rw[aC h2];(repeat refine ZG ?_);(conv=>whnf);(repeat' first|exact trivial|rfl|apply aA);exact cC _ [47] _
 rename_i h1;have h1:=bC.1 h1;rw[z1] at h1;have hg1:(g:Int)=1:=sL (h1.trans itoa_one.symm);rw[hg1,yH,yH];(apply Br.mk<;>intro)
 ·rename_i h2;rw[aD h2];exact ZF
 rename_i h2;rw[aC h2];(repeat refine ZG ?_);(conv=>whnf);(repeat' first|exact trivial|rfl|apply aA);exact cC _ [47] _
def numQ (a b:Bx):Bx:=numS (Rat.divInt (valI a) (valI b))
def c52:Con:=aR 199 true fun args K=>match args with
 | [.str a,.str b]=>Need (chkI a=0/\chkI b=0/\valI b≠0) (K (.tup [S (numQ a b),I 0]))
 | _=>False
theorem k52:aO Tp c52:=by
 refine kO func199 fun args K h=>?_;simp only[c52] at h;split at h
 ·rename_i a b;obtain ⟨⟨h1,h2,h3⟩,h⟩:=h;refine ⟨_,h,?_⟩;have ea:=As (eK h1).1;have eb:=As (eK h2).1;have la:lim (valI a)=false:=En (by rw[<- ea];exact h1);have lb:lim (valI b)=false:=En (by rw[<- eb];exact h2);unfold numQ;rcases mJ h3 with hn | hp
  ·have:=triB func199 ntmps199 (by simp[k91,k92,k89,k69]) (b52n (valI a) (valI b) la lb hn);rw[<- ea,<- eb] at this;rw[Cs _ _ hn];exact this
  have:=triB func199 ntmps199 (by simp[k91,k92,k89,k69]) (b52p (valI a) (valI b) la lb hp);rw[<- ea,<- eb] at this;rw[lY _ _ hp];exact this
 cases h
theorem Eo {x:Int} (h:x.natAbs<1000000000000000000):(itoa x).length<=19:=by
 unfold itoa;have h1:=oC 17 x.natAbs (by simpa using h);split
 ·simp only[bS];omega
 rename_i hx;rw[show x.toNat=x.natAbs by omega];omega
theorem b90p (x y:Int) (hx:x.natAbs<1000000000000000000) (hy:y.natAbs<1000000000000000000) (h0:0<y):body Tp [c105,c61] {} true f248 [.agg [I x,I y]] (S (numS (mkRat x y.toNat))):=by
 have hm:=Sh (x:=x) h0;obtain ⟨g,hg⟩:∃g,Int.gcd x y=g:=⟨_,rfl⟩;have gx:(g:Int) ∣ x:=by rw[<- hg];exact oN _ _
 have gy:(g:Int) ∣ y:=by rw[<- hg];exact nF _ _
 have gp:0<g:=by rw[<- hg];exact gJ _ om
 have hgm:Int.gcd (max x (-x)) y=g:=by
  rw[<- hg];unfold Int.gcd;rw[show (max x (-x)).natAbs=x.natAbs by omega]
 rw[hg] at hm;rw[hm];have t1:x.tdiv g=x/g:=iX gx;have t2:y.tdiv g=y/g:=iX gy;have b1:(x/g).natAbs<=x.natAbs:=by
  obtain ⟨k,rfl⟩:=gx;rw[dR _ om,dQ];exact eE _ om
 have b2:(y/g).natAbs<=y.natAbs:=by
  obtain ⟨k,rfl⟩:=gy;rw[dR _ om,dQ];exact eE _ om
 have m1:=Eo (x:=x/g) om;have m2:=Eo (x:=y/g) om;(repeat'((conv=>whnf);first|refine Zb ?_|refine Zn ?_|apply pI|apply pJ|refine Zm ?_|fail));rw[hgm];(repeat'((conv=>whnf);first|refine Za ?_|refine Zn ?_|apply pI|apply pJ|fail));rw[<- t1];rw[<- t1] at m1;(apply Br.mk<;>intro)
 ·rename_i h1;rw[aD (by rw[h1];exact itoa_one)];(conv=>whnf)
 rename_i h1;rw[aC (fun e=>h1 (sL (e.trans itoa_one.symm)))];(repeat refine ZR ?_);(conv=>whnf);exact cC _ [47] _
theorem b90n (x0 y0:Int) (hx0:x0.natAbs<1000000000000000000) (hy0:y0.natAbs<1000000000000000000) (h00:y0<0):body Tp [c105,c61] {} true f248 [.agg [I x0,I y0]] (S (numS (mkRat (-x0) (-y0).toNat))):=by
 obtain ⟨x,ex⟩:∃x, -x0=x:=⟨_,rfl⟩;obtain ⟨y,ey⟩:∃y, -y0=y:=⟨_,rfl⟩;have hx:x.natAbs<1000000000000000000:=om;have hy:y.natAbs<1000000000000000000:=om;have h0:0<y:=om;rw[ex,ey];have hm:=Sh (x:=x) h0;obtain ⟨g,hg⟩:∃g,Int.gcd x y=g:=⟨_,rfl⟩;have gx:(g:Int) ∣ x:=by rw[<- hg];exact oN _ _
 have gy:(g:Int) ∣ y:=by rw[<- hg];exact nF _ _
 have gp:0<g:=by rw[<- hg];exact gJ _ om
 have hgm:Int.gcd (max x (-x)) y=g:=by
  rw[<- hg];unfold Int.gcd;rw[show (max x (-x)).natAbs=x.natAbs by omega]
 rw[hg] at hm;rw[hm];have t1:x.tdiv g=x/g:=iX gx;have t2:y.tdiv g=y/g:=iX gy;have b1:(x/g).natAbs<=x.natAbs:=by
  obtain ⟨k,rfl⟩:=gx;rw[dR _ om,dQ];exact eE _ om
 have b2:(y/g).natAbs<=y.natAbs:=by
  obtain ⟨k,rfl⟩:=gy;rw[dR _ om,dQ];exact eE _ om
 have m1:=Eo (x:=x/g) om;have m2:=Eo (x:=y/g) om;(repeat'((conv=>whnf);first|refine Zn ?_|apply pI|apply pJ|refine .r ?_|refine Zy ?_|fail));rw[ex,ey,hgm];(repeat'((conv=>whnf);first|refine Za ?_|refine Zn ?_|apply pI|apply pJ|fail));rw[<- t1];rw[<- t1] at m1;(apply Br.mk<;>intro)
 ·rename_i h1;rw[aD (by rw[h1];exact itoa_one)];(conv=>whnf)
 rename_i h1;rw[aC (fun e=>h1 (sL (e.trans itoa_one.symm)))];(repeat refine ZR ?_);(conv=>whnf);exact cC _ [47] _
def c90:Con:=aR 248 true fun args K=>match args with
 | [.agg [.val (.int .i64 x),.val (.int .i64 y)]]=>Need (x.natAbs<1000000000000000000/\y.natAbs<1000000000000000000/\y≠0) (K (S (numS (Rat.divInt x y))))
 | _=>False
theorem k90:aO Tp c90:=by
 refine kO func248 fun args K h=>?_;simp only[c90] at h;split at h
 ·rename_i x y;obtain ⟨⟨h1,h2,h3⟩,h⟩:=h;refine ⟨_,h,?_⟩;rcases mJ h3 with hn | hp
  ·rw[Cs _ _ hn];exact triB func248 ntmps248 (by simp[k105,k61]) (b90n x y h1 h2 hn)
  rw[lY _ _ hp];exact triB func248 ntmps248 (by simp[k105,k61]) (b90p x y h1 h2 hp)
 cases h
theorem mul8 {a b:Int} (ha:a.natAbs<100000000) (hb:b.natAbs<100000000): -10000000000000000<a*b/\a*b<10000000000000000:=by
 have h:=eL ha hb;rw[<- dQ] at h;omega
abbrev n8 (a b c d:Int):Prop:=a.natAbs<100000000/\b.natAbs<100000000/\c.natAbs<100000000/\d.natAbs<100000000
def c53:Con:=aR 252 true fun | [.agg [.val (.int .i64 a),.val (.int .i64 b)],.agg [.val (.int .i64 c),.val (.int .i64 d)]],K=>Need (n8 a b c d) (K (.agg [I (a*d+c*b),I (b*d)])) | _,_=>False
theorem k53:aO Tp c53:=by
 refine kQ {} func252 ntmps252 kn fun _ _ h=>?_;split at h;case h_2=>cases h
 refine kb h.go ?_;replace h:=h.ok;obtain ⟨h1,h2,h3,h4⟩:=h;have m1:=mul8 h1 h4;have m2:=mul8 h3 h2;have m3:=mul8 h2 h4;have m4:=mul8 h1 h3;have m5:=mul8 h2 h3;exact ZRF
def c59:Con:=aR 242 true fun | [.agg [.val (.int .i64 a),.val (.int .i64 b)],.agg [.val (.int .i64 c),.val (.int .i64 d)]],K=>Need (n8 a b c d) (K (.agg [I (a*d-c*b),I (b*d)])) | _,_=>False
theorem k59:aO Tp c59:=by
 refine kQ {} func242 ntmps242 kn fun _ _ h=>?_;split at h;case h_2=>cases h
 refine kb h.go ?_;replace h:=h.ok;obtain ⟨h1,h2,h3,h4⟩:=h;have m1:=mul8 h1 h4;have m2:=mul8 h3 h2;have m3:=mul8 h2 h4;have m4:=mul8 h1 h3;have m5:=mul8 h2 h3;exact ZRF
def c56:Con:=aR 245 true fun | [.agg [.val (.int .i64 a),.val (.int .i64 b)],.agg [.val (.int .i64 c),.val (.int .i64 d)]],K=>Need (n8 a b c d) (K (.agg [I (a*c),I (b*d)])) | _,_=>False
theorem k56:aO Tp c56:=by
 refine kQ {} func245 ntmps245 kn fun _ _ h=>?_;split at h;case h_2=>cases h
 refine kb h.go ?_;replace h:=h.ok;obtain ⟨h1,h2,h3,h4⟩:=h;have m1:=mul8 h1 h4;have m2:=mul8 h3 h2;have m3:=mul8 h2 h4;have m4:=mul8 h1 h3;have m5:=mul8 h2 h3;exact ZRF
def c48:Con:=aR 195 true fun | [.agg [.val (.int .i64 a),.val (.int .i64 b)],.agg [.val (.int .i64 c),.val (.int .i64 d)]],K=>Need (n8 a b c d) (K (.agg [I (a*d),I (b*c)])) | _,_=>False
theorem k48:aO Tp c48:=by
 refine kQ {} func195 ntmps195 kn fun _ _ h=>?_;split at h;case h_2=>cases h
 refine kb h.go ?_;replace h:=h.ok;obtain ⟨h1,h2,h3,h4⟩:=h;have m1:=mul8 h1 h4;have m2:=mul8 h3 h2;have m3:=mul8 h2 h4;have m4:=mul8 h1 h3;have m5:=mul8 h2 h3;exact ZRF
theorem gA {s:Bx} (h:gL s):(valQ s).num.natAbs<100000000/\((valQ s).den:Int).natAbs<100000000/\0<((valQ s).den:Int):=by
 have:=(valQ s).den_pos;exact ⟨h.2.1,by rw[dC];exact h.2.2,om⟩
theorem Pb (p q:Rat):Rat.divInt (p.num*q.den+q.num*p.den) (p.den*q.den)=p+q:=by
 rw[Fy,lY _ _ (jP (by have:=p.den_pos;omega) (by have:=q.den_pos;omega))];rfl
theorem Pc (p q:Rat):Rat.divInt (p.num*q.den-q.num*p.den) (p.den*q.den)=p-q:=by
 rw[Fz,lY _ _ (jP (by have:=p.den_pos;omega) (by have:=q.den_pos;omega))];rfl
theorem Pd (p q:Rat):Rat.divInt (p.num*q.num) (p.den*q.den)=p*q:=by
 rw[Ga,lY _ _ (jP (by have:=p.den_pos;omega) (by have:=q.den_pos;omega))];rfl
theorem Pe (p q:Rat) (hq:q≠0):Rat.divInt (p.num*q.den) (p.den*q.num)=p/q:=(Gb p q hq).symm
def nv2 (a b:Bx):Prop:=nvOK a/\nvOK b
theorem aKn (a b:Bx) (h:nv2 a b) (ha:gL a) (hb:gL b):body Tp [c68,c53,c90] {} true f194 [S a,S b,.clo 252 [] []] (.tup [S (numS (valQ a+valQ b)),.val (.bool true)]):=by
 obtain ⟨na,nb⟩:=h;obtain ⟨p1,p2,p3⟩:=gA ha;obtain ⟨q1,q2,q3⟩:=gA hb;have m1:=mul8 p1 q2;have m2:=mul8 q1 p2;have m4:=mul8 p1 q1;have m3:=mul8 p2 q2;rw[<- Pb (valQ a) (valQ b)];exact ZRF
theorem aKo (a b:Bx) (h:¬nv2 a b):body Tp [c68,c53,c90] {} true f194 [S a,S b,.clo 252 [] []] (.tup [S [],.val (.bool false)]):=by
 by_cases na:nvOK a
 ·have nb:¬nvOK b:=fun e=>h ⟨na,e⟩;exact ZRF
 exact ZRF
def q53:Con:=aR 194 true fun args K=>match args with
 | [.str a,.str b,.clo 252 [] []]=>Br (nv2 a b) (Giv (gL a/\gL b) (K (.tup [S (numS (valQ a+valQ b)),.val (.bool true)]))) (K (.tup [S [],.val (.bool false)]))
 | _=>False
theorem kq53:aO Tp q53:=by
 refine kO func194 fun args K h=>?_;simp only[q53] at h;split at h
 ·rename_i a b;by_cases hf:nv2 a b
  ·obtain ⟨v1,_,_,v2,v3⟩:=jX hf.1;obtain ⟨w1,_,_,w2,w3⟩:=jX hf.2;exact ⟨_,(h.yes hf).go ⟨⟨v1,v2,v3⟩,w1,w2,w3⟩,triB func194 ntmps194 (by simp[k68,k53,k90]) (aKn a b hf ⟨v1,v2,v3⟩ ⟨w1,w2,w3⟩)⟩
  exact ⟨_,h.no hf,triB func194 ntmps194 (by simp[k68,k53,k90]) (aKo a b hf)⟩
 cases h
theorem aKp (a b:Bx) (h:nv2 a b) (ha:gL a) (hb:gL b):body Tp [c68,c59,c90] {} true f194 [S a,S b,.clo 242 [] []] (.tup [S (numS (valQ a-valQ b)),.val (.bool true)]):=by
 obtain ⟨na,nb⟩:=h;obtain ⟨p1,p2,p3⟩:=gA ha;obtain ⟨q1,q2,q3⟩:=gA hb;have m1:=mul8 p1 q2;have m2:=mul8 q1 p2;have m4:=mul8 p1 q1;have m3:=mul8 p2 q2;rw[<- Pc (valQ a) (valQ b)];exact ZRF
theorem aKq (a b:Bx) (h:¬nv2 a b):body Tp [c68,c59,c90] {} true f194 [S a,S b,.clo 242 [] []] (.tup [S [],.val (.bool false)]):=by
 by_cases na:nvOK a
 ·have nb:¬nvOK b:=fun e=>h ⟨na,e⟩;exact ZRF
 exact ZRF
def q59:Con:=aR 194 true fun args K=>match args with
 | [.str a,.str b,.clo 242 [] []]=>Br (nv2 a b) (Giv (gL a/\gL b) (K (.tup [S (numS (valQ a-valQ b)),.val (.bool true)]))) (K (.tup [S [],.val (.bool false)]))
 | _=>False
theorem kq59:aO Tp q59:=by
 refine kO func194 fun args K h=>?_;simp only[q59] at h;split at h
 ·rename_i a b;by_cases hf:nv2 a b
  ·obtain ⟨v1,_,_,v2,v3⟩:=jX hf.1;obtain ⟨w1,_,_,w2,w3⟩:=jX hf.2;exact ⟨_,(h.yes hf).go ⟨⟨v1,v2,v3⟩,w1,w2,w3⟩,triB func194 ntmps194 (by simp[k68,k59,k90]) (aKp a b hf ⟨v1,v2,v3⟩ ⟨w1,w2,w3⟩)⟩
  exact ⟨_,h.no hf,triB func194 ntmps194 (by simp[k68,k59,k90]) (aKq a b hf)⟩
 cases h
theorem aKr (a b:Bx) (h:nv2 a b) (ha:gL a) (hb:gL b):body Tp [c68,c56,c90] {} true f194 [S a,S b,.clo 245 [] []] (.tup [S (numS (valQ a*valQ b)),.val (.bool true)]):=by
 obtain ⟨na,nb⟩:=h;obtain ⟨p1,p2,p3⟩:=gA ha;obtain ⟨q1,q2,q3⟩:=gA hb;have m1:=mul8 p1 q2;have m2:=mul8 q1 p2;have m4:=mul8 p1 q1;have m3:=mul8 p2 q2;rw[<- Pd (valQ a) (valQ b)];exact ZRF
theorem aKs (a b:Bx) (h:¬nv2 a b):body Tp [c68,c56,c90] {} true f194 [S a,S b,.clo 245 [] []] (.tup [S [],.val (.bool false)]):=by
 by_cases na:nvOK a
 ·have nb:¬nvOK b:=fun e=>h ⟨na,e⟩;exact ZRF
 exact ZRF
def q56:Con:=aR 194 true fun args K=>match args with
 | [.str a,.str b,.clo 245 [] []]=>Br (nv2 a b) (Giv (gL a/\gL b) (K (.tup [S (numS (valQ a*valQ b)),.val (.bool true)]))) (K (.tup [S [],.val (.bool false)]))
 | _=>False
theorem kq56:aO Tp q56:=by
 refine kO func194 fun args K h=>?_;simp only[q56] at h;split at h
 ·rename_i a b;by_cases hf:nv2 a b
  ·obtain ⟨v1,_,_,v2,v3⟩:=jX hf.1;obtain ⟨w1,_,_,w2,w3⟩:=jX hf.2;exact ⟨_,(h.yes hf).go ⟨⟨v1,v2,v3⟩,w1,w2,w3⟩,triB func194 ntmps194 (by simp[k68,k56,k90]) (aKr a b hf ⟨v1,v2,v3⟩ ⟨w1,w2,w3⟩)⟩
  exact ⟨_,h.no hf,triB func194 ntmps194 (by simp[k68,k56,k90]) (aKs a b hf)⟩
 cases h
theorem aKt (a b:Bx) (hq:valQ b≠0) (h:nv2 a b) (ha:gL a) (hb:gL b):body Tp [c68,c48,c90] {} true f194 [S a,S b,.clo 195 [] []] (.tup [S (numS (valQ a/valQ b)),.val (.bool true)]):=by
 obtain ⟨na,nb⟩:=h;obtain ⟨p1,p2,p3⟩:=gA ha;obtain ⟨q1,q2,q3⟩:=gA hb;have m1:=mul8 p1 q2;have m2:=mul8 q1 p2;have m4:=mul8 p1 q1;have hq0:(valQ b).num≠0:=fun e=>hq (pO.1 e);have m3:=mul8 p2 q1;rw[<- Pe (valQ a) (valQ b) hq];(repeat'((conv=>whnf);first|refine Zg fun _=>?_|refine Zn ?_|refine Zy ?_|fail));refine Need.mk ⟨om,om,pQ om hq0⟩ ?_;exact ZF
theorem aKu (a b:Bx) (h:¬nv2 a b):body Tp [c68,c48,c90] {} true f194 [S a,S b,.clo 195 [] []] (.tup [S [],.val (.bool false)]):=by
 by_cases na:nvOK a
 ·have nb:¬nvOK b:=fun e=>h ⟨na,e⟩;exact ZRF
 exact ZRF
def q48:Con:=aR 194 true fun args K=>match args with
 | [.str a,.str b,.clo 195 [] []]=>Need (¬b= [48]) (Br (nv2 a b) (Giv (gL a/\gL b) (K (.tup [S (numS (valQ a/valQ b)),.val (.bool true)]))) (K (.tup [S [],.val (.bool false)])))
 | _=>False
theorem Bb:numS 0= [48]:=by
 unfold numS;rw[aD (show Rat.den 0=1 from rfl)];exact itoa_zero
theorem kq48:aO Tp q48:=by
 refine kO func194 fun args K h=>?_;simp only[q48] at h;split at h
 ·rename_i a b;obtain ⟨hb0,h⟩:=h;by_cases hf:nv2 a b
  ·obtain ⟨v1,_,_,v2,v3⟩:=jX hf.1;obtain ⟨w1,_,_,w2,w3⟩:=jX hf.2;have hq:valQ b≠0:=fun e=>hb0 (by rw[w1,e];exact Bb);exact ⟨_,(h.yes hf).go ⟨⟨v1,v2,v3⟩,w1,w2,w3⟩,triB func194 ntmps194 (by simp[k68,k48,k90]) (aKt a b hq hf ⟨v1,v2,v3⟩ ⟨w1,w2,w3⟩)⟩
  exact ⟨_,h.no hf,triB func194 ntmps194 (by simp[k68,k48,k90]) (aKu a b hf)⟩
 cases h
theorem xW {a b:Bx} (ha:chkI a=0) (hb:chkI b=0) (r:Bx × Int):eN a b r=r:=by
 unfold eN chk2;rw[ha,hb,aC si]
def c58r:Con:=aR 247 true fun args K=>match args with
 | [.str a,.str b]=>Need (chkI a=0/\chkI b=0) (Br (lim (valI a*valI b)=false) (K (.tup [S (itoa (valI a*valI b)),I 0])) (K (.tup [S [],I 4])))
 | _=>False
theorem k58r:aO Tp c58r:=by
 refine kO func247 fun args K h=>?_;simp only[c58r] at h;split at h
 ·rename_i a b;obtain ⟨⟨ha,hb⟩,h⟩:=h;have ht:=triB func247 ntmps247 (by simp[k94,k95,k61,k98,k99f,k96]) (b58 a b);rw[xW ha hb] at ht;by_cases hl:lim (valI a*valI b)=false
  ·refine ⟨_,h.yes hl,?_⟩;unfold resI at ht;rw[hl] at ht;exact ht
  refine ⟨_,h.no hl,?_⟩;unfold resI at ht;rw[show lim _=true from by simpa using hl] at ht;exact ht
 cases h
def c55r:Con:=aR 253 true fun args K=>match args with
 | [.str a,.str b]=>Need (chkI a=0/\chkI b=0) (Br (lim (valI a+valI b)=false) (K (.tup [S (itoa (valI a+valI b)),I 0])) (K (.tup [S [],I 4])))
 | _=>False
theorem k55r:aO Tp c55r:=by
 refine kO func253 fun args K h=>?_;simp only[c55r] at h;split at h
 ·rename_i a b;obtain ⟨⟨ha,hb⟩,h⟩:=h;have ht:=triB func253 ntmps253 (by simp[k94,k95,k61,k98,k97,k96]) (b55 a b);rw[xW ha hb] at ht;by_cases hl:lim (valI a+valI b)=false
  ·refine ⟨_,h.yes hl,?_⟩;unfold resI at ht;rw[hl] at ht;exact ht
  refine ⟨_,h.no hl,?_⟩;unfold resI at ht;rw[show lim _=true from by simpa using hl] at ht;exact ht
 cases h
def c60r:Con:=aR 244 true fun args K=>match args with
 | [.str a,.str b]=>Need (chkI a=0/\chkI b=0) (Br (lim (valI a-valI b)=false) (K (.tup [S (itoa (valI a-valI b)),I 0])) (K (.tup [S [],I 4])))
 | _=>False
theorem k60r:aO Tp c60r:=by
 refine kO func244 fun args K h=>?_;simp only[c60r] at h;split at h
 ·rename_i a b;obtain ⟨⟨ha,hb⟩,h⟩:=h;have ht:=triB func244 ntmps244 (by simp[k94,k95,k61,k98,k97,k96]) (b60 a b);rw[xW ha hb] at ht;by_cases hl:lim (valI a-valI b)=false
  ·refine ⟨_,h.yes hl,?_⟩;unfold resI at ht;rw[hl] at ht;exact ht
  refine ⟨_,h.no hl,?_⟩;unfold resI at ht;rw[show lim _=true from by simpa using hl] at ht;exact ht
 cases h
abbrev ck4 (a b c d:Bx):Prop:=(chkI a=0/\chkI b=0)/\(chkI c=0/\chkI d=0)
def oZ (a b c d:Bx):Prop:=lim (valI a*valI d)=false/\lim (valI c*valI b)=false
instance (a b c d:Bx):Decidable (oZ a b c d):=by unfold oZ;infer_instance
theorem b51y (a b c d:Bx) (h:ck4 a b c d) (hl:oZ a b c d):body Tp [c58r] {} true f198 [.agg [S a,S b],.agg [S c,S d]] (.tup [S (itoa (valI a*valI d)),S (itoa (valI c*valI b)),I 0]):=by
 obtain ⟨⟨h1,h2⟩,h3,h4⟩:=h;obtain ⟨l1,l2⟩:=hl;exact ZRF
theorem b51n (a b c d:Bx) (h:ck4 a b c d) (hl:¬oZ a b c d):body Tp [c58r] {} true f198 [.agg [S a,S b],.agg [S c,S d]] (.tup [.any,.any,I 4]):=by
 obtain ⟨⟨h1,h2⟩,h3,h4⟩:=h;by_cases l1:lim (valI a*valI d)=false
 ·have l2:¬lim (valI c*valI b)=false:=fun e=>hl ⟨l1,e⟩;exact ZRF
 exact ZRF
def c51:Con:=aR 198 true fun args K=>match args with
 | [.agg [.str a,.str b],.agg [.str c,.str d]]=>Need (ck4 a b c d) (Br (oZ a b c d) (K (.tup [S (itoa (valI a*valI d)),S (itoa (valI c*valI b)),I 0])) (K (.tup [.any,.any,I 4])))
 | _=>False
theorem k51:aO Tp c51:=by
 refine kO func198 fun args K h=>?_;simp only[c51] at h;split at h
 ·rename_i a b c d;obtain ⟨h0,h⟩:=h;by_cases hl:oZ a b c d
  ·exact ⟨_,h.yes hl,triB func198 ntmps198 (by simp[k58r]) (b51y a b c d h0 hl)⟩
  exact ⟨_,h.no hl,triB func198 ntmps198 (by simp[k58r]) (b51n a b c d h0 hl)⟩
 cases h
abbrev dens (b d:Bx):Prop:=0<valI b/\0<valI d
theorem Bc (n d:Int):numQ (itoa n) (itoa d)=numS (Rat.divInt n d):=by
 unfold numQ;rw[cH,cH]
theorem Si {n:Int} (h:0<n):valI (itoa n)≠0:=by rw[cH];omega
def ok57 (a b c d:Bx):Prop:=lim (valI a*valI c)=false/\lim (valI b*valI d)=false
instance (a b c d:Bx):Decidable (ok57 a b c d):=by unfold ok57;infer_instance
theorem b57y (a b c d:Bx) (h:ck4 a b c d/\dens b d) (hl:ok57 a b c d):body Tp [c58r,c52] {} true f246 [.agg [S a,S b],.agg [S c,S d]] (.tup [S (numQ (itoa (valI a*valI c)) (itoa (valI b*valI d))),I 0]):=by
 obtain ⟨⟨⟨h1,h2⟩,h3,h4⟩,hb,hd⟩:=h;obtain ⟨l1,l2⟩:=hl;have k1:=cX l1;have k2:=cX l2;have k3:=Si (jP hb hd);exact ZRF
theorem b57n (a b c d:Bx) (h:ck4 a b c d) (hl:¬ok57 a b c d):body Tp [c58r,c52] {} true f246 [.agg [S a,S b],.agg [S c,S d]] (.tup [S [],I 4]):=by
 obtain ⟨⟨h1,h2⟩,h3,h4⟩:=h;by_cases l1:lim (valI a*valI c)=false
 ·have l2:¬lim (valI b*valI d)=false:=fun e=>hl ⟨l1,e⟩;exact ZRF
 exact ZRF
def c57:Con:=aR 246 true fun args K=>match args with
 | [.agg [.str a,.str b],.agg [.str c,.str d]]=>Need (ck4 a b c d/\dens b d) (Br (ok57 a b c d) (K (.tup [S (numS (Rat.divInt (valI a*valI c) (valI b*valI d))),I 0])) (K (.tup [S [],I 4])))
 | _=>False
theorem k57:aO Tp c57:=by
 refine kO func246 fun args K h=>?_;simp only[c57] at h;split at h
 ·rename_i a b c d;obtain ⟨h0,h⟩:=h;by_cases hl:ok57 a b c d
  ·refine ⟨_,h.yes hl,?_⟩;rw[<- Bc];exact triB func246 ntmps246 (by simp[k58r,k52]) (b57y a b c d h0 hl)
  exact ⟨_,h.no hl,triB func246 ntmps246 (by simp[k58r,k52]) (b57n a b c d h0.1 hl)⟩
 cases h
def zO (a b c d:Bx):Prop:=oZ a b c d/\lim (valI a*valI d+valI c*valI b)=false/\lim (valI b*valI d)=false
instance (a b c d:Bx):Decidable (zO a b c d):=by unfold zO;infer_instance
theorem b93ay (a b c d:Bx) (h:ck4 a b c d/\dens b d) (hl:zO a b c d):body Tp [c51,c55r,c58r,c52] {} true f289 [.agg [S a,S b],.agg [S c,S d],.lelem [.clo 253 [] []] 0] (.tup [S (numQ (itoa (valI a*valI d+valI c*valI b)) (itoa (valI b*valI d))),I 0]):=by
 obtain ⟨⟨⟨h1,h2⟩,h3,h4⟩,hb,hd⟩:=h;obtain ⟨l1,l2,l3⟩:=hl;have k1:=cX l2;have k2:=cX l3;have k3:=Si (jP hb hd);have j1:=cX l1.1;have j2:=cX l1.2;have e1:=cH (valI a*valI d);have e2:=cH (valI c*valI b);(repeat refine ZR ?_);rw[e1,e2];exact ZRF
theorem b93an (a b c d:Bx) (h:ck4 a b c d) (hl:¬zO a b c d):body Tp [c51,c55r,c58r,c52] {} true f289 [.agg [S a,S b],.agg [S c,S d],.lelem [.clo 253 [] []] 0] (.tup [S [],I 4]):=by
 obtain ⟨⟨h1,h2⟩,h3,h4⟩:=h;by_cases l1:oZ a b c d
 ·have j1:=cX l1.1;have j2:=cX l1.2;have e1:=cH (valI a*valI d);have e2:=cH (valI c*valI b);by_cases l2:lim (valI a*valI d+valI c*valI b)=false
  ·have l3:¬lim (valI b*valI d)=false:=fun e=>hl ⟨l1,l2,e⟩;(repeat refine ZR ?_);rw[e1,e2];exact ZRF
  (repeat refine ZR ?_);rw[e1,e2];exact ZRF
 exact ZRF
def c93a:Con:=aR 289 true fun args K=>match args with
 | [.agg [.str a,.str b],.agg [.str c,.str d],.lelem [.clo 253 [] []] 0]=>Need (ck4 a b c d/\dens b d) (Br (zO a b c d) (K (.tup [S (numS (Rat.divInt (valI a*valI d+valI c*valI b) (valI b*valI d))),I 0])) (K (.tup [S [],I 4])))
 | _=>False
theorem k93a:aO Tp c93a:=by
 refine kO func289 fun args K h=>?_;simp only[c93a] at h;split at h
 ·rename_i a b c d;obtain ⟨h0,h⟩:=h;by_cases hl:zO a b c d
  ·refine ⟨_,h.yes hl,?_⟩;rw[<- Bc];exact triB func289 ntmps289 (by simp[k51,k55r,k58r,k52]) (b93ay a b c d h0 hl)
  exact ⟨_,h.no hl,triB func289 ntmps289 (by simp[k51,k55r,k58r,k52]) (b93an a b c d h0.1 hl)⟩
 cases h
def zP (a b c d:Bx):Prop:=oZ a b c d/\lim (valI a*valI d-valI c*valI b)=false/\lim (valI b*valI d)=false
instance (a b c d:Bx):Decidable (zP a b c d):=by unfold zP;infer_instance
theorem b93sy (a b c d:Bx) (h:ck4 a b c d/\dens b d) (hl:zP a b c d):body Tp [c51,c60r,c58r,c52] {} true f289 [.agg [S a,S b],.agg [S c,S d],.lelem [.clo 244 [] []] 0] (.tup [S (numQ (itoa (valI a*valI d-valI c*valI b)) (itoa (valI b*valI d))),I 0]):=by
 obtain ⟨⟨⟨h1,h2⟩,h3,h4⟩,hb,hd⟩:=h;obtain ⟨l1,l2,l3⟩:=hl;have k1:=cX l2;have k2:=cX l3;have k3:=Si (jP hb hd);have j1:=cX l1.1;have j2:=cX l1.2;have e1:=cH (valI a*valI d);have e2:=cH (valI c*valI b);(repeat refine ZR ?_);rw[e1,e2];exact ZRF
theorem b93sn (a b c d:Bx) (h:ck4 a b c d) (hl:¬zP a b c d):body Tp [c51,c60r,c58r,c52] {} true f289 [.agg [S a,S b],.agg [S c,S d],.lelem [.clo 244 [] []] 0] (.tup [S [],I 4]):=by
 obtain ⟨⟨h1,h2⟩,h3,h4⟩:=h;by_cases l1:oZ a b c d
 ·have j1:=cX l1.1;have j2:=cX l1.2;have e1:=cH (valI a*valI d);have e2:=cH (valI c*valI b);by_cases l2:lim (valI a*valI d-valI c*valI b)=false
  ·have l3:¬lim (valI b*valI d)=false:=fun e=>hl ⟨l1,l2,e⟩;(repeat refine ZR ?_);rw[e1,e2];exact ZRF
  (repeat refine ZR ?_);rw[e1,e2];exact ZRF
 exact ZRF
def c93s:Con:=aR 289 true fun args K=>match args with
 | [.agg [.str a,.str b],.agg [.str c,.str d],.lelem [.clo 244 [] []] 0]=>Need (ck4 a b c d/\dens b d) (Br (zP a b c d) (K (.tup [S (numS (Rat.divInt (valI a*valI d-valI c*valI b) (valI b*valI d))),I 0])) (K (.tup [S [],I 4])))
 | _=>False
theorem k93s:aO Tp c93s:=by
 refine kO func289 fun args K h=>?_;simp only[c93s] at h;split at h
 ·rename_i a b c d;obtain ⟨h0,h⟩:=h;by_cases hl:zP a b c d
  ·refine ⟨_,h.yes hl,?_⟩;rw[<- Bc];exact triB func289 ntmps289 (by simp[k51,k60r,k58r,k52]) (b93sy a b c d h0 hl)
  exact ⟨_,h.no hl,triB func289 ntmps289 (by simp[k51,k60r,k58r,k52]) (b93sn a b c d h0.1 hl)⟩
 cases h
def ok50 (a b c d:Bx):Prop:=oZ a b c d
instance (a b c d:Bx):Decidable (ok50 a b c d):=by unfold ok50;infer_instance
theorem b50y (a b c d:Bx) (h:ck4 a b c d/\dens b d/\¬c= [48]) (hl:ok50 a b c d):body Tp [c51,c52] {} true f197 [.agg [S a,S b],.agg [S c,S d]] (.tup [S (numQ (itoa (valI a*valI d)) (itoa (valI c*valI b))),I 0]):=by
 obtain ⟨⟨⟨h1,h2⟩,h3,h4⟩,⟨hb,hd⟩,hc⟩:=h;have k1:=cX hl.1;have k2:=cX hl.2;have k3:valI (itoa (valI c*valI b))≠0:=by
  rw[cH];exact pQ (aH7 (eK h3).1 hc) om
 exact ZRF
theorem b50n (a b c d:Bx) (h:ck4 a b c d/\¬c= [48]) (hl:¬ok50 a b c d):body Tp [c51,c52] {} true f197 [.agg [S a,S b],.agg [S c,S d]] (.tup [S [],I 4]):=by
 obtain ⟨⟨⟨h1,h2⟩,h3,h4⟩,hc⟩:=h;have hl:¬oZ a b c d:=hl;exact ZRF
def c50:Con:=aR 197 true fun args K=>match args with
 | [.agg [.str a,.str b],.agg [.str c,.str d]]=>Need (ck4 a b c d/\dens b d) (Br (c= [48]) (K (.tup [S [],I 12])) (Br (ok50 a b c d) (K (.tup [S (numS (Rat.divInt (valI a*valI d) (valI c*valI b))),I 0])) (K (.tup [S [],I 4]))))
 | _=>False
theorem b50z (a b c d:Bx) (hc:c= [48]):body Tp [c51,c52] {} true f197 [.agg [S a,S b],.agg [S c,S d]] (.tup [S [],I 12]):=by
 exact ZRF
theorem k50:aO Tp c50:=by
 refine kO func197 fun args K h=>?_;simp only[c50] at h;split at h
 ·rename_i a b c d;obtain ⟨h0,h⟩:=h;by_cases hc:c= [48]
  ·exact ⟨_,h.yes hc,triB func197 ntmps197 (by simp[k51,k52]) (b50z a b c d hc)⟩
  replace h:=h.no hc;by_cases hl:ok50 a b c d
  ·refine ⟨_,h.yes hl,?_⟩;rw[<- Bc];exact triB func197 ntmps197 (by simp[k51,k52]) (b50y a b c d ⟨h0.1,h0.2,hc⟩ hl)
  exact ⟨_,h.no hl,triB func197 ntmps197 (by simp[k51,k52]) (b50n a b c d ⟨h0.1,hc⟩ hl)⟩
 cases h
def c54:Con:=aR 243 false fun | [.clo f [] []],K=>K (.clo 289 [] [.lelem [.clo f [] []] 0]) | _,_=>False
theorem k54:aO Tp c54:=by
 refine kQ {} func243 ntmps243 kn fun _ _ h=>?_;split at h;case h_2=>cases h
 refine kb h ?_;exact ZF
def addf (p q:Rat):Bx × Int:=if lim (p.num*q.den) || lim (q.num*p.den) || lim (p.num*q.den+q.num*p.den) || lim (p.den*q.den) then ([],4) else (numS (p+q),0)
def subf (p q:Rat):Bx × Int:=if lim (p.num*q.den) || lim (q.num*p.den) || lim (p.num*q.den-q.num*p.den) || lim (p.den*q.den) then ([],4) else (numS (p-q),0)
def mulf (p q:Rat):Bx × Int:=if lim (p.num*q.num) || lim (p.den*q.den) then ([],4) else (numS (p*q),0)
def divf (p q:Rat):Bx × Int:=if q=0 then ([],12) else if lim (p.num*q.den) || lim (q.num*p.den) then ([],4) else (numS (p/q),0)
abbrev pn (p:Rat):Bx:=itoa p.num
abbrev pd (p:Rat):Bx:=decDigits p.den
theorem rV (p:Rat):valI (pn p)=p.num:=cH _
theorem rW (p:Rat):valI (pd p)=p.den:=by unfold pd;rw[<- nO,cH]
theorem aC9 (q:Rat):pn q= [48]↔q=0:=by
 unfold pn;rw[<- itoa_zero];exact ⟨fun h=>pO.1 (sL h),fun h=>by rw[h];rfl⟩
theorem sG {s:Bx} (h:aId s):chkI (pn (valQ s))=0/\chkI (pd (valQ s))=0/\0<valI (pd (valQ s)):=by
 refine ⟨cX (by unfold lim;simpa using h.2.1),(Sg h.2.2).2.1,?_⟩;rw[rW];have:=(valQ s).den_pos;omega
theorem aN4 {p q:Rat} (h:zO (pn p) (pd p) (pn q) (pd q)):addf p q=(numS (Rat.divInt (valI (pn p)*valI (pd q)+valI (pn q)*valI (pd p)) (valI (pd p)*valI (pd q))),0):=by
 unfold zO oZ at h;simp only[rV,rW] at h ⊢;unfold addf;rw[Pb p q];simp[h]
theorem aN5 {p q:Rat} (h:¬zO (pn p) (pd p) (pn q) (pd q)):addf p q=([],4):=by
 unfold zO oZ at h;simp only[rV,rW] at h;unfold addf;rw[aD];apply aH;intro hn;apply h;simp only[cQ,not_or,fT] at hn;simp[hn]
theorem aN6 {p q:Rat} (h:zP (pn p) (pd p) (pn q) (pd q)):subf p q=(numS (Rat.divInt (valI (pn p)*valI (pd q)-valI (pn q)*valI (pd p)) (valI (pd p)*valI (pd q))),0):=by
 unfold zP oZ at h;simp only[rV,rW] at h ⊢;unfold subf;rw[Pc p q];simp[h]
theorem aN7 {p q:Rat} (h:¬zP (pn p) (pd p) (pn q) (pd q)):subf p q=([],4):=by
 unfold zP oZ at h;simp only[rV,rW] at h;unfold subf;rw[aD];apply aH;intro hn;apply h;simp only[cQ,not_or,fT] at hn;simp[hn]
theorem aN8 {p q:Rat} (h:ok57 (pn p) (pd p) (pn q) (pd q)):mulf p q=(numS (Rat.divInt (valI (pn p)*valI (pn q)) (valI (pd p)*valI (pd q))),0):=by
 unfold ok57 at h;simp only[rV,rW] at h ⊢;unfold mulf;rw[Pd p q];simp[h]
theorem aN9 {p q:Rat} (h:¬ok57 (pn p) (pd p) (pn q) (pd q)):mulf p q=([],4):=by
 unfold ok57 at h;simp only[rV,rW] at h;unfold mulf;rw[aD];apply aH;intro hn;apply h;simp only[cQ,not_or,fT] at hn;simp[hn]
theorem aOa {p q:Rat} (hq:q≠0) (h:ok50 (pn p) (pd p) (pn q) (pd q)):divf p q=(numS (Rat.divInt (valI (pn p)*valI (pd q)) (valI (pn q)*valI (pd p))),0):=by
 unfold ok50 oZ at h;simp only[rV,rW] at h ⊢;unfold divf;rw[aC hq,bJ q.num,Pe p q hq];rw[bJ q.num] at h;simp[h]
theorem aOb {p q:Rat} (hq:q≠0) (h:¬ok50 (pn p) (pd p) (pn q) (pd q)):divf p q=([],4):=by
 unfold ok50 oZ at h;simp only[rV,rW] at h;unfold divf;rw[aC hq,aD];apply aH;intro hn;apply h;simp only[cQ,not_or,fT] at hn;simp[hn]
theorem aKv (a b:Bx):body Tp [c46,c93a] {} true f196 [S a,S b,.clo 289 [] [.lelem [.clo 253 [] []] 0]] (.tup [S (addQ a b).1,I (addQ a b).2]):=by
 by_cases ha:chkQ a=0
 ·by_cases hb:chkQ b=0
  ·have e:addQ a b=addf (valQ a) (valQ b):=by
    show iK a b addf= _;unfold iK;rw[aC (by simpa using ha),aC (by simpa using hb)]
   rw[e];obtain ⟨r1,r2,r3⟩:=sG (lG ha);obtain ⟨s1,s2,s3⟩:=sG (lG hb);by_cases hk:zO (pn (valQ a)) (pd (valQ a)) (pn (valQ b)) (pd (valQ b))
   ·rw[aN4 hk];(repeat'((conv=>whnf);first|refine Zg fun _=>?_|refine Zy ?_|refine Zm ?_|fail));refine Need.mk ⟨⟨⟨r1,r2⟩,s1,s2⟩,r3,s3⟩ ?_;exact ZRF
   rw[aN5 hk];(repeat'((conv=>whnf);first|refine Zg fun _=>?_|refine Zy ?_|refine Zm ?_|fail));refine Need.mk ⟨⟨⟨r1,r2⟩,s1,s2⟩,r3,s3⟩ ?_;exact ZRF
  have e:addQ a b=([],chkQ b):=by
   show iK a b addf= _;unfold iK;rw[aC (by simpa using ha),aD hb]
  rw[e];exact ZRF
 have e:addQ a b=([],chkQ a):=by
  show iK a b addf= _;unfold iK;rw[aD ha]
 rw[e];exact ZRF
def w93a:Con:=aR 196 true fun args K=>match args with
 | [.str a,.str b,.clo 289 [] [.lelem [.clo 253 [] []] 0]]=>K (.tup [S (addQ a b).1,I (addQ a b).2])
 | _=>False
theorem kw93a:aO Tp w93a:=by
 refine kO func196 fun args K h=>?_;simp only[w93a] at h;split at h
 ·rename_i a b;exact ⟨_,h,triB func196 ntmps196 (by simp[k46,k93a]) (aKv a b)⟩
 cases h
theorem aKw (a b:Bx):body Tp [c46,c93s] {} true f196 [S a,S b,.clo 289 [] [.lelem [.clo 244 [] []] 0]] (.tup [S (subQ a b).1,I (subQ a b).2]):=by
 by_cases ha:chkQ a=0
 ·by_cases hb:chkQ b=0
  ·have e:subQ a b=subf (valQ a) (valQ b):=by
    show iK a b subf= _;unfold iK;rw[aC (by simpa using ha),aC (by simpa using hb)]
   rw[e];obtain ⟨r1,r2,r3⟩:=sG (lG ha);obtain ⟨s1,s2,s3⟩:=sG (lG hb);by_cases hk:zP (pn (valQ a)) (pd (valQ a)) (pn (valQ b)) (pd (valQ b))
   ·rw[aN6 hk];(repeat'((conv=>whnf);first|refine Zg fun _=>?_|refine Zy ?_|refine Zm ?_|fail));refine Need.mk ⟨⟨⟨r1,r2⟩,s1,s2⟩,r3,s3⟩ ?_;exact ZRF
   rw[aN7 hk];(repeat'((conv=>whnf);first|refine Zg fun _=>?_|refine Zy ?_|refine Zm ?_|fail));refine Need.mk ⟨⟨⟨r1,r2⟩,s1,s2⟩,r3,s3⟩ ?_;exact ZRF
  have e:subQ a b=([],chkQ b):=by
   show iK a b subf= _;unfold iK;rw[aC (by simpa using ha),aD hb]
  rw[e];exact ZRF
 have e:subQ a b=([],chkQ a):=by
  show iK a b subf= _;unfold iK;rw[aD ha]
 rw[e];exact ZRF
def w93s:Con:=aR 196 true fun args K=>match args with
 | [.str a,.str b,.clo 289 [] [.lelem [.clo 244 [] []] 0]]=>K (.tup [S (subQ a b).1,I (subQ a b).2])
 | _=>False
theorem kw93s:aO Tp w93s:=by
 refine kO func196 fun args K h=>?_;simp only[w93s] at h;split at h
 ·rename_i a b;exact ⟨_,h,triB func196 ntmps196 (by simp[k46,k93s]) (aKw a b)⟩
 cases h
theorem aOc (a b:Bx):body Tp [c46,c57] {} true f196 [S a,S b,.clo 246 [] []] (.tup [S (mulQ a b).1,I (mulQ a b).2]):=by
 by_cases ha:chkQ a=0
 ·by_cases hb:chkQ b=0
  ·have e:mulQ a b=mulf (valQ a) (valQ b):=by
    show iK a b mulf= _;unfold iK;rw[aC (by simpa using ha),aC (by simpa using hb)]
   rw[e];obtain ⟨r1,r2,r3⟩:=sG (lG ha);obtain ⟨s1,s2,s3⟩:=sG (lG hb);by_cases hk:ok57 (pn (valQ a)) (pd (valQ a)) (pn (valQ b)) (pd (valQ b))
   ·rw[aN8 hk];(repeat'((conv=>whnf);first|refine Zg fun _=>?_|refine Zy ?_|refine Zm ?_|fail));refine Need.mk ⟨⟨⟨r1,r2⟩,s1,s2⟩,r3,s3⟩ ?_;exact ZRF
   rw[aN9 hk];(repeat'((conv=>whnf);first|refine Zg fun _=>?_|refine Zy ?_|refine Zm ?_|fail));refine Need.mk ⟨⟨⟨r1,r2⟩,s1,s2⟩,r3,s3⟩ ?_;exact ZRF
  have e:mulQ a b=([],chkQ b):=by
   show iK a b mulf= _;unfold iK;rw[aC (by simpa using ha),aD hb]
  rw[e];exact ZRF
 have e:mulQ a b=([],chkQ a):=by
  show iK a b mulf= _;unfold iK;rw[aD ha]
 rw[e];exact ZRF
def w57:Con:=aR 196 true fun args K=>match args with
 | [.str a,.str b,.clo 246 [] []]=>K (.tup [S (mulQ a b).1,I (mulQ a b).2])
 | _=>False
theorem kw57:aO Tp w57:=by
 refine kO func196 fun args K h=>?_;simp only[w57] at h;split at h
 ·rename_i a b;exact ⟨_,h,triB func196 ntmps196 (by simp[k46,k57]) (aOc a b)⟩
 cases h
theorem aOd (a b:Bx):body Tp [c46,c50] {} true f196 [S a,S b,.clo 197 [] []] (.tup [S (divQ a b).1,I (divQ a b).2]):=by
 by_cases ha:chkQ a=0
 ·by_cases hb:chkQ b=0
  ·have e:divQ a b=divf (valQ a) (valQ b):=by
    show iK a b divf= _;unfold iK;rw[aC (by simpa using ha),aC (by simpa using hb)]
   rw[e];obtain ⟨r1,r2,r3⟩:=sG (lG ha);obtain ⟨s1,s2,s3⟩:=sG (lG hb);by_cases hz:pn (valQ b)= [48]
   ·have hd:divf (valQ a) (valQ b)=([],12):=by unfold divf;rw[aD ((aC9 _).1 hz)]
    rw[hd];(repeat'((conv=>whnf);first|refine Zg fun _=>?_|refine Zy ?_|refine Zm ?_|fail));refine Need.mk ⟨⟨⟨r1,r2⟩,s1,s2⟩,r3,s3⟩ ?_;exact ZRF
   have hq:valQ b≠0:=fun e=>hz ((aC9 _).2 e);by_cases hk:ok50 (pn (valQ a)) (pd (valQ a)) (pn (valQ b)) (pd (valQ b))
   ·rw[aOa hq hk];(repeat'((conv=>whnf);first|refine Zg fun _=>?_|refine Zy ?_|refine Zm ?_|fail));refine Need.mk ⟨⟨⟨r1,r2⟩,s1,s2⟩,r3,s3⟩ ?_;exact ZRF
   rw[aOb hq hk];(repeat'((conv=>whnf);first|refine Zg fun _=>?_|refine Zy ?_|refine Zm ?_|fail));refine Need.mk ⟨⟨⟨r1,r2⟩,s1,s2⟩,r3,s3⟩ ?_;exact ZRF
  have e:divQ a b=([],chkQ b):=by
   show iK a b divf= _;unfold iK;rw[aC (by simpa using ha),aD hb]
  rw[e];exact ZRF
 have e:divQ a b=([],chkQ a):=by
  show iK a b divf= _;unfold iK;rw[aD ha]
 rw[e];exact ZRF
def w50:Con:=aR 196 true fun args K=>match args with
 | [.str a,.str b,.clo 197 [] []]=>K (.tup [S (divQ a b).1,I (divQ a b).2])
 | _=>False
theorem kw50:aO Tp w50:=by
 refine kO func196 fun args K h=>?_;simp only[w50] at h;split at h
 ·rename_i a b;exact ⟨_,h,triB func196 ntmps196 (by simp[k46,k50]) (aOd a b)⟩
 cases h
theorem dX {n:Int} (h:n.natAbs<10^40):lim n=false:=by
 unfold lim;have:=oC 39 n.natAbs h;simp;omega
theorem xY {a b:Bx} (ha:gL a) (hb:gL b) (f:Rat->Rat->Bx × Int):iK a b f=f (valQ a) (valQ b):=by
 unfold iK;rw[aC (by rw[uB ha];simp),aC (by rw[uB hb];simp)]
theorem aAj {a b:Bx} (ha:gL a) (hb:gL b):addQ a b=(numS (valQ a+valQ b),0):=by
 rw[show addQ a b=addf (valQ a) (valQ b) from xY ha hb addf];obtain ⟨p1,p2,p3⟩:=gA ha;obtain ⟨q1,q2,q3⟩:=gA hb;have m1:=mul8 p1 q2;have m2:=mul8 q1 p2;have m3:=mul8 p2 q2;have m4:=mul8 p1 q1;unfold addf;rw[dX (n:=(valQ a).num*(valQ b).den) om,dX (n:=(valQ b).num*(valQ a).den) om,dX (n:=(valQ a).num*(valQ b).den+(valQ b).num*(valQ a).den) om,dX (n:=(valQ a).den*(valQ b).den) om];rfl
theorem aAk {a b:Bx} (ha:gL a) (hb:gL b):subQ a b=(numS (valQ a-valQ b),0):=by
 rw[show subQ a b=subf (valQ a) (valQ b) from xY ha hb subf];obtain ⟨p1,p2,p3⟩:=gA ha;obtain ⟨q1,q2,q3⟩:=gA hb;have m1:=mul8 p1 q2;have m2:=mul8 q1 p2;have m3:=mul8 p2 q2;have m4:=mul8 p1 q1;unfold subf;rw[dX (n:=(valQ a).num*(valQ b).den) om,dX (n:=(valQ b).num*(valQ a).den) om,dX (n:=(valQ a).num*(valQ b).den-(valQ b).num*(valQ a).den) om,dX (n:=(valQ a).den*(valQ b).den) om];rfl
theorem aAl {a b:Bx} (ha:gL a) (hb:gL b):mulQ a b=(numS (valQ a*valQ b),0):=by
 rw[show mulQ a b=mulf (valQ a) (valQ b) from xY ha hb mulf];obtain ⟨p1,p2,p3⟩:=gA ha;obtain ⟨q1,q2,q3⟩:=gA hb;have m1:=mul8 p1 q2;have m2:=mul8 q1 p2;have m3:=mul8 p2 q2;have m4:=mul8 p1 q1;unfold mulf;rw[dX (n:=(valQ a).num*(valQ b).num) om,dX (n:=(valQ a).den*(valQ b).den) om];rfl
theorem aAm {a b:Bx} (ha:gL a) (hb:gL b) (h0:¬b= [48]):divQ a b=(numS (valQ a/valQ b),0):=by
 rw[show divQ a b=divf (valQ a) (valQ b) from xY ha hb divf];obtain ⟨p1,p2,p3⟩:=gA ha;obtain ⟨q1,q2,q3⟩:=gA hb;have m1:=mul8 p1 q2;have m2:=mul8 q1 p2;unfold divf;rw[aC (fun e=>h0 (by rw[hb.1,e];exact Bb)),dX (n:=(valQ a).num*(valQ b).den) om,dX (n:=(valQ b).num*(valQ a).den) om];rfl
theorem b17 (a b:Bx):body Tp [q53,w93a,c54] {} true f200 [S a,S b] (.tup [S (addQ a b).1,I (addQ a b).2]):=by
 by_cases h:nv2 a b
 ·have ha:=(jX h.1);have hb:=(jX h.2);rw[aAj ⟨ha.1,ha.2.2.2⟩ ⟨hb.1,hb.2.2.2⟩];exact ZRF
 exact ZRF
def c17:Con:=aR 200 true fun args K=>match args with | [.str a,.str b]=>K (.tup [S (addQ a b).1,I (addQ a b).2]) | _=>False
theorem k17:aO Tp c17:=by
 refine kO func200 fun args K h=>?_;simp only[c17] at h;split at h
 ·rename_i a b;exact ⟨_,h,triB func200 ntmps200 (by simp[kq53,kw93a,k54]) (b17 a b)⟩
 cases h
theorem b20 (a b:Bx):body Tp [q59,w93s,c54] {} true f192 [S a,S b] (.tup [S (subQ a b).1,I (subQ a b).2]):=by
 by_cases h:nv2 a b
 ·have ha:=(jX h.1);have hb:=(jX h.2);rw[aAk ⟨ha.1,ha.2.2.2⟩ ⟨hb.1,hb.2.2.2⟩];exact ZRF
 exact ZRF
def c20:Con:=aR 192 true fun args K=>match args with | [.str a,.str b]=>K (.tup [S (subQ a b).1,I (subQ a b).2]) | _=>False
theorem k20:aO Tp c20:=by
 refine kO func192 fun args K h=>?_;simp only[c20] at h;split at h
 ·rename_i a b;exact ⟨_,h,triB func192 ntmps192 (by simp[kq59,kw93s,k54]) (b20 a b)⟩
 cases h
theorem b19 (a b:Bx):body Tp [q56,w57] {} true f193 [S a,S b] (.tup [S (mulQ a b).1,I (mulQ a b).2]):=by
 by_cases h:nv2 a b
 ·have ha:=(jX h.1);have hb:=(jX h.2);rw[aAl ⟨ha.1,ha.2.2.2⟩ ⟨hb.1,hb.2.2.2⟩];exact ZRF
 exact ZRF
def c19:Con:=aR 193 true fun args K=>match args with | [.str a,.str b]=>K (.tup [S (mulQ a b).1,I (mulQ a b).2]) | _=>False
theorem k19:aO Tp c19:=by
 refine kO func193 fun args K h=>?_;simp only[c19] at h;split at h
 ·rename_i a b;exact ⟨_,h,triB func193 ntmps193 (by simp[kq56,kw57]) (b19 a b)⟩
 cases h
theorem b14 (a b:Bx):body Tp [q48,w50] {} true f150 [S a,S b] (.tup [S (divQ a b).1,I (divQ a b).2]):=by
 by_cases h0:b= [48]
 ·exact ZRF
 by_cases h:nv2 a b
 ·have ha:=(jX h.1);have hb:=(jX h.2);rw[aAm ⟨ha.1,ha.2.2.2⟩ ⟨hb.1,hb.2.2.2⟩ h0];exact ZRF
 exact ZRF
def c14:Con:=aR 150 true fun args K=>match args with | [.str a,.str b]=>K (.tup [S (divQ a b).1,I (divQ a b).2]) | _=>False
theorem k14:aO Tp c14:=by
 refine kO func150 fun args K h=>?_;simp only[c14] at h;split at h
 ·rename_i a b;exact ⟨_,h,triB func150 ntmps150 (by simp[kq48,kw50]) (b14 a b)⟩
 cases h
theorem b21 (a:Bx):body Tp [c46] {} true f113 [S a] (I (chkQ a)):=by
 by_cases h:chkQ a=0
 ·rw[h];exact ZRF
 exact ZRF
def c21:Con:=aR 113 true fun args K=>match args with | [.str a]=>K (I (chkQ a)) | _=>False
theorem k21:aO Tp c21:=by
 refine kO func113 fun args K h=>?_;simp only[c21] at h;split at h
 ·rename_i a;exact ⟨_,h,triB func113 ntmps113 (by simp[k46]) (b21 a)⟩
 cases h
def ptQ (a:Bx):Bx × Bx:=if chkQ a=0 then (pn (valQ a),pd (valQ a)) else ([],[])
theorem div_one (n:Int):numS (Rat.divInt n 1)=itoa n:=by
 rw[lY _ _ om,show (1:Int).toNat=1 from rfl,Ik _ _ om,Nat.gcd_one_left,aD rfl];simp
def cmpf (p q:Rat):Int × Int:=if lim (p.num*q.den) || lim (q.num*p.den) then (0,4) else (cmpI (p.num*q.den) (q.num*p.den),0)
def cmpQ (a b:Bx):Int × Int:=if chkQ a≠0 then (0,chkQ a) else if chkQ b≠0 then (0,chkQ b) else cmpf (valQ a) (valQ b)
def c77r:Con:=aR 294 true fun args K=>match args with
 | [.str a,.str b]=>Need (chkI a=0/\chkI b=0) (K (.tup [I (cmpI (valI a) (valI b)),I 0]))
 | _=>False
theorem k77r:aO Tp c77r:=by
 refine kO func294 fun args K h=>?_;simp only[c77r] at h;split at h
 ·rename_i a b;obtain ⟨⟨ha,hb⟩,h⟩:=h;have ht:=triB func294 ntmps294 (by simp[k94,k95,k98,k97,k76]) (b77 a b);unfold aC7 chk2 at ht;rw[ha,hb,aC si] at ht;exact ⟨_,h,ht⟩
 cases h
def c38:Con:=aR 254 true fun | [.str a,.str b],K=>K (.tup [I (cmpQ a b).1,I (cmpQ a b).2]) | _,_=>False
theorem k38:aO Tp c38:=by
 refine kQ {} func254 ntmps254 (kc k68 (kc k46 (kc k76 (kc k51 (kc k77r kn))))) fun _ _ h=>?_;split at h;case h_2=>cases h
 rename_i a b;refine kb h ?_;unfold cmpQ;by_cases hv:nv2 a b
 ·obtain ⟨na,nb⟩:=hv;have ha:gL a:=⟨(jX na).1,(jX na).2.2.2⟩;have hb:gL b:=⟨(jX nb).1,(jX nb).2.2.2⟩;obtain ⟨p1,p2,p3⟩:=gA ha;obtain ⟨q1,q2,q3⟩:=gA hb;have m1:=mul8 p1 q2;have m2:=mul8 q1 p2;have e:cmpf (valQ a) (valQ b)=(cmpI ((valQ a).num*(valQ b).den) ((valQ b).num*(valQ a).den),0):=by
   unfold cmpf;rw[dX (n:=(valQ a).num*(valQ b).den) om,dX (n:=(valQ b).num*(valQ a).den) om];rfl
  rw[aC (by rw[uB ha];simp),aC (by rw[uB hb];simp),e];exact ZRF
 by_cases hca:chkQ a=0
 ·by_cases hcb:chkQ b=0
  ·rw[aC (by simpa using hca),aC (by simpa using hcb)];obtain ⟨r1,r2,r3⟩:=sG (lG hca);obtain ⟨s1,s2,s3⟩:=sG (lG hcb);have v1:=rV (valQ a);have v2:=rW (valQ a);have v3:=rV (valQ b);have v4:=rW (valQ b);by_cases hk:oZ (pn (valQ a)) (pd (valQ a)) (pn (valQ b)) (pd (valQ b))
   ·have e:cmpf (valQ a) (valQ b)=(cmpI (valI (itoa (valI (pn (valQ a))*valI (pd (valQ b))))) (valI (itoa (valI (pn (valQ b))*valI (pd (valQ a))))),0):=by
     have hk2:=hk;unfold oZ at hk2;simp only[rV,rW,cH] at hk2 ⊢;unfold cmpf;rw[hk2.1,hk2.2];rfl
    rw[e];have k1:=cX hk.1;have k2:=cX hk.2;by_cases na:nvOK a
    ·have nb:¬nvOK b:=fun e=>hv ⟨na,e⟩;(repeat'((conv=>whnf);first|refine Zg fun _=>?_|refine Zy ?_|refine Zm ?_|fail));refine Need.mk ⟨⟨r1,r2⟩,s1,s2⟩ ?_;(repeat'((conv=>whnf);first|refine Zy ?_|refine Zm ?_|fail));refine Need.mk ⟨k1,k2⟩ ?_;exact ZF
    (repeat'((conv=>whnf);first|refine Zg fun _=>?_|refine Zy ?_|refine Zm ?_|fail));refine Need.mk ⟨⟨r1,r2⟩,s1,s2⟩ ?_;(repeat'((conv=>whnf);first|refine Zy ?_|refine Zm ?_|fail));refine Need.mk ⟨k1,k2⟩ ?_;exact ZF
   have e:cmpf (valQ a) (valQ b)=(0,4):=by
    unfold oZ at hk;simp only[rV,rW] at hk;unfold cmpf;rw[aD];apply aH;intro hn;apply hk;simp only[cQ,not_or,fT] at hn;exact hn
   rw[e];by_cases na:nvOK a
   ·have nb:¬nvOK b:=fun e=>hv ⟨na,e⟩;(repeat'((conv=>whnf);first|refine Zg fun _=>?_|refine Zy ?_|refine Zm ?_|fail));refine Need.mk ⟨⟨r1,r2⟩,s1,s2⟩ ?_;exact ZRF
   (repeat'((conv=>whnf);first|refine Zg fun _=>?_|refine Zy ?_|refine Zm ?_|fail));refine Need.mk ⟨⟨r1,r2⟩,s1,s2⟩ ?_;exact ZRF
  rw[aC (by simpa using hca),aD hcb];by_cases na:nvOK a
  ·by_cases nb:nvOK b
   ·exact absurd ⟨na,nb⟩ hv
   exact ZRF
  exact ZRF
 rw[aD hca];by_cases na:nvOK a
 ·exact absurd (uB ⟨(jX na).1,(jX na).2.2.2⟩) hca
 exact ZRF
abbrev B6:Nat:=1000000
theorem get6 {l:List Int} (h:InB B6 l) (i:Nat):0<=l.getD i 0/\l.getD i 0<1000000:=h.getD0 de i
theorem v6 (m:Nat):valB B6 (aI B6 m)=m:=iT de m
def c141:Con:=aR 263 false fun | [.seq (.int .i64) xs],K=>K (Ls (gW xs)) | _,_=>False
theorem k141:aO Tp c141:=by
 refine kQ { asks:=[(0,[])] } func263 ntmps263 kn fun _ _ h=>?_;split at h;case h_2=>cases h
 rename_i xs;refine kb h ?_;(repeat'((conv=>whnf);first|refine Zg fun _=>?_|fail));refine Ask.mk ⟨{ X:=Nat,pre:=fun i=>i<=xs.length/\gW (xs.take i)=gW xs,mod:=fun i _=>[(3,I i)],heap:=fun i _=>[V []],mu:=fun i=>i },rfl,?_⟩;(repeat refine ZG ?_);refine ⟨⟨xs.length,⟨aN _,by rw[eA]⟩,?_⟩,fun (i:Nat) hi=>?_⟩
 ·exact ZE
 obtain ⟨hi1,hi2⟩:=hi;(apply Br.mk<;>intro)
 ·rename_i h1;have h0:0<i:=om;obtain ⟨k,rfl⟩:∃k,i=k+1:=⟨i-1,om⟩;(repeat refine ZG ?_);refine eS k om ?_;(repeat'((conv=>whnf);first|refine Zg fun _=>?_|fail));(apply Br.mk<;>intro)
  ·rename_i hz;(repeat refine ZG ?_);refine ⟨(k:Nat),by show k<k+1;omega,⟨om,?_⟩,?_⟩
   ·rw[<- hi2,wO _ _ om,hz,lE]
   exact ZE
  rename_i hz;(repeat refine ZG ?_);(conv=>whnf);rw[<- hi2,wO _ _ om];exact (tV _ _ hz).symm
 have:i=0:=om;subst this;(repeat refine ZG ?_);(conv=>whnf);rw[<- hi2];rfl
theorem b143 (l:List Int) (i:Int) (h:0<=i):body Tp [] {} true f265 [Ls l,I i] (I (l.getD i.toNat 0)):=by
 (repeat'((conv=>whnf);first|refine Zg fun _=>?_|fail));(apply Br.mk<;>intro)
 ·(repeat refine ZG ?_);refine eS i.toNat om ?_;(repeat'((conv=>whnf);first|refine Zg fun _=>?_|fail));exact ZF
 rename_i h1;have:l.getD i.toNat 0=0:=mN _ _ om;(conv=>whnf);rw[this];exact ZE
def c143:Con:=aR 265 true fun args K=>match args with | [.seq (.int .i64) l,.val (.int .i64 i)]=>Need (0<=i) (Ix i fun j=>K (I (l.getD j 0))) | _=>False
theorem k143:aO Tp c143:=by
 refine kO func265 fun args K h=>?_;simp only[c143] at h;split at h
 ·rename_i l i;exact ⟨_,h.go.use h.ok,triB func265 ntmps265 si (b143 l i h.ok)⟩
 cases h
theorem b144 (a b:List Int) (h:InB B6 a/\InB B6 b/\valB B6 b<=valB B6 a/\b.length<=a.length/\a.length<=100000):body Tp [c143,c141] { asks:=[(0,[1])] } false f266 [Ls a,Ls b] (Ls (aI B6 (valB B6 a-valB B6 b).toNat)):=by
 obtain ⟨ha,hb,hle,hlb,hla⟩:=h;(conv=>whnf);refine Ask.mk ⟨{ X:=Nat,pre:=fun i=>i<=a.length,mod:=fun i _=>[(5,.ref 1 1),(6,I (subK B6 a b i).2),(7,I i)],heap:=fun i _=>[V [],V (subK B6 a b i).1],mu:=fun i=>a.length-i,objs:=[1] },rfl,?_⟩;(repeat refine ZG ?_);refine ⟨⟨(0:Nat),aK _,ZE⟩,fun (i:Nat) (hi:i<=a.length)=>?_⟩;obtain ⟨g1,g2,g3,_⟩:=Au (B:=B6) de ha hb i;have ga:=get6 ha i;have gb:=get6 hb i;(repeat'((conv=>whnf);first|refine Zg fun _=>?_|fail));(apply Br.mk<;>intro)
 ·have hlt:i<a.length:=om;(repeat'((conv=>whnf);first|refine Zg fun _=>?_|refine Zn ?_|refine Zj ?_|apply pI|apply pJ|fail));(apply Br.mk<;>intro)
  ·rename_i hneg;have s1:(subK B6 a b (i+1)).1=(subK B6 a b i).1++ [a.getD i 0-b.getD i 0-(subK B6 a b i).2+1000000]:=by
    simp only[subK];rw[aC om];rfl
   have s2:(subK B6 a b (i+1)).2=1:=by
    simp only[subK];rw[aC om]
   (repeat refine ZG ?_);refine ⟨(i+1:Nat),by show a.length-(i+1)<a.length-i;omega,hlt,?_⟩;(repeat' first|exact trivial|rfl|exact Nat.one_pos|apply aA|omega);exact s1.symm
  rename_i hneg;have s1:(subK B6 a b (i+1)).1=(subK B6 a b i).1++ [a.getD i 0-b.getD i 0-(subK B6 a b i).2]:=by
   simp only[subK];rw[aD om]
  have s2:(subK B6 a b (i+1)).2=0:=by
   simp only[subK];rw[aD om]
  (repeat refine ZG ?_);refine ⟨(i+1:Nat),by show a.length-(i+1)<a.length-i;omega,hlt,?_⟩;(repeat' first|exact trivial|rfl|exact Nat.one_pos|apply aA|omega);exact s1.symm
 have e:i=a.length:=om;subst e;have hs:=(Wg (B:=B6) de ha hb (n:=a.length) om om hle).1;(conv=>whnf);exact hs
theorem b142 (a:List Int) (d:Int) (h:InB B6 a/\(0<d/\d<1000000)/\a.length<=100000):body Tp [c141] { asks:=[(0,[])] } false f264 [Ls a,I d] (.tup [Ls (aI B6 (valB B6 a/d).toNat),Ls (aI B6 (valB B6 a%d).toNat)]):=by
 obtain ⟨ha,hd,hla⟩:=h;obtain ⟨q1,q2,q3⟩:=Wj (B:=B6) de hd.1 hd.2 ha;(repeat' first|refine ZG ?_|refine Zg fun _=>?_);refine Ask.mk ⟨{ X:=Nat,pre:=fun m=>m<=a.length,mod:=fun m _=>[(7,I (divK B6 d a m).2),(8,I ((a.length:Int)-1-m))],heap:=fun m _=>[V [],V [],V (divK B6 d a m).1],mu:=fun m=>a.length-m },rfl,?_⟩;(repeat refine ZG ?_);refine ⟨⟨(0:Nat),aK _,?_⟩,fun (m:Nat) (hm:m<=a.length)=>?_⟩
 ·exact ZE
 obtain ⟨g1,g2,g3,_⟩:=tY (B:=B6) de hd.1 ha m hm;have ga:=get6 ha (a.length-1-m);(apply Br.mk<;>intro)
 ·have hlt:m<a.length:=om;(repeat refine ZG ?_);refine eS (a.length-1-m) om ?_;(repeat' first|refine ZG ?_|refine Zg fun _=>?_);refine eS (a.length-1-m) om ?_;(repeat refine ZG ?_);refine ⟨(m+1:Nat),by show a.length-(m+1)<a.length-m;omega,hlt,?_⟩;(repeat' first|exact trivial|rfl|apply aA|omega);all_goals (rw[iM];rfl)
 have e:m=a.length:=om;subst e;(repeat refine ZG ?_);(conv=>whnf);(repeat' first|exact trivial|apply aA)
 ·exact q1
 exact q3
theorem aAo {B:Nat} (hB:2<=B) {x:Int} (hx:0<=x/\x<B) {b:List Int} (hb:InB B b) {i:Nat} {out:List Int} (ho:InB B out) (hl:i+b.length+1<=out.length) (hz:out.getD (i+b.length) 0=0) (hc:(mulK B x b i out b.length).2=0):(mulK B x b i out (b.length+1)).1=(mulK B x b i out b.length).1:=by
 obtain ⟨h1,h2,h3,h4,h5,h6⟩:=rR hB hx hb (i:=i) ho b.length om;simp only[mulK];rw[hc,h5 _ (aN _),hz,mN b b.length (aN _),dL,eV,eV,Int.zero_emod];refine rS si fun j hj=>?_;rw[dN] at hj;rw[mL _ _ _ om];by_cases e:j=i+b.length
 ·rw[aD e,e,h5 _ (aN _),hz]
 rw[aC e]
theorem b145 (a b:List Int) (h:InB B6 a/\InB B6 b/\a.length<=100000/\b.length<=100000):body Tp [c143,c141] { asks:=[(0,[]),(2,[])] } false f267 [Ls a,Ls b] (Ls (aI B6 (valB B6 a*valB B6 b).toNat)):=by
 obtain ⟨ha,hb,hla,hlb⟩:=h;obtain ⟨n,hn⟩:∃n,n=a.length+b.length+1:=⟨_,rfl⟩;(repeat' first|refine ZG ?_|refine Zg fun _=>?_);refine Ask.mk ⟨{ X:=Nat,pre:=fun i=>i<=a.length,mod:=fun i _=>[(6,I i)],heap:=fun i _=>[V [],V (mulR B6 a b (List.replicate n 0) i)],mu:=fun i=>a.length-i },rfl,?_⟩;(repeat refine ZG ?_);refine ⟨⟨(0:Nat),aK _,?_⟩,fun (i:Nat) (hi:i<=a.length)=>?_⟩
 ·(repeat' first|exact trivial|rfl|apply aA);show List.replicate _ _=List.replicate _ _;congr 1;omega
 obtain ⟨g1,g2,g3,g4⟩:=Av (B:=B6) de ha hb (n:=n) om i hi;have ga:=get6 ha i;(repeat'((conv=>whnf);first|refine Zg fun _=>?_|fail));(apply Br.mk<;>intro)
 ·have hlt:i<a.length:=om;have hz:=g4 (i+b.length) (aN _);have hx:0<=a.getD i 0/\a.getD i 0<(B6:Int):=ga;refine Ask.mk ⟨{ X:=Nat,pre:=fun k=>k<=b.length+1,mod:=fun k _=>[(8,I k),(7,I (mulK B6 (a.getD i 0) b i (mulR B6 a b (List.replicate n 0) i) k).2)],heap:=fun k _=>[V [],V (mulK B6 (a.getD i 0) b i (mulR B6 a b (List.replicate n 0) i) k).1],mu:=fun k=>b.length+1-k },rfl,?_⟩;(repeat refine ZG ?_);refine ⟨⟨(0:Nat),aK _,ZE⟩,fun (k:Nat) (hk:k<=b.length+1)=>?_⟩;obtain ⟨m1,m2,m3,_⟩:=rR (B:=B6) de (x:=a.getD i 0) hx hb (i:=i) g2 k om;have m3:0<=(mulK B6 (a.getD i 0) b i (mulR B6 a b (List.replicate n 0) i) k).2/\(mulK B6 (a.getD i 0) b i (mulR B6 a b (List.replicate n 0) i) k).2<1000000:=m3;have hrow:=(Wh (B:=B6) de (x:=a.getD i 0) hx hb (i:=i) g2 om hz).1;have gb:=get6 hb k;have gm:=get6 m2 (i+k);have hm:0<=a.getD i 0*b.getD k 0/\a.getD i 0*b.getD k 0<=999999*999999:=⟨dH ga.1 gb.1,Int.mul_le_mul om om gb.1 om⟩;by_cases hg:k<b.length\/(mulK B6 (a.getD i 0) b i (mulR B6 a b (List.replicate n 0) i) k).2>0
  ·have hlt2:k<b.length+1:=by
    rcases hg with hg | hg
    ·omega
    by_cases e:k=b.length+1
    ·rw[e,hrow] at hg;omega
    omega
   (repeat'((conv=>whnf);first|refine Zg fun _=>?_|refine Za ?_|refine Zn ?_|refine Zj ?_|apply pI|apply pJ|refine Zy ?_|refine Zr (fun _=>?_) fun _=>?_|fail));all_goals first | (exfalso;omega) | skip
   all_goals (skip;refine ⟨(k+1:Nat),by show b.length+1-(k+1)<b.length+1-k;omega,hlt2,?_⟩;(repeat' first|exact trivial|rfl|apply aA))
  have hc:(mulK B6 (a.getD i 0) b i (mulR B6 a b (List.replicate n 0) i) k).2=0:=om;have hfin:(mulK B6 (a.getD i 0) b i (mulR B6 a b (List.replicate n 0) i) k).1=mulR B6 a b (List.replicate n 0) (i+1):=by
   by_cases e:k=b.length
   ·subst e;exact (aAo (B:=B6) de hx hb g2 om hz hc).symm
   have e:k=b.length+1:=om;subst e;rfl
  (repeat'((conv=>whnf);first|refine Zg fun _=>?_|refine Zn ?_|refine Zm ?_|fail));all_goals first | (exfalso;omega) | skip
  all_goals (skip;refine ⟨(i+1:Nat),by show a.length-(i+1)<a.length-i;omega,hlt,?_⟩;(repeat' first|exact trivial|rfl|apply aA);exact hfin)
 have e:i=a.length:=om;subst e;(conv=>whnf);exact Wi (B:=B6) de ha hb om
def c144:Con:=aR 266 false fun args K=>match args with | [.seq (.int .i64) a,.seq (.int .i64) b]=>Need (InB B6 a/\InB B6 b/\valB B6 b<=valB B6 a/\b.length<=a.length/\a.length<=100000) (K (Ls (aI B6 (valB B6 a-valB B6 b).toNat))) | _=>False
theorem k144:aO Tp c144:=by
 refine kO func266 fun args K h=>?_;simp only[c144] at h;split at h
 ·rename_i a b;exact ⟨_,h.go,triB func266 ntmps266 (by simp[k143,k141]) (b144 a b h.ok)⟩
 cases h
def c142:Con:=aR 264 false fun args K=>match args with | [.seq (.int .i64) a,.val (.int .i64 d)]=>Need (InB B6 a/\(0<d/\d<1000000)/\a.length<=100000) (K (.tup [Ls (aI B6 (valB B6 a/d).toNat),Ls (aI B6 (valB B6 a%d).toNat)])) | _=>False
theorem k142:aO Tp c142:=by
 refine kO func264 fun args K h=>?_;simp only[c142] at h;split at h
 ·rename_i a d;exact ⟨_,h.go,triB func264 ntmps264 (by simp[k141]) (b142 a d h.ok)⟩
 cases h
def c145:Con:=aR 267 false fun args K=>match args with | [.seq (.int .i64) a,.seq (.int .i64) b]=>Need (InB B6 a/\InB B6 b/\a.length<=100000/\b.length<=100000) (K (Ls (aI B6 (valB B6 a*valB B6 b).toNat))) | _=>False
theorem k145:aO Tp c145:=by
 refine kO func267 fun args K h=>?_;simp only[c145] at h;split at h
 ·rename_i a b;exact ⟨_,h.go,triB func267 ntmps267 (by simp[k143,k141]) (b145 a b h.ok)⟩
 cases h
def sgnI (x:Int):Int:=if x<0 then -1 else if x=0 then 0 else 1
def c146:Con:=aR 268 true fun | [.seq (.int .i64) a,.seq (.int .i64) b],K=>Need (InB B6 a/\InB B6 b) (K (I (sgnI (cmpL a b)))) | _,_=>False
theorem k146:aO Tp c146:=by
 refine kQ { asks:=[(0,[])] } func268 ntmps268 kn fun _ _ h=>?_;split at h;case h_2=>cases h
 rename_i a b;refine kb h.go ?_;replace h:=h.ok;obtain ⟨ha,hb⟩:=h;(repeat'((conv=>whnf);first|refine Zg fun _=>?_|fail));(apply Br.mk<;>intro)
 ·rename_i h1;have hc:cmpL a b=(a.length:Int)-b.length:=by unfold cmpL;rw[aC om]
  rw[hc];(repeat'((conv=>whnf);first|refine Zg fun _=>?_|fail));(apply Br.mk<;>intro)
  ·rename_i h2;(conv=>whnf);(repeat' first|rfl|apply aA);unfold sgnI;rw[aD om]
  rename_i h2;(conv=>whnf);(repeat' first|rfl|apply aA);unfold sgnI;rw[aC om,aC om]
 rename_i h1;have hl:a.length=b.length:=om;have hc:cmpL a b=nQ a b a.length:=by unfold cmpL;rw[aD hl]
 rw[hc];(repeat' first|refine ZG ?_|refine Zg fun _=>?_);refine Ask.mk ⟨{ X:=Nat,pre:=fun m=>m<=a.length/\nQ a b a.length=nQ a b (a.length-m),mod:=fun m _=>[(5,I ((a.length:Int)-1-m))],heap:=fun _ _=>[],mu:=fun m=>a.length-m },rfl,?_⟩;(repeat refine ZG ?_);refine ⟨⟨(0:Nat),⟨aK _,rfl⟩,ZE⟩,fun (i:Nat) hi=>?_⟩;obtain ⟨hi1,hi2⟩:=hi;(apply Br.mk<;>intro)
 ·have hlt:i<a.length:=om;obtain ⟨m,hm⟩:∃m,a.length-i=m+1:=⟨a.length-i-1,om⟩;have e2:a.length-(i+1)=m:=om;have ga:=get6 ha m;have gb:=get6 hb m;rw[hm,nQ] at hi2;(repeat'((conv=>whnf);first|refine Zn ?_|apply pI|apply pJ|fail));refine eS m om ?_;(repeat'((conv=>whnf);first|refine Zg fun _=>?_|refine Zn ?_|apply pI|apply pJ|fail));refine eS m om ?_;(repeat'((conv=>whnf);first|refine Zg fun _=>?_|apply pI|apply pJ|fail));(apply Br.mk<;>intro)
  ·rename_i h2;rw[aC om] at hi2;(conv=>whnf);(repeat' first|rfl|apply aA);unfold sgnI;rw[hi2,aD om]
  rename_i h2;(repeat'((conv=>whnf);first|refine Zn ?_|apply pI|apply pJ|fail));refine eS m om ?_;(repeat'((conv=>whnf);first|refine Zg fun _=>?_|refine Zn ?_|apply pI|apply pJ|fail));refine eS m om ?_;(repeat'((conv=>whnf);first|refine Zg fun _=>?_|apply pI|apply pJ|fail));(apply Br.mk<;>intro)
  ·rename_i h3;rw[aC om] at hi2;(conv=>whnf);(repeat' first|rfl|apply aA);unfold sgnI;rw[hi2,aC om,aC om]
  rename_i h3;rw[aD om] at hi2;(repeat refine ZG ?_);refine ⟨(i+1:Nat),by show a.length-(i+1)<a.length-i;omega,⟨hlt,by rw[e2];exact hi2⟩,?_⟩;exact ZE
 have e:i=a.length:=om;subst e;rw[kV] at hi2;(conv=>whnf);(repeat' first|rfl|apply aA);unfold sgnI;rw[hi2];rfl
end RB
end
section
namespace IB
theorem aHq {B:Nat} (hB:2<=B) {l:List Int} (h:InB B l) (j:Nat):((l.getD (j+2) 0*B+l.getD (j+1) 0)*B+l.getD j 0)*(B:Int)^j<=valB B l:=by
 by_cases hj:j<l.length
 ·have e0:=mU (B:=B) l j om;have b0:=dZ (tI h j);have hP:=kN hB j;rw[eU l j hj] at e0;simp only[valB] at e0;have h1:l.getD (j+2) 0*B+l.getD (j+1) 0<=valB B (l.drop (j+1)):=by
   by_cases h1:j+1<l.length
   ·rw[eU l (j+1) h1];simp only[valB];have h2:l.getD (j+2) 0<=valB B (l.drop (j+1+1)):=by
     by_cases h2:j+2<l.length
     ·rw[eU l (j+1+1) h2];simp only[valB];have:=dZ (pF h (j+1+1+1));have h3:(0:Int)<=(B:Int)*valB B (l.drop (j+1+1+1)):=dH om this;show l.getD (j+1+1) 0<= _;omega
     rw[mN l (j+2) om];exact dZ (pF h _)
    have h3:(B:Int)*l.getD (j+2) 0<=B*valB B (l.drop (j+1+1)):=aV h2 om;rw[bJ (l.getD (j+2) 0)];omega
   rw[mN l (j+2) om,mN l (j+1) om,tM,tN];exact dZ (pF h _)
  have h2:(l.getD (j+2) 0*B+l.getD (j+1) 0)*B<=valB B (l.drop (j+1))*B:=bN h1 om;rw[bJ (valB B (l.drop (j+1)))] at h2;have h3:((l.getD (j+2) 0*B+l.getD (j+1) 0)*B+l.getD j 0)*(B:Int)^j<=(l.getD j 0+B*valB B (l.drop (j+1)))*(B:Int)^j:=bN om (dW hP);rw[bJ (l.getD j 0+B*valB B (l.drop (j+1)))] at h3;omega
 rw[mN l (j+2) om,mN l (j+1) om,mN l j om];simp only[tM,eV];exact dZ h
theorem aNo {B:Nat} (hB:2<=B) {b:List Int} (h:InB B b) (hk:2<=b.length):valB B b<=(b.getD (b.length-1) 0*B+b.getD (b.length-2) 0+1)*(B:Int)^ (b.length-2):=by
 have e0:=mU (B:=B) b (b.length-2) om;have b0:=nM hB (tI h (b.length-2)) (n:=b.length-2) (by rw[aY];omega);rw[eU b (b.length-2) om,show b.length-2+1=b.length-1 by omega,eU b (b.length-1) om,dF om] at e0;simp only[valB,dL,eV] at e0
 rw[e0,show (b.getD (b.length-1) 0*(B:Int)+b.getD (b.length-2) 0+1)*(B:Int)^ (b.length-2)=(B:Int)^ (b.length-2)*(b.getD (b.length-2) 0+B*b.getD (b.length-1) 0)+(B:Int)^ (b.length-2) by
  rw[jO _ 1,iP,bJ _ ((B:Int)^ (b.length-2)),iM _ (b.getD (b.length-2) 0),bJ _ (B:Int)]]
 omega
theorem aEj {B:Nat} (hB:2<=B) {b:List Int} (hb:InB B b) (hk:2<=b.length) {n R:Nat} (hn:0<n) (hv:valB B b=n) (hR:R<n*B) (t3:Int)
  (ht:t3=((aI B R).getD b.length 0*B+(aI B R).getD (b.length-1) 0)*B+(aI B R).getD (b.length-2) 0):
  0<=t3/(b.getD (b.length-1) 0*B+b.getD (b.length-2) 0+1)/\t3/(b.getD (b.length-1) 0*B+b.getD (b.length-2) 0+1)<B/\t3/(b.getD (b.length-1) 0*B+b.getD (b.length-2) 0+1)*n<=R:=by
 have hi:=cR hB R;have h3:=aHq hB hi (b.length-2);rw[show b.length-2+2=b.length by omega,show b.length-2+1=b.length-1 by omega,iT hB,<- ht] at h3;have h2:=aNo hB hb hk;rw[hv] at h2;have g1:=hb.get (show b.length-1<b.length by omega);have g2:=hb.get (show b.length-2<b.length by omega);have x0:=hi.getD0 om b.length;have x1:=hi.getD0 om (b.length-1);have x2:=hi.getD0 om (b.length-2);have top0:0<=b.getD (b.length-1) 0*(B:Int):=dH g1.1 om;have t0:0<=t3:=by
  rw[ht];have:=dH x0.1 (show (0:Int)<=B by omega);have:=dH (show 0<=(aI B R).getD b.length 0*B+(aI B R).getD (b.length-1) 0 by omega) (show (0:Int)<=B by omega);omega
 obtain ⟨e1,e2⟩:=aJ8 (V:=(n:Int)) (R:=(R:Int)) (t3:=t3) (top:=b.getD (b.length-1) 0*B+b.getD (b.length-2) 0) (P:=(B:Int)^ (b.length-2)) (kN hB _) om h2 om h3 t0;refine ⟨e1,?_,(hZ om).1 e2⟩;refine Int.lt_of_le_of_lt e2 (fI om ?_);rw[bJ];exact_mod_cast hR
end IB
end
section
open Go Go.Proofs Go.Eng Go.Shelf IB Go.Lib Go.RowKit Tryz
namespace RB
theorem Ml {B:Nat} (hB:2<=B) {a b:List Int} (ha:InB B a) (hb:InB B b) (hl:a.length=b.length):∀m,m<=a.length->(∀j,m<=j->j<a.length->a.getD j 0=b.getD j 0)->
  (nQ a b m<0↔valB B a<valB B b)/\(nQ a b m=0↔valB B a=valB B b)
 | 0,_,h=>by
  have:a=b:=rS hl fun j hj=>h j (aK _) hj;subst this;simp[nQ]
 | m+1,hm,h=>by
  simp only[nQ];by_cases e:a.getD m 0=b.getD m 0
  ·rw[aD e];refine Ml hB ha hb hl m om fun j h1 h2=>?_;by_cases e2:j=m
   ·rw[e2];exact e
   exact h j om h2
  rw[aC e];rcases mJ e with h1 | h1
  ·have:=Il (B:=B) hB ha hb hl om (fun j h2 h3=>h j om h3) h1;omega
  have:=Il (B:=B) hB hb ha hl.symm om (fun j h2 h3=>(h j om om).symm) h1;omega
theorem Mm {B:Nat} (hB:2<=B) (m n:Nat):(cmpL (aI B m) (aI B n)<0↔m<n)/\(cmpL (aI B m) (aI B n)=0↔m=n):=by
 unfold cmpL;split
 ·rename_i hl;have:=Ml hB (cR hB m) (cR hB n) hl _ (aN _) fun j h1 h2=>om;rw[iT hB,iT hB] at this;omega
 rename_i hl;by_cases h:(aI B m).length<(aI B n).length
 ·have:=qH hB h;omega
 have:=qH hB (m:=n) (n:=m) om;omega
theorem aEt {n:Nat} (h:(aI B6 n).length=1):(aI B6 n).getD 0 0=n/\n<1000000:=by
 have hv:=v6 n;have hg:=get6 (show InB B6 (aI B6 n) from cR de n) 0;cases hl:aI B6 n with
 | nil=>rw[hl] at h;simp at h
 | cons x r=>
  have hr:r= []:=by rw[hl] at h;simpa using h
  subst hr;rw[hl] at hv hg;simp only[valB,dL,eV] at hv;refine ⟨hv,?_⟩;have hg:0<=x/\x<1000000:=hg;omega
theorem kP {p q:Nat} (h:p<=q):(aI B6 p).length<=(aI B6 q).length:=aH fun hx=>by
 have:=qH (B:=B6) de (m:=q) (n:=p) om;omega
def r9 (n:Nat) (a:List Int):Nat->SV
 | 0=>.ref 3 1
 | m+1=>Ls (aI B6 (divK B6 n a (m+1)).2.toNat)
theorem mV {m k:Nat} (h:m<B6^k):(aI B6 m).length<=k:=by
 by_cases h0:m=0
 ·subst h0;rw[dM];exact aK _
 have:=(kH (B:=B6) de (n:=m) om).1;have:=(fD (show 1<B6 by decide)).1 (bX (by exact_mod_cast this) h);omega
theorem aIp {p q:Nat} {x:Int} (hc:(x<0↔p<q)/\(x=0↔p=q)) (h:0<=sgnI x):q<=p:=by
 unfold sgnI at h;split at h<;>omega
theorem aIq {p q:Nat} {x:Int} (hc:(x<0↔p<q)/\(x=0↔p=q)) (h:¬0<=sgnI x):p<q:=by
 unfold sgnI at h;split at h
 ·omega
 split at h<;>omega
theorem Xg {B:Nat} (hB:2<=B) {d:Int} (hd:0<d) {a:List Int} (ha:InB B a):
  gW (divK B d a a.length).1=aI B (valB B a/d).toNat/\(divK B d a a.length).2=valB B a%d:=by
 obtain ⟨h1,h2,h3,h4⟩:=tY hB hd ha a.length (aN _);rw[kV,eX,eX] at h4;have h5:valB B a/d=valB B (divK B d a a.length).1/\valB B a%d=(divK B d a a.length).2:=by
  rw[sT hd];exact ⟨by rw[iM,bJ];exact h4,h3.1,h3.2⟩
 exact ⟨by rw[h5.1];exact iI hB h2,h5.2.symm⟩
theorem Pm {n R r g m:Nat} {a:List Int} (hn:0<n) (hR:a.getD (a.length-1-m) 0+(r:Int)*1000000=R) (hr:(divK B6 n a m).2=r) (hg:n*g<=R) (hlt:R-n*g<n):
  (divK B6 n a (m+1)).1=(divK B6 n a m).1.set (a.length-1-m) g/\(divK B6 n a (m+1)).2=((R-n*g:Nat):Int):=by
 have hx:a.getD (a.length-1-m) 0+(divK B6 n a m).2*(B6:Int)=R:=by
  rw[hr,<- hR];rfl
 have e1:R/n=g:=by
  refine Nat.div_eq_of_lt_le (by rw[fL];exact hg) ?_;rw[Nat.succ_mul,fL];omega
 have e2:R%n=R-n*g:=by
  have:=Nat.div_add_mod R n;rw[e1] at this;omega
 simp only[divK];rw[hx,<- fS,<- sD,e1,e2];exact ⟨rfl,rfl⟩
theorem b113 (a:List Int) (n:Nat) (h:InB B6 a/\(0<n/\n<B6^100)/\a.length<=1000):body Tp [c142,c141,c143,c145,c144,c146] { asks:=[(0,[]),(2,[])] } false f213 [Ls a,Ls (aI B6 n)] (.tup [Ls (aI B6 (valB B6 a/n).toNat),Ls (aI B6 (valB B6 a%n).toNat)]):=by
 obtain ⟨ha,⟨hn0,hn⟩,hla⟩:=h;have jn:InB B6 (aI B6 n):=cR de n;have vn:=v6 n;(repeat'((conv=>whnf);first|refine Zg fun _=>?_|fail));(apply Br.mk<;>intro)
 ·rename_i h1;obtain ⟨hx,hxlt⟩:=aEt (n:=n) om;(repeat'((conv=>whnf);first|refine Zg fun _=>?_|refine Zn ?_|refine Z0 ?_|fail));refine Need.mk ⟨ha,om,om⟩ ?_;rw[hx];exact ZF
 rename_i h1;have hk:2<=(aI B6 n).length:=by
  have:=(kH (B:=B6) de hn0).2.2;omega
 obtain ⟨b,hb⟩:∃b,aI B6 n=b:=⟨_,rfl⟩;have hbl:b.length<=200:=by
  rw[<- hb];have:=(kH (B:=B6) de hn0).1;have:=(fD (show 1<B6 by decide)).1 (bX (by exact_mod_cast this) hn);omega
 rw[hb] at jn vn hk h1 ⊢;have gt1:=get6 jn (b.length-1);have gt2:=get6 jn (b.length-2);(repeat'((conv=>whnf);first|refine Zg fun _=>?_|refine Zn ?_|apply pI|apply pJ|fail));refine eS (b.length-1) om ?_;(repeat'((conv=>whnf);first|refine Zg fun _=>?_|refine Zn ?_|apply pI|apply pJ|fail));refine eS (b.length-2) om ?_;(repeat'((conv=>whnf);first|refine Zg fun _=>?_|refine Zn ?_|apply pI|apply pJ|refine Z8 ?_|fail));(conv=>whnf);refine Ask.mk ⟨{ X:=Nat,pre:=fun m=>m<=a.length,mod:=fun m _=>[(9,r9 n a m),(10,I ((a.length:Int)-1-m))],heap:=fun m _=>[V [],V [],V (divK B6 n a m).1,V []],mu:=fun m=>a.length-m },rfl,?_⟩;(repeat refine ZN ?_);refine ⟨⟨(0:Nat),aK _,?_⟩,fun (m:Nat) (hm:m<=a.length)=>?_⟩
 ·exact ZE
 have hnI:(0:Int)<n:=om;obtain ⟨g1,g2,g3,_⟩:=tY (B:=B6) de hnI ha m hm;have ga:=get6 ha (a.length-1-m);obtain ⟨r,hr⟩:∃r:Nat,(divK B6 n a m).2=r:=⟨_,(bT g3.1).choose_spec⟩;obtain ⟨R,hR⟩:∃R:Nat,a.getD (a.length-1-m) 0+(r:Int)*1000000=R:=⟨_,(bT om).choose_spec⟩;have hL:gW (a.getD (a.length-1-m) 0::aI B6 r)=aI B6 R:=by
  rw[iI (B:=B6) de (InB.cons.2 ⟨ga,cR de r⟩)];congr 1
  show (a.getD (a.length-1-m) 0+(B6:Int)*valB B6 (aI B6 r)).toNat=R;rw[v6,bJ];show (a.getD (a.length-1-m) 0+(r:Int)*1000000).toNat=R;omega
 have hRn:R<n*B6:=by
  have:(r:Int)<n:=om;show R<n*1000000;omega
 have lR:(aI B6 R).length<=101:=mV (aZ hRn (by rw[eD];exact bQ _ (Nat.le_of_lt hn)));have rb:=aEj (B:=B6) de jn hk hn0 vn hRn _ rfl;have x0:=get6 (show InB B6 (aI B6 R) from cR de R) b.length;have x1:=get6 (show InB B6 (aI B6 R) from cR de R) (b.length-1);have x2:=get6 (show InB B6 (aI B6 R) from cR de R) (b.length-2);obtain ⟨G,hG⟩:∃G:Nat,(((aI B6 R).getD b.length 0*1000000+(aI B6 R).getD (b.length-1) 0)*1000000+(aI B6 R).getD (b.length-2) 0)/(b.getD (b.length-1) 0*1000000+b.getD (b.length-2) 0+1)=G:=⟨_,(bT rb.1).choose_spec⟩;have G1:G<1000000:=by
  have:(((aI B6 R).getD b.length 0*1000000+(aI B6 R).getD (b.length-1) 0)*1000000+(aI B6 R).getD (b.length-2) 0)/(b.getD (b.length-1) 0*1000000+b.getD (b.length-2) 0+1)<1000000:=rb.2.1;omega
 have G2:n*G<=R:=by
  have h3:(((aI B6 R).getD b.length 0*1000000+(aI B6 R).getD (b.length-1) 0)*1000000+(aI B6 R).getD (b.length-2) 0)/(b.getD (b.length-1) 0*1000000+b.getD (b.length-2) 0+1)*(n:Int)<=R:=rb.2.2;rw[hG,bJ] at h3;exact_mod_cast h3
 have iG:InB B6 [(G:Int)]:=fun x hx=>by
  have:x=G:=by simpa using hx
  subst this;exact ⟨om,by show (G:Int)<1000000;omega⟩
 have eG:(valB B6 b*valB B6 [(G:Int)]).toNat=n*G:=by
  rw[vn,show valB B6 [(G:Int)]=G by simp[valB],<- dE,aJ]
 rcases m with _ | m
 ·have hr0:r=0:=by
   have:(divK B6 n a 0).2=0:=rfl;omega
  rw[hr0,dM] at hL;(apply Br.mk<;>intro)
  ·have hlt:0<a.length:=om;(repeat refine ZN ?_);refine eS (a.length-1) om ?_;(repeat'((conv=>whnf);first|refine Zg fun _=>?_|fail));(conv=>whnf);refine Own.r ?_;(repeat refine ZN ?_);(conv=>whnf);rw[show gW ([a.getD (a.length-1) 0]++ [])=aI B6 R from hL];(repeat refine ZN ?_);refine eS (b.length-1) om ?_;(repeat refine ZN ?_);refine eS (b.length-2) om ?_;(repeat refine ZN ?_);rw[hG];(repeat refine ZG ?_);(conv=>whnf);refine Need.mk ⟨jn,iG,om,by show 1<=100000;omega⟩ ?_;rw[eG];(conv=>whnf);have lnG:=kP G2;refine Need.mk ⟨cR de _,cR de _,by rw[v6,v6];exact_mod_cast G2,lnG,om⟩ ?_;rw[show (valB B6 (aI B6 R)-valB B6 (aI B6 (n*G))).toNat=R-n*G by rw[v6,v6];omega];refine Ask.mk ⟨{ X:=Nat,pre:=fun g=>n*g<=R,mod:=fun g _=>[(9,Ls (aI B6 (R-n*g))),(11,I g)],heap:=fun _ _=>[V [],V [],V (divK B6 n a (0)).1,V [],.dead],mu:=fun g=>R-n*g },rfl,?_⟩;(repeat refine ZG ?_);refine ⟨⟨(G:Nat),G2,ZE⟩,fun (g:Nat) (hg:n*g<=R)=>?_⟩;have gB:g<1000000:=Nat.lt_of_mul_lt_mul_left (bX hg hRn);have hc:=Mm (B:=B6) de (R-n*g) n;rw[hb] at hc;have iR:InB B6 (aI B6 (R-n*g)):=cR de _;have lR':=kP (show R-n*g<=R by omega);refine Need.mk ⟨iR,jn⟩ ?_;(apply Br.mk<;>intro)
   ·rename_i hs;have hle:n<=R-n*g:=aIp hc hs;have lb:=kP hle;rw[hb] at lb;refine Need.mk ⟨iR,jn,by rw[v6,vn];exact_mod_cast hle,lb,om⟩ ?_;rw[show (valB B6 (aI B6 (R-n*g))-valB B6 b).toNat=R-n*(g+1) by rw[v6,vn,rC];omega];(repeat refine ZG ?_);refine ⟨(g+1:Nat),by show R-n*(g+1)<R-n*g;rw[rC];omega,by show n*(g+1)<=R;rw[rC];omega,?_⟩;exact ZE
   rename_i hs;have hlt2:R-n*g<n:=aIq hc hs;obtain ⟨z1,z2⟩:=Pm hn0 hR hr (show n*g<=R from hg) hlt2;(repeat refine ZG ?_);refine eS (a.length-1-(0)) om ?_;(repeat refine ZG ?_);refine ⟨(1:Nat),by show a.length-(1)<a.length-(0);omega,hlt,?_⟩;(repeat' first|exact trivial|rfl|apply aA|omega)
   ·rw[show r9 n a 1=Ls (aI B6 (divK B6 n a (1)).2.toNat) from rfl,z2,aJ];exact ZE
   exact z1.symm
  have e:0=a.length:=om;(conv=>whnf);obtain ⟨y1,y2⟩:=Xg (B:=B6) de hnI ha;rw[<- e] at y1 y2;(repeat' first|exact trivial|apply aA)
  ·exact y1
  rw[<- y2,show (divK B6 n a 0).2=0 from rfl,Int.toNat_zero,dM];exact ZE
 have hrt:r=(divK B6 n a (m+1)).2.toNat:=om;have lr:(aI B6 (divK B6 n a (m+1)).2.toNat).length<=200:=by
  rw[<- hrt];refine bL (kP (show r<=n by omega)) ?_;rw[hb];exact hbl
 rw[hrt] at hL;(apply Br.mk<;>intro)
 ·have hlt:m+1<a.length:=om;(repeat refine ZN ?_);refine eS (a.length-1-(m+1)) om ?_;(repeat'((conv=>whnf);first|refine Zg fun _=>?_|fail));(conv=>whnf);refine Own.r ?_;(repeat refine ZN ?_);(conv=>whnf);rw[show gW ([a.getD (a.length-1-(m+1)) 0]++aI B6 (divK B6 n a (m+1)).2.toNat)=aI B6 R from hL];(repeat refine ZN ?_);refine eS (b.length-1) om ?_;(repeat refine ZN ?_);refine eS (b.length-2) om ?_;(repeat refine ZN ?_);rw[hG];(repeat refine ZG ?_);(conv=>whnf);refine Need.mk ⟨jn,iG,om,by show 1<=100000;omega⟩ ?_;rw[eG];(conv=>whnf);have lnG:=kP G2;refine Need.mk ⟨cR de _,cR de _,by rw[v6,v6];exact_mod_cast G2,lnG,om⟩ ?_;rw[show (valB B6 (aI B6 R)-valB B6 (aI B6 (n*G))).toNat=R-n*G by rw[v6,v6];omega];refine Ask.mk ⟨{ X:=Nat,pre:=fun g=>n*g<=R,mod:=fun g _=>[(9,Ls (aI B6 (R-n*g))),(11,I g)],heap:=fun _ _=>[V [],V [],V (divK B6 n a (m+1)).1,V [],.dead],mu:=fun g=>R-n*g },rfl,?_⟩;(repeat refine ZG ?_);refine ⟨⟨(G:Nat),G2,ZE⟩,fun (g:Nat) (hg:n*g<=R)=>?_⟩;have gB:g<1000000:=Nat.lt_of_mul_lt_mul_left (bX hg hRn);have hc:=Mm (B:=B6) de (R-n*g) n;rw[hb] at hc;have iR:InB B6 (aI B6 (R-n*g)):=cR de _;have lR':=kP (show R-n*g<=R by omega);refine Need.mk ⟨iR,jn⟩ ?_;(apply Br.mk<;>intro)
  ·rename_i hs;have hle:n<=R-n*g:=aIp hc hs;have lb:=kP hle;rw[hb] at lb;refine Need.mk ⟨iR,jn,by rw[v6,vn];exact_mod_cast hle,lb,om⟩ ?_;rw[show (valB B6 (aI B6 (R-n*g))-valB B6 b).toNat=R-n*(g+1) by rw[v6,vn,rC];omega];(repeat refine ZG ?_);refine ⟨(g+1:Nat),by show R-n*(g+1)<R-n*g;rw[rC];omega,by show n*(g+1)<=R;rw[rC];omega,?_⟩;exact ZE
  rename_i hs;have hlt2:R-n*g<n:=aIq hc hs;obtain ⟨z1,z2⟩:=Pm hn0 hR hr (show n*g<=R from hg) hlt2;(repeat refine ZG ?_);refine eS (a.length-1-(m+1)) om ?_;(repeat refine ZG ?_);refine ⟨(m+1+1:Nat),by show a.length-(m+1+1)<a.length-(m+1);omega,hlt,?_⟩;(repeat' first|exact trivial|rfl|apply aA|omega)
  ·rw[show r9 n a (m+1+1)=Ls (aI B6 (divK B6 n a (m+1+1)).2.toNat) from rfl,z2,aJ];exact ZE
  exact z1.symm
 have e:m+1=a.length:=om;(conv=>whnf);obtain ⟨y1,y2⟩:=Xg (B:=B6) de hnI ha;rw[<- e] at y1 y2;(repeat' first|exact trivial|apply aA)
 ·exact y1
 rw[y2];exact ZE
def lJ (b:List Int):Prop:=aI B6 (valB B6 b).toNat=b
theorem kR (m:Nat):lJ (aI B6 m):=by
 unfold lJ;rw[v6,aJ]
theorem Gm {b:List Int} (h:lJ b):InB B6 b:=by
 rw[<- h];exact cR de _
theorem Mn {b:List Int} (h:lJ b):((valB B6 b).toNat:Int)=valB B6 b:=by
 rw[<- v6,h]
def c113:Con:=aR 213 false fun args K=>match args with
 | [.seq (.int .i64) a,.seq (.int .i64) b]=>Need (InB B6 a/\lJ b/\(0<(valB B6 b).toNat/\(valB B6 b).toNat<B6^100)/\a.length<=1000) (K (.tup [Ls (aI B6 (valB B6 a/valB B6 b).toNat),Ls (aI B6 (valB B6 a%valB B6 b).toNat)]))
 | _=>False
theorem k113:aO Tp c113:=by
 refine kO func213 fun args K h=>?_;simp only[c113] at h;split at h
 ·rename_i a b;refine ⟨_,h.go,?_⟩;obtain ⟨ha,hb,hn,hl⟩:=h.ok;have ht:=triB func213 ntmps213 (by simp[k142,k141,k143,k145,k144,k146]) (b113 a (valB B6 b).toNat ⟨ha,hn,hl⟩);rw[hb,Mn hb] at ht;exact ht
 cases h
theorem nR {s:Bx} {i:Nat} (hi:i<s.length):bE s i=(s[i].toNat:Int):=by
 unfold bE;rw[show s.getD i 0=s[i] by simp[aB,hi]]
theorem fW {s:Bx} (h:0<s.length) (c:UInt8):bE s 0=c.toNat↔s.headD 0=c:=by
 cases s with
 | nil=>simp at h
 | cons x r=>
  show (x.toNat:Int)=c.toNat↔x=c;exact ⟨fun e=>pP om,fun e=>by rw[e]⟩
theorem uU {s:Bx} (h:0<s.length) (hm:bE s 0=45):digs s=s.drop 1:=by
 have:=(fW h 45).1 hm;unfold digs;rw[aD this,gS]
theorem rY {s:Bx} (hm:0<s.length->¬bE s 0=45):digs s=s.drop 0:=by
 unfold digs;rw[eX];by_cases h:0<s.length
 ·rw[aC fun e=>hm h ((fW h 45).2 e)]
 have:s= []:=cI.1 om;subst this;rfl
theorem aAp {s:Bx} {p i:Nat} (hD:digs s=s.drop p) (hp:p<=i) (hi:i<s.length):s[i]∈digs s:=by
 rw[hD,nW];exact ⟨i-p,by rw[bB];omega,by rw[nE];congr 1;omega⟩
theorem Sk {s:Bx} {p i:Nat} (hD:digs s=s.drop p) (hp:p<=i) (hi:i<s.length) (hb:bE s i<48\/bE s i>57):chkI s=11:=by
 unfold chkI;rw[aC];rintro ⟨_,_,h3⟩;have:=h3 _ (aAp hD hp hi);rw[nR hi] at hb;unfold cY at this;omega
theorem Xh {s:Bx} {p:Nat} (hD:digs s=s.drop p) (hp:p<s.length):bE s p=48↔(digs s).headD 0=48:=by
 rw[hD,kE hp,nR hp];show (s[p].toNat:Int)=48↔s[p]=48;exact ⟨fun e=>pP (show s[p].toNat=48 by omega),fun e=>by rw[e];rfl⟩
theorem aDc {s:Bx} {p:Nat} (hD:digs s=s.drop p) (hp:p<s.length) (h:bE s p=48) (hl:s.length>1):chkI s=11:=
 yA (.inr (.inl ⟨(Xh hD hp).1 h,fun e=>by rw[e] at hl;simp at hl⟩))
theorem aDd {s:Bx} {p:Nat} (hD:digs s=s.drop p) (hp:p<s.length) (hz:¬(bE s p=48/\s.length>1)) (hd:∀j,p<=j->j<s.length->48<=bE s j/\bE s j<=57):form s:=by
 refine ⟨fun e=>?_,?_,fun c hc=>?_⟩
 ·have:=aP List.length (hD.symm.trans e);rw[bB] at this;simp at this;omega
 ·by_cases h0:(digs s).headD 0=48
  ·right
   have h1:=(Xh hD hp).2 h0;have hl:s.length=1:=by
    have:¬s.length>1:=fun h=>hz ⟨h1,h⟩;omega
   have hp0:p=0:=om;subst hp0
   match s,hl with
   | [x],_=>
    rw[hD] at h0;simp at h0;rw[h0]
  exact .inl h0
 rw[hD,nW] at hc;obtain ⟨j,hj,e⟩:=hc;rw[bB] at hj;rw[nE] at e;have:=hd (p+j) om om;rw[nR om,e] at this;unfold cY;omega
def c139:Con:=aR 261 true fun | [.str s],K=>K (I (chkI s)) | _,_=>False
theorem k139:aO Tp c139:=by
 refine kQ { asks:=[(0,[])] } func261 ntmps261 kn fun _ _ h=>?_;split at h;case h_2=>cases h
 rename_i s;refine kb h ?_;by_cases hm:0<s.length/\bE s 0=45
 ·have hD:=uU hm.1 hm.2;have hL:(digs s).length=s.length-1:=by rw[hD,bB]
  obtain ⟨hm1,hm2⟩:=hm;by_cases hz:s.length=1
  ·have hb:chkI s=11:=yA (.inl (cI.1 om));rw[hb];exact ZRF
  by_cases hz2:bE s 1=48/\s.length>1
  ·have hb:chkI s=11:=aDc hD om hz2.1 hz2.2;rw[hb];obtain ⟨hz3,hz4⟩:=hz2;exact ZRF
  have hz3:¬(bE s 1=48)\/(bE s 1=48/\¬((s.length:Int)>1)):=by
   by_cases e:bE s 1=48
   ·exact .inr ⟨e,fun h=>hz2 ⟨e,om⟩⟩
   exact .inl e
  rcases hz3 with hz3 | ⟨hz3,hz4⟩;all_goals first | (exfalso;omega) | skip
  all_goals (
   (repeat' first|refine ZR ?_|refine Zg fun _=>?_);refine Ask.mk ⟨{ X:=Nat,pre:=fun i=>1<=i/\i<=s.length/\∀j,1<=j->j<i->48<=bE s j/\bE s j<=57,mod:=fun i _=>[(4,I i)],heap:=fun _ _=>[],mu:=fun i=>s.length-i },rfl,?_⟩;(repeat refine ZG ?_);refine ⟨⟨(1:Nat),⟨aN _,om,fun j h1 h2=>om⟩,ZE⟩,fun (i:Nat) hi=>?_⟩;obtain ⟨hi1,hi2,hi3⟩:=hi;by_cases hlt:i<s.length
   ·by_cases h1:bE s i<48
    ·have hb:chkI s=11:=Sk hD hi1 hlt om;rw[hb];exact ZRF
    by_cases h2:bE s i>57
    ·have hb:chkI s=11:=Sk hD hi1 hlt om;rw[hb];exact ZRF
    (repeat' first|refine ZR ?_|refine Zg fun _=>?_);refine ⟨(i+1:Nat),by show s.length-(i+1)<s.length-i;omega,⟨om,om,fun j h3 h4=>?_⟩,?_⟩
    ·by_cases e:j=i
     ·rw[e];omega
     exact hi3 j h3 om
    exact ZE
   have e:i=s.length:=om;subst e;have hf:form s:=aDd hD om om hi3;rw[qS hf,hL];by_cases h5:300<s.length-1
   ·first
     | (exfalso;omega)
     | (rw[aD h5]
        (repeat' first|refine ZR ?_|refine Zg fun _=>?_);(conv=>whnf)
        (repeat' first|rfl|apply aA))
   rw[aC h5];(repeat' first|refine ZR ?_|refine Zg fun _=>?_);(conv=>whnf)
   (repeat' first|rfl|apply aA))
 have hD:=rY (s:=s) fun h e=>hm ⟨h,e⟩;have hL:(digs s).length=s.length-0:=by rw[hD,bB]
 have hm1:s.length=0\/(0<s.length/\¬bE s 0=45):=by
  by_cases e:s.length=0
  ·exact .inl e
  exact .inr ⟨om,fun h=>hm ⟨om,h⟩⟩
 rcases hm1 with hm1 | ⟨hm1,hm2⟩
 ·have hb:chkI s=11:=yA (.inl (cI.1 om));rw[hb];exact ZRF
 by_cases hz:s.length=0
 ·have hb:chkI s=11:=yA (.inl (cI.1 om));rw[hb];exact ZRF
 by_cases hz2:bE s 0=48/\s.length>1
 ·have hb:chkI s=11:=aDc hD om hz2.1 hz2.2;rw[hb];obtain ⟨hz3,hz4⟩:=hz2;exact ZRF
 have hz3:¬(bE s 0=48)\/(bE s 0=48/\¬((s.length:Int)>1)):=by
  by_cases e:bE s 0=48
  ·exact .inr ⟨e,fun h=>hz2 ⟨e,om⟩⟩
  exact .inl e
 rcases hz3 with hz3 | ⟨hz3,hz4⟩;all_goals first | (exfalso;omega) | skip
 all_goals (
  (repeat' first|refine ZR ?_|refine Zg fun _=>?_);refine Ask.mk ⟨{ X:=Nat,pre:=fun i=>0<=i/\i<=s.length/\∀j,0<=j->j<i->48<=bE s j/\bE s j<=57,mod:=fun i _=>[(4,I i)],heap:=fun _ _=>[],mu:=fun i=>s.length-i },rfl,?_⟩;(repeat refine ZG ?_);refine ⟨⟨(0:Nat),⟨aN _,om,fun j h1 h2=>om⟩,ZE⟩,fun (i:Nat) hi=>?_⟩;obtain ⟨hi1,hi2,hi3⟩:=hi;by_cases hlt:i<s.length
  ·by_cases h1:bE s i<48
   ·have hb:chkI s=11:=Sk hD hi1 hlt om;rw[hb];exact ZRF
   by_cases h2:bE s i>57
   ·have hb:chkI s=11:=Sk hD hi1 hlt om;rw[hb];exact ZRF
   (repeat' first|refine ZR ?_|refine Zg fun _=>?_);refine ⟨(i+1:Nat),by show s.length-(i+1)<s.length-i;omega,⟨om,om,fun j h3 h4=>?_⟩,?_⟩
   ·by_cases e:j=i
    ·rw[e];omega
    exact hi3 j h3 om
   exact ZE
  have e:i=s.length:=om;subst e;have hf:form s:=aDd hD om om hi3;rw[qS hf,hL];by_cases h5:300<s.length-0
  ·first
    | (exfalso;omega)
    | (rw[aD h5]
       (repeat' first|refine ZR ?_|refine Zg fun _=>?_);(conv=>whnf)
       (repeat' first|rfl|apply aA))
  rw[aC h5];(repeat' first|refine ZR ?_|refine Zg fun _=>?_);(conv=>whnf)
  (repeat' first|rfl|apply aA))
def c110:Con:=aR 210 true fun | [.str a,.str b],K=>K (I (chk2 a b)) | _,_=>False
theorem k110:aO Tp c110:=by
 refine kQ {} func210 ntmps210 (kc k139 kn) fun _ _ h=>?_;split at h;case h_2=>cases h
 refine kb h ?_;unfold chk2;(apply Br.mk<;>intro)
 ·rename_i h;rw[aD h];exact ZF
 rename_i h;rw[aC h];exact ZF
def sgP' (s:Bx):Nat:=if s.headD 0=45 then 1 else 0
theorem Bd (s:Bx):digs s=s.drop (sgP' s):=by
 unfold digs sgP';split
 ·rw[gS]
 rw[eX]
def pfx (s:Bx) (i:Nat):Nat:=aT ((s.take i).drop (sgP' s))
theorem aIr (s:Bx):pfx s 0=0:=by simp[pfx,aT]
theorem Sl (s:Bx):pfx s s.length=aT (digs s):=by
 unfold pfx;rw[eA,Bd]
theorem aOl {s:Bx} (hf:form s) {i:Nat} (hi:i<=16):pfx s i<10000000000000000:=by
 have hb:=iE ((s.take i).drop (sgP' s)) fun c hc=>hf.2.2 c (by rw[Bd];rw[zV] at hc;exact dG hc);have hp:(10:Nat)^ ((s.take i).drop (sgP' s)).length<=10^16:=bG om (by rw[bB,aY];omega);have h16:(10:Nat)^16=10000000000000000:=de;unfold pfx;omega
theorem aIs {s:Bx} (hf:form s) {i:Nat} (hi:i<s.length) (h:bE s i=45):pfx s (i+1)=pfx s i:=by
 by_cases hp:sgP' s<=i
 ·have:=hf.2.2 _ (aAp (Bd s) hp hi);rw[nR hi] at h;unfold cY at this;omega
 unfold pfx;rw[dF (by rw[aY];omega),dF (by rw[aY];omega)]
theorem aK3 {s:Bx} (hf:form s) {i:Nat} (hi:i<s.length) (h:¬bE s i=45):(48<=bE s i/\bE s i<=57)/\(pfx s (i+1):Int)=10*pfx s i+(bE s i-48):=by
 by_cases hp:sgP' s<=i
 ·have hg:=hf.2.2 _ (aAp (Bd s) hp hi);have e:(s.take (i+1)).drop (sgP' s)=(s.take i).drop (sgP' s)++ [s[i]]:=by
   rw[cV hi,dY (by rw[aY];omega)]
  rw[nR hi];unfold pfx;rw[e,jW];unfold cY at hg;omega
 refine absurd ?_ h;have h0:i=0/\s.headD 0=45:=by
  unfold sgP' at hp;split at hp
  ·exact ⟨om,by assumption⟩
  omega
 rw[h0.1];exact (fW om 45).2 h0.2
theorem b140n (s:Bx) (h:17<s.length):body Tp [] { asks:=[(0,[])] } true f262 [S s] (.tup [I 0,.val (.bool false)]):=by
 exact ZRF
theorem b140y (s:Bx) (hf:form s) (hl:s.length<=17):body Tp [] { asks:=[(0,[])] } true f262 [S s] (.tup [I (valI s),.val (.bool true)]):=by
 have h0:0<s.length:=dP fun e=>hf.1 (by rw[cI.1 e];rfl);(repeat' first|refine ZR ?_|refine Zg fun _=>?_);refine Ask.mk ⟨{ X:=Nat,pre:=fun i=>i<=s.length,mod:=fun i _=>[(4,I (pfx s i)),(5,I i)],heap:=fun _ _=>[],mu:=fun i=>s.length-i },rfl,?_⟩;(repeat refine ZG ?_);refine ⟨⟨(0:Nat),aK _,?_⟩,fun (i:Nat) (hi:i<=s.length)=>?_⟩
 ·(repeat' first|exact trivial|rfl|apply aA);rw[aIr];rfl
 by_cases hlt:i<s.length
 ·have hb:=aOl hf (i:=i) om;by_cases hs:bE s i=45
  ·have e:=aIs hf hlt hs;(repeat' first|refine ZR ?_|refine Zg fun _=>?_);refine ⟨(i+1:Nat),by show s.length-(i+1)<s.length-i;omega,hlt,?_⟩;exact ZE
  obtain ⟨e1,e2⟩:=aK3 hf hlt hs;(repeat' first|refine ZR ?_|refine Zg fun _=>?_);refine ⟨(i+1:Nat),by show s.length-(i+1)<s.length-i;omega,hlt,?_⟩;exact ZE
 have e:i=s.length:=om;subst e;have hn:pfx s s.length<1000000000000000000:=by
  rw[Sl];have hb:=iE (digs s) hf.2.2;have hp:(10:Nat)^ (digs s).length<=10^18:=bG om (by have:=uT s;omega);have h18:(10:Nat)^18=1000000000000000000:=de;omega
 by_cases hm:bE s 0=45
 ·have hv:valI s= -(pfx s s.length:Int):=by
   have hm':=(fW h0 45).1 hm;rw[Sl];unfold valI digs;rw[aD hm',aD hm']
  rw[hv];exact ZRF
 have hv:valI s=(pfx s s.length:Int):=by
  have hm':¬s.headD 0=45:=fun e=>hm ((fW h0 45).2 e);rw[Sl];unfold valI digs;rw[aC hm',aC hm']
 rw[hv];exact ZRF
def c140:Con:=aR 262 true fun args K=>match args with
 | [.str s]=>Need (form s) (Br (17<s.length) (K (.tup [I 0,.val (.bool false)])) (K (.tup [I (valI s),.val (.bool true)])))
 | _=>False
theorem k140:aO Tp c140:=by
 refine kO func262 fun args K h=>?_;simp only[c140] at h;split at h
 ·rename_i s;obtain ⟨hf,h⟩:=h;by_cases hs:17<s.length
  ·exact ⟨_,h.yes hs,triB func262 ntmps262 si (b140n s hs)⟩
  exact ⟨_,h.no hs,triB func262 ntmps262 si (b140y s hf om)⟩
 cases h
theorem b111 (a b:Bx) (ha:form a) (hb:form b) (x y:Int) (o:Bool) (h:(x,y,o)=if 17<a.length then (0,0,false) else if 17<b.length then (valI a,0,false) else (valI a,valI b,true)):body Tp [c140] {} true f211 [S a,S b] (.tup [I x,I y,.val (.bool o)]):=by
 by_cases h1:17<a.length
 ·rw[aD h1] at h;cases h;exact ZRF
 rw[aC h1] at h;by_cases h2:17<b.length
 ·rw[aD h2] at h;cases h;exact ZRF
 rw[aC h2] at h;cases h;exact ZRF
def c111:Con:=aR 211 true fun args K=>match args with
 | [.str a,.str b]=>Need (form a/\form b) (Br (a.length<=17/\b.length<=17) (K (.tup [I (valI a),I (valI b),.val (.bool true)])) (Br (17<a.length) (K (.tup [I 0,I 0,.val (.bool false)])) (K (.tup [I (valI a),I 0,.val (.bool false)]))))
 | _=>False
theorem k111:aO Tp c111:=by
 refine kO func211 fun args K h=>?_;simp only[c111] at h;split at h
 ·rename_i a b;obtain ⟨⟨ha,hb⟩,h⟩:=h;have go:=fun x y o hh=>triB func211 ntmps211 (by simp[k140]) (b111 a b ha hb x y o hh);by_cases hs:a.length<=17/\b.length<=17
  ·exact ⟨_,h.yes hs,go _ _ _ (by rw[aC om,aC om])⟩
  by_cases h1:17<a.length
  ·exact ⟨_,(h.no hs).yes h1,go _ _ _ (by rw[aD h1])⟩
  exact ⟨_,(h.no hs).no h1,go _ _ _ (by rw[aC h1,aD om])⟩
 cases h
def gfx (D:Bx) (st i:Nat):Nat:=aT ((D.take i).drop st)
theorem Mo (D:Bx) (st:Nat):gfx D st st=0:=by
 unfold gfx;rw[dF (by rw[aY];omega)];rfl
theorem aIt {D:Bx} (hd:∀c∈D,cY c) {st i:Nat} (h:i<=st+6):gfx D st i<1000000:=by
 have hb:=iE ((D.take i).drop st) fun c hc=>hd c (dG (kW hc));have hp:(10:Nat)^ ((D.take i).drop st).length<=10^6:=bG om (by rw[bB,aY];omega);have h6:(10:Nat)^6=1000000:=de;unfold gfx;omega
theorem Sm {D:Bx} (hd:∀c∈D,cY c) {st i:Nat} (hs:st<=i) (hi:i<D.length):(48<=bE D i/\bE D i<=57)/\(gfx D st (i+1):Int)=10*gfx D st i+(bE D i-48):=by
 have hg:=hd _ (cT hi);have e:(D.take (i+1)).drop st=(D.take i).drop st++ [D[i]]:=by
  rw[cV hi,dY (by rw[aY];omega)]
 rw[nR hi];unfold gfx;rw[e,jW];unfold cY at hg;omega
theorem b112y (s:Bx) (h:form s/\(digs s).length<=600) (hm:s.headD 0=45):body Tp [c141] { asks:=[(0,[2]),(2,[])] } false f212 [S s] (.agg [.bl (s.headD 0=45) inferInstance,Ls (aI B6 (aT (digs s)))]):=by
 obtain ⟨hf,hl⟩:=h;have h0:0<s.length:=dP fun e=>hf.1 (by rw[cI.1 e];rfl);have hd:=hf.2.2;have hb:bE s 0=45:=(fW h0 45).2 hm;have hD:=uU h0 hb;rw[hD] at hd hl ⊢;have hL:(s.drop 1).length=(s.drop 1).length:=rfl;have e6:(10:Nat)^6=B6:=de;refine Own.l ?_;refine Own.l ?_;(conv=>whnf);refine Own.r ?_;refine ⟨1,.int .i64,3,?_⟩;(repeat' first|refine ZX ?_|refine Zg fun _=>?_);(conv=>whnf);refine Ask.mk ⟨{ X:=Nat,pre:=fun k=>6*k<(s.drop 1).length+6,mod:=fun k _=>[(4,I (((s.drop 1).length:Int)-6*k))],heap:=fun k H=>[hget H 0,.cells [.val (.bool true),.ref 2 1] 253,V (rdG (s.drop 1) k)],mu:=fun k=>(s.drop 1).length+6-6*k,objs:=[2] },rfl,?_⟩;(repeat refine ZG ?_);refine ⟨⟨(0:Nat),by show 6*0< _;omega,?_⟩,fun (k:Nat) hk=>?_⟩
 ·exact ZE
 have hk:6*k<(s.drop 1).length+6:=hk;have hrl:=(Eb hd k hk).1;by_cases hlt:6*k<(s.drop 1).length
 ·obtain ⟨st,hst⟩:∃st,(s.drop 1).length-6*(k+1)=st:=⟨_,rfl⟩;obtain ⟨en,hen⟩:∃en,(s.drop 1).length-6*k=en:=⟨_,rfl⟩;(repeat refine ZR ?_);refine Ask.mk ⟨{ X:=Nat,pre:=fun i=>st<=i/\i<=en,mod:=fun i _=>[(5,I (gfx (s.drop 1) st i)),(6,I i)],heap:=fun i H=>[hget H 0,.cells [.val (.bool true),.ref 2 1] 253,V (rdG (s.drop 1) k)],mu:=fun i=>en-i },rfl,?_⟩;(repeat refine ZG ?_);refine ⟨⟨(st:Nat),⟨aN _,om⟩,?_⟩,fun (i:Nat) hi=>?_⟩
  ·(repeat' first|exact trivial|rfl|apply aA|omega);rw[Mo];rfl
  obtain ⟨hi1,hi2⟩:=hi;by_cases hlt2:i<en
  ·have hg:=aIt hd (st:=st) (i:=i) om;obtain ⟨e1,e2⟩:=Sm hd hi1 (show i<(s.drop 1).length by omega);(repeat' first|refine ZR ?_|refine Zg fun _=>?_);refine ⟨(i+1:Nat),by show en-(i+1)<en-i;omega,⟨om,hlt2⟩,?_⟩;exact ZE
  have e:i=en:=om;subst e;(repeat refine ZR ?_)
  try (
   refine Need.mk (show (rdG (s.drop 1) k).length+1<=17592186044416 by omega) ?_
   (repeat refine ZR ?_))
  refine ⟨(k+1:Nat),by show (s.drop 1).length+6-6*(k+1)<(s.drop 1).length+6-6*k;omega,by show 6*(k+1)<(s.drop 1).length+6;omega,?_⟩;(repeat' first|exact trivial|rfl|exact Nat.one_pos|apply aA|omega);show rdG (s.drop 1) k++ [((gfx (s.drop 1) st i:Nat):Int)]=rdG (s.drop 1) k++ [((aT (grp (s.drop 1) k):Nat):Int)];unfold gfx grp;rw[hst,hen]
 have hr:=aCp hd hk om;rw[e6] at hr;(repeat refine ZR ?_);(conv=>whnf);(repeat' first|exact trivial|apply aA)
 ·exact hm
 exact hr
theorem b112n (s:Bx) (h:form s/\(digs s).length<=600) (hm:¬s.headD 0=45):body Tp [c141] { asks:=[(0,[2]),(2,[])] } false f212 [S s] (.agg [.bl (s.headD 0=45) inferInstance,Ls (aI B6 (aT (digs s)))]):=by
 obtain ⟨hf,hl⟩:=h;have h0:0<s.length:=dP fun e=>hf.1 (by rw[cI.1 e];rfl);have hd:=hf.2.2;have hb:¬bE s 0=45:=fun e=>hm ((fW h0 45).1 e);have hD:digs s=s:=rY fun _=>hb;rw[hD] at hd hl ⊢;have hL:(s).length=(s).length:=rfl;have e6:(10:Nat)^6=B6:=de;refine Own.l ?_;refine Own.l ?_;(conv=>whnf);refine Own.r ?_;refine ⟨1,.int .i64,3,?_⟩;(repeat' first|refine ZX ?_|refine Zg fun _=>?_);(conv=>whnf);refine Ask.mk ⟨{ X:=Nat,pre:=fun k=>6*k<(s).length+6,mod:=fun k _=>[(4,I (((s).length:Int)-6*k))],heap:=fun k H=>[hget H 0,.cells [.val (.bool false),.ref 2 1] 253,V (rdG (s) k)],mu:=fun k=>(s).length+6-6*k,objs:=[2] },rfl,?_⟩;(repeat refine ZG ?_);refine ⟨⟨(0:Nat),by show 6*0< _;omega,?_⟩,fun (k:Nat) hk=>?_⟩
 ·exact ZE
 have hk:6*k<(s).length+6:=hk;have hrl:=(Eb hd k hk).1;by_cases hlt:6*k<(s).length
 ·obtain ⟨st,hst⟩:∃st,(s).length-6*(k+1)=st:=⟨_,rfl⟩;obtain ⟨en,hen⟩:∃en,(s).length-6*k=en:=⟨_,rfl⟩;(repeat refine ZR ?_);refine Ask.mk ⟨{ X:=Nat,pre:=fun i=>st<=i/\i<=en,mod:=fun i _=>[(5,I (gfx (s) st i)),(6,I i)],heap:=fun i H=>[hget H 0,.cells [.val (.bool false),.ref 2 1] 253,V (rdG (s) k)],mu:=fun i=>en-i },rfl,?_⟩;(repeat refine ZG ?_);refine ⟨⟨(st:Nat),⟨aN _,om⟩,?_⟩,fun (i:Nat) hi=>?_⟩
  ·(repeat' first|exact trivial|rfl|apply aA|omega);rw[Mo];rfl
  obtain ⟨hi1,hi2⟩:=hi;by_cases hlt2:i<en
  ·have hg:=aIt hd (st:=st) (i:=i) om;obtain ⟨e1,e2⟩:=Sm hd hi1 (show i<(s).length by omega);(repeat' first|refine ZR ?_|refine Zg fun _=>?_);refine ⟨(i+1:Nat),by show en-(i+1)<en-i;omega,⟨om,hlt2⟩,?_⟩;exact ZE
  have e:i=en:=om;subst e;(repeat refine ZR ?_)
  try (
   refine Need.mk (show (rdG (s) k).length+1<=17592186044416 by omega) ?_
   skip)
  refine ⟨(k+1:Nat),by show (s).length+6-6*(k+1)<(s).length+6-6*k;omega,by show 6*(k+1)<(s).length+6;omega,?_⟩;(repeat' first|exact trivial|rfl|exact Nat.one_pos|apply aA|omega);show rdG (s) k++ [((gfx (s) st i:Nat):Int)]=rdG (s) k++ [((aT (grp (s) k):Nat):Int)];unfold gfx grp;rw[hst,hen]
 have hr:=aCp hd hk om;rw[e6] at hr;(repeat refine ZR ?_);(conv=>whnf);(repeat' first|exact trivial|apply aA)
 ·exact hm
 exact hr
def c112:Con:=aR 212 false fun | [.str s],K=>Need (form s/\(digs s).length<=600) (K (.agg [.bl (s.headD 0=45) inferInstance,Ls (aI B6 (aT (digs s)))])) | _,_=>False
theorem k112:aO Tp c112:=by
 refine kQ { asks:=[(0,[2]),(2,[])] } func212 ntmps212 (kc k141 kn) fun _ _ h=>?_;split at h;case h_2=>cases h
 rename_i s;refine kb h.go ?_;replace h:=h.ok;by_cases hm:s.headD 0=45
 ·exact b112y s h hm
 exact b112n s h hm
end RB
end

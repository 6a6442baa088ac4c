/-
  Part 6: a symbolic executor over the model, contracts of functions and plain laws.
-/
import Derived.Test.YtocimheacfaimaaGreatDoorP5
import Init.Data.Rat
set_option linter.unusedVariables false
set_option linter.unusedSimpArgs false
set_option maxRecDepth 10000
set_option maxHeartbeats 80000000
open List (length getD)
noncomputable section
section
open Go Go.Proofs Go.Eng Go.Shelf IB Go.Lib Go.RowKit Tryz
namespace RB
theorem U4 {n:Nat}(h:n<10):decDigits n= [UInt8.ofNat (48+n)]:=by
 rw[decDigits,dif_pos h]
theorem NH {n:Nat}(c:0<n)(h:n<10):itoa (-(n:Int))= [45,UInt8.ofNat (48+n)]:=by
 unfold itoa;rw[aE om,Bc,bZ,U4 h]
theorem num1n {q:Rat}{n d:Nat}(m:q.num= -(n:Int))(g:q.den=d)(c:0<n)(e:n<10)(f:1<d/\d<10):cT q= [45,UInt8.ofNat (48+n),47,UInt8.ofNat (48+d)]:=by
 unfold cT;rw[m,g,aD om,NH c e,U4 f.2];rfl
theorem NI {q:Rat}(c:q.num.natAbs<10^40)(e:q.den<10^40):dD (cT q)=0:=by
 refine Og (by rw[pU]) ?_ ?_
 ·rw[oO];rw[gA];have:=qG 39 q.num.natAbs c;omega
 rw[sK];split
 ·simp
 have:=qG 39 q.den e;simp;omega
theorem HT:SR [45,55,47,50]=([45,52],0):=by
 have e1:cT (mkRat (-7) 2)= [45,55,47,50]:=num1n (n:=7) (d:=2) de de de de de;rw[<- e1];unfold SR;rw[aE (NI de de),pU];have e2:(mkRat (-7) 2).num/((mkRat (-7) 2).den:Int)= -((4:Nat):Int):=de;rw[e2,NH de de];rfl
def Sz (k:Nat)(q:Rat):Prop:=q.num.natAbs<10^k/\q.den<10^k
theorem nP {i j:Nat}(h:i<=j):(10:Nat)^i<=10^j:=bO om h
theorem Sz.mono {i j:Nat}{q:Rat}(h:Sz i q)(c:i<=j):Sz j q:=
 ⟨bE h.1 (nP c),bE h.2 (nP c)⟩
theorem uY {n k:Nat}(c:0<k)(h:n<10^k):(decDigits n).length<=k:=by
 obtain ⟨m,rfl⟩:∃m,k=m+1:=⟨k-1,om⟩;exact qG m n h
theorem iE {n:Int}{k:Nat}(c:0<k/\k<=300)(h:n.natAbs<10^k):lim n=false:=by
 unfold lim;have:=uY c.1 h;simp;omega
theorem Ch {n k:Nat}(h:(decDigits n).length<=k):n<10^k:=by
 have e:=iV (decDigits n) (fun c f=>sB _ c f);rw[kJ] at e;exact bE e (nP h)
theorem Vx {q:Rat}{k:Nat}(h:Sz k q)(c:0<k/\k<=300):dD (cT q)=0:=by
 refine Og (by rw[pU]) ?_ ?_
 ·rw[oO,gA];have:=uY c.1 h.1;omega
 rw[sK];split
 ·simp
 have:=uY c.1 h.2;simp;omega
theorem NJ {a:Bx}(c:a.length<=60)(f:dD a=0):a=cT (cH a)/\Sz 60 (cH a):=by
 obtain ⟨e,g,m⟩:=Vf f;refine ⟨e,?_,?_⟩
 ·refine Ch ?_;rw[e] at c;unfold cT at c;have n:(decDigits (cH a).num.natAbs).length<=(itoa (cH a).num).length:=by
   unfold itoa;split
   ·simp
   rw[show (cH a).num.toNat=(cH a).num.natAbs by omega];exact aI _
  split at c
  ·omega
  simp at c;omega
 rw[e] at c;unfold cT at c;split at c
 ·rename_i e1;rw[e1];decide
 refine Ch ?_;simp at c;omega
theorem yK {a b i j:Nat}(c:a<10^i)(e:b<10^j):a*b<10^ (i+j):=by
 rw[sO];exact eV c e
theorem Df (n:Int)(g:Nat):(n/(g:Int)).natAbs<=n.natAbs:=by
 rcases dF g with e | e
 ·subst e;simp
 have c:(1:Int)<=g:=om;rcases Int.le_total 0 n with h | h
 ·have f:=rV (g:Int) h;have m:=eF h (show (0:Int)<=g by omega);omega
 have f:n/(g:Int)<=0:=by
  have:=xI (show (0:Int)<g by omega) h;simpa using this
 have m:n<=n/(g:Int):=by
  rw[iA om];have:=lV (a:=n) h c;rw[fR] at this;omega
 omega
theorem AT {n:Int}{d k:Nat}(c:d≠0)(e:n.natAbs<10^k)(f:d<10^k):Sz k (mkRat n d):=by
 refine ⟨?_,?_⟩
 ·rw[Rat.num_mkRat,aD c];refine bV ?_ e;exact Df _ _
 rw[Rat.den_mkRat,aD c];exact bV (Nat.div_le_self _ _) f
theorem pW {x y:Int}{k:Nat}(c:x.natAbs<10^k)(e:y.natAbs<10^k):(x+y).natAbs<10^ (k+1)/\(x-y).natAbs<10^ (k+1):=by
 rw[hU];omega
section
variable {p q:Rat} {i j:Nat}
theorem Sz.cross (c:Sz i p)(e:Sz j q):(p.num*q.den).natAbs<10^ (i+j)/\(q.num*p.den).natAbs<10^ (i+j)/\(p.num*q.num).natAbs<10^ (i+j)/\p.den*q.den<10^ (i+j):=by
 refine ⟨?_,?_,?_,yK c.2 e.2⟩
 ·rw[cR];exact yK c.1 e.2
 ·rw[cR,Nat.add_comm];exact yK e.1 c.2
 rw[cR];exact yK c.1 e.1
theorem Oy (p q:Rat):p.den*q.den≠0:=Nat.mul_ne_zero p.den_nz q.den_nz
theorem Sz.add (g:Sz i p)(m:Sz j q):Sz (i+j+1) (p+q):=by
 obtain ⟨c,e,n,f⟩:=g.cross m;rw[G3];exact AT (Oy p q) (pW c e).1 (bE f (nP om))
theorem Sz.sub (g:Sz i p)(m:Sz j q):Sz (i+j+1) (p-q):=by
 obtain ⟨c,e,n,f⟩:=g.cross m;rw[Rk];exact AT (Oy p q) (pW c e).2 (bE f (nP om))
theorem Sz.mul (f:Sz i p)(g:Sz j q):Sz (i+j) (p*q):=by
 obtain ⟨m,n,c,e⟩:=f.cross g;rw[Rl];exact AT (Oy p q) c e
theorem yL {f:Rat->Rat->Bx × Int}(e:Sz i p)(g:Sz j q)(hi:0<i/\i<=300)(c:0<j/\j<=300):Rm (cT p) (cT q) f=f p q:=by
 unfold Rm;rw[aD (by rw[Vx e hi];simp),aD (by rw[Vx g c];simp),pU,pU]
theorem QC (f:Sz i p)(g:Sz j q)(hi:0<i)(n:0<j)(h:i+j+1<=300):G5 (cT p) (cT q)=(cT (p+q),0):=by
 obtain ⟨c,e,o,m⟩:=f.cross g;unfold G5;rw[yL f g ⟨hi,om⟩ ⟨n,om⟩,aD];simp only[dA,not_or,iM];exact ⟨⟨⟨iE ⟨om,om⟩ c,iE ⟨om,om⟩ e⟩,iE (k:=i+j+1) ⟨om,h⟩ (pW c e).1⟩,iE (k:=i+j) ⟨om,om⟩ (by rw[<- dG,bZ];exact m)⟩
theorem Ks (f:Sz i p)(g:Sz j q)(hi:0<i)(n:0<j)(h:i+j+1<=300):Fp (cT p) (cT q)=(cT (p-q),0):=by
 obtain ⟨c,e,o,m⟩:=f.cross g;unfold Fp;rw[yL f g ⟨hi,om⟩ ⟨n,om⟩,aD];simp only[dA,not_or,iM];exact ⟨⟨⟨iE ⟨om,om⟩ c,iE ⟨om,om⟩ e⟩,iE (k:=i+j+1) ⟨om,h⟩ (pW c e).2⟩,iE (k:=i+j) ⟨om,om⟩ (by rw[<- dG,bZ];exact m)⟩
theorem FO (c:Sz i p)(e:Sz j q)(hi:0<i)(m:0<j)(h:i+j<=300):CK (cT p) (cT q)=(cT (p*q),0):=by
 obtain ⟨n,o,f,g⟩:=c.cross e;unfold CK;rw[yL c e ⟨hi,om⟩ ⟨m,om⟩,aD];simp only[dA,not_or,iM];exact ⟨iE ⟨om,h⟩ f,iE (k:=i+j) ⟨om,om⟩ (by rw[<- dG,bZ];exact g)⟩
theorem Ci (c:Sz i p)(e:Sz j q)(hi:0<i)(n:0<j)(h:i+j<=300)(f:q≠0):Jw (cT p) (cT q)=(cT (p/q),0):=by
 obtain ⟨g,m,o,s⟩:=c.cross e;unfold Jw;rw[yL c e ⟨hi,om⟩ ⟨n,om⟩,aD f,aD];simp only[dA,not_or,iM];exact ⟨iE ⟨om,h⟩ g,iE ⟨om,h⟩ m⟩
end
theorem Oz {n:Int}{k:Nat}(h:n.natAbs<10^k)(c:0<k):Sz k (n:Rat):=
 ⟨h,bE (show 1<10^1 by decide) (nP c)⟩
theorem oP (n:Int):cT (n:Rat)=itoa n:=by
 unfold cT;rw[Rat.den_intCast,aE rfl,Rat.num_intCast]
theorem Fs {n:Nat}:(decDigits n).getD 0 0≠45:=by
 intro h
 have c:=sB n ((decDigits n).getD 0 0) (by
  have:=Ao n;cases e:decDigits n with
  | nil=>exact absurd e this
  | cons x r=>simp)
 rw[h] at c;unfold dN at c
 revert c
 decide
theorem U5 {q:Rat}:pd q= [49]↔q.den=1:=by
 constructor
 ·intro h;have:=aR bH (show decDigits q.den= [49] from h);rw[kJ] at this;rw[this];decide
 intro h;show decDigits q.den= [49];rw[h,U4 de];rfl
theorem NK (q:Rat):q.num/(q.den:Int)*(q.den:Int)<=q.num:=oU _ (by have:=q.den_nz;omega)
theorem NL (q:Rat):q.num<(q.num/(q.den:Int)+1)*(q.den:Int):=Int.lt_ediv_add_one_mul_self _ (by have:=q.den_pos;omega)
theorem FP (q:Rat):cT q≠ []:=by
 unfold cT;have:=On (x:=q.num);split
 ·intro h;rw[h] at this;simp at this
 intro h;have c:=aR List.length h;simp at c
theorem HU (q:Rat):bJ (cT q) 0=45↔q<0:=by
 have g:0<(cT q).length:=cB.2 (FP q);have e:bJ (cT q) 0=bJ (itoa q.num) 0:=by
  unfold cT;split
  ·rfl
  unfold bJ;rw[aB,aB,bN On]
 rw[e];have f:q<0↔q.num<0:=by
  rw[yO];show q.num*((1:Nat):Int)<0* _↔ _;omega
 rw[f];unfold itoa;split
 ·rename_i h;exact ⟨fun _=>h,fun _=>rfl⟩
 rename_i h;constructor
 ·intro c;exfalso;refine Fs (n:=q.num.toNat) (UInt8.toNat_inj.1 ?_);unfold bJ at c;have:(45:UInt8).toNat=45:=rfl;omega
 intro c;exact absurd c h
theorem C5 {B:Nat}(c:2<=B){a b:List Int}(f:InB B a)(g:InB B b){n:Nat}(o:a.length<=n)(s:b.length<=n):(mM B a b (n+1)).2=0:=by
 obtain ⟨C,x,D,m⟩:=uF c f g (n+1);rw[lJ _ _ _ om,lJ _ _ _ om] at m;have E:=nQ c f o;have F:=nQ c g s;have J:=eB x;have u:(B:Int)^ (n+1)=(B:Int)^n*B:=gN _ _;have y:=kR c n;refine aS fun A=>?_;have e:(mM B a b (n+1)).2=1:=om;rw[e,fR,u] at m;have z:(B:Int)^n*2<=(B:Int)^n*B:=aZ om om;omega
theorem NM {B:Nat}(c:2<=B){a b:List Int}(m:InB B a)(n:InB B b){k:Nat}(f:a.length<=k)(g:b.length<=k)(o:(mM B a b k).2=0):gV (mM B a b k).1=aJ B (aQ B a+aQ B b).toNat:=by
 obtain ⟨u,s,x,e⟩:=uF c m n k;rw[lJ _ _ _ f,lJ _ _ _ g,o,dO,fD] at e;rw[iJ c s,e]
def W9:Con:=aV 270 false fun | [.seq (.int .i64) a,.seq (.int .i64) b],K=>Need (InB B6 a/\InB B6 b/\a.length<=100000/\b.length<=100000) (K (Ls (aJ B6 (aQ B6 a+aQ B6 b).toNat))) | _,_=>False
theorem k147:aM Tp W9:=by
 refine kQ { asks:=[(0,[1])] } Tryz.func270 Tryz.ntmps270 (kc P3 (kc HR kn)) fun _ _ h=>?_;split at h;case h_2=>cases h
 rename_i a b;refine kb h.go ?_;replace h:=h.ok;obtain ⟨g,m,y,z⟩:=h;obtain ⟨n,J⟩:∃n,n=a.length+b.length:=⟨_,rfl⟩;(conv=>whnf);refine Ask.mk ⟨{ X:=Nat,pre:=fun i=>i<=n+1,mod:=fun i _=>[(5,.ref 1 1),(6,I (mM B6 a b i).2),(7,I i)],heap:=fun i _=>[V [],V (mM B6 a b i).1],mu:=fun i=>n+1-i,objs:=[1] },rfl,?_⟩;(repeat refine ZG ?_);refine ⟨⟨(0:Nat),aF _,ZE⟩,fun (i:Nat) (hi:i<=n+1)=>?_⟩;obtain ⟨A,C,D,_⟩:=uF (B:=B6) de g m i;have E:=Ax g i;have gb:=Ax m i;have f:i=n+1->(mM B6 a b i).2=0:=fun e=>by
  subst e;exact C5 de g m om om
 have W:(mM B6 a b (i+1)).1=(mM B6 a b i).1++ [(a.getD i 0+b.getD i 0+(mM B6 a b i).2)%1000000]:=rfl;have Y:(mM B6 a b (i+1)).2=(a.getD i 0+b.getD i 0+(mM B6 a b i).2)/1000000:=rfl;by_cases o:i<a.length\/i<b.length\/0<(mM B6 a b i).2
 ·have x:i<n+1:=by
   rcases o with h | h | h
   ·omega
   ·omega
   refine aS fun K=>?_;have:=f om;omega
  have c:(i<a.length)\/(¬i<a.length/\i<b.length)\/(¬i<a.length/\¬i<b.length/\0<(mM B6 a b i).2):=om;have Z:(a.getD i 0+b.getD i 0+(mM B6 a b i).2).tmod 1000000=(a.getD i 0+b.getD i 0+(mM B6 a b i).2)%1000000:=gZ om;have t2:(a.getD i 0+b.getD i 0+(mM B6 a b i).2).tdiv 1000000=(a.getD i 0+b.getD i 0+(mM B6 a b i).2)/1000000:=nV om;rcases c with s | ⟨s,u⟩ | ⟨s,u,F⟩;all_goals
   (repeat' first|refine ZR ?_|refine Zg fun _=>?_);refine ⟨(i+1:Nat),by show n+1-(i+1)<n+1-i;omega,by show i+1<=n+1;omega,?_⟩;exact ZE
 have e1:=NM (B:=B6) de g m (k:=i) om om om;(repeat' first|refine ZR ?_|refine Zg fun _=>?_);(conv=>whnf);exact e1
def addS (p:Prop)(m:Nat)(q:Prop)(n:Nat)[Decidable p][Decidable q]:Prop:=Aw p m q n/\qJ p m q n≠0
instance (p:Prop) (m:Nat) (q:Prop) (n:Nat) [Decidable p] [Decidable q]:Decidable (addS p m q n):=by unfold addS;infer_instance
theorem NN (p:Prop)[Decidable p](m:Nat)(q:Prop)[Decidable q](n:Nat):nF (addS p m q n) (qJ p m q n)=nF p m+nF q n:=by
 rw[<- FI];unfold addS nF;by_cases h:qJ p m q n=0
 ·simp[h]
 simp[h]
theorem uZ (n:Nat):(aJ B6 n).length=0↔n=0:=by
 constructor
 ·intro h;have c:aJ B6 n= []:=cK h;have e:=v6 n;rw[c] at e;have f:aQ B6 []=0:=rfl;omega
 rintro rfl;rw[eC];rfl
theorem b114 (p:Prop)(W:Decidable p)(m:Nat)(q:Prop)(X:Decidable q)(n:Nat)(F:m<B6^110)(J:n<B6^110)(y:p->0<m)(Y:q->0<n):
  body Tp [W9,UP,P4] {} false Tryz.f241 [.agg [.bl p W,Ls (aJ B6 m)],.agg [.bl q X,Ls (aJ B6 n)]] (.agg [.bl (addS p m q n) inferInstance,Ls (aJ B6 (qJ p m q n))]):=by
 have s:InB B6 (aJ B6 m):=dE de m;have u:InB B6 (aJ B6 n):=dE de n;have Z:=rU F;have ln:=rU J;have vm:=v6 m;have vn:=v6 n;refine Own.l ?_;(apply Br.mk<;>intro)
 ·rename_i h;have e1:p↔addS p m q n:=by
   unfold addS Aw qJ;rw[aE h];constructor
   ·intro g;have:=y g;exact ⟨.inl ⟨.inl h,g⟩,om⟩
   rintro ⟨h1 | h1,_⟩
   ·exact h1.2
   exact absurd (.inl h) h1.1
  have e2:(aQ B6 (aJ B6 m)+aQ B6 (aJ B6 n)).toNat=qJ p m q n:=by unfold qJ;rw[aE h];omega
  (repeat'((conv=>whnf);first|apply pI|apply pJ|fail));refine Need.mk ⟨s,u,om,om⟩ ?_;(repeat'((conv=>whnf);first|apply pJ|fail));(conv=>whnf);(repeat' first|exact trivial|apply aA)
  ·exact e1
  skip;exact aR (aJ B6) e2
 rename_i h;have C:=Ou (B:=B6) de m n;refine Need.mk ⟨s,u⟩ ?_;(apply Br.mk<;>intro)
 ·rename_i E;have x:m<n:=by
   refine M7 C ?_;omega
  have e2:(aQ B6 (aJ B6 n)-aQ B6 (aJ B6 m)).toNat=qJ p m q n:=by unfold qJ;rw[aD h,aD om];omega
  have e:qJ p m q n≠0:=om;have e1:q↔addS p m q n:=by
   have f:¬n<=m:=om;unfold addS Aw;simp[e,h,f]
  have A:=kS (Nat.le_of_lt x);have D:InB B6 (aJ B6 n)/\InB B6 (aJ B6 m)/\aQ B6 (aJ B6 m)<=aQ B6 (aJ B6 n)/\(aJ B6 m).length<=(aJ B6 n).length/\(aJ B6 n).length<=100000:=⟨u,s,om,A,om⟩;have K:¬((aJ B6 (aQ B6 (aJ B6 n)-aQ B6 (aJ B6 m)).toNat).length:Int)=0:=by
   rw[e2];intro o;exact e ((uZ _).1 om)
  (repeat'((conv=>whnf);first|refine Zg fun _=>?_|refine Zn ?_|apply pI|apply pJ|exact Zf|refine Zc ?_ ?_|refine Zm ?_|fail));(conv=>whnf);(repeat' first|exact trivial|apply aA)
  ·exact e1
  skip;exact aR (aJ B6) e2
 rename_i E;have c:n<=m:=by
  refine M6 C ?_;omega
 have e2:(aQ B6 (aJ B6 m)-aQ B6 (aJ B6 n)).toNat=qJ p m q n:=by unfold qJ;rw[aD h,aE c];omega
 have A:=kS c;have D:InB B6 (aJ B6 m)/\InB B6 (aJ B6 n)/\aQ B6 (aJ B6 n)<=aQ B6 (aJ B6 m)/\(aJ B6 n).length<=(aJ B6 m).length/\(aJ B6 m).length<=100000:=⟨s,u,om,A,om⟩;(repeat'((conv=>whnf);first|refine Zg fun _=>?_|refine Zn ?_|apply pI|apply pJ|exact Zf|refine Zc ?_ ?_|fail));(apply Br.mk<;>intro)
 ·rename_i z;have e:qJ p m q n=0:=by
   rw[e2] at z;exact (uZ _).1 om
  (conv=>whnf);(repeat' first|exact trivial|apply aA)
  ·exact fun o=>o.2 e
  skip;exact aR (aJ B6) e2
 rename_i z;have e:qJ p m q n≠0:=fun o=>z (by rw[e2,o,eC];rfl);have e1:p↔addS p m q n:=by
  unfold addS Aw;simp[e,h,c]
 (conv=>whnf);(repeat' first|exact trivial|apply aA)
 ·exact e1
 skip;exact aR (aJ B6) e2
def Ee (p:Prop)(a:List Int):Prop:=oK a/\(aQ B6 a).toNat<B6^110/\(p->0<(aQ B6 a).toNat)
def XA:Con:=aV 241 false fun args K=>match args with
 | [.agg [.bl p hp,.seq (.int .i64) a],.agg [.bl q hq,.seq (.int .i64) b]]=>Need (Ee p a/\Ee q b) (K (.agg [.bl (@addS p (aQ B6 a).toNat q (aQ B6 b).toNat hp hq) inferInstance,Ls (aJ B6 (@qJ p hp (aQ B6 a).toNat q hq (aQ B6 b).toNat))]))
 | _=>False
theorem k114:aM Tp XA:=by
 refine kO Tryz.func241 fun f K h=>?_;simp only[XA] at h;split at h
 ·rename_i p u a q x b;refine ⟨_,h.go,?_⟩;obtain ⟨⟨m,o,c⟩,n,s,e⟩:=h.ok;have g:=gH Tryz.func241 Tryz.ntmps241 (by simp[k147,WY,WW]) (b114 p u (aQ B6 a).toNat q x (aQ B6 b).toNat o s c e);rw[m,n] at g;exact g
 cases h
theorem HV {n:Int}(h:lim n=true):iO (itoa n)=4:=by
 rw[sL (uD n),gA];unfold lim at h;rw[aE (by simpa using h)]
theorem XB (p:Prop)(c:Decidable p)(a:List Int)(h:oK a/\a.length<=200):body Tp [P9,W0] {} true Tryz.f268 [.agg [.bl p c,Ls a]] (.tup [S (gM (nF p (aQ B6 a))).1,I (gM (nF p (aQ B6 a))).2]):=by
 cases hl:lim (nF p (aQ B6 a)) with
 | true=>
  have e1:=HV hl;have e2:gM (nF p (aQ B6 a))=([],4):=by unfold gM;rw[aE hl]
  rw[e2];(repeat refine ZG ?_);refine Br.mkY (show ¬iO (itoa (nF p (aQ B6 a)))=0 by rw[e1];decide) ?_;exact ZF
 | false=>
  have e1:=uV hl;have e2:gM (nF p (aQ B6 a))=(itoa (nF p (aQ B6 a)),0):=by unfold gM;rw[aD (by rw[hl];decide)]
  rw[e2];(repeat refine ZG ?_);refine Br.mkN (show ¬ ¬iO (itoa (nF p (aQ B6 a)))=0 by rw[e1];simp) ?_;exact ZF
def XC:Con:=aV 268 true fun args K=>match args with
 | [.agg [.bl p hp,.seq (.int .i64) a]]=>Need (oK a/\a.length<=200) (K (.tup [S (gM (@nF p hp (aQ B6 a))).1,I (gM (@nF p hp (aQ B6 a))).2]))
 | [.agg [.val (.bool false),.seq (.int .i64) a]]=>Need (oK a/\a.length<=200) (K (.tup [S (gM (aQ B6 a)).1,I (gM (aQ B6 a)).2]))
 | _=>False
theorem k115:aM Tp XC:=by
 refine kO Tryz.func268 fun args K h=>?_;simp only[XC] at h;split at h
 ·rename_i p c a;exact ⟨_,h.go,gH Tryz.func268 Tryz.ntmps268 (by simp[UU,UW]) (XB p c a h.ok)⟩
 ·rename_i a;refine ⟨_,h.go,?_⟩;have e:=gH Tryz.func268 Tryz.ntmps268 (by simp[UU,UW]) (XB False inferInstance a h.ok);refine Ny (args:=[.agg [.bl False inferInstance,Ls a]]) e ⟨⟨fun h=>h,?_,trivial⟩,trivial⟩;rfl
 cases h
theorem b153 (p:Prop)(s:Decidable p)(m:Nat)(q:Prop)(u:Decidable q)(n:Nat)(g:m<B6^110)(o:n<B6^110):
  body Tp [c145] {} false Tryz.f269 [.agg [.bl p s,Ls (aJ B6 m)],.agg [.bl q u,Ls (aJ B6 n)]] (.agg [.bl (¬(p↔q)/\m*n≠0) inferInstance,Ls (aJ B6 (m*n))]):=by
 have x:InB B6 (aJ B6 m):=dE de m;have y:InB B6 (aJ B6 n):=dE de n;have C:=rU g;have D:=rU o;have z:=v6 m;have A:=v6 n;have e2:(aQ B6 (aJ B6 m)*aQ B6 (aJ B6 n)).toNat=m*n:=by rw[z,A,<- dG,aU]
 have B:InB B6 (aJ B6 m)/\InB B6 (aJ B6 n)/\(aJ B6 m).length<=100000/\(aJ B6 n).length<=100000:=⟨x,y,om,om⟩;refine Own.l ?_;(repeat'((conv=>whnf);first|refine Zg fun _=>?_|refine Zn ?_|apply pI|apply pJ|exact Zf|refine Zc ?_ ?_|fail));(apply Br.mk<;>intro)
 ·rename_i f;have e:m*n=0:=by
   rw[e2] at f;exact (uZ _).1 om
  (conv=>whnf);(repeat' first|exact trivial|apply aA)
  ·exact fun c=>c.2 e
  skip;exact aR (aJ B6) e2
 rename_i f;have e:m*n≠0:=fun c=>f (by rw[e2,c,eC];rfl);(conv=>whnf);(repeat' first|exact trivial|apply aA)
 ·exact ⟨fun c=>⟨c,e⟩,fun c=>c.1⟩
 skip;exact aR (aJ B6) e2
def XD:Con:=aV 269 false fun args K=>match args with
 | [.agg [.bl p hp,.seq (.int .i64) a],.agg [.bl q hq,.seq (.int .i64) b]]=>Need (Ee p a/\Ee q b) (K (.agg [.bl (¬(p↔q)/\(aQ B6 a).toNat*(aQ B6 b).toNat≠0) inferInstance,Ls (aJ B6 ((aQ B6 a).toNat*(aQ B6 b).toNat))]))
 | _=>False
theorem k153:aM Tp XD:=by
 refine kO Tryz.func269 fun c K h=>?_;simp only[XD] at h;split at h
 ·rename_i p o a q u b;refine ⟨_,h.go,?_⟩;obtain ⟨⟨f,m,s⟩,g,n,x⟩:=h.ok;have e:=gH Tryz.func269 Tryz.ntmps269 (by simp[WX]) (b153 p o (aQ B6 a).toNat q u (aQ B6 b).toNat m n);rw[f,g] at e;exact e
 cases h
theorem b121 (p:Prop)(n:Decidable p)(m:Nat)(f:p->0<m):body Tp [] {} false Tryz.f242 [.agg [.bl p n,Ls (aJ B6 m)]] (.agg [.bl (¬p/\m≠0) inferInstance,Ls (aJ B6 m)]):=by
 refine Own.l ?_;(repeat'((conv=>whnf);first|refine Zg fun _=>?_|fail));(apply Br.mk<;>intro)
 ·rename_i g;have e:m=0:=(uZ _).1 om;(conv=>whnf);(repeat' first|exact trivial|rfl|apply aA);(conv=>whnf);exact ⟨fun c=>by have:=f c;omega,fun c=>absurd e c.2⟩
 rename_i g;have e:m≠0:=fun c=>g (by rw[c,eC];rfl);(conv=>whnf);(repeat' first|exact trivial|rfl|apply aA);(conv=>whnf);exact ⟨fun c=>⟨c,e⟩,fun c=>c.1⟩
def XE:Con:=aV 242 false fun args K=>match args with
 | [.agg [.bl p hp,.seq (.int .i64) a]]=>Need (Ee p a) (K (.agg [.bl (¬p/\(aQ B6 a).toNat≠0) inferInstance,Ls a]))
 | _=>False
theorem k121:aM Tp XE:=by
 refine kO Tryz.func242 fun e K h=>?_;simp only[XE] at h;split at h
 ·rename_i p m a;refine ⟨_,h.go,?_⟩;obtain ⟨g,n,c⟩:=h.ok;have f:=gH Tryz.func242 Tryz.ntmps242 si (b121 p m (aQ B6 a).toNat c);rw[g] at f;exact f
 cases h
theorem vM {s:Bx}(h:gW s)(m:(digs s).length<=300):Ee (s.headD 0=45) (aJ B6 (bH (digs s))):=by
 refine ⟨tU _,?_,?_⟩
 ·rw[v6,aU];exact bE (uX h m) (bO de om)
 intro f;rw[v6,aU];refine dX fun e=>?_;have c:=LU.1 h;have g:bK s=0:=by rw[qK,e];unfold nF;split<;>rfl
 rw[g,HJ] at c;rw[c] at f
 revert f;decide
theorem NO (p q:Prop)[Decidable p][Decidable q](m n:Nat):nF (¬(p↔q)/\m*n≠0) ((m*n:Nat):Int)=nF p m*nF q n:=by
 rw[<- FB,<- dG];unfold nF;by_cases h:m*n=0
 ·simp[h]
 simp[h]
theorem QD (a b:Bx):nF (¬(a.headD 0=45↔b.headD 0=45)/\(aQ B6 (aJ B6 (bH (digs a)))).toNat*(aQ B6 (aJ B6 (bH (digs b)))).toNat≠0) (aQ B6 (aJ B6 ((aQ B6 (aJ B6 (bH (digs a)))).toNat*(aQ B6 (aJ B6 (bH (digs b)))).toNat)))=bK a*bK b:=by
 rw[v6 ((aQ B6 (aJ B6 (bH (digs a)))).toNat*(aQ B6 (aJ B6 (bH (digs b)))).toNat),NO];simp only[v6,aU,qK]
theorem NP {a b:Bx}(e:gW a)(g:(digs a).length<=300)(f:gW b)(m:(digs b).length<=300):oK (aJ B6 ((aQ B6 (aJ B6 (bH (digs a)))).toNat*(aQ B6 (aJ B6 (bH (digs b)))).toNat))/\(aJ B6 ((aQ B6 (aJ B6 (bH (digs a)))).toNat*(aQ B6 (aJ B6 (bH (digs b)))).toNat)).length<=200:=by
 refine ⟨tU _,?_⟩;rw[v6,v6,aU,aU];have c:=eV (uX e g) (uX f m);rw[<- sO] at c;have:=rU c;omega
def U6:Con:=aV 240 true fun | [.str a,.str b],K=>K (.tup [S (mP a b (gM (bK a*bK b))).1,I (mP a b (gM (bK a*bK b))).2]) | _,_=>False
theorem XF:aM Tp U6:=by
 refine kQ {} Tryz.func240 Tryz.ntmps240 (kc UX (kc U1 (kc WN (kc U2 (kc k153 (kc k115 kn)))))) fun _ _ h=>?_;split at h;case h_2=>cases h
 rename_i a b;refine kb h ?_;unfold mP;(apply Br.mk<;>intro)
 ·rename_i h;rw[aE h];exact ZF
 rename_i h;rw[aD h];obtain ⟨n,s⟩:=xE h;obtain ⟨c,g⟩:=mO n;obtain ⟨e,m⟩:=mO s;have y:=vM c g;have A:=vM e m;have f:=QD a b;have B:=NP c g e m;have o:gW a/\gW b:=⟨c,e⟩;have x:=aA y A;have E:gW a/\(digs a).length<=600:=⟨c,om⟩;have F:gW b/\(digs b).length<=600:=⟨e,om⟩;(repeat refine ZG ?_);(apply Br.mk<;>intro)
 ·rename_i D;(repeat' first|refine ZG ?_|refine Zg fun _=>?_);(apply Br.mk<;>intro)
  ·rename_i u;have C:=Rp c e om;rw[yJ om];exact ZGF
  (repeat refine ZG ?_);(conv=>whnf);(repeat' first|exact trivial|rfl|apply aA)
  ·exact aR (fun z=>(gM z).1) f
  exact aR (fun z=>(gM z).2) f
 (apply Br.mk<;>intro);all_goals
  (repeat refine ZG ?_);(conv=>whnf);(repeat' first|exact trivial|rfl|apply aA)
  ·exact aR (fun z=>(gM z).1) f
  exact aR (fun z=>(gM z).2) f
theorem NQ (p:Prop)[Decidable p](m:Nat):nF (¬p/\m≠0) (m:Int)= -nF p m:=by
 unfold nF;by_cases h:m=0
 ·simp[h]
 by_cases c:p<;>simp[h,c]
theorem QE (a b:Bx):nF (addS (a.headD 0=45) (aQ B6 (aJ B6 (bH (digs a)))).toNat (¬b.headD 0=45/\(aQ B6 (aJ B6 (bH (digs b)))).toNat≠0) (aQ B6 (aJ B6 (bH (digs b)))).toNat) (qJ (a.headD 0=45) (aQ B6 (aJ B6 (bH (digs a)))).toNat (¬b.headD 0=45/\(aQ B6 (aJ B6 (bH (digs b)))).toNat≠0) (aQ B6 (aJ B6 (bH (digs b)))).toNat)=bK a-bK b:=by
 rw[NN,NQ];simp only[v6,aU,qK];omega
def c82:Con:=aV 221 true fun | [.str a,.str b],K=>Need (iO a=0/\iO b=0) (K (.tup [I (vZ (bK a) (bK b)),I 0])) | _,_=>False
theorem k82:aM Tp c82:=by
 refine kQ {} Tryz.func221 Tryz.ntmps221 (kc UX (kc U1 (kc U2 (kc k121 (kc k114 kn))))) fun _ _ h=>?_;split at h;case h_2=>cases h
 rename_i a b;refine kb h.go ?_;replace h:=h.ok;obtain ⟨u,x⟩:=h;obtain ⟨f,D⟩:=mO u;obtain ⟨g,E⟩:=mO x;have F:=vM f D;have z:=vM g E;have C:gW a/\gW b:=⟨f,g⟩;have J:gW a/\(digs a).length<=600:=⟨f,om⟩;have K:gW b/\(digs b).length<=600:=⟨g,om⟩;have m:¬Av a b≠0:=by
  unfold Av;rw[aD (by rw[u];simp),x];simp
 have o:Ee (¬b.headD 0=45/\(aQ B6 (aJ B6 (bH (digs b)))).toNat≠0) (aJ B6 (bH (digs b))):=⟨z.1,z.2.1,fun h=>dX h.2⟩;have n:=QE a b;refine Br.mkN (show ¬ ¬Av a b=0 from m) ?_;(repeat refine ZG ?_);(apply Br.mk<;>intro)
 ·rename_i e;(apply Br.mk<;>intro)
  ·rename_i c;(conv=>whnf);(repeat' first|exact trivial|rfl|apply aA);unfold vZ;rw[aE c]
  rename_i c;(apply Br.mk<;>intro)
  ·rename_i B;(conv=>whnf);(repeat' first|exact trivial|rfl|apply aA);unfold vZ;rw[aD c,aD om]
  rename_i B;(conv=>whnf);(repeat' first|exact trivial|rfl|apply aA);unfold vZ;rw[aD c,aE om]
 (apply Br.mk<;>intro);all_goals
  (repeat'((conv=>whnf);first|refine Zn ?_|fail));refine Need.mk ⟨F,o⟩ ?_;(repeat' first|refine ZG ?_|refine Zg fun _=>?_);(apply Br.mk<;>intro)
  ·rename_i y;have s:qJ (a.headD 0=45) (aQ B6 (aJ B6 (bH (digs a)))).toNat (¬b.headD 0=45/\(aQ B6 (aJ B6 (bH (digs b)))).toNat≠0) (aQ B6 (aJ B6 (bH (digs b)))).toNat=0:=(uZ _).1 om;have e1:bK a-bK b=0:=by
    rw[<- n,s];unfold nF;split<;>rfl
   (conv=>whnf);(repeat' first|exact trivial|rfl|apply aA);unfold vZ;rw[aD om,aE om]
  rename_i y;have s:qJ (a.headD 0=45) (aQ B6 (aJ B6 (bH (digs a)))).toNat (¬b.headD 0=45/\(aQ B6 (aJ B6 (bH (digs b)))).toNat≠0) (aQ B6 (aJ B6 (bH (digs b)))).toNat≠0:=fun A=>y (by rw[A,eC];rfl);(apply Br.mk<;>intro)
  ·rename_i e;have e1:bK a-bK b<0:=by
    rw[<- n];unfold nF;rw[aE e];omega
   (conv=>whnf);(repeat' first|exact trivial|rfl|apply aA);unfold vZ;rw[aE om]
  rename_i e;have e1:0<bK a-bK b:=by
   rw[<- n];unfold nF;rw[aD e];omega
  (conv=>whnf);(repeat' first|exact trivial|rfl|apply aA);unfold vZ;rw[aD om,aD om]
def FQ (a:Bx):Prop:=(82<a.length/\a.length<602)\/700<a.length
instance (a:Bx):Decidable (FQ a):=by unfold FQ;infer_instance
theorem Pa (q:Rat):(cT q).headD 0=45↔q<0:=by
 rw[<- HU];exact (fX (cB.2 (FP q)) 45).symm
theorem lt0 (q:Rat):q<0↔q.num<0:=by
 rw[yO];show q.num*((1:Nat):Int)<0* _↔ _;omega
theorem C6 (n:Int):itoa n=(if n<0 then 45::decDigits n.natAbs else decDigits n.natAbs):=by
 unfold itoa;split
 ·rfl
 rw[show n.toNat=n.natAbs by omega]
theorem Sz.digs {q:Rat}(h:Sz 300 q):(decDigits q.num.natAbs).length<=300/\(decDigits q.den).length<=300:=⟨uY (k:=300) de h.1,uY (k:=300) de h.2⟩
theorem HW (k:Nat)(c:0<k):1<10^k:=bE (show 1<10^1 by decide) (nP c)
theorem Kt {s:Bx}(h:dD s=0):s=cT (cH s)/\Sz 300 (cH s):=by
 obtain ⟨e,f,g⟩:=Vf h;refine ⟨e,?_,?_⟩
 ·refine Ch (k:=300) ?_;rw[e,oO,gA] at f;exact f
 by_cases c:(cH s).den=1
 ·rw[c];exact HW 300 de
 refine Ch (k:=300) ?_;rw[e,sK,aD c] at g;exact g
theorem b65 (q:Rat)(m:Sz 300 q):body Tp [U3] {} true Tryz.f209 [S (cT q)] (.tup [S (pn q),S (pd q)]):=by
 have e1:digs (dM (cT q))=decDigits q.num.natAbs:=by rw[oO,gA]
 have e2:(cT q).headD 0=45↔q.num<0:=by rw[Pa,lt0]
 have e3:=C6 q.num;have n:=m.digs.1;have e4:=sK q;have f:∀h:q.num<0,pn q=45::decDigits q.num.natAbs:=fun h=>by unfold pn;rw[e3,aE h]
 have g:∀h:¬q.num<0,pn q=decDigits q.num.natAbs:=fun h=>by unfold pn;rw[e3,aD h]
 have f1:∀h:q.den=1,pd q= [49]:=fun h=>U5.2 h;have f2:∀h:¬q.den=1,(dI (cT q)).tail=pd q:=fun h=>by rw[e4,aD h];rfl
 by_cases e:q.num<0
 ·refine Br.mkY (e2.2 e) ?_;refine Need.mk (by rw[e1];show 1+ _<= _;omega) ?_;by_cases c:q.den=1
  ·refine Br.mkY (show ¬ ¬dI (cT q)= [] by rw[e4,aE c];simp) ?_;(conv=>whnf);(repeat' first|exact trivial|apply aA)
   ·(conv=>whnf);rw[f e,e1];rfl
   (conv=>whnf);exact (f1 c).symm
  refine Br.mkN (show ¬ ¬ ¬dI (cT q)= [] by rw[e4,aD c];simp) ?_;(conv=>whnf);(repeat' first|exact trivial|apply aA)
  ·(conv=>whnf);rw[f e,e1];rfl
  (conv=>whnf);exact f2 c
 refine Br.mkN (fun h=>e (e2.1 h)) ?_;by_cases c:q.den=1
 ·refine Br.mkY (show ¬ ¬dI (cT q)= [] by rw[e4,aE c];simp) ?_;(conv=>whnf);(repeat' first|exact trivial|apply aA)
  ·(conv=>whnf);rw[g e,e1]
  (conv=>whnf);exact (f1 c).symm
 refine Br.mkN (show ¬ ¬ ¬dI (cT q)= [] by rw[e4,aD c];simp) ?_;(conv=>whnf);(repeat' first|exact trivial|apply aA)
 ·(conv=>whnf);rw[g e,e1]
 (conv=>whnf);exact f2 c
def YJ:Con:=aV 209 true fun args K=>match args with | [.str s]=>Need (dD s=0) (K (.tup [S (pn (cH s)),S (pd (cH s))])) | _=>False
theorem k65:aM Tp YJ:=by
 refine kO Tryz.func209 fun c K h=>?_;simp only[YJ] at h;split at h
 ·rename_i s;obtain ⟨e,g⟩:=Kt h.ok;refine ⟨_,h.go,?_⟩;have f:=gH Tryz.func209 Tryz.ntmps209 (by simp[X0]) (b65 (cH s) g);rw[<- e] at f;exact f
 cases h
def QF (q:Rat):Prop:=(decDigits q.num.natAbs).length<=9/\(q.den=1\/(decDigits q.den).length<=9)
instance (q:Rat):Decidable (QF q):=by unfold QF;infer_instance
theorem C7 {q:Rat}(h:QF q):q.num.natAbs<1000000000/\q.den<1000000000:=by
 refine ⟨?_,?_⟩
 ·have:=Ch (k:=9) h.1;simpa using this
 rcases h.2 with h | h
 ·omega
 have:=Ch (k:=9) h;simpa using this
theorem b70 (q:Rat)(y:Sz 300 q):(∀h:QF q,body Tp [U3,c85] {} true Tryz.f219 [S (cT q)] (.tup [I q.num,I q.den,.val (.bool true)]))/\(∀h:¬QF q,body Tp [U3,c85] {} true Tryz.f219 [S (cT q)] (.tup [I 0,I 0,.val (.bool false)])):=by
 have e1:digs (dM (cT q))=decDigits q.num.natAbs:=by rw[oO,gA]
 have e2:(cT q).headD 0=45↔q.num<0:=by rw[Pa,lt0]
 have B:=y.digs;have e4:=sK q;have o:∀c∈decDigits q.num.natAbs,dN c:=fun c n=>sB _ c n;have s:∀c∈decDigits q.den,dN c:=fun c n=>sB _ c n;refine ⟨fun h=>?_,fun h=>?_⟩
 ·have A:=C7 h;have x:(digs (dM (cT q))).length<=9:=by rw[e1];exact h.1
  have z:(dI (cT q)).tail.length<=9:=by
   rw[e4];split
   ·simp
   rename_i g;rcases h.2 with m | m
   ·exact absurd m g
   exact m
  have E:bH (digs (dM (cT q)))=q.num.natAbs:=by rw[e1,kJ]
  have C:(∀c∈digs (dM (cT q)),dN c)/\(digs (dM (cT q))).length<=18:=⟨by rw[e1];exact o,om⟩;(repeat' first|refine ZR ?_|refine Zg fun _=>?_);by_cases f:q.den=1
  ·refine Br.mkN (show ¬ ¬dI (cT q)= [] by rw[e4,aE f];simp) ?_;by_cases e:q.num<0
   ·refine Br.mkY (e2.2 e) ?_;(repeat refine ZG ?_);(conv=>whnf);(repeat' first|exact trivial|rfl|apply aA)
    ·(conv=>whnf);omega
    (conv=>whnf);omega
   refine Br.mkN (fun h=>e (e2.1 h)) ?_;(conv=>whnf);(repeat' first|exact trivial|rfl|apply aA)
   ·(conv=>whnf);omega
   (conv=>whnf);omega
  have D:(∀c∈(dI (cT q)).tail,dN c)/\(dI (cT q)).tail.length<=18:=⟨by rw[e4,aD f];exact s,om⟩;have F:bH (dI (cT q)).tail=q.den:=by rw[e4,aD f];exact kJ _
  refine Br.mkY (show ¬dI (cT q)= [] by rw[e4,aD f];simp) ?_;(repeat refine ZG ?_);by_cases e:q.num<0
  ·refine Br.mkY (e2.2 e) ?_;(repeat refine ZG ?_);(conv=>whnf);(repeat' first|exact trivial|rfl|apply aA)
   ·(conv=>whnf);omega
   (conv=>whnf);omega
  refine Br.mkN (fun h=>e (e2.1 h)) ?_;(conv=>whnf);(repeat' first|exact trivial|rfl|apply aA)
  ·(conv=>whnf);omega
  (conv=>whnf);omega
 by_cases x:9<(digs (dM (cT q))).length
 ·exact ZRF
 have z:9<(dI (cT q)).tail.length:=by
  rw[e1] at x;refine xF fun u=>h ⟨om,?_⟩;rw[e4] at u;split at u
  ·rename_i g;exact .inl g
  exact .inr u
 exact ZRF
def YK:Con:=aV 219 true fun args K=>match args with
 | [.str s]=>Need (dD s=0) (Br (QF (cH s)) (K (.tup [I (cH s).num,I (cH s).den,.val (.bool true)])) (K (.tup [I 0,I 0,.val (.bool false)])))
 | _=>False
theorem k70:aM Tp YK:=by
 refine kO Tryz.func219 fun g K h=>?_;simp only[YK] at h;split at h
 ·rename_i s;obtain ⟨e,m⟩:=Kt h.ok;have f:=b70 (cH s) m;rw[<- e] at f;by_cases c:QF (cH s)
  ·exact ⟨_,h.go.yes c,gH Tryz.func219 Tryz.ntmps219 (by simp[X0,YI]) (f.1 c)⟩
  exact ⟨_,h.go.no c,gH Tryz.func219 Tryz.ntmps219 (by simp[X0,YI]) (f.2 c)⟩
 cases h
def Ka (a b:Bx):Int:=if dD a≠0 then dD a else dD b
def c78:Con:=aV 218 true fun | [.str a,.str b],K=>K (I (Ka a b)) | _,_=>False
theorem k78:aM Tp c78:=by
 refine kQ {} Tryz.func218 Tryz.ntmps218 (kc X1 kn) fun _ _ h=>?_;split at h;case h_2=>cases h
 refine kb h ?_;unfold Ka;(apply Br.mk<;>intro)
 ·rename_i h;rw[aE h];exact ZF
 rename_i h;rw[aD h];exact ZF
abbrev X2 (a b c d:Bx):Prop:=(iO a=0/\iO b=0)/\iO c=0/\iO d=0
theorem b81n (a b c d:Bx)(h:X2 a b c d)(g:lim (bK a*bK b)=true):body Tp [U6] {} true Tryz.f220 [S a,S b,S c,S d] (.tup [S [],S [],I 4]):=by
 obtain ⟨⟨e,f⟩,m,n⟩:=h;have e1:mP a b (gM (bK a*bK b))=([],4):=by rw[Kq e f];unfold gM;rw[aE g]
 refine Br.mkY (show ¬(mP a b (gM (bK a*bK b))).2=0 by rw[e1];decide) ?_;(conv=>whnf);(repeat' first|exact trivial|rfl|apply aA);(conv=>whnf);rw[e1]
theorem b81y (a b c d:Bx)(h:X2 a b c d)(n:lim (bK a*bK b)=false):body Tp [U6] {} true Tryz.f220 [S a,S b,S c,S d] (.tup [S (itoa (bK a*bK b)),S (gM (bK c*bK d)).1,I (gM (bK c*bK d)).2]):=by
 obtain ⟨⟨e,f⟩,g,m⟩:=h;have e1:mP a b (gM (bK a*bK b))=(itoa (bK a*bK b),0):=by rw[Kq e f];unfold gM;rw[aD (by rw[n];decide)]
 have e2:=Kq g m (gM (bK c*bK d));refine Br.mkN (show ¬ ¬(mP a b (gM (bK a*bK b))).2=0 by rw[e1];simp) ?_;(conv=>whnf);(repeat' first|exact trivial|rfl|apply aA)
 ·(conv=>whnf);rw[e1]
 ·(conv=>whnf);rw[e2]
 (conv=>whnf);rw[e2]
def YL:Con:=aV 220 true fun args K=>match args with
 | [.str a,.str b,.str c,.str d]=>Need (X2 a b c d) (Br (lim (bK a*bK b)=true) (K (.tup [S [],S [],I 4])) (K (.tup [S (itoa (bK a*bK b)),S (gM (bK c*bK d)).1,I (gM (bK c*bK d)).2])))
 | _=>False
theorem k81:aM Tp YL:=by
 refine kO Tryz.func220 fun f K h=>?_;simp only[YL] at h;split at h
 ·rename_i a b c d;by_cases e:lim (bK a*bK b)=true
  ·exact ⟨_,h.go.yes e,gH Tryz.func220 Tryz.ntmps220 (by simp[XF]) (b81n a b c d h.ok e)⟩
  exact ⟨_,h.go.no e,gH Tryz.func220 Tryz.ntmps220 (by simp[XF]) (b81y a b c d h.ok (by simpa using e))⟩
 cases h
theorem QH {n:Int}(h:lim n=true):gM n=([],4):=by unfold gM;rw[aE h]
theorem QI {n:Int}(h:lim n=false):gM n=(itoa n,0):=by unfold gM;rw[aD (by rw[h];decide)]
theorem XG {x y:Int}(c:x.natAbs<1000000000)(e:y.natAbs<1000000000): -1000000000000000000<x*y/\x*y<1000000000000000000:=by
 have h:=cR x y;have f:x.natAbs*y.natAbs<1000000000*1000000000:=eV c e;omega
theorem NR {q:Rat}(h:Sz 300 q):iO (pn q)=0/\bK (pn q)=q.num/\lim q.num=false:=by
 have c:lim q.num=false:=by
  unfold lim;have:=h.digs.1;simp;omega
 exact ⟨uV c,Oi q,c⟩
theorem NS {q:Rat}(h:Sz 300 q):iO (pd q)=0/\bK (pd q)=q.den:=by
 have:=Vp h.digs.2;exact ⟨this.2.1,this.2.2⟩
theorem Sb (n:Int):lim n=true\/lim n=false:=by cases lim n<;>simp
theorem NT {a b:Bx}(h:¬Ka a b≠0):dD a=0/\dD b=0:=by
 unfold Ka at h;by_cases c:dD a≠0
 ·rw[aE c] at h;exact absurd c h
 rw[aD c] at h;exact ⟨bG.1 c,bG.1 h⟩
theorem AU {p q:Prop}(f:¬(p/\q)):(¬p/\q)\/(¬p/\¬q)\/(p/\¬q):=by
 by_cases c:p
 ·exact .inr (.inr ⟨c,fun e=>f ⟨c,e⟩⟩)
 by_cases e:q
 ·exact .inl ⟨c,e⟩
 exact .inr (.inl ⟨c,e⟩)
theorem NU {a b:Bx}(h:Ka a b≠0):vF a b=(0,Ka a b):=by
 unfold vF Ka at*;by_cases c:dD a≠0
 ·rw[aE c,aE c]
 rw[aD c] at h ⊢;rw[aE h,aD c]
theorem HX {a b:Bx}(h:dD a=0/\dD b=0):vF a b=Cn (cH a) (cH b):=by
 unfold vF;rw[aD (by rw[h.1];simp),aD (by rw[h.2];simp)]
theorem FR {p q:Rat}(c:lim (p.num*q.den)=false)(e:lim (q.num*p.den)=false):Cn p q=(vZ (p.num*q.den) (q.num*p.den),0):=by
 unfold Cn;rw[aD (by simp[c,e])]
theorem b43g (a b:Bx)(F:dD a=0)(J:dD b=0):body Tp [c78,YK,YJ,YL,c82] {} true Tryz.f203 [S a,S b] (.tup [I (Cn (cH a) (cH b)).1,I (Cn (cH a) (cH b)).2]):=by
 have W:=(Kt F).2;have X:=(Kt J).2;obtain ⟨D,f,Z⟩:=NR W;obtain ⟨E,s,a0⟩:=NR X;obtain ⟨B,o⟩:=NS W;obtain ⟨C,e⟩:=NS X;have d1:=(cH a).den_pos;have d2:=(cH b).den_pos;have K:¬Ka a b≠0:=by unfold Ka;rw[aD (by rw[F];simp),J];simp
 by_cases n:QF (cH a)/\QF (cH b)
 ·have s1:=C7 n.1;have s2:=C7 n.2;have m1:=XG (x:=(cH a).num) (y:=((cH b).den:Int)) s1.1 om;have m2:=XG (x:=(cH b).num) (y:=((cH a).den:Int)) s2.1 om;have c:=FR (p:=cH a) (q:=cH b) (Ce om) (Ce om);refine Br.mkN (show ¬ ¬Ka a b=0 from K) ?_;(repeat refine ZG ?_);refine Br.mkY n.1 ?_;(repeat refine ZG ?_);refine Br.mkY n.2 ?_;(repeat refine ZG ?_);(apply Br.mk<;>intro)
  ·rename_i A;(conv=>whnf);(repeat' first|exact trivial|rfl|apply aA)
   ·(conv=>whnf);rw[c];unfold vZ;rw[aE A]
   (conv=>whnf);rw[c]
  rename_i A;(repeat refine ZG ?_);(apply Br.mk<;>intro)
  ·rename_i Y;(conv=>whnf);(repeat' first|exact trivial|rfl|apply aA)
   ·(conv=>whnf);rw[c];unfold vZ;rw[aD A,aD om]
   (conv=>whnf);rw[c]
  rename_i Y;(conv=>whnf);(repeat' first|exact trivial|rfl|apply aA)
  ·(conv=>whnf);rw[c];unfold vZ;rw[aD A,aE om]
  (conv=>whnf);rw[c]
 have n4:X2 (pn (cH a)) (pd (cH b)) (pn (cH b)) (pd (cH a)):=⟨⟨D,C⟩,E,B⟩;rcases AU n with ⟨u,z⟩ | ⟨u,z⟩ | ⟨u,z⟩;all_goals skip
 all_goals refine Br.mkN (show ¬ ¬Ka a b=0 from K) ?_
 all_goals (repeat refine ZG ?_)
 all_goals first | refine Br.mkN u ?_ | refine Br.mkY u ?_
 all_goals (repeat refine ZG ?_)
 all_goals first | refine Br.mkN z ?_ | refine Br.mkY z ?_
 all_goals (repeat refine ZG ?_)
 all_goals
  rcases Sb ((cH a).num*((cH b).den:Int)) with g | g
  ·have c:Cn (cH a) (cH b)=(0,4):=by unfold Cn;rw[aE (by simp[g])]
   refine Br.mkY (show lim (bK (pn (cH a))*bK (pd (cH b)))=true by rw[f,e];exact g) ?_;(repeat refine ZR ?_);(conv=>whnf);(repeat' first|exact trivial|rfl|apply aA)
   ·(conv=>whnf);rw[c]
   (conv=>whnf);rw[c]
  refine Br.mkN (show ¬lim (bK (pn (cH a))*bK (pd (cH b)))=true by rw[f,e,g];decide) ?_;rcases Sb ((cH b).num*((cH a).den:Int)) with m | m
  ·have c:Cn (cH a) (cH b)=(0,4):=by unfold Cn;rw[aE (by simp[m])]
   have e4:gM (bK (pn (cH b))*bK (pd (cH a)))=([],4):=by rw[s,o];exact QH m
   refine Br.mkY (show ¬(gM (bK (pn (cH b))*bK (pd (cH a)))).2=0 by rw[e4];decide) ?_;(conv=>whnf);(repeat' first|exact trivial|rfl|apply aA)
   ·(conv=>whnf);rw[c]
   (conv=>whnf);rw[c,e4]
  have e4:gM (bK (pn (cH b))*bK (pd (cH a)))=(itoa ((cH b).num*((cH a).den:Int)),0):=by rw[s,o];exact QI m
  refine Br.mkN (show ¬ ¬(gM (bK (pn (cH b))*bK (pd (cH a)))).2=0 by rw[e4];simp) ?_;have c:=FR g m;have n5:iO (itoa (bK (pn (cH a))*bK (pd (cH b))))=0/\iO (gM (bK (pn (cH b))*bK (pd (cH a)))).1=0:=by
   rw[e4,f,e];exact ⟨uV g,uV m⟩
  (repeat refine ZG ?_);(conv=>whnf);(repeat' first|exact trivial|rfl|apply aA)
  ·(conv=>whnf);rw[c,e4,f,e,pT,pT]
  (conv=>whnf);rw[c]
def c43:Con:=aV 203 true fun | [.str a,.str b],K=>K (.tup [I (vF a b).1,I (vF a b).2]) | _,_=>False
theorem k43:aM Tp c43:=by
 refine kQ {} Tryz.func203 Tryz.ntmps203 (kc k78 (kc k70 (kc k65 (kc k81 (kc k82 kn))))) fun _ _ h=>?_;split at h;case h_2=>cases h
 rename_i a b;refine kb h ?_;by_cases h:Ka a b≠0
 ·rw[NU h];refine Br.mkY h ?_;exact ZF
 rw[HX (NT h)];exact b43g a b (NT h).1 (NT h).2
def longL (l:List (Bx)):Prop:=(∃a∈l,FQ a)\/8<l.length
instance (l:List (Bx)):Decidable (longL l):=Cp
end RB
end
section
namespace RB
section
variable {ax ay az bx by' bz cx cy cz P Q R:Rat}
end
end RB
end
section
open Go Go.Proofs Go.Eng Go.Shelf IB Go.Lib Go.RowKit Tryz
namespace RB
def d36 (q:Rat):Prop:=(decDigits q.num.natAbs).length<=36/\(decDigits q.den).length<=36
instance (q:Rat):Decidable (d36 q):=inferInstanceAs (Decidable (_/\ _))
def VU (a:Bx):Int:=if dD a≠0 then dD a else if d36 (cH a) then 0 else 4
def badP (l:List (Bx)):Prop:=∃a∈l,VU a≠0
instance (l:List (Bx)):Decidable (badP l):=Cp
section
variable {p q r:Rat} {i j k:Nat}
end
def VD (a b c x y:Bx):Rat:=cH a*cH x+cH b*cH y+cH c
section
variable (p:Bx->Prop) [DecidablePred p]
end
def VV (s:Bx):Prop:=12<s.length\/dD s≠0
instance (s:Bx):Decidable (VV s):=Cp
noncomputable instance:DecidablePred VV:=fun s=>Cp
def notP (s:Bx):Prop:=VU s≠0
noncomputable instance:DecidablePred notP:=fun s=>Cp
def T0 (l:List (Bx)):Prop:=∀a∈l,a.length<=12/\dD a=0
instance (l:List (Bx)):Decidable (T0 l):=Cp
theorem Sz.up {k:Nat}{q:Rat}(h:Sz 12 q)(c:12<=k):Sz k q:=h.mono c
theorem PN {p q:Rat}{k:Nat}(g:(p.num*q.den).natAbs<10^k)(n:(q.num*p.den).natAbs<10^k)(e:q≠0):Sz k (p/q):=by
 have m:q.num≠0:=fun h=>e (Rat.num_eq_zero.1 h);have f:(0:Int)<p.den:=by have:=p.den_pos;omega
 rw[G4 p q e];rcases Int.lt_or_lt_of_ne m with h | h
 ·have c:(p.den:Int)*q.num<0:=Int.mul_neg_of_pos_of_neg f h;rw[CJ _ _ c];refine AT om (by rwa [Bc]) ?_;have:(-((p.den:Int)*q.num)).toNat=(q.num*p.den).natAbs:=by rw[bU q.num];omega
  rwa [this]
 have c:0<(p.den:Int)*q.num:=Int.mul_pos f h;rw[Nt _ _ c];refine AT om g ?_;have:((p.den:Int)*q.num).toNat=(q.num*p.den).natAbs:=by rw[bU q.num];omega
 rwa [this]
theorem Sz.div {p q:Rat}{i j:Nat}(c:Sz i p)(e:Sz j q)(f:q≠0):Sz (i+j) (p/q):=PN (c.cross e).1 (c.cross e).2.1 f
section
variable {p q:Rat}
end
def ckG (p:Bx):List (Bx)->Int
 | []=>0
 | a::r=>if dD a≠0 then dD a else if (vF p a).2≠0 then (vF p a).2 else if 0<=(vF p a).1 then 10 else ckG a r
def ckF:List (Bx)->Int
 | []=>0
 | a::r=>if dD a≠0 then dD a else ckG a r
def ckS (l:List (Bx)):Int:=if 4096<l.length then 4 else ckF l
section
variable {l:List (Bx)} {i:Nat}
end
def Wt (k:Nat)(q:Rat):Prop:=q.num.natAbs*q.den<10^k
theorem Rf (n:Int){d:Nat}(c:d≠0):(mkRat n d).num.natAbs<=n.natAbs/\(mkRat n d).den<=d:=by
 rw[Rat.num_mkRat,aD c,Rat.den_mkRat,aD c];exact ⟨Df _ _,Nat.div_le_self _ _⟩
theorem Wt.sub {p q:Rat}{k:Nat}(c:Wt k p)(e:Wt k q)(sp:p.den<10^k)(sq:q.den<10^k):Wt (3*k+1) (p-q):=by
 unfold Wt at c e ⊢;rw[Rk];obtain ⟨f,g⟩:=Rf (p.num*q.den-q.num*p.den) (Oy p q);refine bV (eK f g) ?_;have e1:(p.num*q.den-q.num*p.den).natAbs<=p.num.natAbs*q.den+q.num.natAbs*p.den:=by
  refine bA (Int.natAbs_sub_le _ _) ?_;rw[cR,cR,bZ,bZ];exact aI _
 refine bV (aN _ e1) ?_;have e2:(p.num.natAbs*q.den+q.num.natAbs*p.den)*(p.den*q.den)=(p.num.natAbs*p.den)*(q.den*q.den)+(q.num.natAbs*q.den)*(p.den*p.den):=by
  rw[bI];congr 1<;>ac_rfl
 rw[e2];have m:(p.num.natAbs*p.den)*(q.den*q.den)<10^k*(10^k*10^k):=eV c (eV sq sq);have n:(q.num.natAbs*q.den)*(p.den*p.den)<10^k*(10^k*10^k):=eV e (eV sp sp);have e3:10^ (3*k+1)=10*(10^k*(10^k*10^k)):=by
  rw[<- sO,<- sO,hU,dY];congr 2;omega
 rw[e3];omega
theorem LO {α:Type}{l:List α}{i:Nat}{d:α}(h:i<l.length):l.getD i d∈l:=by
 simp[aB,h]
def rgP (a b:Bx):Prop:=(vF a b).2=0/\(vF a b).1<=0
instance (a b:Bx):Decidable (rgP a b):=Cp
def Jv (q:Rat):Int:=q.num/(q.den:Int)
theorem Dv (q:Rat):((Jv q:Int):Rat)<=q:=by
 rw[Rat.le_iff,Rat.num_intCast,Rat.den_intCast];have:=NK q;unfold Jv;simpa using this
theorem Al (q:Rat):q<((Jv q+1:Int):Rat):=by
 rw[yO,Rat.num_intCast,Rat.den_intCast];have:=NL q;unfold Jv;simpa using this
def G0 (q:Rat):Int:=if ((Jv q:Int):Rat)=q then Jv q else Jv q+1
theorem LP (q:Rat):q<=((G0 q:Int):Rat):=by
 unfold G0;split
 ·rename_i h;rw[h];exact Rat.le_refl
 exact kV (Al q)
theorem TQ (q:Rat):((G0 q-1:Int):Rat)<q:=by
 unfold G0;split
 ·rename_i h;have e:((Jv q-1:Int):Rat)=((Jv q:Int):Rat)-1:=by rw[Rat.intCast_sub];rfl
  rw[e,h];exact Rat.sub_lt_iff.2 (by grind)
 rename_i h;rw[show Jv q+1-1=Jv q by omega];exact Rat.not_le.1 fun c=>h (Rat.le_antisymm (Dv q) c)
theorem PA {q:Rat}(h:0<q):0<G0 q:=by
 have e:=LP q;have f:(0:Rat)<((G0 q:Int):Rat):=Rat.not_le.1 fun c=>Rat.not_le.2 h (Rat.le_trans e c);exact Rat.intCast_pos.1 f
def Am (lo hi most:Rat):Rat:=(hi-lo)/(G0 ((hi-lo)/most):Int)
section
variable {lo hi most:Rat}
theorem LQ {a b:Rat}(f:0<a)(g:0<b):0<a/b:=by
 have e:a/b*b=a:=mH (by grind);refine Rat.not_le.1 fun h=>?_;have:=Rat.mul_le_mul_of_nonneg_right (c:=b) h (kV g);rw[e,Rat.zero_mul] at this;exact Rat.not_le.2 f this
theorem TR (h:lo<hi)(c:0<most):0<G0 ((hi-lo)/most):=PA (LQ (by grind) c)
end
section
variable {α:Type} [DecidableEq α]
end
def eP (L O S:Rat):Int:=Jv ((O-L)/S)
def mC (H O S:Rat):Int:=Jv ((H-O)/S)
def tP (L O S:Rat):Rat:=O-((eP L O S:Int):Rat)*S
def Vc (L H O S:Rat):Int:=eP L O S+mC H O S+1
theorem LR {n:Int}{q:Rat}:(n:Rat)<=q↔n<=Jv q:=by
 constructor
 ·intro h;have e:=Al q;have f:(n:Rat)<((Jv q+1:Int):Rat):=Rat.not_le.1 fun c=>Rat.not_le.2 e (Rat.le_trans c h);have:=Rat.intCast_lt_intCast.1 f;omega
 intro h;exact Rat.le_trans (Rat.intCast_le_intCast.2 h) (Dv q)
theorem uT {a b s:Rat}(g:0<s):a<=b/s↔a*s<=b:=by
 have e:b/s*s=b:=mH (by grind);constructor
 ·intro h;have:=Rat.mul_le_mul_of_nonneg_right (c:=s) h (kV g);rwa [e] at this
 intro h;refine Rat.not_lt.1 fun f=>?_;have:=Rat.mul_lt_mul_of_pos_right f g;rw[e] at this;exact Rat.not_le.2 this h
theorem at_in {L H O S:Rat}(c:0<S)(i:Nat):tP L O S+S*((i:Int):Rat)<=H↔(i:Int)<Vc L H O S:=by
 have e1:((i:Int)-eP L O S)<=Jv ((H-O)/S)↔(((i:Int)-eP L O S:Int):Rat)*S<=H-O:=by rw[<- LR,uT c]
 have e2:(((i:Int)-eP L O S:Int):Rat)=((i:Int):Rat)-((eP L O S:Int):Rat):=Rat.intCast_sub _ _;rw[e2] at e1;have e3:(((i:Int):Rat)-((eP L O S:Int):Rat))*S<=H-O↔tP L O S+S*((i:Int):Rat)<=H:=by
  unfold tP;rw[Rat.le_iff_sub_nonneg,Rat.le_iff_sub_nonneg (a:=O- _+ _)];have:H-O-(((i:Int):Rat)-((eP L O S:Int):Rat))*S=H-(O-((eP L O S:Int):Rat)*S+S*((i:Int):Rat)):=by grind
  rw[this]
 rw[<- e3,<- e1];unfold Vc mC;omega
theorem TS {L O S:Rat}(g:0<S):L<=tP L O S/\tP L O S<L+S:=by
 have f:((eP L O S:Int):Rat)<=(O-L)/S:=Dv _;rw[uT g] at f;have c:¬((eP L O S+1:Int):Rat)<=(O-L)/S:=Rat.not_le.2 (Al _);rw[uT g] at c;have e:((eP L O S+1:Int):Rat)=((eP L O S:Int):Rat)+1:=Rat.intCast_add _ _;rw[e] at c;have c:=Rat.not_le.1 c;unfold tP;generalize ((eP L O S:Int):Rat)=k at*;constructor
 ·rw[Rat.le_iff_sub_nonneg] at f ⊢;have:O-k*S-L=O-L-k*S:=by grind
  rwa [this]
 rw[Rat.lt_iff_sub_pos] at c ⊢;have:L+S-(O-k*S)=(k+1)*S-(O-L):=by grind
 rwa [this]
section
variable {p q:Rat} {k:Nat}
theorem yA {a b:Nat}(c:b≠0):a<=a*b:=eA a (dX c)
theorem Zt (g:p.num.natAbs*q.den<10^k)(m:q.num.natAbs*p.den<10^k)(c:p.den*q.den<10^k):Sz k p/\Sz k q:=by
 have e:=q.den_nz;have f:=p.den_nz;exact ⟨⟨bV (yA e) g,bV (yA e) c⟩,⟨bV (yA f) m,bV (by rw[dY];exact yA f) c⟩⟩
theorem TU (c:0<k/\k+1<=300)(e:p.num.natAbs*q.den<10^k)(f:q.num.natAbs*p.den<10^k)(g:p.den*q.den<10^k):G5 (cT p) (cT q)=(cT (p+q),0):=by
 obtain ⟨m,n⟩:=Zt e f g;have e1:(p.num*q.den).natAbs<10^k:=by rw[cR,bZ];exact e
 have e2:(q.num*p.den).natAbs<10^k:=by rw[cR,bZ];exact f
 unfold G5;rw[yL m n ⟨c.1,om⟩ ⟨c.1,om⟩,aD];simp only[dA,not_or,iM];exact ⟨⟨⟨iE ⟨c.1,om⟩ e1,iE ⟨c.1,om⟩ e2⟩,iE (k:=k+1) ⟨om,c.2⟩ (pW e1 e2).1⟩,iE ⟨c.1,om⟩ (by rw[<- dG,bZ];exact g)⟩
theorem TV (c:0<k/\k+1<=300)(e:p.num.natAbs*q.den<10^k)(f:q.num.natAbs*p.den<10^k)(g:p.den*q.den<10^k):Fp (cT p) (cT q)=(cT (p-q),0):=by
 obtain ⟨m,n⟩:=Zt e f g;have e1:(p.num*q.den).natAbs<10^k:=by rw[cR,bZ];exact e
 have e2:(q.num*p.den).natAbs<10^k:=by rw[cR,bZ];exact f
 unfold Fp;rw[yL m n ⟨c.1,om⟩ ⟨c.1,om⟩,aD];simp only[dA,not_or,iM];exact ⟨⟨⟨iE ⟨c.1,om⟩ e1,iE ⟨c.1,om⟩ e2⟩,iE (k:=k+1) ⟨om,c.2⟩ (pW e1 e2).2⟩,iE ⟨c.1,om⟩ (by rw[<- dG,bZ];exact g)⟩
theorem TW (c:0<k/\k<=300)(g:Sz k p)(m:Sz k q)(e:p.num.natAbs*q.num.natAbs<10^k)(f:p.den*q.den<10^k):CK (cT p) (cT q)=(cT (p*q),0):=by
 unfold CK;rw[yL g m c c,aD];simp only[dA,not_or,iM];exact ⟨iE c (by rw[cR];exact e),iE c (by rw[<- dG,bZ];exact f)⟩
end
theorem CH (q:Rat):((q.num:Int):Rat)=q*((q.den:Nat):Rat):=by
 have h:((q.den:Nat):Rat)≠0:=by
  have:=q.den_pos;have:=Rat.natCast_pos.2 this;exact fun e=>Rat.lt_irrefl (e ▸ this)
 have e:q=(q.num:Rat)/((q.den:Nat):Rat):=by
  conv=>lhs;rw[<- Rat.mkRat_self q,Rat.mkRat_eq_div]
 conv=>rhs;lhs;rw[e]
 rw[mH h]
theorem Gv (q:Rat):(0:Rat)<=((q.den:Nat):Rat):=Rat.natCast_nonneg
theorem TX {x H S:Rat}(c:Nat)(h:x<=H+(c:Rat)*S):x.num*(H.den*S.den:Nat)<=(H.num*S.den+c*S.num*H.den)*x.den:=by
 apply Rat.intCast_le_intCast.1;simp only[Rat.intCast_mul,Rat.intCast_add,Rat.intCast_natCast,Rat.natCast_mul,CH];have:=Rat.mul_le_mul_of_nonneg_right (c:=((x.den:Nat):Rat)*(((H.den:Nat):Rat)*((S.den:Nat):Rat))) h (qQ (Gv x) (qQ (Gv H) (Gv S)))
 grind
def Lm (l:List (Bx)):Prop:=∀a∈l,dD a=0->a.length<=82
theorem Lm.at {l:List (Bx)}(h:Lm l){i:Nat}(hi:i<l.length)(c:dD (l.getD i [])=0):(l.getD i []).length<=82:=h _ (LO hi) c
theorem bt2 {A B D l h s t N:Nat}(F:0<l)(E:1<=D)(c:D*t<=100*(s*l*h))(hB:B*l<=D+A*h)(z:A*l<N)(C:B*h<N)(f:s*t<N):B*(t*t)<=200*(N*N)*h:=by
 have e:1<=N:=om;by_cases hc:2*(A*h)<=B*l
 ·have e1:B*l<=2*D:=om;have e2:(B*l)*t<=(2*D)*t:=aN _ e1;have e3:(2*D)*t=2*(D*t):=gT ..;have e4:(B*t)*l<=(200*(s*h))*l:=by
   have e5:(B*t)*l=(B*l)*t:=by ac_rfl
   have e6:(200*(s*h))*l=200*(s*l*h):=by ac_rfl
   rw[e5,e6];omega
  have u:B*t<=200*(s*h):=Nat.le_of_mul_le_mul_right e4 F;have J:(B*t)*t<=(200*(s*h))*t:=aN _ u;have K:(200*(s*h))*t=200*((s*t)*h):=by ac_rfl
  have m:(s*t)*h<=(N*N)*h:=aN _ (bA (Nat.le_of_lt f) (eA N e));have n:200*(N*N)*h=200*((N*N)*h):=gT ..;have o:B*(t*t)=(B*t)*t:=(gT ..).symm;omega
 have q:B*l<2*N:=by
  refine xF fun g=>?_;have f1:(2*N)*(2*N)<=(B*l)*(B*l):=eK g g;have f2:(B*l)*(B*l)<=(B*l)*(2*(A*h)):=jN _ om;have f3:(B*l)*(2*(A*h))=2*((B*h)*(A*l)):=by ac_rfl
  have f4:(B*h)*(A*l)<=N*N:=eK (Nat.le_of_lt C) (Nat.le_of_lt z);have f5:(2*N)*(2*N)=4*(N*N):=by rw[show 4=2*2 from rfl];ac_rfl
  have f6:1*1<=N*N:=eK e e;omega
 have x:t<=D*t:=yN t E;have W:(B*t)*t<=(B*t)*(100*(s*l*h)):=jN _ (bA x c);have X:(B*t)*(100*(s*l*h))=100*(((s*t)*(B*l))*h):=by ac_rfl
 have y:(s*t)*(B*l)<=N*(2*N):=eK (Nat.le_of_lt f) (Nat.le_of_lt q);have Y:((s*t)*(B*l))*h<=(N*(2*N))*h:=aN _ y;have Z:(N*(2*N))*h=2*((N*N)*h):=by ac_rfl
 have g7:200*(N*N)*h=200*((N*N)*h):=gT ..;have g8:B*(t*t)=(B*t)*t:=(gT ..).symm;omega
abbrev XO:Nat:=10^82
structure AtH (L H O S:Rat):Prop where
 wL:Wt 82 L
 wH:Wt 82 H
 wS:Wt 82 S
 zL:Sz 82 L
 zH:Sz 82 H
 zO:Sz 82 O
 zS:Sz 82 S
 le:L<=H
 pos:0<S
 few:H<=L+((100:Nat):Rat)*S
section
variable {L H O S:Rat}
theorem Kg {q:Rat}(h:0<q):0<q.num:=by
 have:=(yO 0 q).1 h;simpa using this
theorem AtH.t2 (h:AtH L H O S)(f:L<H):H.num.natAbs*(S.den*S.den)<=200*(XO*XO)*H.den/\L.num.natAbs*(S.den*S.den)<=200*(XO*XO)*L.den:=by
 have B:=Kg h.pos;have A:=(yO L H).1 f;have u:=TX 100 h.few;have z:=L.den_pos;have y:=H.den_pos;have g:(H.num*L.den).natAbs=H.num.natAbs*L.den:=by rw[cR,bZ]
 have m:(L.num*H.den).natAbs=L.num.natAbs*H.den:=by rw[cR,bZ]
 obtain ⟨D,x⟩:∃D:Nat,(D:Int)=H.num*L.den-L.num*H.den:=⟨(H.num*L.den-L.num*H.den).toNat,om⟩;have c:1<=D:=om;have e:D*S.den<=100*(S.num.natAbs*L.den*H.den):=by
  have s:((S.num.natAbs:Nat):Int)=S.num:=om;have:((D*S.den:Nat):Int)<=((100*(S.num.natAbs*L.den*H.den):Nat):Int):=by
   push_cast
   rw[s,x];push_cast at u
   grind
  exact Int.ofNat_le.1 this
 have n:H.num.natAbs*L.den<=D+L.num.natAbs*H.den:=by rw[<- g,<- m];omega
 have o:L.num.natAbs*H.den<=D+H.num.natAbs*L.den:=by rw[<- g,<- m];omega
 refine ⟨bt2 z c e n h.wL h.wH h.wS,bt2 y c (bA e (kU (by ac_rfl))) o h.wH h.wL h.wS⟩
theorem SI {P Q S:Rat}(y:Sz 82 P)(z:Sz 82 Q)(m:Sz 82 S)(hS:0<S):(Jv ((P-Q)/S)).natAbs*S.num.natAbs<10^165:=by
 have J:=Kg hS;have F:((S.num.natAbs:Nat):Int)=S.num:=om;have o:((Jv ((P-Q)/S):Int):Rat)*S<=P-Q:=(uT hS).1 (Dv _);have s:P-Q<=((Jv ((P-Q)/S)+1:Int):Rat)*S:=by
  have:=kV (Rat.not_le.1 fun h=>Rat.not_le.2 (Al ((P-Q)/S)) ((uT hS).2 h));exact this
 generalize Jv ((P-Q)/S)=k at*;have c:=P.den_pos;have e:=Q.den_pos;have g:(0:Rat)<=((S.den:Nat):Rat)*(((P.den:Nat):Rat)*((Q.den:Nat):Rat)):=qQ (Gv S) (qQ (Gv P) (Gv Q));have K:k*S.num*(P.den*Q.den:Nat)<=(P.num*Q.den-Q.num*P.den)*S.den:=by
  apply Rat.intCast_le_intCast.1;simp only[Rat.intCast_mul,Rat.intCast_sub,Rat.intCast_natCast,Rat.natCast_mul,CH];have:=Rat.mul_le_mul_of_nonneg_right o g
  grind
 have W:(P.num*Q.den-Q.num*P.den)*S.den<=(k+1)*S.num*(P.den*Q.den:Nat):=by
  apply Rat.intCast_le_intCast.1;rw[Rat.intCast_mul,Rat.intCast_mul ((k+1)*S.num),Rat.intCast_mul (k+1),Rat.intCast_sub];simp only[Rat.intCast_mul,Rat.intCast_natCast,Rat.natCast_mul,CH];have:=Rat.mul_le_mul_of_nonneg_right s g
  grind
 have X:P.num.natAbs*Q.den<=P.num.natAbs*(P.den*Q.den):=jN _ (yN _ c);have Y:Q.num.natAbs*P.den<=Q.num.natAbs*(P.den*Q.den):=jN _ (eA _ e);have A:(P.num*Q.den).natAbs=P.num.natAbs*Q.den:=by rw[cR,bZ]
 have B:(Q.num*P.den).natAbs=Q.num.natAbs*P.den:=by rw[cR,bZ]
 have x:(P.num*Q.den-Q.num*P.den).natAbs<=(P.num.natAbs+Q.num.natAbs)*(P.den*Q.den):=by
  rw[bI];omega
 have Z:((P.num*Q.den-Q.num*P.den)*S.den).natAbs<=((P.num.natAbs+Q.num.natAbs)*S.den)*(P.den*Q.den):=by
  rw[cR,bZ];refine bA (aN _ x) (kU (by ac_rfl))
 have f:0<P.den*Q.den:=sM c e;have u:k.natAbs*S.num.natAbs<=(P.num.natAbs+Q.num.natAbs)*S.den+S.num.natAbs:=by
  by_cases n:0<=k
  ·have f1:(k*S.num*(P.den*Q.den:Nat)).natAbs=(k.natAbs*S.num.natAbs)*(P.den*Q.den):=by rw[cR,cR,bZ]
   have f2:0<=k*S.num*(P.den*Q.den:Nat):=cU (cU n om) om;have f3:(k.natAbs*S.num.natAbs)*(P.den*Q.den)<=((P.num.natAbs+Q.num.natAbs)*S.den)*(P.den*Q.den):=by rw[<- f1];omega
   have:=Nat.le_of_mul_le_mul_right f3 f;omega
  have f1:((k+1)*S.num*(P.den*Q.den:Nat)).natAbs=((k+1).natAbs*S.num.natAbs)*(P.den*Q.den):=by rw[cR,cR,bZ]
  have f2:(k+1)*S.num*(P.den*Q.den:Nat)<=0:=Int.mul_nonpos_of_nonpos_of_nonneg (Int.mul_nonpos_of_nonpos_of_nonneg om om) om;have f3:((k+1).natAbs*S.num.natAbs)*(P.den*Q.den)<=((P.num.natAbs+Q.num.natAbs)*S.den)*(P.den*Q.den):=by rw[<- f1];omega
  have f4:=Nat.le_of_mul_le_mul_right f3 f;have f5:k.natAbs=(k+1).natAbs+1:=om;rw[f5,bI,cX];omega
 have C:(P.num.natAbs+Q.num.natAbs)*S.den<=(10^82+10^82)*10^82:=eK (Nat.add_le_add (Nat.le_of_lt y.1) (Nat.le_of_lt z.1)) (Nat.le_of_lt m.2);have D:=m.1;have E:(10^82+10^82)*10^82+10^82<10^165:=de;omega
end
theorem Vb {q:Rat}{k:Nat}(h:Sz k q)(c:0<k/\k<=300):SR (cT q)=(itoa (Jv q),0):=by
 unfold SR;rw[aE (Vx h c),pU];rfl
theorem O8 {n:Int}{k:Nat}(h:n.natAbs<10^k)(c:0<k/\k<=300):YA (itoa n)=if n < -4611686018427387904\/4611686018427387904<n then (0,2) else (n,0):=by
 unfold YA;rw[<- oP,aE (Vx (Oz h c.1) c),pU,aE (Rat.den_intCast n),Rat.num_intCast]
section
variable {L H O S:Rat}
abbrev atX (L O S:Rat)(i:Nat):Rat:=tP L O S+S*((i:Int):Rat)
theorem Zs (K:Int)(S:Rat):((K:Rat)*S).num.natAbs<=K.natAbs*S.num.natAbs/\((K:Rat)*S).den<=S.den:=by
 rw[Rl];obtain ⟨c,e⟩:=Rf ((K:Rat).num*S.num) (Oy (K:Rat) S);rw[Rat.num_intCast,cR] at c;exact ⟨c,bA e (by rw[Rat.den_intCast,cX];exact aI _)⟩
theorem AtH.count (h:AtH L H O S): -1<=eP L O S+mC H O S/\eP L O S+mC H O S<=100:=by
 have c:=h.pos;have z:((eP L O S:Int):Rat)*S<=O-L:=(uT c).1 (Dv _);have A:((mC H O S:Int):Rat)*S<=H-O:=(uT c).1 (Dv _);have B:O-L<=((eP L O S+1:Int):Rat)*S:=kV (Rat.not_le.1 fun h=>Rat.not_le.2 (Al _) ((uT c).2 h));have C:H-O<=((mC H O S+1:Int):Rat)*S:=kV (Rat.not_le.1 fun h=>Rat.not_le.2 (Al _) ((uT c).2 h));have g:¬((eP L O S+1:Int):Rat)*S<=O-L:=fun h=>Rat.not_le.2 (Al _) ((uT c).2 h);have m:¬((mC H O S+1:Int):Rat)*S<=H-O:=fun h=>Rat.not_le.2 (Al _) ((uT c).2 h);generalize eP L O S=x at*;generalize mC H O S=y at*;have s:=h.few;have F:=h.le;constructor
 ·refine Int.not_lt.1 fun o=>?_;have n:((x+1+(y+1):Int):Rat)<=((0:Int):Rat):=Rat.intCast_le_intCast.2 om;have f:=Rat.mul_le_mul_of_nonneg_right n (kV c);rw[Rat.intCast_add (x+1),Rat.add_mul,Rat.intCast_zero,Rat.zero_mul] at f;have D:=Rat.not_le.1 g;have E:=Rat.not_le.1 m;generalize ((x+1:Int):Rat)*S=u at*;generalize ((y+1:Int):Rat)*S=v at*
  grind
 refine Int.not_lt.1 fun o=>?_;have n:((101:Int):Rat)<=((x+y:Int):Rat):=Rat.intCast_le_intCast.2 om;have f:=Rat.mul_le_mul_of_nonneg_right n (kV c);rw[Rat.intCast_add,Rat.add_mul] at f;have e:((101:Int):Rat)*S=((100:Nat):Rat)*S+S:=by
  rw[show ((101:Int):Rat)=((100:Nat):Rat)+1 from Rat.intCast_add 100 1,Rat.add_mul,Rat.one_mul]
 rw[e] at f;generalize ((100:Nat):Rat)*S=w at*;generalize (x:Rat)*S=u at*;generalize (y:Rat)*S=v at*
 grind
theorem AtH.f1 (h:AtH L H O S):Fp (cT O) (cT L)=(cT (O-L),0):=Ks h.zO h.zL de de de
theorem AtH.f4 (h:AtH L H O S):Fp (cT H) (cT O)=(cT (H-O),0):=Ks h.zH h.zO de de de
theorem pR {S:Rat}(h:0<S):S≠0:=fun e=>Rat.lt_irrefl (e ▸ h)
theorem AtH.f2 (h:AtH L H O S):Jw (cT (O-L)) (cT S)=(cT ((O-L)/S),0):=Ci (h.zO.sub h.zL) h.zS de de de (pR h.pos)
theorem AtH.f5 (h:AtH L H O S):Jw (cT (H-O)) (cT S)=(cT ((H-O)/S),0):=Ci (h.zH.sub h.zO) h.zS de de de (pR h.pos)
theorem AtH.f3 (h:AtH L H O S):SR (cT ((O-L)/S))=(itoa (eP L O S),0):=Vb ((h.zO.sub h.zL).div h.zS (pR h.pos)) ⟨de,de⟩
theorem AtH.f6 (h:AtH L H O S):SR (cT ((H-O)/S))=(itoa (mC H O S),0):=Vb ((h.zH.sub h.zO).div h.zS (pR h.pos)) ⟨de,de⟩
theorem AtH.below (h:AtH L H O S):(eP L O S).natAbs*S.num.natAbs<10^165/\(eP L O S).natAbs<10^165:=by
 have c:=SI h.zO h.zL h.zS h.pos;have e:=Kg h.pos;exact ⟨c,bV (eA _ om) c⟩
theorem AtH.above (h:AtH L H O S):(mC H O S).natAbs<10^165:=by
 have c:=SI h.zH h.zO h.zS h.pos;have e:=Kg h.pos;exact bV (eA _ om) c
theorem AtH.f7 (h:AtH L H O S):G5 (itoa (eP L O S)) (itoa (mC H O S))=(itoa (eP L O S+mC H O S),0):=by
 have:=TU (p:=((eP L O S:Int):Rat)) (q:=((mC H O S:Int):Rat)) (k:=165) ⟨de,de⟩ (by rw[Rat.num_intCast,Rat.den_intCast,pX];exact h.below.2) (by rw[Rat.num_intCast,Rat.den_intCast,pX];exact h.above) (by rw[Rat.den_intCast,Rat.den_intCast];decide);rwa [<- Rat.intCast_add,oP,oP,oP] at this
theorem AtH.f9 (h:AtH L H O S):YA (itoa (eP L O S+mC H O S))=(eP L O S+mC H O S,0):=by
 obtain ⟨c,e⟩:=h.count;rw[O8 (k:=4) (by have:(10:Nat)^4=10000:=de;omega) ⟨de,de⟩,aD om]
theorem AtH.f10 (h:AtH L H O S):CK (itoa (eP L O S)) (cT S)=(cT (((eP L O S:Int):Rat)*S),0):=by
 have c:Sz 165 ((eP L O S:Int):Rat):=Oz h.below.2 de;have:=TW (k:=165) ⟨de,de⟩ c (h.zS.mono de) (by rw[Rat.num_intCast];exact h.below.1) (by rw[Rat.den_intCast,cX];exact (h.zS.mono (j:=165) de).2);rwa [oP] at this
theorem AtH.f11 (h:AtH L H O S):Fp (cT O) (cT (((eP L O S:Int):Rat)*S))=(cT (tP L O S),0):=by
 obtain ⟨m,e⟩:=Zs (eP L O S) S;have g:=h.below.1;have c:=h.zO;have f:=h.zS;refine TV (k:=249) ⟨de,de⟩ ?_ ?_ ?_
 ·refine bV (eK (Nat.le_of_lt c.1) (bA e (Nat.le_of_lt f.2))) ?_;decide
 ·refine bV (eK (bA m (Nat.le_of_lt g)) (Nat.le_of_lt c.2)) ?_;decide
 refine bV (eK (Nat.le_of_lt c.2) (bA e (Nat.le_of_lt f.2))) ?_;decide
theorem AtH.f12 (h:AtH L H O S){i:Nat}(hi:i<=1000):CK (cT S) (itoa i)=(cT (S*((i:Int):Rat)),0):=by
 have c:Sz 4 ((i:Int):Rat):=Oz (by rw[bZ];have:(10:Nat)^4=10000:=de;omega) de;have:=FO h.zS c de de de;rwa [oP] at this
theorem AtH.in (h:AtH L H O S){i:Nat}(hi:(i:Int)<Vc L H O S):L<=atX L O S i/\atX L O S i<=H:=by
 refine ⟨?_,(at_in h.pos i).2 hi⟩;have c:=(TS (L:=L) (O:=O) h.pos).1;have e:0<=S*((i:Int):Rat):=qQ (kV h.pos) (Rat.intCast_nonneg.2 om);show L<=tP L O S+ _;generalize S*((i:Int):Rat)=u at*
 grind
end
structure EvH (L H M:Rat):Prop where
 zL:Sz 82 L
 zH:Sz 82 H
 zM:Sz 82 M
 lt:L<H
 pos:0<M
section
variable {L H M:Rat}
abbrev Pz (L H M:Rat):Int:=G0 ((H-L)/M)
theorem EvH.e1 (h:EvH L H M):Fp (cT H) (cT L)=(cT (H-L),0):=Ks h.zH h.zL de de de
theorem EvH.e2 (h:EvH L H M):Jw (cT (H-L)) (cT M)=(cT ((H-L)/M),0):=Ci (h.zH.sub h.zL) h.zM de de de (pR h.pos)
theorem EvH.sq (h:EvH L H M):Sz 247 ((H-L)/M):=(h.zH.sub h.zL).div h.zM (pR h.pos)
theorem EvH.e3 (h:EvH L H M):SR (cT ((H-L)/M))=(itoa (Jv ((H-L)/M)),0):=Vb h.sq ⟨de,de⟩
theorem EvH.cpos (h:EvH L H M):0<Pz L H M:=TR h.lt h.pos
theorem XP {n:Int}(c:0<=n)(h:n<=5000):Sz 4 (n:Rat):=Oz (by have:(10:Nat)^4=10000:=de;omega) de
theorem EvH.st (h:EvH L H M)(f:Pz L H M<=4095):Sz 169 (Am L H M):=by
 have c:=h.cpos;have g:0<G0 ((H-L)/M):=c;have m:G0 ((H-L)/M)<=4095:=f;refine (h.zH.sub h.zL).div (XP om om) fun e=>?_;have:=Rat.intCast_eq_zero_iff.1 e;omega
theorem EvH.e4 (h:EvH L H M)(f:Pz L H M<=4095):Jw (cT (H-L)) (itoa (Pz L H M))=(cT (Am L H M),0):=by
 have c:=h.cpos
 have:=Ci (h.zH.sub h.zL) (XP (n:=Pz L H M) om om) de de de (fun e=>by
  have:=Rat.intCast_eq_zero_iff.1 e
  omega)
 rwa [oP] at this
theorem EvH.e5 (h:EvH L H M)(c:Pz L H M<=4095){k:Nat}(e:k<=5000):CK (cT (Am L H M)) (itoa k)=(cT (Am L H M*((k:Int):Rat)),0):=by
 have:=FO (h.st c) (XP (n:=(k:Int)) om om) de de de;rwa [oP] at this
theorem EvH.e6 (h:EvH L H M)(c:Pz L H M<=4095){k:Nat}(e:k<=5000):G5 (cT L) (cT (Am L H M*((k:Int):Rat)))=(cT (L+Am L H M*((k:Int):Rat)),0):=
 QC h.zL ((h.st c).mul (XP (n:=(k:Int)) om om)) de de de
theorem TP (q:Rat):Jv (-q)= -G0 q:=by
 apply Int.le_antisymm
 ·have g:=Dv (-q);have c:q<=((-Jv (-q):Int):Rat):=by rw[Rat.intCast_neg];exact Rat.le_neg_iff.1 (by grind)
  have e:=TQ q;have f:((G0 q-1:Int):Rat)<((-Jv (-q):Int):Rat):=Rat.not_le.1 fun h=>Rat.not_le.2 e (Rat.le_trans c h);have:=Rat.intCast_lt_intCast.1 f;omega
 rw[<- LR,Rat.intCast_neg];exact Rat.neg_le_neg (LP q)
theorem EvH.r1 (h:EvH L H M):Fp (cT L) (cT H)=(cT (L-H),0):=Ks h.zL h.zH de de de
theorem EvH.r2 (h:EvH L H M):Jw (cT (L-H)) (cT M)=(cT ((L-H)/M),0):=Ci (h.zL.sub h.zH) h.zM de de de (pR h.pos)
theorem neg_q:(L-H)/M= -((H-L)/M):=by
 rw[Rat.div_def,Rat.div_def,<- Rat.neg_mul];congr 1
 grind
theorem EvH.sq' (h:EvH L H M):Sz 247 ((L-H)/M):=(h.zL.sub h.zH).div h.zM (pR h.pos)
theorem EvH.r3 (h:EvH L H M):SR (cT ((L-H)/M))=(itoa (-Pz L H M),0):=by
 rw[Vb h.sq' ⟨de,de⟩,neg_q,TP]
theorem EvH.r4 (h:EvH L H M)(m:Pz L H M<=4095):Jw (cT (L-H)) (itoa (-Pz L H M))=(cT (Am L H M),0):=by
 have g:=h.cpos;have z:Sz 4 ((-Pz L H M:Int):Rat):=Oz (by have:(10:Nat)^4=10000:=de;omega) de
 have:=Ci (h.zL.sub h.zH) z de de de (fun e=>by
  have:=Rat.intCast_eq_zero_iff.1 e
  omega)
 rw[oP] at this;rw[this];unfold Am;have c:((Pz L H M:Int):Rat)≠0:=fun e=>by
  have:=Rat.intCast_eq_zero_iff.1 e;omega
 have e1:(H-L)/((Pz L H M:Int):Rat)*((Pz L H M:Int):Rat)=H-L:=mH c;have f:((-Pz L H M:Int):Rat)≠0:=fun e=>by
  have:=Rat.intCast_eq_zero_iff.1 e;omega
 have e2:(L-H)/((-Pz L H M:Int):Rat)*((-Pz L H M:Int):Rat)=L-H:=mH f;rw[Rat.intCast_neg] at e2 ⊢;have e3:((L-H) / -((Pz L H M:Int):Rat)-(H-L)/((Pz L H M:Int):Rat))*((Pz L H M:Int):Rat)=0:=by grind
 rcases Rat.mul_eq_zero.1 e3 with e | e
 ·congr 2
  show _=(H-L)/((Pz L H M:Int):Rat)
  grind
 exact absurd e c
end
def grS1 (a:Bx):Prop:=FQ a\/(82<a.length/\dD a=0)
def grtS (l:List (Bx)):Prop:=(∃a∈l,grS1 a)\/16<l.length
instance (l:List (Bx)):Decidable (grtS l):=Cp
theorem Lm.sub {l m:List (Bx)}(h:Lm l)(e:∀a∈m,a∈l):Lm m:=fun a c=>h a (e a c)
def LN (s:Bx):Prop:=20<s.length\/dD s≠0
instance (s:Bx):Decidable (LN s):=Cp
noncomputable instance:DecidablePred LN:=fun s=>Cp
def X5 (l:List (Bx)):Prop:=∀a∈l,a.length<=20/\dD a=0
instance (l:List (Bx)):Decidable (X5 l):=Cp
def fineS (l:List (Bx)):Prop:=(l.length<=16/\X5 l)/\ckS l=0
instance (l:List (Bx)):Decidable (fineS l):=Cp
def mnP (q:Bx):Prop:=(vF q [53,48,48,48]).2=0/\0<(vF q [53,48,48,48]).1
instance (q:Bx):Decidable (mnP q):=Cp
def fwP (lo hi s:Bx):Prop:=(Fp hi lo).2≠0\/(Jw (Fp hi lo).1 s).2≠0\/(vF (Jw (Fp hi lo).1 s).1 [49,48,48]).2≠0\/(vF (Jw (Fp hi lo).1 s).1 [49,48,48]).1<=0\/mnP (Jw (Fp hi lo).1 s).1
instance (lo hi s:Bx):Decidable (fwP lo hi s):=Cp
theorem SJ (n:Nat):itoa (n:Int)=decDigits n:=by
 unfold itoa;rw[aD om,aU]
theorem O9 (n:Nat):cT ((n:Int):Rat)=decDigits n:=by rw[oP,SJ]
theorem n4:cT 4= [52]:=(O9 4).trans (kZ de)
theorem P2 {n:Int}{C:Nat->Prop}(j:Nat)(e:n=j)(h:C j):Ix n C:=⟨fun i c=>by
 have:j=i:=om
 subst this;exact h⟩
def CmpAll (a b:List (Bx)):Prop:=∀x∈a,∀y∈b,(vF x y).2=0
theorem CmpAll.drop {a b:List (Bx)}(h:CmpAll a b)(i j:Nat):CmpAll (a.drop i) (b.drop j):=fun x c y e=>h x (gR c) y (gR e)
def npP (d:Bx):Prop:=¬((vF [48] d).2=0/\(vF [48] d).1<0)
instance (s:Bx):Decidable (npP s):=Cp
noncomputable instance:DecidablePred npP:=fun s=>Cp
def prP (lo hi s:Bx):Prop:=X5 [lo,hi,s]/\cH lo<=cH hi/\0<cH s/\(cH hi-cH lo)/cH s<=100
instance (lo hi s:Bx):Decidable (prP lo hi s):=Cp
section
variable {L H M:Rat}
end
def eqV (v s:Bx):Prop:=v=s
instance (v:Bx):DecidablePred (eqV v):=fun s=>Cp
instance (v:Bx) (l:List (Bx)):Decidable (v∈l):=Cp
def niP (l:List (Bx))(x:Bx):Prop:=¬x∈l
instance (l:List (Bx)) (x:Bx):Decidable (niP l x):=Cp
instance (l:List (Bx)):DecidablePred (niP l):=fun s=>Cp
section
variable {α:Type} [DecidableEq α]
theorem HQ {α:Type}{xs:List α}{m:Nat}(d:α)(h:m<xs.length):xs.take (m+1)=xs.take m++ [xs.getD m d]:=by
 rw[cI h];simp[aB,h]
end
abbrev Str:=Bx
def De (a b:Str):Int:=(vF a b).1
abbrev Gp:=Int × Int
abbrev Bar:=Int × Int × Int × Int × Int × List Gp
abbrev tG:Ty:=.pair (.int .i64) (.int .i64)
abbrev tB:Ty:=.pair (.int .i64) (.pair (.int .i64) (.pair (.int .i64) (.pair (.int .i64) (.pair (.int .i64) (.slice tG)))))
def mD (n a b:Int):Bool:=decide (n<a\/b<n)
def No (len:Int)(gs:List Gp)(i:Nat):Int:=if (gs.getD i (0,0)).1<0\/len<(gs.getD i (0,0)).2\/(gs.getD i (0,0)).2<=(gs.getD i (0,0)).1 then 2 else if 0<i/\(gs.getD i (0,0)).1<=(gs.getD (i-1) (0,0)).2 then 10 else 0
def Ja (len:Int)(gs:List Gp):Nat->Nat->Int
 | 0,_=>0
 | n+1,i=>if No len gs i≠0 then No len gs i else Ja len gs n (i+1)
def An (len:Int)(gs:List Gp):Int:=Ja len gs gs.length 0
theorem Bv {len:Int}{c:List Gp}{i:Nat}(hi:i<c.length)(h:No len c i≠0):Ja len c (c.length-i) i=No len c i:=by
 obtain ⟨n,e⟩:∃n,c.length-i=n+1:=⟨c.length-i-1,om⟩;rw[e];exact aE h
theorem Zu {len:Int}{c:List Gp}{i:Nat}(hi:i<c.length)(h:No len c i=0):Ja len c (c.length-i) i=Ja len c (c.length-(i+1)) (i+1):=by
 obtain ⟨n,e⟩:∃n,c.length-i=n+1:=⟨c.length-i-1,om⟩;rw[e,show c.length-(i+1)=n by omega];exact aD fun f=>f h
theorem Rg {len:Int}{c:List Gp}:Ja len c (c.length-c.length) c.length=0:=by rw[kW];rfl
def Np (b:Bar):Int:=
 if mD b.1 1 1000 || mD b.2.1 1 1000 || mD b.2.2.1 1 65536 || mD b.2.2.2.1 0 4096 || mD b.2.2.2.2.1 0 1073741824 then 2
 else if 16<b.2.2.2.2.2.length then 4 else An b.2.2.1 b.2.2.2.2.2
def yU (l:List Bar):Nat->Nat->Int
 | 0,_=>0
 | n+1,i=>if Np (l.getD i (0,0,0,0,0,[]))≠0 then Np (l.getD i (0,0,0,0,0,[])) else yU l n (i+1)
def pS (l:List Bar):Int:=if 64<l.length then 4 else yU l l.length 0
theorem Rh {l:List Bar}{i:Nat}(hi:i<l.length)(h:Np (l.getD i (0,0,0,0,0,[]))≠0):yU l (l.length-i) i=Np (l.getD i (0,0,0,0,0,[])):=by
 obtain ⟨n,e⟩:∃n,l.length-i=n+1:=⟨l.length-i-1,om⟩;rw[e];exact aE h
theorem Zv {l:List Bar}{i:Nat}(hi:i<l.length)(h:Np (l.getD i (0,0,0,0,0,[]))=0):yU l (l.length-i) i=yU l (l.length-(i+1)) (i+1):=by
 obtain ⟨n,e⟩:∃n,l.length-i=n+1:=⟨l.length-i-1,om⟩;rw[e,show l.length-(i+1)=n by omega];exact aD fun c=>c h
theorem Ri {l:List Bar}:yU l (l.length-l.length) l.length=0:=by rw[kW];rfl
def GM (f:Nat->Int):Nat->Nat->Int
 | 0,_=>0
 | n+1,i=>if f i=0 then GM f n (i+1) else f i
def rO (f:Nat->Int)(n:Nat):Int:=GM f n 0
theorem Ra (f:Nat->Int):∀(n i k:Nat),i<=k->k<i+n->(∀j,i<=j->j<k->f j=0)->f k≠0->GM f n i=f k
 | 0,i,k,h1,h2,_,_=>om
 | n+1,i,k,h1,h2,h3,h4=>by
  rw[GM];by_cases e:i=k
  ·subst e;rw[aD h4]
  rw[aE (h3 i (aI _) om)];exact Ra f n (i+1) k om om (fun j a b=>h3 j om b) h4
theorem eZ {f:Nat->Int}{n k:Nat}(h:k<n)(c:∀j,j<k->f j=0)(e:f k≠0):rO f n=f k:=Ra f n 0 k (aF _) om (fun j _ b=>c j b) e
theorem Yw (f:Nat->Int):∀(n i:Nat),(∀j,i<=j->j<i+n->f j=0)->GM f n i=0
 | 0,_,_=>rfl
 | n+1,i,h=>by
  rw[GM,aE (h i (aI _) om)];exact Yw f n (i+1) fun j a b=>h j om om
theorem jL {f:Nat->Int}{n:Nat}(h:∀j,j<n->f j=0):rO f n=0:=Yw f n 0 fun j _ b=>h j om
theorem Rb {f:Nat->Int}{n:Nat}(h:rO f n=0):∀j,j<n->f j=0:=by
 intro j
 induction j using Nat.strongRecOn with
 | ind j ih=>
  intro c;apply aS;intro e;exact e (by rw[<- eZ c (fun k g=>ih k g om) e];exact h)
def Ai (c:Int):Prop:=¬(((c<97\/122<c)/\(c<65\/90<c))/\(c<48\/57<c))
instance (c:Int):Decidable (Ai c):=by unfold Ai;exact inferInstance
def namP (s:Str):Prop:=(∀i,i<s.length->Ai (bJ s i))/\0<s.length/\s.length<=16
instance (s:Str):Decidable (namP s):=by unfold namP;exact inferInstance
def gL (n a b:Int):Prop:=a<=n/\n<=b
instance (n a b:Int):Decidable (gL n a b):=by unfold gL;exact inferInstance
def rP (l:List Int)(i:Nat):Int:=if ¬gL (l.getD i 0) 0 1048576 then 2 else if 0<i/\l.getD i 0<=l.getD (i-1) 0 then 10 else 0
def purE (l:List Int):Int:=if 16<l.length then 4 else rO (rP l) l.length
abbrev Opn:=Int × Str × Str × Str × Str
abbrev Ui:Ty:=.pair (.int .i64) (.pair .str qk)
abbrev kG:Opn:=(0,[],[],[],[])
def Ni (a:Str):Int:=if dD a=0 then (if 12<(digs (qI a).1).length\/12<(qI a).2.length then 4 else 0) else dD a
def xW (l:List Str):Int:=if rO (fun i=>dD (l.getD i [])) l.length=0 then rO (fun i=>Ni (l.getD i [])) l.length else rO (fun i=>dD (l.getD i [])) l.length
def xY (o:Opn):Int:=
 if xW [o.2.1,o.2.2.1,o.2.2.2.1,o.2.2.2.2]=0 then (if 0<=De o.2.1 o.2.2.1\/0<=De o.2.2.2.1 o.2.2.2.2 then 10 else 0) else xW [o.2.1,o.2.2.1,o.2.2.2.1,o.2.2.2.2]
def uQ (a b:Opn):Prop:=a.1=b.1/\De a.2.1 b.2.2.1<0/\De b.2.1 a.2.2.1<0/\De a.2.2.2.1 b.2.2.2.2<0/\De b.2.2.2.1 a.2.2.2.2<0
def disE (l:List Opn):Int:=if 32<l.length then 4 else rO (fun i=>xY (l.getD i kG)) l.length
def nO (l:List Opn):Prop:=∀i,i<l.length->∀k,k<i->¬uQ (l.getD i kG) (l.getD k kG)
def vE (R:List (List Sid))(l:List Opn):Int:=
 if disE l=0 then (if planE R=0 then (if ∀i,i<l.length->gL (l.getD i kG).1 0 ((fU R R.length:Int)-1) then (open Classical in if nO l then 0 else 28) else 2) else 1) else disE l
abbrev Siz:=Int × Int × Int
abbrev Uj:Ty:=.pair (.int .i64) qj
abbrev pB:Siz:=(0,0,0)
def wT (l:List Siz)(i:Nat):Int:=
 if (l.getD i pB).1<1\/13<=(l.getD i pB).1 then 8 else if min (l.getD i pB).2.1 (l.getD i pB).2.2<1\/1000<max (l.getD i pB).2.1 (l.getD i pB).2.2 then 2 else if ∀k,k<i->(l.getD k pB).1≠(l.getD i pB).1 then 0 else 7
def timE (l:List Siz):Int:=rO (wT l) l.length
abbrev VN:=Int × Int × Int × Int
def xZ (t:VN):Prop:=gL t.1 1 2000/\gL t.2.1 1 2000/\gL t.2.2.1 0 (t.2.1-1)/\gL t.2.2.2 0 1000
instance (t:VN):Decidable (xZ t):=by unfold xZ;exact inferInstance
abbrev Lod:=Int × Int × Str
abbrev Uk:Ty:=.pair (.int .i64) ql
abbrev Jq:Lod:=(0,0,[])
def sX (a:Str):Int:=if dD a=0 then (if 20<(digs (qI a).1).length\/20<(qI a).2.length then 4 else if a.headD 0=45 then 2 else 0) else dD a
def Gr (x:Lod):Int:=if x.1<1\/3<x.1 then 8 else if x.2.1 < -1\/24<=x.2.1 then 2 else sX x.2.2
def qF (l:List Lod):Int:=if 64<l.length then 4 else rO (fun i=>Gr (l.getD i Jq)) l.length
abbrev Alw:=Int × Int × Int × Int × Int
abbrev Ul:Ty:=.pair (.int .i64) qf
abbrev Cj:Alw:=(0,0,0,0,0)
def Um (x:Alw):Prop:=((gL x.1 1 1000/\gL x.2.1 1 1000)/\gL x.2.2.1 1 65536/\gL x.2.2.2.1 0 1048576)/\gL x.2.2.2.2 1 65536
instance (x:Alw):Decidable (Um x):=by unfold Um;exact inferInstance
def Jr (a b:Alw):Prop:=a.1<b.1\/(a.1=b.1/\(a.2.1<b.2.1\/(a.2.1=b.2.1/\(a.2.2.1<b.2.2.1\/(a.2.2.1=b.2.2.1/\a.2.2.2.1<b.2.2.2.1)))))
instance (a b:Alw):Decidable (Jr a b):=by unfold Jr;exact inferInstance
def Dr (l:List Alw)(i:Nat):Int:=if ¬Um (l.getD i Cj) then 2 else if 0<i/\¬Jr (l.getD (i-1) Cj) (l.getD i Cj) then 10 else 0
def wU (l:List Alw):Int:=if 4096<l.length then 4 else rO (Dr l) l.length
structure JobV where
 nm:Str
 pl:List (List Sid)
 og:Int
 sp:Int
 pu:List Int
 op:List Opn
 sz:List Siz
 br:List Bar
 kf:Int
 t1:Int
 t2:Int
 t3:Int
 t4:Int
 lo:List Lod
 al:List Alw
def wV (pE:Int)(j:JobV)(oE:Int):Int:=
 if ¬namP j.nm then 13 else if pE≠0 then pE else if ¬gL j.og 0 65536\/¬gL j.sp 1 65536 then 2
 else if purE j.pu≠0 then purE j.pu else if oE≠0 then oE else if timE j.sz≠0 then timE j.sz else if pS j.br≠0 then pS j.br
 else if ¬gL j.kf 0 100 then 2 else if ¬xZ (j.t1,j.t2,j.t3,j.t4) then 2 else 0
def gQ (j:JobV):Int:=if wV (planE j.pl) j (vE j.pl j.op)≠0 then wV (planE j.pl) j (vE j.pl j.op) else if qF j.lo≠0 then qF j.lo else wU j.al
def Un (n:Int):Int:=if n<0 then -1 else if 0<n then 1 else 0
theorem oC (n:Int):(n<0/\Un n= -1)\/(0<n/\Un n=1)\/(n=0/\Un n=0):=by
 unfold Un;by_cases h:n<0
 ·exact .inl ⟨h,aE h⟩
 by_cases c:0<n
 ·exact .inr (.inl ⟨c,by rw[aD h,aE c]⟩)
 exact .inr (.inr ⟨om,by rw[aD h,aD c]⟩)
def uR (r:List Sid)(i:Nat):Int:=Un ((jD r i).1-(kE r i).1)
def uS (r:List Sid)(i:Nat):Int:=Un ((jD r i).2.1-(kE r i).2.1)
def JO (r:List Sid)(i:Nat):Int:=uR r (Wb r.length i)*uS r i-uS r (Wb r.length i)*uR r i
def Yx (r:List Sid)(i:Nat):Prop:=uR r i*uR r i+uS r i*uS r i=1/\JO r i≠0
instance (r:List Sid) (i:Nat):Decidable (Yx r i):=by unfold Yx;exact inferInstance
def B7 (r:List Sid):Prop:=4<=r.length/\∀i,i<r.length->Yx r i
instance (r:List Sid):Decidable (B7 r):=by unfold B7;exact inferInstance
theorem nx_bf {n i:Nat}(h:i<n):L6 n (Wb n i)=i:=by
 unfold L6 Wb;by_cases e:i=0
 ·subst e;rw[aE rfl];split<;>omega
 rw[aD e];split<;>omega
theorem JP {r:List Sid}{i:Nat}(h:i<r.length):uR r (Wb r.length i)=Un ((kE r i).1-(Dd r i).1)/\uS r (Wb r.length i)=Un ((kE r i).2.1-(Dd r i).2.1):=by
 unfold uR uS jD kE Dd;rw[nx_bf h];exact ⟨rfl,rfl⟩
theorem Uo {x y:Int}(h:Un x*Un x+Un y*Un y=1):(x=0/\y≠0)\/(x≠0/\y=0):=by
 rcases oC x with ⟨a,e⟩ | ⟨a,e⟩ | ⟨a,e⟩<;>rcases oC y with ⟨b,f⟩ | ⟨b,f⟩ | ⟨b,f⟩<;>rw[e,f] at h<;>omega
theorem OO {r:List Sid}(h:B7 r):Ea r:=by
 refine ⟨h.1,fun i hi=>?_⟩;obtain ⟨f,e⟩:=h.2 i hi;obtain ⟨g, -⟩:=h.2 _ (He hi);obtain ⟨e1,e2⟩:=JP hi;unfold JO at e;rw[e1,e2] at e;rw[e1,e2] at g;unfold uR uS at f e;unfold CP;generalize (jD r i).1-(kE r i).1=wx at*;generalize (jD r i).2.1-(kE r i).2.1=wy at*;generalize (kE r i).1-(Dd r i).1=vx at*;generalize (kE r i).2.1-(Dd r i).2.1=vy at*;have z:Un 0=0:=rfl;rcases Uo f with ⟨a,b⟩ | ⟨a,b⟩<;>rcases Uo g with ⟨c,d⟩ | ⟨c,d⟩
 ·subst a c;rw[z] at e;simp at e
 ·exact ⟨⟨fun _=>b,fun _=>a⟩,⟨fun q=>absurd q c,fun q=>absurd a q⟩⟩
 ·exact ⟨⟨fun q=>absurd q a,fun q=>absurd b q⟩,⟨fun _=>a,fun _=>c⟩⟩
 subst b d;rw[z] at e;simp at e
theorem JQ {r:List Sid}(h:B7 r){i:Nat}(hi:i<r.length):¬Jy r i->JO r i<0:=by
 obtain ⟨n,g⟩:=h.2 i hi;obtain ⟨o, -⟩:=h.2 _ (He hi);obtain ⟨e1,e2⟩:=JP hi;unfold JO at g ⊢;rw[e1,e2] at g ⊢;rw[e1,e2] at o;unfold uR uS at n g ⊢;unfold Jy;generalize (jD r i).1-(kE r i).1=wx at*;generalize (jD r i).2.1-(kE r i).2.1=wy at*;generalize (kE r i).1-(Dd r i).1=vx at*;generalize (kE r i).2.1-(Dd r i).2.1=vy at*;have z:Un 0=0:=rfl;intro m;rcases Uo n with ⟨a,b⟩ | ⟨a,b⟩<;>rcases Uo o with ⟨c,d⟩ | ⟨c,d⟩
 ·subst a c;rw[z] at g;simp at g
 ·subst a d;rw[z] at g ⊢;simp only[tX,dO,Int.sub_zero] at g m ⊢;rcases oC vx with ⟨p,e⟩ | ⟨p,e⟩ | ⟨p,e⟩<;>rcases oC wy with ⟨q,f⟩ | ⟨q,f⟩ | ⟨q,f⟩<;>rw[e,f] at g ⊢ <;>first | (exfalso;omega) | skip
  ·exact absurd (Int.mul_pos_of_neg_of_neg p q) m
  all_goals first | decide | (exact absurd (Int.mul_pos p q) m)
 ·subst b c;rw[z] at g ⊢;simp only[tX,dO,Int.zero_sub] at g m ⊢;rcases oC vy with ⟨p,e⟩ | ⟨p,e⟩ | ⟨p,e⟩<;>rcases oC wx with ⟨q,f⟩ | ⟨q,f⟩ | ⟨q,f⟩<;>rw[e,f] at g ⊢ <;>first | (exfalso;omega) | decide | skip
  ·have:=Int.mul_neg_of_neg_of_pos p q;exact absurd (show 0 < -(vy*wx) by omega) m
  have:=Int.mul_neg_of_pos_of_neg p q;exact absurd (show 0 < -(vy*wx) by omega) m
 subst b d;rw[z] at g;simp at g
def U9 (R:List (List Sid))(m i:Nat):YM:=L7 (kE (R.getD m []) i) (jD (R.getD m []) i)
def S6 (n m i s k:Nat):Prop:=m=s/\(k<=i\/k=i+1\/(i=0/\k+1=n))
instance (n m i s k:Nat):Decidable (S6 n m i s k):=by unfold S6;exact inferInstance
def Up (R:List (List Sid))(m i s k:Nat):Prop:=¬S6 (R.getD m []).length m i s k/\zG (U9 R m i) (U9 R s k)
instance (R:List (List Sid)) (m i s k:Nat):Decidable (Up R m i s k):=by unfold Up;exact inferInstance
def S7 (R:List (List Sid)):Prop:=∀m,m<R.length->∀i,i<(R.getD m []).length->∀s,m<=s->s<R.length->∀k,k<(R.getD s []).length->¬Up R m i s k
theorem S8 (R:List (List Sid)):∀(m g:Nat),g<fU R m->∃a b,a<m/\b<(R.getD a []).length/\g=fU R a+b/\(Kl R m).getD g (0,0)=((a:Int),(b:Int))/\(Wc R m).getD g PO=U9 R a b
 | 0,g,h=>absurd h (aT _)
 | m+1,g,h=>by
  by_cases e:g<fU R m
  ·obtain ⟨a,b,x,f,n,o,s⟩:=S8 R m g e;refine ⟨a,b,om,f,n,?_,?_⟩
   ·rw[Kl,aB,bN (by rw[yF];exact e),<- aB];exact o
   rw[Wc,aB,bN (by rw[yE];exact e),<- aB];exact s
  have u:g<fU R m+(R.getD m []).length:=h;refine ⟨m,g-fU R m,om,om,om,?_,?_⟩
  ·rw[Kl,aB,cN (by rw[yF];omega),yF];have c:g-fU R m<(R.getD m []).length:=om;simp only[aB] at c;simp[L8,c]
  rw[Wc,aB,cN (by rw[yE];omega),yE];have c:g-fU R m<(R.getD m []).length:=om;simp only[aB] at c;simp[NY,c,U9,kE,jD]
theorem GN {a b:YM}(h:zG a b):zG b a:=⟨h.2.1,h.1,h.2.2.2,h.2.2.1⟩
theorem nc_cr {R:List (List Sid)}(h:S7 R):¬NZ R:=by
 unfold NZ;refine fun q=>q fun i hi k J C=>?_;obtain ⟨f,g⟩:=C;obtain ⟨a,b,o,s,E,u,x⟩:=S8 R R.length i hi;obtain ⟨c,d,y,z,F,A,B⟩:=S8 R R.length k om;rw[x,B] at g;rw[u,A] at f;have m:c<=a:=by
  apply fF;intro D;have:=Ap R (show a+1<=c by omega);rw[fU] at this;omega
 refine h c y d z a m o b s ⟨fun n=>?_,GN g⟩;obtain ⟨e,n⟩:=n;subst e;refine f ⟨rfl,?_⟩;show (b:Int)-(d:Int)=1\/(b:Int)-(d:Int)=((R.getD c []).length:Int)-1;omega
def GO (R:List (List Sid))(m:Nat):Prop:=Hh (R.getD m []) (R.getD m []).length<0/\∀s,s<R.length->s=m\/((pD (R.getD s []) ((R.getD m []).getD 0 qX).1 ((R.getD m []).getD 0 qX).2.1 (R.getD s []).length=true)↔s=0)
def Yy (R:List (List Sid)):Prop:=0<Hh (R.getD 0 []) (R.getD 0 []).length/\∀m,1<=m->m<R.length->GO R m
theorem OQ {R:List (List Sid)}(h:Yy R):Vm R:=by
 intro m f;by_cases e:m=0
 ·subst e;exact ⟨⟨fun _=>rfl,fun _=>h.1⟩,.inl rfl⟩
 obtain ⟨g,c⟩:=h.2 m om f;exact ⟨⟨fun q=>absurd q om,fun q=>absurd q e⟩,.inr c⟩
def S9 (r:List Sid)(i:Nat):Prop:=JO r i<0/\((Dd r i).2.2.2.2.1=true\/(kE r i).2.2.2.2.1=true\/¬(Dd r i).2.2.2.2.2.1=(kE r i).2.2.2.2.2.1)
instance (r:List Sid) (i:Nat):Decidable (S9 r i):=by unfold S9;exact inferInstance
def QT (R:List (List Sid)):Prop:=∀m,m<R.length->∀i,i<(R.getD m []).length->¬S9 (R.getD m []) i
theorem jq_jo {R:List (List Sid)}(o:∀r∈R,B7 r)(h:QT R):PP R:=by
 intro m e i hi g;obtain ⟨f,c⟩:=g;have n:R.getD m []∈R:=by simp[aB,e]
 refine h m e i hi ⟨JQ (o _ n) hi f,?_⟩;rcases c with c | c | c
 ·exact .inr (.inl c)
 ·exact .inl c
 exact .inr (.inr fun q=>c q.symm)
open Classical in
def wW (R:List (List Sid)):Int:=
 if R.length=0 then 5 else if ∃r∈R,r.length=0 then 5 else if 24<fU R R.length then 4 else if ∃s∈R.flatten,¬Dz s then 2
 else if ∃r∈R,¬B7 r then 14 else if ¬S7 R then 15 else if ¬Yy R\/¬(QT R/\Wd R) then 14 else 0
theorem OS {R:List (List Sid)}(f:R.length≠0)(h:¬ ∃r∈R,r.length=0):fU R R.length≠0:=by
 have g:=Ap R (show 1<=R.length by omega);have m:fU R 1=(R.getD 0 []).length:=by rw[fU,fU];omega
 have c:R.getD 0 []∈R:=by
  have:0<R.length:=om;simp[aB,this]
 intro e;exact h ⟨_,c,om⟩
theorem Nj {R:List (List Sid)}(h:wW R=0):planE R=0:=by
 unfold wW at h;by_cases e:R.length=0
 ·rw[aE e] at h;exact absurd h de
 rw[aD e] at h;by_cases c:∃r∈R,r.length=0
 ·rw[aE c] at h;exact absurd h de
 rw[aD c] at h;by_cases f:24<fU R R.length
 ·rw[aE f] at h;exact absurd h de
 rw[aD f] at h;by_cases g:∃s∈R.flatten,¬Dz s
 ·rw[aE g] at h;exact absurd h de
 rw[aD g] at h;by_cases m:∃r∈R,¬B7 r
 ·rw[aE m] at h;exact absurd h de
 rw[aD m] at h;by_cases n:¬S7 R
 ·rw[aE n] at h;exact absurd h de
 rw[aD n] at h;by_cases o:¬Yy R\/¬(QT R/\Wd R)
 ·rw[aE o] at h;exact absurd h de
 have y:∀r∈R,B7 r:=fun r u=>aS fun q=>m ⟨r,u,q⟩;have z:Yy R:=aS fun q=>o (.inl q);have x:QT R/\Wd R:=aS fun q=>o (.inr q);unfold planE;rw[aD c,aD (OS e c),aD f,aD g,aD,aD (nc_cr (bG.1 n)),aD]
 ·rintro (q | q | q)
  ·exact q (OQ z)
  ·exact q (jq_jo y x.1)
  exact q x.2
 rintro ⟨r,u,q⟩;exact q (OO (y r u))
abbrev dR:=Int × Int × Sid × Opn × Siz × Bar × Lod × Alw × VN × Int × Str
abbrev tTil:Ty:=.pair (.int .i64) qh
abbrev zC:Ty:=.pair (.int .i64) (.pair (.int .i64) (.pair Hd (.pair Ui (.pair Uj (.pair tB (.pair Uk (.pair Ul (.pair tTil ql))))))))
abbrev Kd:Bar:=(0,0,0,0,0,[])
abbrev Nk:VN:=(0,0,0,0)
def Pw (e:dR):dR:=
 match e with
 | (k,ix,s,o,z,b,l,a,t,n,x)=>
  if k=1 then (k,0,qX,kG,pB,Kd,Jq,Cj,Nk,0,x) else if k=2 then (k,ix,s,kG,pB,Kd,Jq,Cj,Nk,0,[])
  else if k=3\/k=12 then (k,ix,qX,kG,pB,Kd,Jq,Cj,Nk,n,[]) else if k=4\/k=8 then (k,0,qX,kG,pB,Kd,Jq,Cj,Nk,n,[])
  else if k=5 then (k,ix,qX,o,pB,Kd,Jq,Cj,Nk,0,[]) else if k=6 then (k,0,qX,kG,z,Kd,Jq,Cj,Nk,0,[])
  else if k=7 then (k,ix,qX,kG,pB,b,Jq,Cj,Nk,0,[]) else if k=9 then (k,0,qX,kG,pB,Kd,Jq,Cj,t,0,[])
  else if k=10 then (k,ix,qX,kG,pB,Kd,l,Cj,Nk,0,[]) else if k=11 then (k,0,qX,kG,pB,Kd,Jq,a,Nk,0,[])
  else (k,0,qX,kG,pB,Kd,Jq,Cj,Nk,0,[])
open Classical in
def zD (e:dR):Int:=if e.1<1\/12<e.1 then 8 else if e=Pw e then 0 else 9
section
variable {α:Type}
def kP (l:List α)(i:Int)(x:α):List α × Int:=if i<0\/(l.length:Int)<i then ([],6) else if i=l.length then (l++ [x],0) else (l.set i.toNat x,0)
def lB (l:List α)(i:Int):List α × Int:=if i<0\/(l.length:Int)<=i then ([],6) else (l.eraseIdx i.toNat,0)
def OT (l:List α)(i:Nat)(x:α):List α:=l.take i++x::l.drop i
end
def Uq (f:Nat->Bool)(i j:Nat):Nat:=if h:i<j then (if f ((i+j)/2) then Uq f ((i+j)/2+1) j else Uq f i ((i+j)/2)) else i
termination_by j-i
decreasing_by all_goals omega
theorem JR (f:Nat->Bool)(i j:Nat)(c:i<=j):i<=Uq f i j/\Uq f i j<=j:=by
 fun_induction Uq f i j with
 | case1 i j h hf ih=>have:=ih om;omega
 | case2 i j h hf ih=>have:=ih om;omega
 | case3 i j h=>omega
def OU (R:List (List Sid))(n:Nat)(s:Sid)(m:Nat):List Sid:=if fU R m<=n then (R.getD m []).set (n-fU R m) s else R.getD m []
def Ck (R:List (List Sid))(n:Nat)(s:Sid)(m:Nat):List (List Sid):=(List.range m).map (OU R n s)
def Ff (R:List (List Sid))(i:Int)(s:Sid):List (List Sid) × Int:=if i<0\/(fU R R.length:Int)<=i then (R,6) else (Ck R i.toNat s R.length,0)
def Yz (l:List Int)(x:Int):Nat:=Uq (fun h=>decide (l.getD h 0<x)) 0 l.length
def Fg (l:List Int)(x:Int):List Int × Int:=if Yz l x<l.length/\l.getD (Yz l x) 0=x then (l,7) else (OT l (Yz l x) x,0)
def Cl (l:List Siz)(k:Int):Nat:=l.findIdx fun s=>decide (s.1=k)
def Js (a b:Int):Int:=if a<b then -1 else if b<a then 1 else 0
def JS (a b:Alw):Int:=if Js a.1 b.1≠0 then Js a.1 b.1 else if Js a.2.1 b.2.1≠0 then Js a.2.1 b.2.1 else if Js a.2.2.1 b.2.2.1≠0 then Js a.2.2.1 b.2.2.1 else Js a.2.2.2.1 b.2.2.2.1
def EA (l:List Alw)(x:Alw):Nat:=Uq (fun h=>decide (JS (l.getD h Cj) x<0)) 0 l.length
def GP (l:List Alw)(x:Alw):List Alw:=if EA l x<l.length/\JS (l.getD (EA l x) Cj) x=0 then l.set (EA l x) x else OT l (EA l x) x
def mX (j:JobV)(k ix:Int):JobV × Int:=
 if k=4 then ({ j with pu:=(lB j.pu ix).1 },(lB j.pu ix).2) else if k=5 then ({ j with op:=(lB j.op ix).1 },(lB j.op ix).2)
 else if k=6 then ({ j with sz:=(lB j.sz ix).1 },(lB j.sz ix).2) else if k=7 then ({ j with br:=(lB j.br ix).1 },(lB j.br ix).2)
 else if k=10 then ({ j with lo:=(lB j.lo ix).1 },(lB j.lo ix).2) else if k=11 then ({ j with al:=(lB j.al ix).1 },(lB j.al ix).2) else (j,8)
def zE (j:JobV)(e:dR):JobV × Int:=
 match e with
 | (k,ix,s,o,z,b,l,a,t,n,x)=>
  if k=1 then ({ j with nm:=x },0) else if k=2 then ({ j with pl:=(Ff j.pl ix s).1 },(Ff j.pl ix s).2) else if k=3 then ({ j with og:=ix,sp:=n },0)
  else if k=4 then ({ j with pu:=(Fg j.pu n).1 },(Fg j.pu n).2) else if k=5 then ({ j with op:=(kP j.op ix o).1 },(kP j.op ix o).2)
  else if k=6 then ({ j with sz:=(kP j.sz (Cl j.sz z.1) z).1 },(kP j.sz (Cl j.sz z.1) z).2) else if k=7 then ({ j with br:=(kP j.br ix b).1 },(kP j.br ix b).2)
  else if k=8 then ({ j with kf:=n },0) else if k=9 then ({ j with t1:=t.1,t2:=t.2.1,t3:=t.2.2.1,t4:=t.2.2.2 },0)
  else if k=10 then ({ j with lo:=(kP j.lo ix l).1 },(kP j.lo ix l).2) else if k=11 then ({ j with al:=GP j.al a },0) else mX j n ix
def Ur:JobV:=⟨[],[],0,0,[],[],[],[],0,0,0,0,0,[],[]⟩
def mA (j:JobV)(e:dR):JobV × Int:=
 if gQ j≠0 then (Ur,1) else if zD e≠0 then (Ur,zD e) else if (zE j e).2≠0 then (Ur,(zE j e).2) else if gQ (zE j e).1≠0 then (Ur,gQ (zE j e).1) else ((zE j e).1,0)
abbrev Us:dR:=(0,0,qX,kG,pB,Kd,Jq,Cj,Nk,0,[])
def B8 (j:JobV)(e:dR)(u:Bool):JobV:=if u=true then j else if (mA j e).2=0 then (mA j e).1 else j
def wX (j:JobV)(es:List dR)(us:List Bool):Nat->JobV
 | 0=>j
 | n+1=>B8 (wX j es us n) (es.getD n Us) (us.getD n false)
theorem TA {j:JobV}{e:dR}(h:(mA j e).2=0):gQ (mA j e).1=0:=by
 unfold mA at h ⊢;by_cases m:gQ j≠0
 ·rw[aE m] at h;exact absurd h de
 rw[aD m] at h ⊢;by_cases f:zD e≠0
 ·rw[aE f] at h;exact absurd h f
 rw[aD f] at h ⊢;by_cases g:(zE j e).2≠0
 ·rw[aE g] at h;exact absurd h g
 rw[aD g] at h ⊢;by_cases c:gQ (zE j e).1≠0
 ·rw[aE c] at h;exact absurd h c
 rw[aD c] at h ⊢;exact bG.1 c
theorem TB {j:JobV}(h:gQ j=0)(e:dR)(u:Bool):gQ (B8 j e u)=0:=by
 unfold B8;split
 ·exact h
 split
 ·rename_i c;exact TA c
 exact h
theorem Ut {j:JobV}(h:gQ j=0)(es:List dR)(us:List Bool):∀n,gQ (wX j es us n)=0
 | 0=>h
 | n+1=>TB (Ut h es us n) _ _
def Bu (j:JobV)(es:List dR)(us:List Bool)(k:Nat):Nat->JobV
 | 0=>j
 | n+1=>if n=k\/us.getD n false=true then Bu j es us k n else if (mA (Bu j es us k n) (es.getD n Us)).2=0 then (mA (Bu j es us k n) (es.getD n Us)).1 else Bu j es us k n
theorem JT {us:List Bool}{k n:Nat}(c:k<us.length):(us.set k true).getD n false=if n=k then true else us.getD n false:=by
 rw[aB,fY];by_cases e:k=n
 ·subst e;rw[aE rfl,aE rfl,aE c];rfl
 rw[aD e,aD (fun q=>e q.symm),aB]
theorem Uu (j:JobV)(es:List dR)(us:List Bool){k:Nat}(c:k<us.length):∀n,wX j es (us.set k true) n=Bu j es us k n
 | 0=>rfl
 | n+1=>by
  rw[wX,Bu,Uu j es us c n,B8,JT c];by_cases e:n=k
  ·rw[aE e,aE rfl,aE (.inl e)]
  rw[aD e];by_cases e2:us.getD n false=true
  ·rw[aE e2,aE (.inr e2)]
  rw[aD e2,aD (show ¬(n=k\/us.getD n false=true) from fun q=>q.elim e e2)]
theorem QU {α:Type}(l:List α)(d:α){k n:Nat}(h:n<k):(l.eraseIdx k).getD n d=l.getD n d:=by
 rw[aB,List.getElem?_eraseIdx,aE h,aB]
theorem QV {α:Type}(l:List α)(d:α){k n:Nat}(h:k<=n):(l.eraseIdx k).getD n d=l.getD (n+1) d:=by
 rw[aB,List.getElem?_eraseIdx,aD om,aB]
theorem JU (j:JobV)(es:List dR)(us:List Bool)(k:Nat):∀n,n<=k->wX j (es.eraseIdx k) (us.eraseIdx k) n=Bu j es us k n
 | 0,_=>rfl
 | n+1,h=>by
  rw[wX,Bu,JU j es us k n om,B8,QU _ _ om,QU _ _ om];by_cases e2:us.getD n false=true
  ·rw[aE e2,aE (.inr e2)]
  rw[aD e2,aD (show ¬(n=k\/us.getD n false=true) from fun q=>q.elim om e2)]
theorem JV (j:JobV)(es:List dR)(us:List Bool)(k:Nat):∀n,wX j (es.eraseIdx k) (us.eraseIdx k) (k+n)=Bu j es us k (k+n+1)
 | 0=>by
  show wX j (es.eraseIdx k) (us.eraseIdx k) k=Bu j es us k (k+1);rw[JU j es us k k (aI _),Bu,aE (.inl rfl)]
 | n+1=>by
  show wX j (es.eraseIdx k) (us.eraseIdx k) (k+n+1)=Bu j es us k (k+n+1+1);rw[wX,JV j es us k n,B8,QV _ _ om,QV _ _ om]
  conv=>rhs;rw[Bu]
  by_cases e2:us.getD (k+n+1) false=true
  ·rw[aE e2,aE (.inr e2)]
  rw[aD e2,aD (show ¬(k+n+1=k\/us.getD (k+n+1) false=true) from fun q=>q.elim om e2)]
theorem CA (j:JobV)(es:List dR)(us:List Bool){k:Nat}(e:es.length=us.length)(c:k<es.length):
  wX j es (us.set k true) es.length=Bu j es us k es.length/\wX j (es.eraseIdx k) (us.eraseIdx k) (es.length-1)=Bu j es us k es.length:=by
 refine ⟨Uu j es us om _,?_⟩;have:=JV j es us k (es.length-1-k);rwa [show k+(es.length-1-k)=es.length-1 by omega,show es.length-1+1=es.length by omega] at this
theorem JW {R:List (List Sid)}(h:planE R=0):R.length<=24:=by
 obtain ⟨c,f,g, -, -⟩:=Aq h;have:∀m,m<=R.length->m<=fU R m:=by
  intro m
  induction m with
  | zero=>intro _;exact aI _
  | succ m ih=>
   intro n;have:=ih om;have e:R.getD m []∈R:=by simp[aB,show m<R.length by omega]
   have:=c _ e;rw[fU];omega
 have:=this R.length (aI _);omega
structure JobL (j:JobV):Prop where
 nm:namP j.nm
 pl:planE j.pl=0
 pn:j.pl.length<=24
 pu:purE j.pu=0
 un:j.pu.length<=16
 oe:disE j.op=0
 on:j.op.length<=32
 sz:timE j.sz=0
 br:j.br.length<=64
 lo:j.lo.length<=64
 al:j.al.length<=4096
theorem EB {j:JobV}(h:gQ j=0):JobL j:=by
 unfold gQ at h;by_cases c:wV (planE j.pl) j (vE j.pl j.op)≠0
 ·rw[aE c] at h;exact absurd h c
 rw[aD c] at h;have c:=bG.1 c;by_cases g:qF j.lo≠0
 ·rw[aE g] at h;exact absurd h g
 rw[aD g] at h;have g:=bG.1 g;unfold wV at c;by_cases u:¬namP j.nm
 ·rw[aE u] at c;exact absurd c de
 rw[aD u] at c;by_cases m:planE j.pl≠0
 ·rw[aE m] at c;exact absurd c m
 rw[aD m] at c;by_cases x:¬gL j.og 0 65536\/¬gL j.sp 1 65536
 ·rw[aE x] at c;exact absurd c de
 rw[aD x] at c;by_cases e:purE j.pu≠0
 ·rw[aE e] at c;exact absurd c e
 rw[aD e] at c;by_cases f:vE j.pl j.op≠0
 ·rw[aE f] at c;exact absurd c f
 rw[aD f] at c;by_cases o:timE j.sz≠0
 ·rw[aE o] at c;exact absurd c o
 rw[aD o] at c;by_cases n:pS j.br≠0
 ·rw[aE n] at c;exact absurd c n
 have e:=bG.1 e;have f:=bG.1 f;have m:=bG.1 m;have n:=bG.1 n;have s:disE j.op=0:=by
  unfold vE at f;by_cases q:disE j.op=0
  ·exact q
  rw[aD q] at f;exact f
 refine ⟨bG.1 u,m,JW m,e,?_,s,?_,bG.1 o,?_,?_,?_⟩
 ·unfold purE at e;apply fF;intro q;rw[aE q] at e;exact absurd e de
 ·unfold disE at s;apply fF;intro q;rw[aE q] at s;exact absurd s de
 ·unfold pS at n;apply fF;intro q;rw[aE q] at n;exact absurd n de
 ·unfold qF at g;apply fF;intro q;rw[aE q] at g;exact absurd g de
 unfold wU at h;apply fF;intro q;rw[aE q] at h;exact absurd h de
def Fh (R:List (List Sid))(l:List Opn):Int:=
 if disE l=0 then (if ∀i,i<l.length->gL (l.getD i kG).1 0 ((fU R R.length:Int)-1) then (open Classical in if nO l then 0 else 28) else 2) else disE l
def Zd (j:JobV):Int:=if wV (wW j.pl) j (Fh j.pl j.op)≠0 then wV (wW j.pl) j (Fh j.pl j.op) else if qF j.lo≠0 then qF j.lo else wU j.al
theorem OV {j:JobV}(h:Zd j=0):gQ j=0:=by
 have g:wW j.pl=0:=by
  unfold Zd at h;by_cases c:wV (wW j.pl) j (Fh j.pl j.op)≠0
  ·rw[aE c] at h;exact absurd h c
  have c:=bG.1 c;unfold wV at c;by_cases f:¬namP j.nm
  ·rw[aE f] at c;exact absurd c de
  rw[aD f] at c;by_cases e:wW j.pl≠0
  ·rw[aE e] at c;exact absurd c e
  exact bG.1 e
 have m:=Nj g;have n:vE j.pl j.op=Fh j.pl j.op:=by
  unfold vE Fh;rw[aE m]
 unfold Zd at h;unfold gQ;rw[m,n];rw[g] at h;exact h
def Cm (a:Str):Prop:=(20<a.length/\a.length<299)\/604<a.length
instance (a:Str):Decidable (Cm a):=by unfold Cm;exact inferInstance
def Px (o:Opn):Prop:=Cm o.2.1\/Cm o.2.2.1\/Cm o.2.2.2.1\/Cm o.2.2.2.2
instance (o:Opn):Decidable (Px o):=by unfold Px;exact inferInstance
def Uv (l:List Opn):Prop:=(¬ ∀i,i<l.length->i<7->¬Px (l.getD i kG))\/(6<l.length/\l.length<=32)\/34<l.length
def GQ (l:List Bar):Prop:=((6<l.length/\l.length<=64)\/66<l.length)\/¬ ∀i,i<l.length->¬20<(l.getD i Kd).2.2.2.2.2.length
def Uw (l:List Lod):Prop:=((8<l.length/\l.length<=64)\/66<l.length)\/¬ ∀i,i<l.length->¬50<(l.getD i Jq).2.2.length
def GR (l:List Alw):Prop:=(12<l.length/\l.length<=4096)\/4098<l.length
def QW (j:JobV)(g:Prop):Prop:=40<j.nm.length\/g\/17<j.pu.length\/Uv j.op\/16<j.sz.length\/GQ j.br\/Uw j.lo\/GR j.al
def OW (e:dR):Prop:=40<e.2.2.2.2.2.2.2.2.2.2.length\/17<e.2.2.2.2.2.1.2.2.2.2.2.length\/Uv [e.2.2.2.1]\/Uw [e.2.2.2.2.2.2.1]
def TC (j:JobV)(g:Prop)(es:List dR)(us:List Bool):Prop:=(es.length<=6/\¬ ∀i,i<es.length->¬OW (es.getD i Us))\/QW j g\/6<es.length\/6<us.length
abbrev awR:List (List Sid):=[[(0,0,1,1,false,0,500),(8000,0,1,1,false,0,500),(8000,6000,1,1,false,0,500),(0,6000,1,1,false,0,500)]]
abbrev VQ:List Siz:=[(1,60,180),(2,60,180),(6,80,220)]
abbrev XM:Str:=[98,97,114,110]
abbrev zF (kf:Int)(pu:List Int):JobV:=⟨XM,awR,0,800,pu,[],VQ,[],kf,250,400,80,40,[],[]⟩
theorem EK:planE awR=0:=by decide+kernel
theorem TL:vE awR []=0:=by
 unfold vE;have c:disE []=0:=rfl;have e:∀i,i<([]:List Opn).length->gL (([]:List Opn).getD i kG).1 0 ((fU awR awR.length:Int)-1):=fun i hi=>absurd hi (aT i);have f:nO []:=fun i hi=>absurd hi (aT i);rw[aE c,aE EK,aE e,aE f]
theorem Nm {c:Int}{pu:List Int}(f:gL c 0 100)(g:purE pu=0):gQ (zF c pu)=0:=by
 have m:wV (planE awR) (zF c pu) (vE awR [])=0:=by
  unfold wV;rw[EK,TL];show (if ¬namP XM then (13:Int) else if (0:Int)≠0 then 0 else if ¬gL 0 0 65536\/¬gL 800 1 65536 then 2 else if purE pu≠0 then purE pu else if (0:Int)≠0 then 0 else if timE VQ≠0 then timE VQ else if pS []≠0 then pS [] else if ¬gL c 0 100 then 2 else if ¬xZ (250,400,80,40) then 2 else 0)=0;rw[aD (show ¬ ¬namP XM by decide),aD de,aD de,aD (fun q=>q g),aD de,aD (show ¬timE VQ≠0 by decide),aD (show ¬pS []≠0 by decide),aD (fun q=>q f),aD de]
 have e:gQ (zF c pu)=if wV (planE awR) (zF c pu) (vE awR [])≠0 then wV (planE awR) (zF c pu) (vE awR []) else if qF []≠0 then qF [] else wU []:=rfl;rw[e,m,aD (fun q=>q rfl),aD (show ¬qF []≠0 from fun q=>q rfl)];rfl
abbrev Zp:dR:=(8,0,qX,kG,pB,Kd,Jq,Cj,Nk,7,[])
abbrev CB:dR:=(4,0,qX,kG,pB,Kd,Jq,Cj,Nk,900,[])
theorem VR {e:Int}{pu:List Int}(g:gL e 0 100)(f:purE pu=0):mA (zF e pu) Zp=(zF 7 pu,0):=by
 have o:=Nm g f;have c:gQ (zF 7 pu)=0:=Nm de f;have n:zD Zp=0:=by
  unfold zD;rw[aD de,aE (by rfl)]
 have m:zE (zF e pu) Zp=(zF 7 pu,0):=rfl;unfold mA;rw[m,o,n];show (if (0:Int)≠0 then (Ur,(1:Int)) else if (0:Int)≠0 then (Ur,(0:Int)) else if (0:Int)≠0 then (Ur,(0:Int)) else if gQ (zF 7 pu)≠0 then (Ur,gQ (zF 7 pu)) else (zF 7 pu,0))= _;rw[c];rfl
theorem VS {c:Int}(f:gL c 0 100):mA (zF c []) CB=(zF c [900],0):=by
 have o:=Nm (pu:=[]) f de;have e:gQ (zF c [900])=0:=Nm f de;have n:zD CB=0:=by
  unfold zD;rw[aD de,aE (by rfl)]
 have g:Yz [] 900=0:=by
  unfold Yz;rw[Uq];rfl
 have s:Fg [] 900=([900],0):=by
  unfold Fg;rw[g];rfl
 have m:zE (zF c []) CB=(zF c [900],0):=by
  have:zE (zF c []) CB=({ zF c [] with pu:=(Fg [] 900).1 },(Fg [] 900).2):=rfl;rw[this,s]
 unfold mA;rw[m,o,n];show (if (0:Int)≠0 then (Ur,(1:Int)) else if (0:Int)≠0 then (Ur,(0:Int)) else if (0:Int)≠0 then (Ur,(0:Int)) else if gQ (zF c [900])≠0 then (Ur,gQ (zF c [900])) else (zF c [900],0))= _;rw[e];rfl
theorem aw_s1:wX (zF 4 []) [Zp] [false] 1=zF 7 []:=by
 show B8 (zF 4 []) Zp false= _;unfold B8;rw[aD de,VR de de];rfl
theorem aw_s2:wX (zF 4 []) [Zp,CB] [true,false] 2=zF 4 [900]:=by
 show B8 (B8 (zF 4 []) Zp true) CB false= _;have e:B8 (zF 4 []) Zp true=zF 4 []:=rfl;rw[e];unfold B8;rw[aD de,VS de];rfl
theorem X4:∀(m n:Nat) (f:Nat->Nat),(∀i,i<n->f i<m)->(∀i,i<n->∀j,j<i->f j≠f i)->n<=m
 | 0,n,f,h1,_=>by
  cases n with
  | zero=>exact aI _
  | succ n=>exact absurd (h1 0 om) om
 | m+1,n,f,h1,h2=>by
  by_cases h:∃i,i<n/\f i=m
  ·obtain ⟨i0,hi,u⟩:=h;have c:∀x,x<n->x≠i0->f x<m:=fun x o g=>by
    have:=h1 x o;have:f x≠m:=fun q=>by
     rcases Nat.lt_or_gt_of_ne g with a | a
     ·exact h2 i0 hi x a om
     exact h2 x o i0 a om
    omega
   have:=X4 m (n-1) (fun i=>if i<i0 then f i else f (i+1)) (fun i e=>by
    show (if i<i0 then f i else f (i+1))<m;split
    ·exact c _ om om
    ·exact c _ om om) (fun i e j s=>by
    show (if j<i0 then f j else f (j+1))≠(if i<i0 then f i else f (i+1));split<;>split
    ·exact h2 _ om _ s
    ·exact h2 _ om _ om
    ·omega
    exact h2 _ om _ om)
   omega
  have:=X4 m n f (fun i hi=>by
   have:=h1 i hi;have:f i≠m:=fun q=>h ⟨i,hi,q⟩
   omega) h2
  omega
theorem O2 {l:List Siz}(h:timE l=0):l.length<=12:=by
 have o:=Rb h;have c:∀i,i<l.length->(1<=(l.getD i pB).1/\(l.getD i pB).1<13)/\∀k,k<i->(l.getD k pB).1≠(l.getD i pB).1:=fun i hi=>by
  have:=o i hi;unfold wT at this;by_cases f:(l.getD i pB).1<1\/13<=(l.getD i pB).1
  ·rw[aE f] at this;exact absurd this de
  rw[aD f] at this;by_cases g:min (l.getD i pB).2.1 (l.getD i pB).2.2<1\/1000<max (l.getD i pB).2.1 (l.getD i pB).2.2
  ·rw[aE g] at this;exact absurd this de
  rw[aD g] at this;by_cases m:∀k,k<i->(l.getD k pB).1≠(l.getD i pB).1
  ·exact ⟨om,m⟩
  rw[aD m] at this;exact absurd this de
 refine X4 12 l.length (fun i=>((l.getD i pB).1-1).toNat) (fun i hi=>?_) fun i hi j n e=>?_
 ·have:=(c i hi).1;show ((l.getD i pB).1-1).toNat<12;omega
 have e:((l.getD j pB).1-1).toNat=((l.getD i pB).1-1).toNat:=e;have s:=(c i hi).1;have u:=(c j om).1;exact (c i hi).2 j n om
theorem K0 (R:List (List Sid))(i:Int)(s:Sid):(Ff R i s).1.length=R.length:=by
 unfold Ff;split
 ·rfl
 show (Ck R i.toNat s R.length).length= _;unfold Ck;simp
theorem K1 {us:List Bool}{k:Nat}(c:k<us.length)(h:us.getD k false=true):us.set k true=us:=by
 refine eL fun n=>?_;rw[fY];split
 ·rename_i e;subst e
  try rw[aE c]
  rw[aB,aY c] at h;rw[aY c];exact aR some h.symm
 rfl
structure JobM (j:JobV):Prop where
 pl:j.pl.length<=40
 pu:j.pu.length<=4100
 op:j.op.length<=4100
 sz:j.sz.length<=4100
 br:j.br.length<=4100
 lo:j.lo.length<=4100
 al:j.al.length<=4100
theorem Nn {j:JobV}(h:gQ j=0):JobM j:=by
 have c:=EB h;have e:=O2 c.sz;exact ⟨bA c.pn de,bA c.un de,bA c.on de,om,bA c.br de,bA c.lo de,bA c.al de⟩
theorem EL {j:JobV}(h:gQ j=0)(e:dR):mA j e=if zD e≠0 then (Ur,zD e) else if (zE j e).2≠0 then (Ur,(zE j e).2) else if gQ (zE j e).1≠0 then (Ur,gQ (zE j e).1) else ((zE j e).1,0):=by
 unfold mA;rw[aD (fun q=>q h)]
def c3089:Con:=aV 190 true fun | [.str a],K=>K (.tup [S (qI a).1,S (qI a).2,I (dD a)]) | _,_=>False
theorem QJ:aM Tp c3089:=by
 refine kQ {} Tryz.func190 Tryz.ntmps190 (kc X1 (kc k65 kn)) fun _ _ h=>?_;split at h;case h_2=>cases h
 rename_i a;refine kb h ?_;by_cases h:dD a=0
 ·have e:qI a=(pn (cH a),pd (cH a)):=by unfold qI;rw[aE h]
  rw[e];refine Br.mkN (show ¬ ¬dD a=0 from fun c=>c h) ?_;(repeat refine ZG ?_);(conv=>whnf);(repeat' first|exact trivial|rfl|apply aA);(conv=>whnf);exact h.symm
 have e:qI a=([],[]):=by unfold qI;rw[aD h]
 rw[e];refine Br.mkY h ?_;exact ZF
def c2208:Con:=aV 165 true fun | [.val (.int .i64 n),.val (.int .i64 a),.val (.int .i64 b)],K=>K (.bl (mD n a b=false) inferInstance) | _,_=>False
theorem k2208:aM Tp c2208:=by
 refine kQ {} Tryz.func165 Tryz.ntmps165 kn fun _ _ h=>?_;split at h;case h_2=>cases h
 rename_i n a b;refine kb h ?_;unfold mD;by_cases h:a<=n
 ·(repeat refine ZR ?_);(conv=>whnf);simp only[decide_eq_false_iff_not];omega
 (repeat refine ZR ?_);(conv=>whnf);simp only[decide_eq_false_iff_not];omega
def c2215:Con:=aV 147 true fun | [.val (.int .i64 n),.val (.int .i64 a),.val (.int .i64 b)],K=>K (.bl (mD n a b=true) inferInstance) | _,_=>False
theorem k2215:aM Tp c2215:=by
 refine kQ {} Tryz.func147 Tryz.ntmps147 kn fun _ _ h=>?_;split at h;case h_2=>cases h
 rename_i n a b;refine kb h ?_;unfold mD;by_cases h:n<a
 ·(repeat refine ZR ?_);(conv=>whnf);simp only[qO];omega
 (repeat refine ZR ?_);(conv=>whnf);simp only[qO];omega
def c2169:Con:=aV 112 true fun | [.agg [.val (.int .i64 w),.val (.int .i64 d),.val (.int .i64 len),.val (.int .i64 fU),.val (.int .i64 cost),.seq (.pair (.int .i64) (.int .i64)) gs]],K=>K (I (Np (w,d,len,fU,cost,gs))) | _,_=>False
theorem k2169:aM Tp c2169:=by
 refine kQ { asks:=[(0,[])] } Tryz.func112 Tryz.ntmps112 (kc k2208 kn) fun _ _ h=>?_;split at h;case h_2=>cases h
 rename_i w d len fU f c;change List Gp at c;refine kb h ?_;have x:Np (w,d,len,fU,f,c)=if mD w 1 1000 || mD d 1 1000 || mD len 1 65536 || mD fU 0 4096 || mD f 0 1073741824 then 2 else if 16<c.length then 4 else An len c:=rfl
 rw[x];cases h1:mD w 1 1000 with
 | true=>
  have s:¬mD w 1 1000=false:=by rw[h1];decide
  exact ZRF
 | false=>
 cases h2:mD d 1 1000 with
 | true=>
  have s:¬mD d 1 1000=false:=by rw[h2];decide
  exact ZRF
 | false=>
 cases h3:mD len 1 65536 with
 | true=>
  have s:¬mD len 1 65536=false:=by rw[h3];decide
  exact ZRF
 | false=>
 cases h4:mD fU 0 4096 with
 | true=>
  have s:¬mD fU 0 4096=false:=by rw[h4];decide
  exact ZRF
 | false=>
 cases h5:mD f 0 1073741824 with
 | true=>
  have s:¬mD f 0 1073741824=false:=by rw[h5];decide
  exact ZRF
 | false=>
 by_cases u:16<c.length
 ·have e:(if (false || false || false || false || false)=true then (2:Int) else if 16<c.length then 4 else An len c)=4:=by rw[aD de,aE u]
  rw[e];exact ZRF
 have e:(if (false || false || false || false || false)=true then (2:Int) else if 16<c.length then 4 else An len c)=An len c:=by rw[aD de,aD u]
 rw[e];(repeat' first|refine ZR ?_|refine Zg fun _=>?_);refine Ask.mk ⟨{ X:=Nat,pre:=fun i=>i<=c.length/\Ja len c (c.length-i) i=An len c,mod:=fun i _=>[(40,I i)],heap:=fun i H=>H,mu:=fun i=>c.length-i },rfl,?_⟩;(repeat refine ZG ?_);refine ⟨⟨(0:Nat),⟨aF _,rfl⟩,?_⟩,fun (i:Nat) hi=>?_⟩
 ·exact ZE
 obtain ⟨hi,o⟩:=hi;by_cases g:i<c.length
 ·by_cases m:(c.getD i (0,0)).1<0\/len<(c.getD i (0,0)).2\/(c.getD i (0,0)).2<=(c.getD i (0,0)).1
  ·have e2:No len c i=2:=aE m;rw[<- o,Bv g (by rw[e2];decide),e2];(repeat'((conv=>whnf);first|refine Zg fun _=>?_|refine Zn ?_|refine Zj ?_|refine Zy ?_|refine Zr (fun _=>?_) fun _=>?_|fail));all_goals first
    | omega
    | ((conv=>whnf);(repeat' first|rfl|apply aA))
  by_cases n:0<i/\(c.getD i (0,0)).1<=(c.getD (i-1) (0,0)).2
  ·have e2:No len c i=10:=(aD m).trans (aE n);rw[<- o,Bv g (by rw[e2];decide),e2];(repeat'((conv=>whnf);first|refine Zg fun _=>?_|refine Zn ?_|refine Zj ?_|apply pI|apply pJ|refine Zy ?_|refine Zm ?_|fail));refine P2 (i-1) om ?_;(repeat'((conv=>whnf);first|refine Zg fun _=>?_|apply pI|apply pJ|refine Zy ?_|fail));exact ZF
  have e2:No len c i=0:=(aD m).trans (aD n);have st:=(Zu g e2).symm.trans o;by_cases y:0<i
  ·(repeat'((conv=>whnf);first|refine Zg fun _=>?_|refine Zn ?_|refine Zj ?_|apply pI|apply pJ|refine Zy ?_|refine Zm ?_|fail));refine P2 (i-1) om ?_;(repeat'((conv=>whnf);first|refine Zg fun _=>?_|refine Zn ?_|apply pI|apply pJ|refine Zm ?_|fail));refine ⟨(i+1:Nat),by show c.length-(i+1)<c.length-i;omega,⟨g,st⟩,?_⟩;exact ZE
  (repeat'((conv=>whnf);first|refine Zg fun _=>?_|refine Zn ?_|refine Zj ?_|apply pI|apply pJ|refine Zy ?_|refine Zm ?_|fail));refine ⟨(i+1:Nat),by show c.length-(i+1)<c.length-i;omega,⟨g,st⟩,?_⟩;exact ZE
 have e:i=c.length:=om;subst e;rw[<- o,Rg];exact ZRF
def c2113:Con:=aV 59 true fun | [.seq (.pair (.int .i64) (.pair (.int .i64) (.pair (.int .i64) (.pair (.int .i64) (.pair (.int .i64) (.slice (.pair (.int .i64) (.int .i64)))))))) l],K=>K (I (pS l)) | _,_=>False
theorem k2113:aM Tp c2113:=by
 refine kQ { asks:=[(0,[])] } Tryz.func59 Tryz.ntmps59 (kc k2169 kn) fun _ _ h=>?_;split at h;case h_2=>cases h
 rename_i l;change List Bar at l;refine kb h ?_;by_cases g:64<l.length
 ·rw[show pS l=4 from aE g];exact ZRF
 rw[show pS l=yU l l.length 0 from aD g];(repeat' first|refine ZR ?_|refine Zg fun _=>?_);refine Ask.mk ⟨{ X:=Nat,pre:=fun i=>i<=l.length/\yU l (l.length-i) i=yU l l.length 0,mod:=fun i _=>[(11,I i)],heap:=fun i H=>H,mu:=fun i=>l.length-i },rfl,?_⟩;(repeat refine ZG ?_);refine ⟨⟨(0:Nat),⟨aF _,rfl⟩,?_⟩,fun (i:Nat) hi=>?_⟩
 ·exact ZE
 obtain ⟨hi,f⟩:=hi;by_cases c:i<l.length
 ·by_cases m:Np (l.getD i (0,0,0,0,0,[]))=0
  ·have st:=(Zv c m).symm.trans f;(repeat' first|refine ZR ?_|refine Zg fun _=>?_);refine ⟨(i+1:Nat),by show l.length-(i+1)<l.length-i;omega,⟨c,st⟩,?_⟩;exact ZE
  rw[<- f,Rh c m];exact ZRF
 have e:i=l.length:=om;subst e;rw[<- f,Ri];exact ZRF
def c2179:Con:=aV 93 true fun | [.agg [.val (.int .i64 w),.val (.int .i64 d),.val (.int .i64 len),.val (.int .i64 fU),.val (.int .i64 cost),.seq (.pair (.int .i64) (.int .i64)) gs]],K=>K (I (Np (w,d,len,fU,cost,gs))) | _,_=>False
theorem k2179:aM Tp c2179:=by
 refine kQ { asks:=[(0,[])] } Tryz.func93 Tryz.ntmps93 (kc k2215 kn) fun _ _ h=>?_;split at h;case h_2=>cases h
 rename_i w d len fU f c;change List Gp at c;refine kb h ?_;have u:Np (w,d,len,fU,f,c)=if mD w 1 1000 || mD d 1 1000 || mD len 1 65536 || mD fU 0 4096 || mD f 0 1073741824 then 2 else if 16<c.length then 4 else An len c:=rfl
 rw[u];cases h1:mD w 1 1000 with
 | true=>
  exact ZRF
 | false=>
 have y:¬mD w 1 1000=true:=by rw[h1];decide
 cases h2:mD d 1 1000 with
 | true=>
  exact ZRF
 | false=>
 have z:¬mD d 1 1000=true:=by rw[h2];decide
 cases h3:mD len 1 65536 with
 | true=>
  exact ZRF
 | false=>
 have A:¬mD len 1 65536=true:=by rw[h3];decide
 cases h4:mD fU 0 4096 with
 | true=>
  exact ZRF
 | false=>
 have n4:¬mD fU 0 4096=true:=by rw[h4];decide
 cases h5:mD f 0 1073741824 with
 | true=>
  exact ZRF
 | false=>
 have B:¬mD f 0 1073741824=true:=by rw[h5];decide
 by_cases s:16<c.length
 ·have e:(if (false || false || false || false || false)=true then (2:Int) else if 16<c.length then 4 else An len c)=4:=by rw[aD de,aE s]
  rw[e];exact ZRF
 have e:(if (false || false || false || false || false)=true then (2:Int) else if 16<c.length then 4 else An len c)=An len c:=by rw[aD de,aD s]
 rw[e];(repeat' first|refine ZR ?_|refine Zg fun _=>?_);refine Ask.mk ⟨{ X:=Nat,pre:=fun i=>i<=c.length/\Ja len c (c.length-i) i=An len c,mod:=fun i _=>[(3,I i)],heap:=fun i H=>H,mu:=fun i=>c.length-i },rfl,?_⟩;(repeat refine ZG ?_);refine ⟨⟨(0:Nat),⟨aF _,rfl⟩,?_⟩,fun (i:Nat) hi=>?_⟩
 ·exact ZE
 obtain ⟨hi,o⟩:=hi;by_cases g:i<c.length
 ·by_cases m:(c.getD i (0,0)).1<0\/len<(c.getD i (0,0)).2\/(c.getD i (0,0)).2<=(c.getD i (0,0)).1
  ·have e2:No len c i=2:=aE m;rw[<- o,Bv g (by rw[e2];decide),e2];(repeat'((conv=>whnf);first|refine Zg fun _=>?_|refine Zn ?_|refine Zj ?_|refine Zy ?_|refine Zr (fun _=>?_) fun _=>?_|fail));all_goals first
    | omega
    | ((conv=>whnf);(repeat' first|rfl|apply aA))
  by_cases n:0<i/\(c.getD i (0,0)).1<=(c.getD (i-1) (0,0)).2
  ·have e2:No len c i=10:=(aD m).trans (aE n);rw[<- o,Bv g (by rw[e2];decide),e2];(repeat'((conv=>whnf);first|refine Zg fun _=>?_|refine Zn ?_|refine Zj ?_|apply pI|apply pJ|refine Zy ?_|refine Zm ?_|fail));refine P2 (i-1) om ?_;(repeat'((conv=>whnf);first|refine Zg fun _=>?_|apply pI|apply pJ|refine Zy ?_|fail));exact ZF
  have e2:No len c i=0:=(aD m).trans (aD n);have st:=(Zu g e2).symm.trans o;by_cases x:0<i
  ·(repeat'((conv=>whnf);first|refine Zg fun _=>?_|refine Zn ?_|refine Zj ?_|apply pI|apply pJ|refine Zy ?_|refine Zm ?_|fail));refine P2 (i-1) om ?_;(repeat'((conv=>whnf);first|refine Zg fun _=>?_|refine Zn ?_|apply pI|apply pJ|refine Zm ?_|fail));refine ⟨(i+1:Nat),by show c.length-(i+1)<c.length-i;omega,⟨g,st⟩,?_⟩;exact ZE
  (repeat'((conv=>whnf);first|refine Zg fun _=>?_|refine Zn ?_|refine Zj ?_|apply pI|apply pJ|refine Zy ?_|refine Zm ?_|fail));refine ⟨(i+1:Nat),by show c.length-(i+1)<c.length-i;omega,⟨g,st⟩,?_⟩;exact ZE
 have e:i=c.length:=om;subst e;rw[<- o,Rg];exact ZRF
def c2127:Con:=aV 42 true fun | [.seq (.pair (.int .i64) (.pair (.int .i64) (.pair (.int .i64) (.pair (.int .i64) (.pair (.int .i64) (.slice (.pair (.int .i64) (.int .i64)))))))) l],K=>K (I (pS l)) | _,_=>False
theorem k2127:aM Tp c2127:=by
 refine kQ { asks:=[(0,[])] } Tryz.func42 Tryz.ntmps42 (kc k2179 kn) fun _ _ h=>?_;split at h;case h_2=>cases h
 rename_i l;change List Bar at l;refine kb h ?_;by_cases g:64<l.length
 ·rw[show pS l=4 from aE g];exact ZRF
 rw[show pS l=yU l l.length 0 from aD g];(repeat' first|refine ZR ?_|refine Zg fun _=>?_);refine Ask.mk ⟨{ X:=Nat,pre:=fun i=>i<=l.length/\yU l (l.length-i) i=yU l l.length 0,mod:=fun i _=>[(3,I i)],heap:=fun i H=>H,mu:=fun i=>l.length-i },rfl,?_⟩;(repeat refine ZG ?_);refine ⟨⟨(0:Nat),⟨aF _,rfl⟩,?_⟩,fun (i:Nat) hi=>?_⟩
 ·exact ZE
 obtain ⟨hi,f⟩:=hi;by_cases c:i<l.length
 ·by_cases m:Np (l.getD i (0,0,0,0,0,[]))=0
  ·have st:=(Zv c m).symm.trans f;(repeat' first|refine ZR ?_|refine Zg fun _=>?_);refine ⟨(i+1:Nat),by show l.length-(i+1)<l.length-i;omega,⟨c,st⟩,?_⟩;exact ZE
  rw[<- f,Rh c m];exact ZRF
 have e:i=l.length:=om;subst e;rw[<- f,Ri];exact ZRF
def c5051:Con:=aV 51 true fun | [.val (.int .i64 n),.val (.int .i64 f),.val (.int .i64 t)],K=>K (.bl (gL n f t) Cp) | _,_=>False
theorem JX:aM Tp c5051:=by
 refine kQ {} Tryz.func51 Tryz.ntmps51 kn fun _ _ h=>?_;split at h;case h_2=>cases h
 rename_i n f t;refine kb h ?_;have e:gL n f t↔(f<=n/\n<=t):=cJ;generalize gL n f t=M at*;by_cases h:f<=n
 ·have c:n<=t↔M:=⟨fun q=>e.2 ⟨h,q⟩,fun q=>(e.1 q).2⟩;(repeat refine ZR ?_);(conv=>whnf);exact c
 have c:¬M:=fun q=>h (e.1 q).1;(repeat refine ZR ?_);(conv=>whnf);exact c
def c5049:Con:=aV 49 true fun | [.str s],K=>K (.bl (namP s) Cp) | _,_=>False
theorem k5049:aM Tp c5049:=by
 refine kQ { asks:=[(0,[])] } Tryz.func49 Tryz.ntmps49 kn fun _ _ h=>?_;split at h;case h_2=>cases h
 rename_i s;refine kb h ?_;have m:namP s↔((∀i,i<s.length->Ai (bJ s i))/\0<s.length/\s.length<=16):=cJ;generalize namP s=M at*;(repeat'((conv=>whnf);first|refine Zg fun _=>?_|fail));refine Ask.mk ⟨{ X:=Nat,pre:=fun i=>i<=s.length/\∀j,j<i->Ai (bJ s j),mod:=fun i _=>[(7,I i)],heap:=fun i H=>H,mu:=fun i=>s.length-i },rfl,?_⟩;(repeat refine ZG ?_);refine ⟨⟨(0:Nat),⟨aF _,fun j x=>absurd x (aT j)⟩,ZE⟩,fun (i:Nat) hi=>?_⟩;obtain ⟨hi,y⟩:i<=s.length/\∀j,j<i->Ai (bJ s j):=hi;by_cases f:i<s.length
 ·by_cases g:Ai (bJ s i)
  ·have o:∀j,j<i+1->Ai (bJ s j):=fun j x=>by
    by_cases e:j=i
    ·subst e;exact g
    exact y j om
   unfold Ai at g;(repeat'((conv=>whnf);first|refine Zg fun _=>?_|refine Zn ?_|refine Zj ?_|refine Zy ?_|refine Zm ?_|refine Zr (fun _=>?_) fun _=>?_|fail));all_goals first
    | (exfalso;omega)
    | (refine ⟨(i+1:Nat),by show s.length-(i+1)<s.length-i;omega,⟨f,o⟩,ZE⟩)
  have c:¬M:=fun q=>g ((m.1 q).1 i f);unfold Ai at g;(repeat'((conv=>whnf);first|refine Zg fun _=>?_|refine Zn ?_|refine Zj ?_|refine Zy ?_|refine Zm ?_|refine Zr (fun _=>?_) fun _=>?_|fail));all_goals first
   | (exfalso;omega)
   | ((conv=>whnf);exact c)
 have e:i=s.length:=om;subst e;by_cases u:s= []
 ·have c:¬M:=fun q=>by have:=(m.1 q).2.1;rw[u] at this;exact absurd this de
  (repeat refine ZR ?_);(conv=>whnf);exact c
 have z:0<s.length:=cB.2 u;have c:s.length<=16↔M:=⟨fun q=>m.2 ⟨y,z,q⟩,fun q=>(m.1 q).2.2⟩;have n:(s.length:Int)<=16↔M:=by rw[<- c];omega
 (repeat' first|refine ZR ?_|refine Zg fun _=>?_);(conv=>whnf);exact n
def c5053:Con:=aV 53 true fun | [.seq (.int .i64) l],K=>K (I (purE l)) | _,_=>False
theorem k5053:aM Tp c5053:=by
 refine kQ { asks:=[(0,[])] } Tryz.func53 Tryz.ntmps53 (kc JX kn) fun _ _ h=>?_;split at h;case h_2=>cases h
 rename_i l;refine kb h ?_;by_cases g:16<length (α:=Int) l
 ·have e:purE l=4:=aE g;rw[e];exact ZRF
 have s:purE l=rO (rP l) l.length:=aD g;(repeat' first|refine ZR ?_|refine Zg fun _=>?_);refine Ask.mk ⟨{ X:=Nat,pre:=fun i=>i<=length (α:=Int) l/\∀j,j<i->rP l j=0,mod:=fun i _=>[(10,I i)],heap:=fun i H=>H,mu:=fun i=>length (α:=Int) l-i },rfl,?_⟩;(repeat refine ZG ?_);refine ⟨⟨(0:Nat),⟨aF _,fun j o=>absurd o (aT j)⟩,ZE⟩,fun (i:Nat) hi=>?_⟩;obtain ⟨hi,m⟩:i<=length (α:=Int) l/\∀j,j<i->rP l j=0:=hi;by_cases c:i<length (α:=Int) l
 ·by_cases n:gL (getD (α:=Int) l i 0) 0 1048576
  ·by_cases u:0<i
   ·by_cases x:getD (α:=Int) l i 0<=getD (α:=Int) l (i-1) 0
    ·have e1:rP l i=10:=by unfold rP;rw[aD (fun q=>q n),aE ⟨u,x⟩]
     have e2:purE l=10:=by rw[s,eZ c m (by rw[e1];decide),e1]
     rw[e2];(repeat' first|refine ZR ?_|refine Zg fun _=>?_);refine Kk (i-1) om ?_;exact ZRF
    have e1:rP l i=0:=by unfold rP;rw[aD (fun q=>q n),aD (fun q=>x q.2)]
    have f:∀j,j<i+1->rP l j=0:=fun j o=>by
     by_cases e:j=i
     ·subst e;exact e1
     exact m j om
    (repeat' first|refine ZR ?_|refine Zg fun _=>?_);refine Kk (i-1) om ?_;(repeat' first|refine ZR ?_|refine Zg fun _=>?_);refine ⟨(i+1:Nat),by show length (α:=Int) l-(i+1)<length (α:=Int) l-i;omega,⟨c,f⟩,ZE⟩
   have e1:rP l i=0:=by unfold rP;rw[aD (fun q=>q n),aD (fun q=>u q.1)]
   have f:∀j,j<i+1->rP l j=0:=fun j o=>by
    by_cases e:j=i
    ·subst e;exact e1
    exact m j om
   (repeat' first|refine ZR ?_|refine Zg fun _=>?_);refine ⟨(i+1:Nat),by show length (α:=Int) l-(i+1)<length (α:=Int) l-i;omega,⟨c,f⟩,ZE⟩
  have e1:rP l i=2:=by unfold rP;rw[aE n]
  have e2:purE l=2:=by rw[s,eZ c m (by rw[e1];decide),e1]
  rw[e2];exact ZRF
 have e:i=length (α:=Int) l:=om;have e2:purE l=0:=by rw[s,jL fun j o=>m j om]
 rw[e2];subst e;exact ZRF
def c5210:Con:=aV 210 true fun | [.str a],K=>K (I (Ni a)) | _,_=>False
theorem k5210:aM Tp c5210:=by
 refine kQ {} Tryz.func210 Tryz.ntmps210 (kc k13 (kc VH kn)) fun _ _ h=>?_;split at h;case h_2=>cases h
 rename_i a;refine kb h ?_;have f:((⟨#[45]⟩:ByteArray).data.toList)= [45]:=rfl;by_cases h:dD a=0
 ·by_cases c:12<(digs (qI a).1).length\/12<(qI a).2.length
  ·have e:Ni a=4:=by unfold Ni;rw[aE h,aE c]
   rw[e];(repeat'((conv=>whnf);first|refine Zg fun _=>?_|refine Zn ?_|refine Zy ?_|refine Zm ?_|refine Zr (fun _=>?_) fun _=>?_|fail));all_goals first
    | (exfalso;omega)
    | ((conv=>whnf);(repeat' first|rfl|apply aA))
  have e:Ni a=0:=by unfold Ni;rw[aE h,aD c]
  rw[e];exact ZRF
 have e:Ni a=dD a:=by unfold Ni;rw[aD h]
 rw[e];exact ZRF
def c5194:Con:=aV 194 true fun | [.str a,.str b],K=>K (I (De a b)) | _,_=>False
theorem QX:aM Tp c5194:=by
 refine kQ {} Tryz.func194 Tryz.ntmps194 (kc k38 kn) fun _ _ h=>?_;split at h;case h_2=>cases h
 refine kb h ?_;exact ZF
def c5193:Con:=aV 193 true fun | [.seq .str l],K=>K (I (xW l)) | _,_=>False
theorem k5193:aM Tp c5193:=by
 refine kQ { asks:=[(0,[]),(2,[])] } Tryz.func193 Tryz.ntmps193 (kc k21 (kc k5210 kn)) fun _ _ h=>?_;split at h;case h_2=>cases h
 rename_i l;change List Str at l;refine kb h ?_;(repeat'((conv=>whnf);first|refine Zg fun _=>?_|fail));refine Ask.mk ⟨{ X:=Nat,pre:=fun i=>i<=length (α:=Str) l/\∀j,j<i->dD (getD (α:=Str) l j [])=0,mod:=fun i _=>[(11,I i)],heap:=fun i H=>H,mu:=fun i=>length (α:=Str) l-i },rfl,?_⟩;(repeat refine ZG ?_);refine ⟨⟨(0:Nat),⟨aF _,fun j m=>absurd m (aT j)⟩,ZE⟩,fun (i:Nat) hi=>?_⟩;obtain ⟨hi,g⟩:i<=length (α:=Str) l/\∀j,j<i->dD (getD (α:=Str) l j [])=0:=hi;by_cases c:i<length (α:=Str) l
 ·by_cases s:dD (getD (α:=Str) l i [])=0
  ·have o:∀j,j<i+1->dD (getD (α:=Str) l j [])=0:=fun j m=>by
    by_cases e:j=i
    ·subst e;exact s
    exact g j om
   (repeat refine ZR ?_);refine ⟨(i+1:Nat),by show length (α:=Str) l-(i+1)<length (α:=Str) l-i;omega,⟨c,o⟩,ZE⟩
  have e1:=eZ (f:=fun i=>dD (getD (α:=Str) l i [])) c g s;have e2:xW l=dD (getD (α:=Str) l i []):=by
   unfold xW;rw[aD (by rw[e1];exact s),e1]
  rw[e2];exact ZRF
 have e:i=length (α:=Str) l:=om;have e1:=jL (f:=fun i=>dD (getD (α:=Str) l i [])) (n:=length (α:=Str) l) fun j m=>g j om;have e2:xW l=rO (fun i=>Ni (getD (α:=Str) l i [])) (length (α:=Str) l):=by
  unfold xW;rw[aE e1]
 subst e;clear e1 g;(repeat' first|refine ZR ?_|refine Zg fun _=>?_);refine Ask.mk ⟨{ X:=Nat,pre:=fun i=>i<=length (α:=Str) l/\∀j,j<i->Ni (getD (α:=Str) l j [])=0,mod:=fun i _=>[(23,I i)],heap:=fun i H=>H,mu:=fun i=>length (α:=Str) l-i },rfl,?_⟩;(repeat refine ZG ?_);refine ⟨⟨(0:Nat),⟨aF _,fun j m=>absurd m (aT j)⟩,ZE⟩,fun (i:Nat) hi=>?_⟩;obtain ⟨hi,g⟩:i<=length (α:=Str) l/\∀j,j<i->Ni (getD (α:=Str) l j [])=0:=hi;by_cases c:i<length (α:=Str) l
 ·by_cases s:Ni (getD (α:=Str) l i [])=0
  ·have o:∀j,j<i+1->Ni (getD (α:=Str) l j [])=0:=fun j m=>by
    by_cases e:j=i
    ·subst e;exact s
    exact g j om
   (repeat refine ZR ?_);refine ⟨(i+1:Nat),by show length (α:=Str) l-(i+1)<length (α:=Str) l-i;omega,⟨c,o⟩,ZE⟩
  have e1:=eZ (f:=fun i=>Ni (getD (α:=Str) l i [])) c g s;rw[e1] at e2;rw[e2];exact ZRF
 have e:i=length (α:=Str) l:=om;have e1:=jL (f:=fun i=>Ni (getD (α:=Str) l i [])) (n:=length (α:=Str) l) fun j m=>g j om;rw[e1] at e2;rw[e2];subst e;exact ZRF
def c5162:Con:=aV 162 true fun | [.agg [.val (.int .i64 s),.str a,.str b,.str c,.str d]],K=>K (I (xY (s,a,b,c,d))) | _,_=>False
theorem k5162:aM Tp c5162:=by
 refine kQ {} Tryz.func162 Tryz.ntmps162 (kc k5193 (kc QX kn)) fun _ _ h=>?_;split at h;case h_2=>cases h
 rename_i s a b c d;refine kb h ?_;have e:xY (s,a,b,c,d)=if xW [a,b,c,d]=0 then (if 0<=De a b\/0<=De c d then 10 else 0) else xW [a,b,c,d]:=rfl;by_cases h:xW [a,b,c,d]=0
 ·rw[aE h] at e;by_cases f:0<=De a b\/0<=De c d
  ·rw[aE f] at e;rw[e];(repeat'((conv=>whnf);first|refine Zl ?_|refine Zy ?_|refine Zm ?_|refine Zr (fun _=>?_) fun _=>?_|fail));all_goals first
    | (exfalso;omega)
    | ((conv=>whnf);(repeat' first|rfl|apply aA))
  rw[aD f] at e;rw[e];exact ZRF
 rw[aD h] at e;rw[e];exact ZRF
def c5163:Con:=aV 163 true fun | [.agg [.val (.int .i64 s),.str a,.str b,.str c,.str d],.agg [.val (.int .i64 s'),.str a',.str b',.str c',.str d']],K=>K (.bl (uQ (s,a,b,c,d) (s',a',b',c',d')) Cp) | _,_=>False
theorem k5163:aM Tp c5163:=by
 refine kQ {} Tryz.func163 Tryz.ntmps163 (kc QX kn) fun _ _ h=>?_;split at h;case h_2=>cases h
 rename_i s a b c d o f g m n;refine kb h ?_;have e:uQ (s,a,b,c,d) (o,f,g,m,n)↔(s=o/\De a g<0/\De f b<0/\De c n<0/\De m d<0):=cJ;generalize uQ (s,a,b,c,d) (o,f,g,m,n)=M at*;by_cases h:s=o/\De a g<0/\De f b<0/\De c n<0
 ·obtain ⟨x,y,z,A⟩:=h;have u:De m d<0↔M:=⟨fun q=>e.2 ⟨x,y,z,A,q⟩,fun q=>(e.1 q).2.2.2.2⟩;(repeat refine ZR ?_);(conv=>whnf);exact u
 have u:¬M:=fun q=>h ⟨(e.1 q).1,(e.1 q).2.1,(e.1 q).2.2.1,(e.1 q).2.2.2.1⟩;(repeat'((conv=>whnf);first|refine Zm ?_|refine Zr (fun _=>?_) fun _=>?_|fail));all_goals first
  | (exfalso;omega)
  | ((conv=>whnf);exact u)
theorem oN {f:Nat->Int}{i:Nat}(c:∀j,j<i->f j=0)(h:f i=0):∀j,j<i+1->f j=0:=fun j g=>by
 by_cases e:j=i
 ·subst e;exact h
 exact c j om
theorem eD {f:Nat->Prop}{i:Nat}(c:∀j,j<i->f j)(h:f i):∀j,j<i+1->f j:=fun j g=>by
 by_cases e:j=i
 ·subst e;exact h
 exact c j om
open Classical in
def EC (P:Nat->Prop)(n:Nat):Int:=rO (fun i=>if P i then (i:Int)+1 else 0) n-1
theorem Ux {P:Nat->Prop}{n:Nat}(h:∀i,i<n->¬P i):EC P n= -1:=by
 unfold EC;rw[jL fun j c=>aD (h j c)];rfl
theorem Uy {P:Nat->Prop}{n i:Nat}(hi:i<n)(h:∀j,j<i->¬P j)(c:P i):EC P n=i:=by
 unfold EC;rw[eZ hi (fun j e=>aD (h j e)) (by rw[aE c];omega),aE c];omega
open Classical in
theorem OX {P:Nat->Prop}{n:Nat}:0<=EC P n↔¬ ∀i,i<n->¬P i:=by
 constructor
 ·intro h q;rw[Ux q] at h;exact absurd h de
 intro h;apply aS;intro q;have:rO (fun i=>if P i then (i:Int)+1 else 0) n=0\/∃k,k<n/\rO (fun i=>if P i then (i:Int)+1 else 0) n=(k:Int)+1:=by
  by_cases m:∀j,j<n->¬P j
  ·exact absurd m h
  right
  obtain ⟨k,c⟩:=Classical.not_forall.1 m;have ex:∃k,k<n/\P k:=⟨k,(Classical.not_imp.1 c).1,bG.1 (Classical.not_imp.1 c).2⟩;clear c k m;obtain ⟨k,c⟩:=ex
  induction k using Nat.strongRecOn with
  | ind k ih=>
   by_cases o:∃j,j<k/\j<n/\P j
   ·obtain ⟨j,s,u⟩:=o;exact ih j s u
   refine ⟨k,c.1,?_⟩;rw[eZ c.1 (fun j f=>aD fun g=>o ⟨j,f,om,g⟩) (by rw[aE c.2];omega),aE c.2]
 unfold EC at q;rcases this with e | ⟨k, -,e⟩
 ·exact h fun i hi g=>by
   have:=Rb e i hi;rw[aE g] at this;omega
 rw[e] at q;omega
def c5108:Con:=aV 108 true fun | [.seq (.pair (.int .i64) (.pair .str (.pair .str (.pair .str .str)))) l],K=>K (.tup [.bl (disE l=0/\nO l) Cp,I (disE l)]) | _,_=>False
theorem k5108:aM Tp c5108:=by
 refine kQ { asks:=[(0,[]),(2,[]),(4,[])] } Tryz.func108 Tryz.ntmps108 (kc k5162 (kc k5163 kn)) fun _ _ h=>?_;split at h;case h_2=>cases h
 rename_i l;change List Opn at l;refine kb h ?_;by_cases y:32<length (α:=Opn) l
 ·have e:disE l=4:=aE y;have u:¬(disE l=0/\nO l):=fun q=>by rw[e] at q;exact absurd q.1 de
  generalize (disE l=0/\nO l)=M at*;rw[e];exact ZRx u
 have C:disE l=rO (fun i=>xY (getD (α:=Opn) l i kG)) (length (α:=Opn) l):=aD y;(repeat' first|refine ZR ?_|refine Zg fun _=>?_);refine Ask.mk ⟨{ X:=Nat,pre:=fun i=>i<=length (α:=Opn) l/\∀j,j<i->(xY (getD (α:=Opn) l j kG)=0),mod:=fun i _=>[(16,I i)],heap:=fun i H=>H,mu:=fun i=>length (α:=Opn) l-i },rfl,?_⟩;(repeat refine ZG ?_);refine ⟨⟨(0:Nat),⟨aF _,fun j x=>absurd x (aT j)⟩,ZE⟩,fun (i:Nat) hi=>?_⟩;obtain ⟨hi,o⟩:i<=length (α:=Opn) l/\∀j,j<i->(xY (getD (α:=Opn) l j kG)=0):=hi;by_cases c:i<length (α:=Opn) l
 ·by_cases D:xY (getD (α:=Opn) l i kG)=0
  ·have s:=oN (f:=fun j=>xY (getD (α:=Opn) l j kG)) o D;(repeat' first|refine ZR ?_|refine Zg fun _=>?_);refine ⟨(i+1:Nat),by show length (α:=Opn) l-(i+1)<length (α:=Opn) l-i;omega,⟨c,s⟩,ZE⟩
  have e1:=eZ (f:=fun i=>xY (getD (α:=Opn) l i kG)) c o D;rw[<- C] at e1;have u:¬(disE l=0/\nO l):=fun q=>by rw[e1] at q;exact D q.1
  generalize (disE l=0/\nO l)=M at*;rw[e1];exact ZRx u
 have e:i=length (α:=Opn) l:=om;have e1:=jL (f:=fun i=>xY (getD (α:=Opn) l i kG)) (n:=length (α:=Opn) l) fun j x=>o j om;rw[<- C] at e1;have F:nO l↔∀i,i<length (α:=Opn) l->∀k,k<i->¬uQ (getD (α:=Opn) l i kG) (getD (α:=Opn) l k kG):=cJ;have u:=F.symm.trans (show nO l↔(disE l=0/\nO l) from ⟨fun q=>⟨e1,q⟩,fun q=>q.2⟩);generalize (disE l=0/\nO l)=M at*;rw[e1];subst e;clear o C e1 F hi;(repeat' first|refine ZR ?_|refine Zg fun _=>?_);refine Ask.mk ⟨{ X:=Nat,pre:=fun i=>i<=length (α:=Opn) l/\∀j,j<i->(∀k,k<j->¬uQ (getD (α:=Opn) l j kG) (getD (α:=Opn) l k kG)),mod:=fun i _=>[(28,I i)],heap:=fun i H=>H,mu:=fun i=>length (α:=Opn) l-i },rfl,?_⟩;(repeat refine ZG ?_);refine ⟨⟨(0:Nat),⟨aF _,fun j x=>absurd x (aT j)⟩,ZE⟩,fun (i:Nat) hi=>?_⟩;obtain ⟨hi,o⟩:i<=length (α:=Opn) l/\∀j,j<i->(∀k,k<j->¬uQ (getD (α:=Opn) l j kG) (getD (α:=Opn) l k kG)):=hi;by_cases c:i<length (α:=Opn) l
 ·have W:length (α:=Opn) (List.take i l)=i:=by rw[aW];omega
  have K:∀k,k<i->getD (α:=Opn) (List.take i l) k kG=getD (α:=Opn) l k kG:=fun k A=>by
   simp[aB,aL,A]
  (repeat' first|refine ZR ?_|refine Zg fun _=>?_);refine Ask.mk ⟨{ X:=Nat,pre:=fun k=>k<=i/\∀j,j<k->¬uQ (getD (α:=Opn) l i kG) (getD (α:=Opn) l j kG),mod:=fun k _=>[(37,I k)],heap:=fun k H=>H,mu:=fun k=>i-k },rfl,?_⟩;(repeat refine ZG ?_);refine ⟨⟨(0:Nat),⟨aF _,fun j x=>absurd x (aT j)⟩,ZE⟩,fun (k:Nat) A=>?_⟩;obtain ⟨A,J⟩:k<=i/\∀j,j<k->¬uQ (getD (α:=Opn) l i kG) (getD (α:=Opn) l j kG):=A;by_cases m:k<i
  ·have z:=K k m;by_cases B:uQ (getD (α:=Opn) l i kG) (getD (α:=Opn) l k kG)
   ·have g:¬M:=fun q=>u.2 q i c k m B;rw[<- z] at B;exact ZRx g
   have E:=eD (f:=fun j=>¬uQ (getD (α:=Opn) l i kG) (getD (α:=Opn) l j kG)) J B;rw[<- z] at B;(repeat' first|refine ZR ?_|refine Zg fun _=>?_);refine ⟨(k+1:Nat),by show i-(k+1)<i-k;omega,⟨m,E⟩,ZE⟩
  have e:k=i:=om;subst e;have s:=eD (f:=fun i=>∀k,k<i->¬uQ (getD (α:=Opn) l i kG) (getD (α:=Opn) l k kG)) o J;(repeat refine ZR ?_);refine ⟨(k+1:Nat),by show length (α:=Opn) l-(k+1)<length (α:=Opn) l-k;omega,⟨c,s⟩,ZE⟩
 have e:i=length (α:=Opn) l:=om;subst e;have g:M:=u.1 o;exact ZRx g
def Fi (L:List Sid)(l:List Opn)(i:Nat):Prop:=¬gL (getD (α:=Opn) l i kG).1 0 ((length (α:=Sid) L:Int)-1)
def c5111:Con:=aV 111 true fun | [.agg [.val (.int .i64 s),.str a,.str b,.str c,.str d],.lelem [.seq (.pair (.int .i64) (.pair (.int .i64) (.pair (.int .i64) (.pair (.int .i64) (.pair .bool (.pair (.int .i64) (.int .i64))))))) L] 0],K=>K (.bl (¬gL s 0 ((length (α:=Sid) L:Int)-1)) Cp) | _,_=>False
theorem k5111:aM Tp c5111:=by
 refine kQ {} Tryz.func111 Tryz.ntmps111 (kc JX kn) fun _ _ h=>?_;split at h;case h_2=>cases h
 refine kb h ?_;(repeat' first|refine ZR ?_|refine Zg fun _=>?_);(conv=>whnf)
def c5164:Con:=aV 164 true fun | [.seq (.pair (.int .i64) (.pair .str (.pair .str (.pair .str .str)))) l,.clo 111 [] [.lelem [.seq (.pair (.int .i64) (.pair (.int .i64) (.pair (.int .i64) (.pair (.int .i64) (.pair .bool (.pair (.int .i64) (.int .i64))))))) L] 0]],K=>K (I (EC (Fi L l) (length (α:=Opn) l))) | _,_=>False
theorem k5164:aM Tp c5164:=by
 refine kQ { asks:=[(0,[])] } Tryz.func164 Tryz.ntmps164 (kc k5111 kn) fun _ _ h=>?_;split at h;case h_2=>cases h
 rename_i l L;change List Opn at l;change List Sid at L;refine kb h ?_;(repeat'((conv=>whnf);first|refine Zg fun _=>?_|fail));refine Ask.mk ⟨{ X:=Nat,pre:=fun i=>i<=length (α:=Opn) l/\∀j,j<i->(¬Fi L l j),mod:=fun i _=>[(8,I i)],heap:=fun i H=>H,mu:=fun i=>length (α:=Opn) l-i },rfl,?_⟩;(repeat refine ZG ?_);refine ⟨⟨(0:Nat),⟨aF _,fun j o=>absurd o (aT j)⟩,ZE⟩,fun (i:Nat) hi=>?_⟩;obtain ⟨hi,m⟩:i<=length (α:=Opn) l/\∀j,j<i->(¬Fi L l j):=hi;by_cases c:i<length (α:=Opn) l
 ·by_cases g:Fi L l i
  ·have e1:=Uy c m g;rw[e1];unfold Fi at g;exact ZRF
  have n:=eD (f:=fun j=>¬Fi L l j) m g;unfold Fi at g;(repeat' first|refine ZR ?_|refine Zg fun _=>?_);refine ⟨(i+1:Nat),by show length (α:=Opn) l-(i+1)<length (α:=Opn) l-i;omega,⟨c,n⟩,ZE⟩
 have e1:EC (Fi L l) (length (α:=Opn) l)= -1:=Ux fun j o=>m j om;have e:i=length (α:=Opn) l:=om;rw[e1];subst e;exact ZRF
def c5110:Con:=aV 110 true fun | [.seq (.pair (.int .i64) (.pair .str (.pair .str (.pair .str .str)))) l,.clo 111 [] [.lelem [.seq (.pair (.int .i64) (.pair (.int .i64) (.pair (.int .i64) (.pair (.int .i64) (.pair .bool (.pair (.int .i64) (.int .i64))))))) L] 0]],K=>K (.bl (¬ ∀i,i<length (α:=Opn) l->¬Fi L l i) Cp) | _,_=>False
theorem k5110:aM Tp c5110:=by
 refine kQ {} Tryz.func110 Tryz.ntmps110 (kc k5164 kn) fun _ _ h=>?_;split at h;case h_2=>cases h
 rename_i l L;change List Opn at l;change List Sid at L;refine kb h ?_;have c:=OX (P:=Fi L l) (n:=length (α:=Opn) l);generalize (¬ ∀i,i<length (α:=Opn) l->¬Fi L l i)=M at*;(conv=>whnf);exact c
def JY (l:List Siz)(i k:Nat):Prop:=¬ ∀j,j<i->(getD (α:=Siz) l j (0,0,0)).1≠(k:Int)
theorem JZ (l:List Siz)(k:Nat):¬JY l 0 k:=fun q=>q fun j c=>absurd c (aT j)
theorem J0 {l:List Siz}{i k:Nat}(h:(getD (α:=Siz) l i (0,0,0)).1=(k:Int)):JY l (i+1) k:=fun q=>q i (iK i) h
theorem GS {l:List Siz}{i k:Nat}(h:(getD (α:=Siz) l i (0,0,0)).1≠(k:Int)):JY l i k↔JY l (i+1) k:=by
 unfold JY;refine not_congr ⟨fun q j c=>?_,fun q j c=>q j om⟩;by_cases e:j=i
 ·subst e;exact h
 exact q j om
abbrev GU (l:List Siz)(i k:Nat):SV:=.bl (JY l i k) Cp
abbrev snA (l:List Siz)(i:Nat):List SV:=[GU l i 0,GU l i 1,GU l i 2,GU l i 3,GU l i 4,GU l i 5,GU l i 6,GU l i 7,GU l i 8,GU l i 9,GU l i 10,GU l i 11,GU l i 12]
def c5057:Con:=aV 57 true fun | [.seq (.pair (.int .i64) (.pair (.int .i64) (.int .i64))) l],K=>K (I (timE l)) | _,_=>False
theorem k5057:aM Tp c5057:=by
 refine kQ { asks:=[(0,[])] } Tryz.func57 Tryz.ntmps57 kn fun _ _ h=>?_;split at h;case h_2=>cases h
 rename_i l;change List Siz at l;refine kb h ?_;(repeat'((conv=>whnf);first|refine Zg fun _=>?_|fail));refine Ask.mk ⟨{ X:=Nat,pre:=fun i=>i<=length (α:=Siz) l/\∀j,j<i->wT l j=0,mod:=fun i _=>[(8,I i)],heap:=fun i _=>[.cells (snA l i) 139],mu:=fun i=>length (α:=Siz) l-i },rfl,?_⟩;(repeat refine ZG ?_)
 refine ⟨⟨(0:Nat),⟨aF _,fun j o=>absurd o (aT j)⟩,by
  (repeat' first|exact trivial|rfl|apply aA)
  all_goals exact JZ l _⟩,fun (i:Nat) hi=>?_⟩
 obtain ⟨hi,u⟩:i<=length (α:=Siz) l/\∀j,j<i->wT l j=0:=hi;by_cases c:i<length (α:=Siz) l
 ·by_cases x:(getD (α:=Siz) l i (0,0,0)).1<1\/13<=(getD (α:=Siz) l i (0,0,0)).1
  ·have e1:wT l i=8:=by unfold wT;rw[aE x]
   have e2:timE l=8:=by unfold timE;rw[eZ c u (by rw[e1];decide),e1]
   rw[e2];(repeat'((conv=>whnf);first|refine Zg fun _=>?_|refine Zn ?_|refine Zj ?_|refine Zy ?_|refine Zr (fun _=>?_) fun _=>?_|fail));all_goals first
    | (exfalso;omega)
    | ((conv=>whnf);(repeat' first|rfl|apply aA))
  by_cases y:min (getD (α:=Siz) l i (0,0,0)).2.1 (getD (α:=Siz) l i (0,0,0)).2.2<1\/1000<max (getD (α:=Siz) l i (0,0,0)).2.1 (getD (α:=Siz) l i (0,0,0)).2.2
  ·have e1:wT l i=2:=by unfold wT;rw[aD x,aE y]
   have e2:timE l=2:=by unfold timE;rw[eZ c u (by rw[e1];decide),e1]
   rw[e2];(repeat'((conv=>whnf);first|refine Zg fun _=>?_|refine Zn ?_|refine Zj ?_|refine Zy ?_|refine Zm ?_|refine Zr (fun _=>?_) fun _=>?_|fail));all_goals first
    | (exfalso;omega)
    | ((conv=>whnf);(repeat' first|rfl|apply aA))
  have g:∃k:Nat,k<13/\(getD (α:=Siz) l i (0,0,0)).1=(k:Int):=⟨(getD (α:=Siz) l i (0,0,0)).1.toNat,om,om⟩;obtain ⟨k,B,g⟩:=g;have E:k≠0:=om;have C:∀m:Nat,m≠k->(JY l i m↔JY l (i+1) m):=fun m F=>GS om;have D:=J0 g;have n:JY l i k->wT l i=7:=fun s=>by
   unfold wT;rw[aD x,aD y,aD (fun q=>s fun j o=>by rw[<- g];exact q j o)]
  have z:¬JY l i k->wT l i=0:=fun s=>by
   unfold wT;rw[aD x,aD y,aE (fun j o=>by rw[g];exact bG.1 s j o)]
  by_cases s:JY l i k
  ·have n:=n s;have e2:timE l=7:=by unfold timE;rw[eZ c u (by rw[n];decide),n]
   rw[e2];clear C D n z e2;have:k=1\/k=2\/k=3\/k=4\/k=5\/k=6\/k=7\/k=8\/k=9\/k=10\/k=11\/k=12:=om;rcases this with rfl | rfl | rfl | rfl | rfl | rfl | rfl | rfl | rfl | rfl | rfl | rfl;all_goals
    (repeat' first|refine ZR ?_|refine Zg fun _=>?_);refine Kk _ g ?_;exact ZRF
  have A:=oN (f:=wT l) u (z s);clear n z;have:k=1\/k=2\/k=3\/k=4\/k=5\/k=6\/k=7\/k=8\/k=9\/k=10\/k=11\/k=12:=om;rcases this with rfl | rfl | rfl | rfl | rfl | rfl | rfl | rfl | rfl | rfl | rfl | rfl;all_goals
   (repeat' first|refine ZR ?_|refine Zg fun _=>?_);refine Kk _ g ?_;(repeat refine ZR ?_);refine Kk _ g ?_;(repeat refine ZR ?_);refine ⟨(i+1:Nat),by show length (α:=Siz) l-(i+1)<length (α:=Siz) l-i;omega,⟨c,A⟩,?_⟩;(repeat' first|exact trivial|rfl|apply aA);all_goals first
    | exact C _ de
    | exact D
 have e1:timE l=0:=jL fun j o=>u j om;have e:i=length (α:=Siz) l:=om;rw[e1];subst e;exact ZRF
def c5113:Con:=aV 113 true fun | [.val (.int .i64 n),.val (.int .i64 f),.val (.int .i64 t)],K=>K (.bl (gL n f t) Cp) | _,_=>False
theorem k5113:aM Tp c5113:=by
 refine kQ {} Tryz.func113 Tryz.ntmps113 kn fun _ _ h=>?_;split at h;case h_2=>cases h
 rename_i n f t;refine kb h ?_;have e:gL n f t↔(f<=n/\n<=t):=cJ;generalize gL n f t=M at*;by_cases h:f<=n
 ·have c:n<=t↔M:=⟨fun q=>e.2 ⟨h,q⟩,fun q=>(e.1 q).2⟩;(repeat refine ZR ?_);(conv=>whnf);exact c
 have c:¬M:=fun q=>h (e.1 q).1;(repeat refine ZR ?_);(conv=>whnf);exact c
def c5060:Con:=aV 60 true fun | [.agg [.val (.int .i64 a),.val (.int .i64 b),.val (.int .i64 c),.val (.int .i64 d)]],K=>K (I (if xZ (a,b,c,d) then 0 else 2)) | _,_=>False
theorem k5060:aM Tp c5060:=by
 refine kQ {} Tryz.func60 Tryz.ntmps60 (kc k5113 kn) fun _ _ h=>?_;split at h;case h_2=>cases h
 rename_i a b c d;refine kb h ?_;have e:xZ (a,b,c,d)↔(gL a 1 2000/\gL b 1 2000/\gL c 0 (b-1)/\gL d 0 1000):=cJ;by_cases g:gL a 1 2000
 ·by_cases f:gL b 1 2000
  ·have o:1<=b/\b<=2000:=f;by_cases m:gL c 0 (b-1)
   ·by_cases n:gL d 0 1000
    ·rw[aE (e.2 ⟨g,f,m,n⟩)];clear e;exact ZRF
    rw[aD fun q=>n (e.1 q).2.2.2];clear e;exact ZRF
   rw[aD fun q=>m (e.1 q).2.2.1];clear e;exact ZRF
  rw[aD fun q=>f (e.1 q).2.1];clear e;exact ZRF
 rw[aD fun q=>g (e.1 q).1];clear e;exact ZRF
def c5167:Con:=aV 167 true fun | [.str a],K=>K (I (max ((digs (qI a).1).length:Int) ((qI a).2.length:Int))) | _,_=>False
theorem k5167:aM Tp c5167:=by
 refine kQ {} Tryz.func167 Tryz.ntmps167 (kc k13 (kc VH kn)) fun _ _ h=>?_;split at h;case h_2=>cases h
 refine kb h ?_;have c:((⟨#[45]⟩:ByteArray).data.toList)= [45]:=rfl;exact ZRF
def c5114:Con:=aV 114 true fun | [.str a],K=>K (I (sX a)) | _,_=>False
theorem k5114:aM Tp c5114:=by
 refine kQ {} Tryz.func114 Tryz.ntmps114 (kc k21 (kc k5167 (kc k91 kn))) fun _ _ h=>?_;split at h;case h_2=>cases h
 rename_i a;refine kb h ?_;have m:((⟨#[45]⟩:ByteArray).data.toList)= [45]:=rfl;by_cases h:dD a=0
 ·by_cases c:20<(digs (qI a).1).length\/20<(qI a).2.length
  ·have e:sX a=4:=by unfold sX;rw[aE h,aE c]
   have g:20<max ((digs (qI a).1).length:Int) ((qI a).2.length:Int):=om;rw[e];exact ZRF
  have g:¬20<max ((digs (qI a).1).length:Int) ((qI a).2.length:Int):=om;by_cases f:a.headD 0=45
  ·have e:sX a=2:=by unfold sX;rw[aE h,aD c,aE f]
   rw[e];exact ZRF
  have e:sX a=0:=by unfold sX;rw[aE h,aD c,aD f]
  rw[e];exact ZRF
 have e:sX a=dD a:=by unfold sX;rw[aD h]
 rw[e];exact ZRF
def c5061:Con:=aV 61 true fun | [.seq (.pair (.int .i64) (.pair (.int .i64) .str)) l],K=>K (I (qF l)) | _,_=>False
theorem k5061:aM Tp c5061:=by
 refine kQ { asks:=[(0,[])] } Tryz.func61 Tryz.ntmps61 (kc k5114 kn) fun _ _ h=>?_;split at h;case h_2=>cases h
 rename_i l;change List Lod at l;refine kb h ?_;by_cases m:64<length (α:=Lod) l
 ·have e:qF l=4:=aE m;rw[e];exact ZRF
 have s:qF l=rO (fun i=>Gr (getD (α:=Lod) l i (0,0,[]))) (length (α:=Lod) l):=aD m;(repeat' first|refine ZR ?_|refine Zg fun _=>?_);refine Ask.mk ⟨{ X:=Nat,pre:=fun i=>i<=length (α:=Lod) l/\∀j,j<i->(Gr (getD (α:=Lod) l j (0,0,[]))=0),mod:=fun i _=>[(11,I i)],heap:=fun i H=>H,mu:=fun i=>length (α:=Lod) l-i },rfl,?_⟩;(repeat refine ZG ?_);refine ⟨⟨(0:Nat),⟨aF _,fun j A=>absurd A (aT j)⟩,ZE⟩,fun (i:Nat) hi=>?_⟩;obtain ⟨hi,o⟩:i<=length (α:=Lod) l/\∀j,j<i->(Gr (getD (α:=Lod) l j (0,0,[]))=0):=hi;by_cases n:i<length (α:=Lod) l
 ·have g:=fun h=>eZ (f:=fun i=>Gr (getD (α:=Lod) l i (0,0,[]))) n o h;have c:=fun h=>oN (f:=fun j=>Gr (getD (α:=Lod) l j (0,0,[]))) o h;rw[<- s] at g;clear s o;have e1:Gr (getD (α:=Lod) l i (0,0,[]))=if (getD (α:=Lod) l i (0,0,[])).1<1\/3<(getD (α:=Lod) l i (0,0,[])).1 then 8 else if (getD (α:=Lod) l i (0,0,[])).2.1 < -1\/24<=(getD (α:=Lod) l i (0,0,[])).2.1 then 2 else sX (getD (α:=Lod) l i (0,0,[])).2.2:=rfl;by_cases x:(getD (α:=Lod) l i (0,0,[])).1<1\/3<(getD (α:=Lod) l i (0,0,[])).1
  ·rw[aE x] at e1;have e2:qF l=8:=(g (by rw[e1];decide)).trans e1;rw[e2];clear g c e1 e2;(repeat'((conv=>whnf);first|refine Zg fun _=>?_|refine Zn ?_|refine Zj ?_|refine Zy ?_|refine Zr (fun _=>?_) fun _=>?_|fail));all_goals first
    | (exfalso;omega)
    | ((conv=>whnf);(repeat' first|rfl|apply aA))
  rw[aD x] at e1;by_cases y:(getD (α:=Lod) l i (0,0,[])).2.1 < -1\/24<=(getD (α:=Lod) l i (0,0,[])).2.1
  ·rw[aE y] at e1;have e2:qF l=2:=(g (by rw[e1];decide)).trans e1;rw[e2];clear g c e1 e2;(repeat'((conv=>whnf);first|refine Zg fun _=>?_|refine Zn ?_|refine Zj ?_|refine Zy ?_|refine Zm ?_|refine Zr (fun _=>?_) fun _=>?_|fail));all_goals first
    | (exfalso;omega)
    | ((conv=>whnf);(repeat' first|rfl|apply aA))
  rw[aD y] at e1;by_cases z:sX (getD (α:=Lod) l i (0,0,[])).2.2=0
  ·have u:=c (e1.trans z);clear g c e1;(repeat' first|refine ZR ?_|refine Zg fun _=>?_);refine ⟨(i+1:Nat),by show length (α:=Lod) l-(i+1)<length (α:=Lod) l-i;omega,⟨n,u⟩,ZE⟩
  have e2:qF l=sX (getD (α:=Lod) l i (0,0,[])).2.2:=(g (by rw[e1];exact z)).trans e1;rw[e2];clear g c e1 e2;exact ZRF
 have e1:qF l=0:=s.trans (jL fun j A=>o j om);have e:i=length (α:=Lod) l:=om;rw[e1];subst e;exact ZRF
def c5116:Con:=aV 116 true fun | [.val (.int .i64 n),.val (.int .i64 f),.val (.int .i64 t)],K=>K (.bl (gL n f t) Cp) | _,_=>False
theorem J1:aM Tp c5116:=by
 refine kQ {} Tryz.func116 Tryz.ntmps116 kn fun _ _ h=>?_;split at h;case h_2=>cases h
 rename_i n f t;refine kb h ?_;have e:gL n f t↔(f<=n/\n<=t):=cJ;generalize gL n f t=M at*;by_cases h:f<=n
 ·have c:n<=t↔M:=⟨fun q=>e.2 ⟨h,q⟩,fun q=>(e.1 q).2⟩;(repeat refine ZR ?_);(conv=>whnf);exact c
 have c:¬M:=fun q=>h (e.1 q).1;(repeat refine ZR ?_);(conv=>whnf);exact c
def c5169:Con:=aV 169 true fun | [.val (.int .i64 s),.val (.int .i64 l)],K=>K (.bl (gL s 1 65536/\gL l 0 1048576) Cp) | _,_=>False
theorem k5169:aM Tp c5169:=by
 refine kQ {} Tryz.func169 Tryz.ntmps169 (kc J1 kn) fun _ _ h=>?_;split at h;case h_2=>cases h
 rename_i s l;refine kb h ?_;by_cases h:gL s 1 65536
 ·have c:gL l 0 1048576↔(gL s 1 65536/\gL l 0 1048576):=⟨fun q=>⟨h,q⟩,fun q=>q.2⟩;generalize (gL s 1 65536/\gL l 0 1048576)=M at*;(repeat refine ZR ?_);(conv=>whnf);exact c
 have c:¬(gL s 1 65536/\gL l 0 1048576):=fun q=>h q.1;generalize (gL s 1 65536/\gL l 0 1048576)=M at*;(repeat refine ZR ?_);(conv=>whnf);exact c
def Dt (w d s l:Int):Prop:=(gL w 1 1000/\gL d 1 1000)/\gL s 1 65536/\gL l 0 1048576
def c5115:Con:=aV 115 true fun | [.val (.int .i64 w),.val (.int .i64 d),.val (.int .i64 s),.val (.int .i64 l)],K=>K (.bl (Dt w d s l) Cp) | _,_=>False
theorem k5115:aM Tp c5115:=by
 refine kQ {} Tryz.func115 Tryz.ntmps115 (kc J1 (kc k5169 kn)) fun _ _ h=>?_;split at h;case h_2=>cases h
 rename_i w d s l;refine kb h ?_;have c:Dt w d s l↔((gL w 1 1000/\gL d 1 1000)/\gL s 1 65536/\gL l 0 1048576):=cJ;generalize Dt w d s l=M at*;by_cases f:gL w 1 1000
 ·by_cases g:gL d 1 1000
  ·have e:(gL s 1 65536/\gL l 0 1048576)↔M:=⟨fun q=>c.2 ⟨⟨f,g⟩,q⟩,fun q=>(c.1 q).2⟩;clear c;(repeat refine ZR ?_);(conv=>whnf);exact e
  have e:¬M:=fun q=>g (c.1 q).1.2;clear c;(repeat refine ZR ?_);(conv=>whnf);exact e
 have e:¬M:=fun q=>f (c.1 q).1.1;clear c;(repeat refine ZR ?_);(conv=>whnf);exact e
def c5170:Con:=aV 170 true fun | [.seq (.int .i64) l],K=>K (I (rO (fun i=>getD (α:=Int) l i 0) (length (α:=Int) l))) | _,_=>False
theorem QY:aM Tp c5170:=by
 refine kQ { asks:=[(0,[])] } Tryz.func170 Tryz.ntmps170 kn fun _ _ h=>?_;split at h;case h_2=>cases h
 rename_i l;refine kb h ?_;(repeat'((conv=>whnf);first|refine Zg fun _=>?_|fail));refine Ask.mk ⟨{ X:=Nat,pre:=fun i=>i<=length (α:=Int) l/\∀j,j<i->(getD (α:=Int) l j 0=0),mod:=fun i _=>[(8,I i)],heap:=fun i H=>H,mu:=fun i=>length (α:=Int) l-i },rfl,?_⟩;(repeat refine ZG ?_);refine ⟨⟨(0:Nat),⟨aF _,fun j o=>absurd o (aT j)⟩,ZE⟩,fun (i:Nat) hi=>?_⟩;obtain ⟨hi,g⟩:i<=length (α:=Int) l/\∀j,j<i->(getD (α:=Int) l j 0=0):=hi;by_cases c:i<length (α:=Int) l
 ·by_cases n:getD (α:=Int) l i 0=0
  ·have m:=oN (f:=fun j=>getD (α:=Int) l j 0) g n;(repeat' first|refine ZR ?_|refine Zg fun _=>?_);refine ⟨(i+1:Nat),by show length (α:=Int) l-(i+1)<length (α:=Int) l-i;omega,⟨c,m⟩,ZE⟩
  rw[eZ (f:=fun j=>getD (α:=Int) l j 0) c g n];exact ZRF
 have e:i=length (α:=Int) l:=om;rw[jL (f:=fun j=>getD (α:=Int) l j 0) fun j o=>g j om];subst e;exact ZRF
def XI (a b c d:Int):Int:=rO (fun i=>getD (α:=Int) [a,b,c,d] i 0) 4
theorem J2 (a b c d:Int):XI a b c d=if a=0 then (if b=0 then (if c=0 then (if d=0 then 0 else d) else c) else b) else a:=rfl
def c5117:Con:=aV 117 true fun | [.agg [.val (.int .i64 a),.val (.int .i64 b),.val (.int .i64 c),.val (.int .i64 d),.val (.int .i64 e)],.agg [.val (.int .i64 a'),.val (.int .i64 b'),.val (.int .i64 c'),.val (.int .i64 d'),.val (.int .i64 e')]],K=>Need ((Dt a b c d/\Dt a' b' c' d')) (K (I (XI (a-a') (b-b') (c-c') (d-d')))) | _,_=>False
theorem k5117:aM Tp c5117:=by
 refine kQ {} Tryz.func117 Tryz.ntmps117 (kc QY kn) fun _ _ h=>?_;split at h;case h_2=>cases h
 refine kb h.go ?_;replace h:=h.ok;obtain ⟨⟨⟨⟨u,c⟩,x,e⟩,⟨y,f⟩,z,g⟩,⟨⟨A,m⟩,B,n⟩,⟨C,o⟩,D,s⟩:=h;exact ZRF
theorem ED (a b:Alw):0<=XI (a.1-b.1) (a.2.1-b.2.1) (a.2.2.1-b.2.2.1) (a.2.2.2.1-b.2.2.2.1)↔¬Jr a b:=by
 rw[J2];unfold Jr;split
 ·split
  ·split
   ·split<;>omega
   omega
  omega
 omega
def c5062:Con:=aV 62 true fun | [.seq (.pair (.int .i64) (.pair (.int .i64) (.pair (.int .i64) (.pair (.int .i64) (.int .i64))))) l],K=>K (I (wU l)) | _,_=>False
theorem k5062:aM Tp c5062:=by
 refine kQ { asks:=[(0,[])] } Tryz.func62 Tryz.ntmps62 (kc k5115 (kc J1 (kc k5117 kn))) fun _ _ h=>?_;split at h;case h_2=>cases h
 rename_i l;change List Alw at l;refine kb h ?_;by_cases s:4096<length (α:=Alw) l
 ·have e:wU l=4:=aE s;rw[e];exact ZRF
 have C:wU l=rO (Dr l) (length (α:=Alw) l):=aD s;(repeat' first|refine ZR ?_|refine Zg fun _=>?_);refine Ask.mk ⟨{ X:=Nat,pre:=fun i=>i<=length (α:=Alw) l/\∀j,j<i->(Dr l j=0),mod:=fun i _=>[(10,I i)],heap:=fun i H=>H,mu:=fun i=>length (α:=Alw) l-i },rfl,?_⟩;(repeat refine ZG ?_);refine ⟨⟨(0:Nat),⟨aF _,fun j A=>absurd A (aT j)⟩,ZE⟩,fun (i:Nat) hi=>?_⟩;obtain ⟨hi,u⟩:i<=length (α:=Alw) l/\∀j,j<i->(Dr l j=0):=hi;by_cases m:i<length (α:=Alw) l
 ·have g:=fun h=>(C.trans (eZ (f:=Dr l) m u h));have c:=fun h=>oN (f:=Dr l) u h;have x:∀j,j<i->Um (getD (α:=Alw) l j (0,0,0,0,0)):=fun j A=>by
   have:=u j A;unfold Dr at this;apply aS;intro q;rw[aE q] at this;exact absurd this de
  have e1:Dr l i=if ¬Um (getD (α:=Alw) l i (0,0,0,0,0)) then 2 else if 0<i/\¬Jr (getD (α:=Alw) l (i-1) (0,0,0,0,0)) (getD (α:=Alw) l i (0,0,0,0,0)) then 10 else 0:=rfl;clear C u;have o:Um (getD (α:=Alw) l i (0,0,0,0,0))↔(Dt (getD (α:=Alw) l i (0,0,0,0,0)).1 (getD (α:=Alw) l i (0,0,0,0,0)).2.1 (getD (α:=Alw) l i (0,0,0,0,0)).2.2.1 (getD (α:=Alw) l i (0,0,0,0,0)).2.2.2.1/\gL (getD (α:=Alw) l i (0,0,0,0,0)).2.2.2.2 1 65536):=cJ;by_cases B:Dt (getD (α:=Alw) l i (0,0,0,0,0)).1 (getD (α:=Alw) l i (0,0,0,0,0)).2.1 (getD (α:=Alw) l i (0,0,0,0,0)).2.2.1 (getD (α:=Alw) l i (0,0,0,0,0)).2.2.2.1
  ·by_cases D:gL (getD (α:=Alw) l i (0,0,0,0,0)).2.2.2.2 1 65536
   ·rw[aD (fun q=>q (o.2 ⟨B,D⟩))] at e1;clear o;by_cases E:0<i
    ·have F:=(x (i-1) om).1;have J:Dt (getD (α:=Alw) l (i-1) (0,0,0,0,0)).1 (getD (α:=Alw) l (i-1) (0,0,0,0,0)).2.1 (getD (α:=Alw) l (i-1) (0,0,0,0,0)).2.2.1 (getD (α:=Alw) l (i-1) (0,0,0,0,0)).2.2.2.1:=F;have W:=aA J B;have y:=ED (getD (α:=Alw) l (i-1) (0,0,0,0,0)) (getD (α:=Alw) l i (0,0,0,0,0));clear F x;by_cases z:Jr (getD (α:=Alw) l (i-1) (0,0,0,0,0)) (getD (α:=Alw) l i (0,0,0,0,0))
     ·rw[aD (fun q=>q.2 z)] at e1;have K:=fun q=>y.1 q z;have n:=c e1;clear g c e1 y;(repeat'((conv=>whnf);first|refine Zg fun _=>?_|refine Zn ?_|refine Zj ?_|apply pI|apply pJ|refine Zy ?_|refine Zm ?_|fail));refine Kk (i-1) om ?_;(repeat'((conv=>whnf);first|refine Zg fun _=>?_|refine Zn ?_|apply pI|apply pJ|refine Zm ?_|fail));refine ⟨(i+1:Nat),by show length (α:=Alw) l-(i+1)<length (α:=Alw) l-i;omega,⟨m,n⟩,ZE⟩
     rw[aE ⟨E,z⟩] at e1;have K:=y.2 z;have e2:wU l=10:=(g (by rw[e1];decide)).trans e1;rw[e2];clear g c e1 e2 y;(repeat'((conv=>whnf);first|refine Zg fun _=>?_|refine Zn ?_|refine Zj ?_|apply pI|apply pJ|refine Zy ?_|refine Zm ?_|fail));refine Kk (i-1) om ?_;(repeat'((conv=>whnf);first|refine Zg fun _=>?_|refine Zn ?_|apply pI|apply pJ|refine Zy ?_|fail));exact ZF
    rw[aD (fun q=>E q.1)] at e1;have n:=c e1;clear g c e1 x;(repeat'((conv=>whnf);first|refine Zg fun _=>?_|refine Zn ?_|refine Zj ?_|apply pI|apply pJ|refine Zy ?_|refine Zm ?_|fail));refine ⟨(i+1:Nat),by show length (α:=Alw) l-(i+1)<length (α:=Alw) l-i;omega,⟨m,n⟩,ZE⟩
   rw[aE (fun q=>D (o.1 q).2)] at e1;have e2:wU l=2:=(g (by rw[e1];decide)).trans e1;rw[e2];clear g c e1 e2 o x;exact ZRF
  rw[aE (fun q=>B (o.1 q).1)] at e1;have e2:wU l=2:=(g (by rw[e1];decide)).trans e1;rw[e2];clear g c e1 e2 o x;exact ZRF
 have e1:wU l=0:=C.trans (jL fun j A=>u j om);have e:i=length (α:=Alw) l:=om;rw[e1];subst e;exact ZRF
end RB
end

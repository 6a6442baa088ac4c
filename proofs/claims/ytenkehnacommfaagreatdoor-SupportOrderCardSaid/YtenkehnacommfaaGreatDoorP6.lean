/-
  Part 6: a symbolic executor over the model, contracts of functions and plain laws.
-/
import Derived.Test.YtenkehnacommfaaGreatDoorP5
import Init.Data.Rat
set_option linter.unusedVariables false
set_option linter.unusedSimpArgs false
set_option maxRecDepth 10000
set_option maxHeartbeats 80000000
noncomputable section
section
open Go Go.Proofs Go.Eng Go.Shelf IB Go.Lib Go.RowKit Tryz
namespace RB
def c84:Con:=aR 158 true fun | [.val (.int .i64 a),.val (.int .i64 b)],K=>Need ((0<=a/\a<=4611686018427387904)/\(0<=b/\b<=4611686018427387904)) (K (I (Int.gcd a b))) | _,_=>False
theorem k84:aO Tp c84:=by
 refine kQ { asks:=[(0,[])] } func158 ntmps158 kn fun _ _ h=>?_;split at h;case h_2=>cases h
 rename_i a b;refine kb h.go ?_;replace h:=h.ok;obtain ⟨ha,hb⟩:=h;refine Ask.mk ⟨{ X:=Int × Int,pre:=fun z=>Int.gcd z.1 z.2=Int.gcd a b/\(0<=z.1/\z.1<=4611686018427387904)/\(0<=z.2/\z.2<=4611686018427387904),mod:=fun z _=>[(0,I z.1),(1,I z.2)],heap:=fun _ _=>[],mu:=fun z=>z.2.natAbs },rfl,?_⟩;(repeat refine ZG ?_);refine ⟨⟨(a,b),⟨rfl,ha,hb⟩,ZE⟩,fun (z:Int × Int) hz=>?_⟩;obtain ⟨z1,z2,z3⟩:=hz;(apply Br.mk<;>intro)
 ·rename_i hy;have hm:(z.1.tmod z.2).natAbs<z.2.natAbs:=by rw[iD];exact dO _ om
  have hm0:0<=z.1.tmod z.2:=sW _ z2.1;(repeat'((conv=>whnf);first|refine Za ?_|apply pI|apply pJ|fail));(conv=>whnf);refine ⟨(z.2,z.1.tmod z.2),hm,⟨by rw[<- z1];exact Em _ _,z3,hm0,by show z.1.tmod z.2<= _;omega⟩,?_⟩;(repeat' first|exact trivial|rfl|apply aA);exact (fR z2.1).symm
 rename_i hy;have hy:z.2=0:=om;have hg:((Int.gcd a b:Nat):Int)=z.1:=by
  rw[<- z1,hy,qA];omega
 rw[hg];exact ZF
theorem aIu {D:Bx} (hd:∀c∈D,cY c) {i:Nat} (h:i<=17):gfx D 0 i<100000000000000000:=by
 have hb:=iE ((D.take i).drop 0) fun c hc=>hd c (dG (kW hc));have hp:(10:Nat)^ ((D.take i).drop 0).length<=10^17:=bG om (by rw[bB,aY];omega);have h6:(10:Nat)^17=100000000000000000:=de;unfold gfx;omega
theorem aK4 (D:Bx):gfx D 0 D.length=aT D:=by
 unfold gfx;rw[eA,eX]
def c85:Con:=aR 159 true fun | [.str s],K=>Need ((∀c∈s,cY c)/\s.length<=18) (K (I (aT s))) | _,_=>False
theorem k85:aO Tp c85:=by
 refine kQ { asks:=[(0,[])] } func159 ntmps159 kn fun _ _ h=>?_;split at h;case h_2=>cases h
 rename_i s;refine kb h.go ?_;replace h:=h.ok;obtain ⟨hd,hl⟩:=h;refine Ask.mk ⟨{ X:=Nat,pre:=fun i=>i<=s.length,mod:=fun i _=>[(3,I (gfx s 0 i)),(4,I i)],heap:=fun _ _=>[],mu:=fun i=>s.length-i },rfl,?_⟩;(repeat refine ZG ?_);refine ⟨⟨(0:Nat),aK _,?_⟩,fun (i:Nat) (hi:i<=s.length)=>?_⟩
 ·(repeat' first|exact trivial|rfl|apply aA);all_goals (rw[Mo];rfl)
 by_cases hlt:i<s.length
 ·have hg:=aIu hd (i:=i) om;obtain ⟨e1,e2⟩:=Sm hd (aK _) hlt;(repeat' first|refine ZR ?_|refine Zg fun _=>?_);refine ⟨(i+1:Nat),by show s.length-(i+1)<s.length-i;omega,hlt,?_⟩;exact ZE
 have e:i=s.length:=om;subst e;rw[<- aK4];exact ZRF
instance (s:Bx):Decidable (okD s):=Cp
theorem aDe {s:Bx} {i:Nat} (hi:i<s.length) (hb:bE s i<48\/bE s i>57):¬okD s:=by
 rw[qP];rintro ⟨_,h3,_⟩;have:=h3 _ (cT hi);rw[nR hi] at hb;unfold cY at this;omega
def c83:Con:=aR 157 true fun | [.str s],K=>K (.bl (okD s) inferInstance) | _,_=>False
theorem k83:aO Tp c83:=by
 refine kQ { asks:=[(0,[])] } func157 ntmps157 kn fun _ _ h=>?_;split at h;case h_2=>cases h
 rename_i s;refine kb h ?_;by_cases h0:s.length=0
 ·have hn:¬okD s:=by
   rw[qP];exact fun h=>h.1 (cI.1 h0)
  (repeat' first|refine ZR ?_|refine Zg fun _=>?_);(conv=>whnf);exact hn
 by_cases h1:s.length>1/\bE s 0=48
 ·obtain ⟨h1,h2⟩:=h1;have hn:¬okD s:=by
   rw[qP];rintro ⟨_,_,h3⟩;have:=(fW (s:=s) om 48).1 h2;rcases h3 with h3 | h3
   ·omega
   exact h3 this
  (repeat' first|refine ZR ?_|refine Zg fun _=>?_);(conv=>whnf);exact hn
 have h2:¬((s.length:Int)>1)\/((s.length:Int)>1/\¬(bE s 0=48)):=by
  by_cases e:bE s 0=48
  ·exact .inl fun h=>h1 ⟨om,e⟩
  by_cases e2:s.length>1
  ·exact .inr ⟨om,e⟩
  exact .inl om
 have h3:s.length=1\/s.headD 0≠48:=by
  rcases h2 with h2 | ⟨_,h2⟩
  ·exact .inl om
  exact .inr fun e=>h2 ((fW (s:=s) om 48).2 e)
 rcases h2 with h2 | ⟨h2,h4⟩
 all_goals (
  (repeat' first|refine ZR ?_|refine Zg fun _=>?_);refine Ask.mk ⟨{ X:=Nat,pre:=fun i=>i<=s.length/\∀j,j<i->48<=bE s j/\bE s j<=57,mod:=fun i _=>[(3,I i)],heap:=fun _ _=>[],mu:=fun i=>s.length-i },rfl,?_⟩;(repeat refine ZG ?_);refine ⟨⟨(0:Nat),⟨aK _,fun j h2=>om⟩,ZE⟩,fun (i:Nat) hi=>?_⟩;obtain ⟨hi1,hi3⟩:=hi;by_cases hlt:i<s.length
  ·by_cases c1:bE s i<48
   ·have hn:¬okD s:=aDe hlt (.inl c1);(repeat' first|refine ZR ?_|refine Zg fun _=>?_);(conv=>whnf);exact hn
   by_cases c2:bE s i>57
   ·have hn:¬okD s:=aDe hlt (.inr c2);(repeat' first|refine ZR ?_|refine Zg fun _=>?_);(conv=>whnf);exact hn
   (repeat' first|refine ZR ?_|refine Zg fun _=>?_);refine ⟨(i+1:Nat),by show s.length-(i+1)<s.length-i;omega,⟨om,fun j h4=>?_⟩,?_⟩
   ·by_cases e:j=i
    ·rw[e];omega
    exact hi3 j om
   exact ZE
  have e:i=s.length:=om;have hy:okD s:=by
   rw[qP];refine ⟨fun e=>h0 (by rw[e];rfl),fun c hc=>?_,h3⟩;obtain ⟨j,hj,e2⟩:=nW.1 hc;have:=hi3 j om;rw[nR hj,e2] at this;unfold cY;omega
  (repeat' first|refine ZR ?_|refine Zg fun _=>?_);(conv=>whnf);(repeat' first|apply aA)
  all_goals first | exact hy.1 | exact hy.2)
theorem Pn (c:UInt8) (r:Bx) (j:Nat):bE (c::r) (j+1)=bE r j:=by
 unfold bE;rfl
theorem Gn:∀(D:Bx) (i:Nat),i<=D.length->(∀j,j<i->¬bE D j=47)->(i=D.length\/(i<D.length/\bE D i=47))->topS D=D.take i/\botS D=D.drop i
 | [],i,h1,_,_=>by
  have:i=0:=by simpa using h1
  subst this;exact ⟨rfl,rfl⟩
 | c::r,0,_,_,h=>by
  rcases h with h | ⟨_,h⟩
  ·simp at h
  have hc:=(fW (s:=c::r) si 47).1 h;have hc:c=47:=hc;subst hc;constructor<;>simp[topS,botS]
 | c::r,i+1,h1,h2,h3=>by
  have hc:¬c=47:=fun e=>h2 0 om ((fW (s:=c::r) si 47).2 e)
  obtain ⟨q1,q2⟩:=Gn r i (by simpa using h1) (fun j hj=>by rw[<- Pn c];exact h2 (j+1) om) (by
   rcases h3 with h3 | ⟨h3,h4⟩
   ·exact .inl (by simpa using h3)
   exact .inr ⟨by simpa using h3,by rw[<- Pn c];exact h4⟩)
  unfold topS at q1 ⊢;unfold botS at q2 ⊢;rw[oV,oU];have hb:(c != 47)=true:=by simpa using hc
  rw[hb];simp only[if_true];exact ⟨by rw[q1];rfl,by rw[q2];rfl⟩
theorem Be (c:UInt8) (r:Bx):digs (c::r)=if c=45 then r else c::r:=rfl
theorem aIv (s:Bx):topS (digs s)=digs (topS s)/\botS (digs s)=botS s:=by
 cases s with
 | nil=>exact ⟨rfl,rfl⟩
 | cons c r=>
  by_cases h:c=45
  ·subst h;have e1:digs (45::r)=r:=by rw[Be,aD rfl]
   have e2:topS (45::r)=45::topS r:=by unfold topS;rw[oV];rfl
   have e3:botS (45::r)=botS r:=by unfold botS;rw[oU];rfl
   rw[e1,e2,e3];exact ⟨(by rw[Be,aD rfl]),rfl⟩
  have e1:digs (c::r)=c::r:=by rw[Be,aC h]
  rw[e1];refine ⟨?_,rfl⟩;unfold topS;rw[oV];split
  ·rw[Be,aC h]
  rfl
def c73:Con:=aR 156 true fun | [.str s],K=>K (.tup [.bl (s.headD 0=45) inferInstance,S (digs (topS s)),S (botS s).tail,.bl (¬botS s= []) inferInstance]) | _,_=>False
theorem k73:aO Tp c73:=by
 refine kQ { asks:=[(0,[])] } func156 ntmps156 kn fun _ _ h=>?_;split at h;case h_2=>cases h
 rename_i s;refine kb h ?_;obtain ⟨hT,hB⟩:=aIv s;rw[<- hT,<- hB];by_cases hm:0<s.length/\bE s 0=45
 ·obtain ⟨h0,hb⟩:=hm;have hD:=uU h0 hb;have hh:s.headD 0=45:=(fW h0 45).1 hb;have hi:bE s 0=45↔s.headD 0=45:=⟨fun _=>hh,fun _=>hb⟩;rw[hD];have hs:(s.drop 1).length<=s.length:=by have:=uT s;rw[hD] at this;omega
  (repeat' first|refine ZR ?_|refine Zg fun _=>?_);refine Ask.mk ⟨{ X:=Nat,pre:=fun i=>i<=(s.drop 1).length/\∀j,j<i->¬bE (s.drop 1) j=47,mod:=fun i _=>[(8,I i)],heap:=fun _ _=>[],mu:=fun i=>(s.drop 1).length-i },rfl,?_⟩;(repeat refine ZG ?_);refine ⟨⟨(0:Nat),⟨aK _,fun j h2=>om⟩,ZE⟩,fun (i:Nat) hi'=>?_⟩;obtain ⟨hi1,hi3⟩:=hi';by_cases hlt:i<(s.drop 1).length
  ·by_cases c1:bE (s.drop 1) i=47
   ·obtain ⟨w1,w2⟩:=Gn (s.drop 1) i hi1 hi3 (.inr ⟨hlt,c1⟩);have w3:(s.drop 1).drop (i+1)=((s.drop 1).drop i).tail:=List.tail_drop.symm;have w4:¬(s.drop 1).drop i= []:=fun h=>by
     have h9:((s.drop 1).drop i).length=0:=by rw[h];rfl
     rw[bB] at h9;omega
    rw[w1,w2];(repeat'((conv=>whnf);first|refine Zg fun _=>?_|refine Zn ?_|refine Zj ?_|apply pI|apply pJ|refine Zy ?_|fail));(conv=>whnf);(repeat' first|exact trivial|rfl|apply aA);all_goals first | exact hi | exact hh | exact w3 | exact w4
   (repeat' first|refine ZR ?_|refine Zg fun _=>?_);refine ⟨(i+1:Nat),by show (s.drop 1).length-(i+1)<(s.drop 1).length-i;omega,⟨om,fun j h4=>?_⟩,?_⟩
   ·by_cases e:j=i
    ·rw[e];exact c1
    exact hi3 j om
   exact ZE
  have e:i=(s.drop 1).length:=om;subst e;obtain ⟨w1,w2⟩:=Gn (s.drop 1) _ hi1 hi3 (.inl rfl);rw[eA] at w1;rw[oL] at w2;rw[w1,w2];(repeat' first|refine ZR ?_|refine Zg fun _=>?_);(conv=>whnf);(repeat' first|exact trivial|rfl|apply aA);all_goals first | exact hi | exact hh | exact fun h=>h rfl
 have hD:digs s=s:=rY fun h e=>hm ⟨h,e⟩;have hh:¬s.headD 0=45:=fun e=>by
  have h0:0<s.length:=dP fun h=>by rw[cI.1 h] at e;simp at e
  exact hm ⟨h0,(fW h0 45).2 e⟩
 have hm2:¬(0<(s.length:Int))\/(0<(s.length:Int)/\¬bE s 0=45):=by
  by_cases h:0<s.length
  ·exact .inr ⟨om,fun e=>hm ⟨h,e⟩⟩
  exact .inl om
 rw[hD];have hi:bE s 0=45↔s.headD 0=45:=by
  constructor
  ·intro e;by_cases h:0<s.length
   ·exact absurd ⟨h,e⟩ hm
   rw[cI.1 (show s.length=0 by omega)] at e;exact absurd e de
  exact fun e=>absurd e hh
 rcases hm2 with hm2 | ⟨hm2,hm3⟩
 ·skip;have hs:(s).length<=s.length:=by have:=uT s;rw[hD] at this;omega
  (repeat' first|refine ZR ?_|refine Zg fun _=>?_);refine Ask.mk ⟨{ X:=Nat,pre:=fun i=>i<=(s).length/\∀j,j<i->¬bE (s) j=47,mod:=fun i _=>[(8,I i)],heap:=fun _ _=>[],mu:=fun i=>(s).length-i },rfl,?_⟩;(repeat refine ZG ?_);refine ⟨⟨(0:Nat),⟨aK _,fun j h2=>om⟩,ZE⟩,fun (i:Nat) hi'=>?_⟩;obtain ⟨hi1,hi3⟩:=hi';by_cases hlt:i<(s).length
  ·exfalso;omega
  have e:i=(s).length:=om;subst e;obtain ⟨w1,w2⟩:=Gn (s) _ hi1 hi3 (.inl rfl);rw[eA] at w1;rw[oL] at w2;rw[w1,w2];(repeat' first|refine ZR ?_|refine Zg fun _=>?_);(conv=>whnf);(repeat' first|exact trivial|rfl|apply aA);all_goals first | exact hi | exact hh | exact fun h=>h rfl
 skip;have hs:(s).length<=s.length:=by have:=uT s;rw[hD] at this;omega
 (repeat' first|refine ZR ?_|refine Zg fun _=>?_);refine Ask.mk ⟨{ X:=Nat,pre:=fun i=>i<=(s).length/\∀j,j<i->¬bE (s) j=47,mod:=fun i _=>[(8,I i)],heap:=fun _ _=>[],mu:=fun i=>(s).length-i },rfl,?_⟩;(repeat refine ZG ?_);refine ⟨⟨(0:Nat),⟨aK _,fun j h2=>om⟩,ZE⟩,fun (i:Nat) hi'=>?_⟩;obtain ⟨hi1,hi3⟩:=hi';by_cases hlt:i<(s).length
 ·by_cases c1:bE (s) i=47
  ·obtain ⟨w1,w2⟩:=Gn (s) i hi1 hi3 (.inr ⟨hlt,c1⟩);have w3:(s).drop (i+1)=((s).drop i).tail:=List.tail_drop.symm;have w4:¬(s).drop i= []:=fun h=>by
    have h9:((s).drop i).length=0:=by rw[h];rfl
    rw[bB] at h9;omega
   rw[w1,w2];(repeat'((conv=>whnf);first|refine Zg fun _=>?_|refine Zn ?_|refine Zj ?_|apply pI|apply pJ|refine Zy ?_|fail));(conv=>whnf);(repeat' first|exact trivial|rfl|apply aA);all_goals first | exact hi | exact hh | exact w3 | exact w4
  (repeat' first|refine ZR ?_|refine Zg fun _=>?_);refine ⟨(i+1:Nat),by show (s).length-(i+1)<(s).length-i;omega,⟨om,fun j h4=>?_⟩,?_⟩
  ·by_cases e:j=i
   ·rw[e];exact c1
   exact hi3 j om
  exact ZE
 have e:i=(s).length:=om;subst e;obtain ⟨w1,w2⟩:=Gn (s) _ hi1 hi3 (.inl rfl);rw[eA] at w1;rw[oL] at w2;rw[w1,w2];(repeat' first|refine ZR ?_|refine Zg fun _=>?_);(conv=>whnf);(repeat' first|exact trivial|rfl|apply aA);all_goals first | exact hi | exact hh | exact fun h=>h rfl
def c116:Con:=aR 214 true fun args K=>match args with
 | [.agg [.bl p hp,.seq (.int .i64) a]]=>Need (lJ a/\a.length<=200) (K (S (itoa (@sgP p hp (valB B6 a)))))
 | [.agg [.val (.bool false),.seq (.int .i64) a]]=>Need (lJ a/\a.length<=200) (K (S (itoa (valB B6 a))))
 | _=>False
theorem pow6 (k:Nat):(B6:Nat)^k=10^ (6*k):=by
 rw[show B6=10^6 by decide,<- Nat.pow_mul]
theorem Sn {k:Nat} (h:k<=300):10^k<=B6^50:=by
 rw[pow6];obtain ⟨m,hm⟩:∃m,6*50=m:=⟨_,rfl⟩;rw[hm];exact bG om om
theorem pX {s:Bx} (h:form s) (hl:(digs s).length<=300):aT (digs s)<B6^50:=
 aZ (iE (digs s) h.2.2) (Sn hl)
theorem qI {s:Bx} (h:form s) (hl:s.length<=17): -1000000000000000000<valI s/\valI s<1000000000000000000:=lH h om
theorem aIw {n k:Nat} (hk:k+1<=300) (h:n<10^ (k+1)):resI (n:Int)=(itoa n,0):=by
 unfold resI lim;rw[aC];have:=oC k n h;simp;omega
theorem Xi {n:Nat} (h:n<B6^50):resI (n:Int)=(itoa n,0):=by
 rw[pow6] at h;obtain ⟨k,hk⟩:∃k,6*50=k+1:=⟨299,rfl⟩;rw[hk] at h;exact aIw om h
theorem b86 (a b:Bx):body Tp [c110,c111,c61,c112,c113,c116] { asks:=[(0,[]),(2,[])] } true f160 [S a,S b] (.tup [S (eN a b (resI (Int.gcd (valI a) (valI b)))).1,I (eN a b (resI (Int.gcd (valI a) (valI b)))).2]):=by
 unfold eN;(apply Br.mk<;>intro)
 ·rename_i h;rw[aD h];exact ZF
 rename_i h;rw[aC h];obtain ⟨ha,hb⟩:=oF h;obtain ⟨fa,la⟩:=eK ha;obtain ⟨fb,lb⟩:=eK hb;have pM:=pX fa la;have pN:=pX fb lb;have hgv:Int.gcd (valI a) (valI b)=Nat.gcd (aT (digs a)) (aT (digs b)):=by
  unfold Int.gcd;rw[jH,jH,xV,xV]
 refine Need.mk ⟨fa,fb⟩ ?_;(apply Br.mk<;>intro)
 ·rename_i hs;have h1:=qI fa hs.1;have h2:=qI fb hs.2;refine Ask.mk ⟨{ X:=Int × Int,pre:=fun z=>Int.gcd z.1 z.2=Int.gcd (valI a) (valI b)/\z.1.natAbs<=1000000000000000000/\z.2.natAbs<=1000000000000000000,mod:=fun z _=>[(7,I z.1),(8,I z.2)],heap:=fun _ _=>[],mu:=fun z=>z.2.natAbs },rfl,?_⟩;(repeat refine ZG ?_);refine ⟨⟨(valI a,valI b),⟨rfl,by show (valI a).natAbs<= _;omega,by show (valI b).natAbs<= _;omega⟩,ZE⟩,fun (z:Int × Int) hz=>?_⟩;obtain ⟨z1,z2,z3⟩:=hz;(apply Br.mk<;>intro)
  ·rename_i hy;have hm:(z.1.tmod z.2).natAbs<z.2.natAbs:=by rw[iD];exact dO _ om
   (repeat'((conv=>whnf);first|refine Zb ?_|apply pI|apply pJ|fail));(conv=>whnf);refine ⟨(z.2,z.1.tmod z.2),hm,⟨by rw[<- z1];exact Em _ _,z3,by show (z.1.tmod z.2).natAbs<= _;omega⟩,?_⟩;exact ZE
  rename_i hy;have hy:z.2=0:=om;have hg:((Int.gcd (valI a) (valI b):Nat):Int)=max z.1 (-z.1):=by
   rw[<- z1,hy,qA];omega
  rw[hg,lZ om];exact ZGF
 rename_i hs;rw[hgv];(apply Br.mk<;>intro)
 all_goals (
  refine Need.mk ⟨fa,om⟩ ?_;refine Need.mk ⟨fb,om⟩ ?_;refine Ask.mk ⟨{ X:=Nat × Nat,pre:=fun z=>Nat.gcd z.1 z.2=Nat.gcd (aT (digs a)) (aT (digs b))/\z.1<B6^50/\z.2<B6^50,mod:=fun z _=>[(10,Ls (aI B6 z.1)),(11,Ls (aI B6 z.2))],heap:=fun _ _=>[],mu:=fun z=>z.2 },rfl,?_⟩;(repeat refine ZG ?_);refine ⟨⟨(aT (digs a),aT (digs b)),⟨rfl,pM,pN⟩,ZE⟩,fun (z:Nat × Nat) hz=>?_⟩;obtain ⟨z1,z2,z3⟩:=hz;have l1:=mV z2;have hpw:B6^50<=B6^100:=bG de om;(repeat'((conv=>whnf);first|refine Zg fun _=>?_|fail));(apply Br.mk<;>intro)
  ·rename_i hy;have hy:0<z.2:=dP fun e=>by rw[e,dM] at hy;exact absurd hy de
   refine Need.mk ⟨cR de _,kR _,⟨by rw[v6,aJ];exact hy,by rw[v6,aJ];exact aZ z3 hpw⟩,om⟩ ?_;rw[v6,v6,<- fS,<- sD,aJ,aJ];refine ⟨(z.2,z.1%z.2),dO _ hy,⟨by rw[<- z1];show Nat.gcd z.2 (z.1%z.2)= _;rw[kY z.1 z.2,Nat.gcd_rec z.2 z.1];exact kY _ _,z3,fM (dO _ hy) z3⟩,?_⟩;exact ZE
  rename_i hy;have hy:z.2=0:=(rP (B:=B6) de).1 (cF om);rw[hy,Nat.gcd_zero_right] at z1;rw[<- z1,Xi z2];refine Need.mk ⟨kR _,om⟩ ?_;rw[v6];(conv=>whnf)
  (repeat' first|exact trivial|rfl|apply aA))
def c86:Con:=aR 160 true fun args K=>match args with
 | [.str a,.str b]=>K (.tup [S (eN a b (resI (Int.gcd (valI a) (valI b)))).1,I (eN a b (resI (Int.gcd (valI a) (valI b)))).2])
 | _=>False
theorem aIx (s:Bx):(topS s).headD 0=45↔s.headD 0=45:=by
 cases s with
 | nil=>exact gQ
 | cons c r=>
  unfold topS;rw[oV];by_cases h:c=47
  ·subst h;constructor
   ·intro e;simp at e
   intro e;simp at e
  have hb:(c != 47)=true:=by simpa using h
  rw[hb];exact gQ
theorem Po (s:Bx):tA s↔okD (digs (topS s))/\¬(s.headD 0=45/\digs (topS s)= [48])/\(botS s= []\/(okD (botS s).tail/\¬(botS s).tail= [48]/\¬(botS s).tail= [49])):=by
 unfold tA;rw[Wm,aIx,and_assoc];refine and_congr_right fun _=>and_congr_right fun _=>?_;by_cases h:botS s= []
 ·exact ⟨fun _=>.inl h,fun _=>.inl h⟩
 have e:denS s=aT (botS s).tail:=by unfold denS;rw[aC h]
 rw[e,aCz]
theorem aK5 {s:Bx} (h:¬(okD (digs (topS s))/\¬(s.headD 0=45/\digs (topS s)= [48])/\(botS s= []\/(okD (botS s).tail/\¬(botS s).tail= [48]/\¬(botS s).tail= [49])))):chkQ s=11:=by
 unfold chkQ;rw[aC fun e=>h ((Po s).1 e)]
theorem aAq (s:Bx):(valI (topS s)).natAbs=aT (digs (topS s)):=by rw[jH,xV]
theorem aDf {t:Bx} (h:okD t) (hl:t.length<=300):chkI t=0/\valI t=aT t:=by
 rw[qP] at h;obtain ⟨h1,h2,h3⟩:=h;have hh:¬t.headD 0=45:=fun e=>by
  cases t with
  | nil=>exact h1 rfl
  | cons c r=>
   have hc:c=45:=e;have:=h2 c si;subst hc;exact absurd this de
 have hd:digs t=t:=by unfold digs;rw[aC hh]
 have hf:form t:=by
  refine ⟨by rw[hd];exact h1,?_,by rw[hd];exact h2⟩;rw[hd];by_cases h48:t.headD 0=48
  ·rcases h3 with h3 | h3
   ·exact .inr (aCy h3 h48)
   exact absurd h48 h3
  exact .inl h48
 refine ⟨by rw[qS hf,hd,aC om],by unfold valI;rw[aC hh]⟩
theorem aK6 {x y:Bx} (hx:okD x) (hy:okD y) (lx:x.length<=300) (ly:y.length<=300):(eN x y (resI (Int.gcd (valI x) (valI y)))).1= [49]↔(aT x).gcd (aT y)=1:=by
 obtain ⟨c1,v1⟩:=aDf hx lx;obtain ⟨c2,v2⟩:=aDf hy ly;have hg:Int.gcd (valI x) (valI y)=(aT x).gcd (aT y):=by rw[v1,v2];rfl
 have hpos:(aT x).gcd (aT y)<B6^50:=by
  have b1:=aZ (iE x ((qP x).1 hx).2.1) (Sn lx);have b2:=aZ (iE y ((qP y).1 hy).2.1) (Sn ly);rcases dB (aT x) with h | h
  ·rw[h,Nat.gcd_zero_left];exact b2
  exact bX (Nat.gcd_le_left _ h) b1
 unfold eN chk2;rw[aC (by rw[c1];simp[c2]),hg,Xi hpos];dsimp only;rw[show ([49]:Bx)=itoa ((1:Nat):Int) from by decide+kernel];constructor
 ·intro e;have:=sL e;omega
 intro e;rw[e]
theorem aIy {s:Bx} (h:okD (digs (topS s))/\¬(s.headD 0=45/\digs (topS s)= [48])/\(botS s= []\/(okD (botS s).tail/\¬(botS s).tail= [48]/\¬(botS s).tail= [49]))):
  chkQ s=if 300<(digs (topS s)).length\/300<(botS s).tail.length then 4 else if (aT (digs (topS s))).gcd (denS s)=1 then 0 else 11:=by
 unfold chkQ;rw[aD ((Po s).2 h),aAq]
theorem b44n (s:Bx) (h:¬(okD (digs (topS s))/\¬(s.headD 0=45/\digs (topS s)= [48])/\(botS s= []\/(okD (botS s).tail/\¬(botS s).tail= [48]/\¬(botS s).tail= [49])))):body Tp [c73,c83,c85,c84,c86] {} true f124 [S s] (I (chkQ s)):=by
 rw[aK5 h];by_cases h1:okD (digs (topS s))
 ·by_cases h3:botS s= []
  ·have h4:¬ ¬botS s= []:=fun h=>h h3;have h5:s.headD 0=45/\digs (topS s)= [48]:=aH fun e=>h ⟨h1,e,.inl h3⟩;obtain ⟨h5,h6⟩:=h5;exact ZRF
  by_cases h5:okD (botS s).tail
  ·by_cases h6:(botS s).tail= [48]
   ·exact ZRF
   by_cases h7:(botS s).tail= [49]
   ·exact ZRF
   have h8:s.headD 0=45/\digs (topS s)= [48]:=aH fun e=>h ⟨h1,e,.inr ⟨h5,h6,h7⟩⟩;obtain ⟨h8,h9⟩:=h8;exact ZRF
  exact ZRF
 exact ZRF
theorem b44y (s:Bx) (h:okD (digs (topS s))/\¬(s.headD 0=45/\digs (topS s)= [48])/\(botS s= []\/(okD (botS s).tail/\¬(botS s).tail= [48]/\¬(botS s).tail= [49]))):body Tp [c73,c83,c85,c84,c86] {} true f124 [S s] (I (chkQ s)):=by
 rw[aIy h];obtain ⟨h1,h2,h3⟩:=h;have d1:=((qP _).1 h1).2.1;have h2:¬s.headD 0=45\/(s.headD 0=45/\¬digs (topS s)= [48]):=by
  by_cases e:s.headD 0=45
  ·exact .inr ⟨e,fun e2=>h2 ⟨e,e2⟩⟩
  exact .inl e
 by_cases hb:botS s= []
 ·have hb':¬ ¬botS s= []:=fun h=>h hb;have hl:(botS s).tail.length=0:=by rw[hb];rfl
  have hd:denS s=1:=by unfold denS;rw[aD hb]
  rw[hd];have hg1:=Nat.gcd_one_right (aT (digs (topS s)));by_cases h300:300<(digs (topS s)).length
  ·rw[aD (.inl h300)];rcases h2 with h2 | ⟨h2,h4⟩
   all_goals (
    (repeat' first|refine ZR ?_|refine Zg fun _=>?_);(conv=>whnf)
    (repeat' first|rfl|apply aA))
  rw[aC om,aD hg1];rcases h2 with h2 | ⟨h2,h4⟩
  all_goals (
   (repeat' first|refine ZR ?_|refine Zg fun _=>?_);(conv=>whnf)
   (repeat' first|rfl|apply aA))
 have hd:denS s=aT (botS s).tail:=by unfold denS;rw[aC hb]
 rw[hd];obtain ⟨h5,h6,h7⟩:=h3.resolve_left hb;have d2:=((qP _).1 h5).2.1;by_cases h300:300<(digs (topS s)).length
 ·rw[aD (.inl h300)];rcases h2 with h2 | ⟨h2,h4⟩
  all_goals (
   (repeat' first|refine ZR ?_|refine Zg fun _=>?_);(conv=>whnf)
   (repeat' first|rfl|apply aA))
 by_cases h301:300<(botS s).tail.length
 ·rw[aD (.inr h301)];rcases h2 with h2 | ⟨h2,h4⟩
  all_goals (
   (repeat' first|refine ZR ?_|refine Zg fun _=>?_);(conv=>whnf)
   (repeat' first|rfl|apply aA))
 rw[aC om];by_cases h9:(digs (topS s)).length<=9/\(botS s).tail.length<=9
 ·obtain ⟨h9,h10⟩:=h9;have n9:(10:Nat)^9=1000000000:=de;have b1:=iE _ d1;have b2:=iE _ d2;have b1':(10:Nat)^ (digs (topS s)).length<=10^9:=bG om h9;have b2':(10:Nat)^ (botS s).tail.length<=10^9:=bG om h10;have hgi:Int.gcd (aT (digs (topS s)):Int) (aT (botS s).tail:Int)=(aT (digs (topS s))).gcd (aT (botS s).tail):=rfl;by_cases hg:(aT (digs (topS s))).gcd (aT (botS s).tail)=1
  ·rw[aD hg];rcases h2 with h2 | ⟨h2,h4⟩
   all_goals (
    (repeat'((conv=>whnf);first|refine Zg fun _=>?_|refine Zy ?_|refine Zm ?_|fail));refine Need.mk ⟨d1,om⟩ ?_;refine Need.mk ⟨d2,om⟩ ?_;(repeat refine ZR ?_);(conv=>whnf)
    (repeat' first|rfl|apply aA))
  rw[aC hg];rcases h2 with h2 | ⟨h2,h4⟩
  all_goals (
   (repeat'((conv=>whnf);first|refine Zg fun _=>?_|refine Zy ?_|refine Zm ?_|fail));refine Need.mk ⟨d1,om⟩ ?_;refine Need.mk ⟨d2,om⟩ ?_;(repeat refine ZR ?_);(conv=>whnf)
   (repeat' first|rfl|apply aA))
 have hgs:=aK6 h1 h5 om om;have h9:¬((digs (topS s)).length:Int)<=9\/(((digs (topS s)).length:Int)<=9/\¬((botS s).tail.length:Int)<=9):=om;by_cases hg:(aT (digs (topS s))).gcd (aT (botS s).tail)=1
 ·rw[aD hg];have hg2:=hgs.2 hg;rcases h2 with h2 | ⟨h2,h4⟩
  all_goals (
   rcases h9 with h9 | ⟨h9,h10⟩
   all_goals (
    (repeat' first|refine ZR ?_|refine Zg fun _=>?_);(conv=>whnf)
    (repeat' first|rfl|apply aA)))
 rw[aC hg];have hg2:¬ _= _:=fun e=>hg (hgs.1 e);rcases h2 with h2 | ⟨h2,h4⟩
 all_goals (
  rcases h9 with h9 | ⟨h9,h10⟩
  all_goals (
   (repeat' first|refine ZR ?_|refine Zg fun _=>?_);(conv=>whnf)
   (repeat' first|rfl|apply aA)))
theorem b44 (s:Bx):body Tp [c73,c83,c85,c84,c86] {} true f124 [S s] (I (chkQ s)):=by
 by_cases h:okD (digs (topS s))/\¬(s.headD 0=45/\digs (topS s)= [48])/\(botS s= []\/(okD (botS s).tail/\¬(botS s).tail= [48]/\¬(botS s).tail= [49]))
 ·exact b44y s h
 exact b44n s h
theorem Mi (x:Int):∀l:List Int,wrG (l++ [x])=six x.toNat++wrG l
 | []=>by simp[wrG]
 | y::r=>by
  show wrG (r++ [x])++six y.toNat=six x.toNat++(wrG r++six y.toNat);rw[Mi x r,cC]
abbrev U (l:List Int):HO:=.vec 1 (.int .u8) l 5
theorem i0:itoa (valB B6 [])= [48]:=by show itoa 0= [48];simp[itoa,decDigits]
def lowD (x:Nat):Nat->List Int
 | 0=>[]
 | j+1=>((48+x/10^j%10:Nat):Int)::lowD x j
theorem Mj (x:Nat):∀j,(lowD x j).length=j
 | 0=>rfl
 | j+1=>by rw[lowD,bS,Mj x j]
theorem aIm (x:Nat):lowD x 6=cJ (six x):=by
 have d:∀n,(((UInt8.ofNat (48+n%10)).toNat:Nat):Int)=((48+n%10:Nat):Int):=fun n=>by rw[lO om]
 simp only[lowD,six,cJ,mW,List.map_nil,d,Nat.reducePow,Nat.div_one]
def oT (l:List Int) (i j:Nat):List Int:=List.replicate (6*(l.length-i)-j) 0++(lowD (l.getD i 0).toNat j++cJ (wrG (l.take i)))
theorem Mk (s:Bx):(cJ s).length=s.length:=by simp[cJ]
theorem aOh {l:List Int} {i j:Nat} (hi:i<=l.length) (hj:j<=6*(l.length-i)):(oT l i j).length=6*l.length:=by
 simp only[oT,aS,fJ,Mj,Mk,Rx,aY];omega
theorem aK1 (l:List Int):oT l 0 0=List.replicate (6*l.length) 0:=by
 simp[oT,lowD,wrG,cJ]
theorem aOi (l:List Int):oT l l.length 0=cJ (wrG l):=by
 simp[oT,lowD]
theorem aOj {l:List Int} {i:Nat} (hi:i<l.length):oT l i 6=oT l (i+1) 0:=by
 have e1:6*(l.length-i)-6=6*(l.length-(i+1))-0:=om;have e2:l.take (i+1)=l.take i++ [l.getD i 0]:=by
  rw[cV hi];simp[aB,hi]
 unfold oT;rw[e1,e2,Mi,aIm];simp[lowD,cJ]
theorem Xf (m:Nat) (v:Int) (r:List Int):(List.replicate (m+1) (0:Int)++r).set m v=List.replicate m 0++(v::r):=by
 rw[sR,cC,List.set_append_right _ _ si];simp
theorem aOk {l:List Int} {i j k:Nat} {v:Int} (hi:i<l.length) (hj:j<6) (hk:k=6*(l.length-i)-(j+1)) (hv:v=((48+(l.getD i 0).toNat/10^j%10:Nat):Int)):(oT l i j).set k v=oT l i (j+1):=by
 subst hk hv;unfold oT;obtain ⟨m,hm⟩:∃m,m=6*(l.length-i)-(j+1):=⟨_,rfl⟩;rw[show 6*(l.length-i)-j=m+1 by omega,<- hm,Xf];rfl
theorem mP (s:Bx):fE (cJ s)=s:=by
 unfold fE cJ;rw[List.map_map]
 conv=>rhs;rw[<- List.map_id s]
 refine oR fun b _=>?_;simp
theorem dz {n m:Nat} (h:n<10*m) (e:n/m%10=0):n<m:=by
 have h1:n/m<10:=Nat.div_lt_of_lt_mul (by rw[fL];exact h);rw[eB h1] at e;have hm:0<m:=by
  rcases dB m with e0 | e0
  ·subst e0;omega
  exact e0
 rcases Nat.div_eq_zero_iff.1 e with h2 | h2
 ·omega
 exact h2
theorem dsum {n:Nat} (h0:0<n) (h:n<1000000):0<n/100000%10+n/10000%10+n/1000%10+n/100%10+n/10%10+n%10:=by
 refine dP fun e=>?_;obtain ⟨e,e5⟩:=kZ.1 e;obtain ⟨e,e4⟩:=kZ.1 e;obtain ⟨e,e3⟩:=kZ.1 e;obtain ⟨e,e2⟩:=kZ.1 e;obtain ⟨e0,e1⟩:=kZ.1 e;have a0:=dz (m:=100000) h e0;have a1:=dz (m:=10000) a0 e1;have a2:=dz (m:=1000) a1 e2;have a3:=dz (m:=100) a2 e3;have a4:=dz (m:=10) a3 e4;omega
theorem aIn {a:List Int} {d0 d1 d2 d3 d4 d5:Nat} {R:Bx} (hw:wrG a=UInt8.ofNat (48+d0)::UInt8.ofNat (48+d1)::UInt8.ofNat (48+d2)::UInt8.ofNat (48+d3)::UInt8.ofNat (48+d4)::UInt8.ofNat (48+d5)::R) (hd:d0<=9/\d1<=9/\d2<=9/\d3<=9/\d4<=9/\d5<=9):oT a a.length 0=(48+d0:Int)::(48+d1:Int)::(48+d2:Int)::(48+d3:Int)::(48+d4:Int)::(48+d5:Int)::cJ R:=by
 have e:∀d:Nat,d<=9->(((UInt8.ofNat (48+d)).toNat:Nat):Int)=48+d:=fun d h=>by
  rw[mE];omega
 rw[aOi,hw];simp only[cJ,mW,e d0 hd.1,e d1 hd.2.1,e d2 hd.2.2.1,e d3 hd.2.2.2.1,e d4 hd.2.2.2.2.1,e d5 hd.2.2.2.2.2]
theorem fV (d:Nat) (X:List Int):fE ((48+(d:Int))::X)=UInt8.ofNat (48+d)::fE X:=by
 show UInt8.ofNat (48+(d:Int)).toNat::fE X= _;rw[show (48+(d:Int)).toNat=48+d by omega]
theorem Gj {p:Prop} {hp:Decidable p} {a:List Int} {d:Nat} {X:List Int} {Y:Bx} (h:¬p) (hv:0<valB B6 a) (hY:fE X=Y) (hf:UInt8.ofNat (48+d)::Y=decDigits (valB B6 a).toNat):fE ((48+(d:Int))::X)=itoa (sgP p (valB B6 a)):=by
 rw[fV,hY,hf];unfold sgP itoa;rw[aC h,aC om]
theorem Gk {p:Prop} {hp:Decidable p} {a:List Int} {d:Nat} {X:List Int} {Y:Bx} (h:p) (hv:0<valB B6 a) (hY:fE X=Y) (hf:UInt8.ofNat (48+d)::Y=decDigits (valB B6 a).toNat):(45:UInt8)::fE ((48+(d:Int))::X)=itoa (sgP p (valB B6 a)):=by
 rw[fV,hY,hf];unfold sgP itoa;rw[aD h,aD om,nV];congr 2
 omega
theorem aK2 {a:List Int} (h:lJ a) (hp:0<valB B6 a):(wrG a).dropWhile (· ==48)=decDigits (valB B6 a).toNat:=aJ6 (Gm h) hp
theorem aIo {a:List Int} (h:lJ a) (hp:a≠ []):∃d0 d1 d2 d3 d4 d5:Nat,∃R:Bx,wrG a=UInt8.ofNat (48+d0)::UInt8.ofNat (48+d1)::UInt8.ofNat (48+d2)::UInt8.ofNat (48+d3)::UInt8.ofNat (48+d4)::UInt8.ofNat (48+d5)::R/\R.length<=6*a.length/\(d0<=9/\d1<=9/\d2<=9/\d3<=9/\d4<=9/\d5<=9)/\0<d0+d1+d2+d3+d4+d5/\0<valB B6 a:=by
 have hin:=Gm h;have hlast:∀(l:List Int),aI B6 (valB B6 a).toNat=l->∀hl:l≠ [],l.getLast hl≠0:=by
  intro l hl;subst hl;exact xQ de _
 have hx:=hlast a h hp;have hv:0<valB B6 a:=by
  have h1:=Mn h;rcases dB (valB B6 a).toNat with e | e
  ·exfalso;have h2:aI B6 (valB B6 a).toNat=a:=h;rw[e] at h2;exact hp (by rw[<- h2];simp[aI])
  omega
 obtain ⟨x,hxe⟩:∃x,a.getLast hp=x:=⟨_,rfl⟩;rw[hxe] at hx;have hmem:x∈a:=by rw[<- hxe];exact List.getLast_mem hp
 have hxb:0<=x/\x<((B6:Nat):Int):=hin x hmem;have hb6:((B6:Nat):Int)=1000000:=rfl;rw[hb6] at hxb;have ha:wrG a=six x.toNat++wrG a.dropLast:=by
  rw[<- Mi,<- hxe,gI hp]
 refine ⟨x.toNat/100000%10,x.toNat/10000%10,x.toNat/1000%10,x.toNat/100%10,x.toNat/10%10,x.toNat%10,wrG a.dropLast,by rw[ha];rfl,?_,⟨om,om,om,om,om,om⟩,dsum om om,hv⟩;rw[Rx,List.length_dropLast];omega
theorem Gl {a:List Int} (h:lJ a) (hp:0<valB B6 a) (pre X:Bx) (d:Nat) (hd:0<d/\d<=9) (hw:wrG a=pre++UInt8.ofNat (48+d)::X) (hpre:∀b∈pre,b=48):UInt8.ofNat (48+d)::X=decDigits (valB B6 a).toNat:=by
 have hc:UInt8.ofNat (48+d)≠48:=by
  intro e;have h1:=aP UInt8.toNat e;have h2:(UInt8.ofNat (48+d)).toNat=48+d:=by rw[mE];omega
  rw[h2] at h1;have:(48:UInt8).toNat=48:=rfl;omega
 rw[<- aK2 h hp,hw];clear hw
 induction pre with
 | nil=>rw[kJ,nT (by simpa using hc)]
 | cons b r ih=>
  rw[hpre b si,gN,nS si];exact ih fun b hb=>hpre b (by simp[hb])
theorem b116 (p:Prop) (hp:Decidable p) (a:List Int) (h:lJ a/\a.length<=200):body Tp [] { asks:=[(0,[]),(2,[])] } true f214 [.agg [.bl p hp,Ls a]] (S (itoa (sgP p (valB B6 a)))):=by
 obtain ⟨hc,hl⟩:=h;by_cases he:a= []
 ·subst he;(repeat'((conv=>whnf);first|refine Zg fun _=>?_|fail));(apply Br.mk<;>intro)
  ·skip;(conv=>whnf);show [48]=itoa (if p then -0 else 0);split<;>exact i0.symm
  rename_i hx;exact (hx rfl).elim
 obtain ⟨d0,d1,d2,d3,d4,d5,R,hw,hR,hd,hs,hpos⟩:=aIo hc he;have hin:=Gm hc;have hn:0<a.length:=cB.2 he;(repeat'((conv=>whnf);first|refine Zg fun _=>?_|refine Zn ?_|refine Zm ?_|fail));refine Need.mk ⟨om,om,om,show 6*(a.length:Int)*((1:Nat):Int)<=140737488355328 by omega⟩ ?_;refine Ask.mk ⟨{ X:=Nat,pre:=fun i=>i<=a.length,mod:=fun i _=>[(4,I i)],heap:=fun i H=>[hget H 0,U (oT a i 0)],mu:=fun i=>a.length-i },rfl,?_⟩;(repeat refine ZG ?_);refine ⟨⟨(0:Nat),aK _,?_⟩,fun (i:Nat) (hi:i<=a.length)=>?_⟩
 ·(repeat' first|exact trivial|rfl|apply aA);rw[aK1];show List.replicate _ _=List.replicate _ _;congr 1
 have gi:=hin (a.getD i 0);(repeat'((conv=>whnf);first|refine Zg fun _=>?_|fail));(apply Br.mk<;>intro)
 ·have hlt:i<a.length:=om;have gx:0<=a.getD i 0/\a.getD i 0<1000000:=by
   refine hin _ ?_;rw[aB,aM hlt];exact cT hlt
  (repeat' first|refine ZG ?_|refine Zg fun _=>?_);refine Ask.mk ⟨{ X:=Nat,pre:=fun k=>k<=6,mod:=fun k _=>[(5,I (a.getD i 0/((10^k:Nat):Int))),(6,I (k+1))],heap:=fun k H=>[hget H 0,U (oT a i k)],mu:=fun k=>6-k },rfl,?_⟩;(repeat refine ZG ?_);refine ⟨⟨(0:Nat),aK _,?_⟩,fun (k:Nat) (hk:k<=6)=>?_⟩
  ·exact ZE
  (apply Br.mk<;>intro)
  ·have hk6:k<6:=om;obtain ⟨q,hq⟩:∃q,a.getD i 0/((10^k:Nat):Int)=q:=⟨_,rfl⟩;have hq0:0<=q/\q<1000000:=by
    rw[<- hq];have h1:(0:Int)<((10^k:Nat):Int):=Int.natCast_pos.2 (sQ om);refine ⟨dU gx.1 om,?_⟩;have:=sA ((10^k:Nat):Int) gx.1;omega
   rw[hq];have tq:q.tmod 10=q%10:=fR hq0.1;have dq:q.tdiv 10=q/10:=kA hq0.1;have hln:=aOh (l:=a) (i:=i) (j:=k) om om;(repeat' first|refine ZG ?_|refine Zg fun _=>?_);refine eS (6*(a.length-i)-(k+1)) om ?_;(repeat refine ZG ?_);refine ⟨(k+1:Nat),by show 6-(k+1)<6-k;omega,hk6,?_⟩;(repeat' first|exact trivial|rfl|apply aA)
   ·rw[<- hq,eD,dE,Int.ediv_ediv_of_nonneg (mK _)];rfl
   refine aOk hlt hk6 rfl ?_;rw[<- hq];have e1:a.getD i 0=((a.getD i 0).toNat:Int):=om;rw[e1];simp only[aJ];omega
  have e:k=6:=om;subst e;(repeat refine ZG ?_);refine ⟨(i+1:Nat),by show a.length-(i+1)<a.length-i;omega,hlt,?_⟩;(repeat' first|exact trivial|rfl|apply aA);exact aOj hlt
 have e:i=a.length:=om;subst e;rw[aIn hw ⟨hd.1,hd.2.1,hd.2.2.1,hd.2.2.2.1,hd.2.2.2.2.1,hd.2.2.2.2.2⟩];have hk (n:Nat):List.length (α:=Int) (cJ R)=R.length:=Mk R;by_cases z0:d0=0
 ·subst z0;by_cases z1:d1=0
  ·subst z1;by_cases z2:d2=0
   ·subst z2;by_cases z3:d3=0
    ·subst z3;by_cases z4:d4=0
     ·subst z4;by_cases z5:d5=0
      ·subst z5;exfalso;omega
      have hf:=Gl hc hpos [48,48,48,48,48] (R) d5 om hw si;(repeat' first|refine ZG ?_|refine Zg fun _=>?_);refine Br.mkY (show (48+((0:Nat):Int))=48 by omega) ?_;(repeat' first|refine ZG ?_|refine Zg fun _=>?_);refine Br.mkY (show (48+((0:Nat):Int))=48 by omega) ?_;(repeat' first|refine ZG ?_|refine Zg fun _=>?_);refine Br.mkY (show (48+((0:Nat):Int))=48 by omega) ?_;(repeat' first|refine ZG ?_|refine Zg fun _=>?_);refine Br.mkY (show (48+((0:Nat):Int))=48 by omega) ?_;(repeat' first|refine ZG ?_|refine Zg fun _=>?_);refine Br.mkY (show (48+((0:Nat):Int))=48 by omega) ?_;(repeat' first|refine ZG ?_|refine Zg fun _=>?_);refine Br.mkN (show ¬(48+(d5:Int))=48 by omega) ?_;(apply Br.mk<;>intro)
      ·rename_i hp';refine Need.mk (show 1+(fE ((48+(d5:Int))::(cJ R))).length<=140737488355328 by (simp only[fE,cJ,iB,bS];omega)) ?_;(conv=>whnf);exact Gk hp' hpos (X:=(cJ R)) (by simp only[fV,mP]) hf
      rename_i hp';(conv=>whnf);exact Gj hp' hpos (X:=(cJ R)) (by simp only[fV,mP]) hf
     have hf:=Gl hc hpos [48,48,48,48] (UInt8.ofNat (48+d5)::R) d4 om hw si;(repeat' first|refine ZG ?_|refine Zg fun _=>?_);refine Br.mkY (show (48+((0:Nat):Int))=48 by omega) ?_;(repeat' first|refine ZG ?_|refine Zg fun _=>?_);refine Br.mkY (show (48+((0:Nat):Int))=48 by omega) ?_;(repeat' first|refine ZG ?_|refine Zg fun _=>?_);refine Br.mkY (show (48+((0:Nat):Int))=48 by omega) ?_;(repeat' first|refine ZG ?_|refine Zg fun _=>?_);refine Br.mkY (show (48+((0:Nat):Int))=48 by omega) ?_;(repeat' first|refine ZG ?_|refine Zg fun _=>?_);refine Br.mkN (show ¬(48+(d4:Int))=48 by omega) ?_;(apply Br.mk<;>intro)
     ·rename_i hp';refine Need.mk (show 1+(fE ((48+(d4:Int))::((48+d5:Int)::cJ R))).length<=140737488355328 by (simp only[fE,cJ,iB,bS];omega)) ?_;(conv=>whnf);exact Gk hp' hpos (X:=((48+d5:Int)::cJ R)) (by simp only[fV,mP]) hf
     rename_i hp';(conv=>whnf);exact Gj hp' hpos (X:=((48+d5:Int)::cJ R)) (by simp only[fV,mP]) hf
    have hf:=Gl hc hpos [48,48,48] (UInt8.ofNat (48+d4)::UInt8.ofNat (48+d5)::R) d3 om hw si;(repeat' first|refine ZG ?_|refine Zg fun _=>?_);refine Br.mkY (show (48+((0:Nat):Int))=48 by omega) ?_;(repeat' first|refine ZG ?_|refine Zg fun _=>?_);refine Br.mkY (show (48+((0:Nat):Int))=48 by omega) ?_;(repeat' first|refine ZG ?_|refine Zg fun _=>?_);refine Br.mkY (show (48+((0:Nat):Int))=48 by omega) ?_;(repeat' first|refine ZG ?_|refine Zg fun _=>?_);refine Br.mkN (show ¬(48+(d3:Int))=48 by omega) ?_;(apply Br.mk<;>intro)
    ·rename_i hp';refine Need.mk (show 1+(fE ((48+(d3:Int))::((48+d4:Int)::(48+d5:Int)::cJ R))).length<=140737488355328 by (simp only[fE,cJ,iB,bS];omega)) ?_;(conv=>whnf);exact Gk hp' hpos (X:=((48+d4:Int)::(48+d5:Int)::cJ R)) (by simp only[fV,mP]) hf
    rename_i hp';(conv=>whnf);exact Gj hp' hpos (X:=((48+d4:Int)::(48+d5:Int)::cJ R)) (by simp only[fV,mP]) hf
   have hf:=Gl hc hpos [48,48] (UInt8.ofNat (48+d3)::UInt8.ofNat (48+d4)::UInt8.ofNat (48+d5)::R) d2 om hw si;(repeat' first|refine ZG ?_|refine Zg fun _=>?_);refine Br.mkY (show (48+((0:Nat):Int))=48 by omega) ?_;(repeat' first|refine ZG ?_|refine Zg fun _=>?_);refine Br.mkY (show (48+((0:Nat):Int))=48 by omega) ?_;(repeat' first|refine ZG ?_|refine Zg fun _=>?_);refine Br.mkN (show ¬(48+(d2:Int))=48 by omega) ?_;(apply Br.mk<;>intro)
   ·rename_i hp';refine Need.mk (show 1+(fE ((48+(d2:Int))::((48+d3:Int)::(48+d4:Int)::(48+d5:Int)::cJ R))).length<=140737488355328 by (simp only[fE,cJ,iB,bS];omega)) ?_;(conv=>whnf);exact Gk hp' hpos (X:=((48+d3:Int)::(48+d4:Int)::(48+d5:Int)::cJ R)) (by simp only[fV,mP]) hf
   rename_i hp';(conv=>whnf);exact Gj hp' hpos (X:=((48+d3:Int)::(48+d4:Int)::(48+d5:Int)::cJ R)) (by simp only[fV,mP]) hf
  have hf:=Gl hc hpos [48] (UInt8.ofNat (48+d2)::UInt8.ofNat (48+d3)::UInt8.ofNat (48+d4)::UInt8.ofNat (48+d5)::R) d1 om hw si;(repeat' first|refine ZG ?_|refine Zg fun _=>?_);refine Br.mkY (show (48+((0:Nat):Int))=48 by omega) ?_;(repeat' first|refine ZG ?_|refine Zg fun _=>?_);refine Br.mkN (show ¬(48+(d1:Int))=48 by omega) ?_;(apply Br.mk<;>intro)
  ·rename_i hp';refine Need.mk (show 1+(fE ((48+(d1:Int))::((48+d2:Int)::(48+d3:Int)::(48+d4:Int)::(48+d5:Int)::cJ R))).length<=140737488355328 by (simp only[fE,cJ,iB,bS];omega)) ?_;(conv=>whnf);exact Gk hp' hpos (X:=((48+d2:Int)::(48+d3:Int)::(48+d4:Int)::(48+d5:Int)::cJ R)) (by simp only[fV,mP]) hf
  rename_i hp';(conv=>whnf);exact Gj hp' hpos (X:=((48+d2:Int)::(48+d3:Int)::(48+d4:Int)::(48+d5:Int)::cJ R)) (by simp only[fV,mP]) hf
 have hf:=Gl hc hpos [] (UInt8.ofNat (48+d1)::UInt8.ofNat (48+d2)::UInt8.ofNat (48+d3)::UInt8.ofNat (48+d4)::UInt8.ofNat (48+d5)::R) d0 om hw si;(repeat' first|refine ZG ?_|refine Zg fun _=>?_);refine Br.mkN (show ¬(48+(d0:Int))=48 by omega) ?_;(apply Br.mk<;>intro)
 ·rename_i hp';refine Need.mk (show 1+(fE ((48+(d0:Int))::((48+d1:Int)::(48+d2:Int)::(48+d3:Int)::(48+d4:Int)::(48+d5:Int)::cJ R))).length<=140737488355328 by (simp only[fE,cJ,iB,bS];omega)) ?_;(conv=>whnf);exact Gk hp' hpos (X:=((48+d1:Int)::(48+d2:Int)::(48+d3:Int)::(48+d4:Int)::(48+d5:Int)::cJ R)) (by simp only[fV,mP]) hf
 rename_i hp';(conv=>whnf);exact Gj hp' hpos (X:=((48+d1:Int)::(48+d2:Int)::(48+d3:Int)::(48+d4:Int)::(48+d5:Int)::cJ R)) (by simp only[fV,mP]) hf
theorem k116:aO Tp c116:=by
 refine kO func214 fun args K h=>?_;simp only[c116] at h;split at h
 ·rename_i p hp a;exact ⟨_,h.go,triB func214 ntmps214 si (b116 p hp a h.ok)⟩
 ·rename_i a;refine ⟨_,h.go,?_⟩;have ht:=triB func214 ntmps214 si (b116 False inferInstance a h.ok);refine Lv (args:=[.agg [.bl False inferInstance,Ls a]]) ht ⟨⟨fun h=>h,?_,trivial⟩,trivial⟩;rfl
 cases h
theorem k86:aO Tp c86:=by
 refine kO func160 fun args K h=>?_;simp only[c86] at h;split at h
 ·rename_i a b;exact ⟨_,h,triB func160 ntmps160 (by simp[k110,k111,k61,k112,k113,k116]) (b86 a b)⟩
 cases h
def c44:Con:=aR 124 true fun args K=>match args with | [.str s]=>K (I (chkQ s)) | _=>False
theorem k44:aO Tp c44:=by
 refine kO func124 fun args K h=>?_;simp only[c44] at h;split at h
 ·rename_i s;exact ⟨_,h,triB func124 ntmps124 (by simp[k73,k83,k85,k84,k86]) (b44 s)⟩
 cases h
def badQ (s:Bx):Prop:=60<s.length\/chkQ s≠0
instance (s:Bx):Decidable (badQ s):=Cp
def fineL (l:List (Bx)):Prop:=∀a∈l,a.length<=60/\chkQ a=0
instance (l:List (Bx)):Decidable (fineL l):=Cp
theorem dec1 {n:Nat} (h:n<10):decDigits n= [UInt8.ofNat (48+n)]:=by
 rw[decDigits,dif_pos h]
theorem aDg {n:Nat} (h:n<10):itoa (n:Int)= [UInt8.ofNat (48+n)]:=by
 unfold itoa;rw[aC om,aJ,dec1 h]
theorem int1 {q:Rat} {n:Nat} (hn:q.num=n) (hd:q.den=1) (h1:n<10):numS q= [UInt8.ofNat (48+n)]:=by
 unfold numS;rw[hn,hd,aD rfl,aDg h1]
theorem aIz {q:Rat} (h1:q.num.natAbs<10^40) (h2:q.den<10^40):chkQ (numS q)=0:=by
 refine Mc (by rw[gM]) ?_ ?_
 ·rw[oX];rw[fN];have:=oC 39 q.num.natAbs h1;omega
 rw[sK];split
 ·simp
 have:=oC 39 q.den h2;simp;omega
def Sz (k:Nat) (q:Rat):Prop:=q.num.natAbs<10^k/\q.den<10^k
theorem mM {i j:Nat} (h:i<=j):(10:Nat)^i<=10^j:=bG om h
theorem Sz.mono {i j:Nat} {q:Rat} (h:Sz i q) (hij:i<=j):Sz j q:=
 ⟨aZ h.1 (mM hij),aZ h.2 (mM hij)⟩
theorem uV {n k:Nat} (hk:0<k) (h:n<10^k):(decDigits n).length<=k:=by
 obtain ⟨m,rfl⟩:∃m,k=m+1:=⟨k-1,om⟩;exact oC m n h
theorem mA {n:Int} {k:Nat} (hk:0<k/\k<=300) (h:n.natAbs<10^k):lim n=false:=by
 unfold lim;have:=uV hk.1 h;simp;omega
theorem tL {n k:Nat} (h:(decDigits n).length<=k):n<10^k:=by
 have h1:=iE (decDigits n) (fun c hc=>oE _ c hc);rw[iA] at h1;exact aZ h1 (mM h)
theorem yB {q:Rat} {k:Nat} (h:Sz k q) (hk:0<k/\k<=300):chkQ (numS q)=0:=by
 refine Mc (by rw[gM]) ?_ ?_
 ·rw[oX,fN];have:=uV hk.1 h.1;omega
 rw[sK];split
 ·simp
 have:=uV hk.1 h.2;simp;omega
theorem yC {a b i j:Nat} (ha:a<10^i) (hb:b<10^j):a*b<10^ (i+j):=by
 rw[sO];exact eL ha hb
theorem Bw (n:Int) (g:Nat):(n/(g:Int)).natAbs<=n.natAbs:=by
 rcases dB g with e | e
 ·subst e;simp
 have h1:(1:Int)<=g:=om;rcases Int.le_total 0 n with h | h
 ·have h2:=sA (g:Int) h;have h3:=dU h (show (0:Int)<=g by omega);omega
 have h2:n/(g:Int)<=0:=by
  have:=wU (show (0:Int)<g by omega) h;simpa using this
 have h3:n<=n/(g:Int):=by
  rw[hZ om];have:=lQ (a:=n) h h1;rw[eT] at this;omega
 omega
theorem Xj {n:Int} {d k:Nat} (hd:d≠0) (h1:n.natAbs<10^k) (h2:d<10^k):Sz k (mkRat n d):=by
 refine ⟨?_,?_⟩
 ·rw[Rat.num_mkRat,aC hd];refine bX ?_ h1;exact Bw _ _
 rw[Rat.den_mkRat,aC hd];exact bX (fA _ _) h2
theorem vH {x y:Int} {k:Nat} (hx:x.natAbs<10^k) (hy:y.natAbs<10^k):(x+y).natAbs<10^ (k+1)/\(x-y).natAbs<10^ (k+1):=by
 rw[eD];omega
section
variable {p q:Rat} {i j:Nat}
theorem Sz.cross (hp:Sz i p) (hq:Sz j q):(p.num*q.den).natAbs<10^ (i+j)/\(q.num*p.den).natAbs<10^ (i+j)/\(p.num*q.num).natAbs<10^ (i+j)/\p.den*q.den<10^ (i+j):=by
 refine ⟨?_,?_,?_,yC hp.2 hq.2⟩
 ·rw[dQ];exact yC hp.1 hq.2
 ·rw[dQ,Nat.add_comm];exact yC hq.1 hp.2
 rw[dQ];exact yC hp.1 hq.1
theorem So (p q:Rat):p.den*q.den≠0:=Nat.mul_ne_zero p.den_nz q.den_nz
theorem Sz.add (hp:Sz i p) (hq:Sz j q):Sz (i+j+1) (p+q):=by
 obtain ⟨h1,h2,h3,h4⟩:=hp.cross hq;rw[Fy];exact Xj (So p q) (vH h1 h2).1 (aZ h4 (mM om))
theorem Sz.sub (hp:Sz i p) (hq:Sz j q):Sz (i+j+1) (p-q):=by
 obtain ⟨h1,h2,h3,h4⟩:=hp.cross hq;rw[Fz];exact Xj (So p q) (vH h1 h2).2 (aZ h4 (mM om))
theorem Sz.mul (hp:Sz i p) (hq:Sz j q):Sz (i+j) (p*q):=by
 obtain ⟨h1,h2,h3,h4⟩:=hp.cross hq;rw[Ga];exact Xj (So p q) h3 h4
theorem Ip {f:Rat->Rat->Bx × Int} (hp:Sz i p) (hq:Sz j q) (hi:0<i/\i<=300) (hj:0<j/\j<=300):iK (numS p) (numS q) f=f p q:=by
 unfold iK;rw[aC (by rw[yB hp hi];simp),aC (by rw[yB hq hj];simp),gM,gM]
theorem Bf (hp:Sz i p) (hq:Sz j q) (hi:0<i) (hj:0<j) (h:i+j+1<=300):addQ (numS p) (numS q)=(numS (p+q),0):=by
 obtain ⟨h1,h2,h3,h4⟩:=hp.cross hq;unfold addQ;rw[Ip hp hq ⟨hi,om⟩ ⟨hj,om⟩,aC];simp only[cQ,not_or,fT];exact ⟨⟨⟨mA ⟨om,om⟩ h1,mA ⟨om,om⟩ h2⟩,mA (k:=i+j+1) ⟨om,h⟩ (vH h1 h2).1⟩,mA (k:=i+j) ⟨om,om⟩ (by rw[<- dE,dC];exact h4)⟩
theorem pG (hp:Sz i p) (hq:Sz j q) (hi:0<i) (hj:0<j) (h:i+j+1<=300):subQ (numS p) (numS q)=(numS (p-q),0):=by
 obtain ⟨h1,h2,h3,h4⟩:=hp.cross hq;unfold subQ;rw[Ip hp hq ⟨hi,om⟩ ⟨hj,om⟩,aC];simp only[cQ,not_or,fT];exact ⟨⟨⟨mA ⟨om,om⟩ h1,mA ⟨om,om⟩ h2⟩,mA (k:=i+j+1) ⟨om,h⟩ (vH h1 h2).2⟩,mA (k:=i+j) ⟨om,om⟩ (by rw[<- dE,dC];exact h4)⟩
theorem pH (hp:Sz i p) (hq:Sz j q) (hi:0<i) (hj:0<j) (h:i+j<=300):mulQ (numS p) (numS q)=(numS (p*q),0):=by
 obtain ⟨h1,h2,h3,h4⟩:=hp.cross hq;unfold mulQ;rw[Ip hp hq ⟨hi,om⟩ ⟨hj,om⟩,aC];simp only[cQ,not_or,fT];exact ⟨mA ⟨om,h⟩ h3,mA (k:=i+j) ⟨om,om⟩ (by rw[<- dE,dC];exact h4)⟩
theorem Iq (hp:Sz i p) (hq:Sz j q) (hi:0<i) (hj:0<j) (h:i+j<=300) (h0:q≠0):divQ (numS p) (numS q)=(numS (p/q),0):=by
 obtain ⟨h1,h2,h3,h4⟩:=hp.cross hq;unfold divQ;rw[Ip hp hq ⟨hi,om⟩ ⟨hj,om⟩,aC h0,aC];simp only[cQ,not_or,fT];exact ⟨mA ⟨om,h⟩ h1,mA ⟨om,h⟩ h2⟩
theorem aK7 (hp:Sz i p) (hq:Sz j q) (hi:0<i) (hj:0<j) (h:i+j<=300):cmpQ (numS p) (numS q)=(cmpI (p.num*q.den) (q.num*p.den),0):=by
 obtain ⟨h1,h2,h3,h4⟩:=hp.cross hq;unfold cmpQ;rw[aC (by rw[yB hp ⟨hi,om⟩];simp),aC (by rw[yB hq ⟨hj,om⟩];simp),gM,gM];unfold cmpf;rw[aC];simp only[cQ,not_or,fT];exact ⟨mA ⟨om,h⟩ h1,mA ⟨om,h⟩ h2⟩
end
theorem Pp (n:Int):itoa n= [48]↔n=0:=by
 constructor
 ·intro h;have:=aP valI h;rw[cH] at this;rw[this];decide
 rintro rfl;exact itoa_zero
theorem zM {n:Nat}:(decDigits n).getD 0 0≠45:=by
 intro h
 have h1:=oE n ((decDigits n).getD 0 0) (by
  have:=zL n;cases e:decDigits n with
  | nil=>exact absurd e this
  | cons x r=>simp)
 rw[h] at h1;unfold cY at h1
 revert h1
 decide
theorem aOm {q:Rat}:pd q= [49]↔q.den=1:=by
 constructor
 ·intro h;have:=aP aT (show decDigits q.den= [49] from h);rw[iA] at this;rw[this];decide
 intro h;show decDigits q.den= [49];rw[h,dec1 de];rfl
theorem sz1:Sz 1 (1:Rat):=⟨de,de⟩
def cmpR (p q:Rat):Int:=if p<q then -1 else if q<p then 1 else 0
theorem Sq (q:Rat):numS q≠ []:=by
 unfold numS;have:=qT (x:=q.num);split
 ·intro h;rw[h] at this;simp at this
 intro h;have h1:=aP List.length h;simp at h1
theorem Gp (q:Rat):bE (numS q) 0=45↔q<0:=by
 have h0:0<(numS q).length:=cB.2 (Sq q);have e:bE (numS q) 0=bE (itoa q.num) 0:=by
  unfold numS;split
  ·rfl
  unfold bE;rw[aB,aB,bU qT]
 rw[e];have hn:q<0↔q.num<0:=by
  rw[sB];show q.num*((1:Nat):Int)<0* _↔ _;omega
 rw[hn];unfold itoa;split
 ·rename_i h;exact ⟨fun _=>h,fun _=>rfl⟩
 rename_i h;constructor
 ·intro h2;exfalso;refine zM (n:=q.num.toNat) (UInt8.toNat_inj.1 ?_);unfold bE at h2;have:(45:UInt8).toNat=45:=rfl;omega
 intro h2;exact absurd h2 h
theorem numS0:numS (0:Rat)= [48]:=int1 (n:=0) de de de
theorem sz0:Sz 1 (0:Rat):=⟨de,de⟩
theorem aAr {B:Nat} (hB:2<=B) {a b:List Int} (ha:InB B a) (hb:InB B b) {n:Nat} (h1:a.length<=n) (h2:b.length<=n):(addK B a b (n+1)).2=0:=by
 obtain ⟨l1,l2,l3,l4⟩:=tX hB ha hb (n+1);rw[lF _ _ _ om,lF _ _ _ om] at l4;have v1:=nM hB ha h1;have v2:=nM hB hb h2;have v3:=dZ l2;have hp:(B:Int)^ (n+1)=(B:Int)^n*B:=gH _ _;have h0:=kN hB n;refine aH fun hc=>?_;have hc1:(addK B a b (n+1)).2=1:=om;rw[hc1,eT,hp] at l4;have h5:(B:Int)^n*2<=(B:Int)^n*B:=aV om om;omega
theorem aI0 {B:Nat} (hB:2<=B) {a b:List Int} (ha:InB B a) (hb:InB B b) {k:Nat} (h1:a.length<=k) (h2:b.length<=k) (hc:(addK B a b k).2=0):gW (addK B a b k).1=aI B (valB B a+valB B b).toNat:=by
 obtain ⟨l1,l2,l3,l4⟩:=tX hB ha hb k;rw[lF _ _ _ h1,lF _ _ _ h2,hc,dL,eV] at l4;rw[iI hB l2,l4]
def c147:Con:=aR 299 false fun | [.seq (.int .i64) a,.seq (.int .i64) b],K=>Need (InB B6 a/\InB B6 b/\a.length<=100000/\b.length<=100000) (K (Ls (aI B6 (valB B6 a+valB B6 b).toNat))) | _,_=>False
theorem k147:aO Tp c147:=by
 refine kQ { asks:=[(0,[1])] } Tryz.func299 Tryz.ntmps299 (kc k143 (kc k141 kn)) fun _ _ h=>?_;split at h;case h_2=>cases h
 rename_i a b;refine kb h.go ?_;replace h:=h.ok;obtain ⟨ha,hb,hla,hlb⟩:=h;obtain ⟨n,hn⟩:∃n,n=a.length+b.length:=⟨_,rfl⟩;(conv=>whnf);refine Ask.mk ⟨{ X:=Nat,pre:=fun i=>i<=n+1,mod:=fun i _=>[(5,.ref 1 1),(6,I (addK B6 a b i).2),(7,I i)],heap:=fun i _=>[V [],V (addK B6 a b i).1],mu:=fun i=>n+1-i,objs:=[1] },rfl,?_⟩;(repeat refine ZG ?_);refine ⟨⟨(0:Nat),aK _,ZE⟩,fun (i:Nat) (hi:i<=n+1)=>?_⟩;obtain ⟨g1,g2,g3,_⟩:=tX (B:=B6) de ha hb i;have ga:=get6 ha i;have gb:=get6 hb i;have hcar:i=n+1->(addK B6 a b i).2=0:=fun e=>by
  subst e;exact aAr de ha hb om om
 have s2:(addK B6 a b (i+1)).1=(addK B6 a b i).1++ [(a.getD i 0+b.getD i 0+(addK B6 a b i).2)%1000000]:=rfl;have s3:(addK B6 a b (i+1)).2=(a.getD i 0+b.getD i 0+(addK B6 a b i).2)/1000000:=rfl;by_cases hgo:i<a.length\/i<b.length\/0<(addK B6 a b i).2
 ·have hin:i<n+1:=by
   rcases hgo with h | h | h
   ·omega
   ·omega
   refine aH fun hx=>?_;have:=hcar om;omega
  have hcase:(i<a.length)\/(¬i<a.length/\i<b.length)\/(¬i<a.length/\¬i<b.length/\0<(addK B6 a b i).2):=om;have t1:(a.getD i 0+b.getD i 0+(addK B6 a b i).2).tmod 1000000=(a.getD i 0+b.getD i 0+(addK B6 a b i).2)%1000000:=fR om;have t2:(a.getD i 0+b.getD i 0+(addK B6 a b i).2).tdiv 1000000=(a.getD i 0+b.getD i 0+(addK B6 a b i).2)/1000000:=kA om;rcases hcase with h1 | ⟨h1,h2⟩ | ⟨h1,h2,h3⟩;all_goals
   (repeat' first|refine ZR ?_|refine Zg fun _=>?_);refine ⟨(i+1:Nat),by show n+1-(i+1)<n+1-i;omega,by show i+1<=n+1;omega,?_⟩;exact ZE
 have e1:=aI0 (B:=B6) de ha hb (k:=i) om om om;(repeat' first|refine ZR ?_|refine Zg fun _=>?_);(conv=>whnf);exact e1
def addS (p:Prop) (m:Nat) (q:Prop) (n:Nat) [Decidable p] [Decidable q]:Prop:=addP p m q n/\addN p m q n≠0
instance (p:Prop) (m:Nat) (q:Prop) (n:Nat) [Decidable p] [Decidable q]:Decidable (addS p m q n):=by unfold addS;infer_instance
theorem Xk (p:Prop) [Decidable p] (m:Nat) (q:Prop) [Decidable q] (n:Nat):sgP (addS p m q n) (addN p m q n)=sgP p m+sgP q n:=by
 rw[<- Sj];unfold addS sgP;by_cases h:addN p m q n=0
 ·simp[h]
 simp[h]
theorem rZ (n:Nat):(aI B6 n).length=0↔n=0:=by
 constructor
 ·intro h;have h1:aI B6 n= []:=cF h;have h2:=v6 n;rw[h1] at h2;have h3:valB B6 []=0:=rfl;omega
 rintro rfl;rw[dM];rfl
theorem b114 (p:Prop) (hp:Decidable p) (m:Nat) (q:Prop) (hq:Decidable q) (n:Nat) (hm:m<B6^110) (hn:n<B6^110) (hpm:p->0<m) (hqn:q->0<n):
  body Tp [c147,c146,c144] {} false Tryz.f272 [.agg [.bl p hp,Ls (aI B6 m)],.agg [.bl q hq,Ls (aI B6 n)]] (.agg [.bl (addS p m q n) inferInstance,Ls (aI B6 (addN p m q n))]):=by
 have im:InB B6 (aI B6 m):=cR de m;have jn:InB B6 (aI B6 n):=cR de n;have lm:=mV hm;have ln:=mV hn;have vm:=v6 m;have vn:=v6 n;refine Own.l ?_;(apply Br.mk<;>intro)
 ·rename_i h;have e1:p↔addS p m q n:=by
   unfold addS addP addN;rw[aD h];constructor
   ·intro hp';have:=hpm hp';exact ⟨.inl ⟨.inl h,hp'⟩,om⟩
   rintro ⟨h1 | h1,_⟩
   ·exact h1.2
   exact absurd (.inl h) h1.1
  have e2:(valB B6 (aI B6 m)+valB B6 (aI B6 n)).toNat=addN p m q n:=by unfold addN;rw[aD h];omega
  (repeat'((conv=>whnf);first|apply pI|apply pJ|fail));refine Need.mk ⟨im,jn,om,om⟩ ?_;(repeat'((conv=>whnf);first|apply pJ|fail));(conv=>whnf);(repeat' first|exact trivial|apply aA)
  ·exact e1
  skip;exact aP (aI B6) e2
 rename_i h;have hc:=Mm (B:=B6) de m n;refine Need.mk ⟨im,jn⟩ ?_;(apply Br.mk<;>intro)
 ·rename_i hg;have hlt:m<n:=by
   refine aIq hc ?_;omega
  have e2:(valB B6 (aI B6 n)-valB B6 (aI B6 m)).toNat=addN p m q n:=by unfold addN;rw[aC h,aC om];omega
  have e0:addN p m q n≠0:=om;have e1:q↔addS p m q n:=by
   have hnle:¬n<=m:=om;unfold addS addP;simp[e0,h,hnle]
  have ll:=kP (Nat.le_of_lt hlt);have hN:InB B6 (aI B6 n)/\InB B6 (aI B6 m)/\valB B6 (aI B6 m)<=valB B6 (aI B6 n)/\(aI B6 m).length<=(aI B6 n).length/\(aI B6 n).length<=100000:=⟨jn,im,om,ll,om⟩;have hne:¬((aI B6 (valB B6 (aI B6 n)-valB B6 (aI B6 m)).toNat).length:Int)=0:=by
   rw[e2];intro h';exact e0 ((rZ _).1 om)
  (repeat'((conv=>whnf);first|refine Zg fun _=>?_|refine Zn ?_|apply pI|apply pJ|exact Zf|refine Zc ?_ ?_|refine Zm ?_|fail));(conv=>whnf);(repeat' first|exact trivial|apply aA)
  ·exact e1
  skip;exact aP (aI B6) e2
 rename_i hg;have hle:n<=m:=by
  refine aIp hc ?_;omega
 have e2:(valB B6 (aI B6 m)-valB B6 (aI B6 n)).toNat=addN p m q n:=by unfold addN;rw[aC h,aD hle];omega
 have ll:=kP hle;have hN:InB B6 (aI B6 m)/\InB B6 (aI B6 n)/\valB B6 (aI B6 n)<=valB B6 (aI B6 m)/\(aI B6 n).length<=(aI B6 m).length/\(aI B6 m).length<=100000:=⟨im,jn,om,ll,om⟩;(repeat'((conv=>whnf);first|refine Zg fun _=>?_|refine Zn ?_|apply pI|apply pJ|exact Zf|refine Zc ?_ ?_|fail));(apply Br.mk<;>intro)
 ·rename_i hz;have e0:addN p m q n=0:=by
   rw[e2] at hz;exact (rZ _).1 om
  (conv=>whnf);(repeat' first|exact trivial|apply aA)
  ·exact fun h'=>h'.2 e0
  skip;exact aP (aI B6) e2
 rename_i hz;have e0:addN p m q n≠0:=fun h'=>hz (by rw[e2,h',dM];rfl);have e1:p↔addS p m q n:=by
  unfold addS addP;simp[e0,h,hle]
 (conv=>whnf);(repeat' first|exact trivial|apply aA)
 ·exact e1
 skip;exact aP (aI B6) e2
def Cx (p:Prop) (a:List Int):Prop:=lJ a/\(valB B6 a).toNat<B6^110/\(p->0<(valB B6 a).toNat)
def c114:Con:=aR 272 false fun args K=>match args with
 | [.agg [.bl p hp,.seq (.int .i64) a],.agg [.bl q hq,.seq (.int .i64) b]]=>Need (Cx p a/\Cx q b) (K (.agg [.bl (@addS p (valB B6 a).toNat q (valB B6 b).toNat hp hq) inferInstance,Ls (aI B6 (@addN p hp (valB B6 a).toNat q hq (valB B6 b).toNat))]))
 | _=>False
theorem k114:aO Tp c114:=by
 refine kO Tryz.func272 fun args K h=>?_;simp only[c114] at h;split at h
 ·rename_i p hp a q hq b;refine ⟨_,h.go,?_⟩;obtain ⟨⟨ha,hm,hpm⟩,hb,hn,hqn⟩:=h.ok;have ht:=triB Tryz.func272 Tryz.ntmps272 (by simp[k147,k146,k144]) (b114 p hp (valB B6 a).toNat q hq (valB B6 b).toNat hm hn hpm hqn);rw[ha,hb] at ht;exact ht
 cases h
theorem aEu {n:Int} (h:lim n=true):chkI (itoa n)=4:=by
 rw[qS (oB n),fN];unfold lim at h;rw[aD (by simpa using h)]
theorem b115 (p:Prop) (hp:Decidable p) (a:List Int) (h:lJ a/\a.length<=200):body Tp [c116,c139] {} true Tryz.f297 [.agg [.bl p hp,Ls a]] (.tup [S (resI (sgP p (valB B6 a))).1,I (resI (sgP p (valB B6 a))).2]):=by
 cases hl:lim (sgP p (valB B6 a)) with
 | true=>
  have e1:=aEu hl;have e2:resI (sgP p (valB B6 a))=([],4):=by unfold resI;rw[aD hl]
  rw[e2];(repeat refine ZG ?_);refine Br.mkY (show ¬chkI (itoa (sgP p (valB B6 a)))=0 by rw[e1];decide) ?_;exact ZF
 | false=>
  have e1:=cX hl;have e2:resI (sgP p (valB B6 a))=(itoa (sgP p (valB B6 a)),0):=by unfold resI;rw[aC (by rw[hl];decide)]
  rw[e2];(repeat refine ZG ?_);refine Br.mkN (show ¬ ¬chkI (itoa (sgP p (valB B6 a)))=0 by rw[e1];simp) ?_;exact ZF
def c115:Con:=aR 297 true fun args K=>match args with
 | [.agg [.bl p hp,.seq (.int .i64) a]]=>Need (lJ a/\a.length<=200) (K (.tup [S (resI (@sgP p hp (valB B6 a))).1,I (resI (@sgP p hp (valB B6 a))).2]))
 | [.agg [.val (.bool false),.seq (.int .i64) a]]=>Need (lJ a/\a.length<=200) (K (.tup [S (resI (valB B6 a)).1,I (resI (valB B6 a)).2]))
 | _=>False
theorem k115:aO Tp c115:=by
 refine kO Tryz.func297 fun args K h=>?_;simp only[c115] at h;split at h
 ·rename_i p hp a;exact ⟨_,h.go,triB Tryz.func297 Tryz.ntmps297 (by simp[k116,k139]) (b115 p hp a h.ok)⟩
 ·rename_i a;refine ⟨_,h.go,?_⟩;have ht:=triB Tryz.func297 Tryz.ntmps297 (by simp[k116,k139]) (b115 False inferInstance a h.ok);refine Lv (args:=[.agg [.bl False inferInstance,Ls a]]) ht ⟨⟨fun h=>h,?_,trivial⟩,trivial⟩;rfl
 cases h
theorem b153 (p:Prop) (hp:Decidable p) (m:Nat) (q:Prop) (hq:Decidable q) (n:Nat) (hm:m<B6^110) (hn:n<B6^110):
  body Tp [c145] {} false Tryz.f298 [.agg [.bl p hp,Ls (aI B6 m)],.agg [.bl q hq,Ls (aI B6 n)]] (.agg [.bl (¬(p↔q)/\m*n≠0) inferInstance,Ls (aI B6 (m*n))]):=by
 have im:InB B6 (aI B6 m):=cR de m;have jn:InB B6 (aI B6 n):=cR de n;have lm:=mV hm;have ln:=mV hn;have vm:=v6 m;have vn:=v6 n;have e2:(valB B6 (aI B6 m)*valB B6 (aI B6 n)).toNat=m*n:=by rw[vm,vn,<- dE,aJ]
 have hN:InB B6 (aI B6 m)/\InB B6 (aI B6 n)/\(aI B6 m).length<=100000/\(aI B6 n).length<=100000:=⟨im,jn,om,om⟩;refine Own.l ?_;(repeat'((conv=>whnf);first|refine Zg fun _=>?_|refine Zn ?_|apply pI|apply pJ|exact Zf|refine Zc ?_ ?_|fail));(apply Br.mk<;>intro)
 ·rename_i hz;have e0:m*n=0:=by
   rw[e2] at hz;exact (rZ _).1 om
  (conv=>whnf);(repeat' first|exact trivial|apply aA)
  ·exact fun h'=>h'.2 e0
  skip;exact aP (aI B6) e2
 rename_i hz;have e0:m*n≠0:=fun h'=>hz (by rw[e2,h',dM];rfl);(conv=>whnf);(repeat' first|exact trivial|apply aA)
 ·exact ⟨fun h'=>⟨h',e0⟩,fun h'=>h'.1⟩
 skip;exact aP (aI B6) e2
def c153:Con:=aR 298 false fun args K=>match args with
 | [.agg [.bl p hp,.seq (.int .i64) a],.agg [.bl q hq,.seq (.int .i64) b]]=>Need (Cx p a/\Cx q b) (K (.agg [.bl (¬(p↔q)/\(valB B6 a).toNat*(valB B6 b).toNat≠0) inferInstance,Ls (aI B6 ((valB B6 a).toNat*(valB B6 b).toNat))]))
 | _=>False
theorem k153:aO Tp c153:=by
 refine kO Tryz.func298 fun args K h=>?_;simp only[c153] at h;split at h
 ·rename_i p hp a q hq b;refine ⟨_,h.go,?_⟩;obtain ⟨⟨ha,hm,hpm⟩,hb,hn,hqn⟩:=h.ok;have ht:=triB Tryz.func298 Tryz.ntmps298 (by simp[k145]) (b153 p hp (valB B6 a).toNat q hq (valB B6 b).toNat hm hn);rw[ha,hb] at ht;exact ht
 cases h
theorem b121 (p:Prop) (hp:Decidable p) (m:Nat) (hpm:p->0<m):body Tp [] {} false Tryz.f273 [.agg [.bl p hp,Ls (aI B6 m)]] (.agg [.bl (¬p/\m≠0) inferInstance,Ls (aI B6 m)]):=by
 refine Own.l ?_;(repeat'((conv=>whnf);first|refine Zg fun _=>?_|fail));(apply Br.mk<;>intro)
 ·rename_i hz;have e0:m=0:=(rZ _).1 om;(conv=>whnf);(repeat' first|exact trivial|rfl|apply aA);(conv=>whnf);exact ⟨fun h'=>by have:=hpm h';omega,fun h'=>absurd e0 h'.2⟩
 rename_i hz;have e0:m≠0:=fun h'=>hz (by rw[h',dM];rfl);(conv=>whnf);(repeat' first|exact trivial|rfl|apply aA);(conv=>whnf);exact ⟨fun h'=>⟨h',e0⟩,fun h'=>h'.1⟩
def c121:Con:=aR 273 false fun args K=>match args with
 | [.agg [.bl p hp,.seq (.int .i64) a]]=>Need (Cx p a) (K (.agg [.bl (¬p/\(valB B6 a).toNat≠0) inferInstance,Ls a]))
 | _=>False
theorem k121:aO Tp c121:=by
 refine kO Tryz.func273 fun args K h=>?_;simp only[c121] at h;split at h
 ·rename_i p hp a;refine ⟨_,h.go,?_⟩;obtain ⟨ha,hm,hpm⟩:=h.ok;have ht:=triB Tryz.func273 Tryz.ntmps273 si (b121 p hp (valB B6 a).toNat hpm);rw[ha] at ht;exact ht
 cases h
theorem lP {s:Bx} (h:form s) (hl:(digs s).length<=300):Cx (s.headD 0=45) (aI B6 (aT (digs s))):=by
 refine ⟨kR _,?_,?_⟩
 ·rw[v6,aJ];exact aZ (pX h hl) (bG de om)
 intro hm;rw[v6,aJ];refine dP fun e=>?_;have h1:=Lk.1 h;have h2:valI s=0:=by rw[jH,e];unfold sgP;split<;>rfl
 rw[h2,itoa_zero] at h1;rw[h1] at hm
 revert hm;decide
theorem aK8 (a b:Bx):sgP (addS (a.headD 0=45) (valB B6 (aI B6 (aT (digs a)))).toNat (b.headD 0=45) (valB B6 (aI B6 (aT (digs b)))).toNat) (valB B6 (aI B6 (addN (a.headD 0=45) (valB B6 (aI B6 (aT (digs a)))).toNat (b.headD 0=45) (valB B6 (aI B6 (aT (digs b)))).toNat)))=valI a+valI b:=by
 simp only[v6,aJ,Xk,jH]
theorem aK9 (p:Prop) [Decidable p] (m:Nat) (q:Prop) [Decidable q] (n:Nat):addN p m q n<=m+n:=by
 unfold addN;split
 ·omega
 split<;>omega
theorem aI1 {p q:Prop} [Decidable p] [Decidable q] {m n:Nat} (hm:m<B6^110) (hn:n<B6^110):lJ (aI B6 (addN p m q n))/\(aI B6 (addN p m q n)).length<=200:=by
 refine ⟨kR _,?_⟩;have h1:=aK9 p m q n;have h2:B6^111=B6^110*B6:=eD ..;have h3:B6^110*2<=B6^110*B6:=oS _ de;have:=mV (m:=addN p m q n) (k:=111) om;omega
def c103:Con:=aR 269 true fun | [.str a,.str b],K=>K (.tup [S (eN a b (resI (valI a+valI b))).1,I (eN a b (resI (valI a+valI b))).2]) | _,_=>False
theorem k103:aO Tp c103:=by
 refine kQ {} Tryz.func269 Tryz.ntmps269 (kc k110 (kc k111 (kc k61 (kc k112 (kc k114 (kc k115 kn)))))) fun _ _ h=>?_;split at h;case h_2=>cases h
 rename_i a b;refine kb h ?_;unfold eN;(apply Br.mk<;>intro)
 ·rename_i h;rw[aD h];exact ZF
 rename_i h;rw[aC h];obtain ⟨ha,hb⟩:=oF h;obtain ⟨fa,la⟩:=eK ha;obtain ⟨fb,lb⟩:=eK hb;have zA:=lP fa la;have zB:=lP fb lb;have hv:=aK8 a b;refine Need.mk ⟨fa,fb⟩ ?_;(apply Br.mk<;>intro)
 ·rename_i hs;have h1:=qI fa hs.1;have h2:=qI fb hs.2;rw[lZ om];exact ZGF
 have tail:∀x:Nat,True:=fun _=>trivial;(apply Br.mk<;>intro);all_goals
  refine Need.mk ⟨fa,om⟩ ?_;refine Need.mk ⟨fb,om⟩ ?_;refine Need.mk ⟨zA,zB⟩ ?_;refine Need.mk (aI1 zA.2.1 zB.2.1) ?_;(conv=>whnf);(repeat' first|exact trivial|rfl|apply aA)
  ·exact aP (fun z=>(resI z).1) hv
  exact aP (fun z=>(resI z).2) hv
theorem aI2 (p q:Prop) [Decidable p] [Decidable q] (m n:Nat):sgP (¬(p↔q)/\m*n≠0) ((m*n:Nat):Int)=sgP p m*sgP q n:=by
 rw[<- aC5,<- dE];unfold sgP;by_cases h:m*n=0
 ·simp[h]
 simp[h]
theorem aLa (a b:Bx):sgP (¬(a.headD 0=45↔b.headD 0=45)/\(valB B6 (aI B6 (aT (digs a)))).toNat*(valB B6 (aI B6 (aT (digs b)))).toNat≠0) (valB B6 (aI B6 ((valB B6 (aI B6 (aT (digs a)))).toNat*(valB B6 (aI B6 (aT (digs b)))).toNat)))=valI a*valI b:=by
 rw[v6 ((valB B6 (aI B6 (aT (digs a)))).toNat*(valB B6 (aI B6 (aT (digs b)))).toNat),aI2];simp only[v6,aJ,jH]
theorem aI3 {a b:Bx} (fa:form a) (la:(digs a).length<=300) (fb:form b) (lb:(digs b).length<=300):lJ (aI B6 ((valB B6 (aI B6 (aT (digs a)))).toNat*(valB B6 (aI B6 (aT (digs b)))).toNat))/\(aI B6 ((valB B6 (aI B6 (aT (digs a)))).toNat*(valB B6 (aI B6 (aT (digs b)))).toNat)).length<=200:=by
 refine ⟨kR _,?_⟩;rw[v6,v6,aJ,aJ];have h3:=eL (pX fa la) (pX fb lb);rw[<- sO] at h3;have:=mV h3;omega
def c120:Con:=aR 270 true fun | [.str a,.str b],K=>K (.tup [S (eN a b (resI (valI a*valI b))).1,I (eN a b (resI (valI a*valI b))).2]) | _,_=>False
theorem k120:aO Tp c120:=by
 refine kQ {} Tryz.func270 Tryz.ntmps270 (kc k110 (kc k111 (kc k61 (kc k112 (kc k153 (kc k115 kn)))))) fun _ _ h=>?_;split at h;case h_2=>cases h
 rename_i a b;refine kb h ?_;unfold eN;(apply Br.mk<;>intro)
 ·rename_i h;rw[aD h];exact ZF
 rename_i h;rw[aC h];obtain ⟨ha,hb⟩:=oF h;obtain ⟨fa,la⟩:=eK ha;obtain ⟨fb,lb⟩:=eK hb;have zA:=lP fa la;have zB:=lP fb lb;have hv:=aLa a b;have hl:=aI3 fa la fb lb;have hab:form a/\form b:=⟨fa,fb⟩;have hza:=aA zA zB;have ra:form a/\(digs a).length<=600:=⟨fa,om⟩;have rb:form b/\(digs b).length<=600:=⟨fb,om⟩;(repeat refine ZG ?_);(apply Br.mk<;>intro)
 ·rename_i hs;(repeat' first|refine ZG ?_|refine Zg fun _=>?_);(apply Br.mk<;>intro)
  ·rename_i hs2;have hm:=Oz fa fb om;rw[lZ om];exact ZGF
  (repeat refine ZG ?_);(conv=>whnf);(repeat' first|exact trivial|rfl|apply aA)
  ·exact aP (fun z=>(resI z).1) hv
  exact aP (fun z=>(resI z).2) hv
 (apply Br.mk<;>intro);all_goals
  (repeat refine ZG ?_);(conv=>whnf);(repeat' first|exact trivial|rfl|apply aA)
  ·exact aP (fun z=>(resI z).1) hv
  exact aP (fun z=>(resI z).2) hv
theorem aI4 (p:Prop) [Decidable p] (m:Nat):sgP (¬p/\m≠0) (m:Int)= -sgP p m:=by
 unfold sgP;by_cases h:m=0
 ·simp[h]
 by_cases hp:p<;>simp[h,hp]
theorem aLb (a b:Bx):sgP (addS (a.headD 0=45) (valB B6 (aI B6 (aT (digs a)))).toNat (¬b.headD 0=45/\(valB B6 (aI B6 (aT (digs b)))).toNat≠0) (valB B6 (aI B6 (aT (digs b)))).toNat) (addN (a.headD 0=45) (valB B6 (aI B6 (aT (digs a)))).toNat (¬b.headD 0=45/\(valB B6 (aI B6 (aT (digs b)))).toNat≠0) (valB B6 (aI B6 (aT (digs b)))).toNat)=valI a-valI b:=by
 rw[Xk,aI4];simp only[v6,aJ,jH];omega
def c82:Con:=aR 223 true fun | [.str a,.str b],K=>Need (chkI a=0/\chkI b=0) (K (.tup [I (cmpI (valI a) (valI b)),I 0])) | _,_=>False
theorem k82:aO Tp c82:=by
 refine kQ {} Tryz.func223 Tryz.ntmps223 (kc k110 (kc k111 (kc k112 (kc k121 (kc k114 kn))))) fun _ _ h=>?_;split at h;case h_2=>cases h
 rename_i a b;refine kb h.go ?_;replace h:=h.ok;obtain ⟨ha,hb⟩:=h;obtain ⟨fa,la⟩:=eK ha;obtain ⟨fb,lb⟩:=eK hb;have zA:=lP fa la;have zB:=lP fb lb;have hab:form a/\form b:=⟨fa,fb⟩;have ra:form a/\(digs a).length<=600:=⟨fa,om⟩;have rb:form b/\(digs b).length<=600:=⟨fb,om⟩;have hc2:¬chk2 a b≠0:=by
  unfold chk2;rw[aC (by rw[ha];simp),hb];simp
 have zB':Cx (¬b.headD 0=45/\(valB B6 (aI B6 (aT (digs b)))).toNat≠0) (aI B6 (aT (digs b))):=⟨zB.1,zB.2.1,fun h=>dP h.2⟩;have hv:=aLb a b;refine Br.mkN (show ¬ ¬chk2 a b=0 from hc2) ?_;(repeat refine ZG ?_);(apply Br.mk<;>intro)
 ·rename_i hs;(apply Br.mk<;>intro)
  ·rename_i h1;(conv=>whnf);(repeat' first|exact trivial|rfl|apply aA);unfold cmpI;rw[aD h1]
  rename_i h1;(apply Br.mk<;>intro)
  ·rename_i h2;(conv=>whnf);(repeat' first|exact trivial|rfl|apply aA);unfold cmpI;rw[aC h1,aC om]
  rename_i h2;(conv=>whnf);(repeat' first|exact trivial|rfl|apply aA);unfold cmpI;rw[aC h1,aD om]
 (apply Br.mk<;>intro);all_goals
  (repeat'((conv=>whnf);first|refine Zn ?_|fail));refine Need.mk ⟨zA,zB'⟩ ?_;(repeat' first|refine ZG ?_|refine Zg fun _=>?_);(apply Br.mk<;>intro)
  ·rename_i hz;have e0:addN (a.headD 0=45) (valB B6 (aI B6 (aT (digs a)))).toNat (¬b.headD 0=45/\(valB B6 (aI B6 (aT (digs b)))).toNat≠0) (valB B6 (aI B6 (aT (digs b)))).toNat=0:=(rZ _).1 om;have e1:valI a-valI b=0:=by
    rw[<- hv,e0];unfold sgP;split<;>rfl
   (conv=>whnf);(repeat' first|exact trivial|rfl|apply aA);unfold cmpI;rw[aC om,aD om]
  rename_i hz;have e0:addN (a.headD 0=45) (valB B6 (aI B6 (aT (digs a)))).toNat (¬b.headD 0=45/\(valB B6 (aI B6 (aT (digs b)))).toNat≠0) (valB B6 (aI B6 (aT (digs b)))).toNat≠0:=fun h'=>hz (by rw[h',dM];rfl);(apply Br.mk<;>intro)
  ·rename_i hs;have e1:valI a-valI b<0:=by
    rw[<- hv];unfold sgP;rw[aD hs];omega
   (conv=>whnf);(repeat' first|exact trivial|rfl|apply aA);unfold cmpI;rw[aD om]
  rename_i hs;have e1:0<valI a-valI b:=by
   rw[<- hv];unfold sgP;rw[aC hs];omega
  (conv=>whnf);(repeat' first|exact trivial|rfl|apply aA);unfold cmpI;rw[aC om,aC om]
theorem b71 (a b:Bx) (h:chkI a=0/\chkI b=0/\0<valI b/\valI b ∣ valI a):body Tp [c110,c111,c61,c112,c113,c115,c116] {} true Tryz.f271 [S a,S b] (.tup [S (itoa (valI a/valI b)),.any,I 0]):=by
 obtain ⟨ha,hb,hpos,hdv⟩:=h;obtain ⟨fa,la⟩:=eK ha;obtain ⟨fb,lb⟩:=eK hb;have zA:=lP fa la;have zB:=lP fb lb;have hab:form a/\form b:=⟨fa,fb⟩;have ra:form a/\(digs a).length<=600:=⟨fa,om⟩;have rb:form b/\(digs b).length<=600:=⟨fb,om⟩;have hc2:¬chk2 a b≠0:=by
  unfold chk2;rw[aC (by rw[ha];simp),hb];simp
 have hb0:¬b= [48]:=fun e=>by rw[e] at hpos;revert hpos;decide
 have hr0:valI a%valI b=0:=Int.emod_eq_zero_of_dvd hdv;have hbn:¬b.headD 0=45:=fun e=>by
  rw[jH] at hpos;unfold sgP at hpos;rw[aD e] at hpos;omega
 have vb:valI b=(aT (digs b):Int):=by rw[jH];unfold sgP;rw[aC hbn]
 refine Br.mkN (show ¬ ¬chk2 a b=0 from hc2) ?_;refine Br.mkN hb0 ?_;(repeat refine ZG ?_);(apply Br.mk<;>intro)
 ·rename_i hs;have h1:=qI fa hs.1;have h2:=qI fb hs.2;have t1:(valI a).tmod (valI b)=0:=by
   have:=Int.dvd_iff_tmod_eq_zero.1 hdv;exact this
  have t2:(valI a).tdiv (valI b)=valI a/valI b:=iX hdv;have t3:(valI a/valI b).natAbs<=(valI a).natAbs:=kF _ _;(repeat'((conv=>whnf);first|refine Zb ?_|refine Zn ?_|apply pI|apply pJ|fail));refine Br.mkN (show ¬ ¬(valI a).tmod (valI b)=0 by rw[t1];simp) ?_;(conv=>whnf);(repeat' first|exact trivial|rfl|apply aA);exact aP itoa t2
 have e6:=v6 (aT (digs b));have e6a:=v6 (aT (digs a));have nb:=pX fb lb;have na:=pX fa la;have hNb:0<aT (digs b):=om;have hN:InB B6 (aI B6 (aT (digs a)))/\lJ (aI B6 (aT (digs b)))/\(0<(valB B6 (aI B6 (aT (digs b)))).toNat/\(valB B6 (aI B6 (aT (digs b)))).toNat<B6^100)/\(aI B6 (aT (digs a))).length<=1000:=
  ⟨cR de _,kR _,⟨om,by rw[e6,aJ];exact aZ nb (bG de de)⟩,by have:=mV na;omega⟩
 have hA:valI a=if a.headD 0=45 then -(aT (digs a):Int) else (aT (digs a):Int):=by
  rw[jH];unfold sgP;rfl
 have hd:(aT (digs b):Int) ∣ (aT (digs a):Int):=by
  rw[<- vb];rw[hA] at hdv;split at hdv
  ·exact Int.dvd_neg.1 hdv
  exact hdv
 have hR:aI B6 (valB B6 (aI B6 (aT (digs a)))%valB B6 (aI B6 (aT (digs b)))).toNat= []:=by
  rw[e6,e6a,Int.emod_eq_zero_of_dvd hd];exact dM _
 have hQ:aI B6 (valB B6 (aI B6 (aT (digs a)))/valB B6 (aI B6 (aT (digs b)))).toNat=aI B6 (aT (digs a)/aT (digs b)):=by
  rw[e6,e6a,<- fS,aJ]
 have hq2:lJ (aI B6 (valB B6 (aI B6 (aT (digs a)))/valB B6 (aI B6 (aT (digs b)))).toNat)/\(aI B6 (valB B6 (aI B6 (aT (digs a)))/valB B6 (aI B6 (aT (digs b)))).toNat).length<=200:=by
  rw[hQ];refine ⟨kR _,?_⟩;have:=mV (m:=aT (digs a)/aT (digs b)) (k:=50) (bX (fA _ _) na);omega
 have hr2:lJ (aI B6 (valB B6 (aI B6 (aT (digs a)))%valB B6 (aI B6 (aT (digs b)))).toNat)/\(aI B6 (valB B6 (aI B6 (aT (digs a)))%valB B6 (aI B6 (aT (digs b)))).toNat).length<=200:=by
  rw[hR];exact ⟨by rw[<- dM B6];exact kR 0,si⟩
 have hrl:¬(0:Int)<((aI B6 (valB B6 (aI B6 (aT (digs a)))%valB B6 (aI B6 (aT (digs b)))).toNat).length:Int):=by rw[hR];simp
 have hres:resI (valI a/valI b)=(itoa (valI a/valI b),0):=by
  unfold resI;rw[aC];have h1:(valI a/valI b).natAbs<=(valI a).natAbs:=kF _ _;have h2:(valI a).natAbs<10^ (digs a).length:=by
   have:=iE (digs a) fa.2.2;rw[hA];split<;>omega
  have h3:=mM la;rw[mA (k:=300) ⟨de,de⟩ (bX h1 (aZ h2 h3))];decide
 have vq:valB B6 (aI B6 (valB B6 (aI B6 (aT (digs a)))/valB B6 (aI B6 (aT (digs b)))).toNat)=((aT (digs a)/aT (digs b):Nat):Int):=by rw[hQ,v6]
 have hp1:a.headD 0=45->∀ [hD:Decidable ((0:Int)<((aI B6 (valB B6 (aI B6 (aT (digs a)))/valB B6 (aI B6 (aT (digs b)))).toNat).length:Int))],sgP ((0:Int)<((aI B6 (valB B6 (aI B6 (aT (digs a)))/valB B6 (aI B6 (aT (digs b)))).toNat).length:Int)) (valB B6 (aI B6 (valB B6 (aI B6 (aT (digs a)))/valB B6 (aI B6 (aT (digs b)))).toNat))=valI a/valI b:=by
  intro hp hD;rw[vq];have e0:valI a/valI b= -((aT (digs a)/aT (digs b):Nat):Int):=by
   rw[hA,aD hp,vb,Int.neg_ediv_of_dvd hd,fS]
  unfold sgP;split
  ·rw[e0]
  rename_i h0;rw[hQ] at h0;have:aT (digs a)/aT (digs b)=0:=(rZ _).1 om;rw[e0,this];rfl
 have hp0:¬a.headD 0=45->valB B6 (aI B6 (valB B6 (aI B6 (aT (digs a)))/valB B6 (aI B6 (aT (digs b)))).toNat)=valI a/valI b:=by
  intro hp;rw[vq,hA,aC hp,vb,fS]
 (apply Br.mk<;>intro);all_goals
  (repeat refine ZG ?_);by_cases hp:a.headD 0=45
  ·refine Br.mkY (show ¬(a.headD 0=45↔b.headD 0=45) from fun h'=>hbn (h'.1 hp)) ?_;(repeat'((conv=>whnf);first|refine Zg fun _=>?_|fail));refine Br.mkY hp ?_;(repeat' first|refine ZG ?_|refine Zg fun _=>?_);refine Br.mkN hrl ?_;(repeat refine ZG ?_);refine Br.mkN (by rw[hp1 hp,hres];simp) ?_;(repeat refine ZG ?_);(conv=>whnf);(repeat' first|exact trivial|rfl|apply aA);(conv=>whnf);rw[hp1 hp,hres]
  refine Br.mkN (show ¬ ¬(a.headD 0=45↔b.headD 0=45) from fun h'=>h' ⟨fun h=>absurd h hp,fun h=>absurd h hbn⟩) ?_;refine Br.mkN hp ?_;(repeat' first|refine ZG ?_|refine Zg fun _=>?_);refine Br.mkN hrl ?_;(repeat refine ZG ?_);refine Br.mkN (by rw[hp0 hp,hres];simp) ?_;(repeat refine ZG ?_);(conv=>whnf);(repeat' first|exact trivial|rfl|apply aA);(conv=>whnf);rw[hp0 hp,hres]
def c71:Con:=aR 271 true fun args K=>match args with | [.str a,.str b]=>Need (chkI a=0/\chkI b=0/\0<valI b/\valI b ∣ valI a) (K (.tup [S (itoa (valI a/valI b)),.any,I 0])) | _=>False
theorem k71:aO Tp c71:=by
 refine kO Tryz.func271 fun args K h=>?_;simp only[c71] at h;split at h
 ·rename_i a b;exact ⟨_,h.go,triB Tryz.func271 Tryz.ntmps271 (by simp[k110,k111,k61,k112,k113,k115,k116]) (b71 a b h.ok)⟩
 cases h
theorem Pq (x:Nat):∀j,lowD x (j+1)=lowD (x/10) j++ [((48+x%10:Nat):Int)]
 | 0=>by simp[lowD]
 | j+1=>by
  rw[lowD,Pq x j,lowD,gN];congr 3
  rw[eD,fL,Nat.div_div_eq_div_mul]
theorem aAs (a b:List Int):fE (a++b)=fE a++fE b:=by unfold fE;rw[jB]
theorem Xl:∀(k x:Nat),x<10^ (k+1)->(k=0\/10^k<=x)->fE (lowD x (k+1))=decDigits x
 | 0,x,h,_=>by
  have h:x<10:=by simpa using h
  rw[dec1 h];show [UInt8.ofNat (((48+x/10^0%10:Nat):Int)).toNat]= _;rw[aJ,Nat.pow_zero,Nat.div_one,eB h]
 | k+1,x,h,h2=>by
  have h2:10^ (k+1)<=x:=h2.elim (fun h=>om) id;have h10:10<=x:=bL (by rw[eD];have:0<10^k:=sQ om;omega) h2;rw[Pq,aAs,Xl k (x/10) (by rw[eD] at h;omega) (.inr (by rw[eD] at h2;omega))]
  conv=>rhs;rw[decDigits,Ex om]
  rfl
def oD (x k:Nat):List Int:=List.replicate (20-k) 0++lowD x k
theorem aOn {x k:Nat} (h:k<=20):(oD x k).length=20:=by
 simp only[oD,aS,fJ,Mj];omega
theorem aI5 {x k:Nat} {v:Int} (h:k<20) (hv:v=((48+x/10^k%10:Nat):Int)):(oD x k).set (20-(k+1)) v=oD x (k+1):=by
 unfold oD;obtain ⟨m,hm⟩:∃m,m=20-(k+1):=⟨_,rfl⟩;rw[show 20-k=m+1 by omega,<- hm,Xf,hv];rfl
theorem aLc {x k:Nat} (h:k<=20):(oD x k).drop (20-k)=lowD x k:=by
 unfold oD;rw[List.drop_left' si]
theorem b101 (n:Nat) (hn:n<=9223372036854775807):body Tp [] { asks:=[(0,[])] } true Tryz.f217 [I n] (S (decDigits n)):=by
 refine Need.mk ⟨om,om,om,show (20:Int)*((1:Nat):Int)<=140737488355328 by omega⟩ ?_;(repeat'((conv=>whnf);first|refine Zg fun _=>?_|fail));refine Ask.mk ⟨{ X:=Nat,pre:=fun k=>k<=18/\(k=0\/10^k<=n),mod:=fun k _=>[(0,I ((n/10^k:Nat):Int)),(4,I (20-k))],heap:=fun k H=>[U (oD n k)],mu:=fun k=>20-k },rfl,?_⟩;(repeat refine ZG ?_);refine ⟨⟨(0:Nat),⟨om,.inl rfl⟩,?_⟩,fun (k:Nat) hk=>?_⟩
 ·exact ZE
 obtain ⟨hk1,hk2⟩:=hk;obtain ⟨q,hq⟩:∃q,n/10^k=q:=⟨_,rfl⟩;have hq0:q<=n:=by rw[<- hq];exact fA _ _
 have tq:(q:Int).tmod 10=((q%10:Nat):Int):=by rw[fR om];omega
 have dq:(q:Int).tdiv 10=((q/10:Nat):Int):=by rw[kA om];omega
 have hq1:n/10^ (k+1)=q/10:=by rw[eD,<- Nat.div_div_eq_div_mul,hq]
 have hln:=aOn (x:=n) (k:=k) om;subst hq;have hb1: -9223372036854775808<=((n/10^k:Nat):Int).tdiv 10/\((n/10^k:Nat):Int).tdiv 10<=9223372036854775807:=by
  rw[dq];have:n/10^k/10<=n/10^k:=fA _ _;omega
 (repeat refine ZG ?_);refine eS (20-(k+1)) om ?_;(repeat refine ZG ?_);(apply Br.mk<;>intro)
 ·rename_i hz;have hz:n/10^ (k+1)=0:=om;have hlt:n<10^ (k+1):=by
   refine wS fun h=>?_;have:=Nat.div_pos h (sQ om);omega
  have hset:(oD n k).set (20-(k+1)) (48+((n/10^k:Nat):Int).tmod 10)=oD n (k+1):=by
   refine aI5 om ?_;rw[tq];omega
  (repeat refine ZG ?_);refine eS (20-(k+1)) om ?_;(conv=>whnf);rw[hset,aLc om];exact Xl k n hlt hk2
 rename_i hz;have hz:n/10^ (k+1)≠0:=om;have hp:0<10^ (k+1):=sQ om;have hge:10^ (k+1)<=n:=oK fun h=>hz (wT h);have hk17:k+1<=18:=by
  refine oK fun h=>?_;have h1:10^19<=10^ (k+1):=mM om;have h2:(10:Nat)^19=10000000000000000000:=de;omega
 refine ⟨(k+1:Nat),by show 20-(k+1)<20-k;omega,⟨hk17,.inr hge⟩,?_⟩;(repeat' first|exact trivial|rfl|apply aA|omega);refine aI5 om ?_;rw[tq];omega
theorem b101i (n:Int) (h:0<=n/\n<=9223372036854775807):body Tp [] { asks:=[(0,[])] } true Tryz.f217 [I n] (S (itoa n)):=by
 obtain ⟨m,rfl⟩:∃m:Nat,n=m:=⟨n.toNat,om⟩;rw[nO];exact b101 m om
def c101:Con:=aR 217 true fun args K=>match args with | [.val (.int .i64 n)]=>Need (0<=n/\n<=9223372036854775807) (K (S (itoa n))) | _=>False
theorem k101:aO Tp c101:=by
 refine kO Tryz.func217 fun args K h=>?_;simp only[c101] at h;split at h
 ·rename_i n;exact ⟨_,h.go,triB Tryz.func217 Tryz.ntmps217 si (b101i n h.ok)⟩
 cases h
theorem aAt {n:Int} {d:Nat} (hd:0<d):numS (Rat.divInt n d)=(if n<0 then [45] else [])++(decDigits (n.natAbs/n.natAbs.gcd d)++(if d/n.natAbs.gcd d=1 then [] else 47::decDigits (d/n.natAbs.gcd d))):=by
 rw[lY n d om,aJ,Ik n d om,kY d];have hg:0<n.natAbs.gcd d:=Nat.gcd_pos_of_pos_right _ hd;have hdv:((n.natAbs.gcd d:Nat):Int) ∣ n:=Int.ofNat_dvd_left.2 (Nat.gcd_dvd_left ..);have e:itoa (n/(n.natAbs.gcd d:Nat))=(if n<0 then [45] else [])++decDigits (n.natAbs/n.natAbs.gcd d):=by
  have h1:(n/((n.natAbs.gcd d:Nat):Int)).natAbs=n.natAbs/n.natAbs.gcd d:=by
   rw[Int.natAbs_ediv_of_dvd hdv,dC]
  by_cases hn:n<0
  ·have h2:n/((n.natAbs.gcd d:Nat):Int)<0:=Int.ediv_neg_of_neg_of_pos hn om;unfold itoa;rw[aD h2,aD hn,h1];rfl
  have h2:0<=n/((n.natAbs.gcd d:Nat):Int):=dU om om;unfold itoa;rw[aC om,aC hn,<- h1];rw[show (n/((n.natAbs.gcd d:Nat):Int)).toNat=(n/((n.natAbs.gcd d:Nat):Int)).natAbs by omega];rfl
 rw[e];split
 ·simp
 simp
theorem aM1 {n:Nat} (h:n<=4611686018427387904):(decDigits n).length<=19:=IB.oC 18 n om
def c62:Con:=aR 169 true fun | [.val (.int .i64 n),.val (.int .i64 d)],K=>Need ((-4611686018427387904<=n/\n<=4611686018427387904)/\(1<=d/\d<=4611686018427387904)) (K (S (numS (Rat.divInt n d)))) | _,_=>False
theorem k62:aO Tp c62:=by
 refine kQ {} Tryz.func169 Tryz.ntmps169 (kc k84 (kc k101 kn)) fun _ _ h=>?_;split at h;case h_2=>cases h
 rename_i n d;refine kb h.go ?_;replace h:=h.ok;obtain ⟨hn,hd⟩:=h;obtain ⟨D,rfl⟩:∃D:Nat,d=D:=⟨d.toNat,om⟩;rw[aAt om];obtain ⟨m,hm⟩:∃m,n.natAbs=m:=⟨_,rfl⟩;rw[hm];have hg:0<m.gcd D:=Nat.gcd_pos_of_pos_right _ om;have hgle:m.gcd D<=D:=oM _ om;have q1:m/m.gcd D<=m:=fA _ _;have q2:D/m.gcd D<=D:=fA _ _;have l1:=aM1 (n:=m/m.gcd D) om;have l2:=aM1 (n:=D/m.gcd D) om;have t2:(D:Int)/((m.gcd D:Nat):Int)=((D/m.gcd D:Nat):Int):=rfl;have t1:(m:Int)/((m.gcd D:Nat):Int)=((m/m.gcd D:Nat):Int):=rfl;have tail:∀x:Int,0<=x->x.natAbs=m->Int.gcd x D=m.gcd D/\x/((Int.gcd x D:Nat):Int)=((m/m.gcd D:Nat):Int)/\(D:Int)/((Int.gcd x D:Nat):Int)=((D/m.gcd D:Nat):Int):=by
  intro x hx hxm;have e1:Int.gcd x D=m.gcd D:=by unfold Int.gcd;rw[hxm,dC]
  have e2:x=(m:Int):=om;rw[e1];exact ⟨rfl,by rw[e2];exact t1,t2⟩
 (apply Br.mk<;>intro)
 ·rename_i hneg;obtain ⟨e1,e2,e3⟩:=tail (-n) om om;rw[aD hneg];have n1:0<=(-n)/((Int.gcd (-n) D:Nat):Int)/\(-n)/((Int.gcd (-n) D:Nat):Int)<=9223372036854775807:=by rw[e2];exact ⟨mK _,eW (yI.2 q1) om⟩
  have n2:0<=(D:Int)/((Int.gcd (-n) D:Nat):Int)/\(D:Int)/((Int.gcd (-n) D:Nat):Int)<=9223372036854775807:=by rw[e3];exact ⟨mK _,eW (yI.2 q2) om⟩
  have s1:itoa ((-n)/((Int.gcd (-n) D:Nat):Int))=decDigits (m/m.gcd D):=by rw[e2,nO]
  have s2:itoa ((D:Int)/((Int.gcd (-n) D:Nat):Int))=decDigits (D/m.gcd D):=by rw[e3,nO]
  have m1:(itoa ((-n)/((Int.gcd (-n) D:Nat):Int))).length<=19:=by rw[s1];exact l1
  have m2:(itoa ((D:Int)/((Int.gcd (-n) D:Nat):Int))).length<=19:=by rw[s2];exact l2
  (repeat'((conv=>whnf);first|refine Za ?_|refine Zn ?_|fail));refine Need.mk (show 1+(itoa ((-n)/((Int.gcd (-n) D:Nat):Int))).length<=140737488355328 by omega) ?_;(repeat refine ZG ?_);(apply Br.mk<;>intro)
  ·rename_i hone;have hone:D/m.gcd D=1:=om;rw[aD hone];(conv=>whnf);rw[s1];simp
  rename_i hone;have hone:¬D/m.gcd D=1:=om;rw[aC hone];refine Need.mk (by rw[aS];show 1+ _+1<= _;omega) ?_;(repeat'((conv=>whnf);first|refine Za ?_|refine Zn ?_|fail));refine Need.mk (by rw[aS,aS];show 1+ _+1+ _<= _;omega) ?_;(conv=>whnf);rw[s1,s2];simp
 rename_i hneg;obtain ⟨e1,e2,e3⟩:=tail n om hm;rw[aC hneg];have n1:0<=n/((Int.gcd n D:Nat):Int)/\n/((Int.gcd n D:Nat):Int)<=9223372036854775807:=by rw[e2];exact ⟨mK _,eW (yI.2 q1) om⟩
 have n2:0<=(D:Int)/((Int.gcd n D:Nat):Int)/\(D:Int)/((Int.gcd n D:Nat):Int)<=9223372036854775807:=by rw[e3];exact ⟨mK _,eW (yI.2 q2) om⟩
 have s1:itoa (n/((Int.gcd n D:Nat):Int))=decDigits (m/m.gcd D):=by rw[e2,nO]
 have s2:itoa ((D:Int)/((Int.gcd n D:Nat):Int))=decDigits (D/m.gcd D):=by rw[e3,nO]
 have m1:(itoa (n/((Int.gcd n D:Nat):Int))).length<=19:=by rw[s1];exact l1
 have m2:(itoa ((D:Int)/((Int.gcd n D:Nat):Int))).length<=19:=by rw[s2];exact l2
 (repeat refine ZG ?_);(apply Br.mk<;>intro)
 ·rename_i hone;have hone:D/m.gcd D=1:=om;rw[aD hone];(conv=>whnf);rw[s1];simp
 rename_i hone;have hone:¬D/m.gcd D=1:=om;rw[aC hone];(repeat refine ZG ?_);(conv=>whnf);rw[s1,s2];simp
def aI6 (a:Bx):Prop:=(82<a.length/\a.length<602)\/700<a.length
instance (a:Bx):Decidable (aI6 a):=by unfold aI6;infer_instance
theorem Mp (q:Rat):(numS q).headD 0=45↔q<0:=by
 rw[<- Gp];exact (fW (cB.2 (Sq q)) 45).symm
theorem lt0 (q:Rat):q<0↔q.num<0:=by
 rw[sB];show q.num*((1:Nat):Int)<0* _↔ _;omega
theorem iZ (n:Int):itoa n=(if n<0 then 45::decDigits n.natAbs else decDigits n.natAbs):=by
 unfold itoa;split
 ·rfl
 rw[show n.toNat=n.natAbs by omega]
theorem Sz.digs {q:Rat} (h:Sz 300 q):(decDigits q.num.natAbs).length<=300/\(decDigits q.den).length<=300:=⟨uV (k:=300) de h.1,uV (k:=300) de h.2⟩
theorem aEv (k:Nat) (hk:0<k):1<10^k:=aZ (show 1<10^1 by decide) (mM hk)
theorem oG {s:Bx} (h:chkQ s=0):s=numS (valQ s)/\Sz 300 (valQ s):=by
 obtain ⟨e,h3,h4⟩:=Ed h;refine ⟨e,?_,?_⟩
 ·refine tL (k:=300) ?_;rw[e,oX,fN] at h3;exact h3
 by_cases h1:(valQ s).den=1
 ·rw[h1];exact aEv 300 de
 refine tL (k:=300) ?_;rw[e,sK,aC h1] at h4;exact h4
theorem b65 (q:Rat) (hq:Sz 300 q):body Tp [c73] {} true Tryz.f125 [S (numS q)] (.tup [S (pn q),S (pd q)]):=by
 have e1:digs (topS (numS q))=decDigits q.num.natAbs:=by rw[oX,fN]
 have e2:(numS q).headD 0=45↔q.num<0:=by rw[Mp,lt0]
 have e3:=iZ q.num;have l1:=hq.digs.1;have e4:=sK q;have hpn:∀h:q.num<0,pn q=45::decDigits q.num.natAbs:=fun h=>by unfold pn;rw[e3,aD h]
 have hpp:∀h:¬q.num<0,pn q=decDigits q.num.natAbs:=fun h=>by unfold pn;rw[e3,aC h]
 have f1:∀h:q.den=1,pd q= [49]:=fun h=>aOm.2 h;have f2:∀h:¬q.den=1,(botS (numS q)).tail=pd q:=fun h=>by rw[e4,aC h];rfl
 by_cases hn:q.num<0
 ·refine Br.mkY (e2.2 hn) ?_;refine Need.mk (by rw[e1];show 1+ _<= _;omega) ?_;by_cases hd:q.den=1
  ·refine Br.mkY (show ¬ ¬botS (numS q)= [] by rw[e4,aD hd];simp) ?_;(conv=>whnf);(repeat' first|exact trivial|apply aA)
   ·(conv=>whnf);rw[hpn hn,e1];rfl
   (conv=>whnf);exact (f1 hd).symm
  refine Br.mkN (show ¬ ¬ ¬botS (numS q)= [] by rw[e4,aC hd];simp) ?_;(conv=>whnf);(repeat' first|exact trivial|apply aA)
  ·(conv=>whnf);rw[hpn hn,e1];rfl
  (conv=>whnf);exact f2 hd
 refine Br.mkN (fun h=>hn (e2.1 h)) ?_;by_cases hd:q.den=1
 ·refine Br.mkY (show ¬ ¬botS (numS q)= [] by rw[e4,aD hd];simp) ?_;(conv=>whnf);(repeat' first|exact trivial|apply aA)
  ·(conv=>whnf);rw[hpp hn,e1]
  (conv=>whnf);exact (f1 hd).symm
 refine Br.mkN (show ¬ ¬ ¬botS (numS q)= [] by rw[e4,aC hd];simp) ?_;(conv=>whnf);(repeat' first|exact trivial|apply aA)
 ·(conv=>whnf);rw[hpp hn,e1]
 (conv=>whnf);exact f2 hd
def c65:Con:=aR 125 true fun args K=>match args with | [.str s]=>Need (chkQ s=0) (K (.tup [S (pn (valQ s)),S (pd (valQ s))])) | _=>False
theorem k65:aO Tp c65:=by
 refine kO Tryz.func125 fun args K h=>?_;simp only[c65] at h;split at h
 ·rename_i s;obtain ⟨e,hq⟩:=oG h.ok;refine ⟨_,h.go,?_⟩;have ht:=triB Tryz.func125 Tryz.ntmps125 (by simp[k73]) (b65 (valQ s) hq);rw[<- e] at ht;exact ht
 cases h
def smR (q:Rat):Prop:=(decDigits q.num.natAbs).length<=9/\(q.den=1\/(decDigits q.den).length<=9)
instance (q:Rat):Decidable (smR q):=by unfold smR;infer_instance
theorem yD {q:Rat} (h:smR q):q.num.natAbs<1000000000/\q.den<1000000000:=by
 refine ⟨?_,?_⟩
 ·have:=tL (k:=9) h.1;simpa using this
 rcases h.2 with h | h
 ·omega
 have:=tL (k:=9) h;simpa using this
theorem b70 (q:Rat) (hq:Sz 300 q):(∀h:smR q,body Tp [c73,c85] {} true Tryz.f168 [S (numS q)] (.tup [I q.num,I q.den,.val (.bool true)]))/\(∀h:¬smR q,body Tp [c73,c85] {} true Tryz.f168 [S (numS q)] (.tup [I 0,I 0,.val (.bool false)])):=by
 have e1:digs (topS (numS q))=decDigits q.num.natAbs:=by rw[oX,fN]
 have e2:(numS q).headD 0=45↔q.num<0:=by rw[Mp,lt0]
 have l1:=hq.digs;have e4:=sK q;have hd1:∀c∈decDigits q.num.natAbs,cY c:=fun c hc=>oE _ c hc;have hd2:∀c∈decDigits q.den,cY c:=fun c hc=>oE _ c hc;refine ⟨fun h=>?_,fun h=>?_⟩
 ·have hl:=yD h;have k1:(digs (topS (numS q))).length<=9:=by rw[e1];exact h.1
  have k2:(botS (numS q)).tail.length<=9:=by
   rw[e4];split
   ·simp
   rename_i h1;rcases h.2 with h2 | h2
   ·exact absurd h2 h1
   exact h2
  have n1:aT (digs (topS (numS q)))=q.num.natAbs:=by rw[e1,iA]
  have m1:(∀c∈digs (topS (numS q)),cY c)/\(digs (topS (numS q))).length<=18:=⟨by rw[e1];exact hd1,om⟩;(repeat' first|refine ZR ?_|refine Zg fun _=>?_);by_cases hd:q.den=1
  ·refine Br.mkN (show ¬ ¬botS (numS q)= [] by rw[e4,aD hd];simp) ?_;by_cases hn:q.num<0
   ·refine Br.mkY (e2.2 hn) ?_;(repeat refine ZG ?_);(conv=>whnf);(repeat' first|exact trivial|rfl|apply aA)
    ·(conv=>whnf);omega
    (conv=>whnf);omega
   refine Br.mkN (fun h=>hn (e2.1 h)) ?_;(conv=>whnf);(repeat' first|exact trivial|rfl|apply aA)
   ·(conv=>whnf);omega
   (conv=>whnf);omega
  have m2:(∀c∈(botS (numS q)).tail,cY c)/\(botS (numS q)).tail.length<=18:=⟨by rw[e4,aC hd];exact hd2,om⟩;have n2:aT (botS (numS q)).tail=q.den:=by rw[e4,aC hd];exact iA _
  refine Br.mkY (show ¬botS (numS q)= [] by rw[e4,aC hd];simp) ?_;(repeat refine ZG ?_);by_cases hn:q.num<0
  ·refine Br.mkY (e2.2 hn) ?_;(repeat refine ZG ?_);(conv=>whnf);(repeat' first|exact trivial|rfl|apply aA)
   ·(conv=>whnf);omega
   (conv=>whnf);omega
  refine Br.mkN (fun h=>hn (e2.1 h)) ?_;(conv=>whnf);(repeat' first|exact trivial|rfl|apply aA)
  ·(conv=>whnf);omega
  (conv=>whnf);omega
 by_cases k1:9<(digs (topS (numS q))).length
 ·exact ZRF
 have k2:9<(botS (numS q)).tail.length:=by
  rw[e1] at k1;refine wS fun hx=>h ⟨om,?_⟩;rw[e4] at hx;split at hx
  ·rename_i h1;exact .inl h1
  exact .inr hx
 exact ZRF
def c70:Con:=aR 168 true fun args K=>match args with
 | [.str s]=>Need (chkQ s=0) (Br (smR (valQ s)) (K (.tup [I (valQ s).num,I (valQ s).den,.val (.bool true)])) (K (.tup [I 0,I 0,.val (.bool false)])))
 | _=>False
theorem k70:aO Tp c70:=by
 refine kO Tryz.func168 fun args K h=>?_;simp only[c70] at h;split at h
 ·rename_i s;obtain ⟨e,hq⟩:=oG h.ok;have hb:=b70 (valQ s) hq;rw[<- e] at hb;by_cases hl:smR (valQ s)
  ·exact ⟨_,h.go.yes hl,triB Tryz.func168 Tryz.ntmps168 (by simp[k73,k85]) (hb.1 hl)⟩
  exact ⟨_,h.go.no hl,triB Tryz.func168 Tryz.ntmps168 (by simp[k73,k85]) (hb.2 hl)⟩
 cases h
def chkB (a b:Bx):Int:=if chkQ a≠0 then chkQ a else chkQ b
theorem b78 (a b:Bx):body Tp [c44] {} true Tryz.f167 [S a,S b] (I (chkB a b)):=by
 unfold chkB;(apply Br.mk<;>intro)
 ·rename_i h;rw[aD h];exact ZF
 rename_i h;rw[aC h];exact ZF
def c78:Con:=aR 167 true fun args K=>match args with | [.str a,.str b]=>K (I (chkB a b)) | _=>False
theorem k78:aO Tp c78:=by
 refine kO Tryz.func167 fun args K h=>?_;simp only[c78] at h;split at h
 ·rename_i a b;exact ⟨_,h,triB Tryz.func167 Tryz.ntmps167 (by simp[k44]) (b78 a b)⟩
 cases h
abbrev ok4 (a b c d:Bx):Prop:=(chkI a=0/\chkI b=0)/\chkI c=0/\chkI d=0
theorem b81n (a b c d:Bx) (h:ok4 a b c d) (hl:lim (valI a*valI b)=true):body Tp [c120] {} true Tryz.f218 [S a,S b,S c,S d] (.tup [S [],S [],I 4]):=by
 obtain ⟨⟨ha,hb⟩,hc,hd⟩:=h;have e1:eN a b (resI (valI a*valI b))=([],4):=by rw[xW ha hb];unfold resI;rw[aD hl]
 refine Br.mkY (show ¬(eN a b (resI (valI a*valI b))).2=0 by rw[e1];decide) ?_;(conv=>whnf);(repeat' first|exact trivial|rfl|apply aA);(conv=>whnf);rw[e1]
theorem b81y (a b c d:Bx) (h:ok4 a b c d) (hl:lim (valI a*valI b)=false):body Tp [c120] {} true Tryz.f218 [S a,S b,S c,S d] (.tup [S (itoa (valI a*valI b)),S (resI (valI c*valI d)).1,I (resI (valI c*valI d)).2]):=by
 obtain ⟨⟨ha,hb⟩,hc,hd⟩:=h;have e1:eN a b (resI (valI a*valI b))=(itoa (valI a*valI b),0):=by rw[xW ha hb];unfold resI;rw[aC (by rw[hl];decide)]
 have e2:=xW hc hd (resI (valI c*valI d));refine Br.mkN (show ¬ ¬(eN a b (resI (valI a*valI b))).2=0 by rw[e1];simp) ?_;(conv=>whnf);(repeat' first|exact trivial|rfl|apply aA)
 ·(conv=>whnf);rw[e1]
 ·(conv=>whnf);rw[e2]
 (conv=>whnf);rw[e2]
def c81:Con:=aR 218 true fun args K=>match args with
 | [.str a,.str b,.str c,.str d]=>Need (ok4 a b c d) (Br (lim (valI a*valI b)=true) (K (.tup [S [],S [],I 4])) (K (.tup [S (itoa (valI a*valI b)),S (resI (valI c*valI d)).1,I (resI (valI c*valI d)).2])))
 | _=>False
theorem k81:aO Tp c81:=by
 refine kO Tryz.func218 fun args K h=>?_;simp only[c81] at h;split at h
 ·rename_i a b c d;by_cases hl:lim (valI a*valI b)=true
  ·exact ⟨_,h.go.yes hl,triB Tryz.func218 Tryz.ntmps218 (by simp[k120]) (b81n a b c d h.ok hl)⟩
  exact ⟨_,h.go.no hl,triB Tryz.func218 Tryz.ntmps218 (by simp[k120]) (b81y a b c d h.ok (by simpa using hl))⟩
 cases h
theorem Bg (n:Int):bE (itoa n) 0=45↔n<0:=by
 rw[iZ];split
 ·rename_i h;exact ⟨fun _=>h,fun _=>rfl⟩
 rename_i h;constructor
 ·intro h2;exfalso;refine zM (n:=n.natAbs) (UInt8.toNat_inj.1 ?_);unfold bE at h2;have:(45:UInt8).toNat=45:=rfl;omega
 intro h2;exact absurd h2 h
theorem wP {n:Int} (h:n<0):(itoa n).drop 1=itoa (-n):=by
 rw[iZ,aD h,iZ,aC om,nV];rfl
theorem Xm {n:Int} (h:0<n):45::itoa n=itoa (-n):=by
 rw[iZ (-n),aD om,iZ n,aC om,nV]
theorem Mq {x y:Int} (hy:0<y):numS (Rat.divInt x y)=if y/(Int.gcd x y:Nat)=1 then itoa (x/(Int.gcd x y:Nat)) else itoa (x/(Int.gcd x y:Nat))++47::itoa (y/(Int.gcd x y:Nat)):=by
 obtain ⟨d,rfl⟩:∃d:Nat,y=d:=⟨y.toNat,om⟩;have hg:Int.gcd x d=d.gcd x.natAbs:=by unfold Int.gcd;rw[dC,kY]
 rw[lY x d om,aJ,Ik x d om,hg,<- fS,nO];by_cases h:d/d.gcd x.natAbs=1
 ·rw[aD h,aD om]
 rw[aC h,aC om]
theorem b63 (x y:Int) (hx:lim x=false) (hy:lim y=false) (h0:y≠0):body Tp [c85,c62,c86,c71] { cuts:=[(7,{ X:=Int × Int,pre:=fun z=>(lim z.1=false/\lim z.2=false)/\0<z.2/\Rat.divInt z.1 z.2=Rat.divInt x y,mod:=fun z _=>[(0,S (itoa z.1)),(1,S (itoa z.2))] })] } true Tryz.f219 [S (itoa x),S (itoa y)] (.tup [S (numS (Rat.divInt x y)),I 0]):=by
 have py:0<(itoa y).length:=qT;have px:0<(itoa x).length:=qT;have hby:=Bg y;have hbx:=Bg x;have ly:=mZ hy;have lx:=mZ hx;(repeat refine ZG ?_);refine ⟨⟨(),?_⟩,fun _ (z:Int × Int) hz=>?_⟩
 ·(repeat' first|refine ZG ?_|refine Zg fun _=>?_);by_cases hn:y<0
  ·refine Br.mkY (hby.2 hn) ?_;(repeat' first|refine ZG ?_|refine Zg fun _=>?_);by_cases hm:x<0
   ·refine Br.mkY (hbx.2 hm) ?_;(repeat refine ZG ?_);refine ⟨(-x, -y),⟨⟨by show lim (-x)=false;rw[tJ];exact hx,by show lim (-y)=false;rw[tJ];exact hy⟩,by show 0 < -y;omega,mI x y⟩,?_⟩;(repeat' first|exact trivial|apply aA)
    ·exact wP hm
    exact wP hn
   refine Br.mkN (fun h=>hm (hbx.1 h)) ?_;by_cases hx0:x=0
   ·refine Br.mkN (show ¬ ¬itoa x= [48] by rw[Pp];simpa using hx0) ?_;refine ⟨(-x, -y),⟨⟨by show lim (-x)=false;rw[tJ];exact hx,by show lim (-y)=false;rw[tJ];exact hy⟩,by show 0 < -y;omega,mI x y⟩,?_⟩;(repeat' first|exact trivial|apply aA)
    ·show itoa x=itoa (-x);rw[hx0];rfl
    exact wP hn
   refine Br.mkY (show ¬itoa x= [48] by rw[Pp];exact hx0) ?_;(repeat refine ZG ?_);refine ⟨(-x, -y),⟨⟨by show lim (-x)=false;rw[tJ];exact hx,by show lim (-y)=false;rw[tJ];exact hy⟩,by show 0 < -y;omega,mI x y⟩,?_⟩;(repeat' first|exact trivial|apply aA)
   ·exact Xm om
   exact wP hn
  refine Br.mkN (fun h=>hn (hby.1 h)) ?_;refine ⟨(x,y),⟨⟨hx,hy⟩,by show 0<y;omega,rfl⟩,?_⟩;exact ZE
 obtain ⟨⟨hx,hy⟩,hp,he⟩:=hz;rw[<- he,Mq hp];have ly:=mZ hy;have lx:=mZ hx;have d1:∀c∈decDigits z.1.natAbs,cY c:=fun c hc=>oE _ c hc;have d2:∀c∈decDigits z.2.natAbs,cY c:=fun c hc=>oE _ c hc;have i1:=iZ z.1;have i2:itoa z.2=decDigits z.2.natAbs:=by rw[iZ,aC om]
 have v2:aT (itoa z.2)=z.2.natAbs:=by rw[i2,iA]
 have hbx:=Bg z.1;have pz:0<(itoa z.1).length:=qT;by_cases hs:(itoa z.1).length<=18/\(itoa z.2).length<=18
 ·have m2:(∀c∈itoa z.2,cY c)/\(itoa z.2).length<=18:=⟨by rw[i2];exact d2,hs.2⟩;have a2:z.2.natAbs<10^18:=tL (k:=18) (by rw[<- i2];exact hs.2);by_cases hn:z.1<0
  ·have e1:(itoa z.1).drop 1=decDigits z.1.natAbs:=by rw[i1,aD hn];rfl
   have l1:(decDigits z.1.natAbs).length<=18:=by rw[<- e1,bB];omega
   have m1:(∀c∈(itoa z.1).drop 1,cY c)/\((itoa z.1).drop 1).length<=18:=by rw[e1];exact ⟨d1,l1⟩
   have v1:aT ((itoa z.1).drop 1)=z.1.natAbs:=by rw[e1,iA]
   have a1:z.1.natAbs<10^18:=tL (k:=18) l1;have h1: -((aT ((itoa z.1).drop 1):Nat):Int)=z.1:=by rw[v1];omega
   have h2:((aT (itoa z.2):Nat):Int)=z.2:=by rw[v2];omega
   (repeat' first|refine ZR ?_|refine Zg fun _=>?_);(conv=>whnf);(repeat' first|exact trivial|rfl|apply aA);(conv=>whnf);rw[h1,h2,Mq hp]
  have i1:itoa z.1=decDigits z.1.natAbs:=by rw[i1,aC hn]
  have m1:(∀c∈itoa z.1,cY c)/\(itoa z.1).length<=18:=⟨by rw[i1];exact d1,hs.1⟩;have v1:aT (itoa z.1)=z.1.natAbs:=by rw[i1,iA]
  have a1:z.1.natAbs<10^18:=tL (k:=18) (by rw[<- i1];exact hs.1);have h1:((aT (itoa z.1):Nat):Int)=z.1:=by rw[v1];omega
  have h2:((aT (itoa z.2):Nat):Int)=z.2:=by rw[v2];omega
  (repeat' first|refine ZR ?_|refine Zg fun _=>?_);(conv=>whnf);(repeat' first|exact trivial|rfl|apply aA);(conv=>whnf);rw[h1,h2,Mq hp]
 have hg:=Md hx hy (show z.2≠0 by omega);have g0:0<Int.gcd z.1 z.2:=gJ _ om;have gx:((Int.gcd z.1 z.2:Nat):Int) ∣ z.1:=oN ..;have gy:((Int.gcd z.1 z.2:Nat):Int) ∣ z.2:=nF ..;have gl:lim ((Int.gcd z.1 z.2:Nat):Int)=false:=by
  refine uS (y:=z.2) ?_ hy;rw[dC];exact Nat.le_of_dvd om (Int.ofNat_dvd_left.1 gy)
 have q1:(eN (itoa z.1) (itoa z.2) (resI (Int.gcd (valI (itoa z.1)) (valI (itoa z.2))))).1=itoa ((Int.gcd z.1 z.2:Nat):Int):=by rw[hg]
 have q2:(eN (itoa z.1) (itoa z.2) (resI (Int.gcd (valI (itoa z.1)) (valI (itoa z.2))))).2=0:=by rw[hg]
 have r1:itoa (valI (itoa z.1)/valI (eN (itoa z.1) (itoa z.2) (resI (Int.gcd (valI (itoa z.1)) (valI (itoa z.2))))).1)=itoa (z.1/(Int.gcd z.1 z.2:Nat)):=by rw[q1,cH,cH]
 have r2:itoa (valI (itoa z.2)/valI (eN (itoa z.1) (itoa z.2) (resI (Int.gcd (valI (itoa z.1)) (valI (itoa z.2))))).1)=itoa (z.2/(Int.gcd z.1 z.2:Nat)):=by rw[q1,cH,cH]
 have n1:chkI (itoa z.1)=0/\chkI (eN (itoa z.1) (itoa z.2) (resI (Int.gcd (valI (itoa z.1)) (valI (itoa z.2))))).1=0/\0<valI (eN (itoa z.1) (itoa z.2) (resI (Int.gcd (valI (itoa z.1)) (valI (itoa z.2))))).1/\valI (eN (itoa z.1) (itoa z.2) (resI (Int.gcd (valI (itoa z.1)) (valI (itoa z.2))))).1 ∣ valI (itoa z.1):=by
  rw[q1,cH,cH];exact ⟨cX hx,cX gl,om,gx⟩
 have n2:chkI (itoa z.2)=0/\chkI (eN (itoa z.1) (itoa z.2) (resI (Int.gcd (valI (itoa z.1)) (valI (itoa z.2))))).1=0/\0<valI (eN (itoa z.1) (itoa z.2) (resI (Int.gcd (valI (itoa z.1)) (valI (itoa z.2))))).1/\valI (eN (itoa z.1) (itoa z.2) (resI (Int.gcd (valI (itoa z.1)) (valI (itoa z.2))))).1 ∣ valI (itoa z.2):=by
  rw[q1,cH,cH];exact ⟨cX hy,cX gl,om,gy⟩
 have xl:lim (z.1/(Int.gcd z.1 z.2:Nat))=false:=uS (kF _ _) hx;have yl:lim (z.2/(Int.gcd z.1 z.2:Nat))=false:=uS (kF _ _) hy;have dl:∀n:Int,lim n=false->(decDigits n.natAbs).length<=300:=fun n h=>by unfold lim at h;simpa using h
 have hbA:=Bg (z.1/(Int.gcd z.1 z.2:Nat));have pA:0<(itoa (z.1/(Int.gcd z.1 z.2:Nat))).length:=qT;have pB:0<(itoa (z.2/(Int.gcd z.1 z.2:Nat))).length:=qT;have cA:=iZ (z.1/(Int.gcd z.1 z.2:Nat));have yp:0<z.2/(Int.gcd z.1 z.2:Nat):=Int.ediv_pos_of_pos_of_dvd hp om gy;have lB:(itoa (z.2/(Int.gcd z.1 z.2:Nat))).length<=300:=by
  rw[iZ,aC om];exact dl _ yl
 have lA1:z.1/(Int.gcd z.1 z.2:Nat)<0->((itoa (z.1/(Int.gcd z.1 z.2:Nat))).drop 1).length<=300/\(itoa (z.1/(Int.gcd z.1 z.2:Nat))).length<=301:=fun h=>by
  rw[cA,aD h];have:=dl _ xl;exact ⟨this,by rw[bS];omega⟩
 have lA2:¬z.1/(Int.gcd z.1 z.2:Nat)<0->(itoa (z.1/(Int.gcd z.1 z.2:Nat))).length<=300:=fun h=>by
  rw[cA,aC h];exact dl _ xl
 have hB1:itoa (z.2/(Int.gcd z.1 z.2:Nat))= [49]↔z.2/(Int.gcd z.1 z.2:Nat)=1:=by
  constructor
  ·intro h;have:=aP valI h;rw[cH] at this;rw[this];decide
  intro h;rw[h];exact (aDg (n:=1) de)
 have hcase:¬(itoa z.1).length<=18\/((itoa z.1).length<=18/\¬(itoa z.2).length<=18):=om;rcases hcase with hc1 | ⟨hc1,hc2⟩;all_goals
  (repeat' first|refine ZR ?_|refine Zg fun _=>?_);rw[r1,r2];(repeat' first|refine ZR ?_|refine Zg fun _=>?_);by_cases hn:z.1/(Int.gcd z.1 z.2:Nat)<0
  ·refine Br.mkY (hbA.2 hn) ?_;have l3:=lA1 hn;(repeat' first|refine ZR ?_|refine Zg fun _=>?_);by_cases h1:itoa (z.2/(Int.gcd z.1 z.2:Nat))= [49]
   ·refine Br.mkY h1 ?_;(conv=>whnf);(repeat' first|exact trivial|rfl|apply aA);(conv=>whnf);rw[aD (hB1.1 h1)]
   refine Br.mkN h1 ?_;(repeat refine ZG ?_);(conv=>whnf);(repeat' first|exact trivial|rfl|apply aA);(conv=>whnf);rw[aC fun h=>h1 (hB1.2 h)];simp
  refine Br.mkN (fun h=>hn (hbA.1 h)) ?_;have l3:=lA2 hn;(repeat' first|refine ZR ?_|refine Zg fun _=>?_);by_cases h1:itoa (z.2/(Int.gcd z.1 z.2:Nat))= [49]
  ·refine Br.mkY h1 ?_;(conv=>whnf);(repeat' first|exact trivial|rfl|apply aA);(conv=>whnf);rw[aD (hB1.1 h1)]
  refine Br.mkN h1 ?_;(repeat refine ZG ?_);(conv=>whnf);(repeat' first|exact trivial|rfl|apply aA);(conv=>whnf);rw[aC fun h=>h1 (hB1.2 h)];simp
def c63:Con:=aR 219 true fun args K=>match args with
 | [.str n,.str d]=>Need ((chkI n=0/\chkI d=0)/\valI d≠0) (K (.tup [S (numS (Rat.divInt (valI n) (valI d))),I 0]))
 | _=>False
theorem k63:aO Tp c63:=by
 refine kO Tryz.func219 fun args K h=>?_;simp only[c63] at h;split at h
 ·rename_i n d;obtain ⟨⟨hn,hd⟩,h0⟩:=h.ok;have e1:=Lk.1 (eK hn).1;have e2:=Lk.1 (eK hd).1;have l1:lim (valI n)=false:=En (by rw[<- e1];exact hn);have l2:lim (valI d)=false:=En (by rw[<- e2];exact hd);refine ⟨_,h.go,?_⟩;have ht:=triB Tryz.func219 Tryz.ntmps219 (by simp[k85,k62,k86,k71]) (b63 (valI n) (valI d) l1 l2 h0);rw[<- e1,<- e2] at ht;exact ht
 cases h
theorem Eu {n:Int} (h:lim n=true):resI n=([],4):=by unfold resI;rw[aD h]
theorem Ev {n:Int} (h:lim n=false):resI n=(itoa n,0):=by unfold resI;rw[aC (by rw[h];decide)]
theorem b80 (n d m c:Bx) (h:ok4 n m d c) (h0:valI d*valI c≠0):(∀hl:lim (valI n*valI m)=true\/lim (valI d*valI c)=true,body Tp [c81,c63] {} true Tryz.f170 [S n,S d,S m,S c] (.tup [S [],I 4]))/\(∀hl:¬(lim (valI n*valI m)=true\/lim (valI d*valI c)=true),body Tp [c81,c63] {} true Tryz.f170 [S n,S d,S m,S c] (.tup [S (numS (Rat.divInt (valI n*valI m) (valI d*valI c))),I 0])):=by
 refine ⟨fun hl=>?_,fun hl=>?_⟩
 ·by_cases h1:lim (valI n*valI m)=true
  ·(repeat refine ZG ?_);refine Br.mkY h1 ?_;exact ZRF
  have h2:lim (valI d*valI c)=true:=hl.elim (fun h=>absurd h h1) id;(repeat refine ZG ?_);refine Br.mkN h1 ?_;refine Br.mkY (show ¬(resI (valI d*valI c)).2=0 by rw[Eu h2];decide) ?_;(conv=>whnf);(repeat' first|exact trivial|rfl|apply aA);(conv=>whnf);rw[Eu h2]
 have h1:lim (valI n*valI m)=false:=by
  cases h:lim (valI n*valI m) with
  | true=>exact absurd (.inl h) hl
  | false=>rfl
 have h2:lim (valI d*valI c)=false:=by
  cases h:lim (valI d*valI c) with
  | true=>exact absurd (.inr h) hl
  | false=>rfl
 have e2:=Ev h2;have n1:(chkI (itoa (valI n*valI m))=0/\chkI (resI (valI d*valI c)).1=0)/\valI (resI (valI d*valI c)).1≠0:=by
  rw[e2];exact ⟨⟨cX h1,cX h2⟩,by rw[cH];exact h0⟩
 (repeat refine ZG ?_);refine Br.mkN (by rw[h1];decide) ?_;refine Br.mkN (show ¬ ¬(resI (valI d*valI c)).2=0 by rw[e2];simp) ?_;(repeat refine ZG ?_);(conv=>whnf);(repeat' first|exact trivial|rfl|apply aA);(conv=>whnf);rw[e2,cH,cH]
def c80:Con:=aR 170 true fun args K=>match args with
 | [.str n,.str d,.str m,.str c]=>Need (ok4 n m d c/\valI d*valI c≠0) (Br (lim (valI n*valI m)=true\/lim (valI d*valI c)=true) (K (.tup [S [],I 4])) (K (.tup [S (numS (Rat.divInt (valI n*valI m) (valI d*valI c))),I 0])))
 | _=>False
theorem k80:aO Tp c80:=by
 refine kO Tryz.func170 fun args K h=>?_;simp only[c80] at h;split at h
 ·rename_i n d m c;have hb:=b80 n d m c h.ok.1 h.ok.2;by_cases hl:lim (valI n*valI m)=true\/lim (valI d*valI c)=true
  ·exact ⟨_,h.go.yes hl,triB Tryz.func170 Tryz.ntmps170 (by simp[k81,k63]) (hb.1 hl)⟩
  exact ⟨_,h.go.no hl,triB Tryz.func170 Tryz.ntmps170 (by simp[k81,k63]) (hb.2 hl)⟩
 cases h
theorem mul9 {x y:Int} (hx:x.natAbs<1000000000) (hy:y.natAbs<1000000000): -1000000000000000000<x*y/\x*y<1000000000000000000:=by
 have h:=dQ x y;have h1:x.natAbs*y.natAbs<1000000000*1000000000:=eL hx hy;omega
theorem zR {q:Rat} (h:Sz 300 q):chkI (pn q)=0/\valI (pn q)=q.num/\lim q.num=false:=by
 have h1:lim q.num=false:=by
  unfold lim;have:=h.digs.1;simp;omega
 exact ⟨cX h1,rV q,h1⟩
theorem zS {q:Rat} (h:Sz 300 q):chkI (pd q)=0/\valI (pd q)=q.den:=by
 have:=Sg h.digs.2;exact ⟨this.2.1,this.2.2⟩
theorem aI7:chkI [49]=0/\valI [49]=1:=by
 have e:([49]:Bx)=itoa 1:=(aDg (n:=1) de).symm;rw[e,cH];exact ⟨cX (dX de),rfl⟩
theorem aDh (p q:Rat):Rat.divInt (p.num*q.den+q.num*p.den) (p.den*q.den)=p+q:=by
 rw[Fy,<- dE,sC]
theorem aDi {p q:Rat} (l1:lim (p.num*q.den)=false) (l2:lim (q.num*p.den)=false) (l3:lim (p.num*q.den+q.num*p.den)=false) (l4:lim (p.den*q.den)=false):addf p q=(numS (p+q),0):=by
 unfold addf;rw[aC (by simp[l1,l2,l3,l4])]
theorem uC (n:Int):lim n=true\/lim n=false:=by cases lim n<;>simp
theorem b67 (a b:Bx) (h:chkQ a=0/\chkQ b=0):body Tp [c70,c62,c65,c81,c103,c63] {} true Tryz.f215 [S a,S b] (.tup [S (addf (valQ a) (valQ b)).1,I (addf (valQ a) (valQ b)).2]):=by
 obtain ⟨ha,hb⟩:=h;have hp:=(oG ha).2;have hq:=(oG hb).2;obtain ⟨cn1,vn1,ln1⟩:=zR hp;obtain ⟨cn2,vn2,ln2⟩:=zR hq;obtain ⟨cd1,vd1⟩:=zS hp;obtain ⟨cd2,vd2⟩:=zS hq;have d1:=(valQ a).den_pos;have d2:=(valQ b).den_pos;by_cases hs:smR (valQ a)/\smR (valQ b)
 ·have s1:=yD hs.1;have s2:=yD hs.2;have m1:=mul9 (x:=(valQ a).num) (y:=((valQ b).den:Int)) s1.1 om;have m2:=mul9 (x:=(valQ b).num) (y:=((valQ a).den:Int)) s2.1 om;have m3:=mul9 (x:=((valQ a).den:Int)) (y:=((valQ b).den:Int)) om om;have m4:0<((valQ a).den:Int)*((valQ b).den:Int):=jP om om;have ea:=aDi (p:=valQ a) (q:=valQ b) (dX om) (dX om) (dX om) (dX om);(repeat refine ZG ?_);refine Br.mkY hs.1 ?_;(repeat refine ZG ?_);refine Br.mkY hs.2 ?_;(repeat refine ZG ?_);(conv=>whnf);(repeat' first|exact trivial|rfl|apply aA)
  ·(conv=>whnf);rw[ea,<- aDh]
  (conv=>whnf);rw[ea]
 have n4:ok4 (pn (valQ a)) (pd (valQ b)) (pn (valQ b)) (pd (valQ a)):=⟨⟨cn1,cd2⟩,cn2,cd1⟩;have n5:ok4 (pd (valQ a)) (pd (valQ b)) [49] [49]:=⟨⟨cd1,cd2⟩,aI7.1,aI7.1⟩;have hcase:(¬smR (valQ a)/\smR (valQ b))\/(¬smR (valQ a)/\¬smR (valQ b))\/(smR (valQ a)/\¬smR (valQ b)):=by
  by_cases h1:smR (valQ a)
  ·exact .inr (.inr ⟨h1,fun h2=>hs ⟨h1,h2⟩⟩)
  by_cases h2:smR (valQ b)
  ·exact .inl ⟨h1,h2⟩
  exact .inr (.inl ⟨h1,h2⟩)
 rcases hcase with ⟨h1,h2⟩ | ⟨h1,h2⟩ | ⟨h1,h2⟩;all_goals (repeat refine ZG ?_)
 all_goals first | refine Br.mkN h1 ?_ | refine Br.mkY h1 ?_
 all_goals (repeat refine ZG ?_)
 all_goals first | refine Br.mkN h2 ?_ | refine Br.mkY h2 ?_
 all_goals (repeat refine ZG ?_)
 all_goals
  rcases uC ((valQ a).num*((valQ b).den:Int)) with l1 | l1
  ·have ea:addf (valQ a) (valQ b)=([],4):=by unfold addf;rw[aD (by simp[l1])]
   rw[ea];refine Br.mkY (show lim (valI (pn (valQ a))*valI (pd (valQ b)))=true by rw[vn1,vd2];exact l1) ?_;exact ZRF
  refine Br.mkN (show ¬lim (valI (pn (valQ a))*valI (pd (valQ b)))=true by rw[vn1,vd2,l1];decide) ?_;rcases uC ((valQ b).num*((valQ a).den:Int)) with l2 | l2
  ·have ea:addf (valQ a) (valQ b)=([],4):=by unfold addf;rw[aD (by simp[l2])]
   have e4:resI (valI (pn (valQ b))*valI (pd (valQ a)))=([],4):=by rw[vn2,vd1];exact Eu l2
   refine Br.mkY (show ¬(resI (valI (pn (valQ b))*valI (pd (valQ a)))).2=0 by rw[e4];decide) ?_;(conv=>whnf);(repeat' first|exact trivial|rfl|apply aA)
   ·(conv=>whnf);rw[ea]
   (conv=>whnf);rw[ea,e4]
  have e4:resI (valI (pn (valQ b))*valI (pd (valQ a)))=(itoa ((valQ b).num*((valQ a).den:Int)),0):=by rw[vn2,vd1];exact Ev l2
  refine Br.mkN (show ¬ ¬(resI (valI (pn (valQ b))*valI (pd (valQ a)))).2=0 by rw[e4];simp) ?_;(repeat refine ZG ?_);rcases uC (((valQ a).den:Int)*((valQ b).den:Int)) with l4 | l4
  ·have ea:addf (valQ a) (valQ b)=([],4):=by unfold addf;rw[aD (by simp[l4])]
   refine Br.mkY (show lim (valI (pd (valQ a))*valI (pd (valQ b)))=true by rw[vd1,vd2];exact l4) ?_;(repeat refine ZR ?_);(conv=>whnf);(repeat' first|exact trivial|rfl|apply aA)
   ·(conv=>whnf);rw[ea]
   (conv=>whnf);rw[ea]
  refine Br.mkN (show ¬lim (valI (pd (valQ a))*valI (pd (valQ b)))=true by rw[vd1,vd2,l4];decide) ?_;have e49:resI (valI [49]*valI [49])=([49],0):=by
   rw[aI7.2,Ev (dX de)];exact aP (fun z=>(z,(0:Int))) (aDg (n:=1) de)
  refine Br.mkN (show ¬ ¬(resI (valI [49]*valI [49])).2=0 by rw[e49];simp) ?_;refine Br.mkN (show ¬ ¬(resI (valI [49]*valI [49])).1= [49] by rw[e49];simp) ?_;have e6:eN (itoa (valI (pn (valQ a))*valI (pd (valQ b)))) (resI (valI (pn (valQ b))*valI (pd (valQ a)))).1 (resI (valI (itoa (valI (pn (valQ a))*valI (pd (valQ b))))+valI (resI (valI (pn (valQ b))*valI (pd (valQ a)))).1))=resI ((valQ a).num*((valQ b).den:Int)+(valQ b).num*((valQ a).den:Int)):=by
   rw[e4,vn1,vd2,cH,cH];exact xW (cX l1) (cX l2) _
  rcases uC ((valQ a).num*((valQ b).den:Int)+(valQ b).num*((valQ a).den:Int)) with l3 | l3
  ·have ea:addf (valQ a) (valQ b)=([],4):=by unfold addf;rw[aD (by simp[l3])]
   rw[Eu l3] at e6;refine Br.mkY (show ¬(eN (itoa (valI (pn (valQ a))*valI (pd (valQ b)))) (resI (valI (pn (valQ b))*valI (pd (valQ a)))).1 (resI (valI (itoa (valI (pn (valQ a))*valI (pd (valQ b))))+valI (resI (valI (pn (valQ b))*valI (pd (valQ a)))).1))).2=0 by rw[e6];decide) ?_;(conv=>whnf);(repeat' first|exact trivial|rfl|apply aA)
   ·(conv=>whnf);rw[ea]
   (conv=>whnf);rw[ea,e6]
  have ea:=aDi l1 l2 l3 l4;rw[Ev l3] at e6;have m1:(chkI (eN (itoa (valI (pn (valQ a))*valI (pd (valQ b)))) (resI (valI (pn (valQ b))*valI (pd (valQ a)))).1 (resI (valI (itoa (valI (pn (valQ a))*valI (pd (valQ b))))+valI (resI (valI (pn (valQ b))*valI (pd (valQ a)))).1))).1=0/\chkI (itoa (valI (pd (valQ a))*valI (pd (valQ b))))=0)/\valI (itoa (valI (pd (valQ a))*valI (pd (valQ b))))≠0:=by
   rw[e6,vd1,vd2,cH];exact ⟨⟨cX l3,cX l4⟩,pQ om om⟩
  refine Br.mkN (show ¬ ¬(eN (itoa (valI (pn (valQ a))*valI (pd (valQ b)))) (resI (valI (pn (valQ b))*valI (pd (valQ a)))).1 (resI (valI (itoa (valI (pn (valQ a))*valI (pd (valQ b))))+valI (resI (valI (pn (valQ b))*valI (pd (valQ a)))).1))).2=0 by rw[e6];simp) ?_;(repeat refine ZG ?_);(conv=>whnf);(repeat' first|exact trivial|rfl|apply aA)
  ·(conv=>whnf);rw[ea,e6,vd1,vd2,cH,cH,aDh]
  (conv=>whnf);rw[ea]
def c67:Con:=aR 215 true fun args K=>match args with
 | [.str a,.str b]=>Need (chkQ a=0/\chkQ b=0) (K (.tup [S (addf (valQ a) (valQ b)).1,I (addf (valQ a) (valQ b)).2]))
 | _=>False
theorem k67:aO Tp c67:=by
 refine kO Tryz.func215 fun args K h=>?_;simp only[c67] at h;split at h
 ·rename_i a b;exact ⟨_,h.go,triB Tryz.func215 Tryz.ntmps215 (by simp[k70,k62,k65,k81,k103,k63]) (b67 a b h.ok)⟩
 cases h
theorem bad2 {a b:Bx} (h:chkB a b≠0) (f:Rat->Rat->Bx × Int):iK a b f=([],chkB a b):=by
 unfold iK chkB at*;by_cases h1:chkQ a≠0
 ·rw[aD h1,aD h1]
 rw[aC h1] at h ⊢;rw[aD h,aC h1]
theorem wQ {a b:Bx} (h:¬chkB a b≠0):chkQ a=0/\chkQ b=0:=by
 unfold chkB at h;by_cases h1:chkQ a≠0
 ·rw[aD h1] at h;exact absurd h1 h
 rw[aC h1] at h;exact ⟨bC.1 h1,bC.1 h⟩
theorem Bh {a b:Bx} (h:chkQ a=0/\chkQ b=0) (f:Rat->Rat->Bx × Int):iK a b f=f (valQ a) (valQ b):=by
 unfold iK;rw[aC (by rw[h.1];simp),aC (by rw[h.2];simp)]
def c39:Con:=aR 221 true fun | [.str a,.str b],K=>K (.tup [S (addQ a b).1,I (addQ a b).2]) | _,_=>False
theorem k39:aO Tp c39:=by
 refine kQ {} Tryz.func221 Tryz.ntmps221 (kc k78 (kc k67 kn)) fun _ _ h=>?_;split at h;case h_2=>cases h
 rename_i a b;refine kb h ?_;(apply Br.mk<;>intro)
 ·rename_i h;have e:addQ a b=([],chkB a b):=bad2 h _;rw[e];exact ZF
 rename_i h;have e:addQ a b=addf (valQ a) (valQ b):=Bh (wQ h) _;rw[e];refine Need.mk (wQ h) ?_;exact ZF
theorem Ew (q:Rat):(-q).num= -q.num/\(-q).den=q.den:=⟨rfl,rfl⟩
theorem aI8 (q:Rat):numS (-q)=if q.num<0 then (numS q).drop 1 else if q=0 then numS q else 45::numS q:=by
 unfold numS;rw[(Ew q).1,(Ew q).2];by_cases h1:q.num<0
 ·rw[aD h1,<- wP h1];split
  ·rfl
  rw[dY qT]
 rw[aC h1];by_cases h0:q=0
 ·rw[aD h0,h0];rfl
 rw[aC h0];have h2:0<q.num:=by
  have:q.num≠0:=fun e=>h0 (pO.1 e);omega
 rw[<- Xm h2];split<;>rfl
theorem Sr (q:Rat):numS q= [48]↔q=0:=⟨fun h=>aHk (h.trans numS0.symm),fun h=>by rw[h];exact numS0⟩
theorem aI9 {q:Rat} (h:Sz 300 q):(numS q).length<=602:=by
 have h1:=h.digs;have h2:(itoa q.num).length<=301:=by
  rw[iZ];split
  ·rw[bS];omega
  omega
 unfold numS;split
 ·omega
 rw[aS,bS];omega
theorem b79 (q:Rat) (hq:Sz 300 q):body Tp [] {} true Tryz.f216 [S (numS q)] (S (numS (-q))):=by
 have hl:=aI9 hq;have h0:=cB.2 (Sq q);rw[aI8];by_cases hz:q=0
 ·refine Br.mkY ((Sr q).2 hz) ?_;(conv=>whnf);(conv=>whnf);rw[aC (by rw[hz];decide),aD hz]
 refine Br.mkN (fun h=>hz ((Sr q).1 h)) ?_;(repeat' first|refine ZG ?_|refine Zg fun _=>?_);by_cases hn:q.num<0
 ·refine Br.mkY ((Gp q).2 ((lt0 q).2 hn)) ?_;(repeat refine ZG ?_);(conv=>whnf);(conv=>whnf);rw[aD hn]
 refine Br.mkN (fun h=>hn ((lt0 q).1 ((Gp q).1 h))) ?_;(repeat refine ZG ?_);(conv=>whnf);(conv=>whnf);rw[aC hn,aC hz];rfl
def c79:Con:=aR 216 true fun args K=>match args with | [.str s]=>Need (chkQ s=0) (K (S (numS (-valQ s)))) | _=>False
theorem k79:aO Tp c79:=by
 refine kO Tryz.func216 fun args K h=>?_;simp only[c79] at h;split at h
 ·rename_i s;obtain ⟨e,hq⟩:=oG h.ok;refine ⟨_,h.go,?_⟩;have ht:=triB Tryz.func216 Tryz.ntmps216 si (b79 (valQ s) hq);rw[<- e] at ht;exact ht
 cases h
theorem aLd (p q:Rat):addf p (-q)=subf p q:=by
 unfold addf subf;rw[(Ew q).1,(Ew q).2,Int.neg_mul,tJ,<- Int.sub_eq_add_neg,Rat.sub_eq_add_neg]
def c40:Con:=aR 163 true fun | [.str a,.str b],K=>K (.tup [S (subQ a b).1,I (subQ a b).2]) | _,_=>False
theorem k40:aO Tp c40:=by
 refine kQ {} Tryz.func163 Tryz.ntmps163 (kc k78 (kc k79 (kc k67 kn))) fun _ _ h=>?_;split at h;case h_2=>cases h
 rename_i a b;refine kb h ?_;(apply Br.mk<;>intro)
 ·rename_i h;have e:subQ a b=([],chkB a b):=bad2 h _;rw[e];exact ZF
 rename_i h;obtain ⟨ha,hb⟩:=wQ h;have e:subQ a b=addf (valQ a) (valQ (numS (-valQ b))):=by
  rw[gM,aLd];exact Bh (wQ h) _
 have hs:Sz 300 (-valQ b):=by
  have:=(oG hb).2;exact ⟨by rw[(Ew _).1,nV];exact this.1,this.2⟩
 have hc:chkQ a=0/\chkQ (numS (-valQ b))=0:=⟨ha,yB hs ⟨de,de⟩⟩;rw[e];exact ZGF
theorem zT {p q:Prop} (hs:¬(p/\q)):(¬p/\q)\/(¬p/\¬q)\/(p/\¬q):=by
 by_cases h1:p
 ·exact .inr (.inr ⟨h1,fun h2=>hs ⟨h1,h2⟩⟩)
 by_cases h2:q
 ·exact .inl ⟨h1,h2⟩
 exact .inr (.inl ⟨h1,h2⟩)
theorem aDj {p q:Rat} (l1:lim (p.num*q.num)=false) (l2:lim (p.den*q.den)=false):mulf p q=(numS (p*q),0):=by
 unfold mulf;rw[aC (by simp[l1,l2])]
theorem aDk (p q:Rat):Rat.divInt (p.num*q.num) (p.den*q.den)=p*q:=by
 rw[Ga,<- dE,sC]
theorem b41g (a b:Bx) (ha:chkQ a=0) (hb:chkQ b=0):body Tp [c78,c70,c62,c65,c80] {} true Tryz.f166 [S a,S b] (.tup [S (mulf (valQ a) (valQ b)).1,I (mulf (valQ a) (valQ b)).2]):=by
 have hp:=(oG ha).2;have hq:=(oG hb).2;obtain ⟨cn1,vn1,ln1⟩:=zR hp;obtain ⟨cn2,vn2,ln2⟩:=zR hq;obtain ⟨cd1,vd1⟩:=zS hp;obtain ⟨cd2,vd2⟩:=zS hq;have d1:=(valQ a).den_pos;have d2:=(valQ b).den_pos;have hc:¬chkB a b≠0:=by unfold chkB;rw[aC (by rw[ha];simp),hb];simp
 by_cases hs:smR (valQ a)/\smR (valQ b)
 ·have s1:=yD hs.1;have s2:=yD hs.2;have m1:=mul9 (x:=(valQ a).num) (y:=(valQ b).num) s1.1 s2.1;have m3:=mul9 (x:=((valQ a).den:Int)) (y:=((valQ b).den:Int)) om om;have m4:0<((valQ a).den:Int)*((valQ b).den:Int):=jP om om;have ea:=aDj (p:=valQ a) (q:=valQ b) (dX om) (dX om);refine Br.mkN (show ¬ ¬chkB a b=0 from hc) ?_;(repeat refine ZG ?_);refine Br.mkY hs.1 ?_;(repeat refine ZG ?_);refine Br.mkY hs.2 ?_;(repeat refine ZG ?_);(conv=>whnf);(repeat' first|exact trivial|rfl|apply aA)
  ·(conv=>whnf);rw[ea,<- aDk]
  (conv=>whnf);rw[ea]
 have n4:ok4 (pn (valQ a)) (pd (valQ a)) (pn (valQ b)) (pd (valQ b))/\valI (pd (valQ a))*valI (pd (valQ b))≠0:=⟨⟨⟨cn1,cd1⟩,cn2,cd2⟩,by rw[vd1,vd2];exact pQ om om⟩;rcases zT hs with ⟨h1,h2⟩ | ⟨h1,h2⟩ | ⟨h1,h2⟩;all_goals skip
 all_goals refine Br.mkN (show ¬ ¬chkB a b=0 from hc) ?_
 all_goals (repeat refine ZG ?_)
 all_goals first | refine Br.mkN h1 ?_ | refine Br.mkY h1 ?_
 all_goals (repeat refine ZG ?_)
 all_goals first | refine Br.mkN h2 ?_ | refine Br.mkY h2 ?_
 all_goals (repeat refine ZG ?_)
 all_goals
  by_cases hl:lim (valI (pn (valQ a))*valI (pn (valQ b)))=true\/lim (valI (pd (valQ a))*valI (pd (valQ b)))=true
  ·have ea:mulf (valQ a) (valQ b)=([],4):=by
    rw[vn1,vn2,vd1,vd2] at hl;unfold mulf;rw[aD (by simpa using hl)]
   refine Br.mkY hl ?_;(conv=>whnf);(repeat' first|exact trivial|rfl|apply aA)
   ·(conv=>whnf);rw[ea]
   (conv=>whnf);rw[ea]
  refine Br.mkN hl ?_;rw[vn1,vn2,vd1,vd2] at hl;have ea:=aDj (p:=valQ a) (q:=valQ b) (by simpa using fun h=>hl (.inl h)) (by simpa using fun h=>hl (.inr h));(conv=>whnf);(repeat' first|exact trivial|rfl|apply aA)
  ·(conv=>whnf);rw[ea,vn1,vn2,vd1,vd2,aDk]
  (conv=>whnf);rw[ea]
def c41:Con:=aR 166 true fun | [.str a,.str b],K=>K (.tup [S (mulQ a b).1,I (mulQ a b).2]) | _,_=>False
theorem k41:aO Tp c41:=by
 refine kQ {} Tryz.func166 Tryz.ntmps166 (kc k78 (kc k70 (kc k62 (kc k65 (kc k80 kn))))) fun _ _ h=>?_;split at h;case h_2=>cases h
 rename_i a b;refine kb h ?_;by_cases h:chkB a b≠0
 ·have e:mulQ a b=([],chkB a b):=bad2 h _;rw[e];refine Br.mkY h ?_;exact ZF
 have e:mulQ a b=mulf (valQ a) (valQ b):=Bh (wQ h) _;rw[e];exact b41g a b (wQ h).1 (wQ h).2
theorem aDl {p q:Rat} (h0:q≠0) (l1:lim (p.num*q.den)=false) (l2:lim (q.num*p.den)=false):divf p q=(numS (p/q),0):=by
 unfold divf;rw[aC h0,aC (by simp[l1,l2])]
theorem b42g (a b:Bx) (ha:chkQ a=0) (hb:chkQ b=0):body Tp [c78,c70,c62,c65,c80] {} true Tryz.f130 [S a,S b] (.tup [S (divf (valQ a) (valQ b)).1,I (divf (valQ a) (valQ b)).2]):=by
 have hp:=(oG ha).2;have hq:=(oG hb).2;obtain ⟨cn1,vn1,ln1⟩:=zR hp;obtain ⟨cn2,vn2,ln2⟩:=zR hq;obtain ⟨cd1,vd1⟩:=zS hp;obtain ⟨cd2,vd2⟩:=zS hq;have d1:=(valQ a).den_pos;have d2:=(valQ b).den_pos;have hc:¬chkB a b≠0:=by unfold chkB;rw[aC (by rw[ha];simp),hb];simp
 have eb:=(oG hb).1;have hz:b= [48]↔valQ b=0:=by
  conv=>lhs;lhs;rw[eb]
  exact Sr _
 by_cases h0:valQ b=0
 ·have ea:divf (valQ a) (valQ b)=([],12):=by unfold divf;rw[aD h0]
  refine Br.mkN (show ¬ ¬chkB a b=0 from hc) ?_;refine Br.mkY (hz.2 h0) ?_;(conv=>whnf);(repeat' first|exact trivial|rfl|apply aA)
  ·(conv=>whnf);rw[ea]
  (conv=>whnf);rw[ea]
 have hb48:¬b= [48]:=fun h=>h0 (hz.1 h);have hn0:(valQ b).num≠0:=fun h=>h0 (pO.1 h);have ed:=Gb (valQ a) (valQ b) h0;by_cases hs:smR (valQ a)/\smR (valQ b)
 ·have s1:=yD hs.1;have s2:=yD hs.2;have m1:=mul9 (x:=(valQ a).num) (y:=((valQ b).den:Int)) s1.1 om;have m2:=mul9 (x:=((valQ a).den:Int)) (y:=(valQ b).num) om s2.1;have m3:(valQ b).num*((valQ a).den:Int)=((valQ a).den:Int)*(valQ b).num:=bJ _ _;have ea:=aDl (p:=valQ a) (q:=valQ b) h0 (dX om) (dX om);refine Br.mkN (show ¬ ¬chkB a b=0 from hc) ?_;refine Br.mkN hb48 ?_;(repeat refine ZG ?_);refine Br.mkY hs.1 ?_;(repeat refine ZG ?_);refine Br.mkY hs.2 ?_;by_cases hneg:(valQ b).num<0
  ·refine Br.mkY hneg ?_;have e1:(valQ a).num * -((valQ b).den:Int)= -((valQ a).num*((valQ b).den:Int)):=sS _ _;have e2:((valQ a).den:Int) * -(valQ b).num= -(((valQ a).den:Int)*(valQ b).num):=sS _ _;have m4:((valQ a).den:Int)*(valQ b).num<0:=Int.mul_neg_of_pos_of_neg om hneg;(repeat refine ZG ?_);(conv=>whnf);(repeat' first|exact trivial|rfl|apply aA)
   ·(conv=>whnf);rw[ea,ed,e1,e2,mI]
   (conv=>whnf);rw[ea]
  refine Br.mkN hneg ?_;have m4:0<((valQ a).den:Int)*(valQ b).num:=jP om om;(repeat refine ZG ?_);(conv=>whnf);(repeat' first|exact trivial|rfl|apply aA)
  ·(conv=>whnf);rw[ea,ed]
  (conv=>whnf);rw[ea]
 have n4:ok4 (pn (valQ a)) (pd (valQ a)) (pd (valQ b)) (pn (valQ b))/\valI (pd (valQ a))*valI (pn (valQ b))≠0:=⟨⟨⟨cn1,cd1⟩,cd2,cn2⟩,by rw[vd1,vn2];exact pQ om hn0⟩;rcases zT hs with ⟨h1,h2⟩ | ⟨h1,h2⟩ | ⟨h1,h2⟩;all_goals skip
 all_goals refine Br.mkN (show ¬ ¬chkB a b=0 from hc) ?_
 all_goals skip
 all_goals refine Br.mkN hb48 ?_
 all_goals (repeat refine ZG ?_)
 all_goals first | refine Br.mkN h1 ?_ | refine Br.mkY h1 ?_
 all_goals (repeat refine ZG ?_)
 all_goals first | refine Br.mkN h2 ?_ | refine Br.mkY h2 ?_
 all_goals (repeat refine ZG ?_)
 all_goals
  by_cases hl:lim (valI (pn (valQ a))*valI (pd (valQ b)))=true\/lim (valI (pd (valQ a))*valI (pn (valQ b)))=true
  ·have ea:divf (valQ a) (valQ b)=([],4):=by
    rw[vn1,vn2,vd1,vd2,bJ ((valQ a).den:Int)] at hl;unfold divf;rw[aC h0,aD (by simpa using hl)]
   refine Br.mkY hl ?_;(conv=>whnf);(repeat' first|exact trivial|rfl|apply aA)
   ·(conv=>whnf);rw[ea]
   (conv=>whnf);rw[ea]
  refine Br.mkN hl ?_;rw[vn1,vn2,vd1,vd2,bJ ((valQ a).den:Int)] at hl;have ea:=aDl (p:=valQ a) (q:=valQ b) h0 (by simpa using fun h=>hl (.inl h)) (by simpa using fun h=>hl (.inr h));(conv=>whnf);(repeat' first|exact trivial|rfl|apply aA)
  ·(conv=>whnf);rw[ea,ed,vn1,vn2,vd1,vd2]
  (conv=>whnf);rw[ea]
def c42:Con:=aR 130 true fun | [.str a,.str b],K=>K (.tup [S (divQ a b).1,I (divQ a b).2]) | _,_=>False
theorem k42:aO Tp c42:=by
 refine kQ {} Tryz.func130 Tryz.ntmps130 (kc k78 (kc k70 (kc k62 (kc k65 (kc k80 kn))))) fun _ _ h=>?_;split at h;case h_2=>cases h
 rename_i a b;refine kb h ?_;by_cases h:chkB a b≠0
 ·have e:divQ a b=([],chkB a b):=bad2 h _;rw[e];refine Br.mkY h ?_;exact ZF
 have e:divQ a b=divf (valQ a) (valQ b):=Bh (wQ h) _;rw[e];exact b42g a b (wQ h).1 (wQ h).2
theorem aJa {a b:Bx} (h:chkB a b≠0):cmpQ a b=(0,chkB a b):=by
 unfold cmpQ chkB at*;by_cases h1:chkQ a≠0
 ·rw[aD h1,aD h1]
 rw[aC h1] at h ⊢;rw[aD h,aC h1]
theorem aEw {a b:Bx} (h:chkQ a=0/\chkQ b=0):cmpQ a b=cmpf (valQ a) (valQ b):=by
 unfold cmpQ;rw[aC (by rw[h.1];simp),aC (by rw[h.2];simp)]
theorem aDm {p q:Rat} (l1:lim (p.num*q.den)=false) (l2:lim (q.num*p.den)=false):cmpf p q=(cmpI (p.num*q.den) (q.num*p.den),0):=by
 unfold cmpf;rw[aC (by simp[l1,l2])]
theorem b43g (a b:Bx) (ha:chkQ a=0) (hb:chkQ b=0):body Tp [c78,c70,c65,c81,c82] {} true Tryz.f175 [S a,S b] (.tup [I (cmpf (valQ a) (valQ b)).1,I (cmpf (valQ a) (valQ b)).2]):=by
 have hp:=(oG ha).2;have hq:=(oG hb).2;obtain ⟨cn1,vn1,ln1⟩:=zR hp;obtain ⟨cn2,vn2,ln2⟩:=zR hq;obtain ⟨cd1,vd1⟩:=zS hp;obtain ⟨cd2,vd2⟩:=zS hq;have d1:=(valQ a).den_pos;have d2:=(valQ b).den_pos;have hc:¬chkB a b≠0:=by unfold chkB;rw[aC (by rw[ha];simp),hb];simp
 by_cases hs:smR (valQ a)/\smR (valQ b)
 ·have s1:=yD hs.1;have s2:=yD hs.2;have m1:=mul9 (x:=(valQ a).num) (y:=((valQ b).den:Int)) s1.1 om;have m2:=mul9 (x:=(valQ b).num) (y:=((valQ a).den:Int)) s2.1 om;have ea:=aDm (p:=valQ a) (q:=valQ b) (dX om) (dX om);refine Br.mkN (show ¬ ¬chkB a b=0 from hc) ?_;(repeat refine ZG ?_);refine Br.mkY hs.1 ?_;(repeat refine ZG ?_);refine Br.mkY hs.2 ?_;(repeat refine ZG ?_);(apply Br.mk<;>intro)
  ·rename_i hx;(conv=>whnf);(repeat' first|exact trivial|rfl|apply aA)
   ·(conv=>whnf);rw[ea];unfold cmpI;rw[aD hx]
   (conv=>whnf);rw[ea]
  rename_i hx;(repeat refine ZG ?_);(apply Br.mk<;>intro)
  ·rename_i hy;(conv=>whnf);(repeat' first|exact trivial|rfl|apply aA)
   ·(conv=>whnf);rw[ea];unfold cmpI;rw[aC hx,aC om]
   (conv=>whnf);rw[ea]
  rename_i hy;(conv=>whnf);(repeat' first|exact trivial|rfl|apply aA)
  ·(conv=>whnf);rw[ea];unfold cmpI;rw[aC hx,aD om]
  (conv=>whnf);rw[ea]
 have n4:ok4 (pn (valQ a)) (pd (valQ b)) (pn (valQ b)) (pd (valQ a)):=⟨⟨cn1,cd2⟩,cn2,cd1⟩;rcases zT hs with ⟨h1,h2⟩ | ⟨h1,h2⟩ | ⟨h1,h2⟩;all_goals skip
 all_goals refine Br.mkN (show ¬ ¬chkB a b=0 from hc) ?_
 all_goals (repeat refine ZG ?_)
 all_goals first | refine Br.mkN h1 ?_ | refine Br.mkY h1 ?_
 all_goals (repeat refine ZG ?_)
 all_goals first | refine Br.mkN h2 ?_ | refine Br.mkY h2 ?_
 all_goals (repeat refine ZG ?_)
 all_goals
  rcases uC ((valQ a).num*((valQ b).den:Int)) with l1 | l1
  ·have ea:cmpf (valQ a) (valQ b)=(0,4):=by unfold cmpf;rw[aD (by simp[l1])]
   refine Br.mkY (show lim (valI (pn (valQ a))*valI (pd (valQ b)))=true by rw[vn1,vd2];exact l1) ?_;(repeat refine ZR ?_);(conv=>whnf);(repeat' first|exact trivial|rfl|apply aA)
   ·(conv=>whnf);rw[ea]
   (conv=>whnf);rw[ea]
  refine Br.mkN (show ¬lim (valI (pn (valQ a))*valI (pd (valQ b)))=true by rw[vn1,vd2,l1];decide) ?_;rcases uC ((valQ b).num*((valQ a).den:Int)) with l2 | l2
  ·have ea:cmpf (valQ a) (valQ b)=(0,4):=by unfold cmpf;rw[aD (by simp[l2])]
   have e4:resI (valI (pn (valQ b))*valI (pd (valQ a)))=([],4):=by rw[vn2,vd1];exact Eu l2
   refine Br.mkY (show ¬(resI (valI (pn (valQ b))*valI (pd (valQ a)))).2=0 by rw[e4];decide) ?_;(conv=>whnf);(repeat' first|exact trivial|rfl|apply aA)
   ·(conv=>whnf);rw[ea]
   (conv=>whnf);rw[ea,e4]
  have e4:resI (valI (pn (valQ b))*valI (pd (valQ a)))=(itoa ((valQ b).num*((valQ a).den:Int)),0):=by rw[vn2,vd1];exact Ev l2
  refine Br.mkN (show ¬ ¬(resI (valI (pn (valQ b))*valI (pd (valQ a)))).2=0 by rw[e4];simp) ?_;have ea:=aDm l1 l2;have n5:chkI (itoa (valI (pn (valQ a))*valI (pd (valQ b))))=0/\chkI (resI (valI (pn (valQ b))*valI (pd (valQ a)))).1=0:=by
   rw[e4,vn1,vd2];exact ⟨cX l1,cX l2⟩
  (repeat refine ZG ?_);(conv=>whnf);(repeat' first|exact trivial|rfl|apply aA)
  ·(conv=>whnf);rw[ea,e4,vn1,vd2,cH,cH]
  (conv=>whnf);rw[ea]
theorem b43 (a b:Bx):body Tp [c78,c70,c65,c81,c82] {} true Tryz.f175 [S a,S b] (.tup [I (cmpQ a b).1,I (cmpQ a b).2]):=by
 by_cases h:chkB a b≠0
 ·rw[aJa h];refine Br.mkY h ?_;exact ZF
 rw[aEw (wQ h)];exact b43g a b (wQ h).1 (wQ h).2
def c43:Con:=aR 175 true fun args K=>match args with | [.str a,.str b]=>K (.tup [I (cmpQ a b).1,I (cmpQ a b).2]) | _=>False
theorem k43:aO Tp c43:=by
 refine kO Tryz.func175 fun args K h=>?_;simp only[c43] at h;split at h
 ·rename_i a b;exact ⟨_,h,triB Tryz.func175 Tryz.ntmps175 (by simp[k78,k70,k65,k81,k82]) (b43 a b)⟩
 cases h
def longL (l:List (Bx)):Prop:=(∃a∈l,aI6 a)\/8<l.length
instance (l:List (Bx)):Decidable (longL l):=Cp
end RB
end
section
namespace RB
section
variable {ax ay az bx by' bz cx cy cz P Q R:Rat}
end
end RB
end
section
open Go Go.Proofs Go.Eng Go.Shelf IB Go.Lib Go.RowKit Tryz
namespace RB
def d36 (q:Rat):Prop:=(decDigits q.num.natAbs).length<=36/\(decDigits q.den).length<=36
instance (q:Rat):Decidable (d36 q):=inferInstanceAs (Decidable (_/\ _))
def chkP (a:Bx):Int:=if chkQ a≠0 then chkQ a else if d36 (valQ a) then 0 else 4
def badP (l:List (Bx)):Prop:=∃a∈l,chkP a≠0
instance (l:List (Bx)):Decidable (badP l):=Cp
section
variable {p q r:Rat} {i j k:Nat}
end
abbrev V3:=Rat × Rat × Rat
theorem Gf {a b c:Rat} (h:a<b) (k:b<c):a<c:=Rat.not_le.1 fun h2=>by have:=Rat.not_le.2 h;exact this (Rat.le_trans (tP k) h2)
theorem kI (a b:Rat):(a<b/\cmpR a b= -1)\/(a=b/\cmpR a b=0)\/(b<a/\cmpR a b=1):=by
 unfold cmpR;by_cases h1:a<b
 ·rw[aD h1];exact .inl ⟨h1,rfl⟩
 rw[aC h1];by_cases h2:b<a
 ·rw[aD h2];exact .inr (.inr ⟨h2,rfl⟩)
 rw[aC h2];exact .inr (.inl ⟨Rat.le_antisymm (pY.1 h2) (pY.1 h1),rfl⟩)
theorem iU (a:Rat):cmpR a a=0:=by
 rcases kI a a with ⟨h,_⟩ | ⟨_,h⟩ | ⟨h,_⟩
 ·exact absurd h gF
 ·exact h
 exact absurd h gF
theorem qQ {a b:Rat}:cmpR a b=0↔a=b:=by
 rcases kI a b with ⟨h,e⟩ | ⟨h,e⟩ | ⟨h,e⟩
 ·rw[e];exact ⟨fun h=>absurd h de,fun e2=>absurd (e2 ▸ h) gF⟩
 ·rw[e];exact ⟨fun _=>h,fun _=>rfl⟩
 rw[e];exact ⟨fun h=>absurd h de,fun e2=>absurd (e2 ▸ h) gF⟩
theorem Ln {a b:Rat}:cmpR a b<=0↔a<=b:=by
 rcases kI a b with ⟨h,e⟩ | ⟨h,e⟩ | ⟨h,e⟩
 ·rw[e];exact ⟨fun _=>tP h,fun _=>de⟩
 ·rw[e,h];exact ⟨fun _=>sU,fun _=>de⟩
 rw[e];exact ⟨fun h=>absurd h de,fun h2=>absurd h (pY.2 h2)⟩
theorem aC1 {a b:Rat}:0<=cmpR a b↔b<=a:=by
 rcases kI a b with ⟨h,e⟩ | ⟨h,e⟩ | ⟨h,e⟩
 ·rw[e];exact ⟨fun h=>absurd h de,fun h2=>absurd h (pY.2 h2)⟩
 ·rw[e,h];exact ⟨fun _=>sU,fun _=>de⟩
 rw[e];exact ⟨fun _=>tP h,fun _=>de⟩
theorem Aw (a b:Rat):cmpR b a= -cmpR a b:=by
 rcases kI a b with ⟨h,e⟩ | ⟨h,e⟩ | ⟨h,e⟩<;>rcases kI b a with ⟨h2,e2⟩ | ⟨h2,e2⟩ | ⟨h2,e2⟩<;>rw[e,e2]<;>first | rfl | skip
 ·exact absurd (Gf h h2) gF
 ·exact absurd (h2 ▸ h) gF
 ·exact absurd (h ▸ h2) gF
 ·exact absurd (h ▸ h2) gF
 ·exact absurd (h2 ▸ h) gF
 exact absurd (Gf h h2) gF
theorem Ei {f d t:Rat} (hd:d≠0):
  ((cmpR f (f+t*d)<=0/\cmpR (f+t*d) (f+d)<=0\/0<=cmpR f (f+t*d)/\0<=cmpR (f+t*d) (f+d))↔0<=t/\t<=1)/\
  (cmpR f (f+t*d)=0↔t=0)/\(cmpR (f+t*d) (f+d)=0↔t=1):=by
 have e1:f<=f+t*d↔0<=t*d:=by constructor<;>intro h<;>grind
 have e2:f+t*d<=f↔t*d<=0:=by constructor<;>intro h<;>grind
 have e3:f+t*d<=f+d↔0<=(1-t)*d:=by constructor<;>intro h<;>grind
 have e4:f+d<=f+t*d↔(1-t)*d<=0:=by constructor<;>intro h<;>grind
 have e5:f=f+t*d↔t*d=0:=by constructor<;>intro h<;>grind
 have e6:f+t*d=f+d↔(1-t)*d=0:=by constructor<;>intro h<;>grind
 rw[Ln,Ln,aC1,aC1,qQ,qQ,e1,e2,e3,e4,e5,e6];have sg:∀x:Rat,(0<d->((0<=x*d↔0<=x)/\(x*d<=0↔x<=0)))/\(d<0->((0<=x*d↔x<=0)/\(x*d<=0↔0<=x)))/\(x*d=0↔x=0):=by
  intro x;refine ⟨fun h=>⟨⟨fun h2=>?_,fun h2=>uZ h2 (tP h)⟩,⟨fun h2=>?_,fun h2=>?_⟩⟩,fun h=>⟨⟨fun h2=>?_,fun h2=>?_⟩,⟨fun h2=>?_,fun h2=>?_⟩⟩,⟨fun h=>?_,fun h=>by rw[h,oH]⟩⟩
  ·apply pY.1;intro hx;have:=zX (a:= -x) (b:=d) (by grind) h
   grind
  ·apply pY.1;intro hx;have:=zX (a:=x) (b:=d) hx h
   grind
  ·have:=uZ (a:= -x) (b:=d) (by grind) (tP h)
   grind
  ·apply pY.1;intro hx;have:=zX (a:=x) (b:= -d) hx (by grind)
   grind
  ·have:=uZ (a:= -x) (b:= -d) (by grind) (by grind)
   grind
  ·apply pY.1;intro hx;have:=zX (a:= -x) (b:= -d) (by grind) (by grind)
   grind
  ·have:=uZ (a:=x) (b:= -d) h2 (by grind)
   grind
  rcases Rat.mul_eq_zero.1 h with h | h
  ·exact h
  exact absurd h hd
 obtain ⟨s1,s2,s3⟩:=sg t;obtain ⟨r1,r2,r3⟩:=sg (1-t);refine ⟨?_,s3,?_⟩
 ·rcases kI 0 d with ⟨h,_⟩ | ⟨h,_⟩ | ⟨h,_⟩
  ·rw[(s1 h).1,(s1 h).2,(r1 h).1,(r1 h).2];constructor
   ·rintro (⟨h1,h2⟩ | ⟨h1,h2⟩)<;>constructor<;>grind
   rintro ⟨h1,h2⟩;exact .inl ⟨h1,by grind⟩
  ·exact absurd h.symm hd
  rw[(s2 h).1,(s2 h).2,(r2 h).1,(r2 h).2];constructor
  ·rintro (⟨h1,h2⟩ | ⟨h1,h2⟩)<;>constructor<;>grind
  rintro ⟨h1,h2⟩;exact .inr ⟨h1,by grind⟩
 rw[r3];constructor<;>intro h<;>grind
def parR (d v:V3):Prop:=d.2.1*v.2.2-d.2.2*v.2.1=0/\d.2.2*v.1-d.1*v.2.2=0/\d.1*v.2.1-d.2.1*v.1=0
instance (d v:V3):Decidable (parR d v):=inferInstanceAs (Decidable (_/\ _/\ _))
def sub3 (a b:V3):V3:=(a.1-b.1,a.2.1-b.2.1,a.2.2-b.2.2)
def lexR (a b:V3):Int:=if cmpR a.1 b.1≠0 then cmpR a.1 b.1 else if cmpR a.2.1 b.2.1≠0 then cmpR a.2.1 b.2.1 else cmpR a.2.2 b.2.2
def wiR (a b n:Rat):Prop:=cmpR a n<=0/\cmpR n b<=0\/0<=cmpR a n/\0<=cmpR n b
instance (a b n:Rat):Decidable (wiR a b n):=inferInstanceAs (Decidable (_\/ _))
def mtO (F T q:V3):Prop:=parR (sub3 T F) (sub3 q F)/\(lexR F q=0\/lexR q T=0\/lexR F q=lexR q T)
def mtR (F T q:V3):Prop:=parR (sub3 T F) (sub3 q F)/\wiR F.1 T.1 q.1/\wiR F.2.1 T.2.1 q.2.1/\wiR F.2.2 T.2.2 q.2.2
instance (F T q:V3):Decidable (mtO F T q):=inferInstanceAs (Decidable (_/\ _))
instance (F T q:V3):Decidable (mtR F T q):=inferInstanceAs (Decidable (_/\ _))
theorem nN (a b:Rat):cmpR a b= -1\/cmpR a b=0\/cmpR a b=1:=by
 rcases kI a b with ⟨_,e⟩ | ⟨_,e⟩ | ⟨_,e⟩
 ·exact .inl e
 ·exact .inr (.inl e)
 exact .inr (.inr e)
theorem aKe {d v:V3} (h:parR d v) (hd:¬(d.1=0/\d.2.1=0/\d.2.2=0)):∃t,v.1=t*d.1/\v.2.1=t*d.2.1/\v.2.2=t*d.2.2:=by
 obtain ⟨h1,h2,h3⟩:=h;have key:∀ {a b x y:Rat},a≠0->a*y-b*x=0->y=x/a*b:=fun {a b x y} ha h=>by
  have e:x/a*a=x:=pZ ha;have e2:a*y=a*(x/a*b):=by
   have:a*(x/a*b)=x/a*a*b:=by grind
   rw[this,e];grind
  have e3:a*(y-x/a*b)=0:=by grind
  rcases Rat.mul_eq_zero.1 e3 with h4 | h4
  ·exact absurd h4 ha
  grind
 by_cases a1:d.1=0
 ·by_cases a2:d.2.1=0
  ·have a3:d.2.2≠0:=fun h=>hd ⟨a1,a2,h⟩;refine ⟨v.2.2/d.2.2,key (b:=d.1) a3 (by grind),key (b:=d.2.1) a3 (by grind),(pZ a3).symm⟩
  refine ⟨v.2.1/d.2.1,key (b:=d.1) a2 (by grind),(pZ a2).symm,key (b:=d.2.2) a2 (by grind)⟩
 refine ⟨v.1/d.1,(pZ a1).symm,key (b:=d.2.1) a1 (by grind),key (b:=d.2.2) a1 (by grind)⟩
theorem zN {F T q:V3} (h:parR (sub3 T F) (sub3 q F)) (hne:F≠T):(lexR F q=0\/lexR q T=0\/lexR F q=lexR q T)↔(wiR F.1 T.1 q.1/\wiR F.2.1 T.2.1 q.2.1/\wiR F.2.2 T.2.2 q.2.2):=by
 obtain ⟨f1,f2,f3⟩:=F;obtain ⟨t1,t2,t3⟩:=T;obtain ⟨q1,q2,q3⟩:=q;have hd:¬((sub3 (t1,t2,t3) (f1,f2,f3)).1=0/\(sub3 (t1,t2,t3) (f1,f2,f3)).2.1=0/\(sub3 (t1,t2,t3) (f1,f2,f3)).2.2=0):=by
  rintro ⟨h1,h2,h3⟩;simp only[sub3] at h1 h2 h3;refine hne ?_;rw[show f1=t1 by grind,show f2=t2 by grind,show f3=t3 by grind]
 obtain ⟨t,h1,h2,h3⟩:=aKe h hd;simp only[sub3] at h1 h2 h3 hd;obtain ⟨d1,hd1⟩:∃d1,t1=f1+d1:=⟨t1-f1,by grind⟩;obtain ⟨d2,hd2⟩:∃d2,t2=f2+d2:=⟨t2-f2,by grind⟩;obtain ⟨d3,hd3⟩:∃d3,t3=f3+d3:=⟨t3-f3,by grind⟩;subst hd1 hd2 hd3;have e1:q1=f1+t*d1:=by grind
 have e2:q2=f2+t*d2:=by grind
 have e3:q3=f3+t*d3:=by grind
 subst e1 e2 e3;have flat:∀ {f d:Rat},d=0->cmpR f (f+t*d)=0/\cmpR (f+t*d) (f+d)=0:=fun {f d} h=>by
  rw[h,Rat.mul_zero,tQ];exact ⟨iU _,iU _⟩
 have wz:∀ {f d:Rat},d=0->wiR f (f+d) (f+t*d):=fun {f d} h=>by
  obtain ⟨a,b⟩:=flat (f:=f) h;unfold wiR;rw[a,b];exact .inl ⟨fX _,fX _⟩
 have wn:∀ {f d:Rat},d≠0->(wiR f (f+d) (f+t*d)↔0<=t/\t<=1):=fun {f d} h=>(Ei (f:=f) (t:=t) h).1
 -- the first coordinate in which the ends differ decides
 have dec:∀ {f d:Rat},d≠0->((cmpR f (f+t*d)=0\/cmpR (f+t*d) (f+d)=0\/cmpR f (f+t*d)=cmpR (f+t*d) (f+d))↔0<=t/\t<=1):=fun {f d} h=>by
  rw[<- (Ei (f:=f) (t:=t) h).1];rcases nN f (f+t*d) with a | a | a<;>rcases nN (f+t*d) (f+d) with b | b | b<;>rw[a,b]<;>decide
 by_cases a1:d1=0
 ·obtain ⟨z1,z2⟩:=flat (f:=f1) a1;by_cases a2:d2=0
  ·obtain ⟨z3,z4⟩:=flat (f:=f2) a2;have a3:d3≠0:=fun h=>hd ⟨by grind,by grind,by grind⟩;have l1:lexR (f1,f2,f3) (f1+t*d1,f2+t*d2,f3+t*d3)=cmpR f3 (f3+t*d3):=by unfold lexR;rw[aC (by simp only[z1];decide),aC (by simp only[z3];decide)]
   have l2:lexR (f1+t*d1,f2+t*d2,f3+t*d3) (f1+d1,f2+d2,f3+d3)=cmpR (f3+t*d3) (f3+d3):=by unfold lexR;rw[aC (by simp only[z2];decide),aC (by simp only[z4];decide)]
   rw[l1,l2,dec a3,<- wn (f:=f3) a3];exact ⟨fun h=>⟨wz a1,wz a2,h⟩,fun h=>h.2.2⟩
  have l1:lexR (f1,f2,f3) (f1+t*d1,f2+t*d2,f3+t*d3)=if cmpR f2 (f2+t*d2)≠0 then cmpR f2 (f2+t*d2) else cmpR f3 (f3+t*d3):=by unfold lexR;rw[aC (by simp only[z1];decide)]
  have l2:lexR (f1+t*d1,f2+t*d2,f3+t*d3) (f1+d1,f2+d2,f3+d3)=if cmpR (f2+t*d2) (f2+d2)≠0 then cmpR (f2+t*d2) (f2+d2) else cmpR (f3+t*d3) (f3+d3):=by unfold lexR;rw[aC (by simp only[z2];decide)]
  obtain ⟨_,s1,s2⟩:=Ei (f:=f2) (t:=t) a2;have w2:(0<=t/\t<=1)->wiR f3 (f3+d3) (f3+t*d3):=fun h=>by
   by_cases a3:d3=0
   ·exact wz a3
   exact (wn a3).2 h
  have fin:(lexR (f1,f2,f3) (f1+t*d1,f2+t*d2,f3+t*d3)=0\/lexR (f1+t*d1,f2+t*d2,f3+t*d3) (f1+d1,f2+d2,f3+d3)=0\/lexR (f1,f2,f3) (f1+t*d1,f2+t*d2,f3+t*d3)=lexR (f1+t*d1,f2+t*d2,f3+t*d3) (f1+d1,f2+d2,f3+d3))↔0<=t/\t<=1:=by
   by_cases c1:cmpR f2 (f2+t*d2)=0
   ·have ht:=s1.1 c1;have:lexR (f1,f2,f3) (f1+t*d1,f2+t*d2,f3+t*d3)=0:=by
     rw[l1,aC (by rw[c1];decide),ht,oH,tQ];exact iU _
    exact ⟨fun _=>by rw[ht];exact ⟨sU,de⟩,fun _=>.inl this⟩
   by_cases c2:cmpR (f2+t*d2) (f2+d2)=0
   ·have ht:=s2.1 c2;have:lexR (f1+t*d1,f2+t*d2,f3+t*d3) (f1+d1,f2+d2,f3+d3)=0:=by
     rw[l2,aC (by rw[c2];decide),ht,zY];exact iU _
    exact ⟨fun _=>by rw[ht];exact ⟨de,sU⟩,fun _=>.inr (.inl this)⟩
   rw[l1,l2,aD c1,aD c2];exact dec a2
  rw[fin];exact ⟨fun h=>⟨wz a1,(wn a2).2 h,w2 h⟩,fun h=>(wn a2).1 h.2.1⟩
 obtain ⟨_,s1,s2⟩:=Ei (f:=f1) (t:=t) a1;have w2:(0<=t/\t<=1)->∀f d:Rat,wiR f (f+d) (f+t*d):=fun h f d=>by
  by_cases a3:d=0
  ·exact wz a3
  exact (wn a3).2 h
 have fin:(lexR (f1,f2,f3) (f1+t*d1,f2+t*d2,f3+t*d3)=0\/lexR (f1+t*d1,f2+t*d2,f3+t*d3) (f1+d1,f2+d2,f3+d3)=0\/lexR (f1,f2,f3) (f1+t*d1,f2+t*d2,f3+t*d3)=lexR (f1+t*d1,f2+t*d2,f3+t*d3) (f1+d1,f2+d2,f3+d3))↔0<=t/\t<=1:=by
  by_cases c1:cmpR f1 (f1+t*d1)=0
  ·have ht:=s1.1 c1;have:lexR (f1,f2,f3) (f1+t*d1,f2+t*d2,f3+t*d3)=0:=by
    unfold lexR;rw[ht,oH,oH,oH,tQ,tQ,tQ];simp[iU]
   exact ⟨fun _=>by rw[ht];exact ⟨sU,de⟩,fun _=>.inl this⟩
  by_cases c2:cmpR (f1+t*d1) (f1+d1)=0
  ·have ht:=s2.1 c2;have:lexR (f1+t*d1,f2+t*d2,f3+t*d3) (f1+d1,f2+d2,f3+d3)=0:=by
    unfold lexR;rw[ht,zY,zY,zY];simp[iU]
   exact ⟨fun _=>by rw[ht];exact ⟨de,sU⟩,fun _=>.inr (.inl this)⟩
  have l1:lexR (f1,f2,f3) (f1+t*d1,f2+t*d2,f3+t*d3)=cmpR f1 (f1+t*d1):=by unfold lexR;rw[aD c1]
  have l2:lexR (f1+t*d1,f2+t*d2,f3+t*d3) (f1+d1,f2+d2,f3+d3)=cmpR (f1+t*d1) (f1+d1):=by unfold lexR;rw[aD c2]
  rw[l1,l2];exact dec a1
 rw[fin];exact ⟨fun h=>⟨(wn a1).2 h,w2 h _ _,w2 h _ _⟩,fun h=>(wn a1).1 h.1⟩
theorem aNr {F T q:V3} (hne:F≠T):mtO F T q↔mtR F T q:=by
 unfold mtO mtR;constructor
 ·rintro ⟨h1,h2⟩;exact ⟨h1,(zN h1 hne).1 h2⟩
 rintro ⟨h1,h2⟩;exact ⟨h1,(zN h1 hne).2 h2⟩
abbrev V2:=Rat × Rat
def rE (a b c:V2):Int:=cmpR ((b.1-a.1)*(c.2-a.2)) ((b.2-a.2)*(c.1-a.1))
def ordR (p q:V2):Int:=if cmpR p.1 q.1≠0 then cmpR p.1 q.1 else cmpR p.2 q.2
theorem uR (a b:V2):ordR a b= -1\/ordR a b=0\/ordR a b=1:=by
 unfold ordR;split
 ·exact nN _ _
 exact nN _ _
theorem Ax {a b:V2}:ordR a b=0↔a=b:=by
 unfold ordR;constructor
 ·intro h;split at h
  ·rename_i h1;exact absurd h h1
  rename_i h1;exact eC (qQ.1 (bC.1 h1)) (qQ.1 h)
 rintro rfl;rw[iU,aC de];exact iU _
theorem rU (a b:V2):ordR b a= -ordR a b:=by
 unfold ordR;rw[Aw a.1 b.1,Aw a.2 b.2];by_cases h:cmpR a.1 b.1=0
 ·rw[aC (by rw[h];decide),aC (by rw[h];decide)]
 rw[aD om,aD h]
theorem Ws (a b:V2):ordR a b=lexR (a.1,a.2,0) (b.1,b.2,0):=by
 unfold ordR lexR;by_cases h1:cmpR a.1 b.1=0
 ·rw[aC (by rw[h1];decide),aC (by simp only[h1];decide)];by_cases h2:cmpR a.2 b.2=0
  ·rw[aC (by simp only[h2];decide),h2];exact (iU _).symm
  rw[aD h2]
 rw[aD h1,aD h1]
theorem xT {a b c:V2} (h1:ordR a b<=0) (h2:ordR b c<=0):ordR a c<=0:=by
 unfold ordR at*;rcases kI a.1 b.1 with ⟨p,e⟩ | ⟨p,e⟩ | ⟨p,e⟩
 ·have:a.1<c.1:=by
   rcases kI b.1 c.1 with ⟨q,e2⟩ | ⟨q,e2⟩ | ⟨q,e2⟩
   ·exact Gf p q
   ·rw[<- q];exact p
   rw[aD (by rw[e2];decide),e2] at h2;exact absurd h2 de
  have e3:cmpR a.1 c.1= -1:=by unfold cmpR;rw[aD this]
  rw[aD (by rw[e3];decide),e3];decide
 ·rw[aC (by rw[e];decide)] at h1;rcases kI b.1 c.1 with ⟨q,e2⟩ | ⟨q,e2⟩ | ⟨q,e2⟩
  ·have e3:cmpR a.1 c.1= -1:=by rw[p];exact e2
   rw[aD (by rw[e3];decide),e3];decide
  ·have e3:cmpR a.1 c.1=0:=by rw[p];exact e2
   rw[aC (by rw[e2];decide)] at h2;rw[aC (by rw[e3];decide)];rw[Ln] at h1 h2 ⊢;exact Rat.le_trans h1 h2
  rw[aD (by rw[e2];decide),e2] at h2;exact absurd h2 de
 rw[aD (by rw[e];decide),e] at h1;exact absurd h1 de
def sgO (a b q:V2):Int:=
 if rE a b q≠0 then 0 else
 let low:=if 0<ordR a b then b else a
 let high:=if 0<ordR a b then a else b
 let f:=if 0<ordR q low then q else low
 let t:=if ordR q high<0 then q else high
 1-ordR f t
def onR (a b q:V2):Prop:=cmpR q.1 a.1*cmpR q.1 b.1<=0/\cmpR q.2 a.2*cmpR q.2 b.2<=0
instance (a b q:V2):Decidable (onR a b q):=inferInstanceAs (Decidable (_/\ _))
theorem aKf (a b q:V2):0<sgO a b q↔rE a b q=0/\(ordR a q=0\/ordR q b=0\/ordR a q=ordR q b):=by
 unfold sgO;by_cases ht:rE a b q=0
 ·rw[aC (bI ht)];simp only[ht,true_and];have key:∀(l h:V2),ordR l h<=0->((0<1-ordR (if 0<ordR q l then q else l) (if ordR q h<0 then q else h))↔ordR l q<=0/\ordR q h<=0):=fun l h hlh=>by
   have s1:=rU q l;have s2:=rU q h;have s3:=rU l h;have r1:=uR q l;have r2:=uR q h;by_cases c1:0<ordR q l
   ·rw[aD c1];by_cases c2:ordR q h<0
    ·rw[aD c2,Ax.2 rfl];exact ⟨fun _=>⟨om,om⟩,fun _=>de⟩
    rw[aC c2];exact ⟨fun _=>⟨om,om⟩,fun h=>om⟩
   rw[aC c1];by_cases c2:ordR q h<0
   ·rw[aD c2];exact ⟨fun _=>⟨om,om⟩,fun h=>om⟩
   rw[aC c2];have h1:ordR q h<=0:=xT (b:=l) om hlh;have h2:ordR l q<=0:=xT (b:=h) hlh om;have h3:ordR l h<=0:=hlh;exact ⟨fun _=>⟨h2,h1⟩,fun _=>om⟩
  have r1:=uR a q;have r2:=uR q b;have s1:=rU a q;have s2:=rU q b;have s3:=rU a b;by_cases hab:0<ordR a b
  ·rw[aD hab,aD hab,key b a om];constructor
   ·rintro ⟨h1,h2⟩;omega
   intro h;by_cases hc:ordR b q<=0/\ordR q a<=0
   ·exact hc
   exfalso
   -- then a ≤ q and q ≤ b, but b < a
   have h1:ordR a q<=0/\ordR q b<=0:=om;have:=xT h1.1 h1.2;omega
  rw[aC hab,aC hab,key a b om];constructor
  ·rintro ⟨h1,h2⟩;omega
  intro h;by_cases hc:ordR a q<=0/\ordR q b<=0
  ·exact hc
  have h1:ordR b q<=0/\ordR q a<=0:=om;have h2:=xT h1.1 h1.2;have h3:ordR a b=0:=om;have h4:=Ax.1 h3;subst h4;omega
 rw[aD ht];exact ⟨fun h=>absurd h de,fun h=>absurd h.1 ht⟩
theorem aMy (x a b:Rat):cmpR x a*cmpR x b<=0↔wiR a b x:=by
 unfold wiR;rw[Aw x a];rcases nN x a with e | e | e<;>rcases nN x b with e2 | e2 | e2<;>rw[e,e2]<;>decide
theorem aNs (a b q:V2):0<sgO a b q↔rE a b q=0/\onR a b q:=by
 rw[aKf];refine and_congr_right fun ht=>?_;unfold onR;rw[aMy,aMy];by_cases hab:a=b
 ·subst hab;rw[rU a q];have r:=uR a q;have hw:∀x y:Rat,wiR x x y↔x=y:=fun x y=>by
   unfold wiR;rw[Aw x y];rcases kI x y with ⟨h,e⟩ | ⟨h,e⟩ | ⟨h,e⟩<;>rw[e]
   ·exact ⟨fun h=>absurd h de,fun e2=>absurd (e2 ▸ h) gF⟩
   ·exact ⟨fun _=>h,fun _=>de⟩
   exact ⟨fun h=>absurd h de,fun e2=>absurd (e2 ▸ h) gF⟩
  rw[hw,hw];constructor
  ·intro h;have h0:ordR a q=0:=om;rw[Ax.1 h0];exact ⟨rfl,rfl⟩
  rintro ⟨h1,h2⟩;exact .inl (Ax.2 (eC h1 h2))
 have hne:((a.1,a.2,0):V3)≠(b.1,b.2,0):=fun h=>hab (by
  simp only[eF,and_true] at h
  exact eC h.1 h.2)
 have hp:parR (sub3 (b.1,b.2,0) (a.1,a.2,0)) (sub3 (q.1,q.2,0) (a.1,a.2,0)):=by
  unfold rE at ht;rw[qQ] at ht;simp only[parR,sub3];refine ⟨by grind,by grind,by grind⟩
 have:=zN hp hne;rw[<- Ws,<- Ws] at this;rw[this];have hz:wiR 0 0 0:=by unfold wiR;rw[iU];exact .inl ⟨fX _,fX _⟩
 exact ⟨fun h=>⟨h.1,h.2.1⟩,fun h=>⟨h.1,h.2,hz⟩⟩
abbrev Sp:=Bx × Bx × Bx
abbrev Mem:=Int × Int × Int × Sp × Sp × Int × Int
abbrev Lin:=Int × Sp × Sp × Int × Int
abbrev tSp:Ty:=.pair .str (.pair .str .str)
abbrev tMem:Ty:=.pair (.int .i64) (.pair (.int .i64) (.pair (.int .i64) (.pair tSp (.pair tSp (.pair (.int .i64) (.int .i64))))))
abbrev tLin:Ty:=.pair (.int .i64) (.pair tSp (.pair tSp (.pair (.int .i64) (.int .i64))))
abbrev mem0:Mem:=(0,0,0,([],[],[]),([],[],[]),0,0)
abbrev lin0:Lin:=(0,([],[],[]),([],[],[]),0,0)
def vS (s:Sp):V3:=(valQ s.1,valQ s.2.1,valQ s.2.2)
def v2 (s:Sp):V2:=(valQ s.1,valQ s.2.1)
def chkS (s:Sp):Int:=if chkQ s.1≠0 then chkQ s.1 else if chkQ s.2.1≠0 then chkQ s.2.1 else chkQ s.2.2
theorem qR {s:Sp}:chkS s=0↔chkQ s.1=0/\chkQ s.2.1=0/\chkQ s.2.2=0:=by
 unfold chkS;by_cases h1:chkQ s.1=0
 ·rw[aC (bI h1)];by_cases h2:chkQ s.2.1=0
  ·rw[aC (bI h2)];exact ⟨fun h=>⟨h1,h2,h⟩,fun h=>h.2.2⟩
  rw[aD h2];exact ⟨fun h=>absurd h h2,fun h=>absurd h.2.1 h2⟩
 rw[aD h1];exact ⟨fun h=>absurd h h1,fun h=>absurd h.1 h1⟩
def dK (k:Nat) (q:Rat):Prop:=(decDigits q.num.natAbs).length<=k/\(decDigits q.den).length<=k
instance (k:Nat) (q:Rat):Decidable (dK k q):=inferInstanceAs (Decidable (_/\ _))
theorem Ox {k:Nat} {q:Rat} (h:dK k q):Sz k q:=⟨tL h.1,tL h.2⟩
def dS (k:Nat) (s:Sp):Prop:=dK k (valQ s.1)/\dK k (valQ s.2.1)/\dK k (valQ s.2.2)
instance (k:Nat) (s:Sp):Decidable (dS k s):=Cp
def okS (s:Sp):Prop:=chkS s=0/\dS 36 s
instance (s:Sp):Decidable (okS s):=Cp
theorem xU {s:Sp} (h:okS s):(s.1=numS (valQ s.1)/\s.2.1=numS (valQ s.2.1)/\s.2.2=numS (valQ s.2.2))/\Sz 36 (valQ s.1)/\Sz 36 (valQ s.2.1)/\Sz 36 (valQ s.2.2):=by
 obtain ⟨h1,h2,h3,h4⟩:=h;obtain ⟨c1,c2,c3⟩:=qR.1 h1;exact ⟨⟨(Ed c1).1,(Ed c2).1,(Ed c3).1⟩,Ox h2,Ox h3,Ox h4⟩
theorem aKg {s t:Sp} (h1:okS s) (h2:okS t):s=t↔vS s=vS t:=by
 constructor
 ·rintro rfl;rfl
 intro h;simp only[vS,eF] at h;obtain ⟨⟨a1,a2,a3⟩,_⟩:=xU h1;obtain ⟨⟨b1,b2,b3⟩,_⟩:=xU h2;refine eC (by rw[a1,b1,h.1]) (eC ?_ ?_)
 ·rw[a2,b2,h.2.1]
 rw[a3,b3,h.2.2]
def memE (m:Mem):Int:=
 if m.1<1\/12<m.1 then 8
 else if m.2.1<0\/m.2.2.1 < -1 then 19
 else if (m.2.2.2.2.2.1<1\/1000<m.2.2.2.2.2.1)\/(m.2.2.2.2.2.2<1\/1000<m.2.2.2.2.2.2) then 2
 else if chkS m.2.2.2.1≠0 then chkS m.2.2.2.1
 else if chkS m.2.2.2.2.1≠0 then chkS m.2.2.2.2.1
 else if ¬dS 36 m.2.2.2.1\/¬dS 36 m.2.2.2.2.1 then 4
 else if m.2.2.2.1=m.2.2.2.2.1 then 12 else 0
theorem gY {m:Mem} (h:memE m=0):(1<=m.1/\m.1<=12)/\okS m.2.2.2.1/\okS m.2.2.2.2.1/\vS m.2.2.2.1≠vS m.2.2.2.2.1:=by
 unfold memE at h;split at h
 ·exact absurd h de
 rename_i h1;split at h
 ·exact absurd h de
 split at h
 ·exact absurd h de
 split at h
 ·rename_i h4;exact absurd h h4
 rename_i h4;split at h
 ·rename_i h5;exact absurd h h5
 rename_i h5;split at h
 ·exact absurd h de
 rename_i h6;split at h
 ·exact absurd h de
 rename_i h7;have o1:okS m.2.2.2.1:=⟨bC.1 h4,bC.1 fun hn=>h6 (.inl hn)⟩;have o2:okS m.2.2.2.2.1:=⟨bC.1 h5,bC.1 fun hn=>h6 (.inr hn)⟩;exact ⟨om,o1,o2,fun e=>h7 ((aKg o1 o2).2 e)⟩
def metP (n:Mem) (s:Sp):Prop:=mtO (vS n.2.2.2.1) (vS n.2.2.2.2.1) (vS s)
instance (n:Mem) (s:Sp):Decidable (metP n s):=Cp
def mnR (u v:V3):Nat->Rat
 | 0=>u.1*v.2.1-u.2.1*v.1
 | 1=>u.2.1*v.2.2-u.2.2*v.2.1
 | _=>u.2.2*v.1-u.1*v.2.2
def aAe (a u:V3) (s:Rat):V3:=(a.1+u.1*s,a.2.1+u.2.1*s,a.2.2+u.2.2*s)
def Ct (s:Rat):Prop:=0<=cmpR s 0/\cmpR s 1<=0
instance (s:Rat):Decidable (Ct s):=inferInstanceAs (Decidable (_/\ _))
def crAt (F u G v w:V3) (i:Nat):Prop:=aAe F u (mnR w v i/mnR u v i)=aAe G v (mnR w u i/mnR u v i)/\Ct (mnR w v i/mnR u v i)/\Ct (mnR w u i/mnR u v i)
instance (F u G v w:V3) (i:Nat):Decidable (crAt F u G v w i):=inferInstanceAs (Decidable (_/\ _))
def crG (F u G v w:V3):Prop:=if mnR u v 0≠0 then crAt F u G v w 0 else if mnR u v 1≠0 then crAt F u G v w 1 else if mnR u v 2≠0 then crAt F u G v w 2 else False
def crP (m n:Mem):Prop:=crG (vS m.2.2.2.1) (sub3 (vS m.2.2.2.2.1) (vS m.2.2.2.1)) (vS n.2.2.2.1) (sub3 (vS n.2.2.2.2.1) (vS n.2.2.2.1)) (sub3 (vS n.2.2.2.1) (vS m.2.2.2.1))
def crE (m n:Mem):Int:=if memE m≠0\/memE n≠0 then 1 else if ((¬dS 12 m.2.2.2.1\/¬dS 12 m.2.2.2.2.1)\/¬dS 12 n.2.2.2.1)\/¬dS 12 n.2.2.2.2.1 then 4 else 0
def crB (m n:Mem):Prop:=crE m n=0/\crP m n
instance (m n:Mem):Decidable (crB m n):=Cp
def rafP (a:Int):Prop:=1<=a/\a<=5
def sloP (a:Int):Prop:=(1<=a/\a<=5)\/a=11
def hipP (a:Int):Prop:=a=6\/a=7
instance (a:Int):Decidable (rafP a):=inferInstanceAs (Decidable (_/\ _))
instance (a:Int):Decidable (sloP a):=inferInstanceAs (Decidable (_\/ _))
instance (a:Int):Decidable (hipP a):=inferInstanceAs (Decidable (_\/ _))
def qK (a b:Int):Nat:=
 if sloP a/\(b=10\/b=9) then 1 else if sloP a/\(b=8\/hipP b) then 2 else if rafP a/\b=12 then 3 else if hipP a/\b=8 then 4 else if hipP a/\b=10 then 5 else if a=9/\hipP b then 2 else if a=12/\b=11 then 3 else 0
def tchP (m n:Mem):Prop:=metP n m.2.2.2.1\/metP n m.2.2.2.2.1
instance (m n:Mem):Decidable (tchP m n):=Cp
def rstP (m n:Mem):Prop:=match qK m.1 n.1 with
 | 1=>m.2.1=n.2.1/\crB m n
 | 2=>tchP m n
 | 3=>m.2.1=n.2.1/\tchP m n
 | 4=>metP n m.2.2.2.2.1
 | 5=>crB m n
 | _=>False
instance (m n:Mem):Decidable (rstP m n):=Cp
def rstE (m n:Mem):Int:=match qK m.1 n.1 with
 | 1=>if m.2.1=n.2.1 then crE m n else 0
 | 5=>crE m n
 | _=>0
def rowR (l:List Mem) (i:Nat):Nat->List (Int × Int)
 | 0=>[]
 | k+1=>if k≠i/\rstP (l.getD i mem0) (l.getD k mem0) then rowR l i k++ [((i:Int),(k:Int))] else rowR l i k
def errR (l:List Mem) (i:Nat):Nat->Nat->Int
 | 0,_=>0
 | n+1,k=>if k≠i/\rstE (l.getD i mem0) (l.getD k mem0)≠0 then rstE (l.getD i mem0) (l.getD k mem0) else errR l i n (k+1)
def gK (l:List Mem) (i n:Nat):Prop:=∃k,k<n/\k≠i/\rstP (l.getD i mem0) (l.getD k mem0)/\(l.getD k mem0).1=10
instance (l:List Mem) (i n:Nat):Decidable (gK l i n):=Cp
def latP (ls:List Lin) (s:Sp) (ks:List Int):Prop:=∃j,j<ls.length/\(ls.getD j lin0).1∈ks/\0<sgO (v2 (ls.getD j lin0).2.1) (v2 (ls.getD j lin0).2.2.1) (v2 s)
instance (ls:List Lin) (s:Sp) (ks:List Int):Decidable (latP ls s ks):=Cp
def walP (ls:List Lin) (m:Mem) (pl:Prop):Prop:=
 if m.1=10 then True else if sloP m.1\/hipP m.1 then ¬pl/\latP ls m.2.2.2.1 [7] else if m.1=8\/m.1=9 then latP ls m.2.2.2.1 [4,5,8]\/latP ls m.2.2.2.2.1 [4,5,8] else False
instance (ls:List Lin) (m:Mem) (pl:Prop):Decidable (walP ls m pl):=Cp
def outR (ls:List Lin) (l:List Mem):Nat->List (Int × Int)
 | 0=>[]
 | i+1=>(if walP ls (l.getD i mem0) (gK l i l.length) then outR ls l i++ [((i:Int),(-1:Int))] else outR ls l i)++rowR l i l.length
def errS (l:List Mem):Nat->Nat->Int
 | 0,_=>0
 | n+1,i=>if errR l i l.length 0≠0 then errR l i l.length 0 else errS l n (i+1)
def badL (ls:List Lin):Prop:=∃j,j<ls.length/\¬(okS (ls.getD j lin0).2.1/\okS (ls.getD j lin0).2.2.1)
def badM (l:List Mem):Prop:=∃j,j<l.length/\memE (l.getD j mem0)≠0
instance (ls:List Lin):Decidable (badL ls):=Cp
instance (l:List Mem):Decidable (badM l):=Cp
def ofR (ls:List Lin) (l:List Mem):List (Int × Int) × Int:=
 if 512<l.length\/4096<ls.length then ([],4)
 else if badL ls then ([],1)
 else if badM l then ([],1)
 else if errS l l.length 0≠0 then ([],errS l l.length 0)
 else if 4096<(outR ls l l.length).length then ([],4)
 else (outR ls l l.length,0)
theorem Wu {l:List Mem} {i k:Nat} (hk:k<l.length) (h:k≠i/\rstE (l.getD i mem0) (l.getD k mem0)≠0):errR l i (l.length-k) k=rstE (l.getD i mem0) (l.getD k mem0):=by
 obtain ⟨n,e⟩:∃n,l.length-k=n+1:=⟨l.length-k-1,om⟩;rw[e];exact aD h
theorem Sa {l:List Mem} {i k:Nat} (hk:k<l.length) (h:¬(k≠i/\rstE (l.getD i mem0) (l.getD k mem0)≠0)):errR l i (l.length-k) k=errR l i (l.length-(k+1)) (k+1):=by
 obtain ⟨n,e⟩:∃n,l.length-k=n+1:=⟨l.length-k-1,om⟩;rw[e,show l.length-(k+1)=n by omega];exact aC h
theorem Wv {l:List Mem} {i:Nat}:errR l i (l.length-l.length) l.length=0:=by rw[kV];rfl
theorem Ww {l:List Mem} {i:Nat} (hi:i<l.length) (h:errR l i l.length 0≠0):errS l (l.length-i) i=errR l i l.length 0:=by
 obtain ⟨n,e⟩:∃n,l.length-i=n+1:=⟨l.length-i-1,om⟩;rw[e];exact aD h
theorem aC2 {l:List Mem} {i:Nat} (hi:i<l.length) (h:errR l i l.length 0=0):errS l (l.length-i) i=errS l (l.length-(i+1)) (i+1):=by
 obtain ⟨n,e⟩:∃n,l.length-i=n+1:=⟨l.length-i-1,om⟩;rw[e,show l.length-(i+1)=n by omega];exact aC fun h'=>h' h
theorem Wx {l:List Mem}:errS l (l.length-l.length) l.length=0:=by rw[kV];rfl
theorem Ej (l:List Mem) (i:Nat):∀k,(rowR l i k).length<=k
 | 0=>aN _
 | k+1=>by
  have:=Ej l i k;unfold rowR;split
  ·rw[aS,cU];omega
  omega
theorem Lo (ls:List Lin) (l:List Mem):∀i,(outR ls l i).length<=i*(l.length+1)
 | 0=>aK _
 | i+1=>by
  have h1:=Lo ls l i;have h2:=Ej l i l.length;unfold outR;rw[aS,cL,iC];split
  ·rw[aS,cU];omega
  omega
theorem platP_succ {l:List Mem} {i k:Nat}:gK l i (k+1)↔gK l i k\/(k≠i/\rstP (l.getD i mem0) (l.getD k mem0)/\(l.getD k mem0).1=10):=by
 constructor
 ·rintro ⟨j,h1,h2⟩;by_cases e:j=k
  ·subst e;exact .inr h2
  exact .inl ⟨j,om,h2⟩
 rintro (⟨j,h1,h2⟩ | h)
 ·exact ⟨j,om,h2⟩
 exact ⟨k,dT _,h⟩
theorem Cu {l:List Mem} {i:Nat}:¬gK l i 0:=fun ⟨j,h,_⟩=>absurd h (bV _)
theorem Ek (l:List Mem) (i:Nat) (x:Int × Int):∀n,x∈rowR l i n↔∃k:Nat,k<n/\k≠i/\rstP (l.getD i mem0) (l.getD k mem0)/\x=((i:Int),(k:Int))
 | 0=>⟨fun h=>(by cases h),fun ⟨k,h,_⟩=>absurd h (bV _)⟩
 | n+1=>by
  have ih:=Ek l i x n;unfold rowR;by_cases hc:n≠i/\rstP (l.getD i mem0) (l.getD n mem0)
  ·rw[aD hc,cE,bO,ih];constructor
   ·rintro (⟨k,h1,h2⟩ | rfl)
    ·exact ⟨k,om,h2⟩
    exact ⟨n,dT _,hc.1,hc.2,rfl⟩
   rintro ⟨k,h1,h2,h3,h4⟩;by_cases e:k=n
   ·subst e;exact .inr h4
   exact .inl ⟨k,om,h2,h3,h4⟩
  rw[aC hc,ih];constructor
  ·rintro ⟨k,h1,h2⟩;exact ⟨k,om,h2⟩
  rintro ⟨k,h1,h2,h3,h4⟩;by_cases e:k=n
  ·subst e;exact absurd ⟨h2,h3⟩ hc
  exact ⟨k,om,h2,h3,h4⟩
theorem wN (ls:List Lin) (l:List Mem) (x:Int × Int):∀n,x∈outR ls l n↔∃i:Nat,i<n/\((walP ls (l.getD i mem0) (gK l i l.length)/\x=((i:Int),(-1:Int)))\/∃k:Nat,k<l.length/\k≠i/\rstP (l.getD i mem0) (l.getD k mem0)/\x=((i:Int),(k:Int)))
 | 0=>⟨fun h=>(by cases h),fun ⟨k,h,_⟩=>absurd h (bV _)⟩
 | n+1=>by
  have ih:=wN ls l x n;unfold outR;rw[cE,Ek];have e1:(x∈(if walP ls (l.getD n mem0) (gK l n l.length) then outR ls l n++ [((n:Int),(-1:Int))] else outR ls l n))↔x∈outR ls l n\/(walP ls (l.getD n mem0) (gK l n l.length)/\x=((n:Int),(-1:Int))):=by
   by_cases hc:walP ls (l.getD n mem0) (gK l n l.length)
   ·rw[aD hc,cE,bO];exact ⟨fun h=>h.imp id fun h=>⟨hc,h⟩,fun h=>h.imp id fun h=>h.2⟩
   rw[aC hc];exact ⟨.inl,fun h=>h.elim id fun h=>absurd h.1 hc⟩
  rw[e1,ih];constructor
  ·rintro ((⟨i,h1,h2⟩ | h) | h)
   ·exact ⟨i,om,h2⟩
   ·exact ⟨n,dT _,.inl h⟩
   exact ⟨n,dT _,.inr h⟩
  rintro ⟨i,h1,h2⟩;by_cases e:i=n
  ·subst e;rcases h2 with h2 | h2
   ·exact .inl (.inr h2)
   exact .inr h2
  exact .inl (.inl ⟨i,om,h2⟩)
def ltP (a b:Int × Int):Prop:=a.1<b.1\/a.1=b.1/\a.2<b.2
theorem Wy (l:List Mem) (i:Nat):∀n,(rowR l i n).Pairwise ltP
 | 0=>List.Pairwise.nil
 | n+1=>by
  have ih:=Wy l i n;unfold rowR;split
  ·refine gO.2 ⟨ih,qL _ _,fun a ha b hb=>?_⟩;rw[bO.1 hb];obtain ⟨k,h1,_,_,rfl⟩:=(Ek l i a n).1 ha;exact .inr ⟨rfl,by show (k:Int)<n;omega⟩
  exact ih
theorem Lp (ls:List Lin) (l:List Mem):∀n,(outR ls l n).Pairwise ltP
 | 0=>List.Pairwise.nil
 | n+1=>by
  have ih:=Lp ls l n;have hlow:∀a∈outR ls l n,a.1<(n:Int):=fun a ha=>by
   obtain ⟨i,h1,h2⟩:=(wN ls l a n).1 ha;rcases h2 with ⟨_,rfl⟩ | ⟨k,_,_,_,rfl⟩
   ·show (i:Int)<n;omega
   show (i:Int)<n;omega
  have hrow:∀b∈rowR l n l.length,b.1=(n:Int)/\0<=b.2:=fun b hb=>by
   obtain ⟨k,_,_,_,rfl⟩:=(Ek l n b l.length).1 hb;exact ⟨rfl,by show (0:Int)<=k;omega⟩
  unfold outR;refine gO.2 ⟨?_,Wy l n l.length,fun a ha b hb=>?_⟩
  ·split
   ·refine gO.2 ⟨ih,qL _ _,fun a ha b hb=>?_⟩;rw[bO.1 hb];exact .inl (hlow a ha)
   exact ih
  obtain ⟨h1,h2⟩:=hrow b hb;split at ha
  ·rcases cE.1 ha with ha | ha
   ·exact .inl (by rw[h1];exact hlow a ha)
   rw[bO.1 ha];exact .inr ⟨h1.symm,by show (-1:Int)<b.2;omega⟩
  exact .inl (by rw[h1];exact hlow a ha)
def lvK (a:Int):Int:=if 1<=a/\a<=5 then 5 else if a=12 then 4 else if a=11 then 3 else if a=9 then 2 else if a=6\/a=7 then 1 else 0
theorem aHs {a:Int} (h:sloP a):3<=lvK a:=by
 unfold sloP at h;unfold lvK;rcases h with h | rfl
 ·rw[aD h];decide
 decide
theorem aNt {a:Int} (h:rafP a):lvK a=5:=aD h
theorem Sb {a:Int} (h:hipP a):lvK a=1:=by
 rcases h with rfl | rfl<;>rfl
theorem aKh {a b:Int} (h:qK a b≠0):lvK b<lvK a:=by
 by_cases h1:sloP a/\(b=10\/b=9)
 ·have:=aHs h1.1;rcases h1.2 with rfl | rfl
  ·have:lvK 10=0:=rfl;omega
  have:lvK 9=2:=rfl;omega
 by_cases h2:sloP a/\(b=8\/hipP b)
 ·have:=aHs h2.1;rcases h2.2 with rfl | hb
  ·have:lvK 8=0:=rfl;omega
  have:=Sb hb;omega
 by_cases h3:rafP a/\b=12
 ·have:=aNt h3.1;have e:lvK b=4:=by rw[h3.2];rfl
  omega
 by_cases h4:hipP a/\b=8
 ·have:=Sb h4.1;have e:lvK b=0:=by rw[h4.2];rfl
  omega
 by_cases h5:hipP a/\b=10
 ·have:=Sb h5.1;have e:lvK b=0:=by rw[h5.2];rfl
  omega
 by_cases h6:a=9/\hipP b
 ·have:=Sb h6.2;have e:lvK a=2:=by rw[h6.1];rfl
  omega
 by_cases h7:a=12/\b=11
 ·have e:lvK a=4:=by rw[h7.1];rfl
  have e2:lvK b=3:=by rw[h7.2];rfl
  omega
 exfalso;refine h ?_;unfold qK;rw[aC h1,aC h2,aC h3,aC h4,aC h5,aC h6,aC h7]
theorem aHt {m n:Mem} (h:rstP m n):lvK n.1<lvK m.1:=by
 refine aKh fun h0=>?_;unfold rstP at h;rw[h0] at h;exact h
def hgt (a b c x y:Bx):Rat:=valQ a*valQ x+valQ b*valQ y+valQ c
section
variable (p:Bx->Prop) [DecidablePred p]
end
def badS (s:Bx):Prop:=12<s.length\/chkQ s≠0
instance (s:Bx):Decidable (badS s):=Cp
noncomputable instance:DecidablePred badS:=fun s=>Cp
def notP (s:Bx):Prop:=chkP s≠0
noncomputable instance:DecidablePred notP:=fun s=>Cp
def aNp (l:List (Bx)):Prop:=∀a∈l,a.length<=12/\chkQ a=0
instance (l:List (Bx)):Decidable (aNp l):=Cp
theorem Sz.up {k:Nat} {q:Rat} (h:Sz 12 q) (hk:12<=k):Sz k q:=h.mono hk
def c3074:Con:=aR 74 true fun | [.str a],K=>K (.tup [S (ptQ a).1,S (ptQ a).2,I (chkQ a)]) | _,_=>False
theorem aAu:aO Tp c3074:=by
 refine kQ {} Tryz.func74 Tryz.ntmps74 (kc k46 kn) fun _ _ h=>?_;split at h;case h_2=>cases h
 rename_i a;refine kb h ?_;unfold ptQ;by_cases h:chkQ a=0
 ·rw[aD h,h];(repeat'((conv=>whnf);first|refine Zg fun _=>?_|apply pI|apply pJ|refine Zy ?_|fail));exact ZF
 rw[aC h];(repeat'((conv=>whnf);first|apply pI|apply pJ|refine Zm ?_|fail));exact ZF
def aLe:Con:=aR 89 true fun | [.str a],K=>K (.tup [S (ptQ a).1,S (ptQ a).2,I (chkQ a)]) | _,_=>False
theorem aAv:aO Tp aLe:=by
 refine kQ {} Tryz.func89 Tryz.ntmps89 (kc k44 (kc k65 kn)) fun _ _ h=>?_;split at h;case h_2=>cases h
 rename_i a;refine kb h ?_;by_cases h:chkQ a=0
 ·have e:ptQ a=(pn (valQ a),pd (valQ a)):=by unfold ptQ;rw[aD h]
  rw[e];refine Br.mkN (show ¬ ¬chkQ a=0 from fun h'=>h' h) ?_;(repeat refine ZG ?_);(conv=>whnf);(repeat' first|exact trivial|rfl|apply aA);(conv=>whnf);exact h.symm
 have e:ptQ a=([],[]):=by unfold ptQ;rw[aC h]
 rw[e];refine Br.mkY h ?_;exact ZF
section
variable {α:Type} (p:α->Prop)
open Classical in
def ixG (l:List α):Int:=if l.findIdx (fun s=>decide (p s))<l.length then (l.findIdx (fun s=>decide (p s)):Int) else -1
open Classical in
theorem Bz {l:List α} (d:α) {i:Nat} (hi:i<l.length) (hb:p (l.getD i d)) (h:∀j,j<i->¬p (l.getD j d)):ixG p l=i:=by
 have e:l.findIdx (fun s=>decide (p s))=i:=by
  rw[List.findIdx_eq hi];refine ⟨?_,fun j hj=>?_⟩
  ·rw[aB,aM hi] at hb;exact qU hb
  have:=h j hj;rw[aB,aM om] at this;exact decide_eq_false this
 unfold ixG;rw[e,aD hi]
open Classical in
theorem Ca {l:List α} (d:α) (h:∀j,j<l.length->¬p (l.getD j d)):ixG p l= -1:=by
 unfold ixG;rw[aC];intro hlt;have h1:=List.findIdx_getElem (w:=hlt);have h2:=h _ hlt;rw[aB,aM hlt] at h2;exact h2 (eO h1)
theorem vA (l:List α) (d:α):0<=ixG p l↔∃j,j<l.length/\p (l.getD j d):=by
 constructor
 ·intro h;apply aH;intro hn;rw[Ca p d (fun j hj hp=>hn ⟨j,hj,hp⟩)] at h;exact absurd h de
 rintro ⟨j,hj,hp⟩;have key:∀n,n<=l.length->(∃j,j<n/\p (l.getD j d))->∃j,j<n/\p (l.getD j d)/\∀i,i<j->¬p (l.getD i d):=by
  intro n
  induction n with
  | zero=>rintro _ ⟨j,h,_⟩;exact absurd h (bV _)
  | succ n ih=>
   rintro hn ⟨j,h1,h2⟩;by_cases he:∃j,j<n/\p (l.getD j d)
   ·obtain ⟨j,h3,h4,h5⟩:=ih om he;exact ⟨j,om,h4,h5⟩
   have:j=n:=by
    apply aH;intro hne;exact he ⟨j,om,h2⟩
   subst this;exact ⟨j,h1,h2,fun i hi hp=>he ⟨i,hi,hp⟩⟩
 obtain ⟨i,h1,h2,h3⟩:=key l.length (aN _) ⟨j,hj,hp⟩;rw[Bz p d h1 h2 h3];omega
end
def c3112:Con:=aR 112 true fun | [.agg [.str a,.str b,.str c]],K=>K (.agg [S a,S b,S c]) | _,_=>False
theorem aAw:aO Tp c3112:=by
 refine kQ {} Tryz.func112 Tryz.ntmps112 kn fun _ _ h=>?_;split at h;case h_2=>cases h
 refine kb h ?_;exact ZF
def c3071:Con:=aR 71 true fun | [.agg [.str a,.str b,.str c]],K=>K (I (chkS (a,b,c))) | _,_=>False
theorem aAx:aO Tp c3071:=by
 refine kQ {} Tryz.func71 Tryz.ntmps71 (kc aAw (kc k21 kn)) fun _ _ h=>?_;split at h;case h_2=>cases h
 rename_i a b c;refine kb h ?_;by_cases h1:chkQ a=0
 ·by_cases h2:chkQ b=0
  ·have e:chkS (a,b,c)=chkQ c:=by unfold chkS;rw[aC (fun h=>h h1),aC (fun h=>h h2)]
   rw[e];by_cases h3:chkQ c=0
   ·rw[h3];exact ZRF
   exact ZRF
  have e:chkS (a,b,c)=chkQ b:=by unfold chkS;rw[aC (fun h=>h h1),aD h2]
  rw[e];exact ZRF
 have e:chkS (a,b,c)=chkQ a:=by unfold chkS;rw[aD h1]
 rw[e];exact ZRF
def c3077:Con:=aR 77 true fun | [.val (.int .i64 n),.val (.int .i64 a),.val (.int .i64 b)],K=>K (.bl (n<a\/b<n) inferInstance) | _,_=>False
theorem k3077:aO Tp c3077:=by
 refine kQ {} Tryz.func77 Tryz.ntmps77 kn fun _ _ h=>?_;split at h;case h_2=>cases h
 rename_i n a b;refine kb h ?_;by_cases h1:n<a
 ·(repeat refine ZR ?_);(conv=>whnf);exact .inl h1
 (repeat refine ZR ?_);(conv=>whnf);exact ⟨fun h=>.inr h,fun h=>h.resolve_left h1⟩
theorem Pr {k:Nat} {a:Bx}:(max ((digs (pn (valQ a))).length:Int) ((pd (valQ a)).length:Int)<=k)↔dK k (valQ a):=by
 unfold dK;rw[fN];show _<= _↔ _/\ _;unfold pd;constructor<;>intro h
 ·constructor<;>omega
 omega
theorem Gq {a:Bx} (h:chkQ a=0):ptQ a=(pn (valQ a),pd (valQ a)):=by unfold ptQ;rw[aD h]
def c3117:Con:=aR 117 true fun | [.str a],K=>Need (chkQ a=0) (K (.bl (¬dK 36 (valQ a)) inferInstance)) | _,_=>False
theorem k3117:aO Tp c3117:=by
 refine kQ {} Tryz.func117 Tryz.ntmps117 (kc aAu (kc k88 kn)) fun _ _ h=>?_;split at h;case h_2=>cases h
 rename_i a;refine kb h.go ?_;replace h:=h.ok;have e:=Gq h;have hi:=Pr (k:=36) (a:=a);(repeat' first|refine ZG ?_|refine Zg fun _=>?_);(conv=>whnf);rw[<- hi,e];exact Int.not_le.symm
def Ir (a:Bx):Prop:=¬dK 36 (valQ a)
def badN (a:Bx):Prop:=¬(chkQ a=0/\dK 36 (valQ a))
def aLf:Con:=aR 73 true fun | [.str a],K=>K (.bl (badN a) Cp) | _,_=>False
theorem k3073:aO Tp aLf:=by
 refine kQ {} Tryz.func73 Tryz.ntmps73 (kc aAu (kc k88 kn)) fun _ _ h=>?_;split at h;case h_2=>cases h
 rename_i a;refine kb h ?_;by_cases h:chkQ a=0
 ·have e:=Gq h;have hi:=Pr (k:=36) (a:=a);have hb:badN a↔¬(max ((digs (ptQ a).1).length:Int) ((ptQ a).2.length:Int)<=36):=by
   rw[e];unfold badN;rw[<- hi];exact ⟨fun hn h2=>hn ⟨h,h2⟩,fun hn h2=>hn h2.2⟩
  (repeat' first|refine ZR ?_|refine Zg fun _=>?_);(conv=>whnf);exact ⟨fun q=>hb.2 (Int.not_le.2 q),fun q=>Int.not_le.1 (hb.1 q)⟩
 (repeat refine ZR ?_);(conv=>whnf);exact fun q=>h q.1
def c3114:Con:=aR 114 true fun | [.seq .str l,.clo 117 [] []],K=>Need (∀a∈l,chkQ a=0) (K (I (ixG Ir l))) | _,_=>False
theorem k3114:aO Tp c3114:=by
 refine kQ { asks:=[(0,[])] } Tryz.func114 Tryz.ntmps114 (kc k3117 kn) fun _ _ h=>?_;split at h;case h_2=>cases h
 rename_i l;change List (Bx) at l;refine kb h.go ?_;replace h:=h.ok;have hm:∀i,i<l.length->chkQ (l.getD i [])=0:=fun i hi=>h _ (by rw[aB,aM hi];exact cT hi);(repeat'((conv=>whnf);first|refine Zg fun _=>?_|fail));refine Ask.mk ⟨{ X:=Nat,pre:=fun i=>i<=l.length/\∀j,j<i->¬Ir (l.getD j []),mod:=fun i _=>[(8,I i)],heap:=fun i H=>H,mu:=fun i=>l.length-i },rfl,?_⟩;(repeat refine ZG ?_);refine ⟨⟨(0:Nat),⟨aK _,fun j hj=>om⟩,ZE⟩,fun (i:Nat) hi=>?_⟩;obtain ⟨hi,hp⟩:=hi;by_cases hlt:i<l.length
 ·have hc:=hm i hlt;(repeat refine ZR ?_);(apply Br.mk<;>intro)
  ·rename_i hb;have e:=Bz Ir [] hlt hb hp;rw[e];exact ZF
  rename_i hb;(repeat refine ZR ?_);refine ⟨(i+1:Nat),by show l.length-(i+1)<l.length-i;omega,⟨hlt,fun j hj=>?_⟩,ZE⟩;by_cases e:j=i
  ·subst e;exact hb
  exact hp j om
 have e:i=l.length:=om;subst e;rw[Ca Ir [] hp];exact ZRF
def c3072:Con:=aR 72 true fun | [.seq .str l,.clo 117 [] []],K=>Need (∀a∈l,chkQ a=0) (K (.bl (0<=ixG Ir l) inferInstance)) | _,_=>False
theorem k3072:aO Tp c3072:=by
 refine kQ {} Tryz.func72 Tryz.ntmps72 (kc k3114 kn) fun _ _ h=>?_;split at h;case h_2=>cases h
 refine kb h.go ?_;replace h:=h.ok;(repeat refine ZR ?_);(conv=>whnf)
theorem Nf {p:Bx->Prop} {a b c:Bx}:(0<=ixG p [a,b,c])↔p a\/p b\/p c:=by
 rw[vA p [a,b,c] []];constructor
 ·rintro ⟨j,hj,h⟩
  match j,hj,h with
  | 0,_,h=>exact .inl h
  | 1,_,h=>exact .inr (.inl h)
  | 2,_,h=>exact .inr (.inr h)
  | j+3,hj,_=>simp at hj;omega
 rintro (h | h | h)
 ·exact ⟨0,si,h⟩
 ·exact ⟨1,si,h⟩
 exact ⟨2,si,h⟩
def c3078:Con:=aR 78 true fun | [.agg [.str a,.str b,.str c]],K=>Need (chkS (a,b,c)=0) (K (.bl (¬dS 36 (a,b,c)) Cp)) | _,_=>False
theorem aLg:aO Tp c3078:=by
 refine kQ {} Tryz.func78 Tryz.ntmps78 (kc k3072 kn) fun _ _ h=>?_;split at h;case h_2=>cases h
 rename_i a b c;refine kb h.go ?_;replace h:=h.ok;obtain ⟨h1,h2,h3⟩:=qR.1 h;have hall:∀x∈ [a,b,c],chkQ x=0:=fun x hx=>by
  simp only[bH,iJ,or_false] at hx;rcases hx with rfl | rfl | rfl
  ·exact h1
  ·exact h2
  exact h3
 have e:(0<=ixG Ir [a,b,c])↔¬dS 36 (a,b,c):=by
  rw[Nf];unfold Ir dS;constructor
  ·rintro (h | h | h) ⟨q1,q2,q3⟩
   ·exact h q1
   ·exact h q2
   exact h q3
  intro h;by_cases q1:dK 36 (valQ a)
  ·by_cases q2:dK 36 (valQ b)
   ·exact .inr (.inr fun q3=>h ⟨q1,q2,q3⟩)
   exact .inr (.inl q2)
  exact .inl q1
 (repeat refine ZR ?_);(conv=>whnf);exact e
theorem b114q (l:List (Bx)):body Tp [aLf] { asks:=[(0,[])] } true Tryz.f114 [.seq .str l,.clo 73 [] []] (I (ixG badN l)):=by
 (repeat'((conv=>whnf);first|refine Zg fun _=>?_|fail));refine Ask.mk ⟨{ X:=Nat,pre:=fun i=>i<=l.length/\∀j,j<i->¬badN (l.getD j []),mod:=fun i _=>[(8,I i)],heap:=fun i H=>H,mu:=fun i=>l.length-i },rfl,?_⟩;(repeat refine ZG ?_);refine ⟨⟨(0:Nat),⟨aK _,fun j hj=>om⟩,ZE⟩,fun (i:Nat) hi=>?_⟩;obtain ⟨hi,hp⟩:=hi;by_cases hlt:i<l.length
 ·(repeat refine ZR ?_);(apply Br.mk<;>intro)
  ·rename_i hb;have e:=Bz badN [] hlt hb hp;rw[e];exact ZF
  rename_i hb;(repeat refine ZR ?_);refine ⟨(i+1:Nat),by show l.length-(i+1)<l.length-i;omega,⟨hlt,fun j hj=>?_⟩,ZE⟩;by_cases e:j=i
  ·subst e;exact hb
  exact hp j om
 have e:i=l.length:=om;subst e;rw[Ca badN [] hp];exact ZRF
def aEx:Con:=aR 114 true fun args K=>match args with | [.seq .str l,.clo 73 [] []]=>K (I (ixG badN l)) | _=>False
theorem k114q:aO Tp aEx:=by
 refine kO Tryz.func114 fun args K h=>?_;simp only[aEx] at h;split at h
 ·rename_i l;exact ⟨_,h,triB Tryz.func114 Tryz.ntmps114 (by simp[k3073]) (b114q l)⟩
 cases h
theorem b72q (l:List (Bx)):body Tp [aEx] {} true Tryz.f72 [.seq .str l,.clo 73 [] []] (.bl (0<=ixG badN l) inferInstance):=by
 (conv=>whnf)
def c72q:Con:=aR 72 true fun args K=>match args with | [.seq .str l,.clo 73 [] []]=>K (.bl (0<=ixG badN l) inferInstance) | _=>False
theorem k72q:aO Tp c72q:=by
 refine kO Tryz.func72 fun args K h=>?_;simp only[c72q] at h;split at h
 ·rename_i l;exact ⟨_,h,triB Tryz.func72 Tryz.ntmps72 (by simp[k114q]) (b72q l)⟩
 cases h
theorem aJb {a b c:Bx} (h:chkS (a,b,c)=0):¬(0<=ixG badN [a,b,c])↔okS (a,b,c):=by
 obtain ⟨h1,h2,h3⟩:=qR.1 h;rw[Nf];unfold badN okS dS;constructor
 ·intro hn;refine ⟨h,aH fun q=>hn (.inl fun q2=>q q2.2),aH fun q=>hn (.inr (.inl fun q2=>q q2.2)),aH fun q=>hn (.inr (.inr fun q2=>q q2.2))⟩
 rintro ⟨_,q1,q2,q3⟩ (q | q | q)
 ·exact q ⟨h1,q1⟩
 ·exact q ⟨h2,q2⟩
 exact q ⟨h3,q3⟩
def c3043:Con:=aR 43 true fun | [.agg [.str a,.str b,.str c]],K=>K (.bl (okS (a,b,c)) Cp) | _,_=>False
theorem k3043:aO Tp c3043:=by
 refine kQ {} Tryz.func43 Tryz.ntmps43 (kc aAx (kc k72q kn)) fun _ _ h=>?_;split at h;case h_2=>cases h
 rename_i a b c;refine kb h ?_;by_cases h:chkS (a,b,c)=0
 ·have e:=aJb h;(repeat refine ZR ?_);(conv=>whnf);exact e
 have e:¬okS (a,b,c):=fun hk=>h hk.1;(repeat refine ZR ?_);(conv=>whnf);exact e
def Ng:Con:=aR 46 true fun | [.agg [.val (.int .i64 k),.val (.int .i64 f),.val (.int .i64 o),.str a,.str b,.str c,.str d,.str e,.str g,.val (.int .i64 w),.val (.int .i64 t)]],K=>K (I (memE (k,f,o,(a,b,c),(d,e,g),w,t))) | _,_=>False
theorem aEy:aO Tp Ng:=by
 refine kQ {} Tryz.func46 Tryz.ntmps46 (kc k3077 (kc aAx (kc aLg kn))) fun _ _ hY=>?_;split at hY;case h_2=>cases hY
 rename_i k f o a b c d e g w h;refine kb hY ?_;unfold memE;have hl:([(a,b,c),(d,e,g)]:List (Bx × Bx × Bx)).length=2:=rfl;by_cases h1:k<1\/12<k
 ·rw[aD h1];exact ZRF
 rw[aC h1];by_cases h2:f<0\/o < -1
 ·rw[aD h2];by_cases h3:f<0
  ·exact ZRF
  exact ZRF
 rw[aC h2];by_cases h3:(w<1\/1000<w)\/(h<1\/1000<h)
 ·rw[aD h3];by_cases h4:w<1\/1000<w
  ·exact ZRF
  exact ZRF
 rw[aC h3];by_cases h4:chkS (a,b,c)=0;case neg=>
  rw[aD h4];exact ZRF
 rw[aC (bI h4)];by_cases h5:chkS (d,e,g)=0;case neg=>
  rw[aD h5];exact ZRF
 rw[aC (bI h5)];by_cases h6:dS 36 (a,b,c);case neg=>
  rw[aD (.inl h6)];exact ZRF
 by_cases h7:dS 36 (d,e,g);case neg=>
  rw[aD (.inr h7)];exact ZRF
 rw[aC (fun hn=>hn.elim (fun hn=>hn h6) fun hn=>hn h7)];(repeat'((conv=>whnf);first|refine Zg fun _=>?_|refine Zn ?_|refine Z0 ?_|refine Z1 ?_|refine Zl ?_|refine Zy ?_|refine Zm ?_|fail));refine Need.mk ⟨⟨de,de,de,trivial⟩,kr⟩ ?_;by_cases h8:((a,b,c):Sp)=(d,e,g)
 ·rw[aD h8];obtain ⟨e1,hh⟩:=fP h8;obtain ⟨e2,e3⟩:=fP hh;subst e1 e2 e3;refine Br.mkY rfl ?_;exact ZF
 rw[aC h8]
 refine Br.mkN (fun hh=>h8 (by
  injection hh with e1 hh;injection hh with e2 hh;injection hh with e3 _
  exact eC e1 (eC e2 e3))) ?_
 exact ZF
theorem aKa {p q:Rat} {k:Nat} (h1:(p.num*q.den).natAbs<10^k) (h2:(q.num*p.den).natAbs<10^k) (h0:q≠0):Sz k (p/q):=by
 have hq:q.num≠0:=fun h=>h0 (pO.1 h);have hp:(0:Int)<p.den:=by have:=p.den_pos;omega
 rw[Gb p q h0];rcases Int.lt_or_lt_of_ne hq with h | h
 ·have hd:(p.den:Int)*q.num<0:=Int.mul_neg_of_pos_of_neg hp h;rw[Cs _ _ hd];refine Xj om (by rwa [nV]) ?_;have:(-((p.den:Int)*q.num)).toNat=(q.num*p.den).natAbs:=by rw[bJ q.num];omega
  rwa [this]
 have hd:0<(p.den:Int)*q.num:=jP hp h;rw[lY _ _ hd];refine Xj om h1 ?_;have:((p.den:Int)*q.num).toNat=(q.num*p.den).natAbs:=by rw[bJ q.num];omega
 rwa [this]
theorem Sz.div {p q:Rat} {i j:Nat} (hp:Sz i p) (hq:Sz j q) (h0:q≠0):Sz (i+j) (p/q):=aKa (hp.cross hq).1 (hp.cross hq).2.1 h0
section
variable {p q:Rat}
end
section
variable {l:List (Bx)} {i:Nat}
end
def Wt (k:Nat) (q:Rat):Prop:=q.num.natAbs*q.den<10^k
theorem aEc (n:Int) {d:Nat} (hd:d≠0):(mkRat n d).num.natAbs<=n.natAbs/\(mkRat n d).den<=d:=by
 rw[Rat.num_mkRat,aC hd,Rat.den_mkRat,aC hd];exact ⟨Bw _ _,fA _ _⟩
theorem Wt.sub {p q:Rat} {k:Nat} (hp:Wt k p) (hq:Wt k q) (sp:p.den<10^k) (sq:q.den<10^k):Wt (3*k+1) (p-q):=by
 unfold Wt at hp hq ⊢;rw[Fz];obtain ⟨h1,h2⟩:=aEc (p.num*q.den-q.num*p.den) (So p q);refine bX (jY h1 h2) ?_;have e1:(p.num*q.den-q.num*p.den).natAbs<=p.num.natAbs*q.den+q.num.natAbs*p.den:=by
  refine bL (Int.natAbs_sub_le _ _) ?_;rw[dQ,dQ,dC,dC];exact aN _
 refine bX (bQ _ e1) ?_;have e2:(p.num.natAbs*q.den+q.num.natAbs*p.den)*(p.den*q.den)=(p.num.natAbs*p.den)*(q.den*q.den)+(q.num.natAbs*q.den)*(p.den*p.den):=by
  rw[cL];congr 1<;>ac_rfl
 rw[e2];have a1:(p.num.natAbs*p.den)*(q.den*q.den)<10^k*(10^k*10^k):=eL hp (eL sq sq);have a2:(q.num.natAbs*q.den)*(p.den*p.den)<10^k*(10^k*10^k):=eL hq (eL sp sp);have e3:10^ (3*k+1)=10*(10^k*(10^k*10^k)):=by
  rw[<- sO,<- sO,eD,fL];congr 2;omega
 rw[e3];omega
def rgP (a b:Bx):Prop:=(cmpQ a b).2=0/\(cmpQ a b).1<=0
instance (a b:Bx):Decidable (rgP a b):=Cp
section
variable {lo hi most:Rat}
end
section
variable {α:Type} [DecidableEq α]
end
theorem lW {P:Program} {c c':Con} (hc:aO P c) (hf:c'.f=c.f) (hfr:c'.fresh=c.fresh) (hl:(c'.lin,c'.own,c'.hp)=(none,none,none)) (h:∀args K,c'.cl args K->c.cl args K):aO P c':=
 Uv hl (by rw[hf];exact hc.1) fun args K h'=>by
  have:=hc.2.1 args K (h args K h');rwa [hf,hfr]
def c17n:Con:=aR 200 true fun args K=>match args with
 | [.str a,.str b]=>Alt (Has (fun r=>addQ a b=(r,0)) fun r=>K (.tup [S r,I 0])) (K (.tup [S (addQ a b).1,I (addQ a b).2]))
 | _=>False
theorem k17n:aO Tp c17n:=lW k17 rfl rfl rfl fun args K h=>by
 simp only[c17n] at h;split at h
 ·rcases h.or with h | h
  ·obtain ⟨r,e,h⟩:=h.ex;show K _;rw[e];exact h
  exact h
 cases h
def c20n:Con:=aR 192 true fun args K=>match args with
 | [.str a,.str b]=>Alt (Has (fun r=>subQ a b=(r,0)) fun r=>K (.tup [S r,I 0])) (K (.tup [S (subQ a b).1,I (subQ a b).2]))
 | _=>False
theorem k20n:aO Tp c20n:=lW k20 rfl rfl rfl fun args K h=>by
 simp only[c20n] at h;split at h
 ·rcases h.or with h | h
  ·obtain ⟨r,e,h⟩:=h.ex;show K _;rw[e];exact h
  exact h
 cases h
def c19n:Con:=aR 193 true fun args K=>match args with
 | [.str a,.str b]=>Alt (Has (fun r=>mulQ a b=(r,0)) fun r=>K (.tup [S r,I 0])) (K (.tup [S (mulQ a b).1,I (mulQ a b).2]))
 | _=>False
theorem k19n:aO Tp c19n:=lW k19 rfl rfl rfl fun args K h=>by
 simp only[c19n] at h;split at h
 ·rcases h.or with h | h
  ·obtain ⟨r,e,h⟩:=h.ex;show K _;rw[e];exact h
  exact h
 cases h
def c14n:Con:=aR 150 true fun args K=>match args with
 | [.str a,.str b]=>Alt (Has (fun r=>divQ a b=(r,0)) fun r=>K (.tup [S r,I 0])) (K (.tup [S (divQ a b).1,I (divQ a b).2]))
 | _=>False
theorem k14n:aO Tp c14n:=lW k14 rfl rfl rfl fun args K h=>by
 simp only[c14n] at h;split at h
 ·rcases h.or with h | h
  ·obtain ⟨r,e,h⟩:=h.ex;show K _;rw[e];exact h
  exact h
 cases h
def c39n:Con:=aR 221 true fun args K=>match args with
 | [.str a,.str b]=>Alt (Has (fun r=>addQ a b=(r,0)) fun r=>K (.tup [S r,I 0])) (K (.tup [S (addQ a b).1,I (addQ a b).2]))
 | _=>False
theorem k39n:aO Tp c39n:=lW k39 rfl rfl rfl fun args K h=>by
 simp only[c39n] at h;split at h
 ·rcases h.or with h | h
  ·obtain ⟨r,e,h⟩:=h.ex;show K _;rw[e];exact h
  exact h
 cases h
def c40n:Con:=aR 163 true fun args K=>match args with
 | [.str a,.str b]=>Alt (Has (fun r=>subQ a b=(r,0)) fun r=>K (.tup [S r,I 0])) (K (.tup [S (subQ a b).1,I (subQ a b).2]))
 | _=>False
theorem k40n:aO Tp c40n:=lW k40 rfl rfl rfl fun args K h=>by
 simp only[c40n] at h;split at h
 ·rcases h.or with h | h
  ·obtain ⟨r,e,h⟩:=h.ex;show K _;rw[e];exact h
  exact h
 cases h
def c41n:Con:=aR 166 true fun args K=>match args with
 | [.str a,.str b]=>Alt (Has (fun r=>mulQ a b=(r,0)) fun r=>K (.tup [S r,I 0])) (K (.tup [S (mulQ a b).1,I (mulQ a b).2]))
 | _=>False
theorem k41n:aO Tp c41n:=lW k41 rfl rfl rfl fun args K h=>by
 simp only[c41n] at h;split at h
 ·rcases h.or with h | h
  ·obtain ⟨r,e,h⟩:=h.ex;show K _;rw[e];exact h
  exact h
 cases h
def c42n:Con:=aR 130 true fun args K=>match args with
 | [.str a,.str b]=>Alt (Has (fun r=>divQ a b=(r,0)) fun r=>K (.tup [S r,I 0])) (K (.tup [S (divQ a b).1,I (divQ a b).2]))
 | _=>False
theorem k42n:aO Tp c42n:=lW k42 rfl rfl rfl fun args K h=>by
 simp only[c42n] at h;split at h
 ·rcases h.or with h | h
  ·obtain ⟨r,e,h⟩:=h.ex;show K _;rw[e];exact h
  exact h
 cases h
def c38n:Con:=aR 254 true fun args K=>match args with
 | [.str a,.str b]=>Alt (Has (fun r=>cmpQ a b=(r,0)) fun r=>K (.tup [I r,I 0])) (K (.tup [I (cmpQ a b).1,I (cmpQ a b).2]))
 | _=>False
theorem k38n:aO Tp c38n:=lW k38 rfl rfl rfl fun args K h=>by
 simp only[c38n] at h;split at h
 ·rcases h.or with h | h
  ·obtain ⟨r,e,h⟩:=h.ex;show K _;rw[e];exact h
  exact h
 cases h
def uD (a b r:Sp):Prop:=chkS a=0/\chkS b=0/\subQ a.1 b.1=(r.1,0)/\subQ a.2.1 b.2.1=(r.2.1,0)/\subQ a.2.2 b.2.2=(r.2.2,0)
def Gr (a b c d r:Bx):Prop:=∃p q,mulQ a d=(p,0)/\mulQ b c=(q,0)/\subQ p q=(r,0)
def vB (a b r:Sp):Prop:=chkS a=0/\chkS b=0/\Gr a.2.1 a.2.2 b.2.1 b.2.2 r.1/\Gr a.2.2 a.1 b.2.2 b.1 r.2.1/\Gr a.1 a.2.1 b.1 b.2.1 r.2.2
def aAy (a b:Sp):Prop:=chkS a=0/\chkS b=0/\(cmpQ a.1 b.1).2=0/\(cmpQ a.2.1 b.2.1).2=0/\(cmpQ a.2.2 b.2.2).2=0
def cmpS (a b:Sp):Int:=if (cmpQ a.1 b.1).1≠0 then (cmpQ a.1 b.1).1 else if (cmpQ a.2.1 b.2.1).1≠0 then (cmpQ a.2.1 b.2.1).1 else (cmpQ a.2.2 b.2.2).1
def c3255:Con:=aR 255 true fun | [.agg [.str a,.str b,.str c],.agg [.str d,.str e,.str g]],K=>Need (chkS (a,b,c)=0/\chkS (d,e,g)=0) (K (I 0)) | _,_=>False
theorem aEz:aO Tp c3255:=by
 refine kQ {} Tryz.func255 Tryz.ntmps255 (kc aAx kn) fun _ _ h=>?_;split at h;case h_2=>cases h
 refine kb h.go ?_;replace h:=h.ok;obtain ⟨h1,h2⟩:=h;exact ZRx h2
def c3295:Con:=aR 295 true fun | [.agg [.str a,.str b,.str c]],K=>K (.agg [S a,S b,S c]) | _,_=>False
theorem aLh:aO Tp c3295:=by
 refine kQ {} Tryz.func295 Tryz.ntmps295 kn fun _ _ h=>?_;split at h;case h_2=>cases h
 refine kb h ?_;exact ZRF
def c3256:Con:=aR 256 true fun | [.agg [.str a,.str b,.str c],.agg [.str d,.str e,.str g],.clo 192 [] []],K=>Alt (Has (fun r:Sp=>uD (a,b,c) (d,e,g) r) fun r=>K (.tup [.agg [S r.1,S r.2.1,S r.2.2],I 0])) False | _,_=>False
theorem k3256:aO Tp c3256:=by
 refine kQ {} Tryz.func256 Tryz.ntmps256 (kc aAw (kc k20n (kc aLh kn))) fun _ _ h=>?_;split at h;case h_2=>cases h
 rename_i a b c d e g;obtain ⟨r,h0,hK⟩:=(h.or.resolve_right id).ex;refine kb hK ?_;have h:=h0;obtain ⟨r1,r2,r3⟩:=r;obtain ⟨_,_,h1,h2,h3⟩:=h;have h1:subQ a d=(r1,0):=h1;have h2:subQ b e=(r2,0):=h2;have h3:subQ c g=(r3,0):=h3;exact ZRF
def c3202:Con:=aR 202 true fun | [.agg [.str a,.str b,.str c],.agg [.str d,.str e,.str g]],K=>Alt (Has (fun r:Sp=>uD (a,b,c) (d,e,g) r) fun r=>K (.tup [.agg [S r.1,S r.2.1,S r.2.2],I 0])) False | _,_=>False
theorem k3202:aO Tp c3202:=by
 refine kQ {} Tryz.func202 Tryz.ntmps202 (kc aEz (kc k3256 kn)) fun _ _ h=>?_;split at h;case h_2=>cases h
 rename_i a b c d e g;obtain ⟨r,h0,hK⟩:=(h.or.resolve_right id).ex;refine kb hK ?_;have h:=h0;obtain ⟨r1,r2,r3⟩:=r;have hc:chkS (a,b,c)=0/\chkS (d,e,g)=0:=⟨h.1,h.2.1⟩;exact ZRF
def c3296:Con:=aR 296 true fun | [.agg [.str a,.str b,.str c],.agg [.str d,.str e,.str g]],K=>Alt (Has (fun r:Sp=>vB (a,b,c) (d,e,g) r) fun r=>K (.tup [.agg [S r.1,S r.2.1,S r.2.2],I 0])) False | _,_=>False
theorem k3296:aO Tp c3296:=by
 refine kQ {} Tryz.func296 Tryz.ntmps296 (kc aAw (kc k19n (kc k20n (kc aLh kn)))) fun _ _ h=>?_;split at h;case h_2=>cases h
 obtain ⟨r,h0,hK⟩:=(h.or.resolve_right id).ex;refine kb hK ?_;have h:=h0;obtain ⟨r1,r2,r3⟩:=r;obtain ⟨_,_,⟨p1,q1,x1,y1,z1⟩,⟨p2,q2,x2,y2,z2⟩,⟨p3,q3,x3,y3,z3⟩⟩:=h;dsimp only at x1 y1 z1 x2 y2 z2 x3 y3 z3;(repeat'((conv=>whnf);first|refine .h ?_|refine Za ?_|refine Zn ?_|refine Z0 ?_|refine Z1 ?_|refine Z2 ?_|apply pI|apply pJ|exact Zf|refine Zc ?_ ?_|refine Zy ?_|refine Zm ?_|fail));exact ZF
def c3257:Con:=aR 257 true fun | [.agg [.str a,.str b,.str c],.agg [.str d,.str e,.str g]],K=>Alt (Has (fun r:Sp=>vB (a,b,c) (d,e,g) r) fun r=>K (.tup [.agg [S r.1,S r.2.1,S r.2.2],I 0])) False | _,_=>False
theorem k3257:aO Tp c3257:=by
 refine kQ {} Tryz.func257 Tryz.ntmps257 (kc aEz (kc k3296 kn)) fun _ _ h=>?_;split at h;case h_2=>cases h
 rename_i a b c d e g;obtain ⟨r,h0,hK⟩:=(h.or.resolve_right id).ex;refine kb hK ?_;have h:=h0;obtain ⟨r1,r2,r3⟩:=r;have hc:chkS (a,b,c)=0/\chkS (d,e,g)=0:=⟨h.1,h.2.1⟩;exact ZRF
def c3203:Con:=aR 203 true fun | [.agg [.str a,.str b,.str c],.agg [.str d,.str e,.str g]],K=>Alt (Has (fun r:Sp=>vB (a,b,c) (d,e,g) r) fun r=>K (.tup [.bl (r=([48],[48],[48])) inferInstance,I 0])) False | _,_=>False
theorem k3203:aO Tp c3203:=by
 refine kQ {} Tryz.func203 Tryz.ntmps203 (kc k3257 kn) fun _ _ h=>?_;split at h;case h_2=>cases h
 obtain ⟨r,h0,hK⟩:=(h.or.resolve_right id).ex;refine kb hK ?_;have h:=h0;obtain ⟨r1,r2,r3⟩:=r;(repeat'((conv=>whnf);first|refine .h ?_|refine Zy ?_|fail));refine Need.mk ⟨⟨de,de,de,trivial⟩,kr⟩ ?_;(conv=>whnf);(repeat' first|exact trivial|rfl|apply aA)
 all_goals exact ⟨fun hh=>by
  injection hh with h1 hh;injection hh with h2 hh;injection hh with h3 _;exact eC h1 (eC h2 h3),fun hh=>by
  obtain ⟨h1,hh⟩:=fP hh;obtain ⟨h2,h3⟩:=fP hh
  rw[h1,h2,h3]⟩
def c3204:Con:=aR 204 true fun | [.agg [.str a,.str b,.str c],.agg [.str d,.str e,.str g]],K=>Need (aAy (a,b,c) (d,e,g)) (K (.tup [I (cmpS (a,b,c) (d,e,g)),I 0])) | _,_=>False
theorem k3204:aO Tp c3204:=by
 refine kQ {} Tryz.func204 Tryz.ntmps204 (kc aEz (kc aAw (kc k38n kn))) fun _ _ h=>?_;split at h;case h_2=>cases h
 rename_i a b c d e g;refine kb h.go ?_;replace h:=h.ok;obtain ⟨h1,h2,h3,h4,h5⟩:=h;have hc:chkS (a,b,c)=0/\chkS (d,e,g)=0:=⟨h1,h2⟩;dsimp only at h3 h4 h5;have x1:cmpQ a d=((cmpQ a d).1,0):=eC rfl h3;have x2:cmpQ b e=((cmpQ b e).1,0):=eC rfl h4;have x3:cmpQ c g=((cmpQ c g).1,0):=eC rfl h5;unfold cmpS;dsimp only;by_cases q1:(cmpQ a d).1=0
 ·rw[aC (bI q1)];by_cases q2:(cmpQ b e).1=0
  ·rw[aC (bI q2)];by_cases q3:(cmpQ c g).1=0
   ·rw[q3];exact ZHF
   exact ZHF
  rw[aD q2];exact ZHF
 rw[aD q1];exact ZHF
section
variable {p q:Rat} {k:Nat}
theorem aNm (p q:Rat):cmpI (p.num*q.den) (q.num*p.den)=cmpR p q:=by
 unfold cmpI cmpR;by_cases h1:p<q
 ·rw[aD h1,aD ((sB p q).1 h1)]
 rw[aC h1,aC (fun h=>h1 ((sB p q).2 h))];by_cases h2:q<p
 ·have:=(sB q p).1 h2;rw[aD h2,aC om]
 have h3:¬q.num*p.den<p.num*q.den:=fun h=>h2 ((sB q p).2 h);have h4:¬p.num*q.den<q.num*p.den:=fun h=>h1 ((sB p q).2 h);rw[aC h2,aD om]
end
def nS3 (v:V3):Sp:=(numS v.1,numS v.2.1,numS v.2.2)
def Sz3 (k:Nat) (v:V3):Prop:=Sz k v.1/\Sz k v.2.1/\Sz k v.2.2
theorem Iu {s:Sp} (h:okS s):s=nS3 (vS s)/\Sz3 36 (vS s):=by
 obtain ⟨⟨a,b,c⟩,z⟩:=xU h;exact ⟨eC a (eC b c),z⟩
theorem chkT {k:Nat} {v:V3} (h:Sz3 k v) (hk:0<k/\k<=300):chkS (nS3 v)=0:=qR.2 ⟨yB h.1 hk,yB h.2.1 hk,yB h.2.2 hk⟩
theorem wV {i j:Nat} {u v:V3} (hu:Sz3 i u) (hv:Sz3 j v) (hi:0<i) (hj:0<j) (h:i+j+1<=300):uD (nS3 u) (nS3 v) (nS3 (sub3 u v))/\Sz3 (i+j+1) (sub3 u v):=
 ⟨⟨chkT hu ⟨hi,om⟩,chkT hv ⟨hj,om⟩,pG hu.1 hv.1 hi hj h,pG hu.2.1 hv.2.1 hi hj h,pG hu.2.2 hv.2.2 hi hj h⟩,hu.1.sub hv.1,hu.2.1.sub hv.2.1,hu.2.2.sub hv.2.2⟩
def crs3 (d v:V3):V3:=(d.2.1*v.2.2-d.2.2*v.2.1,d.2.2*v.1-d.1*v.2.2,d.1*v.2.1-d.2.1*v.1)
theorem Xn {k:Nat} {a b c d:Rat} (ha:Sz k a) (hb:Sz k b) (hc:Sz k c) (hd:Sz k d) (h0:0<k) (h:(k+k)+(k+k)+1<=300):Gr (numS a) (numS b) (numS c) (numS d) (numS (a*d-b*c)):=
 ⟨numS (a*d),numS (b*c),pH ha hd h0 h0 om,pH hb hc h0 h0 om,pG (ha.mul hd) (hb.mul hc) om om h⟩
theorem Ss {k:Nat} {u v:V3} (hu:Sz3 k u) (hv:Sz3 k v) (h0:0<k) (h:(k+k)+(k+k)+1<=300):vB (nS3 u) (nS3 v) (nS3 (crs3 u v)):=
 ⟨chkT hu ⟨h0,om⟩,chkT hv ⟨h0,om⟩,Xn hu.2.1 hu.2.2 hv.2.1 hv.2.2 h0 h,Xn hu.2.2 hu.1 hv.2.2 hv.1 h0 h,Xn hu.1 hu.2.1 hv.1 hv.2.1 h0 h⟩
theorem vC {i j:Nat} {p q:Rat} (hp:Sz i p) (hq:Sz j q) (hi:0<i) (hj:0<j) (h:i+j<=300):cmpQ (numS p) (numS q)=(cmpR p q,0):=by
 rw[aK7 hp hq hi hj h,aNm]
theorem aE0 {i j:Nat} {u v:V3} (hu:Sz3 i u) (hv:Sz3 j v) (hi:0<i) (hj:0<j) (h:i+j<=300):aAy (nS3 u) (nS3 v)/\cmpS (nS3 u) (nS3 v)=lexR u v:=by
 have e1:=vC hu.1 hv.1 hi hj h;have e2:=vC hu.2.1 hv.2.1 hi hj h;have e3:=vC hu.2.2 hv.2.2 hi hj h;refine ⟨⟨chkT hu ⟨hi,om⟩,chkT hv ⟨hj,om⟩,?_,?_,?_⟩,?_⟩
 ·show (cmpQ (numS u.1) (numS v.1)).2=0;rw[e1]
 ·show (cmpQ (numS u.2.1) (numS v.2.1)).2=0;rw[e2]
 ·show (cmpQ (numS u.2.2) (numS v.2.2)).2=0;rw[e3]
 unfold cmpS lexR;show (if (cmpQ (numS u.1) (numS v.1)).1≠0 then (cmpQ (numS u.1) (numS v.1)).1 else if (cmpQ (numS u.2.1) (numS v.2.1)).1≠0 then (cmpQ (numS u.2.1) (numS v.2.1)).1 else (cmpQ (numS u.2.2) (numS v.2.2)).1)= _;rw[e1,e2,e3]
theorem Cb {q:Rat}:numS q= [48]↔q=0:=by
 rw[<- Bb];exact ⟨fun h=>by rw[<- gM q,h,gM],fun h=>by rw[h]⟩
theorem Su {u v:V3}:nS3 (crs3 u v)=([48],[48],[48])↔parR u v:=by
 unfold nS3 crs3 parR;rw[eF,eF,Cb,Cb,Cb]
theorem Xo {m:Mem} {s:Sp} (hm:memE m=0) (hs:okS s):∃u v p:Sp,uD m.2.2.2.2.1 m.2.2.2.1 u/\uD s m.2.2.2.1 v/\vB u v p/\aAy m.2.2.2.1 s/\aAy s m.2.2.2.2.1/\
  (metP m s↔p=([48],[48],[48])/\(cmpS m.2.2.2.1 s=0\/cmpS s m.2.2.2.2.1=0\/cmpS m.2.2.2.1 s=cmpS s m.2.2.2.2.1)):=by
 obtain ⟨_,hf,ht,_⟩:=gY hm;obtain ⟨ef,zf⟩:=Iu hf;obtain ⟨et,zt⟩:=Iu ht;obtain ⟨es,zs⟩:=Iu hs;obtain ⟨hu,zu⟩:=wV zt zf de de de;obtain ⟨hv,zv⟩:=wV zs zf de de de;have hp:=Ss zu zv de de;obtain ⟨h1,e1⟩:=aE0 zf zs de de de;obtain ⟨h2,e2⟩:=aE0 zs zt de de de;rw[<- et,<- ef] at hu;rw[<- es,<- ef] at hv;rw[<- es,<- ef] at h1 e1;rw[<- es,<- et] at h2 e2;refine ⟨_,_,_,hu,hv,hp,h1,h2,?_⟩;rw[Su,e1,e2];exact gQ
def c3153:Con:=aR 153 true fun | [.agg [.val (.int .i64 k),.val (.int .i64 f),.val (.int .i64 o),.str a,.str b,.str c,.str d,.str e,.str g,.val (.int .i64 w),.val (.int .i64 t)],.agg [.str x,.str y,.str z]],K=>Need (memE (k,f,o,(a,b,c),(d,e,g),w,t)=0/\okS (x,y,z)) (K (.tup [.bl (metP (k,f,o,(a,b,c),(d,e,g),w,t) (x,y,z)) Cp,I 0])) | _,_=>False
theorem k3153:aO Tp c3153:=by
 refine kQ {} Tryz.func153 Tryz.ntmps153 (kc aEy (kc aAx (kc aLg (kc k3202 (kc k3203 (kc k3204 kn)))))) fun _ _ h=>?_;split at h;case h_2=>cases h
 rename_i k f o a b c d e g w t x y z;have hh0:=h.ok;refine kb h.go ?_;obtain ⟨hm,hs⟩:=hh0;obtain ⟨⟨u1,u2,u3⟩,⟨v1,v2,v3⟩,p,hu,hv,hp,h1,h2,hq⟩:=Xo hm hs;obtain ⟨hc,hd⟩:=hs;have hd2:¬ ¬dS 36 (x,y,z):=bI hd;dsimp only at hu hv hp h1 h2 hq;generalize metP (k,f,o,(a,b,c),(d,e,g),w,t) (x,y,z)=M at hq ⊢;by_cases h3:p=([48],[48],[48])
 ·have h4:¬ ¬p=([48],[48],[48]):=bI h3;by_cases h5:cmpS (a,b,c) (x,y,z)=0
  ·(repeat refine ZH ?_);(conv=>whnf);(repeat' first|exact trivial|rfl|apply aA);exact hq.2 ⟨h3,.inl h5⟩
  by_cases h6:cmpS (x,y,z) (d,e,g)=0
  ·(repeat refine ZH ?_);(conv=>whnf);(repeat' first|exact trivial|rfl|apply aA);exact hq.2 ⟨h3,.inr (.inl h6)⟩
  (repeat refine ZH ?_);(conv=>whnf);(repeat' first|exact trivial|rfl|apply aA);exact ⟨fun hh=>hq.2 ⟨h3,.inr (.inr hh)⟩,fun hh=>((hq.1 hh).2.resolve_left h5).resolve_left h6⟩
 (repeat refine ZH ?_);(conv=>whnf);(repeat' first|exact trivial|rfl|apply aA);all_goals exact fun hh=>h3 (hq.1 hh).1
end RB
end

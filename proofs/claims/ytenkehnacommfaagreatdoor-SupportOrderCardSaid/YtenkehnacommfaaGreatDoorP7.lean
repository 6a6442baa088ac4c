/-
  Part 7: a symbolic executor over the model, contracts of functions and plain laws.
-/
import Derived.Test.YtenkehnacommfaaGreatDoorP6
import Derived.Test.YtenkehnacommfaaGreatDoorProg
import Derived.Shelf.Abstract
set_option linter.unusedVariables false
set_option linter.unusedSimpArgs false
set_option maxRecDepth 10000
set_option maxHeartbeats 80000000
noncomputable section
section
open Go Go.Proofs Go.Eng Go.Shelf IB Go.Lib Go.RowKit Tryz
namespace RB
def c3088:Con:=aR 88 true fun | [.agg [.str a,.str b,.str c]],K=>K (I (chkS (a,b,c))) | _,_=>False
theorem Tb:aO Tp c3088:=by
 refine kQ {} func88 ntmps88 (kc k44 kn) fun _ _ h=>?_;split at h;case h_2=>cases h
 rename_i a b c;refine kb h ?_;by_cases h1:chkQ a=0
 ·by_cases h2:chkQ b=0
  ·have e:chkS (a,b,c)=chkQ c:=by unfold chkS;rw[aC (fun h=>h h1),aC (fun h=>h h2)]
   rw[e];exact ZRF
  have e:chkS (a,b,c)=chkQ b:=by unfold chkS;rw[aC (fun h=>h h1),aD h2]
  rw[e];exact ZRF
 have e:chkS (a,b,c)=chkQ a:=by unfold chkS;rw[aD h1]
 rw[e];exact ZRF
def c3162:Con:=aR 162 true fun | [.agg [.str a,.str b,.str c],.agg [.str d,.str e,.str g]],K=>Need (chkS (a,b,c)=0/\chkS (d,e,g)=0) (K (I 0)) | _,_=>False
theorem aFm:aO Tp c3162:=by
 refine kQ {} func162 ntmps162 (kc Tb kn) fun _ _ h=>?_;split at h;case h_2=>cases h
 refine kb h.go ?_;replace h:=h.ok;obtain ⟨h1,h2⟩:=h;exact ZRx h2
def c3165:Con:=aR 165 true fun | [.val (.int .i64 x),.val (.int .i64 y),.val (.int .i64 z)],K=>Need (x=0/\y=0/\z=0) (K (I 0)) | _,_=>False
theorem Tc:aO Tp c3165:=by
 refine kQ {} func165 ntmps165 kn fun _ _ h=>?_;split at h;case h_2=>cases h
 refine kb h.go ?_;replace h:=h.ok;obtain ⟨h1,h2,h3⟩:=h;exact ZRx h3
def c3164:Con:=aR 164 true fun | [.str a,.str b,.str c,.val (.int .i64 x)],K=>Need (x=0) (K (.tup [.agg [S a,S b,S c],I 0])) | _,_=>False
theorem aA9:aO Tp c3164:=by
 refine kQ {} func164 ntmps164 kn fun _ _ h=>?_;split at h;case h_2=>cases h
 refine kb h.go ?_;replace h:=h.ok;exact ZRF
def Td:Con:=aR 128 true fun | [.agg [.str a,.str b,.str c],.agg [.str d,.str e,.str g]],K=>Alt (Has (fun r:Sp=>uD (a,b,c) (d,e,g) r) fun r=>K (.tup [.agg [S r.1,S r.2.1,S r.2.2],I 0])) False | _,_=>False
theorem aFn:aO Tp Td:=by
 refine kQ {} func128 ntmps128 (kc aFm (kc k40n (kc Tc (kc aA9 kn)))) fun _ _ h=>?_;split at h;case h_2=>cases h
 rename_i a b c d e g;obtain ⟨r,h0,hK⟩:=(h.or.resolve_right id).ex;refine kb hK ?_;have h:=h0;obtain ⟨r1,r2,r3⟩:=r;have hc:chkS (a,b,c)=0/\chkS (d,e,g)=0:=⟨h.1,h.2.1⟩;obtain ⟨_,_,h1,h2,h3⟩:=h;have h1:subQ a d=(r1,0):=h1;have h2:subQ b e=(r2,0):=h2;have h3:subQ c g=(r3,0):=h3;exact ZHF
def aBa (a b r:Sp):Prop:=chkS a=0/\chkS b=0/\addQ a.1 b.1=(r.1,0)/\addQ a.2.1 b.2.1=(r.2.1,0)/\addQ a.2.2 b.2.2=(r.2.2,0)
def aBb (a:Sp) (s:Bx) (r:Sp):Prop:=chkS a=0/\chkQ s=0/\mulQ a.1 s=(r.1,0)/\mulQ a.2.1 s=(r.2.1,0)/\mulQ a.2.2 s=(r.2.2,0)
def c3173:Con:=aR 173 true fun | [.agg [.str a,.str b,.str c],.agg [.str d,.str e,.str g]],K=>Alt (Has (fun r:Sp=>aBa (a,b,c) (d,e,g) r) fun r=>K (.tup [.agg [S r.1,S r.2.1,S r.2.2],I 0])) False | _,_=>False
theorem k3173:aO Tp c3173:=by
 refine kQ {} func173 ntmps173 (kc aFm (kc k39n (kc Tc (kc aA9 kn)))) fun _ _ h=>?_;split at h;case h_2=>cases h
 rename_i a b c d e g;obtain ⟨r,h0,hK⟩:=(h.or.resolve_right id).ex;refine kb hK ?_;have h:=h0;obtain ⟨r1,r2,r3⟩:=r;have hc:chkS (a,b,c)=0/\chkS (d,e,g)=0:=⟨h.1,h.2.1⟩;obtain ⟨_,_,h1,h2,h3⟩:=h;have h1:addQ a d=(r1,0):=h1;have h2:addQ b e=(r2,0):=h2;have h3:addQ c g=(r3,0):=h3;exact ZHF
def c3172:Con:=aR 172 true fun | [.agg [.str a,.str b,.str c],.str s],K=>Alt (Has (fun r:Sp=>aBb (a,b,c) s r) fun r=>K (.tup [.agg [S r.1,S r.2.1,S r.2.2],I 0])) False | _,_=>False
theorem k3172:aO Tp c3172:=by
 refine kQ {} func172 ntmps172 (kc Tb (kc k44 (kc k41n (kc Tc (kc aA9 kn))))) fun _ _ h=>?_;split at h;case h_2=>cases h
 rename_i a b c s;obtain ⟨r,h0,hK⟩:=(h.or.resolve_right id).ex;refine kb hK ?_;have h:=h0;obtain ⟨r1,r2,r3⟩:=r;obtain ⟨hc,hs,h1,h2,h3⟩:=h;have h1:mulQ a s=(r1,0):=h1;have h2:mulQ b s=(r2,0):=h2;have h3:mulQ c s=(r3,0):=h3;exact ZHF
def c3222:Con:=aR 222 true fun | [.str a,.str b,.str c,.str d],K=>Alt (Has (fun r:Bx=>Gr a b c d r) fun r=>K (.tup [S r,I 0])) False | _,_=>False
theorem k3222:aO Tp c3222:=by
 refine kQ {} func222 ntmps222 (kc k41n (kc Tc (kc k40n kn))) fun _ _ h=>?_;split at h;case h_2=>cases h
 obtain ⟨r,h0,hK⟩:=(h.or.resolve_right id).ex;refine kb hK ?_;have h:=h0;obtain ⟨p,q,h1,h2,h3⟩:=h;exact ZHF
def c3174:Con:=aR 174 true fun | [.agg [.str a,.str b,.str c],.agg [.str d,.str e,.str g]],K=>Alt (Has (fun r:Sp=>vB (a,b,c) (d,e,g) r) fun r=>K (.tup [.agg [S r.1,S r.2.1,S r.2.2],I 0])) False | _,_=>False
theorem k3174:aO Tp c3174:=by
 refine kQ {} func174 ntmps174 (kc aFm (kc k3222 (kc Tc (kc aA9 kn)))) fun _ _ h=>?_;split at h;case h_2=>cases h
 rename_i a b c d e g;obtain ⟨r,h0,hK⟩:=(h.or.resolve_right id).ex;refine kb hK ?_;have h:=h0;obtain ⟨r1,r2,r3⟩:=r;have hc:chkS (a,b,c)=0/\chkS (d,e,g)=0:=⟨h.1,h.2.1⟩;obtain ⟨_,_,h1,h2,h3⟩:=h;have h1:Gr b c e g r1:=h1;have h2:Gr c a g d r2:=h2;have h3:Gr a b d e r3:=h3;exact ZHF
def c3133:Con:=aR 133 true fun | [.agg [.str a,.str b,.str c],.agg [.str d,.str e,.str g]],K=>Alt (Has (fun r:Sp=>vB (a,b,c) (d,e,g) r) fun r=>K (.tup [.bl (r=([48],[48],[48])) inferInstance,I 0])) False | _,_=>False
theorem k3133:aO Tp c3133:=by
 refine kQ {} func133 ntmps133 (kc k3174 kn) fun _ _ h=>?_;split at h;case h_2=>cases h
 obtain ⟨r,h0,hK⟩:=(h.or.resolve_right id).ex;refine kb hK ?_;have h:=h0;obtain ⟨r1,r2,r3⟩:=r;(repeat'((conv=>whnf);first|refine .h ?_|refine Zm ?_|fail));refine Need.mk ⟨⟨de,de,de,trivial⟩,kr⟩ ?_;(conv=>whnf);(repeat' first|exact trivial|rfl|apply aA)
 all_goals exact ⟨fun hh=>by
  injection hh with h1 hh;injection hh with h2 hh;injection hh with h3 _;exact eC h1 (eC h2 h3),fun hh=>by
  obtain ⟨h1,hh⟩:=fP hh;obtain ⟨h2,h3⟩:=fP hh
  rw[h1,h2,h3]⟩
theorem dK_n {k:Nat} {a:Bx}:dK k (valQ a)↔(digs (pn (valQ a))).length<=k/\(pd (valQ a)).length<=k:=by
 unfold dK;rw[show digs (pn (valQ a))=decDigits (valQ a).num.natAbs from fN _]
theorem Pw (q:Rat):0<(pn q).length:=by
 unfold pn;rw[iZ];have h:0<(decDigits q.num.natAbs).length:=cB.2 (zL _);split
 ·rw[bS];omega
 exact h
def c3126:Con:=aR 126 true fun | [.str a],K=>Need (chkQ a=0) (K (.bl (¬dK 36 (valQ a)) Cp)) | _,_=>False
theorem k3126:aO Tp c3126:=by
 refine kQ {} func126 ntmps126 (kc aAv kn) fun _ _ h=>?_;split at h;case h_2=>cases h
 rename_i a;refine kb h.go ?_;replace h:=h.ok;have e:=Gq h;have e1:(ptQ a).1=pn (valQ a):=by rw[e]
 have e2:(ptQ a).2=pd (valQ a):=by rw[e]
 have hl:0<(ptQ a).1.length:=by rw[e1];exact Pw _
 have hM:dK 36 (valQ a)↔(digs (ptQ a).1).length<=36/\(ptQ a).2.length<=36:=by rw[e1,e2];exact dK_n
 generalize dK 36 (valQ a)=M at hM ⊢;by_cases hb:bE (ptQ a).1 0=45
 ·have ed:(digs (ptQ a).1).length=(ptQ a).1.length-1:=by rw[uU hl hb,bB]
  rw[ed] at hM;have hdr:(List.drop 1 (ptQ a).1).length=(ptQ a).1.length-1:=bB;by_cases k1:36<(ptQ a).1.length-1
  ·(repeat' first|refine ZR ?_|refine Zg fun _=>?_);(conv=>whnf);all_goals exact fun q=>by have:=(hM.1 q).1;omega
  (repeat' first|refine ZR ?_|refine Zg fun _=>?_);(conv=>whnf);all_goals exact ⟨fun q q2=>by have:=(hM.1 q2).2;omega,fun q=>by refine Int.not_le.1 fun q2=>q (hM.2 ⟨om,om⟩)⟩
 have ed:(digs (ptQ a).1).length=(ptQ a).1.length:=by rw[rY fun _=>hb];rfl
 rw[ed] at hM;by_cases k1:36<(ptQ a).1.length
 ·(repeat' first|refine ZR ?_|refine Zg fun _=>?_);(conv=>whnf);all_goals exact fun q=>by have:=(hM.1 q).1;omega
 (repeat' first|refine ZR ?_|refine Zg fun _=>?_);(conv=>whnf);all_goals exact ⟨fun q q2=>by have:=(hM.1 q2).2;omega,fun q=>by refine Int.not_le.1 fun q2=>q (hM.2 ⟨om,om⟩)⟩
def c3091:Con:=aR 91 true fun | [.agg [.str a,.str b,.str c]],K=>Need (chkS (a,b,c)=0) (K (.bl (¬dS 36 (a,b,c)) Cp)) | _,_=>False
theorem aMb:aO Tp c3091:=by
 refine kQ {} func91 ntmps91 (kc k3126 kn) fun _ _ h=>?_;split at h;case h_2=>cases h
 rename_i a b c;refine kb h.go ?_;replace h:=h.ok;obtain ⟨h1,h2,h3⟩:=qR.1 h;have h1:chkQ a=0:=h1;have h2:chkQ b=0:=h2;have h3:chkQ c=0:=h3;have e:dS 36 (a,b,c)↔dK 36 (valQ a)/\dK 36 (valQ b)/\dK 36 (valQ c):=gQ;generalize dS 36 (a,b,c)=M at e ⊢;by_cases k1:dK 36 (valQ a)
 ·by_cases k2:dK 36 (valQ b)
  ·(repeat refine ZR ?_);(conv=>whnf);all_goals exact ⟨fun q q2=>q (e.1 q2).2.2,fun q q2=>q (e.2 ⟨k1,k2,q2⟩)⟩
  (repeat refine ZR ?_);(conv=>whnf);all_goals exact fun q2=>k2 (e.1 q2).2.1
 (repeat refine ZR ?_);(conv=>whnf);all_goals exact fun q2=>k1 (e.1 q2).1
def c3090:Con:=aR 90 true fun | [.val (.int .i64 n)],K=>K (.bl (1<=n/\n<=1000) inferInstance) | _,_=>False
theorem k3090:aO Tp c3090:=by
 refine kQ {} func90 ntmps90 kn fun _ _ h=>?_;split at h;case h_2=>cases h
 rename_i n;refine kb h ?_;by_cases h1:1<=n
 ·(repeat refine ZR ?_);(conv=>whnf);all_goals exact ⟨fun h=>⟨h1,h⟩,fun h=>h.2⟩
 (repeat refine ZR ?_);(conv=>whnf);all_goals exact fun h=>h1 h.1
def Np:Con:=aR 51 true fun | [.agg [.val (.int .i64 k),.val (.int .i64 f),.val (.int .i64 o),.str a,.str b,.str c,.str d,.str e,.str g,.val (.int .i64 w),.val (.int .i64 t)]],K=>K (I (memE (k,f,o,(a,b,c),(d,e,g),w,t))) | _,_=>False
theorem aFo:aO Tp Np:=by
 refine kQ {} func51 ntmps51 (kc k3090 (kc Tb (kc aMb kn))) fun _ _ hY=>?_;split at hY;case h_2=>cases hY
 rename_i k f o a b c d e g w h;refine kb hY ?_;unfold memE;by_cases h1:k<1\/12<k
 ·rw[aD h1];by_cases h2:k<1
  ·exact ZRF
  exact ZRF
 rw[aC h1];by_cases h2:f<0\/o < -1
 ·rw[aD h2];by_cases h3:f<0
  ·exact ZRF
  exact ZRF
 rw[aC h2];by_cases h3:(w<1\/1000<w)\/(h<1\/1000<h)
 ·rw[aD h3];by_cases h4:w<1\/1000<w
  ·have h5:¬(1<=w/\w<=1000):=om;exact ZRF
  have h5:1<=w/\w<=1000:=om;have h6:¬(1<=h/\h<=1000):=om;exact ZRF
 rw[aC h3];have g1:1<=w/\w<=1000:=om;have g2:1<=h/\h<=1000:=om;by_cases h4:chkS (a,b,c)=0;case neg=>
  rw[aD h4];exact ZRF
 rw[aC (bI h4)];by_cases h5:chkS (d,e,g)=0;case neg=>
  rw[aD h5];exact ZRF
 rw[aC (bI h5)];by_cases h6:dS 36 (a,b,c);case neg=>
  rw[aD (.inl h6)];exact ZRF
 by_cases h7:dS 36 (d,e,g);case neg=>
  rw[aD (.inr h7)];exact ZRF
 rw[aC (fun hn=>hn.elim (fun hn=>hn h6) fun hn=>hn h7)];(repeat'((conv=>whnf);first|refine Zn ?_|refine Zm ?_|fail));refine Need.mk ⟨⟨de,de,de,trivial⟩,kr⟩ ?_;by_cases h8:((a,b,c):Sp)=(d,e,g)
 ·rw[aD h8];obtain ⟨e1,hh⟩:=fP h8;obtain ⟨e2,e3⟩:=fP hh;subst e1 e2 e3;refine Br.mkY rfl ?_;exact ZF
 rw[aC h8]
 refine Br.mkN (fun hh=>h8 (by
  injection hh with e1 hh;injection hh with e2 hh;injection hh with e3 _
  exact eC e1 (eC e2 e3))) ?_
 exact ZF
def c3132:Con:=aR 132 true fun | [.agg [.val (.int .i64 k),.val (.int .i64 f),.val (.int .i64 o),.str a,.str b,.str c,.str d,.str e,.str g,.val (.int .i64 w),.val (.int .i64 t)]],K=>Alt (Has (fun r:Sp=>memE (k,f,o,(a,b,c),(d,e,g),w,t)=0/\uD (d,e,g) (a,b,c) r) fun r=>K (.tup [.agg [S r.1,S r.2.1,S r.2.2],I 0])) False | _,_=>False
theorem k3132:aO Tp c3132:=by
 refine kQ {} func132 ntmps132 (kc aFo (kc aFn kn)) fun _ _ h=>?_;split at h;case h_2=>cases h
 obtain ⟨r,h0,hK⟩:=(h.or.resolve_right id).ex;refine kb hK ?_;have h:=h0;obtain ⟨r1,r2,r3⟩:=r;obtain ⟨h1,h2⟩:=h;exact ZHF
def wiQ (a b n:Bx):Prop:=(cmpQ a n).1<=0/\(cmpQ n b).1<=0\/0<=(cmpQ a n).1/\0<=(cmpQ n b).1
def c3134:Con:=aR 134 true fun | [.str a,.str b,.str n],K=>K (.bl (wiQ a b n) Cp) | _,_=>False
theorem k3134:aO Tp c3134:=by
 refine kQ {} func134 ntmps134 (kc k43 kn) fun _ _ h=>?_;split at h;case h_2=>cases h
 rename_i a b n;refine kb h ?_;have e:wiQ a b n↔((cmpQ a n).1<=0/\(cmpQ n b).1<=0\/0<=(cmpQ a n).1/\0<=(cmpQ n b).1):=gQ;generalize wiQ a b n=M at e ⊢;by_cases h1:(cmpQ a n).1<=0
 ·by_cases h2:(cmpQ n b).1<=0
  ·(repeat refine ZR ?_);(conv=>whnf);all_goals exact e.2 (.inl ⟨h1,h2⟩)
  by_cases h3:0<=(cmpQ a n).1
  ·(repeat refine ZR ?_);(conv=>whnf);all_goals exact ⟨fun q=>e.2 (.inr ⟨h3,q⟩),fun q=>om⟩
  (repeat refine ZR ?_);(conv=>whnf);all_goals exact fun q=>by rcases e.1 q with q | q<;>omega
 by_cases h3:0<=(cmpQ a n).1
 ·(repeat refine ZR ?_);(conv=>whnf);all_goals exact ⟨fun q=>e.2 (.inr ⟨h3,q⟩),fun q=>by rcases e.1 q with q | q<;>omega⟩
 omega
theorem Xr {a b n:Bx} {p q r:Rat} (ha:a=numS p/\Sz 36 p) (hb:b=numS q/\Sz 36 q) (hn:n=numS r/\Sz 36 r):wiQ a b n↔wiR p q r:=by
 obtain ⟨rfl,za⟩:=ha;obtain ⟨rfl,zb⟩:=hb;obtain ⟨rfl,zn⟩:=hn;unfold wiQ wiR;rw[vC za zn de de de,vC zn zb de de de]
theorem Te {m:Mem} {s:Sp} (hm:memE m=0) (hs:okS s):∃u v p:Sp,(memE m=0/\uD m.2.2.2.2.1 m.2.2.2.1 u)/\uD s m.2.2.2.1 v/\vB u v p/\
  (metP m s↔p=([48],[48],[48])/\wiQ m.2.2.2.1.1 m.2.2.2.2.1.1 s.1/\wiQ m.2.2.2.1.2.1 m.2.2.2.2.1.2.1 s.2.1/\wiQ m.2.2.2.1.2.2 m.2.2.2.2.1.2.2 s.2.2):=by
 obtain ⟨_,hf,ht,hne⟩:=gY hm;obtain ⟨ef,zf⟩:=Iu hf;obtain ⟨et,zt⟩:=Iu ht;obtain ⟨es,zs⟩:=Iu hs;obtain ⟨⟨f1,f2,f3⟩,zf1,zf2,zf3⟩:=xU hf;obtain ⟨⟨t1,t2,t3⟩,zt1,zt2,zt3⟩:=xU ht;obtain ⟨⟨s1,s2,s3⟩,zs1,zs2,zs3⟩:=xU hs;obtain ⟨hu,zu⟩:=wV zt zf de de de;obtain ⟨hv,zv⟩:=wV zs zf de de de;have hp:=Ss zu zv de de;rw[<- et,<- ef] at hu;rw[<- es,<- ef] at hv;refine ⟨_,_,_,⟨hm,hu⟩,hv,hp,?_⟩;rw[Su,Xr ⟨f1,zf1⟩ ⟨t1,zt1⟩ ⟨s1,zs1⟩,Xr ⟨f2,zf2⟩ ⟨t2,zt2⟩ ⟨s2,zs2⟩,Xr ⟨f3,zf3⟩ ⟨t3,zt3⟩ ⟨s3,zs3⟩];exact aNr hne
def c3097:Con:=aR 97 true fun | [.agg [.val (.int .i64 k),.val (.int .i64 f),.val (.int .i64 o),.str a,.str b,.str c,.str d,.str e,.str g,.val (.int .i64 w),.val (.int .i64 t)],.agg [.str x,.str y,.str z]],K=>Need (memE (k,f,o,(a,b,c),(d,e,g),w,t)=0/\okS (x,y,z)) (K (.tup [.bl (metP (k,f,o,(a,b,c),(d,e,g),w,t) (x,y,z)) Cp,I 0])) | _,_=>False
theorem aMc:aO Tp c3097:=by
 refine kQ {} func97 ntmps97 (kc k3132 (kc Tb (kc aMb (kc aFn (kc k3133 (kc k3134 kn)))))) fun _ _ h=>?_;split at h;case h_2=>cases h
 rename_i k f o a b c d e g w t x y z;have hh0:=h.ok;refine kb h.go ?_;obtain ⟨hm,hs⟩:=hh0;obtain ⟨⟨u1,u2,u3⟩,⟨v1,v2,v3⟩,p,hu,hv,hp,hq⟩:=Te hm hs;obtain ⟨hc,hd⟩:=hs;have hd2:¬ ¬dS 36 (x,y,z):=bI hd;dsimp only at hu hv hp hq;generalize metP (k,f,o,(a,b,c),(d,e,g),w,t) (x,y,z)=M at hq ⊢;by_cases h3:p=([48],[48],[48])
 ·by_cases h4:wiQ a d x
  ·by_cases h5:wiQ b e y
   ·(repeat refine ZH ?_);(conv=>whnf);(repeat' first|exact trivial|rfl|apply aA);all_goals exact ⟨fun h6=>hq.2 ⟨h3,h4,h5,h6⟩,fun h=>(hq.1 h).2.2.2⟩
   (repeat refine ZH ?_);(conv=>whnf);(repeat' first|exact trivial|rfl|apply aA);all_goals exact fun h=>h5 (hq.1 h).2.2.1
  (repeat refine ZH ?_);(conv=>whnf);(repeat' first|exact trivial|rfl|apply aA);all_goals exact fun h=>h4 (hq.1 h).2.1
 (repeat refine ZH ?_);(conv=>whnf);(repeat' first|exact trivial|rfl|apply aA);all_goals exact fun h=>h3 (hq.1 h).1
abbrev CL:HO:=.cells [I 0] 189
theorem b149s (a b r:Bx) (h:subQ a b=(r,0)):wA Tp [c20n] {} f149 [.ptr 0 0,.clo 192 [] [],S a,S b] [CL] (fun r' H'=>r'=S r/\H'= [CL]):=by
 (conv=>whnf);refine Need.mk rfl ?_;(repeat refine ZH ?_);(conv=>whnf);refine ⟨_,_,⟨rfl,rfl⟩,rfl,?_,rfl,rfl,?_⟩;all_goals (repeat' first|exact trivial|rfl|apply aA)
theorem b149m (a b r:Bx) (h:mulQ a b=(r,0)):wA Tp [c19n] {} f149 [.ptr 0 0,.clo 193 [] [],S a,S b] [CL] (fun r' H'=>r'=S r/\H'= [CL]):=by
 (conv=>whnf);refine Need.mk rfl ?_;(repeat refine ZH ?_);(conv=>whnf);refine ⟨_,_,⟨rfl,rfl⟩,rfl,?_,rfl,rfl,?_⟩;all_goals (repeat' first|exact trivial|rfl|apply aA)
theorem b149d (a b r:Bx) (h:divQ a b=(r,0)):wA Tp [c14n] {} f149 [.ptr 0 0,.clo 150 [] [],S a,S b] [CL] (fun r' H'=>r'=S r/\H'= [CL]):=by
 (conv=>whnf);refine Need.mk rfl ?_;(repeat refine ZH ?_);(conv=>whnf);refine ⟨_,_,⟨rfl,rfl⟩,rfl,?_,rfl,rfl,?_⟩;all_goals (repeat' first|exact trivial|rfl|apply aA)
theorem b149a (a b r:Bx) (h:addQ a b=(r,0)):wA Tp [c17n] {} f149 [.ptr 0 0,.clo 200 [] [],S a,S b] [CL] (fun r' H'=>r'=S r/\H'= [CL]):=by
 (conv=>whnf);refine Need.mk rfl ?_;(repeat refine ZH ?_);(conv=>whnf);refine ⟨_,_,⟨rfl,rfl⟩,rfl,?_,rfl,rfl,?_⟩;all_goals (repeat' first|exact trivial|rfl|apply aA)
def yP:Con:=Jx 149 189 fun args e0 K=>match args with
 | [.clo 192 [] [],.str a,.str b]=>Need (e0=0) (Alt (Has (fun r:Bx=>subQ a b=(r,0)) fun r=>K (S r) 0) False)
 | [.clo 193 [] [],.str a,.str b]=>Need (e0=0) (Alt (Has (fun r:Bx=>mulQ a b=(r,0)) fun r=>K (S r) 0) False)
 | [.clo 150 [] [],.str a,.str b]=>Need (e0=0) (Alt (Has (fun r:Bx=>divQ a b=(r,0)) fun r=>K (S r) 0) False)
 | [.clo 200 [] [],.str a,.str b]=>Need (e0=0) (Alt (Has (fun r:Bx=>addQ a b=(r,0)) fun r=>K (S r) 0) False)
 | _=>False
theorem Nh:aO Tp yP:=by
 refine Dl (enters_of func149 kr rfl) ?_;intro args e0 K h;split at h
 ·rename_i a b;obtain ⟨h1,hk⟩:=h;subst h1;rcases hk.or with hk | hk
  ·obtain ⟨r,hp,hK⟩:=hk.ex;exact ⟨_,_,hK,rfl,gV (by simp[k20n]) func149 (by simp[ntmps149]) (b149s a b r hp)⟩
  cases hk
 ·rename_i a b;obtain ⟨h1,hk⟩:=h;subst h1;rcases hk.or with hk | hk
  ·obtain ⟨r,hp,hK⟩:=hk.ex;exact ⟨_,_,hK,rfl,gV (by simp[k19n]) func149 (by simp[ntmps149]) (b149m a b r hp)⟩
  cases hk
 ·rename_i a b;obtain ⟨h1,hk⟩:=h;subst h1;rcases hk.or with hk | hk
  ·obtain ⟨r,hp,hK⟩:=hk.ex;exact ⟨_,_,hK,rfl,gV (by simp[k14n]) func149 (by simp[ntmps149]) (b149d a b r hp)⟩
  cases hk
 ·rename_i a b;obtain ⟨h1,hk⟩:=h;subst h1;rcases hk.or with hk | hk
  ·obtain ⟨r,hp,hK⟩:=hk.ex;exact ⟨_,_,hK,rfl,gV (by simp[k17n]) func149 (by simp[ntmps149]) (b149a a b r hp)⟩
  cases hk
 cases h
def wW (a b r:Sp):Prop:=subQ a.1 b.1=(r.1,0)/\subQ a.2.1 b.2.1=(r.2.1,0)/\subQ a.2.2 b.2.2=(r.2.2,0)
theorem b3147 (a b c d e g:Bx) (r:Sp) (h:wW (a,b,c) (d,e,g) r):wA Tp [yP] {} f147 [.ptr 0 0,.agg [S a,S b,S c],.agg [S d,S e,S g]] [CL] (fun r' H'=>r'= .agg [S r.1,S r.2.1,S r.2.2]/\H'= [CL]):=by
 obtain ⟨r1,r2,r3⟩:=r;obtain ⟨h1,h2,h3⟩:=h;dsimp only at h1 h2 h3;(conv=>whnf);refine Need.mk rfl ?_;(repeat'((conv=>whnf);first|refine .h ?_|refine Zn ?_|apply pI|apply pJ|(apply PinH.mk;apply aG;apply aG)|exact Zf|refine Zc ?_ ?_|fail));(conv=>whnf);refine ⟨_,_,⟨rfl,rfl⟩,rfl,?_,rfl,rfl,?_⟩;all_goals (repeat' first|exact trivial|rfl|apply aA)
def Ni:Con:=Jx 147 189 fun args e0 K=>match args with
 | [.agg [.str a,.str b,.str c],.agg [.str d,.str e,.str g]]=>Need (e0=0) (Alt (Has (fun r:Sp=>wW (a,b,c) (d,e,g) r) fun r=>K (.agg [S r.1,S r.2.1,S r.2.2]) 0) False)
 | _=>False
theorem k3147:aO Tp Ni:=by
 refine Dl (enters_of func147 kr rfl) ?_;intro args e0 K h;split at h
 ·rename_i a b c d e g;obtain ⟨h1,hk⟩:=h;subst h1;rcases hk.or with hk | hk
  ·obtain ⟨r,hp,hK⟩:=hk.ex;exact ⟨_,_,hK,rfl,gV (by simp[Nh]) func147 (by simp[ntmps147]) (b3147 a b c d e g r hp)⟩
  cases hk
 cases h
def kK (a b c d r:Bx):Prop:=∃p q,mulQ a d=(p,0)/\mulQ b c=(q,0)/\subQ p q=(r,0)
theorem b148x (a b c d e g r:Bx) (h:kK a b d e r):wA Tp [yP] {} f148 [.ptr 0 0,.agg [S a,S b,S c],.agg [S d,S e,S g],I 0,I 1] [CL] (fun r' H'=>r'=S r/\H'= [CL]):=by
 obtain ⟨p,q,h1,h2,h3⟩:=h;(conv=>whnf);refine Need.mk rfl ?_;(repeat'((conv=>whnf);first|refine .h ?_|refine Zn ?_|refine Z0 ?_|refine Z1 ?_|apply pI|apply pJ|(apply PinH.mk;apply aG;apply aG)|exact Zf|refine Zc ?_ ?_|fail));(conv=>whnf);refine ⟨_,_,⟨rfl,rfl⟩,rfl,?_,rfl,rfl,?_⟩;all_goals (repeat' first|exact trivial|rfl|apply aA)
theorem b148y (a b c d e g r:Bx) (h:kK b c e g r):wA Tp [yP] {} f148 [.ptr 0 0,.agg [S a,S b,S c],.agg [S d,S e,S g],I 1,I 2] [CL] (fun r' H'=>r'=S r/\H'= [CL]):=by
 obtain ⟨p,q,h1,h2,h3⟩:=h;(conv=>whnf);refine Need.mk rfl ?_;(repeat'((conv=>whnf);first|refine .h ?_|refine Zn ?_|refine Z1 ?_|refine Z2 ?_|apply pI|apply pJ|(apply PinH.mk;apply aG;apply aG)|exact Zf|refine Zc ?_ ?_|fail));(conv=>whnf);refine ⟨_,_,⟨rfl,rfl⟩,rfl,?_,rfl,rfl,?_⟩;all_goals (repeat' first|exact trivial|rfl|apply aA)
theorem b148z (a b c d e g r:Bx) (h:kK c a g d r):wA Tp [yP] {} f148 [.ptr 0 0,.agg [S a,S b,S c],.agg [S d,S e,S g],I 2,I 0] [CL] (fun r' H'=>r'=S r/\H'= [CL]):=by
 obtain ⟨p,q,h1,h2,h3⟩:=h;(conv=>whnf);refine Need.mk rfl ?_;(repeat'((conv=>whnf);first|refine .h ?_|refine Zn ?_|refine Z0 ?_|refine Z2 ?_|apply pI|apply pJ|(apply PinH.mk;apply aG;apply aG)|exact Zf|refine Zc ?_ ?_|fail));(conv=>whnf);refine ⟨_,_,⟨rfl,rfl⟩,rfl,?_,rfl,rfl,?_⟩;all_goals (repeat' first|exact trivial|rfl|apply aA)
def Nj:Con:=Jx 148 189 fun args e0 K=>match args with
 | [.agg [.str a,.str b,.str c],.agg [.str d,.str e,.str g],.val (.int .i64 0),.val (.int .i64 1)]=>Need (e0=0) (Alt (Has (fun r:Bx=>kK a b d e r) fun r=>K (S r) 0) False)
 | [.agg [.str a,.str b,.str c],.agg [.str d,.str e,.str g],.val (.int .i64 1),.val (.int .i64 2)]=>Need (e0=0) (Alt (Has (fun r:Bx=>kK b c e g r) fun r=>K (S r) 0) False)
 | [.agg [.str a,.str b,.str c],.agg [.str d,.str e,.str g],.val (.int .i64 2),.val (.int .i64 0)]=>Need (e0=0) (Alt (Has (fun r:Bx=>kK c a g d r) fun r=>K (S r) 0) False)
 | _=>False
theorem k3148:aO Tp Nj:=by
 refine Dl (enters_of func148 kr rfl) ?_;intro args e0 K h;split at h
 ·rename_i a b c d e g;obtain ⟨h1,hk⟩:=h;subst h1;rcases hk.or with hk | hk
  ·obtain ⟨r,hp,hK⟩:=hk.ex;exact ⟨_,_,hK,rfl,gV (by simp[Nh]) func148 (by simp[ntmps148]) (b148x a b c d e g r hp)⟩
  cases hk
 ·rename_i a b c d e g;obtain ⟨h1,hk⟩:=h;subst h1;rcases hk.or with hk | hk
  ·obtain ⟨r,hp,hK⟩:=hk.ex;exact ⟨_,_,hK,rfl,gV (by simp[Nh]) func148 (by simp[ntmps148]) (b148y a b c d e g r hp)⟩
  cases hk
 ·rename_i a b c d e g;obtain ⟨h1,hk⟩:=h;subst h1;rcases hk.or with hk | hk
  ·obtain ⟨r,hp,hK⟩:=hk.ex;exact ⟨_,_,hK,rfl,gV (by simp[Nh]) func148 (by simp[ntmps148]) (b148z a b c d e g r hp)⟩
  cases hk
 cases h
def alOK (a u:Sp) (s:Bx) (r:Sp):Prop:=∃p1 p2 p3,mulQ u.1 s=(p1,0)/\mulQ u.2.1 s=(p2,0)/\mulQ u.2.2 s=(p3,0)/\addQ a.1 p1=(r.1,0)/\addQ a.2.1 p2=(r.2.1,0)/\addQ a.2.2 p3=(r.2.2,0)
theorem b3151 (a b c d e g s:Bx) (r:Sp) (h:alOK (a,b,c) (d,e,g) s r):wA Tp [yP] {} f151 [.ptr 0 0,.agg [S a,S b,S c],.agg [S d,S e,S g],S s] [CL] (fun r' H'=>r'= .agg [S r.1,S r.2.1,S r.2.2]/\H'= [CL]):=by
 obtain ⟨r1,r2,r3⟩:=r;obtain ⟨p1,p2,p3,h1,h2,h3,h4,h5,h6⟩:=h;dsimp only at h1 h2 h3 h4 h5 h6;have hl: [a,b,c].length=3:=rfl;(conv=>whnf);refine Need.mk rfl ?_;(repeat' first|refine ZH ?_|refine Zg fun _=>?_);(conv=>whnf);refine ⟨_,_,⟨rfl,rfl⟩,rfl,?_,rfl,rfl,?_⟩;all_goals (repeat' first|exact trivial|rfl|apply aA)
def Nk:Con:=Jx 151 189 fun args e0 K=>match args with
 | [.agg [.str a,.str b,.str c],.agg [.str d,.str e,.str g],.str s]=>Need (e0=0) (Alt (Has (fun r:Sp=>alOK (a,b,c) (d,e,g) s r) fun r=>K (.agg [S r.1,S r.2.1,S r.2.2]) 0) False)
 | _=>False
theorem k3151:aO Tp Nk:=by
 refine Dl (enters_of func151 kr rfl) ?_;intro args e0 K h;split at h
 ·rename_i a b c d e g s;obtain ⟨h1,hk⟩:=h;subst h1;rcases hk.or with hk | hk
  ·obtain ⟨r,hp,hK⟩:=hk.ex;exact ⟨_,_,hK,rfl,gV (by simp[Nh]) func151 (by simp[ntmps151]) (b3151 a b c d e g s r hp)⟩
  cases hk
 cases h
def c3201:Con:=aR 201 true fun | [.str a,.str b],K=>K (I (cmpQ a b).1) | _,_=>False
theorem k3201:aO Tp c3201:=by
 refine kQ {} func201 ntmps201 (kc k38 kn) fun _ _ h=>?_;split at h;case h_2=>cases h
 refine kb h ?_;exact ZF
def Nl:Con:=aR 152 true fun | [.str a],K=>K (.bl (0<=(cmpQ a [48]).1/\(cmpQ a [49]).1<=0) inferInstance) | _,_=>False
theorem k3152:aO Tp Nl:=by
 refine kQ {} func152 ntmps152 (kc k3201 kn) fun _ _ h=>?_;split at h;case h_2=>cases h
 rename_i a;refine kb h ?_;by_cases h:0<=(cmpQ a [48]).1
 ·(repeat refine ZR ?_);(conv=>whnf);exact ⟨fun hh=>⟨h,hh⟩,fun hh=>hh.2⟩
 (repeat refine ZR ?_);(conv=>whnf);exact fun hh=>h hh.1
def Nm:Con:=aR 146 true fun | [.str a,.val (.int .i64 12)],K=>Need (chkQ a=0) (K (.bl (¬dK 12 (valQ a)) inferInstance)) | _,_=>False
theorem k3146:aO Tp Nm:=by
 refine kQ {} func146 ntmps146 (kc aAu (kc k88 kn)) fun _ _ h=>?_;split at h;case h_2=>cases h
 rename_i a;refine kb h.go ?_;replace h:=h.ok;have e:=Gq h;have hi:=Pr (k:=12) (a:=a);have e1:(digs (ptQ a).1).length=(digs (pn (valQ a))).length:=by rw[e]
 have e2:(ptQ a).2.length=(pd (valQ a)).length:=by rw[e]
 by_cases q:(12:Int)<(digs (ptQ a).1).length
 ·(repeat' first|refine ZR ?_|refine Zg fun _=>?_);(conv=>whnf);all_goals exact fun hd=>by have:=hi.2 hd;omega
 (repeat' first|refine ZR ?_|refine Zg fun _=>?_);(conv=>whnf);all_goals exact ⟨fun q2 hd=>by have:=hi.2 hd;omega,fun hd=>aH fun q2=>hd (hi.1 om)⟩
def mnS (u v:Sp) (i:Nat) (r:Bx):Prop:=match i with
 | 0=>kK u.1 u.2.1 v.1 v.2.1 r
 | 1=>kK u.2.1 u.2.2 v.2.1 v.2.2 r
 | _=>kK u.2.2 u.1 v.2.2 v.1 r
theorem Xp {k:Nat} {a b c d:Rat} (ha:Sz k a) (hb:Sz k b) (hc:Sz k c) (hd:Sz k d) (h0:0<k) (h:(k+k)+(k+k)+1<=300):kK (numS a) (numS b) (numS c) (numS d) (numS (a*d-b*c))/\Sz ((k+k)+(k+k)+1) (a*d-b*c):=
 ⟨⟨numS (a*d),numS (b*c),pH ha hd h0 h0 om,pH hb hc h0 h0 om,pG (ha.mul hd) (hb.mul hc) om om h⟩,(ha.mul hd).sub (hb.mul hc)⟩
theorem yQ {k:Nat} {u v:V3} (hu:Sz3 k u) (hv:Sz3 k v) (h0:0<k) (h:(k+k)+(k+k)+1<=300) (i:Nat):mnS (nS3 u) (nS3 v) i (numS (mnR u v i))/\Sz ((k+k)+(k+k)+1) (mnR u v i):=by
 match i with
 | 0=>exact Xp hu.1 hu.2.1 hv.1 hv.2.1 h0 h
 | 1=>exact Xp hu.2.1 hu.2.2 hv.2.1 hv.2.2 h0 h
 | _+2=>exact Xp hu.2.2 hu.1 hv.2.2 hv.1 h0 h
theorem Sv {i j k:Nat} {a u:V3} {s:Rat} (ha:Sz3 i a) (hu:Sz3 j u) (hs:Sz k s) (hi:0<i) (hj:0<j) (hk:0<k) (h:i+(j+k)+1<=300):alOK (nS3 a) (nS3 u) (numS s) (nS3 (aAe a u s)):=
 ⟨numS (u.1*s),numS (u.2.1*s),numS (u.2.2*s),pH hu.1 hs hj hk om,pH hu.2.1 hs hj hk om,pH hu.2.2 hs hj hk om,
  Bf ha.1 (hu.1.mul hs) hi om h,Bf ha.2.1 (hu.2.1.mul hs) hi om h,Bf ha.2.2 (hu.2.2.mul hs) hi om h⟩
theorem aAz {u v:V3}:nS3 u=nS3 v↔u=v:=by
 constructor
 ·intro h;unfold nS3 at h;rw[eF,eF] at h;obtain ⟨h1,h2,h3⟩:=h;have g:∀ {p q:Rat},numS p=numS q->p=q:=fun {p q} e=>by rw[<- gM p,e,gM]
  exact eC (g h1) (eC (g h2) (g h3))
 intro h;rw[h]
def shS2 (s:Bx):Prop:=0<=(cmpQ s [48]).1/\(cmpQ s [49]).1<=0
theorem aE1:numS (1:Rat)= [49]:=by decide+kernel
theorem Cy {k:Nat} {s:Rat} (h:Sz k s) (h0:0<k) (hk:k+1<=300):shS2 (numS s)↔Ct s:=by
 unfold shS2 Ct;rw[<- Bb,<- aE1,vC h sz0 h0 de om,vC h sz1 h0 de om]
def rdOK (F u G v w:Sp) (i:Nat) (r p s q t:Bx) (P Q:Sp):Prop:=
 mnS w v i p/\divQ p r=(s,0)/\mnS w u i q/\divQ q r=(t,0)/\alOK F u s P/\alOK G v t Q
theorem rd_ok {F u G v w:V3} (hF:Sz3 12 F) (hG:Sz3 12 G) (hu:Sz3 25 u) (hv:Sz3 25 v) (hw:Sz3 25 w) (i:Nat) (h:¬numS (mnR u v i)= [48]):
  ∃p s q t P Q,rdOK (nS3 F) (nS3 u) (nS3 G) (nS3 v) (nS3 w) i (numS (mnR u v i)) p s q t P Q/\(P=Q/\shS2 s/\shS2 t↔crAt F u G v w i):=by
 obtain ⟨_,zr⟩:=yQ hu hv de de i;obtain ⟨hp,zp⟩:=yQ hw hv de de i;obtain ⟨hq,zq⟩:=yQ hw hu de de i;have h0:mnR u v i≠0:=fun e=>h (Cb.2 e);refine ⟨_,_,_,_,_,_,⟨hp,Iq zp zr de de de h0,hq,Iq zq zr de de de h0,Sv hF hu (zp.div zr h0) de de de de,Sv hG hv (zq.div zr h0) de de de de⟩,?_⟩;rw[aAz,Cy (zp.div zr h0) de de,Cy (zq.div zr h0) de de];exact gQ
theorem dS_n {s:Sp} (h:okS s) (h2:dS 12 s):s=nS3 (vS s)/\Sz3 12 (vS s):=⟨(Iu h).1,Ox h2.1,Ox h2.2.1,Ox h2.2.2⟩
theorem Pt {k:Nat} {u v:V3} (hu:Sz3 k u) (hv:Sz3 k v) (h0:0<k) (h:k+k+1<=300):wW (nS3 u) (nS3 v) (nS3 (sub3 u v))/\Sz3 (k+k+1) (sub3 u v):=
 ⟨⟨pG hu.1 hv.1 h0 h0 h,pG hu.2.1 hv.2.1 h0 h0 h,pG hu.2.2 hv.2.2 h0 h0 h⟩,hu.1.sub hv.1,hu.2.1.sub hv.2.1,hu.2.2.sub hv.2.2⟩
theorem aE2 {m n:Mem} (h:crE m n=0):∃u v w:Sp,wW m.2.2.2.2.1 m.2.2.2.1 u/\wW n.2.2.2.2.1 n.2.2.2.1 v/\wW n.2.2.2.1 m.2.2.2.1 w/\∃r:Nat->Bx,(∀i,mnS u v i (r i))/\∃C:Nat->Prop,
  (∀i,¬r i= [48]->∃p s q t P Q,rdOK m.2.2.2.1 u n.2.2.2.1 v w i (r i) p s q t P Q/\(P=Q/\shS2 s/\shS2 t↔C i))/\
  (crP m n↔if ¬r 0= [48] then C 0 else if ¬r 1= [48] then C 1 else if ¬r 2= [48] then C 2 else False):=by
 unfold crE at h;split at h
 ·exact absurd h de
 rename_i h1;split at h
 ·exact absurd h de
 rename_i h2;have m0:memE m=0:=aH fun q=>h1 (.inl q);have n0:memE n=0:=aH fun q=>h1 (.inr q);obtain ⟨_,mf,mt,_⟩:=gY m0;obtain ⟨_,nf,nt,_⟩:=gY n0;obtain ⟨e1,z1⟩:=dS_n mf (aH fun q=>h2 (.inl (.inl (.inl q))));obtain ⟨e2,z2⟩:=dS_n mt (aH fun q=>h2 (.inl (.inl (.inr q))));obtain ⟨e3,z3⟩:=dS_n nf (aH fun q=>h2 (.inl (.inr q)));obtain ⟨e4,z4⟩:=dS_n nt (aH fun q=>h2 (.inr q));obtain ⟨hu,zu⟩:=Pt z2 z1 de de;obtain ⟨hv,zv⟩:=Pt z4 z3 de de;obtain ⟨hw,zw⟩:=Pt z3 z1 de de;rw[<- e2,<- e1] at hu;rw[<- e4,<- e3] at hv;rw[<- e3,<- e1] at hw;refine ⟨_,_,_,hu,hv,hw,fun i=>numS (mnR (sub3 (vS m.2.2.2.2.1) (vS m.2.2.2.1)) (sub3 (vS n.2.2.2.2.1) (vS n.2.2.2.1)) i),fun i=>(yQ zu zv de de i).1,fun i=>crAt (vS m.2.2.2.1) (sub3 (vS m.2.2.2.2.1) (vS m.2.2.2.1)) (vS n.2.2.2.1) (sub3 (vS n.2.2.2.2.1) (vS n.2.2.2.1)) (sub3 (vS n.2.2.2.1) (vS m.2.2.2.1)) i,fun i hi=>?_,?_⟩
 ·have:=rd_ok z1 z3 zu zv zw i hi;rwa [<- e1,<- e3] at this
 unfold crP crG;simp only[Cb]
theorem Sw {m n:Mem} (h1:memE m=0) (h2:memE n=0) (h:¬(dS 12 m.2.2.2.1/\dS 12 m.2.2.2.2.1/\dS 12 n.2.2.2.1/\dS 12 n.2.2.2.2.1)):crE m n=4:=by
 unfold crE;rw[aC (fun q=>q.elim (fun q=>q h1) fun q=>q h2),aD];apply aH;intro q;exact h ⟨aH fun x=>q (.inl (.inl (.inl x))),aH fun x=>q (.inl (.inl (.inr x))),aH fun x=>q (.inl (.inr x)),aH fun x=>q (.inr x)⟩
theorem Sx {m n:Mem} (h1:memE m=0) (h2:memE n=0) (h:dS 12 m.2.2.2.1/\dS 12 m.2.2.2.2.1/\dS 12 n.2.2.2.1/\dS 12 n.2.2.2.2.1):crE m n=0:=by
 unfold crE;rw[aC (fun q=>q.elim (fun q=>q h1) fun q=>q h2),aC];rintro (((q | q) | q) | q)
 ·exact q h.1
 ·exact q h.2.1
 ·exact q h.2.2.1
 exact q h.2.2.2
theorem Ib {m:Mem} (h:memE m=0):(chkQ m.2.2.2.1.1=0/\chkQ m.2.2.2.1.2.1=0/\chkQ m.2.2.2.1.2.2=0)/\chkQ m.2.2.2.2.1.1=0/\chkQ m.2.2.2.2.1.2.1=0/\chkQ m.2.2.2.2.1.2.2=0:=by
 obtain ⟨_,h1,h2,_⟩:=gY h;exact ⟨qR.1 h1.1,qR.1 h2.1⟩
theorem b119n (k f o:Int) (a b c d e g:Bx) (w t:Int) (k2 f2 o2:Int) (a2 b2 c2 d2 e2 g2:Bx) (w2 t2:Int) (h1:memE (k,f,o,(a,b,c),(d,e,g),w,t)=0) (h2:memE (k2,f2,o2,(a2,b2,c2),(d2,e2,g2),w2,t2)=0) (hd:¬(dS 12 (a,b,c)/\dS 12 (d,e,g)/\dS 12 (a2,b2,c2)/\dS 12 (d2,e2,g2))) (M:Prop) (hn:¬M):body Tp [Ng,Nm,Ni,Nj,yP,Nk,Nl] {} true f119 [.agg [I k,I f,I o,S a,S b,S c,S d,S e,S g,I w,I t],.agg [I k2,I f2,I o2,S a2,S b2,S c2,S d2,S e2,S g2,I w2,I t2]] (.tup [.agg [.str [],.str [],.str []],.bl M Cp,I 4]):=by
 have hl:([(a,b,c),(d,e,g),(a2,b2,c2),(d2,e2,g2)]:List (Bx × Bx × Bx)).length=4:=rfl;obtain ⟨⟨q1,q2,q3⟩,q4,q5,q6⟩:=Ib h1;obtain ⟨⟨q7,q8,q9⟩,q10,q11,q12⟩:=Ib h2;dsimp only at q1 q2 q3 q4 q5 q6 q7 q8 q9 q10 q11 q12;by_cases dd0:dK 12 (valQ a);case neg=>
  exact ZRx hn
 by_cases dd1:dK 12 (valQ b);case neg=>
  exact ZRx hn
 by_cases dd2:dK 12 (valQ c);case neg=>
  exact ZRx hn
 by_cases dd3:dK 12 (valQ d);case neg=>
  exact ZRx hn
 by_cases dd4:dK 12 (valQ e);case neg=>
  exact ZRx hn
 by_cases dd5:dK 12 (valQ g);case neg=>
  exact ZRx hn
 by_cases dd6:dK 12 (valQ a2);case neg=>
  exact ZRx hn
 by_cases dd7:dK 12 (valQ b2);case neg=>
  exact ZRx hn
 by_cases dd8:dK 12 (valQ c2);case neg=>
  exact ZRx hn
 by_cases dd9:dK 12 (valQ d2);case neg=>
  exact ZRx hn
 by_cases dd10:dK 12 (valQ e2);case neg=>
  exact ZRx hn
 by_cases dd11:dK 12 (valQ g2);case neg=>
  exact ZRx hn
 exact absurd ⟨⟨dd0,dd1,dd2⟩,⟨dd3,dd4,dd5⟩,⟨dd6,dd7,dd8⟩,dd9,dd10,dd11⟩ hd
theorem spL {a b c d e g:Bx}:((a,b,c):Sp)=(d,e,g)↔ [a,b,c]= [d,e,g]:=by
 constructor
 ·intro h;rw[eF,eF] at h;rw[h.1,h.2.1,h.2.2]
 intro e;injection e with e1 e;injection e with e2 e;injection e with e3 _;rw[e1,e2,e3]
theorem b119y (k f o:Int) (a b c d e g:Bx) (w t:Int) (k2 f2 o2:Int) (a2 b2 c2 d2 e2 g2:Bx) (w2 t2:Int) (h1:memE (k,f,o,(a,b,c),(d,e,g),w,t)=0) (h2:memE (k2,f2,o2,(a2,b2,c2),(d2,e2,g2),w2,t2)=0) (hd:dS 12 (a,b,c)/\dS 12 (d,e,g)/\dS 12 (a2,b2,c2)/\dS 12 (d2,e2,g2)) (M:Prop) (u v w3:Sp) (hu:wW (d,e,g) (a,b,c) u) (hv:wW (d2,e2,g2) (a2,b2,c2) v) (hw:wW (a2,b2,c2) (a,b,c) w3) (r:Nat->Bx) (hr:∀i,mnS u v i (r i)) (C:Nat->Prop)
  (hC:∀i,¬r i= [48]->∃p s q t P Q,rdOK (a,b,c) u (a2,b2,c2) v w3 i (r i) p s q t P Q/\(P=Q/\shS2 s/\shS2 t↔C i))
  (hB:M↔(if ¬r 0= [48] then C 0 else if ¬r 1= [48] then C 1 else if ¬r 2= [48] then C 2 else False)):∃X:Sp,body Tp [Ng,Nm,Ni,Nj,yP,Nk,Nl] {} true f119 [.agg [I k,I f,I o,S a,S b,S c,S d,S e,S g,I w,I t],.agg [I k2,I f2,I o2,S a2,S b2,S c2,S d2,S e2,S g2,I w2,I t2]] (.tup [.agg [S X.1,S X.2.1,S X.2.2],.bl M Cp,I 0]):=by
 obtain ⟨⟨q1,q2,q3⟩,q4,q5,q6⟩:=Ib h1;obtain ⟨⟨q7,q8,q9⟩,q10,q11,q12⟩:=Ib h2;dsimp only at q1 q2 q3 q4 q5 q6 q7 q8 q9 q10 q11 q12;obtain ⟨⟨dd0,dd1,dd2⟩,⟨dd3,dd4,dd5⟩,⟨dd6,dd7,dd8⟩,dd9,dd10,dd11⟩:=hd;have hl:([(a,b,c),(d,e,g),(a2,b2,c2),(d2,e2,g2)]:List (Bx × Bx × Bx)).length=4:=rfl;have hl3:([(0,1),(1,2),(2,0)]:List (Int × Int)).length=3:=rfl;obtain ⟨u1,u2,u3⟩:=u;obtain ⟨v1,v2,v3⟩:=v;obtain ⟨y1,y2,y3⟩:=w3;have r0:kK u1 u2 v1 v2 (r 0):=hr 0;have r1:kK u2 u3 v2 v3 (r 1):=hr 1;have r2:kK u3 u1 v3 v1 (r 2):=hr 2;have n0:=hC 0;have n1:=hC 1;have n2:=hC 2;clear hr hC;generalize r 0=x0 at*;generalize r 1=x1 at*;generalize r 2=x2 at*;by_cases z0:x0= [48];case' neg=>
  rw[aD z0] at hB;obtain ⟨p,s,q,t4,⟨P1,P2,P3⟩,⟨Q1,Q2,Q3⟩,⟨gg1,gg2,gg3,gg4,gg5,gg6⟩,hh⟩:=n0 z0;have gg1:kK y1 y2 v1 v2 p:=gg1;have gg3:kK y1 y2 u1 u2 q:=gg3
 case' pos=>
  rw[aC (bI z0)] at hB;by_cases z1:x1= [48]
 case' neg=>
  rw[aD z1] at hB;obtain ⟨p,s,q,t4,⟨P1,P2,P3⟩,⟨Q1,Q2,Q3⟩,⟨gg1,gg2,gg3,gg4,gg5,gg6⟩,hh⟩:=n1 z1;have gg1:kK y2 y3 v2 v3 p:=gg1;have gg3:kK y2 y3 u2 u3 q:=gg3
 case' pos=>
  rw[aC (bI z1)] at hB;by_cases z2:x2= [48]
 case' neg=>
  rw[aD z2] at hB;obtain ⟨p,s,q,t4,⟨P1,P2,P3⟩,⟨Q1,Q2,Q3⟩,⟨gg1,gg2,gg3,gg4,gg5,gg6⟩,hh⟩:=n2 z2;have gg1:kK y3 y1 v3 v1 p:=gg1;have gg3:kK y3 y1 u3 u1 q:=gg3
 case pos=>
  rw[aC (bI z2)] at hB;refine ⟨([],[],[]),?_⟩;(repeat'((conv=>whnf);first|refine .h ?_|refine Zg fun _=>?_|refine Zn ?_|refine Z0 ?_|refine Z1 ?_|refine Z2 ?_|refine Zj ?_|apply pI|apply pJ|(apply PinH.mk;apply aG;apply aG)|exact Zf|refine Zc ?_ ?_|refine Zl ?_|refine Zy ?_|refine Zm ?_|fail));exact ZFx hB.1
 all_goals
  have hM:M↔ [P1,P2,P3]= [Q1,Q2,Q3]/\shS2 s/\shS2 t4:=(hB.trans hh.symm).trans ⟨fun q=>⟨spL.1 q.1,q.2⟩,fun q=>⟨spL.2 q.1,q.2⟩⟩;obtain ⟨⟨X1,X2,X3⟩,hy,hn⟩:∃X:Sp,([P1,P2,P3]= [Q1,Q2,Q3]/\shS2 s/\shS2 t4->X=(P1,P2,P3))/\(¬([P1,P2,P3]= [Q1,Q2,Q3]/\shS2 s/\shS2 t4)->X=([],[],[])):=by
   by_cases hc: [P1,P2,P3]= [Q1,Q2,Q3]/\shS2 s/\shS2 t4
   ·exact ⟨_,fun _=>rfl,fun h=>absurd hc h⟩
   exact ⟨_,fun h=>absurd h hc,fun _=>rfl⟩
  refine ⟨(X1,X2,X3),?_⟩;clear hB hh n0 n1 n2;dsimp only;(repeat'((conv=>whnf);first|refine .h ?_|refine Zg fun _=>?_|refine Zn ?_|refine Z0 ?_|refine Z1 ?_|refine Z2 ?_|refine Zj ?_|apply pI|apply pJ|(apply PinH.mk;apply aG;apply aG)|exact Zf|refine Zc ?_ ?_|refine Zl ?_|refine Zy ?_|refine Zm ?_|fail));refine Need.mk ⟨⟨de,de,de,trivial⟩,kr⟩ ?_;clear gg1 gg2 gg3 gg4 gg5 gg6 hu hv hw q1 q2 q3 q4 q5 q6 q7 q8 q9 q10 q11 q12 dd0 dd1 dd2 dd3 dd4 dd5 dd6 dd7 dd8 dd9 dd10 dd11;by_cases y: [P1,P2,P3]= [Q1,Q2,Q3]
  ·by_cases s1:shS2 s
   ·have s1':0<=(cmpQ s [48]).1/\(cmpQ s [49]).1<=0:=s1;by_cases s2:shS2 t4
    ·have s2':0<=(cmpQ t4 [48]).1/\(cmpQ t4 [49]).1<=0:=s2;cases hy ⟨y,s1,s2⟩;exact ZHx (hM.2 ⟨y,s1,s2⟩)
    have s2':¬(0<=(cmpQ t4 [48]).1/\(cmpQ t4 [49]).1<=0):=s2;cases hn fun q=>s2 q.2.2;(repeat refine ZH ?_);(conv=>whnf);(repeat' first|exact trivial|rfl|apply aA);all_goals exact fun hm=>s2 (hM.1 hm).2.2
   have s1':¬(0<=(cmpQ s [48]).1/\(cmpQ s [49]).1<=0):=s1;cases hn fun q=>s1 q.2.1;(repeat refine ZH ?_);(conv=>whnf);(repeat' first|exact trivial|rfl|apply aA);all_goals exact fun hm=>s1 (hM.1 hm).2.1
  cases hn fun q=>y q.1;(repeat refine ZH ?_);(conv=>whnf);(repeat' first|exact trivial|rfl|apply aA);all_goals exact fun hm=>y (hM.1 hm).1
theorem b119e (k f o:Int) (a b c d e g:Bx) (w t:Int) (k2 f2 o2:Int) (a2 b2 c2 d2 e2 g2:Bx) (w2 t2:Int):∃X:Sp,body Tp [Ng,Nm,Ni,Nj,yP,Nk,Nl] {} true f119 [.agg [I k,I f,I o,S a,S b,S c,S d,S e,S g,I w,I t],.agg [I k2,I f2,I o2,S a2,S b2,S c2,S d2,S e2,S g2,I w2,I t2]] (.tup [.agg [S X.1,S X.2.1,S X.2.2],.bl (crB (k,f,o,(a,b,c),(d,e,g),w,t) (k2,f2,o2,(a2,b2,c2),(d2,e2,g2),w2,t2)) Cp,I (crE (k,f,o,(a,b,c),(d,e,g),w,t) (k2,f2,o2,(a2,b2,c2),(d2,e2,g2),w2,t2))]):=by
 by_cases h1:memE (k,f,o,(a,b,c),(d,e,g),w,t)=0
 ·by_cases h2:memE (k2,f2,o2,(a2,b2,c2),(d2,e2,g2),w2,t2)=0
  ·by_cases hd:dS 12 (a,b,c)/\dS 12 (d,e,g)/\dS 12 (a2,b2,c2)/\dS 12 (d2,e2,g2)
   ·have e0:=Sx h1 h2 hd;obtain ⟨u,v,w3,hu,hv,hw,r,hr,C,hC,hP⟩:=aE2 e0;rw[e0];exact b119y k f o a b c d e g w t k2 f2 o2 a2 b2 c2 d2 e2 g2 w2 t2 h1 h2 hd _ u v w3 hu hv hw r hr C hC ⟨fun hc=>hP.1 hc.2,fun hc=>⟨e0,hP.2 hc⟩⟩
   have e4:=Sw h1 h2 hd;refine ⟨([],[],[]),?_⟩;rw[e4];exact b119n k f o a b c d e g w t k2 f2 o2 a2 b2 c2 d2 e2 g2 w2 t2 h1 h2 hd _ fun hc=>absurd (e4.symm.trans hc.1) de
  have e1:crE (k,f,o,(a,b,c),(d,e,g),w,t) (k2,f2,o2,(a2,b2,c2),(d2,e2,g2),w2,t2)=1:=by unfold crE;rw[aD (.inr h2)]
  have hn:¬crB (k,f,o,(a,b,c),(d,e,g),w,t) (k2,f2,o2,(a2,b2,c2),(d2,e2,g2),w2,t2):=fun hc=>absurd (e1.symm.trans hc.1) de;refine ⟨([],[],[]),?_⟩;rw[e1];generalize crB (k,f,o,(a,b,c),(d,e,g),w,t) (k2,f2,o2,(a2,b2,c2),(d2,e2,g2),w2,t2)=M at hn ⊢;exact ZRx hn
 have e1:crE (k,f,o,(a,b,c),(d,e,g),w,t) (k2,f2,o2,(a2,b2,c2),(d2,e2,g2),w2,t2)=1:=by unfold crE;rw[aD (.inl h1)]
 have hn:¬crB (k,f,o,(a,b,c),(d,e,g),w,t) (k2,f2,o2,(a2,b2,c2),(d2,e2,g2),w2,t2):=fun hc=>absurd (e1.symm.trans hc.1) de;refine ⟨([],[],[]),?_⟩;rw[e1];generalize crB (k,f,o,(a,b,c),(d,e,g),w,t) (k2,f2,o2,(a2,b2,c2),(d2,e2,g2),w2,t2)=M at hn ⊢;exact ZRx hn
def crV (m n:Mem):Sp:=match m,n with
 | (k,f,o,(a,b,c),(d,e,g),w,t),(k2,f2,o2,(a2,b2,c2),(d2,e2,g2),w2,t2)=>Classical.epsilon fun X:Sp=>body Tp [Ng,Nm,Ni,Nj,yP,Nk,Nl] {} true f119 [.agg [I k,I f,I o,S a,S b,S c,S d,S e,S g,I w,I t],.agg [I k2,I f2,I o2,S a2,S b2,S c2,S d2,S e2,S g2,I w2,I t2]] (.tup [.agg [S X.1,S X.2.1,S X.2.2],.bl (crB (k,f,o,(a,b,c),(d,e,g),w,t) (k2,f2,o2,(a2,b2,c2),(d2,e2,g2),w2,t2)) Cp,I (crE (k,f,o,(a,b,c),(d,e,g),w,t) (k2,f2,o2,(a2,b2,c2),(d2,e2,g2),w2,t2))])
theorem b3119 (k f o:Int) (a b c d e g:Bx) (w t:Int) (k2 f2 o2:Int) (a2 b2 c2 d2 e2 g2:Bx) (w2 t2:Int):body Tp [Ng,Nm,Ni,Nj,yP,Nk,Nl] {} true f119 [.agg [I k,I f,I o,S a,S b,S c,S d,S e,S g,I w,I t],.agg [I k2,I f2,I o2,S a2,S b2,S c2,S d2,S e2,S g2,I w2,I t2]] (.tup [.agg [S (crV (k,f,o,(a,b,c),(d,e,g),w,t) (k2,f2,o2,(a2,b2,c2),(d2,e2,g2),w2,t2)).1,S (crV (k,f,o,(a,b,c),(d,e,g),w,t) (k2,f2,o2,(a2,b2,c2),(d2,e2,g2),w2,t2)).2.1,S (crV (k,f,o,(a,b,c),(d,e,g),w,t) (k2,f2,o2,(a2,b2,c2),(d2,e2,g2),w2,t2)).2.2],.bl (crB (k,f,o,(a,b,c),(d,e,g),w,t) (k2,f2,o2,(a2,b2,c2),(d2,e2,g2),w2,t2)) Cp,I (crE (k,f,o,(a,b,c),(d,e,g),w,t) (k2,f2,o2,(a2,b2,c2),(d2,e2,g2),w2,t2))]):=
 qW (b119e k f o a b c d e g w t k2 f2 o2 a2 b2 c2 d2 e2 g2 w2 t2)
def aLi:Con:=aR 119 true fun args K=>match args with | [.agg [.val (.int .i64 k),.val (.int .i64 f),.val (.int .i64 o),.str a,.str b,.str c,.str d,.str e,.str g,.val (.int .i64 w),.val (.int .i64 t)],.agg [.val (.int .i64 k2),.val (.int .i64 f2),.val (.int .i64 o2),.str a2,.str b2,.str c2,.str d2,.str e2,.str g2,.val (.int .i64 w2),.val (.int .i64 t2)]]=>K (.tup [.agg [S (crV (k,f,o,(a,b,c),(d,e,g),w,t) (k2,f2,o2,(a2,b2,c2),(d2,e2,g2),w2,t2)).1,S (crV (k,f,o,(a,b,c),(d,e,g),w,t) (k2,f2,o2,(a2,b2,c2),(d2,e2,g2),w2,t2)).2.1,S (crV (k,f,o,(a,b,c),(d,e,g),w,t) (k2,f2,o2,(a2,b2,c2),(d2,e2,g2),w2,t2)).2.2],.bl (crB (k,f,o,(a,b,c),(d,e,g),w,t) (k2,f2,o2,(a2,b2,c2),(d2,e2,g2),w2,t2)) Cp,I (crE (k,f,o,(a,b,c),(d,e,g),w,t) (k2,f2,o2,(a2,b2,c2),(d2,e2,g2),w2,t2))]) | _=>False
theorem k3119:aO Tp aLi:=by
 refine kO func119 fun args K h=>?_;simp only[aLi] at h;split at h
 ·rename_i k f o a b c d e g w t k2 f2 o2 a2 b2 c2 d2 e2 g2 w2 t2;exact ⟨_,h,triB func119 ntmps119 (by simp[aEy,k3146,k3147,k3148,Nh,k3151,k3152]) (b3119 k f o a b c d e g w t k2 f2 o2 a2 b2 c2 d2 e2 g2 w2 t2)⟩
 cases h
def c3220:Con:=aR 220 true fun | [.str a,.str b],K=>K (I (cmpQ a b).1) | _,_=>False
theorem k3220:aO Tp c3220:=by
 refine kQ {} func220 ntmps220 (kc k43 kn) fun _ _ h=>?_;split at h;case h_2=>cases h
 refine kb h ?_;exact ZF
def c3171:Con:=aR 171 true fun | [.str s],K=>K (.bl (shS2 s) Cp) | _,_=>False
theorem k3171:aO Tp c3171:=by
 refine kQ {} func171 ntmps171 (kc k3220 kn) fun _ _ h=>?_;split at h;case h_2=>cases h
 rename_i s;refine kb h ?_;have e:shS2 s↔(0<=(cmpQ s [48]).1/\(cmpQ s [49]).1<=0):=gQ;generalize shS2 s=M at e ⊢;by_cases h1:0<=(cmpQ s [48]).1
 ·(repeat refine ZR ?_);(conv=>whnf);all_goals exact ⟨fun q=>e.2 ⟨h1,q⟩,fun q=>(e.1 q).2⟩
 (repeat refine ZR ?_);(conv=>whnf);all_goals exact fun q=>h1 (e.1 q).1
def c3161:Con:=aR 161 true fun | [.str s],K=>Need (0<s.length) (K (I (digs s).length)) | _,_=>False
theorem k3161:aO Tp c3161:=by
 refine kQ {} func161 ntmps161 kn fun _ _ h=>?_;split at h;case h_2=>cases h
 rename_i s;refine kb h.go ?_;replace h:=h.ok;by_cases hb:bE s 0=45
 ·have ed:((digs s).length:Int)=(s.length:Int)-1:=by rw[uU h hb,bB];omega
  rw[ed];exact ZRF
 have ed:(digs s).length=s.length:=by rw[rY fun _=>hb];rfl
 rw[ed];exact ZRF
theorem aJf (q:Rat):digs (pd q)=pd q:=by
 have h:∀c∈decDigits q.den,cY c:=fun c hc=>oE _ c hc;show digs (decDigits q.den)=decDigits q.den;unfold digs;rw[aC];intro he;rcases hd:decDigits q.den with _ | ⟨c,r⟩
 ·exact absurd hd (zL _)
 rw[hd] at he h;have h1:c=45:=he;have h2:=h c (bW ..);subst h1
 revert h2
 decide
theorem aM7 (q:Rat):0<(pd q).length:=cB.2 (zL _)
theorem Xs {a:Bx} (h:chkQ a=0) (k:Nat):0<(ptQ a).1.length/\0<(ptQ a).2.length/\(dK k (valQ a)↔(digs (ptQ a).1).length<=k/\(digs (ptQ a).2).length<=k):=by
 rw[Gq h];refine ⟨Pw _,aM7 _,?_⟩;show dK k (valQ a)↔(digs (pn (valQ a))).length<=k/\(digs (pd (valQ a))).length<=k;rw[aJf];exact dK_n
def Tf:Con:=aR 127 true fun | [.agg [.str a,.str b,.str c]],K=>Need (chkS (a,b,c)=0) (K (.bl (¬dS 12 (a,b,c)) Cp)) | _,_=>False
theorem k3127:aO Tp Tf:=by
 refine kQ {} func127 ntmps127 (kc aAv (kc k3161 kn)) fun _ _ h=>?_;split at h;case h_2=>cases h
 rename_i a b c;refine kb h.go ?_;replace h:=h.ok;obtain ⟨h1,h2,h3⟩:=qR.1 h;have e:dS 12 (a,b,c)↔dK 12 (valQ (([a,b,c]:List (Bx)).getD 0 []))/\dK 12 (valQ (([a,b,c]:List (Bx)).getD 1 []))/\dK 12 (valQ (([a,b,c]:List (Bx)).getD 2 [])):=gQ;obtain ⟨a1,a2,a3⟩:=Xs (a:=(([a,b,c]:List (Bx)).getD 0 [])) h1 12;obtain ⟨b1,b2,b3⟩:=Xs (a:=(([a,b,c]:List (Bx)).getD 1 [])) h2 12;obtain ⟨c1,c2,c3⟩:=Xs (a:=(([a,b,c]:List (Bx)).getD 2 [])) h3 12;rw[a3,b3,c3] at e;clear a3 b3 c3 h h1 h2 h3;have hl:([a,b,c]:List (Bx)).length=3:=rfl;generalize dS 12 (a,b,c)=M at e ⊢;by_cases k1:12<(digs (ptQ (([a,b,c]:List (Bx)).getD 0 [])).1).length
 ·(repeat refine ZR ?_);(conv=>whnf);all_goals exact fun q=>by have:=(e.1 q).1;omega
 by_cases k2:12<(digs (ptQ (([a,b,c]:List (Bx)).getD 0 [])).2).length
 ·(repeat refine ZR ?_);(conv=>whnf);all_goals exact fun q=>by have:=(e.1 q).1;omega
 by_cases k3:12<(digs (ptQ (([a,b,c]:List (Bx)).getD 1 [])).1).length
 ·(repeat refine ZR ?_);(conv=>whnf);all_goals exact fun q=>by have:=(e.1 q).2.1;omega
 by_cases k4:12<(digs (ptQ (([a,b,c]:List (Bx)).getD 1 [])).2).length
 ·(repeat refine ZR ?_);(conv=>whnf);all_goals exact fun q=>by have:=(e.1 q).2.1;omega
 by_cases k5:12<(digs (ptQ (([a,b,c]:List (Bx)).getD 2 [])).1).length
 ·(repeat refine ZR ?_);(conv=>whnf);all_goals exact fun q=>by have:=(e.1 q).2.2;omega
 by_cases k6:12<(digs (ptQ (([a,b,c]:List (Bx)).getD 2 [])).2).length
 ·(repeat refine ZR ?_);(conv=>whnf);all_goals exact fun q=>by have:=(e.1 q).2.2;omega
 (repeat refine ZR ?_);(conv=>whnf);all_goals exact fun q=>q (e.2 ⟨⟨om,om⟩,⟨om,om⟩,om,om⟩)
def Tg:Con:=aR 129 true fun | [.str a,.str b,.str c,.str d],K=>Alt (Has (fun r:Bx=>kK a b c d r) fun r=>K (.tup [S r,I 0])) False | _,_=>False
theorem k3129:aO Tp Tg:=by
 refine kQ {} func129 ntmps129 (kc k41n (kc k40n kn)) fun _ _ h=>?_;split at h;case h_2=>cases h
 obtain ⟨r,h0,hK⟩:=(h.or.resolve_right id).ex;refine kb hK ?_;have h:=h0;obtain ⟨p,q,h1,h2,h3⟩:=h;exact ZHF
def crsP (F G u v:Sp) (t s:Bx) (R:Sp × Sp):Prop:=∃U V,aBb u t U/\aBb v s V/\aBa F U R.1/\aBa G V R.2
def crsB (t s:Bx) (R:Sp × Sp):Prop:=R.1=R.2/\shS2 t/\shS2 s
open Classical in
def crsX (t s:Bx) (R:Sp × Sp):Sp:=if crsB t s R then R.1 else ([],[],[])
def Th:Con:=aR 131 true fun | [.agg [.val (.int .i64 k),.val (.int .i64 f),.val (.int .i64 o),.str a,.str b,.str c,.str d,.str e,.str g,.val (.int .i64 w),.val (.int .i64 wt)],.agg [.val (.int .i64 k2),.val (.int .i64 f2),.val (.int .i64 o2),.str a2,.str b2,.str c2,.str d2,.str e2,.str g2,.val (.int .i64 w2),.val (.int .i64 hh2)],.agg [.str u1,.str u2,.str u3],.agg [.str v1,.str v2,.str v3],.str t,.str s],K=>Alt (Has (fun R:Sp × Sp=>crsP (a,b,c) (a2,b2,c2) (u1,u2,u3) (v1,v2,v3) t s R) fun R=>K (.tup [.agg [S (crsX t s R).1,S (crsX t s R).2.1,S (crsX t s R).2.2],.bl (crsB t s R) Cp,I 0])) False | _,_=>False
theorem k3131:aO Tp Th:=by
 refine kQ {} func131 ntmps131 (kc k3171 (kc k3172 (kc k3173 kn))) fun _ _ h=>?_;split at h;case h_2=>cases h
 rename_i k f o a b c d e g w wt k2 f2 o2 a2 b2 c2 d2 e2 g2 w2 hh2 u1 u2 u3 v1 v2 v3 t s;obtain ⟨R,hR,hK⟩:=(h.or.resolve_right id).ex;refine kb hK ?_;obtain ⟨⟨P1,P2,P3⟩,Q1,Q2,Q3⟩:=R;obtain ⟨⟨U1,U2,U3⟩,⟨V1,V2,V3⟩,g1,g2,g3,g4⟩:=hR;dsimp only at g3 g4;have hy:crsB t s ((P1,P2,P3),(Q1,Q2,Q3))->crsX t s ((P1,P2,P3),(Q1,Q2,Q3))=(P1,P2,P3):=fun h=>aD h;have hn:¬crsB t s ((P1,P2,P3),(Q1,Q2,Q3))->crsX t s ((P1,P2,P3),(Q1,Q2,Q3))=([],[],[]):=fun h=>aC h;have hB:crsB t s ((P1,P2,P3),(Q1,Q2,Q3))↔ [P1,P2,P3]= [Q1,Q2,Q3]/\shS2 t/\shS2 s:=by
  unfold crsB;rw[spL]
 generalize crsX t s ((P1,P2,P3),(Q1,Q2,Q3))=X at*;generalize crsB t s ((P1,P2,P3),(Q1,Q2,Q3))=B at*;by_cases z1:shS2 t
 ·by_cases z2:shS2 s
  ·(repeat'((conv=>whnf);first|refine .h ?_|refine Zm ?_|fail));refine Need.mk ⟨⟨de,de,de,trivial⟩,kr⟩ ?_;by_cases y: [P1,P2,P3]= [Q1,Q2,Q3]
   ·have hX:=hy (hB.2 ⟨y,z1,z2⟩);subst hX;have hb:=hB.2 ⟨y,z1,z2⟩;exact ZHx hb
   have hX:=hn fun q=>y (hB.1 q).1;subst hX;(repeat refine ZH ?_);(conv=>whnf);(repeat' first|exact trivial|rfl|apply aA);all_goals exact fun q=>y (hB.1 q).1
  have hX:=hn fun q=>z2 (hB.1 q).2.2;subst hX;(repeat refine ZH ?_);(conv=>whnf);(repeat' first|exact trivial|rfl|apply aA);all_goals exact fun q=>z2 (hB.1 q).2.2
 have hX:=hn fun q=>z1 (hB.1 q).2.1;subst hX;(repeat refine ZH ?_);(conv=>whnf);(repeat' first|exact trivial|rfl|apply aA);all_goals exact fun q=>z1 (hB.1 q).2.1
theorem chk1 {k:Nat} {q:Rat} (h:Sz k q) (hk:0<k/\k<=300):chkQ (numS q)=0:=yB h hk
theorem aM8 {F u G v w:V3} (hF:Sz3 12 F) (hG:Sz3 12 G) (hu:Sz3 25 u) (hv:Sz3 25 v) (hw:Sz3 25 w) (i:Nat) (h:¬numS (mnR u v i)= [48]):
  ∃p s q t R,mnS (nS3 w) (nS3 v) i p/\divQ p (numS (mnR u v i))=(s,0)/\mnS (nS3 w) (nS3 u) i q/\divQ q (numS (mnR u v i))=(t,0)/\crsP (nS3 F) (nS3 G) (nS3 u) (nS3 v) s t R/\(crsB s t R↔crAt F u G v w i):=by
 obtain ⟨_,zr⟩:=yQ hu hv de de i;obtain ⟨hp,zp⟩:=yQ hw hv de de i;obtain ⟨hq,zq⟩:=yQ hw hu de de i;have h0:mnR u v i≠0:=fun e=>h (Cb.2 e);have zs:=zp.div zr h0;have zt:=zq.div zr h0;have sc:∀ {u:V3} {s:Rat},Sz3 25 u->Sz 202 s->aBb (nS3 u) (numS s) (nS3 (u.1*s,u.2.1*s,u.2.2*s))/\Sz3 227 (u.1*s,u.2.1*s,u.2.2*s):=fun {u s} hu hs=>
  ⟨⟨chkT hu de,chk1 hs de,pH hu.1 hs de de de,pH hu.2.1 hs de de de,pH hu.2.2 hs de de de⟩,hu.1.mul hs,hu.2.1.mul hs,hu.2.2.mul hs⟩
 have ad:∀ {F U:V3},Sz3 12 F->Sz3 227 U->aBa (nS3 F) (nS3 U) (nS3 (F.1+U.1,F.2.1+U.2.1,F.2.2+U.2.2)):=fun {F U} hF hU=>
  ⟨chkT hF de,chkT hU de,Bf hF.1 hU.1 de de de,Bf hF.2.1 hU.2.1 de de de,Bf hF.2.2 hU.2.2 de de de⟩
 obtain ⟨s1,y1⟩:=sc hu zs;obtain ⟨s2,y2⟩:=sc hv zt;refine ⟨_,_,_,_,(_,_),hp,Iq zp zr de de de h0,hq,Iq zq zr de de de h0,⟨_,_,s1,s2,ad hF y1,ad hG y2⟩,?_⟩;exact and_congr aAz (and_congr (Cy zs de de) (Cy zt de de))
theorem aDo {m n:Mem} (h:crE m n=0):∃u v w:Sp,uD m.2.2.2.2.1 m.2.2.2.1 u/\uD n.2.2.2.2.1 n.2.2.2.1 v/\uD n.2.2.2.1 m.2.2.2.1 w/\∃r:Nat->Bx,(∀i,mnS u v i (r i))/\∃C:Nat->Prop,
  (∀i,¬r i= [48]->∃p s q t R,mnS w v i p/\divQ p (r i)=(s,0)/\mnS w u i q/\divQ q (r i)=(t,0)/\crsP m.2.2.2.1 n.2.2.2.1 u v s t R/\(crsB s t R↔C i))/\
  (crP m n↔if ¬r 0= [48] then C 0 else if ¬r 1= [48] then C 1 else if ¬r 2= [48] then C 2 else False):=by
 unfold crE at h;split at h
 ·exact absurd h de
 rename_i h1;split at h
 ·exact absurd h de
 rename_i h2;have m0:memE m=0:=aH fun q=>h1 (.inl q);have n0:memE n=0:=aH fun q=>h1 (.inr q);obtain ⟨_,mf,mt,_⟩:=gY m0;obtain ⟨_,nf,nt,_⟩:=gY n0;obtain ⟨e1,z1⟩:=dS_n mf (aH fun q=>h2 (.inl (.inl (.inl q))));obtain ⟨e2,z2⟩:=dS_n mt (aH fun q=>h2 (.inl (.inl (.inr q))));obtain ⟨e3,z3⟩:=dS_n nf (aH fun q=>h2 (.inl (.inr q)));obtain ⟨e4,z4⟩:=dS_n nt (aH fun q=>h2 (.inr q));obtain ⟨hu,zu⟩:=wV z2 z1 de de de;obtain ⟨hv,zv⟩:=wV z4 z3 de de de;obtain ⟨hw,zw⟩:=wV z3 z1 de de de;rw[<- e2,<- e1] at hu;rw[<- e4,<- e3] at hv;rw[<- e3,<- e1] at hw;refine ⟨_,_,_,hu,hv,hw,fun i=>numS (mnR (sub3 (vS m.2.2.2.2.1) (vS m.2.2.2.1)) (sub3 (vS n.2.2.2.2.1) (vS n.2.2.2.1)) i),fun i=>(yQ zu zv de de i).1,fun i=>crAt (vS m.2.2.2.1) (sub3 (vS m.2.2.2.2.1) (vS m.2.2.2.1)) (vS n.2.2.2.1) (sub3 (vS n.2.2.2.2.1) (vS n.2.2.2.1)) (sub3 (vS n.2.2.2.1) (vS m.2.2.2.1)) i,fun i hi=>?_,?_⟩
 ·have:=aM8 z1 z3 zu zv zw i hi;rwa [<- e1,<- e3] at this
 unfold crP crG;simp only[Cb]
abbrev fourS (a b c d e g a2 b2 c2 d2 e2 g2:Bx):Prop:=(chkS (a,b,c)=0/\chkS (d,e,g)=0/\chkS (a2,b2,c2)=0/\chkS (d2,e2,g2)=0)
theorem Ti {k f o:Int} {a b c d e g:Bx} {w t:Int} {k2 f2 o2:Int} {a2 b2 c2 d2 e2 g2:Bx} {w2 t2:Int} (h1:memE (k,f,o,(a,b,c),(d,e,g),w,t)=0) (h2:memE (k2,f2,o2,(a2,b2,c2),(d2,e2,g2),w2,t2)=0):fourS a b c d e g a2 b2 c2 d2 e2 g2:=
 ⟨(gY h1).2.1.1,(gY h1).2.2.1.1,(gY h2).2.1.1,(gY h2).2.2.1.1⟩
theorem aM9 (k f o:Int) (a b c d e g:Bx) (w t:Int) (k2 f2 o2:Int) (a2 b2 c2 d2 e2 g2:Bx) (w2 t2:Int) (h1:memE (k,f,o,(a,b,c),(d,e,g),w,t)=0) (h2:memE (k2,f2,o2,(a2,b2,c2),(d2,e2,g2),w2,t2)=0) (hd:dS 12 (a,b,c)/\dS 12 (d,e,g)/\dS 12 (a2,b2,c2)/\dS 12 (d2,e2,g2)) (M:Prop) (u v w3:Sp) (hu:uD (d,e,g) (a,b,c) u) (hv:uD (d2,e2,g2) (a2,b2,c2) v) (hw:uD (a2,b2,c2) (a,b,c) w3) (r:Nat->Bx) (hr:∀i,mnS u v i (r i)) (C:Nat->Prop)
  (hC:∀i,¬r i= [48]->∃p s q t R,mnS w3 v i p/\divQ p (r i)=(s,0)/\mnS w3 u i q/\divQ q (r i)=(t,0)/\crsP (a,b,c) (a2,b2,c2) u v s t R/\(crsB s t R↔C i))
  (hB:M↔(if ¬r 0= [48] then C 0 else if ¬r 1= [48] then C 1 else if ¬r 2= [48] then C 2 else False)):∃X:Sp,body Tp [Np,Tf,Td,Tg,c42n,Th] {} true f94 [.agg [I k,I f,I o,S a,S b,S c,S d,S e,S g,I w,I t],.agg [I k2,I f2,I o2,S a2,S b2,S c2,S d2,S e2,S g2,I w2,I t2]] (.tup [.agg [S X.1,S X.2.1,S X.2.2],.bl M Cp,I 0]):=by
 obtain ⟨q1,q2,q3,q4⟩:=Ti h1 h2;obtain ⟨dd0,dd1,dd2,dd3⟩:=hd;have n0:=bI dd0;have n1:=bI dd1;have n2:=bI dd2;have n3:=bI dd3;obtain ⟨u1,u2,u3⟩:=u;obtain ⟨v1,v2,v3⟩:=v;obtain ⟨y1,y2,y3⟩:=w3;have r0:kK u1 u2 v1 v2 (r 0):=hr 0;have r1:kK u2 u3 v2 v3 (r 1):=hr 1;have r2:kK u3 u1 v3 v1 (r 2):=hr 2;have hl1:([u1,u2,u3]:List (Bx)).length=3:=rfl;have hl2:([v1,v2,v3]:List (Bx)).length=3:=rfl;have hl3:([y1,y2,y3]:List (Bx)).length=3:=rfl;by_cases z0:r 0= [48];case neg=>
  obtain ⟨p,s,q,t4,R,g1,g2,g3,g4,g5,g6⟩:=hC 0 z0;have g1:kK y1 y2 v1 v2 p:=g1;have g3:kK y1 y2 u1 u2 q:=g3;have hM:M↔crsB s t4 R:=by rw[hB,aD z0];exact g6.symm
  refine ⟨crsX s t4 R,?_⟩;clear hB hC hr r1 r2;generalize r 0=x0 at*;(repeat'((conv=>whnf);first|refine .h ?_|refine Za ?_|refine Zn ?_|refine Z0 ?_|refine Z1 ?_|apply pI|apply pJ|refine Zl ?_|refine Zy ?_|refine Zm ?_|fail));exact ZFx hM.symm
 by_cases z1:r 1= [48];case neg=>
  obtain ⟨p,s,q,t4,R,g1,g2,g3,g4,g5,g6⟩:=hC 1 z1;have g1:kK y2 y3 v2 v3 p:=g1;have g3:kK y2 y3 u2 u3 q:=g3;have hM:M↔crsB s t4 R:=by rw[hB,aC (bI z0),aD z1];exact g6.symm
  refine ⟨crsX s t4 R,?_⟩;clear hB hC hr r2;generalize r 0=x0 at*;generalize r 1=x1 at*;(repeat'((conv=>whnf);first|refine .h ?_|refine Za ?_|refine Zn ?_|refine Z0 ?_|refine Z1 ?_|refine Z2 ?_|apply pI|apply pJ|refine Zl ?_|refine Zy ?_|refine Zm ?_|fail));exact ZFx hM.symm
 by_cases z2:r 2= [48];case neg=>
  obtain ⟨p,s,q,t4,R,g1,g2,g3,g4,g5,g6⟩:=hC 2 z2;have g1:kK y3 y1 v3 v1 p:=g1;have g3:kK y3 y1 u3 u1 q:=g3;have hM:M↔crsB s t4 R:=by rw[hB,aC (bI z0),aC (bI z1),aD z2];exact g6.symm
  refine ⟨crsX s t4 R,?_⟩;clear hB hC hr;generalize r 0=x0 at*;generalize r 1=x1 at*;generalize r 2=x2 at*;(repeat'((conv=>whnf);first|refine .h ?_|refine Za ?_|refine Zn ?_|refine Z0 ?_|refine Z1 ?_|refine Z2 ?_|apply pI|apply pJ|refine Zl ?_|refine Zy ?_|refine Zm ?_|fail));exact ZFx hM.symm
 have hM:¬M:=by rw[hB,aC (bI z0),aC (bI z1),aC (bI z2)];exact id
 refine ⟨([],[],[]),?_⟩;clear hB hC hr;generalize r 0=x0 at*;generalize r 1=x1 at*;generalize r 2=x2 at*;(repeat'((conv=>whnf);first|refine .h ?_|refine Za ?_|refine Zn ?_|refine Z0 ?_|refine Z1 ?_|refine Z2 ?_|apply pI|apply pJ|refine Zl ?_|refine Zy ?_|refine Zm ?_|fail));exact ZFx hM
theorem aNa (k f o:Int) (a b c d e g:Bx) (w t:Int) (k2 f2 o2:Int) (a2 b2 c2 d2 e2 g2:Bx) (w2 t2:Int):∃X:Sp,body Tp [Np,Tf,Td,Tg,c42n,Th] {} true f94 [.agg [I k,I f,I o,S a,S b,S c,S d,S e,S g,I w,I t],.agg [I k2,I f2,I o2,S a2,S b2,S c2,S d2,S e2,S g2,I w2,I t2]] (.tup [.agg [S X.1,S X.2.1,S X.2.2],.bl (crB (k,f,o,(a,b,c),(d,e,g),w,t) (k2,f2,o2,(a2,b2,c2),(d2,e2,g2),w2,t2)) Cp,I (crE (k,f,o,(a,b,c),(d,e,g),w,t) (k2,f2,o2,(a2,b2,c2),(d2,e2,g2),w2,t2))]):=by
 by_cases h1:memE (k,f,o,(a,b,c),(d,e,g),w,t)=0
 ·by_cases h2:memE (k2,f2,o2,(a2,b2,c2),(d2,e2,g2),w2,t2)=0
  ·by_cases hd:dS 12 (a,b,c)/\dS 12 (d,e,g)/\dS 12 (a2,b2,c2)/\dS 12 (d2,e2,g2)
   ·have e0:=Sx h1 h2 hd;obtain ⟨u,v,w3,hu,hv,hw,r,hr,C,hC,hP⟩:=aDo e0;rw[e0];exact aM9 k f o a b c d e g w t k2 f2 o2 a2 b2 c2 d2 e2 g2 w2 t2 h1 h2 hd _ u v w3 hu hv hw r hr C hC ⟨fun hc=>hP.1 hc.2,fun hc=>⟨e0,hP.2 hc⟩⟩
   have e4:=Sw h1 h2 hd;refine ⟨([],[],[]),?_⟩;rw[e4];have hn:¬crB (k,f,o,(a,b,c),(d,e,g),w,t) (k2,f2,o2,(a2,b2,c2),(d2,e2,g2),w2,t2):=fun hc=>absurd (e4.symm.trans hc.1) de;clear e4;obtain ⟨q1,q2,q3,q4⟩:=Ti h1 h2;generalize crB (k,f,o,(a,b,c),(d,e,g),w,t) (k2,f2,o2,(a2,b2,c2),(d2,e2,g2),w2,t2)=M at hn ⊢;by_cases zz0:dS 12 (a,b,c);case neg=>
    exact ZRx hn
   have n0:=bI zz0;by_cases zz1:dS 12 (d,e,g);case neg=>
    exact ZRx hn
   have n1:=bI zz1;by_cases zz2:dS 12 (a2,b2,c2);case neg=>
    exact ZRx hn
   have n2:=bI zz2;have zz3:¬dS 12 (d2,e2,g2):=fun q=>hd ⟨zz0,zz1,zz2,q⟩;exact ZRx hn
  have e1:crE (k,f,o,(a,b,c),(d,e,g),w,t) (k2,f2,o2,(a2,b2,c2),(d2,e2,g2),w2,t2)=1:=by unfold crE;rw[aD (.inr h2)]
  have hn:¬crB (k,f,o,(a,b,c),(d,e,g),w,t) (k2,f2,o2,(a2,b2,c2),(d2,e2,g2),w2,t2):=fun hc=>absurd (e1.symm.trans hc.1) de;refine ⟨([],[],[]),?_⟩;rw[e1];generalize crB (k,f,o,(a,b,c),(d,e,g),w,t) (k2,f2,o2,(a2,b2,c2),(d2,e2,g2),w2,t2)=M at hn ⊢;exact ZRx hn
 have e1:crE (k,f,o,(a,b,c),(d,e,g),w,t) (k2,f2,o2,(a2,b2,c2),(d2,e2,g2),w2,t2)=1:=by unfold crE;rw[aD (.inl h1)]
 have hn:¬crB (k,f,o,(a,b,c),(d,e,g),w,t) (k2,f2,o2,(a2,b2,c2),(d2,e2,g2),w2,t2):=fun hc=>absurd (e1.symm.trans hc.1) de;refine ⟨([],[],[]),?_⟩;rw[e1];generalize crB (k,f,o,(a,b,c),(d,e,g),w,t) (k2,f2,o2,(a2,b2,c2),(d2,e2,g2),w2,t2)=M at hn ⊢;exact ZRx hn
def crV2 (m n:Mem):Sp:=match m,n with
 | (k,f,o,(a,b,c),(d,e,g),w,t),(k2,f2,o2,(a2,b2,c2),(d2,e2,g2),w2,t2)=>Classical.epsilon fun X:Sp=>body Tp [Np,Tf,Td,Tg,c42n,Th] {} true f94 [.agg [I k,I f,I o,S a,S b,S c,S d,S e,S g,I w,I t],.agg [I k2,I f2,I o2,S a2,S b2,S c2,S d2,S e2,S g2,I w2,I t2]] (.tup [.agg [S X.1,S X.2.1,S X.2.2],.bl (crB (k,f,o,(a,b,c),(d,e,g),w,t) (k2,f2,o2,(a2,b2,c2),(d2,e2,g2),w2,t2)) Cp,I (crE (k,f,o,(a,b,c),(d,e,g),w,t) (k2,f2,o2,(a2,b2,c2),(d2,e2,g2),w2,t2))])
theorem b3094 (k f o:Int) (a b c d e g:Bx) (w t:Int) (k2 f2 o2:Int) (a2 b2 c2 d2 e2 g2:Bx) (w2 t2:Int):body Tp [Np,Tf,Td,Tg,c42n,Th] {} true f94 [.agg [I k,I f,I o,S a,S b,S c,S d,S e,S g,I w,I t],.agg [I k2,I f2,I o2,S a2,S b2,S c2,S d2,S e2,S g2,I w2,I t2]] (.tup [.agg [S (crV2 (k,f,o,(a,b,c),(d,e,g),w,t) (k2,f2,o2,(a2,b2,c2),(d2,e2,g2),w2,t2)).1,S (crV2 (k,f,o,(a,b,c),(d,e,g),w,t) (k2,f2,o2,(a2,b2,c2),(d2,e2,g2),w2,t2)).2.1,S (crV2 (k,f,o,(a,b,c),(d,e,g),w,t) (k2,f2,o2,(a2,b2,c2),(d2,e2,g2),w2,t2)).2.2],.bl (crB (k,f,o,(a,b,c),(d,e,g),w,t) (k2,f2,o2,(a2,b2,c2),(d2,e2,g2),w2,t2)) Cp,I (crE (k,f,o,(a,b,c),(d,e,g),w,t) (k2,f2,o2,(a2,b2,c2),(d2,e2,g2),w2,t2))]):=
 qW (aNa k f o a b c d e g w t k2 f2 o2 a2 b2 c2 d2 e2 g2 w2 t2)
def aMd:Con:=aR 94 true fun args K=>match args with | [.agg [.val (.int .i64 k),.val (.int .i64 f),.val (.int .i64 o),.str a,.str b,.str c,.str d,.str e,.str g,.val (.int .i64 w),.val (.int .i64 t)],.agg [.val (.int .i64 k2),.val (.int .i64 f2),.val (.int .i64 o2),.str a2,.str b2,.str c2,.str d2,.str e2,.str g2,.val (.int .i64 w2),.val (.int .i64 t2)]]=>K (.tup [.agg [S (crV2 (k,f,o,(a,b,c),(d,e,g),w,t) (k2,f2,o2,(a2,b2,c2),(d2,e2,g2),w2,t2)).1,S (crV2 (k,f,o,(a,b,c),(d,e,g),w,t) (k2,f2,o2,(a2,b2,c2),(d2,e2,g2),w2,t2)).2.1,S (crV2 (k,f,o,(a,b,c),(d,e,g),w,t) (k2,f2,o2,(a2,b2,c2),(d2,e2,g2),w2,t2)).2.2],.bl (crB (k,f,o,(a,b,c),(d,e,g),w,t) (k2,f2,o2,(a2,b2,c2),(d2,e2,g2),w2,t2)) Cp,I (crE (k,f,o,(a,b,c),(d,e,g),w,t) (k2,f2,o2,(a2,b2,c2),(d2,e2,g2),w2,t2))]) | _=>False
theorem k3094:aO Tp aMd:=by
 refine kO func94 fun args K h=>?_;simp only[aMd] at h;split at h
 ·rename_i k f o a b c d e g w t k2 f2 o2 a2 b2 c2 d2 e2 g2 w2 t2;exact ⟨_,h,triB func94 ntmps94 (by simp[aFo,k3127,aFn,k3129,k42n,k3131]) (b3094 k f o a b c d e g w t k2 f2 o2 a2 b2 c2 d2 e2 g2 w2 t2)⟩
 cases h
def c3123:Con:=aR 123 true fun | [.agg [.str a,.str b,.str c]],K=>K (.agg [S a,S b]) | _,_=>False
theorem k3123:aO Tp c3123:=by
 refine kQ {} func123 ntmps123 kn fun _ _ h=>?_;split at h;case h_2=>cases h
 refine kb h ?_;exact ZF
def aLj:Con:=aR 42 true fun | [.agg [.val (.int .i64 i),.str a,.str b,.str c,.str d,.str e,.str g,.val (.int .i64 u),.val (.int .i64 v)]],K=>K (.bl (¬(okS (a,b,c)/\okS (d,e,g))) Cp) | _,_=>False
theorem k3042:aO Tp aLj:=by
 refine kQ {} func42 ntmps42 (kc k3043 kn) fun _ _ h=>?_;split at h;case h_2=>cases h
 rename_i i a b c d e g u v;refine kb h ?_;by_cases h:okS (a,b,c)
 ·(repeat refine ZR ?_);(conv=>whnf);exact ⟨fun hn hh=>hn hh.2,fun hn hh=>hn ⟨h,hh⟩⟩
 (repeat refine ZR ?_);(conv=>whnf);exact fun hh=>h hh.1
def c3045:Con:=aR 45 true fun | [.agg [.val (.int .i64 k),.val (.int .i64 f),.val (.int .i64 o),.str a,.str b,.str c,.str d,.str e,.str g,.val (.int .i64 w),.val (.int .i64 t)]],K=>K (.bl (¬memE (k,f,o,(a,b,c),(d,e,g),w,t)=0) inferInstance) | _,_=>False
theorem k3045:aO Tp c3045:=by
 refine kQ {} func45 ntmps45 (kc aEy kn) fun _ _ h=>?_;split at h;case h_2=>cases h
 refine kb h ?_;(conv=>whnf)
def aLk:Con:=aR 83 true fun | [.val (.int .i64 k)],K=>K (.bl (rafP k) Cp) | _,_=>False
theorem aLl:aO Tp aLk:=by
 refine kQ {} func83 ntmps83 kn fun _ _ h=>?_;split at h;case h_2=>cases h
 rename_i k;refine kb h ?_;unfold rafP;by_cases h:1<=k
 ·(repeat refine ZR ?_);(conv=>whnf);exact ⟨fun hh=>⟨h,hh⟩,fun hh=>hh.2⟩
 (repeat refine ZR ?_);(conv=>whnf);exact fun hh=>h hh.1
def aLm:Con:=aR 84 true fun | [.val (.int .i64 k)],K=>K (.bl (hipP k) Cp) | _,_=>False
theorem aLn:aO Tp aLm:=by
 refine kQ {} func84 ntmps84 kn fun _ _ h=>?_;split at h;case h_2=>cases h
 rename_i k;refine kb h ?_;unfold hipP;by_cases h:k=6
 ·(repeat refine ZR ?_);(conv=>whnf);exact .inl h
 (repeat refine ZR ?_);(conv=>whnf);exact ⟨fun hh=>.inr hh,fun hh=>hh.resolve_left h⟩
def aLo:Con:=aR 79 true fun | [.val (.int .i64 k)],K=>K (.bl (sloP k) Cp) | _,_=>False
theorem aLp:aO Tp aLo:=by
 refine kQ {} func79 ntmps79 (kc aLl kn) fun _ _ h=>?_;split at h;case h_2=>cases h
 rename_i k;refine kb h ?_;by_cases h:rafP k
 ·(repeat refine ZR ?_);(conv=>whnf);exact .inl h
 (repeat refine ZR ?_);(conv=>whnf);exact ⟨fun hh=>.inr hh,fun hh=>hh.resolve_left h⟩
def c3120:Con:=aR 120 true fun | [.agg [.val (.int .i64 k),.val (.int .i64 f),.val (.int .i64 o),.str a,.str b,.str c,.str d,.str e,.str g,.val (.int .i64 w),.val (.int .i64 t)],.seq (.pair .str (.pair .str .str)) l],K=>Need (memE (k,f,o,(a,b,c),(d,e,g),w,t)=0/\∀s∈l,okS s) (K (.tup [.bl (∃s,s∈l/\metP (k,f,o,(a,b,c),(d,e,g),w,t) s) Cp,I 0])) | _,_=>False
theorem aLq:aO Tp c3120:=by
 refine kQ { asks:=[(0,[])] } func120 ntmps120 (kc k3153 kn) fun _ _ h=>?_;split at h;case h_2=>cases h
 rename_i k f o a b c d e g w t l;change List (Bx × Bx × Bx) at l;have hh0:=h.ok;refine kb h.go ?_;obtain ⟨h1,h2⟩:=hh0;have hm:∀i,i<l.length->okS (l.getD i ([],[],[])):=fun i hi=>h2 _ (by rw[aB,aM hi];exact cT hi);(repeat'((conv=>whnf);first|refine Zg fun _=>?_|fail));refine Ask.mk ⟨{ X:=Nat,pre:=fun i=>i<=l.length/\∀j,j<i->¬metP (k,f,o,(a,b,c),(d,e,g),w,t) (l.getD j ([],[],[])),mod:=fun i _=>[(12,I i)],heap:=fun i H=>H,mu:=fun i=>l.length-i },rfl,?_⟩;(repeat refine ZG ?_);refine ⟨⟨(0:Nat),⟨aK _,fun j hj=>om⟩,ZE⟩,fun (i:Nat) hi=>?_⟩;obtain ⟨hi,hp⟩:=hi;by_cases hlt:i<l.length
 ·have hc:memE (k,f,o,(a,b,c),(d,e,g),w,t)=0/\okS ((l.getD i ([],[],[])).1,(l.getD i ([],[],[])).2.1,(l.getD i ([],[],[])).2.2):=⟨h1,hm i hlt⟩;by_cases hb:metP (k,f,o,(a,b,c),(d,e,g),w,t) ((l.getD i ([],[],[])).1,(l.getD i ([],[],[])).2.1,(l.getD i ([],[],[])).2.2)
  ·have hx:∃s,s∈l/\metP (k,f,o,(a,b,c),(d,e,g),w,t) s:=⟨l.getD i ([],[],[]),by rw[aB,aM hlt];exact cT hlt,hb⟩;generalize (∃s,s∈l/\metP (k,f,o,(a,b,c),(d,e,g),w,t) s)=Q at hx ⊢;(repeat refine ZR ?_);(conv=>whnf);(repeat' first|exact trivial|rfl|apply aA);all_goals first | exact hx | exact ⟨fun _=>hx,fun _=>hb⟩
  (repeat refine ZR ?_);refine ⟨(i+1:Nat),by show l.length-(i+1)<l.length-i;omega,⟨hlt,fun j hj=>?_⟩,ZE⟩;by_cases e:j=i
  ·subst e;exact hb
  exact hp j om
 have hx:¬ ∃s,s∈l/\metP (k,f,o,(a,b,c),(d,e,g),w,t) s:=by
  rintro ⟨s,hs,hq⟩;obtain ⟨j,hj,rfl⟩:=dD hs;have:=hp j om;rw[aB,aM hj] at this;exact this hq
 generalize (∃s,s∈l/\metP (k,f,o,(a,b,c),(d,e,g),w,t) s)=Q at hx ⊢;exact ZRx hx
abbrev P2:=Bx × Bx
def c3258:Con:=aR 258 true fun | [.str a,.str b],K=>K (I (cmpQ a b).1) | _,_=>False
theorem aLv:aO Tp c3258:=by
 refine kQ {} func258 ntmps258 (kc k38 kn) fun _ _ h=>?_;split at h;case h_2=>cases h
 refine kb h ?_;exact ZF
def c3260:Con:=aR 260 true fun | [.str a,.str b],K=>Alt (Has (fun r:Bx=>subQ a b=(r,0)) fun r=>K (S r)) False | _,_=>False
theorem k3260:aO Tp c3260:=by
 refine kQ {} func260 ntmps260 (kc k20n kn) fun _ _ h=>?_;split at h;case h_2=>cases h
 obtain ⟨r,h0,hK⟩:=(h.or.resolve_right id).ex;refine kb hK ?_;have h:=h0;(repeat refine ZH ?_);(conv=>whnf)
def c3259:Con:=aR 259 true fun | [.str a,.str b],K=>Alt (Has (fun r:Bx=>mulQ a b=(r,0)) fun r=>K (S r)) False | _,_=>False
theorem k3259:aO Tp c3259:=by
 refine kQ {} func259 ntmps259 (kc k19n kn) fun _ _ h=>?_;split at h;case h_2=>cases h
 obtain ⟨r,h0,hK⟩:=(h.or.resolve_right id).ex;refine kb hK ?_;have h:=h0;(repeat refine ZH ?_);(conv=>whnf)
def trnOK (a b c:P2) (n:Int):Prop:=∃p1 p2 q1 q2 x y,subQ b.1 a.1=(p1,0)/\subQ c.2 a.2=(p2,0)/\subQ b.2 a.2=(q1,0)/\subQ c.1 a.1=(q2,0)/\mulQ p1 p2=(x,0)/\mulQ q1 q2=(y,0)/\n=(cmpQ x y).1
def aLw:Con:=aR 206 true fun | [.agg [.str a1,.str a2],.agg [.str b1,.str b2],.agg [.str d1,.str d2]],K=>Alt (Has (fun r:Int=>trnOK (a1,a2) (b1,b2) (d1,d2) r) fun r=>K (I r)) False | _,_=>False
theorem k3206:aO Tp aLw:=by
 refine kQ {} func206 ntmps206 (kc k3260 (kc k3259 (kc aLv kn))) fun _ _ h=>?_;split at h;case h_2=>cases h
 obtain ⟨r,h0,hK⟩:=(h.or.resolve_right id).ex;refine kb hK ?_;have h:=h0;obtain ⟨p1,p2,q1,q2,x,y,h1,h2,h3,h4,h5,h6,rfl⟩:=h;dsimp only at h1 h2 h3 h4;(repeat'((conv=>whnf);first|refine .h ?_|apply pI|apply pJ|fail));exact ZF
def ordS (p q:P2):Int:=if (cmpQ p.1 q.1).1≠0 then (cmpQ p.1 q.1).1 else (cmpQ p.2 q.2).1
def aLx:Con:=aR 209 true fun | [.agg [.str a1,.str a2],.agg [.str b1,.str b2]],K=>K (I (ordS (a1,a2) (b1,b2))) | _,_=>False
theorem aE7:aO Tp aLx:=by
 refine kQ {} func209 ntmps209 (kc aLv kn) fun _ _ h=>?_;split at h;case h_2=>cases h
 rename_i a1 a2 b1 b2;refine kb h ?_;by_cases h:(cmpQ a1 b1).1=0
 ·have e:ordS (a1,a2) (b1,b2)=(cmpQ a2 b2).1:=aC (bI h);rw[e];exact ZRF
 have e:ordS (a1,a2) (b1,b2)=(cmpQ a1 b1).1:=aD h;rw[e];exact ZRF
def loS (a b:P2):P2:=if 0<ordS a b then b else a
def hiS (a b:P2):P2:=if 0<ordS a b then a else b
def aLy:Con:=aR 207 true fun | [.agg [.str a1,.str a2,.str b1,.str b2]],K=>Alt (Has (fun r:P2=>r=loS (a1,a2) (b1,b2)) fun r=>K (.agg [S r.1,S r.2])) False | _,_=>False
theorem k3207:aO Tp aLy:=by
 refine kQ {} func207 ntmps207 (kc aE7 kn) fun _ _ h=>?_;split at h;case h_2=>cases h
 rename_i a1 a2 b1 b2;obtain ⟨r,h0,hK⟩:=(h.or.resolve_right id).ex;refine kb hK ?_;have h:=h0;by_cases hc:0<ordS (a1,a2) (b1,b2)
 ·have e:r=(b1,b2):=h.trans (aD hc);subst e;exact ZRF
 have e:r=(a1,a2):=h.trans (aC hc);subst e;exact ZRF
def aLz:Con:=aR 208 true fun | [.agg [.str a1,.str a2,.str b1,.str b2]],K=>Alt (Has (fun r:P2=>r=hiS (a1,a2) (b1,b2)) fun r=>K (.agg [S r.1,S r.2])) False | _,_=>False
theorem k3208:aO Tp aLz:=by
 refine kQ {} func208 ntmps208 (kc aE7 kn) fun _ _ h=>?_;split at h;case h_2=>cases h
 rename_i a1 a2 b1 b2;obtain ⟨r,h0,hK⟩:=(h.or.resolve_right id).ex;refine kb hK ?_;have h:=h0;by_cases hc:0<ordS (a1,a2) (b1,b2)
 ·have e:r=(a1,a2):=h.trans (aD hc);subst e;exact ZRF
 have e:r=(b1,b2):=h.trans (aC hc);subst e;exact ZRF
def mgS (a b q:P2) (t:Int):Int:=
 if t≠0 then 0 else 1-ordS (if 0<ordS q (loS a b) then q else loS a b) (if ordS q (hiS a b)<0 then q else hiS a b)
def mgOK (a b q:P2) (r:Int):Prop:=∃t,trnOK a b q t/\trnOK q q a 0/\trnOK q q b 0/\r=mgS a b q t
theorem pR (a b:Bx): -1<=(cmpQ a b).1/\(cmpQ a b).1<=1:=by
 have z:(-1:Int)<=0/\(0:Int)<=1:=de;unfold cmpQ;split
 ·exact z
 split
 ·exact z
 unfold cmpf;split
 ·exact z
 unfold cmpI;dsimp only;split
 ·exact ⟨de,de⟩
 split
 ·exact ⟨de,de⟩
 exact ⟨de,de⟩
theorem wX (a b:P2): -1<=ordS a b/\ordS a b<=1:=by
 unfold ordS;split
 ·exact pR _ _
 exact pR _ _
theorem aE8 (q:P2):loS q q=q:=by unfold loS;split<;>rfl
theorem aE9 (q:P2):hiS q q=q:=by unfold hiS;split<;>rfl
theorem b3155 (a1 a2 b1 b2 d1 d2 e1 e2:Bx) (h0:e1=d1/\e2=d2) (r:Int) (h:mgOK (a1,a2) (b1,b2) (d1,d2) r):body Tp [aLw,aLy,aLz,aLx] {} true f155 [.agg [S a1,S a2,S b1,S b2],.agg [S d1,S d2,S e1,S e2]] (I r):=by
 obtain ⟨rfl,rfl⟩:=h0;obtain ⟨t,h1,h2,h3,rfl⟩:=h;have ht: -1<=t/\t<=1:=by
  obtain ⟨p1,p2,q1,q2,x,y,_,_,_,_,_,_,rfl⟩:=h1;exact pR _ _
 by_cases hz:t=0
 ·have e:mgS (a1,a2) (b1,b2) (e1,e2) t=1-ordS (if 0<ordS (e1,e2) (loS (a1,a2) (b1,b2)) then (e1,e2) else loS (a1,a2) (b1,b2)) (if ordS (e1,e2) (hiS (a1,a2) (b1,b2))<0 then (e1,e2) else hiS (a1,a2) (b1,b2)):=aC (bI hz);rw[e];have q1:((e1,e2):P2)=loS (e1,e2) (e1,e2):=(aE8 _).symm;have q2:((e1,e2):P2)=hiS (e1,e2) (e1,e2):=(aE9 _).symm;obtain ⟨L,hL⟩:∃L,L=loS (a1,a2) (b1,b2):=⟨_,rfl⟩;obtain ⟨U,hU⟩:∃U,U=hiS (a1,a2) (b1,b2):=⟨_,rfl⟩;rw[<- hL,<- hU];obtain ⟨L1,L2⟩:=L;obtain ⟨U1,U2⟩:=U;clear e;subst hz;by_cases c1:0<ordS (e1,e2) (L1,L2)
  ·rw[aD c1];by_cases c2:ordS (e1,e2) (U1,U2)<0
   ·rw[aD c2];have hr:=wX (e1,e2) (e1,e2);(repeat'((conv=>whnf);first|refine .h ?_|refine Zn ?_|apply pI|apply pJ|exact Zf|refine Zc ?_ ?_|refine Zy ?_|refine Zm ?_|fail));exact ZF
   rw[aC c2];have hr:=wX (e1,e2) (U1,U2);(repeat'((conv=>whnf);first|refine .h ?_|refine Zn ?_|apply pI|apply pJ|exact Zf|refine Zc ?_ ?_|refine Zy ?_|refine Zm ?_|fail));exact ZF
  rw[aC c1];by_cases c2:ordS (e1,e2) (U1,U2)<0
  ·rw[aD c2];have hr:=wX (L1,L2) (e1,e2);(repeat'((conv=>whnf);first|refine .h ?_|refine Zn ?_|apply pI|apply pJ|exact Zf|refine Zc ?_ ?_|refine Zy ?_|refine Zm ?_|fail));exact ZF
  rw[aC c2];have hr:=wX (L1,L2) (U1,U2);(repeat'((conv=>whnf);first|refine .h ?_|refine Zn ?_|apply pI|apply pJ|exact Zf|refine Zc ?_ ?_|refine Zm ?_|fail));exact ZF
 have e:mgS (a1,a2) (b1,b2) (e1,e2) t=0:=aD hz;rw[e];have hm:¬t*t<=0:=by
  have:t=1\/t= -1:=om;rcases this with rfl | rfl<;>decide
 have hm2: -9223372036854775808<=t*t/\t*t<=9223372036854775807:=by
  have:t=1\/t= -1:=om;rcases this with rfl | rfl<;>decide
 (repeat'((conv=>whnf);first|refine .h ?_|refine Zn ?_|apply pI|apply pJ|refine Zy ?_|refine Zm ?_|fail));exact ZF
def aFa:Con:=aR 155 true fun args K=>match args with
 | [.agg [.str a1,.str a2,.str b1,.str b2],.agg [.str d1,.str d2,.str e1,.str e2]]=>Need (e1=d1/\e2=d2) (Alt (Has (fun r:Int=>mgOK (a1,a2) (b1,b2) (d1,d2) r) fun r=>K (I r)) False)
 | _=>False
theorem k3155:aO Tp aFa:=by
 refine kO func155 fun args K h=>?_;simp only[aFa] at h;split at h
 ·rename_i a1 a2 b1 b2 d1 d2 e1 e2;rcases h.go.or with hk | hk
  ·obtain ⟨r,hp,hK⟩:=hk.ex;exact ⟨_,hK,triB func155 ntmps155 (by simp[k3206,k3207,k3208,aE7]) (b3155 a1 a2 b1 b2 d1 d2 e1 e2 h.ok r hp)⟩
  cases hk
 cases h
def c3205:Con:=aR 205 true fun | [.str a],K=>Need (chkQ a=0/\dK 36 (valQ a)) (K (I 0)) | _,_=>False
theorem k3205:aO Tp c3205:=by
 refine kQ {} func205 ntmps205 (kc aAu (kc k88 kn)) fun _ _ h=>?_;split at h;case h_2=>cases h
 rename_i a;refine kb h.go ?_;replace h:=h.ok;obtain ⟨h,hd⟩:=h;have e:=Gq h;have hi:=Pr (k:=36) (a:=a);have hb:max ((digs (ptQ a).1).length:Int) ((ptQ a).2.length:Int)<=36:=by rw[e];exact hi.2 hd
 have hb':¬36<max ((digs (ptQ a).1).length:Int) ((ptQ a).2.length:Int):=Int.not_lt.2 hb;exact ZRF
def okP (p:P2):Prop:=(chkQ p.1=0/\dK 36 (valQ p.1))/\chkQ p.2=0/\dK 36 (valQ p.2)
def aL0:Con:=aR 154 true fun | [.agg [.str a,.str b]],K=>Need (okP (a,b)) (K (I 0)) | _,_=>False
theorem k3154:aO Tp aL0:=by
 refine kQ {} func154 ntmps154 (kc k21 (kc k3205 kn)) fun _ _ h=>?_;split at h;case h_2=>cases h
 rename_i a b;refine kb h.go ?_;replace h:=h.ok;obtain ⟨⟨h1,h2⟩,h3,h4⟩:=h;dsimp only at h1 h2 h3 h4;have j1:chkQ a=0/\dK 36 (valQ a):=⟨h1,h2⟩;have j2:chkQ b=0/\dK 36 (valQ b):=⟨h3,h4⟩;(repeat'((conv=>whnf);first|refine Zn ?_|refine Z0 ?_|refine Z1 ?_|apply pI|apply pJ|refine Zy ?_|refine Zm ?_|fail));exact ZF
theorem b3122 (a1 a2 b1 b2 d1 d2 e1 e2:Bx) (h0:(e1=d1/\e2=d2)/\okP (a1,a2)/\okP (b1,b2)/\okP (d1,d2)) (r:Int) (h:mgOK (a1,a2) (b1,b2) (d1,d2) r):body Tp [aL0,aFa] {} true f122 [.agg [S a1,S a2],.agg [S b1,S b2],.agg [S d1,S d2],.agg [S e1,S e2]] (.tup [I r,I 0]):=by
 obtain ⟨⟨rfl,rfl⟩,g1,g2,g3⟩:=h0;have g4:e1=e1/\e2=e2:=⟨rfl,rfl⟩;exact ZHF
def aL1:Con:=aR 122 true fun args K=>match args with
 | [.agg [.str a1,.str a2],.agg [.str b1,.str b2],.agg [.str d1,.str d2],.agg [.str e1,.str e2]]=>Need ((e1=d1/\e2=d2)/\okP (a1,a2)/\okP (b1,b2)/\okP (d1,d2)) (Alt (Has (fun r:Int=>mgOK (a1,a2) (b1,b2) (d1,d2) r) fun r=>K (.tup [I r,I 0])) False)
 | _=>False
theorem k3122:aO Tp aL1:=by
 refine kO func122 fun args K h=>?_;simp only[aL1] at h;split at h
 ·rename_i a1 a2 b1 b2 d1 d2 e1 e2;rcases h.go.or with hk | hk
  ·obtain ⟨r,hp,hK⟩:=hk.ex;exact ⟨_,hK,triB func122 ntmps122 (by simp[k3154,k3155]) (b3122 a1 a2 b1 b2 d1 d2 e1 e2 h.ok r hp)⟩
  cases hk
 cases h
end RB
end
section
open Go Go.Proofs Go.Eng Go.Shelf Tryz
namespace EB
abbrev I (n:Int):SV:=.val (.int .i64 n)
abbrev Ls (xs:List Int):SV:=.seq (.int .i64) xs
abbrev Two:Ty:=.pair (.int .i64) (.int .i64)
abbrev Ps (xs:List (Int × Int)):SV:=.seq Two xs
theorem eS {n:Int} {C:Nat->Prop} (j:Nat) (e:n=(j:Int)) (h:C j):Ix n C:=by
 refine ⟨fun i e'=>?_⟩;have:j=i:=om;subst this;exact h
def hasW (ws:List Int) (i:Int):Prop:=i/64<(ws.length:Int)/\yS .and .u64 (shrI .u64 (ws.getD (i/64).toNat 0) (i%64)) 1=1
instance (ws:List Int) (i:Int):Decidable (hasW ws i):=by unfold hasW;exact inferInstance
def putW (ws:List Int) (i:Int):List Int:=ws.set (i/64).toNat (yS .or .u64 (ws.getD (i/64).toNat 0) (shlI .u64 1 (i%64)))
def aMo (ws:List Int) (i:Int):List Int:=ws.set (i/64).toNat (yS .andNot .u64 (ws.getD (i/64).toNat 0) (shlI .u64 1 (i%64)))
def aNg (ws:List Int) (k:Nat):List Int:=((List.range k).filter fun (i:Nat)=>decide (hasW ws i)).map fun (i:Nat)=>(i:Int)
def rowOf (l:List (Int × Int)) (k m:Nat):List Int:=((l.take k).filter fun r=>decide (r.1=(m:Int)/\0<=r.2)).map (·.2)
def onN (n:Nat) (l:List (Int × Int)) (k:Nat):List (List Int):=(List.range n).map (rowOf l k)
def restB (l:List (Int × Int)) (k m:Nat):Bool:=(l.take k).any fun r=>decide (r.1=(m:Int))
def restN (n:Nat) (l:List (Int × Int)) (k:Nat):List Bool:=(List.range n).map (restB l k)
theorem Pz (n:Nat) (l:List (Int × Int)) (k:Nat):(onN n l k).length=n:=by simp[onN]
theorem onN_get (n:Nat) (l:List (Int × Int)) (k m:Nat) (h:m<n):(onN n l k).getD m []=rowOf l k m:=by
 simp[onN,aB,h]
theorem aF3 (n:Nat) (l:List (Int × Int)):onN n l 0=List.replicate n []:=by
 apply jQ<;>simp[onN,rowOf]
theorem aDq (l:List (Int × Int)) (k:Nat) (h:k<l.length):l.take (k+1)=l.take k++ [l.getD k (0,0)]:=by
 rw[cV h];simp[aB,h]
theorem rowOf_len (l:List (Int × Int)) (k m:Nat):(rowOf l k m).length<=l.length:=by
 unfold rowOf;rw[iB];refine bL (List.length_filter_le _ _) ?_;rw[aY];omega
theorem Cd (l:List (Int × Int)) (k m:Nat) (h:k<l.length):rowOf l (k+1) m=if (l.getD k (0,0)).1=(m:Int)/\0<=(l.getD k (0,0)).2 then rowOf l k m++ [(l.getD k (0,0)).2] else rowOf l k m:=by
 unfold rowOf;rw[aDq l k h,List.filter_append,jB];by_cases e:(l.getD k (0,0)).1=(m:Int)/\0<=(l.getD k (0,0)).2
 ·rw[aD e];simp only[wR,qU e];rfl
 rw[aC e];simp only[wR,decide_eq_false e];simp
theorem aF4 (n:Nat) (l:List (Int × Int)) (k:Nat) (h:k<l.length) (h2:¬0<=(l.getD k (0,0)).2):onN n l (k+1)=onN n l k:=by
 unfold onN;refine oR fun m _=>?_;rw[Cd l k m h,aC fun e=>h2 e.2]
theorem aF5 (n:Nat) (l:List (Int × Int)) (k u:Nat) (h:k<l.length) (hu:(l.getD k (0,0)).1=(u:Int)) (h2:0<=(l.getD k (0,0)).2) (hun:u<n):(onN n l k).set u ((onN n l k).getD u []++ [(l.getD k (0,0)).2])=onN n l (k+1):=by
 apply fY;intro m;rw[eP,Pz,onN_get _ _ _ _ hun];by_cases e:u=m
 ·subst e;simp only[if_true,aD hun,onN,nA,List.getElem?_range hun,jC];rw[Cd l k u h,aD ⟨hu,h2⟩]
 rw[aC e];simp only[onN,nA];cases hm:(List.range n)[m]? with
 | none=>rfl
 | some j=>
  have hj:j=m:=by
   have:=aL.1 hm;obtain ⟨h1,h2⟩:=this;simpa using h2.symm
  subst hj;simp only[jC];rw[Cd l k j h,aC (by rintro ⟨h1,_⟩;omega)]
def Ig (n:Int) (l:List (Int × Int)):Prop:=l.length<=4096/\0<=n/\n<=512/\∀i,i<l.length->0<=(l.getD i (0,0)).1/\(l.getD i (0,0)).1<n/\ -1<=(l.getD i (0,0)).2/\(l.getD i (0,0)).2<n
def Da {α:Type} (p:α->Bool) (xs:List α):Int:=match xs.findIdx? p with
 | some i=>i
 | none=> -1
theorem Xu {α:Type} {p:α->Bool} {xs:List α} (d:α) (h:∀j,j<xs.length->p (xs.getD j d)=false):Da p xs= -1:=by
 have:xs.findIdx? p=none:=by
  rw[List.findIdx?_eq_none_iff];intro x hx;obtain ⟨j,hj,rfl⟩:=dD hx;have:=h j hj;simpa [aB,hj] using this
 simp[Da,this]
theorem Xv {α:Type} {p:α->Bool} {xs:List α} (d:α) {i:Nat} (hi:i<xs.length) (hp:p (xs.getD i d)=true) (h:∀j,j<i->p (xs.getD j d)=false):Da p xs=i:=by
 have:xs.findIdx? p=some i:=by
  rw[kD];refine ⟨hi,by simpa [aB,hi] using hp,fun j hj=>?_⟩;have:=h j hj;have hj':j<xs.length:=om;simpa [aB,hj'] using this
 simp[Da,this]
theorem aDr {α:Type} (p:α->Bool) (xs:List α):0<=Da p xs↔xs.any p=true:=by
 unfold Da;cases h:xs.findIdx? p with
 | none=>
  rw[List.findIdx?_eq_none_iff] at h;simp only;constructor
  ·intro h;omega
  intro h2;rw[lK] at h2;obtain ⟨x,hx,hp⟩:=h2;rw[h x hx] at hp;cases hp
 | some i=>
  rw[kD] at h;obtain ⟨hi,hp,_⟩:=h;simp only;constructor
  ·intro _;rw[lK];exact ⟨_,cT hi,hp⟩
  intro _;omega
def anIx {α:Type} (t:Nat) (p:α->Bool) (xs:List α) (d:α):Ann:={ X:=Nat,pre:=fun i=>i<=xs.length/\∀j,j<i->p (xs.getD j d)=false,mod:=fun i _=>[(t,I i)],mu:=fun i=>xs.length-i }
def lackP (ws:List Int) (k:Int):Bool:=decide (¬hasW ws k)
def Fa (on:List (List Int)) (ws:List Int) (i:Int):Prop:=¬hasW ws i/\¬(on.getD i.toNat []).any (lackP ws)=true
instance (on:List (List Int)) (ws:List Int) (i:Int):Decidable (Fa on ws i):=by unfold Fa;exact inferInstance
def cmpI (a b:Int):Int:=if a<b then -1 else if b<a then 1 else 0
def orI:List Int->Int
 | []=>0
 | x::r=>if x=0 then orI r else x
theorem aF8 (xs:List Int) (i:Nat) (hi:i<xs.length) (hx:xs.getD i 0≠0) (h:∀j,j<i->xs.getD j 0=0):orI xs=xs.getD i 0:=by
 induction xs generalizing i with
 | nil=>simp at hi
 | cons x r ih=>
  cases i with
  | zero=>simp at hx;simp[orI,hx]
  | succ i=>
   have h0:x=0:=by simpa using h 0 om
   have:=ih i (by simpa using hi) (by simpa using hx) (fun j hj=>by simpa using h (j+1) om);simp[orI,h0,this]
theorem Tr (xs:List Int) (h:∀j,j<xs.length->xs.getD j 0=0):orI xs=0:=by
 induction xs with
 | nil=>rfl
 | cons x r ih=>
  have h0:x=0:=by simpa using h 0 si
  simp only[orI,h0,if_true];exact ih fun j hj=>by simpa using h (j+1) (by simpa using hj)
def c74:Con:=aR 99 true fun | [.val (.int .i64 a)],K=>K (.val (.bool false)) | _,_=>False
theorem k74:aO Tp c74:=by
 refine kQ {} func99 ntmps99 kn fun _ _ h=>?_;split at h;case h_2=>cases h
 refine kb h ?_;(conv=>whnf);simp
def c68:Con:=aR 64 true fun | [.val (.int .i64 a),.val (.int .i64 b)],K=>K (I (cmpI a b)) | _,_=>False
theorem k68:aO Tp c68:=by
 refine kQ {} func64 ntmps64 (kc k74 kn) fun _ _ h=>?_;split at h;case h_2=>cases h
 refine kb h ?_;(apply Br.mk<;>intro)
 ·rename_i h;(conv=>whnf);exact ⟨rfl,(aD h).symm⟩
 rename_i h;(apply Br.mk<;>intro)
 ·rename_i h2;(conv=>whnf);exact ⟨rfl,by unfold cmpI;rw[aC h,aD h2]⟩
 rename_i h2;(conv=>whnf);exact ⟨rfl,by unfold cmpI;rw[aC h,aC h2]⟩
theorem b67 (xs:List Int):body Tp [] { loops:=[(0,{ X:=Nat,pre:=fun i=>i<=xs.length/\∀j,j<i->xs.getD j 0=0,mod:=fun i _=>[(8,I i)],mu:=fun i=>xs.length-i })] } true f63 [Ls xs] (I (orI xs)):=by
 (repeat' first|refine ZG ?_|refine Zg fun _=>?_);refine ⟨⟨(0:Nat),⟨aK _,om⟩,ZE⟩,fun (i:Nat) hi=>?_⟩;obtain ⟨hi,hb⟩:=hi;(apply Br.mk<;>intro)
 ·have hlt:i<xs.length:=om;(repeat' first|refine ZG ?_|refine Zg fun _=>?_);(apply Br.mk<;>intro)
  ·rename_i hh;(conv=>whnf);exact ⟨rfl,(aF8 xs i hlt hh hb).symm⟩
  rename_i hh;(repeat refine ZG ?_);refine ⟨(i+1:Nat),by show xs.length-(i+1)<xs.length-i;omega,⟨hlt,fun j hj=>?_⟩,ZE⟩;by_cases e:j=i
  ·subst e;omega
  exact hb j om
 have hii:i=xs.length:=om;subst hii;(conv=>whnf);exact ⟨rfl,(Tr xs hb).symm⟩
def c67:Con:=aR 63 true fun args K=>match args with | [.seq (.int .i64) xs]=>K (I (orI xs)) | _=>False
theorem k67:aO Tp c67:=by
 refine kO func63 fun args K h=>?_;simp only[c67] at h;split at h
 ·rename_i xs;exact ⟨_,h,triB func63 ntmps63 si (b67 xs)⟩
 cases h
def Fb (f:Nat->Int) (m:Nat):Int:=orI ((List.range m).map f)
theorem Gu {f:Nat->Int} {m i:Nat} (hi:i<m) (hf:f i≠0) (h:∀j,j<i->f j=0):Fb f m=f i:=by
 have e:∀j,j<m->((List.range m).map f).getD j 0=f j:=fun j hj=>by simp[aB,hj]
 unfold Fb;rw[aF8 _ i (by simpa using hi) (by rw[e i hi];exact hf) (fun j hj=>by rw[e j om];exact h j hj),e i hi]
theorem firstE_none {f:Nat->Int} {m:Nat} (h:∀j,j<m->f j=0):Fb f m=0:=by
 unfold Fb;refine Tr _ fun j hj=>?_;have hj:j<m:=by simpa using hj
 simpa [aB,hj] using h j hj
def supAt (n:Int) (l:List (Int × Int)) (k:Nat):Int:=
 if (l.getD k (0,0)).1<0\/n<=(l.getD k (0,0)).1\/(l.getD k (0,0)).2 < -1\/n<=(l.getD k (0,0)).2 then 2
 else if (l.getD k (0,0)).1=(l.getD k (0,0)).2 then 27
 else if 0<k/\0<=orI [cmpI (l.getD (k-1) (0,0)).1 (l.getD k (0,0)).1,cmpI (l.getD (k-1) (0,0)).2 (l.getD k (0,0)).2] then 10 else 0
def supE (n:Int) (l:List (Int × Int)):Int:=if n<0\/512<n then 2 else if 4096<l.length then 4 else Fb (supAt n l) l.length
theorem Ts {n:Int} {l:List (Int × Int)} (h:n<0\/512<n):2=supE n l:=by unfold supE;rw[aD h]
theorem aDs {n:Int} {l:List (Int × Int)} (h:¬n<0) (h2:¬512<n) (h3:4096<(l.length:Int)):4=supE n l:=by unfold supE;rw[aC om,aD om]
theorem Qa {n:Int} {l:List (Int × Int)} (h:¬n<0) (h2:¬512<n) (h3:¬4096<(l.length:Int)) {i:Nat} (hi:i<l.length) (hb:∀j,j<i->supAt n l j=0) {v:Int} (hv:supAt n l i=v) (h0:v≠0):v=supE n l:=by
 unfold supE;rw[aC om,aC om,Gu hi (by rw[hv];exact h0) hb,hv]
theorem aJl {n:Int} {l:List (Int × Int)} (h:¬n<0) (h2:¬512<n) (h3:¬4096<(l.length:Int)) (hb:∀j,j<l.length->supAt n l j=0):0=supE n l:=by
 unfold supE;rw[aC om,aC om,firstE_none hb]
theorem b43 (n:Int) (l:List (Int × Int)):body Tp [c67,c68] { asks:=[(1,[])] } true f28 [I n,Ps l] (I (supE n l)):=by
 (apply Br.mk<;>intro)
 ·rename_i h;(conv=>whnf);exact ⟨rfl,Ts (.inl h)⟩
 rename_i g1;(apply Br.mk<;>intro)
 ·rename_i h;(conv=>whnf);exact ⟨rfl,Ts (.inr h)⟩
 rename_i g2;(repeat'((conv=>whnf);first|refine Zg fun _=>?_|fail));(apply Br.mk<;>intro)
 ·rename_i h;(conv=>whnf);exact ⟨rfl,aDs g1 g2 h⟩
 rename_i g3;(repeat'((conv=>whnf);first|refine Zg fun _=>?_|fail));refine Ask.mk ⟨{ X:=Nat,pre:=fun i=>i<=l.length/\∀j,j<i->supAt n l j=0,mod:=fun i _=>[(20,I i)],mu:=fun i=>l.length-i },rfl,?_⟩;(repeat refine ZG ?_);refine ⟨⟨(0:Nat),⟨aK _,om⟩,ZE⟩,fun (i:Nat) hi=>?_⟩;obtain ⟨hi,hb⟩:=hi;(apply Br.mk<;>intro)
 ·have hlt:i<l.length:=om;have bad:((l.getD i (0,0)).1<0\/n<=(l.getD i (0,0)).1\/(l.getD i (0,0)).2 < -1\/n<=(l.getD i (0,0)).2)->2=supE n l:=fun h=>
   Qa g1 g2 g3 hlt hb (by unfold supAt;rw[aD h]) de
  (repeat'((conv=>whnf);first|refine Zg fun _=>?_|refine Zn ?_|refine Zj ?_|apply pI|apply pJ|refine Zr (fun _=>?_) fun _=>?_|fail))
  ·(conv=>whnf);exact ⟨rfl,bad (.inl ‹_›)⟩
  ·(conv=>whnf);exact ⟨rfl,bad (.inr (.inl ‹_›))⟩
  ·(conv=>whnf);exact ⟨rfl,bad (.inr (.inr (.inl ‹_›)))⟩
  ·(conv=>whnf);exact ⟨rfl,bad (.inr (.inr (.inr ‹_›)))⟩
  ·rename_i k1 k2 k3 k4 k5;(conv=>whnf);exact ⟨rfl,Qa g1 g2 g3 hlt hb (by unfold supAt;rw[aC om,aD k5]) de⟩
  ·refine eS (i-1) om ?_;(repeat'((conv=>whnf);first|refine Zg fun _=>?_|refine Zn ?_|apply pI|apply pJ|fail));refine eS (i-1) om ?_;(repeat'((conv=>whnf);first|refine Zg fun _=>?_|refine Zn ?_|apply pI|apply pJ|refine Zl ?_|refine Zr (fun _=>?_) fun _=>?_|fail))
   ·rename_i k1 k2 k3 k4 k5 k6 a1 a2 a3 a4 q;(conv=>whnf);exact ⟨rfl,Qa g1 g2 g3 hlt hb (by unfold supAt;rw[aC om,aC k5,aD ⟨om,q⟩]) de⟩
   rename_i k1 k2 k3 k4 k5 k6 a1 a2 a3 a4 q;refine ⟨(i+1:Nat),by show l.length-(i+1)<l.length-i;omega,⟨hlt,fun j hj=>?_⟩,ZE⟩;by_cases e:j=i
   ·subst e;unfold supAt;rw[aC om,aC k5,aC fun h=>q h.2]
   exact hb j om
  rename_i k1 k2 k3 k4 k5 k6;refine ⟨(i+1:Nat),by show l.length-(i+1)<l.length-i;omega,⟨hlt,fun j hj=>?_⟩,ZE⟩;by_cases e:j=i
  ·subst e;unfold supAt;rw[aC om,aC k5,aC om]
  exact hb j om
 have hii:i=l.length:=om;subst hii;(conv=>whnf);exact ⟨rfl,aJl g1 g2 g3 hb⟩
def c43:Con:=aR 28 true fun args K=>match args with | [.val (.int .i64 n),.seq (.pair (.int .i64) (.int .i64)) l]=>K (I (supE n l)) | _=>False
theorem k43:aO Tp c43:=by
 refine kO func28 fun args K h=>?_;simp only[c43] at h;split at h
 ·rename_i n l;exact ⟨_,h,triB func28 ntmps28 (by simp[k67,k68]) (b43 n l)⟩
 cases h
theorem supE_rests {n:Int} {l:List (Int × Int)} (h:supE n l=0):Ig n l:=by
 unfold supE at h;split at h
 ·cases h
 split at h
 ·cases h
 refine ⟨om,om,om,fun i hi=>?_⟩;by_cases hz:∀j,j<l.length->supAt n l j=0
 ·have:=hz i hi;unfold supAt at this;split at this
  ·cases this
  omega
 exfalso;have:∃j,j<l.length/\supAt n l j≠0/\∀m,m<j->supAt n l m=0:=by
  rw[Classical.not_forall] at hz;obtain ⟨j,hj⟩:=hz;rw[Classical.not_imp] at hj;obtain ⟨hj1,hj2⟩:=hj
  induction j using Nat.strongRecOn with
  | _ j ih=>
   by_cases hm:∀m,m<j->supAt n l m=0
   ·exact ⟨j,hj1,hj2,hm⟩
   rw[Classical.not_forall] at hm;obtain ⟨m,hm⟩:=hm;rw[Classical.not_imp] at hm;exact ih m hm.1 om hm.2
 obtain ⟨j,h1,h2,h3⟩:=this;rw[Gu h1 h2 h3] at h;exact h2 h
def words (n:Int):List Int:=List.replicate ((n+63)/64).toNat 0
def putL (ws:List Int) (ms:List Int):List Int:=ms.foldl putW ws
def outB (n m:Int):Bool:=decide (m<0\/n<=m)
def aJm (on:List (List Int)) (ws:List Int) (k:Nat):List Int:=((List.range k).filter fun (i:Nat)=>decide (Fa on ws i)).map fun (i:Nat)=>(i:Int)
def onL (n:Int) (l:List (Int × Int)):List (List Int):=onN n.toNat l l.length
def aMp (n:Int) (l:List (Int × Int)):List Bool:=restN n.toNat l l.length
theorem onL_len (n:Int) (l:List (Int × Int)):(onL n l).length=n.toNat:=Pz _ _ _
def readyRes (n:Int) (l:List (Int × Int)) (st:List Int):List Int:=if supE n l=0/\st.any (outB n)=false then aJm (onL n l) (putL (words n) st) n.toNat else []
def readyErr (n:Int) (l:List (Int × Int)) (st:List Int):Int:=if ¬supE n l=0 then 1 else if st.any (outB n)=true then 2 else 0
def WOk (ws:List Int):Prop:=∀w,w<ws.length->∃m:Nat,m<2^64/\ws.getD w 0=m
theorem mL (xs:List Int) (i p:Nat) (v:Int):(xs.set i v).getD p 0=if p=i/\p<xs.length then v else xs.getD p 0:=by
 simp only[aB,eP];by_cases h:i=p
 ·subst h;by_cases h2:i<xs.length<;>simp[h2]
 rw[aC h,aC om]
def InN (n:Int) (ms:List Int):Prop:=∀m∈ms,0<=m/\m<n
def nxt (on:List (List Int)) (n:Int) (ms:List Int):Int:=Da (fun i:Nat=>decide (Fa on (putL (words n) ms) i)) (List.range n.toNat)
def msAt (on:List (List Int)) (n:Int):Nat->List Int
 | 0=>[]
 | k+1=>if 0<=nxt on n (msAt on n k) then msAt on n k++ [nxt on n (msAt on n k)] else msAt on n k
theorem yR:∀(n:Nat) (xs:List Nat),xs.Nodup->(∀x∈xs,x<n)->xs.length<=n
 | 0,xs,_,h=>by
  cases xs with
  | nil=>exact aN _
  | cons x r=>exact absurd (h x bW) (bV _)
 | n+1,xs,hx,h=>by
  by_cases hm:n∈xs
  ·have h1:=yR n (xs.erase n) (hx.erase n) fun x hx'=>by
    rw[hx.mem_erase_iff] at hx';have:=h x hx'.2;omega
   rw[List.length_erase_of_mem hm] at h1;omega
  have h1:=yR n xs hx fun x hx'=>by
   have:=h x hx';have:x≠n:=fun e=>hm (e ▸ hx');omega
  omega
theorem Ns {n:Int} {ms:List Int} (hn:0<=n) (h1:ms.Nodup) (h2:InN n ms):ms.length<=n.toNat:=by
 have:(ms.map Int.toNat).Nodup:=by
  rw[List.nodup_iff_pairwise_ne,kS];refine List.Pairwise.imp_of_mem ?_ h1;intro a b ha hb hne e;have:=h2 a ha;have:=h2 b hb;exact hne om
 have h3:(ms.map Int.toNat) ⊆ List.range n.toNat:=by
  intro x hx;rw[mB] at hx;obtain ⟨m,hm,rfl⟩:=hx;have:=h2 m hm;rw[jZ];omega
 have:=yR n.toNat _ this fun x hx=>jZ.1 (h3 hx);simpa using this
def aNk (rs:List Bool) (m:Int):List (Int × Int):=if rs.getD m.toNat false=true then [(1,m)] else [(2,m),(1,m)]
def aJn (rs:List Bool) (ms:List Int):List (Int × Int):=ms.flatMap (aNk rs)
def ordS (on:List (List Int)) (rs:List Bool) (n:Int):List (Int × Int):=aJn rs (msAt on n n.toNat)
def ordL (n:Int) (l:List (Int × Int)):List (Int × Int):=ordS (onL n l) (aMp n l) n
def aF9 (S:List (Int × Int)) (k:Nat):Int:=((S.take k).filter fun x=>decide (x.1=1)).length
def aGa (n:Int) (l:List (Int × Int)):Int:=if ¬supE n l=0 then 1 else if aF9 (ordL n l) (ordL n l).length<n then 27 else 0
def n12 (s:Int):Int:=s%13
def okP (s:Int) (l:List (Int × Int)):Prop:=l.length<=30/\aGa (n12 s) l=0
instance (s:Int) (l:List (Int × Int)):Decidable (okP s l):=by unfold okP;exact inferInstance
end EB
end
section
namespace Go.Eng
section
variable {α:Type}
end
end Go.Eng
end
section
open Go Go.Proofs Go.Eng Go.Shelf Tryz
namespace EB
def chkAt (n:Int) (S:List (Int × Int)) (k:Nat):Int:=
 if (S.getD k (0,0)).1<1\/3<(S.getD k (0,0)).1 then 8
 else if (S.getD k (0,0)).2<0\/(0<=n/\n<=(S.getD k (0,0)).2) then 2 else 0
def chkE (n:Int) (S:List (Int × Int)):Int:=if 4096<S.length then 4 else Fb (chkAt n S) S.length
structure PS where
 m:MapS Bool
 most:Int
 err:Int
def sortedP (xs:List Int):Prop:=∀j,j<xs.length-1->xs.getD j 0<=xs.getD (j+1) 0
instance (xs:List Int):Decidable (sortedP xs):=by unfold sortedP;exact inferInstance
def raisedL (S:List (Int × Int)) (i:Nat):List Int:=((S.take i).filter fun x=>decide (x.1=1)).map (·.2)
structure Ordered (n:Int) (l:List (Int × Int)) (S:List (Int × Int)):Prop where
 len:S.length<=2048
 step:∀i,i<S.length->(S.getD i (0,0)).1=1->readyErr n l (raisedL S i)=0/\sortedP (readyRes n l (raisedL S i))/\∃r,readyRes n l (raisedL S i)=(S.getD i (0,0)).2::r
 stop:readyErr n l (raisedL S S.length)=0/\readyRes n l (raisedL S S.length)= []/\((raisedL S S.length).length:Int)=n
structure CS where
 st:List Int
 pr:List Int
 err:Bool
def aF2 (on:List (List Int)) (rs:List Bool) (c:CS) (x:Int × Int):Prop:=
 if x.1=1 then Fa on c.st x.2/\(rs.getD x.2.toNat false=true\/hasW c.pr x.2)
 else if x.1=2 then ¬hasW c.pr x.2
 else hasW c.pr x.2/\(¬hasW c.st x.2\/rs.getD x.2.toNat false=true)
instance (on:List (List Int)) (rs:List Bool) (c:CS) (x:Int × Int):Decidable (aF2 on rs c x):=by unfold aF2;exact inferInstance
def aNh (on:List (List Int)) (rs:List Bool) (S:List (Int × Int)) (c:CS) (i:Nat):CS:=
 if c.err=true then c
 else if ¬aF2 on rs c (S.getD i (0,0)) then ⟨c.st,c.pr,true⟩
 else if (S.getD i (0,0)).1=1 then ⟨putW c.st (S.getD i (0,0)).2,c.pr,false⟩
 else if (S.getD i (0,0)).1=2 then ⟨c.st,putW c.pr (S.getD i (0,0)).2,false⟩
 else ⟨c.st,aMo c.pr (S.getD i (0,0)).2,false⟩
def doAt (on:List (List Int)) (rs:List Bool) (n:Int) (S:List (Int × Int)) (i:Nat):CS:=(List.range i).foldl (aNh on rs S) ⟨words n,words n,false⟩
def endE (n:Int) (c:CS):Int:=if c.err=true then 26 else if ((aNg c.st (64*c.st.length)).length:Int)<n then 9 else 0
def checkE (n:Int) (l S:List (Int × Int)):Int:=if ¬supE n l=0 then 1 else if ¬chkE n S=0 then chkE n S else endE n (doAt (onL n l) (aMp n l) n S S.length)
def upP (m:Int) (r:Int × Int):Bool:=decide (r.1=m)
end EB
end
section
open Go Go.Proofs Go.Eng Go.Shelf Tryz
namespace EB.Q
end EB.Q
end
section
open Go Go.Proofs Go.Eng Go.Shelf Tryz
namespace EB
structure Whole (n:Int) (l S:List (Int × Int)):Prop where
 n0:0<=n
 n1:n<=512
 sup:supE n l=0
 chk:checkE n l S=0
 len:S.length<=1024
 at_:∀i,i<S.length->((S.getD i (0,0)).1=1\/(S.getD i (0,0)).1=2)/\0<=(S.getD i (0,0)).2/\(S.getD i (0,0)).2<n
 prop_:∀i,i<S.length->(S.getD i (0,0)).1=2->¬l.any (upP (S.getD i (0,0)).2)=true/\i+1<S.length/\S.getD (i+1) (0,0)=(1,(S.getD i (0,0)).2)
 raise:∀i,i<S.length->(S.getD i (0,0)).1=1->¬l.any (upP (S.getD i (0,0)).2)=true->0<i/\(S.getD (i-1) (0,0)).1=2
 once:∀m:Int,0<=m->m<n->(raisedL S S.length).count m=1
def wStep (c:List Int × List Int) (x:Int × Int):List Int × List Int:=if x.1=1 then (putW c.1 x.2,c.2) else if x.1=2 then (c.1,putW c.2 x.2) else (c.1,aMo c.2 x.2)
def wF (n:Int) (T:List (Int × Int)):List Int × List Int:=T.foldl wStep (words n,words n)
def stB (T:List (Int × Int)) (m:Nat):Bool:=T.foldl (fun b x=>if x.2=(m:Int)/\x.1=1 then true else b) false
def prB (T:List (Int × Int)) (m:Nat):Bool:=T.foldl (fun b x=>if x.2=(m:Int) then (if x.1=1 then b else decide (x.1=2)) else b) false
def memL (n:Int) (f:Nat->Bool):List Int:=((List.range n.toNat).filter f).map fun (i:Nat)=>(i:Int)
structure WF (n:Int) (T:List (Int × Int)):Prop where
 l1:((wF n T).1.length:Int)=(n+63)/64
 l2:((wF n T).2.length:Int)=(n+63)/64
 o1:WOk (wF n T).1
 o2:WOk (wF n T).2
 s1:∀j:Nat,hasW (wF n T).1 j↔stB T j=true
 s2:∀j:Nat,hasW (wF n T).2 j↔prB T j=true
 b1:∀j:Nat,stB T j=true->(j:Int)<n
 b2:∀j:Nat,prB T j=true->(j:Int)<n
def stdE (n:Int) (S:List (Int × Int)) (k:Int):Int:=if n<0\/512<n then 1 else if ¬chkE n S=0 then chkE n S else if k<0\/(S.length:Int)<k then 2 else 0
def stdM (n:Int) (S:List (Int × Int)) (k:Int):List Int:=if stdE n S k=0 then memL n (stB (S.take k.toNat)) else []
def stdP (n:Int) (S:List (Int × Int)) (k:Int):List Int:=if stdE n S k=0 then memL n (prB (S.take k.toNat)) else []
def isV (v x:Int):Bool:=decide (x=v)
theorem b57 (xs:List Int) (v:Int):body Tp [] { loops:=[(0,anIx 8 (isV v) xs 0)] } true f59 [Ls xs,I v] (I (Da (isV v) xs)):=by
 (repeat' first|refine ZG ?_|refine Zg fun _=>?_);refine ⟨⟨(0:Nat),⟨aK _,fun j hj=>absurd hj (bV _)⟩,ZE⟩,fun (i:Nat) hi=>?_⟩;obtain ⟨hi,hb⟩:=hi;(apply Br.mk<;>intro)
 ·have hlt:i<xs.length:=om;(repeat' first|refine ZG ?_|refine Zg fun _=>?_);(apply Br.mk<;>intro)
  ·rename_i hh;(conv=>whnf);exact ⟨rfl,(Xv 0 hlt (qU om) hb).symm⟩
  rename_i hh;(repeat refine ZG ?_);refine ⟨(i+1:Nat),by show xs.length-(i+1)<xs.length-i;omega,⟨hlt,fun j hj=>?_⟩,ZE⟩;by_cases e:j=i
  ·subst e;exact decide_eq_false om
  exact hb j om
 have hii:i=xs.length:=om;subst hii;(conv=>whnf);exact ⟨rfl,(Xu 0 hb).symm⟩
def c57:Con:=aR 59 true fun args K=>match args with | [.seq (.int .i64) xs,.val (.int .i64 v)]=>K (I (Da (isV v) xs)) | _=>False
theorem k57:aO Tp c57:=by
 refine kO func59 fun args K h=>?_;simp only[c57] at h;split at h
 ·rename_i xs v;exact ⟨_,h,triB func59 ntmps59 si (b57 xs v)⟩
 cases h
theorem aJh (xs:List Int) (v:Int):xs.any (isV v)=true↔v∈xs:=by
 rw[lK];constructor
 ·rintro ⟨x,hx,h⟩;have:=eO h;subst this;exact hx
 intro h;exact ⟨v,h,qU rfl⟩
theorem b21 (xs:List Int) (v:Int):body Tp [c57] {} true f25 [Ls xs,I v] (.bl (v∈xs) inferInstance):=by
 (conv=>whnf);exact (aDr _ _).trans (aJh xs v)
def c21:Con:=aR 25 true fun args K=>match args with | [.seq (.int .i64) xs,.val (.int .i64 v)]=>K (.bl (v∈xs) inferInstance) | _=>False
theorem k21:aO Tp c21:=by
 refine kO func25 fun args K h=>?_;simp only[c21] at h;split at h
 ·rename_i xs v;exact ⟨_,h,triB func25 ntmps25 (by simp[k57]) (b21 xs v)⟩
 cases h
end EB
end
section
open Go Go.Proofs Go.Eng Go.Shelf IB Go.Lib Go.RowKit Tryz
namespace RB
def nP (v:V2):P2:=(numS v.1,numS v.2)
theorem wY {a b c:V2} (ha:Sz 36 a.1/\Sz 36 a.2) (hb:Sz 36 b.1/\Sz 36 b.2) (hc:Sz 36 c.1/\Sz 36 c.2):trnOK (nP a) (nP b) (nP c) (rE a b c):=by
 have s1:=hb.1.sub ha.1;have s2:=hc.2.sub ha.2;have s3:=hb.2.sub ha.2;have s4:=hc.1.sub ha.1;refine ⟨_,_,_,_,_,_,pG hb.1 ha.1 de de de,pG hc.2 ha.2 de de de,pG hb.2 ha.2 de de de,pG hc.1 ha.1 de de de,pH s1 s2 de de de,pH s3 s4 de de de,?_⟩;rw[vC (s1.mul s2) (s3.mul s4) de de de];rfl
theorem Ey (q a:V2):rE q q a=0:=by
 unfold rE;rw[qQ,yE,yE,oH,oH]
theorem Iy {a b:V2} (ha:Sz 36 a.1/\Sz 36 a.2) (hb:Sz 36 b.1/\Sz 36 b.2):ordS (nP a) (nP b)=ordR a b:=by
 unfold ordS ordR nP;dsimp only;rw[vC ha.1 hb.1 de de de,vC ha.2 hb.2 de de de]
theorem Pu {c:Prop} [Decidable c] (x y:V2):(if c then nP x else nP y)=nP (if c then x else y):=by split<;>rfl
theorem Pv {c:Prop} [Decidable c] {x y:V2} (hx:Sz 36 x.1/\Sz 36 x.2) (hy:Sz 36 y.1/\Sz 36 y.2):Sz 36 (if c then x else y).1/\Sz 36 (if c then x else y).2:=by
 split
 ·exact hx
 exact hy
theorem aM2 {a b q:V2} (ha:Sz 36 a.1/\Sz 36 a.2) (hb:Sz 36 b.1/\Sz 36 b.2) (hq:Sz 36 q.1/\Sz 36 q.2):mgS (nP a) (nP b) (nP q) (rE a b q)=sgO a b q:=by
 have e1:loS (nP a) (nP b)=nP (if 0<ordR a b then b else a):=by
  unfold loS;rw[Iy ha hb,Pu]
 have e2:hiS (nP a) (nP b)=nP (if 0<ordR a b then a else b):=by
  unfold hiS;rw[Iy ha hb,Pu]
 unfold mgS sgO;rw[e1,e2];have zl:Sz 36 (if 0<ordR a b then b else a).1/\Sz 36 (if 0<ordR a b then b else a).2:=Pv hb ha;have zh:Sz 36 (if 0<ordR a b then a else b).1/\Sz 36 (if 0<ordR a b then a else b).2:=Pv ha hb;dsimp only;generalize (if 0<ordR a b then b else a)=L at*;generalize (if 0<ordR a b then a else b)=U at*;rw[Iy hq zl,Iy hq zh,Pu,Pu,Iy (Pv hq zl) (Pv hq zh)]
theorem Nn {s:Sp} (h:okS s):(s.1,s.2.1)=nP (v2 s)/\Sz 36 (v2 s).1/\Sz 36 (v2 s).2:=by
 obtain ⟨⟨e1,e2,e3⟩,z1,z2,z3⟩:=xU h;refine ⟨?_,z1,z2⟩;unfold nP v2;dsimp only;rw[<- e1,<- e2]
theorem No {s:Sp} (h:okS s):okP (s.1,s.2.1):=by
 obtain ⟨h1,h2,h3,h4⟩:=h;obtain ⟨c1,c2,c3⟩:=qR.1 h1;exact ⟨⟨c1,h2⟩,c2,h3⟩
theorem mg_ok {a b q:Sp} (ha:okS a) (hb:okS b) (hq:okS q):mgOK (a.1,a.2.1) (b.1,b.2.1) (q.1,q.2.1) (sgO (v2 a) (v2 b) (v2 q)):=by
 obtain ⟨e1,za⟩:=Nn ha;obtain ⟨e2,zb⟩:=Nn hb;obtain ⟨e3,zq⟩:=Nn hq;rw[e1,e2,e3];refine ⟨_,wY za zb zq,?_,?_,(aM2 za zb zq).symm⟩
 ·have:=wY zq zq za;rwa [Ey] at this
 have:=wY zq zq zb;rwa [Ey] at this
def onP (ks:List Int) (s:Sp) (x:Lin):Prop:=x.1∈ks/\0<sgO (v2 x.2.1) (v2 x.2.2.1) (v2 s)
def aL2:Con:=aR 121 true fun | [.agg [.val (.int .i64 k),.str a,.str b,.str c,.str d,.str e,.str g,.val (.int .i64 u),.val (.int .i64 v)],.lelem [.seq (.int .i64) ks] 0,.lelem [.str q1,.str q2,.str q3] 0],K=>Need ((okS (a,b,c)/\okS (d,e,g))/\okS (q1,q2,q3)) (K (.bl (onP ks (q1,q2,q3) (k,(a,b,c),(d,e,g),u,v)) Cp)) | _,_=>False
theorem k3121:aO Tp aL2:=by
 refine kQ {} func121 ntmps121 (kc EB.k21 (kc k3123 (kc k3122 kn))) fun _ _ h=>?_;split at h;case h_2=>cases h
 rename_i k a b c d e g u v ks q1 q2 q3;have h0:=h.ok;refine kb h.go ?_;by_cases hk:k∈ks
 ·have hm:mgOK (a,b) (d,e) (q1,q2) (sgO (v2 (a,b,c)) (v2 (d,e,g)) (v2 (q1,q2,q3))):=mg_ok h0.1.1 h0.1.2 h0.2;have hp:(q1=q1/\q2=q2)/\okP (a,b)/\okP (d,e)/\okP (q1,q2):=⟨⟨rfl,rfl⟩,No h0.1.1,No h0.1.2,No h0.2⟩;have hq:onP ks (q1,q2,q3) (k,(a,b,c),(d,e,g),u,v)↔0<sgO (v2 (a,b,c)) (v2 (d,e,g)) (v2 (q1,q2,q3)):=⟨fun h=>h.2,fun h=>⟨hk,h⟩⟩;generalize onP ks (q1,q2,q3) (k,(a,b,c),(d,e,g),u,v)=M at*;generalize sgO (v2 (a,b,c)) (v2 (d,e,g)) (v2 (q1,q2,q3))=r at*;(repeat'((conv=>whnf);first|refine .h ?_|refine Zn ?_|apply pI|apply pJ|refine Zy ?_|refine Zm ?_|fail));(conv=>whnf);all_goals exact hq.symm
 have hq:¬onP ks (q1,q2,q3) (k,(a,b,c),(d,e,g),u,v):=fun h=>hk h.1;generalize onP ks (q1,q2,q3) (k,(a,b,c),(d,e,g),u,v)=M at*;(repeat refine ZR ?_);(conv=>whnf);all_goals exact hq
def badX (x:Lin):Prop:=¬(okS x.2.1/\okS x.2.2.1)
theorem b70a (l:List Lin):body Tp [aLj] { asks:=[(0,[])] } true f70 [.seq tLin l,.clo 42 [] []] (I (ixG badX l)):=by
 (repeat'((conv=>whnf);first|refine Zg fun _=>?_|fail));refine Ask.mk ⟨{ X:=Nat,pre:=fun i=>i<=l.length/\∀j,j<i->¬badX (l.getD j lin0),mod:=fun i _=>[(8,I i)],heap:=fun i H=>H,mu:=fun i=>l.length-i },rfl,?_⟩;(repeat refine ZG ?_);refine ⟨⟨(0:Nat),⟨aK _,fun j hj=>om⟩,ZE⟩,fun (i:Nat) hi=>?_⟩;obtain ⟨hi,hp⟩:=hi;by_cases hlt:i<l.length
 ·(repeat' first|refine ZR ?_|refine Zg fun _=>?_);(apply Br.mk<;>intro)
  ·rename_i hb;have e:=Bz badX lin0 hlt hb hp;rw[e];exact ZF
  rename_i hb;(repeat refine ZR ?_);refine ⟨(i+1:Nat),by show l.length-(i+1)<l.length-i;omega,⟨hlt,fun j hj=>?_⟩,ZE⟩;by_cases e:j=i
  ·subst e;exact hb
  exact hp j om
 have e:i=l.length:=om;subst e;rw[Ca badX lin0 hp];exact ZRF
theorem b70b (l:List Lin) (ks:List Int) (q1 q2 q3:Bx) (h0:(∀j,j<l.length->okS (l.getD j lin0).2.1/\okS (l.getD j lin0).2.2.1)/\okS (q1,q2,q3)):body Tp [aL2] { asks:=[(0,[])] } true f70 [.seq tLin l,.clo 121 [] [.lelem [.seq (.int .i64) ks] 0,.lelem [S q1,S q2,S q3] 0]] (I (ixG (onP ks (q1,q2,q3)) l)):=by
 obtain ⟨hl,hs⟩:=h0;(repeat'((conv=>whnf);first|refine Zg fun _=>?_|fail));refine Ask.mk ⟨{ X:=Nat,pre:=fun i=>i<=l.length/\∀j,j<i->¬onP ks (q1,q2,q3) (l.getD j lin0),mod:=fun i _=>[(8,I i)],heap:=fun i H=>H,mu:=fun i=>l.length-i },rfl,?_⟩;(repeat refine ZG ?_);refine ⟨⟨(0:Nat),⟨aK _,fun j hj=>om⟩,ZE⟩,fun (i:Nat) hi=>?_⟩;obtain ⟨hi,hp⟩:=hi;by_cases hlt:i<l.length
 ·have hc:(okS ((l.getD i lin0).2.1.1,(l.getD i lin0).2.1.2.1,(l.getD i lin0).2.1.2.2)/\okS ((l.getD i lin0).2.2.1.1,(l.getD i lin0).2.2.1.2.1,(l.getD i lin0).2.2.1.2.2))/\okS (q1,q2,q3):=⟨hl i hlt,hs⟩;(repeat' first|refine ZR ?_|refine Zg fun _=>?_);(apply Br.mk<;>intro)
  ·rename_i hb;have e:=Bz (onP ks (q1,q2,q3)) lin0 hlt hb hp;rw[e];exact ZF
  rename_i hb;(repeat refine ZR ?_);refine ⟨(i+1:Nat),by show l.length-(i+1)<l.length-i;omega,⟨hlt,fun j hj=>?_⟩,ZE⟩;by_cases e:j=i
  ·subst e;exact hb
  exact hp j om
 have e:i=l.length:=om;subst e;rw[Ca (onP ks (q1,q2,q3)) lin0 hp];exact ZRF
theorem b3274 (a b:Bx):body Tp [c43] {} true f274 [S a,S b] (I (cmpQ a b).1):=by
 exact ZF
def aBc:Con:=aR 274 true fun args K=>match args with | [.str a,.str b]=>K (I (cmpQ a b).1) | _=>False
theorem aMe:aO Tp aBc:=by
 refine kO func274 fun args K h=>?_;simp only[aBc] at h;split at h
 ·rename_i a b;exact ⟨_,h,triB func274 ntmps274 (by simp[k43]) (b3274 a b)⟩
 cases h
theorem b3276 (a b r:Bx) (h:subQ a b=(r,0)):body Tp [c40n] {} true f276 [S a,S b] (S r):=by
 (repeat refine ZH ?_);(conv=>whnf)
def aFp:Con:=aR 276 true fun args K=>match args with | [.str a,.str b]=>Alt (Has (fun r:Bx=>subQ a b=(r,0)) fun r=>K (S r)) False | _=>False
theorem k3276:aO Tp aFp:=by
 refine kO func276 fun args K h=>?_;simp only[aFp] at h;split at h
 ·rename_i a b;rcases h.or with h | h
  ·obtain ⟨r,hp,hK⟩:=h.ex;exact ⟨_,hK,triB func276 ntmps276 (by simp[k40n]) (b3276 a b r hp)⟩
  cases h
 cases h
theorem b3275 (a b r:Bx) (h:mulQ a b=(r,0)):body Tp [c41n] {} true f275 [S a,S b] (S r):=by
 (repeat refine ZH ?_);(conv=>whnf)
def aFq:Con:=aR 275 true fun args K=>match args with | [.str a,.str b]=>Alt (Has (fun r:Bx=>mulQ a b=(r,0)) fun r=>K (S r)) False | _=>False
theorem k3275:aO Tp aFq:=by
 refine kO func275 fun args K h=>?_;simp only[aFq] at h;split at h
 ·rename_i a b;rcases h.or with h | h
  ·obtain ⟨r,hp,hK⟩:=h.ex;exact ⟨_,hK,triB func275 ntmps275 (by simp[k41n]) (b3275 a b r hp)⟩
  cases h
 cases h
theorem b3225 (a1 a2 b1 b2 d1 d2:Bx) (r:Int) (h:trnOK (a1,a2) (b1,b2) (d1,d2) r):body Tp [aFp,aFq,aBc] {} true f225 [.agg [S a1,S a2],.agg [S b1,S b2],.agg [S d1,S d2]] (I r):=by
 obtain ⟨p1,p2,q1,q2,x,y,h1,h2,h3,h4,h5,h6,rfl⟩:=h;dsimp only at h1 h2 h3 h4;(repeat'((conv=>whnf);first|refine .h ?_|apply pI|apply pJ|fail));exact ZF
def aFr:Con:=aR 225 true fun args K=>match args with | [.agg [.str a1,.str a2],.agg [.str b1,.str b2],.agg [.str d1,.str d2]]=>Alt (Has (fun r:Int=>trnOK (a1,a2) (b1,b2) (d1,d2) r) fun r=>K (I r)) False | _=>False
theorem k3225:aO Tp aFr:=by
 refine kO func225 fun args K h=>?_;simp only[aFr] at h;split at h
 ·rename_i a1 a2 b1 b2 d1 d2;rcases h.or with h | h
  ·obtain ⟨r,hp,hK⟩:=h.ex;exact ⟨_,hK,triB func225 ntmps225 (by simp[k3276,k3275,aMe]) (b3225 a1 a2 b1 b2 d1 d2 r hp)⟩
  cases h
 cases h
def onQ (a b p:P2):Prop:=(cmpQ p.1 a.1).1*(cmpQ p.1 b.1).1<=0/\(cmpQ p.2 a.2).1*(cmpQ p.2 b.2).1<=0
theorem aBd {x y:Int} (h1: -1<=x/\x<=1) (h2: -1<=y/\y<=1): -1<=x*y/\x*y<=1:=by
 have e1:x= -1\/x=0\/x=1:=om;have e2:y= -1\/y=0\/y=1:=om;rcases e1 with rfl | rfl | rfl<;>rcases e2 with rfl | rfl | rfl<;>decide
theorem b3226 (a1 a2 b1 b2 p1 p2:Bx):body Tp [aBc] {} true f226 [.agg [S a1,S a2],.agg [S b1,S b2],.agg [S p1,S p2]] (.bl (onQ (a1,a2) (b1,b2) (p1,p2)) Cp):=by
 have e:onQ (a1,a2) (b1,b2) (p1,p2)↔((cmpQ p1 a1).1*(cmpQ p1 b1).1<=0/\(cmpQ p2 a2).1*(cmpQ p2 b2).1<=0):=gQ;have r1:=aBd (pR p1 a1) (pR p1 b1);have r2:=aBd (pR p2 a2) (pR p2 b2);generalize onQ (a1,a2) (b1,b2) (p1,p2)=M at e ⊢;by_cases h1:(cmpQ p1 a1).1*(cmpQ p1 b1).1<=0
 ·(repeat'((conv=>whnf);first|refine Zn ?_|apply pI|apply pJ|refine Zy ?_|fail));(conv=>whnf);all_goals exact ⟨fun q=>e.2 ⟨h1,q⟩,fun q=>(e.1 q).2⟩
 (repeat'((conv=>whnf);first|refine Zn ?_|apply pI|apply pJ|refine Zm ?_|fail));(conv=>whnf);all_goals exact fun q=>h1 (e.1 q).1
def aFs:Con:=aR 226 true fun args K=>match args with | [.agg [.str a1,.str a2],.agg [.str b1,.str b2],.agg [.str p1,.str p2]]=>K (.bl (onQ (a1,a2) (b1,b2) (p1,p2)) Cp) | _=>False
theorem k3226:aO Tp aFs:=by
 refine kO func226 fun args K h=>?_;simp only[aFs] at h;split at h
 ·rename_i a1 a2 b1 b2 p1 p2;exact ⟨_,h,triB func226 ntmps226 (by simp[aMe]) (b3226 a1 a2 b1 b2 p1 p2)⟩
 cases h
structure SegF (a b q:P2) (t:Int):Prop where
 rng: -1<=t/\t<=1
 abq:trnOK a b q t
 qqa:trnOK q q a 0
 qqb:trnOK q q b 0
 qqq:trnOK q q q 0
 aba:trnOK a b a 0
 abb:trnOK a b b 0
 oqa:onQ q q a↔a=q
 oqb:onQ q q b↔b=q
 oqq:onQ q q q
 oaa:onQ a b a
 obb:onQ a b b
 sa:a=q->t=0
 sb:b=q->t=0
def sgQ (a b q:P2) (t:Int):Int:=by
 classical
 exact if t=0/\onQ a b q then 1 else 0
theorem Ie {a b q:P2} {t:Int} (h:t=0/\onQ a b q):sgQ a b q t=1:=aD h
theorem Xt {a b q:P2} {t:Int} (h:¬(t=0/\onQ a b q)):sgQ a b q t=0:=aC h
theorem aBe {p q:Rat} (h:numS p=numS q):p=q:=by rw[<- gM p,h,gM]
theorem Px {a b:V2}:nP a=nP b↔a=b:=by
 constructor
 ·intro h;unfold nP at h;rw[eF] at h;exact eC (aBe h.1) (aBe h.2)
 intro h;rw[h]
theorem Nq {a b p:V2} (ha:Sz 36 a.1/\Sz 36 a.2) (hb:Sz 36 b.1/\Sz 36 b.2) (hp:Sz 36 p.1/\Sz 36 p.2):onQ (nP a) (nP b) (nP p)↔onR a b p:=by
 unfold onQ onR nP;dsimp only;rw[vC hp.1 ha.1 de de de,vC hp.1 hb.1 de de de,vC hp.2 ha.2 de de de,vC hp.2 hb.2 de de de]
theorem aFt {x y:Rat}:cmpR x y*cmpR x y<=0↔x=y:=by
 rw[<- qQ];rcases nN x y with h | h | h<;>rw[h]<;>decide
theorem Py {q a:V2}:onR q q a↔a=q:=by
 unfold onR;rw[aFt,aFt];exact ⟨fun h=>eC h.1 h.2,fun h=>by rw[h];exact ⟨rfl,rfl⟩⟩
theorem aNb (a b:V2):onR a b a:=by
 unfold onR;rw[iU,iU,tM,tM];exact ⟨fX _,fX _⟩
theorem aNc (a b:V2):onR a b b:=by
 unfold onR;rw[iU,iU,dL,dL];exact ⟨fX _,fX _⟩
theorem Tj (a b:V2):rE a b a=0:=by
 unfold rE;rw[qQ,yE,yE,Rat.mul_zero,Rat.mul_zero]
theorem Tk (a b:V2):rE a b b=0:=by
 unfold rE;rw[qQ,Rat.mul_comm]
theorem aNd {a b q:Sp} (ha:okS a) (hb:okS b) (hq:okS q):SegF (a.1,a.2.1) (b.1,b.2.1) (q.1,q.2.1) (rE (v2 a) (v2 b) (v2 q))/\(sgQ (a.1,a.2.1) (b.1,b.2.1) (q.1,q.2.1) (rE (v2 a) (v2 b) (v2 q))=1↔0<sgO (v2 a) (v2 b) (v2 q)):=by
 obtain ⟨e1,za⟩:=Nn ha;obtain ⟨e2,zb⟩:=Nn hb;obtain ⟨e3,zq⟩:=Nn hq;rw[e1,e2,e3,aNs];have h1:=wY za zb zq;have h2:=wY zq zq za;have h3:=wY zq zq zb;have h4:=wY zq zq zq;have h5:=wY za zb za;have h6:=wY za zb zb;rw[Ey] at h2 h3 h4;rw[Tj] at h5;rw[Tk] at h6;refine ⟨⟨by unfold rE;rcases nN (((v2 b).1-(v2 a).1)*((v2 q).2-(v2 a).2)) (((v2 b).2-(v2 a).2)*((v2 q).1-(v2 a).1)) with h | h | h<;>rw[h]<;>decide,h1,h2,h3,h4,h5,h6,by rw[Nq zq zq za,Py,Px],by rw[Nq zq zq zb,Py,Px],(Nq zq zq zq).2 (Py.2 rfl),(Nq za zb za).2 (aNb _ _),(Nq za zb zb).2 (aNc _ _),fun h=>by rw[<- Px.1 h];exact Tj _ _,fun h=>by rw[<- Px.1 h];exact Tk _ _⟩,?_⟩;rw[<- Nq za zb zq];by_cases h:rE (v2 a) (v2 b) (v2 q)=0/\onQ (nP (v2 a)) (nP (v2 b)) (nP (v2 q))
 ·rw[Ie h];exact ⟨fun _=>h,fun _=>rfl⟩
 rw[Xt h];exact ⟨fun q=>absurd q de,fun q=>absurd q h⟩
theorem b3177 (a1 a2 b1 b2 q1 q2 e1 e2:Bx) (h0:e1=q1/\e2=q2) (t:Int) (h:SegF (a1,a2) (b1,b2) (q1,q2) t):body Tp [aFr,aFs] {} true f177 [.agg [S a1,S a2],.agg [S b1,S b2],.agg [S q1,S q2],.agg [S e1,S e2]] (I (sgQ (a1,a2) (b1,b2) (q1,q2) t)):=by
 obtain ⟨rfl,rfl⟩:=h0;obtain ⟨hr,x1,x2,x3,x4,x5,x6,o1,o2,o3,o4,o5,s1,s2⟩:=h;by_cases hz:t=0
 ·subst hz;by_cases A:((a1,a2):P2)=(e1,e2);case' pos=>
   obtain ⟨rfl,rfl⟩:=fP A;rw[Ie ⟨rfl,o4⟩];by_cases B:((b1,b2):P2)=(a1,a2);case' pos=>
    obtain ⟨rfl,rfl⟩:=fP B
   case' neg=>have o2:¬onQ (a1,a2) (a1,a2) (b1,b2):=fun q=>B (o2.1 q)
  rotate_left 2
  case' neg=>
   have o1:¬onQ (e1,e2) (e1,e2) (a1,a2):=fun q=>A (o1.1 q);by_cases B:((b1,b2):P2)=(e1,e2);case' pos=>
    obtain ⟨rfl,rfl⟩:=fP B;rw[Ie ⟨rfl,o5⟩]
   case' neg=>
    have o2:¬onQ (e1,e2) (e1,e2) (b1,b2):=fun q=>B (o2.1 q);by_cases O:onQ (a1,a2) (b1,b2) (e1,e2);case' pos=>rw[Ie ⟨rfl,O⟩]
    case' neg=>rw[Xt fun q=>O q.2]
  all_goals
   clear s1 s2;(repeat'((conv=>whnf);first|apply pI|apply pJ|refine .h ?_|refine Zy ?_|fail));refine Own.r ?_;(repeat' first|refine ZH ?_|refine Zg fun _=>?_);(conv=>whnf)
   repeat' (first | ((refine Br.mkN ?h ?_;case h=>simp);(repeat' first|refine ZH ?_|refine Zg fun _=>?_);(conv=>whnf)) | ((refine Br.mkY ?h ?_;case h=>simp);(repeat'((conv=>whnf);first|refine Zn ?_|refine Z0 ?_|apply pI|apply pJ|fail));(conv=>whnf)) | ((refine Need.mk ⟨⟨de,de,trivial⟩,kr⟩ ?_);(repeat' first|refine ZH ?_|refine Zg fun _=>?_);(conv=>whnf)) | fail)
   all_goals exact ⟨rfl,rfl⟩
 rw[Xt fun q=>hz q.1];have o1:¬onQ (e1,e2) (e1,e2) (a1,a2):=fun q=>hz (s1 (o1.1 q));have o2:¬onQ (e1,e2) (e1,e2) (b1,b2):=fun q=>hz (s2 (o2.1 q));have hm:¬t*t<=0:=by
  have:t=1\/t= -1:=om;rcases this with rfl | rfl<;>decide
 have hm2: -9223372036854775808<=t*t/\t*t<=9223372036854775807:=by
  have:t=1\/t= -1:=om;rcases this with rfl | rfl<;>decide
 (repeat'((conv=>whnf);first|refine .h ?_|refine Zn ?_|apply pI|apply pJ|refine Zy ?_|refine Zm ?_|fail));exact ZF
def aFu:Con:=aR 177 true fun args K=>match args with
 | [.agg [.str a1,.str a2],.agg [.str b1,.str b2],.agg [.str d1,.str d2],.agg [.str e1,.str e2]]=>Need (e1=d1/\e2=d2) (Alt (Has (fun t:Int=>SegF (a1,a2) (b1,b2) (d1,d2) t) fun t=>K (I (sgQ (a1,a2) (b1,b2) (d1,d2) t))) False)
 | _=>False
theorem k3177:aO Tp aFu:=by
 refine kO func177 fun args K h=>?_;simp only[aFu] at h;split at h
 ·rename_i a1 a2 b1 b2 d1 d2 e1 e2;rcases h.go.or with hk | hk
  ·obtain ⟨r,hp,hK⟩:=hk.ex;exact ⟨_,hK,triB func177 ntmps177 (by simp[k3225,k3226]) (b3177 a1 a2 b1 b2 d1 d2 e1 e2 h.ok r hp)⟩
  cases hk
 cases h
theorem b3224 (a:Bx) (h:chkQ a=0/\dK 36 (valQ a)):body Tp [aLe] {} true f224 [S a] (.val (.bool true)):=by
 obtain ⟨h,hd⟩:=h;have e:=Gq h;have e1:(ptQ a).1=pn (valQ a):=by rw[e]
 have e2:(ptQ a).2=pd (valQ a):=by rw[e]
 have hl:0<(ptQ a).1.length:=by rw[e1];exact Pw _
 obtain ⟨m1,m2⟩:=dK_n.1 hd;rw[<- e1] at m1;rw[<- e2] at m2;by_cases hb:bE (ptQ a).1 0=45
 ·have ed:(digs (ptQ a).1).length=(ptQ a).1.length-1:=by rw[uU hl hb,bB]
  rw[ed] at m1;have hdr:(List.drop 1 (ptQ a).1).length=(ptQ a).1.length-1:=bB;(repeat' first|refine ZR ?_|refine Zg fun _=>?_);(conv=>whnf);all_goals exact ⟨fun _=>rfl,fun _=>om⟩
 have ed:(digs (ptQ a).1).length=(ptQ a).1.length:=by rw[rY fun _=>hb];rfl
 rw[ed] at m1;(repeat' first|refine ZR ?_|refine Zg fun _=>?_);(conv=>whnf);all_goals exact ⟨fun _=>rfl,fun _=>om⟩
def aFv:Con:=aR 224 true fun args K=>match args with | [.str a]=>Need (chkQ a=0/\dK 36 (valQ a)) (K (.val (.bool true))) | _=>False
theorem k3224:aO Tp aFv:=by
 refine kO func224 fun args K h=>?_;simp only[aFv] at h;split at h
 ·rename_i a;exact ⟨_,h.go,triB func224 ntmps224 (by simp[aAv]) (b3224 a h.ok)⟩
 cases h
theorem b3176 (a b:Bx) (h:okP (a,b)):body Tp [c44,aFv] {} true f176 [.agg [S a,S b]] (I 0):=by
 obtain ⟨⟨h1,h2⟩,h3,h4⟩:=h;dsimp only at h1 h2 h3 h4;have j1:chkQ a=0/\dK 36 (valQ a):=⟨h1,h2⟩;have j2:chkQ b=0/\dK 36 (valQ b):=⟨h3,h4⟩;exact ZRF
def aFw:Con:=aR 176 true fun args K=>match args with | [.agg [.str a,.str b]]=>Need (okP (a,b)) (K (I 0)) | _=>False
theorem k3176:aO Tp aFw:=by
 refine kO func176 fun args K h=>?_;simp only[aFw] at h;split at h
 ·rename_i a b;exact ⟨_,h.go,triB func176 ntmps176 (by simp[k44,k3224]) (b3176 a b h.ok)⟩
 cases h
theorem b3135 (a1 a2 b1 b2 d1 d2 e1 e2:Bx) (h0:(e1=d1/\e2=d2)/\okP (a1,a2)/\okP (b1,b2)/\okP (d1,d2)) (t:Int) (h:SegF (a1,a2) (b1,b2) (d1,d2) t):body Tp [aFw,aFu] {} true f135 [.agg [S a1,S a2],.agg [S b1,S b2],.agg [S d1,S d2],.agg [S e1,S e2]] (.tup [I (sgQ (a1,a2) (b1,b2) (d1,d2) t),I 0]):=by
 obtain ⟨⟨rfl,rfl⟩,g1,g2,g3⟩:=h0;have g4:e1=e1/\e2=e2:=⟨rfl,rfl⟩;exact ZHF
def aMf:Con:=aR 135 true fun args K=>match args with
 | [.agg [.str a1,.str a2],.agg [.str b1,.str b2],.agg [.str d1,.str d2],.agg [.str e1,.str e2]]=>Need ((e1=d1/\e2=d2)/\okP (a1,a2)/\okP (b1,b2)/\okP (d1,d2)) (Alt (Has (fun t:Int=>SegF (a1,a2) (b1,b2) (d1,d2) t) fun t=>K (.tup [I (sgQ (a1,a2) (b1,b2) (d1,d2) t),I 0])) False)
 | _=>False
theorem k3135:aO Tp aMf:=by
 refine kO func135 fun args K h=>?_;simp only[aMf] at h;split at h
 ·rename_i a1 a2 b1 b2 d1 d2 e1 e2;rcases h.go.or with hk | hk
  ·obtain ⟨r,hp,hK⟩:=hk.ex;exact ⟨_,hK,triB func135 ntmps135 (by simp[k3176,k3177]) (b3135 a1 a2 b1 b2 d1 d2 e1 e2 h.ok r hp)⟩
  cases hk
 cases h
def aA4:Con:=aR 70 true fun args K=>match args with
 | [.seq (.pair (.int .i64) (.pair (.pair .str (.pair .str .str)) (.pair (.pair .str (.pair .str .str)) (.pair (.int .i64) (.int .i64))))) l,.clo 42 [] []]=>K (I (ixG badX l))
 | [.seq (.pair (.int .i64) (.pair (.pair .str (.pair .str .str)) (.pair (.pair .str (.pair .str .str)) (.pair (.int .i64) (.int .i64))))) l,.clo 121 [] [.lelem [.seq (.int .i64) ks] 0,.lelem [.str q1,.str q2,.str q3] 0]]=>Need ((∀j,j<l.length->okS (l.getD j lin0).2.1/\okS (l.getD j lin0).2.2.1)/\okS (q1,q2,q3)) (K (I (ixG (onP ks (q1,q2,q3)) l)))
 | _=>False
theorem aL3:aO Tp aA4:=by
 refine kO func70 fun args K h=>?_;simp only[aA4] at h;split at h
 ·rename_i l;exact ⟨_,h,triB func70 ntmps70 (by simp[k3042]) (b70a l)⟩
 ·rename_i l ks q1 q2 q3;exact ⟨_,h.go,triB func70 ntmps70 (by simp[k3121]) (b70b l ks q1 q2 q3 h.ok)⟩
 cases h
theorem b41a (l:List Lin):body Tp [aA4] {} true f41 [.seq tLin l,.clo 42 [] []] (.bl (0<=ixG badX l) inferInstance):=by
 (conv=>whnf)
theorem b41b (l:List Lin) (ks:List Int) (q1 q2 q3:Bx) (h0:(∀j,j<l.length->okS (l.getD j lin0).2.1/\okS (l.getD j lin0).2.2.1)/\okS (q1,q2,q3)):body Tp [aA4] {} true f41 [.seq tLin l,.clo 121 [] [.lelem [.seq (.int .i64) ks] 0,.lelem [S q1,S q2,S q3] 0]] (.bl (0<=ixG (onP ks (q1,q2,q3)) l) inferInstance):=by
 (repeat refine ZR ?_);(conv=>whnf)
def aA5:Con:=aR 41 true fun args K=>match args with
 | [.seq (.pair (.int .i64) (.pair (.pair .str (.pair .str .str)) (.pair (.pair .str (.pair .str .str)) (.pair (.int .i64) (.int .i64))))) l,.clo 42 [] []]=>K (.bl (0<=ixG badX l) inferInstance)
 | [.seq (.pair (.int .i64) (.pair (.pair .str (.pair .str .str)) (.pair (.pair .str (.pair .str .str)) (.pair (.int .i64) (.int .i64))))) l,.clo 121 [] [.lelem [.seq (.int .i64) ks] 0,.lelem [.str q1,.str q2,.str q3] 0]]=>Need ((∀j,j<l.length->okS (l.getD j lin0).2.1/\okS (l.getD j lin0).2.2.1)/\okS (q1,q2,q3)) (K (.bl (0<=ixG (onP ks (q1,q2,q3)) l) inferInstance))
 | _=>False
theorem aFb:aO Tp aA5:=by
 refine kO func41 fun args K h=>?_;simp only[aA5] at h;split at h
 ·rename_i l;exact ⟨_,h,triB func41 ntmps41 (by simp[aL3]) (b41a l)⟩
 ·rename_i l ks q1 q2 q3;exact ⟨_,h.go,triB func41 ntmps41 (by simp[aL3]) (b41b l ks q1 q2 q3 h.ok)⟩
 cases h
def okLs (l:List Lin):Prop:=∀j,j<l.length->okS (l.getD j lin0).2.1/\okS (l.getD j lin0).2.2.1
def c3087:Con:=aR 87 true fun | [.seq (.pair (.int .i64) (.pair (.pair .str (.pair .str .str)) (.pair (.pair .str (.pair .str .str)) (.pair (.int .i64) (.int .i64))))) l,.agg [.str q1,.str q2,.str q3],.seq (.int .i64) ks],K=>Need (okLs l/\okS (q1,q2,q3)) (K (.bl (latP l (q1,q2,q3) ks) Cp)) | _,_=>False
theorem k3087:aO Tp c3087:=by
 refine kQ {} func87 ntmps87 (kc aFb kn) fun _ _ h=>?_;split at h;case h_2=>cases h
 rename_i l q1 q2 q3 ks;change List Lin at l;have h0:=h.ok;refine kb h.go ?_;have h1:(∀j,j<l.length->okS (l.getD j lin0).2.1/\okS (l.getD j lin0).2.2.1)/\okS (q1,q2,q3):=h0;have e:(0<=ixG (onP ks (q1,q2,q3)) l)↔latP l (q1,q2,q3) ks:=vA _ l lin0;generalize latP l (q1,q2,q3) ks=M at e ⊢;(repeat refine ZR ?_);(conv=>whnf);all_goals exact e
def aFc:Con:=aR 49 true fun | [.seq (.pair (.int .i64) (.pair (.pair .str (.pair .str .str)) (.pair (.pair .str (.pair .str .str)) (.pair (.int .i64) (.int .i64))))) ls,.agg [.val (.int .i64 k),.val (.int .i64 f),.val (.int .i64 o),.str a,.str b,.str c,.str d,.str e,.str g,.val (.int .i64 w),.val (.int .i64 t)],.bl pl dp],K=>Need (okLs ls/\okS (a,b,c)/\okS (d,e,g)) (K (.bl (walP ls (k,f,o,(a,b,c),(d,e,g),w,t) pl) Cp)) | _,_=>False
theorem aL4:aO Tp aFc:=by
 refine kQ {} func49 ntmps49 (kc aLp (kc aLn (kc k3087 kn))) fun _ _ h=>?_;split at h;case h_2=>cases h
 rename_i ls k f o a b c d e g w t pl dp;change List Lin at ls;have h0:=h.ok;refine kb h.go ?_;have g1:okLs ls/\okS (a,b,c):=⟨h0.1,h0.2.1⟩;have g2:okLs ls/\okS (d,e,g):=⟨h0.1,h0.2.2⟩;by_cases h1:k=10
 ·have hw:walP ls (k,f,o,(a,b,c),(d,e,g),w,t) pl:=by unfold walP;rw[aD h1];trivial
  generalize walP ls (k,f,o,(a,b,c),(d,e,g),w,t) pl=M at*;(repeat refine ZR ?_);(conv=>whnf);all_goals exact hw
 by_cases h2:sloP k\/hipP k
 ·have hw:walP ls (k,f,o,(a,b,c),(d,e,g),w,t) pl↔¬pl/\latP ls (a,b,c) [7]:=by unfold walP;rw[aC h1,aD h2]
  generalize walP ls (k,f,o,(a,b,c),(d,e,g),w,t) pl=M at*;by_cases hp:pl
  ·have hw':¬M:=fun h=>(hw.1 h).1 hp;by_cases h3:sloP k
   ·(repeat refine ZR ?_);(conv=>whnf);all_goals exact hw'
   have h4:hipP k:=h2.resolve_left h3;(repeat refine ZR ?_);(conv=>whnf);all_goals exact hw'
  have hw':latP ls (a,b,c) [7]↔M:=⟨fun h=>hw.2 ⟨hp,h⟩,fun h=>(hw.1 h).2⟩;by_cases h3:sloP k
  ·(repeat refine ZR ?_);(conv=>whnf);all_goals exact hw'
  have h4:hipP k:=h2.resolve_left h3;(repeat refine ZR ?_);(conv=>whnf);all_goals exact hw'
 have h3:¬sloP k:=fun h=>h2 (.inl h);have h4:¬hipP k:=fun h=>h2 (.inr h);by_cases h5:k=8\/k=9
 ·have hw:walP ls (k,f,o,(a,b,c),(d,e,g),w,t) pl↔latP ls (a,b,c) [4,5,8]\/latP ls (d,e,g) [4,5,8]:=by unfold walP;rw[aC h1,aC h2,aD h5]
  generalize walP ls (k,f,o,(a,b,c),(d,e,g),w,t) pl=M at*;have hm:latP ls (a,b,c) [4,5,8]->M:=fun h=>hw.2 (.inl h);have hn:¬latP ls (a,b,c) [4,5,8]->(latP ls (d,e,g) [4,5,8]↔M):=fun h=>⟨fun q=>hw.2 (.inr q),fun q=>(hw.1 q).resolve_left h⟩;by_cases h6:k=8
  ·(repeat refine ZR ?_);(apply Br.mk<;>intro)
   ·skip;(conv=>whnf);all_goals (rename_i q;exact hm q)
   (repeat refine ZR ?_);(conv=>whnf);all_goals (rename_i q;exact hn q)
  have h7:k=9:=om;(repeat refine ZR ?_);(apply Br.mk<;>intro)
  ·skip;(conv=>whnf);all_goals (rename_i q;exact hm q)
  (repeat refine ZR ?_);(conv=>whnf);all_goals (rename_i q;exact hn q)
 have hw:¬walP ls (k,f,o,(a,b,c),(d,e,g),w,t) pl:=by unfold walP;rw[aC h1,aC h2,aC h5];exact id
 generalize walP ls (k,f,o,(a,b,c),(d,e,g),w,t) pl=M at*;(repeat refine ZR ?_);(conv=>whnf);all_goals exact hw
def badY (m:Mem):Prop:=¬memE m=0
def c3076:Con:=aR 76 true fun | [.seq (.pair (.int .i64) (.pair (.int .i64) (.pair (.int .i64) (.pair (.pair .str (.pair .str .str)) (.pair (.pair .str (.pair .str .str)) (.pair (.int .i64) (.int .i64))))))) l,.clo 45 [] []],K=>K (I (ixG badY l)) | _,_=>False
theorem k3076:aO Tp c3076:=by
 refine kQ { asks:=[(0,[])] } func76 ntmps76 (kc k3045 kn) fun _ _ h=>?_;split at h;case h_2=>cases h
 rename_i l;change List Mem at l;refine kb h ?_;(repeat'((conv=>whnf);first|refine Zg fun _=>?_|fail));refine Ask.mk ⟨{ X:=Nat,pre:=fun i=>i<=l.length/\∀j,j<i->¬badY (l.getD j mem0),mod:=fun i _=>[(8,I i)],heap:=fun i H=>H,mu:=fun i=>l.length-i },rfl,?_⟩;(repeat refine ZG ?_);refine ⟨⟨(0:Nat),⟨aK _,fun j hj=>om⟩,ZE⟩,fun (i:Nat) hi=>?_⟩;obtain ⟨hi,hp⟩:=hi;by_cases hlt:i<l.length
 ·(repeat' first|refine ZR ?_|refine Zg fun _=>?_);(apply Br.mk<;>intro)
  ·rename_i hb;have e:=Bz badY mem0 hlt hb hp;rw[e];exact ZF
  rename_i hb;(repeat refine ZR ?_);refine ⟨(i+1:Nat),by show l.length-(i+1)<l.length-i;omega,⟨hlt,fun j hj=>?_⟩,ZE⟩;by_cases e:j=i
  ·subst e;exact hb
  exact hp j om
 have e:i=l.length:=om;subst e;rw[Ca badY mem0 hp];exact ZRF
def aFd:Con:=aR 44 true fun | [.seq (.pair (.int .i64) (.pair (.int .i64) (.pair (.int .i64) (.pair (.pair .str (.pair .str .str)) (.pair (.pair .str (.pair .str .str)) (.pair (.int .i64) (.int .i64))))))) l,.clo 45 [] []],K=>K (.bl (0<=ixG badY l) inferInstance) | _,_=>False
theorem aL5:aO Tp aFd:=by
 refine kQ {} func44 ntmps44 (kc k3076 kn) fun _ _ h=>?_;split at h;case h_2=>cases h
 refine kb h ?_;(conv=>whnf)
def othI (i j:Nat):Nat:=if j<i then j else j+1
def othN (i k:Nat):Nat:=if k<=i then k else k-1
theorem aM3 {i k:Nat} (h:¬k=i):othN i (k+1)=othN i k+1/\othI i (othN i k)=k:=by
 unfold othN othI;by_cases hc:k<i
 ·rw[aD (show k+1<=i by omega),aD (show k<=i by omega),aD hc];exact ⟨rfl,rfl⟩
 rw[aC (show ¬k+1<=i by omega),aC (show ¬k<=i by omega),aC (show ¬k-1<i by omega)];omega
theorem aM4 (i:Nat):othN i i=i/\othN i (i+1)=i:=by unfold othN;rw[aD om,aC om];exact ⟨rfl,om⟩
theorem aFe {i k n:Nat} (hi:i<n) (hk:k<n) (h:¬k=i):othN i k<n-1:=by unfold othN;split<;>omega
abbrev agM (m:Mem):SV:=.agg [I m.1,I m.2.1,I m.2.2.1,S m.2.2.2.1.1,S m.2.2.2.1.2.1,S m.2.2.2.1.2.2,S m.2.2.2.2.1.1,S m.2.2.2.2.1.2.1,S m.2.2.2.2.1.2.2,I m.2.2.2.2.2.1,I m.2.2.2.2.2.2]
abbrev itO (l:List Mem) (i:Nat) (k:Nat):List SV:=[I (othI i k:Nat),agM (l.getD (othI i k) mem0)]
theorem b86n (l:List Mem) (i:Nat) (h:i<l.length):Jv Tp [] { asks:=[(0,[])] } f86 [.lelem [.seq tMem l] 0,.wcel i] (l.length-1) (itO l i):=by
 (repeat'((conv=>whnf);first|refine Zg fun _=>?_|fail));refine Ask.mk ⟨{ X:=Nat,pre:=fun k=>k<=l.length,mod:=fun k _=>[(8,I k)],heap:=fun k H=>[.yst (some (othN i k)) (l.length-1) (itO l i)],mu:=fun k=>l.length-k },rfl,?_⟩;(repeat refine ZG ?_);refine ⟨⟨(0:Nat),aK _,ZE⟩,fun (k:Nat) hk=>?_⟩;have hk:k<=l.length:=hk;by_cases hlt:k<l.length
 ·by_cases hc:k=i
  ·subst hc;obtain ⟨h1,h2⟩:=aM4 k;(repeat' first|refine ZR ?_|refine Zg fun _=>?_);refine ⟨(k+1:Nat),by show l.length-(k+1)<l.length-k;omega,hlt,?_⟩;(repeat' first|exact trivial|rfl|apply aA);all_goals rw[h1,h2]
  obtain ⟨h1,h2⟩:=aM3 hc;have hne:¬(k:Int)=(i:Int):=om;have hlt2:othN i k<l.length-1:=aFe h hlt hc;have hit:itO l i (othN i k)= [I (k:Nat),agM (l.getD k mem0)]:=by unfold itO;rw[h2]
  (repeat'((conv=>whnf);first|refine Zg fun _=>?_|refine Zn ?_|refine Zj ?_|refine Zy ?_|fail));refine Need.mk (by rw[hit];(repeat' first|exact trivial|rfl|apply aA)) ?_;refine Two.mk ?_ ?_
  ·(repeat refine ZR ?_);refine ⟨(k+1:Nat),by show l.length-(k+1)<l.length-k;omega,hlt,?_⟩;(repeat' first|exact trivial|rfl|apply aA);all_goals rw[h1]
  skip;(conv=>whnf)
  trivial
 have e:k=l.length:=om;subst e;have h1:othN i l.length=l.length-1:=by unfold othN;rw[aC om]
 (repeat refine ZR ?_);(conv=>whnf);all_goals rw[h1]
theorem b3086 (l:List Mem) (i:Int) (h:0<=i/\i<l.length):Jv Tp [] { asks:=[(0,[])] } f86 [.lelem [.seq tMem l] 0,.wcel i] (l.length-1) (itO l i.toNat):=by
 obtain ⟨n,rfl⟩:=bT h.1;exact b86n l n om
def aA6:Con:=aR 86 false fun args K=>match args with | [.lelem [.seq (.pair (.int .i64) (.pair (.int .i64) (.pair (.int .i64) (.pair (.pair .str (.pair .str .str)) (.pair (.pair .str (.pair .str .str)) (.pair (.int .i64) (.int .i64))))))) l] 0,.wcel i]=>Need (0<=i/\i<l.length) (K (.itr (l.length-1) (itO l i.toNat))) | _=>False
theorem aL6:aO Tp aA6:=by
 refine kO func86 fun args K h=>?_;simp only[aA6] at h;split at h
 ·rename_i l i;exact ⟨_,h.go,tH si func86 (by simp[ntmps86]) (b3086 l i h.ok)⟩
 cases h
def aFf:Con:=aR 48 false fun | [.seq (.pair (.int .i64) (.pair (.int .i64) (.pair (.int .i64) (.pair (.pair .str (.pair .str .str)) (.pair (.pair .str (.pair .str .str)) (.pair (.int .i64) (.int .i64))))))) l,.val (.int .i64 i)],K=>K (.clo 86 [] [.lelem [.seq (.pair (.int .i64) (.pair (.int .i64) (.pair (.int .i64) (.pair (.pair .str (.pair .str .str)) (.pair (.pair .str (.pair .str .str)) (.pair (.int .i64) (.int .i64))))))) l] 0,.wcel i]) | _,_=>False
theorem aL7:aO Tp aFf:=by
 refine kQ {} func48 ntmps48 kn fun _ _ h=>?_;split at h;case h_2=>cases h
 refine kb h ?_;(conv=>whnf);(repeat' first|exact trivial|rfl|apply aA);all_goals (conv=>whnf)
 all_goals skip
def c3095:Con:=aR 95 true fun | [.agg [.val (.int .i64 k),.val (.int .i64 f),.val (.int .i64 o),.str a,.str b,.str c,.str d,.str e,.str g,.val (.int .i64 w),.val (.int .i64 t)]],K=>K (.bl (rafP k) Cp) | _,_=>False
theorem aMg:aO Tp c3095:=by
 refine kQ {} func95 ntmps95 kn fun _ _ h=>?_;split at h;case h_2=>cases h
 rename_i k f o a b c d e g w t;refine kb h ?_;unfold rafP;by_cases h:1<=k
 ·(repeat refine ZR ?_);(conv=>whnf);exact ⟨fun hh=>⟨h,hh⟩,fun hh=>hh.2⟩
 (repeat refine ZR ?_);(conv=>whnf);exact fun hh=>h hh.1
def c3092:Con:=aR 92 true fun | [.agg [.val (.int .i64 k),.val (.int .i64 f),.val (.int .i64 o),.str a,.str b,.str c,.str d,.str e,.str g,.val (.int .i64 w),.val (.int .i64 t)]],K=>K (.bl (sloP k) Cp) | _,_=>False
theorem aMh:aO Tp c3092:=by
 refine kQ {} func92 ntmps92 (kc aMg kn) fun _ _ h=>?_;split at h;case h_2=>cases h
 rename_i k f o a b c d e g w t;refine kb h ?_;by_cases h:rafP k
 ·(repeat refine ZR ?_);(conv=>whnf);exact .inl h
 (repeat refine ZR ?_);(conv=>whnf);exact ⟨fun hh=>.inr hh,fun hh=>hh.resolve_left h⟩
def c3093:Con:=aR 93 true fun | [.agg [.val (.int .i64 k),.val (.int .i64 f),.val (.int .i64 o),.str a,.str b,.str c,.str d,.str e,.str g,.val (.int .i64 w),.val (.int .i64 t)]],K=>K (.bl (hipP k) Cp) | _,_=>False
theorem aMi:aO Tp c3093:=by
 refine kQ {} func93 ntmps93 kn fun _ _ h=>?_;split at h;case h_2=>cases h
 rename_i k f o a b c d e g w t;refine kb h ?_;unfold hipP;by_cases h:k=6
 ·(repeat refine ZR ?_);(conv=>whnf);exact .inl h
 (repeat refine ZR ?_);(conv=>whnf);exact ⟨fun hh=>.inr hh,fun hh=>hh.resolve_left h⟩
def c3096:Con:=aR 96 true fun | [.agg [.val (.int .i64 k),.val (.int .i64 f),.val (.int .i64 o),.str a,.str b,.str c,.str d,.str e,.str g,.val (.int .i64 w),.val (.int .i64 t)],.agg [.val (.int .i64 k2),.val (.int .i64 f2),.val (.int .i64 o2),.str a2,.str b2,.str c2,.str d2,.str e2,.str g2,.val (.int .i64 w2),.val (.int .i64 t2)]],K=>Need (memE (k,f,o,(a,b,c),(d,e,g),w,t)=0/\memE (k2,f2,o2,(a2,b2,c2),(d2,e2,g2),w2,t2)=0) (K (.bl (tchP (k,f,o,(a,b,c),(d,e,g),w,t) (k2,f2,o2,(a2,b2,c2),(d2,e2,g2),w2,t2)) Cp)) | _,_=>False
theorem k3096:aO Tp c3096:=by
 refine kQ {} func96 ntmps96 (kc aMc kn) fun _ _ h=>?_;split at h;case h_2=>cases h
 rename_i k f o a b c d e g w t k2 f2 o2 a2 b2 c2 d2 e2 g2 w2 t2;have hh0:=h.ok;refine kb h.go ?_;obtain ⟨h1,h2⟩:=hh0;have p1:memE (k2,f2,o2,(a2,b2,c2),(d2,e2,g2),w2,t2)=0/\okS (a,b,c):=⟨h2,(gY h1).2.1⟩;have p2:memE (k2,f2,o2,(a2,b2,c2),(d2,e2,g2),w2,t2)=0/\okS (d,e,g):=⟨h2,(gY h1).2.2.1⟩;have hq:tchP (k,f,o,(a,b,c),(d,e,g),w,t) (k2,f2,o2,(a2,b2,c2),(d2,e2,g2),w2,t2)↔metP (k2,f2,o2,(a2,b2,c2),(d2,e2,g2),w2,t2) (a,b,c)\/metP (k2,f2,o2,(a2,b2,c2),(d2,e2,g2),w2,t2) (d,e,g):=gQ;generalize tchP (k,f,o,(a,b,c),(d,e,g),w,t) (k2,f2,o2,(a2,b2,c2),(d2,e2,g2),w2,t2)=Q at hq ⊢;by_cases h:metP (k2,f2,o2,(a2,b2,c2),(d2,e2,g2),w2,t2) (a,b,c)
 ·(repeat refine ZR ?_);(conv=>whnf);all_goals exact hq.2 (.inl h)
 (repeat refine ZR ?_);(conv=>whnf);all_goals exact ⟨fun q=>hq.2 (.inr q),fun q=>(hq.1 q).resolve_left h⟩
theorem rst_q {m n:Mem} {q:Nat} (h:qK m.1 n.1=q):(rstP m n↔match (generalizing:=false) q with | 1=>m.2.1=n.2.1/\crB m n | 2=>tchP m n | 3=>m.2.1=n.2.1/\tchP m n | 4=>metP n m.2.2.2.2.1 | 5=>crB m n | _=>False)/\rstE m n=match (generalizing:=false) q with | 1=>if m.2.1=n.2.1 then crE m n else 0 | 5=>crE m n | _=>0:=by
 unfold rstP rstE;rw[h];exact ⟨gQ,rfl⟩
def aMj:Con:=aR 52 true fun | [.agg [.val (.int .i64 k),.val (.int .i64 f),.val (.int .i64 o),.str a,.str b,.str c,.str d,.str e,.str g,.val (.int .i64 w),.val (.int .i64 t)],.agg [.val (.int .i64 k2),.val (.int .i64 f2),.val (.int .i64 o2),.str a2,.str b2,.str c2,.str d2,.str e2,.str g2,.val (.int .i64 w2),.val (.int .i64 t2)]],K=>Need (memE (k,f,o,(a,b,c),(d,e,g),w,t)=0/\memE (k2,f2,o2,(a2,b2,c2),(d2,e2,g2),w2,t2)=0) (K (.tup [.bl (rstP (k,f,o,(a,b,c),(d,e,g),w,t) (k2,f2,o2,(a2,b2,c2),(d2,e2,g2),w2,t2)) Cp,I (rstE (k,f,o,(a,b,c),(d,e,g),w,t) (k2,f2,o2,(a2,b2,c2),(d2,e2,g2),w2,t2))])) | _,_=>False
theorem k3052:aO Tp aMj:=by
 refine kQ {} func52 ntmps52 (kc aMh (kc aMi (kc aMg (kc k3094 (kc k3096 (kc aMc kn)))))) fun _ _ h=>?_;split at h;case h_2=>cases h
 rename_i k f o a b c d e g w t k2 f2 o2 a2 b2 c2 d2 e2 g2 w2 t2;have hh0:=h.ok;refine kb h.go ?_;have p2:memE (k2,f2,o2,(a2,b2,c2),(d2,e2,g2),w2,t2)=0/\okS (d,e,g):=⟨hh0.2,(gY hh0.1).2.2.1⟩;have key:=fun q (hk:qK k k2=q)=>rst_q (m:=(k,f,o,(a,b,c),(d,e,g),w,t)) (n:=(k2,f2,o2,(a2,b2,c2),(d2,e2,g2),w2,t2)) hk;generalize rstP (k,f,o,(a,b,c),(d,e,g),w,t) (k2,f2,o2,(a2,b2,c2),(d2,e2,g2),w2,t2)=M at key ⊢;generalize rstE (k,f,o,(a,b,c),(d,e,g),w,t) (k2,f2,o2,(a2,b2,c2),(d2,e2,g2),w2,t2)=X at key ⊢;have hsl:∀x:Int,sloP x->¬hipP x/\¬x=12/\¬x=9/\¬x=8/\¬x=10:=fun x h=>by unfold sloP at h;unfold hipP;omega
 have hhp:∀x:Int,hipP x->¬sloP x/\¬rafP x/\¬x=12/\¬x=9/\¬x=8/\¬x=10/\¬x=11:=fun x h=>by unfold hipP at h;unfold sloP rafP;omega
 have hrf:∀x:Int,rafP x->sloP x:=fun x h=>.inl h;by_cases y1:sloP k/\(k2=10\/k2=9)
 ·have hk:qK k k2=1:=aD y1;obtain ⟨hR,hE⟩:=key _ hk;dsimp only at hR hE;obtain ⟨s1,s2⟩:=y1;obtain ⟨n1,n2,n3,n4,n5⟩:=hsl _ s1;by_cases hf:f=f2
  ·rw[aD hf] at hE;have hR':M↔crB (k,f,o,(a,b,c),(d,e,g),w,t) (k2,f2,o2,(a2,b2,c2),(d2,e2,g2),w2,t2):=hR.trans ⟨fun q=>q.2,fun q=>⟨hf,q⟩⟩;subst hE;clear hR;by_cases e10:k2=10
   ·exact ZRx hR'.symm
   have e9:k2=9:=om;exact ZRx hR'.symm
  rw[aC hf] at hE;have hR':¬M:=fun q=>hf (hR.1 q).1;subst hE;clear hR;have nh:¬hipP k2:=fun q=>by have:=hhp _ q;omega
  by_cases r:rafP k
  ·by_cases e10:k2=10
   ·exact ZRx hR'
   have e9:k2=9:=om;exact ZRx hR'
  by_cases e10:k2=10
  ·exact ZRx hR'
  have e9:k2=9:=om;exact ZRx hR'
 by_cases y2:sloP k/\(k2=8\/hipP k2)
 ·have hk:qK k k2=2:=(aC y1).trans (aD y2);obtain ⟨hR,hE⟩:=key _ hk;dsimp only at hR hE;subst hE;obtain ⟨s1,s2⟩:=y2;obtain ⟨n1,n2,n3,n4,n5⟩:=hsl _ s1;have n10:¬k2=10:=fun q=>y1 ⟨s1,.inl q⟩;have n9:¬k2=9:=fun q=>y1 ⟨s1,.inr q⟩;by_cases e8:k2=8
  ·exact ZRx hR.symm
  have hh:=s2.resolve_left e8;exact ZRx hR.symm
 by_cases y3:rafP k/\k2=12
 ·have hk:qK k k2=3:=(aC y1).trans ((aC y2).trans (aD y3));obtain ⟨hR,hE⟩:=key _ hk;dsimp only at hR hE;subst hE;obtain ⟨r1,r2⟩:=y3;have s1:=hrf _ r1;obtain ⟨n1,n2,n3,n4,n5⟩:=hsl _ s1;have nh:¬hipP k2:=fun q=>by have:=hhp _ q;omega
  by_cases hf:f=f2
  ·have hR':=hR.trans ⟨fun q=>q.2,fun q=>⟨hf,q⟩⟩;clear hR;exact ZRx hR'.symm
  have hR':¬M:=fun q=>hf (hR.1 q).1;clear hR;exact ZRx hR'
 by_cases y4:hipP k/\k2=8
 ·have hk:qK k k2=4:=(aC y1).trans ((aC y2).trans ((aC y3).trans (aD y4)));obtain ⟨hR,hE⟩:=key _ hk;dsimp only at hR hE;subst hE;obtain ⟨s1,s2⟩:=y4;obtain ⟨n1,n2,n3,n4,n5,n6,n7⟩:=hhp _ s1;exact ZRx hR.symm
 by_cases y5:hipP k/\k2=10
 ·have hk:qK k k2=5:=(aC y1).trans ((aC y2).trans ((aC y3).trans ((aC y4).trans (aD y5))));obtain ⟨hR,hE⟩:=key _ hk;dsimp only at hR hE;subst hE;obtain ⟨s1,s2⟩:=y5;obtain ⟨n1,n2,n3,n4,n5,n6,n7⟩:=hhp _ s1;exact ZRx hR.symm
 by_cases y6:k=9/\hipP k2
 ·have hk:qK k k2=2:=(aC y1).trans ((aC y2).trans ((aC y3).trans ((aC y4).trans ((aC y5).trans (aD y6)))));obtain ⟨hR,hE⟩:=key _ hk;dsimp only at hR hE;subst hE;obtain ⟨s1,s2⟩:=y6;have ns:¬sloP k:=fun q=>by have:=hsl _ q;omega
  have nr:¬rafP k:=fun q=>ns (hrf _ q);have nh:¬hipP k:=fun q=>by have:=hhp _ q;omega
  exact ZRx hR.symm
 by_cases y7:k=12/\k2=11
 ·have hk:qK k k2=3:=(aC y1).trans ((aC y2).trans ((aC y3).trans ((aC y4).trans ((aC y5).trans ((aC y6).trans (aD y7))))));obtain ⟨hR,hE⟩:=key _ hk;dsimp only at hR hE;subst hE;obtain ⟨s1,s2⟩:=y7;have ns:¬sloP k:=fun q=>by have:=hsl _ q;omega
  have nr:¬rafP k:=fun q=>ns (hrf _ q);have nh:¬hipP k:=fun q=>by have:=hhp _ q;omega
  by_cases hf:f=f2
  ·have hR':=hR.trans ⟨fun q=>q.2,fun q=>⟨hf,q⟩⟩;clear hR;exact ZRx hR'.symm
  have hR':¬M:=fun q=>hf (hR.1 q).1;clear hR;exact ZRx hR'
 have hk:qK k k2=0:=(aC y1).trans ((aC y2).trans ((aC y3).trans ((aC y4).trans ((aC y5).trans ((aC y6).trans (aC y7))))));obtain ⟨hR,hE⟩:=key _ hk;have hR:¬M:=hR.1;have hE:X=0:=hE;subst hE;by_cases s1:sloP k
 ·obtain ⟨n1,n2,n3,n4,n5⟩:=hsl _ s1;have m1:¬k2=10:=fun q=>y1 ⟨s1,.inl q⟩;have m2:¬k2=9:=fun q=>y1 ⟨s1,.inr q⟩;have m3:¬k2=8:=fun q=>y2 ⟨s1,.inl q⟩;have m4:¬hipP k2:=fun q=>y2 ⟨s1,.inr q⟩;by_cases r1:rafP k
  ·have m5:¬k2=12:=fun q=>y3 ⟨r1,q⟩;exact ZRx hR
  exact ZRx hR
 have nr:¬rafP k:=fun q=>s1 (hrf _ q);by_cases i1:hipP k
 ·obtain ⟨n1,n2,n3,n4,n5,n6,n7⟩:=hhp _ i1;have m1:¬k2=10:=fun q=>y5 ⟨i1,q⟩;have m3:¬k2=8:=fun q=>y4 ⟨i1,q⟩;exact ZRx hR
 by_cases j9:k=9
 ·have m4:¬hipP k2:=fun q=>y6 ⟨j9,q⟩;have m5:¬k=12:=om;exact ZRx hR
 by_cases j12:k=12
 ·have m5:¬k2=11:=fun q=>y7 ⟨j12,q⟩;exact ZRx hR
 exact ZRx hR
theorem aDp {n d:Bx} {a:Bx} (h:chkQ a=0) (e1:(ptQ a).1=n) (e2:(ptQ a).2=d):0<n.length/\(bE n 0=45->(dK 36 (valQ a)↔n.length-1<=36/\d.length<=36))/\(¬bE n 0=45->(dK 36 (valQ a)↔n.length<=36/\d.length<=36)):=by
 have e:=Gq h;have f1:(ptQ a).1=pn (valQ a):=by rw[e]
 have f2:(ptQ a).2=pd (valQ a):=by rw[e]
 have hM:dK 36 (valQ a)↔(digs n).length<=36/\d.length<=36:=by rw[<- e1,<- e2,f1,f2];exact dK_n
 have hl:0<n.length:=by rw[<- e1,f1];exact Pw _
 refine ⟨hl,fun hb=>?_,fun hb=>?_⟩
 ·rw[hM,uU hl hb,bB]
 rw[hM,rY fun _=>hb];exact gQ
def aMk:Con:=aR 50 true fun | [.agg [.str a,.str b,.str c]],K=>K (.bl (okS (a,b,c)) Cp) | _,_=>False
theorem k3050:aO Tp aMk:=by
 refine kQ { asks:=[(0,[])] } func50 ntmps50 (kc Tb (kc aAv kn)) fun _ _ h=>?_;split at h;case h_2=>cases h
 rename_i a b c;refine kb h ?_;by_cases h:chkS (a,b,c)=0;case neg=>
  have hn:¬okS (a,b,c):=fun q=>h q.1;generalize okS (a,b,c)=M at hn ⊢;(repeat refine ZR ?_);(conv=>whnf);all_goals exact hn
 obtain ⟨h1,h2,h3⟩:=qR.1 h;have hall:∀i,i<3->chkQ (([a,b,c]:List (Bx)).getD i [])=0:=fun i hi=>by
  match i,hi with
  | 0,_=>exact h1
  | 1,_=>exact h2
  | 2,_=>exact h3
 have hM:okS (a,b,c)↔∀i,i<3->dK 36 (valQ (([a,b,c]:List (Bx)).getD i [])):=by
  constructor
  ·rintro ⟨_,k1,k2,k3⟩ i hi
   match i,hi with
   | 0,_=>exact k1
   | 1,_=>exact k2
   | 2,_=>exact k3
  intro hk;exact ⟨h,hk 0 de,hk 1 de,hk 2 de⟩
 generalize okS (a,b,c)=M at hM ⊢;(repeat refine ZR ?_);refine Ask.mk ⟨{ X:=Nat,pre:=fun i=>i<=3/\∀j,j<i->dK 36 (valQ (([a,b,c]:List (Bx)).getD j [])),mod:=fun i _=>[(4,I i)],heap:=fun i H=>H,mu:=fun i=>3-i },rfl,?_⟩;(repeat refine ZG ?_);refine ⟨⟨(0:Nat),⟨aK _,fun j hj=>absurd hj (bV _)⟩,ZE⟩,fun (i:Nat) hi=>?_⟩;obtain ⟨hi,hp⟩:=hi;have hl:([a,b,c]:List (Bx)).length=3:=rfl;by_cases hlt:i<3
 ·obtain ⟨f1,f2,f3⟩:=aDp (hall i hlt) rfl rfl;have hno:¬dK 36 (valQ (([a,b,c]:List (Bx)).getD i []))->¬M:=fun q q2=>q (hM.1 q2 i hlt);have hyes:dK 36 (valQ (([a,b,c]:List (Bx)).getD i []))->∀j,j<i+1->dK 36 (valQ (([a,b,c]:List (Bx)).getD j [])):=fun q j hj=>by
   by_cases e:j=i
   ·subst e;exact q
   exact hp j om
  by_cases hb:bE (ptQ (([a,b,c]:List (Bx)).getD i [])).1 0=45
  ·have f2:=f2 hb;clear f3;have hdr:(List.drop 1 (ptQ (([a,b,c]:List (Bx)).getD i [])).1).length=(ptQ (([a,b,c]:List (Bx)).getD i [])).1.length-1:=bB;by_cases k1:36<(ptQ (([a,b,c]:List (Bx)).getD i [])).1.length-1
   ·have hn:=hno fun q=>by have:=(f2.1 q).1;omega
    (repeat' first|refine ZR ?_|refine Zg fun _=>?_);(conv=>whnf);all_goals exact hn
   by_cases k2:36<(ptQ (([a,b,c]:List (Bx)).getD i [])).2.length
   ·have hn:=hno fun q=>by have:=(f2.1 q).2;omega
    (repeat' first|refine ZR ?_|refine Zg fun _=>?_);(conv=>whnf);all_goals exact hn
   have hy:=hyes (f2.2 ⟨om,om⟩);(repeat' first|refine ZR ?_|refine Zg fun _=>?_);refine ⟨(i+1:Nat),by show 3-(i+1)<3-i;omega,⟨hlt,hy⟩,?_⟩;exact ZE
  have f3:=f3 hb;clear f2;by_cases k1:36<(ptQ (([a,b,c]:List (Bx)).getD i [])).1.length
  ·have hn:=hno fun q=>by have:=(f3.1 q).1;omega
   (repeat' first|refine ZR ?_|refine Zg fun _=>?_);(conv=>whnf);all_goals exact hn
  by_cases k2:36<(ptQ (([a,b,c]:List (Bx)).getD i [])).2.length
  ·have hn:=hno fun q=>by have:=(f3.1 q).2;omega
   (repeat' first|refine ZR ?_|refine Zg fun _=>?_);(conv=>whnf);all_goals exact hn
  have hy:=hyes (f3.2 ⟨om,om⟩);(repeat' first|refine ZR ?_|refine Zg fun _=>?_);refine ⟨(i+1:Nat),by show 3-(i+1)<3-i;omega,⟨hlt,hy⟩,?_⟩;exact ZE
 have hm:M:=hM.2 fun j hj=>hp j om;(repeat refine ZR ?_);(conv=>whnf);all_goals exact hm
theorem aJg {ls:List Lin} {s:Sp} {ks:List Int} (h:∀j,j<ls.length->¬onP ks s (ls.getD j lin0)):¬latP ls s ks:=fun ⟨j,hj,q⟩=>h j hj q
def c3098:Con:=aR 98 true fun | [.agg [.any,.any,.any,.seq (.pair (.int .i64) (.pair (.pair .str (.pair .str .str)) (.pair (.pair .str (.pair .str .str)) (.pair (.int .i64) (.int .i64))))) ls],.agg [.str q1,.str q2,.str q3],.val (.int .i64 k1),.val (.int .i64 k2),.val (.int .i64 k3)],K=>Need (okLs ls/\okS (q1,q2,q3)) (K (.bl (latP ls (q1,q2,q3) [k1,k2,k3]) Cp)) | _,_=>False
theorem k3098:aO Tp c3098:=by
 refine kQ { asks:=[(0,[])] } func98 ntmps98 (kc k3135 kn) fun _ _ h=>?_;split at h;case h_2=>cases h
 rename_i ls q1 q2 q3 k1 k2 k3;change List Lin at ls;have h0:=h.ok;refine kb h.go ?_;obtain ⟨hl,hs⟩:=h0;refine Ask.mk ⟨{ X:=Nat,pre:=fun i=>i<=ls.length/\∀j,j<i->¬onP [k1,k2,k3] (q1,q2,q3) (ls.getD j lin0),mod:=fun i _=>[(12,I i)],heap:=fun i H=>H,mu:=fun i=>ls.length-i },rfl,?_⟩;(repeat refine ZG ?_);refine ⟨⟨(0:Nat),⟨aK _,fun j hj=>absurd hj (bV _)⟩,ZE⟩,fun (i:Nat) hi=>?_⟩;obtain ⟨hi,hp⟩:=hi;by_cases hlt:i<ls.length
 ·obtain ⟨hF,hG⟩:=aNd (hl i hlt).1 (hl i hlt).2 hs;have hpre:(q1=q1/\q2=q2)/\okP ((ls.getD i lin0).2.1.1,(ls.getD i lin0).2.1.2.1)/\okP ((ls.getD i lin0).2.2.1.1,(ls.getD i lin0).2.2.1.2.1)/\okP (q1,q2):=⟨⟨rfl,rfl⟩,No (hl i hlt).1,No (hl i hlt).2,No hs⟩;have hnext:¬onP [k1,k2,k3] (q1,q2,q3) (ls.getD i lin0)->∀j,j<i+1->¬onP [k1,k2,k3] (q1,q2,q3) (ls.getD j lin0):=fun q j hj=>by
   by_cases e:j=i
   ·subst e;exact q
   exact hp j om
  have hin:(ls.getD i lin0).1∈ [k1,k2,k3]↔(ls.getD i lin0).1=k1\/(ls.getD i lin0).1=k2\/(ls.getD i lin0).1=k3:=by simp
  generalize rE (v2 (ls.getD i lin0).2.1) (v2 (ls.getD i lin0).2.2.1) (v2 (q1,q2,q3))=t at hF hG;dsimp only at hF hG;by_cases hk:(ls.getD i lin0).1=k1\/(ls.getD i lin0).1=k2\/(ls.getD i lin0).1=k3
  ·have hone:∀ {G:Prop},(∀(_:sgQ ((ls.getD i lin0).2.1.1,(ls.getD i lin0).2.1.2.1) ((ls.getD i lin0).2.2.1.1,(ls.getD i lin0).2.2.1.2.1) (q1,q2) t=1),latP ls (q1,q2,q3) [k1,k2,k3]->G)->(∀(_:¬sgQ ((ls.getD i lin0).2.1.1,(ls.getD i lin0).2.1.2.1) ((ls.getD i lin0).2.2.1.1,(ls.getD i lin0).2.2.1.2.1) (q1,q2) t=1),(∀j,j<i+1->¬onP [k1,k2,k3] (q1,q2,q3) (ls.getD j lin0))->G)->G:=fun f g=>by
    by_cases hq:sgQ ((ls.getD i lin0).2.1.1,(ls.getD i lin0).2.1.2.1) ((ls.getD i lin0).2.2.1.1,(ls.getD i lin0).2.2.1.2.1) (q1,q2) t=1
    ·exact f hq ⟨i,hlt,hin.2 hk,hG.1 hq⟩
    exact g hq (hnext fun q=>hq (hG.2 q.2))
   by_cases c1:(ls.getD i lin0).1=k1
   ·refine hone (fun hq hlat=>?_) fun hq hno=>?_
    ·generalize latP ls (q1,q2,q3) [k1,k2,k3]=M at*;(repeat' first|refine ZH ?_|refine Zg fun _=>?_);(conv=>whnf);all_goals exact hlat
    (repeat' first|refine ZH ?_|refine Zg fun _=>?_);refine ⟨(i+1:Nat),by show ls.length-(i+1)<ls.length-i;omega,⟨hlt,hno⟩,ZE⟩
   by_cases c2:(ls.getD i lin0).1=k2
   ·refine hone (fun hq hlat=>?_) fun hq hno=>?_
    ·generalize latP ls (q1,q2,q3) [k1,k2,k3]=M at*;(repeat' first|refine ZH ?_|refine Zg fun _=>?_);(conv=>whnf);all_goals exact hlat
    (repeat' first|refine ZH ?_|refine Zg fun _=>?_);refine ⟨(i+1:Nat),by show ls.length-(i+1)<ls.length-i;omega,⟨hlt,hno⟩,ZE⟩
   have c3:(ls.getD i lin0).1=k3:=om;refine hone (fun hq hlat=>?_) fun hq hno=>?_
   ·generalize latP ls (q1,q2,q3) [k1,k2,k3]=M at*;(repeat' first|refine ZH ?_|refine Zg fun _=>?_);(conv=>whnf);all_goals exact hlat
   (repeat' first|refine ZH ?_|refine Zg fun _=>?_);refine ⟨(i+1:Nat),by show ls.length-(i+1)<ls.length-i;omega,⟨hlt,hno⟩,ZE⟩
  have hno:=hnext fun q=>hk (hin.1 q.1);have c1:¬(ls.getD i lin0).1=k1:=fun q=>hk (.inl q);have c2:¬(ls.getD i lin0).1=k2:=fun q=>hk (.inr (.inl q));have c3:¬(ls.getD i lin0).1=k3:=fun q=>hk (.inr (.inr q));(repeat' first|refine ZR ?_|refine Zg fun _=>?_);refine ⟨(i+1:Nat),by show ls.length-(i+1)<ls.length-i;omega,⟨hlt,hno⟩,ZE⟩
 have e:i=ls.length:=om;subst e;have hn:=aJg hp;generalize latP ls (q1,q2,q3) [k1,k2,k3]=M at*;(repeat' first|refine ZR ?_|refine Zg fun _=>?_);(conv=>whnf);all_goals exact hn
theorem lat3 {ls:List Lin} {s:Sp} {k:Int}:latP ls s [k,k,k]↔latP ls s [k]:=by
 unfold latP;simp only[bH,iJ,or_false,or_self]
def aMl:Con:=aR 53 true fun | [.agg [.any,.any,.any,.seq (.pair (.int .i64) (.pair (.pair .str (.pair .str .str)) (.pair (.pair .str (.pair .str .str)) (.pair (.int .i64) (.int .i64))))) ls],.agg [.val (.int .i64 k),.val (.int .i64 f),.val (.int .i64 o),.str a,.str b,.str c,.str d,.str e,.str g,.val (.int .i64 w),.val (.int .i64 t)],.bl pl dp],K=>Need (okLs ls/\okS (a,b,c)/\okS (d,e,g)) (K (.bl (walP ls (k,f,o,(a,b,c),(d,e,g),w,t) pl) Cp)) | _,_=>False
theorem k3053:aO Tp aMl:=by
 refine kQ {} func53 ntmps53 (kc aMh (kc aMi (kc k3098 kn))) fun _ _ h=>?_;split at h;case h_2=>cases h
 rename_i ls k f o a b c d e g w t pl dp;change List Lin at ls;have h0:=h.ok;refine kb h.go ?_;have g1:okLs ls/\okS (a,b,c):=⟨h0.1,h0.2.1⟩;have g2:okLs ls/\okS (d,e,g):=⟨h0.1,h0.2.2⟩;by_cases h1:k=10
 ·have hw:walP ls (k,f,o,(a,b,c),(d,e,g),w,t) pl:=by unfold walP;rw[aD h1];trivial
  generalize walP ls (k,f,o,(a,b,c),(d,e,g),w,t) pl=M at*;(repeat refine ZR ?_);(conv=>whnf);all_goals exact hw
 by_cases h2:sloP k\/hipP k
 ·have hw:walP ls (k,f,o,(a,b,c),(d,e,g),w,t) pl↔¬pl/\latP ls (a,b,c) [7,7,7]:=by unfold walP;rw[aC h1,aD h2,lat3]
  generalize walP ls (k,f,o,(a,b,c),(d,e,g),w,t) pl=M at*;by_cases hp:pl
  ·have hw':¬M:=fun h=>(hw.1 h).1 hp;by_cases h3:sloP k
   ·(repeat refine ZR ?_);(conv=>whnf);all_goals exact hw'
   have h4:hipP k:=h2.resolve_left h3;(repeat refine ZR ?_);(conv=>whnf);all_goals exact hw'
  have hw':latP ls (a,b,c) [7,7,7]↔M:=⟨fun h=>hw.2 ⟨hp,h⟩,fun h=>(hw.1 h).2⟩;by_cases h3:sloP k
  ·(repeat refine ZR ?_);(conv=>whnf);all_goals exact hw'
  have h4:hipP k:=h2.resolve_left h3;(repeat refine ZR ?_);(conv=>whnf);all_goals exact hw'
 have h3:¬sloP k:=fun h=>h2 (.inl h);have h4:¬hipP k:=fun h=>h2 (.inr h);by_cases h5:k=8\/k=9
 ·have hw:walP ls (k,f,o,(a,b,c),(d,e,g),w,t) pl↔latP ls (a,b,c) [4,5,8]\/latP ls (d,e,g) [4,5,8]:=by unfold walP;rw[aC h1,aC h2,aD h5]
  generalize walP ls (k,f,o,(a,b,c),(d,e,g),w,t) pl=M at*;have hm:latP ls (a,b,c) [4,5,8]->M:=fun h=>hw.2 (.inl h);have hn:¬latP ls (a,b,c) [4,5,8]->(latP ls (d,e,g) [4,5,8]↔M):=fun h=>⟨fun q=>hw.2 (.inr q),fun q=>(hw.1 q).resolve_left h⟩;by_cases h6:k=8
  ·(repeat refine ZR ?_);(apply Br.mk<;>intro)
   ·skip;(conv=>whnf);all_goals (rename_i q;exact hm q)
   (repeat refine ZR ?_);(conv=>whnf);all_goals (rename_i q;exact hn q)
  have h7:k=9:=om;(repeat refine ZR ?_);(apply Br.mk<;>intro)
  ·skip;(conv=>whnf);all_goals (rename_i q;exact hm q)
  (repeat refine ZR ?_);(conv=>whnf);all_goals (rename_i q;exact hn q)
 have hw:¬walP ls (k,f,o,(a,b,c),(d,e,g),w,t) pl:=by unfold walP;rw[aC h1,aC h2,aC h5];exact id
 generalize walP ls (k,f,o,(a,b,c),(d,e,g),w,t) pl=M at*;(repeat refine ZR ?_);(conv=>whnf);all_goals exact hw
def aE3:Con:=aR 85 true fun | [.agg [.val (.int .i64 k),.val (.int .i64 f),.val (.int .i64 o),.str a,.str b,.str c,.str d,.str e,.str g,.val (.int .i64 w),.val (.int .i64 t)],.agg [.val (.int .i64 k2),.val (.int .i64 f2),.val (.int .i64 o2),.str a2,.str b2,.str c2,.str d2,.str e2,.str g2,.val (.int .i64 w2),.val (.int .i64 t2)]],K=>Need (memE (k,f,o,(a,b,c),(d,e,g),w,t)=0/\memE (k2,f2,o2,(a2,b2,c2),(d2,e2,g2),w2,t2)=0) (K (.tup [.bl (metP (k2,f2,o2,(a2,b2,c2),(d2,e2,g2),w2,t2) (d,e,g)) Cp,I 0])) | _,_=>False
theorem aLr:aO Tp aE3:=by
 refine kQ {} func85 ntmps85 (kc aLq kn) fun _ _ h=>?_;split at h;case h_2=>cases h
 rename_i k f o a b c d e g w t k2 f2 o2 a2 b2 c2 d2 e2 g2 w2 t2;have hh0:=h.ok;refine kb h.go ?_;obtain ⟨h1,h2⟩:=hh0;have hs:∀s∈([(d,e,g)]:List (Bx × Bx × Bx)),okS s:=fun s hs=>by
  rw[bO.1 hs];exact (gY h1).2.2.1
 have hc:memE (k2,f2,o2,(a2,b2,c2),(d2,e2,g2),w2,t2)=0/\∀s∈([(d,e,g)]:List (Bx × Bx × Bx)),okS s:=⟨h2,hs⟩;have hq:(∃s,s∈([(d,e,g)]:List (Bx × Bx × Bx))/\metP (k2,f2,o2,(a2,b2,c2),(d2,e2,g2),w2,t2) s)↔metP (k2,f2,o2,(a2,b2,c2),(d2,e2,g2),w2,t2) (d,e,g):=by
  constructor
  ·rintro ⟨s,hs,hm⟩;rwa [bO.1 hs] at hm
  intro hm;exact ⟨_,bO.2 rfl,hm⟩
 generalize metP (k2,f2,o2,(a2,b2,c2),(d2,e2,g2),w2,t2) (d,e,g)=Q at hq ⊢;exact ZRx hq
def aA0:Con:=aR 82 true fun | [.agg [.val (.int .i64 k),.val (.int .i64 f),.val (.int .i64 o),.str a,.str b,.str c,.str d,.str e,.str g,.val (.int .i64 w),.val (.int .i64 t)],.agg [.val (.int .i64 k2),.val (.int .i64 f2),.val (.int .i64 o2),.str a2,.str b2,.str c2,.str d2,.str e2,.str g2,.val (.int .i64 w2),.val (.int .i64 t2)]],K=>Need (memE (k,f,o,(a,b,c),(d,e,g),w,t)=0/\memE (k2,f2,o2,(a2,b2,c2),(d2,e2,g2),w2,t2)=0) (K (.tup [.bl (tchP (k,f,o,(a,b,c),(d,e,g),w,t) (k2,f2,o2,(a2,b2,c2),(d2,e2,g2),w2,t2)) Cp,I 0])) | _,_=>False
theorem aE4:aO Tp aA0:=by
 refine kQ {} func82 ntmps82 (kc aLq kn) fun _ _ h=>?_;split at h;case h_2=>cases h
 rename_i k f o a b c d e g w t k2 f2 o2 a2 b2 c2 d2 e2 g2 w2 t2;have hh0:=h.ok;refine kb h.go ?_;obtain ⟨h1,h2⟩:=hh0;have hs:∀s∈([(a,b,c),(d,e,g)]:List (Bx × Bx × Bx)),okS s:=fun s hs=>by
  rcases bH.1 hs with rfl | hs
  ·exact (gY h1).2.1
  rw[bO.1 hs];exact (gY h1).2.2.1
 have hc:memE (k2,f2,o2,(a2,b2,c2),(d2,e2,g2),w2,t2)=0/\∀s∈([(a,b,c),(d,e,g)]:List (Bx × Bx × Bx)),okS s:=⟨h2,hs⟩;have hq:(∃s,s∈([(a,b,c),(d,e,g)]:List (Bx × Bx × Bx))/\metP (k2,f2,o2,(a2,b2,c2),(d2,e2,g2),w2,t2) s)↔tchP (k,f,o,(a,b,c),(d,e,g),w,t) (k2,f2,o2,(a2,b2,c2),(d2,e2,g2),w2,t2):=by
  constructor
  ·rintro ⟨s,hs,hm⟩;rcases bH.1 hs with rfl | hs
   ·exact .inl hm
   rw[bO.1 hs] at hm;exact .inr hm
  rintro (hm | hm)
  ·exact ⟨_,bW ..,hm⟩
  exact ⟨_,bP _ (bO.2 rfl),hm⟩
 generalize tchP (k,f,o,(a,b,c),(d,e,g),w,t) (k2,f2,o2,(a2,b2,c2),(d2,e2,g2),w2,t2)=Q at hq ⊢;exact ZRx hq
def aA1:Con:=aR 81 true fun | [.agg [.val (.int .i64 k),.val (.int .i64 f),.val (.int .i64 o),.str a,.str b,.str c,.str d,.str e,.str g,.val (.int .i64 w),.val (.int .i64 t)],.agg [.val (.int .i64 k2),.val (.int .i64 f2),.val (.int .i64 o2),.str a2,.str b2,.str c2,.str d2,.str e2,.str g2,.val (.int .i64 w2),.val (.int .i64 t2)]],K=>K (.tup [.bl (crB (k,f,o,(a,b,c),(d,e,g),w,t) (k2,f2,o2,(a2,b2,c2),(d2,e2,g2),w2,t2)) Cp,I (crE (k,f,o,(a,b,c),(d,e,g),w,t) (k2,f2,o2,(a2,b2,c2),(d2,e2,g2),w2,t2))]) | _,_=>False
theorem aE5:aO Tp aA1:=by
 refine kQ {} func81 ntmps81 (kc k3119 kn) fun _ _ h=>?_;split at h;case h_2=>cases h
 rename_i k f o a b c d e g w t k2 f2 o2 a2 b2 c2 d2 e2 g2 w2 t2;refine kb h ?_;generalize hX:crV (k,f,o,(a,b,c),(d,e,g),w,t) (k2,f2,o2,(a2,b2,c2),(d2,e2,g2),w2,t2)=X;exact ZF
theorem b118c (k f o:Int) (a b c d e g:Bx) (w t:Int) (k2 f2 o2:Int) (a2 b2 c2 d2 e2 g2:Bx) (w2 t2:Int):body Tp [aA1] {} true f118 [.agg [I k,I f,I o,S a,S b,S c,S d,S e,S g,I w,I t],.agg [I k2,I f2,I o2,S a2,S b2,S c2,S d2,S e2,S g2,I w2,I t2],.lelem [.clo 81 [] []] 0] (.tup [.bl (f=f2/\crB (k,f,o,(a,b,c),(d,e,g),w,t) (k2,f2,o2,(a2,b2,c2),(d2,e2,g2),w2,t2)) Cp,I (if f=f2 then crE (k,f,o,(a,b,c),(d,e,g),w,t) (k2,f2,o2,(a2,b2,c2),(d2,e2,g2),w2,t2) else 0)]):=by
 by_cases h:f=f2
 ·rw[aD h];generalize hM:(f=f2/\crB (k,f,o,(a,b,c),(d,e,g),w,t) (k2,f2,o2,(a2,b2,c2),(d2,e2,g2),w2,t2))=M;have hq:crB (k,f,o,(a,b,c),(d,e,g),w,t) (k2,f2,o2,(a2,b2,c2),(d2,e2,g2),w2,t2)↔M:=by rw[<- hM];exact ⟨fun x=>⟨h,x⟩,fun x=>x.2⟩
  exact ZRx hq
 rw[aC h];generalize hM:(f=f2/\crB (k,f,o,(a,b,c),(d,e,g),w,t) (k2,f2,o2,(a2,b2,c2),(d2,e2,g2),w2,t2))=M;have hq:¬M:=by rw[<- hM];exact fun x=>h x.1
 exact ZRx hq
theorem b118t (k f o:Int) (a b c d e g:Bx) (w t:Int) (k2 f2 o2:Int) (a2 b2 c2 d2 e2 g2:Bx) (w2 t2:Int) (hh0:memE (k,f,o,(a,b,c),(d,e,g),w,t)=0/\memE (k2,f2,o2,(a2,b2,c2),(d2,e2,g2),w2,t2)=0):body Tp [aA0] {} true f118 [.agg [I k,I f,I o,S a,S b,S c,S d,S e,S g,I w,I t],.agg [I k2,I f2,I o2,S a2,S b2,S c2,S d2,S e2,S g2,I w2,I t2],.lelem [.clo 82 [] []] 0] (.tup [.bl (f=f2/\tchP (k,f,o,(a,b,c),(d,e,g),w,t) (k2,f2,o2,(a2,b2,c2),(d2,e2,g2),w2,t2)) Cp,I 0]):=by
 by_cases h:f=f2
 ·generalize hM:(f=f2/\tchP (k,f,o,(a,b,c),(d,e,g),w,t) (k2,f2,o2,(a2,b2,c2),(d2,e2,g2),w2,t2))=M;have hq:tchP (k,f,o,(a,b,c),(d,e,g),w,t) (k2,f2,o2,(a2,b2,c2),(d2,e2,g2),w2,t2)↔M:=by rw[<- hM];exact ⟨fun x=>⟨h,x⟩,fun x=>x.2⟩
  exact ZRx hq
 generalize hM:(f=f2/\tchP (k,f,o,(a,b,c),(d,e,g),w,t) (k2,f2,o2,(a2,b2,c2),(d2,e2,g2),w2,t2))=M;have hq:¬M:=by rw[<- hM];exact fun x=>h x.1
 exact ZRx hq
def aA2:Con:=aR 118 true fun args K=>match args with
 | [.agg [.val (.int .i64 k),.val (.int .i64 f),.val (.int .i64 o),.str a,.str b,.str c,.str d,.str e,.str g,.val (.int .i64 w),.val (.int .i64 t)],.agg [.val (.int .i64 k2),.val (.int .i64 f2),.val (.int .i64 o2),.str a2,.str b2,.str c2,.str d2,.str e2,.str g2,.val (.int .i64 w2),.val (.int .i64 t2)],.lelem [.clo 81 [] []] 0]=>K (.tup [.bl (f=f2/\crB (k,f,o,(a,b,c),(d,e,g),w,t) (k2,f2,o2,(a2,b2,c2),(d2,e2,g2),w2,t2)) Cp,I (if f=f2 then crE (k,f,o,(a,b,c),(d,e,g),w,t) (k2,f2,o2,(a2,b2,c2),(d2,e2,g2),w2,t2) else 0)])
 | [.agg [.val (.int .i64 k),.val (.int .i64 f),.val (.int .i64 o),.str a,.str b,.str c,.str d,.str e,.str g,.val (.int .i64 w),.val (.int .i64 t)],.agg [.val (.int .i64 k2),.val (.int .i64 f2),.val (.int .i64 o2),.str a2,.str b2,.str c2,.str d2,.str e2,.str g2,.val (.int .i64 w2),.val (.int .i64 t2)],.lelem [.clo 82 [] []] 0]=>Need (memE (k,f,o,(a,b,c),(d,e,g),w,t)=0/\memE (k2,f2,o2,(a2,b2,c2),(d2,e2,g2),w2,t2)=0) (K (.tup [.bl (f=f2/\tchP (k,f,o,(a,b,c),(d,e,g),w,t) (k2,f2,o2,(a2,b2,c2),(d2,e2,g2),w2,t2)) Cp,I 0]))
 | _=>False
theorem aLs:aO Tp aA2:=by
 refine kO func118 fun args K h=>?_;simp only[aA2] at h;split at h
 ·rename_i k f o a b c d e g w t k2 f2 o2 a2 b2 c2 d2 e2 g2 w2 t2;exact ⟨_,h,triB func118 ntmps118 (by simp[aE5]) (b118c k f o a b c d e g w t k2 f2 o2 a2 b2 c2 d2 e2 g2 w2 t2)⟩
 ·rename_i k f o a b c d e g w t k2 f2 o2 a2 b2 c2 d2 e2 g2 w2 t2;exact ⟨_,h.go,triB func118 ntmps118 (by simp[aE4]) (b118t k f o a b c d e g w t k2 f2 o2 a2 b2 c2 d2 e2 g2 w2 t2 h.ok)⟩
 cases h
theorem b80c:body Tp [] {} false f80 [.clo 81 [] []] (.clo 118 [] [.lelem [.clo 81 [] []] 0]):=by
 exact ZF
theorem b80t:body Tp [] {} false f80 [.clo 82 [] []] (.clo 118 [] [.lelem [.clo 82 [] []] 0]):=by
 exact ZF
def aE6:Con:=aR 80 false fun args K=>match args with
 | [.clo 81 [] []]=>K (.clo 118 [] [.lelem [.clo 81 [] []] 0])
 | [.clo 82 [] []]=>K (.clo 118 [] [.lelem [.clo 82 [] []] 0])
 | _=>False
theorem k3080:aO Tp aE6:=by
 refine kO func80 fun args K h=>?_;simp only[aE6] at h;split at h
 ·exact ⟨_,h,triB func80 ntmps80 si b80c⟩
 ·exact ⟨_,h,triB func80 ntmps80 si b80t⟩
 cases h
def qKs:List (Int × Int):=[(1,10),(1,9),(1,8),(1,6),(1,7),(1,12),(2,10),(2,9),(2,8),(2,6),(2,7),(2,12),(3,10),(3,9),(3,8),(3,6),(3,7),(3,12),(4,10),(4,9),(4,8),(4,6),(4,7),(4,12),(5,10),(5,9),(5,8),(5,6),(5,7),(5,12),(6,8),(6,10),(9,6),(7,8),(7,10),(9,7),(11,10),(11,9),(11,8),(11,6),(11,7),(12,11)]
def qVs:List SV:=[.clo 118 [] [.lelem [.clo 81 [] []] 0],.clo 118 [] [.lelem [.clo 81 [] []] 0],.clo 82 [] [],.clo 82 [] [],.clo 82 [] [],.clo 118 [] [.lelem [.clo 82 [] []] 0],.clo 118 [] [.lelem [.clo 81 [] []] 0],.clo 118 [] [.lelem [.clo 81 [] []] 0],.clo 82 [] [],.clo 82 [] [],.clo 82 [] [],.clo 118 [] [.lelem [.clo 82 [] []] 0],.clo 118 [] [.lelem [.clo 81 [] []] 0],.clo 118 [] [.lelem [.clo 81 [] []] 0],.clo 82 [] [],.clo 82 [] [],.clo 82 [] [],.clo 118 [] [.lelem [.clo 82 [] []] 0],.clo 118 [] [.lelem [.clo 81 [] []] 0],.clo 118 [] [.lelem [.clo 81 [] []] 0],.clo 82 [] [],.clo 82 [] [],.clo 82 [] [],.clo 118 [] [.lelem [.clo 82 [] []] 0],.clo 118 [] [.lelem [.clo 81 [] []] 0],.clo 118 [] [.lelem [.clo 81 [] []] 0],.clo 82 [] [],.clo 82 [] [],.clo 82 [] [],.clo 118 [] [.lelem [.clo 82 [] []] 0],.clo 85 [] [],.clo 81 [] [],.clo 82 [] [],.clo 85 [] [],.clo 81 [] [],.clo 82 [] [],.clo 118 [] [.lelem [.clo 81 [] []] 0],.clo 118 [] [.lelem [.clo 81 [] []] 0],.clo 82 [] [],.clo 82 [] [],.clo 82 [] [],.clo 118 [] [.lelem [.clo 82 [] []] 0]]
theorem b3047 (hk:KeyOK Tp 86):body Tp [aLo,aLk,aLm,aE6] {} false f47 [] (.fmp qKs qVs):=by
 have s1:sloP 1:=by unfold sloP;omega
 have r1:rafP 1:=by unfold rafP;omega
 have h1:¬hipP 1:=by unfold hipP;omega
 have s2:sloP 2:=by unfold sloP;omega
 have r2:rafP 2:=by unfold rafP;omega
 have h2:¬hipP 2:=by unfold hipP;omega
 have s3:sloP 3:=by unfold sloP;omega
 have r3:rafP 3:=by unfold rafP;omega
 have h3:¬hipP 3:=by unfold hipP;omega
 have s4:sloP 4:=by unfold sloP;omega
 have r4:rafP 4:=by unfold rafP;omega
 have h4:¬hipP 4:=by unfold hipP;omega
 have s5:sloP 5:=by unfold sloP;omega
 have r5:rafP 5:=by unfold rafP;omega
 have h5:¬hipP 5:=by unfold hipP;omega
 have s6:¬sloP 6:=by unfold sloP;omega
 have r6:¬rafP 6:=by unfold rafP;omega
 have h6:hipP 6:=by unfold hipP;omega
 have s7:¬sloP 7:=by unfold sloP;omega
 have r7:¬rafP 7:=by unfold rafP;omega
 have h7:hipP 7:=by unfold hipP;omega
 have s8:¬sloP 8:=by unfold sloP;omega
 have r8:¬rafP 8:=by unfold rafP;omega
 have h8:¬hipP 8:=by unfold hipP;omega
 have s9:¬sloP 9:=by unfold sloP;omega
 have r9:¬rafP 9:=by unfold rafP;omega
 have h9:¬hipP 9:=by unfold hipP;omega
 have s10:¬sloP 10:=by unfold sloP;omega
 have r10:¬rafP 10:=by unfold rafP;omega
 have h10:¬hipP 10:=by unfold hipP;omega
 have s11:sloP 11:=by unfold sloP;omega
 have r11:¬rafP 11:=by unfold rafP;omega
 have h11:¬hipP 11:=by unfold hipP;omega
 have s12:¬sloP 12:=by unfold sloP;omega
 have r12:¬rafP 12:=by unfold rafP;omega
 have h12:¬hipP 12:=by unfold hipP;omega
 have hl:([8,6,7]:List Int).length=3:=rfl;exact ZRF
theorem aLt:KeyOK Tp 86:=⟨kr,kr,kr,kr,by decide+kernel⟩
def aA3:Con:=aR 47 false fun args K=>match args with
 | []=>K (.fmp qKs qVs)
 | _=>False
theorem aLu:aO Tp aA3:=by
 refine kO func47 fun args K h=>?_;simp only[aA3] at h;split at h
 ·exact ⟨_,h,triB func47 ntmps47 (by simp[aLp,aLl,aLn,k3080]) (b3047 aLt)⟩
 cases h
end RB
end
section
open Go Go.Proofs Go.Eng Go.Shelf Tryz
namespace EB
theorem aNi {T:List (Int × Int)} {x:Int × Int} (h:x∈T):∃i,i<T.length/\T.getD i (0,0)=x:=by
 obtain ⟨i,hi,rfl⟩:=dD h;exact ⟨i,hi,by simp[aB,hi]⟩
theorem at_mem (T:List (Int × Int)) (i:Nat) (h:i<T.length):T.getD i (0,0)∈T:=by
 rw[aB,aM h];exact cT h
structure Pref (n:Int) (l S:List (Int × Int)):Prop where
 ok:∀k:Nat,k<=S.length->stdE n S k=0
 low:∀k:Nat,k<=S.length->∀r∈l,r.1∈stdM n S k->0<=r.2->r.2∈stdM n S k
 prop_:∀k:Nat,k<=S.length->∀m∈stdM n S k,¬l.any (upP m)=true->m∈stdP n S k
 all:((stdM n S S.length).length:Int)=n
structure RS where
 set:List Int
 most:Int
 err:Int
def keysOf (m:MapS Bool):List Int:=m.es.map fun e=>e.2.1
def AllT (m:MapS Bool):Prop:=∀e∈m.es,e.2.2=true
theorem Ce:∀(es:List (Nat × Int × Bool)) (n:Int),¬n∈(es.map fun e=>e.2.1)->vX es n=none
 | [],_,_=>rfl
 | e::r,n,h=>by
  rw[mW,bH] at h;unfold vX;rw[aC fun e=>h (.inl e.symm),Ce r n fun e=>h (.inr e)]
structure Sim (p:PS) (r:RS):Prop where
 err:p.err=r.err
 most:p.most=r.most
 keys:p.err=0->keysOf p.m=r.set/\AllT p.m
abbrev Bs (xs:List Bool):SV:=.seq .bool xs
def aF6 (n:Int) (l:List (Int × Int)):Prop:=(12<n/\n<=512)\/30<l.length
instance (n:Int) (l:List (Int × Int)):Decidable (aF6 n l):=by unfold aF6;exact inferInstance
def aF7 (S:List (Int × Int)):Prop:=(30<S.length/\S.length<=4096)\/4098<S.length
instance (S:List (Int × Int)):Decidable (aF7 S):=by unfold aF7;exact inferInstance
def nf (on:List (List Int)) (n:Int) (ws:List Int):Nat->Int
 | 0=> -1
 | j+1=>if Fa on ws (n-1-j) then n-1-j else nf on n ws j
theorem vW {α:Type} (xs:List α) (i p:Nat) (v d:α):(xs.set i v).getD p d=if p=i/\p<xs.length then v else xs.getD p d:=by
 rw[aB,aB,eP];by_cases h:i=p
 ·subst h;by_cases h2:i<xs.length
  ·simp[h2]
  simp[h2]
 have:¬p=i:=fun e=>h e.symm;simp[h,this]
def kindR (k:Int):Int:=if k=1 then 1 else if k=2 then 3 else if k=3 then 2 else 0
def flipS (x:Int × Int):Int × Int:=(kindR x.1,x.2)
end EB
end
section
open Go Go.Proofs Go.Eng Go.Shelf Tryz
namespace EB.R
def onIt (m:Int) (st:List Bool) (r:Int × Int):Bool:=decide (r.2=m)&&st.getD r.1.toNat false
def isT (x:Bool):Bool:=x
end EB.R
end
section
open Go Go.Proofs Go.Eng Go.Shelf Tryz
namespace EB
def downOf (S:List (Int × Int)):List (Int × Int):=S.reverse.map flipS
def stR (n:Nat) (T:List (Int × Int)):List Bool:=(List.range n).map fun j:Nat=> !decide ((1,(j:Int))∈T)
structure Rev (n:Int) (l S:List (Int × Int)):Prop where
 chk:chkE (-1) S=0
 at_:∀i,i<(downOf S).length->((downOf S).getD i (0,0)).1=1->(0<=((downOf S).getD i (0,0)).2/\((downOf S).getD i (0,0)).2<n)/\(stR n.toNat ((downOf S).take i)).getD ((downOf S).getD i (0,0)).2.toNat false=true/\
  ¬l.any (R.onIt ((downOf S).getD i (0,0)).2 (stR n.toNat ((downOf S).take (i+1))))=true
 all:¬(stR n.toNat (downOf S)).any R.isT=true
def Edge (on:List (List Int)) (u v:Int):Prop:=v∈on.getD u.toNat []
inductive Way (on:List (List Int)):Int->Int->Prop
 | one (u v:Int) (h:Edge on u v):Way on u v
 | more (u v w:Int) (h:Edge on u v) (hw:Way on v w):Way on u w
theorem Way.trans {on:List (List Int)} {u v w:Int} (h:Way on u v) (h2:Way on v w):Way on u w:=by
 induction h with
 | one u v h=>exact .more u v w h h2
 | more u v x h _ ih=>exact .more u v w h (ih h2)
theorem Way.snoc {on:List (List Int)} {u v w:Int} (h:Way on u v) (h2:Edge on v w):Way on u w:=h.trans (.one v w h2)
def Loops (on:List (List Int)) (n:Int):Prop:=∃i:Int,(0<=i/\i<n)/\Way on i i
def Rows2 (on:List (List Int)) (n:Int):Prop:=(on.length:Int)=n/\∀u v:Int,Edge on u v->0<=v/\v<n
theorem onL_edge {n:Int} {l:List (Int × Int)} {u v:Int} (hu:0<=u/\u<n):Edge (onL n l) u v↔0<=v/\(u,v)∈l:=by
 unfold Edge;have e:(onL n l).getD u.toNat []=rowOf l l.length u.toNat:=onN_get _ _ _ _ om;rw[e];unfold rowOf;rw[eA,mB];constructor
 ·rintro ⟨r,hr,rfl⟩;rw[jD] at hr;have:=eO hr.2;have h1:r.1=u:=om;refine ⟨this.2,?_⟩;have:(u,r.2)=r:=eC h1.symm rfl;rw[this];exact hr.1
 rintro ⟨h1,h2⟩;exact ⟨(u,v),jD.2 ⟨h2,qU ⟨by show u= _;omega,h1⟩⟩,rfl⟩
theorem edge_out {on:List (List Int)} {u v:Int} (h:Edge on u v):u.toNat<on.length:=by
 apply aH;intro hn;unfold Edge at h;rw[aB,cG om] at h;cases h
theorem aJi {n:Int} {l:List (Int × Int)} {u:Int} (h:u<0):(onL n l).getD u.toNat []=(onL n l).getD (0:Int).toNat []:=by
 rw[show u.toNat=(0:Int).toNat by omega]
theorem onL_rows {n:Int} {l:List (Int × Int)} (h:Ig n l):Rows2 (onL n l) n:=by
 obtain ⟨r1,r2,r3,r4⟩:=h;refine ⟨by rw[onL_len];omega,fun u v he=>?_⟩;have hu:=edge_out he;rw[onL_len] at hu;have key:∀u v:Int,0<=u->u<n->Edge (onL n l) u v->0<=v/\v<n:=fun u v h0 h1 he=>by
  obtain ⟨h2,h3⟩:=(onL_edge ⟨h0,h1⟩).1 he;obtain ⟨i,i1,i2⟩:=aNi h3;have:=r4 i i1;rw[i2] at this;omega
 by_cases h0:0<=u
 ·exact key u v h0 om he
 refine key 0 v om om ?_;unfold Edge at he ⊢;rwa [aJi om] at he
theorem b78 (S:List Int) (h:S.length<=100000):Uk Tp [] {} f100 [Ls S] (.ref 0 1) (.int .i64) S 3:=by
 (conv=>whnf);intro q hq;(apply Br.mk<;>intro)
 ·rename_i hx;have hx:=hq hx;subst hx;exact ZF
 exact ZGF
def c78:Con:=Qb 100 fun args K=>match args with | [.seq (.int .i64) S]=>Need (S.length<=100000) (K (.ref 0 1) (.vec 1 (.int .i64) (S) 3)) | _=>False
theorem k78:aO Tp c78:=by
 refine Kg (enters_of func100 kr rfl) ?_;intro args K h;split at h
 ·rename_i S;exact ⟨_,_,_,_,_,h.go,fun hfl=>tG si func100 (by simp[ntmps100]) hfl (b78 S h.ok)⟩
 cases h
theorem b69 (n:Int) (l:List (Int × Int)) (h:Ig n l):body Tp [] { asks:=[(0,[])] } true f54 [I n,Ps l] (.seq (.slice (.int .i64)) (onL n l)):=by
 obtain ⟨h1,h2,h3,h4⟩:=h;refine Need.mk (show 0<=n/\n<=n/\n<=140737488355328/\n*((24:Nat):Int)<=140737488355328 by omega) ?_;(repeat'((conv=>whnf);first|refine Zg fun _=>?_|fail));refine Ask.mk ⟨{ X:=Nat × Nat,pre:=fun x=>x.1<=l.length,mod:=fun x _=>[(12,I x.1)],heap:=fun x _=>[.vec 1 (.slice (.int .i64)) [] 41,.vv 1 x.2 (.int .i64) (onN n.toNat l x.1) none 41 3],mu:=fun x=>l.length-x.1 },rfl,?_⟩;(repeat refine ZG ?_);refine ⟨⟨((0:Nat),(0:Nat)),aK _,?_⟩,fun (x:Nat × Nat) hi=>?_⟩
 ·(repeat' first|exact trivial|rfl|apply aA);exact (aF3 _ _).symm
 have hi:x.1<=l.length:=hi;have hol:=Pz n.toNat l x.1;(apply Br.mk<;>intro)
 ·have hlt:x.1<l.length:=om;obtain ⟨g1,g2,g3,g4⟩:=h4 x.1 hlt;have hun:(l.getD x.1 (0,0)).1.toNat<n.toNat:=om;have hu:(l.getD x.1 (0,0)).1=((l.getD x.1 (0,0)).1.toNat:Int):=om;have hrow:=rowOf_len l x.1 (l.getD x.1 (0,0)).1.toNat;have hget:=onN_get n.toNat l x.1 _ hun;(repeat' first|refine ZG ?_|refine Zg fun _=>?_);(apply Br.mk<;>intro)
  ·(repeat'((conv=>whnf);first|refine Zn ?_|apply pI|apply pJ|fail));refine eS (l.getD x.1 (0,0)).1.toNat hu ?_;(repeat'((conv=>whnf);first|refine Zn ?_|apply pI|apply pJ|(apply PinH.mk;apply aG;apply aG)|refine Zl ?_|fail));refine Need.mk (show ((onN n.toNat l x.1).getD (l.getD x.1 (0,0)).1.toNat []).length+1<=17592186044416 by rw[hget];omega) ?_;(repeat'((conv=>whnf);first|refine Zn ?_|apply pJ|exact Zf|refine Zc ?_ ?_|refine Zl ?_|fail))
   ·refine Need.mk (show ((onN n.toNat l x.1).getD (l.getD x.1 (0,0)).1.toNat []).length+1<=17592186044416 by rw[hget];omega) ?_;(repeat'((conv=>whnf);first|apply pJ|exact Zf|fail))
   ·refine eS (l.getD x.1 (0,0)).1.toNat hu ?_;(repeat'((conv=>whnf);first|apply pJ|exact Zf|fail))
   refine eS (l.getD x.1 (0,0)).1.toNat hu ?_;(repeat'((conv=>whnf);first|refine Zn ?_|fail));refine Need.mk (show ((onN n.toNat l x.1).getD (l.getD x.1 (0,0)).1.toNat []++ [(l.getD x.1 (0,0)).2]).length<=140737488355328 by rw[hget,aS,cU];omega) ?_;(repeat refine ZG ?_);refine ⟨((x.1+1:Nat),(x.2+1+1:Nat)),?_,?_,?_⟩
   ·show l.length-(x.1+1)<l.length-x.1;omega
   ·show x.1+1<=l.length;omega
   (repeat' first|exact trivial|rfl|apply aA);exact aF5 n.toNat l x.1 _ hlt hu ‹_› hun
  have hos:=aF4 n.toNat l x.1 hlt ‹_›;(repeat refine ZG ?_);(conv=>whnf);refine ⟨((x.1+1:Nat),x.2),?_,?_,?_⟩
  ·show l.length-(x.1+1)<l.length-x.1;omega
  ·show x.1+1<=l.length;omega
  (repeat' first|exact trivial|rfl|apply aA);exact hos.symm
 have hii:x.1=l.length:=om;(conv=>whnf);rw[hii];rfl
def c69:Con:=aR 54 true fun args K=>match args with | [.val (.int .i64 n),.seq (.pair (.int .i64) (.int .i64)) l]=>Need (Ig n l) (K (.seq (.slice (.int .i64)) (onL n l))) | _=>False
theorem k69:aO Tp c69:=by
 refine kO func54 fun args K h=>?_;simp only[c69] at h;split at h
 ·rename_i n l;exact ⟨_,h.go,triB func54 ntmps54 si (b69 n l h.ok)⟩
 cases h
abbrev Rs (on:List (List Int)):SV:=.seq (.slice (.int .i64)) on
def wayB (on:List (List Int)) (i k:Int):Bool:=@decide (Way on i k) Cp
theorem wayB_iff (on:List (List Int)) (i k:Int):wayB on i k=true↔Way on i k:=@decide_eq_true_iff _ Cp
def reachL (on:List (List Int)) (i:Int):List Bool:=(List.range on.length).map fun k:Nat=>wayB on i k
def unmTo (on:List (List Int)) (out:List Bool):Nat->Nat
 | 0=>0
 | k+1=>unmTo on out k+if out.getD k false=true then 0 else (on.getD k []).length
theorem Nr (on:List (List Int)) (out:List Bool) (j:Nat) (hj:out.getD j false=false) (hl:j<out.length):∀k,unmTo on (out.set j true) k+(if j<k then (on.getD j []).length else 0)=unmTo on out k
 | 0=>by simp[unmTo]
 | k+1=>by
  have ih:=Nr on out j hj hl k;unfold unmTo;by_cases e:k=j
  ·subst e;have e1:(out.set k true).getD k false=true:=by rw[vW,aD ⟨rfl,hl⟩]
   rw[e1,hj,aD rfl,aD (dT _),aC si];rw[aC (gR _)] at ih;omega
  have e1:(out.set j true).getD k false=out.getD k false:=by rw[vW,aC fun h=>e h.1]
  rw[e1];by_cases h:j<k
  ·rw[aD h] at ih;rw[aD (show j<k+1 by omega)];omega
  rw[aC h] at ih;rw[aC (show ¬j<k+1 by omega)];omega
theorem Tm (on:List (List Int)) (out:List Bool) {B:Nat} (h:∀u,(on.getD u []).length<=B):∀k,unmTo on out k<=k*B
 | 0=>aK _
 | k+1=>by
  have ih:=Tm on out h k;have:=h k;unfold unmTo;rw[cL,iC];split<;>omega
structure RI (on:List (List Int)) (i:Int) (n:Int) (x:List Bool × List Int):Prop where
 len:x.1.length=on.length
 stk:∀k∈x.2,(0<=k/\k<n)/\Way on i k
 mrk:∀k:Nat,x.1.getD k false=true->Way on i k
 frm:∀k,Edge on i k->x.1.getD k.toNat false=true\/k∈x.2
 nxt:∀m:Nat,x.1.getD m false=true->∀k,Edge on m k->x.1.getD k.toNat false=true\/k∈x.2
 sz:x.2.length+unmTo on x.1 on.length<=5000000
theorem aNj {on:List (List Int)} {i n:Int} (hn:Rows2 on n) {out:List Bool} (h:RI on i n (out,[])):out=reachL on i:=by
 have hd:∀u k:Int,Way on u k->(∀k,Edge on u k->out.getD k.toNat false=true)->out.getD k.toNat false=true:=by
  intro u k hw
  induction hw with
  | one u v he=>intro hu;exact hu v he
  | more u v w he _ ih=>
   intro hu;refine ih fun k hk=>?_;have h1:=hu v he;have hv:=hn.2 u v he;have:=h.nxt v.toNat h1 k (by rw[bF hv.1];exact hk);exact this.resolve_right si
 apply jQ
 ·rw[h.len];simp[reachL]
 intro k h1 h2;simp only[reachL,List.getElem_map,List.getElem_range];have e:out[k]=out.getD k false:=by simp[aB,h1]
 rw[e,mQ,wayB_iff];constructor
 ·exact h.mrk k
 intro hw;have:=hd i k hw fun q hq=>(h.frm q hq).resolve_right si;simpa using this
theorem aBh {xs:List Int} (h:0<xs.length) (k:Int):k∈xs↔k∈xs.take (xs.length-1)\/k=xs.getD (xs.length-1) 0:=by
 have e:xs=xs.take (xs.length-1)++ [xs.getD (xs.length-1) 0]:=by
  have h2:xs.length-1<xs.length:=om;have:=cV h2;rw[show xs.length-1+1=xs.length by omega,eA] at this;rw[aB,aM h2];exact this
 constructor
 ·intro hk;rw[e] at hk;rcases cE.1 hk with h | h
  ·exact .inl h
  exact .inr (bO.1 h)
 rintro (h | h)
 ·exact dG h
 rw[h,aB,aM om];exact cT _
theorem aJj {on:List (List Int)} {i n:Int} {x:List Bool × List Int} (h:RI on i n x) (hp:0<x.2.length) (hm:x.1.getD (x.2.getD (x.2.length-1) 0).toNat false=true):RI on i n (x.1,x.2.take (x.2.length-1)):=by
 have hpm:=aBh hp;have key:∀k:Int,(x.1.getD k.toNat false=true\/k∈x.2)->x.1.getD k.toNat false=true\/k∈x.2.take (x.2.length-1):=fun k hk=>by
  rcases hk with hk | hk
  ·exact .inl hk
  rcases (hpm k).1 hk with h | h
  ·exact .inr h
  exact .inl (by rw[h];exact hm)
 refine ⟨h.len,fun k hk=>h.stk k ((hpm k).2 (.inl hk)),h.mrk,fun k hk=>key k (h.frm k hk),fun m hm k hk=>key k (h.nxt m hm k hk),?_⟩;have:=h.sz;show (x.2.take (x.2.length-1)).length+unmTo on x.1 on.length<= _;rw[aY];omega
theorem aJk {on:List (List Int)} {i n:Int} (hn:Rows2 on n) {x:List Bool × List Int} (h:RI on i n x) (hp:0<x.2.length) {j:Int} (hj:j=x.2.getD (x.2.length-1) 0) (hm:¬x.1.getD j.toNat false=true):
  RI on i n (x.1.set j.toNat true,x.2.take (x.2.length-1)++on.getD j.toNat [])/\(x.2.take (x.2.length-1)++on.getD j.toNat []).length+unmTo on (x.1.set j.toNat true) on.length<x.2.length+unmTo on x.1 on.length:=by
 have hpm:=aBh hp;have hjm:j∈x.2:=(hpm j).2 (.inr hj);obtain ⟨⟨j0,j1⟩,jw⟩:=h.stk j hjm;have hl:j.toNat<x.1.length:=by rw[h.len];have:=hn.1;omega
 have hset:∀k,(x.1.set j.toNat true).getD k false=if k=j.toNat then true else x.1.getD k false:=fun k=>by
  rw[vW];by_cases e:k=j.toNat
  ·subst e;rw[aD ⟨rfl,hl⟩,aD rfl]
  rw[aC fun h=>e h.1,aC e]
 have hun:=Nr on x.1 j.toNat (qX.2 hm) hl on.length;rw[aD (by rw[<- h.len];exact hl)] at hun;have hlen:(x.2.take (x.2.length-1)++on.getD j.toNat []).length=x.2.length-1+(on.getD j.toNat []).length:=by
  rw[aS,aY];omega
 have key:∀k:Int,(x.1.getD k.toNat false=true\/k∈x.2)->(x.1.set j.toNat true).getD k.toNat false=true\/k∈x.2.take (x.2.length-1)++on.getD j.toNat []:=fun k hk=>by
  rw[hset];by_cases e:k.toNat=j.toNat
  ·rw[aD e];exact .inl rfl
  rw[aC e];rcases hk with hk | hk
  ·exact .inl hk
  rcases (hpm k).1 hk with h | h
  ·exact .inr (cE.2 (.inl h))
  exact absurd (by rw[h,<- hj]) e
 refine ⟨⟨by rw[dN];exact h.len,fun k hk=>?_,fun k hk=>?_,fun k hk=>key k (h.frm k hk),fun m hm2 k hk=>?_,?_⟩,by rw[hlen];omega⟩
 ·rcases cE.1 hk with hk | hk
  ·exact h.stk k ((hpm k).2 (.inl hk))
  exact ⟨hn.2 j k hk,jw.snoc hk⟩
 ·rw[hset] at hk;by_cases e:k=j.toNat
  ·rw[e,bF j0];exact jw
  rw[aC e] at hk;exact h.mrk k hk
 ·rw[hset] at hm2;by_cases e:m=j.toNat
  ·right
   refine cE.2 (.inr ?_);unfold Edge at hk;rw[e,aJ] at hk;exact hk
  rw[aC e] at hm2;exact key k (h.nxt m hm2 k hk)
 have:=h.sz;show (x.2.take (x.2.length-1)++on.getD j.toNat []).length+unmTo on (x.1.set j.toNat true) on.length<= _;rw[hlen];omega
theorem b70 (on:List (List Int)) (i:Int) (h:∃n,Rows2 on n/\(0<=i/\i<n)/\(∀u,(on.getD u []).length<=4096)/\n<=512):body Tp [c78] { asks:=[(0,[2])] } true f60 [Rs on,I i] (Bs (reachL on i)):=by
 obtain ⟨n,h1,h2,h3,h4⟩:=h;obtain ⟨h5,h6⟩:=id h1;have hri:=h3 i.toNat;(repeat'((conv=>whnf);first|refine Zg fun _=>?_|fail));refine Need.mk (show 0<=(on.length:Int)/\(on.length:Int)<=(on.length:Int)/\(on.length:Int)<=140737488355328/\(on.length:Int)*((1:Nat):Int)<=140737488355328 by omega) ?_;(repeat refine ZG ?_);refine eS i.toNat om ?_;(repeat' first|refine ZG ?_|refine Zg fun _=>?_);refine Ask.mk ⟨{ X:=List Bool × List Int,pre:=fun x=>RI on i n x,mod:=fun x _=>[(6,.ref 2 1)],objs:=[2],heap:=fun x _=>[.vec 1 .bool [] 4,.vec 1 .bool x.1 4,.vec 1 (.int .i64) x.2 3],mu:=fun x=>x.2.length+unmTo on x.1 on.length },rfl,?_⟩;(repeat refine ZG ?_);refine ⟨⟨(List.replicate on.length false,on.getD i.toNat []),?_,?_⟩,fun (x:List Bool × List Int) hx=>?_⟩
 ·have hun:=Tm on (List.replicate on.length false) h3 on.length;have hmul:on.length*4096<=512*4096:=bQ _ om;refine ⟨si,fun k hk=>⟨h6 i k hk,.one _ _ hk⟩,fun k hk=>?_,fun k hk=>.inr hk,fun m hm=>?_,by show (on.getD i.toNat []).length+unmTo on (List.replicate on.length false) on.length<= _;omega⟩
  ·exfalso;rw[aB,cZ] at hk;split at hk<;>cases hk
  exfalso;rw[aB,cZ] at hm;split at hm<;>cases hm
 ·exact ZE
 have hx:RI on i n x:=hx;obtain ⟨q1,q2,q3,q4,q5,q6⟩:=id hx;(repeat'((conv=>whnf);first|refine Zg fun _=>?_|fail));(apply Br.mk<;>intro)
 ·have hpos:0<x.2.length:=om;have e1:(x.2.length:Int)-1=((x.2.length-1:Nat):Int):=om;have hlast:x.2.getD (x.2.length-1) 0∈x.2:=by
   rw[aB,aM om];exact cT _
  obtain ⟨⟨m1,m2⟩,m3⟩:=q2 _ hlast;(repeat' first|refine ZG ?_|refine Zg fun _=>?_);refine eS (x.2.length-1) e1 ?_;(repeat' first|refine ZN ?_|refine Zg fun _=>?_);refine Own.l (Own.r ?_);(repeat refine ZN ?_);refine eS (x.2.length-1) e1 ?_;(repeat refine ZG ?_);refine eS (x.2.getD (x.2.length-1) 0).toNat om ?_;(apply Br.mk<;>intro)
  ·rename_i hm;obtain ⟨w1,w2⟩:=aJk h1 hx hpos rfl hm;have hrj:=h3 (x.2.getD (x.2.length-1) 0).toNat;(repeat refine ZG ?_);refine eS (x.2.getD (x.2.length-1) 0).toNat om ?_;(repeat refine ZG ?_);refine eS (x.2.getD (x.2.length-1) 0).toNat om ?_;(repeat'((conv=>whnf);first|refine Zg fun _=>?_|fail));refine Need.mk (by rw[aY];omega) ?_;refine ⟨((x.1.set (x.2.getD (x.2.length-1) 0).toNat true,x.2.take (x.2.length-1)++on.getD (x.2.getD (x.2.length-1) 0).toNat []):List Bool × List Int),w2,w1,?_⟩;exact ZE
  rename_i hm;have w1:=aJj hx hpos (bC.1 hm);refine ⟨((x.1,x.2.take (x.2.length-1)):List Bool × List Int),?_,w1,?_⟩
  ·have e2:(x.2.take (x.2.length-1)).length<x.2.length:=by rw[aY];omega
   show (x.2.take (x.2.length-1)).length+unmTo on x.1 on.length<x.2.length+unmTo on x.1 on.length;omega
  exact ZE
 have h0:x.2= []:=cF om;have hend:=aNj (out:=x.1) h1 (by rw[<- h0];exact hx);(conv=>whnf);exact hend
def c70:Con:=aR 60 true fun args K=>match args with | [.seq (.slice (.int .i64)) on,.val (.int .i64 i)]=>Need (∃n,Rows2 on n/\(0<=i/\i<n)/\(∀u,(on.getD u []).length<=4096)/\n<=512) (K (Bs (reachL on i))) | _=>False
theorem k70:aO Tp c70:=by
 refine kO func60 fun args K h=>?_;simp only[c70] at h;split at h
 ·rename_i on i;exact ⟨_,h.go,triB func60 ntmps60 (by simp[k78]) (b70 on i h.ok)⟩
 cases h
inductive WayN (on:List (List Int)):Nat->Int->Int->Prop
 | nil (u:Int):WayN on 0 u u
 | cons (m:Nat) (u v w:Int) (h:Edge on u v) (hw:WayN on m v w):WayN on (m+1) u w
theorem Way.num {on:List (List Int)} {u v:Int} (h:Way on u v):∃m,WayN on (m+1) u v:=by
 induction h with
 | one u v h=>exact ⟨0,.cons 0 u v v h (.nil v)⟩
 | more u v w h _ ih=>obtain ⟨m,hm⟩:=ih;exact ⟨m+1,.cons (m+1) u v w h hm⟩
def Gs (p:Nat->Prop) (m:Nat):Prop:=p m/\∀q,q<m->¬p q
theorem Tn {p:Nat->Prop} {m:Nat} (h:p m):∃q,Gs p q:=by
 induction m using Nat.strongRecOn with
 | _ m ih=>
  by_cases hq:∃q,q<m/\p q
  ·obtain ⟨q,h1,h2⟩:=hq;exact ih q h1 h2
  exact ⟨m,h,fun q h1 h2=>hq ⟨q,h1,h2⟩⟩
theorem Xw {p:Nat->Prop} {a b:Nat} (h1:Gs p a) (h2:Gs p b):a=b:=by
 rcases nB a b with h | h | h
 ·exact absurd h1.1 (h2.2 a h)
 ·exact h
 exact absurd h2.1 (h1.2 b h)
def jI (on:List (List Int)) (tg k:Int):Int:=open Classical in if h:∃m,Gs (fun m=>WayN on m k tg) m then (Classical.choose h:Nat) else -1
theorem Jb {on:List (List Int)} {tg k:Int} {m:Nat} (h:Gs (fun m=>WayN on m k tg) m):jI on tg k=m:=by
 have hex:∃m,Gs (fun m=>WayN on m k tg) m:=⟨m,h⟩;unfold jI;rw[dif_pos hex,Xw (Classical.choose_spec hex) h]
theorem Xx {on:List (List Int)} {tg k:Int} (h:∀m,¬WayN on m k tg):jI on tg k= -1:=by
 unfold jI;rw[Ex];rintro ⟨m,hm⟩;exact h m hm.1
def cntTo (far:List Int):Nat->Nat
 | 0=>0
 | k+1=>cntTo far k+if 0<=far.getD k (-1) then 1 else 0
def phiTo (N:Nat) (far:List Int):Nat->Nat
 | 0=>0
 | k+1=>phiTo N far k+if 0<=far.getD k (-1) then (far.getD k (-1)).toNat else N
structure DI (on:List (List Int)) (tg:Int) (far:List Int):Prop where
 len:far.length=on.length
 zero:far.getD tg.toNat (-1)=0
 way:∀k:Nat,k<on.length->0<=far.getD k (-1)->WayN on (far.getD k (-1)).toNat k tg
 low:∀k:Nat, -1<=far.getD k (-1)
 cnt:∀k:Nat,far.getD k (-1)<cntTo far on.length
theorem To {on:List (List Int)} {tg k:Int} {m:Nat} (h:WayN on m k tg):∃d:Nat,jI on tg k=d/\WayN on d k tg/\d<=m:=by
 obtain ⟨q,hq⟩:=Tn (p:=fun m=>WayN on m k tg) h;refine ⟨q,Jb hq,hq.1,?_⟩;apply aH;intro hn;exact hq.2 m om h
theorem Tq {on:List (List Int)} (tg k:Int):jI on tg k= -1\/∃d:Nat,jI on tg k=d/\WayN on d k tg:=by
 by_cases h:∃m,WayN on m k tg
 ·obtain ⟨m,hm⟩:=h;obtain ⟨d,h1,h2,_⟩:=To hm;exact .inr ⟨d,h1,h2⟩
 exact .inl (Xx fun m hm=>h ⟨m,hm⟩)
structure DP (on:List (List Int)) (tg:Int) (far0:List Int) (x:List Int × Bool):Prop where
 di:DI on tg x.1
 yes:x.2=true->phiTo on.length x.1 on.length<phiTo on.length far0 on.length
 no:x.2=false->x.1=far0
theorem Xy {on:List (List Int)} {tg u:Int} {d:Nat} (h:Gs (fun m=>WayN on m u tg) (d+1)):∃v,Edge on u v/\Gs (fun m=>WayN on m v tg) d:=by
 obtain ⟨h1,h2⟩:=h;cases h1 with
 | cons _ _ v _ he hw=>exact ⟨v,he,hw,fun q hq hq2=>h2 (q+1) om (.cons q u v tg he hq2)⟩
theorem reach_get {on:List (List Int)} (i:Int) {k:Nat} (h:k<on.length):(reachL on i).getD k false=wayB on i k:=by
 simp[reachL,aB,h]
theorem reachL_len (on:List (List Int)) (i:Int):(reachL on i).length=on.length:=by simp[reachL]
def Run (on:List (List Int)) (m:Nat) (i:Int):Prop:=∃w,WayN on m i w
theorem Run.zero (on:List (List Int)) (i:Int):Run on 0 i:=⟨i,.nil i⟩
theorem Run.cons {on:List (List Int)} {m:Nat} {i k:Int} (he:Edge on i k) (h:Run on m k):Run on (m+1) i:=by
 obtain ⟨w,hw⟩:=h;exact ⟨w,.cons m i k w he hw⟩
theorem Run.inv {on:List (List Int)} {m:Nat} {i:Int} (h:Run on (m+1) i):∃k,Edge on i k/\Run on m k:=by
 obtain ⟨w,hw⟩:=h;cases hw with
 | cons _ _ v _ he hw=>exact ⟨v,he,w,hw⟩
theorem Wn {on:List (List Int)} {n:Int} (hn:Rows2 on n):∀(m:Nat) (i:Int),(0<=i/\i<n)->Run on m i->∃ws:List Int,ws.length=m+1/\(∀w∈ws,(0<=w/\w<n)/\(w=i\/Way on i w))/\ws.Pairwise (Way on)
 | 0,i,hi,_=>⟨[i],rfl,fun w hw=>by rw[bO.1 hw];exact ⟨hi,.inl rfl⟩,qL _ _⟩
 | m+1,i,hi,h=>by
  obtain ⟨k,he,hr⟩:=h.inv;obtain ⟨ws,w1,w2,w3⟩:=Wn hn m k (hn.2 i k he) hr;have hw:∀w∈ws,Way on i w:=fun w hw=>by
   rcases (w2 w hw).2 with rfl | h2
   ·exact .one _ _ he
   exact .more _ _ _ he h2
  refine ⟨i::ws,by simpa using w1,fun w h=>?_,mG.2 ⟨hw,w3⟩⟩;rcases bH.1 h with rfl | h
  ·exact ⟨hi,.inl rfl⟩
  exact ⟨(w2 w h).1,.inr (hw w h)⟩
theorem Ow {on:List (List Int)} {n:Int} (hn:Rows2 on n) (hno:¬Loops on n) {m:Nat} {i:Int} (hi:0<=i/\i<n) (h:Run on m i):(m:Int)<n:=by
 obtain ⟨ws,w1,w2,w3⟩:=Wn hn m i hi h;have hnd:ws.Nodup:=by
  rw[List.nodup_iff_pairwise_ne];refine w3.imp_of_mem fun {a b} ha hb hw e=>?_;subst e;exact hno ⟨a,(w2 a ha).1,hw⟩
 have:=Ns om hnd fun w hw=>(w2 w hw).1;omega
structure RK (on:List (List Int)) (B:Int) (out:List Int):Prop where
 len:out.length=on.length
 run:∀i:Nat,i<on.length->0<=out.getD i 0/\Run on (out.getD i 0).toNat i
 top:∀i:Nat,out.getD i 0<=B
theorem RK.mono {on:List (List Int)} {B C:Int} {out:List Int} (h:RK on B out) (hc:B<=C):RK on C out:=⟨h.len,h.run,fun i=>eW (h.top i) hc⟩
def LowR (on:List (List Int)) (r:Nat) (out:List Int):Prop:=∀i:Nat,i<on.length->∀m,m<=r->Run on m i->(m:Int)<=out.getD i 0
structure RankOk (on:List (List Int)) (out:List Int):Prop where
 len:out.length=on.length
 run:∀i:Nat,i<on.length->0<=out.getD i 0/\Run on (out.getD i 0).toNat i
 fix:∀u v:Int,0<=u->Edge on u v->out.getD v.toNat 0<out.getD u.toNat 0
theorem Wo {on:List (List Int)} {n:Int} (hn:Rows2 on n) {out:List Int} (h:RankOk on out):∀(m:Nat) (i:Int),(0<=i/\i<n)->Run on m i->(m:Int)<=out.getD i.toNat 0
 | 0,i,hi,_=>(h.run i.toNat (by have:=hn.1;omega)).1
 | m+1,i,hi,hr=>by
  obtain ⟨k,he,hk⟩:=hr.inv;have h1:=Wo hn h m k (hn.2 i k he) hk;have h2:=h.fix i k hi.1 he;omega
theorem aC0 {on:List (List Int)} {n:Int} (hn:Rows2 on n) {o1 o2:List Int} (h1:RankOk on o1) (h2:RankOk on o2) {i:Nat} (hi:i<on.length):o1.getD i 0<=o2.getD i 0:=by
 obtain ⟨h3,h4⟩:=h1.run i hi;have:=Wo hn h2 _ i (by have:=hn.1;omega) h4;rw[aJ] at this;omega
theorem aEk {on:List (List Int)} {n:Int} (hn:Rows2 on n) {o1 o2:List Int} (h1:RankOk on o1) (h2:RankOk on o2):o1=o2:=by
 apply jQ
 ·rw[h1.len,h2.len]
 intro i h3 h4;have hi:i<on.length:=by rw[<- h1.len];exact h3
 have e1:o1[i]=o1.getD i 0:=by simp[aB,h3]
 have e2:o2[i]=o2.getD i 0:=by simp[aB,h4]
 rw[e1,e2];exact Int.le_antisymm (aC0 hn h1 h2 hi) (aC0 hn h2 h1 hi)
theorem Wq {on:List (List Int)} {n:Int} (hn:Rows2 on n) {out:List Int} (h:RankOk on out):¬Loops on n:=by
 rintro ⟨i,hi,hw⟩;have key:∀u v:Int,Way on u v->0<=u->out.getD v.toNat 0<out.getD u.toNat 0:=by
  intro u v hw
  induction hw with
  | one u v he=>exact fun hu=>h.fix u v hu he
  | more u v w he _ ih=>
   intro hu;have h1:=h.fix u v hu he;have h2:=ih (hn.2 u v he).1;omega
 have:=key i i hw hi.1;omega
structure RP (on:List (List Int)) (r:Nat) (B:Int) (out0:List Int) (done:Int->Int->Prop) (x:List Int × Bool):Prop where
 rk:RK on B x.1
 low:LowR on r x.1
 dn:∀u v,done u v->∀m,m<=r->Run on m v->(m:Int)+1<=x.1.getD u.toNat 0
 no:x.2=false->x.1=out0/\∀u v,done u v->out0.getD v.toNat 0<out0.getD u.toNat 0
 yes:x.2=true->∃u v,0<=u/\Edge on u v/\out0.getD u.toNat 0<=out0.getD v.toNat 0
theorem RP.start {on:List (List Int)} {r:Nat} {B:Int} {out:List Int} (h:RK on B out) (h2:LowR on r out):RP on r B out (fun _ _=>False) (out,false):=
 ⟨h,h2,fun _ _ h=>h.elim,fun _=>⟨rfl,fun _ _ h=>h.elim⟩,fun h=>nomatch h⟩
theorem RP.mono {on:List (List Int)} {r:Nat} {B C:Int} {out0:List Int} {d e:Int->Int->Prop} {x:List Int × Bool} (h:RP on r B out0 d x) (hc:B<=C) (hd:∀u v,e u v->d u v):RP on r C out0 e x:=
 ⟨h.rk.mono hc,h.low,fun u v h1=>h.dn u v (hd u v h1),fun h1=>⟨(h.no h1).1,fun u v h2=>(h.no h1).2 u v (hd u v h2)⟩,h.yes⟩
theorem RP.turn {on:List (List Int)} {n:Int} (hn:Rows2 on n) {r:Nat} {B:Int} {out0:List Int} {d:Int->Int->Prop} {x:List Int × Bool} (h:RP on r B out0 d x) {u v:Int} (hu:0<=u/\u<n) (he:Edge on u v) (hc:x.1.getD u.toNat 0<=x.1.getD v.toNat 0):
  RP on r (B+1) out0 (fun a b=>d a b\/a=u/\b=v) (x.1.set u.toNat (x.1.getD v.toNat 0+1),true):=by
 have hv:=hn.2 u v he;have hl:u.toNat<x.1.length:=by rw[h.rk.len];have:=hn.1;omega
 have hs:∀q,(x.1.set u.toNat (x.1.getD v.toNat 0+1)).getD q 0=if q=u.toNat then x.1.getD v.toNat 0+1 else x.1.getD q 0:=fun q=>by
  rw[vW];by_cases e:q=u.toNat
  ·rw[aD ⟨e,by rw[e];exact hl⟩,aD e]
  rw[aC fun h=>e h.1,aC e]
 have up:∀q,x.1.getD q 0<=(x.1.set u.toNat (x.1.getD v.toNat 0+1)).getD q 0:=fun q=>by
  rw[hs];by_cases e:q=u.toNat
  ·rw[aD e,e];omega
  rw[aC e];exact fX _
 obtain ⟨v0,v1⟩:=h.rk.run v.toNat (by have:=hn.1;omega);rw[bF hv.1] at v1;refine ⟨⟨by rw[dN];exact h.rk.len,fun i hi=>?_,fun i=>?_⟩,fun i hi m hm hr=>eW (h.low i hi m hm hr) (up i),fun a b hd m hm hr=>?_,fun h=>(nomatch h),fun _=>?_⟩
 ·show 0<=(x.1.set u.toNat (x.1.getD v.toNat 0+1)).getD i 0/\Run on ((x.1.set u.toNat (x.1.getD v.toNat 0+1)).getD i 0).toNat i;rw[hs];by_cases e:i=u.toNat
  ·rw[aD e];refine ⟨om,?_⟩;rw[show (x.1.getD v.toNat 0+1).toNat=(x.1.getD v.toNat 0).toNat+1 by omega,e,bF hu.1];exact v1.cons he
  rw[aC e];exact h.rk.run i hi
 ·show (x.1.set u.toNat (x.1.getD v.toNat 0+1)).getD i 0<=B+1;rw[hs];have:=h.rk.top i;have:=h.rk.top v.toNat;split<;>omega
 ·rcases hd with hd | ⟨rfl,rfl⟩
  ·exact eW (h.dn a b hd m hm hr) (up a.toNat)
  show (m:Int)+1<=(x.1.set a.toNat (x.1.getD b.toNat 0+1)).getD a.toNat 0;rw[hs,aD rfl];have:=h.low b.toNat (by have:=hn.1;omega) m hm (by rw[bF hv.1];exact hr);omega
 by_cases hx:x.2=true
 ·exact h.yes hx
 obtain ⟨e,_⟩:=h.no (qX.2 hx);exact ⟨u,v,hu.1,he,by rw[<- e];exact hc⟩
theorem RP.skip {on:List (List Int)} {n:Int} (hn:Rows2 on n) {r:Nat} {B:Int} {out0:List Int} {d:Int->Int->Prop} {x:List Int × Bool} (h:RP on r B out0 d x) {u v:Int} (hu:0<=u/\u<n) (he:Edge on u v) (hc:¬x.1.getD u.toNat 0<=x.1.getD v.toNat 0):
  RP on r (B+1) out0 (fun a b=>d a b\/a=u/\b=v) x:=by
 have hv:=hn.2 u v he;refine ⟨h.rk.mono om,h.low,fun a b hd m hm hr=>?_,fun hx=>⟨(h.no hx).1,fun a b hd=>?_⟩,h.yes⟩
 ·rcases hd with hd | ⟨rfl,rfl⟩
  ·exact h.dn a b hd m hm hr
  have:=h.low b.toNat (by have:=hn.1;omega) m hm (by rw[bF hv.1];exact hr);omega
 rcases hd with hd | ⟨rfl,rfl⟩
 ·exact (h.no hx).2 a b hd
 rw[<- (h.no hx).1];omega
theorem RP.stay {on:List (List Int)} {r:Nat} {B:Int} {out0:List Int} {d:Int->Int->Prop} {x:List Int × Bool} (h:RP on r B out0 d x) (hall:∀u v,0<=u->Edge on u v->d u v) (hx:x.2=false):RankOk on x.1:=by
 obtain ⟨e,h2⟩:=h.no hx;exact ⟨h.rk.len,h.rk.run,fun u v hu he=>by rw[e];exact h2 u v (hall u v hu he)⟩
theorem RP.more {on:List (List Int)} {r:Nat} {B:Int} {out0:List Int} {d:Int->Int->Prop} {x:List Int × Bool} (h:RP on r B out0 d x) (hall:∀u v,0<=u->Edge on u v->d u v):LowR on (r+1) x.1:=fun i hi m hm hr=>by
 cases m with
 | zero=>exact (h.rk.run i hi).1
 | succ m=>
  obtain ⟨k,he,hk⟩:=hr.inv;have:=h.dn i k (hall i k om he) m om hk;rw[aJ] at this;omega
theorem RP.late {on:List (List Int)} {n:Int} (hn:Rows2 on n) {r:Nat} {B C:Int} {out0:List Int} {d:Int->Int->Prop} {x:List Int × Bool} (h:RP on r B out0 d x) (h0:RK on C out0) (h1:LowR on r out0) (hr:n<=r) (hx:x.2=true):Loops on n:=by
 apply aH;intro hno;obtain ⟨u,v,hu,he,hc⟩:=h.yes hx;have hv:=hn.2 u v he;have hul:=edge_out he;obtain ⟨v0,v1⟩:=h0.run v.toNat (by have:=hn.1;omega);rw[bF hv.1] at v1;have h2:=v1.cons he;have hun:0<=u/\u<n:=by have:=hn.1;omega
 have h3:=Ow hn hno hun h2;have h4:=h1 u.toNat hul ((out0.getD v.toNat 0).toNat+1) om (by rw[bF hu];exact h2);omega
theorem aKb (on:List (List Int)):RK on 0 (List.replicate on.length 0)/\LowR on 0 (List.replicate on.length 0):=by
 have hg:∀k,(List.replicate on.length (0:Int)).getD k 0=0:=fun k=>by
  rw[aB,cZ];split<;>rfl
 refine ⟨⟨si,fun i _=>?_,fun i=>by rw[hg];omega⟩,fun i _ m hm _=>by rw[hg];omega⟩;rw[hg];exact ⟨fX _,Run.zero _ _⟩
theorem aKc {on:List (List Int)} {n:Int} (hn:Rows2 on n) (hno:¬Loops on n):∃out,RankOk on out:=by
 have hg:∀(i:Int),(0<=i/\i<n)->∃m,Run on m i/\∀q,Run on q i->q<=m:=fun i hi=>by
  have key:∀k:Nat,(∀q,Run on q i->q<=k)->∃m,Run on m i/\∀q,Run on q i->q<=m:=by
   intro k
   induction k with
   | zero=>exact fun h=>⟨0,Run.zero _ _,h⟩
   | succ k ih=>
    intro h;by_cases hk:Run on (k+1) i
    ·exact ⟨k+1,hk,h⟩
    refine ih fun q hq=>?_;have:=h q hq;by_cases e:q=k+1
    ·subst e;exact absurd hq hk
    omega
  exact key n.toNat fun q hq=>by have:=Ow hn hno hi hq;omega
 have hf:∀i:Int,∃m:Nat,(0<=i/\i<n)->Run on m i/\∀q,Run on q i->q<=m:=fun i=>by
  by_cases hi:0<=i/\i<n
  ·obtain ⟨m,hm⟩:=hg i hi;exact ⟨m,fun _=>hm⟩
  exact ⟨0,fun h=>absurd h hi⟩
 obtain ⟨f,hf⟩:=Classical.axiomOfChoice hf;have hln:=hn.1;have hget:∀i:Nat,i<on.length->((List.range on.length).map fun i:Nat=>(f i:Int)).getD i 0=f i:=fun i hi=>by
  simp[aB,hi]
 refine ⟨(List.range on.length).map fun i:Nat=>(f i:Int),si,fun i hi=>?_,fun u v hu he=>?_⟩
 ·rw[hget i hi];exact ⟨om,by rw[aJ];exact (hf i om).1⟩
 have hul:=edge_out he;have hv:=hn.2 u v he;rw[hget u.toNat hul,hget v.toNat om];rw[bF hu,bF hv.1];have h1:=(hf v hv).1;have h2:=(hf u om).2 _ (h1.cons he);omega
open Classical in
def aHr (on:List (List Int)):List Int:=if h:∃out,RankOk on out then Classical.choose h else []
theorem Wr {on:List (List Int)} {n:Int} (hn:Rows2 on n) {out:List Int} (h:RankOk on out):aHr on=out:=by
 have hex:∃out,RankOk on out:=⟨out,h⟩;unfold aHr;rw[dif_pos hex];exact aEk hn (Classical.choose_spec hex) h
open Classical in
def rkE (n:Int) (l:List (Int × Int)):Int:=if supE n l=0 then if Loops (onL n l) n then 27 else 0 else 1
open Classical in
def rkR (n:Int) (l:List (Int × Int)):List Int:=if supE n l=0 then if Loops (onL n l) n then [] else aHr (onL n l) else []
theorem rk_len {n:Int} {l:List (Int × Int)} (h:supE n l=0) (h2:¬Loops (onL n l) n):rkE n l=0/\(rkR n l).length=n.toNat:=by
 have hn:=onL_rows (supE_rests h);obtain ⟨out,ho⟩:=aKc hn h2;unfold rkE rkR;rw[aD h,aD h,aC h2,aC h2,Wr hn ho,ho.len,onL_len];exact ⟨rfl,rfl⟩
theorem aNq {n:Int} {l:List (Int × Int)} (h:¬supE n l=0):rkE n l=1/\rkR n l= []:=by
 unfold rkE rkR;rw[aC h,aC h];exact ⟨rfl,rfl⟩
theorem aKd {n:Int} {l:List (Int × Int)} (h:supE n l=0) (h2:Loops (onL n l) n):rkE n l=27/\rkR n l= []:=by
 unfold rkE rkR;rw[aD h,aD h,aD h2,aD h2];exact ⟨rfl,rfl⟩
theorem rk_fine {n:Int} {l:List (Int × Int)} (h:supE n l=0) {out:List Int} (h2:RankOk (onL n l) out):rkE n l=0/\rkR n l=out:=by
 have hn:=onL_rows (supE_rests h);have hno:=Wq hn h2;unfold rkE rkR;rw[aD h,aD h,aC hno,aC hno];exact ⟨rfl,Wr hn h2⟩
end EB
end

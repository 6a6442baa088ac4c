/-
  Part 7: a symbolic executor over the model, contracts of functions and plain laws.
-/
import Derived.Test.YtabmgmflgfoleaaGreatDoorP6
import Init.Data.Rat
set_option linter.unusedVariables false
set_option linter.unusedSimpArgs false
set_option maxRecDepth 10000
set_option maxHeartbeats 80000000
section
open Go Go.Proofs Go.Eng Go.Shelf IB Go.Lib Go.RowKit
namespace RB
theorem b71 (a b:List UInt8) (h:chkI a=0∧chkI b=0∧0<valI b∧valI b ∣ valI a):body Tryz.prog [c110,c111,c61,c112,c113,c115,c116] {} true Tryz.f199 [S a,S b] (.tup [S (itoa (valI a/valI b)),.any,I 0]):=by
 obtain ⟨ha,hb,hpos,hdv⟩:=h
 obtain ⟨fa,la⟩:=bY ha
 obtain ⟨fb,lb⟩:=bY hb
 have zA:=jW fa la
 have zB:=jW fb lb
 have hab:form a∧form b:=⟨fa,fb⟩
 have ra:form a∧(digs a).length≤600:=⟨fa,by omega⟩
 have rb:form b∧(digs b).length≤600:=⟨fb,by omega⟩
 have hc2:¬chk2 a b≠0:=by
  unfold chk2
  rw[if_neg (by rw[ha];simp),hb];simp
 have hb0:¬b= [48]:=fun e=>by rw[e] at hpos;revert hpos;decide
 have hr0:valI a%valI b=0:=Int.emod_eq_zero_of_dvd hdv
 have hbn:¬b.headD 0=45:=fun e=>by
  rw[cX] at hpos
  unfold sgP at hpos
  rw[if_pos e] at hpos
  omega
 have vb:valI b=(aC (digs b):Int):=by rw[cX];unfold sgP;rw[if_neg hbn]
 refine Br.mkN (show ¬ ¬chk2 a b=0 from hc2) ?_
 refine Br.mkN hb0 ?_
 (repeat'((conv=>whnf);first|refine Zn ?_|fail))
 (apply Br.mk<;>intro)
 ·rename_i hs
  have h1:=jV fa hs.1
  have h2:=jV fb hs.2
  have t1:(valI a).tmod (valI b)=0:=by
   have:=Int.dvd_iff_tmod_eq_zero.1 hdv
   exact this
  have t2:(valI a).tdiv (valI b)=valI a/valI b:=Int.tdiv_eq_ediv_of_dvd hdv
  have t3:(valI a/valI b).natAbs≤(valI a).natAbs:=Int.natAbs_ediv_le_natAbs _ _
  (repeat'((conv=>whnf);first|refine Zb ?_|refine Zn ?_|(apply Pin.mk;apply Exists.intro)|apply Pinned.mk rfl rfl|fail))
  refine Br.mkN (show ¬ ¬(valI a).tmod (valI b)=0 by rw[t1];simp) ?_
  (conv=>whnf)
  (repeat' first|exact trivial|rfl|apply And.intro)
  exact congrArg itoa t2
 ·have e6:=v6 (aC (digs b))
  have e6a:=v6 (aC (digs a))
  have nb:=fH fb lb
  have na:=fH fa la
  have hNb:0<aC (digs b):=by omega
  have hN:InB B6 (aA B6 (aC (digs a)))∧dK (aA B6 (aC (digs b)))∧(0<(valB B6 (aA B6 (aC (digs b)))).toNat∧(valB B6 (aA B6 (aC (digs b)))).toNat<B6^100)∧(aA B6 (aC (digs a))).length≤1000:=
   ⟨aO (by decide) _,dL _,⟨by omega,by rw[e6,Int.toNat_natCast];exact Nat.lt_of_lt_of_le nb (Nat.pow_le_pow_right (by decide) (by decide))⟩,by have:=gX na;omega⟩
  have hA:valI a=if a.headD 0=45 then -(aC (digs a):Int) else (aC (digs a):Int):=by
   rw[cX];unfold sgP;rfl
  have hd:(aC (digs b):Int) ∣ (aC (digs a):Int):=by
   rw[← vb]
   rw[hA] at hdv
   split at hdv
   ·exact Int.dvd_neg.1 hdv
   ·exact hdv
  have hR:aA B6 (valB B6 (aA B6 (aC (digs a)))%valB B6 (aA B6 (aC (digs b)))).toNat= []:=by
   rw[e6,e6a,Int.emod_eq_zero_of_dvd hd]
   exact aX _
  have hQ:aA B6 (valB B6 (aA B6 (aC (digs a)))/valB B6 (aA B6 (aC (digs b)))).toNat=aA B6 (aC (digs a)/aC (digs b)):=by
   rw[e6,e6a,← Int.natCast_ediv,Int.toNat_natCast]
  have hq2:dK (aA B6 (valB B6 (aA B6 (aC (digs a)))/valB B6 (aA B6 (aC (digs b)))).toNat)∧(aA B6 (valB B6 (aA B6 (aC (digs a)))/valB B6 (aA B6 (aC (digs b)))).toNat).length≤200:=by
   rw[hQ]
   refine ⟨dL _,?_⟩
   have:=gX (m:=aC (digs a)/aC (digs b)) (k:=50) (Nat.lt_of_le_of_lt (Nat.div_le_self _ _) na)
   omega
  have hr2:dK (aA B6 (valB B6 (aA B6 (aC (digs a)))%valB B6 (aA B6 (aC (digs b)))).toNat)∧(aA B6 (valB B6 (aA B6 (aC (digs a)))%valB B6 (aA B6 (aC (digs b)))).toNat).length≤200:=by
   rw[hR];exact ⟨by rw[← aX B6];exact dL 0,by simp⟩
  have hrl:¬(0:Int)<((aA B6 (valB B6 (aA B6 (aC (digs a)))%valB B6 (aA B6 (aC (digs b)))).toNat).length:Int):=by rw[hR];simp
  have hres:resI (valI a/valI b)=(itoa (valI a/valI b),0):=by
   unfold resI
   rw[if_neg]
   have h1:(valI a/valI b).natAbs≤(valI a).natAbs:=Int.natAbs_ediv_le_natAbs _ _
   have h2:(valI a).natAbs<10^ (digs a).length:=by
    have:=bW (digs a) fa.2.2
    rw[hA];split<;>omega
   have h3:=cR la
   rw[bS (k:=300) ⟨by decide,by decide⟩ (Nat.lt_of_le_of_lt h1 (Nat.lt_of_lt_of_le h2 h3))]
   decide
  have vq:valB B6 (aA B6 (valB B6 (aA B6 (aC (digs a)))/valB B6 (aA B6 (aC (digs b)))).toNat)=((aC (digs a)/aC (digs b):Nat):Int):=by rw[hQ,v6]
  have hp1:a.headD 0=45→∀ [hD:Decidable ((0:Int)<((aA B6 (valB B6 (aA B6 (aC (digs a)))/valB B6 (aA B6 (aC (digs b)))).toNat).length:Int))],sgP ((0:Int)<((aA B6 (valB B6 (aA B6 (aC (digs a)))/valB B6 (aA B6 (aC (digs b)))).toNat).length:Int)) (valB B6 (aA B6 (valB B6 (aA B6 (aC (digs a)))/valB B6 (aA B6 (aC (digs b)))).toNat))=valI a/valI b:=by
   intro hp hD
   rw[vq]
   have e0:valI a/valI b= -((aC (digs a)/aC (digs b):Nat):Int):=by
    rw[hA,if_pos hp,vb,Int.neg_ediv_of_dvd hd,Int.natCast_ediv]
   unfold sgP
   split
   ·rw[e0]
   ·rename_i h0
    rw[hQ] at h0
    have:aC (digs a)/aC (digs b)=0:=(yZ _).1 (by omega)
    rw[e0,this];rfl
  have hp0:¬a.headD 0=45→valB B6 (aA B6 (valB B6 (aA B6 (aC (digs a)))/valB B6 (aA B6 (aC (digs b)))).toNat)=valI a/valI b:=by
   intro hp
   rw[vq,hA,if_neg hp,vb,Int.natCast_ediv]
  (apply Br.mk<;>intro)
  all_goals
   (repeat'((conv=>whnf);first|refine Zn ?_|refine Zl ?_|fail))
   by_cases hp:a.headD 0=45
   ·refine Br.mkY (show ¬(a.headD 0=45↔b.headD 0=45) from fun h'=>hbn (h'.1 hp)) ?_
    (repeat'((conv=>whnf);first|refine Zg fun _=>?_|fail))
    refine Br.mkY hp ?_
    (repeat'((conv=>whnf);first|refine Zg fun _=>?_|refine Zl ?_|fail))
    refine Br.mkN hrl ?_
    (repeat'((conv=>whnf);first|refine Zn ?_|fail))
    refine Br.mkN (by rw[hp1 hp,hres];simp) ?_
    (repeat'((conv=>whnf);first|refine Zn ?_|fail))
    (conv=>whnf)
    (repeat' first|exact trivial|rfl|apply And.intro)
    (conv=>whnf)
    rw[hp1 hp,hres]
   ·refine Br.mkN (show ¬ ¬(a.headD 0=45↔b.headD 0=45) from fun h'=>h' ⟨fun h=>absurd h hp,fun h=>absurd h hbn⟩) ?_
    refine Br.mkN hp ?_
    (repeat'((conv=>whnf);first|refine Zg fun _=>?_|refine Zl ?_|fail))
    refine Br.mkN hrl ?_
    (repeat'((conv=>whnf);first|refine Zn ?_|fail))
    refine Br.mkN (by rw[hp0 hp,hres];simp) ?_
    (repeat'((conv=>whnf);first|refine Zn ?_|fail))
    (conv=>whnf)
    (repeat' first|exact trivial|rfl|apply And.intro)
    (conv=>whnf)
    rw[hp0 hp,hres]
def c71:Con:=aJ 199 true fun args K=>match args with | [.str a,.str b]=>Need (chkI a=0∧chkI b=0∧0<valI b∧valI b ∣ valI a) (K (.tup [S (itoa (valI a/valI b)),.any,I 0])) | _=>False
theorem k71:aG Tryz.prog c71:=by
 refine kO Tryz.func199 fun args K h=>?_
 simp only[c71] at h;split at h
 ·rename_i a b;exact ⟨_,h.go,triB Tryz.func199 Tryz.ntmps199 (by simp[k110,k111,k61,k112,k113,k115,k116]) (b71 a b h.ok)⟩
 ·exact h.elim
theorem aBn (x:Nat):∀j,lowD x (j+1)=lowD (x/10) j++ [((48+x%10:Nat):Int)]
 | 0=>by simp[lowD]
 | j+1=>by
  rw[lowD,aBn x j,lowD,List.cons_append]
  congr 3
  rw[Nat.pow_succ,Nat.mul_comm,Nat.div_div_eq_div_mul]
theorem aHj (a b:List Int):bC (a++b)=bC a++bC b:=by unfold bC;rw[List.map_append]
theorem aFz:∀(k x:Nat),x<10^ (k+1)→(k=0∨10^k≤x)→bC (lowD x (k+1))=decDigits x
 | 0,x,h,_=>by
  have h:x<10:=by simpa using h
  rw[dec1 h]
  show [UInt8.ofNat (((48+x/10^0%10:Nat):Int)).toNat]= _
  rw[Int.toNat_natCast,Nat.pow_zero,Nat.div_one,Nat.mod_eq_of_lt h]
 | k+1,x,h,h2=>by
  have h2:10^ (k+1)≤x:=h2.elim (fun h=>by omega) id
  have h10:10≤x:=Nat.le_trans (by rw[Nat.pow_succ];have:0<10^k:=Nat.pow_pos (by omega);omega) h2
  rw[aBn,aHj,aFz k (x/10) (by rw[Nat.pow_succ] at h;omega) (.inr (by rw[Nat.pow_succ] at h2;omega))]
  conv=>rhs;rw[decDigits,dif_neg (by omega)]
  rfl
def oD (x k:Nat):List Int:=List.replicate (20-k) 0++lowD x k
theorem aQv {x k:Nat} (h:k≤20):(oD x k).length=20:=by
 simp only[oD,List.length_append,List.length_replicate,yR];omega
theorem aNh {x k:Nat} {v:Int} (h:k<20) (hv:v=((48+x/10^k%10:Nat):Int)):(oD x k).set (20-(k+1)) v=oD x (k+1):=by
 unfold oD
 obtain ⟨m,hm⟩:∃m,m=20-(k+1):=⟨_,rfl⟩
 rw[show 20-k=m+1 by omega,← hm,aFu,hv]
 rfl
theorem aPc {x k:Nat} (h:k≤20):(oD x k).drop (20-k)=lowD x k:=by
 unfold oD
 rw[List.drop_left' (by simp)]
theorem b101 (n:Nat) (hn:n≤9223372036854775807):body Tryz.prog [] { asks:=[(0,[])] } true Tryz.f152 [I n] (S (decDigits n)):=by
 refine Need.mk ⟨by omega,by omega,by omega,show (20:Int)*((1:Nat):Int)≤140737488355328 by omega⟩ ?_
 (repeat'((conv=>whnf);first|refine Zg fun _=>?_|fail))
 refine Ask.mk ⟨{ X:=Nat,pre:=fun k=>k≤18∧(k=0∨10^k≤n),mod:=fun k _=>[(0,I ((n/10^k:Nat):Int)),(4,I (20-k))],heap:=fun k H=>[U (oD n k)],mu:=fun k=>20-k },rfl,?_⟩
 (repeat'((conv=>whnf);first|refine Zn ?_|fail))
 refine ⟨⟨(0:Nat),⟨by omega,.inl rfl⟩,?_⟩,fun (k:Nat) hk=>?_⟩
 ·(repeat' first|exact trivial|rfl|apply And.intro|omega)
 obtain ⟨hk1,hk2⟩:=hk
 obtain ⟨q,hq⟩:∃q,n/10^k=q:=⟨_,rfl⟩
 have hq0:q≤n:=by rw[← hq];exact Nat.div_le_self _ _
 have tq:(q:Int).tmod 10=((q%10:Nat):Int):=by rw[Int.tmod_eq_emod_of_nonneg (by omega)];omega
 have dq:(q:Int).tdiv 10=((q/10:Nat):Int):=by rw[Int.tdiv_eq_ediv_of_nonneg (by omega)];omega
 have hq1:n/10^ (k+1)=q/10:=by rw[Nat.pow_succ,← Nat.div_div_eq_div_mul,hq]
 have hln:=aQv (x:=n) (k:=k) (by omega)
 subst hq
 have hb1: -9223372036854775808≤((n/10^k:Nat):Int).tdiv 10∧((n/10^k:Nat):Int).tdiv 10≤9223372036854775807:=by
  rw[dq]
  have:n/10^k/10≤n/10^k:=Nat.div_le_self _ _
  omega
 (repeat'((conv=>whnf);first|refine Zb ?_|refine Zn ?_|fail))
 refine bX (20-(k+1)) (by omega) ?_
 (repeat'((conv=>whnf);first|refine Zb ?_|refine Zn ?_|fail))
 (apply Br.mk<;>intro)
 ·rename_i hz
  have hz:n/10^ (k+1)=0:=by omega
  have hlt:n<10^ (k+1):=by
   refine Nat.lt_of_not_le fun h=>?_
   have:=Nat.div_pos h (Nat.pow_pos (by omega))
   omega
  have hset:(oD n k).set (20-(k+1)) (48+((n/10^k:Nat):Int).tmod 10)=oD n (k+1):=by
   refine aNh (by omega) ?_
   rw[tq]
   omega
  (repeat'((conv=>whnf);first|refine Zn ?_|refine Zl ?_|fail))
  refine bX (20-(k+1)) (by omega) ?_
  (conv=>whnf)
  rw[hset,aPc (by omega)]
  exact aFz k n hlt hk2
 ·rename_i hz
  have hz:n/10^ (k+1)≠0:=by omega
  have hp:0<10^ (k+1):=Nat.pow_pos (by omega)
  have hge:10^ (k+1)≤n:=Nat.le_of_not_lt fun h=>hz (Nat.div_eq_of_lt h)
  have hk17:k+1≤18:=by
   refine Nat.le_of_not_lt fun h=>?_
   have h1:10^19≤10^ (k+1):=cR (by omega)
   have h2:(10:Nat)^19=10000000000000000000:=by decide
   omega
  refine ⟨(k+1:Nat),by show 20-(k+1)<20-k;omega,⟨hk17,.inr hge⟩,?_⟩
  (repeat' first|exact trivial|rfl|apply And.intro|omega)
  refine aNh (by omega) ?_
  rw[tq]
  omega
theorem b101i (n:Int) (h:0≤n∧n≤9223372036854775807):body Tryz.prog [] { asks:=[(0,[])] } true Tryz.f152 [I n] (S (itoa n)):=by
 obtain ⟨m,rfl⟩:∃m:Nat,n=m:=⟨n.toNat,by omega⟩
 rw[dN]
 exact b101 m (by omega)
def c101:Con:=aJ 152 true fun args K=>match args with | [.val (.int .i64 n)]=>Need (0≤n∧n≤9223372036854775807) (K (S (itoa n))) | _=>False
theorem k101:aG Tryz.prog c101:=by
 refine kO Tryz.func152 fun args K h=>?_
 simp only[c101] at h;split at h
 ·rename_i n
  exact ⟨_,h.go,triB Tryz.func152 Tryz.ntmps152 (by simp) (b101i n h.ok)⟩
 ·exact h.elim
theorem aHk {n:Int} {d:Nat} (hd:0<d):numS (Rat.divInt n d)=(if n<0 then [45] else [])++(decDigits (n.natAbs/n.natAbs.gcd d)++(if d/n.natAbs.gcd d=1 then [] else 47::decDigits (d/n.natAbs.gcd d))):=by
 rw[eB n d (by omega),Int.toNat_natCast,uX n d (by omega),Nat.gcd_comm d]
 have hg:0<n.natAbs.gcd d:=Nat.gcd_pos_of_pos_right _ hd
 have hdv:((n.natAbs.gcd d:Nat):Int) ∣ n:=Int.ofNat_dvd_left.2 (Nat.gcd_dvd_left ..)
 have e:itoa (n/(n.natAbs.gcd d:Nat))=(if n<0 then [45] else [])++decDigits (n.natAbs/n.natAbs.gcd d):=by
  have h1:(n/((n.natAbs.gcd d:Nat):Int)).natAbs=n.natAbs/n.natAbs.gcd d:=by
   rw[Int.natAbs_ediv_of_dvd hdv,Int.natAbs_natCast]
  by_cases hn:n<0
  ·have h2:n/((n.natAbs.gcd d:Nat):Int)<0:=Int.ediv_neg_of_neg_of_pos hn (by omega)
   unfold itoa
   rw[if_pos h2,if_pos hn,h1];rfl
  ·have h2:0≤n/((n.natAbs.gcd d:Nat):Int):=Int.ediv_nonneg (by omega) (by omega)
   unfold itoa
   rw[if_neg (by omega),if_neg hn,← h1]
   rw[show (n/((n.natAbs.gcd d:Nat):Int)).toNat=(n/((n.natAbs.gcd d:Nat):Int)).natAbs by omega];rfl
 rw[e]
 split
 ·simp
 ·simp
theorem aPw {n:Nat} (h:n≤4611686018427387904):(decDigits n).length≤19:=IB.eV 18 n (by omega)
theorem b62 (n d:Int) (h:(-4611686018427387904≤n∧n≤4611686018427387904)∧(1≤d∧d≤4611686018427387904)):body Tryz.prog [c84,c101] {} true Tryz.f86 [I n,I d] (S (numS (Rat.divInt n d))):=by
 obtain ⟨hn,hd⟩:=h
 obtain ⟨D,rfl⟩:∃D:Nat,d=D:=⟨d.toNat,by omega⟩
 rw[aHk (by omega)]
 obtain ⟨m,hm⟩:∃m,n.natAbs=m:=⟨_,rfl⟩
 rw[hm]
 have hg:0<m.gcd D:=Nat.gcd_pos_of_pos_right _ (by omega)
 have hgle:m.gcd D≤D:=Nat.gcd_le_right _ (by omega)
 have q1:m/m.gcd D≤m:=Nat.div_le_self _ _
 have q2:D/m.gcd D≤D:=Nat.div_le_self _ _
 have l1:=aPw (n:=m/m.gcd D) (by omega)
 have l2:=aPw (n:=D/m.gcd D) (by omega)
 have t2:(D:Int)/((m.gcd D:Nat):Int)=((D/m.gcd D:Nat):Int):=rfl
 have t1:(m:Int)/((m.gcd D:Nat):Int)=((m/m.gcd D:Nat):Int):=rfl
 have tail:∀x:Int,0≤x→x.natAbs=m→Int.gcd x D=m.gcd D∧x/((Int.gcd x D:Nat):Int)=((m/m.gcd D:Nat):Int)∧(D:Int)/((Int.gcd x D:Nat):Int)=((D/m.gcd D:Nat):Int):=by
  intro x hx hxm
  have e1:Int.gcd x D=m.gcd D:=by unfold Int.gcd;rw[hxm,Int.natAbs_natCast]
  have e2:x=(m:Int):=by omega
  rw[e1]
  exact ⟨rfl,by rw[e2];exact t1,t2⟩
 (apply Br.mk<;>intro)
 ·rename_i hneg
  obtain ⟨e1,e2,e3⟩:=tail (-n) (by omega) (by omega)
  rw[if_pos hneg]
  have n1:0≤(-n)/((Int.gcd (-n) D:Nat):Int)∧(-n)/((Int.gcd (-n) D:Nat):Int)≤9223372036854775807:=by rw[e2];exact ⟨Int.natCast_nonneg _,Int.le_trans (Int.ofNat_le.2 q1) (by omega)⟩
  have n2:0≤(D:Int)/((Int.gcd (-n) D:Nat):Int)∧(D:Int)/((Int.gcd (-n) D:Nat):Int)≤9223372036854775807:=by rw[e3];exact ⟨Int.natCast_nonneg _,Int.le_trans (Int.ofNat_le.2 q2) (by omega)⟩
  have s1:itoa ((-n)/((Int.gcd (-n) D:Nat):Int))=decDigits (m/m.gcd D):=by rw[e2,dN]
  have s2:itoa ((D:Int)/((Int.gcd (-n) D:Nat):Int))=decDigits (D/m.gcd D):=by rw[e3,dN]
  have m1:(itoa ((-n)/((Int.gcd (-n) D:Nat):Int))).length≤19:=by rw[s1];exact l1
  have m2:(itoa ((D:Int)/((Int.gcd (-n) D:Nat):Int))).length≤19:=by rw[s2];exact l2
  (repeat'((conv=>whnf);first|refine Za ?_|refine Zn ?_|fail))
  refine Need.mk (show 1+(itoa ((-n)/((Int.gcd (-n) D:Nat):Int))).length≤140737488355328 by omega) ?_
  (repeat'((conv=>whnf);first|refine Za ?_|fail))
  (apply Br.mk<;>intro)
  ·rename_i hone
   have hone:D/m.gcd D=1:=by omega
   rw[if_pos hone]
   (conv=>whnf)
   rw[s1];simp
  ·rename_i hone
   have hone:¬D/m.gcd D=1:=by omega
   rw[if_neg hone]
   refine Need.mk (by rw[List.length_append];show 1+ _+1≤ _;omega) ?_
   (repeat'((conv=>whnf);first|refine Za ?_|refine Zn ?_|fail))
   refine Need.mk (by rw[List.length_append,List.length_append];show 1+ _+1+ _≤ _;omega) ?_
   (conv=>whnf)
   rw[s1,s2];simp
 ·rename_i hneg
  obtain ⟨e1,e2,e3⟩:=tail n (by omega) hm
  rw[if_neg hneg]
  have n1:0≤n/((Int.gcd n D:Nat):Int)∧n/((Int.gcd n D:Nat):Int)≤9223372036854775807:=by rw[e2];exact ⟨Int.natCast_nonneg _,Int.le_trans (Int.ofNat_le.2 q1) (by omega)⟩
  have n2:0≤(D:Int)/((Int.gcd n D:Nat):Int)∧(D:Int)/((Int.gcd n D:Nat):Int)≤9223372036854775807:=by rw[e3];exact ⟨Int.natCast_nonneg _,Int.le_trans (Int.ofNat_le.2 q2) (by omega)⟩
  have s1:itoa (n/((Int.gcd n D:Nat):Int))=decDigits (m/m.gcd D):=by rw[e2,dN]
  have s2:itoa ((D:Int)/((Int.gcd n D:Nat):Int))=decDigits (D/m.gcd D):=by rw[e3,dN]
  have m1:(itoa (n/((Int.gcd n D:Nat):Int))).length≤19:=by rw[s1];exact l1
  have m2:(itoa ((D:Int)/((Int.gcd n D:Nat):Int))).length≤19:=by rw[s2];exact l2
  (repeat'((conv=>whnf);first|refine Za ?_|refine Zn ?_|fail))
  (apply Br.mk<;>intro)
  ·rename_i hone
   have hone:D/m.gcd D=1:=by omega
   rw[if_pos hone]
   (conv=>whnf)
   rw[s1];simp
  ·rename_i hone
   have hone:¬D/m.gcd D=1:=by omega
   rw[if_neg hone]
   (repeat'((conv=>whnf);first|refine Za ?_|refine Zn ?_|fail))
   (conv=>whnf)
   rw[s1,s2];simp
def c62:Con:=aJ 86 true fun args K=>match args with | [.val (.int .i64 n),.val (.int .i64 d)]=>Need ((-4611686018427387904≤n∧n≤4611686018427387904)∧(1≤d∧d≤4611686018427387904)) (K (S (numS (Rat.divInt n d)))) | _=>False
theorem k62:aG Tryz.prog c62:=by
 refine kO Tryz.func86 fun args K h=>?_
 simp only[c62] at h;split at h
 ·rename_i n d;exact ⟨_,h.go,triB Tryz.func86 Tryz.ntmps86 (by simp[k84,k101]) (b62 n d h.ok)⟩
 ·exact h.elim
def aJj (a:List UInt8):Prop:=(82<a.length∧a.length<602)∨700<a.length
instance (a:List UInt8):Decidable (aJj a):=by unfold aJj;infer_instance
theorem zC (q:Rat):(numS q).headD 0=45↔q<0:=by
 rw[← aKu]
 exact (bI (List.length_pos_iff.2 (aJi q)) 45).symm
theorem lt0 (q:Rat):q<0↔q.num<0:=by
 rw[Rat.lt_iff]
 show q.num*((1:Nat):Int)<0* _↔ _
 omega
theorem bN (n:Int):itoa n=(if n<0 then 45::decDigits n.natAbs else decDigits n.natAbs):=by
 unfold itoa
 split
 ·rfl
 ·rw[show n.toNat=n.natAbs by omega]
theorem Sz.digs {q:Rat} (h:Sz 300 q):(decDigits q.num.natAbs).length≤300∧(decDigits q.den).length≤300:=⟨jP (k:=300) (by decide) h.1,jP (k:=300) (by decide) h.2⟩
theorem aKw (k:Nat) (hk:0<k):1<10^k:=Nat.lt_of_lt_of_le (show 1<10^1 by decide) (cR hk)
theorem vE {s:List UInt8} (h:chkQ s=0):s=numS (valQ s)∧Sz 300 (valQ s):=by
 obtain ⟨e,h3,h4⟩:=aIz h
 refine ⟨e,?_,?_⟩
 ·refine mJ (k:=300) ?_
  rw[e,fV,bO] at h3
  exact h3
 ·by_cases h1:(valQ s).den=1
  ·rw[h1]
   exact aKw 300 (by decide)
  ·refine mJ (k:=300) ?_
   rw[e,jK,if_neg h1] at h4
   exact h4
theorem b65 (q:Rat) (hq:Sz 300 q):body Tryz.prog [c73] {} true Tryz.f87 [S (numS q)] (.tup [S (pn q),S (pd q)]):=by
 have e1:digs (topS (numS q))=decDigits q.num.natAbs:=by rw[fV,bO]
 have e2:(numS q).headD 0=45↔q.num<0:=by rw[zC,lt0]
 have e3:=bN q.num
 have l1:=hq.digs.1
 have e4:=jK q
 have hpn:∀h:q.num<0,pn q=45::decDigits q.num.natAbs:=fun h=>by unfold pn;rw[e3,if_pos h]
 have hpp:∀h:¬q.num<0,pn q=decDigits q.num.natAbs:=fun h=>by unfold pn;rw[e3,if_neg h]
 have f1:∀h:q.den=1,pd q= [49]:=fun h=>aQu.2 h
 have f2:∀h:¬q.den=1,(botS (numS q)).tail=pd q:=fun h=>by rw[e4,if_neg h];rfl
 by_cases hn:q.num<0
 ·refine Br.mkY (e2.2 hn) ?_
  refine Need.mk (by rw[e1];show 1+ _≤ _;omega) ?_
  by_cases hd:q.den=1
  ·refine Br.mkY (show ¬ ¬botS (numS q)= [] by rw[e4,if_pos hd];simp) ?_
   (conv=>whnf)
   (repeat' first|exact trivial|apply And.intro)
   ·(conv=>whnf)
    rw[hpn hn,e1];rfl
   ·(conv=>whnf)
    exact (f1 hd).symm
  ·refine Br.mkN (show ¬ ¬ ¬botS (numS q)= [] by rw[e4,if_neg hd];simp) ?_
   (conv=>whnf)
   (repeat' first|exact trivial|apply And.intro)
   ·(conv=>whnf)
    rw[hpn hn,e1];rfl
   ·(conv=>whnf)
    exact f2 hd
 ·refine Br.mkN (fun h=>hn (e2.1 h)) ?_
  by_cases hd:q.den=1
  ·refine Br.mkY (show ¬ ¬botS (numS q)= [] by rw[e4,if_pos hd];simp) ?_
   (conv=>whnf)
   (repeat' first|exact trivial|apply And.intro)
   ·(conv=>whnf)
    rw[hpp hn,e1]
   ·(conv=>whnf)
    exact (f1 hd).symm
  ·refine Br.mkN (show ¬ ¬ ¬botS (numS q)= [] by rw[e4,if_neg hd];simp) ?_
   (conv=>whnf)
   (repeat' first|exact trivial|apply And.intro)
   ·(conv=>whnf)
    rw[hpp hn,e1]
   ·(conv=>whnf)
    exact f2 hd
def c65:Con:=aJ 87 true fun args K=>match args with | [.str s]=>Need (chkQ s=0) (K (.tup [S (pn (valQ s)),S (pd (valQ s))])) | _=>False
theorem k65:aG Tryz.prog c65:=by
 refine kO Tryz.func87 fun args K h=>?_
 simp only[c65] at h;split at h
 ·rename_i s
  obtain ⟨e,hq⟩:=vE h.ok
  refine ⟨_,h.go,?_⟩
  have ht:=triB Tryz.func87 Tryz.ntmps87 (by simp[k73]) (b65 (valQ s) hq)
  rw[← e] at ht
  exact ht
 ·exact h.elim
def smR (q:Rat):Prop:=(decDigits q.num.natAbs).length≤9∧(q.den=1∨(decDigits q.den).length≤9)
instance (q:Rat):Decidable (smR q):=by unfold smR;infer_instance
theorem aHl {q:Rat} (h:smR q):q.num.natAbs<1000000000∧q.den<1000000000:=by
 refine ⟨?_,?_⟩
 ·have:=mJ (k:=9) h.1
  simpa using this
 ·rcases h.2 with h | h
  ·omega
  ·have:=mJ (k:=9) h
   simpa using this
theorem b70 (q:Rat) (hq:Sz 300 q):(∀h:smR q,body Tryz.prog [c73,c85] {} true Tryz.f85 [S (numS q)] (.tup [I q.num,I q.den,.val (.bool true)]))∧(∀h:¬smR q,body Tryz.prog [c73,c85] {} true Tryz.f85 [S (numS q)] (.tup [I 0,I 0,.val (.bool false)])):=by
 have e1:digs (topS (numS q))=decDigits q.num.natAbs:=by rw[fV,bO]
 have e2:(numS q).headD 0=45↔q.num<0:=by rw[zC,lt0]
 have l1:=hq.digs
 have e4:=jK q
 have hd1:∀c∈decDigits q.num.natAbs,aR c:=fun c hc=>eZ _ c hc
 have hd2:∀c∈decDigits q.den,aR c:=fun c hc=>eZ _ c hc
 refine ⟨fun h=>?_,fun h=>?_⟩
 ·have hl:=aHl h
  have k1:(digs (topS (numS q))).length≤9:=by rw[e1];exact h.1
  have k2:(botS (numS q)).tail.length≤9:=by
   rw[e4];split
   ·simp
   ·rename_i h1
    rcases h.2 with h2 | h2
    ·exact absurd h2 h1
    ·exact h2
  have n1:aC (digs (topS (numS q)))=q.num.natAbs:=by rw[e1,bT]
  have m1:(∀c∈digs (topS (numS q)),aR c)∧(digs (topS (numS q))).length≤18:=⟨by rw[e1];exact hd1,by omega⟩
  (repeat'((conv=>whnf);first|refine Zg fun _=>?_|refine Zn ?_|refine Zm ?_|fail))
  by_cases hd:q.den=1
  ·refine Br.mkN (show ¬ ¬botS (numS q)= [] by rw[e4,if_pos hd];simp) ?_
   by_cases hn:q.num<0
   ·refine Br.mkY (e2.2 hn) ?_
    (repeat'((conv=>whnf);first|refine Zn ?_|fail))
    (conv=>whnf)
    (repeat' first|exact trivial|rfl|apply And.intro)
    ·(conv=>whnf)
     omega
    ·(conv=>whnf)
     omega
   ·refine Br.mkN (fun h=>hn (e2.1 h)) ?_
    (conv=>whnf)
    (repeat' first|exact trivial|rfl|apply And.intro)
    ·(conv=>whnf)
     omega
    ·(conv=>whnf)
     omega
  ·have m2:(∀c∈(botS (numS q)).tail,aR c)∧(botS (numS q)).tail.length≤18:=⟨by rw[e4,if_neg hd];exact hd2,by omega⟩
   have n2:aC (botS (numS q)).tail=q.den:=by rw[e4,if_neg hd];exact bT _
   refine Br.mkY (show ¬botS (numS q)= [] by rw[e4,if_neg hd];simp) ?_
   (repeat'((conv=>whnf);first|refine Zn ?_|fail))
   by_cases hn:q.num<0
   ·refine Br.mkY (e2.2 hn) ?_
    (repeat'((conv=>whnf);first|refine Zn ?_|fail))
    (conv=>whnf)
    (repeat' first|exact trivial|rfl|apply And.intro)
    ·(conv=>whnf)
     omega
    ·(conv=>whnf)
     omega
   ·refine Br.mkN (fun h=>hn (e2.1 h)) ?_
    (conv=>whnf)
    (repeat' first|exact trivial|rfl|apply And.intro)
    ·(conv=>whnf)
     omega
    ·(conv=>whnf)
     omega
 ·by_cases k1:9<(digs (topS (numS q))).length
  ·(repeat'((conv=>whnf);first|refine Zg fun _=>?_|refine Zy ?_|fail))
   (conv=>whnf)
   (repeat' first|exact trivial|rfl|apply And.intro)
  ·have k2:9<(botS (numS q)).tail.length:=by
    rw[e1] at k1
    refine Nat.lt_of_not_le fun hx=>h ⟨by omega,?_⟩
    rw[e4] at hx
    split at hx
    ·rename_i h1;exact .inl h1
    ·exact .inr hx
   (repeat'((conv=>whnf);first|refine Zg fun _=>?_|refine Zy ?_|refine Zm ?_|fail))
   (conv=>whnf)
   (repeat' first|exact trivial|rfl|apply And.intro)
def c70:Con:=aJ 85 true fun args K=>match args with
 | [.str s]=>Need (chkQ s=0) (Br (smR (valQ s)) (K (.tup [I (valQ s).num,I (valQ s).den,.val (.bool true)])) (K (.tup [I 0,I 0,.val (.bool false)])))
 | _=>False
theorem k70:aG Tryz.prog c70:=by
 refine kO Tryz.func85 fun args K h=>?_
 simp only[c70] at h;split at h
 ·rename_i s
  obtain ⟨e,hq⟩:=vE h.ok
  have hb:=b70 (valQ s) hq
  rw[← e] at hb
  by_cases hl:smR (valQ s)
  ·exact ⟨_,h.go.yes hl,triB Tryz.func85 Tryz.ntmps85 (by simp[k73,k85]) (hb.1 hl)⟩
  ·exact ⟨_,h.go.no hl,triB Tryz.func85 Tryz.ntmps85 (by simp[k73,k85]) (hb.2 hl)⟩
 ·exact h.elim
noncomputable def chkB (a b:List UInt8):Int:=if chkQ a≠0 then chkQ a else chkQ b
theorem b78 (a b:List UInt8):body Tryz.prog [c44] {} true Tryz.f82 [S a,S b] (I (chkB a b)):=by
 unfold chkB
 (apply Br.mk<;>intro)
 ·rename_i h
  rw[if_pos h]
  (conv=>whnf)
  (repeat' first|rfl|apply And.intro)
 ·rename_i h
  rw[if_neg h]
  (conv=>whnf)
  (repeat' first|rfl|apply And.intro)
def c78:Con:=aJ 82 true fun args K=>match args with | [.str a,.str b]=>K (I (chkB a b)) | _=>False
theorem k78:aG Tryz.prog c78:=by
 refine kO Tryz.func82 fun args K h=>?_
 simp only[c78] at h;split at h
 ·rename_i a b;exact ⟨_,h,triB Tryz.func82 Tryz.ntmps82 (by simp[k44]) (b78 a b)⟩
 ·exact h.elim
abbrev ok4 (a b c d:List UInt8):Prop:=(chkI a=0∧chkI b=0)∧chkI c=0∧chkI d=0
theorem b81n (a b c d:List UInt8) (h:ok4 a b c d) (hl:lim (valI a*valI b)=true):body Tryz.prog [c120] {} true Tryz.f106 [S a,S b,S c,S d] (.tup [S [],S [],I 4]):=by
 obtain ⟨⟨ha,hb⟩,hc,hd⟩:=h
 have e1:bG a b (resI (valI a*valI b))=([],4):=by rw[vA ha hb];unfold resI;rw[if_pos hl]
 refine Br.mkY (show ¬(bG a b (resI (valI a*valI b))).2=0 by rw[e1];decide) ?_
 (conv=>whnf)
 (repeat' first|exact trivial|rfl|apply And.intro)
 (conv=>whnf)
 rw[e1]
theorem b81y (a b c d:List UInt8) (h:ok4 a b c d) (hl:lim (valI a*valI b)=false):body Tryz.prog [c120] {} true Tryz.f106 [S a,S b,S c,S d] (.tup [S (itoa (valI a*valI b)),S (resI (valI c*valI d)).1,I (resI (valI c*valI d)).2]):=by
 obtain ⟨⟨ha,hb⟩,hc,hd⟩:=h
 have e1:bG a b (resI (valI a*valI b))=(itoa (valI a*valI b),0):=by rw[vA ha hb];unfold resI;rw[if_neg (by rw[hl];decide)]
 have e2:=vA hc hd (resI (valI c*valI d))
 refine Br.mkN (show ¬ ¬(bG a b (resI (valI a*valI b))).2=0 by rw[e1];simp) ?_
 (conv=>whnf)
 (repeat' first|exact trivial|rfl|apply And.intro)
 ·(conv=>whnf)
  rw[e1]
 ·(conv=>whnf)
  rw[e2]
 ·(conv=>whnf)
  rw[e2]
def c81:Con:=aJ 106 true fun args K=>match args with
 | [.str a,.str b,.str c,.str d]=>Need (ok4 a b c d) (Br (lim (valI a*valI b)=true) (K (.tup [S [],S [],I 4])) (K (.tup [S (itoa (valI a*valI b)),S (resI (valI c*valI d)).1,I (resI (valI c*valI d)).2])))
 | _=>False
theorem k81:aG Tryz.prog c81:=by
 refine kO Tryz.func106 fun args K h=>?_
 simp only[c81] at h;split at h
 ·rename_i a b c d
  by_cases hl:lim (valI a*valI b)=true
  ·exact ⟨_,h.go.yes hl,triB Tryz.func106 Tryz.ntmps106 (by simp[k120]) (b81n a b c d h.ok hl)⟩
  ·exact ⟨_,h.go.no hl,triB Tryz.func106 Tryz.ntmps106 (by simp[k120]) (b81y a b c d h.ok (by simpa using hl))⟩
 ·exact h.elim
theorem oS (n:Int):aH (itoa n) 0=45↔n<0:=by
 rw[bN]
 split
 ·rename_i h;exact ⟨fun _=>h,fun _=>rfl⟩
 ·rename_i h
  constructor
  ·intro h2
   exfalso
   refine nP (n:=n.natAbs) (UInt8.toNat_inj.1 ?_)
   unfold aH at h2
   have:(45:UInt8).toNat=45:=rfl
   omega
  ·intro h2;exact absurd h2 h
theorem oU {n:Int} (h:n<0):(itoa n).drop 1=itoa (-n):=by
 rw[bN,if_pos h,bN,if_neg (by omega),Int.natAbs_neg];rfl
theorem aNi {n:Int} (h:0<n):45::itoa n=itoa (-n):=by
 rw[bN (-n),if_pos (by omega),bN n,if_neg (by omega),Int.natAbs_neg]
theorem zD {x y:Int} (hy:0<y):numS (Rat.divInt x y)=if y/(Int.gcd x y:Nat)=1 then itoa (x/(Int.gcd x y:Nat)) else itoa (x/(Int.gcd x y:Nat))++47::itoa (y/(Int.gcd x y:Nat)):=by
 obtain ⟨d,rfl⟩:∃d:Nat,y=d:=⟨y.toNat,by omega⟩
 have hg:Int.gcd x d=d.gcd x.natAbs:=by unfold Int.gcd;rw[Int.natAbs_natCast,Nat.gcd_comm]
 rw[eB x d (by omega),Int.toNat_natCast,uX x d (by omega),hg,← Int.natCast_ediv,dN]
 by_cases h:d/d.gcd x.natAbs=1
 ·rw[if_pos h,if_pos (by omega)]
 ·rw[if_neg h,if_neg (by omega)]
theorem b63 (x y:Int) (hx:lim x=false) (hy:lim y=false) (h0:y≠0):body Tryz.prog [c85,c62,c86,c71] { cuts:=[(7,{ X:=Int × Int,pre:=fun z=>(lim z.1=false∧lim z.2=false)∧0<z.2∧Rat.divInt z.1 z.2=Rat.divInt x y,mod:=fun z _=>[(0,S (itoa z.1)),(1,S (itoa z.2))] })] } true Tryz.f151 [S (itoa x),S (itoa y)] (.tup [S (numS (Rat.divInt x y)),I 0]):=by
 have py:0<(itoa y).length:=iH
 have px:0<(itoa x).length:=iH
 have hby:=oS y
 have hbx:=oS x
 have ly:=dV hy
 have lx:=dV hx
 (repeat'((conv=>whnf);first|refine Zn ?_|fail))
 refine ⟨⟨(),?_⟩,fun _ (z:Int × Int) hz=>?_⟩
 ·(repeat'((conv=>whnf);first|refine Zg fun _=>?_|refine Zn ?_|refine Z0 ?_|fail))
  by_cases hn:y<0
  ·refine Br.mkY (hby.2 hn) ?_
   (repeat'((conv=>whnf);first|refine Zg fun _=>?_|refine Zn ?_|refine Z0 ?_|refine Z1 ?_|fail))
   by_cases hm:x<0
   ·refine Br.mkY (hbx.2 hm) ?_
    (repeat'((conv=>whnf);first|refine Zn ?_|refine Z1 ?_|fail))
    refine ⟨(-x, -y),⟨⟨by show lim (-x)=false;rw[jU];exact hx,by show lim (-y)=false;rw[jU];exact hy⟩,by show 0 < -y;omega,Rat.neg_divInt_neg x y⟩,?_⟩
    (repeat' first|exact trivial|apply And.intro)
    ·exact oU hm
    ·exact oU hn
   ·refine Br.mkN (fun h=>hm (hbx.1 h)) ?_
    by_cases hx0:x=0
    ·refine Br.mkN (show ¬ ¬itoa x= [48] by rw[aBm];simpa using hx0) ?_
     refine ⟨(-x, -y),⟨⟨by show lim (-x)=false;rw[jU];exact hx,by show lim (-y)=false;rw[jU];exact hy⟩,by show 0 < -y;omega,Rat.neg_divInt_neg x y⟩,?_⟩
     (repeat' first|exact trivial|apply And.intro)
     ·show itoa x=itoa (-x)
      rw[hx0];rfl
     ·exact oU hn
    ·refine Br.mkY (show ¬itoa x= [48] by rw[aBm];exact hx0) ?_
     (repeat'((conv=>whnf);first|refine Zn ?_|fail))
     refine ⟨(-x, -y),⟨⟨by show lim (-x)=false;rw[jU];exact hx,by show lim (-y)=false;rw[jU];exact hy⟩,by show 0 < -y;omega,Rat.neg_divInt_neg x y⟩,?_⟩
     (repeat' first|exact trivial|apply And.intro)
     ·exact aNi (by omega)
     ·exact oU hn
  ·refine Br.mkN (fun h=>hn (hby.1 h)) ?_
   refine ⟨(x,y),⟨⟨hx,hy⟩,by show 0<y;omega,rfl⟩,?_⟩
   (repeat' first|exact trivial|rfl|apply And.intro)
 ·obtain ⟨⟨hx,hy⟩,hp,he⟩:=hz
  rw[← he,zD hp]
  have ly:=dV hy
  have lx:=dV hx
  have d1:∀c∈decDigits z.1.natAbs,aR c:=fun c hc=>eZ _ c hc
  have d2:∀c∈decDigits z.2.natAbs,aR c:=fun c hc=>eZ _ c hc
  have i1:=bN z.1
  have i2:itoa z.2=decDigits z.2.natAbs:=by rw[bN,if_neg (by omega)]
  have v2:aC (itoa z.2)=z.2.natAbs:=by rw[i2,bT]
  have hbx:=oS z.1
  have pz:0<(itoa z.1).length:=iH
  by_cases hs:(itoa z.1).length≤18∧(itoa z.2).length≤18
  ·have m2:(∀c∈itoa z.2,aR c)∧(itoa z.2).length≤18:=⟨by rw[i2];exact d2,hs.2⟩
   have a2:z.2.natAbs<10^18:=mJ (k:=18) (by rw[← i2];exact hs.2)
   by_cases hn:z.1<0
   ·have e1:(itoa z.1).drop 1=decDigits z.1.natAbs:=by rw[i1,if_pos hn];rfl
    have l1:(decDigits z.1.natAbs).length≤18:=by rw[← e1,List.length_drop];omega
    have m1:(∀c∈(itoa z.1).drop 1,aR c)∧((itoa z.1).drop 1).length≤18:=by rw[e1];exact ⟨d1,l1⟩
    have v1:aC ((itoa z.1).drop 1)=z.1.natAbs:=by rw[e1,bT]
    have a1:z.1.natAbs<10^18:=mJ (k:=18) l1
    have h1: -((aC ((itoa z.1).drop 1):Nat):Int)=z.1:=by rw[v1];omega
    have h2:((aC (itoa z.2):Nat):Int)=z.2:=by rw[v2];omega
    (repeat'((conv=>whnf);first|refine Zg fun _=>?_|refine Zn ?_|refine Z0 ?_|refine Z1 ?_|refine Zy ?_|fail))
    (conv=>whnf)
    (repeat' first|exact trivial|rfl|apply And.intro)
    (conv=>whnf)
    rw[h1,h2,zD hp]
   ·have i1:itoa z.1=decDigits z.1.natAbs:=by rw[i1,if_neg hn]
    have m1:(∀c∈itoa z.1,aR c)∧(itoa z.1).length≤18:=⟨by rw[i1];exact d1,hs.1⟩
    have v1:aC (itoa z.1)=z.1.natAbs:=by rw[i1,bT]
    have a1:z.1.natAbs<10^18:=mJ (k:=18) (by rw[← i1];exact hs.1)
    have h1:((aC (itoa z.1):Nat):Int)=z.1:=by rw[v1];omega
    have h2:((aC (itoa z.2):Nat):Int)=z.2:=by rw[v2];omega
    (repeat'((conv=>whnf);first|refine Zg fun _=>?_|refine Zn ?_|refine Z0 ?_|refine Zy ?_|refine Zm ?_|fail))
    (conv=>whnf)
    (repeat' first|exact trivial|rfl|apply And.intro)
    (conv=>whnf)
    rw[h1,h2,zD hp]
  ·have hg:=yL hx hy (show z.2≠0 by omega)
   have g0:0<Int.gcd z.1 z.2:=Int.gcd_pos_of_ne_zero_right _ (by omega)
   have gx:((Int.gcd z.1 z.2:Nat):Int) ∣ z.1:=Int.gcd_dvd_left ..
   have gy:((Int.gcd z.1 z.2:Nat):Int) ∣ z.2:=Int.gcd_dvd_right ..
   have gl:lim ((Int.gcd z.1 z.2:Nat):Int)=false:=by
    refine jN (y:=z.2) ?_ hy
    rw[Int.natAbs_natCast]
    exact Nat.le_of_dvd (by omega) (Int.ofNat_dvd_left.1 gy)
   have q1:(bG (itoa z.1) (itoa z.2) (resI (Int.gcd (valI (itoa z.1)) (valI (itoa z.2))))).1=itoa ((Int.gcd z.1 z.2:Nat):Int):=by rw[hg]
   have q2:(bG (itoa z.1) (itoa z.2) (resI (Int.gcd (valI (itoa z.1)) (valI (itoa z.2))))).2=0:=by rw[hg]
   have r1:itoa (valI (itoa z.1)/valI (bG (itoa z.1) (itoa z.2) (resI (Int.gcd (valI (itoa z.1)) (valI (itoa z.2))))).1)=itoa (z.1/(Int.gcd z.1 z.2:Nat)):=by rw[q1,aQ,aQ]
   have r2:itoa (valI (itoa z.2)/valI (bG (itoa z.1) (itoa z.2) (resI (Int.gcd (valI (itoa z.1)) (valI (itoa z.2))))).1)=itoa (z.2/(Int.gcd z.1 z.2:Nat)):=by rw[q1,aQ,aQ]
   have n1:chkI (itoa z.1)=0∧chkI (bG (itoa z.1) (itoa z.2) (resI (Int.gcd (valI (itoa z.1)) (valI (itoa z.2))))).1=0∧0<valI (bG (itoa z.1) (itoa z.2) (resI (Int.gcd (valI (itoa z.1)) (valI (itoa z.2))))).1∧valI (bG (itoa z.1) (itoa z.2) (resI (Int.gcd (valI (itoa z.1)) (valI (itoa z.2))))).1 ∣ valI (itoa z.1):=by
    rw[q1,aQ,aQ]
    exact ⟨bM hx,bM gl,by omega,gx⟩
   have n2:chkI (itoa z.2)=0∧chkI (bG (itoa z.1) (itoa z.2) (resI (Int.gcd (valI (itoa z.1)) (valI (itoa z.2))))).1=0∧0<valI (bG (itoa z.1) (itoa z.2) (resI (Int.gcd (valI (itoa z.1)) (valI (itoa z.2))))).1∧valI (bG (itoa z.1) (itoa z.2) (resI (Int.gcd (valI (itoa z.1)) (valI (itoa z.2))))).1 ∣ valI (itoa z.2):=by
    rw[q1,aQ,aQ]
    exact ⟨bM hy,bM gl,by omega,gy⟩
   have xl:lim (z.1/(Int.gcd z.1 z.2:Nat))=false:=jN (Int.natAbs_ediv_le_natAbs _ _) hx
   have yl:lim (z.2/(Int.gcd z.1 z.2:Nat))=false:=jN (Int.natAbs_ediv_le_natAbs _ _) hy
   have dl:∀n:Int,lim n=false→(decDigits n.natAbs).length≤300:=fun n h=>by unfold lim at h;simpa using h
   have hbA:=oS (z.1/(Int.gcd z.1 z.2:Nat))
   have pA:0<(itoa (z.1/(Int.gcd z.1 z.2:Nat))).length:=iH
   have pB:0<(itoa (z.2/(Int.gcd z.1 z.2:Nat))).length:=iH
   have cA:=bN (z.1/(Int.gcd z.1 z.2:Nat))
   have yp:0<z.2/(Int.gcd z.1 z.2:Nat):=Int.ediv_pos_of_pos_of_dvd hp (by omega) gy
   have lB:(itoa (z.2/(Int.gcd z.1 z.2:Nat))).length≤300:=by
    rw[bN,if_neg (by omega)];exact dl _ yl
   have lA1:z.1/(Int.gcd z.1 z.2:Nat)<0→((itoa (z.1/(Int.gcd z.1 z.2:Nat))).drop 1).length≤300∧(itoa (z.1/(Int.gcd z.1 z.2:Nat))).length≤301:=fun h=>by
    rw[cA,if_pos h]
    have:=dl _ xl
    exact ⟨this,by rw[List.length_cons];omega⟩
   have lA2:¬z.1/(Int.gcd z.1 z.2:Nat)<0→(itoa (z.1/(Int.gcd z.1 z.2:Nat))).length≤300:=fun h=>by
    rw[cA,if_neg h]
    exact dl _ xl
   have hB1:itoa (z.2/(Int.gcd z.1 z.2:Nat))= [49]↔z.2/(Int.gcd z.1 z.2:Nat)=1:=by
    constructor
    ·intro h
     have:=congrArg valI h
     rw[aQ] at this
     rw[this];decide
    ·intro h;rw[h]
     exact (aPv (n:=1) (by decide))
   have hcase:¬(itoa z.1).length≤18∨((itoa z.1).length≤18∧¬(itoa z.2).length≤18):=by omega
   rcases hcase with hc1 | ⟨hc1,hc2⟩
   all_goals
    (repeat'((conv=>whnf);first|refine Zg fun _=>?_|refine Zn ?_|refine Zy ?_|refine Zm ?_|fail))
    rw[r1,r2]
    (repeat'((conv=>whnf);first|refine Zg fun _=>?_|refine Zn ?_|refine Z0 ?_|fail))
    by_cases hn:z.1/(Int.gcd z.1 z.2:Nat)<0
    ·refine Br.mkY (hbA.2 hn) ?_
     have l3:=lA1 hn
     (repeat'((conv=>whnf);first|refine Zg fun _=>?_|refine Zn ?_|refine Z1 ?_|refine Zm ?_|fail))
     by_cases h1:itoa (z.2/(Int.gcd z.1 z.2:Nat))= [49]
     ·refine Br.mkY h1 ?_
      (conv=>whnf)
      (repeat' first|exact trivial|rfl|apply And.intro)
      (conv=>whnf)
      rw[if_pos (hB1.1 h1)]
     ·refine Br.mkN h1 ?_
      (repeat'((conv=>whnf);first|refine Zn ?_|fail))
      (conv=>whnf)
      (repeat' first|exact trivial|rfl|apply And.intro)
      (conv=>whnf)
      rw[if_neg fun h=>h1 (hB1.2 h)]
      simp
    ·refine Br.mkN (fun h=>hn (hbA.1 h)) ?_
     have l3:=lA2 hn
     (repeat'((conv=>whnf);first|refine Zg fun _=>?_|refine Zm ?_|fail))
     by_cases h1:itoa (z.2/(Int.gcd z.1 z.2:Nat))= [49]
     ·refine Br.mkY h1 ?_
      (conv=>whnf)
      (repeat' first|exact trivial|rfl|apply And.intro)
      (conv=>whnf)
      rw[if_pos (hB1.1 h1)]
     ·refine Br.mkN h1 ?_
      (repeat'((conv=>whnf);first|refine Zn ?_|fail))
      (conv=>whnf)
      (repeat' first|exact trivial|rfl|apply And.intro)
      (conv=>whnf)
      rw[if_neg fun h=>h1 (hB1.2 h)]
      simp
def c63:Con:=aJ 151 true fun args K=>match args with
 | [.str n,.str d]=>Need ((chkI n=0∧chkI d=0)∧valI d≠0) (K (.tup [S (numS (Rat.divInt (valI n) (valI d))),I 0]))
 | _=>False
theorem k63:aG Tryz.prog c63:=by
 refine kO Tryz.func151 fun args K h=>?_
 simp only[c63] at h;split at h
 ·rename_i n d
  obtain ⟨⟨hn,hd⟩,h0⟩:=h.ok
  have e1:=xU.1 (bY hn).1
  have e2:=xU.1 (bY hd).1
  have l1:lim (valI n)=false:=rR (by rw[← e1];exact hn)
  have l2:lim (valI d)=false:=rR (by rw[← e2];exact hd)
  refine ⟨_,h.go,?_⟩
  have ht:=triB Tryz.func151 Tryz.ntmps151 (by simp[k85,k62,k86,k71]) (b63 (valI n) (valI d) l1 l2 h0)
  rw[← e1,← e2] at ht
  exact ht
 ·exact h.elim
theorem aJk {n:Int} (h:lim n=true):resI n=([],4):=by unfold resI;rw[if_pos h]
theorem aPd {n:Int} (h:lim n=false):resI n=(itoa n,0):=by unfold resI;rw[if_neg (by rw[h];decide)]
theorem b80 (n d m c:List UInt8) (h:ok4 n m d c) (h0:valI d*valI c≠0):(∀hl:lim (valI n*valI m)=true∨lim (valI d*valI c)=true,body Tryz.prog [c81,c63] {} true Tryz.f88 [S n,S d,S m,S c] (.tup [S [],I 4]))∧(∀hl:¬(lim (valI n*valI m)=true∨lim (valI d*valI c)=true),body Tryz.prog [c81,c63] {} true Tryz.f88 [S n,S d,S m,S c] (.tup [S (numS (Rat.divInt (valI n*valI m) (valI d*valI c))),I 0])):=by
 refine ⟨fun hl=>?_,fun hl=>?_⟩
 ·by_cases h1:lim (valI n*valI m)=true
  ·(repeat'((conv=>whnf);first|refine Zn ?_|fail))
   refine Br.mkY h1 ?_
   (repeat'((conv=>whnf);first|refine Zy ?_|fail))
   (conv=>whnf)
   (repeat' first|exact trivial|rfl|apply And.intro)
  ·have h2:lim (valI d*valI c)=true:=hl.elim (fun h=>absurd h h1) id
   (repeat'((conv=>whnf);first|refine Zn ?_|fail))
   refine Br.mkN h1 ?_
   refine Br.mkY (show ¬(resI (valI d*valI c)).2=0 by rw[aJk h2];decide) ?_
   (conv=>whnf)
   (repeat' first|exact trivial|rfl|apply And.intro)
   (conv=>whnf)
   rw[aJk h2]
 ·have h1:lim (valI n*valI m)=false:=by
   cases h:lim (valI n*valI m) with
   | true=>exact absurd (.inl h) hl
   | false=>rfl
  have h2:lim (valI d*valI c)=false:=by
   cases h:lim (valI d*valI c) with
   | true=>exact absurd (.inr h) hl
   | false=>rfl
  have e2:=aPd h2
  have n1:(chkI (itoa (valI n*valI m))=0∧chkI (resI (valI d*valI c)).1=0)∧valI (resI (valI d*valI c)).1≠0:=by
   rw[e2]
   exact ⟨⟨bM h1,bM h2⟩,by rw[aQ];exact h0⟩
  (repeat'((conv=>whnf);first|refine Zn ?_|fail))
  refine Br.mkN (by rw[h1];decide) ?_
  refine Br.mkN (show ¬ ¬(resI (valI d*valI c)).2=0 by rw[e2];simp) ?_
  (repeat'((conv=>whnf);first|refine Zn ?_|fail))
  (conv=>whnf)
  (repeat' first|exact trivial|rfl|apply And.intro)
  (conv=>whnf)
  rw[e2,aQ,aQ]
def c80:Con:=aJ 88 true fun args K=>match args with
 | [.str n,.str d,.str m,.str c]=>Need (ok4 n m d c∧valI d*valI c≠0) (Br (lim (valI n*valI m)=true∨lim (valI d*valI c)=true) (K (.tup [S [],I 4])) (K (.tup [S (numS (Rat.divInt (valI n*valI m) (valI d*valI c))),I 0])))
 | _=>False
theorem k80:aG Tryz.prog c80:=by
 refine kO Tryz.func88 fun args K h=>?_
 simp only[c80] at h;split at h
 ·rename_i n d m c
  have hb:=b80 n d m c h.ok.1 h.ok.2
  by_cases hl:lim (valI n*valI m)=true∨lim (valI d*valI c)=true
  ·exact ⟨_,h.go.yes hl,triB Tryz.func88 Tryz.ntmps88 (by simp[k81,k63]) (hb.1 hl)⟩
  ·exact ⟨_,h.go.no hl,triB Tryz.func88 Tryz.ntmps88 (by simp[k81,k63]) (hb.2 hl)⟩
 ·exact h.elim
theorem mul9 {x y:Int} (hx:x.natAbs<1000000000) (hy:y.natAbs<1000000000): -1000000000000000000<x*y∧x*y<1000000000000000000:=by
 have h:=Int.natAbs_mul x y
 have h1:x.natAbs*y.natAbs<1000000000*1000000000:=Nat.mul_lt_mul'' hx hy
 omega
theorem aNj {q:Rat} (h:Sz 300 q):chkI (pn q)=0∧valI (pn q)=q.num∧lim q.num=false:=by
 have h1:lim q.num=false:=by
  unfold lim
  have:=h.digs.1
  simp;omega
 exact ⟨bM h1,qF q,h1⟩
theorem aNk {q:Rat} (h:Sz 300 q):chkI (pd q)=0∧valI (pd q)=q.den:=by
 have:=aDa h.digs.2
 exact ⟨this.2.1,this.2.2⟩
theorem bad2 {a b:List UInt8} (h:chkB a b≠0) (f:Rat→Rat→List UInt8 × Int):gA a b f=([],chkB a b):=by
 unfold gA chkB at*
 by_cases h1:chkQ a≠0
 ·rw[if_pos h1,if_pos h1]
 ·rw[if_neg h1] at h ⊢
  rw[if_pos h,if_neg h1]
theorem aNl {a b:List UInt8} (h:¬chkB a b≠0):chkQ a=0∧chkQ b=0:=by
 unfold chkB at h
 by_cases h1:chkQ a≠0
 ·rw[if_pos h1] at h;exact absurd h1 h
 ·rw[if_neg h1] at h
  exact ⟨Classical.not_not.1 h1,Classical.not_not.1 h⟩
theorem aKx {a b:List UInt8} (h:chkQ a=0∧chkQ b=0) (f:Rat→Rat→List UInt8 × Int):gA a b f=f (valQ a) (valQ b):=by
 unfold gA
 rw[if_neg (by rw[h.1];simp),if_neg (by rw[h.2];simp)]
theorem aF0 {p q:Prop} (hs:¬(p∧q)):(¬p∧q)∨(¬p∧¬q)∨(p∧¬q):=by
 by_cases h1:p
 ·exact .inr (.inr ⟨h1,fun h2=>hs ⟨h1,h2⟩⟩)
 ·by_cases h2:q
  ·exact .inl ⟨h1,h2⟩
  ·exact .inr (.inl ⟨h1,h2⟩)
theorem aJl {p q:Rat} (l1:lim (p.num*q.num)=false) (l2:lim (p.den*q.den)=false):mulf p q=(numS (p*q),0):=by
 unfold mulf
 rw[if_neg (by simp[l1,l2])]
theorem aJm (p q:Rat):Rat.divInt (p.num*q.num) (p.den*q.den)=p*q:=by
 rw[oK,← Int.natCast_mul,Rat.divInt_ofNat]
theorem b41g (a b:List UInt8) (ha:chkQ a=0) (hb:chkQ b=0):body Tryz.prog [c78,c70,c62,c65,c80] {} true Tryz.f95 [S a,S b] (.tup [S (mulf (valQ a) (valQ b)).1,I (mulf (valQ a) (valQ b)).2]):=by
 have hp:=(vE ha).2
 have hq:=(vE hb).2
 obtain ⟨cn1,vn1,ln1⟩:=aNj hp
 obtain ⟨cn2,vn2,ln2⟩:=aNj hq
 obtain ⟨cd1,vd1⟩:=aNk hp
 obtain ⟨cd2,vd2⟩:=aNk hq
 have d1:=(valQ a).den_pos
 have d2:=(valQ b).den_pos
 have hc:¬chkB a b≠0:=by unfold chkB;rw[if_neg (by rw[ha];simp),hb];simp
 by_cases hs:smR (valQ a)∧smR (valQ b)
 ·have s1:=aHl hs.1
  have s2:=aHl hs.2
  have m1:=mul9 (x:=(valQ a).num) (y:=(valQ b).num) s1.1 s2.1
  have m3:=mul9 (x:=((valQ a).den:Int)) (y:=((valQ b).den:Int)) (by omega) (by omega)
  have m4:0<((valQ a).den:Int)*((valQ b).den:Int):=Int.mul_pos (by omega) (by omega)
  have ea:=aJl (p:=valQ a) (q:=valQ b) (dT (by omega)) (dT (by omega))
  refine Br.mkN (show ¬ ¬chkB a b=0 from hc) ?_
  (repeat'((conv=>whnf);first|refine Zn ?_|fail))
  refine Br.mkY hs.1 ?_
  (repeat'((conv=>whnf);first|refine Zn ?_|fail))
  refine Br.mkY hs.2 ?_
  (repeat'((conv=>whnf);first|refine Zn ?_|fail))
  (conv=>whnf)
  (repeat' first|exact trivial|rfl|apply And.intro)
  ·(conv=>whnf)
   rw[ea,← aJm]
  ·(conv=>whnf)
   rw[ea]
 ·have n4:ok4 (pn (valQ a)) (pd (valQ a)) (pn (valQ b)) (pd (valQ b))∧valI (pd (valQ a))*valI (pd (valQ b))≠0:=⟨⟨⟨cn1,cd1⟩,cn2,cd2⟩,by rw[vd1,vd2];exact Int.mul_ne_zero (by omega) (by omega)⟩
  rcases aF0 hs with ⟨h1,h2⟩ | ⟨h1,h2⟩ | ⟨h1,h2⟩
  all_goals skip
  all_goals refine Br.mkN (show ¬ ¬chkB a b=0 from hc) ?_
  all_goals (repeat'((conv=>whnf);first|refine Zn ?_|fail))
  all_goals first | refine Br.mkN h1 ?_ | refine Br.mkY h1 ?_
  all_goals (repeat'((conv=>whnf);first|refine Zn ?_|fail))
  all_goals first | refine Br.mkN h2 ?_ | refine Br.mkY h2 ?_
  all_goals (repeat'((conv=>whnf);first|refine Zn ?_|fail))
  all_goals
   by_cases hl:lim (valI (pn (valQ a))*valI (pn (valQ b)))=true∨lim (valI (pd (valQ a))*valI (pd (valQ b)))=true
   ·have ea:mulf (valQ a) (valQ b)=([],4):=by
     rw[vn1,vn2,vd1,vd2] at hl
     unfold mulf
     rw[if_pos (by simpa using hl)]
    refine Br.mkY hl ?_
    (conv=>whnf)
    (repeat' first|exact trivial|rfl|apply And.intro)
    ·(conv=>whnf)
     rw[ea]
    ·(conv=>whnf)
     rw[ea]
   ·refine Br.mkN hl ?_
    rw[vn1,vn2,vd1,vd2] at hl
    have ea:=aJl (p:=valQ a) (q:=valQ b) (by simpa using fun h=>hl (.inl h)) (by simpa using fun h=>hl (.inr h))
    (conv=>whnf)
    (repeat' first|exact trivial|rfl|apply And.intro)
    ·(conv=>whnf)
     rw[ea,vn1,vn2,vd1,vd2,aJm]
    ·(conv=>whnf)
     rw[ea]
theorem b41 (a b:List UInt8):body Tryz.prog [c78,c70,c62,c65,c80] {} true Tryz.f95 [S a,S b] (.tup [S (mulQ a b).1,I (mulQ a b).2]):=by
 by_cases h:chkB a b≠0
 ·have e:mulQ a b=([],chkB a b):=bad2 h _
  rw[e]
  refine Br.mkY h ?_
  (conv=>whnf)
  (repeat' first|exact trivial|rfl|apply And.intro)
 ·have e:mulQ a b=mulf (valQ a) (valQ b):=aKx (aNl h) _
  rw[e]
  exact b41g a b (aNl h).1 (aNl h).2
def c41:Con:=aJ 95 true fun args K=>match args with | [.str a,.str b]=>K (.tup [S (mulQ a b).1,I (mulQ a b).2]) | _=>False
theorem k41:aG Tryz.prog c41:=by
 refine kO Tryz.func95 fun args K h=>?_
 simp only[c41] at h;split at h
 ·rename_i a b;exact ⟨_,h,triB Tryz.func95 Tryz.ntmps95 (by simp[k78,k70,k62,k65,k80]) (b41 a b)⟩
 ·exact h.elim
def longL (l:List (List UInt8)):Prop:=(∃a∈l,aJj a)∨8<l.length
noncomputable instance (l:List (List UInt8)):Decidable (longL l):=Classical.propDecidable _
theorem aKy {n:Int} (h:n<0) (h0:n.tdiv 10≠0):itoa n=itoa (n.tdiv 10)++itoa (-(n.tmod 10)):=by
 obtain ⟨m,rfl⟩:∃m:Nat,n= -(m:Int):=⟨n.natAbs,by omega⟩
 have e1:(-(m:Int)).tdiv 10= -((m/10:Nat):Int):=by rw[Int.neg_tdiv,Int.tdiv_eq_ediv_of_nonneg (by omega)];rfl
 have e2:(-(m:Int)).tmod 10= -((m%10:Nat):Int):=by rw[Int.neg_tmod,Int.tmod_eq_emod_of_nonneg (by omega)];rfl
 rw[e1] at h0
 have hm:10≤m:=Nat.le_of_not_lt fun h'=>h0 (by rw[Nat.div_eq_of_lt h'];rfl)
 rw[e1,e2,Int.neg_neg,dN,bN,if_pos h,bN,if_pos (by omega)]
 rw[Int.natAbs_neg,Int.natAbs_natCast,Int.natAbs_neg,Int.natAbs_natCast,List.cons_append]
 congr 1
 conv=>lhs;rw[decDigits,dif_neg (by omega)]
 rw[dec1 (Nat.mod_lt _ (by omega))]
def c64 (k:Nat):Con:=aJ 154 true fun args K=>match args with | [.val (.int .i64 n)]=>Need ((-9223372036854775808≤n∧n≤9223372036854775807)∧n.natAbs<10^k) (K (S (itoa n))) | _=>False
theorem mL {n:Int} (h: -9223372036854775808≤n∧n≤9223372036854775807):(itoa n).length≤20:=by
 have:=IB.eV 18 n.natAbs (by omega)
 rw[bN];split
 ·rw[List.length_cons];omega
 ·omega
theorem b64 (k:Nat) (n:Int) (h:(-9223372036854775808≤n∧n≤9223372036854775807)∧n.natAbs<10^ (k+1)):body Tryz.prog [c101,c64 k] {} true Tryz.f154 [I n] (S (itoa n)):=by
 obtain ⟨hn,hk⟩:=h
 have hl:=mL hn
 (apply Br.mk<;>intro)
 ·rename_i h0
  (repeat'((conv=>whnf);first|refine Zn ?_|fail))
  (conv=>whnf)
 ·rename_i h0
  have q1:n.tdiv 10= -((n.natAbs/10:Nat):Int):=by
   obtain ⟨m,rfl⟩:∃m:Nat,n= -(m:Int):=⟨n.natAbs,by omega⟩
   rw[Int.neg_tdiv,Int.tdiv_eq_ediv_of_nonneg (by omega),Int.natAbs_neg,Int.natAbs_natCast];rfl
  have q2:n.tmod 10= -((n.natAbs%10:Nat):Int):=by
   obtain ⟨m,rfl⟩:∃m:Nat,n= -(m:Int):=⟨n.natAbs,by omega⟩
   rw[Int.neg_tmod,Int.tmod_eq_emod_of_nonneg (by omega),Int.natAbs_neg,Int.natAbs_natCast];rfl
  have q3:n.natAbs/10<10^k:=by rw[Nat.pow_succ] at hk;omega
  have b1: -9223372036854775808≤n.tdiv 10∧n.tdiv 10≤9223372036854775807:=by rw[q1];omega
  have b2: -9≤n.tmod 10∧n.tmod 10≤0:=by rw[q2];omega
  have b3:(n.tdiv 10).natAbs<10^k:=by rw[q1,Int.natAbs_neg,Int.natAbs_natCast];exact q3
  have l1:=mL b1
  have l2:=mL (n:= -(n.tmod 10)) (by omega)
  (repeat'((conv=>whnf);first|refine Zb ?_|refine Zn ?_|fail))
  (apply Br.mk<;>intro)
  ·rename_i hz
   have hm:n.natAbs<10:=by
    rw[q1] at hz
    omega
   have e:itoa n=45::itoa (-n):=by
    rw[bN,if_pos (by omega),bN (-n),if_neg (by omega),Int.natAbs_neg]
   have l3:(itoa (-n)).length≤20:=mL (by omega)
   (repeat'((conv=>whnf);first|refine Zn ?_|fail))
   (conv=>whnf)
   exact e.symm
  ·rename_i hz
   have e:=aKy (n:=n) (by omega) hz
   (repeat'((conv=>whnf);first|refine Zb ?_|refine Zn ?_|fail))
   (conv=>whnf)
   exact e.symm
theorem b64z (n:Int) (h:0≤n∧n≤9223372036854775807):body Tryz.prog [c101] {} true Tryz.f154 [I n] (S (itoa n)):=by
 (repeat'((conv=>whnf);first|refine Zn ?_|refine Zy ?_|fail))
 (conv=>whnf)
theorem k64:∀k,aG Tryz.prog (c64 k)
 | 0=>by
  refine qU rfl (enters_of Tryz.func154 (by kernel_rfl) rfl) ?_
  intro args K h
  simp only[c64] at h
  split at h
  ·rename_i n
   have h1:=h.ok.2
   rw[Nat.pow_zero] at h1
   exact ⟨_,h.go,triB Tryz.func154 Tryz.ntmps154 (by simp[k101]) (b64z n (by omega))⟩
  ·exact h.elim
 | k+1=>by
  refine qU rfl (enters_of Tryz.func154 (by kernel_rfl) rfl) ?_
  intro args K h
  simp only[c64] at h
  split at h
  ·rename_i n
   exact ⟨_,h.go,triB Tryz.func154 Tryz.ntmps154 (by simp[k101,k64 k]) (b64 k n h.ok)⟩
  ·exact h.elim
def c64':Con:=c64 20
theorem k64':aG Tryz.prog c64':=k64 20
theorem aPx {n:Int} (h: -9223372036854775808≤n∧n≤9223372036854775807):n.natAbs<10^20:=by
 have:(10:Nat)^20=100000000000000000000:=by decide
 omega
theorem b25 (n d:Int) (h:(-9223372036854775808≤n∧n≤9223372036854775807)∧(-9223372036854775808≤d∧d≤9223372036854775807)):body Tryz.prog [c62,c64',c63] {} true Tryz.f94 [I n,I d] (.tup [S (ofQ n d).1,I (ofQ n d).2]):=by
 obtain ⟨hn,hd⟩:=h
 by_cases h0:d=0
 ·have e:ofQ n d=([],12):=by unfold ofQ;rw[if_pos h0]
  rw[e]
  (repeat'((conv=>whnf);first|refine Zy ?_|fail))
  (conv=>whnf)
  (repeat' first|exact trivial|rfl|apply And.intro)
 ·have e:ofQ n d=(numS (Rat.divInt n d),0):=by unfold ofQ;rw[if_neg h0]
  rw[e]
  have p1:=aPx hn
  have p2:=aPx hd
  by_cases hq:(-4611686018427387904<n∧n<4611686018427387904)∧0<d∧d<4611686018427387904
  ·(repeat'((conv=>whnf);first|refine Zn ?_|refine Zy ?_|refine Zm ?_|fail))
   (conv=>whnf)
   (repeat' first|exact trivial|rfl|apply And.intro)
  ·have l1:lim n=false:=dT (Nat.lt_of_lt_of_le p1 (cR (by decide)))
   have l2:lim d=false:=dT (Nat.lt_of_lt_of_le p2 (cR (by decide)))
   have hN:(chkI (itoa n)=0∧chkI (itoa d)=0)∧valI (itoa d)≠0:=⟨⟨bM l1,bM l2⟩,by rw[aQ];exact h0⟩
   have hN1:(-9223372036854775808≤n∧n≤9223372036854775807)∧n.natAbs<10^20:=⟨hn,p1⟩
   have hN2:(-9223372036854775808≤d∧d≤9223372036854775807)∧d.natAbs<10^20:=⟨hd,p2⟩
   refine Br.mkN h0 ?_
   have hcase:¬ -4611686018427387904<n∨(-4611686018427387904<n∧¬n<4611686018427387904)∨(-4611686018427387904<n∧n<4611686018427387904∧¬0<d)∨(-4611686018427387904<n∧n<4611686018427387904∧0<d∧¬d<4611686018427387904):=by omega
   rcases hcase with c1 | ⟨c1,c2⟩ | ⟨c1,c2,c3⟩ | ⟨c1,c2,c3,c4⟩
   all_goals
    (repeat'((conv=>whnf);first|refine Zn ?_|refine Zy ?_|refine Zm ?_|fail))
    (conv=>whnf)
    (repeat' first|exact trivial|rfl|apply And.intro)
    (conv=>whnf)
    rw[aQ,aQ]
def c25:Con:=aJ 94 true fun args K=>match args with | [.val (.int .i64 n),.val (.int .i64 d)]=>Need ((-9223372036854775808≤n∧n≤9223372036854775807)∧(-9223372036854775808≤d∧d≤9223372036854775807)) (K (.tup [S (ofQ n d).1,I (ofQ n d).2])) | _=>False
theorem k25:aG Tryz.prog c25:=by
 refine kO Tryz.func94 fun args K h=>?_
 simp only[c25] at h;split at h
 ·rename_i n d;exact ⟨_,h.go,triB Tryz.func94 Tryz.ntmps94 (by simp[k62,k64',k63]) (b25 n d h.ok)⟩
 ·exact h.elim
def c75:Con:=aBp 105 fun args K=>match args with | [.val (.slice none 0 0),.val (.int .i64 n)]=>Need (0≤n∧n≤1000000) (K (.ref 0 1) (.vec 1 (.str) ([]) 22)) | _=>False
end RB
end
section
namespace RB
section
variable {ax ay az bx by' bz cx cy cz P Q R:Rat}
end
end RB
end
section
open Go Go.Proofs Go.Eng Go.Shelf IB Go.Lib Go.RowKit
namespace RB
def d36 (q:Rat):Prop:=(decDigits q.num.natAbs).length≤36∧(decDigits q.den).length≤36
instance (q:Rat):Decidable (d36 q):=inferInstanceAs (Decidable (_∧ _))
noncomputable def chkP (a:List UInt8):Int:=if chkQ a≠0 then chkQ a else if d36 (valQ a) then 0 else 4
def badP (l:List (List UInt8)):Prop:=∃a∈l,chkP a≠0
noncomputable instance (l:List (List UInt8)):Decidable (badP l):=Classical.propDecidable _
section
variable {p q r:Rat} {i j k:Nat}
end
noncomputable def hgt (a b c x y:List UInt8):Rat:=valQ a*valQ x+valQ b*valQ y+valQ c
section
variable (p:List UInt8→Prop) [DecidablePred p]
end
def badS (s:List UInt8):Prop:=12<s.length∨chkQ s≠0
noncomputable instance (s:List UInt8):Decidable (badS s):=Classical.propDecidable _
noncomputable instance:DecidablePred badS:=fun s=>Classical.propDecidable _
def notP (s:List UInt8):Prop:=chkP s≠0
noncomputable instance:DecidablePred notP:=fun s=>Classical.propDecidable _
def aQd (l:List (List UInt8)):Prop:=∀a∈l,a.length≤12∧chkQ a=0
noncomputable instance (l:List (List UInt8)):Decidable (aQd l):=Classical.propDecidable _
theorem Sz.up {k:Nat} {q:Rat} (h:Sz 12 q) (hk:12≤k):Sz k q:=h.mono hk
theorem aOs {p q:Rat} {k:Nat} (h1:(p.num*q.den).natAbs<10^k) (h2:(q.num*p.den).natAbs<10^k) (h0:q≠0):Sz k (p/q):=by
 have hq:q.num≠0:=fun h=>h0 (Rat.num_eq_zero.1 h)
 have hp:(0:Int)<p.den:=by have:=p.den_pos;omega
 rw[aKd p q h0]
 rcases Int.lt_or_lt_of_ne hq with h | h
 ·have hd:(p.den:Int)*q.num<0:=Int.mul_neg_of_pos_of_neg hp h
  rw[qD _ _ hd]
  refine aBl (by omega) (by rwa [Int.natAbs_neg]) ?_
  have:(-((p.den:Int)*q.num)).toNat=(q.num*p.den).natAbs:=by rw[Int.mul_comm q.num];omega
  rwa [this]
 ·have hd:0<(p.den:Int)*q.num:=Int.mul_pos hp h
  rw[eB _ _ hd]
  refine aBl (by omega) h1 ?_
  have:((p.den:Int)*q.num).toNat=(q.num*p.den).natAbs:=by rw[Int.mul_comm q.num];omega
  rwa [this]
theorem Sz.div {p q:Rat} {i j:Nat} (hp:Sz i p) (hq:Sz j q) (h0:q≠0):Sz (i+j) (p/q):=aOs (hp.cross hq).1 (hp.cross hq).2.1 h0
section
variable {p q:Rat}
end
noncomputable def ckG (p:List UInt8):List (List UInt8)→Int
 | []=>0
 | a::r=>if chkQ a≠0 then chkQ a else if (cmpQ p a).2≠0 then (cmpQ p a).2 else if 0≤(cmpQ p a).1 then 10 else ckG a r
noncomputable def ckF:List (List UInt8)→Int
 | []=>0
 | a::r=>if chkQ a≠0 then chkQ a else ckG a r
noncomputable def ckS (l:List (List UInt8)):Int:=if 4096<l.length then 4 else ckF l
theorem aOd {α:Type} {l:List α} {i:Nat} (d:α) (h:i<l.length):l.drop i=l.getD i d::l.drop (i+1):=by
 rw[List.drop_eq_getElem_cons h]
 simp[List.getD_eq_getElem?_getD,h]
section
variable {l:List (List UInt8)} {i:Nat}
end
def Wt (k:Nat) (q:Rat):Prop:=q.num.natAbs*q.den<10^k
theorem aAx (n:Int) {d:Nat} (hd:d≠0):(mkRat n d).num.natAbs≤n.natAbs∧(mkRat n d).den≤d:=by
 rw[Rat.num_mkRat,if_neg hd,Rat.den_mkRat,if_neg hd]
 exact ⟨pO _ _,Nat.div_le_self _ _⟩
theorem Wt.sub {p q:Rat} {k:Nat} (hp:Wt k p) (hq:Wt k q) (sp:p.den<10^k) (sq:q.den<10^k):Wt (3*k+1) (p-q):=by
 unfold Wt at hp hq ⊢
 rw[aA4]
 obtain ⟨h1,h2⟩:=aAx (p.num*q.den-q.num*p.den) (yY p q)
 refine Nat.lt_of_le_of_lt (Nat.mul_le_mul h1 h2) ?_
 have e1:(p.num*q.den-q.num*p.den).natAbs≤p.num.natAbs*q.den+q.num.natAbs*p.den:=by
  refine Nat.le_trans (Int.natAbs_sub_le _ _) ?_
  rw[Int.natAbs_mul,Int.natAbs_mul,Int.natAbs_natCast,Int.natAbs_natCast]
  exact Nat.le_refl _
 refine Nat.lt_of_le_of_lt (Nat.mul_le_mul_right _ e1) ?_
 have e2:(p.num.natAbs*q.den+q.num.natAbs*p.den)*(p.den*q.den)=(p.num.natAbs*p.den)*(q.den*q.den)+(q.num.natAbs*q.den)*(p.den*p.den):=by
  rw[Nat.add_mul]
  congr 1<;>ac_rfl
 rw[e2]
 have a1:(p.num.natAbs*p.den)*(q.den*q.den)<10^k*(10^k*10^k):=Nat.mul_lt_mul'' hp (Nat.mul_lt_mul'' sq sq)
 have a2:(q.num.natAbs*q.den)*(p.den*p.den)<10^k*(10^k*10^k):=Nat.mul_lt_mul'' hq (Nat.mul_lt_mul'' sp sp)
 have e3:10^ (3*k+1)=10*(10^k*(10^k*10^k)):=by
  rw[← Nat.pow_add,← Nat.pow_add,Nat.pow_succ,Nat.mul_comm]
  congr 2;omega
 rw[e3]
 omega
theorem kR {α:Type} {l:List α} {i:Nat} {d:α} (h:i<l.length):l.getD i d∈l:=by
 simp[List.getD_eq_getElem?_getD,h]
def rgP (a b:List UInt8):Prop:=(cmpQ a b).2=0∧(cmpQ a b).1≤0
noncomputable instance (a b:List UInt8):Decidable (rgP a b):=Classical.propDecidable _
def flI (q:Rat):Int:=q.num/(q.den:Int)
theorem xO (q:Rat):((flI q:Int):Rat)≤q:=by
 rw[Rat.le_iff,Rat.num_intCast,Rat.den_intCast]
 have:=aNc q
 unfold flI
 simpa using this
theorem aC3 (q:Rat):q<((flI q+1:Int):Rat):=by
 rw[Rat.lt_iff,Rat.num_intCast,Rat.den_intCast]
 have:=aNd q
 unfold flI
 simpa using this
def clI (q:Rat):Int:=if ((flI q:Int):Rat)=q then flI q else flI q+1
theorem aL9 (q:Rat):q≤((clI q:Int):Rat):=by
 unfold clI
 split
 ·rename_i h;rw[h];exact Rat.le_refl
 ·exact Rat.le_of_lt (aC3 q)
theorem aP3 (q:Rat):((clI q-1:Int):Rat)<q:=by
 unfold clI
 split
 ·rename_i h
  have e:((flI q-1:Int):Rat)=((flI q:Int):Rat)-1:=by rw[Rat.intCast_sub];rfl
  rw[e,h]
  exact Rat.sub_lt_iff.2 (by grind)
 ·rename_i h
  rw[show flI q+1-1=flI q by omega]
  exact Rat.not_le.1 fun h'=>h (Rat.le_antisymm (xO q) h')
theorem aOf {q:Rat} (h:0<q):0<clI q:=by
 have h1:=aL9 q
 have h2:(0:Rat)<((clI q:Int):Rat):=Rat.not_le.1 fun h'=>Rat.not_le.2 h (Rat.le_trans h1 h')
 exact Rat.intCast_pos.1 h2
def nM (lo hi most:Rat):Rat:=(hi-lo)/(clI ((hi-lo)/most):Int)
section
variable {lo hi most:Rat}
theorem aMa {a b:Rat} (ha:0<a) (hb:0<b):0<a/b:=by
 have e:a/b*b=a:=Rat.div_mul_cancel (by grind)
 refine Rat.not_le.1 fun h=>?_
 have:=Rat.mul_le_mul_of_nonneg_right (c:=b) h (Rat.le_of_lt hb)
 rw[e,Rat.zero_mul] at this
 exact Rat.not_le.2 ha this
theorem aP4 (h:lo<hi) (hm:0<most):0<clI ((hi-lo)/most):=aOf (aMa (by grind) hm)
end
section
variable {α:Type} [DecidableEq α]
end
def bU (L O S:Rat):Int:=flI ((O-L)/S)
def lV (H O S:Rat):Int:=flI ((H-O)/S)
def iN (L O S:Rat):Rat:=O-((bU L O S:Int):Rat)*S
def aC4 (L H O S:Rat):Int:=bU L O S+lV H O S+1
theorem aMb {n:Int} {q:Rat}:(n:Rat)≤q↔n≤flI q:=by
 constructor
 ·intro h
  have h1:=aC3 q
  have h2:(n:Rat)<((flI q+1:Int):Rat):=Rat.not_le.1 fun h'=>Rat.not_le.2 h1 (Rat.le_trans h' h)
  have:=Rat.intCast_lt_intCast.1 h2
  omega
 ·intro h
  exact Rat.le_trans (Rat.intCast_le_intCast.2 h) (xO q)
theorem xP {a b s:Rat} (hs:0<s):a≤b/s↔a*s≤b:=by
 have e:b/s*s=b:=Rat.div_mul_cancel (by grind)
 constructor
 ·intro h
  have:=Rat.mul_le_mul_of_nonneg_right (c:=s) h (Rat.le_of_lt hs)
  rwa [e] at this
 ·intro h
  refine Rat.not_lt.1 fun hlt=>?_
  have:=Rat.mul_lt_mul_of_pos_right hlt hs
  rw[e] at this
  exact Rat.not_le.2 this h
theorem at_in {L H O S:Rat} (hs:0<S) (i:Nat):iN L O S+S*((i:Int):Rat)≤H↔(i:Int)<aC4 L H O S:=by
 have e1:((i:Int)-bU L O S)≤flI ((H-O)/S)↔(((i:Int)-bU L O S:Int):Rat)*S≤H-O:=by rw[← aMb,xP hs]
 have e2:(((i:Int)-bU L O S:Int):Rat)=((i:Int):Rat)-((bU L O S:Int):Rat):=Rat.intCast_sub _ _
 rw[e2] at e1
 have e3:(((i:Int):Rat)-((bU L O S:Int):Rat))*S≤H-O↔iN L O S+S*((i:Int):Rat)≤H:=by
  unfold iN
  rw[Rat.le_iff_sub_nonneg,Rat.le_iff_sub_nonneg (a:=O- _+ _)]
  have:H-O-(((i:Int):Rat)-((bU L O S:Int):Rat))*S=H-(O-((bU L O S:Int):Rat)*S+S*((i:Int):Rat)):=by grind
  rw[this]
 rw[← e3,← e1]
 unfold aC4 lV
 omega
theorem aP5 {L O S:Rat} (hs:0<S):L≤iN L O S∧iN L O S<L+S:=by
 have h1:((bU L O S:Int):Rat)≤(O-L)/S:=xO _
 rw[xP hs] at h1
 have h2:¬((bU L O S+1:Int):Rat)≤(O-L)/S:=Rat.not_le.2 (aC3 _)
 rw[xP hs] at h2
 have e:((bU L O S+1:Int):Rat)=((bU L O S:Int):Rat)+1:=Rat.intCast_add _ _
 rw[e] at h2
 have h2:=Rat.not_le.1 h2
 unfold iN
 generalize ((bU L O S:Int):Rat)=k at*
 constructor
 ·rw[Rat.le_iff_sub_nonneg] at h1 ⊢
  have:O-k*S-L=O-L-k*S:=by grind
  rwa [this]
 ·rw[Rat.lt_iff_sub_pos] at h2 ⊢
  have:L+S-(O-k*S)=(k+1)*S-(O-L):=by grind
  rwa [this]
section
variable {p q:Rat} {k:Nat}
theorem lW {a b:Nat} (hb:b≠0):a≤a*b:=Nat.le_mul_of_pos_right a (Nat.pos_of_ne_zero hb)
theorem aE8 (h1:p.num.natAbs*q.den<10^k) (h2:q.num.natAbs*p.den<10^k) (h3:p.den*q.den<10^k):Sz k p∧Sz k q:=by
 have n1:=q.den_nz
 have n2:=p.den_nz
 exact ⟨⟨Nat.lt_of_le_of_lt (lW n1) h1,Nat.lt_of_le_of_lt (lW n1) h3⟩,⟨Nat.lt_of_le_of_lt (lW n2) h2,Nat.lt_of_le_of_lt (by rw[Nat.mul_comm];exact lW n2) h3⟩⟩
theorem aP6 (hk:0<k∧k+1≤300) (h1:p.num.natAbs*q.den<10^k) (h2:q.num.natAbs*p.den<10^k) (h3:p.den*q.den<10^k):addQ (numS p) (numS q)=(numS (p+q),0):=by
 obtain ⟨zp,zq⟩:=aE8 h1 h2 h3
 have e1:(p.num*q.den).natAbs<10^k:=by rw[Int.natAbs_mul,Int.natAbs_natCast];exact h1
 have e2:(q.num*p.den).natAbs<10^k:=by rw[Int.natAbs_mul,Int.natAbs_natCast];exact h2
 unfold addQ
 rw[oQ zp zq ⟨hk.1,by omega⟩ ⟨hk.1,by omega⟩,if_neg]
 simp only[Bool.or_eq_true,not_or,Bool.not_eq_true]
 exact ⟨⟨⟨bS ⟨hk.1,by omega⟩ e1,bS ⟨hk.1,by omega⟩ e2⟩,bS (k:=k+1) ⟨by omega,hk.2⟩ (fR e1 e2).1⟩,bS ⟨hk.1,by omega⟩ (by rw[← Int.natCast_mul,Int.natAbs_natCast];exact h3)⟩
theorem aP7 (hk:0<k∧k+1≤300) (h1:p.num.natAbs*q.den<10^k) (h2:q.num.natAbs*p.den<10^k) (h3:p.den*q.den<10^k):subQ (numS p) (numS q)=(numS (p-q),0):=by
 obtain ⟨zp,zq⟩:=aE8 h1 h2 h3
 have e1:(p.num*q.den).natAbs<10^k:=by rw[Int.natAbs_mul,Int.natAbs_natCast];exact h1
 have e2:(q.num*p.den).natAbs<10^k:=by rw[Int.natAbs_mul,Int.natAbs_natCast];exact h2
 unfold subQ
 rw[oQ zp zq ⟨hk.1,by omega⟩ ⟨hk.1,by omega⟩,if_neg]
 simp only[Bool.or_eq_true,not_or,Bool.not_eq_true]
 exact ⟨⟨⟨bS ⟨hk.1,by omega⟩ e1,bS ⟨hk.1,by omega⟩ e2⟩,bS (k:=k+1) ⟨by omega,hk.2⟩ (fR e1 e2).2⟩,bS ⟨hk.1,by omega⟩ (by rw[← Int.natCast_mul,Int.natAbs_natCast];exact h3)⟩
end
theorem aG3 (q:Rat):((q.num:Int):Rat)=q*((q.den:Nat):Rat):=by
 have h:((q.den:Nat):Rat)≠0:=by
  have:=q.den_pos
  have:=Rat.natCast_pos.2 this
  exact fun e=>Rat.lt_irrefl (e ▸ this)
 have e:q=(q.num:Rat)/((q.den:Nat):Rat):=by
  conv=>lhs;rw[← Rat.mkRat_self q,Rat.mkRat_eq_div]
 conv=>rhs;lhs;rw[e]
 rw[Rat.div_mul_cancel h]
theorem sL (q:Rat):(0:Rat)≤((q.den:Nat):Rat):=Rat.natCast_nonneg
theorem aP8 {x H S:Rat} (c:Nat) (h:x≤H+(c:Rat)*S):x.num*(H.den*S.den:Nat)≤(H.num*S.den+c*S.num*H.den)*x.den:=by
 apply Rat.intCast_le_intCast.1
 simp only[Rat.intCast_mul,Rat.intCast_add,Rat.intCast_natCast,Rat.natCast_mul,aG3]
 have:=Rat.mul_le_mul_of_nonneg_right (c:=((x.den:Nat):Rat)*(((H.den:Nat):Rat)*((S.den:Nat):Rat))) h (Rat.mul_nonneg (sL x) (Rat.mul_nonneg (sL H) (sL S)))
 grind
def Lm (l:List (List UInt8)):Prop:=∀a∈l,chkQ a=0→a.length≤82
theorem Lm.at {l:List (List UInt8)} (h:Lm l) {i:Nat} (hi:i<l.length) (hk:chkQ (l.getD i [])=0):(l.getD i []).length≤82:=h _ (kR hi) hk
theorem bt2 {A B D l h s t N:Nat} (hl:0<l) (hD:1≤D) (hDt:D*t≤100*(s*l*h)) (hB:B*l≤D+A*h) (h1:A*l<N) (h2:B*h<N) (h3:s*t<N):B*(t*t)≤200*(N*N)*h:=by
 have hN:1≤N:=by omega
 by_cases hc:2*(A*h)≤B*l
 ·have e1:B*l≤2*D:=by omega
  have e2:(B*l)*t≤(2*D)*t:=Nat.mul_le_mul_right _ e1
  have e3:(2*D)*t=2*(D*t):=Nat.mul_assoc ..
  have e4:(B*t)*l≤(200*(s*h))*l:=by
   have e5:(B*t)*l=(B*l)*t:=by ac_rfl
   have e6:(200*(s*h))*l=200*(s*l*h):=by ac_rfl
   rw[e5,e6];omega
  have e7:B*t≤200*(s*h):=Nat.le_of_mul_le_mul_right e4 hl
  have e8:(B*t)*t≤(200*(s*h))*t:=Nat.mul_le_mul_right _ e7
  have e9:(200*(s*h))*t=200*((s*t)*h):=by ac_rfl
  have e10:(s*t)*h≤(N*N)*h:=Nat.mul_le_mul_right _ (Nat.le_trans (Nat.le_of_lt h3) (Nat.le_mul_of_pos_right N hN))
  have e11:200*(N*N)*h=200*((N*N)*h):=Nat.mul_assoc ..
  have e12:B*(t*t)=(B*t)*t:=(Nat.mul_assoc ..).symm
  omega
 ·have q:B*l<2*N:=by
   refine Nat.lt_of_not_le fun hq=>?_
   have f1:(2*N)*(2*N)≤(B*l)*(B*l):=Nat.mul_le_mul hq hq
   have f2:(B*l)*(B*l)≤(B*l)*(2*(A*h)):=Nat.mul_le_mul_left _ (by omega)
   have f3:(B*l)*(2*(A*h))=2*((B*h)*(A*l)):=by ac_rfl
   have f4:(B*h)*(A*l)≤N*N:=Nat.mul_le_mul (Nat.le_of_lt h2) (Nat.le_of_lt h1)
   have f5:(2*N)*(2*N)=4*(N*N):=by rw[show 4=2*2 from rfl];ac_rfl
   have f6:1*1≤N*N:=Nat.mul_le_mul hN hN
   omega
  have g1:t≤D*t:=Nat.le_mul_of_pos_left t hD
  have g2:(B*t)*t≤(B*t)*(100*(s*l*h)):=Nat.mul_le_mul_left _ (Nat.le_trans g1 hDt)
  have g3:(B*t)*(100*(s*l*h))=100*(((s*t)*(B*l))*h):=by ac_rfl
  have g4:(s*t)*(B*l)≤N*(2*N):=Nat.mul_le_mul (Nat.le_of_lt h3) (Nat.le_of_lt q)
  have g5:((s*t)*(B*l))*h≤(N*(2*N))*h:=Nat.mul_le_mul_right _ g4
  have g6:(N*(2*N))*h=2*((N*N)*h):=by ac_rfl
  have g7:200*(N*N)*h=200*((N*N)*h):=Nat.mul_assoc ..
  have g8:B*(t*t)=(B*t)*t:=(Nat.mul_assoc ..).symm
  omega
abbrev N82:Nat:=10^82
structure AtH (L H O S:Rat):Prop where
 wL:Wt 82 L
 wH:Wt 82 H
 wS:Wt 82 S
 zL:Sz 82 L
 zH:Sz 82 H
 zO:Sz 82 O
 zS:Sz 82 S
 le:L≤H
 pos:0<S
 few:H≤L+((100:Nat):Rat)*S
section
variable {L H O S:Rat}
theorem uW {q:Rat} (h:0<q):0<q.num:=by
 have:=(Rat.lt_iff 0 q).1 h
 simpa using this
theorem AtH.t2 (h:AtH L H O S) (hlt:L<H):H.num.natAbs*(S.den*S.den)≤200*(N82*N82)*H.den∧L.num.natAbs*(S.den*S.den)≤200*(N82*N82)*L.den:=by
 have hs:=uW h.pos
 have h1:=(Rat.lt_iff L H).1 hlt
 have h2:=aP8 100 h.few
 have hl:=L.den_pos
 have hh:=H.den_pos
 have eX:(H.num*L.den).natAbs=H.num.natAbs*L.den:=by rw[Int.natAbs_mul,Int.natAbs_natCast]
 have eY:(L.num*H.den).natAbs=L.num.natAbs*H.den:=by rw[Int.natAbs_mul,Int.natAbs_natCast]
 obtain ⟨D,hD⟩:∃D:Nat,(D:Int)=H.num*L.den-L.num*H.den:=⟨(H.num*L.den-L.num*H.den).toNat,by omega⟩
 have hD1:1≤D:=by omega
 have hDt:D*S.den≤100*(S.num.natAbs*L.den*H.den):=by
  have es:((S.num.natAbs:Nat):Int)=S.num:=by omega
  have:((D*S.den:Nat):Int)≤((100*(S.num.natAbs*L.den*H.den):Nat):Int):=by
   push_cast
   rw[es,hD]
   push_cast at h2
   grind
  exact Int.ofNat_le.1 this
 have b1:H.num.natAbs*L.den≤D+L.num.natAbs*H.den:=by rw[← eX,← eY];omega
 have b2:L.num.natAbs*H.den≤D+H.num.natAbs*L.den:=by rw[← eX,← eY];omega
 refine ⟨bt2 hl hD1 hDt b1 h.wL h.wH h.wS,bt2 hh hD1 (Nat.le_trans hDt (Nat.le_of_eq (by ac_rfl))) b2 h.wH h.wL h.wS⟩
theorem aPo {P Q S:Rat} (zP:Sz 82 P) (zQ:Sz 82 Q) (zS:Sz 82 S) (hS:0<S):(flI ((P-Q)/S)).natAbs*S.num.natAbs<10^165:=by
 have hs:=uW hS
 have es:((S.num.natAbs:Nat):Int)=S.num:=by omega
 have k1:((flI ((P-Q)/S):Int):Rat)*S≤P-Q:=(xP hS).1 (xO _)
 have k2:P-Q≤((flI ((P-Q)/S)+1:Int):Rat)*S:=by
  have:=Rat.le_of_lt (Rat.not_le.1 fun h=>Rat.not_le.2 (aC3 ((P-Q)/S)) ((xP hS).2 h))
  exact this
 generalize flI ((P-Q)/S)=k at*
 have hP:=P.den_pos
 have hQ:=Q.den_pos
 have nn:(0:Rat)≤((S.den:Nat):Rat)*(((P.den:Nat):Rat)*((Q.den:Nat):Rat)):=Rat.mul_nonneg (sL S) (Rat.mul_nonneg (sL P) (sL Q))
 have i1:k*S.num*(P.den*Q.den:Nat)≤(P.num*Q.den-Q.num*P.den)*S.den:=by
  apply Rat.intCast_le_intCast.1
  simp only[Rat.intCast_mul,Rat.intCast_sub,Rat.intCast_natCast,Rat.natCast_mul,aG3]
  have:=Rat.mul_le_mul_of_nonneg_right k1 nn
  grind
 have i2:(P.num*Q.den-Q.num*P.den)*S.den≤(k+1)*S.num*(P.den*Q.den:Nat):=by
  apply Rat.intCast_le_intCast.1
  rw[Rat.intCast_mul,Rat.intCast_mul ((k+1)*S.num),Rat.intCast_mul (k+1),Rat.intCast_sub]
  simp only[Rat.intCast_mul,Rat.intCast_natCast,Rat.natCast_mul,aG3]
  have:=Rat.mul_le_mul_of_nonneg_right k2 nn
  grind
 have m1:P.num.natAbs*Q.den≤P.num.natAbs*(P.den*Q.den):=Nat.mul_le_mul_left _ (Nat.le_mul_of_pos_left _ hP)
 have m2:Q.num.natAbs*P.den≤Q.num.natAbs*(P.den*Q.den):=Nat.mul_le_mul_left _ (Nat.le_mul_of_pos_right _ hQ)
 have a1:(P.num*Q.den).natAbs=P.num.natAbs*Q.den:=by rw[Int.natAbs_mul,Int.natAbs_natCast]
 have a2:(Q.num*P.den).natAbs=Q.num.natAbs*P.den:=by rw[Int.natAbs_mul,Int.natAbs_natCast]
 have m3:(P.num*Q.den-Q.num*P.den).natAbs≤(P.num.natAbs+Q.num.natAbs)*(P.den*Q.den):=by
  rw[Nat.add_mul];omega
 have m4:((P.num*Q.den-Q.num*P.den)*S.den).natAbs≤((P.num.natAbs+Q.num.natAbs)*S.den)*(P.den*Q.den):=by
  rw[Int.natAbs_mul,Int.natAbs_natCast]
  refine Nat.le_trans (Nat.mul_le_mul_right _ m3) (Nat.le_of_eq (by ac_rfl))
 have hd:0<P.den*Q.den:=Nat.mul_pos hP hQ
 have key:k.natAbs*S.num.natAbs≤(P.num.natAbs+Q.num.natAbs)*S.den+S.num.natAbs:=by
  by_cases hk:0≤k
  ·have f1:(k*S.num*(P.den*Q.den:Nat)).natAbs=(k.natAbs*S.num.natAbs)*(P.den*Q.den):=by rw[Int.natAbs_mul,Int.natAbs_mul,Int.natAbs_natCast]
   have f2:0≤k*S.num*(P.den*Q.den:Nat):=Int.mul_nonneg (Int.mul_nonneg hk (by omega)) (by omega)
   have f3:(k.natAbs*S.num.natAbs)*(P.den*Q.den)≤((P.num.natAbs+Q.num.natAbs)*S.den)*(P.den*Q.den):=by rw[← f1];omega
   have:=Nat.le_of_mul_le_mul_right f3 hd
   omega
  ·have f1:((k+1)*S.num*(P.den*Q.den:Nat)).natAbs=((k+1).natAbs*S.num.natAbs)*(P.den*Q.den):=by rw[Int.natAbs_mul,Int.natAbs_mul,Int.natAbs_natCast]
   have f2:(k+1)*S.num*(P.den*Q.den:Nat)≤0:=Int.mul_nonpos_of_nonpos_of_nonneg (Int.mul_nonpos_of_nonpos_of_nonneg (by omega) (by omega)) (by omega)
   have f3:((k+1).natAbs*S.num.natAbs)*(P.den*Q.den)≤((P.num.natAbs+Q.num.natAbs)*S.den)*(P.den*Q.den):=by rw[← f1];omega
   have f4:=Nat.le_of_mul_le_mul_right f3 hd
   have f5:k.natAbs=(k+1).natAbs+1:=by omega
   rw[f5,Nat.add_mul,Nat.one_mul]
   omega
 have d1:(P.num.natAbs+Q.num.natAbs)*S.den≤(10^82+10^82)*10^82:=Nat.mul_le_mul (Nat.add_le_add (Nat.le_of_lt zP.1) (Nat.le_of_lt zQ.1)) (Nat.le_of_lt zS.2)
 have d2:=zS.1
 have d3:(10^82+10^82)*10^82+10^82<10^165:=by decide
 omega
end
theorem aC2 {q:Rat} {k:Nat} (h:Sz k q) (hk:0<k∧k≤300):flQ (numS q)=(itoa (flI q),0):=by
 unfold flQ
 rw[if_pos (yX h hk),gO];rfl
theorem aIq (n:Int):ofQ n 1=(itoa n,0):=by
 unfold ofQ
 rw[if_neg (by decide)]
 have:Rat.divInt n 1=(n:Rat):=Rat.num_divInt_den (n:Rat)
 rw[this,eT]
section
variable {L H O S:Rat}
noncomputable abbrev atX (L O S:Rat) (i:Nat):Rat:=iN L O S+S*((i:Int):Rat)
theorem aE7 (K:Int) (S:Rat):((K:Rat)*S).num.natAbs≤K.natAbs*S.num.natAbs∧((K:Rat)*S).den≤S.den:=by
 rw[oK]
 obtain ⟨h1,h2⟩:=aAx ((K:Rat).num*S.num) (yY (K:Rat) S)
 rw[Rat.num_intCast,Int.natAbs_mul] at h1
 exact ⟨h1,Nat.le_trans h2 (by rw[Rat.den_intCast,Nat.one_mul];exact Nat.le_refl _)⟩
theorem AtH.f1 (h:AtH L H O S):subQ (numS O) (numS L)=(numS (O-L),0):=vD h.zO h.zL (by decide) (by decide) (by decide)
theorem AtH.f4 (h:AtH L H O S):subQ (numS H) (numS O)=(numS (H-O),0):=vD h.zH h.zO (by decide) (by decide) (by decide)
theorem fN {S:Rat} (h:0<S):S≠0:=fun e=>Rat.lt_irrefl (e ▸ h)
theorem AtH.f2 (h:AtH L H O S):divQ (numS (O-L)) (numS S)=(numS ((O-L)/S),0):=oR (h.zO.sub h.zL) h.zS (by decide) (by decide) (by decide) (fN h.pos)
theorem AtH.f5 (h:AtH L H O S):divQ (numS (H-O)) (numS S)=(numS ((H-O)/S),0):=oR (h.zH.sub h.zO) h.zS (by decide) (by decide) (by decide) (fN h.pos)
theorem AtH.f3 (h:AtH L H O S):flQ (numS ((O-L)/S))=(itoa (bU L O S),0):=aC2 ((h.zO.sub h.zL).div h.zS (fN h.pos)) ⟨by decide,by decide⟩
theorem AtH.f6 (h:AtH L H O S):flQ (numS ((H-O)/S))=(itoa (lV H O S),0):=aC2 ((h.zH.sub h.zO).div h.zS (fN h.pos)) ⟨by decide,by decide⟩
theorem AtH.below (h:AtH L H O S):(bU L O S).natAbs*S.num.natAbs<10^165∧(bU L O S).natAbs<10^165:=by
 have h1:=aPo h.zO h.zL h.zS h.pos
 have hs:=uW h.pos
 exact ⟨h1,Nat.lt_of_le_of_lt (Nat.le_mul_of_pos_right _ (by omega)) h1⟩
theorem AtH.above (h:AtH L H O S):(lV H O S).natAbs<10^165:=by
 have h1:=aPo h.zH h.zO h.zS h.pos
 have hs:=uW h.pos
 exact Nat.lt_of_le_of_lt (Nat.le_mul_of_pos_right _ (by omega)) h1
theorem AtH.f7 (h:AtH L H O S):addQ (itoa (bU L O S)) (itoa (lV H O S))=(itoa (bU L O S+lV H O S),0):=by
 have:=aP6 (p:=((bU L O S:Int):Rat)) (q:=((lV H O S:Int):Rat)) (k:=165) ⟨by decide,by decide⟩ (by rw[Rat.num_intCast,Rat.den_intCast,Nat.mul_one];exact h.below.2) (by rw[Rat.num_intCast,Rat.den_intCast,Nat.mul_one];exact h.above) (by rw[Rat.den_intCast,Rat.den_intCast];decide)
 rwa [← Rat.intCast_add,eT,eT,eT] at this
theorem AtH.f11 (h:AtH L H O S):subQ (numS O) (numS (((bU L O S:Int):Rat)*S))=(numS (iN L O S),0):=by
 obtain ⟨i1,i2⟩:=aE7 (bU L O S) S
 have hb:=h.below.1
 have zO:=h.zO
 have zS:=h.zS
 refine aP7 (k:=249) ⟨by decide,by decide⟩ ?_ ?_ ?_
 ·refine Nat.lt_of_le_of_lt (Nat.mul_le_mul (Nat.le_of_lt zO.1) (Nat.le_trans i2 (Nat.le_of_lt zS.2))) ?_
  decide
 ·refine Nat.lt_of_le_of_lt (Nat.mul_le_mul (Nat.le_trans i1 (Nat.le_of_lt hb)) (Nat.le_of_lt zO.2)) ?_
  decide
 ·refine Nat.lt_of_le_of_lt (Nat.mul_le_mul (Nat.le_of_lt zO.2) (Nat.le_trans i2 (Nat.le_of_lt zS.2))) ?_
  decide
theorem AtH.in (h:AtH L H O S) {i:Nat} (hi:(i:Int)<aC4 L H O S):L≤atX L O S i∧atX L O S i≤H:=by
 refine ⟨?_,(at_in h.pos i).2 hi⟩
 have h1:=(aP5 (L:=L) (O:=O) h.pos).1
 have h2:0≤S*((i:Int):Rat):=Rat.mul_nonneg (Rat.le_of_lt h.pos) (Rat.intCast_nonneg.2 (by omega))
 show L≤iN L O S+ _
 generalize S*((i:Int):Rat)=u at*
 grind
end
structure EvH (L H M:Rat):Prop where
 zL:Sz 82 L
 zH:Sz 82 H
 zM:Sz 82 M
 lt:L<H
 pos:0<M
section
variable {L H M:Rat}
noncomputable abbrev evC (L H M:Rat):Int:=clI ((H-L)/M)
theorem EvH.e1 (h:EvH L H M):subQ (numS H) (numS L)=(numS (H-L),0):=vD h.zH h.zL (by decide) (by decide) (by decide)
theorem EvH.e2 (h:EvH L H M):divQ (numS (H-L)) (numS M)=(numS ((H-L)/M),0):=oR (h.zH.sub h.zL) h.zM (by decide) (by decide) (by decide) (fN h.pos)
theorem EvH.sq (h:EvH L H M):Sz 247 ((H-L)/M):=(h.zH.sub h.zL).div h.zM (fN h.pos)
theorem EvH.e3 (h:EvH L H M):flQ (numS ((H-L)/M))=(itoa (flI ((H-L)/M)),0):=aC2 h.sq ⟨by decide,by decide⟩
theorem EvH.cpos (h:EvH L H M):0<evC L H M:=aP4 h.lt h.pos
theorem sz4 {n:Int} (h0:0≤n) (h:n≤5000):Sz 4 (n:Rat):=aDh (by have:(10:Nat)^4=10000:=(by decide);omega) (by decide)
theorem EvH.st (h:EvH L H M) (hc:evC L H M≤4095):Sz 169 (nM L H M):=by
 have h0:=h.cpos
 have h1:0<clI ((H-L)/M):=h0
 have h2:clI ((H-L)/M)≤4095:=hc
 refine (h.zH.sub h.zL).div (sz4 (by omega) (by omega)) fun e=>?_
 have:=Rat.intCast_eq_zero_iff.1 e
 omega
theorem EvH.e4 (h:EvH L H M) (hc:evC L H M≤4095):divQ (numS (H-L)) (itoa (evC L H M))=(numS (nM L H M),0):=by
 have h0:=h.cpos
 have:=oR (h.zH.sub h.zL) (sz4 (n:=evC L H M) (by omega) (by omega)) (by decide) (by decide) (by decide) (fun e=>by
  have:=Rat.intCast_eq_zero_iff.1 e
  omega)
 rwa [eT] at this
theorem EvH.e5 (h:EvH L H M) (hc:evC L H M≤4095) {k:Nat} (hk:k≤5000):mulQ (numS (nM L H M)) (itoa k)=(numS (nM L H M*((k:Int):Rat)),0):=by
 have:=aDg (h.st hc) (sz4 (n:=(k:Int)) (by omega) (by omega)) (by decide) (by decide) (by decide)
 rwa [eT] at this
theorem EvH.e6 (h:EvH L H M) (hc:evC L H M≤4095) {k:Nat} (hk:k≤5000):addQ (numS L) (numS (nM L H M*((k:Int):Rat)))=(numS (L+nM L H M*((k:Int):Rat)),0):=
 aO8 h.zL ((h.st hc).mul (sz4 (n:=(k:Int)) (by omega) (by omega))) (by decide) (by decide) (by decide)
theorem aP2 (q:Rat):flI (-q)= -clI q:=by
 apply Int.le_antisymm
 ·have h1:=xO (-q)
  have h2:q≤((-flI (-q):Int):Rat):=by rw[Rat.intCast_neg];exact Rat.le_neg_iff.1 (by grind)
  have h3:=aP3 q
  have h4:((clI q-1:Int):Rat)<((-flI (-q):Int):Rat):=Rat.not_le.1 fun h=>Rat.not_le.2 h3 (Rat.le_trans h2 h)
  have:=Rat.intCast_lt_intCast.1 h4
  omega
 ·rw[← aMb,Rat.intCast_neg]
  exact Rat.neg_le_neg (aL9 q)
theorem EvH.r1 (h:EvH L H M):subQ (numS L) (numS H)=(numS (L-H),0):=vD h.zL h.zH (by decide) (by decide) (by decide)
theorem EvH.r2 (h:EvH L H M):divQ (numS (L-H)) (numS M)=(numS ((L-H)/M),0):=oR (h.zL.sub h.zH) h.zM (by decide) (by decide) (by decide) (fN h.pos)
theorem neg_q:(L-H)/M= -((H-L)/M):=by
 rw[Rat.div_def,Rat.div_def,← Rat.neg_mul]
 congr 1
 grind
theorem EvH.sq' (h:EvH L H M):Sz 247 ((L-H)/M):=(h.zL.sub h.zH).div h.zM (fN h.pos)
theorem EvH.r3 (h:EvH L H M):flQ (numS ((L-H)/M))=(itoa (-evC L H M),0):=by
 rw[aC2 h.sq' ⟨by decide,by decide⟩,neg_q,aP2]
theorem EvH.r4 (h:EvH L H M) (hc:evC L H M≤4095):divQ (numS (L-H)) (itoa (-evC L H M))=(numS (nM L H M),0):=by
 have h0:=h.cpos
 have z:Sz 4 ((-evC L H M:Int):Rat):=aDh (by have:(10:Nat)^4=10000:=(by decide);omega) (by decide)
 have:=oR (h.zL.sub h.zH) z (by decide) (by decide) (by decide) (fun e=>by
  have:=Rat.intCast_eq_zero_iff.1 e
  omega)
 rw[eT] at this
 rw[this]
 unfold nM
 have hc0:((evC L H M:Int):Rat)≠0:=fun e=>by
  have:=Rat.intCast_eq_zero_iff.1 e
  omega
 have e1:(H-L)/((evC L H M:Int):Rat)*((evC L H M:Int):Rat)=H-L:=Rat.div_mul_cancel hc0
 have hc1:((-evC L H M:Int):Rat)≠0:=fun e=>by
  have:=Rat.intCast_eq_zero_iff.1 e
  omega
 have e2:(L-H)/((-evC L H M:Int):Rat)*((-evC L H M:Int):Rat)=L-H:=Rat.div_mul_cancel hc1
 rw[Rat.intCast_neg] at e2 ⊢
 have e3:((L-H) / -((evC L H M:Int):Rat)-(H-L)/((evC L H M:Int):Rat))*((evC L H M:Int):Rat)=0:=by grind
 rcases Rat.mul_eq_zero.1 e3 with e | e
 ·congr 2
  show _=(H-L)/((evC L H M:Int):Rat)
  grind
 ·exact absurd e hc0
end
def grS1 (a:List UInt8):Prop:=aJj a∨(82<a.length∧chkQ a=0)
def grtS (l:List (List UInt8)):Prop:=(∃a∈l,grS1 a)∨16<l.length
noncomputable instance (l:List (List UInt8)):Decidable (grtS l):=Classical.propDecidable _
theorem Lm.sub {l m:List (List UInt8)} (h:Lm l) (hs:∀a∈m,a∈l):Lm m:=fun a ha=>h a (hs a ha)
def aL8 (s:List UInt8):Prop:=20<s.length∨chkQ s≠0
noncomputable instance (s:List UInt8):Decidable (aL8 s):=Classical.propDecidable _
noncomputable instance:DecidablePred aL8:=fun s=>Classical.propDecidable _
def shS (l:List (List UInt8)):Prop:=∀a∈l,a.length≤20∧chkQ a=0
noncomputable instance (l:List (List UInt8)):Decidable (shS l):=Classical.propDecidable _
def fineS (l:List (List UInt8)):Prop:=(l.length≤16∧shS l)∧ckS l=0
noncomputable instance (l:List (List UInt8)):Decidable (fineS l):=Classical.propDecidable _
def mnP (q:List UInt8):Prop:=(cmpQ q [53,48,48,48]).2=0∧0<(cmpQ q [53,48,48,48]).1
noncomputable instance (q:List UInt8):Decidable (mnP q):=Classical.propDecidable _
def fwP (lo hi s:List UInt8):Prop:=(subQ hi lo).2≠0∨(divQ (subQ hi lo).1 s).2≠0∨(cmpQ (divQ (subQ hi lo).1 s).1 [49,48,48]).2≠0∨(cmpQ (divQ (subQ hi lo).1 s).1 [49,48,48]).1≤0∨mnP (divQ (subQ hi lo).1 s).1
noncomputable instance (lo hi s:List UInt8):Decidable (fwP lo hi s):=Classical.propDecidable _
theorem itoaN (n:Nat):itoa (n:Int)=decDigits n:=by
 unfold itoa
 rw[if_neg (by omega),Int.toNat_natCast]
theorem aOe (n:Nat):numS ((n:Int):Rat)=decDigits n:=by rw[eT,itoaN]
theorem n4:numS 4= [52]:=(aOe 4).trans (cI (by decide))
abbrev Gp:=Int × Int
abbrev Bar:=Int × Int × Int × Int × Int × List Gp
abbrev tG:Ty:=.pair (.int .i64) (.int .i64)
abbrev tB:Ty:=.pair (.int .i64) (.pair (.int .i64) (.pair (.int .i64) (.pair (.int .i64) (.pair (.int .i64) (.slice tG)))))
def outR (n a b:Int):Bool:=decide (n<a∨b<n)
def gap1 (len:Int) (gs:List Gp) (i:Nat):Int:=if (gs.getD i (0,0)).1<0∨len<(gs.getD i (0,0)).2∨(gs.getD i (0,0)).2≤(gs.getD i (0,0)).1 then 2 else if 0<i∧(gs.getD i (0,0)).1≤(gs.getD (i-1) (0,0)).2 then 10 else 0
def pI (len:Int) (gs:List Gp):Nat→Nat→Int
 | 0,_=>0
 | n+1,i=>if gap1 len gs i≠0 then gap1 len gs i else pI len gs n (i+1)
def nN (len:Int) (gs:List Gp):Int:=pI len gs gs.length 0
theorem oI {len:Int} {gs:List Gp} {i:Nat} (hi:i<gs.length) (h:gap1 len gs i≠0):pI len gs (gs.length-i) i=gap1 len gs i:=by
 obtain ⟨n,e⟩:∃n,gs.length-i=n+1:=⟨gs.length-i-1,by omega⟩
 rw[e];exact if_pos h
theorem aE9 {len:Int} {gs:List Gp} {i:Nat} (hi:i<gs.length) (h:gap1 len gs i=0):pI len gs (gs.length-i) i=pI len gs (gs.length-(i+1)) (i+1):=by
 obtain ⟨n,e⟩:∃n,gs.length-i=n+1:=⟨gs.length-i-1,by omega⟩
 rw[e,show gs.length-(i+1)=n by omega];exact if_neg fun h'=>h' h
theorem aAy {len:Int} {gs:List Gp}:pI len gs (gs.length-gs.length) gs.length=0:=by rw[Nat.sub_self];rfl
theorem xQ {len:Int} {gs:List Gp}:∀(n i:Nat),i+n≤gs.length→pI len gs n i=0→∀j,i≤j→j<i+n→gap1 len gs j=0
 | 0,i,_,_,j,h1,h2=>by omega
 | n+1,i,hl,h,j,h1,h2=>by
  unfold pI at h
  split at h
  ·rename_i h3;exact absurd h h3
  ·rename_i h3
   by_cases e:j=i
   ·subst e;exact Classical.not_not.1 h3
   ·exact xQ n (i+1) (by omega) h j (by omega) (by omega)
def barE (b:Bar):Int:=
 if outR b.1 1 1000 || outR b.2.1 1 1000 || outR b.2.2.1 1 65536 || outR b.2.2.2.1 0 4096 || outR b.2.2.2.2.1 0 1073741824 then 2
 else if 16<b.2.2.2.2.2.length then 4 else nN b.2.2.1 b.2.2.2.2.2
theorem lY {b:Bar} (h:barE b=0):(1≤b.2.2.1∧b.2.2.1≤65536)∧(0≤b.2.2.2.2.1∧b.2.2.2.2.1≤1073741824)∧b.2.2.2.2.2.length≤16∧∀j,j<b.2.2.2.2.2.length→gap1 b.2.2.1 b.2.2.2.2.2 j=0:=by
 unfold barE at h
 split at h
 ·exact absurd h (by decide)
 rename_i h1
 split at h
 ·exact absurd h (by decide)
 rename_i h2
 simp only[Bool.or_eq_true,outR,decide_eq_true_eq,not_or] at h1
 exact ⟨⟨by omega,by omega⟩,⟨by omega,by omega⟩,by omega,fun j hj=>xQ _ 0 (by omega) h j (Nat.zero_le _) (by omega)⟩
def jT (l:List Bar):Nat→Nat→Int
 | 0,_=>0
 | n+1,i=>if barE (l.getD i (0,0,0,0,0,[]))≠0 then barE (l.getD i (0,0,0,0,0,[])) else jT l n (i+1)
def kS (l:List Bar):Int:=if 64<l.length then 4 else jT l l.length 0
theorem aAz {l:List Bar} {i:Nat} (hi:i<l.length) (h:barE (l.getD i (0,0,0,0,0,[]))≠0):jT l (l.length-i) i=barE (l.getD i (0,0,0,0,0,[])):=by
 obtain ⟨n,e⟩:∃n,l.length-i=n+1:=⟨l.length-i-1,by omega⟩
 rw[e];exact if_pos h
theorem aFa {l:List Bar} {i:Nat} (hi:i<l.length) (h:barE (l.getD i (0,0,0,0,0,[]))=0):jT l (l.length-i) i=jT l (l.length-(i+1)) (i+1):=by
 obtain ⟨n,e⟩:∃n,l.length-i=n+1:=⟨l.length-i-1,by omega⟩
 rw[e,show l.length-(i+1)=n by omega];exact if_neg fun h'=>h' h
theorem aA0 {l:List Bar}:jT l (l.length-l.length) l.length=0:=by rw[Nat.sub_self];rfl
theorem xR {l:List Bar}:∀(n i:Nat),i+n≤l.length→jT l n i=0→∀j,i≤j→j<i+n→barE (l.getD j (0,0,0,0,0,[]))=0
 | 0,i,_,_,j,h1,h2=>by omega
 | n+1,i,hl,h,j,h1,h2=>by
  unfold jT at h
  split at h
  ·rename_i h3;exact absurd h h3
  ·rename_i h3
   by_cases e:j=i
   ·subst e;exact Classical.not_not.1 h3
   ·exact xR n (i+1) (by omega) h j (by omega) (by omega)
theorem aFb {l:List Bar} (h:kS l=0):l.length≤64∧∀j,j<l.length→barE (l.getD j (0,0,0,0,0,[]))=0:=by
 unfold kS at h
 split at h
 ·exact absurd h (by decide)
 ·exact ⟨by omega,fun j hj=>xR _ 0 (by omega) h j (Nat.zero_le _) (by omega)⟩
def aN (len:Int):Int→List Gp→List Gp
 | f,[]=>if f<len then [(f,len)] else []
 | f,g::r=>if f<g.1 then (f,g.1)::aN len g.2 r else aN len g.2 r
def endG (gs:List Gp) (i:Nat):Int:=if i=0 then 0 else (gs.getD (i-1) (0,0)).2
def cZ (gs:List Gp):Nat→List Gp
 | 0=>[]
 | i+1=>if endG gs i<(gs.getD i (0,0)).1 then cZ gs i++ [(endG gs i,(gs.getD i (0,0)).1)] else cZ gs i
theorem aG4 (len f:Int) (g:Gp) (r:List Gp):aN len f (g::r)=if f<g.1 then (f,g.1)::aN len g.2 r else aN len g.2 r:=rfl
theorem dI (gs:List Gp) (i:Nat):cZ gs (i+1)=if endG gs i<(gs.getD i (0,0)).1 then cZ gs i++ [(endG gs i,(gs.getD i (0,0)).1)] else cZ gs i:=rfl
theorem uC (len:Int) (gs:List Gp):∀(n i:Nat),i+n=gs.length→aN len 0 gs=cZ gs i++aN len (endG gs i) (gs.drop i)→aN len 0 gs=cZ gs gs.length++aN len (endG gs gs.length) []
 | 0,i,hi,h=>by
  have e:i=gs.length:=by omega
  subst e
  rw[List.drop_eq_nil_of_le (Nat.le_refl _)] at h
  exact h
 | n+1,i,hi,h=>by
  refine uC len gs n (i+1) (by omega) ?_
  rw[aOd (0,0) (show i<gs.length by omega)] at h
  rw[h]
  have e:endG gs (i+1)=(gs.getD i (0,0)).2:=by unfold endG;rw[if_neg (by omega)];rfl
  rw[aG4,dI,e]
  by_cases hc:endG gs i<(gs.getD i (0,0)).1
  ·rw[if_pos hc,if_pos hc,List.append_assoc];rfl
  ·rw[if_neg hc,if_neg hc]
theorem aA1 (len:Int) (gs:List Gp):aN len 0 gs=if endG gs gs.length<len then cZ gs gs.length++ [(endG gs gs.length,len)] else cZ gs gs.length:=by
 have:=uC len gs gs.length 0 (by omega) (by rw[List.drop_zero];rfl)
 rw[this]
 unfold aN
 split
 ·rfl
 ·rw[List.append_nil]
theorem aA2 (gs:List Gp):∀i,(cZ gs i).length≤i
 | 0=>Nat.le_refl _
 | i+1=>by
  have:=aA2 gs i
  unfold cZ
  split
  ·rw[List.length_append];simp;omega
  ·omega
def capS (k:Int):List Gp→Int
 | []=>0
 | g::r=>(g.2-g.1+k)+capS k r
theorem aMc (k:Int) (l m:List Gp):capS k (l++m)=capS k l+capS k m:=by
 induction l with
 | nil=>simp[capS]
 | cons g r ih=>show (g.2-g.1+k)+capS k (r++m)=(g.2-g.1+k)+capS k r+capS k m;rw[ih];omega
def capT (k:Int) (l:List Gp) (i:Nat):Int:=capS k (l.take i)
theorem sM (k:Int) {l:List Gp} {i:Nat} (h:i<l.length):capT k l (i+1)=capT k l i+((l.getD i (0,0)).2-(l.getD i (0,0)).1+k):=by
 unfold capT
 rw[List.take_succ_eq_append_getElem h,aMc]
 simp[capS,List.getD_eq_getElem?_getD,h]
def rG (b:Bar):List Gp:=aN b.2.2.1 0 b.2.2.2.2.2
def capB (k:Int) (b:Bar):Int:=capS k (rG b)
def aU (k:Int) (l:List Bar):Nat→Int × Int
 | 0=>(0,0)
 | i+1=>if 0<capB k (l.getD i (0,0,0,0,0,[]))∧((aU k l i).2=0∨(l.getD i (0,0,0,0,0,[])).2.2.2.2.1*(aU k l i).2<(aU k l i).1*capB k (l.getD i (0,0,0,0,0,[]))) then ((l.getD i (0,0,0,0,0,[])).2.2.2.2.1,capB k (l.getD i (0,0,0,0,0,[]))) else aU k l i
theorem aFc {len:Int}:∀(gs:List Gp) (f:Int),0≤f→(∀g∈gs,0≤g.1∧g.1≤g.2∧g.2≤len)→∀g∈aN len f gs,0≤g.1∧g.1≤g.2∧g.2≤len
 | [],f,hf,_,g,hg=>by
  unfold aN at hg
  split at hg
  ·simp at hg;subst hg;dsimp only;omega
  ·simp at hg
 | x::r,f,hf,h,g,hg=>by
  have hx:=h x (List.mem_cons_self ..)
  have ih:=aFc r x.2 (by omega) (fun y hy=>h y (List.mem_cons_of_mem _ hy)) g
  unfold aN at hg
  split at hg
  ·rcases List.mem_cons.1 hg with rfl | hg
   ·dsimp only;omega
   ·exact ih hg
  ·exact ih hg
theorem lZ {k:Int} (hk:0≤k∧k≤1000) {l:List Gp} (h:∀g∈l,0≤g.1∧g.1≤g.2∧g.2≤65536):∀i:Nat,0≤capT k l i∧capT k l i≤70000*i
 | 0=>⟨Int.le_refl _,Int.le_refl _⟩
 | i+1=>by
  have ih:=lZ hk h i
  by_cases hi:i<l.length
  ·have hm:=h _ (kR (d:=(0,0)) hi)
   rw[sM k hi];omega
  ·have e:capT k l (i+1)=capT k l i:=by unfold capT;rw[List.take_of_length_le (by omega),List.take_of_length_le (by omega)]
   rw[e];omega
theorem sN {len:Int}:∀(gs:List Gp) (f:Int),(aN len f gs).length≤gs.length+1
 | [],f=>by unfold aN;split<;>simp
 | x::r,f=>by
  have ih:=sN (len:=len) r x.2
  unfold aN
  split<;>simp<;>omega
theorem aC5 {b:Bar} (h:barE b=0):∀g∈rG b,0≤g.1∧g.1≤g.2∧g.2≤65536:=by
 obtain ⟨h1,_,h2,h3⟩:=lY h
 intro g hg
 have:=aFc b.2.2.2.2.2 0 (Int.le_refl _) (fun x hx=>by
  obtain ⟨j,hj,rfl⟩:=List.getElem_of_mem hx
  have:=h3 j hj
  unfold gap1 at this
  have e:b.2.2.2.2.2.getD j (0,0)=b.2.2.2.2.2[j]:=by simp[List.getD_eq_getElem?_getD,hj]
  rw[e] at this
  split at this
  ·exact absurd this (by decide)
  ·omega) g hg
 omega
theorem mA {k:Int} {b:Bar} (hk:0≤k∧k≤1000) (h:barE b=0):0≤capB k b∧capB k b≤1190000∧(rG b).length≤17:=by
 have h1:=lZ hk (aC5 h) (rG b).length
 have h2:=sN (len:=b.2.2.1) b.2.2.2.2.2 0
 have h3:=(lY h).2.2.1
 have e:capT k (rG b) (rG b).length=capB k b:=by unfold capT;rw[List.take_length];rfl
 rw[e] at h1
 have h4:(rG b).length≤17:=by unfold rG;omega
 exact ⟨h1.1,by omega,h4⟩
theorem qB {P:Program} {c c':Con} (hc:aG P c) (hf:c'.f=c.f) (hfr:c'.fresh=c.fresh) (hl:(c'.lin,c'.own,c'.hp)=(none,none,none)) (h:∀args K,c'.cl args K→c.cl args K):aG P c':=
 qU hl (by rw[hf];exact hc.1) fun args K h'=>by
  have:=hc.2.1 args K (h args K h')
  rwa [hf,hfr]
noncomputable def c19n:Con:=aJ 98 true fun args K=>match args with
 | [.str a,.str b]=>Alt (Has (fun r=>mulQ a b=(r,0)) fun r=>K (.tup [S r,I 0])) (K (.tup [S (mulQ a b).1,I (mulQ a b).2]))
 | _=>False
theorem k19n:aG Tryz.prog c19n:=qB k19 rfl rfl rfl fun args K h=>by
 simp only[c19n] at h
 split at h
 ·rcases h.or with h | h
  ·obtain ⟨r,e,h⟩:=h.ex
   show K _
   rw[e];exact h
  ·exact h
 ·exact h.elim
noncomputable def c41n:Con:=aJ 95 true fun args K=>match args with
 | [.str a,.str b]=>Alt (Has (fun r=>mulQ a b=(r,0)) fun r=>K (.tup [S r,I 0])) (K (.tup [S (mulQ a b).1,I (mulQ a b).2]))
 | _=>False
theorem k41n:aG Tryz.prog c41n:=qB k41 rfl rfl rfl fun args K h=>by
 simp only[c41n] at h
 split at h
 ·rcases h.or with h | h
  ·obtain ⟨r,e,h⟩:=h.ex
   show K _
   rw[e];exact h
  ·exact h
 ·exact h.elim
noncomputable def c38n:Con:=aJ 56 true fun args K=>match args with
 | [.str a,.str b]=>Alt (Has (fun r=>cmpQ a b=(r,0)) fun r=>K (.tup [I r,I 0])) (K (.tup [I (cmpQ a b).1,I (cmpQ a b).2]))
 | _=>False
theorem k38n:aG Tryz.prog c38n:=qB k38 rfl rfl rfl fun args K h=>by
 simp only[c38n] at h
 split at h
 ·rcases h.or with h | h
  ·obtain ⟨r,e,h⟩:=h.ex
   show K _
   rw[e];exact h
  ·exact h
 ·exact h.elim
theorem ixAt {n:Int} {C:Nat→Prop} (j:Nat) (e:n=j) (h:C j):Ix n C:=⟨fun i h'=>by
 have:j=i:=by omega
 subst this;exact h⟩
def CmpAll (a b:List (List UInt8)):Prop:=∀x∈a,∀y∈b,(cmpQ x y).2=0
theorem CmpAll.drop {a b:List (List UInt8)} (h:CmpAll a b) (i j:Nat):CmpAll (a.drop i) (b.drop j):=fun x hx y hy=>h x (List.mem_of_mem_drop hx) y (List.mem_of_mem_drop hy)
theorem b2208 (n a b:Int):body Tryz.prog [] {} true Tryz.f208 [I n,I a,I b] (.bl (outR n a b=false) inferInstance):=by
 unfold outR
 by_cases h:a≤n
 ·(repeat'((conv=>whnf);first|refine Zy ?_|fail))
  (conv=>whnf)
  simp only[decide_eq_false_iff_not]
  omega
 ·(repeat'((conv=>whnf);first|refine Zm ?_|fail))
  (conv=>whnf)
  simp only[decide_eq_false_iff_not]
  omega
def aNm:Con:=aJ 208 true fun args K=>match args with | [.val (.int .i64 n),.val (.int .i64 a),.val (.int .i64 b)]=>K (.bl (outR n a b=false) inferInstance) | _=>False
theorem k2208:aG Tryz.prog aNm:=by
 refine kO Tryz.func208 fun args K h=>?_
 simp only[aNm] at h;split at h
 ·rename_i n a b;exact ⟨_,h,triB Tryz.func208 Tryz.ntmps208 (by simp) (b2208 n a b)⟩
 ·exact h.elim
theorem b2215 (n a b:Int):body Tryz.prog [] {} true Tryz.f215 [I n,I a,I b] (.bl (outR n a b=true) inferInstance):=by
 unfold outR
 by_cases h:n<a
 ·(repeat'((conv=>whnf);first|refine Zy ?_|fail))
  (conv=>whnf)
  simp only[decide_eq_true_eq]
  omega
 ·(repeat'((conv=>whnf);first|refine Zm ?_|fail))
  (conv=>whnf)
  simp only[decide_eq_true_eq]
  omega
def aNn:Con:=aJ 215 true fun args K=>match args with | [.val (.int .i64 n),.val (.int .i64 a),.val (.int .i64 b)]=>K (.bl (outR n a b=true) inferInstance) | _=>False
theorem k2215:aG Tryz.prog aNn:=by
 refine kO Tryz.func215 fun args K h=>?_
 simp only[aNn] at h;split at h
 ·rename_i n a b;exact ⟨_,h,triB Tryz.func215 Tryz.ntmps215 (by simp) (b2215 n a b)⟩
 ·exact h.elim
theorem b2169 (w d len cnt cost:Int) (gs:List Gp):body Tryz.prog [aNm] { asks:=[(0,[])] } true Tryz.f169 [.agg [I w,I d,I len,I cnt,I cost,.seq tG gs]] (I (barE (w,d,len,cnt,cost,gs))):=by
 have e0:barE (w,d,len,cnt,cost,gs)=if outR w 1 1000 || outR d 1 1000 || outR len 1 65536 || outR cnt 0 4096 || outR cost 0 1073741824 then 2 else if 16<gs.length then 4 else nN len gs:=rfl
 rw[e0]
 cases h1:outR w 1 1000 with
 | true=>
  have hn:¬outR w 1 1000=false:=by rw[h1];decide
  (repeat'((conv=>whnf);first|refine Zy ?_|fail))
  (conv=>whnf)
  (repeat' first|rfl|apply And.intro)
 | false=>
 cases h2:outR d 1 1000 with
 | true=>
  have hn:¬outR d 1 1000=false:=by rw[h2];decide
  (repeat'((conv=>whnf);first|refine Zy ?_|refine Zm ?_|fail))
  (conv=>whnf)
  (repeat' first|rfl|apply And.intro)
 | false=>
 cases h3:outR len 1 65536 with
 | true=>
  have hn:¬outR len 1 65536=false:=by rw[h3];decide
  (repeat'((conv=>whnf);first|refine Zy ?_|refine Zm ?_|fail))
  (conv=>whnf)
  (repeat' first|rfl|apply And.intro)
 | false=>
 cases h4:outR cnt 0 4096 with
 | true=>
  have hn:¬outR cnt 0 4096=false:=by rw[h4];decide
  (repeat'((conv=>whnf);first|refine Zy ?_|refine Zm ?_|fail))
  (conv=>whnf)
  (repeat' first|rfl|apply And.intro)
 | false=>
 cases h5:outR cost 0 1073741824 with
 | true=>
  have hn:¬outR cost 0 1073741824=false:=by rw[h5];decide
  (repeat'((conv=>whnf);first|refine Zy ?_|refine Zm ?_|fail))
  (conv=>whnf)
  (repeat' first|rfl|apply And.intro)
 | false=>
 by_cases h6:16<gs.length
 ·have e:(if (false || false || false || false || false)=true then (2:Int) else if 16<gs.length then 4 else nN len gs)=4:=by rw[if_neg (by decide),if_pos h6]
  rw[e]
  (repeat'((conv=>whnf);first|refine Zg fun _=>?_|refine Zy ?_|refine Zm ?_|fail))
  (conv=>whnf)
  (repeat' first|rfl|apply And.intro)
 ·have e:(if (false || false || false || false || false)=true then (2:Int) else if 16<gs.length then 4 else nN len gs)=nN len gs:=by rw[if_neg (by decide),if_neg h6]
  rw[e]
  (repeat'((conv=>whnf);first|refine Zg fun _=>?_|refine Zm ?_|fail))
  refine Ask.mk ⟨{ X:=Nat,pre:=fun i=>i≤gs.length∧pI len gs (gs.length-i) i=nN len gs,mod:=fun i _=>[(40,I i)],heap:=fun i H=>H,mu:=fun i=>gs.length-i },rfl,?_⟩
  (repeat'((conv=>whnf);first|refine Zn ?_|fail))
  refine ⟨⟨(0:Nat),⟨Nat.zero_le _,rfl⟩,?_⟩,fun (i:Nat) hi=>?_⟩
  ·(repeat' first|exact trivial|rfl|apply And.intro)
  obtain ⟨hi,hg⟩:=hi
  by_cases hlt:i<gs.length
  ·by_cases hg1:(gs.getD i (0,0)).1<0∨len<(gs.getD i (0,0)).2∨(gs.getD i (0,0)).2≤(gs.getD i (0,0)).1
   ·have e2:gap1 len gs i=2:=if_pos hg1
    rw[← hg,oI hlt (by rw[e2];decide),e2]
    (repeat'((conv=>whnf);first|refine Zg fun _=>?_|refine Zn ?_|refine Zj ?_|refine Zy ?_|refine Zr (fun _=>?_) fun _=>?_|fail))
    all_goals first
     | omega
     | ((conv=>whnf);(repeat' first|rfl|apply And.intro))
   ·by_cases hg2:0<i∧(gs.getD i (0,0)).1≤(gs.getD (i-1) (0,0)).2
    ·have e2:gap1 len gs i=10:=(if_neg hg1).trans (if_pos hg2)
     rw[← hg,oI hlt (by rw[e2];decide),e2]
     (repeat'((conv=>whnf);first|refine Zg fun _=>?_|refine Zn ?_|refine Zj ?_|(apply Pin.mk;apply Exists.intro)|apply Pinned.mk rfl rfl|refine Zy ?_|refine Zm ?_|fail))
     refine ixAt (i-1) (by omega) ?_
     (repeat'((conv=>whnf);first|refine Zg fun _=>?_|(apply Pin.mk;apply Exists.intro)|apply Pinned.mk rfl rfl|refine Zy ?_|fail))
     (conv=>whnf)
     (repeat' first|rfl|apply And.intro)
    ·have e2:gap1 len gs i=0:=(if_neg hg1).trans (if_neg hg2)
     have st:=(aE9 hlt e2).symm.trans hg
     by_cases h0:0<i
     ·(repeat'((conv=>whnf);first|refine Zg fun _=>?_|refine Zn ?_|refine Zj ?_|(apply Pin.mk;apply Exists.intro)|apply Pinned.mk rfl rfl|refine Zy ?_|refine Zm ?_|fail))
      refine ixAt (i-1) (by omega) ?_
      (repeat'((conv=>whnf);first|refine Zg fun _=>?_|refine Zn ?_|(apply Pin.mk;apply Exists.intro)|apply Pinned.mk rfl rfl|refine Zm ?_|fail))
      refine ⟨(i+1:Nat),by show gs.length-(i+1)<gs.length-i;omega,⟨hlt,st⟩,?_⟩
      (repeat' first|exact trivial|rfl|apply And.intro)
     ·(repeat'((conv=>whnf);first|refine Zg fun _=>?_|refine Zn ?_|refine Zj ?_|(apply Pin.mk;apply Exists.intro)|apply Pinned.mk rfl rfl|refine Zy ?_|refine Zm ?_|fail))
      refine ⟨(i+1:Nat),by show gs.length-(i+1)<gs.length-i;omega,⟨hlt,st⟩,?_⟩
      (repeat' first|exact trivial|rfl|apply And.intro)
  ·have e:i=gs.length:=by omega
   subst e
   rw[← hg,aAy]
   (repeat'((conv=>whnf);first|refine Zm ?_|fail))
   (conv=>whnf)
   (repeat' first|rfl|apply And.intro)
def aJn:Con:=aJ 169 true fun args K=>match args with | [.agg [.val (.int .i64 w),.val (.int .i64 d),.val (.int .i64 len),.val (.int .i64 cnt),.val (.int .i64 cost),.seq (.pair (.int .i64) (.int .i64)) gs]]=>K (I (barE (w,d,len,cnt,cost,gs))) | _=>False
theorem aPy:aG Tryz.prog aJn:=by
 refine kO Tryz.func169 fun args K h=>?_
 simp only[aJn] at h;split at h
 ·rename_i w d len cnt cost gs;exact ⟨_,h,triB Tryz.func169 Tryz.ntmps169 (by simp[k2208]) (b2169 w d len cnt cost gs)⟩
 ·exact h.elim
theorem b2113 (l:List Bar):body Tryz.prog [aJn] { asks:=[(0,[])] } true Tryz.f113 [.seq tB l] (I (kS l)):=by
 by_cases h6:64<l.length
 ·rw[show kS l=4 from if_pos h6]
  (repeat'((conv=>whnf);first|refine Zg fun _=>?_|refine Zy ?_|fail))
  (conv=>whnf)
  (repeat' first|rfl|apply And.intro)
 ·rw[show kS l=jT l l.length 0 from if_neg h6]
  (repeat'((conv=>whnf);first|refine Zg fun _=>?_|refine Zm ?_|fail))
  refine Ask.mk ⟨{ X:=Nat,pre:=fun i=>i≤l.length∧jT l (l.length-i) i=jT l l.length 0,mod:=fun i _=>[(11,I i)],heap:=fun i H=>H,mu:=fun i=>l.length-i },rfl,?_⟩
  (repeat'((conv=>whnf);first|refine Zn ?_|fail))
  refine ⟨⟨(0:Nat),⟨Nat.zero_le _,rfl⟩,?_⟩,fun (i:Nat) hi=>?_⟩
  ·(repeat' first|exact trivial|rfl|apply And.intro)
  obtain ⟨hi,hg⟩:=hi
  by_cases hlt:i<l.length
  ·by_cases hb:barE (l.getD i (0,0,0,0,0,[]))=0
   ·have st:=(aFa hlt hb).symm.trans hg
    (repeat'((conv=>whnf);first|refine Zg fun _=>?_|refine Zn ?_|refine Zj ?_|refine Zl ?_|refine Zy ?_|refine Zm ?_|fail))
    refine ⟨(i+1:Nat),by show l.length-(i+1)<l.length-i;omega,⟨hlt,st⟩,?_⟩
    (repeat' first|exact trivial|rfl|apply And.intro)
   ·rw[← hg,aAz hlt hb]
    (repeat'((conv=>whnf);first|refine Zg fun _=>?_|refine Zn ?_|refine Zj ?_|refine Zl ?_|refine Zy ?_|fail))
    (conv=>whnf)
    (repeat' first|rfl|apply And.intro)
  ·have e:i=l.length:=by omega
   subst e
   rw[← hg,aA0]
   (repeat'((conv=>whnf);first|refine Zm ?_|fail))
   (conv=>whnf)
   (repeat' first|rfl|apply And.intro)
def aNo:Con:=aJ 113 true fun args K=>match args with | [.seq (.pair (.int .i64) (.pair (.int .i64) (.pair (.int .i64) (.pair (.int .i64) (.pair (.int .i64) (.slice (.pair (.int .i64) (.int .i64)))))))) l]=>K (I (kS l)) | _=>False
theorem k2113:aG Tryz.prog aNo:=by
 refine kO Tryz.func113 fun args K h=>?_
 simp only[aNo] at h;split at h
 ·rename_i l;exact ⟨_,h,triB Tryz.func113 Tryz.ntmps113 (by simp[aPy]) (b2113 l)⟩
 ·exact h.elim
theorem b2179 (w d len cnt cost:Int) (gs:List Gp):body Tryz.prog [aNn] { asks:=[(0,[])] } true Tryz.f179 [.agg [I w,I d,I len,I cnt,I cost,.seq tG gs]] (I (barE (w,d,len,cnt,cost,gs))):=by
 have e0:barE (w,d,len,cnt,cost,gs)=if outR w 1 1000 || outR d 1 1000 || outR len 1 65536 || outR cnt 0 4096 || outR cost 0 1073741824 then 2 else if 16<gs.length then 4 else nN len gs:=rfl
 rw[e0]
 cases h1:outR w 1 1000 with
 | true=>
  (repeat'((conv=>whnf);first|refine Zy ?_|fail))
  (conv=>whnf)
  (repeat' first|rfl|apply And.intro)
 | false=>
 have n1:¬outR w 1 1000=true:=by rw[h1];decide
 cases h2:outR d 1 1000 with
 | true=>
  (repeat'((conv=>whnf);first|refine Zy ?_|refine Zm ?_|fail))
  (conv=>whnf)
  (repeat' first|rfl|apply And.intro)
 | false=>
 have n2:¬outR d 1 1000=true:=by rw[h2];decide
 cases h3:outR len 1 65536 with
 | true=>
  (repeat'((conv=>whnf);first|refine Zy ?_|refine Zm ?_|fail))
  (conv=>whnf)
  (repeat' first|rfl|apply And.intro)
 | false=>
 have n3:¬outR len 1 65536=true:=by rw[h3];decide
 cases h4:outR cnt 0 4096 with
 | true=>
  (repeat'((conv=>whnf);first|refine Zy ?_|refine Zm ?_|fail))
  (conv=>whnf)
  (repeat' first|rfl|apply And.intro)
 | false=>
 have n4:¬outR cnt 0 4096=true:=by rw[h4];decide
 cases h5:outR cost 0 1073741824 with
 | true=>
  (repeat'((conv=>whnf);first|refine Zy ?_|refine Zm ?_|fail))
  (conv=>whnf)
  (repeat' first|rfl|apply And.intro)
 | false=>
 have n5:¬outR cost 0 1073741824=true:=by rw[h5];decide
 by_cases h6:16<gs.length
 ·have e:(if (false || false || false || false || false)=true then (2:Int) else if 16<gs.length then 4 else nN len gs)=4:=by rw[if_neg (by decide),if_pos h6]
  rw[e]
  (repeat'((conv=>whnf);first|refine Zg fun _=>?_|refine Zy ?_|refine Zm ?_|fail))
  (conv=>whnf)
  (repeat' first|rfl|apply And.intro)
 ·have e:(if (false || false || false || false || false)=true then (2:Int) else if 16<gs.length then 4 else nN len gs)=nN len gs:=by rw[if_neg (by decide),if_neg h6]
  rw[e]
  (repeat'((conv=>whnf);first|refine Zg fun _=>?_|refine Zm ?_|fail))
  refine Ask.mk ⟨{ X:=Nat,pre:=fun i=>i≤gs.length∧pI len gs (gs.length-i) i=nN len gs,mod:=fun i _=>[(3,I i)],heap:=fun i H=>H,mu:=fun i=>gs.length-i },rfl,?_⟩
  (repeat'((conv=>whnf);first|refine Zn ?_|fail))
  refine ⟨⟨(0:Nat),⟨Nat.zero_le _,rfl⟩,?_⟩,fun (i:Nat) hi=>?_⟩
  ·(repeat' first|exact trivial|rfl|apply And.intro)
  obtain ⟨hi,hg⟩:=hi
  by_cases hlt:i<gs.length
  ·by_cases hg1:(gs.getD i (0,0)).1<0∨len<(gs.getD i (0,0)).2∨(gs.getD i (0,0)).2≤(gs.getD i (0,0)).1
   ·have e2:gap1 len gs i=2:=if_pos hg1
    rw[← hg,oI hlt (by rw[e2];decide),e2]
    (repeat'((conv=>whnf);first|refine Zg fun _=>?_|refine Zn ?_|refine Zj ?_|refine Zy ?_|refine Zr (fun _=>?_) fun _=>?_|fail))
    all_goals first
     | omega
     | ((conv=>whnf);(repeat' first|rfl|apply And.intro))
   ·by_cases hg2:0<i∧(gs.getD i (0,0)).1≤(gs.getD (i-1) (0,0)).2
    ·have e2:gap1 len gs i=10:=(if_neg hg1).trans (if_pos hg2)
     rw[← hg,oI hlt (by rw[e2];decide),e2]
     (repeat'((conv=>whnf);first|refine Zg fun _=>?_|refine Zn ?_|refine Zj ?_|(apply Pin.mk;apply Exists.intro)|apply Pinned.mk rfl rfl|refine Zy ?_|refine Zm ?_|fail))
     refine ixAt (i-1) (by omega) ?_
     (repeat'((conv=>whnf);first|refine Zg fun _=>?_|(apply Pin.mk;apply Exists.intro)|apply Pinned.mk rfl rfl|refine Zy ?_|fail))
     (conv=>whnf)
     (repeat' first|rfl|apply And.intro)
    ·have e2:gap1 len gs i=0:=(if_neg hg1).trans (if_neg hg2)
     have st:=(aE9 hlt e2).symm.trans hg
     by_cases h0:0<i
     ·(repeat'((conv=>whnf);first|refine Zg fun _=>?_|refine Zn ?_|refine Zj ?_|(apply Pin.mk;apply Exists.intro)|apply Pinned.mk rfl rfl|refine Zy ?_|refine Zm ?_|fail))
      refine ixAt (i-1) (by omega) ?_
      (repeat'((conv=>whnf);first|refine Zg fun _=>?_|refine Zn ?_|(apply Pin.mk;apply Exists.intro)|apply Pinned.mk rfl rfl|refine Zm ?_|fail))
      refine ⟨(i+1:Nat),by show gs.length-(i+1)<gs.length-i;omega,⟨hlt,st⟩,?_⟩
      (repeat' first|exact trivial|rfl|apply And.intro)
     ·(repeat'((conv=>whnf);first|refine Zg fun _=>?_|refine Zn ?_|refine Zj ?_|(apply Pin.mk;apply Exists.intro)|apply Pinned.mk rfl rfl|refine Zy ?_|refine Zm ?_|fail))
      refine ⟨(i+1:Nat),by show gs.length-(i+1)<gs.length-i;omega,⟨hlt,st⟩,?_⟩
      (repeat' first|exact trivial|rfl|apply And.intro)
  ·have e:i=gs.length:=by omega
   subst e
   rw[← hg,aAy]
   (repeat'((conv=>whnf);first|refine Zg fun _=>?_|refine Zm ?_|fail))
   (conv=>whnf)
   (repeat' first|rfl|apply And.intro)
def aJo:Con:=aJ 179 true fun args K=>match args with | [.agg [.val (.int .i64 w),.val (.int .i64 d),.val (.int .i64 len),.val (.int .i64 cnt),.val (.int .i64 cost),.seq (.pair (.int .i64) (.int .i64)) gs]]=>K (I (barE (w,d,len,cnt,cost,gs))) | _=>False
theorem aPz:aG Tryz.prog aJo:=by
 refine kO Tryz.func179 fun args K h=>?_
 simp only[aJo] at h;split at h
 ·rename_i w d len cnt cost gs;exact ⟨_,h,triB Tryz.func179 Tryz.ntmps179 (by simp[k2215]) (b2179 w d len cnt cost gs)⟩
 ·exact h.elim
theorem b2127 (l:List Bar):body Tryz.prog [aJo] { asks:=[(0,[])] } true Tryz.f127 [.seq tB l] (I (kS l)):=by
 by_cases h6:64<l.length
 ·rw[show kS l=4 from if_pos h6]
  (repeat'((conv=>whnf);first|refine Zg fun _=>?_|refine Zy ?_|fail))
  (conv=>whnf)
  (repeat' first|rfl|apply And.intro)
 ·rw[show kS l=jT l l.length 0 from if_neg h6]
  (repeat'((conv=>whnf);first|refine Zg fun _=>?_|refine Zm ?_|fail))
  refine Ask.mk ⟨{ X:=Nat,pre:=fun i=>i≤l.length∧jT l (l.length-i) i=jT l l.length 0,mod:=fun i _=>[(3,I i)],heap:=fun i H=>H,mu:=fun i=>l.length-i },rfl,?_⟩
  (repeat'((conv=>whnf);first|refine Zn ?_|fail))
  refine ⟨⟨(0:Nat),⟨Nat.zero_le _,rfl⟩,?_⟩,fun (i:Nat) hi=>?_⟩
  ·(repeat' first|exact trivial|rfl|apply And.intro)
  obtain ⟨hi,hg⟩:=hi
  by_cases hlt:i<l.length
  ·by_cases hb:barE (l.getD i (0,0,0,0,0,[]))=0
   ·have st:=(aFa hlt hb).symm.trans hg
    (repeat'((conv=>whnf);first|refine Zg fun _=>?_|refine Zn ?_|refine Zj ?_|refine Zy ?_|refine Zm ?_|fail))
    refine ⟨(i+1:Nat),by show l.length-(i+1)<l.length-i;omega,⟨hlt,st⟩,?_⟩
    (repeat' first|exact trivial|rfl|apply And.intro)
   ·rw[← hg,aAz hlt hb]
    (repeat'((conv=>whnf);first|refine Zg fun _=>?_|refine Zn ?_|refine Zj ?_|refine Zy ?_|fail))
    (conv=>whnf)
    (repeat' first|rfl|apply And.intro)
  ·have e:i=l.length:=by omega
   subst e
   rw[← hg,aA0]
   (repeat'((conv=>whnf);first|refine Zg fun _=>?_|refine Zm ?_|fail))
   (conv=>whnf)
   (repeat' first|rfl|apply And.intro)
def aNp:Con:=aJ 127 true fun args K=>match args with | [.seq (.pair (.int .i64) (.pair (.int .i64) (.pair (.int .i64) (.pair (.int .i64) (.pair (.int .i64) (.slice (.pair (.int .i64) (.int .i64)))))))) l]=>K (I (kS l)) | _=>False
theorem k2127:aG Tryz.prog aNp:=by
 refine kO Tryz.func127 fun args K h=>?_
 simp only[aNp] at h;split at h
 ·rename_i l;exact ⟨_,h,triB Tryz.func127 Tryz.ntmps127 (by simp[aPz]) (b2127 l)⟩
 ·exact h.elim
theorem b2180 (w d len cnt cost:Int) (gs:List Gp) (h:barE (w,d,len,cnt,cost,gs)=0):body Tryz.prog [aJo] { asks:=[(0,[2])] } true Tryz.f180 [.agg [I w,I d,I len,I cnt,I cost,.seq tG gs]] (.tup [.seq tG (aN len 0 gs),I 0]):=by
 have hl:gs.length≤16:=(lY h).2.2.1
 have fa:=aA1 len gs
 (repeat'((conv=>whnf);first|refine Zm ?_|fail))
 refine Ask.mk ⟨{ X:=Nat,pre:=fun i=>i≤gs.length,mod:=fun i _=>[(4,.ref 2 1),(5,I (endG gs i)),(6,I i)],heap:=fun i H=>[hget H 0,hget H 1,.vec 1 tG (cZ gs i) 125],mu:=fun i=>gs.length-i,objs:=[2] },rfl,?_⟩
 (repeat'((conv=>whnf);first|refine Zn ?_|fail))
 refine ⟨⟨(0:Nat),Nat.zero_le _,?_⟩,fun (i:Nat) hi=>?_⟩
 ·(repeat' first|exact trivial|rfl|exact Nat.one_pos|apply And.intro)
 have hi:i≤gs.length:=hi
 have hn:=aA2 gs i
 by_cases hlt:i<gs.length
 ·have es:endG gs (i+1)=(gs.getD i (0,0)).2:=by unfold endG;rw[if_neg (by omega)];rfl
  have ef:=dI gs i
  by_cases hc:endG gs i<(gs.getD i (0,0)).1
  ·rw[if_pos hc] at ef
   (repeat'((conv=>whnf);first|refine Zg fun _=>?_|refine Zn ?_|refine Zj ?_|refine Zl ?_|refine Zy ?_|fail))
   refine ⟨(i+1:Nat),by show gs.length-(i+1)<gs.length-i;omega,hlt,?_⟩
   (repeat' first|exact trivial|rfl|exact Nat.one_pos|apply And.intro)
   exact ef.symm
  ·rw[if_neg hc] at ef
   (repeat'((conv=>whnf);first|refine Zg fun _=>?_|refine Zn ?_|refine Zj ?_|refine Zy ?_|refine Zm ?_|fail))
   refine ⟨(i+1:Nat),by show gs.length-(i+1)<gs.length-i;omega,hlt,?_⟩
   (repeat' first|exact trivial|rfl|exact Nat.one_pos|apply And.intro)
   exact ef.symm
 ·have e:i=gs.length:=by omega
  subst e
  by_cases hc:endG gs gs.length<len
  ·rw[if_pos hc] at fa
   rw[fa]
   (repeat'((conv=>whnf);first|refine Zg fun _=>?_|refine Zn ?_|refine Zl ?_|refine Zy ?_|refine Zm ?_|fail))
   (conv=>whnf)
   (repeat' first|exact trivial|rfl|apply And.intro)
  ·rw[if_neg hc] at fa
   rw[fa]
   (repeat'((conv=>whnf);first|refine Zg fun _=>?_|refine Zm ?_|fail))
   (conv=>whnf)
   (repeat' first|exact trivial|rfl|apply And.intro)
def aNq:Con:=aJ 180 true fun args K=>match args with | [.agg [.val (.int .i64 w),.val (.int .i64 d),.val (.int .i64 len),.val (.int .i64 cnt),.val (.int .i64 cost),.seq (.pair (.int .i64) (.int .i64)) gs]]=>Need (barE (w,d,len,cnt,cost,gs)=0) (K (.tup [.seq (.pair (.int .i64) (.int .i64)) (aN len 0 gs),I 0])) | _=>False
theorem k2180:aG Tryz.prog aNq:=by
 refine kO Tryz.func180 fun args K h=>?_
 simp only[aNq] at h;split at h
 ·rename_i w d len cnt cost gs;exact ⟨_,h.go,triB Tryz.func180 Tryz.ntmps180 (by simp[aPz]) (b2180 w d len cnt cost gs h.ok)⟩
 ·exact h.elim
def sumX (xs:List Int) (k:Int):Int:=NB.psum (· +k) xs xs.length
noncomputable def fO (xs:List Int) (bars:List Bar) (k:Int):List UInt8 × Int:=
 if NB.piecesE xs k≠0 then ([],NB.piecesE xs k) else if kS bars≠0 then ([],1) else if xs.length=0 then ([48],0)
 else if (aU k bars bars.length).2=0 then ([],22) else (numS (Rat.divInt (aU k bars bars.length).1 (aU k bars bars.length).2*((sumX xs k:Int):Rat)),0)
theorem sO {xs:List Int} {k:Int} (h:NB.piecesE xs k=0):xs.length≤64∧(∀i,i<xs.length→1≤xs.getD i 0∧xs.getD i 0≤65536)∧0≤k∧k≤1000:=by
 unfold NB.piecesE at h
 split at h
 ·exact absurd h (by decide)
 rename_i h1
 split at h
 ·exact absurd h (by decide)
 rename_i h2
 split at h
 ·exact absurd h (by decide)
 rename_i h3
 refine ⟨by omega,fun i hi=>?_,by omega,by omega⟩
 have hm:xs.getD i 0∈xs:=kR hi
 have h2:xs.any NB.badP=false:=by simpa using h2
 have:=List.any_eq_false.1 h2 _ hm
 simp only[NB.badP,decide_eq_true_eq,Classical.not_not] at this
 exact this
theorem mB {xs:List Int} {k:Int} (h:NB.piecesE xs k=0):∀i,i≤xs.length→(i:Int)≤NB.psum (· +k) xs i∧NB.psum (· +k) xs i≤66536*i
 | 0,_=>by rw[NB.psum_zero];omega
 | i+1,hi=>by
  obtain ⟨_,h1,h2,h3⟩:=sO h
  have ih:=mB h i (by omega)
  have h4:=h1 i (by omega)
  rw[NB.psum_succ _ _ _ (by omega)]
  omega
theorem xS {xs:List Int} {k:Int} (h:NB.piecesE xs k=0):(xs.length:Int)≤sumX xs k∧sumX xs k≤66536*xs.length:=mB h _ (Nat.le_refl _)
theorem nO {k:Int} {l:List Bar} (hk:0≤k∧k≤1000) (h:∀j,j<l.length→barE (l.getD j (0,0,0,0,0,[]))=0):∀i,i≤l.length→(0≤(aU k l i).1∧(aU k l i).1≤1073741824)∧0≤(aU k l i).2∧(aU k l i).2≤1190000
 | 0,_=>by unfold aU;dsimp only;omega
 | i+1,hi=>by
  have ih:=nO hk h i (by omega)
  have hb:=h i (by omega)
  have h1:=mA hk hb
  have h2:=(lY hb).2.1
  unfold aU
  split
  ·dsimp only;omega
  ·exact ih
theorem rH {n d:Int} {k:Nat} (hd:0<d) (h1:n.natAbs<10^k) (h2:d.natAbs<10^k):Sz k (Rat.divInt n d):=by
 rw[eB n d hd]
 exact aBl (by omega) h1 (by omega)
theorem aIr {n d:Int} (hd:0<d):ofQ n d=(numS (Rat.divInt n d),0):=by unfold ofQ;rw[if_neg (by omega)]
theorem aP9 {a b c d:Int} (hb:0<b) (hd:0<d):Rat.divInt a b<Rat.divInt c d↔a*d<c*b:=by
 have hb':(0:Rat)<(b:Rat):=Rat.intCast_pos.2 hb
 have hd':(0:Rat)<(d:Rat):=Rat.intCast_pos.2 hd
 rw[Rat.divInt_eq_div,Rat.divInt_eq_div,Rat.lt_div_iff hd']
 have e:(a:Rat)/(b:Rat)*(d:Rat)=((a*d:Int):Rat)/(b:Rat):=by
  rw[Rat.intCast_mul,Rat.div_def,Rat.div_def];grind
 rw[e,Rat.div_lt_iff hb',← Rat.intCast_mul,Rat.intCast_lt_intCast]
noncomputable def lsS (s:Int × Int):List UInt8:=if s.2=0 then [48] else numS (Rat.divInt s.1 s.2)
theorem sz11 {n:Int} (h:0≤n) (h2:n≤1073741824):n.natAbs<10^11:=by
 have:(10:Nat)^11=100000000000:=(by decide)
 omega
theorem aQa {c r b d:Int} (hc:0≤c∧c≤1073741824) (hr:0<r∧r≤1190000) (hb:0≤b∧b≤1073741824) (hd:0<d∧d≤1190000):cmpQ (numS (Rat.divInt b d)) (lsS (c,r))=(cmpR (Rat.divInt b d) (Rat.divInt c r),0)∧(cmpR (Rat.divInt b d) (Rat.divInt c r)<0↔b*r<c*d):=by
 unfold lsS
 rw[if_neg (by dsimp only;omega)]
 refine ⟨aNe (rH hd.1 (sz11 hb.1 hb.2) (sz11 (by omega) (by omega))) (rH hr.1 (sz11 hc.1 hc.2) (sz11 (by omega) (by omega))) (by decide) (by decide) (by decide),?_⟩
 rw[aPa,aP9 hd.1 hr.1]
theorem aOg {b d c:Int} (hb:0≤b∧b≤1073741824) (hd:0<d∧d≤1190000):cmpQ (numS (Rat.divInt b d)) (lsS (c,0))=(cmpR (Rat.divInt b d) 0,0):=by
 unfold lsS
 rw[if_pos rfl,← numS0]
 exact aNe (rH hd.1 (sz11 hb.1 hb.2) (sz11 (by omega) (by omega))) (show Sz 1 0 from ⟨by decide,by decide⟩) (by decide) (by decide) (by decide)
theorem b2124 (xs ws:List Int) (C k:Int) (h:NB.Okx xs k C∧ws.length=xs.length∧(∀w∈ws,0≤w∧w≤1048576)∧C≤66536):body Tryz.prog [] { asks:=[(0,[]),(2,[])] } true Tryz.f124 [Ls xs,Ls ws,I C,I k] (I ((NB.dpE xs ws k C xs.length).getD C.toNat 0)):=by
 obtain ⟨ho,heq,hwm,hC⟩:=h
 have hlen:=ho.len
 have hc0:=ho.c0
 have hk0:=ho.k0
 have hk1:=ho.k1
 (repeat'((conv=>whnf);first|refine Zn ?_|refine Z8 ?_|fail))
 refine Ask.mk ⟨{ X:=Nat,pre:=fun i=>i≤xs.length,mod:=fun i _=>[(10,I i)],heap:=fun i H=>[.vec 1 (.int .i64) (NB.dpE xs ws k C i) 3],mu:=fun i=>xs.length-i },rfl,?_⟩
 (repeat'((conv=>whnf);first|refine Zn ?_|fail))
 refine ⟨⟨(0:Nat),Nat.zero_le _,by (repeat' first|exact trivial|rfl|apply And.intro)⟩,fun (i:Nat) hi=>?_⟩
 have hi:i≤xs.length:=hi
 by_cases hlt:i<xs.length
 ·obtain ⟨h4,h5,h6⟩:=ho.el i hlt
  have hr0:=NB.dpE_range xs k C hwm i
  have hl0:=NB.dpE_len xs ws k C i
  have hv:=NB.getD_mem0 (p:=fun w=>0≤w∧w≤1048576) (by omega) hwm i
  (repeat'((conv=>whnf);first|refine Zg fun _=>?_|refine Zn ?_|refine Zj ?_|refine Zy ?_|fail))
  refine Ask.mk ⟨{ X:=Nat,pre:=fun r=>xs.getD i 0+k-1≤r∧(r:Int)≤C,mod:=fun r _=>[(12,I r)],heap:=fun r H=>[.vec 1 (.int .i64) (NB.dpAt (NB.dpE xs ws k C i) (xs.getD i 0+k) (ws.getD i 0) r) 3],mu:=fun r=>r },rfl,?_⟩
  (repeat'((conv=>whnf);first|refine Zn ?_|fail))
  refine ⟨⟨C.toNat,⟨by omega,by omega⟩,?_⟩,fun (r:Nat) hr=>?_⟩
  ·(repeat' first|exact trivial|rfl|apply And.intro|omega)
   all_goals first
    | omega
    | exact (NB.dpAt_start _ _ _ _ (by omega)).symm
  obtain ⟨hr1,hr2⟩:=(show xs.getD i 0+k-1≤r∧(r:Int)≤C from hr)
  have hl1:=NB.dpAt_len (NB.dpE xs ws k C i) (xs.getD i 0+k) (ws.getD i 0) r
  have hra:=fun j=>NB.dpAt_range (w:=xs.getD i 0+k) (r:=r) (v:=ws.getD i 0) (c:=1048576) hr0 hv.1 hv.2 (by omega) j
  by_cases hge:xs.getD i 0+k≤(r:Int)
  ·have hst:=NB.dpAt_step (NB.dpE xs ws k C i) (xs.getD i 0+k) (ws.getD i 0) r (by omega) (by omega) (by omega)
   have hra1:=hra r
   have hra2:=hra ((r:Int)-(xs.getD i 0+k)).toNat
   (repeat'((conv=>whnf);first|refine Zg fun _=>?_|refine Zn ?_|refine Zj ?_|(apply Pin.mk;apply Exists.intro)|apply Pinned.mk rfl rfl|refine Zy ?_|fail))
   refine NB.ix_to ((r:Int)-(xs.getD i 0+k)).toNat (by omega) ?_
   (repeat'((conv=>whnf);first|refine Zg fun _=>?_|refine Zn ?_|refine Zj ?_|(apply Pin.mk;apply Exists.intro)|apply Pinned.mk rfl rfl|fail))
   refine ⟨(r-1:Nat),by show r-1<r;omega,⟨by omega,by omega⟩,?_⟩
   (repeat' first|exact trivial|rfl|apply And.intro|omega)
   all_goals first
    | omega
    | (show List.set _ _ _= _;rw[hst];congr 1;omega)
  ·have hen:=NB.dpAt_end (NB.dpE xs ws k C i) (xs.getD i 0+k) (ws.getD i 0) r (by omega)
   (repeat'((conv=>whnf);first|refine Zn ?_|refine Zm ?_|fail))
   refine ⟨(i+1:Nat),by show xs.length-(i+1)<xs.length-i;omega,hlt,?_⟩
   (repeat' first|exact trivial|rfl|apply And.intro)
   rw[hen]
   exact (NB.dpE_succ xs ws k C i).symm
 ·have e:i=xs.length:=by omega
  subst e
  have hl0:=NB.dpE_len xs ws k C xs.length
  (repeat'((conv=>whnf);first|refine Zg fun _=>?_|refine Zn ?_|refine Zm ?_|fail))
  refine NB.ix_to C.toNat (by omega) ?_
  (repeat'((conv=>whnf);first|refine Zg fun _=>?_|fail))
  (conv=>whnf)
  (repeat' first|rfl|apply And.intro)
def aNr:Con:=aJ 124 true fun args K=>match args with | [.seq (.int .i64) xs,.seq (.int .i64) ws,.val (.int .i64 C),.val (.int .i64 k)]=>Need (NB.Okx xs k C∧ws.length=xs.length∧(∀w∈ws,0≤w∧w≤1048576)∧C≤66536) (K (I ((NB.dpE xs ws k C xs.length).getD C.toNat 0))) | _=>False
theorem k2124:aG Tryz.prog aNr:=by
 refine kO Tryz.func124 fun args K h=>?_
 simp only[aNr] at h;split at h
 ·rename_i xs ws C k;exact ⟨_,h.go,triB Tryz.func124 Tryz.ntmps124 (by simp) (b2124 xs ws C k h.ok)⟩
 ·exact h.elim
theorem b2060 (xs ws:List Int) (s L k:Int):body Tryz.prog [NB.c26,aNr,NB.c39] { asks:=[(0,[])] } true Tryz.f60 [Ls xs,Ls ws,I s,I L,I k] (.tup [I (NB.dualR xs ws s L k),I (NB.dualE xs ws s L k)]):=by
 by_cases hz:NB.checkE xs L k=0
 ·have ho:=NB.okx_of hz
  have hlen:=ho.len
  have hc0:=ho.c0
  have hc1:=ho.c1
  have hk0:=ho.k0
  have hk1:=ho.k1
  by_cases heq:ws.length=xs.length
  ·(repeat'((conv=>whnf);first|refine Zg fun _=>?_|refine Zm ?_|fail))
   refine Ask.mk ⟨{ X:=Nat,pre:=fun i=>i≤ws.length∧(ws.take i).any NB.badW=false,mod:=fun i _=>[(13,I ((ws.take i).sum)),(14,I i)],heap:=fun i H=>H,mu:=fun i=>ws.length-i },rfl,?_⟩
   (repeat'((conv=>whnf);first|refine Zn ?_|fail))
   refine ⟨⟨(0:Nat),⟨Nat.zero_le _,rfl⟩,by (repeat' first|exact trivial|rfl|apply And.intro)⟩,fun (i:Nat) hi=>?_⟩
   obtain ⟨hi1,hi2⟩:=(show i≤ws.length∧(ws.take i).any NB.badW=false from hi)
   have hsr:=NB.sum_range hi2
   have htl:(ws.take i).length=i:=by simp;omega
   rw[htl] at hsr
   by_cases hlt:i<ws.length
   ·have hts:=NB.take_sum ws i hlt
    have hta:=NB.take_any ws NB.badW i hlt
    rw[hi2,Bool.false_or] at hta
    by_cases hbad:0≤ws.getD i 0∧ws.getD i 0≤1048576
    ·have hok':NB.badW (ws.getD i 0)=false:=by simp only[NB.badW,decide_eq_false_iff_not];omega
     rw[hok'] at hta
     obtain ⟨hb1,hb2⟩:=hbad
     (repeat'((conv=>whnf);first|refine Zg fun _=>?_|refine Zn ?_|refine Zj ?_|refine Zy ?_|refine Zm ?_|fail))
     refine ⟨(i+1:Nat),by show ws.length-(i+1)<ws.length-i;omega,⟨hlt,hta⟩,?_⟩
     (repeat' first|exact trivial|rfl|apply And.intro|omega)
     all_goals exact hts.symm
    ·have hany:ws.any NB.badW=true:=by
      rw[List.any_eq_true]
      refine ⟨ws.getD i 0,kR hlt,?_⟩
      simp only[NB.badW,decide_eq_true_eq];omega
     have hE:NB.dualE xs ws s L k=2:=by unfold NB.dualE;rw[if_neg (by simp[hz]),if_neg (by omega),if_pos hany]
     have hR:NB.dualR xs ws s L k=0:=by unfold NB.dualR;rw[hE];rfl
     rw[hE,hR]
     by_cases hb0:ws.getD i 0<0
     ·(repeat'((conv=>whnf);first|refine Zg fun _=>?_|refine Zn ?_|refine Zj ?_|refine Zy ?_|fail))
      (conv=>whnf)
      (repeat' first|exact trivial|rfl|apply And.intro)
     ·have hb1:1048576<ws.getD i 0:=by omega
      (repeat'((conv=>whnf);first|refine Zg fun _=>?_|refine Zn ?_|refine Zj ?_|refine Zy ?_|refine Zm ?_|fail))
      (conv=>whnf)
      (repeat' first|exact trivial|rfl|apply And.intro)
   ·have hi3:i=ws.length:=by omega
    subst hi3
    rw[List.take_length] at hi2 hsr
    have hmul:0≤(xs.length:Int)*(L+k+1)∧(xs.length:Int)*(L+k+1)≤64*66537:=⟨Int.mul_nonneg (by omega) (by omega),Int.mul_le_mul (by omega) (by omega) (by omega) (by omega)⟩
    by_cases hsc:s<1∨1048576<s
    ·have hE:NB.dualE xs ws s L k=2:=by unfold NB.dualE;rw[if_neg (by simp[hz]),if_neg (by omega),if_neg (by simp[hi2]),if_pos hsc]
     have hR:NB.dualR xs ws s L k=0:=by unfold NB.dualR;rw[hE];rfl
     rw[hE,hR]
     by_cases hb0:s<1
     ·(repeat'((conv=>whnf);first|refine Zg fun _=>?_|refine Zy ?_|refine Zm ?_|fail))
      (conv=>whnf)
      (repeat' first|exact trivial|rfl|apply And.intro)
     ·have hb1:1048576<s:=by omega
      (repeat'((conv=>whnf);first|refine Zg fun _=>?_|refine Zy ?_|refine Zm ?_|fail))
      (conv=>whnf)
      (repeat' first|exact trivial|rfl|apply And.intro)
    ·by_cases hwork:4194304<(xs.length:Int)*(L+k+1)
     ·have hE:NB.dualE xs ws s L k=4:=by unfold NB.dualE;rw[if_neg (by simp[hz]),if_neg (by omega),if_neg (by simp[hi2]),if_neg hsc,if_pos hwork]
      have hR:NB.dualR xs ws s L k=0:=by unfold NB.dualR;rw[hE];rfl
      rw[hE,hR]
      (repeat'((conv=>whnf);first|refine Zg fun _=>?_|refine Zn ?_|refine Zy ?_|refine Zm ?_|fail))
      (conv=>whnf)
      (repeat' first|exact trivial|rfl|apply And.intro)
     ·have hwm:∀w∈ws,0≤w∧w≤1048576:=fun w hw=>by
       have:=List.any_eq_false.1 hi2 w hw
       simp only[NB.badW,decide_eq_true_eq,Classical.not_not] at this
       exact this
      have hpre:NB.Okx xs k (L+k)∧ws.length=xs.length∧(∀w∈ws,0≤w∧w≤1048576)∧L+k≤66536:=⟨ho,heq,hwm,by omega⟩
      by_cases hcert:s<(NB.dpE xs ws k (L+k) xs.length).getD (L+k).toNat 0
      ·have hE:NB.dualE xs ws s L k=23:=by unfold NB.dualE;rw[if_neg (by simp[hz]),if_neg (by omega),if_neg (by simp[hi2]),if_neg hsc,if_neg hwork,if_pos hcert]
       have hR:NB.dualR xs ws s L k=0:=by unfold NB.dualR;rw[hE];rfl
       rw[hE,hR]
       (repeat'((conv=>whnf);first|refine Zg fun _=>?_|refine Zn ?_|refine Zy ?_|refine Zm ?_|fail))
       (conv=>whnf)
       (repeat' first|exact trivial|rfl|apply And.intro)
      ·have hE:NB.dualE xs ws s L k=0:=by unfold NB.dualE;rw[if_neg (by simp[hz]),if_neg (by omega),if_neg (by simp[hi2]),if_neg hsc,if_neg hwork,if_neg hcert]
       have hR:NB.dualR xs ws s L k=NB.upE ws.sum s:=by unfold NB.dualR;rw[hE];rfl
       rw[hE,hR]
       have hup:0≤(ws.take ws.length).sum∧(ws.take ws.length).sum≤1000000000∧0<s∧s≤1000000000:=by rw[List.take_length];omega
       (repeat'((conv=>whnf);first|refine Zg fun _=>?_|refine Zn ?_|refine Zm ?_|fail))
       (conv=>whnf)
       (repeat' first|exact trivial|rfl|apply And.intro)
       all_goals (rw[List.take_length];rfl)
  ·have hE:NB.dualE xs ws s L k=9:=by unfold NB.dualE;rw[if_neg (by simp[hz]),if_pos (by omega)]
   have hR:NB.dualR xs ws s L k=0:=by unfold NB.dualR;rw[hE];rfl
   rw[hE,hR]
   (repeat'((conv=>whnf);first|refine Zg fun _=>?_|refine Zy ?_|refine Zm ?_|fail))
   (conv=>whnf)
   (repeat' first|exact trivial|rfl|apply And.intro)
 ·have hE:NB.dualE xs ws s L k=NB.checkE xs L k:=by unfold NB.dualE;rw[if_pos hz]
  have hR:NB.dualR xs ws s L k=0:=by unfold NB.dualR;rw[hE,if_neg hz]
  rw[hE,hR]
  (repeat'((conv=>whnf);first|refine Zy ?_|fail))
  (conv=>whnf)
  (repeat' first|exact trivial|rfl|apply And.intro)
def aNs:Con:=aJ 60 true fun args K=>match args with | [.seq (.int .i64) xs,.seq (.int .i64) ws,.val (.int .i64 s),.val (.int .i64 L),.val (.int .i64 k)]=>K (.tup [I (NB.dualR xs ws s L k),I (NB.dualE xs ws s L k)]) | _=>False
theorem k2060:aG Tryz.prog aNs:=by
 refine kO Tryz.func60 fun args K h=>?_
 simp only[aNs] at h;split at h
 ·rename_i xs ws s L k;exact ⟨_,h,triB Tryz.func60 Tryz.ntmps60 (by simp[NB.k26,k2124,NB.k39]) (b2060 xs ws s L k)⟩
 ·exact h.elim
theorem b2128 (w d len cnt cost:Int) (gs:List Gp) (k:Int) (h:barE (w,d,len,cnt,cost,gs)=0∧0≤k∧k≤1000):body Tryz.prog [aNq] { asks:=[(0,[])] } true Tryz.f128 [.agg [I w,I d,I len,I cnt,I cost,.seq tG gs],I k] (I (capB k (w,d,len,cnt,cost,gs))):=by
 obtain ⟨hb,hk⟩:=h
 have hin:∀g∈aN len 0 gs,0≤g.1∧g.1≤g.2∧g.2≤65536:=aC5 hb
 have hl:(aN len 0 gs).length≤17:=(mA hk hb).2.2
 have hr:=fun i=>lZ hk hin i
 (repeat'((conv=>whnf);first|refine Zn ?_|fail))
 refine Ask.mk ⟨{ X:=Nat,pre:=fun i=>i≤(aN len 0 gs).length,mod:=fun i _=>[(7,I (capT k (aN len 0 gs) i)),(8,I i)],heap:=fun i H=>H,mu:=fun i=>(aN len 0 gs).length-i },rfl,?_⟩
 (repeat'((conv=>whnf);first|refine Zn ?_|fail))
 refine ⟨⟨(0:Nat),Nat.zero_le _,by (repeat' first|exact trivial|rfl|apply And.intro)⟩,fun (i:Nat) hi=>?_⟩
 have hi:i≤(aN len 0 gs).length:=hi
 have hri:=hr i
 by_cases hlt:i<(aN len 0 gs).length
 ·have hg:=hin _ (kR (d:=(0,0)) hlt)
  have hs:=sM k hlt
  (repeat'((conv=>whnf);first|refine Zg fun _=>?_|refine Zn ?_|refine Zj ?_|(apply Pin.mk;apply Exists.intro)|apply Pinned.mk rfl rfl|refine Zy ?_|fail))
  refine ⟨(i+1:Nat),by show (aN len 0 gs).length-(i+1)<(aN len 0 gs).length-i;omega,hlt,?_⟩
  (repeat' first|exact trivial|rfl|apply And.intro|omega)
 ·have e:i=(aN len 0 gs).length:=by omega
  subst e
  (repeat'((conv=>whnf);first|refine Zg fun _=>?_|refine Zm ?_|fail))
  (conv=>whnf)
  (repeat' first|rfl|apply And.intro)
  show capS k (List.take _ _)= _
  rw[List.take_length];rfl
def aNt:Con:=aJ 128 true fun args K=>match args with | [.agg [.val (.int .i64 w),.val (.int .i64 d),.val (.int .i64 len),.val (.int .i64 cnt),.val (.int .i64 cost),.seq (.pair (.int .i64) (.int .i64)) gs],.val (.int .i64 k)]=>Need (barE (w,d,len,cnt,cost,gs)=0∧0≤k∧k≤1000) (K (I (capB k (w,d,len,cnt,cost,gs)))) | _=>False
theorem k2128:aG Tryz.prog aNt:=by
 refine kO Tryz.func128 fun args K h=>?_
 simp only[aNt] at h;split at h
 ·rename_i w d len cnt cost gs k;exact ⟨_,h.go,triB Tryz.func128 Tryz.ntmps128 (by simp[k2180]) (b2128 w d len cnt cost gs k h.ok)⟩
 ·exact h.elim
theorem aJp {a b x y:Int} (h1:0≤a) (h2:a≤x) (h3:0≤b) (h4:b≤y):0≤a*b∧a*b≤x*y:=
 ⟨Int.mul_nonneg h1 h3,Int.mul_le_mul h2 h4 h3 (Int.le_trans h1 h2)⟩
theorem b2061 (xs:List Int) (bars:List Bar) (k:Int):body Tryz.prog [NB.c37,aNp,aNt,c25,c41n] { asks:=[(0,[]),(2,[])] } true Tryz.f61 [Ls xs,.seq tB bars,I k] (.tup [S (fO xs bars k).1,I (fO xs bars k).2]):=by
 by_cases hp:NB.piecesE xs k=0
 ·have hr:=mB hp
  obtain ⟨hl,hx,hk0,hk1⟩:=sO hp
  by_cases hb:kS bars=0
  ·obtain ⟨hbl,hbk⟩:=aFb hb
   have e0:fO xs bars k=if xs.length=0 then ([48],0) else if (aU k bars bars.length).2=0 then ([],22) else (numS (Rat.divInt (aU k bars bars.length).1 (aU k bars bars.length).2*((sumX xs k:Int):Rat)),0):=by unfold fO;rw[if_neg (fun h=>h hp),if_neg (fun h=>h hb)]
   by_cases hx0:xs.length=0
   ·rw[if_pos hx0] at e0
    rw[e0]
    (repeat'((conv=>whnf);first|refine Zg fun _=>?_|refine Zy ?_|refine Zm ?_|fail))
    (conv=>whnf)
    (repeat' first|exact trivial|rfl|apply And.intro)
   ·rw[if_neg hx0] at e0
    (repeat'((conv=>whnf);first|refine Zg fun _=>?_|refine Zm ?_|fail))
    refine Ask.mk ⟨{ X:=Nat,pre:=fun i=>i≤xs.length,mod:=fun i _=>[(9,I (NB.psum (· +k) xs i)),(10,I i)],heap:=fun i H=>H,mu:=fun i=>xs.length-i },rfl,?_⟩
    (repeat'((conv=>whnf);first|refine Zn ?_|fail))
    refine ⟨⟨(0:Nat),Nat.zero_le _,by (repeat' first|exact trivial|rfl|apply And.intro)⟩,fun (i:Nat) hi=>?_⟩
    have hi:i≤xs.length:=hi
    have hri:=hr i hi
    by_cases hlt:i<xs.length
    ·have hs:=NB.psum_succ (· +k) xs i hlt
     have hxi:=hx i hlt
     (repeat'((conv=>whnf);first|refine Zg fun _=>?_|refine Zn ?_|refine Zj ?_|refine Zy ?_|fail))
     refine ⟨(i+1:Nat),by show xs.length-(i+1)<xs.length-i;omega,hlt,?_⟩
     (repeat' first|exact trivial|rfl|apply And.intro|omega)
    ·have e:i=xs.length:=by omega
     subst e
     have hsx:NB.psum (· +k) xs xs.length=sumX xs k:=rfl
     (repeat'((conv=>whnf);first|refine Zg fun _=>?_|refine Zm ?_|fail))
     refine Ask.mk ⟨{ X:=Nat,pre:=fun i=>i≤bars.length,mod:=fun i _=>[(11,I (aU k bars i).1),(12,I (aU k bars i).2),(13,I i)],heap:=fun i H=>H,mu:=fun i=>bars.length-i },rfl,?_⟩
     (repeat'((conv=>whnf);first|refine Zn ?_|fail))
     refine ⟨⟨(0:Nat),Nat.zero_le _,by (repeat' first|exact trivial|rfl|apply And.intro)⟩,fun (j:Nat) hj=>?_⟩
     have hj:j≤bars.length:=hj
     have hbn:=nO ⟨hk0,hk1⟩ hbk j hj
     by_cases hjl:j<bars.length
     ·have hbj:=hbk j hjl
      have hcr:0≤capB k ((bars.getD j (0,0,0,0,0,[])).1,(bars.getD j (0,0,0,0,0,[])).2.1,(bars.getD j (0,0,0,0,0,[])).2.2.1,(bars.getD j (0,0,0,0,0,[])).2.2.2.1,(bars.getD j (0,0,0,0,0,[])).2.2.2.2.1,(bars.getD j (0,0,0,0,0,[])).2.2.2.2.2)∧capB k ((bars.getD j (0,0,0,0,0,[])).1,(bars.getD j (0,0,0,0,0,[])).2.1,(bars.getD j (0,0,0,0,0,[])).2.2.1,(bars.getD j (0,0,0,0,0,[])).2.2.2.1,(bars.getD j (0,0,0,0,0,[])).2.2.2.2.1,(bars.getD j (0,0,0,0,0,[])).2.2.2.2.2)≤1190000∧(rG ((bars.getD j (0,0,0,0,0,[])).1,(bars.getD j (0,0,0,0,0,[])).2.1,(bars.getD j (0,0,0,0,0,[])).2.2.1,(bars.getD j (0,0,0,0,0,[])).2.2.2.1,(bars.getD j (0,0,0,0,0,[])).2.2.2.2.1,(bars.getD j (0,0,0,0,0,[])).2.2.2.2.2)).length≤17:=mA ⟨hk0,hk1⟩ hbj
      have hco:=(lY hbj).2.1
      have hpre:barE ((bars.getD j (0,0,0,0,0,[])).1,(bars.getD j (0,0,0,0,0,[])).2.1,(bars.getD j (0,0,0,0,0,[])).2.2.1,(bars.getD j (0,0,0,0,0,[])).2.2.2.1,(bars.getD j (0,0,0,0,0,[])).2.2.2.2.1,(bars.getD j (0,0,0,0,0,[])).2.2.2.2.2)=0∧0≤k∧k≤1000:=⟨hbj,hk0,hk1⟩
      have hmul1:=aJp hco.1 hco.2 hbn.2.1 hbn.2.2
      have hmul2:=aJp hbn.1.1 hbn.1.2 hcr.1 hcr.2.1
      have hst:aU k bars (j+1)=if 0<capB k ((bars.getD j (0,0,0,0,0,[])).1,(bars.getD j (0,0,0,0,0,[])).2.1,(bars.getD j (0,0,0,0,0,[])).2.2.1,(bars.getD j (0,0,0,0,0,[])).2.2.2.1,(bars.getD j (0,0,0,0,0,[])).2.2.2.2.1,(bars.getD j (0,0,0,0,0,[])).2.2.2.2.2)∧((aU k bars j).2=0∨(bars.getD j (0,0,0,0,0,[])).2.2.2.2.1*(aU k bars j).2<(aU k bars j).1*capB k ((bars.getD j (0,0,0,0,0,[])).1,(bars.getD j (0,0,0,0,0,[])).2.1,(bars.getD j (0,0,0,0,0,[])).2.2.1,(bars.getD j (0,0,0,0,0,[])).2.2.2.1,(bars.getD j (0,0,0,0,0,[])).2.2.2.2.1,(bars.getD j (0,0,0,0,0,[])).2.2.2.2.2)) then ((bars.getD j (0,0,0,0,0,[])).2.2.2.2.1,capB k ((bars.getD j (0,0,0,0,0,[])).1,(bars.getD j (0,0,0,0,0,[])).2.1,(bars.getD j (0,0,0,0,0,[])).2.2.1,(bars.getD j (0,0,0,0,0,[])).2.2.2.1,(bars.getD j (0,0,0,0,0,[])).2.2.2.2.1,(bars.getD j (0,0,0,0,0,[])).2.2.2.2.2)) else aU k bars j:=rfl
      by_cases h1:0<capB k ((bars.getD j (0,0,0,0,0,[])).1,(bars.getD j (0,0,0,0,0,[])).2.1,(bars.getD j (0,0,0,0,0,[])).2.2.1,(bars.getD j (0,0,0,0,0,[])).2.2.2.1,(bars.getD j (0,0,0,0,0,[])).2.2.2.2.1,(bars.getD j (0,0,0,0,0,[])).2.2.2.2.2)
      ·by_cases h2:(aU k bars j).2=0
       ·rw[if_pos ⟨h1,Or.inl h2⟩] at hst
        (repeat'((conv=>whnf);first|refine Zg fun _=>?_|refine Zn ?_|refine Zj ?_|refine Zy ?_|fail))
        conv=>whnf
        refine ⟨(j+1:Nat),by show bars.length-(j+1)<bars.length-j;omega,hjl,?_⟩
        (repeat' first|exact trivial|rfl|apply And.intro)
        all_goals rw[hst]
       ·by_cases h3:(bars.getD j (0,0,0,0,0,[])).2.2.2.2.1*(aU k bars j).2<(aU k bars j).1*capB k ((bars.getD j (0,0,0,0,0,[])).1,(bars.getD j (0,0,0,0,0,[])).2.1,(bars.getD j (0,0,0,0,0,[])).2.2.1,(bars.getD j (0,0,0,0,0,[])).2.2.2.1,(bars.getD j (0,0,0,0,0,[])).2.2.2.2.1,(bars.getD j (0,0,0,0,0,[])).2.2.2.2.2)
        ·rw[if_pos ⟨h1,Or.inr h3⟩] at hst
         (repeat'((conv=>whnf);first|refine Zg fun _=>?_|refine Zn ?_|refine Zj ?_|refine Zy ?_|refine Zm ?_|fail))
         conv=>whnf
         refine ⟨(j+1:Nat),by show bars.length-(j+1)<bars.length-j;omega,hjl,?_⟩
         (repeat' first|exact trivial|rfl|apply And.intro)
         all_goals rw[hst]
        ·rw[if_neg (fun h=>h.2.elim h2 h3)] at hst
         (repeat'((conv=>whnf);first|refine Zg fun _=>?_|refine Zn ?_|refine Zj ?_|refine Zy ?_|refine Zm ?_|fail))
         conv=>whnf
         refine ⟨(j+1:Nat),by show bars.length-(j+1)<bars.length-j;omega,hjl,?_⟩
         (repeat' first|exact trivial|rfl|apply And.intro)
         all_goals rw[hst]
      ·rw[if_neg (fun h=>h1 h.1)] at hst
       (repeat'((conv=>whnf);first|refine Zg fun _=>?_|refine Zn ?_|refine Zj ?_|refine Zy ?_|refine Zm ?_|fail))
       conv=>whnf
       refine ⟨(j+1:Nat),by show bars.length-(j+1)<bars.length-j;omega,hjl,?_⟩
       (repeat' first|exact trivial|rfl|apply And.intro)
       all_goals rw[hst]
     ·have e:j=bars.length:=by omega
      subst e
      by_cases hz:(aU k bars bars.length).2=0
      ·rw[if_pos hz] at e0
       rw[e0]
       (repeat'((conv=>whnf);first|refine Zg fun _=>?_|refine Zy ?_|refine Zm ?_|fail))
       (conv=>whnf)
       (repeat' first|exact trivial|rfl|apply And.intro)
      ·rw[if_neg hz] at e0
       have hm:mulQ (ofQ (aU k bars bars.length).1 (aU k bars bars.length).2).1 (ofQ (NB.psum (· +k) xs xs.length) 1).1=(numS (Rat.divInt (aU k bars bars.length).1 (aU k bars bars.length).2*((sumX xs k:Int):Rat)),0):=by
        have hs:=xS hp
        rw[aIr (by omega),aIq,← eT]
        exact aDg (i:=11) (j:=11) (rH (by omega) (sz11 hbn.1.1 hbn.1.2) (sz11 (by omega) (by omega))) (aDh (sz11 (by omega) (by omega)) (by decide)) (by decide) (by decide) (by decide)
       rw[e0]
       (repeat'((conv=>whnf);first|refine Zg fun _=>?_|refine Zn ?_|refine .h ?_|refine Zm ?_|fail))
       conv=>whnf
       (conv=>whnf)
       (repeat' first|exact trivial|rfl|apply And.intro)
  ·rw[show fO xs bars k=([],1) by unfold fO;rw[if_neg (fun h=>h hp),if_pos hb]]
   (repeat'((conv=>whnf);first|refine Zy ?_|refine Zm ?_|fail))
   (conv=>whnf)
   (repeat' first|exact trivial|rfl|apply And.intro)
 ·rw[show fO xs bars k=([],NB.piecesE xs k) by unfold fO;rw[if_pos hp]]
  (repeat'((conv=>whnf);first|refine Zy ?_|fail))
  (conv=>whnf)
  (repeat' first|exact trivial|rfl|apply And.intro)
def aNu:Con:=aJ 61 true fun args K=>match args with | [.seq (.int .i64) xs,.seq (.pair (.int .i64) (.pair (.int .i64) (.pair (.int .i64) (.pair (.int .i64) (.pair (.int .i64) (.slice (.pair (.int .i64) (.int .i64)))))))) bars,.val (.int .i64 k)]=>K (.tup [S (fO xs bars k).1,I (fO xs bars k).2]) | _=>False
theorem k2061:aG Tryz.prog aNu:=by
 refine kO Tryz.func61 fun args K h=>?_
 simp only[aNu] at h;split at h
 ·rename_i xs bars k;exact ⟨_,h,triB Tryz.func61 Tryz.ntmps61 (by simp[NB.k37,k2127,k2128,k25,k41n]) (b2061 xs bars k)⟩
 ·exact h.elim
theorem aBo (gs:List Gp) (x:Gp):∀i,i≤gs.length→cZ (gs++ [x]) i=cZ gs i∧endG (gs++ [x]) i=endG gs i
 | 0,_=>⟨rfl,rfl⟩
 | i+1,hi=>by
  obtain ⟨h1,h2⟩:=aBo gs x i (by omega)
  have e:(gs++ [x]).getD i (0,0)=gs.getD i (0,0):=by
   simp[List.getD_eq_getElem?_getD,List.getElem?_append_left (show i<gs.length by omega)]
  refine ⟨by rw[dI,dI,h1,h2,e],?_⟩
  unfold endG
  rw[if_neg (by omega),if_neg (by omega)]
  exact congrArg Prod.snd e
theorem aKz (len:Int) (gs:List Gp):(gs++ [(len,len)]).getD gs.length (0,0)=(len,len):=by
 simp[List.getD_eq_getElem?_getD]
theorem aF1 (len:Int) (gs:List Gp):cZ (gs++ [(len,len)]) (gs.length+1)=aN len 0 gs:=by
 obtain ⟨h1,h2⟩:=aBo gs (len,len) gs.length (Nat.le_refl _)
 rw[dI,aA1,aKz]
 rw[h1,h2]
theorem uP (gs:List Gp):∀m i,i≤m→∃t,cZ gs m=cZ gs i++t
 | 0,i,hi=>⟨[],by rw[show i=0 by omega,List.append_nil]⟩
 | m+1,i,hi=>by
  by_cases e:i=m+1
  ·exact ⟨[],by rw[e,List.append_nil]⟩
  ·obtain ⟨t,ht⟩:=uP gs m i (by omega)
   rw[dI]
   split
   ·exact ⟨t++ [(endG gs m,(gs.getD m (0,0)).1)],by rw[ht,List.append_assoc]⟩
   ·exact ⟨t,ht⟩
theorem aPe (len:Int) (gs:List Gp) {i:Nat} (hi:i<gs.length+1) (h:endG (gs++ [(len,len)]) i<((gs++ [(len,len)]).getD i (0,0)).1):(aN len 0 gs).getD (cZ (gs++ [(len,len)]) i).length (0,0)=(endG (gs++ [(len,len)]) i,((gs++ [(len,len)]).getD i (0,0)).1)∧(cZ (gs++ [(len,len)]) i).length<(aN len 0 gs).length∧(cZ (gs++ [(len,len)]) (i+1)).length=(cZ (gs++ [(len,len)]) i).length+1:=by
 obtain ⟨t,ht⟩:=uP (gs++ [(len,len)]) (gs.length+1) (i+1) (by omega)
 rw[aF1,dI,if_pos h] at ht
 rw[ht,dI,if_pos h]
 refine ⟨?_,by simp,by simp⟩
 rw[List.append_assoc]
 simp[List.getD_eq_getElem?_getD]
theorem aK0 (len:Int) (gs:List Gp) {i:Nat} (h:¬endG (gs++ [(len,len)]) i<((gs++ [(len,len)]).getD i (0,0)).1):(cZ (gs++ [(len,len)]) (i+1)).length=(cZ (gs++ [(len,len)]) i).length:=by
 rw[dI,if_neg h]
theorem b2211 (gs:List Gp) (h:gs.length≤4096):aH9 Tryz.prog [] {} Tryz.f211 [.seq tG gs] (.ref 0 1) tG gs 125:=by
 intro q hq
 (apply Br.mk<;>intro)
 ·rename_i h1
  have e:=hq h1
  subst e
  (conv=>whnf)
  (repeat' first|rfl|apply And.intro)
 ·(repeat'((conv=>whnf);first|refine Zn ?_|fail))
  (conv=>whnf)
  (repeat' first|rfl|apply And.intro)
def aP0:Con:=aBp 211 fun args K=>match args with | [.seq (.pair (.int .i64) (.int .i64)) gs]=>Need (List.length (α:=Gp) gs≤4096) (K (.ref 0 1) (.vec 1 (.pair (.int .i64) (.int .i64)) (gs) 125)) | _=>False
theorem k2211:aG Tryz.prog aP0:=by
 refine aEa (enters_of Tryz.func211 (by kernel_rfl) rfl) ?_
 intro args K h
 split at h
 ·rename_i gs;exact ⟨_,_,_,_,_,h.go,fun hfl=>lL (by simp) Tryz.func211 (by simp[Tryz.ntmps211]) hfl (b2211 gs h.ok)⟩
 ·exact h.elim
noncomputable abbrev itG (len:Int) (gs:List Gp) (k:Nat):List SV:=[.agg [I ((aN len 0 gs).getD k (0,0)).1,I ((aN len 0 gs).getD k (0,0)).2]]
theorem b2210 (w d len cnt cost:Int) (gs:List Gp) (h:List.length (α:=Gp) gs≤16):vW Tryz.prog [aP0] { asks:=[(0,[])] } Tryz.f210 [.lelem [I w,I d,I len,I cnt,I cost,.seq tG gs] 0] (aN len 0 gs).length (itG len gs):=by
 have hz:List.length (α:=Gp) (gs++ [(len,len)])=gs.length+1:=by simp
 (repeat'((conv=>whnf);first|refine Zg fun _=>?_|refine Zn ?_|(apply Pin.mk;apply Exists.intro)|apply Pinned.mk rfl rfl|(apply PinH.mk;apply Exists.intro;apply Exists.intro)|exact Zf|refine Zc ?_ ?_|refine Zl ?_|fail))
 refine Ask.mk ⟨{ X:=Nat,pre:=fun i=>i≤gs.length+1,mod:=fun i _=>[(3,I (endG (gs++ [(len,len)]) i)),(17,I i)],heap:=fun i H=>[.yst (some (cZ (gs++ [(len,len)]) i).length) (aN len 0 gs).length (itG len gs),hget H 1],mu:=fun i=>gs.length+1-i },rfl,?_⟩
 (repeat'((conv=>whnf);first|refine Zn ?_|fail))
 refine ⟨⟨(0:Nat),Nat.zero_le _,by (repeat' first|exact trivial|rfl|apply And.intro)⟩,fun (i:Nat) hi=>?_⟩
 have hi:i≤gs.length+1:=hi
 by_cases hlt:i<gs.length+1
 ·have he:endG (gs++ [(len,len)]) (i+1)=((gs++ [(len,len)]).getD i (0,0)).2:=by unfold endG;rw[if_neg (by omega)];rfl
  by_cases hc:endG (gs++ [(len,len)]) i<((gs++ [(len,len)]).getD i (0,0)).1
  ·obtain ⟨h1,h2,h3⟩:=aPe len gs hlt hc
   have hit:itG len gs (cZ (gs++ [(len,len)]) i).length= [.agg [I (endG (gs++ [(len,len)]) i),I ((gs++ [(len,len)]).getD i (0,0)).1]]:=by
    show [SV.agg [I ((aN len 0 gs).getD (cZ (gs++ [(len,len)]) i).length (0,0)).1,I ((aN len 0 gs).getD (cZ (gs++ [(len,len)]) i).length (0,0)).2]]= _
    rw[h1]
   (repeat'((conv=>whnf);first|refine Zg fun _=>?_|refine Zn ?_|refine Zj ?_|refine Zy ?_|fail))
   refine Need.mk (by rw[hit];(repeat' first|exact trivial|rfl|apply And.intro)) ?_
   refine Two.mk ?_ ?_
   ·(repeat'((conv=>whnf);first|refine Zn ?_|fail))
    refine ⟨(i+1:Nat),by show gs.length+1-(i+1)<gs.length+1-i;omega,hlt,?_⟩
    (repeat' first|exact trivial|rfl|apply And.intro)
    all_goals rw[h3]
   ·skip
    (conv=>whnf)
    trivial
  ·have h3:=aK0 len gs hc
   (repeat'((conv=>whnf);first|refine Zg fun _=>?_|refine Zn ?_|refine Zj ?_|refine Zy ?_|refine Zm ?_|fail))
   refine ⟨(i+1:Nat),by show gs.length+1-(i+1)<gs.length+1-i;omega,hlt,?_⟩
   (repeat' first|exact trivial|rfl|apply And.intro)
   all_goals rw[h3]
 ·have e:i=gs.length+1:=by omega
  subst e
  have hg:=aF1 len gs
  (repeat'((conv=>whnf);first|refine Zm ?_|fail))
  (conv=>whnf)
  all_goals rw[hg]
def aNv:Con:=aJ 210 false fun args K=>match args with | [.lelem [.val (.int .i64 w),.val (.int .i64 d),.val (.int .i64 len),.val (.int .i64 cnt),.val (.int .i64 cost),.seq (.pair (.int .i64) (.int .i64)) gs] 0]=>Need (List.length (α:=Gp) gs≤16) (K (.itr (aN len 0 gs).length (itG len gs))) | _=>False
theorem k2210:aG Tryz.prog aNv:=by
 refine kO Tryz.func210 fun args K h=>?_
 simp only[aNv] at h;split at h
 ·rename_i w d len cnt cost gs;exact ⟨_,h.go,fU (by simp[k2211]) Tryz.func210 (by simp[Tryz.ntmps210]) (b2210 w d len cnt cost gs h.ok)⟩
 ·exact h.elim
theorem b2171 (w d len cnt cost:Int) (gs:List Gp):body Tryz.prog [] {} false Tryz.f171 [.agg [I w,I d,I len,I cnt,I cost,.seq tG gs]] (.clo 210 [] [.lelem [I w,I d,I len,I cnt,I cost,.seq tG gs] 0]):=by
 (conv=>whnf)
 (repeat' first|exact trivial|rfl|apply And.intro)
def aNw:Con:=aJ 171 false fun args K=>match args with | [.agg [.val (.int .i64 w),.val (.int .i64 d),.val (.int .i64 len),.val (.int .i64 cnt),.val (.int .i64 cost),.seq (.pair (.int .i64) (.int .i64)) gs]]=>K (.clo 210 [] [.lelem [I w,I d,I len,I cnt,I cost,.seq (.pair (.int .i64) (.int .i64)) gs] 0]) | _=>False
theorem k2171:aG Tryz.prog aNw:=by
 refine kO Tryz.func171 fun args K h=>?_
 simp only[aNw] at h;split at h
 ·rename_i w d len cnt cost gs;exact ⟨_,h,triB Tryz.func171 Tryz.ntmps171 (by simp) (b2171 w d len cnt cost gs)⟩
 ·exact h.elim
theorem b2209 (w d len cnt cost:Int) (gs:List Gp) (h:List.length (α:=Gp) gs≤16):body Tryz.prog [aNv] { asks:=[(0,[1])] } true Tryz.f209 [.val (.slice none 0 0),.clo 210 [] [.lelem [I w,I d,I len,I cnt,I cost,.seq tG gs] 0]] (.seq tG (aN len 0 gs)):=by
 have hn:=sN (len:=len) gs 0
 refine Own.r ?_
 refine ⟨0,tG,125,?_⟩
 refine Ask.mk ⟨{ X:=Nat,pre:=fun i=>i≤(aN len 0 gs).length,mod:=fun _ _=>[],heap:=fun i H=>[hget H 0,.vec 1 tG ((aN len 0 gs).take i) 125,hget H 2],mu:=fun i=>i,objs:=[1] },rfl,?_⟩
 (repeat'((conv=>whnf);first|refine Zn ?_|fail))
 refine ⟨⟨(0:Nat),rfl,Nat.zero_le _,by (repeat' first|exact trivial|rfl|exact Nat.one_pos|apply And.intro)⟩,fun (i:Nat) hi (hlt:i<(aN len 0 gs).length)=>?_,fun (i:Nat) hi (he:i=(aN len 0 gs).length)=>?_⟩
 ·have hl:((aN len 0 gs).take i).length=i:=by rw[List.length_take];omega
  show hnfL (itG len gs i) _
  (repeat'((conv=>whnf);first|refine Zn ?_|refine Zl ?_|fail))
  refine ⟨(i+1:Nat),rfl,hlt,?_⟩
  (repeat' first|exact trivial|rfl|exact Nat.one_pos|apply And.intro)
  all_goals (rw[List.take_succ_eq_append_getElem hlt,List.getD_eq_getElem?_getD,List.getElem?_eq_getElem hlt];(repeat' first|rfl))
 ·subst he
  (conv=>whnf)
  rw[List.take_length]
def aNx:Con:=aJ 209 true fun args K=>match args with | [.val (.slice none 0 0),.clo 210 [] [.lelem [.val (.int .i64 w),.val (.int .i64 d),.val (.int .i64 len),.val (.int .i64 cnt),.val (.int .i64 cost),.seq (.pair (.int .i64) (.int .i64)) gs] 0]]=>Need (List.length (α:=Gp) gs≤16) (K (.seq (.pair (.int .i64) (.int .i64)) (aN len 0 gs))) | _=>False
theorem k2209:aG Tryz.prog aNx:=by
 refine kO Tryz.func209 fun args K h=>?_
 simp only[aNx] at h;split at h
 ·rename_i w d len cnt cost gs;exact ⟨_,h.go,triB Tryz.func209 Tryz.ntmps209 (by simp[k2210]) (b2209 w d len cnt cost gs h.ok)⟩
 ·exact h.elim
theorem b2170 (w d len cnt cost:Int) (gs:List Gp) (h:List.length (α:=Gp) gs≤16):body Tryz.prog [aNx] {} false Tryz.f170 [.clo 210 [] [.lelem [I w,I d,I len,I cnt,I cost,.seq tG gs] 0]] (.seq tG (aN len 0 gs)):=by
 (repeat'((conv=>whnf);first|refine Zn ?_|fail))
 (conv=>whnf)
def aNy:Con:=aJ 170 false fun args K=>match args with | [.clo 210 [] [.lelem [.val (.int .i64 w),.val (.int .i64 d),.val (.int .i64 len),.val (.int .i64 cnt),.val (.int .i64 cost),.seq (.pair (.int .i64) (.int .i64)) gs] 0]]=>Need (List.length (α:=Gp) gs≤16) (K (.seq (.pair (.int .i64) (.int .i64)) (aN len 0 gs))) | _=>False
theorem k2170:aG Tryz.prog aNy:=by
 refine kO Tryz.func170 fun args K h=>?_
 simp only[aNy] at h;split at h
 ·rename_i w d len cnt cost gs;exact ⟨_,h.go,triB Tryz.func170 Tryz.ntmps170 (by simp[k2209]) (b2170 w d len cnt cost gs h.ok)⟩
 ·exact h.elim
theorem b2114 (w d len cnt cost:Int) (gs:List Gp) (h:barE (w,d,len,cnt,cost,gs)=0):body Tryz.prog [aJn,aNw,aNy] {} false Tryz.f114 [.agg [I w,I d,I len,I cnt,I cost,.seq tG gs]] (.tup [.seq tG (aN len 0 gs),I 0]):=by
 have hl:=(lY h).2.2.1
 have hl:List.length (α:=Gp) gs≤16:=hl
 (repeat'((conv=>whnf);first|refine Zn ?_|refine Zm ?_|fail))
 (conv=>whnf)
 (repeat' first|exact trivial|rfl|apply And.intro)
def aNz:Con:=aJ 114 false fun args K=>match args with | [.agg [.val (.int .i64 w),.val (.int .i64 d),.val (.int .i64 len),.val (.int .i64 cnt),.val (.int .i64 cost),.seq (.pair (.int .i64) (.int .i64)) gs]]=>Need (barE (w,d,len,cnt,cost,gs)=0) (K (.tup [.seq (.pair (.int .i64) (.int .i64)) (aN len 0 gs),I 0])) | _=>False
theorem k2114:aG Tryz.prog aNz:=by
 refine kO Tryz.func114 fun args K h=>?_
 simp only[aNz] at h;split at h
 ·rename_i w d len cnt cost gs;exact ⟨_,h.go,triB Tryz.func114 Tryz.ntmps114 (by simp[aPy,k2171,k2170]) (b2114 w d len cnt cost gs h.ok)⟩
 ·exact h.elim
end RB
end
section
open Go Go.Proofs Go.Eng Go.Shelf IB Go.Lib Go.RowKit
namespace RB
theorem b2055 (xs:List Int) (bars:List Bar) (k:Int):body Tryz.prog [NB.c36,aNo,aNz,c22,c38n,c19n] { asks:=[(0,[]),(2,[]),(4,[])] } true Tryz.f55 [Ls xs,.seq tB bars,I k] (.tup [S (fO xs bars k).1,I (fO xs bars k).2]):=by
 by_cases hp:NB.piecesE xs k=0
 ·have hr:=mB hp
  obtain ⟨hl,hx,hk0,hk1⟩:=sO hp
  by_cases hb:kS bars=0
  ·obtain ⟨hbl,hbk⟩:=aFb hb
   have e0:fO xs bars k=if xs.length=0 then ([48],0) else if (aU k bars bars.length).2=0 then ([],22) else (numS (Rat.divInt (aU k bars bars.length).1 (aU k bars bars.length).2*((sumX xs k:Int):Rat)),0):=by unfold fO;rw[if_neg (fun h=>h hp),if_neg (fun h=>h hb)]
   (repeat'((conv=>whnf);first|refine Zg fun _=>?_|refine Zm ?_|fail))
   refine Ask.mk ⟨{ X:=Nat,pre:=fun i=>i≤xs.length,mod:=fun i _=>[(9,I (NB.psum (· +k) xs i)),(38,I i)],heap:=fun i H=>H,mu:=fun i=>xs.length-i },rfl,?_⟩
   (repeat'((conv=>whnf);first|refine Zn ?_|fail))
   refine ⟨⟨(0:Nat),Nat.zero_le _,by (repeat' first|exact trivial|rfl|apply And.intro)⟩,fun (i:Nat) hi=>?_⟩
   have hi:i≤xs.length:=hi
   have hri:=hr i hi
   by_cases hlt:i<xs.length
   ·have hs:=NB.psum_succ (· +k) xs i hlt
    have hxi:=hx i hlt
    (repeat'((conv=>whnf);first|refine Zg fun _=>?_|refine Zn ?_|refine Zj ?_|refine Zy ?_|fail))
    refine ⟨(i+1:Nat),by show xs.length-(i+1)<xs.length-i;omega,hlt,?_⟩
    (repeat' first|exact trivial|rfl|apply And.intro|omega)
   ·have e:i=xs.length:=by omega
    subst e
    have hsx:NB.psum (· +k) xs xs.length=sumX xs k:=rfl
    by_cases hx0:xs.length=0
    ·rw[if_pos hx0] at e0
     rw[e0]
     have hz:NB.psum (· +k) xs xs.length=0:=by have:=hr xs.length (Nat.le_refl _);omega
     (repeat'((conv=>whnf);first|refine Zy ?_|refine Zm ?_|fail))
     (conv=>whnf)
     (repeat' first|exact trivial|rfl|apply And.intro)
    ·rw[if_neg hx0] at e0
     (repeat'((conv=>whnf);first|refine Zg fun _=>?_|refine Zm ?_|fail))
     refine Ask.mk ⟨{ X:=Nat,pre:=fun i=>i≤bars.length,mod:=fun i _=>[(12,S (lsS (aU k bars i))),(13,.bl (¬(aU k bars i).2=0) inferInstance),(52,I i)],heap:=fun i H=>H,mu:=fun i=>bars.length-i },rfl,?_⟩
     (repeat'((conv=>whnf);first|refine Zn ?_|fail))
     refine ⟨⟨(0:Nat),Nat.zero_le _,by ((repeat' first|exact trivial|rfl|apply And.intro);all_goals (show ¬ ¬(aU k bars 0).2=0;exact fun h=>h rfl))⟩,fun (j:Nat) hj=>?_⟩
     have hj:j≤bars.length:=hj
     have hbn:=nO ⟨hk0,hk1⟩ hbk j hj
     by_cases hjl:j<bars.length
     ·have hbj:=hbk j hjl
      have hcr:=mA ⟨hk0,hk1⟩ hbj
      have hco:=(lY hbj).2.1
      have hpre:barE ((bars.getD j (0,0,0,0,0,[])).1,(bars.getD j (0,0,0,0,0,[])).2.1,(bars.getD j (0,0,0,0,0,[])).2.2.1,(bars.getD j (0,0,0,0,0,[])).2.2.2.1,(bars.getD j (0,0,0,0,0,[])).2.2.2.2.1,(bars.getD j (0,0,0,0,0,[])).2.2.2.2.2)=0:=hbj
      have hin:∀g∈(aN (bars.getD j (0,0,0,0,0,[])).2.2.1 0 (bars.getD j (0,0,0,0,0,[])).2.2.2.2.2),0≤g.1∧g.1≤g.2∧g.2≤65536:=aC5 hbj
      have hlf:(aN (bars.getD j (0,0,0,0,0,[])).2.2.1 0 (bars.getD j (0,0,0,0,0,[])).2.2.2.2.2).length≤17:=hcr.2.2
      have hrc:=fun i=>lZ ⟨hk0,hk1⟩ hin i
      (repeat'((conv=>whnf);first|refine Zg fun _=>?_|refine Zn ?_|refine Zj ?_|refine Zl ?_|refine Zy ?_|refine Zm ?_|fail))
      refine Ask.mk ⟨{ X:=Nat,pre:=fun i=>i≤(aN (bars.getD j (0,0,0,0,0,[])).2.2.1 0 (bars.getD j (0,0,0,0,0,[])).2.2.2.2.2).length,mod:=fun i _=>[(18,I (capT k (aN (bars.getD j (0,0,0,0,0,[])).2.2.1 0 (bars.getD j (0,0,0,0,0,[])).2.2.2.2.2) i)),(66,I i)],heap:=fun i H=>H,mu:=fun i=>(aN (bars.getD j (0,0,0,0,0,[])).2.2.1 0 (bars.getD j (0,0,0,0,0,[])).2.2.2.2.2).length-i },rfl,?_⟩
      (repeat'((conv=>whnf);first|refine Zn ?_|fail))
      refine ⟨⟨(0:Nat),Nat.zero_le _,by (repeat' first|exact trivial|rfl|apply And.intro)⟩,fun (m:Nat) hm=>?_⟩
      have hm:m≤(aN (bars.getD j (0,0,0,0,0,[])).2.2.1 0 (bars.getD j (0,0,0,0,0,[])).2.2.2.2.2).length:=hm
      have hrm:=hrc m
      by_cases hml:m<(aN (bars.getD j (0,0,0,0,0,[])).2.2.1 0 (bars.getD j (0,0,0,0,0,[])).2.2.2.2.2).length
      ·have hg:=hin _ (kR (d:=(0,0)) hml)
       have hs:=sM k hml
       (repeat'((conv=>whnf);first|refine Zg fun _=>?_|refine Zn ?_|refine Zj ?_|refine Zy ?_|fail))
       refine ⟨(m+1:Nat),by show (aN (bars.getD j (0,0,0,0,0,[])).2.2.1 0 (bars.getD j (0,0,0,0,0,[])).2.2.2.2.2).length-(m+1)<(aN (bars.getD j (0,0,0,0,0,[])).2.2.1 0 (bars.getD j (0,0,0,0,0,[])).2.2.2.2.2).length-m;omega,hml,?_⟩
       (repeat' first|exact trivial|rfl|apply And.intro|omega)
      ·have e:m=(aN (bars.getD j (0,0,0,0,0,[])).2.2.1 0 (bars.getD j (0,0,0,0,0,[])).2.2.2.2.2).length:=by omega
       subst e
       have hcap:capT k (aN (bars.getD j (0,0,0,0,0,[])).2.2.1 0 (bars.getD j (0,0,0,0,0,[])).2.2.2.2.2) (aN (bars.getD j (0,0,0,0,0,[])).2.2.1 0 (bars.getD j (0,0,0,0,0,[])).2.2.2.2.2).length=capB k (bars.getD j (0,0,0,0,0,[])):=by unfold capT;rw[List.take_length];rfl
       have hst:aU k bars (j+1)=if 0<capB k (bars.getD j (0,0,0,0,0,[]))∧((aU k bars j).2=0∨(bars.getD j (0,0,0,0,0,[])).2.2.2.2.1*(aU k bars j).2<(aU k bars j).1*capB k (bars.getD j (0,0,0,0,0,[]))) then ((bars.getD j (0,0,0,0,0,[])).2.2.2.2.1,capB k (bars.getD j (0,0,0,0,0,[]))) else aU k bars j:=rfl
       by_cases h1:0<capB k (bars.getD j (0,0,0,0,0,[]))
       ·rw[← hcap] at h1 hst
        have hcr2:(capT k (aN (bars.getD j (0,0,0,0,0,[])).2.2.1 0 (bars.getD j (0,0,0,0,0,[])).2.2.2.2.2) (aN (bars.getD j (0,0,0,0,0,[])).2.2.1 0 (bars.getD j (0,0,0,0,0,[])).2.2.2.2.2).length)≤1190000:=by rw[hcap];exact hcr.2.1
        have hq:ofQ (bars.getD j (0,0,0,0,0,[])).2.2.2.2.1 (capT k (aN (bars.getD j (0,0,0,0,0,[])).2.2.1 0 (bars.getD j (0,0,0,0,0,[])).2.2.2.2.2) (aN (bars.getD j (0,0,0,0,0,[])).2.2.1 0 (bars.getD j (0,0,0,0,0,[])).2.2.2.2.2).length)=(numS (Rat.divInt (bars.getD j (0,0,0,0,0,[])).2.2.2.2.1 (capT k (aN (bars.getD j (0,0,0,0,0,[])).2.2.1 0 (bars.getD j (0,0,0,0,0,[])).2.2.2.2.2) (aN (bars.getD j (0,0,0,0,0,[])).2.2.1 0 (bars.getD j (0,0,0,0,0,[])).2.2.2.2.2).length)),0):=aIr h1
        have hls:lsS ((bars.getD j (0,0,0,0,0,[])).2.2.2.2.1,(capT k (aN (bars.getD j (0,0,0,0,0,[])).2.2.1 0 (bars.getD j (0,0,0,0,0,[])).2.2.2.2.2) (aN (bars.getD j (0,0,0,0,0,[])).2.2.1 0 (bars.getD j (0,0,0,0,0,[])).2.2.2.2.2).length))=numS (Rat.divInt (bars.getD j (0,0,0,0,0,[])).2.2.2.2.1 (capT k (aN (bars.getD j (0,0,0,0,0,[])).2.2.1 0 (bars.getD j (0,0,0,0,0,[])).2.2.2.2.2) (aN (bars.getD j (0,0,0,0,0,[])).2.2.1 0 (bars.getD j (0,0,0,0,0,[])).2.2.2.2.2).length)):=by unfold lsS;rw[if_neg (by dsimp only;omega)]
        by_cases h2:(aU k bars j).2=0
        ·rw[if_pos ⟨h1,Or.inl h2⟩] at hst
         have hcm:cmpQ (ofQ (bars.getD j (0,0,0,0,0,[])).2.2.2.2.1 (capT k (aN (bars.getD j (0,0,0,0,0,[])).2.2.1 0 (bars.getD j (0,0,0,0,0,[])).2.2.2.2.2) (aN (bars.getD j (0,0,0,0,0,[])).2.2.1 0 (bars.getD j (0,0,0,0,0,[])).2.2.2.2.2).length)).1 (lsS (aU k bars j))=(cmpR (Rat.divInt (bars.getD j (0,0,0,0,0,[])).2.2.2.2.1 (capT k (aN (bars.getD j (0,0,0,0,0,[])).2.2.1 0 (bars.getD j (0,0,0,0,0,[])).2.2.2.2.2) (aN (bars.getD j (0,0,0,0,0,[])).2.2.1 0 (bars.getD j (0,0,0,0,0,[])).2.2.2.2.2).length)) 0,0):=by
          rw[show lsS (aU k bars j)=lsS ((aU k bars j).1,0) by unfold lsS;rw[if_pos h2,if_pos rfl],hq]
          exact aOg hco ⟨h1,hcr2⟩
         (repeat'((conv=>whnf);first|refine Zn ?_|refine .h ?_|refine Zy ?_|refine Zm ?_|fail))
         refine ⟨(j+1:Nat),by show bars.length-(j+1)<bars.length-j;omega,hjl,?_⟩
         (repeat' first|exact trivial|rfl|apply And.intro)
         all_goals first
          | (show (ofQ (bars.getD j (0,0,0,0,0,[])).2.2.2.2.1 (capT k (aN (bars.getD j (0,0,0,0,0,[])).2.2.1 0 (bars.getD j (0,0,0,0,0,[])).2.2.2.2.2) (aN (bars.getD j (0,0,0,0,0,[])).2.2.1 0 (bars.getD j (0,0,0,0,0,[])).2.2.2.2.2).length)).1=lsS (aU k bars (j+1));rw[hst,hq,hls])
          | (show ¬(aU k bars (j+1)).2=0;rw[hst];dsimp only;omega)
        ·obtain ⟨hc1,hc2⟩:=aQa (c:=(aU k bars j).1) (r:=(aU k bars j).2) hbn.1 ⟨by omega,hbn.2.2⟩ hco ⟨h1,hcr2⟩
         have hcm:cmpQ (ofQ (bars.getD j (0,0,0,0,0,[])).2.2.2.2.1 (capT k (aN (bars.getD j (0,0,0,0,0,[])).2.2.1 0 (bars.getD j (0,0,0,0,0,[])).2.2.2.2.2) (aN (bars.getD j (0,0,0,0,0,[])).2.2.1 0 (bars.getD j (0,0,0,0,0,[])).2.2.2.2.2).length)).1 (lsS (aU k bars j))=(cmpR (Rat.divInt (bars.getD j (0,0,0,0,0,[])).2.2.2.2.1 (capT k (aN (bars.getD j (0,0,0,0,0,[])).2.2.1 0 (bars.getD j (0,0,0,0,0,[])).2.2.2.2.2) (aN (bars.getD j (0,0,0,0,0,[])).2.2.1 0 (bars.getD j (0,0,0,0,0,[])).2.2.2.2.2).length)) (Rat.divInt (aU k bars j).1 (aU k bars j).2),0):=by rw[hq];exact hc1
         by_cases h3:cmpR (Rat.divInt (bars.getD j (0,0,0,0,0,[])).2.2.2.2.1 (capT k (aN (bars.getD j (0,0,0,0,0,[])).2.2.1 0 (bars.getD j (0,0,0,0,0,[])).2.2.2.2.2) (aN (bars.getD j (0,0,0,0,0,[])).2.2.1 0 (bars.getD j (0,0,0,0,0,[])).2.2.2.2.2).length)) (Rat.divInt (aU k bars j).1 (aU k bars j).2)<0
         ·rw[if_pos ⟨h1,Or.inr (hc2.1 h3)⟩] at hst
          (repeat'((conv=>whnf);first|refine Zn ?_|refine .h ?_|refine Zy ?_|refine Zm ?_|fail))
          refine ⟨(j+1:Nat),by show bars.length-(j+1)<bars.length-j;omega,hjl,?_⟩
          (repeat' first|exact trivial|rfl|apply And.intro)
          all_goals first
           | (show (ofQ (bars.getD j (0,0,0,0,0,[])).2.2.2.2.1 (capT k (aN (bars.getD j (0,0,0,0,0,[])).2.2.1 0 (bars.getD j (0,0,0,0,0,[])).2.2.2.2.2) (aN (bars.getD j (0,0,0,0,0,[])).2.2.1 0 (bars.getD j (0,0,0,0,0,[])).2.2.2.2.2).length)).1=lsS (aU k bars (j+1));rw[hst,hq,hls])
           | (show ¬(aU k bars (j+1)).2=0;rw[hst];dsimp only;omega)
         ·rw[if_neg (fun h=>h.2.elim h2 fun h4=>h3 (hc2.2 h4))] at hst
          (repeat'((conv=>whnf);first|refine Zn ?_|refine .h ?_|refine Zm ?_|fail))
          refine ⟨(j+1:Nat),by show bars.length-(j+1)<bars.length-j;omega,hjl,?_⟩
          (repeat' first|exact trivial|rfl|apply And.intro)
          all_goals first
           | (show lsS (aU k bars j)=lsS (aU k bars (j+1));rw[hst])
           | (show (¬(aU k bars j).2=0)↔(¬(aU k bars (j+1)).2=0);rw[hst])
       ·rw[if_neg (fun h=>h1 h.1)] at hst
        (repeat'((conv=>whnf);first|refine Zn ?_|refine Zy ?_|refine Zm ?_|fail))
        refine ⟨(j+1:Nat),by show bars.length-(j+1)<bars.length-j;omega,hjl,?_⟩
        (repeat' first|exact trivial|rfl|apply And.intro)
        all_goals first
         | (show lsS (aU k bars j)=lsS (aU k bars (j+1));rw[hst])
         | (show (¬(aU k bars j).2=0)↔(¬(aU k bars (j+1)).2=0);rw[hst])
     ·have e:j=bars.length:=by omega
      subst e
      by_cases hz:(aU k bars bars.length).2=0
      ·rw[if_pos hz] at e0
       rw[e0]
       (repeat'((conv=>whnf);first|refine Zy ?_|refine Zm ?_|fail))
       (conv=>whnf)
       (repeat' first|exact trivial|rfl|apply And.intro)
      ·rw[if_neg hz] at e0
       have hm:mulQ (ofQ (NB.psum (· +k) xs xs.length) 1).1 (lsS (aU k bars bars.length))=(numS (Rat.divInt (aU k bars bars.length).1 (aU k bars bars.length).2*((sumX xs k:Int):Rat)),0):=by
        have hs:=xS hp
        unfold lsS
        rw[if_neg hz,aIq,← eT,Rat.mul_comm]
        exact aDg (i:=11) (j:=11) (aDh (sz11 (by omega) (by omega)) (by decide)) (rH (by omega) (sz11 hbn.1.1 hbn.1.2) (sz11 (by omega) (by omega))) (by decide) (by decide) (by decide)
       rw[e0]
       (repeat'((conv=>whnf);first|refine Zn ?_|refine .h ?_|refine Zm ?_|fail))
       conv=>whnf
       (conv=>whnf)
       (repeat' first|exact trivial|rfl|apply And.intro)
  ·rw[show fO xs bars k=([],1) by unfold fO;rw[if_neg (fun h=>h hp),if_pos hb]]
   (repeat'((conv=>whnf);first|refine Zy ?_|refine Zm ?_|fail))
   (conv=>whnf)
   (repeat' first|exact trivial|rfl|apply And.intro)
 ·rw[show fO xs bars k=([],NB.piecesE xs k) by unfold fO;rw[if_pos hp]]
  (repeat'((conv=>whnf);first|refine Zy ?_|fail))
  (conv=>whnf)
  (repeat' first|exact trivial|rfl|apply And.intro)
def aN0:Con:=aJ 55 true fun args K=>match args with | [.seq (.int .i64) xs,.seq (.pair (.int .i64) (.pair (.int .i64) (.pair (.int .i64) (.pair (.int .i64) (.pair (.int .i64) (.slice (.pair (.int .i64) (.int .i64)))))))) bars,.val (.int .i64 k)]=>K (.tup [S (fO xs bars k).1,I (fO xs bars k).2]) | _=>False
theorem k2055:aG Tryz.prog aN0:=by
 refine kO Tryz.func55 fun args K h=>?_
 simp only[aN0] at h;split at h
 ·rename_i xs bars k;exact ⟨_,h,triB Tryz.func55 Tryz.ntmps55 (by simp[NB.k36,k2113,k2114,k22,k38n,k19n]) (b2055 xs bars k)⟩
 ·exact h.elim
end RB
end
section
open Go Go.Proofs Go.Eng Go.Shelf IB Go.Lib Go.RowKit
namespace RB
def gbP (l:List Bar):Prop:=(∃i,i<l.length∧4<(l.getD i (0,0,0,0,0,[])).2.2.2.2.2.length)∨6<l.length
theorem b2058 (bars:List Bar):body Tryz.prog [] { asks:=[(0,[])] } true Tryz.f58 [.seq tB bars] (.bl (gbP bars) (Classical.propDecidable _)):=by
 refine Ask.mk ⟨{ X:=Nat,pre:=fun i=>i≤bars.length∧∀j,j<i→¬4<(bars.getD j (0,0,0,0,0,[])).2.2.2.2.2.length,mod:=fun i _=>[(3,I i)],mu:=fun i=>bars.length-i },rfl,?_⟩
 (repeat'((conv=>whnf);first|refine Zn ?_|fail))
 refine ⟨⟨(0:Nat),⟨Nat.zero_le _,fun j hj=>by omega⟩,by (repeat' first|exact trivial|rfl|apply And.intro)⟩,fun (i:Nat) hi=>?_⟩
 obtain ⟨hi,hall⟩:=hi
 by_cases hlt:i<bars.length
 ·by_cases hc:4<(bars.getD i (0,0,0,0,0,[])).2.2.2.2.2.length
  ·(repeat'((conv=>whnf);first|refine Zg fun _=>?_|refine Zn ?_|refine Zj ?_|refine Zy ?_|fail))
   (conv=>whnf)
   exact .inl ⟨i,hlt,hc⟩
  ·(repeat'((conv=>whnf);first|refine Zg fun _=>?_|refine Zn ?_|refine Zj ?_|refine Zy ?_|refine Zm ?_|fail))
   refine ⟨(i+1:Nat),by show bars.length-(i+1)<bars.length-i;omega,⟨hlt,fun j hj=>?_⟩,by (repeat' first|exact trivial|rfl|apply And.intro)⟩
   by_cases e:j=i
   ·subst e;exact hc
   ·exact hall j (by omega)
 ·have e:i=bars.length:=by omega
  subst e
  (repeat'((conv=>whnf);first|refine Zg fun _=>?_|refine Zm ?_|fail))
  (conv=>whnf)
  exact ⟨fun h=>.inr (by omega),fun h=>h.elim (fun ⟨i,h1,h2⟩=>absurd h2 (hall i h1)) (fun h=>by omega)⟩
def aN1:Con:=aJ 58 true fun args K=>match args with | [.seq (.pair (.int .i64) (.pair (.int .i64) (.pair (.int .i64) (.pair (.int .i64) (.pair (.int .i64) (.slice (.pair (.int .i64) (.int .i64)))))))) l]=>K (.bl (gbP l) (Classical.propDecidable _)) | _=>False
theorem k2058:aG Tryz.prog aN1:=by
 refine kO Tryz.func58 fun args K h=>?_
 simp only[aN1] at h;split at h
 ·rename_i l;exact ⟨_,h,triB Tryz.func58 Tryz.ntmps58 (by simp) (b2058 l)⟩
 ·exact h.elim
theorem b2011 (xs ws:List Int) (s L k:Int) (bars:List Bar):body Tryz.prog [NB.c10,aN1,NB.c11,NB.c20,aNs,aN0,aNu] {} true Tryz.f11 [Ls xs,Ls ws,I s,I L,I k,.seq tB bars] (.val (.bool true)):=by
 (repeat'((conv=>whnf);first|refine Zy ?_|refine Zr (fun _=>?_) fun _=>?_|fail))
 all_goals (conv=>whnf)
 all_goals (exfalso;contradiction)
theorem t2011 (xs ws:List Int) (s L k:Int) (bars:List Bar) (_:Okd (.slice (.int .i64)) xs) (_:Okd (.slice (.int .i64)) ws) (_:inK .i64 s) (_:inK .i64 L) (_:inK .i64 k) (_:Okd (.slice tB) bars):Tri Tryz.prog true 11 [Ls xs,Ls ws,I s,I L,I k,.seq tB bars] (.val (.bool true)):=
 triB Tryz.func11 Tryz.ntmps11 (by simp[NB.k10,k2058,NB.k11,NB.k20,k2060,k2055,k2061]) (b2011 xs ws s L k bars)
end RB
end

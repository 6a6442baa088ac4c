/-
  Part 7: a symbolic executor over the model, contracts of functions and plain laws.
-/
import Derived.Test.YtabmgmflgfoleaaGreatDoorP6
import Init.Data.Rat
set_option linter.unusedVariables false
set_option linter.unusedSimpArgs false
set_option maxRecDepth 10000
set_option maxHeartbeats 2000000
section
open Go Go.Proofs Go.Eng Go.Shelf IB Go.Lib Go.RowKit
namespace RB
theorem aMo {n:Int} (h:lim n=true):chkI (itoa n)=4:=by
 rw[gP (fH n),bR]
 unfold lim at h
 rw[if_pos (by simpa using h)]
theorem b115 (p:Prop) (hp:Decidable p) (a:List Int) (h:dB a∧a.length≤200):body Tryz.prog [c116,c139] {} true Tryz.f198 [.agg [.bl p hp,Ls a]] (.tup [S (resI (sgP p (valB B6 a))).1,I (resI (sgP p (valB B6 a))).2]):=by
 cases hl:lim (sgP p (valB B6 a)) with
 | true=>
  have e1:=aMo hl
  have e2:resI (sgP p (valB B6 a))=([],4):=by unfold resI;rw[if_pos hl]
  rw[e2]
  (repeat' first|refine ZG ?_|fail)
  refine Br.mkY (show ¬chkI (itoa (sgP p (valB B6 a)))=0 by rw[e1];decide) ?_
  (conv=>whnf)
  (repeat' first|exact trivial|rfl|refine And.intro ?_ ?_)
 | false=>
  have e1:=bB hl
  have e2:resI (sgP p (valB B6 a))=(itoa (sgP p (valB B6 a)),0):=by unfold resI;rw[if_neg (by rw[hl];decide)]
  rw[e2]
  (repeat' first|refine ZG ?_|fail)
  refine Br.mkN (show ¬ ¬chkI (itoa (sgP p (valB B6 a)))=0 by rw[e1];simp) ?_
  (conv=>whnf)
  (repeat' first|exact trivial|rfl|refine And.intro ?_ ?_)
def c115:Con:=aL 198 true fun args K=>match args with
 | [.agg [.bl p hp,.seq (.int .i64) a]]=>Need (dB a∧a.length≤200) (K (.tup [S (resI (@sgP p hp (valB B6 a))).1,I (resI (@sgP p hp (valB B6 a))).2]))
 | [.agg [.val (.bool false),.seq (.int .i64) a]]=>Need (dB a∧a.length≤200) (K (.tup [S (resI (valB B6 a)).1,I (resI (valB B6 a)).2]))
 | _=>False
theorem k115:aI Tryz.prog c115:=by
 refine aD rfl (enters_of Tryz.func198 (by kernel_rfl) rfl) ?_
 intro args K h
 simp only[c115] at h
 split at h
 ·rename_i p hp a
  exact ⟨_,h.go,aB (by simp[k116,k139]) Tryz.func198 (by simp[Tryz.ntmps198]) rfl (b115 p hp a h.ok)⟩
 ·rename_i a
  refine ⟨_,h.go,?_⟩
  have ht:=aB (by simp[k116,k139]) Tryz.func198 (by simp[Tryz.ntmps198]) rfl (b115 False inferInstance a h.ok)
  refine sG (args:=[.agg [.bl False inferInstance,Ls a]]) ht ⟨⟨fun h=>h,?_,trivial⟩,trivial⟩
  rfl
 ·exact h.elim
set_option maxHeartbeats 4000000 in
theorem b153 (p:Prop) (hp:Decidable p) (m:Nat) (q:Prop) (hq:Decidable q) (n:Nat) (hm:m<B6^110) (hn:n<B6^110):
  body Tryz.prog [c145] {} false Tryz.f200 [.agg [.bl p hp,Ls (aA B6 m)],.agg [.bl q hq,Ls (aA B6 n)]] (.agg [.bl (¬(p↔q)∧m*n≠0) inferInstance,Ls (aA B6 (m*n))]):=by
 have im:InB B6 (aA B6 m):=aQ (by decide) m
 have jn:InB B6 (aA B6 n):=aQ (by decide) n
 have lm:=cV hm
 have ln:=cV hn
 have vm:=v6 m
 have vn:=v6 n
 have e2:(valB B6 (aA B6 m)*valB B6 (aA B6 n)).toNat=m*n:=by rw[vm,vn,← Int.natCast_mul,Int.toNat_natCast]
 have hN:InB B6 (aA B6 m)∧InB B6 (aA B6 n)∧(aA B6 m).length≤100000∧(aA B6 n).length≤100000:=⟨im,jn,by omega,by omega⟩
 refine Own.l ?_
 (repeat'((conv=>whnf);first|refine Zg fun _=>?_|refine Zn ?_|(apply Pin.mk;apply Exists.intro)|apply Pinned.mk rfl rfl|exact Zf|refine Zc ?_ ?_|fail))
 (refine Br.mk (fun _=>?_) (fun _=>?_))
 ·rename_i hz
  have e0:m*n=0:=by
   rw[e2] at hz
   exact (gA _).1 (by omega)
  (conv=>whnf)
  (repeat' first|exact trivial|refine And.intro ?_ ?_)
  ·exact fun h'=>h'.2 e0
  ·skip
   exact congrArg (aA B6) e2
 ·rename_i hz
  have e0:m*n≠0:=fun h'=>hz (by rw[e2,h',aZ];rfl)
  (conv=>whnf)
  (repeat' first|exact trivial|refine And.intro ?_ ?_)
  ·exact ⟨fun h'=>⟨h',e0⟩,fun h'=>h'.1⟩
  ·skip
   exact congrArg (aA B6) e2
def c153:Con:=aL 200 false fun args K=>match args with
 | [.agg [.bl p hp,.seq (.int .i64) a],.agg [.bl q hq,.seq (.int .i64) b]]=>Need (iY p a∧iY q b) (K (.agg [.bl (¬(p↔q)∧(valB B6 a).toNat*(valB B6 b).toNat≠0) inferInstance,Ls (aA B6 ((valB B6 a).toNat*(valB B6 b).toNat))]))
 | _=>False
theorem k153:aI Tryz.prog c153:=by
 refine aD rfl (enters_of Tryz.func200 (by kernel_rfl) rfl) ?_
 intro args K h
 simp only[c153] at h
 split at h
 ·rename_i p hp a q hq b
  refine ⟨_,h.go,?_⟩
  obtain ⟨⟨ha,hm,hpm⟩,hb,hn,hqn⟩:=h.ok
  have ht:=aB (by simp[k145]) Tryz.func200 (by simp[Tryz.ntmps200]) rfl (b153 p hp (valB B6 a).toNat q hq (valB B6 b).toNat hm hn)
  rw[ha,hb] at ht
  exact ht
 ·exact h.elim
theorem dR {s:List UInt8} (h:form s) (hl:(digs s).length≤300):iY (s.headD 0=45) (aA B6 (aC (digs s))):=by
 refine ⟨bV _,?_,?_⟩
 ·rw[v6,Int.toNat_natCast]
  exact Nat.lt_of_lt_of_le (dW h hl) (Nat.pow_le_pow_right (by decide) (by omega))
 ·intro hm
  rw[v6,Int.toNat_natCast]
  refine Nat.pos_of_ne_zero fun e=>?_
  have h1:=zI.1 h
  have h2:valI s=0:=by rw[cP,e];unfold sgP;split<;>rfl
  rw[h2,itoa_zero] at h1
  rw[h1] at hm
  revert hm;decide
theorem aQ8 (a b:List UInt8):sgP (addS (a.headD 0=45) (valB B6 (aA B6 (aC (digs a)))).toNat (b.headD 0=45) (valB B6 (aA B6 (aC (digs b)))).toNat) (valB B6 (aA B6 (addN (a.headD 0=45) (valB B6 (aA B6 (aC (digs a)))).toNat (b.headD 0=45) (valB B6 (aA B6 (aC (digs b)))).toNat)))=valI a+valI b:=by
 simp only[v6,Int.toNat_natCast,aHg,cP]
theorem aQ9 (p:Prop) [Decidable p] (m:Nat) (q:Prop) [Decidable q] (n:Nat):addN p m q n≤m+n:=by
 unfold addN;split
 ·omega
 ·split<;>omega
theorem aAq {p q:Prop} [Decidable p] [Decidable q] {m n:Nat} (hm:m<B6^110) (hn:n<B6^110):dB (aA B6 (addN p m q n))∧(aA B6 (addN p m q n)).length≤200:=by
 refine ⟨bV _,?_⟩
 have h1:=aQ9 p m q n
 have h2:B6^111=B6^110*B6:=Nat.pow_succ ..
 have h3:B6^110*2≤B6^110*B6:=Nat.mul_le_mul_left _ (by decide)
 have:=cV (m:=addN p m q n) (k:=111) (by omega)
 omega
theorem b103 (a b:List UInt8):body Tryz.prog [c110,c111,c61,c112,c114,c115] {} true Tryz.f150 [S a,S b] (.tup [S (bE a b (resI (valI a+valI b))).1,I (bE a b (resI (valI a+valI b))).2]):=by
 unfold bE
 (refine Br.mk (fun _=>?_) (fun _=>?_))
 ·rename_i h
  rw[if_pos h]
  (conv=>whnf)
  (repeat' first|exact trivial|rfl|refine And.intro ?_ ?_)
 ·rename_i h
  rw[if_neg h]
  obtain ⟨ha,hb⟩:=iJ h
  obtain ⟨fa,la⟩:=bK ha
  obtain ⟨fb,lb⟩:=bK hb
  have zA:=dR fa la
  have zB:=dR fb lb
  have hv:=aQ8 a b
  refine Need.mk ⟨fa,fb⟩ ?_
  (refine Br.mk (fun _=>?_) (fun _=>?_))
  ·rename_i hs
   have h1:=dQ fa hs.1
   have h2:=dQ fb hs.2
   rw[fZ (by omega)]
   (repeat' first|refine ZG ?_|fail)
   (conv=>whnf)
   (repeat' first|exact trivial|rfl|refine And.intro ?_ ?_)
  ·have tail:∀x:Nat,True:=fun _=>trivial
   (refine Br.mk (fun _=>?_) (fun _=>?_))
   all_goals
    refine Need.mk ⟨fa,by omega⟩ ?_
    refine Need.mk ⟨fb,by omega⟩ ?_
    refine Need.mk ⟨zA,zB⟩ ?_
    refine Need.mk (aAq zA.2.1 zB.2.1) ?_
    (conv=>whnf)
    (repeat' first|exact trivial|rfl|refine And.intro ?_ ?_)
    ·exact congrArg (fun z=>(resI z).1) hv
    ·exact congrArg (fun z=>(resI z).2) hv
def c103:Con:=aL 150 true fun args K=>match args with | [.str a,.str b]=>K (.tup [S (bE a b (resI (valI a+valI b))).1,I (bE a b (resI (valI a+valI b))).2]) | _=>False
theorem k103:aI Tryz.prog c103:=by
 refine aD rfl (enters_of Tryz.func150 (by kernel_rfl) rfl) ?_
 intro args K h
 simp only[c103] at h
 split at h
 ·rename_i a b;exact ⟨_,h,aB (by simp[k110,k111,k61,k112,k114,k115]) Tryz.func150 (by simp[Tryz.ntmps150]) rfl (b103 a b)⟩
 ·exact h.elim
theorem aPf (p q:Prop) [Decidable p] [Decidable q] (m n:Nat):sgP (¬(p↔q)∧m*n≠0) ((m*n:Nat):Int)=sgP p m*sgP q n:=by
 rw[← aKu,← Int.natCast_mul]
 unfold sgP
 by_cases h:m*n=0
 ·simp[h]
 ·simp[h]
theorem aRa (a b:List UInt8):sgP (¬(a.headD 0=45↔b.headD 0=45)∧(valB B6 (aA B6 (aC (digs a)))).toNat*(valB B6 (aA B6 (aC (digs b)))).toNat≠0) (valB B6 (aA B6 ((valB B6 (aA B6 (aC (digs a)))).toNat*(valB B6 (aA B6 (aC (digs b)))).toNat)))=valI a*valI b:=by
 rw[v6 ((valB B6 (aA B6 (aC (digs a)))).toNat*(valB B6 (aA B6 (aC (digs b)))).toNat),aPf]
 simp only[v6,Int.toNat_natCast,cP]
theorem aPg {a b:List UInt8} (fa:form a) (la:(digs a).length≤300) (fb:form b) (lb:(digs b).length≤300):dB (aA B6 ((valB B6 (aA B6 (aC (digs a)))).toNat*(valB B6 (aA B6 (aC (digs b)))).toNat))∧(aA B6 ((valB B6 (aA B6 (aC (digs a)))).toNat*(valB B6 (aA B6 (aC (digs b)))).toNat)).length≤200:=by
 refine ⟨bV _,?_⟩
 rw[v6,v6,Int.toNat_natCast,Int.toNat_natCast]
 have h3:=Nat.mul_lt_mul'' (dW fa la) (dW fb lb)
 rw[← Nat.pow_add] at h3
 have:=cV h3
 omega
theorem b120 (a b:List UInt8):body Tryz.prog [c110,c111,c61,c112,c153,c115] {} true Tryz.f160 [S a,S b] (.tup [S (bE a b (resI (valI a*valI b))).1,I (bE a b (resI (valI a*valI b))).2]):=by
 unfold bE
 (refine Br.mk (fun _=>?_) (fun _=>?_))
 ·rename_i h
  rw[if_pos h]
  (conv=>whnf)
  (repeat' first|exact trivial|rfl|refine And.intro ?_ ?_)
 ·rename_i h
  rw[if_neg h]
  obtain ⟨ha,hb⟩:=iJ h
  obtain ⟨fa,la⟩:=bK ha
  obtain ⟨fb,lb⟩:=bK hb
  have zA:=dR fa la
  have zB:=dR fb lb
  have hv:=aRa a b
  have hl:=aPg fa la fb lb
  have hab:form a∧form b:=⟨fa,fb⟩
  have hza:=And.intro zA zB
  have ra:form a∧(digs a).length≤600:=⟨fa,by omega⟩
  have rb:form b∧(digs b).length≤600:=⟨fb,by omega⟩
  (repeat' first|refine ZG ?_|fail)
  (refine Br.mk (fun _=>?_) (fun _=>?_))
  ·rename_i hs
   (repeat' first|refine ZG ?_|refine Zg fun _=>?_)
   (refine Br.mk (fun _=>?_) (fun _=>?_))
   ·rename_i hs2
    have hm:=aCc fa fb (by omega)
    rw[fZ (by omega)]
    (repeat' first|refine ZG ?_|fail)
    (conv=>whnf)
    (repeat' first|exact trivial|rfl|refine And.intro ?_ ?_)
   ·(repeat' first|refine ZG ?_|fail)
    (conv=>whnf)
    (repeat' first|exact trivial|rfl|refine And.intro ?_ ?_)
    ·exact congrArg (fun z=>(resI z).1) hv
    ·exact congrArg (fun z=>(resI z).2) hv
  ·(refine Br.mk (fun _=>?_) (fun _=>?_))
   all_goals
    (repeat' first|refine ZG ?_|fail)
    (conv=>whnf)
    (repeat' first|exact trivial|rfl|refine And.intro ?_ ?_)
    ·exact congrArg (fun z=>(resI z).1) hv
    ·exact congrArg (fun z=>(resI z).2) hv
def c120:Con:=aL 160 true fun args K=>match args with | [.str a,.str b]=>K (.tup [S (bE a b (resI (valI a*valI b))).1,I (bE a b (resI (valI a*valI b))).2]) | _=>False
theorem k120:aI Tryz.prog c120:=by
 refine aD rfl (enters_of Tryz.func160 (by kernel_rfl) rfl) ?_
 intro args K h
 simp only[c120] at h
 split at h
 ·rename_i a b;exact ⟨_,h,aB (by simp[k110,k111,k61,k112,k153,k115]) Tryz.func160 (by simp[Tryz.ntmps160]) rfl (b120 a b)⟩
 ·exact h.elim
theorem b71 (a b:List UInt8) (h:chkI a=0∧chkI b=0∧0<valI b∧valI b ∣ valI a):body Tryz.prog [c110,c111,c61,c112,c113,c115,c116] {} true Tryz.f199 [S a,S b] (.tup [S (itoa (valI a/valI b)),.any,I 0]):=by
 obtain ⟨ha,hb,hpos,hdv⟩:=h
 obtain ⟨fa,la⟩:=bK ha
 obtain ⟨fb,lb⟩:=bK hb
 have zA:=dR fa la
 have zB:=dR fb lb
 have hab:form a∧form b:=⟨fa,fb⟩
 have ra:form a∧(digs a).length≤600:=⟨fa,by omega⟩
 have rb:form b∧(digs b).length≤600:=⟨fb,by omega⟩
 have hc2:¬chk2 a b≠0:=by
  unfold chk2
  rw[if_neg (by rw[ha];simp),hb];simp
 have hb0:¬b= [48]:=fun e=>by rw[e] at hpos;revert hpos;decide
 have hr0:valI a%valI b=0:=Int.emod_eq_zero_of_dvd hdv
 have hbn:¬b.headD 0=45:=fun e=>by
  rw[cP] at hpos
  unfold sgP at hpos
  rw[if_pos e] at hpos
  omega
 have vb:valI b=(aC (digs b):Int):=by rw[cP];unfold sgP;rw[if_neg hbn]
 refine Br.mkN (show ¬ ¬chk2 a b=0 from hc2) ?_
 refine Br.mkN hb0 ?_
 (repeat' first|refine ZG ?_|fail)
 (refine Br.mk (fun _=>?_) (fun _=>?_))
 ·rename_i hs
  have h1:=dQ fa hs.1
  have h2:=dQ fb hs.2
  have t1:(valI a).tmod (valI b)=0:=by
   have:=Int.dvd_iff_tmod_eq_zero.1 hdv
   exact this
  have t2:(valI a).tdiv (valI b)=valI a/valI b:=Int.tdiv_eq_ediv_of_dvd hdv
  have t3:(valI a/valI b).natAbs≤(valI a).natAbs:=Int.natAbs_ediv_le_natAbs _ _
  (repeat'((conv=>whnf);first|refine Zb ?_|refine Zn ?_|(apply Pin.mk;apply Exists.intro)|apply Pinned.mk rfl rfl|fail))
  refine Br.mkN (show ¬ ¬(valI a).tmod (valI b)=0 by rw[t1];simp) ?_
  (conv=>whnf)
  (repeat' first|exact trivial|rfl|refine And.intro ?_ ?_)
  exact congrArg itoa t2
 ·have e6:=v6 (aC (digs b))
  have e6a:=v6 (aC (digs a))
  have nb:=dW fb lb
  have na:=dW fa la
  have hNb:0<aC (digs b):=by omega
  have hN:InB B6 (aA B6 (aC (digs a)))∧dB (aA B6 (aC (digs b)))∧(0<(valB B6 (aA B6 (aC (digs b)))).toNat∧(valB B6 (aA B6 (aC (digs b)))).toNat<B6^100)∧(aA B6 (aC (digs a))).length≤1000:=
   ⟨aQ (by decide) _,bV _,⟨by omega,by rw[e6,Int.toNat_natCast];exact Nat.lt_of_lt_of_le nb (Nat.pow_le_pow_right (by decide) (by decide))⟩,by have:=cV na;omega⟩
  have hA:valI a=if a.headD 0=45 then -(aC (digs a):Int) else (aC (digs a):Int):=by
   rw[cP];unfold sgP;rfl
  have hd:(aC (digs b):Int) ∣ (aC (digs a):Int):=by
   rw[← vb]
   rw[hA] at hdv
   split at hdv
   ·exact Int.dvd_neg.1 hdv
   ·exact hdv
  have hR:aA B6 (valB B6 (aA B6 (aC (digs a)))%valB B6 (aA B6 (aC (digs b)))).toNat= []:=by
   rw[e6,e6a,Int.emod_eq_zero_of_dvd hd]
   exact aZ _
  have hQ:aA B6 (valB B6 (aA B6 (aC (digs a)))/valB B6 (aA B6 (aC (digs b)))).toNat=aA B6 (aC (digs a)/aC (digs b)):=by
   rw[e6,e6a,← Int.natCast_ediv,Int.toNat_natCast]
  have hq2:dB (aA B6 (valB B6 (aA B6 (aC (digs a)))/valB B6 (aA B6 (aC (digs b)))).toNat)∧(aA B6 (valB B6 (aA B6 (aC (digs a)))/valB B6 (aA B6 (aC (digs b)))).toNat).length≤200:=by
   rw[hQ]
   refine ⟨bV _,?_⟩
   have:=cV (m:=aC (digs a)/aC (digs b)) (k:=50) (Nat.lt_of_le_of_lt (Nat.div_le_self _ _) na)
   omega
  have hr2:dB (aA B6 (valB B6 (aA B6 (aC (digs a)))%valB B6 (aA B6 (aC (digs b)))).toNat)∧(aA B6 (valB B6 (aA B6 (aC (digs a)))%valB B6 (aA B6 (aC (digs b)))).toNat).length≤200:=by
   rw[hR];exact ⟨by rw[← aZ B6];exact bV 0,by simp⟩
  have hrl:¬(0:Int)<((aA B6 (valB B6 (aA B6 (aC (digs a)))%valB B6 (aA B6 (aC (digs b)))).toNat).length:Int):=by rw[hR];simp
  have hres:resI (valI a/valI b)=(itoa (valI a/valI b),0):=by
   unfold resI
   rw[if_neg]
   have h1:(valI a/valI b).natAbs≤(valI a).natAbs:=Int.natAbs_ediv_le_natAbs _ _
   have h2:(valI a).natAbs<10^ (digs a).length:=by
    have:=bM (digs a) fa.2.2
    rw[hA];split<;>omega
   have h3:=cJ la
   rw[cB (k:=300) ⟨by decide,by decide⟩ (Nat.lt_of_le_of_lt h1 (Nat.lt_of_lt_of_le h2 h3))]
   decide
  have vq:valB B6 (aA B6 (valB B6 (aA B6 (aC (digs a)))/valB B6 (aA B6 (aC (digs b)))).toNat)=((aC (digs a)/aC (digs b):Nat):Int):=by rw[hQ,v6]
  have hp1:a.headD 0=45→∀ [hD:Decidable ((0:Int)<((aA B6 (valB B6 (aA B6 (aC (digs a)))/valB B6 (aA B6 (aC (digs b)))).toNat).length:Int))],sgP ((0:Int)<((aA B6 (valB B6 (aA B6 (aC (digs a)))/valB B6 (aA B6 (aC (digs b)))).toNat).length:Int)) (valB B6 (aA B6 (valB B6 (aA B6 (aC (digs a)))/valB B6 (aA B6 (aC (digs b)))).toNat))=valI a/valI b:=by
   intro hp hD
   rw[vq]
   have e0:valI a/valI b= -((aC (digs a)/aC (digs b):Nat):Int):=by
    rw[hA,if_pos hp,vb,Int.neg_ediv_of_dvd hd,Int.natCast_ediv]
   unfold sgP
   split
   ·rw[e0]
   ·rename_i h0
    rw[hQ] at h0
    have:aC (digs a)/aC (digs b)=0:=(gA _).1 (by omega)
    rw[e0,this];rfl
  have hp0:¬a.headD 0=45→valB B6 (aA B6 (valB B6 (aA B6 (aC (digs a)))/valB B6 (aA B6 (aC (digs b)))).toNat)=valI a/valI b:=by
   intro hp
   rw[vq,hA,if_neg hp,vb,Int.natCast_ediv]
  (refine Br.mk (fun _=>?_) (fun _=>?_))
  all_goals
   (repeat' first|refine ZG ?_|fail)
   by_cases hp:a.headD 0=45
   ·refine Br.mkY (show ¬(a.headD 0=45↔b.headD 0=45) from fun h'=>hbn (h'.1 hp)) ?_
    (repeat'((conv=>whnf);first|refine Zg fun _=>?_|fail))
    refine Br.mkY hp ?_
    (repeat' first|refine ZG ?_|refine Zg fun _=>?_)
    refine Br.mkN hrl ?_
    (repeat' first|refine ZG ?_|fail)
    refine Br.mkN (by rw[hp1 hp,hres];simp) ?_
    (repeat' first|refine ZG ?_|fail)
    (conv=>whnf)
    (repeat' first|exact trivial|rfl|refine And.intro ?_ ?_)
    (conv=>whnf)
    rw[hp1 hp,hres]
   ·refine Br.mkN (show ¬ ¬(a.headD 0=45↔b.headD 0=45) from fun h'=>h' ⟨fun h=>absurd h hp,fun h=>absurd h hbn⟩) ?_
    refine Br.mkN hp ?_
    (repeat' first|refine ZG ?_|refine Zg fun _=>?_)
    refine Br.mkN hrl ?_
    (repeat' first|refine ZG ?_|fail)
    refine Br.mkN (by rw[hp0 hp,hres];simp) ?_
    (repeat' first|refine ZG ?_|fail)
    (conv=>whnf)
    (repeat' first|exact trivial|rfl|refine And.intro ?_ ?_)
    (conv=>whnf)
    rw[hp0 hp,hres]
def c71:Con:=aL 199 true fun args K=>match args with | [.str a,.str b]=>Need (chkI a=0∧chkI b=0∧0<valI b∧valI b ∣ valI a) (K (.tup [S (itoa (valI a/valI b)),.any,I 0])) | _=>False
theorem k71:aI Tryz.prog c71:=by
 refine aD rfl (enters_of Tryz.func199 (by kernel_rfl) rfl) ?_
 intro args K h
 simp only[c71] at h
 split at h
 ·rename_i a b;exact ⟨_,h.go,aB (by simp[k110,k111,k61,k112,k113,k115,k116]) Tryz.func199 (by simp[Tryz.ntmps199]) rfl (b71 a b h.ok)⟩
 ·exact h.elim
theorem aCr (x:Nat):∀j,lowD x (j+1)=lowD (x/10) j++ [((48+x%10:Nat):Int)]
 | 0=>by simp[lowD]
 | j+1=>by
  rw[lowD,aCr x j,lowD,List.cons_append]
  congr 3
  rw[Nat.pow_succ,Nat.mul_comm,Nat.div_div_eq_div_mul]
theorem aJc (a b:List Int):bG (a++b)=bG a++bG b:=by unfold bG;rw[List.map_append]
theorem aHh:∀(k x:Nat),x<10^ (k+1)→(k=0∨10^k≤x)→bG (lowD x (k+1))=decDigits x
 | 0,x,h,_=>by
  have h:x<10:=by simpa using h
  rw[dec1 h]
  show [UInt8.ofNat (((48+x/10^0%10:Nat):Int)).toNat]= _
  rw[Int.toNat_natCast,Nat.pow_zero,Nat.div_one,Nat.mod_eq_of_lt h]
 | k+1,x,h,h2=>by
  have h2:10^ (k+1)≤x:=h2.elim (fun h=>by omega) id
  have h10:10≤x:=Nat.le_trans (by rw[Nat.pow_succ];have:0<10^k:=Nat.pow_pos (by omega);omega) h2
  rw[aCr,aJc,aHh k (x/10) (by rw[Nat.pow_succ] at h;omega) (.inr (by rw[Nat.pow_succ] at h2;omega))]
  conv=>rhs;rw[decDigits,dif_neg (by omega)]
  rfl
def oD (x k:Nat):List Int:=List.replicate (20-k) 0++lowD x k
theorem aSw {x k:Nat} (h:k≤20):(oD x k).length=20:=by
 simp only[oD,List.length_append,List.length_replicate,aAk];omega
theorem aPh {x k:Nat} {v:Int} (h:k<20) (hv:v=((48+x/10^k%10:Nat):Int)):(oD x k).set (20-(k+1)) v=oD x (k+1):=by
 unfold oD
 obtain ⟨m,hm⟩:∃m,m=20-(k+1):=⟨_,rfl⟩
 rw[show 20-k=m+1 by omega,← hm,aHc,hv]
 rfl
theorem aRb {x k:Nat} (h:k≤20):(oD x k).drop (20-k)=lowD x k:=by
 unfold oD
 rw[List.drop_left' (by simp)]
theorem b101 (n:Nat) (hn:n≤9223372036854775807):body Tryz.prog [] { asks:=[(0,[])] } true Tryz.f152 [I n] (S (decDigits n)):=by
 refine Need.mk ⟨by omega,by omega,by omega,show (20:Int)*((1:Nat):Int)≤140737488355328 by omega⟩ ?_
 (repeat'((conv=>whnf);first|refine Zg fun _=>?_|fail))
 refine Ask.mk ⟨{ X:=Nat,pre:=fun k=>k≤18∧(k=0∨10^k≤n),mod:=fun k _=>[(0,I ((n/10^k:Nat):Int)),(4,I (20-k))],heap:=fun k H=>[U (oD n k)],mu:=fun k=>20-k },rfl,?_⟩
 (repeat' first|refine ZG ?_|fail)
 refine ⟨⟨(0:Nat),⟨by omega,.inl rfl⟩,?_⟩,fun (k:Nat) hk=>?_⟩
 ·(repeat' first|exact trivial|rfl|refine And.intro ?_ ?_|omega)
 obtain ⟨hk1,hk2⟩:=hk
 obtain ⟨q,hq⟩:∃q,n/10^k=q:=⟨_,rfl⟩
 have hq0:q≤n:=by rw[← hq];exact Nat.div_le_self _ _
 have tq:(q:Int).tmod 10=((q%10:Nat):Int):=by rw[Int.tmod_eq_emod_of_nonneg (by omega)];omega
 have dq:(q:Int).tdiv 10=((q/10:Nat):Int):=by rw[Int.tdiv_eq_ediv_of_nonneg (by omega)];omega
 have hq1:n/10^ (k+1)=q/10:=by rw[Nat.pow_succ,← Nat.div_div_eq_div_mul,hq]
 have hln:=aSw (x:=n) (k:=k) (by omega)
 subst hq
 have hb1: -9223372036854775808≤((n/10^k:Nat):Int).tdiv 10∧((n/10^k:Nat):Int).tdiv 10≤9223372036854775807:=by
  rw[dq]
  have:n/10^k/10≤n/10^k:=Nat.div_le_self _ _
  omega
 (repeat' first|refine ZG ?_|fail)
 refine cD (20-(k+1)) (by omega) ?_
 (repeat' first|refine ZG ?_|fail)
 (refine Br.mk (fun _=>?_) (fun _=>?_))
 ·rename_i hz
  have hz:n/10^ (k+1)=0:=by omega
  have hlt:n<10^ (k+1):=by
   refine Nat.lt_of_not_le fun h=>?_
   have:=Nat.div_pos h (Nat.pow_pos (by omega))
   omega
  have hset:(oD n k).set (20-(k+1)) (48+((n/10^k:Nat):Int).tmod 10)=oD n (k+1):=by
   refine aPh (by omega) ?_
   rw[tq]
   omega
  (repeat' first|refine ZG ?_|fail)
  refine cD (20-(k+1)) (by omega) ?_
  (conv=>whnf)
  rw[hset,aRb (by omega)]
  exact aHh k n hlt hk2
 ·rename_i hz
  have hz:n/10^ (k+1)≠0:=by omega
  have hp:0<10^ (k+1):=Nat.pow_pos (by omega)
  have hge:10^ (k+1)≤n:=Nat.le_of_not_lt fun h=>hz (Nat.div_eq_of_lt h)
  have hk17:k+1≤18:=by
   refine Nat.le_of_not_lt fun h=>?_
   have h1:10^19≤10^ (k+1):=cJ (by omega)
   have h2:(10:Nat)^19=10000000000000000000:=by decide
   omega
  refine ⟨(k+1:Nat),by show 20-(k+1)<20-k;omega,⟨hk17,.inr hge⟩,?_⟩
  (repeat' first|exact trivial|rfl|refine And.intro ?_ ?_|omega)
  refine aPh (by omega) ?_
  rw[tq]
  omega
theorem b101i (n:Int) (h:0≤n∧n≤9223372036854775807):body Tryz.prog [] { asks:=[(0,[])] } true Tryz.f152 [I n] (S (itoa n)):=by
 obtain ⟨m,rfl⟩:∃m:Nat,n=m:=⟨n.toNat,by omega⟩
 rw[dY]
 exact b101 m (by omega)
def c101:Con:=aL 152 true fun args K=>match args with | [.val (.int .i64 n)]=>Need (0≤n∧n≤9223372036854775807) (K (S (itoa n))) | _=>False
theorem k101:aI Tryz.prog c101:=by
 refine aD rfl (enters_of Tryz.func152 (by kernel_rfl) rfl) ?_
 intro args K h
 simp only[c101] at h
 split at h
 ·rename_i n
  exact ⟨_,h.go,aB (by simp) Tryz.func152 (by simp[Tryz.ntmps152]) rfl (b101i n h.ok)⟩
 ·exact h.elim
theorem aJd {n:Int} {d:Nat} (hd:0<d):numS (Rat.divInt n d)=(if n<0 then [45] else [])++(decDigits (n.natAbs/n.natAbs.gcd d)++(if d/n.natAbs.gcd d=1 then [] else 47::decDigits (d/n.natAbs.gcd d))):=by
 rw[eT n d (by omega),Int.toNat_natCast,wB n d (by omega),Nat.gcd_comm d]
 have hg:0<n.natAbs.gcd d:=Nat.gcd_pos_of_pos_right _ hd
 have hdv:((n.natAbs.gcd d:Nat):Int) ∣ n:=Int.ofNat_dvd_left.2 (Nat.gcd_dvd_left ..)
 have e:itoa (n/(n.natAbs.gcd d:Nat))=(if n<0 then [45] else [])++decDigits (n.natAbs/n.natAbs.gcd d):=by
  have h1:(n/((n.natAbs.gcd d:Nat):Int)).natAbs=n.natAbs/n.natAbs.gcd d:=by
   rw[Int.natAbs_ediv_of_dvd hdv,Int.natAbs_natCast]
  by_cases hn:n<0
  ·have h2:n/((n.natAbs.gcd d:Nat):Int)<0:=Int.ediv_neg_of_neg_of_pos hn (by omega)
   unfold itoa
   rw[if_pos h2,if_pos hn,h1];rfl
  ·have h2:0≤n/((n.natAbs.gcd d:Nat):Int):=Int.ediv_nonneg (by omega) (by omega)
   unfold itoa
   rw[if_neg (by omega),if_neg hn,← h1]
   rw[show (n/((n.natAbs.gcd d:Nat):Int)).toNat=(n/((n.natAbs.gcd d:Nat):Int)).natAbs by omega];rfl
 rw[e]
 split
 ·simp
 ·simp
theorem aRv {n:Nat} (h:n≤4611686018427387904):(decDigits n).length≤19:=IB.fI 18 n (by omega)
theorem b62 (n d:Int) (h:(-4611686018427387904≤n∧n≤4611686018427387904)∧(1≤d∧d≤4611686018427387904)):body Tryz.prog [c84,c101] {} true Tryz.f86 [I n,I d] (S (numS (Rat.divInt n d))):=by
 obtain ⟨hn,hd⟩:=h
 obtain ⟨D,rfl⟩:∃D:Nat,d=D:=⟨d.toNat,by omega⟩
 rw[aJd (by omega)]
 obtain ⟨m,hm⟩:∃m,n.natAbs=m:=⟨_,rfl⟩
 rw[hm]
 have hg:0<m.gcd D:=Nat.gcd_pos_of_pos_right _ (by omega)
 have hgle:m.gcd D≤D:=Nat.gcd_le_right _ (by omega)
 have q1:m/m.gcd D≤m:=Nat.div_le_self _ _
 have q2:D/m.gcd D≤D:=Nat.div_le_self _ _
 have l1:=aRv (n:=m/m.gcd D) (by omega)
 have l2:=aRv (n:=D/m.gcd D) (by omega)
 have t2:(D:Int)/((m.gcd D:Nat):Int)=((D/m.gcd D:Nat):Int):=rfl
 have t1:(m:Int)/((m.gcd D:Nat):Int)=((m/m.gcd D:Nat):Int):=rfl
 have tail:∀x:Int,0≤x→x.natAbs=m→Int.gcd x D=m.gcd D∧x/((Int.gcd x D:Nat):Int)=((m/m.gcd D:Nat):Int)∧(D:Int)/((Int.gcd x D:Nat):Int)=((D/m.gcd D:Nat):Int):=by
  intro x hx hxm
  have e1:Int.gcd x D=m.gcd D:=by unfold Int.gcd;rw[hxm,Int.natAbs_natCast]
  have e2:x=(m:Int):=by omega
  rw[e1]
  exact ⟨rfl,by rw[e2];exact t1,t2⟩
 (refine Br.mk (fun _=>?_) (fun _=>?_))
 ·rename_i hneg
  obtain ⟨e1,e2,e3⟩:=tail (-n) (by omega) (by omega)
  rw[if_pos hneg]
  have n1:0≤(-n)/((Int.gcd (-n) D:Nat):Int)∧(-n)/((Int.gcd (-n) D:Nat):Int)≤9223372036854775807:=by rw[e2];exact ⟨Int.natCast_nonneg _,Int.le_trans (Int.ofNat_le.2 q1) (by omega)⟩
  have n2:0≤(D:Int)/((Int.gcd (-n) D:Nat):Int)∧(D:Int)/((Int.gcd (-n) D:Nat):Int)≤9223372036854775807:=by rw[e3];exact ⟨Int.natCast_nonneg _,Int.le_trans (Int.ofNat_le.2 q2) (by omega)⟩
  have s1:itoa ((-n)/((Int.gcd (-n) D:Nat):Int))=decDigits (m/m.gcd D):=by rw[e2,dY]
  have s2:itoa ((D:Int)/((Int.gcd (-n) D:Nat):Int))=decDigits (D/m.gcd D):=by rw[e3,dY]
  have m1:(itoa ((-n)/((Int.gcd (-n) D:Nat):Int))).length≤19:=by rw[s1];exact l1
  have m2:(itoa ((D:Int)/((Int.gcd (-n) D:Nat):Int))).length≤19:=by rw[s2];exact l2
  (repeat' first|refine ZG ?_|fail)
  refine Need.mk (show 1+(itoa ((-n)/((Int.gcd (-n) D:Nat):Int))).length≤140737488355328 by omega) ?_
  (repeat' first|refine ZG ?_|fail)
  (refine Br.mk (fun _=>?_) (fun _=>?_))
  ·rename_i hone
   have hone:D/m.gcd D=1:=by omega
   rw[if_pos hone]
   (conv=>whnf)
   rw[s1];simp
  ·rename_i hone
   have hone:¬D/m.gcd D=1:=by omega
   rw[if_neg hone]
   refine Need.mk (by rw[List.length_append];show 1+ _+1≤ _;omega) ?_
   (repeat' first|refine ZG ?_|fail)
   refine Need.mk (by rw[List.length_append,List.length_append];show 1+ _+1+ _≤ _;omega) ?_
   (conv=>whnf)
   rw[s1,s2];simp
 ·rename_i hneg
  obtain ⟨e1,e2,e3⟩:=tail n (by omega) hm
  rw[if_neg hneg]
  have n1:0≤n/((Int.gcd n D:Nat):Int)∧n/((Int.gcd n D:Nat):Int)≤9223372036854775807:=by rw[e2];exact ⟨Int.natCast_nonneg _,Int.le_trans (Int.ofNat_le.2 q1) (by omega)⟩
  have n2:0≤(D:Int)/((Int.gcd n D:Nat):Int)∧(D:Int)/((Int.gcd n D:Nat):Int)≤9223372036854775807:=by rw[e3];exact ⟨Int.natCast_nonneg _,Int.le_trans (Int.ofNat_le.2 q2) (by omega)⟩
  have s1:itoa (n/((Int.gcd n D:Nat):Int))=decDigits (m/m.gcd D):=by rw[e2,dY]
  have s2:itoa ((D:Int)/((Int.gcd n D:Nat):Int))=decDigits (D/m.gcd D):=by rw[e3,dY]
  have m1:(itoa (n/((Int.gcd n D:Nat):Int))).length≤19:=by rw[s1];exact l1
  have m2:(itoa ((D:Int)/((Int.gcd n D:Nat):Int))).length≤19:=by rw[s2];exact l2
  (repeat' first|refine ZG ?_|fail)
  (refine Br.mk (fun _=>?_) (fun _=>?_))
  ·rename_i hone
   have hone:D/m.gcd D=1:=by omega
   rw[if_pos hone]
   (conv=>whnf)
   rw[s1];simp
  ·rename_i hone
   have hone:¬D/m.gcd D=1:=by omega
   rw[if_neg hone]
   (repeat' first|refine ZG ?_|fail)
   (conv=>whnf)
   rw[s1,s2];simp
def c62:Con:=aL 86 true fun args K=>match args with | [.val (.int .i64 n),.val (.int .i64 d)]=>Need ((-4611686018427387904≤n∧n≤4611686018427387904)∧(1≤d∧d≤4611686018427387904)) (K (S (numS (Rat.divInt n d)))) | _=>False
theorem k62:aI Tryz.prog c62:=by
 refine aD rfl (enters_of Tryz.func86 (by kernel_rfl) rfl) ?_
 intro args K h
 simp only[c62] at h
 split at h
 ·rename_i n d;exact ⟨_,h.go,aB (by simp[k84,k101]) Tryz.func86 (by simp[Tryz.ntmps86]) rfl (b62 n d h.ok)⟩
 ·exact h.elim
def aK9 (a:List UInt8):Prop:=(82<a.length∧a.length<602)∨700<a.length
instance (a:List UInt8):Decidable (aK9 a):=by unfold aK9;infer_instance
theorem qW (q:Rat):(numS q).headD 0=45↔q<0:=by
 rw[← uI]
 exact (bP (List.length_pos_iff.2 (aEv q)) 45).symm
theorem lt0 (q:Rat):q<0↔q.num<0:=by
 rw[Rat.lt_iff]
 show q.num*((1:Nat):Int)<0* _↔ _
 omega
theorem bN (n:Int):itoa n=(if n<0 then 45::decDigits n.natAbs else decDigits n.natAbs):=by
 unfold itoa
 split
 ·rfl
 ·rw[show n.toNat=n.natAbs by omega]
theorem Sz.digs {q:Rat} (h:Sz 300 q):(decDigits q.num.natAbs).length≤300∧(decDigits q.den).length≤300:=⟨kI (k:=300) (by decide) h.1,kI (k:=300) (by decide) h.2⟩
theorem aMp (k:Nat) (hk:0<k):1<10^k:=Nat.lt_of_lt_of_le (show 1<10^1 by decide) (cJ hk)
theorem iM {s:List UInt8} (h:chkQ s=0):s=numS (valQ s)∧Sz 300 (valQ s):=by
 obtain ⟨e,h3,h4⟩:=aKl h
 refine ⟨e,?_,?_⟩
 ·refine mS (k:=300) ?_
  rw[e,fN,bR] at h3
  exact h3
 ·by_cases h1:(valQ s).den=1
  ·rw[h1]
   exact aMp 300 (by decide)
  ·refine mS (k:=300) ?_
   rw[e,iU,if_neg h1] at h4
   exact h4
theorem b65 (q:Rat) (hq:Sz 300 q):body Tryz.prog [c73] {} true Tryz.f87 [S (numS q)] (.tup [S (pn q),S (pd q)]):=by
 have e1:digs (topS (numS q))=decDigits q.num.natAbs:=by rw[fN,bR]
 have e2:(numS q).headD 0=45↔q.num<0:=by rw[qW,lt0]
 have e3:=bN q.num
 have l1:=hq.digs.1
 have e4:=iU q
 have hpn:∀h:q.num<0,pn q=45::decDigits q.num.natAbs:=fun h=>by unfold pn;rw[e3,if_pos h]
 have hpp:∀h:¬q.num<0,pn q=decDigits q.num.natAbs:=fun h=>by unfold pn;rw[e3,if_neg h]
 have f1:∀h:q.den=1,pd q= [49]:=fun h=>aSv.2 h
 have f2:∀h:¬q.den=1,(botS (numS q)).tail=pd q:=fun h=>by rw[e4,if_neg h];rfl
 by_cases hn:q.num<0
 ·refine Br.mkY (e2.2 hn) ?_
  refine Need.mk (by rw[e1];show 1+ _≤ _;omega) ?_
  by_cases hd:q.den=1
  ·refine Br.mkY (show ¬ ¬botS (numS q)= [] by rw[e4,if_pos hd];simp) ?_
   (conv=>whnf)
   (repeat' first|exact trivial|refine And.intro ?_ ?_)
   ·(conv=>whnf)
    rw[hpn hn,e1];rfl
   ·(conv=>whnf)
    exact (f1 hd).symm
  ·refine Br.mkN (show ¬ ¬ ¬botS (numS q)= [] by rw[e4,if_neg hd];simp) ?_
   (conv=>whnf)
   (repeat' first|exact trivial|refine And.intro ?_ ?_)
   ·(conv=>whnf)
    rw[hpn hn,e1];rfl
   ·(conv=>whnf)
    exact f2 hd
 ·refine Br.mkN (fun h=>hn (e2.1 h)) ?_
  by_cases hd:q.den=1
  ·refine Br.mkY (show ¬ ¬botS (numS q)= [] by rw[e4,if_pos hd];simp) ?_
   (conv=>whnf)
   (repeat' first|exact trivial|refine And.intro ?_ ?_)
   ·(conv=>whnf)
    rw[hpp hn,e1]
   ·(conv=>whnf)
    exact (f1 hd).symm
  ·refine Br.mkN (show ¬ ¬ ¬botS (numS q)= [] by rw[e4,if_neg hd];simp) ?_
   (conv=>whnf)
   (repeat' first|exact trivial|refine And.intro ?_ ?_)
   ·(conv=>whnf)
    rw[hpp hn,e1]
   ·(conv=>whnf)
    exact f2 hd
def c65:Con:=aL 87 true fun args K=>match args with | [.str s]=>Need (chkQ s=0) (K (.tup [S (pn (valQ s)),S (pd (valQ s))])) | _=>False
theorem k65:aI Tryz.prog c65:=by
 refine aD rfl (enters_of Tryz.func87 (by kernel_rfl) rfl) ?_
 intro args K h
 simp only[c65] at h
 split at h
 ·rename_i s
  obtain ⟨e,hq⟩:=iM h.ok
  refine ⟨_,h.go,?_⟩
  have ht:=aB (by simp[k73]) Tryz.func87 (by simp[Tryz.ntmps87]) rfl (b65 (valQ s) hq)
  rw[← e] at ht
  exact ht
 ·exact h.elim
def smR (q:Rat):Prop:=(decDigits q.num.natAbs).length≤9∧(q.den=1∨(decDigits q.den).length≤9)
instance (q:Rat):Decidable (smR q):=by unfold smR;infer_instance
theorem uJ {q:Rat} (h:smR q):q.num.natAbs<1000000000∧q.den<1000000000:=by
 refine ⟨?_,?_⟩
 ·have:=mS (k:=9) h.1
  simpa using this
 ·rcases h.2 with h | h
  ·omega
  ·have:=mS (k:=9) h
   simpa using this
theorem b70 (q:Rat) (hq:Sz 300 q):(∀h:smR q,body Tryz.prog [c73,c85] {} true Tryz.f85 [S (numS q)] (.tup [I q.num,I q.den,.val (.bool true)]))∧(∀h:¬smR q,body Tryz.prog [c73,c85] {} true Tryz.f85 [S (numS q)] (.tup [I 0,I 0,.val (.bool false)])):=by
 have e1:digs (topS (numS q))=decDigits q.num.natAbs:=by rw[fN,bR]
 have e2:(numS q).headD 0=45↔q.num<0:=by rw[qW,lt0]
 have l1:=hq.digs
 have e4:=iU q
 have hd1:∀c∈decDigits q.num.natAbs,aR c:=fun c hc=>fJ _ c hc
 have hd2:∀c∈decDigits q.den,aR c:=fun c hc=>fJ _ c hc
 refine ⟨fun h=>?_,fun h=>?_⟩
 ·have hl:=uJ h
  have k1:(digs (topS (numS q))).length≤9:=by rw[e1];exact h.1
  have k2:(botS (numS q)).tail.length≤9:=by
   rw[e4];split
   ·simp
   ·rename_i h1
    rcases h.2 with h2 | h2
    ·exact absurd h2 h1
    ·exact h2
  have n1:aC (digs (topS (numS q)))=q.num.natAbs:=by rw[e1,bW]
  have m1:(∀c∈digs (topS (numS q)),aR c)∧(digs (topS (numS q))).length≤18:=⟨by rw[e1];exact hd1,by omega⟩
  (repeat' first|refine ZR ?_|refine Zg fun _=>?_)
  by_cases hd:q.den=1
  ·refine Br.mkN (show ¬ ¬botS (numS q)= [] by rw[e4,if_pos hd];simp) ?_
   by_cases hn:q.num<0
   ·refine Br.mkY (e2.2 hn) ?_
    (repeat' first|refine ZG ?_|fail)
    (conv=>whnf)
    (repeat' first|exact trivial|rfl|refine And.intro ?_ ?_)
    ·(conv=>whnf)
     omega
    ·(conv=>whnf)
     omega
   ·refine Br.mkN (fun h=>hn (e2.1 h)) ?_
    (conv=>whnf)
    (repeat' first|exact trivial|rfl|refine And.intro ?_ ?_)
    ·(conv=>whnf)
     omega
    ·(conv=>whnf)
     omega
  ·have m2:(∀c∈(botS (numS q)).tail,aR c)∧(botS (numS q)).tail.length≤18:=⟨by rw[e4,if_neg hd];exact hd2,by omega⟩
   have n2:aC (botS (numS q)).tail=q.den:=by rw[e4,if_neg hd];exact bW _
   refine Br.mkY (show ¬botS (numS q)= [] by rw[e4,if_neg hd];simp) ?_
   (repeat' first|refine ZG ?_|fail)
   by_cases hn:q.num<0
   ·refine Br.mkY (e2.2 hn) ?_
    (repeat' first|refine ZG ?_|fail)
    (conv=>whnf)
    (repeat' first|exact trivial|rfl|refine And.intro ?_ ?_)
    ·(conv=>whnf)
     omega
    ·(conv=>whnf)
     omega
   ·refine Br.mkN (fun h=>hn (e2.1 h)) ?_
    (conv=>whnf)
    (repeat' first|exact trivial|rfl|refine And.intro ?_ ?_)
    ·(conv=>whnf)
     omega
    ·(conv=>whnf)
     omega
 ·by_cases k1:9<(digs (topS (numS q))).length
  ·(repeat' first|refine ZR ?_|refine Zg fun _=>?_)
   (conv=>whnf)
   (repeat' first|exact trivial|rfl|refine And.intro ?_ ?_)
  ·have k2:9<(botS (numS q)).tail.length:=by
    rw[e1] at k1
    refine Nat.lt_of_not_le fun hx=>h ⟨by omega,?_⟩
    rw[e4] at hx
    split at hx
    ·rename_i h1;exact .inl h1
    ·exact .inr hx
   (repeat' first|refine ZR ?_|refine Zg fun _=>?_)
   (conv=>whnf)
   (repeat' first|exact trivial|rfl|refine And.intro ?_ ?_)
def c70:Con:=aL 85 true fun args K=>match args with
 | [.str s]=>Need (chkQ s=0) (Br (smR (valQ s)) (K (.tup [I (valQ s).num,I (valQ s).den,.val (.bool true)])) (K (.tup [I 0,I 0,.val (.bool false)])))
 | _=>False
theorem k70:aI Tryz.prog c70:=by
 refine aD rfl (enters_of Tryz.func85 (by kernel_rfl) rfl) ?_
 intro args K h
 simp only[c70] at h
 split at h
 ·rename_i s
  obtain ⟨e,hq⟩:=iM h.ok
  have hb:=b70 (valQ s) hq
  rw[← e] at hb
  by_cases hl:smR (valQ s)
  ·exact ⟨_,h.go.yes hl,aB (by simp[k73,k85]) Tryz.func85 (by simp[Tryz.ntmps85]) rfl (hb.1 hl)⟩
  ·exact ⟨_,h.go.no hl,aB (by simp[k73,k85]) Tryz.func85 (by simp[Tryz.ntmps85]) rfl (hb.2 hl)⟩
 ·exact h.elim
noncomputable def chkB (a b:List UInt8):Int:=if chkQ a≠0 then chkQ a else chkQ b
theorem b78 (a b:List UInt8):body Tryz.prog [c44] {} true Tryz.f82 [S a,S b] (I (chkB a b)):=by
 unfold chkB
 (refine Br.mk (fun _=>?_) (fun _=>?_))
 ·rename_i h
  rw[if_pos h]
  (conv=>whnf)
  (repeat' first|rfl|refine And.intro ?_ ?_)
 ·rename_i h
  rw[if_neg h]
  (conv=>whnf)
  (repeat' first|rfl|refine And.intro ?_ ?_)
def c78:Con:=aL 82 true fun args K=>match args with | [.str a,.str b]=>K (I (chkB a b)) | _=>False
theorem k78:aI Tryz.prog c78:=by
 refine aD rfl (enters_of Tryz.func82 (by kernel_rfl) rfl) ?_
 intro args K h
 simp only[c78] at h
 split at h
 ·rename_i a b;exact ⟨_,h,aB (by simp[k44]) Tryz.func82 (by simp[Tryz.ntmps82]) rfl (b78 a b)⟩
 ·exact h.elim
abbrev ok4 (a b c d:List UInt8):Prop:=(chkI a=0∧chkI b=0)∧chkI c=0∧chkI d=0
theorem b81n (a b c d:List UInt8) (h:ok4 a b c d) (hl:lim (valI a*valI b)=true):body Tryz.prog [c120] {} true Tryz.f106 [S a,S b,S c,S d] (.tup [S [],S [],I 4]):=by
 obtain ⟨⟨ha,hb⟩,hc,hd⟩:=h
 have e1:bE a b (resI (valI a*valI b))=([],4):=by rw[sK ha hb];unfold resI;rw[if_pos hl]
 refine Br.mkY (show ¬(bE a b (resI (valI a*valI b))).2=0 by rw[e1];decide) ?_
 (conv=>whnf)
 (repeat' first|exact trivial|rfl|refine And.intro ?_ ?_)
 (conv=>whnf)
 rw[e1]
theorem b81y (a b c d:List UInt8) (h:ok4 a b c d) (hl:lim (valI a*valI b)=false):body Tryz.prog [c120] {} true Tryz.f106 [S a,S b,S c,S d] (.tup [S (itoa (valI a*valI b)),S (resI (valI c*valI d)).1,I (resI (valI c*valI d)).2]):=by
 obtain ⟨⟨ha,hb⟩,hc,hd⟩:=h
 have e1:bE a b (resI (valI a*valI b))=(itoa (valI a*valI b),0):=by rw[sK ha hb];unfold resI;rw[if_neg (by rw[hl];decide)]
 have e2:=sK hc hd (resI (valI c*valI d))
 refine Br.mkN (show ¬ ¬(bE a b (resI (valI a*valI b))).2=0 by rw[e1];simp) ?_
 (conv=>whnf)
 (repeat' first|exact trivial|rfl|refine And.intro ?_ ?_)
 ·(conv=>whnf)
  rw[e1]
 ·(conv=>whnf)
  rw[e2]
 ·(conv=>whnf)
  rw[e2]
def c81:Con:=aL 106 true fun args K=>match args with
 | [.str a,.str b,.str c,.str d]=>Need (ok4 a b c d) (Br (lim (valI a*valI b)=true) (K (.tup [S [],S [],I 4])) (K (.tup [S (itoa (valI a*valI b)),S (resI (valI c*valI d)).1,I (resI (valI c*valI d)).2])))
 | _=>False
theorem k81:aI Tryz.prog c81:=by
 refine aD rfl (enters_of Tryz.func106 (by kernel_rfl) rfl) ?_
 intro args K h
 simp only[c81] at h
 split at h
 ·rename_i a b c d
  by_cases hl:lim (valI a*valI b)=true
  ·exact ⟨_,h.go.yes hl,aB (by simp[k120]) Tryz.func106 (by simp[Tryz.ntmps106]) rfl (b81n a b c d h.ok hl)⟩
  ·exact ⟨_,h.go.no hl,aB (by simp[k120]) Tryz.func106 (by simp[Tryz.ntmps106]) rfl (b81y a b c d h.ok (by simpa using hl))⟩
 ·exact h.elim
theorem pF (n:Int):aJ (itoa n) 0=45↔n<0:=by
 rw[bN]
 split
 ·rename_i h;exact ⟨fun _=>h,fun _=>rfl⟩
 ·rename_i h
  constructor
  ·intro h2
   exfalso
   refine nZ (n:=n.natAbs) (UInt8.toNat_inj.1 ?_)
   unfold aJ at h2
   have:(45:UInt8).toNat=45:=rfl
   omega
  ·intro h2;exact absurd h2 h
theorem lL {n:Int} (h:n<0):(itoa n).drop 1=itoa (-n):=by
 rw[bN,if_pos h,bN,if_neg (by omega),Int.natAbs_neg];rfl
theorem aHi {n:Int} (h:0<n):45::itoa n=itoa (-n):=by
 rw[bN (-n),if_pos (by omega),bN n,if_neg (by omega),Int.natAbs_neg]
theorem aAr {x y:Int} (hy:0<y):numS (Rat.divInt x y)=if y/(Int.gcd x y:Nat)=1 then itoa (x/(Int.gcd x y:Nat)) else itoa (x/(Int.gcd x y:Nat))++47::itoa (y/(Int.gcd x y:Nat)):=by
 obtain ⟨d,rfl⟩:∃d:Nat,y=d:=⟨y.toNat,by omega⟩
 have hg:Int.gcd x d=d.gcd x.natAbs:=by unfold Int.gcd;rw[Int.natAbs_natCast,Nat.gcd_comm]
 rw[eT x d (by omega),Int.toNat_natCast,wB x d (by omega),hg,← Int.natCast_ediv,dY]
 by_cases h:d/d.gcd x.natAbs=1
 ·rw[if_pos h,if_pos (by omega)]
 ·rw[if_neg h,if_neg (by omega)]
set_option maxHeartbeats 4000000 in
theorem b63 (x y:Int) (hx:lim x=false) (hy:lim y=false) (h0:y≠0):body Tryz.prog [c85,c62,c86,c71] { cuts:=[(7,{ X:=Int × Int,pre:=fun z=>(lim z.1=false∧lim z.2=false)∧0<z.2∧Rat.divInt z.1 z.2=Rat.divInt x y,mod:=fun z _=>[(0,S (itoa z.1)),(1,S (itoa z.2))] })] } true Tryz.f151 [S (itoa x),S (itoa y)] (.tup [S (numS (Rat.divInt x y)),I 0]):=by
 have py:0<(itoa y).length:=gQ
 have px:0<(itoa x).length:=gQ
 have hby:=pF y
 have hbx:=pF x
 have ly:=eL hy
 have lx:=eL hx
 (repeat' first|refine ZG ?_|fail)
 refine ⟨⟨(),?_⟩,fun _ (z:Int × Int) hz=>?_⟩
 ·(repeat' first|refine ZG ?_|refine Zg fun _=>?_)
  by_cases hn:y<0
  ·refine Br.mkY (hby.2 hn) ?_
   (repeat' first|refine ZG ?_|refine Zg fun _=>?_)
   by_cases hm:x<0
   ·refine Br.mkY (hbx.2 hm) ?_
    (repeat' first|refine ZG ?_|fail)
    refine ⟨(-x, -y),⟨⟨by show lim (-x)=false;rw[jH];exact hx,by show lim (-y)=false;rw[jH];exact hy⟩,by show 0 < -y;omega,Rat.neg_divInt_neg x y⟩,?_⟩
    (repeat' first|exact trivial|refine And.intro ?_ ?_)
    ·exact lL hm
    ·exact lL hn
   ·refine Br.mkN (fun h=>hm (hbx.1 h)) ?_
    by_cases hx0:x=0
    ·refine Br.mkN (show ¬ ¬itoa x= [48] by rw[aCq];simpa using hx0) ?_
     refine ⟨(-x, -y),⟨⟨by show lim (-x)=false;rw[jH];exact hx,by show lim (-y)=false;rw[jH];exact hy⟩,by show 0 < -y;omega,Rat.neg_divInt_neg x y⟩,?_⟩
     (repeat' first|exact trivial|refine And.intro ?_ ?_)
     ·show itoa x=itoa (-x)
      rw[hx0];rfl
     ·exact lL hn
    ·refine Br.mkY (show ¬itoa x= [48] by rw[aCq];exact hx0) ?_
     (repeat' first|refine ZG ?_|fail)
     refine ⟨(-x, -y),⟨⟨by show lim (-x)=false;rw[jH];exact hx,by show lim (-y)=false;rw[jH];exact hy⟩,by show 0 < -y;omega,Rat.neg_divInt_neg x y⟩,?_⟩
     (repeat' first|exact trivial|refine And.intro ?_ ?_)
     ·exact aHi (by omega)
     ·exact lL hn
  ·refine Br.mkN (fun h=>hn (hby.1 h)) ?_
   refine ⟨(x,y),⟨⟨hx,hy⟩,by show 0<y;omega,rfl⟩,?_⟩
   (repeat' first|exact trivial|rfl|refine And.intro ?_ ?_)
 ·obtain ⟨⟨hx,hy⟩,hp,he⟩:=hz
  rw[← he,aAr hp]
  have ly:=eL hy
  have lx:=eL hx
  have d1:∀c∈decDigits z.1.natAbs,aR c:=fun c hc=>fJ _ c hc
  have d2:∀c∈decDigits z.2.natAbs,aR c:=fun c hc=>fJ _ c hc
  have i1:=bN z.1
  have i2:itoa z.2=decDigits z.2.natAbs:=by rw[bN,if_neg (by omega)]
  have v2:aC (itoa z.2)=z.2.natAbs:=by rw[i2,bW]
  have hbx:=pF z.1
  have pz:0<(itoa z.1).length:=gQ
  by_cases hs:(itoa z.1).length≤18∧(itoa z.2).length≤18
  ·have m2:(∀c∈itoa z.2,aR c)∧(itoa z.2).length≤18:=⟨by rw[i2];exact d2,hs.2⟩
   have a2:z.2.natAbs<10^18:=mS (k:=18) (by rw[← i2];exact hs.2)
   by_cases hn:z.1<0
   ·have e1:(itoa z.1).drop 1=decDigits z.1.natAbs:=by rw[i1,if_pos hn];rfl
    have l1:(decDigits z.1.natAbs).length≤18:=by rw[← e1,List.length_drop];omega
    have m1:(∀c∈(itoa z.1).drop 1,aR c)∧((itoa z.1).drop 1).length≤18:=by rw[e1];exact ⟨d1,l1⟩
    have v1:aC ((itoa z.1).drop 1)=z.1.natAbs:=by rw[e1,bW]
    have a1:z.1.natAbs<10^18:=mS (k:=18) l1
    have h1: -((aC ((itoa z.1).drop 1):Nat):Int)=z.1:=by rw[v1];omega
    have h2:((aC (itoa z.2):Nat):Int)=z.2:=by rw[v2];omega
    (repeat' first|refine ZR ?_|refine Zg fun _=>?_)
    (conv=>whnf)
    (repeat' first|exact trivial|rfl|refine And.intro ?_ ?_)
    (conv=>whnf)
    rw[h1,h2,aAr hp]
   ·have i1:itoa z.1=decDigits z.1.natAbs:=by rw[i1,if_neg hn]
    have m1:(∀c∈itoa z.1,aR c)∧(itoa z.1).length≤18:=⟨by rw[i1];exact d1,hs.1⟩
    have v1:aC (itoa z.1)=z.1.natAbs:=by rw[i1,bW]
    have a1:z.1.natAbs<10^18:=mS (k:=18) (by rw[← i1];exact hs.1)
    have h1:((aC (itoa z.1):Nat):Int)=z.1:=by rw[v1];omega
    have h2:((aC (itoa z.2):Nat):Int)=z.2:=by rw[v2];omega
    (repeat' first|refine ZR ?_|refine Zg fun _=>?_)
    (conv=>whnf)
    (repeat' first|exact trivial|rfl|refine And.intro ?_ ?_)
    (conv=>whnf)
    rw[h1,h2,aAr hp]
  ·have hg:=aAd hx hy (show z.2≠0 by omega)
   have g0:0<Int.gcd z.1 z.2:=Int.gcd_pos_of_ne_zero_right _ (by omega)
   have gx:((Int.gcd z.1 z.2:Nat):Int) ∣ z.1:=Int.gcd_dvd_left ..
   have gy:((Int.gcd z.1 z.2:Nat):Int) ∣ z.2:=Int.gcd_dvd_right ..
   have gl:lim ((Int.gcd z.1 z.2:Nat):Int)=false:=by
    refine iX (y:=z.2) ?_ hy
    rw[Int.natAbs_natCast]
    exact Nat.le_of_dvd (by omega) (Int.ofNat_dvd_left.1 gy)
   have q1:(bE (itoa z.1) (itoa z.2) (resI (Int.gcd (valI (itoa z.1)) (valI (itoa z.2))))).1=itoa ((Int.gcd z.1 z.2:Nat):Int):=by rw[hg]
   have q2:(bE (itoa z.1) (itoa z.2) (resI (Int.gcd (valI (itoa z.1)) (valI (itoa z.2))))).2=0:=by rw[hg]
   have r1:itoa (valI (itoa z.1)/valI (bE (itoa z.1) (itoa z.2) (resI (Int.gcd (valI (itoa z.1)) (valI (itoa z.2))))).1)=itoa (z.1/(Int.gcd z.1 z.2:Nat)):=by rw[q1,aP,aP]
   have r2:itoa (valI (itoa z.2)/valI (bE (itoa z.1) (itoa z.2) (resI (Int.gcd (valI (itoa z.1)) (valI (itoa z.2))))).1)=itoa (z.2/(Int.gcd z.1 z.2:Nat)):=by rw[q1,aP,aP]
   have n1:chkI (itoa z.1)=0∧chkI (bE (itoa z.1) (itoa z.2) (resI (Int.gcd (valI (itoa z.1)) (valI (itoa z.2))))).1=0∧0<valI (bE (itoa z.1) (itoa z.2) (resI (Int.gcd (valI (itoa z.1)) (valI (itoa z.2))))).1∧valI (bE (itoa z.1) (itoa z.2) (resI (Int.gcd (valI (itoa z.1)) (valI (itoa z.2))))).1 ∣ valI (itoa z.1):=by
    rw[q1,aP,aP]
    exact ⟨bB hx,bB gl,by omega,gx⟩
   have n2:chkI (itoa z.2)=0∧chkI (bE (itoa z.1) (itoa z.2) (resI (Int.gcd (valI (itoa z.1)) (valI (itoa z.2))))).1=0∧0<valI (bE (itoa z.1) (itoa z.2) (resI (Int.gcd (valI (itoa z.1)) (valI (itoa z.2))))).1∧valI (bE (itoa z.1) (itoa z.2) (resI (Int.gcd (valI (itoa z.1)) (valI (itoa z.2))))).1 ∣ valI (itoa z.2):=by
    rw[q1,aP,aP]
    exact ⟨bB hy,bB gl,by omega,gy⟩
   have xl:lim (z.1/(Int.gcd z.1 z.2:Nat))=false:=iX (Int.natAbs_ediv_le_natAbs _ _) hx
   have yl:lim (z.2/(Int.gcd z.1 z.2:Nat))=false:=iX (Int.natAbs_ediv_le_natAbs _ _) hy
   have dl:∀n:Int,lim n=false→(decDigits n.natAbs).length≤300:=fun n h=>by unfold lim at h;simpa using h
   have hbA:=pF (z.1/(Int.gcd z.1 z.2:Nat))
   have pA:0<(itoa (z.1/(Int.gcd z.1 z.2:Nat))).length:=gQ
   have pB:0<(itoa (z.2/(Int.gcd z.1 z.2:Nat))).length:=gQ
   have cA:=bN (z.1/(Int.gcd z.1 z.2:Nat))
   have yp:0<z.2/(Int.gcd z.1 z.2:Nat):=Int.ediv_pos_of_pos_of_dvd hp (by omega) gy
   have lB:(itoa (z.2/(Int.gcd z.1 z.2:Nat))).length≤300:=by
    rw[bN,if_neg (by omega)];exact dl _ yl
   have lA1:z.1/(Int.gcd z.1 z.2:Nat)<0→((itoa (z.1/(Int.gcd z.1 z.2:Nat))).drop 1).length≤300∧(itoa (z.1/(Int.gcd z.1 z.2:Nat))).length≤301:=fun h=>by
    rw[cA,if_pos h]
    have:=dl _ xl
    exact ⟨this,by rw[List.length_cons];omega⟩
   have lA2:¬z.1/(Int.gcd z.1 z.2:Nat)<0→(itoa (z.1/(Int.gcd z.1 z.2:Nat))).length≤300:=fun h=>by
    rw[cA,if_neg h]
    exact dl _ xl
   have hB1:itoa (z.2/(Int.gcd z.1 z.2:Nat))= [49]↔z.2/(Int.gcd z.1 z.2:Nat)=1:=by
    constructor
    ·intro h
     have:=congrArg valI h
     rw[aP] at this
     rw[this];decide
    ·intro h;rw[h]
     exact (aK7 (n:=1) (by decide))
   have hcase:¬(itoa z.1).length≤18∨((itoa z.1).length≤18∧¬(itoa z.2).length≤18):=by omega
   rcases hcase with hc1 | ⟨hc1,hc2⟩
   all_goals
    (repeat' first|refine ZR ?_|refine Zg fun _=>?_)
    rw[r1,r2]
    (repeat' first|refine ZR ?_|refine Zg fun _=>?_)
    by_cases hn:z.1/(Int.gcd z.1 z.2:Nat)<0
    ·refine Br.mkY (hbA.2 hn) ?_
     have l3:=lA1 hn
     (repeat' first|refine ZR ?_|refine Zg fun _=>?_)
     by_cases h1:itoa (z.2/(Int.gcd z.1 z.2:Nat))= [49]
     ·refine Br.mkY h1 ?_
      (conv=>whnf)
      (repeat' first|exact trivial|rfl|refine And.intro ?_ ?_)
      (conv=>whnf)
      rw[if_pos (hB1.1 h1)]
     ·refine Br.mkN h1 ?_
      (repeat' first|refine ZG ?_|fail)
      (conv=>whnf)
      (repeat' first|exact trivial|rfl|refine And.intro ?_ ?_)
      (conv=>whnf)
      rw[if_neg fun h=>h1 (hB1.2 h)]
      simp
    ·refine Br.mkN (fun h=>hn (hbA.1 h)) ?_
     have l3:=lA2 hn
     (repeat' first|refine ZR ?_|refine Zg fun _=>?_)
     by_cases h1:itoa (z.2/(Int.gcd z.1 z.2:Nat))= [49]
     ·refine Br.mkY h1 ?_
      (conv=>whnf)
      (repeat' first|exact trivial|rfl|refine And.intro ?_ ?_)
      (conv=>whnf)
      rw[if_pos (hB1.1 h1)]
     ·refine Br.mkN h1 ?_
      (repeat' first|refine ZG ?_|fail)
      (conv=>whnf)
      (repeat' first|exact trivial|rfl|refine And.intro ?_ ?_)
      (conv=>whnf)
      rw[if_neg fun h=>h1 (hB1.2 h)]
      simp
def c63:Con:=aL 151 true fun args K=>match args with
 | [.str n,.str d]=>Need ((chkI n=0∧chkI d=0)∧valI d≠0) (K (.tup [S (numS (Rat.divInt (valI n) (valI d))),I 0]))
 | _=>False
theorem k63:aI Tryz.prog c63:=by
 refine aD rfl (enters_of Tryz.func151 (by kernel_rfl) rfl) ?_
 intro args K h
 simp only[c63] at h
 split at h
 ·rename_i n d
  obtain ⟨⟨hn,hd⟩,h0⟩:=h.ok
  have e1:=zI.1 (bK hn).1
  have e2:=zI.1 (bK hd).1
  have l1:lim (valI n)=false:=sI (by rw[← e1];exact hn)
  have l2:lim (valI d)=false:=sI (by rw[← e2];exact hd)
  refine ⟨_,h.go,?_⟩
  have ht:=aB (by simp[k85,k62,k86,k71]) Tryz.func151 (by simp[Tryz.ntmps151]) rfl (b63 (valI n) (valI d) l1 l2 h0)
  rw[← e1,← e2] at ht
  exact ht
 ·exact h.elim
theorem wI {n:Int} (h:lim n=true):resI n=([],4):=by unfold resI;rw[if_pos h]
theorem sP {n:Int} (h:lim n=false):resI n=(itoa n,0):=by unfold resI;rw[if_neg (by rw[h];decide)]
theorem b80 (n d m c:List UInt8) (h:ok4 n m d c) (h0:valI d*valI c≠0):(∀hl:lim (valI n*valI m)=true∨lim (valI d*valI c)=true,body Tryz.prog [c81,c63] {} true Tryz.f88 [S n,S d,S m,S c] (.tup [S [],I 4]))∧(∀hl:¬(lim (valI n*valI m)=true∨lim (valI d*valI c)=true),body Tryz.prog [c81,c63] {} true Tryz.f88 [S n,S d,S m,S c] (.tup [S (numS (Rat.divInt (valI n*valI m) (valI d*valI c))),I 0])):=by
 refine ⟨fun hl=>?_,fun hl=>?_⟩
 ·by_cases h1:lim (valI n*valI m)=true
  ·(repeat' first|refine ZG ?_|fail)
   refine Br.mkY h1 ?_
   (repeat' first|refine ZR ?_|fail)
   (conv=>whnf)
   (repeat' first|exact trivial|rfl|refine And.intro ?_ ?_)
  ·have h2:lim (valI d*valI c)=true:=hl.elim (fun h=>absurd h h1) id
   (repeat' first|refine ZG ?_|fail)
   refine Br.mkN h1 ?_
   refine Br.mkY (show ¬(resI (valI d*valI c)).2=0 by rw[wI h2];decide) ?_
   (conv=>whnf)
   (repeat' first|exact trivial|rfl|refine And.intro ?_ ?_)
   (conv=>whnf)
   rw[wI h2]
 ·have h1:lim (valI n*valI m)=false:=by
   cases h:lim (valI n*valI m) with
   | true=>exact absurd (.inl h) hl
   | false=>rfl
  have h2:lim (valI d*valI c)=false:=by
   cases h:lim (valI d*valI c) with
   | true=>exact absurd (.inr h) hl
   | false=>rfl
  have e2:=sP h2
  have n1:(chkI (itoa (valI n*valI m))=0∧chkI (resI (valI d*valI c)).1=0)∧valI (resI (valI d*valI c)).1≠0:=by
   rw[e2]
   exact ⟨⟨bB h1,bB h2⟩,by rw[aP];exact h0⟩
  (repeat' first|refine ZG ?_|fail)
  refine Br.mkN (by rw[h1];decide) ?_
  refine Br.mkN (show ¬ ¬(resI (valI d*valI c)).2=0 by rw[e2];simp) ?_
  (repeat' first|refine ZG ?_|fail)
  (conv=>whnf)
  (repeat' first|exact trivial|rfl|refine And.intro ?_ ?_)
  (conv=>whnf)
  rw[e2,aP,aP]
def c80:Con:=aL 88 true fun args K=>match args with
 | [.str n,.str d,.str m,.str c]=>Need (ok4 n m d c∧valI d*valI c≠0) (Br (lim (valI n*valI m)=true∨lim (valI d*valI c)=true) (K (.tup [S [],I 4])) (K (.tup [S (numS (Rat.divInt (valI n*valI m) (valI d*valI c))),I 0])))
 | _=>False
theorem k80:aI Tryz.prog c80:=by
 refine aD rfl (enters_of Tryz.func88 (by kernel_rfl) rfl) ?_
 intro args K h
 simp only[c80] at h
 split at h
 ·rename_i n d m c
  have hb:=b80 n d m c h.ok.1 h.ok.2
  by_cases hl:lim (valI n*valI m)=true∨lim (valI d*valI c)=true
  ·exact ⟨_,h.go.yes hl,aB (by simp[k81,k63]) Tryz.func88 (by simp[Tryz.ntmps88]) rfl (hb.1 hl)⟩
  ·exact ⟨_,h.go.no hl,aB (by simp[k81,k63]) Tryz.func88 (by simp[Tryz.ntmps88]) rfl (hb.2 hl)⟩
 ·exact h.elim
theorem mul9 {x y:Int} (hx:x.natAbs<1000000000) (hy:y.natAbs<1000000000): -1000000000000000000<x*y∧x*y<1000000000000000000:=by
 have h:=Int.natAbs_mul x y
 have h1:x.natAbs*y.natAbs<1000000000*1000000000:=Nat.mul_lt_mul'' hx hy
 omega
theorem aAs {q:Rat} (h:Sz 300 q):chkI (pn q)=0∧valI (pn q)=q.num∧lim q.num=false:=by
 have h1:lim q.num=false:=by
  unfold lim
  have:=h.digs.1
  simp;omega
 exact ⟨bB h1,mO q,h1⟩
theorem aAt {q:Rat} (h:Sz 300 q):chkI (pd q)=0∧valI (pd q)=q.den:=by
 have:=aEp h.digs.2
 exact ⟨this.2.1,this.2.2⟩
theorem aCs:chkI [49]=0∧valI [49]=1:=by
 have e:([49]:List UInt8)=itoa 1:=(aK7 (n:=1) (by decide)).symm
 rw[e,aP]
 exact ⟨bB (bS (by decide)),rfl⟩
theorem aLa (p q:Rat):Rat.divInt (p.num*q.den+q.num*p.den) (p.den*q.den)=p+q:=by
 rw[aB4,← Int.natCast_mul,Rat.divInt_ofNat]
theorem aLb {p q:Rat} (l1:lim (p.num*q.den)=false) (l2:lim (q.num*p.den)=false) (l3:lim (p.num*q.den+q.num*p.den)=false) (l4:lim (p.den*q.den)=false):addf p q=(numS (p+q),0):=by
 unfold addf
 rw[if_neg (by simp[l1,l2,l3,l4])]
theorem pG (n:Int):lim n=true∨lim n=false:=by cases lim n<;>simp
set_option maxHeartbeats 8000000 in
theorem b67 (a b:List UInt8) (h:chkQ a=0∧chkQ b=0):body Tryz.prog [c70,c62,c65,c81,c103,c63] {} true Tryz.f83 [S a,S b] (.tup [S (addf (valQ a) (valQ b)).1,I (addf (valQ a) (valQ b)).2]):=by
 obtain ⟨ha,hb⟩:=h
 have hp:=(iM ha).2
 have hq:=(iM hb).2
 obtain ⟨cn1,vn1,ln1⟩:=aAs hp
 obtain ⟨cn2,vn2,ln2⟩:=aAs hq
 obtain ⟨cd1,vd1⟩:=aAt hp
 obtain ⟨cd2,vd2⟩:=aAt hq
 have d1:=(valQ a).den_pos
 have d2:=(valQ b).den_pos
 by_cases hs:smR (valQ a)∧smR (valQ b)
 ·have s1:=uJ hs.1
  have s2:=uJ hs.2
  have m1:=mul9 (x:=(valQ a).num) (y:=((valQ b).den:Int)) s1.1 (by omega)
  have m2:=mul9 (x:=(valQ b).num) (y:=((valQ a).den:Int)) s2.1 (by omega)
  have m3:=mul9 (x:=((valQ a).den:Int)) (y:=((valQ b).den:Int)) (by omega) (by omega)
  have m4:0<((valQ a).den:Int)*((valQ b).den:Int):=Int.mul_pos (by omega) (by omega)
  have ea:=aLb (p:=valQ a) (q:=valQ b) (bS (by omega)) (bS (by omega)) (bS (by omega)) (bS (by omega))
  (repeat' first|refine ZG ?_|fail)
  refine Br.mkY hs.1 ?_
  (repeat' first|refine ZG ?_|fail)
  refine Br.mkY hs.2 ?_
  (repeat' first|refine ZG ?_|fail)
  (conv=>whnf)
  (repeat' first|exact trivial|rfl|refine And.intro ?_ ?_)
  ·(conv=>whnf)
   rw[ea,← aLa]
  ·(conv=>whnf)
   rw[ea]
 ·have n4:ok4 (pn (valQ a)) (pd (valQ b)) (pn (valQ b)) (pd (valQ a)):=⟨⟨cn1,cd2⟩,cn2,cd1⟩
  have n5:ok4 (pd (valQ a)) (pd (valQ b)) [49] [49]:=⟨⟨cd1,cd2⟩,aCs.1,aCs.1⟩
  have hcase:(¬smR (valQ a)∧smR (valQ b))∨(¬smR (valQ a)∧¬smR (valQ b))∨(smR (valQ a)∧¬smR (valQ b)):=by
   by_cases h1:smR (valQ a)
   ·exact .inr (.inr ⟨h1,fun h2=>hs ⟨h1,h2⟩⟩)
   ·by_cases h2:smR (valQ b)
    ·exact .inl ⟨h1,h2⟩
    ·exact .inr (.inl ⟨h1,h2⟩)
  rcases hcase with ⟨h1,h2⟩ | ⟨h1,h2⟩ | ⟨h1,h2⟩
  all_goals (repeat' first|refine ZG ?_|fail)
  all_goals first | refine Br.mkN h1 ?_ | refine Br.mkY h1 ?_
  all_goals (repeat' first|refine ZG ?_|fail)
  all_goals first | refine Br.mkN h2 ?_ | refine Br.mkY h2 ?_
  all_goals (repeat' first|refine ZG ?_|fail)
  all_goals
   rcases pG ((valQ a).num*((valQ b).den:Int)) with l1 | l1
   ·have ea:addf (valQ a) (valQ b)=([],4):=by unfold addf;rw[if_pos (by simp[l1])]
    rw[ea]
    refine Br.mkY (show lim (valI (pn (valQ a))*valI (pd (valQ b)))=true by rw[vn1,vd2];exact l1) ?_
    (repeat' first|refine ZR ?_|fail)
    (conv=>whnf)
    (repeat' first|exact trivial|rfl|refine And.intro ?_ ?_)
   ·refine Br.mkN (show ¬lim (valI (pn (valQ a))*valI (pd (valQ b)))=true by rw[vn1,vd2,l1];decide) ?_
    rcases pG ((valQ b).num*((valQ a).den:Int)) with l2 | l2
    ·have ea:addf (valQ a) (valQ b)=([],4):=by unfold addf;rw[if_pos (by simp[l2])]
     have e4:resI (valI (pn (valQ b))*valI (pd (valQ a)))=([],4):=by rw[vn2,vd1];exact wI l2
     refine Br.mkY (show ¬(resI (valI (pn (valQ b))*valI (pd (valQ a)))).2=0 by rw[e4];decide) ?_
     (conv=>whnf)
     (repeat' first|exact trivial|rfl|refine And.intro ?_ ?_)
     ·(conv=>whnf)
      rw[ea]
     ·(conv=>whnf)
      rw[ea,e4]
    ·have e4:resI (valI (pn (valQ b))*valI (pd (valQ a)))=(itoa ((valQ b).num*((valQ a).den:Int)),0):=by rw[vn2,vd1];exact sP l2
     refine Br.mkN (show ¬ ¬(resI (valI (pn (valQ b))*valI (pd (valQ a)))).2=0 by rw[e4];simp) ?_
     (repeat' first|refine ZG ?_|fail)
     rcases pG (((valQ a).den:Int)*((valQ b).den:Int)) with l4 | l4
     ·have ea:addf (valQ a) (valQ b)=([],4):=by unfold addf;rw[if_pos (by simp[l4])]
      refine Br.mkY (show lim (valI (pd (valQ a))*valI (pd (valQ b)))=true by rw[vd1,vd2];exact l4) ?_
      (repeat' first|refine ZR ?_|fail)
      (conv=>whnf)
      (repeat' first|exact trivial|rfl|refine And.intro ?_ ?_)
      ·(conv=>whnf)
       rw[ea]
      ·(conv=>whnf)
       rw[ea]
     ·refine Br.mkN (show ¬lim (valI (pd (valQ a))*valI (pd (valQ b)))=true by rw[vd1,vd2,l4];decide) ?_
      have e49:resI (valI [49]*valI [49])=([49],0):=by
       rw[aCs.2,sP (bS (by decide))]
       exact congrArg (fun z=>(z,(0:Int))) (aK7 (n:=1) (by decide))
      refine Br.mkN (show ¬ ¬(resI (valI [49]*valI [49])).2=0 by rw[e49];simp) ?_
      refine Br.mkN (show ¬ ¬(resI (valI [49]*valI [49])).1= [49] by rw[e49];simp) ?_
      have e6:bE (itoa (valI (pn (valQ a))*valI (pd (valQ b)))) (resI (valI (pn (valQ b))*valI (pd (valQ a)))).1 (resI (valI (itoa (valI (pn (valQ a))*valI (pd (valQ b))))+valI (resI (valI (pn (valQ b))*valI (pd (valQ a)))).1))=resI ((valQ a).num*((valQ b).den:Int)+(valQ b).num*((valQ a).den:Int)):=by
       rw[e4,vn1,vd2,aP,aP]
       exact sK (bB l1) (bB l2) _
      rcases pG ((valQ a).num*((valQ b).den:Int)+(valQ b).num*((valQ a).den:Int)) with l3 | l3
      ·have ea:addf (valQ a) (valQ b)=([],4):=by unfold addf;rw[if_pos (by simp[l3])]
       rw[wI l3] at e6
       refine Br.mkY (show ¬(bE (itoa (valI (pn (valQ a))*valI (pd (valQ b)))) (resI (valI (pn (valQ b))*valI (pd (valQ a)))).1 (resI (valI (itoa (valI (pn (valQ a))*valI (pd (valQ b))))+valI (resI (valI (pn (valQ b))*valI (pd (valQ a)))).1))).2=0 by rw[e6];decide) ?_
       (conv=>whnf)
       (repeat' first|exact trivial|rfl|refine And.intro ?_ ?_)
       ·(conv=>whnf)
        rw[ea]
       ·(conv=>whnf)
        rw[ea,e6]
      ·have ea:=aLb l1 l2 l3 l4
       rw[sP l3] at e6
       have m1:(chkI (bE (itoa (valI (pn (valQ a))*valI (pd (valQ b)))) (resI (valI (pn (valQ b))*valI (pd (valQ a)))).1 (resI (valI (itoa (valI (pn (valQ a))*valI (pd (valQ b))))+valI (resI (valI (pn (valQ b))*valI (pd (valQ a)))).1))).1=0∧chkI (itoa (valI (pd (valQ a))*valI (pd (valQ b))))=0)∧valI (itoa (valI (pd (valQ a))*valI (pd (valQ b))))≠0:=by
        rw[e6,vd1,vd2,aP]
        exact ⟨⟨bB l3,bB l4⟩,Int.mul_ne_zero (by omega) (by omega)⟩
       refine Br.mkN (show ¬ ¬(bE (itoa (valI (pn (valQ a))*valI (pd (valQ b)))) (resI (valI (pn (valQ b))*valI (pd (valQ a)))).1 (resI (valI (itoa (valI (pn (valQ a))*valI (pd (valQ b))))+valI (resI (valI (pn (valQ b))*valI (pd (valQ a)))).1))).2=0 by rw[e6];simp) ?_
       (repeat' first|refine ZG ?_|fail)
       (conv=>whnf)
       (repeat' first|exact trivial|rfl|refine And.intro ?_ ?_)
       ·(conv=>whnf)
        rw[ea,e6,vd1,vd2,aP,aP,aLa]
       ·(conv=>whnf)
        rw[ea]
def c67:Con:=aL 83 true fun args K=>match args with
 | [.str a,.str b]=>Need (chkQ a=0∧chkQ b=0) (K (.tup [S (addf (valQ a) (valQ b)).1,I (addf (valQ a) (valQ b)).2]))
 | _=>False
theorem k67:aI Tryz.prog c67:=by
 refine aD rfl (enters_of Tryz.func83 (by kernel_rfl) rfl) ?_
 intro args K h
 simp only[c67] at h
 split at h
 ·rename_i a b
  exact ⟨_,h.go,aB (by simp[k70,k62,k65,k81,k103,k63]) Tryz.func83 (by simp[Tryz.ntmps83]) rfl (b67 a b h.ok)⟩
 ·exact h.elim
theorem bad2 {a b:List UInt8} (h:chkB a b≠0) (f:Rat→Rat→List UInt8 × Int):eK a b f=([],chkB a b):=by
 unfold eK chkB at*
 by_cases h1:chkQ a≠0
 ·rw[if_pos h1,if_pos h1]
 ·rw[if_neg h1] at h ⊢
  rw[if_pos h,if_neg h1]
theorem aHj {a b:List UInt8} (h:¬chkB a b≠0):chkQ a=0∧chkQ b=0:=by
 unfold chkB at h
 by_cases h1:chkQ a≠0
 ·rw[if_pos h1] at h;exact absurd h1 h
 ·rw[if_neg h1] at h
  exact ⟨Classical.not_not.1 h1,Classical.not_not.1 h⟩
theorem aCt {a b:List UInt8} (h:chkQ a=0∧chkQ b=0) (f:Rat→Rat→List UInt8 × Int):eK a b f=f (valQ a) (valQ b):=by
 unfold eK
 rw[if_neg (by rw[h.1];simp),if_neg (by rw[h.2];simp)]
theorem sQ (q:Rat):(-q).num= -q.num∧(-q).den=q.den:=⟨rfl,rfl⟩
theorem aPi (q:Rat):numS (-q)=if q.num<0 then (numS q).drop 1 else if q=0 then numS q else 45::numS q:=by
 unfold numS
 rw[(sQ q).1,(sQ q).2]
 by_cases h1:q.num<0
 ·rw[if_pos h1,← lL h1]
  split
  ·rfl
  ·rw[List.drop_append_of_le_length gQ]
 ·rw[if_neg h1]
  by_cases h0:q=0
  ·rw[if_pos h0,h0];rfl
  ·rw[if_neg h0]
   have h2:0<q.num:=by
    have:q.num≠0:=fun e=>h0 (Rat.num_eq_zero.1 e)
    omega
   rw[← aHi h2]
   split<;>rfl
theorem aLc (q:Rat):numS q= [48]↔q=0:=⟨fun h=>aN9 (h.trans numS0.symm),fun h=>by rw[h];exact numS0⟩
theorem aPj {q:Rat} (h:Sz 300 q):(numS q).length≤602:=by
 have h1:=h.digs
 have h2:(itoa q.num).length≤301:=by
  rw[bN];split
  ·rw[List.length_cons];omega
  ·omega
 unfold numS
 split
 ·omega
 ·rw[List.length_append,List.length_cons];omega
theorem b79 (q:Rat) (hq:Sz 300 q):body Tryz.prog [] {} true Tryz.f84 [S (numS q)] (S (numS (-q))):=by
 have hl:=aPj hq
 have h0:=List.length_pos_iff.2 (aEv q)
 rw[aPi]
 by_cases hz:q=0
 ·refine Br.mkY ((aLc q).2 hz) ?_
  (conv=>whnf)
  (conv=>whnf)
  rw[if_neg (by rw[hz];decide),if_pos hz]
 ·refine Br.mkN (fun h=>hz ((aLc q).1 h)) ?_
  (repeat' first|refine ZG ?_|refine Zg fun _=>?_)
  by_cases hn:q.num<0
  ·refine Br.mkY ((uI q).2 ((lt0 q).2 hn)) ?_
   (repeat' first|refine ZG ?_|fail)
   (conv=>whnf)
   (conv=>whnf)
   rw[if_pos hn]
  ·refine Br.mkN (fun h=>hn ((lt0 q).1 ((uI q).1 h))) ?_
   (repeat' first|refine ZG ?_|fail)
   (conv=>whnf)
   (conv=>whnf)
   rw[if_neg hn,if_neg hz];rfl
def c79:Con:=aL 84 true fun args K=>match args with | [.str s]=>Need (chkQ s=0) (K (S (numS (-valQ s)))) | _=>False
theorem k79:aI Tryz.prog c79:=by
 refine aD rfl (enters_of Tryz.func84 (by kernel_rfl) rfl) ?_
 intro args K h
 simp only[c79] at h
 split at h
 ·rename_i s
  obtain ⟨e,hq⟩:=iM h.ok
  refine ⟨_,h.go,?_⟩
  have ht:=aB (by simp) Tryz.func84 (by simp[Tryz.ntmps84]) rfl (b79 (valQ s) hq)
  rw[← e] at ht
  exact ht
 ·exact h.elim
theorem aRc (p q:Rat):addf p (-q)=subf p q:=by
 unfold addf subf
 rw[(sQ q).1,(sQ q).2,Int.neg_mul,jH,← Int.sub_eq_add_neg,Rat.sub_eq_add_neg]
theorem b40 (a b:List UInt8):body Tryz.prog [c78,c79,c67] {} true Tryz.f21 [S a,S b] (.tup [S (subQ a b).1,I (subQ a b).2]):=by
 (refine Br.mk (fun _=>?_) (fun _=>?_))
 ·rename_i h
  have e:subQ a b=([],chkB a b):=bad2 h _
  rw[e]
  (conv=>whnf)
  (repeat' first|exact trivial|rfl|refine And.intro ?_ ?_)
 ·rename_i h
  obtain ⟨ha,hb⟩:=aHj h
  have e:subQ a b=addf (valQ a) (valQ (numS (-valQ b))):=by
   rw[eD,aRc]
   exact aCt (aHj h) _
  have hs:Sz 300 (-valQ b):=by
   have:=(iM hb).2
   exact ⟨by rw[(sQ _).1,Int.natAbs_neg];exact this.1,this.2⟩
  have hc:chkQ a=0∧chkQ (numS (-valQ b))=0:=⟨ha,qV hs ⟨by decide,by decide⟩⟩
  rw[e]
  (repeat' first|refine ZG ?_|fail)
  (conv=>whnf)
  (repeat' first|exact trivial|rfl|refine And.intro ?_ ?_)
def c40:Con:=aL 21 true fun args K=>match args with | [.str a,.str b]=>K (.tup [S (subQ a b).1,I (subQ a b).2]) | _=>False
theorem k40:aI Tryz.prog c40:=by
 refine aD rfl (enters_of Tryz.func21 (by kernel_rfl) rfl) ?_
 intro args K h
 simp only[c40] at h
 split at h
 ·rename_i a b;exact ⟨_,h,aB (by simp[k78,k79,k67]) Tryz.func21 (by simp[Tryz.ntmps21]) rfl (b40 a b)⟩
 ·exact h.elim
theorem aHk {p q:Prop} (hs:¬(p∧q)):(¬p∧q)∨(¬p∧¬q)∨(p∧¬q):=by
 by_cases h1:p
 ·exact .inr (.inr ⟨h1,fun h2=>hs ⟨h1,h2⟩⟩)
 ·by_cases h2:q
  ·exact .inl ⟨h1,h2⟩
  ·exact .inr (.inl ⟨h1,h2⟩)
theorem aLd {p q:Rat} (l1:lim (p.num*q.num)=false) (l2:lim (p.den*q.den)=false):mulf p q=(numS (p*q),0):=by
 unfold mulf
 rw[if_neg (by simp[l1,l2])]
theorem aLe (p q:Rat):Rat.divInt (p.num*q.num) (p.den*q.den)=p*q:=by
 rw[tS,← Int.natCast_mul,Rat.divInt_ofNat]
set_option maxHeartbeats 8000000 in
theorem b41g (a b:List UInt8) (ha:chkQ a=0) (hb:chkQ b=0):body Tryz.prog [c78,c70,c62,c65,c80] {} true Tryz.f95 [S a,S b] (.tup [S (mulf (valQ a) (valQ b)).1,I (mulf (valQ a) (valQ b)).2]):=by
 have hp:=(iM ha).2
 have hq:=(iM hb).2
 obtain ⟨cn1,vn1,ln1⟩:=aAs hp
 obtain ⟨cn2,vn2,ln2⟩:=aAs hq
 obtain ⟨cd1,vd1⟩:=aAt hp
 obtain ⟨cd2,vd2⟩:=aAt hq
 have d1:=(valQ a).den_pos
 have d2:=(valQ b).den_pos
 have hc:¬chkB a b≠0:=by unfold chkB;rw[if_neg (by rw[ha];simp),hb];simp
 by_cases hs:smR (valQ a)∧smR (valQ b)
 ·have s1:=uJ hs.1
  have s2:=uJ hs.2
  have m1:=mul9 (x:=(valQ a).num) (y:=(valQ b).num) s1.1 s2.1
  have m3:=mul9 (x:=((valQ a).den:Int)) (y:=((valQ b).den:Int)) (by omega) (by omega)
  have m4:0<((valQ a).den:Int)*((valQ b).den:Int):=Int.mul_pos (by omega) (by omega)
  have ea:=aLd (p:=valQ a) (q:=valQ b) (bS (by omega)) (bS (by omega))
  refine Br.mkN (show ¬ ¬chkB a b=0 from hc) ?_
  (repeat' first|refine ZG ?_|fail)
  refine Br.mkY hs.1 ?_
  (repeat' first|refine ZG ?_|fail)
  refine Br.mkY hs.2 ?_
  (repeat' first|refine ZG ?_|fail)
  (conv=>whnf)
  (repeat' first|exact trivial|rfl|refine And.intro ?_ ?_)
  ·(conv=>whnf)
   rw[ea,← aLe]
  ·(conv=>whnf)
   rw[ea]
 ·have n4:ok4 (pn (valQ a)) (pd (valQ a)) (pn (valQ b)) (pd (valQ b))∧valI (pd (valQ a))*valI (pd (valQ b))≠0:=⟨⟨⟨cn1,cd1⟩,cn2,cd2⟩,by rw[vd1,vd2];exact Int.mul_ne_zero (by omega) (by omega)⟩
  rcases aHk hs with ⟨h1,h2⟩ | ⟨h1,h2⟩ | ⟨h1,h2⟩
  all_goals skip
  all_goals refine Br.mkN (show ¬ ¬chkB a b=0 from hc) ?_
  all_goals (repeat' first|refine ZG ?_|fail)
  all_goals first | refine Br.mkN h1 ?_ | refine Br.mkY h1 ?_
  all_goals (repeat' first|refine ZG ?_|fail)
  all_goals first | refine Br.mkN h2 ?_ | refine Br.mkY h2 ?_
  all_goals (repeat' first|refine ZG ?_|fail)
  all_goals
   by_cases hl:lim (valI (pn (valQ a))*valI (pn (valQ b)))=true∨lim (valI (pd (valQ a))*valI (pd (valQ b)))=true
   ·have ea:mulf (valQ a) (valQ b)=([],4):=by
     rw[vn1,vn2,vd1,vd2] at hl
     unfold mulf
     rw[if_pos (by simpa using hl)]
    refine Br.mkY hl ?_
    (conv=>whnf)
    (repeat' first|exact trivial|rfl|refine And.intro ?_ ?_)
    ·(conv=>whnf)
     rw[ea]
    ·(conv=>whnf)
     rw[ea]
   ·refine Br.mkN hl ?_
    rw[vn1,vn2,vd1,vd2] at hl
    have ea:=aLd (p:=valQ a) (q:=valQ b) (by simpa using fun h=>hl (.inl h)) (by simpa using fun h=>hl (.inr h))
    (conv=>whnf)
    (repeat' first|exact trivial|rfl|refine And.intro ?_ ?_)
    ·(conv=>whnf)
     rw[ea,vn1,vn2,vd1,vd2,aLe]
    ·(conv=>whnf)
     rw[ea]
theorem b41 (a b:List UInt8):body Tryz.prog [c78,c70,c62,c65,c80] {} true Tryz.f95 [S a,S b] (.tup [S (mulQ a b).1,I (mulQ a b).2]):=by
 by_cases h:chkB a b≠0
 ·have e:mulQ a b=([],chkB a b):=bad2 h _
  rw[e]
  refine Br.mkY h ?_
  (conv=>whnf)
  (repeat' first|exact trivial|rfl|refine And.intro ?_ ?_)
 ·have e:mulQ a b=mulf (valQ a) (valQ b):=aCt (aHj h) _
  rw[e]
  exact b41g a b (aHj h).1 (aHj h).2
def c41:Con:=aL 95 true fun args K=>match args with | [.str a,.str b]=>K (.tup [S (mulQ a b).1,I (mulQ a b).2]) | _=>False
theorem k41:aI Tryz.prog c41:=by
 refine aD rfl (enters_of Tryz.func95 (by kernel_rfl) rfl) ?_
 intro args K h
 simp only[c41] at h
 split at h
 ·rename_i a b;exact ⟨_,h,aB (by simp[k78,k70,k62,k65,k80]) Tryz.func95 (by simp[Tryz.ntmps95]) rfl (b41 a b)⟩
 ·exact h.elim
def longL (l:List (List UInt8)):Prop:=(∃a∈l,aK9 a)∨8<l.length
noncomputable instance (l:List (List UInt8)):Decidable (longL l):=Classical.propDecidable _
theorem aMq {n:Int} (h:n<0) (h0:n.tdiv 10≠0):itoa n=itoa (n.tdiv 10)++itoa (-(n.tmod 10)):=by
 obtain ⟨m,rfl⟩:∃m:Nat,n= -(m:Int):=⟨n.natAbs,by omega⟩
 have e1:(-(m:Int)).tdiv 10= -((m/10:Nat):Int):=by rw[Int.neg_tdiv,Int.tdiv_eq_ediv_of_nonneg (by omega)];rfl
 have e2:(-(m:Int)).tmod 10= -((m%10:Nat):Int):=by rw[Int.neg_tmod,Int.tmod_eq_emod_of_nonneg (by omega)];rfl
 rw[e1] at h0
 have hm:10≤m:=Nat.le_of_not_lt fun h'=>h0 (by rw[Nat.div_eq_of_lt h'];rfl)
 rw[e1,e2,Int.neg_neg,dY,bN,if_pos h,bN,if_pos (by omega)]
 rw[Int.natAbs_neg,Int.natAbs_natCast,Int.natAbs_neg,Int.natAbs_natCast,List.cons_append]
 congr 1
 conv=>lhs;rw[decDigits,dif_neg (by omega)]
 rw[dec1 (Nat.mod_lt _ (by omega))]
def c64 (k:Nat):Con:=aL 154 true fun args K=>match args with | [.val (.int .i64 n)]=>Need ((-9223372036854775808≤n∧n≤9223372036854775807)∧n.natAbs<10^k) (K (S (itoa n))) | _=>False
theorem mU {n:Int} (h: -9223372036854775808≤n∧n≤9223372036854775807):(itoa n).length≤20:=by
 have:=IB.fI 18 n.natAbs (by omega)
 rw[bN];split
 ·rw[List.length_cons];omega
 ·omega
theorem b64 (k:Nat) (n:Int) (h:(-9223372036854775808≤n∧n≤9223372036854775807)∧n.natAbs<10^ (k+1)):body Tryz.prog [c101,c64 k] {} true Tryz.f154 [I n] (S (itoa n)):=by
 obtain ⟨hn,hk⟩:=h
 have hl:=mU hn
 (refine Br.mk (fun _=>?_) (fun _=>?_))
 ·rename_i h0
  (repeat' first|refine ZG ?_|fail)
  (conv=>whnf)
 ·rename_i h0
  have q1:n.tdiv 10= -((n.natAbs/10:Nat):Int):=by
   obtain ⟨m,rfl⟩:∃m:Nat,n= -(m:Int):=⟨n.natAbs,by omega⟩
   rw[Int.neg_tdiv,Int.tdiv_eq_ediv_of_nonneg (by omega),Int.natAbs_neg,Int.natAbs_natCast];rfl
  have q2:n.tmod 10= -((n.natAbs%10:Nat):Int):=by
   obtain ⟨m,rfl⟩:∃m:Nat,n= -(m:Int):=⟨n.natAbs,by omega⟩
   rw[Int.neg_tmod,Int.tmod_eq_emod_of_nonneg (by omega),Int.natAbs_neg,Int.natAbs_natCast];rfl
  have q3:n.natAbs/10<10^k:=by rw[Nat.pow_succ] at hk;omega
  have b1: -9223372036854775808≤n.tdiv 10∧n.tdiv 10≤9223372036854775807:=by rw[q1];omega
  have b2: -9≤n.tmod 10∧n.tmod 10≤0:=by rw[q2];omega
  have b3:(n.tdiv 10).natAbs<10^k:=by rw[q1,Int.natAbs_neg,Int.natAbs_natCast];exact q3
  have l1:=mU b1
  have l2:=mU (n:= -(n.tmod 10)) (by omega)
  (repeat' first|refine ZG ?_|fail)
  (refine Br.mk (fun _=>?_) (fun _=>?_))
  ·rename_i hz
   have hm:n.natAbs<10:=by
    rw[q1] at hz
    omega
   have e:itoa n=45::itoa (-n):=by
    rw[bN,if_pos (by omega),bN (-n),if_neg (by omega),Int.natAbs_neg]
   have l3:(itoa (-n)).length≤20:=mU (by omega)
   (repeat' first|refine ZG ?_|fail)
   (conv=>whnf)
   exact e.symm
  ·rename_i hz
   have e:=aMq (n:=n) (by omega) hz
   (repeat' first|refine ZG ?_|fail)
   (conv=>whnf)
   exact e.symm
theorem b64z (n:Int) (h:0≤n∧n≤9223372036854775807):body Tryz.prog [c101] {} true Tryz.f154 [I n] (S (itoa n)):=by
 (repeat' first|refine ZR ?_|fail)
 (conv=>whnf)
theorem k64:∀k,aI Tryz.prog (c64 k)
 | 0=>by
  refine aD rfl (enters_of Tryz.func154 (by kernel_rfl) rfl) ?_
  intro args K h
  simp only[c64] at h
  split at h
  ·rename_i n
   have h1:=h.ok.2
   rw[Nat.pow_zero] at h1
   exact ⟨_,h.go,aB (by simp[k101]) Tryz.func154 (by simp[Tryz.ntmps154]) rfl (b64z n (by omega))⟩
  ·exact h.elim
 | k+1=>by
  refine aD rfl (enters_of Tryz.func154 (by kernel_rfl) rfl) ?_
  intro args K h
  simp only[c64] at h
  split at h
  ·rename_i n
   exact ⟨_,h.go,aB (by simp[k101,k64 k]) Tryz.func154 (by simp[Tryz.ntmps154]) rfl (b64 k n h.ok)⟩
  ·exact h.elim
def c64':Con:=c64 20
theorem k64':aI Tryz.prog c64':=k64 20
theorem aRw {n:Int} (h: -9223372036854775808≤n∧n≤9223372036854775807):n.natAbs<10^20:=by
 have:(10:Nat)^20=100000000000000000000:=by decide
 omega
theorem b25 (n d:Int) (h:(-9223372036854775808≤n∧n≤9223372036854775807)∧(-9223372036854775808≤d∧d≤9223372036854775807)):body Tryz.prog [c62,c64',c63] {} true Tryz.f94 [I n,I d] (.tup [S (ofQ n d).1,I (ofQ n d).2]):=by
 obtain ⟨hn,hd⟩:=h
 by_cases h0:d=0
 ·have e:ofQ n d=([],12):=by unfold ofQ;rw[if_pos h0]
  rw[e]
  (repeat' first|refine ZR ?_|fail)
  (conv=>whnf)
  (repeat' first|exact trivial|rfl|refine And.intro ?_ ?_)
 ·have e:ofQ n d=(numS (Rat.divInt n d),0):=by unfold ofQ;rw[if_neg h0]
  rw[e]
  have p1:=aRw hn
  have p2:=aRw hd
  by_cases hq:(-4611686018427387904<n∧n<4611686018427387904)∧0<d∧d<4611686018427387904
  ·(repeat' first|refine ZR ?_|fail)
   (conv=>whnf)
   (repeat' first|exact trivial|rfl|refine And.intro ?_ ?_)
  ·have l1:lim n=false:=bS (Nat.lt_of_lt_of_le p1 (cJ (by decide)))
   have l2:lim d=false:=bS (Nat.lt_of_lt_of_le p2 (cJ (by decide)))
   have hN:(chkI (itoa n)=0∧chkI (itoa d)=0)∧valI (itoa d)≠0:=⟨⟨bB l1,bB l2⟩,by rw[aP];exact h0⟩
   have hN1:(-9223372036854775808≤n∧n≤9223372036854775807)∧n.natAbs<10^20:=⟨hn,p1⟩
   have hN2:(-9223372036854775808≤d∧d≤9223372036854775807)∧d.natAbs<10^20:=⟨hd,p2⟩
   refine Br.mkN h0 ?_
   have hcase:¬ -4611686018427387904<n∨(-4611686018427387904<n∧¬n<4611686018427387904)∨(-4611686018427387904<n∧n<4611686018427387904∧¬0<d)∨(-4611686018427387904<n∧n<4611686018427387904∧0<d∧¬d<4611686018427387904):=by omega
   rcases hcase with c1 | ⟨c1,c2⟩ | ⟨c1,c2,c3⟩ | ⟨c1,c2,c3,c4⟩
   all_goals
    (repeat' first|refine ZR ?_|fail)
    (conv=>whnf)
    (repeat' first|exact trivial|rfl|refine And.intro ?_ ?_)
    (conv=>whnf)
    rw[aP,aP]
def c25:Con:=aL 94 true fun args K=>match args with | [.val (.int .i64 n),.val (.int .i64 d)]=>Need ((-9223372036854775808≤n∧n≤9223372036854775807)∧(-9223372036854775808≤d∧d≤9223372036854775807)) (K (.tup [S (ofQ n d).1,I (ofQ n d).2])) | _=>False
theorem k25:aI Tryz.prog c25:=by
 refine aD rfl (enters_of Tryz.func94 (by kernel_rfl) rfl) ?_
 intro args K h
 simp only[c25] at h
 split at h
 ·rename_i n d;exact ⟨_,h.go,aB (by simp[k62,k64',k63]) Tryz.func94 (by simp[Tryz.ntmps94]) rfl (b25 n d h.ok)⟩
 ·exact h.elim
theorem nat10_cons (c:UInt8) (r:List UInt8):aC (c::r)=aC [c]*10^r.length+aC r:=jF [c] r
theorem aCu (c:UInt8):aC [c]=c.toNat-48:=by simp[aC]
theorem aAu:∀(x y:List UInt8),x.length=y.length→(∀c∈x,aR c)→(∀c∈y,aR c)→(Op.bytesLess x y=true↔aC x<aC y)
 | [],[],_,_,_=>by simp[Op.bytesLess]
 | [],_:: _,h,_,_=>by simp at h
 | _:: _,[],h,_,_=>by simp at h
 | a::x,b::y,h,hx,hy=>by
  have hl:x.length=y.length:=by simpa using h
  have ih:=aAu x y hl (fun c hc=>hx c (List.mem_cons_of_mem _ hc)) (fun c hc=>hy c (List.mem_cons_of_mem _ hc))
  have ha:aR a:=hx a (List.mem_cons_self ..)
  have hb:aR b:=hy b (List.mem_cons_self ..)
  have vx:=bM x (fun c hc=>hx c (List.mem_cons_of_mem _ hc))
  have vy:=bM y (fun c hc=>hy c (List.mem_cons_of_mem _ hc))
  rw[nat10_cons a x,nat10_cons b y,aCu,aCu,hl]
  rw[hl] at vx
  unfold aR at ha hb
  simp only[Op.bytesLess,Bool.or_eq_true,decide_eq_true_eq,Bool.and_eq_true,beq_iff_eq,ih]
  obtain ⟨P,hP⟩:∃P,(10:Nat)^y.length=P:=⟨_,rfl⟩
  rw[hP] at vx vy ⊢
  constructor
  ·rintro (h1 | ⟨rfl,h1⟩)
   ·have h2:a.toNat<b.toNat:=UInt8.lt_iff_toNat_lt.1 h1
    have h3:(a.toNat-48+1)*P≤(b.toNat-48)*P:=Nat.mul_le_mul_right _ (by omega)
    rw[Nat.add_mul] at h3
    omega
   ·omega
  ·intro h1
   by_cases e:a=b
   ·subst e;exact .inr ⟨rfl,by omega⟩
   ·left
    refine UInt8.lt_iff_toNat_lt.2 ?_
    refine Nat.lt_of_not_le fun h2=>?_
    have h4:a.toNat≠b.toNat:=fun h=>e (UInt8.toNat_inj.1 h)
    have h3:(b.toNat-48+1)*P≤(a.toNat-48)*P:=Nat.mul_le_mul_right _ (by omega)
    rw[Nat.add_mul] at h3
    omega
def vQ:List UInt8:=[52,54,49,49,54,56,54,48,49,56,52,50,55,51,56,55,57,48,52]
theorem mostS_val:aC vQ=4611686018427387904:=by decide
theorem aSx (D:List UInt8) {i:Nat} (hi:i≤D.length):gfx D 0 i≤aC D:=by
 unfold gfx
 rw[List.drop_zero]
 conv=>rhs;rw[← List.take_append_drop i D,jF]
 have:0<10^ (D.drop i).length:=Nat.pow_pos (by omega)
 have h:=Nat.mul_le_mul_left (aC (D.take i)) this
 omega
theorem b32 (a:List UInt8):body Tryz.prog [c44,c73] { asks:=[(0,[])] } true Tryz.f93 [S a] (.tup [I (inQ a).1,I (inQ a).2]):=by
 by_cases hc:chkQ a=0
 ·obtain ⟨e,hq⟩:=iM hc
  obtain ⟨q,hqe⟩:∃q,valQ a=q:=⟨_,rfl⟩
  rw[hqe] at e hq
  have hin:inQ a=if q.den=1 then (if q.num < -4611686018427387904∨4611686018427387904<q.num then (0,2) else (q.num,0)) else (0,8):=by
   unfold inQ;rw[if_pos hc,hqe]
  have e1:digs (topS a)=decDigits q.num.natAbs:=by rw[e,fN,bR]
  have e2:a.headD 0=45↔q.num<0:=by rw[e,qW,lt0]
  have e4:botS a=if q.den=1 then [] else 47::decDigits q.den:=by rw[e];exact iU q
  obtain ⟨D,hD⟩:∃D,digs (topS a)=D:=⟨_,rfl⟩
  have hdig:∀c∈digs (topS a),aR c:=by rw[e1];exact fun c hc=>fJ _ c hc
  have hval:aC (digs (topS a))=q.num.natAbs:=by rw[e1,bW]
  by_cases hd:q.den=1
  ·rw[if_pos hd] at hin
   have hb:¬ ¬botS a= []:=by rw[e4,if_pos hd];simp
   by_cases hbig:q.num < -4611686018427387904∨4611686018427387904<q.num
   ·rw[if_pos hbig] at hin
    rw[hin]
    have hlen:19≤(digs (topS a)).length:=by
     refine Nat.le_of_not_lt fun h=>?_
     have h1:=bM _ hdig
     have h2:10^ (digs (topS a)).length≤10^18:=cJ (by omega)
     have h3:(10:Nat)^18=1000000000000000000:=by decide
     omega
    refine Br.mkN (fun h=>h hc) ?_
    refine Br.mkN hb ?_
    by_cases h20:19<(digs (topS a)).length
    ·(repeat' first|refine ZR ?_|refine Zg fun _=>?_)
     (conv=>whnf)
     (repeat' first|exact trivial|rfl|refine And.intro ?_ ?_)
    ·have h19:(digs (topS a)).length=19:=by omega
     have hless:=aAu (digs (topS a)) vQ h19 hdig (by decide)
     have hgt:¬Op.bytesLess (digs (topS a)) vQ=true∧¬digs (topS a)=vQ:=by
      rw[hless,hval,mostS_val]
      refine ⟨by omega,fun h=>?_⟩
      rw[h,mostS_val] at hval
      omega
     (repeat' first|refine ZR ?_|refine Zg fun _=>?_)
     (conv=>whnf)
     (repeat' first|exact trivial|rfl|refine And.intro ?_ ?_)
   ·rw[if_neg hbig] at hin
    rw[hin]
    have hlen:(digs (topS a)).length≤19:=by
     rw[e1]
     exact IB.fI 18 _ (by omega)
    refine Br.mkN (fun h=>h hc) ?_
    refine Br.mkN hb ?_
    have hcase:(digs (topS a)).length≤18∨((digs (topS a)).length=19∧¬(¬Op.bytesLess (digs (topS a)) vQ=true∧¬digs (topS a)=vQ)):=by
     by_cases h18:(digs (topS a)).length≤18
     ·exact .inl h18
     ·have h19:(digs (topS a)).length=19:=by omega
      refine .inr ⟨h19,fun h=>?_⟩
      have hless:=aAu (digs (topS a)) vQ h19 hdig (by decide)
      rw[hless,hval,mostS_val] at h
      have h2:q.num.natAbs=4611686018427387904:=by omega
      refine h.2 ?_
      rw[e1,h2]
      exact (congrArg decDigits mostS_val.symm).trans (jQ _ vQ rfl (by decide) (by decide) (.inr (by decide)))
    have hgl:∀i,i≤(digs (topS a)).length→gfx (digs (topS a)) 0 i≤4611686018427387904:=fun i hi=>by
     have:=aSx (digs (topS a)) hi
     omega
    rcases hcase with h18 | ⟨h19,hng⟩
    all_goals (repeat' first|refine ZR ?_|refine Zg fun _=>?_)
    all_goals
     refine Ask.mk ⟨{ X:=Nat,pre:=fun i=>i≤(digs (topS a)).length,mod:=fun i _=>[(9,I (gfx (digs (topS a)) 0 i)),(10,I i)],heap:=fun _ _=>[],mu:=fun i=>(digs (topS a)).length-i },rfl,?_⟩
     (repeat' first|refine ZG ?_|fail)
     refine ⟨⟨(0:Nat),Nat.zero_le _,?_⟩,fun (i:Nat) (hi:i≤(digs (topS a)).length)=>?_⟩
     ·(repeat' first|exact trivial|rfl|refine And.intro ?_ ?_)
      all_goals (rw[sO];rfl)
     by_cases hlt:i<(digs (topS a)).length
     ·have hg:=hgl (i+1) hlt
      obtain ⟨e1,e2⟩:=wF hdig (Nat.zero_le _) hlt
      (repeat' first|refine ZR ?_|refine Zg fun _=>?_)
      refine ⟨(i+1:Nat),by show (digs (topS a)).length-(i+1)<(digs (topS a)).length-i;omega,hlt,?_⟩
      (repeat' first|exact trivial|rfl|refine And.intro ?_ ?_|omega)
     ·have e:i=(digs (topS a)).length:=by omega
      subst e
      have hga:=aK4 (digs (topS a))
      have hgb:=hgl _ (Nat.le_refl _)
      (repeat' first|refine ZR ?_|refine Zg fun _=>?_)
      by_cases hn:q.num<0
      ·refine Br.mkY (e2.2 hn) ?_
       (repeat' first|refine ZG ?_|fail)
       (conv=>whnf)
       (repeat' first|exact trivial|rfl|refine And.intro ?_ ?_)
       (conv=>whnf)
       have hv:=hval
       omega
      ·refine Br.mkN (fun h=>hn (e2.1 h)) ?_
       (conv=>whnf)
       (repeat' first|exact trivial|rfl|refine And.intro ?_ ?_)
       (conv=>whnf)
       have hv:=hval
       omega
  ·rw[if_neg hd] at hin
   rw[hin]
   refine Br.mkN (fun h=>h hc) ?_
   refine Br.mkY (by rw[e4,if_neg hd];simp) ?_
   (conv=>whnf)
   (repeat' first|exact trivial|rfl|refine And.intro ?_ ?_)
 ·have hin:inQ a=(0,chkQ a):=by unfold inQ;rw[if_neg hc]
  rw[hin]
  refine Br.mkY hc ?_
  (conv=>whnf)
  (repeat' first|exact trivial|rfl|refine And.intro ?_ ?_)
def c32:Con:=aL 93 true fun args K=>match args with | [.str a]=>K (.tup [I (inQ a).1,I (inQ a).2]) | _=>False
theorem k32:aI Tryz.prog c32:=by
 refine aD rfl (enters_of Tryz.func93 (by kernel_rfl) rfl) ?_
 intro args K h
 simp only[c32] at h
 split at h
 ·rename_i a;exact ⟨_,h,aB (by simp[k44,k73]) Tryz.func93 (by simp[Tryz.ntmps93]) rfl (b32 a)⟩
 ·exact h.elim
def aPk:Con:=aL 163 false fun args K=>match args with
 | [.agg [.bl p hp,.seq (.int .i64) a],.agg [.bl q hq,.seq (.int .i64) b]]=>Need (iY p a∧iY q b) (K (.agg [.bl (@addS p (valB B6 a).toNat q (valB B6 b).toNat hp hq) inferInstance,Ls (aA B6 (@addN p hp (valB B6 a).toNat q hq (valB B6 b).toNat))]))
 | [.agg [.bl p hp,.seq (.int .i64) a],.agg [.val (.bool true),.seq (.int .i64) b]]=>Need (iY p a∧iY True b) (K (.agg [.bl (@addS p (valB B6 a).toNat True (valB B6 b).toNat hp inferInstance) inferInstance,Ls (aA B6 (@addN p hp (valB B6 a).toNat True inferInstance (valB B6 b).toNat))]))
 | _=>False
theorem k114g:aI Tryz.prog aPk:=by
 refine aD rfl (enters_of Tryz.func163 (by kernel_rfl) rfl) ?_
 intro args K h
 simp only[aPk] at h
 split at h
 ·rename_i p hp a q hq b
  refine ⟨_,h.go,?_⟩
  obtain ⟨⟨ha,hm,hpm⟩,hb,hn,hqn⟩:=h.ok
  have ht:=aB (by simp[k147,k146,k144]) Tryz.func163 (by simp[Tryz.ntmps163]) rfl (b114 p hp (valB B6 a).toNat q hq (valB B6 b).toNat hm hn hpm hqn)
  rw[ha,hb] at ht
  exact ht
 ·rename_i p hp a b
  refine ⟨_,h.go,?_⟩
  obtain ⟨⟨ha,hm,hpm⟩,hb,hn,hqn⟩:=h.ok
  have ht:=aB (by simp[k147,k146,k144]) Tryz.func163 (by simp[Tryz.ntmps163]) rfl (b114 p hp (valB B6 a).toNat True inferInstance (valB B6 b).toNat hm hn hpm hqn)
  rw[ha,hb] at ht
  refine sG (args:=[.agg [.bl p hp,Ls a],.agg [.bl True inferInstance,Ls b]]) ht ⟨⟨Iff.rfl,rfl,trivial⟩,⟨trivial,?_,trivial⟩,trivial⟩
  rfl
 ·exact h.elim
theorem aCv {A N:Nat} (hN:0<N) (h:¬(N:Int) ∣ (A:Int)):(-(A:Int))/(N:Int)= -((A/N:Nat):Int)-1:=by
 have h1:A%N≠0:=fun e=>h (Int.ofNat_dvd.2 (Nat.dvd_of_mod_eq_zero e))
 have h2:=Nat.div_add_mod A N
 have h3:=Nat.mod_lt A hN
 have h4:(A:Int)=(N:Int)*((A/N:Nat):Int)+((A%N:Nat):Int):=by rw[← Int.natCast_mul,← Int.natCast_add,h2]
 have h5: -(A:Int)=((N-A%N:Nat):Int)+(N:Int)*(-((A/N:Nat):Int)-1):=by
  rw[Int.mul_sub,Int.mul_neg,Int.mul_one,Int.natCast_sub (by omega)]
  omega
 rw[h5,Int.add_mul_ediv_left _ _ (by omega),Int.ediv_eq_zero_of_lt (by omega) (by omega)]
 omega
theorem aPl:iY True [1]∧valB B6 [1]=1:=by
 have e:([1]:List Int)=aA B6 1:=by simp[aA,B6]
 have v:valB B6 [1]=1:=by simp[valB]
 exact ⟨⟨by rw[e];exact bV 1,by rw[v];exact Nat.one_lt_pow (by decide) (by decide),fun _=>by rw[v];decide⟩,v⟩
theorem aRd (p:Prop) [Decidable p] (x y:Nat) (hy:y=1) (h:p∨x=0):sgP (addS p x True y) (valB B6 (aA B6 (addN p x True y)))= -(x:Int)-1:=by
 subst hy
 rw[v6,aHg]
 unfold sgP
 rw[if_pos trivial]
 rcases h with h | h
 ·rw[if_pos h];rfl
 ·rw[h];split<;>rfl
set_option maxHeartbeats 8000000 in
theorem b71n (a b:List UInt8) (h:chkI a=0∧chkI b=0∧0<valI b) (hdv:¬valI b ∣ valI a):body Tryz.prog [c110,c111,c61,c112,c113,aPk,c115,c116] {} true Tryz.f199 [S a,S b] (.tup [S (itoa (valI a/valI b)),.any,I 0]):=by
 obtain ⟨ha,hb,hpos⟩:=h
 obtain ⟨fa,la⟩:=bK ha
 obtain ⟨fb,lb⟩:=bK hb
 have zA:=dR fa la
 have zB:=dR fb lb
 have hab:form a∧form b:=⟨fa,fb⟩
 have ra:form a∧(digs a).length≤600:=⟨fa,by omega⟩
 have rb:form b∧(digs b).length≤600:=⟨fb,by omega⟩
 have hc2:¬chk2 a b≠0:=by
  unfold chk2
  rw[if_neg (by rw[ha];simp),hb];simp
 have hb0:¬b= [48]:=fun e=>by rw[e] at hpos;revert hpos;decide
 have hbn:¬b.headD 0=45:=fun e=>by
  rw[cP] at hpos
  unfold sgP at hpos
  rw[if_pos e] at hpos
  omega
 have vb:valI b=(aC (digs b):Int):=by rw[cP];unfold sgP;rw[if_neg hbn]
 have hA:valI a=if a.headD 0=45 then -(aC (digs a):Int) else (aC (digs a):Int):=by
  rw[cP];unfold sgP;rfl
 have hNb:0<aC (digs b):=by omega
 have hd:¬(aC (digs b):Int) ∣ (aC (digs a):Int):=by
  intro h
  refine hdv ?_
  rw[vb,hA]
  split
  ·exact Int.dvd_neg.2 h
  ·exact h
 have hr1:aC (digs a)%aC (digs b)≠0:=fun e=>hd (Int.ofNat_dvd.2 (Nat.dvd_of_mod_eq_zero e))
 have hfl:valI a/valI b=if a.headD 0=45 then -((aC (digs a)/aC (digs b):Nat):Int)-1 else ((aC (digs a)/aC (digs b):Nat):Int):=by
  rw[hA,vb]
  split
  ·exact aCv hNb hd
  ·exact Int.natCast_ediv _ _
 refine Br.mkN (show ¬ ¬chk2 a b=0 from hc2) ?_
 refine Br.mkN hb0 ?_
 (repeat' first|refine ZG ?_|fail)
 (refine Br.mk (fun _=>?_) (fun _=>?_))
 ·rename_i hs
  have h1:=dQ fa hs.1
  have h2:=dQ fb hs.2
  have t0:(valI a).tmod (valI b)≠0:=fun e=>hdv (Int.dvd_iff_tmod_eq_zero.2 e)
  have q1:aC (digs a)/aC (digs b)≤aC (digs a):=Nat.div_le_self _ _
  have q2:aC (digs a)%aC (digs b)<aC (digs b):=Nat.mod_lt _ hNb
  by_cases hn:a.headD 0=45
  ·have hv:valI a= -(aC (digs a):Int):=by rw[hA,if_pos hn]
   have t1:(valI a).tmod (valI b)= -((aC (digs a)%aC (digs b):Nat):Int):=by rw[hv,vb,Int.neg_tmod,Int.tmod_eq_emod_of_nonneg (by omega)];rfl
   have t2:(valI a).tdiv (valI b)= -((aC (digs a)/aC (digs b):Nat):Int):=by rw[hv,vb,Int.neg_tdiv,Int.tdiv_eq_ediv_of_nonneg (by omega)];rfl
   have t3: -1000000000000000000<(valI a).tdiv (valI b)∧(valI a).tdiv (valI b)≤0:=by rw[t2];exact ⟨Int.lt_of_lt_of_le (show -1000000000000000000 < -((aC (digs a):Nat):Int) by omega) (Int.neg_le_neg (Int.ofNat_le.2 q1)),Int.neg_nonpos_of_nonneg (Int.natCast_nonneg _)⟩
   have c1:(0:Int)<((aC (digs a)%aC (digs b):Nat):Int):=Int.natCast_pos.2 (Nat.pos_of_ne_zero hr1)
   have c2:((aC (digs a)%aC (digs b):Nat):Int)<(aC (digs b):Int):=Int.ofNat_lt.2 q2
   have t4:(valI a).tmod (valI b)<0∧ -(valI b)<(valI a).tmod (valI b):=by rw[t1,vb];exact ⟨Int.neg_neg_of_pos c1,Int.neg_lt_neg c2⟩
   (repeat'((conv=>whnf);first|refine Zb ?_|refine Zn ?_|(apply Pin.mk;apply Exists.intro)|apply Pinned.mk rfl rfl|fail))
   refine Br.mkY t0 ?_
   refine Br.mkY (show ¬((valI a).tmod (valI b)<0↔valI b<0) from fun h'=>by have:=h'.1 t4.1;omega) ?_
   (repeat' first|refine ZG ?_|fail)
   (conv=>whnf)
   (repeat' first|exact trivial|rfl|refine And.intro ?_ ?_)
   (conv=>whnf)
   rw[hfl,if_pos hn,t2]
  ·have hv:0≤valI a:=by rw[hA,if_neg hn];omega
   have t0:valI a%valI b≠0:=fun e=>hdv (Int.dvd_of_emod_eq_zero e)
   have t3:0≤valI a/valI b:=Int.ediv_nonneg hv (by omega)
   have t5:valI a/valI b≤valI a:=Int.ediv_le_self _ hv
   have t4:0≤valI a%valI b:=Int.emod_nonneg _ (by omega)
   have t6:valI a%valI b<valI b:=Int.emod_lt_of_pos _ hpos
   (repeat'((conv=>whnf);first|refine Za ?_|(apply Pin.mk;apply Exists.intro)|apply Pinned.mk rfl rfl|fail))
   refine Br.mkY t0 ?_
   refine Br.mkN (show ¬ ¬(valI a%valI b<0↔valI b<0) from fun h'=>h' ⟨fun h=>by omega,fun h=>by omega⟩) ?_
   (conv=>whnf)
   (repeat' first|exact trivial|rfl|refine And.intro ?_ ?_)
 ·have e6:=v6 (aC (digs b))
  have e6a:=v6 (aC (digs a))
  have nb:=dW fb lb
  have na:=dW fa la
  have hN:InB B6 (aA B6 (aC (digs a)))∧dB (aA B6 (aC (digs b)))∧(0<(valB B6 (aA B6 (aC (digs b)))).toNat∧(valB B6 (aA B6 (aC (digs b)))).toNat<B6^100)∧(aA B6 (aC (digs a))).length≤1000:=
   ⟨aQ (by decide) _,bV _,⟨by omega,by rw[e6,Int.toNat_natCast];exact Nat.lt_of_lt_of_le nb (Nat.pow_le_pow_right (by decide) (by decide))⟩,by have:=cV na;omega⟩
  have hR:aA B6 (valB B6 (aA B6 (aC (digs a)))%valB B6 (aA B6 (aC (digs b)))).toNat=aA B6 (aC (digs a)%aC (digs b)):=by
   rw[e6,e6a,← Int.natCast_emod,Int.toNat_natCast]
  have hQ:aA B6 (valB B6 (aA B6 (aC (digs a)))/valB B6 (aA B6 (aC (digs b)))).toNat=aA B6 (aC (digs a)/aC (digs b)):=by
   rw[e6,e6a,← Int.natCast_ediv,Int.toNat_natCast]
  have lQ:aC (digs a)/aC (digs b)<B6^50:=Nat.lt_of_le_of_lt (Nat.div_le_self _ _) na
  have lR:aC (digs a)%aC (digs b)<B6^50:=Nat.lt_trans (Nat.mod_lt _ hNb) nb
  have up:B6^50≤B6^110:=Nat.pow_le_pow_right (by decide) (by decide)
  have hq2:dB (aA B6 (valB B6 (aA B6 (aC (digs a)))/valB B6 (aA B6 (aC (digs b)))).toNat)∧(aA B6 (valB B6 (aA B6 (aC (digs a)))/valB B6 (aA B6 (aC (digs b)))).toNat).length≤200:=by
   rw[hQ];exact ⟨bV _,by have:=cV lQ;omega⟩
  have hr2:dB (aA B6 (valB B6 (aA B6 (aC (digs a)))%valB B6 (aA B6 (aC (digs b)))).toNat)∧(aA B6 (valB B6 (aA B6 (aC (digs a)))%valB B6 (aA B6 (aC (digs b)))).toNat).length≤200:=by
   rw[hR];exact ⟨bV _,by have:=cV lR;omega⟩
  have hrl:(0:Int)<((aA B6 (valB B6 (aA B6 (aC (digs a)))%valB B6 (aA B6 (aC (digs b)))).toNat).length:Int):=by
   have:(aA B6 (aC (digs a)%aC (digs b))).length≠0:=fun h=>hr1 ((gA _).1 h)
   rw[hR];omega
  have hres:resI (valI a/valI b)=(itoa (valI a/valI b),0):=by
   refine sP ?_
   have h1:(valI a/valI b).natAbs≤(valI a).natAbs:=Int.natAbs_ediv_le_natAbs _ _
   have h2:(valI a).natAbs<10^ (digs a).length:=by
    have:=bM (digs a) fa.2.2
    rw[hA];split<;>omega
   have h3:=cJ la
   exact cB (k:=300) ⟨by decide,by decide⟩ (Nat.lt_of_le_of_lt h1 (Nat.lt_of_lt_of_le h2 h3))
  have vq:valB B6 (aA B6 (valB B6 (aA B6 (aC (digs a)))/valB B6 (aA B6 (aC (digs b)))).toNat)=((aC (digs a)/aC (digs b):Nat):Int):=by rw[hQ,v6]
  have vr:valB B6 (aA B6 (valB B6 (aA B6 (aC (digs a)))%valB B6 (aA B6 (aC (digs b)))).toNat)=((aC (digs a)%aC (digs b):Nat):Int):=by rw[hR,v6]
  have zQ:iY ((0:Int)<((aA B6 (valB B6 (aA B6 (aC (digs a)))/valB B6 (aA B6 (aC (digs b)))).toNat).length:Int)) (aA B6 (valB B6 (aA B6 (aC (digs a)))/valB B6 (aA B6 (aC (digs b)))).toNat):=⟨hq2.1,by rw[vq,Int.toNat_natCast];exact Nat.lt_of_lt_of_le lQ up,fun h=>by
   rw[vq,Int.toNat_natCast]
   refine Nat.pos_of_ne_zero fun e=>?_
   have:=(gA _).2 e
   rw[hQ] at h
   omega⟩
  have zR:iY ((0:Int)<((aA B6 (valB B6 (aA B6 (aC (digs a)))%valB B6 (aA B6 (aC (digs b)))).toNat).length:Int)) (aA B6 (valB B6 (aA B6 (aC (digs a)))%valB B6 (aA B6 (aC (digs b)))).toNat):=⟨hr2.1,by rw[vr,Int.toNat_natCast];exact Nat.lt_of_lt_of_le lR up,fun h=>by
   rw[vr,Int.toNat_natCast]
   exact Nat.pos_of_ne_zero hr1⟩
  have hx:((0:Int)<((aA B6 (valB B6 (aA B6 (aC (digs a)))/valB B6 (aA B6 (aC (digs b)))).toNat).length:Int))∨(valB B6 (aA B6 (valB B6 (aA B6 (aC (digs a)))/valB B6 (aA B6 (aC (digs b)))).toNat)).toNat=0:=by
   by_cases h:(0:Int)<((aA B6 (valB B6 (aA B6 (aC (digs a)))/valB B6 (aA B6 (aC (digs b)))).toNat).length:Int)
   ·exact .inl h
   ·right
    rw[vq,Int.toNat_natCast]
    rw[hQ] at h
    exact (gA _).1 (by omega)
  have hadj:∀ [hD:Decidable ((0:Int)<((aA B6 (valB B6 (aA B6 (aC (digs a)))/valB B6 (aA B6 (aC (digs b)))).toNat).length:Int))],a.headD 0=45→sgP (addS ((0:Int)<((aA B6 (valB B6 (aA B6 (aC (digs a)))/valB B6 (aA B6 (aC (digs b)))).toNat).length:Int)) (valB B6 (aA B6 (valB B6 (aA B6 (aC (digs a)))/valB B6 (aA B6 (aC (digs b)))).toNat)).toNat True (valB B6 [1]).toNat) (valB B6 (aA B6 (addN ((0:Int)<((aA B6 (valB B6 (aA B6 (aC (digs a)))/valB B6 (aA B6 (aC (digs b)))).toNat).length:Int)) (valB B6 (aA B6 (valB B6 (aA B6 (aC (digs a)))/valB B6 (aA B6 (aC (digs b)))).toNat)).toNat True (valB B6 [1]).toNat)))=valI a/valI b:=by
   intro hD hp
   rw[aRd _ _ _ (by rw[aPl.2];rfl) hx,hfl,if_pos hp,vq,Int.toNat_natCast]
  (refine Br.mk (fun _=>?_) (fun _=>?_))
  all_goals
   (repeat' first|refine ZG ?_|fail)
   by_cases hp:a.headD 0=45
   ·refine Br.mkY (show ¬(a.headD 0=45↔b.headD 0=45) from fun h'=>hbn (h'.1 hp)) ?_
    (repeat'((conv=>whnf);first|refine Zg fun _=>?_|fail))
    refine Br.mkY hp ?_
    (repeat' first|refine ZG ?_|refine Zg fun _=>?_)
    refine Br.mkY hrl ?_
    refine Br.mkY (show ¬(a.headD 0=45↔b.headD 0=45) from fun h'=>hbn (h'.1 hp)) ?_
    (repeat' first|refine ZG ?_|fail)
    refine Need.mk ⟨zQ,aPl.1⟩ ?_
    refine Need.mk ⟨zR,zB⟩ ?_
    refine Need.mk (aAq zQ.2.1 aPl.1.2.1) ?_
    refine Br.mkN (by rw[hadj hp,hres];simp) ?_
    refine Need.mk (aAq zR.2.1 zB.2.1) ?_
    (conv=>whnf)
    (repeat' first|exact trivial|rfl|refine And.intro ?_ ?_)
    (conv=>whnf)
    rw[hadj hp,hres]
   ·refine Br.mkN (show ¬ ¬(a.headD 0=45↔b.headD 0=45) from fun h'=>h' ⟨fun h=>absurd h hp,fun h=>absurd h hbn⟩) ?_
    refine Br.mkN hp ?_
    (repeat' first|refine ZG ?_|refine Zg fun _=>?_)
    refine Br.mkY hrl ?_
    refine Br.mkN (show ¬ ¬(a.headD 0=45↔b.headD 0=45) from fun h'=>h' ⟨fun h=>absurd h hp,fun h=>absurd h hbn⟩) ?_
    (repeat' first|refine ZG ?_|fail)
    have ev:valB B6 (aA B6 (valB B6 (aA B6 (aC (digs a)))/valB B6 (aA B6 (aC (digs b)))).toNat)=valI a/valI b:=by rw[vq,hfl,if_neg hp]
    refine Br.mkN (by rw[ev,hres];simp) ?_
    (repeat' first|refine ZG ?_|fail)
    (conv=>whnf)
    (repeat' first|exact trivial|rfl|refine And.intro ?_ ?_)
    (conv=>whnf)
    rw[ev,hres]
def c71g:Con:=aL 199 true fun args K=>match args with
 | [.str a,.str b]=>Need (chkI a=0∧chkI b=0∧0<valI b) (K (.tup [S (itoa (valI a/valI b)),.any,I 0]))
 | _=>False
theorem k71g:aI Tryz.prog c71g:=by
 refine aD rfl (enters_of Tryz.func199 (by kernel_rfl) rfl) ?_
 intro args K h
 simp only[c71g] at h
 split at h
 ·rename_i a b
  refine ⟨_,h.go,?_⟩
  by_cases hd:valI b ∣ valI a
  ·exact aB (by simp[k110,k111,k61,k112,k113,k115,k116]) Tryz.func199 (by simp[Tryz.ntmps199]) rfl (b71 a b ⟨h.ok.1,h.ok.2.1,h.ok.2.2,hd⟩)
  ·exact aB (by simp[k110,k111,k61,k112,k113,k114g,k115,k116]) Tryz.func199 (by simp[Tryz.ntmps199]) rfl (b71n a b h.ok hd)
 ·exact h.elim
theorem pH (z:Int):numS (Rat.divInt z 1)=itoa z:=by
 rw[← dL]
 congr 1
 have:=Rat.num_divInt_den (z:Rat)
 rw[Rat.num_intCast,Rat.den_intCast] at this
 exact this
set_option maxHeartbeats 4000000 in
theorem b30 (a:List UInt8):body Tryz.prog [c44,c70,c62,c65,c71g,c63] {} true Tryz.f153 [S a] (.tup [S (flQ a).1,I (flQ a).2]):=by
 by_cases hc:chkQ a=0
 ·obtain ⟨e,hq⟩:=iM hc
  obtain ⟨cn,vn,ln⟩:=aAs hq
  obtain ⟨cd,vd⟩:=aAt hq
  have d1:=(valQ a).den_pos
  have hf:flQ a=(itoa ((valQ a).num/(valQ a).den),0):=by unfold flQ;rw[if_pos hc]
  have hz:=dL ((valQ a).num/((valQ a).den:Int))
  rw[hf]
  by_cases hs:smR (valQ a)
  ·have s1:=uJ hs
   refine Br.mkN (fun h=>h hc) ?_
   (repeat' first|refine ZG ?_|fail)
   refine Br.mkY hs ?_
   by_cases hn:(valQ a).num<0
   ·obtain ⟨m,hm⟩:∃m:Nat,(valQ a).num= -(m:Int):=⟨(valQ a).num.natAbs,by omega⟩
    have hm9:m<1000000000:=by omega
    have t1:(valQ a).num.tdiv ((valQ a).den:Int)= -((m/(valQ a).den:Nat):Int):=by rw[hm,Int.neg_tdiv,Int.tdiv_eq_ediv_of_nonneg (by omega)];rfl
    have t2:(valQ a).num.tmod ((valQ a).den:Int)= -((m% (valQ a).den:Nat):Int):=by rw[hm,Int.neg_tmod,Int.tmod_eq_emod_of_nonneg (by omega)];rfl
    have q1:((m/(valQ a).den:Nat):Int)≤(m:Int):=Int.ofNat_le.2 (Nat.div_le_self _ _)
    have q0:(0:Int)≤((m/(valQ a).den:Nat):Int):=Int.natCast_nonneg _
    have q2:((m% (valQ a).den:Nat):Int)<((valQ a).den:Int):=Int.ofNat_lt.2 (Nat.mod_lt _ d1)
    have q3:(0:Int)≤((m% (valQ a).den:Nat):Int):=Int.natCast_nonneg _
    obtain ⟨x,hx⟩:∃x:Int,((m/(valQ a).den:Nat):Int)=x:=⟨_,rfl⟩
    obtain ⟨y,hy⟩:∃y:Int,((m% (valQ a).den:Nat):Int)=y:=⟨_,rfl⟩
    rw[hx] at t1 q1 q0
    rw[hy] at t2 q2 q3
    have b1: -1000000000<(valQ a).num.tdiv ((valQ a).den:Int)∧(valQ a).num.tdiv ((valQ a).den:Int)≤0:=by rw[t1];omega
    have b2: -1000000000<(valQ a).num.tmod ((valQ a).den:Int)∧(valQ a).num.tmod ((valQ a).den:Int)≤0:=by rw[t2];omega
    by_cases hr:m% (valQ a).den=0
    ·have hy0:y=0:=by rw[← hy,hr];rfl
     have ef:(valQ a).num/((valQ a).den:Int)=(valQ a).num.tdiv ((valQ a).den:Int):=by
      rw[t1,hm,Int.neg_ediv_of_dvd (Int.ofNat_dvd.2 (Nat.dvd_of_mod_eq_zero hr)),← hx,Int.natCast_ediv]
     (repeat' first|refine ZG ?_|fail)
     refine Br.mkN (show ¬(valQ a).num.tmod ((valQ a).den:Int)<0 by rw[t2];omega) ?_
     (repeat' first|refine ZG ?_|fail)
     (conv=>whnf)
     (repeat' first|exact trivial|rfl|refine And.intro ?_ ?_)
     (conv=>whnf)
     rw[pH,ef]
    ·have hy0:0<y:=by
      have:(0:Int)<((m% (valQ a).den:Nat):Int):=Int.natCast_pos.2 (Nat.pos_of_ne_zero hr)
      omega
     have ef:(valQ a).num/((valQ a).den:Int)=(valQ a).num.tdiv ((valQ a).den:Int)-1:=by
      rw[t1,hm,← hx]
      exact aCv d1 fun h=>hr (Nat.mod_eq_zero_of_dvd (Int.ofNat_dvd.1 h))
     (repeat' first|refine ZG ?_|fail)
     refine Br.mkY (show (valQ a).num.tmod ((valQ a).den:Int)<0 by rw[t2];omega) ?_
     (repeat' first|refine ZG ?_|fail)
     (conv=>whnf)
     (repeat' first|exact trivial|rfl|refine And.intro ?_ ?_)
     (conv=>whnf)
     rw[pH,ef]
   ·have t3:0≤(valQ a).num/((valQ a).den:Int):=Int.ediv_nonneg (by omega) (by omega)
    have t5:(valQ a).num/((valQ a).den:Int)≤(valQ a).num:=Int.ediv_le_self _ (by omega)
    have t4:0≤(valQ a).num% ((valQ a).den:Int):=Int.emod_nonneg _ (by omega)
    have t6:(valQ a).num% ((valQ a).den:Int)<((valQ a).den:Int):=Int.emod_lt_of_pos _ (by omega)
    (repeat' first|refine ZG ?_|fail)
    refine Br.mkN (by omega) ?_
    (repeat' first|refine ZG ?_|fail)
    (conv=>whnf)
    (repeat' first|exact trivial|rfl|refine And.intro ?_ ?_)
    (conv=>whnf)
    exact pH _
  ·have hN:chkI (pn (valQ a))=0∧chkI (pd (valQ a))=0∧0<valI (pd (valQ a)):=⟨cn,cd,by rw[vd];omega⟩
   have lz:lim ((valQ a).num/((valQ a).den:Int))=false:=iX (Int.natAbs_ediv_le_natAbs _ _) ln
   have hM:(chkI (itoa (valI (pn (valQ a))/valI (pd (valQ a))))=0∧chkI [49]=0)∧valI [49]≠0:=by
    rw[vn,vd,aCs.2]
    exact ⟨⟨bB lz,aCs.1⟩,by decide⟩
   refine Br.mkN (fun h=>h hc) ?_
   (repeat' first|refine ZG ?_|fail)
   refine Br.mkN hs ?_
   (repeat' first|refine ZR ?_|fail)
   (conv=>whnf)
   (repeat' first|exact trivial|rfl|refine And.intro ?_ ?_)
   (conv=>whnf)
   have e49:valI ([49]:List UInt8)=1:=aCs.2
   show numS (Rat.divInt (valI (itoa (valI (pn (valQ a))/valI (pd (valQ a))))) (valI [49]))= _
   rw[e49,vn,vd,aP,pH]
 ·have hf:flQ a=([],chkQ a):=by unfold flQ;rw[if_neg hc]
  rw[hf]
  refine Br.mkY hc ?_
  (conv=>whnf)
  (repeat' first|exact trivial|rfl|refine And.intro ?_ ?_)
def c30:Con:=aL 153 true fun args K=>match args with | [.str a]=>K (.tup [S (flQ a).1,I (flQ a).2]) | _=>False
theorem k30:aI Tryz.prog c30:=by
 refine aD rfl (enters_of Tryz.func153 (by kernel_rfl) rfl) ?_
 intro args K h
 simp only[c30] at h
 split at h
 ·rename_i a;exact ⟨_,h,aB (by simp[k44,k70,k62,k65,k71g,k63]) Tryz.func153 (by simp[Tryz.ntmps153]) rfl (b30 a)⟩
 ·exact h.elim
theorem nY {l:List (List UInt8)} {k:Nat} (h:k<l.length):l.drop k=l.getD k []::l.drop (k+1):=by
 rw[List.drop_eq_getElem_cons h]
 simp[List.getD_eq_getElem?_getD,h]
theorem b75 (n:Int) (h:0≤n∧n≤1000000):aFa Tryz.prog [] {} Tryz.f105 [.val (.slice none 0 0),I n] (.ref 0 1) .str [] 22:=by
 (refine Br.mk (fun _=>?_) (fun _=>?_))
 ·omega
 ·(repeat' first|refine ZG ?_|fail)
  (refine Br.mk (fun _=>?_) (fun _=>?_))
  ·(repeat' first|refine ZG ?_|fail)
   (conv=>whnf)
   (repeat' first|rfl|refine And.intro ?_ ?_)
  ·skip
   (conv=>whnf)
   (repeat' first|rfl|refine And.intro ?_ ?_)
def c75:Con:=aCy 105 fun args K=>match args with | [.val (.slice none 0 0),.val (.int .i64 n)]=>Need (0≤n∧n≤1000000) (K (.ref 0 1) (.vec 1 (.str) ([]) 22)) | _=>False
theorem k75:aI Tryz.prog c75:=by
 refine xU (enters_of Tryz.func105 (by kernel_rfl) rfl) ?_
 intro args K h
 split at h
 ·rename_i n;exact ⟨_,_,_,_,_,h.go,fun hfl=>jE (by simp) Tryz.func105 (by simp[Tryz.ntmps105]) hfl (b75 n h.ok)⟩
 ·exact h.elim
theorem aCw (xss:List (List (List UInt8))) (i:Nat):(xss.take (i+1)).flatten=(xss.take i).flatten++xss.getD i []:=by
 rw[List.take_add_one,List.flatten_append,List.getD_eq_getElem?_getD]
 cases xss[i]? <;>simp
theorem aAv (xss:List (List (List UInt8))) (i:Nat):(xss.take i).flatten.length≤xss.flatten.length:=by
 have:xss.flatten=(xss.take i).flatten++(xss.drop i).flatten:=by rw[← List.flatten_append,List.take_append_drop]
 rw[this,List.length_append];omega
def lsum (xss:List (List (List UInt8))) (i:Nat):Int:=((xss.take i).flatten.length:Nat)
theorem b34 (xss:List (List (List UInt8))) (h:xss.flatten.length≤1000000∧xss.length≤1000):body Tryz.prog [c75] { asks:=[(0,[]),(2,[1])] } true Tryz.f42 [.seq (.slice .str) xss] (.seq .str xss.flatten):=by
 have h2:=h.2
 have h:=h.1
 (repeat'((conv=>whnf);first|refine Zg fun _=>?_|fail))
 refine Ask.mk ⟨{ X:=Nat,pre:=fun i=>i≤xss.length,mod:=fun i _=>[(3,I (lsum xss i)),(11,I i)],mu:=fun i=>xss.length-i },rfl,?_⟩
 (repeat' first|refine ZG ?_|fail)
 refine ⟨⟨(0:Nat),Nat.zero_le _,?_⟩,fun (i:Nat) (hi:i≤xss.length)=>?_⟩
 ·(repeat' first|exact trivial|rfl|refine And.intro ?_ ?_)
 ·have hs:lsum xss (i+1)=lsum xss i+(xss.getD i []).length:=by
   unfold lsum;rw[aCw,List.length_append];omega
  have hs0:0≤lsum xss i∧lsum xss i≤1000000:=by
   have:=aAv xss i
   unfold lsum;omega
  have hs1:0≤lsum xss (i+1)∧lsum xss (i+1)≤1000000:=by
   have:=aAv xss (i+1)
   unfold lsum;omega
  (refine Br.mk (fun _=>?_) (fun _=>?_))
  ·(repeat' first|refine ZG ?_|refine Zg fun _=>?_)
   (refine Br.mk (fun _=>?_) (fun _=>?_))
   ·rename_i hneg
    exfalso
    have:lsum xss i+((xss.getD i []).length:Int)<0:=hneg
    omega
   ·(repeat' first|refine ZG ?_|fail)
    refine ⟨(i+1:Nat),?_,?_,?_⟩
    ·show xss.length-(i+1)<xss.length-i
     omega
    ·show i+1≤xss.length
     omega
    ·(repeat' first|exact trivial|rfl|refine And.intro ?_ ?_|omega)
  ·have hii:i=xss.length:=by omega
   subst hii
   (repeat' first|refine ZG ?_|refine Zg fun _=>?_)
   refine Ask.mk ⟨{ X:=Nat,pre:=fun i=>i≤xss.length,mod:=fun i _=>[(6,.ref 1 1),(27,I i)],objs:=[1],heap:=fun i _=>[.vec 1 .str [] 22,.vec 1 .str (xss.take i).flatten 22],mu:=fun i=>xss.length-i },rfl,?_⟩
   (repeat' first|refine ZG ?_|fail)
   refine ⟨⟨(0:Nat),Nat.zero_le _,?_⟩,fun (i:Nat) (hi:i≤xss.length)=>?_⟩
   ·(repeat' first|exact trivial|rfl|exact Nat.one_pos|refine And.intro ?_ ?_)
   ·have hs2:(xss.take (i+1)).flatten=(xss.take i).flatten++xss.getD i []:=aCw xss i
    have hs3:(xss.take i).flatten.length+(xss.getD i []).length≤1000000:=by
     have:=aAv xss (i+1)
     rw[hs2,List.length_append] at this;omega
    (refine Br.mk (fun _=>?_) (fun _=>?_))
    ·(repeat' first|refine ZG ?_|refine Zg fun _=>?_)
     refine ⟨(i+1:Nat),?_,?_,?_⟩
     ·show xss.length-(i+1)<xss.length-i
      omega
     ·show i+1≤xss.length
      omega
     ·(repeat' first|exact trivial|rfl|exact Nat.one_pos|refine And.intro ?_ ?_)
      exact hs2.symm
    ·skip
     (conv=>whnf)
     rw[List.take_of_length_le (by omega)]
def c34:Con:=aL 42 true fun args K=>match args with | [.seq (.slice .str) xss]=>Need (xss.flatten.length≤1000000∧xss.length≤1000) (K (.seq .str xss.flatten)) | _=>False
theorem k34:aI Tryz.prog c34:=by
 refine aD rfl (enters_of Tryz.func42 (by kernel_rfl) rfl) ?_
 intro args K h
 simp only[c34] at h
 split at h
 ·rename_i xss;exact ⟨_,h.go,aB (by simp[k75]) Tryz.func42 (by simp[Tryz.ntmps42]) rfl (b34 xss h.ok)⟩
 ·exact h.elim
end RB
end
section
namespace RB
section
variable {ax ay az bx by' bz cx cy cz P Q R:Rat}
end
end RB
end
section
open Go Go.Proofs Go.Eng Go.Shelf IB Go.Lib Go.RowKit
namespace RB
def d36 (q:Rat):Prop:=(decDigits q.num.natAbs).length≤36∧(decDigits q.den).length≤36
instance (q:Rat):Decidable (d36 q):=inferInstanceAs (Decidable (_∧ _))
noncomputable def chkP (a:List UInt8):Int:=if chkQ a≠0 then chkQ a else if d36 (valQ a) then 0 else 4
def badP (l:List (List UInt8)):Prop:=∃a∈l,chkP a≠0
noncomputable instance (l:List (List UInt8)):Decidable (badP l):=Classical.propDecidable _
section
variable {p q r:Rat} {i j k:Nat}
end
noncomputable def hgt (a b c x y:List UInt8):Rat:=valQ a*valQ x+valQ b*valQ y+valQ c
section
variable (p:List UInt8→Prop) [DecidablePred p]
end
def badS (s:List UInt8):Prop:=12<s.length∨chkQ s≠0
noncomputable instance (s:List UInt8):Decidable (badS s):=Classical.propDecidable _
noncomputable instance:DecidablePred badS:=fun s=>Classical.propDecidable _
def notP (s:List UInt8):Prop:=chkP s≠0
noncomputable instance:DecidablePred notP:=fun s=>Classical.propDecidable _
def aSc (l:List (List UInt8)):Prop:=∀a∈l,a.length≤12∧chkQ a=0
noncomputable instance (l:List (List UInt8)):Decidable (aSc l):=Classical.propDecidable _
theorem Sz.up {k:Nat} {q:Rat} (h:Sz 12 q) (hk:12≤k):Sz k q:=h.mono hk
theorem aQl {p q:Rat} {k:Nat} (h1:(p.num*q.den).natAbs<10^k) (h2:(q.num*p.den).natAbs<10^k) (h0:q≠0):Sz k (p/q):=by
 have hq:q.num≠0:=fun h=>h0 (Rat.num_eq_zero.1 h)
 have hp:(0:Int)<p.den:=by have:=p.den_pos;omega
 rw[aB6 p q h0]
 rcases Int.lt_or_lt_of_ne hq with h | h
 ·have hd:(p.den:Int)*q.num<0:=Int.mul_neg_of_pos_of_neg hp h
  rw[qS _ _ hd]
  refine aCp (by omega) (by rwa [Int.natAbs_neg]) ?_
  have:(-((p.den:Int)*q.num)).toNat=(q.num*p.den).natAbs:=by rw[Int.mul_comm q.num];omega
  rwa [this]
 ·have hd:0<(p.den:Int)*q.num:=Int.mul_pos hp h
  rw[eT _ _ hd]
  refine aCp (by omega) h1 ?_
  have:((p.den:Int)*q.num).toNat=(q.num*p.den).natAbs:=by rw[Int.mul_comm q.num];omega
  rwa [this]
theorem Sz.div {p q:Rat} {i j:Nat} (hp:Sz i p) (hq:Sz j q) (h0:q≠0):Sz (i+j) (p/q):=aQl (hp.cross hq).1 (hp.cross hq).2.1 h0
def Vd (q:Rat):Prop:=chkQ (numS q)=0
theorem Sz.vd {q:Rat} {k:Nat} (h:Sz k q) (hk:0<k∧k≤300):Vd q:=qV h hk
section
variable {p q:Rat}
end
noncomputable def ckG (p:List UInt8):List (List UInt8)→Int
 | []=>0
 | a::r=>if chkQ a≠0 then chkQ a else if (cmpQ p a).2≠0 then (cmpQ p a).2 else if 0≤(cmpQ p a).1 then 10 else ckG a r
noncomputable def ckF:List (List UInt8)→Int
 | []=>0
 | a::r=>if chkQ a≠0 then chkQ a else ckG a r
noncomputable def ckS (l:List (List UInt8)):Int:=if 4096<l.length then 4 else ckF l
theorem aP5 {α:Type} {l:List α} {i:Nat} (d:α) (h:i<l.length):l.drop i=l.getD i d::l.drop (i+1):=by
 rw[List.drop_eq_getElem_cons h]
 simp[List.getD_eq_getElem?_getD,h]
section
variable {l:List (List UInt8)} {i:Nat}
end
def Wt (k:Nat) (q:Rat):Prop:=q.num.natAbs*q.den<10^k
theorem aL1 (n:Int) {d:Nat} (hd:d≠0):(mkRat n d).num.natAbs≤n.natAbs∧(mkRat n d).den≤d:=by
 rw[Rat.num_mkRat,if_neg hd,Rat.den_mkRat,if_neg hd]
 exact ⟨qB _ _,Nat.div_le_self _ _⟩
theorem Wt.sub {p q:Rat} {k:Nat} (hp:Wt k p) (hq:Wt k q) (sp:p.den<10^k) (sq:q.den<10^k):Wt (3*k+1) (p-q):=by
 unfold Wt at hp hq ⊢
 rw[aB5]
 obtain ⟨h1,h2⟩:=aL1 (p.num*q.den-q.num*p.den) (aEu p q)
 refine Nat.lt_of_le_of_lt (Nat.mul_le_mul h1 h2) ?_
 have e1:(p.num*q.den-q.num*p.den).natAbs≤p.num.natAbs*q.den+q.num.natAbs*p.den:=by
  refine Nat.le_trans (Int.natAbs_sub_le _ _) ?_
  rw[Int.natAbs_mul,Int.natAbs_mul,Int.natAbs_natCast,Int.natAbs_natCast]
  exact Nat.le_refl _
 refine Nat.lt_of_le_of_lt (Nat.mul_le_mul_right _ e1) ?_
 have e2:(p.num.natAbs*q.den+q.num.natAbs*p.den)*(p.den*q.den)=(p.num.natAbs*p.den)*(q.den*q.den)+(q.num.natAbs*q.den)*(p.den*p.den):=by
  rw[Nat.add_mul]
  congr 1<;>ac_rfl
 rw[e2]
 have a1:(p.num.natAbs*p.den)*(q.den*q.den)<10^k*(10^k*10^k):=Nat.mul_lt_mul'' hp (Nat.mul_lt_mul'' sq sq)
 have a2:(q.num.natAbs*q.den)*(p.den*p.den)<10^k*(10^k*10^k):=Nat.mul_lt_mul'' hq (Nat.mul_lt_mul'' sp sp)
 have e3:10^ (3*k+1)=10*(10^k*(10^k*10^k)):=by
  rw[← Nat.pow_add,← Nat.pow_add,Nat.pow_succ,Nat.mul_comm]
  congr 2;omega
 rw[e3]
 omega
theorem rS {α:Type} {l:List α} {i:Nat} {d:α} (h:i<l.length):l.getD i d∈l:=by
 simp[List.getD_eq_getElem?_getD,h]
def rgP (a b:List UInt8):Prop:=(cmpQ a b).2=0∧(cmpQ a b).1≤0
noncomputable instance (a b:List UInt8):Decidable (rgP a b):=Classical.propDecidable _
def flI (q:Rat):Int:=q.num/(q.den:Int)
theorem qO (q:Rat):((flI q:Int):Rat)≤q:=by
 rw[Rat.le_iff,Rat.num_intCast,Rat.den_intCast]
 have:=aPc q
 unfold flI
 simpa using this
theorem nV (q:Rat):q<((flI q+1:Int):Rat):=by
 rw[Rat.lt_iff,Rat.num_intCast,Rat.den_intCast]
 have:=aPd q
 unfold flI
 simpa using this
def clI (q:Rat):Int:=if ((flI q:Int):Rat)=q then flI q else flI q+1
theorem aNz (q:Rat):q≤((clI q:Int):Rat):=by
 unfold clI
 split
 ·rename_i h;rw[h];exact Rat.le_refl
 ·exact Rat.le_of_lt (nV q)
theorem aR1 (q:Rat):((clI q-1:Int):Rat)<q:=by
 unfold clI
 split
 ·rename_i h
  have e:((flI q-1:Int):Rat)=((flI q:Int):Rat)-1:=by rw[Rat.intCast_sub];rfl
  rw[e,h]
  exact Rat.sub_lt_iff.2 (by grind)
 ·rename_i h
  rw[show flI q+1-1=flI q by omega]
  exact Rat.not_le.1 fun h'=>h (Rat.le_antisymm (qO q) h')
theorem aP7 {q:Rat} (h:0<q):0<clI q:=by
 have h1:=aNz q
 have h2:(0:Rat)<((clI q:Int):Rat):=Rat.not_le.1 fun h'=>Rat.not_le.2 h (Rat.le_trans h1 h')
 exact Rat.intCast_pos.1 h2
def nW (lo hi most:Rat):Rat:=(hi-lo)/(clI ((hi-lo)/most):Int)
section
variable {lo hi most:Rat}
theorem aN0 {a b:Rat} (ha:0<a) (hb:0<b):0<a/b:=by
 have e:a/b*b=a:=Rat.div_mul_cancel (by grind)
 refine Rat.not_le.1 fun h=>?_
 have:=Rat.mul_le_mul_of_nonneg_right (c:=b) h (Rat.le_of_lt hb)
 rw[e,Rat.zero_mul] at this
 exact Rat.not_le.2 ha this
theorem aR2 (h:lo<hi) (hm:0<most):0<clI ((hi-lo)/most):=aP7 (aN0 (by grind) hm)
end
section
variable {α:Type} [DecidableEq α]
end
def bI (L O S:Rat):Int:=flI ((O-L)/S)
def fG (H O S:Rat):Int:=flI ((H-O)/S)
def kM (L O S:Rat):Rat:=O-((bI L O S:Int):Rat)*S
def aEh (L H O S:Rat):Int:=bI L O S+fG H O S+1
theorem aN1 {n:Int} {q:Rat}:(n:Rat)≤q↔n≤flI q:=by
 constructor
 ·intro h
  have h1:=nV q
  have h2:(n:Rat)<((flI q+1:Int):Rat):=Rat.not_le.1 fun h'=>Rat.not_le.2 h1 (Rat.le_trans h' h)
  have:=Rat.intCast_lt_intCast.1 h2
  omega
 ·intro h
  exact Rat.le_trans (Rat.intCast_le_intCast.2 h) (qO q)
theorem kD {a b s:Rat} (hs:0<s):a≤b/s↔a*s≤b:=by
 have e:b/s*s=b:=Rat.div_mul_cancel (by grind)
 constructor
 ·intro h
  have:=Rat.mul_le_mul_of_nonneg_right (c:=s) h (Rat.le_of_lt hs)
  rwa [e] at this
 ·intro h
  refine Rat.not_lt.1 fun hlt=>?_
  have:=Rat.mul_lt_mul_of_pos_right hlt hs
  rw[e] at this
  exact Rat.not_le.2 this h
theorem at_in {L H O S:Rat} (hs:0<S) (i:Nat):kM L O S+S*((i:Int):Rat)≤H↔(i:Int)<aEh L H O S:=by
 have e1:((i:Int)-bI L O S)≤flI ((H-O)/S)↔(((i:Int)-bI L O S:Int):Rat)*S≤H-O:=by rw[← aN1,kD hs]
 have e2:(((i:Int)-bI L O S:Int):Rat)=((i:Int):Rat)-((bI L O S:Int):Rat):=Rat.intCast_sub _ _
 rw[e2] at e1
 have e3:(((i:Int):Rat)-((bI L O S:Int):Rat))*S≤H-O↔kM L O S+S*((i:Int):Rat)≤H:=by
  unfold kM
  rw[Rat.le_iff_sub_nonneg,Rat.le_iff_sub_nonneg (a:=O- _+ _)]
  have:H-O-(((i:Int):Rat)-((bI L O S:Int):Rat))*S=H-(O-((bI L O S:Int):Rat)*S+S*((i:Int):Rat)):=by grind
  rw[this]
 rw[← e3,← e1]
 unfold aEh fG
 omega
theorem aR3 {L O S:Rat} (hs:0<S):L≤kM L O S∧kM L O S<L+S:=by
 have h1:((bI L O S:Int):Rat)≤(O-L)/S:=qO _
 rw[kD hs] at h1
 have h2:¬((bI L O S+1:Int):Rat)≤(O-L)/S:=Rat.not_le.2 (nV _)
 rw[kD hs] at h2
 have e:((bI L O S+1:Int):Rat)=((bI L O S:Int):Rat)+1:=Rat.intCast_add _ _
 rw[e] at h2
 have h2:=Rat.not_le.1 h2
 unfold kM
 generalize ((bI L O S:Int):Rat)=k at*
 constructor
 ·rw[Rat.le_iff_sub_nonneg] at h1 ⊢
  have:O-k*S-L=O-L-k*S:=by grind
  rwa [this]
 ·rw[Rat.lt_iff_sub_pos] at h2 ⊢
  have:L+S-(O-k*S)=(k+1)*S-(O-L):=by grind
  rwa [this]
section
variable {p q:Rat} {k:Nat}
theorem mI {a b:Nat} (hb:b≠0):a≤a*b:=Nat.le_mul_of_pos_right a (Nat.pos_of_ne_zero hb)
theorem aN2 (h1:p.num.natAbs*q.den<10^k) (h2:q.num.natAbs*p.den<10^k) (h3:p.den*q.den<10^k):Sz k p∧Sz k q:=by
 have n1:=q.den_nz
 have n2:=p.den_nz
 exact ⟨⟨Nat.lt_of_le_of_lt (mI n1) h1,Nat.lt_of_le_of_lt (mI n1) h3⟩,⟨Nat.lt_of_le_of_lt (mI n2) h2,Nat.lt_of_le_of_lt (by rw[Nat.mul_comm];exact mI n2) h3⟩⟩
theorem aR4 (hk:0<k∧k+1≤300) (h1:p.num.natAbs*q.den<10^k) (h2:q.num.natAbs*p.den<10^k) (h3:p.den*q.den<10^k):addQ (numS p) (numS q)=(numS (p+q),0):=by
 obtain ⟨zp,zq⟩:=aN2 h1 h2 h3
 have e1:(p.num*q.den).natAbs<10^k:=by rw[Int.natAbs_mul,Int.natAbs_natCast];exact h1
 have e2:(q.num*p.den).natAbs<10^k:=by rw[Int.natAbs_mul,Int.natAbs_natCast];exact h2
 unfold addQ
 rw[pD zp zq ⟨hk.1,by omega⟩ ⟨hk.1,by omega⟩,if_neg]
 simp only[Bool.or_eq_true,not_or,Bool.not_eq_true]
 exact ⟨⟨⟨cB ⟨hk.1,by omega⟩ e1,cB ⟨hk.1,by omega⟩ e2⟩,cB (k:=k+1) ⟨by omega,hk.2⟩ (iW e1 e2).1⟩,cB ⟨hk.1,by omega⟩ (by rw[← Int.natCast_mul,Int.natAbs_natCast];exact h3)⟩
theorem aR5 (hk:0<k∧k≤300) (zp:Sz k p) (zq:Sz k q) (h1:p.num.natAbs*q.num.natAbs<10^k) (h3:p.den*q.den<10^k):mulQ (numS p) (numS q)=(numS (p*q),0):=by
 unfold mulQ
 rw[pD zp zq hk hk,if_neg]
 simp only[Bool.or_eq_true,not_or,Bool.not_eq_true]
 exact ⟨cB hk (by rw[Int.natAbs_mul];exact h1),cB hk (by rw[← Int.natCast_mul,Int.natAbs_natCast];exact h3)⟩
end
theorem aIr (q:Rat):((q.num:Int):Rat)=q*((q.den:Nat):Rat):=by
 have h:((q.den:Nat):Rat)≠0:=by
  have:=q.den_pos
  have:=Rat.natCast_pos.2 this
  exact fun e=>Rat.lt_irrefl (e ▸ this)
 have e:q=(q.num:Rat)/((q.den:Nat):Rat):=by
  conv=>lhs;rw[← Rat.mkRat_self q,Rat.mkRat_eq_div]
 conv=>rhs;lhs;rw[e]
 rw[Rat.div_mul_cancel h]
theorem tN (q:Rat):(0:Rat)≤((q.den:Nat):Rat):=Rat.natCast_nonneg
theorem aR6 {x H S:Rat} (c:Nat) (h:x≤H+(c:Rat)*S):x.num*(H.den*S.den:Nat)≤(H.num*S.den+c*S.num*H.den)*x.den:=by
 apply Rat.intCast_le_intCast.1
 simp only[Rat.intCast_mul,Rat.intCast_add,Rat.intCast_natCast,Rat.natCast_mul,aIr]
 have:=Rat.mul_le_mul_of_nonneg_right (c:=((x.den:Nat):Rat)*(((H.den:Nat):Rat)*((S.den:Nat):Rat))) h (Rat.mul_nonneg (tN x) (Rat.mul_nonneg (tN H) (tN S)))
 grind
def Lm (l:List (List UInt8)):Prop:=∀a∈l,chkQ a=0→a.length≤82
theorem Lm.at {l:List (List UInt8)} (h:Lm l) {i:Nat} (hi:i<l.length) (hk:chkQ (l.getD i [])=0):(l.getD i []).length≤82:=h _ (rS hi) hk
theorem bt2 {A B D l h s t N:Nat} (hl:0<l) (hD:1≤D) (hDt:D*t≤100*(s*l*h)) (hB:B*l≤D+A*h) (h1:A*l<N) (h2:B*h<N) (h3:s*t<N):B*(t*t)≤200*(N*N)*h:=by
 have hN:1≤N:=by omega
 by_cases hc:2*(A*h)≤B*l
 ·have e1:B*l≤2*D:=by omega
  have e2:(B*l)*t≤(2*D)*t:=Nat.mul_le_mul_right _ e1
  have e3:(2*D)*t=2*(D*t):=Nat.mul_assoc ..
  have e4:(B*t)*l≤(200*(s*h))*l:=by
   have e5:(B*t)*l=(B*l)*t:=by ac_rfl
   have e6:(200*(s*h))*l=200*(s*l*h):=by ac_rfl
   rw[e5,e6];omega
  have e7:B*t≤200*(s*h):=Nat.le_of_mul_le_mul_right e4 hl
  have e8:(B*t)*t≤(200*(s*h))*t:=Nat.mul_le_mul_right _ e7
  have e9:(200*(s*h))*t=200*((s*t)*h):=by ac_rfl
  have e10:(s*t)*h≤(N*N)*h:=Nat.mul_le_mul_right _ (Nat.le_trans (Nat.le_of_lt h3) (Nat.le_mul_of_pos_right N hN))
  have e11:200*(N*N)*h=200*((N*N)*h):=Nat.mul_assoc ..
  have e12:B*(t*t)=(B*t)*t:=(Nat.mul_assoc ..).symm
  omega
 ·have q:B*l<2*N:=by
   refine Nat.lt_of_not_le fun hq=>?_
   have f1:(2*N)*(2*N)≤(B*l)*(B*l):=Nat.mul_le_mul hq hq
   have f2:(B*l)*(B*l)≤(B*l)*(2*(A*h)):=Nat.mul_le_mul_left _ (by omega)
   have f3:(B*l)*(2*(A*h))=2*((B*h)*(A*l)):=by ac_rfl
   have f4:(B*h)*(A*l)≤N*N:=Nat.mul_le_mul (Nat.le_of_lt h2) (Nat.le_of_lt h1)
   have f5:(2*N)*(2*N)=4*(N*N):=by rw[show 4=2*2 from rfl];ac_rfl
   have f6:1*1≤N*N:=Nat.mul_le_mul hN hN
   omega
  have g1:t≤D*t:=Nat.le_mul_of_pos_left t hD
  have g2:(B*t)*t≤(B*t)*(100*(s*l*h)):=Nat.mul_le_mul_left _ (Nat.le_trans g1 hDt)
  have g3:(B*t)*(100*(s*l*h))=100*(((s*t)*(B*l))*h):=by ac_rfl
  have g4:(s*t)*(B*l)≤N*(2*N):=Nat.mul_le_mul (Nat.le_of_lt h3) (Nat.le_of_lt q)
  have g5:((s*t)*(B*l))*h≤(N*(2*N))*h:=Nat.mul_le_mul_right _ g4
  have g6:(N*(2*N))*h=2*((N*N)*h):=by ac_rfl
  have g7:200*(N*N)*h=200*((N*N)*h):=Nat.mul_assoc ..
  have g8:B*(t*t)=(B*t)*t:=(Nat.mul_assoc ..).symm
  omega
abbrev N82:Nat:=10^82
structure AtH (L H O S:Rat):Prop where
 wL:Wt 82 L
 wH:Wt 82 H
 wS:Wt 82 S
 zL:Sz 82 L
 zH:Sz 82 H
 zO:Sz 82 O
 zS:Sz 82 S
 le:L≤H
 pos:0<S
 few:H≤L+((100:Nat):Rat)*S
section
variable {L H O S:Rat}
theorem wA {q:Rat} (h:0<q):0<q.num:=by
 have:=(Rat.lt_iff 0 q).1 h
 simpa using this
theorem AtH.t2 (h:AtH L H O S) (hlt:L<H):H.num.natAbs*(S.den*S.den)≤200*(N82*N82)*H.den∧L.num.natAbs*(S.den*S.den)≤200*(N82*N82)*L.den:=by
 have hs:=wA h.pos
 have h1:=(Rat.lt_iff L H).1 hlt
 have h2:=aR6 100 h.few
 have hl:=L.den_pos
 have hh:=H.den_pos
 have eX:(H.num*L.den).natAbs=H.num.natAbs*L.den:=by rw[Int.natAbs_mul,Int.natAbs_natCast]
 have eY:(L.num*H.den).natAbs=L.num.natAbs*H.den:=by rw[Int.natAbs_mul,Int.natAbs_natCast]
 obtain ⟨D,hD⟩:∃D:Nat,(D:Int)=H.num*L.den-L.num*H.den:=⟨(H.num*L.den-L.num*H.den).toNat,by omega⟩
 have hD1:1≤D:=by omega
 have hDt:D*S.den≤100*(S.num.natAbs*L.den*H.den):=by
  have es:((S.num.natAbs:Nat):Int)=S.num:=by omega
  have:((D*S.den:Nat):Int)≤((100*(S.num.natAbs*L.den*H.den):Nat):Int):=by
   push_cast
   rw[es,hD]
   push_cast at h2
   grind
  exact Int.ofNat_le.1 this
 have b1:H.num.natAbs*L.den≤D+L.num.natAbs*H.den:=by rw[← eX,← eY];omega
 have b2:L.num.natAbs*H.den≤D+H.num.natAbs*L.den:=by rw[← eX,← eY];omega
 refine ⟨bt2 hl hD1 hDt b1 h.wL h.wH h.wS,bt2 hh hD1 (Nat.le_trans hDt (Nat.le_of_eq (by ac_rfl))) b2 h.wH h.wL h.wS⟩
theorem aRp {P Q S:Rat} (zP:Sz 82 P) (zQ:Sz 82 Q) (zS:Sz 82 S) (hS:0<S):(flI ((P-Q)/S)).natAbs*S.num.natAbs<10^165:=by
 have hs:=wA hS
 have es:((S.num.natAbs:Nat):Int)=S.num:=by omega
 have k1:((flI ((P-Q)/S):Int):Rat)*S≤P-Q:=(kD hS).1 (qO _)
 have k2:P-Q≤((flI ((P-Q)/S)+1:Int):Rat)*S:=by
  have:=Rat.le_of_lt (Rat.not_le.1 fun h=>Rat.not_le.2 (nV ((P-Q)/S)) ((kD hS).2 h))
  exact this
 generalize flI ((P-Q)/S)=k at*
 have hP:=P.den_pos
 have hQ:=Q.den_pos
 have nn:(0:Rat)≤((S.den:Nat):Rat)*(((P.den:Nat):Rat)*((Q.den:Nat):Rat)):=Rat.mul_nonneg (tN S) (Rat.mul_nonneg (tN P) (tN Q))
 have i1:k*S.num*(P.den*Q.den:Nat)≤(P.num*Q.den-Q.num*P.den)*S.den:=by
  apply Rat.intCast_le_intCast.1
  simp only[Rat.intCast_mul,Rat.intCast_sub,Rat.intCast_natCast,Rat.natCast_mul,aIr]
  have:=Rat.mul_le_mul_of_nonneg_right k1 nn
  grind
 have i2:(P.num*Q.den-Q.num*P.den)*S.den≤(k+1)*S.num*(P.den*Q.den:Nat):=by
  apply Rat.intCast_le_intCast.1
  rw[Rat.intCast_mul,Rat.intCast_mul ((k+1)*S.num),Rat.intCast_mul (k+1),Rat.intCast_sub]
  simp only[Rat.intCast_mul,Rat.intCast_natCast,Rat.natCast_mul,aIr]
  have:=Rat.mul_le_mul_of_nonneg_right k2 nn
  grind
 have m1:P.num.natAbs*Q.den≤P.num.natAbs*(P.den*Q.den):=Nat.mul_le_mul_left _ (Nat.le_mul_of_pos_left _ hP)
 have m2:Q.num.natAbs*P.den≤Q.num.natAbs*(P.den*Q.den):=Nat.mul_le_mul_left _ (Nat.le_mul_of_pos_right _ hQ)
 have a1:(P.num*Q.den).natAbs=P.num.natAbs*Q.den:=by rw[Int.natAbs_mul,Int.natAbs_natCast]
 have a2:(Q.num*P.den).natAbs=Q.num.natAbs*P.den:=by rw[Int.natAbs_mul,Int.natAbs_natCast]
 have m3:(P.num*Q.den-Q.num*P.den).natAbs≤(P.num.natAbs+Q.num.natAbs)*(P.den*Q.den):=by
  rw[Nat.add_mul];omega
 have m4:((P.num*Q.den-Q.num*P.den)*S.den).natAbs≤((P.num.natAbs+Q.num.natAbs)*S.den)*(P.den*Q.den):=by
  rw[Int.natAbs_mul,Int.natAbs_natCast]
  refine Nat.le_trans (Nat.mul_le_mul_right _ m3) (Nat.le_of_eq (by ac_rfl))
 have hd:0<P.den*Q.den:=Nat.mul_pos hP hQ
 have key:k.natAbs*S.num.natAbs≤(P.num.natAbs+Q.num.natAbs)*S.den+S.num.natAbs:=by
  by_cases hk:0≤k
  ·have f1:(k*S.num*(P.den*Q.den:Nat)).natAbs=(k.natAbs*S.num.natAbs)*(P.den*Q.den):=by rw[Int.natAbs_mul,Int.natAbs_mul,Int.natAbs_natCast]
   have f2:0≤k*S.num*(P.den*Q.den:Nat):=Int.mul_nonneg (Int.mul_nonneg hk (by omega)) (by omega)
   have f3:(k.natAbs*S.num.natAbs)*(P.den*Q.den)≤((P.num.natAbs+Q.num.natAbs)*S.den)*(P.den*Q.den):=by rw[← f1];omega
   have:=Nat.le_of_mul_le_mul_right f3 hd
   omega
  ·have f1:((k+1)*S.num*(P.den*Q.den:Nat)).natAbs=((k+1).natAbs*S.num.natAbs)*(P.den*Q.den):=by rw[Int.natAbs_mul,Int.natAbs_mul,Int.natAbs_natCast]
   have f2:(k+1)*S.num*(P.den*Q.den:Nat)≤0:=Int.mul_nonpos_of_nonpos_of_nonneg (Int.mul_nonpos_of_nonpos_of_nonneg (by omega) (by omega)) (by omega)
   have f3:((k+1).natAbs*S.num.natAbs)*(P.den*Q.den)≤((P.num.natAbs+Q.num.natAbs)*S.den)*(P.den*Q.den):=by rw[← f1];omega
   have f4:=Nat.le_of_mul_le_mul_right f3 hd
   have f5:k.natAbs=(k+1).natAbs+1:=by omega
   rw[f5,Nat.add_mul,Nat.one_mul]
   omega
 have d1:(P.num.natAbs+Q.num.natAbs)*S.den≤(10^82+10^82)*10^82:=Nat.mul_le_mul (Nat.add_le_add (Nat.le_of_lt zP.1) (Nat.le_of_lt zQ.1)) (Nat.le_of_lt zS.2)
 have d2:=zS.1
 have d3:(10^82+10^82)*10^82+10^82<10^165:=by decide
 omega
end
theorem aEg {q:Rat} {k:Nat} (h:Sz k q) (hk:0<k∧k≤300):flQ (numS q)=(itoa (flI q),0):=by
 unfold flQ
 rw[if_pos (qV h hk),eD];rfl
theorem aKb (n:Int):ofQ n 1=(itoa n,0):=by
 unfold ofQ
 rw[if_neg (by decide)]
 have:Rat.divInt n 1=(n:Rat):=Rat.num_divInt_den (n:Rat)
 rw[this,dL]
section
variable {L H O S:Rat}
noncomputable abbrev atX (L O S:Rat) (i:Nat):Rat:=kM L O S+S*((i:Int):Rat)
theorem AtH.count (h:AtH L H O S): -1≤bI L O S+fG H O S∧bI L O S+fG H O S≤100:=by
 have hS:=h.pos
 have a1:((bI L O S:Int):Rat)*S≤O-L:=(kD hS).1 (qO _)
 have a2:((fG H O S:Int):Rat)*S≤H-O:=(kD hS).1 (qO _)
 have b1:O-L≤((bI L O S+1:Int):Rat)*S:=Rat.le_of_lt (Rat.not_le.1 fun h=>Rat.not_le.2 (nV _) ((kD hS).2 h))
 have b2:H-O≤((fG H O S+1:Int):Rat)*S:=Rat.le_of_lt (Rat.not_le.1 fun h=>Rat.not_le.2 (nV _) ((kD hS).2 h))
 have b1':¬((bI L O S+1:Int):Rat)*S≤O-L:=fun h=>Rat.not_le.2 (nV _) ((kD hS).2 h)
 have b2':¬((fG H O S+1:Int):Rat)*S≤H-O:=fun h=>Rat.not_le.2 (nV _) ((kD hS).2 h)
 generalize bI L O S=x at*
 generalize fG H O S=y at*
 have few:=h.few
 have le:=h.le
 constructor
 ·refine Int.not_lt.1 fun hlt=>?_
  have h1:((x+1+(y+1):Int):Rat)≤((0:Int):Rat):=Rat.intCast_le_intCast.2 (by omega)
  have h2:=Rat.mul_le_mul_of_nonneg_right h1 (Rat.le_of_lt hS)
  rw[Rat.intCast_add (x+1),Rat.add_mul,Rat.intCast_zero,Rat.zero_mul] at h2
  have h3:=Rat.not_le.1 b1'
  have h4:=Rat.not_le.1 b2'
  generalize ((x+1:Int):Rat)*S=u at*
  generalize ((y+1:Int):Rat)*S=v at*
  grind
 ·refine Int.not_lt.1 fun hlt=>?_
  have h1:((101:Int):Rat)≤((x+y:Int):Rat):=Rat.intCast_le_intCast.2 (by omega)
  have h2:=Rat.mul_le_mul_of_nonneg_right h1 (Rat.le_of_lt hS)
  rw[Rat.intCast_add,Rat.add_mul] at h2
  have e:((101:Int):Rat)*S=((100:Nat):Rat)*S+S:=by
   rw[show ((101:Int):Rat)=((100:Nat):Rat)+1 from Rat.intCast_add 100 1,Rat.add_mul,Rat.one_mul]
  rw[e] at h2
  generalize ((100:Nat):Rat)*S=w at*
  generalize (x:Rat)*S=u at*
  generalize (y:Rat)*S=v at*
  grind
theorem AtH.f1 (h:AtH L H O S):subQ (numS O) (numS L)=(numS (O-L),0):=wG h.zO h.zL (by decide) (by decide) (by decide)
theorem AtH.f4 (h:AtH L H O S):subQ (numS H) (numS O)=(numS (H-O),0):=wG h.zH h.zO (by decide) (by decide) (by decide)
theorem gH {S:Rat} (h:0<S):S≠0:=fun e=>Rat.lt_irrefl (e ▸ h)
theorem AtH.f2 (h:AtH L H O S):divQ (numS (O-L)) (numS S)=(numS ((O-L)/S),0):=pE (h.zO.sub h.zL) h.zS (by decide) (by decide) (by decide) (gH h.pos)
theorem AtH.f5 (h:AtH L H O S):divQ (numS (H-O)) (numS S)=(numS ((H-O)/S),0):=pE (h.zH.sub h.zO) h.zS (by decide) (by decide) (by decide) (gH h.pos)
theorem AtH.f3 (h:AtH L H O S):flQ (numS ((O-L)/S))=(itoa (bI L O S),0):=aEg ((h.zO.sub h.zL).div h.zS (gH h.pos)) ⟨by decide,by decide⟩
theorem AtH.f6 (h:AtH L H O S):flQ (numS ((H-O)/S))=(itoa (fG H O S),0):=aEg ((h.zH.sub h.zO).div h.zS (gH h.pos)) ⟨by decide,by decide⟩
theorem AtH.below (h:AtH L H O S):(bI L O S).natAbs*S.num.natAbs<10^165∧(bI L O S).natAbs<10^165:=by
 have h1:=aRp h.zO h.zL h.zS h.pos
 have hs:=wA h.pos
 exact ⟨h1,Nat.lt_of_le_of_lt (Nat.le_mul_of_pos_right _ (by omega)) h1⟩
theorem AtH.above (h:AtH L H O S):(fG H O S).natAbs<10^165:=by
 have h1:=aRp h.zH h.zO h.zS h.pos
 have hs:=wA h.pos
 exact Nat.lt_of_le_of_lt (Nat.le_mul_of_pos_right _ (by omega)) h1
theorem AtH.f7 (h:AtH L H O S):addQ (itoa (bI L O S)) (itoa (fG H O S))=(itoa (bI L O S+fG H O S),0):=by
 have:=aR4 (p:=((bI L O S:Int):Rat)) (q:=((fG H O S:Int):Rat)) (k:=165) ⟨by decide,by decide⟩ (by rw[Rat.num_intCast,Rat.den_intCast,Nat.mul_one];exact h.below.2) (by rw[Rat.num_intCast,Rat.den_intCast,Nat.mul_one];exact h.above) (by rw[Rat.den_intCast,Rat.den_intCast];decide)
 rwa [← Rat.intCast_add,dL,dL,dL] at this
theorem AtH.f10 (h:AtH L H O S):mulQ (itoa (bI L O S)) (numS S)=(numS (((bI L O S:Int):Rat)*S),0):=by
 have z1:Sz 165 ((bI L O S:Int):Rat):=uH h.below.2 (by decide)
 have:=aR5 (k:=165) ⟨by decide,by decide⟩ z1 (h.zS.mono (by decide)) (by rw[Rat.num_intCast];exact h.below.1) (by rw[Rat.den_intCast,Nat.one_mul];exact (h.zS.mono (j:=165) (by decide)).2)
 rwa [dL] at this
theorem AtH.in (h:AtH L H O S) {i:Nat} (hi:(i:Int)<aEh L H O S):L≤atX L O S i∧atX L O S i≤H:=by
 refine ⟨?_,(at_in h.pos i).2 hi⟩
 have h1:=(aR3 (L:=L) (O:=O) h.pos).1
 have h2:0≤S*((i:Int):Rat):=Rat.mul_nonneg (Rat.le_of_lt h.pos) (Rat.intCast_nonneg.2 (by omega))
 show L≤kM L O S+ _
 generalize S*((i:Int):Rat)=u at*
 grind
end
structure EvH (L H M:Rat):Prop where
 zL:Sz 82 L
 zH:Sz 82 H
 zM:Sz 82 M
 lt:L<H
 pos:0<M
section
variable {L H M:Rat}
noncomputable abbrev evC (L H M:Rat):Int:=clI ((H-L)/M)
theorem EvH.e1 (h:EvH L H M):subQ (numS H) (numS L)=(numS (H-L),0):=wG h.zH h.zL (by decide) (by decide) (by decide)
theorem EvH.e2 (h:EvH L H M):divQ (numS (H-L)) (numS M)=(numS ((H-L)/M),0):=pE (h.zH.sub h.zL) h.zM (by decide) (by decide) (by decide) (gH h.pos)
theorem EvH.sq (h:EvH L H M):Sz 247 ((H-L)/M):=(h.zH.sub h.zL).div h.zM (gH h.pos)
theorem EvH.e3 (h:EvH L H M):flQ (numS ((H-L)/M))=(itoa (flI ((H-L)/M)),0):=aEg h.sq ⟨by decide,by decide⟩
theorem EvH.cpos (h:EvH L H M):0<evC L H M:=aR2 h.lt h.pos
theorem sz4 {n:Int} (h0:0≤n) (h:n≤5000):Sz 4 (n:Rat):=uH (by have:(10:Nat)^4=10000:=(by decide);omega) (by decide)
theorem EvH.st (h:EvH L H M) (hc:evC L H M≤4095):Sz 169 (nW L H M):=by
 have h0:=h.cpos
 have h1:0<clI ((H-L)/M):=h0
 have h2:clI ((H-L)/M)≤4095:=hc
 refine (h.zH.sub h.zL).div (sz4 (by omega) (by omega)) fun e=>?_
 have:=Rat.intCast_eq_zero_iff.1 e
 omega
theorem EvH.e4 (h:EvH L H M) (hc:evC L H M≤4095):divQ (numS (H-L)) (itoa (evC L H M))=(numS (nW L H M),0):=by
 have h0:=h.cpos
 have:=pE (h.zH.sub h.zL) (sz4 (n:=evC L H M) (by omega) (by omega)) (by decide) (by decide) (by decide) (fun e=>by
  have:=Rat.intCast_eq_zero_iff.1 e
  omega)
 rwa [dL] at this
theorem EvH.e5 (h:EvH L H M) (hc:evC L H M≤4095) {k:Nat} (hk:k≤5000):mulQ (numS (nW L H M)) (itoa k)=(numS (nW L H M*((k:Int):Rat)),0):=by
 have:=aK8 (h.st hc) (sz4 (n:=(k:Int)) (by omega) (by omega)) (by decide) (by decide) (by decide)
 rwa [dL] at this
theorem EvH.e6 (h:EvH L H M) (hc:evC L H M≤4095) {k:Nat} (hk:k≤5000):addQ (numS L) (numS (nW L H M*((k:Int):Rat)))=(numS (L+nW L H M*((k:Int):Rat)),0):=
 aQ4 h.zL ((h.st hc).mul (sz4 (n:=(k:Int)) (by omega) (by omega))) (by decide) (by decide) (by decide)
theorem aR0 (q:Rat):flI (-q)= -clI q:=by
 apply Int.le_antisymm
 ·have h1:=qO (-q)
  have h2:q≤((-flI (-q):Int):Rat):=by rw[Rat.intCast_neg];exact Rat.le_neg_iff.1 (by grind)
  have h3:=aR1 q
  have h4:((clI q-1:Int):Rat)<((-flI (-q):Int):Rat):=Rat.not_le.1 fun h=>Rat.not_le.2 h3 (Rat.le_trans h2 h)
  have:=Rat.intCast_lt_intCast.1 h4
  omega
 ·rw[← aN1,Rat.intCast_neg]
  exact Rat.neg_le_neg (aNz q)
theorem EvH.r1 (h:EvH L H M):subQ (numS L) (numS H)=(numS (L-H),0):=wG h.zL h.zH (by decide) (by decide) (by decide)
theorem EvH.r2 (h:EvH L H M):divQ (numS (L-H)) (numS M)=(numS ((L-H)/M),0):=pE (h.zL.sub h.zH) h.zM (by decide) (by decide) (by decide) (gH h.pos)
theorem neg_q:(L-H)/M= -((H-L)/M):=by
 rw[Rat.div_def,Rat.div_def,← Rat.neg_mul]
 congr 1
 grind
theorem EvH.sq' (h:EvH L H M):Sz 247 ((L-H)/M):=(h.zL.sub h.zH).div h.zM (gH h.pos)
theorem EvH.r3 (h:EvH L H M):flQ (numS ((L-H)/M))=(itoa (-evC L H M),0):=by
 rw[aEg h.sq' ⟨by decide,by decide⟩,neg_q,aR0]
theorem EvH.r4 (h:EvH L H M) (hc:evC L H M≤4095):divQ (numS (L-H)) (itoa (-evC L H M))=(numS (nW L H M),0):=by
 have h0:=h.cpos
 have z:Sz 4 ((-evC L H M:Int):Rat):=uH (by have:(10:Nat)^4=10000:=(by decide);omega) (by decide)
 have:=pE (h.zL.sub h.zH) z (by decide) (by decide) (by decide) (fun e=>by
  have:=Rat.intCast_eq_zero_iff.1 e
  omega)
 rw[dL] at this
 rw[this]
 unfold nW
 have hc0:((evC L H M:Int):Rat)≠0:=fun e=>by
  have:=Rat.intCast_eq_zero_iff.1 e
  omega
 have e1:(H-L)/((evC L H M:Int):Rat)*((evC L H M:Int):Rat)=H-L:=Rat.div_mul_cancel hc0
 have hc1:((-evC L H M:Int):Rat)≠0:=fun e=>by
  have:=Rat.intCast_eq_zero_iff.1 e
  omega
 have e2:(L-H)/((-evC L H M:Int):Rat)*((-evC L H M:Int):Rat)=L-H:=Rat.div_mul_cancel hc1
 rw[Rat.intCast_neg] at e2 ⊢
 have e3:((L-H) / -((evC L H M:Int):Rat)-(H-L)/((evC L H M:Int):Rat))*((evC L H M:Int):Rat)=0:=by grind
 rcases Rat.mul_eq_zero.1 e3 with e | e
 ·congr 2
  show _=(H-L)/((evC L H M:Int):Rat)
  grind
 ·exact absurd e hc0
end
def grS1 (a:List UInt8):Prop:=aK9 a∨(82<a.length∧chkQ a=0)
def grtS (l:List (List UInt8)):Prop:=(∃a∈l,grS1 a)∨16<l.length
noncomputable instance (l:List (List UInt8)):Decidable (grtS l):=Classical.propDecidable _
theorem Lm.sub {l m:List (List UInt8)} (h:Lm l) (hs:∀a∈m,a∈l):Lm m:=fun a ha=>h a (hs a ha)
def aNy (s:List UInt8):Prop:=20<s.length∨chkQ s≠0
noncomputable instance (s:List UInt8):Decidable (aNy s):=Classical.propDecidable _
noncomputable instance:DecidablePred aNy:=fun s=>Classical.propDecidable _
def shS (l:List (List UInt8)):Prop:=∀a∈l,a.length≤20∧chkQ a=0
noncomputable instance (l:List (List UInt8)):Decidable (shS l):=Classical.propDecidable _
def fineS (l:List (List UInt8)):Prop:=(l.length≤16∧shS l)∧ckS l=0
noncomputable instance (l:List (List UInt8)):Decidable (fineS l):=Classical.propDecidable _
def mnP (q:List UInt8):Prop:=(cmpQ q [53,48,48,48]).2=0∧0<(cmpQ q [53,48,48,48]).1
noncomputable instance (q:List UInt8):Decidable (mnP q):=Classical.propDecidable _
def fwP (lo hi s:List UInt8):Prop:=(subQ hi lo).2≠0∨(divQ (subQ hi lo).1 s).2≠0∨(cmpQ (divQ (subQ hi lo).1 s).1 [49,48,48]).2≠0∨(cmpQ (divQ (subQ hi lo).1 s).1 [49,48,48]).1≤0∨mnP (divQ (subQ hi lo).1 s).1
noncomputable instance (lo hi s:List UInt8):Decidable (fwP lo hi s):=Classical.propDecidable _
theorem itoaN (n:Nat):itoa (n:Int)=decDigits n:=by
 unfold itoa
 rw[if_neg (by omega),Int.toNat_natCast]
theorem aP6 (n:Nat):numS ((n:Int):Rat)=decDigits n:=by rw[dL,itoaN]
theorem n4:numS 4= [52]:=(aP6 4).trans (cQ (by decide))
abbrev Gp:=Int × Int
abbrev Bar:=Int × Int × Int × Int × Int × List Gp
abbrev tG:Ty:=.pair (.int .i64) (.int .i64)
abbrev tB:Ty:=.pair (.int .i64) (.pair (.int .i64) (.pair (.int .i64) (.pair (.int .i64) (.pair (.int .i64) (.slice tG)))))
def outR (n a b:Int):Bool:=decide (n<a∨b<n)
def gap1 (len:Int) (gs:List Gp) (i:Nat):Int:=if (gs.getD i (0,0)).1<0∨len<(gs.getD i (0,0)).2∨(gs.getD i (0,0)).2≤(gs.getD i (0,0)).1 then 2 else if 0<i∧(gs.getD i (0,0)).1≤(gs.getD (i-1) (0,0)).2 then 10 else 0
def rT (len:Int) (gs:List Gp):Nat→Nat→Int
 | 0,_=>0
 | n+1,i=>if gap1 len gs i≠0 then gap1 len gs i else rT len gs n (i+1)
def aBy (len:Int) (gs:List Gp):Int:=rT len gs gs.length 0
theorem aBz {len:Int} {gs:List Gp} {i:Nat} (hi:i<gs.length) (h:gap1 len gs i≠0):rT len gs (gs.length-i) i=gap1 len gs i:=by
 obtain ⟨n,e⟩:∃n,gs.length-i=n+1:=⟨gs.length-i-1,by omega⟩
 rw[e];exact if_pos h
theorem aN3 {len:Int} {gs:List Gp} {i:Nat} (hi:i<gs.length) (h:gap1 len gs i=0):rT len gs (gs.length-i) i=rT len gs (gs.length-(i+1)) (i+1):=by
 obtain ⟨n,e⟩:∃n,gs.length-i=n+1:=⟨gs.length-i-1,by omega⟩
 rw[e,show gs.length-(i+1)=n by omega];exact if_neg fun h'=>h' h
theorem aL2 {len:Int} {gs:List Gp}:rT len gs (gs.length-gs.length) gs.length=0:=by rw[Nat.sub_self];rfl
theorem zC {len:Int} {gs:List Gp}:∀(n i:Nat),i+n≤gs.length→rT len gs n i=0→∀j,i≤j→j<i+n→gap1 len gs j=0
 | 0,i,_,_,j,h1,h2=>by omega
 | n+1,i,hl,h,j,h1,h2=>by
  unfold rT at h
  split at h
  ·rename_i h3;exact absurd h h3
  ·rename_i h3
   by_cases e:j=i
   ·subst e;exact Classical.not_not.1 h3
   ·exact zC n (i+1) (by omega) h j (by omega) (by omega)
def barE (b:Bar):Int:=
 if outR b.1 1 1000 || outR b.2.1 1 1000 || outR b.2.2.1 1 65536 || outR b.2.2.2.1 0 4096 || outR b.2.2.2.2.1 0 1073741824 then 2
 else if 16<b.2.2.2.2.2.length then 4 else aBy b.2.2.1 b.2.2.2.2.2
theorem rU {b:Bar} (h:barE b=0):(1≤b.2.2.1∧b.2.2.1≤65536)∧(0≤b.2.2.2.2.1∧b.2.2.2.2.1≤1073741824)∧b.2.2.2.2.2.length≤16∧∀j,j<b.2.2.2.2.2.length→gap1 b.2.2.1 b.2.2.2.2.2 j=0:=by
 unfold barE at h
 split at h
 ·exact absurd h (by decide)
 rename_i h1
 split at h
 ·exact absurd h (by decide)
 rename_i h2
 simp only[Bool.or_eq_true,outR,decide_eq_true_eq,not_or] at h1
 exact ⟨⟨by omega,by omega⟩,⟨by omega,by omega⟩,by omega,fun j hj=>zC _ 0 (by omega) h j (Nat.zero_le _) (by omega)⟩
def lG (l:List Bar):Nat→Nat→Int
 | 0,_=>0
 | n+1,i=>if barE (l.getD i (0,0,0,0,0,[]))≠0 then barE (l.getD i (0,0,0,0,0,[])) else lG l n (i+1)
def pV (l:List Bar):Int:=if 64<l.length then 4 else lG l l.length 0
theorem aL3 {l:List Bar} {i:Nat} (hi:i<l.length) (h:barE (l.getD i (0,0,0,0,0,[]))≠0):lG l (l.length-i) i=barE (l.getD i (0,0,0,0,0,[])):=by
 obtain ⟨n,e⟩:∃n,l.length-i=n+1:=⟨l.length-i-1,by omega⟩
 rw[e];exact if_pos h
theorem aN4 {l:List Bar} {i:Nat} (hi:i<l.length) (h:barE (l.getD i (0,0,0,0,0,[]))=0):lG l (l.length-i) i=lG l (l.length-(i+1)) (i+1):=by
 obtain ⟨n,e⟩:∃n,l.length-i=n+1:=⟨l.length-i-1,by omega⟩
 rw[e,show l.length-(i+1)=n by omega];exact if_neg fun h'=>h' h
theorem aL4 {l:List Bar}:lG l (l.length-l.length) l.length=0:=by rw[Nat.sub_self];rfl
theorem zD {l:List Bar}:∀(n i:Nat),i+n≤l.length→lG l n i=0→∀j,i≤j→j<i+n→barE (l.getD j (0,0,0,0,0,[]))=0
 | 0,i,_,_,j,h1,h2=>by omega
 | n+1,i,hl,h,j,h1,h2=>by
  unfold lG at h
  split at h
  ·rename_i h3;exact absurd h h3
  ·rename_i h3
   by_cases e:j=i
   ·subst e;exact Classical.not_not.1 h3
   ·exact zD n (i+1) (by omega) h j (by omega) (by omega)
theorem aN5 {l:List Bar} (h:pV l=0):l.length≤64∧∀j,j<l.length→barE (l.getD j (0,0,0,0,0,[]))=0:=by
 unfold pV at h
 split at h
 ·exact absurd h (by decide)
 ·exact ⟨by omega,fun j hj=>zD _ 0 (by omega) h j (Nat.zero_le _) (by omega)⟩
def aU (len:Int):Int→List Gp→List Gp
 | f,[]=>if f<len then [(f,len)] else []
 | f,g::r=>if f<g.1 then (f,g.1)::aU len g.2 r else aU len g.2 r
def endG (gs:List Gp) (i:Nat):Int:=if i=0 then 0 else (gs.getD (i-1) (0,0)).2
def eJ (gs:List Gp):Nat→List Gp
 | 0=>[]
 | i+1=>if endG gs i<(gs.getD i (0,0)).1 then eJ gs i++ [(endG gs i,(gs.getD i (0,0)).1)] else eJ gs i
theorem aIs (len f:Int) (g:Gp) (r:List Gp):aU len f (g::r)=if f<g.1 then (f,g.1)::aU len g.2 r else aU len g.2 r:=rfl
theorem eS (gs:List Gp) (i:Nat):eJ gs (i+1)=if endG gs i<(gs.getD i (0,0)).1 then eJ gs i++ [(endG gs i,(gs.getD i (0,0)).1)] else eJ gs i:=rfl
theorem vE (len:Int) (gs:List Gp):∀(n i:Nat),i+n=gs.length→aU len 0 gs=eJ gs i++aU len (endG gs i) (gs.drop i)→aU len 0 gs=eJ gs gs.length++aU len (endG gs gs.length) []
 | 0,i,hi,h=>by
  have e:i=gs.length:=by omega
  subst e
  rw[List.drop_eq_nil_of_le (Nat.le_refl _)] at h
  exact h
 | n+1,i,hi,h=>by
  refine vE len gs n (i+1) (by omega) ?_
  rw[aP5 (0,0) (show i<gs.length by omega)] at h
  rw[h]
  have e:endG gs (i+1)=(gs.getD i (0,0)).2:=by unfold endG;rw[if_neg (by omega)];rfl
  rw[aIs,eS,e]
  by_cases hc:endG gs i<(gs.getD i (0,0)).1
  ·rw[if_pos hc,if_pos hc,List.append_assoc];rfl
  ·rw[if_neg hc,if_neg hc]
theorem aL5 (len:Int) (gs:List Gp):aU len 0 gs=if endG gs gs.length<len then eJ gs gs.length++ [(endG gs gs.length,len)] else eJ gs gs.length:=by
 have:=vE len gs gs.length 0 (by omega) (by rw[List.drop_zero];rfl)
 rw[this]
 unfold aU
 split
 ·rfl
 ·rw[List.append_nil]
def capS (k:Int):List Gp→Int
 | []=>0
 | g::r=>(g.2-g.1+k)+capS k r
theorem aN6 (k:Int) (l m:List Gp):capS k (l++m)=capS k l+capS k m:=by
 induction l with
 | nil=>simp[capS]
 | cons g r ih=>show (g.2-g.1+k)+capS k (r++m)=(g.2-g.1+k)+capS k r+capS k m;rw[ih];omega
def capT (k:Int) (l:List Gp) (i:Nat):Int:=capS k (l.take i)
theorem aB0 (k:Int) {l:List Gp} {i:Nat} (h:i<l.length):capT k l (i+1)=capT k l i+((l.getD i (0,0)).2-(l.getD i (0,0)).1+k):=by
 unfold capT
 rw[List.take_succ_eq_append_getElem h,aN6]
 simp[capS,List.getD_eq_getElem?_getD,h]
def rV (b:Bar):List Gp:=aU b.2.2.1 0 b.2.2.2.2.2
def capB (k:Int) (b:Bar):Int:=capS k (rV b)
def aX (k:Int) (l:List Bar):Nat→Int × Int
 | 0=>(0,0)
 | i+1=>if 0<capB k (l.getD i (0,0,0,0,0,[]))∧((aX k l i).2=0∨(l.getD i (0,0,0,0,0,[])).2.2.2.2.1*(aX k l i).2<(aX k l i).1*capB k (l.getD i (0,0,0,0,0,[]))) then ((l.getD i (0,0,0,0,0,[])).2.2.2.2.1,capB k (l.getD i (0,0,0,0,0,[]))) else aX k l i
theorem aGn {len:Int}:∀(gs:List Gp) (f:Int),0≤f→(∀g∈gs,0≤g.1∧g.1≤g.2∧g.2≤len)→∀g∈aU len f gs,0≤g.1∧g.1≤g.2∧g.2≤len
 | [],f,hf,_,g,hg=>by
  unfold aU at hg
  split at hg
  ·simp at hg;subst hg;dsimp only;omega
  ·simp at hg
 | x::r,f,hf,h,g,hg=>by
  have hx:=h x (List.mem_cons_self ..)
  have ih:=aGn r x.2 (by omega) (fun y hy=>h y (List.mem_cons_of_mem _ hy)) g
  unfold aU at hg
  split at hg
  ·rcases List.mem_cons.1 hg with rfl | hg
   ·dsimp only;omega
   ·exact ih hg
  ·exact ih hg
theorem qP {k:Int} (hk:0≤k∧k≤1000) {l:List Gp} (h:∀g∈l,0≤g.1∧g.1≤g.2∧g.2≤65536):∀i:Nat,0≤capT k l i∧capT k l i≤70000*i
 | 0=>⟨Int.le_refl _,Int.le_refl _⟩
 | i+1=>by
  have ih:=qP hk h i
  by_cases hi:i<l.length
  ·have hm:=h _ (rS (d:=(0,0)) hi)
   rw[aB0 k hi];omega
  ·have e:capT k l (i+1)=capT k l i:=by unfold capT;rw[List.take_of_length_le (by omega),List.take_of_length_le (by omega)]
   rw[e];omega
theorem tO {len:Int}:∀(gs:List Gp) (f:Int),(aU len f gs).length≤gs.length+1
 | [],f=>by unfold aU;split<;>simp
 | x::r,f=>by
  have ih:=tO (len:=len) r x.2
  unfold aU
  split<;>simp<;>omega
theorem aKc {b:Bar} (h:barE b=0):∀g∈rV b,0≤g.1∧g.1≤g.2∧g.2≤65536:=by
 obtain ⟨h1,_,h2,h3⟩:=rU h
 intro g hg
 have:=aGn b.2.2.2.2.2 0 (Int.le_refl _) (fun x hx=>by
  obtain ⟨j,hj,rfl⟩:=List.getElem_of_mem hx
  have:=h3 j hj
  unfold gap1 at this
  have e:b.2.2.2.2.2.getD j (0,0)=b.2.2.2.2.2[j]:=by simp[List.getD_eq_getElem?_getD,hj]
  rw[e] at this
  split at this
  ·exact absurd this (by decide)
  ·omega) g hg
 omega
theorem zE {k:Int} {b:Bar} (hk:0≤k∧k≤1000) (h:barE b=0):0≤capB k b∧capB k b≤1190000∧(rV b).length≤17:=by
 have h1:=qP hk (aKc h) (rV b).length
 have h2:=tO (len:=b.2.2.1) b.2.2.2.2.2 0
 have h3:=(rU h).2.2.1
 have e:capT k (rV b) (rV b).length=capB k b:=by unfold capT;rw[List.take_length];rfl
 rw[e] at h1
 have h4:(rV b).length≤17:=by unfold rV;omega
 exact ⟨h1.1,by omega,h4⟩
theorem yZ {P:Program} {c c':Con} (hc:aI P c) (hf:c'.f=c.f) (hfr:c'.fresh=c.fresh) (hl:(c'.lin,c'.own,c'.hp)=(none,none,none)) (h:∀args K,c'.cl args K→c.cl args K):aI P c':=
 aD hl (by rw[hf];exact hc.1) fun args K h'=>by
  have:=hc.2.1 args K (h args K h')
  rwa [hf,hfr]
noncomputable def c19n:Con:=aL 98 true fun args K=>match args with
 | [.str a,.str b]=>Alt (Has (fun r=>mulQ a b=(r,0)) fun r=>K (.tup [S r,I 0])) (K (.tup [S (mulQ a b).1,I (mulQ a b).2]))
 | _=>False
theorem k19n:aI Tryz.prog c19n:=yZ k19 rfl rfl rfl fun args K h=>by
 simp only[c19n] at h
 split at h
 ·rcases h.or with h | h
  ·obtain ⟨r,e,h⟩:=h.ex
   show K _
   rw[e];exact h
  ·exact h
 ·exact h.elim
noncomputable def c38n:Con:=aL 56 true fun args K=>match args with
 | [.str a,.str b]=>Alt (Has (fun r=>cmpQ a b=(r,0)) fun r=>K (.tup [I r,I 0])) (K (.tup [I (cmpQ a b).1,I (cmpQ a b).2]))
 | _=>False
theorem k38n:aI Tryz.prog c38n:=yZ k38 rfl rfl rfl fun args K h=>by
 simp only[c38n] at h
 split at h
 ·rcases h.or with h | h
  ·obtain ⟨r,e,h⟩:=h.ex
   show K _
   rw[e];exact h
  ·exact h
 ·exact h.elim
theorem ixAt {n:Int} {C:Nat→Prop} (j:Nat) (e:n=j) (h:C j):Ix n C:=⟨fun i h'=>by
 have:j=i:=by omega
 subst this;exact h⟩
def CmpAll (a b:List (List UInt8)):Prop:=∀x∈a,∀y∈b,(cmpQ x y).2=0
theorem CmpAll.drop {a b:List (List UInt8)} (h:CmpAll a b) (i j:Nat):CmpAll (a.drop i) (b.drop j):=fun x hx y hy=>h x (List.mem_of_mem_drop hx) y (List.mem_of_mem_drop hy)
theorem b2208 (n a b:Int):body Tryz.prog [] {} true Tryz.f208 [I n,I a,I b] (.bl (outR n a b=false) inferInstance):=by
 unfold outR
 by_cases h:a≤n
 ·(repeat' first|refine ZR ?_|fail)
  (conv=>whnf)
  simp only[decide_eq_false_iff_not]
  omega
 ·(repeat' first|refine ZR ?_|fail)
  (conv=>whnf)
  simp only[decide_eq_false_iff_not]
  omega
def aPm:Con:=aL 208 true fun args K=>match args with | [.val (.int .i64 n),.val (.int .i64 a),.val (.int .i64 b)]=>K (.bl (outR n a b=false) inferInstance) | _=>False
theorem k2208:aI Tryz.prog aPm:=by
 refine aD rfl (enters_of Tryz.func208 (by kernel_rfl) rfl) ?_
 intro args K h
 simp only[aPm] at h
 split at h
 ·rename_i n a b;exact ⟨_,h,aB (by simp) Tryz.func208 (by simp[Tryz.ntmps208]) rfl (b2208 n a b)⟩
 ·exact h.elim
theorem b2169 (w d len cnt cost:Int) (gs:List Gp):body Tryz.prog [aPm] { asks:=[(0,[])] } true Tryz.f169 [.agg [I w,I d,I len,I cnt,I cost,.seq tG gs]] (I (barE (w,d,len,cnt,cost,gs))):=by
 have e0:barE (w,d,len,cnt,cost,gs)=if outR w 1 1000 || outR d 1 1000 || outR len 1 65536 || outR cnt 0 4096 || outR cost 0 1073741824 then 2 else if 16<gs.length then 4 else aBy len gs:=rfl
 rw[e0]
 cases h1:outR w 1 1000 with
 | true=>
  have hn:¬outR w 1 1000=false:=by rw[h1];decide
  (repeat' first|refine ZR ?_|fail)
  (conv=>whnf)
  (repeat' first|rfl|refine And.intro ?_ ?_)
 | false=>
 cases h2:outR d 1 1000 with
 | true=>
  have hn:¬outR d 1 1000=false:=by rw[h2];decide
  (repeat' first|refine ZR ?_|fail)
  (conv=>whnf)
  (repeat' first|rfl|refine And.intro ?_ ?_)
 | false=>
 cases h3:outR len 1 65536 with
 | true=>
  have hn:¬outR len 1 65536=false:=by rw[h3];decide
  (repeat' first|refine ZR ?_|fail)
  (conv=>whnf)
  (repeat' first|rfl|refine And.intro ?_ ?_)
 | false=>
 cases h4:outR cnt 0 4096 with
 | true=>
  have hn:¬outR cnt 0 4096=false:=by rw[h4];decide
  (repeat' first|refine ZR ?_|fail)
  (conv=>whnf)
  (repeat' first|rfl|refine And.intro ?_ ?_)
 | false=>
 cases h5:outR cost 0 1073741824 with
 | true=>
  have hn:¬outR cost 0 1073741824=false:=by rw[h5];decide
  (repeat' first|refine ZR ?_|fail)
  (conv=>whnf)
  (repeat' first|rfl|refine And.intro ?_ ?_)
 | false=>
 by_cases h6:16<gs.length
 ·have e:(if (false || false || false || false || false)=true then (2:Int) else if 16<gs.length then 4 else aBy len gs)=4:=by rw[if_neg (by decide),if_pos h6]
  rw[e]
  (repeat' first|refine ZR ?_|refine Zg fun _=>?_)
  (conv=>whnf)
  (repeat' first|rfl|refine And.intro ?_ ?_)
 ·have e:(if (false || false || false || false || false)=true then (2:Int) else if 16<gs.length then 4 else aBy len gs)=aBy len gs:=by rw[if_neg (by decide),if_neg h6]
  rw[e]
  (repeat' first|refine ZR ?_|refine Zg fun _=>?_)
  refine Ask.mk ⟨{ X:=Nat,pre:=fun i=>i≤gs.length∧rT len gs (gs.length-i) i=aBy len gs,mod:=fun i _=>[(40,I i)],heap:=fun i H=>H,mu:=fun i=>gs.length-i },rfl,?_⟩
  (repeat' first|refine ZG ?_|fail)
  refine ⟨⟨(0:Nat),⟨Nat.zero_le _,rfl⟩,?_⟩,fun (i:Nat) hi=>?_⟩
  ·(repeat' first|exact trivial|rfl|refine And.intro ?_ ?_)
  obtain ⟨hi,hg⟩:=hi
  by_cases hlt:i<gs.length
  ·by_cases hg1:(gs.getD i (0,0)).1<0∨len<(gs.getD i (0,0)).2∨(gs.getD i (0,0)).2≤(gs.getD i (0,0)).1
   ·have e2:gap1 len gs i=2:=if_pos hg1
    rw[← hg,aBz hlt (by rw[e2];decide),e2]
    (repeat'((conv=>whnf);first|refine Zg fun _=>?_|refine Zn ?_|refine Zj ?_|refine Zy ?_|refine Zr (fun _=>?_) fun _=>?_|fail))
    all_goals first
     | omega
     | ((conv=>whnf);(repeat' first|rfl|refine And.intro ?_ ?_))
   ·by_cases hg2:0<i∧(gs.getD i (0,0)).1≤(gs.getD (i-1) (0,0)).2
    ·have e2:gap1 len gs i=10:=(if_neg hg1).trans (if_pos hg2)
     rw[← hg,aBz hlt (by rw[e2];decide),e2]
     (repeat'((conv=>whnf);first|refine Zg fun _=>?_|refine Zn ?_|refine Zj ?_|(apply Pin.mk;apply Exists.intro)|apply Pinned.mk rfl rfl|refine Zy ?_|refine Zm ?_|fail))
     refine ixAt (i-1) (by omega) ?_
     (repeat'((conv=>whnf);first|refine Zg fun _=>?_|(apply Pin.mk;apply Exists.intro)|apply Pinned.mk rfl rfl|refine Zy ?_|fail))
     (conv=>whnf)
     (repeat' first|rfl|refine And.intro ?_ ?_)
    ·have e2:gap1 len gs i=0:=(if_neg hg1).trans (if_neg hg2)
     have st:=(aN3 hlt e2).symm.trans hg
     by_cases h0:0<i
     ·(repeat'((conv=>whnf);first|refine Zg fun _=>?_|refine Zn ?_|refine Zj ?_|(apply Pin.mk;apply Exists.intro)|apply Pinned.mk rfl rfl|refine Zy ?_|refine Zm ?_|fail))
      refine ixAt (i-1) (by omega) ?_
      (repeat'((conv=>whnf);first|refine Zg fun _=>?_|refine Zn ?_|(apply Pin.mk;apply Exists.intro)|apply Pinned.mk rfl rfl|refine Zm ?_|fail))
      refine ⟨(i+1:Nat),by show gs.length-(i+1)<gs.length-i;omega,⟨hlt,st⟩,?_⟩
      (repeat' first|exact trivial|rfl|refine And.intro ?_ ?_)
     ·(repeat'((conv=>whnf);first|refine Zg fun _=>?_|refine Zn ?_|refine Zj ?_|(apply Pin.mk;apply Exists.intro)|apply Pinned.mk rfl rfl|refine Zy ?_|refine Zm ?_|fail))
      refine ⟨(i+1:Nat),by show gs.length-(i+1)<gs.length-i;omega,⟨hlt,st⟩,?_⟩
      (repeat' first|exact trivial|rfl|refine And.intro ?_ ?_)
  ·have e:i=gs.length:=by omega
   subst e
   rw[← hg,aL2]
   (repeat' first|refine ZR ?_|fail)
   (conv=>whnf)
   (repeat' first|rfl|refine And.intro ?_ ?_)
def aLf:Con:=aL 169 true fun args K=>match args with | [.agg [.val (.int .i64 w),.val (.int .i64 d),.val (.int .i64 len),.val (.int .i64 cnt),.val (.int .i64 cost),.seq (.pair (.int .i64) (.int .i64)) gs]]=>K (I (barE (w,d,len,cnt,cost,gs))) | _=>False
theorem aRx:aI Tryz.prog aLf:=by
 refine aD rfl (enters_of Tryz.func169 (by kernel_rfl) rfl) ?_
 intro args K h
 simp only[aLf] at h
 split at h
 ·rename_i w d len cnt cost gs;exact ⟨_,h,aB (by simp[k2208]) Tryz.func169 (by simp[Tryz.ntmps169]) rfl (b2169 w d len cnt cost gs)⟩
 ·exact h.elim
theorem b2113 (l:List Bar):body Tryz.prog [aLf] { asks:=[(0,[])] } true Tryz.f113 [.seq tB l] (I (pV l)):=by
 by_cases h6:64<l.length
 ·rw[show pV l=4 from if_pos h6]
  (repeat' first|refine ZR ?_|refine Zg fun _=>?_)
  (conv=>whnf)
  (repeat' first|rfl|refine And.intro ?_ ?_)
 ·rw[show pV l=lG l l.length 0 from if_neg h6]
  (repeat' first|refine ZR ?_|refine Zg fun _=>?_)
  refine Ask.mk ⟨{ X:=Nat,pre:=fun i=>i≤l.length∧lG l (l.length-i) i=lG l l.length 0,mod:=fun i _=>[(11,I i)],heap:=fun i H=>H,mu:=fun i=>l.length-i },rfl,?_⟩
  (repeat' first|refine ZG ?_|fail)
  refine ⟨⟨(0:Nat),⟨Nat.zero_le _,rfl⟩,?_⟩,fun (i:Nat) hi=>?_⟩
  ·(repeat' first|exact trivial|rfl|refine And.intro ?_ ?_)
  obtain ⟨hi,hg⟩:=hi
  by_cases hlt:i<l.length
  ·by_cases hb:barE (l.getD i (0,0,0,0,0,[]))=0
   ·have st:=(aN4 hlt hb).symm.trans hg
    (repeat' first|refine ZR ?_|refine Zg fun _=>?_)
    refine ⟨(i+1:Nat),by show l.length-(i+1)<l.length-i;omega,⟨hlt,st⟩,?_⟩
    (repeat' first|exact trivial|rfl|refine And.intro ?_ ?_)
   ·rw[← hg,aL3 hlt hb]
    (repeat' first|refine ZR ?_|refine Zg fun _=>?_)
    (conv=>whnf)
    (repeat' first|rfl|refine And.intro ?_ ?_)
  ·have e:i=l.length:=by omega
   subst e
   rw[← hg,aL4]
   (repeat' first|refine ZR ?_|fail)
   (conv=>whnf)
   (repeat' first|rfl|refine And.intro ?_ ?_)
def aPn:Con:=aL 113 true fun args K=>match args with | [.seq (.pair (.int .i64) (.pair (.int .i64) (.pair (.int .i64) (.pair (.int .i64) (.pair (.int .i64) (.slice (.pair (.int .i64) (.int .i64)))))))) l]=>K (I (pV l)) | _=>False
theorem k2113:aI Tryz.prog aPn:=by
 refine aD rfl (enters_of Tryz.func113 (by kernel_rfl) rfl) ?_
 intro args K h
 simp only[aPn] at h
 split at h
 ·rename_i l;exact ⟨_,h,aB (by simp[aRx]) Tryz.func113 (by simp[Tryz.ntmps113]) rfl (b2113 l)⟩
 ·exact h.elim
def sumX (xs:List Int) (k:Int):Int:=NB.psum (· +k) xs xs.length
noncomputable def lH (xs:List Int) (bars:List Bar) (k:Int):List UInt8 × Int:=
 if NB.piecesE xs k≠0 then ([],NB.piecesE xs k) else if pV bars≠0 then ([],1) else if xs.length=0 then ([48],0)
 else if (aX k bars bars.length).2=0 then ([],22) else (numS (Rat.divInt (aX k bars bars.length).1 (aX k bars bars.length).2*((sumX xs k:Int):Rat)),0)
theorem tP {xs:List Int} {k:Int} (h:NB.piecesE xs k=0):xs.length≤64∧(∀i,i<xs.length→1≤xs.getD i 0∧xs.getD i 0≤65536)∧0≤k∧k≤1000:=by
 unfold NB.piecesE at h
 split at h
 ·exact absurd h (by decide)
 rename_i h1
 split at h
 ·exact absurd h (by decide)
 rename_i h2
 split at h
 ·exact absurd h (by decide)
 rename_i h3
 refine ⟨by omega,fun i hi=>?_,by omega,by omega⟩
 have hm:xs.getD i 0∈xs:=rS hi
 have h2:xs.any NB.badP=false:=by simpa using h2
 have:=List.any_eq_false.1 h2 _ hm
 simp only[NB.badP,decide_eq_true_eq,Classical.not_not] at this
 exact this
theorem mJ {xs:List Int} {k:Int} (h:NB.piecesE xs k=0):∀i,i≤xs.length→(i:Int)≤NB.psum (· +k) xs i∧NB.psum (· +k) xs i≤66536*i
 | 0,_=>by rw[NB.psum_zero];omega
 | i+1,hi=>by
  obtain ⟨_,h1,h2,h3⟩:=tP h
  have ih:=mJ h i (by omega)
  have h4:=h1 i (by omega)
  rw[NB.psum_succ _ _ _ (by omega)]
  omega
theorem zF {xs:List Int} {k:Int} (h:NB.piecesE xs k=0):(xs.length:Int)≤sumX xs k∧sumX xs k≤66536*xs.length:=mJ h _ (Nat.le_refl _)
theorem nX {k:Int} {l:List Bar} (hk:0≤k∧k≤1000) (h:∀j,j<l.length→barE (l.getD j (0,0,0,0,0,[]))=0):∀i,i≤l.length→(0≤(aX k l i).1∧(aX k l i).1≤1073741824)∧0≤(aX k l i).2∧(aX k l i).2≤1190000
 | 0,_=>by unfold aX;dsimp only;omega
 | i+1,hi=>by
  have ih:=nX hk h i (by omega)
  have hb:=h i (by omega)
  have h1:=zE hk hb
  have h2:=(rU hb).2.1
  unfold aX
  split
  ·dsimp only;omega
  ·exact ih
theorem rW {n d:Int} {k:Nat} (hd:0<d) (h1:n.natAbs<10^k) (h2:d.natAbs<10^k):Sz k (Rat.divInt n d):=by
 rw[eT n d hd]
 exact aCp (by omega) h1 (by omega)
theorem aP8 {n d:Int} (hd:0<d):ofQ n d=(numS (Rat.divInt n d),0):=by unfold ofQ;rw[if_neg (by omega)]
theorem aR7 {a b c d:Int} (hb:0<b) (hd:0<d):Rat.divInt a b<Rat.divInt c d↔a*d<c*b:=by
 have hb':(0:Rat)<(b:Rat):=Rat.intCast_pos.2 hb
 have hd':(0:Rat)<(d:Rat):=Rat.intCast_pos.2 hd
 rw[Rat.divInt_eq_div,Rat.divInt_eq_div,Rat.lt_div_iff hd']
 have e:(a:Rat)/(b:Rat)*(d:Rat)=((a*d:Int):Rat)/(b:Rat):=by
  rw[Rat.intCast_mul,Rat.div_def,Rat.div_def];grind
 rw[e,Rat.div_lt_iff hb',← Rat.intCast_mul,Rat.intCast_lt_intCast]
noncomputable def lsS (s:Int × Int):List UInt8:=if s.2=0 then [48] else numS (Rat.divInt s.1 s.2)
theorem sz11 {n:Int} (h:0≤n) (h2:n≤1073741824):n.natAbs<10^11:=by
 have:(10:Nat)^11=100000000000:=(by decide)
 omega
theorem aR8 {c r b d:Int} (hc:0≤c∧c≤1073741824) (hr:0<r∧r≤1190000) (hb:0≤b∧b≤1073741824) (hd:0<d∧d≤1190000):cmpQ (numS (Rat.divInt b d)) (lsS (c,r))=(cmpR (Rat.divInt b d) (Rat.divInt c r),0)∧(cmpR (Rat.divInt b d) (Rat.divInt c r)<0↔b*r<c*d):=by
 unfold lsS
 rw[if_neg (by dsimp only;omega)]
 refine ⟨aJa (rW hd.1 (sz11 hb.1 hb.2) (sz11 (by omega) (by omega))) (rW hr.1 (sz11 hc.1 hc.2) (sz11 (by omega) (by omega))) (by decide) (by decide) (by decide),?_⟩
 rw[aQ7,aR7 hd.1 hr.1]
theorem aP9 {b d c:Int} (hb:0≤b∧b≤1073741824) (hd:0<d∧d≤1190000):cmpQ (numS (Rat.divInt b d)) (lsS (c,0))=(cmpR (Rat.divInt b d) 0,0):=by
 unfold lsS
 rw[if_pos rfl,← numS0]
 exact aJa (rW hd.1 (sz11 hb.1 hb.2) (sz11 (by omega) (by omega))) (show Sz 1 0 from ⟨by decide,by decide⟩) (by decide) (by decide) (by decide)
theorem aCx (gs:List Gp) (x:Gp):∀i,i≤gs.length→eJ (gs++ [x]) i=eJ gs i∧endG (gs++ [x]) i=endG gs i
 | 0,_=>⟨rfl,rfl⟩
 | i+1,hi=>by
  obtain ⟨h1,h2⟩:=aCx gs x i (by omega)
  have e:(gs++ [x]).getD i (0,0)=gs.getD i (0,0):=by
   simp[List.getD_eq_getElem?_getD,List.getElem?_append_left (show i<gs.length by omega)]
  refine ⟨by rw[eS,eS,h1,h2,e],?_⟩
  unfold endG
  rw[if_neg (by omega),if_neg (by omega)]
  exact congrArg Prod.snd e
theorem aMr (len:Int) (gs:List Gp):(gs++ [(len,len)]).getD gs.length (0,0)=(len,len):=by
 simp[List.getD_eq_getElem?_getD]
theorem aHl (len:Int) (gs:List Gp):eJ (gs++ [(len,len)]) (gs.length+1)=aU len 0 gs:=by
 obtain ⟨h1,h2⟩:=aCx gs (len,len) gs.length (Nat.le_refl _)
 rw[eS,aL5,aMr]
 rw[h1,h2]
theorem vR (gs:List Gp):∀m i,i≤m→∃t,eJ gs m=eJ gs i++t
 | 0,i,hi=>⟨[],by rw[show i=0 by omega,List.append_nil]⟩
 | m+1,i,hi=>by
  by_cases e:i=m+1
  ·exact ⟨[],by rw[e,List.append_nil]⟩
  ·obtain ⟨t,ht⟩:=vR gs m i (by omega)
   rw[eS]
   split
   ·exact ⟨t++ [(endG gs m,(gs.getD m (0,0)).1)],by rw[ht,List.append_assoc]⟩
   ·exact ⟨t,ht⟩
theorem aRe (len:Int) (gs:List Gp) {i:Nat} (hi:i<gs.length+1) (h:endG (gs++ [(len,len)]) i<((gs++ [(len,len)]).getD i (0,0)).1):(aU len 0 gs).getD (eJ (gs++ [(len,len)]) i).length (0,0)=(endG (gs++ [(len,len)]) i,((gs++ [(len,len)]).getD i (0,0)).1)∧(eJ (gs++ [(len,len)]) i).length<(aU len 0 gs).length∧(eJ (gs++ [(len,len)]) (i+1)).length=(eJ (gs++ [(len,len)]) i).length+1:=by
 obtain ⟨t,ht⟩:=vR (gs++ [(len,len)]) (gs.length+1) (i+1) (by omega)
 rw[aHl,eS,if_pos h] at ht
 rw[ht,eS,if_pos h]
 refine ⟨?_,by simp,by simp⟩
 rw[List.append_assoc]
 simp[List.getD_eq_getElem?_getD]
theorem aMs (len:Int) (gs:List Gp) {i:Nat} (h:¬endG (gs++ [(len,len)]) i<((gs++ [(len,len)]).getD i (0,0)).1):(eJ (gs++ [(len,len)]) (i+1)).length=(eJ (gs++ [(len,len)]) i).length:=by
 rw[eS,if_neg h]
theorem b2211 (gs:List Gp) (h:gs.length≤4096):aFa Tryz.prog [] {} Tryz.f211 [.seq tG gs] (.ref 0 1) tG gs 125:=by
 intro q hq
 (refine Br.mk (fun _=>?_) (fun _=>?_))
 ·rename_i h1
  have e:=hq h1
  subst e
  (conv=>whnf)
  (repeat' first|rfl|refine And.intro ?_ ?_)
 ·(repeat' first|refine ZG ?_|fail)
  (conv=>whnf)
  (repeat' first|rfl|refine And.intro ?_ ?_)
def aRy:Con:=aCy 211 fun args K=>match args with | [.seq (.pair (.int .i64) (.int .i64)) gs]=>Need (List.length (α:=Gp) gs≤4096) (K (.ref 0 1) (.vec 1 (.pair (.int .i64) (.int .i64)) (gs) 125)) | _=>False
theorem k2211:aI Tryz.prog aRy:=by
 refine xU (enters_of Tryz.func211 (by kernel_rfl) rfl) ?_
 intro args K h
 split at h
 ·rename_i gs;exact ⟨_,_,_,_,_,h.go,fun hfl=>jE (by simp) Tryz.func211 (by simp[Tryz.ntmps211]) hfl (b2211 gs h.ok)⟩
 ·exact h.elim
noncomputable abbrev itG (len:Int) (gs:List Gp) (k:Nat):List SV:=[.agg [I ((aU len 0 gs).getD k (0,0)).1,I ((aU len 0 gs).getD k (0,0)).2]]
theorem b2210 (w d len cnt cost:Int) (gs:List Gp) (h:List.length (α:=Gp) gs≤16):xF Tryz.prog [aRy] { asks:=[(0,[])] } Tryz.f210 [.lelem [I w,I d,I len,I cnt,I cost,.seq tG gs] 0] (aU len 0 gs).length (itG len gs):=by
 have hz:List.length (α:=Gp) (gs++ [(len,len)])=gs.length+1:=by simp
 (repeat'((conv=>whnf);first|refine Zg fun _=>?_|refine Zn ?_|(apply Pin.mk;apply Exists.intro)|apply Pinned.mk rfl rfl|(apply PinH.mk;apply Exists.intro;apply Exists.intro)|exact Zf|refine Zc ?_ ?_|refine Zl ?_|fail))
 refine Ask.mk ⟨{ X:=Nat,pre:=fun i=>i≤gs.length+1,mod:=fun i _=>[(3,I (endG (gs++ [(len,len)]) i)),(17,I i)],heap:=fun i H=>[.yst (some (eJ (gs++ [(len,len)]) i).length) (aU len 0 gs).length (itG len gs),hget H 1],mu:=fun i=>gs.length+1-i },rfl,?_⟩
 (repeat' first|refine ZG ?_|fail)
 refine ⟨⟨(0:Nat),Nat.zero_le _,by (repeat' first|exact trivial|rfl|refine And.intro ?_ ?_)⟩,fun (i:Nat) hi=>?_⟩
 have hi:i≤gs.length+1:=hi
 by_cases hlt:i<gs.length+1
 ·have he:endG (gs++ [(len,len)]) (i+1)=((gs++ [(len,len)]).getD i (0,0)).2:=by unfold endG;rw[if_neg (by omega)];rfl
  by_cases hc:endG (gs++ [(len,len)]) i<((gs++ [(len,len)]).getD i (0,0)).1
  ·obtain ⟨h1,h2,h3⟩:=aRe len gs hlt hc
   have hit:itG len gs (eJ (gs++ [(len,len)]) i).length= [.agg [I (endG (gs++ [(len,len)]) i),I ((gs++ [(len,len)]).getD i (0,0)).1]]:=by
    show [SV.agg [I ((aU len 0 gs).getD (eJ (gs++ [(len,len)]) i).length (0,0)).1,I ((aU len 0 gs).getD (eJ (gs++ [(len,len)]) i).length (0,0)).2]]= _
    rw[h1]
   (repeat' first|refine ZR ?_|refine Zg fun _=>?_)
   refine Need.mk (by rw[hit];(repeat' first|exact trivial|rfl|refine And.intro ?_ ?_)) ?_
   refine Two.mk ?_ ?_
   ·(repeat' first|refine ZR ?_|fail)
    refine ⟨(i+1:Nat),by show gs.length+1-(i+1)<gs.length+1-i;omega,hlt,?_⟩
    (repeat' first|exact trivial|rfl|refine And.intro ?_ ?_)
    all_goals rw[h3]
   ·skip
    (conv=>whnf)
    trivial
  ·have h3:=aMs len gs hc
   (repeat' first|refine ZR ?_|refine Zg fun _=>?_)
   refine ⟨(i+1:Nat),by show gs.length+1-(i+1)<gs.length+1-i;omega,hlt,?_⟩
   (repeat' first|exact trivial|rfl|refine And.intro ?_ ?_)
   all_goals rw[h3]
 ·have e:i=gs.length+1:=by omega
  subst e
  have hg:=aHl len gs
  (repeat' first|refine ZR ?_|fail)
  (conv=>whnf)
  all_goals rw[hg]
def aPo:Con:=aL 210 false fun args K=>match args with | [.lelem [.val (.int .i64 w),.val (.int .i64 d),.val (.int .i64 len),.val (.int .i64 cnt),.val (.int .i64 cost),.seq (.pair (.int .i64) (.int .i64)) gs] 0]=>Need (List.length (α:=Gp) gs≤16) (K (.itr (aU len 0 gs).length (itG len gs))) | _=>False
theorem k2210:aI Tryz.prog aPo:=by
 refine aD rfl (enters_of Tryz.func210 (by kernel_rfl) rfl) ?_
 intro args K h
 simp only[aPo] at h
 split at h
 ·rename_i w d len cnt cost gs;exact ⟨_,h.go,gM (by simp[k2211]) Tryz.func210 (by simp[Tryz.ntmps210]) (b2210 w d len cnt cost gs h.ok)⟩
 ·exact h.elim
theorem b2171 (w d len cnt cost:Int) (gs:List Gp):body Tryz.prog [] {} false Tryz.f171 [.agg [I w,I d,I len,I cnt,I cost,.seq tG gs]] (.clo 210 [] [.lelem [I w,I d,I len,I cnt,I cost,.seq tG gs] 0]):=by
 (conv=>whnf)
 (repeat' first|exact trivial|rfl|refine And.intro ?_ ?_)
def aPp:Con:=aL 171 false fun args K=>match args with | [.agg [.val (.int .i64 w),.val (.int .i64 d),.val (.int .i64 len),.val (.int .i64 cnt),.val (.int .i64 cost),.seq (.pair (.int .i64) (.int .i64)) gs]]=>K (.clo 210 [] [.lelem [I w,I d,I len,I cnt,I cost,.seq (.pair (.int .i64) (.int .i64)) gs] 0]) | _=>False
theorem k2171:aI Tryz.prog aPp:=by
 refine aD rfl (enters_of Tryz.func171 (by kernel_rfl) rfl) ?_
 intro args K h
 simp only[aPp] at h
 split at h
 ·rename_i w d len cnt cost gs;exact ⟨_,h,aB (by simp) Tryz.func171 (by simp[Tryz.ntmps171]) rfl (b2171 w d len cnt cost gs)⟩
 ·exact h.elim
theorem b2209 (w d len cnt cost:Int) (gs:List Gp) (h:List.length (α:=Gp) gs≤16):body Tryz.prog [aPo] { asks:=[(0,[1])] } true Tryz.f209 [.val (.slice none 0 0),.clo 210 [] [.lelem [I w,I d,I len,I cnt,I cost,.seq tG gs] 0]] (.seq tG (aU len 0 gs)):=by
 have hn:=tO (len:=len) gs 0
 refine Own.r ?_
 refine ⟨0,tG,125,?_⟩
 refine Ask.mk ⟨{ X:=Nat,pre:=fun i=>i≤(aU len 0 gs).length,mod:=fun _ _=>[],heap:=fun i H=>[hget H 0,.vec 1 tG ((aU len 0 gs).take i) 125,hget H 2],mu:=fun i=>i,objs:=[1] },rfl,?_⟩
 (repeat' first|refine ZG ?_|fail)
 refine ⟨⟨(0:Nat),rfl,Nat.zero_le _,by (repeat' first|exact trivial|rfl|exact Nat.one_pos|refine And.intro ?_ ?_)⟩,fun (i:Nat) hi (hlt:i<(aU len 0 gs).length)=>?_,fun (i:Nat) hi (he:i=(aU len 0 gs).length)=>?_⟩
 ·have hl:((aU len 0 gs).take i).length=i:=by rw[List.length_take];omega
  show hnfL (itG len gs i) _
  (repeat' first|refine ZG ?_|fail)
  refine ⟨(i+1:Nat),rfl,hlt,?_⟩
  (repeat' first|exact trivial|rfl|exact Nat.one_pos|refine And.intro ?_ ?_)
  all_goals (rw[List.take_succ_eq_append_getElem hlt,List.getD_eq_getElem?_getD,List.getElem?_eq_getElem hlt];(repeat' first|rfl))
 ·subst he
  (conv=>whnf)
  rw[List.take_length]
def aPq:Con:=aL 209 true fun args K=>match args with | [.val (.slice none 0 0),.clo 210 [] [.lelem [.val (.int .i64 w),.val (.int .i64 d),.val (.int .i64 len),.val (.int .i64 cnt),.val (.int .i64 cost),.seq (.pair (.int .i64) (.int .i64)) gs] 0]]=>Need (List.length (α:=Gp) gs≤16) (K (.seq (.pair (.int .i64) (.int .i64)) (aU len 0 gs))) | _=>False
theorem k2209:aI Tryz.prog aPq:=by
 refine aD rfl (enters_of Tryz.func209 (by kernel_rfl) rfl) ?_
 intro args K h
 simp only[aPq] at h
 split at h
 ·rename_i w d len cnt cost gs;exact ⟨_,h.go,aB (by simp[k2210]) Tryz.func209 (by simp[Tryz.ntmps209]) rfl (b2209 w d len cnt cost gs h.ok)⟩
 ·exact h.elim
theorem b2170 (w d len cnt cost:Int) (gs:List Gp) (h:List.length (α:=Gp) gs≤16):body Tryz.prog [aPq] {} false Tryz.f170 [.clo 210 [] [.lelem [I w,I d,I len,I cnt,I cost,.seq tG gs] 0]] (.seq tG (aU len 0 gs)):=by
 (repeat' first|refine ZG ?_|fail)
 (conv=>whnf)
def aPr:Con:=aL 170 false fun args K=>match args with | [.clo 210 [] [.lelem [.val (.int .i64 w),.val (.int .i64 d),.val (.int .i64 len),.val (.int .i64 cnt),.val (.int .i64 cost),.seq (.pair (.int .i64) (.int .i64)) gs] 0]]=>Need (List.length (α:=Gp) gs≤16) (K (.seq (.pair (.int .i64) (.int .i64)) (aU len 0 gs))) | _=>False
theorem k2170:aI Tryz.prog aPr:=by
 refine aD rfl (enters_of Tryz.func170 (by kernel_rfl) rfl) ?_
 intro args K h
 simp only[aPr] at h
 split at h
 ·rename_i w d len cnt cost gs;exact ⟨_,h.go,aB (by simp[k2209]) Tryz.func170 (by simp[Tryz.ntmps170]) rfl (b2170 w d len cnt cost gs h.ok)⟩
 ·exact h.elim
theorem b2114 (w d len cnt cost:Int) (gs:List Gp) (h:barE (w,d,len,cnt,cost,gs)=0):body Tryz.prog [aLf,aPp,aPr] {} false Tryz.f114 [.agg [I w,I d,I len,I cnt,I cost,.seq tG gs]] (.tup [.seq tG (aU len 0 gs),I 0]):=by
 have hl:=(rU h).2.2.1
 have hl:List.length (α:=Gp) gs≤16:=hl
 (repeat' first|refine ZR ?_|fail)
 (conv=>whnf)
 (repeat' first|exact trivial|rfl|refine And.intro ?_ ?_)
def aPs:Con:=aL 114 false fun args K=>match args with | [.agg [.val (.int .i64 w),.val (.int .i64 d),.val (.int .i64 len),.val (.int .i64 cnt),.val (.int .i64 cost),.seq (.pair (.int .i64) (.int .i64)) gs]]=>Need (barE (w,d,len,cnt,cost,gs)=0) (K (.tup [.seq (.pair (.int .i64) (.int .i64)) (aU len 0 gs),I 0])) | _=>False
theorem k2114:aI Tryz.prog aPs:=by
 refine aD rfl (enters_of Tryz.func114 (by kernel_rfl) rfl) ?_
 intro args K h
 simp only[aPs] at h
 split at h
 ·rename_i w d len cnt cost gs;exact ⟨_,h.go,aB (by simp[aRx,k2171,k2170]) Tryz.func114 (by simp[Tryz.ntmps114]) rfl (b2114 w d len cnt cost gs h.ok)⟩
 ·exact h.elim
end RB
end
section
open Go Go.Proofs Go.Eng Go.Shelf IB Go.Lib Go.RowKit
namespace RB
set_option maxHeartbeats 4000000 in
theorem b2055 (xs:List Int) (bars:List Bar) (k:Int):body Tryz.prog [NB.c36,aPn,aPs,c22,c38n,c19n] { asks:=[(0,[]),(2,[]),(4,[])] } true Tryz.f55 [Ls xs,.seq tB bars,I k] (.tup [S (lH xs bars k).1,I (lH xs bars k).2]):=by
 by_cases hp:NB.piecesE xs k=0
 ·have hr:=mJ hp
  obtain ⟨hl,hx,hk0,hk1⟩:=tP hp
  by_cases hb:pV bars=0
  ·obtain ⟨hbl,hbk⟩:=aN5 hb
   have e0:lH xs bars k=if xs.length=0 then ([48],0) else if (aX k bars bars.length).2=0 then ([],22) else (numS (Rat.divInt (aX k bars bars.length).1 (aX k bars bars.length).2*((sumX xs k:Int):Rat)),0):=by unfold lH;rw[if_neg (fun h=>h hp),if_neg (fun h=>h hb)]
   (repeat' first|refine ZR ?_|refine Zg fun _=>?_)
   refine Ask.mk ⟨{ X:=Nat,pre:=fun i=>i≤xs.length,mod:=fun i _=>[(9,I (NB.psum (· +k) xs i)),(38,I i)],heap:=fun i H=>H,mu:=fun i=>xs.length-i },rfl,?_⟩
   (repeat' first|refine ZG ?_|fail)
   refine ⟨⟨(0:Nat),Nat.zero_le _,by (repeat' first|exact trivial|rfl|refine And.intro ?_ ?_)⟩,fun (i:Nat) hi=>?_⟩
   have hi:i≤xs.length:=hi
   have hri:=hr i hi
   by_cases hlt:i<xs.length
   ·have hs:=NB.psum_succ (· +k) xs i hlt
    have hxi:=hx i hlt
    (repeat' first|refine ZR ?_|refine Zg fun _=>?_)
    refine ⟨(i+1:Nat),by show xs.length-(i+1)<xs.length-i;omega,hlt,?_⟩
    (repeat' first|exact trivial|rfl|refine And.intro ?_ ?_|omega)
   ·have e:i=xs.length:=by omega
    subst e
    have hsx:NB.psum (· +k) xs xs.length=sumX xs k:=rfl
    by_cases hx0:xs.length=0
    ·rw[if_pos hx0] at e0
     rw[e0]
     have hz:NB.psum (· +k) xs xs.length=0:=by have:=hr xs.length (Nat.le_refl _);omega
     (repeat' first|refine ZR ?_|fail)
     (conv=>whnf)
     (repeat' first|exact trivial|rfl|refine And.intro ?_ ?_)
    ·rw[if_neg hx0] at e0
     (repeat' first|refine ZR ?_|refine Zg fun _=>?_)
     refine Ask.mk ⟨{ X:=Nat,pre:=fun i=>i≤bars.length,mod:=fun i _=>[(12,S (lsS (aX k bars i))),(13,.bl (¬(aX k bars i).2=0) inferInstance),(52,I i)],heap:=fun i H=>H,mu:=fun i=>bars.length-i },rfl,?_⟩
     (repeat' first|refine ZG ?_|fail)
     refine ⟨⟨(0:Nat),Nat.zero_le _,by ((repeat' first|exact trivial|rfl|refine And.intro ?_ ?_);all_goals (show ¬ ¬(aX k bars 0).2=0;exact fun h=>h rfl))⟩,fun (j:Nat) hj=>?_⟩
     have hj:j≤bars.length:=hj
     have hbn:=nX ⟨hk0,hk1⟩ hbk j hj
     by_cases hjl:j<bars.length
     ·have hbj:=hbk j hjl
      have hcr:=zE ⟨hk0,hk1⟩ hbj
      have hco:=(rU hbj).2.1
      have hpre:barE ((bars.getD j (0,0,0,0,0,[])).1,(bars.getD j (0,0,0,0,0,[])).2.1,(bars.getD j (0,0,0,0,0,[])).2.2.1,(bars.getD j (0,0,0,0,0,[])).2.2.2.1,(bars.getD j (0,0,0,0,0,[])).2.2.2.2.1,(bars.getD j (0,0,0,0,0,[])).2.2.2.2.2)=0:=hbj
      have hin:∀g∈(aU (bars.getD j (0,0,0,0,0,[])).2.2.1 0 (bars.getD j (0,0,0,0,0,[])).2.2.2.2.2),0≤g.1∧g.1≤g.2∧g.2≤65536:=aKc hbj
      have hlf:(aU (bars.getD j (0,0,0,0,0,[])).2.2.1 0 (bars.getD j (0,0,0,0,0,[])).2.2.2.2.2).length≤17:=hcr.2.2
      have hrc:=fun i=>qP ⟨hk0,hk1⟩ hin i
      (repeat' first|refine ZR ?_|refine Zg fun _=>?_)
      refine Ask.mk ⟨{ X:=Nat,pre:=fun i=>i≤(aU (bars.getD j (0,0,0,0,0,[])).2.2.1 0 (bars.getD j (0,0,0,0,0,[])).2.2.2.2.2).length,mod:=fun i _=>[(18,I (capT k (aU (bars.getD j (0,0,0,0,0,[])).2.2.1 0 (bars.getD j (0,0,0,0,0,[])).2.2.2.2.2) i)),(66,I i)],heap:=fun i H=>H,mu:=fun i=>(aU (bars.getD j (0,0,0,0,0,[])).2.2.1 0 (bars.getD j (0,0,0,0,0,[])).2.2.2.2.2).length-i },rfl,?_⟩
      (repeat' first|refine ZG ?_|fail)
      refine ⟨⟨(0:Nat),Nat.zero_le _,by (repeat' first|exact trivial|rfl|refine And.intro ?_ ?_)⟩,fun (m:Nat) hm=>?_⟩
      have hm:m≤(aU (bars.getD j (0,0,0,0,0,[])).2.2.1 0 (bars.getD j (0,0,0,0,0,[])).2.2.2.2.2).length:=hm
      have hrm:=hrc m
      by_cases hml:m<(aU (bars.getD j (0,0,0,0,0,[])).2.2.1 0 (bars.getD j (0,0,0,0,0,[])).2.2.2.2.2).length
      ·have hg:=hin _ (rS (d:=(0,0)) hml)
       have hs:=aB0 k hml
       (repeat' first|refine ZR ?_|refine Zg fun _=>?_)
       refine ⟨(m+1:Nat),by show (aU (bars.getD j (0,0,0,0,0,[])).2.2.1 0 (bars.getD j (0,0,0,0,0,[])).2.2.2.2.2).length-(m+1)<(aU (bars.getD j (0,0,0,0,0,[])).2.2.1 0 (bars.getD j (0,0,0,0,0,[])).2.2.2.2.2).length-m;omega,hml,?_⟩
       (repeat' first|exact trivial|rfl|refine And.intro ?_ ?_|omega)
      ·have e:m=(aU (bars.getD j (0,0,0,0,0,[])).2.2.1 0 (bars.getD j (0,0,0,0,0,[])).2.2.2.2.2).length:=by omega
       subst e
       have hcap:capT k (aU (bars.getD j (0,0,0,0,0,[])).2.2.1 0 (bars.getD j (0,0,0,0,0,[])).2.2.2.2.2) (aU (bars.getD j (0,0,0,0,0,[])).2.2.1 0 (bars.getD j (0,0,0,0,0,[])).2.2.2.2.2).length=capB k (bars.getD j (0,0,0,0,0,[])):=by unfold capT;rw[List.take_length];rfl
       have hst:aX k bars (j+1)=if 0<capB k (bars.getD j (0,0,0,0,0,[]))∧((aX k bars j).2=0∨(bars.getD j (0,0,0,0,0,[])).2.2.2.2.1*(aX k bars j).2<(aX k bars j).1*capB k (bars.getD j (0,0,0,0,0,[]))) then ((bars.getD j (0,0,0,0,0,[])).2.2.2.2.1,capB k (bars.getD j (0,0,0,0,0,[]))) else aX k bars j:=rfl
       by_cases h1:0<capB k (bars.getD j (0,0,0,0,0,[]))
       ·rw[← hcap] at h1 hst
        have hcr2:(capT k (aU (bars.getD j (0,0,0,0,0,[])).2.2.1 0 (bars.getD j (0,0,0,0,0,[])).2.2.2.2.2) (aU (bars.getD j (0,0,0,0,0,[])).2.2.1 0 (bars.getD j (0,0,0,0,0,[])).2.2.2.2.2).length)≤1190000:=by rw[hcap];exact hcr.2.1
        have hq:ofQ (bars.getD j (0,0,0,0,0,[])).2.2.2.2.1 (capT k (aU (bars.getD j (0,0,0,0,0,[])).2.2.1 0 (bars.getD j (0,0,0,0,0,[])).2.2.2.2.2) (aU (bars.getD j (0,0,0,0,0,[])).2.2.1 0 (bars.getD j (0,0,0,0,0,[])).2.2.2.2.2).length)=(numS (Rat.divInt (bars.getD j (0,0,0,0,0,[])).2.2.2.2.1 (capT k (aU (bars.getD j (0,0,0,0,0,[])).2.2.1 0 (bars.getD j (0,0,0,0,0,[])).2.2.2.2.2) (aU (bars.getD j (0,0,0,0,0,[])).2.2.1 0 (bars.getD j (0,0,0,0,0,[])).2.2.2.2.2).length)),0):=aP8 h1
        have hls:lsS ((bars.getD j (0,0,0,0,0,[])).2.2.2.2.1,(capT k (aU (bars.getD j (0,0,0,0,0,[])).2.2.1 0 (bars.getD j (0,0,0,0,0,[])).2.2.2.2.2) (aU (bars.getD j (0,0,0,0,0,[])).2.2.1 0 (bars.getD j (0,0,0,0,0,[])).2.2.2.2.2).length))=numS (Rat.divInt (bars.getD j (0,0,0,0,0,[])).2.2.2.2.1 (capT k (aU (bars.getD j (0,0,0,0,0,[])).2.2.1 0 (bars.getD j (0,0,0,0,0,[])).2.2.2.2.2) (aU (bars.getD j (0,0,0,0,0,[])).2.2.1 0 (bars.getD j (0,0,0,0,0,[])).2.2.2.2.2).length)):=by unfold lsS;rw[if_neg (by dsimp only;omega)]
        by_cases h2:(aX k bars j).2=0
        ·rw[if_pos ⟨h1,Or.inl h2⟩] at hst
         have hcm:cmpQ (ofQ (bars.getD j (0,0,0,0,0,[])).2.2.2.2.1 (capT k (aU (bars.getD j (0,0,0,0,0,[])).2.2.1 0 (bars.getD j (0,0,0,0,0,[])).2.2.2.2.2) (aU (bars.getD j (0,0,0,0,0,[])).2.2.1 0 (bars.getD j (0,0,0,0,0,[])).2.2.2.2.2).length)).1 (lsS (aX k bars j))=(cmpR (Rat.divInt (bars.getD j (0,0,0,0,0,[])).2.2.2.2.1 (capT k (aU (bars.getD j (0,0,0,0,0,[])).2.2.1 0 (bars.getD j (0,0,0,0,0,[])).2.2.2.2.2) (aU (bars.getD j (0,0,0,0,0,[])).2.2.1 0 (bars.getD j (0,0,0,0,0,[])).2.2.2.2.2).length)) 0,0):=by
          rw[show lsS (aX k bars j)=lsS ((aX k bars j).1,0) by unfold lsS;rw[if_pos h2,if_pos rfl],hq]
          exact aP9 hco ⟨h1,hcr2⟩
         (repeat' first|refine ZR ?_|fail)
         refine ⟨(j+1:Nat),by show bars.length-(j+1)<bars.length-j;omega,hjl,?_⟩
         (repeat' first|exact trivial|rfl|refine And.intro ?_ ?_)
         all_goals first
          | (show (ofQ (bars.getD j (0,0,0,0,0,[])).2.2.2.2.1 (capT k (aU (bars.getD j (0,0,0,0,0,[])).2.2.1 0 (bars.getD j (0,0,0,0,0,[])).2.2.2.2.2) (aU (bars.getD j (0,0,0,0,0,[])).2.2.1 0 (bars.getD j (0,0,0,0,0,[])).2.2.2.2.2).length)).1=lsS (aX k bars (j+1));rw[hst,hq,hls])
          | (show ¬(aX k bars (j+1)).2=0;rw[hst];dsimp only;omega)
        ·obtain ⟨hc1,hc2⟩:=aR8 (c:=(aX k bars j).1) (r:=(aX k bars j).2) hbn.1 ⟨by omega,hbn.2.2⟩ hco ⟨h1,hcr2⟩
         have hcm:cmpQ (ofQ (bars.getD j (0,0,0,0,0,[])).2.2.2.2.1 (capT k (aU (bars.getD j (0,0,0,0,0,[])).2.2.1 0 (bars.getD j (0,0,0,0,0,[])).2.2.2.2.2) (aU (bars.getD j (0,0,0,0,0,[])).2.2.1 0 (bars.getD j (0,0,0,0,0,[])).2.2.2.2.2).length)).1 (lsS (aX k bars j))=(cmpR (Rat.divInt (bars.getD j (0,0,0,0,0,[])).2.2.2.2.1 (capT k (aU (bars.getD j (0,0,0,0,0,[])).2.2.1 0 (bars.getD j (0,0,0,0,0,[])).2.2.2.2.2) (aU (bars.getD j (0,0,0,0,0,[])).2.2.1 0 (bars.getD j (0,0,0,0,0,[])).2.2.2.2.2).length)) (Rat.divInt (aX k bars j).1 (aX k bars j).2),0):=by rw[hq];exact hc1
         by_cases h3:cmpR (Rat.divInt (bars.getD j (0,0,0,0,0,[])).2.2.2.2.1 (capT k (aU (bars.getD j (0,0,0,0,0,[])).2.2.1 0 (bars.getD j (0,0,0,0,0,[])).2.2.2.2.2) (aU (bars.getD j (0,0,0,0,0,[])).2.2.1 0 (bars.getD j (0,0,0,0,0,[])).2.2.2.2.2).length)) (Rat.divInt (aX k bars j).1 (aX k bars j).2)<0
         ·rw[if_pos ⟨h1,Or.inr (hc2.1 h3)⟩] at hst
          (repeat' first|refine ZR ?_|fail)
          refine ⟨(j+1:Nat),by show bars.length-(j+1)<bars.length-j;omega,hjl,?_⟩
          (repeat' first|exact trivial|rfl|refine And.intro ?_ ?_)
          all_goals first
           | (show (ofQ (bars.getD j (0,0,0,0,0,[])).2.2.2.2.1 (capT k (aU (bars.getD j (0,0,0,0,0,[])).2.2.1 0 (bars.getD j (0,0,0,0,0,[])).2.2.2.2.2) (aU (bars.getD j (0,0,0,0,0,[])).2.2.1 0 (bars.getD j (0,0,0,0,0,[])).2.2.2.2.2).length)).1=lsS (aX k bars (j+1));rw[hst,hq,hls])
           | (show ¬(aX k bars (j+1)).2=0;rw[hst];dsimp only;omega)
         ·rw[if_neg (fun h=>h.2.elim h2 fun h4=>h3 (hc2.2 h4))] at hst
          (repeat' first|refine ZR ?_|fail)
          refine ⟨(j+1:Nat),by show bars.length-(j+1)<bars.length-j;omega,hjl,?_⟩
          (repeat' first|exact trivial|rfl|refine And.intro ?_ ?_)
          all_goals first
           | (show lsS (aX k bars j)=lsS (aX k bars (j+1));rw[hst])
           | (show (¬(aX k bars j).2=0)↔(¬(aX k bars (j+1)).2=0);rw[hst])
       ·rw[if_neg (fun h=>h1 h.1)] at hst
        (repeat' first|refine ZR ?_|fail)
        refine ⟨(j+1:Nat),by show bars.length-(j+1)<bars.length-j;omega,hjl,?_⟩
        (repeat' first|exact trivial|rfl|refine And.intro ?_ ?_)
        all_goals first
         | (show lsS (aX k bars j)=lsS (aX k bars (j+1));rw[hst])
         | (show (¬(aX k bars j).2=0)↔(¬(aX k bars (j+1)).2=0);rw[hst])
     ·have e:j=bars.length:=by omega
      subst e
      by_cases hz:(aX k bars bars.length).2=0
      ·rw[if_pos hz] at e0
       rw[e0]
       (repeat' first|refine ZR ?_|fail)
       (conv=>whnf)
       (repeat' first|exact trivial|rfl|refine And.intro ?_ ?_)
      ·rw[if_neg hz] at e0
       have hm:mulQ (ofQ (NB.psum (· +k) xs xs.length) 1).1 (lsS (aX k bars bars.length))=(numS (Rat.divInt (aX k bars bars.length).1 (aX k bars bars.length).2*((sumX xs k:Int):Rat)),0):=by
        have hs:=zF hp
        unfold lsS
        rw[if_neg hz,aKb,← dL,Rat.mul_comm]
        exact aK8 (i:=11) (j:=11) (uH (sz11 (by omega) (by omega)) (by decide)) (rW (by omega) (sz11 hbn.1.1 hbn.1.2) (sz11 (by omega) (by omega))) (by decide) (by decide) (by decide)
       rw[e0]
       (repeat' first|refine ZR ?_|fail)
       conv=>whnf
       (conv=>whnf)
       (repeat' first|exact trivial|rfl|refine And.intro ?_ ?_)
  ·rw[show lH xs bars k=([],1) by unfold lH;rw[if_neg (fun h=>h hp),if_pos hb]]
   (repeat' first|refine ZR ?_|fail)
   (conv=>whnf)
   (repeat' first|exact trivial|rfl|refine And.intro ?_ ?_)
 ·rw[show lH xs bars k=([],NB.piecesE xs k) by unfold lH;rw[if_pos hp]]
  (repeat' first|refine ZR ?_|fail)
  (conv=>whnf)
  (repeat' first|exact trivial|rfl|refine And.intro ?_ ?_)
def aPt:Con:=aL 55 true fun args K=>match args with | [.seq (.int .i64) xs,.seq (.pair (.int .i64) (.pair (.int .i64) (.pair (.int .i64) (.pair (.int .i64) (.pair (.int .i64) (.slice (.pair (.int .i64) (.int .i64)))))))) bars,.val (.int .i64 k)]=>K (.tup [S (lH xs bars k).1,I (lH xs bars k).2]) | _=>False
theorem k2055:aI Tryz.prog aPt:=by
 refine aD rfl (enters_of Tryz.func55 (by kernel_rfl) rfl) ?_
 intro args K h
 simp only[aPt] at h
 split at h
 ·rename_i xs bars k;exact ⟨_,h,aB (by simp[NB.k36,k2113,k2114,k22,k38n,k19n]) Tryz.func55 (by simp[Tryz.ntmps55]) rfl (b2055 xs bars k)⟩
 ·exact h.elim
end RB
end
section
open Go Go.Proofs Go.Eng Go.Shelf IB Go.Lib Go.RowKit
namespace RB
end RB
end
section
open Go Go.Proofs Go.Eng Go.Shelf
namespace NB
def useS (bars xs:List Int) (k:Int) (m:MapS Int) (i:Nat):MapS Int:=m.put (bars.getD i 0) ((m.get (bars.getD i 0)).getD 0+(xs.getD i 0+k))
def usedM (bars xs:List Int) (k:Int) (i:Nat):MapS Int:=(List.range i).foldl (useS bars xs k) .new
theorem usedM_succ (bars xs:List Int) (k:Int) (i:Nat):usedM bars xs k (i+1)=useS bars xs k (usedM bars xs k i) i:=by
 unfold usedM;rw[List.range_succ,List.foldl_append];rfl
theorem aG4 {α:Type} {n:Int} {x:α}:∀ {es:List (Nat × Int × α)} {e},e∈setK es n x→e∈es∨e.2.2=x
 | [],_,h=>by simp[setK] at h
 | e₀::r,e,h=>by
  simp only[setK] at h
  split at h
  ·rcases List.mem_cons.1 h with rfl | h
   ·exact .inr rfl
   ·exact .inl (List.mem_cons_of_mem _ h)
  ·rcases List.mem_cons.1 h with rfl | h
   ·exact .inl List.mem_cons_self
   ·rcases aG4 h with h | h
    ·exact .inl (List.mem_cons_of_mem _ h)
    ·exact .inr h
theorem aQm {α:Type} {m:MapS α} {n:Int} {x:α} {e:Nat × Int × α} (h:e∈(m.put n x).es):e∈m.es∨e.2.2=x:=by
 unfold MapS.put at h
 split at h
 ·exact aG4 h
 ·simp only[List.mem_append,List.mem_singleton] at h
  rcases h with h | rfl
  ·exact .inl h
  ·exact .inr rfl
theorem tV {α:Type} {n:Int} {x:α}:∀ {es:List (Nat × Int × α)},cW es n=some x→∃e∈es,e.2.1=n∧e.2.2=x
 | e₀::r,h=>by
  simp only[cW] at h
  split at h
  ·rename_i h1;cases h;exact ⟨e₀,List.mem_cons_self,h1,rfl⟩
  ·obtain ⟨e,h1,h2⟩:=tV h;exact ⟨e,List.mem_cons_of_mem _ h1,h2⟩
def aEn (xs:List Int) (k:Int):Prop:=xs.length≤1000∧(∀i,i<xs.length→0≤xs.getD i 0∧xs.getD i 0≤65536)∧0≤k∧k≤1000
theorem usedM_range {bars xs:List Int} {k:Int} (h:aEn xs k):∀i,i≤xs.length→(∀e∈(usedM bars xs k i).es,0≤e.2.2∧e.2.2≤100000*i)∧(usedM bars xs k i).es.length≤i
 | 0,_=>by simp[usedM,MapS.new]
 | i+1,hi=>by
  obtain ⟨h1,h2⟩:=usedM_range h i (by omega)
  have h3:=h.2.1 i (by omega)
  have h4:=h.2.2
  rw[usedM_succ]
  have hg:0≤((usedM bars xs k i).get (bars.getD i 0)).getD 0∧((usedM bars xs k i).get (bars.getD i 0)).getD 0≤100000*i:=by
   cases hf:(usedM bars xs k i).get (bars.getD i 0) with
   | none=>simp;omega
   | some y=>
    obtain ⟨e,h5,_,h6⟩:=tV hf
    have:=h1 e h5
    simp only[Option.getD_some];omega
  refine ⟨fun e he=>?_,?_⟩
  ·rcases aQm he with he | he
   ·have:=h1 e he;omega
   ·rw[he];omega
  ·have:=(usedM bars xs k i).put_length (bars.getD i 0) (((usedM bars xs k i).get (bars.getD i 0)).getD 0+(xs.getD i 0+k))
   show ((usedM bars xs k i).put _ _).es.length≤i+1
   omega
theorem usedM_get {bars xs:List Int} {k:Int} (h:aEn xs k) {i:Nat} (hi:i≤xs.length) (n:Int):0≤((usedM bars xs k i).get n).getD 0∧((usedM bars xs k i).get n).getD 0≤100000*i:=by
 cases hf:(usedM bars xs k i).get n with
 | none=>simp only[Option.getD_none];omega
 | some y=>
  obtain ⟨e,h5,_,h6⟩:=tV hf
  have:=(usedM_range h i hi).1 e h5
  simp only[Option.getD_some];omega
def unseen:List (Nat × Int × Int)→List Nat→Nat
 | [],_=>0
 | e::r,s=>(if e.1∈s then 0 else 1)+unseen r s
theorem aCb (s:List Nat) (b:Nat):∀es:List (Nat × Int × Int),unseen es (s++ [b])≤unseen es s
 | []=>Nat.le_refl _
 | e::r=>by
  have:=aCb s b r
  simp only[unseen]
  by_cases h:e.1∈s
  ·rw[if_pos h,if_pos (by simp[h])];omega
  ·rw[if_neg h];split<;>omega
theorem unseen_less {seen:List Nat} {e:Nat × Int × Int} (hs:¬e.1∈seen):∀ {es:List (Nat × Int × Int)},e∈es→unseen es (seen++ [e.1])<unseen es seen
 | x::r,he=>by
  simp only[unseen]
  rcases List.mem_cons.1 he with rfl | he
  ·have:=aCb seen e.1 r
   rw[if_pos (by simp),if_neg hs];omega
  ·have:=unseen_less hs he
   by_cases h:x.1∈seen
   ·rw[if_pos h,if_pos (by simp[h])];omega
   ·rw[if_neg h];split<;>omega
theorem born_one {α:Type}:∀ {es:List (Nat × Int × α)},es.Pairwise (fun a b=>a.1≠b.1)→∀ {e f},e∈es→f∈es→e.1=f.1→e=f
 | x::r,h,e,f,he,hf,hef=>by
  obtain ⟨h1,h2⟩:=List.pairwise_cons.1 h
  rcases List.mem_cons.1 he with he' | he'
  ·rcases List.mem_cons.1 hf with hf' | hf'
   ·rw[he',hf']
   ·exact absurd (he' ▸ hef) (h1 f hf')
  ·rcases List.mem_cons.1 hf with hf' | hf'
   ·exact absurd (hf' ▸ hef).symm (h1 e he')
   ·exact born_one h2 he' hf' hef
def fitP (bars xs:List Int) (L k:Int):Prop:=∀e∈(usedM bars xs k xs.length).es,e.2.2≤L+k
noncomputable instance (bars xs:List Int) (L k:Int):Decidable (fitP bars xs L k):=Classical.propDecidable _
end NB
end
section
namespace Go.Eng
section
variable {α:Type}
theorem aMd (xs ys:List (Nat × Int × α)) (n:Int):cW (xs++ys) n=match cW xs n with
  | some x=>some x
  | none=>cW ys n:=by
 induction xs with
 | nil=>rfl
 | cons e r ih=>
  simp only[List.cons_append,cW]
  split
  ·rfl
  ·exact ih
theorem aIy (xs:List (Nat × Int × α)) (n n':Int) (x:α) (h:∃y,cW xs n=some y):cW (setK xs n x) n'=if n'=n then some x else cW xs n':=by
 induction xs with
 | nil=>obtain ⟨y,hy⟩:=h;cases hy
 | cons e r ih=>
  simp only[setK]
  by_cases he:e.2.1=n
  ·rw[if_pos he]
   simp only[cW]
   by_cases h1:n=n'
   ·rw[if_pos h1,if_pos h1.symm]
   ·rw[if_neg h1,if_neg (fun h=>h1 h.symm),if_neg (by rw[he];exact h1)]
  ·rw[if_neg he]
   simp only[cW]
   have:∃y,cW r n=some y:=by obtain ⟨y,hy⟩:=h;simp only[cW,if_neg he] at hy;exact ⟨y,hy⟩
   by_cases h1:e.2.1=n'
   ·rw[if_pos h1,if_pos h1,if_neg (by rw[← h1];exact he)]
   ·rw[if_neg h1,if_neg h1];exact ih this
theorem MapS.get_put (m:MapS α) (n n':Int) (x:α):(m.put n x).get n'=if n'=n then some x else m.get n':=by
 unfold MapS.put MapS.get
 split
 ·rename_i y hy
  exact aIy _ _ _ _ ⟨y,hy⟩
 ·rename_i hn
  simp only
  rw[aMd]
  by_cases h:n'=n
  ·subst h;rw[hn];simp[cW]
  ·rw[if_neg h]
   cases hf:cW m.es n' with
   | some y=>rfl
   | none=>simp[cW];exact fun e=>h e.symm
theorem aEl {xs:List (Nat × Int × α)} (h:xs.Pairwise fun a b=>a.2.1≠b.2.1) {e} (he:e∈xs):cW xs e.2.1=some e.2.2:=by
 induction xs with
 | nil=>cases he
 | cons x r ih=>
  obtain ⟨h1,h2⟩:=List.pairwise_cons.1 h
  simp only[cW]
  rcases List.mem_cons.1 he with he' | he'
  ·rw[if_pos (by rw[he']),he']
  ·rw[if_neg (h1 e he'),ih h2 he']
theorem sC {n:Int} {x:α}:∀ {es:List (Nat × Int × α)},cW es n=some x→∃e∈es,e.2.1=n∧e.2.2=x
 | e₀::r,h=>by
  simp only[cW] at h
  split at h
  ·rename_i h1;cases h;exact ⟨e₀,List.mem_cons_self,h1,rfl⟩
  ·obtain ⟨e,h1,h2⟩:=sC h;exact ⟨e,List.mem_cons_of_mem _ h1,h2⟩
end
end Go.Eng
end
section
open Go Go.Proofs Go.Eng Go.Shelf
namespace NB
def sumI (g:Nat→Int) (js:List Nat):Int:=(js.map g).sum
theorem tW (g:Nat→Int) (j:Nat) (js:List Nat):sumI g (j::js)=g j+sumI g js:=by simp[sumI]
theorem aQn {ks:List Int} (h:ks.Pairwise (· ≠ ·)) {b c:Int} (hb:b∈ks):(ks.map fun x=>if b=x then c else 0).sum=c:=by
 induction ks with
 | nil=>cases hb
 | cons k r ih=>
  obtain ⟨h1,h2⟩:=List.pairwise_cons.1 h
  have zero:∀r:List Int,(∀x∈r,b≠x)→(r.map fun x=>if b=x then c else 0).sum=0:=fun r hr=>by
   induction r with
   | nil=>rfl
   | cons y r ih=>simp only[List.map_cons,List.sum_cons];rw[if_neg (hr y List.mem_cons_self),ih fun x hx=>hr x (List.mem_cons_of_mem _ hx)];omega
  simp only[List.map_cons,List.sum_cons]
  rcases List.mem_cons.1 hb with hb' | hb'
  ·rw[if_pos hb',zero r fun x hx=>by rw[hb'];exact h1 x hx];omega
  ·rw[if_neg (fun e=>h1 b hb' e.symm),ih h2 hb'];omega
theorem sum_groups {ks:List Int} (h:ks.Pairwise (· ≠ ·)) (bar:Nat→Int) (g:Nat→Int):∀js:List Nat,(∀j∈js,bar j∈ks)→(ks.map fun b=>sumI g (js.filter fun j=>decide (bar j=b))).sum=sumI g js
 | [],_=>by
  have:∀ks:List Int,(ks.map fun b=>sumI g (([]:List Nat).filter fun j=>decide (bar j=b))).sum=0:=fun ks=>by
   induction ks with
   | nil=>rfl
   | cons k r ih=>simp only[List.map_cons,List.sum_cons];rw[ih];rfl
  exact this ks
 | j::js,hj=>by
  have ih:=sum_groups h bar g js fun j' hj'=>hj j' (List.mem_cons_of_mem _ hj')
  rw[tW,← ih,← aQn h (c:=g j) (hj j List.mem_cons_self)]
  clear ih h hj
  induction ks with
  | nil=>rfl
  | cons k r ihk=>
   simp only[List.map_cons,List.sum_cons,List.filter_cons]
   have e:sumI g (if decide (bar j=k)=true then j::js.filter (fun j=>decide (bar j=k)) else js.filter (fun j=>decide (bar j=k)))=(if bar j=k then g j else 0)+sumI g (js.filter fun j=>decide (bar j=k)):=by
    by_cases hb:bar j=k
    ·rw[if_pos (by simpa using hb),if_pos hb,tW]
    ·rw[if_neg (by simpa using hb),if_neg hb];omega
   rw[e]
   simp only[List.filter_cons] at ihk
   omega
theorem usedM_wf (bars xs:List Int) (k:Int):∀i,(usedM bars xs k i).Wf
 | 0=>MapS.Wf.new
 | i+1=>by rw[usedM_succ];exact (usedM_wf bars xs k i).put _ _
theorem usedM_is (bars xs:List Int) (k n:Int):∀i,((usedM bars xs k i).get n).getD 0=sumI (fun j=>xs.getD j 0+k) ((List.range i).filter fun j=>decide (bars.getD j 0=n))
 | 0=>rfl
 | i+1=>by
  have ih:=usedM_is bars xs k n i
  rw[usedM_succ,useS,MapS.get_put,List.range_succ,List.filter_append]
  simp only[List.filter_cons,List.filter_nil]
  by_cases h:n=bars.getD i 0
  ·rw[if_pos h,if_pos (by simpa using h.symm),← h,ih]
   simp[sumI]
  ·rw[if_neg h,if_neg (by simpa using fun e=>h e.symm),ih]
   simp
theorem usedM_has (bars xs:List Int) (k:Int):∀i j,j<i→((usedM bars xs k i).get (bars.getD j 0)).isSome
 | i+1,j,h=>by
  rw[usedM_succ,useS,MapS.get_put]
  by_cases e:bars.getD j 0=bars.getD i 0
  ·rw[if_pos e];rfl
  ·rw[if_neg e]
   refine usedM_has bars xs k i j ?_
   by_cases e2:j=i
   ·subst e2;exact absurd rfl e
   ·omega
theorem sumI_range (f:Int→Int):∀xs:List Int,sumI (fun j=>f (xs.getD j 0)) (List.range xs.length)=(xs.map f).sum
 | []=>rfl
 | x::xs=>by
  have ih:=sumI_range f xs
  rw[List.length_cons,List.range_succ_eq_map,tW]
  simp only[sumI,List.map_map] at ih ⊢
  simp only[List.map_cons,List.sum_cons]
  rw[← ih]
  rfl
theorem sizesOk_fine {l:List Int} {a b:Int} (h:Fine l a b):aEn (pieces l) (b%20):=by
 have h1:=h.b0;have h2:=h.b1;have h3:=h.len
 refine ⟨by rw[pieces_len];omega,fun i hi=>?_,by omega,by omega⟩
 rw[pieces_len] at hi
 have:=h.el i hi
 rw[zX l i hi]
 omega
end NB
end
section
open Go Go.Proofs Go.Eng Go.Shelf IB Go.Lib Go.RowKit
namespace RB
def mkB (len cost:Int):Bar:=(60,180,len,10,cost,[])
theorem aR9 {len cost:Int} (h1:1≤len∧len≤65536) (h2:0≤cost∧cost≤1073741824):barE (mkB len cost)=0:=by
 unfold barE mkB
 rw[if_neg,if_neg (by simp)]
 ·rfl
 ·simp only[Bool.or_eq_true,outR,decide_eq_true_eq,not_or];omega
theorem aKd {len cost k:Int} (h:1≤len):capB k (mkB len cost)=len+k:=by
 unfold capB rV mkB
 show capS k (if 0<len then [(0,len)] else [])= _
 rw[if_pos (by omega)]
 simp[capS]
theorem aGo {k:Int} {l:List Bar} (hc:∀j,j<l.length→0<capB k (l.getD j (0,0,0,0,0,[]))∧0≤(l.getD j (0,0,0,0,0,[])).2.2.2.2.1):∀n,n<l.length→0<(aX k l (n+1)).2∧0≤(aX k l (n+1)).1∧∀j,j≤n→(aX k l (n+1)).1*capB k (l.getD j (0,0,0,0,0,[]))≤(l.getD j (0,0,0,0,0,[])).2.2.2.2.1*(aX k l (n+1)).2
 | 0,hn=>by
  obtain ⟨h1,h2⟩:=hc 0 hn
  have e:aX k l (0+1)=((l.getD 0 (0,0,0,0,0,[])).2.2.2.2.1,capB k (l.getD 0 (0,0,0,0,0,[]))):=if_pos ⟨h1,Or.inl rfl⟩
  rw[e]
  refine ⟨h1,h2,fun j hj=>?_⟩
  have:j=0:=by omega
  subst this
  exact Int.le_refl _
 | n+1,hn=>by
  obtain ⟨h1,h2⟩:=hc (n+1) hn
  obtain ⟨i1,i2,i3⟩:=aGo hc n (by omega)
  have e:aX k l (n+1+1)=if 0<capB k (l.getD (n+1) (0,0,0,0,0,[]))∧((aX k l (n+1)).2=0∨(l.getD (n+1) (0,0,0,0,0,[])).2.2.2.2.1*(aX k l (n+1)).2<(aX k l (n+1)).1*capB k (l.getD (n+1) (0,0,0,0,0,[]))) then ((l.getD (n+1) (0,0,0,0,0,[])).2.2.2.2.1,capB k (l.getD (n+1) (0,0,0,0,0,[]))) else aX k l (n+1):=rfl
  by_cases hlt:(l.getD (n+1) (0,0,0,0,0,[])).2.2.2.2.1*(aX k l (n+1)).2<(aX k l (n+1)).1*capB k (l.getD (n+1) (0,0,0,0,0,[]))
  ·rw[if_pos ⟨h1,Or.inr hlt⟩] at e
   rw[e]
   refine ⟨h1,h2,fun j hj=>?_⟩
   by_cases ej:j=n+1
   ·subst ej;exact Int.le_refl _
   ·have h3:=i3 j (by omega)
    have h4:=(hc j (by omega)).1
    generalize (l.getD (n+1) (0,0,0,0,0,[])).2.2.2.2.1=cn at*
    generalize capB k (l.getD (n+1) (0,0,0,0,0,[]))=pn at*
    generalize (l.getD j (0,0,0,0,0,[])).2.2.2.2.1=cj at*
    generalize capB k (l.getD j (0,0,0,0,0,[]))=pj at*
    generalize (aX k l (n+1)).1=b at*
    generalize (aX k l (n+1)).2=c at*
    show cn*pj≤cj*pn
    refine Int.le_of_mul_le_mul_right ?_ i1
    calc cn*pj*c=cn*c*pj:=by rw[Int.mul_right_comm]
     _≤b*pn*pj:=Int.mul_le_mul_of_nonneg_right (Int.le_of_lt hlt) (Int.le_of_lt h4)
     _=b*pj*pn:=by rw[Int.mul_right_comm]
     _≤cj*c*pn:=Int.mul_le_mul_of_nonneg_right h3 (Int.le_of_lt h1)
     _=cj*pn*c:=by rw[Int.mul_right_comm]
  ·rw[if_neg (fun h=>h.2.elim (by omega) hlt)] at e
   rw[e]
   refine ⟨i1,i2,fun j hj=>?_⟩
   by_cases ej:j=n+1
   ·subst ej;exact Int.not_lt.1 hlt
   ·exact i3 j (by omega)
def paid (f:Int→Int) (seen:List Nat):List (Nat × Int × Int)→Int
 | []=>0
 | e::r=>(if e.1∈seen then f e.2.1 else 0)+paid f seen r
theorem aGp (f:Int→Int):∀es,paid f [] es=0
 | []=>rfl
 | e::r=>by simp[paid,aGp f r]
theorem aB1 {f:Int→Int} {seen:List Nat} {b:Nat}:∀ {es:List (Nat × Int × Int)},(∀x∈es,x.1≠b)→paid f (seen++ [b]) es=paid f seen es
 | [],_=>rfl
 | x::r,h=>by
  have ih:=aB1 (f:=f) (seen:=seen) (b:=b) (es:=r) fun y hy=>h y (List.mem_cons_of_mem _ hy)
  have h1:=h x List.mem_cons_self
  simp only[paid,ih]
  congr 1
  by_cases hs:x.1∈seen
  ·rw[if_pos hs,if_pos (by simp[hs])]
  ·rw[if_neg hs,if_neg (by simp[hs,h1])]
theorem aGq {f:Int→Int} {seen:List Nat}:∀ {es:List (Nat × Int × Int)},es.Pairwise (fun a b=>a.1≠b.1)→∀ {e},e∈es→¬e.1∈seen→paid f (seen++ [e.1]) es=paid f seen es+f e.2.1
 | x::r,h,e,he,hs=>by
  obtain ⟨h1,h2⟩:=List.pairwise_cons.1 h
  rcases List.mem_cons.1 he with rfl | he
  ·simp only[paid]
   rw[if_pos (by simp),if_neg hs,aB1 fun y hy=>(h1 y hy).symm]
   omega
  ·have ih:=aGq (f:=f) h2 he hs
   have hx:x.1≠e.1:=h1 e he
   simp only[paid,ih]
   by_cases hxs:x.1∈seen
   ·rw[if_pos hxs,if_pos (by simp[hxs])];omega
   ·rw[if_neg hxs,if_neg (by simp[hxs,hx])];omega
theorem aGr {f:Int→Int} {seen:List Nat}:∀ {es:List (Nat × Int × Int)},(∀e∈es,e.1∈seen)→paid f seen es=(es.map fun e=>f e.2.1).sum
 | [],_=>rfl
 | x::r,h=>by
  simp only[paid,List.map_cons,List.sum_cons]
  rw[if_pos (h x List.mem_cons_self),aGr fun e he=>h e (List.mem_cons_of_mem _ he)]
theorem qQ {f:Int→Int} {seen:List Nat} {m:Int} (hf:∀n,0≤f n∧f n≤m):∀es:List (Nat × Int × Int),0≤paid f seen es∧paid f seen es≤m*es.length
 | []=>by simp[paid]
 | x::r=>by
  have ih:=qQ (seen:=seen) hf r
  have h1:=hf x.2.1
  simp only[paid,List.length_cons,Int.natCast_add,Int.mul_add]
  split<;>omega
theorem aN7 (plan xs:List Int) (k:Int):((NB.usedM plan xs k xs.length).es.map (·.2.2)).sum=sumX xs k:=by
 have hw:=NB.usedM_wf plan xs k xs.length
 have hp:((NB.usedM plan xs k xs.length).es.map (·.2.1)).Pairwise (· ≠ ·):=List.pairwise_map.2 hw.keys
 have h:=NB.sum_groups hp (fun j=>plan.getD j 0) (fun j=>xs.getD j 0+k) (List.range xs.length) fun j hj=>by
  obtain ⟨y,hy⟩:=Option.isSome_iff_exists.1 (NB.usedM_has plan xs k xs.length j (by simpa using hj))
  obtain ⟨e,he,h1,_⟩:=sC hy
  exact List.mem_map.2 ⟨e,he,h1⟩
 rw[NB.sumI_range (· +k)] at h
 have e:sumX xs k=(xs.map (· +k)).sum:=by
  unfold sumX NB.psum
  rw[List.take_length]
 rw[e,← h,List.map_map]
 congr 1
 refine List.map_congr_left fun x hx=>?_
 have h1:=aEl hw.keys hx
 have h2:=NB.usedM_is plan xs k x.2.1 xs.length
 rw[show (NB.usedM plan xs k xs.length).get x.2.1=some x.2.2 from h1] at h2
 exact h2
theorem aB2 {b c:Int} {f:Int→Int}:∀ {es:List (Nat × Int × Int)},(∀e∈es,b*e.2.2≤f e.2.1*c)→b*(es.map (·.2.2)).sum≤(es.map fun e=>f e.2.1).sum*c
 | [],_=>by simp
 | x::r,h=>by
  have ih:=aB2 (es:=r) fun e he=>h e (List.mem_cons_of_mem _ he)
  have h1:=h x List.mem_cons_self
  simp only[List.map_cons,List.sum_cons,Int.mul_add,Int.add_mul]
  omega
def fP (m g0 g1 g2 c0 c1 c2:Int):List Bar:=[]++ [((60:Int),(180:Int),m+0+g0,(10:Int),1+c0,([]:List Gp))]++ [(60,180,m+0+g1,10,1+c1,[])]++ [(60,180,m+0+g2,10,1+c2,[])]
theorem aLg {m g0 g1 g2 c0 c1 c2:Int} (hm:1≤m∧m≤256) (h0:0≤g0∧g0≤255) (h1:0≤g1∧g1≤255) (h2:0≤g2∧g2≤255) (k0:0≤c0∧c0≤255) (k1:0≤c1∧c1≤255) (k2:0≤c2∧c2≤255):
  ∀j,j<3→∃len cost,(fP m g0 g1 g2 c0 c1 c2).getD j (0,0,0,0,0,[])=mkB len cost∧(1≤len∧len≤65536)∧(0≤cost∧cost≤1000)
 | 0,_=>⟨m+0+g0,1+c0,rfl,by omega,by omega⟩
 | 1,_=>⟨m+0+g1,1+c1,rfl,by omega,by omega⟩
 | 2,_=>⟨m+0+g2,1+c2,rfl,by omega,by omega⟩
 | j+3,h=>absurd h (by omega)
theorem qC {l:List Bar}:∀(n i:Nat),(∀j,i≤j→j<i+n→barE (l.getD j (0,0,0,0,0,[]))=0)→lG l n i=0
 | 0,_,_=>rfl
 | n+1,i,h=>by
  unfold lG
  rw[if_neg (fun hn=>hn (h i (Nat.le_refl _) (by omega)))]
  exact qC n (i+1) fun j h1 h2=>h j (by omega) (by omega)
section
variable {m g0 g1 g2 c0 c1 c2 k:Int} {xs plan:List Int}
def oB (Y:List Bar) (n:Int):Int:=(Y.getD (n%3).toNat (0,0,0,0,0,[])).2.2.2.2.1
def fitC (Y:List Bar) (plan xs:List Int) (k:Int):Prop:=∀e∈(NB.usedM plan xs k xs.length).es,e.2.2≤(Y.getD (e.2.1%3).toNat (0,0,0,0,0,[])).2.2.1+k
theorem aRf (hm:1≤m∧m≤256) (h0:0≤g0∧g0≤255) (h1:0≤g1∧g1≤255) (h2:0≤g2∧g2≤255) (k0:0≤c0∧c0≤255) (k1:0≤c1∧c1≤255) (k2:0≤c2∧c2≤255) (hp:NB.piecesE xs k=0):
  ∃q:Rat,lH xs (fP m g0 g1 g2 c0 c1 c2) k=(numS q,0)∧Sz 30 q∧(fitC (fP m g0 g1 g2 c0 c1 c2) plan xs k→q≤(((NB.usedM plan xs k xs.length).es.map fun e=>oB (fP m g0 g1 g2 c0 c1 c2) e.2.1).sum:Int)):=by
 have hy:=aLg hm h0 h1 h2 k0 k1 k2
 have hyl:(fP m g0 g1 g2 c0 c1 c2).length=3:=rfl
 generalize fP m g0 g1 g2 c0 c1 c2=Y at hy hyl
 obtain ⟨x1,x2,hk0,hk1⟩:=tP hp
 have hbk:∀j,j<Y.length→barE (Y.getD j (0,0,0,0,0,[]))=0:=fun j hj=>by
  obtain ⟨len,cost,e,q1,q2⟩:=hy j (by omega)
  rw[e];exact aR9 q1 (by omega)
 have hb:pV Y=0:=by
  unfold pV
  rw[if_neg (by omega)]
  exact qC _ _ fun j _ hj=>hbk j (by omega)
 have hcap:∀j,j<Y.length→0<capB k (Y.getD j (0,0,0,0,0,[]))∧0≤(Y.getD j (0,0,0,0,0,[])).2.2.2.2.1:=fun j hj=>by
  obtain ⟨len,cost,e,q1,q2⟩:=hy j (by omega)
  rw[e,aKd q1.1]
  exact ⟨by omega,q2.1⟩
 have hbm:=aGo hcap 2 (by omega)
 have hbr:=nX ⟨hk0,hk1⟩ hbk 3 (by omega)
 have hsx:=zF hp
 unfold lH
 rw[if_neg (fun h=>h hp),if_neg (fun h=>h hb)]
 by_cases hx0:xs.length=0
 ·rw[if_pos hx0]
  refine ⟨0,by rw[numS0],⟨by decide,by decide⟩,fun _=>?_⟩
  have:(NB.usedM plan xs k xs.length).es= []:=by rw[hx0];rfl
  rw[this]
  exact Rat.le_refl
 ·rw[if_neg hx0,hyl,if_neg (by have:=hbm.1;exact fun h=>by rw[h] at this;exact absurd this (by decide))]
  obtain ⟨m1,m2,m3⟩:=hbm
  have e3:2+1=3:=rfl
  rw[e3] at m1 m2 m3
  generalize (aX k Y 3).1=b at*
  generalize (aX k Y 3).2=c at*
  refine ⟨_,rfl,?_,fun hf=>?_⟩
  ·exact (Sz.mul (rW (k:=11) m1 (sz11 hbr.1.1 hbr.1.2) (sz11 (by omega) (by omega))) (uH (k:=11) (sz11 (by omega) (by omega)) (by decide))).mono (by decide)
  ·have hsum:=aB2 (b:=b) (c:=c) (f:=oB Y) (es:=(NB.usedM plan xs k xs.length).es) fun e he=>by
    have hj:(e.2.1%3).toNat<3:=by omega
    obtain ⟨len,cost,e1,q1,q2⟩:=hy _ hj
    have h3:=m3 _ (show (e.2.1%3).toNat≤2 by omega)
    have h4:=hf e he
    unfold oB
    rw[e1,aKd q1.1] at h3
    rw[e1] at h4 ⊢
    have h4:e.2.2≤len+k:=h4
    exact Int.le_trans (Int.mul_le_mul_of_nonneg_left h4 m2) h3
   rw[aN7] at hsum
   generalize ((NB.usedM plan xs k xs.length).es.map fun e=>oB Y e.2.1).sum=T at*
   generalize sumX xs k=s at*
   have hc:(0:Rat)<(c:Rat):=by exact_mod_cast m1
   have h5:((b:Rat)*(s:Rat))≤(T:Rat)*(c:Rat):=by exact_mod_cast hsum
   rw[Rat.divInt_eq_div]
   have h6:(b:Rat)/(c:Rat)*(s:Rat)*(c:Rat)=(b:Rat)*(s:Rat):=by
    have:=Rat.div_mul_cancel (a:=(b:Rat)) (b:=(c:Rat)) (fun e=>by rw[e] at hc;exact Rat.lt_irrefl hc)
    grind
   exact Rat.le_of_mul_le_mul_right (by rw[h6];exact h5) hc
end
theorem ix8 {n:Int} {C:Nat→Prop} (j:Nat) (e:n=(j:Int)) (h:C j):Ix n C:=by
 refine ⟨fun i e'=>?_⟩
 have:j=i:=by omega
 subst this;exact h
set_option maxHeartbeats 4000000 in
theorem b2010 (l p:List Int) (b g0 g1 g2 c0 c1 c2:Int) (hl:Okd (.slice (.int .u8)) l) (hp:Okd (.slice (.int .u8)) p) (hb:inK .u8 b) (hg:inK .u8 g0∧inK .u8 g1∧inK .u8 g2) (hc:inK .u8 c0∧inK .u8 c1∧inK .u8 c2):body Tryz.prog [NB.c11,NB.c18,aPt,c22,c38n] { asks:=[(2,[]),(4,[])] } true Tryz.f10 [NB.Bs l,NB.Bs p,NB.U b,.agg [NB.U g0,NB.U g1,NB.U g2],.agg [NB.U c0,NB.U c1,NB.U c2]] (.val (.bool true)):=by
 by_cases h8:8<l.length
 ·(repeat' first|refine ZR ?_|refine Zg fun _=>?_)
  (conv=>whnf)
 by_cases hpl:p.length=l.length
 case neg=>
  (repeat' first|refine ZR ?_|refine Zg fun _=>?_)
  (conv=>whnf)
 have hf:NB.Fine l 0 b:=NB.fine_of (by omega) hl ⟨by decide,by decide⟩ hb
 have hf2:=hf.el
 have hb1:=hf.b0
 have hb2:=hf.b1
 have hmr:=NB.most_range hf
 have hcon:l.length≤8∧(∀i,i<l.length→0≤l.getD i 0∧l.getD i 0≤255)∧(0:Int)≤0∧(0:Int)≤255∧0≤b∧b≤255:=⟨by omega,hf2,by decide,by decide,hb1,hb2⟩
 have u8:∀ {z:Int},inK .u8 z→0≤z∧z≤255:=fun {z} h=>h
 have hg0:=u8 hg.1
 have hg1:=u8 hg.2.1
 have hg2:=u8 hg.2.2
 have hc0:=u8 hc.1
 have hc1:=u8 hc.2.1
 have hc2:=u8 hc.2.2
 have hz:=NB.fine_check0 hf
 have ho:=NB.okx_of hz
 have hpe:NB.piecesE (NB.pieces l) (b%20)=0:=by
  unfold NB.checkE at hz
  split at hz
  ·rename_i h;exact absurd hz h
  ·rename_i h;exact Classical.not_not.1 h
 have hs:=NB.sizesOk_fine hf
 have hsz2:=hs.2.1
 have hpln:=NB.pieces_len l
 obtain ⟨q,hq,hqs,hql⟩:=aRf (plan:=p) hmr hg0 hg1 hg2 hc0 hc1 hc2 hpe
 (repeat' first|refine ZR ?_|refine Zg fun _=>?_)
 refine Br.mkN (fun hn=>hn (congrArg Prod.snd hq)) ?_
 (repeat'((conv=>whnf);first|refine Zg fun _=>?_|fail))
 refine Ask.mk ⟨{ X:=Nat,pre:=fun i=>i≤(NB.pieces l).length,mod:=fun i _=>[(79,I i)],heap:=fun i H=>hset (hset H 2 (.vec 4 tB (fP (NB.most l) g0 g1 g2 c0 c1 c2) 66)) 3 (.map .u8 (.int .i64) (NB.usedM p (NB.pieces l) (b%20) i)),mu:=fun i=>(NB.pieces l).length-i },rfl,?_⟩
 (repeat' first|refine ZG ?_|fail)
 refine ⟨⟨(0:Nat),Nat.zero_le _,by (repeat' first|exact trivial|rfl|refine And.intro ?_ ?_)⟩,fun (i:Nat) (hi:i≤(NB.pieces l).length)=>?_⟩
 obtain ⟨hr,hln⟩:=NB.usedM_range (bars:=p) hs i hi
 by_cases hlt:i<(NB.pieces l).length
 ·have h5:=hsz2 i hlt
  have h6:=NB.usedM_get (bars:=p) hs hi (p.getD i 0)
  (repeat' first|refine ZR ?_|refine Zg fun _=>?_)
  refine ⟨(i+1:Nat),by show (NB.pieces l).length-(i+1)<(NB.pieces l).length-i;omega,hlt,?_⟩
  (repeat' first|exact trivial|rfl|refine And.intro ?_ ?_)
  all_goals exact (NB.usedM_succ p (NB.pieces l) (b%20) i).symm
 ·have e:i=(NB.pieces l).length:=by omega
  subst e
  have hy:=aLg hmr hg0 hg1 hg2 hc0 hc1 hc2
  have hyl:(fP (NB.most l) g0 g1 g2 c0 c1 c2).length=3:=rfl
  have hcf:∀n,0≤oB (fP (NB.most l) g0 g1 g2 c0 c1 c2) n∧oB (fP (NB.most l) g0 g1 g2 c0 c1 c2) n≤1000:=fun n=>by
   obtain ⟨len,cost,ey,_,cy⟩:=hy (n%3).toNat (by omega)
   unfold oB;rw[ey];exact cy
  have hes:=hln
  (repeat' first|refine ZR ?_|refine Zg fun _=>?_)
  rename_i hwf
  refine Ask.mk ⟨{ X:=List Nat,pre:=fun seen=>∀e∈(NB.usedM p (NB.pieces l) (b%20) (NB.pieces l).length).es,e.1∈seen→e.2.2≤((fP (NB.most l) g0 g1 g2 c0 c1 c2).getD (e.2.1%3).toNat (0,0,0,0,0,[])).2.2.1+b%20,mod:=fun seen _=>[(22,I (paid (oB (fP (NB.most l) g0 g1 g2 c0 c1 c2)) seen (NB.usedM p (NB.pieces l) (b%20) (NB.pieces l).length).es))],heap:=fun seen H=>hset H 4 (.mit 3 (NB.usedM p (NB.pieces l) (b%20) (NB.pieces l).length).clock seen (NB.usedM p (NB.pieces l) (b%20) (NB.pieces l).length).clock),mu:=fun seen=>NB.unseen (NB.usedM p (NB.pieces l) (b%20) (NB.pieces l).length).es seen },rfl,?_⟩
  (repeat' first|refine ZG ?_|fail)
  refine ⟨⟨([]:List Nat),by simp,?_⟩,fun (seen:List Nat) hsn=>?_⟩
  ·(repeat' first|exact trivial|rfl|refine And.intro ?_ ?_)
   all_goals exact (aGp _ _).symm
  refine Need.mk ⟨hwf.born,Nat.le_refl _⟩ ?_
  refine ⟨fun hfin=>?_,fun e he hes=>?_⟩
  ·have hfit:fitC (fP (NB.most l) g0 g1 g2 c0 c1 c2) p (NB.pieces l) (b%20):=fun e he=>hsn e he (hfin e he)
   have hpa:paid (oB (fP (NB.most l) g0 g1 g2 c0 c1 c2)) seen (NB.usedM p (NB.pieces l) (b%20) (NB.pieces l).length).es=((NB.usedM p (NB.pieces l) (b%20) (NB.pieces l).length).es.map fun e=>oB (fP (NB.most l) g0 g1 g2 c0 c1 c2) e.2.1).sum:=aGr hfin
   have hql:=hql hfit
   rw[hpa]
   generalize hT:((NB.usedM p (NB.pieces l) (b%20) (NB.pieces l).length).es.map fun e=>oB (fP (NB.most l) g0 g1 g2 c0 c1 c2) e.2.1).sum=T at*
   have hTr:=qQ (seen:=seen) hcf (NB.usedM p (NB.pieces l) (b%20) (NB.pieces l).length).es
   rw[hpa] at hTr
   have hTs:Sz 11 (T:Rat):=uH (sz11 (by omega) (by omega)) (by decide)
   have hof:ofQ T 1=(numS (T:Rat),0):=by rw[aKb,dL]
   have ho2:(ofQ T 1).2=0:=by rw[hof]
   have hcm:cmpQ (lH (NB.pieces l) (fP (NB.most l) g0 g1 g2 c0 c1 c2) (b%20)).1 (ofQ T 1).1=(cmpR q (T:Rat),0):=by
    rw[hq,hof];exact aJa hqs hTs (by decide) (by decide) (by decide)
   have hle:cmpR q (T:Rat)≤0:=(aQ6 _ _).2 hql
   (repeat' first|refine ZR ?_|fail)
   (conv=>whnf)
  ·have hj:(e.2.1%3).toNat<3:=by omega
   obtain ⟨len,cost,ey,ly,cy⟩:=hy (e.2.1%3).toNat hj
   have hl0:1≤((fP (NB.most l) g0 g1 g2 c0 c1 c2).getD (e.2.1%3).toNat (0,0,0,0,0,[])).2.2.1∧((fP (NB.most l) g0 g1 g2 c0 c1 c2).getD (e.2.1%3).toNat (0,0,0,0,0,[])).2.2.1≤65536:=by rw[ey];exact ly
   have hc0:0≤((fP (NB.most l) g0 g1 g2 c0 c1 c2).getD (e.2.1%3).toNat (0,0,0,0,0,[])).2.2.2.2.1∧((fP (NB.most l) g0 g1 g2 c0 c1 c2).getD (e.2.1%3).toNat (0,0,0,0,0,[])).2.2.2.2.1≤1000:=by rw[ey];exact cy
   have hrg:=qQ (seen:=seen) hcf (NB.usedM p (NB.pieces l) (b%20) (NB.pieces l).length).es
   (repeat' first|refine ZG ?_|refine Zg fun _=>?_)
   refine ⟨e,⟨he,by simp⟩,?_⟩
   (repeat' first|refine ZR ?_|refine Zg fun _=>?_)
   refine ix8 (e.2.1%3).toNat (Int.toNat_of_nonneg (Int.emod_nonneg _ (by decide))).symm ?_
   (repeat' first|refine ZR ?_|refine Zg fun _=>?_)
   (refine Br.mk (fun _=>?_) (fun _=>?_))
   ·skip
    (conv=>whnf)
   ·rename_i hgt
    (repeat' first|refine ZR ?_|fail)
    refine ⟨(seen++ [e.1]:List Nat),NB.unseen_less hes he,?_,?_⟩
    ·intro f hf hs
     rcases List.mem_append.1 hs with hs | hs
     ·exact hsn f hf hs
     ·have:f=e:=NB.born_one hwf.times hf he (List.mem_singleton.1 hs)
      rw[this];omega
    ·(repeat' first|exact trivial|rfl|refine And.intro ?_ ?_)
     all_goals exact (aGq hwf.times he hes).symm
theorem t2010 (l p:List Int) (b g0 g1 g2 c0 c1 c2:Int) (hl:Okd (.slice (.int .u8)) l) (hp:Okd (.slice (.int .u8)) p) (hb:inK .u8 b) (hg:inK .u8 g0∧inK .u8 g1∧inK .u8 g2) (hc:inK .u8 c0∧inK .u8 c1∧inK .u8 c2):Tri Tryz.prog true 10 [NB.Bs l,NB.Bs p,NB.U b,.agg [NB.U g0,NB.U g1,NB.U g2],.agg [NB.U c0,NB.U c1,NB.U c2]] (.val (.bool true)):=
 aB (by simp[NB.k11,NB.k18,k2055,k22,k38n]) Tryz.func10 (by simp[Tryz.ntmps10]) rfl (b2010 l p b g0 g1 g2 c0 c1 c2 hl hp hb hg hc)
end RB
end

/-
  Part 7: a symbolic executor over the model, contracts of functions and plain laws.
-/
import Derived.Test.YtabmgmflgfoleaaGreatDoorP6
import Init.Data.Rat
section
open Go Go.Proofs Go.Eng Go.Shelf IB Go.Lib Go.RowKit
namespace RB
set_option maxRecDepth 10000
set_option linter.unusedVariables false
set_option linter.unusedSimpArgs false
theorem nat10_cons (c:UInt8) (r:List UInt8):aC (c::r)=aC [c]*10^r.length+aC r:=jG [c] r
theorem aBi (c:UInt8):aC [c]=c.toNat-48:=by simp[aC]
theorem yN:∀(x y:List UInt8),x.length=y.length→(∀c∈x,aS c)→(∀c∈y,aS c)→(Op.bytesLess x y=true↔aC x<aC y)
 | [],[],_,_,_=>by simp[Op.bytesLess]
 | [],_:: _,h,_,_=>by simp at h
 | _:: _,[],h,_,_=>by simp at h
 | a::x,b::y,h,hx,hy=>by
  have hl:x.length=y.length:=by simpa using h
  have ih:=yN x y hl (fun c hc=>hx c (List.mem_cons_of_mem _ hc)) (fun c hc=>hy c (List.mem_cons_of_mem _ hc))
  have ha:aS a:=hx a (List.mem_cons_self ..)
  have hb:aS b:=hy b (List.mem_cons_self ..)
  have vx:=bP x (fun c hc=>hx c (List.mem_cons_of_mem _ hc))
  have vy:=bP y (fun c hc=>hy c (List.mem_cons_of_mem _ hc))
  rw[nat10_cons a x,nat10_cons b y,aBi,aBi,hl]
  rw[hl] at vx
  unfold aS at ha hb
  simp only[Op.bytesLess,Bool.or_eq_true,decide_eq_true_eq,Bool.and_eq_true,beq_iff_eq,ih]
  obtain ⟨P,hP⟩:∃P,(10:Nat)^y.length=P:=⟨_,rfl⟩
  rw[hP] at vx vy ⊢
  constructor
  ·rintro (h1 | ⟨rfl,h1⟩)
   ·have h2:a.toNat<b.toNat:=UInt8.lt_iff_toNat_lt.1 h1
    have h3:(a.toNat-48+1)*P≤(b.toNat-48)*P:=Nat.mul_le_mul_right _ (by omega)
    rw[Nat.add_mul] at h3
    omega
   ·omega
  ·intro h1
   by_cases e:a=b
   ·subst e;exact .inr ⟨rfl,by omega⟩
   ·left
    refine UInt8.lt_iff_toNat_lt.2 ?_
    refine Nat.lt_of_not_le fun h2=>?_
    have h4:a.toNat≠b.toNat:=fun h=>e (UInt8.toNat_inj.1 h)
    have h3:(b.toNat-48+1)*P≤(a.toNat-48)*P:=Nat.mul_le_mul_right _ (by omega)
    rw[Nat.add_mul] at h3
    omega
def uO:List UInt8:=[52,54,49,49,54,56,54,48,49,56,52,50,55,51,56,55,57,48,52]
theorem mostS_val:aC uO=4611686018427387904:=by decide
theorem aRw (D:List UInt8) {i:Nat} (hi:i≤D.length):gfx D 0 i≤aC D:=by
 unfold gfx
 rw[List.drop_zero]
 conv=>rhs;rw[← List.take_append_drop i D,jG]
 have:0<10^ (D.drop i).length:=Nat.pow_pos (by omega)
 have h:=Nat.mul_le_mul_left (aC (D.take i)) this
 omega
theorem b32 (a:List UInt8):body Tryz.prog [c44,c73] { asks:=[(0,[])] } true Tryz.f93 [S a] (.tup [I (inQ a).1,I (inQ a).2]):=by
 by_cases hc:chkQ a=0
 ·obtain ⟨e,hq⟩:=eK hc
  obtain ⟨q,hqe⟩:∃q,valQ a=q:=⟨_,rfl⟩
  rw[hqe] at e hq
  have hin:inQ a=if q.den=1 then (if q.num < -4611686018427387904∨4611686018427387904<q.num then (0,2) else (q.num,0)) else (0,8):=by
   unfold inQ;rw[if_pos hc,hqe]
  have e1:digs (topS a)=decDigits q.num.natAbs:=by rw[e,fF,bN]
  have e2:a.headD 0=45↔q.num<0:=by rw[e,qP,lt0]
  have e4:botS a=if q.den=1 then [] else 47::decDigits q.den:=by rw[e];exact gO q
  obtain ⟨D,hD⟩:∃D,digs (topS a)=D:=⟨_,rfl⟩
  have hdig:∀c∈digs (topS a),aS c:=by rw[e1];exact fun c hc=>fP _ c hc
  have hval:aC (digs (topS a))=q.num.natAbs:=by rw[e1,bV]
  by_cases hd:q.den=1
  ·rw[if_pos hd] at hin
   have hb:¬ ¬botS a= []:=by rw[e4,if_pos hd];simp
   by_cases hbig:q.num < -4611686018427387904∨4611686018427387904<q.num
   ·rw[if_pos hbig] at hin
    rw[hin]
    have hlen:19≤(digs (topS a)).length:=by
     refine Nat.le_of_not_lt fun h=>?_
     have h1:=bP _ hdig
     have h2:10^ (digs (topS a)).length≤10^18:=cD (by omega)
     have h3:(10:Nat)^18=1000000000000000000:=by decide
     omega
    skip
    refine Br.mkN (fun h=>h hc) ?_
    skip
    refine Br.mkN hb ?_
    by_cases h20:19<(digs (topS a)).length
    ·(repeat'((conv=>whnf);first|refine Zg fun _=>?_|refine Zy ?_|fail))
     (conv=>whnf)
     (repeat'(first|exact trivial|rfl|refine And.intro ?_ ?_|fail))
    ·have h19:(digs (topS a)).length=19:=by omega
     have hless:=yN (digs (topS a)) uO h19 hdig (by decide)
     have hgt:¬Op.bytesLess (digs (topS a)) uO=true∧¬digs (topS a)=uO:=by
      rw[hless,hval,mostS_val]
      refine ⟨by omega,fun h=>?_⟩
      rw[h,mostS_val] at hval
      omega
     (repeat'((conv=>whnf);first|refine Zg fun _=>?_|refine Zy ?_|refine Zm ?_|fail))
     (conv=>whnf)
     (repeat'(first|exact trivial|rfl|refine And.intro ?_ ?_|fail))
   ·rw[if_neg hbig] at hin
    rw[hin]
    have hlen:(digs (topS a)).length≤19:=by
     rw[e1]
     exact IB.fO 18 _ (by omega)
    skip
    refine Br.mkN (fun h=>h hc) ?_
    skip
    refine Br.mkN hb ?_
    have hcase:(digs (topS a)).length≤18∨((digs (topS a)).length=19∧¬(¬Op.bytesLess (digs (topS a)) uO=true∧¬digs (topS a)=uO)):=by
     by_cases h18:(digs (topS a)).length≤18
     ·exact .inl h18
     ·have h19:(digs (topS a)).length=19:=by omega
      refine .inr ⟨h19,fun h=>?_⟩
      have hless:=yN (digs (topS a)) uO h19 hdig (by decide)
      rw[hless,hval,mostS_val] at h
      have h2:q.num.natAbs=4611686018427387904:=by omega
      refine h.2 ?_
      rw[e1,h2]
      exact (congrArg decDigits mostS_val.symm).trans (jR _ uO rfl (by decide) (by decide) (.inr (by decide)))
    have hgl:∀i,i≤(digs (topS a)).length→gfx (digs (topS a)) 0 i≤4611686018427387904:=fun i hi=>by
     have:=aRw (digs (topS a)) hi
     omega
    rcases hcase with h18 | ⟨h19,hng⟩
    all_goals (repeat'((conv=>whnf);first|refine Zg fun _=>?_|refine Zy ?_|refine Zm ?_|fail))
    all_goals
     refine Ask.mk ⟨{ X:=Nat,pre:=fun i=>i≤(digs (topS a)).length,mod:=fun i _=>[(9,I (gfx (digs (topS a)) 0 i)),(10,I i)],heap:=fun _ _=>[],mu:=fun i=>(digs (topS a)).length-i },rfl,?_⟩
     (repeat'((conv=>whnf);first|refine Zn ?_|fail))
     refine ⟨⟨(0:Nat),Nat.zero_le _,?_⟩,fun (i:Nat) (hi:i≤(digs (topS a)).length)=>?_⟩
     ·(repeat'(first|exact trivial|rfl|refine And.intro ?_ ?_|fail))
      all_goals (rw[sA];rfl)
     by_cases hlt:i<(digs (topS a)).length
     ·have hg:=hgl (i+1) hlt
      obtain ⟨e1,e2⟩:=vB hdig (Nat.zero_le _) hlt
      (repeat'((conv=>whnf);first|refine Zg fun _=>?_|refine Zn ?_|refine Zj ?_|refine Zy ?_|fail))
      refine ⟨(i+1:Nat),by show (digs (topS a)).length-(i+1)<(digs (topS a)).length-i;omega,hlt,?_⟩
      (repeat'(first|exact trivial|rfl|refine And.intro ?_ ?_|omega|fail))
     ·have e:i=(digs (topS a)).length:=by omega
      subst e
      have hga:=aJp (digs (topS a))
      have hgb:=hgl _ (Nat.le_refl _)
      (repeat'((conv=>whnf);first|refine Zg fun _=>?_|refine Zm ?_|fail))
      by_cases hn:q.num<0
      ·refine Br.mkY (e2.2 hn) ?_
       (repeat'((conv=>whnf);first|refine Zn ?_|fail))
       (conv=>whnf)
       (repeat'(first|exact trivial|rfl|refine And.intro ?_ ?_|fail))
       (conv=>whnf)
       have hv:=hval
       omega
      ·refine Br.mkN (fun h=>hn (e2.1 h)) ?_
       skip
       (conv=>whnf)
       (repeat'(first|exact trivial|rfl|refine And.intro ?_ ?_|fail))
       (conv=>whnf)
       have hv:=hval
       omega
  ·rw[if_neg hd] at hin
   rw[hin]
   skip
   refine Br.mkN (fun h=>h hc) ?_
   skip
   refine Br.mkY (by rw[e4,if_neg hd];simp) ?_
   skip
   (conv=>whnf)
   (repeat'(first|exact trivial|rfl|refine And.intro ?_ ?_|fail))
 ·have hin:inQ a=(0,chkQ a):=by unfold inQ;rw[if_neg hc]
  rw[hin]
  skip
  refine Br.mkY hc ?_
  skip
  (conv=>whnf)
  (repeat'(first|exact trivial|rfl|refine And.intro ?_ ?_|fail))
def c32:Con:=aJ 93 true fun args K=>match args with | [.str a]=>K (.tup [I (inQ a).1,I (inQ a).2]) | _=>False
theorem k32:aF Tryz.prog c32:=by
 refine aD rfl (enters_of Tryz.func93 (by kernel_rfl) rfl) ?_
 intro args K h
 simp only[c32] at h
 split at h
 ·rename_i a;exact ⟨_,h,aA (Γ:=[c44,c73]) (by simp[k44,k73]) Tryz.func93 (by simp[Tryz.ntmps93]) rfl (b32 a)⟩
 ·exact h.elim
def aJ0:Con:=aJ 163 false fun args K=>match args with
 | [.agg [.bl p hp,.seq (.int .i64) a],.agg [.bl q hq,.seq (.int .i64) b]]=>Need (gU p a∧gU q b) (K (.agg [.bl (@addS p (valB B6 a).toNat q (valB B6 b).toNat hp hq) inferInstance,Ls (aB B6 (@addN p hp (valB B6 a).toNat q hq (valB B6 b).toNat))]))
 | [.agg [.bl p hp,.seq (.int .i64) a],.agg [.val (.bool true),.seq (.int .i64) b]]=>Need (gU p a∧gU True b) (K (.agg [.bl (@addS p (valB B6 a).toNat True (valB B6 b).toNat hp inferInstance) inferInstance,Ls (aB B6 (@addN p hp (valB B6 a).toNat True inferInstance (valB B6 b).toNat))]))
 | _=>False
theorem k114g:aF Tryz.prog aJ0:=by
 refine aD rfl (enters_of Tryz.func163 (by kernel_rfl) rfl) ?_
 intro args K h
 simp only[aJ0] at h
 split at h
 ·rename_i p hp a q hq b
  refine ⟨_,h.go,?_⟩
  obtain ⟨⟨ha,hm,hpm⟩,hb,hn,hqn⟩:=h.ok
  have ht:=aA (Γ:=[c147,c146,c144]) (by simp[k147,k146,k144]) Tryz.func163 (by simp[Tryz.ntmps163]) rfl (b114 p hp (valB B6 a).toNat q hq (valB B6 b).toNat hm hn hpm hqn)
  rw[ha,hb] at ht
  exact ht
 ·rename_i p hp a b
  refine ⟨_,h.go,?_⟩
  obtain ⟨⟨ha,hm,hpm⟩,hb,hn,hqn⟩:=h.ok
  have ht:=aA (Γ:=[c147,c146,c144]) (by simp[k147,k146,k144]) Tryz.func163 (by simp[Tryz.ntmps163]) rfl (b114 p hp (valB B6 a).toNat True inferInstance (valB B6 b).toNat hm hn hpm hqn)
  rw[ha,hb] at ht
  refine rT (args:=[.agg [.bl p hp,Ls a],.agg [.bl True inferInstance,Ls b]]) ht ⟨⟨Iff.rfl,rfl,trivial⟩,⟨trivial,?_,trivial⟩,trivial⟩
  rfl
 ·exact h.elim
theorem aBj {A N:Nat} (hN:0<N) (h:¬(N:Int) ∣ (A:Int)):(-(A:Int))/(N:Int)= -((A/N:Nat):Int)-1:=by
 have h1:A%N≠0:=fun e=>h (Int.ofNat_dvd.2 (Nat.dvd_of_mod_eq_zero e))
 have h2:=Nat.div_add_mod A N
 have h3:=Nat.mod_lt A hN
 have h4:(A:Int)=(N:Int)*((A/N:Nat):Int)+((A%N:Nat):Int):=by rw[← Int.natCast_mul,← Int.natCast_add,h2]
 have h5: -(A:Int)=((N-A%N:Nat):Int)+(N:Int)*(-((A/N:Nat):Int)-1):=by
  rw[Int.mul_sub,Int.mul_neg,Int.mul_one,Int.natCast_sub (by omega)]
  omega
 rw[h5,Int.add_mul_ediv_left _ _ (by omega),Int.ediv_eq_zero_of_lt (by omega) (by omega)]
 omega
theorem aOc:gU True [1]∧valB B6 [1]=1:=by
 have e:([1]:List Int)=aB B6 1:=by simp[aB,B6]
 have v:valB B6 [1]=1:=by simp[valB]
 exact ⟨⟨by rw[e];exact bZ 1,by rw[v];exact Nat.one_lt_pow (by decide) (by decide),fun _=>by rw[v];decide⟩,v⟩
theorem aPy (p:Prop) [Decidable p] (x y:Nat) (hy:y=1) (h:p∨x=0):sgP (addS p x True y) (valB B6 (aB B6 (addN p x True y)))= -(x:Int)-1:=by
 subst hy
 rw[v6,yK]
 unfold sgP
 rw[if_pos trivial]
 rcases h with h | h
 ·rw[if_pos h];rfl
 ·rw[h];split<;>rfl
set_option maxHeartbeats 8000000 in
theorem b71n (a b:List UInt8) (h:chkI a=0∧chkI b=0∧0<valI b) (hdv:¬valI b ∣ valI a):body Tryz.prog [c110,c111,c61,c112,c113,aJ0,c115,c116] {} true Tryz.f199 [S a,S b] (.tup [S (itoa (valI a/valI b)),.any,I 0]):=by
 obtain ⟨ha,hb,hpos⟩:=h
 obtain ⟨fa,la⟩:=bD ha
 obtain ⟨fb,lb⟩:=bD hb
 have zA:=dF fa la
 have zB:=dF fb lb
 have hab:form a∧form b:=⟨fa,fb⟩
 have ra:form a∧(digs a).length≤600:=⟨fa,by omega⟩
 have rb:form b∧(digs b).length≤600:=⟨fb,by omega⟩
 have hc2:¬chk2 a b≠0:=by
  unfold chk2
  rw[if_neg (by rw[ha];simp),hb];simp
 have hb0:¬b= [48]:=fun e=>by rw[e] at hpos;revert hpos;decide
 have hbn:¬b.headD 0=45:=fun e=>by
  rw[cH] at hpos
  unfold sgP at hpos
  rw[if_pos e] at hpos
  omega
 have vb:valI b=(aC (digs b):Int):=by rw[cH];unfold sgP;rw[if_neg hbn]
 have hA:valI a=if a.headD 0=45 then -(aC (digs a):Int) else (aC (digs a):Int):=by
  rw[cH];unfold sgP;rfl
 have hNb:0<aC (digs b):=by omega
 have hd:¬(aC (digs b):Int) ∣ (aC (digs a):Int):=by
  intro h
  refine hdv ?_
  rw[vb,hA]
  split
  ·exact Int.dvd_neg.2 h
  ·exact h
 have hr1:aC (digs a)%aC (digs b)≠0:=fun e=>hd (Int.ofNat_dvd.2 (Nat.dvd_of_mod_eq_zero e))
 have hfl:valI a/valI b=if a.headD 0=45 then -((aC (digs a)/aC (digs b):Nat):Int)-1 else ((aC (digs a)/aC (digs b):Nat):Int):=by
  rw[hA,vb]
  split
  ·exact aBj hNb hd
  ·exact Int.natCast_ediv _ _
 skip
 refine Br.mkN (show ¬ ¬chk2 a b=0 from hc2) ?_
 skip
 refine Br.mkN hb0 ?_
 (repeat'((conv=>whnf);first|refine Zn ?_|fail))
 (refine Br.mk (fun _=>?_) (fun _=>?_))
 ·rename_i hs
  have h1:=eA fa hs.1
  have h2:=eA fb hs.2
  have t0:(valI a).tmod (valI b)≠0:=fun e=>hdv (Int.dvd_iff_tmod_eq_zero.2 e)
  have q1:aC (digs a)/aC (digs b)≤aC (digs a):=Nat.div_le_self _ _
  have q2:aC (digs a)%aC (digs b)<aC (digs b):=Nat.mod_lt _ hNb
  by_cases hn:a.headD 0=45
  ·have hv:valI a= -(aC (digs a):Int):=by rw[hA,if_pos hn]
   have t1:(valI a).tmod (valI b)= -((aC (digs a)%aC (digs b):Nat):Int):=by rw[hv,vb,Int.neg_tmod,Int.tmod_eq_emod_of_nonneg (by omega)];rfl
   have t2:(valI a).tdiv (valI b)= -((aC (digs a)/aC (digs b):Nat):Int):=by rw[hv,vb,Int.neg_tdiv,Int.tdiv_eq_ediv_of_nonneg (by omega)];rfl
   have t3: -1000000000000000000<(valI a).tdiv (valI b)∧(valI a).tdiv (valI b)≤0:=by rw[t2];exact ⟨Int.lt_of_lt_of_le (show -1000000000000000000 < -((aC (digs a):Nat):Int) by omega) (Int.neg_le_neg (Int.ofNat_le.2 q1)),Int.neg_nonpos_of_nonneg (Int.natCast_nonneg _)⟩
   have c1:(0:Int)<((aC (digs a)%aC (digs b):Nat):Int):=Int.natCast_pos.2 (Nat.pos_of_ne_zero hr1)
   have c2:((aC (digs a)%aC (digs b):Nat):Int)<(aC (digs b):Int):=Int.ofNat_lt.2 q2
   have t4:(valI a).tmod (valI b)<0∧ -(valI b)<(valI a).tmod (valI b):=by rw[t1,vb];exact ⟨Int.neg_neg_of_pos c1,Int.neg_lt_neg c2⟩
   (repeat'((conv=>whnf);first|refine Zb ?_|refine Zn ?_|(apply Pin.mk;apply Exists.intro)|apply Pinned.mk rfl rfl|fail))
   refine Br.mkY t0 ?_
   skip
   refine Br.mkY (show ¬((valI a).tmod (valI b)<0↔valI b<0) from fun h'=>by have:=h'.1 t4.1;omega) ?_
   (repeat'((conv=>whnf);first|refine Zn ?_|fail))
   (conv=>whnf)
   (repeat'(first|exact trivial|rfl|refine And.intro ?_ ?_|fail))
   (conv=>whnf)
   rw[hfl,if_pos hn,t2]
  ·have hv:0≤valI a:=by rw[hA,if_neg hn];omega
   have t0:valI a%valI b≠0:=fun e=>hdv (Int.dvd_of_emod_eq_zero e)
   have t3:0≤valI a/valI b:=Int.ediv_nonneg hv (by omega)
   have t5:valI a/valI b≤valI a:=Int.ediv_le_self _ hv
   have t4:0≤valI a%valI b:=Int.emod_nonneg _ (by omega)
   have t6:valI a%valI b<valI b:=Int.emod_lt_of_pos _ hpos
   (repeat'((conv=>whnf);first|refine Za ?_|(apply Pin.mk;apply Exists.intro)|apply Pinned.mk rfl rfl|fail))
   refine Br.mkY t0 ?_
   skip
   refine Br.mkN (show ¬ ¬(valI a%valI b<0↔valI b<0) from fun h'=>h' ⟨fun h=>by omega,fun h=>by omega⟩) ?_
   skip
   (conv=>whnf)
   (repeat'(first|exact trivial|rfl|refine And.intro ?_ ?_|fail))
 ·have e6:=v6 (aC (digs b))
  have e6a:=v6 (aC (digs a))
  have nb:=eH fb lb
  have na:=eH fa la
  have hN:InB B6 (aB B6 (aC (digs a)))∧dK (aB B6 (aC (digs b)))∧(0<(valB B6 (aB B6 (aC (digs b)))).toNat∧(valB B6 (aB B6 (aC (digs b)))).toNat<B6^100)∧(aB B6 (aC (digs a))).length≤1000:=
   ⟨aQ (by decide) _,bZ _,⟨by omega,by rw[e6,Int.toNat_natCast];exact Nat.lt_of_lt_of_le nb (Nat.pow_le_pow_right (by decide) (by decide))⟩,by have:=dG na;omega⟩
  have hR:aB B6 (valB B6 (aB B6 (aC (digs a)))%valB B6 (aB B6 (aC (digs b)))).toNat=aB B6 (aC (digs a)%aC (digs b)):=by
   rw[e6,e6a,← Int.natCast_emod,Int.toNat_natCast]
  have hQ:aB B6 (valB B6 (aB B6 (aC (digs a)))/valB B6 (aB B6 (aC (digs b)))).toNat=aB B6 (aC (digs a)/aC (digs b)):=by
   rw[e6,e6a,← Int.natCast_ediv,Int.toNat_natCast]
  have lQ:aC (digs a)/aC (digs b)<B6^50:=Nat.lt_of_le_of_lt (Nat.div_le_self _ _) na
  have lR:aC (digs a)%aC (digs b)<B6^50:=Nat.lt_trans (Nat.mod_lt _ hNb) nb
  have up:B6^50≤B6^110:=Nat.pow_le_pow_right (by decide) (by decide)
  have hq2:dK (aB B6 (valB B6 (aB B6 (aC (digs a)))/valB B6 (aB B6 (aC (digs b)))).toNat)∧(aB B6 (valB B6 (aB B6 (aC (digs a)))/valB B6 (aB B6 (aC (digs b)))).toNat).length≤200:=by
   rw[hQ];exact ⟨bZ _,by have:=dG lQ;omega⟩
  have hr2:dK (aB B6 (valB B6 (aB B6 (aC (digs a)))%valB B6 (aB B6 (aC (digs b)))).toNat)∧(aB B6 (valB B6 (aB B6 (aC (digs a)))%valB B6 (aB B6 (aC (digs b)))).toNat).length≤200:=by
   rw[hR];exact ⟨bZ _,by have:=dG lR;omega⟩
  have hrl:(0:Int)<((aB B6 (valB B6 (aB B6 (aC (digs a)))%valB B6 (aB B6 (aC (digs b)))).toNat).length:Int):=by
   have:(aB B6 (aC (digs a)%aC (digs b))).length≠0:=fun h=>hr1 ((eJ _).1 h)
   rw[hR];omega
  have hres:resI (valI a/valI b)=(itoa (valI a/valI b),0):=by
   refine pI ?_
   have h1:(valI a/valI b).natAbs≤(valI a).natAbs:=Int.natAbs_ediv_le_natAbs _ _
   have h2:(valI a).natAbs<10^ (digs a).length:=by
    have:=bP (digs a) fa.2.2
    rw[hA];split<;>omega
   have h3:=cD la
   exact bK (k:=300) ⟨by decide,by decide⟩ (Nat.lt_of_le_of_lt h1 (Nat.lt_of_lt_of_le h2 h3))
  have vq:valB B6 (aB B6 (valB B6 (aB B6 (aC (digs a)))/valB B6 (aB B6 (aC (digs b)))).toNat)=((aC (digs a)/aC (digs b):Nat):Int):=by rw[hQ,v6]
  have vr:valB B6 (aB B6 (valB B6 (aB B6 (aC (digs a)))%valB B6 (aB B6 (aC (digs b)))).toNat)=((aC (digs a)%aC (digs b):Nat):Int):=by rw[hR,v6]
  have zQ:gU ((0:Int)<((aB B6 (valB B6 (aB B6 (aC (digs a)))/valB B6 (aB B6 (aC (digs b)))).toNat).length:Int)) (aB B6 (valB B6 (aB B6 (aC (digs a)))/valB B6 (aB B6 (aC (digs b)))).toNat):=⟨hq2.1,by rw[vq,Int.toNat_natCast];exact Nat.lt_of_lt_of_le lQ up,fun h=>by
   rw[vq,Int.toNat_natCast]
   refine Nat.pos_of_ne_zero fun e=>?_
   have:=(eJ _).2 e
   rw[hQ] at h
   omega⟩
  have zR:gU ((0:Int)<((aB B6 (valB B6 (aB B6 (aC (digs a)))%valB B6 (aB B6 (aC (digs b)))).toNat).length:Int)) (aB B6 (valB B6 (aB B6 (aC (digs a)))%valB B6 (aB B6 (aC (digs b)))).toNat):=⟨hr2.1,by rw[vr,Int.toNat_natCast];exact Nat.lt_of_lt_of_le lR up,fun h=>by
   rw[vr,Int.toNat_natCast]
   exact Nat.pos_of_ne_zero hr1⟩
  have hx:((0:Int)<((aB B6 (valB B6 (aB B6 (aC (digs a)))/valB B6 (aB B6 (aC (digs b)))).toNat).length:Int))∨(valB B6 (aB B6 (valB B6 (aB B6 (aC (digs a)))/valB B6 (aB B6 (aC (digs b)))).toNat)).toNat=0:=by
   by_cases h:(0:Int)<((aB B6 (valB B6 (aB B6 (aC (digs a)))/valB B6 (aB B6 (aC (digs b)))).toNat).length:Int)
   ·exact .inl h
   ·right
    rw[vq,Int.toNat_natCast]
    rw[hQ] at h
    exact (eJ _).1 (by omega)
  have hadj:∀ [hD:Decidable ((0:Int)<((aB B6 (valB B6 (aB B6 (aC (digs a)))/valB B6 (aB B6 (aC (digs b)))).toNat).length:Int))],a.headD 0=45→sgP (addS ((0:Int)<((aB B6 (valB B6 (aB B6 (aC (digs a)))/valB B6 (aB B6 (aC (digs b)))).toNat).length:Int)) (valB B6 (aB B6 (valB B6 (aB B6 (aC (digs a)))/valB B6 (aB B6 (aC (digs b)))).toNat)).toNat True (valB B6 [1]).toNat) (valB B6 (aB B6 (addN ((0:Int)<((aB B6 (valB B6 (aB B6 (aC (digs a)))/valB B6 (aB B6 (aC (digs b)))).toNat).length:Int)) (valB B6 (aB B6 (valB B6 (aB B6 (aC (digs a)))/valB B6 (aB B6 (aC (digs b)))).toNat)).toNat True (valB B6 [1]).toNat)))=valI a/valI b:=by
   intro hD hp
   rw[aPy _ _ _ (by rw[aOc.2];rfl) hx,hfl,if_pos hp,vq,Int.toNat_natCast]
  (refine Br.mk (fun _=>?_) (fun _=>?_))
  all_goals
   (repeat'((conv=>whnf);first|refine Zn ?_|refine Zl ?_|fail))
   by_cases hp:a.headD 0=45
   ·refine Br.mkY (show ¬(a.headD 0=45↔b.headD 0=45) from fun h'=>hbn (h'.1 hp)) ?_
    (repeat'((conv=>whnf);first|refine Zg fun _=>?_|fail))
    refine Br.mkY hp ?_
    (repeat'((conv=>whnf);first|refine Zg fun _=>?_|refine Zl ?_|fail))
    refine Br.mkY hrl ?_
    skip
    refine Br.mkY (show ¬(a.headD 0=45↔b.headD 0=45) from fun h'=>hbn (h'.1 hp)) ?_
    (repeat'((conv=>whnf);first|refine Zl ?_|fail))
    refine Need.mk ⟨zQ,aOc.1⟩ ?_
    skip
    refine Need.mk ⟨zR,zB⟩ ?_
    skip
    refine Need.mk (yL zQ.2.1 aOc.1.2.1) ?_
    skip
    refine Br.mkN (by rw[hadj hp,hres];simp) ?_
    skip
    refine Need.mk (yL zR.2.1 zB.2.1) ?_
    skip
    (conv=>whnf)
    (repeat'(first|exact trivial|rfl|refine And.intro ?_ ?_|fail))
    (conv=>whnf)
    rw[hadj hp,hres]
   ·refine Br.mkN (show ¬ ¬(a.headD 0=45↔b.headD 0=45) from fun h'=>h' ⟨fun h=>absurd h hp,fun h=>absurd h hbn⟩) ?_
    skip
    refine Br.mkN hp ?_
    (repeat'((conv=>whnf);first|refine Zg fun _=>?_|refine Zl ?_|fail))
    refine Br.mkY hrl ?_
    skip
    refine Br.mkN (show ¬ ¬(a.headD 0=45↔b.headD 0=45) from fun h'=>h' ⟨fun h=>absurd h hp,fun h=>absurd h hbn⟩) ?_
    (repeat'((conv=>whnf);first|refine Zn ?_|fail))
    have ev:valB B6 (aB B6 (valB B6 (aB B6 (aC (digs a)))/valB B6 (aB B6 (aC (digs b)))).toNat)=valI a/valI b:=by rw[vq,hfl,if_neg hp]
    refine Br.mkN (by rw[ev,hres];simp) ?_
    (repeat'((conv=>whnf);first|refine Zn ?_|fail))
    (conv=>whnf)
    (repeat'(first|exact trivial|rfl|refine And.intro ?_ ?_|fail))
    (conv=>whnf)
    rw[ev,hres]
def c71g:Con:=aJ 199 true fun args K=>match args with
 | [.str a,.str b]=>Need (chkI a=0∧chkI b=0∧0<valI b) (K (.tup [S (itoa (valI a/valI b)),.any,I 0]))
 | _=>False
theorem k71g:aF Tryz.prog c71g:=by
 refine aD rfl (enters_of Tryz.func199 (by kernel_rfl) rfl) ?_
 intro args K h
 simp only[c71g] at h
 split at h
 ·rename_i a b
  refine ⟨_,h.go,?_⟩
  by_cases hd:valI b ∣ valI a
  ·exact aA (Γ:=[c110,c111,c61,c112,c113,c115,c116]) (by simp[k110,k111,k61,k112,k113,k115,k116]) Tryz.func199 (by simp[Tryz.ntmps199]) rfl (b71 a b ⟨h.ok.1,h.ok.2.1,h.ok.2.2,hd⟩)
  ·exact aA (Γ:=[c110,c111,c61,c112,c113,aJ0,c115,c116]) (by simp[k110,k111,k61,k112,k113,k114g,k115,k116]) Tryz.func199 (by simp[Tryz.ntmps199]) rfl (b71n a b h.ok hd)
 ·exact h.elim
theorem pK (z:Int):numS (Rat.divInt z 1)=itoa z:=by
 rw[← cX]
 congr 1
 have:=Rat.num_divInt_den (z:Rat)
 rw[Rat.num_intCast,Rat.den_intCast] at this
 exact this
set_option maxHeartbeats 4000000 in
theorem b30 (a:List UInt8):body Tryz.prog [c44,c70,c62,c65,c71g,c63] {} true Tryz.f153 [S a] (.tup [S (flQ a).1,I (flQ a).2]):=by
 by_cases hc:chkQ a=0
 ·obtain ⟨e,hq⟩:=eK hc
  obtain ⟨cn,vn,ln⟩:=mW hq
  obtain ⟨cd,vd⟩:=mX hq
  have d1:=(valQ a).den_pos
  have hf:flQ a=(itoa ((valQ a).num/(valQ a).den),0):=by unfold flQ;rw[if_pos hc]
  have hz:=cX ((valQ a).num/((valQ a).den:Int))
  rw[hf]
  by_cases hs:smR (valQ a)
  ·have s1:=kT hs
   skip
   refine Br.mkN (fun h=>h hc) ?_
   (repeat'((conv=>whnf);first|refine Zn ?_|fail))
   refine Br.mkY hs ?_
   by_cases hn:(valQ a).num<0
   ·obtain ⟨m,hm⟩:∃m:Nat,(valQ a).num= -(m:Int):=⟨(valQ a).num.natAbs,by omega⟩
    have hm9:m<1000000000:=by omega
    have t1:(valQ a).num.tdiv ((valQ a).den:Int)= -((m/(valQ a).den:Nat):Int):=by rw[hm,Int.neg_tdiv,Int.tdiv_eq_ediv_of_nonneg (by omega)];rfl
    have t2:(valQ a).num.tmod ((valQ a).den:Int)= -((m% (valQ a).den:Nat):Int):=by rw[hm,Int.neg_tmod,Int.tmod_eq_emod_of_nonneg (by omega)];rfl
    have q1:((m/(valQ a).den:Nat):Int)≤(m:Int):=Int.ofNat_le.2 (Nat.div_le_self _ _)
    have q0:(0:Int)≤((m/(valQ a).den:Nat):Int):=Int.natCast_nonneg _
    have q2:((m% (valQ a).den:Nat):Int)<((valQ a).den:Int):=Int.ofNat_lt.2 (Nat.mod_lt _ d1)
    have q3:(0:Int)≤((m% (valQ a).den:Nat):Int):=Int.natCast_nonneg _
    obtain ⟨x,hx⟩:∃x:Int,((m/(valQ a).den:Nat):Int)=x:=⟨_,rfl⟩
    obtain ⟨y,hy⟩:∃y:Int,((m% (valQ a).den:Nat):Int)=y:=⟨_,rfl⟩
    rw[hx] at t1 q1 q0
    rw[hy] at t2 q2 q3
    have b1: -1000000000<(valQ a).num.tdiv ((valQ a).den:Int)∧(valQ a).num.tdiv ((valQ a).den:Int)≤0:=by rw[t1];omega
    have b2: -1000000000<(valQ a).num.tmod ((valQ a).den:Int)∧(valQ a).num.tmod ((valQ a).den:Int)≤0:=by rw[t2];omega
    by_cases hr:m% (valQ a).den=0
    ·have hy0:y=0:=by rw[← hy,hr];rfl
     have ef:(valQ a).num/((valQ a).den:Int)=(valQ a).num.tdiv ((valQ a).den:Int):=by
      rw[t1,hm,Int.neg_ediv_of_dvd (Int.ofNat_dvd.2 (Nat.dvd_of_mod_eq_zero hr)),← hx,Int.natCast_ediv]
     (repeat'((conv=>whnf);first|refine Zb ?_|refine Zn ?_|fail))
     refine Br.mkN (show ¬(valQ a).num.tmod ((valQ a).den:Int)<0 by rw[t2];omega) ?_
     (repeat'((conv=>whnf);first|refine Zn ?_|fail))
     (conv=>whnf)
     (repeat'(first|exact trivial|rfl|refine And.intro ?_ ?_|fail))
     (conv=>whnf)
     rw[pK,ef]
    ·have hy0:0<y:=by
      have:(0:Int)<((m% (valQ a).den:Nat):Int):=Int.natCast_pos.2 (Nat.pos_of_ne_zero hr)
      omega
     have ef:(valQ a).num/((valQ a).den:Int)=(valQ a).num.tdiv ((valQ a).den:Int)-1:=by
      rw[t1,hm,← hx]
      exact aBj d1 fun h=>hr (Nat.mod_eq_zero_of_dvd (Int.ofNat_dvd.1 h))
     (repeat'((conv=>whnf);first|refine Zb ?_|refine Zn ?_|fail))
     refine Br.mkY (show (valQ a).num.tmod ((valQ a).den:Int)<0 by rw[t2];omega) ?_
     (repeat'((conv=>whnf);first|refine Zn ?_|fail))
     (conv=>whnf)
     (repeat'(first|exact trivial|rfl|refine And.intro ?_ ?_|fail))
     (conv=>whnf)
     rw[pK,ef]
   ·have t3:0≤(valQ a).num/((valQ a).den:Int):=Int.ediv_nonneg (by omega) (by omega)
    have t5:(valQ a).num/((valQ a).den:Int)≤(valQ a).num:=Int.ediv_le_self _ (by omega)
    have t4:0≤(valQ a).num% ((valQ a).den:Int):=Int.emod_nonneg _ (by omega)
    have t6:(valQ a).num% ((valQ a).den:Int)<((valQ a).den:Int):=Int.emod_lt_of_pos _ (by omega)
    (repeat'((conv=>whnf);first|refine Za ?_|fail))
    refine Br.mkN (by omega) ?_
    (repeat'((conv=>whnf);first|refine Zn ?_|fail))
    (conv=>whnf)
    (repeat'(first|exact trivial|rfl|refine And.intro ?_ ?_|fail))
    (conv=>whnf)
    exact pK _
  ·have hN:chkI (pn (valQ a))=0∧chkI (pd (valQ a))=0∧0<valI (pd (valQ a)):=⟨cn,cd,by rw[vd];omega⟩
   have lz:lim ((valQ a).num/((valQ a).den:Int))=false:=gQ (Int.natAbs_ediv_le_natAbs _ _) ln
   have hM:(chkI (itoa (valI (pn (valQ a))/valI (pd (valQ a))))=0∧chkI [49]=0)∧valI [49]≠0:=by
    rw[vn,vd,aBh.2]
    exact ⟨⟨aR lz,aBh.1⟩,by decide⟩
   skip
   refine Br.mkN (fun h=>h hc) ?_
   (repeat'((conv=>whnf);first|refine Zn ?_|fail))
   refine Br.mkN hs ?_
   (repeat'((conv=>whnf);first|refine Zn ?_|refine Zm ?_|fail))
   (conv=>whnf)
   (repeat'(first|exact trivial|rfl|refine And.intro ?_ ?_|fail))
   (conv=>whnf)
   have e49:valI ([49]:List UInt8)=1:=aBh.2
   show numS (Rat.divInt (valI (itoa (valI (pn (valQ a))/valI (pd (valQ a))))) (valI [49]))= _
   rw[e49,vn,vd,aM,pK]
 ·have hf:flQ a=([],chkQ a):=by unfold flQ;rw[if_neg hc]
  rw[hf]
  skip
  refine Br.mkY hc ?_
  skip
  (conv=>whnf)
  (repeat'(first|exact trivial|rfl|refine And.intro ?_ ?_|fail))
def c30:Con:=aJ 153 true fun args K=>match args with | [.str a]=>K (.tup [S (flQ a).1,I (flQ a).2]) | _=>False
theorem k30:aF Tryz.prog c30:=by
 refine aD rfl (enters_of Tryz.func153 (by kernel_rfl) rfl) ?_
 intro args K h
 simp only[c30] at h
 split at h
 ·rename_i a;exact ⟨_,h,aA (Γ:=[c44,c70,c62,c65,c71g,c63]) (by simp[k44,k70,k62,k65,k71g,k63]) Tryz.func153 (by simp[Tryz.ntmps153]) rfl (b30 a)⟩
 ·exact h.elim
theorem nX {l:List (List UInt8)} {k:Nat} (h:k<l.length):l.drop k=l.getD k []::l.drop (k+1):=by
 rw[List.drop_eq_getElem_cons h]
 simp[List.getD_eq_getElem?_getD,h]
set_option linter.unusedSimpArgs false
def c75:Con:=aF3 105 fun args K=>match args with | [.val (.slice none 0 0),.val (.int .i64 n)]=>Need (0≤n∧n≤1000000) (K (.ref 0 1) (.vec 1 (.str) ([]) 22)) | _=>False
theorem aPz {a:List UInt8} {k:Nat} (h1:a.length≤k) (h2:chkQ a=0) (hk:0<k):a=numS (valQ a)∧Sz k (valQ a):=by
 obtain ⟨e,h3,h4⟩:=rP h2
 refine ⟨e,?_,?_⟩
 ·refine fR ?_
  rw[e] at h1
  unfold numS at h1
  have h5:(decDigits (valQ a).num.natAbs).length≤(itoa (valQ a).num).length:=by
   unfold itoa
   split
   ·simp
   ·rw[show (valQ a).num.toNat=(valQ a).num.natAbs by omega];exact Nat.le_refl _
  split at h1
  ·omega
  ·simp at h1;omega
 ·rw[e] at h1
  unfold numS at h1
  split at h1
  ·rename_i e1
   rw[e1];exact Nat.one_lt_pow (by omega) (by decide)
  ·refine fR ?_
   simp at h1;omega
end RB
end
section
set_option linter.unusedVariables false
namespace RB
section
variable {ax ay az bx by' bz cx cy cz P Q R:Rat}
end
end RB
end
section
open Go Go.Proofs Go.Eng Go.Shelf IB Go.Lib Go.RowKit
namespace RB
set_option maxRecDepth 10000
set_option linter.unusedVariables false
set_option linter.unusedSimpArgs false
def d36 (q:Rat):Prop:=(decDigits q.num.natAbs).length≤36∧(decDigits q.den).length≤36
instance (q:Rat):Decidable (d36 q):=inferInstanceAs (Decidable (_∧ _))
noncomputable def chkP (a:List UInt8):Int:=if chkQ a≠0 then chkQ a else if d36 (valQ a) then 0 else 4
def badP (l:List (List UInt8)):Prop:=∃a∈l,chkP a≠0
noncomputable instance (l:List (List UInt8)):Decidable (badP l):=Classical.propDecidable _
section
variable {p q r:Rat} {i j k:Nat}
end
noncomputable def hgt (a b c x y:List UInt8):Rat:=valQ a*valQ x+valQ b*valQ y+valQ c
set_option linter.unusedSimpArgs false
section
variable (p:List UInt8→Prop) [DecidablePred p]
end
def badS (s:List UInt8):Prop:=12<s.length∨chkQ s≠0
noncomputable instance (s:List UInt8):Decidable (badS s):=Classical.propDecidable _
noncomputable instance:DecidablePred badS:=fun s=>Classical.propDecidable _
def notP (s:List UInt8):Prop:=chkP s≠0
noncomputable instance:DecidablePred notP:=fun s=>Classical.propDecidable _
def aQ3 (l:List (List UInt8)):Prop:=∀a∈l,a.length≤12∧chkQ a=0
noncomputable instance (l:List (List UInt8)):Decidable (aQ3 l):=Classical.propDecidable _
theorem Sz.up {k:Nat} {q:Rat} (h:Sz 12 q) (hk:12≤k):Sz k q:=h.mono hk
theorem aO1 {p q:Rat} {k:Nat} (h1:(p.num*q.den).natAbs<10^k) (h2:(q.num*p.den).natAbs<10^k) (h0:q≠0):Sz k (p/q):=by
 have hq:q.num≠0:=fun h=>h0 (Rat.num_eq_zero.1 h)
 have hp:(0:Int)<p.den:=by have:=p.den_pos;omega
 rw[sS p q h0]
 rcases Int.lt_or_lt_of_ne hq with h | h
 ·have hd:(p.den:Int)*q.num<0:=Int.mul_neg_of_pos_of_neg hp h
  rw[qL _ _ hd]
  refine aFz (by omega) (by rwa [Int.natAbs_neg]) ?_
  have:(-((p.den:Int)*q.num)).toNat=(q.num*p.den).natAbs:=by rw[Int.mul_comm q.num];omega
  rwa [this]
 ·have hd:0<(p.den:Int)*q.num:=Int.mul_pos hp h
  rw[eD _ _ hd]
  refine aFz (by omega) h1 ?_
  have:((p.den:Int)*q.num).toNat=(q.num*p.den).natAbs:=by rw[Int.mul_comm q.num];omega
  rwa [this]
theorem Sz.div {p q:Rat} {i j:Nat} (hp:Sz i p) (hq:Sz j q) (h0:q≠0):Sz (i+j) (p/q):=aO1 (hp.cross hq).1 (hp.cross hq).2.1 h0
def Vd (q:Rat):Prop:=chkQ (numS q)=0
theorem Sz.vd {q:Rat} {k:Nat} (h:Sz k q) (hk:0<k∧k≤300):Vd q:=iQ h hk
section
variable {p q:Rat}
end
noncomputable def ckG (p:List UInt8):List (List UInt8)→Int
 | []=>0
 | a::r=>if chkQ a≠0 then chkQ a else if (cmpQ p a).2≠0 then (cmpQ p a).2 else if 0≤(cmpQ p a).1 then 10 else ckG a r
noncomputable def ckF:List (List UInt8)→Int
 | []=>0
 | a::r=>if chkQ a≠0 then chkQ a else ckG a r
theorem aE2 (a:List UInt8) (r:List (List UInt8)):ckF (a::r)=if chkQ a≠0 then chkQ a else ckG a r:=rfl
noncomputable def ckS (l:List (List UInt8)):Int:=if 4096<l.length then 4 else ckF l
noncomputable def ckAt (l:List (List UInt8)):Nat→Int
 | 0=>ckF l
 | i+1=>ckG (l.getD i []) (l.drop (i+1))
theorem uV {α:Type} {l:List α} {i:Nat} (d:α) (h:i<l.length):l.drop i=l.getD i d::l.drop (i+1):=by
 rw[List.drop_eq_getElem_cons h]
 simp[List.getD_eq_getElem?_getD,h]
theorem aE3 (l:List (List UInt8)):ckAt l l.length=0:=by
 cases l with
 | nil=>rfl
 | cons a r=>
  show ckG _ (List.drop (r.length+1) (a::r))=0
  rw[List.drop_eq_nil_of_le (by simp)];rfl
section
variable {l:List (List UInt8)} {i:Nat}
theorem aE4 (h:i<l.length) (h1:chkQ (l.getD i [])≠0):ckAt l i=chkQ (l.getD i []):=by
 cases i with
 | zero=>
  cases l with
  | nil=>simp at h
  | cons a r=>have h1:chkQ a≠0:=h1;show ckF (a::r)= _;rw[aE2,if_pos h1];rfl
 | succ i=>
  show ckG _ (l.drop (i+1))= _
  rw[uV [] h];unfold ckG;rw[if_pos h1]
theorem aE5 (h:i+1<l.length) (h1:chkQ (l.getD (i+1) [])=0) (h2:(cmpQ (l.getD i []) (l.getD (i+1) [])).2≠0):ckAt l (i+1)=(cmpQ (l.getD i []) (l.getD (i+1) [])).2:=by
 show ckG _ (l.drop (i+1))= _
 rw[uV [] h];unfold ckG;rw[if_neg (fun h=>h h1),if_pos h2]
theorem aE6 (h:i+1<l.length) (h1:chkQ (l.getD (i+1) [])=0) (h2:(cmpQ (l.getD i []) (l.getD (i+1) [])).2=0) (h3:0≤(cmpQ (l.getD i []) (l.getD (i+1) [])).1):ckAt l (i+1)=10:=by
 show ckG _ (l.drop (i+1))= _
 rw[uV [] h];unfold ckG;rw[if_neg (fun h=>h h1),if_neg (fun h=>h h2),if_pos h3]
theorem aE7 (h:0<l.length) (h1:chkQ (l.getD 0 [])=0):ckAt l 1=ckAt l 0:=by
 cases l with
 | nil=>simp at h
 | cons a r=>
  have h1:chkQ a=0:=h1
  show ckG a r=ckF (a::r)
  rw[aE2,if_neg (fun h=>h h1)]
theorem aIp (h:i+1<l.length) (h1:chkQ (l.getD (i+1) [])=0) (h2:(cmpQ (l.getD i []) (l.getD (i+1) [])).2=0) (h3:¬0≤(cmpQ (l.getD i []) (l.getD (i+1) [])).1):ckAt l (i+2)=ckAt l (i+1):=by
 show ckG _ (l.drop (i+2))=ckG _ (l.drop (i+1))
 rw[uV [] h]
 conv=>rhs;unfold ckG
 rw[if_neg (fun h=>h h1),if_neg (fun h=>h h2),if_neg h3]
end
def Wt (k:Nat) (q:Rat):Prop:=q.num.natAbs*q.den<10^k
theorem wt_of {a:List UInt8} {k:Nat} (h1:a.length≤k) (h2:chkQ a=0):Wt k (valQ a):=by
 obtain ⟨e,_,_⟩:=rP h2
 rw[e] at h1
 unfold numS at h1
 have h5:(decDigits (valQ a).num.natAbs).length≤(itoa (valQ a).num).length:=by
  unfold itoa
  split
  ·simp
  ·rw[show (valQ a).num.toNat=(valQ a).num.natAbs by omega];exact Nat.le_refl _
 have h6:=fR (Nat.le_refl (decDigits (valQ a).num.natAbs).length)
 unfold Wt
 split at h1
 ·rename_i e1
  rw[e1,Nat.mul_one]
  exact Nat.lt_of_lt_of_le h6 (cD (by omega))
 ·have h7:=fR (Nat.le_refl (decDigits (valQ a).den).length)
  simp at h1
  have h8:=Nat.mul_lt_mul'' h6 h7
  rw[← Nat.pow_add] at h8
  exact Nat.lt_of_lt_of_le h8 (cD (by omega))
theorem oV (n:Int) {d:Nat} (hd:d≠0):(mkRat n d).num.natAbs≤n.natAbs∧(mkRat n d).den≤d:=by
 rw[Rat.num_mkRat,if_neg hd,Rat.den_mkRat,if_neg hd]
 exact ⟨kS _ _,Nat.div_le_self _ _⟩
theorem Wt.sub {p q:Rat} {k:Nat} (hp:Wt k p) (hq:Wt k q) (sp:p.den<10^k) (sq:q.den<10^k):Wt (3*k+1) (p-q):=by
 unfold Wt at hp hq ⊢
 rw[oX]
 obtain ⟨h1,h2⟩:=oV (p.num*q.den-q.num*p.den) (qO p q)
 refine Nat.lt_of_le_of_lt (Nat.mul_le_mul h1 h2) ?_
 have e1:(p.num*q.den-q.num*p.den).natAbs≤p.num.natAbs*q.den+q.num.natAbs*p.den:=by
  refine Nat.le_trans (Int.natAbs_sub_le _ _) ?_
  rw[Int.natAbs_mul,Int.natAbs_mul,Int.natAbs_natCast,Int.natAbs_natCast]
  exact Nat.le_refl _
 refine Nat.lt_of_le_of_lt (Nat.mul_le_mul_right _ e1) ?_
 have e2:(p.num.natAbs*q.den+q.num.natAbs*p.den)*(p.den*q.den)=(p.num.natAbs*p.den)*(q.den*q.den)+(q.num.natAbs*q.den)*(p.den*p.den):=by
  rw[Nat.add_mul]
  congr 1<;>ac_rfl
 rw[e2]
 have a1:(p.num.natAbs*p.den)*(q.den*q.den)<10^k*(10^k*10^k):=Nat.mul_lt_mul'' hp (Nat.mul_lt_mul'' sq sq)
 have a2:(q.num.natAbs*q.den)*(p.den*p.den)<10^k*(10^k*10^k):=Nat.mul_lt_mul'' hq (Nat.mul_lt_mul'' sp sp)
 have e3:10^ (3*k+1)=10*(10^k*(10^k*10^k)):=by
  rw[← Nat.pow_add,← Nat.pow_add,Nat.pow_succ,Nat.mul_comm]
  congr 2;omega
 rw[e3]
 omega
theorem xJ {α:Type} {l:List α} {i:Nat} {d:α} (h:i<l.length):l.getD i d∈l:=by
 simp[List.getD_eq_getElem?_getD,h]
def rgP (a b:List UInt8):Prop:=(cmpQ a b).2=0∧(cmpQ a b).1≤0
noncomputable instance (a b:List UInt8):Decidable (rgP a b):=Classical.propDecidable _
theorem rM {a b:List UInt8} (h:rgP a b):chkQ a=0∧chkQ b=0:=by
 have h1:=h.1
 unfold cmpQ at h1
 split at h1
 ·rename_i h2;exact absurd h1 h2
 rename_i h2
 split at h1
 ·rename_i h3;exact absurd h1 h3
 rename_i h3
 exact ⟨Classical.not_not.1 h2,Classical.not_not.1 h3⟩
set_option linter.unusedSimpArgs false
def flI (q:Rat):Int:=q.num/(q.den:Int)
theorem qJ (q:Rat):((flI q:Int):Rat)≤q:=by
 rw[Rat.le_iff,Rat.num_intCast,Rat.den_intCast]
 have:=aN2 q
 unfold flI
 simpa using this
theorem nW (q:Rat):q<((flI q+1:Int):Rat):=by
 rw[Rat.lt_iff,Rat.num_intCast,Rat.den_intCast]
 have:=aN3 q
 unfold flI
 simpa using this
theorem aMl (q:Rat):itoa (flI q)=numS q↔((flI q:Int):Rat)=q:=by
 rw[← cX]
 exact ⟨fun h=>xN h,fun h=>by rw[h]⟩
def clI (q:Rat):Int:=if ((flI q:Int):Rat)=q then flI q else flI q+1
theorem aMm (q:Rat):q≤((clI q:Int):Rat):=by
 unfold clI
 split
 ·rename_i h;rw[h];exact Rat.le_refl
 ·exact Rat.le_of_lt (nW q)
theorem aQv (q:Rat):((clI q-1:Int):Rat)<q:=by
 unfold clI
 split
 ·rename_i h
  have e:((flI q-1:Int):Rat)=((flI q:Int):Rat)-1:=by rw[Rat.intCast_sub];rfl
  rw[e,h]
  exact Rat.sub_lt_iff.2 (by grind)
 ·rename_i h
  rw[show flI q+1-1=flI q by omega]
  exact Rat.not_le.1 fun h'=>h (Rat.le_antisymm (qJ q) h')
theorem aOp {q:Rat} (h:0<q):0<clI q:=by
 have h1:=aMm q
 have h2:(0:Rat)<((clI q:Int):Rat):=Rat.not_le.1 fun h'=>Rat.not_le.2 h (Rat.le_trans h1 h')
 exact Rat.intCast_pos.1 h2
def eU (lo hi most:Rat):Rat:=(hi-lo)/(clI ((hi-lo)/most):Int)
def evR (lo hi most:Rat):List Rat:=(List.range ((clI ((hi-lo)/most)).toNat+1)).map fun (i:Nat)=>lo+eU lo hi most*((i:Int):Rat)
section
variable {lo hi most:Rat}
theorem aMn {a b:Rat} (ha:0<a) (hb:0<b):0<a/b:=by
 have e:a/b*b=a:=Rat.div_mul_cancel (by grind)
 refine Rat.not_le.1 fun h=>?_
 have:=Rat.mul_le_mul_of_nonneg_right (c:=b) h (Rat.le_of_lt hb)
 rw[e,Rat.zero_mul] at this
 exact Rat.not_le.2 ha this
theorem aQw (h:lo<hi) (hm:0<most):0<clI ((hi-lo)/most):=aOp (aMn (by grind) hm)
end
section
variable {α:Type} [DecidableEq α]
end
def aY (L O S:Rat):Int:=flI ((O-L)/S)
def cZ (H O S:Rat):Int:=flI ((H-O)/S)
def cU (L O S:Rat):Rat:=O-((aY L O S:Int):Rat)*S
def bM (L H O S:Rat):Int:=aY L O S+cZ H O S+1
def atR (L H O S:Rat):List Rat:=(List.range (bM L H O S).toNat).map fun (i:Nat)=>cU L O S+S*((i:Int):Rat)
theorem aMo {n:Int} {q:Rat}:(n:Rat)≤q↔n≤flI q:=by
 constructor
 ·intro h
  have h1:=nW q
  have h2:(n:Rat)<((flI q+1:Int):Rat):=Rat.not_le.1 fun h'=>Rat.not_le.2 h1 (Rat.le_trans h' h)
  have:=Rat.intCast_lt_intCast.1 h2
  omega
 ·intro h
  exact Rat.le_trans (Rat.intCast_le_intCast.2 h) (qJ q)
theorem kC {a b s:Rat} (hs:0<s):a≤b/s↔a*s≤b:=by
 have e:b/s*s=b:=Rat.div_mul_cancel (by grind)
 constructor
 ·intro h
  have:=Rat.mul_le_mul_of_nonneg_right (c:=s) h (Rat.le_of_lt hs)
  rwa [e] at this
 ·intro h
  refine Rat.not_lt.1 fun hlt=>?_
  have:=Rat.mul_lt_mul_of_pos_right hlt hs
  rw[e] at this
  exact Rat.not_le.2 this h
theorem aQc {L H O S:Rat} (hs:0<S) (i:Nat):cU L O S+S*((i:Int):Rat)≤H↔(i:Int)<bM L H O S:=by
 have e1:((i:Int)-aY L O S)≤flI ((H-O)/S)↔(((i:Int)-aY L O S:Int):Rat)*S≤H-O:=by rw[← aMo,kC hs]
 have e2:(((i:Int)-aY L O S:Int):Rat)=((i:Int):Rat)-((aY L O S:Int):Rat):=Rat.intCast_sub _ _
 rw[e2] at e1
 have e3:(((i:Int):Rat)-((aY L O S:Int):Rat))*S≤H-O↔cU L O S+S*((i:Int):Rat)≤H:=by
  unfold cU
  rw[Rat.le_iff_sub_nonneg,Rat.le_iff_sub_nonneg (a:=O- _+ _)]
  have:H-O-(((i:Int):Rat)-((aY L O S:Int):Rat))*S=H-(O-((aY L O S:Int):Rat)*S+S*((i:Int):Rat)):=by grind
  rw[this]
 rw[← e3,← e1]
 unfold bM cZ
 omega
theorem aG5 {L O S:Rat} (hs:0<S):L≤cU L O S∧cU L O S<L+S:=by
 have h1:((aY L O S:Int):Rat)≤(O-L)/S:=qJ _
 rw[kC hs] at h1
 have h2:¬((aY L O S+1:Int):Rat)≤(O-L)/S:=Rat.not_le.2 (nW _)
 rw[kC hs] at h2
 have e:((aY L O S+1:Int):Rat)=((aY L O S:Int):Rat)+1:=Rat.intCast_add _ _
 rw[e] at h2
 have h2:=Rat.not_le.1 h2
 unfold cU
 generalize ((aY L O S:Int):Rat)=k at*
 constructor
 ·rw[Rat.le_iff_sub_nonneg] at h1 ⊢
  have:O-k*S-L=O-L-k*S:=by grind
  rwa [this]
 ·rw[Rat.lt_iff_sub_pos] at h2 ⊢
  have:L+S-(O-k*S)=(k+1)*S-(O-L):=by grind
  rwa [this]
section
variable {p q:Rat} {k:Nat}
theorem mK {a b:Nat} (hb:b≠0):a≤a*b:=Nat.le_mul_of_pos_right a (Nat.pos_of_ne_zero hb)
theorem aFb (h1:p.num.natAbs*q.den<10^k) (h2:q.num.natAbs*p.den<10^k) (h3:p.den*q.den<10^k):Sz k p∧Sz k q:=by
 have n1:=q.den_nz
 have n2:=p.den_nz
 exact ⟨⟨Nat.lt_of_le_of_lt (mK n1) h1,Nat.lt_of_le_of_lt (mK n1) h3⟩,⟨Nat.lt_of_le_of_lt (mK n2) h2,Nat.lt_of_le_of_lt (by rw[Nat.mul_comm];exact mK n2) h3⟩⟩
theorem aG6 (hk:0<k∧k+1≤300) (h1:p.num.natAbs*q.den<10^k) (h2:q.num.natAbs*p.den<10^k) (h3:p.den*q.den<10^k):addQ (numS p) (numS q)=(numS (p+q),0):=by
 obtain ⟨zp,zq⟩:=aFb h1 h2 h3
 have e1:(p.num*q.den).natAbs<10^k:=by rw[Int.natAbs_mul,Int.natAbs_natCast];exact h1
 have e2:(q.num*p.den).natAbs<10^k:=by rw[Int.natAbs_mul,Int.natAbs_natCast];exact h2
 unfold addQ
 rw[mV zp zq ⟨hk.1,by omega⟩ ⟨hk.1,by omega⟩,if_neg]
 simp only[Bool.or_eq_true,not_or,Bool.not_eq_true]
 exact ⟨⟨⟨bK ⟨hk.1,by omega⟩ e1,bK ⟨hk.1,by omega⟩ e2⟩,bK (k:=k+1) ⟨by omega,hk.2⟩ (gK e1 e2).1⟩,bK ⟨hk.1,by omega⟩ (by rw[← Int.natCast_mul,Int.natAbs_natCast];exact h3)⟩
theorem aQx (hk:0<k∧k+1≤300) (h1:p.num.natAbs*q.den<10^k) (h2:q.num.natAbs*p.den<10^k) (h3:p.den*q.den<10^k):subQ (numS p) (numS q)=(numS (p-q),0):=by
 obtain ⟨zp,zq⟩:=aFb h1 h2 h3
 have e1:(p.num*q.den).natAbs<10^k:=by rw[Int.natAbs_mul,Int.natAbs_natCast];exact h1
 have e2:(q.num*p.den).natAbs<10^k:=by rw[Int.natAbs_mul,Int.natAbs_natCast];exact h2
 unfold subQ
 rw[mV zp zq ⟨hk.1,by omega⟩ ⟨hk.1,by omega⟩,if_neg]
 simp only[Bool.or_eq_true,not_or,Bool.not_eq_true]
 exact ⟨⟨⟨bK ⟨hk.1,by omega⟩ e1,bK ⟨hk.1,by omega⟩ e2⟩,bK (k:=k+1) ⟨by omega,hk.2⟩ (gK e1 e2).2⟩,bK ⟨hk.1,by omega⟩ (by rw[← Int.natCast_mul,Int.natAbs_natCast];exact h3)⟩
theorem aQy (hk:0<k∧k≤300) (zp:Sz k p) (zq:Sz k q) (h1:p.num.natAbs*q.num.natAbs<10^k) (h3:p.den*q.den<10^k):mulQ (numS p) (numS q)=(numS (p*q),0):=by
 unfold mulQ
 rw[mV zp zq hk hk,if_neg]
 simp only[Bool.or_eq_true,not_or,Bool.not_eq_true]
 exact ⟨bK hk (by rw[Int.natAbs_mul];exact h1),bK hk (by rw[← Int.natCast_mul,Int.natAbs_natCast];exact h3)⟩
theorem aQz (p q:Rat):cmpI (p.num*q.den) (q.num*p.den)=cmpR p q:=by
 unfold cmpI cmpR
 by_cases h1:p<q
 ·rw[if_pos h1,if_pos ((Rat.lt_iff p q).1 h1)]
 ·rw[if_neg h1,if_neg (fun h=>h1 ((Rat.lt_iff p q).2 h))]
  by_cases h2:q<p
  ·have:=(Rat.lt_iff q p).1 h2
   rw[if_pos h2,if_neg (by omega)]
  ·have h3:¬q.num*p.den<p.num*q.den:=fun h=>h2 ((Rat.lt_iff q p).2 h)
   have h4:¬p.num*q.den<q.num*p.den:=fun h=>h1 ((Rat.lt_iff p q).2 h)
   rw[if_neg h2,if_pos (by omega)]
theorem aMp (hk:0<k∧k≤300) (zp:Sz k p) (zq:Sz k q) (h1:p.num.natAbs*q.den<10^k) (h2:q.num.natAbs*p.den<10^k):cmpQ (numS p) (numS q)=(cmpR p q,0):=by
 have e1:(p.num*q.den).natAbs<10^k:=by rw[Int.natAbs_mul,Int.natAbs_natCast];exact h1
 have e2:(q.num*p.den).natAbs<10^k:=by rw[Int.natAbs_mul,Int.natAbs_natCast];exact h2
 unfold cmpQ
 rw[if_neg (by rw[iQ zp hk];simp),if_neg (by rw[iQ zq hk];simp),cF,cF]
 unfold cmpf
 rw[if_neg]
 ·rw[aQz]
 simp only[Bool.or_eq_true,not_or,Bool.not_eq_true]
 exact ⟨bK hk e1,bK hk e2⟩
end
theorem aCy (q:Rat):((q.num:Int):Rat)=q*((q.den:Nat):Rat):=by
 have h:((q.den:Nat):Rat)≠0:=by
  have:=q.den_pos
  have:=Rat.natCast_pos.2 this
  exact fun e=>Rat.lt_irrefl (e ▸ this)
 have e:q=(q.num:Rat)/((q.den:Nat):Rat):=by
  conv=>lhs;rw[← Rat.mkRat_self q,Rat.mkRat_eq_div]
 conv=>rhs;lhs;rw[e]
 rw[Rat.div_mul_cancel h]
theorem mL (q:Rat):(0:Rat)≤((q.den:Nat):Rat):=Rat.natCast_nonneg
theorem aMq {x H S:Rat} (c:Nat) (h:x≤H+(c:Rat)*S):x.num*(H.den*S.den:Nat)≤(H.num*S.den+c*S.num*H.den)*x.den:=by
 apply Rat.intCast_le_intCast.1
 simp only[Rat.intCast_mul,Rat.intCast_add,Rat.intCast_natCast,Rat.natCast_mul,aCy]
 have:=Rat.mul_le_mul_of_nonneg_right (c:=((x.den:Nat):Rat)*(((H.den:Nat):Rat)*((S.den:Nat):Rat))) h (Rat.mul_nonneg (mL x) (Rat.mul_nonneg (mL H) (mL S)))
 grind
theorem aQ0 {x H S:Rat} (c:Nat) (h:H-(c:Rat)*S≤x):(H.num*S.den-c*S.num*H.den)*x.den≤x.num*(H.den*S.den:Nat):=by
 apply Rat.intCast_le_intCast.1
 simp only[Rat.intCast_mul,Rat.intCast_sub,Rat.intCast_natCast,Rat.natCast_mul,aCy]
 have:=Rat.mul_le_mul_of_nonneg_right (c:=((x.den:Nat):Rat)*(((H.den:Nat):Rat)*((S.den:Nat):Rat))) h (Rat.mul_nonneg (mL x) (Rat.mul_nonneg (mL H) (mL S)))
 grind
def Lm (l:List (List UInt8)):Prop:=∀a∈l,chkQ a=0→a.length≤82
theorem Lm.at {l:List (List UInt8)} (h:Lm l) {i:Nat} (hi:i<l.length) (hk:chkQ (l.getD i [])=0):(l.getD i []).length≤82:=h _ (xJ hi) hk
theorem kJ {a:List UInt8} (h1:chkQ a=0) (h2:a.length≤82):a=numS (valQ a)∧Sz 82 (valQ a)∧Wt 82 (valQ a):=by
 obtain ⟨e,z⟩:=aPz h2 h1 (by decide)
 exact ⟨e,z,wt_of h2 h1⟩
theorem cmp82 {a b:List UInt8} (h1:chkQ a=0) (h2:a.length≤82) (h3:chkQ b=0) (h4:b.length≤82):cmpQ a b=(cmpR (valQ a) (valQ b),0):=by
 obtain ⟨e1,z1,_⟩:=kJ h1 h2
 obtain ⟨e2,z2,_⟩:=kJ h3 h4
 conv=>lhs;rw[e1,e2]
 exact aHn z1 z2 (by decide) (by decide) (by decide)
theorem bt2 {A B D l h s t N:Nat} (hl:0<l) (hD:1≤D) (hDt:D*t≤100*(s*l*h)) (hB:B*l≤D+A*h) (h1:A*l<N) (h2:B*h<N) (h3:s*t<N):B*(t*t)≤200*(N*N)*h:=by
 have hN:1≤N:=by omega
 by_cases hc:2*(A*h)≤B*l
 ·have e1:B*l≤2*D:=by omega
  have e2:(B*l)*t≤(2*D)*t:=Nat.mul_le_mul_right _ e1
  have e3:(2*D)*t=2*(D*t):=Nat.mul_assoc ..
  have e4:(B*t)*l≤(200*(s*h))*l:=by
   have e5:(B*t)*l=(B*l)*t:=by ac_rfl
   have e6:(200*(s*h))*l=200*(s*l*h):=by ac_rfl
   rw[e5,e6];omega
  have e7:B*t≤200*(s*h):=Nat.le_of_mul_le_mul_right e4 hl
  have e8:(B*t)*t≤(200*(s*h))*t:=Nat.mul_le_mul_right _ e7
  have e9:(200*(s*h))*t=200*((s*t)*h):=by ac_rfl
  have e10:(s*t)*h≤(N*N)*h:=Nat.mul_le_mul_right _ (Nat.le_trans (Nat.le_of_lt h3) (Nat.le_mul_of_pos_right N hN))
  have e11:200*(N*N)*h=200*((N*N)*h):=Nat.mul_assoc ..
  have e12:B*(t*t)=(B*t)*t:=(Nat.mul_assoc ..).symm
  omega
 ·have q:B*l<2*N:=by
   refine Nat.lt_of_not_le fun hq=>?_
   have f1:(2*N)*(2*N)≤(B*l)*(B*l):=Nat.mul_le_mul hq hq
   have f2:(B*l)*(B*l)≤(B*l)*(2*(A*h)):=Nat.mul_le_mul_left _ (by omega)
   have f3:(B*l)*(2*(A*h))=2*((B*h)*(A*l)):=by ac_rfl
   have f4:(B*h)*(A*l)≤N*N:=Nat.mul_le_mul (Nat.le_of_lt h2) (Nat.le_of_lt h1)
   have f5:(2*N)*(2*N)=4*(N*N):=by rw[show 4=2*2 from rfl];ac_rfl
   have f6:1*1≤N*N:=Nat.mul_le_mul hN hN
   omega
  have g1:t≤D*t:=Nat.le_mul_of_pos_left t hD
  have g2:(B*t)*t≤(B*t)*(100*(s*l*h)):=Nat.mul_le_mul_left _ (Nat.le_trans g1 hDt)
  have g3:(B*t)*(100*(s*l*h))=100*(((s*t)*(B*l))*h):=by ac_rfl
  have g4:(s*t)*(B*l)≤N*(2*N):=Nat.mul_le_mul (Nat.le_of_lt h3) (Nat.le_of_lt q)
  have g5:((s*t)*(B*l))*h≤(N*(2*N))*h:=Nat.mul_le_mul_right _ g4
  have g6:(N*(2*N))*h=2*((N*N)*h):=by ac_rfl
  have g7:200*(N*N)*h=200*((N*N)*h):=Nat.mul_assoc ..
  have g8:B*(t*t)=(B*t)*t:=(Nat.mul_assoc ..).symm
  omega
abbrev N82:Nat:=10^82
structure AtH (L H O S:Rat):Prop where
 wL:Wt 82 L
 wH:Wt 82 H
 wS:Wt 82 S
 zL:Sz 82 L
 zH:Sz 82 H
 zO:Sz 82 O
 zS:Sz 82 S
 le:L≤H
 pos:0<S
 few:H≤L+((100:Nat):Rat)*S
section
variable {L H O S:Rat}
theorem rK {q:Rat} (h:0<q):0<q.num:=by
 have:=(Rat.lt_iff 0 q).1 h
 simpa using this
theorem AtH.t2 (h:AtH L H O S) (hlt:L<H):H.num.natAbs*(S.den*S.den)≤200*(N82*N82)*H.den∧L.num.natAbs*(S.den*S.den)≤200*(N82*N82)*L.den:=by
 have hs:=rK h.pos
 have h1:=(Rat.lt_iff L H).1 hlt
 have h2:=aMq 100 h.few
 have hl:=L.den_pos
 have hh:=H.den_pos
 have eX:(H.num*L.den).natAbs=H.num.natAbs*L.den:=by rw[Int.natAbs_mul,Int.natAbs_natCast]
 have eY:(L.num*H.den).natAbs=L.num.natAbs*H.den:=by rw[Int.natAbs_mul,Int.natAbs_natCast]
 obtain ⟨D,hD⟩:∃D:Nat,(D:Int)=H.num*L.den-L.num*H.den:=⟨(H.num*L.den-L.num*H.den).toNat,by omega⟩
 have hD1:1≤D:=by omega
 have hDt:D*S.den≤100*(S.num.natAbs*L.den*H.den):=by
  have es:((S.num.natAbs:Nat):Int)=S.num:=by omega
  have:((D*S.den:Nat):Int)≤((100*(S.num.natAbs*L.den*H.den):Nat):Int):=by
   push_cast
   rw[es,hD]
   push_cast at h2
   grind
  exact Int.ofNat_le.1 this
 have b1:H.num.natAbs*L.den≤D+L.num.natAbs*H.den:=by rw[← eX,← eY];omega
 have b2:L.num.natAbs*H.den≤D+H.num.natAbs*L.den:=by rw[← eX,← eY];omega
 refine ⟨bt2 hl hD1 hDt b1 h.wL h.wH h.wS,bt2 hh hD1 (Nat.le_trans hDt (Nat.le_of_eq (by ac_rfl))) b2 h.wH h.wL h.wS⟩
theorem AtH.xt (h:AtH L H O S) {x:Rat} (h1:L≤x) (h2:x≤H) (hd:x.den≤O.den*S.den):x.num.natAbs*S.den<10^250:=by
 have ho:=h.zO.2
 by_cases hlt:L<H
 ·obtain ⟨tH,tL⟩:=h.t2 hlt
  have key:∀ {q:Rat},q.num.natAbs*(S.den*S.den)≤200*(N82*N82)*q.den→x.num.natAbs*q.den≤q.num.natAbs*x.den→x.num.natAbs*S.den≤200*(N82*N82)*O.den:=fun {q} t e=>by
   have f1:q.num.natAbs*x.den≤q.num.natAbs*(O.den*S.den):=Nat.mul_le_mul_left _ hd
   have f2:(x.num.natAbs*q.den)*S.den≤(q.num.natAbs*(O.den*S.den))*S.den:=Nat.mul_le_mul_right _ (Nat.le_trans e f1)
   have f3:(q.num.natAbs*(O.den*S.den))*S.den=O.den*(q.num.natAbs*(S.den*S.den)):=by ac_rfl
   have f4:O.den*(q.num.natAbs*(S.den*S.den))≤O.den*(200*(N82*N82)*q.den):=Nat.mul_le_mul_left _ t
   have f5:(x.num.natAbs*S.den)*q.den≤(200*(N82*N82)*O.den)*q.den:=by
    have f6:(x.num.natAbs*S.den)*q.den=(x.num.natAbs*q.den)*S.den:=by ac_rfl
    have f7:(200*(N82*N82)*O.den)*q.den=O.den*(200*(N82*N82)*q.den):=by ac_rfl
    rw[f6,f7]
    exact Nat.le_trans f2 (by rw[f3];exact f4)
   exact Nat.le_of_mul_le_mul_right f5 q.den_pos
  have e1:=(Rat.le_iff L x).1 h1
  have e2:=(Rat.le_iff x H).1 h2
  have hb:x.num.natAbs*S.den≤200*(N82*N82)*O.den:=by
   by_cases hx:0≤x.num
   ·refine key tH ?_
    have a1:(x.num*H.den).natAbs=x.num.natAbs*H.den:=by rw[Int.natAbs_mul,Int.natAbs_natCast]
    have a2:(H.num*x.den).natAbs=H.num.natAbs*x.den:=by rw[Int.natAbs_mul,Int.natAbs_natCast]
    have a3:0≤x.num*H.den:=Int.mul_nonneg hx (by omega)
    rw[← a1,← a2];omega
   ·refine key tL ?_
    have a1:(x.num*L.den).natAbs=x.num.natAbs*L.den:=by rw[Int.natAbs_mul,Int.natAbs_natCast]
    have a2:(L.num*x.den).natAbs=L.num.natAbs*x.den:=by rw[Int.natAbs_mul,Int.natAbs_natCast]
    have a3:x.num*L.den≤0:=Int.mul_nonpos_of_nonpos_of_nonneg (by omega) (by omega)
    rw[← a1,← a2];omega
  refine Nat.lt_of_le_of_lt (Nat.le_trans hb (Nat.mul_le_mul_left _ (Nat.le_of_lt ho))) ?_
  decide
 ·have e:x=L:=Rat.le_antisymm (Rat.le_trans h2 (Rat.not_lt.1 hlt)) h1
  rw[e]
  refine Nat.lt_of_lt_of_le (Nat.mul_lt_mul'' h.zL.1 h.zS.2) ?_
  decide
theorem AtH.xh (h:AtH L H O S) {x:Rat} (h1:L≤x) (h2:x≤H+((100:Nat):Rat)*S) (hd:x.den≤O.den*S.den):x.num.natAbs*H.den<10^250:=by
 have hs:=rK h.pos
 have h1':H-((100:Nat):Rat)*S≤x:=by have:=h.few;grind
 have e1:=aMq 100 h2
 have e2:=aQ0 100 h1'
 have ho:=h.zO.2
 have es:((S.num.natAbs:Nat):Int)=S.num:=by omega
 have c1:x.num.natAbs*(H.den*S.den)≤(H.num.natAbs*S.den+100*(S.num.natAbs*H.den))*x.den:=by
  have a1:(x.num*(H.den*S.den:Nat)).natAbs=x.num.natAbs*(H.den*S.den):=by rw[Int.natAbs_mul,Int.natAbs_natCast]
  have a2:((((H.num.natAbs*S.den+100*(S.num.natAbs*H.den))*x.den:Nat)):Int)=(H.num.natAbs*S.den)*x.den+(100*S.num*H.den)*x.den:=by
   push_cast
   rw[es]
   grind
  have a3:(H.num*S.den)*x.den≤((H.num.natAbs:Int)*S.den)*x.den:=Int.mul_le_mul_of_nonneg_right (Int.mul_le_mul_of_nonneg_right (by omega) (by omega)) (by omega)
  have a4:(-(H.num.natAbs:Int)*S.den)*x.den≤(H.num*S.den)*x.den:=Int.mul_le_mul_of_nonneg_right (Int.mul_le_mul_of_nonneg_right (by omega) (by omega)) (by omega)
  have a5:(H.num*S.den+(100:Nat)*S.num*H.den)*x.den=(H.num*S.den)*x.den+(100*S.num*H.den)*x.den:=by push_cast;grind
  have a6:(H.num*S.den-(100:Nat)*S.num*H.den)*x.den=(H.num*S.den)*x.den-(100*S.num*H.den)*x.den:=by push_cast;grind
  have a7:(-(H.num.natAbs:Int)*S.den)*x.den= -(((H.num.natAbs:Int)*S.den)*x.den):=by grind
  rw[← a1]
  rw[a5] at e1
  rw[a6] at e2
  omega
 have c2:(x.num.natAbs*H.den)*S.den≤((H.num.natAbs*S.den+100*(S.num.natAbs*H.den))*O.den)*S.den:=by
  have:=Nat.mul_le_mul_left (H.num.natAbs*S.den+100*(S.num.natAbs*H.den)) hd
  have b1:(x.num.natAbs*H.den)*S.den=x.num.natAbs*(H.den*S.den):=Nat.mul_assoc ..
  have b2:((H.num.natAbs*S.den+100*(S.num.natAbs*H.den))*O.den)*S.den=(H.num.natAbs*S.den+100*(S.num.natAbs*H.den))*(O.den*S.den):=Nat.mul_assoc ..
  omega
 have c3:=Nat.le_of_mul_le_mul_right c2 S.den_pos
 have d1:=Nat.mul_lt_mul'' h.zH.1 h.zS.2
 have d2:=Nat.mul_lt_mul'' h.zS.1 h.zH.2
 have d3:H.num.natAbs*S.den+100*(S.num.natAbs*H.den)≤101*(10^82*10^82):=by omega
 refine Nat.lt_of_le_of_lt (Nat.le_trans c3 (Nat.mul_le_mul d3 (Nat.le_of_lt ho))) ?_
 decide
theorem aP8 {P Q S:Rat} (zP:Sz 82 P) (zQ:Sz 82 Q) (zS:Sz 82 S) (hS:0<S):(flI ((P-Q)/S)).natAbs*S.num.natAbs<10^165:=by
 have hs:=rK hS
 have es:((S.num.natAbs:Nat):Int)=S.num:=by omega
 have k1:((flI ((P-Q)/S):Int):Rat)*S≤P-Q:=(kC hS).1 (qJ _)
 have k2:P-Q≤((flI ((P-Q)/S)+1:Int):Rat)*S:=by
  have:=Rat.le_of_lt (Rat.not_le.1 fun h=>Rat.not_le.2 (nW ((P-Q)/S)) ((kC hS).2 h))
  exact this
 generalize flI ((P-Q)/S)=k at*
 have hP:=P.den_pos
 have hQ:=Q.den_pos
 have nn:(0:Rat)≤((S.den:Nat):Rat)*(((P.den:Nat):Rat)*((Q.den:Nat):Rat)):=Rat.mul_nonneg (mL S) (Rat.mul_nonneg (mL P) (mL Q))
 have i1:k*S.num*(P.den*Q.den:Nat)≤(P.num*Q.den-Q.num*P.den)*S.den:=by
  apply Rat.intCast_le_intCast.1
  simp only[Rat.intCast_mul,Rat.intCast_sub,Rat.intCast_natCast,Rat.natCast_mul,aCy]
  have:=Rat.mul_le_mul_of_nonneg_right k1 nn
  grind
 have i2:(P.num*Q.den-Q.num*P.den)*S.den≤(k+1)*S.num*(P.den*Q.den:Nat):=by
  apply Rat.intCast_le_intCast.1
  rw[Rat.intCast_mul,Rat.intCast_mul ((k+1)*S.num),Rat.intCast_mul (k+1),Rat.intCast_sub]
  simp only[Rat.intCast_mul,Rat.intCast_natCast,Rat.natCast_mul,aCy]
  have:=Rat.mul_le_mul_of_nonneg_right k2 nn
  grind
 have m1:P.num.natAbs*Q.den≤P.num.natAbs*(P.den*Q.den):=Nat.mul_le_mul_left _ (Nat.le_mul_of_pos_left _ hP)
 have m2:Q.num.natAbs*P.den≤Q.num.natAbs*(P.den*Q.den):=Nat.mul_le_mul_left _ (Nat.le_mul_of_pos_right _ hQ)
 have a1:(P.num*Q.den).natAbs=P.num.natAbs*Q.den:=by rw[Int.natAbs_mul,Int.natAbs_natCast]
 have a2:(Q.num*P.den).natAbs=Q.num.natAbs*P.den:=by rw[Int.natAbs_mul,Int.natAbs_natCast]
 have m3:(P.num*Q.den-Q.num*P.den).natAbs≤(P.num.natAbs+Q.num.natAbs)*(P.den*Q.den):=by
  rw[Nat.add_mul];omega
 have m4:((P.num*Q.den-Q.num*P.den)*S.den).natAbs≤((P.num.natAbs+Q.num.natAbs)*S.den)*(P.den*Q.den):=by
  rw[Int.natAbs_mul,Int.natAbs_natCast]
  refine Nat.le_trans (Nat.mul_le_mul_right _ m3) (Nat.le_of_eq (by ac_rfl))
 have hd:0<P.den*Q.den:=Nat.mul_pos hP hQ
 have key:k.natAbs*S.num.natAbs≤(P.num.natAbs+Q.num.natAbs)*S.den+S.num.natAbs:=by
  by_cases hk:0≤k
  ·have f1:(k*S.num*(P.den*Q.den:Nat)).natAbs=(k.natAbs*S.num.natAbs)*(P.den*Q.den):=by rw[Int.natAbs_mul,Int.natAbs_mul,Int.natAbs_natCast]
   have f2:0≤k*S.num*(P.den*Q.den:Nat):=Int.mul_nonneg (Int.mul_nonneg hk (by omega)) (by omega)
   have f3:(k.natAbs*S.num.natAbs)*(P.den*Q.den)≤((P.num.natAbs+Q.num.natAbs)*S.den)*(P.den*Q.den):=by rw[← f1];omega
   have:=Nat.le_of_mul_le_mul_right f3 hd
   omega
  ·have f1:((k+1)*S.num*(P.den*Q.den:Nat)).natAbs=((k+1).natAbs*S.num.natAbs)*(P.den*Q.den):=by rw[Int.natAbs_mul,Int.natAbs_mul,Int.natAbs_natCast]
   have f2:(k+1)*S.num*(P.den*Q.den:Nat)≤0:=Int.mul_nonpos_of_nonpos_of_nonneg (Int.mul_nonpos_of_nonpos_of_nonneg (by omega) (by omega)) (by omega)
   have f3:((k+1).natAbs*S.num.natAbs)*(P.den*Q.den)≤((P.num.natAbs+Q.num.natAbs)*S.den)*(P.den*Q.den):=by rw[← f1];omega
   have f4:=Nat.le_of_mul_le_mul_right f3 hd
   have f5:k.natAbs=(k+1).natAbs+1:=by omega
   rw[f5,Nat.add_mul,Nat.one_mul]
   omega
 have d1:(P.num.natAbs+Q.num.natAbs)*S.den≤(10^82+10^82)*10^82:=Nat.mul_le_mul (Nat.add_le_add (Nat.le_of_lt zP.1) (Nat.le_of_lt zQ.1)) (Nat.le_of_lt zS.2)
 have d2:=zS.1
 have d3:(10^82+10^82)*10^82+10^82<10^165:=by decide
 omega
end
theorem rL (q:Rat):(flI q).natAbs≤q.num.natAbs:=kS _ _
theorem xI {q:Rat} {k:Nat} (h:Sz k q) (hk:0<k∧k≤300):flQ (numS q)=(itoa (flI q),0):=by
 unfold flQ
 rw[if_pos (iQ h hk),cF];rfl
theorem aCx {n:Int} {k:Nat} (h:n.natAbs<10^k) (hk:0<k∧k≤300):inQ (itoa n)=if n < -4611686018427387904∨4611686018427387904<n then (0,2) else (n,0):=by
 unfold inQ
 rw[← cX,if_pos (iQ (yJ h hk.1) hk),cF,if_pos (Rat.den_intCast n),Rat.num_intCast]
theorem aOn (n:Int):ofQ n 1=(itoa n,0):=by
 unfold ofQ
 rw[if_neg (by decide)]
 have:Rat.divInt n 1=(n:Rat):=Rat.num_divInt_den (n:Rat)
 rw[this,cX]
section
variable {L H O S:Rat}
noncomputable abbrev atX (L O S:Rat) (i:Nat):Rat:=cU L O S+S*((i:Int):Rat)
theorem aQu (i:Nat):atX L O S i=O-((aY L O S-i:Int):Rat)*S:=by
 unfold atX cU
 rw[Rat.intCast_sub]
 grind
theorem nV:atX L O S 0=cU L O S:=by
 unfold atX
 rw[show (((0:Nat):Int):Rat)=0 from rfl,Rat.mul_zero,Rat.add_zero]
theorem aE8 (i:Nat):atX L O S (i+1)=atX L O S i+S:=by
 unfold atX
 rw[show ((i+1:Nat):Int)=(i:Int)+1 by omega,Rat.intCast_add,Rat.intCast_one]
 grind
theorem aE9 (K:Int):(O-(K:Rat)*S).den≤O.den*S.den:=by
 rw[oX]
 refine Nat.le_trans (oV _ (qO _ _)).2 (Nat.mul_le_mul_left _ ?_)
 rw[lJ]
 refine Nat.le_trans (oV _ (qO _ _)).2 ?_
 rw[Rat.den_intCast,Nat.one_mul];exact Nat.le_refl _
theorem uW (i:Nat):(atX L O S i).den≤O.den*S.den:=by rw[aQu];exact aE9 _
theorem uE (K:Int) (S:Rat):((K:Rat)*S).num.natAbs≤K.natAbs*S.num.natAbs∧((K:Rat)*S).den≤S.den:=by
 rw[lJ]
 obtain ⟨h1,h2⟩:=oV ((K:Rat).num*S.num) (qO (K:Rat) S)
 rw[Rat.num_intCast,Int.natAbs_mul] at h1
 exact ⟨h1,Nat.le_trans h2 (by rw[Rat.den_intCast,Nat.one_mul];exact Nat.le_refl _)⟩
theorem AtH.count (h:AtH L H O S): -1≤aY L O S+cZ H O S∧aY L O S+cZ H O S≤100:=by
 have hS:=h.pos
 have a1:((aY L O S:Int):Rat)*S≤O-L:=(kC hS).1 (qJ _)
 have a2:((cZ H O S:Int):Rat)*S≤H-O:=(kC hS).1 (qJ _)
 have b1:O-L≤((aY L O S+1:Int):Rat)*S:=Rat.le_of_lt (Rat.not_le.1 fun h=>Rat.not_le.2 (nW _) ((kC hS).2 h))
 have b2:H-O≤((cZ H O S+1:Int):Rat)*S:=Rat.le_of_lt (Rat.not_le.1 fun h=>Rat.not_le.2 (nW _) ((kC hS).2 h))
 have b1':¬((aY L O S+1:Int):Rat)*S≤O-L:=fun h=>Rat.not_le.2 (nW _) ((kC hS).2 h)
 have b2':¬((cZ H O S+1:Int):Rat)*S≤H-O:=fun h=>Rat.not_le.2 (nW _) ((kC hS).2 h)
 generalize aY L O S=x at*
 generalize cZ H O S=y at*
 have few:=h.few
 have le:=h.le
 constructor
 ·refine Int.not_lt.1 fun hlt=>?_
  have h1:((x+1+(y+1):Int):Rat)≤((0:Int):Rat):=Rat.intCast_le_intCast.2 (by omega)
  have h2:=Rat.mul_le_mul_of_nonneg_right h1 (Rat.le_of_lt hS)
  rw[Rat.intCast_add (x+1),Rat.add_mul,Rat.intCast_zero,Rat.zero_mul] at h2
  have h3:=Rat.not_le.1 b1'
  have h4:=Rat.not_le.1 b2'
  generalize ((x+1:Int):Rat)*S=u at*
  generalize ((y+1:Int):Rat)*S=v at*
  grind
 ·refine Int.not_lt.1 fun hlt=>?_
  have h1:((101:Int):Rat)≤((x+y:Int):Rat):=Rat.intCast_le_intCast.2 (by omega)
  have h2:=Rat.mul_le_mul_of_nonneg_right h1 (Rat.le_of_lt hS)
  rw[Rat.intCast_add,Rat.add_mul] at h2
  have e:((101:Int):Rat)*S=((100:Nat):Rat)*S+S:=by
   rw[show ((101:Int):Rat)=((100:Nat):Rat)+1 from Rat.intCast_add 100 1,Rat.add_mul,Rat.one_mul]
  rw[e] at h2
  generalize ((100:Nat):Rat)*S=w at*
  generalize (x:Rat)*S=u at*
  generalize (y:Rat)*S=v at*
  grind
theorem AtH.f1 (h:AtH L H O S):subQ (numS O) (numS L)=(numS (O-L),0):=pG h.zO h.zL (by decide) (by decide) (by decide)
theorem AtH.f4 (h:AtH L H O S):subQ (numS H) (numS O)=(numS (H-O),0):=pG h.zH h.zO (by decide) (by decide) (by decide)
theorem dM {S:Rat} (h:0<S):S≠0:=fun e=>Rat.lt_irrefl (e ▸ h)
theorem AtH.f2 (h:AtH L H O S):divQ (numS (O-L)) (numS S)=(numS ((O-L)/S),0):=kK (h.zO.sub h.zL) h.zS (by decide) (by decide) (by decide) (dM h.pos)
theorem AtH.f5 (h:AtH L H O S):divQ (numS (H-O)) (numS S)=(numS ((H-O)/S),0):=kK (h.zH.sub h.zO) h.zS (by decide) (by decide) (by decide) (dM h.pos)
theorem AtH.f3 (h:AtH L H O S):flQ (numS ((O-L)/S))=(itoa (aY L O S),0):=xI ((h.zO.sub h.zL).div h.zS (dM h.pos)) ⟨by decide,by decide⟩
theorem AtH.f6 (h:AtH L H O S):flQ (numS ((H-O)/S))=(itoa (cZ H O S),0):=xI ((h.zH.sub h.zO).div h.zS (dM h.pos)) ⟨by decide,by decide⟩
theorem AtH.below (h:AtH L H O S):(aY L O S).natAbs*S.num.natAbs<10^165∧(aY L O S).natAbs<10^165:=by
 have h1:=aP8 h.zO h.zL h.zS h.pos
 have hs:=rK h.pos
 exact ⟨h1,Nat.lt_of_le_of_lt (Nat.le_mul_of_pos_right _ (by omega)) h1⟩
theorem AtH.above (h:AtH L H O S):(cZ H O S).natAbs<10^165:=by
 have h1:=aP8 h.zH h.zO h.zS h.pos
 have hs:=rK h.pos
 exact Nat.lt_of_le_of_lt (Nat.le_mul_of_pos_right _ (by omega)) h1
theorem AtH.f7 (h:AtH L H O S):addQ (itoa (aY L O S)) (itoa (cZ H O S))=(itoa (aY L O S+cZ H O S),0):=by
 have:=aG6 (p:=((aY L O S:Int):Rat)) (q:=((cZ H O S:Int):Rat)) (k:=165) ⟨by decide,by decide⟩ (by rw[Rat.num_intCast,Rat.den_intCast,Nat.mul_one];exact h.below.2) (by rw[Rat.num_intCast,Rat.den_intCast,Nat.mul_one];exact h.above) (by rw[Rat.den_intCast,Rat.den_intCast];decide)
 rwa [← Rat.intCast_add,cX,cX,cX] at this
theorem AtH.f9 (h:AtH L H O S):inQ (itoa (aY L O S+cZ H O S))=(aY L O S+cZ H O S,0):=by
 obtain ⟨h1,h2⟩:=h.count
 rw[aCx (k:=4) (by have:(10:Nat)^4=10000:=(by decide);omega) ⟨by decide,by decide⟩,if_neg (by omega)]
theorem AtH.f10 (h:AtH L H O S):mulQ (itoa (aY L O S)) (numS S)=(numS (((aY L O S:Int):Rat)*S),0):=by
 have z1:Sz 165 ((aY L O S:Int):Rat):=yJ h.below.2 (by decide)
 have:=aQy (k:=165) ⟨by decide,by decide⟩ z1 (h.zS.mono (by decide)) (by rw[Rat.num_intCast];exact h.below.1) (by rw[Rat.den_intCast,Nat.one_mul];exact (h.zS.mono (j:=165) (by decide)).2)
 rwa [cX] at this
theorem AtH.f11 (h:AtH L H O S):subQ (numS O) (numS (((aY L O S:Int):Rat)*S))=(numS (cU L O S),0):=by
 obtain ⟨i1,i2⟩:=uE (aY L O S) S
 have hb:=h.below.1
 have zO:=h.zO
 have zS:=h.zS
 refine aQx (k:=249) ⟨by decide,by decide⟩ ?_ ?_ ?_
 ·refine Nat.lt_of_le_of_lt (Nat.mul_le_mul (Nat.le_of_lt zO.1) (Nat.le_trans i2 (Nat.le_of_lt zS.2))) ?_
  decide
 ·refine Nat.lt_of_le_of_lt (Nat.mul_le_mul (Nat.le_trans i1 (Nat.le_of_lt hb)) (Nat.le_of_lt zO.2)) ?_
  decide
 ·refine Nat.lt_of_le_of_lt (Nat.mul_le_mul (Nat.le_of_lt zO.2) (Nat.le_trans i2 (Nat.le_of_lt zS.2))) ?_
  decide
theorem AtH.f12 (h:AtH L H O S) {i:Nat} (hi:i≤1000):mulQ (numS S) (itoa i)=(numS (S*((i:Int):Rat)),0):=by
 have z1:Sz 4 ((i:Int):Rat):=yJ (by rw[Int.natAbs_natCast];have:(10:Nat)^4=10000:=(by decide);omega) (by decide)
 have:=aDc h.zS z1 (by decide) (by decide) (by decide)
 rwa [cX] at this
theorem aFa (K:Int) (S:Rat):(S*(K:Rat)).num.natAbs≤K.natAbs*S.num.natAbs∧(S*(K:Rat)).den≤S.den:=by
 rw[Rat.mul_comm];exact uE K S
theorem AtH.in (h:AtH L H O S) {i:Nat} (hi:(i:Int)<bM L H O S):L≤atX L O S i∧atX L O S i≤H:=by
 refine ⟨?_,(aQc h.pos i).2 hi⟩
 have h1:=(aG5 (L:=L) (O:=O) h.pos).1
 have h2:0≤S*((i:Int):Rat):=Rat.mul_nonneg (Rat.le_of_lt h.pos) (Rat.intCast_nonneg.2 (by omega))
 show L≤cU L O S+ _
 generalize S*((i:Int):Rat)=u at*
 grind
theorem AtH.f13 (h:AtH L H O S) {i:Nat} (hi:(i:Int)<bM L H O S):addQ (numS (cU L O S)) (numS (S*((i:Int):Rat)))=(numS (atX L O S i),0):=by
 have hc:=h.count
 have hi2:i≤100:=by unfold bM at hi;omega
 obtain ⟨i1,i2⟩:=aFa (i:Int) S
 have r:=h.in (i:=0) (by omega)
 rw[nV] at r
 have hx:=h.xt r.1 r.2 (by rw[← nV];exact uW 0)
 have hd:(cU L O S).den≤O.den*S.den:=by rw[← nV];exact uW 0
 have zO:=h.zO.2
 have zS:=h.zS
 have hd2:(cU L O S).den≤10^82*10^82:=Nat.le_trans hd (Nat.mul_le_mul (Nat.le_of_lt zO) (Nat.le_of_lt zS.2))
 refine aG6 (k:=250) ⟨by decide,by decide⟩ ?_ ?_ ?_
 ·exact Nat.lt_of_le_of_lt (Nat.mul_le_mul_left _ i2) hx
 ·refine Nat.lt_of_le_of_lt (Nat.mul_le_mul (Nat.le_trans i1 (Nat.mul_le_mul (show (i:Int).natAbs≤100 by omega) (Nat.le_of_lt zS.1))) hd2) ?_
  decide
 ·refine Nat.lt_of_le_of_lt (Nat.mul_le_mul hd2 (Nat.le_trans i2 (Nat.le_of_lt zS.2))) ?_
  decide
theorem AtH.f15 (h:AtH L H O S) {i:Nat} (hi:(i:Int)<bM L H O S):addQ (numS (atX L O S i)) (numS S)=(numS (atX L O S (i+1)),0):=by
 obtain ⟨r1,r2⟩:=h.in hi
 have hd:=uW (L:=L) (O:=O) (S:=S) i
 have hx:=h.xt r1 r2 hd
 have zO:=h.zO.2
 have zS:=h.zS
 have hd2:(atX L O S i).den≤10^82*10^82:=Nat.le_trans hd (Nat.mul_le_mul (Nat.le_of_lt zO) (Nat.le_of_lt zS.2))
 rw[aE8]
 refine aG6 (k:=250) ⟨by decide,by decide⟩ hx ?_ ?_
 ·refine Nat.lt_of_le_of_lt (Nat.mul_le_mul (Nat.le_of_lt zS.1) hd2) ?_
  decide
 ·refine Nat.lt_of_le_of_lt (Nat.mul_le_mul hd2 (Nat.le_of_lt zS.2)) ?_
  decide
theorem AtH.f14 (h:AtH L H O S) {i:Nat} (hi:(i:Int)≤bM L H O S):cmpQ (numS (atX L O S i)) (numS H)=(cmpR (atX L O S i) H,0):=by
 have hd:=uW (L:=L) (O:=O) (S:=S) i
 have zO:=h.zO.2
 have zS:=h.zS
 have zH:=h.zH
 have hd2:(atX L O S i).den≤10^82*10^82:=Nat.le_trans hd (Nat.mul_le_mul (Nat.le_of_lt zO) (Nat.le_of_lt zS.2))
 have hS:=h.pos
 have le1:L≤atX L O S i:=by
  have h1:=(aG5 (L:=L) (O:=O) hS).1
  have h2:0≤S*((i:Int):Rat):=Rat.mul_nonneg (Rat.le_of_lt hS) (Rat.intCast_nonneg.2 (by omega))
  show L≤cU L O S+ _
  generalize S*((i:Int):Rat)=u at*
  grind
 have h100:S≤((100:Nat):Rat)*S:=by
  have:=Rat.mul_le_mul_of_nonneg_right (show (1:Rat)≤((100:Nat):Rat) by decide) (Rat.le_of_lt hS)
  rwa [Rat.one_mul] at this
 have le2:atX L O S i≤H+((100:Nat):Rat)*S:=by
  have:atX L O S i≤H+S:=by
   rcases i with _ | j
   ·rw[nV]
    have h1:=(aG5 (L:=L) (O:=O) hS).2
    have:=h.le
    grind
   ·rw[aE8]
    have:=(h.in (i:=j) (by omega)).2
    exact Rat.add_le_add_right.2 this
  generalize ((100:Nat):Rat)*S=w at*
  grind
 have hx:=h.xh le1 le2 hd
 have n1:=H.den_pos
 have n2:=S.den_pos
 refine aMp (k:=250) ⟨by decide,by decide⟩ ⟨Nat.lt_of_le_of_lt (Nat.le_mul_of_pos_right _ n1) hx,Nat.lt_of_le_of_lt hd2 (by decide)⟩ (zH.mono (by decide)) hx ?_
 refine Nat.lt_of_le_of_lt (Nat.mul_le_mul (Nat.le_of_lt zH.1) hd2) ?_
 decide
end
noncomputable def atW (lo hi o s:List UInt8):List (List UInt8) × Int:=if ¬rgP lo hi∨chkQ o≠0∨chkQ s≠0 then ([],1) else if ¬0<valQ s then ([],2) else ((atR (valQ lo) (valQ hi) (valQ o) (valQ s)).map numS,0)
noncomputable def evW (lo hi m:List UInt8):List (List UInt8) × Int:=if ¬rgP lo hi∨chkQ m≠0 then ([],1) else if ¬0<valQ m then ([],2) else if lo=hi then ([lo],0) else if 4095<clI ((valQ hi-valQ lo)/valQ m) then ([],4) else ((evR (valQ lo) (valQ hi) (valQ m)).map numS,0)
structure EvH (L H M:Rat):Prop where
 zL:Sz 82 L
 zH:Sz 82 H
 zM:Sz 82 M
 lt:L<H
 pos:0<M
section
variable {L H M:Rat}
noncomputable abbrev evC (L H M:Rat):Int:=clI ((H-L)/M)
theorem EvH.e1 (h:EvH L H M):subQ (numS H) (numS L)=(numS (H-L),0):=pG h.zH h.zL (by decide) (by decide) (by decide)
theorem EvH.e2 (h:EvH L H M):divQ (numS (H-L)) (numS M)=(numS ((H-L)/M),0):=kK (h.zH.sub h.zL) h.zM (by decide) (by decide) (by decide) (dM h.pos)
theorem EvH.sq (h:EvH L H M):Sz 247 ((H-L)/M):=(h.zH.sub h.zL).div h.zM (dM h.pos)
theorem EvH.e3 (h:EvH L H M):flQ (numS ((H-L)/M))=(itoa (flI ((H-L)/M)),0):=xI h.sq ⟨by decide,by decide⟩
theorem EvH.e3i (h:EvH L H M):inQ (itoa (flI ((H-L)/M)))=if flI ((H-L)/M) < -4611686018427387904∨4611686018427387904<flI ((H-L)/M) then (0,2) else (flI ((H-L)/M),0):=aCx (k:=247) (Nat.lt_of_le_of_lt (rL _) h.sq.1) ⟨by decide,by decide⟩
theorem aKl (q:Rat):(itoa (flI q)=numS q∧clI q=flI q)∨(¬itoa (flI q)=numS q∧clI q=flI q+1):=by
 unfold clI
 by_cases h:((flI q:Int):Rat)=q
 ·exact .inl ⟨(aMl q).2 h,if_pos h⟩
 ·exact .inr ⟨fun h'=>h ((aMl q).1 h'),if_neg h⟩
theorem EvH.cpos (h:EvH L H M):0<evC L H M:=aQw h.lt h.pos
theorem sz4 {n:Int} (h0:0≤n) (h:n≤5000):Sz 4 (n:Rat):=yJ (by have:(10:Nat)^4=10000:=(by decide);omega) (by decide)
theorem EvH.st (h:EvH L H M) (hc:evC L H M≤4095):Sz 169 (eU L H M):=by
 have h0:=h.cpos
 have h1:0<clI ((H-L)/M):=h0
 have h2:clI ((H-L)/M)≤4095:=hc
 refine (h.zH.sub h.zL).div (sz4 (by omega) (by omega)) fun e=>?_
 have:=Rat.intCast_eq_zero_iff.1 e
 omega
theorem EvH.e4 (h:EvH L H M) (hc:evC L H M≤4095):divQ (numS (H-L)) (itoa (evC L H M))=(numS (eU L H M),0):=by
 have h0:=h.cpos
 have:=kK (h.zH.sub h.zL) (sz4 (n:=evC L H M) (by omega) (by omega)) (by decide) (by decide) (by decide) (fun e=>by
  have:=Rat.intCast_eq_zero_iff.1 e
  omega)
 rwa [cX] at this
theorem EvH.e5 (h:EvH L H M) (hc:evC L H M≤4095) {k:Nat} (hk:k≤5000):mulQ (numS (eU L H M)) (itoa k)=(numS (eU L H M*((k:Int):Rat)),0):=by
 have:=aDc (h.st hc) (sz4 (n:=(k:Int)) (by omega) (by omega)) (by decide) (by decide) (by decide)
 rwa [cX] at this
theorem EvH.e6 (h:EvH L H M) (hc:evC L H M≤4095) {k:Nat} (hk:k≤5000):addQ (numS L) (numS (eU L H M*((k:Int):Rat)))=(numS (L+eU L H M*((k:Int):Rat)),0):=
 aJt h.zL ((h.st hc).mul (sz4 (n:=(k:Int)) (by omega) (by omega))) (by decide) (by decide) (by decide)
theorem aMg (q:Rat):flI (-q)= -clI q:=by
 apply Int.le_antisymm
 ·have h1:=qJ (-q)
  have h2:q≤((-flI (-q):Int):Rat):=by rw[Rat.intCast_neg];exact Rat.le_neg_iff.1 (by grind)
  have h3:=aQv q
  have h4:((clI q-1:Int):Rat)<((-flI (-q):Int):Rat):=Rat.not_le.1 fun h=>Rat.not_le.2 h3 (Rat.le_trans h2 h)
  have:=Rat.intCast_lt_intCast.1 h4
  omega
 ·rw[← aMo,Rat.intCast_neg]
  exact Rat.neg_le_neg (aMm q)
theorem EvH.r1 (h:EvH L H M):subQ (numS L) (numS H)=(numS (L-H),0):=pG h.zL h.zH (by decide) (by decide) (by decide)
theorem EvH.r2 (h:EvH L H M):divQ (numS (L-H)) (numS M)=(numS ((L-H)/M),0):=kK (h.zL.sub h.zH) h.zM (by decide) (by decide) (by decide) (dM h.pos)
theorem aMh:(L-H)/M= -((H-L)/M):=by
 rw[Rat.div_def,Rat.div_def,← Rat.neg_mul]
 congr 1
 grind
theorem EvH.sq' (h:EvH L H M):Sz 247 ((L-H)/M):=(h.zL.sub h.zH).div h.zM (dM h.pos)
theorem EvH.r3 (h:EvH L H M):flQ (numS ((L-H)/M))=(itoa (-evC L H M),0):=by
 rw[xI h.sq' ⟨by decide,by decide⟩,aMh,aMg]
theorem EvH.r3i (h:EvH L H M):inQ (itoa (-evC L H M))=if -evC L H M < -4611686018427387904∨4611686018427387904 < -evC L H M then (0,2) else (-evC L H M,0):=by
 refine aCx (k:=247) ?_ ⟨by decide,by decide⟩
 have:=rL ((L-H)/M)
 rw[aMh,aMg] at this
 have h2:=h.sq'.1
 rw[aMh] at h2
 exact Nat.lt_of_le_of_lt this h2
theorem EvH.r4 (h:EvH L H M) (hc:evC L H M≤4095):divQ (numS (L-H)) (itoa (-evC L H M))=(numS (eU L H M),0):=by
 have h0:=h.cpos
 have z:Sz 4 ((-evC L H M:Int):Rat):=yJ (by have:(10:Nat)^4=10000:=(by decide);omega) (by decide)
 have:=kK (h.zL.sub h.zH) z (by decide) (by decide) (by decide) (fun e=>by
  have:=Rat.intCast_eq_zero_iff.1 e
  omega)
 rw[cX] at this
 rw[this]
 unfold eU
 have hc0:((evC L H M:Int):Rat)≠0:=fun e=>by
  have:=Rat.intCast_eq_zero_iff.1 e
  omega
 have e1:(H-L)/((evC L H M:Int):Rat)*((evC L H M:Int):Rat)=H-L:=Rat.div_mul_cancel hc0
 have hc1:((-evC L H M:Int):Rat)≠0:=fun e=>by
  have:=Rat.intCast_eq_zero_iff.1 e
  omega
 have e2:(L-H)/((-evC L H M:Int):Rat)*((-evC L H M:Int):Rat)=L-H:=Rat.div_mul_cancel hc1
 rw[Rat.intCast_neg] at e2 ⊢
 have e3:((L-H) / -((evC L H M:Int):Rat)-(H-L)/((evC L H M:Int):Rat))*((evC L H M:Int):Rat)=0:=by grind
 rcases Rat.mul_eq_zero.1 e3 with e | e
 ·congr 2
  show _=(H-L)/((evC L H M:Int):Rat)
  grind
 ·exact absurd e hc0
end
def grS1 (a:List UInt8):Prop:=uN a∨(82<a.length∧chkQ a=0)
def grtS (l:List (List UInt8)):Prop:=(∃a∈l,grS1 a)∨16<l.length
noncomputable instance (l:List (List UInt8)):Decidable (grtS l):=Classical.propDecidable _
theorem aOo {l:List (List UInt8)} (h:¬grtS l):Lm l∧l.length≤16:=
 ⟨fun a ha hk=>Nat.le_of_not_lt fun h1=>h (.inl ⟨a,ha,.inr ⟨h1,hk⟩⟩),Nat.le_of_not_lt fun h1=>h (.inr h1)⟩
theorem Lm.sub {l m:List (List UInt8)} (h:Lm l) (hs:∀a∈m,a∈l):Lm m:=fun a ha=>h a (hs a ha)
def aMi (s:List UInt8):Prop:=20<s.length∨chkQ s≠0
noncomputable instance (s:List UInt8):Decidable (aMi s):=Classical.propDecidable _
noncomputable instance:DecidablePred aMi:=fun s=>Classical.propDecidable _
def shS (l:List (List UInt8)):Prop:=∀a∈l,a.length≤20∧chkQ a=0
noncomputable instance (l:List (List UInt8)):Decidable (shS l):=Classical.propDecidable _
def fineS (l:List (List UInt8)):Prop:=(l.length≤16∧shS l)∧ckS l=0
noncomputable instance (l:List (List UInt8)):Decidable (fineS l):=Classical.propDecidable _
def mnP (q:List UInt8):Prop:=(cmpQ q [53,48,48,48]).2=0∧0<(cmpQ q [53,48,48,48]).1
noncomputable instance (q:List UInt8):Decidable (mnP q):=Classical.propDecidable _
def fwP (lo hi s:List UInt8):Prop:=(subQ hi lo).2≠0∨(divQ (subQ hi lo).1 s).2≠0∨(cmpQ (divQ (subQ hi lo).1 s).1 [49,48,48]).2≠0∨(cmpQ (divQ (subQ hi lo).1 s).1 [49,48,48]).1≤0∨mnP (divQ (subQ hi lo).1 s).1
noncomputable instance (lo hi s:List UInt8):Decidable (fwP lo hi s):=Classical.propDecidable _
theorem dec3 {i:Nat} (h1:¬i<100) (h2:i<1000):decDigits i= [UInt8.ofNat (48+i/10/10),UInt8.ofNat (48+i/10%10),UInt8.ofNat (48+i%10)]:=by
 rw[decDigits,dif_neg (by omega),decDigits_two (by omega) (by omega)];rfl
theorem dec4 {i:Nat} (h1:¬i<1000) (h2:i<10000):decDigits i= [UInt8.ofNat (48+i/10/10/10),UInt8.ofNat (48+i/10/10%10),UInt8.ofNat (48+i/10%10),UInt8.ofNat (48+i%10)]:=by
 rw[decDigits,dif_neg (by omega),dec3 (by omega) (by omega)];rfl
theorem aMj (n:Nat):itoa (n:Int)=decDigits n:=by
 unfold itoa
 rw[if_neg (by omega),Int.toNat_natCast]
theorem mJ (n:Nat):numS ((n:Int):Rat)=decDigits n:=by rw[cX,aMj]
theorem n100:numS 100= [49,48,48]:=(mJ 100).trans (dec3 (by decide) (by decide))
theorem n400:numS 400= [52,48,48]:=(mJ 400).trans (dec3 (by decide) (by decide))
theorem n500:numS 500= [53,48,48]:=(mJ 500).trans (dec3 (by decide) (by decide))
theorem n900:numS 900= [57,48,48]:=(mJ 900).trans (dec3 (by decide) (by decide))
theorem aP9:numS 1000= [49,48,48,48]:=(mJ 1000).trans (dec4 (by decide) (by decide))
theorem n4:numS 4= [52]:=(mJ 4).trans (cG (by decide))
theorem n10:numS 10= [49,48]:=(mJ 10).trans (decDigits_two (by decide) (by decide))
theorem n10_3:numS (mkRat 10 3)= [49,48,47,51]:=by
 unfold numS
 rw[show (mkRat 10 3).num=((10:Nat):Int) by decide,show (mkRat 10 3).den=3 by decide,if_neg (by decide),aMj,decDigits_two (by decide) (by decide),cG (by decide)];rfl
theorem n20_3:numS (mkRat 20 3)= [50,48,47,51]:=by
 unfold numS
 rw[show (mkRat 20 3).num=((20:Nat):Int) by decide,show (mkRat 20 3).den=3 by decide,if_neg (by decide),aMj,decDigits_two (by decide) (by decide),cG (by decide)];rfl
theorem aIq {L H:Rat} {k:Nat} (zL:Sz k L) (zH:Sz k H) (hk:0<k∧k≤150):rgP (numS L) (numS H)↔L≤H:=by
 unfold rgP
 rw[aHn zL zH hk.1 hk.1 (by omega)]
 have h1:=sB H L
 have h2:=oC H L
 constructor
 ·intro h
  refine Rat.not_lt.1 fun hlt=>?_
  have:=h1.2 hlt
  have:=h.2
  dsimp only at this
  omega
 ·intro h
  have:¬cmpR H L<0:=fun h'=>Rat.not_le.2 (h1.1 h') h
  exact ⟨rfl,by dsimp only;omega⟩
theorem aQa:atW [48] [49,48,48,48] [49,48,48] [52,48,48]=([[49,48,48],[53,48,48],[57,48,48]],0):=by
 have z0:Sz 4 0:=⟨by decide,by decide⟩
 have z1:Sz 4 1000:=⟨by decide,by decide⟩
 have z2:Sz 4 100:=⟨by decide,by decide⟩
 have z3:Sz 4 400:=⟨by decide,by decide⟩
 rw[← aP9,← n100,← n400,← n500,← n900,← numS0]
 unfold atW
 simp only[cF]
 rw[if_neg,if_neg (by rw[show ((0:Rat)<400)=True from eq_true (by decide)];simp)]
 ·rw[show atR 0 1000 100 400= [100,500,900] by decide+kernel];rfl
 ·rintro (h | h | h)
  ·exact h ((aIq z0 z1 ⟨by decide,by decide⟩).2 (by decide))
  ·exact h (iQ z2 ⟨by decide,by decide⟩)
  ·exact h (iQ z3 ⟨by decide,by decide⟩)
theorem aQb:evW [48] [49,48] [52]=([[48],[49,48,47,51],[50,48,47,51],[49,48]],0):=by
 have z0:Sz 4 0:=⟨by decide,by decide⟩
 have z1:Sz 4 10:=⟨by decide,by decide⟩
 have z2:Sz 4 4:=⟨by decide,by decide⟩
 rw[← n10_3,← n20_3,← n10,← n4,← numS0]
 unfold evW
 simp only[cF]
 rw[if_neg,if_neg (by rw[show ((0:Rat)<4)=True from eq_true (by decide)];simp),if_neg (fun h=>absurd (xN h) (by decide)),if_neg (by decide+kernel)]
 ·rw[show evR 0 10 4= [0,mkRat 10 3,mkRat 20 3,10] by decide+kernel];rfl
 ·rintro (h | h)
  ·exact h ((aIq z0 z1 ⟨by decide,by decide⟩).2 (by decide))
  ·exact h (iQ z2 ⟨by decide,by decide⟩)
theorem aMk:Lm [[48],[49,48,48,48],[49,48,48],[52,48,48]]∧Lm [[48],[49,48],[52]]:=by
 constructor
 ·intro a ha _
  simp at ha
  rcases ha with rfl | rfl | rfl | rfl<;>decide
 ·intro a ha _
  simp at ha
  rcases ha with rfl | rfl | rfl<;>decide
theorem cL {P:Program} {c c':Con} (hc:aF P c) (hf:c'.f=c.f) (hfr:c'.fresh=c.fresh) (hl:(c'.lin,c'.own,c'.hp)=(none,none,none)) (h:∀args K,c'.cl args K→c.cl args K):aF P c':=
 aD hl (by rw[hf];exact hc.1) fun args K h'=>by
  have:=hc.2.1 args K (h args K h')
  rwa [hf,hfr]
noncomputable def c17n:Con:=aJ 97 true fun args K=>match args with
 | [.str a,.str b]=>Alt (Has (fun r=>addQ a b=(r,0)) fun r=>K (.tup [S r,I 0])) (K (.tup [S (addQ a b).1,I (addQ a b).2]))
 | _=>False
theorem k17n:aF Tryz.prog c17n:=cL k17 rfl rfl rfl fun args K h=>by
 simp only[c17n] at h
 split at h
 ·rcases h.or with h | h
  ·obtain ⟨r,e,h⟩:=h.ex
   show K _
   rw[e];exact h
  ·exact h
 ·exact h.elim
noncomputable def c20n:Con:=aJ 15 true fun args K=>match args with
 | [.str a,.str b]=>Alt (Has (fun r=>subQ a b=(r,0)) fun r=>K (.tup [S r,I 0])) (K (.tup [S (subQ a b).1,I (subQ a b).2]))
 | _=>False
theorem k20n:aF Tryz.prog c20n:=cL k20 rfl rfl rfl fun args K h=>by
 simp only[c20n] at h
 split at h
 ·rcases h.or with h | h
  ·obtain ⟨r,e,h⟩:=h.ex
   show K _
   rw[e];exact h
  ·exact h
 ·exact h.elim
noncomputable def c19n:Con:=aJ 98 true fun args K=>match args with
 | [.str a,.str b]=>Alt (Has (fun r=>mulQ a b=(r,0)) fun r=>K (.tup [S r,I 0])) (K (.tup [S (mulQ a b).1,I (mulQ a b).2]))
 | _=>False
theorem k19n:aF Tryz.prog c19n:=cL k19 rfl rfl rfl fun args K h=>by
 simp only[c19n] at h
 split at h
 ·rcases h.or with h | h
  ·obtain ⟨r,e,h⟩:=h.ex
   show K _
   rw[e];exact h
  ·exact h
 ·exact h.elim
noncomputable def c14n:Con:=aJ 18 true fun args K=>match args with
 | [.str a,.str b]=>Alt (Has (fun r=>divQ a b=(r,0)) fun r=>K (.tup [S r,I 0])) (K (.tup [S (divQ a b).1,I (divQ a b).2]))
 | _=>False
theorem k14n:aF Tryz.prog c14n:=cL k14 rfl rfl rfl fun args K h=>by
 simp only[c14n] at h
 split at h
 ·rcases h.or with h | h
  ·obtain ⟨r,e,h⟩:=h.ex
   show K _
   rw[e];exact h
  ·exact h
 ·exact h.elim
noncomputable def c39n:Con:=aJ 96 true fun args K=>match args with
 | [.str a,.str b]=>Alt (Has (fun r=>addQ a b=(r,0)) fun r=>K (.tup [S r,I 0])) (K (.tup [S (addQ a b).1,I (addQ a b).2]))
 | _=>False
theorem k39n:aF Tryz.prog c39n:=cL k39 rfl rfl rfl fun args K h=>by
 simp only[c39n] at h
 split at h
 ·rcases h.or with h | h
  ·obtain ⟨r,e,h⟩:=h.ex
   show K _
   rw[e];exact h
  ·exact h
 ·exact h.elim
noncomputable def c40n:Con:=aJ 21 true fun args K=>match args with
 | [.str a,.str b]=>Alt (Has (fun r=>subQ a b=(r,0)) fun r=>K (.tup [S r,I 0])) (K (.tup [S (subQ a b).1,I (subQ a b).2]))
 | _=>False
theorem k40n:aF Tryz.prog c40n:=cL k40 rfl rfl rfl fun args K h=>by
 simp only[c40n] at h
 split at h
 ·rcases h.or with h | h
  ·obtain ⟨r,e,h⟩:=h.ex
   show K _
   rw[e];exact h
  ·exact h
 ·exact h.elim
noncomputable def c41n:Con:=aJ 95 true fun args K=>match args with
 | [.str a,.str b]=>Alt (Has (fun r=>mulQ a b=(r,0)) fun r=>K (.tup [S r,I 0])) (K (.tup [S (mulQ a b).1,I (mulQ a b).2]))
 | _=>False
theorem k41n:aF Tryz.prog c41n:=cL k41 rfl rfl rfl fun args K h=>by
 simp only[c41n] at h
 split at h
 ·rcases h.or with h | h
  ·obtain ⟨r,e,h⟩:=h.ex
   show K _
   rw[e];exact h
  ·exact h
 ·exact h.elim
noncomputable def c42n:Con:=aJ 22 true fun args K=>match args with
 | [.str a,.str b]=>Alt (Has (fun r=>divQ a b=(r,0)) fun r=>K (.tup [S r,I 0])) (K (.tup [S (divQ a b).1,I (divQ a b).2]))
 | _=>False
theorem k42n:aF Tryz.prog c42n:=cL k42 rfl rfl rfl fun args K h=>by
 simp only[c42n] at h
 split at h
 ·rcases h.or with h | h
  ·obtain ⟨r,e,h⟩:=h.ex
   show K _
   rw[e];exact h
  ·exact h
 ·exact h.elim
noncomputable def c43n:Con:=aJ 43 true fun args K=>match args with
 | [.str a,.str b]=>Alt (Has (fun r=>cmpQ a b=(r,0)) fun r=>K (.tup [I r,I 0])) (K (.tup [I (cmpQ a b).1,I (cmpQ a b).2]))
 | _=>False
theorem k43n:aF Tryz.prog c43n:=cL k43 rfl rfl rfl fun args K h=>by
 simp only[c43n] at h
 split at h
 ·rcases h.or with h | h
  ·obtain ⟨r,e,h⟩:=h.ex
   show K _
   rw[e];exact h
  ·exact h
 ·exact h.elim
theorem ixAt {n:Int} {C:Nat→Prop} (j:Nat) (e:n=j) (h:C j):Ix n C:=⟨fun i h'=>by
 have:j=i:=by omega
 subst this;exact h⟩
theorem b2028 (l:List (List UInt8)):body Tryz.prog [c21,c38] { asks:=[(0,[])] } true Tryz.f28 [.seq .str l] (I (ckS l)):=by
 by_cases hl:4096<l.length
 ·rw[show ckS l=4 from if_pos hl]
  (repeat'((conv=>whnf);first|refine Zg fun _=>?_|refine Zy ?_|fail))
  (conv=>whnf)
  (repeat'(first|rfl|refine And.intro ?_ ?_|fail))
 ·rw[show ckS l=ckF l from if_neg hl]
  (repeat'((conv=>whnf);first|refine Zg fun _=>?_|refine Zm ?_|fail))
  refine Ask.mk ⟨{ X:=Nat,pre:=fun i=>i≤l.length∧ckAt l i=ckF l,mod:=fun i _=>[(13,I i)],heap:=fun i H=>H,mu:=fun i=>l.length-i },rfl,?_⟩
  (repeat'((conv=>whnf);first|refine Zn ?_|fail))
  refine ⟨⟨(0:Nat),⟨Nat.zero_le _,rfl⟩,?_⟩,fun (i:Nat) hi=>?_⟩
  ·(repeat'(first|exact trivial|rfl|refine And.intro ?_ ?_|fail))
  obtain ⟨hi,hc⟩:=hi
  by_cases hlt:i<l.length
  ·by_cases hk:chkQ (l.getD i [])=0
   ·rcases i with _ | i
    ·(repeat'((conv=>whnf);first|refine Zn ?_|refine Z0 ?_|refine Zy ?_|refine Zm ?_|fail))
     refine ⟨(1:Nat),by show l.length-1<l.length-0;omega,⟨hlt,(aE7 hlt hk).trans hc⟩,?_⟩
     (repeat'(first|exact trivial|rfl|refine And.intro ?_ ?_|fail))
    ·(repeat'((conv=>whnf);first|refine Zn ?_|refine Zj ?_|refine Zy ?_|refine Zm ?_|fail))
     refine ixAt i (by omega) ?_
     by_cases h2:(cmpQ (l.getD i []) (l.getD (i+1) [])).2=0
     ·by_cases h3:0≤(cmpQ (l.getD i []) (l.getD (i+1) [])).1
      ·rw[← hc,aE6 hlt hk h2 h3]
       (repeat'((conv=>whnf);first|refine Zy ?_|refine Zm ?_|fail))
       (conv=>whnf)
       (repeat'(first|rfl|refine And.intro ?_ ?_|fail))
      ·(repeat'((conv=>whnf);first|refine Zn ?_|refine Zm ?_|fail))
       refine ⟨(i+2:Nat),by show l.length-(i+2)<l.length-(i+1);omega,⟨hlt,(aIp hlt hk h2 h3).trans hc⟩,?_⟩
       (repeat'(first|exact trivial|rfl|refine And.intro ?_ ?_|fail))
     ·rw[← hc,aE5 hlt hk h2]
      (repeat'((conv=>whnf);first|refine Zy ?_|fail))
      (conv=>whnf)
      (repeat'(first|rfl|refine And.intro ?_ ?_|fail))
   ·rw[← hc,aE4 hlt hk]
    (repeat'((conv=>whnf);first|refine Zn ?_|refine Zj ?_|refine Zy ?_|fail))
    (conv=>whnf)
    (repeat'(first|rfl|refine And.intro ?_ ?_|fail))
  ·have e:i=l.length:=by omega
   subst e
   rw[← hc,aE3]
   (repeat'((conv=>whnf);first|refine Zm ?_|fail))
   (conv=>whnf)
   (repeat'(first|rfl|refine And.intro ?_ ?_|fail))
def aJd:Con:=aJ 28 true fun args K=>match args with | [.seq .str l]=>K (I (ckS l)) | _=>False
theorem k2028:aF Tryz.prog aJd:=by
 refine aD rfl (enters_of Tryz.func28 (by kernel_rfl) rfl) ?_
 intro args K h
 simp only[aJd] at h
 split at h
 ·rename_i l;exact ⟨_,h,aA (Γ:=[c21,c38]) (by simp[k21,k38]) Tryz.func28 (by simp[Tryz.ntmps28]) rfl (b2028 l)⟩
 ·exact h.elim
theorem b2029 (l:List (List UInt8)):body Tryz.prog [c44,c43] { asks:=[(0,[])] } true Tryz.f29 [.seq .str l] (I (ckS l)):=by
 by_cases hl:4096<l.length
 ·rw[show ckS l=4 from if_pos hl]
  (repeat'((conv=>whnf);first|refine Zg fun _=>?_|refine Zy ?_|fail))
  (conv=>whnf)
  (repeat'(first|rfl|refine And.intro ?_ ?_|fail))
 ·rw[show ckS l=ckF l from if_neg hl]
  (repeat'((conv=>whnf);first|refine Zg fun _=>?_|refine Zm ?_|fail))
  refine Ask.mk ⟨{ X:=Nat,pre:=fun i=>i≤l.length∧ckAt l i=ckF l,mod:=fun i _=>[(3,I i)],heap:=fun i H=>H,mu:=fun i=>l.length-i },rfl,?_⟩
  (repeat'((conv=>whnf);first|refine Zn ?_|fail))
  refine ⟨⟨(0:Nat),⟨Nat.zero_le _,rfl⟩,?_⟩,fun (i:Nat) hi=>?_⟩
  ·(repeat'(first|exact trivial|rfl|refine And.intro ?_ ?_|fail))
  obtain ⟨hi,hc⟩:=hi
  by_cases hlt:i<l.length
  ·by_cases hk:chkQ (l.getD i [])=0
   ·rcases i with _ | i
    ·(repeat'((conv=>whnf);first|refine Zg fun _=>?_|refine Zn ?_|refine Z0 ?_|refine Zy ?_|refine Zm ?_|fail))
     refine ⟨(1:Nat),by show l.length-1<l.length-0;omega,⟨hlt,(aE7 hlt hk).trans hc⟩,?_⟩
     (repeat'(first|exact trivial|rfl|refine And.intro ?_ ?_|fail))
    ·(repeat'((conv=>whnf);first|refine Zg fun _=>?_|refine Zn ?_|refine Zj ?_|(apply Pin.mk;apply Exists.intro)|apply Pinned.mk rfl rfl|refine Zy ?_|refine Zm ?_|fail))
     refine ixAt i (by omega) ?_
     by_cases h2:(cmpQ (l.getD i []) (l.getD (i+1) [])).2=0
     ·by_cases h3:0≤(cmpQ (l.getD i []) (l.getD (i+1) [])).1
      ·rw[← hc,aE6 hlt hk h2 h3]
       (repeat'((conv=>whnf);first|refine Zn ?_|refine Zj ?_|(apply Pin.mk;apply Exists.intro)|apply Pinned.mk rfl rfl|refine Zy ?_|refine Zm ?_|fail))
       (conv=>whnf)
       (repeat'(first|rfl|refine And.intro ?_ ?_|fail))
      ·(repeat'((conv=>whnf);first|refine Zn ?_|refine Zj ?_|(apply Pin.mk;apply Exists.intro)|apply Pinned.mk rfl rfl|refine Zm ?_|fail))
       refine ⟨(i+2:Nat),by show l.length-(i+2)<l.length-(i+1);omega,⟨hlt,(aIp hlt hk h2 h3).trans hc⟩,?_⟩
       (repeat'(first|exact trivial|rfl|refine And.intro ?_ ?_|fail))
     ·rw[← hc,aE5 hlt hk h2]
      (repeat'((conv=>whnf);first|refine Zn ?_|refine Zj ?_|(apply Pin.mk;apply Exists.intro)|apply Pinned.mk rfl rfl|refine Zy ?_|fail))
      (conv=>whnf)
      (repeat'(first|rfl|refine And.intro ?_ ?_|fail))
   ·rw[← hc,aE4 hlt hk]
    (repeat'((conv=>whnf);first|refine Zg fun _=>?_|refine Zn ?_|refine Zj ?_|refine Zy ?_|fail))
    (conv=>whnf)
    (repeat'(first|rfl|refine And.intro ?_ ?_|fail))
  ·have e:i=l.length:=by omega
   subst e
   rw[← hc,aE3]
   (repeat'((conv=>whnf);first|refine Zg fun _=>?_|refine Zm ?_|fail))
   (conv=>whnf)
   (repeat'(first|rfl|refine And.intro ?_ ?_|fail))
def aJe:Con:=aJ 29 true fun args K=>match args with | [.seq .str l]=>K (I (ckS l)) | _=>False
theorem k2029:aF Tryz.prog aJe:=by
 refine aD rfl (enters_of Tryz.func29 (by kernel_rfl) rfl) ?_
 intro args K h
 simp only[aJe] at h
 split at h
 ·rename_i l;exact ⟨_,h,aA (Γ:=[c44,c43]) (by simp[k44,k43]) Tryz.func29 (by simp[Tryz.ntmps29]) rfl (b2029 l)⟩
 ·exact h.elim
theorem b2062 (a b:List UInt8):body Tryz.prog [c38] {} true Tryz.f62 [.agg [S a,S b]] (.bl (rgP a b) inferInstance):=by
 unfold rgP
 by_cases h1:(cmpQ a b).2=0
 ·(repeat'((conv=>whnf);first|refine Zy ?_|fail))
  (conv=>whnf)
  exact ⟨fun h=>⟨h1,h⟩,fun h=>h.2⟩
 ·(repeat'((conv=>whnf);first|refine Zm ?_|fail))
  (conv=>whnf)
  exact fun h=>h1 h.1
def aA0:Con:=aJ 62 true fun args K=>match args with | [.agg [.str a,.str b]]=>K (.bl (rgP a b) inferInstance) | _=>False
theorem aQe:aF Tryz.prog aA0:=by
 refine aD rfl (enters_of Tryz.func62 (by kernel_rfl) rfl) ?_
 intro args K h
 simp only[aA0] at h
 split at h
 ·rename_i a b;exact ⟨_,h,aA (Γ:=[c38]) (by simp[k38]) Tryz.func62 (by simp[Tryz.ntmps62]) rfl (b2062 a b)⟩
 ·exact h.elim
noncomputable def ordQ (a b:List UInt8):Int:=if (cmpQ a b).2=0 then (cmpQ a b).1 else -2
theorem aKy (a b:Int):cmpI a b= -1∨cmpI a b=0∨cmpI a b=1:=by unfold cmpI;split;exact .inl rfl;split;exact .inr (.inl rfl);exact .inr (.inr rfl)
theorem aA1 (a b:List UInt8):(cmpQ a b).1= -1∨(cmpQ a b).1=0∨(cmpQ a b).1=1:=by
 unfold cmpQ
 split
 ·exact .inr (.inl rfl)
 split
 ·exact .inr (.inl rfl)
 unfold cmpf
 split
 ·exact .inr (.inl rfl)
 ·exact aKy _ _
theorem aPh (a b:List UInt8):(ordQ a b= -1∨ordQ a b=0)↔rgP a b:=by
 have h:=aA1 a b
 unfold ordQ rgP
 split
 ·rename_i h1
  constructor
  ·intro h2;exact ⟨h1,by omega⟩
  ·intro h2;omega
 ·rename_i h1
  constructor
  ·intro h2;omega
  ·intro h2;exact absurd h2.1 h1
theorem b2091 (a b:List UInt8):body Tryz.prog [c43] {} true Tryz.f91 [S a,S b] (I (ordQ a b)):=by
 unfold ordQ
 by_cases h:(cmpQ a b).2=0
 ·rw[if_pos h]
  (repeat'((conv=>whnf);first|refine Zm ?_|fail))
  (conv=>whnf)
  (repeat'(first|rfl|refine And.intro ?_ ?_|fail))
 ·rw[if_neg h]
  (repeat'((conv=>whnf);first|refine Zy ?_|fail))
  (conv=>whnf)
  (repeat'(first|rfl|refine And.intro ?_ ?_|fail))
def uM:Con:=aJ 91 true fun args K=>match args with | [.str a,.str b]=>K (I (ordQ a b)) | _=>False
theorem aNf:aF Tryz.prog uM:=by
 refine aD rfl (enters_of Tryz.func91 (by kernel_rfl) rfl) ?_
 intro args K h
 simp only[uM] at h
 split at h
 ·rename_i a b;exact ⟨_,h,aA (Γ:=[c43]) (by simp[k43]) Tryz.func91 (by simp[Tryz.ntmps91]) rfl (b2091 a b)⟩
 ·exact h.elim
theorem b2089 (a b:List UInt8):body Tryz.prog [uM] {} true Tryz.f89 [.agg [S a,S b]] (.bl (rgP a b) inferInstance):=by
 have h:=aPh a b
 by_cases h1:ordQ a b= -1
 ·(repeat'((conv=>whnf);first|refine Zy ?_|fail))
  (conv=>whnf)
  exact h.1 (.inl h1)
 ·(repeat'((conv=>whnf);first|refine Zm ?_|fail))
  (conv=>whnf)
  exact ⟨fun h2=>h.1 (.inr h2),fun h2=>(h.2 h2).resolve_left h1⟩
def aA2:Con:=aJ 89 true fun args K=>match args with | [.agg [.str a,.str b]]=>K (.bl (rgP a b) inferInstance) | _=>False
theorem aQf:aF Tryz.prog aA2:=by
 refine aD rfl (enters_of Tryz.func89 (by kernel_rfl) rfl) ?_
 intro args K h
 simp only[aA2] at h
 split at h
 ·rename_i a b;exact ⟨_,h,aA (Γ:=[uM]) (by simp[aNf]) Tryz.func89 (by simp[Tryz.ntmps89]) rfl (b2089 a b)⟩
 ·exact h.elim
theorem b2090 (a:List UInt8):body Tryz.prog [c44] {} true Tryz.f90 [S a] (.bl (chkQ a=0) inferInstance):=by
 skip
 (conv=>whnf)
 skip
def aA3:Con:=aJ 90 true fun args K=>match args with | [.str a]=>K (.bl (chkQ a=0) inferInstance) | _=>False
theorem aQg:aF Tryz.prog aA3:=by
 refine aD rfl (enters_of Tryz.func90 (by kernel_rfl) rfl) ?_
 intro args K h
 simp only[aA3] at h
 split at h
 ·rename_i a;exact ⟨_,h,aA (Γ:=[c44]) (by simp[k44]) Tryz.func90 (by simp[Tryz.ntmps90]) rfl (b2090 a)⟩
 ·exact h.elim
set_option exponentiation.threshold 400 in
theorem cmp0 {a:List UInt8} (h:chkQ a=0):cmpQ a [48]=(cmpR (valQ a) 0,0):=by
 obtain ⟨e,h1,h2⟩:=rP h
 have z:Sz 300 (valQ a):=by
  refine ⟨fR (Nat.le_trans (Nat.le_of_eq ?_) h1),?_⟩
  ·rw[← bN,← fF,← e]
  ·have:(valQ a).den<10^300∨(valQ a).den=1:=by
    by_cases hd:(valQ a).den=1
    ·exact .inr hd
    ·refine .inl (fR (Nat.le_trans (Nat.le_of_eq ?_) h2))
     conv=>rhs;rw[e,gO,if_neg hd]
     rfl
   rcases this with h | h
   ·exact h
   ·rw[h];exact Nat.one_lt_pow (by decide) (by decide)
 have e0:=numS0
 conv=>lhs;rw[e,← e0]
 have p1:(1:Nat)<10^300:=Nat.one_lt_pow (by decide) (by decide)
 refine aMp (k:=300) ⟨by decide,by decide⟩ z ⟨Nat.lt_trans Nat.zero_lt_one p1,p1⟩ ?_ ?_
 ·rw[show (0:Rat).den=1 from rfl,Nat.mul_one];exact z.1
 ·rw[show (0:Rat).num.natAbs=0 from rfl,Nat.zero_mul];exact Nat.lt_trans Nat.zero_lt_one p1
theorem b2064 (a:List UInt8):body Tryz.prog [c38] {} true Tryz.f64 [S a] (.bl ((cmpQ a [48]).2=0∧0<(cmpQ a [48]).1) inferInstance):=by
 by_cases h1:(cmpQ a [48]).2=0
 ·(repeat'((conv=>whnf);first|refine Zy ?_|fail))
  (conv=>whnf)
  exact ⟨fun h=>⟨h1,h⟩,fun h=>h.2⟩
 ·(repeat'((conv=>whnf);first|refine Zm ?_|fail))
  (conv=>whnf)
  exact fun h=>h1 h.1
def aA4:Con:=aJ 64 true fun args K=>match args with | [.str a]=>K (.bl ((cmpQ a [48]).2=0∧0<(cmpQ a [48]).1) inferInstance) | _=>False
theorem aQh:aF Tryz.prog aA4:=by
 refine aD rfl (enters_of Tryz.func64 (by kernel_rfl) rfl) ?_
 intro args K h
 simp only[aA4] at h
 split at h
 ·rename_i a;exact ⟨_,h,aA (Γ:=[c38]) (by simp[k38]) Tryz.func64 (by simp[Tryz.ntmps64]) rfl (b2064 a)⟩
 ·exact h.elim
set_option linter.unusedSimpArgs false
def CmpAll (a b:List (List UInt8)):Prop:=∀x∈a,∀y∈b,(cmpQ x y).2=0
theorem CmpAll.drop {a b:List (List UInt8)} (h:CmpAll a b) (i j:Nat):CmpAll (a.drop i) (b.drop j):=fun x hx y hy=>h x (List.mem_of_mem_drop hx) y (List.mem_of_mem_drop hy)
set_option linter.unusedSimpArgs false
theorem b2065 (a:List UInt8):aDt Tryz.prog [] {} Tryz.f65 [.ptr 0 0,S a,I 0] [.cells [I 0] 77] (fun r H'=>r=S a∧H'= [.cells [I 0] 77]):=by
 (conv=>whnf)
 refine Need.mk rfl ?_
 (repeat'((conv=>whnf);first|refine Zy ?_|fail))
 (conv=>whnf)
 refine ⟨_,_,⟨rfl,rfl⟩,rfl,?_,rfl,rfl,?_⟩
 all_goals (repeat'(first|exact trivial|rfl|refine And.intro ?_ ?_|fail))
noncomputable def aFt:Con:=aLw 65 77 fun args e0 K=>match args with | [.str a,.val (.int .i64 n)]=>Need (e0=0∧n=0) (K (S a) 0) | _=>False
theorem aQi:aF Tryz.prog aFt:=by
 refine aLx (enters_of Tryz.func65 (by kernel_rfl) rfl) ?_
 intro args e0 K h
 split at h
 ·rename_i a n
  obtain ⟨⟨h1,h2⟩,hk⟩:=h
  subst h1 h2
  exact ⟨_,_,hk,rfl,mD (Γ:=[]) (by simp) Tryz.func65 (by simp[Tryz.ntmps65]) (b2065 a)⟩
 ·exact h.elim
theorem aRk (a:List UInt8):body Tryz.prog [] {} true Tryz.f65 [.wcel 0,S a,I 0] (S a):=by
 (repeat'((conv=>whnf);first|refine Zn ?_|refine Zy ?_|fail))
 (conv=>whnf)
 skip
def yB:Con:=aJ 65 true fun args K=>match args with | [.wcel 0,.str a,.val (.int .i64 0)]=>K (S a) | _=>False
theorem aRl:aF Tryz.prog yB:=by
 refine aD rfl (enters_of Tryz.func65 (by kernel_rfl) rfl) ?_
 intro args K h
 simp only[yB] at h
 split at h
 ·rename_i a;exact ⟨_,h,aA (Γ:=[]) (by simp) Tryz.func65 (by simp[Tryz.ntmps65]) rfl (aRk a)⟩
 ·exact h.elim
theorem b2067 (a:List UInt8):body Tryz.prog [c31] {} true Tryz.f67 [S a] (.tup [I (inQ a).1,.bl ((inQ a).2=0) inferInstance]):=by
 skip
 (conv=>whnf)
 (repeat'(first|exact trivial|rfl|refine And.intro ?_ ?_|fail))
def aQj:Con:=aJ 67 true fun args K=>match args with | [.str a]=>K (.tup [I (inQ a).1,.bl ((inQ a).2=0) inferInstance]) | _=>False
theorem k2067:aF Tryz.prog aQj:=by
 refine aD rfl (enters_of Tryz.func67 (by kernel_rfl) rfl) ?_
 intro args K h
 simp only[aQj] at h
 split at h
 ·rename_i a;exact ⟨_,h,aA (Γ:=[c31]) (by simp[k31]) Tryz.func67 (by simp[Tryz.ntmps67]) rfl (b2067 a)⟩
 ·exact h.elim
theorem b2070 (f s:List UInt8) (n:Int):body Tryz.prog [] {} false Tryz.f70 [.wcel 0,S f,S s,I n] (.clo 133 [] [.wcel n,.lelem [.wcel 0] 0,.lelem [S s] 0,.lelem [S f] 0]):=by
 skip
 (conv=>whnf)
 (repeat'(first|exact trivial|rfl|refine And.intro ?_ ?_|fail))
def aA5:Con:=aJ 70 false fun args K=>match args with | [.wcel 0,.str f,.str s,.val (.int .i64 n)]=>K (.clo 133 [] [.wcel n,.lelem [.wcel 0] 0,.lelem [S s] 0,.lelem [S f] 0]) | _=>False
theorem aQk:aF Tryz.prog aA5:=by
 refine aD rfl (enters_of Tryz.func70 (by kernel_rfl) rfl) ?_
 intro args K h
 simp only[aA5] at h
 split at h
 ·rename_i f s n;exact ⟨_,h,aA (Γ:=[]) (by simp) Tryz.func70 (by simp[Tryz.ntmps70]) rfl (b2070 f s n)⟩
 ·exact h.elim
noncomputable def mulA (f s:List UInt8) (k:Nat):List UInt8:=(addQ f (mulQ s (itoa k)).1).1
def OkM (f s:List UInt8) (n:Nat):Prop:=∀k,k<n→(mulQ s (itoa k)).2=0∧(addQ f (mulQ s (itoa k)).1).2=0
noncomputable def mulL (f s:List UInt8) (n:Nat):List (List UInt8):=(List.range n).map (mulA f s)
theorem aA6 (f s:List UInt8) (n:Nat):mulL f s (n+1)=mulL f s n++ [mulA f s n]:=by
 unfold mulL;rw[List.range_succ,List.map_append];rfl
theorem aFu (f s:List UInt8) (n:Nat):(mulL f s n).length=n:=by unfold mulL;rw[List.length_map,List.length_range]
noncomputable abbrev itM (f s:List UInt8) (k:Nat):List SV:=[S (mulA f s k)]
theorem b2133 (f s:List UInt8) (n:Nat) (h:OkM f s n∧n≤1000000):vT Tryz.prog [c61,c19n,c17n,yB] { asks:=[(0,[])] } Tryz.f133 [.wcel n,.lelem [.wcel 0] 0,.lelem [S s] 0,.lelem [S f] 0] n (itM f s):=by
 obtain ⟨h,hn⟩:=h
 skip
 refine Ask.mk ⟨{ X:=Nat,pre:=fun i=>i≤n,mod:=fun i _=>[(9,I i)],heap:=fun i _=>[.yst (some i) n (itM f s)],mu:=fun i=>n-i },rfl,?_⟩
 (repeat'((conv=>whnf);first|refine Zn ?_|fail))
 refine ⟨⟨(0:Nat),Nat.zero_le _,by (repeat'(first|exact trivial|rfl|refine And.intro ?_ ?_|fail))⟩,fun (i:Nat) hi=>?_⟩
 have hi:i≤n:=hi
 by_cases hlt:i<n
 ·obtain ⟨h1,h2⟩:=h i hlt
  have e1:mulQ s (itoa i)=((mulQ s (itoa i)).1,0):=Prod.ext rfl h1
  have e2:addQ f (mulQ s (itoa i)).1=((addQ f (mulQ s (itoa i)).1).1,0):=Prod.ext rfl h2
  (repeat'((conv=>whnf);first|refine Zn ?_|(apply Pin.mk;apply Exists.intro)|apply Pinned.mk rfl rfl|refine .h ?_|refine Zy ?_|refine Zm ?_|fail))
  refine Need.mk (by (repeat'(first|exact trivial|rfl|refine And.intro ?_ ?_|fail))) ?_
  refine Two.mk ?_ ?_
  ·(repeat'((conv=>whnf);first|refine Zn ?_|fail))
   refine ⟨(i+1:Nat),by show n-(i+1)<n-i;omega,hlt,?_⟩
   (repeat'(first|exact trivial|rfl|refine And.intro ?_ ?_|fail))
  ·skip
   (conv=>whnf)
   trivial
 ·have e:i=n:=by omega
  subst e
  (repeat'((conv=>whnf);first|refine Zm ?_|fail))
  (conv=>whnf)
  skip
theorem aRm (n:Int) (s f:List UInt8) (h:0≤n∧OkM f s n.toNat∧n≤1000000):vT Tryz.prog [c61,c19n,c17n,yB] { asks:=[(0,[])] } Tryz.f133 [.wcel n,.lelem [.wcel 0] 0,.lelem [S s] 0,.lelem [S f] 0] n.toNat (itM f s):=by
 have:=b2133 f s n.toNat ⟨h.2.1,by omega⟩
 rwa [show ((n.toNat:Nat):Int)=n by omega] at this
def aC7:Con:=aJ 133 false fun args K=>match args with | [.wcel n,.lelem [.wcel 0] 0,.lelem [.str s] 0,.lelem [.str f] 0]=>Need (0≤n∧OkM f s n.toNat∧n≤1000000) (K (.itr n.toNat (itM f s))) | _=>False
theorem aRn:aF Tryz.prog aC7:=by
 refine aD rfl (enters_of Tryz.func133 (by kernel_rfl) rfl) ?_
 intro args K h
 simp only[aC7] at h
 split at h
 ·rename_i n s f;exact ⟨_,h.go,jF (Γ:=[c61,c19n,c17n,yB]) (by simp[k61,k19n,k17n,aRl]) Tryz.func133 (by simp[Tryz.ntmps133]) (aRm n s f h.ok)⟩
 ·exact h.elim
theorem b2187 (n:Int) (s f:List UInt8) (h:0≤n∧OkM f s n.toNat∧n≤1000000):body Tryz.prog [aC7] { asks:=[(0,[1])] } true Tryz.f187 [.val (.slice none 0 0),.clo 133 [] [.wcel n,.lelem [.wcel 0] 0,.lelem [S s] 0,.lelem [S f] 0]] (.seq .str (mulL f s n.toNat)):=by
 have hl:=fun i=>aFu f s i
 skip
 refine Own.r ?_
 refine ⟨0,.str,22,?_⟩
 skip
 refine Ask.mk ⟨{ X:=Nat,pre:=fun i=>i≤n.toNat,mod:=fun _ _=>[],heap:=fun i H=>[hget H 0,.vec 1 .str (mulL f s i) 22,hget H 2],mu:=fun i=>i,objs:=[1] },rfl,?_⟩
 (repeat'((conv=>whnf);first|refine Zn ?_|fail))
 refine ⟨⟨(0:Nat),rfl,Nat.zero_le _,by (repeat'(first|exact trivial|rfl|exact Nat.one_pos|refine And.intro ?_ ?_|fail))⟩,fun (i:Nat) hi (hlt:i<n.toNat)=>?_,fun (i:Nat) hi (he:i=n.toNat)=>?_⟩
 ·have hli:=hl i
  have hn:=h.2.2
  show hnfL (itM f s i) _
  (repeat'((conv=>whnf);first|refine Zn ?_|refine Zl ?_|fail))
  refine ⟨(i+1:Nat),rfl,hlt,?_⟩
  (repeat'(first|exact trivial|rfl|exact Nat.one_pos|refine And.intro ?_ ?_|fail))
  exact (aA6 f s i).symm
 ·subst he
  skip
  (conv=>whnf)
  skip
def aJf:Con:=aJ 187 true fun args K=>match args with | [.val (.slice none 0 0),.clo 133 [] [.wcel n,.lelem [.wcel 0] 0,.lelem [.str s] 0,.lelem [.str f] 0]]=>Need (0≤n∧OkM f s n.toNat∧n≤1000000) (K (.seq .str (mulL f s n.toNat))) | _=>False
theorem k2187:aF Tryz.prog aJf:=by
 refine aD rfl (enters_of Tryz.func187 (by kernel_rfl) rfl) ?_
 intro args K h
 simp only[aJf] at h
 split at h
 ·rename_i n s f;exact ⟨_,h.go,aA (Γ:=[aC7]) (by simp[aRn]) Tryz.func187 (by simp[Tryz.ntmps187]) rfl (b2187 n s f h.ok)⟩
 ·exact h.elim
theorem b2132 (n:Int) (s f:List UInt8) (h:0≤n∧OkM f s n.toNat∧n≤1000000):body Tryz.prog [aJf] {} false Tryz.f132 [.clo 133 [] [.wcel n,.lelem [.wcel 0] 0,.lelem [S s] 0,.lelem [S f] 0]] (.seq .str (mulL f s n.toNat)):=by
 (repeat'((conv=>whnf);first|refine Zn ?_|fail))
 (conv=>whnf)
 skip
def aJg:Con:=aJ 132 false fun args K=>match args with | [.clo 133 [] [.wcel n,.lelem [.wcel 0] 0,.lelem [.str s] 0,.lelem [.str f] 0]]=>Need (0≤n∧OkM f s n.toNat∧n≤1000000) (K (.seq .str (mulL f s n.toNat))) | _=>False
theorem k2132:aF Tryz.prog aJg:=by
 refine aD rfl (enters_of Tryz.func132 (by kernel_rfl) rfl) ?_
 intro args K h
 simp only[aJg] at h
 split at h
 ·rename_i n s f;exact ⟨_,h.go,aA (Γ:=[aJf]) (by simp[k2187]) Tryz.func132 (by simp[Tryz.ntmps132]) rfl (b2132 n s f h.ok)⟩
 ·exact h.elim
theorem b2069 (n:Int) (s f:List UInt8) (h:0≤n∧OkM f s n.toNat∧n≤1000000):body Tryz.prog [aJg] {} false Tryz.f69 [.wcel 0,.clo 133 [] [.wcel n,.lelem [.wcel 0] 0,.lelem [S s] 0,.lelem [S f] 0]] (.tup [.seq .str (mulL f s n.toNat),I 0]):=by
 (repeat'((conv=>whnf);first|refine Zn ?_|refine Zm ?_|fail))
 (conv=>whnf)
 (repeat'(first|exact trivial|rfl|refine And.intro ?_ ?_|fail))
def aA7:Con:=aJ 69 false fun args K=>match args with | [.wcel 0,.clo 133 [] [.wcel n,.lelem [.wcel 0] 0,.lelem [.str s] 0,.lelem [.str f] 0]]=>Need (0≤n∧OkM f s n.toNat∧n≤1000000) (K (.tup [.seq .str (mulL f s n.toNat),I 0])) | _=>False
theorem aQl:aF Tryz.prog aA7:=by
 refine aD rfl (enters_of Tryz.func69 (by kernel_rfl) rfl) ?_
 intro args K h
 simp only[aA7] at h
 split at h
 ·rename_i n s f;exact ⟨_,h.go,aA (Γ:=[aJg]) (by simp[k2132]) Tryz.func69 (by simp[Tryz.ntmps69]) rfl (b2069 n s f h.ok)⟩
 ·exact h.elim
noncomputable def c29n:Con:=aJ 66 true fun args K=>match args with
 | [.str a]=>Alt (Has (fun r=>flQ a=(r,0)) fun r=>K (.tup [S r,I 0])) (K (.tup [S (flQ a).1,I (flQ a).2]))
 | _=>False
theorem k29n:aF Tryz.prog c29n:=cL k29 rfl rfl rfl fun args K h=>by
 simp only[c29n] at h
 split at h
 ·rcases h.or with h | h
  ·obtain ⟨r,e,h⟩:=h.ex
   show K _
   rw[e];exact h
  ·exact h
 ·exact h.elim
noncomputable def sZ:Con:=aJ 67 true fun args K=>match args with
 | [.str a]=>Alt (Has (fun r=>inQ a=(r,0)) fun r=>K (.tup [I r,.bl ((inQ a).2=0) inferInstance])) (K (.tup [I (inQ a).1,.bl ((inQ a).2=0) inferInstance]))
 | _=>False
theorem aNg:aF Tryz.prog sZ:=cL k2067 rfl rfl rfl fun args K h=>by
 simp only[sZ] at h
 split at h
 ·rcases h.or with h | h
  ·obtain ⟨r,e,h⟩:=h.ex
   show K _
   rw[show r=(inQ _).1 by rw[e]] at h
   exact h
  ·exact h
 ·exact h.elim
theorem aC8 {a:List UInt8} (h:chkQ a=0):((cmpQ a [48]).2=0∧0<(cmpQ a [48]).1)↔0<valQ a:=by
 rw[cmp0 h]
 have:=sB 0 (valQ a)
 rw[← this,oC (valQ a) 0]
 constructor
 ·intro h;have:=h.2;dsimp only at this;omega
 ·intro h;exact ⟨rfl,by dsimp only;omega⟩
theorem aNh {a b:List UInt8} (h:rgP a b) (h1:a.length≤82) (h2:b.length≤82):valQ a≤valQ b:=by
 obtain ⟨k1,k2⟩:=rM h
 have:=h.2
 rw[cmp82 k1 h1 k2 h2] at this
 refine Rat.not_lt.1 fun hlt=>?_
 have h3:=(sB _ _).2 hlt
 have h4:=oC (valQ a) (valQ b)
 dsimp only at this
 omega
def FewP (lo hi o s:List UInt8):Prop:=Lm [lo,hi,o,s]∧(rgP lo hi→chkQ o=0→chkQ s=0→0<valQ s→valQ hi≤valQ lo+((100:Nat):Rat)*valQ s)
theorem aNi {lo hi o s:List UInt8} (h:FewP lo hi o s) (h1:rgP lo hi) (h2:chkQ o=0) (h3:chkQ s=0) (h4:0<valQ s):AtH (valQ lo) (valQ hi) (valQ o) (valQ s)∧lo=numS (valQ lo)∧hi=numS (valQ hi)∧o=numS (valQ o)∧s=numS (valQ s):=by
 obtain ⟨k1,k2⟩:=rM h1
 have l1:=h.1 lo (by simp) k1
 have l2:=h.1 hi (by simp) k2
 have l3:=h.1 o (by simp) h2
 have l4:=h.1 s (by simp) h3
 obtain ⟨e1,z1,w1⟩:=kJ k1 l1
 obtain ⟨e2,z2,w2⟩:=kJ k2 l2
 obtain ⟨e3,z3,w3⟩:=kJ h2 l3
 obtain ⟨e4,z4,w4⟩:=kJ h3 l4
 exact ⟨⟨w1,w2,w4,z1,z2,z3,z4,aNh h1 l1 l2,h4,h.2 h1 h2 h3 h4⟩,e1,e2,e3,e4⟩
theorem aRo {L H O S:Rat} (h:AtH L H O S):OkM (numS (cU L O S)) (numS S) (bM L H O S).toNat∧mulL (numS (cU L O S)) (numS S) (bM L H O S).toNat=(atR L H O S).map numS:=by
 have hc:=h.count
 have hm:∀k,k<(bM L H O S).toNat→mulQ (numS S) (itoa k)=(numS (S*((k:Int):Rat)),0)∧addQ (numS (cU L O S)) (numS (S*((k:Int):Rat)))=(numS (atX L O S k),0):=fun k hk=>⟨h.f12 (by unfold bM at hk;omega),h.f13 (by omega)⟩
 constructor
 ·intro k hk
  obtain ⟨h1,h2⟩:=hm k hk
  rw[h1]
  exact ⟨rfl,by rw[h2]⟩
 ·unfold mulL atR
  rw[List.map_map]
  apply List.map_congr_left
  intro k hk
  obtain ⟨h1,h2⟩:=hm k (List.mem_range.1 hk)
  unfold mulA
  rw[h1,h2];rfl
set_option maxHeartbeats 1000000 in
theorem b2026 (lo hi o s:List UInt8) (hP:FewP lo hi o s):body Tryz.prog [aA0,c21,aA4,c20n,c14n,c29n,aFt,c17n,sZ,c19n,aA5,aA7] {} false Tryz.f26 [.agg [S lo,S hi],S o,S s] (.tup [.seq .str (atW lo hi o s).1,I (atW lo hi o s).2]):=by
 by_cases h1:rgP lo hi
 ·by_cases h2:chkQ o=0
  ·by_cases h3:chkQ s=0
   ·have hps:=aC8 h3
    by_cases h4:0<valQ s
    ·have h5:=hps.2 h4
     rw[show atW lo hi o s=((atR (valQ lo) (valQ hi) (valQ o) (valQ s)).map numS,0) by unfold atW;rw[if_neg (by rintro (h | h | h);exact h h1;exact h h2;exact h h3),if_neg (fun h=>h h4)]]
     obtain ⟨hA,e1,e2,e3,e4⟩:=aNi hP h1 h2 h3 h4
     generalize valQ lo=L at*
     generalize valQ hi=H at*
     generalize valQ o=O at*
     generalize valQ s=Z at*
     subst e1 e2 e3 e4
     have f1:=hA.f1
     have f2:=hA.f2
     have f3:=hA.f3
     have f4:=hA.f4
     have f5:=hA.f5
     have f6:=hA.f6
     have f7:=hA.f7
     obtain ⟨c1,c2⟩:=hA.count
     have f9:=hA.f9
     have f9':=congrArg Prod.snd f9
     have f10:=hA.f10
     have f11:=hA.f11
     obtain ⟨m1,m2⟩:=aRo hA
     have em:max (aY L O Z+cZ H O Z+1) 0=bM L H O Z:=by unfold bM;omega
     rw[← em] at m1 m2
     have hm:0≤max (aY L O Z+cZ H O Z+1) 0∧OkM (numS (cU L O Z)) (numS Z) (max (aY L O Z+cZ H O Z+1) 0).toNat∧max (aY L O Z+cZ H O Z+1) 0≤1000000:=⟨by omega,m1,by omega⟩
     rw[← m2]
     (repeat'((conv=>whnf);first|refine Zn ?_|refine .h ?_|refine Zm ?_|fail))
     (conv=>whnf)
     (repeat'(first|exact trivial|rfl|refine And.intro ?_ ?_|fail))
    ·rw[show atW lo hi o s=([],2) by unfold atW;rw[if_neg (by rintro (h | h | h);exact h h1;exact h h2;exact h h3),if_pos h4]]
     have h5:=fun h=>h4 (hps.1 h)
     (repeat'((conv=>whnf);first|refine Zy ?_|refine Zm ?_|fail))
     (conv=>whnf)
     (repeat'(first|exact trivial|rfl|refine And.intro ?_ ?_|fail))
   ·rw[show atW lo hi o s=([],1) from if_pos (.inr (.inr h3))]
    (repeat'((conv=>whnf);first|refine Zy ?_|refine Zm ?_|fail))
    (conv=>whnf)
    (repeat'(first|exact trivial|rfl|refine And.intro ?_ ?_|fail))
  ·rw[show atW lo hi o s=([],1) from if_pos (.inr (.inl h2))]
   (repeat'((conv=>whnf);first|refine Zy ?_|refine Zm ?_|fail))
   (conv=>whnf)
   (repeat'(first|exact trivial|rfl|refine And.intro ?_ ?_|fail))
 ·rw[show atW lo hi o s=([],1) from if_pos (.inl h1)]
  (repeat'((conv=>whnf);first|refine Zy ?_|fail))
  (conv=>whnf)
  (repeat'(first|exact trivial|rfl|refine And.intro ?_ ?_|fail))
def aA8:Con:=aJ 26 false fun args K=>match args with | [.agg [.str lo,.str hi],.str o,.str s]=>Need (FewP lo hi o s) (K (.tup [.seq .str (atW lo hi o s).1,I (atW lo hi o s).2])) | _=>False
theorem aQm:aF Tryz.prog aA8:=by
 refine aD rfl (enters_of Tryz.func26 (by kernel_rfl) rfl) ?_
 intro args K h
 simp only[aA8] at h
 split at h
 ·rename_i lo hi o s;exact ⟨_,h.go,aA (Γ:=[aA0,c21,aA4,c20n,c14n,c29n,aFt,c17n,sZ,c19n,aA5,aA7]) (by simp[aQe,k21,aQh,k20n,k14n,k29n,aQi,k17n,aNg,k19n,aQk,aQl]) Tryz.func26 (by simp[Tryz.ntmps26]) rfl (b2026 lo hi o s h.ok)⟩
 ·exact h.elim
theorem aNj {lo hi m:List UInt8} (h:Lm [lo,hi,m]) (h1:rgP lo hi) (h2:chkQ m=0) (h3:0<valQ m) (h4:¬lo=hi):EvH (valQ lo) (valQ hi) (valQ m)∧lo=numS (valQ lo)∧hi=numS (valQ hi)∧m=numS (valQ m):=by
 obtain ⟨k1,k2⟩:=rM h1
 have l1:=h lo (by simp) k1
 have l2:=h hi (by simp) k2
 have l3:=h m (by simp) h2
 obtain ⟨e1,z1,w1⟩:=kJ k1 l1
 obtain ⟨e2,z2,w2⟩:=kJ k2 l2
 obtain ⟨e3,z3,w3⟩:=kJ h2 l3
 refine ⟨⟨z1,z2,z3,?_,h3⟩,e1,e2,e3⟩
 refine Rat.not_le.1 fun hle=>h4 ?_
 rw[e1,e2,Rat.le_antisymm (aNh h1 l1 l2) hle]
theorem aNk {L H M:Rat} (h:EvH L H M) (hc:evC L H M≤4095):OkM (numS L) (numS (eU L H M)) (evC L H M+1).toNat∧mulL (numS L) (numS (eU L H M)) (evC L H M+1).toNat=(evR L H M).map numS:=by
 have hp:=h.cpos
 constructor
 ·intro k hk
  rw[h.e5 hc (show k≤5000 by omega)]
  exact ⟨rfl,by rw[h.e6 hc (show k≤5000 by omega)]⟩
 ·unfold mulL evR
  rw[List.map_map,show (evC L H M+1).toNat=(clI ((H-L)/M)).toNat+1 by show (clI ((H-L)/M)+1).toNat= _;have:0<clI ((H-L)/M):=hp;omega]
  apply List.map_congr_left
  intro k hk
  have hk:=List.mem_range.1 hk
  have hc':clI ((H-L)/M)≤4095:=hc
  unfold mulA
  rw[h.e5 hc (show k≤5000 by omega),h.e6 hc (show k≤5000 by omega)];rfl
set_option maxHeartbeats 1000000 in
theorem b2014 (lo hi m:List UInt8) (hP:Lm [lo,hi,m]):body Tryz.prog [aA0,c21,aA4,c20n,c14n,c29n,aFt,sZ,c61,aA5,aA7] {} false Tryz.f14 [.agg [S lo,S hi],S m] (.tup [.seq .str (evW lo hi m).1,I (evW lo hi m).2]):=by
 by_cases h1:rgP lo hi
 ·by_cases h2:chkQ m=0
  ·have hps:=aC8 h2
   by_cases h3:0<valQ m
   ·have h5:=hps.2 h3
    have e0:evW lo hi m=if lo=hi then ([lo],0) else if 4095<clI ((valQ hi-valQ lo)/valQ m) then ([],4) else ((evR (valQ lo) (valQ hi) (valQ m)).map numS,0):=by unfold evW;rw[if_neg (by rintro (h | h);exact h h1;exact h h2),if_neg (fun h=>h h3)]
    by_cases h4:lo=hi
    ·rw[if_pos h4] at e0
     rw[e0]
     (repeat'((conv=>whnf);first|refine Zl ?_|refine Zy ?_|refine Zm ?_|fail))
     (conv=>whnf)
     (repeat'(first|exact trivial|rfl|refine And.intro ?_ ?_|fail))
    ·rw[if_neg h4] at e0
     rw[e0]
     obtain ⟨hA,q1,q2,q3⟩:=aNj hP h1 h2 h3 h4
     generalize valQ lo=L at*
     generalize valQ hi=H at*
     generalize valQ m=M at*
     subst q1 q2 q3
     have e1:=hA.e1
     have e2:=hA.e2
     have e3:=hA.e3
     have e3i:=hA.e3i
     have hp:=hA.cpos
     have hcl:=aKl ((H-L)/M)
     have hpp:0<clI ((H-L)/M):=hp
     by_cases hc:4095<clI ((H-L)/M)
     ·rw[if_pos hc]
      by_cases hb:flI ((H-L)/M) < -4611686018427387904∨4611686018427387904<flI ((H-L)/M)
      ·rw[if_pos hb] at e3i
       have g1:=congrArg Prod.fst e3i
       have g2:=congrArg Prod.snd e3i
       dsimp only at g1 g2
       have g3:¬(inQ (itoa (flI ((H-L)/M)))).2=0:=by omega
       rcases hcl with ⟨hd,_⟩ | ⟨hd,_⟩
       ·have hdd:¬ ¬itoa (flI ((H-L)/M))=numS ((H-L)/M):=fun h=>h hd
        (repeat'((conv=>whnf);first|refine Zn ?_|refine .h ?_|refine .r ?_|refine Zy ?_|refine Zm ?_|fail))
        (conv=>whnf)
        (repeat'(first|exact trivial|rfl|refine And.intro ?_ ?_|fail))
       ·(repeat'((conv=>whnf);first|refine Zn ?_|refine .h ?_|refine .r ?_|refine Zy ?_|refine Zm ?_|fail))
        (conv=>whnf)
        (repeat'(first|exact trivial|rfl|refine And.intro ?_ ?_|fail))
      ·rw[if_neg hb] at e3i
       have g2:=congrArg Prod.snd e3i
       rcases hcl with ⟨hd,hq⟩ | ⟨hd,hq⟩
       ·have hdd:¬ ¬itoa (flI ((H-L)/M))=numS ((H-L)/M):=fun h=>h hd
        (repeat'((conv=>whnf);first|refine Zn ?_|refine .h ?_|refine Zy ?_|refine Zm ?_|fail))
        (conv=>whnf)
        (repeat'(first|exact trivial|rfl|refine And.intro ?_ ?_|fail))
       ·(repeat'((conv=>whnf);first|refine Zn ?_|refine .h ?_|refine Zy ?_|refine Zm ?_|fail))
        (conv=>whnf)
        (repeat'(first|exact trivial|rfl|refine And.intro ?_ ?_|fail))
     ·rw[if_neg hc]
      have hc':evC L H M≤4095:=Int.not_lt.1 hc
      have hb:¬(flI ((H-L)/M) < -4611686018427387904∨4611686018427387904<flI ((H-L)/M)):=by rcases hcl with ⟨_,hq⟩ | ⟨_,hq⟩<;>omega
      rw[if_neg hb] at e3i
      have g2:=congrArg Prod.snd e3i
      have e4:=hA.e4 hc'
      obtain ⟨m1,m2⟩:=aNk hA hc'
      rcases hcl with ⟨hd,hq⟩ | ⟨hd,hq⟩
      ·have hdd:¬ ¬itoa (flI ((H-L)/M))=numS ((H-L)/M):=fun h=>h hd
       have hq':evC L H M=flI ((H-L)/M):=hq
       rw[hq'] at e4 m1 m2
       have hm:0≤flI ((H-L)/M)+1∧OkM (numS L) (numS (eU L H M)) (flI ((H-L)/M)+1).toNat∧flI ((H-L)/M)+1≤1000000:=⟨by omega,m1,by omega⟩
       rw[← m2]
       (repeat'((conv=>whnf);first|refine Zn ?_|refine .h ?_|refine Zm ?_|fail))
       (conv=>whnf)
       (repeat'(first|exact trivial|rfl|refine And.intro ?_ ?_|fail))
      ·have hq':evC L H M=flI ((H-L)/M)+1:=hq
       rw[hq'] at e4 m1 m2
       have hm:0≤flI ((H-L)/M)+1+1∧OkM (numS L) (numS (eU L H M)) (flI ((H-L)/M)+1+1).toNat∧flI ((H-L)/M)+1+1≤1000000:=⟨by omega,m1,by omega⟩
       rw[← m2]
       (repeat'((conv=>whnf);first|refine Zn ?_|refine .h ?_|refine Zy ?_|refine Zm ?_|fail))
       (conv=>whnf)
       (repeat'(first|exact trivial|rfl|refine And.intro ?_ ?_|fail))
   ·rw[show evW lo hi m=([],2) by unfold evW;rw[if_neg (by rintro (h | h);exact h h1;exact h h2),if_pos h3]]
    have h5:=fun h=>h3 (hps.1 h)
    (repeat'((conv=>whnf);first|refine Zy ?_|refine Zm ?_|fail))
    (conv=>whnf)
    (repeat'(first|exact trivial|rfl|refine And.intro ?_ ?_|fail))
  ·rw[show evW lo hi m=([],1) from if_pos (.inr h2)]
   (repeat'((conv=>whnf);first|refine Zy ?_|refine Zm ?_|fail))
   (conv=>whnf)
   (repeat'(first|exact trivial|rfl|refine And.intro ?_ ?_|fail))
 ·rw[show evW lo hi m=([],1) from if_pos (.inl h1)]
  (repeat'((conv=>whnf);first|refine Zy ?_|fail))
  (conv=>whnf)
  (repeat'(first|exact trivial|rfl|refine And.intro ?_ ?_|fail))
def aA9:Con:=aJ 14 false fun args K=>match args with | [.agg [.str lo,.str hi],.str m]=>Need (Lm [lo,hi,m]) (K (.tup [.seq .str (evW lo hi m).1,I (evW lo hi m).2])) | _=>False
theorem aQn:aF Tryz.prog aA9:=by
 refine aD rfl (enters_of Tryz.func14 (by kernel_rfl) rfl) ?_
 intro args K h
 simp only[aA9] at h
 split at h
 ·rename_i lo hi m;exact ⟨_,h.go,aA (Γ:=[aA0,c21,aA4,c20n,c14n,c29n,aFt,sZ,c61,aA5,aA7]) (by simp[aQe,k21,aQh,k20n,k14n,k29n,aQi,aNg,k61,aQk,aQl]) Tryz.func14 (by simp[Tryz.ntmps14]) rfl (b2014 lo hi m h.ok)⟩
 ·exact h.elim
noncomputable def c32n:Con:=aJ 93 true fun args K=>match args with
 | [.str a]=>Alt (Has (fun r=>inQ a=(r,0)) fun r=>K (.tup [I r,I 0])) (K (.tup [I (inQ a).1,I (inQ a).2]))
 | _=>False
theorem k32n:aF Tryz.prog c32n:=cL k32 rfl rfl rfl fun args K h=>by
 simp only[c32n] at h
 split at h
 ·rcases h.or with h | h
  ·obtain ⟨r,e,h⟩:=h.ex
   show K _
   rw[e];exact h
  ·exact h
 ·exact h.elim
noncomputable def tmQ (a b:List UInt8):List UInt8 × Int:=if (divQ a b).2≠0 then ([],(divQ a b).2) else flQ (divQ a b).1
theorem aHi {a b q k:List UInt8} (h1:divQ a b=(q,0)) (h2:flQ q=(k,0)):tmQ a b=(k,0):=by
 unfold tmQ
 rw[if_neg (by rw[h1];exact fun h=>h rfl),h1,h2]
theorem b2092 (a b:List UInt8):body Tryz.prog [c42,c30] {} true Tryz.f92 [S a,S b] (.tup [S (tmQ a b).1,I (tmQ a b).2]):=by
 unfold tmQ
 by_cases h:(divQ a b).2=0
 ·rw[if_neg (fun h'=>h' h)]
  (repeat'((conv=>whnf);first|refine Zm ?_|fail))
  (conv=>whnf)
  (repeat'(first|exact trivial|rfl|refine And.intro ?_ ?_|fail))
 ·rw[if_pos h]
  (repeat'((conv=>whnf);first|refine Zy ?_|fail))
  (conv=>whnf)
  (repeat'(first|exact trivial|rfl|refine And.intro ?_ ?_|fail))
def aQo:Con:=aJ 92 true fun args K=>match args with | [.str a,.str b]=>K (.tup [S (tmQ a b).1,I (tmQ a b).2]) | _=>False
theorem k2092:aF Tryz.prog aQo:=by
 refine aD rfl (enters_of Tryz.func92 (by kernel_rfl) rfl) ?_
 intro args K h
 simp only[aQo] at h
 split at h
 ·rename_i a b;exact ⟨_,h,aA (Γ:=[c42,c30]) (by simp[k42,k30]) Tryz.func92 (by simp[Tryz.ntmps92]) rfl (b2092 a b)⟩
 ·exact h.elim
noncomputable def tA:Con:=aJ 92 true fun args K=>match args with
 | [.str a,.str b]=>Alt (Has (fun r=>tmQ a b=(r,0)) fun r=>K (.tup [S r,I 0])) (K (.tup [S (tmQ a b).1,I (tmQ a b).2]))
 | _=>False
theorem aNl:aF Tryz.prog tA:=cL k2092 rfl rfl rfl fun args K h=>by
 simp only[tA] at h
 split at h
 ·rcases h.or with h | h
  ·obtain ⟨r,e,h⟩:=h.ex
   show K _
   rw[e];exact h
  ·exact h
 ·exact h.elim
theorem aJh {a:List UInt8} (h:chkQ a=0):ordQ a [48]=1↔0<valQ a:=by
 rw[← aC8 h]
 have:=aA1 a [48]
 unfold ordQ
 split
 ·rename_i h1
  constructor
  ·intro h2;exact ⟨h1,by omega⟩
  ·intro h2;omega
 ·rename_i h1
  constructor
  ·intro h2;omega
  ·intro h2;exact absurd h2.1 h1
noncomputable def atL (L O S:Rat) (i:Nat):List (List UInt8):=(List.range i).map fun j=>numS (atX L O S j)
theorem aNm (L O S:Rat) (i:Nat):atL L O S (i+1)=atL L O S i++ [numS (atX L O S i)]:=by
 unfold atL;rw[List.range_succ,List.map_append];rfl
theorem aPi (L O S:Rat) (i:Nat):(atL L O S i).length=i:=by unfold atL;rw[List.length_map,List.length_range]
theorem aPj (L H O S:Rat):atL L O S (bM L H O S).toNat=(atR L H O S).map numS:=by
 unfold atL atR;rw[List.map_map];rfl
theorem aPk {L H O S:Rat} (h:AtH L H O S) (i:Nat):0<cmpR (atX L O S i) H↔¬(i:Int)<bM L H O S:=by
 rw[← aQc (L:=L) (H:=H) (O:=O) h.pos i]
 have h1:=sB H (atX L O S i)
 have h2:=oC (atX L O S i) H
 constructor
 ·intro h3
  exact Rat.not_le.2 (h1.1 (by omega))
 ·intro h3
  have:=h1.2 (Rat.not_le.1 h3)
  omega
set_option maxHeartbeats 1000000 in
theorem b2027 (lo hi o s:List UInt8) (hP:FewP lo hi o s):body Tryz.prog [aA2,aA3,uM,c40n,tA,c41n,c43n,c39n] { asks:=[(0,[2])] } true Tryz.f27 [.agg [S lo,S hi],S o,S s] (.tup [.seq .str (atW lo hi o s).1,I (atW lo hi o s).2]):=by
 by_cases h1:rgP lo hi
 ·by_cases h2:chkQ o=0
  ·by_cases h3:chkQ s=0
   ·have hps:=aJh h3
    by_cases h4:0<valQ s
    ·have h5:=hps.2 h4
     rw[show atW lo hi o s=((atR (valQ lo) (valQ hi) (valQ o) (valQ s)).map numS,0) by unfold atW;rw[if_neg (by rintro (h | h | h);exact h h1;exact h h2;exact h h3),if_neg (fun h=>h h4)]]
     obtain ⟨hA,e1,e2,e3,e4⟩:=aNi hP h1 h2 h3 h4
     generalize valQ lo=L at*
     generalize valQ hi=H at*
     generalize valQ o=O at*
     generalize valQ s=Z at*
     subst e1 e2 e3 e4
     have f1:=hA.f1
     have f3:=aHi hA.f2 hA.f3
     have f10:=hA.f10
     have f11:=hA.f11
     rw[← nV] at f11
     have hc:=hA.count
     (repeat'((conv=>whnf);first|refine .h ?_|refine Zm ?_|fail))
     refine Ask.mk ⟨{ X:=Nat,pre:=fun i=>(i:Int)≤bM L H O Z,mod:=fun i _=>[(12,S (numS (atX L O Z i))),(13,.ref 2 1)],heap:=fun i H=>[hget H 0,hget H 1,.vec 1 .str (atL L O Z i) 22],mu:=fun i=>(bM L H O Z).toNat-i,objs:=[2] },rfl,?_⟩
     (repeat'((conv=>whnf);first|refine Zn ?_|fail))
     refine ⟨⟨(0:Nat),by show ((0:Nat):Int)≤bM L H O Z;unfold bM;omega,?_⟩,fun (i:Nat) hi=>?_⟩
     ·(repeat'(first|exact trivial|rfl|exact Nat.one_pos|refine And.intro ?_ ?_|fail))
     have hi:(i:Int)≤bM L H O Z:=hi
     have g1:=hA.f14 hi
     have g2:=aPk hA i
     have hn:=aPi L O Z i
     have hn2:i≤101:=by unfold bM at hi;omega
     by_cases hlt:(i:Int)<bM L H O Z
     ·have g3:=hA.f15 hlt
      have g4:¬0<cmpR (atX L O Z i) H:=fun h=>g2.1 h hlt
      (repeat'((conv=>whnf);first|refine Zg fun _=>?_|refine Zn ?_|refine .h ?_|refine Zl ?_|refine Zm ?_|fail))
      refine ⟨(i+1:Nat),by show (bM L H O Z).toNat-(i+1)<(bM L H O Z).toNat-i;omega,by show ((i+1:Nat):Int)≤bM L H O Z;omega,?_⟩
      (repeat'(first|exact trivial|rfl|exact Nat.one_pos|refine And.intro ?_ ?_|fail))
      exact (aNm L O Z i).symm
     ·have g4:=g2.2 hlt
      have e:i=(bM L H O Z).toNat:=by omega
      rw[← aPj,← e]
      (repeat'((conv=>whnf);first|refine .h ?_|refine Zy ?_|refine Zm ?_|fail))
      (conv=>whnf)
      (repeat'(first|exact trivial|rfl|refine And.intro ?_ ?_|fail))
    ·rw[show atW lo hi o s=([],2) by unfold atW;rw[if_neg (by rintro (h | h | h);exact h h1;exact h h2;exact h h3),if_pos h4]]
     have h5:¬ordQ s [48]=1:=fun h=>h4 (hps.1 h)
     (repeat'((conv=>whnf);first|refine Zy ?_|refine Zm ?_|fail))
     (conv=>whnf)
     (repeat'(first|exact trivial|rfl|refine And.intro ?_ ?_|fail))
   ·rw[show atW lo hi o s=([],1) from if_pos (.inr (.inr h3))]
    (repeat'((conv=>whnf);first|refine Zy ?_|refine Zm ?_|fail))
    (conv=>whnf)
    (repeat'(first|exact trivial|rfl|refine And.intro ?_ ?_|fail))
  ·rw[show atW lo hi o s=([],1) from if_pos (.inr (.inl h2))]
   (repeat'((conv=>whnf);first|refine Zy ?_|refine Zm ?_|fail))
   (conv=>whnf)
   (repeat'(first|exact trivial|rfl|refine And.intro ?_ ?_|fail))
 ·rw[show atW lo hi o s=([],1) from if_pos (.inl h1)]
  (repeat'((conv=>whnf);first|refine Zy ?_|fail))
  (conv=>whnf)
  (repeat'(first|exact trivial|rfl|refine And.intro ?_ ?_|fail))
def aJi:Con:=aJ 27 true fun args K=>match args with | [.agg [.str lo,.str hi],.str o,.str s]=>Need (FewP lo hi o s) (K (.tup [.seq .str (atW lo hi o s).1,I (atW lo hi o s).2])) | _=>False
theorem k2027:aF Tryz.prog aJi:=by
 refine aD rfl (enters_of Tryz.func27 (by kernel_rfl) rfl) ?_
 intro args K h
 simp only[aJi] at h
 split at h
 ·rename_i lo hi o s;exact ⟨_,h.go,aA (Γ:=[aA2,aA3,uM,c40n,tA,c41n,c43n,c39n]) (by simp[aQf,aQg,aNf,k40n,aNl,k41n,k43n,k39n]) Tryz.func27 (by simp[Tryz.ntmps27]) rfl (b2027 lo hi o s h.ok)⟩
 ·exact h.elim
theorem itoa0:itoa 0= [48]:=by
 have:=cX 0
 rw[Rat.intCast_zero,numS0] at this
 exact this.symm
theorem aNn {n:Int} (h:n≠0):¬itoa n= [48]:=fun e=>h (by
 exact fV (e.trans itoa0.symm))
theorem aKz {L Z:Rat} (hL:Sz 82 L) (hZ:Sz 169 Z):mulL (numS L) (numS Z) 1= [numS L]:=by
 have h1:=aDc hZ (sz4 (n:=0) (by decide) (by decide)) (by decide) (by decide) (by decide)
 rw[cX] at h1
 have e:Z*((0:Int):Rat)=0:=by rw[Rat.intCast_zero,Rat.mul_zero]
 rw[e] at h1
 have h2:=aJt hL (show Sz 1 (0:Rat) from ⟨by decide,by decide⟩) (by decide) (by decide) (by decide)
 rw[Rat.add_zero] at h2
 unfold mulL mulA
 rw[show List.range 1= [0] from rfl]
 show [(addQ (numS L) (mulQ (numS Z) (itoa ((0:Nat):Int))).1).1]= _
 rw[show (((0:Nat):Int))=(0:Int) from rfl,h1,h2]
set_option maxHeartbeats 1000000 in
theorem b2024 (lo hi m:List UInt8) (hP:Lm [lo,hi,m]):body Tryz.prog [aA2,aA3,uM,c40n,tA,c32n,c42n,c25,c41n,c39n] { asks:=[(0,[2])] } true Tryz.f24 [.agg [S lo,S hi],S m] (.tup [.seq .str (evW lo hi m).1,I (evW lo hi m).2]):=by
 by_cases h1:rgP lo hi
 ·by_cases h2:chkQ m=0
  ·have hps:=aJh h2
   by_cases h3:0<valQ m
   ·have h5:=hps.2 h3
    have e0:evW lo hi m=if lo=hi then ([lo],0) else if 4095<clI ((valQ hi-valQ lo)/valQ m) then ([],4) else ((evR (valQ lo) (valQ hi) (valQ m)).map numS,0):=by unfold evW;rw[if_neg (by rintro (h | h);exact h h1;exact h h2),if_neg (fun h=>h h3)]
    by_cases h4:lo=hi
    ·rw[if_pos h4] at e0
     rw[e0]
     obtain ⟨k1,_⟩:=rM h1
     obtain ⟨q1,z1,_⟩:=kJ k1 (hP lo (by simp) k1)
     obtain ⟨q3,z3,_⟩:=kJ h2 (hP m (by simp) h2)
     subst h4
     generalize valQ lo=L at*
     generalize valQ m=M at*
     subst q1 q3
     have r1:=pG z1 z1 (by decide) (by decide) (by decide)
     rw[Rat.sub_self] at r1
     have z0:Sz 1 (0:Rat):=⟨by decide,by decide⟩
     have r2:=kK z0 z3 (by decide) (by decide) (by decide) (dM h3)
     rw[show (0:Rat)/M=0 by rw[Rat.div_def,Rat.zero_mul]] at r2
     have r3:flQ (numS 0)=([48],0):=by
      rw[xI z0 ⟨by decide,by decide⟩,show flI 0=0 by decide,itoa0]
     have r4:=aHi r2 r3
     (repeat'((conv=>whnf);first|refine .h ?_|refine Zm ?_|fail))
     refine Br.mkY rfl ?_
     skip
     refine Own.r ?_
     skip
     (conv=>whnf)
     (repeat'(first|exact trivial|rfl|refine And.intro ?_ ?_|fail))
    ·rw[if_neg h4] at e0
     rw[e0]
     obtain ⟨hA,q1,q2,q3⟩:=aNj hP h1 h2 h3 h4
     generalize valQ lo=L at*
     generalize valQ hi=H at*
     generalize valQ m=M at*
     subst q1 q2 q3
     have r1:=hA.r1
     have r3:=aHi hA.r2 hA.r3
     have r3i:=hA.r3i
     have hp:=hA.cpos
     have hpp:0<clI ((H-L)/M):=hp
     have n0:¬itoa (-evC L H M)= [48]:=aNn (by omega)
     by_cases hc:4095<clI ((H-L)/M)
     ·rw[if_pos hc]
      have hc':4095<evC L H M:=hc
      by_cases hb: -evC L H M < -4611686018427387904∨4611686018427387904 < -evC L H M
      ·rw[if_pos hb] at r3i
       have g2:=congrArg Prod.snd r3i
       dsimp only at g2
       have g3:¬(inQ (itoa (-evC L H M))).2=0:=by omega
       (repeat'((conv=>whnf);first|refine .h ?_|refine .r ?_|refine Zy ?_|refine Zm ?_|fail))
       (conv=>whnf)
       (repeat'(first|exact trivial|rfl|refine And.intro ?_ ?_|fail))
      ·rw[if_neg hb] at r3i
       (repeat'((conv=>whnf);first|refine .h ?_|refine Zy ?_|refine Zm ?_|fail))
       (conv=>whnf)
       (repeat'(first|exact trivial|rfl|refine And.intro ?_ ?_|fail))
     ·rw[if_neg hc]
      have hc':evC L H M≤4095:=Int.not_lt.1 hc
      rw[if_neg (by omega)] at r3i
      have r4:=hA.r4 hc'
      obtain ⟨m1,m2⟩:=aNk hA hc'
      have m0:=aKz hA.zL (hA.st hc')
      rw[← m2]
      (repeat'((conv=>whnf);first|refine .h ?_|refine Zm ?_|fail))
      refine Own.r ?_
      skip
      refine Ask.mk ⟨{ X:=Nat,pre:=fun i=>(i:Int)≤evC L H M,mod:=fun i _=>[(11,.ref 2 1),(12,I ((i:Int)+1))],heap:=fun i Hp=>[hget Hp 0,hget Hp 1,.vec 1 .str (mulL (numS L) (numS (eU L H M)) (i+1)) 22],mu:=fun i=>(evC L H M).toNat-i,objs:=[2] },rfl,?_⟩
      (repeat'((conv=>whnf);first|refine Zn ?_|fail))
      refine ⟨⟨(0:Nat),by show ((0:Nat):Int)≤evC L H M;omega,?_⟩,fun (i:Nat) hi=>?_⟩
      ·(repeat'(first|exact trivial|rfl|exact Nat.one_pos|refine And.intro ?_ ?_|fail))
       all_goals exact m0.symm
      have hi:(i:Int)≤evC L H M:=hi
      have hn:=aFu (numS L) (numS (eU L H M)) (i+1)
      by_cases hlt:(i:Int)<evC L H M
      ·have g1:=hA.e5 hc' (show i+1≤5000 by omega)
       have g2:=hA.e6 hc' (show i+1≤5000 by omega)
       have g5:mulL (numS L) (numS (eU L H M)) (i+1+1)=mulL (numS L) (numS (eU L H M)) (i+1)++ [numS (L+eU L H M*(((i+1:Nat):Int):Rat))]:=by
        rw[aA6]
        unfold mulA
        rw[g1,g2]
       rw[show ((i+1:Nat):Int)=(i:Int)+1 by omega] at g5
       have g3:=aOn ((i:Int)+1)
       have g3':=congrArg Prod.snd g3
       have g3'':=congrArg Prod.fst g3
       rw[show ((i+1:Nat):Int)=(i:Int)+1 by omega] at g1 g2
       dsimp only at g3''
       rw[← g3''] at g1
       (repeat'((conv=>whnf);first|refine Zn ?_|refine .h ?_|refine Zl ?_|refine Zy ?_|refine Zm ?_|fail))
       refine ⟨(i+1:Nat),by show (evC L H M).toNat-(i+1)<(evC L H M).toNat-i;omega,by show ((i+1:Nat):Int)≤evC L H M;omega,?_⟩
       (repeat'(first|exact trivial|rfl|exact Nat.one_pos|refine And.intro ?_ ?_|fail))
       exact g5.symm
      ·have e:(evC L H M+1).toNat=i+1:=by omega
       rw[e]
       have hlt':¬(i:Int)+1≤evC L H M:=by omega
       (repeat'((conv=>whnf);first|refine Zn ?_|refine Zm ?_|fail))
       (conv=>whnf)
       (repeat'(first|exact trivial|rfl|refine And.intro ?_ ?_|fail))
   ·rw[show evW lo hi m=([],2) by unfold evW;rw[if_neg (by rintro (h | h);exact h h1;exact h h2),if_pos h3]]
    have h5:¬ordQ m [48]=1:=fun h=>h3 (hps.1 h)
    (repeat'((conv=>whnf);first|refine Zy ?_|refine Zm ?_|fail))
    (conv=>whnf)
    (repeat'(first|exact trivial|rfl|refine And.intro ?_ ?_|fail))
  ·rw[show evW lo hi m=([],1) from if_pos (.inr h2)]
   (repeat'((conv=>whnf);first|refine Zy ?_|refine Zm ?_|fail))
   (conv=>whnf)
   (repeat'(first|exact trivial|rfl|refine And.intro ?_ ?_|fail))
 ·rw[show evW lo hi m=([],1) from if_pos (.inl h1)]
  (repeat'((conv=>whnf);first|refine Zy ?_|fail))
  (conv=>whnf)
  (repeat'(first|exact trivial|rfl|refine And.intro ?_ ?_|fail))
def aJj:Con:=aJ 24 true fun args K=>match args with | [.agg [.str lo,.str hi],.str m]=>Need (Lm [lo,hi,m]) (K (.tup [.seq .str (evW lo hi m).1,I (evW lo hi m).2])) | _=>False
theorem k2024:aF Tryz.prog aJj:=by
 refine aD rfl (enters_of Tryz.func24 (by kernel_rfl) rfl) ?_
 intro args K h
 simp only[aJj] at h
 split at h
 ·rename_i lo hi m;exact ⟨_,h.go,aA (Γ:=[aA2,aA3,uM,c40n,tA,c32n,c42n,c25,c41n,c39n]) (by simp[aQf,aQg,aNf,k40n,aNl,k32n,k42n,k25,k41n,k39n]) Tryz.func24 (by simp[Tryz.ntmps24]) rfl (b2024 lo hi m h.ok)⟩
 ·exact h.elim
theorem aNo {xs ys:List (List UInt8)} (h:xs.length=ys.length) (hg:∀p,p<xs.length→xs.getD p []=ys.getD p []):xs=ys:=by
 apply List.ext_getElem h
 intro p h1 h2
 have:=hg p h1
 simpa [List.getD_eq_getElem?_getD,h1,h2] using this
theorem b2025 (xs ys:List (List UInt8)):body Tryz.prog [] { asks:=[(0,[])] } true Tryz.f25 [.seq .str xs,.seq .str ys] (.bl (xs=ys) inferInstance):=by
 (repeat'((conv=>whnf);first|refine Zg fun _=>?_|fail))
 (refine Br.mk (fun _=>?_) (fun _=>?_))
 ·rename_i h
  skip
  (conv=>whnf)
  exact fun e=>h (by rw[e])
 ·rename_i hl
  have hl:xs.length=ys.length:=by omega
  (repeat'((conv=>whnf);first|refine Zg fun _=>?_|fail))
  refine Ask.mk ⟨{ X:=Nat,pre:=fun i=>i≤xs.length∧∀j,j<i→xs.getD j []=ys.getD j [],mod:=fun i _=>[(13,I i)],heap:=fun i H=>H,mu:=fun i=>xs.length-i },rfl,?_⟩
  (repeat'((conv=>whnf);first|refine Zn ?_|fail))
  refine ⟨⟨(0:Nat),⟨Nat.zero_le _,fun j hj=>absurd hj (Nat.not_lt_zero _)⟩,by (repeat'(first|exact trivial|rfl|refine And.intro ?_ ?_|fail))⟩,fun (i:Nat) hi=>?_⟩
  obtain ⟨hi,hb⟩:=hi
  by_cases hlt:i<xs.length
  ·by_cases hne:xs.getD i []=ys.getD i []
   ·(repeat'((conv=>whnf);first|refine Zn ?_|refine Zj ?_|(apply Pin.mk;apply Exists.intro)|apply Pinned.mk rfl rfl|refine Zy ?_|refine Zm ?_|fail))
    refine ⟨(i+1:Nat),by show xs.length-(i+1)<xs.length-i;omega,⟨hlt,fun j hj=>?_⟩,by (repeat'(first|exact trivial|rfl|refine And.intro ?_ ?_|fail))⟩
    by_cases e:j=i
    ·subst e;exact hne
    ·exact hb j (by omega)
   ·(repeat'((conv=>whnf);first|refine Zn ?_|refine Zj ?_|(apply Pin.mk;apply Exists.intro)|apply Pinned.mk rfl rfl|refine Zy ?_|fail))
    (conv=>whnf)
    exact fun e=>hne (by rw[e])
  ·have hii:i=xs.length:=by omega
   subst hii
   (repeat'((conv=>whnf);first|refine Zm ?_|fail))
   (conv=>whnf)
   exact aNo hl hb
def aBa:Con:=aJ 25 true fun args K=>match args with | [.seq .str xs,.seq .str ys]=>K (.bl (xs=ys) inferInstance) | _=>False
theorem aQp:aF Tryz.prog aBa:=by
 refine aD rfl (enters_of Tryz.func25 (by kernel_rfl) rfl) ?_
 intro args K h
 simp only[aBa] at h
 split at h
 ·rename_i xs ys;exact ⟨_,h,aA (Γ:=[]) (by simp) Tryz.func25 (by simp[Tryz.ntmps25]) rfl (b2025 xs ys)⟩
 ·exact h.elim
theorem b2019 (l:List (List UInt8)):body Tryz.prog [c23,c44] { asks:=[(0,[])] } true Tryz.f19 [.seq .str l] (.bl (grtS l) inferInstance):=by
 skip
 refine Ask.mk ⟨{ X:=Nat,pre:=fun i=>i≤l.length∧∀j,j<i→¬grS1 (l.getD j []),mod:=fun i _=>[(3,I i)],heap:=fun i H=>H,mu:=fun i=>l.length-i },rfl,?_⟩
 (repeat'((conv=>whnf);first|refine Zn ?_|fail))
 refine ⟨⟨(0:Nat),⟨Nat.zero_le _,fun j hj=>by omega⟩,?_⟩,fun (i:Nat) hi=>?_⟩
 ·(repeat'(first|exact trivial|rfl|refine And.intro ?_ ?_|fail))
 obtain ⟨hi,hp⟩:=hi
 by_cases hlt:i<l.length
 ·have step:¬grS1 (l.getD i [])→i+1≤l.length∧∀j,j<i+1→¬grS1 (l.getD j []):=fun hn=>⟨hlt,fun j hj=>by
   rcases Nat.lt_succ_iff_lt_or_eq.1 hj with h1 | h1
   ·exact hp j h1
   ·subst h1;exact hn⟩
  by_cases h1:uN (l.getD i [])
  ·(repeat'((conv=>whnf);first|refine Zg fun _=>?_|refine Zn ?_|refine Zj ?_|refine Zy ?_|fail))
   (conv=>whnf)
   exact .inl ⟨_,xJ hlt,.inl h1⟩
  ·by_cases h2:82<(l.getD i []).length
   ·by_cases h3:chkQ (l.getD i [])=0
    ·(repeat'((conv=>whnf);first|refine Zg fun _=>?_|refine Zn ?_|refine Zj ?_|refine Zy ?_|refine Zm ?_|fail))
     (conv=>whnf)
     exact .inl ⟨_,xJ hlt,.inr ⟨h2,h3⟩⟩
    ·(repeat'((conv=>whnf);first|refine Zg fun _=>?_|refine Zn ?_|refine Zj ?_|refine Zy ?_|refine Zm ?_|fail))
     refine ⟨(i+1:Nat),by show l.length-(i+1)<l.length-i;omega,step (by rintro (h | h);exact h1 h;exact h3 h.2),?_⟩
     (repeat'(first|exact trivial|rfl|refine And.intro ?_ ?_|fail))
   ·(repeat'((conv=>whnf);first|refine Zg fun _=>?_|refine Zn ?_|refine Zj ?_|refine Zy ?_|refine Zm ?_|fail))
    refine ⟨(i+1:Nat),by show l.length-(i+1)<l.length-i;omega,step (by rintro (h | h);exact h1 h;exact h2 h.1),?_⟩
    (repeat'(first|exact trivial|rfl|refine And.intro ?_ ?_|fail))
 ·have e:i=l.length:=by omega
  subst e
  (repeat'((conv=>whnf);first|refine Zg fun _=>?_|refine Zm ?_|fail))
  (conv=>whnf)
  constructor
  ·intro h;exact .inr (by omega)
  ·rintro (⟨a,ha,h⟩ | h)
   ·obtain ⟨j,hj,rfl⟩:=List.getElem_of_mem ha
    exact absurd (by rw[List.getD_eq_getElem?_getD,List.getElem?_eq_getElem hj];exact h) (hp j hj)
   ·omega
def aJk:Con:=aJ 19 true fun args K=>match args with | [.seq .str l]=>K (.bl (grtS l) inferInstance) | _=>False
theorem k2019:aF Tryz.prog aJk:=by
 refine aD rfl (enters_of Tryz.func19 (by kernel_rfl) rfl) ?_
 intro args K h
 simp only[aJk] at h
 split at h
 ·rename_i l;exact ⟨_,h,aA (Γ:=[c23,c44]) (by simp[k23,k44]) Tryz.func19 (by simp[Tryz.ntmps19]) rfl (b2019 l)⟩
 ·exact h.elim
theorem b2023 (q:List UInt8):body Tryz.prog [c43] {} true Tryz.f23 [S q] (.bl (mnP q) inferInstance):=by
 unfold mnP
 by_cases h1:(cmpQ q [53,48,48,48]).2=0
 ·(repeat'((conv=>whnf);first|refine Zy ?_|fail))
  (conv=>whnf)
  exact ⟨fun h=>⟨h1,h⟩,fun h=>h.2⟩
 ·(repeat'((conv=>whnf);first|refine Zm ?_|fail))
  (conv=>whnf)
  exact fun h=>h1 h.1
def aBb:Con:=aJ 23 true fun args K=>match args with | [.str q]=>K (.bl (mnP q) inferInstance) | _=>False
theorem aQq:aF Tryz.prog aBb:=by
 refine aD rfl (enters_of Tryz.func23 (by kernel_rfl) rfl) ?_
 intro args K h
 simp only[aBb] at h
 split at h
 ·rename_i q;exact ⟨_,h,aA (Γ:=[c43]) (by simp[k43]) Tryz.func23 (by simp[Tryz.ntmps23]) rfl (b2023 q)⟩
 ·exact h.elim
theorem b2020 (lo hi s:List UInt8):body Tryz.prog [c40,c42,c43,aBb] {} true Tryz.f20 [.agg [S lo,S hi],S s] (.bl (fwP lo hi s) inferInstance):=by
 unfold fwP
 by_cases h1:(subQ hi lo).2=0
 ·by_cases h2:(divQ (subQ hi lo).1 s).2=0
  ·by_cases h3:(cmpQ (divQ (subQ hi lo).1 s).1 [49,48,48]).2=0
   ·by_cases h4:(cmpQ (divQ (subQ hi lo).1 s).1 [49,48,48]).1≤0
    ·(repeat'((conv=>whnf);first|refine Zy ?_|refine Zm ?_|fail))
     (conv=>whnf)
     exact .inr (.inr (.inr (.inl h4)))
    ·(repeat'((conv=>whnf);first|refine Zm ?_|fail))
     (conv=>whnf)
     constructor
     ·intro h;exact .inr (.inr (.inr (.inr h)))
     ·rintro (h | h | h | h | h)
      ·exact absurd h1 h
      ·exact absurd h2 h
      ·exact absurd h3 h
      ·exact absurd h h4
      ·exact h
   ·(repeat'((conv=>whnf);first|refine Zy ?_|refine Zm ?_|fail))
    (conv=>whnf)
    exact .inr (.inr (.inl h3))
  ·(repeat'((conv=>whnf);first|refine Zy ?_|refine Zm ?_|fail))
   (conv=>whnf)
   exact .inr (.inl h2)
 ·(repeat'((conv=>whnf);first|refine Zy ?_|fail))
  (conv=>whnf)
  exact .inl h1
def aJl:Con:=aJ 20 true fun args K=>match args with | [.agg [.str lo,.str hi],.str s]=>K (.bl (fwP lo hi s) inferInstance) | _=>False
theorem k2020:aF Tryz.prog aJl:=by
 refine aD rfl (enters_of Tryz.func20 (by kernel_rfl) rfl) ?_
 intro args K h
 simp only[aJl] at h
 split at h
 ·rename_i lo hi s;exact ⟨_,h,aA (Γ:=[c40,c42,c43,aBb]) (by simp[k40,k42,k43,aQq]) Tryz.func20 (by simp[Tryz.ntmps20]) rfl (b2020 lo hi s)⟩
 ·exact h.elim
theorem aPl:FewP [48] [49,48,48,48] [49,48,48] [52,48,48]:=by
 refine ⟨aMk.1,fun _ _ _ _=>?_⟩
 rw[← aP9,← n400,← numS0]
 simp only[cF]
 decide+kernel
theorem b2013:body Tryz.prog [aA8,aA9,aBa] {} true Tryz.f13 [] (.val (.bool true)):=by
 have p1:=aPl
 have p2:=aMk.2
 have e1:(atW [48] [49,48,48,48] [49,48,48] [52,48,48]).2=0:=by rw[aQa]
 have e2:(atW [48] [49,48,48,48] [49,48,48] [52,48,48]).1= [[49,48,48],[53,48,48],[57,48,48]]:=by rw[aQa]
 have e3:(evW [48] [49,48] [52]).2=0:=by rw[aQb]
 have e4:(evW [48] [49,48] [52]).1= [[48],[49,48,47,51],[50,48,47,51],[49,48]]:=by rw[aQb]
 (repeat'((conv=>whnf);first|refine Zn ?_|refine Zl ?_|refine Zy ?_|fail))
 (conv=>whnf)
 exact iff_of_true e4 rfl
def aJm:Con:=aJ 13 true fun args K=>match args with | []=>K (.val (.bool true)) | _=>False
theorem k2013:aF Tryz.prog aJm:=by
 refine aD rfl (enters_of Tryz.func13 (by kernel_rfl) rfl) ?_
 intro args K h
 simp only[aJm] at h
 split at h
 ·exact ⟨_,h,aA (Γ:=[aA8,aA9,aBa]) (by simp[aQm,aQn,aQp]) Tryz.func13 (by simp[Tryz.ntmps13]) rfl b2013⟩
 ·exact h.elim
theorem aHj {lo hi o s:List UInt8} (hL:Lm [lo,hi,o,s]) (hf:fwP lo hi s) (hn:¬((subQ hi lo).2=0∧(divQ (subQ hi lo).1 s).2=0∧mnP (divQ (subQ hi lo).1 s).1)):FewP lo hi o s:=by
 refine ⟨hL,fun h1 h2 h3 h4=>?_⟩
 obtain ⟨k1,k2⟩:=rM h1
 obtain ⟨e1,z1,w1⟩:=kJ k1 (hL lo (by simp) k1)
 obtain ⟨e2,z2,w2⟩:=kJ k2 (hL hi (by simp) k2)
 obtain ⟨e4,z4,w4⟩:=kJ h3 (hL s (by simp) h3)
 have hle:=aNh h1 (hL lo (by simp) k1) (hL hi (by simp) k2)
 have d1:=pG z2 z1 (by decide) (by decide) (by decide)
 have d2:=kK (z2.sub z1) z4 (by decide) (by decide) (by decide) (dM h4)
 rw[← e1,← e2] at d1
 rw[← e4] at d2
 have zq:Sz 247 ((valQ hi-valQ lo)/valQ s):=(z2.sub z1).div z4 (dM h4)
 have c1:=aHn zq (show Sz 4 100 from ⟨by decide,by decide⟩) (by decide) (by decide) (by decide)
 rw[n100] at c1
 unfold fwP at hf
 rw[d1,d2] at hf hn
 dsimp only at hf hn
 rw[c1] at hf
 rcases hf with h | h | h | h | h
 ·exact absurd rfl h
 ·exact absurd rfl h
 ·exact absurd rfl h
 ·have h5:¬(100:Rat)<(valQ hi-valQ lo)/valQ s:=fun h'=>by
   have:=(sB _ _).2 h'
   rw[oC] at this
   dsimp only at h
   omega
  have h6:(valQ hi-valQ lo)/valQ s≤100:=Rat.not_lt.1 h5
  have h7:=Rat.mul_le_mul_of_nonneg_right h6 (Rat.le_of_lt h4)
  rw[Rat.div_mul_cancel (dM h4)] at h7
  have e:(((100:Nat):Rat))=100:=rfl
  rw[e]
  generalize (100:Rat)*valQ s=w at*
  grind
 ·exact absurd ⟨rfl,rfl,h⟩ hn
set_option maxHeartbeats 1000000 in
theorem b2004 (lo hi o s:List UInt8) (l:List (List UInt8)):body Tryz.prog [aJk,aJl,aJm,c40,c42,aBb,aA9,aJj,aBa,aA8,aJi,aJd,aJe] {} true Tryz.f4 [.agg [S lo,S hi],S o,S s,.seq .str l] (.val (.bool true)):=by
 by_cases h1:grtS [lo,hi,o,s]
 ·(repeat'((conv=>whnf);first|refine Zl ?_|refine Zy ?_|fail))
  (conv=>whnf)
  skip
 by_cases h2:grtS l
 ·(repeat'((conv=>whnf);first|refine Zl ?_|refine Zy ?_|refine Zm ?_|fail))
  (conv=>whnf)
  skip
 by_cases h3:fwP lo hi s
 ·have l1:=(aOo h1).1
  have p2:Lm [lo,hi,s]:=l1.sub fun a ha=>by simp at ha ⊢;rcases ha with h | h | h<;>simp[h]
  have q2:(evW lo hi s).1=(evW lo hi s).1:=rfl
  have q1:(atW lo hi o s).1=(atW lo hi o s).1:=rfl
  by_cases g1:(subQ hi lo).2=0
  ·by_cases g2:(divQ (subQ hi lo).1 s).2=0
   ·by_cases g3:mnP (divQ (subQ hi lo).1 s).1
    ·(repeat'((conv=>whnf);first|refine Zn ?_|refine Zl ?_|refine Zy ?_|refine Zm ?_|fail))
     (conv=>whnf)
     skip
    ·have p1:=aHj l1 h3 fun h=>g3 h.2.2
     (repeat'((conv=>whnf);first|refine Zn ?_|refine Zl ?_|refine Zy ?_|refine Zm ?_|fail))
     (conv=>whnf)
     skip
   ·have p1:=aHj l1 h3 fun h=>g2 h.2.1
    (repeat'((conv=>whnf);first|refine Zn ?_|refine Zl ?_|refine Zy ?_|refine Zm ?_|fail))
    (conv=>whnf)
    skip
  ·have p1:=aHj l1 h3 fun h=>g1 h.1
   (repeat'((conv=>whnf);first|refine Zn ?_|refine Zl ?_|refine Zy ?_|refine Zm ?_|fail))
   (conv=>whnf)
   skip
 ·(repeat'((conv=>whnf);first|refine Zl ?_|refine Zy ?_|refine Zm ?_|fail))
  (conv=>whnf)
  skip
theorem t2004 (lo hi o s:List UInt8) (l:List (List UInt8)) (_:o.length≤maxL) (_:s.length≤maxL) (_:Okd (.slice .str) l):Tri Tryz.prog true 4 [.agg [S lo,S hi],S o,S s,.seq .str l] (.val (.bool true)):=
 aA (Γ:=[aJk,aJl,aJm,c40,c42,aBb,aA9,aJj,aBa,aA8,aJi,aJd,aJe]) (by simp[k2019,k2020,k2013,k40,k42,aQq,aQn,k2024,aQp,aQm,k2027,k2028,k2029]) Tryz.func4 (by simp[Tryz.ntmps4]) rfl (b2004 lo hi o s l)
end RB
end

/-
  Part 6: a symbolic executor over the model, contracts of functions and plain laws.
-/
import Derived.Test.YtjjnphkdhdjcbaaGreatDoorP5
import Derived.Lib.Bytealg
import Init.Data.Rat
set_option linter.unusedVariables false
set_option linter.unusedSimpArgs false
set_option maxRecDepth 10000
set_option maxHeartbeats 80000000
section
open Go Go.Proofs Go.Eng Go.Shelf IB Go.Lib Go.RowKit
namespace RB
theorem Pt {n:Nat} (h:(aD B9 n).length=1):(aD B9 n).getD 0 0=n∧n<1000000000:=by
 have hv:=v9 n
 have hg:=get9 (show InB B9 (aD B9 n) from bD (by decide) n) 0
 cases hl:aD B9 n with
 | nil=>rw[hl] at h;simp at h
 | cons x r=>
  have hr:r= []:=by rw[hl] at h;simpa using h
  subst hr
  rw[hl] at hv hg
  simp only[valB,Int.mul_zero,Int.add_zero] at hv
  refine ⟨hv,?_⟩
  have hg:0≤x∧x<1000000000:=hg
  omega
theorem Pu (l:List Int) (k:Nat):l++List.replicate k 0++ [0]=l++List.replicate (k+1) 0:=by
 rw[List.append_assoc,← List.replicate_succ']
theorem b106 (m n:Nat) (hm:m<B9^100) (hn:0<n∧n<B9^100):
  body Tryz.prog [c129,c134,c99,Tz,Ps,c136,c137,c138,c131] { asks:=[(0,[3]),(2,[3]),(4,[3])] } false Tryz.f148 [Ls (aD B9 m),Ls (aD B9 n)] (.tup [Ls (aD B9 (m/n)),Ls (aD B9 (m%n))]):=by
 obtain ⟨hn0,hn⟩:=hn
 have im:InB B9 (aD B9 m):=bD (by decide) m
 have jn:InB B9 (aD B9 n):=bD (by decide) n
 have lm:=dV hm
 have ln:=dV hn
 have hc:=wB m n
 have vm:=v9 m
 have vn:=v9 n
 refine Need.mk ⟨im,jn⟩ ?_
 (apply Br.mk<;>intro)
 ·rename_i h
  have hlt:m<n:=by omega
  rw[Nat.div_eq_of_lt hlt,Nat.mod_eq_of_lt hlt,bG]
  (conv=>whnf)
  (repeat' first|exact trivial|rfl|apply And.intro)
 ·rename_i h
  have hle:n≤m:=by omega
  (repeat'((conv=>whnf);first|refine Zg fun _=>?_|fail))
  (apply Br.mk<;>intro)
  ·rename_i h1
   obtain ⟨hx,hxlt⟩:=Pt (n:=n) (by omega)
   (repeat'((conv=>whnf);first|refine Zg fun _=>?_|refine Zn ?_|refine Z0 ?_|fail))
   refine Need.mk ⟨im,by omega,by omega⟩ ?_
   (conv=>whnf)
   have e1:(valB B9 (aD B9 m)/(aD B9 n).getD 0 0).toNat=m/n:=by rw[vm,hx,← Int.natCast_ediv,Int.toNat_natCast]
   have e2:(valB B9 (aD B9 m)% (aD B9 n).getD 0 0).toNat=m%n:=by rw[vm,hx,← Int.natCast_emod,Int.toNat_natCast]
   (repeat' first|exact trivial|apply And.intro)
   ·exact congrArg (aD B9) e1
   ·exact congrArg (aD B9) e2
  ·rename_i h1
   have hk:2≤(aD B9 n).length:=by
    have:=(dP (B:=B9) (by decide) hn0).2.2
    omega
   have ht:=get9 jn ((aD B9 n).length-1)
   obtain ⟨f,hf⟩:∃f:Nat,(f:Int)=1000000000/((aD B9 n).getD ((aD B9 n).length-1) 0+1):=⟨_,(Int.eq_ofNat_of_zero_le (Int.ediv_nonneg (by omega) (by omega))).choose_spec.symm⟩
   obtain ⟨f0,fB,sl,st⟩:=scale (B:=B9) (by decide) hn0 hf
   have st:(1000000000:Int)≤4*(aD B9 (n*f)).getD ((aD B9 (n*f)).length-1) 0:=st
   have fB:f<1000000000:=fB
   (repeat' first|refine ZG ?_|refine Zg fun _=>?_)
   refine gH ((aD B9 n).length-1) (by omega) ?_
   (repeat' first|refine ZG ?_|refine Zg fun _=>?_)
   rw[← hf]
   have if1:InB B9 [(f:Int)]:=fun x hx=>by
    have:x=f:=by simpa using hx
    subst this
    exact ⟨by omega,by show (f:Int)<1000000000;omega⟩
   have ef:∀k:Nat,(valB B9 (aD B9 k)*valB B9 [(f:Int)]).toNat=k*f:=fun k=>by
    rw[v9,show valB B9 [(f:Int)]=f by simp[valB],← Int.natCast_mul,Int.toNat_natCast]
   refine Need.mk ⟨im,if1,by omega,by show 1≤100000;omega⟩ ?_
   rw[ef]
   have sm:=Ll (B:=B9) (by decide) (m:=m) (show f<B9 from fB)
   (repeat'((conv=>whnf);first|refine Zn ?_|refine Zl ?_|fail))
   refine Need.mk ⟨jn,if1,by omega,by show 1≤100000;omega⟩ ?_
   rw[ef]
   have ka:(aD B9 n).length≤(aD B9 m).length:=Classical.byContradiction fun hx=>by
    have:=mG (B:=B9) (by decide) (m:=m) (n:=n) (by omega)
    omega
   refine Ask.mk ⟨{ X:=Nat,pre:=fun i=>(aD B9 (m*f)).length+i≤(aD B9 m).length+1,mod:=fun _ _=>[],heap:=fun i H=>[V [],.cells [.ref 0 1] 119,V [],V (aD B9 (m*f)++List.replicate (i+1) 0),V (aD B9 (n*f)),V [],.cells [.ref 3 1] 119,V [],.cells [.ref 4 1] 119],mu:=fun i=>(aD B9 m).length+1-(aD B9 (m*f)).length-i,objs:=[3] },rfl,?_⟩
   (repeat refine ZG ?_)
   refine ⟨⟨(0:Nat),sm,?_⟩,fun (i:Nat) hi=>?_⟩
   ·(repeat' first|exact trivial|rfl|exact Nat.one_pos|apply And.intro)
   ·have hi:(aD B9 (m*f)).length+i≤(aD B9 m).length+1:=hi
    have hul:(aD B9 (m*f)++List.replicate (i+1) (0:Int)).length=(aD B9 (m*f)).length+(i+1):=by simp
    (repeat' first|refine ZG ?_|refine Zg fun _=>?_)
    (apply Br.mk<;>intro)
    ·rename_i hlt
     (repeat refine ZG ?_)
     refine ⟨(i+1:Nat),by show (aD B9 m).length+1-(aD B9 (m*f)).length-(i+1)<(aD B9 m).length+1-(aD B9 (m*f)).length-i;omega,by show _+(i+1)≤ _;omega,?_⟩
     (repeat' first|exact trivial|rfl|exact Nat.one_pos|apply And.intro)
     exact Pu _ _
    ·rename_i hge
     have hge:(aD B9 m).length+1≤(aD B9 (m*f)).length+(i+1):=by omega
     obtain ⟨iu,vu,zu⟩:=Lk (B:=B9) (by decide) (m*f) (i+1)
     have zu:=zu (by omega)
     have jv:InB B9 (aD B9 (n*f)):=bD (by decide) _
     obtain ⟨u,hu⟩:∃u,aD B9 (m*f)++List.replicate (i+1) (0:Int)=u:=⟨_,rfl⟩
     rw[hu] at iu vu zu hul ⊢
     obtain ⟨v,hv⟩:∃v,aD B9 (n*f)=v:=⟨_,rfl⟩
     have vv:valB B9 v=((n*f:Nat):Int):=by rw[← hv];exact v9 _
     rw[hv] at st sl jv ⊢
     obtain ⟨M,hM⟩:∃M,u.length-v.length=M:=⟨_,rfl⟩
     have hMu:M+v.length=u.length:=by omega
     obtain ⟨s1,s2⟩:=Gs (B:=B9) (by decide) iu jv (by omega) (by omega) hMu zu
     (repeat' first|refine ZG ?_|refine Zg fun _=>?_)
     rw[show ((u.length:Int)-v.length)=(M:Int) by omega]
     have v1p:250000000≤v.getD (v.length-1) 0:=by omega
     have hspec:=kT (B:=B9) (by decide) iu jv s2 hMu s1
     refine Ask.mk ⟨{ X:=Nat,pre:=fun s=>s≤M,mod:=fun _ _=>[],heap:=fun s H=>[V [],.cells [.ref 9 1] 119,V [],V (bH B9 u v M s).1,V v,V [],.cells [.ref 3 1] 119,V [],.cells [.ref 4 1] 119,V (bH B9 u v M s).2],mu:=fun s=>s,objs:=[3] },rfl,?_⟩
     refine ⟨M,?_⟩
     (conv=>whnf)
     refine Need.mk ⟨⟨rfl,rfl,by simp⟩,fun s hs=>⟨rfl,rfl,(hspec s hs).2.2.1⟩⟩ ?_
     (repeat refine ZG ?_)
     refine ⟨⟨(0:Nat),rfl,Nat.zero_le _,?_⟩,fun (s:Nat) hs (hlt:s<M)=>?_,fun (s:Nat) hs (he:s=M)=>?_⟩
     ·(repeat' first|exact trivial|rfl|exact Nat.one_pos|apply And.intro)
     ·obtain ⟨w1,w2,w3,w4,w5,w6⟩:=hspec s (by omega)
      obtain ⟨r1,r2,r3,r4⟩:=Gr (B:=B9) (by decide) iu jv s2 hMu s1 (by omega) (by omega) s hlt 8
      have hst1:(bH B9 u v M (s+1)).1=(aW B9 (bH B9 u v M s).1 v (M-1-s) (valB B9 ((bH B9 u v M s).1.drop (M-1-s))/valB B9 v) (v.length+1)).1:=rfl
      have hst2:(bH B9 u v M (s+1)).2=(bH B9 u v M s).2.set (M-1-s) (valB B9 ((bH B9 u v M s).1.drop (M-1-s))/valB B9 v):=rfl
      obtain ⟨w,hw⟩:∃w,(bH B9 u v M s).1=w:=⟨_,rfl⟩
      obtain ⟨p,hp⟩:∃p,(bH B9 u v M s).2=p:=⟨_,rfl⟩
      obtain ⟨j,hj⟩:∃j,M-1-s=j:=⟨_,rfl⟩
      obtain ⟨Q,hQ⟩:∃Q,valB B9 (w.drop j)/valB B9 v=Q:=⟨_,rfl⟩
      rw[hw] at w1 w2 w5 w6 r1 r2 r3 r4 hst1 hst2
      rw[hp] at w3 w4 w6 hst2
      rw[hj] at r1 r2 r3 r4 hst1 hst2
      rw[hQ] at r2 r3 r4 hst1 hst2
      show hnfL (itS M s) _
      (repeat'((conv=>whnf);first|refine Zg fun _=>?_|fail))
      (conv=>whnf)
      rw[hw,hj]
      refine Need.mk ⟨w2,jv,by omega,by omega,v1p,by omega,by omega⟩ ?_
      rw[Int.toNat_natCast]
      have g0:=get9 w2 (j+v.length)
      have g1:=get9 w2 (j+v.length-1)
      have hT:0≤top2 w v j∧top2 w v j<1000000000000000000:=by unfold top2;omega
      have hq4:top2 w v j/v.getD (v.length-1) 0≤4000000000:=by
       refine Int.le_trans (Int.ediv_le_ediv (by omega) (show top2 w v j≤4000000000*v.getD (v.length-1) 0 by omega)) ?_
       rw[Int.mul_ediv_cancel _ (by omega)]
       exact Int.le_refl _
      have r5:Q≤estL w v j∧estL w v j≤4000000000:=⟨(r4 (top2 w v j) rfl).1,Int.le_trans (r4 (top2 w v j) rfl).2 hq4⟩
      obtain ⟨q0,hq0⟩:∃q0,estL w v j=q0:=⟨_,rfl⟩
      rw[hq0] at r5
      refine Ask.mk ⟨{ X:=Int,pre:=fun q=>Q≤q∧q≤4000000000,mod:=fun q _=>[(10,I q)],heap:=fun q H=>[V [],.cells [.ref 9 1] 119,V [],V w,V v,V [],.cells [.ref 3 1] 119,V [],.cells [.ref 4 1] 119,V p,.gone],mu:=fun q=>(q-Q).toNat,objs:=[3] },rfl,?_⟩
      (repeat refine ZG ?_)
      refine ⟨⟨q0,r5,?_⟩,fun (q:Int) hq=>?_⟩
      ·(repeat' first|exact trivial|rfl|exact Nat.one_pos|apply And.intro)
       ·exact hq0
       ·exact hp
      ·obtain ⟨q1,q2⟩:=hq
       have q1:Q≤q:=q1
       obtain ⟨k1,k2,k3,_⟩:=fS (B:=B9) (by decide) w2 jv (j:=j) (q:=q) (by omega) (v.length+1) (by omega)
       obtain ⟨k4,_⟩:=Ei (B:=B9) (by decide) w2 jv (j:=j) (q:=q) (by omega) (by omega) r1
       have krest:=Gp (B:=B9) (by decide) w2 jv (j:=j) (q:=q) (by omega) (k:=v.length+1) (by omega)
       have kQ:q*valB B9 v≤valB B9 (w.drop j)↔q≤Q:=by rw[← hQ,Int.le_ediv_iff_mul_le s2]
       refine Need.mk ⟨w2,jv,by omega,by omega,by omega,by omega⟩ ?_
       rw[Int.toNat_natCast]
       (apply Br.mk<;>intro)
       ·rename_i hc
        have hgt:Q<q:=by
         refine Classical.byContradiction fun hx=>?_
         have:=k4.2 (kQ.2 (by omega))
         omega
        refine Need.mk ⟨k2,jv,by omega,by omega,by omega,by omega⟩ ?_
        (repeat refine ZG ?_)
        refine ⟨q-1,?_,⟨by show Q≤q-1;omega,by show q-1≤4000000000;omega⟩,?_⟩
        ·show (q-1-Q).toNat<(q-Q).toNat
         omega
        ·(repeat' first|exact trivial|rfl|exact Nat.one_pos|apply And.intro)
         exact krest
       ·rename_i hc
        have hqQ:q=Q:=by
         have:=kQ.1 (k4.1 (by omega))
         omega
        subst hqQ
        (repeat refine ZG ?_)
        refine ⟨(s+1:Nat),rfl,hlt,?_⟩
        (repeat' first|exact trivial|rfl|exact Nat.one_pos|apply And.intro)
        ·exact hst1.symm
        ·exact hst2.symm
     ·subst he
      obtain ⟨a1,a2⟩:=Li (B:=B9) (by decide) iu jv s2 hMu s1
      have e1:(valB B9 u/valB B9 v).toNat=m/n:=by
       rw[vu,vv,← Int.natCast_ediv,Int.toNat_natCast,Nat.mul_div_mul_right _ _ f0]
      have e2:(valB B9 u%valB B9 v).toNat=m%n*f:=by
       rw[vu,vv,← Int.natCast_emod,Int.toNat_natCast,Nat.mul_mod_mul_right]
      rw[e1] at a1
      rw[e2] at a2
      have hr:m%n*f<B9^101:=by
       rw[Nat.pow_succ]
       exact Nat.mul_lt_mul'' (Nat.lt_trans (Nat.mod_lt m hn0) hn) fB
      have lr:=dV hr
      (conv=>whnf)
      rw[a2]
      refine Need.mk ⟨bD (by decide) _,by omega,by omega⟩ ?_
      have e3:(valB B9 (aD B9 (m%n*f))/(f:Int)).toNat=m%n:=by
       rw[v9,← Int.natCast_ediv,Int.toNat_natCast,Nat.mul_div_cancel _ f0]
      rw[e3]
      (conv=>whnf)
      (repeat' first|exact trivial|rfl|apply And.intro)
      ·exact a1
def c106:Con:=aH 148 false fun args K=>match args with
 | [.seq (.int .i64) a,.seq (.int .i64) b]=>Need (oP a∧oP b∧b≠ []) (K (.tup [Ls (aD B9 ((valB B9 a).toNat/(valB B9 b).toNat)),Ls (aD B9 ((valB B9 a).toNat% (valB B9 b).toNat))]))
 | _=>False
theorem Hc {b:List Int} (h:oP b) (hb:b≠ []):0<(valB B9 b).toNat:=by
 refine Nat.pos_of_ne_zero fun h0=>hb ?_
 rw[h.1,h0,bG]
theorem k106:aF Tryz.prog c106:=by
 refine kO Tryz.func148 fun args K h=>?_
 simp only[c106] at h;split at h
 ·rename_i a b
  refine ⟨_,h.go,?_⟩
  obtain ⟨⟨ha,hm⟩,⟨hb,hn⟩,hne⟩:=h.ok
  have ht:=triB Tryz.func148 Tryz.ntmps148 (by simp[k129,k134,k99,k135h,k166s,k136,k137,k138,k131]) (b106 (valB B9 a).toNat (valB B9 b).toNat hm ⟨Hc ⟨hb,hn⟩ hne,hn⟩)
  rw[← ha,← hb] at ht
  exact ht
 ·exact h.elim
def dvI (x y:Int):List UInt8 × List UInt8 × Int:=if lim (x.fdiv y) || lim (x.fmod y) then ([],[],4) else (itoa (x.fdiv y),itoa (x.fmod y),0)
noncomputable def divI (a b:List UInt8):List UInt8 × List UInt8 × Int:=if chk2 a b≠0 then ([],[],chk2 a b) else if b= [48] then ([],[],12) else dvI (valI a) (valI b)
theorem Pv {b:List UInt8} (h:form b) (h0:¬b= [48]):valI b≠0:=fun e=>h0 (by
 have:=pR h
 rw[e] at this
 rw[this]
 unfold itoa
 rw[if_neg (by omega)]
 exact bJ (show 0<10 by omega))
theorem pw12:B9^100<B9^200:=Nat.pow_lt_pow_right (by decide) (by omega)
theorem Pw (x y:Int):dvI x y=if (resI (x.fdiv y)).2≠0∨(resI (x.fmod y)).2≠0 then ([],[],4) else ((resI (x.fdiv y)).1,(resI (x.fmod y)).1,0):=by
 unfold dvI resI
 by_cases h1:lim (x.fdiv y)=true<;>by_cases h2:lim (x.fmod y)=true<;>simp[h1,h2]
theorem rF {x y q r:Int} (hq:q=x.fdiv y) (hr:r=x.fmod y) (h1:q.natAbs<10^40) (h2:r.natAbs<10^40):dvI x y=(itoa q,itoa r,0):=by
 rw[Pw,← hq,← hr,iL h1,iL h2]
 simp
theorem Px (p q:Prop) [Decidable p] [Decidable q] (m n:Nat) (hn:0<n):
  sgP (¬(p↔q)) ((if ¬(p↔q)∧0<m%n then m/n+1 else m/n:Nat):Int)=(sgP p m).fdiv (sgP q n)∧sgP q ((if ¬(p↔q)∧0<m%n then n-m%n else m%n:Nat):Int)=(sgP p m).fmod (sgP q n):=by
 have h:=Rn (decide p) m (decide q) n hn
 have e1:∀(r:Prop) [Decidable r] (k:Nat),sgn (decide r) k=sgP r k:=fun r _ k=>by unfold sgn sgP;by_cases hr:r<;>simp[hr]
 rw[Prod.mk.injEq,e1,e1,e1] at h
 have e2:∀k,sgn (decide p != decide q) k=sgP (¬(p↔q)) k:=fun k=>by
  unfold sgn sgP
  by_cases hp:p<;>by_cases hq:q<;>simp[hp,hq]
 rw[e2] at h
 have e3:(decide p≠decide q)↔¬(p↔q):=by by_cases hp:p<;>by_cases hq:q<;>simp[hp,hq]
 by_cases hc:¬(p↔q)∧0<m%n
 ·rw[if_pos hc,if_pos hc]
  rw[if_pos ⟨e3.2 hc.1,hc.2⟩,if_pos ⟨e3.2 hc.1,hc.2⟩] at h
  exact h
 ·rw[if_neg hc,if_neg hc]
  rw[if_neg (fun hx=>hc ⟨e3.1 hx.1,hx.2⟩),if_neg (fun hx=>hc ⟨e3.1 hx.1,hx.2⟩)] at h
  exact h
def c69:Con:=aH 97 true fun args K=>match args with | [.str a,.str b]=>K (.tup [S (divI a b).1,S (divI a b).2.1,I (divI a b).2.2]) | _=>False
theorem k69:aF Tryz.prog c69:=by
 refine kQ {} Tryz.func97 Tryz.ntmps97 (kc k94 (kc k95 (kc k61 (kc k98 (kc k106 (kc k107 (kc k96 kn))))))) fun _ _ h=>?_
 split at h
 case h_2=>exact h.elim
 rename_i a b
 refine kb h ?_
 unfold divI
 (apply Br.mk<;>intro)
 ·rename_i h
  rw[if_pos h]
  (conv=>whnf)
  (repeat' first|exact trivial|rfl|apply And.intro)
 ·rename_i h
  rw[if_neg h]
  obtain ⟨ha,hb⟩:=jW h
  obtain ⟨fa,la⟩:=cP ha
  obtain ⟨fb,lb⟩:=cP hb
  (apply Br.mk<;>intro)
  ·rename_i h0
   rw[if_pos h0]
   (conv=>whnf)
   (repeat' first|exact trivial|rfl|apply And.intro)
  ·rename_i h0
   rw[if_neg h0]
   have hy:=Pv fb h0
   refine Need.mk ⟨rfl,fa,fb⟩ ?_
   (apply Br.mk<;>intro)
   ·rename_i hs
    have h1:=eW fa hs.1
    have h2:=eW fb hs.2
    have hd:((valI a).tdiv (valI b)).natAbs≤(valI a).natAbs:=by rw[Int.natAbs_tdiv];exact Nat.div_le_self _ _
    have hm:((valI a).tmod (valI b)).natAbs<(valI b).natAbs:=by rw[Int.natAbs_tmod];exact Nat.mod_lt _ (by omega)
    have hsd:=Lg (valI a) (valI b) hy
    (repeat'((conv=>whnf);first|refine Zb ?_|refine Zn ?_|(apply Pin.mk;apply Exists.intro)|apply Pinned.mk rfl rfl|fail))
    (apply Br.mk<;>intro)
    ·rename_i hr
     (apply Br.mk<;>intro)
     ·rename_i hsg
      rw[if_pos ⟨hr,hsg⟩,Prod.mk.injEq] at hsd
      rw[rF hsd.1 hsd.2 (by omega) (by omega)]
      (repeat refine ZG ?_)
      (conv=>whnf)
      (repeat' first|exact trivial|rfl|apply And.intro)
     ·rename_i hsg
      rw[if_neg (fun hx=>hsg hx.2),Prod.mk.injEq] at hsd
      rw[rF hsd.1 hsd.2 (by omega) (by omega)]
      (conv=>whnf)
      (repeat' first|exact trivial|rfl|apply And.intro)
    ·rename_i hr
     rw[if_neg (fun hx=>hr hx.1),Prod.mk.injEq] at hsd
     rw[rF hsd.1 hsd.2 (by omega) (by omega)]
     (conv=>whnf)
     (repeat' first|exact trivial|rfl|apply And.intro)
   ·rename_i hs
    refine Need.mk ⟨fa,by omega⟩ ?_
    refine Need.mk ⟨fb,by omega⟩ ?_
    have pb:0<aK (digs b):=Nat.pos_of_ne_zero fun e=>hy (by rw[iT,e];unfold sgP;split<;>rfl)
    (repeat'((conv=>whnf);first|refine Zl ?_|fail))
    refine Need.mk ⟨cA fa la,cA fb lb,fun e=>by rw[gT (by decide)] at e;omega⟩ ?_
    rw[v9,v9,Int.toNat_natCast,Int.toNat_natCast]
    obtain ⟨d1,d2⟩:=Px (a.headD 0=45) (b.headD 0=45) (aK (digs a)) (aK (digs b)) pb
    rw[← iT,← iT] at d1 d2
    rw[Pw]
    obtain ⟨M,hM⟩:∃M,aK (digs a)=M:=⟨_,rfl⟩
    obtain ⟨N,hN⟩:∃N,aK (digs b)=N:=⟨_,rfl⟩
    have cM:=(cA fa la).2
    have cN:=(cA fb lb).2
    rw[v9,Int.toNat_natCast,hM] at cM
    rw[v9,Int.toNat_natCast,hN] at cN
    rw[hM,hN] at d1 d2 ⊢
    rw[hN] at pb
    (apply Br.mk<;>intro)
    ·rename_i hne
     (repeat'((conv=>whnf);first|refine Zg fun _=>?_|fail))
     (apply Br.mk<;>intro)
     ·rename_i hrm
      have hpos:0<M%N:=Nat.pos_of_ne_zero fun e=>by rw[e,bG] at hrm;exact absurd hrm (by decide)
      rw[if_pos ⟨hne,hpos⟩] at d1 d2
      have ex1:(valB B9 (aD B9 (M/N))+valB B9 [(1:Int)]).toNat=M/N+1:=by rw[v9,show valB B9 [(1:Int)]=1 by simp[valB]];generalize M/N=k;omega
      have ex2:(valB B9 (aD B9 N)-valB B9 (aD B9 (M%N))).toNat=N-M%N:=by rw[v9,v9];omega
      have hv1:∀hd,@sgP (¬(a.headD 0=45↔b.headD 0=45)) hd (valB B9 (aD B9 (M/N+1)))=(valI a).fdiv (valI b):=fun hd=>by rw[← d1,v9];congr
      have hv2:sgP (b.headD 0=45) (valB B9 (aD B9 (N-M%N)))=(valI a).fmod (valI b):=by rw[← d2,v9]
      have lq:=dV (show M/N<B9^100 from Nat.lt_of_le_of_lt (Nat.div_le_self _ _) cM)
      have lr:=dV (show M%N<B9^100 from Nat.lt_trans (Nat.mod_lt _ pb) cN)
      have hml:=Nat.mod_lt M pb
      have lN:=dV cN
      have big1:M/N+1<B9^200:=by
       have h1:M/N<B9^100:=Nat.lt_of_le_of_lt (Nat.div_le_self _ _) cM
       have h2:B9^100<B9^200:=Nat.pow_lt_pow_right (by decide) (by omega)
       omega
      (repeat'((conv=>whnf);first|(apply Pin.mk;apply Exists.intro)|apply Pinned.mk rfl rfl|refine Zl ?_|fail))
      refine Need.mk ⟨bD (by decide) _,fun x hx=>?_,by omega,by show 1≤100000;omega⟩ ?_
      ·have:x=1:=by simpa using hx
       subst this
       exact ⟨by omega,by show (1:Int)<1000000000;omega⟩
      rw[ex1]
      (repeat'((conv=>whnf);first|(apply Pin.mk;apply Exists.intro)|apply Pinned.mk rfl rfl|fail))
      refine Need.mk ⟨bD (by decide) _,bD (by decide) _,by rw[v9,v9];omega,by omega,by omega⟩ ?_
      rw[ex2]
      refine Need.mk (cK (show M/N+1<B9^200 from big1)) ?_
      rw[hv1]
      refine Need.mk (cK (show N-M%N<B9^200 from (Nat.lt_trans (show N-M%N<B9^100 from Nat.lt_of_le_of_lt (Nat.sub_le _ _) cN) pw12))) ?_
      rw[hv2]
      (apply Br.mk<;>intro)
      ·rename_i z1
       rw[if_pos (.inl z1)]
       (conv=>whnf)
       (repeat' first|exact trivial|rfl|apply And.intro)
      ·rename_i z1
       (apply Br.mk<;>intro)
       ·rename_i z2
        rw[if_pos (.inr z2)]
        (conv=>whnf)
        (repeat' first|exact trivial|rfl|apply And.intro)
       ·rename_i z2
        rw[if_neg (fun hx=>hx.elim z1 z2)]
        (conv=>whnf)
        (repeat' first|exact trivial|rfl|apply And.intro)
     ·rename_i hrm
      have h00:M%N=0:=by
       have:(aD B9 (M%N)).length=0:=by omega
       exact (gT (by decide)).1 (List.eq_nil_of_length_eq_zero this)
      have d1':(valI a).fdiv (valI b)=sgP (¬(a.headD 0=45↔b.headD 0=45)) ((M/N:Nat):Int):=by rw[← d1,if_neg (fun hx=>absurd hx.2 (by omega))]
      have d2':(valI a).fmod (valI b)=sgP (b.headD 0=45) ((M%N:Nat):Int):=by rw[← d2,if_neg (fun hx=>absurd hx.2 (by omega))]
      have hv1:∀hd,@sgP (¬(a.headD 0=45↔b.headD 0=45)) hd (valB B9 (aD B9 (M/N)))=(valI a).fdiv (valI b):=fun hd=>by rw[d1',v9];congr
      have hv2:sgP (b.headD 0=45) (valB B9 (aD B9 (M%N)))=(valI a).fmod (valI b):=by rw[d2',v9]
      refine Need.mk (cK (Nat.lt_trans ((show M/N<B9^100 from Nat.lt_of_le_of_lt (Nat.div_le_self _ _) cM)) pw12)) ?_
      rw[hv1]
      refine Need.mk (cK (Nat.lt_trans ((show M%N<B9^100 from Nat.lt_trans (Nat.mod_lt _ pb) cN)) pw12)) ?_
      rw[hv2]
      (apply Br.mk<;>intro)
      ·rename_i z1
       rw[if_pos (.inl z1)]
       (conv=>whnf)
       (repeat' first|exact trivial|rfl|apply And.intro)
      ·rename_i z1
       (apply Br.mk<;>intro)
       ·rename_i z2
        rw[if_pos (.inr z2)]
        (conv=>whnf)
        (repeat' first|exact trivial|rfl|apply And.intro)
       ·rename_i z2
        rw[if_neg (fun hx=>hx.elim z1 z2)]
        (conv=>whnf)
        (repeat' first|exact trivial|rfl|apply And.intro)
    ·rename_i hne
     have d1':(valI a).fdiv (valI b)=sgP (¬(a.headD 0=45↔b.headD 0=45)) ((M/N:Nat):Int):=by rw[← d1,if_neg (fun hx=>hne hx.1)]
     have d2':(valI a).fmod (valI b)=sgP (b.headD 0=45) ((M%N:Nat):Int):=by rw[← d2,if_neg (fun hx=>hne hx.1)]
     have hv1:∀hd,@sgP (¬(a.headD 0=45↔b.headD 0=45)) hd (valB B9 (aD B9 (M/N)))=(valI a).fdiv (valI b):=fun hd=>by rw[d1',v9];congr
     have hv2:sgP (b.headD 0=45) (valB B9 (aD B9 (M%N)))=(valI a).fmod (valI b):=by rw[d2',v9]
     refine Need.mk (cK (Nat.lt_trans ((show M/N<B9^100 from Nat.lt_of_le_of_lt (Nat.div_le_self _ _) cM)) pw12)) ?_
     rw[hv1]
     refine Need.mk (cK (Nat.lt_trans ((show M%N<B9^100 from Nat.lt_trans (Nat.mod_lt _ pb) cN)) pw12)) ?_
     rw[hv2]
     (apply Br.mk<;>intro)
     ·rename_i z1
      rw[if_pos (.inl z1)]
      (conv=>whnf)
      (repeat' first|exact trivial|rfl|apply And.intro)
     ·rename_i z1
      (apply Br.mk<;>intro)
      ·rename_i z2
       rw[if_pos (.inr z2)]
       (conv=>whnf)
       (repeat' first|exact trivial|rfl|apply And.intro)
      ·rename_i z2
       rw[if_neg (fun hx=>hx.elim z1 z2)]
       (conv=>whnf)
       (repeat' first|exact trivial|rfl|apply And.intro)
theorem Py {P:Program} {fr:Bool} {f:FuncId} {args args':List SV} {r:SV} (h:Tri P fr f args r) (he:ent.entL args' args):Tri P fr f args' r:=
 fun ok w vs hg hok hr=>h ok w vs hg hok (cL he hr)
def c96g:Con:=aH 144 true fun args K=>match args with
 | [.agg [.val (.bool false),.seq (.int .i64) a]]=>Need (sL a) (K (.tup [S (resI (valB B9 a)).1,I (resI (valB B9 a)).2]))
 | _=>False
theorem k96g:aF Tryz.prog c96g:=by
 refine kO Tryz.func144 fun args K h=>?_
 simp only[c96g] at h;split at h
 ·rename_i a
  refine ⟨_,h.go,?_⟩
  have ht:=triB Tryz.func144 Tryz.ntmps144 (by simp[k128,k88]) (b96 False inferInstance a h.ok)
  refine Py (args:=[.agg [.bl False inferInstance,Ls a]]) ht ⟨⟨fun h=>h,?_,trivial⟩,trivial⟩
  rfl
 ·exact h.elim
theorem En (x y:Int):Int.gcd y (x.tmod y)=Int.gcd x y:=by
 unfold Int.gcd
 rw[Int.natAbs_tmod,Nat.gcd_comm,← Nat.gcd_rec,Nat.gcd_comm]
theorem tA (p:Prop) [Decidable p] (n:Nat):(sgP p n).natAbs=n:=by unfold sgP;split<;>omega
theorem vW {m:Nat} (h:m<B9^34):oP (aD B9 m):=by
 refine ⟨by rw[v9,Int.toNat_natCast],?_⟩
 rw[v9,Int.toNat_natCast]
 exact Nat.lt_of_lt_of_le h (Nat.pow_le_pow_right (by decide) (by omega))
def c89:Con:=aH 96 true fun args K=>match args with | [.str a,.str b]=>K (.tup [S (eZ a b (resI (Int.gcd (valI a) (valI b)))).1,I (eZ a b (resI (Int.gcd (valI a) (valI b)))).2]) | _=>False
theorem k89:aF Tryz.prog c89:=by
 refine kQ { asks:=[(0,[]),(2,[])] } Tryz.func96 Tryz.ntmps96 (kc k94 (kc k95 (kc k61 (kc k98 (kc k106 (kc k96g kn)))))) fun _ _ h=>?_
 split at h
 case h_2=>exact h.elim
 rename_i a b
 refine kb h ?_
 unfold eZ
 (apply Br.mk<;>intro)
 ·rename_i h
  rw[if_pos h]
  (conv=>whnf)
  (repeat' first|exact trivial|rfl|apply And.intro)
 ·rename_i h
  rw[if_neg h]
  obtain ⟨ha,hb⟩:=jW h
  obtain ⟨fa,la⟩:=cP ha
  obtain ⟨fb,lb⟩:=cP hb
  refine Need.mk ⟨rfl,fa,fb⟩ ?_
  (apply Br.mk<;>intro)
  ·rename_i hs
   have h1:=eW fa hs.1
   have h2:=eW fb hs.2
   refine Ask.mk ⟨{ X:=Int × Int,pre:=fun z=>Int.gcd z.1 z.2=Int.gcd (valI a) (valI b)∧z.1.natAbs≤1000000000000000000∧z.2.natAbs≤1000000000000000000,mod:=fun z _=>[(7,I z.1),(8,I z.2)],heap:=fun _ _=>[],mu:=fun z=>z.2.natAbs },rfl,?_⟩
   (repeat refine ZG ?_)
   refine ⟨⟨(valI a,valI b),⟨rfl,by show (valI a).natAbs≤ _;omega,by show (valI b).natAbs≤ _;omega⟩,by (repeat' first|exact trivial|rfl|apply And.intro)⟩,fun (z:Int × Int) hz=>?_⟩
   obtain ⟨z1,z2,z3⟩:=hz
   (apply Br.mk<;>intro)
   ·rename_i hy
    have hm:(z.1.tmod z.2).natAbs<z.2.natAbs:=by rw[Int.natAbs_tmod];exact Nat.mod_lt _ (by omega)
    (repeat'((conv=>whnf);first|refine Zb ?_|(apply Pin.mk;apply Exists.intro)|apply Pinned.mk rfl rfl|fail))
    (conv=>whnf)
    refine ⟨(z.2,z.1.tmod z.2),hm,⟨by rw[← z1];exact En _ _,z3,by show (z.1.tmod z.2).natAbs≤ _;omega⟩,?_⟩
    (repeat' first|exact trivial|rfl|apply And.intro)
   ·rename_i hy
    have hy:z.2=0:=by omega
    have hg:((Int.gcd (valI a) (valI b):Nat):Int)=max z.1 (-z.1):=by
     rw[← z1,hy,Int.gcd_zero_right]
     omega
    rw[hg,iL (by omega)]
    (repeat refine ZG ?_)
    (conv=>whnf)
    (repeat' first|exact trivial|rfl|apply And.intro)
  ·rename_i hs
   refine Need.mk ⟨fa,by omega⟩ ?_
   refine Need.mk ⟨fb,by omega⟩ ?_
   have pM:=fT fa la
   have pN:=fT fb lb
   have hgv:Int.gcd (valI a) (valI b)=Nat.gcd (aK (digs a)) (aK (digs b)):=by
    unfold Int.gcd
    rw[iT,iT,tA,tA]
   rw[hgv]
   refine Ask.mk ⟨{ X:=Nat × Nat,pre:=fun z=>Nat.gcd z.1 z.2=Nat.gcd (aK (digs a)) (aK (digs b))∧z.1<B9^34∧z.2<B9^34,mod:=fun z _=>[(10,Ls (aD B9 z.1)),(11,Ls (aD B9 z.2))],heap:=fun _ _=>[],mu:=fun z=>z.2 },rfl,?_⟩
   (repeat refine ZG ?_)
   refine ⟨⟨(aK (digs a),aK (digs b)),⟨rfl,pM,pN⟩,by (repeat' first|exact trivial|rfl|apply And.intro)⟩,fun (z:Nat × Nat) hz=>?_⟩
   obtain ⟨z1,z2,z3⟩:=hz
   (repeat'((conv=>whnf);first|refine Zg fun _=>?_|fail))
   (apply Br.mk<;>intro)
   ·rename_i hy
    have hy:0<z.2:=Nat.pos_of_ne_zero fun e=>by rw[e,bG] at hy;exact absurd hy (by decide)
    refine Need.mk ⟨vW z2,vW z3,fun e=>by rw[gT (by decide)] at e;omega⟩ ?_
    rw[v9,v9,Int.toNat_natCast,Int.toNat_natCast]
    refine ⟨(z.2,z.1%z.2),Nat.mod_lt _ hy,⟨by rw[← z1];show Nat.gcd z.2 (z.1%z.2)= _;rw[Nat.gcd_comm z.1 z.2,Nat.gcd_rec z.2 z.1];exact Nat.gcd_comm _ _,z3,Nat.lt_trans (Nat.mod_lt _ hy) z3⟩,?_⟩
    (repeat' first|exact trivial|rfl|apply And.intro)
   ·rename_i hy
    have hy:z.2=0:=(gT (B:=B9) (by decide)).1 (List.eq_nil_of_length_eq_zero (by omega))
    rw[hy,Nat.gcd_zero_right] at z1
    rw[← z1]
    refine Need.mk (cK (Nat.lt_of_lt_of_le z2 (Nat.pow_le_pow_right (by decide) (by omega)))) ?_
    rw[v9]
    (conv=>whnf)
    (repeat' first|exact trivial|rfl|apply And.intro)
end RB
end
section
namespace IB
open Go.Lib
def lead:List UInt8→Nat
 | []=>0
 | c::r=>if 48≤c.toNat∧c.toNat≤57 then lead r+1 else 0
theorem Az:∀s,lead s≤s.length
 | []=>Nat.le_refl _
 | c::r=>by
  unfold lead
  split
  ·have:=Az r;simp only[List.length_cons];omega
  ·omega
theorem vO:∀s:List UInt8,∀c∈s.take (lead s),aY c
 | [],c,h=>by simp at h
 | x::r,c,h=>by
  unfold lead at h
  split at h
  ·rename_i hx
   rw[List.take_succ_cons] at h
   rcases List.mem_cons.1 h with rfl | h
   ·exact hx
   ·exact vO r c h
  ·simp at h
theorem pX:∀(s:List UInt8) (n:Nat),n≤s.length→(∀i,i<n→aY (s.getD i 0))→(n=s.length∨¬aY (s.getD n 0))→lead s=n
 | [],n,h1,_,_=>by simp at h1;subst h1;rfl
 | c::r,0,_,_,h3=>by
  rcases h3 with h3 | h3
  ·simp at h3
  ·unfold lead
   rw[if_neg]
   exact h3
 | c::r,n+1,h1,h2,h3=>by
  have hc:48≤c.toNat∧c.toNat≤57:=h2 0 (by omega)
  unfold lead
  rw[if_pos hc,pX r n (by simpa using h1) (fun i hi=>h2 (i+1) (by omega)) (by
   rcases h3 with h3 | h3
   ·exact .inl (by simpa using h3)
   ·exact .inr h3)]
theorem On {s:List UInt8}:lead s=s.length↔∀c∈s,aY c:=by
 constructor
 ·intro h c hc
  have:=vO s c
  rw[h,List.take_length] at this
  exact this hc
 ·intro h
  exact pX s s.length (Nat.le_refl _) (fun i hi=>by
   rw[List.getD_eq_getElem?_getD,List.getElem?_eq_getElem hi]
   exact h _ (List.getElem_mem hi)) (.inl rfl)
def dgsN (s:List UInt8):Nat:=if 1<lead s∧s.headD 0=48 then 0 else lead s
def okD (s:List UInt8):Prop:=dgsN s≠0∧s.length≤dgsN s
theorem Jp (s:List UInt8):okD s↔s≠ []∧(∀c∈s,aY c)∧(s.length=1∨s.headD 0≠48):=by
 have hl:=Az s
 unfold okD dgsN
 rw[← On]
 by_cases h:1<lead s∧s.headD 0=48
 ·rw[if_pos h]
  refine ⟨fun hx=>absurd rfl hx.1,?_⟩
  rintro ⟨_,h2,h3⟩
  rcases h3 with h3 | h3
  ·omega
  ·exact absurd h.2 h3
 ·rw[if_neg h]
  constructor
  ·rintro ⟨h1,h2⟩
   have e:lead s=s.length:=by omega
   refine ⟨fun hx=>by rw[hx] at h1;exact h1 rfl,e,?_⟩
   by_cases h48:s.headD 0=48
   ·left
    have:¬1<lead s:=fun hx=>h ⟨hx,h48⟩
    omega
   ·exact .inr h48
  ·rintro ⟨h1,h2,h3⟩
   have:=List.length_pos_iff.2 h1
   exact ⟨by omega,by omega⟩
theorem Rp {s:List UInt8} (h1:s.length=1) (h:s.headD 0=48):s= [48]:=by
 cases s with
 | nil=>simp at h1
 | cons c r=>
  have:r= []:=by simpa using h1
  subst this
  simp at h;rw[h]
theorem Oo (t:List UInt8):form t↔okD (digs t)∧¬(t.headD 0=45∧digs t= [48]):=by
 rw[Jp]
 unfold form
 constructor
 ·rintro ⟨h1,h2,h3⟩
  refine ⟨⟨h1,h3,?_⟩,?_⟩
  ·rcases h2 with h2 | h2
   ·exact .inr h2
   ·left;rw[h2];rfl
  ·rintro ⟨q1,q2⟩
   rcases h2 with h2 | h2
   ·rw[q2] at h2;exact h2 rfl
   ·rw[h2] at q1;simp at q1
 ·rintro ⟨⟨h1,h2,h3⟩,h4⟩
  refine ⟨h1,?_,h2⟩
  by_cases h48:(digs t).headD 0=48
  ·right
   rcases h3 with h3 | h3
   ·have e:=Rp h3 h48
    have hn:¬t.headD 0=45:=fun q=>h4 ⟨q,e⟩
    unfold digs at e
    rw[if_neg hn] at e
    exact e
   ·exact absurd h48 h3
  ·exact .inl h48
theorem Rq (d:List UInt8):(d=decDigits (aK d)∧2≤aK d)↔okD d∧¬d= [48]∧¬d= [49]:=by
 rw[Jp]
 constructor
 ·rintro ⟨h1,h2⟩
  have hd:∀c∈d,aY c:=fun c hc=>by rw[h1] at hc;exact kV _ _ hc
  have hne:d≠ []:=fun e=>by rw[e] at h2;exact absurd h2 (by decide)
  refine ⟨⟨hne,hd,?_⟩,fun e=>by rw[e] at h2;exact absurd h2 (by decide),fun e=>by rw[e] at h2;exact absurd h2 (by decide)⟩
  right
  rw[h1]
  exact Ek _ (by omega)
 ·rintro ⟨⟨h1,h2,h3⟩,h4,h5⟩
  have e:=nF d.length d rfl h1 h2 h3
  refine ⟨e.symm,?_⟩
  apply Classical.byContradiction
  intro hn
  have:aK d=0∨aK d=1:=by omega
  rcases this with h | h
  ·rw[h,bJ (by omega)] at e;exact h4 e.symm
  ·rw[h,bJ (by omega)] at e;exact h5 e.symm
theorem iY:∀s:List UInt8,Go.Lib.indexByte s 47=if botS s= [] then -1 else ((topS s).length:Int)
 | []=>rfl
 | c::r=>by
  have ih:=iY r
  by_cases h:c=47
  ·subst h
   simp[Go.Lib.indexByte,botS,topS]
  ·have e1:botS (c::r)=botS r:=by simp[botS,h]
   have e2:topS (c::r)=c::topS r:=by simp[topS,h]
   rw[e1,e2]
   simp only[Go.Lib.indexByte]
   rw[ih]
   by_cases hb:botS r= []
   ·simp[hb,h]
   ·simp[hb,h]
theorem pY (s:List UInt8):topS s++botS s=s:=List.takeWhile_append_dropWhile
theorem Oq (s:List UInt8):s.take (topS s).length=topS s:=by
 have:=List.take_left (l₁:=topS s) (l₂:=botS s)
 rwa [pY] at this
theorem Ot (s:List UInt8):s.drop (topS s).length=botS s:=by
 have:=List.drop_left (l₁:=topS s) (l₂:=botS s)
 rwa [pY] at this
end IB
end
section
open Go Go.Proofs Go.Eng Go.Shelf IB Go.Lib Go.RowKit
namespace RB
def c105:Con:=aH 99 true fun args K=>match args with | [.val (.int .i64 a),.val (.int .i64 b)]=>Need ((0≤a∧a≤4000000000000000000)∧(0≤b∧b≤4000000000000000000)) (K (I (Int.gcd a b))) | _=>False
theorem k105:aF Tryz.prog c105:=by
 refine kQ { asks:=[(0,[])] } Tryz.func99 Tryz.ntmps99 kn fun _ _ h=>?_
 split at h
 case h_2=>exact h.elim
 rename_i a b
 refine kb h.go ?_
 replace h:=h.ok
 obtain ⟨ha,hb⟩:=h
 refine Ask.mk ⟨{ X:=Int × Int,pre:=fun z=>Int.gcd z.1 z.2=Int.gcd a b∧(0≤z.1∧z.1≤4000000000000000000)∧(0≤z.2∧z.2≤4000000000000000000),mod:=fun z _=>[(0,I z.1),(1,I z.2)],heap:=fun _ _=>[],mu:=fun z=>z.2.natAbs },rfl,?_⟩
 (repeat refine ZG ?_)
 refine ⟨⟨(a,b),⟨rfl,ha,hb⟩,by (repeat' first|exact trivial|rfl|apply And.intro)⟩,fun (z:Int × Int) hz=>?_⟩
 obtain ⟨z1,z2,z3⟩:=hz
 (apply Br.mk<;>intro)
 ·rename_i hy
  have hm:(z.1.tmod z.2).natAbs<z.2.natAbs:=by rw[Int.natAbs_tmod];exact Nat.mod_lt _ (by omega)
  have hm0:0≤z.1.tmod z.2:=Int.tmod_nonneg _ z2.1
  (repeat'((conv=>whnf);first|refine Za ?_|(apply Pin.mk;apply Exists.intro)|apply Pinned.mk rfl rfl|fail))
  (conv=>whnf)
  refine ⟨(z.2,z.1.tmod z.2),hm,⟨by rw[← z1];exact En _ _,z3,hm0,by show z.1.tmod z.2≤ _;omega⟩,?_⟩
  (repeat' first|exact trivial|rfl|apply And.intro)
  exact (Int.tmod_eq_emod_of_nonneg z2.1).symm
 ·rename_i hy
  have hy:z.2=0:=by omega
  have hg:((Int.gcd a b:Nat):Int)=z.1:=by
   rw[← z1,hy,Int.gcd_zero_right]
   omega
  rw[hg]
  (conv=>whnf)
  (repeat' first|rfl|apply And.intro)
theorem Sb {P:Program} {fr:Bool} {f:FuncId} {s:List UInt8} {r:List SV} {x:SV} (h:s.length≤140737488355328→Tri P fr f (.str s::r) x):Tri P fr f (.str s::r) x:=by
 intro ok w vs hg hok hr
 cases hr with
 | cons _ v1 _ vs1 h1 hr=>
 cases h1 with
 | str _ hl=>exact h hl ok w _ hg hok (.cons _ _ _ _ (.str _ hl) hr)
theorem Jw (s:List UInt8): -1≤Lib.indexByte s 47∧Lib.indexByte s 47≤s.length:=by
 rw[iY]
 split
 ·omega
 ·have:=congrArg List.length (pY s)
  rw[List.length_append] at this
  omega
theorem t170 (s:List UInt8):Tri Tryz.prog true 216 [S s,S [47]] (I (Lib.indexByte s 47)):=by
 intro ok w vs hg hok hr
 cases hr with
 | cons _ v1 _ vs1 h1 hr=>
 cases h1 with
 | str _ hl=>
 obtain ⟨rfl,_⟩:=qE hr
 have hl':s.length≤140737488355328:=hl
 have hb:=Jw s
 refine (Any.stringslite_Index_one RL.lX ⟨s.toArray⟩ 47 w).mono ?_
 rintro e w' ⟨rfl,rfl⟩
 have hw:WV (.int .i64 (Lib.indexByte s 47)):=by constructor<;>simp only[lo,hi]<;>omega
 exact ⟨_,rfl,Below.refl _ _,.val _ hw⟩
def c170:Con:=aH 216 true fun args K=>match args with | [.str s,.str p]=>Need (p= [47]) (K (I (Lib.indexByte s 47))) | _=>False
theorem k170:aF Tryz.prog c170:=by
 refine kO Tryz.func216 fun args K h=>?_
 simp only[c170] at h;split at h
 ·obtain ⟨rfl,h⟩:=h
  exact ⟨_,h,t170 _⟩
 ·exact h.elim
theorem b154 (s:List UInt8) (hl:s.length≤140737488355328):body Tryz.prog [c170] {} true Tryz.f187 [S s,S [47]] (.tup [S (topS s),S (botS s).tail,.bl (botS s≠ []) inferInstance]):=by
 have hb:=Jw s
 have hi:=iY s
 have htb:=congrArg List.length (pY s)
 rw[List.length_append] at htb
 (repeat refine ZG ?_)
 (apply Br.mk<;>intro)
 ·rename_i h
  by_cases hbn:botS s= []
  ·rw[if_pos hbn] at hi;omega
  ·rw[if_neg hbn] at hi
   have hpos:=List.length_pos_iff.2 hbn
   rw[hi]
   (repeat'((conv=>whnf);first|refine Zg fun _=>?_|refine Zn ?_|refine Zj ?_|(apply Pin.mk;apply Exists.intro)|apply Pinned.mk rfl rfl|fail))
   (conv=>whnf)
   (repeat' first|exact trivial|apply And.intro)
   ·exact Oq s
   ·show s.drop ((topS s).length+1)=(botS s).tail
    rw[← List.drop_drop,Ot,List.drop_one]
   ·exact hbn
 ·rename_i h
  have hbn:botS s= []:=by
   refine Classical.byContradiction fun hx=>?_
   rw[if_neg hx] at hi;omega
  have ht:topS s=s:=by have:=pY s;rw[hbn,List.append_nil] at this;exact this
  (conv=>whnf)
  (repeat' first|exact trivial|apply And.intro)
  ·exact ht.symm
  ·show ([]:List UInt8)= _
   rw[hbn];rfl
  ·exact fun hx=>hx hbn
def c154:Con:=aH 187 true fun args K=>match args with | [.str s,.str p]=>Need (p= [47]) (K (.tup [S (topS s),S (botS s).tail,.bl (botS s≠ []) inferInstance])) | _=>False
theorem k154:aF Tryz.prog c154:=by
 refine kO Tryz.func187 fun args K h=>?_
 simp only[c154] at h;split at h
 ·obtain ⟨rfl,h⟩:=h
  exact ⟨_,h,Sb fun hl=>triB Tryz.func187 Tryz.ntmps187 (by simp[k170]) (b154 _ hl)⟩
 ·exact h.elim
theorem b122 (s:List UInt8):body Tryz.prog [c154] {} true Tryz.f152 [S s,S [47]] (.tup [S (topS s),S (botS s).tail,.bl (botS s≠ []) inferInstance]):=by
 (repeat refine ZG ?_)
 (conv=>whnf)
 (repeat' first|exact trivial|rfl|apply And.intro)
def c122:Con:=aH 152 true fun args K=>match args with | [.str s,.str p]=>Need (p= [47]) (K (.tup [S (topS s),S (botS s).tail,.bl (botS s≠ []) inferInstance])) | _=>False
theorem k122:aF Tryz.prog c122:=by
 refine kO Tryz.func152 fun args K h=>?_
 simp only[c122] at h;split at h
 ·obtain ⟨rfl,h⟩:=h
  exact ⟨_,h,triB Tryz.func152 Tryz.ntmps152 (by simp[k154]) (b122 _)⟩
 ·exact h.elim
theorem vX (s:List UInt8) (i:Nat):(48≤aR s i∧aR s i≤57)↔aY (s.getD i 0):=by
 unfold aR aY;omega
theorem rG (s:List UInt8):aR s 0=48↔s.headD 0=48:=by
 unfold aR
 have e:s.getD 0 0=s.headD 0:=by cases s<;>rfl
 rw[e]
 constructor
 ·intro h
  have:(s.headD 0).toNat=(48:UInt8).toNat:=by show _=48;omega
  exact UInt8.toNat.inj this
 ·intro h;rw[h];rfl
def c124:Con:=aH 153 true fun args K=>match args with | [.str s]=>K (I (dgsN s)) | _=>False
theorem k124:aF Tryz.prog c124:=by
 refine kQ { asks:=[(0,[])] } Tryz.func153 Tryz.ntmps153 kn fun _ _ h=>?_
 split at h
 case h_2=>exact h.elim
 rename_i s
 refine kb h ?_
 refine Ask.mk ⟨{ X:=Nat,pre:=fun n=>n≤s.length∧∀i,i<n→aY (s.getD i 0),mod:=fun n _=>[(3,I n)],heap:=fun _ _=>[],mu:=fun n=>s.length-n },rfl,?_⟩
 (repeat refine ZG ?_)
 refine ⟨⟨(0:Nat),⟨Nat.zero_le _,fun i hi=>absurd hi (Nat.not_lt_zero _)⟩,by (repeat' first|exact trivial|rfl|apply And.intro)⟩,fun (n:Nat) hn=>?_⟩
 obtain ⟨n1,n2⟩:=hn
 have hb:=vX s n
 have h0:=rG s
 by_cases hc:n<s.length∧48≤aR s n∧aR s n≤57
 ·(repeat'((conv=>whnf);first|refine Zg fun _=>?_|refine Zn ?_|refine Zj ?_|refine Zy ?_|fail))
  all_goals first | (exfalso;omega) | skip
  refine ⟨(n+1:Nat),by show s.length-(n+1)<s.length-n;omega,⟨by omega,fun i hi=>?_⟩,by (repeat' first|exact trivial|rfl|apply And.intro)⟩
  by_cases e:i=n
  ·subst e;exact hb.1 hc.2
  ·exact n2 i (by omega)
 ·have hl:lead s=n:=pX s n n1 n2 (by
   by_cases e:n=s.length
   ·exact .inl e
   ·right
    rw[← hb];intro hx;exact hc ⟨by omega,hx⟩)
  have hd:(dgsN s:Int)=if 1<n∧aR s 0=48 then 0 else (n:Int):=by
   unfold dgsN
   rw[hl]
   by_cases q:1<n∧aR s 0=48
   ·rw[if_pos q,if_pos ⟨q.1,h0.1 q.2⟩];rfl
   ·rw[if_neg q,if_neg (fun hx=>q ⟨hx.1,h0.2 hx.2⟩)]
  (repeat'((conv=>whnf);first|refine Zg fun _=>?_|refine Zn ?_|refine Z0 ?_|refine Zj ?_|refine Zm ?_|refine Zr (fun _=>?_) fun _=>?_|fail))
  all_goals first | (exfalso;omega) | skip
  all_goals (skip;(conv=>whnf);(repeat' first|rfl|apply And.intro))
  all_goals (rw[hd];first | rw[if_pos (by omega)] | rw[if_neg (by omega)])
theorem itoa_zero:itoa 0= [48]:=by
 unfold itoa
 rw[if_neg (by omega)]
 exact bJ (show 0<10 by omega)
theorem b92 (x:Int) (hlx:(itoa x).length≤1000):body Tryz.prog [c123] {} true Tryz.f95 [S (itoa x)] (S (itoa (-x))):=by
 (apply Br.mk<;>intro)
 ·rename_i h
  have hx:x=0:=iH (by rw[itoa_zero];exact h)
  subst hx
  (conv=>whnf)
  (repeat' first|rfl)
 ·rename_i h
  have hx:x≠0:=fun e=>h (by rw[e,itoa_zero])
  have hh:=fP x
  have hd:=cB x
  (repeat refine ZG ?_)
  (apply Br.mk<;>intro)
  ·rename_i hn
   have hn:=hh.1 hn
   have e:itoa (-x)=digs (itoa x):=by
    rw[hd]
    unfold itoa
    rw[if_neg (by omega)]
    congr 1;omega
   rw[e]
   (conv=>whnf)
  ·rename_i hn
   have hn:¬x<0:=fun e=>hn (hh.2 e)
   have e:itoa (-x)=45::itoa x:=by
    unfold itoa
    rw[if_pos (by omega),if_neg (by omega)]
    congr 2;omega
   rw[e]
   (repeat refine ZG ?_)
   (conv=>whnf)
   (repeat' first|rfl)
def c92:Con:=aH 95 true fun args K=>match args with | [.str s]=>Need (form s∧s.length≤1000) (K (S (itoa (-valI s)))) | _=>False
theorem k92:aF Tryz.prog c92:=by
 refine kO Tryz.func95 fun args K h=>?_
 simp only[c92] at h;split at h
 ·rename_i s
  obtain ⟨⟨h1,h2⟩,h⟩:=h
  refine ⟨_,h,?_⟩
  have e:=pR h1
  have:=triB Tryz.func95 Tryz.ntmps95 (by simp[k123]) (b92 (valI s) (by rw[← e];exact h2))
  rwa [← e] at this
 ·exact h.elim
def bot1 (s:List UInt8):List UInt8:=if botS s= [] then [49] else (botS s).tail
theorem sG (s:List UInt8):iR s↔(((dgsN (digs (topS s)):Int)≠0∧((digs (topS s)).length:Int)≤dgsN (digs (topS s)))∧¬((topS s).headD 0=45∧digs (topS s)= [48]))∧
  (botS s= []∨(((dgsN (botS s).tail:Int)≠0∧((botS s).tail.length:Int)≤dgsN (botS s).tail)∧¬(botS s).tail= [48]∧¬(botS s).tail= [49])):=by
 unfold iR
 rw[Oo]
 have e:∀d:List UInt8,okD d↔((dgsN d:Int)≠0∧(d.length:Int)≤dgsN d):=fun d=>by unfold okD;omega
 rw[e]
 refine and_congr Iff.rfl ?_
 by_cases hb:botS s= []
 ·simp[hb]
 ·have hd:denS s=aK (botS s).tail:=by unfold denS;rw[if_neg hb]
  rw[hd,Rq,e]
theorem b87y (s:List UInt8) (hf:iR s):body Tryz.prog [c122,c123,c124] {} true Tryz.f101 [S s] (.tup [.agg [S (topS s),S (bot1 s)],.val (.bool true)]):=by
 have hF:=(sG s).1 hf
 obtain ⟨⟨⟨f1,f2⟩,f3⟩,f4⟩:=hF
 unfold bot1
 (repeat'((conv=>whnf);first|refine Zg fun _=>?_|refine Zn ?_|refine Zm ?_|refine Zr (fun _=>?_) fun _=>?_|fail))
 all_goals first | (exfalso;omega) | skip
 all_goals first
  | (exfalso;simp_all;done)
  | (exfalso;simp_all;omega)
  | (skip;(conv=>whnf);(repeat' first|exact trivial|rfl|apply And.intro);simp_all;exact @rfl (List UInt8) _)
theorem b87n (s:List UInt8) (hf:¬iR s):body Tryz.prog [c122,c123,c124] {} true Tryz.f101 [S s] (.tup [.agg [S [],S []],.val (.bool false)]):=by
 have hF:=fun h=>hf ((sG s).2 h)
 (repeat'((conv=>whnf);first|refine Zg fun _=>?_|refine Zn ?_|refine Zr (fun _=>?_) fun _=>?_|fail))
 all_goals first
  | (exfalso;simp_all;done)
  | (exfalso;simp_all;omega)
  | (skip;(conv=>whnf);(repeat' first|exact trivial|rfl|apply And.intro);done)
  | (exfalso;refine hF ⟨⟨⟨by omega,by omega⟩,?_⟩,?_⟩
     ·first | exact fun hx=>absurd hx.2 (by assumption) | exact fun hx=>absurd hx.1 (by assumption)
     ·first | exact .inl (Classical.not_not.1 (by assumption)) | exact .inr ⟨⟨by omega,by omega⟩,by assumption,by assumption⟩)
def c87:Con:=aH 101 true fun args K=>match args with
 | [.str s]=>Br (iR s) (K (.tup [.agg [S (topS s),S (bot1 s)],.val (.bool true)])) (K (.tup [.agg [S [],S []],.val (.bool false)]))
 | _=>False
theorem k87:aF Tryz.prog c87:=by
 refine kO Tryz.func101 fun args K h=>?_
 simp only[c87] at h;split at h
 ·rename_i s
  by_cases hf:iR s
  ·exact ⟨_,h.yes hf,triB Tryz.func101 Tryz.ntmps101 (by simp[k122,k123,k124]) (b87y s hf)⟩
  ·exact ⟨_,h.no hf,triB Tryz.func101 Tryz.ntmps101 (by simp[k122,k123,k124]) (b87n s hf)⟩
 ·exact h.elim
def sH (s:List UInt8):Prop:=1≤lead s∧lead s≤8∧¬(1<lead s∧s.headD 0=48)
theorem Pz {s:List UInt8} {i:Nat} (hi:i≤s.length) (h:∀j,j<i→aY (s.getD j 0)):∀c∈s.take i,aY c:=by
 intro c hc
 obtain ⟨j,hj,rfl⟩:=List.getElem_of_mem hc
 rw[List.length_take] at hj
 have:=h j (by omega)
 rw[List.getD_eq_getElem?_getD,List.getElem?_eq_getElem (by omega)] at this
 simpa using this
theorem vY {s:List UInt8} {i:Nat} (hi:i<s.length) (hd:aY (s.getD i 0)):(aK (s.take (i+1)):Int)=10*aK (s.take i)+(aR s i-48):=by
 have e:s.take (i+1)=s.take i++ [s.getD i 0]:=by
  rw[List.take_succ_eq_append_getElem hi]
  simp[List.getD_eq_getElem?_getD,hi]
 rw[e,eG]
 unfold aR
 unfold aY at hd
 omega
theorem vZ {s:List UInt8} {i:Nat} (hi:i≤s.length) (h:∀j,j<i→aY (s.getD j 0)) (h9:i≤9):aK (s.take i)<1000000000:=by
 have h1:=iF (s.take i) (Pz hi h)
 have h2:(10:Nat)^ (s.take i).length≤10^9:=Nat.pow_le_pow_right (by omega) (by rw[List.length_take];omega)
 have h3:(10:Nat)^9=1000000000:=by decide
 omega
theorem Bi:∀(s:List UInt8) (n:Nat),n≤s.length→(∀i,i<n→aY (s.getD i 0))→n≤lead s
 | _,0,_,_=>Nat.zero_le _
 | [],n+1,h,_=>by simp at h
 | c::r,n+1,h1,h2=>by
  have hc:48≤c.toNat∧c.toNat≤57:=h2 0 (by omega)
  unfold lead
  rw[if_pos hc]
  have:=Bi r n (by simpa using h1) (fun i hi=>h2 (i+1) (by omega))
  omega
theorem b104y (s:List UInt8) (h:sH s):body Tryz.prog [] { asks:=[(0,[])] } true Tryz.f98 [S s] (.tup [I (aK (s.take (lead s))),S (s.drop (lead s)),.val (.bool true)]):=by
 obtain ⟨o1,o2,o3⟩:=h
 rw[← rG] at o3
 refine Ask.mk ⟨{ X:=Nat,pre:=fun n=>n≤9∧n≤s.length∧∀i,i<n→aY (s.getD i 0),mod:=fun n _=>[(5,I (aK (s.take n))),(6,I n)],heap:=fun _ _=>[],mu:=fun n=>s.length-n },rfl,?_⟩
 (repeat refine ZG ?_)
 refine ⟨⟨(0:Nat),⟨by omega,Nat.zero_le _,fun i hi=>absurd hi (Nat.not_lt_zero _)⟩,by (repeat' first|exact trivial|rfl|apply And.intro)⟩,fun (n:Nat) hn=>?_⟩
 obtain ⟨n9,n1,n2⟩:=hn
 have hb:=vX s n
 have hv:=vZ n1 n2 n9
 have hge:=Bi s n n1 n2
 by_cases hc:n<s.length∧48≤aR s n∧aR s n≤57
 ·have hs:=vY hc.1 (hb.1 hc.2)
  (repeat'((conv=>whnf);first|refine Zg fun _=>?_|refine Zn ?_|refine Zj ?_|refine Zy ?_|fail))
  all_goals first | (exfalso;omega) | skip
  all_goals (skip;(conv=>whnf);refine ⟨(n+1:Nat),by show s.length-(n+1)<s.length-n;omega,⟨by omega,by omega,fun i hi=>by
     by_cases e:i=n
     ·subst e;exact hb.1 hc.2
     ·exact n2 i (by omega)⟩,?_⟩;(repeat' first|exact trivial|rfl|apply And.intro|omega);done)
 ·have hl:lead s=n:=pX s n n1 n2 (by
   by_cases e:n=s.length
   ·exact .inl e
   ·right
    rw[← hb];intro hx;exact hc ⟨by omega,hx⟩)
  have hr:(.tup [I (aK (s.take (lead s))),S (s.drop (lead s)),.val (.bool true)]:SV)= .tup [I (aK (s.take n)),S (s.drop n),.val (.bool true)]:=by rw[hl]
  rw[hr]
  rw[hl] at o1 o2 o3
  (repeat'((conv=>whnf);first|refine Zg fun _=>?_|refine Zn ?_|refine Z0 ?_|refine Zj ?_|(apply Pin.mk;apply Exists.intro)|apply Pinned.mk rfl rfl|refine Zy ?_|refine Zm ?_|refine Zr (fun _=>?_) fun _=>?_|fail))
  all_goals first | (exfalso;omega) | skip
  all_goals (skip;(conv=>whnf);(repeat' first|exact trivial|rfl|apply And.intro))
theorem b104n (s:List UInt8) (h:¬sH s):body Tryz.prog [] { asks:=[(0,[])] } true Tryz.f98 [S s] (.tup [I 0,S [],.val (.bool false)]):=by
 have h:¬(1≤lead s∧lead s≤8∧¬(1<lead s∧aR s 0=48)):=by rw[rG];exact h
 refine Ask.mk ⟨{ X:=Nat,pre:=fun n=>n≤9∧n≤s.length∧∀i,i<n→aY (s.getD i 0),mod:=fun n _=>[(5,I (aK (s.take n))),(6,I n)],heap:=fun _ _=>[],mu:=fun n=>s.length-n },rfl,?_⟩
 (repeat refine ZG ?_)
 refine ⟨⟨(0:Nat),⟨by omega,Nat.zero_le _,fun i hi=>absurd hi (Nat.not_lt_zero _)⟩,by (repeat' first|exact trivial|rfl|apply And.intro)⟩,fun (n:Nat) hn=>?_⟩
 obtain ⟨n9,n1,n2⟩:=hn
 have hb:=vX s n
 have hv:=vZ n1 n2 n9
 have hge:=Bi s n n1 n2
 by_cases hc:n<s.length∧48≤aR s n∧aR s n≤57
 ·have hs:=vY hc.1 (hb.1 hc.2)
  (repeat'((conv=>whnf);first|refine Zg fun _=>?_|refine Zn ?_|refine Zj ?_|refine Zy ?_|refine Zm ?_|refine Zr (fun _=>?_) fun _=>?_|fail))
  all_goals first | (exfalso;omega) | skip
  all_goals first | (skip;(conv=>whnf);refine ⟨(n+1:Nat),by show s.length-(n+1)<s.length-n;omega,⟨by omega,by omega,fun i hi=>by
     by_cases e:i=n
     ·subst e;exact hb.1 hc.2
     ·exact n2 i (by omega)⟩,?_⟩;(repeat' first|exact trivial|rfl|apply And.intro|omega);done) | (skip;(conv=>whnf);(repeat' first|exact trivial|rfl|apply And.intro);done)
 ·have hl:lead s=n:=pX s n n1 n2 (by
   by_cases e:n=s.length
   ·exact .inl e
   ·right
    rw[← hb];intro hx;exact hc ⟨by omega,hx⟩)
  rw[hl] at h
  (repeat'((conv=>whnf);first|refine Zg fun _=>?_|refine Zn ?_|refine Z0 ?_|refine Zj ?_|refine Zy ?_|refine Zm ?_|refine Zr (fun _=>?_) fun _=>?_|fail))
  all_goals first | (exfalso;omega) | skip
  all_goals (skip;(conv=>whnf);(repeat' first|exact trivial|rfl|apply And.intro))
theorem gV {s:List UInt8} (h:sH s):s.take (lead s)=decDigits (aK (s.take (lead s)))∧aK (s.take (lead s))<100000000:=by
 obtain ⟨h1,h2,h3⟩:=h
 have hl:=Az s
 have hd:=vO s
 have hlen:(s.take (lead s)).length=lead s:=by rw[List.length_take];omega
 have hh:(s.take (lead s)).headD 0=s.headD 0:=by
  cases s with
  | nil=>rfl
  | cons c r=>
   obtain ⟨k,hk⟩:∃k,lead (c::r)=k+1:=⟨lead (c::r)-1,by omega⟩
   rw[hk];rfl
 refine ⟨(nF _ _ rfl (fun e=>by rw[e] at hlen;simp at hlen;omega) hd ?_).symm,?_⟩
 ·rw[hlen,hh]
  by_cases h48:s.headD 0=48
  ·left
   have:¬1<lead s:=fun hx=>h3 ⟨hx,h48⟩
   omega
  ·exact .inr h48
 ·have h1:=iF (s.take (lead s)) hd
  have h2:(10:Nat)^ (s.take (lead s)).length≤10^8:=Nat.pow_le_pow_right (by omega) (by rw[hlen];omega)
  have h3:(10:Nat)^8=100000000:=by decide
  omega
def c104:Con:=aH 98 true fun args K=>match args with
 | [.str s]=>Br (sH s) (Giv (aK (s.take (lead s))<100000000) (K (.tup [I (aK (s.take (lead s))),S (s.drop (lead s)),.val (.bool true)]))) (K (.tup [I 0,S [],.val (.bool false)]))
 | _=>False
theorem k104:aF Tryz.prog c104:=by
 refine kO Tryz.func98 fun args K h=>?_
 simp only[c104] at h;split at h
 ·rename_i s
  by_cases hf:sH s
  ·exact ⟨_,(h.yes hf).go (gV hf).2,triB Tryz.func98 Tryz.ntmps98 (by simp) (b104y s hf)⟩
  ·exact ⟨_,h.no hf,triB Tryz.func98 Tryz.ntmps98 (by simp) (b104n s hf)⟩
 ·exact h.elim
abbrev nvN (s:List UInt8):Nat:=aK ((digs s).take (lead (digs s)))
abbrev nvR (s:List UInt8):List UInt8:=(digs s).drop (lead (digs s))
abbrev nvD (s:List UInt8):Nat:=aK ((nvR s).tail.take (lead (nvR s).tail))
def nvOK (s:List UInt8):Prop:=sH (digs s)∧¬(s.headD 0=45∧nvN s=0)∧(nvR s= []∨((nvR s).headD 0=47∧sH (nvR s).tail∧(nvR s).tail.drop (lead (nvR s).tail)= []∧2≤nvD s∧Nat.gcd (nvN s) (nvD s)=1))
theorem Qa (s:List UInt8):s=(if s.headD 0=45 then [45] else [])++digs s:=by
 unfold digs
 by_cases h:s.headD 0=45
 ·rw[if_pos h,if_pos h]
  cases s with
  | nil=>simp at h
  | cons c r=>simp at h;rw[h];rfl
 ·rw[if_neg h,if_neg h];rfl
theorem Qb {p:Prop} [Decidable p] {n:Nat} (h:¬(p∧n=0)):itoa (sgP p n)=(if p then [45] else [])++decDigits n:=by
 unfold itoa sgP
 by_cases hp:p
 ·rw[if_pos hp,if_pos hp]
  have:n≠0:=fun e=>h ⟨hp,e⟩
  rw[if_pos (by omega)]
  show 45:: _=45:: _
  congr 2;omega
 ·rw[if_neg hp,if_neg hp,if_neg (by omega)]
  simp
theorem Vb {s:List UInt8} (h:nvOK s):∃q:Rat,s=numS q∧q.num=sgP (s.headD 0=45) (nvN s)∧(q.den:Int)=(if nvR s= [] then 1 else nvD s:Nat)∧nvN s<100000000∧q.den<100000000:=by
 obtain ⟨h1,h2,h3⟩:=h
 obtain ⟨a1,a2⟩:=gV h1
 have hs:=Qa s
 have ht:digs s=decDigits (nvN s)++nvR s:=by
  rw[← a1];exact (List.take_append_drop _ _).symm
 have hi:=Qb h2
 have hs2:s=itoa (sgP (s.headD 0=45) (nvN s))++nvR s:=by
  rw[hi,List.append_assoc,← ht];exact hs
 rcases h3 with h3 | ⟨b1,b2,b3,b4,b5⟩
 ·refine ⟨⟨sgP (s.headD 0=45) (nvN s),1,by decide,by simp⟩,?_,rfl,by rw[if_pos h3],a2,by show (1:Nat)< _;decide⟩
  unfold numS
  rw[if_pos rfl]
  rw[h3,List.append_nil] at hs2
  exact hs2
 ·have hne:nvR s≠ []:=fun e=>by rw[e] at b1;simp at b1
  obtain ⟨c1,c2⟩:=gV b2
  have hr:nvR s=47::decDigits (nvD s):=by
   cases hq:nvR s with
   | nil=>exact absurd hq hne
   | cons c r=>
    have hc:c=47:=by rw[hq] at b1;simpa using b1
    have ht2:(nvR s).tail=r:=by rw[hq];rfl
    rw[← ht2,hc]
    congr 1
    rw[← c1]
    have:=List.take_append_drop (lead (nvR s).tail) (nvR s).tail
    rw[b3,List.append_nil] at this
    exact this.symm
  refine ⟨⟨sgP (s.headD 0=45) (nvN s),nvD s,by omega,?_⟩,?_,rfl,by rw[if_neg hne],a2,c2⟩
  ·rw[tA];exact b5
  ·unfold numS
   rw[if_neg (by show ¬nvD s=1;omega)]
   show s=itoa _++47::decDigits (nvD s)
   rw[← hr];exact hs2
theorem cW {s:List UInt8} (h:nvOK s):s=numS (valQ s)∧(valQ s).num=sgP (s.headD 0=45) (nvN s)∧((valQ s).den:Int)=(if nvR s= [] then 1 else nvD s:Nat)∧(valQ s).num.natAbs<100000000∧(valQ s).den<100000000:=by
 obtain ⟨q,q1,q2,q3,q4,q5⟩:=Vb h
 have e:valQ s=q:=by rw[q1];exact fR q
 rw[e]
 exact ⟨q1,q2,q3,by rw[q2,tA];exact q4,q5⟩
theorem gW (s:List UInt8) (c:UInt8):aR s 0=c.toNat↔s.headD 0=c:=by
 unfold aR
 have e:s.getD 0 0=s.headD 0:=by cases s<;>rfl
 rw[e]
 constructor
 ·intro h
  exact UInt8.toNat.inj (by omega)
 ·intro h;rw[h]
theorem b68y (s:List UInt8) (h:nvOK s):body Tryz.prog [c104,c105] {} true Tryz.f49 [S s] (.tup [.agg [I (sgP (s.headD 0=45) (nvN s)),I (if nvR s= [] then 1 else nvD s:Nat)],.val (.bool true)]):=by
 obtain ⟨h1,h2,h3⟩:=h
 have hb:aR s 0=45↔s.headD 0=45:=gW s 45
 have hd8:=(gV h1).2
 unfold sgP
 by_cases hn:s.headD 0=45
 ·rw[if_pos hn]
  have hb0:aR s 0=45:=hb.2 hn
  have hs0:¬s= []:=fun e=>by rw[e] at hn;simp at hn
  have hlen:(s.drop 1).length=s.length-1:=List.length_drop
  have hpos:=List.length_pos_iff.2 hs0
  have hdg:digs s=s.drop 1:=by unfold digs;rw[if_pos hn,List.drop_one]
  have hN:nvN s≠0:=fun e=>h2 ⟨hn,e⟩
  simp only[nvN,nvR,nvD,hdg] at*
  rcases h3 with h3 | ⟨d1,d2,d3,d4,d5⟩
  ·skip
   rw[if_pos h3]
   (repeat' first|refine ZR ?_|refine Zg fun _=>?_)
   (conv=>whnf)
   (repeat' first|exact trivial|rfl|apply And.intro)
  ·skip
   have hR:¬List.drop (lead (List.drop 1 s)) (List.drop 1 s)= []:=fun e=>by rw[e] at d1;simp at d1
   have hRp:=List.length_pos_iff.2 hR
   have hb47:aR (List.drop (lead (List.drop 1 s)) (List.drop 1 s)) 0=47:=(gW _ 47).2 d1
   rw[← List.drop_one] at d2 d3 d4 d5
   have hg:((Int.gcd ((aK (List.take (lead (List.drop 1 s)) (List.drop 1 s)):Nat):Int) ((aK (List.take (lead (List.drop 1 (List.drop (lead (List.drop 1 s)) (List.drop 1 s)))) (List.drop 1 (List.drop (lead (List.drop 1 s)) (List.drop 1 s)))):Nat):Int):Nat):Int)=1:=by rw[Int.gcd_natCast_natCast,d5];rfl
   have hd9:=(gV d2).2
   rw[if_neg hR,← List.drop_one]
   (repeat' first|refine ZR ?_|refine Zg fun _=>?_)
   (conv=>whnf)
   (repeat' first|exact trivial|rfl|apply And.intro)
 ·rw[if_neg hn]
  have hb0:¬aR s 0=45:=fun e=>hn (hb.1 e)
  have hs0:¬s= []:=fun e=>by rw[e] at h1;exact absurd h1.1 (by decide)
  have hpos:=List.length_pos_iff.2 hs0
  have hdg:digs s=s:=by unfold digs;rw[if_neg hn]
  simp only[nvN,nvR,nvD,hdg] at*
  rcases h3 with h3 | ⟨d1,d2,d3,d4,d5⟩
  ·skip
   rw[if_pos h3]
   (repeat' first|refine ZR ?_|refine Zg fun _=>?_)
   (conv=>whnf)
   (repeat' first|exact trivial|rfl|apply And.intro)
  ·skip
   have hR:¬List.drop (lead s) s= []:=fun e=>by rw[e] at d1;simp at d1
   have hRp:=List.length_pos_iff.2 hR
   have hb47:aR (List.drop (lead s) s) 0=47:=(gW _ 47).2 d1
   rw[← List.drop_one] at d2 d3 d4 d5
   have hg:((Int.gcd ((aK (List.take (lead s) s):Nat):Int) ((aK (List.take (lead (List.drop 1 (List.drop (lead s) s))) (List.drop 1 (List.drop (lead s) s))):Nat):Int):Nat):Int)=1:=by rw[Int.gcd_natCast_natCast,d5];rfl
   have hd9:=(gV d2).2
   rw[if_neg hR,← List.drop_one]
   (repeat' first|refine ZR ?_|refine Zg fun _=>?_)
   (conv=>whnf)
   (repeat' first|exact trivial|rfl|apply And.intro)
theorem b68n (s:List UInt8) (h:¬nvOK s):body Tryz.prog [c104,c105] {} true Tryz.f49 [S s] (.tup [.agg [I 0,I 0],.val (.bool false)]):=by
 have hb:aR s 0=45↔s.headD 0=45:=gW s 45
 unfold nvOK at h
 by_cases hn:s.headD 0=45
 ·have hb0:aR s 0=45:=hb.2 hn
  have hs0:¬s= []:=fun e=>by rw[e] at hn;simp at hn
  have hlen:(s.drop 1).length=s.length-1:=List.length_drop
  have hpos:=List.length_pos_iff.2 hs0
  have hdg:digs s=s.drop 1:=by unfold digs;rw[if_pos hn,List.drop_one]
  simp only[nvN,nvR,nvD,hdg,← List.drop_one] at h
  (repeat' first|refine ZR ?_|refine Zg fun _=>?_)
  (apply Br.mk<;>intro)
  ·rename_i hk
   (repeat' first|refine ZR ?_|refine Zg fun _=>?_)
   (apply Br.mk<;>intro)
   ·rename_i hN
    (conv=>whnf)
    (repeat' first|exact trivial|rfl|apply And.intro)
   ·rename_i hN
    (apply Br.mk<;>intro)
    ·rename_i hR
     have hRp:=List.length_pos_iff.2 hR
     (repeat' first|refine ZG ?_|refine Zg fun _=>?_)
     (apply Br.mk<;>intro)
     ·rename_i hc
      (conv=>whnf)
      (repeat' first|exact trivial|rfl|apply And.intro)
     ·rename_i hc
      have hc:=(gW _ 47).1 (Classical.not_not.1 hc)
      (repeat refine ZG ?_)
      (apply Br.mk<;>intro)
      ·rename_i hk2
       (repeat'((conv=>whnf);first|refine Zg fun _=>?_|fail))
       (apply Br.mk<;>intro)
       ·rename_i he
        (conv=>whnf)
        (repeat' first|exact trivial|rfl|apply And.intro)
       ·rename_i he
        have he:=Classical.not_not.1 he
        (apply Br.mk<;>intro)
        ·rename_i h2d
         (conv=>whnf)
         (repeat' first|exact trivial|rfl|apply And.intro)
        ·rename_i h2d
         (repeat refine ZG ?_)
         (apply Br.mk<;>intro)
         ·rename_i hg
          (conv=>whnf)
          (repeat' first|exact trivial|rfl|apply And.intro)
         ·rename_i hg
          exfalso
          have hg:=Classical.not_not.1 hg
          rw[Int.gcd_natCast_natCast] at hg
          exact h ⟨hk,(fun hx=>hN (by omega)),.inr ⟨hc,hk2,he,by omega,by omega⟩⟩
      ·rename_i hk2
       (conv=>whnf)
       (repeat' first|exact trivial|rfl|apply And.intro)
    ·rename_i hR
     exfalso
     exact h ⟨hk,(fun hx=>hN (by omega)),.inl (Classical.not_not.1 hR)⟩
  ·rename_i hk
   (conv=>whnf)
   (repeat' first|exact trivial|rfl|apply And.intro)
 ·have hb0:¬aR s 0=45:=fun e=>hn (hb.1 e)
  have hdg:digs s=s:=by unfold digs;rw[if_neg hn]
  simp only[nvN,nvR,nvD,hdg,← List.drop_one] at h
  by_cases hs0:s= []
  ·subst hs0
   have hk:¬sH []:=fun h=>absurd h.1 (by decide)
   (repeat refine ZR ?_)
   (conv=>whnf)
   (repeat' first|exact trivial|rfl|apply And.intro)
  ·have hpos:=List.length_pos_iff.2 hs0
   (repeat' first|refine ZR ?_|refine Zg fun _=>?_)
   (apply Br.mk<;>intro)
   ·rename_i hk
    (repeat' first|refine ZR ?_|refine Zg fun _=>?_)
    (apply Br.mk<;>intro)
    ·rename_i hR
     have hRp:=List.length_pos_iff.2 hR
     (repeat' first|refine ZG ?_|refine Zg fun _=>?_)
     (apply Br.mk<;>intro)
     ·rename_i hc
      (conv=>whnf)
      (repeat' first|exact trivial|rfl|apply And.intro)
     ·rename_i hc
      have hc:=(gW _ 47).1 (Classical.not_not.1 hc)
      (repeat refine ZG ?_)
      (apply Br.mk<;>intro)
      ·rename_i hk2
       (repeat'((conv=>whnf);first|refine Zg fun _=>?_|fail))
       (apply Br.mk<;>intro)
       ·rename_i he
        (conv=>whnf)
        (repeat' first|exact trivial|rfl|apply And.intro)
       ·rename_i he
        have he:=Classical.not_not.1 he
        (apply Br.mk<;>intro)
        ·rename_i h2d
         (conv=>whnf)
         (repeat' first|exact trivial|rfl|apply And.intro)
        ·rename_i h2d
         (repeat refine ZG ?_)
         (apply Br.mk<;>intro)
         ·rename_i hg
          (conv=>whnf)
          (repeat' first|exact trivial|rfl|apply And.intro)
         ·rename_i hg
          exfalso
          have hg:=Classical.not_not.1 hg
          rw[Int.gcd_natCast_natCast] at hg
          exact h ⟨hk,(fun hx=>hn hx.1),.inr ⟨hc,hk2,he,by omega,by omega⟩⟩
      ·rename_i hk2
       (conv=>whnf)
       (repeat' first|exact trivial|rfl|apply And.intro)
    ·rename_i hR
     exfalso
     exact h ⟨hk,(fun hx=>hn hx.1),.inl (Classical.not_not.1 hR)⟩
   ·rename_i hk
    (conv=>whnf)
    (repeat' first|exact trivial|rfl|apply And.intro)
noncomputable instance (s:List UInt8):Decidable (nvOK s):=Classical.propDecidable _
def bU (s:List UInt8):Prop:=s=numS (valQ s)∧(valQ s).num.natAbs<100000000∧(valQ s).den<100000000
def c68:Con:=aH 49 true fun args K=>match args with
 | [.str s]=>Br (nvOK s) (Giv (bU s) (K (.tup [.agg [I (valQ s).num,I (valQ s).den],.val (.bool true)]))) (K (.tup [.agg [I 0,I 0],.val (.bool false)]))
 | _=>False
theorem k68:aF Tryz.prog c68:=by
 refine kO Tryz.func49 fun args K h=>?_
 simp only[c68] at h;split at h
 ·rename_i s
  by_cases hf:nvOK s
  ·obtain ⟨v1,v2,v3,v4,v5⟩:=cW hf
   refine ⟨_,(h.yes hf).go ⟨v1,v4,v5⟩,?_⟩
   rw[v2,v3]
   exact triB Tryz.func49 Tryz.ntmps49 (by simp[k104,k105]) (b68y s hf)
  ·exact ⟨_,h.no hf,triB Tryz.func49 Tryz.ntmps49 (by simp[k104,k105]) (b68n s hf)⟩
 ·exact h.elim
theorem mL (n:Nat):itoa (n:Int)=decDigits n:=by
 unfold itoa
 rw[if_neg (by omega),Int.toNat_natCast]
theorem Eo {g d k:Nat} (h:g≤d) (hd:(decDigits d).length≤k+1):(decDigits g).length≤k+1:=by
 have h2:=iF (decDigits d) (kV _)
 rw[dC] at h2
 exact gM k g (Nat.lt_of_lt_of_le (Nat.lt_of_le_of_lt h h2) (Nat.pow_le_pow_right (by omega) hd))
theorem wA {s:List UInt8} (h:iR s):bot1 s=decDigits (denS s)∧1≤denS s∧(300<(bot1 s).length↔300<(botS s).tail.length):=by
 unfold bot1
 rcases h.2 with h | ⟨h1,h2⟩
 ·have hd:denS s=1:=by unfold denS;rw[if_pos h]
  rw[if_pos h,hd,h]
  exact ⟨(bJ (show 1<10 by omega)).symm,Nat.le_refl _,by simp⟩
 ·have hb:botS s≠ []:=fun e=>by
   have hd:denS s=1:=by unfold denS;rw[if_pos e]
   omega
  rw[if_neg hb]
  exact ⟨h1,by omega,Iff.rfl⟩
theorem Ep {s:List UInt8} (h:s=numS (valQ s)) (h1:(digs (topS s)).length≤300) (h2:(botS s).tail.length≤300):chkQ s=0:=by
 have hf:iR s:=by rw[h];exact oK _
 have hg:(valI (topS s)).natAbs.gcd (denS s)=1:=by rw[h];exact Aw _
 unfold chkQ
 rw[if_pos hf,if_neg (by omega),if_pos hg]
theorem yD {n:Nat} (h:n<100000000):(decDigits n).length≤8:=gM 7 n (by simpa using h)
theorem gX {s:List UInt8} (h:bU s):chkQ s=0:=by
 obtain ⟨h1,h2,h3⟩:=h
 refine Ep h1 ?_ ?_
 ·rw[h1,jR,cB]
  have:=yD h2
  omega
 ·rw[h1,pS]
  split
  ·simp
  ·have:=yD h3
   simp;omega
theorem rH {s:List UInt8} (h:s=numS (valQ s)):topS s=itoa (valQ s).num∧bot1 s=decDigits (valQ s).den:=by
 have hf:iR s:=by rw[h];exact oK _
 have e:=(wA hf).1
 have ed:denS s=(valQ s).den:=(congrArg denS h).trans (pT _)
 rw[ed] at e
 exact ⟨(congrArg topS h).trans (jR _),e⟩
theorem Jx {d:Nat} (h:(decDigits d).length≤300):form (decDigits d)∧chkI (decDigits d)=0∧valI (decDigits d)=d:=by
 rw[← mL]
 refine ⟨fQ _,?_,aT _⟩
 rw[mP (fQ _),if_neg]
 rw[cB]
 simpa using h
noncomputable def rdV (s:List UInt8):SV:=if chkQ s=0 then .tup [.agg [S (itoa (valQ s).num),S (decDigits (valQ s).den)],I 0] else .tup [.agg [S [],S []],I (chkQ s)]
theorem b46 (s:List UInt8):body Tryz.prog [c87,c68,c88,c89] {} true Tryz.f51 [S s] (rdV s):=by
 (apply Br.mk<;>intro)
 ·rename_i hf
  obtain ⟨hb1,hb2,hb3⟩:=wA hf
  (apply Br.mk<;>intro)
  ·rename_i hn
   refine Giv.mk fun hs=>?_
   have h0:=gX hs
   obtain ⟨p1,p2⟩:=rH hs.1
   unfold rdV
   rw[if_pos h0,← p1,← p2]
   (conv=>whnf)
   (repeat' first|exact trivial|rfl|apply And.intro)
  ·rename_i hn
   have hq:chkQ s=if 300<(digs (topS s)).length∨300<(bot1 s).length then 4 else if (valI (topS s)).natAbs.gcd (denS s)=1 then 0 else 11:=by
    unfold chkQ
    rw[if_pos hf]
    simp only[hb3]
   have hnum:(valI (topS s)).natAbs.gcd (denS s)=1→topS s=itoa (valQ s).num∧bot1 s=decDigits (valQ s).den:=fun hg=>rH (Ji hf hg)
   (repeat' first|refine ZG ?_|refine Zg fun _=>?_)
   (apply Br.mk<;>intro)
   ·rename_i hl
    have h4:chkQ s=4:=by rw[hq,if_pos (.inl (by omega))]
    unfold rdV
    rw[if_neg (by omega),h4]
    (conv=>whnf)
    (repeat' first|exact trivial|rfl|apply And.intro)
   ·rename_i hl
    (repeat'((conv=>whnf);first|refine Zg fun _=>?_|fail))
    (apply Br.mk<;>intro)
    ·rename_i hl2
     have h4:chkQ s=4:=by rw[hq,if_pos (.inr (by omega))]
     unfold rdV
     rw[if_neg (by omega),h4]
     (conv=>whnf)
     (repeat' first|exact trivial|rfl|apply And.intro)
    ·rename_i hl2
     rw[if_neg (by omega)] at hq
     (apply Br.mk<;>intro)
     ·rename_i h1
      have hd:denS s=1:=by
       rw[hb1] at h1
       have:=congrArg aK h1
       rw[dC] at this
       exact this
      have hg:(valI (topS s)).natAbs.gcd (denS s)=1:=by rw[hd];exact Nat.gcd_one_right _
      obtain ⟨p1,p2⟩:=hnum hg
      rw[if_pos hg] at hq
      unfold rdV
      rw[if_pos hq,← p1,← p2]
      (conv=>whnf)
      (repeat' first|exact trivial|rfl|apply And.intro)
     ·rename_i h1
      obtain ⟨d1,d2,d3⟩:=Jx (d:=denS s) (by rw[← hb1];omega)
      have hct:chkI (topS s)=0:=by rw[mP hf.1,if_neg (by omega)]
      have hb:eZ (topS s) (bot1 s) (resI (Int.gcd (valI (topS s)) (valI (bot1 s))))=(decDigits ((valI (topS s)).natAbs.gcd (denS s)),0):=by
       unfold eZ chk2
       rw[hb1,hct,d2,d3,if_neg (by simp),show Int.gcd (valI (topS s)) (denS s:Int)=(valI (topS s)).natAbs.gcd (denS s) by unfold Int.gcd;simp]
       unfold resI lim
       rw[if_neg]
       ·rw[mL]
       ·have h3:(valI (topS s)).natAbs.gcd (denS s)≤denS s:=Nat.gcd_le_right _ (by omega)
        have h4:(decDigits (denS s)).length≤300:=by rw[← hb1];omega
        have h5:=Eo h3 (k:=299) h4
        simpa using h5
      have z1:=congrArg Prod.fst hb
      have z2:(eZ (topS s) (bot1 s) (resI (Int.gcd (valI (topS s)) (valI (bot1 s))))).2=0:=congrArg Prod.snd hb
      (repeat refine ZR ?_)
      (apply Br.mk<;>intro)
      ·rename_i hg
       rw[z1] at hg
       have hg1:(valI (topS s)).natAbs.gcd (denS s)≠1:=fun e=>hg (by rw[e];exact bJ (show 1<10 by omega))
       rw[if_neg hg1] at hq
       unfold rdV
       rw[if_neg (by omega),hq]
       (conv=>whnf)
       (repeat' first|exact trivial|rfl|apply And.intro)
      ·rename_i hg
       have hg:=Classical.not_not.1 hg
       rw[z1] at hg
       have hg1:(valI (topS s)).natAbs.gcd (denS s)=1:=by
        have:=congrArg aK hg
        rw[dC] at this
        exact this
       obtain ⟨p1,p2⟩:=hnum hg1
       rw[if_pos hg1] at hq
       unfold rdV
       rw[if_pos hq,← p1,← p2]
       (conv=>whnf)
       (repeat' first|exact trivial|rfl|apply And.intro)
 ·rename_i hf
  have h11:chkQ s=11:=by unfold chkQ;rw[if_neg hf]
  unfold rdV
  rw[if_neg (by omega),h11]
  (conv=>whnf)
  (repeat' first|exact trivial|rfl|apply And.intro)
def Qc (s:List UInt8):Prop:=s=numS (valQ s)∧(decDigits (valQ s).num.natAbs).length≤300∧(decDigits (valQ s).den).length≤300
theorem dQ {s:List UInt8} (h:chkQ s=0):Qc s:=by
 obtain ⟨h1,h2,h3⟩:=Ax h
 have hf:iR s:=by rw[h1];exact oK _
 obtain ⟨p1,p2⟩:=rH h1
 refine ⟨h1,?_,?_⟩
 ·rw[p1,cB] at h2;exact h2
 ·have:=(wA hf).2.2
  rw[p2] at this
  omega
def c46:Con:=aH 51 true fun args K=>match args with
 | [.str s]=>Br (chkQ s=0) (Giv (Qc s) (K (.tup [.agg [S (itoa (valQ s).num),S (decDigits (valQ s).den)],I 0]))) (K (.tup [.agg [S [],S []],I (chkQ s)]))
 | _=>False
theorem k46:aF Tryz.prog c46:=by
 refine kO Tryz.func51 fun args K h=>?_
 simp only[c46] at h;split at h
 ·rename_i s
  have ht:=sC (r:=rdV s) (Γ:=[c87,c68,c88,c89]) (by simp[k87,k68,k88,k89]) Tryz.func51 (by simp[Tryz.ntmps51]) (by unfold rdV;split<;>rfl) (b46 s)
  unfold rdV at ht
  by_cases hf:chkQ s=0
  ·rw[if_pos hf] at ht
   exact ⟨_,(h.yes hf).go (dQ hf),ht⟩
  ·rw[if_neg hf] at ht
   exact ⟨_,h.no hf,by
    cases hc:chkQ s with
    | _=>exact hc ▸ ht⟩
 ·exact h.elim
theorem bI {x:Int} (h:lim x=false):chkI (itoa x)=0:=by
 rw[mP (fQ x),cB,if_neg]
 unfold lim at h
 simpa using h
theorem Er {x:Int} (h:chkI (itoa x)=0):lim x=false:=by
 rw[mP (fQ x),cB] at h
 unfold lim
 split at h
 ·cases h
 ·rename_i hn
  exact decide_eq_false hn
theorem Jy (x:Int):lim (-x)=lim x:=by unfold lim;rw[Int.natAbs_neg]
theorem mM {x y:Int} (h:x.natAbs≤y.natAbs) (hy:lim y=false):lim x=false:=by
 unfold lim at hy ⊢
 have hy:(decDigits y.natAbs).length≤299+1:=by simpa using hy
 have:=Eo h hy
 simpa using this
theorem fX {x:Int} (h:lim x=false):(itoa x).length≤301:=by
 have h1:=(wD (itoa x)).2
 rw[cB] at h1
 unfold lim at h
 have h:(decDigits x.natAbs).length≤300:=by simpa using h
 omega
theorem Et {x y:Int} (hx:lim x=false) (hy:lim y=false) (h0:y≠0):eZ (itoa x) (itoa y) (resI (Int.gcd (valI (itoa x)) (valI (itoa y))))=(itoa (Int.gcd x y),0):=by
 unfold eZ chk2
 rw[bI hx,bI hy,if_neg (by simp),aT,aT]
 unfold resI
 have hg:lim ((Int.gcd x y:Nat):Int)=false:=by
  refine mM (y:=y) ?_ hy
  rw[Int.natAbs_natCast]
  exact Nat.gcd_le_right _ (by omega)
 rw[hg];rfl
theorem tB {x y:Int} (hx:lim x=false) (hy:lim y=false) (h0:0<y) (hd:y ∣ x):divI (itoa x) (itoa y)=(itoa (x/y),itoa 0,0):=by
 unfold divI chk2
 rw[bI hx,bI hy,if_neg (by simp),if_neg (fun e=>by
  have:=iH (e.trans itoa_zero.symm);omega),aT,aT]
 have e1:x.fdiv y=x/y:=Int.fdiv_eq_ediv_of_nonneg _ (by omega)
 have e2:x.fmod y=0:=Int.fmod_eq_zero_of_dvd hd
 unfold dvI
 rw[e1,e2]
 have l1:lim (x/y)=false:=mM (y:=x) (by
  obtain ⟨k,rfl⟩:=hd
  rw[Int.mul_ediv_cancel_left _ (by omega),Int.natAbs_mul]
  exact Nat.le_mul_of_pos_left _ (by omega)) hx
 have l2:lim 0=false:=by
  unfold lim
  rw[show (0:Int).natAbs=0 from rfl,bJ (by omega)];rfl
 rw[l1,l2];rfl
theorem Bj {x y:Int} (h0:0<y):numS (mkRat x y.toNat)=if itoa (y/(Int.gcd x y:Nat))= [49] then itoa (x/(Int.gcd x y:Nat)) else itoa (x/(Int.gcd x y:Nat))++47::itoa (y/(Int.gcd x y:Nat)):=by
 obtain ⟨d,rfl⟩:=Int.eq_ofNat_of_zero_le (Int.le_of_lt h0)
 have hg:Int.gcd x (d:Int)=d.gcd x.natAbs:=by unfold Int.gcd;rw[Int.natAbs_natCast,Nat.gcd_comm]
 rw[Int.toNat_natCast,Jj _ _ (by omega),hg,← Int.natCast_ediv,mL]
 have e1:decDigits (d/d.gcd x.natAbs)= [49]↔d/d.gcd x.natAbs=1:=by
  constructor
  ·intro h
   have:=congrArg aK h
   rw[dC] at this
   exact this
  ·intro h;rw[h];exact bJ (show 1<10 by omega)
 by_cases h:d/d.gcd x.natAbs=1
 ·rw[if_pos h,if_pos (e1.2 h)]
 ·rw[if_neg h,if_neg (fun hx=>h (e1.1 hx))]
theorem itoa_one:itoa 1= [49]:=by
 rw[show (1:Int)=((1:Nat):Int) from rfl,mL];exact bJ (show 1<10 by omega)
theorem b52p (x y:Int) (hx:lim x=false) (hy:lim y=false) (h0:0<y):body Tryz.prog [c91,c92,c89,c69] {} true Tryz.f48 [S (itoa x),S (itoa y)] (.tup [S (numS (mkRat x y.toNat)),I 0]):=by
 have hh:=fP y
 have hneg:¬(itoa y).headD 0=45:=fun e=>by have:=hh.1 e;omega
 have hb:=Et hx hy (by omega)
 have z1:(eZ (itoa x) (itoa y) (resI (Int.gcd (valI (itoa x)) (valI (itoa y))))).1=itoa (Int.gcd x y):=congrArg Prod.fst hb
 have z2:(eZ (itoa x) (itoa y) (resI (Int.gcd (valI (itoa x)) (valI (itoa y))))).2=0:=congrArg Prod.snd hb
 have lx:=fX hx
 have ly:=fX hy
 have hm:=Bj (x:=x) h0
 obtain ⟨g,hg⟩:∃g,Int.gcd x y=g:=⟨_,rfl⟩
 have gx:(g:Int) ∣ x:=by rw[← hg];exact Int.gcd_dvd_left _ _
 have gy:(g:Int) ∣ y:=by rw[← hg];exact Int.gcd_dvd_right _ _
 have gp:0<g:=by rw[← hg];exact Int.gcd_pos_of_ne_zero_right _ (by omega)
 rw[hg] at z1 hm
 rw[hm]
 have lg:lim (g:Int)=false:=mM (y:=y) (by rw[Int.natAbs_natCast,← hg];exact Nat.gcd_le_right _ (by omega)) hy
 have dx:=tB hx lg (by omega) gx
 have dy:=tB hy lg (by omega) gy
 have q1:(divI (itoa x) (itoa g)).1=itoa (x/g):=by rw[dx]
 have q2:(divI (itoa y) (itoa g)).1=itoa (y/g):=by rw[dy]
 (repeat refine ZR ?_)
 (apply Br.mk<;>intro)
 ·rename_i h1
  rw[z1,← q1,← q2]
  have l1:lim (x/g)=false:=mM (y:=x) (by
   obtain ⟨k,rfl⟩:=gx
   rw[Int.mul_ediv_cancel_left _ (by omega),Int.natAbs_mul]
   exact Nat.le_mul_of_pos_left _ (by omega)) hx
  have l2:lim (y/g)=false:=mM (y:=y) (by
   obtain ⟨k,rfl⟩:=gy
   rw[Int.mul_ediv_cancel_left _ (by omega),Int.natAbs_mul]
   exact Nat.le_mul_of_pos_left _ (by omega)) hy
  have m1:(divI (itoa x) (itoa g)).1.length≤301:=by rw[q1];exact fX l1
  have m2:(divI (itoa y) (itoa g)).1.length≤301:=by rw[q2];exact fX l2
  (apply Br.mk<;>intro)
  ·rename_i h2
   rw[if_pos h2]
   (conv=>whnf)
   (repeat' first|exact trivial|rfl|apply And.intro)
  ·rename_i h2
   rw[if_neg h2]
   (repeat refine ZG ?_)
   (conv=>whnf)
   (repeat' first|exact trivial|rfl|apply And.intro)
   exact List.append_assoc _ [47] _
 ·rename_i h1
  have h1:=Classical.not_not.1 h1
  rw[z1] at h1
  have hg1:(g:Int)=1:=iH (h1.trans itoa_one.symm)
  rw[hg1,Int.ediv_one,Int.ediv_one]
  (apply Br.mk<;>intro)
  ·rename_i h2
   rw[if_pos h2]
   (conv=>whnf)
   (repeat' first|exact trivial|rfl|apply And.intro)
  ·rename_i h2
   rw[if_neg h2]
   (repeat refine ZG ?_)
   (conv=>whnf)
   (repeat' first|exact trivial|rfl|apply And.intro)
   exact List.append_assoc _ [47] _
theorem b52n (x0 y0:Int) (hx0:lim x0=false) (hy0:lim y0=false) (h00:y0<0):body Tryz.prog [c91,c92,c89,c69] {} true Tryz.f48 [S (itoa x0),S (itoa y0)] (.tup [S (numS (mkRat (-x0) (-y0).toNat)),I 0]):=by
 have hh:=fP y0
 have hneg:(itoa y0).headD 0=45:=hh.2 h00
 have lx0:=fX hx0
 have ly0:=fX hy0
 obtain ⟨x,ex⟩:∃x, -x0=x:=⟨_,rfl⟩
 obtain ⟨y,ey⟩:∃y, -y0=y:=⟨_,rfl⟩
 have hx:lim x=false:=by rw[← ex,Jy];exact hx0
 have hy:lim y=false:=by rw[← ey,Jy];exact hy0
 have h0:0<y:=by omega
 rw[ex,ey]
 have hb:=Et hx hy (by omega)
 have z1:(eZ (itoa x) (itoa y) (resI (Int.gcd (valI (itoa x)) (valI (itoa y))))).1=itoa (Int.gcd x y):=congrArg Prod.fst hb
 have z2:(eZ (itoa x) (itoa y) (resI (Int.gcd (valI (itoa x)) (valI (itoa y))))).2=0:=congrArg Prod.snd hb
 have lx:=fX hx
 have ly:=fX hy
 have hm:=Bj (x:=x) h0
 obtain ⟨g,hg⟩:∃g,Int.gcd x y=g:=⟨_,rfl⟩
 have gx:(g:Int) ∣ x:=by rw[← hg];exact Int.gcd_dvd_left _ _
 have gy:(g:Int) ∣ y:=by rw[← hg];exact Int.gcd_dvd_right _ _
 have gp:0<g:=by rw[← hg];exact Int.gcd_pos_of_ne_zero_right _ (by omega)
 rw[hg] at z1 hm
 rw[hm]
 have lg:lim (g:Int)=false:=mM (y:=y) (by rw[Int.natAbs_natCast,← hg];exact Nat.gcd_le_right _ (by omega)) hy
 have dx:=tB hx lg (by omega) gx
 have dy:=tB hy lg (by omega) gy
 have q1:(divI (itoa x) (itoa g)).1=itoa (x/g):=by rw[dx]
 have q2:(divI (itoa y) (itoa g)).1=itoa (y/g):=by rw[dy]
 (repeat'((conv=>whnf);first|refine Zn ?_|refine Zy ?_|fail))
 refine Need.mk ⟨fQ _,by omega⟩ ?_
 rw[aT,ex]
 refine Need.mk ⟨fQ _,by omega⟩ ?_
 rw[aT,ey]
 (repeat refine ZR ?_)
 (apply Br.mk<;>intro)
 ·rename_i h1
  rw[z1,← q1,← q2]
  have l1:lim (x/g)=false:=mM (y:=x) (by
   obtain ⟨k,rfl⟩:=gx
   rw[Int.mul_ediv_cancel_left _ (by omega),Int.natAbs_mul]
   exact Nat.le_mul_of_pos_left _ (by omega)) hx
  have l2:lim (y/g)=false:=mM (y:=y) (by
   obtain ⟨k,rfl⟩:=gy
   rw[Int.mul_ediv_cancel_left _ (by omega),Int.natAbs_mul]
   exact Nat.le_mul_of_pos_left _ (by omega)) hy
  have m1:(divI (itoa x) (itoa g)).1.length≤301:=by rw[q1];exact fX l1
  have m2:(divI (itoa y) (itoa g)).1.length≤301:=by rw[q2];exact fX l2
  (apply Br.mk<;>intro)
  ·rename_i h2
   rw[if_pos h2]
   (conv=>whnf)
   (repeat' first|exact trivial|rfl|apply And.intro)
  ·rename_i h2
   rw[if_neg h2]
   (repeat refine ZG ?_)
   (conv=>whnf)
   (repeat' first|exact trivial|rfl|apply And.intro)
   exact List.append_assoc _ [47] _
 ·rename_i h1
  have h1:=Classical.not_not.1 h1
  rw[z1] at h1
  have hg1:(g:Int)=1:=iH (h1.trans itoa_one.symm)
  rw[hg1,Int.ediv_one,Int.ediv_one]
  (apply Br.mk<;>intro)
  ·rename_i h2
   rw[if_pos h2]
   (conv=>whnf)
   (repeat' first|exact trivial|rfl|apply And.intro)
  ·rename_i h2
   rw[if_neg h2]
   (repeat refine ZG ?_)
   (conv=>whnf)
   (repeat' first|exact trivial|rfl|apply And.intro)
   exact List.append_assoc _ [47] _
noncomputable def numQ (a b:List UInt8):List UInt8:=numS (Rat.divInt (valI a) (valI b))
def c52:Con:=aH 48 true fun args K=>match args with
 | [.str a,.str b]=>Need (chkI a=0∧chkI b=0∧valI b≠0) (K (.tup [S (numQ a b),I 0]))
 | _=>False
theorem k52:aF Tryz.prog c52:=by
 refine kO Tryz.func48 fun args K h=>?_
 simp only[c52] at h;split at h
 ·rename_i a b
  obtain ⟨⟨h1,h2,h3⟩,h⟩:=h
  refine ⟨_,h,?_⟩
  have ea:=pR (cP h1).1
  have eb:=pR (cP h2).1
  have la:lim (valI a)=false:=Er (by rw[← ea];exact h1)
  have lb:lim (valI b)=false:=Er (by rw[← eb];exact h2)
  unfold numQ
  rcases Int.lt_or_gt_of_ne h3 with hn | hp
  ·have:=triB Tryz.func48 Tryz.ntmps48 (by simp[k91,k92,k89,k69]) (b52n (valI a) (valI b) la lb hn)
   rw[← ea,← eb] at this
   rw[oL _ _ hn]
   exact this
  ·have:=triB Tryz.func48 Tryz.ntmps48 (by simp[k91,k92,k89,k69]) (b52p (valI a) (valI b) la lb hp)
   rw[← ea,← eb] at this
   rw[eD _ _ hp]
   exact this
 ·exact h.elim
theorem qC {x:Int} (h:x.natAbs<1000000000000000000):(itoa x).length≤19:=by
 unfold itoa
 have h1:=gM 17 x.natAbs (by simpa using h)
 split
 ·simp only[List.length_cons];omega
 ·rename_i hx
  rw[show x.toNat=x.natAbs by omega];omega
theorem b90p (x y:Int) (hx:x.natAbs<1000000000000000000) (hy:y.natAbs<1000000000000000000) (h0:0<y):body Tryz.prog [c105,c61] {} true Tryz.f142 [.agg [I x,I y]] (S (numS (mkRat x y.toNat))):=by
 have hm:=Bj (x:=x) h0
 obtain ⟨g,hg⟩:∃g,Int.gcd x y=g:=⟨_,rfl⟩
 have gx:(g:Int) ∣ x:=by rw[← hg];exact Int.gcd_dvd_left _ _
 have gy:(g:Int) ∣ y:=by rw[← hg];exact Int.gcd_dvd_right _ _
 have gp:0<g:=by rw[← hg];exact Int.gcd_pos_of_ne_zero_right _ (by omega)
 have hgm:Int.gcd (max x (-x)) y=g:=by
  rw[← hg];unfold Int.gcd
  rw[show (max x (-x)).natAbs=x.natAbs by omega]
 rw[hg] at hm
 rw[hm]
 have t1:x.tdiv g=x/g:=Int.tdiv_eq_ediv_of_dvd gx
 have t2:y.tdiv g=y/g:=Int.tdiv_eq_ediv_of_dvd gy
 have b1:(x/g).natAbs≤x.natAbs:=by
  obtain ⟨k,rfl⟩:=gx
  rw[Int.mul_ediv_cancel_left _ (by omega),Int.natAbs_mul]
  exact Nat.le_mul_of_pos_left _ (by omega)
 have b2:(y/g).natAbs≤y.natAbs:=by
  obtain ⟨k,rfl⟩:=gy
  rw[Int.mul_ediv_cancel_left _ (by omega),Int.natAbs_mul]
  exact Nat.le_mul_of_pos_left _ (by omega)
 have m1:=qC (x:=x/g) (by omega)
 have m2:=qC (x:=y/g) (by omega)
 (repeat'((conv=>whnf);first|refine Zb ?_|refine Zn ?_|(apply Pin.mk;apply Exists.intro)|apply Pinned.mk rfl rfl|refine Zm ?_|fail))
 rw[hgm]
 (repeat'((conv=>whnf);first|refine Za ?_|refine Zn ?_|(apply Pin.mk;apply Exists.intro)|apply Pinned.mk rfl rfl|fail))
 rw[← t1]
 rw[← t1] at m1
 (apply Br.mk<;>intro)
 ·rename_i h1
  rw[if_pos (by rw[h1];exact itoa_one)]
  (conv=>whnf)
 ·rename_i h1
  rw[if_neg (fun e=>h1 (iH (e.trans itoa_one.symm)))]
  (repeat refine ZR ?_)
  (conv=>whnf)
  exact List.append_assoc _ [47] _
theorem b90n (x0 y0:Int) (hx0:x0.natAbs<1000000000000000000) (hy0:y0.natAbs<1000000000000000000) (h00:y0<0):body Tryz.prog [c105,c61] {} true Tryz.f142 [.agg [I x0,I y0]] (S (numS (mkRat (-x0) (-y0).toNat))):=by
 obtain ⟨x,ex⟩:∃x, -x0=x:=⟨_,rfl⟩
 obtain ⟨y,ey⟩:∃y, -y0=y:=⟨_,rfl⟩
 have hx:x.natAbs<1000000000000000000:=by omega
 have hy:y.natAbs<1000000000000000000:=by omega
 have h0:0<y:=by omega
 rw[ex,ey]
 have hm:=Bj (x:=x) h0
 obtain ⟨g,hg⟩:∃g,Int.gcd x y=g:=⟨_,rfl⟩
 have gx:(g:Int) ∣ x:=by rw[← hg];exact Int.gcd_dvd_left _ _
 have gy:(g:Int) ∣ y:=by rw[← hg];exact Int.gcd_dvd_right _ _
 have gp:0<g:=by rw[← hg];exact Int.gcd_pos_of_ne_zero_right _ (by omega)
 have hgm:Int.gcd (max x (-x)) y=g:=by
  rw[← hg];unfold Int.gcd
  rw[show (max x (-x)).natAbs=x.natAbs by omega]
 rw[hg] at hm
 rw[hm]
 have t1:x.tdiv g=x/g:=Int.tdiv_eq_ediv_of_dvd gx
 have t2:y.tdiv g=y/g:=Int.tdiv_eq_ediv_of_dvd gy
 have b1:(x/g).natAbs≤x.natAbs:=by
  obtain ⟨k,rfl⟩:=gx
  rw[Int.mul_ediv_cancel_left _ (by omega),Int.natAbs_mul]
  exact Nat.le_mul_of_pos_left _ (by omega)
 have b2:(y/g).natAbs≤y.natAbs:=by
  obtain ⟨k,rfl⟩:=gy
  rw[Int.mul_ediv_cancel_left _ (by omega),Int.natAbs_mul]
  exact Nat.le_mul_of_pos_left _ (by omega)
 have m1:=qC (x:=x/g) (by omega)
 have m2:=qC (x:=y/g) (by omega)
 (repeat'((conv=>whnf);first|refine Zn ?_|(apply Pin.mk;apply Exists.intro)|apply Pinned.mk rfl rfl|refine .r ?_|refine Zy ?_|fail))
 rw[ex,ey,hgm]
 (repeat'((conv=>whnf);first|refine Za ?_|refine Zn ?_|(apply Pin.mk;apply Exists.intro)|apply Pinned.mk rfl rfl|fail))
 rw[← t1]
 rw[← t1] at m1
 (apply Br.mk<;>intro)
 ·rename_i h1
  rw[if_pos (by rw[h1];exact itoa_one)]
  (conv=>whnf)
 ·rename_i h1
  rw[if_neg (fun e=>h1 (iH (e.trans itoa_one.symm)))]
  (repeat refine ZR ?_)
  (conv=>whnf)
  exact List.append_assoc _ [47] _
def c90:Con:=aH 142 true fun args K=>match args with
 | [.agg [.val (.int .i64 x),.val (.int .i64 y)]]=>Need (x.natAbs<1000000000000000000∧y.natAbs<1000000000000000000∧y≠0) (K (S (numS (Rat.divInt x y))))
 | _=>False
theorem k90:aF Tryz.prog c90:=by
 refine kO Tryz.func142 fun args K h=>?_
 simp only[c90] at h;split at h
 ·rename_i x y
  obtain ⟨⟨h1,h2,h3⟩,h⟩:=h
  refine ⟨_,h,?_⟩
  rcases Int.lt_or_gt_of_ne h3 with hn | hp
  ·rw[oL _ _ hn]
   exact triB Tryz.func142 Tryz.ntmps142 (by simp[k105,k61]) (b90n x y h1 h2 hn)
  ·rw[eD _ _ hp]
   exact triB Tryz.func142 Tryz.ntmps142 (by simp[k105,k61]) (b90p x y h1 h2 hp)
 ·exact h.elim
theorem mul8 {a b:Int} (ha:a.natAbs<100000000) (hb:b.natAbs<100000000): -10000000000000000<a*b∧a*b<10000000000000000:=by
 have h:=Nat.mul_lt_mul'' ha hb
 rw[← Int.natAbs_mul] at h
 omega
abbrev n8 (a b c d:Int):Prop:=a.natAbs<100000000∧b.natAbs<100000000∧c.natAbs<100000000∧d.natAbs<100000000
def c53:Con:=aH 136 true fun args K=>match args with | [.agg [.val (.int .i64 a),.val (.int .i64 b)],.agg [.val (.int .i64 c),.val (.int .i64 d)]]=>Need (n8 a b c d) (K (.agg [I (a*d+c*b),I (b*d)])) | _=>False
def c59:Con:=aH 87 true fun args K=>match args with | [.agg [.val (.int .i64 a),.val (.int .i64 b)],.agg [.val (.int .i64 c),.val (.int .i64 d)]]=>Need (n8 a b c d) (K (.agg [I (a*d-c*b),I (b*d)])) | _=>False
theorem k59:aF Tryz.prog c59:=by
 refine kQ {} Tryz.func87 Tryz.ntmps87 kn fun _ _ h=>?_
 split at h
 case h_2=>exact h.elim
 refine kb h.go ?_
 replace h:=h.ok
 obtain ⟨h1,h2,h3,h4⟩:=h
 have m1:=mul8 h1 h4
 have m2:=mul8 h3 h2
 have m3:=mul8 h2 h4
 have m4:=mul8 h1 h3
 have m5:=mul8 h2 h3
 (repeat refine ZR ?_)
 (conv=>whnf)
 (repeat' first|exact trivial|rfl|apply And.intro)
def c56:Con:=aH 113 true fun args K=>match args with | [.agg [.val (.int .i64 a),.val (.int .i64 b)],.agg [.val (.int .i64 c),.val (.int .i64 d)]]=>Need (n8 a b c d) (K (.agg [I (a*c),I (b*d)])) | _=>False
theorem k56:aF Tryz.prog c56:=by
 refine kQ {} Tryz.func113 Tryz.ntmps113 kn fun _ _ h=>?_
 split at h
 case h_2=>exact h.elim
 refine kb h.go ?_
 replace h:=h.ok
 obtain ⟨h1,h2,h3,h4⟩:=h
 have m1:=mul8 h1 h4
 have m2:=mul8 h3 h2
 have m3:=mul8 h2 h4
 have m4:=mul8 h1 h3
 have m5:=mul8 h2 h3
 (repeat refine ZR ?_)
 (conv=>whnf)
 (repeat' first|exact trivial|rfl|apply And.intro)
def c48:Con:=aH 91 true fun args K=>match args with | [.agg [.val (.int .i64 a),.val (.int .i64 b)],.agg [.val (.int .i64 c),.val (.int .i64 d)]]=>Need (n8 a b c d) (K (.agg [I (a*d),I (b*c)])) | _=>False
theorem k48:aF Tryz.prog c48:=by
 refine kQ {} Tryz.func91 Tryz.ntmps91 kn fun _ _ h=>?_
 split at h
 case h_2=>exact h.elim
 refine kb h.go ?_
 replace h:=h.ok
 obtain ⟨h1,h2,h3,h4⟩:=h
 have m1:=mul8 h1 h4
 have m2:=mul8 h3 h2
 have m3:=mul8 h2 h4
 have m4:=mul8 h1 h3
 have m5:=mul8 h2 h3
 (repeat refine ZR ?_)
 (conv=>whnf)
 (repeat' first|exact trivial|rfl|apply And.intro)
theorem bT {s:List UInt8} (h:bU s):(valQ s).num.natAbs<100000000∧((valQ s).den:Int).natAbs<100000000∧0<((valQ s).den:Int):=by
 have:=(valQ s).den_pos
 exact ⟨h.2.1,by rw[Int.natAbs_natCast];exact h.2.2,by omega⟩
theorem yE (p q:Rat):Rat.divInt (p.num*q.den-q.num*p.den) (p.den*q.den)=p-q:=by
 rw[qY,eD _ _ (Int.mul_pos (by have:=p.den_pos;omega) (by have:=q.den_pos;omega))];rfl
theorem yF (p q:Rat):Rat.divInt (p.num*q.num) (p.den*q.den)=p*q:=by
 rw[xW,eD _ _ (Int.mul_pos (by have:=p.den_pos;omega) (by have:=q.den_pos;omega))];rfl
theorem yG (p q:Rat) (hq:q≠0):Rat.divInt (p.num*q.den) (p.den*q.num)=p/q:=(xY p q hq).symm
def nv2 (a b:List UInt8):Prop:=nvOK a∧nvOK b
theorem Sc (a b:List UInt8) (h:nv2 a b) (ha:bU a) (hb:bU b):body Tryz.prog [c68,c59,c90] {} true Tryz.f86 [S a,S b,.clo 87 [] []] (.tup [S (numS (valQ a-valQ b)),.val (.bool true)]):=by
 obtain ⟨na,nb⟩:=h
 obtain ⟨p1,p2,p3⟩:=bT ha
 obtain ⟨q1,q2,q3⟩:=bT hb
 have m1:=mul8 p1 q2
 have m2:=mul8 q1 p2
 have m4:=mul8 p1 q1
 have m3:=mul8 p2 q2
 rw[← yE (valQ a) (valQ b)]
 (repeat' first|refine ZR ?_|refine Zg fun _=>?_)
 (conv=>whnf)
 (repeat' first|exact trivial|rfl|apply And.intro)
theorem Sd (a b:List UInt8) (h:¬nv2 a b):body Tryz.prog [c68,c59,c90] {} true Tryz.f86 [S a,S b,.clo 87 [] []] (.tup [S [],.val (.bool false)]):=by
 by_cases na:nvOK a
 ·have nb:¬nvOK b:=fun e=>h ⟨na,e⟩
  (repeat' first|refine ZR ?_|refine Zg fun _=>?_)
  (conv=>whnf)
  (repeat' first|exact trivial|rfl|apply And.intro)
 ·(repeat refine ZR ?_)
  (conv=>whnf)
  (repeat' first|exact trivial|rfl|apply And.intro)
def q59:Con:=aH 86 true fun args K=>match args with
 | [.str a,.str b,.clo 87 [] []]=>Br (nv2 a b) (Giv (bU a∧bU b) (K (.tup [S (numS (valQ a-valQ b)),.val (.bool true)]))) (K (.tup [S [],.val (.bool false)]))
 | _=>False
theorem kq59:aF Tryz.prog q59:=by
 refine kO Tryz.func86 fun args K h=>?_
 simp only[q59] at h;split at h
 ·rename_i a b
  by_cases hf:nv2 a b
  ·obtain ⟨v1,_,_,v2,v3⟩:=cW hf.1
   obtain ⟨w1,_,_,w2,w3⟩:=cW hf.2
   exact ⟨_,(h.yes hf).go ⟨⟨v1,v2,v3⟩,w1,w2,w3⟩,triB Tryz.func86 Tryz.ntmps86 (by simp[k68,k59,k90]) (Sc a b hf ⟨v1,v2,v3⟩ ⟨w1,w2,w3⟩)⟩
  ·exact ⟨_,h.no hf,triB Tryz.func86 Tryz.ntmps86 (by simp[k68,k59,k90]) (Sd a b hf)⟩
 ·exact h.elim
theorem Se (a b:List UInt8) (h:nv2 a b) (ha:bU a) (hb:bU b):body Tryz.prog [c68,c56,c90] {} true Tryz.f86 [S a,S b,.clo 113 [] []] (.tup [S (numS (valQ a*valQ b)),.val (.bool true)]):=by
 obtain ⟨na,nb⟩:=h
 obtain ⟨p1,p2,p3⟩:=bT ha
 obtain ⟨q1,q2,q3⟩:=bT hb
 have m1:=mul8 p1 q2
 have m2:=mul8 q1 p2
 have m4:=mul8 p1 q1
 have m3:=mul8 p2 q2
 rw[← yF (valQ a) (valQ b)]
 (repeat' first|refine ZR ?_|refine Zg fun _=>?_)
 (conv=>whnf)
 (repeat' first|exact trivial|rfl|apply And.intro)
theorem Sf (a b:List UInt8) (h:¬nv2 a b):body Tryz.prog [c68,c56,c90] {} true Tryz.f86 [S a,S b,.clo 113 [] []] (.tup [S [],.val (.bool false)]):=by
 by_cases na:nvOK a
 ·have nb:¬nvOK b:=fun e=>h ⟨na,e⟩
  (repeat' first|refine ZR ?_|refine Zg fun _=>?_)
  (conv=>whnf)
  (repeat' first|exact trivial|rfl|apply And.intro)
 ·(repeat refine ZR ?_)
  (conv=>whnf)
  (repeat' first|exact trivial|rfl|apply And.intro)
def q56:Con:=aH 86 true fun args K=>match args with
 | [.str a,.str b,.clo 113 [] []]=>Br (nv2 a b) (Giv (bU a∧bU b) (K (.tup [S (numS (valQ a*valQ b)),.val (.bool true)]))) (K (.tup [S [],.val (.bool false)]))
 | _=>False
theorem kq56:aF Tryz.prog q56:=by
 refine kO Tryz.func86 fun args K h=>?_
 simp only[q56] at h;split at h
 ·rename_i a b
  by_cases hf:nv2 a b
  ·obtain ⟨v1,_,_,v2,v3⟩:=cW hf.1
   obtain ⟨w1,_,_,w2,w3⟩:=cW hf.2
   exact ⟨_,(h.yes hf).go ⟨⟨v1,v2,v3⟩,w1,w2,w3⟩,triB Tryz.func86 Tryz.ntmps86 (by simp[k68,k56,k90]) (Se a b hf ⟨v1,v2,v3⟩ ⟨w1,w2,w3⟩)⟩
  ·exact ⟨_,h.no hf,triB Tryz.func86 Tryz.ntmps86 (by simp[k68,k56,k90]) (Sf a b hf)⟩
 ·exact h.elim
theorem Sg (a b:List UInt8) (hq:valQ b≠0) (h:nv2 a b) (ha:bU a) (hb:bU b):body Tryz.prog [c68,c48,c90] {} true Tryz.f86 [S a,S b,.clo 91 [] []] (.tup [S (numS (valQ a/valQ b)),.val (.bool true)]):=by
 obtain ⟨na,nb⟩:=h
 obtain ⟨p1,p2,p3⟩:=bT ha
 obtain ⟨q1,q2,q3⟩:=bT hb
 have m1:=mul8 p1 q2
 have m2:=mul8 q1 p2
 have m4:=mul8 p1 q1
 have hq0:(valQ b).num≠0:=fun e=>hq (Rat.num_eq_zero.1 e)
 have m3:=mul8 p2 q1
 rw[← yG (valQ a) (valQ b) hq]
 (repeat'((conv=>whnf);first|refine Zg fun _=>?_|refine Zn ?_|refine Zy ?_|fail))
 refine Need.mk ⟨by omega,by omega,Int.mul_ne_zero (by omega) hq0⟩ ?_
 (conv=>whnf)
 (repeat' first|exact trivial|rfl|apply And.intro)
theorem Sh (a b:List UInt8) (h:¬nv2 a b):body Tryz.prog [c68,c48,c90] {} true Tryz.f86 [S a,S b,.clo 91 [] []] (.tup [S [],.val (.bool false)]):=by
 by_cases na:nvOK a
 ·have nb:¬nvOK b:=fun e=>h ⟨na,e⟩
  (repeat' first|refine ZR ?_|refine Zg fun _=>?_)
  (conv=>whnf)
  (repeat' first|exact trivial|rfl|apply And.intro)
 ·(repeat refine ZR ?_)
  (conv=>whnf)
  (repeat' first|exact trivial|rfl|apply And.intro)
def q48:Con:=aH 86 true fun args K=>match args with
 | [.str a,.str b,.clo 91 [] []]=>Need (¬b= [48]) (Br (nv2 a b) (Giv (bU a∧bU b) (K (.tup [S (numS (valQ a/valQ b)),.val (.bool true)]))) (K (.tup [S [],.val (.bool false)])))
 | _=>False
theorem yH:numS 0= [48]:=by
 unfold numS
 rw[if_pos (show Rat.den 0=1 from rfl)]
 exact itoa_zero
theorem kq48:aF Tryz.prog q48:=by
 refine kO Tryz.func86 fun args K h=>?_
 simp only[q48] at h;split at h
 ·rename_i a b
  obtain ⟨hb0,h⟩:=h
  by_cases hf:nv2 a b
  ·obtain ⟨v1,_,_,v2,v3⟩:=cW hf.1
   obtain ⟨w1,_,_,w2,w3⟩:=cW hf.2
   have hq:valQ b≠0:=fun e=>hb0 (by rw[w1,e];exact yH)
   exact ⟨_,(h.yes hf).go ⟨⟨v1,v2,v3⟩,w1,w2,w3⟩,triB Tryz.func86 Tryz.ntmps86 (by simp[k68,k48,k90]) (Sg a b hq hf ⟨v1,v2,v3⟩ ⟨w1,w2,w3⟩)⟩
  ·exact ⟨_,h.no hf,triB Tryz.func86 Tryz.ntmps86 (by simp[k68,k48,k90]) (Sh a b hf)⟩
 ·exact h.elim
theorem Jz {a b:List UInt8} (ha:chkI a=0) (hb:chkI b=0) (r:List UInt8 × Int):eZ a b r=r:=by
 unfold eZ chk2
 rw[ha,hb,if_neg (by simp)]
def c58r:Con:=aH 103 true fun args K=>match args with
 | [.str a,.str b]=>Need (chkI a=0∧chkI b=0) (Br (lim (valI a*valI b)=false) (K (.tup [S (itoa (valI a*valI b)),I 0])) (K (.tup [S [],I 4])))
 | _=>False
theorem k58r:aF Tryz.prog c58r:=by
 refine kO Tryz.func103 fun args K h=>?_
 simp only[c58r] at h;split at h
 ·rename_i a b
  obtain ⟨⟨ha,hb⟩,h⟩:=h
  have ht:=triB Tryz.func103 Tryz.ntmps103 (by simp[k94,k95,k61,k98,k99f,k96]) (b58 a b)
  rw[Jz ha hb] at ht
  by_cases hl:lim (valI a*valI b)=false
  ·refine ⟨_,h.yes hl,?_⟩
   unfold resI at ht
   rw[hl] at ht
   exact ht
  ·refine ⟨_,h.no hl,?_⟩
   unfold resI at ht
   rw[show lim _=true from by simpa using hl] at ht
   exact ht
 ·exact h.elim
def c60r:Con:=aH 90 true fun args K=>match args with
 | [.str a,.str b]=>Need (chkI a=0∧chkI b=0) (Br (lim (valI a-valI b)=false) (K (.tup [S (itoa (valI a-valI b)),I 0])) (K (.tup [S [],I 4])))
 | _=>False
theorem k60r:aF Tryz.prog c60r:=by
 refine kO Tryz.func90 fun args K h=>?_
 simp only[c60r] at h;split at h
 ·rename_i a b
  obtain ⟨⟨ha,hb⟩,h⟩:=h
  have ht:=triB Tryz.func90 Tryz.ntmps90 (by simp[k94,k95,k61,k98,k97,k96]) (b60 a b)
  rw[Jz ha hb] at ht
  by_cases hl:lim (valI a-valI b)=false
  ·refine ⟨_,h.yes hl,?_⟩
   unfold resI at ht
   rw[hl] at ht
   exact ht
  ·refine ⟨_,h.no hl,?_⟩
   unfold resI at ht
   rw[show lim _=true from by simpa using hl] at ht
   exact ht
 ·exact h.elim
abbrev ck4 (a b c d:List UInt8):Prop:=(chkI a=0∧chkI b=0)∧(chkI c=0∧chkI d=0)
def fF (a b c d:List UInt8):Prop:=lim (valI a*valI d)=false∧lim (valI c*valI b)=false
instance (a b c d:List UInt8):Decidable (fF a b c d):=by unfold fF;infer_instance
theorem b51y (a b c d:List UInt8) (h:ck4 a b c d) (hl:fF a b c d):body Tryz.prog [c58r] {} true Tryz.f52 [.agg [S a,S b],.agg [S c,S d]] (.tup [S (itoa (valI a*valI d)),S (itoa (valI c*valI b)),I 0]):=by
 obtain ⟨⟨h1,h2⟩,h3,h4⟩:=h
 obtain ⟨l1,l2⟩:=hl
 (repeat refine ZR ?_)
 (conv=>whnf)
 (repeat' first|exact trivial|rfl|apply And.intro)
theorem b51n (a b c d:List UInt8) (h:ck4 a b c d) (hl:¬fF a b c d):body Tryz.prog [c58r] {} true Tryz.f52 [.agg [S a,S b],.agg [S c,S d]] (.tup [.any,.any,I 4]):=by
 obtain ⟨⟨h1,h2⟩,h3,h4⟩:=h
 by_cases l1:lim (valI a*valI d)=false
 ·have l2:¬lim (valI c*valI b)=false:=fun e=>hl ⟨l1,e⟩
  (repeat refine ZR ?_)
  (conv=>whnf)
  (repeat' first|exact trivial|rfl|apply And.intro)
 ·(repeat refine ZR ?_)
  (conv=>whnf)
  (repeat' first|exact trivial|rfl|apply And.intro)
def c51:Con:=aH 52 true fun args K=>match args with
 | [.agg [.str a,.str b],.agg [.str c,.str d]]=>Need (ck4 a b c d) (Br (fF a b c d) (K (.tup [S (itoa (valI a*valI d)),S (itoa (valI c*valI b)),I 0])) (K (.tup [.any,.any,I 4])))
 | _=>False
theorem k51:aF Tryz.prog c51:=by
 refine kO Tryz.func52 fun args K h=>?_
 simp only[c51] at h;split at h
 ·rename_i a b c d
  obtain ⟨h0,h⟩:=h
  by_cases hl:fF a b c d
  ·exact ⟨_,h.yes hl,triB Tryz.func52 Tryz.ntmps52 (by simp[k58r]) (b51y a b c d h0 hl)⟩
  ·exact ⟨_,h.no hl,triB Tryz.func52 Tryz.ntmps52 (by simp[k58r]) (b51n a b c d h0 hl)⟩
 ·exact h.elim
abbrev dens (b d:List UInt8):Prop:=0<valI b∧0<valI d
theorem nH (n d:Int):numQ (itoa n) (itoa d)=numS (Rat.divInt n d):=by
 unfold numQ
 rw[aT,aT]
theorem Ka {n:Int} (h:0<n):valI (itoa n)≠0:=by rw[aT];omega
def ok57 (a b c d:List UInt8):Prop:=lim (valI a*valI c)=false∧lim (valI b*valI d)=false
instance (a b c d:List UInt8):Decidable (ok57 a b c d):=by unfold ok57;infer_instance
theorem b57y (a b c d:List UInt8) (h:ck4 a b c d∧dens b d) (hl:ok57 a b c d):body Tryz.prog [c58r,c52] {} true Tryz.f114 [.agg [S a,S b],.agg [S c,S d]] (.tup [S (numQ (itoa (valI a*valI c)) (itoa (valI b*valI d))),I 0]):=by
 obtain ⟨⟨⟨h1,h2⟩,h3,h4⟩,hb,hd⟩:=h
 obtain ⟨l1,l2⟩:=hl
 have k1:=bI l1
 have k2:=bI l2
 have k3:=Ka (Int.mul_pos hb hd)
 (repeat refine ZR ?_)
 (conv=>whnf)
 (repeat' first|exact trivial|rfl|apply And.intro)
theorem b57n (a b c d:List UInt8) (h:ck4 a b c d) (hl:¬ok57 a b c d):body Tryz.prog [c58r,c52] {} true Tryz.f114 [.agg [S a,S b],.agg [S c,S d]] (.tup [S [],I 4]):=by
 obtain ⟨⟨h1,h2⟩,h3,h4⟩:=h
 by_cases l1:lim (valI a*valI c)=false
 ·have l2:¬lim (valI b*valI d)=false:=fun e=>hl ⟨l1,e⟩
  (repeat refine ZR ?_)
  (conv=>whnf)
  (repeat' first|exact trivial|rfl|apply And.intro)
 ·(repeat refine ZR ?_)
  (conv=>whnf)
  (repeat' first|exact trivial|rfl|apply And.intro)
def c57:Con:=aH 114 true fun args K=>match args with
 | [.agg [.str a,.str b],.agg [.str c,.str d]]=>Need (ck4 a b c d∧dens b d) (Br (ok57 a b c d) (K (.tup [S (numS (Rat.divInt (valI a*valI c) (valI b*valI d))),I 0])) (K (.tup [S [],I 4])))
 | _=>False
theorem k57:aF Tryz.prog c57:=by
 refine kO Tryz.func114 fun args K h=>?_
 simp only[c57] at h;split at h
 ·rename_i a b c d
  obtain ⟨h0,h⟩:=h
  by_cases hl:ok57 a b c d
  ·refine ⟨_,h.yes hl,?_⟩
   rw[← nH]
   exact triB Tryz.func114 Tryz.ntmps114 (by simp[k58r,k52]) (b57y a b c d h0 hl)
  ·exact ⟨_,h.no hl,triB Tryz.func114 Tryz.ntmps114 (by simp[k58r,k52]) (b57n a b c d h0.1 hl)⟩
 ·exact h.elim
def Ua (a b c d:List UInt8):Prop:=fF a b c d∧lim (valI a*valI d+valI c*valI b)=false∧lim (valI b*valI d)=false
instance (a b c d:List UInt8):Decidable (Ua a b c d):=by unfold Ua;infer_instance
def mN (a b c d:List UInt8):Prop:=fF a b c d∧lim (valI a*valI d-valI c*valI b)=false∧lim (valI b*valI d)=false
instance (a b c d:List UInt8):Decidable (mN a b c d):=by unfold mN;infer_instance
theorem b93sy (a b c d:List UInt8) (h:ck4 a b c d∧dens b d) (hl:mN a b c d):body Tryz.prog [c51,c60r,c58r,c52] {} true Tryz.f143 [.agg [S a,S b],.agg [S c,S d],.lelem [.clo 90 [] []] 0] (.tup [S (numQ (itoa (valI a*valI d-valI c*valI b)) (itoa (valI b*valI d))),I 0]):=by
 obtain ⟨⟨⟨h1,h2⟩,h3,h4⟩,hb,hd⟩:=h
 obtain ⟨l1,l2,l3⟩:=hl
 have k1:=bI l2
 have k2:=bI l3
 have k3:=Ka (Int.mul_pos hb hd)
 have j1:=bI l1.1
 have j2:=bI l1.2
 have e1:=aT (valI a*valI d)
 have e2:=aT (valI c*valI b)
 (repeat refine ZR ?_)
 rw[e1,e2]
 (repeat refine ZR ?_)
 (conv=>whnf)
 (repeat' first|exact trivial|rfl|apply And.intro)
theorem b93sn (a b c d:List UInt8) (h:ck4 a b c d) (hl:¬mN a b c d):body Tryz.prog [c51,c60r,c58r,c52] {} true Tryz.f143 [.agg [S a,S b],.agg [S c,S d],.lelem [.clo 90 [] []] 0] (.tup [S [],I 4]):=by
 obtain ⟨⟨h1,h2⟩,h3,h4⟩:=h
 by_cases l1:fF a b c d
 ·have j1:=bI l1.1
  have j2:=bI l1.2
  have e1:=aT (valI a*valI d)
  have e2:=aT (valI c*valI b)
  by_cases l2:lim (valI a*valI d-valI c*valI b)=false
  ·have l3:¬lim (valI b*valI d)=false:=fun e=>hl ⟨l1,l2,e⟩
   (repeat refine ZR ?_)
   rw[e1,e2]
   (repeat refine ZR ?_)
   (conv=>whnf)
   (repeat' first|exact trivial|rfl|apply And.intro)
  ·(repeat refine ZR ?_)
   rw[e1,e2]
   (repeat refine ZR ?_)
   (conv=>whnf)
   (repeat' first|exact trivial|rfl|apply And.intro)
 ·(repeat refine ZR ?_)
  (conv=>whnf)
  (repeat' first|exact trivial|rfl|apply And.intro)
def c93s:Con:=aH 143 true fun args K=>match args with
 | [.agg [.str a,.str b],.agg [.str c,.str d],.lelem [.clo 90 [] []] 0]=>Need (ck4 a b c d∧dens b d) (Br (mN a b c d) (K (.tup [S (numS (Rat.divInt (valI a*valI d-valI c*valI b) (valI b*valI d))),I 0])) (K (.tup [S [],I 4])))
 | _=>False
theorem k93s:aF Tryz.prog c93s:=by
 refine kO Tryz.func143 fun args K h=>?_
 simp only[c93s] at h;split at h
 ·rename_i a b c d
  obtain ⟨h0,h⟩:=h
  by_cases hl:mN a b c d
  ·refine ⟨_,h.yes hl,?_⟩
   rw[← nH]
   exact triB Tryz.func143 Tryz.ntmps143 (by simp[k51,k60r,k58r,k52]) (b93sy a b c d h0 hl)
  ·exact ⟨_,h.no hl,triB Tryz.func143 Tryz.ntmps143 (by simp[k51,k60r,k58r,k52]) (b93sn a b c d h0.1 hl)⟩
 ·exact h.elim
def ok50 (a b c d:List UInt8):Prop:=fF a b c d
instance (a b c d:List UInt8):Decidable (ok50 a b c d):=by unfold ok50;infer_instance
theorem b50y (a b c d:List UInt8) (h:ck4 a b c d∧dens b d∧¬c= [48]) (hl:ok50 a b c d):body Tryz.prog [c51,c52] {} true Tryz.f92 [.agg [S a,S b],.agg [S c,S d]] (.tup [S (numQ (itoa (valI a*valI d)) (itoa (valI c*valI b))),I 0]):=by
 obtain ⟨⟨⟨h1,h2⟩,h3,h4⟩,⟨hb,hd⟩,hc⟩:=h
 have k1:=bI hl.1
 have k2:=bI hl.2
 have k3:valI (itoa (valI c*valI b))≠0:=by
  rw[aT]
  exact Int.mul_ne_zero (Pv (cP h3).1 hc) (by omega)
 (repeat refine ZR ?_)
 (conv=>whnf)
 (repeat' first|exact trivial|rfl|apply And.intro)
theorem b50n (a b c d:List UInt8) (h:ck4 a b c d∧¬c= [48]) (hl:¬ok50 a b c d):body Tryz.prog [c51,c52] {} true Tryz.f92 [.agg [S a,S b],.agg [S c,S d]] (.tup [S [],I 4]):=by
 obtain ⟨⟨⟨h1,h2⟩,h3,h4⟩,hc⟩:=h
 have hl:¬fF a b c d:=hl
 (repeat refine ZR ?_)
 (conv=>whnf)
 (repeat' first|exact trivial|rfl|apply And.intro)
def c50:Con:=aH 92 true fun args K=>match args with
 | [.agg [.str a,.str b],.agg [.str c,.str d]]=>Need (ck4 a b c d∧dens b d) (Br (c= [48]) (K (.tup [S [],I 12])) (Br (ok50 a b c d) (K (.tup [S (numS (Rat.divInt (valI a*valI d) (valI c*valI b))),I 0])) (K (.tup [S [],I 4]))))
 | _=>False
theorem b50z (a b c d:List UInt8) (hc:c= [48]):body Tryz.prog [c51,c52] {} true Tryz.f92 [.agg [S a,S b],.agg [S c,S d]] (.tup [S [],I 12]):=by
 (repeat refine ZR ?_)
 (conv=>whnf)
 (repeat' first|exact trivial|rfl|apply And.intro)
theorem k50:aF Tryz.prog c50:=by
 refine kO Tryz.func92 fun args K h=>?_
 simp only[c50] at h;split at h
 ·rename_i a b c d
  obtain ⟨h0,h⟩:=h
  by_cases hc:c= [48]
  ·exact ⟨_,h.yes hc,triB Tryz.func92 Tryz.ntmps92 (by simp[k51,k52]) (b50z a b c d hc)⟩
  replace h:=h.no hc
  by_cases hl:ok50 a b c d
  ·refine ⟨_,h.yes hl,?_⟩
   rw[← nH]
   exact triB Tryz.func92 Tryz.ntmps92 (by simp[k51,k52]) (b50y a b c d ⟨h0.1,h0.2,hc⟩ hl)
  ·exact ⟨_,h.no hl,triB Tryz.func92 Tryz.ntmps92 (by simp[k51,k52]) (b50n a b c d ⟨h0.1,hc⟩ hl)⟩
 ·exact h.elim
def c54:Con:=aH 89 false fun args K=>match args with | [.clo f [] []]=>K (.clo 143 [] [.lelem [.clo f [] []] 0]) | _=>False
theorem k54:aF Tryz.prog c54:=by
 refine kQ {} Tryz.func89 Tryz.ntmps89 kn fun _ _ h=>?_
 split at h
 case h_2=>exact h.elim
 refine kb h ?_
 (conv=>whnf)
 (repeat' first|exact trivial|rfl|apply And.intro)
noncomputable def subf (p q:Rat):List UInt8 × Int:=if lim (p.num*q.den) || lim (q.num*p.den) || lim (p.num*q.den-q.num*p.den) || lim (p.den*q.den) then ([],4) else (numS (p-q),0)
noncomputable def mulf (p q:Rat):List UInt8 × Int:=if lim (p.num*q.num) || lim (p.den*q.den) then ([],4) else (numS (p*q),0)
noncomputable def divf (p q:Rat):List UInt8 × Int:=if q=0 then ([],12) else if lim (p.num*q.den) || lim (q.num*p.den) then ([],4) else (numS (p/q),0)
abbrev pn (p:Rat):List UInt8:=itoa p.num
abbrev pd (p:Rat):List UInt8:=decDigits p.den
theorem iZ (p:Rat):valI (pn p)=p.num:=aT _
theorem iK (p:Rat):valI (pd p)=p.den:=by unfold pd;rw[← mL,aT]
theorem Kb (q:Rat):pn q= [48]↔q=0:=by
 unfold pn
 rw[← itoa_zero]
 exact ⟨fun h=>Rat.num_eq_zero.1 (iH h),fun h=>by rw[h];rfl⟩
theorem iS {s:List UInt8} (h:Qc s):chkI (pn (valQ s))=0∧chkI (pd (valQ s))=0∧0<valI (pd (valQ s)):=by
 refine ⟨bI (by unfold lim;simpa using h.2.1),(Jx h.2.2).2.1,?_⟩
 rw[iK]
 have:=(valQ s).den_pos
 omega
theorem Vc {p q:Rat} (h:mN (pn p) (pd p) (pn q) (pd q)):subf p q=(numS (Rat.divInt (valI (pn p)*valI (pd q)-valI (pn q)*valI (pd p)) (valI (pd p)*valI (pd q))),0):=by
 unfold mN fF at h
 simp only[iZ,iK] at h ⊢
 unfold subf
 rw[yE p q]
 simp[h]
theorem Vd {p q:Rat} (h:¬mN (pn p) (pd p) (pn q) (pd q)):subf p q=([],4):=by
 unfold mN fF at h
 simp only[iZ,iK] at h
 unfold subf
 rw[if_pos]
 apply Classical.byContradiction
 intro hn
 apply h
 simp only[Bool.or_eq_true,not_or,Bool.not_eq_true] at hn
 simp[hn]
theorem Ve {p q:Rat} (h:ok57 (pn p) (pd p) (pn q) (pd q)):mulf p q=(numS (Rat.divInt (valI (pn p)*valI (pn q)) (valI (pd p)*valI (pd q))),0):=by
 unfold ok57 at h
 simp only[iZ,iK] at h ⊢
 unfold mulf
 rw[yF p q]
 simp[h]
theorem Vf {p q:Rat} (h:¬ok57 (pn p) (pd p) (pn q) (pd q)):mulf p q=([],4):=by
 unfold ok57 at h
 simp only[iZ,iK] at h
 unfold mulf
 rw[if_pos]
 apply Classical.byContradiction
 intro hn
 apply h
 simp only[Bool.or_eq_true,not_or,Bool.not_eq_true] at hn
 simp[hn]
theorem Vg {p q:Rat} (hq:q≠0) (h:ok50 (pn p) (pd p) (pn q) (pd q)):divf p q=(numS (Rat.divInt (valI (pn p)*valI (pd q)) (valI (pn q)*valI (pd p))),0):=by
 unfold ok50 fF at h
 simp only[iZ,iK] at h ⊢
 unfold divf
 rw[if_neg hq,Int.mul_comm q.num,yG p q hq]
 rw[Int.mul_comm q.num] at h
 simp[h]
theorem Vh {p q:Rat} (hq:q≠0) (h:¬ok50 (pn p) (pd p) (pn q) (pd q)):divf p q=([],4):=by
 unfold ok50 fF at h
 simp only[iZ,iK] at h
 unfold divf
 rw[if_neg hq,if_pos]
 apply Classical.byContradiction
 intro hn
 apply h
 simp only[Bool.or_eq_true,not_or,Bool.not_eq_true] at hn
 simp[hn]
theorem Si (a b:List UInt8):body Tryz.prog [c46,c93s] {} true Tryz.f88 [S a,S b,.clo 143 [] [.lelem [.clo 90 [] []] 0]] (.tup [S (subQ a b).1,I (subQ a b).2]):=by
 by_cases ha:chkQ a=0
 ·by_cases hb:chkQ b=0
  ·have e:subQ a b=subf (valQ a) (valQ b):=by
    show cS a b subf= _
    unfold cS
    rw[if_neg (by simpa using ha),if_neg (by simpa using hb)]
   rw[e]
   obtain ⟨r1,r2,r3⟩:=iS (dQ ha)
   obtain ⟨s1,s2,s3⟩:=iS (dQ hb)
   by_cases hk:mN (pn (valQ a)) (pd (valQ a)) (pn (valQ b)) (pd (valQ b))
   ·rw[Vc hk]
    (repeat'((conv=>whnf);first|refine Zg fun _=>?_|refine Zy ?_|refine Zm ?_|fail))
    refine Need.mk ⟨⟨⟨r1,r2⟩,s1,s2⟩,r3,s3⟩ ?_
    (repeat refine ZR ?_)
    (conv=>whnf)
    (repeat' first|exact trivial|rfl|apply And.intro)
   ·rw[Vd hk]
    (repeat'((conv=>whnf);first|refine Zg fun _=>?_|refine Zy ?_|refine Zm ?_|fail))
    refine Need.mk ⟨⟨⟨r1,r2⟩,s1,s2⟩,r3,s3⟩ ?_
    (repeat refine ZR ?_)
    (conv=>whnf)
    (repeat' first|exact trivial|rfl|apply And.intro)
  ·have e:subQ a b=([],chkQ b):=by
    show cS a b subf= _
    unfold cS
    rw[if_neg (by simpa using ha),if_pos hb]
   rw[e]
   (repeat' first|refine ZR ?_|refine Zg fun _=>?_)
   (conv=>whnf)
   (repeat' first|exact trivial|rfl|apply And.intro)
 ·have e:subQ a b=([],chkQ a):=by
   show cS a b subf= _
   unfold cS
   rw[if_pos ha]
  rw[e]
  (repeat refine ZR ?_)
  (conv=>whnf)
  (repeat' first|exact trivial|rfl|apply And.intro)
def w93s:Con:=aH 88 true fun args K=>match args with
 | [.str a,.str b,.clo 143 [] [.lelem [.clo 90 [] []] 0]]=>K (.tup [S (subQ a b).1,I (subQ a b).2])
 | _=>False
theorem kw93s:aF Tryz.prog w93s:=by
 refine kO Tryz.func88 fun args K h=>?_
 simp only[w93s] at h;split at h
 ·rename_i a b
  exact ⟨_,h,triB Tryz.func88 Tryz.ntmps88 (by simp[k46,k93s]) (Si a b)⟩
 ·exact h.elim
theorem Vi (a b:List UInt8):body Tryz.prog [c46,c57] {} true Tryz.f88 [S a,S b,.clo 114 [] []] (.tup [S (mulQ a b).1,I (mulQ a b).2]):=by
 by_cases ha:chkQ a=0
 ·by_cases hb:chkQ b=0
  ·have e:mulQ a b=mulf (valQ a) (valQ b):=by
    show cS a b mulf= _
    unfold cS
    rw[if_neg (by simpa using ha),if_neg (by simpa using hb)]
   rw[e]
   obtain ⟨r1,r2,r3⟩:=iS (dQ ha)
   obtain ⟨s1,s2,s3⟩:=iS (dQ hb)
   by_cases hk:ok57 (pn (valQ a)) (pd (valQ a)) (pn (valQ b)) (pd (valQ b))
   ·rw[Ve hk]
    (repeat'((conv=>whnf);first|refine Zg fun _=>?_|refine Zy ?_|refine Zm ?_|fail))
    refine Need.mk ⟨⟨⟨r1,r2⟩,s1,s2⟩,r3,s3⟩ ?_
    (repeat refine ZR ?_)
    (conv=>whnf)
    (repeat' first|exact trivial|rfl|apply And.intro)
   ·rw[Vf hk]
    (repeat'((conv=>whnf);first|refine Zg fun _=>?_|refine Zy ?_|refine Zm ?_|fail))
    refine Need.mk ⟨⟨⟨r1,r2⟩,s1,s2⟩,r3,s3⟩ ?_
    (repeat refine ZR ?_)
    (conv=>whnf)
    (repeat' first|exact trivial|rfl|apply And.intro)
  ·have e:mulQ a b=([],chkQ b):=by
    show cS a b mulf= _
    unfold cS
    rw[if_neg (by simpa using ha),if_pos hb]
   rw[e]
   (repeat' first|refine ZR ?_|refine Zg fun _=>?_)
   (conv=>whnf)
   (repeat' first|exact trivial|rfl|apply And.intro)
 ·have e:mulQ a b=([],chkQ a):=by
   show cS a b mulf= _
   unfold cS
   rw[if_pos ha]
  rw[e]
  (repeat refine ZR ?_)
  (conv=>whnf)
  (repeat' first|exact trivial|rfl|apply And.intro)
def w57:Con:=aH 88 true fun args K=>match args with
 | [.str a,.str b,.clo 114 [] []]=>K (.tup [S (mulQ a b).1,I (mulQ a b).2])
 | _=>False
theorem kw57:aF Tryz.prog w57:=by
 refine kO Tryz.func88 fun args K h=>?_
 simp only[w57] at h;split at h
 ·rename_i a b
  exact ⟨_,h,triB Tryz.func88 Tryz.ntmps88 (by simp[k46,k57]) (Vi a b)⟩
 ·exact h.elim
theorem Vj (a b:List UInt8):body Tryz.prog [c46,c50] {} true Tryz.f88 [S a,S b,.clo 92 [] []] (.tup [S (divQ a b).1,I (divQ a b).2]):=by
 by_cases ha:chkQ a=0
 ·by_cases hb:chkQ b=0
  ·have e:divQ a b=divf (valQ a) (valQ b):=by
    show cS a b divf= _
    unfold cS
    rw[if_neg (by simpa using ha),if_neg (by simpa using hb)]
   rw[e]
   obtain ⟨r1,r2,r3⟩:=iS (dQ ha)
   obtain ⟨s1,s2,s3⟩:=iS (dQ hb)
   by_cases hz:pn (valQ b)= [48]
   ·have hd:divf (valQ a) (valQ b)=([],12):=by unfold divf;rw[if_pos ((Kb _).1 hz)]
    rw[hd]
    (repeat'((conv=>whnf);first|refine Zg fun _=>?_|refine Zy ?_|refine Zm ?_|fail))
    refine Need.mk ⟨⟨⟨r1,r2⟩,s1,s2⟩,r3,s3⟩ ?_
    (repeat refine ZR ?_)
    (conv=>whnf)
    (repeat' first|exact trivial|rfl|apply And.intro)
   ·have hq:valQ b≠0:=fun e=>hz ((Kb _).2 e)
    by_cases hk:ok50 (pn (valQ a)) (pd (valQ a)) (pn (valQ b)) (pd (valQ b))
    ·rw[Vg hq hk]
     (repeat'((conv=>whnf);first|refine Zg fun _=>?_|refine Zy ?_|refine Zm ?_|fail))
     refine Need.mk ⟨⟨⟨r1,r2⟩,s1,s2⟩,r3,s3⟩ ?_
     (repeat refine ZR ?_)
     (conv=>whnf)
     (repeat' first|exact trivial|rfl|apply And.intro)
    ·rw[Vh hq hk]
     (repeat'((conv=>whnf);first|refine Zg fun _=>?_|refine Zy ?_|refine Zm ?_|fail))
     refine Need.mk ⟨⟨⟨r1,r2⟩,s1,s2⟩,r3,s3⟩ ?_
     (repeat refine ZR ?_)
     (conv=>whnf)
     (repeat' first|exact trivial|rfl|apply And.intro)
  ·have e:divQ a b=([],chkQ b):=by
    show cS a b divf= _
    unfold cS
    rw[if_neg (by simpa using ha),if_pos hb]
   rw[e]
   (repeat' first|refine ZR ?_|refine Zg fun _=>?_)
   (conv=>whnf)
   (repeat' first|exact trivial|rfl|apply And.intro)
 ·have e:divQ a b=([],chkQ a):=by
   show cS a b divf= _
   unfold cS
   rw[if_pos ha]
  rw[e]
  (repeat refine ZR ?_)
  (conv=>whnf)
  (repeat' first|exact trivial|rfl|apply And.intro)
def w50:Con:=aH 88 true fun args K=>match args with
 | [.str a,.str b,.clo 92 [] []]=>K (.tup [S (divQ a b).1,I (divQ a b).2])
 | _=>False
theorem kw50:aF Tryz.prog w50:=by
 refine kO Tryz.func88 fun args K h=>?_
 simp only[w50] at h;split at h
 ·rename_i a b
  exact ⟨_,h,triB Tryz.func88 Tryz.ntmps88 (by simp[k46,k50]) (Vj a b)⟩
 ·exact h.elim
theorem cH {n:Int} (h:n.natAbs<10^40):lim n=false:=by
 unfold lim
 have:=gM 39 n.natAbs h
 simp;omega
theorem oN {a b:List UInt8} (ha:bU a) (hb:bU b) (f:Rat→Rat→List UInt8 × Int):cS a b f=f (valQ a) (valQ b):=by
 unfold cS
 rw[if_neg (by rw[gX ha];simp),if_neg (by rw[gX hb];simp)]
theorem Hd {a b:List UInt8} (ha:bU a) (hb:bU b):subQ a b=(numS (valQ a-valQ b),0):=by
 rw[show subQ a b=subf (valQ a) (valQ b) from oN ha hb subf]
 obtain ⟨p1,p2,p3⟩:=bT ha
 obtain ⟨q1,q2,q3⟩:=bT hb
 have m1:=mul8 p1 q2
 have m2:=mul8 q1 p2
 have m3:=mul8 p2 q2
 have m4:=mul8 p1 q1
 unfold subf
 rw[cH (n:=(valQ a).num*(valQ b).den) (by omega),cH (n:=(valQ b).num*(valQ a).den) (by omega),cH (n:=(valQ a).num*(valQ b).den-(valQ b).num*(valQ a).den) (by omega),cH (n:=(valQ a).den*(valQ b).den) (by omega)]
 rfl
theorem He {a b:List UInt8} (ha:bU a) (hb:bU b):mulQ a b=(numS (valQ a*valQ b),0):=by
 rw[show mulQ a b=mulf (valQ a) (valQ b) from oN ha hb mulf]
 obtain ⟨p1,p2,p3⟩:=bT ha
 obtain ⟨q1,q2,q3⟩:=bT hb
 have m1:=mul8 p1 q2
 have m2:=mul8 q1 p2
 have m3:=mul8 p2 q2
 have m4:=mul8 p1 q1
 unfold mulf
 rw[cH (n:=(valQ a).num*(valQ b).num) (by omega),cH (n:=(valQ a).den*(valQ b).den) (by omega)]
 rfl
theorem Hg {a b:List UInt8} (ha:bU a) (hb:bU b) (h0:¬b= [48]):divQ a b=(numS (valQ a/valQ b),0):=by
 rw[show divQ a b=divf (valQ a) (valQ b) from oN ha hb divf]
 obtain ⟨p1,p2,p3⟩:=bT ha
 obtain ⟨q1,q2,q3⟩:=bT hb
 have m1:=mul8 p1 q2
 have m2:=mul8 q1 p2
 unfold divf
 rw[if_neg (fun e=>h0 (by rw[hb.1,e];exact yH)),cH (n:=(valQ a).num*(valQ b).den) (by omega),cH (n:=(valQ b).num*(valQ a).den) (by omega)]
 rfl
theorem b20 (a b:List UInt8):body Tryz.prog [q59,w93s,c54] {} true Tryz.f44 [S a,S b] (.tup [S (subQ a b).1,I (subQ a b).2]):=by
 by_cases h:nv2 a b
 ·have ha:=(cW h.1);have hb:=(cW h.2)
  rw[Hd ⟨ha.1,ha.2.2.2⟩ ⟨hb.1,hb.2.2.2⟩]
  (repeat' first|refine ZR ?_|refine Zg fun _=>?_)
  (conv=>whnf)
  (repeat' first|exact trivial|rfl|apply And.intro)
 ·(repeat refine ZR ?_)
  (conv=>whnf)
  (repeat' first|exact trivial|rfl|apply And.intro)
def c20:Con:=aH 44 true fun args K=>match args with | [.str a,.str b]=>K (.tup [S (subQ a b).1,I (subQ a b).2]) | _=>False
theorem k20:aF Tryz.prog c20:=by
 refine kO Tryz.func44 fun args K h=>?_
 simp only[c20] at h;split at h
 ·rename_i a b
  exact ⟨_,h,triB Tryz.func44 Tryz.ntmps44 (by simp[kq59,kw93s,k54]) (b20 a b)⟩
 ·exact h.elim
theorem b19 (a b:List UInt8):body Tryz.prog [q56,w57] {} true Tryz.f57 [S a,S b] (.tup [S (mulQ a b).1,I (mulQ a b).2]):=by
 by_cases h:nv2 a b
 ·have ha:=(cW h.1);have hb:=(cW h.2)
  rw[He ⟨ha.1,ha.2.2.2⟩ ⟨hb.1,hb.2.2.2⟩]
  (repeat' first|refine ZR ?_|refine Zg fun _=>?_)
  (conv=>whnf)
  (repeat' first|exact trivial|rfl|apply And.intro)
 ·(repeat refine ZR ?_)
  (conv=>whnf)
  (repeat' first|exact trivial|rfl|apply And.intro)
def c19:Con:=aH 57 true fun args K=>match args with | [.str a,.str b]=>K (.tup [S (mulQ a b).1,I (mulQ a b).2]) | _=>False
theorem k19:aF Tryz.prog c19:=by
 refine kO Tryz.func57 fun args K h=>?_
 simp only[c19] at h;split at h
 ·rename_i a b
  exact ⟨_,h,triB Tryz.func57 Tryz.ntmps57 (by simp[kq56,kw57]) (b19 a b)⟩
 ·exact h.elim
theorem b14 (a b:List UInt8):body Tryz.prog [q48,w50] {} true Tryz.f46 [S a,S b] (.tup [S (divQ a b).1,I (divQ a b).2]):=by
 by_cases h0:b= [48]
 ·(repeat refine ZR ?_)
  (conv=>whnf)
  (repeat' first|exact trivial|rfl|apply And.intro)
 ·by_cases h:nv2 a b
  ·have ha:=(cW h.1);have hb:=(cW h.2)
   rw[Hg ⟨ha.1,ha.2.2.2⟩ ⟨hb.1,hb.2.2.2⟩ h0]
   (repeat' first|refine ZR ?_|refine Zg fun _=>?_)
   (conv=>whnf)
   (repeat' first|exact trivial|rfl|apply And.intro)
  ·(repeat refine ZR ?_)
   (conv=>whnf)
   (repeat' first|exact trivial|rfl|apply And.intro)
def c14:Con:=aH 46 true fun args K=>match args with | [.str a,.str b]=>K (.tup [S (divQ a b).1,I (divQ a b).2]) | _=>False
theorem k14:aF Tryz.prog c14:=by
 refine kO Tryz.func46 fun args K h=>?_
 simp only[c14] at h;split at h
 ·rename_i a b
  exact ⟨_,h,triB Tryz.func46 Tryz.ntmps46 (by simp[kq48,kw50]) (b14 a b)⟩
 ·exact h.elim
def c21:Con:=aH 77 true fun args K=>match args with | [.str a]=>K (I (chkQ a)) | _=>False
theorem k21:aF Tryz.prog c21:=by
 refine kQ {} Tryz.func77 Tryz.ntmps77 (kc k46 kn) fun _ _ h=>?_
 split at h
 case h_2=>exact h.elim
 rename_i a
 refine kb h ?_
 by_cases h:chkQ a=0
 ·rw[h]
  (repeat' first|refine ZR ?_|refine Zg fun _=>?_)
  (conv=>whnf)
  (repeat' first|rfl|apply And.intro)
 ·(repeat refine ZR ?_)
  (conv=>whnf)
  (repeat' first|rfl|apply And.intro)
noncomputable def ofQ (n d:Int):List UInt8 × Int:=if d=0 then ([],12) else (numS (Rat.divInt n d),0)
theorem Sj (n:Int):numS (Rat.divInt n 1)=itoa n:=by
 rw[eD _ _ (by omega),show (1:Int).toNat=1 from rfl,Jj _ _ (by omega),Nat.gcd_one_left,if_pos rfl]
 simp
def c22:Con:=aH 11 true fun args K=>match args with | [.val (.int .i64 n),.val (.int .i64 d)]=>Need ((-9223372036854775808≤n∧n≤9223372036854775807)∧(-9223372036854775808≤d∧d≤9223372036854775807)) (K (.tup [S (ofQ n d).1,I (ofQ n d).2])) | _=>False
theorem k22:aF Tryz.prog c22:=by
 refine kQ {} Tryz.func11 Tryz.ntmps11 (kc k61 (kc k52 kn)) fun _ _ h=>?_
 split at h
 case h_2=>exact h.elim
 rename_i n d
 refine kb h.go ?_
 replace h:=h.ok
 obtain ⟨hn,hd⟩:=h
 unfold ofQ
 by_cases h0:d=0
 ·rw[if_pos h0]
  (repeat refine ZR ?_)
  (conv=>whnf)
  (repeat' first|exact trivial|rfl|apply And.intro)
 ·rw[if_neg h0]
  by_cases h1:d=1
  ·subst h1
   rw[Sj]
   (repeat refine ZR ?_)
   (conv=>whnf)
   (repeat' first|exact trivial|rfl|apply And.intro)
  ·have k1:=bI (cH (n:=n) (by omega))
   have k2:=bI (cH (n:=d) (by omega))
   have k3:valI (itoa d)≠0:=by rw[aT];exact h0
   rw[← nH]
   (repeat refine ZR ?_)
   (conv=>whnf)
   (repeat' first|exact trivial|rfl|apply And.intro)
noncomputable def flQ (a:List UInt8):List UInt8 × Int:=if chkQ a=0 then (itoa ((valQ a).num/(valQ a).den),0) else ([],chkQ a)
noncomputable def cmpf (p q:Rat):Int × Int:=if lim (p.num*q.den) || lim (q.num*p.den) then (0,4) else (cmpI (p.num*q.den) (q.num*p.den),0)
noncomputable def cmpQ (a b:List UInt8):Int × Int:=if chkQ a≠0 then (0,chkQ a) else if chkQ b≠0 then (0,chkQ b) else cmpf (valQ a) (valQ b)
def c77r:Con:=aH 53 true fun args K=>match args with
 | [.str a,.str b]=>Need (chkI a=0∧chkI b=0) (K (.tup [I (cmpI (valI a) (valI b)),I 0]))
 | _=>False
theorem k77r:aF Tryz.prog c77r:=by
 refine kO Tryz.func53 fun args K h=>?_
 simp only[c77r] at h;split at h
 ·rename_i a b
  obtain ⟨⟨ha,hb⟩,h⟩:=h
  have ht:=triB Tryz.func53 Tryz.ntmps53 (by simp[k94,k95,k98,k97,k76]) (b77 a b)
  unfold Jv chk2 at ht
  rw[ha,hb,if_neg (by simp)] at ht
  exact ⟨_,h,ht⟩
 ·exact h.elim
def c38:Con:=aH 12 true fun args K=>match args with | [.str a,.str b]=>K (.tup [I (cmpQ a b).1,I (cmpQ a b).2]) | _=>False
theorem k38:aF Tryz.prog c38:=by
 refine kQ {} Tryz.func12 Tryz.ntmps12 (kc k68 (kc k46 (kc k76 (kc k51 (kc k77r kn))))) fun _ _ h=>?_
 split at h
 case h_2=>exact h.elim
 rename_i a b
 refine kb h ?_
 unfold cmpQ
 by_cases hv:nv2 a b
 ·obtain ⟨na,nb⟩:=hv
  have ha:bU a:=⟨(cW na).1,(cW na).2.2.2⟩
  have hb:bU b:=⟨(cW nb).1,(cW nb).2.2.2⟩
  obtain ⟨p1,p2,p3⟩:=bT ha
  obtain ⟨q1,q2,q3⟩:=bT hb
  have m1:=mul8 p1 q2
  have m2:=mul8 q1 p2
  have e:cmpf (valQ a) (valQ b)=(cmpI ((valQ a).num*(valQ b).den) ((valQ b).num*(valQ a).den),0):=by
   unfold cmpf
   rw[cH (n:=(valQ a).num*(valQ b).den) (by omega),cH (n:=(valQ b).num*(valQ a).den) (by omega)]
   rfl
  rw[if_neg (by rw[gX ha];simp),if_neg (by rw[gX hb];simp),e]
  (repeat' first|refine ZR ?_|refine Zg fun _=>?_)
  (conv=>whnf)
  (repeat' first|exact trivial|rfl|apply And.intro)
 ·by_cases hca:chkQ a=0
  ·by_cases hcb:chkQ b=0
   ·rw[if_neg (by simpa using hca),if_neg (by simpa using hcb)]
    obtain ⟨r1,r2,r3⟩:=iS (dQ hca)
    obtain ⟨s1,s2,s3⟩:=iS (dQ hcb)
    have v1:=iZ (valQ a)
    have v2:=iK (valQ a)
    have v3:=iZ (valQ b)
    have v4:=iK (valQ b)
    by_cases hk:fF (pn (valQ a)) (pd (valQ a)) (pn (valQ b)) (pd (valQ b))
    ·have e:cmpf (valQ a) (valQ b)=(cmpI (valI (itoa (valI (pn (valQ a))*valI (pd (valQ b))))) (valI (itoa (valI (pn (valQ b))*valI (pd (valQ a))))),0):=by
      have hk2:=hk
      unfold fF at hk2
      simp only[iZ,iK,aT] at hk2 ⊢
      unfold cmpf
      rw[hk2.1,hk2.2]
      rfl
     rw[e]
     have k1:=bI hk.1
     have k2:=bI hk.2
     by_cases na:nvOK a
     ·have nb:¬nvOK b:=fun e=>hv ⟨na,e⟩
      (repeat'((conv=>whnf);first|refine Zg fun _=>?_|refine Zy ?_|refine Zm ?_|fail))
      refine Need.mk ⟨⟨r1,r2⟩,s1,s2⟩ ?_
      (repeat'((conv=>whnf);first|refine Zy ?_|refine Zm ?_|fail))
      refine Need.mk ⟨k1,k2⟩ ?_
      (conv=>whnf)
      (repeat' first|exact trivial|rfl|apply And.intro)
     ·(repeat'((conv=>whnf);first|refine Zg fun _=>?_|refine Zy ?_|refine Zm ?_|fail))
      refine Need.mk ⟨⟨r1,r2⟩,s1,s2⟩ ?_
      (repeat'((conv=>whnf);first|refine Zy ?_|refine Zm ?_|fail))
      refine Need.mk ⟨k1,k2⟩ ?_
      (conv=>whnf)
      (repeat' first|exact trivial|rfl|apply And.intro)
    ·have e:cmpf (valQ a) (valQ b)=(0,4):=by
      unfold fF at hk
      simp only[iZ,iK] at hk
      unfold cmpf
      rw[if_pos]
      apply Classical.byContradiction
      intro hn
      apply hk
      simp only[Bool.or_eq_true,not_or,Bool.not_eq_true] at hn
      exact hn
     rw[e]
     by_cases na:nvOK a
     ·have nb:¬nvOK b:=fun e=>hv ⟨na,e⟩
      (repeat'((conv=>whnf);first|refine Zg fun _=>?_|refine Zy ?_|refine Zm ?_|fail))
      refine Need.mk ⟨⟨r1,r2⟩,s1,s2⟩ ?_
      (repeat refine ZR ?_)
      (conv=>whnf)
      (repeat' first|exact trivial|rfl|apply And.intro)
     ·(repeat'((conv=>whnf);first|refine Zg fun _=>?_|refine Zy ?_|refine Zm ?_|fail))
      refine Need.mk ⟨⟨r1,r2⟩,s1,s2⟩ ?_
      (repeat refine ZR ?_)
      (conv=>whnf)
      (repeat' first|exact trivial|rfl|apply And.intro)
   ·rw[if_neg (by simpa using hca),if_pos hcb]
    by_cases na:nvOK a
    ·by_cases nb:nvOK b
     ·exact absurd ⟨na,nb⟩ hv
     ·(repeat' first|refine ZR ?_|refine Zg fun _=>?_)
      (conv=>whnf)
      (repeat' first|exact trivial|rfl|apply And.intro)
    ·(repeat' first|refine ZR ?_|refine Zg fun _=>?_)
     (conv=>whnf)
     (repeat' first|exact trivial|rfl|apply And.intro)
  ·rw[if_pos hca]
   by_cases na:nvOK a
   ·exact absurd (gX ⟨(cW na).1,(cW na).2.2.2⟩) hca
   ·(repeat refine ZR ?_)
    (conv=>whnf)
    (repeat' first|exact trivial|rfl|apply And.intro)
abbrev B6:Nat:=1000000
def c143:Con:=aH 258 true fun args K=>match args with | [.seq (.int .i64) l,.val (.int .i64 i)]=>Need (0≤i) (Ix i fun j=>K (I (l.getD j 0))) | _=>False
def c145:Con:=aH 260 false fun args K=>match args with | [.seq (.int .i64) a,.seq (.int .i64) b]=>Need (InB B6 a∧InB B6 b∧a.length≤100000∧b.length≤100000) (K (Ls (aD B6 (valB B6 a*valB B6 b).toNat))) | _=>False
end RB
end
section
namespace IB
end IB
end
section
open Go Go.Proofs Go.Eng Go.Shelf IB Go.Lib Go.RowKit
namespace RB
def c85:Con:=aH 195 true fun args K=>match args with | [.str s]=>Need ((∀c∈s,aY c)∧s.length≤18) (K (I (aK s))) | _=>False
noncomputable instance (s:List UInt8):Decidable (okD s):=Classical.propDecidable _
theorem i0:itoa (valB B6 [])= [48]:=by show itoa 0= [48];simp[itoa,decDigits]
def badQ (s:List UInt8):Prop:=60<s.length∨chkQ s≠0
noncomputable instance (s:List UInt8):Decidable (badQ s):=Classical.propDecidable _
def fineL (l:List (List UInt8)):Prop:=∀a∈l,a.length≤60∧chkQ a=0
noncomputable instance (l:List (List UInt8)):Decidable (fineL l):=Classical.propDecidable _
def Sz (k:Nat) (q:Rat):Prop:=q.num.natAbs<10^k∧q.den<10^k
theorem cX {i j:Nat} (h:i≤j):(10:Nat)^i≤10^j:=Nat.pow_le_pow_right (by omega) h
theorem Sz.mono {i j:Nat} {q:Rat} (h:Sz i q) (hij:i≤j):Sz j q:=
 ⟨Nat.lt_of_lt_of_le h.1 (cX hij),Nat.lt_of_lt_of_le h.2 (cX hij)⟩
theorem eJ {n k:Nat} (hk:0<k) (h:n<10^k):(decDigits n).length≤k:=by
 obtain ⟨m,rfl⟩:∃m,k=m+1:=⟨k-1,by omega⟩
 exact gM m n h
theorem cE {n:Int} {k:Nat} (hk:0<k∧k≤300) (h:n.natAbs<10^k):lim n=false:=by
 unfold lim
 have:=eJ hk.1 h
 simp;omega
theorem tD {n k:Nat} (h:(decDigits n).length≤k):n<10^k:=by
 have h1:=iF (decDigits n) (fun c hc=>kV _ c hc)
 rw[dC] at h1
 exact Nat.lt_of_lt_of_le h1 (cX h)
theorem kY {q:Rat} {k:Nat} (h:Sz k q) (hk:0<k∧k≤300):chkQ (numS q)=0:=by
 refine Ep (by rw[fR]) ?_ ?_
 ·rw[jR,cB]
  have:=eJ hk.1 h.1
  omega
 ·rw[pS]
  split
  ·simp
  ·have:=eJ hk.1 h.2
   simp;omega
theorem kZ {a b i j:Nat} (ha:a<10^i) (hb:b<10^j):a*b<10^ (i+j):=by
 rw[Nat.pow_add]
 exact Nat.mul_lt_mul'' ha hb
theorem nW (n:Int) (g:Nat):(n/(g:Int)).natAbs≤n.natAbs:=by
 rcases Nat.eq_zero_or_pos g with e | e
 ·subst e;simp
 ·have h1:(1:Int)≤g:=by omega
  rcases Int.le_total 0 n with h | h
  ·have h2:=Int.ediv_le_self (g:Int) h
   have h3:=Int.ediv_nonneg h (show (0:Int)≤g by omega)
   omega
  ·have h2:n/(g:Int)≤0:=by
    have:=Int.ediv_le_ediv (show (0:Int)<g by omega) h
    simpa using this
   have h3:n≤n/(g:Int):=by
    rw[Int.le_ediv_iff_mul_le (by omega)]
    have:=Int.mul_le_mul_of_nonpos_left (a:=n) h h1
    rw[Int.mul_one] at this
    omega
   omega
theorem yO {n:Int} {d k:Nat} (hd:d≠0) (h1:n.natAbs<10^k) (h2:d<10^k):Sz k (mkRat n d):=by
 refine ⟨?_,?_⟩
 ·rw[Rat.num_mkRat,if_neg hd]
  refine Nat.lt_of_le_of_lt ?_ h1
  exact nW _ _
 ·rw[Rat.den_mkRat,if_neg hd]
  exact Nat.lt_of_le_of_lt (Nat.div_le_self _ _) h2
theorem gF {x y:Int} {k:Nat} (hx:x.natAbs<10^k) (hy:y.natAbs<10^k):(x+y).natAbs<10^ (k+1)∧(x-y).natAbs<10^ (k+1):=by
 rw[Nat.pow_succ]
 omega
section
variable {p q:Rat} {i j:Nat}
theorem Sz.cross (hp:Sz i p) (hq:Sz j q):(p.num*q.den).natAbs<10^ (i+j)∧(q.num*p.den).natAbs<10^ (i+j)∧(p.num*q.num).natAbs<10^ (i+j)∧p.den*q.den<10^ (i+j):=by
 refine ⟨?_,?_,?_,kZ hp.2 hq.2⟩
 ·rw[Int.natAbs_mul];exact kZ hp.1 hq.2
 ·rw[Int.natAbs_mul,Nat.add_comm];exact kZ hq.1 hp.2
 ·rw[Int.natAbs_mul];exact kZ hp.1 hq.1
theorem Bl (p q:Rat):p.den*q.den≠0:=Nat.mul_ne_zero p.den_nz q.den_nz
theorem Sz.add (hp:Sz i p) (hq:Sz j q):Sz (i+j+1) (p+q):=by
 obtain ⟨h1,h2,h3,h4⟩:=hp.cross hq
 rw[Lf]
 exact yO (Bl p q) (gF h1 h2).1 (Nat.lt_of_lt_of_le h4 (cX (by omega)))
theorem Sz.sub (hp:Sz i p) (hq:Sz j q):Sz (i+j+1) (p-q):=by
 obtain ⟨h1,h2,h3,h4⟩:=hp.cross hq
 rw[qY]
 exact yO (Bl p q) (gF h1 h2).2 (Nat.lt_of_lt_of_le h4 (cX (by omega)))
theorem Sz.mul (hp:Sz i p) (hq:Sz j q):Sz (i+j) (p*q):=by
 obtain ⟨h1,h2,h3,h4⟩:=hp.cross hq
 rw[xW]
 exact yO (Bl p q) h3 h4
theorem qG {f:Rat→Rat→List UInt8 × Int} (hp:Sz i p) (hq:Sz j q) (hi:0<i∧i≤300) (hj:0<j∧j≤300):cS (numS p) (numS q) f=f p q:=by
 unfold cS
 rw[if_neg (by rw[kY hp hi];simp),if_neg (by rw[kY hq hj];simp),fR,fR]
theorem Sp (hp:Sz i p) (hq:Sz j q) (hi:0<i) (hj:0<j) (h:i+j+1≤300):addQ (numS p) (numS q)=(numS (p+q),0):=by
 obtain ⟨h1,h2,h3,h4⟩:=hp.cross hq
 unfold addQ
 rw[qG hp hq ⟨hi,by omega⟩ ⟨hj,by omega⟩,if_neg]
 simp only[Bool.or_eq_true,not_or,Bool.not_eq_true]
 exact ⟨⟨⟨cE ⟨by omega,by omega⟩ h1,cE ⟨by omega,by omega⟩ h2⟩,cE (k:=i+j+1) ⟨by omega,h⟩ (gF h1 h2).1⟩,cE (k:=i+j) ⟨by omega,by omega⟩ (by rw[← Int.natCast_mul,Int.natAbs_natCast];exact h4)⟩
theorem lB (hp:Sz i p) (hq:Sz j q) (hi:0<i) (hj:0<j) (h:i+j+1≤300):subQ (numS p) (numS q)=(numS (p-q),0):=by
 obtain ⟨h1,h2,h3,h4⟩:=hp.cross hq
 unfold subQ
 rw[qG hp hq ⟨hi,by omega⟩ ⟨hj,by omega⟩,if_neg]
 simp only[Bool.or_eq_true,not_or,Bool.not_eq_true]
 exact ⟨⟨⟨cE ⟨by omega,by omega⟩ h1,cE ⟨by omega,by omega⟩ h2⟩,cE (k:=i+j+1) ⟨by omega,h⟩ (gF h1 h2).2⟩,cE (k:=i+j) ⟨by omega,by omega⟩ (by rw[← Int.natCast_mul,Int.natAbs_natCast];exact h4)⟩
theorem Ke (hp:Sz i p) (hq:Sz j q) (hi:0<i) (hj:0<j) (h:i+j≤300):mulQ (numS p) (numS q)=(numS (p*q),0):=by
 obtain ⟨h1,h2,h3,h4⟩:=hp.cross hq
 unfold mulQ
 rw[qG hp hq ⟨hi,by omega⟩ ⟨hj,by omega⟩,if_neg]
 simp only[Bool.or_eq_true,not_or,Bool.not_eq_true]
 exact ⟨cE ⟨by omega,h⟩ h3,cE (k:=i+j) ⟨by omega,by omega⟩ (by rw[← Int.natCast_mul,Int.natAbs_natCast];exact h4)⟩
theorem gP (hp:Sz i p) (hq:Sz j q) (hi:0<i) (hj:0<j) (h:i+j≤300) (h0:q≠0):divQ (numS p) (numS q)=(numS (p/q),0):=by
 obtain ⟨h1,h2,h3,h4⟩:=hp.cross hq
 unfold divQ
 rw[qG hp hq ⟨hi,by omega⟩ ⟨hj,by omega⟩,if_neg h0,if_neg]
 simp only[Bool.or_eq_true,not_or,Bool.not_eq_true]
 exact ⟨cE ⟨by omega,h⟩ h1,cE ⟨by omega,h⟩ h2⟩
theorem Sq (hp:Sz i p) (hq:Sz j q) (hi:0<i) (hj:0<j) (h:i+j≤300):cmpQ (numS p) (numS q)=(cmpI (p.num*q.den) (q.num*p.den),0):=by
 obtain ⟨h1,h2,h3,h4⟩:=hp.cross hq
 unfold cmpQ
 rw[if_neg (by rw[kY hp ⟨hi,by omega⟩];simp),if_neg (by rw[kY hq ⟨hj,by omega⟩];simp),fR,fR]
 unfold cmpf
 rw[if_neg]
 simp only[Bool.or_eq_true,not_or,Bool.not_eq_true]
 exact ⟨cE ⟨by omega,h⟩ h1,cE ⟨by omega,h⟩ h2⟩
end
theorem rI {n:Int} {k:Nat} (h:n.natAbs<10^k) (hk:0<k):Sz k (n:Rat):=
 ⟨h,Nat.lt_of_lt_of_le (show 1<10^1 by decide) (cX hk)⟩
theorem bL (n:Int):numS (n:Rat)=itoa n:=by
 unfold numS
 rw[Rat.den_intCast,if_pos rfl,Rat.num_intCast]
theorem Qn (q:Rat):q.num/(q.den:Int)*(q.den:Int)≤q.num:=Int.ediv_mul_le _ (by have:=q.den_nz;omega)
theorem Qo (q:Rat):q.num<(q.num/(q.den:Int)+1)*(q.den:Int):=Int.lt_ediv_add_one_mul_self _ (by have:=q.den_pos;omega)
noncomputable def cmpR (p q:Rat):Int:=if p<q then -1 else if q<p then 1 else 0
theorem jB {p q:Rat} {i j:Nat} (hp:Sz i p) (hq:Sz j q) (hi:0<i) (hj:0<j) (h:i+j≤300):cmpQ (numS p) (numS q)=(cmpR p q,0):=by
 rw[Sq hp hq hi hj h]
 unfold cmpI cmpR
 rw[Prod.mk.injEq]
 refine ⟨?_,rfl⟩
 by_cases h1:p<q
 ·rw[if_pos h1,if_pos ((Rat.lt_iff p q).1 h1)]
 ·rw[if_neg h1,if_neg fun h=>h1 ((Rat.lt_iff p q).2 h)]
  by_cases h2:q<p
  ·have:=(Rat.lt_iff q p).1 h2
   rw[if_pos h2,if_neg (by omega)]
  ·have e1:¬p.num*(q.den:Int)<q.num*(p.den:Int):=fun h=>h1 ((Rat.lt_iff p q).2 h)
   have e2:¬q.num*(p.den:Int)<p.num*(q.den:Int):=fun h=>h2 ((Rat.lt_iff q p).2 h)
   rw[if_neg h2,if_pos (by omega)]
theorem Qp (p q:Rat):cmpR p q= -cmpR q p:=by
 unfold cmpR
 by_cases h1:p<q
 ·have h2:¬q<p:=Rat.not_lt.2 (Rat.le_of_lt h1)
  rw[if_pos h1,if_neg h2,if_pos h1]
 ·rw[if_neg h1]
  by_cases h2:q<p
  ·rw[if_pos h2,if_pos h2];rfl
  ·rw[if_neg h2,if_neg h2,if_neg h1];rfl
theorem Lx (p q:Rat):cmpR p q=0↔p=q:=by
 unfold cmpR
 constructor
 ·intro h
  split at h
  ·omega
  ·split at h
   ·omega
   ·rename_i h1 h2
    exact Rat.le_antisymm (Rat.not_lt.1 h2) (Rat.not_lt.1 h1)
 ·rintro rfl
  rw[if_neg Rat.lt_irrefl,if_neg Rat.lt_irrefl]
theorem tE (p q:Rat):cmpR p q≤0↔p≤q:=by
 unfold cmpR
 constructor
 ·intro h
  split at h
  ·rename_i h1;exact Rat.le_of_lt h1
  ·split at h
   ·omega
   ·rename_i h1 h2;exact Rat.not_lt.1 h2
 ·intro h
  split
  ·omega
  ·rw[if_neg (Rat.not_lt.2 h)];omega
theorem Bm (p q:Rat):cmpR p q<0↔p<q:=by
 unfold cmpR
 constructor
 ·intro h
  split at h
  ·assumption
  ·split at h<;>omega
 ·intro h
  rw[if_pos h];omega
def addS (p:Prop) (m:Nat) (q:Prop) (n:Nat) [Decidable p] [Decidable q]:Prop:=addP p m q n∧addN p m q n≠0
instance (p:Prop) (m:Nat) (q:Prop) (n:Nat) [Decidable p] [Decidable q]:Decidable (addS p m q n):=by unfold addS;infer_instance
def Kf (a:List UInt8):Prop:=(82<a.length∧a.length<602)∨700<a.length
instance (a:List UInt8):Decidable (Kf a):=by unfold Kf;infer_instance
theorem Sz.digs {q:Rat} (h:Sz 300 q):(decDigits q.num.natAbs).length≤300∧(decDigits q.den).length≤300:=⟨eJ (k:=300) (by decide) h.1,eJ (k:=300) (by decide) h.2⟩
def smR (q:Rat):Prop:=(decDigits q.num.natAbs).length≤9∧(q.den=1∨(decDigits q.den).length≤9)
instance (q:Rat):Decidable (smR q):=by unfold smR;infer_instance
def longL (l:List (List UInt8)):Prop:=(∃a∈l,Kf a)∨8<l.length
noncomputable instance (l:List (List UInt8)):Decidable (longL l):=Classical.propDecidable _
theorem Sr {a:List UInt8} {k:Nat} (h1:a.length≤k) (h2:chkQ a=0) (hk:0<k):a=numS (valQ a)∧Sz k (valQ a):=by
 obtain ⟨e,h3,h4⟩:=Ax h2
 refine ⟨e,?_,?_⟩
 ·refine tD ?_
  rw[e] at h1
  unfold numS at h1
  have h5:(decDigits (valQ a).num.natAbs).length≤(itoa (valQ a).num).length:=by
   unfold itoa
   split
   ·simp
   ·rw[show (valQ a).num.toNat=(valQ a).num.natAbs by omega];exact Nat.le_refl _
  split at h1
  ·omega
  ·simp at h1;omega
 ·rw[e] at h1
  unfold numS at h1
  split at h1
  ·rename_i e1
   rw[e1];exact Nat.one_lt_pow (by omega) (by decide)
  ·refine tD ?_
   simp at h1;omega
end RB
end
section
namespace RB
section
variable {ax ay az bx by' bz cx cy cz P Q R:Rat}
end
end RB
end
section
open Go Go.Proofs Go.Eng Go.Shelf IB Go.Lib Go.RowKit
namespace RB
def d36 (q:Rat):Prop:=(decDigits q.num.natAbs).length≤36∧(decDigits q.den).length≤36
instance (q:Rat):Decidable (d36 q):=inferInstanceAs (Decidable (_∧ _))
noncomputable def chkP (a:List UInt8):Int:=if chkQ a≠0 then chkQ a else if d36 (valQ a) then 0 else 4
def badP (l:List (List UInt8)):Prop:=∃a∈l,chkP a≠0
noncomputable instance (l:List (List UInt8)):Decidable (badP l):=Classical.propDecidable _
section
variable {p q r:Rat} {i j k:Nat}
end
noncomputable def hgt (a b c x y:List UInt8):Rat:=valQ a*valQ x+valQ b*valQ y+valQ c
section
variable (p:List UInt8→Prop) [DecidablePred p]
end
def badS (s:List UInt8):Prop:=12<s.length∨chkQ s≠0
noncomputable instance (s:List UInt8):Decidable (badS s):=Classical.propDecidable _
noncomputable instance:DecidablePred badS:=fun s=>Classical.propDecidable _
def notP (s:List UInt8):Prop:=chkP s≠0
noncomputable instance:DecidablePred notP:=fun s=>Classical.propDecidable _
def Ul (l:List (List UInt8)):Prop:=∀a∈l,a.length≤12∧chkQ a=0
noncomputable instance (l:List (List UInt8)):Decidable (Ul l):=Classical.propDecidable _
theorem Sz.up {k:Nat} {q:Rat} (h:Sz 12 q) (hk:12≤k):Sz k q:=h.mono hk
theorem Rr {p q:Rat} {k:Nat} (h1:(p.num*q.den).natAbs<10^k) (h2:(q.num*p.den).natAbs<10^k) (h0:q≠0):Sz k (p/q):=by
 have hq:q.num≠0:=fun h=>h0 (Rat.num_eq_zero.1 h)
 have hp:(0:Int)<p.den:=by have:=p.den_pos;omega
 rw[xY p q h0]
 rcases Int.lt_or_lt_of_ne hq with h | h
 ·have hd:(p.den:Int)*q.num<0:=Int.mul_neg_of_pos_of_neg hp h
  rw[oL _ _ hd]
  refine yO (by omega) (by rwa [Int.natAbs_neg]) ?_
  have:(-((p.den:Int)*q.num)).toNat=(q.num*p.den).natAbs:=by rw[Int.mul_comm q.num];omega
  rwa [this]
 ·have hd:0<(p.den:Int)*q.num:=Int.mul_pos hp h
  rw[eD _ _ hd]
  refine yO (by omega) h1 ?_
  have:((p.den:Int)*q.num).toNat=(q.num*p.den).natAbs:=by rw[Int.mul_comm q.num];omega
  rwa [this]
theorem Sz.div {p q:Rat} {i j:Nat} (hp:Sz i p) (hq:Sz j q) (h0:q≠0):Sz (i+j) (p/q):=Rr (hp.cross hq).1 (hp.cross hq).2.1 h0
section
variable {p q:Rat}
end
noncomputable def ckG (p:List UInt8):List (List UInt8)→Int
 | []=>0
 | a::r=>if chkQ a≠0 then chkQ a else if (cmpQ p a).2≠0 then (cmpQ p a).2 else if 0≤(cmpQ p a).1 then 10 else ckG a r
noncomputable def ckF:List (List UInt8)→Int
 | []=>0
 | a::r=>if chkQ a≠0 then chkQ a else ckG a r
theorem pQ (a:List UInt8) (r:List (List UInt8)):ckF (a::r)=if chkQ a≠0 then chkQ a else ckG a r:=rfl
theorem ltT {a b c:Rat} (h1:a<b) (h2:b<c):a<c:=Rat.not_le.1 fun h=>Rat.not_le.2 h1 (Rat.le_trans (Rat.le_of_lt h2) h)
noncomputable def ckS (l:List (List UInt8)):Int:=if 4096<l.length then 4 else ckF l
noncomputable def ckAt (l:List (List UInt8)):Nat→Int
 | 0=>ckF l
 | i+1=>ckG (l.getD i []) (l.drop (i+1))
theorem sT {α:Type} {l:List α} {i:Nat} (d:α) (h:i<l.length):l.drop i=l.getD i d::l.drop (i+1):=by
 rw[List.drop_eq_getElem_cons h]
 simp[List.getD_eq_getElem?_getD,h]
theorem Nv (l:List (List UInt8)):ckAt l l.length=0:=by
 cases l with
 | nil=>rfl
 | cons a r=>
  show ckG _ (List.drop (r.length+1) (a::r))=0
  rw[List.drop_eq_nil_of_le (by simp)];rfl
section
variable {l:List (List UInt8)} {i:Nat}
theorem Nw (h:i<l.length) (h1:chkQ (l.getD i [])≠0):ckAt l i=chkQ (l.getD i []):=by
 cases i with
 | zero=>
  cases l with
  | nil=>simp at h
  | cons a r=>have h1:chkQ a≠0:=h1;show ckF (a::r)= _;rw[pQ,if_pos h1];rfl
 | succ i=>
  show ckG _ (l.drop (i+1))= _
  rw[sT [] h];unfold ckG;rw[if_pos h1]
theorem Nx (h:i+1<l.length) (h1:chkQ (l.getD (i+1) [])=0) (h2:(cmpQ (l.getD i []) (l.getD (i+1) [])).2≠0):ckAt l (i+1)=(cmpQ (l.getD i []) (l.getD (i+1) [])).2:=by
 show ckG _ (l.drop (i+1))= _
 rw[sT [] h];unfold ckG;rw[if_neg (fun h=>h h1),if_pos h2]
theorem Ny (h:i+1<l.length) (h1:chkQ (l.getD (i+1) [])=0) (h2:(cmpQ (l.getD i []) (l.getD (i+1) [])).2=0) (h3:0≤(cmpQ (l.getD i []) (l.getD (i+1) [])).1):ckAt l (i+1)=10:=by
 show ckG _ (l.drop (i+1))= _
 rw[sT [] h];unfold ckG;rw[if_neg (fun h=>h h1),if_neg (fun h=>h h2),if_pos h3]
theorem Nz (h:0<l.length) (h1:chkQ (l.getD 0 [])=0):ckAt l 1=ckAt l 0:=by
 cases l with
 | nil=>simp at h
 | cons a r=>
  have h1:chkQ a=0:=h1
  show ckG a r=ckF (a::r)
  rw[pQ,if_neg (fun h=>h h1)]
theorem Rd (h:i+1<l.length) (h1:chkQ (l.getD (i+1) [])=0) (h2:(cmpQ (l.getD i []) (l.getD (i+1) [])).2=0) (h3:¬0≤(cmpQ (l.getD i []) (l.getD (i+1) [])).1):ckAt l (i+2)=ckAt l (i+1):=by
 show ckG _ (l.drop (i+2))=ckG _ (l.drop (i+1))
 rw[sT [] h]
 conv=>rhs;unfold ckG
 rw[if_neg (fun h=>h h1),if_neg (fun h=>h h2),if_neg h3]
end
abbrev Asc (qs:List Rat):Prop:=qs.Pairwise (· < ·)
theorem Jd {k:Nat} (hk:0<k∧k≤150):∀(qs:List Rat) {p:Rat},Sz k p→(∀q∈qs,Sz k q)→(ckG (numS p) (qs.map numS)=0↔Asc (p::qs))
 | [],p,_,_=>by simp[ckG,Asc]
 | q::qs,p,hp,hq=>by
  have hq1:=hq q (List.mem_cons_self ..)
  have e1:=kY hq1 ⟨hk.1,by omega⟩
  have e2:=jB hp hq1 hk.1 hk.1 (by omega)
  have ih:=Jd hk qs hq1 fun x hx=>hq x (List.mem_cons_of_mem _ hx)
  simp only[List.map_cons,ckG]
  rw[if_neg (fun h=>h e1),e2,if_neg (fun h=>h rfl)]
  dsimp only
  by_cases h:p<q
  ·have h1:=(Bm p q).2 h
   rw[if_neg (by omega),ih]
   unfold Asc
   rw[List.pairwise_cons (a:=p)]
   refine ⟨fun h2=>⟨fun x hx=>?_,h2⟩,fun h2=>h2.2⟩
   rcases List.mem_cons.1 hx with rfl | hx
   ·exact h
   ·exact ltT h ((List.pairwise_cons.1 h2).1 x hx)
  ·have h1:¬cmpR p q<0:=fun h2=>h ((Bm p q).1 h2)
   rw[if_pos (by omega)]
   refine ⟨fun h2=>absurd h2 (by decide),fun h2=>absurd ((List.pairwise_cons.1 h2).1 q (List.mem_cons_self ..)) h⟩
theorem Re {k:Nat} (hk:0<k∧k≤150) (qs:List Rat) (hq:∀q∈qs,Sz k q):ckF (qs.map numS)=0↔Asc qs:=by
 cases qs with
 | nil=>simp[ckF,Asc]
 | cons q qs=>
  have hq1:=hq q (List.mem_cons_self ..)
  have e1:=kY hq1 ⟨hk.1,by omega⟩
  simp only[List.map_cons,pQ]
  rw[if_neg (fun h=>h e1)]
  exact Jd hk qs hq1 fun x hx=>hq x (List.mem_cons_of_mem _ hx)
theorem Je:∀ {l:List (List UInt8)} {p:List UInt8},ckG p l=0→∀a∈l,chkQ a=0
 | [],_,_,a,ha=>by simp at ha
 | x::r,p,h,a,ha=>by
  unfold ckG at h
  split at h
  ·rename_i h1;exact absurd h h1
  rename_i h1
  split at h
  ·rename_i h2;exact absurd h h2
  split at h
  ·exact absurd h (by decide)
  rcases List.mem_cons.1 ha with rfl | ha
  ·exact Classical.not_not.1 h1
  ·exact Je h a ha
theorem Rf {l:List (List UInt8)} (h:ckF l=0):∀a∈l,chkQ a=0:=by
 cases l with
 | nil=>intro a ha;simp at ha
 | cons x r=>
  rw[pQ] at h
  split at h
  ·rename_i h1;exact absurd h h1
  rename_i h1
  intro a ha
  rcases List.mem_cons.1 ha with rfl | ha
  ·exact Classical.not_not.1 h1
  ·exact Je h a ha
theorem Gl {l:List (List UInt8)} (h:ckS l=0):l.length≤4096∧ckF l=0:=by
 unfold ckS at h
 split at h
 ·exact absurd h (by decide)
 ·exact ⟨by omega,h⟩
def Wt (k:Nat) (q:Rat):Prop:=q.num.natAbs*q.den<10^k
theorem wt_of {a:List UInt8} {k:Nat} (h1:a.length≤k) (h2:chkQ a=0):Wt k (valQ a):=by
 obtain ⟨e,_,_⟩:=Ax h2
 rw[e] at h1
 unfold numS at h1
 have h5:(decDigits (valQ a).num.natAbs).length≤(itoa (valQ a).num).length:=by
  unfold itoa
  split
  ·simp
  ·rw[show (valQ a).num.toNat=(valQ a).num.natAbs by omega];exact Nat.le_refl _
 have h6:=tD (Nat.le_refl (decDigits (valQ a).num.natAbs).length)
 unfold Wt
 split at h1
 ·rename_i e1
  rw[e1,Nat.mul_one]
  exact Nat.lt_of_lt_of_le h6 (cX (by omega))
 ·have h7:=tD (Nat.le_refl (decDigits (valQ a).den).length)
  simp at h1
  have h8:=Nat.mul_lt_mul'' h6 h7
  rw[← Nat.pow_add] at h8
  exact Nat.lt_of_lt_of_le h8 (cX (by omega))
theorem Lc (n:Int) {d:Nat} (hd:d≠0):(mkRat n d).num.natAbs≤n.natAbs∧(mkRat n d).den≤d:=by
 rw[Rat.num_mkRat,if_neg hd,Rat.den_mkRat,if_neg hd]
 exact ⟨nW _ _,Nat.div_le_self _ _⟩
theorem Wt.sub {p q:Rat} {k:Nat} (hp:Wt k p) (hq:Wt k q) (sp:p.den<10^k) (sq:q.den<10^k):Wt (3*k+1) (p-q):=by
 unfold Wt at hp hq ⊢
 rw[qY]
 obtain ⟨h1,h2⟩:=Lc (p.num*q.den-q.num*p.den) (Bl p q)
 refine Nat.lt_of_le_of_lt (Nat.mul_le_mul h1 h2) ?_
 have e1:(p.num*q.den-q.num*p.den).natAbs≤p.num.natAbs*q.den+q.num.natAbs*p.den:=by
  refine Nat.le_trans (Int.natAbs_sub_le _ _) ?_
  rw[Int.natAbs_mul,Int.natAbs_mul,Int.natAbs_natCast,Int.natAbs_natCast]
  exact Nat.le_refl _
 refine Nat.lt_of_le_of_lt (Nat.mul_le_mul_right _ e1) ?_
 have e2:(p.num.natAbs*q.den+q.num.natAbs*p.den)*(p.den*q.den)=(p.num.natAbs*p.den)*(q.den*q.den)+(q.num.natAbs*q.den)*(p.den*p.den):=by
  rw[Nat.add_mul]
  congr 1<;>ac_rfl
 rw[e2]
 have a1:(p.num.natAbs*p.den)*(q.den*q.den)<10^k*(10^k*10^k):=Nat.mul_lt_mul'' hp (Nat.mul_lt_mul'' sq sq)
 have a2:(q.num.natAbs*q.den)*(p.den*p.den)<10^k*(10^k*10^k):=Nat.mul_lt_mul'' hq (Nat.mul_lt_mul'' sp sp)
 have e3:10^ (3*k+1)=10*(10^k*(10^k*10^k)):=by
  rw[← Nat.pow_add,← Nat.pow_add,Nat.pow_succ,Nat.mul_comm]
  congr 2;omega
 rw[e3]
 omega
noncomputable def gapN (l:List (List UInt8)) (n:Nat):List (List UInt8):=(List.range n).map fun j=>(subQ (l.getD (j+1) []) (l.getD j [])).1
theorem Ld (l:List (List UInt8)) (n:Nat):gapN l (n+1)=gapN l n++ [(subQ (l.getD (n+1) []) (l.getD n [])).1]:=by
 unfold gapN;rw[List.range_succ,List.map_append];rfl
theorem jN {α:Type} {l:List α} {i:Nat} {d:α} (h:i<l.length):l.getD i d∈l:=by
 simp[List.getD_eq_getElem?_getD,h]
def rgP (a b:List UInt8):Prop:=(cmpQ a b).2=0∧(cmpQ a b).1≤0
noncomputable instance (a b:List UInt8):Decidable (rgP a b):=Classical.propDecidable _
theorem Rh {a b:List UInt8} (h:rgP a b):chkQ a=0∧chkQ b=0:=by
 have h1:=h.1
 unfold cmpQ at h1
 split at h1
 ·rename_i h2;exact absurd h1 h2
 rename_i h2
 split at h1
 ·rename_i h3;exact absurd h1 h3
 rename_i h3
 exact ⟨Classical.not_not.1 h2,Classical.not_not.1 h3⟩
noncomputable def inR (lo hi a:List UInt8):Bool:=decide ((cmpQ lo a).1≤0∧(cmpQ a hi).1≤0)
theorem Eg {α:Type} (p:α→Bool) {l:List α} {i:Nat} (d:α) (h:i<l.length):(l.take (i+1)).filter p=(l.take i).filter p++(if p (l.getD i d) then [l.getD i d] else []):=by
 have e:l.take (i+1)=l.take i++ [l.getD i d]:=by
  rw[List.take_succ_eq_append_getElem h]
  simp[List.getD_eq_getElem?_getD,h]
 rw[e,List.filter_append]
 by_cases hp:p (l.getD i d)=true
 ·rw[if_pos hp,List.filter_cons_of_pos hp,List.filter_nil]
 ·rw[if_neg hp,List.filter_cons_of_neg hp,List.filter_nil]
def flI (q:Rat):Int:=q.num/(q.den:Int)
theorem vK (q:Rat):((flI q:Int):Rat)≤q:=by
 rw[Rat.le_iff,Rat.num_intCast,Rat.den_intCast]
 have:=Qn q
 unfold flI
 simpa using this
theorem Au (q:Rat):q<((flI q+1:Int):Rat):=by
 rw[Rat.lt_iff,Rat.num_intCast,Rat.den_intCast]
 have:=Qo q
 unfold flI
 simpa using this
def clI (q:Rat):Int:=if ((flI q:Int):Rat)=q then flI q else flI q+1
theorem Ob (q:Rat):q≤((clI q:Int):Rat):=by
 unfold clI
 split
 ·rename_i h;rw[h];exact Rat.le_refl
 ·exact Rat.le_of_lt (Au q)
theorem Uf (q:Rat):((clI q-1:Int):Rat)<q:=by
 unfold clI
 split
 ·rename_i h
  have e:((flI q-1:Int):Rat)=((flI q:Int):Rat)-1:=by rw[Rat.intCast_sub];rfl
  rw[e,h]
  exact Rat.sub_lt_iff.2 (by grind)
 ·rename_i h
  rw[show flI q+1-1=flI q by omega]
  exact Rat.not_le.1 fun h'=>h (Rat.le_antisymm (vK q) h')
theorem Ri {q:Rat} (h:0<q):0<clI q:=by
 have h1:=Ob q
 have h2:(0:Rat)<((clI q:Int):Rat):=Rat.not_le.1 fun h'=>Rat.not_le.2 h (Rat.le_trans h1 h')
 exact Rat.intCast_pos.1 h2
def mF (lo hi most:Rat):Rat:=(hi-lo)/(clI ((hi-lo)/most):Int)
section
variable {lo hi most:Rat}
theorem Oc {a b:Rat} (ha:0<a) (hb:0<b):0<a/b:=by
 have e:a/b*b=a:=Rat.div_mul_cancel (by grind)
 refine Rat.not_le.1 fun h=>?_
 have:=Rat.mul_le_mul_of_nonneg_right (c:=b) h (Rat.le_of_lt hb)
 rw[e,Rat.zero_mul] at this
 exact Rat.not_le.2 ha this
theorem Ug (h:lo<hi) (hm:0<most):0<clI ((hi-lo)/most):=Ri (Oc (by grind) hm)
end
section
variable {α:Type} [DecidableEq α]
end
def bS (L O S:Rat):Int:=flI ((O-L)/S)
def kN (H O S:Rat):Int:=flI ((H-O)/S)
def iQ (L O S:Rat):Rat:=O-((bS L O S:Int):Rat)*S
def Av (L H O S:Rat):Int:=bS L O S+kN H O S+1
theorem Od {n:Int} {q:Rat}:(n:Rat)≤q↔n≤flI q:=by
 constructor
 ·intro h
  have h1:=Au q
  have h2:(n:Rat)<((flI q+1:Int):Rat):=Rat.not_le.1 fun h'=>Rat.not_le.2 h1 (Rat.le_trans h' h)
  have:=Rat.intCast_lt_intCast.1 h2
  omega
 ·intro h
  exact Rat.le_trans (Rat.intCast_le_intCast.2 h) (vK q)
theorem vL {a b s:Rat} (hs:0<s):a≤b/s↔a*s≤b:=by
 have e:b/s*s=b:=Rat.div_mul_cancel (by grind)
 constructor
 ·intro h
  have:=Rat.mul_le_mul_of_nonneg_right (c:=s) h (Rat.le_of_lt hs)
  rwa [e] at this
 ·intro h
  refine Rat.not_lt.1 fun hlt=>?_
  have:=Rat.mul_lt_mul_of_pos_right hlt hs
  rw[e] at this
  exact Rat.not_le.2 this h
theorem at_in {L H O S:Rat} (hs:0<S) (i:Nat):iQ L O S+S*((i:Int):Rat)≤H↔(i:Int)<Av L H O S:=by
 have e1:((i:Int)-bS L O S)≤flI ((H-O)/S)↔(((i:Int)-bS L O S:Int):Rat)*S≤H-O:=by rw[← Od,vL hs]
 have e2:(((i:Int)-bS L O S:Int):Rat)=((i:Int):Rat)-((bS L O S:Int):Rat):=Rat.intCast_sub _ _
 rw[e2] at e1
 have e3:(((i:Int):Rat)-((bS L O S:Int):Rat))*S≤H-O↔iQ L O S+S*((i:Int):Rat)≤H:=by
  unfold iQ
  rw[Rat.le_iff_sub_nonneg,Rat.le_iff_sub_nonneg (a:=O- _+ _)]
  have:H-O-(((i:Int):Rat)-((bS L O S:Int):Rat))*S=H-(O-((bS L O S:Int):Rat)*S+S*((i:Int):Rat)):=by grind
  rw[this]
 rw[← e3,← e1]
 unfold Av kN
 omega
theorem Uh {L O S:Rat} (hs:0<S):L≤iQ L O S∧iQ L O S<L+S:=by
 have h1:((bS L O S:Int):Rat)≤(O-L)/S:=vK _
 rw[vL hs] at h1
 have h2:¬((bS L O S+1:Int):Rat)≤(O-L)/S:=Rat.not_le.2 (Au _)
 rw[vL hs] at h2
 have e:((bS L O S+1:Int):Rat)=((bS L O S:Int):Rat)+1:=Rat.intCast_add _ _
 rw[e] at h2
 have h2:=Rat.not_le.1 h2
 unfold iQ
 generalize ((bS L O S:Int):Rat)=k at*
 constructor
 ·rw[Rat.le_iff_sub_nonneg] at h1 ⊢
  have:O-k*S-L=O-L-k*S:=by grind
  rwa [this]
 ·rw[Rat.lt_iff_sub_pos] at h2 ⊢
  have:L+S-(O-k*S)=(k+1)*S-(O-L):=by grind
  rwa [this]
section
variable {p q:Rat} {k:Nat}
theorem kR {a b:Nat} (hb:b≠0):a≤a*b:=Nat.le_mul_of_pos_right a (Nat.pos_of_ne_zero hb)
theorem Oe (h1:p.num.natAbs*q.den<10^k) (h2:q.num.natAbs*p.den<10^k) (h3:p.den*q.den<10^k):Sz k p∧Sz k q:=by
 have n1:=q.den_nz
 have n2:=p.den_nz
 exact ⟨⟨Nat.lt_of_le_of_lt (kR n1) h1,Nat.lt_of_le_of_lt (kR n1) h3⟩,⟨Nat.lt_of_le_of_lt (kR n2) h2,Nat.lt_of_le_of_lt (by rw[Nat.mul_comm];exact kR n2) h3⟩⟩
theorem Ui (hk:0<k∧k+1≤300) (h1:p.num.natAbs*q.den<10^k) (h2:q.num.natAbs*p.den<10^k) (h3:p.den*q.den<10^k):addQ (numS p) (numS q)=(numS (p+q),0):=by
 obtain ⟨zp,zq⟩:=Oe h1 h2 h3
 have e1:(p.num*q.den).natAbs<10^k:=by rw[Int.natAbs_mul,Int.natAbs_natCast];exact h1
 have e2:(q.num*p.den).natAbs<10^k:=by rw[Int.natAbs_mul,Int.natAbs_natCast];exact h2
 unfold addQ
 rw[qG zp zq ⟨hk.1,by omega⟩ ⟨hk.1,by omega⟩,if_neg]
 simp only[Bool.or_eq_true,not_or,Bool.not_eq_true]
 exact ⟨⟨⟨cE ⟨hk.1,by omega⟩ e1,cE ⟨hk.1,by omega⟩ e2⟩,cE (k:=k+1) ⟨by omega,hk.2⟩ (gF e1 e2).1⟩,cE ⟨hk.1,by omega⟩ (by rw[← Int.natCast_mul,Int.natAbs_natCast];exact h3)⟩
end
theorem Gm (q:Rat):((q.num:Int):Rat)=q*((q.den:Nat):Rat):=by
 have h:((q.den:Nat):Rat)≠0:=by
  have:=q.den_pos
  have:=Rat.natCast_pos.2 this
  exact fun e=>Rat.lt_irrefl (e ▸ this)
 have e:q=(q.num:Rat)/((q.den:Nat):Rat):=by
  conv=>lhs;rw[← Rat.mkRat_self q,Rat.mkRat_eq_div]
 conv=>rhs;lhs;rw[e]
 rw[Rat.div_mul_cancel h]
theorem qV (q:Rat):(0:Rat)≤((q.den:Nat):Rat):=Rat.natCast_nonneg
theorem Uj {x H S:Rat} (c:Nat) (h:x≤H+(c:Rat)*S):x.num*(H.den*S.den:Nat)≤(H.num*S.den+c*S.num*H.den)*x.den:=by
 apply Rat.intCast_le_intCast.1
 simp only[Rat.intCast_mul,Rat.intCast_add,Rat.intCast_natCast,Rat.natCast_mul,Gm]
 have:=Rat.mul_le_mul_of_nonneg_right (c:=((x.den:Nat):Rat)*(((H.den:Nat):Rat)*((S.den:Nat):Rat))) h (Rat.mul_nonneg (qV x) (Rat.mul_nonneg (qV H) (qV S)))
 grind
noncomputable def gpG (l:List (List UInt8)):Nat→Nat→List (List UInt8) × Int
 | 0,i=>(gapN l i,0)
 | n+1,i=>if (subQ (l.getD (i+1) []) (l.getD i [])).2≠0 then ([],(subQ (l.getD (i+1) []) (l.getD i [])).2) else gpG l n (i+1)
noncomputable def gpS (l:List (List UInt8)):List (List UInt8) × Int:=if ckS l≠0 then ([],1) else gpG l (l.length-1) 0
theorem Of {l:List (List UInt8)} {i:Nat} (hi:i+1<l.length) (h:(subQ (l.getD (i+1) []) (l.getD i [])).2=0):gpG l (l.length-1-i) i=gpG l (l.length-1-(i+1)) (i+1):=by
 obtain ⟨n,e⟩:∃n,l.length-1-i=n+1:=⟨l.length-1-i-1,by omega⟩
 rw[e,show l.length-1-(i+1)=n by omega]
 exact if_neg fun h'=>h' h
theorem Rj {l:List (List UInt8)} {i:Nat} (hi:i+1<l.length) (h:(subQ (l.getD (i+1) []) (l.getD i [])).2≠0):gpG l (l.length-1-i) i=([],(subQ (l.getD (i+1) []) (l.getD i [])).2):=by
 obtain ⟨n,e⟩:∃n,l.length-1-i=n+1:=⟨l.length-1-i-1,by omega⟩
 rw[e]
 exact if_pos h
theorem Rk {l:List (List UInt8)} {i:Nat} (hi:l.length≤i+1):gpG l (l.length-1-i) i=(gapN l i,0):=by
 rw[show l.length-1-i=0 by omega];rfl
def Lm (l:List (List UInt8)):Prop:=∀a∈l,chkQ a=0→a.length≤82
theorem Lm.at {l:List (List UInt8)} (h:Lm l) {i:Nat} (hi:i<l.length) (hk:chkQ (l.getD i [])=0):(l.getD i []).length≤82:=h _ (jN hi) hk
theorem Te {a:List UInt8} (h1:chkQ a=0) (h2:a.length≤82):a=numS (valQ a)∧Sz 82 (valQ a)∧Wt 82 (valQ a):=by
 obtain ⟨e,z⟩:=Sr h2 h1 (by decide)
 exact ⟨e,z,wt_of h2 h1⟩
theorem Tf {a b:List UInt8} (h1:chkQ a=0) (h2:a.length≤82) (h3:chkQ b=0) (h4:b.length≤82):cmpQ a b=(cmpR (valQ a) (valQ b),0):=by
 obtain ⟨e1,z1,_⟩:=Te h1 h2
 obtain ⟨e2,z2,_⟩:=Te h3 h4
 conv=>lhs;rw[e1,e2]
 exact jB z1 z2 (by decide) (by decide) (by decide)
noncomputable def wiS (l:List (List UInt8)) (lo hi:List UInt8):List (List UInt8) × Int:=if ckS l≠0∨¬rgP lo hi then ([],1) else (l.filter (inR lo hi),0)
theorem bt2 {A B D l h s t N:Nat} (hl:0<l) (hD:1≤D) (hDt:D*t≤100*(s*l*h)) (hB:B*l≤D+A*h) (h1:A*l<N) (h2:B*h<N) (h3:s*t<N):B*(t*t)≤200*(N*N)*h:=by
 have hN:1≤N:=by omega
 by_cases hc:2*(A*h)≤B*l
 ·have e1:B*l≤2*D:=by omega
  have e2:(B*l)*t≤(2*D)*t:=Nat.mul_le_mul_right _ e1
  have e3:(2*D)*t=2*(D*t):=Nat.mul_assoc ..
  have e4:(B*t)*l≤(200*(s*h))*l:=by
   have e5:(B*t)*l=(B*l)*t:=by ac_rfl
   have e6:(200*(s*h))*l=200*(s*l*h):=by ac_rfl
   rw[e5,e6];omega
  have e7:B*t≤200*(s*h):=Nat.le_of_mul_le_mul_right e4 hl
  have e8:(B*t)*t≤(200*(s*h))*t:=Nat.mul_le_mul_right _ e7
  have e9:(200*(s*h))*t=200*((s*t)*h):=by ac_rfl
  have e10:(s*t)*h≤(N*N)*h:=Nat.mul_le_mul_right _ (Nat.le_trans (Nat.le_of_lt h3) (Nat.le_mul_of_pos_right N hN))
  have e11:200*(N*N)*h=200*((N*N)*h):=Nat.mul_assoc ..
  have e12:B*(t*t)=(B*t)*t:=(Nat.mul_assoc ..).symm
  omega
 ·have q:B*l<2*N:=by
   refine Nat.lt_of_not_le fun hq=>?_
   have f1:(2*N)*(2*N)≤(B*l)*(B*l):=Nat.mul_le_mul hq hq
   have f2:(B*l)*(B*l)≤(B*l)*(2*(A*h)):=Nat.mul_le_mul_left _ (by omega)
   have f3:(B*l)*(2*(A*h))=2*((B*h)*(A*l)):=by ac_rfl
   have f4:(B*h)*(A*l)≤N*N:=Nat.mul_le_mul (Nat.le_of_lt h2) (Nat.le_of_lt h1)
   have f5:(2*N)*(2*N)=4*(N*N):=by rw[show 4=2*2 from rfl];ac_rfl
   have f6:1*1≤N*N:=Nat.mul_le_mul hN hN
   omega
  have g1:t≤D*t:=Nat.le_mul_of_pos_left t hD
  have g2:(B*t)*t≤(B*t)*(100*(s*l*h)):=Nat.mul_le_mul_left _ (Nat.le_trans g1 hDt)
  have g3:(B*t)*(100*(s*l*h))=100*(((s*t)*(B*l))*h):=by ac_rfl
  have g4:(s*t)*(B*l)≤N*(2*N):=Nat.mul_le_mul (Nat.le_of_lt h3) (Nat.le_of_lt q)
  have g5:((s*t)*(B*l))*h≤(N*(2*N))*h:=Nat.mul_le_mul_right _ g4
  have g6:(N*(2*N))*h=2*((N*N)*h):=by ac_rfl
  have g7:200*(N*N)*h=200*((N*N)*h):=Nat.mul_assoc ..
  have g8:B*(t*t)=(B*t)*t:=(Nat.mul_assoc ..).symm
  omega
abbrev N82:Nat:=10^82
structure AtH (L H O S:Rat):Prop where
 wL:Wt 82 L
 wH:Wt 82 H
 wS:Wt 82 S
 zL:Sz 82 L
 zH:Sz 82 H
 zO:Sz 82 O
 zS:Sz 82 S
 le:L≤H
 pos:0<S
 few:H≤L+((100:Nat):Rat)*S
section
variable {L H O S:Rat}
theorem sU {q:Rat} (h:0<q):0<q.num:=by
 have:=(Rat.lt_iff 0 q).1 h
 simpa using this
theorem AtH.t2 (h:AtH L H O S) (hlt:L<H):H.num.natAbs*(S.den*S.den)≤200*(N82*N82)*H.den∧L.num.natAbs*(S.den*S.den)≤200*(N82*N82)*L.den:=by
 have hs:=sU h.pos
 have h1:=(Rat.lt_iff L H).1 hlt
 have h2:=Uj 100 h.few
 have hl:=L.den_pos
 have hh:=H.den_pos
 have eX:(H.num*L.den).natAbs=H.num.natAbs*L.den:=by rw[Int.natAbs_mul,Int.natAbs_natCast]
 have eY:(L.num*H.den).natAbs=L.num.natAbs*H.den:=by rw[Int.natAbs_mul,Int.natAbs_natCast]
 obtain ⟨D,hD⟩:∃D:Nat,(D:Int)=H.num*L.den-L.num*H.den:=⟨(H.num*L.den-L.num*H.den).toNat,by omega⟩
 have hD1:1≤D:=by omega
 have hDt:D*S.den≤100*(S.num.natAbs*L.den*H.den):=by
  have es:((S.num.natAbs:Nat):Int)=S.num:=by omega
  have:((D*S.den:Nat):Int)≤((100*(S.num.natAbs*L.den*H.den):Nat):Int):=by
   push_cast
   rw[es,hD]
   push_cast at h2
   grind
  exact Int.ofNat_le.1 this
 have b1:H.num.natAbs*L.den≤D+L.num.natAbs*H.den:=by rw[← eX,← eY];omega
 have b2:L.num.natAbs*H.den≤D+H.num.natAbs*L.den:=by rw[← eX,← eY];omega
 refine ⟨bt2 hl hD1 hDt b1 h.wL h.wH h.wS,bt2 hh hD1 (Nat.le_trans hDt (Nat.le_of_eq (by ac_rfl))) b2 h.wH h.wL h.wS⟩
theorem Td {P Q S:Rat} (zP:Sz 82 P) (zQ:Sz 82 Q) (zS:Sz 82 S) (hS:0<S):(flI ((P-Q)/S)).natAbs*S.num.natAbs<10^165:=by
 have hs:=sU hS
 have es:((S.num.natAbs:Nat):Int)=S.num:=by omega
 have k1:((flI ((P-Q)/S):Int):Rat)*S≤P-Q:=(vL hS).1 (vK _)
 have k2:P-Q≤((flI ((P-Q)/S)+1:Int):Rat)*S:=by
  have:=Rat.le_of_lt (Rat.not_le.1 fun h=>Rat.not_le.2 (Au ((P-Q)/S)) ((vL hS).2 h))
  exact this
 generalize flI ((P-Q)/S)=k at*
 have hP:=P.den_pos
 have hQ:=Q.den_pos
 have nn:(0:Rat)≤((S.den:Nat):Rat)*(((P.den:Nat):Rat)*((Q.den:Nat):Rat)):=Rat.mul_nonneg (qV S) (Rat.mul_nonneg (qV P) (qV Q))
 have i1:k*S.num*(P.den*Q.den:Nat)≤(P.num*Q.den-Q.num*P.den)*S.den:=by
  apply Rat.intCast_le_intCast.1
  simp only[Rat.intCast_mul,Rat.intCast_sub,Rat.intCast_natCast,Rat.natCast_mul,Gm]
  have:=Rat.mul_le_mul_of_nonneg_right k1 nn
  grind
 have i2:(P.num*Q.den-Q.num*P.den)*S.den≤(k+1)*S.num*(P.den*Q.den:Nat):=by
  apply Rat.intCast_le_intCast.1
  rw[Rat.intCast_mul,Rat.intCast_mul ((k+1)*S.num),Rat.intCast_mul (k+1),Rat.intCast_sub]
  simp only[Rat.intCast_mul,Rat.intCast_natCast,Rat.natCast_mul,Gm]
  have:=Rat.mul_le_mul_of_nonneg_right k2 nn
  grind
 have m1:P.num.natAbs*Q.den≤P.num.natAbs*(P.den*Q.den):=Nat.mul_le_mul_left _ (Nat.le_mul_of_pos_left _ hP)
 have m2:Q.num.natAbs*P.den≤Q.num.natAbs*(P.den*Q.den):=Nat.mul_le_mul_left _ (Nat.le_mul_of_pos_right _ hQ)
 have a1:(P.num*Q.den).natAbs=P.num.natAbs*Q.den:=by rw[Int.natAbs_mul,Int.natAbs_natCast]
 have a2:(Q.num*P.den).natAbs=Q.num.natAbs*P.den:=by rw[Int.natAbs_mul,Int.natAbs_natCast]
 have m3:(P.num*Q.den-Q.num*P.den).natAbs≤(P.num.natAbs+Q.num.natAbs)*(P.den*Q.den):=by
  rw[Nat.add_mul];omega
 have m4:((P.num*Q.den-Q.num*P.den)*S.den).natAbs≤((P.num.natAbs+Q.num.natAbs)*S.den)*(P.den*Q.den):=by
  rw[Int.natAbs_mul,Int.natAbs_natCast]
  refine Nat.le_trans (Nat.mul_le_mul_right _ m3) (Nat.le_of_eq (by ac_rfl))
 have hd:0<P.den*Q.den:=Nat.mul_pos hP hQ
 have key:k.natAbs*S.num.natAbs≤(P.num.natAbs+Q.num.natAbs)*S.den+S.num.natAbs:=by
  by_cases hk:0≤k
  ·have f1:(k*S.num*(P.den*Q.den:Nat)).natAbs=(k.natAbs*S.num.natAbs)*(P.den*Q.den):=by rw[Int.natAbs_mul,Int.natAbs_mul,Int.natAbs_natCast]
   have f2:0≤k*S.num*(P.den*Q.den:Nat):=Int.mul_nonneg (Int.mul_nonneg hk (by omega)) (by omega)
   have f3:(k.natAbs*S.num.natAbs)*(P.den*Q.den)≤((P.num.natAbs+Q.num.natAbs)*S.den)*(P.den*Q.den):=by rw[← f1];omega
   have:=Nat.le_of_mul_le_mul_right f3 hd
   omega
  ·have f1:((k+1)*S.num*(P.den*Q.den:Nat)).natAbs=((k+1).natAbs*S.num.natAbs)*(P.den*Q.den):=by rw[Int.natAbs_mul,Int.natAbs_mul,Int.natAbs_natCast]
   have f2:(k+1)*S.num*(P.den*Q.den:Nat)≤0:=Int.mul_nonpos_of_nonpos_of_nonneg (Int.mul_nonpos_of_nonpos_of_nonneg (by omega) (by omega)) (by omega)
   have f3:((k+1).natAbs*S.num.natAbs)*(P.den*Q.den)≤((P.num.natAbs+Q.num.natAbs)*S.den)*(P.den*Q.den):=by rw[← f1];omega
   have f4:=Nat.le_of_mul_le_mul_right f3 hd
   have f5:k.natAbs=(k+1).natAbs+1:=by omega
   rw[f5,Nat.add_mul,Nat.one_mul]
   omega
 have d1:(P.num.natAbs+Q.num.natAbs)*S.den≤(10^82+10^82)*10^82:=Nat.mul_le_mul (Nat.add_le_add (Nat.le_of_lt zP.1) (Nat.le_of_lt zQ.1)) (Nat.le_of_lt zS.2)
 have d2:=zS.1
 have d3:(10^82+10^82)*10^82+10^82<10^165:=by decide
 omega
end
theorem As {q:Rat} {k:Nat} (h:Sz k q) (hk:0<k∧k≤300):flQ (numS q)=(itoa (flI q),0):=by
 unfold flQ
 rw[if_pos (kY h hk),fR];rfl
section
variable {L H O S:Rat}
noncomputable abbrev atX (L O S:Rat) (i:Nat):Rat:=iQ L O S+S*((i:Int):Rat)
theorem AtH.f1 (h:AtH L H O S):subQ (numS O) (numS L)=(numS (O-L),0):=lB h.zO h.zL (by decide) (by decide) (by decide)
theorem AtH.f4 (h:AtH L H O S):subQ (numS H) (numS O)=(numS (H-O),0):=lB h.zH h.zO (by decide) (by decide) (by decide)
theorem eU {S:Rat} (h:0<S):S≠0:=fun e=>Rat.lt_irrefl (e ▸ h)
theorem AtH.f2 (h:AtH L H O S):divQ (numS (O-L)) (numS S)=(numS ((O-L)/S),0):=gP (h.zO.sub h.zL) h.zS (by decide) (by decide) (by decide) (eU h.pos)
theorem AtH.f5 (h:AtH L H O S):divQ (numS (H-O)) (numS S)=(numS ((H-O)/S),0):=gP (h.zH.sub h.zO) h.zS (by decide) (by decide) (by decide) (eU h.pos)
theorem AtH.f3 (h:AtH L H O S):flQ (numS ((O-L)/S))=(itoa (bS L O S),0):=As ((h.zO.sub h.zL).div h.zS (eU h.pos)) ⟨by decide,by decide⟩
theorem AtH.f6 (h:AtH L H O S):flQ (numS ((H-O)/S))=(itoa (kN H O S),0):=As ((h.zH.sub h.zO).div h.zS (eU h.pos)) ⟨by decide,by decide⟩
theorem AtH.below (h:AtH L H O S):(bS L O S).natAbs*S.num.natAbs<10^165∧(bS L O S).natAbs<10^165:=by
 have h1:=Td h.zO h.zL h.zS h.pos
 have hs:=sU h.pos
 exact ⟨h1,Nat.lt_of_le_of_lt (Nat.le_mul_of_pos_right _ (by omega)) h1⟩
theorem AtH.above (h:AtH L H O S):(kN H O S).natAbs<10^165:=by
 have h1:=Td h.zH h.zO h.zS h.pos
 have hs:=sU h.pos
 exact Nat.lt_of_le_of_lt (Nat.le_mul_of_pos_right _ (by omega)) h1
theorem AtH.f7 (h:AtH L H O S):addQ (itoa (bS L O S)) (itoa (kN H O S))=(itoa (bS L O S+kN H O S),0):=by
 have:=Ui (p:=((bS L O S:Int):Rat)) (q:=((kN H O S:Int):Rat)) (k:=165) ⟨by decide,by decide⟩ (by rw[Rat.num_intCast,Rat.den_intCast,Nat.mul_one];exact h.below.2) (by rw[Rat.num_intCast,Rat.den_intCast,Nat.mul_one];exact h.above) (by rw[Rat.den_intCast,Rat.den_intCast];decide)
 rwa [← Rat.intCast_add,bL,bL,bL] at this
theorem AtH.in (h:AtH L H O S) {i:Nat} (hi:(i:Int)<Av L H O S):L≤atX L O S i∧atX L O S i≤H:=by
 refine ⟨?_,(at_in h.pos i).2 hi⟩
 have h1:=(Uh (L:=L) (O:=O) h.pos).1
 have h2:0≤S*((i:Int):Rat):=Rat.mul_nonneg (Rat.le_of_lt h.pos) (Rat.intCast_nonneg.2 (by omega))
 show L≤iQ L O S+ _
 generalize S*((i:Int):Rat)=u at*
 grind
end
structure EvH (L H M:Rat):Prop where
 zL:Sz 82 L
 zH:Sz 82 H
 zM:Sz 82 M
 lt:L<H
 pos:0<M
section
variable {L H M:Rat}
noncomputable abbrev evC (L H M:Rat):Int:=clI ((H-L)/M)
theorem EvH.e1 (h:EvH L H M):subQ (numS H) (numS L)=(numS (H-L),0):=lB h.zH h.zL (by decide) (by decide) (by decide)
theorem EvH.e2 (h:EvH L H M):divQ (numS (H-L)) (numS M)=(numS ((H-L)/M),0):=gP (h.zH.sub h.zL) h.zM (by decide) (by decide) (by decide) (eU h.pos)
theorem EvH.sq (h:EvH L H M):Sz 247 ((H-L)/M):=(h.zH.sub h.zL).div h.zM (eU h.pos)
theorem EvH.e3 (h:EvH L H M):flQ (numS ((H-L)/M))=(itoa (flI ((H-L)/M)),0):=As h.sq ⟨by decide,by decide⟩
theorem EvH.cpos (h:EvH L H M):0<evC L H M:=Ug h.lt h.pos
theorem sz4 {n:Int} (h0:0≤n) (h:n≤5000):Sz 4 (n:Rat):=rI (by have:(10:Nat)^4=10000:=(by decide);omega) (by decide)
theorem EvH.st (h:EvH L H M) (hc:evC L H M≤4095):Sz 169 (mF L H M):=by
 have h0:=h.cpos
 have h1:0<clI ((H-L)/M):=h0
 have h2:clI ((H-L)/M)≤4095:=hc
 refine (h.zH.sub h.zL).div (sz4 (by omega) (by omega)) fun e=>?_
 have:=Rat.intCast_eq_zero_iff.1 e
 omega
theorem EvH.e4 (h:EvH L H M) (hc:evC L H M≤4095):divQ (numS (H-L)) (itoa (evC L H M))=(numS (mF L H M),0):=by
 have h0:=h.cpos
 have:=gP (h.zH.sub h.zL) (sz4 (n:=evC L H M) (by omega) (by omega)) (by decide) (by decide) (by decide) (fun e=>by
  have:=Rat.intCast_eq_zero_iff.1 e
  omega)
 rwa [bL] at this
theorem EvH.e5 (h:EvH L H M) (hc:evC L H M≤4095) {k:Nat} (hk:k≤5000):mulQ (numS (mF L H M)) (itoa k)=(numS (mF L H M*((k:Int):Rat)),0):=by
 have:=Ke (h.st hc) (sz4 (n:=(k:Int)) (by omega) (by omega)) (by decide) (by decide) (by decide)
 rwa [bL] at this
theorem EvH.e6 (h:EvH L H M) (hc:evC L H M≤4095) {k:Nat} (hk:k≤5000):addQ (numS L) (numS (mF L H M*((k:Int):Rat)))=(numS (L+mF L H M*((k:Int):Rat)),0):=
 Sp h.zL ((h.st hc).mul (sz4 (n:=(k:Int)) (by omega) (by omega))) (by decide) (by decide) (by decide)
theorem Ud (q:Rat):flI (-q)= -clI q:=by
 apply Int.le_antisymm
 ·have h1:=vK (-q)
  have h2:q≤((-flI (-q):Int):Rat):=by rw[Rat.intCast_neg];exact Rat.le_neg_iff.1 (by grind)
  have h3:=Uf q
  have h4:((clI q-1:Int):Rat)<((-flI (-q):Int):Rat):=Rat.not_le.1 fun h=>Rat.not_le.2 h3 (Rat.le_trans h2 h)
  have:=Rat.intCast_lt_intCast.1 h4
  omega
 ·rw[← Od,Rat.intCast_neg]
  exact Rat.neg_le_neg (Ob q)
theorem EvH.r1 (h:EvH L H M):subQ (numS L) (numS H)=(numS (L-H),0):=lB h.zL h.zH (by decide) (by decide) (by decide)
theorem EvH.r2 (h:EvH L H M):divQ (numS (L-H)) (numS M)=(numS ((L-H)/M),0):=gP (h.zL.sub h.zH) h.zM (by decide) (by decide) (by decide) (eU h.pos)
theorem neg_q:(L-H)/M= -((H-L)/M):=by
 rw[Rat.div_def,Rat.div_def,← Rat.neg_mul]
 congr 1
 grind
theorem EvH.sq' (h:EvH L H M):Sz 247 ((L-H)/M):=(h.zL.sub h.zH).div h.zM (eU h.pos)
theorem EvH.r3 (h:EvH L H M):flQ (numS ((L-H)/M))=(itoa (-evC L H M),0):=by
 rw[As h.sq' ⟨by decide,by decide⟩,neg_q,Ud]
theorem EvH.r4 (h:EvH L H M) (hc:evC L H M≤4095):divQ (numS (L-H)) (itoa (-evC L H M))=(numS (mF L H M),0):=by
 have h0:=h.cpos
 have z:Sz 4 ((-evC L H M:Int):Rat):=rI (by have:(10:Nat)^4=10000:=(by decide);omega) (by decide)
 have:=gP (h.zL.sub h.zH) z (by decide) (by decide) (by decide) (fun e=>by
  have:=Rat.intCast_eq_zero_iff.1 e
  omega)
 rw[bL] at this
 rw[this]
 unfold mF
 have hc0:((evC L H M:Int):Rat)≠0:=fun e=>by
  have:=Rat.intCast_eq_zero_iff.1 e
  omega
 have e1:(H-L)/((evC L H M:Int):Rat)*((evC L H M:Int):Rat)=H-L:=Rat.div_mul_cancel hc0
 have hc1:((-evC L H M:Int):Rat)≠0:=fun e=>by
  have:=Rat.intCast_eq_zero_iff.1 e
  omega
 have e2:(L-H)/((-evC L H M:Int):Rat)*((-evC L H M:Int):Rat)=L-H:=Rat.div_mul_cancel hc1
 rw[Rat.intCast_neg] at e2 ⊢
 have e3:((L-H) / -((evC L H M:Int):Rat)-(H-L)/((evC L H M:Int):Rat))*((evC L H M:Int):Rat)=0:=by grind
 rcases Rat.mul_eq_zero.1 e3 with e | e
 ·congr 2
  show _=(H-L)/((evC L H M:Int):Rat)
  grind
 ·exact absurd e hc0
end
def grS1 (a:List UInt8):Prop:=Kf a∨(82<a.length∧chkQ a=0)
def grtS (l:List (List UInt8)):Prop:=(∃a∈l,grS1 a)∨16<l.length
noncomputable instance (l:List (List UInt8)):Decidable (grtS l):=Classical.propDecidable _
theorem Lm.sub {l m:List (List UInt8)} (h:Lm l) (hs:∀a∈m,a∈l):Lm m:=fun a ha=>h a (hs a ha)
def Oa (s:List UInt8):Prop:=20<s.length∨chkQ s≠0
noncomputable instance (s:List UInt8):Decidable (Oa s):=Classical.propDecidable _
noncomputable instance:DecidablePred Oa:=fun s=>Classical.propDecidable _
def shS (l:List (List UInt8)):Prop:=∀a∈l,a.length≤20∧chkQ a=0
noncomputable instance (l:List (List UInt8)):Decidable (shS l):=Classical.propDecidable _
def fineS (l:List (List UInt8)):Prop:=(l.length≤16∧shS l)∧ckS l=0
noncomputable instance (l:List (List UInt8)):Decidable (fineS l):=Classical.propDecidable _
theorem Ue {qs:List Rat} {k:Nat} (hk:0<k∧k≤150) (hq:∀q∈qs,Sz k q) (ha:Asc qs) (hl:qs.length≤4096):ckS (qs.map numS)=0:=by
 unfold ckS
 rw[if_neg (by rw[List.length_map];omega)]
 exact (Re hk qs hq).2 ha
def mnP (q:List UInt8):Prop:=(cmpQ q [53,48,48,48]).2=0∧0<(cmpQ q [53,48,48,48]).1
noncomputable instance (q:List UInt8):Decidable (mnP q):=Classical.propDecidable _
def fwP (lo hi s:List UInt8):Prop:=(subQ hi lo).2≠0∨(divQ (subQ hi lo).1 s).2≠0∨(cmpQ (divQ (subQ hi lo).1 s).1 [49,48,48]).2≠0∨(cmpQ (divQ (subQ hi lo).1 s).1 [49,48,48]).1≤0∨mnP (divQ (subQ hi lo).1 s).1
noncomputable instance (lo hi s:List UInt8):Decidable (fwP lo hi s):=Classical.propDecidable _
theorem itoaN (n:Nat):itoa (n:Int)=decDigits n:=by
 unfold itoa
 rw[if_neg (by omega),Int.toNat_natCast]
theorem iP (n:Nat):numS ((n:Int):Rat)=decDigits n:=by rw[bL,itoaN]
theorem n4:numS 4= [52]:=(iP 4).trans (bJ (by decide))
theorem Rg {L H:Rat} {k:Nat} (zL:Sz k L) (zH:Sz k H) (hk:0<k∧k≤150):rgP (numS L) (numS H)↔L≤H:=by
 unfold rgP
 rw[jB zL zH hk.1 hk.1 (by omega)]
 have h1:=Bm H L
 have h2:=Qp H L
 constructor
 ·intro h
  refine Rat.not_lt.1 fun hlt=>?_
  have:=h1.2 hlt
  have:=h.2
  dsimp only at this
  omega
 ·intro h
  have:¬cmpR H L<0:=fun h'=>Rat.not_le.2 (h1.1 h') h
  exact ⟨rfl,by dsimp only;omega⟩
theorem Pc {n d:Int} {k:Nat} (hd:0<d) (h1:n.natAbs<10^k) (h2:d.natAbs<10^k):Sz k (Rat.divInt n d):=by
 rw[eD n d hd]
 exact yO (by omega) h1 (by omega)
theorem dv_lt {a b c d:Int} (hb:0<b) (hd:0<d):Rat.divInt a b<Rat.divInt c d↔a*d<c*b:=by
 have hb':(0:Rat)<(b:Rat):=Rat.intCast_pos.2 hb
 have hd':(0:Rat)<(d:Rat):=Rat.intCast_pos.2 hd
 rw[Rat.divInt_eq_div,Rat.divInt_eq_div,Rat.lt_div_iff hd']
 have e:(a:Rat)/(b:Rat)*(d:Rat)=((a*d:Int):Rat)/(b:Rat):=by
  rw[Rat.intCast_mul,Rat.div_def,Rat.div_def];grind
 rw[e,Rat.div_lt_iff hb',← Rat.intCast_mul,Rat.intCast_lt_intCast]
theorem Gx {n d:Int} (hd:0<d):ofQ n d=(numS (Rat.divInt n d),0):=by unfold ofQ;rw[if_neg (by omega)]
def fdI:List (List Sid)→Nat→Nat × Nat
 | [],n=>(0,n)
 | r::R,n=>if n<r.length then (0,n) else ((fdI R (n-r.length)).1+1,(fdI R (n-r.length)).2)
theorem mJ (r:List Sid) (R:List (List Sid)):∀m,cnt (r::R) (m+1)=r.length+cnt R m
 | 0=>by simp[cnt]
 | m+1=>by
  rw[cnt,mJ r R m,cnt]
  simp[Nat.add_assoc]
theorem mK:∀(R:List (List Sid)) (n:Nat),n<cnt R R.length→(fdI R n).1<R.length∧(fdI R n).2<(R.getD (fdI R n).1 []).length∧cnt R (fdI R n).1+(fdI R n).2=n
 | [],n,h=>absurd h (by simp[cnt])
 | r::R,n,h=>by
  rw[List.length_cons,mJ] at h
  unfold fdI
  by_cases e:n<r.length
  ·rw[if_pos e]
   exact ⟨by simp,by simpa using e,by simp[cnt]⟩
  ·rw[if_neg e]
   obtain ⟨h1,h2,h3⟩:=mK R (n-r.length) (by omega)
   refine ⟨by simpa using h1,by simpa using h2,?_⟩
   dsimp only
   rw[mJ]
   omega
theorem vS:∀R:List (List Sid),R.flatten.length=cnt R R.length
 | []=>rfl
 | r::R=>by rw[List.flatten_cons,List.length_append,vS R,List.length_cons,mJ]
theorem Bg:∀(R:List (List Sid)) (m i:Nat),m<R.length→i<(R.getD m []).length→R.flatten.getD (cnt R m+i) sd0=(R.getD m []).getD i sd0
 | [],m,i,h,_=>absurd h (by simp)
 | r::R,0,i,_,h=>by
  have h:i<r.length:=by simpa using h
  simp[cnt,List.getD_eq_getElem?_getD,List.getElem?_append_left h]
 | r::R,m+1,i,h,h2=>by
  have h2:i<(R.getD m []).length:=by simpa using h2
  have:=Bg R m i (by simpa using h) h2
  rw[mJ,List.flatten_cons]
  rw[show (r::R).getD (m+1) []=R.getD m [] by simp]
  rw[← this]
  simp[List.getD_eq_getElem?_getD,List.getElem?_append_right (show r.length≤r.length+cnt R m+i by omega),show r.length+cnt R m+i-r.length=cnt R m+i by omega]
theorem Gy {R:List (List Sid)} (h:∀r∈R,0<r.length) {m n:Nat} (h1:m<n) (h2:n≤R.length):cnt R m<cnt R n:=by
 have:=mH R (show m+1≤n by omega)
 have hm:=h _ (jN (d:=[]) (show m<R.length by omega))
 rw[cnt] at this
 omega
def firI (R:List (List Sid)) (n:Nat):Nat:=cnt R (fdI R n).1
def prvI (R:List (List Sid)) (n:Nat):Nat:=cnt R (fdI R n).1+bfI (R.getD (fdI R n).1 []).length (fdI R n).2
def nexI (R:List (List Sid)) (n:Nat):Nat:=cnt R (fdI R n).1+nxI (R.getD (fdI R n).1 []).length (fdI R n).2
theorem Rv {R:List (List Sid)} {n:Nat} (h:n<cnt R R.length):nexI R n<cnt R R.length:=by
 obtain ⟨h1,h2,h3⟩:=mK R n h
 have:=vP h2
 have h4:=mH R (show (fdI R n).1+1≤R.length by omega)
 rw[cnt] at h4
 unfold nexI
 omega
def sidA (R:List (List Sid)) (k:Nat):Sid:=R.flatten.getD k sd0
def lowE (R:List (List Sid)) (k:Nat):Int:=if (sidA R k).1=(sidA R (nexI R k)).1 then min (sidA R k).2.1 (sidA R (nexI R k)).2.1 else min (sidA R k).1 (sidA R (nexI R k)).1
def higE (R:List (List Sid)) (k:Nat):Int:=if (sidA R k).1=(sidA R (nexI R k)).1 then max (sidA R k).2.1 (sidA R (nexI R k)).2.1 else max (sidA R k).1 (sidA R (nexI R k)).1
theorem vT {R:List (List Sid)} (h:bZ R=0) {k:Nat} (hk:k<cnt R R.length):0≤lowE R k∧lowE R k<higE R k∧higE R k≤65536:=by
 obtain ⟨h1,h2,h3,h4,h5⟩:=iI h
 obtain ⟨a1,a2,a3⟩:=mK R k hk
 have hr:R.getD (fdI R k).1 []∈R:=jN a1
 have n2:=vP a2
 have e1:sidA R k=(R.getD (fdI R k).1 []).getD (fdI R k).2 sd0:=by
  have:=Bg R (fdI R k).1 (fdI R k).2 a1 a2
  rw[a3] at this
  exact this
 have e2:sidA R (nexI R k)=(R.getD (fdI R k).1 []).getD (nxI (R.getD (fdI R k).1 []).length (fdI R k).2) sd0:=Bg R (fdI R k).1 _ a1 n2
 have q1:ranP (sidA R k):=by rw[e1];exact h4 _ hr _ (jN a2)
 have q2:ranP (sidA R (nexI R k)):=by rw[e2];exact h4 _ hr _ (jN n2)
 have hs:=((h5 _ hr).2 _ a2).1
 unfold nxS owS at hs
 rw[← e1,← e2] at hs
 have q1:=q1.2
 have q2:=q2.2
 unfold lowE higE
 generalize sidA R k=a at*
 generalize sidA R (nexI R k)=b at*
 split
 ·rename_i e
  have:¬b.2.1-a.2.1=0:=hs.1 (by omega)
  omega
 ·rename_i e
  omega
open Classical in
noncomputable def eavE (R:List (List Sid)) (k:Int) (g:Prop):Int × Int × Int:=
 if bZ R≠0 then (0,0,1)
 else if (k<0∨(cnt R R.length:Int)≤k)∨¬g then (0,0,2)
 else if (sidA R k.toNat).2.2.2.2.1=true then (0,0,8)
 else (lowE R k.toNat,higE R k.toNat,0)
def mdR (l h:Int) (p k:Nat):Rat:=Rat.divInt (2*(p:Int)*l+(2*(k:Int)+1)*(h-l)) (2*(p:Int))
def wayR (l h:Int) (p:Nat):Rat:=Rat.divInt (h-l) (2*(p:Int))
theorem oM {l h:Int} {p:Nat} (k:Nat) (hp:0<p):mdR l h p k=(l:Rat)+(2*(k:Rat)+1)*wayR l h p:=by
 have hq:((2*(p:Int):Int):Rat)≠0:=by
  intro e
  have:=Rat.intCast_eq_zero_iff.1 e
  omega
 have hi:=Rat.mul_inv_cancel _ hq
 unfold mdR wayR
 rw[Rat.divInt_eq_div,Rat.divInt_eq_div,Rat.div_def,Rat.div_def]
 rw[show ((2*(p:Int)*l+(2*(k:Int)+1)*(h-l):Int):Rat)=((2*(p:Int):Int):Rat)*(l:Rat)+(2*(k:Rat)+1)*((h-l:Int):Rat) by
  rw[Rat.intCast_add,Rat.intCast_mul,Rat.intCast_mul (2*(k:Int)+1),Rat.intCast_add,Rat.intCast_mul 2 (k:Int)];rfl]
 generalize ((2*(p:Int):Int):Rat)=d at*
 generalize ((h-l:Int):Rat)=e
 generalize d⁻¹ =v at*
 grind
noncomputable def outL (l h:Int) (p:Nat):List (List UInt8):=(List.range p).map fun k=>numS (mdR l h p k)
def mids (l h:Int) (p:Nat):List Rat:=(List.range p).map fun k=>mdR l h p k
theorem Lo (l h:Int) (p:Nat):outL l h p=(mids l h p).map numS:=by simp[outL,mids]
theorem jU (l h:Int) (p:Nat):(outL l h p).length=p:=by simp[outL]
theorem Pd (l h:Int) (p:Nat):(mids l h p).length=p:=by simp[mids]
theorem qA (l h:Int) {p k:Nat} (hk:k<p):(outL l h p).getD k []=numS (mdR l h p k):=by simp[outL,List.getD_eq_getElem?_getD,hk]
structure Eav (l h:Int) (p:Nat):Prop where
 lo:0≤l
 lh:l<h
 hi:h≤65536
 p0:0<p
 p1:p≤4096
section
variable {l h:Int} {p:Nat}
theorem Eav.pr (e:Eav l h p) {k:Nat} (hk:k<p):(0≤(2*(k:Int)+1)*(h-l)∧(2*(k:Int)+1)*(h-l)≤2*(p:Int)*65536)∧0≤2*(p:Int)*l∧2*(p:Int)*l≤2*(p:Int)*65536:=by
 have:=e.lo;have:=e.lh;have:=e.hi
 refine ⟨⟨Int.mul_nonneg (by omega) (by omega),?_⟩,Int.mul_nonneg (by omega) (by omega),Int.mul_le_mul_of_nonneg_left (by omega) (by omega)⟩
 exact Int.mul_le_mul (by omega) (by omega) (by omega) (by omega)
theorem Eav.szm (e:Eav l h p) {k:Nat} (hk:k<p):Sz 10 (mdR l h p k):=by
 have h1:=e.pr hk
 have h2:=e.p0
 have h3:=e.p1
 have:(10:Nat)^10=10000000000:=(by decide)
 exact Pc (by omega) (by omega) (by omega)
theorem Eav.szw (e:Eav l h p):Sz 10 (wayR l h p):=by
 have h2:=e.p0
 have h3:=e.p1
 have:=e.lo;have:=e.lh;have:=e.hi
 have:(10:Nat)^10=10000000000:=(by decide)
 exact Pc (by omega) (by omega) (by omega)
theorem Eav.szi (e:Eav l h p):Sz 10 (l:Rat)∧Sz 10 (h:Rat):=by
 have:=e.lo;have:=e.lh;have:=e.hi
 have:(10:Nat)^10=10000000000:=(by decide)
 exact ⟨rI (by omega) (by decide),rI (by omega) (by decide)⟩
theorem Eav.sz (e:Eav l h p):∀q∈mids l h p,Sz 10 q:=by
 intro q hq
 simp only[mids,List.mem_map,List.mem_range] at hq
 obtain ⟨k,hk,rfl⟩:=hq
 exact e.szm hk
theorem Eav.wpos (e:Eav l h p):0<wayR l h p:=by
 unfold wayR
 have h2:=e.p0
 have h1:=e.lh
 rw[Rat.divInt_eq_div,Rat.div_def]
 exact Rat.mul_pos (Rat.intCast_pos.2 (by omega)) (Rat.inv_pos.2 (Rat.intCast_pos.2 (by omega)))
theorem Eav.whole (e:Eav l h p):(l:Rat)+2*(p:Rat)*wayR l h p=(h:Rat):=by
 have h2:=e.p0
 have hq:((2*(p:Int):Int):Rat)≠0:=by
  intro e
  have:=Rat.intCast_eq_zero_iff.1 e
  omega
 have hi:=Rat.mul_inv_cancel _ hq
 unfold wayR
 rw[Rat.divInt_eq_div,Rat.div_def]
 have e1:((h-l:Int):Rat)=(h:Rat)-(l:Rat):=Rat.intCast_sub _ _
 have e2:((2*(p:Int):Int):Rat)=2*(p:Rat):=by rw[Rat.intCast_mul];rfl
 rw[e1]
 rw[← e2]
 generalize ((2*(p:Int):Int):Rat)=d at*
 generalize d⁻¹ =v at*
 grind
theorem Eav.asc (e:Eav l h p):Asc (mids l h p):=by
 unfold mids Asc
 rw[List.pairwise_map]
 refine List.Pairwise.imp ?_ List.pairwise_lt_range
 intro a b hab
 rw[oM a e.p0,oM b e.p0]
 have hw:=e.wpos
 have hab':(a:Rat)<(b:Rat):=Rat.natCast_lt_natCast.2 hab
 have:=Rat.mul_pos (a:=(b:Rat)-(a:Rat)) (b:=wayR l h p) (by grind) hw
 grind
theorem Eav.chk (e:Eav l h p):ckS (outL l h p)=0:=by
 rw[Lo]
 exact Ue (k:=10) (by decide) e.sz e.asc (by rw[Pd];exact e.p1)
theorem Eav.inn (e:Eav l h p) {k:Nat} (hk:k<p):(l:Rat)≤mdR l h p k∧mdR l h p k≤(h:Rat):=by
 rw[oM k e.p0,← e.whole]
 have hw:=e.wpos
 have hk':((k+1:Nat):Rat)≤(p:Rat):=Rat.natCast_le_natCast.2 hk
 have hk0:(0:Rat)≤(k:Rat):=Rat.natCast_nonneg
 have ek:((k+1:Nat):Rat)=(k:Rat)+1:=Rat.natCast_add _ _
 have h1:=Rat.mul_nonneg (a:=(k:Rat)) (b:=wayR l h p) hk0 (Rat.le_of_lt hw)
 have h2:=Rat.mul_nonneg (a:=(p:Rat)-((k:Rat)+1)) (b:=wayR l h p) (by grind) (Rat.le_of_lt hw)
 constructor<;>grind
theorem Eav.rg (e:Eav l h p):rgP (itoa l) (itoa h):=by
 rw[← bL,← bL]
 exact (Rg e.szi.1 e.szi.2 (by decide)).2 (Rat.intCast_le_intCast.2 (Int.le_of_lt e.lh))
theorem Eav.within (e:Eav l h p):wiS (outL l h p) (itoa l) (itoa h)=(outL l h p,0):=by
 unfold wiS
 rw[if_neg (fun h=>h.elim (fun h=>h e.chk) (fun h=>h e.rg))]
 rw[List.filter_eq_self.2 ?_]
 intro a ha
 simp only[outL,List.mem_map,List.mem_range] at ha
 obtain ⟨k,hk,rfl⟩:=ha
 unfold inR
 rw[decide_eq_true_eq,← bL,← bL,jB e.szi.1 (e.szm hk) (by decide) (by decide) (by decide),jB (e.szm hk) e.szi.2 (by decide) (by decide) (by decide)]
 exact ⟨(tE _ _).2 (e.inn hk).1,(tE _ _).2 (e.inn hk).2⟩
theorem Eav.bef (e:Eav l h p):subQ ((outL l h p).getD 0 []) (itoa l)=(numS (wayR l h p),0):=by
 rw[qA l h e.p0,← bL,lB (e.szm e.p0) e.szi.1 (by decide) (by decide) (by decide),oM 0 e.p0]
 congr 2
 have:((0:Nat):Rat)=0:=rfl
 grind
theorem Eav.beh (e:Eav l h p):subQ (itoa h) ((outL l h p).getD (p-1) [])=(numS (wayR l h p),0):=by
 have hp:=e.p0
 rw[qA l h (show p-1<p by omega),← bL,lB e.szi.2 (e.szm (by omega)) (by decide) (by decide) (by decide),oM _ e.p0,← e.whole]
 congr 2
 have:(p:Rat)=((p-1:Nat):Rat)+1:=by
  conv=>lhs;rw[show p=(p-1)+1 by omega]
  exact Rat.natCast_add _ _
 grind
theorem Eav.gap (e:Eav l h p) {i:Nat} (hi:i+1<p):subQ ((outL l h p).getD (i+1) []) ((outL l h p).getD i [])=(numS (2*wayR l h p),0):=by
 rw[qA l h hi,qA l h (show i<p by omega),lB (e.szm hi) (e.szm (by omega)) (by decide) (by decide) (by decide),oM _ e.p0,oM _ e.p0]
 congr 2
 have:((i+1:Nat):Rat)=(i:Rat)+1:=Rat.natCast_add _ _
 grind
theorem Eav.gaps (e:Eav l h p):gpS (outL l h p)=(List.replicate (p-1) (numS (2*wayR l h p)),0):=by
 have hp:=e.p0
 have key:∀n i,i+n=p-1→gpG (outL l h p) n i=(List.replicate (p-1) (numS (2*wayR l h p)),0):=by
  intro n
  induction n with
  | zero=>
   intro i hi
   show (gapN (outL l h p) i,(0:Int))= _
   unfold gapN
   rw[Prod.mk.injEq]
   refine ⟨?_,rfl⟩
   rw[List.eq_replicate_iff]
   refine ⟨by simp;omega,fun b hb=>?_⟩
   simp only[List.mem_map,List.mem_range] at hb
   obtain ⟨j,hj,rfl⟩:=hb
   rw[e.gap (by omega)]
  | succ n ih=>
   intro i hi
   rw[gpG,e.gap (by omega)]
   exact ih (i+1) (by omega)
 unfold gpS
 rw[if_neg (fun h=>h e.chk),jU]
 exact key (p-1) 0 (by omega)
theorem Eav.half (e:Eav l h p):divQ (numS (2*wayR l h p)) [50]=(numS (wayR l h p),0):=by
 have z2:Sz 1 (2:Rat):=⟨by decide,by decide⟩
 have n2:numS 2= [50]:=(iP 2).trans (bJ (by decide))
 rw[← n2,gP (z2.mul e.szw) z2 (by decide) (by decide) (by decide) (by decide)]
 congr 2
 rw[Rat.div_def]
 have:=Rat.mul_inv_cancel (2:Rat) (by decide)
 grind
theorem Eav.same (e:Eav l h p):cmpQ (numS (wayR l h p)) (numS (wayR l h p))=(0,0):=by
 rw[jB e.szw e.szw (by decide) (by decide) (by decide),(Lx _ _).2 rfl]
noncomputable def falR (l h:Int) (p:Nat) (m:Int):Rat:=wayR l h p/(m:Rat)
theorem Eav.fall (e:Eav l h p) {m:Int} (hm:1≤m∧m≤65536):divQ (numS (wayR l h p)) (itoa m)=(numS (falR l h p m),0):=by
 have:(10:Nat)^10=10000000000:=(by decide)
 rw[← bL]
 refine gP e.szw (rI (k:=10) (by omega) (by decide)) (by decide) (by decide) (by decide) ?_
 intro h0
 have:=Rat.intCast_eq_zero_iff.1 h0
 omega
theorem Eav.szf (e:Eav l h p) {m:Int} (hm:1≤m∧m≤65536):Sz 20 (falR l h p m):=by
 have:(10:Nat)^10=10000000000:=(by decide)
 refine e.szw.div (rI (k:=10) (by omega) (by decide)) ?_
 intro h0
 have:=Rat.intCast_eq_zero_iff.1 h0
 omega
end
def prI (l h n:Int):Int:=(h-l+2*n-1)/(2*n)
theorem sY {l h n:Int} (h1:l<h) (hn:0<n):0<prI l h n:=by
 unfold prI
 have:=Int.mul_ediv_add_emod (h-l+2*n-1) (2*n)
 have h3:=Int.emod_lt_of_pos (h-l+2*n-1) (show 0<2*n by omega)
 rcases Int.lt_or_le 0 ((h-l+2*n-1)/(2*n)) with h | h
 ·exact h
 ·have:=Int.mul_le_mul_of_nonneg_left h (show 0≤2*n by omega)
  omega
theorem Pe {l h n:Int} (hn:0<n):h-l≤2*n*prI l h n:=by
 unfold prI
 have:=Int.mul_ediv_add_emod (h-l+2*n-1) (2*n)
 have h3:=Int.emod_lt_of_pos (h-l+2*n-1) (show 0<2*n by omega)
 omega
theorem Pf {l h n n':Int} (h1:l<h) (hn:0<n') (h2:n'≤n):prI l h n≤prI l h n':=by
 have h3:=Pe (l:=l) (h:=h) hn
 have hp:=sY h1 hn
 have h4:2*n'*prI l h n'≤2*n*prI l h n':=Int.mul_le_mul_of_nonneg_right (by omega) (by omega)
 have h5:h-l+2*n-1<(prI l h n'+1)*(2*n):=by
  rw[Int.add_mul,Int.one_mul,Int.mul_comm (prI l h n')]
  omega
 have:=Int.ediv_lt_of_lt_mul (show 0<2*n by omega) h5
 unfold prI at*
 omega
theorem Ur {l h n:Int} {p:Nat} (hp:0<p) (h1:h-l≤2*n*(p:Int)):wayR l h p≤(n:Rat):=by
 unfold wayR
 rw[Rat.divInt_eq_div,← Rat.not_lt,Rat.lt_div_iff (Rat.intCast_pos.2 (by omega)),← Rat.intCast_mul,Rat.intCast_lt_intCast]
 have:n*(2*(p:Int))=2*n*(p:Int):=by rw[← Int.mul_assoc,Int.mul_comm n 2]
 omega
theorem Pg {l h:Int} {p q:Nat} (hp:0<p) (hq:p≤q) (h1:l<h):wayR l h q≤wayR l h p:=by
 unfold wayR
 have hp':(0:Rat)<((2*(p:Int):Int):Rat):=Rat.intCast_pos.2 (by omega)
 have hq':(0:Rat)<((2*(q:Int):Int):Rat):=Rat.intCast_pos.2 (by omega)
 rw[← Rat.not_lt]
 intro h2
 rw[dv_lt (by omega) (by omega)] at h2
 have:=Int.mul_le_mul_of_nonneg_left (show 2*(p:Int)≤2*(q:Int) by omega) (show 0≤h-l by omega)
 omega
theorem Us {l h n m:Int} {p:Nat} (hp:0<p) (hm:0<m) (h1:h-l≤2*n*(p:Int)):falR l h p m≤Rat.divInt n m:=by
 unfold falR
 rw[Rat.divInt_eq_div,Rat.div_def,Rat.div_def]
 exact Rat.mul_le_mul_of_nonneg_right (Ur hp h1) (Rat.le_of_lt (Rat.inv_pos.2 (Rat.intCast_pos.2 hm)))
theorem Ph {l h m:Int} {p q:Nat} (hp:0<p) (hq:p≤q) (h1:l<h) (hm:0<m):falR l h q m≤falR l h p m:=by
 unfold falR
 rw[Rat.div_def,Rat.div_def]
 exact Rat.mul_le_mul_of_nonneg_right (Pg hp hq h1) (Rat.le_of_lt (Rat.inv_pos.2 (Rat.intCast_pos.2 hm)))
theorem Oy {R:List (List Sid)} (h:bZ R=0) (hl:R.length≤40):okRs R:=⟨by omega,(iI h).2.2.1,fun m hm=>Pn fun s hs=>(iI h).2.2.2.1 _ (pZ [] hm) s hs⟩
noncomputable abbrev arS (r:List Sid) (k:Nat):List SV:=ag (bfS r k)++(ag (owS r k)++(ag (nxS r k)++ []))
theorem b4141 (R:List (List Sid)) (n:Nat) (h:R.length≤40∧bZ R=0∧n<cnt R R.length):body Tryz.prog [Ox,Tx,Pm] { asks:=[(0,[]),(2,[])] } true Tryz.f141 [.agg [.seq (.slice tSid) R],I n] (.tup [I (firI R n),.agg (arS (R.getD (fdI R n).1 []) (fdI R n).2),I 0]):=by
 obtain ⟨hRl,h0,hn⟩:=h
 obtain ⟨f1,f2,f3⟩:=mK R n hn
 have hok:=Oy h0 hRl
 have e0:firI R n=cnt R (fdI R n).1:=rfl
 rw[e0]
 generalize hM:(fdI R n).1=M at*
 generalize hJ:(fdI R n).2=J at*
 (repeat' first|refine ZR ?_|refine Zg fun _=>?_)
 refine Ask.mk ⟨{ X:=Nat,pre:=fun m=>m≤M,mod:=fun m _=>[(19,I m)],heap:=fun m H=>[hget H 0,hget H 1,hget H 2,hget H 3,hget H 4,.cells [I (cnt R m)] 3],mu:=fun m=>R.length-m },rfl,?_⟩
 (repeat refine ZG ?_)
 refine ⟨⟨(0:Nat),Nat.zero_le _,by (repeat' first|exact trivial|rfl|apply And.intro)⟩,fun (m:Nat) hm=>?_⟩
 have hm:m≤M:=hm
 have hr:=jV hok (show m<R.length by omega)
 have hr1:=hr.1
 have hle:=iJ hok (show m<R.length by omega)
 have hc1:=mH R hm
 (repeat' first|refine ZR ?_|refine Zg fun _=>?_)
 refine Ask.mk ⟨{ X:=Nat,pre:=fun i=>i≤(R.getD m []).length∧(m=M→i≤J),mod:=fun _ _=>[],heap:=fun i H=>H,mu:=fun i=>i },rfl,?_⟩
 (repeat refine ZG ?_)
 refine ⟨⟨(0:Nat),rfl,⟨Nat.zero_le _,fun _=>Nat.zero_le _⟩,by (repeat' first|exact trivial|rfl|apply And.intro)⟩,fun (i:Nat) hi (hil:i<(R.getD m []).length)=>?_,fun (i:Nat) hi (he:i=(R.getD m []).length)=>?_⟩
 ·obtain ⟨hi,hi2⟩:=hi
  show hnfL (itRg (R.getD m []) i) _
  by_cases hf:cnt R m+i=n
  ·have hmM:m=M:=by
    apply Classical.byContradiction
    intro q
    have:=mH R (show m+1≤M by omega)
    rw[cnt] at this
    omega
   subst hmM
   have hiJ:i=J:=by omega
   subst hiJ
   (repeat'((conv=>whnf);first|refine Zg fun _=>?_|refine Zn ?_|(apply Pin.mk;apply Exists.intro)|apply Pinned.mk rfl rfl|(apply PinH.mk;apply Exists.intro;apply Exists.intro)|exact Zf|refine Zc ?_ ?_|refine Zy ?_|fail))
   (conv=>whnf)
   (repeat' first|exact trivial|rfl|apply And.intro)
  ·(repeat' first|refine ZR ?_|refine Zg fun _=>?_)
   refine ⟨(i+1:Nat),rfl,⟨hil,fun e=>?_⟩,?_⟩
   ·subst e
    have:=hi2 rfl
    by_cases q:i=J
    ·subst q;exact absurd f3 hf
    ·omega
   ·(repeat' first|exact trivial|rfl|apply And.intro)
 ·obtain ⟨hi,hi2⟩:=hi
  subst he
  have hmM:m≠M:=by
   intro e
   subst e
   have:=hi2 rfl
   omega
  (repeat' first|refine ZR ?_|refine Zg fun _=>?_)
  refine ⟨(m+1:Nat),by show R.length-(m+1)<R.length-m;omega,by show m+1≤M;omega,?_⟩
  (repeat' first|exact trivial|rfl|apply And.intro)
def Um:Con:=aH 141 true fun args K=>match args with | [.agg [.seq (.slice (.pair (.int .i64) (.pair (.int .i64) (.pair (.int .i64) (.pair (.int .i64) (.pair .bool (.pair (.int .i64) (.int .i64)))))))) R],.val (.int .i64 n)]=>Need (R.length≤40∧bZ R=0∧0≤n∧n<cnt R R.length) (K (.tup [I (firI R n.toNat),.agg (arS (R.getD (fdI R n.toNat).1 []) (fdI R n.toNat).2),I 0])) | _=>False
theorem Un:aF Tryz.prog Um:=by
 refine kQ { asks:=[(0,[]),(2,[])] } Tryz.func141 Tryz.ntmps141 (kc Js (kc yB (kc yC kn))) fun _ _ h=>?_
 split at h
 case h_2=>exact h.elim
 rename_i R n
 change List (List Sid) at R
 refine kb h.go ?_
 replace h:=h.ok
 have:=b4141 R n.toNat ⟨h.1,h.2.1,by omega⟩
 rwa [show ((n.toNat:Nat):Int)=n by omega] at this
def c4082:Con:=aH 82 true fun args K=>match args with | [.agg [.seq (.slice (.pair (.int .i64) (.pair (.int .i64) (.pair (.int .i64) (.pair (.int .i64) (.pair .bool (.pair (.int .i64) (.int .i64)))))))) R],.val (.int .i64 n)]=>Need (R.length≤40∧bZ R=0∧0≤n∧n<cnt R R.length) (K (.tup [I (prvI R n.toNat),I (nexI R n.toNat),I 0])) | _=>False
theorem k4082:aF Tryz.prog c4082:=by
 refine kQ { asks:=[(0,[])] } Tryz.func82 Tryz.ntmps82 (kc Un kn) fun _ _ h=>?_
 split at h
 case h_2=>exact h.elim
 rename_i R n
 change List (List Sid) at R
 refine kb h.go ?_
 replace h:=h.ok
 obtain ⟨hRl,h0,hn0,hn⟩:=h
 obtain ⟨f1,f2,f3⟩:=mK R n.toNat (by omega)
 have hok:=Oy h0 hRl
 have hpos:=(iI h0).1
 have eF:firI R n.toNat=cnt R (fdI R n.toNat).1:=rfl
 have eP:prvI R n.toNat=cnt R (fdI R n.toNat).1+bfI (R.getD (fdI R n.toNat).1 []).length (fdI R n.toNat).2:=rfl
 have eN:nexI R n.toNat=cnt R (fdI R n.toNat).1+nxI (R.getD (fdI R n.toNat).1 []).length (fdI R n.toNat).2:=rfl
 generalize hM:(fdI R n.toNat).1=M at*
 generalize hJ:(fdI R n.toNat).2=J at*
 have hlM:=iJ hok f1
 have e1:(n-(firI R n.toNat:Int)+(R.getD M []).length-1)% ((R.getD M []).length:Int)=(bfI (R.getD M []).length J:Nat):=by
  rw[← Jq f2,show n-(firI R n.toNat:Int)+(R.getD M []).length-1=((J+(R.getD M []).length-1:Nat):Int) by omega];rfl
 have e2:(n-(firI R n.toNat:Int)+1)% ((R.getD M []).length:Int)=(nxI (R.getD M []).length J:Nat):=by
  rw[← Jr f2,show n-(firI R n.toNat:Int)+1=((J+1:Nat):Int) by omega];rfl
 have b1:=Gu f2
 have b2:=vP f2
 (repeat' first|refine ZR ?_|refine Zg fun _=>?_)
 refine Ask.mk ⟨{ X:=Nat,pre:=fun m=>m≤M,mod:=fun m _=>[(10,I (cnt R m)),(26,I m)],heap:=fun m H=>H,mu:=fun m=>R.length-m },rfl,?_⟩
 (repeat refine ZG ?_)
 refine ⟨⟨(0:Nat),Nat.zero_le _,by (repeat' first|exact trivial|rfl|apply And.intro)⟩,fun (m:Nat) hm=>?_⟩
 have hm:m≤M:=hm
 have hle:=iJ hok (show m<R.length by omega)
 have hc1:=mH R hm
 by_cases hlt:m<M
 ·have hs:=Gy hpos hlt (by omega)
  (repeat' first|refine ZR ?_|refine Zg fun _=>?_)
  refine ⟨(m+1:Nat),by show R.length-(m+1)<R.length-m;omega,hlt,?_⟩
  (repeat' first|exact trivial|rfl|apply And.intro)
 ·have e:m=M:=by omega
  subst e
  (repeat'((conv=>whnf);first|refine Zg fun _=>?_|refine Za ?_|refine Zn ?_|refine Zj ?_|(apply Pin.mk;apply Exists.intro)|apply Pinned.mk rfl rfl|refine Zy ?_|fail))
  (conv=>whnf)
  (repeat' first|exact trivial|rfl|apply And.intro)
  all_goals first | exact (by rw[e1];omega) | exact (by rw[e2];omega)
def c4038:Con:=aH 38 true fun args K=>match args with | [.agg [.seq (.slice (.pair (.int .i64) (.pair (.int .i64) (.pair (.int .i64) (.pair (.int .i64) (.pair .bool (.pair (.int .i64) (.int .i64)))))))) R],.val (.int .i64 k),.bl g d]=>Need (R.length≤40) (K (.tup [I (eavE R k g).1,I (eavE R k g).2.1,I (eavE R k g).2.2])) | _=>False
theorem Tj:aF Tryz.prog c4038:=by
 refine kQ {} Tryz.func38 Tryz.ntmps38 (kc Ti (kc k4082 kn)) fun _ _ h=>?_
 split at h
 case h_2=>exact h.elim
 rename_i R k g d
 change List (List Sid) at R
 refine kb h.go ?_
 replace h:=h.ok
 by_cases h0:bZ R=0
 ·have hL:sidL R=R.flatten:=if_pos h0
  have hC:sidC R=0:=if_pos h0
  have hlen:(sidL R).length=cnt R R.length:=by rw[hL,vS]
  have hc24:=(iI h0).2.2.1
  by_cases hk:(k<0∨(cnt R R.length:Int)≤k)∨¬g
  ·have e:eavE R k g=(0,0,2):=by unfold eavE;rw[if_neg (fun q=>q h0),if_pos hk]
   rw[e]
   by_cases k1:k<0
   ·(repeat refine ZR ?_)
    (conv=>whnf)
    (repeat' first|exact trivial|rfl|apply And.intro)
   ·by_cases k2:(cnt R R.length:Int)≤k
    ·(repeat' first|refine ZR ?_|refine Zg fun _=>?_)
     (conv=>whnf)
     (repeat' first|exact trivial|rfl|apply And.intro)
    ·have k3:¬g:=hk.resolve_left (by omega)
     (repeat' first|refine ZR ?_|refine Zg fun _=>?_)
     (conv=>whnf)
     (repeat' first|exact trivial|rfl|apply And.intro)
  ·have k1:¬k<0:=fun q=>hk (.inl (.inl q))
   have k2:¬(cnt R R.length:Int)≤k:=fun q=>hk (.inl (.inr q))
   have k3:g:=Classical.byContradiction fun q=>hk (.inr q)
   obtain ⟨N,rfl⟩:=Int.eq_ofNat_of_zero_le (show 0≤k by omega)
   have hA:(sidL R).getD N sd0=sidA R N:=by rw[hL];rfl
   by_cases hg:((sidL R).getD N sd0).2.2.2.2.1=true
   ·have e:eavE R N g=(0,0,8):=by
     unfold eavE
     rw[if_neg (fun q=>q h0),if_neg hk]
     exact if_pos (by show (sidA R N).2.2.2.2.1=true;rw[← hA];exact hg)
    rw[e]
    (repeat' first|refine ZR ?_|refine Zg fun _=>?_)
    (conv=>whnf)
    (repeat' first|exact trivial|rfl|apply And.intro)
   ·have hn:nexI R ((N:Int).toNat)<cnt R R.length:=Rv (by omega)
    have hB:(sidL R).getD (nexI R ((N:Int).toNat)) sd0=sidA R (nexI R N):=by rw[hL];rfl
    have e:eavE R N g=(lowE R N,higE R N,0):=by
     unfold eavE
     rw[if_neg (fun q=>q h0),if_neg hk]
     exact if_neg (by show ¬(sidA R N).2.2.2.2.1=true;rw[← hA];exact hg)
    rw[e]
    have eL:lowE R N=if ((sidL R).getD N sd0).1=((sidL R).getD (nexI R ((N:Int).toNat)) sd0).1 then min ((sidL R).getD N sd0).2.1 ((sidL R).getD (nexI R ((N:Int).toNat)) sd0).2.1 else min ((sidL R).getD N sd0).1 ((sidL R).getD (nexI R ((N:Int).toNat)) sd0).1:=by rw[hA,hB];rfl
    have eH:higE R N=if ((sidL R).getD N sd0).1=((sidL R).getD (nexI R ((N:Int).toNat)) sd0).1 then max ((sidL R).getD N sd0).2.1 ((sidL R).getD (nexI R ((N:Int).toNat)) sd0).2.1 else max ((sidL R).getD N sd0).1 ((sidL R).getD (nexI R ((N:Int).toNat)) sd0).1:=by rw[hA,hB];rfl
    by_cases hx:((sidL R).getD N sd0).1=((sidL R).getD (nexI R ((N:Int).toNat)) sd0).1
    ·rw[if_pos hx] at eL eH
     (repeat'((conv=>whnf);first|refine Zg fun _=>?_|refine Zn ?_|refine Zj ?_|(apply Pin.mk;apply Exists.intro)|apply Pinned.mk rfl rfl|(apply PinH.mk;apply Exists.intro;apply Exists.intro)|exact Zf|refine Zc ?_ ?_|refine Zy ?_|refine Zm ?_|fail))
     (conv=>whnf)
     (repeat' first|exact trivial|rfl|apply And.intro)
     all_goals first | exact eL.symm | exact eH.symm
    ·rw[if_neg hx] at eL eH
     (repeat'((conv=>whnf);first|refine Zg fun _=>?_|refine Zn ?_|refine Zj ?_|(apply Pin.mk;apply Exists.intro)|apply Pinned.mk rfl rfl|(apply PinH.mk;apply Exists.intro;apply Exists.intro)|exact Zf|refine Zc ?_ ?_|refine Zm ?_|fail))
     (conv=>whnf)
     (repeat' first|exact trivial|rfl|apply And.intro)
     all_goals first | exact eL.symm | exact eH.symm
 ·have e:eavE R k g=(0,0,1):=by unfold eavE;rw[if_pos h0]
  have hL:sidL R= []:=if_neg h0
  have hC:sidC R=1:=if_neg h0
  rw[e]
  (repeat refine ZR ?_)
  (conv=>whnf)
  (repeat' first|exact trivial|rfl|apply And.intro)
theorem cJ {n:Nat} (h:¬n<10):decDigits n=decDigits (n/10)++ [UInt8.ofNat (48+n%10)]:=by rw[decDigits,dif_neg h]
theorem Ut:decDigits 10000000= [49,48,48,48,48,48,48,48]:=by
 rw[cJ (by decide),cJ (by decide),cJ (by decide),cJ (by decide),cJ (by decide),cJ (by decide),cJ (by decide),bJ (by decide)]
 rfl
theorem Rw:decDigits 60000000= [54,48,48,48,48,48,48,48]:=by
 rw[cJ (by decide),cJ (by decide),cJ (by decide),cJ (by decide),cJ (by decide),cJ (by decide),cJ (by decide),bJ (by decide)]
 rfl
theorem n_e7:numS 10000000= [49,48,48,48,48,48,48,48]:=(iP 10000000).trans Ut
theorem n_6e7:numS 60000000= [54,48,48,48,48,48,48,48]:=(iP 60000000).trans Rw
theorem n_50:numS 50= [53,48]:=(iP 50).trans (decDigits_two (by decide) (by decide))
theorem n_51:numS 51= [53,49]:=(iP 51).trans (decDigits_two (by decide) (by decide))
theorem n_25:numS 25= [50,53]:=(iP 25).trans (decDigits_two (by decide) (by decide))
theorem n_75:numS 75= [55,53]:=(iP 75).trans (decDigits_two (by decide) (by decide))
theorem zq50:Sz 10 (50:Rat):=⟨by decide,by decide⟩
theorem zq51:Sz 10 (51:Rat):=⟨by decide,by decide⟩
theorem zq100:Sz 10 (100:Rat):=⟨by decide,by decide⟩
theorem zq300:Sz 10 (300:Rat):=⟨by decide,by decide⟩
theorem vU:Sz 10 (10000000:Rat):=⟨by decide,by decide⟩
theorem Gz:Sz 10 (60000000:Rat):=⟨by decide,by decide⟩
theorem Bh:Sz 10 (3000000000:Rat):=⟨by decide,by decide⟩
theorem Uu:chkQ [49,48,48,48,48,48,48,48]=0:=by rw[← n_e7];exact kY (vU) (by decide)
theorem Rx:chkQ [53,49]=0:=by rw[← n_51];exact kY (zq51) (by decide)
theorem Uv:mulQ [49,48,48,48,48,48,48,48] (itoa 300)=(numS 3000000000,0):=by
 rw[← n_e7,← bL,Ke (vU) (show Sz 10 ((300:Int):Rat) from zq300) (by decide) (by decide) (by decide)]
 rw[show (10000000:Rat)*((300:Int):Rat)=3000000000 by decide+kernel]
theorem Uw:divQ (numS 3000000000) [54,48,48,48,48,48,48,48]=([53,48],0):=by
 rw[← n_6e7,gP (Bh) (Gz) (by decide) (by decide) (by decide) (by decide),← n_50]
 rw[show (3000000000:Rat)/60000000=50 by decide+kernel]
theorem Tu:cmpQ [53,49] (itoa 50)=(1,0):=by
 rw[← n_51,← bL,jB (zq51) (show Sz 10 ((50:Int):Rat) from zq50) (by decide) (by decide) (by decide)]
 rfl
theorem Tv:cmpQ [53,49] (itoa 100)=(-1,0):=by
 rw[← n_51,← bL,jB (zq51) (show Sz 10 ((100:Int):Rat) from zq100) (by decide) (by decide) (by decide)]
 rfl
theorem Ux:outL 0 100 2= [[50,53],[55,53]]:=by
 have e1:mdR 0 100 2 0=25:=by rfl
 have e2:mdR 0 100 2 1=75:=by rfl
 show [numS (mdR 0 100 2 0),numS (mdR 0 100 2 1)]= _
 rw[e1,e2,n_25,n_75]
theorem kP {P:Program} {c c':Con} (hc:aF P c) (hf:c'.f=c.f) (hfr:c'.fresh=c.fresh) (hl:(c'.lin,c'.own,c'.hp)=(none,none,none)) (h:∀args K,c'.cl args K→c.cl args K):aF P c':=
 Cv hl (by rw[hf];exact hc.1) fun args K h'=>by
  have:=hc.2.1 args K (h args K h')
  rwa [hf,hfr]
noncomputable def c20n:Con:=aH 44 true fun args K=>match args with
 | [.str a,.str b]=>Alt (Has (fun r=>subQ a b=(r,0)) fun r=>K (.tup [S r,I 0])) (K (.tup [S (subQ a b).1,I (subQ a b).2]))
 | _=>False
theorem k20n:aF Tryz.prog c20n:=kP k20 rfl rfl rfl fun args K h=>by
 simp only[c20n] at h
 split at h
 ·rcases h.or with h | h
  ·obtain ⟨r,e,h⟩:=h.ex
   show K _
   rw[e];exact h
  ·exact h
 ·exact h.elim
noncomputable def c19n:Con:=aH 57 true fun args K=>match args with
 | [.str a,.str b]=>Alt (Has (fun r=>mulQ a b=(r,0)) fun r=>K (.tup [S r,I 0])) (K (.tup [S (mulQ a b).1,I (mulQ a b).2]))
 | _=>False
theorem k19n:aF Tryz.prog c19n:=kP k19 rfl rfl rfl fun args K h=>by
 simp only[c19n] at h
 split at h
 ·rcases h.or with h | h
  ·obtain ⟨r,e,h⟩:=h.ex
   show K _
   rw[e];exact h
  ·exact h
 ·exact h.elim
noncomputable def c14n:Con:=aH 46 true fun args K=>match args with
 | [.str a,.str b]=>Alt (Has (fun r=>divQ a b=(r,0)) fun r=>K (.tup [S r,I 0])) (K (.tup [S (divQ a b).1,I (divQ a b).2]))
 | _=>False
theorem k14n:aF Tryz.prog c14n:=kP k14 rfl rfl rfl fun args K h=>by
 simp only[c14n] at h
 split at h
 ·rcases h.or with h | h
  ·obtain ⟨r,e,h⟩:=h.ex
   show K _
   rw[e];exact h
  ·exact h
 ·exact h.elim
noncomputable def c38n:Con:=aH 12 true fun args K=>match args with
 | [.str a,.str b]=>Alt (Has (fun r=>cmpQ a b=(r,0)) fun r=>K (.tup [I r,I 0])) (K (.tup [I (cmpQ a b).1,I (cmpQ a b).2]))
 | _=>False
theorem k38n:aF Tryz.prog c38n:=kP k38 rfl rfl rfl fun args K h=>by
 simp only[c38n] at h
 split at h
 ·rcases h.or with h | h
  ·obtain ⟨r,e,h⟩:=h.ex
   show K _
   rw[e];exact h
  ·exact h
 ·exact h.elim
theorem ixAt {n:Int} {C:Nat→Prop} (j:Nat) (e:n=j) (h:C j):Ix n C:=⟨fun i h'=>by
 have:j=i:=by omega
 subst this;exact h⟩
def c2028:Con:=aH 41 true fun args K=>match args with | [.seq .str l]=>K (I (ckS l)) | _=>False
theorem Ql:aF Tryz.prog c2028:=by
 refine kQ { asks:=[(0,[])] } Tryz.func41 Tryz.ntmps41 (kc k21 (kc k38 kn)) fun _ _ h=>?_
 split at h
 case h_2=>exact h.elim
 rename_i l
 change List (List UInt8) at l
 refine kb h ?_
 by_cases hl:4096<l.length
 ·rw[show ckS l=4 from if_pos hl]
  (repeat' first|refine ZR ?_|refine Zg fun _=>?_)
  (conv=>whnf)
  (repeat' first|rfl|apply And.intro)
 ·rw[show ckS l=ckF l from if_neg hl]
  (repeat' first|refine ZR ?_|refine Zg fun _=>?_)
  refine Ask.mk ⟨{ X:=Nat,pre:=fun i=>i≤l.length∧ckAt l i=ckF l,mod:=fun i _=>[(13,I i)],heap:=fun i H=>H,mu:=fun i=>l.length-i },rfl,?_⟩
  (repeat refine ZG ?_)
  refine ⟨⟨(0:Nat),⟨Nat.zero_le _,rfl⟩,?_⟩,fun (i:Nat) hi=>?_⟩
  ·(repeat' first|exact trivial|rfl|apply And.intro)
  obtain ⟨hi,hc⟩:=hi
  by_cases hlt:i<l.length
  ·by_cases hk:chkQ (l.getD i [])=0
   ·rcases i with _ | i
    ·(repeat refine ZR ?_)
     refine ⟨(1:Nat),by show l.length-1<l.length-0;omega,⟨hlt,(Nz hlt hk).trans hc⟩,?_⟩
     (repeat' first|exact trivial|rfl|apply And.intro)
    ·(repeat refine ZR ?_)
     refine ixAt i (by omega) ?_
     by_cases h2:(cmpQ (l.getD i []) (l.getD (i+1) [])).2=0
     ·by_cases h3:0≤(cmpQ (l.getD i []) (l.getD (i+1) [])).1
      ·rw[← hc,Ny hlt hk h2 h3]
       (repeat refine ZR ?_)
       (conv=>whnf)
       (repeat' first|rfl|apply And.intro)
      ·(repeat refine ZR ?_)
       refine ⟨(i+2:Nat),by show l.length-(i+2)<l.length-(i+1);omega,⟨hlt,(Rd hlt hk h2 h3).trans hc⟩,?_⟩
       (repeat' first|exact trivial|rfl|apply And.intro)
     ·rw[← hc,Nx hlt hk h2]
      (repeat refine ZR ?_)
      (conv=>whnf)
      (repeat' first|rfl|apply And.intro)
   ·rw[← hc,Nw hlt hk]
    (repeat refine ZR ?_)
    (conv=>whnf)
    (repeat' first|rfl|apply And.intro)
  ·have e:i=l.length:=by omega
   subst e
   rw[← hc,Nv]
   (repeat refine ZR ?_)
   (conv=>whnf)
   (repeat' first|rfl|apply And.intro)
def c2062:Con:=aH 85 true fun args K=>match args with | [.agg [.str a,.str b]]=>K (.bl (rgP a b) inferInstance) | _=>False
theorem k2062:aF Tryz.prog c2062:=by
 refine kQ {} Tryz.func85 Tryz.ntmps85 (kc k38 kn) fun _ _ h=>?_
 split at h
 case h_2=>exact h.elim
 rename_i a b
 refine kb h ?_
 unfold rgP
 by_cases h1:(cmpQ a b).2=0
 ·(repeat refine ZR ?_)
  (conv=>whnf)
  exact ⟨fun h=>⟨h1,h⟩,fun h=>h.2⟩
 ·(repeat refine ZR ?_)
  (conv=>whnf)
  exact fun h=>h1 h.1
theorem Qm (l:List (List UInt8)) (i:Nat):(gapN l i).length=i:=by unfold gapN;rw[List.length_map,List.length_range]
def c2034:Con:=aH 45 true fun args K=>match args with | [.seq .str l]=>K (.tup [.seq .str (gpS l).1,I (gpS l).2]) | _=>False
theorem k2034:aF Tryz.prog c2034:=by
 refine kQ { asks:=[(0,[1])] } Tryz.func45 Tryz.ntmps45 (kc Ql (kc k20 kn)) fun _ _ h=>?_
 split at h
 case h_2=>exact h.elim
 rename_i l
 change List (List UInt8) at l
 refine kb h ?_
 by_cases hc:ckS l=0
 ·have e0:gpS l=gpG l (l.length-1) 0:=if_neg fun h=>h hc
  (repeat refine ZR ?_)
  refine Ask.mk ⟨{ X:=Nat,pre:=fun i=>(i+1≤l.length∨i=0)∧gpG l (l.length-1-i) i=gpS l,mod:=fun i _=>[(4,.ref 1 1),(5,I ((i:Int)+1))],heap:=fun i H=>[hget H 0,.vec 1 .str (gapN l i) 42],mu:=fun i=>l.length-i,objs:=[1] },rfl,?_⟩
  (repeat refine ZG ?_)
  refine ⟨⟨(0:Nat),⟨.inr rfl,e0.symm⟩,?_⟩,fun (i:Nat) hi=>?_⟩
  ·(repeat' first|exact trivial|rfl|exact Nat.one_pos|apply And.intro)
  obtain ⟨hi,hg⟩:=hi
  have hn:=Qm l i
  have hl4:=(Gl hc).1
  by_cases hlt:i+1<l.length
  ·(repeat'((conv=>whnf);first|refine Zg fun _=>?_|refine Zn ?_|refine Zj ?_|(apply Pin.mk;apply Exists.intro)|apply Pinned.mk rfl rfl|refine Zy ?_|fail))
   refine ixAt i (by omega) ?_
   by_cases hk:(subQ (l.getD (i+1) []) (l.getD i [])).2=0
   ·(repeat'((conv=>whnf);first|refine Zn ?_|(apply Pin.mk;apply Exists.intro)|apply Pinned.mk rfl rfl|refine Zl ?_|refine Zm ?_|fail))
    refine ⟨(i+1:Nat),by show l.length-(i+1)<l.length-i;omega,⟨.inl hlt,(Of hlt hk).symm.trans hg⟩,?_⟩
    (repeat' first|exact trivial|rfl|exact Nat.one_pos|apply And.intro)
    exact (Ld l i).symm
   ·rw[← hg,Rj hlt hk]
    (repeat'((conv=>whnf);first|(apply Pin.mk;apply Exists.intro)|apply Pinned.mk rfl rfl|refine Zy ?_|fail))
    (conv=>whnf)
    (repeat' first|exact trivial|rfl|apply And.intro)
  ·rw[← hg,Rk (by omega)]
   (repeat' first|refine ZR ?_|refine Zg fun _=>?_)
   (conv=>whnf)
   (repeat' first|exact trivial|rfl|apply And.intro)
 ·rw[show gpS l=([],1) from if_pos hc]
  (repeat refine ZR ?_)
  (conv=>whnf)
  (repeat' first|exact trivial|rfl|apply And.intro)
def c2044:Con:=aH 42 true fun args K=>match args with | [.seq .str l,.agg [.str lo,.str hi]]=>Need (Lm l∧Lm [lo,hi]) (K (.tup [.seq .str (wiS l lo hi).1,I (wiS l lo hi).2])) | _=>False
theorem k2044:aF Tryz.prog c2044:=by
 refine kQ { asks:=[(0,[2])] } Tryz.func42 Tryz.ntmps42 (kc Ql (kc k2062 (kc k38 kn))) fun _ _ h=>?_
 split at h
 case h_2=>exact h.elim
 rename_i l lo hi
 change List (List UInt8) at l
 have hP:=h.ok
 refine kb h.go ?_
 obtain ⟨hL,hR⟩:=hP
 by_cases hc:ckS l=0
 ·by_cases hr:rgP lo hi
  ·obtain ⟨k1,k2⟩:=Rh hr
   have l1:=hR lo (by simp) k1
   have l2:=hR hi (by simp) k2
   have hall:=Rf (Gl hc).2
   rw[show wiS l lo hi=(l.filter (inR lo hi),0) from if_neg (by rintro (h | h);exact h hc;exact h hr)]
   (repeat' first|refine ZR ?_|refine Zg fun _=>?_)
   refine Ask.mk ⟨{ X:=Nat,pre:=fun i=>i≤l.length,mod:=fun i _=>[(6,.ref 2 1),(22,I i)],heap:=fun i H=>[hget H 0,hget H 1,.vec 1 .str ((l.take i).filter (inR lo hi)) 42],mu:=fun i=>l.length-i,objs:=[2] },rfl,?_⟩
   (repeat refine ZG ?_)
   refine ⟨⟨(0:Nat),Nat.zero_le _,?_⟩,fun (i:Nat) hi'=>?_⟩
   ·(repeat' first|exact trivial|rfl|exact Nat.one_pos|apply And.intro)
   have hi':i≤l.length:=hi'
   have hl4:=(Gl hc).1
   have hn:((l.take i).filter (inR lo hi)).length≤l.length:=Nat.le_trans (List.length_filter_le _ _) (by rw[List.length_take];omega)
   by_cases hlt:i<l.length
   ·have hk:=hall _ (jN (d:=[]) hlt)
    have hk2:=hL.at hlt hk
    have c1:(cmpQ lo (l.getD i [])).2=0:=by rw[Tf k1 l1 hk hk2]
    have c2:(cmpQ (l.getD i []) hi).2=0:=by rw[Tf hk hk2 k2 l2]
    have fs:=Eg (inR lo hi) [] hlt
    by_cases h1:(cmpQ lo (l.getD i [])).1≤0∧(cmpQ (l.getD i []) hi).1≤0
    ·rw[show inR lo hi (l.getD i [])=true from decide_eq_true h1,if_pos rfl] at fs
     obtain ⟨h1,h2⟩:=h1
     (repeat refine ZR ?_)
     refine ⟨(i+1:Nat),by show l.length-(i+1)<l.length-i;omega,hlt,?_⟩
     (repeat' first|exact trivial|rfl|exact Nat.one_pos|apply And.intro)
     exact fs.symm
    ·rw[show inR lo hi (l.getD i [])=false from decide_eq_false h1,if_neg (by decide),List.append_nil] at fs
     by_cases h2:(cmpQ lo (l.getD i [])).1≤0
     ·have h3:¬(cmpQ (l.getD i []) hi).1≤0:=fun h3=>h1 ⟨h2,h3⟩
      (repeat refine ZR ?_)
      refine ⟨(i+1:Nat),by show l.length-(i+1)<l.length-i;omega,hlt,?_⟩
      (repeat' first|exact trivial|rfl|exact Nat.one_pos|apply And.intro)
      exact fs.symm
     ·(repeat refine ZR ?_)
      refine ⟨(i+1:Nat),by show l.length-(i+1)<l.length-i;omega,hlt,?_⟩
      (repeat' first|exact trivial|rfl|exact Nat.one_pos|apply And.intro)
      exact fs.symm
   ·have e:i=l.length:=by omega
    subst e
    (repeat refine ZR ?_)
    (conv=>whnf)
    (repeat' first|exact trivial|rfl|apply And.intro)
    exact congrArg (List.filter _) (List.take_length ..)
  ·rw[show wiS l lo hi=([],1) from if_pos (.inr hr)]
   (repeat refine ZR ?_)
   (conv=>whnf)
   (repeat' first|exact trivial|rfl|apply And.intro)
 ·rw[show wiS l lo hi=([],1) from if_pos (.inl hc)]
  (repeat refine ZR ?_)
  (conv=>whnf)
  (repeat' first|exact trivial|rfl|apply And.intro)
end RB
end

/-
  Part 8: a symbolic executor over the model, contracts of functions and plain laws.
-/
import Derived.Test.YtenkehnacommfaaGreatDoorP7
set_option linter.unusedVariables false
set_option linter.unusedSimpArgs false
set_option maxRecDepth 10000
set_option maxHeartbeats 80000000
section
open Go Go.Proofs Go.Eng Go.Shelf IB Go.Lib Go.RowKit
namespace RB
noncomputable def bstR (far:List Int) (l:List (Int × Int)) (a:Int) (m:Nat):Int:=EB.bestOf far (EB.rowOf l m a.toNat)
theorem aSm {far:List Int} {l:List (Int × Int)} {a:Int} {m:Nat} (ha:0<=a) (hm:m<l.length) (h1:(l.getD m (0,0)).1=a) (h2:0<=(l.getD m (0,0)).2):bstR far l a (m+1)=EB.bestS far (bstR far l a m) (l.getD m (0,0)).2:=by
 unfold bstR
 rw[EB.rowOf_succ l m a.toNat hm,aD ⟨by omega,h2⟩,EB.bestOf_snoc]
theorem aOl {far:List Int} {l:List (Int × Int)} {a:Int} {m:Nat} (ha:0<=a) (hm:m<l.length) (h:¬((l.getD m (0,0)).1=a/\0<=(l.getD m (0,0)).2)):bstR far l a (m+1)=bstR far l a m:=by
 unfold bstR
 rw[EB.rowOf_succ l m a.toNat hm,aC fun q=>h ⟨by omega,q.2⟩]
theorem aVw {n:Int} {l:List (Int × Int)} (r4:∀i,i<l.length->0<=(l.getD i (0,0)).1/\(l.getD i (0,0)).1<n/\ -1<=(l.getD i (0,0)).2/\(l.getD i (0,0)).2<n) (far:List Int) (a:Int) (m:Nat):bstR far l a m<0\/(0<=bstR far l a m/\bstR far l a m<n):=by
 have hrow:∀k∈EB.rowOf l m a.toNat,0<=k/\k<n:=fun k hk=>by
  unfold EB.rowOf at hk
  obtain ⟨r,hr,e⟩:=jN.1 hk
  obtain ⟨h1,h2⟩:=fL.1 hr
  obtain ⟨q,hq,e2⟩:=bV (dD h1)
  have:=r4 q hq
  rw[aB,aH hq] at this
  have e3:(some l[q]).getD ((0,0):Int × Int)=r:=e2
  rw[e3] at this
  have h3:=(dI h2).2
  subst e
  exact ⟨h3,this.2.2.2⟩
 rcases EB.bestOf_spec far (EB.rowOf l m a.toNat) (fun k hk=>(hrow k hk).1) with ⟨q1,_⟩ | ⟨q1,_,_⟩
 ·left;unfold bstR;rw[q1];decide
 exact .inr (hrow _ q1)
def aYd:Con:=bB 33 true fun args K=>match args with | [.val (.int .i64 n),.seq (.pair (.int .i64) (.int .i64)) l]=>K (.tup [.seq (.int .i64) (EB.cycR n l),.bl (EB.cycP n l) Cp,I (EB.cycE n l)]) | _=>False
theorem k3033:aS Tryz.prog aYd:=by
 refine kQ { asks:=[(0,[]),(2,[1]),(4,[])] } Tryz.func33 Tryz.ntmps33 (kc aGc (kc aYm (kc k3066 kn))) fun _ _ h=>?_
 split at h
 case h_2=>exact h.elim
 rename_i n l
 change List (Int × Int) at l
 refine kb h ?_
 by_cases h:EB.supE n l=0
 case neg=>
  have hc:¬EB.cycP n l:=fun hh=>h hh.1
  have e1:=EB.cycR_no hc
  have e2:EB.cycE n l=1:=by unfold EB.cycE;rw[aC h]
  rw[e1,e2]
  generalize EB.cycP n l=M at hc ⊢
  (repeat refine ZR ?_)
  (conv=>whnf)
  (repeat' first|exact trivial|rfl|apply aA)
  all_goals (conv=>whnf)
  all_goals skip
  all_goals exact hc
 have hro:=EB.supE_rests h
 obtain ⟨r1,r2,r3,r4⟩:=id hro
 have hrw:=EB.onL_rows hro
 have hol:=EB.onL_len n l
 have hce:EB.cycE n l=0:=by unfold EB.cycE;rw[aD h]
 rw[hce]
 (repeat refine ZR ?_)
 refine Ask.mk ⟨{ X:=Nat,pre:=fun i=>i<=n.toNat/\∀j:Nat,j<i->¬EB.Way (EB.onL n l) j j,mod:=fun i _=>[(7,I i)],heap:=fun i H=>H,mu:=fun i=>n.toNat-i },rfl,?_⟩
 (repeat refine ZG ?_)
 refine ⟨⟨(0:Nat),⟨aI _,fun j hj=>absurd hj (bG _)⟩,ZE⟩,fun (i:Nat) hi=>?_⟩
 obtain ⟨hi,hno⟩:=hi
 by_cases hlt:i<n.toNat
 ·have hrg:=EB.reach_get (on:=EB.onL n l) i (k:=i) (by omega)
  have hpre:EB.supE n l=0/\0<=(i:Int)/\(i:Int)<n:=⟨h,by omega,by omega⟩
  have hrl2:=EB.reachL_len (EB.onL n l) i
  by_cases hw:EB.Way (EB.onL n l) i i
  case neg=>
   have hb:¬(EB.reachL (EB.onL n l) i).getD i false=true:=by rw[hrg,EB.wayB_iff];exact hw
   (repeat refine ZR ?_)
   refine ⟨(i+1:Nat),by show n.toNat-(i+1)<n.toNat-i;omega,⟨hlt,fun j hj=>?_⟩,ZE⟩
   by_cases e:j=i
   ·subst e;exact hw
   exact hno j (by omega)
  have hb:(EB.reachL (EB.onL n l) i).getD i false=true:=by rw[hrg,EB.wayB_iff];exact hw
  have hcyc:EB.cycP n l:=⟨h,i,⟨by omega,by omega⟩,hw⟩
  have hci:0<=(i:Int)/\(i:Int)<n:=⟨by omega,by omega⟩
  have hdl:=EB.distL_len (EB.onL n l) i
  have hleast:EB.Least (fun k:Nat=>k<(EB.onL n l).length/\EB.Way (EB.onL n l) k k) i:=⟨⟨by omega,hw⟩,fun q hq hq2=>hno q hq hq2.2⟩
  have hit:=fun k=>EB.it_near hrw hci hw k
  have hle:=fun (k:Int) (hk:0<=k/\k<n)=>(EB.dist_le hrw hk:EB.dist1 (EB.onL n l) i k<n)
  (repeat refine ZX ?_)
  refine Own.r ?_
  refine Ask.mk ⟨{ X:=Nat,pre:=fun k=>(∀j,1<=j->j<=k->¬EB.itC (EB.onL n l) i j=i)/\(k:Int)+EB.dist1 (EB.onL n l) i (EB.itC (EB.onL n l) i (k+1))<=n,mod:=fun k _=>[(9,.ref 1 1),(10,I (EB.itC (EB.onL n l) i k))],objs:=[1],heap:=fun k _=>[.vec 1 (.int .i64) [] 3,.vec 1 (.int .i64) (EB.itL (EB.onL n l) i (k+1)) 3],mu:=fun k=>(EB.dist1 (EB.onL n l) i (EB.itC (EB.onL n l) i (k+1))).toNat },rfl,?_⟩
  (repeat refine ZG ?_)
  refine ⟨⟨(0:Nat),⟨fun j h1 h2=>by omega,?_⟩,?_⟩,fun (k:Nat) hx=>?_⟩
  ·have:=hle _ (hit 1).1
   show ((0:Nat):Int)+EB.dist1 (EB.onL n l) i (EB.itC (EB.onL n l) i 1)<=n
   omega
  ·exact ZE
  obtain ⟨x1,x2⟩:=hx
  have x2:(k:Int)+EB.dist1 (EB.onL n l) i (EB.itC (EB.onL n l) i (k+1))<=n:=x2
  obtain ⟨j1,j2⟩:=(hit k).1
  have hil:=EB.itL_len (EB.onL n l) i (k+1)
  have hd0:¬EB.itC (EB.onL n l) i (k+1)=i->0<=EB.dist1 (EB.onL n l) i (EB.itC (EB.onL n l) i (k+1)):=fun hne=>(hit (k+1)).2.elim (fun h=>absurd h.1 hne) fun h=>h.2
  have hall:bstR (EB.distL (EB.onL n l) i) l (EB.itC (EB.onL n l) i k) l.length=EB.itC (EB.onL n l) i (k+1):=by
   have hrow:(EB.onL n l).getD (EB.itC (EB.onL n l) i k).toNat []=EB.rowOf l l.length (EB.itC (EB.onL n l) i k).toNat:=EB.onN_get _ _ _ _ (by omega)
   show EB.bestOf _ _=EB.bestOf _ _
   rw[hrow]
  generalize hat:EB.itC (EB.onL n l) i k=a at*
  refine Ask.mk ⟨{ X:=Nat,pre:=fun m=>m<=l.length,mod:=fun m _=>[(11,I (bstR (EB.distL (EB.onL n l) i) l a m)),(12,I m)],heap:=fun _ H=>H,mu:=fun m=>l.length-m },rfl,?_⟩
  (repeat refine ZG ?_)
  refine ⟨⟨(0:Nat),aI _,ZE⟩,fun (m:Nat) hm=>?_⟩
  have hm:m<=l.length:=hm
  by_cases hlm:m<l.length
  ·obtain ⟨q1,q2,q3,q4⟩:=r4 m hlm
   by_cases c1:(l.getD m (0,0)).1=a
   ·by_cases c2:0<=(l.getD m (0,0)).2
    ·have hst:=aSm (far:=EB.distL (EB.onL n l) i) j1 hlm c1 c2
     have hb:bstR (EB.distL (EB.onL n l) i) l a m<0\/(0<=bstR (EB.distL (EB.onL n l) i) l a m/\bstR (EB.distL (EB.onL n l) i) l a m<n):=aVw r4 _ _ _
     have e1:=EB.d01 (EB.distL (EB.onL n l) i) (l.getD m (0,0)).2.toNat (by omega)
     unfold EB.bestS at hst
     rw[<- e1] at hst
     by_cases c3:0<=(EB.distL (EB.onL n l) i).getD (l.getD m (0,0)).2.toNat 0
     ·by_cases c4:bstR (EB.distL (EB.onL n l) i) l a m<0
      ·rw[aD ⟨c3,.inl c4⟩] at hst
       (repeat'((conv=>whnf);first|refine Zg fun _=>?_|refine Zn ?_|refine Zj ?_|apply pI|apply pJ|refine Zy ?_|fail))
       refine cX (l.getD m (0,0)).2.toNat (by omega) ?_
       (repeat'((conv=>whnf);first|refine Zg fun _=>?_|refine Zn ?_|apply pI|apply pJ|refine Zy ?_|fail))
       refine ⟨(m+1:Nat),by show l.length-(m+1)<l.length-m;omega,hlm,?_⟩
       exact ZEx hst.symm
      have e2:=EB.d01 (EB.distL (EB.onL n l) i) (bstR (EB.distL (EB.onL n l) i) l a m).toNat (by omega)
      rw[<- e2] at hst
      by_cases c5:(EB.distL (EB.onL n l) i).getD (l.getD m (0,0)).2.toNat 0<(EB.distL (EB.onL n l) i).getD (bstR (EB.distL (EB.onL n l) i) l a m).toNat 0
      ·rw[aD ⟨c3,.inr c5⟩] at hst
       (repeat'((conv=>whnf);first|refine Zg fun _=>?_|refine Zn ?_|refine Zj ?_|apply pI|apply pJ|refine Zy ?_|fail))
       refine cX (l.getD m (0,0)).2.toNat (by omega) ?_
       (repeat'((conv=>whnf);first|refine Zg fun _=>?_|refine Zn ?_|apply pI|apply pJ|refine Zy ?_|refine Zm ?_|fail))
       refine cX (l.getD m (0,0)).2.toNat (by omega) ?_
       (repeat'((conv=>whnf);first|refine Zg fun _=>?_|refine Zn ?_|apply pI|apply pJ|fail))
       refine cX (bstR (EB.distL (EB.onL n l) i) l a m).toNat (by omega) ?_
       (repeat'((conv=>whnf);first|refine Zg fun _=>?_|refine Zn ?_|apply pI|apply pJ|refine Zy ?_|fail))
       refine ⟨(m+1:Nat),by show l.length-(m+1)<l.length-m;omega,hlm,?_⟩
       exact ZEx hst.symm
      rw[aC fun q=>q.2.elim c4 c5] at hst
      (repeat'((conv=>whnf);first|refine Zg fun _=>?_|refine Zn ?_|refine Zj ?_|apply pI|apply pJ|refine Zy ?_|fail))
      refine cX (l.getD m (0,0)).2.toNat (by omega) ?_
      (repeat'((conv=>whnf);first|refine Zg fun _=>?_|refine Zn ?_|apply pI|apply pJ|refine Zy ?_|refine Zm ?_|fail))
      refine cX (l.getD m (0,0)).2.toNat (by omega) ?_
      (repeat'((conv=>whnf);first|refine Zg fun _=>?_|refine Zn ?_|apply pI|apply pJ|fail))
      refine cX (bstR (EB.distL (EB.onL n l) i) l a m).toNat (by omega) ?_
      (repeat'((conv=>whnf);first|refine Zg fun _=>?_|refine Zn ?_|apply pI|apply pJ|refine Zm ?_|fail))
      refine ⟨(m+1:Nat),by show l.length-(m+1)<l.length-m;omega,hlm,?_⟩
      exact ZEx hst.symm
     rw[aC fun q=>c3 q.1] at hst
     (repeat'((conv=>whnf);first|refine Zg fun _=>?_|refine Zn ?_|refine Zj ?_|apply pI|apply pJ|refine Zy ?_|fail))
     refine cX (l.getD m (0,0)).2.toNat (by omega) ?_
     (repeat'((conv=>whnf);first|refine Zg fun _=>?_|refine Zn ?_|apply pI|apply pJ|refine Zm ?_|fail))
     refine ⟨(m+1:Nat),by show l.length-(m+1)<l.length-m;omega,hlm,?_⟩
     exact ZEx hst.symm
    have hst:=aOl (far:=EB.distL (EB.onL n l) i) j1 hlm fun q=>c2 q.2
    (repeat'((conv=>whnf);first|refine Zg fun _=>?_|refine Zn ?_|refine Zj ?_|apply pI|apply pJ|refine Zy ?_|refine Zm ?_|fail))
    refine ⟨(m+1:Nat),by show l.length-(m+1)<l.length-m;omega,hlm,?_⟩
    exact ZEx hst.symm
   have hst:=aOl (far:=EB.distL (EB.onL n l) i) j1 hlm fun q=>c1 q.1
   (repeat'((conv=>whnf);first|refine Zg fun _=>?_|refine Zn ?_|refine Zj ?_|apply pI|apply pJ|refine Zy ?_|refine Zm ?_|fail))
   refine ⟨(m+1:Nat),by show l.length-(m+1)<l.length-m;omega,hlm,?_⟩
   exact ZEx hst.symm
  have hme:m=l.length:=by omega
  subst hme
  subst hat
  by_cases hne:EB.itC (EB.onL n l) i (k+1)=i
  ·have hq:bstR (EB.distL (EB.onL n l) i) l (EB.itC (EB.onL n l) i k) l.length=(i:Int):=hall.trans hne
   have hK:EB.Least (fun m=>1<=m/\EB.itC (EB.onL n l) i m=i) (k+1):=⟨⟨by omega,hne⟩,fun q hq hq2=>x1 q hq2.1 (by omega) hq2.2⟩
   rw[EB.cycR_yes hcyc hleast hK]
   generalize EB.cycP n l=M at hcyc ⊢
   (repeat' first|refine ZR ?_|refine Zg fun _=>?_)
   (conv=>whnf)
   (repeat' first|exact trivial|rfl|apply aA)
   all_goals (conv=>whnf)
   all_goals skip
   all_goals exact hcyc
  have hq:¬bstR (EB.distL (EB.onL n l) i) l (EB.itC (EB.onL n l) i k) l.length=(i:Int):=by rw[hall];exact hne
  have m3:EB.dist1 (EB.onL n l) i (EB.itC (EB.onL n l) i (k+1+1))<EB.dist1 (EB.onL n l) i (EB.itC (EB.onL n l) i (k+1)):=EB.it_less hrw hci hw (k+1) hne
  have d0:=hd0 hne
  have n0:0<=EB.dist1 (EB.onL n l) i (EB.itC (EB.onL n l) i (k+1+1)):=(hit (k+1+1)).2.elim (fun h=>by rw[h.1,show EB.dist1 (EB.onL n l) i i=0 from EB.dist1_eq (m:=0) ⟨.nil _,fun q hq=>absurd hq (bG _)⟩];exact gT _) fun h=>h.2
  (repeat' first|refine ZR ?_|refine Zg fun _=>?_)
  refine ⟨(k+1:Nat),?_,⟨fun j h1 h2=>?_,?_⟩,?_⟩
  ·show (EB.dist1 (EB.onL n l) i (EB.itC (EB.onL n l) i (k+1+1))).toNat<(EB.dist1 (EB.onL n l) i (EB.itC (EB.onL n l) i (k+1))).toNat
   omega
  ·by_cases e:j=k+1
   ·subst e;exact hne
   exact x1 j h1 (by omega)
  ·show ((k+1:Nat):Int)+EB.dist1 (EB.onL n l) i (EB.itC (EB.onL n l) i (k+1+1))<=n
   omega
  (repeat' first|exact trivial|rfl|exact Nat.one_pos|apply aA|omega)
  all_goals first | exact hall | ((conv=>whnf);rw[hall];exact EB.itL_succ _ _ _)
 have hncyc:¬EB.cycP n l:=by
  rintro ⟨_,c,hc,hw⟩
  refine hno c.toNat (by omega) ?_
  rw[aX hc.1];exact hw
 rw[EB.cycR_no hncyc]
 generalize EB.cycP n l=M at hncyc ⊢
 (repeat refine ZR ?_)
 (conv=>whnf)
 (repeat' first|exact trivial|rfl|apply aA)
 all_goals (conv=>whnf)
 all_goals skip
 all_goals exact hncyc
theorem b3009 (n:Int) (l:List (Int × Int)) (i:Int):body Tryz.prog [aYg,aOm,SB.c3029,aYn,SB.c3018,aYc,SB.c3027,aYd,SB.c3021,aYl,EB.c43,aYi,aSr] {} true Tryz.f9 [I n,.seq tRr l,I i] (.val (.bool true)):=by
 by_cases hg:grtP n l
 ·(repeat refine ZR ?_)
  (conv=>whnf)
 have e1:EB.belR n l i=EB.belR n l i:=rfl
 have e2:EB.rkR n l=EB.rkR n l:=rfl
 have e3:EB.cycR n l=EB.cycR n l:=rfl
 have e4:EB.looR n l=EB.looR n l:=rfl
 have e5:EB.cycP n l↔EB.cycP n l:=lH
 (repeat refine ZR ?_)
 (conv=>whnf)
theorem t3009 (n:Int) (l:List (Int × Int)) (i:Int) (_:inK .i64 n) (_:Okd (.slice tRr) l) (_:inK .i64 i):Tri Tryz.prog true 9 [I n,.seq tRr l,I i] (.val (.bool true)):=
 triB Tryz.func9 Tryz.ntmps9 (by simp[aYh,aSt,SB.k3029,k3031,SB.k3018,k3032,SB.k3027,k3033,SB.k3021,k3034,EB.k43,aGc,aSs]) (b3009 n l i)
end RB
end

/-
  Part 9: a symbolic executor over the model, contracts of functions and plain laws.
-/
import Derived.Test.YtocimheacfaimaaGreatDoorP8
set_option linter.unusedVariables false
set_option linter.unusedSimpArgs false
set_option maxRecDepth 10000
set_option maxHeartbeats 80000000
open List (length getD)
noncomputable section
section
open Go Go.Proofs Go.Eng Go.Shelf IB Go.Lib Go.RowKit Tryz
namespace RB
def CD (j:JobV)(es:List dR)(us:List Bool):Nat->List Int
 | 0=>[]
 | n+1=>if us.getD n false=true then CD j es us n else if (mA (wX j es us n) (es.getD n Us)).2=0 then CD j es us n else CD j es us n++ [(n:Int)]
theorem EP (j:JobV)(es:List dR)(us:List Bool):∀n,(CD j es us n).length<=n
 | 0=>aI _
 | n+1=>by
  have:=EP j es us n;rw[CD];split
  ·omega
  split
  ·omega
  rw[aO,dP];omega
abbrev Fk (j:JobV):JobV:=⟨j.nm,j.pl,j.og,j.sp,j.pu,j.op,j.sz,j.br,j.kf,j.t1,j.t2,j.t3,j.t4,j.lo,j.al⟩
theorem Kf (j:JobV)(e:dR):mA (Fk j) (GY e)=mA j e:=by rw[K3]
theorem O5 {j:JobV}{es:List dR}{us:List Bool}{i:Nat}(h:us.getD i false=true):wX j es us (i+1)=wX j es us i/\CD j es us (i+1)=CD j es us i:=by
 constructor
 ·rw[wX,B8,aE h]
 rw[CD,aE h]
theorem O6 {j:JobV}{es:List dR}{us:List Bool}{i:Nat}(h:¬us.getD i false=true)(c:(mA (Fk (wX j es us i)) (GY (es.getD i Us))).2=0):wX j es us (i+1)=(mA (Fk (wX j es us i)) (GY (es.getD i Us))).1/\CD j es us (i+1)=CD j es us i:=by
 rw[Kf] at c ⊢;constructor
 ·rw[wX,B8,aD h,aE c]
 rw[CD,aD h,aE c]
theorem TO {j:JobV}{es:List dR}{us:List Bool}{i:Nat}(h:¬us.getD i false=true)(c:¬(mA (Fk (wX j es us i)) (GY (es.getD i Us))).2=0):wX j es us (i+1)=wX j es us i/\CD j es us (i+1)=CD j es us i++ [(i:Int)]:=by
 rw[Kf] at c;constructor
 ·rw[wX,B8,aD h,aD c]
 rw[CD,aD h,aD c]
theorem b5020 (nm:Str)(c:List (List Sid))(n sp:Int)(pu:List Int)(o:List Opn)(s:List Siz)(g:List Bar)(m u t2 t3 t4:Int)(lo:List Lod)(f:List Alw)(es:List dR)(us:List Bool)(h:gQ ⟨nm,c,n,sp,pu,o,s,g,m,u,t2,t3,t4,lo,f⟩=0/\length (α:=dR) es=length (α:=Bool) us/\length (α:=dR) es<=4096):body Tp [EJ,Zq] { asks:=[(1,[3])] } false f20 [.agg [S nm,.seq qc c,I n,I sp,.seq (.int .i64) pu,.seq qg o,.seq qh s,.seq qb g,I m,I u,I t2,I t3,I t4,.seq qi lo,.seq qe f],.seq zC es,.seq .bool us] (.tup [.agg (Va (wX ⟨nm,c,n,sp,pu,o,s,g,m,u,t2,t3,t4,lo,f⟩ es us (length (α:=dR) es))),.any,I 0]):=by
 obtain ⟨A,J,B⟩:=h;have F:length (α:=List Sid) c<=40:=(Nn A).pl;(repeat' first|refine ZR ?_|refine Zg fun _=>?_);refine Ask.mk ⟨{ X:=Nat,pre:=fun i=>i<=length (α:=dR) es,mod:=fun i _=>[(33,I i),(9,.ref 3 1)],heap:=fun i H=>cA (cA H 0 (.cells (Va (wX ⟨nm,c,n,sp,pu,o,s,g,m,u,t2,t3,t4,lo,f⟩ es us i)) 34)) 3 (.vec 1 (.int .i64) (CD ⟨nm,c,n,sp,pu,o,s,g,m,u,t2,t3,t4,lo,f⟩ es us i) 3),objs:=[3],mu:=fun i=>length (α:=dR) es-i },rfl,?_⟩;(repeat refine ZG ?_);refine ⟨⟨(0:Nat),aF _,ZE⟩,fun (i:Nat) hi=>?_⟩;have hi:i<=length (α:=dR) es:=hi;have D:=EP ⟨nm,c,n,sp,pu,o,s,g,m,u,t2,t3,t4,lo,f⟩ es us i;by_cases x:i<length (α:=dR) es
 ·have C:i<length (α:=Bool) us:=om;have E:length (α:=List Sid) (wX ⟨nm,c,n,sp,pu,o,s,g,m,u,t2,t3,t4,lo,f⟩ es us i).pl<=40:=(Nn (Ut A es us i)).pl;by_cases y:getD (α:=Bool) us i false=true
  ·obtain ⟨e1,e2⟩:=O5 (j:=⟨nm,c,n,sp,pu,o,s,g,m,u,t2,t3,t4,lo,f⟩) (es:=es) y;(repeat' first|refine ZR ?_|refine Zg fun _=>?_);refine ⟨(i+1:Nat),by show length (α:=dR) es-(i+1)<length (α:=dR) es-i;omega,x,?_⟩;(repeat' first|exact trivial|rfl|exact Nat.one_pos|apply aA);all_goals
    (conv=>whnf)
    first
     | (rw[e1];done)
     | (rw[e2];done)
  by_cases z:(mA (Fk (wX ⟨nm,c,n,sp,pu,o,s,g,m,u,t2,t3,t4,lo,f⟩ es us i)) (GY (getD (α:=dR) es i Us))).2=0
  ·obtain ⟨e1,e2⟩:=O6 y z;(repeat' first|refine ZR ?_|refine Zg fun _=>?_);refine ⟨(i+1:Nat),by show length (α:=dR) es-(i+1)<length (α:=dR) es-i;omega,x,?_⟩;(repeat' first|exact trivial|rfl|exact Nat.one_pos|apply aA);all_goals
    (conv=>whnf)
    first
     | (rw[e1];done)
     | (rw[e2];done)
  obtain ⟨e1,e2⟩:=TO y z;(repeat' first|refine ZR ?_|refine Zg fun _=>?_);refine ⟨(i+1:Nat),by show length (α:=dR) es-(i+1)<length (α:=dR) es-i;omega,x,?_⟩;(repeat' first|exact trivial|rfl|exact Nat.one_pos|apply aA);all_goals
   (conv=>whnf)
   first
    | (rw[e1];done)
    | (rw[e2];done)
 have e:i=length (α:=dR) es:=om;subst e;exact ZRF
def LA:Con:=aV 20 false fun args K=>match args with
 | [.agg a0,.seq (.pair (.int .i64) (.pair (.int .i64) (.pair (.pair (.int .i64) (.pair (.int .i64) (.pair (.int .i64) (.pair (.int .i64) (.pair .bool (.pair (.int .i64) (.int .i64))))))) (.pair (.pair (.int .i64) (.pair .str (.pair .str (.pair .str .str)))) (.pair (.pair (.int .i64) (.pair (.int .i64) (.int .i64))) (.pair (.pair (.int .i64) (.pair (.int .i64) (.pair (.int .i64) (.pair (.int .i64) (.pair (.int .i64) (.slice (.pair (.int .i64) (.int .i64)))))))) (.pair (.pair (.int .i64) (.pair (.int .i64) .str)) (.pair (.pair (.int .i64) (.pair (.int .i64) (.pair (.int .i64) (.pair (.int .i64) (.int .i64))))) (.pair (.pair (.int .i64) (.pair (.int .i64) (.pair (.int .i64) (.int .i64)))) (.pair (.int .i64) .str)))))))))) es,.seq .bool us]=>sJ a0 fun nm pl og sp pu op sz br kf t1 t2 t3 t4 lo al=>Need (gQ ⟨nm,pl,og,sp,pu,op,sz,br,kf,t1,t2,t3,t4,lo,al⟩=0/\length (α:=dR) es=length (α:=Bool) us/\length (α:=dR) es<=4096) (K (.tup [.agg (Va (wX ⟨nm,pl,og,sp,pu,op,sz,br,kf,t1,t2,t3,t4,lo,al⟩ es us (length (α:=dR) es))),.any,I 0]))
 | _=>False
theorem k5020:aM Tp LA:=by
 refine kO func20 fun c K h=>?_;simp only[LA] at h;split at h
 ·rename_i J n F;refine mB h fun s y u A z x B m o C t2 D E lo g e f=>?_;subst e;exact ⟨_,f.go,gH func20 ntmps20 (by simp[KW,K9]) (b5020 s y u A z x B m o C t2 D E lo g n F f.ok)⟩
 cases h
theorem b5007 (nm:Str)(n:List (List Sid))(g sp:Int)(pu:List Int)(m:List Opn)(o:List Siz)(e:List Bar)(f s t2 t3 t4:Int)(lo:List Lod)(c:List Alw)(es:List dR)(us:List Bool)(h:gQ ⟨nm,n,g,sp,pu,m,o,e,f,s,t2,t3,t4,lo,c⟩=0/\length (α:=dR) es=length (α:=Bool) us/\length (α:=dR) es<=4096):body Tp [LA] {} false f7 [.agg [S nm,.seq qc n,I g,I sp,.seq (.int .i64) pu,.seq qg m,.seq qh o,.seq qb e,I f,I s,I t2,I t3,I t4,.seq qi lo,.seq qe c,.seq zC es,.seq .bool us]] (.tup [.agg (Va (wX ⟨nm,n,g,sp,pu,m,o,e,f,s,t2,t3,t4,lo,c⟩ es us (length (α:=dR) es))),I 0]):=by
 exact ZRF
def ER:Con:=aV 7 false fun args K=>match args with
 | [.agg a0]=>Nl a0 fun nm pl og sp pu op sz br kf t1 t2 t3 t4 lo al es us=>Need (gQ ⟨nm,pl,og,sp,pu,op,sz,br,kf,t1,t2,t3,t4,lo,al⟩=0/\length (α:=dR) es=length (α:=Bool) us/\length (α:=dR) es<=4096) (K (.tup [.agg (Va (wX ⟨nm,pl,og,sp,pu,op,sz,br,kf,t1,t2,t3,t4,lo,al⟩ es us (length (α:=dR) es))),I 0]))
 | _=>False
theorem LB:aM Tp ER:=by
 refine kO func7 fun c K h=>?_;simp only[ER] at h;split at h
 ·rename_i J;refine Fj h fun s y u A z x B m o C t2 D E lo g n F e f=>?_;subst e;exact ⟨_,f.go,gH func7 ntmps7 (by simp[k5020]) (b5007 s y u A z x B m o C t2 D E lo g n F f.ok)⟩
 cases h
theorem b5048 (nm:Str)(c:List (List Sid))(n sp:Int)(pu:List Int)(o:List Opn)(s:List Siz)(f:List Bar)(m u t2 t3 t4:Int)(lo:List Lod)(e:List Alw)(es:List dR)(us:List Bool)(h:gQ ⟨nm,c,n,sp,pu,o,s,f,m,u,t2,t3,t4,lo,e⟩=0/\length (α:=dR) es=length (α:=Bool) us/\length (α:=dR) es<=4096):body Tp [EJ] {} true f48 [.agg [S nm,.seq qc c,I n,I sp,.seq (.int .i64) pu,.seq qg o,.seq qh s,.seq qb f,I m,I u,I t2,I t3,I t4,.seq qi lo,.seq qe e,.seq zC es,.seq .bool us]] (.val (.bool true)):=by
 obtain ⟨x,z,g⟩:=h;have y:length (α:=List Sid) c<=40:=(Nn x).pl;(repeat' first|refine ZR ?_|refine Zg fun _=>?_);(conv=>whnf);exact ⟨fun _=>rfl,fun _=>om⟩
def LC:Con:=aV 48 true fun args K=>match args with
 | [.agg a0]=>Nl a0 fun nm pl og sp pu op sz br kf t1 t2 t3 t4 lo al es us=>Need (gQ ⟨nm,pl,og,sp,pu,op,sz,br,kf,t1,t2,t3,t4,lo,al⟩=0/\length (α:=dR) es=length (α:=Bool) us/\length (α:=dR) es<=4096) (K (.val (.bool true)))
 | _=>False
theorem k5048:aM Tp LC:=by
 refine kO func48 fun c K h=>?_;simp only[LC] at h;split at h
 ·rename_i J;refine Fj h fun s y u A z x B m o C t2 D E lo g n F e f=>?_;subst e;exact ⟨_,f.go,gH func48 ntmps48 (by simp[KW]) (b5048 s y u A z x B m o C t2 D E lo g n F f.ok)⟩
 cases h
theorem b5019 (nm:Str)(o:List (List Sid))(m sp:Int)(pu:List Int)(n:List Opn)(s:List Siz)(e:List Bar)(g u t2 t3 t4:Int)(lo:List Lod)(c:List Alw)(es:List dR)(us:List Bool)(i:Int)(h:(gQ ⟨nm,o,m,sp,pu,n,s,e,g,u,t2,t3,t4,lo,c⟩=0/\length (α:=dR) es=length (α:=Bool) us/\length (α:=dR) es<=4096)/\(0<=i/\i<(length (α:=dR) es:Int))/\¬getD (α:=Bool) us i.toNat false=true):body Tp [LC,EI,EH] {} false f19 [.agg [S nm,.seq qc o,I m,I sp,.seq (.int .i64) pu,.seq qg n,.seq qh s,.seq qb e,I g,I u,I t2,I t3,I t4,.seq qi lo,.seq qe c,.seq zC es,.seq .bool us],I i,.val (.bool true)] (.tup [.agg [S nm,.seq qc o,I m,I sp,.seq (.int .i64) pu,.seq qg n,.seq qh s,.seq qb e,I g,I u,I t2,I t3,I t4,.seq qi lo,.seq qe c,.seq zC es,.seq .bool (List.set (α:=Bool) us i.toNat true)],I 0]):=by
 obtain ⟨y,⟨z,A⟩,f⟩:=h;obtain ⟨p,rfl⟩:∃p:Nat,i=p:=⟨i.toNat,om⟩;have D:=y.2.1;have x:=y.2.2;have B:p<length (α:=Bool) us:=om;have f:¬getD (α:=Bool) us p false=true:=f;have C:¬(getD (α:=Bool) us p false=true↔true=true):=fun q=>f (q.2 rfl);(repeat'((conv=>whnf);first|refine Zg fun _=>?_|refine Zn ?_|refine Zj ?_|apply pI|apply pJ|exact Zf|refine Zc ?_ ?_|refine Zl ?_|refine Zm ?_|fail));exact ZF
def LD:Con:=aV 19 false fun args K=>match args with
 | [.agg a0,.val (.int .i64 i),.val (.bool true)]=>Nl a0 fun nm pl og sp pu op sz br kf t1 t2 t3 t4 lo al es us=>Need ((gQ ⟨nm,pl,og,sp,pu,op,sz,br,kf,t1,t2,t3,t4,lo,al⟩=0/\length (α:=dR) es=length (α:=Bool) us/\length (α:=dR) es<=4096)/\(0<=i/\i<(length (α:=dR) es:Int))/\¬getD (α:=Bool) us i.toNat false=true) (K (.tup [.agg [S nm,.seq qc pl,I og,I sp,.seq (.int .i64) pu,.seq qg op,.seq qh sz,.seq qb br,I kf,I t1,I t2,I t3,I t4,.seq qi lo,.seq qe al,.seq zC es,.seq .bool (List.set (α:=Bool) us i.toNat true)],I 0]))
 | _=>False
theorem k5019:aM Tp LD:=by
 refine kO func19 fun c K h=>?_;simp only[LD] at h;split at h
 ·rename_i J i;refine Fj h fun s y u A z x B m o C t2 D E lo g n F e f=>?_;subst e;exact ⟨_,f.go,gH func19 ntmps19 (by simp[k5048,KT,KO]) (b5019 s y u A z x B m o C t2 D E lo g n F i f.ok)⟩
 cases h
theorem b5006 (nm:Str)(n:List (List Sid))(g sp:Int)(pu:List Int)(m:List Opn)(o:List Siz)(e:List Bar)(f s t2 t3 t4:Int)(lo:List Lod)(c:List Alw)(es:List dR)(us:List Bool)(i:Int)(h:(gQ ⟨nm,n,g,sp,pu,m,o,e,f,s,t2,t3,t4,lo,c⟩=0/\length (α:=dR) es=length (α:=Bool) us/\length (α:=dR) es<=4096)/\(0<=i/\i<(length (α:=dR) es:Int))/\¬getD (α:=Bool) us i.toNat false=true):body Tp [LD] {} false f6 [.agg [S nm,.seq qc n,I g,I sp,.seq (.int .i64) pu,.seq qg m,.seq qh o,.seq qb e,I f,I s,I t2,I t3,I t4,.seq qi lo,.seq qe c,.seq zC es,.seq .bool us],I i] (.tup [.agg [S nm,.seq qc n,I g,I sp,.seq (.int .i64) pu,.seq qg m,.seq qh o,.seq qb e,I f,I s,I t2,I t3,I t4,.seq qi lo,.seq qe c,.seq zC es,.seq .bool (List.set (α:=Bool) us i.toNat true)],I 0]):=by
 exact ZRF
def LF:Con:=aV 6 false fun args K=>match args with
 | [.agg a0,.val (.int .i64 i)]=>Nl a0 fun nm pl og sp pu op sz br kf t1 t2 t3 t4 lo al es us=>Need ((gQ ⟨nm,pl,og,sp,pu,op,sz,br,kf,t1,t2,t3,t4,lo,al⟩=0/\length (α:=dR) es=length (α:=Bool) us/\length (α:=dR) es<=4096)/\(0<=i/\i<(length (α:=dR) es:Int))/\¬getD (α:=Bool) us i.toNat false=true) (K (.tup [.agg [S nm,.seq qc pl,I og,I sp,.seq (.int .i64) pu,.seq qg op,.seq qh sz,.seq qb br,I kf,I t1,I t2,I t3,I t4,.seq qi lo,.seq qe al,.seq zC es,.seq .bool (List.set (α:=Bool) us i.toNat true)],I 0]))
 | _=>False
theorem SE:aM Tp LF:=by
 refine kO func6 fun c K h=>?_;simp only[LF] at h;split at h
 ·rename_i J i;refine Fj h fun s y u A z x B m o C t2 D E lo g n F e f=>?_;subst e;exact ⟨_,f.go,gH func6 ntmps6 (by simp[k5019]) (b5006 s y u A z x B m o C t2 D E lo g n F i f.ok)⟩
 cases h
theorem b5047 (nm:Str)(g:List (List Sid))(og sp:Int)(pu:List Int)(op:List Opn)(sz:List Siz)(C:List Bar)(E t1 t2 t3 t4:Int)(lo:List Lod)(n:List Alw)(k f sx sy sr su:Int)(m:Prop)(c:Decidable m)(sl so os:Int)(W X Y Z:Str)(zk zw zd D z B y bx:Int)(A:List Gp)(e F:Int)(J:Str)(x ad s u o e1 e2 e3 e4 K:Int)(tx:Str)(h:length (α:=List Sid) g<=40/\f<=9223372036854775807):body Tp [Zq] {} true f47 [.agg [S nm,.seq qc g,I og,I sp,.seq (.int .i64) pu,.seq qg op,.seq qh sz,.seq qb C,I E,I t1,I t2,I t3,I t4,.seq qi lo,.seq qe n],.agg (I k::I f::I sx::I sy::I sr::I su:: .bl m c::I sl::I so::I os::S W::S X::S Y::S Z::I zk::I zw::I zd::I D::I z::I B::I y::I bx:: .seq qj A::I e::I F::S J::I x::I ad::I s::I u::I o::I e1::I e2::I e3::I e4::I K::S tx:: [])] (I (mA ⟨nm,g,og,sp,pu,op,sz,C,E,t1,t2,t3,t4,lo,n⟩ (k,f,(sx,sy,sr,su,@decide m c,sl,so),(os,W,X,Y,Z),(zk,zw,zd),(D,z,B,y,bx,A),(e,F,J),(x,ad,s,u,o),(e1,e2,e3,e4),K,tx)).2):=by
 exact ZRF
def LG:Con:=aV 47 true fun args K=>match args with
 | [.agg a0,.agg a1]=>sJ a0 fun nm pl og sp pu op sz br kf t1 t2 t3 t4 lo al=>pQ a1 fun k ix sx sy sr su sg dsg sl so os o1 o2 o3 o4 zk zw zd bw bd bl bc bx bg lki ls lw aw ad ap av an e1 e2 e3 e4 nu tx=>Need (length (α:=List Sid) pl<=40/\ix<=9223372036854775807) (K (I (mA ⟨nm,pl,og,sp,pu,op,sz,br,kf,t1,t2,t3,t4,lo,al⟩ (k,ix,(sx,sy,sr,su,@decide sg dsg,sl,so),(os,o1,o2,o3,o4),(zk,zw,zd),(bw,bd,bl,bc,bx,bg),(lki,ls,lw),(aw,ad,ap,av,an),(e1,e2,e3,e4),nu,tx)).2))
 | _=>False
theorem k5047:aM Tp LG:=by
 refine kO func47 fun g K h=>?_;simp only[LG] at h;split at h
 ·rename_i a0 a1;refine mB h fun Z pl og sp pu op sz D W t1 t2 t3 t4 lo o e F=>?_;subst e;refine kD F fun k J sx sy sr su sg c sl so os o1 o2 o3 o4 zk zw zd E A C z bx B f X Y y n u x s e1 e2 e3 e4 nu tx e m=>?_;subst e;exact ⟨_,m.go,gH func47 ntmps47 (by simp[K9]) (b5047 Z pl og sp pu op sz D W t1 t2 t3 t4 lo o k J sx sy sr su sg c sl so os o1 o2 o3 o4 zk zw zd E A C z bx B f X Y y n u x s e1 e2 e3 e4 nu tx m.ok)⟩
 cases h
theorem b5017 (nm:Str)(s:List (List Sid))(n sp:Int)(pu:List Int)(o:List Opn)(u:List Siz)(g:List Bar)(m x t2 t3 t4:Int)(lo:List Lod)(f:List Alw)(es:List dR)(us:List Bool)(k y sx sy sr su:Int)(z:Prop)(c:Decidable z)(sl so os:Int)(o1 o2 o3 o4:Str)(zk zw zd W F K E bx:Int)(J:List Gp)(e X:Int)(Y:Str)(D ad B C A e1 e2 e3 e4 Z:Int)(tx:Str)(h:(gQ ⟨nm,s,n,sp,pu,o,u,g,m,x,t2,t3,t4,lo,f⟩=0/\length (α:=dR) es=length (α:=Bool) us/\length (α:=dR) es<=4096)/\(length (α:=dR) es<4096/\y<=9223372036854775807)/\(mA (Fk (wX ⟨nm,s,n,sp,pu,o,u,g,m,x,t2,t3,t4,lo,f⟩ es us (length (α:=dR) es))) (k,y,(sx,sy,sr,su,@decide z c,sl,so),(os,o1,o2,o3,o4),(zk,zw,zd),(W,F,K,E,bx,J),(e,X,Y),(D,ad,B,C,A),(e1,e2,e3,e4),Z,tx)).2=0):body Tp [ER,LG,EI,EH] {} false f17 [.agg [S nm,.seq qc s,I n,I sp,.seq (.int .i64) pu,.seq qg o,.seq qh u,.seq qb g,I m,I x,I t2,I t3,I t4,.seq qi lo,.seq qe f,.seq zC es,.seq .bool us],.agg (I k::I y::I sx::I sy::I sr::I su:: .bl z c::I sl::I so::I os::S o1::S o2::S o3::S o4::I zk::I zw::I zd::I W::I F::I K::I E::I bx:: .seq qj J::I e::I X::S Y::I D::I ad::I B::I C::I A::I e1::I e2::I e3::I e4::I Z::S tx:: [])] (.tup [.agg [S nm,.seq qc s,I n,I sp,.seq (.int .i64) pu,.seq qg o,.seq qh u,.seq qb g,I m,I x,I t2,I t3,I t4,.seq qi lo,.seq qe f,.seq zC (es++ [(k,y,(sx,sy,sr,su,@decide z c,sl,so),(os,o1,o2,o3,o4),(zk,zw,zd),(W,F,K,E,bx,J),(e,X,Y),(D,ad,B,C,A),(e1,e2,e3,e4),Z,tx)]),.seq .bool (us++ [false])],I 0]):=by
 obtain ⟨hv,⟨a1,a0⟩,ha⟩:=h;have hl:=hv.2.1;have a2:length (α:=List Sid) (wX ⟨nm,s,n,sp,pu,o,u,g,m,x,t2,t3,t4,lo,f⟩ es us (length (α:=dR) es)).pl<=40:=(Nn (Ut hv.1 es us _)).pl;(repeat'((conv=>whnf);first|refine Zg fun _=>?_|refine Zn ?_|apply pI|apply pJ|(apply PinH.mk;apply aC;apply aC)|exact Zf|refine Zc ?_ ?_|refine Zl ?_|refine Zm ?_|fail));exact ZF
theorem O7 {P:Program}{fresh:Bool}{f:FuncId}{args c:List SV}{r:SV}(g:ent.entL args c)(h:Tri P fresh f c r):Tri P fresh f args r:=fun ok w vs m e n=>h ok w vs m e (jH g n)
def vC (l:List SV)(K:(p:Prop)->Decidable p->List SV->Prop):Prop:=match l with
 | .bl p d::r=>K p d r
 | .val (.bool false)::r=>K False instDecidableFalse r
 | _=>False
def VT (t:Ty)(l:List SV)(K:List t.T->List SV->Prop):Prop:=match l with
 | .seq t' xs::r=>if h:t'=t then Hu h xs fun xs=>K xs r else False
 | .val (.slice none 0 0)::r=>K [] r
 | _=>False
theorem vC_e {l:List SV}{K:(p:Prop)->Decidable p->List SV->Prop}(h:vC l K):∃v p d r,l=v::r/\ent v (.bl p d)/\K p d r:=by
 unfold vC at h;split at h
 ·exact ⟨_,_,_,_,rfl,cJ,h⟩
 ·exact ⟨_,False,_,_,rfl,id,h⟩
 cases h
theorem LH {t:Ty}{l:List SV}{K:List t.T->List SV->Prop}(h:VT t l K):∃v xs r,l=v::r/\ent v (.seq t xs)/\K xs r:=by
 unfold VT at h;split at h
 ·split at h
  ·rename_i e;subst e;rw[pZ] at h;refine ⟨_,_,_,rfl,?_,h⟩;show yQ _ _ _ _;unfold yQ;rw[dif_pos rfl,pZ]
  cases h
 ·exact ⟨_,[],_,rfl,rfl,h⟩
 cases h
def CE (l:List SV)(K:Str->List (List Sid)->Int->Int->List Int->List Opn->List Siz->List Bar->Int->Int->Int->Int->Int->List Lod->List Alw->List dR->List Bool->Prop):Prop:=tC l fun nm l=>qC qc l fun pl l=>iC l fun og l=>iC l fun sp l=>qC (.int .i64) l fun pu l=>qC qg l fun op l=>qC qh l fun sz l=>qC qb l fun br l=>iC l fun kf l=>iC l fun t1 l=>iC l fun t2 l=>iC l fun t3 l=>iC l fun t4 l=>qC qi l fun lo l=>qC qe l fun al l=>VT qa l fun es l=>VT .bool l fun us l=>nC l (K nm pl og sp pu op sz br kf t1 t2 t3 t4 lo al es us)
theorem LI {l:List SV}{K:Str->List (List Sid)->Int->Int->List Int->List Opn->List Siz->List Bar->Int->Int->Int->Int->Int->List Lod->List Alw->List dR->List Bool->Prop}{C:Prop}(h:CE l K)(f:∀(nm:Str) (u:List (List Sid)) (o:Int) (sp:Int) (pu:List Int) (s:List Opn) (x:List Siz) (m:List Bar) (n:Int) (y:Int) (t2:Int) (t3:Int) (t4:Int) (lo:List Lod) (g:List Alw) (es:List dR) (us:List Bool) (c e:SV),ent c (.seq qa es)->ent e (.seq .bool us)->l=(S nm:: .seq qc u::I o::I sp:: .seq (.int .i64) pu:: .seq qg s:: .seq qh x:: .seq qb m::I n::I y::I t2::I t3::I t4:: .seq qi lo:: .seq qe g::c::e:: [])->K nm u o sp pu s x m n y t2 t3 t4 lo g es us->C):C:=by
 unfold CE at h;obtain ⟨nm,l,rfl,Y⟩:=Du h;obtain ⟨u,l,rfl,Z⟩:=tO Y;obtain ⟨o,l,rfl,h2⟩:=fC Z;obtain ⟨sp,l,rfl,h3⟩:=fC h2;obtain ⟨pu,l,rfl,h4⟩:=tO h3;obtain ⟨s,l,rfl,h5⟩:=tO h4;obtain ⟨x,l,rfl,h6⟩:=tO h5;obtain ⟨m,l,rfl,h7⟩:=tO h6;obtain ⟨n,l,rfl,h8⟩:=fC h7;obtain ⟨y,l,rfl,h9⟩:=fC h8;obtain ⟨t2,l,rfl,B⟩:=fC h9;obtain ⟨t3,l,rfl,D⟩:=fC B;obtain ⟨t4,l,rfl,E⟩:=fC D;obtain ⟨lo,l,rfl,F⟩:=tO E;obtain ⟨g,l,rfl,J⟩:=tO F;obtain ⟨c,es,l,rfl,z,W⟩:=LH J;obtain ⟨e,us,l,rfl,A,X⟩:=LH W;obtain ⟨rfl,hh⟩:=KZ X;exact f nm u o sp pu s x m n y t2 t3 t4 lo g es us c e z A rfl hh
def CF (l:List SV)(K:Int->Int->Int->Int->Int->Int->(p:Prop)->Decidable p->Int->Int->Int->Str->Str->Str->Str->Int->Int->Int->Int->Int->Int->Int->Int->List Gp->Int->Int->Str->Int->Int->Int->Int->Int->Int->Int->Int->Int->Int->Str->Prop):Prop:=iC l fun k l=>iC l fun ix l=>iC l fun sx l=>iC l fun sy l=>iC l fun sr l=>iC l fun su l=>vC l fun sg dsg l=>iC l fun sl l=>iC l fun so l=>iC l fun os l=>tC l fun o1 l=>tC l fun o2 l=>tC l fun o3 l=>tC l fun o4 l=>iC l fun zk l=>iC l fun zw l=>iC l fun zd l=>iC l fun bw l=>iC l fun bd l=>iC l fun bl l=>iC l fun bc l=>iC l fun bx l=>VT qj l fun bg l=>iC l fun lki l=>iC l fun ls l=>tC l fun lw l=>iC l fun aw l=>iC l fun ad l=>iC l fun ap l=>iC l fun av l=>iC l fun an l=>iC l fun e1 l=>iC l fun e2 l=>iC l fun e3 l=>iC l fun e4 l=>iC l fun nu l=>tC l fun tx l=>nC l (K k ix sx sy sr su sg dsg sl so os o1 o2 o3 o4 zk zw zd bw bd bl bc bx bg lki ls lw aw ad ap av an e1 e2 e3 e4 nu tx)
theorem LJ {l:List SV}{K:Int->Int->Int->Int->Int->Int->(p:Prop)->Decidable p->Int->Int->Int->Str->Str->Str->Str->Int->Int->Int->Int->Int->Int->Int->Int->List Gp->Int->Int->Str->Int->Int->Int->Int->Int->Int->Int->Int->Int->Int->Str->Prop}{C:Prop}(h:CF l K)(f:∀(k:Int) (E:Int) (sx:Int) (sy:Int) (sr:Int) (su:Int) (n:Prop) (c:Decidable n) (sl:Int) (so:Int) (os:Int) (X:Str) (Y:Str) (Z:Str) (o4:Str) (zk:Int) (zw:Int) (zd:Int) (D:Int) (z:Int) (B:Int) (y:Int) (bx:Int) (A:List Gp) (e:Int) (F:Int) (J:Str) (x:Int) (ad:Int) (s:Int) (u:Int) (o:Int) (e1:Int) (e2:Int) (e3:Int) (e4:Int) (W:Int) (tx:Str) (m g:SV),ent m (.bl n c)->ent g (.seq qj A)->l=(I k::I E::I sx::I sy::I sr::I su::m::I sl::I so::I os::S X::S Y::S Z::S o4::I zk::I zw::I zd::I D::I z::I B::I y::I bx::g::I e::I F::S J::I x::I ad::I s::I u::I o::I e1::I e2::I e3::I e4::I W::S tx:: [])->K k E sx sy sr su n c sl so os X Y Z o4 zk zw zd D z B y bx A e F J x ad s u o e1 e2 e3 e4 W tx->C):C:=by
 unfold CF at h;obtain ⟨k,l,rfl,h0⟩:=fC h;obtain ⟨E,l,rfl,h1⟩:=fC h0;obtain ⟨sx,l,rfl,h2⟩:=fC h1;obtain ⟨sy,l,rfl,h3⟩:=fC h2;obtain ⟨sr,l,rfl,h4⟩:=fC h3;obtain ⟨su,l,rfl,h5⟩:=fC h4;obtain ⟨m,n,c,l,rfl,a1,h6⟩:=vC_e h5;obtain ⟨sl,l,rfl,h7⟩:=fC h6;obtain ⟨so,l,rfl,h8⟩:=fC h7;obtain ⟨os,l,rfl,h9⟩:=fC h8;obtain ⟨X,l,rfl,a2⟩:=Du h9;obtain ⟨Y,l,rfl,a3⟩:=Du a2;obtain ⟨Z,l,rfl,a4⟩:=Du a3;obtain ⟨o4,l,rfl,a5⟩:=Du a4;obtain ⟨zk,l,rfl,a6⟩:=fC a5;obtain ⟨zw,l,rfl,a7⟩:=fC a6;obtain ⟨zd,l,rfl,a8⟩:=fC a7;obtain ⟨D,l,rfl,a9⟩:=fC a8;obtain ⟨z,l,rfl,a'⟩:=fC a9;obtain ⟨B,l,rfl,b1⟩:=fC a';obtain ⟨y,l,rfl,b2⟩:=fC b1;obtain ⟨bx,l,rfl,b3⟩:=fC b2;obtain ⟨g,A,l,rfl,a0,b4⟩:=LH b3;obtain ⟨e,l,rfl,b5⟩:=fC b4;obtain ⟨F,l,rfl,b6⟩:=fC b5;obtain ⟨J,l,rfl,b7⟩:=Du b6;obtain ⟨x,l,rfl,b8⟩:=fC b7;obtain ⟨ad,l,rfl,b9⟩:=fC b8;obtain ⟨s,l,rfl,b'⟩:=fC b9;obtain ⟨u,l,rfl,c0⟩:=fC b';obtain ⟨o,l,rfl,c1⟩:=fC c0;obtain ⟨e1,l,rfl,c2⟩:=fC c1;obtain ⟨e2,l,rfl,c3⟩:=fC c2;obtain ⟨e3,l,rfl,c4⟩:=fC c3;obtain ⟨e4,l,rfl,c5⟩:=fC c4;obtain ⟨W,l,rfl,c6⟩:=fC c5;obtain ⟨tx,l,rfl,c7⟩:=Du c6;obtain ⟨rfl,hh⟩:=KZ c7;exact f k E sx sy sr su n c sl so os X Y Z o4 zk zw zd D z B y bx A e F J x ad s u o e1 e2 e3 e4 W tx m g a1 a0 rfl hh
def SF:Con:=aV 17 false fun args K=>match args with
 | [.agg a0,.agg a1]=>CE a0 fun nm pl og sp pu op sz br kf t1 t2 t3 t4 lo al es us=>CF a1 fun k ix sx sy sr su sg dsg sl so os o1 o2 o3 o4 zk zw zd bw bd bl bc bx bg lki ls lw aw ad ap av an e1 e2 e3 e4 nu tx=>Need ((gQ ⟨nm,pl,og,sp,pu,op,sz,br,kf,t1,t2,t3,t4,lo,al⟩=0/\length (α:=dR) es=length (α:=Bool) us/\length (α:=dR) es<=4096)/\(length (α:=dR) es<4096/\ix<=9223372036854775807)/\(mA (Fk (wX ⟨nm,pl,og,sp,pu,op,sz,br,kf,t1,t2,t3,t4,lo,al⟩ es us (length (α:=dR) es))) (k,ix,(sx,sy,sr,su,@decide sg dsg,sl,so),(os,o1,o2,o3,o4),(zk,zw,zd),(bw,bd,bl,bc,bx,bg),(lki,ls,lw),(aw,ad,ap,av,an),(e1,e2,e3,e4),nu,tx)).2=0) (K (.tup [.agg [S nm,.seq qc pl,I og,I sp,.seq (.int .i64) pu,.seq qg op,.seq qh sz,.seq qb br,I kf,I t1,I t2,I t3,I t4,.seq qi lo,.seq qe al,.seq zC (es++ [(k,ix,(sx,sy,sr,su,@decide sg dsg,sl,so),(os,o1,o2,o3,o4),(zk,zw,zd),(bw,bd,bl,bc,bx,bg),(lki,ls,lw),(aw,ad,ap,av,an),(e1,e2,e3,e4),nu,tx)]),.seq .bool (us++ [false])],I 0]))
 | _=>False
theorem k5017:aM Tp SF:=by
 refine kO func17 fun g K h=>?_;simp only[SF] at h;split at h
 ·rename_i a0 a1;refine LI h fun nm pl og sp pu op sz W kf t1 t2 t3 t4 lo y Y us a3 a5 n s e Z=>?_;subst e;refine LJ Z fun k ix sx sy sr su sg c sl so os o1 o2 o3 o4 zk zw zd X E J D bx F f ls lw C x A B z e1 e2 e3 e4 nu tx a4 a2 o m e u=>?_;subst e;refine ⟨_,u.go,O7 ?_ (gH func17 ntmps17 (by simp[LB,k5047,KT,KO]) (b5017 nm pl og sp pu op sz W kf t1 t2 t3 t4 lo y Y us k ix sx sy sr su sg c sl so os o1 o2 o3 o4 zk zw zd X E J D bx F f ls lw C x A B z e1 e2 e3 e4 nu tx u.ok))⟩;(conv=>whnf);(repeat' first|exact trivial|rfl|apply aA);all_goals first
   | assumption
   | ((conv=>whnf);rfl)
 cases h
def c5046:Con:=aV 46 true fun | [.val (.int .i64 x),.val (.int .i64 y)],K=>K (.agg [I x,I y,I 1,I 1,.val (.bool false),I 0,I 500]) | _,_=>False
theorem k5046:aM Tp c5046:=by
 refine kQ {} func46 ntmps46 kn fun _ _ h=>?_;split at h;case h_2=>cases h
 refine kb h ?_;exact ZF
def c5016:Con:=aV 16 false fun | [.str nm],K=>K (.agg [S nm,.seq (.slice Hd) awR,I 0,I 800,.seq (.int .i64) [],.seq Ui [],.seq Uj VQ,.seq tB [],I 4,I 250,I 400,I 80,I 40,.seq Uk [],.seq Ul []]) | _,_=>False
theorem k5016:aM Tp c5016:=by
 refine kQ {} func16 ntmps16 (kc k5046 kn) fun _ _ h=>?_;split at h;case h_2=>cases h
 refine kb h ?_;exact ZRF
abbrev awX:dR:=(8,0,(0,0,0,0,@decide False instDecidableFalse,0,0),(0,[],[],[],[]),(0,0,0),(0,0,0,0,0,[]),(0,0,[]),(0,0,0,0,0),(0,0,0,0),7,[])
abbrev awY:dR:=(4,0,(0,0,0,0,@decide False instDecidableFalse,0,0),(0,[],[],[],[]),(0,0,0),(0,0,0,0,0,[]),(0,0,[]),(0,0,0,0,0),(0,0,0,0),900,[])
abbrev SG:List dR:=([]++ [awX])++ [awY]
abbrev XN:List Bool:=List.set (α:=Bool) (([]++ [false])++ [false]) (0:Int).toNat true
theorem CG:wX (zF 4 []) SG XN (length (α:=dR) SG)=zF 4 [900]:=aw_s2
def SH:Con:=aV 5 true fun | [],K=>K (.val (.bool true)) | _,_=>False
theorem k5005:aM Tp SH:=by
 refine kQ {} func5 ntmps5 (kc k5016 (kc k5017 (kc SE (kc LB (kc RZ kn))))) fun _ _ h=>?_;split at h;case h_2=>cases h
 refine kb h ?_;have c:gQ (zF 4 [])=0:=Nm de de;have e:(wX (zF 4 []) SG XN (length (α:=dR) SG)).nm=XM:=by rw[CG]
 have f:(wX (zF 4 []) SG XN (length (α:=dR) SG)).kf=4:=by rw[CG]
 have g:(wX (zF 4 []) SG XN (length (α:=dR) SG)).pu= [900]:=by rw[CG]
 (repeat refine ZR ?_);(conv=>whnf);refine Need.mk ⟨⟨c,rfl,de⟩,⟨de,de⟩,aR Prod.snd (VR de de)⟩ ?_;(repeat refine ZR ?_);(conv=>whnf);refine Need.mk ⟨⟨c,rfl,de⟩,⟨de,de⟩,(aR (fun j=>(mA j CB).2) aw_s1).trans (aR Prod.snd (VS de))⟩ ?_;(repeat refine ZR ?_);(conv=>whnf)
def LK (j:JobV)(es:List dR)(us:List Bool):Prop:=¬TC j (Py j.pl 8) es us/\Zd j=0/\es.length=us.length
theorem b5004 (nm:Str)(c:List (List Sid))(m sp:Int)(pu:List Int)(n:List Opn)(o:List Siz)(f:List Bar)(g s t2 t3 t4:Int)(lo:List Lod)(e:List Alw)(es:List dR)(us:List Bool):body Tp [Q8,Q5] {} true f4 [.agg [S nm,.seq qc c,I m,I sp,.seq (.int .i64) pu,.seq qg n,.seq qh o,.seq qb f,I g,I s,I t2,I t3,I t4,.seq qi lo,.seq qe e,.seq zC es,.seq .bool us]] (.bl (LK ⟨nm,c,m,sp,pu,n,o,f,g,s,t2,t3,t4,lo,e⟩ es us) Cp):=by
 have u:LK ⟨nm,c,m,sp,pu,n,o,f,g,s,t2,t3,t4,lo,e⟩ es us↔(¬TC ⟨nm,c,m,sp,pu,n,o,f,g,s,t2,t3,t4,lo,e⟩ (Py c 8) es us/\Zd ⟨nm,c,m,sp,pu,n,o,f,g,s,t2,t3,t4,lo,e⟩=0/\length (α:=dR) es=length (α:=Bool) us):=cJ;have z:¬TC ⟨nm,c,m,sp,pu,n,o,f,g,s,t2,t3,t4,lo,e⟩ (Py c 8) es us->length (α:=List Sid) c<=40:=fun q=>fF fun h=>q (.inr (.inl (.inr (.inl (.inl h)))));generalize LK ⟨nm,c,m,sp,pu,n,o,f,g,s,t2,t3,t4,lo,e⟩ es us=M at*;by_cases y:TC ⟨nm,c,m,sp,pu,n,o,f,g,s,t2,t3,t4,lo,e⟩ (Py c 8) es us
 ·have x:¬M:=fun q=>(u.1 q).1 y;clear u z;(repeat refine ZR ?_);(conv=>whnf);exact x
 have z:=z y;by_cases A:Zd ⟨nm,c,m,sp,pu,n,o,f,g,s,t2,t3,t4,lo,e⟩=0
 ·have x:(length (α:=dR) es:Int)=(length (α:=Bool) us:Int)↔M:=⟨fun q=>u.2 ⟨y,A,om⟩,fun q=>by have:=(u.1 q).2.2;omega⟩;clear u;(repeat' first|refine ZR ?_|refine Zg fun _=>?_);(conv=>whnf);exact x
 have x:¬M:=fun q=>A (u.1 q).2.1;clear u;(repeat refine ZR ?_);(conv=>whnf);exact x
def LL:Con:=aV 4 true fun args K=>match args with
 | [.agg a0]=>Nl a0 fun nm pl og sp pu op sz br kf t1 t2 t3 t4 lo al es us=>K (.bl (LK ⟨nm,pl,og,sp,pu,op,sz,br,kf,t1,t2,t3,t4,lo,al⟩ es us) Cp)
 | _=>False
theorem k5004:aM Tp LL:=by
 refine kO func4 fun c K h=>?_;simp only[LL] at h;split at h
 ·rename_i J;refine Fj h fun s y u A z x B g o C t2 D E lo f m F e n=>?_;subst e;exact ⟨_,n,gH func4 ntmps4 (by simp[k5014,k5015]) (b5004 s y u A z x B g o C t2 D E lo f m F)⟩
 cases h
theorem Fl {j:JobV}{es:List dR}{us:List Bool}{k n:Nat}(h:n=k\/us.getD n false=true):Bu j es us k (n+1)=Bu j es us k n:=by rw[Bu,aE h]
theorem ES {j:JobV}{es:List dR}{us:List Bool}{k n:Nat}(f:¬(n:Int)=(k:Int))(h:¬us.getD n false=true)(c:(mA (Fk (Bu j es us k n)) (GY (es.getD n Us))).2=0):Bu j es us k (n+1)=(mA (Fk (Bu j es us k n)) (GY (es.getD n Us))).1:=by
 rw[Kf] at c ⊢;rw[Bu,aD (fun q=>q.elim (fun e=>f om) h),aE c]
theorem LM {j:JobV}{es:List dR}{us:List Bool}{k n:Nat}(f:¬(n:Int)=(k:Int))(h:¬us.getD n false=true)(c:¬(mA (Fk (Bu j es us k n)) (GY (es.getD n Us))).2=0):Bu j es us k (n+1)=Bu j es us k n:=by
 rw[Kf] at c;rw[Bu,aD (fun q=>q.elim (fun e=>f om) h),aD c]
theorem b5003 (nm:Str)(u:List (List Sid))(o sp:Int)(pu:List Int)(s:List Opn)(x:List Siz)(g:List Bar)(m y t2 t3 t4:Int)(lo:List Lod)(f:List Alw)(es:List dR)(us:List Bool)(i:Int)(hi:inK .u8 i):body Tp [LL,SH,LF,ER,EI,RV,EH,RO,Zq,R0] { asks:=[(0,[])] } true f3 [.agg [S nm,.seq qc u,I o,I sp,.seq (.int .i64) pu,.seq qg s,.seq qh x,.seq qb g,I m,I y,I t2,I t3,I t4,.seq qi lo,.seq qe f,.seq zC es,.seq .bool us],.val (.int .u8 i)] (.val (.bool true)):=by
 obtain ⟨a1,a2⟩:0<=i/\i<=255:=hi;by_cases hr:LK ⟨nm,u,o,sp,pu,s,x,g,m,y,t2,t3,t4,lo,f⟩ es us;case neg=>
  (repeat refine ZR ?_);(conv=>whnf)
 by_cases B:(length (α:=dR) es:Int)=0
 ·(repeat' first|refine ZR ?_|refine Zg fun _=>?_);(conv=>whnf)
 have hj:gQ ⟨nm,u,o,sp,pu,s,x,g,m,y,t2,t3,t4,lo,f⟩=0:=OV hr.2.1;have hl:length (α:=dR) es=length (α:=Bool) us:=hr.2.2;have a0:length (α:=dR) es<=6:=fF fun q=>hr.1 (.inr (.inr (.inl q)));have a4:0<length (α:=dR) es:=om;obtain ⟨k,hk⟩:∃k:Nat,i% (length (α:=dR) es:Int)=(k:Int):=⟨(i% (length (α:=dR) es:Int)).toNat,by have:=jJ i (b:=(length (α:=dR) es:Int)) om;omega⟩;have E:k<length (α:=dR) es:=by have:=fQ i (b:=(length (α:=dR) es:Int)) om;omega
 have z:k<length (α:=Bool) us:=om;obtain ⟨W,K⟩:=CA ⟨nm,u,o,sp,pu,s,x,g,m,y,t2,t3,t4,lo,f⟩ es us hl E;have J:∀n,gQ (Bu ⟨nm,u,o,sp,pu,s,x,g,m,y,t2,t3,t4,lo,f⟩ es us k n)=0:=fun n=>by
  rw[<- Uu ⟨nm,u,o,sp,pu,s,x,g,m,y,t2,t3,t4,lo,f⟩ es us z n];exact Ut hj _ _ n
 have Y:length (α:=dR) (List.eraseIdx (α:=dR) es k)=length (α:=dR) es-1:=List.length_eraseIdx_of_lt E;have a3:length (α:=Bool) (List.eraseIdx (α:=Bool) us k)=length (α:=Bool) us-1:=List.length_eraseIdx_of_lt z;have K:wX ⟨nm,u,o,sp,pu,s,x,g,m,y,t2,t3,t4,lo,f⟩ (List.eraseIdx (α:=dR) es k) (List.eraseIdx (α:=Bool) us k) (length (α:=dR) (List.eraseIdx (α:=dR) es k))=Bu ⟨nm,u,o,sp,pu,s,x,g,m,y,t2,t3,t4,lo,f⟩ es us k (length (α:=dR) es):=by rw[Y];exact K
 (repeat' first|refine ZR ?_|refine Zg fun _=>?_);rw[hk];refine Kk k rfl ?_;by_cases hu:getD (α:=Bool) us k false=true
 ·rw[K1 z hu] at W;(repeat'((conv=>whnf);first|refine Zg fun _=>?_|refine Zn ?_|apply pI|apply pJ|(apply PinH.mk;apply aC;apply aC)|exact Zf|refine Zc ?_ ?_|refine Zl ?_|refine Zm ?_|fail));refine Ask.mk ⟨{ X:=Nat,pre:=fun n=>n<=length (α:=dR) es,mod:=fun n _=>[(83,I n)],heap:=fun n H=>cA H 7 (.cells (Va (Bu ⟨nm,u,o,sp,pu,s,x,g,m,y,t2,t3,t4,lo,f⟩ es us k n)) 34),mu:=fun n=>length (α:=dR) es-n },rfl,?_⟩;(repeat refine ZG ?_);refine ⟨⟨(0:Nat),aF _,ZE⟩,fun (n:Nat) B=>?_⟩;have B:n<=length (α:=dR) es:=B;by_cases c:n<length (α:=dR) es
  ·have F:n<length (α:=Bool) us:=om;have Z:length (α:=List Sid) (Bu ⟨nm,u,o,sp,pu,s,x,g,m,y,t2,t3,t4,lo,f⟩ es us k n).pl<=40:=(Nn (J n)).pl;by_cases C:(n:Int)=(k:Int)
   ·have e1:=Fl (j:=⟨nm,u,o,sp,pu,s,x,g,m,y,t2,t3,t4,lo,f⟩) (es:=es) (us:=us) (k:=k) (n:=n) (.inl om);(repeat' first|refine ZR ?_|refine Zg fun _=>?_);refine ⟨(n+1:Nat),by show length (α:=dR) es-(n+1)<length (α:=dR) es-n;omega,c,?_⟩;(repeat' ((conv=>whnf);refine aA ?_ ?_));all_goals (conv=>whnf)
    all_goals first
     | exact trivial
     | (rw[e1];done)
     | rfl
   by_cases A:getD (α:=Bool) us n false=true
   ·have e1:=Fl (j:=⟨nm,u,o,sp,pu,s,x,g,m,y,t2,t3,t4,lo,f⟩) (es:=es) (us:=us) (k:=k) (n:=n) (.inr A);(repeat' first|refine ZR ?_|refine Zg fun _=>?_);refine ⟨(n+1:Nat),by show length (α:=dR) es-(n+1)<length (α:=dR) es-n;omega,c,?_⟩;(repeat' ((conv=>whnf);refine aA ?_ ?_));all_goals (conv=>whnf)
    all_goals first
     | exact trivial
     | (rw[e1];done)
     | rfl
   by_cases D:(mA (Fk (Bu ⟨nm,u,o,sp,pu,s,x,g,m,y,t2,t3,t4,lo,f⟩ es us k n)) (GY (getD (α:=dR) es n Us))).2=0
   ·have e1:=ES C A D;(repeat' first|refine ZR ?_|refine Zg fun _=>?_);refine ⟨(n+1:Nat),by show length (α:=dR) es-(n+1)<length (α:=dR) es-n;omega,c,?_⟩;(repeat' ((conv=>whnf);refine aA ?_ ?_));all_goals (conv=>whnf)
    all_goals first
     | exact trivial
     | (rw[e1];done)
     | rfl
   have e1:=LM C A D;(repeat' first|refine ZR ?_|refine Zg fun _=>?_);refine ⟨(n+1:Nat),by show length (α:=dR) es-(n+1)<length (α:=dR) es-n;omega,c,?_⟩;(repeat' ((conv=>whnf);refine aA ?_ ?_));all_goals (conv=>whnf)
   all_goals first
    | exact trivial
    | (rw[e1];done)
    | rfl
  have e:n=length (α:=dR) es:=om;subst e;(repeat refine ZR ?_);(conv=>whnf);refine Need.mk (aR Fk (W.trans K.symm)) ?_;(repeat refine ZR ?_);(conv=>whnf)
 (repeat refine ZR ?_);(conv=>whnf);refine Need.mk ⟨⟨hj,hl,om⟩,⟨om,om⟩,hu⟩ ?_;(repeat'((conv=>whnf);first|refine Zg fun _=>?_|refine Zn ?_|apply pI|apply pJ|(apply PinH.mk;apply aC;apply aC)|exact Zf|refine Zc ?_ ?_|refine Zl ?_|refine Zm ?_|fail));refine Ask.mk ⟨{ X:=Nat,pre:=fun n=>n<=length (α:=dR) es,mod:=fun n _=>[(83,I n)],heap:=fun n H=>cA H 8 (.cells (Va (Bu ⟨nm,u,o,sp,pu,s,x,g,m,y,t2,t3,t4,lo,f⟩ es us k n)) 34),mu:=fun n=>length (α:=dR) es-n },rfl,?_⟩;(repeat refine ZG ?_);refine ⟨⟨(0:Nat),aF _,ZE⟩,fun (n:Nat) B=>?_⟩;have B:n<=length (α:=dR) es:=B;by_cases c:n<length (α:=dR) es
 ·have F:n<length (α:=Bool) us:=om;have Z:length (α:=List Sid) (Bu ⟨nm,u,o,sp,pu,s,x,g,m,y,t2,t3,t4,lo,f⟩ es us k n).pl<=40:=(Nn (J n)).pl;by_cases C:(n:Int)=(k:Int)
  ·have e1:=Fl (j:=⟨nm,u,o,sp,pu,s,x,g,m,y,t2,t3,t4,lo,f⟩) (es:=es) (us:=us) (k:=k) (n:=n) (.inl om);(repeat' first|refine ZR ?_|refine Zg fun _=>?_);refine ⟨(n+1:Nat),by show length (α:=dR) es-(n+1)<length (α:=dR) es-n;omega,c,?_⟩;(repeat' ((conv=>whnf);refine aA ?_ ?_));all_goals (conv=>whnf)
   all_goals first
    | exact trivial
    | (rw[e1];done)
    | rfl
  by_cases A:getD (α:=Bool) us n false=true
  ·have e1:=Fl (j:=⟨nm,u,o,sp,pu,s,x,g,m,y,t2,t3,t4,lo,f⟩) (es:=es) (us:=us) (k:=k) (n:=n) (.inr A);(repeat' first|refine ZR ?_|refine Zg fun _=>?_);refine ⟨(n+1:Nat),by show length (α:=dR) es-(n+1)<length (α:=dR) es-n;omega,c,?_⟩;(repeat' ((conv=>whnf);refine aA ?_ ?_));all_goals (conv=>whnf)
   all_goals first
    | exact trivial
    | (rw[e1];done)
    | rfl
  by_cases D:(mA (Fk (Bu ⟨nm,u,o,sp,pu,s,x,g,m,y,t2,t3,t4,lo,f⟩ es us k n)) (GY (getD (α:=dR) es n Us))).2=0
  ·have e1:=ES C A D;(repeat' first|refine ZR ?_|refine Zg fun _=>?_);refine ⟨(n+1:Nat),by show length (α:=dR) es-(n+1)<length (α:=dR) es-n;omega,c,?_⟩;(repeat' ((conv=>whnf);refine aA ?_ ?_));all_goals (conv=>whnf)
   all_goals first
    | exact trivial
    | (rw[e1];done)
    | rfl
  have e1:=LM C A D;(repeat' first|refine ZR ?_|refine Zg fun _=>?_);refine ⟨(n+1:Nat),by show length (α:=dR) es-(n+1)<length (α:=dR) es-n;omega,c,?_⟩;(repeat' ((conv=>whnf);refine aA ?_ ?_));all_goals (conv=>whnf)
  all_goals first
   | exact trivial
   | (rw[e1];done)
   | rfl
 have e:n=length (α:=dR) es:=om;subst e;(repeat refine ZR ?_);(conv=>whnf);refine Need.mk (aR Fk (W.trans K.symm)) ?_;(repeat refine ZR ?_);(conv=>whnf)
theorem t5003 (nm:Str)(n:List (List Sid))(g sp:Int)(pu:List Int)(m:List Opn)(o:List Siz)(e:List Bar)(f s t2 t3 t4:Int)(lo:List Lod)(c:List Alw)(es:List dR)(us:List Bool)(i:Int)(hi:inK .u8 i):Tri Tp true 3 [.agg [S nm,.seq qc n,I g,I sp,.seq (.int .i64) pu,.seq qg m,.seq qh o,.seq qb e,I f,I s,I t2,I t3,I t4,.seq qi lo,.seq qe c,.seq zC es,.seq .bool us],.val (.int .u8 i)] (.val (.bool true)):=
 gH func3 ntmps3 (by simp[k5004,k5005,SE,LB,KT,k5008,KO,k5010,K9,k5013]) (b5003 nm n g sp pu m o e f s t2 t3 t4 lo c es us i hi)
end RB
end

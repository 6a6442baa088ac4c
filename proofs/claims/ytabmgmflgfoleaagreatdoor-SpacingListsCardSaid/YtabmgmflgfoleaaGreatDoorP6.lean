/-
  Part 6: a symbolic executor over the model, contracts of functions and plain laws.
-/
import Derived.Test.YtabmgmflgfoleaaGreatDoorP5
import Init.Data.Rat
section
set_option linter.unusedVariables false
set_option linter.unusedVariables false
namespace IB
theorem aNb {B:Nat} (hB:2≤B) {l:List Int} (h:InB B l) (j:Nat):((l.getD (j+2) 0*B+l.getD (j+1) 0)*B+l.getD j 0)*(B:Int)^j≤valB B l:=by
 by_cases hj:j<l.length
 ·have e0:=eJ (B:=B) l j (by omega)
  have b0:=bA (jF h j)
  have hP:=dI hB j
  rw[bF l j hj] at e0
  simp only[valB] at e0
  have h1:l.getD (j+2) 0*B+l.getD (j+1) 0≤valB B (l.drop (j+1)):=by
   by_cases h1:j+1<l.length
   ·rw[bF l (j+1) h1]
    simp only[valB]
    have h2:l.getD (j+2) 0≤valB B (l.drop (j+1+1)):=by
     by_cases h2:j+2<l.length
     ·rw[bF l (j+1+1) h2]
      simp only[valB]
      have:=bA (fQ h (j+1+1+1))
      have h3:(0:Int)≤(B:Int)*valB B (l.drop (j+1+1+1)):=Int.mul_nonneg (by omega) this
      show l.getD (j+1+1) 0≤ _
      omega
     ·rw[eA l (j+2) (by omega)]
      exact bA (fQ h _)
    have h3:(B:Int)*l.getD (j+2) 0≤B*valB B (l.drop (j+1+1)):=Int.mul_le_mul_of_nonneg_left h2 (by omega)
    rw[Int.mul_comm (l.getD (j+2) 0)]
    omega
   ·rw[eA l (j+2) (by omega),eA l (j+1) (by omega),Int.zero_mul,Int.zero_add]
    exact bA (fQ h _)
  have h2:(l.getD (j+2) 0*B+l.getD (j+1) 0)*B≤valB B (l.drop (j+1))*B:=Int.mul_le_mul_of_nonneg_right h1 (by omega)
  rw[Int.mul_comm (valB B (l.drop (j+1)))] at h2
  have h3:((l.getD (j+2) 0*B+l.getD (j+1) 0)*B+l.getD j 0)*(B:Int)^j≤(l.getD j 0+B*valB B (l.drop (j+1)))*(B:Int)^j:=Int.mul_le_mul_of_nonneg_right (by omega) (Int.le_of_lt hP)
  rw[Int.mul_comm (l.getD j 0+B*valB B (l.drop (j+1)))] at h3
  omega
 ·rw[eA l (j+2) (by omega),eA l (j+1) (by omega),eA l j (by omega)]
  simp only[Int.zero_mul,Int.add_zero]
  exact bA h
theorem aQ7 {B:Nat} (hB:2≤B) {b:List Int} (h:InB B b) (hk:2≤b.length):valB B b≤(b.getD (b.length-1) 0*B+b.getD (b.length-2) 0+1)*(B:Int)^ (b.length-2):=by
 have e0:=eJ (B:=B) b (b.length-2) (by omega)
 have b0:=eU hB (jF h (b.length-2)) (n:=b.length-2) (by rw[List.length_take];omega)
 rw[bF b (b.length-2) (by omega),show b.length-2+1=b.length-1 by omega,bF b (b.length-1) (by omega),List.drop_eq_nil_of_le (by omega)] at e0
 simp only[valB,Int.mul_zero,Int.add_zero] at e0
 rw[e0,show (b.getD (b.length-1) 0*(B:Int)+b.getD (b.length-2) 0+1)*(B:Int)^ (b.length-2)=(B:Int)^ (b.length-2)*(b.getD (b.length-2) 0+B*b.getD (b.length-1) 0)+(B:Int)^ (b.length-2) by
  rw[Int.add_mul _ 1,Int.one_mul,Int.mul_comm _ ((B:Int)^ (b.length-2)),Int.add_comm _ (b.getD (b.length-2) 0),Int.mul_comm _ (B:Int)]]
 omega
theorem aK4 {B:Nat} (hB:2≤B) {b:List Int} (hb:InB B b) (hk:2≤b.length) {n R:Nat} (hn:0<n) (hv:valB B b=n) (hR:R<n*B) (t3:Int)
  (ht:t3=((aB B R).getD b.length 0*B+(aB B R).getD (b.length-1) 0)*B+(aB B R).getD (b.length-2) 0):
  0≤t3/(b.getD (b.length-1) 0*B+b.getD (b.length-2) 0+1)∧t3/(b.getD (b.length-1) 0*B+b.getD (b.length-2) 0+1)<B∧t3/(b.getD (b.length-1) 0*B+b.getD (b.length-2) 0+1)*n≤R:=by
 have hi:=aQ hB R
 have h3:=aNb hB hi (b.length-2)
 rw[show b.length-2+2=b.length by omega,show b.length-2+1=b.length-1 by omega,cP hB,← ht] at h3
 have h2:=aQ7 hB hb hk
 rw[hv] at h2
 have g1:=hb.get (show b.length-1<b.length by omega)
 have g2:=hb.get (show b.length-2<b.length by omega)
 have x0:=hi.getD0 (by omega) b.length
 have x1:=hi.getD0 (by omega) (b.length-1)
 have x2:=hi.getD0 (by omega) (b.length-2)
 have top0:0≤b.getD (b.length-1) 0*(B:Int):=Int.mul_nonneg g1.1 (by omega)
 have t0:0≤t3:=by
  rw[ht]
  have:=Int.mul_nonneg x0.1 (show (0:Int)≤B by omega)
  have:=Int.mul_nonneg (show 0≤(aB B R).getD b.length 0*B+(aB B R).getD (b.length-1) 0 by omega) (show (0:Int)≤B by omega)
  omega
 obtain ⟨e1,e2⟩:=aPb (V:=(n:Int)) (R:=(R:Int)) (t3:=t3) (top:=b.getD (b.length-1) 0*B+b.getD (b.length-2) 0) (P:=(B:Int)^ (b.length-2)) (dI hB _) (by omega) h2 (by omega) h3 t0
 refine ⟨e1,?_,(Int.le_ediv_iff_mul_le (by omega)).1 e2⟩
 refine Int.lt_of_le_of_lt e2 (Int.ediv_lt_of_lt_mul (by omega) ?_)
 rw[Int.mul_comm]
 exact_mod_cast hR
end IB
end
section
open Go Go.Proofs Go.Eng Go.Shelf IB Go.Lib Go.RowKit
namespace RB
set_option maxRecDepth 10000
set_option linter.unusedVariables false
set_option linter.unusedSimpArgs false
theorem yC {B:Nat} (hB:2≤B) {a b:List Int} (ha:InB B a) (hb:InB B b) (hl:a.length=b.length):∀m,m≤a.length→(∀j,m≤j→j<a.length→a.getD j 0=b.getD j 0)→
  (eW a b m<0↔valB B a<valB B b)∧(eW a b m=0↔valB B a=valB B b)
 | 0,_,h=>by
  have:a=b:=iF hl fun j hj=>h j (Nat.zero_le _) hj
  subst this
  simp[eW]
 | m+1,hm,h=>by
  simp only[eW]
  by_cases e:a.getD m 0=b.getD m 0
  ·rw[if_pos e]
   refine yC hB ha hb hl m (by omega) fun j h1 h2=>?_
   by_cases e2:j=m
   ·rw[e2];exact e
   ·exact h j (by omega) h2
  ·rw[if_neg e]
   rcases Int.lt_or_gt_of_ne e with h1 | h1
   ·have:=uR (B:=B) hB ha hb hl (by omega) (fun j h2 h3=>h j (by omega) h3) h1
    omega
   ·have:=uR (B:=B) hB hb ha hl.symm (by omega) (fun j h2 h3=>(h j (by omega) (by omega)).symm) h1
    omega
theorem yD {B:Nat} (hB:2≤B) (m n:Nat):(cmpL (aB B m) (aB B n)<0↔m<n)∧(cmpL (aB B m) (aB B n)=0↔m=n):=by
 unfold cmpL
 split
 ·rename_i hl
  have:=yC hB (aQ hB m) (aQ hB n) hl _ (Nat.le_refl _) fun j h1 h2=>by omega
  rw[cP hB,cP hB] at this
  omega
 ·rename_i hl
  by_cases h:(aB B m).length<(aB B n).length
  ·have:=gF hB h
   omega
  ·have:=gF hB (m:=n) (n:=m) (by omega)
   omega
theorem aLe {n:Nat} (h:(aB B6 n).length=1):(aB B6 n).getD 0 0=n∧n<1000000:=by
 have hv:=v6 n
 have hg:=get6 (show InB B6 (aB B6 n) from aQ (by decide) n) 0
 cases hl:aB B6 n with
 | nil=>rw[hl] at h;simp at h
 | cons x r=>
  have hr:r= []:=by rw[hl] at h;simpa using h
  subst hr
  rw[hl] at hv hg
  simp only[valB,Int.mul_zero,Int.add_zero] at hv
  refine ⟨hv,?_⟩
  have hg:0≤x∧x<1000000:=hg
  omega
theorem dJ {p q:Nat} (h:p≤q):(aB B6 p).length≤(aB B6 q).length:=Classical.byContradiction fun hx=>by
 have:=gF (B:=B6) (by decide) (m:=q) (n:=p) (by omega)
 omega
def r9 (n:Nat) (a:List Int):Nat→SV
 | 0=>.ref 3 1
 | m+1=>Ls (aB B6 (divK B6 n a (m+1)).2.toNat)
theorem eK {m k:Nat} (h:m<B6^k):(aB B6 m).length≤k:=by
 by_cases h0:m=0
 ·subst h0;rw[aV];exact Nat.zero_le _
 ·have:=(dG (B:=B6) (by decide) (n:=m) (by omega)).1
  have:=(Nat.pow_lt_pow_iff_right (show 1<B6 by decide)).1 (Nat.lt_of_le_of_lt (by exact_mod_cast this) h)
  omega
theorem aN0 {p q:Nat} {x:Int} (hc:(x<0↔p<q)∧(x=0↔p=q)) (h:0≤sgnI x):q≤p:=by
 unfold sgnI at h
 split at h<;>omega
theorem aN1 {p q:Nat} {x:Int} (hc:(x<0↔p<q)∧(x=0↔p=q)) (h:¬0≤sgnI x):p<q:=by
 unfold sgnI at h
 split at h
 ·omega
 ·split at h<;>omega
theorem aFr {B:Nat} (hB:2≤B) {d:Int} (hd:0<d) {a:List Int} (ha:InB B a):
  bX (divK B d a a.length).1=aB B (valB B a/d).toNat∧(divK B d a a.length).2=valB B a%d:=by
 obtain ⟨h1,h2,h3,h4⟩:=jO hB hd ha a.length (Nat.le_refl _)
 rw[Nat.sub_self,List.drop_zero,List.drop_zero] at h4
 have h5:valB B a/d=valB B (divK B d a a.length).1∧valB B a%d=(divK B d a a.length).2:=by
  rw[Int.ediv_emod_unique hd]
  exact ⟨by rw[Int.add_comm,Int.mul_comm];exact h4,h3.1,h3.2⟩
 exact ⟨by rw[h5.1];exact cH hB h2,h5.2.symm⟩
theorem aA3 {n R r g m:Nat} {a:List Int} (hn:0<n) (hR:a.getD (a.length-1-m) 0+(r:Int)*1000000=R) (hr:(divK B6 n a m).2=r) (hg:n*g≤R) (hlt:R-n*g<n):
  (divK B6 n a (m+1)).1=(divK B6 n a m).1.set (a.length-1-m) g∧(divK B6 n a (m+1)).2=((R-n*g:Nat):Int):=by
 have hx:a.getD (a.length-1-m) 0+(divK B6 n a m).2*(B6:Int)=R:=by
  rw[hr,← hR];rfl
 have e1:R/n=g:=by
  refine Nat.div_eq_of_lt_le (by rw[Nat.mul_comm];exact hg) ?_
  rw[Nat.succ_mul,Nat.mul_comm];omega
 have e2:R%n=R-n*g:=by
  have:=Nat.div_add_mod R n
  rw[e1] at this;omega
 simp only[divK]
 rw[hx,← Int.natCast_ediv,← Int.natCast_emod,e1,e2]
 exact ⟨rfl,rfl⟩
set_option maxHeartbeats 1600000 in
theorem b113 (a:List Int) (n:Nat) (h:InB B6 a∧(0<n∧n<B6^100)∧a.length≤1000):body Tryz.prog [c142,c141,c143,c145,c144,c146] { asks:=[(0,[]),(2,[])] } false Tryz.f196 [Ls a,Ls (aB B6 n)] (.tup [Ls (aB B6 (valB B6 a/n).toNat),Ls (aB B6 (valB B6 a%n).toNat)]):=by
 obtain ⟨ha,⟨hn0,hn⟩,hla⟩:=h
 have jn:InB B6 (aB B6 n):=aQ (by decide) n
 have vn:=v6 n
 (repeat'((conv=>whnf);first|refine Zg fun _=>?_|fail))
 (refine Br.mk (fun _=>?_) (fun _=>?_))
 ·rename_i h1
  obtain ⟨hx,hxlt⟩:=aLe (n:=n) (by omega)
  (repeat'((conv=>whnf);first|refine Zg fun _=>?_|refine Zn ?_|refine Z0 ?_|fail))
  refine Need.mk ⟨ha,by omega,by omega⟩ ?_
  rw[hx]
  skip
  (conv=>whnf)
  (repeat'(first|exact trivial|rfl|refine And.intro ?_ ?_|fail))
 ·rename_i h1
  have hk:2≤(aB B6 n).length:=by
   have:=(dG (B:=B6) (by decide) hn0).2.2
   omega
  obtain ⟨b,hb⟩:∃b,aB B6 n=b:=⟨_,rfl⟩
  have hbl:b.length≤200:=by
   rw[← hb]
   have:=(dG (B:=B6) (by decide) hn0).1
   have:=(Nat.pow_lt_pow_iff_right (show 1<B6 by decide)).1 (Nat.lt_of_le_of_lt (by exact_mod_cast this) hn)
   omega
  rw[hb] at jn vn hk h1 ⊢
  have gt1:=get6 jn (b.length-1)
  have gt2:=get6 jn (b.length-2)
  (repeat'((conv=>whnf);first|refine Zg fun _=>?_|refine Zn ?_|(apply Pin.mk;apply Exists.intro)|apply Pinned.mk rfl rfl|fail))
  refine cF (b.length-1) (by omega) ?_
  (repeat'((conv=>whnf);first|refine Zg fun _=>?_|refine Zn ?_|(apply Pin.mk;apply Exists.intro)|apply Pinned.mk rfl rfl|fail))
  refine cF (b.length-2) (by omega) ?_
  (repeat'((conv=>whnf);first|refine Zg fun _=>?_|refine Zn ?_|(apply Pin.mk;apply Exists.intro)|apply Pinned.mk rfl rfl|refine Z8 ?_|fail))
  (conv=>whnf)
  refine Ask.mk ⟨{ X:=Nat,pre:=fun m=>m≤a.length,mod:=fun m _=>[(9,r9 n a m),(10,I ((a.length:Int)-1-m))],heap:=fun m _=>[V [],V [],V (divK B6 n a m).1,V []],mu:=fun m=>a.length-m },rfl,?_⟩
  (repeat'((conv=>whnf);first|refine Zn ?_|fail))
  refine ⟨⟨(0:Nat),Nat.zero_le _,?_⟩,fun (m:Nat) (hm:m≤a.length)=>?_⟩
  ·(repeat'(first|exact trivial|rfl|refine And.intro ?_ ?_|omega|fail))
  have hnI:(0:Int)<n:=by omega
  obtain ⟨g1,g2,g3,_⟩:=jO (B:=B6) (by decide) hnI ha m hm
  have ga:=get6 ha (a.length-1-m)
  obtain ⟨r,hr⟩:∃r:Nat,(divK B6 n a m).2=r:=⟨_,(Int.eq_ofNat_of_zero_le g3.1).choose_spec⟩
  obtain ⟨R,hR⟩:∃R:Nat,a.getD (a.length-1-m) 0+(r:Int)*1000000=R:=⟨_,(Int.eq_ofNat_of_zero_le (by omega)).choose_spec⟩
  have hL:bX (a.getD (a.length-1-m) 0::aB B6 r)=aB B6 R:=by
   rw[cH (B:=B6) (by decide) (InB.cons.2 ⟨ga,aQ (by decide) r⟩)]
   congr 1
   show (a.getD (a.length-1-m) 0+(B6:Int)*valB B6 (aB B6 r)).toNat=R
   rw[v6,Int.mul_comm]
   show (a.getD (a.length-1-m) 0+(r:Int)*1000000).toNat=R
   omega
  have hRn:R<n*B6:=by
   have:(r:Int)<n:=by omega
   show R<n*1000000
   omega
  have lR:(aB B6 R).length≤101:=eK (Nat.lt_of_lt_of_le hRn (by rw[Nat.pow_succ];exact Nat.mul_le_mul_right _ (Nat.le_of_lt hn)))
  have rb:=aK4 (B:=B6) (by decide) jn hk hn0 vn hRn _ rfl
  have x0:=get6 (show InB B6 (aB B6 R) from aQ (by decide) R) b.length
  have x1:=get6 (show InB B6 (aB B6 R) from aQ (by decide) R) (b.length-1)
  have x2:=get6 (show InB B6 (aB B6 R) from aQ (by decide) R) (b.length-2)
  obtain ⟨G,hG⟩:∃G:Nat,(((aB B6 R).getD b.length 0*1000000+(aB B6 R).getD (b.length-1) 0)*1000000+(aB B6 R).getD (b.length-2) 0)/(b.getD (b.length-1) 0*1000000+b.getD (b.length-2) 0+1)=G:=⟨_,(Int.eq_ofNat_of_zero_le rb.1).choose_spec⟩
  have G1:G<1000000:=by
   have:(((aB B6 R).getD b.length 0*1000000+(aB B6 R).getD (b.length-1) 0)*1000000+(aB B6 R).getD (b.length-2) 0)/(b.getD (b.length-1) 0*1000000+b.getD (b.length-2) 0+1)<1000000:=rb.2.1
   omega
  have G2:n*G≤R:=by
   have h3:(((aB B6 R).getD b.length 0*1000000+(aB B6 R).getD (b.length-1) 0)*1000000+(aB B6 R).getD (b.length-2) 0)/(b.getD (b.length-1) 0*1000000+b.getD (b.length-2) 0+1)*(n:Int)≤R:=rb.2.2
   rw[hG,Int.mul_comm] at h3
   exact_mod_cast h3
  have iG:InB B6 [(G:Int)]:=fun x hx=>by
   have:x=G:=by simpa using hx
   subst this
   exact ⟨by omega,by show (G:Int)<1000000;omega⟩
  have eG:(valB B6 b*valB B6 [(G:Int)]).toNat=n*G:=by
   rw[vn,show valB B6 [(G:Int)]=G by simp[valB],← Int.natCast_mul,Int.toNat_natCast]
  rcases m with _ | m
  ·have hr0:r=0:=by
    have:(divK B6 n a 0).2=0:=rfl
    omega
   rw[hr0,aV] at hL
   skip
   (refine Br.mk (fun _=>?_) (fun _=>?_))
   ·have hlt:0<a.length:=by omega
    (repeat'((conv=>whnf);first|refine Zn ?_|fail))
    refine cF (a.length-1) (by omega) ?_
    (repeat'((conv=>whnf);first|refine Zg fun _=>?_|fail))
    (conv=>whnf)
    refine Own.r ?_
    (repeat'((conv=>whnf);first|refine Zn ?_|refine Zj ?_|fail))
    (conv=>whnf)
    rw[show bX ([a.getD (a.length-1) 0]++ [])=aB B6 R from hL]
    (repeat'((conv=>whnf);first|refine Zn ?_|fail))
    refine cF (b.length-1) (by omega) ?_
    (repeat'((conv=>whnf);first|refine Zn ?_|fail))
    refine cF (b.length-2) (by omega) ?_
    (repeat'((conv=>whnf);first|refine Za ?_|refine Zn ?_|fail))
    rw[hG]
    (repeat'((conv=>whnf);first|refine Zl ?_|fail))
    (conv=>whnf)
    refine Need.mk ⟨jn,iG,by omega,by show 1≤100000;omega⟩ ?_
    rw[eG]
    skip
    (conv=>whnf)
    have lnG:=dJ G2
    refine Need.mk ⟨aQ (by decide) _,aQ (by decide) _,by rw[v6,v6];exact_mod_cast G2,lnG,by omega⟩ ?_
    rw[show (valB B6 (aB B6 R)-valB B6 (aB B6 (n*G))).toNat=R-n*G by rw[v6,v6];omega]
    skip
    refine Ask.mk ⟨{ X:=Nat,pre:=fun g=>n*g≤R,mod:=fun g _=>[(9,Ls (aB B6 (R-n*g))),(11,I g)],heap:=fun _ _=>[V [],V [],V (divK B6 n a (0)).1,V [],.dead],mu:=fun g=>R-n*g },rfl,?_⟩
    (repeat'((conv=>whnf);first|refine Zn ?_|fail))
    refine ⟨⟨(G:Nat),G2,by (repeat'(first|exact trivial|rfl|refine And.intro ?_ ?_|fail))⟩,fun (g:Nat) (hg:n*g≤R)=>?_⟩
    have gB:g<1000000:=Nat.lt_of_mul_lt_mul_left (Nat.lt_of_le_of_lt hg hRn)
    have hc:=yD (B:=B6) (by decide) (R-n*g) n
    rw[hb] at hc
    have iR:InB B6 (aB B6 (R-n*g)):=aQ (by decide) _
    have lR':=dJ (show R-n*g≤R by omega)
    skip
    refine Need.mk ⟨iR,jn⟩ ?_
    skip
    (refine Br.mk (fun _=>?_) (fun _=>?_))
    ·rename_i hs
     have hle:n≤R-n*g:=aN0 hc hs
     have lb:=dJ hle
     rw[hb] at lb
     skip
     refine Need.mk ⟨iR,jn,by rw[v6,vn];exact_mod_cast hle,lb,by omega⟩ ?_
     rw[show (valB B6 (aB B6 (R-n*g))-valB B6 b).toNat=R-n*(g+1) by rw[v6,vn,Nat.mul_succ];omega]
     (repeat'((conv=>whnf);first|refine Zn ?_|fail))
     refine ⟨(g+1:Nat),by show R-n*(g+1)<R-n*g;rw[Nat.mul_succ];omega,by show n*(g+1)≤R;rw[Nat.mul_succ];omega,?_⟩
     (repeat'(first|exact trivial|rfl|refine And.intro ?_ ?_|fail))
    ·rename_i hs
     have hlt2:R-n*g<n:=aN1 hc hs
     obtain ⟨z1,z2⟩:=aA3 hn0 hR hr (show n*g≤R from hg) hlt2
     (repeat'((conv=>whnf);first|refine Zn ?_|fail))
     refine cF (a.length-1-(0)) (by omega) ?_
     (repeat'((conv=>whnf);first|refine Zn ?_|fail))
     refine ⟨(1:Nat),by show a.length-(1)<a.length-(0);omega,hlt,?_⟩
     (repeat'(first|exact trivial|rfl|refine And.intro ?_ ?_|omega|fail))
     ·rw[show r9 n a 1=Ls (aB B6 (divK B6 n a (1)).2.toNat) from rfl,z2,Int.toNat_natCast]
      (repeat'(first|rfl|fail))
     ·exact z1.symm
   ·have e:0=a.length:=by omega
    skip
    (conv=>whnf)
    obtain ⟨y1,y2⟩:=aFr (B:=B6) (by decide) hnI ha
    rw[← e] at y1 y2
    (repeat'(first|exact trivial|refine And.intro ?_ ?_|fail))
    ·exact y1
    ·rw[← y2,show (divK B6 n a 0).2=0 from rfl,Int.toNat_zero,aV]
     (repeat'(first|rfl|fail))
  ·have hrt:r=(divK B6 n a (m+1)).2.toNat:=by omega
   have lr:(aB B6 (divK B6 n a (m+1)).2.toNat).length≤200:=by
    rw[← hrt]
    refine Nat.le_trans (dJ (show r≤n by omega)) ?_
    rw[hb];exact hbl
   rw[hrt] at hL
   skip
   (refine Br.mk (fun _=>?_) (fun _=>?_))
   ·have hlt:m+1<a.length:=by omega
    (repeat'((conv=>whnf);first|refine Zn ?_|fail))
    refine cF (a.length-1-(m+1)) (by omega) ?_
    (repeat'((conv=>whnf);first|refine Zg fun _=>?_|fail))
    (conv=>whnf)
    refine Own.r ?_
    (repeat'((conv=>whnf);first|refine Zn ?_|refine Zj ?_|fail))
    (conv=>whnf)
    rw[show bX ([a.getD (a.length-1-(m+1)) 0]++aB B6 (divK B6 n a (m+1)).2.toNat)=aB B6 R from hL]
    (repeat'((conv=>whnf);first|refine Zn ?_|fail))
    refine cF (b.length-1) (by omega) ?_
    (repeat'((conv=>whnf);first|refine Zn ?_|fail))
    refine cF (b.length-2) (by omega) ?_
    (repeat'((conv=>whnf);first|refine Za ?_|refine Zn ?_|fail))
    rw[hG]
    (repeat'((conv=>whnf);first|refine Zl ?_|fail))
    (conv=>whnf)
    refine Need.mk ⟨jn,iG,by omega,by show 1≤100000;omega⟩ ?_
    rw[eG]
    skip
    (conv=>whnf)
    have lnG:=dJ G2
    refine Need.mk ⟨aQ (by decide) _,aQ (by decide) _,by rw[v6,v6];exact_mod_cast G2,lnG,by omega⟩ ?_
    rw[show (valB B6 (aB B6 R)-valB B6 (aB B6 (n*G))).toNat=R-n*G by rw[v6,v6];omega]
    skip
    refine Ask.mk ⟨{ X:=Nat,pre:=fun g=>n*g≤R,mod:=fun g _=>[(9,Ls (aB B6 (R-n*g))),(11,I g)],heap:=fun _ _=>[V [],V [],V (divK B6 n a (m+1)).1,V [],.dead],mu:=fun g=>R-n*g },rfl,?_⟩
    (repeat'((conv=>whnf);first|refine Zn ?_|fail))
    refine ⟨⟨(G:Nat),G2,by (repeat'(first|exact trivial|rfl|refine And.intro ?_ ?_|fail))⟩,fun (g:Nat) (hg:n*g≤R)=>?_⟩
    have gB:g<1000000:=Nat.lt_of_mul_lt_mul_left (Nat.lt_of_le_of_lt hg hRn)
    have hc:=yD (B:=B6) (by decide) (R-n*g) n
    rw[hb] at hc
    have iR:InB B6 (aB B6 (R-n*g)):=aQ (by decide) _
    have lR':=dJ (show R-n*g≤R by omega)
    skip
    refine Need.mk ⟨iR,jn⟩ ?_
    skip
    (refine Br.mk (fun _=>?_) (fun _=>?_))
    ·rename_i hs
     have hle:n≤R-n*g:=aN0 hc hs
     have lb:=dJ hle
     rw[hb] at lb
     skip
     refine Need.mk ⟨iR,jn,by rw[v6,vn];exact_mod_cast hle,lb,by omega⟩ ?_
     rw[show (valB B6 (aB B6 (R-n*g))-valB B6 b).toNat=R-n*(g+1) by rw[v6,vn,Nat.mul_succ];omega]
     (repeat'((conv=>whnf);first|refine Zn ?_|fail))
     refine ⟨(g+1:Nat),by show R-n*(g+1)<R-n*g;rw[Nat.mul_succ];omega,by show n*(g+1)≤R;rw[Nat.mul_succ];omega,?_⟩
     (repeat'(first|exact trivial|rfl|refine And.intro ?_ ?_|fail))
    ·rename_i hs
     have hlt2:R-n*g<n:=aN1 hc hs
     obtain ⟨z1,z2⟩:=aA3 hn0 hR hr (show n*g≤R from hg) hlt2
     (repeat'((conv=>whnf);first|refine Zn ?_|fail))
     refine cF (a.length-1-(m+1)) (by omega) ?_
     (repeat'((conv=>whnf);first|refine Zn ?_|fail))
     refine ⟨(m+1+1:Nat),by show a.length-(m+1+1)<a.length-(m+1);omega,hlt,?_⟩
     (repeat'(first|exact trivial|rfl|refine And.intro ?_ ?_|omega|fail))
     ·rw[show r9 n a (m+1+1)=Ls (aB B6 (divK B6 n a (m+1+1)).2.toNat) from rfl,z2,Int.toNat_natCast]
      (repeat'(first|rfl|fail))
     ·exact z1.symm
   ·have e:m+1=a.length:=by omega
    skip
    (conv=>whnf)
    obtain ⟨y1,y2⟩:=aFr (B:=B6) (by decide) hnI ha
    rw[← e] at y1 y2
    (repeat'(first|exact trivial|refine And.intro ?_ ?_|fail))
    ·exact y1
    ·rw[y2]
     (repeat'(first|rfl|fail))
def dP (b:List Int):Prop:=aB B6 (valB B6 b).toNat=b
theorem dK (m:Nat):dP (aB B6 m):=by
 unfold dP;rw[v6,Int.toNat_natCast]
theorem sV {b:List Int} (h:dP b):InB B6 b:=by
 rw[← h];exact aQ (by decide) _
theorem yE {b:List Int} (h:dP b):((valB B6 b).toNat:Int)=valB B6 b:=by
 rw[← v6,h]
def c113:Con:=aJ 196 false fun args K=>match args with
 | [.seq (.int .i64) a,.seq (.int .i64) b]=>Need (InB B6 a∧dP b∧(0<(valB B6 b).toNat∧(valB B6 b).toNat<B6^100)∧a.length≤1000) (K (.tup [Ls (aB B6 (valB B6 a/valB B6 b).toNat),Ls (aB B6 (valB B6 a%valB B6 b).toNat)]))
 | _=>False
theorem k113:aF Tryz.prog c113:=by
 refine aC rfl (enters_of Tryz.func196 (by kernel_rfl) rfl) ?_
 intro args K h
 simp only[c113] at h
 split at h
 ·rename_i a b
  refine ⟨_,h.go,?_⟩
  obtain ⟨ha,hb,hn,hl⟩:=h.ok
  have ht:=aA (Γ:=[c142,c141,c143,c145,c144,c146]) (by simp[k142,k141,k143,k145,k144,k146]) Tryz.func196 (by simp[Tryz.ntmps196]) rfl (b113 a (valB B6 b).toNat ⟨ha,hn,hl⟩)
  rw[hb,yE hb] at ht
  exact ht
 ·exact h.elim
theorem eZ {s:List UInt8} {i:Nat} (hi:i<s.length):aK s i=(s[i].toNat:Int):=by
 unfold aK
 rw[show s.getD i 0=s[i] by simp[List.getD_eq_getElem?_getD,hi]]
theorem bP {s:List UInt8} (h:0<s.length) (c:UInt8):aK s 0=c.toNat↔s.headD 0=c:=by
 cases s with
 | nil=>simp at h
 | cons x r=>
  show (x.toNat:Int)=c.toNat↔x=c
  exact ⟨fun e=>UInt8.toNat.inj (by omega),fun e=>by rw[e]⟩
theorem yF {s:List UInt8} (h:0<s.length) (hm:aK s 0=45):digs s=s.drop 1:=by
 have:=(bP h 45).1 hm
 unfold digs;rw[if_pos this,List.drop_one]
theorem sW {s:List UInt8} (hm:0<s.length→¬aK s 0=45):digs s=s.drop 0:=by
 unfold digs
 rw[List.drop_zero]
 by_cases h:0<s.length
 ·rw[if_neg fun e=>hm h ((bP h 45).2 e)]
 ·have:s= []:=List.length_eq_zero_iff.1 (by omega)
  subst this;rfl
theorem aHh {s:List UInt8} {p i:Nat} (hD:digs s=s.drop p) (hp:p≤i) (hi:i<s.length):s[i]∈digs s:=by
 rw[hD,List.mem_iff_getElem]
 exact ⟨i-p,by rw[List.length_drop];omega,by rw[List.getElem_drop];congr 1;omega⟩
theorem aCy {s:List UInt8} {p i:Nat} (hD:digs s=s.drop p) (hp:p≤i) (hi:i<s.length) (hb:aK s i<48∨aK s i>57):chkI s=11:=by
 unfold chkI
 rw[if_neg]
 rintro ⟨_,_,h3⟩
 have:=h3 _ (aHh hD hp hi)
 rw[eZ hi] at hb
 unfold aT at this
 omega
theorem aFs {s:List UInt8} {p:Nat} (hD:digs s=s.drop p) (hp:p<s.length):aK s p=48↔(digs s).headD 0=48:=by
 rw[hD,List.drop_eq_getElem_cons hp,eZ hp]
 show (s[p].toNat:Int)=48↔s[p]=48
 exact ⟨fun e=>UInt8.toNat.inj (show s[p].toNat=48 by omega),fun e=>by rw[e];rfl⟩
theorem aJ3 {s:List UInt8} {p:Nat} (hD:digs s=s.drop p) (hp:p<s.length) (h:aK s p=48) (hl:s.length>1):chkI s=11:=
 mP (.inr (.inl ⟨(aFs hD hp).1 h,fun e=>by rw[e] at hl;simp at hl⟩))
theorem aJ4 {s:List UInt8} {p:Nat} (hD:digs s=s.drop p) (hp:p<s.length) (hz:¬(aK s p=48∧s.length>1)) (hd:∀j,p≤j→j<s.length→48≤aK s j∧aK s j≤57):form s:=by
 refine ⟨fun e=>?_,?_,fun c hc=>?_⟩
 ·have:=congrArg List.length (hD.symm.trans e)
  rw[List.length_drop] at this
  simp at this;omega
 ·by_cases h0:(digs s).headD 0=48
  ·right
   have h1:=(aFs hD hp).2 h0
   have hl:s.length=1:=by
    have:¬s.length>1:=fun h=>hz ⟨h1,h⟩
    omega
   have hp0:p=0:=by omega
   subst hp0
   match s,hl with
   | [x],_=>
    rw[hD] at h0
    simp at h0
    rw[h0]
  ·exact .inl h0
 ·rw[hD,List.mem_iff_getElem] at hc
  obtain ⟨j,hj,e⟩:=hc
  rw[List.length_drop] at hj
  rw[List.getElem_drop] at e
  have:=hd (p+j) (by omega) (by omega)
  rw[eZ (by omega),e] at this
  unfold aT;omega
set_option maxHeartbeats 1600000 in
theorem b139 (s:List UInt8):body Tryz.prog [] { asks:=[(0,[])] } true Tryz.f201 [S s] (I (chkI s)):=by
 by_cases hm:0<s.length∧aK s 0=45
 ·have hD:=yF hm.1 hm.2
  have hL:(digs s).length=s.length-1:=by rw[hD,List.length_drop]
  obtain ⟨hm1,hm2⟩:=hm
  by_cases hz:s.length=1
  ·have hb:chkI s=11:=mP (.inl (List.length_eq_zero_iff.1 (by omega)))
   rw[hb]
   (repeat'((conv=>whnf);first|refine Zg fun _=>?_|refine Zn ?_|refine Z0 ?_|refine Zy ?_|fail))
   (conv=>whnf)
   (repeat'(first|rfl|refine And.intro ?_ ?_|fail))
  by_cases hz2:aK s 1=48∧s.length>1
  ·have hb:chkI s=11:=aJ3 hD (by omega) hz2.1 hz2.2
   rw[hb]
   obtain ⟨hz3,hz4⟩:=hz2
   (repeat'((conv=>whnf);first|refine Zg fun _=>?_|refine Zn ?_|refine Z0 ?_|refine Z1 ?_|refine Zy ?_|refine Zm ?_|fail))
   (conv=>whnf)
   (repeat'(first|rfl|refine And.intro ?_ ?_|fail))
  have hz3:¬(aK s 1=48)∨(aK s 1=48∧¬((s.length:Int)>1)):=by
   by_cases e:aK s 1=48
   ·exact .inr ⟨e,fun h=>hz2 ⟨e,by omega⟩⟩
   ·exact .inl e
  rcases hz3 with hz3 | ⟨hz3,hz4⟩
  all_goals first | (exfalso;omega) | skip
  all_goals (
   (repeat'((conv=>whnf);first|refine Zg fun _=>?_|refine Zn ?_|refine Z0 ?_|refine Z1 ?_|refine Zy ?_|refine Zm ?_|fail))
   refine Ask.mk ⟨{ X:=Nat,pre:=fun i=>1≤i∧i≤s.length∧∀j,1≤j→j<i→48≤aK s j∧aK s j≤57,mod:=fun i _=>[(4,I i)],heap:=fun _ _=>[],mu:=fun i=>s.length-i },rfl,?_⟩
   (repeat'((conv=>whnf);first|refine Zn ?_|fail))
   refine ⟨⟨(1:Nat),⟨Nat.le_refl _,by omega,fun j h1 h2=>by omega⟩,by (repeat'(first|exact trivial|rfl|refine And.intro ?_ ?_|fail))⟩,fun (i:Nat) hi=>?_⟩
   obtain ⟨hi1,hi2,hi3⟩:=hi
   by_cases hlt:i<s.length
   ·by_cases h1:aK s i<48
    ·have hb:chkI s=11:=aCy hD hi1 hlt (by omega)
     rw[hb]
     (repeat'((conv=>whnf);first|refine Zg fun _=>?_|refine Zn ?_|refine Zj ?_|refine Zy ?_|fail))
     (conv=>whnf)
     (repeat'(first|rfl|refine And.intro ?_ ?_|fail))
    ·by_cases h2:aK s i>57
     ·have hb:chkI s=11:=aCy hD hi1 hlt (by omega)
      rw[hb]
      (repeat'((conv=>whnf);first|refine Zg fun _=>?_|refine Zn ?_|refine Zj ?_|refine Zy ?_|refine Zm ?_|fail))
      (conv=>whnf)
      (repeat'(first|rfl|refine And.intro ?_ ?_|fail))
     ·(repeat'((conv=>whnf);first|refine Zg fun _=>?_|refine Zn ?_|refine Zj ?_|refine Zy ?_|refine Zm ?_|fail))
      refine ⟨(i+1:Nat),by show s.length-(i+1)<s.length-i;omega,⟨by omega,by omega,fun j h3 h4=>?_⟩,?_⟩
      ·by_cases e:j=i
       ·rw[e];omega
       ·exact hi3 j h3 (by omega)
      ·(repeat'(first|exact trivial|rfl|refine And.intro ?_ ?_|fail))
   ·have e:i=s.length:=by omega
    subst e
    have hf:form s:=aJ4 hD (by omega) (by omega) hi3
    rw[gO hf,hL]
    by_cases h5:300<s.length-1
    ·first
      | (exfalso;omega)
      | (rw[if_pos h5]
         (repeat'((conv=>whnf);first|refine Zg fun _=>?_|refine Zn ?_|refine Zy ?_|refine Zm ?_|fail))
         (conv=>whnf)
         (repeat'(first|rfl|refine And.intro ?_ ?_|fail)))
    ·rw[if_neg h5]
     (repeat'((conv=>whnf);first|refine Zg fun _=>?_|refine Zn ?_|refine Zm ?_|fail))
     (conv=>whnf)
     (repeat'(first|rfl|refine And.intro ?_ ?_|fail)))
 ·have hD:=sW (s:=s) fun h e=>hm ⟨h,e⟩
  have hL:(digs s).length=s.length-0:=by rw[hD,List.length_drop]
  have hm1:s.length=0∨(0<s.length∧¬aK s 0=45):=by
   by_cases e:s.length=0
   ·exact .inl e
   ·exact .inr ⟨by omega,fun h=>hm ⟨by omega,h⟩⟩
  rcases hm1 with hm1 | ⟨hm1,hm2⟩
  ·have hb:chkI s=11:=mP (.inl (List.length_eq_zero_iff.1 (by omega)))
   rw[hb]
   (repeat'((conv=>whnf);first|refine Zg fun _=>?_|refine Zy ?_|refine Zm ?_|fail))
   (conv=>whnf)
   (repeat'(first|rfl|refine And.intro ?_ ?_|fail))
  by_cases hz:s.length=0
  ·have hb:chkI s=11:=mP (.inl (List.length_eq_zero_iff.1 (by omega)))
   rw[hb]
   (repeat'((conv=>whnf);first|refine Zg fun _=>?_|refine Zn ?_|refine Z0 ?_|refine Zy ?_|fail))
   (conv=>whnf)
   (repeat'(first|rfl|refine And.intro ?_ ?_|fail))
  by_cases hz2:aK s 0=48∧s.length>1
  ·have hb:chkI s=11:=aJ3 hD (by omega) hz2.1 hz2.2
   rw[hb]
   obtain ⟨hz3,hz4⟩:=hz2
   (repeat'((conv=>whnf);first|refine Zg fun _=>?_|refine Zn ?_|refine Z0 ?_|refine Zy ?_|refine Zm ?_|fail))
   (conv=>whnf)
   (repeat'(first|rfl|refine And.intro ?_ ?_|fail))
  have hz3:¬(aK s 0=48)∨(aK s 0=48∧¬((s.length:Int)>1)):=by
   by_cases e:aK s 0=48
   ·exact .inr ⟨e,fun h=>hz2 ⟨e,by omega⟩⟩
   ·exact .inl e
  rcases hz3 with hz3 | ⟨hz3,hz4⟩
  all_goals first | (exfalso;omega) | skip
  all_goals (
   (repeat'((conv=>whnf);first|refine Zg fun _=>?_|refine Zn ?_|refine Z0 ?_|refine Zy ?_|refine Zm ?_|fail))
   refine Ask.mk ⟨{ X:=Nat,pre:=fun i=>0≤i∧i≤s.length∧∀j,0≤j→j<i→48≤aK s j∧aK s j≤57,mod:=fun i _=>[(4,I i)],heap:=fun _ _=>[],mu:=fun i=>s.length-i },rfl,?_⟩
   (repeat'((conv=>whnf);first|refine Zn ?_|fail))
   refine ⟨⟨(0:Nat),⟨Nat.le_refl _,by omega,fun j h1 h2=>by omega⟩,by (repeat'(first|exact trivial|rfl|refine And.intro ?_ ?_|fail))⟩,fun (i:Nat) hi=>?_⟩
   obtain ⟨hi1,hi2,hi3⟩:=hi
   by_cases hlt:i<s.length
   ·by_cases h1:aK s i<48
    ·have hb:chkI s=11:=aCy hD hi1 hlt (by omega)
     rw[hb]
     (repeat'((conv=>whnf);first|refine Zg fun _=>?_|refine Zn ?_|refine Zj ?_|refine Zy ?_|fail))
     (conv=>whnf)
     (repeat'(first|rfl|refine And.intro ?_ ?_|fail))
    ·by_cases h2:aK s i>57
     ·have hb:chkI s=11:=aCy hD hi1 hlt (by omega)
      rw[hb]
      (repeat'((conv=>whnf);first|refine Zg fun _=>?_|refine Zn ?_|refine Zj ?_|refine Zy ?_|refine Zm ?_|fail))
      (conv=>whnf)
      (repeat'(first|rfl|refine And.intro ?_ ?_|fail))
     ·(repeat'((conv=>whnf);first|refine Zg fun _=>?_|refine Zn ?_|refine Zj ?_|refine Zy ?_|refine Zm ?_|fail))
      refine ⟨(i+1:Nat),by show s.length-(i+1)<s.length-i;omega,⟨by omega,by omega,fun j h3 h4=>?_⟩,?_⟩
      ·by_cases e:j=i
       ·rw[e];omega
       ·exact hi3 j h3 (by omega)
      ·(repeat'(first|exact trivial|rfl|refine And.intro ?_ ?_|fail))
   ·have e:i=s.length:=by omega
    subst e
    have hf:form s:=aJ4 hD (by omega) (by omega) hi3
    rw[gO hf,hL]
    by_cases h5:300<s.length-0
    ·first
      | (exfalso;omega)
      | (rw[if_pos h5]
         (repeat'((conv=>whnf);first|refine Zg fun _=>?_|refine Zn ?_|refine Zy ?_|refine Zm ?_|fail))
         (conv=>whnf)
         (repeat'(first|rfl|refine And.intro ?_ ?_|fail)))
    ·rw[if_neg h5]
     (repeat'((conv=>whnf);first|refine Zg fun _=>?_|refine Zn ?_|refine Zm ?_|fail))
     (conv=>whnf)
     (repeat'(first|rfl|refine And.intro ?_ ?_|fail)))
def c139:Con:=aJ 201 true fun args K=>match args with | [.str s]=>K (I (chkI s)) | _=>False
theorem k139:aF Tryz.prog c139:=by
 refine aC rfl (enters_of Tryz.func201 (by kernel_rfl) rfl) ?_
 intro args K h
 simp only[c139] at h
 split at h
 ·rename_i s;exact ⟨_,h,aA (Γ:=[]) (by simp) Tryz.func201 (by simp[Tryz.ntmps201]) rfl (b139 s)⟩
 ·exact h.elim
theorem b110 (a b:List UInt8):body Tryz.prog [c139] {} true Tryz.f161 [S a,S b] (I (chk2 a b)):=by
 unfold chk2
 skip
 (refine Br.mk (fun _=>?_) (fun _=>?_))
 ·rename_i h
  rw[if_pos h]
  skip
  (conv=>whnf)
  (repeat'(first|rfl|refine And.intro ?_ ?_|fail))
 ·rename_i h
  rw[if_neg h]
  skip
  (conv=>whnf)
  (repeat'(first|rfl|refine And.intro ?_ ?_|fail))
def c110:Con:=aJ 161 true fun args K=>match args with | [.str a,.str b]=>K (I (chk2 a b)) | _=>False
theorem k110:aF Tryz.prog c110:=by
 refine aC rfl (enters_of Tryz.func161 (by kernel_rfl) rfl) ?_
 intro args K h
 simp only[c110] at h
 split at h
 ·rename_i a b;exact ⟨_,h,aA (Γ:=[c139]) (by simp[k139]) Tryz.func161 (by simp[Tryz.ntmps161]) rfl (b110 a b)⟩
 ·exact h.elim
def sgP' (s:List UInt8):Nat:=if s.headD 0=45 then 1 else 0
theorem oV (s:List UInt8):digs s=s.drop (sgP' s):=by
 unfold digs sgP'
 split
 ·rw[List.drop_one]
 ·rw[List.drop_zero]
def pfx (s:List UInt8) (i:Nat):Nat:=aD ((s.take i).drop (sgP' s))
theorem aN2 (s:List UInt8):pfx s 0=0:=by simp[pfx,aD]
theorem aCz (s:List UInt8):pfx s s.length=aD (digs s):=by
 unfold pfx;rw[List.take_length,oV]
theorem aR2 {s:List UInt8} (hf:form s) {i:Nat} (hi:i≤16):pfx s i<10000000000000000:=by
 have hb:=cD ((s.take i).drop (sgP' s)) fun c hc=>hf.2.2 c (by rw[oV];rw[List.drop_take] at hc;exact List.mem_of_mem_take hc)
 have hp:(10:Nat)^ ((s.take i).drop (sgP' s)).length≤10^16:=Nat.pow_le_pow_right (by omega) (by rw[List.length_drop,List.length_take];omega)
 have h16:(10:Nat)^16=10000000000000000:=by decide
 unfold pfx;omega
theorem aN3 {s:List UInt8} (hf:form s) {i:Nat} (hi:i<s.length) (h:aK s i=45):pfx s (i+1)=pfx s i:=by
 by_cases hp:sgP' s≤i
 ·have:=hf.2.2 _ (aHh (oV s) hp hi)
  rw[eZ hi] at h
  unfold aT at this;omega
 ·unfold pfx
  rw[List.drop_eq_nil_of_le (by rw[List.length_take];omega),List.drop_eq_nil_of_le (by rw[List.length_take];omega)]
theorem aPz {s:List UInt8} (hf:form s) {i:Nat} (hi:i<s.length) (h:¬aK s i=45):(48≤aK s i∧aK s i≤57)∧(pfx s (i+1):Int)=10*pfx s i+(aK s i-48):=by
 by_cases hp:sgP' s≤i
 ·have hg:=hf.2.2 _ (aHh (oV s) hp hi)
  have e:(s.take (i+1)).drop (sgP' s)=(s.take i).drop (sgP' s)++ [s[i]]:=by
   rw[List.take_succ_eq_append_getElem hi,List.drop_append_of_le_length (by rw[List.length_take];omega)]
  rw[eZ hi]
  unfold pfx
  rw[e,dC]
  unfold aT at hg
  omega
 ·refine absurd ?_ h
  have h0:i=0∧s.headD 0=45:=by
   unfold sgP' at hp
   split at hp
   ·exact ⟨by omega,by assumption⟩
   ·omega
  rw[h0.1]
  exact (bP (by omega) 45).2 h0.2
theorem b140n (s:List UInt8) (h:17<s.length):body Tryz.prog [] { asks:=[(0,[])] } true Tryz.f202 [S s] (.tup [I 0,.val (.bool false)]):=by
 (repeat'((conv=>whnf);first|refine Zg fun _=>?_|refine Zy ?_|fail))
 (conv=>whnf)
 (repeat'(first|exact trivial|rfl|refine And.intro ?_ ?_|fail))
theorem b140y (s:List UInt8) (hf:form s) (hl:s.length≤17):body Tryz.prog [] { asks:=[(0,[])] } true Tryz.f202 [S s] (.tup [I (valI s),.val (.bool true)]):=by
 have h0:0<s.length:=Nat.pos_of_ne_zero fun e=>hf.1 (by rw[List.length_eq_zero_iff.1 e];rfl)
 (repeat'((conv=>whnf);first|refine Zg fun _=>?_|refine Zm ?_|fail))
 refine Ask.mk ⟨{ X:=Nat,pre:=fun i=>i≤s.length,mod:=fun i _=>[(4,I (pfx s i)),(5,I i)],heap:=fun _ _=>[],mu:=fun i=>s.length-i },rfl,?_⟩
 (repeat'((conv=>whnf);first|refine Zn ?_|fail))
 refine ⟨⟨(0:Nat),Nat.zero_le _,?_⟩,fun (i:Nat) (hi:i≤s.length)=>?_⟩
 ·(repeat'(first|exact trivial|rfl|refine And.intro ?_ ?_|fail))
  rw[aN2];rfl
 by_cases hlt:i<s.length
 ·have hb:=aR2 hf (i:=i) (by omega)
  by_cases hs:aK s i=45
  ·have e:=aN3 hf hlt hs
   (repeat'((conv=>whnf);first|refine Zg fun _=>?_|refine Zn ?_|refine Zj ?_|refine Zy ?_|refine Zm ?_|fail))
   refine ⟨(i+1:Nat),by show s.length-(i+1)<s.length-i;omega,hlt,?_⟩
   (repeat'(first|exact trivial|rfl|refine And.intro ?_ ?_|omega|fail))
  ·obtain ⟨e1,e2⟩:=aPz hf hlt hs
   (repeat'((conv=>whnf);first|refine Zg fun _=>?_|refine Zn ?_|refine Zj ?_|refine Zy ?_|fail))
   refine ⟨(i+1:Nat),by show s.length-(i+1)<s.length-i;omega,hlt,?_⟩
   (repeat'(first|exact trivial|rfl|refine And.intro ?_ ?_|omega|fail))
 ·have e:i=s.length:=by omega
  subst e
  have hn:pfx s s.length<1000000000000000000:=by
   rw[aCz]
   have hb:=cD (digs s) hf.2.2
   have hp:(10:Nat)^ (digs s).length≤10^18:=Nat.pow_le_pow_right (by omega) (by have:=kB s;omega)
   have h18:(10:Nat)^18=1000000000000000000:=by decide
   omega
  by_cases hm:aK s 0=45
  ·have hv:valI s= -(pfx s s.length:Int):=by
    have hm':=(bP h0 45).1 hm
    rw[aCz];unfold valI digs;rw[if_pos hm',if_pos hm']
   rw[hv]
   (repeat'((conv=>whnf);first|refine Zg fun _=>?_|refine Zn ?_|refine Z0 ?_|refine Zy ?_|refine Zm ?_|fail))
   (conv=>whnf)
   (repeat'(first|exact trivial|rfl|refine And.intro ?_ ?_|fail))
  ·have hv:valI s=(pfx s s.length:Int):=by
    have hm':¬s.headD 0=45:=fun e=>hm ((bP h0 45).2 e)
    rw[aCz];unfold valI digs;rw[if_neg hm',if_neg hm']
   rw[hv]
   (repeat'((conv=>whnf);first|refine Zg fun _=>?_|refine Zn ?_|refine Z0 ?_|refine Zm ?_|fail))
   (conv=>whnf)
   (repeat'(first|exact trivial|rfl|refine And.intro ?_ ?_|fail))
def c140:Con:=aJ 202 true fun args K=>match args with
 | [.str s]=>Need (form s) (Br (17<s.length) (K (.tup [I 0,.val (.bool false)])) (K (.tup [I (valI s),.val (.bool true)])))
 | _=>False
theorem k140:aF Tryz.prog c140:=by
 refine aC rfl (enters_of Tryz.func202 (by kernel_rfl) rfl) ?_
 intro args K h
 simp only[c140] at h
 split at h
 ·rename_i s
  obtain ⟨hf,h⟩:=h
  by_cases hs:17<s.length
  ·exact ⟨_,h.yes hs,aA (Γ:=[]) (by simp) Tryz.func202 (by simp[Tryz.ntmps202]) rfl (b140n s hs)⟩
  ·exact ⟨_,h.no hs,aA (Γ:=[]) (by simp) Tryz.func202 (by simp[Tryz.ntmps202]) rfl (b140y s hf (by omega))⟩
 ·exact h.elim
theorem b111 (a b:List UInt8) (ha:form a) (hb:form b) (x y:Int) (o:Bool) (h:(x,y,o)=if 17<a.length then (0,0,false) else if 17<b.length then (valI a,0,false) else (valI a,valI b,true)):body Tryz.prog [c140] {} true Tryz.f162 [S a,S b] (.tup [I x,I y,.val (.bool o)]):=by
 by_cases h1:17<a.length
 ·rw[if_pos h1] at h
  cases h
  (repeat'((conv=>whnf);first|refine Zn ?_|refine Zy ?_|fail))
  (conv=>whnf)
  (repeat'(first|exact trivial|rfl|refine And.intro ?_ ?_|fail))
 ·rw[if_neg h1] at h
  by_cases h2:17<b.length
  ·rw[if_pos h2] at h
   cases h
   (repeat'((conv=>whnf);first|refine Zn ?_|refine Zy ?_|refine Zm ?_|fail))
   (conv=>whnf)
   (repeat'(first|exact trivial|rfl|refine And.intro ?_ ?_|fail))
  ·rw[if_neg h2] at h
   cases h
   (repeat'((conv=>whnf);first|refine Zn ?_|refine Zm ?_|fail))
   (conv=>whnf)
   (repeat'(first|exact trivial|rfl|refine And.intro ?_ ?_|fail))
def c111:Con:=aJ 162 true fun args K=>match args with
 | [.str a,.str b]=>Need (form a∧form b) (Br (a.length≤17∧b.length≤17) (K (.tup [I (valI a),I (valI b),.val (.bool true)])) (Br (17<a.length) (K (.tup [I 0,I 0,.val (.bool false)])) (K (.tup [I (valI a),I 0,.val (.bool false)]))))
 | _=>False
theorem k111:aF Tryz.prog c111:=by
 refine aC rfl (enters_of Tryz.func162 (by kernel_rfl) rfl) ?_
 intro args K h
 simp only[c111] at h
 split at h
 ·rename_i a b
  obtain ⟨⟨ha,hb⟩,h⟩:=h
  have go:=fun x y o hh=>aA (Γ:=[c140]) (by simp[k140]) Tryz.func162 (by simp[Tryz.ntmps162]) rfl (b111 a b ha hb x y o hh)
  by_cases hs:a.length≤17∧b.length≤17
  ·exact ⟨_,h.yes hs,go _ _ _ (by rw[if_neg (by omega),if_neg (by omega)])⟩
  ·by_cases h1:17<a.length
   ·exact ⟨_,(h.no hs).yes h1,go _ _ _ (by rw[if_pos h1])⟩
   ·exact ⟨_,(h.no hs).no h1,go _ _ _ (by rw[if_neg h1,if_pos (by omega)])⟩
 ·exact h.elim
def gfx (D:List UInt8) (st i:Nat):Nat:=aD ((D.take i).drop st)
theorem yG (D:List UInt8) (st:Nat):gfx D st st=0:=by
 unfold gfx
 rw[List.drop_eq_nil_of_le (by rw[List.length_take];omega)];rfl
theorem aN4 {D:List UInt8} (hd:∀c∈D,aT c) {st i:Nat} (h:i≤st+6):gfx D st i<1000000:=by
 have hb:=cD ((D.take i).drop st) fun c hc=>hd c (List.mem_of_mem_take (List.mem_of_mem_drop hc))
 have hp:(10:Nat)^ ((D.take i).drop st).length≤10^6:=Nat.pow_le_pow_right (by omega) (by rw[List.length_drop,List.length_take];omega)
 have h6:(10:Nat)^6=1000000:=by decide
 unfold gfx;omega
theorem aC0 {D:List UInt8} (hd:∀c∈D,aT c) {st i:Nat} (hs:st≤i) (hi:i<D.length):(48≤aK D i∧aK D i≤57)∧(gfx D st (i+1):Int)=10*gfx D st i+(aK D i-48):=by
 have hg:=hd _ (List.getElem_mem hi)
 have e:(D.take (i+1)).drop st=(D.take i).drop st++ [D[i]]:=by
  rw[List.take_succ_eq_append_getElem hi,List.drop_append_of_le_length (by rw[List.length_take];omega)]
 rw[eZ hi]
 unfold gfx
 rw[e,dC]
 unfold aT at hg
 omega
set_option maxHeartbeats 1600000 in
theorem b112y (s:List UInt8) (h:form s∧(digs s).length≤600) (hm:s.headD 0=45):body Tryz.prog [c141] { asks:=[(0,[2]),(2,[])] } false Tryz.f164 [S s] (.agg [.bl (s.headD 0=45) inferInstance,Ls (aB B6 (aD (digs s)))]):=by
 obtain ⟨hf,hl⟩:=h
 have h0:0<s.length:=Nat.pos_of_ne_zero fun e=>hf.1 (by rw[List.length_eq_zero_iff.1 e];rfl)
 have hd:=hf.2.2
 have hb:aK s 0=45:=(bP h0 45).2 hm
 have hD:=yF h0 hb
 rw[hD] at hd hl ⊢
 have hL:(s.drop 1).length=(s.drop 1).length:=rfl
 have e6:(10:Nat)^6=B6:=by decide
 skip
 refine Own.l ?_
 skip
 refine Own.l ?_
 skip
 (conv=>whnf)
 refine Own.r ?_
 refine ⟨1,.int .i64,3,?_⟩
 (repeat'((conv=>whnf);first|refine Zg fun _=>?_|refine Zn ?_|refine Z0 ?_|refine Z1 ?_|refine Zy ?_|fail))
 (conv=>whnf)
 refine Ask.mk ⟨{ X:=Nat,pre:=fun k=>6*k<(s.drop 1).length+6,mod:=fun k _=>[(4,I (((s.drop 1).length:Int)-6*k))],heap:=fun k H=>[hget H 0,.cells [.val (.bool true),.ref 2 1] 163,V (rdG (s.drop 1) k)],mu:=fun k=>(s.drop 1).length+6-6*k,objs:=[2] },rfl,?_⟩
 (repeat'((conv=>whnf);first|refine Zn ?_|fail))
 refine ⟨⟨(0:Nat),by show 6*0< _;omega,?_⟩,fun (k:Nat) hk=>?_⟩
 ·(repeat'(first|exact trivial|rfl|exact Nat.one_pos|refine And.intro ?_ ?_|fail))
 have hk:6*k<(s.drop 1).length+6:=hk
 have hrl:=(rG hd k hk).1
 by_cases hlt:6*k<(s.drop 1).length
 ·obtain ⟨st,hst⟩:∃st,(s.drop 1).length-6*(k+1)=st:=⟨_,rfl⟩
  obtain ⟨en,hen⟩:∃en,(s.drop 1).length-6*k=en:=⟨_,rfl⟩
  (repeat'((conv=>whnf);first|refine Zn ?_|refine Zy ?_|fail))
  refine Ask.mk ⟨{ X:=Nat,pre:=fun i=>st≤i∧i≤en,mod:=fun i _=>[(5,I (gfx (s.drop 1) st i)),(6,I i)],heap:=fun i H=>[hget H 0,.cells [.val (.bool true),.ref 2 1] 163,V (rdG (s.drop 1) k)],mu:=fun i=>en-i },rfl,?_⟩
  (repeat'((conv=>whnf);first|refine Zn ?_|fail))
  refine ⟨⟨(st:Nat),⟨Nat.le_refl _,by omega⟩,?_⟩,fun (i:Nat) hi=>?_⟩
  ·(repeat'(first|exact trivial|rfl|refine And.intro ?_ ?_|omega|fail))
   rw[yG];rfl
  obtain ⟨hi1,hi2⟩:=hi
  by_cases hlt2:i<en
  ·have hg:=aN4 hd (st:=st) (i:=i) (by omega)
   obtain ⟨e1,e2⟩:=aC0 hd hi1 (show i<(s.drop 1).length by omega)
   (repeat'((conv=>whnf);first|refine Zg fun _=>?_|refine Zn ?_|refine Zj ?_|refine Zy ?_|fail))
   refine ⟨(i+1:Nat),by show en-(i+1)<en-i;omega,⟨by omega,hlt2⟩,?_⟩
   (repeat'(first|exact trivial|rfl|refine And.intro ?_ ?_|omega|fail))
  ·have e:i=en:=by omega
   subst e
   (repeat'((conv=>whnf);first|refine Zl ?_|refine Zm ?_|fail))
   try (
    refine Need.mk (show (rdG (s.drop 1) k).length+1≤17592186044416 by omega) ?_
    (repeat'((conv=>whnf);first|refine Zn ?_|fail)))
   refine ⟨(k+1:Nat),by show (s.drop 1).length+6-6*(k+1)<(s.drop 1).length+6-6*k;omega,by show 6*(k+1)<(s.drop 1).length+6;omega,?_⟩
   (repeat'(first|exact trivial|rfl|exact Nat.one_pos|refine And.intro ?_ ?_|omega|fail))
   show rdG (s.drop 1) k++ [((gfx (s.drop 1) st i:Nat):Int)]=rdG (s.drop 1) k++ [((aD (grp (s.drop 1) k):Nat):Int)]
   unfold gfx grp
   rw[hst,hen]
 ·have hr:=aIv hd hk (by omega)
  rw[e6] at hr
  (repeat'((conv=>whnf);first|refine Zm ?_|fail))
  (conv=>whnf)
  (repeat'(first|exact trivial|refine And.intro ?_ ?_|fail))
  ·exact hm
  ·exact hr
set_option maxHeartbeats 1600000 in
theorem b112n (s:List UInt8) (h:form s∧(digs s).length≤600) (hm:¬s.headD 0=45):body Tryz.prog [c141] { asks:=[(0,[2]),(2,[])] } false Tryz.f164 [S s] (.agg [.bl (s.headD 0=45) inferInstance,Ls (aB B6 (aD (digs s)))]):=by
 obtain ⟨hf,hl⟩:=h
 have h0:0<s.length:=Nat.pos_of_ne_zero fun e=>hf.1 (by rw[List.length_eq_zero_iff.1 e];rfl)
 have hd:=hf.2.2
 have hb:¬aK s 0=45:=fun e=>hm ((bP h0 45).1 e)
 have hD:digs s=s:=sW fun _=>hb
 rw[hD] at hd hl ⊢
 have hL:(s).length=(s).length:=rfl
 have e6:(10:Nat)^6=B6:=by decide
 skip
 refine Own.l ?_
 skip
 refine Own.l ?_
 skip
 (conv=>whnf)
 refine Own.r ?_
 refine ⟨1,.int .i64,3,?_⟩
 (repeat'((conv=>whnf);first|refine Zg fun _=>?_|refine Zn ?_|refine Z0 ?_|refine Zm ?_|fail))
 (conv=>whnf)
 refine Ask.mk ⟨{ X:=Nat,pre:=fun k=>6*k<(s).length+6,mod:=fun k _=>[(4,I (((s).length:Int)-6*k))],heap:=fun k H=>[hget H 0,.cells [.val (.bool false),.ref 2 1] 163,V (rdG (s) k)],mu:=fun k=>(s).length+6-6*k,objs:=[2] },rfl,?_⟩
 (repeat'((conv=>whnf);first|refine Zn ?_|fail))
 refine ⟨⟨(0:Nat),by show 6*0< _;omega,?_⟩,fun (k:Nat) hk=>?_⟩
 ·(repeat'(first|exact trivial|rfl|exact Nat.one_pos|refine And.intro ?_ ?_|fail))
 have hk:6*k<(s).length+6:=hk
 have hrl:=(rG hd k hk).1
 by_cases hlt:6*k<(s).length
 ·obtain ⟨st,hst⟩:∃st,(s).length-6*(k+1)=st:=⟨_,rfl⟩
  obtain ⟨en,hen⟩:∃en,(s).length-6*k=en:=⟨_,rfl⟩
  (repeat'((conv=>whnf);first|refine Zn ?_|refine Zy ?_|fail))
  refine Ask.mk ⟨{ X:=Nat,pre:=fun i=>st≤i∧i≤en,mod:=fun i _=>[(5,I (gfx (s) st i)),(6,I i)],heap:=fun i H=>[hget H 0,.cells [.val (.bool false),.ref 2 1] 163,V (rdG (s) k)],mu:=fun i=>en-i },rfl,?_⟩
  (repeat'((conv=>whnf);first|refine Zn ?_|fail))
  refine ⟨⟨(st:Nat),⟨Nat.le_refl _,by omega⟩,?_⟩,fun (i:Nat) hi=>?_⟩
  ·(repeat'(first|exact trivial|rfl|refine And.intro ?_ ?_|omega|fail))
   rw[yG];rfl
  obtain ⟨hi1,hi2⟩:=hi
  by_cases hlt2:i<en
  ·have hg:=aN4 hd (st:=st) (i:=i) (by omega)
   obtain ⟨e1,e2⟩:=aC0 hd hi1 (show i<(s).length by omega)
   (repeat'((conv=>whnf);first|refine Zg fun _=>?_|refine Zn ?_|refine Zj ?_|refine Zy ?_|fail))
   refine ⟨(i+1:Nat),by show en-(i+1)<en-i;omega,⟨by omega,hlt2⟩,?_⟩
   (repeat'(first|exact trivial|rfl|refine And.intro ?_ ?_|omega|fail))
  ·have e:i=en:=by omega
   subst e
   (repeat'((conv=>whnf);first|refine Zn ?_|refine Zl ?_|refine Zm ?_|fail))
   try (
    refine Need.mk (show (rdG (s) k).length+1≤17592186044416 by omega) ?_
    skip)
   refine ⟨(k+1:Nat),by show (s).length+6-6*(k+1)<(s).length+6-6*k;omega,by show 6*(k+1)<(s).length+6;omega,?_⟩
   (repeat'(first|exact trivial|rfl|exact Nat.one_pos|refine And.intro ?_ ?_|omega|fail))
   show rdG (s) k++ [((gfx (s) st i:Nat):Int)]=rdG (s) k++ [((aD (grp (s) k):Nat):Int)]
   unfold gfx grp
   rw[hst,hen]
 ·have hr:=aIv hd hk (by omega)
  rw[e6] at hr
  (repeat'((conv=>whnf);first|refine Zm ?_|fail))
  (conv=>whnf)
  (repeat'(first|exact trivial|refine And.intro ?_ ?_|fail))
  ·exact hm
  ·exact hr
theorem b112 (s:List UInt8) (h:form s∧(digs s).length≤600):body Tryz.prog [c141] { asks:=[(0,[2]),(2,[])] } false Tryz.f164 [S s] (.agg [.bl (s.headD 0=45) inferInstance,Ls (aB B6 (aD (digs s)))]):=by
 by_cases hm:s.headD 0=45
 ·exact b112y s h hm
 ·exact b112n s h hm
def c112:Con:=aJ 164 false fun args K=>match args with | [.str s]=>Need (form s∧(digs s).length≤600) (K (.agg [.bl (s.headD 0=45) inferInstance,Ls (aB B6 (aD (digs s)))])) | _=>False
theorem k112:aF Tryz.prog c112:=by
 refine aC rfl (enters_of Tryz.func164 (by kernel_rfl) rfl) ?_
 intro args K h
 simp only[c112] at h
 split at h
 ·rename_i s;exact ⟨_,h.go,aA (Γ:=[c141]) (by simp[k141]) Tryz.func164 (by simp[Tryz.ntmps164]) rfl (b112 s h.ok)⟩
 ·exact h.elim
theorem b84 (a b:Int) (h:(0≤a∧a≤4611686018427387904)∧(0≤b∧b≤4611686018427387904)):body Tryz.prog [] { asks:=[(0,[])] } true Tryz.f147 [I a,I b] (I (Int.gcd a b)):=by
 obtain ⟨ha,hb⟩:=h
 skip
 refine Ask.mk ⟨{ X:=Int × Int,pre:=fun z=>Int.gcd z.1 z.2=Int.gcd a b∧(0≤z.1∧z.1≤4611686018427387904)∧(0≤z.2∧z.2≤4611686018427387904),mod:=fun z _=>[(0,I z.1),(1,I z.2)],heap:=fun _ _=>[],mu:=fun z=>z.2.natAbs },rfl,?_⟩
 (repeat'((conv=>whnf);first|refine Zn ?_|fail))
 refine ⟨⟨(a,b),⟨rfl,ha,hb⟩,by (repeat'(first|exact trivial|rfl|refine And.intro ?_ ?_|fail))⟩,fun (z:Int × Int) hz=>?_⟩
 obtain ⟨z1,z2,z3⟩:=hz
 skip
 (refine Br.mk (fun _=>?_) (fun _=>?_))
 ·rename_i hy
  have hm:(z.1.tmod z.2).natAbs<z.2.natAbs:=by rw[Int.natAbs_tmod];exact Nat.mod_lt _ (by omega)
  have hm0:0≤z.1.tmod z.2:=Int.tmod_nonneg _ z2.1
  (repeat'((conv=>whnf);first|refine Za ?_|(apply Pin.mk;apply Exists.intro)|apply Pinned.mk rfl rfl|fail))
  (conv=>whnf)
  refine ⟨(z.2,z.1.tmod z.2),hm,⟨by rw[← z1];exact rM _ _,z3,hm0,by show z.1.tmod z.2≤ _;omega⟩,?_⟩
  (repeat'(first|exact trivial|rfl|refine And.intro ?_ ?_|fail))
  exact (Int.tmod_eq_emod_of_nonneg z2.1).symm
 ·rename_i hy
  have hy:z.2=0:=by omega
  have hg:((Int.gcd a b:Nat):Int)=z.1:=by
   rw[← z1,hy,Int.gcd_zero_right]
   omega
  rw[hg]
  skip
  (conv=>whnf)
  (repeat'(first|rfl|refine And.intro ?_ ?_|fail))
def c84:Con:=aJ 147 true fun args K=>match args with | [.val (.int .i64 a),.val (.int .i64 b)]=>Need ((0≤a∧a≤4611686018427387904)∧(0≤b∧b≤4611686018427387904)) (K (I (Int.gcd a b))) | _=>False
theorem k84:aF Tryz.prog c84:=by
 refine aC rfl (enters_of Tryz.func147 (by kernel_rfl) rfl) ?_
 intro args K h
 simp only[c84] at h
 split at h
 ·rename_i a b;exact ⟨_,h.go,aA (Γ:=[]) (by simp) Tryz.func147 (by simp[Tryz.ntmps147]) rfl (b84 a b h.ok)⟩
 ·exact h.elim
theorem aN5 {D:List UInt8} (hd:∀c∈D,aT c) {i:Nat} (h:i≤17):gfx D 0 i<100000000000000000:=by
 have hb:=cD ((D.take i).drop 0) fun c hc=>hd c (List.mem_of_mem_take (List.mem_of_mem_drop hc))
 have hp:(10:Nat)^ ((D.take i).drop 0).length≤10^17:=Nat.pow_le_pow_right (by omega) (by rw[List.length_drop,List.length_take];omega)
 have h6:(10:Nat)^17=100000000000000000:=by decide
 unfold gfx;omega
theorem aP0 (D:List UInt8):gfx D 0 D.length=aD D:=by
 unfold gfx;rw[List.take_length,List.drop_zero]
theorem b85 (s:List UInt8) (h:(∀c∈s,aT c)∧s.length≤18):body Tryz.prog [] { asks:=[(0,[])] } true Tryz.f148 [S s] (I (aD s)):=by
 obtain ⟨hd,hl⟩:=h
 skip
 refine Ask.mk ⟨{ X:=Nat,pre:=fun i=>i≤s.length,mod:=fun i _=>[(3,I (gfx s 0 i)),(4,I i)],heap:=fun _ _=>[],mu:=fun i=>s.length-i },rfl,?_⟩
 (repeat'((conv=>whnf);first|refine Zn ?_|fail))
 refine ⟨⟨(0:Nat),Nat.zero_le _,?_⟩,fun (i:Nat) (hi:i≤s.length)=>?_⟩
 ·(repeat'(first|exact trivial|rfl|refine And.intro ?_ ?_|fail))
  all_goals (rw[yG];rfl)
 by_cases hlt:i<s.length
 ·have hg:=aN5 hd (i:=i) (by omega)
  obtain ⟨e1,e2⟩:=aC0 hd (Nat.zero_le _) hlt
  (repeat'((conv=>whnf);first|refine Zg fun _=>?_|refine Zn ?_|refine Zj ?_|refine Zy ?_|fail))
  refine ⟨(i+1:Nat),by show s.length-(i+1)<s.length-i;omega,hlt,?_⟩
  (repeat'(first|exact trivial|rfl|refine And.intro ?_ ?_|omega|fail))
 ·have e:i=s.length:=by omega
  subst e
  rw[← aP0]
  (repeat'((conv=>whnf);first|refine Zg fun _=>?_|refine Zm ?_|fail))
  (conv=>whnf)
  (repeat'(first|rfl|refine And.intro ?_ ?_|fail))
def c85:Con:=aJ 148 true fun args K=>match args with | [.str s]=>Need ((∀c∈s,aT c)∧s.length≤18) (K (I (aD s))) | _=>False
theorem k85:aF Tryz.prog c85:=by
 refine aC rfl (enters_of Tryz.func148 (by kernel_rfl) rfl) ?_
 intro args K h
 simp only[c85] at h
 split at h
 ·rename_i s;exact ⟨_,h.go,aA (Γ:=[]) (by simp) Tryz.func148 (by simp[Tryz.ntmps148]) rfl (b85 s h.ok)⟩
 ·exact h.elim
noncomputable instance (s:List UInt8):Decidable (okD s):=Classical.propDecidable _
theorem aJ5 {s:List UInt8} {i:Nat} (hi:i<s.length) (hb:aK s i<48∨aK s i>57):¬okD s:=by
 rw[gM]
 rintro ⟨_,h3,_⟩
 have:=h3 _ (List.getElem_mem hi)
 rw[eZ hi] at hb
 unfold aT at this
 omega
theorem b83 (s:List UInt8):body Tryz.prog [] { asks:=[(0,[])] } true Tryz.f146 [S s] (.bl (okD s) inferInstance):=by
 by_cases h0:s.length=0
 ·have hn:¬okD s:=by
   rw[gM];exact fun h=>h.1 (List.length_eq_zero_iff.1 h0)
  (repeat'((conv=>whnf);first|refine Zg fun _=>?_|refine Zy ?_|fail))
  (conv=>whnf)
  skip
  exact hn
 by_cases h1:s.length>1∧aK s 0=48
 ·obtain ⟨h1,h2⟩:=h1
  have hn:¬okD s:=by
   rw[gM]
   rintro ⟨_,_,h3⟩
   have:=(bP (s:=s) (by omega) 48).1 h2
   rcases h3 with h3 | h3
   ·omega
   ·exact h3 this
  (repeat'((conv=>whnf);first|refine Zg fun _=>?_|refine Zn ?_|refine Z0 ?_|refine Zy ?_|refine Zm ?_|fail))
  (conv=>whnf)
  skip
  exact hn
 have h2:¬((s.length:Int)>1)∨((s.length:Int)>1∧¬(aK s 0=48)):=by
  by_cases e:aK s 0=48
  ·exact .inl fun h=>h1 ⟨by omega,e⟩
  ·by_cases e2:s.length>1
   ·exact .inr ⟨by omega,e⟩
   ·exact .inl (by omega)
 have h3:s.length=1∨s.headD 0≠48:=by
  rcases h2 with h2 | ⟨_,h2⟩
  ·exact .inl (by omega)
  ·exact .inr fun e=>h2 ((bP (s:=s) (by omega) 48).2 e)
 rcases h2 with h2 | ⟨h2,h4⟩
 all_goals (
  (repeat'((conv=>whnf);first|refine Zg fun _=>?_|refine Zn ?_|refine Z0 ?_|refine Zy ?_|refine Zm ?_|fail))
  refine Ask.mk ⟨{ X:=Nat,pre:=fun i=>i≤s.length∧∀j,j<i→48≤aK s j∧aK s j≤57,mod:=fun i _=>[(3,I i)],heap:=fun _ _=>[],mu:=fun i=>s.length-i },rfl,?_⟩
  (repeat'((conv=>whnf);first|refine Zn ?_|fail))
  refine ⟨⟨(0:Nat),⟨Nat.zero_le _,fun j h2=>by omega⟩,by (repeat'(first|exact trivial|rfl|refine And.intro ?_ ?_|fail))⟩,fun (i:Nat) hi=>?_⟩
  obtain ⟨hi1,hi3⟩:=hi
  by_cases hlt:i<s.length
  ·by_cases c1:aK s i<48
   ·have hn:¬okD s:=aJ5 hlt (.inl c1)
    (repeat'((conv=>whnf);first|refine Zg fun _=>?_|refine Zn ?_|refine Zj ?_|refine Zy ?_|fail))
    (conv=>whnf)
    skip
    exact hn
   ·by_cases c2:aK s i>57
    ·have hn:¬okD s:=aJ5 hlt (.inr c2)
     (repeat'((conv=>whnf);first|refine Zg fun _=>?_|refine Zn ?_|refine Zj ?_|refine Zy ?_|refine Zm ?_|fail))
     (conv=>whnf)
     skip
     exact hn
    ·(repeat'((conv=>whnf);first|refine Zg fun _=>?_|refine Zn ?_|refine Zj ?_|refine Zy ?_|refine Zm ?_|fail))
     refine ⟨(i+1:Nat),by show s.length-(i+1)<s.length-i;omega,⟨by omega,fun j h4=>?_⟩,?_⟩
     ·by_cases e:j=i
      ·rw[e];omega
      ·exact hi3 j (by omega)
     ·(repeat'(first|exact trivial|rfl|refine And.intro ?_ ?_|fail))
  ·have e:i=s.length:=by omega
   have hy:okD s:=by
    rw[gM]
    refine ⟨fun e=>h0 (by rw[e];rfl),fun c hc=>?_,h3⟩
    obtain ⟨j,hj,e2⟩:=List.mem_iff_getElem.1 hc
    have:=hi3 j (by omega)
    rw[eZ hj,e2] at this
    unfold aT;omega
   (repeat'((conv=>whnf);first|refine Zg fun _=>?_|refine Zm ?_|fail))
   (conv=>whnf)
   (repeat'(first|refine And.intro ?_ ?_|fail))
   all_goals first | exact hy.1 | exact hy.2)
def c83:Con:=aJ 146 true fun args K=>match args with | [.str s]=>K (.bl (okD s) inferInstance) | _=>False
theorem k83:aF Tryz.prog c83:=by
 refine aC rfl (enters_of Tryz.func146 (by kernel_rfl) rfl) ?_
 intro args K h
 simp only[c83] at h
 split at h
 ·rename_i s;exact ⟨_,h,aA (Γ:=[]) (by simp) Tryz.func146 (by simp[Tryz.ntmps146]) rfl (b83 s)⟩
 ·exact h.elim
theorem aA4 (c:UInt8) (r:List UInt8) (j:Nat):aK (c::r) (j+1)=aK r j:=by
 unfold aK;rfl
theorem sX:∀(D:List UInt8) (i:Nat),i≤D.length→(∀j,j<i→¬aK D j=47)→(i=D.length∨(i<D.length∧aK D i=47))→topS D=D.take i∧botS D=D.drop i
 | [],i,h1,_,_=>by
  have:i=0:=by simpa using h1
  subst this
  exact ⟨rfl,rfl⟩
 | c::r,0,_,_,h=>by
  rcases h with h | ⟨_,h⟩
  ·simp at h
  ·have hc:=(bP (s:=c::r) (by simp) 47).1 h
   have hc:c=47:=hc
   subst hc
   constructor<;>simp[topS,botS]
 | c::r,i+1,h1,h2,h3=>by
  have hc:¬c=47:=fun e=>h2 0 (by omega) ((bP (s:=c::r) (by simp) 47).2 e)
  obtain ⟨q1,q2⟩:=sX r i (by simpa using h1) (fun j hj=>by rw[← aA4 c];exact h2 (j+1) (by omega)) (by
   rcases h3 with h3 | ⟨h3,h4⟩
   ·exact .inl (by simpa using h3)
   ·exact .inr ⟨by simpa using h3,by rw[← aA4 c];exact h4⟩)
  unfold topS at q1 ⊢
  unfold botS at q2 ⊢
  rw[List.takeWhile_cons,List.dropWhile_cons]
  have hb:(c != 47)=true:=by simpa using hc
  rw[hb]
  simp only[if_true]
  exact ⟨by rw[q1];rfl,by rw[q2];rfl⟩
theorem oW (c:UInt8) (r:List UInt8):digs (c::r)=if c=45 then r else c::r:=rfl
theorem aN6 (s:List UInt8):topS (digs s)=digs (topS s)∧botS (digs s)=botS s:=by
 cases s with
 | nil=>exact ⟨rfl,rfl⟩
 | cons c r=>
  by_cases h:c=45
  ·subst h
   have e1:digs (45::r)=r:=by rw[oW,if_pos rfl]
   have e2:topS (45::r)=45::topS r:=by unfold topS;rw[List.takeWhile_cons];rfl
   have e3:botS (45::r)=botS r:=by unfold botS;rw[List.dropWhile_cons];rfl
   rw[e1,e2,e3]
   exact ⟨(by rw[oW,if_pos rfl]),rfl⟩
  ·have e1:digs (c::r)=c::r:=by rw[oW,if_neg h]
   rw[e1]
   refine ⟨?_,rfl⟩
   unfold topS
   rw[List.takeWhile_cons]
   split
   ·rw[oW,if_neg h]
   ·rfl
set_option maxHeartbeats 1600000 in
theorem b73 (s:List UInt8):body Tryz.prog [] { asks:=[(0,[])] } true Tryz.f145 [S s] (.tup [.bl (s.headD 0=45) inferInstance,S (digs (topS s)),S (botS s).tail,.bl (¬botS s= []) inferInstance]):=by
 obtain ⟨hT,hB⟩:=aN6 s
 rw[← hT,← hB]
 by_cases hm:0<s.length∧aK s 0=45
 ·obtain ⟨h0,hb⟩:=hm
  have hD:=yF h0 hb
  have hh:s.headD 0=45:=(bP h0 45).1 hb
  have hi:aK s 0=45↔s.headD 0=45:=⟨fun _=>hh,fun _=>hb⟩
  rw[hD]
  have hs:(s.drop 1).length≤s.length:=by have:=kB s;rw[hD] at this;omega
  (repeat'((conv=>whnf);first|refine Zg fun _=>?_|refine Zn ?_|refine Z0 ?_|refine Z1 ?_|refine Zy ?_|fail))
  refine Ask.mk ⟨{ X:=Nat,pre:=fun i=>i≤(s.drop 1).length∧∀j,j<i→¬aK (s.drop 1) j=47,mod:=fun i _=>[(8,I i)],heap:=fun _ _=>[],mu:=fun i=>(s.drop 1).length-i },rfl,?_⟩
  (repeat'((conv=>whnf);first|refine Zn ?_|fail))
  refine ⟨⟨(0:Nat),⟨Nat.zero_le _,fun j h2=>by omega⟩,by (repeat'(first|exact trivial|rfl|refine And.intro ?_ ?_|fail))⟩,fun (i:Nat) hi'=>?_⟩
  obtain ⟨hi1,hi3⟩:=hi'
  by_cases hlt:i<(s.drop 1).length
  ·by_cases c1:aK (s.drop 1) i=47
   ·obtain ⟨w1,w2⟩:=sX (s.drop 1) i hi1 hi3 (.inr ⟨hlt,c1⟩)
    have w3:(s.drop 1).drop (i+1)=((s.drop 1).drop i).tail:=List.tail_drop.symm
    have w4:¬(s.drop 1).drop i= []:=fun h=>by
     have h9:((s.drop 1).drop i).length=0:=by rw[h];rfl
     rw[List.length_drop] at h9
     omega
    rw[w1,w2]
    (repeat'((conv=>whnf);first|refine Zg fun _=>?_|refine Zn ?_|refine Zj ?_|(apply Pin.mk;apply Exists.intro)|apply Pinned.mk rfl rfl|refine Zy ?_|fail))
    (conv=>whnf)
    (repeat'(first|exact trivial|rfl|refine And.intro ?_ ?_|fail))
    all_goals first | exact hi | exact hh | exact w3 | exact w4
   ·(repeat'((conv=>whnf);first|refine Zg fun _=>?_|refine Zn ?_|refine Zj ?_|refine Zy ?_|refine Zm ?_|fail))
    refine ⟨(i+1:Nat),by show (s.drop 1).length-(i+1)<(s.drop 1).length-i;omega,⟨by omega,fun j h4=>?_⟩,?_⟩
    ·by_cases e:j=i
     ·rw[e];exact c1
     ·exact hi3 j (by omega)
    ·(repeat'(first|exact trivial|rfl|refine And.intro ?_ ?_|fail))
  ·have e:i=(s.drop 1).length:=by omega
   subst e
   obtain ⟨w1,w2⟩:=sX (s.drop 1) _ hi1 hi3 (.inl rfl)
   rw[List.take_length] at w1
   rw[List.drop_length] at w2
   rw[w1,w2]
   (repeat'((conv=>whnf);first|refine Zg fun _=>?_|refine Zm ?_|fail))
   (conv=>whnf)
   (repeat'(first|exact trivial|rfl|refine And.intro ?_ ?_|fail))
   all_goals first | exact hi | exact hh | exact fun h=>h rfl
 ·have hD:digs s=s:=sW fun h e=>hm ⟨h,e⟩
  have hh:¬s.headD 0=45:=fun e=>by
   have h0:0<s.length:=Nat.pos_of_ne_zero fun h=>by rw[List.length_eq_zero_iff.1 h] at e;simp at e
   exact hm ⟨h0,(bP h0 45).2 e⟩
  have hm2:¬(0<(s.length:Int))∨(0<(s.length:Int)∧¬aK s 0=45):=by
   by_cases h:0<s.length
   ·exact .inr ⟨by omega,fun e=>hm ⟨h,e⟩⟩
   ·exact .inl (by omega)
  rw[hD]
  have hi:aK s 0=45↔s.headD 0=45:=by
   constructor
   ·intro e
    by_cases h:0<s.length
    ·exact absurd ⟨h,e⟩ hm
    ·rw[List.length_eq_zero_iff.1 (show s.length=0 by omega)] at e
     exact absurd e (by decide)
   ·exact fun e=>absurd e hh
  rcases hm2 with hm2 | ⟨hm2,hm3⟩
  ·skip
   have hs:(s).length≤s.length:=by have:=kB s;rw[hD] at this;omega
   (repeat'((conv=>whnf);first|refine Zg fun _=>?_|refine Zm ?_|fail))
   refine Ask.mk ⟨{ X:=Nat,pre:=fun i=>i≤(s).length∧∀j,j<i→¬aK (s) j=47,mod:=fun i _=>[(8,I i)],heap:=fun _ _=>[],mu:=fun i=>(s).length-i },rfl,?_⟩
   (repeat'((conv=>whnf);first|refine Zn ?_|fail))
   refine ⟨⟨(0:Nat),⟨Nat.zero_le _,fun j h2=>by omega⟩,by (repeat'(first|exact trivial|rfl|refine And.intro ?_ ?_|fail))⟩,fun (i:Nat) hi'=>?_⟩
   obtain ⟨hi1,hi3⟩:=hi'
   by_cases hlt:i<(s).length
   ·exfalso;omega
   ·have e:i=(s).length:=by omega
    subst e
    obtain ⟨w1,w2⟩:=sX (s) _ hi1 hi3 (.inl rfl)
    rw[List.take_length] at w1
    rw[List.drop_length] at w2
    rw[w1,w2]
    (repeat'((conv=>whnf);first|refine Zg fun _=>?_|refine Zm ?_|fail))
    (conv=>whnf)
    (repeat'(first|exact trivial|rfl|refine And.intro ?_ ?_|fail))
    all_goals first | exact hi | exact hh | exact fun h=>h rfl
  ·skip
   have hs:(s).length≤s.length:=by have:=kB s;rw[hD] at this;omega
   (repeat'((conv=>whnf);first|refine Zg fun _=>?_|refine Zn ?_|refine Z0 ?_|refine Zy ?_|refine Zm ?_|fail))
   refine Ask.mk ⟨{ X:=Nat,pre:=fun i=>i≤(s).length∧∀j,j<i→¬aK (s) j=47,mod:=fun i _=>[(8,I i)],heap:=fun _ _=>[],mu:=fun i=>(s).length-i },rfl,?_⟩
   (repeat'((conv=>whnf);first|refine Zn ?_|fail))
   refine ⟨⟨(0:Nat),⟨Nat.zero_le _,fun j h2=>by omega⟩,by (repeat'(first|exact trivial|rfl|refine And.intro ?_ ?_|fail))⟩,fun (i:Nat) hi'=>?_⟩
   obtain ⟨hi1,hi3⟩:=hi'
   by_cases hlt:i<(s).length
   ·by_cases c1:aK (s) i=47
    ·obtain ⟨w1,w2⟩:=sX (s) i hi1 hi3 (.inr ⟨hlt,c1⟩)
     have w3:(s).drop (i+1)=((s).drop i).tail:=List.tail_drop.symm
     have w4:¬(s).drop i= []:=fun h=>by
      have h9:((s).drop i).length=0:=by rw[h];rfl
      rw[List.length_drop] at h9
      omega
     rw[w1,w2]
     (repeat'((conv=>whnf);first|refine Zg fun _=>?_|refine Zn ?_|refine Zj ?_|(apply Pin.mk;apply Exists.intro)|apply Pinned.mk rfl rfl|refine Zy ?_|fail))
     (conv=>whnf)
     (repeat'(first|exact trivial|rfl|refine And.intro ?_ ?_|fail))
     all_goals first | exact hi | exact hh | exact w3 | exact w4
    ·(repeat'((conv=>whnf);first|refine Zg fun _=>?_|refine Zn ?_|refine Zj ?_|refine Zy ?_|refine Zm ?_|fail))
     refine ⟨(i+1:Nat),by show (s).length-(i+1)<(s).length-i;omega,⟨by omega,fun j h4=>?_⟩,?_⟩
     ·by_cases e:j=i
      ·rw[e];exact c1
      ·exact hi3 j (by omega)
     ·(repeat'(first|exact trivial|rfl|refine And.intro ?_ ?_|fail))
   ·have e:i=(s).length:=by omega
    subst e
    obtain ⟨w1,w2⟩:=sX (s) _ hi1 hi3 (.inl rfl)
    rw[List.take_length] at w1
    rw[List.drop_length] at w2
    rw[w1,w2]
    (repeat'((conv=>whnf);first|refine Zg fun _=>?_|refine Zm ?_|fail))
    (conv=>whnf)
    (repeat'(first|exact trivial|rfl|refine And.intro ?_ ?_|fail))
    all_goals first | exact hi | exact hh | exact fun h=>h rfl
def c73:Con:=aJ 145 true fun args K=>match args with | [.str s]=>K (.tup [.bl (s.headD 0=45) inferInstance,S (digs (topS s)),S (botS s).tail,.bl (¬botS s= []) inferInstance]) | _=>False
theorem k73:aF Tryz.prog c73:=by
 refine aC rfl (enters_of Tryz.func145 (by kernel_rfl) rfl) ?_
 intro args K h
 simp only[c73] at h
 split at h
 ·rename_i s;exact ⟨_,h,aA (Γ:=[]) (by simp) Tryz.func145 (by simp[Tryz.ntmps145]) rfl (b73 s)⟩
 ·exact h.elim
def c116:Con:=aJ 197 true fun args K=>match args with
 | [.agg [.bl p hp,.seq (.int .i64) a]]=>Need (dP a∧a.length≤200) (K (S (itoa (@sgP p hp (valB B6 a)))))
 | [.agg [.val (.bool false),.seq (.int .i64) a]]=>Need (dP a∧a.length≤200) (K (S (itoa (valB B6 a))))
 | _=>False
theorem pow6 (k:Nat):(B6:Nat)^k=10^ (6*k):=by
 rw[show B6=10^6 by decide,← Nat.pow_mul]
theorem aC1 {k:Nat} (h:k≤300):10^k≤B6^50:=by
 rw[pow6]
 obtain ⟨m,hm⟩:∃m,6*50=m:=⟨_,rfl⟩
 rw[hm]
 exact Nat.pow_le_pow_right (by omega) (by omega)
theorem fY {s:List UInt8} (h:form s) (hl:(digs s).length≤300):aD (digs s)<B6^50:=
 Nat.lt_of_lt_of_le (cD (digs s) h.2.2) (aC1 hl)
theorem gG {s:List UInt8} (h:form s) (hl:s.length≤17): -1000000000000000000<valI s∧valI s<1000000000000000000:=dO h (by omega)
theorem aN7 {n k:Nat} (hk:k+1≤300) (h:n<10^ (k+1)):resI (n:Int)=(itoa n,0):=by
 unfold resI lim
 rw[if_neg]
 have:=gK k n h
 simp;omega
theorem aFt {n:Nat} (h:n<B6^50):resI (n:Int)=(itoa n,0):=by
 rw[pow6] at h
 obtain ⟨k,hk⟩:∃k,6*50=k+1:=⟨299,rfl⟩
 rw[hk] at h
 exact aN7 (by omega) h
set_option maxHeartbeats 4000000 in
theorem b86 (a b:List UInt8):body Tryz.prog [c110,c111,c61,c112,c113,c116] { asks:=[(0,[]),(2,[])] } true Tryz.f149 [S a,S b] (.tup [S (bB a b (resI (Int.gcd (valI a) (valI b)))).1,I (bB a b (resI (Int.gcd (valI a) (valI b)))).2]):=by
 unfold bB
 skip
 (refine Br.mk (fun _=>?_) (fun _=>?_))
 ·rename_i h
  rw[if_pos h]
  skip
  (conv=>whnf)
  (repeat'(first|exact trivial|rfl|refine And.intro ?_ ?_|fail))
 ·rename_i h
  rw[if_neg h]
  obtain ⟨ha,hb⟩:=fG h
  obtain ⟨fa,la⟩:=bE ha
  obtain ⟨fb,lb⟩:=bE hb
  have pM:=fY fa la
  have pN:=fY fb lb
  have hgv:Int.gcd (valI a) (valI b)=Nat.gcd (aD (digs a)) (aD (digs b)):=by
   unfold Int.gcd
   rw[cU,cU,mL,mL]
  skip
  refine Need.mk ⟨fa,fb⟩ ?_
  skip
  (refine Br.mk (fun _=>?_) (fun _=>?_))
  ·rename_i hs
   have h1:=gG fa hs.1
   have h2:=gG fb hs.2
   skip
   refine Ask.mk ⟨{ X:=Int × Int,pre:=fun z=>Int.gcd z.1 z.2=Int.gcd (valI a) (valI b)∧z.1.natAbs≤1000000000000000000∧z.2.natAbs≤1000000000000000000,mod:=fun z _=>[(7,I z.1),(8,I z.2)],heap:=fun _ _=>[],mu:=fun z=>z.2.natAbs },rfl,?_⟩
   (repeat'((conv=>whnf);first|refine Zn ?_|fail))
   refine ⟨⟨(valI a,valI b),⟨rfl,by show (valI a).natAbs≤ _;omega,by show (valI b).natAbs≤ _;omega⟩,by (repeat'(first|exact trivial|rfl|refine And.intro ?_ ?_|fail))⟩,fun (z:Int × Int) hz=>?_⟩
   obtain ⟨z1,z2,z3⟩:=hz
   skip
   (refine Br.mk (fun _=>?_) (fun _=>?_))
   ·rename_i hy
    have hm:(z.1.tmod z.2).natAbs<z.2.natAbs:=by rw[Int.natAbs_tmod];exact Nat.mod_lt _ (by omega)
    (repeat'((conv=>whnf);first|refine Zb ?_|(apply Pin.mk;apply Exists.intro)|apply Pinned.mk rfl rfl|fail))
    (conv=>whnf)
    refine ⟨(z.2,z.1.tmod z.2),hm,⟨by rw[← z1];exact rM _ _,z3,by show (z.1.tmod z.2).natAbs≤ _;omega⟩,?_⟩
    (repeat'(first|exact trivial|rfl|refine And.intro ?_ ?_|fail))
   ·rename_i hy
    have hy:z.2=0:=by omega
    have hg:((Int.gcd (valI a) (valI b):Nat):Int)=max z.1 (-z.1):=by
     rw[← z1,hy,Int.gcd_zero_right]
     omega
    rw[hg,dZ (by omega)]
    (repeat'((conv=>whnf);first|refine Zn ?_|fail))
    (conv=>whnf)
    (repeat'(first|exact trivial|rfl|refine And.intro ?_ ?_|fail))
  ·rename_i hs
   rw[hgv]
   (refine Br.mk (fun _=>?_) (fun _=>?_))
   all_goals (
    skip
    refine Need.mk ⟨fa,by omega⟩ ?_
    skip
    refine Need.mk ⟨fb,by omega⟩ ?_
    skip
    refine Ask.mk ⟨{ X:=Nat × Nat,pre:=fun z=>Nat.gcd z.1 z.2=Nat.gcd (aD (digs a)) (aD (digs b))∧z.1<B6^50∧z.2<B6^50,mod:=fun z _=>[(10,Ls (aB B6 z.1)),(11,Ls (aB B6 z.2))],heap:=fun _ _=>[],mu:=fun z=>z.2 },rfl,?_⟩
    (repeat'((conv=>whnf);first|refine Zn ?_|fail))
    refine ⟨⟨(aD (digs a),aD (digs b)),⟨rfl,pM,pN⟩,by (repeat'(first|exact trivial|rfl|refine And.intro ?_ ?_|fail))⟩,fun (z:Nat × Nat) hz=>?_⟩
    obtain ⟨z1,z2,z3⟩:=hz
    have l1:=eK z2
    have hpw:B6^50≤B6^100:=Nat.pow_le_pow_right (by decide) (by omega)
    (repeat'((conv=>whnf);first|refine Zg fun _=>?_|fail))
    (refine Br.mk (fun _=>?_) (fun _=>?_))
    ·rename_i hy
     have hy:0<z.2:=Nat.pos_of_ne_zero fun e=>by rw[e,aV] at hy;exact absurd hy (by decide)
     skip
     refine Need.mk ⟨aQ (by decide) _,dK _,⟨by rw[v6,Int.toNat_natCast];exact hy,by rw[v6,Int.toNat_natCast];exact Nat.lt_of_lt_of_le z3 hpw⟩,by omega⟩ ?_
     rw[v6,v6,← Int.natCast_ediv,← Int.natCast_emod,Int.toNat_natCast,Int.toNat_natCast]
     skip
     refine ⟨(z.2,z.1%z.2),Nat.mod_lt _ hy,⟨by rw[← z1];show Nat.gcd z.2 (z.1%z.2)= _;rw[Nat.gcd_comm z.1 z.2,Nat.gcd_rec z.2 z.1];exact Nat.gcd_comm _ _,z3,Nat.lt_trans (Nat.mod_lt _ hy) z3⟩,?_⟩
     (repeat'(first|exact trivial|rfl|refine And.intro ?_ ?_|fail))
    ·rename_i hy
     have hy:z.2=0:=(iC (B:=B6) (by decide)).1 (List.eq_nil_of_length_eq_zero (by omega))
     rw[hy,Nat.gcd_zero_right] at z1
     rw[← z1,aFt z2]
     skip
     refine Need.mk ⟨dK _,by omega⟩ ?_
     rw[v6]
     skip
     (conv=>whnf)
     (repeat'(first|exact trivial|rfl|refine And.intro ?_ ?_|fail)))
noncomputable def c86:Con:=aJ 149 true fun args K=>match args with
 | [.str a,.str b]=>K (.tup [S (bB a b (resI (Int.gcd (valI a) (valI b)))).1,I (bB a b (resI (Int.gcd (valI a) (valI b)))).2])
 | _=>False
theorem aN8 (s:List UInt8):(topS s).headD 0=45↔s.headD 0=45:=by
 cases s with
 | nil=>exact Iff.rfl
 | cons c r=>
  unfold topS
  rw[List.takeWhile_cons]
  by_cases h:c=47
  ·subst h
   constructor
   ·intro e;simp at e
   ·intro e;simp at e
  ·have hb:(c != 47)=true:=by simpa using h
   rw[hb];exact Iff.rfl
theorem aA5 (s:List UInt8):jA s↔okD (digs (topS s))∧¬(s.headD 0=45∧digs (topS s)= [48])∧(botS s= []∨(okD (botS s).tail∧¬(botS s).tail= [48]∧¬(botS s).tail= [49])):=by
 unfold jA
 rw[aFd,aN8,and_assoc]
 refine and_congr_right fun _=>and_congr_right fun _=>?_
 by_cases h:botS s= []
 ·exact ⟨fun _=>.inl h,fun _=>.inl h⟩
 ·have e:denS s=aD (botS s).tail:=by unfold denS;rw[if_neg h]
  rw[e,aI5]
theorem aP1 {s:List UInt8} (h:¬(okD (digs (topS s))∧¬(s.headD 0=45∧digs (topS s)= [48])∧(botS s= []∨(okD (botS s).tail∧¬(botS s).tail= [48]∧¬(botS s).tail= [49])))):chkQ s=11:=by
 unfold chkQ;rw[if_neg fun e=>h ((aA5 s).1 e)]
theorem aHi (s:List UInt8):(valI (topS s)).natAbs=aD (digs (topS s)):=by rw[cU,mL]
theorem aJ6 {t:List UInt8} (h:okD t) (hl:t.length≤300):chkI t=0∧valI t=aD t:=by
 rw[gM] at h
 obtain ⟨h1,h2,h3⟩:=h
 have hh:¬t.headD 0=45:=fun e=>by
  cases t with
  | nil=>exact h1 rfl
  | cons c r=>
   have hc:c=45:=e
   have:=h2 c (by simp)
   subst hc
   exact absurd this (by decide)
 have hd:digs t=t:=by unfold digs;rw[if_neg hh]
 have hf:form t:=by
  refine ⟨by rw[hd];exact h1,?_,by rw[hd];exact h2⟩
  rw[hd]
  by_cases h48:t.headD 0=48
  ·rcases h3 with h3 | h3
   ·exact .inr (aI4 h3 h48)
   ·exact absurd h48 h3
  ·exact .inl h48
 refine ⟨by rw[gO hf,hd,if_neg (by omega)],by unfold valI;rw[if_neg hh]⟩
theorem aP2 {x y:List UInt8} (hx:okD x) (hy:okD y) (lx:x.length≤300) (ly:y.length≤300):(bB x y (resI (Int.gcd (valI x) (valI y)))).1= [49]↔(aD x).gcd (aD y)=1:=by
 obtain ⟨c1,v1⟩:=aJ6 hx lx
 obtain ⟨c2,v2⟩:=aJ6 hy ly
 have hg:Int.gcd (valI x) (valI y)=(aD x).gcd (aD y):=by rw[v1,v2];rfl
 have hpos:(aD x).gcd (aD y)<B6^50:=by
  have b1:=Nat.lt_of_lt_of_le (cD x ((gM x).1 hx).2.1) (aC1 lx)
  have b2:=Nat.lt_of_lt_of_le (cD y ((gM y).1 hy).2.1) (aC1 ly)
  rcases Nat.eq_zero_or_pos (aD x) with h | h
  ·rw[h,Nat.gcd_zero_left];exact b2
  ·exact Nat.lt_of_le_of_lt (Nat.gcd_le_left _ h) b1
 unfold bB chk2
 rw[if_neg (by rw[c1];simp[c2]),hg,aFt hpos]
 dsimp only
 rw[show ([49]:List UInt8)=itoa ((1:Nat):Int) from by decide+kernel]
 constructor
 ·intro e;have:=gL e;omega
 ·intro e;rw[e]
theorem aN9 {s:List UInt8} (h:okD (digs (topS s))∧¬(s.headD 0=45∧digs (topS s)= [48])∧(botS s= []∨(okD (botS s).tail∧¬(botS s).tail= [48]∧¬(botS s).tail= [49]))):
  chkQ s=if 300<(digs (topS s)).length∨300<(botS s).tail.length then 4 else if (aD (digs (topS s))).gcd (denS s)=1 then 0 else 11:=by
 unfold chkQ
 rw[if_pos ((aA5 s).2 h),aHi]
theorem b44n (s:List UInt8) (h:¬(okD (digs (topS s))∧¬(s.headD 0=45∧digs (topS s)= [48])∧(botS s= []∨(okD (botS s).tail∧¬(botS s).tail= [48]∧¬(botS s).tail= [49])))):body Tryz.prog [c73,c83,c85,c84,c86] {} true Tryz.f81 [S s] (I (chkQ s)):=by
 rw[aP1 h]
 by_cases h1:okD (digs (topS s))
 ·by_cases h3:botS s= []
  ·have h4:¬ ¬botS s= []:=fun h=>h h3
   have h5:s.headD 0=45∧digs (topS s)= [48]:=Classical.byContradiction fun e=>h ⟨h1,e,.inl h3⟩
   obtain ⟨h5,h6⟩:=h5
   (repeat'((conv=>whnf);first|refine Zy ?_|refine Zm ?_|fail))
   (conv=>whnf)
   (repeat'(first|rfl|refine And.intro ?_ ?_|fail))
  ·by_cases h5:okD (botS s).tail
   ·by_cases h6:(botS s).tail= [48]
    ·(repeat'((conv=>whnf);first|refine Zy ?_|refine Zm ?_|fail))
     (conv=>whnf)
     (repeat'(first|rfl|refine And.intro ?_ ?_|fail))
    ·by_cases h7:(botS s).tail= [49]
     ·(repeat'((conv=>whnf);first|refine Zy ?_|refine Zm ?_|fail))
      (conv=>whnf)
      (repeat'(first|rfl|refine And.intro ?_ ?_|fail))
     ·have h8:s.headD 0=45∧digs (topS s)= [48]:=Classical.byContradiction fun e=>h ⟨h1,e,.inr ⟨h5,h6,h7⟩⟩
      obtain ⟨h8,h9⟩:=h8
      (repeat'((conv=>whnf);first|refine Zy ?_|refine Zm ?_|fail))
      (conv=>whnf)
      (repeat'(first|rfl|refine And.intro ?_ ?_|fail))
   ·(repeat'((conv=>whnf);first|refine Zy ?_|refine Zm ?_|fail))
    (conv=>whnf)
    (repeat'(first|rfl|refine And.intro ?_ ?_|fail))
 ·(repeat'((conv=>whnf);first|refine Zy ?_|fail))
  (conv=>whnf)
  (repeat'(first|rfl|refine And.intro ?_ ?_|fail))
set_option maxHeartbeats 4000000 in
theorem b44y (s:List UInt8) (h:okD (digs (topS s))∧¬(s.headD 0=45∧digs (topS s)= [48])∧(botS s= []∨(okD (botS s).tail∧¬(botS s).tail= [48]∧¬(botS s).tail= [49]))):body Tryz.prog [c73,c83,c85,c84,c86] {} true Tryz.f81 [S s] (I (chkQ s)):=by
 rw[aN9 h]
 obtain ⟨h1,h2,h3⟩:=h
 have d1:=((gM _).1 h1).2.1
 have h2:¬s.headD 0=45∨(s.headD 0=45∧¬digs (topS s)= [48]):=by
  by_cases e:s.headD 0=45
  ·exact .inr ⟨e,fun e2=>h2 ⟨e,e2⟩⟩
  ·exact .inl e
 by_cases hb:botS s= []
 ·have hb':¬ ¬botS s= []:=fun h=>h hb
  have hl:(botS s).tail.length=0:=by rw[hb];rfl
  have hd:denS s=1:=by unfold denS;rw[if_pos hb]
  rw[hd]
  have hg1:=Nat.gcd_one_right (aD (digs (topS s)))
  by_cases h300:300<(digs (topS s)).length
  ·rw[if_pos (.inl h300)]
   rcases h2 with h2 | ⟨h2,h4⟩
   all_goals (
    (repeat'((conv=>whnf);first|refine Zg fun _=>?_|refine Zy ?_|refine Zm ?_|fail))
    (conv=>whnf)
    (repeat'(first|rfl|refine And.intro ?_ ?_|fail)))
  ·rw[if_neg (by omega),if_pos hg1]
   rcases h2 with h2 | ⟨h2,h4⟩
   all_goals (
    (repeat'((conv=>whnf);first|refine Zg fun _=>?_|refine Zy ?_|refine Zm ?_|fail))
    (conv=>whnf)
    (repeat'(first|rfl|refine And.intro ?_ ?_|fail)))
 ·have hd:denS s=aD (botS s).tail:=by unfold denS;rw[if_neg hb]
  rw[hd]
  obtain ⟨h5,h6,h7⟩:=h3.resolve_left hb
  have d2:=((gM _).1 h5).2.1
  by_cases h300:300<(digs (topS s)).length
  ·rw[if_pos (.inl h300)]
   rcases h2 with h2 | ⟨h2,h4⟩
   all_goals (
    (repeat'((conv=>whnf);first|refine Zg fun _=>?_|refine Zy ?_|refine Zm ?_|fail))
    (conv=>whnf)
    (repeat'(first|rfl|refine And.intro ?_ ?_|fail)))
  ·by_cases h301:300<(botS s).tail.length
   ·rw[if_pos (.inr h301)]
    rcases h2 with h2 | ⟨h2,h4⟩
    all_goals (
     (repeat'((conv=>whnf);first|refine Zg fun _=>?_|refine Zy ?_|refine Zm ?_|fail))
     (conv=>whnf)
     (repeat'(first|rfl|refine And.intro ?_ ?_|fail)))
   ·rw[if_neg (by omega)]
    by_cases h9:(digs (topS s)).length≤9∧(botS s).tail.length≤9
    ·obtain ⟨h9,h10⟩:=h9
     have n9:(10:Nat)^9=1000000000:=by decide
     have b1:=cD _ d1
     have b2:=cD _ d2
     have b1':(10:Nat)^ (digs (topS s)).length≤10^9:=Nat.pow_le_pow_right (by omega) h9
     have b2':(10:Nat)^ (botS s).tail.length≤10^9:=Nat.pow_le_pow_right (by omega) h10
     have hgi:Int.gcd (aD (digs (topS s)):Int) (aD (botS s).tail:Int)=(aD (digs (topS s))).gcd (aD (botS s).tail):=rfl
     by_cases hg:(aD (digs (topS s))).gcd (aD (botS s).tail)=1
     ·rw[if_pos hg]
      rcases h2 with h2 | ⟨h2,h4⟩
      all_goals (
       (repeat'((conv=>whnf);first|refine Zg fun _=>?_|refine Zy ?_|refine Zm ?_|fail))
       refine Need.mk ⟨d1,by omega⟩ ?_
       skip
       refine Need.mk ⟨d2,by omega⟩ ?_
       (repeat'((conv=>whnf);first|refine Zn ?_|refine Zm ?_|fail))
       (conv=>whnf)
       (repeat'(first|rfl|refine And.intro ?_ ?_|fail)))
     ·rw[if_neg hg]
      rcases h2 with h2 | ⟨h2,h4⟩
      all_goals (
       (repeat'((conv=>whnf);first|refine Zg fun _=>?_|refine Zy ?_|refine Zm ?_|fail))
       refine Need.mk ⟨d1,by omega⟩ ?_
       skip
       refine Need.mk ⟨d2,by omega⟩ ?_
       (repeat'((conv=>whnf);first|refine Zn ?_|refine Zy ?_|fail))
       (conv=>whnf)
       (repeat'(first|rfl|refine And.intro ?_ ?_|fail)))
    ·have hgs:=aP2 h1 h5 (by omega) (by omega)
     have h9:¬((digs (topS s)).length:Int)≤9∨(((digs (topS s)).length:Int)≤9∧¬((botS s).tail.length:Int)≤9):=by omega
     by_cases hg:(aD (digs (topS s))).gcd (aD (botS s).tail)=1
     ·rw[if_pos hg]
      have hg2:=hgs.2 hg
      rcases h2 with h2 | ⟨h2,h4⟩
      all_goals (
       rcases h9 with h9 | ⟨h9,h10⟩
       all_goals (
        (repeat'((conv=>whnf);first|refine Zg fun _=>?_|refine Zy ?_|refine Zm ?_|fail))
        (conv=>whnf)
        (repeat'(first|rfl|refine And.intro ?_ ?_|fail))))
     ·rw[if_neg hg]
      have hg2:¬ _= _:=fun e=>hg (hgs.1 e)
      rcases h2 with h2 | ⟨h2,h4⟩
      all_goals (
       rcases h9 with h9 | ⟨h9,h10⟩
       all_goals (
        (repeat'((conv=>whnf);first|refine Zg fun _=>?_|refine Zy ?_|refine Zm ?_|fail))
        (conv=>whnf)
        (repeat'(first|rfl|refine And.intro ?_ ?_|fail))))
theorem b44 (s:List UInt8):body Tryz.prog [c73,c83,c85,c84,c86] {} true Tryz.f81 [S s] (I (chkQ s)):=by
 by_cases h:okD (digs (topS s))∧¬(s.headD 0=45∧digs (topS s)= [48])∧(botS s= []∨(okD (botS s).tail∧¬(botS s).tail= [48]∧¬(botS s).tail= [49]))
 ·exact b44y s h
 ·exact b44n s h
theorem xZ (x:Int):∀l:List Int,wrG (l++ [x])=six x.toNat++wrG l
 | []=>by simp[wrG]
 | y::r=>by
  show wrG (r++ [x])++six y.toNat=six x.toNat++(wrG r++six y.toNat)
  rw[xZ x r,List.append_assoc]
abbrev U (l:List Int):HO:=.vec 1 (.int .u8) l 5
theorem i0:itoa (valB B6 [])= [48]:=by show itoa 0= [48];simp[itoa,decDigits]
def lowD (x:Nat):Nat→List Int
 | 0=>[]
 | j+1=>((48+x/10^j%10:Nat):Int)::lowD x j
theorem yA (x:Nat):∀j,(lowD x j).length=j
 | 0=>rfl
 | j+1=>by rw[lowD,List.length_cons,yA x j]
theorem aNx (x:Nat):lowD x 6=aP (six x):=by
 have d:∀n,(((UInt8.ofNat (48+n%10)).toNat:Nat):Int)=((48+n%10:Nat):Int):=fun n=>by rw[dS (by omega)]
 simp only[lowD,six,aP,List.map_cons,List.map_nil,d,Nat.reducePow,Nat.div_one]
def oT (l:List Int) (i j:Nat):List Int:=List.replicate (6*(l.length-i)-j) 0++(lowD (l.getD i 0).toNat j++aP (wrG (l.take i)))
theorem yB (s:List UInt8):(aP s).length=s.length:=by simp[aP]
theorem aRy {l:List Int} {i j:Nat} (hi:i≤l.length) (hj:j≤6*(l.length-i)):(oT l i j).length=6*l.length:=by
 simp only[oT,List.length_append,List.length_replicate,yA,yB,aCp,List.length_take]
 omega
theorem aPx (l:List Int):oT l 0 0=List.replicate (6*l.length) 0:=by
 simp[oT,lowD,wrG,aP]
theorem aRz (l:List Int):oT l l.length 0=aP (wrG l):=by
 simp[oT,lowD]
theorem aR0 {l:List Int} {i:Nat} (hi:i<l.length):oT l i 6=oT l (i+1) 0:=by
 have e1:6*(l.length-i)-6=6*(l.length-(i+1))-0:=by omega
 have e2:l.take (i+1)=l.take i++ [l.getD i 0]:=by
  rw[List.take_succ_eq_append_getElem hi]
  simp[List.getD_eq_getElem?_getD,hi]
 unfold oT
 rw[e1,e2,xZ,aNx]
 simp[lowD,aP]
theorem aFq (m:Nat) (v:Int) (r:List Int):(List.replicate (m+1) (0:Int)++r).set m v=List.replicate m 0++(v::r):=by
 rw[List.replicate_succ',List.append_assoc,List.set_append_right _ _ (by simp)]
 simp
theorem aR1 {l:List Int} {i j k:Nat} {v:Int} (hi:i<l.length) (hj:j<6) (hk:k=6*(l.length-i)-(j+1)) (hv:v=((48+(l.getD i 0).toNat/10^j%10:Nat):Int)):(oT l i j).set k v=oT l i (j+1):=by
 subst hk hv
 unfold oT
 obtain ⟨m,hm⟩:∃m,m=6*(l.length-i)-(j+1):=⟨_,rfl⟩
 rw[show 6*(l.length-i)-j=m+1 by omega,← hm,aFq]
 rfl
theorem eC (s:List UInt8):bH (aP s)=s:=by
 unfold bH aP
 rw[List.map_map]
 conv=>rhs;rw[← List.map_id s]
 refine List.map_congr_left fun b _=>?_
 simp
theorem dz {n m:Nat} (h:n<10*m) (e:n/m%10=0):n<m:=by
 have h1:n/m<10:=Nat.div_lt_of_lt_mul (by rw[Nat.mul_comm];exact h)
 rw[Nat.mod_eq_of_lt h1] at e
 have hm:0<m:=by
  rcases Nat.eq_zero_or_pos m with e0 | e0
  ·subst e0;omega
  ·exact e0
 rcases Nat.div_eq_zero_iff.1 e with h2 | h2
 ·omega
 ·exact h2
theorem dsum {n:Nat} (h0:0<n) (h:n<1000000):0<n/100000%10+n/10000%10+n/1000%10+n/100%10+n/10%10+n%10:=by
 refine Nat.pos_of_ne_zero fun e=>?_
 obtain ⟨e,e5⟩:=Nat.add_eq_zero_iff.1 e
 obtain ⟨e,e4⟩:=Nat.add_eq_zero_iff.1 e
 obtain ⟨e,e3⟩:=Nat.add_eq_zero_iff.1 e
 obtain ⟨e,e2⟩:=Nat.add_eq_zero_iff.1 e
 obtain ⟨e0,e1⟩:=Nat.add_eq_zero_iff.1 e
 have a0:=dz (m:=100000) h e0
 have a1:=dz (m:=10000) a0 e1
 have a2:=dz (m:=1000) a1 e2
 have a3:=dz (m:=100) a2 e3
 have a4:=dz (m:=10) a3 e4
 omega
theorem aNy {a:List Int} {d0 d1 d2 d3 d4 d5:Nat} {R:List UInt8} (hw:wrG a=UInt8.ofNat (48+d0)::UInt8.ofNat (48+d1)::UInt8.ofNat (48+d2)::UInt8.ofNat (48+d3)::UInt8.ofNat (48+d4)::UInt8.ofNat (48+d5)::R) (hd:d0≤9∧d1≤9∧d2≤9∧d3≤9∧d4≤9∧d5≤9):oT a a.length 0=(48+d0:Int)::(48+d1:Int)::(48+d2:Int)::(48+d3:Int)::(48+d4:Int)::(48+d5:Int)::aP R:=by
 have e:∀d:Nat,d≤9→(((UInt8.ofNat (48+d)).toNat:Nat):Int)=48+d:=fun d h=>by
  rw[UInt8.toNat_ofNat'];omega
 rw[aRz,hw]
 simp only[aP,List.map_cons,e d0 hd.1,e d1 hd.2.1,e d2 hd.2.2.1,e d3 hd.2.2.2.1,e d4 hd.2.2.2.2.1,e d5 hd.2.2.2.2.2]
theorem bO (d:Nat) (X:List Int):bH ((48+(d:Int))::X)=UInt8.ofNat (48+d)::bH X:=by
 show UInt8.ofNat (48+(d:Int)).toNat::bH X= _
 rw[show (48+(d:Int)).toNat=48+d by omega]
theorem sS {p:Prop} {hp:Decidable p} {a:List Int} {d:Nat} {X:List Int} {Y:List UInt8} (h:¬p) (hv:0<valB B6 a) (hY:bH X=Y) (hf:UInt8.ofNat (48+d)::Y=decDigits (valB B6 a).toNat):bH ((48+(d:Int))::X)=itoa (sgP p (valB B6 a)):=by
 rw[bO,hY,hf]
 unfold sgP itoa
 rw[if_neg h,if_neg (by omega)]
theorem sT {p:Prop} {hp:Decidable p} {a:List Int} {d:Nat} {X:List Int} {Y:List UInt8} (h:p) (hv:0<valB B6 a) (hY:bH X=Y) (hf:UInt8.ofNat (48+d)::Y=decDigits (valB B6 a).toNat):(45:UInt8)::bH ((48+(d:Int))::X)=itoa (sgP p (valB B6 a)):=by
 rw[bO,hY,hf]
 unfold sgP itoa
 rw[if_pos h,if_pos (by omega),Int.natAbs_neg]
 congr 2
 omega
theorem aPy {a:List Int} (h:dP a) (hp:0<valB B6 a):(wrG a).dropWhile (· ==48)=decDigits (valB B6 a).toNat:=aO9 (sV h) hp
theorem aNz {a:List Int} (h:dP a) (hp:a≠ []):∃d0 d1 d2 d3 d4 d5:Nat,∃R:List UInt8,wrG a=UInt8.ofNat (48+d0)::UInt8.ofNat (48+d1)::UInt8.ofNat (48+d2)::UInt8.ofNat (48+d3)::UInt8.ofNat (48+d4)::UInt8.ofNat (48+d5)::R∧R.length≤6*a.length∧(d0≤9∧d1≤9∧d2≤9∧d3≤9∧d4≤9∧d5≤9)∧0<d0+d1+d2+d3+d4+d5∧0<valB B6 a:=by
 have hin:=sV h
 have hlast:∀(l:List Int),aB B6 (valB B6 a).toNat=l→∀hl:l≠ [],l.getLast hl≠0:=by
  intro l hl;subst hl;exact mH (by decide) _
 have hx:=hlast a h hp
 have hv:0<valB B6 a:=by
  have h1:=yE h
  rcases Nat.eq_zero_or_pos (valB B6 a).toNat with e | e
  ·exfalso
   have h2:aB B6 (valB B6 a).toNat=a:=h
   rw[e] at h2
   exact hp (by rw[← h2];simp[aB])
  ·omega
 obtain ⟨x,hxe⟩:∃x,a.getLast hp=x:=⟨_,rfl⟩
 rw[hxe] at hx
 have hmem:x∈a:=by rw[← hxe];exact List.getLast_mem hp
 have hxb:0≤x∧x<((B6:Nat):Int):=hin x hmem
 have hb6:((B6:Nat):Int)=1000000:=rfl
 rw[hb6] at hxb
 have ha:wrG a=six x.toNat++wrG a.dropLast:=by
  rw[← xZ,← hxe,List.dropLast_concat_getLast hp]
 refine ⟨x.toNat/100000%10,x.toNat/10000%10,x.toNat/1000%10,x.toNat/100%10,x.toNat/10%10,x.toNat%10,wrG a.dropLast,by rw[ha];rfl,?_,⟨by omega,by omega,by omega,by omega,by omega,by omega⟩,dsum (by omega) (by omega),hv⟩
 rw[aCp,List.length_dropLast]
 omega
theorem sU {a:List Int} (h:dP a) (hp:0<valB B6 a) (pre X:List UInt8) (d:Nat) (hd:0<d∧d≤9) (hw:wrG a=pre++UInt8.ofNat (48+d)::X) (hpre:∀b∈pre,b=48):UInt8.ofNat (48+d)::X=decDigits (valB B6 a).toNat:=by
 have hc:UInt8.ofNat (48+d)≠48:=by
  intro e
  have h1:=congrArg UInt8.toNat e
  have h2:(UInt8.ofNat (48+d)).toNat=48+d:=by rw[UInt8.toNat_ofNat'];omega
  rw[h2] at h1
  have:(48:UInt8).toNat=48:=rfl
  omega
 rw[← aPy h hp,hw]
 clear hw
 induction pre with
 | nil=>rw[List.nil_append,List.dropWhile_cons_of_neg (by simpa using hc)]
 | cons b r ih=>
  rw[hpre b (by simp),List.cons_append,List.dropWhile_cons_of_pos (by simp)]
  exact ih fun b hb=>hpre b (by simp[hb])
set_option maxHeartbeats 4000000 in
theorem b116 (p:Prop) (hp:Decidable p) (a:List Int) (h:dP a∧a.length≤200):body Tryz.prog [] { asks:=[(0,[]),(2,[])] } true Tryz.f197 [.agg [.bl p hp,Ls a]] (S (itoa (sgP p (valB B6 a)))):=by
 obtain ⟨hc,hl⟩:=h
 by_cases he:a= []
 ·subst he
  (repeat'((conv=>whnf);first|refine Zg fun _=>?_|fail))
  (refine Br.mk (fun _=>?_) (fun _=>?_))
  ·skip
   (conv=>whnf)
   skip
   show [48]=itoa (if p then -0 else 0)
   split<;>exact i0.symm
  ·rename_i hx
   exact (hx rfl).elim
 ·obtain ⟨d0,d1,d2,d3,d4,d5,R,hw,hR,hd,hs,hpos⟩:=aNz hc he
  have hin:=sV hc
  have hn:0<a.length:=List.length_pos_iff.2 he
  (repeat'((conv=>whnf);first|refine Zg fun _=>?_|refine Zn ?_|refine Zm ?_|fail))
  refine Need.mk ⟨by omega,by omega,by omega,show 6*(a.length:Int)*((1:Nat):Int)≤140737488355328 by omega⟩ ?_
  skip
  refine Ask.mk ⟨{ X:=Nat,pre:=fun i=>i≤a.length,mod:=fun i _=>[(4,I i)],heap:=fun i H=>[hget H 0,U (oT a i 0)],mu:=fun i=>a.length-i },rfl,?_⟩
  (repeat'((conv=>whnf);first|refine Zn ?_|fail))
  refine ⟨⟨(0:Nat),Nat.zero_le _,?_⟩,fun (i:Nat) (hi:i≤a.length)=>?_⟩
  ·(repeat'(first|exact trivial|rfl|refine And.intro ?_ ?_|fail))
   rw[aPx]
   show List.replicate _ _=List.replicate _ _
   congr 1
  have gi:=hin (a.getD i 0)
  (repeat'((conv=>whnf);first|refine Zg fun _=>?_|fail))
  (refine Br.mk (fun _=>?_) (fun _=>?_))
  ·have hlt:i<a.length:=by omega
   have gx:0≤a.getD i 0∧a.getD i 0<1000000:=by
    refine hin _ ?_
    rw[List.getD_eq_getElem?_getD,List.getElem?_eq_getElem hlt]
    exact List.getElem_mem hlt
   (repeat'((conv=>whnf);first|refine Zg fun _=>?_|refine Zn ?_|refine Zj ?_|fail))
   refine Ask.mk ⟨{ X:=Nat,pre:=fun k=>k≤6,mod:=fun k _=>[(5,I (a.getD i 0/((10^k:Nat):Int))),(6,I (k+1))],heap:=fun k H=>[hget H 0,U (oT a i k)],mu:=fun k=>6-k },rfl,?_⟩
   (repeat'((conv=>whnf);first|refine Zn ?_|fail))
   refine ⟨⟨(0:Nat),Nat.zero_le _,?_⟩,fun (k:Nat) (hk:k≤6)=>?_⟩
   ·(repeat'(first|exact trivial|rfl|refine And.intro ?_ ?_|omega|fail))
   skip
   (refine Br.mk (fun _=>?_) (fun _=>?_))
   ·have hk6:k<6:=by omega
    obtain ⟨q,hq⟩:∃q,a.getD i 0/((10^k:Nat):Int)=q:=⟨_,rfl⟩
    have hq0:0≤q∧q<1000000:=by
     rw[← hq]
     have h1:(0:Int)<((10^k:Nat):Int):=Int.natCast_pos.2 (Nat.pow_pos (by omega))
     refine ⟨Int.ediv_nonneg gx.1 (by omega),?_⟩
     have:=Int.ediv_le_self ((10^k:Nat):Int) gx.1
     omega
    rw[hq]
    have tq:q.tmod 10=q%10:=Int.tmod_eq_emod_of_nonneg hq0.1
    have dq:q.tdiv 10=q/10:=Int.tdiv_eq_ediv_of_nonneg hq0.1
    have hln:=aRy (l:=a) (i:=i) (j:=k) (by omega) (by omega)
    (repeat'((conv=>whnf);first|refine Zg fun _=>?_|refine Za ?_|refine Zn ?_|fail))
    refine cF (6*(a.length-i)-(k+1)) (by omega) ?_
    (repeat'((conv=>whnf);first|refine Za ?_|refine Zn ?_|fail))
    refine ⟨(k+1:Nat),by show 6-(k+1)<6-k;omega,hk6,?_⟩
    (repeat'(first|exact trivial|rfl|refine And.intro ?_ ?_|fail))
    ·rw[← hq,Nat.pow_succ,Int.natCast_mul,Int.ediv_ediv_of_nonneg (Int.natCast_nonneg _)];rfl
    ·refine aR1 hlt hk6 rfl ?_
     rw[← hq]
     have e1:a.getD i 0=((a.getD i 0).toNat:Int):=by omega
     rw[e1]
     simp only[Int.toNat_natCast]
     omega
   ·have e:k=6:=by omega
    subst e
    (repeat'((conv=>whnf);first|refine Zn ?_|fail))
    refine ⟨(i+1:Nat),by show a.length-(i+1)<a.length-i;omega,hlt,?_⟩
    (repeat'(first|exact trivial|rfl|refine And.intro ?_ ?_|fail))
    exact aR0 hlt
  ·have e:i=a.length:=by omega
   subst e
   rw[aNy hw ⟨hd.1,hd.2.1,hd.2.2.1,hd.2.2.2.1,hd.2.2.2.2.1,hd.2.2.2.2.2⟩]
   have hk (n:Nat):List.length (α:=Int) (aP R)=R.length:=yB R
   by_cases z0:d0=0
   ·subst z0
    by_cases z1:d1=0
    ·subst z1
     by_cases z2:d2=0
     ·subst z2
      by_cases z3:d3=0
      ·subst z3
       by_cases z4:d4=0
       ·subst z4
        by_cases z5:d5=0
        ·subst z5
         exfalso;omega
        ·have hf:=sU hc hpos [48,48,48,48,48] (R) d5 (by omega) hw (by simp)
         (repeat'((conv=>whnf);first|refine Zg fun _=>?_|refine Zn ?_|refine Z0 ?_|fail))
         refine Br.mkY (show (48+((0:Nat):Int))=48 by omega) ?_
         (repeat'((conv=>whnf);first|refine Zg fun _=>?_|refine Zn ?_|refine Z0 ?_|refine Z1 ?_|refine Zl ?_|fail))
         refine Br.mkY (show (48+((0:Nat):Int))=48 by omega) ?_
         (repeat'((conv=>whnf);first|refine Zg fun _=>?_|refine Zn ?_|refine Z0 ?_|refine Z1 ?_|fail))
         refine Br.mkY (show (48+((0:Nat):Int))=48 by omega) ?_
         (repeat'((conv=>whnf);first|refine Zg fun _=>?_|refine Zn ?_|refine Z0 ?_|refine Z1 ?_|fail))
         refine Br.mkY (show (48+((0:Nat):Int))=48 by omega) ?_
         (repeat'((conv=>whnf);first|refine Zg fun _=>?_|refine Zn ?_|refine Z0 ?_|refine Z1 ?_|fail))
         refine Br.mkY (show (48+((0:Nat):Int))=48 by omega) ?_
         (repeat'((conv=>whnf);first|refine Zg fun _=>?_|refine Zn ?_|refine Z0 ?_|refine Z1 ?_|fail))
         refine Br.mkN (show ¬(48+(d5:Int))=48 by omega) ?_
         skip
         (refine Br.mk (fun _=>?_) (fun _=>?_))
         ·rename_i hp'
          skip
          refine Need.mk (show 1+(bH ((48+(d5:Int))::(aP R))).length≤140737488355328 by (simp only[bH,aP,List.length_map,List.length_cons];omega)) ?_
          skip
          (conv=>whnf)
          skip
          exact sT hp' hpos (X:=(aP R)) (by simp only[bO,eC]) hf
         ·rename_i hp'
          skip
          (conv=>whnf)
          skip
          exact sS hp' hpos (X:=(aP R)) (by simp only[bO,eC]) hf
       ·have hf:=sU hc hpos [48,48,48,48] (UInt8.ofNat (48+d5)::R) d4 (by omega) hw (by simp)
        (repeat'((conv=>whnf);first|refine Zg fun _=>?_|refine Zn ?_|refine Z0 ?_|fail))
        refine Br.mkY (show (48+((0:Nat):Int))=48 by omega) ?_
        (repeat'((conv=>whnf);first|refine Zg fun _=>?_|refine Zn ?_|refine Z0 ?_|refine Z1 ?_|refine Zl ?_|fail))
        refine Br.mkY (show (48+((0:Nat):Int))=48 by omega) ?_
        (repeat'((conv=>whnf);first|refine Zg fun _=>?_|refine Zn ?_|refine Z0 ?_|refine Z1 ?_|fail))
        refine Br.mkY (show (48+((0:Nat):Int))=48 by omega) ?_
        (repeat'((conv=>whnf);first|refine Zg fun _=>?_|refine Zn ?_|refine Z0 ?_|refine Z1 ?_|fail))
        refine Br.mkY (show (48+((0:Nat):Int))=48 by omega) ?_
        (repeat'((conv=>whnf);first|refine Zg fun _=>?_|refine Zn ?_|refine Z0 ?_|refine Z1 ?_|fail))
        refine Br.mkN (show ¬(48+(d4:Int))=48 by omega) ?_
        skip
        (refine Br.mk (fun _=>?_) (fun _=>?_))
        ·rename_i hp'
         skip
         refine Need.mk (show 1+(bH ((48+(d4:Int))::((48+d5:Int)::aP R))).length≤140737488355328 by (simp only[bH,aP,List.length_map,List.length_cons];omega)) ?_
         skip
         (conv=>whnf)
         skip
         exact sT hp' hpos (X:=((48+d5:Int)::aP R)) (by simp only[bO,eC]) hf
        ·rename_i hp'
         skip
         (conv=>whnf)
         skip
         exact sS hp' hpos (X:=((48+d5:Int)::aP R)) (by simp only[bO,eC]) hf
      ·have hf:=sU hc hpos [48,48,48] (UInt8.ofNat (48+d4)::UInt8.ofNat (48+d5)::R) d3 (by omega) hw (by simp)
       (repeat'((conv=>whnf);first|refine Zg fun _=>?_|refine Zn ?_|refine Z0 ?_|fail))
       refine Br.mkY (show (48+((0:Nat):Int))=48 by omega) ?_
       (repeat'((conv=>whnf);first|refine Zg fun _=>?_|refine Zn ?_|refine Z0 ?_|refine Z1 ?_|refine Zl ?_|fail))
       refine Br.mkY (show (48+((0:Nat):Int))=48 by omega) ?_
       (repeat'((conv=>whnf);first|refine Zg fun _=>?_|refine Zn ?_|refine Z0 ?_|refine Z1 ?_|fail))
       refine Br.mkY (show (48+((0:Nat):Int))=48 by omega) ?_
       (repeat'((conv=>whnf);first|refine Zg fun _=>?_|refine Zn ?_|refine Z0 ?_|refine Z1 ?_|fail))
       refine Br.mkN (show ¬(48+(d3:Int))=48 by omega) ?_
       skip
       (refine Br.mk (fun _=>?_) (fun _=>?_))
       ·rename_i hp'
        skip
        refine Need.mk (show 1+(bH ((48+(d3:Int))::((48+d4:Int)::(48+d5:Int)::aP R))).length≤140737488355328 by (simp only[bH,aP,List.length_map,List.length_cons];omega)) ?_
        skip
        (conv=>whnf)
        skip
        exact sT hp' hpos (X:=((48+d4:Int)::(48+d5:Int)::aP R)) (by simp only[bO,eC]) hf
       ·rename_i hp'
        skip
        (conv=>whnf)
        skip
        exact sS hp' hpos (X:=((48+d4:Int)::(48+d5:Int)::aP R)) (by simp only[bO,eC]) hf
     ·have hf:=sU hc hpos [48,48] (UInt8.ofNat (48+d3)::UInt8.ofNat (48+d4)::UInt8.ofNat (48+d5)::R) d2 (by omega) hw (by simp)
      (repeat'((conv=>whnf);first|refine Zg fun _=>?_|refine Zn ?_|refine Z0 ?_|fail))
      refine Br.mkY (show (48+((0:Nat):Int))=48 by omega) ?_
      (repeat'((conv=>whnf);first|refine Zg fun _=>?_|refine Zn ?_|refine Z0 ?_|refine Z1 ?_|refine Zl ?_|fail))
      refine Br.mkY (show (48+((0:Nat):Int))=48 by omega) ?_
      (repeat'((conv=>whnf);first|refine Zg fun _=>?_|refine Zn ?_|refine Z0 ?_|refine Z1 ?_|fail))
      refine Br.mkN (show ¬(48+(d2:Int))=48 by omega) ?_
      skip
      (refine Br.mk (fun _=>?_) (fun _=>?_))
      ·rename_i hp'
       skip
       refine Need.mk (show 1+(bH ((48+(d2:Int))::((48+d3:Int)::(48+d4:Int)::(48+d5:Int)::aP R))).length≤140737488355328 by (simp only[bH,aP,List.length_map,List.length_cons];omega)) ?_
       skip
       (conv=>whnf)
       skip
       exact sT hp' hpos (X:=((48+d3:Int)::(48+d4:Int)::(48+d5:Int)::aP R)) (by simp only[bO,eC]) hf
      ·rename_i hp'
       skip
       (conv=>whnf)
       skip
       exact sS hp' hpos (X:=((48+d3:Int)::(48+d4:Int)::(48+d5:Int)::aP R)) (by simp only[bO,eC]) hf
    ·have hf:=sU hc hpos [48] (UInt8.ofNat (48+d2)::UInt8.ofNat (48+d3)::UInt8.ofNat (48+d4)::UInt8.ofNat (48+d5)::R) d1 (by omega) hw (by simp)
     (repeat'((conv=>whnf);first|refine Zg fun _=>?_|refine Zn ?_|refine Z0 ?_|fail))
     refine Br.mkY (show (48+((0:Nat):Int))=48 by omega) ?_
     (repeat'((conv=>whnf);first|refine Zg fun _=>?_|refine Zn ?_|refine Z0 ?_|refine Z1 ?_|refine Zl ?_|fail))
     refine Br.mkN (show ¬(48+(d1:Int))=48 by omega) ?_
     skip
     (refine Br.mk (fun _=>?_) (fun _=>?_))
     ·rename_i hp'
      skip
      refine Need.mk (show 1+(bH ((48+(d1:Int))::((48+d2:Int)::(48+d3:Int)::(48+d4:Int)::(48+d5:Int)::aP R))).length≤140737488355328 by (simp only[bH,aP,List.length_map,List.length_cons];omega)) ?_
      skip
      (conv=>whnf)
      skip
      exact sT hp' hpos (X:=((48+d2:Int)::(48+d3:Int)::(48+d4:Int)::(48+d5:Int)::aP R)) (by simp only[bO,eC]) hf
     ·rename_i hp'
      skip
      (conv=>whnf)
      skip
      exact sS hp' hpos (X:=((48+d2:Int)::(48+d3:Int)::(48+d4:Int)::(48+d5:Int)::aP R)) (by simp only[bO,eC]) hf
   ·have hf:=sU hc hpos [] (UInt8.ofNat (48+d1)::UInt8.ofNat (48+d2)::UInt8.ofNat (48+d3)::UInt8.ofNat (48+d4)::UInt8.ofNat (48+d5)::R) d0 (by omega) hw (by simp)
    (repeat'((conv=>whnf);first|refine Zg fun _=>?_|refine Zn ?_|refine Z0 ?_|fail))
    refine Br.mkN (show ¬(48+(d0:Int))=48 by omega) ?_
    skip
    (refine Br.mk (fun _=>?_) (fun _=>?_))
    ·rename_i hp'
     skip
     refine Need.mk (show 1+(bH ((48+(d0:Int))::((48+d1:Int)::(48+d2:Int)::(48+d3:Int)::(48+d4:Int)::(48+d5:Int)::aP R))).length≤140737488355328 by (simp only[bH,aP,List.length_map,List.length_cons];omega)) ?_
     skip
     (conv=>whnf)
     skip
     exact sT hp' hpos (X:=((48+d1:Int)::(48+d2:Int)::(48+d3:Int)::(48+d4:Int)::(48+d5:Int)::aP R)) (by simp only[bO,eC]) hf
    ·rename_i hp'
     skip
     (conv=>whnf)
     skip
     exact sS hp' hpos (X:=((48+d1:Int)::(48+d2:Int)::(48+d3:Int)::(48+d4:Int)::(48+d5:Int)::aP R)) (by simp only[bO,eC]) hf
theorem k116:aF Tryz.prog c116:=by
 refine aC rfl (enters_of Tryz.func197 (by kernel_rfl) rfl) ?_
 intro args K h
 simp only[c116] at h
 split at h
 ·rename_i p hp a
  exact ⟨_,h.go,aA (Γ:=[]) (by simp) Tryz.func197 (by simp[Tryz.ntmps197]) rfl (b116 p hp a h.ok)⟩
 ·rename_i a
  refine ⟨_,h.go,?_⟩
  have ht:=aA (Γ:=[]) (by simp) Tryz.func197 (by simp[Tryz.ntmps197]) rfl (b116 False inferInstance a h.ok)
  refine xM (args:=[.agg [.bl False inferInstance,Ls a]]) ht ⟨⟨fun h=>h,?_,trivial⟩,trivial⟩
  rfl
 ·exact h.elim
theorem k86:aF Tryz.prog c86:=by
 refine aC rfl (enters_of Tryz.func149 (by kernel_rfl) rfl) ?_
 intro args K h
 simp only[c86] at h
 split at h
 ·rename_i a b
  exact ⟨_,h,aA (Γ:=[c110,c111,c61,c112,c113,c116]) (by simp[k110,k111,k61,k112,k113,k116]) Tryz.func149 (by simp[Tryz.ntmps149]) rfl (b86 a b)⟩
 ·exact h.elim
def c44:Con:=aJ 81 true fun args K=>match args with | [.str s]=>K (I (chkQ s)) | _=>False
theorem k44:aF Tryz.prog c44:=by
 refine aC rfl (enters_of Tryz.func81 (by kernel_rfl) rfl) ?_
 intro args K h
 simp only[c44] at h
 split at h
 ·rename_i s;exact ⟨_,h,aA (Γ:=[c73,c83,c85,c84,c86]) (by simp[k73,k83,k85,k84,k86]) Tryz.func81 (by simp[Tryz.ntmps81]) rfl (b44 s)⟩
 ·exact h.elim
def badQ (s:List UInt8):Prop:=60<s.length∨chkQ s≠0
noncomputable instance (s:List UInt8):Decidable (badQ s):=Classical.propDecidable _
def fineL (l:List (List UInt8)):Prop:=∀a∈l,a.length≤60∧chkQ a=0
noncomputable instance (l:List (List UInt8)):Decidable (fineL l):=Classical.propDecidable _
theorem dec1 {n:Nat} (h:n<10):decDigits n= [UInt8.ofNat (48+n)]:=by
 rw[decDigits,dif_pos h]
theorem aJ7 {n:Nat} (h:n<10):itoa (n:Int)= [UInt8.ofNat (48+n)]:=by
 unfold itoa
 rw[if_neg (by omega),Int.toNat_natCast,dec1 h]
theorem int1 {q:Rat} {n:Nat} (hn:q.num=n) (hd:q.den=1) (h1:n<10):numS q= [UInt8.ofNat (48+n)]:=by
 unfold numS
 rw[hn,hd,if_pos rfl,aJ7 h1]
def Sz (k:Nat) (q:Rat):Prop:=q.num.natAbs<10^k∧q.den<10^k
theorem dB {i j:Nat} (h:i≤j):(10:Nat)^i≤10^j:=Nat.pow_le_pow_right (by omega) h
theorem Sz.mono {i j:Nat} {q:Rat} (h:Sz i q) (hij:i≤j):Sz j q:=
 ⟨Nat.lt_of_lt_of_le h.1 (dB hij),Nat.lt_of_lt_of_le h.2 (dB hij)⟩
theorem kC {n k:Nat} (hk:0<k) (h:n<10^k):(decDigits n).length≤k:=by
 obtain ⟨m,rfl⟩:∃m,k=m+1:=⟨k-1,by omega⟩
 exact gK m n h
theorem bK {n:Int} {k:Nat} (hk:0<k∧k≤300) (h:n.natAbs<10^k):lim n=false:=by
 unfold lim
 have:=kC hk.1 h
 simp;omega
theorem fH {n k:Nat} (h:(decDigits n).length≤k):n<10^k:=by
 have h1:=cD (decDigits n) (fun c hc=>fR _ c hc)
 rw[bW] at h1
 exact Nat.lt_of_lt_of_le h1 (dB h)
theorem iN {q:Rat} {k:Nat} (h:Sz k q) (hk:0<k∧k≤300):chkQ (numS q)=0:=by
 refine aFg (by rw[bV]) ?_ ?_
 ·rw[fM,bR]
  have:=kC hk.1 h.1
  omega
 ·rw[iZ]
  split
  ·simp
  ·have:=kC hk.1 h.2
   simp;omega
theorem mQ {a b i j:Nat} (ha:a<10^i) (hb:b<10^j):a*b<10^ (i+j):=by
 rw[Nat.pow_add]
 exact Nat.mul_lt_mul'' ha hb
theorem kN (n:Int) (g:Nat):(n/(g:Int)).natAbs≤n.natAbs:=by
 rcases Nat.eq_zero_or_pos g with e | e
 ·subst e;simp
 ·have h1:(1:Int)≤g:=by omega
  rcases Int.le_total 0 n with h | h
  ·have h2:=Int.ediv_le_self (g:Int) h
   have h3:=Int.ediv_nonneg h (show (0:Int)≤g by omega)
   omega
  ·have h2:n/(g:Int)≤0:=by
    have:=Int.ediv_le_ediv (show (0:Int)<g by omega) h
    simpa using this
   have h3:n≤n/(g:Int):=by
    rw[Int.le_ediv_iff_mul_le (by omega)]
    have:=Int.mul_le_mul_of_nonpos_left (a:=n) h h1
    rw[Int.mul_one] at this
    omega
   omega
theorem aFu {n:Int} {d k:Nat} (hd:d≠0) (h1:n.natAbs<10^k) (h2:d<10^k):Sz k (mkRat n d):=by
 refine ⟨?_,?_⟩
 ·rw[Rat.num_mkRat,if_neg hd]
  refine Nat.lt_of_le_of_lt ?_ h1
  exact kN _ _
 ·rw[Rat.den_mkRat,if_neg hd]
  exact Nat.lt_of_le_of_lt (Nat.div_le_self _ _) h2
theorem gH {x y:Int} {k:Nat} (hx:x.natAbs<10^k) (hy:y.natAbs<10^k):(x+y).natAbs<10^ (k+1)∧(x-y).natAbs<10^ (k+1):=by
 rw[Nat.pow_succ]
 omega
section
variable {p q:Rat} {i j:Nat}
theorem Sz.cross (hp:Sz i p) (hq:Sz j q):(p.num*q.den).natAbs<10^ (i+j)∧(q.num*p.den).natAbs<10^ (i+j)∧(p.num*q.num).natAbs<10^ (i+j)∧p.den*q.den<10^ (i+j):=by
 refine ⟨?_,?_,?_,mQ hp.2 hq.2⟩
 ·rw[Int.natAbs_mul];exact mQ hp.1 hq.2
 ·rw[Int.natAbs_mul,Nat.add_comm];exact mQ hq.1 hp.2
 ·rw[Int.natAbs_mul];exact mQ hp.1 hq.1
theorem qG (p q:Rat):p.den*q.den≠0:=Nat.mul_ne_zero p.den_nz q.den_nz
theorem Sz.add (hp:Sz i p) (hq:Sz j q):Sz (i+j+1) (p+q):=by
 obtain ⟨h1,h2,h3,h4⟩:=hp.cross hq
 rw[sK]
 exact aFu (qG p q) (gH h1 h2).1 (Nat.lt_of_lt_of_le h4 (dB (by omega)))
theorem Sz.sub (hp:Sz i p) (hq:Sz j q):Sz (i+j+1) (p-q):=by
 obtain ⟨h1,h2,h3,h4⟩:=hp.cross hq
 rw[oO]
 exact aFu (qG p q) (gH h1 h2).2 (Nat.lt_of_lt_of_le h4 (dB (by omega)))
theorem Sz.mul (hp:Sz i p) (hq:Sz j q):Sz (i+j) (p*q):=by
 obtain ⟨h1,h2,h3,h4⟩:=hp.cross hq
 rw[oP]
 exact aFu (qG p q) h3 h4
theorem mR {f:Rat→Rat→List UInt8 × Int} (hp:Sz i p) (hq:Sz j q) (hi:0<i∧i≤300) (hj:0<j∧j≤300):cE (numS p) (numS q) f=f p q:=by
 unfold cE
 rw[if_neg (by rw[iN hp hi];simp),if_neg (by rw[iN hq hj];simp),bV,bV]
theorem aP3 (hp:Sz i p) (hq:Sz j q) (hi:0<i) (hj:0<j) (h:i+j+1≤300):addQ (numS p) (numS q)=(numS (p+q),0):=by
 obtain ⟨h1,h2,h3,h4⟩:=hp.cross hq
 unfold addQ
 rw[mR hp hq ⟨hi,by omega⟩ ⟨hj,by omega⟩,if_neg]
 simp only[Bool.or_eq_true,not_or,Bool.not_eq_true]
 exact ⟨⟨⟨bK ⟨by omega,by omega⟩ h1,bK ⟨by omega,by omega⟩ h2⟩,bK (k:=i+j+1) ⟨by omega,h⟩ (gH h1 h2).1⟩,bK (k:=i+j) ⟨by omega,by omega⟩ (by rw[← Int.natCast_mul,Int.natAbs_natCast];exact h4)⟩
theorem rT (hp:Sz i p) (hq:Sz j q) (hi:0<i) (hj:0<j) (h:i+j+1≤300):subQ (numS p) (numS q)=(numS (p-q),0):=by
 obtain ⟨h1,h2,h3,h4⟩:=hp.cross hq
 unfold subQ
 rw[mR hp hq ⟨hi,by omega⟩ ⟨hj,by omega⟩,if_neg]
 simp only[Bool.or_eq_true,not_or,Bool.not_eq_true]
 exact ⟨⟨⟨bK ⟨by omega,by omega⟩ h1,bK ⟨by omega,by omega⟩ h2⟩,bK (k:=i+j+1) ⟨by omega,h⟩ (gH h1 h2).2⟩,bK (k:=i+j) ⟨by omega,by omega⟩ (by rw[← Int.natCast_mul,Int.natAbs_natCast];exact h4)⟩
theorem aJ8 (hp:Sz i p) (hq:Sz j q) (hi:0<i) (hj:0<j) (h:i+j≤300):mulQ (numS p) (numS q)=(numS (p*q),0):=by
 obtain ⟨h1,h2,h3,h4⟩:=hp.cross hq
 unfold mulQ
 rw[mR hp hq ⟨hi,by omega⟩ ⟨hj,by omega⟩,if_neg]
 simp only[Bool.or_eq_true,not_or,Bool.not_eq_true]
 exact ⟨bK ⟨by omega,h⟩ h3,bK (k:=i+j) ⟨by omega,by omega⟩ (by rw[← Int.natCast_mul,Int.natAbs_natCast];exact h4)⟩
theorem oX (hp:Sz i p) (hq:Sz j q) (hi:0<i) (hj:0<j) (h:i+j≤300) (h0:q≠0):divQ (numS p) (numS q)=(numS (p/q),0):=by
 obtain ⟨h1,h2,h3,h4⟩:=hp.cross hq
 unfold divQ
 rw[mR hp hq ⟨hi,by omega⟩ ⟨hj,by omega⟩,if_neg h0,if_neg]
 simp only[Bool.or_eq_true,not_or,Bool.not_eq_true]
 exact ⟨bK ⟨by omega,h⟩ h1,bK ⟨by omega,h⟩ h2⟩
theorem aP4 (hp:Sz i p) (hq:Sz j q) (hi:0<i) (hj:0<j) (h:i+j≤300):cmpQ (numS p) (numS q)=(cmpI (p.num*q.den) (q.num*p.den),0):=by
 obtain ⟨h1,h2,h3,h4⟩:=hp.cross hq
 unfold cmpQ
 rw[if_neg (by rw[iN hp ⟨hi,by omega⟩];simp),if_neg (by rw[iN hq ⟨hj,by omega⟩];simp),bV,bV]
 unfold cmpf
 rw[if_neg]
 simp only[Bool.or_eq_true,not_or,Bool.not_eq_true]
 exact ⟨bK ⟨by omega,h⟩ h1,bK ⟨by omega,h⟩ h2⟩
end
theorem yH {n:Int} {k:Nat} (h:n.natAbs<10^k) (hk:0<k):Sz k (n:Rat):=
 ⟨h,Nat.lt_of_lt_of_le (show 1<10^1 by decide) (dB hk)⟩
theorem fA (n:Int):numS (n:Rat)=itoa n:=by
 unfold numS
 rw[Rat.den_intCast,if_pos rfl,Rat.num_intCast]
theorem aA6 (n:Int):itoa n= [48]↔n=0:=by
 constructor
 ·intro h
  have:=congrArg valI h
  rw[aO] at this
  rw[this];decide
 ·rintro rfl;exact itoa_zero
theorem nR {n:Nat}:(decDigits n).getD 0 0≠45:=by
 intro h
 have h1:=fR n ((decDigits n).getD 0 0) (by
  have:=xK n
  cases e:decDigits n with
  | nil=>exact absurd e this
  | cons x r=>simp)
 rw[h] at h1
 unfold aT at h1
 revert h1
 decide
theorem aR3 {q:Rat}:pd q= [49]↔q.den=1:=by
 constructor
 ·intro h
  have:=congrArg aD (show decDigits q.den= [49] from h)
  rw[bW] at this
  rw[this];decide
 ·intro h
  show decDigits q.den= [49]
  rw[h,dec1 (by decide)];rfl
theorem aOa (q:Rat):q.num/(q.den:Int)*(q.den:Int)≤q.num:=Int.ediv_mul_le _ (by have:=q.den_nz;omega)
theorem aOb (q:Rat):q.num<(q.num/(q.den:Int)+1)*(q.den:Int):=Int.lt_ediv_add_one_mul_self _ (by have:=q.den_pos;omega)
noncomputable def cmpR (p q:Rat):Int:=if p<q then -1 else if q<p then 1 else 0
theorem aOc {p q:Rat} {i j:Nat} (hp:Sz i p) (hq:Sz j q) (hi:0<i) (hj:0<j) (h:i+j≤300):cmpQ (numS p) (numS q)=(cmpR p q,0):=by
 rw[aP4 hp hq hi hj h]
 unfold cmpI cmpR
 rw[Prod.mk.injEq]
 refine ⟨?_,rfl⟩
 by_cases h1:p<q
 ·rw[if_pos h1,if_pos ((Rat.lt_iff p q).1 h1)]
 ·rw[if_neg h1,if_neg fun h=>h1 ((Rat.lt_iff p q).2 h)]
  by_cases h2:q<p
  ·have:=(Rat.lt_iff q p).1 h2
   rw[if_pos h2,if_neg (by omega)]
  ·have e1:¬p.num*(q.den:Int)<q.num*(p.den:Int):=fun h=>h1 ((Rat.lt_iff p q).2 h)
   have e2:¬q.num*(p.den:Int)<p.num*(q.den:Int):=fun h=>h2 ((Rat.lt_iff q p).2 h)
   rw[if_neg h2,if_pos (by omega)]
theorem rU (p q:Rat):cmpR p q= -cmpR q p:=by
 unfold cmpR
 by_cases h1:p<q
 ·have h2:¬q<p:=Rat.not_lt.2 (Rat.le_of_lt h1)
  rw[if_pos h1,if_neg h2,if_pos h1]
 ·rw[if_neg h1]
  by_cases h2:q<p
  ·rw[if_pos h2,if_pos h2];rfl
  ·rw[if_neg h2,if_neg h2,if_neg h1];rfl
theorem aC2 (p q:Rat):cmpR p q<0↔p<q:=by
 unfold cmpR
 constructor
 ·intro h
  split at h
  ·assumption
  ·split at h<;>omega
 ·intro h
  rw[if_pos h];omega
theorem uV (q:Rat):numS q≠ []:=by
 unfold numS
 have:=gP (x:=q.num)
 split
 ·intro h;rw[h] at this;simp at this
 ·intro h
  have h1:=congrArg List.length h
  simp at h1
theorem lF (q:Rat):aK (numS q) 0=45↔q<0:=by
 have h0:0<(numS q).length:=List.length_pos_iff.2 (uV q)
 have e:aK (numS q) 0=aK (itoa q.num) 0:=by
  unfold numS
  split
  ·rfl
  ·unfold aK
   rw[List.getD_eq_getElem?_getD,List.getD_eq_getElem?_getD,List.getElem?_append_left gP]
 rw[e]
 have hn:q<0↔q.num<0:=by
  rw[Rat.lt_iff]
  show q.num*((1:Nat):Int)<0* _↔ _
  omega
 rw[hn]
 unfold itoa
 split
 ·rename_i h
  exact ⟨fun _=>h,fun _=>rfl⟩
 ·rename_i h
  constructor
  ·intro h2
   exfalso
   refine nR (n:=q.num.toNat) (UInt8.toNat_inj.1 ?_)
   unfold aK at h2
   have:(45:UInt8).toNat=45:=rfl
   omega
  ·intro h2
   exact absurd h2 h
theorem numS0:numS (0:Rat)= [48]:=int1 (n:=0) (by decide) (by decide) (by decide)
set_option linter.unusedSimpArgs false
theorem aHj {B:Nat} (hB:2≤B) {a b:List Int} (ha:InB B a) (hb:InB B b) {n:Nat} (h1:a.length≤n) (h2:b.length≤n):(addK B a b (n+1)).2=0:=by
 obtain ⟨l1,l2,l3,l4⟩:=jN hB ha hb (n+1)
 rw[dN _ _ _ (by omega),dN _ _ _ (by omega)] at l4
 have v1:=eU hB ha h1
 have v2:=eU hB hb h2
 have v3:=bA l2
 have hp:(B:Int)^ (n+1)=(B:Int)^n*B:=Int.pow_succ _ _
 have h0:=dI hB n
 refine Classical.byContradiction fun hc=>?_
 have hc1:(addK B a b (n+1)).2=1:=by omega
 rw[hc1,Int.mul_one,hp] at l4
 have h5:(B:Int)^n*2≤(B:Int)^n*B:=Int.mul_le_mul_of_nonneg_left (by omega) (by omega)
 omega
theorem aOd {B:Nat} (hB:2≤B) {a b:List Int} (ha:InB B a) (hb:InB B b) {k:Nat} (h1:a.length≤k) (h2:b.length≤k) (hc:(addK B a b k).2=0):bX (addK B a b k).1=aB B (valB B a+valB B b).toNat:=by
 obtain ⟨l1,l2,l3,l4⟩:=jN hB ha hb k
 rw[dN _ _ _ h1,dN _ _ _ h2,hc,Int.mul_zero,Int.add_zero] at l4
 rw[cH hB l2,l4]
theorem b147 (a b:List Int) (h:InB B6 a∧InB B6 b∧a.length≤100000∧b.length≤100000):body Tryz.prog [c143,c141] { asks:=[(0,[1])] } false Tryz.f203 [Ls a,Ls b] (Ls (aB B6 (valB B6 a+valB B6 b).toNat)):=by
 obtain ⟨ha,hb,hla,hlb⟩:=h
 obtain ⟨n,hn⟩:∃n,n=a.length+b.length:=⟨_,rfl⟩
 skip
 (conv=>whnf)
 refine Ask.mk ⟨{ X:=Nat,pre:=fun i=>i≤n+1,mod:=fun i _=>[(5,.ref 1 1),(6,I (addK B6 a b i).2),(7,I i)],heap:=fun i _=>[V [],V (addK B6 a b i).1],mu:=fun i=>n+1-i,objs:=[1] },rfl,?_⟩
 (repeat'((conv=>whnf);first|refine Zn ?_|fail))
 refine ⟨⟨(0:Nat),Nat.zero_le _,by (repeat'(first|exact trivial|rfl|exact Nat.one_pos|refine And.intro ?_ ?_|fail))⟩,fun (i:Nat) (hi:i≤n+1)=>?_⟩
 obtain ⟨g1,g2,g3,_⟩:=jN (B:=B6) (by decide) ha hb i
 have ga:=get6 ha i
 have gb:=get6 hb i
 have hcar:i=n+1→(addK B6 a b i).2=0:=fun e=>by
  subst e
  exact aHj (by decide) ha hb (by omega) (by omega)
 have s2:(addK B6 a b (i+1)).1=(addK B6 a b i).1++ [(a.getD i 0+b.getD i 0+(addK B6 a b i).2)%1000000]:=rfl
 have s3:(addK B6 a b (i+1)).2=(a.getD i 0+b.getD i 0+(addK B6 a b i).2)/1000000:=rfl
 by_cases hgo:i<a.length∨i<b.length∨0<(addK B6 a b i).2
 ·have hin:i<n+1:=by
   rcases hgo with h | h | h
   ·omega
   ·omega
   ·refine Classical.byContradiction fun hx=>?_
    have:=hcar (by omega)
    omega
  have hcase:(i<a.length)∨(¬i<a.length∧i<b.length)∨(¬i<a.length∧¬i<b.length∧0<(addK B6 a b i).2):=by omega
  have t1:(a.getD i 0+b.getD i 0+(addK B6 a b i).2).tmod 1000000=(a.getD i 0+b.getD i 0+(addK B6 a b i).2)%1000000:=Int.tmod_eq_emod_of_nonneg (by omega)
  have t2:(a.getD i 0+b.getD i 0+(addK B6 a b i).2).tdiv 1000000=(a.getD i 0+b.getD i 0+(addK B6 a b i).2)/1000000:=Int.tdiv_eq_ediv_of_nonneg (by omega)
  rcases hcase with h1 | ⟨h1,h2⟩ | ⟨h1,h2,h3⟩
  all_goals
   (repeat'((conv=>whnf);first|refine Zg fun _=>?_|refine Za ?_|refine Zn ?_|refine Zj ?_|refine Zl ?_|refine Zy ?_|refine Zm ?_|fail))
   refine ⟨(i+1:Nat),by show n+1-(i+1)<n+1-i;omega,by show i+1≤n+1;omega,?_⟩
   (repeat'(first|exact trivial|rfl|exact Nat.one_pos|refine And.intro ?_ ?_|fail))
 ·have e1:=aOd (B:=B6) (by decide) ha hb (k:=i) (by omega) (by omega) (by omega)
  (repeat'((conv=>whnf);first|refine Zg fun _=>?_|refine Zm ?_|fail))
  (conv=>whnf)
  skip
  exact e1
def c147:Con:=aJ 203 false fun args K=>match args with | [.seq (.int .i64) a,.seq (.int .i64) b]=>Need (InB B6 a∧InB B6 b∧a.length≤100000∧b.length≤100000) (K (Ls (aB B6 (valB B6 a+valB B6 b).toNat))) | _=>False
theorem k147:aF Tryz.prog c147:=by
 refine aC rfl (enters_of Tryz.func203 (by kernel_rfl) rfl) ?_
 intro args K h
 simp only[c147] at h
 split at h
 ·rename_i a b;exact ⟨_,h.go,aA (Γ:=[c143,c141]) (by simp[k143,k141]) Tryz.func203 (by simp[Tryz.ntmps203]) rfl (b147 a b h.ok)⟩
 ·exact h.elim
def addS (p:Prop) (m:Nat) (q:Prop) (n:Nat) [Decidable p] [Decidable q]:Prop:=addP p m q n∧addN p m q n≠0
instance (p:Prop) (m:Nat) (q:Prop) (n:Nat) [Decidable p] [Decidable q]:Decidable (addS p m q n):=by unfold addS;infer_instance
theorem aFv (p:Prop) [Decidable p] (m:Nat) (q:Prop) [Decidable q] (n:Nat):sgP (addS p m q n) (addN p m q n)=sgP p m+sgP q n:=by
 rw[← aCw]
 unfold addS sgP
 by_cases h:addN p m q n=0
 ·simp[h]
 ·simp[h]
theorem iO (n:Nat):(aB B6 n).length=0↔n=0:=by
 constructor
 ·intro h
  have h1:aB B6 n= []:=List.eq_nil_of_length_eq_zero h
  have h2:=v6 n
  rw[h1] at h2
  have h3:valB B6 []=0:=rfl
  omega
 ·rintro rfl;rw[aV];rfl
set_option maxHeartbeats 4000000 in
theorem b114 (p:Prop) (hp:Decidable p) (m:Nat) (q:Prop) (hq:Decidable q) (n:Nat) (hm:m<B6^110) (hn:n<B6^110) (hpm:p→0<m) (hqn:q→0<n):
  body Tryz.prog [c147,c146,c144] {} false Tryz.f163 [.agg [.bl p hp,Ls (aB B6 m)],.agg [.bl q hq,Ls (aB B6 n)]] (.agg [.bl (addS p m q n) inferInstance,Ls (aB B6 (addN p m q n))]):=by
 have im:InB B6 (aB B6 m):=aQ (by decide) m
 have jn:InB B6 (aB B6 n):=aQ (by decide) n
 have lm:=eK hm
 have ln:=eK hn
 have vm:=v6 m
 have vn:=v6 n
 skip
 refine Own.l ?_
 skip
 (refine Br.mk (fun _=>?_) (fun _=>?_))
 ·rename_i h
  have e1:p↔addS p m q n:=by
   unfold addS addP addN
   rw[if_pos h]
   constructor
   ·intro hp'
    have:=hpm hp'
    exact ⟨.inl ⟨.inl h,hp'⟩,by omega⟩
   ·rintro ⟨h1 | h1,_⟩
    ·exact h1.2
    ·exact absurd (.inl h) h1.1
  have e2:(valB B6 (aB B6 m)+valB B6 (aB B6 n)).toNat=addN p m q n:=by unfold addN;rw[if_pos h];omega
  (repeat'((conv=>whnf);first|(apply Pin.mk;apply Exists.intro)|apply Pinned.mk rfl rfl|fail))
  refine Need.mk ⟨im,jn,by omega,by omega⟩ ?_
  (repeat'((conv=>whnf);first|apply Pinned.mk rfl rfl|fail))
  (conv=>whnf)
  (repeat'(first|exact trivial|refine And.intro ?_ ?_|fail))
  ·exact e1
  ·skip
   exact congrArg (aB B6) e2
 ·rename_i h
  have hc:=yD (B:=B6) (by decide) m n
  skip
  refine Need.mk ⟨im,jn⟩ ?_
  skip
  (refine Br.mk (fun _=>?_) (fun _=>?_))
  ·rename_i hg
   have hlt:m<n:=by
    refine aN1 hc ?_
    omega
   have e2:(valB B6 (aB B6 n)-valB B6 (aB B6 m)).toNat=addN p m q n:=by unfold addN;rw[if_neg h,if_neg (by omega)];omega
   have e0:addN p m q n≠0:=by omega
   have e1:q↔addS p m q n:=by
    have hnle:¬n≤m:=by omega
    unfold addS addP
    simp[e0,h,hnle]
   have ll:=dJ (Nat.le_of_lt hlt)
   have hN:InB B6 (aB B6 n)∧InB B6 (aB B6 m)∧valB B6 (aB B6 m)≤valB B6 (aB B6 n)∧(aB B6 m).length≤(aB B6 n).length∧(aB B6 n).length≤100000:=⟨jn,im,by omega,ll,by omega⟩
   have hne:¬((aB B6 (valB B6 (aB B6 n)-valB B6 (aB B6 m)).toNat).length:Int)=0:=by
    rw[e2]
    intro h'
    exact e0 ((iO _).1 (by omega))
   (repeat'((conv=>whnf);first|refine Zg fun _=>?_|refine Zn ?_|(apply Pin.mk;apply Exists.intro)|apply Pinned.mk rfl rfl|exact Zf|refine Zc ?_ ?_|refine Zm ?_|fail))
   (conv=>whnf)
   (repeat'(first|exact trivial|refine And.intro ?_ ?_|fail))
   ·exact e1
   ·skip
    exact congrArg (aB B6) e2
  ·rename_i hg
   have hle:n≤m:=by
    refine aN0 hc ?_
    omega
   have e2:(valB B6 (aB B6 m)-valB B6 (aB B6 n)).toNat=addN p m q n:=by unfold addN;rw[if_neg h,if_pos hle];omega
   have ll:=dJ hle
   have hN:InB B6 (aB B6 m)∧InB B6 (aB B6 n)∧valB B6 (aB B6 n)≤valB B6 (aB B6 m)∧(aB B6 n).length≤(aB B6 m).length∧(aB B6 m).length≤100000:=⟨im,jn,by omega,ll,by omega⟩
   (repeat'((conv=>whnf);first|refine Zg fun _=>?_|refine Zn ?_|(apply Pin.mk;apply Exists.intro)|apply Pinned.mk rfl rfl|exact Zf|refine Zc ?_ ?_|fail))
   (refine Br.mk (fun _=>?_) (fun _=>?_))
   ·rename_i hz
    have e0:addN p m q n=0:=by
     rw[e2] at hz
     exact (iO _).1 (by omega)
    skip
    (conv=>whnf)
    (repeat'(first|exact trivial|refine And.intro ?_ ?_|fail))
    ·exact fun h'=>h'.2 e0
    ·skip
     exact congrArg (aB B6) e2
   ·rename_i hz
    have e0:addN p m q n≠0:=fun h'=>hz (by rw[e2,h',aV];rfl)
    have e1:p↔addS p m q n:=by
     unfold addS addP
     simp[e0,h,hle]
    skip
    (conv=>whnf)
    (repeat'(first|exact trivial|refine And.intro ?_ ?_|fail))
    ·exact e1
    ·skip
     exact congrArg (aB B6) e2
def qH (p:Prop) (a:List Int):Prop:=dP a∧(valB B6 a).toNat<B6^110∧(p→0<(valB B6 a).toNat)
def c114:Con:=aJ 163 false fun args K=>match args with
 | [.agg [.bl p hp,.seq (.int .i64) a],.agg [.bl q hq,.seq (.int .i64) b]]=>Need (qH p a∧qH q b) (K (.agg [.bl (@addS p (valB B6 a).toNat q (valB B6 b).toNat hp hq) inferInstance,Ls (aB B6 (@addN p hp (valB B6 a).toNat q hq (valB B6 b).toNat))]))
 | _=>False
theorem k114:aF Tryz.prog c114:=by
 refine aC rfl (enters_of Tryz.func163 (by kernel_rfl) rfl) ?_
 intro args K h
 simp only[c114] at h
 split at h
 ·rename_i p hp a q hq b
  refine ⟨_,h.go,?_⟩
  obtain ⟨⟨ha,hm,hpm⟩,hb,hn,hqn⟩:=h.ok
  have ht:=aA (Γ:=[c147,c146,c144]) (by simp[k147,k146,k144]) Tryz.func163 (by simp[Tryz.ntmps163]) rfl (b114 p hp (valB B6 a).toNat q hq (valB B6 b).toNat hm hn hpm hqn)
  rw[ha,hb] at ht
  exact ht
 ·exact h.elim
theorem aLf {n:Int} (h:lim n=true):chkI (itoa n)=4:=by
 rw[gO (eH n),bR]
 unfold lim at h
 rw[if_pos (by simpa using h)]
theorem b115 (p:Prop) (hp:Decidable p) (a:List Int) (h:dP a∧a.length≤200):body Tryz.prog [c116,c139] {} true Tryz.f198 [.agg [.bl p hp,Ls a]] (.tup [S (resI (sgP p (valB B6 a))).1,I (resI (sgP p (valB B6 a))).2]):=by
 cases hl:lim (sgP p (valB B6 a)) with
 | true=>
  have e1:=aLf hl
  have e2:resI (sgP p (valB B6 a))=([],4):=by unfold resI;rw[if_pos hl]
  rw[e2]
  (repeat'((conv=>whnf);first|refine Zn ?_|fail))
  refine Br.mkY (show ¬chkI (itoa (sgP p (valB B6 a)))=0 by rw[e1];decide) ?_
  skip
  (conv=>whnf)
  (repeat'(first|exact trivial|rfl|refine And.intro ?_ ?_|fail))
 | false=>
  have e1:=aS hl
  have e2:resI (sgP p (valB B6 a))=(itoa (sgP p (valB B6 a)),0):=by unfold resI;rw[if_neg (by rw[hl];decide)]
  rw[e2]
  (repeat'((conv=>whnf);first|refine Zn ?_|fail))
  refine Br.mkN (show ¬ ¬chkI (itoa (sgP p (valB B6 a)))=0 by rw[e1];simp) ?_
  skip
  (conv=>whnf)
  (repeat'(first|exact trivial|rfl|refine And.intro ?_ ?_|fail))
def c115:Con:=aJ 198 true fun args K=>match args with
 | [.agg [.bl p hp,.seq (.int .i64) a]]=>Need (dP a∧a.length≤200) (K (.tup [S (resI (@sgP p hp (valB B6 a))).1,I (resI (@sgP p hp (valB B6 a))).2]))
 | [.agg [.val (.bool false),.seq (.int .i64) a]]=>Need (dP a∧a.length≤200) (K (.tup [S (resI (valB B6 a)).1,I (resI (valB B6 a)).2]))
 | _=>False
theorem k115:aF Tryz.prog c115:=by
 refine aC rfl (enters_of Tryz.func198 (by kernel_rfl) rfl) ?_
 intro args K h
 simp only[c115] at h
 split at h
 ·rename_i p hp a
  exact ⟨_,h.go,aA (Γ:=[c116,c139]) (by simp[k116,k139]) Tryz.func198 (by simp[Tryz.ntmps198]) rfl (b115 p hp a h.ok)⟩
 ·rename_i a
  refine ⟨_,h.go,?_⟩
  have ht:=aA (Γ:=[c116,c139]) (by simp[k116,k139]) Tryz.func198 (by simp[Tryz.ntmps198]) rfl (b115 False inferInstance a h.ok)
  refine xM (args:=[.agg [.bl False inferInstance,Ls a]]) ht ⟨⟨fun h=>h,?_,trivial⟩,trivial⟩
  rfl
 ·exact h.elim
set_option maxHeartbeats 4000000 in
theorem b153 (p:Prop) (hp:Decidable p) (m:Nat) (q:Prop) (hq:Decidable q) (n:Nat) (hm:m<B6^110) (hn:n<B6^110):
  body Tryz.prog [c145] {} false Tryz.f200 [.agg [.bl p hp,Ls (aB B6 m)],.agg [.bl q hq,Ls (aB B6 n)]] (.agg [.bl (¬(p↔q)∧m*n≠0) inferInstance,Ls (aB B6 (m*n))]):=by
 have im:InB B6 (aB B6 m):=aQ (by decide) m
 have jn:InB B6 (aB B6 n):=aQ (by decide) n
 have lm:=eK hm
 have ln:=eK hn
 have vm:=v6 m
 have vn:=v6 n
 have e2:(valB B6 (aB B6 m)*valB B6 (aB B6 n)).toNat=m*n:=by rw[vm,vn,← Int.natCast_mul,Int.toNat_natCast]
 have hN:InB B6 (aB B6 m)∧InB B6 (aB B6 n)∧(aB B6 m).length≤100000∧(aB B6 n).length≤100000:=⟨im,jn,by omega,by omega⟩
 skip
 refine Own.l ?_
 (repeat'((conv=>whnf);first|refine Zg fun _=>?_|refine Zn ?_|(apply Pin.mk;apply Exists.intro)|apply Pinned.mk rfl rfl|exact Zf|refine Zc ?_ ?_|fail))
 (refine Br.mk (fun _=>?_) (fun _=>?_))
 ·rename_i hz
  have e0:m*n=0:=by
   rw[e2] at hz
   exact (iO _).1 (by omega)
  skip
  (conv=>whnf)
  (repeat'(first|exact trivial|refine And.intro ?_ ?_|fail))
  ·exact fun h'=>h'.2 e0
  ·skip
   exact congrArg (aB B6) e2
 ·rename_i hz
  have e0:m*n≠0:=fun h'=>hz (by rw[e2,h',aV];rfl)
  skip
  (conv=>whnf)
  (repeat'(first|exact trivial|refine And.intro ?_ ?_|fail))
  ·exact ⟨fun h'=>⟨h',e0⟩,fun h'=>h'.1⟩
  ·skip
   exact congrArg (aB B6) e2
def c153:Con:=aJ 200 false fun args K=>match args with
 | [.agg [.bl p hp,.seq (.int .i64) a],.agg [.bl q hq,.seq (.int .i64) b]]=>Need (qH p a∧qH q b) (K (.agg [.bl (¬(p↔q)∧(valB B6 a).toNat*(valB B6 b).toNat≠0) inferInstance,Ls (aB B6 ((valB B6 a).toNat*(valB B6 b).toNat))]))
 | _=>False
theorem k153:aF Tryz.prog c153:=by
 refine aC rfl (enters_of Tryz.func200 (by kernel_rfl) rfl) ?_
 intro args K h
 simp only[c153] at h
 split at h
 ·rename_i p hp a q hq b
  refine ⟨_,h.go,?_⟩
  obtain ⟨⟨ha,hm,hpm⟩,hb,hn,hqn⟩:=h.ok
  have ht:=aA (Γ:=[c145]) (by simp[k145]) Tryz.func200 (by simp[Tryz.ntmps200]) rfl (b153 p hp (valB B6 a).toNat q hq (valB B6 b).toNat hm hn)
  rw[ha,hb] at ht
  exact ht
 ·exact h.elim
theorem b121 (p:Prop) (hp:Decidable p) (m:Nat) (hpm:p→0<m):body Tryz.prog [] {} false Tryz.f165 [.agg [.bl p hp,Ls (aB B6 m)]] (.agg [.bl (¬p∧m≠0) inferInstance,Ls (aB B6 m)]):=by
 skip
 refine Own.l ?_
 (repeat'((conv=>whnf);first|refine Zg fun _=>?_|fail))
 (refine Br.mk (fun _=>?_) (fun _=>?_))
 ·rename_i hz
  have e0:m=0:=(iO _).1 (by omega)
  skip
  (conv=>whnf)
  (repeat'(first|exact trivial|rfl|refine And.intro ?_ ?_|fail))
  (conv=>whnf)
  exact ⟨fun h'=>by have:=hpm h';omega,fun h'=>absurd e0 h'.2⟩
 ·rename_i hz
  have e0:m≠0:=fun h'=>hz (by rw[h',aV];rfl)
  skip
  (conv=>whnf)
  (repeat'(first|exact trivial|rfl|refine And.intro ?_ ?_|fail))
  (conv=>whnf)
  exact ⟨fun h'=>⟨h',e0⟩,fun h'=>h'.1⟩
def c121:Con:=aJ 165 false fun args K=>match args with
 | [.agg [.bl p hp,.seq (.int .i64) a]]=>Need (qH p a) (K (.agg [.bl (¬p∧(valB B6 a).toNat≠0) inferInstance,Ls a]))
 | _=>False
theorem k121:aF Tryz.prog c121:=by
 refine aC rfl (enters_of Tryz.func165 (by kernel_rfl) rfl) ?_
 intro args K h
 simp only[c121] at h
 split at h
 ·rename_i p hp a
  refine ⟨_,h.go,?_⟩
  obtain ⟨ha,hm,hpm⟩:=h.ok
  have ht:=aA (Γ:=[]) (by simp) Tryz.func165 (by simp[Tryz.ntmps165]) rfl (b121 p hp (valB B6 a).toNat hpm)
  rw[ha] at ht
  exact ht
 ·exact h.elim
theorem dT {s:List UInt8} (h:form s) (hl:(digs s).length≤300):qH (s.headD 0=45) (aB B6 (aD (digs s))):=by
 refine ⟨dK _,?_,?_⟩
 ·rw[v6,Int.toNat_natCast]
  exact Nat.lt_of_lt_of_le (fY h hl) (Nat.pow_le_pow_right (by decide) (by omega))
 ·intro hm
  rw[v6,Int.toNat_natCast]
  refine Nat.pos_of_ne_zero fun e=>?_
  have h1:=xH.1 h
  have h2:valI s=0:=by rw[cU,e];unfold sgP;split<;>rfl
  rw[h2,itoa_zero] at h1
  rw[h1] at hm
  revert hm;decide
theorem aP5 (a b:List UInt8):sgP (addS (a.headD 0=45) (valB B6 (aB B6 (aD (digs a)))).toNat (b.headD 0=45) (valB B6 (aB B6 (aD (digs b)))).toNat) (valB B6 (aB B6 (addN (a.headD 0=45) (valB B6 (aB B6 (aD (digs a)))).toNat (b.headD 0=45) (valB B6 (aB B6 (aD (digs b)))).toNat)))=valI a+valI b:=by
 simp only[v6,Int.toNat_natCast,aFv,cU]
theorem aP6 (p:Prop) [Decidable p] (m:Nat) (q:Prop) [Decidable q] (n:Nat):addN p m q n≤m+n:=by
 unfold addN;split
 ·omega
 ·split<;>omega
theorem aOe {p q:Prop} [Decidable p] [Decidable q] {m n:Nat} (hm:m<B6^110) (hn:n<B6^110):dP (aB B6 (addN p m q n))∧(aB B6 (addN p m q n)).length≤200:=by
 refine ⟨dK _,?_⟩
 have h1:=aP6 p m q n
 have h2:B6^111=B6^110*B6:=Nat.pow_succ ..
 have h3:B6^110*2≤B6^110*B6:=Nat.mul_le_mul_left _ (by decide)
 have:=eK (m:=addN p m q n) (k:=111) (by omega)
 omega
theorem b103 (a b:List UInt8):body Tryz.prog [c110,c111,c61,c112,c114,c115] {} true Tryz.f150 [S a,S b] (.tup [S (bB a b (resI (valI a+valI b))).1,I (bB a b (resI (valI a+valI b))).2]):=by
 unfold bB
 skip
 (refine Br.mk (fun _=>?_) (fun _=>?_))
 ·rename_i h
  rw[if_pos h]
  skip
  (conv=>whnf)
  (repeat'(first|exact trivial|rfl|refine And.intro ?_ ?_|fail))
 ·rename_i h
  rw[if_neg h]
  obtain ⟨ha,hb⟩:=fG h
  obtain ⟨fa,la⟩:=bE ha
  obtain ⟨fb,lb⟩:=bE hb
  have zA:=dT fa la
  have zB:=dT fb lb
  have hv:=aP5 a b
  skip
  refine Need.mk ⟨fa,fb⟩ ?_
  skip
  (refine Br.mk (fun _=>?_) (fun _=>?_))
  ·rename_i hs
   have h1:=gG fa hs.1
   have h2:=gG fb hs.2
   rw[dZ (by omega)]
   (repeat'((conv=>whnf);first|refine Zn ?_|fail))
   (conv=>whnf)
   (repeat'(first|exact trivial|rfl|refine And.intro ?_ ?_|fail))
  ·have tail:∀x:Nat,True:=fun _=>trivial
   (refine Br.mk (fun _=>?_) (fun _=>?_))
   all_goals
    skip
    refine Need.mk ⟨fa,by omega⟩ ?_
    skip
    refine Need.mk ⟨fb,by omega⟩ ?_
    skip
    refine Need.mk ⟨zA,zB⟩ ?_
    skip
    refine Need.mk (aOe zA.2.1 zB.2.1) ?_
    skip
    (conv=>whnf)
    (repeat'(first|exact trivial|rfl|refine And.intro ?_ ?_|fail))
    ·exact congrArg (fun z=>(resI z).1) hv
    ·exact congrArg (fun z=>(resI z).2) hv
def c103:Con:=aJ 150 true fun args K=>match args with | [.str a,.str b]=>K (.tup [S (bB a b (resI (valI a+valI b))).1,I (bB a b (resI (valI a+valI b))).2]) | _=>False
theorem k103:aF Tryz.prog c103:=by
 refine aC rfl (enters_of Tryz.func150 (by kernel_rfl) rfl) ?_
 intro args K h
 simp only[c103] at h
 split at h
 ·rename_i a b;exact ⟨_,h,aA (Γ:=[c110,c111,c61,c112,c114,c115]) (by simp[k110,k111,k61,k112,k114,k115]) Tryz.func150 (by simp[Tryz.ntmps150]) rfl (b103 a b)⟩
 ·exact h.elim
theorem aOf (p q:Prop) [Decidable p] [Decidable q] (m n:Nat):sgP (¬(p↔q)∧m*n≠0) ((m*n:Nat):Int)=sgP p m*sgP q n:=by
 rw[← aI6,← Int.natCast_mul]
 unfold sgP
 by_cases h:m*n=0
 ·simp[h]
 ·simp[h]
theorem aP7 (a b:List UInt8):sgP (¬(a.headD 0=45↔b.headD 0=45)∧(valB B6 (aB B6 (aD (digs a)))).toNat*(valB B6 (aB B6 (aD (digs b)))).toNat≠0) (valB B6 (aB B6 ((valB B6 (aB B6 (aD (digs a)))).toNat*(valB B6 (aB B6 (aD (digs b)))).toNat)))=valI a*valI b:=by
 rw[v6 ((valB B6 (aB B6 (aD (digs a)))).toNat*(valB B6 (aB B6 (aD (digs b)))).toNat),aOf]
 simp only[v6,Int.toNat_natCast,cU]
theorem aOg {a b:List UInt8} (fa:form a) (la:(digs a).length≤300) (fb:form b) (lb:(digs b).length≤300):dP (aB B6 ((valB B6 (aB B6 (aD (digs a)))).toNat*(valB B6 (aB B6 (aD (digs b)))).toNat))∧(aB B6 ((valB B6 (aB B6 (aD (digs a)))).toNat*(valB B6 (aB B6 (aD (digs b)))).toNat)).length≤200:=by
 refine ⟨dK _,?_⟩
 rw[v6,v6,Int.toNat_natCast,Int.toNat_natCast]
 have h3:=Nat.mul_lt_mul'' (fY fa la) (fY fb lb)
 rw[← Nat.pow_add] at h3
 have:=eK h3
 omega
theorem b120 (a b:List UInt8):body Tryz.prog [c110,c111,c61,c112,c153,c115] {} true Tryz.f160 [S a,S b] (.tup [S (bB a b (resI (valI a*valI b))).1,I (bB a b (resI (valI a*valI b))).2]):=by
 unfold bB
 skip
 (refine Br.mk (fun _=>?_) (fun _=>?_))
 ·rename_i h
  rw[if_pos h]
  skip
  (conv=>whnf)
  (repeat'(first|exact trivial|rfl|refine And.intro ?_ ?_|fail))
 ·rename_i h
  rw[if_neg h]
  obtain ⟨ha,hb⟩:=fG h
  obtain ⟨fa,la⟩:=bE ha
  obtain ⟨fb,lb⟩:=bE hb
  have zA:=dT fa la
  have zB:=dT fb lb
  have hv:=aP7 a b
  have hl:=aOg fa la fb lb
  have hab:form a∧form b:=⟨fa,fb⟩
  have hza:=And.intro zA zB
  have ra:form a∧(digs a).length≤600:=⟨fa,by omega⟩
  have rb:form b∧(digs b).length≤600:=⟨fb,by omega⟩
  (repeat'((conv=>whnf);first|refine Zn ?_|fail))
  (refine Br.mk (fun _=>?_) (fun _=>?_))
  ·rename_i hs
   (repeat'((conv=>whnf);first|refine Zg fun _=>?_|refine Zn ?_|fail))
   (refine Br.mk (fun _=>?_) (fun _=>?_))
   ·rename_i hs2
    have hm:=aAm fa fb (by omega)
    rw[dZ (by omega)]
    (repeat'((conv=>whnf);first|refine Zn ?_|fail))
    (conv=>whnf)
    (repeat'(first|exact trivial|rfl|refine And.intro ?_ ?_|fail))
   ·(repeat'((conv=>whnf);first|refine Zn ?_|fail))
    (conv=>whnf)
    (repeat'(first|exact trivial|rfl|refine And.intro ?_ ?_|fail))
    ·exact congrArg (fun z=>(resI z).1) hv
    ·exact congrArg (fun z=>(resI z).2) hv
  ·(refine Br.mk (fun _=>?_) (fun _=>?_))
   all_goals
    (repeat'((conv=>whnf);first|refine Zn ?_|fail))
    (conv=>whnf)
    (repeat'(first|exact trivial|rfl|refine And.intro ?_ ?_|fail))
    ·exact congrArg (fun z=>(resI z).1) hv
    ·exact congrArg (fun z=>(resI z).2) hv
def c120:Con:=aJ 160 true fun args K=>match args with | [.str a,.str b]=>K (.tup [S (bB a b (resI (valI a*valI b))).1,I (bB a b (resI (valI a*valI b))).2]) | _=>False
theorem k120:aF Tryz.prog c120:=by
 refine aC rfl (enters_of Tryz.func160 (by kernel_rfl) rfl) ?_
 intro args K h
 simp only[c120] at h
 split at h
 ·rename_i a b;exact ⟨_,h,aA (Γ:=[c110,c111,c61,c112,c153,c115]) (by simp[k110,k111,k61,k112,k153,k115]) Tryz.func160 (by simp[Tryz.ntmps160]) rfl (b120 a b)⟩
 ·exact h.elim
theorem aOh (p:Prop) [Decidable p] (m:Nat):sgP (¬p∧m≠0) (m:Int)= -sgP p m:=by
 unfold sgP
 by_cases h:m=0
 ·simp[h]
 ·by_cases hp:p<;>simp[h,hp]
theorem aP8 (a b:List UInt8):sgP (addS (a.headD 0=45) (valB B6 (aB B6 (aD (digs a)))).toNat (¬b.headD 0=45∧(valB B6 (aB B6 (aD (digs b)))).toNat≠0) (valB B6 (aB B6 (aD (digs b)))).toNat) (addN (a.headD 0=45) (valB B6 (aB B6 (aD (digs a)))).toNat (¬b.headD 0=45∧(valB B6 (aB B6 (aD (digs b)))).toNat≠0) (valB B6 (aB B6 (aD (digs b)))).toNat)=valI a-valI b:=by
 rw[aFv,aOh]
 simp only[v6,Int.toNat_natCast,cU]
 omega
theorem b82 (a b:List UInt8) (h:chkI a=0∧chkI b=0):body Tryz.prog [c110,c111,c112,c121,c114] {} true Tryz.f107 [S a,S b] (.tup [I (cmpI (valI a) (valI b)),I 0]):=by
 obtain ⟨ha,hb⟩:=h
 obtain ⟨fa,la⟩:=bE ha
 obtain ⟨fb,lb⟩:=bE hb
 have zA:=dT fa la
 have zB:=dT fb lb
 have hab:form a∧form b:=⟨fa,fb⟩
 have ra:form a∧(digs a).length≤600:=⟨fa,by omega⟩
 have rb:form b∧(digs b).length≤600:=⟨fb,by omega⟩
 have hc2:¬chk2 a b≠0:=by
  unfold chk2
  rw[if_neg (by rw[ha];simp),hb];simp
 have zB':qH (¬b.headD 0=45∧(valB B6 (aB B6 (aD (digs b)))).toNat≠0) (aB B6 (aD (digs b))):=⟨zB.1,zB.2.1,fun h=>Nat.pos_of_ne_zero h.2⟩
 have hv:=aP8 a b
 skip
 refine Br.mkN (show ¬ ¬chk2 a b=0 from hc2) ?_
 (repeat'((conv=>whnf);first|refine Zn ?_|fail))
 (refine Br.mk (fun _=>?_) (fun _=>?_))
 ·rename_i hs
  skip
  (refine Br.mk (fun _=>?_) (fun _=>?_))
  ·rename_i h1
   skip
   (conv=>whnf)
   (repeat'(first|exact trivial|rfl|refine And.intro ?_ ?_|fail))
   unfold cmpI;rw[if_pos h1]
  ·rename_i h1
   skip
   (refine Br.mk (fun _=>?_) (fun _=>?_))
   ·rename_i h2
    skip
    (conv=>whnf)
    (repeat'(first|exact trivial|rfl|refine And.intro ?_ ?_|fail))
    unfold cmpI;rw[if_neg h1,if_neg (by omega)]
   ·rename_i h2
    skip
    (conv=>whnf)
    (repeat'(first|exact trivial|rfl|refine And.intro ?_ ?_|fail))
    unfold cmpI;rw[if_neg h1,if_pos (by omega)]
 ·(refine Br.mk (fun _=>?_) (fun _=>?_))
  all_goals
   (repeat'((conv=>whnf);first|refine Zn ?_|fail))
   refine Need.mk ⟨zA,zB'⟩ ?_
   (repeat'((conv=>whnf);first|refine Zg fun _=>?_|refine Zl ?_|fail))
   (refine Br.mk (fun _=>?_) (fun _=>?_))
   ·rename_i hz
    have e0:addN (a.headD 0=45) (valB B6 (aB B6 (aD (digs a)))).toNat (¬b.headD 0=45∧(valB B6 (aB B6 (aD (digs b)))).toNat≠0) (valB B6 (aB B6 (aD (digs b)))).toNat=0:=(iO _).1 (by omega)
    have e1:valI a-valI b=0:=by
     rw[← hv,e0]
     unfold sgP;split<;>rfl
    skip
    (conv=>whnf)
    (repeat'(first|exact trivial|rfl|refine And.intro ?_ ?_|fail))
    unfold cmpI
    rw[if_neg (by omega),if_pos (by omega)]
   ·rename_i hz
    have e0:addN (a.headD 0=45) (valB B6 (aB B6 (aD (digs a)))).toNat (¬b.headD 0=45∧(valB B6 (aB B6 (aD (digs b)))).toNat≠0) (valB B6 (aB B6 (aD (digs b)))).toNat≠0:=fun h'=>hz (by rw[h',aV];rfl)
    skip
    (refine Br.mk (fun _=>?_) (fun _=>?_))
    ·rename_i hs
     have e1:valI a-valI b<0:=by
      rw[← hv]
      unfold sgP
      rw[if_pos hs]
      omega
     skip
     (conv=>whnf)
     (repeat'(first|exact trivial|rfl|refine And.intro ?_ ?_|fail))
     unfold cmpI
     rw[if_pos (by omega)]
    ·rename_i hs
     have e1:0<valI a-valI b:=by
      rw[← hv]
      unfold sgP
      rw[if_neg hs]
      omega
     skip
     (conv=>whnf)
     (repeat'(first|exact trivial|rfl|refine And.intro ?_ ?_|fail))
     unfold cmpI
     rw[if_neg (by omega),if_neg (by omega)]
def c82:Con:=aJ 107 true fun args K=>match args with | [.str a,.str b]=>Need (chkI a=0∧chkI b=0) (K (.tup [I (cmpI (valI a) (valI b)),I 0])) | _=>False
theorem k82:aF Tryz.prog c82:=by
 refine aC rfl (enters_of Tryz.func107 (by kernel_rfl) rfl) ?_
 intro args K h
 simp only[c82] at h
 split at h
 ·rename_i a b;exact ⟨_,h.go,aA (Γ:=[c110,c111,c112,c121,c114]) (by simp[k110,k111,k112,k121,k114]) Tryz.func107 (by simp[Tryz.ntmps107]) rfl (b82 a b h.ok)⟩
 ·exact h.elim
theorem b71 (a b:List UInt8) (h:chkI a=0∧chkI b=0∧0<valI b∧valI b ∣ valI a):body Tryz.prog [c110,c111,c61,c112,c113,c115,c116] {} true Tryz.f199 [S a,S b] (.tup [S (itoa (valI a/valI b)),.any,I 0]):=by
 obtain ⟨ha,hb,hpos,hdv⟩:=h
 obtain ⟨fa,la⟩:=bE ha
 obtain ⟨fb,lb⟩:=bE hb
 have zA:=dT fa la
 have zB:=dT fb lb
 have hab:form a∧form b:=⟨fa,fb⟩
 have ra:form a∧(digs a).length≤600:=⟨fa,by omega⟩
 have rb:form b∧(digs b).length≤600:=⟨fb,by omega⟩
 have hc2:¬chk2 a b≠0:=by
  unfold chk2
  rw[if_neg (by rw[ha];simp),hb];simp
 have hb0:¬b= [48]:=fun e=>by rw[e] at hpos;revert hpos;decide
 have hr0:valI a%valI b=0:=Int.emod_eq_zero_of_dvd hdv
 have hbn:¬b.headD 0=45:=fun e=>by
  rw[cU] at hpos
  unfold sgP at hpos
  rw[if_pos e] at hpos
  omega
 have vb:valI b=(aD (digs b):Int):=by rw[cU];unfold sgP;rw[if_neg hbn]
 skip
 refine Br.mkN (show ¬ ¬chk2 a b=0 from hc2) ?_
 skip
 refine Br.mkN hb0 ?_
 (repeat'((conv=>whnf);first|refine Zn ?_|fail))
 (refine Br.mk (fun _=>?_) (fun _=>?_))
 ·rename_i hs
  have h1:=gG fa hs.1
  have h2:=gG fb hs.2
  have t1:(valI a).tmod (valI b)=0:=by
   have:=Int.dvd_iff_tmod_eq_zero.1 hdv
   exact this
  have t2:(valI a).tdiv (valI b)=valI a/valI b:=Int.tdiv_eq_ediv_of_dvd hdv
  have t3:(valI a/valI b).natAbs≤(valI a).natAbs:=Int.natAbs_ediv_le_natAbs _ _
  (repeat'((conv=>whnf);first|refine Zb ?_|refine Zn ?_|(apply Pin.mk;apply Exists.intro)|apply Pinned.mk rfl rfl|fail))
  refine Br.mkN (show ¬ ¬(valI a).tmod (valI b)=0 by rw[t1];simp) ?_
  skip
  (conv=>whnf)
  (repeat'(first|exact trivial|rfl|refine And.intro ?_ ?_|fail))
  exact congrArg itoa t2
 ·have e6:=v6 (aD (digs b))
  have e6a:=v6 (aD (digs a))
  have nb:=fY fb lb
  have na:=fY fa la
  have hNb:0<aD (digs b):=by omega
  have hN:InB B6 (aB B6 (aD (digs a)))∧dP (aB B6 (aD (digs b)))∧(0<(valB B6 (aB B6 (aD (digs b)))).toNat∧(valB B6 (aB B6 (aD (digs b)))).toNat<B6^100)∧(aB B6 (aD (digs a))).length≤1000:=
   ⟨aQ (by decide) _,dK _,⟨by omega,by rw[e6,Int.toNat_natCast];exact Nat.lt_of_lt_of_le nb (Nat.pow_le_pow_right (by decide) (by decide))⟩,by have:=eK na;omega⟩
  have hA:valI a=if a.headD 0=45 then -(aD (digs a):Int) else (aD (digs a):Int):=by
   rw[cU];unfold sgP;rfl
  have hd:(aD (digs b):Int) ∣ (aD (digs a):Int):=by
   rw[← vb]
   rw[hA] at hdv
   split at hdv
   ·exact Int.dvd_neg.1 hdv
   ·exact hdv
  have hR:aB B6 (valB B6 (aB B6 (aD (digs a)))%valB B6 (aB B6 (aD (digs b)))).toNat= []:=by
   rw[e6,e6a,Int.emod_eq_zero_of_dvd hd]
   exact aV _
  have hQ:aB B6 (valB B6 (aB B6 (aD (digs a)))/valB B6 (aB B6 (aD (digs b)))).toNat=aB B6 (aD (digs a)/aD (digs b)):=by
   rw[e6,e6a,← Int.natCast_ediv,Int.toNat_natCast]
  have hq2:dP (aB B6 (valB B6 (aB B6 (aD (digs a)))/valB B6 (aB B6 (aD (digs b)))).toNat)∧(aB B6 (valB B6 (aB B6 (aD (digs a)))/valB B6 (aB B6 (aD (digs b)))).toNat).length≤200:=by
   rw[hQ]
   refine ⟨dK _,?_⟩
   have:=eK (m:=aD (digs a)/aD (digs b)) (k:=50) (Nat.lt_of_le_of_lt (Nat.div_le_self _ _) na)
   omega
  have hr2:dP (aB B6 (valB B6 (aB B6 (aD (digs a)))%valB B6 (aB B6 (aD (digs b)))).toNat)∧(aB B6 (valB B6 (aB B6 (aD (digs a)))%valB B6 (aB B6 (aD (digs b)))).toNat).length≤200:=by
   rw[hR];exact ⟨by rw[← aV B6];exact dK 0,by simp⟩
  have hrl:¬(0:Int)<((aB B6 (valB B6 (aB B6 (aD (digs a)))%valB B6 (aB B6 (aD (digs b)))).toNat).length:Int):=by rw[hR];simp
  have hres:resI (valI a/valI b)=(itoa (valI a/valI b),0):=by
   unfold resI
   rw[if_neg]
   have h1:(valI a/valI b).natAbs≤(valI a).natAbs:=Int.natAbs_ediv_le_natAbs _ _
   have h2:(valI a).natAbs<10^ (digs a).length:=by
    have:=cD (digs a) fa.2.2
    rw[hA];split<;>omega
   have h3:=dB la
   rw[bK (k:=300) ⟨by decide,by decide⟩ (Nat.lt_of_le_of_lt h1 (Nat.lt_of_lt_of_le h2 h3))]
   decide
  have vq:valB B6 (aB B6 (valB B6 (aB B6 (aD (digs a)))/valB B6 (aB B6 (aD (digs b)))).toNat)=((aD (digs a)/aD (digs b):Nat):Int):=by rw[hQ,v6]
  have hp1:a.headD 0=45→∀ [hD:Decidable ((0:Int)<((aB B6 (valB B6 (aB B6 (aD (digs a)))/valB B6 (aB B6 (aD (digs b)))).toNat).length:Int))],sgP ((0:Int)<((aB B6 (valB B6 (aB B6 (aD (digs a)))/valB B6 (aB B6 (aD (digs b)))).toNat).length:Int)) (valB B6 (aB B6 (valB B6 (aB B6 (aD (digs a)))/valB B6 (aB B6 (aD (digs b)))).toNat))=valI a/valI b:=by
   intro hp hD
   rw[vq]
   have e0:valI a/valI b= -((aD (digs a)/aD (digs b):Nat):Int):=by
    rw[hA,if_pos hp,vb,Int.neg_ediv_of_dvd hd,Int.natCast_ediv]
   unfold sgP
   split
   ·rw[e0]
   ·rename_i h0
    rw[hQ] at h0
    have:aD (digs a)/aD (digs b)=0:=(iO _).1 (by omega)
    rw[e0,this];rfl
  have hp0:¬a.headD 0=45→valB B6 (aB B6 (valB B6 (aB B6 (aD (digs a)))/valB B6 (aB B6 (aD (digs b)))).toNat)=valI a/valI b:=by
   intro hp
   rw[vq,hA,if_neg hp,vb,Int.natCast_ediv]
  (refine Br.mk (fun _=>?_) (fun _=>?_))
  all_goals
   (repeat'((conv=>whnf);first|refine Zn ?_|refine Zl ?_|fail))
   by_cases hp:a.headD 0=45
   ·refine Br.mkY (show ¬(a.headD 0=45↔b.headD 0=45) from fun h'=>hbn (h'.1 hp)) ?_
    (repeat'((conv=>whnf);first|refine Zg fun _=>?_|fail))
    refine Br.mkY hp ?_
    (repeat'((conv=>whnf);first|refine Zg fun _=>?_|refine Zl ?_|fail))
    refine Br.mkN hrl ?_
    (repeat'((conv=>whnf);first|refine Zn ?_|fail))
    refine Br.mkN (by rw[hp1 hp,hres];simp) ?_
    (repeat'((conv=>whnf);first|refine Zn ?_|fail))
    (conv=>whnf)
    (repeat'(first|exact trivial|rfl|refine And.intro ?_ ?_|fail))
    (conv=>whnf)
    rw[hp1 hp,hres]
   ·refine Br.mkN (show ¬ ¬(a.headD 0=45↔b.headD 0=45) from fun h'=>h' ⟨fun h=>absurd h hp,fun h=>absurd h hbn⟩) ?_
    skip
    refine Br.mkN hp ?_
    (repeat'((conv=>whnf);first|refine Zg fun _=>?_|refine Zl ?_|fail))
    refine Br.mkN hrl ?_
    (repeat'((conv=>whnf);first|refine Zn ?_|fail))
    refine Br.mkN (by rw[hp0 hp,hres];simp) ?_
    (repeat'((conv=>whnf);first|refine Zn ?_|fail))
    (conv=>whnf)
    (repeat'(first|exact trivial|rfl|refine And.intro ?_ ?_|fail))
    (conv=>whnf)
    rw[hp0 hp,hres]
def c71:Con:=aJ 199 true fun args K=>match args with | [.str a,.str b]=>Need (chkI a=0∧chkI b=0∧0<valI b∧valI b ∣ valI a) (K (.tup [S (itoa (valI a/valI b)),.any,I 0])) | _=>False
theorem k71:aF Tryz.prog c71:=by
 refine aC rfl (enters_of Tryz.func199 (by kernel_rfl) rfl) ?_
 intro args K h
 simp only[c71] at h
 split at h
 ·rename_i a b;exact ⟨_,h.go,aA (Γ:=[c110,c111,c61,c112,c113,c115,c116]) (by simp[k110,k111,k61,k112,k113,k115,k116]) Tryz.func199 (by simp[Tryz.ntmps199]) rfl (b71 a b h.ok)⟩
 ·exact h.elim
theorem aA7 (x:Nat):∀j,lowD x (j+1)=lowD (x/10) j++ [((48+x%10:Nat):Int)]
 | 0=>by simp[lowD]
 | j+1=>by
  rw[lowD,aA7 x j,lowD,List.cons_append]
  congr 3
  rw[Nat.pow_succ,Nat.mul_comm,Nat.div_div_eq_div_mul]
theorem aHk (a b:List Int):bH (a++b)=bH a++bH b:=by unfold bH;rw[List.map_append]
theorem aFw:∀(k x:Nat),x<10^ (k+1)→(k=0∨10^k≤x)→bH (lowD x (k+1))=decDigits x
 | 0,x,h,_=>by
  have h:x<10:=by simpa using h
  rw[dec1 h]
  show [UInt8.ofNat (((48+x/10^0%10:Nat):Int)).toNat]= _
  rw[Int.toNat_natCast,Nat.pow_zero,Nat.div_one,Nat.mod_eq_of_lt h]
 | k+1,x,h,h2=>by
  have h2:10^ (k+1)≤x:=h2.elim (fun h=>by omega) id
  have h10:10≤x:=Nat.le_trans (by rw[Nat.pow_succ];have:0<10^k:=Nat.pow_pos (by omega);omega) h2
  rw[aA7,aHk,aFw k (x/10) (by rw[Nat.pow_succ] at h;omega) (.inr (by rw[Nat.pow_succ] at h2;omega))]
  conv=>rhs;rw[decDigits,dif_neg (by omega)]
  rfl
def oD (x k:Nat):List Int:=List.replicate (20-k) 0++lowD x k
theorem aR4 {x k:Nat} (h:k≤20):(oD x k).length=20:=by
 simp only[oD,List.length_append,List.length_replicate,yA];omega
theorem aOi {x k:Nat} {v:Int} (h:k<20) (hv:v=((48+x/10^k%10:Nat):Int)):(oD x k).set (20-(k+1)) v=oD x (k+1):=by
 unfold oD
 obtain ⟨m,hm⟩:∃m,m=20-(k+1):=⟨_,rfl⟩
 rw[show 20-k=m+1 by omega,← hm,aFq,hv]
 rfl
theorem aP9 {x k:Nat} (h:k≤20):(oD x k).drop (20-k)=lowD x k:=by
 unfold oD
 rw[List.drop_left' (by simp)]
theorem b101 (n:Nat) (hn:n≤9223372036854775807):body Tryz.prog [] { asks:=[(0,[])] } true Tryz.f152 [I n] (S (decDigits n)):=by
 skip
 refine Need.mk ⟨by omega,by omega,by omega,show (20:Int)*((1:Nat):Int)≤140737488355328 by omega⟩ ?_
 (repeat'((conv=>whnf);first|refine Zg fun _=>?_|fail))
 refine Ask.mk ⟨{ X:=Nat,pre:=fun k=>k≤18∧(k=0∨10^k≤n),mod:=fun k _=>[(0,I ((n/10^k:Nat):Int)),(4,I (20-k))],heap:=fun k H=>[U (oD n k)],mu:=fun k=>20-k },rfl,?_⟩
 (repeat'((conv=>whnf);first|refine Zn ?_|fail))
 refine ⟨⟨(0:Nat),⟨by omega,.inl rfl⟩,?_⟩,fun (k:Nat) hk=>?_⟩
 ·(repeat'(first|exact trivial|rfl|refine And.intro ?_ ?_|omega|fail))
 obtain ⟨hk1,hk2⟩:=hk
 obtain ⟨q,hq⟩:∃q,n/10^k=q:=⟨_,rfl⟩
 have hq0:q≤n:=by rw[← hq];exact Nat.div_le_self _ _
 have tq:(q:Int).tmod 10=((q%10:Nat):Int):=by rw[Int.tmod_eq_emod_of_nonneg (by omega)];omega
 have dq:(q:Int).tdiv 10=((q/10:Nat):Int):=by rw[Int.tdiv_eq_ediv_of_nonneg (by omega)];omega
 have hq1:n/10^ (k+1)=q/10:=by rw[Nat.pow_succ,← Nat.div_div_eq_div_mul,hq]
 have hln:=aR4 (x:=n) (k:=k) (by omega)
 subst hq
 have hb1: -9223372036854775808≤((n/10^k:Nat):Int).tdiv 10∧((n/10^k:Nat):Int).tdiv 10≤9223372036854775807:=by
  rw[dq]
  have:n/10^k/10≤n/10^k:=Nat.div_le_self _ _
  omega
 (repeat'((conv=>whnf);first|refine Zb ?_|refine Zn ?_|fail))
 refine cF (20-(k+1)) (by omega) ?_
 (repeat'((conv=>whnf);first|refine Zb ?_|refine Zn ?_|fail))
 (refine Br.mk (fun _=>?_) (fun _=>?_))
 ·rename_i hz
  have hz:n/10^ (k+1)=0:=by omega
  have hlt:n<10^ (k+1):=by
   refine Nat.lt_of_not_le fun h=>?_
   have:=Nat.div_pos h (Nat.pow_pos (by omega))
   omega
  have hset:(oD n k).set (20-(k+1)) (48+((n/10^k:Nat):Int).tmod 10)=oD n (k+1):=by
   refine aOi (by omega) ?_
   rw[tq]
   omega
  (repeat'((conv=>whnf);first|refine Zn ?_|refine Zl ?_|fail))
  refine cF (20-(k+1)) (by omega) ?_
  skip
  (conv=>whnf)
  skip
  rw[hset,aP9 (by omega)]
  exact aFw k n hlt hk2
 ·rename_i hz
  have hz:n/10^ (k+1)≠0:=by omega
  have hp:0<10^ (k+1):=Nat.pow_pos (by omega)
  have hge:10^ (k+1)≤n:=Nat.le_of_not_lt fun h=>hz (Nat.div_eq_of_lt h)
  have hk17:k+1≤18:=by
   refine Nat.le_of_not_lt fun h=>?_
   have h1:10^19≤10^ (k+1):=dB (by omega)
   have h2:(10:Nat)^19=10000000000000000000:=by decide
   omega
  skip
  refine ⟨(k+1:Nat),by show 20-(k+1)<20-k;omega,⟨hk17,.inr hge⟩,?_⟩
  (repeat'(first|exact trivial|rfl|refine And.intro ?_ ?_|omega|fail))
  refine aOi (by omega) ?_
  rw[tq]
  omega
theorem b101i (n:Int) (h:0≤n∧n≤9223372036854775807):body Tryz.prog [] { asks:=[(0,[])] } true Tryz.f152 [I n] (S (itoa n)):=by
 obtain ⟨m,rfl⟩:∃m:Nat,n=m:=⟨n.toNat,by omega⟩
 rw[eB]
 exact b101 m (by omega)
def c101:Con:=aJ 152 true fun args K=>match args with | [.val (.int .i64 n)]=>Need (0≤n∧n≤9223372036854775807) (K (S (itoa n))) | _=>False
theorem k101:aF Tryz.prog c101:=by
 refine aC rfl (enters_of Tryz.func152 (by kernel_rfl) rfl) ?_
 intro args K h
 simp only[c101] at h
 split at h
 ·rename_i n
  exact ⟨_,h.go,aA (Γ:=[]) (by simp) Tryz.func152 (by simp[Tryz.ntmps152]) rfl (b101i n h.ok)⟩
 ·exact h.elim
theorem aHl {n:Int} {d:Nat} (hd:0<d):numS (Rat.divInt n d)=(if n<0 then [45] else [])++(decDigits (n.natAbs/n.natAbs.gcd d)++(if d/n.natAbs.gcd d=1 then [] else 47::decDigits (d/n.natAbs.gcd d))):=by
 rw[dX n d (by omega),Int.toNat_natCast,uQ n d (by omega),Nat.gcd_comm d]
 have hg:0<n.natAbs.gcd d:=Nat.gcd_pos_of_pos_right _ hd
 have hdv:((n.natAbs.gcd d:Nat):Int) ∣ n:=Int.ofNat_dvd_left.2 (Nat.gcd_dvd_left ..)
 have e:itoa (n/(n.natAbs.gcd d:Nat))=(if n<0 then [45] else [])++decDigits (n.natAbs/n.natAbs.gcd d):=by
  have h1:(n/((n.natAbs.gcd d:Nat):Int)).natAbs=n.natAbs/n.natAbs.gcd d:=by
   rw[Int.natAbs_ediv_of_dvd hdv,Int.natAbs_natCast]
  by_cases hn:n<0
  ·have h2:n/((n.natAbs.gcd d:Nat):Int)<0:=Int.ediv_neg_of_neg_of_pos hn (by omega)
   unfold itoa
   rw[if_pos h2,if_pos hn,h1];rfl
  ·have h2:0≤n/((n.natAbs.gcd d:Nat):Int):=Int.ediv_nonneg (by omega) (by omega)
   unfold itoa
   rw[if_neg (by omega),if_neg hn,← h1]
   rw[show (n/((n.natAbs.gcd d:Nat):Int)).toNat=(n/((n.natAbs.gcd d:Nat):Int)).natAbs by omega];rfl
 rw[e]
 split
 ·simp
 ·simp
theorem aQw {n:Nat} (h:n≤4611686018427387904):(decDigits n).length≤19:=IB.gK 18 n (by omega)
theorem b62 (n d:Int) (h:(-4611686018427387904≤n∧n≤4611686018427387904)∧(1≤d∧d≤4611686018427387904)):body Tryz.prog [c84,c101] {} true Tryz.f86 [I n,I d] (S (numS (Rat.divInt n d))):=by
 obtain ⟨hn,hd⟩:=h
 obtain ⟨D,rfl⟩:∃D:Nat,d=D:=⟨d.toNat,by omega⟩
 rw[aHl (by omega)]
 obtain ⟨m,hm⟩:∃m,n.natAbs=m:=⟨_,rfl⟩
 rw[hm]
 have hg:0<m.gcd D:=Nat.gcd_pos_of_pos_right _ (by omega)
 have hgle:m.gcd D≤D:=Nat.gcd_le_right _ (by omega)
 have q1:m/m.gcd D≤m:=Nat.div_le_self _ _
 have q2:D/m.gcd D≤D:=Nat.div_le_self _ _
 have l1:=aQw (n:=m/m.gcd D) (by omega)
 have l2:=aQw (n:=D/m.gcd D) (by omega)
 have t2:(D:Int)/((m.gcd D:Nat):Int)=((D/m.gcd D:Nat):Int):=rfl
 have t1:(m:Int)/((m.gcd D:Nat):Int)=((m/m.gcd D:Nat):Int):=rfl
 have tail:∀x:Int,0≤x→x.natAbs=m→Int.gcd x D=m.gcd D∧x/((Int.gcd x D:Nat):Int)=((m/m.gcd D:Nat):Int)∧(D:Int)/((Int.gcd x D:Nat):Int)=((D/m.gcd D:Nat):Int):=by
  intro x hx hxm
  have e1:Int.gcd x D=m.gcd D:=by unfold Int.gcd;rw[hxm,Int.natAbs_natCast]
  have e2:x=(m:Int):=by omega
  rw[e1]
  exact ⟨rfl,by rw[e2];exact t1,t2⟩
 skip
 (refine Br.mk (fun _=>?_) (fun _=>?_))
 ·rename_i hneg
  obtain ⟨e1,e2,e3⟩:=tail (-n) (by omega) (by omega)
  rw[if_pos hneg]
  have n1:0≤(-n)/((Int.gcd (-n) D:Nat):Int)∧(-n)/((Int.gcd (-n) D:Nat):Int)≤9223372036854775807:=by rw[e2];exact ⟨Int.natCast_nonneg _,Int.le_trans (Int.ofNat_le.2 q1) (by omega)⟩
  have n2:0≤(D:Int)/((Int.gcd (-n) D:Nat):Int)∧(D:Int)/((Int.gcd (-n) D:Nat):Int)≤9223372036854775807:=by rw[e3];exact ⟨Int.natCast_nonneg _,Int.le_trans (Int.ofNat_le.2 q2) (by omega)⟩
  have s1:itoa ((-n)/((Int.gcd (-n) D:Nat):Int))=decDigits (m/m.gcd D):=by rw[e2,eB]
  have s2:itoa ((D:Int)/((Int.gcd (-n) D:Nat):Int))=decDigits (D/m.gcd D):=by rw[e3,eB]
  have m1:(itoa ((-n)/((Int.gcd (-n) D:Nat):Int))).length≤19:=by rw[s1];exact l1
  have m2:(itoa ((D:Int)/((Int.gcd (-n) D:Nat):Int))).length≤19:=by rw[s2];exact l2
  (repeat'((conv=>whnf);first|refine Za ?_|refine Zn ?_|fail))
  refine Need.mk (show 1+(itoa ((-n)/((Int.gcd (-n) D:Nat):Int))).length≤140737488355328 by omega) ?_
  (repeat'((conv=>whnf);first|refine Za ?_|fail))
  (refine Br.mk (fun _=>?_) (fun _=>?_))
  ·rename_i hone
   have hone:D/m.gcd D=1:=by omega
   rw[if_pos hone]
   skip
   (conv=>whnf)
   skip
   rw[s1];simp
  ·rename_i hone
   have hone:¬D/m.gcd D=1:=by omega
   rw[if_neg hone]
   skip
   refine Need.mk (by rw[List.length_append];show 1+ _+1≤ _;omega) ?_
   (repeat'((conv=>whnf);first|refine Za ?_|refine Zn ?_|fail))
   refine Need.mk (by rw[List.length_append,List.length_append];show 1+ _+1+ _≤ _;omega) ?_
   skip
   (conv=>whnf)
   skip
   rw[s1,s2];simp
 ·rename_i hneg
  obtain ⟨e1,e2,e3⟩:=tail n (by omega) hm
  rw[if_neg hneg]
  have n1:0≤n/((Int.gcd n D:Nat):Int)∧n/((Int.gcd n D:Nat):Int)≤9223372036854775807:=by rw[e2];exact ⟨Int.natCast_nonneg _,Int.le_trans (Int.ofNat_le.2 q1) (by omega)⟩
  have n2:0≤(D:Int)/((Int.gcd n D:Nat):Int)∧(D:Int)/((Int.gcd n D:Nat):Int)≤9223372036854775807:=by rw[e3];exact ⟨Int.natCast_nonneg _,Int.le_trans (Int.ofNat_le.2 q2) (by omega)⟩
  have s1:itoa (n/((Int.gcd n D:Nat):Int))=decDigits (m/m.gcd D):=by rw[e2,eB]
  have s2:itoa ((D:Int)/((Int.gcd n D:Nat):Int))=decDigits (D/m.gcd D):=by rw[e3,eB]
  have m1:(itoa (n/((Int.gcd n D:Nat):Int))).length≤19:=by rw[s1];exact l1
  have m2:(itoa ((D:Int)/((Int.gcd n D:Nat):Int))).length≤19:=by rw[s2];exact l2
  (repeat'((conv=>whnf);first|refine Za ?_|refine Zn ?_|fail))
  (refine Br.mk (fun _=>?_) (fun _=>?_))
  ·rename_i hone
   have hone:D/m.gcd D=1:=by omega
   rw[if_pos hone]
   skip
   (conv=>whnf)
   skip
   rw[s1];simp
  ·rename_i hone
   have hone:¬D/m.gcd D=1:=by omega
   rw[if_neg hone]
   (repeat'((conv=>whnf);first|refine Za ?_|refine Zn ?_|fail))
   (conv=>whnf)
   skip
   rw[s1,s2];simp
def c62:Con:=aJ 86 true fun args K=>match args with | [.val (.int .i64 n),.val (.int .i64 d)]=>Need ((-4611686018427387904≤n∧n≤4611686018427387904)∧(1≤d∧d≤4611686018427387904)) (K (S (numS (Rat.divInt n d)))) | _=>False
theorem k62:aF Tryz.prog c62:=by
 refine aC rfl (enters_of Tryz.func86 (by kernel_rfl) rfl) ?_
 intro args K h
 simp only[c62] at h
 split at h
 ·rename_i n d;exact ⟨_,h.go,aA (Γ:=[c84,c101]) (by simp[k84,k101]) Tryz.func86 (by simp[Tryz.ntmps86]) rfl (b62 n d h.ok)⟩
 ·exact h.elim
def uG (a:List UInt8):Prop:=(82<a.length∧a.length<602)∨700<a.length
instance (a:List UInt8):Decidable (uG a):=by unfold uG;infer_instance
theorem b23 (a:List UInt8):body Tryz.prog [] {} true Tryz.f80 [S a] (.bl (uG a) inferInstance):=by
 unfold uG
 by_cases h1:82<a.length
 ·by_cases h2:a.length<602
  ·(repeat'((conv=>whnf);first|refine Zg fun _=>?_|refine Zy ?_|fail))
   (conv=>whnf)
   skip
   exact .inl ⟨h1,h2⟩
  ·(repeat'((conv=>whnf);first|refine Zg fun _=>?_|refine Zy ?_|refine Zm ?_|fail))
   (conv=>whnf)
   constructor
   ·intro h;exact .inr (by omega)
   ·intro h;omega
 ·(repeat'((conv=>whnf);first|refine Zg fun _=>?_|refine Zm ?_|fail))
  (conv=>whnf)
  constructor
  ·intro h;exact .inr (by omega)
  ·intro h;omega
def c23:Con:=aJ 80 true fun args K=>match args with | [.str a]=>K (.bl (uG a) inferInstance) | _=>False
theorem k23:aF Tryz.prog c23:=by
 refine aC rfl (enters_of Tryz.func80 (by kernel_rfl) rfl) ?_
 intro args K h
 simp only[c23] at h
 split at h
 ·rename_i a;exact ⟨_,h,aA (Γ:=[]) (by simp) Tryz.func80 (by simp[Tryz.ntmps80]) rfl (b23 a)⟩
 ·exact h.elim
theorem yI (q:Rat):(numS q).headD 0=45↔q<0:=by
 rw[← lF]
 exact (bP (List.length_pos_iff.2 (uV q)) 45).symm
theorem lt0 (q:Rat):q<0↔q.num<0:=by
 rw[Rat.lt_iff]
 show q.num*((1:Nat):Int)<0* _↔ _
 omega
theorem dD (n:Int):itoa n=(if n<0 then 45::decDigits n.natAbs else decDigits n.natAbs):=by
 unfold itoa
 split
 ·rfl
 ·rw[show n.toNat=n.natAbs by omega]
theorem Sz.digs {q:Rat} (h:Sz 300 q):(decDigits q.num.natAbs).length≤300∧(decDigits q.den).length≤300:=⟨kC (k:=300) (by decide) h.1,kC (k:=300) (by decide) h.2⟩
theorem aLg (k:Nat) (hk:0<k):1<10^k:=Nat.lt_of_lt_of_le (show 1<10^1 by decide) (dB hk)
theorem kG {s:List UInt8} (h:chkQ s=0):s=numS (valQ s)∧Sz 300 (valQ s):=by
 obtain ⟨e,h3,h4⟩:=rI h
 refine ⟨e,?_,?_⟩
 ·refine fH (k:=300) ?_
  rw[e,fM,bR] at h3
  exact h3
 ·by_cases h1:(valQ s).den=1
  ·rw[h1]
   exact aLg 300 (by decide)
  ·refine fH (k:=300) ?_
   rw[e,iZ,if_neg h1] at h4
   exact h4
theorem b65 (q:Rat) (hq:Sz 300 q):body Tryz.prog [c73] {} true Tryz.f87 [S (numS q)] (.tup [S (pn q),S (pd q)]):=by
 have e1:digs (topS (numS q))=decDigits q.num.natAbs:=by rw[fM,bR]
 have e2:(numS q).headD 0=45↔q.num<0:=by rw[yI,lt0]
 have e3:=dD q.num
 have l1:=hq.digs.1
 have e4:=iZ q
 have hpn:∀h:q.num<0,pn q=45::decDigits q.num.natAbs:=fun h=>by unfold pn;rw[e3,if_pos h]
 have hpp:∀h:¬q.num<0,pn q=decDigits q.num.natAbs:=fun h=>by unfold pn;rw[e3,if_neg h]
 have f1:∀h:q.den=1,pd q= [49]:=fun h=>aR3.2 h
 have f2:∀h:¬q.den=1,(botS (numS q)).tail=pd q:=fun h=>by rw[e4,if_neg h];rfl
 skip
 by_cases hn:q.num<0
 ·refine Br.mkY (e2.2 hn) ?_
  skip
  refine Need.mk (by rw[e1];show 1+ _≤ _;omega) ?_
  skip
  by_cases hd:q.den=1
  ·refine Br.mkY (show ¬ ¬botS (numS q)= [] by rw[e4,if_pos hd];simp) ?_
   skip
   (conv=>whnf)
   (repeat'(first|exact trivial|refine And.intro ?_ ?_|fail))
   ·(conv=>whnf)
    rw[hpn hn,e1];rfl
   ·(conv=>whnf)
    exact (f1 hd).symm
  ·refine Br.mkN (show ¬ ¬ ¬botS (numS q)= [] by rw[e4,if_neg hd];simp) ?_
   skip
   (conv=>whnf)
   (repeat'(first|exact trivial|refine And.intro ?_ ?_|fail))
   ·(conv=>whnf)
    rw[hpn hn,e1];rfl
   ·(conv=>whnf)
    exact f2 hd
 ·refine Br.mkN (fun h=>hn (e2.1 h)) ?_
  skip
  by_cases hd:q.den=1
  ·refine Br.mkY (show ¬ ¬botS (numS q)= [] by rw[e4,if_pos hd];simp) ?_
   skip
   (conv=>whnf)
   (repeat'(first|exact trivial|refine And.intro ?_ ?_|fail))
   ·(conv=>whnf)
    rw[hpp hn,e1]
   ·(conv=>whnf)
    exact (f1 hd).symm
  ·refine Br.mkN (show ¬ ¬ ¬botS (numS q)= [] by rw[e4,if_neg hd];simp) ?_
   skip
   (conv=>whnf)
   (repeat'(first|exact trivial|refine And.intro ?_ ?_|fail))
   ·(conv=>whnf)
    rw[hpp hn,e1]
   ·(conv=>whnf)
    exact f2 hd
def c65:Con:=aJ 87 true fun args K=>match args with | [.str s]=>Need (chkQ s=0) (K (.tup [S (pn (valQ s)),S (pd (valQ s))])) | _=>False
theorem k65:aF Tryz.prog c65:=by
 refine aC rfl (enters_of Tryz.func87 (by kernel_rfl) rfl) ?_
 intro args K h
 simp only[c65] at h
 split at h
 ·rename_i s
  obtain ⟨e,hq⟩:=kG h.ok
  refine ⟨_,h.go,?_⟩
  have ht:=aA (Γ:=[c73]) (by simp[k73]) Tryz.func87 (by simp[Tryz.ntmps87]) rfl (b65 (valQ s) hq)
  rw[← e] at ht
  exact ht
 ·exact h.elim
def smR (q:Rat):Prop:=(decDigits q.num.natAbs).length≤9∧(q.den=1∨(decDigits q.den).length≤9)
instance (q:Rat):Decidable (smR q):=by unfold smR;infer_instance
theorem yJ {q:Rat} (h:smR q):q.num.natAbs<1000000000∧q.den<1000000000:=by
 refine ⟨?_,?_⟩
 ·have:=fH (k:=9) h.1
  simpa using this
 ·rcases h.2 with h | h
  ·omega
  ·have:=fH (k:=9) h
   simpa using this
theorem b70 (q:Rat) (hq:Sz 300 q):(∀h:smR q,body Tryz.prog [c73,c85] {} true Tryz.f85 [S (numS q)] (.tup [I q.num,I q.den,.val (.bool true)]))∧(∀h:¬smR q,body Tryz.prog [c73,c85] {} true Tryz.f85 [S (numS q)] (.tup [I 0,I 0,.val (.bool false)])):=by
 have e1:digs (topS (numS q))=decDigits q.num.natAbs:=by rw[fM,bR]
 have e2:(numS q).headD 0=45↔q.num<0:=by rw[yI,lt0]
 have l1:=hq.digs
 have e4:=iZ q
 have hd1:∀c∈decDigits q.num.natAbs,aT c:=fun c hc=>fR _ c hc
 have hd2:∀c∈decDigits q.den,aT c:=fun c hc=>fR _ c hc
 refine ⟨fun h=>?_,fun h=>?_⟩
 ·have hl:=yJ h
  have k1:(digs (topS (numS q))).length≤9:=by rw[e1];exact h.1
  have k2:(botS (numS q)).tail.length≤9:=by
   rw[e4];split
   ·simp
   ·rename_i h1
    rcases h.2 with h2 | h2
    ·exact absurd h2 h1
    ·exact h2
  have n1:aD (digs (topS (numS q)))=q.num.natAbs:=by rw[e1,bW]
  have m1:(∀c∈digs (topS (numS q)),aT c)∧(digs (topS (numS q))).length≤18:=⟨by rw[e1];exact hd1,by omega⟩
  (repeat'((conv=>whnf);first|refine Zg fun _=>?_|refine Zn ?_|refine Zm ?_|fail))
  by_cases hd:q.den=1
  ·refine Br.mkN (show ¬ ¬botS (numS q)= [] by rw[e4,if_pos hd];simp) ?_
   skip
   by_cases hn:q.num<0
   ·refine Br.mkY (e2.2 hn) ?_
    (repeat'((conv=>whnf);first|refine Zn ?_|fail))
    (conv=>whnf)
    (repeat'(first|exact trivial|rfl|refine And.intro ?_ ?_|fail))
    ·(conv=>whnf)
     omega
    ·(conv=>whnf)
     omega
   ·refine Br.mkN (fun h=>hn (e2.1 h)) ?_
    skip
    (conv=>whnf)
    (repeat'(first|exact trivial|rfl|refine And.intro ?_ ?_|fail))
    ·(conv=>whnf)
     omega
    ·(conv=>whnf)
     omega
  ·have m2:(∀c∈(botS (numS q)).tail,aT c)∧(botS (numS q)).tail.length≤18:=⟨by rw[e4,if_neg hd];exact hd2,by omega⟩
   have n2:aD (botS (numS q)).tail=q.den:=by rw[e4,if_neg hd];exact bW _
   refine Br.mkY (show ¬botS (numS q)= [] by rw[e4,if_neg hd];simp) ?_
   (repeat'((conv=>whnf);first|refine Zn ?_|fail))
   by_cases hn:q.num<0
   ·refine Br.mkY (e2.2 hn) ?_
    (repeat'((conv=>whnf);first|refine Zn ?_|fail))
    (conv=>whnf)
    (repeat'(first|exact trivial|rfl|refine And.intro ?_ ?_|fail))
    ·(conv=>whnf)
     omega
    ·(conv=>whnf)
     omega
   ·refine Br.mkN (fun h=>hn (e2.1 h)) ?_
    skip
    (conv=>whnf)
    (repeat'(first|exact trivial|rfl|refine And.intro ?_ ?_|fail))
    ·(conv=>whnf)
     omega
    ·(conv=>whnf)
     omega
 ·by_cases k1:9<(digs (topS (numS q))).length
  ·(repeat'((conv=>whnf);first|refine Zg fun _=>?_|refine Zy ?_|fail))
   (conv=>whnf)
   (repeat'(first|exact trivial|rfl|refine And.intro ?_ ?_|fail))
  ·have k2:9<(botS (numS q)).tail.length:=by
    rw[e1] at k1
    refine Nat.lt_of_not_le fun hx=>h ⟨by omega,?_⟩
    rw[e4] at hx
    split at hx
    ·rename_i h1;exact .inl h1
    ·exact .inr hx
   (repeat'((conv=>whnf);first|refine Zg fun _=>?_|refine Zy ?_|refine Zm ?_|fail))
   (conv=>whnf)
   (repeat'(first|exact trivial|rfl|refine And.intro ?_ ?_|fail))
def c70:Con:=aJ 85 true fun args K=>match args with
 | [.str s]=>Need (chkQ s=0) (Br (smR (valQ s)) (K (.tup [I (valQ s).num,I (valQ s).den,.val (.bool true)])) (K (.tup [I 0,I 0,.val (.bool false)])))
 | _=>False
theorem k70:aF Tryz.prog c70:=by
 refine aC rfl (enters_of Tryz.func85 (by kernel_rfl) rfl) ?_
 intro args K h
 simp only[c70] at h
 split at h
 ·rename_i s
  obtain ⟨e,hq⟩:=kG h.ok
  have hb:=b70 (valQ s) hq
  rw[← e] at hb
  by_cases hl:smR (valQ s)
  ·exact ⟨_,h.go.yes hl,aA (Γ:=[c73,c85]) (by simp[k73,k85]) Tryz.func85 (by simp[Tryz.ntmps85]) rfl (hb.1 hl)⟩
  ·exact ⟨_,h.go.no hl,aA (Γ:=[c73,c85]) (by simp[k73,k85]) Tryz.func85 (by simp[Tryz.ntmps85]) rfl (hb.2 hl)⟩
 ·exact h.elim
noncomputable def chkB (a b:List UInt8):Int:=if chkQ a≠0 then chkQ a else chkQ b
theorem b78 (a b:List UInt8):body Tryz.prog [c44] {} true Tryz.f82 [S a,S b] (I (chkB a b)):=by
 unfold chkB
 skip
 (refine Br.mk (fun _=>?_) (fun _=>?_))
 ·rename_i h
  rw[if_pos h]
  skip
  (conv=>whnf)
  (repeat'(first|rfl|refine And.intro ?_ ?_|fail))
 ·rename_i h
  rw[if_neg h]
  skip
  (conv=>whnf)
  (repeat'(first|rfl|refine And.intro ?_ ?_|fail))
def c78:Con:=aJ 82 true fun args K=>match args with | [.str a,.str b]=>K (I (chkB a b)) | _=>False
theorem k78:aF Tryz.prog c78:=by
 refine aC rfl (enters_of Tryz.func82 (by kernel_rfl) rfl) ?_
 intro args K h
 simp only[c78] at h
 split at h
 ·rename_i a b;exact ⟨_,h,aA (Γ:=[c44]) (by simp[k44]) Tryz.func82 (by simp[Tryz.ntmps82]) rfl (b78 a b)⟩
 ·exact h.elim
abbrev ok4 (a b c d:List UInt8):Prop:=(chkI a=0∧chkI b=0)∧chkI c=0∧chkI d=0
theorem b81n (a b c d:List UInt8) (h:ok4 a b c d) (hl:lim (valI a*valI b)=true):body Tryz.prog [c120] {} true Tryz.f106 [S a,S b,S c,S d] (.tup [S [],S [],I 4]):=by
 obtain ⟨⟨ha,hb⟩,hc,hd⟩:=h
 have e1:bB a b (resI (valI a*valI b))=([],4):=by rw[mM ha hb];unfold resI;rw[if_pos hl]
 skip
 refine Br.mkY (show ¬(bB a b (resI (valI a*valI b))).2=0 by rw[e1];decide) ?_
 skip
 (conv=>whnf)
 (repeat'(first|exact trivial|rfl|refine And.intro ?_ ?_|fail))
 (conv=>whnf)
 rw[e1]
theorem b81y (a b c d:List UInt8) (h:ok4 a b c d) (hl:lim (valI a*valI b)=false):body Tryz.prog [c120] {} true Tryz.f106 [S a,S b,S c,S d] (.tup [S (itoa (valI a*valI b)),S (resI (valI c*valI d)).1,I (resI (valI c*valI d)).2]):=by
 obtain ⟨⟨ha,hb⟩,hc,hd⟩:=h
 have e1:bB a b (resI (valI a*valI b))=(itoa (valI a*valI b),0):=by rw[mM ha hb];unfold resI;rw[if_neg (by rw[hl];decide)]
 have e2:=mM hc hd (resI (valI c*valI d))
 skip
 refine Br.mkN (show ¬ ¬(bB a b (resI (valI a*valI b))).2=0 by rw[e1];simp) ?_
 skip
 (conv=>whnf)
 (repeat'(first|exact trivial|rfl|refine And.intro ?_ ?_|fail))
 ·(conv=>whnf)
  rw[e1]
 ·(conv=>whnf)
  rw[e2]
 ·(conv=>whnf)
  rw[e2]
def c81:Con:=aJ 106 true fun args K=>match args with
 | [.str a,.str b,.str c,.str d]=>Need (ok4 a b c d) (Br (lim (valI a*valI b)=true) (K (.tup [S [],S [],I 4])) (K (.tup [S (itoa (valI a*valI b)),S (resI (valI c*valI d)).1,I (resI (valI c*valI d)).2])))
 | _=>False
theorem k81:aF Tryz.prog c81:=by
 refine aC rfl (enters_of Tryz.func106 (by kernel_rfl) rfl) ?_
 intro args K h
 simp only[c81] at h
 split at h
 ·rename_i a b c d
  by_cases hl:lim (valI a*valI b)=true
  ·exact ⟨_,h.go.yes hl,aA (Γ:=[c120]) (by simp[k120]) Tryz.func106 (by simp[Tryz.ntmps106]) rfl (b81n a b c d h.ok hl)⟩
  ·exact ⟨_,h.go.no hl,aA (Γ:=[c120]) (by simp[k120]) Tryz.func106 (by simp[Tryz.ntmps106]) rfl (b81y a b c d h.ok (by simpa using hl))⟩
 ·exact h.elim
theorem oY (n:Int):aK (itoa n) 0=45↔n<0:=by
 rw[dD]
 split
 ·rename_i h;exact ⟨fun _=>h,fun _=>rfl⟩
 ·rename_i h
  constructor
  ·intro h2
   exfalso
   refine nR (n:=n.natAbs) (UInt8.toNat_inj.1 ?_)
   unfold aK at h2
   have:(45:UInt8).toNat=45:=rfl
   omega
  ·intro h2;exact absurd h2 h
theorem lG {n:Int} (h:n<0):(itoa n).drop 1=itoa (-n):=by
 rw[dD,if_pos h,dD,if_neg (by omega),Int.natAbs_neg];rfl
theorem aFx {n:Int} (h:0<n):45::itoa n=itoa (-n):=by
 rw[dD (-n),if_pos (by omega),dD n,if_neg (by omega),Int.natAbs_neg]
theorem yK {x y:Int} (hy:0<y):numS (Rat.divInt x y)=if y/(Int.gcd x y:Nat)=1 then itoa (x/(Int.gcd x y:Nat)) else itoa (x/(Int.gcd x y:Nat))++47::itoa (y/(Int.gcd x y:Nat)):=by
 obtain ⟨d,rfl⟩:∃d:Nat,y=d:=⟨y.toNat,by omega⟩
 have hg:Int.gcd x d=d.gcd x.natAbs:=by unfold Int.gcd;rw[Int.natAbs_natCast,Nat.gcd_comm]
 rw[dX x d (by omega),Int.toNat_natCast,uQ x d (by omega),hg,← Int.natCast_ediv,eB]
 by_cases h:d/d.gcd x.natAbs=1
 ·rw[if_pos h,if_pos (by omega)]
 ·rw[if_neg h,if_neg (by omega)]
set_option maxHeartbeats 4000000 in
theorem b63 (x y:Int) (hx:lim x=false) (hy:lim y=false) (h0:y≠0):body Tryz.prog [c85,c62,c86,c71] { cuts:=[(7,{ X:=Int × Int,pre:=fun z=>(lim z.1=false∧lim z.2=false)∧0<z.2∧Rat.divInt z.1 z.2=Rat.divInt x y,mod:=fun z _=>[(0,S (itoa z.1)),(1,S (itoa z.2))] })] } true Tryz.f151 [S (itoa x),S (itoa y)] (.tup [S (numS (Rat.divInt x y)),I 0]):=by
 have py:0<(itoa y).length:=gP
 have px:0<(itoa x).length:=gP
 have hby:=oY y
 have hbx:=oY x
 have ly:=dY hy
 have lx:=dY hx
 (repeat'((conv=>whnf);first|refine Zn ?_|fail))
 refine ⟨⟨(),?_⟩,fun _ (z:Int × Int) hz=>?_⟩
 ·(repeat'((conv=>whnf);first|refine Zg fun _=>?_|refine Zn ?_|refine Z0 ?_|fail))
  by_cases hn:y<0
  ·refine Br.mkY (hby.2 hn) ?_
   (repeat'((conv=>whnf);first|refine Zg fun _=>?_|refine Zn ?_|refine Z0 ?_|refine Z1 ?_|fail))
   by_cases hm:x<0
   ·refine Br.mkY (hbx.2 hm) ?_
    (repeat'((conv=>whnf);first|refine Zn ?_|refine Z1 ?_|fail))
    refine ⟨(-x, -y),⟨⟨by show lim (-x)=false;rw[jG];exact hx,by show lim (-y)=false;rw[jG];exact hy⟩,by show 0 < -y;omega,Rat.neg_divInt_neg x y⟩,?_⟩
    (repeat'(first|exact trivial|refine And.intro ?_ ?_|fail))
    ·exact lG hm
    ·exact lG hn
   ·refine Br.mkN (fun h=>hm (hbx.1 h)) ?_
    skip
    by_cases hx0:x=0
    ·refine Br.mkN (show ¬ ¬itoa x= [48] by rw[aA6];simpa using hx0) ?_
     skip
     refine ⟨(-x, -y),⟨⟨by show lim (-x)=false;rw[jG];exact hx,by show lim (-y)=false;rw[jG];exact hy⟩,by show 0 < -y;omega,Rat.neg_divInt_neg x y⟩,?_⟩
     (repeat'(first|exact trivial|refine And.intro ?_ ?_|fail))
     ·show itoa x=itoa (-x)
      rw[hx0];rfl
     ·exact lG hn
    ·refine Br.mkY (show ¬itoa x= [48] by rw[aA6];exact hx0) ?_
     (repeat'((conv=>whnf);first|refine Zn ?_|fail))
     refine ⟨(-x, -y),⟨⟨by show lim (-x)=false;rw[jG];exact hx,by show lim (-y)=false;rw[jG];exact hy⟩,by show 0 < -y;omega,Rat.neg_divInt_neg x y⟩,?_⟩
     (repeat'(first|exact trivial|refine And.intro ?_ ?_|fail))
     ·exact aFx (by omega)
     ·exact lG hn
  ·refine Br.mkN (fun h=>hn (hby.1 h)) ?_
   skip
   refine ⟨(x,y),⟨⟨hx,hy⟩,by show 0<y;omega,rfl⟩,?_⟩
   (repeat'(first|exact trivial|rfl|refine And.intro ?_ ?_|fail))
 ·obtain ⟨⟨hx,hy⟩,hp,he⟩:=hz
  rw[← he,yK hp]
  have ly:=dY hy
  have lx:=dY hx
  have d1:∀c∈decDigits z.1.natAbs,aT c:=fun c hc=>fR _ c hc
  have d2:∀c∈decDigits z.2.natAbs,aT c:=fun c hc=>fR _ c hc
  have i1:=dD z.1
  have i2:itoa z.2=decDigits z.2.natAbs:=by rw[dD,if_neg (by omega)]
  have v2:aD (itoa z.2)=z.2.natAbs:=by rw[i2,bW]
  have hbx:=oY z.1
  have pz:0<(itoa z.1).length:=gP
  by_cases hs:(itoa z.1).length≤18∧(itoa z.2).length≤18
  ·have m2:(∀c∈itoa z.2,aT c)∧(itoa z.2).length≤18:=⟨by rw[i2];exact d2,hs.2⟩
   have a2:z.2.natAbs<10^18:=fH (k:=18) (by rw[← i2];exact hs.2)
   by_cases hn:z.1<0
   ·have e1:(itoa z.1).drop 1=decDigits z.1.natAbs:=by rw[i1,if_pos hn];rfl
    have l1:(decDigits z.1.natAbs).length≤18:=by rw[← e1,List.length_drop];omega
    have m1:(∀c∈(itoa z.1).drop 1,aT c)∧((itoa z.1).drop 1).length≤18:=by rw[e1];exact ⟨d1,l1⟩
    have v1:aD ((itoa z.1).drop 1)=z.1.natAbs:=by rw[e1,bW]
    have a1:z.1.natAbs<10^18:=fH (k:=18) l1
    have h1: -((aD ((itoa z.1).drop 1):Nat):Int)=z.1:=by rw[v1];omega
    have h2:((aD (itoa z.2):Nat):Int)=z.2:=by rw[v2];omega
    (repeat'((conv=>whnf);first|refine Zg fun _=>?_|refine Zn ?_|refine Z0 ?_|refine Z1 ?_|refine Zy ?_|fail))
    (conv=>whnf)
    (repeat'(first|exact trivial|rfl|refine And.intro ?_ ?_|fail))
    (conv=>whnf)
    rw[h1,h2,yK hp]
   ·have i1:itoa z.1=decDigits z.1.natAbs:=by rw[i1,if_neg hn]
    have m1:(∀c∈itoa z.1,aT c)∧(itoa z.1).length≤18:=⟨by rw[i1];exact d1,hs.1⟩
    have v1:aD (itoa z.1)=z.1.natAbs:=by rw[i1,bW]
    have a1:z.1.natAbs<10^18:=fH (k:=18) (by rw[← i1];exact hs.1)
    have h1:((aD (itoa z.1):Nat):Int)=z.1:=by rw[v1];omega
    have h2:((aD (itoa z.2):Nat):Int)=z.2:=by rw[v2];omega
    (repeat'((conv=>whnf);first|refine Zg fun _=>?_|refine Zn ?_|refine Z0 ?_|refine Zy ?_|refine Zm ?_|fail))
    (conv=>whnf)
    (repeat'(first|exact trivial|rfl|refine And.intro ?_ ?_|fail))
    (conv=>whnf)
    rw[h1,h2,yK hp]
  ·have hg:=xS hx hy (show z.2≠0 by omega)
   have g0:0<Int.gcd z.1 z.2:=Int.gcd_pos_of_ne_zero_right _ (by omega)
   have gx:((Int.gcd z.1 z.2:Nat):Int) ∣ z.1:=Int.gcd_dvd_left ..
   have gy:((Int.gcd z.1 z.2:Nat):Int) ∣ z.2:=Int.gcd_dvd_right ..
   have gl:lim ((Int.gcd z.1 z.2:Nat):Int)=false:=by
    refine iJ (y:=z.2) ?_ hy
    rw[Int.natAbs_natCast]
    exact Nat.le_of_dvd (by omega) (Int.ofNat_dvd_left.1 gy)
   have q1:(bB (itoa z.1) (itoa z.2) (resI (Int.gcd (valI (itoa z.1)) (valI (itoa z.2))))).1=itoa ((Int.gcd z.1 z.2:Nat):Int):=by rw[hg]
   have q2:(bB (itoa z.1) (itoa z.2) (resI (Int.gcd (valI (itoa z.1)) (valI (itoa z.2))))).2=0:=by rw[hg]
   have r1:itoa (valI (itoa z.1)/valI (bB (itoa z.1) (itoa z.2) (resI (Int.gcd (valI (itoa z.1)) (valI (itoa z.2))))).1)=itoa (z.1/(Int.gcd z.1 z.2:Nat)):=by rw[q1,aO,aO]
   have r2:itoa (valI (itoa z.2)/valI (bB (itoa z.1) (itoa z.2) (resI (Int.gcd (valI (itoa z.1)) (valI (itoa z.2))))).1)=itoa (z.2/(Int.gcd z.1 z.2:Nat)):=by rw[q1,aO,aO]
   have n1:chkI (itoa z.1)=0∧chkI (bB (itoa z.1) (itoa z.2) (resI (Int.gcd (valI (itoa z.1)) (valI (itoa z.2))))).1=0∧0<valI (bB (itoa z.1) (itoa z.2) (resI (Int.gcd (valI (itoa z.1)) (valI (itoa z.2))))).1∧valI (bB (itoa z.1) (itoa z.2) (resI (Int.gcd (valI (itoa z.1)) (valI (itoa z.2))))).1 ∣ valI (itoa z.1):=by
    rw[q1,aO,aO]
    exact ⟨aS hx,aS gl,by omega,gx⟩
   have n2:chkI (itoa z.2)=0∧chkI (bB (itoa z.1) (itoa z.2) (resI (Int.gcd (valI (itoa z.1)) (valI (itoa z.2))))).1=0∧0<valI (bB (itoa z.1) (itoa z.2) (resI (Int.gcd (valI (itoa z.1)) (valI (itoa z.2))))).1∧valI (bB (itoa z.1) (itoa z.2) (resI (Int.gcd (valI (itoa z.1)) (valI (itoa z.2))))).1 ∣ valI (itoa z.2):=by
    rw[q1,aO,aO]
    exact ⟨aS hy,aS gl,by omega,gy⟩
   have xl:lim (z.1/(Int.gcd z.1 z.2:Nat))=false:=iJ (Int.natAbs_ediv_le_natAbs _ _) hx
   have yl:lim (z.2/(Int.gcd z.1 z.2:Nat))=false:=iJ (Int.natAbs_ediv_le_natAbs _ _) hy
   have dl:∀n:Int,lim n=false→(decDigits n.natAbs).length≤300:=fun n h=>by unfold lim at h;simpa using h
   have hbA:=oY (z.1/(Int.gcd z.1 z.2:Nat))
   have pA:0<(itoa (z.1/(Int.gcd z.1 z.2:Nat))).length:=gP
   have pB:0<(itoa (z.2/(Int.gcd z.1 z.2:Nat))).length:=gP
   have cA:=dD (z.1/(Int.gcd z.1 z.2:Nat))
   have yp:0<z.2/(Int.gcd z.1 z.2:Nat):=Int.ediv_pos_of_pos_of_dvd hp (by omega) gy
   have lB:(itoa (z.2/(Int.gcd z.1 z.2:Nat))).length≤300:=by
    rw[dD,if_neg (by omega)];exact dl _ yl
   have lA1:z.1/(Int.gcd z.1 z.2:Nat)<0→((itoa (z.1/(Int.gcd z.1 z.2:Nat))).drop 1).length≤300∧(itoa (z.1/(Int.gcd z.1 z.2:Nat))).length≤301:=fun h=>by
    rw[cA,if_pos h]
    have:=dl _ xl
    exact ⟨this,by rw[List.length_cons];omega⟩
   have lA2:¬z.1/(Int.gcd z.1 z.2:Nat)<0→(itoa (z.1/(Int.gcd z.1 z.2:Nat))).length≤300:=fun h=>by
    rw[cA,if_neg h]
    exact dl _ xl
   have hB1:itoa (z.2/(Int.gcd z.1 z.2:Nat))= [49]↔z.2/(Int.gcd z.1 z.2:Nat)=1:=by
    constructor
    ·intro h
     have:=congrArg valI h
     rw[aO] at this
     rw[this];decide
    ·intro h;rw[h]
     exact (aJ7 (n:=1) (by decide))
   have hcase:¬(itoa z.1).length≤18∨((itoa z.1).length≤18∧¬(itoa z.2).length≤18):=by omega
   rcases hcase with hc1 | ⟨hc1,hc2⟩
   all_goals
    (repeat'((conv=>whnf);first|refine Zg fun _=>?_|refine Zn ?_|refine Zy ?_|refine Zm ?_|fail))
    rw[r1,r2]
    (repeat'((conv=>whnf);first|refine Zg fun _=>?_|refine Zn ?_|refine Z0 ?_|fail))
    by_cases hn:z.1/(Int.gcd z.1 z.2:Nat)<0
    ·refine Br.mkY (hbA.2 hn) ?_
     have l3:=lA1 hn
     (repeat'((conv=>whnf);first|refine Zg fun _=>?_|refine Zn ?_|refine Z1 ?_|refine Zm ?_|fail))
     by_cases h1:itoa (z.2/(Int.gcd z.1 z.2:Nat))= [49]
     ·refine Br.mkY h1 ?_
      skip
      (conv=>whnf)
      (repeat'(first|exact trivial|rfl|refine And.intro ?_ ?_|fail))
      (conv=>whnf)
      rw[if_pos (hB1.1 h1)]
     ·refine Br.mkN h1 ?_
      (repeat'((conv=>whnf);first|refine Zn ?_|fail))
      (conv=>whnf)
      (repeat'(first|exact trivial|rfl|refine And.intro ?_ ?_|fail))
      (conv=>whnf)
      rw[if_neg fun h=>h1 (hB1.2 h)]
      simp
    ·refine Br.mkN (fun h=>hn (hbA.1 h)) ?_
     have l3:=lA2 hn
     (repeat'((conv=>whnf);first|refine Zg fun _=>?_|refine Zm ?_|fail))
     by_cases h1:itoa (z.2/(Int.gcd z.1 z.2:Nat))= [49]
     ·refine Br.mkY h1 ?_
      skip
      (conv=>whnf)
      (repeat'(first|exact trivial|rfl|refine And.intro ?_ ?_|fail))
      (conv=>whnf)
      rw[if_pos (hB1.1 h1)]
     ·refine Br.mkN h1 ?_
      (repeat'((conv=>whnf);first|refine Zn ?_|fail))
      (conv=>whnf)
      (repeat'(first|exact trivial|rfl|refine And.intro ?_ ?_|fail))
      (conv=>whnf)
      rw[if_neg fun h=>h1 (hB1.2 h)]
      simp
def c63:Con:=aJ 151 true fun args K=>match args with
 | [.str n,.str d]=>Need ((chkI n=0∧chkI d=0)∧valI d≠0) (K (.tup [S (numS (Rat.divInt (valI n) (valI d))),I 0]))
 | _=>False
theorem k63:aF Tryz.prog c63:=by
 refine aC rfl (enters_of Tryz.func151 (by kernel_rfl) rfl) ?_
 intro args K h
 simp only[c63] at h
 split at h
 ·rename_i n d
  obtain ⟨⟨hn,hd⟩,h0⟩:=h.ok
  have e1:=xH.1 (bE hn).1
  have e2:=xH.1 (bE hd).1
  have l1:lim (valI n)=false:=rN (by rw[← e1];exact hn)
  have l2:lim (valI d)=false:=rN (by rw[← e2];exact hd)
  refine ⟨_,h.go,?_⟩
  have ht:=aA (Γ:=[c85,c62,c86,c71]) (by simp[k85,k62,k86,k71]) Tryz.func151 (by simp[Tryz.ntmps151]) rfl (b63 (valI n) (valI d) l1 l2 h0)
  rw[← e1,← e2] at ht
  exact ht
 ·exact h.elim
theorem aC3 {n:Int} (h:lim n=true):resI n=([],4):=by unfold resI;rw[if_pos h]
theorem uW {n:Int} (h:lim n=false):resI n=(itoa n,0):=by unfold resI;rw[if_neg (by rw[h];decide)]
def c80:Con:=aJ 88 true fun args K=>match args with
 | [.str n,.str d,.str m,.str c]=>Need (ok4 n m d c∧valI d*valI c≠0) (Br (lim (valI n*valI m)=true∨lim (valI d*valI c)=true) (K (.tup [S [],I 4])) (K (.tup [S (numS (Rat.divInt (valI n*valI m) (valI d*valI c))),I 0])))
 | _=>False
theorem mul9 {x y:Int} (hx:x.natAbs<1000000000) (hy:y.natAbs<1000000000): -1000000000000000000<x*y∧x*y<1000000000000000000:=by
 have h:=Int.natAbs_mul x y
 have h1:x.natAbs*y.natAbs<1000000000*1000000000:=Nat.mul_lt_mul'' hx hy
 omega
theorem aC4 {q:Rat} (h:Sz 300 q):chkI (pn q)=0∧valI (pn q)=q.num∧lim q.num=false:=by
 have h1:lim q.num=false:=by
  unfold lim
  have:=h.digs.1
  simp;omega
 exact ⟨aS h1,iK q,h1⟩
theorem aC5 {q:Rat} (h:Sz 300 q):chkI (pd q)=0∧valI (pd q)=q.den:=by
 have:=aCt h.digs.2
 exact ⟨this.2.1,this.2.2⟩
theorem aOj:chkI [49]=0∧valI [49]=1:=by
 have e:([49]:List UInt8)=itoa 1:=(aJ7 (n:=1) (by decide)).symm
 rw[e,aO]
 exact ⟨aS (bG (by decide)),rfl⟩
theorem aJ9 (p q:Rat):Rat.divInt (p.num*q.den+q.num*p.den) (p.den*q.den)=p+q:=by
 rw[sK,← Int.natCast_mul,Rat.divInt_ofNat]
theorem aKa {p q:Rat} (l1:lim (p.num*q.den)=false) (l2:lim (q.num*p.den)=false) (l3:lim (p.num*q.den+q.num*p.den)=false) (l4:lim (p.den*q.den)=false):addf p q=(numS (p+q),0):=by
 unfold addf
 rw[if_neg (by simp[l1,l2,l3,l4])]
theorem jR (n:Int):lim n=true∨lim n=false:=by cases lim n<;>simp
set_option maxHeartbeats 8000000 in
theorem b67 (a b:List UInt8) (h:chkQ a=0∧chkQ b=0):body Tryz.prog [c70,c62,c65,c81,c103,c63] {} true Tryz.f83 [S a,S b] (.tup [S (addf (valQ a) (valQ b)).1,I (addf (valQ a) (valQ b)).2]):=by
 obtain ⟨ha,hb⟩:=h
 have hp:=(kG ha).2
 have hq:=(kG hb).2
 obtain ⟨cn1,vn1,ln1⟩:=aC4 hp
 obtain ⟨cn2,vn2,ln2⟩:=aC4 hq
 obtain ⟨cd1,vd1⟩:=aC5 hp
 obtain ⟨cd2,vd2⟩:=aC5 hq
 have d1:=(valQ a).den_pos
 have d2:=(valQ b).den_pos
 by_cases hs:smR (valQ a)∧smR (valQ b)
 ·have s1:=yJ hs.1
  have s2:=yJ hs.2
  have m1:=mul9 (x:=(valQ a).num) (y:=((valQ b).den:Int)) s1.1 (by omega)
  have m2:=mul9 (x:=(valQ b).num) (y:=((valQ a).den:Int)) s2.1 (by omega)
  have m3:=mul9 (x:=((valQ a).den:Int)) (y:=((valQ b).den:Int)) (by omega) (by omega)
  have m4:0<((valQ a).den:Int)*((valQ b).den:Int):=Int.mul_pos (by omega) (by omega)
  have ea:=aKa (p:=valQ a) (q:=valQ b) (bG (by omega)) (bG (by omega)) (bG (by omega)) (bG (by omega))
  (repeat'((conv=>whnf);first|refine Zn ?_|fail))
  refine Br.mkY hs.1 ?_
  (repeat'((conv=>whnf);first|refine Zn ?_|fail))
  refine Br.mkY hs.2 ?_
  (repeat'((conv=>whnf);first|refine Zn ?_|fail))
  (conv=>whnf)
  (repeat'(first|exact trivial|rfl|refine And.intro ?_ ?_|fail))
  ·(conv=>whnf)
   rw[ea,← aJ9]
  ·(conv=>whnf)
   rw[ea]
 ·have n4:ok4 (pn (valQ a)) (pd (valQ b)) (pn (valQ b)) (pd (valQ a)):=⟨⟨cn1,cd2⟩,cn2,cd1⟩
  have n5:ok4 (pd (valQ a)) (pd (valQ b)) [49] [49]:=⟨⟨cd1,cd2⟩,aOj.1,aOj.1⟩
  have hcase:(¬smR (valQ a)∧smR (valQ b))∨(¬smR (valQ a)∧¬smR (valQ b))∨(smR (valQ a)∧¬smR (valQ b)):=by
   by_cases h1:smR (valQ a)
   ·exact .inr (.inr ⟨h1,fun h2=>hs ⟨h1,h2⟩⟩)
   ·by_cases h2:smR (valQ b)
    ·exact .inl ⟨h1,h2⟩
    ·exact .inr (.inl ⟨h1,h2⟩)
  rcases hcase with ⟨h1,h2⟩ | ⟨h1,h2⟩ | ⟨h1,h2⟩
  all_goals (repeat'((conv=>whnf);first|refine Zn ?_|fail))
  all_goals first | refine Br.mkN h1 ?_ | refine Br.mkY h1 ?_
  all_goals (repeat'((conv=>whnf);first|refine Zn ?_|fail))
  all_goals first | refine Br.mkN h2 ?_ | refine Br.mkY h2 ?_
  all_goals (repeat'((conv=>whnf);first|refine Zn ?_|fail))
  all_goals
   rcases jR ((valQ a).num*((valQ b).den:Int)) with l1 | l1
   ·have ea:addf (valQ a) (valQ b)=([],4):=by unfold addf;rw[if_pos (by simp[l1])]
    rw[ea]
    refine Br.mkY (show lim (valI (pn (valQ a))*valI (pd (valQ b)))=true by rw[vn1,vd2];exact l1) ?_
    (repeat'((conv=>whnf);first|refine Zy ?_|fail))
    (conv=>whnf)
    (repeat'(first|exact trivial|rfl|refine And.intro ?_ ?_|fail))
   ·refine Br.mkN (show ¬lim (valI (pn (valQ a))*valI (pd (valQ b)))=true by rw[vn1,vd2,l1];decide) ?_
    skip
    rcases jR ((valQ b).num*((valQ a).den:Int)) with l2 | l2
    ·have ea:addf (valQ a) (valQ b)=([],4):=by unfold addf;rw[if_pos (by simp[l2])]
     have e4:resI (valI (pn (valQ b))*valI (pd (valQ a)))=([],4):=by rw[vn2,vd1];exact aC3 l2
     refine Br.mkY (show ¬(resI (valI (pn (valQ b))*valI (pd (valQ a)))).2=0 by rw[e4];decide) ?_
     skip
     (conv=>whnf)
     (repeat'(first|exact trivial|rfl|refine And.intro ?_ ?_|fail))
     ·(conv=>whnf)
      rw[ea]
     ·(conv=>whnf)
      rw[ea,e4]
    ·have e4:resI (valI (pn (valQ b))*valI (pd (valQ a)))=(itoa ((valQ b).num*((valQ a).den:Int)),0):=by rw[vn2,vd1];exact uW l2
     refine Br.mkN (show ¬ ¬(resI (valI (pn (valQ b))*valI (pd (valQ a)))).2=0 by rw[e4];simp) ?_
     (repeat'((conv=>whnf);first|refine Zn ?_|fail))
     rcases jR (((valQ a).den:Int)*((valQ b).den:Int)) with l4 | l4
     ·have ea:addf (valQ a) (valQ b)=([],4):=by unfold addf;rw[if_pos (by simp[l4])]
      refine Br.mkY (show lim (valI (pd (valQ a))*valI (pd (valQ b)))=true by rw[vd1,vd2];exact l4) ?_
      (repeat'((conv=>whnf);first|refine Zy ?_|fail))
      (conv=>whnf)
      (repeat'(first|exact trivial|rfl|refine And.intro ?_ ?_|fail))
      ·(conv=>whnf)
       rw[ea]
      ·(conv=>whnf)
       rw[ea]
     ·refine Br.mkN (show ¬lim (valI (pd (valQ a))*valI (pd (valQ b)))=true by rw[vd1,vd2,l4];decide) ?_
      have e49:resI (valI [49]*valI [49])=([49],0):=by
       rw[aOj.2,uW (bG (by decide))]
       exact congrArg (fun z=>(z,(0:Int))) (aJ7 (n:=1) (by decide))
      skip
      refine Br.mkN (show ¬ ¬(resI (valI [49]*valI [49])).2=0 by rw[e49];simp) ?_
      skip
      refine Br.mkN (show ¬ ¬(resI (valI [49]*valI [49])).1= [49] by rw[e49];simp) ?_
      skip
      have e6:bB (itoa (valI (pn (valQ a))*valI (pd (valQ b)))) (resI (valI (pn (valQ b))*valI (pd (valQ a)))).1 (resI (valI (itoa (valI (pn (valQ a))*valI (pd (valQ b))))+valI (resI (valI (pn (valQ b))*valI (pd (valQ a)))).1))=resI ((valQ a).num*((valQ b).den:Int)+(valQ b).num*((valQ a).den:Int)):=by
       rw[e4,vn1,vd2,aO,aO]
       exact mM (aS l1) (aS l2) _
      rcases jR ((valQ a).num*((valQ b).den:Int)+(valQ b).num*((valQ a).den:Int)) with l3 | l3
      ·have ea:addf (valQ a) (valQ b)=([],4):=by unfold addf;rw[if_pos (by simp[l3])]
       rw[aC3 l3] at e6
       refine Br.mkY (show ¬(bB (itoa (valI (pn (valQ a))*valI (pd (valQ b)))) (resI (valI (pn (valQ b))*valI (pd (valQ a)))).1 (resI (valI (itoa (valI (pn (valQ a))*valI (pd (valQ b))))+valI (resI (valI (pn (valQ b))*valI (pd (valQ a)))).1))).2=0 by rw[e6];decide) ?_
       skip
       (conv=>whnf)
       (repeat'(first|exact trivial|rfl|refine And.intro ?_ ?_|fail))
       ·(conv=>whnf)
        rw[ea]
       ·(conv=>whnf)
        rw[ea,e6]
      ·have ea:=aKa l1 l2 l3 l4
       rw[uW l3] at e6
       have m1:(chkI (bB (itoa (valI (pn (valQ a))*valI (pd (valQ b)))) (resI (valI (pn (valQ b))*valI (pd (valQ a)))).1 (resI (valI (itoa (valI (pn (valQ a))*valI (pd (valQ b))))+valI (resI (valI (pn (valQ b))*valI (pd (valQ a)))).1))).1=0∧chkI (itoa (valI (pd (valQ a))*valI (pd (valQ b))))=0)∧valI (itoa (valI (pd (valQ a))*valI (pd (valQ b))))≠0:=by
        rw[e6,vd1,vd2,aO]
        exact ⟨⟨aS l3,aS l4⟩,Int.mul_ne_zero (by omega) (by omega)⟩
       refine Br.mkN (show ¬ ¬(bB (itoa (valI (pn (valQ a))*valI (pd (valQ b)))) (resI (valI (pn (valQ b))*valI (pd (valQ a)))).1 (resI (valI (itoa (valI (pn (valQ a))*valI (pd (valQ b))))+valI (resI (valI (pn (valQ b))*valI (pd (valQ a)))).1))).2=0 by rw[e6];simp) ?_
       (repeat'((conv=>whnf);first|refine Zn ?_|fail))
       (conv=>whnf)
       (repeat'(first|exact trivial|rfl|refine And.intro ?_ ?_|fail))
       ·(conv=>whnf)
        rw[ea,e6,vd1,vd2,aO,aO,aJ9]
       ·(conv=>whnf)
        rw[ea]
def c67:Con:=aJ 83 true fun args K=>match args with
 | [.str a,.str b]=>Need (chkQ a=0∧chkQ b=0) (K (.tup [S (addf (valQ a) (valQ b)).1,I (addf (valQ a) (valQ b)).2]))
 | _=>False
theorem k67:aF Tryz.prog c67:=by
 refine aC rfl (enters_of Tryz.func83 (by kernel_rfl) rfl) ?_
 intro args K h
 simp only[c67] at h
 split at h
 ·rename_i a b
  exact ⟨_,h.go,aA (Γ:=[c70,c62,c65,c81,c103,c63]) (by simp[k70,k62,k65,k81,k103,k63]) Tryz.func83 (by simp[Tryz.ntmps83]) rfl (b67 a b h.ok)⟩
 ·exact h.elim
theorem bad2 {a b:List UInt8} (h:chkB a b≠0) (f:Rat→Rat→List UInt8 × Int):cE a b f=([],chkB a b):=by
 unfold cE chkB at*
 by_cases h1:chkQ a≠0
 ·rw[if_pos h1,if_pos h1]
 ·rw[if_neg h1] at h ⊢
  rw[if_pos h,if_neg h1]
theorem aFy {a b:List UInt8} (h:¬chkB a b≠0):chkQ a=0∧chkQ b=0:=by
 unfold chkB at h
 by_cases h1:chkQ a≠0
 ·rw[if_pos h1] at h;exact absurd h1 h
 ·rw[if_neg h1] at h
  exact ⟨Classical.not_not.1 h1,Classical.not_not.1 h⟩
theorem aLh {a b:List UInt8} (h:chkQ a=0∧chkQ b=0) (f:Rat→Rat→List UInt8 × Int):cE a b f=f (valQ a) (valQ b):=by
 unfold cE
 rw[if_neg (by rw[h.1];simp),if_neg (by rw[h.2];simp)]
theorem rV (q:Rat):(-q).num= -q.num∧(-q).den=q.den:=⟨rfl,rfl⟩
theorem aOk (q:Rat):numS (-q)=if q.num<0 then (numS q).drop 1 else if q=0 then numS q else 45::numS q:=by
 unfold numS
 rw[(rV q).1,(rV q).2]
 by_cases h1:q.num<0
 ·rw[if_pos h1,← lG h1]
  split
  ·rfl
  ·rw[List.drop_append_of_le_length gP]
 ·rw[if_neg h1]
  by_cases h0:q=0
  ·rw[if_pos h0,h0];rfl
  ·rw[if_neg h0]
   have h2:0<q.num:=by
    have:q.num≠0:=fun e=>h0 (Rat.num_eq_zero.1 e)
    omega
   rw[← aFx h2]
   split<;>rfl
theorem aKb (q:Rat):numS q= [48]↔q=0:=⟨fun h=>xJ (h.trans numS0.symm),fun h=>by rw[h];exact numS0⟩
theorem aOl {q:Rat} (h:Sz 300 q):(numS q).length≤602:=by
 have h1:=h.digs
 have h2:(itoa q.num).length≤301:=by
  rw[dD];split
  ·rw[List.length_cons];omega
  ·omega
 unfold numS
 split
 ·omega
 ·rw[List.length_append,List.length_cons];omega
theorem b79 (q:Rat) (hq:Sz 300 q):body Tryz.prog [] {} true Tryz.f84 [S (numS q)] (S (numS (-q))):=by
 have hl:=aOl hq
 have h0:=List.length_pos_iff.2 (uV q)
 rw[aOk]
 skip
 by_cases hz:q=0
 ·refine Br.mkY ((aKb q).2 hz) ?_
  skip
  (conv=>whnf)
  skip
  (conv=>whnf)
  rw[if_neg (by rw[hz];decide),if_pos hz]
 ·refine Br.mkN (fun h=>hz ((aKb q).1 h)) ?_
  (repeat'((conv=>whnf);first|refine Zg fun _=>?_|refine Zn ?_|refine Z0 ?_|fail))
  by_cases hn:q.num<0
  ·refine Br.mkY ((lF q).2 ((lt0 q).2 hn)) ?_
   (repeat'((conv=>whnf);first|refine Zn ?_|refine Z1 ?_|fail))
   (conv=>whnf)
   skip
   (conv=>whnf)
   rw[if_pos hn]
  ·refine Br.mkN (fun h=>hn ((lt0 q).1 ((lF q).1 h))) ?_
   (repeat'((conv=>whnf);first|refine Zn ?_|fail))
   (conv=>whnf)
   skip
   (conv=>whnf)
   rw[if_neg hn,if_neg hz];rfl
def c79:Con:=aJ 84 true fun args K=>match args with | [.str s]=>Need (chkQ s=0) (K (S (numS (-valQ s)))) | _=>False
theorem k79:aF Tryz.prog c79:=by
 refine aC rfl (enters_of Tryz.func84 (by kernel_rfl) rfl) ?_
 intro args K h
 simp only[c79] at h
 split at h
 ·rename_i s
  obtain ⟨e,hq⟩:=kG h.ok
  refine ⟨_,h.go,?_⟩
  have ht:=aA (Γ:=[]) (by simp) Tryz.func84 (by simp[Tryz.ntmps84]) rfl (b79 (valQ s) hq)
  rw[← e] at ht
  exact ht
 ·exact h.elim
theorem aQa (p q:Rat):addf p (-q)=subf p q:=by
 unfold addf subf
 rw[(rV q).1,(rV q).2,Int.neg_mul,jG,← Int.sub_eq_add_neg,Rat.sub_eq_add_neg]
theorem b40 (a b:List UInt8):body Tryz.prog [c78,c79,c67] {} true Tryz.f21 [S a,S b] (.tup [S (subQ a b).1,I (subQ a b).2]):=by
 skip
 (refine Br.mk (fun _=>?_) (fun _=>?_))
 ·rename_i h
  have e:subQ a b=([],chkB a b):=bad2 h _
  rw[e]
  skip
  (conv=>whnf)
  (repeat'(first|exact trivial|rfl|refine And.intro ?_ ?_|fail))
 ·rename_i h
  obtain ⟨ha,hb⟩:=aFy h
  have e:subQ a b=addf (valQ a) (valQ (numS (-valQ b))):=by
   rw[bV,aQa]
   exact aLh (aFy h) _
  have hs:Sz 300 (-valQ b):=by
   have:=(kG hb).2
   exact ⟨by rw[(rV _).1,Int.natAbs_neg];exact this.1,this.2⟩
  have hc:chkQ a=0∧chkQ (numS (-valQ b))=0:=⟨ha,iN hs ⟨by decide,by decide⟩⟩
  rw[e]
  (repeat'((conv=>whnf);first|refine Zn ?_|fail))
  (conv=>whnf)
  (repeat'(first|exact trivial|rfl|refine And.intro ?_ ?_|fail))
def c40:Con:=aJ 21 true fun args K=>match args with | [.str a,.str b]=>K (.tup [S (subQ a b).1,I (subQ a b).2]) | _=>False
theorem k40:aF Tryz.prog c40:=by
 refine aC rfl (enters_of Tryz.func21 (by kernel_rfl) rfl) ?_
 intro args K h
 simp only[c40] at h
 split at h
 ·rename_i a b;exact ⟨_,h,aA (Γ:=[c78,c79,c67]) (by simp[k78,k79,k67]) Tryz.func21 (by simp[Tryz.ntmps21]) rfl (b40 a b)⟩
 ·exact h.elim
theorem aFz {p q:Prop} (hs:¬(p∧q)):(¬p∧q)∨(¬p∧¬q)∨(p∧¬q):=by
 by_cases h1:p
 ·exact .inr (.inr ⟨h1,fun h2=>hs ⟨h1,h2⟩⟩)
 ·by_cases h2:q
  ·exact .inl ⟨h1,h2⟩
  ·exact .inr (.inl ⟨h1,h2⟩)
theorem aOm {a b:List UInt8} (h:chkB a b≠0):cmpQ a b=(0,chkB a b):=by
 unfold cmpQ chkB at*
 by_cases h1:chkQ a≠0
 ·rw[if_pos h1,if_pos h1]
 ·rw[if_neg h1] at h ⊢
  rw[if_pos h,if_neg h1]
theorem aLi {a b:List UInt8} (h:chkQ a=0∧chkQ b=0):cmpQ a b=cmpf (valQ a) (valQ b):=by
 unfold cmpQ
 rw[if_neg (by rw[h.1];simp),if_neg (by rw[h.2];simp)]
theorem aKc {p q:Rat} (l1:lim (p.num*q.den)=false) (l2:lim (q.num*p.den)=false):cmpf p q=(cmpI (p.num*q.den) (q.num*p.den),0):=by
 unfold cmpf
 rw[if_neg (by simp[l1,l2])]
set_option maxHeartbeats 8000000 in
theorem b43g (a b:List UInt8) (ha:chkQ a=0) (hb:chkQ b=0):body Tryz.prog [c78,c70,c65,c81,c82] {} true Tryz.f43 [S a,S b] (.tup [I (cmpf (valQ a) (valQ b)).1,I (cmpf (valQ a) (valQ b)).2]):=by
 have hp:=(kG ha).2
 have hq:=(kG hb).2
 obtain ⟨cn1,vn1,ln1⟩:=aC4 hp
 obtain ⟨cn2,vn2,ln2⟩:=aC4 hq
 obtain ⟨cd1,vd1⟩:=aC5 hp
 obtain ⟨cd2,vd2⟩:=aC5 hq
 have d1:=(valQ a).den_pos
 have d2:=(valQ b).den_pos
 have hc:¬chkB a b≠0:=by unfold chkB;rw[if_neg (by rw[ha];simp),hb];simp
 by_cases hs:smR (valQ a)∧smR (valQ b)
 ·have s1:=yJ hs.1
  have s2:=yJ hs.2
  have m1:=mul9 (x:=(valQ a).num) (y:=((valQ b).den:Int)) s1.1 (by omega)
  have m2:=mul9 (x:=(valQ b).num) (y:=((valQ a).den:Int)) s2.1 (by omega)
  have ea:=aKc (p:=valQ a) (q:=valQ b) (bG (by omega)) (bG (by omega))
  skip
  refine Br.mkN (show ¬ ¬chkB a b=0 from hc) ?_
  (repeat'((conv=>whnf);first|refine Zn ?_|fail))
  refine Br.mkY hs.1 ?_
  (repeat'((conv=>whnf);first|refine Zn ?_|fail))
  refine Br.mkY hs.2 ?_
  (repeat'((conv=>whnf);first|refine Zn ?_|fail))
  (refine Br.mk (fun _=>?_) (fun _=>?_))
  ·rename_i hx
   skip
   (conv=>whnf)
   (repeat'(first|exact trivial|rfl|refine And.intro ?_ ?_|fail))
   ·(conv=>whnf)
    rw[ea];unfold cmpI;rw[if_pos hx]
   ·(conv=>whnf)
    rw[ea]
  ·rename_i hx
   (repeat'((conv=>whnf);first|refine Zn ?_|fail))
   (refine Br.mk (fun _=>?_) (fun _=>?_))
   ·rename_i hy
    skip
    (conv=>whnf)
    (repeat'(first|exact trivial|rfl|refine And.intro ?_ ?_|fail))
    ·(conv=>whnf)
     rw[ea];unfold cmpI;rw[if_neg hx,if_neg (by omega)]
    ·(conv=>whnf)
     rw[ea]
   ·rename_i hy
    skip
    (conv=>whnf)
    (repeat'(first|exact trivial|rfl|refine And.intro ?_ ?_|fail))
    ·(conv=>whnf)
     rw[ea];unfold cmpI;rw[if_neg hx,if_pos (by omega)]
    ·(conv=>whnf)
     rw[ea]
 ·have n4:ok4 (pn (valQ a)) (pd (valQ b)) (pn (valQ b)) (pd (valQ a)):=⟨⟨cn1,cd2⟩,cn2,cd1⟩
  rcases aFz hs with ⟨h1,h2⟩ | ⟨h1,h2⟩ | ⟨h1,h2⟩
  all_goals skip
  all_goals refine Br.mkN (show ¬ ¬chkB a b=0 from hc) ?_
  all_goals (repeat'((conv=>whnf);first|refine Zn ?_|fail))
  all_goals first | refine Br.mkN h1 ?_ | refine Br.mkY h1 ?_
  all_goals (repeat'((conv=>whnf);first|refine Zn ?_|fail))
  all_goals first | refine Br.mkN h2 ?_ | refine Br.mkY h2 ?_
  all_goals (repeat'((conv=>whnf);first|refine Zn ?_|fail))
  all_goals
   rcases jR ((valQ a).num*((valQ b).den:Int)) with l1 | l1
   ·have ea:cmpf (valQ a) (valQ b)=(0,4):=by unfold cmpf;rw[if_pos (by simp[l1])]
    refine Br.mkY (show lim (valI (pn (valQ a))*valI (pd (valQ b)))=true by rw[vn1,vd2];exact l1) ?_
    (repeat'((conv=>whnf);first|refine Zy ?_|fail))
    (conv=>whnf)
    (repeat'(first|exact trivial|rfl|refine And.intro ?_ ?_|fail))
    ·(conv=>whnf)
     rw[ea]
    ·(conv=>whnf)
     rw[ea]
   ·refine Br.mkN (show ¬lim (valI (pn (valQ a))*valI (pd (valQ b)))=true by rw[vn1,vd2,l1];decide) ?_
    skip
    rcases jR ((valQ b).num*((valQ a).den:Int)) with l2 | l2
    ·have ea:cmpf (valQ a) (valQ b)=(0,4):=by unfold cmpf;rw[if_pos (by simp[l2])]
     have e4:resI (valI (pn (valQ b))*valI (pd (valQ a)))=([],4):=by rw[vn2,vd1];exact aC3 l2
     refine Br.mkY (show ¬(resI (valI (pn (valQ b))*valI (pd (valQ a)))).2=0 by rw[e4];decide) ?_
     skip
     (conv=>whnf)
     (repeat'(first|exact trivial|rfl|refine And.intro ?_ ?_|fail))
     ·(conv=>whnf)
      rw[ea]
     ·(conv=>whnf)
      rw[ea,e4]
    ·have e4:resI (valI (pn (valQ b))*valI (pd (valQ a)))=(itoa ((valQ b).num*((valQ a).den:Int)),0):=by rw[vn2,vd1];exact uW l2
     refine Br.mkN (show ¬ ¬(resI (valI (pn (valQ b))*valI (pd (valQ a)))).2=0 by rw[e4];simp) ?_
     have ea:=aKc l1 l2
     have n5:chkI (itoa (valI (pn (valQ a))*valI (pd (valQ b))))=0∧chkI (resI (valI (pn (valQ b))*valI (pd (valQ a)))).1=0:=by
      rw[e4,vn1,vd2]
      exact ⟨aS l1,aS l2⟩
     (repeat'((conv=>whnf);first|refine Zn ?_|fail))
     (conv=>whnf)
     (repeat'(first|exact trivial|rfl|refine And.intro ?_ ?_|fail))
     ·(conv=>whnf)
      rw[ea,e4,vn1,vd2,aO,aO]
     ·(conv=>whnf)
      rw[ea]
theorem b43 (a b:List UInt8):body Tryz.prog [c78,c70,c65,c81,c82] {} true Tryz.f43 [S a,S b] (.tup [I (cmpQ a b).1,I (cmpQ a b).2]):=by
 by_cases h:chkB a b≠0
 ·rw[aOm h]
  skip
  refine Br.mkY h ?_
  skip
  (conv=>whnf)
  (repeat'(first|exact trivial|rfl|refine And.intro ?_ ?_|fail))
 ·rw[aLi (aFy h)]
  exact b43g a b (aFy h).1 (aFy h).2
def c43:Con:=aJ 43 true fun args K=>match args with | [.str a,.str b]=>K (.tup [I (cmpQ a b).1,I (cmpQ a b).2]) | _=>False
theorem k43:aF Tryz.prog c43:=by
 refine aC rfl (enters_of Tryz.func43 (by kernel_rfl) rfl) ?_
 intro args K h
 simp only[c43] at h
 split at h
 ·rename_i a b;exact ⟨_,h,aA (Γ:=[c78,c70,c65,c81,c82]) (by simp[k78,k70,k65,k81,k82]) Tryz.func43 (by simp[Tryz.ntmps43]) rfl (b43 a b)⟩
 ·exact h.elim
set_option linter.unusedSimpArgs false
def longL (l:List (List UInt8)):Prop:=(∃a∈l,uG a)∨8<l.length
noncomputable instance (l:List (List UInt8)):Decidable (longL l):=Classical.propDecidable _
theorem nat10_cons (c:UInt8) (r:List UInt8):aD (c::r)=aD [c]*10^r.length+aD r:=mI [c] r
set_option linter.unusedSimpArgs false
set_option linter.unusedSimpArgs false
theorem nQ {l:List (List UInt8)} {k:Nat} (h:k<l.length):l.drop k=l.getD k []::l.drop (k+1):=by
 rw[List.drop_eq_getElem_cons h]
 simp[List.getD_eq_getElem?_getD,h]
set_option linter.unusedSimpArgs false
def c75:Con:=aF1 105 fun args K=>match args with | [.val (.slice none 0 0),.val (.int .i64 n)]=>Need (0≤n∧n≤1000000) (K (.ref 0 1) (.vec 1 (.str) ([]) 22)) | _=>False
theorem aQb {a:List UInt8} {k:Nat} (h1:a.length≤k) (h2:chkQ a=0) (hk:0<k):a=numS (valQ a)∧Sz k (valQ a):=by
 obtain ⟨e,h3,h4⟩:=rI h2
 refine ⟨e,?_,?_⟩
 ·refine fH ?_
  rw[e] at h1
  unfold numS at h1
  have h5:(decDigits (valQ a).num.natAbs).length≤(itoa (valQ a).num).length:=by
   unfold itoa
   split
   ·simp
   ·rw[show (valQ a).num.toNat=(valQ a).num.natAbs by omega];exact Nat.le_refl _
  split at h1
  ·omega
  ·simp at h1;omega
 ·rw[e] at h1
  unfold numS at h1
  split at h1
  ·rename_i e1
   rw[e1];exact Nat.one_lt_pow (by omega) (by decide)
  ·refine fH ?_
   simp at h1;omega
end RB
end
section
set_option linter.unusedVariables false
namespace RB
section
variable {ax ay az bx by' bz cx cy cz P Q R:Rat}
end
end RB
end
section
open Go Go.Proofs Go.Eng Go.Shelf IB Go.Lib Go.RowKit
namespace RB
set_option maxRecDepth 10000
set_option linter.unusedVariables false
set_option linter.unusedSimpArgs false
def d36 (q:Rat):Prop:=(decDigits q.num.natAbs).length≤36∧(decDigits q.den).length≤36
instance (q:Rat):Decidable (d36 q):=inferInstanceAs (Decidable (_∧ _))
noncomputable def chkP (a:List UInt8):Int:=if chkQ a≠0 then chkQ a else if d36 (valQ a) then 0 else 4
def badP (l:List (List UInt8)):Prop:=∃a∈l,chkP a≠0
noncomputable instance (l:List (List UInt8)):Decidable (badP l):=Classical.propDecidable _
section
variable {p q r:Rat} {i j k:Nat}
end
noncomputable def hgt (a b c x y:List UInt8):Rat:=valQ a*valQ x+valQ b*valQ y+valQ c
set_option linter.unusedSimpArgs false
section
variable (p:List UInt8→Prop) [DecidablePred p]
end
def badS (s:List UInt8):Prop:=12<s.length∨chkQ s≠0
noncomputable instance (s:List UInt8):Decidable (badS s):=Classical.propDecidable _
noncomputable instance:DecidablePred badS:=fun s=>Classical.propDecidable _
def notP (s:List UInt8):Prop:=chkP s≠0
noncomputable instance:DecidablePred notP:=fun s=>Classical.propDecidable _
def aQ8 (l:List (List UInt8)):Prop:=∀a∈l,a.length≤12∧chkQ a=0
noncomputable instance (l:List (List UInt8)):Decidable (aQ8 l):=Classical.propDecidable _
theorem Sz.up {k:Nat} {q:Rat} (h:Sz 12 q) (hk:12≤k):Sz k q:=h.mono hk
theorem aPd {p q:Rat} {k:Nat} (h1:(p.num*q.den).natAbs<10^k) (h2:(q.num*p.den).natAbs<10^k) (h0:q≠0):Sz k (p/q):=by
 have hq:q.num≠0:=fun h=>h0 (Rat.num_eq_zero.1 h)
 have hp:(0:Int)<p.den:=by have:=p.den_pos;omega
 rw[aAi p q h0]
 rcases Int.lt_or_lt_of_ne hq with h | h
 ·have hd:(p.den:Int)*q.num<0:=Int.mul_neg_of_pos_of_neg hp h
  rw[qD _ _ hd]
  refine aFu (by omega) (by rwa [Int.natAbs_neg]) ?_
  have:(-((p.den:Int)*q.num)).toNat=(q.num*p.den).natAbs:=by rw[Int.mul_comm q.num];omega
  rwa [this]
 ·have hd:0<(p.den:Int)*q.num:=Int.mul_pos hp h
  rw[dX _ _ hd]
  refine aFu (by omega) h1 ?_
  have:((p.den:Int)*q.num).toNat=(q.num*p.den).natAbs:=by rw[Int.mul_comm q.num];omega
  rwa [this]
theorem Sz.div {p q:Rat} {i j:Nat} (hp:Sz i p) (hq:Sz j q) (h0:q≠0):Sz (i+j) (p/q):=aPd (hp.cross hq).1 (hp.cross hq).2.1 h0
def Vd (q:Rat):Prop:=chkQ (numS q)=0
theorem Sz.vd {q:Rat} {k:Nat} (h:Sz k q) (hk:0<k∧k≤300):Vd q:=iN h hk
section
variable {p q:Rat}
end
noncomputable def ckG (p:List UInt8):List (List UInt8)→Int
 | []=>0
 | a::r=>if chkQ a≠0 then chkQ a else if (cmpQ p a).2≠0 then (cmpQ p a).2 else if 0≤(cmpQ p a).1 then 10 else ckG a r
noncomputable def ckF:List (List UInt8)→Int
 | []=>0
 | a::r=>if chkQ a≠0 then chkQ a else ckG a r
theorem xD (a:List UInt8) (r:List (List UInt8)):ckF (a::r)=if chkQ a≠0 then chkQ a else ckG a r:=rfl
noncomputable def ckS (l:List (List UInt8)):Int:=if 4096<l.length then 4 else ckF l
noncomputable def ckAt (l:List (List UInt8)):Nat→Int
 | 0=>ckF l
 | i+1=>ckG (l.getD i []) (l.drop (i+1))
theorem mD {α:Type} {l:List α} {i:Nat} (d:α) (h:i<l.length):l.drop i=l.getD i d::l.drop (i+1):=by
 rw[List.drop_eq_getElem_cons h]
 simp[List.getD_eq_getElem?_getD,h]
theorem aEt (l:List (List UInt8)):ckAt l l.length=0:=by
 cases l with
 | nil=>rfl
 | cons a r=>
  show ckG _ (List.drop (r.length+1) (a::r))=0
  rw[List.drop_eq_nil_of_le (by simp)];rfl
section
variable {l:List (List UInt8)} {i:Nat}
theorem aEu (h:i<l.length) (h1:chkQ (l.getD i [])≠0):ckAt l i=chkQ (l.getD i []):=by
 cases i with
 | zero=>
  cases l with
  | nil=>simp at h
  | cons a r=>have h1:chkQ a≠0:=h1;show ckF (a::r)= _;rw[xD,if_pos h1];rfl
 | succ i=>
  show ckG _ (l.drop (i+1))= _
  rw[mD [] h];unfold ckG;rw[if_pos h1]
theorem aEv (h:i+1<l.length) (h1:chkQ (l.getD (i+1) [])=0) (h2:(cmpQ (l.getD i []) (l.getD (i+1) [])).2≠0):ckAt l (i+1)=(cmpQ (l.getD i []) (l.getD (i+1) [])).2:=by
 show ckG _ (l.drop (i+1))= _
 rw[mD [] h];unfold ckG;rw[if_neg (fun h=>h h1),if_pos h2]
theorem aEw (h:i+1<l.length) (h1:chkQ (l.getD (i+1) [])=0) (h2:(cmpQ (l.getD i []) (l.getD (i+1) [])).2=0) (h3:0≤(cmpQ (l.getD i []) (l.getD (i+1) [])).1):ckAt l (i+1)=10:=by
 show ckG _ (l.drop (i+1))= _
 rw[mD [] h];unfold ckG;rw[if_neg (fun h=>h h1),if_neg (fun h=>h h2),if_pos h3]
theorem aEx (h:0<l.length) (h1:chkQ (l.getD 0 [])=0):ckAt l 1=ckAt l 0:=by
 cases l with
 | nil=>simp at h
 | cons a r=>
  have h1:chkQ a=0:=h1
  show ckG a r=ckF (a::r)
  rw[xD,if_neg (fun h=>h h1)]
theorem aIk (h:i+1<l.length) (h1:chkQ (l.getD (i+1) [])=0) (h2:(cmpQ (l.getD i []) (l.getD (i+1) [])).2=0) (h3:¬0≤(cmpQ (l.getD i []) (l.getD (i+1) [])).1):ckAt l (i+2)=ckAt l (i+1):=by
 show ckG _ (l.drop (i+2))=ckG _ (l.drop (i+1))
 rw[mD [] h]
 conv=>rhs;unfold ckG
 rw[if_neg (fun h=>h h1),if_neg (fun h=>h h2),if_neg h3]
end
theorem aIl:∀ {l:List (List UInt8)} {p:List UInt8},ckG p l=0→∀a∈l,chkQ a=0
 | [],_,_,a,ha=>by simp at ha
 | x::r,p,h,a,ha=>by
  unfold ckG at h
  split at h
  ·rename_i h1;exact absurd h h1
  rename_i h1
  split at h
  ·rename_i h2;exact absurd h h2
  split at h
  ·exact absurd h (by decide)
  rcases List.mem_cons.1 ha with rfl | ha
  ·exact Classical.not_not.1 h1
  ·exact aIl h a ha
theorem rC {l:List (List UInt8)} (h:ckF l=0):∀a∈l,chkQ a=0:=by
 cases l with
 | nil=>intro a ha;simp at ha
 | cons x r=>
  rw[xD] at h
  split at h
  ·rename_i h1;exact absurd h h1
  rename_i h1
  intro a ha
  rcases List.mem_cons.1 ha with rfl | ha
  ·exact Classical.not_not.1 h1
  ·exact aIl h a ha
theorem hZ {l:List (List UInt8)} (h:ckS l=0):l.length≤4096∧ckF l=0:=by
 unfold ckS at h
 split at h
 ·exact absurd h (by decide)
 ·exact ⟨by omega,h⟩
noncomputable def mrg:List (List UInt8)→List (List UInt8)→List (List UInt8)
 | [],b=>b
 | a::r,[]=>a::r
 | x::a,y::b=>if (cmpQ x y).1<0 then x::mrg a (y::b) else if 0<(cmpQ x y).1 then y::mrg (x::a) b else x::mrg a b
termination_by a b=>a.length+b.length
theorem uN (b:List (List UInt8)):mrg [] b=b:=by rw[mrg]
theorem xE (a:List (List UInt8)):mrg a []=a:=by cases a<;>rw[mrg]
theorem aMt (x y:List UInt8) (a b:List (List UInt8)):mrg (x::a) (y::b)=if (cmpQ x y).1<0 then x::mrg a (y::b) else if 0<(cmpQ x y).1 then y::mrg (x::a) b else x::mrg a b:=by rw[mrg]
theorem uO {a b:List (List UInt8)} (h:a= []∨b= []):a++b=mrg a b:=by
 rcases h with rfl | rfl
 ·rw[uN];rfl
 ·rw[xE];simp
theorem aOx (a b:List (List UInt8)):(mrg a b).length≤a.length+b.length:=by
 fun_induction mrg a b with
 | case1 b=>simp
 | case2 a r=>simp
 | case3 x a y b h ih=>simp at ih ⊢;omega
 | case4 x a y b h h1 ih=>simp at ih ⊢;omega
 | case5 x a y b h h1 ih=>simp at ih ⊢;omega
def Wt (k:Nat) (q:Rat):Prop:=q.num.natAbs*q.den<10^k
theorem wt_of {a:List UInt8} {k:Nat} (h1:a.length≤k) (h2:chkQ a=0):Wt k (valQ a):=by
 obtain ⟨e,_,_⟩:=rI h2
 rw[e] at h1
 unfold numS at h1
 have h5:(decDigits (valQ a).num.natAbs).length≤(itoa (valQ a).num).length:=by
  unfold itoa
  split
  ·simp
  ·rw[show (valQ a).num.toNat=(valQ a).num.natAbs by omega];exact Nat.le_refl _
 have h6:=fH (Nat.le_refl (decDigits (valQ a).num.natAbs).length)
 unfold Wt
 split at h1
 ·rename_i e1
  rw[e1,Nat.mul_one]
  exact Nat.lt_of_lt_of_le h6 (dB (by omega))
 ·have h7:=fH (Nat.le_refl (decDigits (valQ a).den).length)
  simp at h1
  have h8:=Nat.mul_lt_mul'' h6 h7
  rw[← Nat.pow_add] at h8
  exact Nat.lt_of_lt_of_le h8 (dB (by omega))
theorem oM (n:Int) {d:Nat} (hd:d≠0):(mkRat n d).num.natAbs≤n.natAbs∧(mkRat n d).den≤d:=by
 rw[Rat.num_mkRat,if_neg hd,Rat.den_mkRat,if_neg hd]
 exact ⟨kN _ _,Nat.div_le_self _ _⟩
theorem Wt.sub {p q:Rat} {k:Nat} (hp:Wt k p) (hq:Wt k q) (sp:p.den<10^k) (sq:q.den<10^k):Wt (3*k+1) (p-q):=by
 unfold Wt at hp hq ⊢
 rw[oO]
 obtain ⟨h1,h2⟩:=oM (p.num*q.den-q.num*p.den) (qG p q)
 refine Nat.lt_of_le_of_lt (Nat.mul_le_mul h1 h2) ?_
 have e1:(p.num*q.den-q.num*p.den).natAbs≤p.num.natAbs*q.den+q.num.natAbs*p.den:=by
  refine Nat.le_trans (Int.natAbs_sub_le _ _) ?_
  rw[Int.natAbs_mul,Int.natAbs_mul,Int.natAbs_natCast,Int.natAbs_natCast]
  exact Nat.le_refl _
 refine Nat.lt_of_le_of_lt (Nat.mul_le_mul_right _ e1) ?_
 have e2:(p.num.natAbs*q.den+q.num.natAbs*p.den)*(p.den*q.den)=(p.num.natAbs*p.den)*(q.den*q.den)+(q.num.natAbs*q.den)*(p.den*p.den):=by
  rw[Nat.add_mul]
  congr 1<;>ac_rfl
 rw[e2]
 have a1:(p.num.natAbs*p.den)*(q.den*q.den)<10^k*(10^k*10^k):=Nat.mul_lt_mul'' hp (Nat.mul_lt_mul'' sq sq)
 have a2:(q.num.natAbs*q.den)*(p.den*p.den)<10^k*(10^k*10^k):=Nat.mul_lt_mul'' hq (Nat.mul_lt_mul'' sp sp)
 have e3:10^ (3*k+1)=10*(10^k*(10^k*10^k)):=by
  rw[← Nat.pow_add,← Nat.pow_add,Nat.pow_succ,Nat.mul_comm]
  congr 2;omega
 rw[e3]
 omega
theorem aMx {q:Rat} {k:Nat} (hw:Wt k q) (hk:0<k∧k≤300) (hv:Vd q):cmpQ (numS q) (numS q)=(0,0):=by
 unfold cmpQ
 rw[if_neg (fun h=>h hv),if_neg (fun h=>h hv),bV]
 unfold cmpf
 have:lim (q.num*q.den)=false:=bK hk (by rw[Int.natAbs_mul,Int.natAbs_natCast];exact hw)
 rw[this,if_neg (by simp)]
 simp[cmpI]
noncomputable def gapN (l:List (List UInt8)) (n:Nat):List (List UInt8):=(List.range n).map fun j=>(subQ (l.getD (j+1) []) (l.getD j [])).1
theorem aAg (l:List (List UInt8)) (n:Nat):gapN l (n+1)=gapN l n++ [(subQ (l.getD (n+1) []) (l.getD n [])).1]:=by
 unfold gapN;rw[List.range_succ,List.map_append];rfl
theorem fL {α:Type} {l:List α} {i:Nat} {d:α} (h:i<l.length):l.getD i d∈l:=by
 simp[List.getD_eq_getElem?_getD,h]
def rgP (a b:List UInt8):Prop:=(cmpQ a b).2=0∧(cmpQ a b).1≤0
noncomputable instance (a b:List UInt8):Decidable (rgP a b):=Classical.propDecidable _
theorem rF {a b:List UInt8} (h:rgP a b):chkQ a=0∧chkQ b=0:=by
 have h1:=h.1
 unfold cmpQ at h1
 split at h1
 ·rename_i h2;exact absurd h1 h2
 rename_i h2
 split at h1
 ·rename_i h3;exact absurd h1 h3
 rename_i h3
 exact ⟨Classical.not_not.1 h2,Classical.not_not.1 h3⟩
noncomputable def inR (lo hi a:List UInt8):Bool:=decide ((cmpQ lo a).1≤0∧(cmpQ a hi).1≤0)
theorem tW {α:Type} (p:α→Bool) {l:List α} {i:Nat} (d:α) (h:i<l.length):(l.take (i+1)).filter p=(l.take i).filter p++(if p (l.getD i d) then [l.getD i d] else []):=by
 have e:l.take (i+1)=l.take i++ [l.getD i d]:=by
  rw[List.take_succ_eq_append_getElem h]
  simp[List.getD_eq_getElem?_getD,h]
 rw[e,List.filter_append]
 by_cases hp:p (l.getD i d)=true
 ·rw[if_pos hp,List.filter_cons_of_pos hp,List.filter_nil]
 ·rw[if_neg hp,List.filter_cons_of_neg hp,List.filter_nil]
noncomputable def dsS (a b:List UInt8):List UInt8 × Int:=if (subQ a b).2=0∧aK (subQ a b).1 0=45 then ((subQ a b).1.drop 1,0) else subQ a b
noncomputable def nrG (l:List (List UInt8)) (t:List UInt8) (best:Int) (least:List UInt8):Nat→Nat→Int × Int
 | 0,_=>(best,0)
 | n+1,i=>if (dsS (l.getD i []) t).2≠0 then (0,(dsS (l.getD i []) t).2) else if (cmpQ (dsS (l.getD i []) t).1 least).2≠0 then (0,(cmpQ (dsS (l.getD i []) t).1 least).2) else if (cmpQ (dsS (l.getD i []) t).1 least).1<0 then nrG l t i (dsS (l.getD i []) t).1 n (i+1) else nrG l t best least n (i+1)
noncomputable def nrS (l:List (List UInt8)) (t:List UInt8):Int × Int:=
 if ckS l≠0∨chkQ t≠0 then (0,1) else if l.length=0 then (0,5) else if (dsS (l.getD 0 []) t).2≠0 then (0,(dsS (l.getD 0 []) t).2) else nrG l t 0 (dsS (l.getD 0 []) t).1 (l.length-1) 1
def absR (x:Rat):Rat:=if x<0 then -x else x
theorem aKy {x:Rat} (h:x<0):(numS x).drop 1=numS (-x):=by
 have hn:x.num<0:=(lt0 x).1 h
 have e1:(-x).num= -x.num:=Rat.neg_num x
 have e2:(-x).den=x.den:=Rat.neg_den x
 unfold numS
 rw[e1,e2]
 have e3:itoa x.num=45::itoa (-x.num):=by
  unfold itoa
  rw[if_pos hn,if_neg (by omega),show x.num.natAbs=(-x.num).toNat by omega]
 rw[e3]
 split<;>rfl
theorem aOy {k:Nat} {x:Rat} (h:Sz k x):Sz k (absR x):=by
 unfold absR
 split
 ·exact ⟨by rw[Rat.neg_num,Int.natAbs_neg];exact h.1,by rw[Rat.neg_den];exact h.2⟩
 ·exact h
theorem aOz {i j:Nat} {a t:Rat} (ha:Sz i a) (ht:Sz j t) (hi:0<i) (hj:0<j) (h:i+j+1≤300):dsS (numS a) (numS t)=(numS (absR (a-t)),0):=by
 have e:=rT ha ht hi hj h
 unfold dsS absR
 rw[e]
 by_cases h0:a-t<0
 ·rw[if_pos ⟨rfl,(lF _).2 h0⟩,if_pos h0,aKy h0]
 ·rw[if_neg (fun h1=>h0 ((lF _).1 h1.2)),if_neg h0]
def flI (q:Rat):Int:=q.num/(q.den:Int)
theorem qB (q:Rat):((flI q:Int):Rat)≤q:=by
 rw[Rat.le_iff,Rat.num_intCast,Rat.den_intCast]
 have:=aOa q
 unfold flI
 simpa using this
theorem nO (q:Rat):q<((flI q+1:Int):Rat):=by
 rw[Rat.lt_iff,Rat.num_intCast,Rat.den_intCast]
 have:=aOb q
 unfold flI
 simpa using this
theorem aMy (q:Rat):itoa (flI q)=numS q↔((flI q:Int):Rat)=q:=by
 rw[← fA]
 exact ⟨fun h=>xJ h,fun h=>by rw[h]⟩
def clI (q:Rat):Int:=if ((flI q:Int):Rat)=q then flI q else flI q+1
theorem aMz (q:Rat):q≤((clI q:Int):Rat):=by
 unfold clI
 split
 ·rename_i h;rw[h];exact Rat.le_refl
 ·exact Rat.le_of_lt (nO q)
theorem aQ0 (q:Rat):((clI q-1:Int):Rat)<q:=by
 unfold clI
 split
 ·rename_i h
  have e:((flI q-1:Int):Rat)=((flI q:Int):Rat)-1:=by rw[Rat.intCast_sub];rfl
  rw[e,h]
  exact Rat.sub_lt_iff.2 (by grind)
 ·rename_i h
  rw[show flI q+1-1=flI q by omega]
  exact Rat.not_le.1 fun h'=>h (Rat.le_antisymm (qB q) h')
theorem aO0 {q:Rat} (h:0<q):0<clI q:=by
 have h1:=aMz q
 have h2:(0:Rat)<((clI q:Int):Rat):=Rat.not_le.1 fun h'=>Rat.not_le.2 h (Rat.le_trans h1 h')
 exact Rat.intCast_pos.1 h2
def iA (lo hi most:Rat):Rat:=(hi-lo)/(clI ((hi-lo)/most):Int)
def evR (lo hi most:Rat):List Rat:=(List.range ((clI ((hi-lo)/most)).toNat+1)).map fun (i:Nat)=>lo+iA lo hi most*((i:Int):Rat)
section
variable {lo hi most:Rat}
theorem aM0 {a b:Rat} (ha:0<a) (hb:0<b):0<a/b:=by
 have e:a/b*b=a:=Rat.div_mul_cancel (by grind)
 refine Rat.not_le.1 fun h=>?_
 have:=Rat.mul_le_mul_of_nonneg_right (c:=b) h (Rat.le_of_lt hb)
 rw[e,Rat.zero_mul] at this
 exact Rat.not_le.2 ha this
theorem aQ1 (h:lo<hi) (hm:0<most):0<clI ((hi-lo)/most):=aO0 (aM0 (by grind) hm)
end
section
variable {α:Type} [DecidableEq α]
end
def aX (L O S:Rat):Int:=flI ((O-L)/S)
def cS (H O S:Rat):Int:=flI ((H-O)/S)
def cO (L O S:Rat):Rat:=O-((aX L O S:Int):Rat)*S
def eM (L H O S:Rat):Int:=aX L O S+cS H O S+1
def atR (L H O S:Rat):List Rat:=(List.range (eM L H O S).toNat).map fun (i:Nat)=>cO L O S+S*((i:Int):Rat)
theorem aM1 {n:Int} {q:Rat}:(n:Rat)≤q↔n≤flI q:=by
 constructor
 ·intro h
  have h1:=nO q
  have h2:(n:Rat)<((flI q+1:Int):Rat):=Rat.not_le.1 fun h'=>Rat.not_le.2 h1 (Rat.le_trans h' h)
  have:=Rat.intCast_lt_intCast.1 h2
  omega
 ·intro h
  exact Rat.le_trans (Rat.intCast_le_intCast.2 h) (qB q)
theorem jZ {a b s:Rat} (hs:0<s):a≤b/s↔a*s≤b:=by
 have e:b/s*s=b:=Rat.div_mul_cancel (by grind)
 constructor
 ·intro h
  have:=Rat.mul_le_mul_of_nonneg_right (c:=s) h (Rat.le_of_lt hs)
  rwa [e] at this
 ·intro h
  refine Rat.not_lt.1 fun hlt=>?_
  have:=Rat.mul_lt_mul_of_pos_right hlt hs
  rw[e] at this
  exact Rat.not_le.2 this h
theorem at_in {L H O S:Rat} (hs:0<S) (i:Nat):cO L O S+S*((i:Int):Rat)≤H↔(i:Int)<eM L H O S:=by
 have e1:((i:Int)-aX L O S)≤flI ((H-O)/S)↔(((i:Int)-aX L O S:Int):Rat)*S≤H-O:=by rw[← aM1,jZ hs]
 have e2:(((i:Int)-aX L O S:Int):Rat)=((i:Int):Rat)-((aX L O S:Int):Rat):=Rat.intCast_sub _ _
 rw[e2] at e1
 have e3:(((i:Int):Rat)-((aX L O S:Int):Rat))*S≤H-O↔cO L O S+S*((i:Int):Rat)≤H:=by
  unfold cO
  rw[Rat.le_iff_sub_nonneg,Rat.le_iff_sub_nonneg (a:=O- _+ _)]
  have:H-O-(((i:Int):Rat)-((aX L O S:Int):Rat))*S=H-(O-((aX L O S:Int):Rat)*S+S*((i:Int):Rat)):=by grind
  rw[this]
 rw[← e3,← e1]
 unfold eM cS
 omega
theorem aG3 {L O S:Rat} (hs:0<S):L≤cO L O S∧cO L O S<L+S:=by
 have h1:((aX L O S:Int):Rat)≤(O-L)/S:=qB _
 rw[jZ hs] at h1
 have h2:¬((aX L O S+1:Int):Rat)≤(O-L)/S:=Rat.not_le.2 (nO _)
 rw[jZ hs] at h2
 have e:((aX L O S+1:Int):Rat)=((aX L O S:Int):Rat)+1:=Rat.intCast_add _ _
 rw[e] at h2
 have h2:=Rat.not_le.1 h2
 unfold cO
 generalize ((aX L O S:Int):Rat)=k at*
 constructor
 ·rw[Rat.le_iff_sub_nonneg] at h1 ⊢
  have:O-k*S-L=O-L-k*S:=by grind
  rwa [this]
 ·rw[Rat.lt_iff_sub_pos] at h2 ⊢
  have:L+S-(O-k*S)=(k+1)*S-(O-L):=by grind
  rwa [this]
section
variable {p q:Rat} {k:Nat}
theorem mF {a b:Nat} (hb:b≠0):a≤a*b:=Nat.le_mul_of_pos_right a (Nat.pos_of_ne_zero hb)
theorem aE1 (h1:p.num.natAbs*q.den<10^k) (h2:q.num.natAbs*p.den<10^k) (h3:p.den*q.den<10^k):Sz k p∧Sz k q:=by
 have n1:=q.den_nz
 have n2:=p.den_nz
 exact ⟨⟨Nat.lt_of_le_of_lt (mF n1) h1,Nat.lt_of_le_of_lt (mF n1) h3⟩,⟨Nat.lt_of_le_of_lt (mF n2) h2,Nat.lt_of_le_of_lt (by rw[Nat.mul_comm];exact mF n2) h3⟩⟩
theorem aG4 (hk:0<k∧k+1≤300) (h1:p.num.natAbs*q.den<10^k) (h2:q.num.natAbs*p.den<10^k) (h3:p.den*q.den<10^k):addQ (numS p) (numS q)=(numS (p+q),0):=by
 obtain ⟨zp,zq⟩:=aE1 h1 h2 h3
 have e1:(p.num*q.den).natAbs<10^k:=by rw[Int.natAbs_mul,Int.natAbs_natCast];exact h1
 have e2:(q.num*p.den).natAbs<10^k:=by rw[Int.natAbs_mul,Int.natAbs_natCast];exact h2
 unfold addQ
 rw[mR zp zq ⟨hk.1,by omega⟩ ⟨hk.1,by omega⟩,if_neg]
 simp only[Bool.or_eq_true,not_or,Bool.not_eq_true]
 exact ⟨⟨⟨bK ⟨hk.1,by omega⟩ e1,bK ⟨hk.1,by omega⟩ e2⟩,bK (k:=k+1) ⟨by omega,hk.2⟩ (gH e1 e2).1⟩,bK ⟨hk.1,by omega⟩ (by rw[← Int.natCast_mul,Int.natAbs_natCast];exact h3)⟩
theorem aQ2 (hk:0<k∧k+1≤300) (h1:p.num.natAbs*q.den<10^k) (h2:q.num.natAbs*p.den<10^k) (h3:p.den*q.den<10^k):subQ (numS p) (numS q)=(numS (p-q),0):=by
 obtain ⟨zp,zq⟩:=aE1 h1 h2 h3
 have e1:(p.num*q.den).natAbs<10^k:=by rw[Int.natAbs_mul,Int.natAbs_natCast];exact h1
 have e2:(q.num*p.den).natAbs<10^k:=by rw[Int.natAbs_mul,Int.natAbs_natCast];exact h2
 unfold subQ
 rw[mR zp zq ⟨hk.1,by omega⟩ ⟨hk.1,by omega⟩,if_neg]
 simp only[Bool.or_eq_true,not_or,Bool.not_eq_true]
 exact ⟨⟨⟨bK ⟨hk.1,by omega⟩ e1,bK ⟨hk.1,by omega⟩ e2⟩,bK (k:=k+1) ⟨by omega,hk.2⟩ (gH e1 e2).2⟩,bK ⟨hk.1,by omega⟩ (by rw[← Int.natCast_mul,Int.natAbs_natCast];exact h3)⟩
theorem aQ3 (hk:0<k∧k≤300) (zp:Sz k p) (zq:Sz k q) (h1:p.num.natAbs*q.num.natAbs<10^k) (h3:p.den*q.den<10^k):mulQ (numS p) (numS q)=(numS (p*q),0):=by
 unfold mulQ
 rw[mR zp zq hk hk,if_neg]
 simp only[Bool.or_eq_true,not_or,Bool.not_eq_true]
 exact ⟨bK hk (by rw[Int.natAbs_mul];exact h1),bK hk (by rw[← Int.natCast_mul,Int.natAbs_natCast];exact h3)⟩
theorem aQ4 (p q:Rat):cmpI (p.num*q.den) (q.num*p.den)=cmpR p q:=by
 unfold cmpI cmpR
 by_cases h1:p<q
 ·rw[if_pos h1,if_pos ((Rat.lt_iff p q).1 h1)]
 ·rw[if_neg h1,if_neg (fun h=>h1 ((Rat.lt_iff p q).2 h))]
  by_cases h2:q<p
  ·have:=(Rat.lt_iff q p).1 h2
   rw[if_pos h2,if_neg (by omega)]
  ·have h3:¬q.num*p.den<p.num*q.den:=fun h=>h2 ((Rat.lt_iff q p).2 h)
   have h4:¬p.num*q.den<q.num*p.den:=fun h=>h1 ((Rat.lt_iff p q).2 h)
   rw[if_neg h2,if_pos (by omega)]
theorem aM2 (hk:0<k∧k≤300) (zp:Sz k p) (zq:Sz k q) (h1:p.num.natAbs*q.den<10^k) (h2:q.num.natAbs*p.den<10^k):cmpQ (numS p) (numS q)=(cmpR p q,0):=by
 have e1:(p.num*q.den).natAbs<10^k:=by rw[Int.natAbs_mul,Int.natAbs_natCast];exact h1
 have e2:(q.num*p.den).natAbs<10^k:=by rw[Int.natAbs_mul,Int.natAbs_natCast];exact h2
 unfold cmpQ
 rw[if_neg (by rw[iN zp hk];simp),if_neg (by rw[iN zq hk];simp),bV,bV]
 unfold cmpf
 rw[if_neg]
 ·rw[aQ4]
 simp only[Bool.or_eq_true,not_or,Bool.not_eq_true]
 exact ⟨bK hk e1,bK hk e2⟩
end
theorem aCo (q:Rat):((q.num:Int):Rat)=q*((q.den:Nat):Rat):=by
 have h:((q.den:Nat):Rat)≠0:=by
  have:=q.den_pos
  have:=Rat.natCast_pos.2 this
  exact fun e=>Rat.lt_irrefl (e ▸ this)
 have e:q=(q.num:Rat)/((q.den:Nat):Rat):=by
  conv=>lhs;rw[← Rat.mkRat_self q,Rat.mkRat_eq_div]
 conv=>rhs;lhs;rw[e]
 rw[Rat.div_mul_cancel h]
theorem mG (q:Rat):(0:Rat)≤((q.den:Nat):Rat):=Rat.natCast_nonneg
theorem aM3 {x H S:Rat} (c:Nat) (h:x≤H+(c:Rat)*S):x.num*(H.den*S.den:Nat)≤(H.num*S.den+c*S.num*H.den)*x.den:=by
 apply Rat.intCast_le_intCast.1
 simp only[Rat.intCast_mul,Rat.intCast_add,Rat.intCast_natCast,Rat.natCast_mul,aCo]
 have:=Rat.mul_le_mul_of_nonneg_right (c:=((x.den:Nat):Rat)*(((H.den:Nat):Rat)*((S.den:Nat):Rat))) h (Rat.mul_nonneg (mG x) (Rat.mul_nonneg (mG H) (mG S)))
 grind
theorem aQ5 {x H S:Rat} (c:Nat) (h:H-(c:Rat)*S≤x):(H.num*S.den-c*S.num*H.den)*x.den≤x.num*(H.den*S.den:Nat):=by
 apply Rat.intCast_le_intCast.1
 simp only[Rat.intCast_mul,Rat.intCast_sub,Rat.intCast_natCast,Rat.natCast_mul,aCo]
 have:=Rat.mul_le_mul_of_nonneg_right (c:=((x.den:Nat):Rat)*(((H.den:Nat):Rat)*((S.den:Nat):Rat))) h (Rat.mul_nonneg (mG x) (Rat.mul_nonneg (mG H) (mG S)))
 grind
end RB
end

/-
  Part 6: a symbolic executor over the model, contracts of functions and plain laws.
-/
import Derived.Test.YtabmgmflgfoleaaGreatDoorP5
import Init.Data.Rat
section
set_option linter.unusedVariables false
set_option linter.unusedVariables false
namespace IB
theorem aMl {B:Nat} (hB:2≤B) {l:List Int} (h:InB B l) (j:Nat):((l.getD (j+2) 0*B+l.getD (j+1) 0)*B+l.getD j 0)*(B:Int)^j≤valB B l:=by
 by_cases hj:j<l.length
 ·have e0:=dZ (B:=B) l j (by omega)
  have b0:=aZ (iW h j)
  have hP:=dF hB j
  rw[bD l j hj] at e0
  simp only[valB] at e0
  have h1:l.getD (j+2) 0*B+l.getD (j+1) 0≤valB B (l.drop (j+1)):=by
   by_cases h1:j+1<l.length
   ·rw[bD l (j+1) h1]
    simp only[valB]
    have h2:l.getD (j+2) 0≤valB B (l.drop (j+1+1)):=by
     by_cases h2:j+2<l.length
     ·rw[bD l (j+1+1) h2]
      simp only[valB]
      have:=aZ (fF h (j+1+1+1))
      have h3:(0:Int)≤(B:Int)*valB B (l.drop (j+1+1+1)):=Int.mul_nonneg (by omega) this
      show l.getD (j+1+1) 0≤ _
      omega
     ·rw[dT l (j+2) (by omega)]
      exact aZ (fF h _)
    have h3:(B:Int)*l.getD (j+2) 0≤B*valB B (l.drop (j+1+1)):=Int.mul_le_mul_of_nonneg_left h2 (by omega)
    rw[Int.mul_comm (l.getD (j+2) 0)]
    omega
   ·rw[dT l (j+2) (by omega),dT l (j+1) (by omega),Int.zero_mul,Int.zero_add]
    exact aZ (fF h _)
  have h2:(l.getD (j+2) 0*B+l.getD (j+1) 0)*B≤valB B (l.drop (j+1))*B:=Int.mul_le_mul_of_nonneg_right h1 (by omega)
  rw[Int.mul_comm (valB B (l.drop (j+1)))] at h2
  have h3:((l.getD (j+2) 0*B+l.getD (j+1) 0)*B+l.getD j 0)*(B:Int)^j≤(l.getD j 0+B*valB B (l.drop (j+1)))*(B:Int)^j:=Int.mul_le_mul_of_nonneg_right (by omega) (Int.le_of_lt hP)
  rw[Int.mul_comm (l.getD j 0+B*valB B (l.drop (j+1)))] at h3
  omega
 ·rw[dT l (j+2) (by omega),dT l (j+1) (by omega),dT l j (by omega)]
  simp only[Int.zero_mul,Int.add_zero]
  exact aZ h
theorem aQk {B:Nat} (hB:2≤B) {b:List Int} (h:InB B b) (hk:2≤b.length):valB B b≤(b.getD (b.length-1) 0*B+b.getD (b.length-2) 0+1)*(B:Int)^ (b.length-2):=by
 have e0:=dZ (B:=B) b (b.length-2) (by omega)
 have b0:=eJ hB (iW h (b.length-2)) (n:=b.length-2) (by rw[List.length_take];omega)
 rw[bD b (b.length-2) (by omega),show b.length-2+1=b.length-1 by omega,bD b (b.length-1) (by omega),List.drop_eq_nil_of_le (by omega)] at e0
 simp only[valB,Int.mul_zero,Int.add_zero] at e0
 rw[e0,show (b.getD (b.length-1) 0*(B:Int)+b.getD (b.length-2) 0+1)*(B:Int)^ (b.length-2)=(B:Int)^ (b.length-2)*(b.getD (b.length-2) 0+B*b.getD (b.length-1) 0)+(B:Int)^ (b.length-2) by
  rw[Int.add_mul _ 1,Int.one_mul,Int.mul_comm _ ((B:Int)^ (b.length-2)),Int.add_comm _ (b.getD (b.length-2) 0),Int.mul_comm _ (B:Int)]]
 omega
theorem aKj {B:Nat} (hB:2≤B) {b:List Int} (hb:InB B b) (hk:2≤b.length) {n R:Nat} (hn:0<n) (hv:valB B b=n) (hR:R<n*B) (t3:Int)
  (ht:t3=((aB B R).getD b.length 0*B+(aB B R).getD (b.length-1) 0)*B+(aB B R).getD (b.length-2) 0):
  0≤t3/(b.getD (b.length-1) 0*B+b.getD (b.length-2) 0+1)∧t3/(b.getD (b.length-1) 0*B+b.getD (b.length-2) 0+1)<B∧t3/(b.getD (b.length-1) 0*B+b.getD (b.length-2) 0+1)*n≤R:=by
 have hi:=aP hB R
 have h3:=aMl hB hi (b.length-2)
 rw[show b.length-2+2=b.length by omega,show b.length-2+1=b.length-1 by omega,cK hB,← ht] at h3
 have h2:=aQk hB hb hk
 rw[hv] at h2
 have g1:=hb.get (show b.length-1<b.length by omega)
 have g2:=hb.get (show b.length-2<b.length by omega)
 have x0:=hi.getD0 (by omega) b.length
 have x1:=hi.getD0 (by omega) (b.length-1)
 have x2:=hi.getD0 (by omega) (b.length-2)
 have top0:0≤b.getD (b.length-1) 0*(B:Int):=Int.mul_nonneg g1.1 (by omega)
 have t0:0≤t3:=by
  rw[ht]
  have:=Int.mul_nonneg x0.1 (show (0:Int)≤B by omega)
  have:=Int.mul_nonneg (show 0≤(aB B R).getD b.length 0*B+(aB B R).getD (b.length-1) 0 by omega) (show (0:Int)≤B by omega)
  omega
 obtain ⟨e1,e2⟩:=aOs (V:=(n:Int)) (R:=(R:Int)) (t3:=t3) (top:=b.getD (b.length-1) 0*B+b.getD (b.length-2) 0) (P:=(B:Int)^ (b.length-2)) (dF hB _) (by omega) h2 (by omega) h3 t0
 refine ⟨e1,?_,(Int.le_ediv_iff_mul_le (by omega)).1 e2⟩
 refine Int.lt_of_le_of_lt e2 (Int.ediv_lt_of_lt_mul (by omega) ?_)
 rw[Int.mul_comm]
 exact_mod_cast hR
end IB
end
section
open Go Go.Proofs Go.Eng Go.Shelf IB Go.Lib Go.RowKit
namespace RB
set_option maxRecDepth 10000
set_option linter.unusedVariables false
set_option linter.unusedSimpArgs false
theorem xN {B:Nat} (hB:2≤B) {a b:List Int} (ha:InB B a) (hb:InB B b) (hl:a.length=b.length):∀m,m≤a.length→(∀j,m≤j→j<a.length→a.getD j 0=b.getD j 0)→
  (eL a b m<0↔valB B a<valB B b)∧(eL a b m=0↔valB B a=valB B b)
 | 0,_,h=>by
  have:a=b:=gU hl fun j hj=>h j (Nat.zero_le _) hj
  subst this
  simp[eL]
 | m+1,hm,h=>by
  simp only[eL]
  by_cases e:a.getD m 0=b.getD m 0
  ·rw[if_pos e]
   refine xN hB ha hb hl m (by omega) fun j h1 h2=>?_
   by_cases e2:j=m
   ·rw[e2];exact e
   ·exact h j (by omega) h2
  ·rw[if_neg e]
   rcases Int.lt_or_gt_of_ne e with h1 | h1
   ·have:=uE (B:=B) hB ha hb hl (by omega) (fun j h2 h3=>h j (by omega) h3) h1
    omega
   ·have:=uE (B:=B) hB hb ha hl.symm (by omega) (fun j h2 h3=>(h j (by omega) (by omega)).symm) h1
    omega
theorem xO {B:Nat} (hB:2≤B) (m n:Nat):(cmpL (aB B m) (aB B n)<0↔m<n)∧(cmpL (aB B m) (aB B n)=0↔m=n):=by
 unfold cmpL
 split
 ·rename_i hl
  have:=xN hB (aP hB m) (aP hB n) hl _ (Nat.le_refl _) fun j h1 h2=>by omega
  rw[cK hB,cK hB] at this
  omega
 ·rename_i hl
  by_cases h:(aB B m).length<(aB B n).length
  ·have:=fT hB h
   omega
  ·have:=fT hB (m:=n) (n:=m) (by omega)
   omega
theorem aKr {n:Nat} (h:(aB B6 n).length=1):(aB B6 n).getD 0 0=n∧n<1000000:=by
 have hv:=v6 n
 have hg:=get6 (show InB B6 (aB B6 n) from aP (by decide) n) 0
 cases hl:aB B6 n with
 | nil=>rw[hl] at h;simp at h
 | cons x r=>
  have hr:r= []:=by rw[hl] at h;simpa using h
  subst hr
  rw[hl] at hv hg
  simp only[valB,Int.mul_zero,Int.add_zero] at hv
  refine ⟨hv,?_⟩
  have hg:0≤x∧x<1000000:=hg
  omega
theorem dG {p q:Nat} (h:p≤q):(aB B6 p).length≤(aB B6 q).length:=Classical.byContradiction fun hx=>by
 have:=fT (B:=B6) (by decide) (m:=q) (n:=p) (by omega)
 omega
def r9 (n:Nat) (a:List Int):Nat→SV
 | 0=>.ref 3 1
 | m+1=>Ls (aB B6 (divK B6 n a (m+1)).2.toNat)
theorem hU {m k:Nat} (h:m<B6^k):(aB B6 m).length≤k:=by
 by_cases h0:m=0
 ·subst h0;rw[aY];exact Nat.zero_le _
 ·have:=(dC (B:=B6) (by decide) (n:=m) (by omega)).1
  have:=(Nat.pow_lt_pow_iff_right (show 1<B6 by decide)).1 (Nat.lt_of_le_of_lt (by exact_mod_cast this) h)
  omega
theorem aNj {p q:Nat} {x:Int} (hc:(x<0↔p<q)∧(x=0↔p=q)) (h:0≤sgnI x):q≤p:=by
 unfold sgnI at h
 split at h<;>omega
theorem aNk {p q:Nat} {x:Int} (hc:(x<0↔p<q)∧(x=0↔p=q)) (h:¬0≤sgnI x):p<q:=by
 unfold sgnI at h
 split at h
 ·omega
 ·split at h<;>omega
theorem aFl {B:Nat} (hB:2≤B) {d:Int} (hd:0<d) {a:List Int} (ha:InB B a):
  bU (divK B d a a.length).1=aB B (valB B a/d).toNat∧(divK B d a a.length).2=valB B a%d:=by
 obtain ⟨h1,h2,h3,h4⟩:=jF hB hd ha a.length (Nat.le_refl _)
 rw[Nat.sub_self,List.drop_zero,List.drop_zero] at h4
 have h5:valB B a/d=valB B (divK B d a a.length).1∧valB B a%d=(divK B d a a.length).2:=by
  rw[Int.ediv_emod_unique hd]
  exact ⟨by rw[Int.add_comm,Int.mul_comm];exact h4,h3.1,h3.2⟩
 exact ⟨by rw[h5.1];exact cB hB h2,h5.2.symm⟩
theorem aAt {n R r g m:Nat} {a:List Int} (hn:0<n) (hR:a.getD (a.length-1-m) 0+(r:Int)*1000000=R) (hr:(divK B6 n a m).2=r) (hg:n*g≤R) (hlt:R-n*g<n):
  (divK B6 n a (m+1)).1=(divK B6 n a m).1.set (a.length-1-m) g∧(divK B6 n a (m+1)).2=((R-n*g:Nat):Int):=by
 have hx:a.getD (a.length-1-m) 0+(divK B6 n a m).2*(B6:Int)=R:=by
  rw[hr,← hR];rfl
 have e1:R/n=g:=by
  refine Nat.div_eq_of_lt_le (by rw[Nat.mul_comm];exact hg) ?_
  rw[Nat.succ_mul,Nat.mul_comm];omega
 have e2:R%n=R-n*g:=by
  have:=Nat.div_add_mod R n
  rw[e1] at this;omega
 simp only[divK]
 rw[hx,← Int.natCast_ediv,← Int.natCast_emod,e1,e2]
 exact ⟨rfl,rfl⟩
set_option maxHeartbeats 1600000 in
theorem b113 (a:List Int) (n:Nat) (h:InB B6 a∧(0<n∧n<B6^100)∧a.length≤1000):body Tryz.prog [c142,c141,c143,c145,c144,c146] { asks:=[(0,[]),(2,[])] } false Tryz.f196 [Ls a,Ls (aB B6 n)] (.tup [Ls (aB B6 (valB B6 a/n).toNat),Ls (aB B6 (valB B6 a%n).toNat)]):=by
 obtain ⟨ha,⟨hn0,hn⟩,hla⟩:=h
 have jn:InB B6 (aB B6 n):=aP (by decide) n
 have vn:=v6 n
 (repeat'((conv=>whnf);first|refine Zg fun _=>?_|fail))
 (refine Br.mk (fun _=>?_) (fun _=>?_))
 ·rename_i h1
  obtain ⟨hx,hxlt⟩:=aKr (n:=n) (by omega)
  (repeat'((conv=>whnf);first|refine Zg fun _=>?_|refine Zn ?_|refine Z0 ?_|fail))
  refine Need.mk ⟨ha,by omega,by omega⟩ ?_
  rw[hx]
  skip
  (conv=>whnf)
  (repeat'(first|exact trivial|rfl|refine And.intro ?_ ?_|fail))
 ·rename_i h1
  have hk:2≤(aB B6 n).length:=by
   have:=(dC (B:=B6) (by decide) hn0).2.2
   omega
  obtain ⟨b,hb⟩:∃b,aB B6 n=b:=⟨_,rfl⟩
  have hbl:b.length≤200:=by
   rw[← hb]
   have:=(dC (B:=B6) (by decide) hn0).1
   have:=(Nat.pow_lt_pow_iff_right (show 1<B6 by decide)).1 (Nat.lt_of_le_of_lt (by exact_mod_cast this) hn)
   omega
  rw[hb] at jn vn hk h1 ⊢
  have gt1:=get6 jn (b.length-1)
  have gt2:=get6 jn (b.length-2)
  (repeat'((conv=>whnf);first|refine Zg fun _=>?_|refine Zn ?_|(apply Pin.mk;apply Exists.intro)|apply Pinned.mk rfl rfl|fail))
  refine cH (b.length-1) (by omega) ?_
  (repeat'((conv=>whnf);first|refine Zg fun _=>?_|refine Zn ?_|(apply Pin.mk;apply Exists.intro)|apply Pinned.mk rfl rfl|fail))
  refine cH (b.length-2) (by omega) ?_
  (repeat'((conv=>whnf);first|refine Zg fun _=>?_|refine Zn ?_|(apply Pin.mk;apply Exists.intro)|apply Pinned.mk rfl rfl|refine Z8 ?_|fail))
  (conv=>whnf)
  refine Ask.mk ⟨{ X:=Nat,pre:=fun m=>m≤a.length,mod:=fun m _=>[(9,r9 n a m),(10,I ((a.length:Int)-1-m))],heap:=fun m _=>[V [],V [],V (divK B6 n a m).1,V []],mu:=fun m=>a.length-m },rfl,?_⟩
  (repeat'((conv=>whnf);first|refine Zn ?_|fail))
  refine ⟨⟨(0:Nat),Nat.zero_le _,?_⟩,fun (m:Nat) (hm:m≤a.length)=>?_⟩
  ·(repeat'(first|exact trivial|rfl|refine And.intro ?_ ?_|omega|fail))
  have hnI:(0:Int)<n:=by omega
  obtain ⟨g1,g2,g3,_⟩:=jF (B:=B6) (by decide) hnI ha m hm
  have ga:=get6 ha (a.length-1-m)
  obtain ⟨r,hr⟩:∃r:Nat,(divK B6 n a m).2=r:=⟨_,(Int.eq_ofNat_of_zero_le g3.1).choose_spec⟩
  obtain ⟨R,hR⟩:∃R:Nat,a.getD (a.length-1-m) 0+(r:Int)*1000000=R:=⟨_,(Int.eq_ofNat_of_zero_le (by omega)).choose_spec⟩
  have hL:bU (a.getD (a.length-1-m) 0::aB B6 r)=aB B6 R:=by
   rw[cB (B:=B6) (by decide) (InB.cons.2 ⟨ga,aP (by decide) r⟩)]
   congr 1
   show (a.getD (a.length-1-m) 0+(B6:Int)*valB B6 (aB B6 r)).toNat=R
   rw[v6,Int.mul_comm]
   show (a.getD (a.length-1-m) 0+(r:Int)*1000000).toNat=R
   omega
  have hRn:R<n*B6:=by
   have:(r:Int)<n:=by omega
   show R<n*1000000
   omega
  have lR:(aB B6 R).length≤101:=hU (Nat.lt_of_lt_of_le hRn (by rw[Nat.pow_succ];exact Nat.mul_le_mul_right _ (Nat.le_of_lt hn)))
  have rb:=aKj (B:=B6) (by decide) jn hk hn0 vn hRn _ rfl
  have x0:=get6 (show InB B6 (aB B6 R) from aP (by decide) R) b.length
  have x1:=get6 (show InB B6 (aB B6 R) from aP (by decide) R) (b.length-1)
  have x2:=get6 (show InB B6 (aB B6 R) from aP (by decide) R) (b.length-2)
  obtain ⟨G,hG⟩:∃G:Nat,(((aB B6 R).getD b.length 0*1000000+(aB B6 R).getD (b.length-1) 0)*1000000+(aB B6 R).getD (b.length-2) 0)/(b.getD (b.length-1) 0*1000000+b.getD (b.length-2) 0+1)=G:=⟨_,(Int.eq_ofNat_of_zero_le rb.1).choose_spec⟩
  have G1:G<1000000:=by
   have:(((aB B6 R).getD b.length 0*1000000+(aB B6 R).getD (b.length-1) 0)*1000000+(aB B6 R).getD (b.length-2) 0)/(b.getD (b.length-1) 0*1000000+b.getD (b.length-2) 0+1)<1000000:=rb.2.1
   omega
  have G2:n*G≤R:=by
   have h3:(((aB B6 R).getD b.length 0*1000000+(aB B6 R).getD (b.length-1) 0)*1000000+(aB B6 R).getD (b.length-2) 0)/(b.getD (b.length-1) 0*1000000+b.getD (b.length-2) 0+1)*(n:Int)≤R:=rb.2.2
   rw[hG,Int.mul_comm] at h3
   exact_mod_cast h3
  have iG:InB B6 [(G:Int)]:=fun x hx=>by
   have:x=G:=by simpa using hx
   subst this
   exact ⟨by omega,by show (G:Int)<1000000;omega⟩
  have eG:(valB B6 b*valB B6 [(G:Int)]).toNat=n*G:=by
   rw[vn,show valB B6 [(G:Int)]=G by simp[valB],← Int.natCast_mul,Int.toNat_natCast]
  rcases m with _ | m
  ·have hr0:r=0:=by
    have:(divK B6 n a 0).2=0:=rfl
    omega
   rw[hr0,aY] at hL
   skip
   (refine Br.mk (fun _=>?_) (fun _=>?_))
   ·have hlt:0<a.length:=by omega
    (repeat'((conv=>whnf);first|refine Zn ?_|fail))
    refine cH (a.length-1) (by omega) ?_
    (repeat'((conv=>whnf);first|refine Zg fun _=>?_|fail))
    (conv=>whnf)
    refine Own.r ?_
    (repeat'((conv=>whnf);first|refine Zn ?_|refine Zj ?_|fail))
    (conv=>whnf)
    rw[show bU ([a.getD (a.length-1) 0]++ [])=aB B6 R from hL]
    (repeat'((conv=>whnf);first|refine Zn ?_|fail))
    refine cH (b.length-1) (by omega) ?_
    (repeat'((conv=>whnf);first|refine Zn ?_|fail))
    refine cH (b.length-2) (by omega) ?_
    (repeat'((conv=>whnf);first|refine Za ?_|refine Zn ?_|fail))
    rw[hG]
    (repeat'((conv=>whnf);first|refine Zl ?_|fail))
    (conv=>whnf)
    refine Need.mk ⟨jn,iG,by omega,by show 1≤100000;omega⟩ ?_
    rw[eG]
    skip
    (conv=>whnf)
    have lnG:=dG G2
    refine Need.mk ⟨aP (by decide) _,aP (by decide) _,by rw[v6,v6];exact_mod_cast G2,lnG,by omega⟩ ?_
    rw[show (valB B6 (aB B6 R)-valB B6 (aB B6 (n*G))).toNat=R-n*G by rw[v6,v6];omega]
    skip
    refine Ask.mk ⟨{ X:=Nat,pre:=fun g=>n*g≤R,mod:=fun g _=>[(9,Ls (aB B6 (R-n*g))),(11,I g)],heap:=fun _ _=>[V [],V [],V (divK B6 n a (0)).1,V [],.dead],mu:=fun g=>R-n*g },rfl,?_⟩
    (repeat'((conv=>whnf);first|refine Zn ?_|fail))
    refine ⟨⟨(G:Nat),G2,by (repeat'(first|exact trivial|rfl|refine And.intro ?_ ?_|fail))⟩,fun (g:Nat) (hg:n*g≤R)=>?_⟩
    have gB:g<1000000:=Nat.lt_of_mul_lt_mul_left (Nat.lt_of_le_of_lt hg hRn)
    have hc:=xO (B:=B6) (by decide) (R-n*g) n
    rw[hb] at hc
    have iR:InB B6 (aB B6 (R-n*g)):=aP (by decide) _
    have lR':=dG (show R-n*g≤R by omega)
    skip
    refine Need.mk ⟨iR,jn⟩ ?_
    skip
    (refine Br.mk (fun _=>?_) (fun _=>?_))
    ·rename_i hs
     have hle:n≤R-n*g:=aNj hc hs
     have lb:=dG hle
     rw[hb] at lb
     skip
     refine Need.mk ⟨iR,jn,by rw[v6,vn];exact_mod_cast hle,lb,by omega⟩ ?_
     rw[show (valB B6 (aB B6 (R-n*g))-valB B6 b).toNat=R-n*(g+1) by rw[v6,vn,Nat.mul_succ];omega]
     (repeat'((conv=>whnf);first|refine Zn ?_|fail))
     refine ⟨(g+1:Nat),by show R-n*(g+1)<R-n*g;rw[Nat.mul_succ];omega,by show n*(g+1)≤R;rw[Nat.mul_succ];omega,?_⟩
     (repeat'(first|exact trivial|rfl|refine And.intro ?_ ?_|fail))
    ·rename_i hs
     have hlt2:R-n*g<n:=aNk hc hs
     obtain ⟨z1,z2⟩:=aAt hn0 hR hr (show n*g≤R from hg) hlt2
     (repeat'((conv=>whnf);first|refine Zn ?_|fail))
     refine cH (a.length-1-(0)) (by omega) ?_
     (repeat'((conv=>whnf);first|refine Zn ?_|fail))
     refine ⟨(1:Nat),by show a.length-(1)<a.length-(0);omega,hlt,?_⟩
     (repeat'(first|exact trivial|rfl|refine And.intro ?_ ?_|omega|fail))
     ·rw[show r9 n a 1=Ls (aB B6 (divK B6 n a (1)).2.toNat) from rfl,z2,Int.toNat_natCast]
      (repeat'(first|rfl|fail))
     ·exact z1.symm
   ·have e:0=a.length:=by omega
    skip
    (conv=>whnf)
    obtain ⟨y1,y2⟩:=aFl (B:=B6) (by decide) hnI ha
    rw[← e] at y1 y2
    (repeat'(first|exact trivial|refine And.intro ?_ ?_|fail))
    ·exact y1
    ·rw[← y2,show (divK B6 n a 0).2=0 from rfl,Int.toNat_zero,aY]
     (repeat'(first|rfl|fail))
  ·have hrt:r=(divK B6 n a (m+1)).2.toNat:=by omega
   have lr:(aB B6 (divK B6 n a (m+1)).2.toNat).length≤200:=by
    rw[← hrt]
    refine Nat.le_trans (dG (show r≤n by omega)) ?_
    rw[hb];exact hbl
   rw[hrt] at hL
   skip
   (refine Br.mk (fun _=>?_) (fun _=>?_))
   ·have hlt:m+1<a.length:=by omega
    (repeat'((conv=>whnf);first|refine Zn ?_|fail))
    refine cH (a.length-1-(m+1)) (by omega) ?_
    (repeat'((conv=>whnf);first|refine Zg fun _=>?_|fail))
    (conv=>whnf)
    refine Own.r ?_
    (repeat'((conv=>whnf);first|refine Zn ?_|refine Zj ?_|fail))
    (conv=>whnf)
    rw[show bU ([a.getD (a.length-1-(m+1)) 0]++aB B6 (divK B6 n a (m+1)).2.toNat)=aB B6 R from hL]
    (repeat'((conv=>whnf);first|refine Zn ?_|fail))
    refine cH (b.length-1) (by omega) ?_
    (repeat'((conv=>whnf);first|refine Zn ?_|fail))
    refine cH (b.length-2) (by omega) ?_
    (repeat'((conv=>whnf);first|refine Za ?_|refine Zn ?_|fail))
    rw[hG]
    (repeat'((conv=>whnf);first|refine Zl ?_|fail))
    (conv=>whnf)
    refine Need.mk ⟨jn,iG,by omega,by show 1≤100000;omega⟩ ?_
    rw[eG]
    skip
    (conv=>whnf)
    have lnG:=dG G2
    refine Need.mk ⟨aP (by decide) _,aP (by decide) _,by rw[v6,v6];exact_mod_cast G2,lnG,by omega⟩ ?_
    rw[show (valB B6 (aB B6 R)-valB B6 (aB B6 (n*G))).toNat=R-n*G by rw[v6,v6];omega]
    skip
    refine Ask.mk ⟨{ X:=Nat,pre:=fun g=>n*g≤R,mod:=fun g _=>[(9,Ls (aB B6 (R-n*g))),(11,I g)],heap:=fun _ _=>[V [],V [],V (divK B6 n a (m+1)).1,V [],.dead],mu:=fun g=>R-n*g },rfl,?_⟩
    (repeat'((conv=>whnf);first|refine Zn ?_|fail))
    refine ⟨⟨(G:Nat),G2,by (repeat'(first|exact trivial|rfl|refine And.intro ?_ ?_|fail))⟩,fun (g:Nat) (hg:n*g≤R)=>?_⟩
    have gB:g<1000000:=Nat.lt_of_mul_lt_mul_left (Nat.lt_of_le_of_lt hg hRn)
    have hc:=xO (B:=B6) (by decide) (R-n*g) n
    rw[hb] at hc
    have iR:InB B6 (aB B6 (R-n*g)):=aP (by decide) _
    have lR':=dG (show R-n*g≤R by omega)
    skip
    refine Need.mk ⟨iR,jn⟩ ?_
    skip
    (refine Br.mk (fun _=>?_) (fun _=>?_))
    ·rename_i hs
     have hle:n≤R-n*g:=aNj hc hs
     have lb:=dG hle
     rw[hb] at lb
     skip
     refine Need.mk ⟨iR,jn,by rw[v6,vn];exact_mod_cast hle,lb,by omega⟩ ?_
     rw[show (valB B6 (aB B6 (R-n*g))-valB B6 b).toNat=R-n*(g+1) by rw[v6,vn,Nat.mul_succ];omega]
     (repeat'((conv=>whnf);first|refine Zn ?_|fail))
     refine ⟨(g+1:Nat),by show R-n*(g+1)<R-n*g;rw[Nat.mul_succ];omega,by show n*(g+1)≤R;rw[Nat.mul_succ];omega,?_⟩
     (repeat'(first|exact trivial|rfl|refine And.intro ?_ ?_|fail))
    ·rename_i hs
     have hlt2:R-n*g<n:=aNk hc hs
     obtain ⟨z1,z2⟩:=aAt hn0 hR hr (show n*g≤R from hg) hlt2
     (repeat'((conv=>whnf);first|refine Zn ?_|fail))
     refine cH (a.length-1-(m+1)) (by omega) ?_
     (repeat'((conv=>whnf);first|refine Zn ?_|fail))
     refine ⟨(m+1+1:Nat),by show a.length-(m+1+1)<a.length-(m+1);omega,hlt,?_⟩
     (repeat'(first|exact trivial|rfl|refine And.intro ?_ ?_|omega|fail))
     ·rw[show r9 n a (m+1+1)=Ls (aB B6 (divK B6 n a (m+1+1)).2.toNat) from rfl,z2,Int.toNat_natCast]
      (repeat'(first|rfl|fail))
     ·exact z1.symm
   ·have e:m+1=a.length:=by omega
    skip
    (conv=>whnf)
    obtain ⟨y1,y2⟩:=aFl (B:=B6) (by decide) hnI ha
    rw[← e] at y1 y2
    (repeat'(first|exact trivial|refine And.intro ?_ ?_|fail))
    ·exact y1
    ·rw[y2]
     (repeat'(first|rfl|fail))
def eW (b:List Int):Prop:=aB B6 (valB B6 b).toNat=b
theorem iY (m:Nat):eW (aB B6 m):=by
 unfold eW;rw[v6,Int.toNat_natCast]
theorem sK {b:List Int} (h:eW b):InB B6 b:=by
 rw[← h];exact aP (by decide) _
theorem xP {b:List Int} (h:eW b):((valB B6 b).toNat:Int)=valB B6 b:=by
 rw[← v6,h]
def c113:Con:=aK 196 false fun args K=>match args with
 | [.seq (.int .i64) a,.seq (.int .i64) b]=>Need (InB B6 a∧eW b∧(0<(valB B6 b).toNat∧(valB B6 b).toNat<B6^100)∧a.length≤1000) (K (.tup [Ls (aB B6 (valB B6 a/valB B6 b).toNat),Ls (aB B6 (valB B6 a%valB B6 b).toNat)]))
 | _=>False
theorem k113:aG Tryz.prog c113:=by
 refine aC rfl (enters_of Tryz.func196 (by kernel_rfl) rfl) ?_
 intro args K h
 simp only[c113] at h
 split at h
 ·rename_i a b
  refine ⟨_,h.go,?_⟩
  obtain ⟨ha,hb,hn,hl⟩:=h.ok
  have ht:=aA (Γ:=[c142,c141,c143,c145,c144,c146]) (by simp[k142,k141,k143,k145,k144,k146]) Tryz.func196 (by simp[Tryz.ntmps196]) rfl (b113 a (valB B6 b).toNat ⟨ha,hn,hl⟩)
  rw[hb,xP hb] at ht
  exact ht
 ·exact h.elim
theorem eN {s:List UInt8} {i:Nat} (hi:i<s.length):aJ s i=(s[i].toNat:Int):=by
 unfold aJ
 rw[show s.getD i 0=s[i] by simp[List.getD_eq_getElem?_getD,hi]]
theorem bK {s:List UInt8} (h:0<s.length) (c:UInt8):aJ s 0=c.toNat↔s.headD 0=c:=by
 cases s with
 | nil=>simp at h
 | cons x r=>
  show (x.toNat:Int)=c.toNat↔x=c
  exact ⟨fun e=>UInt8.toNat.inj (by omega),fun e=>by rw[e]⟩
theorem xQ {s:List UInt8} (h:0<s.length) (hm:aJ s 0=45):digs s=s.drop 1:=by
 have:=(bK h 45).1 hm
 unfold digs;rw[if_pos this,List.drop_one]
theorem sL {s:List UInt8} (hm:0<s.length→¬aJ s 0=45):digs s=s.drop 0:=by
 unfold digs
 rw[List.drop_zero]
 by_cases h:0<s.length
 ·rw[if_neg fun e=>hm h ((bK h 45).2 e)]
 ·have:s= []:=List.length_eq_zero_iff.1 (by omega)
  subst this;rfl
theorem aG7 {s:List UInt8} {p i:Nat} (hD:digs s=s.drop p) (hp:p≤i) (hi:i<s.length):s[i]∈digs s:=by
 rw[hD,List.mem_iff_getElem]
 exact ⟨i-p,by rw[List.length_drop];omega,by rw[List.getElem_drop];congr 1;omega⟩
theorem aCx {s:List UInt8} {p i:Nat} (hD:digs s=s.drop p) (hp:p≤i) (hi:i<s.length) (hb:aJ s i<48∨aJ s i>57):chkI s=11:=by
 unfold chkI
 rw[if_neg]
 rintro ⟨_,_,h3⟩
 have:=h3 _ (aG7 hD hp hi)
 rw[eN hi] at hb
 unfold aR at this
 omega
theorem aFm {s:List UInt8} {p:Nat} (hD:digs s=s.drop p) (hp:p<s.length):aJ s p=48↔(digs s).headD 0=48:=by
 rw[hD,List.drop_eq_getElem_cons hp,eN hp]
 show (s[p].toNat:Int)=48↔s[p]=48
 exact ⟨fun e=>UInt8.toNat.inj (show s[p].toNat=48 by omega),fun e=>by rw[e];rfl⟩
theorem aJi {s:List UInt8} {p:Nat} (hD:digs s=s.drop p) (hp:p<s.length) (h:aJ s p=48) (hl:s.length>1):chkI s=11:=
 mF (.inr (.inl ⟨(aFm hD hp).1 h,fun e=>by rw[e] at hl;simp at hl⟩))
theorem aJj {s:List UInt8} {p:Nat} (hD:digs s=s.drop p) (hp:p<s.length) (hz:¬(aJ s p=48∧s.length>1)) (hd:∀j,p≤j→j<s.length→48≤aJ s j∧aJ s j≤57):form s:=by
 refine ⟨fun e=>?_,?_,fun c hc=>?_⟩
 ·have:=congrArg List.length (hD.symm.trans e)
  rw[List.length_drop] at this
  simp at this;omega
 ·by_cases h0:(digs s).headD 0=48
  ·right
   have h1:=(aFm hD hp).2 h0
   have hl:s.length=1:=by
    have:¬s.length>1:=fun h=>hz ⟨h1,h⟩
    omega
   have hp0:p=0:=by omega
   subst hp0
   match s,hl with
   | [x],_=>
    rw[hD] at h0
    simp at h0
    rw[h0]
  ·exact .inl h0
 ·rw[hD,List.mem_iff_getElem] at hc
  obtain ⟨j,hj,e⟩:=hc
  rw[List.length_drop] at hj
  rw[List.getElem_drop] at e
  have:=hd (p+j) (by omega) (by omega)
  rw[eN (by omega),e] at this
  unfold aR;omega
set_option maxHeartbeats 1600000 in
theorem b139 (s:List UInt8):body Tryz.prog [] { asks:=[(0,[])] } true Tryz.f201 [S s] (I (chkI s)):=by
 by_cases hm:0<s.length∧aJ s 0=45
 ·have hD:=xQ hm.1 hm.2
  have hL:(digs s).length=s.length-1:=by rw[hD,List.length_drop]
  obtain ⟨hm1,hm2⟩:=hm
  by_cases hz:s.length=1
  ·have hb:chkI s=11:=mF (.inl (List.length_eq_zero_iff.1 (by omega)))
   rw[hb]
   (repeat'((conv=>whnf);first|refine Zg fun _=>?_|refine Zn ?_|refine Z0 ?_|refine Zy ?_|fail))
   (conv=>whnf)
   (repeat'(first|rfl|refine And.intro ?_ ?_|fail))
  by_cases hz2:aJ s 1=48∧s.length>1
  ·have hb:chkI s=11:=aJi hD (by omega) hz2.1 hz2.2
   rw[hb]
   obtain ⟨hz3,hz4⟩:=hz2
   (repeat'((conv=>whnf);first|refine Zg fun _=>?_|refine Zn ?_|refine Z0 ?_|refine Z1 ?_|refine Zy ?_|refine Zm ?_|fail))
   (conv=>whnf)
   (repeat'(first|rfl|refine And.intro ?_ ?_|fail))
  have hz3:¬(aJ s 1=48)∨(aJ s 1=48∧¬((s.length:Int)>1)):=by
   by_cases e:aJ s 1=48
   ·exact .inr ⟨e,fun h=>hz2 ⟨e,by omega⟩⟩
   ·exact .inl e
  rcases hz3 with hz3 | ⟨hz3,hz4⟩
  all_goals first | (exfalso;omega) | skip
  all_goals (
   (repeat'((conv=>whnf);first|refine Zg fun _=>?_|refine Zn ?_|refine Z0 ?_|refine Z1 ?_|refine Zy ?_|refine Zm ?_|fail))
   refine Ask.mk ⟨{ X:=Nat,pre:=fun i=>1≤i∧i≤s.length∧∀j,1≤j→j<i→48≤aJ s j∧aJ s j≤57,mod:=fun i _=>[(4,I i)],heap:=fun _ _=>[],mu:=fun i=>s.length-i },rfl,?_⟩
   (repeat'((conv=>whnf);first|refine Zn ?_|fail))
   refine ⟨⟨(1:Nat),⟨Nat.le_refl _,by omega,fun j h1 h2=>by omega⟩,by (repeat'(first|exact trivial|rfl|refine And.intro ?_ ?_|fail))⟩,fun (i:Nat) hi=>?_⟩
   obtain ⟨hi1,hi2,hi3⟩:=hi
   by_cases hlt:i<s.length
   ·by_cases h1:aJ s i<48
    ·have hb:chkI s=11:=aCx hD hi1 hlt (by omega)
     rw[hb]
     (repeat'((conv=>whnf);first|refine Zg fun _=>?_|refine Zn ?_|refine Zj ?_|refine Zy ?_|fail))
     (conv=>whnf)
     (repeat'(first|rfl|refine And.intro ?_ ?_|fail))
    ·by_cases h2:aJ s i>57
     ·have hb:chkI s=11:=aCx hD hi1 hlt (by omega)
      rw[hb]
      (repeat'((conv=>whnf);first|refine Zg fun _=>?_|refine Zn ?_|refine Zj ?_|refine Zy ?_|refine Zm ?_|fail))
      (conv=>whnf)
      (repeat'(first|rfl|refine And.intro ?_ ?_|fail))
     ·(repeat'((conv=>whnf);first|refine Zg fun _=>?_|refine Zn ?_|refine Zj ?_|refine Zy ?_|refine Zm ?_|fail))
      refine ⟨(i+1:Nat),by show s.length-(i+1)<s.length-i;omega,⟨by omega,by omega,fun j h3 h4=>?_⟩,?_⟩
      ·by_cases e:j=i
       ·rw[e];omega
       ·exact hi3 j h3 (by omega)
      ·(repeat'(first|exact trivial|rfl|refine And.intro ?_ ?_|fail))
   ·have e:i=s.length:=by omega
    subst e
    have hf:form s:=aJj hD (by omega) (by omega) hi3
    rw[gD hf,hL]
    by_cases h5:300<s.length-1
    ·first
      | (exfalso;omega)
      | (rw[if_pos h5]
         (repeat'((conv=>whnf);first|refine Zg fun _=>?_|refine Zn ?_|refine Zy ?_|refine Zm ?_|fail))
         (conv=>whnf)
         (repeat'(first|rfl|refine And.intro ?_ ?_|fail)))
    ·rw[if_neg h5]
     (repeat'((conv=>whnf);first|refine Zg fun _=>?_|refine Zn ?_|refine Zm ?_|fail))
     (conv=>whnf)
     (repeat'(first|rfl|refine And.intro ?_ ?_|fail)))
 ·have hD:=sL (s:=s) fun h e=>hm ⟨h,e⟩
  have hL:(digs s).length=s.length-0:=by rw[hD,List.length_drop]
  have hm1:s.length=0∨(0<s.length∧¬aJ s 0=45):=by
   by_cases e:s.length=0
   ·exact .inl e
   ·exact .inr ⟨by omega,fun h=>hm ⟨by omega,h⟩⟩
  rcases hm1 with hm1 | ⟨hm1,hm2⟩
  ·have hb:chkI s=11:=mF (.inl (List.length_eq_zero_iff.1 (by omega)))
   rw[hb]
   (repeat'((conv=>whnf);first|refine Zg fun _=>?_|refine Zy ?_|refine Zm ?_|fail))
   (conv=>whnf)
   (repeat'(first|rfl|refine And.intro ?_ ?_|fail))
  by_cases hz:s.length=0
  ·have hb:chkI s=11:=mF (.inl (List.length_eq_zero_iff.1 (by omega)))
   rw[hb]
   (repeat'((conv=>whnf);first|refine Zg fun _=>?_|refine Zn ?_|refine Z0 ?_|refine Zy ?_|fail))
   (conv=>whnf)
   (repeat'(first|rfl|refine And.intro ?_ ?_|fail))
  by_cases hz2:aJ s 0=48∧s.length>1
  ·have hb:chkI s=11:=aJi hD (by omega) hz2.1 hz2.2
   rw[hb]
   obtain ⟨hz3,hz4⟩:=hz2
   (repeat'((conv=>whnf);first|refine Zg fun _=>?_|refine Zn ?_|refine Z0 ?_|refine Zy ?_|refine Zm ?_|fail))
   (conv=>whnf)
   (repeat'(first|rfl|refine And.intro ?_ ?_|fail))
  have hz3:¬(aJ s 0=48)∨(aJ s 0=48∧¬((s.length:Int)>1)):=by
   by_cases e:aJ s 0=48
   ·exact .inr ⟨e,fun h=>hz2 ⟨e,by omega⟩⟩
   ·exact .inl e
  rcases hz3 with hz3 | ⟨hz3,hz4⟩
  all_goals first | (exfalso;omega) | skip
  all_goals (
   (repeat'((conv=>whnf);first|refine Zg fun _=>?_|refine Zn ?_|refine Z0 ?_|refine Zy ?_|refine Zm ?_|fail))
   refine Ask.mk ⟨{ X:=Nat,pre:=fun i=>0≤i∧i≤s.length∧∀j,0≤j→j<i→48≤aJ s j∧aJ s j≤57,mod:=fun i _=>[(4,I i)],heap:=fun _ _=>[],mu:=fun i=>s.length-i },rfl,?_⟩
   (repeat'((conv=>whnf);first|refine Zn ?_|fail))
   refine ⟨⟨(0:Nat),⟨Nat.le_refl _,by omega,fun j h1 h2=>by omega⟩,by (repeat'(first|exact trivial|rfl|refine And.intro ?_ ?_|fail))⟩,fun (i:Nat) hi=>?_⟩
   obtain ⟨hi1,hi2,hi3⟩:=hi
   by_cases hlt:i<s.length
   ·by_cases h1:aJ s i<48
    ·have hb:chkI s=11:=aCx hD hi1 hlt (by omega)
     rw[hb]
     (repeat'((conv=>whnf);first|refine Zg fun _=>?_|refine Zn ?_|refine Zj ?_|refine Zy ?_|fail))
     (conv=>whnf)
     (repeat'(first|rfl|refine And.intro ?_ ?_|fail))
    ·by_cases h2:aJ s i>57
     ·have hb:chkI s=11:=aCx hD hi1 hlt (by omega)
      rw[hb]
      (repeat'((conv=>whnf);first|refine Zg fun _=>?_|refine Zn ?_|refine Zj ?_|refine Zy ?_|refine Zm ?_|fail))
      (conv=>whnf)
      (repeat'(first|rfl|refine And.intro ?_ ?_|fail))
     ·(repeat'((conv=>whnf);first|refine Zg fun _=>?_|refine Zn ?_|refine Zj ?_|refine Zy ?_|refine Zm ?_|fail))
      refine ⟨(i+1:Nat),by show s.length-(i+1)<s.length-i;omega,⟨by omega,by omega,fun j h3 h4=>?_⟩,?_⟩
      ·by_cases e:j=i
       ·rw[e];omega
       ·exact hi3 j h3 (by omega)
      ·(repeat'(first|exact trivial|rfl|refine And.intro ?_ ?_|fail))
   ·have e:i=s.length:=by omega
    subst e
    have hf:form s:=aJj hD (by omega) (by omega) hi3
    rw[gD hf,hL]
    by_cases h5:300<s.length-0
    ·first
      | (exfalso;omega)
      | (rw[if_pos h5]
         (repeat'((conv=>whnf);first|refine Zg fun _=>?_|refine Zn ?_|refine Zy ?_|refine Zm ?_|fail))
         (conv=>whnf)
         (repeat'(first|rfl|refine And.intro ?_ ?_|fail)))
    ·rw[if_neg h5]
     (repeat'((conv=>whnf);first|refine Zg fun _=>?_|refine Zn ?_|refine Zm ?_|fail))
     (conv=>whnf)
     (repeat'(first|rfl|refine And.intro ?_ ?_|fail)))
def c139:Con:=aK 201 true fun args K=>match args with | [.str s]=>K (I (chkI s)) | _=>False
theorem k139:aG Tryz.prog c139:=by
 refine aC rfl (enters_of Tryz.func201 (by kernel_rfl) rfl) ?_
 intro args K h
 simp only[c139] at h
 split at h
 ·rename_i s;exact ⟨_,h,aA (Γ:=[]) (by simp) Tryz.func201 (by simp[Tryz.ntmps201]) rfl (b139 s)⟩
 ·exact h.elim
theorem b110 (a b:List UInt8):body Tryz.prog [c139] {} true Tryz.f161 [S a,S b] (I (chk2 a b)):=by
 unfold chk2
 skip
 (refine Br.mk (fun _=>?_) (fun _=>?_))
 ·rename_i h
  rw[if_pos h]
  skip
  (conv=>whnf)
  (repeat'(first|rfl|refine And.intro ?_ ?_|fail))
 ·rename_i h
  rw[if_neg h]
  skip
  (conv=>whnf)
  (repeat'(first|rfl|refine And.intro ?_ ?_|fail))
def c110:Con:=aK 161 true fun args K=>match args with | [.str a,.str b]=>K (I (chk2 a b)) | _=>False
theorem k110:aG Tryz.prog c110:=by
 refine aC rfl (enters_of Tryz.func161 (by kernel_rfl) rfl) ?_
 intro args K h
 simp only[c110] at h
 split at h
 ·rename_i a b;exact ⟨_,h,aA (Γ:=[c139]) (by simp[k139]) Tryz.func161 (by simp[Tryz.ntmps161]) rfl (b110 a b)⟩
 ·exact h.elim
def sgP' (s:List UInt8):Nat:=if s.headD 0=45 then 1 else 0
theorem oN (s:List UInt8):digs s=s.drop (sgP' s):=by
 unfold digs sgP'
 split
 ·rw[List.drop_one]
 ·rw[List.drop_zero]
def pfx (s:List UInt8) (i:Nat):Nat:=aE ((s.take i).drop (sgP' s))
theorem aNl (s:List UInt8):pfx s 0=0:=by simp[pfx,aE]
theorem aCy (s:List UInt8):pfx s s.length=aE (digs s):=by
 unfold pfx;rw[List.take_length,oN]
theorem aRp {s:List UInt8} (hf:form s) {i:Nat} (hi:i≤16):pfx s i<10000000000000000:=by
 have hb:=cG ((s.take i).drop (sgP' s)) fun c hc=>hf.2.2 c (by rw[oN];rw[List.drop_take] at hc;exact List.mem_of_mem_take hc)
 have hp:(10:Nat)^ ((s.take i).drop (sgP' s)).length≤10^16:=Nat.pow_le_pow_right (by omega) (by rw[List.length_drop,List.length_take];omega)
 have h16:(10:Nat)^16=10000000000000000:=by decide
 unfold pfx;omega
theorem aNm {s:List UInt8} (hf:form s) {i:Nat} (hi:i<s.length) (h:aJ s i=45):pfx s (i+1)=pfx s i:=by
 by_cases hp:sgP' s≤i
 ·have:=hf.2.2 _ (aG7 (oN s) hp hi)
  rw[eN hi] at h
  unfold aR at this;omega
 ·unfold pfx
  rw[List.drop_eq_nil_of_le (by rw[List.length_take];omega),List.drop_eq_nil_of_le (by rw[List.length_take];omega)]
theorem aPd {s:List UInt8} (hf:form s) {i:Nat} (hi:i<s.length) (h:¬aJ s i=45):(48≤aJ s i∧aJ s i≤57)∧(pfx s (i+1):Int)=10*pfx s i+(aJ s i-48):=by
 by_cases hp:sgP' s≤i
 ·have hg:=hf.2.2 _ (aG7 (oN s) hp hi)
  have e:(s.take (i+1)).drop (sgP' s)=(s.take i).drop (sgP' s)++ [s[i]]:=by
   rw[List.take_succ_eq_append_getElem hi,List.drop_append_of_le_length (by rw[List.length_take];omega)]
  rw[eN hi]
  unfold pfx
  rw[e,cZ]
  unfold aR at hg
  omega
 ·refine absurd ?_ h
  have h0:i=0∧s.headD 0=45:=by
   unfold sgP' at hp
   split at hp
   ·exact ⟨by omega,by assumption⟩
   ·omega
  rw[h0.1]
  exact (bK (by omega) 45).2 h0.2
theorem b140n (s:List UInt8) (h:17<s.length):body Tryz.prog [] { asks:=[(0,[])] } true Tryz.f202 [S s] (.tup [I 0,.val (.bool false)]):=by
 (repeat'((conv=>whnf);first|refine Zg fun _=>?_|refine Zy ?_|fail))
 (conv=>whnf)
 (repeat'(first|exact trivial|rfl|refine And.intro ?_ ?_|fail))
theorem b140y (s:List UInt8) (hf:form s) (hl:s.length≤17):body Tryz.prog [] { asks:=[(0,[])] } true Tryz.f202 [S s] (.tup [I (valI s),.val (.bool true)]):=by
 have h0:0<s.length:=Nat.pos_of_ne_zero fun e=>hf.1 (by rw[List.length_eq_zero_iff.1 e];rfl)
 (repeat'((conv=>whnf);first|refine Zg fun _=>?_|refine Zm ?_|fail))
 refine Ask.mk ⟨{ X:=Nat,pre:=fun i=>i≤s.length,mod:=fun i _=>[(4,I (pfx s i)),(5,I i)],heap:=fun _ _=>[],mu:=fun i=>s.length-i },rfl,?_⟩
 (repeat'((conv=>whnf);first|refine Zn ?_|fail))
 refine ⟨⟨(0:Nat),Nat.zero_le _,?_⟩,fun (i:Nat) (hi:i≤s.length)=>?_⟩
 ·(repeat'(first|exact trivial|rfl|refine And.intro ?_ ?_|fail))
  rw[aNl];rfl
 by_cases hlt:i<s.length
 ·have hb:=aRp hf (i:=i) (by omega)
  by_cases hs:aJ s i=45
  ·have e:=aNm hf hlt hs
   (repeat'((conv=>whnf);first|refine Zg fun _=>?_|refine Zn ?_|refine Zj ?_|refine Zy ?_|refine Zm ?_|fail))
   refine ⟨(i+1:Nat),by show s.length-(i+1)<s.length-i;omega,hlt,?_⟩
   (repeat'(first|exact trivial|rfl|refine And.intro ?_ ?_|omega|fail))
  ·obtain ⟨e1,e2⟩:=aPd hf hlt hs
   (repeat'((conv=>whnf);first|refine Zg fun _=>?_|refine Zn ?_|refine Zj ?_|refine Zy ?_|fail))
   refine ⟨(i+1:Nat),by show s.length-(i+1)<s.length-i;omega,hlt,?_⟩
   (repeat'(first|exact trivial|rfl|refine And.intro ?_ ?_|omega|fail))
 ·have e:i=s.length:=by omega
  subst e
  have hn:pfx s s.length<1000000000000000000:=by
   rw[aCy]
   have hb:=cG (digs s) hf.2.2
   have hp:(10:Nat)^ (digs s).length≤10^18:=Nat.pow_le_pow_right (by omega) (by have:=jS s;omega)
   have h18:(10:Nat)^18=1000000000000000000:=by decide
   omega
  by_cases hm:aJ s 0=45
  ·have hv:valI s= -(pfx s s.length:Int):=by
    have hm':=(bK h0 45).1 hm
    rw[aCy];unfold valI digs;rw[if_pos hm',if_pos hm']
   rw[hv]
   (repeat'((conv=>whnf);first|refine Zg fun _=>?_|refine Zn ?_|refine Z0 ?_|refine Zy ?_|refine Zm ?_|fail))
   (conv=>whnf)
   (repeat'(first|exact trivial|rfl|refine And.intro ?_ ?_|fail))
  ·have hv:valI s=(pfx s s.length:Int):=by
    have hm':¬s.headD 0=45:=fun e=>hm ((bK h0 45).2 e)
    rw[aCy];unfold valI digs;rw[if_neg hm',if_neg hm']
   rw[hv]
   (repeat'((conv=>whnf);first|refine Zg fun _=>?_|refine Zn ?_|refine Z0 ?_|refine Zm ?_|fail))
   (conv=>whnf)
   (repeat'(first|exact trivial|rfl|refine And.intro ?_ ?_|fail))
def c140:Con:=aK 202 true fun args K=>match args with
 | [.str s]=>Need (form s) (Br (17<s.length) (K (.tup [I 0,.val (.bool false)])) (K (.tup [I (valI s),.val (.bool true)])))
 | _=>False
theorem k140:aG Tryz.prog c140:=by
 refine aC rfl (enters_of Tryz.func202 (by kernel_rfl) rfl) ?_
 intro args K h
 simp only[c140] at h
 split at h
 ·rename_i s
  obtain ⟨hf,h⟩:=h
  by_cases hs:17<s.length
  ·exact ⟨_,h.yes hs,aA (Γ:=[]) (by simp) Tryz.func202 (by simp[Tryz.ntmps202]) rfl (b140n s hs)⟩
  ·exact ⟨_,h.no hs,aA (Γ:=[]) (by simp) Tryz.func202 (by simp[Tryz.ntmps202]) rfl (b140y s hf (by omega))⟩
 ·exact h.elim
theorem b111 (a b:List UInt8) (ha:form a) (hb:form b) (x y:Int) (o:Bool) (h:(x,y,o)=if 17<a.length then (0,0,false) else if 17<b.length then (valI a,0,false) else (valI a,valI b,true)):body Tryz.prog [c140] {} true Tryz.f162 [S a,S b] (.tup [I x,I y,.val (.bool o)]):=by
 by_cases h1:17<a.length
 ·rw[if_pos h1] at h
  cases h
  (repeat'((conv=>whnf);first|refine Zn ?_|refine Zy ?_|fail))
  (conv=>whnf)
  (repeat'(first|exact trivial|rfl|refine And.intro ?_ ?_|fail))
 ·rw[if_neg h1] at h
  by_cases h2:17<b.length
  ·rw[if_pos h2] at h
   cases h
   (repeat'((conv=>whnf);first|refine Zn ?_|refine Zy ?_|refine Zm ?_|fail))
   (conv=>whnf)
   (repeat'(first|exact trivial|rfl|refine And.intro ?_ ?_|fail))
  ·rw[if_neg h2] at h
   cases h
   (repeat'((conv=>whnf);first|refine Zn ?_|refine Zm ?_|fail))
   (conv=>whnf)
   (repeat'(first|exact trivial|rfl|refine And.intro ?_ ?_|fail))
def c111:Con:=aK 162 true fun args K=>match args with
 | [.str a,.str b]=>Need (form a∧form b) (Br (a.length≤17∧b.length≤17) (K (.tup [I (valI a),I (valI b),.val (.bool true)])) (Br (17<a.length) (K (.tup [I 0,I 0,.val (.bool false)])) (K (.tup [I (valI a),I 0,.val (.bool false)]))))
 | _=>False
theorem k111:aG Tryz.prog c111:=by
 refine aC rfl (enters_of Tryz.func162 (by kernel_rfl) rfl) ?_
 intro args K h
 simp only[c111] at h
 split at h
 ·rename_i a b
  obtain ⟨⟨ha,hb⟩,h⟩:=h
  have go:=fun x y o hh=>aA (Γ:=[c140]) (by simp[k140]) Tryz.func162 (by simp[Tryz.ntmps162]) rfl (b111 a b ha hb x y o hh)
  by_cases hs:a.length≤17∧b.length≤17
  ·exact ⟨_,h.yes hs,go _ _ _ (by rw[if_neg (by omega),if_neg (by omega)])⟩
  ·by_cases h1:17<a.length
   ·exact ⟨_,(h.no hs).yes h1,go _ _ _ (by rw[if_pos h1])⟩
   ·exact ⟨_,(h.no hs).no h1,go _ _ _ (by rw[if_neg h1,if_pos (by omega)])⟩
 ·exact h.elim
def gfx (D:List UInt8) (st i:Nat):Nat:=aE ((D.take i).drop st)
theorem xR (D:List UInt8) (st:Nat):gfx D st st=0:=by
 unfold gfx
 rw[List.drop_eq_nil_of_le (by rw[List.length_take];omega)];rfl
theorem aNn {D:List UInt8} (hd:∀c∈D,aR c) {st i:Nat} (h:i≤st+6):gfx D st i<1000000:=by
 have hb:=cG ((D.take i).drop st) fun c hc=>hd c (List.mem_of_mem_take (List.mem_of_mem_drop hc))
 have hp:(10:Nat)^ ((D.take i).drop st).length≤10^6:=Nat.pow_le_pow_right (by omega) (by rw[List.length_drop,List.length_take];omega)
 have h6:(10:Nat)^6=1000000:=by decide
 unfold gfx;omega
theorem aCz {D:List UInt8} (hd:∀c∈D,aR c) {st i:Nat} (hs:st≤i) (hi:i<D.length):(48≤aJ D i∧aJ D i≤57)∧(gfx D st (i+1):Int)=10*gfx D st i+(aJ D i-48):=by
 have hg:=hd _ (List.getElem_mem hi)
 have e:(D.take (i+1)).drop st=(D.take i).drop st++ [D[i]]:=by
  rw[List.take_succ_eq_append_getElem hi,List.drop_append_of_le_length (by rw[List.length_take];omega)]
 rw[eN hi]
 unfold gfx
 rw[e,cZ]
 unfold aR at hg
 omega
set_option maxHeartbeats 1600000 in
theorem b112y (s:List UInt8) (h:form s∧(digs s).length≤600) (hm:s.headD 0=45):body Tryz.prog [c141] { asks:=[(0,[2]),(2,[])] } false Tryz.f164 [S s] (.agg [.bl (s.headD 0=45) inferInstance,Ls (aB B6 (aE (digs s)))]):=by
 obtain ⟨hf,hl⟩:=h
 have h0:0<s.length:=Nat.pos_of_ne_zero fun e=>hf.1 (by rw[List.length_eq_zero_iff.1 e];rfl)
 have hd:=hf.2.2
 have hb:aJ s 0=45:=(bK h0 45).2 hm
 have hD:=xQ h0 hb
 rw[hD] at hd hl ⊢
 have hL:(s.drop 1).length=(s.drop 1).length:=rfl
 have e6:(10:Nat)^6=B6:=by decide
 skip
 refine Own.l ?_
 skip
 refine Own.l ?_
 skip
 (conv=>whnf)
 refine Own.r ?_
 refine ⟨1,.int .i64,3,?_⟩
 (repeat'((conv=>whnf);first|refine Zg fun _=>?_|refine Zn ?_|refine Z0 ?_|refine Z1 ?_|refine Zy ?_|fail))
 (conv=>whnf)
 refine Ask.mk ⟨{ X:=Nat,pre:=fun k=>6*k<(s.drop 1).length+6,mod:=fun k _=>[(4,I (((s.drop 1).length:Int)-6*k))],heap:=fun k H=>[hget H 0,.cells [.val (.bool true),.ref 2 1] 163,V (rdG (s.drop 1) k)],mu:=fun k=>(s.drop 1).length+6-6*k,objs:=[2] },rfl,?_⟩
 (repeat'((conv=>whnf);first|refine Zn ?_|fail))
 refine ⟨⟨(0:Nat),by show 6*0< _;omega,?_⟩,fun (k:Nat) hk=>?_⟩
 ·(repeat'(first|exact trivial|rfl|exact Nat.one_pos|refine And.intro ?_ ?_|fail))
 have hk:6*k<(s.drop 1).length+6:=hk
 have hrl:=(qV hd k hk).1
 by_cases hlt:6*k<(s.drop 1).length
 ·obtain ⟨st,hst⟩:∃st,(s.drop 1).length-6*(k+1)=st:=⟨_,rfl⟩
  obtain ⟨en,hen⟩:∃en,(s.drop 1).length-6*k=en:=⟨_,rfl⟩
  (repeat'((conv=>whnf);first|refine Zn ?_|refine Zy ?_|fail))
  refine Ask.mk ⟨{ X:=Nat,pre:=fun i=>st≤i∧i≤en,mod:=fun i _=>[(5,I (gfx (s.drop 1) st i)),(6,I i)],heap:=fun i H=>[hget H 0,.cells [.val (.bool true),.ref 2 1] 163,V (rdG (s.drop 1) k)],mu:=fun i=>en-i },rfl,?_⟩
  (repeat'((conv=>whnf);first|refine Zn ?_|fail))
  refine ⟨⟨(st:Nat),⟨Nat.le_refl _,by omega⟩,?_⟩,fun (i:Nat) hi=>?_⟩
  ·(repeat'(first|exact trivial|rfl|refine And.intro ?_ ?_|omega|fail))
   rw[xR];rfl
  obtain ⟨hi1,hi2⟩:=hi
  by_cases hlt2:i<en
  ·have hg:=aNn hd (st:=st) (i:=i) (by omega)
   obtain ⟨e1,e2⟩:=aCz hd hi1 (show i<(s.drop 1).length by omega)
   (repeat'((conv=>whnf);first|refine Zg fun _=>?_|refine Zn ?_|refine Zj ?_|refine Zy ?_|fail))
   refine ⟨(i+1:Nat),by show en-(i+1)<en-i;omega,⟨by omega,hlt2⟩,?_⟩
   (repeat'(first|exact trivial|rfl|refine And.intro ?_ ?_|omega|fail))
  ·have e:i=en:=by omega
   subst e
   (repeat'((conv=>whnf);first|refine Zl ?_|refine Zm ?_|fail))
   try (
    refine Need.mk (show (rdG (s.drop 1) k).length+1≤17592186044416 by omega) ?_
    (repeat'((conv=>whnf);first|refine Zn ?_|fail)))
   refine ⟨(k+1:Nat),by show (s.drop 1).length+6-6*(k+1)<(s.drop 1).length+6-6*k;omega,by show 6*(k+1)<(s.drop 1).length+6;omega,?_⟩
   (repeat'(first|exact trivial|rfl|exact Nat.one_pos|refine And.intro ?_ ?_|omega|fail))
   show rdG (s.drop 1) k++ [((gfx (s.drop 1) st i:Nat):Int)]=rdG (s.drop 1) k++ [((aE (grp (s.drop 1) k):Nat):Int)]
   unfold gfx grp
   rw[hst,hen]
 ·have hr:=aIi hd hk (by omega)
  rw[e6] at hr
  (repeat'((conv=>whnf);first|refine Zm ?_|fail))
  (conv=>whnf)
  (repeat'(first|exact trivial|refine And.intro ?_ ?_|fail))
  ·exact hm
  ·exact hr
set_option maxHeartbeats 1600000 in
theorem b112n (s:List UInt8) (h:form s∧(digs s).length≤600) (hm:¬s.headD 0=45):body Tryz.prog [c141] { asks:=[(0,[2]),(2,[])] } false Tryz.f164 [S s] (.agg [.bl (s.headD 0=45) inferInstance,Ls (aB B6 (aE (digs s)))]):=by
 obtain ⟨hf,hl⟩:=h
 have h0:0<s.length:=Nat.pos_of_ne_zero fun e=>hf.1 (by rw[List.length_eq_zero_iff.1 e];rfl)
 have hd:=hf.2.2
 have hb:¬aJ s 0=45:=fun e=>hm ((bK h0 45).1 e)
 have hD:digs s=s:=sL fun _=>hb
 rw[hD] at hd hl ⊢
 have hL:(s).length=(s).length:=rfl
 have e6:(10:Nat)^6=B6:=by decide
 skip
 refine Own.l ?_
 skip
 refine Own.l ?_
 skip
 (conv=>whnf)
 refine Own.r ?_
 refine ⟨1,.int .i64,3,?_⟩
 (repeat'((conv=>whnf);first|refine Zg fun _=>?_|refine Zn ?_|refine Z0 ?_|refine Zm ?_|fail))
 (conv=>whnf)
 refine Ask.mk ⟨{ X:=Nat,pre:=fun k=>6*k<(s).length+6,mod:=fun k _=>[(4,I (((s).length:Int)-6*k))],heap:=fun k H=>[hget H 0,.cells [.val (.bool false),.ref 2 1] 163,V (rdG (s) k)],mu:=fun k=>(s).length+6-6*k,objs:=[2] },rfl,?_⟩
 (repeat'((conv=>whnf);first|refine Zn ?_|fail))
 refine ⟨⟨(0:Nat),by show 6*0< _;omega,?_⟩,fun (k:Nat) hk=>?_⟩
 ·(repeat'(first|exact trivial|rfl|exact Nat.one_pos|refine And.intro ?_ ?_|fail))
 have hk:6*k<(s).length+6:=hk
 have hrl:=(qV hd k hk).1
 by_cases hlt:6*k<(s).length
 ·obtain ⟨st,hst⟩:∃st,(s).length-6*(k+1)=st:=⟨_,rfl⟩
  obtain ⟨en,hen⟩:∃en,(s).length-6*k=en:=⟨_,rfl⟩
  (repeat'((conv=>whnf);first|refine Zn ?_|refine Zy ?_|fail))
  refine Ask.mk ⟨{ X:=Nat,pre:=fun i=>st≤i∧i≤en,mod:=fun i _=>[(5,I (gfx (s) st i)),(6,I i)],heap:=fun i H=>[hget H 0,.cells [.val (.bool false),.ref 2 1] 163,V (rdG (s) k)],mu:=fun i=>en-i },rfl,?_⟩
  (repeat'((conv=>whnf);first|refine Zn ?_|fail))
  refine ⟨⟨(st:Nat),⟨Nat.le_refl _,by omega⟩,?_⟩,fun (i:Nat) hi=>?_⟩
  ·(repeat'(first|exact trivial|rfl|refine And.intro ?_ ?_|omega|fail))
   rw[xR];rfl
  obtain ⟨hi1,hi2⟩:=hi
  by_cases hlt2:i<en
  ·have hg:=aNn hd (st:=st) (i:=i) (by omega)
   obtain ⟨e1,e2⟩:=aCz hd hi1 (show i<(s).length by omega)
   (repeat'((conv=>whnf);first|refine Zg fun _=>?_|refine Zn ?_|refine Zj ?_|refine Zy ?_|fail))
   refine ⟨(i+1:Nat),by show en-(i+1)<en-i;omega,⟨by omega,hlt2⟩,?_⟩
   (repeat'(first|exact trivial|rfl|refine And.intro ?_ ?_|omega|fail))
  ·have e:i=en:=by omega
   subst e
   (repeat'((conv=>whnf);first|refine Zn ?_|refine Zl ?_|refine Zm ?_|fail))
   try (
    refine Need.mk (show (rdG (s) k).length+1≤17592186044416 by omega) ?_
    skip)
   refine ⟨(k+1:Nat),by show (s).length+6-6*(k+1)<(s).length+6-6*k;omega,by show 6*(k+1)<(s).length+6;omega,?_⟩
   (repeat'(first|exact trivial|rfl|exact Nat.one_pos|refine And.intro ?_ ?_|omega|fail))
   show rdG (s) k++ [((gfx (s) st i:Nat):Int)]=rdG (s) k++ [((aE (grp (s) k):Nat):Int)]
   unfold gfx grp
   rw[hst,hen]
 ·have hr:=aIi hd hk (by omega)
  rw[e6] at hr
  (repeat'((conv=>whnf);first|refine Zm ?_|fail))
  (conv=>whnf)
  (repeat'(first|exact trivial|refine And.intro ?_ ?_|fail))
  ·exact hm
  ·exact hr
theorem b112 (s:List UInt8) (h:form s∧(digs s).length≤600):body Tryz.prog [c141] { asks:=[(0,[2]),(2,[])] } false Tryz.f164 [S s] (.agg [.bl (s.headD 0=45) inferInstance,Ls (aB B6 (aE (digs s)))]):=by
 by_cases hm:s.headD 0=45
 ·exact b112y s h hm
 ·exact b112n s h hm
def c112:Con:=aK 164 false fun args K=>match args with | [.str s]=>Need (form s∧(digs s).length≤600) (K (.agg [.bl (s.headD 0=45) inferInstance,Ls (aB B6 (aE (digs s)))])) | _=>False
theorem k112:aG Tryz.prog c112:=by
 refine aC rfl (enters_of Tryz.func164 (by kernel_rfl) rfl) ?_
 intro args K h
 simp only[c112] at h
 split at h
 ·rename_i s;exact ⟨_,h.go,aA (Γ:=[c141]) (by simp[k141]) Tryz.func164 (by simp[Tryz.ntmps164]) rfl (b112 s h.ok)⟩
 ·exact h.elim
theorem b84 (a b:Int) (h:(0≤a∧a≤4611686018427387904)∧(0≤b∧b≤4611686018427387904)):body Tryz.prog [] { asks:=[(0,[])] } true Tryz.f147 [I a,I b] (I (Int.gcd a b)):=by
 obtain ⟨ha,hb⟩:=h
 skip
 refine Ask.mk ⟨{ X:=Int × Int,pre:=fun z=>Int.gcd z.1 z.2=Int.gcd a b∧(0≤z.1∧z.1≤4611686018427387904)∧(0≤z.2∧z.2≤4611686018427387904),mod:=fun z _=>[(0,I z.1),(1,I z.2)],heap:=fun _ _=>[],mu:=fun z=>z.2.natAbs },rfl,?_⟩
 (repeat'((conv=>whnf);first|refine Zn ?_|fail))
 refine ⟨⟨(a,b),⟨rfl,ha,hb⟩,by (repeat'(first|exact trivial|rfl|refine And.intro ?_ ?_|fail))⟩,fun (z:Int × Int) hz=>?_⟩
 obtain ⟨z1,z2,z3⟩:=hz
 skip
 (refine Br.mk (fun _=>?_) (fun _=>?_))
 ·rename_i hy
  have hm:(z.1.tmod z.2).natAbs<z.2.natAbs:=by rw[Int.natAbs_tmod];exact Nat.mod_lt _ (by omega)
  have hm0:0≤z.1.tmod z.2:=Int.tmod_nonneg _ z2.1
  (repeat'((conv=>whnf);first|refine Za ?_|(apply Pin.mk;apply Exists.intro)|apply Pinned.mk rfl rfl|fail))
  (conv=>whnf)
  refine ⟨(z.2,z.1.tmod z.2),hm,⟨by rw[← z1];exact rD _ _,z3,hm0,by show z.1.tmod z.2≤ _;omega⟩,?_⟩
  (repeat'(first|exact trivial|rfl|refine And.intro ?_ ?_|fail))
  exact (Int.tmod_eq_emod_of_nonneg z2.1).symm
 ·rename_i hy
  have hy:z.2=0:=by omega
  have hg:((Int.gcd a b:Nat):Int)=z.1:=by
   rw[← z1,hy,Int.gcd_zero_right]
   omega
  rw[hg]
  skip
  (conv=>whnf)
  (repeat'(first|rfl|refine And.intro ?_ ?_|fail))
def c84:Con:=aK 147 true fun args K=>match args with | [.val (.int .i64 a),.val (.int .i64 b)]=>Need ((0≤a∧a≤4611686018427387904)∧(0≤b∧b≤4611686018427387904)) (K (I (Int.gcd a b))) | _=>False
theorem k84:aG Tryz.prog c84:=by
 refine aC rfl (enters_of Tryz.func147 (by kernel_rfl) rfl) ?_
 intro args K h
 simp only[c84] at h
 split at h
 ·rename_i a b;exact ⟨_,h.go,aA (Γ:=[]) (by simp) Tryz.func147 (by simp[Tryz.ntmps147]) rfl (b84 a b h.ok)⟩
 ·exact h.elim
theorem aNo {D:List UInt8} (hd:∀c∈D,aR c) {i:Nat} (h:i≤17):gfx D 0 i<100000000000000000:=by
 have hb:=cG ((D.take i).drop 0) fun c hc=>hd c (List.mem_of_mem_take (List.mem_of_mem_drop hc))
 have hp:(10:Nat)^ ((D.take i).drop 0).length≤10^17:=Nat.pow_le_pow_right (by omega) (by rw[List.length_drop,List.length_take];omega)
 have h6:(10:Nat)^17=100000000000000000:=by decide
 unfold gfx;omega
theorem aPe (D:List UInt8):gfx D 0 D.length=aE D:=by
 unfold gfx;rw[List.take_length,List.drop_zero]
theorem b85 (s:List UInt8) (h:(∀c∈s,aR c)∧s.length≤18):body Tryz.prog [] { asks:=[(0,[])] } true Tryz.f148 [S s] (I (aE s)):=by
 obtain ⟨hd,hl⟩:=h
 skip
 refine Ask.mk ⟨{ X:=Nat,pre:=fun i=>i≤s.length,mod:=fun i _=>[(3,I (gfx s 0 i)),(4,I i)],heap:=fun _ _=>[],mu:=fun i=>s.length-i },rfl,?_⟩
 (repeat'((conv=>whnf);first|refine Zn ?_|fail))
 refine ⟨⟨(0:Nat),Nat.zero_le _,?_⟩,fun (i:Nat) (hi:i≤s.length)=>?_⟩
 ·(repeat'(first|exact trivial|rfl|refine And.intro ?_ ?_|fail))
  all_goals (rw[xR];rfl)
 by_cases hlt:i<s.length
 ·have hg:=aNo hd (i:=i) (by omega)
  obtain ⟨e1,e2⟩:=aCz hd (Nat.zero_le _) hlt
  (repeat'((conv=>whnf);first|refine Zg fun _=>?_|refine Zn ?_|refine Zj ?_|refine Zy ?_|fail))
  refine ⟨(i+1:Nat),by show s.length-(i+1)<s.length-i;omega,hlt,?_⟩
  (repeat'(first|exact trivial|rfl|refine And.intro ?_ ?_|omega|fail))
 ·have e:i=s.length:=by omega
  subst e
  rw[← aPe]
  (repeat'((conv=>whnf);first|refine Zg fun _=>?_|refine Zm ?_|fail))
  (conv=>whnf)
  (repeat'(first|rfl|refine And.intro ?_ ?_|fail))
def c85:Con:=aK 148 true fun args K=>match args with | [.str s]=>Need ((∀c∈s,aR c)∧s.length≤18) (K (I (aE s))) | _=>False
theorem k85:aG Tryz.prog c85:=by
 refine aC rfl (enters_of Tryz.func148 (by kernel_rfl) rfl) ?_
 intro args K h
 simp only[c85] at h
 split at h
 ·rename_i s;exact ⟨_,h.go,aA (Γ:=[]) (by simp) Tryz.func148 (by simp[Tryz.ntmps148]) rfl (b85 s h.ok)⟩
 ·exact h.elim
noncomputable instance (s:List UInt8):Decidable (okD s):=Classical.propDecidable _
theorem aJk {s:List UInt8} {i:Nat} (hi:i<s.length) (hb:aJ s i<48∨aJ s i>57):¬okD s:=by
 rw[fZ]
 rintro ⟨_,h3,_⟩
 have:=h3 _ (List.getElem_mem hi)
 rw[eN hi] at hb
 unfold aR at this
 omega
theorem b83 (s:List UInt8):body Tryz.prog [] { asks:=[(0,[])] } true Tryz.f146 [S s] (.bl (okD s) inferInstance):=by
 by_cases h0:s.length=0
 ·have hn:¬okD s:=by
   rw[fZ];exact fun h=>h.1 (List.length_eq_zero_iff.1 h0)
  (repeat'((conv=>whnf);first|refine Zg fun _=>?_|refine Zy ?_|fail))
  (conv=>whnf)
  skip
  exact hn
 by_cases h1:s.length>1∧aJ s 0=48
 ·obtain ⟨h1,h2⟩:=h1
  have hn:¬okD s:=by
   rw[fZ]
   rintro ⟨_,_,h3⟩
   have:=(bK (s:=s) (by omega) 48).1 h2
   rcases h3 with h3 | h3
   ·omega
   ·exact h3 this
  (repeat'((conv=>whnf);first|refine Zg fun _=>?_|refine Zn ?_|refine Z0 ?_|refine Zy ?_|refine Zm ?_|fail))
  (conv=>whnf)
  skip
  exact hn
 have h2:¬((s.length:Int)>1)∨((s.length:Int)>1∧¬(aJ s 0=48)):=by
  by_cases e:aJ s 0=48
  ·exact .inl fun h=>h1 ⟨by omega,e⟩
  ·by_cases e2:s.length>1
   ·exact .inr ⟨by omega,e⟩
   ·exact .inl (by omega)
 have h3:s.length=1∨s.headD 0≠48:=by
  rcases h2 with h2 | ⟨_,h2⟩
  ·exact .inl (by omega)
  ·exact .inr fun e=>h2 ((bK (s:=s) (by omega) 48).2 e)
 rcases h2 with h2 | ⟨h2,h4⟩
 all_goals (
  (repeat'((conv=>whnf);first|refine Zg fun _=>?_|refine Zn ?_|refine Z0 ?_|refine Zy ?_|refine Zm ?_|fail))
  refine Ask.mk ⟨{ X:=Nat,pre:=fun i=>i≤s.length∧∀j,j<i→48≤aJ s j∧aJ s j≤57,mod:=fun i _=>[(3,I i)],heap:=fun _ _=>[],mu:=fun i=>s.length-i },rfl,?_⟩
  (repeat'((conv=>whnf);first|refine Zn ?_|fail))
  refine ⟨⟨(0:Nat),⟨Nat.zero_le _,fun j h2=>by omega⟩,by (repeat'(first|exact trivial|rfl|refine And.intro ?_ ?_|fail))⟩,fun (i:Nat) hi=>?_⟩
  obtain ⟨hi1,hi3⟩:=hi
  by_cases hlt:i<s.length
  ·by_cases c1:aJ s i<48
   ·have hn:¬okD s:=aJk hlt (.inl c1)
    (repeat'((conv=>whnf);first|refine Zg fun _=>?_|refine Zn ?_|refine Zj ?_|refine Zy ?_|fail))
    (conv=>whnf)
    skip
    exact hn
   ·by_cases c2:aJ s i>57
    ·have hn:¬okD s:=aJk hlt (.inr c2)
     (repeat'((conv=>whnf);first|refine Zg fun _=>?_|refine Zn ?_|refine Zj ?_|refine Zy ?_|refine Zm ?_|fail))
     (conv=>whnf)
     skip
     exact hn
    ·(repeat'((conv=>whnf);first|refine Zg fun _=>?_|refine Zn ?_|refine Zj ?_|refine Zy ?_|refine Zm ?_|fail))
     refine ⟨(i+1:Nat),by show s.length-(i+1)<s.length-i;omega,⟨by omega,fun j h4=>?_⟩,?_⟩
     ·by_cases e:j=i
      ·rw[e];omega
      ·exact hi3 j (by omega)
     ·(repeat'(first|exact trivial|rfl|refine And.intro ?_ ?_|fail))
  ·have e:i=s.length:=by omega
   have hy:okD s:=by
    rw[fZ]
    refine ⟨fun e=>h0 (by rw[e];rfl),fun c hc=>?_,h3⟩
    obtain ⟨j,hj,e2⟩:=List.mem_iff_getElem.1 hc
    have:=hi3 j (by omega)
    rw[eN hj,e2] at this
    unfold aR;omega
   (repeat'((conv=>whnf);first|refine Zg fun _=>?_|refine Zm ?_|fail))
   (conv=>whnf)
   (repeat'(first|refine And.intro ?_ ?_|fail))
   all_goals first | exact hy.1 | exact hy.2)
def c83:Con:=aK 146 true fun args K=>match args with | [.str s]=>K (.bl (okD s) inferInstance) | _=>False
theorem k83:aG Tryz.prog c83:=by
 refine aC rfl (enters_of Tryz.func146 (by kernel_rfl) rfl) ?_
 intro args K h
 simp only[c83] at h
 split at h
 ·rename_i s;exact ⟨_,h,aA (Γ:=[]) (by simp) Tryz.func146 (by simp[Tryz.ntmps146]) rfl (b83 s)⟩
 ·exact h.elim
theorem aAu (c:UInt8) (r:List UInt8) (j:Nat):aJ (c::r) (j+1)=aJ r j:=by
 unfold aJ;rfl
theorem sM:∀(D:List UInt8) (i:Nat),i≤D.length→(∀j,j<i→¬aJ D j=47)→(i=D.length∨(i<D.length∧aJ D i=47))→topS D=D.take i∧botS D=D.drop i
 | [],i,h1,_,_=>by
  have:i=0:=by simpa using h1
  subst this
  exact ⟨rfl,rfl⟩
 | c::r,0,_,_,h=>by
  rcases h with h | ⟨_,h⟩
  ·simp at h
  ·have hc:=(bK (s:=c::r) (by simp) 47).1 h
   have hc:c=47:=hc
   subst hc
   constructor<;>simp[topS,botS]
 | c::r,i+1,h1,h2,h3=>by
  have hc:¬c=47:=fun e=>h2 0 (by omega) ((bK (s:=c::r) (by simp) 47).2 e)
  obtain ⟨q1,q2⟩:=sM r i (by simpa using h1) (fun j hj=>by rw[← aAu c];exact h2 (j+1) (by omega)) (by
   rcases h3 with h3 | ⟨h3,h4⟩
   ·exact .inl (by simpa using h3)
   ·exact .inr ⟨by simpa using h3,by rw[← aAu c];exact h4⟩)
  unfold topS at q1 ⊢
  unfold botS at q2 ⊢
  rw[List.takeWhile_cons,List.dropWhile_cons]
  have hb:(c != 47)=true:=by simpa using hc
  rw[hb]
  simp only[if_true]
  exact ⟨by rw[q1];rfl,by rw[q2];rfl⟩
theorem oO (c:UInt8) (r:List UInt8):digs (c::r)=if c=45 then r else c::r:=rfl
theorem aNp (s:List UInt8):topS (digs s)=digs (topS s)∧botS (digs s)=botS s:=by
 cases s with
 | nil=>exact ⟨rfl,rfl⟩
 | cons c r=>
  by_cases h:c=45
  ·subst h
   have e1:digs (45::r)=r:=by rw[oO,if_pos rfl]
   have e2:topS (45::r)=45::topS r:=by unfold topS;rw[List.takeWhile_cons];rfl
   have e3:botS (45::r)=botS r:=by unfold botS;rw[List.dropWhile_cons];rfl
   rw[e1,e2,e3]
   exact ⟨(by rw[oO,if_pos rfl]),rfl⟩
  ·have e1:digs (c::r)=c::r:=by rw[oO,if_neg h]
   rw[e1]
   refine ⟨?_,rfl⟩
   unfold topS
   rw[List.takeWhile_cons]
   split
   ·rw[oO,if_neg h]
   ·rfl
set_option maxHeartbeats 1600000 in
theorem b73 (s:List UInt8):body Tryz.prog [] { asks:=[(0,[])] } true Tryz.f145 [S s] (.tup [.bl (s.headD 0=45) inferInstance,S (digs (topS s)),S (botS s).tail,.bl (¬botS s= []) inferInstance]):=by
 obtain ⟨hT,hB⟩:=aNp s
 rw[← hT,← hB]
 by_cases hm:0<s.length∧aJ s 0=45
 ·obtain ⟨h0,hb⟩:=hm
  have hD:=xQ h0 hb
  have hh:s.headD 0=45:=(bK h0 45).1 hb
  have hi:aJ s 0=45↔s.headD 0=45:=⟨fun _=>hh,fun _=>hb⟩
  rw[hD]
  have hs:(s.drop 1).length≤s.length:=by have:=jS s;rw[hD] at this;omega
  (repeat'((conv=>whnf);first|refine Zg fun _=>?_|refine Zn ?_|refine Z0 ?_|refine Z1 ?_|refine Zy ?_|fail))
  refine Ask.mk ⟨{ X:=Nat,pre:=fun i=>i≤(s.drop 1).length∧∀j,j<i→¬aJ (s.drop 1) j=47,mod:=fun i _=>[(8,I i)],heap:=fun _ _=>[],mu:=fun i=>(s.drop 1).length-i },rfl,?_⟩
  (repeat'((conv=>whnf);first|refine Zn ?_|fail))
  refine ⟨⟨(0:Nat),⟨Nat.zero_le _,fun j h2=>by omega⟩,by (repeat'(first|exact trivial|rfl|refine And.intro ?_ ?_|fail))⟩,fun (i:Nat) hi'=>?_⟩
  obtain ⟨hi1,hi3⟩:=hi'
  by_cases hlt:i<(s.drop 1).length
  ·by_cases c1:aJ (s.drop 1) i=47
   ·obtain ⟨w1,w2⟩:=sM (s.drop 1) i hi1 hi3 (.inr ⟨hlt,c1⟩)
    have w3:(s.drop 1).drop (i+1)=((s.drop 1).drop i).tail:=List.tail_drop.symm
    have w4:¬(s.drop 1).drop i= []:=fun h=>by
     have h9:((s.drop 1).drop i).length=0:=by rw[h];rfl
     rw[List.length_drop] at h9
     omega
    rw[w1,w2]
    (repeat'((conv=>whnf);first|refine Zg fun _=>?_|refine Zn ?_|refine Zj ?_|(apply Pin.mk;apply Exists.intro)|apply Pinned.mk rfl rfl|refine Zy ?_|fail))
    (conv=>whnf)
    (repeat'(first|exact trivial|rfl|refine And.intro ?_ ?_|fail))
    all_goals first | exact hi | exact hh | exact w3 | exact w4
   ·(repeat'((conv=>whnf);first|refine Zg fun _=>?_|refine Zn ?_|refine Zj ?_|refine Zy ?_|refine Zm ?_|fail))
    refine ⟨(i+1:Nat),by show (s.drop 1).length-(i+1)<(s.drop 1).length-i;omega,⟨by omega,fun j h4=>?_⟩,?_⟩
    ·by_cases e:j=i
     ·rw[e];exact c1
     ·exact hi3 j (by omega)
    ·(repeat'(first|exact trivial|rfl|refine And.intro ?_ ?_|fail))
  ·have e:i=(s.drop 1).length:=by omega
   subst e
   obtain ⟨w1,w2⟩:=sM (s.drop 1) _ hi1 hi3 (.inl rfl)
   rw[List.take_length] at w1
   rw[List.drop_length] at w2
   rw[w1,w2]
   (repeat'((conv=>whnf);first|refine Zg fun _=>?_|refine Zm ?_|fail))
   (conv=>whnf)
   (repeat'(first|exact trivial|rfl|refine And.intro ?_ ?_|fail))
   all_goals first | exact hi | exact hh | exact fun h=>h rfl
 ·have hD:digs s=s:=sL fun h e=>hm ⟨h,e⟩
  have hh:¬s.headD 0=45:=fun e=>by
   have h0:0<s.length:=Nat.pos_of_ne_zero fun h=>by rw[List.length_eq_zero_iff.1 h] at e;simp at e
   exact hm ⟨h0,(bK h0 45).2 e⟩
  have hm2:¬(0<(s.length:Int))∨(0<(s.length:Int)∧¬aJ s 0=45):=by
   by_cases h:0<s.length
   ·exact .inr ⟨by omega,fun e=>hm ⟨h,e⟩⟩
   ·exact .inl (by omega)
  rw[hD]
  have hi:aJ s 0=45↔s.headD 0=45:=by
   constructor
   ·intro e
    by_cases h:0<s.length
    ·exact absurd ⟨h,e⟩ hm
    ·rw[List.length_eq_zero_iff.1 (show s.length=0 by omega)] at e
     exact absurd e (by decide)
   ·exact fun e=>absurd e hh
  rcases hm2 with hm2 | ⟨hm2,hm3⟩
  ·skip
   have hs:(s).length≤s.length:=by have:=jS s;rw[hD] at this;omega
   (repeat'((conv=>whnf);first|refine Zg fun _=>?_|refine Zm ?_|fail))
   refine Ask.mk ⟨{ X:=Nat,pre:=fun i=>i≤(s).length∧∀j,j<i→¬aJ (s) j=47,mod:=fun i _=>[(8,I i)],heap:=fun _ _=>[],mu:=fun i=>(s).length-i },rfl,?_⟩
   (repeat'((conv=>whnf);first|refine Zn ?_|fail))
   refine ⟨⟨(0:Nat),⟨Nat.zero_le _,fun j h2=>by omega⟩,by (repeat'(first|exact trivial|rfl|refine And.intro ?_ ?_|fail))⟩,fun (i:Nat) hi'=>?_⟩
   obtain ⟨hi1,hi3⟩:=hi'
   by_cases hlt:i<(s).length
   ·exfalso;omega
   ·have e:i=(s).length:=by omega
    subst e
    obtain ⟨w1,w2⟩:=sM (s) _ hi1 hi3 (.inl rfl)
    rw[List.take_length] at w1
    rw[List.drop_length] at w2
    rw[w1,w2]
    (repeat'((conv=>whnf);first|refine Zg fun _=>?_|refine Zm ?_|fail))
    (conv=>whnf)
    (repeat'(first|exact trivial|rfl|refine And.intro ?_ ?_|fail))
    all_goals first | exact hi | exact hh | exact fun h=>h rfl
  ·skip
   have hs:(s).length≤s.length:=by have:=jS s;rw[hD] at this;omega
   (repeat'((conv=>whnf);first|refine Zg fun _=>?_|refine Zn ?_|refine Z0 ?_|refine Zy ?_|refine Zm ?_|fail))
   refine Ask.mk ⟨{ X:=Nat,pre:=fun i=>i≤(s).length∧∀j,j<i→¬aJ (s) j=47,mod:=fun i _=>[(8,I i)],heap:=fun _ _=>[],mu:=fun i=>(s).length-i },rfl,?_⟩
   (repeat'((conv=>whnf);first|refine Zn ?_|fail))
   refine ⟨⟨(0:Nat),⟨Nat.zero_le _,fun j h2=>by omega⟩,by (repeat'(first|exact trivial|rfl|refine And.intro ?_ ?_|fail))⟩,fun (i:Nat) hi'=>?_⟩
   obtain ⟨hi1,hi3⟩:=hi'
   by_cases hlt:i<(s).length
   ·by_cases c1:aJ (s) i=47
    ·obtain ⟨w1,w2⟩:=sM (s) i hi1 hi3 (.inr ⟨hlt,c1⟩)
     have w3:(s).drop (i+1)=((s).drop i).tail:=List.tail_drop.symm
     have w4:¬(s).drop i= []:=fun h=>by
      have h9:((s).drop i).length=0:=by rw[h];rfl
      rw[List.length_drop] at h9
      omega
     rw[w1,w2]
     (repeat'((conv=>whnf);first|refine Zg fun _=>?_|refine Zn ?_|refine Zj ?_|(apply Pin.mk;apply Exists.intro)|apply Pinned.mk rfl rfl|refine Zy ?_|fail))
     (conv=>whnf)
     (repeat'(first|exact trivial|rfl|refine And.intro ?_ ?_|fail))
     all_goals first | exact hi | exact hh | exact w3 | exact w4
    ·(repeat'((conv=>whnf);first|refine Zg fun _=>?_|refine Zn ?_|refine Zj ?_|refine Zy ?_|refine Zm ?_|fail))
     refine ⟨(i+1:Nat),by show (s).length-(i+1)<(s).length-i;omega,⟨by omega,fun j h4=>?_⟩,?_⟩
     ·by_cases e:j=i
      ·rw[e];exact c1
      ·exact hi3 j (by omega)
     ·(repeat'(first|exact trivial|rfl|refine And.intro ?_ ?_|fail))
   ·have e:i=(s).length:=by omega
    subst e
    obtain ⟨w1,w2⟩:=sM (s) _ hi1 hi3 (.inl rfl)
    rw[List.take_length] at w1
    rw[List.drop_length] at w2
    rw[w1,w2]
    (repeat'((conv=>whnf);first|refine Zg fun _=>?_|refine Zm ?_|fail))
    (conv=>whnf)
    (repeat'(first|exact trivial|rfl|refine And.intro ?_ ?_|fail))
    all_goals first | exact hi | exact hh | exact fun h=>h rfl
def c73:Con:=aK 145 true fun args K=>match args with | [.str s]=>K (.tup [.bl (s.headD 0=45) inferInstance,S (digs (topS s)),S (botS s).tail,.bl (¬botS s= []) inferInstance]) | _=>False
theorem k73:aG Tryz.prog c73:=by
 refine aC rfl (enters_of Tryz.func145 (by kernel_rfl) rfl) ?_
 intro args K h
 simp only[c73] at h
 split at h
 ·rename_i s;exact ⟨_,h,aA (Γ:=[]) (by simp) Tryz.func145 (by simp[Tryz.ntmps145]) rfl (b73 s)⟩
 ·exact h.elim
def c116:Con:=aK 197 true fun args K=>match args with
 | [.agg [.bl p hp,.seq (.int .i64) a]]=>Need (eW a∧a.length≤200) (K (S (itoa (@sgP p hp (valB B6 a)))))
 | [.agg [.val (.bool false),.seq (.int .i64) a]]=>Need (eW a∧a.length≤200) (K (S (itoa (valB B6 a))))
 | _=>False
theorem pow6 (k:Nat):(B6:Nat)^k=10^ (6*k):=by
 rw[show B6=10^6 by decide,← Nat.pow_mul]
theorem aC0 {k:Nat} (h:k≤300):10^k≤B6^50:=by
 rw[pow6]
 obtain ⟨m,hm⟩:∃m,6*50=m:=⟨_,rfl⟩
 rw[hm]
 exact Nat.pow_le_pow_right (by omega) (by omega)
theorem jT {s:List UInt8} (h:form s) (hl:(digs s).length≤300):aE (digs s)<B6^50:=
 Nat.lt_of_lt_of_le (cG (digs s) h.2.2) (aC0 hl)
theorem tU {s:List UInt8} (h:form s) (hl:s.length≤17): -1000000000000000000<valI s∧valI s<1000000000000000000:=dL h (by omega)
theorem aNq {n k:Nat} (hk:k+1≤300) (h:n<10^ (k+1)):resI (n:Int)=(itoa n,0):=by
 unfold resI lim
 rw[if_neg]
 have:=iD k n h
 simp;omega
theorem aFn {n:Nat} (h:n<B6^50):resI (n:Int)=(itoa n,0):=by
 rw[pow6] at h
 obtain ⟨k,hk⟩:∃k,6*50=k+1:=⟨299,rfl⟩
 rw[hk] at h
 exact aNq (by omega) h
set_option maxHeartbeats 4000000 in
theorem b86 (a b:List UInt8):body Tryz.prog [c110,c111,c61,c112,c113,c116] { asks:=[(0,[]),(2,[])] } true Tryz.f149 [S a,S b] (.tup [S (bT a b (resI (Int.gcd (valI a) (valI b)))).1,I (bT a b (resI (Int.gcd (valI a) (valI b)))).2]):=by
 unfold bT
 skip
 (refine Br.mk (fun _=>?_) (fun _=>?_))
 ·rename_i h
  rw[if_pos h]
  skip
  (conv=>whnf)
  (repeat'(first|exact trivial|rfl|refine And.intro ?_ ?_|fail))
 ·rename_i h
  rw[if_neg h]
  obtain ⟨ha,hb⟩:=fU h
  obtain ⟨fa,la⟩:=bS ha
  obtain ⟨fb,lb⟩:=bS hb
  have pM:=jT fa la
  have pN:=jT fb lb
  have hgv:Int.gcd (valI a) (valI b)=Nat.gcd (aE (digs a)) (aE (digs b)):=by
   unfold Int.gcd
   rw[dS,dS,mC,mC]
  skip
  refine Need.mk ⟨fa,fb⟩ ?_
  skip
  (refine Br.mk (fun _=>?_) (fun _=>?_))
  ·rename_i hs
   have h1:=tU fa hs.1
   have h2:=tU fb hs.2
   skip
   refine Ask.mk ⟨{ X:=Int × Int,pre:=fun z=>Int.gcd z.1 z.2=Int.gcd (valI a) (valI b)∧z.1.natAbs≤1000000000000000000∧z.2.natAbs≤1000000000000000000,mod:=fun z _=>[(7,I z.1),(8,I z.2)],heap:=fun _ _=>[],mu:=fun z=>z.2.natAbs },rfl,?_⟩
   (repeat'((conv=>whnf);first|refine Zn ?_|fail))
   refine ⟨⟨(valI a,valI b),⟨rfl,by show (valI a).natAbs≤ _;omega,by show (valI b).natAbs≤ _;omega⟩,by (repeat'(first|exact trivial|rfl|refine And.intro ?_ ?_|fail))⟩,fun (z:Int × Int) hz=>?_⟩
   obtain ⟨z1,z2,z3⟩:=hz
   skip
   (refine Br.mk (fun _=>?_) (fun _=>?_))
   ·rename_i hy
    have hm:(z.1.tmod z.2).natAbs<z.2.natAbs:=by rw[Int.natAbs_tmod];exact Nat.mod_lt _ (by omega)
    (repeat'((conv=>whnf);first|refine Zb ?_|(apply Pin.mk;apply Exists.intro)|apply Pinned.mk rfl rfl|fail))
    (conv=>whnf)
    refine ⟨(z.2,z.1.tmod z.2),hm,⟨by rw[← z1];exact rD _ _,z3,by show (z.1.tmod z.2).natAbs≤ _;omega⟩,?_⟩
    (repeat'(first|exact trivial|rfl|refine And.intro ?_ ?_|fail))
   ·rename_i hy
    have hy:z.2=0:=by omega
    have hg:((Int.gcd (valI a) (valI b):Nat):Int)=max z.1 (-z.1):=by
     rw[← z1,hy,Int.gcd_zero_right]
     omega
    rw[hg,eM (by omega)]
    (repeat'((conv=>whnf);first|refine Zn ?_|fail))
    (conv=>whnf)
    (repeat'(first|exact trivial|rfl|refine And.intro ?_ ?_|fail))
  ·rename_i hs
   rw[hgv]
   (refine Br.mk (fun _=>?_) (fun _=>?_))
   all_goals (
    skip
    refine Need.mk ⟨fa,by omega⟩ ?_
    skip
    refine Need.mk ⟨fb,by omega⟩ ?_
    skip
    refine Ask.mk ⟨{ X:=Nat × Nat,pre:=fun z=>Nat.gcd z.1 z.2=Nat.gcd (aE (digs a)) (aE (digs b))∧z.1<B6^50∧z.2<B6^50,mod:=fun z _=>[(10,Ls (aB B6 z.1)),(11,Ls (aB B6 z.2))],heap:=fun _ _=>[],mu:=fun z=>z.2 },rfl,?_⟩
    (repeat'((conv=>whnf);first|refine Zn ?_|fail))
    refine ⟨⟨(aE (digs a),aE (digs b)),⟨rfl,pM,pN⟩,by (repeat'(first|exact trivial|rfl|refine And.intro ?_ ?_|fail))⟩,fun (z:Nat × Nat) hz=>?_⟩
    obtain ⟨z1,z2,z3⟩:=hz
    have l1:=hU z2
    have hpw:B6^50≤B6^100:=Nat.pow_le_pow_right (by decide) (by omega)
    (repeat'((conv=>whnf);first|refine Zg fun _=>?_|fail))
    (refine Br.mk (fun _=>?_) (fun _=>?_))
    ·rename_i hy
     have hy:0<z.2:=Nat.pos_of_ne_zero fun e=>by rw[e,aY] at hy;exact absurd hy (by decide)
     skip
     refine Need.mk ⟨aP (by decide) _,iY _,⟨by rw[v6,Int.toNat_natCast];exact hy,by rw[v6,Int.toNat_natCast];exact Nat.lt_of_lt_of_le z3 hpw⟩,by omega⟩ ?_
     rw[v6,v6,← Int.natCast_ediv,← Int.natCast_emod,Int.toNat_natCast,Int.toNat_natCast]
     skip
     refine ⟨(z.2,z.1%z.2),Nat.mod_lt _ hy,⟨by rw[← z1];show Nat.gcd z.2 (z.1%z.2)= _;rw[Nat.gcd_comm z.1 z.2,Nat.gcd_rec z.2 z.1];exact Nat.gcd_comm _ _,z3,Nat.lt_trans (Nat.mod_lt _ hy) z3⟩,?_⟩
     (repeat'(first|exact trivial|rfl|refine And.intro ?_ ?_|fail))
    ·rename_i hy
     have hy:z.2=0:=(gR (B:=B6) (by decide)).1 (List.eq_nil_of_length_eq_zero (by omega))
     rw[hy,Nat.gcd_zero_right] at z1
     rw[← z1,aFn z2]
     skip
     refine Need.mk ⟨iY _,by omega⟩ ?_
     rw[v6]
     skip
     (conv=>whnf)
     (repeat'(first|exact trivial|rfl|refine And.intro ?_ ?_|fail)))
noncomputable def c86:Con:=aK 149 true fun args K=>match args with
 | [.str a,.str b]=>K (.tup [S (bT a b (resI (Int.gcd (valI a) (valI b)))).1,I (bT a b (resI (Int.gcd (valI a) (valI b)))).2])
 | _=>False
theorem aNr (s:List UInt8):(topS s).headD 0=45↔s.headD 0=45:=by
 cases s with
 | nil=>exact Iff.rfl
 | cons c r=>
  unfold topS
  rw[List.takeWhile_cons]
  by_cases h:c=47
  ·subst h
   constructor
   ·intro e;simp at e
   ·intro e;simp at e
  ·have hb:(c != 47)=true:=by simpa using h
   rw[hb];exact Iff.rfl
theorem aAv (s:List UInt8):iP s↔okD (digs (topS s))∧¬(s.headD 0=45∧digs (topS s)= [48])∧(botS s= []∨(okD (botS s).tail∧¬(botS s).tail= [48]∧¬(botS s).tail= [49])):=by
 unfold iP
 rw[aE5,aNr,and_assoc]
 refine and_congr_right fun _=>and_congr_right fun _=>?_
 by_cases h:botS s= []
 ·exact ⟨fun _=>.inl h,fun _=>.inl h⟩
 ·have e:denS s=aE (botS s).tail:=by unfold denS;rw[if_neg h]
  rw[e,aIt]
theorem aPf {s:List UInt8} (h:¬(okD (digs (topS s))∧¬(s.headD 0=45∧digs (topS s)= [48])∧(botS s= []∨(okD (botS s).tail∧¬(botS s).tail= [48]∧¬(botS s).tail= [49])))):chkQ s=11:=by
 unfold chkQ;rw[if_neg fun e=>h ((aAv s).1 e)]
theorem aG8 (s:List UInt8):(valI (topS s)).natAbs=aE (digs (topS s)):=by rw[dS,mC]
theorem aJl {t:List UInt8} (h:okD t) (hl:t.length≤300):chkI t=0∧valI t=aE t:=by
 rw[fZ] at h
 obtain ⟨h1,h2,h3⟩:=h
 have hh:¬t.headD 0=45:=fun e=>by
  cases t with
  | nil=>exact h1 rfl
  | cons c r=>
   have hc:c=45:=e
   have:=h2 c (by simp)
   subst hc
   exact absurd this (by decide)
 have hd:digs t=t:=by unfold digs;rw[if_neg hh]
 have hf:form t:=by
  refine ⟨by rw[hd];exact h1,?_,by rw[hd];exact h2⟩
  rw[hd]
  by_cases h48:t.headD 0=48
  ·rcases h3 with h3 | h3
   ·exact .inr (aIs h3 h48)
   ·exact absurd h48 h3
  ·exact .inl h48
 refine ⟨by rw[gD hf,hd,if_neg (by omega)],by unfold valI;rw[if_neg hh]⟩
theorem aPg {x y:List UInt8} (hx:okD x) (hy:okD y) (lx:x.length≤300) (ly:y.length≤300):(bT x y (resI (Int.gcd (valI x) (valI y)))).1= [49]↔(aE x).gcd (aE y)=1:=by
 obtain ⟨c1,v1⟩:=aJl hx lx
 obtain ⟨c2,v2⟩:=aJl hy ly
 have hg:Int.gcd (valI x) (valI y)=(aE x).gcd (aE y):=by rw[v1,v2];rfl
 have hpos:(aE x).gcd (aE y)<B6^50:=by
  have b1:=Nat.lt_of_lt_of_le (cG x ((fZ x).1 hx).2.1) (aC0 lx)
  have b2:=Nat.lt_of_lt_of_le (cG y ((fZ y).1 hy).2.1) (aC0 ly)
  rcases Nat.eq_zero_or_pos (aE x) with h | h
  ·rw[h,Nat.gcd_zero_left];exact b2
  ·exact Nat.lt_of_le_of_lt (Nat.gcd_le_left _ h) b1
 unfold bT chk2
 rw[if_neg (by rw[c1];simp[c2]),hg,aFn hpos]
 dsimp only
 rw[show ([49]:List UInt8)=itoa ((1:Nat):Int) from by decide+kernel]
 constructor
 ·intro e;have:=fY e;omega
 ·intro e;rw[e]
theorem aNs {s:List UInt8} (h:okD (digs (topS s))∧¬(s.headD 0=45∧digs (topS s)= [48])∧(botS s= []∨(okD (botS s).tail∧¬(botS s).tail= [48]∧¬(botS s).tail= [49]))):
  chkQ s=if 300<(digs (topS s)).length∨300<(botS s).tail.length then 4 else if (aE (digs (topS s))).gcd (denS s)=1 then 0 else 11:=by
 unfold chkQ
 rw[if_pos ((aAv s).2 h),aG8]
theorem b44n (s:List UInt8) (h:¬(okD (digs (topS s))∧¬(s.headD 0=45∧digs (topS s)= [48])∧(botS s= []∨(okD (botS s).tail∧¬(botS s).tail= [48]∧¬(botS s).tail= [49])))):body Tryz.prog [c73,c83,c85,c84,c86] {} true Tryz.f81 [S s] (I (chkQ s)):=by
 rw[aPf h]
 by_cases h1:okD (digs (topS s))
 ·by_cases h3:botS s= []
  ·have h4:¬ ¬botS s= []:=fun h=>h h3
   have h5:s.headD 0=45∧digs (topS s)= [48]:=Classical.byContradiction fun e=>h ⟨h1,e,.inl h3⟩
   obtain ⟨h5,h6⟩:=h5
   (repeat'((conv=>whnf);first|refine Zy ?_|refine Zm ?_|fail))
   (conv=>whnf)
   (repeat'(first|rfl|refine And.intro ?_ ?_|fail))
  ·by_cases h5:okD (botS s).tail
   ·by_cases h6:(botS s).tail= [48]
    ·(repeat'((conv=>whnf);first|refine Zy ?_|refine Zm ?_|fail))
     (conv=>whnf)
     (repeat'(first|rfl|refine And.intro ?_ ?_|fail))
    ·by_cases h7:(botS s).tail= [49]
     ·(repeat'((conv=>whnf);first|refine Zy ?_|refine Zm ?_|fail))
      (conv=>whnf)
      (repeat'(first|rfl|refine And.intro ?_ ?_|fail))
     ·have h8:s.headD 0=45∧digs (topS s)= [48]:=Classical.byContradiction fun e=>h ⟨h1,e,.inr ⟨h5,h6,h7⟩⟩
      obtain ⟨h8,h9⟩:=h8
      (repeat'((conv=>whnf);first|refine Zy ?_|refine Zm ?_|fail))
      (conv=>whnf)
      (repeat'(first|rfl|refine And.intro ?_ ?_|fail))
   ·(repeat'((conv=>whnf);first|refine Zy ?_|refine Zm ?_|fail))
    (conv=>whnf)
    (repeat'(first|rfl|refine And.intro ?_ ?_|fail))
 ·(repeat'((conv=>whnf);first|refine Zy ?_|fail))
  (conv=>whnf)
  (repeat'(first|rfl|refine And.intro ?_ ?_|fail))
set_option maxHeartbeats 4000000 in
theorem b44y (s:List UInt8) (h:okD (digs (topS s))∧¬(s.headD 0=45∧digs (topS s)= [48])∧(botS s= []∨(okD (botS s).tail∧¬(botS s).tail= [48]∧¬(botS s).tail= [49]))):body Tryz.prog [c73,c83,c85,c84,c86] {} true Tryz.f81 [S s] (I (chkQ s)):=by
 rw[aNs h]
 obtain ⟨h1,h2,h3⟩:=h
 have d1:=((fZ _).1 h1).2.1
 have h2:¬s.headD 0=45∨(s.headD 0=45∧¬digs (topS s)= [48]):=by
  by_cases e:s.headD 0=45
  ·exact .inr ⟨e,fun e2=>h2 ⟨e,e2⟩⟩
  ·exact .inl e
 by_cases hb:botS s= []
 ·have hb':¬ ¬botS s= []:=fun h=>h hb
  have hl:(botS s).tail.length=0:=by rw[hb];rfl
  have hd:denS s=1:=by unfold denS;rw[if_pos hb]
  rw[hd]
  have hg1:=Nat.gcd_one_right (aE (digs (topS s)))
  by_cases h300:300<(digs (topS s)).length
  ·rw[if_pos (.inl h300)]
   rcases h2 with h2 | ⟨h2,h4⟩
   all_goals (
    (repeat'((conv=>whnf);first|refine Zg fun _=>?_|refine Zy ?_|refine Zm ?_|fail))
    (conv=>whnf)
    (repeat'(first|rfl|refine And.intro ?_ ?_|fail)))
  ·rw[if_neg (by omega),if_pos hg1]
   rcases h2 with h2 | ⟨h2,h4⟩
   all_goals (
    (repeat'((conv=>whnf);first|refine Zg fun _=>?_|refine Zy ?_|refine Zm ?_|fail))
    (conv=>whnf)
    (repeat'(first|rfl|refine And.intro ?_ ?_|fail)))
 ·have hd:denS s=aE (botS s).tail:=by unfold denS;rw[if_neg hb]
  rw[hd]
  obtain ⟨h5,h6,h7⟩:=h3.resolve_left hb
  have d2:=((fZ _).1 h5).2.1
  by_cases h300:300<(digs (topS s)).length
  ·rw[if_pos (.inl h300)]
   rcases h2 with h2 | ⟨h2,h4⟩
   all_goals (
    (repeat'((conv=>whnf);first|refine Zg fun _=>?_|refine Zy ?_|refine Zm ?_|fail))
    (conv=>whnf)
    (repeat'(first|rfl|refine And.intro ?_ ?_|fail)))
  ·by_cases h301:300<(botS s).tail.length
   ·rw[if_pos (.inr h301)]
    rcases h2 with h2 | ⟨h2,h4⟩
    all_goals (
     (repeat'((conv=>whnf);first|refine Zg fun _=>?_|refine Zy ?_|refine Zm ?_|fail))
     (conv=>whnf)
     (repeat'(first|rfl|refine And.intro ?_ ?_|fail)))
   ·rw[if_neg (by omega)]
    by_cases h9:(digs (topS s)).length≤9∧(botS s).tail.length≤9
    ·obtain ⟨h9,h10⟩:=h9
     have n9:(10:Nat)^9=1000000000:=by decide
     have b1:=cG _ d1
     have b2:=cG _ d2
     have b1':(10:Nat)^ (digs (topS s)).length≤10^9:=Nat.pow_le_pow_right (by omega) h9
     have b2':(10:Nat)^ (botS s).tail.length≤10^9:=Nat.pow_le_pow_right (by omega) h10
     have hgi:Int.gcd (aE (digs (topS s)):Int) (aE (botS s).tail:Int)=(aE (digs (topS s))).gcd (aE (botS s).tail):=rfl
     by_cases hg:(aE (digs (topS s))).gcd (aE (botS s).tail)=1
     ·rw[if_pos hg]
      rcases h2 with h2 | ⟨h2,h4⟩
      all_goals (
       (repeat'((conv=>whnf);first|refine Zg fun _=>?_|refine Zy ?_|refine Zm ?_|fail))
       refine Need.mk ⟨d1,by omega⟩ ?_
       skip
       refine Need.mk ⟨d2,by omega⟩ ?_
       (repeat'((conv=>whnf);first|refine Zn ?_|refine Zm ?_|fail))
       (conv=>whnf)
       (repeat'(first|rfl|refine And.intro ?_ ?_|fail)))
     ·rw[if_neg hg]
      rcases h2 with h2 | ⟨h2,h4⟩
      all_goals (
       (repeat'((conv=>whnf);first|refine Zg fun _=>?_|refine Zy ?_|refine Zm ?_|fail))
       refine Need.mk ⟨d1,by omega⟩ ?_
       skip
       refine Need.mk ⟨d2,by omega⟩ ?_
       (repeat'((conv=>whnf);first|refine Zn ?_|refine Zy ?_|fail))
       (conv=>whnf)
       (repeat'(first|rfl|refine And.intro ?_ ?_|fail)))
    ·have hgs:=aPg h1 h5 (by omega) (by omega)
     have h9:¬((digs (topS s)).length:Int)≤9∨(((digs (topS s)).length:Int)≤9∧¬((botS s).tail.length:Int)≤9):=by omega
     by_cases hg:(aE (digs (topS s))).gcd (aE (botS s).tail)=1
     ·rw[if_pos hg]
      have hg2:=hgs.2 hg
      rcases h2 with h2 | ⟨h2,h4⟩
      all_goals (
       rcases h9 with h9 | ⟨h9,h10⟩
       all_goals (
        (repeat'((conv=>whnf);first|refine Zg fun _=>?_|refine Zy ?_|refine Zm ?_|fail))
        (conv=>whnf)
        (repeat'(first|rfl|refine And.intro ?_ ?_|fail))))
     ·rw[if_neg hg]
      have hg2:¬ _= _:=fun e=>hg (hgs.1 e)
      rcases h2 with h2 | ⟨h2,h4⟩
      all_goals (
       rcases h9 with h9 | ⟨h9,h10⟩
       all_goals (
        (repeat'((conv=>whnf);first|refine Zg fun _=>?_|refine Zy ?_|refine Zm ?_|fail))
        (conv=>whnf)
        (repeat'(first|rfl|refine And.intro ?_ ?_|fail))))
theorem b44 (s:List UInt8):body Tryz.prog [c73,c83,c85,c84,c86] {} true Tryz.f81 [S s] (I (chkQ s)):=by
 by_cases h:okD (digs (topS s))∧¬(s.headD 0=45∧digs (topS s)= [48])∧(botS s= []∨(okD (botS s).tail∧¬(botS s).tail= [48]∧¬(botS s).tail= [49]))
 ·exact b44y s h
 ·exact b44n s h
theorem xL (x:Int):∀l:List Int,wrG (l++ [x])=six x.toNat++wrG l
 | []=>by simp[wrG]
 | y::r=>by
  show wrG (r++ [x])++six y.toNat=six x.toNat++(wrG r++six y.toNat)
  rw[xL x r,List.append_assoc]
abbrev U (l:List Int):HO:=.vec 1 (.int .u8) l 5
theorem i0:itoa (valB B6 [])= [48]:=by show itoa 0= [48];simp[itoa,decDigits]
def lowD (x:Nat):Nat→List Int
 | 0=>[]
 | j+1=>((48+x/10^j%10:Nat):Int)::lowD x j
theorem aFk (x:Nat):∀j,(lowD x j).length=j
 | 0=>rfl
 | j+1=>by rw[lowD,List.length_cons,aFk x j]
theorem aNf (x:Nat):lowD x 6=aO (six x):=by
 have d:∀n,(((UInt8.ofNat (48+n%10)).toNat:Nat):Int)=((48+n%10:Nat):Int):=fun n=>by rw[dO (by omega)]
 simp only[lowD,six,aO,List.map_cons,List.map_nil,d,Nat.reducePow,Nat.div_one]
def oT (l:List Int) (i j:Nat):List Int:=List.replicate (6*(l.length-i)-j) 0++(lowD (l.getD i 0).toNat j++aO (wrG (l.take i)))
theorem xM (s:List UInt8):(aO s).length=s.length:=by simp[aO]
theorem aRl {l:List Int} {i j:Nat} (hi:i≤l.length) (hj:j≤6*(l.length-i)):(oT l i j).length=6*l.length:=by
 simp only[oT,List.length_append,List.length_replicate,aFk,xM,aCi,List.length_take]
 omega
theorem aPb (l:List Int):oT l 0 0=List.replicate (6*l.length) 0:=by
 simp[oT,lowD,wrG,aO]
theorem aRm (l:List Int):oT l l.length 0=aO (wrG l):=by
 simp[oT,lowD]
theorem aRn {l:List Int} {i:Nat} (hi:i<l.length):oT l i 6=oT l (i+1) 0:=by
 have e1:6*(l.length-i)-6=6*(l.length-(i+1))-0:=by omega
 have e2:l.take (i+1)=l.take i++ [l.getD i 0]:=by
  rw[List.take_succ_eq_append_getElem hi]
  simp[List.getD_eq_getElem?_getD,hi]
 unfold oT
 rw[e1,e2,xL,aNf]
 simp[lowD,aO]
theorem aNg (m:Nat) (v:Int) (r:List Int):(List.replicate (m+1) (0:Int)++r).set m v=List.replicate m 0++(v::r):=by
 rw[List.replicate_succ',List.append_assoc,List.set_append_right _ _ (by simp)]
 simp
theorem aRo {l:List Int} {i j k:Nat} {v:Int} (hi:i<l.length) (hj:j<6) (hk:k=6*(l.length-i)-(j+1)) (hv:v=((48+(l.getD i 0).toNat/10^j%10:Nat):Int)):(oT l i j).set k v=oT l i (j+1):=by
 subst hk hv
 unfold oT
 obtain ⟨m,hm⟩:∃m,m=6*(l.length-i)-(j+1):=⟨_,rfl⟩
 rw[show 6*(l.length-i)-j=m+1 by omega,← hm,aNg]
 rfl
theorem dU (s:List UInt8):bO (aO s)=s:=by
 unfold bO aO
 rw[List.map_map]
 conv=>rhs;rw[← List.map_id s]
 refine List.map_congr_left fun b _=>?_
 simp
theorem dz {n m:Nat} (h:n<10*m) (e:n/m%10=0):n<m:=by
 have h1:n/m<10:=Nat.div_lt_of_lt_mul (by rw[Nat.mul_comm];exact h)
 rw[Nat.mod_eq_of_lt h1] at e
 have hm:0<m:=by
  rcases Nat.eq_zero_or_pos m with e0 | e0
  ·subst e0;omega
  ·exact e0
 rcases Nat.div_eq_zero_iff.1 e with h2 | h2
 ·omega
 ·exact h2
theorem dsum {n:Nat} (h0:0<n) (h:n<1000000):0<n/100000%10+n/10000%10+n/1000%10+n/100%10+n/10%10+n%10:=by
 refine Nat.pos_of_ne_zero fun e=>?_
 obtain ⟨e,e5⟩:=Nat.add_eq_zero_iff.1 e
 obtain ⟨e,e4⟩:=Nat.add_eq_zero_iff.1 e
 obtain ⟨e,e3⟩:=Nat.add_eq_zero_iff.1 e
 obtain ⟨e,e2⟩:=Nat.add_eq_zero_iff.1 e
 obtain ⟨e0,e1⟩:=Nat.add_eq_zero_iff.1 e
 have a0:=dz (m:=100000) h e0
 have a1:=dz (m:=10000) a0 e1
 have a2:=dz (m:=1000) a1 e2
 have a3:=dz (m:=100) a2 e3
 have a4:=dz (m:=10) a3 e4
 omega
theorem aNh {a:List Int} {d0 d1 d2 d3 d4 d5:Nat} {R:List UInt8} (hw:wrG a=UInt8.ofNat (48+d0)::UInt8.ofNat (48+d1)::UInt8.ofNat (48+d2)::UInt8.ofNat (48+d3)::UInt8.ofNat (48+d4)::UInt8.ofNat (48+d5)::R) (hd:d0≤9∧d1≤9∧d2≤9∧d3≤9∧d4≤9∧d5≤9):oT a a.length 0=(48+d0:Int)::(48+d1:Int)::(48+d2:Int)::(48+d3:Int)::(48+d4:Int)::(48+d5:Int)::aO R:=by
 have e:∀d:Nat,d≤9→(((UInt8.ofNat (48+d)).toNat:Nat):Int)=48+d:=fun d h=>by
  rw[UInt8.toNat_ofNat'];omega
 rw[aRm,hw]
 simp only[aO,List.map_cons,e d0 hd.1,e d1 hd.2.1,e d2 hd.2.2.1,e d3 hd.2.2.2.1,e d4 hd.2.2.2.2.1,e d5 hd.2.2.2.2.2]
theorem bJ (d:Nat) (X:List Int):bO ((48+(d:Int))::X)=UInt8.ofNat (48+d)::bO X:=by
 show UInt8.ofNat (48+(d:Int)).toNat::bO X= _
 rw[show (48+(d:Int)).toNat=48+d by omega]
theorem sH {p:Prop} {hp:Decidable p} {a:List Int} {d:Nat} {X:List Int} {Y:List UInt8} (h:¬p) (hv:0<valB B6 a) (hY:bO X=Y) (hf:UInt8.ofNat (48+d)::Y=decDigits (valB B6 a).toNat):bO ((48+(d:Int))::X)=itoa (sgP p (valB B6 a)):=by
 rw[bJ,hY,hf]
 unfold sgP itoa
 rw[if_neg h,if_neg (by omega)]
theorem sI {p:Prop} {hp:Decidable p} {a:List Int} {d:Nat} {X:List Int} {Y:List UInt8} (h:p) (hv:0<valB B6 a) (hY:bO X=Y) (hf:UInt8.ofNat (48+d)::Y=decDigits (valB B6 a).toNat):(45:UInt8)::bO ((48+(d:Int))::X)=itoa (sgP p (valB B6 a)):=by
 rw[bJ,hY,hf]
 unfold sgP itoa
 rw[if_pos h,if_pos (by omega),Int.natAbs_neg]
 congr 2
 omega
theorem aPc {a:List Int} (h:eW a) (hp:0<valB B6 a):(wrG a).dropWhile (· ==48)=decDigits (valB B6 a).toNat:=aOq (sK h) hp
theorem aNi {a:List Int} (h:eW a) (hp:a≠ []):∃d0 d1 d2 d3 d4 d5:Nat,∃R:List UInt8,wrG a=UInt8.ofNat (48+d0)::UInt8.ofNat (48+d1)::UInt8.ofNat (48+d2)::UInt8.ofNat (48+d3)::UInt8.ofNat (48+d4)::UInt8.ofNat (48+d5)::R∧R.length≤6*a.length∧(d0≤9∧d1≤9∧d2≤9∧d3≤9∧d4≤9∧d5≤9)∧0<d0+d1+d2+d3+d4+d5∧0<valB B6 a:=by
 have hin:=sK h
 have hlast:∀(l:List Int),aB B6 (valB B6 a).toNat=l→∀hl:l≠ [],l.getLast hl≠0:=by
  intro l hl;subst hl;exact lY (by decide) _
 have hx:=hlast a h hp
 have hv:0<valB B6 a:=by
  have h1:=xP h
  rcases Nat.eq_zero_or_pos (valB B6 a).toNat with e | e
  ·exfalso
   have h2:aB B6 (valB B6 a).toNat=a:=h
   rw[e] at h2
   exact hp (by rw[← h2];simp[aB])
  ·omega
 obtain ⟨x,hxe⟩:∃x,a.getLast hp=x:=⟨_,rfl⟩
 rw[hxe] at hx
 have hmem:x∈a:=by rw[← hxe];exact List.getLast_mem hp
 have hxb:0≤x∧x<((B6:Nat):Int):=hin x hmem
 have hb6:((B6:Nat):Int)=1000000:=rfl
 rw[hb6] at hxb
 have ha:wrG a=six x.toNat++wrG a.dropLast:=by
  rw[← xL,← hxe,List.dropLast_concat_getLast hp]
 refine ⟨x.toNat/100000%10,x.toNat/10000%10,x.toNat/1000%10,x.toNat/100%10,x.toNat/10%10,x.toNat%10,wrG a.dropLast,by rw[ha];rfl,?_,⟨by omega,by omega,by omega,by omega,by omega,by omega⟩,dsum (by omega) (by omega),hv⟩
 rw[aCi,List.length_dropLast]
 omega
theorem sJ {a:List Int} (h:eW a) (hp:0<valB B6 a) (pre X:List UInt8) (d:Nat) (hd:0<d∧d≤9) (hw:wrG a=pre++UInt8.ofNat (48+d)::X) (hpre:∀b∈pre,b=48):UInt8.ofNat (48+d)::X=decDigits (valB B6 a).toNat:=by
 have hc:UInt8.ofNat (48+d)≠48:=by
  intro e
  have h1:=congrArg UInt8.toNat e
  have h2:(UInt8.ofNat (48+d)).toNat=48+d:=by rw[UInt8.toNat_ofNat'];omega
  rw[h2] at h1
  have:(48:UInt8).toNat=48:=rfl
  omega
 rw[← aPc h hp,hw]
 clear hw
 induction pre with
 | nil=>rw[List.nil_append,List.dropWhile_cons_of_neg (by simpa using hc)]
 | cons b r ih=>
  rw[hpre b (by simp),List.cons_append,List.dropWhile_cons_of_pos (by simp)]
  exact ih fun b hb=>hpre b (by simp[hb])
set_option maxHeartbeats 4000000 in
theorem b116 (p:Prop) (hp:Decidable p) (a:List Int) (h:eW a∧a.length≤200):body Tryz.prog [] { asks:=[(0,[]),(2,[])] } true Tryz.f197 [.agg [.bl p hp,Ls a]] (S (itoa (sgP p (valB B6 a)))):=by
 obtain ⟨hc,hl⟩:=h
 by_cases he:a= []
 ·subst he
  (repeat'((conv=>whnf);first|refine Zg fun _=>?_|fail))
  (refine Br.mk (fun _=>?_) (fun _=>?_))
  ·skip
   (conv=>whnf)
   skip
   show [48]=itoa (if p then -0 else 0)
   split<;>exact i0.symm
  ·rename_i hx
   exact (hx rfl).elim
 ·obtain ⟨d0,d1,d2,d3,d4,d5,R,hw,hR,hd,hs,hpos⟩:=aNi hc he
  have hin:=sK hc
  have hn:0<a.length:=List.length_pos_iff.2 he
  (repeat'((conv=>whnf);first|refine Zg fun _=>?_|refine Zn ?_|refine Zm ?_|fail))
  refine Need.mk ⟨by omega,by omega,by omega,show 6*(a.length:Int)*((1:Nat):Int)≤140737488355328 by omega⟩ ?_
  skip
  refine Ask.mk ⟨{ X:=Nat,pre:=fun i=>i≤a.length,mod:=fun i _=>[(4,I i)],heap:=fun i H=>[hget H 0,U (oT a i 0)],mu:=fun i=>a.length-i },rfl,?_⟩
  (repeat'((conv=>whnf);first|refine Zn ?_|fail))
  refine ⟨⟨(0:Nat),Nat.zero_le _,?_⟩,fun (i:Nat) (hi:i≤a.length)=>?_⟩
  ·(repeat'(first|exact trivial|rfl|refine And.intro ?_ ?_|fail))
   rw[aPb]
   show List.replicate _ _=List.replicate _ _
   congr 1
  have gi:=hin (a.getD i 0)
  (repeat'((conv=>whnf);first|refine Zg fun _=>?_|fail))
  (refine Br.mk (fun _=>?_) (fun _=>?_))
  ·have hlt:i<a.length:=by omega
   have gx:0≤a.getD i 0∧a.getD i 0<1000000:=by
    refine hin _ ?_
    rw[List.getD_eq_getElem?_getD,List.getElem?_eq_getElem hlt]
    exact List.getElem_mem hlt
   (repeat'((conv=>whnf);first|refine Zg fun _=>?_|refine Zn ?_|refine Zj ?_|fail))
   refine Ask.mk ⟨{ X:=Nat,pre:=fun k=>k≤6,mod:=fun k _=>[(5,I (a.getD i 0/((10^k:Nat):Int))),(6,I (k+1))],heap:=fun k H=>[hget H 0,U (oT a i k)],mu:=fun k=>6-k },rfl,?_⟩
   (repeat'((conv=>whnf);first|refine Zn ?_|fail))
   refine ⟨⟨(0:Nat),Nat.zero_le _,?_⟩,fun (k:Nat) (hk:k≤6)=>?_⟩
   ·(repeat'(first|exact trivial|rfl|refine And.intro ?_ ?_|omega|fail))
   skip
   (refine Br.mk (fun _=>?_) (fun _=>?_))
   ·have hk6:k<6:=by omega
    obtain ⟨q,hq⟩:∃q,a.getD i 0/((10^k:Nat):Int)=q:=⟨_,rfl⟩
    have hq0:0≤q∧q<1000000:=by
     rw[← hq]
     have h1:(0:Int)<((10^k:Nat):Int):=Int.natCast_pos.2 (Nat.pow_pos (by omega))
     refine ⟨Int.ediv_nonneg gx.1 (by omega),?_⟩
     have:=Int.ediv_le_self ((10^k:Nat):Int) gx.1
     omega
    rw[hq]
    have tq:q.tmod 10=q%10:=Int.tmod_eq_emod_of_nonneg hq0.1
    have dq:q.tdiv 10=q/10:=Int.tdiv_eq_ediv_of_nonneg hq0.1
    have hln:=aRl (l:=a) (i:=i) (j:=k) (by omega) (by omega)
    (repeat'((conv=>whnf);first|refine Zg fun _=>?_|refine Za ?_|refine Zn ?_|fail))
    refine cH (6*(a.length-i)-(k+1)) (by omega) ?_
    (repeat'((conv=>whnf);first|refine Za ?_|refine Zn ?_|fail))
    refine ⟨(k+1:Nat),by show 6-(k+1)<6-k;omega,hk6,?_⟩
    (repeat'(first|exact trivial|rfl|refine And.intro ?_ ?_|fail))
    ·rw[← hq,Nat.pow_succ,Int.natCast_mul,Int.ediv_ediv_of_nonneg (Int.natCast_nonneg _)];rfl
    ·refine aRo hlt hk6 rfl ?_
     rw[← hq]
     have e1:a.getD i 0=((a.getD i 0).toNat:Int):=by omega
     rw[e1]
     simp only[Int.toNat_natCast]
     omega
   ·have e:k=6:=by omega
    subst e
    (repeat'((conv=>whnf);first|refine Zn ?_|fail))
    refine ⟨(i+1:Nat),by show a.length-(i+1)<a.length-i;omega,hlt,?_⟩
    (repeat'(first|exact trivial|rfl|refine And.intro ?_ ?_|fail))
    exact aRn hlt
  ·have e:i=a.length:=by omega
   subst e
   rw[aNh hw ⟨hd.1,hd.2.1,hd.2.2.1,hd.2.2.2.1,hd.2.2.2.2.1,hd.2.2.2.2.2⟩]
   have hk (n:Nat):List.length (α:=Int) (aO R)=R.length:=xM R
   by_cases z0:d0=0
   ·subst z0
    by_cases z1:d1=0
    ·subst z1
     by_cases z2:d2=0
     ·subst z2
      by_cases z3:d3=0
      ·subst z3
       by_cases z4:d4=0
       ·subst z4
        by_cases z5:d5=0
        ·subst z5
         exfalso;omega
        ·have hf:=sJ hc hpos [48,48,48,48,48] (R) d5 (by omega) hw (by simp)
         (repeat'((conv=>whnf);first|refine Zg fun _=>?_|refine Zn ?_|refine Z0 ?_|fail))
         refine Br.mkY (show (48+((0:Nat):Int))=48 by omega) ?_
         (repeat'((conv=>whnf);first|refine Zg fun _=>?_|refine Zn ?_|refine Z0 ?_|refine Z1 ?_|refine Zl ?_|fail))
         refine Br.mkY (show (48+((0:Nat):Int))=48 by omega) ?_
         (repeat'((conv=>whnf);first|refine Zg fun _=>?_|refine Zn ?_|refine Z0 ?_|refine Z1 ?_|fail))
         refine Br.mkY (show (48+((0:Nat):Int))=48 by omega) ?_
         (repeat'((conv=>whnf);first|refine Zg fun _=>?_|refine Zn ?_|refine Z0 ?_|refine Z1 ?_|fail))
         refine Br.mkY (show (48+((0:Nat):Int))=48 by omega) ?_
         (repeat'((conv=>whnf);first|refine Zg fun _=>?_|refine Zn ?_|refine Z0 ?_|refine Z1 ?_|fail))
         refine Br.mkY (show (48+((0:Nat):Int))=48 by omega) ?_
         (repeat'((conv=>whnf);first|refine Zg fun _=>?_|refine Zn ?_|refine Z0 ?_|refine Z1 ?_|fail))
         refine Br.mkN (show ¬(48+(d5:Int))=48 by omega) ?_
         skip
         (refine Br.mk (fun _=>?_) (fun _=>?_))
         ·rename_i hp'
          skip
          refine Need.mk (show 1+(bO ((48+(d5:Int))::(aO R))).length≤140737488355328 by (simp only[bO,aO,List.length_map,List.length_cons];omega)) ?_
          skip
          (conv=>whnf)
          skip
          exact sI hp' hpos (X:=(aO R)) (by simp only[bJ,dU]) hf
         ·rename_i hp'
          skip
          (conv=>whnf)
          skip
          exact sH hp' hpos (X:=(aO R)) (by simp only[bJ,dU]) hf
       ·have hf:=sJ hc hpos [48,48,48,48] (UInt8.ofNat (48+d5)::R) d4 (by omega) hw (by simp)
        (repeat'((conv=>whnf);first|refine Zg fun _=>?_|refine Zn ?_|refine Z0 ?_|fail))
        refine Br.mkY (show (48+((0:Nat):Int))=48 by omega) ?_
        (repeat'((conv=>whnf);first|refine Zg fun _=>?_|refine Zn ?_|refine Z0 ?_|refine Z1 ?_|refine Zl ?_|fail))
        refine Br.mkY (show (48+((0:Nat):Int))=48 by omega) ?_
        (repeat'((conv=>whnf);first|refine Zg fun _=>?_|refine Zn ?_|refine Z0 ?_|refine Z1 ?_|fail))
        refine Br.mkY (show (48+((0:Nat):Int))=48 by omega) ?_
        (repeat'((conv=>whnf);first|refine Zg fun _=>?_|refine Zn ?_|refine Z0 ?_|refine Z1 ?_|fail))
        refine Br.mkY (show (48+((0:Nat):Int))=48 by omega) ?_
        (repeat'((conv=>whnf);first|refine Zg fun _=>?_|refine Zn ?_|refine Z0 ?_|refine Z1 ?_|fail))
        refine Br.mkN (show ¬(48+(d4:Int))=48 by omega) ?_
        skip
        (refine Br.mk (fun _=>?_) (fun _=>?_))
        ·rename_i hp'
         skip
         refine Need.mk (show 1+(bO ((48+(d4:Int))::((48+d5:Int)::aO R))).length≤140737488355328 by (simp only[bO,aO,List.length_map,List.length_cons];omega)) ?_
         skip
         (conv=>whnf)
         skip
         exact sI hp' hpos (X:=((48+d5:Int)::aO R)) (by simp only[bJ,dU]) hf
        ·rename_i hp'
         skip
         (conv=>whnf)
         skip
         exact sH hp' hpos (X:=((48+d5:Int)::aO R)) (by simp only[bJ,dU]) hf
      ·have hf:=sJ hc hpos [48,48,48] (UInt8.ofNat (48+d4)::UInt8.ofNat (48+d5)::R) d3 (by omega) hw (by simp)
       (repeat'((conv=>whnf);first|refine Zg fun _=>?_|refine Zn ?_|refine Z0 ?_|fail))
       refine Br.mkY (show (48+((0:Nat):Int))=48 by omega) ?_
       (repeat'((conv=>whnf);first|refine Zg fun _=>?_|refine Zn ?_|refine Z0 ?_|refine Z1 ?_|refine Zl ?_|fail))
       refine Br.mkY (show (48+((0:Nat):Int))=48 by omega) ?_
       (repeat'((conv=>whnf);first|refine Zg fun _=>?_|refine Zn ?_|refine Z0 ?_|refine Z1 ?_|fail))
       refine Br.mkY (show (48+((0:Nat):Int))=48 by omega) ?_
       (repeat'((conv=>whnf);first|refine Zg fun _=>?_|refine Zn ?_|refine Z0 ?_|refine Z1 ?_|fail))
       refine Br.mkN (show ¬(48+(d3:Int))=48 by omega) ?_
       skip
       (refine Br.mk (fun _=>?_) (fun _=>?_))
       ·rename_i hp'
        skip
        refine Need.mk (show 1+(bO ((48+(d3:Int))::((48+d4:Int)::(48+d5:Int)::aO R))).length≤140737488355328 by (simp only[bO,aO,List.length_map,List.length_cons];omega)) ?_
        skip
        (conv=>whnf)
        skip
        exact sI hp' hpos (X:=((48+d4:Int)::(48+d5:Int)::aO R)) (by simp only[bJ,dU]) hf
       ·rename_i hp'
        skip
        (conv=>whnf)
        skip
        exact sH hp' hpos (X:=((48+d4:Int)::(48+d5:Int)::aO R)) (by simp only[bJ,dU]) hf
     ·have hf:=sJ hc hpos [48,48] (UInt8.ofNat (48+d3)::UInt8.ofNat (48+d4)::UInt8.ofNat (48+d5)::R) d2 (by omega) hw (by simp)
      (repeat'((conv=>whnf);first|refine Zg fun _=>?_|refine Zn ?_|refine Z0 ?_|fail))
      refine Br.mkY (show (48+((0:Nat):Int))=48 by omega) ?_
      (repeat'((conv=>whnf);first|refine Zg fun _=>?_|refine Zn ?_|refine Z0 ?_|refine Z1 ?_|refine Zl ?_|fail))
      refine Br.mkY (show (48+((0:Nat):Int))=48 by omega) ?_
      (repeat'((conv=>whnf);first|refine Zg fun _=>?_|refine Zn ?_|refine Z0 ?_|refine Z1 ?_|fail))
      refine Br.mkN (show ¬(48+(d2:Int))=48 by omega) ?_
      skip
      (refine Br.mk (fun _=>?_) (fun _=>?_))
      ·rename_i hp'
       skip
       refine Need.mk (show 1+(bO ((48+(d2:Int))::((48+d3:Int)::(48+d4:Int)::(48+d5:Int)::aO R))).length≤140737488355328 by (simp only[bO,aO,List.length_map,List.length_cons];omega)) ?_
       skip
       (conv=>whnf)
       skip
       exact sI hp' hpos (X:=((48+d3:Int)::(48+d4:Int)::(48+d5:Int)::aO R)) (by simp only[bJ,dU]) hf
      ·rename_i hp'
       skip
       (conv=>whnf)
       skip
       exact sH hp' hpos (X:=((48+d3:Int)::(48+d4:Int)::(48+d5:Int)::aO R)) (by simp only[bJ,dU]) hf
    ·have hf:=sJ hc hpos [48] (UInt8.ofNat (48+d2)::UInt8.ofNat (48+d3)::UInt8.ofNat (48+d4)::UInt8.ofNat (48+d5)::R) d1 (by omega) hw (by simp)
     (repeat'((conv=>whnf);first|refine Zg fun _=>?_|refine Zn ?_|refine Z0 ?_|fail))
     refine Br.mkY (show (48+((0:Nat):Int))=48 by omega) ?_
     (repeat'((conv=>whnf);first|refine Zg fun _=>?_|refine Zn ?_|refine Z0 ?_|refine Z1 ?_|refine Zl ?_|fail))
     refine Br.mkN (show ¬(48+(d1:Int))=48 by omega) ?_
     skip
     (refine Br.mk (fun _=>?_) (fun _=>?_))
     ·rename_i hp'
      skip
      refine Need.mk (show 1+(bO ((48+(d1:Int))::((48+d2:Int)::(48+d3:Int)::(48+d4:Int)::(48+d5:Int)::aO R))).length≤140737488355328 by (simp only[bO,aO,List.length_map,List.length_cons];omega)) ?_
      skip
      (conv=>whnf)
      skip
      exact sI hp' hpos (X:=((48+d2:Int)::(48+d3:Int)::(48+d4:Int)::(48+d5:Int)::aO R)) (by simp only[bJ,dU]) hf
     ·rename_i hp'
      skip
      (conv=>whnf)
      skip
      exact sH hp' hpos (X:=((48+d2:Int)::(48+d3:Int)::(48+d4:Int)::(48+d5:Int)::aO R)) (by simp only[bJ,dU]) hf
   ·have hf:=sJ hc hpos [] (UInt8.ofNat (48+d1)::UInt8.ofNat (48+d2)::UInt8.ofNat (48+d3)::UInt8.ofNat (48+d4)::UInt8.ofNat (48+d5)::R) d0 (by omega) hw (by simp)
    (repeat'((conv=>whnf);first|refine Zg fun _=>?_|refine Zn ?_|refine Z0 ?_|fail))
    refine Br.mkN (show ¬(48+(d0:Int))=48 by omega) ?_
    skip
    (refine Br.mk (fun _=>?_) (fun _=>?_))
    ·rename_i hp'
     skip
     refine Need.mk (show 1+(bO ((48+(d0:Int))::((48+d1:Int)::(48+d2:Int)::(48+d3:Int)::(48+d4:Int)::(48+d5:Int)::aO R))).length≤140737488355328 by (simp only[bO,aO,List.length_map,List.length_cons];omega)) ?_
     skip
     (conv=>whnf)
     skip
     exact sI hp' hpos (X:=((48+d1:Int)::(48+d2:Int)::(48+d3:Int)::(48+d4:Int)::(48+d5:Int)::aO R)) (by simp only[bJ,dU]) hf
    ·rename_i hp'
     skip
     (conv=>whnf)
     skip
     exact sH hp' hpos (X:=((48+d1:Int)::(48+d2:Int)::(48+d3:Int)::(48+d4:Int)::(48+d5:Int)::aO R)) (by simp only[bJ,dU]) hf
theorem k116:aG Tryz.prog c116:=by
 refine aC rfl (enters_of Tryz.func197 (by kernel_rfl) rfl) ?_
 intro args K h
 simp only[c116] at h
 split at h
 ·rename_i p hp a
  exact ⟨_,h.go,aA (Γ:=[]) (by simp) Tryz.func197 (by simp[Tryz.ntmps197]) rfl (b116 p hp a h.ok)⟩
 ·rename_i a
  refine ⟨_,h.go,?_⟩
  have ht:=aA (Γ:=[]) (by simp) Tryz.func197 (by simp[Tryz.ntmps197]) rfl (b116 False inferInstance a h.ok)
  refine wX (args:=[.agg [.bl False inferInstance,Ls a]]) ht ⟨⟨fun h=>h,?_,trivial⟩,trivial⟩
  rfl
 ·exact h.elim
theorem k86:aG Tryz.prog c86:=by
 refine aC rfl (enters_of Tryz.func149 (by kernel_rfl) rfl) ?_
 intro args K h
 simp only[c86] at h
 split at h
 ·rename_i a b
  exact ⟨_,h,aA (Γ:=[c110,c111,c61,c112,c113,c116]) (by simp[k110,k111,k61,k112,k113,k116]) Tryz.func149 (by simp[Tryz.ntmps149]) rfl (b86 a b)⟩
 ·exact h.elim
def c44:Con:=aK 81 true fun args K=>match args with | [.str s]=>K (I (chkQ s)) | _=>False
theorem k44:aG Tryz.prog c44:=by
 refine aC rfl (enters_of Tryz.func81 (by kernel_rfl) rfl) ?_
 intro args K h
 simp only[c44] at h
 split at h
 ·rename_i s;exact ⟨_,h,aA (Γ:=[c73,c83,c85,c84,c86]) (by simp[k73,k83,k85,k84,k86]) Tryz.func81 (by simp[Tryz.ntmps81]) rfl (b44 s)⟩
 ·exact h.elim
def badQ (s:List UInt8):Prop:=60<s.length∨chkQ s≠0
noncomputable instance (s:List UInt8):Decidable (badQ s):=Classical.propDecidable _
def fineL (l:List (List UInt8)):Prop:=∀a∈l,a.length≤60∧chkQ a=0
noncomputable instance (l:List (List UInt8)):Decidable (fineL l):=Classical.propDecidable _
theorem dec1 {n:Nat} (h:n<10):decDigits n= [UInt8.ofNat (48+n)]:=by
 rw[decDigits,dif_pos h]
theorem itoa1 {n:Nat} (h:n<10):itoa (n:Int)= [UInt8.ofNat (48+n)]:=by
 unfold itoa
 rw[if_neg (by omega),Int.toNat_natCast,dec1 h]
theorem int1 {q:Rat} {n:Nat} (hn:q.num=n) (hd:q.den=1) (h1:n<10):numS q= [UInt8.ofNat (48+n)]:=by
 unfold numS
 rw[hn,hd,if_pos rfl,itoa1 h1]
def Sz (k:Nat) (q:Rat):Prop:=q.num.natAbs<10^k∧q.den<10^k
theorem dK {i j:Nat} (h:i≤j):(10:Nat)^i≤10^j:=Nat.pow_le_pow_right (by omega) h
theorem Sz.mono {i j:Nat} {q:Rat} (h:Sz i q) (hij:i≤j):Sz j q:=
 ⟨Nat.lt_of_lt_of_le h.1 (dK hij),Nat.lt_of_lt_of_le h.2 (dK hij)⟩
theorem jU {n k:Nat} (hk:0<k) (h:n<10^k):(decDigits n).length≤k:=by
 obtain ⟨m,rfl⟩:∃m,k=m+1:=⟨k-1,by omega⟩
 exact iD m n h
theorem bL {n:Int} {k:Nat} (hk:0<k∧k≤300) (h:n.natAbs<10^k):lim n=false:=by
 unfold lim
 have:=jU hk.1 h
 simp;omega
theorem iF {n k:Nat} (h:(decDigits n).length≤k):n<10^k:=by
 have h1:=cG (decDigits n) (fun c hc=>iE _ c hc)
 rw[cL] at h1
 exact Nat.lt_of_lt_of_le h1 (dK h)
theorem hZ {q:Rat} {k:Nat} (h:Sz k q) (hk:0<k∧k≤300):chkQ (numS q)=0:=by
 refine aE8 (by rw[cC]) ?_ ?_
 ·rw[fA,bN]
  have:=jU hk.1 h.1
  omega
 ·rw[iN]
  split
  ·simp
  ·have:=jU hk.1 h.2
   simp;omega
theorem mG {a b i j:Nat} (ha:a<10^i) (hb:b<10^j):a*b<10^ (i+j):=by
 rw[Nat.pow_add]
 exact Nat.mul_lt_mul'' ha hb
theorem kH (n:Int) (g:Nat):(n/(g:Int)).natAbs≤n.natAbs:=by
 rcases Nat.eq_zero_or_pos g with e | e
 ·subst e;simp
 ·have h1:(1:Int)≤g:=by omega
  rcases Int.le_total 0 n with h | h
  ·have h2:=Int.ediv_le_self (g:Int) h
   have h3:=Int.ediv_nonneg h (show (0:Int)≤g by omega)
   omega
  ·have h2:n/(g:Int)≤0:=by
    have:=Int.ediv_le_ediv (show (0:Int)<g by omega) h
    simpa using this
   have h3:n≤n/(g:Int):=by
    rw[Int.le_ediv_iff_mul_le (by omega)]
    have:=Int.mul_le_mul_of_nonpos_left (a:=n) h h1
    rw[Int.mul_one] at this
    omega
   omega
theorem aFo {n:Int} {d k:Nat} (hd:d≠0) (h1:n.natAbs<10^k) (h2:d<10^k):Sz k (mkRat n d):=by
 refine ⟨?_,?_⟩
 ·rw[Rat.num_mkRat,if_neg hd]
  refine Nat.lt_of_le_of_lt ?_ h1
  exact kH _ _
 ·rw[Rat.den_mkRat,if_neg hd]
  exact Nat.lt_of_le_of_lt (Nat.div_le_self _ _) h2
theorem fV {x y:Int} {k:Nat} (hx:x.natAbs<10^k) (hy:y.natAbs<10^k):(x+y).natAbs<10^ (k+1)∧(x-y).natAbs<10^ (k+1):=by
 rw[Nat.pow_succ]
 omega
section
variable {p q:Rat} {i j:Nat}
theorem Sz.cross (hp:Sz i p) (hq:Sz j q):(p.num*q.den).natAbs<10^ (i+j)∧(q.num*p.den).natAbs<10^ (i+j)∧(p.num*q.num).natAbs<10^ (i+j)∧p.den*q.den<10^ (i+j):=by
 refine ⟨?_,?_,?_,mG hp.2 hq.2⟩
 ·rw[Int.natAbs_mul];exact mG hp.1 hq.2
 ·rw[Int.natAbs_mul,Nat.add_comm];exact mG hq.1 hp.2
 ·rw[Int.natAbs_mul];exact mG hp.1 hq.1
theorem pV (p q:Rat):p.den*q.den≠0:=Nat.mul_ne_zero p.den_nz q.den_nz
theorem Sz.add (hp:Sz i p) (hq:Sz j q):Sz (i+j+1) (p+q):=by
 obtain ⟨h1,h2,h3,h4⟩:=hp.cross hq
 rw[zV]
 exact aFo (pV p q) (fV h1 h2).1 (Nat.lt_of_lt_of_le h4 (dK (by omega)))
theorem Sz.sub (hp:Sz i p) (hq:Sz j q):Sz (i+j+1) (p-q):=by
 obtain ⟨h1,h2,h3,h4⟩:=hp.cross hq
 rw[oF]
 exact aFo (pV p q) (fV h1 h2).2 (Nat.lt_of_lt_of_le h4 (dK (by omega)))
theorem Sz.mul (hp:Sz i p) (hq:Sz j q):Sz (i+j) (p*q):=by
 obtain ⟨h1,h2,h3,h4⟩:=hp.cross hq
 rw[oG]
 exact aFo (pV p q) h3 h4
theorem mH {f:Rat→Rat→List UInt8 × Int} (hp:Sz i p) (hq:Sz j q) (hi:0<i∧i≤300) (hj:0<j∧j≤300):cV (numS p) (numS q) f=f p q:=by
 unfold cV
 rw[if_neg (by rw[hZ hp hi];simp),if_neg (by rw[hZ hq hj];simp),cC,cC]
theorem aPh (hp:Sz i p) (hq:Sz j q) (hi:0<i) (hj:0<j) (h:i+j+1≤300):addQ (numS p) (numS q)=(numS (p+q),0):=by
 obtain ⟨h1,h2,h3,h4⟩:=hp.cross hq
 unfold addQ
 rw[mH hp hq ⟨hi,by omega⟩ ⟨hj,by omega⟩,if_neg]
 simp only[Bool.or_eq_true,not_or,Bool.not_eq_true]
 exact ⟨⟨⟨bL ⟨by omega,by omega⟩ h1,bL ⟨by omega,by omega⟩ h2⟩,bL (k:=i+j+1) ⟨by omega,h⟩ (fV h1 h2).1⟩,bL (k:=i+j) ⟨by omega,by omega⟩ (by rw[← Int.natCast_mul,Int.natAbs_natCast];exact h4)⟩
theorem uH (hp:Sz i p) (hq:Sz j q) (hi:0<i) (hj:0<j) (h:i+j+1≤300):subQ (numS p) (numS q)=(numS (p-q),0):=by
 obtain ⟨h1,h2,h3,h4⟩:=hp.cross hq
 unfold subQ
 rw[mH hp hq ⟨hi,by omega⟩ ⟨hj,by omega⟩,if_neg]
 simp only[Bool.or_eq_true,not_or,Bool.not_eq_true]
 exact ⟨⟨⟨bL ⟨by omega,by omega⟩ h1,bL ⟨by omega,by omega⟩ h2⟩,bL (k:=i+j+1) ⟨by omega,h⟩ (fV h1 h2).2⟩,bL (k:=i+j) ⟨by omega,by omega⟩ (by rw[← Int.natCast_mul,Int.natAbs_natCast];exact h4)⟩
theorem aJm (hp:Sz i p) (hq:Sz j q) (hi:0<i) (hj:0<j) (h:i+j≤300):mulQ (numS p) (numS q)=(numS (p*q),0):=by
 obtain ⟨h1,h2,h3,h4⟩:=hp.cross hq
 unfold mulQ
 rw[mH hp hq ⟨hi,by omega⟩ ⟨hj,by omega⟩,if_neg]
 simp only[Bool.or_eq_true,not_or,Bool.not_eq_true]
 exact ⟨bL ⟨by omega,h⟩ h3,bL (k:=i+j) ⟨by omega,by omega⟩ (by rw[← Int.natCast_mul,Int.natAbs_natCast];exact h4)⟩
theorem oP (hp:Sz i p) (hq:Sz j q) (hi:0<i) (hj:0<j) (h:i+j≤300) (h0:q≠0):divQ (numS p) (numS q)=(numS (p/q),0):=by
 obtain ⟨h1,h2,h3,h4⟩:=hp.cross hq
 unfold divQ
 rw[mH hp hq ⟨hi,by omega⟩ ⟨hj,by omega⟩,if_neg h0,if_neg]
 simp only[Bool.or_eq_true,not_or,Bool.not_eq_true]
 exact ⟨bL ⟨by omega,h⟩ h1,bL ⟨by omega,h⟩ h2⟩
theorem aPi (hp:Sz i p) (hq:Sz j q) (hi:0<i) (hj:0<j) (h:i+j≤300):cmpQ (numS p) (numS q)=(cmpI (p.num*q.den) (q.num*p.den),0):=by
 obtain ⟨h1,h2,h3,h4⟩:=hp.cross hq
 unfold cmpQ
 rw[if_neg (by rw[hZ hp ⟨hi,by omega⟩];simp),if_neg (by rw[hZ hq ⟨hj,by omega⟩];simp),cC,cC]
 unfold cmpf
 rw[if_neg]
 simp only[Bool.or_eq_true,not_or,Bool.not_eq_true]
 exact ⟨bL ⟨by omega,h⟩ h1,bL ⟨by omega,h⟩ h2⟩
end
theorem xS {n:Int} {k:Nat} (h:n.natAbs<10^k) (hk:0<k):Sz k (n:Rat):=
 ⟨h,Nat.lt_of_lt_of_le (show 1<10^1 by decide) (dK hk)⟩
theorem eO (n:Int):numS (n:Rat)=itoa n:=by
 unfold numS
 rw[Rat.den_intCast,if_pos rfl,Rat.num_intCast]
theorem rA {n:Nat}:(decDigits n).getD 0 0≠45:=by
 intro h
 have h1:=iE n ((decDigits n).getD 0 0) (by
  have:=wT n
  cases e:decDigits n with
  | nil=>exact absurd e this
  | cons x r=>simp)
 rw[h] at h1
 unfold aR at h1
 revert h1
 decide
theorem aRq {q:Rat}:pd q= [49]↔q.den=1:=by
 constructor
 ·intro h
  have:=congrArg aE (show decDigits q.den= [49] from h)
  rw[cL] at this
  rw[this];decide
 ·intro h
  show decDigits q.den= [49]
  rw[h,dec1 (by decide)];rfl
theorem aNt (q:Rat):q.num/(q.den:Int)*(q.den:Int)≤q.num:=Int.ediv_mul_le _ (by have:=q.den_nz;omega)
theorem aNu (q:Rat):q.num<(q.num/(q.den:Int)+1)*(q.den:Int):=Int.lt_ediv_add_one_mul_self _ (by have:=q.den_pos;omega)
noncomputable def cmpR (p q:Rat):Int:=if p<q then -1 else if q<p then 1 else 0
theorem nM {p q:Rat} {i j:Nat} (hp:Sz i p) (hq:Sz j q) (hi:0<i) (hj:0<j) (h:i+j≤300):cmpQ (numS p) (numS q)=(cmpR p q,0):=by
 rw[aPi hp hq hi hj h]
 unfold cmpI cmpR
 rw[Prod.mk.injEq]
 refine ⟨?_,rfl⟩
 by_cases h1:p<q
 ·rw[if_pos h1,if_pos ((Rat.lt_iff p q).1 h1)]
 ·rw[if_neg h1,if_neg fun h=>h1 ((Rat.lt_iff p q).2 h)]
  by_cases h2:q<p
  ·have:=(Rat.lt_iff q p).1 h2
   rw[if_pos h2,if_neg (by omega)]
  ·have e1:¬p.num*(q.den:Int)<q.num*(p.den:Int):=fun h=>h1 ((Rat.lt_iff p q).2 h)
   have e2:¬q.num*(p.den:Int)<p.num*(q.den:Int):=fun h=>h2 ((Rat.lt_iff q p).2 h)
   rw[if_neg h2,if_pos (by omega)]
theorem rJ (p q:Rat):cmpR p q= -cmpR q p:=by
 unfold cmpR
 by_cases h1:p<q
 ·have h2:¬q<p:=Rat.not_lt.2 (Rat.le_of_lt h1)
  rw[if_pos h1,if_neg h2,if_pos h1]
 ·rw[if_neg h1]
  by_cases h2:q<p
  ·rw[if_pos h2,if_pos h2];rfl
  ·rw[if_neg h2,if_neg h2,if_neg h1];rfl
theorem mI (p q:Rat):cmpR p q<0↔p<q:=by
 unfold cmpR
 constructor
 ·intro h
  split at h
  ·assumption
  ·split at h<;>omega
 ·intro h
  rw[if_pos h];omega
theorem aJn (q:Rat):numS q≠ []:=by
 unfold numS
 have:=xH (x:=q.num)
 split
 ·intro h;rw[h] at this;simp at this
 ·intro h
  have h1:=congrArg List.length h
  simp at h1
theorem aKs (q:Rat):aJ (numS q) 0=45↔q<0:=by
 have h0:0<(numS q).length:=List.length_pos_iff.2 (aJn q)
 have e:aJ (numS q) 0=aJ (itoa q.num) 0:=by
  unfold numS
  split
  ·rfl
  ·unfold aJ
   rw[List.getD_eq_getElem?_getD,List.getD_eq_getElem?_getD,List.getElem?_append_left xH]
 rw[e]
 have hn:q<0↔q.num<0:=by
  rw[Rat.lt_iff]
  show q.num*((1:Nat):Int)<0* _↔ _
  omega
 rw[hn]
 unfold itoa
 split
 ·rename_i h
  exact ⟨fun _=>h,fun _=>rfl⟩
 ·rename_i h
  constructor
  ·intro h2
   exfalso
   refine rA (n:=q.num.toNat) (UInt8.toNat_inj.1 ?_)
   unfold aJ at h2
   have:(45:UInt8).toNat=45:=rfl
   omega
  ·intro h2
   exact absurd h2 h
theorem aJo:numS (0:Rat)= [48]:=int1 (n:=0) (by decide) (by decide) (by decide)
set_option linter.unusedSimpArgs false
theorem aG9 {B:Nat} (hB:2≤B) {a b:List Int} (ha:InB B a) (hb:InB B b) {n:Nat} (h1:a.length≤n) (h2:b.length≤n):(addK B a b (n+1)).2=0:=by
 obtain ⟨l1,l2,l3,l4⟩:=jE hB ha hb (n+1)
 rw[dJ _ _ _ (by omega),dJ _ _ _ (by omega)] at l4
 have v1:=eJ hB ha h1
 have v2:=eJ hB hb h2
 have v3:=aZ l2
 have hp:(B:Int)^ (n+1)=(B:Int)^n*B:=Int.pow_succ _ _
 have h0:=dF hB n
 refine Classical.byContradiction fun hc=>?_
 have hc1:(addK B a b (n+1)).2=1:=by omega
 rw[hc1,Int.mul_one,hp] at l4
 have h5:(B:Int)^n*2≤(B:Int)^n*B:=Int.mul_le_mul_of_nonneg_left (by omega) (by omega)
 omega
theorem aNv {B:Nat} (hB:2≤B) {a b:List Int} (ha:InB B a) (hb:InB B b) {k:Nat} (h1:a.length≤k) (h2:b.length≤k) (hc:(addK B a b k).2=0):bU (addK B a b k).1=aB B (valB B a+valB B b).toNat:=by
 obtain ⟨l1,l2,l3,l4⟩:=jE hB ha hb k
 rw[dJ _ _ _ h1,dJ _ _ _ h2,hc,Int.mul_zero,Int.add_zero] at l4
 rw[cB hB l2,l4]
theorem b147 (a b:List Int) (h:InB B6 a∧InB B6 b∧a.length≤100000∧b.length≤100000):body Tryz.prog [c143,c141] { asks:=[(0,[1])] } false Tryz.f203 [Ls a,Ls b] (Ls (aB B6 (valB B6 a+valB B6 b).toNat)):=by
 obtain ⟨ha,hb,hla,hlb⟩:=h
 obtain ⟨n,hn⟩:∃n,n=a.length+b.length:=⟨_,rfl⟩
 skip
 (conv=>whnf)
 refine Ask.mk ⟨{ X:=Nat,pre:=fun i=>i≤n+1,mod:=fun i _=>[(5,.ref 1 1),(6,I (addK B6 a b i).2),(7,I i)],heap:=fun i _=>[V [],V (addK B6 a b i).1],mu:=fun i=>n+1-i,objs:=[1] },rfl,?_⟩
 (repeat'((conv=>whnf);first|refine Zn ?_|fail))
 refine ⟨⟨(0:Nat),Nat.zero_le _,by (repeat'(first|exact trivial|rfl|exact Nat.one_pos|refine And.intro ?_ ?_|fail))⟩,fun (i:Nat) (hi:i≤n+1)=>?_⟩
 obtain ⟨g1,g2,g3,_⟩:=jE (B:=B6) (by decide) ha hb i
 have ga:=get6 ha i
 have gb:=get6 hb i
 have hcar:i=n+1→(addK B6 a b i).2=0:=fun e=>by
  subst e
  exact aG9 (by decide) ha hb (by omega) (by omega)
 have s2:(addK B6 a b (i+1)).1=(addK B6 a b i).1++ [(a.getD i 0+b.getD i 0+(addK B6 a b i).2)%1000000]:=rfl
 have s3:(addK B6 a b (i+1)).2=(a.getD i 0+b.getD i 0+(addK B6 a b i).2)/1000000:=rfl
 by_cases hgo:i<a.length∨i<b.length∨0<(addK B6 a b i).2
 ·have hin:i<n+1:=by
   rcases hgo with h | h | h
   ·omega
   ·omega
   ·refine Classical.byContradiction fun hx=>?_
    have:=hcar (by omega)
    omega
  have hcase:(i<a.length)∨(¬i<a.length∧i<b.length)∨(¬i<a.length∧¬i<b.length∧0<(addK B6 a b i).2):=by omega
  have t1:(a.getD i 0+b.getD i 0+(addK B6 a b i).2).tmod 1000000=(a.getD i 0+b.getD i 0+(addK B6 a b i).2)%1000000:=Int.tmod_eq_emod_of_nonneg (by omega)
  have t2:(a.getD i 0+b.getD i 0+(addK B6 a b i).2).tdiv 1000000=(a.getD i 0+b.getD i 0+(addK B6 a b i).2)/1000000:=Int.tdiv_eq_ediv_of_nonneg (by omega)
  rcases hcase with h1 | ⟨h1,h2⟩ | ⟨h1,h2,h3⟩
  all_goals
   (repeat'((conv=>whnf);first|refine Zg fun _=>?_|refine Za ?_|refine Zn ?_|refine Zj ?_|refine Zl ?_|refine Zy ?_|refine Zm ?_|fail))
   refine ⟨(i+1:Nat),by show n+1-(i+1)<n+1-i;omega,by show i+1≤n+1;omega,?_⟩
   (repeat'(first|exact trivial|rfl|exact Nat.one_pos|refine And.intro ?_ ?_|fail))
 ·have e1:=aNv (B:=B6) (by decide) ha hb (k:=i) (by omega) (by omega) (by omega)
  (repeat'((conv=>whnf);first|refine Zg fun _=>?_|refine Zm ?_|fail))
  (conv=>whnf)
  skip
  exact e1
def c147:Con:=aK 203 false fun args K=>match args with | [.seq (.int .i64) a,.seq (.int .i64) b]=>Need (InB B6 a∧InB B6 b∧a.length≤100000∧b.length≤100000) (K (Ls (aB B6 (valB B6 a+valB B6 b).toNat))) | _=>False
theorem k147:aG Tryz.prog c147:=by
 refine aC rfl (enters_of Tryz.func203 (by kernel_rfl) rfl) ?_
 intro args K h
 simp only[c147] at h
 split at h
 ·rename_i a b;exact ⟨_,h.go,aA (Γ:=[c143,c141]) (by simp[k143,k141]) Tryz.func203 (by simp[Tryz.ntmps203]) rfl (b147 a b h.ok)⟩
 ·exact h.elim
def addS (p:Prop) (m:Nat) (q:Prop) (n:Nat) [Decidable p] [Decidable q]:Prop:=addP p m q n∧addN p m q n≠0
instance (p:Prop) (m:Nat) (q:Prop) (n:Nat) [Decidable p] [Decidable q]:Decidable (addS p m q n):=by unfold addS;infer_instance
theorem aNw (p:Prop) [Decidable p] (m:Nat) (q:Prop) [Decidable q] (n:Nat):sgP (addS p m q n) (addN p m q n)=sgP p m+sgP q n:=by
 rw[← aCq]
 unfold addS sgP
 by_cases h:addN p m q n=0
 ·simp[h]
 ·simp[h]
theorem jV (n:Nat):(aB B6 n).length=0↔n=0:=by
 constructor
 ·intro h
  have h1:aB B6 n= []:=List.eq_nil_of_length_eq_zero h
  have h2:=v6 n
  rw[h1] at h2
  have h3:valB B6 []=0:=rfl
  omega
 ·rintro rfl;rw[aY];rfl
set_option maxHeartbeats 4000000 in
theorem b114 (p:Prop) (hp:Decidable p) (m:Nat) (q:Prop) (hq:Decidable q) (n:Nat) (hm:m<B6^110) (hn:n<B6^110) (hpm:p→0<m) (hqn:q→0<n):
  body Tryz.prog [c147,c146,c144] {} false Tryz.f163 [.agg [.bl p hp,Ls (aB B6 m)],.agg [.bl q hq,Ls (aB B6 n)]] (.agg [.bl (addS p m q n) inferInstance,Ls (aB B6 (addN p m q n))]):=by
 have im:InB B6 (aB B6 m):=aP (by decide) m
 have jn:InB B6 (aB B6 n):=aP (by decide) n
 have lm:=hU hm
 have ln:=hU hn
 have vm:=v6 m
 have vn:=v6 n
 skip
 refine Own.l ?_
 skip
 (refine Br.mk (fun _=>?_) (fun _=>?_))
 ·rename_i h
  have e1:p↔addS p m q n:=by
   unfold addS addP addN
   rw[if_pos h]
   constructor
   ·intro hp'
    have:=hpm hp'
    exact ⟨.inl ⟨.inl h,hp'⟩,by omega⟩
   ·rintro ⟨h1 | h1,_⟩
    ·exact h1.2
    ·exact absurd (.inl h) h1.1
  have e2:(valB B6 (aB B6 m)+valB B6 (aB B6 n)).toNat=addN p m q n:=by unfold addN;rw[if_pos h];omega
  (repeat'((conv=>whnf);first|(apply Pin.mk;apply Exists.intro)|apply Pinned.mk rfl rfl|fail))
  refine Need.mk ⟨im,jn,by omega,by omega⟩ ?_
  (repeat'((conv=>whnf);first|apply Pinned.mk rfl rfl|fail))
  (conv=>whnf)
  (repeat'(first|exact trivial|refine And.intro ?_ ?_|fail))
  ·exact e1
  ·skip
   exact congrArg (aB B6) e2
 ·rename_i h
  have hc:=xO (B:=B6) (by decide) m n
  skip
  refine Need.mk ⟨im,jn⟩ ?_
  skip
  (refine Br.mk (fun _=>?_) (fun _=>?_))
  ·rename_i hg
   have hlt:m<n:=by
    refine aNk hc ?_
    omega
   have e2:(valB B6 (aB B6 n)-valB B6 (aB B6 m)).toNat=addN p m q n:=by unfold addN;rw[if_neg h,if_neg (by omega)];omega
   have e0:addN p m q n≠0:=by omega
   have e1:q↔addS p m q n:=by
    have hnle:¬n≤m:=by omega
    unfold addS addP
    simp[e0,h,hnle]
   have ll:=dG (Nat.le_of_lt hlt)
   have hN:InB B6 (aB B6 n)∧InB B6 (aB B6 m)∧valB B6 (aB B6 m)≤valB B6 (aB B6 n)∧(aB B6 m).length≤(aB B6 n).length∧(aB B6 n).length≤100000:=⟨jn,im,by omega,ll,by omega⟩
   have hne:¬((aB B6 (valB B6 (aB B6 n)-valB B6 (aB B6 m)).toNat).length:Int)=0:=by
    rw[e2]
    intro h'
    exact e0 ((jV _).1 (by omega))
   (repeat'((conv=>whnf);first|refine Zg fun _=>?_|refine Zn ?_|(apply Pin.mk;apply Exists.intro)|apply Pinned.mk rfl rfl|exact Zf|refine Zc ?_ ?_|refine Zm ?_|fail))
   (conv=>whnf)
   (repeat'(first|exact trivial|refine And.intro ?_ ?_|fail))
   ·exact e1
   ·skip
    exact congrArg (aB B6) e2
  ·rename_i hg
   have hle:n≤m:=by
    refine aNj hc ?_
    omega
   have e2:(valB B6 (aB B6 m)-valB B6 (aB B6 n)).toNat=addN p m q n:=by unfold addN;rw[if_neg h,if_pos hle];omega
   have ll:=dG hle
   have hN:InB B6 (aB B6 m)∧InB B6 (aB B6 n)∧valB B6 (aB B6 n)≤valB B6 (aB B6 m)∧(aB B6 n).length≤(aB B6 m).length∧(aB B6 m).length≤100000:=⟨im,jn,by omega,ll,by omega⟩
   (repeat'((conv=>whnf);first|refine Zg fun _=>?_|refine Zn ?_|(apply Pin.mk;apply Exists.intro)|apply Pinned.mk rfl rfl|exact Zf|refine Zc ?_ ?_|fail))
   (refine Br.mk (fun _=>?_) (fun _=>?_))
   ·rename_i hz
    have e0:addN p m q n=0:=by
     rw[e2] at hz
     exact (jV _).1 (by omega)
    skip
    (conv=>whnf)
    (repeat'(first|exact trivial|refine And.intro ?_ ?_|fail))
    ·exact fun h'=>h'.2 e0
    ·skip
     exact congrArg (aB B6) e2
   ·rename_i hz
    have e0:addN p m q n≠0:=fun h'=>hz (by rw[e2,h',aY];rfl)
    have e1:p↔addS p m q n:=by
     unfold addS addP
     simp[e0,h,hle]
    skip
    (conv=>whnf)
    (repeat'(first|exact trivial|refine And.intro ?_ ?_|fail))
    ·exact e1
    ·skip
     exact congrArg (aB B6) e2
def pW (p:Prop) (a:List Int):Prop:=eW a∧(valB B6 a).toNat<B6^110∧(p→0<(valB B6 a).toNat)
def c114:Con:=aK 163 false fun args K=>match args with
 | [.agg [.bl p hp,.seq (.int .i64) a],.agg [.bl q hq,.seq (.int .i64) b]]=>Need (pW p a∧pW q b) (K (.agg [.bl (@addS p (valB B6 a).toNat q (valB B6 b).toNat hp hq) inferInstance,Ls (aB B6 (@addN p hp (valB B6 a).toNat q hq (valB B6 b).toNat))]))
 | _=>False
theorem k114:aG Tryz.prog c114:=by
 refine aC rfl (enters_of Tryz.func163 (by kernel_rfl) rfl) ?_
 intro args K h
 simp only[c114] at h
 split at h
 ·rename_i p hp a q hq b
  refine ⟨_,h.go,?_⟩
  obtain ⟨⟨ha,hm,hpm⟩,hb,hn,hqn⟩:=h.ok
  have ht:=aA (Γ:=[c147,c146,c144]) (by simp[k147,k146,k144]) Tryz.func163 (by simp[Tryz.ntmps163]) rfl (b114 p hp (valB B6 a).toNat q hq (valB B6 b).toNat hm hn hpm hqn)
  rw[ha,hb] at ht
  exact ht
 ·exact h.elim
theorem aKt {n:Int} (h:lim n=true):chkI (itoa n)=4:=by
 rw[gD (dY n),bN]
 unfold lim at h
 rw[if_pos (by simpa using h)]
theorem b115 (p:Prop) (hp:Decidable p) (a:List Int) (h:eW a∧a.length≤200):body Tryz.prog [c116,c139] {} true Tryz.f198 [.agg [.bl p hp,Ls a]] (.tup [S (resI (sgP p (valB B6 a))).1,I (resI (sgP p (valB B6 a))).2]):=by
 cases hl:lim (sgP p (valB B6 a)) with
 | true=>
  have e1:=aKt hl
  have e2:resI (sgP p (valB B6 a))=([],4):=by unfold resI;rw[if_pos hl]
  rw[e2]
  (repeat'((conv=>whnf);first|refine Zn ?_|fail))
  refine Br.mkY (show ¬chkI (itoa (sgP p (valB B6 a)))=0 by rw[e1];decide) ?_
  skip
  (conv=>whnf)
  (repeat'(first|exact trivial|rfl|refine And.intro ?_ ?_|fail))
 | false=>
  have e1:=bA hl
  have e2:resI (sgP p (valB B6 a))=(itoa (sgP p (valB B6 a)),0):=by unfold resI;rw[if_neg (by rw[hl];decide)]
  rw[e2]
  (repeat'((conv=>whnf);first|refine Zn ?_|fail))
  refine Br.mkN (show ¬ ¬chkI (itoa (sgP p (valB B6 a)))=0 by rw[e1];simp) ?_
  skip
  (conv=>whnf)
  (repeat'(first|exact trivial|rfl|refine And.intro ?_ ?_|fail))
def c115:Con:=aK 198 true fun args K=>match args with
 | [.agg [.bl p hp,.seq (.int .i64) a]]=>Need (eW a∧a.length≤200) (K (.tup [S (resI (@sgP p hp (valB B6 a))).1,I (resI (@sgP p hp (valB B6 a))).2]))
 | [.agg [.val (.bool false),.seq (.int .i64) a]]=>Need (eW a∧a.length≤200) (K (.tup [S (resI (valB B6 a)).1,I (resI (valB B6 a)).2]))
 | _=>False
theorem k115:aG Tryz.prog c115:=by
 refine aC rfl (enters_of Tryz.func198 (by kernel_rfl) rfl) ?_
 intro args K h
 simp only[c115] at h
 split at h
 ·rename_i p hp a
  exact ⟨_,h.go,aA (Γ:=[c116,c139]) (by simp[k116,k139]) Tryz.func198 (by simp[Tryz.ntmps198]) rfl (b115 p hp a h.ok)⟩
 ·rename_i a
  refine ⟨_,h.go,?_⟩
  have ht:=aA (Γ:=[c116,c139]) (by simp[k116,k139]) Tryz.func198 (by simp[Tryz.ntmps198]) rfl (b115 False inferInstance a h.ok)
  refine wX (args:=[.agg [.bl False inferInstance,Ls a]]) ht ⟨⟨fun h=>h,?_,trivial⟩,trivial⟩
  rfl
 ·exact h.elim
set_option maxHeartbeats 4000000 in
theorem b153 (p:Prop) (hp:Decidable p) (m:Nat) (q:Prop) (hq:Decidable q) (n:Nat) (hm:m<B6^110) (hn:n<B6^110):
  body Tryz.prog [c145] {} false Tryz.f200 [.agg [.bl p hp,Ls (aB B6 m)],.agg [.bl q hq,Ls (aB B6 n)]] (.agg [.bl (¬(p↔q)∧m*n≠0) inferInstance,Ls (aB B6 (m*n))]):=by
 have im:InB B6 (aB B6 m):=aP (by decide) m
 have jn:InB B6 (aB B6 n):=aP (by decide) n
 have lm:=hU hm
 have ln:=hU hn
 have vm:=v6 m
 have vn:=v6 n
 have e2:(valB B6 (aB B6 m)*valB B6 (aB B6 n)).toNat=m*n:=by rw[vm,vn,← Int.natCast_mul,Int.toNat_natCast]
 have hN:InB B6 (aB B6 m)∧InB B6 (aB B6 n)∧(aB B6 m).length≤100000∧(aB B6 n).length≤100000:=⟨im,jn,by omega,by omega⟩
 skip
 refine Own.l ?_
 (repeat'((conv=>whnf);first|refine Zg fun _=>?_|refine Zn ?_|(apply Pin.mk;apply Exists.intro)|apply Pinned.mk rfl rfl|exact Zf|refine Zc ?_ ?_|fail))
 (refine Br.mk (fun _=>?_) (fun _=>?_))
 ·rename_i hz
  have e0:m*n=0:=by
   rw[e2] at hz
   exact (jV _).1 (by omega)
  skip
  (conv=>whnf)
  (repeat'(first|exact trivial|refine And.intro ?_ ?_|fail))
  ·exact fun h'=>h'.2 e0
  ·skip
   exact congrArg (aB B6) e2
 ·rename_i hz
  have e0:m*n≠0:=fun h'=>hz (by rw[e2,h',aY];rfl)
  skip
  (conv=>whnf)
  (repeat'(first|exact trivial|refine And.intro ?_ ?_|fail))
  ·exact ⟨fun h'=>⟨h',e0⟩,fun h'=>h'.1⟩
  ·skip
   exact congrArg (aB B6) e2
def c153:Con:=aK 200 false fun args K=>match args with
 | [.agg [.bl p hp,.seq (.int .i64) a],.agg [.bl q hq,.seq (.int .i64) b]]=>Need (pW p a∧pW q b) (K (.agg [.bl (¬(p↔q)∧(valB B6 a).toNat*(valB B6 b).toNat≠0) inferInstance,Ls (aB B6 ((valB B6 a).toNat*(valB B6 b).toNat))]))
 | _=>False
theorem k153:aG Tryz.prog c153:=by
 refine aC rfl (enters_of Tryz.func200 (by kernel_rfl) rfl) ?_
 intro args K h
 simp only[c153] at h
 split at h
 ·rename_i p hp a q hq b
  refine ⟨_,h.go,?_⟩
  obtain ⟨⟨ha,hm,hpm⟩,hb,hn,hqn⟩:=h.ok
  have ht:=aA (Γ:=[c145]) (by simp[k145]) Tryz.func200 (by simp[Tryz.ntmps200]) rfl (b153 p hp (valB B6 a).toNat q hq (valB B6 b).toNat hm hn)
  rw[ha,hb] at ht
  exact ht
 ·exact h.elim
theorem b121 (p:Prop) (hp:Decidable p) (m:Nat) (hpm:p→0<m):body Tryz.prog [] {} false Tryz.f165 [.agg [.bl p hp,Ls (aB B6 m)]] (.agg [.bl (¬p∧m≠0) inferInstance,Ls (aB B6 m)]):=by
 skip
 refine Own.l ?_
 (repeat'((conv=>whnf);first|refine Zg fun _=>?_|fail))
 (refine Br.mk (fun _=>?_) (fun _=>?_))
 ·rename_i hz
  have e0:m=0:=(jV _).1 (by omega)
  skip
  (conv=>whnf)
  (repeat'(first|exact trivial|rfl|refine And.intro ?_ ?_|fail))
  (conv=>whnf)
  exact ⟨fun h'=>by have:=hpm h';omega,fun h'=>absurd e0 h'.2⟩
 ·rename_i hz
  have e0:m≠0:=fun h'=>hz (by rw[h',aY];rfl)
  skip
  (conv=>whnf)
  (repeat'(first|exact trivial|rfl|refine And.intro ?_ ?_|fail))
  (conv=>whnf)
  exact ⟨fun h'=>⟨h',e0⟩,fun h'=>h'.1⟩
def c121:Con:=aK 165 false fun args K=>match args with
 | [.agg [.bl p hp,.seq (.int .i64) a]]=>Need (pW p a) (K (.agg [.bl (¬p∧(valB B6 a).toNat≠0) inferInstance,Ls a]))
 | _=>False
theorem k121:aG Tryz.prog c121:=by
 refine aC rfl (enters_of Tryz.func165 (by kernel_rfl) rfl) ?_
 intro args K h
 simp only[c121] at h
 split at h
 ·rename_i p hp a
  refine ⟨_,h.go,?_⟩
  obtain ⟨ha,hm,hpm⟩:=h.ok
  have ht:=aA (Γ:=[]) (by simp) Tryz.func165 (by simp[Tryz.ntmps165]) rfl (b121 p hp (valB B6 a).toNat hpm)
  rw[ha] at ht
  exact ht
 ·exact h.elim
theorem jZ {s:List UInt8} (h:form s) (hl:(digs s).length≤300):pW (s.headD 0=45) (aB B6 (aE (digs s))):=by
 refine ⟨iY _,?_,?_⟩
 ·rw[v6,Int.toNat_natCast]
  exact Nat.lt_of_lt_of_le (jT h hl) (Nat.pow_le_pow_right (by decide) (by omega))
 ·intro hm
  rw[v6,Int.toNat_natCast]
  refine Nat.pos_of_ne_zero fun e=>?_
  have h1:=aMf.1 h
  have h2:valI s=0:=by rw[dS,e];unfold sgP;split<;>rfl
  rw[h2,itoa_zero] at h1
  rw[h1] at hm
  revert hm;decide
theorem aNx (p q:Prop) [Decidable p] [Decidable q] (m n:Nat):sgP (¬(p↔q)∧m*n≠0) ((m*n:Nat):Int)=sgP p m*sgP q n:=by
 rw[← aIu,← Int.natCast_mul]
 unfold sgP
 by_cases h:m*n=0
 ·simp[h]
 ·simp[h]
theorem aPj (a b:List UInt8):sgP (¬(a.headD 0=45↔b.headD 0=45)∧(valB B6 (aB B6 (aE (digs a)))).toNat*(valB B6 (aB B6 (aE (digs b)))).toNat≠0) (valB B6 (aB B6 ((valB B6 (aB B6 (aE (digs a)))).toNat*(valB B6 (aB B6 (aE (digs b)))).toNat)))=valI a*valI b:=by
 rw[v6 ((valB B6 (aB B6 (aE (digs a)))).toNat*(valB B6 (aB B6 (aE (digs b)))).toNat),aNx]
 simp only[v6,Int.toNat_natCast,dS]
theorem aNy {a b:List UInt8} (fa:form a) (la:(digs a).length≤300) (fb:form b) (lb:(digs b).length≤300):eW (aB B6 ((valB B6 (aB B6 (aE (digs a)))).toNat*(valB B6 (aB B6 (aE (digs b)))).toNat))∧(aB B6 ((valB B6 (aB B6 (aE (digs a)))).toNat*(valB B6 (aB B6 (aE (digs b)))).toNat)).length≤200:=by
 refine ⟨iY _,?_⟩
 rw[v6,v6,Int.toNat_natCast,Int.toNat_natCast]
 have h3:=Nat.mul_lt_mul'' (jT fa la) (jT fb lb)
 rw[← Nat.pow_add] at h3
 have:=hU h3
 omega
theorem b120 (a b:List UInt8):body Tryz.prog [c110,c111,c61,c112,c153,c115] {} true Tryz.f160 [S a,S b] (.tup [S (bT a b (resI (valI a*valI b))).1,I (bT a b (resI (valI a*valI b))).2]):=by
 unfold bT
 skip
 (refine Br.mk (fun _=>?_) (fun _=>?_))
 ·rename_i h
  rw[if_pos h]
  skip
  (conv=>whnf)
  (repeat'(first|exact trivial|rfl|refine And.intro ?_ ?_|fail))
 ·rename_i h
  rw[if_neg h]
  obtain ⟨ha,hb⟩:=fU h
  obtain ⟨fa,la⟩:=bS ha
  obtain ⟨fb,lb⟩:=bS hb
  have zA:=jZ fa la
  have zB:=jZ fb lb
  have hv:=aPj a b
  have hl:=aNy fa la fb lb
  have hab:form a∧form b:=⟨fa,fb⟩
  have hza:=And.intro zA zB
  have ra:form a∧(digs a).length≤600:=⟨fa,by omega⟩
  have rb:form b∧(digs b).length≤600:=⟨fb,by omega⟩
  (repeat'((conv=>whnf);first|refine Zn ?_|fail))
  (refine Br.mk (fun _=>?_) (fun _=>?_))
  ·rename_i hs
   (repeat'((conv=>whnf);first|refine Zg fun _=>?_|refine Zn ?_|fail))
   (refine Br.mk (fun _=>?_) (fun _=>?_))
   ·rename_i hs2
    have hm:=aAa fa fb (by omega)
    rw[eM (by omega)]
    (repeat'((conv=>whnf);first|refine Zn ?_|fail))
    (conv=>whnf)
    (repeat'(first|exact trivial|rfl|refine And.intro ?_ ?_|fail))
   ·(repeat'((conv=>whnf);first|refine Zn ?_|fail))
    (conv=>whnf)
    (repeat'(first|exact trivial|rfl|refine And.intro ?_ ?_|fail))
    ·exact congrArg (fun z=>(resI z).1) hv
    ·exact congrArg (fun z=>(resI z).2) hv
  ·(refine Br.mk (fun _=>?_) (fun _=>?_))
   all_goals
    (repeat'((conv=>whnf);first|refine Zn ?_|fail))
    (conv=>whnf)
    (repeat'(first|exact trivial|rfl|refine And.intro ?_ ?_|fail))
    ·exact congrArg (fun z=>(resI z).1) hv
    ·exact congrArg (fun z=>(resI z).2) hv
def c120:Con:=aK 160 true fun args K=>match args with | [.str a,.str b]=>K (.tup [S (bT a b (resI (valI a*valI b))).1,I (bT a b (resI (valI a*valI b))).2]) | _=>False
theorem k120:aG Tryz.prog c120:=by
 refine aC rfl (enters_of Tryz.func160 (by kernel_rfl) rfl) ?_
 intro args K h
 simp only[c120] at h
 split at h
 ·rename_i a b;exact ⟨_,h,aA (Γ:=[c110,c111,c61,c112,c153,c115]) (by simp[k110,k111,k61,k112,k153,k115]) Tryz.func160 (by simp[Tryz.ntmps160]) rfl (b120 a b)⟩
 ·exact h.elim
theorem aNz (p:Prop) [Decidable p] (m:Nat):sgP (¬p∧m≠0) (m:Int)= -sgP p m:=by
 unfold sgP
 by_cases h:m=0
 ·simp[h]
 ·by_cases hp:p<;>simp[h,hp]
theorem aPk (a b:List UInt8):sgP (addS (a.headD 0=45) (valB B6 (aB B6 (aE (digs a)))).toNat (¬b.headD 0=45∧(valB B6 (aB B6 (aE (digs b)))).toNat≠0) (valB B6 (aB B6 (aE (digs b)))).toNat) (addN (a.headD 0=45) (valB B6 (aB B6 (aE (digs a)))).toNat (¬b.headD 0=45∧(valB B6 (aB B6 (aE (digs b)))).toNat≠0) (valB B6 (aB B6 (aE (digs b)))).toNat)=valI a-valI b:=by
 rw[aNw,aNz]
 simp only[v6,Int.toNat_natCast,dS]
 omega
theorem b82 (a b:List UInt8) (h:chkI a=0∧chkI b=0):body Tryz.prog [c110,c111,c112,c121,c114] {} true Tryz.f107 [S a,S b] (.tup [I (cmpI (valI a) (valI b)),I 0]):=by
 obtain ⟨ha,hb⟩:=h
 obtain ⟨fa,la⟩:=bS ha
 obtain ⟨fb,lb⟩:=bS hb
 have zA:=jZ fa la
 have zB:=jZ fb lb
 have hab:form a∧form b:=⟨fa,fb⟩
 have ra:form a∧(digs a).length≤600:=⟨fa,by omega⟩
 have rb:form b∧(digs b).length≤600:=⟨fb,by omega⟩
 have hc2:¬chk2 a b≠0:=by
  unfold chk2
  rw[if_neg (by rw[ha];simp),hb];simp
 have zB':pW (¬b.headD 0=45∧(valB B6 (aB B6 (aE (digs b)))).toNat≠0) (aB B6 (aE (digs b))):=⟨zB.1,zB.2.1,fun h=>Nat.pos_of_ne_zero h.2⟩
 have hv:=aPk a b
 skip
 refine Br.mkN (show ¬ ¬chk2 a b=0 from hc2) ?_
 (repeat'((conv=>whnf);first|refine Zn ?_|fail))
 (refine Br.mk (fun _=>?_) (fun _=>?_))
 ·rename_i hs
  skip
  (refine Br.mk (fun _=>?_) (fun _=>?_))
  ·rename_i h1
   skip
   (conv=>whnf)
   (repeat'(first|exact trivial|rfl|refine And.intro ?_ ?_|fail))
   unfold cmpI;rw[if_pos h1]
  ·rename_i h1
   skip
   (refine Br.mk (fun _=>?_) (fun _=>?_))
   ·rename_i h2
    skip
    (conv=>whnf)
    (repeat'(first|exact trivial|rfl|refine And.intro ?_ ?_|fail))
    unfold cmpI;rw[if_neg h1,if_neg (by omega)]
   ·rename_i h2
    skip
    (conv=>whnf)
    (repeat'(first|exact trivial|rfl|refine And.intro ?_ ?_|fail))
    unfold cmpI;rw[if_neg h1,if_pos (by omega)]
 ·(refine Br.mk (fun _=>?_) (fun _=>?_))
  all_goals
   (repeat'((conv=>whnf);first|refine Zn ?_|fail))
   refine Need.mk ⟨zA,zB'⟩ ?_
   (repeat'((conv=>whnf);first|refine Zg fun _=>?_|refine Zl ?_|fail))
   (refine Br.mk (fun _=>?_) (fun _=>?_))
   ·rename_i hz
    have e0:addN (a.headD 0=45) (valB B6 (aB B6 (aE (digs a)))).toNat (¬b.headD 0=45∧(valB B6 (aB B6 (aE (digs b)))).toNat≠0) (valB B6 (aB B6 (aE (digs b)))).toNat=0:=(jV _).1 (by omega)
    have e1:valI a-valI b=0:=by
     rw[← hv,e0]
     unfold sgP;split<;>rfl
    skip
    (conv=>whnf)
    (repeat'(first|exact trivial|rfl|refine And.intro ?_ ?_|fail))
    unfold cmpI
    rw[if_neg (by omega),if_pos (by omega)]
   ·rename_i hz
    have e0:addN (a.headD 0=45) (valB B6 (aB B6 (aE (digs a)))).toNat (¬b.headD 0=45∧(valB B6 (aB B6 (aE (digs b)))).toNat≠0) (valB B6 (aB B6 (aE (digs b)))).toNat≠0:=fun h'=>hz (by rw[h',aY];rfl)
    skip
    (refine Br.mk (fun _=>?_) (fun _=>?_))
    ·rename_i hs
     have e1:valI a-valI b<0:=by
      rw[← hv]
      unfold sgP
      rw[if_pos hs]
      omega
     skip
     (conv=>whnf)
     (repeat'(first|exact trivial|rfl|refine And.intro ?_ ?_|fail))
     unfold cmpI
     rw[if_pos (by omega)]
    ·rename_i hs
     have e1:0<valI a-valI b:=by
      rw[← hv]
      unfold sgP
      rw[if_neg hs]
      omega
     skip
     (conv=>whnf)
     (repeat'(first|exact trivial|rfl|refine And.intro ?_ ?_|fail))
     unfold cmpI
     rw[if_neg (by omega),if_neg (by omega)]
def c82:Con:=aK 107 true fun args K=>match args with | [.str a,.str b]=>Need (chkI a=0∧chkI b=0) (K (.tup [I (cmpI (valI a) (valI b)),I 0])) | _=>False
theorem k82:aG Tryz.prog c82:=by
 refine aC rfl (enters_of Tryz.func107 (by kernel_rfl) rfl) ?_
 intro args K h
 simp only[c82] at h
 split at h
 ·rename_i a b;exact ⟨_,h.go,aA (Γ:=[c110,c111,c112,c121,c114]) (by simp[k110,k111,k112,k121,k114]) Tryz.func107 (by simp[Tryz.ntmps107]) rfl (b82 a b h.ok)⟩
 ·exact h.elim
set_option linter.unusedSimpArgs false
set_option linter.unusedSimpArgs false
def aJp (a:List UInt8):Prop:=(82<a.length∧a.length<602)∨700<a.length
instance (a:List UInt8):Decidable (aJp a):=by unfold aJp;infer_instance
theorem xT (q:Rat):(numS q).headD 0=45↔q<0:=by
 rw[← aKs]
 exact (bK (List.length_pos_iff.2 (aJn q)) 45).symm
theorem lt0 (q:Rat):q<0↔q.num<0:=by
 rw[Rat.lt_iff]
 show q.num*((1:Nat):Int)<0* _↔ _
 omega
theorem aHa (n:Int):itoa n=(if n<0 then 45::decDigits n.natAbs else decDigits n.natAbs):=by
 unfold itoa
 split
 ·rfl
 ·rw[show n.toNat=n.natAbs by omega]
theorem Sz.digs {q:Rat} (h:Sz 300 q):(decDigits q.num.natAbs).length≤300∧(decDigits q.den).length≤300:=⟨jU (k:=300) (by decide) h.1,jU (k:=300) (by decide) h.2⟩
theorem aKu (k:Nat) (hk:0<k):1<10^k:=Nat.lt_of_lt_of_le (show 1<10^1 by decide) (dK hk)
theorem uI {s:List UInt8} (h:chkQ s=0):s=numS (valQ s)∧Sz 300 (valQ s):=by
 obtain ⟨e,h3,h4⟩:=qY h
 refine ⟨e,?_,?_⟩
 ·refine iF (k:=300) ?_
  rw[e,fA,bN] at h3
  exact h3
 ·by_cases h1:(valQ s).den=1
  ·rw[h1]
   exact aKu 300 (by decide)
  ·refine iF (k:=300) ?_
   rw[e,iN,if_neg h1] at h4
   exact h4
theorem b65 (q:Rat) (hq:Sz 300 q):body Tryz.prog [c73] {} true Tryz.f87 [S (numS q)] (.tup [S (pn q),S (pd q)]):=by
 have e1:digs (topS (numS q))=decDigits q.num.natAbs:=by rw[fA,bN]
 have e2:(numS q).headD 0=45↔q.num<0:=by rw[xT,lt0]
 have e3:=aHa q.num
 have l1:=hq.digs.1
 have e4:=iN q
 have hpn:∀h:q.num<0,pn q=45::decDigits q.num.natAbs:=fun h=>by unfold pn;rw[e3,if_pos h]
 have hpp:∀h:¬q.num<0,pn q=decDigits q.num.natAbs:=fun h=>by unfold pn;rw[e3,if_neg h]
 have f1:∀h:q.den=1,pd q= [49]:=fun h=>aRq.2 h
 have f2:∀h:¬q.den=1,(botS (numS q)).tail=pd q:=fun h=>by rw[e4,if_neg h];rfl
 skip
 by_cases hn:q.num<0
 ·refine Br.mkY (e2.2 hn) ?_
  skip
  refine Need.mk (by rw[e1];show 1+ _≤ _;omega) ?_
  skip
  by_cases hd:q.den=1
  ·refine Br.mkY (show ¬ ¬botS (numS q)= [] by rw[e4,if_pos hd];simp) ?_
   skip
   (conv=>whnf)
   (repeat'(first|exact trivial|refine And.intro ?_ ?_|fail))
   ·(conv=>whnf)
    rw[hpn hn,e1];rfl
   ·(conv=>whnf)
    exact (f1 hd).symm
  ·refine Br.mkN (show ¬ ¬ ¬botS (numS q)= [] by rw[e4,if_neg hd];simp) ?_
   skip
   (conv=>whnf)
   (repeat'(first|exact trivial|refine And.intro ?_ ?_|fail))
   ·(conv=>whnf)
    rw[hpn hn,e1];rfl
   ·(conv=>whnf)
    exact f2 hd
 ·refine Br.mkN (fun h=>hn (e2.1 h)) ?_
  skip
  by_cases hd:q.den=1
  ·refine Br.mkY (show ¬ ¬botS (numS q)= [] by rw[e4,if_pos hd];simp) ?_
   skip
   (conv=>whnf)
   (repeat'(first|exact trivial|refine And.intro ?_ ?_|fail))
   ·(conv=>whnf)
    rw[hpp hn,e1]
   ·(conv=>whnf)
    exact (f1 hd).symm
  ·refine Br.mkN (show ¬ ¬ ¬botS (numS q)= [] by rw[e4,if_neg hd];simp) ?_
   skip
   (conv=>whnf)
   (repeat'(first|exact trivial|refine And.intro ?_ ?_|fail))
   ·(conv=>whnf)
    rw[hpp hn,e1]
   ·(conv=>whnf)
    exact f2 hd
def c65:Con:=aK 87 true fun args K=>match args with | [.str s]=>Need (chkQ s=0) (K (.tup [S (pn (valQ s)),S (pd (valQ s))])) | _=>False
theorem k65:aG Tryz.prog c65:=by
 refine aC rfl (enters_of Tryz.func87 (by kernel_rfl) rfl) ?_
 intro args K h
 simp only[c65] at h
 split at h
 ·rename_i s
  obtain ⟨e,hq⟩:=uI h.ok
  refine ⟨_,h.go,?_⟩
  have ht:=aA (Γ:=[c73]) (by simp[k73]) Tryz.func87 (by simp[Tryz.ntmps87]) rfl (b65 (valQ s) hq)
  rw[← e] at ht
  exact ht
 ·exact h.elim
def smR (q:Rat):Prop:=(decDigits q.num.natAbs).length≤9∧(q.den=1∨(decDigits q.den).length≤9)
instance (q:Rat):Decidable (smR q):=by unfold smR;infer_instance
theorem aHb {q:Rat} (h:smR q):q.num.natAbs<1000000000∧q.den<1000000000:=by
 refine ⟨?_,?_⟩
 ·have:=iF (k:=9) h.1
  simpa using this
 ·rcases h.2 with h | h
  ·omega
  ·have:=iF (k:=9) h
   simpa using this
theorem b70 (q:Rat) (hq:Sz 300 q):(∀h:smR q,body Tryz.prog [c73,c85] {} true Tryz.f85 [S (numS q)] (.tup [I q.num,I q.den,.val (.bool true)]))∧(∀h:¬smR q,body Tryz.prog [c73,c85] {} true Tryz.f85 [S (numS q)] (.tup [I 0,I 0,.val (.bool false)])):=by
 have e1:digs (topS (numS q))=decDigits q.num.natAbs:=by rw[fA,bN]
 have e2:(numS q).headD 0=45↔q.num<0:=by rw[xT,lt0]
 have l1:=hq.digs
 have e4:=iN q
 have hd1:∀c∈decDigits q.num.natAbs,aR c:=fun c hc=>iE _ c hc
 have hd2:∀c∈decDigits q.den,aR c:=fun c hc=>iE _ c hc
 refine ⟨fun h=>?_,fun h=>?_⟩
 ·have hl:=aHb h
  have k1:(digs (topS (numS q))).length≤9:=by rw[e1];exact h.1
  have k2:(botS (numS q)).tail.length≤9:=by
   rw[e4];split
   ·simp
   ·rename_i h1
    rcases h.2 with h2 | h2
    ·exact absurd h2 h1
    ·exact h2
  have n1:aE (digs (topS (numS q)))=q.num.natAbs:=by rw[e1,cL]
  have m1:(∀c∈digs (topS (numS q)),aR c)∧(digs (topS (numS q))).length≤18:=⟨by rw[e1];exact hd1,by omega⟩
  (repeat'((conv=>whnf);first|refine Zg fun _=>?_|refine Zn ?_|refine Zm ?_|fail))
  by_cases hd:q.den=1
  ·refine Br.mkN (show ¬ ¬botS (numS q)= [] by rw[e4,if_pos hd];simp) ?_
   skip
   by_cases hn:q.num<0
   ·refine Br.mkY (e2.2 hn) ?_
    (repeat'((conv=>whnf);first|refine Zn ?_|fail))
    (conv=>whnf)
    (repeat'(first|exact trivial|rfl|refine And.intro ?_ ?_|fail))
    ·(conv=>whnf)
     omega
    ·(conv=>whnf)
     omega
   ·refine Br.mkN (fun h=>hn (e2.1 h)) ?_
    skip
    (conv=>whnf)
    (repeat'(first|exact trivial|rfl|refine And.intro ?_ ?_|fail))
    ·(conv=>whnf)
     omega
    ·(conv=>whnf)
     omega
  ·have m2:(∀c∈(botS (numS q)).tail,aR c)∧(botS (numS q)).tail.length≤18:=⟨by rw[e4,if_neg hd];exact hd2,by omega⟩
   have n2:aE (botS (numS q)).tail=q.den:=by rw[e4,if_neg hd];exact cL _
   refine Br.mkY (show ¬botS (numS q)= [] by rw[e4,if_neg hd];simp) ?_
   (repeat'((conv=>whnf);first|refine Zn ?_|fail))
   by_cases hn:q.num<0
   ·refine Br.mkY (e2.2 hn) ?_
    (repeat'((conv=>whnf);first|refine Zn ?_|fail))
    (conv=>whnf)
    (repeat'(first|exact trivial|rfl|refine And.intro ?_ ?_|fail))
    ·(conv=>whnf)
     omega
    ·(conv=>whnf)
     omega
   ·refine Br.mkN (fun h=>hn (e2.1 h)) ?_
    skip
    (conv=>whnf)
    (repeat'(first|exact trivial|rfl|refine And.intro ?_ ?_|fail))
    ·(conv=>whnf)
     omega
    ·(conv=>whnf)
     omega
 ·by_cases k1:9<(digs (topS (numS q))).length
  ·(repeat'((conv=>whnf);first|refine Zg fun _=>?_|refine Zy ?_|fail))
   (conv=>whnf)
   (repeat'(first|exact trivial|rfl|refine And.intro ?_ ?_|fail))
  ·have k2:9<(botS (numS q)).tail.length:=by
    rw[e1] at k1
    refine Nat.lt_of_not_le fun hx=>h ⟨by omega,?_⟩
    rw[e4] at hx
    split at hx
    ·rename_i h1;exact .inl h1
    ·exact .inr hx
   (repeat'((conv=>whnf);first|refine Zg fun _=>?_|refine Zy ?_|refine Zm ?_|fail))
   (conv=>whnf)
   (repeat'(first|exact trivial|rfl|refine And.intro ?_ ?_|fail))
def c70:Con:=aK 85 true fun args K=>match args with
 | [.str s]=>Need (chkQ s=0) (Br (smR (valQ s)) (K (.tup [I (valQ s).num,I (valQ s).den,.val (.bool true)])) (K (.tup [I 0,I 0,.val (.bool false)])))
 | _=>False
theorem k70:aG Tryz.prog c70:=by
 refine aC rfl (enters_of Tryz.func85 (by kernel_rfl) rfl) ?_
 intro args K h
 simp only[c70] at h
 split at h
 ·rename_i s
  obtain ⟨e,hq⟩:=uI h.ok
  have hb:=b70 (valQ s) hq
  rw[← e] at hb
  by_cases hl:smR (valQ s)
  ·exact ⟨_,h.go.yes hl,aA (Γ:=[c73,c85]) (by simp[k73,k85]) Tryz.func85 (by simp[Tryz.ntmps85]) rfl (hb.1 hl)⟩
  ·exact ⟨_,h.go.no hl,aA (Γ:=[c73,c85]) (by simp[k73,k85]) Tryz.func85 (by simp[Tryz.ntmps85]) rfl (hb.2 hl)⟩
 ·exact h.elim
noncomputable def chkB (a b:List UInt8):Int:=if chkQ a≠0 then chkQ a else chkQ b
theorem b78 (a b:List UInt8):body Tryz.prog [c44] {} true Tryz.f82 [S a,S b] (I (chkB a b)):=by
 unfold chkB
 skip
 (refine Br.mk (fun _=>?_) (fun _=>?_))
 ·rename_i h
  rw[if_pos h]
  skip
  (conv=>whnf)
  (repeat'(first|rfl|refine And.intro ?_ ?_|fail))
 ·rename_i h
  rw[if_neg h]
  skip
  (conv=>whnf)
  (repeat'(first|rfl|refine And.intro ?_ ?_|fail))
def c78:Con:=aK 82 true fun args K=>match args with | [.str a,.str b]=>K (I (chkB a b)) | _=>False
theorem k78:aG Tryz.prog c78:=by
 refine aC rfl (enters_of Tryz.func82 (by kernel_rfl) rfl) ?_
 intro args K h
 simp only[c78] at h
 split at h
 ·rename_i a b;exact ⟨_,h,aA (Γ:=[c44]) (by simp[k44]) Tryz.func82 (by simp[Tryz.ntmps82]) rfl (b78 a b)⟩
 ·exact h.elim
abbrev ok4 (a b c d:List UInt8):Prop:=(chkI a=0∧chkI b=0)∧chkI c=0∧chkI d=0
theorem b81n (a b c d:List UInt8) (h:ok4 a b c d) (hl:lim (valI a*valI b)=true):body Tryz.prog [c120] {} true Tryz.f106 [S a,S b,S c,S d] (.tup [S [],S [],I 4]):=by
 obtain ⟨⟨ha,hb⟩,hc,hd⟩:=h
 have e1:bT a b (resI (valI a*valI b))=([],4):=by rw[oK ha hb];unfold resI;rw[if_pos hl]
 skip
 refine Br.mkY (show ¬(bT a b (resI (valI a*valI b))).2=0 by rw[e1];decide) ?_
 skip
 (conv=>whnf)
 (repeat'(first|exact trivial|rfl|refine And.intro ?_ ?_|fail))
 (conv=>whnf)
 rw[e1]
theorem b81y (a b c d:List UInt8) (h:ok4 a b c d) (hl:lim (valI a*valI b)=false):body Tryz.prog [c120] {} true Tryz.f106 [S a,S b,S c,S d] (.tup [S (itoa (valI a*valI b)),S (resI (valI c*valI d)).1,I (resI (valI c*valI d)).2]):=by
 obtain ⟨⟨ha,hb⟩,hc,hd⟩:=h
 have e1:bT a b (resI (valI a*valI b))=(itoa (valI a*valI b),0):=by rw[oK ha hb];unfold resI;rw[if_neg (by rw[hl];decide)]
 have e2:=oK hc hd (resI (valI c*valI d))
 skip
 refine Br.mkN (show ¬ ¬(bT a b (resI (valI a*valI b))).2=0 by rw[e1];simp) ?_
 skip
 (conv=>whnf)
 (repeat'(first|exact trivial|rfl|refine And.intro ?_ ?_|fail))
 ·(conv=>whnf)
  rw[e1]
 ·(conv=>whnf)
  rw[e2]
 ·(conv=>whnf)
  rw[e2]
def c81:Con:=aK 106 true fun args K=>match args with
 | [.str a,.str b,.str c,.str d]=>Need (ok4 a b c d) (Br (lim (valI a*valI b)=true) (K (.tup [S [],S [],I 4])) (K (.tup [S (itoa (valI a*valI b)),S (resI (valI c*valI d)).1,I (resI (valI c*valI d)).2])))
 | _=>False
theorem k81:aG Tryz.prog c81:=by
 refine aC rfl (enters_of Tryz.func106 (by kernel_rfl) rfl) ?_
 intro args K h
 simp only[c81] at h
 split at h
 ·rename_i a b c d
  by_cases hl:lim (valI a*valI b)=true
  ·exact ⟨_,h.go.yes hl,aA (Γ:=[c120]) (by simp[k120]) Tryz.func106 (by simp[Tryz.ntmps106]) rfl (b81n a b c d h.ok hl)⟩
  ·exact ⟨_,h.go.no hl,aA (Γ:=[c120]) (by simp[k120]) Tryz.func106 (by simp[Tryz.ntmps106]) rfl (b81y a b c d h.ok (by simpa using hl))⟩
 ·exact h.elim
theorem aPl {n:Int} (h:lim n=true):resI n=([],4):=by unfold resI;rw[if_pos h]
theorem aPm {n:Int} (h:lim n=false):resI n=(itoa n,0):=by unfold resI;rw[if_neg (by rw[h];decide)]
def c80:Con:=aK 88 true fun args K=>match args with
 | [.str n,.str d,.str m,.str c]=>Need (ok4 n m d c∧valI d*valI c≠0) (Br (lim (valI n*valI m)=true∨lim (valI d*valI c)=true) (K (.tup [S [],I 4])) (K (.tup [S (numS (Rat.divInt (valI n*valI m) (valI d*valI c))),I 0])))
 | _=>False
theorem mul9 {x y:Int} (hx:x.natAbs<1000000000) (hy:y.natAbs<1000000000): -1000000000000000000<x*y∧x*y<1000000000000000000:=by
 have h:=Int.natAbs_mul x y
 have h1:x.natAbs*y.natAbs<1000000000*1000000000:=Nat.mul_lt_mul'' hx hy
 omega
theorem aN0 {q:Rat} (h:Sz 300 q):chkI (pn q)=0∧valI (pn q)=q.num∧lim q.num=false:=by
 have h1:lim q.num=false:=by
  unfold lim
  have:=h.digs.1
  simp;omega
 exact ⟨bA h1,gX q,h1⟩
theorem aN1 {q:Rat} (h:Sz 300 q):chkI (pd q)=0∧valI (pd q)=q.den:=by
 have:=aCn h.digs.2
 exact ⟨this.2.1,this.2.2⟩
theorem aAw (n:Int):lim n=true∨lim n=false:=by cases lim n<;>simp
theorem aN2 {a b:List UInt8} (h:¬chkB a b≠0):chkQ a=0∧chkQ b=0:=by
 unfold chkB at h
 by_cases h1:chkQ a≠0
 ·rw[if_pos h1] at h;exact absurd h1 h
 ·rw[if_neg h1] at h
  exact ⟨Classical.not_not.1 h1,Classical.not_not.1 h⟩
theorem aFp {p q:Prop} (hs:¬(p∧q)):(¬p∧q)∨(¬p∧¬q)∨(p∧¬q):=by
 by_cases h1:p
 ·exact .inr (.inr ⟨h1,fun h2=>hs ⟨h1,h2⟩⟩)
 ·by_cases h2:q
  ·exact .inl ⟨h1,h2⟩
  ·exact .inr (.inl ⟨h1,h2⟩)
theorem aN3 {a b:List UInt8} (h:chkB a b≠0):cmpQ a b=(0,chkB a b):=by
 unfold cmpQ chkB at*
 by_cases h1:chkQ a≠0
 ·rw[if_pos h1,if_pos h1]
 ·rw[if_neg h1] at h ⊢
  rw[if_pos h,if_neg h1]
theorem aKv {a b:List UInt8} (h:chkQ a=0∧chkQ b=0):cmpQ a b=cmpf (valQ a) (valQ b):=by
 unfold cmpQ
 rw[if_neg (by rw[h.1];simp),if_neg (by rw[h.2];simp)]
theorem aJq {p q:Rat} (l1:lim (p.num*q.den)=false) (l2:lim (q.num*p.den)=false):cmpf p q=(cmpI (p.num*q.den) (q.num*p.den),0):=by
 unfold cmpf
 rw[if_neg (by simp[l1,l2])]
set_option maxHeartbeats 8000000 in
theorem b43g (a b:List UInt8) (ha:chkQ a=0) (hb:chkQ b=0):body Tryz.prog [c78,c70,c65,c81,c82] {} true Tryz.f43 [S a,S b] (.tup [I (cmpf (valQ a) (valQ b)).1,I (cmpf (valQ a) (valQ b)).2]):=by
 have hp:=(uI ha).2
 have hq:=(uI hb).2
 obtain ⟨cn1,vn1,ln1⟩:=aN0 hp
 obtain ⟨cn2,vn2,ln2⟩:=aN0 hq
 obtain ⟨cd1,vd1⟩:=aN1 hp
 obtain ⟨cd2,vd2⟩:=aN1 hq
 have d1:=(valQ a).den_pos
 have d2:=(valQ b).den_pos
 have hc:¬chkB a b≠0:=by unfold chkB;rw[if_neg (by rw[ha];simp),hb];simp
 by_cases hs:smR (valQ a)∧smR (valQ b)
 ·have s1:=aHb hs.1
  have s2:=aHb hs.2
  have m1:=mul9 (x:=(valQ a).num) (y:=((valQ b).den:Int)) s1.1 (by omega)
  have m2:=mul9 (x:=(valQ b).num) (y:=((valQ a).den:Int)) s2.1 (by omega)
  have ea:=aJq (p:=valQ a) (q:=valQ b) (bX (by omega)) (bX (by omega))
  skip
  refine Br.mkN (show ¬ ¬chkB a b=0 from hc) ?_
  (repeat'((conv=>whnf);first|refine Zn ?_|fail))
  refine Br.mkY hs.1 ?_
  (repeat'((conv=>whnf);first|refine Zn ?_|fail))
  refine Br.mkY hs.2 ?_
  (repeat'((conv=>whnf);first|refine Zn ?_|fail))
  (refine Br.mk (fun _=>?_) (fun _=>?_))
  ·rename_i hx
   skip
   (conv=>whnf)
   (repeat'(first|exact trivial|rfl|refine And.intro ?_ ?_|fail))
   ·(conv=>whnf)
    rw[ea];unfold cmpI;rw[if_pos hx]
   ·(conv=>whnf)
    rw[ea]
  ·rename_i hx
   (repeat'((conv=>whnf);first|refine Zn ?_|fail))
   (refine Br.mk (fun _=>?_) (fun _=>?_))
   ·rename_i hy
    skip
    (conv=>whnf)
    (repeat'(first|exact trivial|rfl|refine And.intro ?_ ?_|fail))
    ·(conv=>whnf)
     rw[ea];unfold cmpI;rw[if_neg hx,if_neg (by omega)]
    ·(conv=>whnf)
     rw[ea]
   ·rename_i hy
    skip
    (conv=>whnf)
    (repeat'(first|exact trivial|rfl|refine And.intro ?_ ?_|fail))
    ·(conv=>whnf)
     rw[ea];unfold cmpI;rw[if_neg hx,if_pos (by omega)]
    ·(conv=>whnf)
     rw[ea]
 ·have n4:ok4 (pn (valQ a)) (pd (valQ b)) (pn (valQ b)) (pd (valQ a)):=⟨⟨cn1,cd2⟩,cn2,cd1⟩
  rcases aFp hs with ⟨h1,h2⟩ | ⟨h1,h2⟩ | ⟨h1,h2⟩
  all_goals skip
  all_goals refine Br.mkN (show ¬ ¬chkB a b=0 from hc) ?_
  all_goals (repeat'((conv=>whnf);first|refine Zn ?_|fail))
  all_goals first | refine Br.mkN h1 ?_ | refine Br.mkY h1 ?_
  all_goals (repeat'((conv=>whnf);first|refine Zn ?_|fail))
  all_goals first | refine Br.mkN h2 ?_ | refine Br.mkY h2 ?_
  all_goals (repeat'((conv=>whnf);first|refine Zn ?_|fail))
  all_goals
   rcases aAw ((valQ a).num*((valQ b).den:Int)) with l1 | l1
   ·have ea:cmpf (valQ a) (valQ b)=(0,4):=by unfold cmpf;rw[if_pos (by simp[l1])]
    refine Br.mkY (show lim (valI (pn (valQ a))*valI (pd (valQ b)))=true by rw[vn1,vd2];exact l1) ?_
    (repeat'((conv=>whnf);first|refine Zy ?_|fail))
    (conv=>whnf)
    (repeat'(first|exact trivial|rfl|refine And.intro ?_ ?_|fail))
    ·(conv=>whnf)
     rw[ea]
    ·(conv=>whnf)
     rw[ea]
   ·refine Br.mkN (show ¬lim (valI (pn (valQ a))*valI (pd (valQ b)))=true by rw[vn1,vd2,l1];decide) ?_
    skip
    rcases aAw ((valQ b).num*((valQ a).den:Int)) with l2 | l2
    ·have ea:cmpf (valQ a) (valQ b)=(0,4):=by unfold cmpf;rw[if_pos (by simp[l2])]
     have e4:resI (valI (pn (valQ b))*valI (pd (valQ a)))=([],4):=by rw[vn2,vd1];exact aPl l2
     refine Br.mkY (show ¬(resI (valI (pn (valQ b))*valI (pd (valQ a)))).2=0 by rw[e4];decide) ?_
     skip
     (conv=>whnf)
     (repeat'(first|exact trivial|rfl|refine And.intro ?_ ?_|fail))
     ·(conv=>whnf)
      rw[ea]
     ·(conv=>whnf)
      rw[ea,e4]
    ·have e4:resI (valI (pn (valQ b))*valI (pd (valQ a)))=(itoa ((valQ b).num*((valQ a).den:Int)),0):=by rw[vn2,vd1];exact aPm l2
     refine Br.mkN (show ¬ ¬(resI (valI (pn (valQ b))*valI (pd (valQ a)))).2=0 by rw[e4];simp) ?_
     have ea:=aJq l1 l2
     have n5:chkI (itoa (valI (pn (valQ a))*valI (pd (valQ b))))=0∧chkI (resI (valI (pn (valQ b))*valI (pd (valQ a)))).1=0:=by
      rw[e4,vn1,vd2]
      exact ⟨bA l1,bA l2⟩
     (repeat'((conv=>whnf);first|refine Zn ?_|fail))
     (conv=>whnf)
     (repeat'(first|exact trivial|rfl|refine And.intro ?_ ?_|fail))
     ·(conv=>whnf)
      rw[ea,e4,vn1,vd2,aT,aT]
     ·(conv=>whnf)
      rw[ea]
theorem b43 (a b:List UInt8):body Tryz.prog [c78,c70,c65,c81,c82] {} true Tryz.f43 [S a,S b] (.tup [I (cmpQ a b).1,I (cmpQ a b).2]):=by
 by_cases h:chkB a b≠0
 ·rw[aN3 h]
  skip
  refine Br.mkY h ?_
  skip
  (conv=>whnf)
  (repeat'(first|exact trivial|rfl|refine And.intro ?_ ?_|fail))
 ·rw[aKv (aN2 h)]
  exact b43g a b (aN2 h).1 (aN2 h).2
def c43:Con:=aK 43 true fun args K=>match args with | [.str a,.str b]=>K (.tup [I (cmpQ a b).1,I (cmpQ a b).2]) | _=>False
theorem k43:aG Tryz.prog c43:=by
 refine aC rfl (enters_of Tryz.func43 (by kernel_rfl) rfl) ?_
 intro args K h
 simp only[c43] at h
 split at h
 ·rename_i a b;exact ⟨_,h,aA (Γ:=[c78,c70,c65,c81,c82]) (by simp[k78,k70,k65,k81,k82]) Tryz.func43 (by simp[Tryz.ntmps43]) rfl (b43 a b)⟩
 ·exact h.elim
set_option linter.unusedSimpArgs false
def longL (l:List (List UInt8)):Prop:=(∃a∈l,aJp a)∨8<l.length
noncomputable instance (l:List (List UInt8)):Decidable (longL l):=Classical.propDecidable _
theorem nat10_cons (c:UInt8) (r:List UInt8):aE (c::r)=aE [c]*10^r.length+aE r:=lZ [c] r
set_option linter.unusedSimpArgs false
set_option linter.unusedSimpArgs false
theorem nG {l:List (List UInt8)} {k:Nat} (h:k<l.length):l.drop k=l.getD k []::l.drop (k+1):=by
 rw[List.drop_eq_getElem_cons h]
 simp[List.getD_eq_getElem?_getD,h]
set_option linter.unusedSimpArgs false
theorem b75 (n:Int) (h:0≤n∧n≤1000000):aDf Tryz.prog [] {} Tryz.f105 [.val (.slice none 0 0),I n] (.ref 0 1) .str [] 22:=by
 skip
 (refine Br.mk (fun _=>?_) (fun _=>?_))
 ·omega
 ·(repeat'((conv=>whnf);first|refine Zn ?_|fail))
  (refine Br.mk (fun _=>?_) (fun _=>?_))
  ·(repeat'((conv=>whnf);first|refine Zn ?_|fail))
   (conv=>whnf)
   (repeat'(first|rfl|refine And.intro ?_ ?_|fail))
  ·skip
   (conv=>whnf)
   (repeat'(first|rfl|refine And.intro ?_ ?_|fail))
def c75:Con:=aAz 105 fun args K=>match args with | [.val (.slice none 0 0),.val (.int .i64 n)]=>Need (0≤n∧n≤1000000) (K (.ref 0 1) (.vec 1 (.str) ([]) 22)) | _=>False
theorem k75:aG Tryz.prog c75:=by
 refine vO (enters_of Tryz.func105 (by kernel_rfl) rfl) ?_
 intro args K h
 split at h
 ·rename_i n;exact ⟨_,_,_,_,_,h.go,fun hfl=>iU (Γ:=[]) (by simp) Tryz.func105 (by simp[Tryz.ntmps105]) hfl (b75 n h.ok)⟩
 ·exact h.elim
theorem aAx (xss:List (List (List UInt8))) (i:Nat):(xss.take (i+1)).flatten=(xss.take i).flatten++xss.getD i []:=by
 rw[List.take_add_one,List.flatten_append,List.getD_eq_getElem?_getD]
 cases xss[i]? <;>simp
theorem xU (xss:List (List (List UInt8))) (i:Nat):(xss.take i).flatten.length≤xss.flatten.length:=by
 have:xss.flatten=(xss.take i).flatten++(xss.drop i).flatten:=by rw[← List.flatten_append,List.take_append_drop]
 rw[this,List.length_append];omega
def lsum (xss:List (List (List UInt8))) (i:Nat):Int:=((xss.take i).flatten.length:Nat)
theorem rK {a:List UInt8} {k:Nat} (h1:a.length≤k) (h2:chkQ a=0) (hk:0<k):a=numS (valQ a)∧Sz k (valQ a):=by
 obtain ⟨e,h3,h4⟩:=qY h2
 refine ⟨e,?_,?_⟩
 ·refine iF ?_
  rw[e] at h1
  unfold numS at h1
  have h5:(decDigits (valQ a).num.natAbs).length≤(itoa (valQ a).num).length:=by
   unfold itoa
   split
   ·simp
   ·rw[show (valQ a).num.toNat=(valQ a).num.natAbs by omega];exact Nat.le_refl _
  split at h1
  ·omega
  ·simp at h1;omega
 ·rw[e] at h1
  unfold numS at h1
  split at h1
  ·rename_i e1
   rw[e1];exact Nat.one_lt_pow (by omega) (by decide)
  ·refine iF ?_
   simp at h1;omega
end RB
end
section
set_option linter.unusedVariables false
namespace RB
section
variable {ax ay az bx by' bz cx cy cz P Q R:Rat}
end
end RB
end
section
open Go Go.Proofs Go.Eng Go.Shelf IB Go.Lib Go.RowKit
namespace RB
set_option maxRecDepth 10000
set_option linter.unusedVariables false
set_option linter.unusedSimpArgs false
def d36 (q:Rat):Prop:=(decDigits q.num.natAbs).length≤36∧(decDigits q.den).length≤36
instance (q:Rat):Decidable (d36 q):=inferInstanceAs (Decidable (_∧ _))
noncomputable def chkP (a:List UInt8):Int:=if chkQ a≠0 then chkQ a else if d36 (valQ a) then 0 else 4
def badP (l:List (List UInt8)):Prop:=∃a∈l,chkP a≠0
noncomputable instance (l:List (List UInt8)):Decidable (badP l):=Classical.propDecidable _
section
variable {p q r:Rat} {i j k:Nat}
end
noncomputable def hgt (a b c x y:List UInt8):Rat:=valQ a*valQ x+valQ b*valQ y+valQ c
set_option linter.unusedSimpArgs false
section
variable (p:List UInt8→Prop) [DecidablePred p]
def ixD (l:List (List UInt8)):Int:=if l.findIdx (fun s=>decide (p s))<l.length then (l.findIdx (fun s=>decide (p s)):Int) else -1
theorem wV {l:List (List UInt8)} {i:Nat} (hi:i<l.length) (hb:p (l.getD i [])) (h:∀j,j<i→¬p (l.getD j [])):ixD p l=i:=by
 have e:l.findIdx (fun s=>decide (p s))=i:=by
  rw[List.findIdx_eq hi]
  refine ⟨by simpa [List.getD_eq_getElem?_getD,hi] using hb,fun j hj=>?_⟩
  have:=h j hj
  simpa [List.getD_eq_getElem?_getD,show j<l.length by omega] using this
 unfold ixD
 rw[e,if_pos hi]
theorem wW {l:List (List UInt8)} (h:∀j,j<l.length→¬p (l.getD j [])):ixD p l= -1:=by
 unfold ixD
 rw[if_neg]
 intro hlt
 have h1:=List.findIdx_getElem (w:=hlt)
 have h2:=h _ hlt
 simp only[decide_eq_true_eq] at h1
 apply h2
 simpa [List.getD_eq_getElem?_getD,hlt] using h1
theorem aCl (l:List (List UInt8)):0≤ixD p l↔∃a∈l,p a:=by
 constructor
 ·intro h
  refine Classical.byContradiction fun hn=>?_
  rw[wW p (fun j hj hp=>hn ⟨_,by rw[List.getD_eq_getElem?_getD,List.getElem?_eq_getElem hj];exact List.getElem_mem hj,hp⟩)] at h
  omega
 ·rintro ⟨a,ha,hp⟩
  unfold ixD
  have:l.findIdx (fun s=>decide (p s))<l.length:=List.findIdx_lt_length_of_exists ⟨a,ha,by simpa using hp⟩
  rw[if_pos this]
  omega
end
def badS (s:List UInt8):Prop:=12<s.length∨chkQ s≠0
noncomputable instance (s:List UInt8):Decidable (badS s):=Classical.propDecidable _
noncomputable instance:DecidablePred badS:=fun s=>Classical.propDecidable _
def notP (s:List UInt8):Prop:=chkP s≠0
noncomputable instance:DecidablePred notP:=fun s=>Classical.propDecidable _
def aQl (l:List (List UInt8)):Prop:=∀a∈l,a.length≤12∧chkQ a=0
noncomputable instance (l:List (List UInt8)):Decidable (aQl l):=Classical.propDecidable _
theorem Sz.up {k:Nat} {q:Rat} (h:Sz 12 q) (hk:12≤k):Sz k q:=h.mono hk
theorem aOu {p q:Rat} {k:Nat} (h1:(p.num*q.den).natAbs<10^k) (h2:(q.num*p.den).natAbs<10^k) (h0:q≠0):Sz k (p/q):=by
 have hq:q.num≠0:=fun h=>h0 (Rat.num_eq_zero.1 h)
 have hp:(0:Int)<p.den:=by have:=p.den_pos;omega
 rw[zW p q h0]
 rcases Int.lt_or_lt_of_ne hq with h | h
 ·have hd:(p.den:Int)*q.num<0:=Int.mul_neg_of_pos_of_neg hp h
  rw[pR _ _ hd]
  refine aFo (by omega) (by rwa [Int.natAbs_neg]) ?_
  have:(-((p.den:Int)*q.num)).toNat=(q.num*p.den).natAbs:=by rw[Int.mul_comm q.num];omega
  rwa [this]
 ·have hd:0<(p.den:Int)*q.num:=Int.mul_pos hp h
  rw[fN _ _ hd]
  refine aFo (by omega) h1 ?_
  have:((p.den:Int)*q.num).toNat=(q.num*p.den).natAbs:=by rw[Int.mul_comm q.num];omega
  rwa [this]
theorem Sz.div {p q:Rat} {i j:Nat} (hp:Sz i p) (hq:Sz j q) (h0:q≠0):Sz (i+j) (p/q):=aOu (hp.cross hq).1 (hp.cross hq).2.1 h0
section
variable {p q:Rat}
end
noncomputable def ckG (p:List UInt8):List (List UInt8)→Int
 | []=>0
 | a::r=>if chkQ a≠0 then chkQ a else if (cmpQ p a).2≠0 then (cmpQ p a).2 else if 0≤(cmpQ p a).1 then 10 else ckG a r
noncomputable def ckF:List (List UInt8)→Int
 | []=>0
 | a::r=>if chkQ a≠0 then chkQ a else ckG a r
theorem qR (a:List UInt8) (r:List (List UInt8)):ckF (a::r)=if chkQ a≠0 then chkQ a else ckG a r:=rfl
theorem ltT {a b c:Rat} (h1:a<b) (h2:b<c):a<c:=Rat.not_le.1 fun h=>Rat.not_le.2 h1 (Rat.le_trans (Rat.le_of_lt h2) h)
noncomputable def ckS (l:List (List UInt8)):Int:=if 4096<l.length then 4 else ckF l
noncomputable def ckAt (l:List (List UInt8)):Nat→Int
 | 0=>ckF l
 | i+1=>ckG (l.getD i []) (l.drop (i+1))
theorem uB {α:Type} {l:List α} {i:Nat} (d:α) (h:i<l.length):l.drop i=l.getD i d::l.drop (i+1):=by
 rw[List.drop_eq_getElem_cons h]
 simp[List.getD_eq_getElem?_getD,h]
theorem aEn (l:List (List UInt8)):ckAt l l.length=0:=by
 cases l with
 | nil=>rfl
 | cons a r=>
  show ckG _ (List.drop (r.length+1) (a::r))=0
  rw[List.drop_eq_nil_of_le (by simp)];rfl
section
variable {l:List (List UInt8)} {i:Nat}
theorem aEo (h:i<l.length) (h1:chkQ (l.getD i [])≠0):ckAt l i=chkQ (l.getD i []):=by
 cases i with
 | zero=>
  cases l with
  | nil=>simp at h
  | cons a r=>have h1:chkQ a≠0:=h1;show ckF (a::r)= _;rw[qR,if_pos h1];rfl
 | succ i=>
  show ckG _ (l.drop (i+1))= _
  rw[uB [] h];unfold ckG;rw[if_pos h1]
theorem aEp (h:i+1<l.length) (h1:chkQ (l.getD (i+1) [])=0) (h2:(cmpQ (l.getD i []) (l.getD (i+1) [])).2≠0):ckAt l (i+1)=(cmpQ (l.getD i []) (l.getD (i+1) [])).2:=by
 show ckG _ (l.drop (i+1))= _
 rw[uB [] h];unfold ckG;rw[if_neg (fun h=>h h1),if_pos h2]
theorem aEq (h:i+1<l.length) (h1:chkQ (l.getD (i+1) [])=0) (h2:(cmpQ (l.getD i []) (l.getD (i+1) [])).2=0) (h3:0≤(cmpQ (l.getD i []) (l.getD (i+1) [])).1):ckAt l (i+1)=10:=by
 show ckG _ (l.drop (i+1))= _
 rw[uB [] h];unfold ckG;rw[if_neg (fun h=>h h1),if_neg (fun h=>h h2),if_pos h3]
theorem aEr (h:0<l.length) (h1:chkQ (l.getD 0 [])=0):ckAt l 1=ckAt l 0:=by
 cases l with
 | nil=>simp at h
 | cons a r=>
  have h1:chkQ a=0:=h1
  show ckG a r=ckF (a::r)
  rw[qR,if_neg (fun h=>h h1)]
theorem aIa (h:i+1<l.length) (h1:chkQ (l.getD (i+1) [])=0) (h2:(cmpQ (l.getD i []) (l.getD (i+1) [])).2=0) (h3:¬0≤(cmpQ (l.getD i []) (l.getD (i+1) [])).1):ckAt l (i+2)=ckAt l (i+1):=by
 show ckG _ (l.drop (i+2))=ckG _ (l.drop (i+1))
 rw[uB [] h]
 conv=>rhs;unfold ckG
 rw[if_neg (fun h=>h h1),if_neg (fun h=>h h2),if_neg h3]
end
abbrev Asc (qs:List Rat):Prop:=qs.Pairwise (· < ·)
theorem aIb {k:Nat} (hk:0<k∧k≤150):∀(qs:List Rat) {p:Rat},Sz k p→(∀q∈qs,Sz k q)→(ckG (numS p) (qs.map numS)=0↔Asc (p::qs))
 | [],p,_,_=>by simp[ckG,Asc]
 | q::qs,p,hp,hq=>by
  have hq1:=hq q (List.mem_cons_self ..)
  have e1:=hZ hq1 ⟨hk.1,by omega⟩
  have e2:=nM hp hq1 hk.1 hk.1 (by omega)
  have ih:=aIb hk qs hq1 fun x hx=>hq x (List.mem_cons_of_mem _ hx)
  simp only[List.map_cons,ckG]
  rw[if_neg (fun h=>h e1),e2,if_neg (fun h=>h rfl)]
  dsimp only
  by_cases h:p<q
  ·have h1:=(mI p q).2 h
   rw[if_neg (by omega),ih]
   unfold Asc
   rw[List.pairwise_cons (a:=p)]
   refine ⟨fun h2=>⟨fun x hx=>?_,h2⟩,fun h2=>h2.2⟩
   rcases List.mem_cons.1 hx with rfl | hx
   ·exact h
   ·exact ltT h ((List.pairwise_cons.1 h2).1 x hx)
  ·have h1:¬cmpR p q<0:=fun h2=>h ((mI p q).1 h2)
   rw[if_pos (by omega)]
   refine ⟨fun h2=>absurd h2 (by decide),fun h2=>absurd ((List.pairwise_cons.1 h2).1 q (List.mem_cons_self ..)) h⟩
theorem aOe {k:Nat} (hk:0<k∧k≤150) (qs:List Rat) (hq:∀q∈qs,Sz k q):ckF (qs.map numS)=0↔Asc qs:=by
 cases qs with
 | nil=>simp[ckF,Asc]
 | cons q qs=>
  have hq1:=hq q (List.mem_cons_self ..)
  have e1:=hZ hq1 ⟨hk.1,by omega⟩
  simp only[List.map_cons,qR]
  rw[if_neg (fun h=>h e1)]
  exact aIb hk qs hq1 fun x hx=>hq x (List.mem_cons_of_mem _ hx)
theorem aIc:∀ {l:List (List UInt8)} {p:List UInt8},ckG p l=0→∀a∈l,chkQ a=0
 | [],_,_,a,ha=>by simp at ha
 | x::r,p,h,a,ha=>by
  unfold ckG at h
  split at h
  ·rename_i h1;exact absurd h h1
  rename_i h1
  split at h
  ·rename_i h2;exact absurd h h2
  split at h
  ·exact absurd h (by decide)
  rcases List.mem_cons.1 ha with rfl | ha
  ·exact Classical.not_not.1 h1
  ·exact aIc h a ha
theorem aOf {l:List (List UInt8)} (h:ckF l=0):∀a∈l,chkQ a=0:=by
 cases l with
 | nil=>intro a ha;simp at ha
 | cons x r=>
  rw[qR] at h
  split at h
  ·rename_i h1;exact absurd h h1
  rename_i h1
  intro a ha
  rcases List.mem_cons.1 ha with rfl | ha
  ·exact Classical.not_not.1 h1
  ·exact aIc h a ha
theorem aGr {l:List (List UInt8)} (h:ckS l=0):l.length≤4096∧ckF l=0:=by
 unfold ckS at h
 split at h
 ·exact absurd h (by decide)
 ·exact ⟨by omega,h⟩
theorem aId {k:Nat} (hk:0<k):∀ {l:List (List UInt8)},(∀a∈l,a.length≤k∧chkQ a=0)→∃qs:List Rat,l=qs.map numS∧∀q∈qs,Sz k q
 | [],_=>⟨[],rfl,fun q hq=>by simp at hq⟩
 | a::r,h=>by
  obtain ⟨qs,h1,h2⟩:=aId hk (l:=r) fun x hx=>h x (List.mem_cons_of_mem _ hx)
  have ha:=h a (List.mem_cons_self ..)
  obtain ⟨e,z⟩:=rK ha.1 ha.2 hk
  refine ⟨valQ a::qs,by rw[List.map_cons,← e,← h1],fun q hq=>?_⟩
  rcases List.mem_cons.1 hq with rfl | hq
  ·exact z
  ·exact h2 q hq
def Wt (k:Nat) (q:Rat):Prop:=q.num.natAbs*q.den<10^k
theorem wt_of {a:List UInt8} {k:Nat} (h1:a.length≤k) (h2:chkQ a=0):Wt k (valQ a):=by
 obtain ⟨e,_,_⟩:=qY h2
 rw[e] at h1
 unfold numS at h1
 have h5:(decDigits (valQ a).num.natAbs).length≤(itoa (valQ a).num).length:=by
  unfold itoa
  split
  ·simp
  ·rw[show (valQ a).num.toNat=(valQ a).num.natAbs by omega];exact Nat.le_refl _
 have h6:=iF (Nat.le_refl (decDigits (valQ a).num.natAbs).length)
 unfold Wt
 split at h1
 ·rename_i e1
  rw[e1,Nat.mul_one]
  exact Nat.lt_of_lt_of_le h6 (dK (by omega))
 ·have h7:=iF (Nat.le_refl (decDigits (valQ a).den).length)
  simp at h1
  have h8:=Nat.mul_lt_mul'' h6 h7
  rw[← Nat.pow_add] at h8
  exact Nat.lt_of_lt_of_le h8 (dK (by omega))
theorem oD (n:Int) {d:Nat} (hd:d≠0):(mkRat n d).num.natAbs≤n.natAbs∧(mkRat n d).den≤d:=by
 rw[Rat.num_mkRat,if_neg hd,Rat.den_mkRat,if_neg hd]
 exact ⟨kH _ _,Nat.div_le_self _ _⟩
theorem Wt.sub {p q:Rat} {k:Nat} (hp:Wt k p) (hq:Wt k q) (sp:p.den<10^k) (sq:q.den<10^k):Wt (3*k+1) (p-q):=by
 unfold Wt at hp hq ⊢
 rw[oF]
 obtain ⟨h1,h2⟩:=oD (p.num*q.den-q.num*p.den) (pV p q)
 refine Nat.lt_of_le_of_lt (Nat.mul_le_mul h1 h2) ?_
 have e1:(p.num*q.den-q.num*p.den).natAbs≤p.num.natAbs*q.den+q.num.natAbs*p.den:=by
  refine Nat.le_trans (Int.natAbs_sub_le _ _) ?_
  rw[Int.natAbs_mul,Int.natAbs_mul,Int.natAbs_natCast,Int.natAbs_natCast]
  exact Nat.le_refl _
 refine Nat.lt_of_le_of_lt (Nat.mul_le_mul_right _ e1) ?_
 have e2:(p.num.natAbs*q.den+q.num.natAbs*p.den)*(p.den*q.den)=(p.num.natAbs*p.den)*(q.den*q.den)+(q.num.natAbs*q.den)*(p.den*p.den):=by
  rw[Nat.add_mul]
  congr 1<;>ac_rfl
 rw[e2]
 have a1:(p.num.natAbs*p.den)*(q.den*q.den)<10^k*(10^k*10^k):=Nat.mul_lt_mul'' hp (Nat.mul_lt_mul'' sq sq)
 have a2:(q.num.natAbs*q.den)*(p.den*p.den)<10^k*(10^k*10^k):=Nat.mul_lt_mul'' hq (Nat.mul_lt_mul'' sp sp)
 have e3:10^ (3*k+1)=10*(10^k*(10^k*10^k)):=by
  rw[← Nat.pow_add,← Nat.pow_add,Nat.pow_succ,Nat.mul_comm]
  congr 2;omega
 rw[e3]
 omega
theorem nE {qs:List Rat} {i:Nat} (h:i<qs.length):(qs.map numS).getD i []=numS (qs.getD i 0):=by
 simp[List.getD_eq_getElem?_getD,h]
theorem jP {α:Type} {l:List α} {i:Nat} {d:α} (h:i<l.length):l.getD i d∈l:=by
 simp[List.getD_eq_getElem?_getD,h]
def rgP (a b:List UInt8):Prop:=(cmpQ a b).2=0∧(cmpQ a b).1≤0
noncomputable instance (a b:List UInt8):Decidable (rgP a b):=Classical.propDecidable _
theorem uD {a b:List UInt8} (h:rgP a b):chkQ a=0∧chkQ b=0:=by
 have h1:=h.1
 unfold cmpQ at h1
 split at h1
 ·rename_i h2;exact absurd h1 h2
 rename_i h2
 split at h1
 ·rename_i h3;exact absurd h1 h3
 rename_i h3
 exact ⟨Classical.not_not.1 h2,Classical.not_not.1 h3⟩
noncomputable def inR (lo hi a:List UInt8):Bool:=decide ((cmpQ lo a).1≤0∧(cmpQ a hi).1≤0)
theorem aEv {α:Type} (p:α→Bool) {l:List α} {i:Nat} (d:α) (h:i<l.length):(l.take (i+1)).filter p=(l.take i).filter p++(if p (l.getD i d) then [l.getD i d] else []):=by
 have e:l.take (i+1)=l.take i++ [l.getD i d]:=by
  rw[List.take_succ_eq_append_getElem h]
  simp[List.getD_eq_getElem?_getD,h]
 rw[e,List.filter_append]
 by_cases hp:p (l.getD i d)=true
 ·rw[if_pos hp,List.filter_cons_of_pos hp,List.filter_nil]
 ·rw[if_neg hp,List.filter_cons_of_neg hp,List.filter_nil]
theorem aKd {qs:List Rat} (h:Asc qs) (a c:Rat):qs=qs.filter (fun v=>decide (v<a))++(qs.filter (fun v=>decide (a≤v∧v≤c))++qs.filter (fun v=>decide (a≤v∧c<v))):=by
 induction qs with
 | nil=>rfl
 | cons x r ih=>
  have h1:=List.pairwise_cons.1 h
  have ih:=ih h1.2
  by_cases hx:x<a
  ·have n1:¬a≤x:=Rat.not_le.2 hx
   rw[List.filter_cons_of_pos (by simpa using hx),List.filter_cons_of_neg (by simp[n1]),List.filter_cons_of_neg (by simp[n1]),List.cons_append,← ih]
  ·have hx':a≤x:=Rat.not_lt.1 hx
   have e1:r.filter (fun v=>decide (v<a))= []:=List.filter_eq_nil_iff.2 fun v hv=>by
    have:=h1.1 v hv
    simp only[decide_eq_true_eq]
    exact Rat.not_lt.2 (Rat.le_trans hx' (Rat.le_of_lt this))
   rw[List.filter_cons_of_neg (by simpa using hx),e1,List.nil_append]
   rw[e1,List.nil_append] at ih
   by_cases hc:x≤c
   ·rw[List.filter_cons_of_pos (by simp[hx',hc]),List.filter_cons_of_neg (by simp[Rat.not_lt.2 hc]),List.cons_append,← ih]
   ·have hc':=Rat.not_le.1 hc
    have e2:r.filter (fun v=>decide (a≤v∧v≤c))= []:=List.filter_eq_nil_iff.2 fun v hv=>by
     have:=h1.1 v hv
     simp only[decide_eq_true_eq,not_and]
     exact fun _=>Rat.not_le.2 (ltT hc' this)
    rw[List.filter_cons_of_neg (by simp[hc]),e2,List.nil_append,List.filter_cons_of_pos (by simp[hx',hc'])]
    rw[e2,List.nil_append] at ih
    rw[← ih]
def flI (q:Rat):Int:=q.num/(q.den:Int)
theorem pP (q:Rat):((flI q:Int):Rat)≤q:=by
 rw[Rat.le_iff,Rat.num_intCast,Rat.den_intCast]
 have:=aNt q
 unfold flI
 simpa using this
theorem nF (q:Rat):q<((flI q+1:Int):Rat):=by
 rw[Rat.lt_iff,Rat.num_intCast,Rat.den_intCast]
 have:=aNu q
 unfold flI
 simpa using this
theorem aL7 (q:Rat):itoa (flI q)=numS q↔((flI q:Int):Rat)=q:=by
 rw[← eO]
 exact ⟨fun h=>qX h,fun h=>by rw[h]⟩
def clI (q:Rat):Int:=if ((flI q:Int):Rat)=q then flI q else flI q+1
theorem aL8 (q:Rat):q≤((clI q:Int):Rat):=by
 unfold clI
 split
 ·rename_i h;rw[h];exact Rat.le_refl
 ·exact Rat.le_of_lt (nF q)
theorem aQc (q:Rat):((clI q-1:Int):Rat)<q:=by
 unfold clI
 split
 ·rename_i h
  have e:((flI q-1:Int):Rat)=((flI q:Int):Rat)-1:=by rw[Rat.intCast_sub];rfl
  rw[e,h]
  exact Rat.sub_lt_iff.2 (by grind)
 ·rename_i h
  rw[show flI q+1-1=flI q by omega]
  exact Rat.not_le.1 fun h'=>h (Rat.le_antisymm (pP q) h')
theorem aOi {q:Rat} (h:0<q):0<clI q:=by
 have h1:=aL8 q
 have h2:(0:Rat)<((clI q:Int):Rat):=Rat.not_le.1 fun h'=>Rat.not_le.2 h (Rat.le_trans h1 h')
 exact Rat.intCast_pos.1 h2
def gQ (lo hi most:Rat):Rat:=(hi-lo)/(clI ((hi-lo)/most):Int)
def evR (lo hi most:Rat):List Rat:=(List.range ((clI ((hi-lo)/most)).toNat+1)).map fun (i:Nat)=>lo+gQ lo hi most*((i:Int):Rat)
section
variable {lo hi most:Rat}
theorem aL9 {a b:Rat} (ha:0<a) (hb:0<b):0<a/b:=by
 have e:a/b*b=a:=Rat.div_mul_cancel (by grind)
 refine Rat.not_le.1 fun h=>?_
 have:=Rat.mul_le_mul_of_nonneg_right (c:=b) h (Rat.le_of_lt hb)
 rw[e,Rat.zero_mul] at this
 exact Rat.not_le.2 ha this
theorem aQd (h:lo<hi) (hm:0<most):0<clI ((hi-lo)/most):=aOi (aL9 (by grind) hm)
end
section
variable {α:Type} [DecidableEq α]
def cpt:List α→List α
 | []=>[]
 | [x]=>[x]
 | x::y::r=>if x=y then cpt (y::r) else x::cpt (y::r)
theorem aGs {x:α} {s:List α} (h:∀y∈s,x≠y):cpt (x::s)=x::cpt s:=by
 cases s with
 | nil=>rfl
 | cons y r=>rw[cpt,if_neg (h y (List.mem_cons_self ..))]
theorem aQe (x:α) (s:List α):cpt (x::x::s)=cpt (x::s):=by rw[cpt,if_pos rfl]
end
theorem aIf:∀(qs:List Rat),cpt (qs.map numS)=(cpt qs).map numS
 | []=>rfl
 | [x]=>rfl
 | x::y::r=>by
  simp only[List.map_cons]
  rw[cpt,cpt]
  have ih:=aIf (y::r)
  simp only[List.map_cons] at ih
  by_cases h:x=y
  ·subst h
   rw[if_pos rfl,if_pos rfl,ih]
  ·rw[if_neg (fun e=>h (qX e)),if_neg h,ih];rfl
abbrev Fr (a b:Rat) (qs:List Rat):List Rat:=qs.filter (fun v=>decide (a≤v∧v≤b))
theorem aCg (a b x:Rat) (r:List Rat):Fr a b (x::r)=if a≤x∧x≤b then x::Fr a b r else Fr a b r:=by
 unfold Fr
 by_cases h:a≤x∧x≤b
 ·rw[if_pos h,List.filter_cons_of_pos (by simpa using h)]
 ·rw[if_neg h,List.filter_cons_of_neg (by simpa using h)]
theorem wP {a b c:Rat} (hab:a≤b) (hbc:b≤c):∀ {qs:List Rat},Asc qs→cpt (Fr a b qs++Fr b c qs)=Fr a c qs
 | [],_=>rfl
 | x::r,h=>by
  have h1:=List.pairwise_cons.1 h
  have ih:=wP hab hbc h1.2
  rw[aCg,aCg,aCg]
  by_cases hax:a≤x
  ·by_cases hxb:x≤b
   ·have hxc:=Rat.le_trans hxb hbc
    rw[if_pos (show a≤x∧x≤b from ⟨hax,hxb⟩),if_pos (show a≤x∧x≤c from ⟨hax,hxc⟩)]
    by_cases hbx:b≤x
    ·have hx:x=b:=Rat.le_antisymm hxb hbx
     rw[if_pos (show b≤x∧x≤c from ⟨hbx,hxc⟩)]
     have e1:Fr a b r= []:=List.filter_eq_nil_iff.2 fun v hv=>by
      have:=h1.1 v hv
      simp only[decide_eq_true_eq,not_and]
      exact fun _=>Rat.not_le.2 (hx ▸ this)
     rw[e1,List.nil_append] at ih
     rw[e1,List.singleton_append,aQe,aGs,ih]
     intro y hy e
     have:=h1.1 y (List.mem_filter.1 hy).1
     exact Rat.lt_irrefl (e ▸ this)
    ·rw[if_neg (show ¬(b≤x∧x≤c) from fun h=>hbx h.1),List.cons_append,aGs,ih]
     intro y hy e
     have hy':y∈r:=by
      rcases List.mem_append.1 hy with h | h
      ·exact (List.mem_filter.1 h).1
      ·exact (List.mem_filter.1 h).1
     exact Rat.lt_irrefl (e ▸ h1.1 y hy')
   ·have hbx:=Rat.not_le.1 hxb
    have e1:Fr a b r= []:=List.filter_eq_nil_iff.2 fun v hv=>by
     have:=h1.1 v hv
     simp only[decide_eq_true_eq,not_and]
     exact fun _=>Rat.not_le.2 (ltT hbx this)
    rw[e1,List.nil_append] at ih
    rw[if_neg (show ¬(a≤x∧x≤b) from fun h=>hxb h.2),e1,List.nil_append]
    by_cases hxc:x≤c
    ·rw[if_pos (show b≤x∧x≤c from ⟨Rat.le_of_lt hbx,hxc⟩),if_pos (show a≤x∧x≤c from ⟨hax,hxc⟩),aGs,ih]
     intro y hy e
     exact Rat.lt_irrefl (e ▸ h1.1 y (List.mem_filter.1 hy).1)
    ·rw[if_neg (show ¬(b≤x∧x≤c) from fun h=>hxc h.2),if_neg (show ¬(a≤x∧x≤c) from fun h=>hxc h.2),ih]
  ·have hbx:¬b≤x:=fun h=>hax (Rat.le_trans hab h)
   rw[if_neg (show ¬(a≤x∧x≤b) from fun h=>hax h.1),if_neg (show ¬(b≤x∧x≤c) from fun h=>hbx h.1),if_neg (show ¬(a≤x∧x≤c) from fun h=>hax h.1),ih]
def aV (L O S:Rat):Int:=flI ((O-L)/S)
def cQ (H O S:Rat):Int:=flI ((H-O)/S)
def cJ (L O S:Rat):Rat:=O-((aV L O S:Int):Rat)*S
def eB (L H O S:Rat):Int:=aV L O S+cQ H O S+1
def atR (L H O S:Rat):List Rat:=(List.range (eB L H O S).toNat).map fun (i:Nat)=>cJ L O S+S*((i:Int):Rat)
theorem aMa {n:Int} {q:Rat}:(n:Rat)≤q↔n≤flI q:=by
 constructor
 ·intro h
  have h1:=nF q
  have h2:(n:Rat)<((flI q+1:Int):Rat):=Rat.not_le.1 fun h'=>Rat.not_le.2 h1 (Rat.le_trans h' h)
  have:=Rat.intCast_lt_intCast.1 h2
  omega
 ·intro h
  exact Rat.le_trans (Rat.intCast_le_intCast.2 h) (pP q)
theorem jQ {a b s:Rat} (hs:0<s):a≤b/s↔a*s≤b:=by
 have e:b/s*s=b:=Rat.div_mul_cancel (by grind)
 constructor
 ·intro h
  have:=Rat.mul_le_mul_of_nonneg_right (c:=s) h (Rat.le_of_lt hs)
  rwa [e] at this
 ·intro h
  refine Rat.not_lt.1 fun hlt=>?_
  have:=Rat.mul_lt_mul_of_pos_right hlt hs
  rw[e] at this
  exact Rat.not_le.2 this h
theorem at_in {L H O S:Rat} (hs:0<S) (i:Nat):cJ L O S+S*((i:Int):Rat)≤H↔(i:Int)<eB L H O S:=by
 have e1:((i:Int)-aV L O S)≤flI ((H-O)/S)↔(((i:Int)-aV L O S:Int):Rat)*S≤H-O:=by rw[← aMa,jQ hs]
 have e2:(((i:Int)-aV L O S:Int):Rat)=((i:Int):Rat)-((aV L O S:Int):Rat):=Rat.intCast_sub _ _
 rw[e2] at e1
 have e3:(((i:Int):Rat)-((aV L O S:Int):Rat))*S≤H-O↔cJ L O S+S*((i:Int):Rat)≤H:=by
  unfold cJ
  rw[Rat.le_iff_sub_nonneg,Rat.le_iff_sub_nonneg (a:=O- _+ _)]
  have:H-O-(((i:Int):Rat)-((aV L O S:Int):Rat))*S=H-(O-((aV L O S:Int):Rat)*S+S*((i:Int):Rat)):=by grind
  rw[this]
 rw[← e3,← e1]
 unfold eB cQ
 omega
theorem aGt {L O S:Rat} (hs:0<S):L≤cJ L O S∧cJ L O S<L+S:=by
 have h1:((aV L O S:Int):Rat)≤(O-L)/S:=pP _
 rw[jQ hs] at h1
 have h2:¬((aV L O S+1:Int):Rat)≤(O-L)/S:=Rat.not_le.2 (nF _)
 rw[jQ hs] at h2
 have e:((aV L O S+1:Int):Rat)=((aV L O S:Int):Rat)+1:=Rat.intCast_add _ _
 rw[e] at h2
 have h2:=Rat.not_le.1 h2
 unfold cJ
 generalize ((aV L O S:Int):Rat)=k at*
 constructor
 ·rw[Rat.le_iff_sub_nonneg] at h1 ⊢
  have:O-k*S-L=O-L-k*S:=by grind
  rwa [this]
 ·rw[Rat.lt_iff_sub_pos] at h2 ⊢
  have:L+S-(O-k*S)=(k+1)*S-(O-L):=by grind
  rwa [this]
section
variable {p q:Rat} {k:Nat}
theorem lV {a b:Nat} (hb:b≠0):a≤a*b:=Nat.le_mul_of_pos_right a (Nat.pos_of_ne_zero hb)
theorem aEw (h1:p.num.natAbs*q.den<10^k) (h2:q.num.natAbs*p.den<10^k) (h3:p.den*q.den<10^k):Sz k p∧Sz k q:=by
 have n1:=q.den_nz
 have n2:=p.den_nz
 exact ⟨⟨Nat.lt_of_le_of_lt (lV n1) h1,Nat.lt_of_le_of_lt (lV n1) h3⟩,⟨Nat.lt_of_le_of_lt (lV n2) h2,Nat.lt_of_le_of_lt (by rw[Nat.mul_comm];exact lV n2) h3⟩⟩
theorem aGu (hk:0<k∧k+1≤300) (h1:p.num.natAbs*q.den<10^k) (h2:q.num.natAbs*p.den<10^k) (h3:p.den*q.den<10^k):addQ (numS p) (numS q)=(numS (p+q),0):=by
 obtain ⟨zp,zq⟩:=aEw h1 h2 h3
 have e1:(p.num*q.den).natAbs<10^k:=by rw[Int.natAbs_mul,Int.natAbs_natCast];exact h1
 have e2:(q.num*p.den).natAbs<10^k:=by rw[Int.natAbs_mul,Int.natAbs_natCast];exact h2
 unfold addQ
 rw[mH zp zq ⟨hk.1,by omega⟩ ⟨hk.1,by omega⟩,if_neg]
 simp only[Bool.or_eq_true,not_or,Bool.not_eq_true]
 exact ⟨⟨⟨bL ⟨hk.1,by omega⟩ e1,bL ⟨hk.1,by omega⟩ e2⟩,bL (k:=k+1) ⟨by omega,hk.2⟩ (fV e1 e2).1⟩,bL ⟨hk.1,by omega⟩ (by rw[← Int.natCast_mul,Int.natAbs_natCast];exact h3)⟩
theorem aQf (hk:0<k∧k+1≤300) (h1:p.num.natAbs*q.den<10^k) (h2:q.num.natAbs*p.den<10^k) (h3:p.den*q.den<10^k):subQ (numS p) (numS q)=(numS (p-q),0):=by
 obtain ⟨zp,zq⟩:=aEw h1 h2 h3
 have e1:(p.num*q.den).natAbs<10^k:=by rw[Int.natAbs_mul,Int.natAbs_natCast];exact h1
 have e2:(q.num*p.den).natAbs<10^k:=by rw[Int.natAbs_mul,Int.natAbs_natCast];exact h2
 unfold subQ
 rw[mH zp zq ⟨hk.1,by omega⟩ ⟨hk.1,by omega⟩,if_neg]
 simp only[Bool.or_eq_true,not_or,Bool.not_eq_true]
 exact ⟨⟨⟨bL ⟨hk.1,by omega⟩ e1,bL ⟨hk.1,by omega⟩ e2⟩,bL (k:=k+1) ⟨by omega,hk.2⟩ (fV e1 e2).2⟩,bL ⟨hk.1,by omega⟩ (by rw[← Int.natCast_mul,Int.natAbs_natCast];exact h3)⟩
theorem aQg (hk:0<k∧k≤300) (zp:Sz k p) (zq:Sz k q) (h1:p.num.natAbs*q.num.natAbs<10^k) (h3:p.den*q.den<10^k):mulQ (numS p) (numS q)=(numS (p*q),0):=by
 unfold mulQ
 rw[mH zp zq hk hk,if_neg]
 simp only[Bool.or_eq_true,not_or,Bool.not_eq_true]
 exact ⟨bL hk (by rw[Int.natAbs_mul];exact h1),bL hk (by rw[← Int.natCast_mul,Int.natAbs_natCast];exact h3)⟩
theorem aQh (p q:Rat):cmpI (p.num*q.den) (q.num*p.den)=cmpR p q:=by
 unfold cmpI cmpR
 by_cases h1:p<q
 ·rw[if_pos h1,if_pos ((Rat.lt_iff p q).1 h1)]
 ·rw[if_neg h1,if_neg (fun h=>h1 ((Rat.lt_iff p q).2 h))]
  by_cases h2:q<p
  ·have:=(Rat.lt_iff q p).1 h2
   rw[if_pos h2,if_neg (by omega)]
  ·have h3:¬q.num*p.den<p.num*q.den:=fun h=>h2 ((Rat.lt_iff q p).2 h)
   have h4:¬p.num*q.den<q.num*p.den:=fun h=>h1 ((Rat.lt_iff p q).2 h)
   rw[if_neg h2,if_pos (by omega)]
theorem aMb (hk:0<k∧k≤300) (zp:Sz k p) (zq:Sz k q) (h1:p.num.natAbs*q.den<10^k) (h2:q.num.natAbs*p.den<10^k):cmpQ (numS p) (numS q)=(cmpR p q,0):=by
 have e1:(p.num*q.den).natAbs<10^k:=by rw[Int.natAbs_mul,Int.natAbs_natCast];exact h1
 have e2:(q.num*p.den).natAbs<10^k:=by rw[Int.natAbs_mul,Int.natAbs_natCast];exact h2
 unfold cmpQ
 rw[if_neg (by rw[hZ zp hk];simp),if_neg (by rw[hZ zq hk];simp),cC,cC]
 unfold cmpf
 rw[if_neg]
 ·rw[aQh]
 simp only[Bool.or_eq_true,not_or,Bool.not_eq_true]
 exact ⟨bL hk e1,bL hk e2⟩
end
theorem aCh (q:Rat):((q.num:Int):Rat)=q*((q.den:Nat):Rat):=by
 have h:((q.den:Nat):Rat)≠0:=by
  have:=q.den_pos
  have:=Rat.natCast_pos.2 this
  exact fun e=>Rat.lt_irrefl (e ▸ this)
 have e:q=(q.num:Rat)/((q.den:Nat):Rat):=by
  conv=>lhs;rw[← Rat.mkRat_self q,Rat.mkRat_eq_div]
 conv=>rhs;lhs;rw[e]
 rw[Rat.div_mul_cancel h]
theorem lW (q:Rat):(0:Rat)≤((q.den:Nat):Rat):=Rat.natCast_nonneg
theorem aMc {x H S:Rat} (c:Nat) (h:x≤H+(c:Rat)*S):x.num*(H.den*S.den:Nat)≤(H.num*S.den+c*S.num*H.den)*x.den:=by
 apply Rat.intCast_le_intCast.1
 simp only[Rat.intCast_mul,Rat.intCast_add,Rat.intCast_natCast,Rat.natCast_mul,aCh]
 have:=Rat.mul_le_mul_of_nonneg_right (c:=((x.den:Nat):Rat)*(((H.den:Nat):Rat)*((S.den:Nat):Rat))) h (Rat.mul_nonneg (lW x) (Rat.mul_nonneg (lW H) (lW S)))
 grind
theorem aQi {x H S:Rat} (c:Nat) (h:H-(c:Rat)*S≤x):(H.num*S.den-c*S.num*H.den)*x.den≤x.num*(H.den*S.den:Nat):=by
 apply Rat.intCast_le_intCast.1
 simp only[Rat.intCast_mul,Rat.intCast_sub,Rat.intCast_natCast,Rat.natCast_mul,aCh]
 have:=Rat.mul_le_mul_of_nonneg_right (c:=((x.den:Nat):Rat)*(((H.den:Nat):Rat)*((S.den:Nat):Rat))) h (Rat.mul_nonneg (lW x) (Rat.mul_nonneg (lW H) (lW S)))
 grind
def Lm (l:List (List UInt8)):Prop:=∀a∈l,chkQ a=0→a.length≤82
theorem Lm.at {l:List (List UInt8)} (h:Lm l) {i:Nat} (hi:i<l.length) (hk:chkQ (l.getD i [])=0):(l.getD i []).length≤82:=h _ (jP hi) hk
theorem qU {a:List UInt8} (h1:chkQ a=0) (h2:a.length≤82):a=numS (valQ a)∧Sz 82 (valQ a)∧Wt 82 (valQ a):=by
 obtain ⟨e,z⟩:=rK h2 h1 (by decide)
 exact ⟨e,z,wt_of h2 h1⟩
theorem aMd {a b:List UInt8} (h1:chkQ a=0) (h2:a.length≤82) (h3:chkQ b=0) (h4:b.length≤82):cmpQ a b=(cmpR (valQ a) (valQ b),0):=by
 obtain ⟨e1,z1,_⟩:=qU h1 h2
 obtain ⟨e2,z2,_⟩:=qU h3 h4
 conv=>lhs;rw[e1,e2]
 exact nM z1 z2 (by decide) (by decide) (by decide)
noncomputable def wiS (l:List (List UInt8)) (lo hi:List UInt8):List (List UInt8) × Int:=if ckS l≠0∨¬rgP lo hi then ([],1) else (l.filter (inR lo hi),0)
theorem bt2 {A B D l h s t N:Nat} (hl:0<l) (hD:1≤D) (hDt:D*t≤100*(s*l*h)) (hB:B*l≤D+A*h) (h1:A*l<N) (h2:B*h<N) (h3:s*t<N):B*(t*t)≤200*(N*N)*h:=by
 have hN:1≤N:=by omega
 by_cases hc:2*(A*h)≤B*l
 ·have e1:B*l≤2*D:=by omega
  have e2:(B*l)*t≤(2*D)*t:=Nat.mul_le_mul_right _ e1
  have e3:(2*D)*t=2*(D*t):=Nat.mul_assoc ..
  have e4:(B*t)*l≤(200*(s*h))*l:=by
   have e5:(B*t)*l=(B*l)*t:=by ac_rfl
   have e6:(200*(s*h))*l=200*(s*l*h):=by ac_rfl
   rw[e5,e6];omega
  have e7:B*t≤200*(s*h):=Nat.le_of_mul_le_mul_right e4 hl
  have e8:(B*t)*t≤(200*(s*h))*t:=Nat.mul_le_mul_right _ e7
  have e9:(200*(s*h))*t=200*((s*t)*h):=by ac_rfl
  have e10:(s*t)*h≤(N*N)*h:=Nat.mul_le_mul_right _ (Nat.le_trans (Nat.le_of_lt h3) (Nat.le_mul_of_pos_right N hN))
  have e11:200*(N*N)*h=200*((N*N)*h):=Nat.mul_assoc ..
  have e12:B*(t*t)=(B*t)*t:=(Nat.mul_assoc ..).symm
  omega
 ·have q:B*l<2*N:=by
   refine Nat.lt_of_not_le fun hq=>?_
   have f1:(2*N)*(2*N)≤(B*l)*(B*l):=Nat.mul_le_mul hq hq
   have f2:(B*l)*(B*l)≤(B*l)*(2*(A*h)):=Nat.mul_le_mul_left _ (by omega)
   have f3:(B*l)*(2*(A*h))=2*((B*h)*(A*l)):=by ac_rfl
   have f4:(B*h)*(A*l)≤N*N:=Nat.mul_le_mul (Nat.le_of_lt h2) (Nat.le_of_lt h1)
   have f5:(2*N)*(2*N)=4*(N*N):=by rw[show 4=2*2 from rfl];ac_rfl
   have f6:1*1≤N*N:=Nat.mul_le_mul hN hN
   omega
  have g1:t≤D*t:=Nat.le_mul_of_pos_left t hD
  have g2:(B*t)*t≤(B*t)*(100*(s*l*h)):=Nat.mul_le_mul_left _ (Nat.le_trans g1 hDt)
  have g3:(B*t)*(100*(s*l*h))=100*(((s*t)*(B*l))*h):=by ac_rfl
  have g4:(s*t)*(B*l)≤N*(2*N):=Nat.mul_le_mul (Nat.le_of_lt h3) (Nat.le_of_lt q)
  have g5:((s*t)*(B*l))*h≤(N*(2*N))*h:=Nat.mul_le_mul_right _ g4
  have g6:(N*(2*N))*h=2*((N*N)*h):=by ac_rfl
  have g7:200*(N*N)*h=200*((N*N)*h):=Nat.mul_assoc ..
  have g8:B*(t*t)=(B*t)*t:=(Nat.mul_assoc ..).symm
  omega
abbrev N82:Nat:=10^82
structure AtH (L H O S:Rat):Prop where
 wL:Wt 82 L
 wH:Wt 82 H
 wS:Wt 82 S
 zL:Sz 82 L
 zH:Sz 82 H
 zO:Sz 82 O
 zS:Sz 82 S
 le:L≤H
 pos:0<S
 few:H≤L+((100:Nat):Rat)*S
section
variable {L H O S:Rat}
theorem qS {q:Rat} (h:0<q):0<q.num:=by
 have:=(Rat.lt_iff 0 q).1 h
 simpa using this
theorem AtH.t2 (h:AtH L H O S) (hlt:L<H):H.num.natAbs*(S.den*S.den)≤200*(N82*N82)*H.den∧L.num.natAbs*(S.den*S.den)≤200*(N82*N82)*L.den:=by
 have hs:=qS h.pos
 have h1:=(Rat.lt_iff L H).1 hlt
 have h2:=aMc 100 h.few
 have hl:=L.den_pos
 have hh:=H.den_pos
 have eX:(H.num*L.den).natAbs=H.num.natAbs*L.den:=by rw[Int.natAbs_mul,Int.natAbs_natCast]
 have eY:(L.num*H.den).natAbs=L.num.natAbs*H.den:=by rw[Int.natAbs_mul,Int.natAbs_natCast]
 obtain ⟨D,hD⟩:∃D:Nat,(D:Int)=H.num*L.den-L.num*H.den:=⟨(H.num*L.den-L.num*H.den).toNat,by omega⟩
 have hD1:1≤D:=by omega
 have hDt:D*S.den≤100*(S.num.natAbs*L.den*H.den):=by
  have es:((S.num.natAbs:Nat):Int)=S.num:=by omega
  have:((D*S.den:Nat):Int)≤((100*(S.num.natAbs*L.den*H.den):Nat):Int):=by
   push_cast
   rw[es,hD]
   push_cast at h2
   grind
  exact Int.ofNat_le.1 this
 have b1:H.num.natAbs*L.den≤D+L.num.natAbs*H.den:=by rw[← eX,← eY];omega
 have b2:L.num.natAbs*H.den≤D+H.num.natAbs*L.den:=by rw[← eX,← eY];omega
 refine ⟨bt2 hl hD1 hDt b1 h.wL h.wH h.wS,bt2 hh hD1 (Nat.le_trans hDt (Nat.le_of_eq (by ac_rfl))) b2 h.wH h.wL h.wS⟩
theorem AtH.xt (h:AtH L H O S) {x:Rat} (h1:L≤x) (h2:x≤H) (hd:x.den≤O.den*S.den):x.num.natAbs*S.den<10^250:=by
 have ho:=h.zO.2
 by_cases hlt:L<H
 ·obtain ⟨tH,tL⟩:=h.t2 hlt
  have key:∀ {q:Rat},q.num.natAbs*(S.den*S.den)≤200*(N82*N82)*q.den→x.num.natAbs*q.den≤q.num.natAbs*x.den→x.num.natAbs*S.den≤200*(N82*N82)*O.den:=fun {q} t e=>by
   have f1:q.num.natAbs*x.den≤q.num.natAbs*(O.den*S.den):=Nat.mul_le_mul_left _ hd
   have f2:(x.num.natAbs*q.den)*S.den≤(q.num.natAbs*(O.den*S.den))*S.den:=Nat.mul_le_mul_right _ (Nat.le_trans e f1)
   have f3:(q.num.natAbs*(O.den*S.den))*S.den=O.den*(q.num.natAbs*(S.den*S.den)):=by ac_rfl
   have f4:O.den*(q.num.natAbs*(S.den*S.den))≤O.den*(200*(N82*N82)*q.den):=Nat.mul_le_mul_left _ t
   have f5:(x.num.natAbs*S.den)*q.den≤(200*(N82*N82)*O.den)*q.den:=by
    have f6:(x.num.natAbs*S.den)*q.den=(x.num.natAbs*q.den)*S.den:=by ac_rfl
    have f7:(200*(N82*N82)*O.den)*q.den=O.den*(200*(N82*N82)*q.den):=by ac_rfl
    rw[f6,f7]
    exact Nat.le_trans f2 (by rw[f3];exact f4)
   exact Nat.le_of_mul_le_mul_right f5 q.den_pos
  have e1:=(Rat.le_iff L x).1 h1
  have e2:=(Rat.le_iff x H).1 h2
  have hb:x.num.natAbs*S.den≤200*(N82*N82)*O.den:=by
   by_cases hx:0≤x.num
   ·refine key tH ?_
    have a1:(x.num*H.den).natAbs=x.num.natAbs*H.den:=by rw[Int.natAbs_mul,Int.natAbs_natCast]
    have a2:(H.num*x.den).natAbs=H.num.natAbs*x.den:=by rw[Int.natAbs_mul,Int.natAbs_natCast]
    have a3:0≤x.num*H.den:=Int.mul_nonneg hx (by omega)
    rw[← a1,← a2];omega
   ·refine key tL ?_
    have a1:(x.num*L.den).natAbs=x.num.natAbs*L.den:=by rw[Int.natAbs_mul,Int.natAbs_natCast]
    have a2:(L.num*x.den).natAbs=L.num.natAbs*x.den:=by rw[Int.natAbs_mul,Int.natAbs_natCast]
    have a3:x.num*L.den≤0:=Int.mul_nonpos_of_nonpos_of_nonneg (by omega) (by omega)
    rw[← a1,← a2];omega
  refine Nat.lt_of_le_of_lt (Nat.le_trans hb (Nat.mul_le_mul_left _ (Nat.le_of_lt ho))) ?_
  decide
 ·have e:x=L:=Rat.le_antisymm (Rat.le_trans h2 (Rat.not_lt.1 hlt)) h1
  rw[e]
  refine Nat.lt_of_lt_of_le (Nat.mul_lt_mul'' h.zL.1 h.zS.2) ?_
  decide
theorem AtH.xh (h:AtH L H O S) {x:Rat} (h1:L≤x) (h2:x≤H+((100:Nat):Rat)*S) (hd:x.den≤O.den*S.den):x.num.natAbs*H.den<10^250:=by
 have hs:=qS h.pos
 have h1':H-((100:Nat):Rat)*S≤x:=by have:=h.few;grind
 have e1:=aMc 100 h2
 have e2:=aQi 100 h1'
 have ho:=h.zO.2
 have es:((S.num.natAbs:Nat):Int)=S.num:=by omega
 have c1:x.num.natAbs*(H.den*S.den)≤(H.num.natAbs*S.den+100*(S.num.natAbs*H.den))*x.den:=by
  have a1:(x.num*(H.den*S.den:Nat)).natAbs=x.num.natAbs*(H.den*S.den):=by rw[Int.natAbs_mul,Int.natAbs_natCast]
  have a2:((((H.num.natAbs*S.den+100*(S.num.natAbs*H.den))*x.den:Nat)):Int)=(H.num.natAbs*S.den)*x.den+(100*S.num*H.den)*x.den:=by
   push_cast
   rw[es]
   grind
  have a3:(H.num*S.den)*x.den≤((H.num.natAbs:Int)*S.den)*x.den:=Int.mul_le_mul_of_nonneg_right (Int.mul_le_mul_of_nonneg_right (by omega) (by omega)) (by omega)
  have a4:(-(H.num.natAbs:Int)*S.den)*x.den≤(H.num*S.den)*x.den:=Int.mul_le_mul_of_nonneg_right (Int.mul_le_mul_of_nonneg_right (by omega) (by omega)) (by omega)
  have a5:(H.num*S.den+(100:Nat)*S.num*H.den)*x.den=(H.num*S.den)*x.den+(100*S.num*H.den)*x.den:=by push_cast;grind
  have a6:(H.num*S.den-(100:Nat)*S.num*H.den)*x.den=(H.num*S.den)*x.den-(100*S.num*H.den)*x.den:=by push_cast;grind
  have a7:(-(H.num.natAbs:Int)*S.den)*x.den= -(((H.num.natAbs:Int)*S.den)*x.den):=by grind
  rw[← a1]
  rw[a5] at e1
  rw[a6] at e2
  omega
 have c2:(x.num.natAbs*H.den)*S.den≤((H.num.natAbs*S.den+100*(S.num.natAbs*H.den))*O.den)*S.den:=by
  have:=Nat.mul_le_mul_left (H.num.natAbs*S.den+100*(S.num.natAbs*H.den)) hd
  have b1:(x.num.natAbs*H.den)*S.den=x.num.natAbs*(H.den*S.den):=Nat.mul_assoc ..
  have b2:((H.num.natAbs*S.den+100*(S.num.natAbs*H.den))*O.den)*S.den=(H.num.natAbs*S.den+100*(S.num.natAbs*H.den))*(O.den*S.den):=Nat.mul_assoc ..
  omega
 have c3:=Nat.le_of_mul_le_mul_right c2 S.den_pos
 have d1:=Nat.mul_lt_mul'' h.zH.1 h.zS.2
 have d2:=Nat.mul_lt_mul'' h.zS.1 h.zH.2
 have d3:H.num.natAbs*S.den+100*(S.num.natAbs*H.den)≤101*(10^82*10^82):=by omega
 refine Nat.lt_of_le_of_lt (Nat.le_trans c3 (Nat.mul_le_mul d3 (Nat.le_of_lt ho))) ?_
 decide
theorem aPv {P Q S:Rat} (zP:Sz 82 P) (zQ:Sz 82 Q) (zS:Sz 82 S) (hS:0<S):(flI ((P-Q)/S)).natAbs*S.num.natAbs<10^165:=by
 have hs:=qS hS
 have es:((S.num.natAbs:Nat):Int)=S.num:=by omega
 have k1:((flI ((P-Q)/S):Int):Rat)*S≤P-Q:=(jQ hS).1 (pP _)
 have k2:P-Q≤((flI ((P-Q)/S)+1:Int):Rat)*S:=by
  have:=Rat.le_of_lt (Rat.not_le.1 fun h=>Rat.not_le.2 (nF ((P-Q)/S)) ((jQ hS).2 h))
  exact this
 generalize flI ((P-Q)/S)=k at*
 have hP:=P.den_pos
 have hQ:=Q.den_pos
 have nn:(0:Rat)≤((S.den:Nat):Rat)*(((P.den:Nat):Rat)*((Q.den:Nat):Rat)):=Rat.mul_nonneg (lW S) (Rat.mul_nonneg (lW P) (lW Q))
 have i1:k*S.num*(P.den*Q.den:Nat)≤(P.num*Q.den-Q.num*P.den)*S.den:=by
  apply Rat.intCast_le_intCast.1
  simp only[Rat.intCast_mul,Rat.intCast_sub,Rat.intCast_natCast,Rat.natCast_mul,aCh]
  have:=Rat.mul_le_mul_of_nonneg_right k1 nn
  grind
 have i2:(P.num*Q.den-Q.num*P.den)*S.den≤(k+1)*S.num*(P.den*Q.den:Nat):=by
  apply Rat.intCast_le_intCast.1
  rw[Rat.intCast_mul,Rat.intCast_mul ((k+1)*S.num),Rat.intCast_mul (k+1),Rat.intCast_sub]
  simp only[Rat.intCast_mul,Rat.intCast_natCast,Rat.natCast_mul,aCh]
  have:=Rat.mul_le_mul_of_nonneg_right k2 nn
  grind
 have m1:P.num.natAbs*Q.den≤P.num.natAbs*(P.den*Q.den):=Nat.mul_le_mul_left _ (Nat.le_mul_of_pos_left _ hP)
 have m2:Q.num.natAbs*P.den≤Q.num.natAbs*(P.den*Q.den):=Nat.mul_le_mul_left _ (Nat.le_mul_of_pos_right _ hQ)
 have a1:(P.num*Q.den).natAbs=P.num.natAbs*Q.den:=by rw[Int.natAbs_mul,Int.natAbs_natCast]
 have a2:(Q.num*P.den).natAbs=Q.num.natAbs*P.den:=by rw[Int.natAbs_mul,Int.natAbs_natCast]
 have m3:(P.num*Q.den-Q.num*P.den).natAbs≤(P.num.natAbs+Q.num.natAbs)*(P.den*Q.den):=by
  rw[Nat.add_mul];omega
 have m4:((P.num*Q.den-Q.num*P.den)*S.den).natAbs≤((P.num.natAbs+Q.num.natAbs)*S.den)*(P.den*Q.den):=by
  rw[Int.natAbs_mul,Int.natAbs_natCast]
  refine Nat.le_trans (Nat.mul_le_mul_right _ m3) (Nat.le_of_eq (by ac_rfl))
 have hd:0<P.den*Q.den:=Nat.mul_pos hP hQ
 have key:k.natAbs*S.num.natAbs≤(P.num.natAbs+Q.num.natAbs)*S.den+S.num.natAbs:=by
  by_cases hk:0≤k
  ·have f1:(k*S.num*(P.den*Q.den:Nat)).natAbs=(k.natAbs*S.num.natAbs)*(P.den*Q.den):=by rw[Int.natAbs_mul,Int.natAbs_mul,Int.natAbs_natCast]
   have f2:0≤k*S.num*(P.den*Q.den:Nat):=Int.mul_nonneg (Int.mul_nonneg hk (by omega)) (by omega)
   have f3:(k.natAbs*S.num.natAbs)*(P.den*Q.den)≤((P.num.natAbs+Q.num.natAbs)*S.den)*(P.den*Q.den):=by rw[← f1];omega
   have:=Nat.le_of_mul_le_mul_right f3 hd
   omega
  ·have f1:((k+1)*S.num*(P.den*Q.den:Nat)).natAbs=((k+1).natAbs*S.num.natAbs)*(P.den*Q.den):=by rw[Int.natAbs_mul,Int.natAbs_mul,Int.natAbs_natCast]
   have f2:(k+1)*S.num*(P.den*Q.den:Nat)≤0:=Int.mul_nonpos_of_nonpos_of_nonneg (Int.mul_nonpos_of_nonpos_of_nonneg (by omega) (by omega)) (by omega)
   have f3:((k+1).natAbs*S.num.natAbs)*(P.den*Q.den)≤((P.num.natAbs+Q.num.natAbs)*S.den)*(P.den*Q.den):=by rw[← f1];omega
   have f4:=Nat.le_of_mul_le_mul_right f3 hd
   have f5:k.natAbs=(k+1).natAbs+1:=by omega
   rw[f5,Nat.add_mul,Nat.one_mul]
   omega
 have d1:(P.num.natAbs+Q.num.natAbs)*S.den≤(10^82+10^82)*10^82:=Nat.mul_le_mul (Nat.add_le_add (Nat.le_of_lt zP.1) (Nat.le_of_lt zQ.1)) (Nat.le_of_lt zS.2)
 have d2:=zS.1
 have d3:(10^82+10^82)*10^82+10^82<10^165:=by decide
 omega
end
theorem aCd (q:Rat):(flI q).natAbs≤q.num.natAbs:=kH _ _
theorem aCe {q:Rat} {k:Nat} (h:Sz k q) (hk:0<k∧k≤300):flQ (numS q)=(itoa (flI q),0):=by
 unfold flQ
 rw[if_pos (hZ h hk),cC];rfl
theorem aIe {n:Int} {k:Nat} (h:n.natAbs<10^k) (hk:0<k∧k≤300):inQ (itoa n)=if n < -4611686018427387904∨4611686018427387904<n then (0,2) else (n,0):=by
 unfold inQ
 rw[← eO,if_pos (hZ (xS h hk.1) hk),cC,if_pos (Rat.den_intCast n),Rat.num_intCast]
section
variable {L H O S:Rat}
noncomputable abbrev atX (L O S:Rat) (i:Nat):Rat:=cJ L O S+S*((i:Int):Rat)
theorem aQa (i:Nat):atX L O S i=O-((aV L O S-i:Int):Rat)*S:=by
 unfold atX cJ
 rw[Rat.intCast_sub]
 grind
theorem qT:atX L O S 0=cJ L O S:=by
 unfold atX
 rw[show (((0:Nat):Int):Rat)=0 from rfl,Rat.mul_zero,Rat.add_zero]
theorem aEs (i:Nat):atX L O S (i+1)=atX L O S i+S:=by
 unfold atX
 rw[show ((i+1:Nat):Int)=(i:Int)+1 by omega,Rat.intCast_add,Rat.intCast_one]
 grind
theorem aEt (K:Int):(O-(K:Rat)*S).den≤O.den*S.den:=by
 rw[oF]
 refine Nat.le_trans (oD _ (pV _ _)).2 (Nat.mul_le_mul_left _ ?_)
 rw[oG]
 refine Nat.le_trans (oD _ (pV _ _)).2 ?_
 rw[Rat.den_intCast,Nat.one_mul];exact Nat.le_refl _
theorem uC (i:Nat):(atX L O S i).den≤O.den*S.den:=by rw[aQa];exact aEt _
theorem tJ (K:Int) (S:Rat):((K:Rat)*S).num.natAbs≤K.natAbs*S.num.natAbs∧((K:Rat)*S).den≤S.den:=by
 rw[oG]
 obtain ⟨h1,h2⟩:=oD ((K:Rat).num*S.num) (pV (K:Rat) S)
 rw[Rat.num_intCast,Int.natAbs_mul] at h1
 exact ⟨h1,Nat.le_trans h2 (by rw[Rat.den_intCast,Nat.one_mul];exact Nat.le_refl _)⟩
theorem AtH.count (h:AtH L H O S): -1≤aV L O S+cQ H O S∧aV L O S+cQ H O S≤100:=by
 have hS:=h.pos
 have a1:((aV L O S:Int):Rat)*S≤O-L:=(jQ hS).1 (pP _)
 have a2:((cQ H O S:Int):Rat)*S≤H-O:=(jQ hS).1 (pP _)
 have b1:O-L≤((aV L O S+1:Int):Rat)*S:=Rat.le_of_lt (Rat.not_le.1 fun h=>Rat.not_le.2 (nF _) ((jQ hS).2 h))
 have b2:H-O≤((cQ H O S+1:Int):Rat)*S:=Rat.le_of_lt (Rat.not_le.1 fun h=>Rat.not_le.2 (nF _) ((jQ hS).2 h))
 have b1':¬((aV L O S+1:Int):Rat)*S≤O-L:=fun h=>Rat.not_le.2 (nF _) ((jQ hS).2 h)
 have b2':¬((cQ H O S+1:Int):Rat)*S≤H-O:=fun h=>Rat.not_le.2 (nF _) ((jQ hS).2 h)
 generalize aV L O S=x at*
 generalize cQ H O S=y at*
 have few:=h.few
 have le:=h.le
 constructor
 ·refine Int.not_lt.1 fun hlt=>?_
  have h1:((x+1+(y+1):Int):Rat)≤((0:Int):Rat):=Rat.intCast_le_intCast.2 (by omega)
  have h2:=Rat.mul_le_mul_of_nonneg_right h1 (Rat.le_of_lt hS)
  rw[Rat.intCast_add (x+1),Rat.add_mul,Rat.intCast_zero,Rat.zero_mul] at h2
  have h3:=Rat.not_le.1 b1'
  have h4:=Rat.not_le.1 b2'
  generalize ((x+1:Int):Rat)*S=u at*
  generalize ((y+1:Int):Rat)*S=v at*
  grind
 ·refine Int.not_lt.1 fun hlt=>?_
  have h1:((101:Int):Rat)≤((x+y:Int):Rat):=Rat.intCast_le_intCast.2 (by omega)
  have h2:=Rat.mul_le_mul_of_nonneg_right h1 (Rat.le_of_lt hS)
  rw[Rat.intCast_add,Rat.add_mul] at h2
  have e:((101:Int):Rat)*S=((100:Nat):Rat)*S+S:=by
   rw[show ((101:Int):Rat)=((100:Nat):Rat)+1 from Rat.intCast_add 100 1,Rat.add_mul,Rat.one_mul]
  rw[e] at h2
  generalize ((100:Nat):Rat)*S=w at*
  generalize (x:Rat)*S=u at*
  generalize (y:Rat)*S=v at*
  grind
theorem AtH.f1 (h:AtH L H O S):subQ (numS O) (numS L)=(numS (O-L),0):=uH h.zO h.zL (by decide) (by decide) (by decide)
theorem AtH.f4 (h:AtH L H O S):subQ (numS H) (numS O)=(numS (H-O),0):=uH h.zH h.zO (by decide) (by decide) (by decide)
theorem fS {S:Rat} (h:0<S):S≠0:=fun e=>Rat.lt_irrefl (e ▸ h)
theorem AtH.f2 (h:AtH L H O S):divQ (numS (O-L)) (numS S)=(numS ((O-L)/S),0):=oP (h.zO.sub h.zL) h.zS (by decide) (by decide) (by decide) (fS h.pos)
theorem AtH.f5 (h:AtH L H O S):divQ (numS (H-O)) (numS S)=(numS ((H-O)/S),0):=oP (h.zH.sub h.zO) h.zS (by decide) (by decide) (by decide) (fS h.pos)
theorem AtH.f3 (h:AtH L H O S):flQ (numS ((O-L)/S))=(itoa (aV L O S),0):=aCe ((h.zO.sub h.zL).div h.zS (fS h.pos)) ⟨by decide,by decide⟩
theorem AtH.f6 (h:AtH L H O S):flQ (numS ((H-O)/S))=(itoa (cQ H O S),0):=aCe ((h.zH.sub h.zO).div h.zS (fS h.pos)) ⟨by decide,by decide⟩
theorem AtH.below (h:AtH L H O S):(aV L O S).natAbs*S.num.natAbs<10^165∧(aV L O S).natAbs<10^165:=by
 have h1:=aPv h.zO h.zL h.zS h.pos
 have hs:=qS h.pos
 exact ⟨h1,Nat.lt_of_le_of_lt (Nat.le_mul_of_pos_right _ (by omega)) h1⟩
theorem AtH.above (h:AtH L H O S):(cQ H O S).natAbs<10^165:=by
 have h1:=aPv h.zH h.zO h.zS h.pos
 have hs:=qS h.pos
 exact Nat.lt_of_le_of_lt (Nat.le_mul_of_pos_right _ (by omega)) h1
theorem AtH.f7 (h:AtH L H O S):addQ (itoa (aV L O S)) (itoa (cQ H O S))=(itoa (aV L O S+cQ H O S),0):=by
 have:=aGu (p:=((aV L O S:Int):Rat)) (q:=((cQ H O S:Int):Rat)) (k:=165) ⟨by decide,by decide⟩ (by rw[Rat.num_intCast,Rat.den_intCast,Nat.mul_one];exact h.below.2) (by rw[Rat.num_intCast,Rat.den_intCast,Nat.mul_one];exact h.above) (by rw[Rat.den_intCast,Rat.den_intCast];decide)
 rwa [← Rat.intCast_add,eO,eO,eO] at this
theorem AtH.f9 (h:AtH L H O S):inQ (itoa (aV L O S+cQ H O S))=(aV L O S+cQ H O S,0):=by
 obtain ⟨h1,h2⟩:=h.count
 rw[aIe (k:=4) (by have:(10:Nat)^4=10000:=(by decide);omega) ⟨by decide,by decide⟩,if_neg (by omega)]
theorem AtH.f10 (h:AtH L H O S):mulQ (itoa (aV L O S)) (numS S)=(numS (((aV L O S:Int):Rat)*S),0):=by
 have z1:Sz 165 ((aV L O S:Int):Rat):=xS h.below.2 (by decide)
 have:=aQg (k:=165) ⟨by decide,by decide⟩ z1 (h.zS.mono (by decide)) (by rw[Rat.num_intCast];exact h.below.1) (by rw[Rat.den_intCast,Nat.one_mul];exact (h.zS.mono (j:=165) (by decide)).2)
 rwa [eO] at this
theorem AtH.f11 (h:AtH L H O S):subQ (numS O) (numS (((aV L O S:Int):Rat)*S))=(numS (cJ L O S),0):=by
 obtain ⟨i1,i2⟩:=tJ (aV L O S) S
 have hb:=h.below.1
 have zO:=h.zO
 have zS:=h.zS
 refine aQf (k:=249) ⟨by decide,by decide⟩ ?_ ?_ ?_
 ·refine Nat.lt_of_le_of_lt (Nat.mul_le_mul (Nat.le_of_lt zO.1) (Nat.le_trans i2 (Nat.le_of_lt zS.2))) ?_
  decide
 ·refine Nat.lt_of_le_of_lt (Nat.mul_le_mul (Nat.le_trans i1 (Nat.le_of_lt hb)) (Nat.le_of_lt zO.2)) ?_
  decide
 ·refine Nat.lt_of_le_of_lt (Nat.mul_le_mul (Nat.le_of_lt zO.2) (Nat.le_trans i2 (Nat.le_of_lt zS.2))) ?_
  decide
theorem AtH.f12 (h:AtH L H O S) {i:Nat} (hi:i≤1000):mulQ (numS S) (itoa i)=(numS (S*((i:Int):Rat)),0):=by
 have z1:Sz 4 ((i:Int):Rat):=xS (by rw[Int.natAbs_natCast];have:(10:Nat)^4=10000:=(by decide);omega) (by decide)
 have:=aJm h.zS z1 (by decide) (by decide) (by decide)
 rwa [eO] at this
theorem aEu (K:Int) (S:Rat):(S*(K:Rat)).num.natAbs≤K.natAbs*S.num.natAbs∧(S*(K:Rat)).den≤S.den:=by
 rw[Rat.mul_comm];exact tJ K S
theorem AtH.in (h:AtH L H O S) {i:Nat} (hi:(i:Int)<eB L H O S):L≤atX L O S i∧atX L O S i≤H:=by
 refine ⟨?_,(at_in h.pos i).2 hi⟩
 have h1:=(aGt (L:=L) (O:=O) h.pos).1
 have h2:0≤S*((i:Int):Rat):=Rat.mul_nonneg (Rat.le_of_lt h.pos) (Rat.intCast_nonneg.2 (by omega))
 show L≤cJ L O S+ _
 generalize S*((i:Int):Rat)=u at*
 grind
theorem AtH.f13 (h:AtH L H O S) {i:Nat} (hi:(i:Int)<eB L H O S):addQ (numS (cJ L O S)) (numS (S*((i:Int):Rat)))=(numS (atX L O S i),0):=by
 have hc:=h.count
 have hi2:i≤100:=by unfold eB at hi;omega
 obtain ⟨i1,i2⟩:=aEu (i:Int) S
 have r:=h.in (i:=0) (by omega)
 rw[qT] at r
 have hx:=h.xt r.1 r.2 (by rw[← qT];exact uC 0)
 have hd:(cJ L O S).den≤O.den*S.den:=by rw[← qT];exact uC 0
 have zO:=h.zO.2
 have zS:=h.zS
 have hd2:(cJ L O S).den≤10^82*10^82:=Nat.le_trans hd (Nat.mul_le_mul (Nat.le_of_lt zO) (Nat.le_of_lt zS.2))
 refine aGu (k:=250) ⟨by decide,by decide⟩ ?_ ?_ ?_
 ·exact Nat.lt_of_le_of_lt (Nat.mul_le_mul_left _ i2) hx
 ·refine Nat.lt_of_le_of_lt (Nat.mul_le_mul (Nat.le_trans i1 (Nat.mul_le_mul (show (i:Int).natAbs≤100 by omega) (Nat.le_of_lt zS.1))) hd2) ?_
  decide
 ·refine Nat.lt_of_le_of_lt (Nat.mul_le_mul hd2 (Nat.le_trans i2 (Nat.le_of_lt zS.2))) ?_
  decide
theorem AtH.f15 (h:AtH L H O S) {i:Nat} (hi:(i:Int)<eB L H O S):addQ (numS (atX L O S i)) (numS S)=(numS (atX L O S (i+1)),0):=by
 obtain ⟨r1,r2⟩:=h.in hi
 have hd:=uC (L:=L) (O:=O) (S:=S) i
 have hx:=h.xt r1 r2 hd
 have zO:=h.zO.2
 have zS:=h.zS
 have hd2:(atX L O S i).den≤10^82*10^82:=Nat.le_trans hd (Nat.mul_le_mul (Nat.le_of_lt zO) (Nat.le_of_lt zS.2))
 rw[aEs]
 refine aGu (k:=250) ⟨by decide,by decide⟩ hx ?_ ?_
 ·refine Nat.lt_of_le_of_lt (Nat.mul_le_mul (Nat.le_of_lt zS.1) hd2) ?_
  decide
 ·refine Nat.lt_of_le_of_lt (Nat.mul_le_mul hd2 (Nat.le_of_lt zS.2)) ?_
  decide
theorem AtH.f14 (h:AtH L H O S) {i:Nat} (hi:(i:Int)≤eB L H O S):cmpQ (numS (atX L O S i)) (numS H)=(cmpR (atX L O S i) H,0):=by
 have hd:=uC (L:=L) (O:=O) (S:=S) i
 have zO:=h.zO.2
 have zS:=h.zS
 have zH:=h.zH
 have hd2:(atX L O S i).den≤10^82*10^82:=Nat.le_trans hd (Nat.mul_le_mul (Nat.le_of_lt zO) (Nat.le_of_lt zS.2))
 have hS:=h.pos
 have le1:L≤atX L O S i:=by
  have h1:=(aGt (L:=L) (O:=O) hS).1
  have h2:0≤S*((i:Int):Rat):=Rat.mul_nonneg (Rat.le_of_lt hS) (Rat.intCast_nonneg.2 (by omega))
  show L≤cJ L O S+ _
  generalize S*((i:Int):Rat)=u at*
  grind
 have h100:S≤((100:Nat):Rat)*S:=by
  have:=Rat.mul_le_mul_of_nonneg_right (show (1:Rat)≤((100:Nat):Rat) by decide) (Rat.le_of_lt hS)
  rwa [Rat.one_mul] at this
 have le2:atX L O S i≤H+((100:Nat):Rat)*S:=by
  have:atX L O S i≤H+S:=by
   rcases i with _ | j
   ·rw[qT]
    have h1:=(aGt (L:=L) (O:=O) hS).2
    have:=h.le
    grind
   ·rw[aEs]
    have:=(h.in (i:=j) (by omega)).2
    exact Rat.add_le_add_right.2 this
  generalize ((100:Nat):Rat)*S=w at*
  grind
 have hx:=h.xh le1 le2 hd
 have n1:=H.den_pos
 have n2:=S.den_pos
 refine aMb (k:=250) ⟨by decide,by decide⟩ ⟨Nat.lt_of_le_of_lt (Nat.le_mul_of_pos_right _ n1) hx,Nat.lt_of_le_of_lt hd2 (by decide)⟩ (zH.mono (by decide)) hx ?_
 refine Nat.lt_of_le_of_lt (Nat.mul_le_mul (Nat.le_of_lt zH.1) hd2) ?_
 decide
end
noncomputable def atW (lo hi o s:List UInt8):List (List UInt8) × Int:=if ¬rgP lo hi∨chkQ o≠0∨chkQ s≠0 then ([],1) else if ¬0<valQ s then ([],2) else ((atR (valQ lo) (valQ hi) (valQ o) (valQ s)).map numS,0)
noncomputable def evW (lo hi m:List UInt8):List (List UInt8) × Int:=if ¬rgP lo hi∨chkQ m≠0 then ([],1) else if ¬0<valQ m then ([],2) else if lo=hi then ([lo],0) else if 4095<clI ((valQ hi-valQ lo)/valQ m) then ([],4) else ((evR (valQ lo) (valQ hi) (valQ m)).map numS,0)
structure EvH (L H M:Rat):Prop where
 zL:Sz 82 L
 zH:Sz 82 H
 zM:Sz 82 M
 lt:L<H
 pos:0<M
section
variable {L H M:Rat}
noncomputable abbrev evC (L H M:Rat):Int:=clI ((H-L)/M)
theorem EvH.e1 (h:EvH L H M):subQ (numS H) (numS L)=(numS (H-L),0):=uH h.zH h.zL (by decide) (by decide) (by decide)
theorem EvH.e2 (h:EvH L H M):divQ (numS (H-L)) (numS M)=(numS ((H-L)/M),0):=oP (h.zH.sub h.zL) h.zM (by decide) (by decide) (by decide) (fS h.pos)
theorem EvH.sq (h:EvH L H M):Sz 247 ((H-L)/M):=(h.zH.sub h.zL).div h.zM (fS h.pos)
theorem EvH.e3 (h:EvH L H M):flQ (numS ((H-L)/M))=(itoa (flI ((H-L)/M)),0):=aCe h.sq ⟨by decide,by decide⟩
theorem EvH.e3i (h:EvH L H M):inQ (itoa (flI ((H-L)/M)))=if flI ((H-L)/M) < -4611686018427387904∨4611686018427387904<flI ((H-L)/M) then (0,2) else (flI ((H-L)/M),0):=aIe (k:=247) (Nat.lt_of_le_of_lt (aCd _) h.sq.1) ⟨by decide,by decide⟩
theorem aKb (q:Rat):(itoa (flI q)=numS q∧clI q=flI q)∨(¬itoa (flI q)=numS q∧clI q=flI q+1):=by
 unfold clI
 by_cases h:((flI q:Int):Rat)=q
 ·exact .inl ⟨(aL7 q).2 h,if_pos h⟩
 ·exact .inr ⟨fun h'=>h ((aL7 q).1 h'),if_neg h⟩
theorem EvH.cpos (h:EvH L H M):0<evC L H M:=aQd h.lt h.pos
theorem sz4 {n:Int} (h0:0≤n) (h:n≤5000):Sz 4 (n:Rat):=xS (by have:(10:Nat)^4=10000:=(by decide);omega) (by decide)
theorem EvH.st (h:EvH L H M) (hc:evC L H M≤4095):Sz 169 (gQ L H M):=by
 have h0:=h.cpos
 have h1:0<clI ((H-L)/M):=h0
 have h2:clI ((H-L)/M)≤4095:=hc
 refine (h.zH.sub h.zL).div (sz4 (by omega) (by omega)) fun e=>?_
 have:=Rat.intCast_eq_zero_iff.1 e
 omega
theorem EvH.e4 (h:EvH L H M) (hc:evC L H M≤4095):divQ (numS (H-L)) (itoa (evC L H M))=(numS (gQ L H M),0):=by
 have h0:=h.cpos
 have:=oP (h.zH.sub h.zL) (sz4 (n:=evC L H M) (by omega) (by omega)) (by decide) (by decide) (by decide) (fun e=>by
  have:=Rat.intCast_eq_zero_iff.1 e
  omega)
 rwa [eO] at this
theorem EvH.e5 (h:EvH L H M) (hc:evC L H M≤4095) {k:Nat} (hk:k≤5000):mulQ (numS (gQ L H M)) (itoa k)=(numS (gQ L H M*((k:Int):Rat)),0):=by
 have:=aJm (h.st hc) (sz4 (n:=(k:Int)) (by omega) (by omega)) (by decide) (by decide) (by decide)
 rwa [eO] at this
theorem EvH.e6 (h:EvH L H M) (hc:evC L H M≤4095) {k:Nat} (hk:k≤5000):addQ (numS L) (numS (gQ L H M*((k:Int):Rat)))=(numS (L+gQ L H M*((k:Int):Rat)),0):=
 aPh h.zL ((h.st hc).mul (sz4 (n:=(k:Int)) (by omega) (by omega))) (by decide) (by decide) (by decide)
theorem aQb (q:Rat):flI (-q)= -clI q:=by
 apply Int.le_antisymm
 ·have h1:=pP (-q)
  have h2:q≤((-flI (-q):Int):Rat):=by rw[Rat.intCast_neg];exact Rat.le_neg_iff.1 (by grind)
  have h3:=aQc q
  have h4:((clI q-1:Int):Rat)<((-flI (-q):Int):Rat):=Rat.not_le.1 fun h=>Rat.not_le.2 h3 (Rat.le_trans h2 h)
  have:=Rat.intCast_lt_intCast.1 h4
  omega
 ·rw[← aMa,Rat.intCast_neg]
  exact Rat.neg_le_neg (aL8 q)
theorem EvH.r1 (h:EvH L H M):subQ (numS L) (numS H)=(numS (L-H),0):=uH h.zL h.zH (by decide) (by decide) (by decide)
theorem EvH.r2 (h:EvH L H M):divQ (numS (L-H)) (numS M)=(numS ((L-H)/M),0):=oP (h.zL.sub h.zH) h.zM (by decide) (by decide) (by decide) (fS h.pos)
theorem neg_q:(L-H)/M= -((H-L)/M):=by
 rw[Rat.div_def,Rat.div_def,← Rat.neg_mul]
 congr 1
 grind
theorem EvH.sq' (h:EvH L H M):Sz 247 ((L-H)/M):=(h.zL.sub h.zH).div h.zM (fS h.pos)
theorem EvH.r3 (h:EvH L H M):flQ (numS ((L-H)/M))=(itoa (-evC L H M),0):=by
 rw[aCe h.sq' ⟨by decide,by decide⟩,neg_q,aQb]
theorem EvH.r4 (h:EvH L H M) (hc:evC L H M≤4095):divQ (numS (L-H)) (itoa (-evC L H M))=(numS (gQ L H M),0):=by
 have h0:=h.cpos
 have z:Sz 4 ((-evC L H M:Int):Rat):=xS (by have:(10:Nat)^4=10000:=(by decide);omega) (by decide)
 have:=oP (h.zL.sub h.zH) z (by decide) (by decide) (by decide) (fun e=>by
  have:=Rat.intCast_eq_zero_iff.1 e
  omega)
 rw[eO] at this
 rw[this]
 unfold gQ
 have hc0:((evC L H M:Int):Rat)≠0:=fun e=>by
  have:=Rat.intCast_eq_zero_iff.1 e
  omega
 have e1:(H-L)/((evC L H M:Int):Rat)*((evC L H M:Int):Rat)=H-L:=Rat.div_mul_cancel hc0
 have hc1:((-evC L H M:Int):Rat)≠0:=fun e=>by
  have:=Rat.intCast_eq_zero_iff.1 e
  omega
 have e2:(L-H)/((-evC L H M:Int):Rat)*((-evC L H M:Int):Rat)=L-H:=Rat.div_mul_cancel hc1
 rw[Rat.intCast_neg] at e2 ⊢
 have e3:((L-H) / -((evC L H M:Int):Rat)-(H-L)/((evC L H M:Int):Rat))*((evC L H M:Int):Rat)=0:=by grind
 rcases Rat.mul_eq_zero.1 e3 with e | e
 ·congr 2
  show _=(H-L)/((evC L H M:Int):Rat)
  grind
 ·exact absurd e hc0
end
def grS1 (a:List UInt8):Prop:=aJp a∨(82<a.length∧chkQ a=0)
def grtS (l:List (List UInt8)):Prop:=(∃a∈l,grS1 a)∨16<l.length
noncomputable instance (l:List (List UInt8)):Decidable (grtS l):=Classical.propDecidable _
theorem Lm.sub {l m:List (List UInt8)} (h:Lm l) (hs:∀a∈m,a∈l):Lm m:=fun a ha=>h a (hs a ha)
def gP (s:List UInt8):Prop:=20<s.length∨chkQ s≠0
noncomputable instance (s:List UInt8):Decidable (gP s):=Classical.propDecidable _
noncomputable instance:DecidablePred gP:=fun s=>Classical.propDecidable _
def shS (l:List (List UInt8)):Prop:=∀a∈l,a.length≤20∧chkQ a=0
noncomputable instance (l:List (List UInt8)):Decidable (shS l):=Classical.propDecidable _
theorem aOg (l:List (List UInt8)):¬0≤ixD gP l↔shS l:=by
 rw[aCl]
 unfold shS gP
 constructor
 ·intro h a ha
  refine ⟨?_,?_⟩
  ·exact Nat.le_of_not_lt fun h1=>h ⟨a,ha,.inl h1⟩
  ·exact Classical.byContradiction fun h1=>h ⟨a,ha,.inr h1⟩
 ·rintro h ⟨a,ha,hb⟩
  have:=h a ha
  rcases hb with hb | hb
  ·omega
  ·exact hb this.2
def zT (l:List (List UInt8)):Prop:=(l.length≤16∧shS l)∧ckS l=0
noncomputable instance (l:List (List UInt8)):Decidable (zT l):=Classical.propDecidable _
theorem aOh {l:List (List UInt8)} (h:shS l):∃qs:List Rat,l=qs.map numS∧∀q∈qs,Sz 20 q:=aId (by decide) h
theorem aL4 {l:List (List UInt8)} (h:shS l):Lm l:=fun a ha _=>Nat.le_trans (h a ha).1 (by decide)
theorem aKc {l:List (List UInt8)} (h:zT l):∃qs:List Rat,l=qs.map numS∧(∀q∈qs,Sz 20 q)∧Asc qs∧qs.length≤16:=by
 obtain ⟨⟨h1,h2⟩,h3⟩:=h
 obtain ⟨qs,e,hq⟩:=aOh h2
 subst e
 exact ⟨qs,rfl,hq,(aOe (k:=20) ⟨by decide,by decide⟩ qs hq).1 (aGr h3).2,by simpa using h1⟩
def mnP (q:List UInt8):Prop:=(cmpQ q [53,48,48,48]).2=0∧0<(cmpQ q [53,48,48,48]).1
noncomputable instance (q:List UInt8):Decidable (mnP q):=Classical.propDecidable _
def fwP (lo hi s:List UInt8):Prop:=(subQ hi lo).2≠0∨(divQ (subQ hi lo).1 s).2≠0∨(cmpQ (divQ (subQ hi lo).1 s).1 [49,48,48]).2≠0∨(cmpQ (divQ (subQ hi lo).1 s).1 [49,48,48]).1≤0∨mnP (divQ (subQ hi lo).1 s).1
noncomputable instance (lo hi s:List UInt8):Decidable (fwP lo hi s):=Classical.propDecidable _
theorem dec3 {i:Nat} (h1:¬i<100) (h2:i<1000):decDigits i= [UInt8.ofNat (48+i/10/10),UInt8.ofNat (48+i/10%10),UInt8.ofNat (48+i%10)]:=by
 rw[decDigits,dif_neg (by omega),decDigits_two (by omega) (by omega)];rfl
theorem dec4 {i:Nat} (h1:¬i<1000) (h2:i<10000):decDigits i= [UInt8.ofNat (48+i/10/10/10),UInt8.ofNat (48+i/10/10%10),UInt8.ofNat (48+i/10%10),UInt8.ofNat (48+i%10)]:=by
 rw[decDigits,dif_neg (by omega),dec3 (by omega) (by omega)];rfl
theorem aL5 (n:Nat):itoa (n:Int)=decDigits n:=by
 unfold itoa
 rw[if_neg (by omega),Int.toNat_natCast]
theorem lU (n:Nat):numS ((n:Int):Rat)=decDigits n:=by rw[eO,aL5]
theorem n100:numS 100= [49,48,48]:=(lU 100).trans (dec3 (by decide) (by decide))
theorem n400:numS 400= [52,48,48]:=(lU 400).trans (dec3 (by decide) (by decide))
theorem n500:numS 500= [53,48,48]:=(lU 500).trans (dec3 (by decide) (by decide))
theorem n900:numS 900= [57,48,48]:=(lU 900).trans (dec3 (by decide) (by decide))
theorem aPw:numS 1000= [49,48,48,48]:=(lU 1000).trans (dec4 (by decide) (by decide))
theorem n4:numS 4= [52]:=(lU 4).trans (bY (by decide))
theorem n10:numS 10= [49,48]:=(lU 10).trans (decDigits_two (by decide) (by decide))
theorem n10_3:numS (mkRat 10 3)= [49,48,47,51]:=by
 unfold numS
 rw[show (mkRat 10 3).num=((10:Nat):Int) by decide,show (mkRat 10 3).den=3 by decide,if_neg (by decide),aL5,decDigits_two (by decide) (by decide),bY (by decide)];rfl
theorem n20_3:numS (mkRat 20 3)= [50,48,47,51]:=by
 unfold numS
 rw[show (mkRat 20 3).num=((20:Nat):Int) by decide,show (mkRat 20 3).den=3 by decide,if_neg (by decide),aL5,decDigits_two (by decide) (by decide),bY (by decide)];rfl
theorem aCf {L H:Rat} {k:Nat} (zL:Sz k L) (zH:Sz k H) (hk:0<k∧k≤150):rgP (numS L) (numS H)↔L≤H:=by
 unfold rgP
 rw[nM zL zH hk.1 hk.1 (by omega)]
 have h1:=mI H L
 have h2:=rJ H L
 constructor
 ·intro h
  refine Rat.not_lt.1 fun hlt=>?_
  have:=h1.2 hlt
  have:=h.2
  dsimp only at this
  omega
 ·intro h
  have:¬cmpR H L<0:=fun h'=>Rat.not_le.2 (h1.1 h') h
  exact ⟨rfl,by dsimp only;omega⟩
theorem aPx:atW [48] [49,48,48,48] [49,48,48] [52,48,48]=([[49,48,48],[53,48,48],[57,48,48]],0):=by
 have z0:Sz 4 0:=⟨by decide,by decide⟩
 have z1:Sz 4 1000:=⟨by decide,by decide⟩
 have z2:Sz 4 100:=⟨by decide,by decide⟩
 have z3:Sz 4 400:=⟨by decide,by decide⟩
 rw[← aPw,← n100,← n400,← n500,← n900,← aJo]
 unfold atW
 simp only[cC]
 rw[if_neg,if_neg (by rw[show ((0:Rat)<400)=True from eq_true (by decide)];simp)]
 ·rw[show atR 0 1000 100 400= [100,500,900] by decide+kernel];rfl
 ·rintro (h | h | h)
  ·exact h ((aCf z0 z1 ⟨by decide,by decide⟩).2 (by decide))
  ·exact h (hZ z2 ⟨by decide,by decide⟩)
  ·exact h (hZ z3 ⟨by decide,by decide⟩)
theorem aPy:evW [48] [49,48] [52]=([[48],[49,48,47,51],[50,48,47,51],[49,48]],0):=by
 have z0:Sz 4 0:=⟨by decide,by decide⟩
 have z1:Sz 4 10:=⟨by decide,by decide⟩
 have z2:Sz 4 4:=⟨by decide,by decide⟩
 rw[← n10_3,← n20_3,← n10,← n4,← aJo]
 unfold evW
 simp only[cC]
 rw[if_neg,if_neg (by rw[show ((0:Rat)<4)=True from eq_true (by decide)];simp),if_neg (fun h=>absurd (qX h) (by decide)),if_neg (by decide+kernel)]
 ·rw[show evR 0 10 4= [0,mkRat 10 3,mkRat 20 3,10] by decide+kernel];rfl
 ·rintro (h | h)
  ·exact h ((aCf z0 z1 ⟨by decide,by decide⟩).2 (by decide))
  ·exact h (hZ z2 ⟨by decide,by decide⟩)
theorem aL6:Lm [[48],[49,48,48,48],[49,48,48],[52,48,48]]∧Lm [[48],[49,48],[52]]:=by
 constructor
 ·intro a ha _
  simp at ha
  rcases ha with rfl | rfl | rfl | rfl<;>decide
 ·intro a ha _
  simp at ha
  rcases ha with rfl | rfl | rfl<;>decide
theorem fL {P:Program} {c c':Con} (hc:aG P c) (hf:c'.f=c.f) (hfr:c'.fresh=c.fresh) (hl:(c'.lin,c'.own,c'.hp)=(none,none,none)) (h:∀args K,c'.cl args K→c.cl args K):aG P c':=
 aC hl (by rw[hf];exact hc.1) fun args K h'=>by
  have:=hc.2.1 args K (h args K h')
  rwa [hf,hfr]
noncomputable def c17n:Con:=aK 97 true fun args K=>match args with
 | [.str a,.str b]=>Alt (Has (fun r=>addQ a b=(r,0)) fun r=>K (.tup [S r,I 0])) (K (.tup [S (addQ a b).1,I (addQ a b).2]))
 | _=>False
theorem k17n:aG Tryz.prog c17n:=fL k17 rfl rfl rfl fun args K h=>by
 simp only[c17n] at h
 split at h
 ·rcases h.or with h | h
  ·obtain ⟨r,e,h⟩:=h.ex
   show K _
   rw[e];exact h
  ·exact h
 ·exact h.elim
noncomputable def c20n:Con:=aK 15 true fun args K=>match args with
 | [.str a,.str b]=>Alt (Has (fun r=>subQ a b=(r,0)) fun r=>K (.tup [S r,I 0])) (K (.tup [S (subQ a b).1,I (subQ a b).2]))
 | _=>False
theorem k20n:aG Tryz.prog c20n:=fL k20 rfl rfl rfl fun args K h=>by
 simp only[c20n] at h
 split at h
 ·rcases h.or with h | h
  ·obtain ⟨r,e,h⟩:=h.ex
   show K _
   rw[e];exact h
  ·exact h
 ·exact h.elim
noncomputable def c19n:Con:=aK 98 true fun args K=>match args with
 | [.str a,.str b]=>Alt (Has (fun r=>mulQ a b=(r,0)) fun r=>K (.tup [S r,I 0])) (K (.tup [S (mulQ a b).1,I (mulQ a b).2]))
 | _=>False
theorem k19n:aG Tryz.prog c19n:=fL k19 rfl rfl rfl fun args K h=>by
 simp only[c19n] at h
 split at h
 ·rcases h.or with h | h
  ·obtain ⟨r,e,h⟩:=h.ex
   show K _
   rw[e];exact h
  ·exact h
 ·exact h.elim
noncomputable def c14n:Con:=aK 18 true fun args K=>match args with
 | [.str a,.str b]=>Alt (Has (fun r=>divQ a b=(r,0)) fun r=>K (.tup [S r,I 0])) (K (.tup [S (divQ a b).1,I (divQ a b).2]))
 | _=>False
theorem k14n:aG Tryz.prog c14n:=fL k14 rfl rfl rfl fun args K h=>by
 simp only[c14n] at h
 split at h
 ·rcases h.or with h | h
  ·obtain ⟨r,e,h⟩:=h.ex
   show K _
   rw[e];exact h
  ·exact h
 ·exact h.elim
noncomputable def c43n:Con:=aK 43 true fun args K=>match args with
 | [.str a,.str b]=>Alt (Has (fun r=>cmpQ a b=(r,0)) fun r=>K (.tup [I r,I 0])) (K (.tup [I (cmpQ a b).1,I (cmpQ a b).2]))
 | _=>False
theorem k43n:aG Tryz.prog c43n:=fL k43 rfl rfl rfl fun args K h=>by
 simp only[c43n] at h
 split at h
 ·rcases h.or with h | h
  ·obtain ⟨r,e,h⟩:=h.ex
   show K _
   rw[e];exact h
  ·exact h
 ·exact h.elim
end RB
end

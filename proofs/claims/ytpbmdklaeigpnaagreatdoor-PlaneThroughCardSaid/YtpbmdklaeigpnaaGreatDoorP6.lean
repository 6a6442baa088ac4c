/-
  Part 6: a symbolic executor over the model, contracts of functions and plain laws.
-/
import Derived.Test.YtpbmdklaeigpnaaGreatDoorP5
import Init.Data.Rat
section
set_option linter.unusedVariables false
set_option linter.unusedVariables false
namespace IB
theorem three_le {B:Nat} (hB:2≤B) {l:List Int} (h:InB B l) (j:Nat):((l.getD (j+2) 0*B+l.getD (j+1) 0)*B+l.getD j 0)*(B:Int)^j≤valB B l:=by
 by_cases hj:j<l.length
 ·have e0:=val_split (B:=B) l j (by omega)
  have b0:=val_nonneg (in_take h j)
  have hP:=pow_pos' hB j
  rw[drop_getD l j hj] at e0
  simp only[valB] at e0
  have h1:l.getD (j+2) 0*B+l.getD (j+1) 0≤valB B (l.drop (j+1)):=by
   by_cases h1:j+1<l.length
   ·rw[drop_getD l (j+1) h1]
    simp only[valB]
    have h2:l.getD (j+2) 0≤valB B (l.drop (j+1+1)):=by
     by_cases h2:j+2<l.length
     ·rw[drop_getD l (j+1+1) h2]
      simp only[valB]
      have:=val_nonneg (in_drop h (j+1+1+1))
      have h3:(0:Int)≤(B:Int)*valB B (l.drop (j+1+1+1)):=Int.mul_nonneg (by omega) this
      show l.getD (j+1+1) 0≤ _
      omega
     ·rw[getD_out l (j+2) (by omega)]
      exact val_nonneg (in_drop h _)
    have h3:(B:Int)*l.getD (j+2) 0≤B*valB B (l.drop (j+1+1)):=Int.mul_le_mul_of_nonneg_left h2 (by omega)
    rw[Int.mul_comm (l.getD (j+2) 0)]
    omega
   ·rw[getD_out l (j+2) (by omega),getD_out l (j+1) (by omega),Int.zero_mul,Int.zero_add]
    exact val_nonneg (in_drop h _)
  have h2:(l.getD (j+2) 0*B+l.getD (j+1) 0)*B≤valB B (l.drop (j+1))*B:=Int.mul_le_mul_of_nonneg_right h1 (by omega)
  rw[Int.mul_comm (valB B (l.drop (j+1)))] at h2
  have h3:((l.getD (j+2) 0*B+l.getD (j+1) 0)*B+l.getD j 0)*(B:Int)^j≤(l.getD j 0+B*valB B (l.drop (j+1)))*(B:Int)^j:=Int.mul_le_mul_of_nonneg_right (by omega) (Int.le_of_lt hP)
  rw[Int.mul_comm (l.getD j 0+B*valB B (l.drop (j+1)))] at h3
  omega
 ·rw[getD_out l (j+2) (by omega),getD_out l (j+1) (by omega),getD_out l j (by omega)]
  simp only[Int.zero_mul,Int.add_zero]
  exact val_nonneg h
theorem two_ge {B:Nat} (hB:2≤B) {b:List Int} (h:InB B b) (hk:2≤b.length):valB B b≤(b.getD (b.length-1) 0*B+b.getD (b.length-2) 0+1)*(B:Int)^ (b.length-2):=by
 have e0:=val_split (B:=B) b (b.length-2) (by omega)
 have b0:=val_lt_pow hB (in_take h (b.length-2)) (n:=b.length-2) (by rw[List.length_take];omega)
 rw[drop_getD b (b.length-2) (by omega),show b.length-2+1=b.length-1 by omega,drop_getD b (b.length-1) (by omega),List.drop_eq_nil_of_le (by omega)] at e0
 simp only[valB,Int.mul_zero,Int.add_zero] at e0
 rw[e0,show (b.getD (b.length-1) 0*(B:Int)+b.getD (b.length-2) 0+1)*(B:Int)^ (b.length-2)=(B:Int)^ (b.length-2)*(b.getD (b.length-2) 0+B*b.getD (b.length-1) 0)+(B:Int)^ (b.length-2) by
  rw[Int.add_mul _ 1,Int.one_mul,Int.mul_comm _ ((B:Int)^ (b.length-2)),Int.add_comm _ (b.getD (b.length-2) 0),Int.mul_comm _ (B:Int)]]
 omega
theorem ref_round {B:Nat} (hB:2≤B) {b:List Int} (hb:InB B b) (hk:2≤b.length) {n R:Nat} (hn:0<n) (hv:valB B b=n) (hR:R<n*B) (t3:Int)
  (ht:t3=((limbs B R).getD b.length 0*B+(limbs B R).getD (b.length-1) 0)*B+(limbs B R).getD (b.length-2) 0):
  0≤t3/(b.getD (b.length-1) 0*B+b.getD (b.length-2) 0+1)∧t3/(b.getD (b.length-1) 0*B+b.getD (b.length-2) 0+1)<B∧t3/(b.getD (b.length-1) 0*B+b.getD (b.length-2) 0+1)*n≤R:=by
 have hi:=limbs_in hB R
 have h3:=three_le hB hi (b.length-2)
 rw[show b.length-2+2=b.length by omega,show b.length-2+1=b.length-1 by omega,limbs_val hB,← ht] at h3
 have h2:=two_ge hB hb hk
 rw[hv] at h2
 have g1:=hb.get (show b.length-1<b.length by omega)
 have g2:=hb.get (show b.length-2<b.length by omega)
 have x0:=hi.getD0 (by omega) b.length
 have x1:=hi.getD0 (by omega) (b.length-1)
 have x2:=hi.getD0 (by omega) (b.length-2)
 have top0:0≤b.getD (b.length-1) 0*(B:Int):=Int.mul_nonneg g1.1 (by omega)
 have t0:0≤t3:=by
  rw[ht]
  have:=Int.mul_nonneg x0.1 (show (0:Int)≤B by omega)
  have:=Int.mul_nonneg (show 0≤(limbs B R).getD b.length 0*B+(limbs B R).getD (b.length-1) 0 by omega) (show (0:Int)≤B by omega)
  omega
 obtain ⟨e1,e2⟩:=ref_est (V:=(n:Int)) (R:=(R:Int)) (t3:=t3) (top:=b.getD (b.length-1) 0*B+b.getD (b.length-2) 0) (P:=(B:Int)^ (b.length-2)) (pow_pos' hB _) (by omega) h2 (by omega) h3 t0
 refine ⟨e1,?_,(Int.le_ediv_iff_mul_le (by omega)).1 e2⟩
 refine Int.lt_of_le_of_lt e2 (Int.ediv_lt_of_lt_mul (by omega) ?_)
 rw[Int.mul_comm]
 exact_mod_cast hR
end IB
end
section
open Go Go.Proofs Go.Eng Go.Shelf IB Go.Lib Go.RowKit
namespace RB
set_option maxRecDepth 10000
set_option linter.unusedVariables false
set_option linter.unusedSimpArgs false
theorem cmpTop_gen {B:Nat} (hB:2≤B) {a b:List Int} (ha:InB B a) (hb:InB B b) (hl:a.length=b.length):∀m,m≤a.length→(∀j,m≤j→j<a.length→a.getD j 0=b.getD j 0)→
  (cmpTop a b m<0↔valB B a<valB B b)∧(cmpTop a b m=0↔valB B a=valB B b)
 | 0,_,h=>by
  have:a=b:=eq_of_get hl fun j hj=>h j (Nat.zero_le _) hj
  subst this
  simp[cmpTop]
 | m+1,hm,h=>by
  simp only[cmpTop]
  by_cases e:a.getD m 0=b.getD m 0
  ·rw[if_pos e]
   refine cmpTop_gen hB ha hb hl m (by omega) fun j h1 h2=>?_
   by_cases e2:j=m
   ·rw[e2];exact e
   ·exact h j (by omega) h2
  ·rw[if_neg e]
   rcases Int.lt_or_gt_of_ne e with h1 | h1
   ·have:=val_top (B:=B) hB ha hb hl (by omega) (fun j h2 h3=>h j (by omega) h3) h1
    omega
   ·have:=val_top (B:=B) hB hb ha hl.symm (by omega) (fun j h2 h3=>(h j (by omega) (by omega)).symm) h1
    omega
theorem cmpL_gen {B:Nat} (hB:2≤B) (m n:Nat):(cmpL (limbs B m) (limbs B n)<0↔m<n)∧(cmpL (limbs B m) (limbs B n)=0↔m=n):=by
 unfold cmpL
 split
 ·rename_i hl
  have:=cmpTop_gen hB (limbs_in hB m) (limbs_in hB n) hl _ (Nat.le_refl _) fun j h1 h2=>by omega
  rw[limbs_val hB,limbs_val hB] at this
  omega
 ·rename_i hl
  by_cases h:(limbs B m).length<(limbs B n).length
  ·have:=limbs_short hB h
   omega
  ·have:=limbs_short hB (m:=n) (n:=m) (by omega)
   omega
theorem one_limb6 {n:Nat} (h:(limbs B6 n).length=1):(limbs B6 n).getD 0 0=n∧n<1000000:=by
 have hv:=v6 n
 have hg:=get6 (show InB B6 (limbs B6 n) from limbs_in (by decide) n) 0
 cases hl:limbs B6 n with
 | nil=>rw[hl] at h;simp at h
 | cons x r=>
  have hr:r= []:=by rw[hl] at h;simpa using h
  subst hr
  rw[hl] at hv hg
  simp only[valB,Int.mul_zero,Int.add_zero] at hv
  refine ⟨hv,?_⟩
  have hg:0≤x∧x<1000000:=hg
  omega
theorem limbs_mono6 {p q:Nat} (h:p≤q):(limbs B6 p).length≤(limbs B6 q).length:=Classical.byContradiction fun hx=>by
 have:=limbs_short (B:=B6) (by decide) (m:=q) (n:=p) (by omega)
 omega
def r9 (n:Nat) (a:List Int):Nat→SV
 | 0=>.ref 3 1
 | m+1=>Ls (limbs B6 (divK B6 n a (m+1)).2.toNat)
theorem limbs_le6 {m k:Nat} (h:m<B6^k):(limbs B6 m).length≤k:=by
 by_cases h0:m=0
 ·subst h0;rw[limbs_zero];exact Nat.zero_le _
 ·have:=(limbs_len (B:=B6) (by decide) (n:=m) (by omega)).1
  have:=(Nat.pow_lt_pow_iff_right (show 1<B6 by decide)).1 (Nat.lt_of_le_of_lt (by exact_mod_cast this) h)
  omega
theorem sg_ge {p q:Nat} {x:Int} (hc:(x<0↔p<q)∧(x=0↔p=q)) (h:0≤sgnI x):q≤p:=by
 unfold sgnI at h
 split at h<;>omega
theorem sg_lt {p q:Nat} {x:Int} (hc:(x<0↔p<q)∧(x=0↔p=q)) (h:¬0≤sgnI x):p<q:=by
 unfold sgnI at h
 split at h
 ·omega
 ·split at h<;>omega
theorem divK_big {B:Nat} (hB:2≤B) {d:Int} (hd:0<d) {a:List Int} (ha:InB B a):
  trimL (divK B d a a.length).1=limbs B (valB B a/d).toNat∧(divK B d a a.length).2=valB B a%d:=by
 obtain ⟨h1,h2,h3,h4⟩:=divK_spec hB hd ha a.length (Nat.le_refl _)
 rw[Nat.sub_self,List.drop_zero,List.drop_zero] at h4
 have h5:valB B a/d=valB B (divK B d a a.length).1∧valB B a%d=(divK B d a a.length).2:=by
  rw[Int.ediv_emod_unique hd]
  exact ⟨by rw[Int.add_comm,Int.mul_comm];exact h4,h3.1,h3.2⟩
 exact ⟨by rw[h5.1];exact trim_limbs hB h2,h5.2.symm⟩
theorem divK_next {n R r g m:Nat} {a:List Int} (hn:0<n) (hR:a.getD (a.length-1-m) 0+(r:Int)*1000000=R) (hr:(divK B6 n a m).2=r) (hg:n*g≤R) (hlt:R-n*g<n):
  (divK B6 n a (m+1)).1=(divK B6 n a m).1.set (a.length-1-m) g∧(divK B6 n a (m+1)).2=((R-n*g:Nat):Int):=by
 have hx:a.getD (a.length-1-m) 0+(divK B6 n a m).2*(B6:Int)=R:=by
  rw[hr,← hR];rfl
 have e1:R/n=g:=by
  refine Nat.div_eq_of_lt_le (by rw[Nat.mul_comm];exact hg) ?_
  rw[Nat.succ_mul,Nat.mul_comm];omega
 have e2:R%n=R-n*g:=by
  have:=Nat.div_add_mod R n
  rw[e1] at this;omega
 simp only[divK]
 rw[hx,← Int.natCast_ediv,← Int.natCast_emod,e1,e2]
 exact ⟨rfl,rfl⟩
set_option maxHeartbeats 1600000 in
theorem b113 (a:List Int) (n:Nat) (h:InB B6 a∧(0<n∧n<B6^100)∧a.length≤1000):body Tryz.prog [c142,c141,c143,c145,c144,c146] { asks:=[(0,[]),(2,[])] } false Tryz.f125 [Ls a,Ls (limbs B6 n)] (.tup [Ls (limbs B6 (valB B6 a/n).toNat),Ls (limbs B6 (valB B6 a%n).toNat)]):=by
 obtain ⟨ha,⟨hn0,hn⟩,hla⟩:=h
 have jn:InB B6 (limbs B6 n):=limbs_in (by decide) n
 have vn:=v6 n
 (repeat'((conv=>whnf);first|refine Zg fun _=>?_|fail))
 (refine Br.mk (fun _=>?_) (fun _=>?_))
 ·rename_i h1
  obtain ⟨hx,hxlt⟩:=one_limb6 (n:=n) (by omega)
  (repeat'((conv=>whnf);first|refine Zg fun _=>?_|refine Zn ?_|refine Z0 ?_|fail))
  refine Need.mk ⟨ha,by omega,by omega⟩ ?_
  rw[hx]
  skip
  (conv=>whnf)
  (repeat'(first|exact trivial|rfl|refine And.intro ?_ ?_|fail))
 ·rename_i h1
  have hk:2≤(limbs B6 n).length:=by
   have:=(limbs_len (B:=B6) (by decide) hn0).2.2
   omega
  obtain ⟨b,hb⟩:∃b,limbs B6 n=b:=⟨_,rfl⟩
  have hbl:b.length≤200:=by
   rw[← hb]
   have:=(limbs_len (B:=B6) (by decide) hn0).1
   have:=(Nat.pow_lt_pow_iff_right (show 1<B6 by decide)).1 (Nat.lt_of_le_of_lt (by exact_mod_cast this) hn)
   omega
  rw[hb] at jn vn hk h1 ⊢
  have gt1:=get6 jn (b.length-1)
  have gt2:=get6 jn (b.length-2)
  (repeat'((conv=>whnf);first|refine Zg fun _=>?_|refine Zn ?_|(apply Pin.mk;apply Exists.intro)|apply Pinned.mk rfl rfl|fail))
  refine ix_at (b.length-1) (by omega) ?_
  (repeat'((conv=>whnf);first|refine Zg fun _=>?_|refine Zn ?_|(apply Pin.mk;apply Exists.intro)|apply Pinned.mk rfl rfl|fail))
  refine ix_at (b.length-2) (by omega) ?_
  (repeat'((conv=>whnf);first|refine Zg fun _=>?_|refine Zn ?_|(apply Pin.mk;apply Exists.intro)|apply Pinned.mk rfl rfl|refine Z8 ?_|fail))
  (conv=>whnf)
  refine Ask.mk ⟨{ X:=Nat,pre:=fun m=>m≤a.length,mod:=fun m _=>[(9,r9 n a m),(10,I ((a.length:Int)-1-m))],heap:=fun m _=>[V [],V [],V (divK B6 n a m).1,V []],mu:=fun m=>a.length-m },rfl,?_⟩
  (repeat'((conv=>whnf);first|refine Zn ?_|fail))
  refine ⟨⟨(0:Nat),Nat.zero_le _,?_⟩,fun (m:Nat) (hm:m≤a.length)=>?_⟩
  ·(repeat'(first|exact trivial|rfl|refine And.intro ?_ ?_|omega|fail))
  have hnI:(0:Int)<n:=by omega
  obtain ⟨g1,g2,g3,_⟩:=divK_spec (B:=B6) (by decide) hnI ha m hm
  have ga:=get6 ha (a.length-1-m)
  obtain ⟨r,hr⟩:∃r:Nat,(divK B6 n a m).2=r:=⟨_,(Int.eq_ofNat_of_zero_le g3.1).choose_spec⟩
  obtain ⟨R,hR⟩:∃R:Nat,a.getD (a.length-1-m) 0+(r:Int)*1000000=R:=⟨_,(Int.eq_ofNat_of_zero_le (by omega)).choose_spec⟩
  have hL:trimL (a.getD (a.length-1-m) 0::limbs B6 r)=limbs B6 R:=by
   rw[trim_limbs (B:=B6) (by decide) (InB.cons.2 ⟨ga,limbs_in (by decide) r⟩)]
   congr 1
   show (a.getD (a.length-1-m) 0+(B6:Int)*valB B6 (limbs B6 r)).toNat=R
   rw[v6,Int.mul_comm]
   show (a.getD (a.length-1-m) 0+(r:Int)*1000000).toNat=R
   omega
  have hRn:R<n*B6:=by
   have:(r:Int)<n:=by omega
   show R<n*1000000
   omega
  have lR:(limbs B6 R).length≤101:=limbs_le6 (Nat.lt_of_lt_of_le hRn (by rw[Nat.pow_succ];exact Nat.mul_le_mul_right _ (Nat.le_of_lt hn)))
  have rb:=ref_round (B:=B6) (by decide) jn hk hn0 vn hRn _ rfl
  have x0:=get6 (show InB B6 (limbs B6 R) from limbs_in (by decide) R) b.length
  have x1:=get6 (show InB B6 (limbs B6 R) from limbs_in (by decide) R) (b.length-1)
  have x2:=get6 (show InB B6 (limbs B6 R) from limbs_in (by decide) R) (b.length-2)
  obtain ⟨G,hG⟩:∃G:Nat,(((limbs B6 R).getD b.length 0*1000000+(limbs B6 R).getD (b.length-1) 0)*1000000+(limbs B6 R).getD (b.length-2) 0)/(b.getD (b.length-1) 0*1000000+b.getD (b.length-2) 0+1)=G:=⟨_,(Int.eq_ofNat_of_zero_le rb.1).choose_spec⟩
  have G1:G<1000000:=by
   have:(((limbs B6 R).getD b.length 0*1000000+(limbs B6 R).getD (b.length-1) 0)*1000000+(limbs B6 R).getD (b.length-2) 0)/(b.getD (b.length-1) 0*1000000+b.getD (b.length-2) 0+1)<1000000:=rb.2.1
   omega
  have G2:n*G≤R:=by
   have h3:(((limbs B6 R).getD b.length 0*1000000+(limbs B6 R).getD (b.length-1) 0)*1000000+(limbs B6 R).getD (b.length-2) 0)/(b.getD (b.length-1) 0*1000000+b.getD (b.length-2) 0+1)*(n:Int)≤R:=rb.2.2
   rw[hG,Int.mul_comm] at h3
   exact_mod_cast h3
  have iG:InB B6 [(G:Int)]:=fun x hx=>by
   have:x=G:=by simpa using hx
   subst this
   exact ⟨by omega,by show (G:Int)<1000000;omega⟩
  have eG:(valB B6 b*valB B6 [(G:Int)]).toNat=n*G:=by
   rw[vn,show valB B6 [(G:Int)]=G by simp[valB],← Int.natCast_mul,Int.toNat_natCast]
  rcases m with _ | m
  ·have hr0:r=0:=by
    have:(divK B6 n a 0).2=0:=rfl
    omega
   rw[hr0,limbs_zero] at hL
   skip
   (refine Br.mk (fun _=>?_) (fun _=>?_))
   ·have hlt:0<a.length:=by omega
    (repeat'((conv=>whnf);first|refine Zn ?_|fail))
    refine ix_at (a.length-1) (by omega) ?_
    (repeat'((conv=>whnf);first|refine Zg fun _=>?_|fail))
    (conv=>whnf)
    refine Own.r ?_
    (repeat'((conv=>whnf);first|refine Zn ?_|refine Zj ?_|fail))
    (conv=>whnf)
    rw[show trimL ([a.getD (a.length-1) 0]++ [])=limbs B6 R from hL]
    (repeat'((conv=>whnf);first|refine Zn ?_|fail))
    refine ix_at (b.length-1) (by omega) ?_
    (repeat'((conv=>whnf);first|refine Zn ?_|fail))
    refine ix_at (b.length-2) (by omega) ?_
    (repeat'((conv=>whnf);first|refine Za ?_|refine Zn ?_|fail))
    rw[hG]
    (repeat'((conv=>whnf);first|refine Zl ?_|fail))
    (conv=>whnf)
    refine Need.mk ⟨jn,iG,by omega,by show 1≤100000;omega⟩ ?_
    rw[eG]
    skip
    (conv=>whnf)
    have lnG:=limbs_mono6 G2
    refine Need.mk ⟨limbs_in (by decide) _,limbs_in (by decide) _,by rw[v6,v6];exact_mod_cast G2,lnG,by omega⟩ ?_
    rw[show (valB B6 (limbs B6 R)-valB B6 (limbs B6 (n*G))).toNat=R-n*G by rw[v6,v6];omega]
    skip
    refine Ask.mk ⟨{ X:=Nat,pre:=fun g=>n*g≤R,mod:=fun g _=>[(9,Ls (limbs B6 (R-n*g))),(11,I g)],heap:=fun _ _=>[V [],V [],V (divK B6 n a (0)).1,V [],.dead],mu:=fun g=>R-n*g },rfl,?_⟩
    (repeat'((conv=>whnf);first|refine Zn ?_|fail))
    refine ⟨⟨(G:Nat),G2,by (repeat'(first|exact trivial|rfl|refine And.intro ?_ ?_|fail))⟩,fun (g:Nat) (hg:n*g≤R)=>?_⟩
    have gB:g<1000000:=Nat.lt_of_mul_lt_mul_left (Nat.lt_of_le_of_lt hg hRn)
    have hc:=cmpL_gen (B:=B6) (by decide) (R-n*g) n
    rw[hb] at hc
    have iR:InB B6 (limbs B6 (R-n*g)):=limbs_in (by decide) _
    have lR':=limbs_mono6 (show R-n*g≤R by omega)
    skip
    refine Need.mk ⟨iR,jn⟩ ?_
    skip
    (refine Br.mk (fun _=>?_) (fun _=>?_))
    ·rename_i hs
     have hle:n≤R-n*g:=sg_ge hc hs
     have lb:=limbs_mono6 hle
     rw[hb] at lb
     skip
     refine Need.mk ⟨iR,jn,by rw[v6,vn];exact_mod_cast hle,lb,by omega⟩ ?_
     rw[show (valB B6 (limbs B6 (R-n*g))-valB B6 b).toNat=R-n*(g+1) by rw[v6,vn,Nat.mul_succ];omega]
     (repeat'((conv=>whnf);first|refine Zn ?_|fail))
     refine ⟨(g+1:Nat),by show R-n*(g+1)<R-n*g;rw[Nat.mul_succ];omega,by show n*(g+1)≤R;rw[Nat.mul_succ];omega,?_⟩
     (repeat'(first|exact trivial|rfl|refine And.intro ?_ ?_|fail))
    ·rename_i hs
     have hlt2:R-n*g<n:=sg_lt hc hs
     obtain ⟨z1,z2⟩:=divK_next hn0 hR hr (show n*g≤R from hg) hlt2
     (repeat'((conv=>whnf);first|refine Zn ?_|fail))
     refine ix_at (a.length-1-(0)) (by omega) ?_
     (repeat'((conv=>whnf);first|refine Zn ?_|fail))
     refine ⟨(1:Nat),by show a.length-(1)<a.length-(0);omega,hlt,?_⟩
     (repeat'(first|exact trivial|rfl|refine And.intro ?_ ?_|omega|fail))
     ·rw[show r9 n a 1=Ls (limbs B6 (divK B6 n a (1)).2.toNat) from rfl,z2,Int.toNat_natCast]
      (repeat'(first|rfl|fail))
     ·exact z1.symm
   ·have e:0=a.length:=by omega
    skip
    (conv=>whnf)
    obtain ⟨y1,y2⟩:=divK_big (B:=B6) (by decide) hnI ha
    rw[← e] at y1 y2
    (repeat'(first|exact trivial|refine And.intro ?_ ?_|fail))
    ·exact y1
    ·rw[← y2,show (divK B6 n a 0).2=0 from rfl,Int.toNat_zero,limbs_zero]
     (repeat'(first|rfl|fail))
  ·have hrt:r=(divK B6 n a (m+1)).2.toNat:=by omega
   have lr:(limbs B6 (divK B6 n a (m+1)).2.toNat).length≤200:=by
    rw[← hrt]
    refine Nat.le_trans (limbs_mono6 (show r≤n by omega)) ?_
    rw[hb];exact hbl
   rw[hrt] at hL
   skip
   (refine Br.mk (fun _=>?_) (fun _=>?_))
   ·have hlt:m+1<a.length:=by omega
    (repeat'((conv=>whnf);first|refine Zn ?_|fail))
    refine ix_at (a.length-1-(m+1)) (by omega) ?_
    (repeat'((conv=>whnf);first|refine Zg fun _=>?_|fail))
    (conv=>whnf)
    refine Own.r ?_
    (repeat'((conv=>whnf);first|refine Zn ?_|refine Zj ?_|fail))
    (conv=>whnf)
    rw[show trimL ([a.getD (a.length-1-(m+1)) 0]++limbs B6 (divK B6 n a (m+1)).2.toNat)=limbs B6 R from hL]
    (repeat'((conv=>whnf);first|refine Zn ?_|fail))
    refine ix_at (b.length-1) (by omega) ?_
    (repeat'((conv=>whnf);first|refine Zn ?_|fail))
    refine ix_at (b.length-2) (by omega) ?_
    (repeat'((conv=>whnf);first|refine Za ?_|refine Zn ?_|fail))
    rw[hG]
    (repeat'((conv=>whnf);first|refine Zl ?_|fail))
    (conv=>whnf)
    refine Need.mk ⟨jn,iG,by omega,by show 1≤100000;omega⟩ ?_
    rw[eG]
    skip
    (conv=>whnf)
    have lnG:=limbs_mono6 G2
    refine Need.mk ⟨limbs_in (by decide) _,limbs_in (by decide) _,by rw[v6,v6];exact_mod_cast G2,lnG,by omega⟩ ?_
    rw[show (valB B6 (limbs B6 R)-valB B6 (limbs B6 (n*G))).toNat=R-n*G by rw[v6,v6];omega]
    skip
    refine Ask.mk ⟨{ X:=Nat,pre:=fun g=>n*g≤R,mod:=fun g _=>[(9,Ls (limbs B6 (R-n*g))),(11,I g)],heap:=fun _ _=>[V [],V [],V (divK B6 n a (m+1)).1,V [],.dead],mu:=fun g=>R-n*g },rfl,?_⟩
    (repeat'((conv=>whnf);first|refine Zn ?_|fail))
    refine ⟨⟨(G:Nat),G2,by (repeat'(first|exact trivial|rfl|refine And.intro ?_ ?_|fail))⟩,fun (g:Nat) (hg:n*g≤R)=>?_⟩
    have gB:g<1000000:=Nat.lt_of_mul_lt_mul_left (Nat.lt_of_le_of_lt hg hRn)
    have hc:=cmpL_gen (B:=B6) (by decide) (R-n*g) n
    rw[hb] at hc
    have iR:InB B6 (limbs B6 (R-n*g)):=limbs_in (by decide) _
    have lR':=limbs_mono6 (show R-n*g≤R by omega)
    skip
    refine Need.mk ⟨iR,jn⟩ ?_
    skip
    (refine Br.mk (fun _=>?_) (fun _=>?_))
    ·rename_i hs
     have hle:n≤R-n*g:=sg_ge hc hs
     have lb:=limbs_mono6 hle
     rw[hb] at lb
     skip
     refine Need.mk ⟨iR,jn,by rw[v6,vn];exact_mod_cast hle,lb,by omega⟩ ?_
     rw[show (valB B6 (limbs B6 (R-n*g))-valB B6 b).toNat=R-n*(g+1) by rw[v6,vn,Nat.mul_succ];omega]
     (repeat'((conv=>whnf);first|refine Zn ?_|fail))
     refine ⟨(g+1:Nat),by show R-n*(g+1)<R-n*g;rw[Nat.mul_succ];omega,by show n*(g+1)≤R;rw[Nat.mul_succ];omega,?_⟩
     (repeat'(first|exact trivial|rfl|refine And.intro ?_ ?_|fail))
    ·rename_i hs
     have hlt2:R-n*g<n:=sg_lt hc hs
     obtain ⟨z1,z2⟩:=divK_next hn0 hR hr (show n*g≤R from hg) hlt2
     (repeat'((conv=>whnf);first|refine Zn ?_|fail))
     refine ix_at (a.length-1-(m+1)) (by omega) ?_
     (repeat'((conv=>whnf);first|refine Zn ?_|fail))
     refine ⟨(m+1+1:Nat),by show a.length-(m+1+1)<a.length-(m+1);omega,hlt,?_⟩
     (repeat'(first|exact trivial|rfl|refine And.intro ?_ ?_|omega|fail))
     ·rw[show r9 n a (m+1+1)=Ls (limbs B6 (divK B6 n a (m+1+1)).2.toNat) from rfl,z2,Int.toNat_natCast]
      (repeat'(first|rfl|fail))
     ·exact z1.symm
   ·have e:m+1=a.length:=by omega
    skip
    (conv=>whnf)
    obtain ⟨y1,y2⟩:=divK_big (B:=B6) (by decide) hnI ha
    rw[← e] at y1 y2
    (repeat'(first|exact trivial|refine And.intro ?_ ?_|fail))
    ·exact y1
    ·rw[y2]
     (repeat'(first|rfl|fail))
def canon6 (b:List Int):Prop:=limbs B6 (valB B6 b).toNat=b
theorem canon6_limbs (m:Nat):canon6 (limbs B6 m):=by
 unfold canon6;rw[v6,Int.toNat_natCast]
theorem canon6_in {b:List Int} (h:canon6 b):InB B6 b:=by
 rw[← h];exact limbs_in (by decide) _
theorem canon6_val {b:List Int} (h:canon6 b):((valB B6 b).toNat:Int)=valB B6 b:=by
 rw[← v6,h]
def c113:Con:=mkCon 125 false fun args K=>match args with
 | [.seq (.int .i64) a,.seq (.int .i64) b]=>Need (InB B6 a∧canon6 b∧(0<(valB B6 b).toNat∧(valB B6 b).toNat<B6^100)∧a.length≤1000) (K (.tup [Ls (limbs B6 (valB B6 a/valB B6 b).toNat),Ls (limbs B6 (valB B6 a%valB B6 b).toNat)]))
 | _=>False
theorem k113:ConOK Tryz.prog c113:=by
 refine conOK_of rfl (enters_of Tryz.func125 (by kernel_rfl) rfl) ?_
 intro args K h
 simp only[c113] at h
 split at h
 ·rename_i a b
  refine ⟨_,h.go,?_⟩
  obtain ⟨ha,hb,hn,hl⟩:=h.ok
  have ht:=tri_of_body (Γ:=[c142,c141,c143,c145,c144,c146]) (by simp[k142,k141,k143,k145,k144,k146]) Tryz.func125 (by simp[Tryz.ntmps125]) rfl (b113 a (valB B6 b).toNat ⟨ha,hn,hl⟩)
  rw[hb,canon6_val hb] at ht
  exact ht
 ·exact h.elim
theorem byteAt_get {s:List UInt8} {i:Nat} (hi:i<s.length):byteAt s i=(s[i].toNat:Int):=by
 unfold byteAt
 rw[show s.getD i 0=s[i] by simp[List.getD_eq_getElem?_getD,hi]]
theorem byteAt_head {s:List UInt8} (h:0<s.length) (c:UInt8):byteAt s 0=c.toNat↔s.headD 0=c:=by
 cases s with
 | nil=>simp at h
 | cons x r=>
  show (x.toNat:Int)=c.toNat↔x=c
  exact ⟨fun e=>UInt8.toNat.inj (by omega),fun e=>by rw[e]⟩
theorem digs_one {s:List UInt8} (h:0<s.length) (hm:byteAt s 0=45):digs s=s.drop 1:=by
 have:=(byteAt_head h 45).1 hm
 unfold digs;rw[if_pos this,List.drop_one]
theorem digs_zero {s:List UInt8} (hm:0<s.length→¬byteAt s 0=45):digs s=s.drop 0:=by
 unfold digs
 rw[List.drop_zero]
 by_cases h:0<s.length
 ·rw[if_neg fun e=>hm h ((byteAt_head h 45).2 e)]
 ·have:s= []:=List.length_eq_zero_iff.1 (by omega)
  subst this;rfl
theorem ck_mem {s:List UInt8} {p i:Nat} (hD:digs s=s.drop p) (hp:p≤i) (hi:i<s.length):s[i]∈digs s:=by
 rw[hD,List.mem_iff_getElem]
 exact ⟨i-p,by rw[List.length_drop];omega,by rw[List.getElem_drop];congr 1;omega⟩
theorem ck_dig {s:List UInt8} {p i:Nat} (hD:digs s=s.drop p) (hp:p≤i) (hi:i<s.length) (hb:byteAt s i<48∨byteAt s i>57):chkI s=11:=by
 unfold chkI
 rw[if_neg]
 rintro ⟨_,_,h3⟩
 have:=h3 _ (ck_mem hD hp hi)
 rw[byteAt_get hi] at hb
 unfold isDig at this
 omega
theorem ck_first {s:List UInt8} {p:Nat} (hD:digs s=s.drop p) (hp:p<s.length):byteAt s p=48↔(digs s).headD 0=48:=by
 rw[hD,List.drop_eq_getElem_cons hp,byteAt_get hp]
 show (s[p].toNat:Int)=48↔s[p]=48
 exact ⟨fun e=>UInt8.toNat.inj (show s[p].toNat=48 by omega),fun e=>by rw[e];rfl⟩
theorem ck_zero {s:List UInt8} {p:Nat} (hD:digs s=s.drop p) (hp:p<s.length) (h:byteAt s p=48) (hl:s.length>1):chkI s=11:=
 chk_bad (.inr (.inl ⟨(ck_first hD hp).1 h,fun e=>by rw[e] at hl;simp at hl⟩))
theorem ck_form {s:List UInt8} {p:Nat} (hD:digs s=s.drop p) (hp:p<s.length) (hz:¬(byteAt s p=48∧s.length>1)) (hd:∀j,p≤j→j<s.length→48≤byteAt s j∧byteAt s j≤57):form s:=by
 refine ⟨fun e=>?_,?_,fun c hc=>?_⟩
 ·have:=congrArg List.length (hD.symm.trans e)
  rw[List.length_drop] at this
  simp at this;omega
 ·by_cases h0:(digs s).headD 0=48
  ·right
   have h1:=(ck_first hD hp).2 h0
   have hl:s.length=1:=by
    have:¬s.length>1:=fun h=>hz ⟨h1,h⟩
    omega
   have hp0:p=0:=by omega
   subst hp0
   match s,hl with
   | [x],_=>
    rw[hD] at h0
    simp at h0
    rw[h0]
  ·exact .inl h0
 ·rw[hD,List.mem_iff_getElem] at hc
  obtain ⟨j,hj,e⟩:=hc
  rw[List.length_drop] at hj
  rw[List.getElem_drop] at e
  have:=hd (p+j) (by omega) (by omega)
  rw[byteAt_get (by omega),e] at this
  unfold isDig;omega
set_option maxHeartbeats 1600000 in
theorem b139 (s:List UInt8):body Tryz.prog [] { asks:=[(0,[])] } true Tryz.f151 [S s] (I (chkI s)):=by
 by_cases hm:0<s.length∧byteAt s 0=45
 ·have hD:=digs_one hm.1 hm.2
  have hL:(digs s).length=s.length-1:=by rw[hD,List.length_drop]
  obtain ⟨hm1,hm2⟩:=hm
  by_cases hz:s.length=1
  ·have hb:chkI s=11:=chk_bad (.inl (List.length_eq_zero_iff.1 (by omega)))
   rw[hb]
   (repeat'((conv=>whnf);first|refine Zg fun _=>?_|refine Zn ?_|refine Z0 ?_|refine Zy ?_|fail))
   (conv=>whnf)
   (repeat'(first|rfl|refine And.intro ?_ ?_|fail))
  by_cases hz2:byteAt s 1=48∧s.length>1
  ·have hb:chkI s=11:=ck_zero hD (by omega) hz2.1 hz2.2
   rw[hb]
   obtain ⟨hz3,hz4⟩:=hz2
   (repeat'((conv=>whnf);first|refine Zg fun _=>?_|refine Zn ?_|refine Z0 ?_|refine Z1 ?_|refine Zy ?_|refine Zm ?_|fail))
   (conv=>whnf)
   (repeat'(first|rfl|refine And.intro ?_ ?_|fail))
  have hz3:¬(byteAt s 1=48)∨(byteAt s 1=48∧¬((s.length:Int)>1)):=by
   by_cases e:byteAt s 1=48
   ·exact .inr ⟨e,fun h=>hz2 ⟨e,by omega⟩⟩
   ·exact .inl e
  rcases hz3 with hz3 | ⟨hz3,hz4⟩
  all_goals first | (exfalso;omega) | skip
  all_goals (
   (repeat'((conv=>whnf);first|refine Zg fun _=>?_|refine Zn ?_|refine Z0 ?_|refine Z1 ?_|refine Zy ?_|refine Zm ?_|fail))
   refine Ask.mk ⟨{ X:=Nat,pre:=fun i=>1≤i∧i≤s.length∧∀j,1≤j→j<i→48≤byteAt s j∧byteAt s j≤57,mod:=fun i _=>[(4,I i)],heap:=fun _ _=>[],mu:=fun i=>s.length-i },rfl,?_⟩
   (repeat'((conv=>whnf);first|refine Zn ?_|fail))
   refine ⟨⟨(1:Nat),⟨Nat.le_refl _,by omega,fun j h1 h2=>by omega⟩,by (repeat'(first|exact trivial|rfl|refine And.intro ?_ ?_|fail))⟩,fun (i:Nat) hi=>?_⟩
   obtain ⟨hi1,hi2,hi3⟩:=hi
   by_cases hlt:i<s.length
   ·by_cases h1:byteAt s i<48
    ·have hb:chkI s=11:=ck_dig hD hi1 hlt (by omega)
     rw[hb]
     (repeat'((conv=>whnf);first|refine Zg fun _=>?_|refine Zn ?_|refine Zj ?_|refine Zy ?_|fail))
     (conv=>whnf)
     (repeat'(first|rfl|refine And.intro ?_ ?_|fail))
    ·by_cases h2:byteAt s i>57
     ·have hb:chkI s=11:=ck_dig hD hi1 hlt (by omega)
      rw[hb]
      (repeat'((conv=>whnf);first|refine Zg fun _=>?_|refine Zn ?_|refine Zj ?_|refine Zy ?_|refine Zm ?_|fail))
      (conv=>whnf)
      (repeat'(first|rfl|refine And.intro ?_ ?_|fail))
     ·(repeat'((conv=>whnf);first|refine Zg fun _=>?_|refine Zn ?_|refine Zj ?_|refine Zy ?_|refine Zm ?_|fail))
      refine ⟨(i+1:Nat),by show s.length-(i+1)<s.length-i;omega,⟨by omega,by omega,fun j h3 h4=>?_⟩,?_⟩
      ·by_cases e:j=i
       ·rw[e];omega
       ·exact hi3 j h3 (by omega)
      ·(repeat'(first|exact trivial|rfl|refine And.intro ?_ ?_|fail))
   ·have e:i=s.length:=by omega
    subst e
    have hf:form s:=ck_form hD (by omega) (by omega) hi3
    rw[chk_form hf,hL]
    by_cases h5:300<s.length-1
    ·first
      | (exfalso;omega)
      | (rw[if_pos h5]
         (repeat'((conv=>whnf);first|refine Zg fun _=>?_|refine Zn ?_|refine Zy ?_|refine Zm ?_|fail))
         (conv=>whnf)
         (repeat'(first|rfl|refine And.intro ?_ ?_|fail)))
    ·rw[if_neg h5]
     (repeat'((conv=>whnf);first|refine Zg fun _=>?_|refine Zn ?_|refine Zm ?_|fail))
     (conv=>whnf)
     (repeat'(first|rfl|refine And.intro ?_ ?_|fail)))
 ·have hD:=digs_zero (s:=s) fun h e=>hm ⟨h,e⟩
  have hL:(digs s).length=s.length-0:=by rw[hD,List.length_drop]
  have hm1:s.length=0∨(0<s.length∧¬byteAt s 0=45):=by
   by_cases e:s.length=0
   ·exact .inl e
   ·exact .inr ⟨by omega,fun h=>hm ⟨by omega,h⟩⟩
  rcases hm1 with hm1 | ⟨hm1,hm2⟩
  ·have hb:chkI s=11:=chk_bad (.inl (List.length_eq_zero_iff.1 (by omega)))
   rw[hb]
   (repeat'((conv=>whnf);first|refine Zg fun _=>?_|refine Zy ?_|refine Zm ?_|fail))
   (conv=>whnf)
   (repeat'(first|rfl|refine And.intro ?_ ?_|fail))
  by_cases hz:s.length=0
  ·have hb:chkI s=11:=chk_bad (.inl (List.length_eq_zero_iff.1 (by omega)))
   rw[hb]
   (repeat'((conv=>whnf);first|refine Zg fun _=>?_|refine Zn ?_|refine Z0 ?_|refine Zy ?_|fail))
   (conv=>whnf)
   (repeat'(first|rfl|refine And.intro ?_ ?_|fail))
  by_cases hz2:byteAt s 0=48∧s.length>1
  ·have hb:chkI s=11:=ck_zero hD (by omega) hz2.1 hz2.2
   rw[hb]
   obtain ⟨hz3,hz4⟩:=hz2
   (repeat'((conv=>whnf);first|refine Zg fun _=>?_|refine Zn ?_|refine Z0 ?_|refine Zy ?_|refine Zm ?_|fail))
   (conv=>whnf)
   (repeat'(first|rfl|refine And.intro ?_ ?_|fail))
  have hz3:¬(byteAt s 0=48)∨(byteAt s 0=48∧¬((s.length:Int)>1)):=by
   by_cases e:byteAt s 0=48
   ·exact .inr ⟨e,fun h=>hz2 ⟨e,by omega⟩⟩
   ·exact .inl e
  rcases hz3 with hz3 | ⟨hz3,hz4⟩
  all_goals first | (exfalso;omega) | skip
  all_goals (
   (repeat'((conv=>whnf);first|refine Zg fun _=>?_|refine Zn ?_|refine Z0 ?_|refine Zy ?_|refine Zm ?_|fail))
   refine Ask.mk ⟨{ X:=Nat,pre:=fun i=>0≤i∧i≤s.length∧∀j,0≤j→j<i→48≤byteAt s j∧byteAt s j≤57,mod:=fun i _=>[(4,I i)],heap:=fun _ _=>[],mu:=fun i=>s.length-i },rfl,?_⟩
   (repeat'((conv=>whnf);first|refine Zn ?_|fail))
   refine ⟨⟨(0:Nat),⟨Nat.le_refl _,by omega,fun j h1 h2=>by omega⟩,by (repeat'(first|exact trivial|rfl|refine And.intro ?_ ?_|fail))⟩,fun (i:Nat) hi=>?_⟩
   obtain ⟨hi1,hi2,hi3⟩:=hi
   by_cases hlt:i<s.length
   ·by_cases h1:byteAt s i<48
    ·have hb:chkI s=11:=ck_dig hD hi1 hlt (by omega)
     rw[hb]
     (repeat'((conv=>whnf);first|refine Zg fun _=>?_|refine Zn ?_|refine Zj ?_|refine Zy ?_|fail))
     (conv=>whnf)
     (repeat'(first|rfl|refine And.intro ?_ ?_|fail))
    ·by_cases h2:byteAt s i>57
     ·have hb:chkI s=11:=ck_dig hD hi1 hlt (by omega)
      rw[hb]
      (repeat'((conv=>whnf);first|refine Zg fun _=>?_|refine Zn ?_|refine Zj ?_|refine Zy ?_|refine Zm ?_|fail))
      (conv=>whnf)
      (repeat'(first|rfl|refine And.intro ?_ ?_|fail))
     ·(repeat'((conv=>whnf);first|refine Zg fun _=>?_|refine Zn ?_|refine Zj ?_|refine Zy ?_|refine Zm ?_|fail))
      refine ⟨(i+1:Nat),by show s.length-(i+1)<s.length-i;omega,⟨by omega,by omega,fun j h3 h4=>?_⟩,?_⟩
      ·by_cases e:j=i
       ·rw[e];omega
       ·exact hi3 j h3 (by omega)
      ·(repeat'(first|exact trivial|rfl|refine And.intro ?_ ?_|fail))
   ·have e:i=s.length:=by omega
    subst e
    have hf:form s:=ck_form hD (by omega) (by omega) hi3
    rw[chk_form hf,hL]
    by_cases h5:300<s.length-0
    ·first
      | (exfalso;omega)
      | (rw[if_pos h5]
         (repeat'((conv=>whnf);first|refine Zg fun _=>?_|refine Zn ?_|refine Zy ?_|refine Zm ?_|fail))
         (conv=>whnf)
         (repeat'(first|rfl|refine And.intro ?_ ?_|fail)))
    ·rw[if_neg h5]
     (repeat'((conv=>whnf);first|refine Zg fun _=>?_|refine Zn ?_|refine Zm ?_|fail))
     (conv=>whnf)
     (repeat'(first|rfl|refine And.intro ?_ ?_|fail)))
def c139:Con:=mkCon 151 true fun args K=>match args with | [.str s]=>K (I (chkI s)) | _=>False
theorem k139:ConOK Tryz.prog c139:=by
 refine conOK_of rfl (enters_of Tryz.func151 (by kernel_rfl) rfl) ?_
 intro args K h
 simp only[c139] at h
 split at h
 ·rename_i s;exact ⟨_,h,tri_of_body (Γ:=[]) (by simp) Tryz.func151 (by simp[Tryz.ntmps151]) rfl (b139 s)⟩
 ·exact h.elim
theorem b110 (a b:List UInt8):body Tryz.prog [c139] {} true Tryz.f122 [S a,S b] (I (chk2 a b)):=by
 unfold chk2
 skip
 (refine Br.mk (fun _=>?_) (fun _=>?_))
 ·rename_i h
  rw[if_pos h]
  skip
  (conv=>whnf)
  (repeat'(first|rfl|refine And.intro ?_ ?_|fail))
 ·rename_i h
  rw[if_neg h]
  skip
  (conv=>whnf)
  (repeat'(first|rfl|refine And.intro ?_ ?_|fail))
def c110:Con:=mkCon 122 true fun args K=>match args with | [.str a,.str b]=>K (I (chk2 a b)) | _=>False
theorem k110:ConOK Tryz.prog c110:=by
 refine conOK_of rfl (enters_of Tryz.func122 (by kernel_rfl) rfl) ?_
 intro args K h
 simp only[c110] at h
 split at h
 ·rename_i a b;exact ⟨_,h,tri_of_body (Γ:=[c139]) (by simp[k139]) Tryz.func122 (by simp[Tryz.ntmps122]) rfl (b110 a b)⟩
 ·exact h.elim
def sgP' (s:List UInt8):Nat:=if s.headD 0=45 then 1 else 0
theorem digs_drop (s:List UInt8):digs s=s.drop (sgP' s):=by
 unfold digs sgP'
 split
 ·rw[List.drop_one]
 ·rw[List.drop_zero]
def pfx (s:List UInt8) (i:Nat):Nat:=nat10 ((s.take i).drop (sgP' s))
theorem pfx_zero (s:List UInt8):pfx s 0=0:=by simp[pfx,nat10]
theorem pfx_all (s:List UInt8):pfx s s.length=nat10 (digs s):=by
 unfold pfx;rw[List.take_length,digs_drop]
theorem pfx_lt {s:List UInt8} (hf:form s) {i:Nat} (hi:i≤16):pfx s i<10000000000000000:=by
 have hb:=nat10_lt ((s.take i).drop (sgP' s)) fun c hc=>hf.2.2 c (by rw[digs_drop];rw[List.drop_take] at hc;exact List.mem_of_mem_take hc)
 have hp:(10:Nat)^ ((s.take i).drop (sgP' s)).length≤10^16:=Nat.pow_le_pow_right (by omega) (by rw[List.length_drop,List.length_take];omega)
 have h16:(10:Nat)^16=10000000000000000:=by decide
 unfold pfx;omega
theorem pfx_sign {s:List UInt8} (hf:form s) {i:Nat} (hi:i<s.length) (h:byteAt s i=45):pfx s (i+1)=pfx s i:=by
 by_cases hp:sgP' s≤i
 ·have:=hf.2.2 _ (ck_mem (digs_drop s) hp hi)
  rw[byteAt_get hi] at h
  unfold isDig at this;omega
 ·unfold pfx
  rw[List.drop_eq_nil_of_le (by rw[List.length_take];omega),List.drop_eq_nil_of_le (by rw[List.length_take];omega)]
theorem pfx_dig {s:List UInt8} (hf:form s) {i:Nat} (hi:i<s.length) (h:¬byteAt s i=45):(48≤byteAt s i∧byteAt s i≤57)∧(pfx s (i+1):Int)=10*pfx s i+(byteAt s i-48):=by
 by_cases hp:sgP' s≤i
 ·have hg:=hf.2.2 _ (ck_mem (digs_drop s) hp hi)
  have e:(s.take (i+1)).drop (sgP' s)=(s.take i).drop (sgP' s)++ [s[i]]:=by
   rw[List.take_succ_eq_append_getElem hi,List.drop_append_of_le_length (by rw[List.length_take];omega)]
  rw[byteAt_get hi]
  unfold pfx
  rw[e,nat10_snoc]
  unfold isDig at hg
  omega
 ·refine absurd ?_ h
  have h0:i=0∧s.headD 0=45:=by
   unfold sgP' at hp
   split at hp
   ·exact ⟨by omega,by assumption⟩
   ·omega
  rw[h0.1]
  exact (byteAt_head (by omega) 45).2 h0.2
theorem b140n (s:List UInt8) (h:17<s.length):body Tryz.prog [] { asks:=[(0,[])] } true Tryz.f152 [S s] (.tup [I 0,.val (.bool false)]):=by
 (repeat'((conv=>whnf);first|refine Zg fun _=>?_|refine Zy ?_|fail))
 (conv=>whnf)
 (repeat'(first|exact trivial|rfl|refine And.intro ?_ ?_|fail))
theorem b140y (s:List UInt8) (hf:form s) (hl:s.length≤17):body Tryz.prog [] { asks:=[(0,[])] } true Tryz.f152 [S s] (.tup [I (valI s),.val (.bool true)]):=by
 have h0:0<s.length:=Nat.pos_of_ne_zero fun e=>hf.1 (by rw[List.length_eq_zero_iff.1 e];rfl)
 (repeat'((conv=>whnf);first|refine Zg fun _=>?_|refine Zm ?_|fail))
 refine Ask.mk ⟨{ X:=Nat,pre:=fun i=>i≤s.length,mod:=fun i _=>[(4,I (pfx s i)),(5,I i)],heap:=fun _ _=>[],mu:=fun i=>s.length-i },rfl,?_⟩
 (repeat'((conv=>whnf);first|refine Zn ?_|fail))
 refine ⟨⟨(0:Nat),Nat.zero_le _,?_⟩,fun (i:Nat) (hi:i≤s.length)=>?_⟩
 ·(repeat'(first|exact trivial|rfl|refine And.intro ?_ ?_|fail))
  rw[pfx_zero];rfl
 by_cases hlt:i<s.length
 ·have hb:=pfx_lt hf (i:=i) (by omega)
  by_cases hs:byteAt s i=45
  ·have e:=pfx_sign hf hlt hs
   (repeat'((conv=>whnf);first|refine Zg fun _=>?_|refine Zn ?_|refine Zj ?_|refine Zy ?_|refine Zm ?_|fail))
   refine ⟨(i+1:Nat),by show s.length-(i+1)<s.length-i;omega,hlt,?_⟩
   (repeat'(first|exact trivial|rfl|refine And.intro ?_ ?_|omega|fail))
  ·obtain ⟨e1,e2⟩:=pfx_dig hf hlt hs
   (repeat'((conv=>whnf);first|refine Zg fun _=>?_|refine Zn ?_|refine Zj ?_|refine Zy ?_|fail))
   refine ⟨(i+1:Nat),by show s.length-(i+1)<s.length-i;omega,hlt,?_⟩
   (repeat'(first|exact trivial|rfl|refine And.intro ?_ ?_|omega|fail))
 ·have e:i=s.length:=by omega
  subst e
  have hn:pfx s s.length<1000000000000000000:=by
   rw[pfx_all]
   have hb:=nat10_lt (digs s) hf.2.2
   have hp:(10:Nat)^ (digs s).length≤10^18:=Nat.pow_le_pow_right (by omega) (by have:=digs_len s;omega)
   have h18:(10:Nat)^18=1000000000000000000:=by decide
   omega
  by_cases hm:byteAt s 0=45
  ·have hv:valI s= -(pfx s s.length:Int):=by
    have hm':=(byteAt_head h0 45).1 hm
    rw[pfx_all];unfold valI digs;rw[if_pos hm',if_pos hm']
   rw[hv]
   (repeat'((conv=>whnf);first|refine Zg fun _=>?_|refine Zn ?_|refine Z0 ?_|refine Zy ?_|refine Zm ?_|fail))
   (conv=>whnf)
   (repeat'(first|exact trivial|rfl|refine And.intro ?_ ?_|fail))
  ·have hv:valI s=(pfx s s.length:Int):=by
    have hm':¬s.headD 0=45:=fun e=>hm ((byteAt_head h0 45).2 e)
    rw[pfx_all];unfold valI digs;rw[if_neg hm',if_neg hm']
   rw[hv]
   (repeat'((conv=>whnf);first|refine Zg fun _=>?_|refine Zn ?_|refine Z0 ?_|refine Zm ?_|fail))
   (conv=>whnf)
   (repeat'(first|exact trivial|rfl|refine And.intro ?_ ?_|fail))
def c140:Con:=mkCon 152 true fun args K=>match args with
 | [.str s]=>Need (form s) (Br (17<s.length) (K (.tup [I 0,.val (.bool false)])) (K (.tup [I (valI s),.val (.bool true)])))
 | _=>False
theorem k140:ConOK Tryz.prog c140:=by
 refine conOK_of rfl (enters_of Tryz.func152 (by kernel_rfl) rfl) ?_
 intro args K h
 simp only[c140] at h
 split at h
 ·rename_i s
  obtain ⟨hf,h⟩:=h
  by_cases hs:17<s.length
  ·exact ⟨_,h.yes hs,tri_of_body (Γ:=[]) (by simp) Tryz.func152 (by simp[Tryz.ntmps152]) rfl (b140n s hs)⟩
  ·exact ⟨_,h.no hs,tri_of_body (Γ:=[]) (by simp) Tryz.func152 (by simp[Tryz.ntmps152]) rfl (b140y s hf (by omega))⟩
 ·exact h.elim
theorem b111 (a b:List UInt8) (ha:form a) (hb:form b) (x y:Int) (o:Bool) (h:(x,y,o)=if 17<a.length then (0,0,false) else if 17<b.length then (valI a,0,false) else (valI a,valI b,true)):body Tryz.prog [c140] {} true Tryz.f123 [S a,S b] (.tup [I x,I y,.val (.bool o)]):=by
 by_cases h1:17<a.length
 ·rw[if_pos h1] at h
  cases h
  (repeat'((conv=>whnf);first|refine Zn ?_|refine Zy ?_|fail))
  (conv=>whnf)
  (repeat'(first|exact trivial|rfl|refine And.intro ?_ ?_|fail))
 ·rw[if_neg h1] at h
  by_cases h2:17<b.length
  ·rw[if_pos h2] at h
   cases h
   (repeat'((conv=>whnf);first|refine Zn ?_|refine Zy ?_|refine Zm ?_|fail))
   (conv=>whnf)
   (repeat'(first|exact trivial|rfl|refine And.intro ?_ ?_|fail))
  ·rw[if_neg h2] at h
   cases h
   (repeat'((conv=>whnf);first|refine Zn ?_|refine Zm ?_|fail))
   (conv=>whnf)
   (repeat'(first|exact trivial|rfl|refine And.intro ?_ ?_|fail))
def c111:Con:=mkCon 123 true fun args K=>match args with
 | [.str a,.str b]=>Need (form a∧form b) (Br (a.length≤17∧b.length≤17) (K (.tup [I (valI a),I (valI b),.val (.bool true)])) (Br (17<a.length) (K (.tup [I 0,I 0,.val (.bool false)])) (K (.tup [I (valI a),I 0,.val (.bool false)]))))
 | _=>False
theorem k111:ConOK Tryz.prog c111:=by
 refine conOK_of rfl (enters_of Tryz.func123 (by kernel_rfl) rfl) ?_
 intro args K h
 simp only[c111] at h
 split at h
 ·rename_i a b
  obtain ⟨⟨ha,hb⟩,h⟩:=h
  have go:=fun x y o hh=>tri_of_body (Γ:=[c140]) (by simp[k140]) Tryz.func123 (by simp[Tryz.ntmps123]) rfl (b111 a b ha hb x y o hh)
  by_cases hs:a.length≤17∧b.length≤17
  ·exact ⟨_,h.yes hs,go _ _ _ (by rw[if_neg (by omega),if_neg (by omega)])⟩
  ·by_cases h1:17<a.length
   ·exact ⟨_,(h.no hs).yes h1,go _ _ _ (by rw[if_pos h1])⟩
   ·exact ⟨_,(h.no hs).no h1,go _ _ _ (by rw[if_neg h1,if_pos (by omega)])⟩
 ·exact h.elim
def gfx (D:List UInt8) (st i:Nat):Nat:=nat10 ((D.take i).drop st)
theorem gfx_zero (D:List UInt8) (st:Nat):gfx D st st=0:=by
 unfold gfx
 rw[List.drop_eq_nil_of_le (by rw[List.length_take];omega)];rfl
theorem gfx_lt {D:List UInt8} (hd:∀c∈D,isDig c) {st i:Nat} (h:i≤st+6):gfx D st i<1000000:=by
 have hb:=nat10_lt ((D.take i).drop st) fun c hc=>hd c (List.mem_of_mem_take (List.mem_of_mem_drop hc))
 have hp:(10:Nat)^ ((D.take i).drop st).length≤10^6:=Nat.pow_le_pow_right (by omega) (by rw[List.length_drop,List.length_take];omega)
 have h6:(10:Nat)^6=1000000:=by decide
 unfold gfx;omega
theorem gfx_dig {D:List UInt8} (hd:∀c∈D,isDig c) {st i:Nat} (hs:st≤i) (hi:i<D.length):(48≤byteAt D i∧byteAt D i≤57)∧(gfx D st (i+1):Int)=10*gfx D st i+(byteAt D i-48):=by
 have hg:=hd _ (List.getElem_mem hi)
 have e:(D.take (i+1)).drop st=(D.take i).drop st++ [D[i]]:=by
  rw[List.take_succ_eq_append_getElem hi,List.drop_append_of_le_length (by rw[List.length_take];omega)]
 rw[byteAt_get hi]
 unfold gfx
 rw[e,nat10_snoc]
 unfold isDig at hg
 omega
set_option maxHeartbeats 1600000 in
theorem b112y (s:List UInt8) (h:form s∧(digs s).length≤600) (hm:s.headD 0=45):body Tryz.prog [c141] { asks:=[(0,[2]),(2,[])] } false Tryz.f124 [S s] (.agg [.bl (s.headD 0=45) inferInstance,Ls (limbs B6 (nat10 (digs s)))]):=by
 obtain ⟨hf,hl⟩:=h
 have h0:0<s.length:=Nat.pos_of_ne_zero fun e=>hf.1 (by rw[List.length_eq_zero_iff.1 e];rfl)
 have hd:=hf.2.2
 have hb:byteAt s 0=45:=(byteAt_head h0 45).2 hm
 have hD:=digs_one h0 hb
 rw[hD] at hd hl ⊢
 have hL:(s.drop 1).length=(s.drop 1).length:=rfl
 have e6:(10:Nat)^6=B6:=by decide
 skip
 refine Own.l ?_
 skip
 refine Own.l ?_
 skip
 (conv=>whnf)
 refine Own.r ?_
 refine ⟨1,.int .i64,3,?_⟩
 (repeat'((conv=>whnf);first|refine Zg fun _=>?_|refine Zn ?_|refine Z0 ?_|refine Z1 ?_|refine Zy ?_|fail))
 (conv=>whnf)
 refine Ask.mk ⟨{ X:=Nat,pre:=fun k=>6*k<(s.drop 1).length+6,mod:=fun k _=>[(4,I (((s.drop 1).length:Int)-6*k))],heap:=fun k H=>[hget H 0,.cells [.val (.bool true),.ref 2 1] 143,V (rdG (s.drop 1) k)],mu:=fun k=>(s.drop 1).length+6-6*k,objs:=[2] },rfl,?_⟩
 (repeat'((conv=>whnf);first|refine Zn ?_|fail))
 refine ⟨⟨(0:Nat),by show 6*0< _;omega,?_⟩,fun (k:Nat) hk=>?_⟩
 ·(repeat'(first|exact trivial|rfl|exact Nat.one_pos|refine And.intro ?_ ?_|fail))
 have hk:6*k<(s.drop 1).length+6:=hk
 have hrl:=(rdG_spec hd k hk).1
 by_cases hlt:6*k<(s.drop 1).length
 ·obtain ⟨st,hst⟩:∃st,(s.drop 1).length-6*(k+1)=st:=⟨_,rfl⟩
  obtain ⟨en,hen⟩:∃en,(s.drop 1).length-6*k=en:=⟨_,rfl⟩
  (repeat'((conv=>whnf);first|refine Zn ?_|refine Zy ?_|fail))
  refine Ask.mk ⟨{ X:=Nat,pre:=fun i=>st≤i∧i≤en,mod:=fun i _=>[(5,I (gfx (s.drop 1) st i)),(6,I i)],heap:=fun i H=>[hget H 0,.cells [.val (.bool true),.ref 2 1] 143,V (rdG (s.drop 1) k)],mu:=fun i=>en-i },rfl,?_⟩
  (repeat'((conv=>whnf);first|refine Zn ?_|fail))
  refine ⟨⟨(st:Nat),⟨Nat.le_refl _,by omega⟩,?_⟩,fun (i:Nat) hi=>?_⟩
  ·(repeat'(first|exact trivial|rfl|refine And.intro ?_ ?_|omega|fail))
   rw[gfx_zero];rfl
  obtain ⟨hi1,hi2⟩:=hi
  by_cases hlt2:i<en
  ·have hg:=gfx_lt hd (st:=st) (i:=i) (by omega)
   obtain ⟨e1,e2⟩:=gfx_dig hd hi1 (show i<(s.drop 1).length by omega)
   (repeat'((conv=>whnf);first|refine Zg fun _=>?_|refine Zn ?_|refine Zj ?_|refine Zy ?_|fail))
   refine ⟨(i+1:Nat),by show en-(i+1)<en-i;omega,⟨by omega,hlt2⟩,?_⟩
   (repeat'(first|exact trivial|rfl|refine And.intro ?_ ?_|omega|fail))
  ·have e:i=en:=by omega
   subst e
   (repeat'((conv=>whnf);first|refine Zl ?_|refine Zm ?_|fail))
   try (
    refine Need.mk (show (rdG (s.drop 1) k).length+1≤17592186044416 by omega) ?_
    (repeat'((conv=>whnf);first|refine Zn ?_|fail)))
   refine ⟨(k+1:Nat),by show (s.drop 1).length+6-6*(k+1)<(s.drop 1).length+6-6*k;omega,by show 6*(k+1)<(s.drop 1).length+6;omega,?_⟩
   (repeat'(first|exact trivial|rfl|exact Nat.one_pos|refine And.intro ?_ ?_|omega|fail))
   show rdG (s.drop 1) k++ [((gfx (s.drop 1) st i:Nat):Int)]=rdG (s.drop 1) k++ [((nat10 (grp (s.drop 1) k):Nat):Int)]
   unfold gfx grp
   rw[hst,hen]
 ·have hr:=rdG_all hd hk (by omega)
  rw[e6] at hr
  (repeat'((conv=>whnf);first|refine Zm ?_|fail))
  (conv=>whnf)
  (repeat'(first|exact trivial|refine And.intro ?_ ?_|fail))
  ·exact hm
  ·exact hr
set_option maxHeartbeats 1600000 in
theorem b112n (s:List UInt8) (h:form s∧(digs s).length≤600) (hm:¬s.headD 0=45):body Tryz.prog [c141] { asks:=[(0,[2]),(2,[])] } false Tryz.f124 [S s] (.agg [.bl (s.headD 0=45) inferInstance,Ls (limbs B6 (nat10 (digs s)))]):=by
 obtain ⟨hf,hl⟩:=h
 have h0:0<s.length:=Nat.pos_of_ne_zero fun e=>hf.1 (by rw[List.length_eq_zero_iff.1 e];rfl)
 have hd:=hf.2.2
 have hb:¬byteAt s 0=45:=fun e=>hm ((byteAt_head h0 45).1 e)
 have hD:digs s=s:=digs_zero fun _=>hb
 rw[hD] at hd hl ⊢
 have hL:(s).length=(s).length:=rfl
 have e6:(10:Nat)^6=B6:=by decide
 skip
 refine Own.l ?_
 skip
 refine Own.l ?_
 skip
 (conv=>whnf)
 refine Own.r ?_
 refine ⟨1,.int .i64,3,?_⟩
 (repeat'((conv=>whnf);first|refine Zg fun _=>?_|refine Zn ?_|refine Z0 ?_|refine Zm ?_|fail))
 (conv=>whnf)
 refine Ask.mk ⟨{ X:=Nat,pre:=fun k=>6*k<(s).length+6,mod:=fun k _=>[(4,I (((s).length:Int)-6*k))],heap:=fun k H=>[hget H 0,.cells [.val (.bool false),.ref 2 1] 143,V (rdG (s) k)],mu:=fun k=>(s).length+6-6*k,objs:=[2] },rfl,?_⟩
 (repeat'((conv=>whnf);first|refine Zn ?_|fail))
 refine ⟨⟨(0:Nat),by show 6*0< _;omega,?_⟩,fun (k:Nat) hk=>?_⟩
 ·(repeat'(first|exact trivial|rfl|exact Nat.one_pos|refine And.intro ?_ ?_|fail))
 have hk:6*k<(s).length+6:=hk
 have hrl:=(rdG_spec hd k hk).1
 by_cases hlt:6*k<(s).length
 ·obtain ⟨st,hst⟩:∃st,(s).length-6*(k+1)=st:=⟨_,rfl⟩
  obtain ⟨en,hen⟩:∃en,(s).length-6*k=en:=⟨_,rfl⟩
  (repeat'((conv=>whnf);first|refine Zn ?_|refine Zy ?_|fail))
  refine Ask.mk ⟨{ X:=Nat,pre:=fun i=>st≤i∧i≤en,mod:=fun i _=>[(5,I (gfx (s) st i)),(6,I i)],heap:=fun i H=>[hget H 0,.cells [.val (.bool false),.ref 2 1] 143,V (rdG (s) k)],mu:=fun i=>en-i },rfl,?_⟩
  (repeat'((conv=>whnf);first|refine Zn ?_|fail))
  refine ⟨⟨(st:Nat),⟨Nat.le_refl _,by omega⟩,?_⟩,fun (i:Nat) hi=>?_⟩
  ·(repeat'(first|exact trivial|rfl|refine And.intro ?_ ?_|omega|fail))
   rw[gfx_zero];rfl
  obtain ⟨hi1,hi2⟩:=hi
  by_cases hlt2:i<en
  ·have hg:=gfx_lt hd (st:=st) (i:=i) (by omega)
   obtain ⟨e1,e2⟩:=gfx_dig hd hi1 (show i<(s).length by omega)
   (repeat'((conv=>whnf);first|refine Zg fun _=>?_|refine Zn ?_|refine Zj ?_|refine Zy ?_|fail))
   refine ⟨(i+1:Nat),by show en-(i+1)<en-i;omega,⟨by omega,hlt2⟩,?_⟩
   (repeat'(first|exact trivial|rfl|refine And.intro ?_ ?_|omega|fail))
  ·have e:i=en:=by omega
   subst e
   (repeat'((conv=>whnf);first|refine Zn ?_|refine Zl ?_|refine Zm ?_|fail))
   try (
    refine Need.mk (show (rdG (s) k).length+1≤17592186044416 by omega) ?_
    skip)
   refine ⟨(k+1:Nat),by show (s).length+6-6*(k+1)<(s).length+6-6*k;omega,by show 6*(k+1)<(s).length+6;omega,?_⟩
   (repeat'(first|exact trivial|rfl|exact Nat.one_pos|refine And.intro ?_ ?_|omega|fail))
   show rdG (s) k++ [((gfx (s) st i:Nat):Int)]=rdG (s) k++ [((nat10 (grp (s) k):Nat):Int)]
   unfold gfx grp
   rw[hst,hen]
 ·have hr:=rdG_all hd hk (by omega)
  rw[e6] at hr
  (repeat'((conv=>whnf);first|refine Zm ?_|fail))
  (conv=>whnf)
  (repeat'(first|exact trivial|refine And.intro ?_ ?_|fail))
  ·exact hm
  ·exact hr
theorem b112 (s:List UInt8) (h:form s∧(digs s).length≤600):body Tryz.prog [c141] { asks:=[(0,[2]),(2,[])] } false Tryz.f124 [S s] (.agg [.bl (s.headD 0=45) inferInstance,Ls (limbs B6 (nat10 (digs s)))]):=by
 by_cases hm:s.headD 0=45
 ·exact b112y s h hm
 ·exact b112n s h hm
def c112:Con:=mkCon 124 false fun args K=>match args with | [.str s]=>Need (form s∧(digs s).length≤600) (K (.agg [.bl (s.headD 0=45) inferInstance,Ls (limbs B6 (nat10 (digs s)))])) | _=>False
theorem k112:ConOK Tryz.prog c112:=by
 refine conOK_of rfl (enters_of Tryz.func124 (by kernel_rfl) rfl) ?_
 intro args K h
 simp only[c112] at h
 split at h
 ·rename_i s;exact ⟨_,h.go,tri_of_body (Γ:=[c141]) (by simp[k141]) Tryz.func124 (by simp[Tryz.ntmps124]) rfl (b112 s h.ok)⟩
 ·exact h.elim
theorem b84 (a b:Int) (h:(0≤a∧a≤4611686018427387904)∧(0≤b∧b≤4611686018427387904)):body Tryz.prog [] { asks:=[(0,[])] } true Tryz.f89 [I a,I b] (I (Int.gcd a b)):=by
 obtain ⟨ha,hb⟩:=h
 skip
 refine Ask.mk ⟨{ X:=Int × Int,pre:=fun z=>Int.gcd z.1 z.2=Int.gcd a b∧(0≤z.1∧z.1≤4611686018427387904)∧(0≤z.2∧z.2≤4611686018427387904),mod:=fun z _=>[(0,I z.1),(1,I z.2)],heap:=fun _ _=>[],mu:=fun z=>z.2.natAbs },rfl,?_⟩
 (repeat'((conv=>whnf);first|refine Zn ?_|fail))
 refine ⟨⟨(a,b),⟨rfl,ha,hb⟩,by (repeat'(first|exact trivial|rfl|refine And.intro ?_ ?_|fail))⟩,fun (z:Int × Int) hz=>?_⟩
 obtain ⟨z1,z2,z3⟩:=hz
 skip
 (refine Br.mk (fun _=>?_) (fun _=>?_))
 ·rename_i hy
  have hm:(z.1.tmod z.2).natAbs<z.2.natAbs:=by rw[Int.natAbs_tmod];exact Nat.mod_lt _ (by omega)
  have hm0:0≤z.1.tmod z.2:=Int.tmod_nonneg _ z2.1
  (repeat'((conv=>whnf);first|refine Za ?_|(apply Pin.mk;apply Exists.intro)|apply Pinned.mk rfl rfl|fail))
  (conv=>whnf)
  refine ⟨(z.2,z.1.tmod z.2),hm,⟨by rw[← z1];exact gcd_step _ _,z3,hm0,by show z.1.tmod z.2≤ _;omega⟩,?_⟩
  (repeat'(first|exact trivial|rfl|refine And.intro ?_ ?_|fail))
  exact (Int.tmod_eq_emod_of_nonneg z2.1).symm
 ·rename_i hy
  have hy:z.2=0:=by omega
  have hg:((Int.gcd a b:Nat):Int)=z.1:=by
   rw[← z1,hy,Int.gcd_zero_right]
   omega
  rw[hg]
  skip
  (conv=>whnf)
  (repeat'(first|rfl|refine And.intro ?_ ?_|fail))
def c84:Con:=mkCon 89 true fun args K=>match args with | [.val (.int .i64 a),.val (.int .i64 b)]=>Need ((0≤a∧a≤4611686018427387904)∧(0≤b∧b≤4611686018427387904)) (K (I (Int.gcd a b))) | _=>False
theorem k84:ConOK Tryz.prog c84:=by
 refine conOK_of rfl (enters_of Tryz.func89 (by kernel_rfl) rfl) ?_
 intro args K h
 simp only[c84] at h
 split at h
 ·rename_i a b;exact ⟨_,h.go,tri_of_body (Γ:=[]) (by simp) Tryz.func89 (by simp[Tryz.ntmps89]) rfl (b84 a b h.ok)⟩
 ·exact h.elim
theorem gfx_lt18 {D:List UInt8} (hd:∀c∈D,isDig c) {i:Nat} (h:i≤17):gfx D 0 i<100000000000000000:=by
 have hb:=nat10_lt ((D.take i).drop 0) fun c hc=>hd c (List.mem_of_mem_take (List.mem_of_mem_drop hc))
 have hp:(10:Nat)^ ((D.take i).drop 0).length≤10^17:=Nat.pow_le_pow_right (by omega) (by rw[List.length_drop,List.length_take];omega)
 have h6:(10:Nat)^17=100000000000000000:=by decide
 unfold gfx;omega
theorem gfx_all (D:List UInt8):gfx D 0 D.length=nat10 D:=by
 unfold gfx;rw[List.take_length,List.drop_zero]
theorem b85 (s:List UInt8) (h:(∀c∈s,isDig c)∧s.length≤18):body Tryz.prog [] { asks:=[(0,[])] } true Tryz.f90 [S s] (I (nat10 s)):=by
 obtain ⟨hd,hl⟩:=h
 skip
 refine Ask.mk ⟨{ X:=Nat,pre:=fun i=>i≤s.length,mod:=fun i _=>[(3,I (gfx s 0 i)),(4,I i)],heap:=fun _ _=>[],mu:=fun i=>s.length-i },rfl,?_⟩
 (repeat'((conv=>whnf);first|refine Zn ?_|fail))
 refine ⟨⟨(0:Nat),Nat.zero_le _,?_⟩,fun (i:Nat) (hi:i≤s.length)=>?_⟩
 ·(repeat'(first|exact trivial|rfl|refine And.intro ?_ ?_|fail))
  all_goals (rw[gfx_zero];rfl)
 by_cases hlt:i<s.length
 ·have hg:=gfx_lt18 hd (i:=i) (by omega)
  obtain ⟨e1,e2⟩:=gfx_dig hd (Nat.zero_le _) hlt
  (repeat'((conv=>whnf);first|refine Zg fun _=>?_|refine Zn ?_|refine Zj ?_|refine Zy ?_|fail))
  refine ⟨(i+1:Nat),by show s.length-(i+1)<s.length-i;omega,hlt,?_⟩
  (repeat'(first|exact trivial|rfl|refine And.intro ?_ ?_|omega|fail))
 ·have e:i=s.length:=by omega
  subst e
  rw[← gfx_all]
  (repeat'((conv=>whnf);first|refine Zg fun _=>?_|refine Zm ?_|fail))
  (conv=>whnf)
  (repeat'(first|rfl|refine And.intro ?_ ?_|fail))
def c85:Con:=mkCon 90 true fun args K=>match args with | [.str s]=>Need ((∀c∈s,isDig c)∧s.length≤18) (K (I (nat10 s))) | _=>False
theorem k85:ConOK Tryz.prog c85:=by
 refine conOK_of rfl (enters_of Tryz.func90 (by kernel_rfl) rfl) ?_
 intro args K h
 simp only[c85] at h
 split at h
 ·rename_i s;exact ⟨_,h.go,tri_of_body (Γ:=[]) (by simp) Tryz.func90 (by simp[Tryz.ntmps90]) rfl (b85 s h.ok)⟩
 ·exact h.elim
noncomputable instance (s:List UInt8):Decidable (okD s):=Classical.propDecidable _
theorem okD_bad {s:List UInt8} {i:Nat} (hi:i<s.length) (hb:byteAt s i<48∨byteAt s i>57):¬okD s:=by
 rw[okD_iff]
 rintro ⟨_,h3,_⟩
 have:=h3 _ (List.getElem_mem hi)
 rw[byteAt_get hi] at hb
 unfold isDig at this
 omega
theorem b83 (s:List UInt8):body Tryz.prog [] { asks:=[(0,[])] } true Tryz.f88 [S s] (.bl (okD s) inferInstance):=by
 by_cases h0:s.length=0
 ·have hn:¬okD s:=by
   rw[okD_iff];exact fun h=>h.1 (List.length_eq_zero_iff.1 h0)
  (repeat'((conv=>whnf);first|refine Zg fun _=>?_|refine Zy ?_|fail))
  (conv=>whnf)
  skip
  exact hn
 by_cases h1:s.length>1∧byteAt s 0=48
 ·obtain ⟨h1,h2⟩:=h1
  have hn:¬okD s:=by
   rw[okD_iff]
   rintro ⟨_,_,h3⟩
   have:=(byteAt_head (s:=s) (by omega) 48).1 h2
   rcases h3 with h3 | h3
   ·omega
   ·exact h3 this
  (repeat'((conv=>whnf);first|refine Zg fun _=>?_|refine Zn ?_|refine Z0 ?_|refine Zy ?_|refine Zm ?_|fail))
  (conv=>whnf)
  skip
  exact hn
 have h2:¬((s.length:Int)>1)∨((s.length:Int)>1∧¬(byteAt s 0=48)):=by
  by_cases e:byteAt s 0=48
  ·exact .inl fun h=>h1 ⟨by omega,e⟩
  ·by_cases e2:s.length>1
   ·exact .inr ⟨by omega,e⟩
   ·exact .inl (by omega)
 have h3:s.length=1∨s.headD 0≠48:=by
  rcases h2 with h2 | ⟨_,h2⟩
  ·exact .inl (by omega)
  ·exact .inr fun e=>h2 ((byteAt_head (s:=s) (by omega) 48).2 e)
 rcases h2 with h2 | ⟨h2,h4⟩
 all_goals (
  (repeat'((conv=>whnf);first|refine Zg fun _=>?_|refine Zn ?_|refine Z0 ?_|refine Zy ?_|refine Zm ?_|fail))
  refine Ask.mk ⟨{ X:=Nat,pre:=fun i=>i≤s.length∧∀j,j<i→48≤byteAt s j∧byteAt s j≤57,mod:=fun i _=>[(3,I i)],heap:=fun _ _=>[],mu:=fun i=>s.length-i },rfl,?_⟩
  (repeat'((conv=>whnf);first|refine Zn ?_|fail))
  refine ⟨⟨(0:Nat),⟨Nat.zero_le _,fun j h2=>by omega⟩,by (repeat'(first|exact trivial|rfl|refine And.intro ?_ ?_|fail))⟩,fun (i:Nat) hi=>?_⟩
  obtain ⟨hi1,hi3⟩:=hi
  by_cases hlt:i<s.length
  ·by_cases c1:byteAt s i<48
   ·have hn:¬okD s:=okD_bad hlt (.inl c1)
    (repeat'((conv=>whnf);first|refine Zg fun _=>?_|refine Zn ?_|refine Zj ?_|refine Zy ?_|fail))
    (conv=>whnf)
    skip
    exact hn
   ·by_cases c2:byteAt s i>57
    ·have hn:¬okD s:=okD_bad hlt (.inr c2)
     (repeat'((conv=>whnf);first|refine Zg fun _=>?_|refine Zn ?_|refine Zj ?_|refine Zy ?_|refine Zm ?_|fail))
     (conv=>whnf)
     skip
     exact hn
    ·(repeat'((conv=>whnf);first|refine Zg fun _=>?_|refine Zn ?_|refine Zj ?_|refine Zy ?_|refine Zm ?_|fail))
     refine ⟨(i+1:Nat),by show s.length-(i+1)<s.length-i;omega,⟨by omega,fun j h4=>?_⟩,?_⟩
     ·by_cases e:j=i
      ·rw[e];omega
      ·exact hi3 j (by omega)
     ·(repeat'(first|exact trivial|rfl|refine And.intro ?_ ?_|fail))
  ·have e:i=s.length:=by omega
   have hy:okD s:=by
    rw[okD_iff]
    refine ⟨fun e=>h0 (by rw[e];rfl),fun c hc=>?_,h3⟩
    obtain ⟨j,hj,e2⟩:=List.mem_iff_getElem.1 hc
    have:=hi3 j (by omega)
    rw[byteAt_get hj,e2] at this
    unfold isDig;omega
   (repeat'((conv=>whnf);first|refine Zg fun _=>?_|refine Zm ?_|fail))
   (conv=>whnf)
   (repeat'(first|refine And.intro ?_ ?_|fail))
   all_goals first | exact hy.1 | exact hy.2)
def c83:Con:=mkCon 88 true fun args K=>match args with | [.str s]=>K (.bl (okD s) inferInstance) | _=>False
theorem k83:ConOK Tryz.prog c83:=by
 refine conOK_of rfl (enters_of Tryz.func88 (by kernel_rfl) rfl) ?_
 intro args K h
 simp only[c83] at h
 split at h
 ·rename_i s;exact ⟨_,h,tri_of_body (Γ:=[]) (by simp) Tryz.func88 (by simp[Tryz.ntmps88]) rfl (b83 s)⟩
 ·exact h.elim
theorem byte_cons (c:UInt8) (r:List UInt8) (j:Nat):byteAt (c::r) (j+1)=byteAt r j:=by
 unfold byteAt;rfl
theorem top_at:∀(D:List UInt8) (i:Nat),i≤D.length→(∀j,j<i→¬byteAt D j=47)→(i=D.length∨(i<D.length∧byteAt D i=47))→topS D=D.take i∧botS D=D.drop i
 | [],i,h1,_,_=>by
  have:i=0:=by simpa using h1
  subst this
  exact ⟨rfl,rfl⟩
 | c::r,0,_,_,h=>by
  rcases h with h | ⟨_,h⟩
  ·simp at h
  ·have hc:=(byteAt_head (s:=c::r) (by simp) 47).1 h
   have hc:c=47:=hc
   subst hc
   constructor<;>simp[topS,botS]
 | c::r,i+1,h1,h2,h3=>by
  have hc:¬c=47:=fun e=>h2 0 (by omega) ((byteAt_head (s:=c::r) (by simp) 47).2 e)
  obtain ⟨q1,q2⟩:=top_at r i (by simpa using h1) (fun j hj=>by rw[← byte_cons c];exact h2 (j+1) (by omega)) (by
   rcases h3 with h3 | ⟨h3,h4⟩
   ·exact .inl (by simpa using h3)
   ·exact .inr ⟨by simpa using h3,by rw[← byte_cons c];exact h4⟩)
  unfold topS at q1 ⊢
  unfold botS at q2 ⊢
  rw[List.takeWhile_cons,List.dropWhile_cons]
  have hb:(c != 47)=true:=by simpa using hc
  rw[hb]
  simp only[if_true]
  exact ⟨by rw[q1];rfl,by rw[q2];rfl⟩
theorem digs_cons (c:UInt8) (r:List UInt8):digs (c::r)=if c=45 then r else c::r:=rfl
theorem top_digs (s:List UInt8):topS (digs s)=digs (topS s)∧botS (digs s)=botS s:=by
 cases s with
 | nil=>exact ⟨rfl,rfl⟩
 | cons c r=>
  by_cases h:c=45
  ·subst h
   have e1:digs (45::r)=r:=by rw[digs_cons,if_pos rfl]
   have e2:topS (45::r)=45::topS r:=by unfold topS;rw[List.takeWhile_cons];rfl
   have e3:botS (45::r)=botS r:=by unfold botS;rw[List.dropWhile_cons];rfl
   rw[e1,e2,e3]
   exact ⟨(by rw[digs_cons,if_pos rfl]),rfl⟩
  ·have e1:digs (c::r)=c::r:=by rw[digs_cons,if_neg h]
   rw[e1]
   refine ⟨?_,rfl⟩
   unfold topS
   rw[List.takeWhile_cons]
   split
   ·rw[digs_cons,if_neg h]
   ·rfl
set_option maxHeartbeats 1600000 in
theorem b73 (s:List UInt8):body Tryz.prog [] { asks:=[(0,[])] } true Tryz.f87 [S s] (.tup [.bl (s.headD 0=45) inferInstance,S (digs (topS s)),S (botS s).tail,.bl (¬botS s= []) inferInstance]):=by
 obtain ⟨hT,hB⟩:=top_digs s
 rw[← hT,← hB]
 by_cases hm:0<s.length∧byteAt s 0=45
 ·obtain ⟨h0,hb⟩:=hm
  have hD:=digs_one h0 hb
  have hh:s.headD 0=45:=(byteAt_head h0 45).1 hb
  have hi:byteAt s 0=45↔s.headD 0=45:=⟨fun _=>hh,fun _=>hb⟩
  rw[hD]
  have hs:(s.drop 1).length≤s.length:=by have:=digs_len s;rw[hD] at this;omega
  (repeat'((conv=>whnf);first|refine Zg fun _=>?_|refine Zn ?_|refine Z0 ?_|refine Z1 ?_|refine Zy ?_|fail))
  refine Ask.mk ⟨{ X:=Nat,pre:=fun i=>i≤(s.drop 1).length∧∀j,j<i→¬byteAt (s.drop 1) j=47,mod:=fun i _=>[(8,I i)],heap:=fun _ _=>[],mu:=fun i=>(s.drop 1).length-i },rfl,?_⟩
  (repeat'((conv=>whnf);first|refine Zn ?_|fail))
  refine ⟨⟨(0:Nat),⟨Nat.zero_le _,fun j h2=>by omega⟩,by (repeat'(first|exact trivial|rfl|refine And.intro ?_ ?_|fail))⟩,fun (i:Nat) hi'=>?_⟩
  obtain ⟨hi1,hi3⟩:=hi'
  by_cases hlt:i<(s.drop 1).length
  ·by_cases c1:byteAt (s.drop 1) i=47
   ·obtain ⟨w1,w2⟩:=top_at (s.drop 1) i hi1 hi3 (.inr ⟨hlt,c1⟩)
    have w3:(s.drop 1).drop (i+1)=((s.drop 1).drop i).tail:=List.tail_drop.symm
    have w4:¬(s.drop 1).drop i= []:=fun h=>by
     have h9:((s.drop 1).drop i).length=0:=by rw[h];rfl
     rw[List.length_drop] at h9
     omega
    rw[w1,w2]
    (repeat'((conv=>whnf);first|refine Zg fun _=>?_|refine Zn ?_|refine Zj ?_|(apply Pin.mk;apply Exists.intro)|apply Pinned.mk rfl rfl|refine Zy ?_|fail))
    (conv=>whnf)
    (repeat'(first|exact trivial|rfl|refine And.intro ?_ ?_|fail))
    all_goals first | exact hi | exact hh | exact w3 | exact w4
   ·(repeat'((conv=>whnf);first|refine Zg fun _=>?_|refine Zn ?_|refine Zj ?_|refine Zy ?_|refine Zm ?_|fail))
    refine ⟨(i+1:Nat),by show (s.drop 1).length-(i+1)<(s.drop 1).length-i;omega,⟨by omega,fun j h4=>?_⟩,?_⟩
    ·by_cases e:j=i
     ·rw[e];exact c1
     ·exact hi3 j (by omega)
    ·(repeat'(first|exact trivial|rfl|refine And.intro ?_ ?_|fail))
  ·have e:i=(s.drop 1).length:=by omega
   subst e
   obtain ⟨w1,w2⟩:=top_at (s.drop 1) _ hi1 hi3 (.inl rfl)
   rw[List.take_length] at w1
   rw[List.drop_length] at w2
   rw[w1,w2]
   (repeat'((conv=>whnf);first|refine Zg fun _=>?_|refine Zm ?_|fail))
   (conv=>whnf)
   (repeat'(first|exact trivial|rfl|refine And.intro ?_ ?_|fail))
   all_goals first | exact hi | exact hh | exact fun h=>h rfl
 ·have hD:digs s=s:=digs_zero fun h e=>hm ⟨h,e⟩
  have hh:¬s.headD 0=45:=fun e=>by
   have h0:0<s.length:=Nat.pos_of_ne_zero fun h=>by rw[List.length_eq_zero_iff.1 h] at e;simp at e
   exact hm ⟨h0,(byteAt_head h0 45).2 e⟩
  have hm2:¬(0<(s.length:Int))∨(0<(s.length:Int)∧¬byteAt s 0=45):=by
   by_cases h:0<s.length
   ·exact .inr ⟨by omega,fun e=>hm ⟨h,e⟩⟩
   ·exact .inl (by omega)
  rw[hD]
  have hi:byteAt s 0=45↔s.headD 0=45:=by
   constructor
   ·intro e
    by_cases h:0<s.length
    ·exact absurd ⟨h,e⟩ hm
    ·rw[List.length_eq_zero_iff.1 (show s.length=0 by omega)] at e
     exact absurd e (by decide)
   ·exact fun e=>absurd e hh
  rcases hm2 with hm2 | ⟨hm2,hm3⟩
  ·skip
   have hs:(s).length≤s.length:=by have:=digs_len s;rw[hD] at this;omega
   (repeat'((conv=>whnf);first|refine Zg fun _=>?_|refine Zm ?_|fail))
   refine Ask.mk ⟨{ X:=Nat,pre:=fun i=>i≤(s).length∧∀j,j<i→¬byteAt (s) j=47,mod:=fun i _=>[(8,I i)],heap:=fun _ _=>[],mu:=fun i=>(s).length-i },rfl,?_⟩
   (repeat'((conv=>whnf);first|refine Zn ?_|fail))
   refine ⟨⟨(0:Nat),⟨Nat.zero_le _,fun j h2=>by omega⟩,by (repeat'(first|exact trivial|rfl|refine And.intro ?_ ?_|fail))⟩,fun (i:Nat) hi'=>?_⟩
   obtain ⟨hi1,hi3⟩:=hi'
   by_cases hlt:i<(s).length
   ·exfalso;omega
   ·have e:i=(s).length:=by omega
    subst e
    obtain ⟨w1,w2⟩:=top_at (s) _ hi1 hi3 (.inl rfl)
    rw[List.take_length] at w1
    rw[List.drop_length] at w2
    rw[w1,w2]
    (repeat'((conv=>whnf);first|refine Zg fun _=>?_|refine Zm ?_|fail))
    (conv=>whnf)
    (repeat'(first|exact trivial|rfl|refine And.intro ?_ ?_|fail))
    all_goals first | exact hi | exact hh | exact fun h=>h rfl
  ·skip
   have hs:(s).length≤s.length:=by have:=digs_len s;rw[hD] at this;omega
   (repeat'((conv=>whnf);first|refine Zg fun _=>?_|refine Zn ?_|refine Z0 ?_|refine Zy ?_|refine Zm ?_|fail))
   refine Ask.mk ⟨{ X:=Nat,pre:=fun i=>i≤(s).length∧∀j,j<i→¬byteAt (s) j=47,mod:=fun i _=>[(8,I i)],heap:=fun _ _=>[],mu:=fun i=>(s).length-i },rfl,?_⟩
   (repeat'((conv=>whnf);first|refine Zn ?_|fail))
   refine ⟨⟨(0:Nat),⟨Nat.zero_le _,fun j h2=>by omega⟩,by (repeat'(first|exact trivial|rfl|refine And.intro ?_ ?_|fail))⟩,fun (i:Nat) hi'=>?_⟩
   obtain ⟨hi1,hi3⟩:=hi'
   by_cases hlt:i<(s).length
   ·by_cases c1:byteAt (s) i=47
    ·obtain ⟨w1,w2⟩:=top_at (s) i hi1 hi3 (.inr ⟨hlt,c1⟩)
     have w3:(s).drop (i+1)=((s).drop i).tail:=List.tail_drop.symm
     have w4:¬(s).drop i= []:=fun h=>by
      have h9:((s).drop i).length=0:=by rw[h];rfl
      rw[List.length_drop] at h9
      omega
     rw[w1,w2]
     (repeat'((conv=>whnf);first|refine Zg fun _=>?_|refine Zn ?_|refine Zj ?_|(apply Pin.mk;apply Exists.intro)|apply Pinned.mk rfl rfl|refine Zy ?_|fail))
     (conv=>whnf)
     (repeat'(first|exact trivial|rfl|refine And.intro ?_ ?_|fail))
     all_goals first | exact hi | exact hh | exact w3 | exact w4
    ·(repeat'((conv=>whnf);first|refine Zg fun _=>?_|refine Zn ?_|refine Zj ?_|refine Zy ?_|refine Zm ?_|fail))
     refine ⟨(i+1:Nat),by show (s).length-(i+1)<(s).length-i;omega,⟨by omega,fun j h4=>?_⟩,?_⟩
     ·by_cases e:j=i
      ·rw[e];exact c1
      ·exact hi3 j (by omega)
     ·(repeat'(first|exact trivial|rfl|refine And.intro ?_ ?_|fail))
   ·have e:i=(s).length:=by omega
    subst e
    obtain ⟨w1,w2⟩:=top_at (s) _ hi1 hi3 (.inl rfl)
    rw[List.take_length] at w1
    rw[List.drop_length] at w2
    rw[w1,w2]
    (repeat'((conv=>whnf);first|refine Zg fun _=>?_|refine Zm ?_|fail))
    (conv=>whnf)
    (repeat'(first|exact trivial|rfl|refine And.intro ?_ ?_|fail))
    all_goals first | exact hi | exact hh | exact fun h=>h rfl
def c73:Con:=mkCon 87 true fun args K=>match args with | [.str s]=>K (.tup [.bl (s.headD 0=45) inferInstance,S (digs (topS s)),S (botS s).tail,.bl (¬botS s= []) inferInstance]) | _=>False
theorem k73:ConOK Tryz.prog c73:=by
 refine conOK_of rfl (enters_of Tryz.func87 (by kernel_rfl) rfl) ?_
 intro args K h
 simp only[c73] at h
 split at h
 ·rename_i s;exact ⟨_,h,tri_of_body (Γ:=[]) (by simp) Tryz.func87 (by simp[Tryz.ntmps87]) rfl (b73 s)⟩
 ·exact h.elim
def c116:Con:=mkCon 126 true fun args K=>match args with
 | [.agg [.bl p hp,.seq (.int .i64) a]]=>Need (canon6 a∧a.length≤200) (K (S (itoa (@sgP p hp (valB B6 a)))))
 | [.agg [.val (.bool false),.seq (.int .i64) a]]=>Need (canon6 a∧a.length≤200) (K (S (itoa (valB B6 a))))
 | _=>False
theorem pow6 (k:Nat):(B6:Nat)^k=10^ (6*k):=by
 rw[show B6=10^6 by decide,← Nat.pow_mul]
theorem pow_le6 {k:Nat} (h:k≤300):10^k≤B6^50:=by
 rw[pow6]
 obtain ⟨m,hm⟩:∃m,6*50=m:=⟨_,rfl⟩
 rw[hm]
 exact Nat.pow_le_pow_right (by omega) (by omega)
theorem nat_small6 {s:List UInt8} (h:form s) (hl:(digs s).length≤300):nat10 (digs s)<B6^50:=
 Nat.lt_of_lt_of_le (nat10_lt (digs s) h.2.2) (pow_le6 hl)
theorem val_small17 {s:List UInt8} (h:form s) (hl:s.length≤17): -1000000000000000000<valI s∧valI s<1000000000000000000:=val_small h (by omega)
theorem resI_len {n k:Nat} (hk:k+1≤300) (h:n<10^ (k+1)):resI (n:Int)=(itoa n,0):=by
 unfold resI lim
 rw[if_neg]
 have:=dec_len k n h
 simp;omega
theorem resI_fit {n:Nat} (h:n<B6^50):resI (n:Int)=(itoa n,0):=by
 rw[pow6] at h
 obtain ⟨k,hk⟩:∃k,6*50=k+1:=⟨299,rfl⟩
 rw[hk] at h
 exact resI_len (by omega) h
set_option maxHeartbeats 4000000 in
theorem b86 (a b:List UInt8):body Tryz.prog [c110,c111,c61,c112,c113,c116] { asks:=[(0,[]),(2,[])] } true Tryz.f91 [S a,S b] (.tup [S (bothI a b (resI (Int.gcd (valI a) (valI b)))).1,I (bothI a b (resI (Int.gcd (valI a) (valI b)))).2]):=by
 unfold bothI
 skip
 (refine Br.mk (fun _=>?_) (fun _=>?_))
 ·rename_i h
  rw[if_pos h]
  skip
  (conv=>whnf)
  (repeat'(first|exact trivial|rfl|refine And.intro ?_ ?_|fail))
 ·rename_i h
  rw[if_neg h]
  obtain ⟨ha,hb⟩:=chk2_zero h
  obtain ⟨fa,la⟩:=chk_zero ha
  obtain ⟨fb,lb⟩:=chk_zero hb
  have pM:=nat_small6 fa la
  have pN:=nat_small6 fb lb
  have hgv:Int.gcd (valI a) (valI b)=Nat.gcd (nat10 (digs a)) (nat10 (digs b)):=by
   unfold Int.gcd
   rw[val_sgP,val_sgP,sgP_abs,sgP_abs]
  skip
  refine Need.mk ⟨fa,fb⟩ ?_
  skip
  (refine Br.mk (fun _=>?_) (fun _=>?_))
  ·rename_i hs
   have h1:=val_small17 fa hs.1
   have h2:=val_small17 fb hs.2
   skip
   refine Ask.mk ⟨{ X:=Int × Int,pre:=fun z=>Int.gcd z.1 z.2=Int.gcd (valI a) (valI b)∧z.1.natAbs≤1000000000000000000∧z.2.natAbs≤1000000000000000000,mod:=fun z _=>[(7,I z.1),(8,I z.2)],heap:=fun _ _=>[],mu:=fun z=>z.2.natAbs },rfl,?_⟩
   (repeat'((conv=>whnf);first|refine Zn ?_|fail))
   refine ⟨⟨(valI a,valI b),⟨rfl,by show (valI a).natAbs≤ _;omega,by show (valI b).natAbs≤ _;omega⟩,by (repeat'(first|exact trivial|rfl|refine And.intro ?_ ?_|fail))⟩,fun (z:Int × Int) hz=>?_⟩
   obtain ⟨z1,z2,z3⟩:=hz
   skip
   (refine Br.mk (fun _=>?_) (fun _=>?_))
   ·rename_i hy
    have hm:(z.1.tmod z.2).natAbs<z.2.natAbs:=by rw[Int.natAbs_tmod];exact Nat.mod_lt _ (by omega)
    (repeat'((conv=>whnf);first|refine Zb ?_|(apply Pin.mk;apply Exists.intro)|apply Pinned.mk rfl rfl|fail))
    (conv=>whnf)
    refine ⟨(z.2,z.1.tmod z.2),hm,⟨by rw[← z1];exact gcd_step _ _,z3,by show (z.1.tmod z.2).natAbs≤ _;omega⟩,?_⟩
    (repeat'(first|exact trivial|rfl|refine And.intro ?_ ?_|fail))
   ·rename_i hy
    have hy:z.2=0:=by omega
    have hg:((Int.gcd (valI a) (valI b):Nat):Int)=max z.1 (-z.1):=by
     rw[← z1,hy,Int.gcd_zero_right]
     omega
    rw[hg,resI_small (by omega)]
    (repeat'((conv=>whnf);first|refine Zn ?_|fail))
    (conv=>whnf)
    (repeat'(first|exact trivial|rfl|refine And.intro ?_ ?_|fail))
  ·rename_i hs
   rw[hgv]
   (refine Br.mk (fun _=>?_) (fun _=>?_))
   all_goals (
    skip
    refine Need.mk ⟨fa,by omega⟩ ?_
    skip
    refine Need.mk ⟨fb,by omega⟩ ?_
    skip
    refine Ask.mk ⟨{ X:=Nat × Nat,pre:=fun z=>Nat.gcd z.1 z.2=Nat.gcd (nat10 (digs a)) (nat10 (digs b))∧z.1<B6^50∧z.2<B6^50,mod:=fun z _=>[(10,Ls (limbs B6 z.1)),(11,Ls (limbs B6 z.2))],heap:=fun _ _=>[],mu:=fun z=>z.2 },rfl,?_⟩
    (repeat'((conv=>whnf);first|refine Zn ?_|fail))
    refine ⟨⟨(nat10 (digs a),nat10 (digs b)),⟨rfl,pM,pN⟩,by (repeat'(first|exact trivial|rfl|refine And.intro ?_ ?_|fail))⟩,fun (z:Nat × Nat) hz=>?_⟩
    obtain ⟨z1,z2,z3⟩:=hz
    have l1:=limbs_le6 z2
    have hpw:B6^50≤B6^100:=Nat.pow_le_pow_right (by decide) (by omega)
    (repeat'((conv=>whnf);first|refine Zg fun _=>?_|fail))
    (refine Br.mk (fun _=>?_) (fun _=>?_))
    ·rename_i hy
     have hy:0<z.2:=Nat.pos_of_ne_zero fun e=>by rw[e,limbs_zero] at hy;exact absurd hy (by decide)
     skip
     refine Need.mk ⟨limbs_in (by decide) _,canon6_limbs _,⟨by rw[v6,Int.toNat_natCast];exact hy,by rw[v6,Int.toNat_natCast];exact Nat.lt_of_lt_of_le z3 hpw⟩,by omega⟩ ?_
     rw[v6,v6,← Int.natCast_ediv,← Int.natCast_emod,Int.toNat_natCast,Int.toNat_natCast]
     skip
     refine ⟨(z.2,z.1%z.2),Nat.mod_lt _ hy,⟨by rw[← z1];show Nat.gcd z.2 (z.1%z.2)= _;rw[Nat.gcd_comm z.1 z.2,Nat.gcd_rec z.2 z.1];exact Nat.gcd_comm _ _,z3,Nat.lt_trans (Nat.mod_lt _ hy) z3⟩,?_⟩
     (repeat'(first|exact trivial|rfl|refine And.intro ?_ ?_|fail))
    ·rename_i hy
     have hy:z.2=0:=(limbs_nil (B:=B6) (by decide)).1 (List.eq_nil_of_length_eq_zero (by omega))
     rw[hy,Nat.gcd_zero_right] at z1
     rw[← z1,resI_fit z2]
     skip
     refine Need.mk ⟨canon6_limbs _,by omega⟩ ?_
     rw[v6]
     skip
     (conv=>whnf)
     (repeat'(first|exact trivial|rfl|refine And.intro ?_ ?_|fail)))
noncomputable def c86:Con:=mkCon 91 true fun args K=>match args with
 | [.str a,.str b]=>K (.tup [S (bothI a b (resI (Int.gcd (valI a) (valI b)))).1,I (bothI a b (resI (Int.gcd (valI a) (valI b)))).2])
 | _=>False
theorem top_head (s:List UInt8):(topS s).headD 0=45↔s.headD 0=45:=by
 cases s with
 | nil=>exact Iff.rfl
 | cons c r=>
  unfold topS
  rw[List.takeWhile_cons]
  by_cases h:c=47
  ·subst h
   constructor
   ·intro e;simp at e
   ·intro e;simp at e
  ·have hb:(c != 47)=true:=by simpa using h
   rw[hb];exact Iff.rfl
theorem formQ_iff (s:List UInt8):formQ s↔okD (digs (topS s))∧¬(s.headD 0=45∧digs (topS s)= [48])∧(botS s= []∨(okD (botS s).tail∧¬(botS s).tail= [48]∧¬(botS s).tail= [49])):=by
 unfold formQ
 rw[form_okD,top_head,and_assoc]
 refine and_congr_right fun _=>and_congr_right fun _=>?_
 by_cases h:botS s= []
 ·exact ⟨fun _=>.inl h,fun _=>.inl h⟩
 ·have e:denS s=nat10 (botS s).tail:=by unfold denS;rw[if_neg h]
  rw[e,den_okD]
theorem chkQ_no {s:List UInt8} (h:¬(okD (digs (topS s))∧¬(s.headD 0=45∧digs (topS s)= [48])∧(botS s= []∨(okD (botS s).tail∧¬(botS s).tail= [48]∧¬(botS s).tail= [49])))):chkQ s=11:=by
 unfold chkQ;rw[if_neg fun e=>h ((formQ_iff s).1 e)]
theorem natAbs_top (s:List UInt8):(valI (topS s)).natAbs=nat10 (digs (topS s)):=by rw[val_sgP,sgP_abs]
theorem okD_chk {t:List UInt8} (h:okD t) (hl:t.length≤300):chkI t=0∧valI t=nat10 t:=by
 rw[okD_iff] at h
 obtain ⟨h1,h2,h3⟩:=h
 have hh:¬t.headD 0=45:=fun e=>by
  cases t with
  | nil=>exact h1 rfl
  | cons c r=>
   have hc:c=45:=e
   have:=h2 c (by simp)
   subst hc
   exact absurd this (by decide)
 have hd:digs t=t:=by unfold digs;rw[if_neg hh]
 have hf:form t:=by
  refine ⟨by rw[hd];exact h1,?_,by rw[hd];exact h2⟩
  rw[hd]
  by_cases h48:t.headD 0=48
  ·rcases h3 with h3 | h3
   ·exact .inr (one_dig h3 h48)
   ·exact absurd h48 h3
  ·exact .inl h48
 refine ⟨by rw[chk_form hf,hd,if_neg (by omega)],by unfold valI;rw[if_neg hh]⟩
theorem gcd_str {x y:List UInt8} (hx:okD x) (hy:okD y) (lx:x.length≤300) (ly:y.length≤300):(bothI x y (resI (Int.gcd (valI x) (valI y)))).1= [49]↔(nat10 x).gcd (nat10 y)=1:=by
 obtain ⟨c1,v1⟩:=okD_chk hx lx
 obtain ⟨c2,v2⟩:=okD_chk hy ly
 have hg:Int.gcd (valI x) (valI y)=(nat10 x).gcd (nat10 y):=by rw[v1,v2];rfl
 have hpos:(nat10 x).gcd (nat10 y)<B6^50:=by
  have b1:=Nat.lt_of_lt_of_le (nat10_lt x ((okD_iff x).1 hx).2.1) (pow_le6 lx)
  have b2:=Nat.lt_of_lt_of_le (nat10_lt y ((okD_iff y).1 hy).2.1) (pow_le6 ly)
  rcases Nat.eq_zero_or_pos (nat10 x) with h | h
  ·rw[h,Nat.gcd_zero_left];exact b2
  ·exact Nat.lt_of_le_of_lt (Nat.gcd_le_left _ h) b1
 unfold bothI chk2
 rw[if_neg (by rw[c1];simp[c2]),hg,resI_fit hpos]
 dsimp only
 rw[show ([49]:List UInt8)=itoa ((1:Nat):Int) from by decide+kernel]
 constructor
 ·intro e;have:=itoa_inj e;omega
 ·intro e;rw[e]
theorem chkQ_yes {s:List UInt8} (h:okD (digs (topS s))∧¬(s.headD 0=45∧digs (topS s)= [48])∧(botS s= []∨(okD (botS s).tail∧¬(botS s).tail= [48]∧¬(botS s).tail= [49]))):
  chkQ s=if 300<(digs (topS s)).length∨300<(botS s).tail.length then 4 else if (nat10 (digs (topS s))).gcd (denS s)=1 then 0 else 11:=by
 unfold chkQ
 rw[if_pos ((formQ_iff s).2 h),natAbs_top]
theorem b44n (s:List UInt8) (h:¬(okD (digs (topS s))∧¬(s.headD 0=45∧digs (topS s)= [48])∧(botS s= []∨(okD (botS s).tail∧¬(botS s).tail= [48]∧¬(botS s).tail= [49])))):body Tryz.prog [c73,c83,c85,c84,c86] {} true Tryz.f51 [S s] (I (chkQ s)):=by
 rw[chkQ_no h]
 by_cases h1:okD (digs (topS s))
 ·by_cases h3:botS s= []
  ·have h4:¬ ¬botS s= []:=fun h=>h h3
   have h5:s.headD 0=45∧digs (topS s)= [48]:=Classical.byContradiction fun e=>h ⟨h1,e,.inl h3⟩
   obtain ⟨h5,h6⟩:=h5
   (repeat'((conv=>whnf);first|refine Zy ?_|refine Zm ?_|fail))
   (conv=>whnf)
   (repeat'(first|rfl|refine And.intro ?_ ?_|fail))
  ·by_cases h5:okD (botS s).tail
   ·by_cases h6:(botS s).tail= [48]
    ·(repeat'((conv=>whnf);first|refine Zy ?_|refine Zm ?_|fail))
     (conv=>whnf)
     (repeat'(first|rfl|refine And.intro ?_ ?_|fail))
    ·by_cases h7:(botS s).tail= [49]
     ·(repeat'((conv=>whnf);first|refine Zy ?_|refine Zm ?_|fail))
      (conv=>whnf)
      (repeat'(first|rfl|refine And.intro ?_ ?_|fail))
     ·have h8:s.headD 0=45∧digs (topS s)= [48]:=Classical.byContradiction fun e=>h ⟨h1,e,.inr ⟨h5,h6,h7⟩⟩
      obtain ⟨h8,h9⟩:=h8
      (repeat'((conv=>whnf);first|refine Zy ?_|refine Zm ?_|fail))
      (conv=>whnf)
      (repeat'(first|rfl|refine And.intro ?_ ?_|fail))
   ·(repeat'((conv=>whnf);first|refine Zy ?_|refine Zm ?_|fail))
    (conv=>whnf)
    (repeat'(first|rfl|refine And.intro ?_ ?_|fail))
 ·(repeat'((conv=>whnf);first|refine Zy ?_|fail))
  (conv=>whnf)
  (repeat'(first|rfl|refine And.intro ?_ ?_|fail))
set_option maxHeartbeats 4000000 in
theorem b44y (s:List UInt8) (h:okD (digs (topS s))∧¬(s.headD 0=45∧digs (topS s)= [48])∧(botS s= []∨(okD (botS s).tail∧¬(botS s).tail= [48]∧¬(botS s).tail= [49]))):body Tryz.prog [c73,c83,c85,c84,c86] {} true Tryz.f51 [S s] (I (chkQ s)):=by
 rw[chkQ_yes h]
 obtain ⟨h1,h2,h3⟩:=h
 have d1:=((okD_iff _).1 h1).2.1
 have h2:¬s.headD 0=45∨(s.headD 0=45∧¬digs (topS s)= [48]):=by
  by_cases e:s.headD 0=45
  ·exact .inr ⟨e,fun e2=>h2 ⟨e,e2⟩⟩
  ·exact .inl e
 by_cases hb:botS s= []
 ·have hb':¬ ¬botS s= []:=fun h=>h hb
  have hl:(botS s).tail.length=0:=by rw[hb];rfl
  have hd:denS s=1:=by unfold denS;rw[if_pos hb]
  rw[hd]
  have hg1:=Nat.gcd_one_right (nat10 (digs (topS s)))
  by_cases h300:300<(digs (topS s)).length
  ·rw[if_pos (.inl h300)]
   rcases h2 with h2 | ⟨h2,h4⟩
   all_goals (
    (repeat'((conv=>whnf);first|refine Zg fun _=>?_|refine Zy ?_|refine Zm ?_|fail))
    (conv=>whnf)
    (repeat'(first|rfl|refine And.intro ?_ ?_|fail)))
  ·rw[if_neg (by omega),if_pos hg1]
   rcases h2 with h2 | ⟨h2,h4⟩
   all_goals (
    (repeat'((conv=>whnf);first|refine Zg fun _=>?_|refine Zy ?_|refine Zm ?_|fail))
    (conv=>whnf)
    (repeat'(first|rfl|refine And.intro ?_ ?_|fail)))
 ·have hd:denS s=nat10 (botS s).tail:=by unfold denS;rw[if_neg hb]
  rw[hd]
  obtain ⟨h5,h6,h7⟩:=h3.resolve_left hb
  have d2:=((okD_iff _).1 h5).2.1
  by_cases h300:300<(digs (topS s)).length
  ·rw[if_pos (.inl h300)]
   rcases h2 with h2 | ⟨h2,h4⟩
   all_goals (
    (repeat'((conv=>whnf);first|refine Zg fun _=>?_|refine Zy ?_|refine Zm ?_|fail))
    (conv=>whnf)
    (repeat'(first|rfl|refine And.intro ?_ ?_|fail)))
  ·by_cases h301:300<(botS s).tail.length
   ·rw[if_pos (.inr h301)]
    rcases h2 with h2 | ⟨h2,h4⟩
    all_goals (
     (repeat'((conv=>whnf);first|refine Zg fun _=>?_|refine Zy ?_|refine Zm ?_|fail))
     (conv=>whnf)
     (repeat'(first|rfl|refine And.intro ?_ ?_|fail)))
   ·rw[if_neg (by omega)]
    by_cases h9:(digs (topS s)).length≤9∧(botS s).tail.length≤9
    ·obtain ⟨h9,h10⟩:=h9
     have n9:(10:Nat)^9=1000000000:=by decide
     have b1:=nat10_lt _ d1
     have b2:=nat10_lt _ d2
     have b1':(10:Nat)^ (digs (topS s)).length≤10^9:=Nat.pow_le_pow_right (by omega) h9
     have b2':(10:Nat)^ (botS s).tail.length≤10^9:=Nat.pow_le_pow_right (by omega) h10
     have hgi:Int.gcd (nat10 (digs (topS s)):Int) (nat10 (botS s).tail:Int)=(nat10 (digs (topS s))).gcd (nat10 (botS s).tail):=rfl
     by_cases hg:(nat10 (digs (topS s))).gcd (nat10 (botS s).tail)=1
     ·rw[if_pos hg]
      rcases h2 with h2 | ⟨h2,h4⟩
      all_goals (
       (repeat'((conv=>whnf);first|refine Zg fun _=>?_|refine Zy ?_|refine Zm ?_|fail))
       refine Need.mk ⟨d1,by omega⟩ ?_
       skip
       refine Need.mk ⟨d2,by omega⟩ ?_
       (repeat'((conv=>whnf);first|refine Zn ?_|refine Zm ?_|fail))
       (conv=>whnf)
       (repeat'(first|rfl|refine And.intro ?_ ?_|fail)))
     ·rw[if_neg hg]
      rcases h2 with h2 | ⟨h2,h4⟩
      all_goals (
       (repeat'((conv=>whnf);first|refine Zg fun _=>?_|refine Zy ?_|refine Zm ?_|fail))
       refine Need.mk ⟨d1,by omega⟩ ?_
       skip
       refine Need.mk ⟨d2,by omega⟩ ?_
       (repeat'((conv=>whnf);first|refine Zn ?_|refine Zy ?_|fail))
       (conv=>whnf)
       (repeat'(first|rfl|refine And.intro ?_ ?_|fail)))
    ·have hgs:=gcd_str h1 h5 (by omega) (by omega)
     have h9:¬((digs (topS s)).length:Int)≤9∨(((digs (topS s)).length:Int)≤9∧¬((botS s).tail.length:Int)≤9):=by omega
     by_cases hg:(nat10 (digs (topS s))).gcd (nat10 (botS s).tail)=1
     ·rw[if_pos hg]
      have hg2:=hgs.2 hg
      rcases h2 with h2 | ⟨h2,h4⟩
      all_goals (
       rcases h9 with h9 | ⟨h9,h10⟩
       all_goals (
        (repeat'((conv=>whnf);first|refine Zg fun _=>?_|refine Zy ?_|refine Zm ?_|fail))
        (conv=>whnf)
        (repeat'(first|rfl|refine And.intro ?_ ?_|fail))))
     ·rw[if_neg hg]
      have hg2:¬ _= _:=fun e=>hg (hgs.1 e)
      rcases h2 with h2 | ⟨h2,h4⟩
      all_goals (
       rcases h9 with h9 | ⟨h9,h10⟩
       all_goals (
        (repeat'((conv=>whnf);first|refine Zg fun _=>?_|refine Zy ?_|refine Zm ?_|fail))
        (conv=>whnf)
        (repeat'(first|rfl|refine And.intro ?_ ?_|fail))))
theorem b44 (s:List UInt8):body Tryz.prog [c73,c83,c85,c84,c86] {} true Tryz.f51 [S s] (I (chkQ s)):=by
 by_cases h:okD (digs (topS s))∧¬(s.headD 0=45∧digs (topS s)= [48])∧(botS s= []∨(okD (botS s).tail∧¬(botS s).tail= [48]∧¬(botS s).tail= [49]))
 ·exact b44y s h
 ·exact b44n s h
theorem wrG_snoc (x:Int):∀l:List Int,wrG (l++ [x])=six x.toNat++wrG l
 | []=>by simp[wrG]
 | y::r=>by
  show wrG (r++ [x])++six y.toNat=six x.toNat++(wrG r++six y.toNat)
  rw[wrG_snoc x r,List.append_assoc]
abbrev U (l:List Int):HO:=.vec 1 (.int .u8) l 5
theorem i0:itoa (valB B6 [])= [48]:=by show itoa 0= [48];simp[itoa,decDigits]
def lowD (x:Nat):Nat→List Int
 | 0=>[]
 | j+1=>((48+x/10^j%10:Nat):Int)::lowD x j
theorem lowD_len (x:Nat):∀j,(lowD x j).length=j
 | 0=>rfl
 | j+1=>by rw[lowD,List.length_cons,lowD_len x j]
theorem lowD_six (x:Nat):lowD x 6=bytesI (six x):=by
 have d:∀n,(((UInt8.ofNat (48+n%10)).toNat:Nat):Int)=((48+n%10:Nat):Int):=fun n=>by rw[digit_toNat (by omega)]
 simp only[lowD,six,bytesI,List.map_cons,List.map_nil,d,Nat.reducePow,Nat.div_one]
def oT (l:List Int) (i j:Nat):List Int:=List.replicate (6*(l.length-i)-j) 0++(lowD (l.getD i 0).toNat j++bytesI (wrG (l.take i)))
theorem bytesI_len (s:List UInt8):(bytesI s).length=s.length:=by simp[bytesI]
theorem oT_len {l:List Int} {i j:Nat} (hi:i≤l.length) (hj:j≤6*(l.length-i)):(oT l i j).length=6*l.length:=by
 simp only[oT,List.length_append,List.length_replicate,lowD_len,bytesI_len,wrG_len,List.length_take]
 omega
theorem oT_zero (l:List Int):oT l 0 0=List.replicate (6*l.length) 0:=by
 simp[oT,lowD,wrG,bytesI]
theorem oT_end (l:List Int):oT l l.length 0=bytesI (wrG l):=by
 simp[oT,lowD]
theorem oT_six {l:List Int} {i:Nat} (hi:i<l.length):oT l i 6=oT l (i+1) 0:=by
 have e1:6*(l.length-i)-6=6*(l.length-(i+1))-0:=by omega
 have e2:l.take (i+1)=l.take i++ [l.getD i 0]:=by
  rw[List.take_succ_eq_append_getElem hi]
  simp[List.getD_eq_getElem?_getD,hi]
 unfold oT
 rw[e1,e2,wrG_snoc,lowD_six]
 simp[lowD,bytesI]
theorem set_last (m:Nat) (v:Int) (r:List Int):(List.replicate (m+1) (0:Int)++r).set m v=List.replicate m 0++(v::r):=by
 rw[List.replicate_succ',List.append_assoc,List.set_append_right _ _ (by simp)]
 simp
theorem oT_set {l:List Int} {i j k:Nat} {v:Int} (hi:i<l.length) (hj:j<6) (hk:k=6*(l.length-i)-(j+1)) (hv:v=((48+(l.getD i 0).toNat/10^j%10:Nat):Int)):(oT l i j).set k v=oT l i (j+1):=by
 subst hk hv
 unfold oT
 obtain ⟨m,hm⟩:∃m,m=6*(l.length-i)-(j+1):=⟨_,rfl⟩
 rw[show 6*(l.length-i)-j=m+1 by omega,← hm,set_last]
 rfl
theorem bytesU_I (s:List UInt8):bytesU (bytesI s)=s:=by
 unfold bytesU bytesI
 rw[List.map_map]
 conv=>rhs;rw[← List.map_id s]
 refine List.map_congr_left fun b _=>?_
 simp
theorem dz {n m:Nat} (h:n<10*m) (e:n/m%10=0):n<m:=by
 have h1:n/m<10:=Nat.div_lt_of_lt_mul (by rw[Nat.mul_comm];exact h)
 rw[Nat.mod_eq_of_lt h1] at e
 have hm:0<m:=by
  rcases Nat.eq_zero_or_pos m with e0 | e0
  ·subst e0;omega
  ·exact e0
 rcases Nat.div_eq_zero_iff.1 e with h2 | h2
 ·omega
 ·exact h2
theorem dsum {n:Nat} (h0:0<n) (h:n<1000000):0<n/100000%10+n/10000%10+n/1000%10+n/100%10+n/10%10+n%10:=by
 refine Nat.pos_of_ne_zero fun e=>?_
 obtain ⟨e,e5⟩:=Nat.add_eq_zero_iff.1 e
 obtain ⟨e,e4⟩:=Nat.add_eq_zero_iff.1 e
 obtain ⟨e,e3⟩:=Nat.add_eq_zero_iff.1 e
 obtain ⟨e,e2⟩:=Nat.add_eq_zero_iff.1 e
 obtain ⟨e0,e1⟩:=Nat.add_eq_zero_iff.1 e
 have a0:=dz (m:=100000) h e0
 have a1:=dz (m:=10000) a0 e1
 have a2:=dz (m:=1000) a1 e2
 have a3:=dz (m:=100) a2 e3
 have a4:=dz (m:=10) a3 e4
 omega
theorem wr_cells {a:List Int} {d0 d1 d2 d3 d4 d5:Nat} {R:List UInt8} (hw:wrG a=UInt8.ofNat (48+d0)::UInt8.ofNat (48+d1)::UInt8.ofNat (48+d2)::UInt8.ofNat (48+d3)::UInt8.ofNat (48+d4)::UInt8.ofNat (48+d5)::R) (hd:d0≤9∧d1≤9∧d2≤9∧d3≤9∧d4≤9∧d5≤9):oT a a.length 0=(48+d0:Int)::(48+d1:Int)::(48+d2:Int)::(48+d3:Int)::(48+d4:Int)::(48+d5:Int)::bytesI R:=by
 have e:∀d:Nat,d≤9→(((UInt8.ofNat (48+d)).toNat:Nat):Int)=48+d:=fun d h=>by
  rw[UInt8.toNat_ofNat'];omega
 rw[oT_end,hw]
 simp only[bytesI,List.map_cons,e d0 hd.1,e d1 hd.2.1,e d2 hd.2.2.1,e d3 hd.2.2.2.1,e d4 hd.2.2.2.2.1,e d5 hd.2.2.2.2.2]
theorem bytesU_cons (d:Nat) (X:List Int):bytesU ((48+(d:Int))::X)=UInt8.ofNat (48+d)::bytesU X:=by
 show UInt8.ofNat (48+(d:Int)).toNat::bytesU X= _
 rw[show (48+(d:Int)).toNat=48+d by omega]
theorem wr_pos {p:Prop} {hp:Decidable p} {a:List Int} {d:Nat} {X:List Int} {Y:List UInt8} (h:¬p) (hv:0<valB B6 a) (hY:bytesU X=Y) (hf:UInt8.ofNat (48+d)::Y=decDigits (valB B6 a).toNat):bytesU ((48+(d:Int))::X)=itoa (sgP p (valB B6 a)):=by
 rw[bytesU_cons,hY,hf]
 unfold sgP itoa
 rw[if_neg h,if_neg (by omega)]
theorem wr_neg {p:Prop} {hp:Decidable p} {a:List Int} {d:Nat} {X:List Int} {Y:List UInt8} (h:p) (hv:0<valB B6 a) (hY:bytesU X=Y) (hf:UInt8.ofNat (48+d)::Y=decDigits (valB B6 a).toNat):(45:UInt8)::bytesU ((48+(d:Int))::X)=itoa (sgP p (valB B6 a)):=by
 rw[bytesU_cons,hY,hf]
 unfold sgP itoa
 rw[if_pos h,if_pos (by omega),Int.natAbs_neg]
 congr 2
 omega
theorem wr_drop {a:List Int} (h:canon6 a) (hp:0<valB B6 a):(wrG a).dropWhile (· ==48)=decDigits (valB B6 a).toNat:=wrG_dec (canon6_in h) hp
theorem wr_front {a:List Int} (h:canon6 a) (hp:a≠ []):∃d0 d1 d2 d3 d4 d5:Nat,∃R:List UInt8,wrG a=UInt8.ofNat (48+d0)::UInt8.ofNat (48+d1)::UInt8.ofNat (48+d2)::UInt8.ofNat (48+d3)::UInt8.ofNat (48+d4)::UInt8.ofNat (48+d5)::R∧R.length≤6*a.length∧(d0≤9∧d1≤9∧d2≤9∧d3≤9∧d4≤9∧d5≤9)∧0<d0+d1+d2+d3+d4+d5∧0<valB B6 a:=by
 have hin:=canon6_in h
 have hlast:∀(l:List Int),limbs B6 (valB B6 a).toNat=l→∀hl:l≠ [],l.getLast hl≠0:=by
  intro l hl;subst hl;exact limbs_last (by decide) _
 have hx:=hlast a h hp
 have hv:0<valB B6 a:=by
  have h1:=canon6_val h
  rcases Nat.eq_zero_or_pos (valB B6 a).toNat with e | e
  ·exfalso
   have h2:limbs B6 (valB B6 a).toNat=a:=h
   rw[e] at h2
   exact hp (by rw[← h2];simp[limbs])
  ·omega
 obtain ⟨x,hxe⟩:∃x,a.getLast hp=x:=⟨_,rfl⟩
 rw[hxe] at hx
 have hmem:x∈a:=by rw[← hxe];exact List.getLast_mem hp
 have hxb:0≤x∧x<((B6:Nat):Int):=hin x hmem
 have hb6:((B6:Nat):Int)=1000000:=rfl
 rw[hb6] at hxb
 have ha:wrG a=six x.toNat++wrG a.dropLast:=by
  rw[← wrG_snoc,← hxe,List.dropLast_concat_getLast hp]
 refine ⟨x.toNat/100000%10,x.toNat/10000%10,x.toNat/1000%10,x.toNat/100%10,x.toNat/10%10,x.toNat%10,wrG a.dropLast,by rw[ha];rfl,?_,⟨by omega,by omega,by omega,by omega,by omega,by omega⟩,dsum (by omega) (by omega),hv⟩
 rw[wrG_len,List.length_dropLast]
 omega
theorem wr_fin {a:List Int} (h:canon6 a) (hp:0<valB B6 a) (pre X:List UInt8) (d:Nat) (hd:0<d∧d≤9) (hw:wrG a=pre++UInt8.ofNat (48+d)::X) (hpre:∀b∈pre,b=48):UInt8.ofNat (48+d)::X=decDigits (valB B6 a).toNat:=by
 have hc:UInt8.ofNat (48+d)≠48:=by
  intro e
  have h1:=congrArg UInt8.toNat e
  have h2:(UInt8.ofNat (48+d)).toNat=48+d:=by rw[UInt8.toNat_ofNat'];omega
  rw[h2] at h1
  have:(48:UInt8).toNat=48:=rfl
  omega
 rw[← wr_drop h hp,hw]
 clear hw
 induction pre with
 | nil=>rw[List.nil_append,List.dropWhile_cons_of_neg (by simpa using hc)]
 | cons b r ih=>
  rw[hpre b (by simp),List.cons_append,List.dropWhile_cons_of_pos (by simp)]
  exact ih fun b hb=>hpre b (by simp[hb])
set_option maxHeartbeats 4000000 in
theorem b116 (p:Prop) (hp:Decidable p) (a:List Int) (h:canon6 a∧a.length≤200):body Tryz.prog [] { asks:=[(0,[]),(2,[])] } true Tryz.f126 [.agg [.bl p hp,Ls a]] (S (itoa (sgP p (valB B6 a)))):=by
 obtain ⟨hc,hl⟩:=h
 by_cases he:a= []
 ·subst he
  (repeat'((conv=>whnf);first|refine Zg fun _=>?_|fail))
  (refine Br.mk (fun _=>?_) (fun _=>?_))
  ·skip
   (conv=>whnf)
   skip
   show [48]=itoa (if p then -0 else 0)
   split<;>exact i0.symm
  ·rename_i hx
   exact (hx rfl).elim
 ·obtain ⟨d0,d1,d2,d3,d4,d5,R,hw,hR,hd,hs,hpos⟩:=wr_front hc he
  have hin:=canon6_in hc
  have hn:0<a.length:=List.length_pos_iff.2 he
  (repeat'((conv=>whnf);first|refine Zg fun _=>?_|refine Zn ?_|refine Zm ?_|fail))
  refine Need.mk ⟨by omega,by omega,by omega,show 6*(a.length:Int)*((1:Nat):Int)≤140737488355328 by omega⟩ ?_
  skip
  refine Ask.mk ⟨{ X:=Nat,pre:=fun i=>i≤a.length,mod:=fun i _=>[(4,I i)],heap:=fun i H=>[hget H 0,U (oT a i 0)],mu:=fun i=>a.length-i },rfl,?_⟩
  (repeat'((conv=>whnf);first|refine Zn ?_|fail))
  refine ⟨⟨(0:Nat),Nat.zero_le _,?_⟩,fun (i:Nat) (hi:i≤a.length)=>?_⟩
  ·(repeat'(first|exact trivial|rfl|refine And.intro ?_ ?_|fail))
   rw[oT_zero]
   show List.replicate _ _=List.replicate _ _
   congr 1
  have gi:=hin (a.getD i 0)
  (repeat'((conv=>whnf);first|refine Zg fun _=>?_|fail))
  (refine Br.mk (fun _=>?_) (fun _=>?_))
  ·have hlt:i<a.length:=by omega
   have gx:0≤a.getD i 0∧a.getD i 0<1000000:=by
    refine hin _ ?_
    rw[List.getD_eq_getElem?_getD,List.getElem?_eq_getElem hlt]
    exact List.getElem_mem hlt
   (repeat'((conv=>whnf);first|refine Zg fun _=>?_|refine Zn ?_|refine Zj ?_|fail))
   refine Ask.mk ⟨{ X:=Nat,pre:=fun k=>k≤6,mod:=fun k _=>[(5,I (a.getD i 0/((10^k:Nat):Int))),(6,I (k+1))],heap:=fun k H=>[hget H 0,U (oT a i k)],mu:=fun k=>6-k },rfl,?_⟩
   (repeat'((conv=>whnf);first|refine Zn ?_|fail))
   refine ⟨⟨(0:Nat),Nat.zero_le _,?_⟩,fun (k:Nat) (hk:k≤6)=>?_⟩
   ·(repeat'(first|exact trivial|rfl|refine And.intro ?_ ?_|omega|fail))
   skip
   (refine Br.mk (fun _=>?_) (fun _=>?_))
   ·have hk6:k<6:=by omega
    obtain ⟨q,hq⟩:∃q,a.getD i 0/((10^k:Nat):Int)=q:=⟨_,rfl⟩
    have hq0:0≤q∧q<1000000:=by
     rw[← hq]
     have h1:(0:Int)<((10^k:Nat):Int):=Int.natCast_pos.2 (Nat.pow_pos (by omega))
     refine ⟨Int.ediv_nonneg gx.1 (by omega),?_⟩
     have:=Int.ediv_le_self ((10^k:Nat):Int) gx.1
     omega
    rw[hq]
    have tq:q.tmod 10=q%10:=Int.tmod_eq_emod_of_nonneg hq0.1
    have dq:q.tdiv 10=q/10:=Int.tdiv_eq_ediv_of_nonneg hq0.1
    have hln:=oT_len (l:=a) (i:=i) (j:=k) (by omega) (by omega)
    (repeat'((conv=>whnf);first|refine Zg fun _=>?_|refine Za ?_|refine Zn ?_|fail))
    refine ix_at (6*(a.length-i)-(k+1)) (by omega) ?_
    (repeat'((conv=>whnf);first|refine Za ?_|refine Zn ?_|fail))
    refine ⟨(k+1:Nat),by show 6-(k+1)<6-k;omega,hk6,?_⟩
    (repeat'(first|exact trivial|rfl|refine And.intro ?_ ?_|fail))
    ·rw[← hq,Nat.pow_succ,Int.natCast_mul,Int.ediv_ediv_of_nonneg (Int.natCast_nonneg _)];rfl
    ·refine oT_set hlt hk6 rfl ?_
     rw[← hq]
     have e1:a.getD i 0=((a.getD i 0).toNat:Int):=by omega
     rw[e1]
     simp only[Int.toNat_natCast]
     omega
   ·have e:k=6:=by omega
    subst e
    (repeat'((conv=>whnf);first|refine Zn ?_|fail))
    refine ⟨(i+1:Nat),by show a.length-(i+1)<a.length-i;omega,hlt,?_⟩
    (repeat'(first|exact trivial|rfl|refine And.intro ?_ ?_|fail))
    exact oT_six hlt
  ·have e:i=a.length:=by omega
   subst e
   rw[wr_cells hw ⟨hd.1,hd.2.1,hd.2.2.1,hd.2.2.2.1,hd.2.2.2.2.1,hd.2.2.2.2.2⟩]
   have hk (n:Nat):List.length (α:=Int) (bytesI R)=R.length:=bytesI_len R
   by_cases z0:d0=0
   ·subst z0
    by_cases z1:d1=0
    ·subst z1
     by_cases z2:d2=0
     ·subst z2
      by_cases z3:d3=0
      ·subst z3
       by_cases z4:d4=0
       ·subst z4
        by_cases z5:d5=0
        ·subst z5
         exfalso;omega
        ·have hf:=wr_fin hc hpos [48,48,48,48,48] (R) d5 (by omega) hw (by simp)
         (repeat'((conv=>whnf);first|refine Zg fun _=>?_|refine Zn ?_|refine Z0 ?_|fail))
         refine Br.mkY (show (48+((0:Nat):Int))=48 by omega) ?_
         (repeat'((conv=>whnf);first|refine Zg fun _=>?_|refine Zn ?_|refine Z0 ?_|refine Z1 ?_|refine Zl ?_|fail))
         refine Br.mkY (show (48+((0:Nat):Int))=48 by omega) ?_
         (repeat'((conv=>whnf);first|refine Zg fun _=>?_|refine Zn ?_|refine Z0 ?_|refine Z1 ?_|fail))
         refine Br.mkY (show (48+((0:Nat):Int))=48 by omega) ?_
         (repeat'((conv=>whnf);first|refine Zg fun _=>?_|refine Zn ?_|refine Z0 ?_|refine Z1 ?_|fail))
         refine Br.mkY (show (48+((0:Nat):Int))=48 by omega) ?_
         (repeat'((conv=>whnf);first|refine Zg fun _=>?_|refine Zn ?_|refine Z0 ?_|refine Z1 ?_|fail))
         refine Br.mkY (show (48+((0:Nat):Int))=48 by omega) ?_
         (repeat'((conv=>whnf);first|refine Zg fun _=>?_|refine Zn ?_|refine Z0 ?_|refine Z1 ?_|fail))
         refine Br.mkN (show ¬(48+(d5:Int))=48 by omega) ?_
         skip
         (refine Br.mk (fun _=>?_) (fun _=>?_))
         ·rename_i hp'
          skip
          refine Need.mk (show 1+(bytesU ((48+(d5:Int))::(bytesI R))).length≤140737488355328 by (simp only[bytesU,bytesI,List.length_map,List.length_cons];omega)) ?_
          skip
          (conv=>whnf)
          skip
          exact wr_neg hp' hpos (X:=(bytesI R)) (by simp only[bytesU_cons,bytesU_I]) hf
         ·rename_i hp'
          skip
          (conv=>whnf)
          skip
          exact wr_pos hp' hpos (X:=(bytesI R)) (by simp only[bytesU_cons,bytesU_I]) hf
       ·have hf:=wr_fin hc hpos [48,48,48,48] (UInt8.ofNat (48+d5)::R) d4 (by omega) hw (by simp)
        (repeat'((conv=>whnf);first|refine Zg fun _=>?_|refine Zn ?_|refine Z0 ?_|fail))
        refine Br.mkY (show (48+((0:Nat):Int))=48 by omega) ?_
        (repeat'((conv=>whnf);first|refine Zg fun _=>?_|refine Zn ?_|refine Z0 ?_|refine Z1 ?_|refine Zl ?_|fail))
        refine Br.mkY (show (48+((0:Nat):Int))=48 by omega) ?_
        (repeat'((conv=>whnf);first|refine Zg fun _=>?_|refine Zn ?_|refine Z0 ?_|refine Z1 ?_|fail))
        refine Br.mkY (show (48+((0:Nat):Int))=48 by omega) ?_
        (repeat'((conv=>whnf);first|refine Zg fun _=>?_|refine Zn ?_|refine Z0 ?_|refine Z1 ?_|fail))
        refine Br.mkY (show (48+((0:Nat):Int))=48 by omega) ?_
        (repeat'((conv=>whnf);first|refine Zg fun _=>?_|refine Zn ?_|refine Z0 ?_|refine Z1 ?_|fail))
        refine Br.mkN (show ¬(48+(d4:Int))=48 by omega) ?_
        skip
        (refine Br.mk (fun _=>?_) (fun _=>?_))
        ·rename_i hp'
         skip
         refine Need.mk (show 1+(bytesU ((48+(d4:Int))::((48+d5:Int)::bytesI R))).length≤140737488355328 by (simp only[bytesU,bytesI,List.length_map,List.length_cons];omega)) ?_
         skip
         (conv=>whnf)
         skip
         exact wr_neg hp' hpos (X:=((48+d5:Int)::bytesI R)) (by simp only[bytesU_cons,bytesU_I]) hf
        ·rename_i hp'
         skip
         (conv=>whnf)
         skip
         exact wr_pos hp' hpos (X:=((48+d5:Int)::bytesI R)) (by simp only[bytesU_cons,bytesU_I]) hf
      ·have hf:=wr_fin hc hpos [48,48,48] (UInt8.ofNat (48+d4)::UInt8.ofNat (48+d5)::R) d3 (by omega) hw (by simp)
       (repeat'((conv=>whnf);first|refine Zg fun _=>?_|refine Zn ?_|refine Z0 ?_|fail))
       refine Br.mkY (show (48+((0:Nat):Int))=48 by omega) ?_
       (repeat'((conv=>whnf);first|refine Zg fun _=>?_|refine Zn ?_|refine Z0 ?_|refine Z1 ?_|refine Zl ?_|fail))
       refine Br.mkY (show (48+((0:Nat):Int))=48 by omega) ?_
       (repeat'((conv=>whnf);first|refine Zg fun _=>?_|refine Zn ?_|refine Z0 ?_|refine Z1 ?_|fail))
       refine Br.mkY (show (48+((0:Nat):Int))=48 by omega) ?_
       (repeat'((conv=>whnf);first|refine Zg fun _=>?_|refine Zn ?_|refine Z0 ?_|refine Z1 ?_|fail))
       refine Br.mkN (show ¬(48+(d3:Int))=48 by omega) ?_
       skip
       (refine Br.mk (fun _=>?_) (fun _=>?_))
       ·rename_i hp'
        skip
        refine Need.mk (show 1+(bytesU ((48+(d3:Int))::((48+d4:Int)::(48+d5:Int)::bytesI R))).length≤140737488355328 by (simp only[bytesU,bytesI,List.length_map,List.length_cons];omega)) ?_
        skip
        (conv=>whnf)
        skip
        exact wr_neg hp' hpos (X:=((48+d4:Int)::(48+d5:Int)::bytesI R)) (by simp only[bytesU_cons,bytesU_I]) hf
       ·rename_i hp'
        skip
        (conv=>whnf)
        skip
        exact wr_pos hp' hpos (X:=((48+d4:Int)::(48+d5:Int)::bytesI R)) (by simp only[bytesU_cons,bytesU_I]) hf
     ·have hf:=wr_fin hc hpos [48,48] (UInt8.ofNat (48+d3)::UInt8.ofNat (48+d4)::UInt8.ofNat (48+d5)::R) d2 (by omega) hw (by simp)
      (repeat'((conv=>whnf);first|refine Zg fun _=>?_|refine Zn ?_|refine Z0 ?_|fail))
      refine Br.mkY (show (48+((0:Nat):Int))=48 by omega) ?_
      (repeat'((conv=>whnf);first|refine Zg fun _=>?_|refine Zn ?_|refine Z0 ?_|refine Z1 ?_|refine Zl ?_|fail))
      refine Br.mkY (show (48+((0:Nat):Int))=48 by omega) ?_
      (repeat'((conv=>whnf);first|refine Zg fun _=>?_|refine Zn ?_|refine Z0 ?_|refine Z1 ?_|fail))
      refine Br.mkN (show ¬(48+(d2:Int))=48 by omega) ?_
      skip
      (refine Br.mk (fun _=>?_) (fun _=>?_))
      ·rename_i hp'
       skip
       refine Need.mk (show 1+(bytesU ((48+(d2:Int))::((48+d3:Int)::(48+d4:Int)::(48+d5:Int)::bytesI R))).length≤140737488355328 by (simp only[bytesU,bytesI,List.length_map,List.length_cons];omega)) ?_
       skip
       (conv=>whnf)
       skip
       exact wr_neg hp' hpos (X:=((48+d3:Int)::(48+d4:Int)::(48+d5:Int)::bytesI R)) (by simp only[bytesU_cons,bytesU_I]) hf
      ·rename_i hp'
       skip
       (conv=>whnf)
       skip
       exact wr_pos hp' hpos (X:=((48+d3:Int)::(48+d4:Int)::(48+d5:Int)::bytesI R)) (by simp only[bytesU_cons,bytesU_I]) hf
    ·have hf:=wr_fin hc hpos [48] (UInt8.ofNat (48+d2)::UInt8.ofNat (48+d3)::UInt8.ofNat (48+d4)::UInt8.ofNat (48+d5)::R) d1 (by omega) hw (by simp)
     (repeat'((conv=>whnf);first|refine Zg fun _=>?_|refine Zn ?_|refine Z0 ?_|fail))
     refine Br.mkY (show (48+((0:Nat):Int))=48 by omega) ?_
     (repeat'((conv=>whnf);first|refine Zg fun _=>?_|refine Zn ?_|refine Z0 ?_|refine Z1 ?_|refine Zl ?_|fail))
     refine Br.mkN (show ¬(48+(d1:Int))=48 by omega) ?_
     skip
     (refine Br.mk (fun _=>?_) (fun _=>?_))
     ·rename_i hp'
      skip
      refine Need.mk (show 1+(bytesU ((48+(d1:Int))::((48+d2:Int)::(48+d3:Int)::(48+d4:Int)::(48+d5:Int)::bytesI R))).length≤140737488355328 by (simp only[bytesU,bytesI,List.length_map,List.length_cons];omega)) ?_
      skip
      (conv=>whnf)
      skip
      exact wr_neg hp' hpos (X:=((48+d2:Int)::(48+d3:Int)::(48+d4:Int)::(48+d5:Int)::bytesI R)) (by simp only[bytesU_cons,bytesU_I]) hf
     ·rename_i hp'
      skip
      (conv=>whnf)
      skip
      exact wr_pos hp' hpos (X:=((48+d2:Int)::(48+d3:Int)::(48+d4:Int)::(48+d5:Int)::bytesI R)) (by simp only[bytesU_cons,bytesU_I]) hf
   ·have hf:=wr_fin hc hpos [] (UInt8.ofNat (48+d1)::UInt8.ofNat (48+d2)::UInt8.ofNat (48+d3)::UInt8.ofNat (48+d4)::UInt8.ofNat (48+d5)::R) d0 (by omega) hw (by simp)
    (repeat'((conv=>whnf);first|refine Zg fun _=>?_|refine Zn ?_|refine Z0 ?_|fail))
    refine Br.mkN (show ¬(48+(d0:Int))=48 by omega) ?_
    skip
    (refine Br.mk (fun _=>?_) (fun _=>?_))
    ·rename_i hp'
     skip
     refine Need.mk (show 1+(bytesU ((48+(d0:Int))::((48+d1:Int)::(48+d2:Int)::(48+d3:Int)::(48+d4:Int)::(48+d5:Int)::bytesI R))).length≤140737488355328 by (simp only[bytesU,bytesI,List.length_map,List.length_cons];omega)) ?_
     skip
     (conv=>whnf)
     skip
     exact wr_neg hp' hpos (X:=((48+d1:Int)::(48+d2:Int)::(48+d3:Int)::(48+d4:Int)::(48+d5:Int)::bytesI R)) (by simp only[bytesU_cons,bytesU_I]) hf
    ·rename_i hp'
     skip
     (conv=>whnf)
     skip
     exact wr_pos hp' hpos (X:=((48+d1:Int)::(48+d2:Int)::(48+d3:Int)::(48+d4:Int)::(48+d5:Int)::bytesI R)) (by simp only[bytesU_cons,bytesU_I]) hf
theorem k116:ConOK Tryz.prog c116:=by
 refine conOK_of rfl (enters_of Tryz.func126 (by kernel_rfl) rfl) ?_
 intro args K h
 simp only[c116] at h
 split at h
 ·rename_i p hp a
  exact ⟨_,h.go,tri_of_body (Γ:=[]) (by simp) Tryz.func126 (by simp[Tryz.ntmps126]) rfl (b116 p hp a h.ok)⟩
 ·rename_i a
  refine ⟨_,h.go,?_⟩
  have ht:=tri_of_body (Γ:=[]) (by simp) Tryz.func126 (by simp[Tryz.ntmps126]) rfl (b116 False inferInstance a h.ok)
  refine tri_args (args:=[.agg [.bl False inferInstance,Ls a]]) ht ⟨⟨fun h=>h,?_,trivial⟩,trivial⟩
  rfl
 ·exact h.elim
theorem k86:ConOK Tryz.prog c86:=by
 refine conOK_of rfl (enters_of Tryz.func91 (by kernel_rfl) rfl) ?_
 intro args K h
 simp only[c86] at h
 split at h
 ·rename_i a b
  exact ⟨_,h,tri_of_body (Γ:=[c110,c111,c61,c112,c113,c116]) (by simp[k110,k111,k61,k112,k113,k116]) Tryz.func91 (by simp[Tryz.ntmps91]) rfl (b86 a b)⟩
 ·exact h.elim
def c44:Con:=mkCon 51 true fun args K=>match args with | [.str s]=>K (I (chkQ s)) | _=>False
theorem k44:ConOK Tryz.prog c44:=by
 refine conOK_of rfl (enters_of Tryz.func51 (by kernel_rfl) rfl) ?_
 intro args K h
 simp only[c44] at h
 split at h
 ·rename_i s;exact ⟨_,h,tri_of_body (Γ:=[c73,c83,c85,c84,c86]) (by simp[k73,k83,k85,k84,k86]) Tryz.func51 (by simp[Tryz.ntmps51]) rfl (b44 s)⟩
 ·exact h.elim
def badQ (s:List UInt8):Prop:=60<s.length∨chkQ s≠0
noncomputable instance (s:List UInt8):Decidable (badQ s):=Classical.propDecidable _
def fineL (l:List (List UInt8)):Prop:=∀a∈l,a.length≤60∧chkQ a=0
noncomputable instance (l:List (List UInt8)):Decidable (fineL l):=Classical.propDecidable _
theorem dec1 {n:Nat} (h:n<10):decDigits n= [UInt8.ofNat (48+n)]:=by
 rw[decDigits,dif_pos h]
theorem itoa1 {n:Nat} (h:n<10):itoa (n:Int)= [UInt8.ofNat (48+n)]:=by
 unfold itoa
 rw[if_neg (by omega),Int.toNat_natCast,dec1 h]
theorem itoa1n {n:Nat} (h0:0<n) (h:n<10):itoa (-(n:Int))= [45,UInt8.ofNat (48+n)]:=by
 unfold itoa
 rw[if_pos (by omega),Int.natAbs_neg,Int.natAbs_natCast,dec1 h]
theorem num1 {q:Rat} {n d:Nat} (hn:q.num=n) (hd:q.den=d) (h1:n<10) (h2:1<d∧d<10):numS q= [UInt8.ofNat (48+n),47,UInt8.ofNat (48+d)]:=by
 unfold numS
 rw[hn,hd,if_neg (by omega),itoa1 h1,dec1 h2.2];rfl
theorem int1 {q:Rat} {n:Nat} (hn:q.num=n) (hd:q.den=1) (h1:n<10):numS q= [UInt8.ofNat (48+n)]:=by
 unfold numS
 rw[hn,hd,if_pos rfl,itoa1 h1]
theorem int1n {q:Rat} {n:Nat} (hn:q.num= -(n:Int)) (hd:q.den=1) (h0:0<n) (h1:n<10):numS q= [45,UInt8.ofNat (48+n)]:=by
 unfold numS
 rw[hn,hd,if_pos rfl,itoa1n h0 h1]
def Sz (k:Nat) (q:Rat):Prop:=q.num.natAbs<10^k∧q.den<10^k
theorem pow_mono {i j:Nat} (h:i≤j):(10:Nat)^i≤10^j:=Nat.pow_le_pow_right (by omega) h
theorem Sz.mono {i j:Nat} {q:Rat} (h:Sz i q) (hij:i≤j):Sz j q:=
 ⟨Nat.lt_of_lt_of_le h.1 (pow_mono hij),Nat.lt_of_lt_of_le h.2 (pow_mono hij)⟩
theorem dec_le_pow {n k:Nat} (hk:0<k) (h:n<10^k):(decDigits n).length≤k:=by
 obtain ⟨m,rfl⟩:∃m,k=m+1:=⟨k-1,by omega⟩
 exact dec_len m n h
theorem lim_pow {n:Int} {k:Nat} (hk:0<k∧k≤300) (h:n.natAbs<10^k):lim n=false:=by
 unfold lim
 have:=dec_le_pow hk.1 h
 simp;omega
theorem dec_pow {n k:Nat} (h:(decDigits n).length≤k):n<10^k:=by
 have h1:=nat10_lt (decDigits n) (fun c hc=>dec_dig _ c hc)
 rw[nat10_dec] at h1
 exact Nat.lt_of_lt_of_le h1 (pow_mono h)
theorem chk_sz {q:Rat} {k:Nat} (h:Sz k q) (hk:0<k∧k≤300):chkQ (numS q)=0:=by
 refine chkQ_num (by rw[valQ_numS]) ?_ ?_
 ·rw[top_numS,digs_itoa]
  have:=dec_le_pow hk.1 h.1
  omega
 ·rw[bot_numS]
  split
  ·simp
  ·have:=dec_le_pow hk.1 h.2
   simp;omega
theorem mul_lt_pow {a b i j:Nat} (ha:a<10^i) (hb:b<10^j):a*b<10^ (i+j):=by
 rw[Nat.pow_add]
 exact Nat.mul_lt_mul'' ha hb
theorem natAbs_div_le (n:Int) (g:Nat):(n/(g:Int)).natAbs≤n.natAbs:=by
 rcases Nat.eq_zero_or_pos g with e | e
 ·subst e;simp
 ·have h1:(1:Int)≤g:=by omega
  rcases Int.le_total 0 n with h | h
  ·have h2:=Int.ediv_le_self (g:Int) h
   have h3:=Int.ediv_nonneg h (show (0:Int)≤g by omega)
   omega
  ·have h2:n/(g:Int)≤0:=by
    have:=Int.ediv_le_ediv (show (0:Int)<g by omega) h
    simpa using this
   have h3:n≤n/(g:Int):=by
    rw[Int.le_ediv_iff_mul_le (by omega)]
    have:=Int.mul_le_mul_of_nonpos_left (a:=n) h h1
    rw[Int.mul_one] at this
    omega
   omega
theorem mk_sz {n:Int} {d k:Nat} (hd:d≠0) (h1:n.natAbs<10^k) (h2:d<10^k):Sz k (mkRat n d):=by
 refine ⟨?_,?_⟩
 ·rw[Rat.num_mkRat,if_neg hd]
  refine Nat.lt_of_le_of_lt ?_ h1
  exact natAbs_div_le _ _
 ·rw[Rat.den_mkRat,if_neg hd]
  exact Nat.lt_of_le_of_lt (Nat.div_le_self _ _) h2
theorem nat_add_pow {x y:Int} {k:Nat} (hx:x.natAbs<10^k) (hy:y.natAbs<10^k):(x+y).natAbs<10^ (k+1)∧(x-y).natAbs<10^ (k+1):=by
 rw[Nat.pow_succ]
 omega
section
variable {p q:Rat} {i j:Nat}
theorem Sz.cross (hp:Sz i p) (hq:Sz j q):(p.num*q.den).natAbs<10^ (i+j)∧(q.num*p.den).natAbs<10^ (i+j)∧(p.num*q.num).natAbs<10^ (i+j)∧p.den*q.den<10^ (i+j):=by
 refine ⟨?_,?_,?_,mul_lt_pow hp.2 hq.2⟩
 ·rw[Int.natAbs_mul];exact mul_lt_pow hp.1 hq.2
 ·rw[Int.natAbs_mul,Nat.add_comm];exact mul_lt_pow hq.1 hp.2
 ·rw[Int.natAbs_mul];exact mul_lt_pow hp.1 hq.1
theorem den_ne (p q:Rat):p.den*q.den≠0:=Nat.mul_ne_zero p.den_nz q.den_nz
theorem Sz.add (hp:Sz i p) (hq:Sz j q):Sz (i+j+1) (p+q):=by
 obtain ⟨h1,h2,h3,h4⟩:=hp.cross hq
 rw[add_parts]
 exact mk_sz (den_ne p q) (nat_add_pow h1 h2).1 (Nat.lt_of_lt_of_le h4 (pow_mono (by omega)))
theorem Sz.sub (hp:Sz i p) (hq:Sz j q):Sz (i+j+1) (p-q):=by
 obtain ⟨h1,h2,h3,h4⟩:=hp.cross hq
 rw[sub_parts]
 exact mk_sz (den_ne p q) (nat_add_pow h1 h2).2 (Nat.lt_of_lt_of_le h4 (pow_mono (by omega)))
theorem Sz.mul (hp:Sz i p) (hq:Sz j q):Sz (i+j) (p*q):=by
 obtain ⟨h1,h2,h3,h4⟩:=hp.cross hq
 rw[mul_parts]
 exact mk_sz (den_ne p q) h3 h4
theorem both_sz {f:Rat→Rat→List UInt8 × Int} (hp:Sz i p) (hq:Sz j q) (hi:0<i∧i≤300) (hj:0<j∧j≤300):bothQ (numS p) (numS q) f=f p q:=by
 unfold bothQ
 rw[if_neg (by rw[chk_sz hp hi];simp),if_neg (by rw[chk_sz hq hj];simp),valQ_numS,valQ_numS]
theorem addQ_sz (hp:Sz i p) (hq:Sz j q) (hi:0<i) (hj:0<j) (h:i+j+1≤300):addQ (numS p) (numS q)=(numS (p+q),0):=by
 obtain ⟨h1,h2,h3,h4⟩:=hp.cross hq
 unfold addQ
 rw[both_sz hp hq ⟨hi,by omega⟩ ⟨hj,by omega⟩,if_neg]
 simp only[Bool.or_eq_true,not_or,Bool.not_eq_true]
 exact ⟨⟨⟨lim_pow ⟨by omega,by omega⟩ h1,lim_pow ⟨by omega,by omega⟩ h2⟩,lim_pow (k:=i+j+1) ⟨by omega,h⟩ (nat_add_pow h1 h2).1⟩,lim_pow (k:=i+j) ⟨by omega,by omega⟩ (by rw[← Int.natCast_mul,Int.natAbs_natCast];exact h4)⟩
theorem subQ_sz (hp:Sz i p) (hq:Sz j q) (hi:0<i) (hj:0<j) (h:i+j+1≤300):subQ (numS p) (numS q)=(numS (p-q),0):=by
 obtain ⟨h1,h2,h3,h4⟩:=hp.cross hq
 unfold subQ
 rw[both_sz hp hq ⟨hi,by omega⟩ ⟨hj,by omega⟩,if_neg]
 simp only[Bool.or_eq_true,not_or,Bool.not_eq_true]
 exact ⟨⟨⟨lim_pow ⟨by omega,by omega⟩ h1,lim_pow ⟨by omega,by omega⟩ h2⟩,lim_pow (k:=i+j+1) ⟨by omega,h⟩ (nat_add_pow h1 h2).2⟩,lim_pow (k:=i+j) ⟨by omega,by omega⟩ (by rw[← Int.natCast_mul,Int.natAbs_natCast];exact h4)⟩
theorem mulQ_sz (hp:Sz i p) (hq:Sz j q) (hi:0<i) (hj:0<j) (h:i+j≤300):mulQ (numS p) (numS q)=(numS (p*q),0):=by
 obtain ⟨h1,h2,h3,h4⟩:=hp.cross hq
 unfold mulQ
 rw[both_sz hp hq ⟨hi,by omega⟩ ⟨hj,by omega⟩,if_neg]
 simp only[Bool.or_eq_true,not_or,Bool.not_eq_true]
 exact ⟨lim_pow ⟨by omega,h⟩ h3,lim_pow (k:=i+j) ⟨by omega,by omega⟩ (by rw[← Int.natCast_mul,Int.natAbs_natCast];exact h4)⟩
theorem divQ_sz (hp:Sz i p) (hq:Sz j q) (hi:0<i) (hj:0<j) (h:i+j≤300) (h0:q≠0):divQ (numS p) (numS q)=(numS (p/q),0):=by
 obtain ⟨h1,h2,h3,h4⟩:=hp.cross hq
 unfold divQ
 rw[both_sz hp hq ⟨hi,by omega⟩ ⟨hj,by omega⟩,if_neg h0,if_neg]
 simp only[Bool.or_eq_true,not_or,Bool.not_eq_true]
 exact ⟨lim_pow ⟨by omega,h⟩ h1,lim_pow ⟨by omega,h⟩ h2⟩
end
theorem dec_head {n:Nat}:(decDigits n).getD 0 0≠45:=by
 intro h
 have h1:=dec_dig n ((decDigits n).getD 0 0) (by
  have:=dec_ne n
  cases e:decDigits n with
  | nil=>exact absurd e this
  | cons x r=>simp)
 rw[h] at h1
 unfold isDig at h1
 revert h1
 decide
theorem sz1:Sz 1 (1:Rat):=⟨by decide,by decide⟩
theorem numS1:numS (1:Rat)= [49]:=int1 (n:=1) (by decide) (by decide) (by decide)
set_option linter.unusedSimpArgs false
theorem numS0:numS (0:Rat)= [48]:=int1 (n:=0) (by decide) (by decide) (by decide)
theorem sz0:Sz 1 (0:Rat):=⟨by decide,by decide⟩
set_option linter.unusedSimpArgs false
set_option linter.unusedSimpArgs false
def addS (p:Prop) (m:Nat) (q:Prop) (n:Nat) [Decidable p] [Decidable q]:Prop:=addP p m q n∧addN p m q n≠0
instance (p:Prop) (m:Nat) (q:Prop) (n:Nat) [Decidable p] [Decidable q]:Decidable (addS p m q n):=by unfold addS;infer_instance
set_option linter.unusedSimpArgs false
set_option linter.unusedSimpArgs false
set_option linter.unusedSimpArgs false
set_option linter.unusedSimpArgs false
def longS (a:List UInt8):Prop:=(82<a.length∧a.length<602)∨700<a.length
instance (a:List UInt8):Decidable (longS a):=by unfold longS;infer_instance
theorem Sz.digs {q:Rat} (h:Sz 300 q):(decDigits q.num.natAbs).length≤300∧(decDigits q.den).length≤300:=⟨dec_le_pow (k:=300) (by decide) h.1,dec_le_pow (k:=300) (by decide) h.2⟩
def smR (q:Rat):Prop:=(decDigits q.num.natAbs).length≤9∧(q.den=1∨(decDigits q.den).length≤9)
instance (q:Rat):Decidable (smR q):=by unfold smR;infer_instance
abbrev ok4 (a b c d:List UInt8):Prop:=(chkI a=0∧chkI b=0)∧chkI c=0∧chkI d=0
def c80:Con:=mkCon 121 true fun args K=>match args with
 | [.str n,.str d,.str m,.str c]=>Need (ok4 n m d c∧valI d*valI c≠0) (Br (lim (valI n*valI m)=true∨lim (valI d*valI c)=true) (K (.tup [S [],I 4])) (K (.tup [S (numS (Rat.divInt (valI n*valI m) (valI d*valI c))),I 0])))
 | _=>False
theorem good_both {a b:List UInt8} (h:chkQ a=0∧chkQ b=0) (f:Rat→Rat→List UInt8 × Int):bothQ a b f=f (valQ a) (valQ b):=by
 unfold bothQ
 rw[if_neg (by rw[h.1];simp),if_neg (by rw[h.2];simp)]
set_option linter.unusedSimpArgs false
set_option linter.unusedSimpArgs false
def longL (l:List (List UInt8)):Prop:=(∃a∈l,longS a)∨8<l.length
noncomputable instance (l:List (List UInt8)):Decidable (longL l):=Classical.propDecidable _
theorem nat10_cons (c:UInt8) (r:List UInt8):nat10 (c::r)=nat10 [c]*10^r.length+nat10 r:=nat10_append [c] r
set_option linter.unusedSimpArgs false
set_option linter.unusedSimpArgs false
noncomputable def sumR:List UInt8→List (List UInt8)→List UInt8 × Int
 | s,[]=>(s,0)
 | s,a::r=>if (addQ s a).2≠0 then ([],(addQ s a).2) else sumR (addQ s a).1 r
noncomputable def chkL:List (List UInt8)→Int
 | []=>0
 | a::r=>if chkQ a≠0 then chkQ a else chkL r
noncomputable def sumQ (l:List (List UInt8)):List UInt8 × Int:=if 4096<l.length then ([],4) else if chkL l≠0 then ([],chkL l) else sumR [48] l
theorem drop_get {l:List (List UInt8)} {k:Nat} (h:k<l.length):l.drop k=l.getD k []::l.drop (k+1):=by
 rw[List.drop_eq_getElem_cons h]
 simp[List.getD_eq_getElem?_getD,h]
theorem lim_sz {n:Int} (h:lim n=false):n.natAbs<10^300:=by
 unfold lim at h
 exact dec_pow (k:=300) (by simpa using h)
theorem chk_add {p q:Rat} (h:(addf p q).2=0):chkQ (addf p q).1=0:=by
 unfold addf at h ⊢
 split at h
 ·exact absurd h (by decide)
 ·rename_i hl
  rw[if_neg hl]
  simp only[Bool.or_eq_true,not_or,Bool.not_eq_true] at hl
  obtain ⟨⟨⟨l1,l2⟩,l3⟩,l4⟩:=hl
  have h4:=lim_sz l4
  rw[← Int.natCast_mul,Int.natAbs_natCast] at h4
  have:Sz 300 (p+q):=by
   rw[add_parts]
   exact mk_sz (den_ne p q) (lim_sz l3) h4
  exact chk_sz this ⟨by decide,by decide⟩
theorem add_good {s a:List UInt8} (h:chkQ s=0∧chkQ a=0):addQ s a=addf (valQ s) (valQ a):=good_both h _
noncomputable def stS (l:List (List UInt8)):Nat→List UInt8
 | 0=>[48]
 | k+1=>(addQ (stS l k) (l.getD k [])).1
noncomputable def cntS:List UInt8→List (List UInt8)→Nat
 | _,[]=>0
 | s,a::r=>if (addQ s a).2≠0 then 1 else cntS (addQ s a).1 r+1
noncomputable abbrev nS (l:List (List UInt8)):Nat:=cntS [48] l
noncomputable abbrev itSum (l:List (List UInt8)) (k:Nat):List SV:=[S (addQ (stS l k) (l.getD k [])).1,I (addQ (stS l k) (l.getD k [])).2]
theorem b66 (l:List (List UInt8)):body Tryz.prog [] {} false Tryz.f116 [.seq .str l] (.clo 147 [] [.lelem [.seq .str l] 0]):=by
 skip
 (conv=>whnf)
 (repeat'(first|exact trivial|rfl|refine And.intro ?_ ?_|fail))
def c66:Con:=mkCon 116 false fun args K=>match args with | [.seq .str l]=>K (.clo 147 [] [.lelem [.seq .str l] 0]) | _=>False
theorem k66:ConOK Tryz.prog c66:=by
 refine conOK_of rfl (enters_of Tryz.func116 (by kernel_rfl) rfl) ?_
 intro args K h
 simp only[c66] at h
 split at h
 ·rename_i l;exact ⟨_,h,tri_of_body (Γ:=[]) (by simp) Tryz.func116 (by simp[Tryz.ntmps116]) rfl (b66 l)⟩
 ·exact h.elim
theorem cnt_step {l:List (List UInt8)} {i:Nat} (hi:i<l.length):cntS (stS l i) (l.drop i)=if (addQ (stS l i) (l.getD i [])).2≠0 then 1 else cntS (stS l (i+1)) (l.drop (i+1))+1:=by
 rw[drop_get hi];rfl
theorem b102 (l:List (List UInt8)):bodyI Tryz.prog [c17] { asks:=[(0,[])] } Tryz.f147 [.lelem [.seq .str l] 0] (nS l) (itSum l):=by
 (repeat'((conv=>whnf);first|refine Zg fun _=>?_|fail))
 refine Ask.mk ⟨{ X:=Nat,pre:=fun i=>i≤l.length∧i+cntS (stS l i) (l.drop i)=nS l,mod:=fun i _=>[(3,S (stS l i)),(9,I i)],heap:=fun i _=>[.yst (some i) (nS l) (itSum l)],mu:=fun i=>l.length-i },rfl,?_⟩
 (repeat'((conv=>whnf);first|refine Zn ?_|fail))
 refine ⟨⟨(0:Nat),⟨Nat.zero_le _,by rw[List.drop_zero,Nat.zero_add];rfl⟩,by (repeat'(first|exact trivial|rfl|refine And.intro ?_ ?_|fail))⟩,fun (i:Nat) hi=>?_⟩
 obtain ⟨hi1,hi2⟩:=hi
 skip
 (refine Br.mk (fun _=>?_) (fun _=>?_))
 ·have hlt:i<l.length:=by omega
  rw[cnt_step hlt] at hi2
  have hlt2:i<nS l:=by
   split at hi2<;>omega
  (repeat'((conv=>whnf);first|refine Zn ?_|refine Zj ?_|fail))
  refine Need.mk (by (repeat'(first|exact trivial|rfl|refine And.intro ?_ ?_|fail))) ?_
  refine Two.mk ?_ ?_
  ·skip
   by_cases hk:(addQ (stS l i) (l.getD i [])).2=0
   ·rw[if_neg (fun h=>h hk)] at hi2
    refine Br.mkN (fun h=>h hk) ?_
    (repeat'((conv=>whnf);first|refine Zn ?_|fail))
    refine ⟨(i+1:Nat),by show l.length-(i+1)<l.length-i;omega,⟨hlt,by omega⟩,?_⟩
    (repeat'(first|exact trivial|rfl|refine And.intro ?_ ?_|fail))
   ·rw[if_pos hk] at hi2
    refine Br.mkY hk ?_
    skip
    (conv=>whnf)
    omega
  ·skip
   (conv=>whnf)
   trivial
 ·have e:i=l.length:=by omega
  subst e
  rw[List.drop_eq_nil_of_le (Nat.le_refl _)] at hi2
  skip
  (conv=>whnf)
  have:cntS (stS l l.length) []=0:=rfl
  omega
def c102:Con:=mkCon 147 false fun args K=>match args with | [.lelem [.seq .str l] 0]=>K (.itr (nS l) (itSum l)) | _=>False
theorem k102:ConOK Tryz.prog c102:=by
 refine conOK_of rfl (enters_of Tryz.func147 (by kernel_rfl) rfl) ?_
 intro args K h
 simp only[c102] at h
 split at h
 ·rename_i l;exact ⟨_,h,triI_of_body (Γ:=[c17]) (by simp[k17]) Tryz.func147 (by simp[Tryz.ntmps147]) (b102 l)⟩
 ·exact h.elim
theorem chkL_zero:∀ {l:List (List UInt8)},chkL l=0→∀k,k<l.length→chkQ (l.getD k [])=0
 | [],_,k,hk=>by simp at hk
 | a::r,h,k,hk=>by
  unfold chkL at h
  split at h
  ·rename_i h1;exact absurd h h1
  ·rename_i h1
   cases k with
   | zero=>exact Classical.not_not.1 h1
   | succ k=>exact chkL_zero h k (by simpa using hk)
set_option maxHeartbeats 2000000 in
theorem b27 (l:List (List UInt8)):body Tryz.prog [c21,c66,c102] { asks:=[(0,[]),(2,[])] } true Tryz.f79 [.seq .str l] (.tup [S (sumQ l).1,I (sumQ l).2]):=by
 by_cases hl:4096<l.length
 ·have e:sumQ l=([],4):=by unfold sumQ;rw[if_pos hl]
  rw[e]
  (repeat'((conv=>whnf);first|refine Zg fun _=>?_|refine Zy ?_|fail))
  (conv=>whnf)
  (repeat'(first|exact trivial|rfl|refine And.intro ?_ ?_|fail))
 ·have e0:sumQ l=if chkL l≠0 then ([],chkL l) else sumR [48] l:=by unfold sumQ;rw[if_neg hl]
  (repeat'((conv=>whnf);first|refine Zg fun _=>?_|refine Zm ?_|fail))
  refine Ask.mk ⟨{ X:=Nat,pre:=fun i=>i≤l.length∧chkL (l.drop i)=chkL l,mod:=fun i _=>[(15,I i)],heap:=fun i H=>H,mu:=fun i=>l.length-i },rfl,?_⟩
  (repeat'((conv=>whnf);first|refine Zn ?_|fail))
  refine ⟨⟨(0:Nat),⟨Nat.zero_le _,by rw[List.drop_zero]⟩,?_⟩,fun (i:Nat) hi=>?_⟩
  ·(repeat'(first|exact trivial|rfl|refine And.intro ?_ ?_|fail))
  obtain ⟨hi,hc⟩:=hi
  by_cases hlt:i<l.length
  ·rw[drop_get hlt] at hc
   by_cases hk:chkQ (l.getD i [])=0
   ·(repeat'((conv=>whnf);first|refine Zn ?_|refine Zj ?_|refine Zy ?_|refine Zm ?_|fail))
    refine ⟨(i+1:Nat),by show l.length-(i+1)<l.length-i;omega,⟨hlt,?_⟩,?_⟩
    ·rw[← hc]
     show _=if chkQ (l.getD i [])≠0 then _ else _
     rw[if_neg (fun h=>h hk)]
    ·(repeat'(first|exact trivial|rfl|refine And.intro ?_ ?_|fail))
   ·have ec:chkL l=chkQ (l.getD i []):=by
     rw[← hc]
     show (if chkQ (l.getD i [])≠0 then _ else _)= _
     rw[if_pos hk]
    rw[ec,if_pos hk] at e0
    rw[e0]
    (repeat'((conv=>whnf);first|refine Zn ?_|refine Zj ?_|refine Zy ?_|fail))
    (conv=>whnf)
    (repeat'(first|exact trivial|rfl|refine And.intro ?_ ?_|fail))
  ·have e:i=l.length:=by omega
   subst e
   have ec:chkL l=0:=by rw[← hc,List.drop_eq_nil_of_le (Nat.le_refl _)];rfl
   have hall:∀k,k<l.length→chkQ (l.getD k [])=0:=chkL_zero ec
   rw[ec,if_neg (by simp)] at e0
   (repeat'((conv=>whnf);first|refine Zm ?_|fail))
   refine Ask.mk ⟨{ X:=Nat,pre:=fun i=>i≤l.length∧i+cntS (stS l i) (l.drop i)=nS l∧sumR (stS l i) (l.drop i)=sumR [48] l,mod:=fun _ _=>[],heap:=fun i H=>[hget H 0,hget H 1,.cells [S (stS l i)] 22],mu:=fun i=>i },rfl,?_⟩
   (repeat'((conv=>whnf);first|refine Zn ?_|fail))
   refine ⟨⟨(0:Nat),rfl,⟨Nat.zero_le _,by rw[List.drop_zero,Nat.zero_add];rfl,by rw[List.drop_zero];rfl⟩,by (repeat'(first|exact trivial|rfl|refine And.intro ?_ ?_|fail))⟩,fun (i:Nat) hi (hlt:i<nS l)=>?_,fun (i:Nat) hi (he:i=nS l)=>?_⟩
   ·obtain ⟨hi1,hi2,hi3⟩:=hi
    have hli:i<l.length:=by
     refine Nat.lt_of_not_le fun h=>?_
     have e:i=l.length:=by omega
     rw[e,List.drop_eq_nil_of_le (Nat.le_refl _)] at hi2
     have:cntS (stS l l.length) []=0:=rfl
     omega
    rw[cnt_step hli] at hi2
    rw[drop_get hli] at hi3
    have hi3:(if (addQ (stS l i) (l.getD i [])).2≠0 then ([],(addQ (stS l i) (l.getD i [])).2) else sumR (stS l (i+1)) (l.drop (i+1)))=sumR [48] l:=hi3
    show hnfL (itSum l i) _
    by_cases hk:(addQ (stS l i) (l.getD i [])).2=0
    ·rw[if_neg (fun h=>h hk)] at hi2 hi3
     (repeat'((conv=>whnf);first|refine Zg fun _=>?_|fail))
     refine Br.mkN (fun h=>h hk) ?_
     skip
     refine ⟨(i+1:Nat),rfl,⟨hli,by omega,hi3⟩,by (repeat'(first|exact trivial|rfl|refine And.intro ?_ ?_|fail))⟩
    ·rw[if_pos hk] at hi3
     rw[e0,← hi3]
     (repeat'((conv=>whnf);first|refine Zg fun _=>?_|fail))
     refine Br.mkY hk ?_
     skip
     (conv=>whnf)
     (repeat'(first|exact trivial|rfl|refine And.intro ?_ ?_|fail))
   ·obtain ⟨hi1,hi2,hi3⟩:=hi
    have hc0:cntS (stS l i) (l.drop i)=0:=by omega
    have hli:i=l.length:=by
     refine Nat.le_antisymm hi1 (Nat.le_of_not_lt fun h=>?_)
     rw[cnt_step h] at hc0
     split at hc0<;>omega
    rw[hli,List.drop_eq_nil_of_le (Nat.le_refl _)] at hi3
    have hi3:(stS l l.length,(0:Int))=sumR [48] l:=hi3
    rw[e0,← hi3,← hli]
    skip
    (conv=>whnf)
    (repeat'(first|exact trivial|rfl|refine And.intro ?_ ?_|fail))
def c27:Con:=mkCon 79 true fun args K=>match args with | [.seq .str l]=>K (.tup [S (sumQ l).1,I (sumQ l).2]) | _=>False
theorem k27:ConOK Tryz.prog c27:=by
 refine conOK_of rfl (enters_of Tryz.func79 (by kernel_rfl) rfl) ?_
 intro args K h
 simp only[c27] at h
 split at h
 ·rename_i l;exact ⟨_,h,tri_of_body (Γ:=[c21,c66,c102]) (by simp[k21,k66,k102]) Tryz.func79 (by simp[Tryz.ntmps79]) rfl (b27 l)⟩
 ·exact h.elim
set_option linter.unusedSimpArgs false
theorem fine_sz {a:List UInt8} {k:Nat} (h1:a.length≤k) (h2:chkQ a=0) (hk:0<k):a=numS (valQ a)∧Sz k (valQ a):=by
 obtain ⟨e,h3,h4⟩:=chkQ_ok h2
 refine ⟨e,?_,?_⟩
 ·refine dec_pow ?_
  rw[e] at h1
  unfold numS at h1
  have h5:(decDigits (valQ a).num.natAbs).length≤(itoa (valQ a).num).length:=by
   unfold itoa
   split
   ·simp
   ·rw[show (valQ a).num.toNat=(valQ a).num.natAbs by omega];exact Nat.le_refl _
  split at h1
  ·omega
  ·simp at h1;omega
 ·rw[e] at h1
  unfold numS at h1
  split at h1
  ·rename_i e1
   rw[e1];exact Nat.one_lt_pow (by omega) (by decide)
  ·refine dec_pow ?_
   simp at h1;omega
theorem chkL_all {l:List (List UInt8)} (h:∀a∈l,chkQ a=0):chkL l=0:=by
 induction l with
 | nil=>rfl
 | cons a r ih=>
  unfold chkL
  rw[if_neg (fun hn=>hn (h a (List.mem_cons_self ..)))]
  exact ih fun b hb=>h b (List.mem_cons_of_mem _ hb)
end RB
end
section
set_option linter.unusedVariables false
namespace RB
def thD (ax ay bx by' cx cy:Rat):Rat:=(bx-ax)*(cy-ay)-(by'-ay)*(cx-ax)
def thA (ax ay az bx by' bz cx cy cz:Rat):Rat:=((bz-az)*(cy-ay)-(by'-ay)*(cz-az))/thD ax ay bx by' cx cy
def thB (ax ay az bx by' bz cx cy cz:Rat):Rat:=((bx-ax)*(cz-az)-(bz-az)*(cx-ax))/thD ax ay bx by' cx cy
def thC (ax ay az bx by' bz cx cy cz:Rat):Rat:=az-(thA ax ay az bx by' bz cx cy cz*ax+thB ax ay az bx by' bz cx cy cz*ay)
section
variable {ax ay az bx by' bz cx cy cz P Q R:Rat}
theorem th_on (hD:thD ax ay bx by' cx cy≠0):
  thA ax ay az bx by' bz cx cy cz*ax+thB ax ay az bx by' bz cx cy cz*ay+thC ax ay az bx by' bz cx cy cz=az∧
  thA ax ay az bx by' bz cx cy cz*bx+thB ax ay az bx by' bz cx cy cz*by'+thC ax ay az bx by' bz cx cy cz=bz∧
  thA ax ay az bx by' bz cx cy cz*cx+thB ax ay az bx by' bz cx cy cz*cy+thC ax ay az bx by' bz cx cy cz=cz:=by
 have hA:thA ax ay az bx by' bz cx cy cz*thD ax ay bx by' cx cy=(bz-az)*(cy-ay)-(by'-ay)*(cz-az):=Rat.div_mul_cancel hD
 have hB:thB ax ay az bx by' bz cx cy cz*thD ax ay bx by' cx cy=(bx-ax)*(cz-az)-(bz-az)*(cx-ax):=Rat.div_mul_cancel hD
 have hd:thD ax ay bx by' cx cy=(bx-ax)*(cy-ay)-(by'-ay)*(cx-ax):=rfl
 unfold thC
 generalize thA ax ay az bx by' bz cx cy cz=A at*
 generalize thB ax ay az bx by' bz cx cy cz=B at*
 generalize thD ax ay bx by' cx cy=D at*
 refine ⟨by grind,?_,?_⟩
 ·have:(A*bx+B*by'+(az-(A*ax+B*ay))-bz)*D=0:=by
   have:(A*bx+B*by'+(az-(A*ax+B*ay))-bz)*D=(A*D)*(bx-ax)+(B*D)*(by'-ay)-(bz-az)*D:=by grind
   rw[this,hA,hB,hd]
   grind
  rcases Rat.mul_eq_zero.1 this with h | h
  ·grind
  ·exact absurd h hD
 ·have:(A*cx+B*cy+(az-(A*ax+B*ay))-cz)*D=0:=by
   have:(A*cx+B*cy+(az-(A*ax+B*ay))-cz)*D=(A*D)*(cx-ax)+(B*D)*(cy-ay)-(cz-az)*D:=by grind
   rw[this,hA,hB,hd]
   grind
  rcases Rat.mul_eq_zero.1 this with h | h
  ·grind
  ·exact absurd h hD
theorem th_uni (hD:thD ax ay bx by' cx cy≠0) (h1:P*ax+Q*ay+R=az) (h2:P*bx+Q*by'+R=bz) (h3:P*cx+Q*cy+R=cz):
  thA ax ay az bx by' bz cx cy cz=P∧thB ax ay az bx by' bz cx cy cz=Q∧thC ax ay az bx by' bz cx cy cz=R:=by
 have hd:thD ax ay bx by' cx cy=(bx-ax)*(cy-ay)-(by'-ay)*(cx-ax):=rfl
 have hA:thA ax ay az bx by' bz cx cy cz=P:=by
  have e:(bz-az)*(cy-ay)-(by'-ay)*(cz-az)=P*thD ax ay bx by' cx cy:=by rw[hd,← h1,← h2,← h3];grind
  unfold thA
  rw[e,Rat.mul_div_cancel hD]
 have hB:thB ax ay az bx by' bz cx cy cz=Q:=by
  have e:(bx-ax)*(cz-az)-(bz-az)*(cx-ax)=Q*thD ax ay bx by' cx cy:=by rw[hd,← h1,← h2,← h3];grind
  unfold thB
  rw[e,Rat.mul_div_cancel hD]
 refine ⟨hA,hB,?_⟩
 unfold thC
 rw[hA,hB,← h1]
 grind
theorem thD_swap:thD bx by' ax ay cx cy= -thD ax ay bx by' cx cy:=by unfold thD;grind
theorem thD_ends:thD cx cy bx by' ax ay= -thD ax ay bx by' cx cy:=by unfold thD;grind
theorem thD_turn:thD bx by' cx cy ax ay=thD ax ay bx by' cx cy:=by unfold thD;grind
theorem th_swap (hD:thD ax ay bx by' cx cy≠0):thA bx by' bz ax ay az cx cy cz=thA ax ay az bx by' bz cx cy cz∧thB bx by' bz ax ay az cx cy cz=thB ax ay az bx by' bz cx cy cz∧thC bx by' bz ax ay az cx cy cz=thC ax ay az bx by' bz cx cy cz:=by
 obtain ⟨h1,h2,h3⟩:=th_on (az:=az) (bz:=bz) (cz:=cz) hD
 exact th_uni (by rw[thD_swap];grind) h2 h1 h3
theorem th_ends (hD:thD ax ay bx by' cx cy≠0):thA cx cy cz bx by' bz ax ay az=thA ax ay az bx by' bz cx cy cz∧thB cx cy cz bx by' bz ax ay az=thB ax ay az bx by' bz cx cy cz∧thC cx cy cz bx by' bz ax ay az=thC ax ay az bx by' bz cx cy cz:=by
 obtain ⟨h1,h2,h3⟩:=th_on (az:=az) (bz:=bz) (cz:=cz) hD
 exact th_uni (by rw[thD_ends];grind) h3 h2 h1
theorem th_turn (hD:thD ax ay bx by' cx cy≠0):thA bx by' bz cx cy cz ax ay az=thA ax ay az bx by' bz cx cy cz∧thB bx by' bz cx cy cz ax ay az=thB ax ay az bx by' bz cx cy cz∧thC bx by' bz cx cy cz ax ay az=thC ax ay az bx by' bz cx cy cz:=by
 obtain ⟨h1,h2,h3⟩:=th_on (az:=az) (bz:=bz) (cz:=cz) hD
 exact th_uni (by rw[thD_turn];exact hD) h2 h3 h1
end
end RB
end
section
open Go Go.Proofs Go.Eng Go.Shelf IB Go.Lib Go.RowKit
namespace RB
set_option maxRecDepth 10000
set_option linter.unusedVariables false
set_option linter.unusedSimpArgs false
def d36 (q:Rat):Prop:=(decDigits q.num.natAbs).length≤36∧(decDigits q.den).length≤36
instance (q:Rat):Decidable (d36 q):=inferInstanceAs (Decidable (_∧ _))
theorem d36_sz {q:Rat} (h:d36 q):Sz 36 q:=⟨dec_pow h.1,dec_pow h.2⟩
theorem sz_d36 {q:Rat} {k:Nat} (h:Sz k q) (h0:0<k) (hk:k≤36):d36 q:=⟨Nat.le_trans (dec_le_pow h0 h.1) hk,Nat.le_trans (dec_le_pow h0 h.2) hk⟩
noncomputable def chkP (a:List UInt8):Int:=if chkQ a≠0 then chkQ a else if d36 (valQ a) then 0 else 4
theorem chkP_ok {a:List UInt8} (h:chkP a=0):chkQ a=0∧d36 (valQ a):=by
 unfold chkP at h
 split at h
 ·rename_i h1;exact absurd h h1
 ·rename_i h1
  refine ⟨Classical.not_not.1 h1,?_⟩
  split at h
  ·assumption
  ·exact absurd h (by decide)
theorem chkP_num {a:List UInt8} (h:chkP a=0):a=numS (valQ a)∧Sz 36 (valQ a):=⟨(chkQ_ok (chkP_ok h).1).1,d36_sz (chkP_ok h).2⟩
theorem chkP_of {a:List UInt8} (h1:chkQ a=0) (h2:d36 (valQ a)):chkP a=0:=by
 unfold chkP
 rw[if_neg (fun h=>h h1),if_pos h2]
def badP (l:List (List UInt8)):Prop:=∃a∈l,chkP a≠0
noncomputable instance (l:List (List UInt8)):Decidable (badP l):=Classical.propDecidable _
theorem badP_no {l:List (List UInt8)} (h:¬badP l):∀a∈l,chkP a=0:=fun a ha=>Classical.not_not.1 fun h1=>h ⟨a,ha,h1⟩
noncomputable def chk3 (a b c:List UInt8):Int:=if chkQ a≠0 then chkQ a else if chkQ b≠0 then chkQ b else if chkQ c≠0 then chkQ c else if chkP a≠0 then chkP a else if chkP b≠0 then chkP b else chkP c
theorem chk3_ok {a b c:List UInt8} (h:chk3 a b c=0):chkP a=0∧chkP b=0∧chkP c=0:=by
 unfold chk3 at h
 split at h
 ·rename_i h1;exact absurd h h1
 split at h
 ·rename_i h1;exact absurd h h1
 split at h
 ·rename_i h1;exact absurd h h1
 split at h
 ·rename_i h1;exact absurd h h1
 split at h
 ·rename_i h1;exact absurd h h1
 rename_i h1 h2
 exact ⟨Classical.not_not.1 h1,Classical.not_not.1 h2,h⟩
theorem chk3_of {a b c:List UInt8} (h1:chkP a=0) (h2:chkP b=0) (h3:chkP c=0):chk3 a b c=0:=by
 unfold chk3
 rw[if_neg (fun h=>h (chkP_ok h1).1),if_neg (fun h=>h (chkP_ok h2).1),if_neg (fun h=>h (chkP_ok h3).1),if_neg (fun h=>h h1),if_neg (fun h=>h h2),h3]
section
variable {p q r:Rat} {i j k:Nat}
theorem chkP_numS (h:Sz i p) (hi:0<i) (hi2:i≤36):chkP (numS p)=0:=chkP_of (chk_sz h ⟨hi,by omega⟩) (by rw[valQ_numS];exact sz_d36 h hi hi2)
theorem add48 (h:Sz i p) (hi:0<i) (h300:i≤298):addQ [48] (numS p)=(numS p,0):=by
 have:=addQ_sz sz0 h (by omega) hi (by omega)
 rwa [numS0,Rat.zero_add] at this
theorem chk2L (hp:Sz i p) (hq:Sz j q) (hi:0<i∧i≤300) (hj:0<j∧j≤300):chkL [numS p,numS q]=0:=chkL_all fun a ha=>by
 simp only[List.mem_cons,List.not_mem_nil,or_false] at ha
 rcases ha with rfl | rfl
 ·exact chk_sz hp hi
 ·exact chk_sz hq hj
theorem chk3L (hp:Sz i p) (hq:Sz j q) (hr:Sz k r) (hi:0<i∧i≤300) (hj:0<j∧j≤300) (hk:0<k∧k≤300):chkL [numS p,numS q,numS r]=0:=chkL_all fun a ha=>by
 simp only[List.mem_cons,List.not_mem_nil,or_false] at ha
 rcases ha with rfl | rfl | rfl
 ·exact chk_sz hp hi
 ·exact chk_sz hq hj
 ·exact chk_sz hr hk
theorem sum2 (hp:Sz i p) (hq:Sz j q) (hi:0<i) (hj:0<j) (h:i+j+1≤298):sumQ [numS p,numS q]=(numS (p+q),0)∧Sz (i+j+1) (p+q):=by
 refine ⟨?_,hp.add hq⟩
 unfold sumQ
 rw[if_neg (by simp),if_neg (fun hn=>hn (chk2L hp hq ⟨hi,by omega⟩ ⟨hj,by omega⟩))]
 show (if (addQ [48] (numS p)).2≠0 then _ else if (addQ (addQ [48] (numS p)).1 (numS q)).2≠0 then _ else _)= _
 rw[add48 hp hi (by omega)]
 show (if (0:Int)≠0 then _ else if (addQ (numS p) (numS q)).2≠0 then _ else ((addQ (numS p) (numS q)).1,(0:Int)))= _
 rw[addQ_sz hp hq hi hj (by omega)]
 rfl
theorem sum3 (hp:Sz i p) (hq:Sz j q) (hr:Sz k r) (hi:0<i) (hj:0<j) (hk:0<k) (h:i+j+k+2≤298):sumQ [numS p,numS q,numS r]=(numS (p+q+r),0)∧Sz (i+j+k+2) (p+q+r):=by
 have h2:=hp.add hq
 refine ⟨?_,by have:=h2.add hr;rwa [show i+j+1+k+1=i+j+k+2 by omega] at this⟩
 unfold sumQ
 rw[if_neg (by simp),if_neg (fun hn=>hn (chk3L hp hq hr ⟨hi,by omega⟩ ⟨hj,by omega⟩ ⟨hk,by omega⟩))]
 show (if (addQ [48] (numS p)).2≠0 then _ else if (addQ (addQ [48] (numS p)).1 (numS q)).2≠0 then _ else if (addQ (addQ (addQ [48] (numS p)).1 (numS q)).1 (numS r)).2≠0 then _ else _)= _
 rw[add48 hp hi (by omega)]
 show (if (0:Int)≠0 then _ else if (addQ (numS p) (numS q)).2≠0 then _ else if (addQ (addQ (numS p) (numS q)).1 (numS r)).2≠0 then _ else ((addQ (addQ (numS p) (numS q)).1 (numS r)).1,(0:Int)))= _
 rw[addQ_sz hp hq hi hj (by omega)]
 show (if (0:Int)≠0 then _ else if (0:Int)≠0 then _ else if (addQ (numS (p+q)) (numS r)).2≠0 then _ else ((addQ (numS (p+q)) (numS r)).1,(0:Int)))= _
 rw[addQ_sz h2 hr (by omega) hk (by omega)]
 rfl
end
theorem chkP_ex {a:List UInt8} (h:chkP a=0):∃p,a=numS p∧Sz 36 p∧valQ a=p:=⟨valQ a,(chkP_num h).1,(chkP_num h).2,rfl⟩
theorem chk3_num {a b c:List UInt8} (h:chk3 a b c=0):∃p q r,(a=numS p∧b=numS q∧c=numS r)∧(Sz 36 p∧Sz 36 q∧Sz 36 r)∧valQ a=p∧valQ b=q∧valQ c=r:=by
 obtain ⟨h1,h2,h3⟩:=chk3_ok h
 obtain ⟨p,e1,z1,v1⟩:=chkP_ex h1
 obtain ⟨q,e2,z2,v2⟩:=chkP_ex h2
 obtain ⟨r,e3,z3,v3⟩:=chkP_ex h3
 exact ⟨p,q,r,⟨e1,e2,e3⟩,⟨z1,z2,z3⟩,v1,v2,v3⟩
theorem badP2_num {a b:List UInt8} (h:¬badP [a,b]):∃p q,(a=numS p∧b=numS q)∧(Sz 36 p∧Sz 36 q)∧valQ a=p∧valQ b=q:=by
 have h':=badP_no h
 obtain ⟨p,e1,z1,v1⟩:=chkP_ex (h' a (by simp))
 obtain ⟨q,e2,z2,v2⟩:=chkP_ex (h' b (by simp))
 exact ⟨p,q,⟨e1,e2⟩,⟨z1,z2⟩,v1,v2⟩
theorem badP3_num {a b c:List UInt8} (h:¬badP [a,b,c]):∃p q r,(a=numS p∧b=numS q∧c=numS r)∧(Sz 36 p∧Sz 36 q∧Sz 36 r)∧valQ a=p∧valQ b=q∧valQ c=r:=by
 have h':=badP_no h
 obtain ⟨p,e1,z1,v1⟩:=chkP_ex (h' a (by simp))
 obtain ⟨q,e2,z2,v2⟩:=chkP_ex (h' b (by simp))
 obtain ⟨r,e3,z3,v3⟩:=chkP_ex (h' c (by simp))
 exact ⟨p,q,r,⟨e1,e2,e3⟩,⟨z1,z2,z3⟩,v1,v2,v3⟩
def keepE (e x:Int):Int:=if e=0 then x else e
theorem keepE0 (x:Int):keepE 0 x=x:=rfl
noncomputable def hgt (a b c x y:List UInt8):Rat:=valQ a*valQ x+valQ b*valQ y+valQ c
noncomputable def atP (a b c x y:List UInt8):List UInt8 × Int:=if chk3 a b c≠0∨badP [x,y] then ([],1) else (numS (hgt a b c x y),0)
noncomputable def dotP (a b a' b':List UInt8):Rat:=valQ a*valQ a'+valQ b*valQ b'+1
noncomputable def nmP (a b c a' b' c':List UInt8):List UInt8 × List UInt8 × Int:=if chk3 a b c≠0∨chk3 a' b' c'≠0 then ([],[],1) else (numS (dotP a b a' b'),numS (dotP a b a b*dotP a' b' a' b'),0)
noncomputable def meP (a b c a' b' c':List UInt8):List UInt8 × List UInt8 × List UInt8 × Int:=
 if chk3 a b c≠0∨chk3 a' b' c'≠0 then ([],[],[],1)
 else if valQ a-valQ a'=0∧valQ b-valQ b'=0 then ([],[],[],12)
 else if valQ a-valQ a'=0 then ([48],[49],numS ((valQ c'-valQ c)/(valQ b-valQ b')),0)
 else ([49],numS ((valQ b-valQ b')/(valQ a-valQ a')),numS ((valQ c'-valQ c)/(valQ a-valQ a')),0)
def upA (ax ay az bx by' bz cx cy cz:Rat):Rat:=(bz-az)*(cy-ay)-(by'-ay)*(cz-az)
def upB (ax ay az bx by' bz cx cy cz:Rat):Rat:=(bx-ax)*(cz-az)-(bz-az)*(cx-ax)
noncomputable def thR (ax ay az bx by' bz cx cy cz:Rat):List UInt8 × List UInt8 × List UInt8 × Int:=
 if thD ax ay bx by' cx cy=0 then ([],[],[],12)
 else if (divQ (numS (upA ax ay az bx by' bz cx cy cz)) (numS (thD ax ay bx by' cx cy))).2≠0∨(divQ (numS (upB ax ay az bx by' bz cx cy cz)) (numS (thD ax ay bx by' cx cy))).2≠0∨¬d36 (thA ax ay az bx by' bz cx cy cz)∨¬d36 (thB ax ay az bx by' bz cx cy cz)∨¬d36 (thC ax ay az bx by' bz cx cy cz) then ([],[],[],4)
 else (numS (thA ax ay az bx by' bz cx cy cz),numS (thB ax ay az bx by' bz cx cy cz),numS (thC ax ay az bx by' bz cx cy cz),0)
noncomputable def thP (ax ay az bx by' bz cx cy cz:List UInt8):List UInt8 × List UInt8 × List UInt8 × Int:=
 if badP [ax,ay,az]∨badP [bx,by',bz]∨badP [cx,cy,cz] then ([],[],[],1) else thR (valQ ax) (valQ ay) (valQ az) (valQ bx) (valQ by') (valQ bz) (valQ cx) (valQ cy) (valQ cz)
theorem numS2:numS (2:Rat)= [50]:=int1 (n:=2) (by decide) (by decide) (by decide)
theorem numS3:numS (3:Rat)= [51]:=int1 (n:=3) (by decide) (by decide) (by decide)
theorem numS4:numS (4:Rat)= [52]:=int1 (n:=4) (by decide) (by decide) (by decide)
theorem numSm:numS (-1:Rat)= [45,49]:=int1n (n:=1) (by decide) (by decide) (by decide) (by decide)
theorem numSh:numS (mkRat 1 2)= [49,47,50]:=num1 (n:=1) (d:=2) (by decide) (by decide) (by decide) (by decide)
theorem bad3_no {p q r:Rat} (hp:Sz 36 p) (hq:Sz 36 q) (hr:Sz 36 r):¬badP [numS p,numS q,numS r]:=by
 rintro ⟨a,ha,h⟩
 simp only[List.mem_cons,List.not_mem_nil,or_false] at ha
 rcases ha with rfl | rfl | rfl
 ·exact h (chkP_numS hp (by decide) (by decide))
 ·exact h (chkP_numS hq (by decide) (by decide))
 ·exact h (chkP_numS hr (by decide) (by decide))
theorem bad2_no {p q:Rat} (hp:Sz 36 p) (hq:Sz 36 q):¬badP [numS p,numS q]:=by
 rintro ⟨a,ha,h⟩
 simp only[List.mem_cons,List.not_mem_nil,or_false] at ha
 rcases ha with rfl | rfl
 ·exact h (chkP_numS hp (by decide) (by decide))
 ·exact h (chkP_numS hq (by decide) (by decide))
theorem chk3_no {p q r:Rat} (hp:Sz 36 p) (hq:Sz 36 q) (hr:Sz 36 r):chk3 (numS p) (numS q) (numS r)=0:=chk3_of (chkP_numS hp (by decide) (by decide)) (chkP_numS hq (by decide) (by decide)) (chkP_numS hr (by decide) (by decide))
theorem atP_num {a b c x y:Rat} (ha:Sz 36 a) (hb:Sz 36 b) (hc:Sz 36 c) (hx:Sz 36 x) (hy:Sz 36 y):atP (numS a) (numS b) (numS c) (numS x) (numS y)=(numS (a*x+b*y+c),0):=by
 unfold atP hgt
 rw[if_neg (by rintro (h | h);exact h (chk3_no ha hb hc);exact bad2_no hx hy h)]
 simp only[valQ_numS]
theorem thP_num {ax ay az bx by' bz cx cy cz:Rat} (h1:Sz 36 ax) (h2:Sz 36 ay) (h3:Sz 36 az) (h4:Sz 36 bx) (h5:Sz 36 by') (h6:Sz 36 bz) (h7:Sz 36 cx) (h8:Sz 36 cy) (h9:Sz 36 cz):
  thP (numS ax) (numS ay) (numS az) (numS bx) (numS by') (numS bz) (numS cx) (numS cy) (numS cz)=thR ax ay az bx by' bz cx cy cz:=by
 unfold thP
 rw[if_neg (by rintro (h | h | h);exact bad3_no h1 h2 h3 h;exact bad3_no h4 h5 h6 h;exact bad3_no h7 h8 h9 h)]
 simp only[valQ_numS]
theorem th_sizes {k:Nat} {ax ay az bx by' bz cx cy cz:Rat} (h1:Sz k ax) (h2:Sz k ay) (h3:Sz k az) (h4:Sz k bx) (h5:Sz k by') (h6:Sz k bz) (h7:Sz k cx) (h8:Sz k cy) (h9:Sz k cz):
  Sz (8*k+5) (thD ax ay bx by' cx cy)∧Sz (8*k+5) (upA ax ay az bx by' bz cx cy cz)∧Sz (8*k+5) (upB ax ay az bx by' bz cx cy cz):=by
 have e:k+k+1+(k+k+1)+(k+k+1+(k+k+1))+1=8*k+5:=by omega
 refine ⟨?_,?_,?_⟩
 ·have:=((h4.sub h1).mul (h8.sub h2)).sub ((h5.sub h2).mul (h7.sub h1))
  rwa [e] at this
 ·have:=((h6.sub h3).mul (h8.sub h2)).sub ((h5.sub h2).mul (h9.sub h3))
  rwa [e] at this
 ·have:=((h4.sub h1).mul (h9.sub h3)).sub ((h6.sub h3).mul (h7.sub h1))
  rwa [e] at this
theorem aw_th:thP [48] [48] [48] [50] [48] [49] [48] [51] [48]=([49,47,50],[48],[48],0):=by
 have z0:Sz 36 0:=⟨by decide,by decide⟩
 have z1:Sz 36 1:=⟨by decide,by decide⟩
 have z2:Sz 36 2:=⟨by decide,by decide⟩
 have z3:Sz 36 3:=⟨by decide,by decide⟩
 have h:=thP_num z0 z0 z0 z2 z0 z1 z0 z3 z0
 rw[numS0,numS1,numS2,numS3] at h
 rw[h]
 unfold thR
 have eD:thD 0 0 2 0 0 3=6:=by decide+kernel
 have eA:thA 0 0 0 2 0 1 0 3 0=mkRat 1 2:=by decide+kernel
 have eB:thB 0 0 0 2 0 1 0 3 0=0:=by decide+kernel
 have eC:thC 0 0 0 2 0 1 0 3 0=0:=by decide+kernel
 have uA:upA 0 0 0 2 0 1 0 3 0=3:=by decide+kernel
 have uB:upB 0 0 0 2 0 1 0 3 0=0:=by decide+kernel
 rw[eD,eA,eB,eC,uA,uB]
 have s0:Sz 1 0:=⟨by decide,by decide⟩
 have s3:Sz 1 3:=⟨by decide,by decide⟩
 have s6:Sz 1 6:=⟨by decide,by decide⟩
 have sh:Sz 1 (mkRat 1 2):=⟨by decide,by decide⟩
 rw[if_neg (by decide),divQ_sz s3 s6 (by decide) (by decide) (by decide) (by decide),divQ_sz s0 s6 (by decide) (by decide) (by decide) (by decide),if_neg,numSh,numS0]
 rintro (h | h | h | h | h)
 ·exact h rfl
 ·exact h rfl
 ·exact h (sz_d36 sh (by decide) (by decide))
 ·exact h (sz_d36 s0 (by decide) (by decide))
 ·exact h (sz_d36 s0 (by decide) (by decide))
theorem aw_me:meP [49] [48] [48] [48] [49] [48]=([49],[45,49],[48],0):=by
 have z0:Sz 36 0:=⟨by decide,by decide⟩
 have z1:Sz 36 1:=⟨by decide,by decide⟩
 rw[← numS0,← numS1]
 unfold meP
 rw[if_neg (by rintro (h | h);exact h (chk3_no z1 z0 z0);exact h (chk3_no z0 z1 z0))]
 simp only[valQ_numS]
 rw[if_neg (by decide+kernel),if_neg (by decide+kernel),show ((0:Rat)-1)/(1-0)= -1 by decide+kernel,show ((0:Rat)-0)/(1-0)=0 by decide+kernel,numS1,numS0,numSm]
theorem aw_nm:nmP [49] [48] [48] [48] [49] [48]=([49],[52],0):=by
 have z0:Sz 36 0:=⟨by decide,by decide⟩
 have z1:Sz 36 1:=⟨by decide,by decide⟩
 rw[← numS0,← numS1]
 unfold nmP dotP
 rw[if_neg (by rintro (h | h);exact h (chk3_no z1 z0 z0);exact h (chk3_no z0 z1 z0))]
 simp only[valQ_numS]
 rw[show (1:Rat)*0+0*1+1=1 by decide+kernel,show ((1:Rat)*1+0*0+1)*(0*0+1*1+1)=4 by decide+kernel,numS1,numS4]
section
variable (p:List UInt8→Prop) [DecidablePred p]
def ixD (l:List (List UInt8)):Int:=if l.findIdx (fun s=>decide (p s))<l.length then (l.findIdx (fun s=>decide (p s)):Int) else -1
theorem ixD_at {l:List (List UInt8)} {i:Nat} (hi:i<l.length) (hb:p (l.getD i [])) (h:∀j,j<i→¬p (l.getD j [])):ixD p l=i:=by
 have e:l.findIdx (fun s=>decide (p s))=i:=by
  rw[List.findIdx_eq hi]
  refine ⟨by simpa [List.getD_eq_getElem?_getD,hi] using hb,fun j hj=>?_⟩
  have:=h j hj
  simpa [List.getD_eq_getElem?_getD,show j<l.length by omega] using this
 unfold ixD
 rw[e,if_pos hi]
theorem ixD_no {l:List (List UInt8)} (h:∀j,j<l.length→¬p (l.getD j [])):ixD p l= -1:=by
 unfold ixD
 rw[if_neg]
 intro hlt
 have h1:=List.findIdx_getElem (w:=hlt)
 have h2:=h _ hlt
 simp only[decide_eq_true_eq] at h1
 apply h2
 simpa [List.getD_eq_getElem?_getD,hlt] using h1
theorem ixD_iff (l:List (List UInt8)):0≤ixD p l↔∃a∈l,p a:=by
 constructor
 ·intro h
  refine Classical.byContradiction fun hn=>?_
  rw[ixD_no p (fun j hj hp=>hn ⟨_,by rw[List.getD_eq_getElem?_getD,List.getElem?_eq_getElem hj];exact List.getElem_mem hj,hp⟩)] at h
  omega
 ·rintro ⟨a,ha,hp⟩
  unfold ixD
  have:l.findIdx (fun s=>decide (p s))<l.length:=List.findIdx_lt_length_of_exists ⟨a,ha,by simpa using hp⟩
  rw[if_pos this]
  omega
end
def badS (s:List UInt8):Prop:=12<s.length∨chkQ s≠0
noncomputable instance (s:List UInt8):Decidable (badS s):=Classical.propDecidable _
noncomputable instance:DecidablePred badS:=fun s=>Classical.propDecidable _
def notP (s:List UInt8):Prop:=chkP s≠0
noncomputable instance:DecidablePred notP:=fun s=>Classical.propDecidable _
def shortL (l:List (List UInt8)):Prop:=∀a∈l,a.length≤12∧chkQ a=0
noncomputable instance (l:List (List UInt8)):Decidable (shortL l):=Classical.propDecidable _
theorem shortL_iff (l:List (List UInt8)):¬0≤ixD badS l↔shortL l:=by
 rw[ixD_iff]
 unfold shortL badS
 constructor
 ·intro h a ha
  refine ⟨?_,?_⟩
  ·exact Nat.le_of_not_lt fun h1=>h ⟨a,ha,.inl h1⟩
  ·exact Classical.byContradiction fun h1=>h ⟨a,ha,.inr h1⟩
 ·rintro h ⟨a,ha,hb⟩
  have:=h a ha
  rcases hb with hb | hb
  ·omega
  ·exact hb this.2
theorem short_ex {l:List (List UInt8)} (h:shortL l) {a:List UInt8} (ha:a∈l):∃p,a=numS p∧Sz 12 p:=⟨valQ a,fine_sz (h a ha).1 (h a ha).2 (by decide)⟩
theorem Sz.up {k:Nat} {q:Rat} (h:Sz 12 q) (hk:12≤k):Sz k q:=h.mono hk
theorem div_szk {p q:Rat} {k:Nat} (h1:(p.num*q.den).natAbs<10^k) (h2:(q.num*p.den).natAbs<10^k) (h0:q≠0):Sz k (p/q):=by
 have hq:q.num≠0:=fun h=>h0 (Rat.num_eq_zero.1 h)
 have hp:(0:Int)<p.den:=by have:=p.den_pos;omega
 rw[div_parts p q h0]
 rcases Int.lt_or_lt_of_ne hq with h | h
 ·have hd:(p.den:Int)*q.num<0:=Int.mul_neg_of_pos_of_neg hp h
  rw[mk_neg_den _ _ hd]
  refine mk_sz (by omega) (by rwa [Int.natAbs_neg]) ?_
  have:(-((p.den:Int)*q.num)).toNat=(q.num*p.den).natAbs:=by rw[Int.mul_comm q.num];omega
  rwa [this]
 ·have hd:0<(p.den:Int)*q.num:=Int.mul_pos hp h
  rw[mk_pos_den _ _ hd]
  refine mk_sz (by omega) h1 ?_
  have:((p.den:Int)*q.num).toNat=(q.num*p.den).natAbs:=by rw[Int.mul_comm q.num];omega
  rwa [this]
def Vd (q:Rat):Prop:=chkQ (numS q)=0
theorem Sz.vd {q:Rat} {k:Nat} (h:Sz k q) (hk:0<k∧k≤300):Vd q:=chk_sz h hk
section
variable {p q:Rat}
theorem add04v (hp:Vd p) (hq:Vd q):(addQ (numS p) (numS q)).2=4∨(addQ (numS p) (numS q)=(numS (p+q),0)∧Vd (p+q)):=by
 have e:addQ (numS p) (numS q)=addf p q:=by rw[add_good ⟨hp,hq⟩,valQ_numS,valQ_numS]
 have:=chk_add (p:=p) (q:=q)
 rw[e]
 unfold addf at this ⊢
 split
 ·exact .inl rfl
 ·rename_i h
  rw[if_neg h] at this
  exact .inr ⟨rfl,this rfl⟩
theorem sub04v (hp:Vd p) (hq:Vd q):(subQ (numS p) (numS q)).2=4∨(subQ (numS p) (numS q)=(numS (p-q),0)∧Vd (p-q)):=by
 have e:subQ (numS p) (numS q)=subf p q:=by rw[show subQ (numS p) (numS q)=subf _ _ from good_both ⟨hp,hq⟩ _,valQ_numS,valQ_numS]
 rw[e]
 unfold subf
 split
 ·exact .inl rfl
 ·rename_i hl
  simp only[Bool.or_eq_true,not_or,Bool.not_eq_true] at hl
  obtain ⟨⟨⟨l1,l2⟩,l3⟩,l4⟩:=hl
  have h4:=lim_sz l4
  rw[← Int.natCast_mul,Int.natAbs_natCast] at h4
  have:Sz 300 (p-q):=by
   rw[sub_parts]
   exact mk_sz (den_ne p q) (lim_sz l3) h4
  exact .inr ⟨rfl,this.vd ⟨by decide,by decide⟩⟩
theorem mul04v (hp:Vd p) (hq:Vd q):(mulQ (numS p) (numS q)).2=4∨(mulQ (numS p) (numS q)=(numS (p*q),0)∧Vd (p*q)):=by
 have e:mulQ (numS p) (numS q)=mulf p q:=by rw[show mulQ (numS p) (numS q)=mulf _ _ from good_both ⟨hp,hq⟩ _,valQ_numS,valQ_numS]
 rw[e]
 unfold mulf
 split
 ·exact .inl rfl
 ·rename_i hl
  simp only[Bool.or_eq_true,not_or,Bool.not_eq_true] at hl
  obtain ⟨l3,l4⟩:=hl
  have h4:=lim_sz l4
  rw[← Int.natCast_mul,Int.natAbs_natCast] at h4
  have:Sz 300 (p*q):=by
   rw[mul_parts]
   exact mk_sz (den_ne p q) (lim_sz l3) h4
  exact .inr ⟨rfl,this.vd ⟨by decide,by decide⟩⟩
theorem div04v (hp:Vd p) (hq:Vd q) (h0:q≠0):(divQ (numS p) (numS q)).2=4∨(divQ (numS p) (numS q)=(numS (p/q),0)∧Vd (p/q)):=by
 have e:divQ (numS p) (numS q)=divf p q:=by rw[show divQ (numS p) (numS q)=divf _ _ from good_both ⟨hp,hq⟩ _,valQ_numS,valQ_numS]
 rw[e]
 unfold divf
 rw[if_neg h0]
 split
 ·exact .inl rfl
 ·rename_i hl
  simp only[Bool.or_eq_true,not_or,Bool.not_eq_true] at hl
  exact .inr ⟨rfl,(div_szk (lim_sz hl.1) (lim_sz hl.2) h0).vd ⟨by decide,by decide⟩⟩
theorem sum04v (hp:Vd p) (hq:Vd q):(sumQ [numS p,numS q]).2=4∨(sumQ [numS p,numS q]=(numS (p+q),0)∧Vd (p+q)):=by
 have hc:chkL [numS p,numS q]=0:=chkL_all fun a ha=>by
  simp only[List.mem_cons,List.not_mem_nil,or_false] at ha
  rcases ha with rfl | rfl
  ·exact hp
  ·exact hq
 have h0:Vd 0:=sz0.vd ⟨by decide,by decide⟩
 unfold sumQ
 rw[if_neg (by simp),if_neg (fun hn=>hn hc)]
 show (if (addQ [48] (numS p)).2≠0 then (([],(addQ [48] (numS p)).2):List UInt8 × Int) else if (addQ (addQ [48] (numS p)).1 (numS q)).2≠0 then ([],(addQ (addQ [48] (numS p)).1 (numS q)).2) else ((addQ (addQ [48] (numS p)).1 (numS q)).1,0)).2=4∨(if (addQ [48] (numS p)).2≠0 then (([],(addQ [48] (numS p)).2):List UInt8 × Int) else if (addQ (addQ [48] (numS p)).1 (numS q)).2≠0 then ([],(addQ (addQ [48] (numS p)).1 (numS q)).2) else ((addQ (addQ [48] (numS p)).1 (numS q)).1,0))= _∧ _
 have h1:=add04v h0 hp
 rw[numS0,Rat.zero_add] at h1
 rcases h1 with h1 | ⟨h1,_⟩
 ·rw[if_pos (by rw[h1];decide)]
  exact .inl h1
 ·rw[h1,if_neg (fun h=>h rfl)]
  dsimp only
  rcases add04v hp hq with h2 | ⟨h2,h3⟩
  ·rw[if_pos (by rw[h2];decide)]
   exact .inl h2
  ·rw[h2,if_neg (fun h=>h rfl)]
   exact .inr ⟨rfl,h3⟩
theorem chkP_vd (h:Vd p):chkP (numS p)=if d36 p then 0 else 4:=by
 unfold chkP
 rw[if_neg (fun h'=>h' h),valQ_numS]
end
theorem chk3_vd {p q r:Rat} (hp:Vd p) (hq:Vd q) (hr:Vd r):chk3 (numS p) (numS q) (numS r)=0↔d36 p∧d36 q∧d36 r:=by
 constructor
 ·intro h
  obtain ⟨h1,h2,h3⟩:=chk3_ok h
  have:=(chkP_ok h1).2
  have h4:=(chkP_ok h2).2
  have h5:=(chkP_ok h3).2
  rw[valQ_numS] at this h4 h5
  exact ⟨this,h4,h5⟩
 ·rintro ⟨h1,h2,h3⟩
  exact chk3_of (by rw[chkP_vd hp,if_pos h1]) (by rw[chkP_vd hq,if_pos h2]) (by rw[chkP_vd hr,if_pos h3])
theorem d36_iff {a:List UInt8}:(max ((digs (pn (valQ a))).length:Int) ((pd (valQ a)).length:Int)≤36)↔d36 (valQ a):=by
 unfold d36
 rw[digs_itoa]
 show _≤ _↔ _∧ _
 unfold pd
 constructor<;>intro h
 ·constructor<;>omega
 ·omega
theorem b1077 (a:List UInt8):body Tryz.prog [c13,c88] {} true Tryz.f77 [S a] (I (chkP a)):=by
 unfold chkP
 by_cases h:chkQ a=0
 ·have e:ptQ a=(pn (valQ a),pd (valQ a)):=by unfold ptQ;rw[if_pos h]
  rw[if_neg (fun h'=>h' h)]
  skip
  refine Br.mkN (show ¬ ¬chkQ a=0 from fun h'=>h' h) ?_
  (repeat'((conv=>whnf);first|refine Zg fun _=>?_|refine Zn ?_|fail))
  (refine Br.mk (fun _=>?_) (fun _=>?_))
  ·rename_i h1
   rw[if_neg (fun h2=>absurd (d36_iff.2 h2) (by have h1:(36:Int)< _:=h1;rw[e] at h1;exact Int.not_le.2 h1))]
   skip
   (conv=>whnf)
   (repeat'(first|rfl|refine And.intro ?_ ?_|fail))
  ·rename_i h1
   rw[if_pos (d36_iff.1 (by have h1:¬(36:Int)< _:=h1;rw[e] at h1;exact Int.not_lt.1 h1))]
   skip
   (conv=>whnf)
   (repeat'(first|rfl|refine And.intro ?_ ?_|fail))
 ·rw[if_pos h]
  skip
  refine Br.mkY h ?_
  skip
  (conv=>whnf)
  (repeat'(first|rfl|refine And.intro ?_ ?_|fail))
def c1077:Con:=mkCon 77 true fun args K=>match args with | [.str a]=>K (I (chkP a)) | _=>False
theorem k1077:ConOK Tryz.prog c1077:=by
 refine conOK_of rfl (enters_of Tryz.func77 (by kernel_rfl) rfl) ?_
 intro args K h
 simp only[c1077] at h
 split at h
 ·rename_i a;exact ⟨_,h,tri_of_body (Γ:=[c13,c88]) (by simp[k13,k88]) Tryz.func77 (by simp[Tryz.ntmps77]) rfl (b1077 a)⟩
 ·exact h.elim
theorem b1078 (s:List UInt8):body Tryz.prog [c1077] {} true Tryz.f78 [S s] (.bl (notP s) inferInstance):=by
 skip
 (conv=>whnf)
 (repeat'(first|rfl|fail))
def c1078:Con:=mkCon 78 true fun args K=>match args with | [.str s]=>K (.bl (notP s) inferInstance) | _=>False
theorem k1078:ConOK Tryz.prog c1078:=by
 refine conOK_of rfl (enters_of Tryz.func78 (by kernel_rfl) rfl) ?_
 intro args K h
 simp only[c1078] at h
 split at h
 ·rename_i s;exact ⟨_,h,tri_of_body (Γ:=[c1077]) (by simp[k1077]) Tryz.func78 (by simp[Tryz.ntmps78]) rfl (b1078 s)⟩
 ·exact h.elim
theorem b74p (l:List (List UInt8)):body Tryz.prog [c1078] { asks:=[(0,[])] } true Tryz.f86 [.seq .str l,.clo 78 [] []] (I (ixD notP l)):=by
 (repeat'((conv=>whnf);first|refine Zg fun _=>?_|fail))
 refine Ask.mk ⟨{ X:=Nat,pre:=fun i=>i≤l.length∧∀j,j<i→¬notP (l.getD j []),mod:=fun i _=>[(8,I i)],heap:=fun i H=>H,mu:=fun i=>l.length-i },rfl,?_⟩
 (repeat'((conv=>whnf);first|refine Zn ?_|fail))
 refine ⟨⟨(0:Nat),⟨Nat.zero_le _,fun j hj=>by omega⟩,?_⟩,fun (i:Nat) hi=>?_⟩
 ·(repeat'(first|exact trivial|rfl|refine And.intro ?_ ?_|fail))
 obtain ⟨hi,hp⟩:=hi
 skip
 (refine Br.mk (fun _=>?_) (fun _=>?_))
 ·have hlt:i<l.length:=by omega
  (repeat'((conv=>whnf);first|refine Zn ?_|refine Zj ?_|fail))
  (refine Br.mk (fun _=>?_) (fun _=>?_))
  ·rename_i hb
   skip
   (conv=>whnf)
   (repeat'(first|rfl|refine And.intro ?_ ?_|fail))
   exact (ixD_at _ hlt hb hp).symm
  ·rename_i hb
   (repeat'((conv=>whnf);first|refine Zn ?_|fail))
   refine ⟨(i+1:Nat),by show l.length-(i+1)<l.length-i;omega,⟨hlt,fun j hj=>?_⟩,?_⟩
   ·rcases Nat.lt_succ_iff_lt_or_eq.1 hj with h1 | h1
    ·exact hp j h1
    ·subst h1;exact hb
   ·(repeat'(first|exact trivial|rfl|refine And.intro ?_ ?_|fail))
 ·have e:i=l.length:=by omega
  subst e
  skip
  (conv=>whnf)
  (repeat'(first|rfl|refine And.intro ?_ ?_|fail))
  exact (ixD_no _ hp).symm
def c74p:Con:=mkCon 86 true fun args K=>match args with | [.seq .str l,.clo 78 [] []]=>K (I (ixD notP l)) | _=>False
theorem k74p:ConOK Tryz.prog c74p:=by
 refine conOK_of rfl (enters_of Tryz.func86 (by kernel_rfl) rfl) ?_
 intro args K h
 simp only[c74p] at h
 split at h
 ·rename_i l;exact ⟨_,h,tri_of_body (Γ:=[c1078]) (by simp[k1078]) Tryz.func86 (by simp[Tryz.ntmps86]) rfl (b74p l)⟩
 ·exact h.elim
theorem b33p (l:List (List UInt8)):body Tryz.prog [c74p] {} true Tryz.f49 [.seq .str l,.clo 78 [] []] (.bl (0≤ixD notP l) inferInstance):=by
 skip
 (conv=>whnf)
 skip
def c33p:Con:=mkCon 49 true fun args K=>match args with | [.seq .str l,.clo 78 [] []]=>K (.bl (0≤ixD notP l) inferInstance) | _=>False
theorem k33p:ConOK Tryz.prog c33p:=by
 refine conOK_of rfl (enters_of Tryz.func49 (by kernel_rfl) rfl) ?_
 intro args K h
 simp only[c33p] at h
 split at h
 ·rename_i l;exact ⟨_,h,tri_of_body (Γ:=[c74p]) (by simp[k74p]) Tryz.func49 (by simp[Tryz.ntmps49]) rfl (b33p l)⟩
 ·exact h.elim
theorem b1037 (l:List (List UInt8)):body Tryz.prog [c33p] {} true Tryz.f37 [.seq .str l] (.bl (badP l) inferInstance):=by
 skip
 (conv=>whnf)
 exact ixD_iff notP l
def c1037:Con:=mkCon 37 true fun args K=>match args with | [.seq .str l]=>K (.bl (badP l) inferInstance) | _=>False
theorem k1037:ConOK Tryz.prog c1037:=by
 refine conOK_of rfl (enters_of Tryz.func37 (by kernel_rfl) rfl) ?_
 intro args K h
 simp only[c1037] at h
 split at h
 ·rename_i l;exact ⟨_,h,tri_of_body (Γ:=[c33p]) (by simp[k33p]) Tryz.func37 (by simp[Tryz.ntmps37]) rfl (b1037 l)⟩
 ·exact h.elim
theorem b1034 (a b c:List UInt8):body Tryz.prog [c1077,c21] {} true Tryz.f34 [.agg [S a,S b,S c]] (I (chk3 a b c)):=by
 by_cases h1:chkQ a=0
 ·by_cases h2:chkQ b=0
  ·by_cases h3:chkQ c=0
   ·have e:chk3 a b c=if chkP a≠0 then chkP a else if chkP b≠0 then chkP b else chkP c:=by
     unfold chk3;rw[if_neg (fun h=>h h1),if_neg (fun h=>h h2),if_neg (fun h=>h h3)]
    rw[e]
    by_cases p1:chkP a=0
    ·rw[if_neg (fun h=>h p1)]
     by_cases p2:chkP b=0
     ·rw[if_neg (fun h=>h p2)]
      by_cases p3:chkP c=0
      ·rw[p3]
       (repeat'((conv=>whnf);first|refine Zn ?_|refine Z0 ?_|refine Z1 ?_|refine Z2 ?_|refine Zy ?_|refine Zm ?_|fail))
       (conv=>whnf)
       (repeat'(first|rfl|refine And.intro ?_ ?_|fail))
      ·(repeat'((conv=>whnf);first|refine Zn ?_|refine Z0 ?_|refine Z1 ?_|refine Z2 ?_|refine Zy ?_|refine Zm ?_|fail))
       (conv=>whnf)
       (repeat'(first|rfl|refine And.intro ?_ ?_|fail))
     ·rw[if_pos p2]
      (repeat'((conv=>whnf);first|refine Zn ?_|refine Z0 ?_|refine Z1 ?_|refine Z2 ?_|refine Zy ?_|refine Zm ?_|fail))
      (conv=>whnf)
      (repeat'(first|rfl|refine And.intro ?_ ?_|fail))
    ·rw[if_pos p1]
     (repeat'((conv=>whnf);first|refine Zn ?_|refine Z0 ?_|refine Z1 ?_|refine Z2 ?_|refine Zy ?_|refine Zm ?_|fail))
     (conv=>whnf)
     (repeat'(first|rfl|refine And.intro ?_ ?_|fail))
   ·rw[show chk3 a b c=chkQ c by unfold chk3;rw[if_neg (fun h=>h h1),if_neg (fun h=>h h2),if_pos h3]]
    (repeat'((conv=>whnf);first|refine Zn ?_|refine Z0 ?_|refine Z1 ?_|refine Z2 ?_|refine Zy ?_|refine Zm ?_|fail))
    (conv=>whnf)
    (repeat'(first|rfl|refine And.intro ?_ ?_|fail))
  ·rw[show chk3 a b c=chkQ b by unfold chk3;rw[if_neg (fun h=>h h1),if_pos h2]]
   (repeat'((conv=>whnf);first|refine Zn ?_|refine Z0 ?_|refine Z1 ?_|refine Zy ?_|refine Zm ?_|fail))
   (conv=>whnf)
   (repeat'(first|rfl|refine And.intro ?_ ?_|fail))
 ·rw[show chk3 a b c=chkQ a by unfold chk3;rw[if_pos h1]]
  (repeat'((conv=>whnf);first|refine Zn ?_|refine Z0 ?_|refine Zy ?_|fail))
  (conv=>whnf)
  (repeat'(first|rfl|refine And.intro ?_ ?_|fail))
def c1034:Con:=mkCon 34 true fun args K=>match args with | [.agg [.str a,.str b,.str c]]=>K (I (chk3 a b c)) | _=>False
theorem k1034:ConOK Tryz.prog c1034:=by
 refine conOK_of rfl (enters_of Tryz.func34 (by kernel_rfl) rfl) ?_
 intro args K h
 simp only[c1034] at h
 split at h
 ·rename_i a b c;exact ⟨_,h,tri_of_body (Γ:=[c1077,c21]) (by simp[k1077,k21]) Tryz.func34 (by simp[Tryz.ntmps34]) rfl (b1034 a b c)⟩
 ·exact h.elim
abbrev CE (e:Int):HO:=.cells [I e] 61
theorem b1040 (a:List UInt8) (e e0:Int):bodyH Tryz.prog [] {} Tryz.f40 [.ptr 0 0,S a,I e] [CE e0] (fun r H'=>r=S a∧H'= [CE (keepE e0 e)]):=by
 unfold keepE
 (conv=>whnf)
 refine Need.mk rfl ?_
 skip
 (refine Br.mk (fun _=>?_) (fun _=>?_))
 ·rename_i h
  rw[if_pos h]
  skip
  (conv=>whnf)
  refine ⟨_,_,⟨rfl,rfl⟩,rfl,?_,rfl,rfl,?_⟩
  all_goals (repeat'(first|exact trivial|rfl|refine And.intro ?_ ?_|fail))
 ·rename_i h
  rw[if_neg h]
  skip
  (conv=>whnf)
  refine ⟨_,_,⟨rfl,rfl⟩,rfl,?_,rfl,rfl,?_⟩
  all_goals (repeat'(first|exact trivial|rfl|refine And.intro ?_ ?_|fail))
def c1040:Con:=celCon 40 61 fun args e0 K=>match args with | [.str a,.val (.int .i64 e)]=>K (S a) (keepE e0 e) | _=>False
theorem k1040:ConOK Tryz.prog c1040:=by
 refine celOK_of (enters_of Tryz.func40 (by kernel_rfl) rfl) ?_
 intro args e0 K h
 split at h
 ·rename_i a e;exact ⟨_,_,h,rfl,htri_of_body (Γ:=[]) (by simp) Tryz.func40 (by simp[Tryz.ntmps40]) (b1040 a e e0)⟩
 ·exact h.elim
theorem b1043 (a b:List UInt8) (e0:Int):bodyH Tryz.prog [c19,c1040] {} Tryz.f43 [.ptr 0 0,S a,S b] [CE e0] (fun r H'=>r=S (mulQ a b).1∧H'= [CE (keepE e0 (mulQ a b).2)]):=by
 (conv=>whnf)
 refine Need.mk rfl ?_
 skip
 (conv=>whnf)
 refine ⟨_,_,⟨rfl,rfl⟩,rfl,?_,rfl,rfl,?_⟩
 all_goals (repeat'(first|exact trivial|rfl|refine And.intro ?_ ?_|fail))
def c1043:Con:=celCon 43 61 fun args e0 K=>match args with | [.str a,.str b]=>K (S (mulQ a b).1) (keepE e0 (mulQ a b).2) | _=>False
theorem k1043:ConOK Tryz.prog c1043:=by
 refine celOK_of (enters_of Tryz.func43 (by kernel_rfl) rfl) ?_
 intro args e0 K h
 split at h
 ·rename_i a b;exact ⟨_,_,h,rfl,htri_of_body (Γ:=[c19,c1040]) (by simp[k19,k1040]) Tryz.func43 (by simp[Tryz.ntmps43]) (b1043 a b e0)⟩
 ·exact h.elim
theorem b1041 (a b:List UInt8) (e0:Int):bodyH Tryz.prog [c20,c1040] {} Tryz.f41 [.ptr 0 0,S a,S b] [CE e0] (fun r H'=>r=S (subQ a b).1∧H'= [CE (keepE e0 (subQ a b).2)]):=by
 (conv=>whnf)
 refine Need.mk rfl ?_
 skip
 (conv=>whnf)
 refine ⟨_,_,⟨rfl,rfl⟩,rfl,?_,rfl,rfl,?_⟩
 all_goals (repeat'(first|exact trivial|rfl|refine And.intro ?_ ?_|fail))
def c1041:Con:=celCon 41 61 fun args e0 K=>match args with | [.str a,.str b]=>K (S (subQ a b).1) (keepE e0 (subQ a b).2) | _=>False
theorem k1041:ConOK Tryz.prog c1041:=by
 refine celOK_of (enters_of Tryz.func41 (by kernel_rfl) rfl) ?_
 intro args e0 K h
 split at h
 ·rename_i a b;exact ⟨_,_,h,rfl,htri_of_body (Γ:=[c20,c1040]) (by simp[k20,k1040]) Tryz.func41 (by simp[Tryz.ntmps41]) (b1041 a b e0)⟩
 ·exact h.elim
theorem b1042 (l:List (List UInt8)) (e0:Int):bodyH Tryz.prog [c27,c1040] {} Tryz.f42 [.ptr 0 0,.seq .str l] [CE e0] (fun r H'=>r=S (sumQ l).1∧H'= [CE (keepE e0 (sumQ l).2)]):=by
 (conv=>whnf)
 refine Need.mk rfl ?_
 skip
 (conv=>whnf)
 refine ⟨_,_,⟨rfl,rfl⟩,rfl,?_,rfl,rfl,?_⟩
 all_goals (repeat'(first|exact trivial|rfl|refine And.intro ?_ ?_|fail))
def c1042:Con:=celCon 42 61 fun args e0 K=>match args with | [.seq .str l]=>K (S (sumQ l).1) (keepE e0 (sumQ l).2) | _=>False
theorem k1042:ConOK Tryz.prog c1042:=by
 refine celOK_of (enters_of Tryz.func42 (by kernel_rfl) rfl) ?_
 intro args e0 K h
 split at h
 ·rename_i l;exact ⟨_,_,h,rfl,htri_of_body (Γ:=[c27,c1040]) (by simp[k27,k1040]) Tryz.func42 (by simp[Tryz.ntmps42]) (b1042 l e0)⟩
 ·exact h.elim
noncomputable def miS (a b x y:List UInt8):List UInt8 × Int:=subQ (mulQ a b).1 (mulQ x y).1
noncomputable def hgS (a b c x y:List UInt8):List UInt8 × Int:=sumQ [(mulQ a x).1,(mulQ b y).1,c]
theorem b1039 (a b x y:List UInt8) (e0:Int):bodyH Tryz.prog [c1043,c1041] {} Tryz.f39 [.ptr 0 0,S a,S b,S x,S y] [CE e0] (fun r H'=>r=S (miS a b x y).1∧H'= [CE (keepE (keepE (keepE e0 (mulQ a b).2) (mulQ x y).2) (miS a b x y).2)]):=by
 (conv=>whnf)
 refine Need.mk rfl ?_
 skip
 (conv=>whnf)
 refine ⟨_,_,⟨rfl,rfl⟩,rfl,?_,rfl,rfl,?_⟩
 all_goals (repeat'(first|exact trivial|rfl|refine And.intro ?_ ?_|fail))
def c1039:Con:=celCon 39 61 fun args e0 K=>match args with | [.str a,.str b,.str x,.str y]=>K (S (miS a b x y).1) (keepE (keepE (keepE e0 (mulQ a b).2) (mulQ x y).2) (miS a b x y).2) | _=>False
theorem k1039:ConOK Tryz.prog c1039:=by
 refine celOK_of (enters_of Tryz.func39 (by kernel_rfl) rfl) ?_
 intro args e0 K h
 split at h
 ·rename_i a b x y;exact ⟨_,_,h,rfl,htri_of_body (Γ:=[c1043,c1041]) (by simp[k1043,k1041]) Tryz.func39 (by simp[Tryz.ntmps39]) (b1039 a b x y e0)⟩
 ·exact h.elim
theorem b1053 (a b c x y:List UInt8) (e0:Int):bodyH Tryz.prog [c1043,c1042] {} Tryz.f53 [.ptr 0 0,.agg [S a,S b,S c],.agg [S x,S y]] [CE e0] (fun r H'=>r=S (hgS a b c x y).1∧H'= [CE (keepE (keepE (keepE e0 (mulQ a x).2) (mulQ b y).2) (hgS a b c x y).2)]):=by
 (conv=>whnf)
 refine Need.mk rfl ?_
 (repeat'((conv=>whnf);first|(apply Pin.mk;apply Exists.intro)|apply Pinned.mk rfl rfl|(apply PinH.mk;apply Exists.intro;apply Exists.intro)|exact Zf|refine Zc ?_ ?_|refine Zl ?_|fail))
 (conv=>whnf)
 refine ⟨_,_,⟨rfl,rfl⟩,rfl,?_,rfl,rfl,?_⟩
 all_goals (repeat'(first|exact trivial|rfl|refine And.intro ?_ ?_|fail))
def c1053:Con:=celCon 53 61 fun args e0 K=>match args with | [.agg [.str a,.str b,.str c],.agg [.str x,.str y]]=>K (S (hgS a b c x y).1) (keepE (keepE (keepE e0 (mulQ a x).2) (mulQ b y).2) (hgS a b c x y).2) | _=>False
theorem k1053:ConOK Tryz.prog c1053:=by
 refine celOK_of (enters_of Tryz.func53 (by kernel_rfl) rfl) ?_
 intro args e0 K h
 split at h
 ·rename_i a b c x y;exact ⟨_,_,h,rfl,htri_of_body (Γ:=[c1043,c1042]) (by simp[k1043,k1042]) Tryz.func53 (by simp[Tryz.ntmps53]) (b1053 a b c x y e0)⟩
 ·exact h.elim
theorem b1066 (a b c a' b' c':List UInt8) (e0:Int):bodyH Tryz.prog [c1043,c1042] {} Tryz.f66 [.ptr 0 0,.agg [S a,S b,S c],.agg [S a',S b',S c']] [CE e0] (fun r H'=>r=S (hgS a b [49] a' b').1∧H'= [CE (keepE (keepE (keepE e0 (mulQ a a').2) (mulQ b b').2) (hgS a b [49] a' b').2)]):=by
 (conv=>whnf)
 refine Need.mk rfl ?_
 (repeat'((conv=>whnf);first|(apply Pin.mk;apply Exists.intro)|apply Pinned.mk rfl rfl|(apply PinH.mk;apply Exists.intro;apply Exists.intro)|exact Zf|refine Zc ?_ ?_|refine Zl ?_|fail))
 (conv=>whnf)
 refine ⟨_,_,⟨rfl,rfl⟩,rfl,?_,rfl,rfl,?_⟩
 all_goals (repeat'(first|exact trivial|rfl|refine And.intro ?_ ?_|fail))
def c1066:Con:=celCon 66 61 fun args e0 K=>match args with | [.agg [.str a,.str b,.str c],.agg [.str a',.str b',.str c']]=>K (S (hgS a b [49] a' b').1) (keepE (keepE (keepE e0 (mulQ a a').2) (mulQ b b').2) (hgS a b [49] a' b').2) | _=>False
theorem k1066:ConOK Tryz.prog c1066:=by
 refine celOK_of (enters_of Tryz.func66 (by kernel_rfl) rfl) ?_
 intro args e0 K h
 split at h
 ·rename_i a b c a' b' c';exact ⟨_,_,h,rfl,htri_of_body (Γ:=[c1043,c1042]) (by simp[k1043,k1042]) Tryz.func66 (by simp[Tryz.ntmps66]) (b1066 a b c a' b' c' e0)⟩
 ·exact h.elim
theorem b1038 (a b c a' b' c':List UInt8) (e0:Int):bodyH Tryz.prog [c1041] {} Tryz.f38 [.ptr 0 0,.agg [S a,S b,S c],.agg [S a',S b',S c']] [CE e0] (fun r H'=>r= .agg [S (subQ a a').1,S (subQ b b').1,S (subQ c c').1]∧H'= [CE (keepE (keepE (keepE e0 (subQ a a').2) (subQ b b').2) (subQ c c').2)]):=by
 (conv=>whnf)
 refine Need.mk rfl ?_
 (repeat'((conv=>whnf);first|(apply Pin.mk;apply Exists.intro)|apply Pinned.mk rfl rfl|(apply PinH.mk;apply Exists.intro;apply Exists.intro)|exact Zf|refine Zc ?_ ?_|fail))
 (conv=>whnf)
 refine ⟨_,_,⟨rfl,rfl⟩,rfl,?_,rfl,rfl,?_⟩
 all_goals (repeat'(first|exact trivial|rfl|refine And.intro ?_ ?_|fail))
def c1038:Con:=celCon 38 61 fun args e0 K=>match args with | [.agg [.str a,.str b,.str c],.agg [.str a',.str b',.str c']]=>K (.agg [S (subQ a a').1,S (subQ b b').1,S (subQ c c').1]) (keepE (keepE (keepE e0 (subQ a a').2) (subQ b b').2) (subQ c c').2) | _=>False
theorem k1038:ConOK Tryz.prog c1038:=by
 refine celOK_of (enters_of Tryz.func38 (by kernel_rfl) rfl) ?_
 intro args e0 K h
 split at h
 ·rename_i a b c a' b' c';exact ⟨_,_,h,rfl,htri_of_body (Γ:=[c1041]) (by simp[k1041]) Tryz.func38 (by simp[Tryz.ntmps38]) (b1038 a b c a' b' c' e0)⟩
 ·exact h.elim
theorem b1052 (a:List UInt8) (e0:Int):bodyH Tryz.prog [] {} Tryz.f52 [.ptr 0 0,S a] [CE e0] (fun r H'=>r= .tup [S (if e0=0 then a else []),I e0]∧H'= [CE e0]):=by
 (conv=>whnf)
 refine Need.mk rfl ?_
 skip
 (refine Br.mk (fun _=>?_) (fun _=>?_))
 ·rename_i h
  rw[if_neg h]
  (repeat'((conv=>whnf);first|(apply Pin.mk;apply Exists.intro)|apply Pinned.mk rfl rfl|fail))
  (conv=>whnf)
  refine ⟨_,_,⟨rfl,rfl⟩,rfl,?_,rfl,rfl,?_⟩
  all_goals (repeat'(first|exact trivial|rfl|refine And.intro ?_ ?_|fail))
 ·rename_i h
  have h:=Classical.not_not.1 h
  subst h
  skip
  (conv=>whnf)
  refine ⟨_,_,⟨rfl,rfl⟩,rfl,?_,rfl,rfl,?_⟩
  all_goals (repeat'(first|exact trivial|rfl|refine And.intro ?_ ?_|fail))
def c1052:Con:=celCon 52 61 fun args e0 K=>match args with | [.str a]=>K (.tup [S (if e0=0 then a else []),I e0]) (e0) | _=>False
theorem k1052:ConOK Tryz.prog c1052:=by
 refine celOK_of (enters_of Tryz.func52 (by kernel_rfl) rfl) ?_
 intro args e0 K h
 split at h
 ·rename_i a;exact ⟨_,_,h,rfl,htri_of_body (Γ:=[]) (by simp) Tryz.func52 (by simp[Tryz.ntmps52]) (b1052 a e0)⟩
 ·exact h.elim
theorem bad3_iff {a b c:List UInt8}:¬badP [a,b,c]↔chkP a=0∧chkP b=0∧chkP c=0:=by
 constructor
 ·intro h
  have:=badP_no h
  exact ⟨this a (by simp),this b (by simp),this c (by simp)⟩
 ·rintro ⟨h1,h2,h3⟩ ⟨x,hx,h⟩
  simp only[List.mem_cons,List.not_mem_nil,or_false] at hx
  rcases hx with rfl | rfl | rfl
  ·exact h h1
  ·exact h h2
  ·exact h h3
section
variable {a b c x y a' b' c':Rat}
theorem hg_steps (ha:Sz 36 a) (hb:Sz 36 b) (hc:Sz 36 c) (hx:Sz 36 x) (hy:Sz 36 y):mulQ (numS a) (numS x)=(numS (a*x),0)∧mulQ (numS b) (numS y)=(numS (b*y),0)∧sumQ [numS (a*x),numS (b*y),numS c]=(numS (a*x+b*y+c),0)∧Sz 182 (a*x+b*y+c):=by
 have z1:=ha.mul hx
 have z2:=hb.mul hy
 obtain ⟨h1,h2⟩:=sum3 z1 z2 hc (by omega) (by omega) (by omega) (by omega)
 exact ⟨mulQ_sz ha hx (by omega) (by omega) (by omega),mulQ_sz hb hy (by omega) (by omega) (by omega),h1,h2⟩
theorem hgS_ok (ha:Sz 36 a) (hb:Sz 36 b) (hc:Sz 36 c) (hx:Sz 36 x) (hy:Sz 36 y):hgS (numS a) (numS b) (numS c) (numS x) (numS y)=(numS (a*x+b*y+c),0):=by
 obtain ⟨h1,h2,h3,_⟩:=hg_steps ha hb hc hx hy
 unfold hgS
 rw[h1,h2];exact h3
theorem hg_keep (ha:Sz 36 a) (hb:Sz 36 b) (hc:Sz 36 c) (hx:Sz 36 x) (hy:Sz 36 y):keepE (keepE (keepE 0 (mulQ (numS a) (numS x)).2) (mulQ (numS b) (numS y)).2) (hgS (numS a) (numS b) (numS c) (numS x) (numS y)).2=0:=by
 obtain ⟨h1,h2,h3,_⟩:=hg_steps ha hb hc hx hy
 rw[hgS_ok ha hb hc hx hy,h1,h2];rfl
end
theorem b1019 (a b c x y:List UInt8):body Tryz.prog [c1034,c1037,c1053,c1052] {} true Tryz.f19 [.agg [S a,S b,S c],.agg [S x,S y]] (.tup [S (atP a b c x y).1,I (atP a b c x y).2]):=by
 by_cases h1:chk3 a b c=0
 ·by_cases h2:badP [x,y]
  ·have e:atP a b c x y=([],1):=by unfold atP;rw[if_pos (.inr h2)]
   rw[e]
   (repeat'((conv=>whnf);first|refine Zl ?_|refine Zy ?_|refine Zm ?_|fail))
   (conv=>whnf)
   (repeat'(first|exact trivial|rfl|refine And.intro ?_ ?_|fail))
  ·have e:atP a b c x y=(numS (hgt a b c x y),0):=by unfold atP;rw[if_neg (by rintro (h | h);exact h h1;exact h2 h)]
   rw[e]
   obtain ⟨p,q,r,⟨rfl,rfl,rfl⟩,⟨z1,z2,z3⟩,v1,v2,v3⟩:=chk3_num h1
   obtain ⟨s,t,⟨rfl,rfl⟩,⟨z4,z5⟩,v4,v5⟩:=badP2_num h2
   have hs:=hgS_ok z1 z2 z3 z4 z5
   have hk:=hg_keep z1 z2 z3 z4 z5
   unfold hgt
   rw[v1,v2,v3,v4,v5]
   (repeat'((conv=>whnf);first|refine Zl ?_|refine Zm ?_|fail))
   (conv=>whnf)
   (repeat'(first|exact trivial|rfl|refine And.intro ?_ ?_|fail))
   ·(conv=>whnf)
    rw[if_pos hk,hs]
   ·(conv=>whnf)
    exact hk
 ·have e:atP a b c x y=([],1):=by unfold atP;rw[if_pos (.inl h1)]
  rw[e]
  (repeat'((conv=>whnf);first|refine Zy ?_|fail))
  (conv=>whnf)
  (repeat'(first|exact trivial|rfl|refine And.intro ?_ ?_|fail))
def c1019:Con:=mkCon 19 true fun args K=>match args with | [.agg [.str a,.str b,.str c],.agg [.str x,.str y]]=>K (.tup [S (atP a b c x y).1,I (atP a b c x y).2]) | _=>False
theorem k1019:ConOK Tryz.prog c1019:=by
 refine conOK_of rfl (enters_of Tryz.func19 (by kernel_rfl) rfl) ?_
 intro args K h
 simp only[c1019] at h
 split at h
 ·rename_i a b c x y;exact ⟨_,h,tri_of_body (Γ:=[c1034,c1037,c1053,c1052]) (by simp[k1034,k1037,k1053,k1052]) Tryz.func19 (by simp[Tryz.ntmps19]) rfl (b1019 a b c x y)⟩
 ·exact h.elim
noncomputable abbrev Kp (e:Int) (a b a' b':List UInt8):Int:=keepE (keepE (keepE e (mulQ a a').2) (mulQ b b').2) (hgS a b [49] a' b').2
section
variable {a b a' b':Rat}
theorem dot_steps (ha:Sz 36 a) (hb:Sz 36 b) (ha':Sz 36 a') (hb':Sz 36 b'):mulQ (numS a) (numS a')=(numS (a*a'),0)∧mulQ (numS b) (numS b')=(numS (b*b'),0)∧sumQ [numS (a*a'),numS (b*b'),[49]]=(numS (a*a'+b*b'+1),0)∧Sz 147 (a*a'+b*b'+1):=by
 have z1:=ha.mul ha'
 have z2:=hb.mul hb'
 obtain ⟨h1,h2⟩:=sum3 z1 z2 sz1 (by omega) (by omega) (by omega) (by omega)
 rw[numS1] at h1
 exact ⟨mulQ_sz ha ha' (by omega) (by omega) (by omega),mulQ_sz hb hb' (by omega) (by omega) (by omega),h1,h2⟩
theorem dotS_ok (ha:Sz 36 a) (hb:Sz 36 b) (ha':Sz 36 a') (hb':Sz 36 b'):hgS (numS a) (numS b) [49] (numS a') (numS b')=(numS (a*a'+b*b'+1),0):=by
 obtain ⟨h1,h2,h3,_⟩:=dot_steps ha hb ha' hb'
 unfold hgS
 rw[h1,h2];exact h3
theorem dot_keep (ha:Sz 36 a) (hb:Sz 36 b) (ha':Sz 36 a') (hb':Sz 36 b'):Kp 0 (numS a) (numS b) (numS a') (numS b')=0:=by
 obtain ⟨h1,h2,h3,_⟩:=dot_steps ha hb ha' hb'
 show keepE (keepE (keepE 0 _) _) _=0
 rw[dotS_ok ha hb ha' hb',h1,h2];rfl
end
theorem b1023 (a b c a' b' c':List UInt8):body Tryz.prog [c1034,c1066,c1043] {} true Tryz.f23 [.agg [S a,S b,S c],.agg [S a',S b',S c']] (.tup [S (nmP a b c a' b' c').1,S (nmP a b c a' b' c').2.1,I (nmP a b c a' b' c').2.2]):=by
 by_cases h1:chk3 a b c=0
 ·by_cases h2:chk3 a' b' c'=0
  ·have e:nmP a b c a' b' c'=(numS (dotP a b a' b'),numS (dotP a b a b*dotP a' b' a' b'),0):=by unfold nmP;rw[if_neg (by rintro (h | h);exact h h1;exact h h2)]
   rw[e]
   obtain ⟨p,q,r,⟨rfl,rfl,rfl⟩,⟨z1,z2,z3⟩,v1,v2,v3⟩:=chk3_num h1
   obtain ⟨s,t,u,⟨rfl,rfl,rfl⟩,⟨y1,y2,y3⟩,w1,w2,w3⟩:=chk3_num h2
   have d1:=dotS_ok z1 z2 y1 y2
   have d2:=dotS_ok z1 z2 z1 z2
   have d3:=dotS_ok y1 y2 y1 y2
   have m:=mulQ_sz (dot_steps z1 z2 z1 z2).2.2.2 (dot_steps y1 y2 y1 y2).2.2.2 (by decide) (by decide) (by decide)
   have hk:keepE (Kp (Kp (Kp 0 (numS p) (numS q) (numS s) (numS t)) (numS p) (numS q) (numS p) (numS q)) (numS s) (numS t) (numS s) (numS t)) (mulQ (hgS (numS p) (numS q) [49] (numS p) (numS q)).1 (hgS (numS s) (numS t) [49] (numS s) (numS t)).1).2=0:=by
    rw[dot_keep z1 z2 y1 y2,dot_keep z1 z2 z1 z2,dot_keep y1 y2 y1 y2,d2,d3]
    rw[m];rfl
   unfold dotP
   rw[v1,v2,w1,w2]
   (repeat'((conv=>whnf);first|(apply Pin.mk;apply Exists.intro)|apply Pinned.mk rfl rfl|(apply PinH.mk;apply Exists.intro;apply Exists.intro)|exact Zf|refine Zc ?_ ?_|refine Zm ?_|fail))
   (conv=>whnf)
   (repeat'(first|exact trivial|rfl|refine And.intro ?_ ?_|fail))
   ·(conv=>whnf)
    exact congrArg Prod.fst d1
   ·(conv=>whnf)
    show (mulQ (hgS (numS p) (numS q) [49] (numS p) (numS q)).1 (hgS (numS s) (numS t) [49] (numS s) (numS t)).1).1= _
    rw[d2,d3]
    exact congrArg Prod.fst m
  ·have e:nmP a b c a' b' c'=([],[],1):=by unfold nmP;rw[if_pos (.inr h2)]
   rw[e]
   (repeat'((conv=>whnf);first|refine Zy ?_|refine Zm ?_|fail))
   (conv=>whnf)
   (repeat'(first|exact trivial|rfl|refine And.intro ?_ ?_|fail))
 ·have e:nmP a b c a' b' c'=([],[],1):=by unfold nmP;rw[if_pos (.inl h1)]
  rw[e]
  (repeat'((conv=>whnf);first|refine Zy ?_|fail))
  (conv=>whnf)
  (repeat'(first|exact trivial|rfl|refine And.intro ?_ ?_|fail))
def c1023:Con:=mkCon 23 true fun args K=>match args with | [.agg [.str a,.str b,.str c],.agg [.str a',.str b',.str c']]=>K (.tup [S (nmP a b c a' b' c').1,S (nmP a b c a' b' c').2.1,I (nmP a b c a' b' c').2.2]) | _=>False
theorem k1023:ConOK Tryz.prog c1023:=by
 refine conOK_of rfl (enters_of Tryz.func23 (by kernel_rfl) rfl) ?_
 intro args K h
 simp only[c1023] at h
 split at h
 ·rename_i a b c a' b' c';exact ⟨_,h,tri_of_body (Γ:=[c1034,c1066,c1043]) (by simp[k1034,k1066,k1043]) Tryz.func23 (by simp[Tryz.ntmps23]) rfl (b1023 a b c a' b' c')⟩
 ·exact h.elim
section
variable {a b a' b':Rat}
end
theorem keepE4 (x:Int):keepE 4 x=4:=rfl
theorem thR_zero {ax ay az bx by' bz cx cy cz:Rat} (h:thD ax ay bx by' cx cy=0):thR ax ay az bx by' bz cx cy cz=([],[],[],12):=by
 unfold thR;rw[if_pos h]
theorem thR_four {ax ay az bx by' bz cx cy cz:Rat} (h:thD ax ay bx by' cx cy≠0) (h4:(divQ (numS (upA ax ay az bx by' bz cx cy cz)) (numS (thD ax ay bx by' cx cy))).2=4∨(divQ (numS (upB ax ay az bx by' bz cx cy cz)) (numS (thD ax ay bx by' cx cy))).2=4∨¬(d36 (thA ax ay az bx by' bz cx cy cz)∧d36 (thB ax ay az bx by' bz cx cy cz)∧d36 (thC ax ay az bx by' bz cx cy cz))):thR ax ay az bx by' bz cx cy cz=([],[],[],4):=by
 unfold thR
 rw[if_neg h,if_pos]
 rcases h4 with h4 | h4 | h4
 ·exact .inl (by rw[h4];decide)
 ·exact .inr (.inl (by rw[h4];decide))
 ·by_cases h1:d36 (thA ax ay az bx by' bz cx cy cz)
  ·by_cases h2:d36 (thB ax ay az bx by' bz cx cy cz)
   ·exact .inr (.inr (.inr (.inr fun h3=>h4 ⟨h1,h2,h3⟩)))
   ·exact .inr (.inr (.inr (.inl h2)))
  ·exact .inr (.inr (.inl h1))
theorem thR_ok {ax ay az bx by' bz cx cy cz:Rat} (h:thD ax ay bx by' cx cy≠0) (hA:(divQ (numS (upA ax ay az bx by' bz cx cy cz)) (numS (thD ax ay bx by' cx cy))).2=0) (hB:(divQ (numS (upB ax ay az bx by' bz cx cy cz)) (numS (thD ax ay bx by' cx cy))).2=0) (h3:d36 (thA ax ay az bx by' bz cx cy cz)∧d36 (thB ax ay az bx by' bz cx cy cz)∧d36 (thC ax ay az bx by' bz cx cy cz)):thR ax ay az bx by' bz cx cy cz=(numS (thA ax ay az bx by' bz cx cy cz),numS (thB ax ay az bx by' bz cx cy cz),numS (thC ax ay az bx by' bz cx cy cz),0):=by
 unfold thR
 rw[if_neg h,if_neg]
 rintro (h | h | h | h | h)
 ·exact h hA
 ·exact h hB
 ·exact h h3.1
 ·exact h h3.2.1
 ·exact h h3.2.2
structure ThF (ax ay az bx by' bz cx cy cz:Rat):Prop where
 s1:subQ (numS bx) (numS ax)=(numS (bx-ax),0)
 s2:subQ (numS by') (numS ay)=(numS (by'-ay),0)
 s3:subQ (numS bz) (numS az)=(numS (bz-az),0)
 t1:subQ (numS cx) (numS ax)=(numS (cx-ax),0)
 t2:subQ (numS cy) (numS ay)=(numS (cy-ay),0)
 t3:subQ (numS cz) (numS az)=(numS (cz-az),0)
 m1:mulQ (numS (bx-ax)) (numS (cy-ay))=(numS ((bx-ax)*(cy-ay)),0)
 m2:mulQ (numS (by'-ay)) (numS (cx-ax))=(numS ((by'-ay)*(cx-ax)),0)
 m3:mulQ (numS (bz-az)) (numS (cy-ay))=(numS ((bz-az)*(cy-ay)),0)
 m4:mulQ (numS (by'-ay)) (numS (cz-az))=(numS ((by'-ay)*(cz-az)),0)
 m5:mulQ (numS (bx-ax)) (numS (cz-az))=(numS ((bx-ax)*(cz-az)),0)
 m6:mulQ (numS (bz-az)) (numS (cx-ax))=(numS ((bz-az)*(cx-ax)),0)
 d1:subQ (numS ((bx-ax)*(cy-ay))) (numS ((by'-ay)*(cx-ax)))=(numS (thD ax ay bx by' cx cy),0)
 d2:subQ (numS ((bz-az)*(cy-ay))) (numS ((by'-ay)*(cz-az)))=(numS (upA ax ay az bx by' bz cx cy cz),0)
 d3:subQ (numS ((bx-ax)*(cz-az))) (numS ((bz-az)*(cx-ax)))=(numS (upB ax ay az bx by' bz cx cy cz),0)
 vD:Vd (thD ax ay bx by' cx cy)
 vA:Vd (upA ax ay az bx by' bz cx cy cz)
 vB:Vd (upB ax ay az bx by' bz cx cy cz)
theorem thF_of {ax ay az bx by' bz cx cy cz:Rat} (h1:Sz 36 ax) (h2:Sz 36 ay) (h3:Sz 36 az) (h4:Sz 36 bx) (h5:Sz 36 by') (h6:Sz 36 bz) (h7:Sz 36 cx) (h8:Sz 36 cy) (h9:Sz 36 cz):ThF ax ay az bx by' bz cx cy cz:=by
 obtain ⟨v1,v2,v3⟩:=th_sizes h1 h2 h3 h4 h5 h6 h7 h8 h9
 exact ⟨subQ_sz h4 h1 (by decide) (by decide) (by decide),subQ_sz h5 h2 (by decide) (by decide) (by decide),subQ_sz h6 h3 (by decide) (by decide) (by decide),subQ_sz h7 h1 (by decide) (by decide) (by decide),subQ_sz h8 h2 (by decide) (by decide) (by decide),subQ_sz h9 h3 (by decide) (by decide) (by decide),
  mulQ_sz (h4.sub h1) (h8.sub h2) (by decide) (by decide) (by decide),mulQ_sz (h5.sub h2) (h7.sub h1) (by decide) (by decide) (by decide),mulQ_sz (h6.sub h3) (h8.sub h2) (by decide) (by decide) (by decide),mulQ_sz (h5.sub h2) (h9.sub h3) (by decide) (by decide) (by decide),mulQ_sz (h4.sub h1) (h9.sub h3) (by decide) (by decide) (by decide),mulQ_sz (h6.sub h3) (h7.sub h1) (by decide) (by decide) (by decide),
  subQ_sz ((h4.sub h1).mul (h8.sub h2)) ((h5.sub h2).mul (h7.sub h1)) (by decide) (by decide) (by decide),subQ_sz ((h6.sub h3).mul (h8.sub h2)) ((h5.sub h2).mul (h9.sub h3)) (by decide) (by decide) (by decide),subQ_sz ((h4.sub h1).mul (h9.sub h3)) ((h6.sub h3).mul (h7.sub h1)) (by decide) (by decide) (by decide),
  v1.vd ⟨by decide,by decide⟩,v2.vd ⟨by decide,by decide⟩,v3.vd ⟨by decide,by decide⟩⟩
structure Th3 (A B ax ay az:Rat):Prop where
 m1:mulQ (numS A) (numS ax)=(numS (A*ax),0)
 m2:mulQ (numS B) (numS ay)=(numS (B*ay),0)
 s1:sumQ [numS (A*ax),numS (B*ay)]=(numS (A*ax+B*ay),0)
 s2:sumQ [numS (A*ax),numS (B*ay),[48]]=(numS (A*ax+B*ay),0)
 t1:subQ (numS az) (numS (A*ax+B*ay))=(numS (az-(A*ax+B*ay)),0)
 v:Vd (az-(A*ax+B*ay))
section
variable {A B ax ay az:Rat}
theorem E3_04 (hA:Vd A) (hB:Vd B) (h1:Vd ax) (h2:Vd ay) (h3:Vd az) (h0:¬keepE (keepE (keepE (keepE 0 (mulQ (numS A) (numS ax)).2) (mulQ (numS B) (numS ay)).2) (sumQ [(mulQ (numS A) (numS ax)).1,(mulQ (numS B) (numS ay)).1]).2) (subQ (numS az) (sumQ [(mulQ (numS A) (numS ax)).1,(mulQ (numS B) (numS ay)).1]).1).2=0):
  keepE (keepE (keepE (keepE 0 (mulQ (numS A) (numS ax)).2) (mulQ (numS B) (numS ay)).2) (sumQ [(mulQ (numS A) (numS ax)).1,(mulQ (numS B) (numS ay)).1]).2) (subQ (numS az) (sumQ [(mulQ (numS A) (numS ax)).1,(mulQ (numS B) (numS ay)).1]).1).2=4:=by
 rcases mul04v hA h1 with m1 | ⟨m1,v1⟩
 ·rw[m1];rfl
 ·rcases mul04v hB h2 with m2 | ⟨m2,v2⟩
  ·rw[m1,m2];rfl
  ·rw[m1,m2] at h0 ⊢
   dsimp only at h0 ⊢
   rcases sum04v v1 v2 with s | ⟨s,v⟩
   ·rw[s];rfl
   ·rw[s] at h0 ⊢
    dsimp only at h0 ⊢
    rcases sub04v h3 v with t | ⟨t,_⟩
    ·rw[t];rfl
    ·rw[t] at h0
     exact absurd rfl h0
end
theorem th3_of {A B ax ay az:Rat} (hA:Sz 36 A) (hB:Sz 36 B) (h1:Sz 36 ax) (h2:Sz 36 ay) (h3:Sz 36 az):Th3 A B ax ay az:=by
 obtain ⟨s1,z⟩:=sum2 (hA.mul h1) (hB.mul h2) (by decide) (by decide) (by decide)
 have s2:=(sum3 (hA.mul h1) (hB.mul h2) sz0 (by decide) (by decide) (by decide) (by decide)).1
 rw[numS0,Rat.add_zero] at s2
 exact ⟨mulQ_sz hA h1 (by decide) (by decide) (by decide),mulQ_sz hB h2 (by decide) (by decide) (by decide),s1,s2,subQ_sz h3 z (by decide) (by decide) (by decide),(h3.sub z).vd ⟨by decide,by decide⟩⟩
end RB
end
section
set_option linter.unusedVariables false
open Go Go.Proofs Go.Eng Go.Shelf IB Go.Lib Go.RowKit
namespace RB
set_option maxRecDepth 10000
set_option linter.unusedVariables false
set_option linter.unusedSimpArgs false
set_option maxHeartbeats 16000000 in
theorem b1013 (ax ay az bx by' bz cx cy cz:List UInt8):body Tryz.prog [c1037,c1038,c1039,c14,c1040,c1043,c1042,c1041,c1034] {} true Tryz.f13 [.agg [S ax,S ay,S az],.agg [S bx,S by',S bz],.agg [S cx,S cy,S cz]]
  (.tup [.agg [S (thP ax ay az bx by' bz cx cy cz).1,S (thP ax ay az bx by' bz cx cy cz).2.1,S (thP ax ay az bx by' bz cx cy cz).2.2.1],I (thP ax ay az bx by' bz cx cy cz).2.2.2]):=by
 by_cases b1:badP [ax,ay,az]
 ·rw[show thP ax ay az bx by' bz cx cy cz=([],[],[],1) by unfold thP;rw[if_pos (.inl b1)]]
  (repeat'((conv=>whnf);first|refine Zn ?_|refine Z0 ?_|refine Zl ?_|refine Zy ?_|fail))
  (conv=>whnf)
  (repeat'(first|exact trivial|rfl|refine And.intro ?_ ?_|fail))
 by_cases b2:badP [bx,by',bz]
 ·rw[show thP ax ay az bx by' bz cx cy cz=([],[],[],1) by unfold thP;rw[if_pos (.inr (.inl b2))]]
  (repeat'((conv=>whnf);first|refine Zn ?_|refine Z0 ?_|refine Z1 ?_|refine Zl ?_|refine Zy ?_|refine Zm ?_|fail))
  (conv=>whnf)
  (repeat'(first|exact trivial|rfl|refine And.intro ?_ ?_|fail))
 by_cases b3:badP [cx,cy,cz]
 ·rw[show thP ax ay az bx by' bz cx cy cz=([],[],[],1) by unfold thP;rw[if_pos (.inr (.inr b3))]]
  (repeat'((conv=>whnf);first|refine Zn ?_|refine Z0 ?_|refine Z1 ?_|refine Z2 ?_|refine Zl ?_|refine Zy ?_|refine Zm ?_|fail))
  (conv=>whnf)
  (repeat'(first|exact trivial|rfl|refine And.intro ?_ ?_|fail))
 obtain ⟨ax,ay,az,⟨rfl,rfl,rfl⟩,⟨z1,z2,z3⟩,_,_,_⟩:=badP3_num b1
 obtain ⟨bx,by',bz,⟨rfl,rfl,rfl⟩,⟨z4,z5,z6⟩,_,_,_⟩:=badP3_num b2
 obtain ⟨cx,cy,cz,⟨rfl,rfl,rfl⟩,⟨z7,z8,z9⟩,_,_,_⟩:=badP3_num b3
 rw[thP_num z1 z2 z3 z4 z5 z6 z7 z8 z9]
 obtain ⟨s1,s2,s3,t1,t2,t3,m1,m2,m3,m4,m5,m6,d1,d2,d3,vD,vA,vB⟩:=thF_of z1 z2 z3 z4 z5 z6 z7 z8 z9
 (repeat'((conv=>whnf);first|refine Zn ?_|refine Z0 ?_|refine Z1 ?_|refine Z2 ?_|(apply Pin.mk;apply Exists.intro)|apply Pinned.mk rfl rfl|(apply PinH.mk;apply Exists.intro;apply Exists.intro)|exact Zf|refine Zc ?_ ?_|refine Zl ?_|refine Zy ?_|refine Zm ?_|fail))
 (conv=>whnf)
 refine Br.mkN (by simp only[miS,s1,s2,s3,t1,t2,t3,m1,m2,m3,m4,m5,m6,d1,d2,d3,keepE0,not_true_eq_false,not_false_eq_true]) ?_
 skip
 (conv=>whnf)
 by_cases hD:thD ax ay bx by' cx cy=0
 ·rw[thR_zero hD]
  refine Br.mkY (by simp only[miS,s1,s2,s3,t1,t2,t3,m1,m2,m3,m4,m5,m6,d1,d2,d3,keepE0,hD];exact numS0) ?_
  skip
  (conv=>whnf)
  (repeat'(first|exact trivial|rfl|refine And.intro ?_ ?_|fail))
 refine Br.mkN (by simp only[miS,s1,s2,s3,t1,t2,t3,m1,m2,m3,m4,m5,m6,d1,d2,d3,keepE0];exact fun h=>hD (numS_inj (h.trans numS0.symm))) ?_
 (repeat'((conv=>whnf);first|refine Zn ?_|refine Z0 ?_|refine Z1 ?_|refine Z2 ?_|(apply Pin.mk;apply Exists.intro)|apply Pinned.mk rfl rfl|(apply PinH.mk;apply Exists.intro;apply Exists.intro)|exact Zf|refine Zc ?_ ?_|fail))
 (conv=>whnf)
 rcases div04v vA vD hD with qA | ⟨qA,wA⟩
 ·rw[thR_four hD (.inl qA)]
  refine Br.mkY (by simp only[miS,s1,s2,s3,t1,t2,t3,m1,m2,m3,m4,m5,m6,d1,d2,d3,keepE0,qA,keepE4];decide) ?_
  (repeat'((conv=>whnf);first|(apply Pin.mk;apply Exists.intro)|apply Pinned.mk rfl rfl|(apply PinH.mk;apply Exists.intro;apply Exists.intro)|exact Zf|refine Zc ?_ ?_|fail))
  (conv=>whnf)
  (repeat'(first|exact trivial|rfl|refine And.intro ?_ ?_|fail))
  (conv=>whnf)
  simp only[miS,s1,s2,s3,t1,t2,t3,m1,m2,m3,m4,m5,m6,d1,d2,d3,keepE0,qA,keepE4]
 rcases div04v vB vD hD with qB | ⟨qB,wB⟩
 ·rw[thR_four hD (.inr (.inl qB))]
  refine Br.mkY (by simp only[miS,s1,s2,s3,t1,t2,t3,m1,m2,m3,m4,m5,m6,d1,d2,d3,keepE0,qA,qB,keepE4];decide) ?_
  (repeat'((conv=>whnf);first|(apply Pin.mk;apply Exists.intro)|apply Pinned.mk rfl rfl|(apply PinH.mk;apply Exists.intro;apply Exists.intro)|exact Zf|refine Zc ?_ ?_|fail))
  (conv=>whnf)
  (repeat'(first|exact trivial|rfl|refine And.intro ?_ ?_|fail))
  (conv=>whnf)
  simp only[miS,s1,s2,s3,t1,t2,t3,m1,m2,m3,m4,m5,m6,d1,d2,d3,keepE0,qA,qB,keepE4]
 have eA:upA ax ay az bx by' bz cx cy cz/thD ax ay bx by' cx cy=thA ax ay az bx by' bz cx cy cz:=rfl
 have eB:upB ax ay az bx by' bz cx cy cz/thD ax ay bx by' cx cy=thB ax ay az bx by' bz cx cy cz:=rfl
 have q2:=congrArg Prod.snd qA
 have q3:=congrArg Prod.snd qB
 rw[eA] at qA wA
 rw[eB] at qB wB
 have eC:az-(thA ax ay az bx by' bz cx cy cz*ax+thB ax ay az bx by' bz cx cy cz*ay)=thC ax ay az bx by' bz cx cy cz:=rfl
 refine Br.mkN (by simp only[miS,s1,s2,s3,t1,t2,t3,m1,m2,m3,m4,m5,m6,d1,d2,d3,keepE0,qA,qB,not_true_eq_false,not_false_eq_true]) ?_
 (repeat'((conv=>whnf);first|(apply Pin.mk;apply Exists.intro)|apply Pinned.mk rfl rfl|(apply PinH.mk;apply Exists.intro;apply Exists.intro)|exact Zf|refine Zc ?_ ?_|refine Zl ?_|fail))
 (conv=>whnf)
 by_cases hd:d36 (thA ax ay az bx by' bz cx cy cz)∧d36 (thB ax ay az bx by' bz cx cy cz)
 ·obtain ⟨n1,n2,n3,_,n4,vC⟩:=th3_of (d36_sz hd.1) (d36_sz hd.2) z1 z2 z3
  rw[eC] at n4 vC
  refine Br.mkN (by simp only[miS,s1,s2,s3,t1,t2,t3,m1,m2,m3,m4,m5,m6,d1,d2,d3,keepE0,qA,qB,n1,n2,n3,n4,not_true_eq_false,not_false_eq_true]) ?_
  skip
  (conv=>whnf)
  by_cases hC:d36 (thC ax ay az bx by' bz cx cy cz)
  ·rw[thR_ok hD q2 q3 ⟨hd.1,hd.2,hC⟩]
   refine Br.mkN (by simp only[miS,s1,s2,s3,t1,t2,t3,m1,m2,m3,m4,m5,m6,d1,d2,d3,keepE0,qA,qB,n1,n2,n3,n4];exact not_not_intro ((chk3_vd wA wB vC).2 ⟨hd.1,hd.2,hC⟩)) ?_
   skip
   (conv=>whnf)
   (repeat'(first|exact trivial|rfl|refine And.intro ?_ ?_|fail))
   ·(conv=>whnf)
    skip
    (conv=>whnf)
    simp only[miS,s1,s2,s3,t1,t2,t3,m1,m2,m3,m4,m5,m6,d1,d2,d3,keepE0,qA]
   ·(conv=>whnf)
    simp only[miS,s1,s2,s3,t1,t2,t3,m1,m2,m3,m4,m5,m6,d1,d2,d3,keepE0,qB]
   ·(conv=>whnf)
    simp only[miS,s1,s2,s3,t1,t2,t3,m1,m2,m3,m4,m5,m6,d1,d2,d3,keepE0,qA,qB,n1,n2,n3,n4]
  ·rw[thR_four hD (.inr (.inr fun h=>hC h.2.2))]
   refine Br.mkY (by simp only[miS,s1,s2,s3,t1,t2,t3,m1,m2,m3,m4,m5,m6,d1,d2,d3,keepE0,qA,qB,n1,n2,n3,n4];exact fun h=>hC ((chk3_vd wA wB vC).1 h).2.2) ?_
   skip
   (conv=>whnf)
   (repeat'(first|exact trivial|rfl|refine And.intro ?_ ?_|fail))
 ·rw[thR_four hD (.inr (.inr fun h=>hd ⟨h.1,h.2.1⟩))]
  have hE:=E3_04 (ax:=ax) (ay:=ay) (az:=az) wA wB (z1.vd ⟨by decide,by decide⟩) (z2.vd ⟨by decide,by decide⟩) (z3.vd ⟨by decide,by decide⟩)
  have hN:∀X,¬chk3 (numS (thA ax ay az bx by' bz cx cy cz)) (numS (thB ax ay az bx by' bz cx cy cz)) X=0:=fun X h=>hd (by
   obtain ⟨k1,k2,_⟩:=chk3_ok h
   have k1:=(chkP_ok k1).2
   have k2:=(chkP_ok k2).2
   rw[valQ_numS] at k1 k2
   exact ⟨k1,k2⟩)
  refine Br.mk (fun h=>?_) (fun h=>?_)
  ·simp only[miS,s1,s2,s3,t1,t2,t3,m1,m2,m3,m4,m5,m6,d1,d2,d3,keepE0,qA,qB] at h
   (repeat'((conv=>whnf);first|(apply Pin.mk;apply Exists.intro)|apply Pinned.mk rfl rfl|(apply PinH.mk;apply Exists.intro;apply Exists.intro)|exact Zf|refine Zc ?_ ?_|fail))
   (conv=>whnf)
   (repeat'(first|exact trivial|rfl|refine And.intro ?_ ?_|fail))
   (conv=>whnf)
   simp only[miS,s1,s2,s3,t1,t2,t3,m1,m2,m3,m4,m5,m6,d1,d2,d3,keepE0,qA,qB]
   exact hE h
  ·skip
   (conv=>whnf)
   refine Br.mkY (by simp only[miS,s1,s2,s3,t1,t2,t3,m1,m2,m3,m4,m5,m6,d1,d2,d3,keepE0,qA,qB];exact hN _) ?_
   skip
   (conv=>whnf)
   (repeat'(first|exact trivial|rfl|refine And.intro ?_ ?_|fail))
def c1013:Con:=mkCon 13 true fun args K=>match args with | [.agg [.str ax,.str ay,.str az],.agg [.str bx,.str by',.str bz],.agg [.str cx,.str cy,.str cz]]=>K (.tup [.agg [S (thP ax ay az bx by' bz cx cy cz).1,S (thP ax ay az bx by' bz cx cy cz).2.1,S (thP ax ay az bx by' bz cx cy cz).2.2.1],I (thP ax ay az bx by' bz cx cy cz).2.2.2]) | _=>False
theorem k1013:ConOK Tryz.prog c1013:=by
 refine conOK_of rfl (enters_of Tryz.func13 (by kernel_rfl) rfl) ?_
 intro args K h
 simp only[c1013] at h
 split at h
 ·rename_i ax ay az bx by' bz cx cy cz;exact ⟨_,h,tri_of_body (Γ:=[c1037,c1038,c1039,c14,c1040,c1043,c1042,c1041,c1034]) (by simp[k1037,k1038,k1039,k14,k1040,k1043,k1042,k1041,k1034]) Tryz.func13 (by simp[Tryz.ntmps13]) rfl (b1013 ax ay az bx by' bz cx cy cz)⟩
 ·exact h.elim
end RB
end
section
open Go Go.Proofs Go.Eng Go.Shelf IB Go.Lib Go.RowKit
namespace RB
set_option maxRecDepth 10000
set_option linter.unusedVariables false
set_option linter.unusedSimpArgs false
set_option linter.unusedSimpArgs false
section
variable {p q r s t u:Rat}
theorem meP_num (z1:Sz 36 p) (z2:Sz 36 q) (z3:Sz 36 r) (y1:Sz 36 s) (y2:Sz 36 t) (y3:Sz 36 u):meP (numS p) (numS q) (numS r) (numS s) (numS t) (numS u)=
  if p-s=0∧q-t=0 then ([],[],[],12) else if p-s=0 then ([48],[49],numS ((u-r)/(q-t)),0) else ([49],numS ((q-t)/(p-s)),numS ((u-r)/(p-s)),0):=by
 unfold meP
 rw[if_neg (by rintro (h | h);exact h (chk3_no z1 z2 z3);exact h (chk3_no y1 y2 y3))]
 simp only[valQ_numS]
end
set_option maxHeartbeats 4000000 in
theorem b1015 (a b c a' b' c':List UInt8):body Tryz.prog [c1034,c1041,c14,c1040] {} true Tryz.f15 [.agg [S a,S b,S c],.agg [S a',S b',S c']] (.tup [S (meP a b c a' b' c').1,S (meP a b c a' b' c').2.1,S (meP a b c a' b' c').2.2.1,I (meP a b c a' b' c').2.2.2]):=by
 by_cases h1:chk3 a b c=0
 ·by_cases h2:chk3 a' b' c'=0
  ·obtain ⟨p,q,r,⟨rfl,rfl,rfl⟩,⟨z1,z2,z3⟩,v1,v2,v3⟩:=chk3_num h1
   obtain ⟨s,t,u,⟨rfl,rfl,rfl⟩,⟨y1,y2,y3⟩,w1,w2,w3⟩:=chk3_num h2
   rw[meP_num z1 z2 z3 y1 y2 y3]
   have s1:=subQ_sz z1 y1 (by decide) (by decide) (by decide)
   have s2:=subQ_sz z2 y2 (by decide) (by decide) (by decide)
   have s3:=subQ_sz y3 z3 (by decide) (by decide) (by decide)
   have he:keepE (keepE (keepE 0 (subQ (numS p) (numS s)).2) (subQ (numS q) (numS t)).2) (subQ (numS u) (numS r)).2=0:=by rw[s1,s2,s3];rfl
   by_cases hd:p-s=0
   ·have g1:(subQ (numS p) (numS s)).1= [48]:=by rw[s1,hd];exact numS0
    by_cases hf:q-t=0
    ·have g2:(subQ (numS q) (numS t)).1= [48]:=by rw[s2,hf];exact numS0
     rw[if_pos ⟨hd,hf⟩]
     (repeat'((conv=>whnf);first|(apply Pin.mk;apply Exists.intro)|apply Pinned.mk rfl rfl|(apply PinH.mk;apply Exists.intro;apply Exists.intro)|exact Zf|refine Zc ?_ ?_|refine Zy ?_|refine Zm ?_|fail))
     (conv=>whnf)
     (repeat'(first|exact trivial|rfl|refine And.intro ?_ ?_|fail))
    ·have g2:¬(subQ (numS q) (numS t)).1= [48]:=by rw[s2];exact fun h=>hf (numS_inj (h.trans numS0.symm))
     rw[if_neg (fun h=>hf h.2),if_pos hd]
     have d1:=divQ_sz (y3.sub z3) (z2.sub y2) (by decide) (by decide) (by decide) hf
     have d2:divQ (subQ (numS u) (numS r)).1 (subQ (numS q) (numS t)).1=(numS ((u-r)/(q-t)),0):=by rw[s3,s2];exact d1
     have hk:keepE (keepE (keepE (keepE 0 (subQ (numS p) (numS s)).2) (subQ (numS q) (numS t)).2) (subQ (numS u) (numS r)).2) (divQ (subQ (numS u) (numS r)).1 (subQ (numS q) (numS t)).1).2=0:=by rw[he,d2];rfl
     (repeat'((conv=>whnf);first|(apply Pin.mk;apply Exists.intro)|apply Pinned.mk rfl rfl|(apply PinH.mk;apply Exists.intro;apply Exists.intro)|exact Zf|refine Zc ?_ ?_|refine Zy ?_|refine Zm ?_|fail))
     (conv=>whnf)
     (repeat'(first|exact trivial|rfl|refine And.intro ?_ ?_|fail))
     (conv=>whnf)
     rw[d2]
   ·have g1:¬(subQ (numS p) (numS s)).1= [48]:=by rw[s1];exact fun h=>hd (numS_inj (h.trans numS0.symm))
    rw[if_neg (fun h=>hd h.1),if_neg hd]
    have d1:divQ (subQ (numS u) (numS r)).1 (subQ (numS p) (numS s)).1=(numS ((u-r)/(p-s)),0):=by rw[s3,s1];exact divQ_sz (y3.sub z3) (z1.sub y1) (by decide) (by decide) (by decide) hd
    have d2:divQ (subQ (numS q) (numS t)).1 (subQ (numS p) (numS s)).1=(numS ((q-t)/(p-s)),0):=by rw[s2,s1];exact divQ_sz (z2.sub y2) (z1.sub y1) (by decide) (by decide) (by decide) hd
    have hk:keepE (keepE (keepE (keepE (keepE 0 (subQ (numS p) (numS s)).2) (subQ (numS q) (numS t)).2) (subQ (numS u) (numS r)).2) (divQ (subQ (numS q) (numS t)).1 (subQ (numS p) (numS s)).1).2) (divQ (subQ (numS u) (numS r)).1 (subQ (numS p) (numS s)).1).2=0:=by rw[he,d2,d1];rfl
    (repeat'((conv=>whnf);first|(apply Pin.mk;apply Exists.intro)|apply Pinned.mk rfl rfl|(apply PinH.mk;apply Exists.intro;apply Exists.intro)|exact Zf|refine Zc ?_ ?_|refine Zm ?_|fail))
    (conv=>whnf)
    (repeat'(first|exact trivial|rfl|refine And.intro ?_ ?_|fail))
    ·(conv=>whnf)
     rw[d2]
    ·(conv=>whnf)
     rw[d1]
  ·have e:meP a b c a' b' c'=([],[],[],1):=by unfold meP;rw[if_pos (.inr h2)]
   rw[e]
   (repeat'((conv=>whnf);first|refine Zy ?_|refine Zm ?_|fail))
   (conv=>whnf)
   (repeat'(first|exact trivial|rfl|refine And.intro ?_ ?_|fail))
 ·have e:meP a b c a' b' c'=([],[],[],1):=by unfold meP;rw[if_pos (.inl h1)]
  rw[e]
  (repeat'((conv=>whnf);first|refine Zy ?_|fail))
  (conv=>whnf)
  (repeat'(first|exact trivial|rfl|refine And.intro ?_ ?_|fail))
def c1015:Con:=mkCon 15 true fun args K=>match args with | [.agg [.str a,.str b,.str c],.agg [.str a',.str b',.str c']]=>K (.tup [S (meP a b c a' b' c').1,S (meP a b c a' b' c').2.1,S (meP a b c a' b' c').2.2.1,I (meP a b c a' b' c').2.2.2]) | _=>False
theorem k1015:ConOK Tryz.prog c1015:=by
 refine conOK_of rfl (enters_of Tryz.func15 (by kernel_rfl) rfl) ?_
 intro args K h
 simp only[c1015] at h
 split at h
 ·rename_i a b c a' b' c';exact ⟨_,h,tri_of_body (Γ:=[c1034,c1041,c14,c1040]) (by simp[k1034,k1041,k14,k1040]) Tryz.func15 (by simp[Tryz.ntmps15]) rfl (b1015 a b c a' b' c')⟩
 ·exact h.elim
def grtP (l:List (List UInt8)):Prop:=∃a∈l,(20<a.length∧a.length<80)∨700<a.length
noncomputable instance (l:List (List UInt8)):Decidable (grtP l):=Classical.propDecidable _
theorem b1050 (s:List UInt8):body Tryz.prog [c44] {} true Tryz.f50 [S s] (.bl (badS s) inferInstance):=by
 unfold badS
 (repeat'((conv=>whnf);first|refine Zg fun _=>?_|fail))
 (refine Br.mk (fun _=>?_) (fun _=>?_))
 ·rename_i h
  skip
  (conv=>whnf)
  exact .inl (by omega)
 ·rename_i h
  skip
  (conv=>whnf)
  constructor
  ·exact .inr
  ·rintro (h1 | h1)
   ·omega
   ·exact h1
def c1050:Con:=mkCon 50 true fun args K=>match args with | [.str s]=>K (.bl (badS s) inferInstance) | _=>False
theorem k1050:ConOK Tryz.prog c1050:=by
 refine conOK_of rfl (enters_of Tryz.func50 (by kernel_rfl) rfl) ?_
 intro args K h
 simp only[c1050] at h
 split at h
 ·rename_i s;exact ⟨_,h,tri_of_body (Γ:=[c44]) (by simp[k44]) Tryz.func50 (by simp[Tryz.ntmps50]) rfl (b1050 s)⟩
 ·exact h.elim
theorem b74t (l:List (List UInt8)):body Tryz.prog [c1050] { asks:=[(0,[])] } true Tryz.f86 [.seq .str l,.clo 50 [] []] (I (ixD badS l)):=by
 (repeat'((conv=>whnf);first|refine Zg fun _=>?_|fail))
 refine Ask.mk ⟨{ X:=Nat,pre:=fun i=>i≤l.length∧∀j,j<i→¬badS (l.getD j []),mod:=fun i _=>[(8,I i)],heap:=fun i H=>H,mu:=fun i=>l.length-i },rfl,?_⟩
 (repeat'((conv=>whnf);first|refine Zn ?_|fail))
 refine ⟨⟨(0:Nat),⟨Nat.zero_le _,fun j hj=>by omega⟩,?_⟩,fun (i:Nat) hi=>?_⟩
 ·(repeat'(first|exact trivial|rfl|refine And.intro ?_ ?_|fail))
 obtain ⟨hi,hp⟩:=hi
 skip
 (refine Br.mk (fun _=>?_) (fun _=>?_))
 ·have hlt:i<l.length:=by omega
  (repeat'((conv=>whnf);first|refine Zn ?_|refine Zj ?_|fail))
  (refine Br.mk (fun _=>?_) (fun _=>?_))
  ·rename_i hb
   skip
   (conv=>whnf)
   (repeat'(first|rfl|refine And.intro ?_ ?_|fail))
   exact (ixD_at _ hlt hb hp).symm
  ·rename_i hb
   (repeat'((conv=>whnf);first|refine Zn ?_|fail))
   refine ⟨(i+1:Nat),by show l.length-(i+1)<l.length-i;omega,⟨hlt,fun j hj=>?_⟩,?_⟩
   ·rcases Nat.lt_succ_iff_lt_or_eq.1 hj with h1 | h1
    ·exact hp j h1
    ·subst h1;exact hb
   ·(repeat'(first|exact trivial|rfl|refine And.intro ?_ ?_|fail))
 ·have e:i=l.length:=by omega
  subst e
  skip
  (conv=>whnf)
  (repeat'(first|rfl|refine And.intro ?_ ?_|fail))
  exact (ixD_no _ hp).symm
def c74t:Con:=mkCon 86 true fun args K=>match args with | [.seq .str l,.clo 50 [] []]=>K (I (ixD badS l)) | _=>False
theorem k74t:ConOK Tryz.prog c74t:=by
 refine conOK_of rfl (enters_of Tryz.func86 (by kernel_rfl) rfl) ?_
 intro args K h
 simp only[c74t] at h
 split at h
 ·rename_i l;exact ⟨_,h,tri_of_body (Γ:=[c1050]) (by simp[k1050]) Tryz.func86 (by simp[Tryz.ntmps86]) rfl (b74t l)⟩
 ·exact h.elim
theorem b33t (l:List (List UInt8)):body Tryz.prog [c74t] {} true Tryz.f49 [.seq .str l,.clo 50 [] []] (.bl (0≤ixD badS l) inferInstance):=by
 skip
 (conv=>whnf)
 skip
def c33t:Con:=mkCon 49 true fun args K=>match args with | [.seq .str l,.clo 50 [] []]=>K (.bl (0≤ixD badS l) inferInstance) | _=>False
theorem k33t:ConOK Tryz.prog c33t:=by
 refine conOK_of rfl (enters_of Tryz.func49 (by kernel_rfl) rfl) ?_
 intro args K h
 simp only[c33t] at h
 split at h
 ·rename_i l;exact ⟨_,h,tri_of_body (Γ:=[c74t]) (by simp[k74t]) Tryz.func49 (by simp[Tryz.ntmps49]) rfl (b33t l)⟩
 ·exact h.elim
theorem b1017 (l:List (List UInt8)):body Tryz.prog [c33t] {} true Tryz.f17 [.seq .str l] (.bl (shortL l) inferInstance):=by
 skip
 (conv=>whnf)
 exact shortL_iff l
def c1017:Con:=mkCon 17 true fun args K=>match args with | [.seq .str l]=>K (.bl (shortL l) inferInstance) | _=>False
theorem k1017:ConOK Tryz.prog c1017:=by
 refine conOK_of rfl (enters_of Tryz.func17 (by kernel_rfl) rfl) ?_
 intro args K h
 simp only[c1017] at h
 split at h
 ·rename_i l;exact ⟨_,h,tri_of_body (Γ:=[c33t]) (by simp[k33t]) Tryz.func17 (by simp[Tryz.ntmps17]) rfl (b1017 l)⟩
 ·exact h.elim
theorem b1018 (a b c:List UInt8):body Tryz.prog [c1017] {} true Tryz.f18 [.agg [S a,S b,S c]] (.bl (shortL [a,b,c]) inferInstance):=by
 (repeat'((conv=>whnf);first|refine Zl ?_|fail))
 (conv=>whnf)
 skip
def c1018:Con:=mkCon 18 true fun args K=>match args with | [.agg [.str a,.str b,.str c]]=>K (.bl (shortL [a,b,c]) inferInstance) | _=>False
theorem k1018:ConOK Tryz.prog c1018:=by
 refine conOK_of rfl (enters_of Tryz.func18 (by kernel_rfl) rfl) ?_
 intro args K h
 simp only[c1018] at h
 split at h
 ·rename_i a b c;exact ⟨_,h,tri_of_body (Γ:=[c1017]) (by simp[k1017]) Tryz.func18 (by simp[Tryz.ntmps18]) rfl (b1018 a b c)⟩
 ·exact h.elim
theorem b1012:body Tryz.prog [c1013,c1015,c1023] {} true Tryz.f12 [] (.val (.bool true)):=by
 have e1:(thP [48] [48] [48] [50] [48] [49] [48] [51] [48]).2.2.2=0:=by rw[aw_th]
 have e2:(meP [49] [48] [48] [48] [49] [48]).2.2.2=0:=by rw[aw_me]
 have e3:(nmP [49] [48] [48] [48] [49] [48]).2.2=0:=by rw[aw_nm]
 have e4: [(thP [48] [48] [48] [50] [48] [49] [48] [51] [48]).1,(thP [48] [48] [48] [50] [48] [49] [48] [51] [48]).2.1,(thP [48] [48] [48] [50] [48] [49] [48] [51] [48]).2.2.1]= [[49,47,50],[48],[48]]:=by rw[aw_th]
 have e5:(meP [49] [48] [48] [48] [49] [48]).1= [49]:=by rw[aw_me]
 have e6:(meP [49] [48] [48] [48] [49] [48]).2.1= [45,49]:=by rw[aw_me]
 have e7:(meP [49] [48] [48] [48] [49] [48]).2.2.1= [48]:=by rw[aw_me]
 have e8:(nmP [49] [48] [48] [48] [49] [48]).1= [49]:=by rw[aw_nm]
 have e9:(nmP [49] [48] [48] [48] [49] [48]).2.1= [52]:=by rw[aw_nm]
 (repeat'((conv=>whnf);first|refine Zy ?_|fail))
 refine Need.mk ⟨⟨by decide,by decide,by decide,trivial⟩,by kernel_rfl⟩ ?_
 (repeat'((conv=>whnf);first|refine Zy ?_|fail))
 (conv=>whnf)
 exact iff_of_true e9 rfl
def c1012:Con:=mkCon 12 true fun args K=>match args with | []=>K (.val (.bool true)) | _=>False
theorem k1012:ConOK Tryz.prog c1012:=by
 refine conOK_of rfl (enters_of Tryz.func12 (by kernel_rfl) rfl) ?_
 intro args K h
 simp only[c1012] at h
 split at h
 ·exact ⟨_,h,tri_of_body (Γ:=[c1013,c1015,c1023]) (by simp[k1013,k1015,k1023]) Tryz.func12 (by simp[Tryz.ntmps12]) rfl b1012⟩
 ·exact h.elim
section
variable {a b c d:List UInt8}
theorem short3 (h:shortL [a,b,c]):∃p q r,(a=numS p∧b=numS q∧c=numS r)∧Sz 12 p∧Sz 12 q∧Sz 12 r:=by
 obtain ⟨p,h1,z1⟩:=short_ex h (a:=a) (by simp)
 obtain ⟨q,h2,z2⟩:=short_ex h (a:=b) (by simp)
 obtain ⟨r,h3,z3⟩:=short_ex h (a:=c) (by simp)
 exact ⟨p,q,r,⟨h1,h2,h3⟩,z1,z2,z3⟩
end
theorem Sz.up' {q:Rat} (h:Sz 12 q):Sz 36 q:=h.mono (by decide)
theorem sz_at {a b c x y:Rat} {i j:Nat} (ha:Sz i a) (hb:Sz i b) (hc:Sz i c) (hx:Sz j x) (hy:Sz j y):Sz (3*i+2*j+2) (a*x+b*y+c):=by
 have:=((ha.mul hx).add (hb.mul hy)).add hc
 rwa [show i+j+(i+j)+1+i+1=3*i+2*j+2 by omega] at this
set_option linter.unusedSimpArgs false
end RB
end

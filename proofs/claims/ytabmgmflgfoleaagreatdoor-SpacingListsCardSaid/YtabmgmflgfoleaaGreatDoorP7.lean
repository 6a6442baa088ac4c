/-
  Part 7: a symbolic executor over the model, contracts of functions and plain laws.
-/
import Derived.Test.YtabmgmflgfoleaaGreatDoorP6
section
open Go Go.Proofs Go.Eng Go.Shelf IB Go.Lib Go.RowKit
namespace RB
set_option maxRecDepth 10000
set_option linter.unusedVariables false
set_option linter.unusedSimpArgs false
noncomputable def gpG (l:List (List UInt8)):Nat→Nat→List (List UInt8) × Int
 | 0,i=>(gapN l i,0)
 | n+1,i=>if (subQ (l.getD (i+1) []) (l.getD i [])).2≠0 then ([],(subQ (l.getD (i+1) []) (l.getD i [])).2) else gpG l n (i+1)
noncomputable def gpS (l:List (List UInt8)):List (List UInt8) × Int:=if ckS l≠0 then ([],1) else gpG l (l.length-1) 0
theorem aE2 {l:List (List UInt8)} {i:Nat} (hi:i+1<l.length) (h:(subQ (l.getD (i+1) []) (l.getD i [])).2=0):gpG l (l.length-1-i) i=gpG l (l.length-1-(i+1)) (i+1):=by
 obtain ⟨n,e⟩:∃n,l.length-1-i=n+1:=⟨l.length-1-i-1,by omega⟩
 rw[e,show l.length-1-(i+1)=n by omega]
 exact if_neg fun h'=>h' h
theorem aIo {l:List (List UInt8)} {i:Nat} (hi:i+1<l.length) (h:(subQ (l.getD (i+1) []) (l.getD i [])).2≠0):gpG l (l.length-1-i) i=([],(subQ (l.getD (i+1) []) (l.getD i [])).2):=by
 obtain ⟨n,e⟩:∃n,l.length-1-i=n+1:=⟨l.length-1-i-1,by omega⟩
 rw[e]
 exact if_pos h
theorem aIp {l:List (List UInt8)} {i:Nat} (hi:l.length≤i+1):gpG l (l.length-1-i) i=(gapN l i,0):=by
 rw[show l.length-1-i=0 by omega];rfl
theorem aE3 {a b:List UInt8} (h:(subQ a b).2=0):0<(subQ a b).1.length:=by
 unfold subQ cE at h ⊢
 split at h
 ·rename_i h1;exact absurd h h1
 rename_i h1
 rw[if_neg h1]
 split at h
 ·rename_i h2;exact absurd h h2
 rename_i h2
 rw[if_neg h2]
 dsimp only at h ⊢
 split at h
 ·exact absurd h (by decide)
 rename_i h3
 rw[if_neg h3]
 exact List.length_pos_iff.2 (uV _)
def Lm (l:List (List UInt8)):Prop:=∀a∈l,chkQ a=0→a.length≤82
theorem Lm.at {l:List (List UInt8)} (h:Lm l) {i:Nat} (hi:i<l.length) (hk:chkQ (l.getD i [])=0):(l.getD i []).length≤82:=h _ (fL hi) hk
theorem nP {a:List UInt8} (h1:chkQ a=0) (h2:a.length≤82):a=numS (valQ a)∧Sz 82 (valQ a)∧Wt 82 (valQ a):=by
 obtain ⟨e,z⟩:=aQb h2 h1 (by decide)
 exact ⟨e,z,wt_of h2 h1⟩
theorem tX {a b:List UInt8} (h1:chkQ a=0) (h2:a.length≤82) (h3:chkQ b=0) (h4:b.length≤82):cmpQ a b=(cmpR (valQ a) (valQ b),0):=by
 obtain ⟨e1,z1,_⟩:=nP h1 h2
 obtain ⟨e2,z2,_⟩:=nP h3 h4
 conv=>lhs;rw[e1,e2]
 exact aOc z1 z2 (by decide) (by decide) (by decide)
noncomputable def wiS (l:List (List UInt8)) (lo hi:List UInt8):List (List UInt8) × Int:=if ckS l≠0∨¬rgP lo hi then ([],1) else (l.filter (inR lo hi),0)
theorem aIq {l:List (List UInt8)} {t:List UInt8} {b:Int} {z:List UInt8} {i:Nat} (hi:i<l.length) (h:(dsS (l.getD i []) t).2≠0):nrG l t b z (l.length-i) i=(0,(dsS (l.getD i []) t).2):=by
 obtain ⟨n,e⟩:∃n,l.length-i=n+1:=⟨l.length-i-1,by omega⟩
 rw[e];exact if_pos h
theorem aIr {l:List (List UInt8)} {t:List UInt8} {b:Int} {z:List UInt8} {i:Nat} (hi:i<l.length) (h:(dsS (l.getD i []) t).2=0) (h2:(cmpQ (dsS (l.getD i []) t).1 z).2≠0):nrG l t b z (l.length-i) i=(0,(cmpQ (dsS (l.getD i []) t).1 z).2):=by
 obtain ⟨n,e⟩:∃n,l.length-i=n+1:=⟨l.length-i-1,by omega⟩
 rw[e];exact (if_neg fun h'=>h' h).trans (if_pos h2)
theorem aE4 {l:List (List UInt8)} {t:List UInt8} {b:Int} {z:List UInt8} {i:Nat} (hi:i<l.length) (h:(dsS (l.getD i []) t).2=0) (h2:(cmpQ (dsS (l.getD i []) t).1 z).2=0) (h3:(cmpQ (dsS (l.getD i []) t).1 z).1<0):nrG l t b z (l.length-i) i=nrG l t i (dsS (l.getD i []) t).1 (l.length-(i+1)) (i+1):=by
 obtain ⟨n,e⟩:∃n,l.length-i=n+1:=⟨l.length-i-1,by omega⟩
 rw[e,show l.length-(i+1)=n by omega];exact ((if_neg fun h'=>h' h).trans (if_neg fun h'=>h' h2)).trans (if_pos h3)
theorem xF {l:List (List UInt8)} {t:List UInt8} {b:Int} {z:List UInt8} {i:Nat} (hi:i<l.length) (h:(dsS (l.getD i []) t).2=0) (h2:(cmpQ (dsS (l.getD i []) t).1 z).2=0) (h3:¬(cmpQ (dsS (l.getD i []) t).1 z).1<0):nrG l t b z (l.length-i) i=nrG l t b z (l.length-(i+1)) (i+1):=by
 obtain ⟨n,e⟩:∃n,l.length-i=n+1:=⟨l.length-i-1,by omega⟩
 rw[e,show l.length-(i+1)=n by omega];exact ((if_neg fun h'=>h' h).trans (if_neg fun h'=>h' h2)).trans (if_neg h3)
theorem aIs {l:List (List UInt8)} {t:List UInt8} {b:Int} {z:List UInt8}:nrG l t b z (l.length-l.length) l.length=(b,0):=by rw[Nat.sub_self];rfl
theorem aM4 (x:Rat):(absR x).num.natAbs=x.num.natAbs∧(absR x).den=x.den:=by
 unfold absR
 split
 ·exact ⟨by rw[Rat.neg_num,Int.natAbs_neg],rfl⟩
 ·exact ⟨rfl,rfl⟩
theorem aO1 {a t:List UInt8} (h1:chkQ a=0) (h2:a.length≤82) (h3:chkQ t=0) (h4:t.length≤82):(dsS a t).2=0∧cmpQ (dsS a t).1 (dsS a t).1=(0,0):=by
 obtain ⟨e1,z1,w1⟩:=nP h1 h2
 obtain ⟨e2,z2,w2⟩:=nP h3 h4
 have e:=aOz z1 z2 (by decide) (by decide) (by decide)
 rw[← e1,← e2] at e
 rw[e]
 refine ⟨rfl,?_⟩
 have w:=w1.sub w2 z1.2 z2.2
 have w':Wt (3*82+1) (absR (valQ a-valQ t)):=by
  obtain ⟨a1,a2⟩:=aM4 (valQ a-valQ t)
  unfold Wt at w ⊢
  rw[a1,a2];exact w
 exact aMx w' ⟨by decide,by decide⟩ ((aOy (z1.sub z2)).vd ⟨by decide,by decide⟩)
noncomputable def mgS (a b:List (List UInt8)):List (List UInt8) × Int:=if ckS a≠0∨ckS b≠0 then ([],1) else if 4096<(mrg a b).length then ([],4) else (mrg a b,0)
theorem bt2 {A B D l h s t N:Nat} (hl:0<l) (hD:1≤D) (hDt:D*t≤100*(s*l*h)) (hB:B*l≤D+A*h) (h1:A*l<N) (h2:B*h<N) (h3:s*t<N):B*(t*t)≤200*(N*N)*h:=by
 have hN:1≤N:=by omega
 by_cases hc:2*(A*h)≤B*l
 ·have e1:B*l≤2*D:=by omega
  have e2:(B*l)*t≤(2*D)*t:=Nat.mul_le_mul_right _ e1
  have e3:(2*D)*t=2*(D*t):=Nat.mul_assoc ..
  have e4:(B*t)*l≤(200*(s*h))*l:=by
   have e5:(B*t)*l=(B*l)*t:=by ac_rfl
   have e6:(200*(s*h))*l=200*(s*l*h):=by ac_rfl
   rw[e5,e6];omega
  have e7:B*t≤200*(s*h):=Nat.le_of_mul_le_mul_right e4 hl
  have e8:(B*t)*t≤(200*(s*h))*t:=Nat.mul_le_mul_right _ e7
  have e9:(200*(s*h))*t=200*((s*t)*h):=by ac_rfl
  have e10:(s*t)*h≤(N*N)*h:=Nat.mul_le_mul_right _ (Nat.le_trans (Nat.le_of_lt h3) (Nat.le_mul_of_pos_right N hN))
  have e11:200*(N*N)*h=200*((N*N)*h):=Nat.mul_assoc ..
  have e12:B*(t*t)=(B*t)*t:=(Nat.mul_assoc ..).symm
  omega
 ·have q:B*l<2*N:=by
   refine Nat.lt_of_not_le fun hq=>?_
   have f1:(2*N)*(2*N)≤(B*l)*(B*l):=Nat.mul_le_mul hq hq
   have f2:(B*l)*(B*l)≤(B*l)*(2*(A*h)):=Nat.mul_le_mul_left _ (by omega)
   have f3:(B*l)*(2*(A*h))=2*((B*h)*(A*l)):=by ac_rfl
   have f4:(B*h)*(A*l)≤N*N:=Nat.mul_le_mul (Nat.le_of_lt h2) (Nat.le_of_lt h1)
   have f5:(2*N)*(2*N)=4*(N*N):=by rw[show 4=2*2 from rfl];ac_rfl
   have f6:1*1≤N*N:=Nat.mul_le_mul hN hN
   omega
  have g1:t≤D*t:=Nat.le_mul_of_pos_left t hD
  have g2:(B*t)*t≤(B*t)*(100*(s*l*h)):=Nat.mul_le_mul_left _ (Nat.le_trans g1 hDt)
  have g3:(B*t)*(100*(s*l*h))=100*(((s*t)*(B*l))*h):=by ac_rfl
  have g4:(s*t)*(B*l)≤N*(2*N):=Nat.mul_le_mul (Nat.le_of_lt h3) (Nat.le_of_lt q)
  have g5:((s*t)*(B*l))*h≤(N*(2*N))*h:=Nat.mul_le_mul_right _ g4
  have g6:(N*(2*N))*h=2*((N*N)*h):=by ac_rfl
  have g7:200*(N*N)*h=200*((N*N)*h):=Nat.mul_assoc ..
  have g8:B*(t*t)=(B*t)*t:=(Nat.mul_assoc ..).symm
  omega
abbrev N82:Nat:=10^82
structure AtH (L H O S:Rat):Prop where
 wL:Wt 82 L
 wH:Wt 82 H
 wS:Wt 82 S
 zL:Sz 82 L
 zH:Sz 82 H
 zO:Sz 82 O
 zS:Sz 82 S
 le:L≤H
 pos:0<S
 few:H≤L+((100:Nat):Rat)*S
section
variable {L H O S:Rat}
theorem rD {q:Rat} (h:0<q):0<q.num:=by
 have:=(Rat.lt_iff 0 q).1 h
 simpa using this
theorem AtH.t2 (h:AtH L H O S) (hlt:L<H):H.num.natAbs*(S.den*S.den)≤200*(N82*N82)*H.den∧L.num.natAbs*(S.den*S.den)≤200*(N82*N82)*L.den:=by
 have hs:=rD h.pos
 have h1:=(Rat.lt_iff L H).1 hlt
 have h2:=aM3 100 h.few
 have hl:=L.den_pos
 have hh:=H.den_pos
 have eX:(H.num*L.den).natAbs=H.num.natAbs*L.den:=by rw[Int.natAbs_mul,Int.natAbs_natCast]
 have eY:(L.num*H.den).natAbs=L.num.natAbs*H.den:=by rw[Int.natAbs_mul,Int.natAbs_natCast]
 obtain ⟨D,hD⟩:∃D:Nat,(D:Int)=H.num*L.den-L.num*H.den:=⟨(H.num*L.den-L.num*H.den).toNat,by omega⟩
 have hD1:1≤D:=by omega
 have hDt:D*S.den≤100*(S.num.natAbs*L.den*H.den):=by
  have es:((S.num.natAbs:Nat):Int)=S.num:=by omega
  have:((D*S.den:Nat):Int)≤((100*(S.num.natAbs*L.den*H.den):Nat):Int):=by
   push_cast
   rw[es,hD]
   push_cast at h2
   grind
  exact Int.ofNat_le.1 this
 have b1:H.num.natAbs*L.den≤D+L.num.natAbs*H.den:=by rw[← eX,← eY];omega
 have b2:L.num.natAbs*H.den≤D+H.num.natAbs*L.den:=by rw[← eX,← eY];omega
 refine ⟨bt2 hl hD1 hDt b1 h.wL h.wH h.wS,bt2 hh hD1 (Nat.le_trans hDt (Nat.le_of_eq (by ac_rfl))) b2 h.wH h.wL h.wS⟩
theorem AtH.xt (h:AtH L H O S) {x:Rat} (h1:L≤x) (h2:x≤H) (hd:x.den≤O.den*S.den):x.num.natAbs*S.den<10^250:=by
 have ho:=h.zO.2
 by_cases hlt:L<H
 ·obtain ⟨tH,tL⟩:=h.t2 hlt
  have key:∀ {q:Rat},q.num.natAbs*(S.den*S.den)≤200*(N82*N82)*q.den→x.num.natAbs*q.den≤q.num.natAbs*x.den→x.num.natAbs*S.den≤200*(N82*N82)*O.den:=fun {q} t e=>by
   have f1:q.num.natAbs*x.den≤q.num.natAbs*(O.den*S.den):=Nat.mul_le_mul_left _ hd
   have f2:(x.num.natAbs*q.den)*S.den≤(q.num.natAbs*(O.den*S.den))*S.den:=Nat.mul_le_mul_right _ (Nat.le_trans e f1)
   have f3:(q.num.natAbs*(O.den*S.den))*S.den=O.den*(q.num.natAbs*(S.den*S.den)):=by ac_rfl
   have f4:O.den*(q.num.natAbs*(S.den*S.den))≤O.den*(200*(N82*N82)*q.den):=Nat.mul_le_mul_left _ t
   have f5:(x.num.natAbs*S.den)*q.den≤(200*(N82*N82)*O.den)*q.den:=by
    have f6:(x.num.natAbs*S.den)*q.den=(x.num.natAbs*q.den)*S.den:=by ac_rfl
    have f7:(200*(N82*N82)*O.den)*q.den=O.den*(200*(N82*N82)*q.den):=by ac_rfl
    rw[f6,f7]
    exact Nat.le_trans f2 (by rw[f3];exact f4)
   exact Nat.le_of_mul_le_mul_right f5 q.den_pos
  have e1:=(Rat.le_iff L x).1 h1
  have e2:=(Rat.le_iff x H).1 h2
  have hb:x.num.natAbs*S.den≤200*(N82*N82)*O.den:=by
   by_cases hx:0≤x.num
   ·refine key tH ?_
    have a1:(x.num*H.den).natAbs=x.num.natAbs*H.den:=by rw[Int.natAbs_mul,Int.natAbs_natCast]
    have a2:(H.num*x.den).natAbs=H.num.natAbs*x.den:=by rw[Int.natAbs_mul,Int.natAbs_natCast]
    have a3:0≤x.num*H.den:=Int.mul_nonneg hx (by omega)
    rw[← a1,← a2];omega
   ·refine key tL ?_
    have a1:(x.num*L.den).natAbs=x.num.natAbs*L.den:=by rw[Int.natAbs_mul,Int.natAbs_natCast]
    have a2:(L.num*x.den).natAbs=L.num.natAbs*x.den:=by rw[Int.natAbs_mul,Int.natAbs_natCast]
    have a3:x.num*L.den≤0:=Int.mul_nonpos_of_nonpos_of_nonneg (by omega) (by omega)
    rw[← a1,← a2];omega
  refine Nat.lt_of_le_of_lt (Nat.le_trans hb (Nat.mul_le_mul_left _ (Nat.le_of_lt ho))) ?_
  decide
 ·have e:x=L:=Rat.le_antisymm (Rat.le_trans h2 (Rat.not_lt.1 hlt)) h1
  rw[e]
  refine Nat.lt_of_lt_of_le (Nat.mul_lt_mul'' h.zL.1 h.zS.2) ?_
  decide
theorem AtH.xh (h:AtH L H O S) {x:Rat} (h1:L≤x) (h2:x≤H+((100:Nat):Rat)*S) (hd:x.den≤O.den*S.den):x.num.natAbs*H.den<10^250:=by
 have hs:=rD h.pos
 have h1':H-((100:Nat):Rat)*S≤x:=by have:=h.few;grind
 have e1:=aM3 100 h2
 have e2:=aQ5 100 h1'
 have ho:=h.zO.2
 have es:((S.num.natAbs:Nat):Int)=S.num:=by omega
 have c1:x.num.natAbs*(H.den*S.den)≤(H.num.natAbs*S.den+100*(S.num.natAbs*H.den))*x.den:=by
  have a1:(x.num*(H.den*S.den:Nat)).natAbs=x.num.natAbs*(H.den*S.den):=by rw[Int.natAbs_mul,Int.natAbs_natCast]
  have a2:((((H.num.natAbs*S.den+100*(S.num.natAbs*H.den))*x.den:Nat)):Int)=(H.num.natAbs*S.den)*x.den+(100*S.num*H.den)*x.den:=by
   push_cast
   rw[es]
   grind
  have a3:(H.num*S.den)*x.den≤((H.num.natAbs:Int)*S.den)*x.den:=Int.mul_le_mul_of_nonneg_right (Int.mul_le_mul_of_nonneg_right (by omega) (by omega)) (by omega)
  have a4:(-(H.num.natAbs:Int)*S.den)*x.den≤(H.num*S.den)*x.den:=Int.mul_le_mul_of_nonneg_right (Int.mul_le_mul_of_nonneg_right (by omega) (by omega)) (by omega)
  have a5:(H.num*S.den+(100:Nat)*S.num*H.den)*x.den=(H.num*S.den)*x.den+(100*S.num*H.den)*x.den:=by push_cast;grind
  have a6:(H.num*S.den-(100:Nat)*S.num*H.den)*x.den=(H.num*S.den)*x.den-(100*S.num*H.den)*x.den:=by push_cast;grind
  have a7:(-(H.num.natAbs:Int)*S.den)*x.den= -(((H.num.natAbs:Int)*S.den)*x.den):=by grind
  rw[← a1]
  rw[a5] at e1
  rw[a6] at e2
  omega
 have c2:(x.num.natAbs*H.den)*S.den≤((H.num.natAbs*S.den+100*(S.num.natAbs*H.den))*O.den)*S.den:=by
  have:=Nat.mul_le_mul_left (H.num.natAbs*S.den+100*(S.num.natAbs*H.den)) hd
  have b1:(x.num.natAbs*H.den)*S.den=x.num.natAbs*(H.den*S.den):=Nat.mul_assoc ..
  have b2:((H.num.natAbs*S.den+100*(S.num.natAbs*H.den))*O.den)*S.den=(H.num.natAbs*S.den+100*(S.num.natAbs*H.den))*(O.den*S.den):=Nat.mul_assoc ..
  omega
 have c3:=Nat.le_of_mul_le_mul_right c2 S.den_pos
 have d1:=Nat.mul_lt_mul'' h.zH.1 h.zS.2
 have d2:=Nat.mul_lt_mul'' h.zS.1 h.zH.2
 have d3:H.num.natAbs*S.den+100*(S.num.natAbs*H.den)≤101*(10^82*10^82):=by omega
 refine Nat.lt_of_le_of_lt (Nat.le_trans c3 (Nat.mul_le_mul d3 (Nat.le_of_lt ho))) ?_
 decide
theorem aQk {P Q S:Rat} (zP:Sz 82 P) (zQ:Sz 82 Q) (zS:Sz 82 S) (hS:0<S):(flI ((P-Q)/S)).natAbs*S.num.natAbs<10^165:=by
 have hs:=rD hS
 have es:((S.num.natAbs:Nat):Int)=S.num:=by omega
 have k1:((flI ((P-Q)/S):Int):Rat)*S≤P-Q:=(jZ hS).1 (qB _)
 have k2:P-Q≤((flI ((P-Q)/S)+1:Int):Rat)*S:=by
  have:=Rat.le_of_lt (Rat.not_le.1 fun h=>Rat.not_le.2 (nO ((P-Q)/S)) ((jZ hS).2 h))
  exact this
 generalize flI ((P-Q)/S)=k at*
 have hP:=P.den_pos
 have hQ:=Q.den_pos
 have nn:(0:Rat)≤((S.den:Nat):Rat)*(((P.den:Nat):Rat)*((Q.den:Nat):Rat)):=Rat.mul_nonneg (mG S) (Rat.mul_nonneg (mG P) (mG Q))
 have i1:k*S.num*(P.den*Q.den:Nat)≤(P.num*Q.den-Q.num*P.den)*S.den:=by
  apply Rat.intCast_le_intCast.1
  simp only[Rat.intCast_mul,Rat.intCast_sub,Rat.intCast_natCast,Rat.natCast_mul,aCo]
  have:=Rat.mul_le_mul_of_nonneg_right k1 nn
  grind
 have i2:(P.num*Q.den-Q.num*P.den)*S.den≤(k+1)*S.num*(P.den*Q.den:Nat):=by
  apply Rat.intCast_le_intCast.1
  rw[Rat.intCast_mul,Rat.intCast_mul ((k+1)*S.num),Rat.intCast_mul (k+1),Rat.intCast_sub]
  simp only[Rat.intCast_mul,Rat.intCast_natCast,Rat.natCast_mul,aCo]
  have:=Rat.mul_le_mul_of_nonneg_right k2 nn
  grind
 have m1:P.num.natAbs*Q.den≤P.num.natAbs*(P.den*Q.den):=Nat.mul_le_mul_left _ (Nat.le_mul_of_pos_left _ hP)
 have m2:Q.num.natAbs*P.den≤Q.num.natAbs*(P.den*Q.den):=Nat.mul_le_mul_left _ (Nat.le_mul_of_pos_right _ hQ)
 have a1:(P.num*Q.den).natAbs=P.num.natAbs*Q.den:=by rw[Int.natAbs_mul,Int.natAbs_natCast]
 have a2:(Q.num*P.den).natAbs=Q.num.natAbs*P.den:=by rw[Int.natAbs_mul,Int.natAbs_natCast]
 have m3:(P.num*Q.den-Q.num*P.den).natAbs≤(P.num.natAbs+Q.num.natAbs)*(P.den*Q.den):=by
  rw[Nat.add_mul];omega
 have m4:((P.num*Q.den-Q.num*P.den)*S.den).natAbs≤((P.num.natAbs+Q.num.natAbs)*S.den)*(P.den*Q.den):=by
  rw[Int.natAbs_mul,Int.natAbs_natCast]
  refine Nat.le_trans (Nat.mul_le_mul_right _ m3) (Nat.le_of_eq (by ac_rfl))
 have hd:0<P.den*Q.den:=Nat.mul_pos hP hQ
 have key:k.natAbs*S.num.natAbs≤(P.num.natAbs+Q.num.natAbs)*S.den+S.num.natAbs:=by
  by_cases hk:0≤k
  ·have f1:(k*S.num*(P.den*Q.den:Nat)).natAbs=(k.natAbs*S.num.natAbs)*(P.den*Q.den):=by rw[Int.natAbs_mul,Int.natAbs_mul,Int.natAbs_natCast]
   have f2:0≤k*S.num*(P.den*Q.den:Nat):=Int.mul_nonneg (Int.mul_nonneg hk (by omega)) (by omega)
   have f3:(k.natAbs*S.num.natAbs)*(P.den*Q.den)≤((P.num.natAbs+Q.num.natAbs)*S.den)*(P.den*Q.den):=by rw[← f1];omega
   have:=Nat.le_of_mul_le_mul_right f3 hd
   omega
  ·have f1:((k+1)*S.num*(P.den*Q.den:Nat)).natAbs=((k+1).natAbs*S.num.natAbs)*(P.den*Q.den):=by rw[Int.natAbs_mul,Int.natAbs_mul,Int.natAbs_natCast]
   have f2:(k+1)*S.num*(P.den*Q.den:Nat)≤0:=Int.mul_nonpos_of_nonpos_of_nonneg (Int.mul_nonpos_of_nonpos_of_nonneg (by omega) (by omega)) (by omega)
   have f3:((k+1).natAbs*S.num.natAbs)*(P.den*Q.den)≤((P.num.natAbs+Q.num.natAbs)*S.den)*(P.den*Q.den):=by rw[← f1];omega
   have f4:=Nat.le_of_mul_le_mul_right f3 hd
   have f5:k.natAbs=(k+1).natAbs+1:=by omega
   rw[f5,Nat.add_mul,Nat.one_mul]
   omega
 have d1:(P.num.natAbs+Q.num.natAbs)*S.den≤(10^82+10^82)*10^82:=Nat.mul_le_mul (Nat.add_le_add (Nat.le_of_lt zP.1) (Nat.le_of_lt zQ.1)) (Nat.le_of_lt zS.2)
 have d2:=zS.1
 have d3:(10^82+10^82)*10^82+10^82<10^165:=by decide
 omega
end
theorem aCl (q:Rat):(flI q).natAbs≤q.num.natAbs:=kN _ _
theorem aCm {q:Rat} {k:Nat} (h:Sz k q) (hk:0<k∧k≤300):flQ (numS q)=(itoa (flI q),0):=by
 unfold flQ
 rw[if_pos (iN h hk),bV];rfl
theorem aIm {n:Int} {k:Nat} (h:n.natAbs<10^k) (hk:0<k∧k≤300):inQ (itoa n)=if n < -4611686018427387904∨4611686018427387904<n then (0,2) else (n,0):=by
 unfold inQ
 rw[← fA,if_pos (iN (yH h hk.1) hk),bV,if_pos (Rat.den_intCast n),Rat.num_intCast]
section
variable {L H O S:Rat}
noncomputable abbrev atX (L O S:Rat) (i:Nat):Rat:=cO L O S+S*((i:Int):Rat)
theorem aQy (i:Nat):atX L O S i=O-((aX L O S-i:Int):Rat)*S:=by
 unfold atX cO
 rw[Rat.intCast_sub]
 grind
theorem rE:atX L O S 0=cO L O S:=by
 unfold atX
 rw[show (((0:Nat):Int):Rat)=0 from rfl,Rat.mul_zero,Rat.add_zero]
theorem aEy (i:Nat):atX L O S (i+1)=atX L O S i+S:=by
 unfold atX
 rw[show ((i+1:Nat):Int)=(i:Int)+1 by omega,Rat.intCast_add,Rat.intCast_one]
 grind
theorem aEz (K:Int):(O-(K:Rat)*S).den≤O.den*S.den:=by
 rw[oO]
 refine Nat.le_trans (oM _ (qG _ _)).2 (Nat.mul_le_mul_left _ ?_)
 rw[oP]
 refine Nat.le_trans (oM _ (qG _ _)).2 ?_
 rw[Rat.den_intCast,Nat.one_mul];exact Nat.le_refl _
theorem uP (i:Nat):(atX L O S i).den≤O.den*S.den:=by rw[aQy];exact aEz _
theorem tV (K:Int) (S:Rat):((K:Rat)*S).num.natAbs≤K.natAbs*S.num.natAbs∧((K:Rat)*S).den≤S.den:=by
 rw[oP]
 obtain ⟨h1,h2⟩:=oM ((K:Rat).num*S.num) (qG (K:Rat) S)
 rw[Rat.num_intCast,Int.natAbs_mul] at h1
 exact ⟨h1,Nat.le_trans h2 (by rw[Rat.den_intCast,Nat.one_mul];exact Nat.le_refl _)⟩
theorem AtH.count (h:AtH L H O S): -1≤aX L O S+cS H O S∧aX L O S+cS H O S≤100:=by
 have hS:=h.pos
 have a1:((aX L O S:Int):Rat)*S≤O-L:=(jZ hS).1 (qB _)
 have a2:((cS H O S:Int):Rat)*S≤H-O:=(jZ hS).1 (qB _)
 have b1:O-L≤((aX L O S+1:Int):Rat)*S:=Rat.le_of_lt (Rat.not_le.1 fun h=>Rat.not_le.2 (nO _) ((jZ hS).2 h))
 have b2:H-O≤((cS H O S+1:Int):Rat)*S:=Rat.le_of_lt (Rat.not_le.1 fun h=>Rat.not_le.2 (nO _) ((jZ hS).2 h))
 have b1':¬((aX L O S+1:Int):Rat)*S≤O-L:=fun h=>Rat.not_le.2 (nO _) ((jZ hS).2 h)
 have b2':¬((cS H O S+1:Int):Rat)*S≤H-O:=fun h=>Rat.not_le.2 (nO _) ((jZ hS).2 h)
 generalize aX L O S=x at*
 generalize cS H O S=y at*
 have few:=h.few
 have le:=h.le
 constructor
 ·refine Int.not_lt.1 fun hlt=>?_
  have h1:((x+1+(y+1):Int):Rat)≤((0:Int):Rat):=Rat.intCast_le_intCast.2 (by omega)
  have h2:=Rat.mul_le_mul_of_nonneg_right h1 (Rat.le_of_lt hS)
  rw[Rat.intCast_add (x+1),Rat.add_mul,Rat.intCast_zero,Rat.zero_mul] at h2
  have h3:=Rat.not_le.1 b1'
  have h4:=Rat.not_le.1 b2'
  generalize ((x+1:Int):Rat)*S=u at*
  generalize ((y+1:Int):Rat)*S=v at*
  grind
 ·refine Int.not_lt.1 fun hlt=>?_
  have h1:((101:Int):Rat)≤((x+y:Int):Rat):=Rat.intCast_le_intCast.2 (by omega)
  have h2:=Rat.mul_le_mul_of_nonneg_right h1 (Rat.le_of_lt hS)
  rw[Rat.intCast_add,Rat.add_mul] at h2
  have e:((101:Int):Rat)*S=((100:Nat):Rat)*S+S:=by
   rw[show ((101:Int):Rat)=((100:Nat):Rat)+1 from Rat.intCast_add 100 1,Rat.add_mul,Rat.one_mul]
  rw[e] at h2
  generalize ((100:Nat):Rat)*S=w at*
  generalize (x:Rat)*S=u at*
  generalize (y:Rat)*S=v at*
  grind
theorem AtH.f1 (h:AtH L H O S):subQ (numS O) (numS L)=(numS (O-L),0):=rT h.zO h.zL (by decide) (by decide) (by decide)
theorem AtH.f4 (h:AtH L H O S):subQ (numS H) (numS O)=(numS (H-O),0):=rT h.zH h.zO (by decide) (by decide) (by decide)
theorem gE {S:Rat} (h:0<S):S≠0:=fun e=>Rat.lt_irrefl (e ▸ h)
theorem AtH.f2 (h:AtH L H O S):divQ (numS (O-L)) (numS S)=(numS ((O-L)/S),0):=oX (h.zO.sub h.zL) h.zS (by decide) (by decide) (by decide) (gE h.pos)
theorem AtH.f5 (h:AtH L H O S):divQ (numS (H-O)) (numS S)=(numS ((H-O)/S),0):=oX (h.zH.sub h.zO) h.zS (by decide) (by decide) (by decide) (gE h.pos)
theorem AtH.f3 (h:AtH L H O S):flQ (numS ((O-L)/S))=(itoa (aX L O S),0):=aCm ((h.zO.sub h.zL).div h.zS (gE h.pos)) ⟨by decide,by decide⟩
theorem AtH.f6 (h:AtH L H O S):flQ (numS ((H-O)/S))=(itoa (cS H O S),0):=aCm ((h.zH.sub h.zO).div h.zS (gE h.pos)) ⟨by decide,by decide⟩
theorem AtH.below (h:AtH L H O S):(aX L O S).natAbs*S.num.natAbs<10^165∧(aX L O S).natAbs<10^165:=by
 have h1:=aQk h.zO h.zL h.zS h.pos
 have hs:=rD h.pos
 exact ⟨h1,Nat.lt_of_le_of_lt (Nat.le_mul_of_pos_right _ (by omega)) h1⟩
theorem AtH.above (h:AtH L H O S):(cS H O S).natAbs<10^165:=by
 have h1:=aQk h.zH h.zO h.zS h.pos
 have hs:=rD h.pos
 exact Nat.lt_of_le_of_lt (Nat.le_mul_of_pos_right _ (by omega)) h1
theorem AtH.f7 (h:AtH L H O S):addQ (itoa (aX L O S)) (itoa (cS H O S))=(itoa (aX L O S+cS H O S),0):=by
 have:=aG4 (p:=((aX L O S:Int):Rat)) (q:=((cS H O S:Int):Rat)) (k:=165) ⟨by decide,by decide⟩ (by rw[Rat.num_intCast,Rat.den_intCast,Nat.mul_one];exact h.below.2) (by rw[Rat.num_intCast,Rat.den_intCast,Nat.mul_one];exact h.above) (by rw[Rat.den_intCast,Rat.den_intCast];decide)
 rwa [← Rat.intCast_add,fA,fA,fA] at this
theorem AtH.f9 (h:AtH L H O S):inQ (itoa (aX L O S+cS H O S))=(aX L O S+cS H O S,0):=by
 obtain ⟨h1,h2⟩:=h.count
 rw[aIm (k:=4) (by have:(10:Nat)^4=10000:=(by decide);omega) ⟨by decide,by decide⟩,if_neg (by omega)]
theorem AtH.f10 (h:AtH L H O S):mulQ (itoa (aX L O S)) (numS S)=(numS (((aX L O S:Int):Rat)*S),0):=by
 have z1:Sz 165 ((aX L O S:Int):Rat):=yH h.below.2 (by decide)
 have:=aQ3 (k:=165) ⟨by decide,by decide⟩ z1 (h.zS.mono (by decide)) (by rw[Rat.num_intCast];exact h.below.1) (by rw[Rat.den_intCast,Nat.one_mul];exact (h.zS.mono (j:=165) (by decide)).2)
 rwa [fA] at this
theorem AtH.f11 (h:AtH L H O S):subQ (numS O) (numS (((aX L O S:Int):Rat)*S))=(numS (cO L O S),0):=by
 obtain ⟨i1,i2⟩:=tV (aX L O S) S
 have hb:=h.below.1
 have zO:=h.zO
 have zS:=h.zS
 refine aQ2 (k:=249) ⟨by decide,by decide⟩ ?_ ?_ ?_
 ·refine Nat.lt_of_le_of_lt (Nat.mul_le_mul (Nat.le_of_lt zO.1) (Nat.le_trans i2 (Nat.le_of_lt zS.2))) ?_
  decide
 ·refine Nat.lt_of_le_of_lt (Nat.mul_le_mul (Nat.le_trans i1 (Nat.le_of_lt hb)) (Nat.le_of_lt zO.2)) ?_
  decide
 ·refine Nat.lt_of_le_of_lt (Nat.mul_le_mul (Nat.le_of_lt zO.2) (Nat.le_trans i2 (Nat.le_of_lt zS.2))) ?_
  decide
theorem AtH.f12 (h:AtH L H O S) {i:Nat} (hi:i≤1000):mulQ (numS S) (itoa i)=(numS (S*((i:Int):Rat)),0):=by
 have z1:Sz 4 ((i:Int):Rat):=yH (by rw[Int.natAbs_natCast];have:(10:Nat)^4=10000:=(by decide);omega) (by decide)
 have:=aJ8 h.zS z1 (by decide) (by decide) (by decide)
 rwa [fA] at this
theorem aE0 (K:Int) (S:Rat):(S*(K:Rat)).num.natAbs≤K.natAbs*S.num.natAbs∧(S*(K:Rat)).den≤S.den:=by
 rw[Rat.mul_comm];exact tV K S
theorem AtH.in (h:AtH L H O S) {i:Nat} (hi:(i:Int)<eM L H O S):L≤atX L O S i∧atX L O S i≤H:=by
 refine ⟨?_,(at_in h.pos i).2 hi⟩
 have h1:=(aG3 (L:=L) (O:=O) h.pos).1
 have h2:0≤S*((i:Int):Rat):=Rat.mul_nonneg (Rat.le_of_lt h.pos) (Rat.intCast_nonneg.2 (by omega))
 show L≤cO L O S+ _
 generalize S*((i:Int):Rat)=u at*
 grind
theorem AtH.f13 (h:AtH L H O S) {i:Nat} (hi:(i:Int)<eM L H O S):addQ (numS (cO L O S)) (numS (S*((i:Int):Rat)))=(numS (atX L O S i),0):=by
 have hc:=h.count
 have hi2:i≤100:=by unfold eM at hi;omega
 obtain ⟨i1,i2⟩:=aE0 (i:Int) S
 have r:=h.in (i:=0) (by omega)
 rw[rE] at r
 have hx:=h.xt r.1 r.2 (by rw[← rE];exact uP 0)
 have hd:(cO L O S).den≤O.den*S.den:=by rw[← rE];exact uP 0
 have zO:=h.zO.2
 have zS:=h.zS
 have hd2:(cO L O S).den≤10^82*10^82:=Nat.le_trans hd (Nat.mul_le_mul (Nat.le_of_lt zO) (Nat.le_of_lt zS.2))
 refine aG4 (k:=250) ⟨by decide,by decide⟩ ?_ ?_ ?_
 ·exact Nat.lt_of_le_of_lt (Nat.mul_le_mul_left _ i2) hx
 ·refine Nat.lt_of_le_of_lt (Nat.mul_le_mul (Nat.le_trans i1 (Nat.mul_le_mul (show (i:Int).natAbs≤100 by omega) (Nat.le_of_lt zS.1))) hd2) ?_
  decide
 ·refine Nat.lt_of_le_of_lt (Nat.mul_le_mul hd2 (Nat.le_trans i2 (Nat.le_of_lt zS.2))) ?_
  decide
theorem AtH.f15 (h:AtH L H O S) {i:Nat} (hi:(i:Int)<eM L H O S):addQ (numS (atX L O S i)) (numS S)=(numS (atX L O S (i+1)),0):=by
 obtain ⟨r1,r2⟩:=h.in hi
 have hd:=uP (L:=L) (O:=O) (S:=S) i
 have hx:=h.xt r1 r2 hd
 have zO:=h.zO.2
 have zS:=h.zS
 have hd2:(atX L O S i).den≤10^82*10^82:=Nat.le_trans hd (Nat.mul_le_mul (Nat.le_of_lt zO) (Nat.le_of_lt zS.2))
 rw[aEy]
 refine aG4 (k:=250) ⟨by decide,by decide⟩ hx ?_ ?_
 ·refine Nat.lt_of_le_of_lt (Nat.mul_le_mul (Nat.le_of_lt zS.1) hd2) ?_
  decide
 ·refine Nat.lt_of_le_of_lt (Nat.mul_le_mul hd2 (Nat.le_of_lt zS.2)) ?_
  decide
theorem AtH.f14 (h:AtH L H O S) {i:Nat} (hi:(i:Int)≤eM L H O S):cmpQ (numS (atX L O S i)) (numS H)=(cmpR (atX L O S i) H,0):=by
 have hd:=uP (L:=L) (O:=O) (S:=S) i
 have zO:=h.zO.2
 have zS:=h.zS
 have zH:=h.zH
 have hd2:(atX L O S i).den≤10^82*10^82:=Nat.le_trans hd (Nat.mul_le_mul (Nat.le_of_lt zO) (Nat.le_of_lt zS.2))
 have hS:=h.pos
 have le1:L≤atX L O S i:=by
  have h1:=(aG3 (L:=L) (O:=O) hS).1
  have h2:0≤S*((i:Int):Rat):=Rat.mul_nonneg (Rat.le_of_lt hS) (Rat.intCast_nonneg.2 (by omega))
  show L≤cO L O S+ _
  generalize S*((i:Int):Rat)=u at*
  grind
 have h100:S≤((100:Nat):Rat)*S:=by
  have:=Rat.mul_le_mul_of_nonneg_right (show (1:Rat)≤((100:Nat):Rat) by decide) (Rat.le_of_lt hS)
  rwa [Rat.one_mul] at this
 have le2:atX L O S i≤H+((100:Nat):Rat)*S:=by
  have:atX L O S i≤H+S:=by
   rcases i with _ | j
   ·rw[rE]
    have h1:=(aG3 (L:=L) (O:=O) hS).2
    have:=h.le
    grind
   ·rw[aEy]
    have:=(h.in (i:=j) (by omega)).2
    exact Rat.add_le_add_right.2 this
  generalize ((100:Nat):Rat)*S=w at*
  grind
 have hx:=h.xh le1 le2 hd
 have n1:=H.den_pos
 have n2:=S.den_pos
 refine aM2 (k:=250) ⟨by decide,by decide⟩ ⟨Nat.lt_of_le_of_lt (Nat.le_mul_of_pos_right _ n1) hx,Nat.lt_of_le_of_lt hd2 (by decide)⟩ (zH.mono (by decide)) hx ?_
 refine Nat.lt_of_le_of_lt (Nat.mul_le_mul (Nat.le_of_lt zH.1) hd2) ?_
 decide
end
noncomputable def atW (lo hi o s:List UInt8):List (List UInt8) × Int:=if ¬rgP lo hi∨chkQ o≠0∨chkQ s≠0 then ([],1) else if ¬0<valQ s then ([],2) else ((atR (valQ lo) (valQ hi) (valQ o) (valQ s)).map numS,0)
noncomputable def evW (lo hi m:List UInt8):List (List UInt8) × Int:=if ¬rgP lo hi∨chkQ m≠0 then ([],1) else if ¬0<valQ m then ([],2) else if lo=hi then ([lo],0) else if 4095<clI ((valQ hi-valQ lo)/valQ m) then ([],4) else ((evR (valQ lo) (valQ hi) (valQ m)).map numS,0)
structure EvH (L H M:Rat):Prop where
 zL:Sz 82 L
 zH:Sz 82 H
 zM:Sz 82 M
 lt:L<H
 pos:0<M
section
variable {L H M:Rat}
noncomputable abbrev evC (L H M:Rat):Int:=clI ((H-L)/M)
theorem EvH.e1 (h:EvH L H M):subQ (numS H) (numS L)=(numS (H-L),0):=rT h.zH h.zL (by decide) (by decide) (by decide)
theorem EvH.e2 (h:EvH L H M):divQ (numS (H-L)) (numS M)=(numS ((H-L)/M),0):=oX (h.zH.sub h.zL) h.zM (by decide) (by decide) (by decide) (gE h.pos)
theorem EvH.sq (h:EvH L H M):Sz 247 ((H-L)/M):=(h.zH.sub h.zL).div h.zM (gE h.pos)
theorem EvH.e3 (h:EvH L H M):flQ (numS ((H-L)/M))=(itoa (flI ((H-L)/M)),0):=aCm h.sq ⟨by decide,by decide⟩
theorem EvH.e3i (h:EvH L H M):inQ (itoa (flI ((H-L)/M)))=if flI ((H-L)/M) < -4611686018427387904∨4611686018427387904<flI ((H-L)/M) then (0,2) else (flI ((H-L)/M),0):=aIm (k:=247) (Nat.lt_of_le_of_lt (aCl _) h.sq.1) ⟨by decide,by decide⟩
theorem aKx (q:Rat):(itoa (flI q)=numS q∧clI q=flI q)∨(¬itoa (flI q)=numS q∧clI q=flI q+1):=by
 unfold clI
 by_cases h:((flI q:Int):Rat)=q
 ·exact .inl ⟨(aMy q).2 h,if_pos h⟩
 ·exact .inr ⟨fun h'=>h ((aMy q).1 h'),if_neg h⟩
theorem EvH.cpos (h:EvH L H M):0<evC L H M:=aQ1 h.lt h.pos
theorem sz4 {n:Int} (h0:0≤n) (h:n≤5000):Sz 4 (n:Rat):=yH (by have:(10:Nat)^4=10000:=(by decide);omega) (by decide)
theorem EvH.st (h:EvH L H M) (hc:evC L H M≤4095):Sz 169 (iA L H M):=by
 have h0:=h.cpos
 have h1:0<clI ((H-L)/M):=h0
 have h2:clI ((H-L)/M)≤4095:=hc
 refine (h.zH.sub h.zL).div (sz4 (by omega) (by omega)) fun e=>?_
 have:=Rat.intCast_eq_zero_iff.1 e
 omega
theorem EvH.e4 (h:EvH L H M) (hc:evC L H M≤4095):divQ (numS (H-L)) (itoa (evC L H M))=(numS (iA L H M),0):=by
 have h0:=h.cpos
 have:=oX (h.zH.sub h.zL) (sz4 (n:=evC L H M) (by omega) (by omega)) (by decide) (by decide) (by decide) (fun e=>by
  have:=Rat.intCast_eq_zero_iff.1 e
  omega)
 rwa [fA] at this
theorem EvH.e5 (h:EvH L H M) (hc:evC L H M≤4095) {k:Nat} (hk:k≤5000):mulQ (numS (iA L H M)) (itoa k)=(numS (iA L H M*((k:Int):Rat)),0):=by
 have:=aJ8 (h.st hc) (sz4 (n:=(k:Int)) (by omega) (by omega)) (by decide) (by decide) (by decide)
 rwa [fA] at this
theorem EvH.e6 (h:EvH L H M) (hc:evC L H M≤4095) {k:Nat} (hk:k≤5000):addQ (numS L) (numS (iA L H M*((k:Int):Rat)))=(numS (L+iA L H M*((k:Int):Rat)),0):=
 aP3 h.zL ((h.st hc).mul (sz4 (n:=(k:Int)) (by omega) (by omega))) (by decide) (by decide) (by decide)
theorem aQz (q:Rat):flI (-q)= -clI q:=by
 apply Int.le_antisymm
 ·have h1:=qB (-q)
  have h2:q≤((-flI (-q):Int):Rat):=by rw[Rat.intCast_neg];exact Rat.le_neg_iff.1 (by grind)
  have h3:=aQ0 q
  have h4:((clI q-1:Int):Rat)<((-flI (-q):Int):Rat):=Rat.not_le.1 fun h=>Rat.not_le.2 h3 (Rat.le_trans h2 h)
  have:=Rat.intCast_lt_intCast.1 h4
  omega
 ·rw[← aM1,Rat.intCast_neg]
  exact Rat.neg_le_neg (aMz q)
theorem EvH.r1 (h:EvH L H M):subQ (numS L) (numS H)=(numS (L-H),0):=rT h.zL h.zH (by decide) (by decide) (by decide)
theorem EvH.r2 (h:EvH L H M):divQ (numS (L-H)) (numS M)=(numS ((L-H)/M),0):=oX (h.zL.sub h.zH) h.zM (by decide) (by decide) (by decide) (gE h.pos)
theorem neg_q:(L-H)/M= -((H-L)/M):=by
 rw[Rat.div_def,Rat.div_def,← Rat.neg_mul]
 congr 1
 grind
theorem EvH.sq' (h:EvH L H M):Sz 247 ((L-H)/M):=(h.zL.sub h.zH).div h.zM (gE h.pos)
theorem EvH.r3 (h:EvH L H M):flQ (numS ((L-H)/M))=(itoa (-evC L H M),0):=by
 rw[aCm h.sq' ⟨by decide,by decide⟩,neg_q,aQz]
theorem EvH.r4 (h:EvH L H M) (hc:evC L H M≤4095):divQ (numS (L-H)) (itoa (-evC L H M))=(numS (iA L H M),0):=by
 have h0:=h.cpos
 have z:Sz 4 ((-evC L H M:Int):Rat):=yH (by have:(10:Nat)^4=10000:=(by decide);omega) (by decide)
 have:=oX (h.zL.sub h.zH) z (by decide) (by decide) (by decide) (fun e=>by
  have:=Rat.intCast_eq_zero_iff.1 e
  omega)
 rw[fA] at this
 rw[this]
 unfold iA
 have hc0:((evC L H M:Int):Rat)≠0:=fun e=>by
  have:=Rat.intCast_eq_zero_iff.1 e
  omega
 have e1:(H-L)/((evC L H M:Int):Rat)*((evC L H M:Int):Rat)=H-L:=Rat.div_mul_cancel hc0
 have hc1:((-evC L H M:Int):Rat)≠0:=fun e=>by
  have:=Rat.intCast_eq_zero_iff.1 e
  omega
 have e2:(L-H)/((-evC L H M:Int):Rat)*((-evC L H M:Int):Rat)=L-H:=Rat.div_mul_cancel hc1
 rw[Rat.intCast_neg] at e2 ⊢
 have e3:((L-H) / -((evC L H M:Int):Rat)-(H-L)/((evC L H M:Int):Rat))*((evC L H M:Int):Rat)=0:=by grind
 rcases Rat.mul_eq_zero.1 e3 with e | e
 ·congr 2
  show _=(H-L)/((evC L H M:Int):Rat)
  grind
 ·exact absurd e hc0
end
def grS1 (a:List UInt8):Prop:=uG a∨(82<a.length∧chkQ a=0)
def grtS (l:List (List UInt8)):Prop:=(∃a∈l,grS1 a)∨16<l.length
noncomputable instance (l:List (List UInt8)):Decidable (grtS l):=Classical.propDecidable _
theorem aCn {l:List (List UInt8)} (h:¬grtS l):Lm l∧l.length≤16:=
 ⟨fun a ha hk=>Nat.le_of_not_lt fun h1=>h (.inl ⟨a,ha,.inr ⟨h1,hk⟩⟩),Nat.le_of_not_lt fun h1=>h (.inr h1)⟩
theorem Lm.sub {l m:List (List UInt8)} (h:Lm l) (hs:∀a∈m,a∈l):Lm m:=fun a ha=>h a (hs a ha)
def aMu (s:List UInt8):Prop:=20<s.length∨chkQ s≠0
noncomputable instance (s:List UInt8):Decidable (aMu s):=Classical.propDecidable _
noncomputable instance:DecidablePred aMu:=fun s=>Classical.propDecidable _
def shS (l:List (List UInt8)):Prop:=∀a∈l,a.length≤20∧chkQ a=0
noncomputable instance (l:List (List UInt8)):Decidable (shS l):=Classical.propDecidable _
def fineS (l:List (List UInt8)):Prop:=(l.length≤16∧shS l)∧ckS l=0
noncomputable instance (l:List (List UInt8)):Decidable (fineS l):=Classical.propDecidable _
def mnP (q:List UInt8):Prop:=(cmpQ q [53,48,48,48]).2=0∧0<(cmpQ q [53,48,48,48]).1
noncomputable instance (q:List UInt8):Decidable (mnP q):=Classical.propDecidable _
def fwP (lo hi s:List UInt8):Prop:=(subQ hi lo).2≠0∨(divQ (subQ hi lo).1 s).2≠0∨(cmpQ (divQ (subQ hi lo).1 s).1 [49,48,48]).2≠0∨(cmpQ (divQ (subQ hi lo).1 s).1 [49,48,48]).1≤0∨mnP (divQ (subQ hi lo).1 s).1
noncomputable instance (lo hi s:List UInt8):Decidable (fwP lo hi s):=Classical.propDecidable _
theorem dec3 {i:Nat} (h1:¬i<100) (h2:i<1000):decDigits i= [UInt8.ofNat (48+i/10/10),UInt8.ofNat (48+i/10%10),UInt8.ofNat (48+i%10)]:=by
 rw[decDigits,dif_neg (by omega),decDigits_two (by omega) (by omega)];rfl
theorem dec4 {i:Nat} (h1:¬i<1000) (h2:i<10000):decDigits i= [UInt8.ofNat (48+i/10/10/10),UInt8.ofNat (48+i/10/10%10),UInt8.ofNat (48+i/10%10),UInt8.ofNat (48+i%10)]:=by
 rw[decDigits,dif_neg (by omega),dec3 (by omega) (by omega)];rfl
theorem aMv (n:Nat):itoa (n:Int)=decDigits n:=by
 unfold itoa
 rw[if_neg (by omega),Int.toNat_natCast]
theorem mE (n:Nat):numS ((n:Int):Rat)=decDigits n:=by rw[fA,aMv]
theorem n100:numS 100= [49,48,48]:=(mE 100).trans (dec3 (by decide) (by decide))
theorem n400:numS 400= [52,48,48]:=(mE 400).trans (dec3 (by decide) (by decide))
theorem n500:numS 500= [53,48,48]:=(mE 500).trans (dec3 (by decide) (by decide))
theorem n900:numS 900= [57,48,48]:=(mE 900).trans (dec3 (by decide) (by decide))
theorem aQl:numS 1000= [49,48,48,48]:=(mE 1000).trans (dec4 (by decide) (by decide))
theorem n4:numS 4= [52]:=(mE 4).trans (cB (by decide))
theorem n10:numS 10= [49,48]:=(mE 10).trans (decDigits_two (by decide) (by decide))
theorem n10_3:numS (mkRat 10 3)= [49,48,47,51]:=by
 unfold numS
 rw[show (mkRat 10 3).num=((10:Nat):Int) by decide,show (mkRat 10 3).den=3 by decide,if_neg (by decide),aMv,decDigits_two (by decide) (by decide),cB (by decide)];rfl
theorem n20_3:numS (mkRat 20 3)= [50,48,47,51]:=by
 unfold numS
 rw[show (mkRat 20 3).num=((20:Nat):Int) by decide,show (mkRat 20 3).den=3 by decide,if_neg (by decide),aMv,decDigits_two (by decide) (by decide),cB (by decide)];rfl
theorem aIn {L H:Rat} {k:Nat} (zL:Sz k L) (zH:Sz k H) (hk:0<k∧k≤150):rgP (numS L) (numS H)↔L≤H:=by
 unfold rgP
 rw[aOc zL zH hk.1 hk.1 (by omega)]
 have h1:=aC2 H L
 have h2:=rU H L
 constructor
 ·intro h
  refine Rat.not_lt.1 fun hlt=>?_
  have:=h1.2 hlt
  have:=h.2
  dsimp only at this
  omega
 ·intro h
  have:¬cmpR H L<0:=fun h'=>Rat.not_le.2 (h1.1 h') h
  exact ⟨rfl,by dsimp only;omega⟩
theorem aQm:atW [48] [49,48,48,48] [49,48,48] [52,48,48]=([[49,48,48],[53,48,48],[57,48,48]],0):=by
 have z0:Sz 4 0:=⟨by decide,by decide⟩
 have z1:Sz 4 1000:=⟨by decide,by decide⟩
 have z2:Sz 4 100:=⟨by decide,by decide⟩
 have z3:Sz 4 400:=⟨by decide,by decide⟩
 rw[← aQl,← n100,← n400,← n500,← n900,← numS0]
 unfold atW
 simp only[bV]
 rw[if_neg,if_neg (by rw[show ((0:Rat)<400)=True from eq_true (by decide)];simp)]
 ·rw[show atR 0 1000 100 400= [100,500,900] by decide+kernel];rfl
 ·rintro (h | h | h)
  ·exact h ((aIn z0 z1 ⟨by decide,by decide⟩).2 (by decide))
  ·exact h (iN z2 ⟨by decide,by decide⟩)
  ·exact h (iN z3 ⟨by decide,by decide⟩)
theorem aQn:evW [48] [49,48] [52]=([[48],[49,48,47,51],[50,48,47,51],[49,48]],0):=by
 have z0:Sz 4 0:=⟨by decide,by decide⟩
 have z1:Sz 4 10:=⟨by decide,by decide⟩
 have z2:Sz 4 4:=⟨by decide,by decide⟩
 rw[← n10_3,← n20_3,← n10,← n4,← numS0]
 unfold evW
 simp only[bV]
 rw[if_neg,if_neg (by rw[show ((0:Rat)<4)=True from eq_true (by decide)];simp),if_neg (fun h=>absurd (xJ h) (by decide)),if_neg (by decide+kernel)]
 ·rw[show evR 0 10 4= [0,mkRat 10 3,mkRat 20 3,10] by decide+kernel];rfl
 ·rintro (h | h)
  ·exact h ((aIn z0 z1 ⟨by decide,by decide⟩).2 (by decide))
  ·exact h (iN z2 ⟨by decide,by decide⟩)
theorem aMw:Lm [[48],[49,48,48,48],[49,48,48],[52,48,48]]∧Lm [[48],[49,48],[52]]:=by
 constructor
 ·intro a ha _
  simp at ha
  rcases ha with rfl | rfl | rfl | rfl<;>decide
 ·intro a ha _
  simp at ha
  rcases ha with rfl | rfl | rfl<;>decide
theorem iB {P:Program} {c c':Con} (hc:aF P c) (hf:c'.f=c.f) (hfr:c'.fresh=c.fresh) (hl:(c'.lin,c'.own,c'.hp)=(none,none,none)) (h:∀args K,c'.cl args K→c.cl args K):aF P c':=
 aC hl (by rw[hf];exact hc.1) fun args K h'=>by
  have:=hc.2.1 args K (h args K h')
  rwa [hf,hfr]
noncomputable def c17n:Con:=aJ 97 true fun args K=>match args with
 | [.str a,.str b]=>Alt (Has (fun r=>addQ a b=(r,0)) fun r=>K (.tup [S r,I 0])) (K (.tup [S (addQ a b).1,I (addQ a b).2]))
 | _=>False
theorem k17n:aF Tryz.prog c17n:=iB k17 rfl rfl rfl fun args K h=>by
 simp only[c17n] at h
 split at h
 ·rcases h.or with h | h
  ·obtain ⟨r,e,h⟩:=h.ex
   show K _
   rw[e];exact h
  ·exact h
 ·exact h.elim
noncomputable def c20n:Con:=aJ 15 true fun args K=>match args with
 | [.str a,.str b]=>Alt (Has (fun r=>subQ a b=(r,0)) fun r=>K (.tup [S r,I 0])) (K (.tup [S (subQ a b).1,I (subQ a b).2]))
 | _=>False
theorem k20n:aF Tryz.prog c20n:=iB k20 rfl rfl rfl fun args K h=>by
 simp only[c20n] at h
 split at h
 ·rcases h.or with h | h
  ·obtain ⟨r,e,h⟩:=h.ex
   show K _
   rw[e];exact h
  ·exact h
 ·exact h.elim
noncomputable def c19n:Con:=aJ 98 true fun args K=>match args with
 | [.str a,.str b]=>Alt (Has (fun r=>mulQ a b=(r,0)) fun r=>K (.tup [S r,I 0])) (K (.tup [S (mulQ a b).1,I (mulQ a b).2]))
 | _=>False
theorem k19n:aF Tryz.prog c19n:=iB k19 rfl rfl rfl fun args K h=>by
 simp only[c19n] at h
 split at h
 ·rcases h.or with h | h
  ·obtain ⟨r,e,h⟩:=h.ex
   show K _
   rw[e];exact h
  ·exact h
 ·exact h.elim
noncomputable def c14n:Con:=aJ 18 true fun args K=>match args with
 | [.str a,.str b]=>Alt (Has (fun r=>divQ a b=(r,0)) fun r=>K (.tup [S r,I 0])) (K (.tup [S (divQ a b).1,I (divQ a b).2]))
 | _=>False
theorem k14n:aF Tryz.prog c14n:=iB k14 rfl rfl rfl fun args K h=>by
 simp only[c14n] at h
 split at h
 ·rcases h.or with h | h
  ·obtain ⟨r,e,h⟩:=h.ex
   show K _
   rw[e];exact h
  ·exact h
 ·exact h.elim
theorem ixAt {n:Int} {C:Nat→Prop} (j:Nat) (e:n=j) (h:C j):Ix n C:=⟨fun i h'=>by
 have:j=i:=by omega
 subst this;exact h⟩
theorem b2028 (l:List (List UInt8)):body Tryz.prog [c21,c38] { asks:=[(0,[])] } true Tryz.f28 [.seq .str l] (I (ckS l)):=by
 by_cases hl:4096<l.length
 ·rw[show ckS l=4 from if_pos hl]
  (repeat'((conv=>whnf);first|refine Zg fun _=>?_|refine Zy ?_|fail))
  (conv=>whnf)
  (repeat'(first|rfl|refine And.intro ?_ ?_|fail))
 ·rw[show ckS l=ckF l from if_neg hl]
  (repeat'((conv=>whnf);first|refine Zg fun _=>?_|refine Zm ?_|fail))
  refine Ask.mk ⟨{ X:=Nat,pre:=fun i=>i≤l.length∧ckAt l i=ckF l,mod:=fun i _=>[(13,I i)],heap:=fun i H=>H,mu:=fun i=>l.length-i },rfl,?_⟩
  (repeat'((conv=>whnf);first|refine Zn ?_|fail))
  refine ⟨⟨(0:Nat),⟨Nat.zero_le _,rfl⟩,?_⟩,fun (i:Nat) hi=>?_⟩
  ·(repeat'(first|exact trivial|rfl|refine And.intro ?_ ?_|fail))
  obtain ⟨hi,hc⟩:=hi
  by_cases hlt:i<l.length
  ·by_cases hk:chkQ (l.getD i [])=0
   ·rcases i with _ | i
    ·(repeat'((conv=>whnf);first|refine Zn ?_|refine Z0 ?_|refine Zy ?_|refine Zm ?_|fail))
     refine ⟨(1:Nat),by show l.length-1<l.length-0;omega,⟨hlt,(aEx hlt hk).trans hc⟩,?_⟩
     (repeat'(first|exact trivial|rfl|refine And.intro ?_ ?_|fail))
    ·(repeat'((conv=>whnf);first|refine Zn ?_|refine Zj ?_|refine Zy ?_|refine Zm ?_|fail))
     refine ixAt i (by omega) ?_
     by_cases h2:(cmpQ (l.getD i []) (l.getD (i+1) [])).2=0
     ·by_cases h3:0≤(cmpQ (l.getD i []) (l.getD (i+1) [])).1
      ·rw[← hc,aEw hlt hk h2 h3]
       (repeat'((conv=>whnf);first|refine Zy ?_|refine Zm ?_|fail))
       (conv=>whnf)
       (repeat'(first|rfl|refine And.intro ?_ ?_|fail))
      ·(repeat'((conv=>whnf);first|refine Zn ?_|refine Zm ?_|fail))
       refine ⟨(i+2:Nat),by show l.length-(i+2)<l.length-(i+1);omega,⟨hlt,(aIk hlt hk h2 h3).trans hc⟩,?_⟩
       (repeat'(first|exact trivial|rfl|refine And.intro ?_ ?_|fail))
     ·rw[← hc,aEv hlt hk h2]
      (repeat'((conv=>whnf);first|refine Zy ?_|fail))
      (conv=>whnf)
      (repeat'(first|rfl|refine And.intro ?_ ?_|fail))
   ·rw[← hc,aEu hlt hk]
    (repeat'((conv=>whnf);first|refine Zn ?_|refine Zj ?_|refine Zy ?_|fail))
    (conv=>whnf)
    (repeat'(first|rfl|refine And.intro ?_ ?_|fail))
  ·have e:i=l.length:=by omega
   subst e
   rw[← hc,aEt]
   (repeat'((conv=>whnf);first|refine Zm ?_|fail))
   (conv=>whnf)
   (repeat'(first|rfl|refine And.intro ?_ ?_|fail))
def pQ:Con:=aJ 28 true fun args K=>match args with | [.seq .str l]=>K (I (ckS l)) | _=>False
theorem aJf:aF Tryz.prog pQ:=by
 refine aC rfl (enters_of Tryz.func28 (by kernel_rfl) rfl) ?_
 intro args K h
 simp only[pQ] at h
 split at h
 ·rename_i l;exact ⟨_,h,aA (Γ:=[c21,c38]) (by simp[k21,k38]) Tryz.func28 (by simp[Tryz.ntmps28]) rfl (b2028 l)⟩
 ·exact h.elim
theorem b2029 (l:List (List UInt8)):body Tryz.prog [c44,c43] { asks:=[(0,[])] } true Tryz.f29 [.seq .str l] (I (ckS l)):=by
 by_cases hl:4096<l.length
 ·rw[show ckS l=4 from if_pos hl]
  (repeat'((conv=>whnf);first|refine Zg fun _=>?_|refine Zy ?_|fail))
  (conv=>whnf)
  (repeat'(first|rfl|refine And.intro ?_ ?_|fail))
 ·rw[show ckS l=ckF l from if_neg hl]
  (repeat'((conv=>whnf);first|refine Zg fun _=>?_|refine Zm ?_|fail))
  refine Ask.mk ⟨{ X:=Nat,pre:=fun i=>i≤l.length∧ckAt l i=ckF l,mod:=fun i _=>[(3,I i)],heap:=fun i H=>H,mu:=fun i=>l.length-i },rfl,?_⟩
  (repeat'((conv=>whnf);first|refine Zn ?_|fail))
  refine ⟨⟨(0:Nat),⟨Nat.zero_le _,rfl⟩,?_⟩,fun (i:Nat) hi=>?_⟩
  ·(repeat'(first|exact trivial|rfl|refine And.intro ?_ ?_|fail))
  obtain ⟨hi,hc⟩:=hi
  by_cases hlt:i<l.length
  ·by_cases hk:chkQ (l.getD i [])=0
   ·rcases i with _ | i
    ·(repeat'((conv=>whnf);first|refine Zg fun _=>?_|refine Zn ?_|refine Z0 ?_|refine Zy ?_|refine Zm ?_|fail))
     refine ⟨(1:Nat),by show l.length-1<l.length-0;omega,⟨hlt,(aEx hlt hk).trans hc⟩,?_⟩
     (repeat'(first|exact trivial|rfl|refine And.intro ?_ ?_|fail))
    ·(repeat'((conv=>whnf);first|refine Zg fun _=>?_|refine Zn ?_|refine Zj ?_|(apply Pin.mk;apply Exists.intro)|apply Pinned.mk rfl rfl|refine Zy ?_|refine Zm ?_|fail))
     refine ixAt i (by omega) ?_
     by_cases h2:(cmpQ (l.getD i []) (l.getD (i+1) [])).2=0
     ·by_cases h3:0≤(cmpQ (l.getD i []) (l.getD (i+1) [])).1
      ·rw[← hc,aEw hlt hk h2 h3]
       (repeat'((conv=>whnf);first|refine Zn ?_|refine Zj ?_|(apply Pin.mk;apply Exists.intro)|apply Pinned.mk rfl rfl|refine Zy ?_|refine Zm ?_|fail))
       (conv=>whnf)
       (repeat'(first|rfl|refine And.intro ?_ ?_|fail))
      ·(repeat'((conv=>whnf);first|refine Zn ?_|refine Zj ?_|(apply Pin.mk;apply Exists.intro)|apply Pinned.mk rfl rfl|refine Zm ?_|fail))
       refine ⟨(i+2:Nat),by show l.length-(i+2)<l.length-(i+1);omega,⟨hlt,(aIk hlt hk h2 h3).trans hc⟩,?_⟩
       (repeat'(first|exact trivial|rfl|refine And.intro ?_ ?_|fail))
     ·rw[← hc,aEv hlt hk h2]
      (repeat'((conv=>whnf);first|refine Zn ?_|refine Zj ?_|(apply Pin.mk;apply Exists.intro)|apply Pinned.mk rfl rfl|refine Zy ?_|fail))
      (conv=>whnf)
      (repeat'(first|rfl|refine And.intro ?_ ?_|fail))
   ·rw[← hc,aEu hlt hk]
    (repeat'((conv=>whnf);first|refine Zg fun _=>?_|refine Zn ?_|refine Zj ?_|refine Zy ?_|fail))
    (conv=>whnf)
    (repeat'(first|rfl|refine And.intro ?_ ?_|fail))
  ·have e:i=l.length:=by omega
   subst e
   rw[← hc,aEt]
   (repeat'((conv=>whnf);first|refine Zg fun _=>?_|refine Zm ?_|fail))
   (conv=>whnf)
   (repeat'(first|rfl|refine And.intro ?_ ?_|fail))
def pR:Con:=aJ 29 true fun args K=>match args with | [.seq .str l]=>K (I (ckS l)) | _=>False
theorem aJg:aF Tryz.prog pR:=by
 refine aC rfl (enters_of Tryz.func29 (by kernel_rfl) rfl) ?_
 intro args K h
 simp only[pR] at h
 split at h
 ·rename_i l;exact ⟨_,h,aA (Γ:=[c44,c43]) (by simp[k44,k43]) Tryz.func29 (by simp[Tryz.ntmps29]) rfl (b2029 l)⟩
 ·exact h.elim
theorem b2062 (a b:List UInt8):body Tryz.prog [c38] {} true Tryz.f62 [.agg [S a,S b]] (.bl (rgP a b) inferInstance):=by
 unfold rgP
 by_cases h1:(cmpQ a b).2=0
 ·(repeat'((conv=>whnf);first|refine Zy ?_|fail))
  (conv=>whnf)
  exact ⟨fun h=>⟨h1,h⟩,fun h=>h.2⟩
 ·(repeat'((conv=>whnf);first|refine Zm ?_|fail))
  (conv=>whnf)
  exact fun h=>h1 h.1
def uF:Con:=aJ 62 true fun args K=>match args with | [.agg [.str a,.str b]]=>K (.bl (rgP a b) inferInstance) | _=>False
theorem aNt:aF Tryz.prog uF:=by
 refine aC rfl (enters_of Tryz.func62 (by kernel_rfl) rfl) ?_
 intro args K h
 simp only[uF] at h
 split at h
 ·rename_i a b;exact ⟨_,h,aA (Γ:=[c38]) (by simp[k38]) Tryz.func62 (by simp[Tryz.ntmps62]) rfl (b2062 a b)⟩
 ·exact h.elim
noncomputable def ordQ (a b:List UInt8):Int:=if (cmpQ a b).2=0 then (cmpQ a b).1 else -2
theorem aLb (a b:Int):cmpI a b= -1∨cmpI a b=0∨cmpI a b=1:=by unfold cmpI;split;exact .inl rfl;split;exact .inr (.inl rfl);exact .inr (.inr rfl)
theorem aLc (a b:List UInt8):(cmpQ a b).1= -1∨(cmpQ a b).1=0∨(cmpQ a b).1=1:=by
 unfold cmpQ
 split
 ·exact .inr (.inl rfl)
 split
 ·exact .inr (.inl rfl)
 unfold cmpf
 split
 ·exact .inr (.inl rfl)
 ·exact aLb _ _
theorem aPt (a b:List UInt8):(ordQ a b= -1∨ordQ a b=0)↔rgP a b:=by
 have h:=aLc a b
 unfold ordQ rgP
 split
 ·rename_i h1
  constructor
  ·intro h2;exact ⟨h1,by omega⟩
  ·intro h2;omega
 ·rename_i h1
  constructor
  ·intro h2;omega
  ·intro h2;exact absurd h2.1 h1
theorem b2091 (a b:List UInt8):body Tryz.prog [c43] {} true Tryz.f91 [S a,S b] (I (ordQ a b)):=by
 unfold ordQ
 by_cases h:(cmpQ a b).2=0
 ·rw[if_pos h]
  (repeat'((conv=>whnf);first|refine Zm ?_|fail))
  (conv=>whnf)
  (repeat'(first|rfl|refine And.intro ?_ ?_|fail))
 ·rw[if_neg h]
  (repeat'((conv=>whnf);first|refine Zy ?_|fail))
  (conv=>whnf)
  (repeat'(first|rfl|refine And.intro ?_ ?_|fail))
def aJh:Con:=aJ 91 true fun args K=>match args with | [.str a,.str b]=>K (I (ordQ a b)) | _=>False
theorem k2091:aF Tryz.prog aJh:=by
 refine aC rfl (enters_of Tryz.func91 (by kernel_rfl) rfl) ?_
 intro args K h
 simp only[aJh] at h
 split at h
 ·rename_i a b;exact ⟨_,h,aA (Γ:=[c43]) (by simp[k43]) Tryz.func91 (by simp[Tryz.ntmps91]) rfl (b2091 a b)⟩
 ·exact h.elim
theorem b2089 (a b:List UInt8):body Tryz.prog [aJh] {} true Tryz.f89 [.agg [S a,S b]] (.bl (rgP a b) inferInstance):=by
 have h:=aPt a b
 by_cases h1:ordQ a b= -1
 ·(repeat'((conv=>whnf);first|refine Zy ?_|fail))
  (conv=>whnf)
  exact h.1 (.inl h1)
 ·(repeat'((conv=>whnf);first|refine Zm ?_|fail))
  (conv=>whnf)
  exact ⟨fun h2=>h.1 (.inr h2),fun h2=>(h.2 h2).resolve_left h1⟩
def aJi:Con:=aJ 89 true fun args K=>match args with | [.agg [.str a,.str b]]=>K (.bl (rgP a b) inferInstance) | _=>False
theorem k2089:aF Tryz.prog aJi:=by
 refine aC rfl (enters_of Tryz.func89 (by kernel_rfl) rfl) ?_
 intro args K h
 simp only[aJi] at h
 split at h
 ·rename_i a b;exact ⟨_,h,aA (Γ:=[aJh]) (by simp[k2091]) Tryz.func89 (by simp[Tryz.ntmps89]) rfl (b2089 a b)⟩
 ·exact h.elim
theorem b2090 (a:List UInt8):body Tryz.prog [c44] {} true Tryz.f90 [S a] (.bl (chkQ a=0) inferInstance):=by
 skip
 (conv=>whnf)
 skip
def aJj:Con:=aJ 90 true fun args K=>match args with | [.str a]=>K (.bl (chkQ a=0) inferInstance) | _=>False
theorem k2090:aF Tryz.prog aJj:=by
 refine aC rfl (enters_of Tryz.func90 (by kernel_rfl) rfl) ?_
 intro args K h
 simp only[aJj] at h
 split at h
 ·rename_i a;exact ⟨_,h,aA (Γ:=[c44]) (by simp[k44]) Tryz.func90 (by simp[Tryz.ntmps90]) rfl (b2090 a)⟩
 ·exact h.elim
set_option exponentiation.threshold 400 in
theorem cmp0 {a:List UInt8} (h:chkQ a=0):cmpQ a [48]=(cmpR (valQ a) 0,0):=by
 obtain ⟨e,h1,h2⟩:=rI h
 have z:Sz 300 (valQ a):=by
  refine ⟨fH (Nat.le_trans (Nat.le_of_eq ?_) h1),?_⟩
  ·rw[← bR,← fM,← e]
  ·have:(valQ a).den<10^300∨(valQ a).den=1:=by
    by_cases hd:(valQ a).den=1
    ·exact .inr hd
    ·refine .inl (fH (Nat.le_trans (Nat.le_of_eq ?_) h2))
     conv=>rhs;rw[e,iZ,if_neg hd]
     rfl
   rcases this with h | h
   ·exact h
   ·rw[h];exact Nat.one_lt_pow (by decide) (by decide)
 have e0:=numS0
 conv=>lhs;rw[e,← e0]
 have p1:(1:Nat)<10^300:=Nat.one_lt_pow (by decide) (by decide)
 refine aM2 (k:=300) ⟨by decide,by decide⟩ z ⟨Nat.lt_trans Nat.zero_lt_one p1,p1⟩ ?_ ?_
 ·rw[show (0:Rat).den=1 from rfl,Nat.mul_one];exact z.1
 ·rw[show (0:Rat).num.natAbs=0 from rfl,Nat.zero_mul];exact Nat.lt_trans Nat.zero_lt_one p1
theorem b2064 (a:List UInt8):body Tryz.prog [c38] {} true Tryz.f64 [S a] (.bl ((cmpQ a [48]).2=0∧0<(cmpQ a [48]).1) inferInstance):=by
 by_cases h1:(cmpQ a [48]).2=0
 ·(repeat'((conv=>whnf);first|refine Zy ?_|fail))
  (conv=>whnf)
  exact ⟨fun h=>⟨h1,h⟩,fun h=>h.2⟩
 ·(repeat'((conv=>whnf);first|refine Zm ?_|fail))
  (conv=>whnf)
  exact fun h=>h1 h.1
def aAx:Con:=aJ 64 true fun args K=>match args with | [.str a]=>K (.bl ((cmpQ a [48]).2=0∧0<(cmpQ a [48]).1) inferInstance) | _=>False
theorem aQp:aF Tryz.prog aAx:=by
 refine aC rfl (enters_of Tryz.func64 (by kernel_rfl) rfl) ?_
 intro args K h
 simp only[aAx] at h
 split at h
 ·rename_i a;exact ⟨_,h,aA (Γ:=[c38]) (by simp[k38]) Tryz.func64 (by simp[Tryz.ntmps64]) rfl (b2064 a)⟩
 ·exact h.elim
theorem aFm (l:List (List UInt8)) (i:Nat):(gapN l i).length=i:=by unfold gapN;rw[List.length_map,List.length_range]
theorem b2034 (l:List (List UInt8)):body Tryz.prog [pQ,c20] { asks:=[(0,[1])] } true Tryz.f34 [.seq .str l] (.tup [.seq .str (gpS l).1,I (gpS l).2]):=by
 by_cases hc:ckS l=0
 ·have e0:gpS l=gpG l (l.length-1) 0:=if_neg fun h=>h hc
  (repeat'((conv=>whnf);first|refine Zm ?_|fail))
  refine Ask.mk ⟨{ X:=Nat,pre:=fun i=>(i+1≤l.length∨i=0)∧gpG l (l.length-1-i) i=gpS l,mod:=fun i _=>[(4,.ref 1 1),(5,I ((i:Int)+1))],heap:=fun i H=>[hget H 0,.vec 1 .str (gapN l i) 22],mu:=fun i=>l.length-i,objs:=[1] },rfl,?_⟩
  (repeat'((conv=>whnf);first|refine Zn ?_|fail))
  refine ⟨⟨(0:Nat),⟨.inr rfl,e0.symm⟩,?_⟩,fun (i:Nat) hi=>?_⟩
  ·(repeat'(first|exact trivial|rfl|exact Nat.one_pos|refine And.intro ?_ ?_|fail))
  obtain ⟨hi,hg⟩:=hi
  have hn:=aFm l i
  have hl4:=(hZ hc).1
  by_cases hlt:i+1<l.length
  ·(repeat'((conv=>whnf);first|refine Zg fun _=>?_|refine Zn ?_|refine Zj ?_|(apply Pin.mk;apply Exists.intro)|apply Pinned.mk rfl rfl|refine Zy ?_|fail))
   refine ixAt i (by omega) ?_
   by_cases hk:(subQ (l.getD (i+1) []) (l.getD i [])).2=0
   ·(repeat'((conv=>whnf);first|refine Zn ?_|(apply Pin.mk;apply Exists.intro)|apply Pinned.mk rfl rfl|refine Zl ?_|refine Zm ?_|fail))
    refine ⟨(i+1:Nat),by show l.length-(i+1)<l.length-i;omega,⟨.inl hlt,(aE2 hlt hk).symm.trans hg⟩,?_⟩
    (repeat'(first|exact trivial|rfl|exact Nat.one_pos|refine And.intro ?_ ?_|fail))
    exact (aAg l i).symm
   ·rw[← hg,aIo hlt hk]
    (repeat'((conv=>whnf);first|(apply Pin.mk;apply Exists.intro)|apply Pinned.mk rfl rfl|refine Zy ?_|fail))
    (conv=>whnf)
    (repeat'(first|exact trivial|rfl|refine And.intro ?_ ?_|fail))
  ·rw[← hg,aIp (by omega)]
   (repeat'((conv=>whnf);first|refine Zg fun _=>?_|refine Zm ?_|fail))
   (conv=>whnf)
   (repeat'(first|exact trivial|rfl|refine And.intro ?_ ?_|fail))
 ·rw[show gpS l=([],1) from if_pos hc]
  (repeat'((conv=>whnf);first|refine Zy ?_|fail))
  (conv=>whnf)
  (repeat'(first|exact trivial|rfl|refine And.intro ?_ ?_|fail))
def aJk:Con:=aJ 34 true fun args K=>match args with | [.seq .str l]=>K (.tup [.seq .str (gpS l).1,I (gpS l).2]) | _=>False
theorem k2034:aF Tryz.prog aJk:=by
 refine aC rfl (enters_of Tryz.func34 (by kernel_rfl) rfl) ?_
 intro args K h
 simp only[aJk] at h
 split at h
 ·rename_i l;exact ⟨_,h,aA (Γ:=[pQ,c20]) (by simp[aJf,k20]) Tryz.func34 (by simp[Tryz.ntmps34]) rfl (b2034 l)⟩
 ·exact h.elim
theorem b2050 (l:List (List UInt8)):body Tryz.prog [pR,c40] { asks:=[(0,[1])] } true Tryz.f50 [.seq .str l] (.tup [.seq .str (gpS l).1,I (gpS l).2]):=by
 by_cases hc:ckS l=0
 ·have e0:gpS l=gpG l (l.length-1) 0:=if_neg fun h=>h hc
  (repeat'((conv=>whnf);first|refine Zm ?_|fail))
  refine Ask.mk ⟨{ X:=Nat,pre:=fun i=>(i+1≤l.length∨i=0)∧gpG l (l.length-1-i) i=gpS l,mod:=fun i _=>[(4,.ref 1 1),(5,I ((i:Int)+1))],heap:=fun i H=>[hget H 0,.vec 1 .str (gapN l i) 22],mu:=fun i=>l.length-i,objs:=[1] },rfl,?_⟩
  (repeat'((conv=>whnf);first|refine Zn ?_|fail))
  refine ⟨⟨(0:Nat),⟨.inr rfl,e0.symm⟩,?_⟩,fun (i:Nat) hi=>?_⟩
  ·(repeat'(first|exact trivial|rfl|exact Nat.one_pos|refine And.intro ?_ ?_|fail))
  obtain ⟨hi,hg⟩:=hi
  have hn:=aFm l i
  have hl4:=(hZ hc).1
  by_cases hlt:i+1<l.length
  ·(repeat'((conv=>whnf);first|refine Zg fun _=>?_|refine Zn ?_|refine Zj ?_|(apply Pin.mk;apply Exists.intro)|apply Pinned.mk rfl rfl|refine Zy ?_|fail))
   refine ixAt i (by omega) ?_
   by_cases hk:(subQ (l.getD (i+1) []) (l.getD i [])).2=0
   ·(repeat'((conv=>whnf);first|refine Zn ?_|(apply Pin.mk;apply Exists.intro)|apply Pinned.mk rfl rfl|refine Zl ?_|refine Zm ?_|fail))
    refine ⟨(i+1:Nat),by show l.length-(i+1)<l.length-i;omega,⟨.inl hlt,(aE2 hlt hk).symm.trans hg⟩,?_⟩
    (repeat'(first|exact trivial|rfl|exact Nat.one_pos|refine And.intro ?_ ?_|fail))
    exact (aAg l i).symm
   ·rw[← hg,aIo hlt hk]
    (repeat'((conv=>whnf);first|(apply Pin.mk;apply Exists.intro)|apply Pinned.mk rfl rfl|refine Zy ?_|fail))
    (conv=>whnf)
    (repeat'(first|exact trivial|rfl|refine And.intro ?_ ?_|fail))
  ·rw[← hg,aIp (by omega)]
   (repeat'((conv=>whnf);first|refine Zg fun _=>?_|refine Zm ?_|fail))
   (conv=>whnf)
   (repeat'(first|exact trivial|rfl|refine And.intro ?_ ?_|fail))
 ·rw[show gpS l=([],1) from if_pos hc]
  (repeat'((conv=>whnf);first|refine Zy ?_|fail))
  (conv=>whnf)
  (repeat'(first|exact trivial|rfl|refine And.intro ?_ ?_|fail))
def aJl:Con:=aJ 50 true fun args K=>match args with | [.seq .str l]=>K (.tup [.seq .str (gpS l).1,I (gpS l).2]) | _=>False
theorem k2050:aF Tryz.prog aJl:=by
 refine aC rfl (enters_of Tryz.func50 (by kernel_rfl) rfl) ?_
 intro args K h
 simp only[aJl] at h
 split at h
 ·rename_i l;exact ⟨_,h,aA (Γ:=[pR,c40]) (by simp[aJg,k40]) Tryz.func50 (by simp[Tryz.ntmps50]) rfl (b2050 l)⟩
 ·exact h.elim
theorem b2100 (a b:List UInt8):body Tryz.prog [c20] {} true Tryz.f100 [S a,S b] (.tup [S (dsS a b).1,I (dsS a b).2]):=by
 unfold dsS
 by_cases h:(subQ a b).2=0
 ·have hl:=aE3 h
  by_cases h2:aK (subQ a b).1 0=45
  ·rw[if_pos ⟨h,h2⟩]
   (repeat'((conv=>whnf);first|refine Zg fun _=>?_|refine Zn ?_|refine Z0 ?_|refine Z1 ?_|refine Zy ?_|fail))
   (conv=>whnf)
   (repeat'(first|exact trivial|rfl|refine And.intro ?_ ?_|fail))
   exact h
  ·rw[if_neg (fun h'=>h2 h'.2)]
   (repeat'((conv=>whnf);first|refine Zg fun _=>?_|refine Zn ?_|refine Z0 ?_|refine Zy ?_|refine Zm ?_|fail))
   (conv=>whnf)
   (repeat'(first|exact trivial|rfl|refine And.intro ?_ ?_|fail))
 ·rw[if_neg (fun h'=>h h'.1)]
  (repeat'((conv=>whnf);first|refine Zm ?_|fail))
  (conv=>whnf)
  (repeat'(first|exact trivial|rfl|refine And.intro ?_ ?_|fail))
def aJm:Con:=aJ 100 true fun args K=>match args with | [.str a,.str b]=>K (.tup [S (dsS a b).1,I (dsS a b).2]) | _=>False
theorem k2100:aF Tryz.prog aJm:=by
 refine aC rfl (enters_of Tryz.func100 (by kernel_rfl) rfl) ?_
 intro args K h
 simp only[aJm] at h
 split at h
 ·rename_i a b;exact ⟨_,h,aA (Γ:=[c20]) (by simp[k20]) Tryz.func100 (by simp[Tryz.ntmps100]) rfl (b2100 a b)⟩
 ·exact h.elim
theorem b2108 (a b:List UInt8):body Tryz.prog [c40] {} true Tryz.f108 [S a,S b] (.tup [S (dsS a b).1,I (dsS a b).2]):=by
 unfold dsS
 by_cases h:(subQ a b).2=0
 ·have hl:=aE3 h
  by_cases h2:aK (subQ a b).1 0=45
  ·rw[if_pos ⟨h,h2⟩]
   (repeat'((conv=>whnf);first|refine Zg fun _=>?_|refine Zn ?_|refine Z0 ?_|refine Z1 ?_|refine Zy ?_|fail))
   (conv=>whnf)
   (repeat'(first|exact trivial|rfl|refine And.intro ?_ ?_|fail))
   exact h
  ·rw[if_neg (fun h'=>h2 h'.2)]
   (repeat'((conv=>whnf);first|refine Zg fun _=>?_|refine Zn ?_|refine Z0 ?_|refine Zy ?_|refine Zm ?_|fail))
   (conv=>whnf)
   (repeat'(first|exact trivial|rfl|refine And.intro ?_ ?_|fail))
 ·rw[if_neg (fun h'=>h h'.1)]
  (repeat'((conv=>whnf);first|refine Zm ?_|fail))
  (conv=>whnf)
  (repeat'(first|exact trivial|rfl|refine And.intro ?_ ?_|fail))
def aJn:Con:=aJ 108 true fun args K=>match args with | [.str a,.str b]=>K (.tup [S (dsS a b).1,I (dsS a b).2]) | _=>False
theorem k2108:aF Tryz.prog aJn:=by
 refine aC rfl (enters_of Tryz.func108 (by kernel_rfl) rfl) ?_
 intro args K h
 simp only[aJn] at h
 split at h
 ·rename_i a b;exact ⟨_,h,aA (Γ:=[c40]) (by simp[k40]) Tryz.func108 (by simp[Tryz.ntmps108]) rfl (b2108 a b)⟩
 ·exact h.elim
theorem b2032 (l:List (List UInt8)) (t:List UInt8) (hP:Lm l∧(chkQ t=0→t.length≤82)):body Tryz.prog [pQ,c21,aJm,c38] { asks:=[(0,[])] } true Tryz.f32 [.seq .str l,S t] (.tup [I (nrS l t).1,I (nrS l t).2]):=by
 obtain ⟨hL,hT⟩:=hP
 by_cases hc:ckS l=0
 ·by_cases ht:chkQ t=0
  ·by_cases h0:l.length=0
   ·rw[show nrS l t=(0,5) by unfold nrS;rw[if_neg (by rintro (h | h);exact h hc;exact h ht),if_pos h0]]
    (repeat'((conv=>whnf);first|refine Zg fun _=>?_|refine Zy ?_|refine Zm ?_|fail))
    (conv=>whnf)
    (repeat'(first|exact trivial|rfl|refine And.intro ?_ ?_|fail))
   ·have hp:0<l.length:=by omega
    have hall:=rC (hZ hc).2
    have hk:=hall _ (fL (d:=[]) hp)
    obtain ⟨hd,hs⟩:=aO1 hk (hL.at hp hk) ht (hT ht)
    have e0:nrS l t=nrG l t 0 (dsS (l.getD 0 []) t).1 (l.length-1) 1:=by unfold nrS;rw[if_neg (by rintro (h | h);exact h hc;exact h ht),if_neg h0,if_neg (fun h=>h hd)]
    have e1:nrS l t=nrG l t 0 (dsS (l.getD 0 []) t).1 (l.length-0) 0:=by
     rw[e0,xF hp hd (by rw[hs]) (by rw[hs];decide)]
    (repeat'((conv=>whnf);first|refine Zg fun _=>?_|refine Zn ?_|refine Z0 ?_|refine Zm ?_|fail))
    refine Ask.mk ⟨{ X:=Nat × Nat × List UInt8,pre:=fun x=>x.1≤l.length∧x.2.1≤x.1∧nrG l t x.2.1 x.2.2 (l.length-x.1) x.1=nrS l t,mod:=fun x _=>[(6,I x.2.1),(7,S x.2.2),(38,I x.1)],heap:=fun i H=>H,mu:=fun x=>l.length-x.1 },rfl,?_⟩
    (repeat'((conv=>whnf);first|refine Zn ?_|fail))
    refine ⟨⟨((0:Nat),(0:Nat),(dsS (l.getD 0 []) t).1),⟨Nat.zero_le _,Nat.le_refl _,e1.symm⟩,?_⟩,fun (x:Nat × Nat × List UInt8) hi=>?_⟩
    ·(repeat'(first|exact trivial|rfl|refine And.intro ?_ ?_|fail))
    obtain ⟨hi,hb,hg⟩:=hi
    by_cases hlt:x.1<l.length
    ·by_cases hd:(dsS (l.getD x.1 []) t).2=0
     ·by_cases h2:(cmpQ (dsS (l.getD x.1 []) t).1 x.2.2).2=0
      ·by_cases h3:(cmpQ (dsS (l.getD x.1 []) t).1 x.2.2).1<0
       ·(repeat'((conv=>whnf);first|refine Zn ?_|refine Zj ?_|refine Zy ?_|refine Zm ?_|fail))
        refine ⟨((x.1+1:Nat),(x.1:Nat),(dsS (l.getD x.1 []) t).1),by show l.length-(x.1+1)<l.length-x.1;omega,⟨hlt,Nat.le_succ _,(aE4 hlt hd h2 h3).symm.trans hg⟩,?_⟩
        (repeat'(first|exact trivial|rfl|refine And.intro ?_ ?_|fail))
       ·(repeat'((conv=>whnf);first|refine Zn ?_|refine Zj ?_|refine Zy ?_|refine Zm ?_|fail))
        refine ⟨((x.1+1:Nat),(x.2.1:Nat),x.2.2),by show l.length-(x.1+1)<l.length-x.1;omega,⟨hlt,Nat.le_succ_of_le hb,(xF hlt hd h2 h3).symm.trans hg⟩,?_⟩
        (repeat'(first|exact trivial|rfl|refine And.intro ?_ ?_|fail))
      ·rw[← hg,aIr hlt hd h2]
       (repeat'((conv=>whnf);first|refine Zn ?_|refine Zj ?_|refine Zy ?_|refine Zm ?_|fail))
       (conv=>whnf)
       (repeat'(first|exact trivial|rfl|refine And.intro ?_ ?_|fail))
     ·rw[← hg,aIq hlt hd]
      (repeat'((conv=>whnf);first|refine Zn ?_|refine Zj ?_|refine Zy ?_|fail))
      (conv=>whnf)
      (repeat'(first|exact trivial|rfl|refine And.intro ?_ ?_|fail))
    ·have e:x.1=l.length:=by omega
     rw[e,aIs] at hg
     rw[← hg]
     (repeat'((conv=>whnf);first|refine Zm ?_|fail))
     (conv=>whnf)
     (repeat'(first|exact trivial|rfl|refine And.intro ?_ ?_|fail))
  ·rw[show nrS l t=(0,1) from if_pos (.inr ht)]
   (repeat'((conv=>whnf);first|refine Zy ?_|refine Zm ?_|fail))
   (conv=>whnf)
   (repeat'(first|exact trivial|rfl|refine And.intro ?_ ?_|fail))
 ·rw[show nrS l t=(0,1) from if_pos (.inl hc)]
  (repeat'((conv=>whnf);first|refine Zy ?_|fail))
  (conv=>whnf)
  (repeat'(first|exact trivial|rfl|refine And.intro ?_ ?_|fail))
def aJo:Con:=aJ 32 true fun args K=>match args with | [.seq .str l,.str t]=>Need (Lm l∧(chkQ t=0→t.length≤82)) (K (.tup [I (nrS l t).1,I (nrS l t).2])) | _=>False
theorem k2032:aF Tryz.prog aJo:=by
 refine aC rfl (enters_of Tryz.func32 (by kernel_rfl) rfl) ?_
 intro args K h
 simp only[aJo] at h
 split at h
 ·rename_i l t;exact ⟨_,h.go,aA (Γ:=[pQ,c21,aJm,c38]) (by simp[aJf,k21,k2100,k38]) Tryz.func32 (by simp[Tryz.ntmps32]) rfl (b2032 l t h.ok)⟩
 ·exact h.elim
theorem b2051 (l:List (List UInt8)) (t:List UInt8):body Tryz.prog [pR,aJj,aJn,c43] { asks:=[(0,[])] } true Tryz.f51 [.seq .str l,S t] (.tup [I (nrS l t).1,I (nrS l t).2]):=by
 by_cases hc:ckS l=0
 ·by_cases ht:chkQ t=0
  ·by_cases h0:l.length=0
   ·rw[show nrS l t=(0,5) by unfold nrS;rw[if_neg (by rintro (h | h);exact h hc;exact h ht),if_pos h0]]
    (repeat'((conv=>whnf);first|refine Zg fun _=>?_|refine Zy ?_|refine Zm ?_|fail))
    (conv=>whnf)
    (repeat'(first|exact trivial|rfl|refine And.intro ?_ ?_|fail))
   ·have hp:0<l.length:=by omega
    (repeat'((conv=>whnf);first|refine Zg fun _=>?_|refine Zm ?_|fail))
    refine Ask.mk ⟨{ X:=Nat × Nat × List UInt8,pre:=fun x=>x.1≤l.length∧x.2.1≤x.1∧(x.1=0→x.2.1=0)∧(0<x.1→nrG l t x.2.1 x.2.2 (l.length-x.1) x.1=nrS l t),mod:=fun x _=>[(6,I x.2.1),(7,S x.2.2),(8,I x.1)],heap:=fun i H=>H,mu:=fun x=>l.length-x.1 },rfl,?_⟩
    (repeat'((conv=>whnf);first|refine Zn ?_|fail))
    refine ⟨⟨((0:Nat),(0:Nat),[]),⟨Nat.zero_le _,Nat.le_refl _,fun _=>rfl,fun h=>absurd h (by decide)⟩,?_⟩,fun (x:Nat × Nat × List UInt8) hi=>?_⟩
    ·(repeat'(first|exact trivial|rfl|refine And.intro ?_ ?_|fail))
    obtain ⟨hi,hb,hz,hg⟩:=hi
    by_cases hlt:x.1<l.length
    ·by_cases hd:(dsS (l.getD x.1 []) t).2=0
     ·by_cases h01:x.1=0
      ·have hb0:=hz h01
       have e0:nrS l t=nrG l t 0 (dsS (l.getD x.1 []) t).1 (l.length-1) 1:=by rw[h01] at hd ⊢;unfold nrS;rw[if_neg (by rintro (h | h);exact h hc;exact h ht),if_neg h0,if_neg (fun h=>h hd)]
       (repeat'((conv=>whnf);first|refine Zg fun _=>?_|refine Zn ?_|refine Zj ?_|refine Zy ?_|refine Zm ?_|fail))
       refine ⟨((x.1+1:Nat),(x.2.1:Nat),(dsS (l.getD x.1 []) t).1),by show l.length-(x.1+1)<l.length-x.1;omega,⟨hlt,Nat.le_succ_of_le hb,fun h=>absurd h (by omega),fun _=>by rw[e0,hb0,h01];rfl⟩,?_⟩
       (repeat'(first|exact trivial|rfl|refine And.intro ?_ ?_|fail))
      ·have hg:=hg (by omega)
       by_cases h2:(cmpQ (dsS (l.getD x.1 []) t).1 x.2.2).2=0
       ·by_cases h3:(cmpQ (dsS (l.getD x.1 []) t).1 x.2.2).1<0
        ·(repeat'((conv=>whnf);first|refine Zg fun _=>?_|refine Zn ?_|refine Zj ?_|refine Zy ?_|refine Zm ?_|fail))
         refine ⟨((x.1+1:Nat),(x.1:Nat),(dsS (l.getD x.1 []) t).1),by show l.length-(x.1+1)<l.length-x.1;omega,⟨hlt,Nat.le_succ _,fun h=>absurd h (by omega),fun _=>(aE4 hlt hd h2 h3).symm.trans hg⟩,?_⟩
         (repeat'(first|exact trivial|rfl|refine And.intro ?_ ?_|fail))
        ·(repeat'((conv=>whnf);first|refine Zg fun _=>?_|refine Zn ?_|refine Zj ?_|refine Zy ?_|refine Zm ?_|fail))
         refine ⟨((x.1+1:Nat),(x.2.1:Nat),x.2.2),by show l.length-(x.1+1)<l.length-x.1;omega,⟨hlt,Nat.le_succ_of_le hb,fun h=>absurd h (by omega),fun _=>(xF hlt hd h2 h3).symm.trans hg⟩,?_⟩
         (repeat'(first|exact trivial|rfl|refine And.intro ?_ ?_|fail))
       ·rw[← hg,aIr hlt hd h2]
        (repeat'((conv=>whnf);first|refine Zg fun _=>?_|refine Zn ?_|refine Zj ?_|refine Zy ?_|refine Zm ?_|fail))
        (conv=>whnf)
        (repeat'(first|exact trivial|rfl|refine And.intro ?_ ?_|fail))
     ·have e:nrS l t=(0,(dsS (l.getD x.1 []) t).2):=by
       by_cases h01:x.1=0
       ·rw[h01] at hd ⊢;unfold nrS;rw[if_neg (by rintro (h | h);exact h hc;exact h ht),if_neg h0,if_pos hd]
       ·rw[← hg (by omega),aIq hlt hd]
      rw[e]
      (repeat'((conv=>whnf);first|refine Zg fun _=>?_|refine Zn ?_|refine Zj ?_|refine Zy ?_|fail))
      (conv=>whnf)
      (repeat'(first|exact trivial|rfl|refine And.intro ?_ ?_|fail))
    ·have e:x.1=l.length:=by omega
     have hg:=hg (by omega)
     rw[e,aIs] at hg
     rw[← hg]
     (repeat'((conv=>whnf);first|refine Zg fun _=>?_|refine Zm ?_|fail))
     (conv=>whnf)
     (repeat'(first|exact trivial|rfl|refine And.intro ?_ ?_|fail))
  ·rw[show nrS l t=(0,1) from if_pos (.inr ht)]
   (repeat'((conv=>whnf);first|refine Zy ?_|refine Zm ?_|fail))
   (conv=>whnf)
   (repeat'(first|exact trivial|rfl|refine And.intro ?_ ?_|fail))
 ·rw[show nrS l t=(0,1) from if_pos (.inl hc)]
  (repeat'((conv=>whnf);first|refine Zy ?_|fail))
  (conv=>whnf)
  (repeat'(first|exact trivial|rfl|refine And.intro ?_ ?_|fail))
def aJp:Con:=aJ 51 true fun args K=>match args with | [.seq .str l,.str t]=>K (.tup [I (nrS l t).1,I (nrS l t).2]) | _=>False
theorem k2051:aF Tryz.prog aJp:=by
 refine aC rfl (enters_of Tryz.func51 (by kernel_rfl) rfl) ?_
 intro args K h
 simp only[aJp] at h
 split at h
 ·rename_i l t;exact ⟨_,h,aA (Γ:=[pR,aJj,aJn,c43]) (by simp[aJg,k2090,k2108,k43]) Tryz.func51 (by simp[Tryz.ntmps51]) rfl (b2051 l t)⟩
 ·exact h.elim
theorem b2044 (l:List (List UInt8)) (lo hi:List UInt8) (hP:Lm l∧Lm [lo,hi]):body Tryz.prog [pQ,uF,c38] { asks:=[(0,[2])] } true Tryz.f44 [.seq .str l,.agg [S lo,S hi]] (.tup [.seq .str (wiS l lo hi).1,I (wiS l lo hi).2]):=by
 obtain ⟨hL,hR⟩:=hP
 by_cases hc:ckS l=0
 ·by_cases hr:rgP lo hi
  ·obtain ⟨k1,k2⟩:=rF hr
   have l1:=hR lo (by simp) k1
   have l2:=hR hi (by simp) k2
   have hall:=rC (hZ hc).2
   rw[show wiS l lo hi=(l.filter (inR lo hi),0) from if_neg (by rintro (h | h);exact h hc;exact h hr)]
   (repeat'((conv=>whnf);first|refine Zg fun _=>?_|refine Zm ?_|fail))
   refine Ask.mk ⟨{ X:=Nat,pre:=fun i=>i≤l.length,mod:=fun i _=>[(6,.ref 2 1),(22,I i)],heap:=fun i H=>[hget H 0,hget H 1,.vec 1 .str ((l.take i).filter (inR lo hi)) 22],mu:=fun i=>l.length-i,objs:=[2] },rfl,?_⟩
   (repeat'((conv=>whnf);first|refine Zn ?_|fail))
   refine ⟨⟨(0:Nat),Nat.zero_le _,?_⟩,fun (i:Nat) hi'=>?_⟩
   ·(repeat'(first|exact trivial|rfl|exact Nat.one_pos|refine And.intro ?_ ?_|fail))
   have hi':i≤l.length:=hi'
   have hl4:=(hZ hc).1
   have hn:((l.take i).filter (inR lo hi)).length≤l.length:=Nat.le_trans (List.length_filter_le _ _) (by rw[List.length_take];omega)
   by_cases hlt:i<l.length
   ·have hk:=hall _ (fL (d:=[]) hlt)
    have hk2:=hL.at hlt hk
    have c1:(cmpQ lo (l.getD i [])).2=0:=by rw[tX k1 l1 hk hk2]
    have c2:(cmpQ (l.getD i []) hi).2=0:=by rw[tX hk hk2 k2 l2]
    have fs:=tW (inR lo hi) [] hlt
    by_cases h1:(cmpQ lo (l.getD i [])).1≤0∧(cmpQ (l.getD i []) hi).1≤0
    ·rw[show inR lo hi (l.getD i [])=true from decide_eq_true h1,if_pos rfl] at fs
     obtain ⟨h1,h2⟩:=h1
     (repeat'((conv=>whnf);first|refine Zn ?_|refine Zj ?_|refine Zl ?_|refine Zy ?_|refine Zm ?_|fail))
     refine ⟨(i+1:Nat),by show l.length-(i+1)<l.length-i;omega,hlt,?_⟩
     (repeat'(first|exact trivial|rfl|exact Nat.one_pos|refine And.intro ?_ ?_|fail))
     exact fs.symm
    ·rw[show inR lo hi (l.getD i [])=false from decide_eq_false h1,if_neg (by decide),List.append_nil] at fs
     by_cases h2:(cmpQ lo (l.getD i [])).1≤0
     ·have h3:¬(cmpQ (l.getD i []) hi).1≤0:=fun h3=>h1 ⟨h2,h3⟩
      (repeat'((conv=>whnf);first|refine Zn ?_|refine Zj ?_|refine Zy ?_|refine Zm ?_|fail))
      refine ⟨(i+1:Nat),by show l.length-(i+1)<l.length-i;omega,hlt,?_⟩
      (repeat'(first|exact trivial|rfl|exact Nat.one_pos|refine And.intro ?_ ?_|fail))
      exact fs.symm
     ·(repeat'((conv=>whnf);first|refine Zn ?_|refine Zj ?_|refine Zy ?_|refine Zm ?_|fail))
      refine ⟨(i+1:Nat),by show l.length-(i+1)<l.length-i;omega,hlt,?_⟩
      (repeat'(first|exact trivial|rfl|exact Nat.one_pos|refine And.intro ?_ ?_|fail))
      exact fs.symm
   ·have e:i=l.length:=by omega
    subst e
    (repeat'((conv=>whnf);first|refine Zm ?_|fail))
    (conv=>whnf)
    (repeat'(first|exact trivial|rfl|refine And.intro ?_ ?_|fail))
    exact congrArg (List.filter _) (List.take_length ..)
  ·rw[show wiS l lo hi=([],1) from if_pos (.inr hr)]
   (repeat'((conv=>whnf);first|refine Zy ?_|refine Zm ?_|fail))
   (conv=>whnf)
   (repeat'(first|exact trivial|rfl|refine And.intro ?_ ?_|fail))
 ·rw[show wiS l lo hi=([],1) from if_pos (.inl hc)]
  (repeat'((conv=>whnf);first|refine Zy ?_|fail))
  (conv=>whnf)
  (repeat'(first|exact trivial|rfl|refine And.intro ?_ ?_|fail))
def aJq:Con:=aJ 44 true fun args K=>match args with | [.seq .str l,.agg [.str lo,.str hi]]=>Need (Lm l∧Lm [lo,hi]) (K (.tup [.seq .str (wiS l lo hi).1,I (wiS l lo hi).2])) | _=>False
theorem k2044:aF Tryz.prog aJq:=by
 refine aC rfl (enters_of Tryz.func44 (by kernel_rfl) rfl) ?_
 intro args K h
 simp only[aJq] at h
 split at h
 ·rename_i l lo hi;exact ⟨_,h.go,aA (Γ:=[pQ,uF,c38]) (by simp[aJf,aNt,k38]) Tryz.func44 (by simp[Tryz.ntmps44]) rfl (b2044 l lo hi h.ok)⟩
 ·exact h.elim
theorem b2052 (l:List (List UInt8)) (lo hi:List UInt8) (hP:Lm l∧Lm [lo,hi]):body Tryz.prog [pR,aJi,c43] { asks:=[(0,[2])] } true Tryz.f52 [.seq .str l,.agg [S lo,S hi]] (.tup [.seq .str (wiS l lo hi).1,I (wiS l lo hi).2]):=by
 obtain ⟨hL,hR⟩:=hP
 by_cases hc:ckS l=0
 ·by_cases hr:rgP lo hi
  ·obtain ⟨k1,k2⟩:=rF hr
   have l1:=hR lo (by simp) k1
   have l2:=hR hi (by simp) k2
   have hall:=rC (hZ hc).2
   rw[show wiS l lo hi=(l.filter (inR lo hi),0) from if_neg (by rintro (h | h);exact h hc;exact h hr)]
   (repeat'((conv=>whnf);first|refine Zm ?_|fail))
   refine Ask.mk ⟨{ X:=Nat,pre:=fun i=>i≤l.length,mod:=fun i _=>[(6,.ref 2 1),(7,I i)],heap:=fun i H=>[hget H 0,hget H 1,.vec 1 .str ((l.take i).filter (inR lo hi)) 22],mu:=fun i=>l.length-i,objs:=[2] },rfl,?_⟩
   (repeat'((conv=>whnf);first|refine Zn ?_|fail))
   refine ⟨⟨(0:Nat),Nat.zero_le _,?_⟩,fun (i:Nat) hi'=>?_⟩
   ·(repeat'(first|exact trivial|rfl|exact Nat.one_pos|refine And.intro ?_ ?_|fail))
   have hi':i≤l.length:=hi'
   have hl4:=(hZ hc).1
   have hn:((l.take i).filter (inR lo hi)).length≤l.length:=Nat.le_trans (List.length_filter_le _ _) (by rw[List.length_take];omega)
   by_cases hlt:i<l.length
   ·have hk:=hall _ (fL (d:=[]) hlt)
    have hk2:=hL.at hlt hk
    have c1:(cmpQ (l.getD i []) lo).2=0:=by rw[tX hk hk2 k1 l1]
    have c3:(cmpQ (l.getD i []) lo).1= -(cmpQ lo (l.getD i [])).1:=by rw[tX hk hk2 k1 l1,tX k1 l1 hk hk2];exact rU _ _
    have c2:(cmpQ (l.getD i []) hi).2=0:=by rw[tX hk hk2 k2 l2]
    have fs:=tW (inR lo hi) [] hlt
    by_cases h1:(cmpQ lo (l.getD i [])).1≤0∧(cmpQ (l.getD i []) hi).1≤0
    ·rw[show inR lo hi (l.getD i [])=true from decide_eq_true h1,if_pos rfl] at fs
     obtain ⟨h1,h2⟩:=h1
     (repeat'((conv=>whnf);first|refine Zg fun _=>?_|refine Zn ?_|refine Zj ?_|(apply Pin.mk;apply Exists.intro)|apply Pinned.mk rfl rfl|refine Zl ?_|refine Zy ?_|refine Zm ?_|fail))
     refine ⟨(i+1:Nat),by show l.length-(i+1)<l.length-i;omega,hlt,?_⟩
     (repeat'(first|exact trivial|rfl|exact Nat.one_pos|refine And.intro ?_ ?_|fail))
     exact fs.symm
    ·rw[show inR lo hi (l.getD i [])=false from decide_eq_false h1,if_neg (by decide),List.append_nil] at fs
     by_cases h2:(cmpQ lo (l.getD i [])).1≤0
     ·have h3:¬(cmpQ (l.getD i []) hi).1≤0:=fun h3=>h1 ⟨h2,h3⟩
      (repeat'((conv=>whnf);first|refine Zg fun _=>?_|refine Zn ?_|refine Zj ?_|(apply Pin.mk;apply Exists.intro)|apply Pinned.mk rfl rfl|refine Zy ?_|refine Zm ?_|fail))
      refine ⟨(i+1:Nat),by show l.length-(i+1)<l.length-i;omega,hlt,?_⟩
      (repeat'(first|exact trivial|rfl|exact Nat.one_pos|refine And.intro ?_ ?_|fail))
      exact fs.symm
     ·(repeat'((conv=>whnf);first|refine Zg fun _=>?_|refine Zn ?_|refine Zj ?_|(apply Pin.mk;apply Exists.intro)|apply Pinned.mk rfl rfl|refine Zy ?_|refine Zm ?_|fail))
      refine ⟨(i+1:Nat),by show l.length-(i+1)<l.length-i;omega,hlt,?_⟩
      (repeat'(first|exact trivial|rfl|exact Nat.one_pos|refine And.intro ?_ ?_|fail))
      exact fs.symm
   ·have e:i=l.length:=by omega
    subst e
    (repeat'((conv=>whnf);first|refine Zg fun _=>?_|refine Zm ?_|fail))
    (conv=>whnf)
    (repeat'(first|exact trivial|rfl|refine And.intro ?_ ?_|fail))
    exact congrArg (List.filter _) (List.take_length ..)
  ·rw[show wiS l lo hi=([],1) from if_pos (.inr hr)]
   (repeat'((conv=>whnf);first|refine Zy ?_|refine Zm ?_|fail))
   (conv=>whnf)
   (repeat'(first|exact trivial|rfl|refine And.intro ?_ ?_|fail))
 ·rw[show wiS l lo hi=([],1) from if_pos (.inl hc)]
  (repeat'((conv=>whnf);first|refine Zy ?_|fail))
  (conv=>whnf)
  (repeat'(first|exact trivial|rfl|refine And.intro ?_ ?_|fail))
def aJr:Con:=aJ 52 true fun args K=>match args with | [.seq .str l,.agg [.str lo,.str hi]]=>Need (Lm l∧Lm [lo,hi]) (K (.tup [.seq .str (wiS l lo hi).1,I (wiS l lo hi).2])) | _=>False
theorem k2052:aF Tryz.prog aJr:=by
 refine aC rfl (enters_of Tryz.func52 (by kernel_rfl) rfl) ?_
 intro args K h
 simp only[aJr] at h
 split at h
 ·rename_i l lo hi;exact ⟨_,h.go,aA (Γ:=[pR,aJi,c43]) (by simp[aJg,k2089,k43]) Tryz.func52 (by simp[Tryz.ntmps52]) rfl (b2052 l lo hi h.ok)⟩
 ·exact h.elim
theorem b2104 (x y:List UInt8) (h:(cmpQ x y).2=0):body Tryz.prog [c38] {} true Tryz.f104 [S x,S y,.lelem [I 0] 0] (I (cmpQ x y).1):=by
 (repeat'((conv=>whnf);first|refine Zm ?_|fail))
 (conv=>whnf)
 (repeat'(first|rfl|refine And.intro ?_ ?_|fail))
def aJs:Con:=aJ 104 true fun args K=>match args with | [.str x,.str y,.lelem [.val (.int .i64 0)] 0]=>Need ((cmpQ x y).2=0) (K (I (cmpQ x y).1)) | _=>False
theorem k2104:aF Tryz.prog aJs:=by
 refine aC rfl (enters_of Tryz.func104 (by kernel_rfl) rfl) ?_
 intro args K h
 simp only[aJs] at h
 split at h
 ·rename_i x y;exact ⟨_,h.go,aA (Γ:=[c38]) (by simp[k38]) Tryz.func104 (by simp[Tryz.ntmps104]) rfl (b2104 x y h.ok)⟩
 ·exact h.elim
def CmpAll (a b:List (List UInt8)):Prop:=∀x∈a,∀y∈b,(cmpQ x y).2=0
theorem uU {α:Type} {l:List α} (d:α) (h:0<l.length):l=l.getD 0 d::l.drop 1:=by
 cases l with
 | nil=>simp at h
 | cons x r=>rfl
theorem CmpAll.drop {a b:List (List UInt8)} (h:CmpAll a b) (i j:Nat):CmpAll (a.drop i) (b.drop j):=fun x hx y hy=>h x (List.mem_of_mem_drop hx) y (List.mem_of_mem_drop hy)
theorem aFn {a b:List (List UInt8)} (ha:0<a.length) (hb:0<b.length):mrg a b=if (cmpQ (a.getD 0 []) (b.getD 0 [])).1<0 then a.getD 0 []::mrg (a.drop 1) b else if 0<(cmpQ (a.getD 0 []) (b.getD 0 [])).1 then b.getD 0 []::mrg a (b.drop 1) else a.getD 0 []::mrg (a.drop 1) (b.drop 1):=by
 conv=>lhs;rw[uU [] ha,uU [] hb,aMt]
 rw[← uU [] ha,← uU [] hb]
theorem aFo {a b z w:List (List UInt8)} (h:z++w=mrg a b) (h1:a.length≤4096) (h2:b.length≤4096):z.length+w.length≤8192:=by
 have:=congrArg List.length h
 rw[List.length_append] at this
 have:=aOx a b
 omega
theorem b2103 (a b:List (List UInt8)) (hP:CmpAll a b∧a.length≤4096∧b.length≤4096):body Tryz.prog [aJs] { asks:=[(0,[1])] } true Tryz.f103 [.seq .str a,.seq .str b,.clo 104 [] [.lelem [I 0] 0]] (.seq .str (mrg a b)):=by
 obtain ⟨hc,l1,l2⟩:=hP
 skip
 refine Ask.mk ⟨{ X:=List (List UInt8) × List (List UInt8) × List (List UInt8),pre:=fun x=>CmpAll x.1 x.2.1∧x.2.2++mrg x.1 x.2.1=mrg a b,mod:=fun x _=>[(0,.seq .str x.1),(1,.seq .str x.2.1),(7,.ref 1 1)],heap:=fun x H=>[hget H 0,.vec 1 .str x.2.2 22],mu:=fun x=>List.length x.1+List.length x.2.1,objs:=[1] },rfl,?_⟩
 (repeat'((conv=>whnf);first|refine Zn ?_|fail))
 refine ⟨⟨(a,b,[]),⟨hc,rfl⟩,?_⟩,fun (x:List (List UInt8) × List (List UInt8) × List (List UInt8)) hi=>?_⟩
 ·(repeat'(first|exact trivial|rfl|exact Nat.one_pos|refine And.intro ?_ ?_|fail))
 obtain ⟨hx,hg⟩:=hi
 have hn:=aFo hg l1 l2
 by_cases ha:0<x.1.length
 ·by_cases hb:0<x.2.1.length
  ·have h1:=hx _ (fL (d:=[]) ha) _ (fL (d:=[]) hb)
   have hs:=aFn ha hb
   by_cases h2:(cmpQ (x.1.getD 0 []) (x.2.1.getD 0 [])).1<0
   ·rw[if_pos h2] at hs
    (repeat'((conv=>whnf);first|refine Zg fun _=>?_|refine Zn ?_|refine Z0 ?_|refine Z1 ?_|(apply Pin.mk;apply Exists.intro)|apply Pinned.mk rfl rfl|(apply PinH.mk;apply Exists.intro;apply Exists.intro)|exact Zf|refine Zc ?_ ?_|refine Zl ?_|refine Zy ?_|fail))
    refine ⟨(x.1.drop 1,x.2.1,x.2.2++ [x.1.getD 0 []]),by show (x.1.drop 1).length+x.2.1.length<x.1.length+x.2.1.length;rw[List.length_drop];omega,⟨hx.drop 1 0,by rw[← hg,hs];simp⟩,?_⟩
    (repeat'(first|exact trivial|rfl|exact Nat.one_pos|refine And.intro ?_ ?_|fail))
   ·rw[if_neg h2] at hs
    by_cases h3:0<(cmpQ (x.1.getD 0 []) (x.2.1.getD 0 [])).1
    ·rw[if_pos h3] at hs
     (repeat'((conv=>whnf);first|refine Zg fun _=>?_|refine Zn ?_|refine Z0 ?_|refine Z1 ?_|(apply Pin.mk;apply Exists.intro)|apply Pinned.mk rfl rfl|(apply PinH.mk;apply Exists.intro;apply Exists.intro)|exact Zf|refine Zc ?_ ?_|refine Zl ?_|refine Zy ?_|refine Zm ?_|fail))
     refine ⟨(x.1,x.2.1.drop 1,x.2.2++ [x.2.1.getD 0 []]),by show x.1.length+(x.2.1.drop 1).length<x.1.length+x.2.1.length;rw[List.length_drop];omega,⟨hx.drop 0 1,by rw[← hg,hs];simp⟩,?_⟩
     (repeat'(first|exact trivial|rfl|exact Nat.one_pos|refine And.intro ?_ ?_|fail))
    ·rw[if_neg h3] at hs
     (repeat'((conv=>whnf);first|refine Zg fun _=>?_|refine Zn ?_|refine Z0 ?_|refine Z1 ?_|(apply Pin.mk;apply Exists.intro)|apply Pinned.mk rfl rfl|(apply PinH.mk;apply Exists.intro;apply Exists.intro)|exact Zf|refine Zc ?_ ?_|refine Zl ?_|refine Zy ?_|refine Zm ?_|fail))
     refine ⟨(x.1.drop 1,x.2.1.drop 1,x.2.2++ [x.1.getD 0 []]),by show (x.1.drop 1).length+(x.2.1.drop 1).length<x.1.length+x.2.1.length;rw[List.length_drop,List.length_drop];omega,⟨hx.drop 1 1,by rw[← hg,hs];simp⟩,?_⟩
     (repeat'(first|exact trivial|rfl|exact Nat.one_pos|refine And.intro ?_ ?_|fail))
  ·have e:x.2.1= []:=List.length_eq_zero_iff.1 (by omega)
   rw[← uO (.inr e),List.length_append] at hn
   have hr:(x.2.2++x.1).length+x.2.1.length≤137438953472:=by rw[List.length_append];omega
   rw[← hg,← uO (.inr e),← List.append_assoc]
   (repeat'((conv=>whnf);first|refine Zg fun _=>?_|refine Zn ?_|refine Zy ?_|refine Zm ?_|fail))
   (conv=>whnf)
   skip
 ·have e:x.1= []:=List.length_eq_zero_iff.1 (by omega)
  rw[← uO (.inl e),List.length_append] at hn
  have hr:(x.2.2++x.1).length+x.2.1.length≤137438953472:=by rw[List.length_append];omega
  rw[← hg,← uO (.inl e),← List.append_assoc]
  (repeat'((conv=>whnf);first|refine Zg fun _=>?_|refine Zn ?_|refine Zm ?_|fail))
  (conv=>whnf)
  skip
def aJt:Con:=aJ 103 true fun args K=>match args with | [.seq .str a,.seq .str b,.clo 104 [] [.lelem [.val (.int .i64 0)] 0]]=>Need (CmpAll a b∧a.length≤4096∧b.length≤4096) (K (.seq .str (mrg a b))) | _=>False
theorem k2103:aF Tryz.prog aJt:=by
 refine aC rfl (enters_of Tryz.func103 (by kernel_rfl) rfl) ?_
 intro args K h
 simp only[aJt] at h
 split at h
 ·rename_i a b;exact ⟨_,h.go,aA (Γ:=[aJs]) (by simp[k2104]) Tryz.func103 (by simp[Tryz.ntmps103]) rfl (b2103 a b h.ok)⟩
 ·exact h.elim
theorem aAy {a b:List (List UInt8)} (ha:ckS a=0) (hb:ckS b=0) (la:Lm a) (lb:Lm b):CmpAll a b:=fun x hx y hy=>by
 have k1:=rC (hZ ha).2 x hx
 have k2:=rC (hZ hb).2 y hy
 rw[tX k1 (la x hx k1) k2 (lb y hy k2)]
theorem b2038 (a b:List (List UInt8)) (hP:Lm a∧Lm b):body Tryz.prog [pQ,aJt] {} false Tryz.f38 [.seq .str a,.seq .str b] (.tup [.seq .str (mgS a b).1,I (mgS a b).2]):=by
 obtain ⟨la,lb⟩:=hP
 by_cases ha:ckS a=0
 ·by_cases hb:ckS b=0
  ·have hc:=aAy ha hb la lb
   have l1:=(hZ ha).1
   have l2:=(hZ hb).1
   have hA:CmpAll a b∧a.length≤4096∧b.length≤4096:=⟨hc,l1,l2⟩
   have e:mgS a b=if 4096<(mrg a b).length then ([],4) else (mrg a b,0):=if_neg (by rintro (h | h);exact h ha;exact h hb)
   by_cases h:4096<(mrg a b).length
   ·rw[if_pos h] at e
    rw[e]
    (repeat'((conv=>whnf);first|refine Zg fun _=>?_|refine Zn ?_|refine Zy ?_|refine Zm ?_|fail))
    (conv=>whnf)
    (repeat'(first|exact trivial|rfl|refine And.intro ?_ ?_|fail))
   ·rw[if_neg h] at e
    rw[e]
    (repeat'((conv=>whnf);first|refine Zg fun _=>?_|refine Zn ?_|refine Zm ?_|fail))
    (conv=>whnf)
    (repeat'(first|exact trivial|rfl|refine And.intro ?_ ?_|fail))
  ·rw[show mgS a b=([],1) from if_pos (.inr hb)]
   (repeat'((conv=>whnf);first|refine Zy ?_|refine Zm ?_|fail))
   (conv=>whnf)
   (repeat'(first|exact trivial|rfl|refine And.intro ?_ ?_|fail))
 ·rw[show mgS a b=([],1) from if_pos (.inl ha)]
  (repeat'((conv=>whnf);first|refine Zy ?_|fail))
  (conv=>whnf)
  (repeat'(first|exact trivial|rfl|refine And.intro ?_ ?_|fail))
def aJu:Con:=aJ 38 false fun args K=>match args with | [.seq .str a,.seq .str b]=>Need (Lm a∧Lm b) (K (.tup [.seq .str (mgS a b).1,I (mgS a b).2])) | _=>False
theorem k2038:aF Tryz.prog aJu:=by
 refine aC rfl (enters_of Tryz.func38 (by kernel_rfl) rfl) ?_
 intro args K h
 simp only[aJu] at h
 split at h
 ·rename_i a b;exact ⟨_,h.go,aA (Γ:=[pQ,aJt]) (by simp[aJf,k2103]) Tryz.func38 (by simp[Tryz.ntmps38]) rfl (b2038 a b h.ok)⟩
 ·exact h.elim
theorem aAz {l:List (List UInt8)} {i:Nat} (h:i<l.length):(l.drop i).getD 0 []=l.getD i []∧0<(l.drop i).length∧(l.drop i).drop 1=l.drop (i+1):=by
 refine ⟨?_,by rw[List.length_drop];omega,by rw[List.drop_drop]⟩
 rw[mD [] h];rfl
theorem rS {l:List (List UInt8)} {i:Nat} (h:¬i<l.length):l.drop i= []:=List.drop_eq_nil_of_le (by omega)
theorem aRp {a b:List (List UInt8)} {i k:Nat} (hi:i<a.length) (hk:k<b.length):mrg (a.drop i) (b.drop k)=if (cmpQ (a.getD i []) (b.getD k [])).1<0 then a.getD i []::mrg (a.drop (i+1)) (b.drop k) else if 0<(cmpQ (a.getD i []) (b.getD k [])).1 then b.getD k []::mrg (a.drop i) (b.drop (k+1)) else a.getD i []::mrg (a.drop (i+1)) (b.drop (k+1)):=by
 obtain ⟨a1,a2,a3⟩:=aAz hi
 obtain ⟨b1,b2,b3⟩:=aAz hk
 rw[aFn a2 b2,a1,b1,a3,b3]
theorem aPu {a b:List (List UInt8)} {i k:Nat} (hi:i<a.length) (hk:¬k<b.length):mrg (a.drop i) (b.drop k)=a.getD i []::mrg (a.drop (i+1)) (b.drop k):=by
 rw[rS hk,xE,xE,← mD [] hi]
theorem aPv {a b:List (List UInt8)} {i k:Nat} (hi:¬i<a.length) (hk:k<b.length):mrg (a.drop i) (b.drop k)=b.getD k []::mrg (a.drop i) (b.drop (k+1)):=by
 rw[rS hi,uN,uN,← mD [] hk]
theorem b2049 (a b:List (List UInt8)) (hP:Lm a∧Lm b):body Tryz.prog [pR,c43] { asks:=[(0,[1])] } true Tryz.f49 [.seq .str a,.seq .str b] (.tup [.seq .str (mgS a b).1,I (mgS a b).2]):=by
 obtain ⟨la,lb⟩:=hP
 by_cases ha:ckS a=0
 ·by_cases hb:ckS b=0
  ·have hc:=aAy ha hb la lb
   have l1:=(hZ ha).1
   have l2:=(hZ hb).1
   have hA:CmpAll a b∧a.length≤4096∧b.length≤4096:=⟨hc,l1,l2⟩
   have e:mgS a b=if 4096<(mrg a b).length then ([],4) else (mrg a b,0):=if_neg (by rintro (h | h);exact h ha;exact h hb)
   (repeat'((conv=>whnf);first|refine Zm ?_|fail))
   refine Ask.mk ⟨{ X:=Nat × Nat × List (List UInt8),pre:=fun x=>(x.1≤a.length∧x.2.1≤b.length)∧x.2.2++mrg (a.drop x.1) (b.drop x.2.1)=mrg a b,mod:=fun x _=>[(6,.ref 1 1),(7,I x.1),(8,I x.2.1)],heap:=fun x H=>[hget H 0,.vec 1 .str x.2.2 22],mu:=fun x=>(a.length-x.1)+(b.length-x.2.1),objs:=[1] },rfl,?_⟩
   (repeat'((conv=>whnf);first|refine Zn ?_|fail))
   refine ⟨⟨((0:Nat),(0:Nat),[]),⟨⟨Nat.zero_le _,Nat.zero_le _⟩,rfl⟩,?_⟩,fun (x:Nat × Nat × List (List UInt8)) hi=>?_⟩
   ·(repeat'(first|exact trivial|rfl|exact Nat.one_pos|refine And.intro ?_ ?_|fail))
   obtain ⟨⟨h1,h2⟩,hg⟩:=hi
   have hn:=aFo hg l1 l2
   by_cases hi:x.1<a.length
   ·by_cases hk:x.2.1<b.length
    ·have hs:=aRp hi hk
     have h0:=hc _ (fL (d:=[]) hi) _ (fL (d:=[]) hk)
     by_cases h3:(cmpQ (a.getD x.1 []) (b.getD x.2.1 [])).1<0
     ·rw[if_pos h3] at hs
      (repeat'((conv=>whnf);first|refine Zg fun _=>?_|refine Zn ?_|refine Zj ?_|(apply Pin.mk;apply Exists.intro)|apply Pinned.mk rfl rfl|refine Zl ?_|refine Zy ?_|refine Zm ?_|fail))
      refine ⟨((x.1+1:Nat),(x.2.1:Nat),x.2.2++ [a.getD x.1 []]),by show (a.length-(x.1+1))+(b.length-x.2.1)<(a.length-x.1)+(b.length-x.2.1);omega,⟨⟨hi,h2⟩,by rw[← hg,hs];simp⟩,?_⟩
      (repeat'(first|exact trivial|rfl|exact Nat.one_pos|refine And.intro ?_ ?_|fail))
     ·rw[if_neg h3] at hs
      by_cases h4:0<(cmpQ (a.getD x.1 []) (b.getD x.2.1 [])).1
      ·rw[if_pos h4] at hs
       (repeat'((conv=>whnf);first|refine Zg fun _=>?_|refine Zn ?_|refine Zj ?_|(apply Pin.mk;apply Exists.intro)|apply Pinned.mk rfl rfl|refine Zl ?_|refine Zy ?_|refine Zm ?_|fail))
       refine ⟨((x.1:Nat),(x.2.1+1:Nat),x.2.2++ [b.getD x.2.1 []]),by show (a.length-x.1)+(b.length-(x.2.1+1))<(a.length-x.1)+(b.length-x.2.1);omega,⟨⟨h1,hk⟩,by rw[← hg,hs];simp⟩,?_⟩
       (repeat'(first|exact trivial|rfl|exact Nat.one_pos|refine And.intro ?_ ?_|fail))
      ·rw[if_neg h4] at hs
       (repeat'((conv=>whnf);first|refine Zg fun _=>?_|refine Zn ?_|refine Zj ?_|(apply Pin.mk;apply Exists.intro)|apply Pinned.mk rfl rfl|refine Zl ?_|refine Zy ?_|refine Zm ?_|fail))
       refine ⟨((x.1+1:Nat),(x.2.1+1:Nat),x.2.2++ [a.getD x.1 []]),by show (a.length-(x.1+1))+(b.length-(x.2.1+1))<(a.length-x.1)+(b.length-x.2.1);omega,⟨⟨hi,hk⟩,by rw[← hg,hs];simp⟩,?_⟩
       (repeat'(first|exact trivial|rfl|exact Nat.one_pos|refine And.intro ?_ ?_|fail))
    ·have hs:=aPu hi hk
     (repeat'((conv=>whnf);first|refine Zg fun _=>?_|refine Zn ?_|refine Zj ?_|refine Zl ?_|refine Zy ?_|refine Zm ?_|fail))
     refine ⟨((x.1+1:Nat),(x.2.1:Nat),x.2.2++ [a.getD x.1 []]),by show (a.length-(x.1+1))+(b.length-x.2.1)<(a.length-x.1)+(b.length-x.2.1);omega,⟨⟨hi,h2⟩,by rw[← hg,hs];simp⟩,?_⟩
     (repeat'(first|exact trivial|rfl|exact Nat.one_pos|refine And.intro ?_ ?_|fail))
   ·by_cases hk:x.2.1<b.length
    ·have hs:=aPv hi hk
     (repeat'((conv=>whnf);first|refine Zg fun _=>?_|refine Zn ?_|refine Zj ?_|refine Zl ?_|refine Zy ?_|refine Zm ?_|fail))
     refine ⟨((x.1:Nat),(x.2.1+1:Nat),x.2.2++ [b.getD x.2.1 []]),by show (a.length-x.1)+(b.length-(x.2.1+1))<(a.length-x.1)+(b.length-x.2.1);omega,⟨⟨h1,hk⟩,by rw[← hg,hs];simp⟩,?_⟩
     (repeat'(first|exact trivial|rfl|exact Nat.one_pos|refine And.intro ?_ ?_|fail))
    ·rw[rS hi,rS hk,uN,List.append_nil] at hg
     rw[← hg] at e
     by_cases h:4096<x.2.2.length
     ·rw[if_pos h] at e
      rw[e]
      (repeat'((conv=>whnf);first|refine Zg fun _=>?_|refine Zy ?_|refine Zm ?_|fail))
      (conv=>whnf)
      (repeat'(first|exact trivial|rfl|refine And.intro ?_ ?_|fail))
     ·rw[if_neg h] at e
      rw[e]
      (repeat'((conv=>whnf);first|refine Zg fun _=>?_|refine Zm ?_|fail))
      (conv=>whnf)
      (repeat'(first|exact trivial|rfl|refine And.intro ?_ ?_|fail))
  ·rw[show mgS a b=([],1) from if_pos (.inr hb)]
   (repeat'((conv=>whnf);first|refine Zy ?_|refine Zm ?_|fail))
   (conv=>whnf)
   (repeat'(first|exact trivial|rfl|refine And.intro ?_ ?_|fail))
 ·rw[show mgS a b=([],1) from if_pos (.inl ha)]
  (repeat'((conv=>whnf);first|refine Zy ?_|fail))
  (conv=>whnf)
  (repeat'(first|exact trivial|rfl|refine And.intro ?_ ?_|fail))
def aJv:Con:=aJ 49 true fun args K=>match args with | [.seq .str a,.seq .str b]=>Need (Lm a∧Lm b) (K (.tup [.seq .str (mgS a b).1,I (mgS a b).2])) | _=>False
theorem k2049:aF Tryz.prog aJv:=by
 refine aC rfl (enters_of Tryz.func49 (by kernel_rfl) rfl) ?_
 intro args K h
 simp only[aJv] at h
 split at h
 ·rename_i a b;exact ⟨_,h.go,aA (Γ:=[pR,c43]) (by simp[aJg,k43]) Tryz.func49 (by simp[Tryz.ntmps49]) rfl (b2049 a b h.ok)⟩
 ·exact h.elim
set_option linter.unusedSimpArgs false
theorem b2065 (a:List UInt8):aDl Tryz.prog [] {} Tryz.f65 [.ptr 0 0,S a,I 0] [.cells [I 0] 77] (fun r H'=>r=S a∧H'= [.cells [I 0] 77]):=by
 (conv=>whnf)
 refine Need.mk rfl ?_
 (repeat'((conv=>whnf);first|refine Zy ?_|fail))
 (conv=>whnf)
 refine ⟨_,_,⟨rfl,rfl⟩,rfl,?_,rfl,rfl,?_⟩
 all_goals (repeat'(first|exact trivial|rfl|refine And.intro ?_ ?_|fail))
noncomputable def aFp:Con:=aMa 65 77 fun args e0 K=>match args with | [.str a,.val (.int .i64 n)]=>Need (e0=0∧n=0) (K (S a) 0) | _=>False
theorem aQq:aF Tryz.prog aFp:=by
 refine aMb (enters_of Tryz.func65 (by kernel_rfl) rfl) ?_
 intro args e0 K h
 split at h
 ·rename_i a n
  obtain ⟨⟨h1,h2⟩,hk⟩:=h
  subst h1 h2
  exact ⟨_,_,hk,rfl,lW (Γ:=[]) (by simp) Tryz.func65 (by simp[Tryz.ntmps65]) (b2065 a)⟩
 ·exact h.elim
theorem aRq (a:List UInt8):body Tryz.prog [] {} true Tryz.f65 [.wcel 0,S a,I 0] (S a):=by
 (repeat'((conv=>whnf);first|refine Zn ?_|refine Zy ?_|fail))
 (conv=>whnf)
 skip
def xY:Con:=aJ 65 true fun args K=>match args with | [.wcel 0,.str a,.val (.int .i64 0)]=>K (S a) | _=>False
theorem aRr:aF Tryz.prog xY:=by
 refine aC rfl (enters_of Tryz.func65 (by kernel_rfl) rfl) ?_
 intro args K h
 simp only[xY] at h
 split at h
 ·rename_i a;exact ⟨_,h,aA (Γ:=[]) (by simp) Tryz.func65 (by simp[Tryz.ntmps65]) rfl (aRq a)⟩
 ·exact h.elim
theorem b2067 (a:List UInt8):body Tryz.prog [c31] {} true Tryz.f67 [S a] (.tup [I (inQ a).1,.bl ((inQ a).2=0) inferInstance]):=by
 skip
 (conv=>whnf)
 (repeat'(first|exact trivial|rfl|refine And.intro ?_ ?_|fail))
def aQr:Con:=aJ 67 true fun args K=>match args with | [.str a]=>K (.tup [I (inQ a).1,.bl ((inQ a).2=0) inferInstance]) | _=>False
theorem k2067:aF Tryz.prog aQr:=by
 refine aC rfl (enters_of Tryz.func67 (by kernel_rfl) rfl) ?_
 intro args K h
 simp only[aQr] at h
 split at h
 ·rename_i a;exact ⟨_,h,aA (Γ:=[c31]) (by simp[k31]) Tryz.func67 (by simp[Tryz.ntmps67]) rfl (b2067 a)⟩
 ·exact h.elim
theorem b2070 (f s:List UInt8) (n:Int):body Tryz.prog [] {} false Tryz.f70 [.wcel 0,S f,S s,I n] (.clo 133 [] [.wcel n,.lelem [.wcel 0] 0,.lelem [S s] 0,.lelem [S f] 0]):=by
 skip
 (conv=>whnf)
 (repeat'(first|exact trivial|rfl|refine And.intro ?_ ?_|fail))
def aA0:Con:=aJ 70 false fun args K=>match args with | [.wcel 0,.str f,.str s,.val (.int .i64 n)]=>K (.clo 133 [] [.wcel n,.lelem [.wcel 0] 0,.lelem [S s] 0,.lelem [S f] 0]) | _=>False
theorem aQs:aF Tryz.prog aA0:=by
 refine aC rfl (enters_of Tryz.func70 (by kernel_rfl) rfl) ?_
 intro args K h
 simp only[aA0] at h
 split at h
 ·rename_i f s n;exact ⟨_,h,aA (Γ:=[]) (by simp) Tryz.func70 (by simp[Tryz.ntmps70]) rfl (b2070 f s n)⟩
 ·exact h.elim
noncomputable def mulA (f s:List UInt8) (k:Nat):List UInt8:=(addQ f (mulQ s (itoa k)).1).1
def OkM (f s:List UInt8) (n:Nat):Prop:=∀k,k<n→(mulQ s (itoa k)).2=0∧(addQ f (mulQ s (itoa k)).1).2=0
noncomputable def mulL (f s:List UInt8) (n:Nat):List (List UInt8):=(List.range n).map (mulA f s)
theorem aLd (f s:List UInt8) (n:Nat):mulL f s (n+1)=mulL f s n++ [mulA f s n]:=by
 unfold mulL;rw[List.range_succ,List.map_append];rfl
theorem aNu (f s:List UInt8) (n:Nat):(mulL f s n).length=n:=by unfold mulL;rw[List.length_map,List.length_range]
noncomputable abbrev itM (f s:List UInt8) (k:Nat):List SV:=[S (mulA f s k)]
theorem b2133 (f s:List UInt8) (n:Nat) (h:OkM f s n∧n≤1000000):vN Tryz.prog [c61,c19n,c17n,xY] { asks:=[(0,[])] } Tryz.f133 [.wcel n,.lelem [.wcel 0] 0,.lelem [S s] 0,.lelem [S f] 0] n (itM f s):=by
 obtain ⟨h,hn⟩:=h
 skip
 refine Ask.mk ⟨{ X:=Nat,pre:=fun i=>i≤n,mod:=fun i _=>[(9,I i)],heap:=fun i _=>[.yst (some i) n (itM f s)],mu:=fun i=>n-i },rfl,?_⟩
 (repeat'((conv=>whnf);first|refine Zn ?_|fail))
 refine ⟨⟨(0:Nat),Nat.zero_le _,by (repeat'(first|exact trivial|rfl|refine And.intro ?_ ?_|fail))⟩,fun (i:Nat) hi=>?_⟩
 have hi:i≤n:=hi
 by_cases hlt:i<n
 ·obtain ⟨h1,h2⟩:=h i hlt
  have e1:mulQ s (itoa i)=((mulQ s (itoa i)).1,0):=Prod.ext rfl h1
  have e2:addQ f (mulQ s (itoa i)).1=((addQ f (mulQ s (itoa i)).1).1,0):=Prod.ext rfl h2
  (repeat'((conv=>whnf);first|refine Zn ?_|(apply Pin.mk;apply Exists.intro)|apply Pinned.mk rfl rfl|refine .h ?_|refine Zy ?_|refine Zm ?_|fail))
  refine Need.mk (by (repeat'(first|exact trivial|rfl|refine And.intro ?_ ?_|fail))) ?_
  refine Two.mk ?_ ?_
  ·(repeat'((conv=>whnf);first|refine Zn ?_|fail))
   refine ⟨(i+1:Nat),by show n-(i+1)<n-i;omega,hlt,?_⟩
   (repeat'(first|exact trivial|rfl|refine And.intro ?_ ?_|fail))
  ·skip
   (conv=>whnf)
   trivial
 ·have e:i=n:=by omega
  subst e
  (repeat'((conv=>whnf);first|refine Zm ?_|fail))
  (conv=>whnf)
  skip
theorem aRs (n:Int) (s f:List UInt8) (h:0≤n∧OkM f s n.toNat∧n≤1000000):vN Tryz.prog [c61,c19n,c17n,xY] { asks:=[(0,[])] } Tryz.f133 [.wcel n,.lelem [.wcel 0] 0,.lelem [S s] 0,.lelem [S f] 0] n.toNat (itM f s):=by
 have:=b2133 f s n.toNat ⟨h.2.1,by omega⟩
 rwa [show ((n.toNat:Nat):Int)=n by omega] at this
def aCx:Con:=aJ 133 false fun args K=>match args with | [.wcel n,.lelem [.wcel 0] 0,.lelem [.str s] 0,.lelem [.str f] 0]=>Need (0≤n∧OkM f s n.toNat∧n≤1000000) (K (.itr n.toNat (itM f s))) | _=>False
theorem aRt:aF Tryz.prog aCx:=by
 refine aC rfl (enters_of Tryz.func133 (by kernel_rfl) rfl) ?_
 intro args K h
 simp only[aCx] at h
 split at h
 ·rename_i n s f;exact ⟨_,h.go,jE (Γ:=[c61,c19n,c17n,xY]) (by simp[k61,k19n,k17n,aRr]) Tryz.func133 (by simp[Tryz.ntmps133]) (aRs n s f h.ok)⟩
 ·exact h.elim
theorem b2187 (n:Int) (s f:List UInt8) (h:0≤n∧OkM f s n.toNat∧n≤1000000):body Tryz.prog [aCx] { asks:=[(0,[1])] } true Tryz.f187 [.val (.slice none 0 0),.clo 133 [] [.wcel n,.lelem [.wcel 0] 0,.lelem [S s] 0,.lelem [S f] 0]] (.seq .str (mulL f s n.toNat)):=by
 have hl:=fun i=>aNu f s i
 skip
 refine Own.r ?_
 refine ⟨0,.str,22,?_⟩
 skip
 refine Ask.mk ⟨{ X:=Nat,pre:=fun i=>i≤n.toNat,mod:=fun _ _=>[],heap:=fun i H=>[hget H 0,.vec 1 .str (mulL f s i) 22,hget H 2],mu:=fun i=>i,objs:=[1] },rfl,?_⟩
 (repeat'((conv=>whnf);first|refine Zn ?_|fail))
 refine ⟨⟨(0:Nat),rfl,Nat.zero_le _,by (repeat'(first|exact trivial|rfl|exact Nat.one_pos|refine And.intro ?_ ?_|fail))⟩,fun (i:Nat) hi (hlt:i<n.toNat)=>?_,fun (i:Nat) hi (he:i=n.toNat)=>?_⟩
 ·have hli:=hl i
  have hn:=h.2.2
  show hnfL (itM f s i) _
  (repeat'((conv=>whnf);first|refine Zn ?_|refine Zl ?_|fail))
  refine ⟨(i+1:Nat),rfl,hlt,?_⟩
  (repeat'(first|exact trivial|rfl|exact Nat.one_pos|refine And.intro ?_ ?_|fail))
  exact (aLd f s i).symm
 ·subst he
  skip
  (conv=>whnf)
  skip
def aJw:Con:=aJ 187 true fun args K=>match args with | [.val (.slice none 0 0),.clo 133 [] [.wcel n,.lelem [.wcel 0] 0,.lelem [.str s] 0,.lelem [.str f] 0]]=>Need (0≤n∧OkM f s n.toNat∧n≤1000000) (K (.seq .str (mulL f s n.toNat))) | _=>False
theorem k2187:aF Tryz.prog aJw:=by
 refine aC rfl (enters_of Tryz.func187 (by kernel_rfl) rfl) ?_
 intro args K h
 simp only[aJw] at h
 split at h
 ·rename_i n s f;exact ⟨_,h.go,aA (Γ:=[aCx]) (by simp[aRt]) Tryz.func187 (by simp[Tryz.ntmps187]) rfl (b2187 n s f h.ok)⟩
 ·exact h.elim
theorem b2132 (n:Int) (s f:List UInt8) (h:0≤n∧OkM f s n.toNat∧n≤1000000):body Tryz.prog [aJw] {} false Tryz.f132 [.clo 133 [] [.wcel n,.lelem [.wcel 0] 0,.lelem [S s] 0,.lelem [S f] 0]] (.seq .str (mulL f s n.toNat)):=by
 (repeat'((conv=>whnf);first|refine Zn ?_|fail))
 (conv=>whnf)
 skip
def aJx:Con:=aJ 132 false fun args K=>match args with | [.clo 133 [] [.wcel n,.lelem [.wcel 0] 0,.lelem [.str s] 0,.lelem [.str f] 0]]=>Need (0≤n∧OkM f s n.toNat∧n≤1000000) (K (.seq .str (mulL f s n.toNat))) | _=>False
theorem k2132:aF Tryz.prog aJx:=by
 refine aC rfl (enters_of Tryz.func132 (by kernel_rfl) rfl) ?_
 intro args K h
 simp only[aJx] at h
 split at h
 ·rename_i n s f;exact ⟨_,h.go,aA (Γ:=[aJw]) (by simp[k2187]) Tryz.func132 (by simp[Tryz.ntmps132]) rfl (b2132 n s f h.ok)⟩
 ·exact h.elim
theorem b2069 (n:Int) (s f:List UInt8) (h:0≤n∧OkM f s n.toNat∧n≤1000000):body Tryz.prog [aJx] {} false Tryz.f69 [.wcel 0,.clo 133 [] [.wcel n,.lelem [.wcel 0] 0,.lelem [S s] 0,.lelem [S f] 0]] (.tup [.seq .str (mulL f s n.toNat),I 0]):=by
 (repeat'((conv=>whnf);first|refine Zn ?_|refine Zm ?_|fail))
 (conv=>whnf)
 (repeat'(first|exact trivial|rfl|refine And.intro ?_ ?_|fail))
def aA1:Con:=aJ 69 false fun args K=>match args with | [.wcel 0,.clo 133 [] [.wcel n,.lelem [.wcel 0] 0,.lelem [.str s] 0,.lelem [.str f] 0]]=>Need (0≤n∧OkM f s n.toNat∧n≤1000000) (K (.tup [.seq .str (mulL f s n.toNat),I 0])) | _=>False
theorem aQt:aF Tryz.prog aA1:=by
 refine aC rfl (enters_of Tryz.func69 (by kernel_rfl) rfl) ?_
 intro args K h
 simp only[aA1] at h
 split at h
 ·rename_i n s f;exact ⟨_,h.go,aA (Γ:=[aJx]) (by simp[k2132]) Tryz.func69 (by simp[Tryz.ntmps69]) rfl (b2069 n s f h.ok)⟩
 ·exact h.elim
noncomputable def c29n:Con:=aJ 66 true fun args K=>match args with
 | [.str a]=>Alt (Has (fun r=>flQ a=(r,0)) fun r=>K (.tup [S r,I 0])) (K (.tup [S (flQ a).1,I (flQ a).2]))
 | _=>False
theorem k29n:aF Tryz.prog c29n:=iB k29 rfl rfl rfl fun args K h=>by
 simp only[c29n] at h
 split at h
 ·rcases h.or with h | h
  ·obtain ⟨r,e,h⟩:=h.ex
   show K _
   rw[e];exact h
  ·exact h
 ·exact h.elim
noncomputable def sR:Con:=aJ 67 true fun args K=>match args with
 | [.str a]=>Alt (Has (fun r=>inQ a=(r,0)) fun r=>K (.tup [I r,.bl ((inQ a).2=0) inferInstance])) (K (.tup [I (inQ a).1,.bl ((inQ a).2=0) inferInstance]))
 | _=>False
theorem aNv:aF Tryz.prog sR:=iB k2067 rfl rfl rfl fun args K h=>by
 simp only[sR] at h
 split at h
 ·rcases h.or with h | h
  ·obtain ⟨r,e,h⟩:=h.ex
   show K _
   rw[show r=(inQ _).1 by rw[e]] at h
   exact h
  ·exact h
 ·exact h.elim
theorem aJy {a:List UInt8} (h:chkQ a=0):((cmpQ a [48]).2=0∧0<(cmpQ a [48]).1)↔0<valQ a:=by
 rw[cmp0 h]
 have:=aC2 0 (valQ a)
 rw[← this,rU (valQ a) 0]
 constructor
 ·intro h;have:=h.2;dsimp only at this;omega
 ·intro h;exact ⟨rfl,by dsimp only;omega⟩
theorem aQu {a b:List UInt8} (h:rgP a b) (h1:a.length≤82) (h2:b.length≤82):valQ a≤valQ b:=by
 obtain ⟨k1,k2⟩:=rF h
 have:=h.2
 rw[tX k1 h1 k2 h2] at this
 refine Rat.not_lt.1 fun hlt=>?_
 have h3:=(aC2 _ _).2 hlt
 have h4:=rU (valQ a) (valQ b)
 dsimp only at this
 omega
def FewP (lo hi o s:List UInt8):Prop:=Lm [lo,hi,o,s]∧(rgP lo hi→chkQ o=0→chkQ s=0→0<valQ s→valQ hi≤valQ lo+((100:Nat):Rat)*valQ s)
theorem aRu {lo hi o s:List UInt8} (h:FewP lo hi o s) (h1:rgP lo hi) (h2:chkQ o=0) (h3:chkQ s=0) (h4:0<valQ s):AtH (valQ lo) (valQ hi) (valQ o) (valQ s)∧lo=numS (valQ lo)∧hi=numS (valQ hi)∧o=numS (valQ o)∧s=numS (valQ s):=by
 obtain ⟨k1,k2⟩:=rF h1
 have l1:=h.1 lo (by simp) k1
 have l2:=h.1 hi (by simp) k2
 have l3:=h.1 o (by simp) h2
 have l4:=h.1 s (by simp) h3
 obtain ⟨e1,z1,w1⟩:=nP k1 l1
 obtain ⟨e2,z2,w2⟩:=nP k2 l2
 obtain ⟨e3,z3,w3⟩:=nP h2 l3
 obtain ⟨e4,z4,w4⟩:=nP h3 l4
 exact ⟨⟨w1,w2,w4,z1,z2,z3,z4,aQu h1 l1 l2,h4,h.2 h1 h2 h3 h4⟩,e1,e2,e3,e4⟩
theorem aRv {L H O S:Rat} (h:AtH L H O S):OkM (numS (cO L O S)) (numS S) (eM L H O S).toNat∧mulL (numS (cO L O S)) (numS S) (eM L H O S).toNat=(atR L H O S).map numS:=by
 have hc:=h.count
 have hm:∀k,k<(eM L H O S).toNat→mulQ (numS S) (itoa k)=(numS (S*((k:Int):Rat)),0)∧addQ (numS (cO L O S)) (numS (S*((k:Int):Rat)))=(numS (atX L O S k),0):=fun k hk=>⟨h.f12 (by unfold eM at hk;omega),h.f13 (by omega)⟩
 constructor
 ·intro k hk
  obtain ⟨h1,h2⟩:=hm k hk
  rw[h1]
  exact ⟨rfl,by rw[h2]⟩
 ·unfold mulL atR
  rw[List.map_map]
  apply List.map_congr_left
  intro k hk
  obtain ⟨h1,h2⟩:=hm k (List.mem_range.1 hk)
  unfold mulA
  rw[h1,h2];rfl
set_option maxHeartbeats 1000000 in
theorem b2026 (lo hi o s:List UInt8) (hP:FewP lo hi o s):body Tryz.prog [uF,c21,aAx,c20n,c14n,c29n,aFp,c17n,sR,c19n,aA0,aA1] {} false Tryz.f26 [.agg [S lo,S hi],S o,S s] (.tup [.seq .str (atW lo hi o s).1,I (atW lo hi o s).2]):=by
 by_cases h1:rgP lo hi
 ·by_cases h2:chkQ o=0
  ·by_cases h3:chkQ s=0
   ·have hps:=aJy h3
    by_cases h4:0<valQ s
    ·have h5:=hps.2 h4
     rw[show atW lo hi o s=((atR (valQ lo) (valQ hi) (valQ o) (valQ s)).map numS,0) by unfold atW;rw[if_neg (by rintro (h | h | h);exact h h1;exact h h2;exact h h3),if_neg (fun h=>h h4)]]
     obtain ⟨hA,e1,e2,e3,e4⟩:=aRu hP h1 h2 h3 h4
     generalize valQ lo=L at*
     generalize valQ hi=H at*
     generalize valQ o=O at*
     generalize valQ s=Z at*
     subst e1 e2 e3 e4
     have f1:=hA.f1
     have f2:=hA.f2
     have f3:=hA.f3
     have f4:=hA.f4
     have f5:=hA.f5
     have f6:=hA.f6
     have f7:=hA.f7
     obtain ⟨c1,c2⟩:=hA.count
     have f9:=hA.f9
     have f9':=congrArg Prod.snd f9
     have f10:=hA.f10
     have f11:=hA.f11
     obtain ⟨m1,m2⟩:=aRv hA
     have em:max (aX L O Z+cS H O Z+1) 0=eM L H O Z:=by unfold eM;omega
     rw[← em] at m1 m2
     have hm:0≤max (aX L O Z+cS H O Z+1) 0∧OkM (numS (cO L O Z)) (numS Z) (max (aX L O Z+cS H O Z+1) 0).toNat∧max (aX L O Z+cS H O Z+1) 0≤1000000:=⟨by omega,m1,by omega⟩
     rw[← m2]
     (repeat'((conv=>whnf);first|refine Zn ?_|refine .h ?_|refine Zm ?_|fail))
     (conv=>whnf)
     (repeat'(first|exact trivial|rfl|refine And.intro ?_ ?_|fail))
    ·rw[show atW lo hi o s=([],2) by unfold atW;rw[if_neg (by rintro (h | h | h);exact h h1;exact h h2;exact h h3),if_pos h4]]
     have h5:=fun h=>h4 (hps.1 h)
     (repeat'((conv=>whnf);first|refine Zy ?_|refine Zm ?_|fail))
     (conv=>whnf)
     (repeat'(first|exact trivial|rfl|refine And.intro ?_ ?_|fail))
   ·rw[show atW lo hi o s=([],1) from if_pos (.inr (.inr h3))]
    (repeat'((conv=>whnf);first|refine Zy ?_|refine Zm ?_|fail))
    (conv=>whnf)
    (repeat'(first|exact trivial|rfl|refine And.intro ?_ ?_|fail))
  ·rw[show atW lo hi o s=([],1) from if_pos (.inr (.inl h2))]
   (repeat'((conv=>whnf);first|refine Zy ?_|refine Zm ?_|fail))
   (conv=>whnf)
   (repeat'(first|exact trivial|rfl|refine And.intro ?_ ?_|fail))
 ·rw[show atW lo hi o s=([],1) from if_pos (.inl h1)]
  (repeat'((conv=>whnf);first|refine Zy ?_|fail))
  (conv=>whnf)
  (repeat'(first|exact trivial|rfl|refine And.intro ?_ ?_|fail))
def aJz:Con:=aJ 26 false fun args K=>match args with | [.agg [.str lo,.str hi],.str o,.str s]=>Need (FewP lo hi o s) (K (.tup [.seq .str (atW lo hi o s).1,I (atW lo hi o s).2])) | _=>False
theorem k2026:aF Tryz.prog aJz:=by
 refine aC rfl (enters_of Tryz.func26 (by kernel_rfl) rfl) ?_
 intro args K h
 simp only[aJz] at h
 split at h
 ·rename_i lo hi o s;exact ⟨_,h.go,aA (Γ:=[uF,c21,aAx,c20n,c14n,c29n,aFp,c17n,sR,c19n,aA0,aA1]) (by simp[aNt,k21,aQp,k20n,k14n,k29n,aQq,k17n,aNv,k19n,aQs,aQt]) Tryz.func26 (by simp[Tryz.ntmps26]) rfl (b2026 lo hi o s h.ok)⟩
 ·exact h.elim
theorem aRw {lo hi m:List UInt8} (h:Lm [lo,hi,m]) (h1:rgP lo hi) (h2:chkQ m=0) (h3:0<valQ m) (h4:¬lo=hi):EvH (valQ lo) (valQ hi) (valQ m)∧lo=numS (valQ lo)∧hi=numS (valQ hi)∧m=numS (valQ m):=by
 obtain ⟨k1,k2⟩:=rF h1
 have l1:=h lo (by simp) k1
 have l2:=h hi (by simp) k2
 have l3:=h m (by simp) h2
 obtain ⟨e1,z1,w1⟩:=nP k1 l1
 obtain ⟨e2,z2,w2⟩:=nP k2 l2
 obtain ⟨e3,z3,w3⟩:=nP h2 l3
 refine ⟨⟨z1,z2,z3,?_,h3⟩,e1,e2,e3⟩
 refine Rat.not_le.1 fun hle=>h4 ?_
 rw[e1,e2,Rat.le_antisymm (aQu h1 l1 l2) hle]
theorem aRx {L H M:Rat} (h:EvH L H M) (hc:evC L H M≤4095):OkM (numS L) (numS (iA L H M)) (evC L H M+1).toNat∧mulL (numS L) (numS (iA L H M)) (evC L H M+1).toNat=(evR L H M).map numS:=by
 have hp:=h.cpos
 constructor
 ·intro k hk
  rw[h.e5 hc (show k≤5000 by omega)]
  exact ⟨rfl,by rw[h.e6 hc (show k≤5000 by omega)]⟩
 ·unfold mulL evR
  rw[List.map_map,show (evC L H M+1).toNat=(clI ((H-L)/M)).toNat+1 by show (clI ((H-L)/M)+1).toNat= _;have:0<clI ((H-L)/M):=hp;omega]
  apply List.map_congr_left
  intro k hk
  have hk:=List.mem_range.1 hk
  have hc':clI ((H-L)/M)≤4095:=hc
  unfold mulA
  rw[h.e5 hc (show k≤5000 by omega),h.e6 hc (show k≤5000 by omega)];rfl
set_option maxHeartbeats 1000000 in
theorem b2014 (lo hi m:List UInt8) (hP:Lm [lo,hi,m]):body Tryz.prog [uF,c21,aAx,c20n,c14n,c29n,aFp,sR,c61,aA0,aA1] {} false Tryz.f14 [.agg [S lo,S hi],S m] (.tup [.seq .str (evW lo hi m).1,I (evW lo hi m).2]):=by
 by_cases h1:rgP lo hi
 ·by_cases h2:chkQ m=0
  ·have hps:=aJy h2
   by_cases h3:0<valQ m
   ·have h5:=hps.2 h3
    have e0:evW lo hi m=if lo=hi then ([lo],0) else if 4095<clI ((valQ hi-valQ lo)/valQ m) then ([],4) else ((evR (valQ lo) (valQ hi) (valQ m)).map numS,0):=by unfold evW;rw[if_neg (by rintro (h | h);exact h h1;exact h h2),if_neg (fun h=>h h3)]
    by_cases h4:lo=hi
    ·rw[if_pos h4] at e0
     rw[e0]
     (repeat'((conv=>whnf);first|refine Zl ?_|refine Zy ?_|refine Zm ?_|fail))
     (conv=>whnf)
     (repeat'(first|exact trivial|rfl|refine And.intro ?_ ?_|fail))
    ·rw[if_neg h4] at e0
     rw[e0]
     obtain ⟨hA,q1,q2,q3⟩:=aRw hP h1 h2 h3 h4
     generalize valQ lo=L at*
     generalize valQ hi=H at*
     generalize valQ m=M at*
     subst q1 q2 q3
     have e1:=hA.e1
     have e2:=hA.e2
     have e3:=hA.e3
     have e3i:=hA.e3i
     have hp:=hA.cpos
     have hcl:=aKx ((H-L)/M)
     have hpp:0<clI ((H-L)/M):=hp
     by_cases hc:4095<clI ((H-L)/M)
     ·rw[if_pos hc]
      by_cases hb:flI ((H-L)/M) < -4611686018427387904∨4611686018427387904<flI ((H-L)/M)
      ·rw[if_pos hb] at e3i
       have g1:=congrArg Prod.fst e3i
       have g2:=congrArg Prod.snd e3i
       dsimp only at g1 g2
       have g3:¬(inQ (itoa (flI ((H-L)/M)))).2=0:=by omega
       rcases hcl with ⟨hd,_⟩ | ⟨hd,_⟩
       ·have hdd:¬ ¬itoa (flI ((H-L)/M))=numS ((H-L)/M):=fun h=>h hd
        (repeat'((conv=>whnf);first|refine Zn ?_|refine .h ?_|refine .r ?_|refine Zy ?_|refine Zm ?_|fail))
        (conv=>whnf)
        (repeat'(first|exact trivial|rfl|refine And.intro ?_ ?_|fail))
       ·(repeat'((conv=>whnf);first|refine Zn ?_|refine .h ?_|refine .r ?_|refine Zy ?_|refine Zm ?_|fail))
        (conv=>whnf)
        (repeat'(first|exact trivial|rfl|refine And.intro ?_ ?_|fail))
      ·rw[if_neg hb] at e3i
       have g2:=congrArg Prod.snd e3i
       rcases hcl with ⟨hd,hq⟩ | ⟨hd,hq⟩
       ·have hdd:¬ ¬itoa (flI ((H-L)/M))=numS ((H-L)/M):=fun h=>h hd
        (repeat'((conv=>whnf);first|refine Zn ?_|refine .h ?_|refine Zy ?_|refine Zm ?_|fail))
        (conv=>whnf)
        (repeat'(first|exact trivial|rfl|refine And.intro ?_ ?_|fail))
       ·(repeat'((conv=>whnf);first|refine Zn ?_|refine .h ?_|refine Zy ?_|refine Zm ?_|fail))
        (conv=>whnf)
        (repeat'(first|exact trivial|rfl|refine And.intro ?_ ?_|fail))
     ·rw[if_neg hc]
      have hc':evC L H M≤4095:=Int.not_lt.1 hc
      have hb:¬(flI ((H-L)/M) < -4611686018427387904∨4611686018427387904<flI ((H-L)/M)):=by rcases hcl with ⟨_,hq⟩ | ⟨_,hq⟩<;>omega
      rw[if_neg hb] at e3i
      have g2:=congrArg Prod.snd e3i
      have e4:=hA.e4 hc'
      obtain ⟨m1,m2⟩:=aRx hA hc'
      rcases hcl with ⟨hd,hq⟩ | ⟨hd,hq⟩
      ·have hdd:¬ ¬itoa (flI ((H-L)/M))=numS ((H-L)/M):=fun h=>h hd
       have hq':evC L H M=flI ((H-L)/M):=hq
       rw[hq'] at e4 m1 m2
       have hm:0≤flI ((H-L)/M)+1∧OkM (numS L) (numS (iA L H M)) (flI ((H-L)/M)+1).toNat∧flI ((H-L)/M)+1≤1000000:=⟨by omega,m1,by omega⟩
       rw[← m2]
       (repeat'((conv=>whnf);first|refine Zn ?_|refine .h ?_|refine Zm ?_|fail))
       (conv=>whnf)
       (repeat'(first|exact trivial|rfl|refine And.intro ?_ ?_|fail))
      ·have hq':evC L H M=flI ((H-L)/M)+1:=hq
       rw[hq'] at e4 m1 m2
       have hm:0≤flI ((H-L)/M)+1+1∧OkM (numS L) (numS (iA L H M)) (flI ((H-L)/M)+1+1).toNat∧flI ((H-L)/M)+1+1≤1000000:=⟨by omega,m1,by omega⟩
       rw[← m2]
       (repeat'((conv=>whnf);first|refine Zn ?_|refine .h ?_|refine Zy ?_|refine Zm ?_|fail))
       (conv=>whnf)
       (repeat'(first|exact trivial|rfl|refine And.intro ?_ ?_|fail))
   ·rw[show evW lo hi m=([],2) by unfold evW;rw[if_neg (by rintro (h | h);exact h h1;exact h h2),if_pos h3]]
    have h5:=fun h=>h3 (hps.1 h)
    (repeat'((conv=>whnf);first|refine Zy ?_|refine Zm ?_|fail))
    (conv=>whnf)
    (repeat'(first|exact trivial|rfl|refine And.intro ?_ ?_|fail))
  ·rw[show evW lo hi m=([],1) from if_pos (.inr h2)]
   (repeat'((conv=>whnf);first|refine Zy ?_|refine Zm ?_|fail))
   (conv=>whnf)
   (repeat'(first|exact trivial|rfl|refine And.intro ?_ ?_|fail))
 ·rw[show evW lo hi m=([],1) from if_pos (.inl h1)]
  (repeat'((conv=>whnf);first|refine Zy ?_|fail))
  (conv=>whnf)
  (repeat'(first|exact trivial|rfl|refine And.intro ?_ ?_|fail))
def aJ0:Con:=aJ 14 false fun args K=>match args with | [.agg [.str lo,.str hi],.str m]=>Need (Lm [lo,hi,m]) (K (.tup [.seq .str (evW lo hi m).1,I (evW lo hi m).2])) | _=>False
theorem k2014:aF Tryz.prog aJ0:=by
 refine aC rfl (enters_of Tryz.func14 (by kernel_rfl) rfl) ?_
 intro args K h
 simp only[aJ0] at h
 split at h
 ·rename_i lo hi m;exact ⟨_,h.go,aA (Γ:=[uF,c21,aAx,c20n,c14n,c29n,aFp,sR,c61,aA0,aA1]) (by simp[aNt,k21,aQp,k20n,k14n,k29n,aQq,aNv,k61,aQs,aQt]) Tryz.func14 (by simp[Tryz.ntmps14]) rfl (b2014 lo hi m h.ok)⟩
 ·exact h.elim
set_option linter.unusedSimpArgs false
theorem aNw {xs ys:List (List UInt8)} (h:xs.length=ys.length) (hg:∀p,p<xs.length→xs.getD p []=ys.getD p []):xs=ys:=by
 apply List.ext_getElem h
 intro p h1 h2
 have:=hg p h1
 simpa [List.getD_eq_getElem?_getD,h1,h2] using this
theorem b2025 (xs ys:List (List UInt8)):body Tryz.prog [] { asks:=[(0,[])] } true Tryz.f25 [.seq .str xs,.seq .str ys] (.bl (xs=ys) inferInstance):=by
 (repeat'((conv=>whnf);first|refine Zg fun _=>?_|fail))
 (refine Br.mk (fun _=>?_) (fun _=>?_))
 ·rename_i h
  skip
  (conv=>whnf)
  exact fun e=>h (by rw[e])
 ·rename_i hl
  have hl:xs.length=ys.length:=by omega
  (repeat'((conv=>whnf);first|refine Zg fun _=>?_|fail))
  refine Ask.mk ⟨{ X:=Nat,pre:=fun i=>i≤xs.length∧∀j,j<i→xs.getD j []=ys.getD j [],mod:=fun i _=>[(13,I i)],heap:=fun i H=>H,mu:=fun i=>xs.length-i },rfl,?_⟩
  (repeat'((conv=>whnf);first|refine Zn ?_|fail))
  refine ⟨⟨(0:Nat),⟨Nat.zero_le _,fun j hj=>absurd hj (Nat.not_lt_zero _)⟩,by (repeat'(first|exact trivial|rfl|refine And.intro ?_ ?_|fail))⟩,fun (i:Nat) hi=>?_⟩
  obtain ⟨hi,hb⟩:=hi
  by_cases hlt:i<xs.length
  ·by_cases hne:xs.getD i []=ys.getD i []
   ·(repeat'((conv=>whnf);first|refine Zn ?_|refine Zj ?_|(apply Pin.mk;apply Exists.intro)|apply Pinned.mk rfl rfl|refine Zy ?_|refine Zm ?_|fail))
    refine ⟨(i+1:Nat),by show xs.length-(i+1)<xs.length-i;omega,⟨hlt,fun j hj=>?_⟩,by (repeat'(first|exact trivial|rfl|refine And.intro ?_ ?_|fail))⟩
    by_cases e:j=i
    ·subst e;exact hne
    ·exact hb j (by omega)
   ·(repeat'((conv=>whnf);first|refine Zn ?_|refine Zj ?_|(apply Pin.mk;apply Exists.intro)|apply Pinned.mk rfl rfl|refine Zy ?_|fail))
    (conv=>whnf)
    exact fun e=>hne (by rw[e])
  ·have hii:i=xs.length:=by omega
   subst hii
   (repeat'((conv=>whnf);first|refine Zm ?_|fail))
   (conv=>whnf)
   exact aNw hl hb
def aA2:Con:=aJ 25 true fun args K=>match args with | [.seq .str xs,.seq .str ys]=>K (.bl (xs=ys) inferInstance) | _=>False
theorem aQv:aF Tryz.prog aA2:=by
 refine aC rfl (enters_of Tryz.func25 (by kernel_rfl) rfl) ?_
 intro args K h
 simp only[aA2] at h
 split at h
 ·rename_i xs ys;exact ⟨_,h,aA (Γ:=[]) (by simp) Tryz.func25 (by simp[Tryz.ntmps25]) rfl (b2025 xs ys)⟩
 ·exact h.elim
theorem b2019 (l:List (List UInt8)):body Tryz.prog [c23,c44] { asks:=[(0,[])] } true Tryz.f19 [.seq .str l] (.bl (grtS l) inferInstance):=by
 skip
 refine Ask.mk ⟨{ X:=Nat,pre:=fun i=>i≤l.length∧∀j,j<i→¬grS1 (l.getD j []),mod:=fun i _=>[(3,I i)],heap:=fun i H=>H,mu:=fun i=>l.length-i },rfl,?_⟩
 (repeat'((conv=>whnf);first|refine Zn ?_|fail))
 refine ⟨⟨(0:Nat),⟨Nat.zero_le _,fun j hj=>by omega⟩,?_⟩,fun (i:Nat) hi=>?_⟩
 ·(repeat'(first|exact trivial|rfl|refine And.intro ?_ ?_|fail))
 obtain ⟨hi,hp⟩:=hi
 by_cases hlt:i<l.length
 ·have step:¬grS1 (l.getD i [])→i+1≤l.length∧∀j,j<i+1→¬grS1 (l.getD j []):=fun hn=>⟨hlt,fun j hj=>by
   rcases Nat.lt_succ_iff_lt_or_eq.1 hj with h1 | h1
   ·exact hp j h1
   ·subst h1;exact hn⟩
  by_cases h1:uG (l.getD i [])
  ·(repeat'((conv=>whnf);first|refine Zg fun _=>?_|refine Zn ?_|refine Zj ?_|refine Zy ?_|fail))
   (conv=>whnf)
   exact .inl ⟨_,fL hlt,.inl h1⟩
  ·by_cases h2:82<(l.getD i []).length
   ·by_cases h3:chkQ (l.getD i [])=0
    ·(repeat'((conv=>whnf);first|refine Zg fun _=>?_|refine Zn ?_|refine Zj ?_|refine Zy ?_|refine Zm ?_|fail))
     (conv=>whnf)
     exact .inl ⟨_,fL hlt,.inr ⟨h2,h3⟩⟩
    ·(repeat'((conv=>whnf);first|refine Zg fun _=>?_|refine Zn ?_|refine Zj ?_|refine Zy ?_|refine Zm ?_|fail))
     refine ⟨(i+1:Nat),by show l.length-(i+1)<l.length-i;omega,step (by rintro (h | h);exact h1 h;exact h3 h.2),?_⟩
     (repeat'(first|exact trivial|rfl|refine And.intro ?_ ?_|fail))
   ·(repeat'((conv=>whnf);first|refine Zg fun _=>?_|refine Zn ?_|refine Zj ?_|refine Zy ?_|refine Zm ?_|fail))
    refine ⟨(i+1:Nat),by show l.length-(i+1)<l.length-i;omega,step (by rintro (h | h);exact h1 h;exact h2 h.1),?_⟩
    (repeat'(first|exact trivial|rfl|refine And.intro ?_ ?_|fail))
 ·have e:i=l.length:=by omega
  subst e
  (repeat'((conv=>whnf);first|refine Zg fun _=>?_|refine Zm ?_|fail))
  (conv=>whnf)
  constructor
  ·intro h;exact .inr (by omega)
  ·rintro (⟨a,ha,h⟩ | h)
   ·obtain ⟨j,hj,rfl⟩:=List.getElem_of_mem ha
    exact absurd (by rw[List.getD_eq_getElem?_getD,List.getElem?_eq_getElem hj];exact h) (hp j hj)
   ·omega
def aJ1:Con:=aJ 19 true fun args K=>match args with | [.seq .str l]=>K (.bl (grtS l) inferInstance) | _=>False
theorem k2019:aF Tryz.prog aJ1:=by
 refine aC rfl (enters_of Tryz.func19 (by kernel_rfl) rfl) ?_
 intro args K h
 simp only[aJ1] at h
 split at h
 ·rename_i l;exact ⟨_,h,aA (Γ:=[c23,c44]) (by simp[k23,k44]) Tryz.func19 (by simp[Tryz.ntmps19]) rfl (b2019 l)⟩
 ·exact h.elim
theorem aPw:FewP [48] [49,48,48,48] [49,48,48] [52,48,48]:=by
 refine ⟨aMw.1,fun _ _ _ _=>?_⟩
 rw[← aQl,← n400,← numS0]
 simp only[bV]
 decide+kernel
theorem b2013:body Tryz.prog [aJz,aJ0,aA2] {} true Tryz.f13 [] (.val (.bool true)):=by
 have p1:=aPw
 have p2:=aMw.2
 have e1:(atW [48] [49,48,48,48] [49,48,48] [52,48,48]).2=0:=by rw[aQm]
 have e2:(atW [48] [49,48,48,48] [49,48,48] [52,48,48]).1= [[49,48,48],[53,48,48],[57,48,48]]:=by rw[aQm]
 have e3:(evW [48] [49,48] [52]).2=0:=by rw[aQn]
 have e4:(evW [48] [49,48] [52]).1= [[48],[49,48,47,51],[50,48,47,51],[49,48]]:=by rw[aQn]
 (repeat'((conv=>whnf);first|refine Zn ?_|refine Zl ?_|refine Zy ?_|fail))
 (conv=>whnf)
 exact iff_of_true e4 rfl
def aJ2:Con:=aJ 13 true fun args K=>match args with | []=>K (.val (.bool true)) | _=>False
theorem k2013:aF Tryz.prog aJ2:=by
 refine aC rfl (enters_of Tryz.func13 (by kernel_rfl) rfl) ?_
 intro args K h
 simp only[aJ2] at h
 split at h
 ·exact ⟨_,h,aA (Γ:=[aJz,aJ0,aA2]) (by simp[k2026,k2014,aQv]) Tryz.func13 (by simp[Tryz.ntmps13]) rfl b2013⟩
 ·exact h.elim
theorem b2009 (l m:List (List UInt8)) (t lo hi:List UInt8):body Tryz.prog [aJ1,aJ2,aJu,aJv,aJk,aJl,aJo,aJp,aJq,aJr,aA2] {} true Tryz.f9 [.seq .str l,.seq .str m,S t,.agg [S lo,S hi]] (.val (.bool true)):=by
 by_cases h1:grtS l
 ·(repeat'((conv=>whnf);first|refine Zy ?_|fail))
  (conv=>whnf)
  skip
 by_cases h2:grtS m
 ·(repeat'((conv=>whnf);first|refine Zy ?_|refine Zm ?_|fail))
  (conv=>whnf)
  skip
 by_cases h3:grtS [t,lo,hi]
 ·(repeat'((conv=>whnf);first|refine Zl ?_|refine Zy ?_|refine Zm ?_|fail))
  (conv=>whnf)
  skip
 have l1:=(aCn h1).1
 have l2:=(aCn h2).1
 have l3:=(aCn h3).1
 have p1:Lm l∧Lm m:=⟨l1,l2⟩
 have p2:Lm l∧(chkQ t=0→t.length≤82):=⟨l1,l3 t (by simp)⟩
 have p3:Lm l∧Lm [lo,hi]:=⟨l1,l3.sub fun a ha=>by simp at ha ⊢;exact .inr ha⟩
 have q1:(mgS l m).1=(mgS l m).1:=rfl
 have q2:(gpS l).1=(gpS l).1:=rfl
 have q3:(wiS l lo hi).1=(wiS l lo hi).1:=rfl
 (repeat'((conv=>whnf);first|refine Zn ?_|refine Zl ?_|refine Zy ?_|refine Zm ?_|fail))
 (conv=>whnf)
 skip
theorem t2009 (l m:List (List UInt8)) (t lo hi:List UInt8) (_:Okd (.slice .str) l) (_:Okd (.slice .str) m) (_:t.length≤maxL):Tri Tryz.prog true 9 [.seq .str l,.seq .str m,S t,.agg [S lo,S hi]] (.val (.bool true)):=
 aA (Γ:=[aJ1,aJ2,aJu,aJv,aJk,aJl,aJo,aJp,aJq,aJr,aA2]) (by simp[k2019,k2013,k2038,k2049,k2034,k2050,k2032,k2051,k2044,k2052,aQv]) Tryz.func9 (by simp[Tryz.ntmps9]) rfl (b2009 l m t lo hi)
end RB
end

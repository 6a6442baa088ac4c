/-
  Part 7: a symbolic executor over the model, contracts of functions and plain laws.
-/
import Derived.Test.YtpbmdklaeigpnaaGreatDoorP6
section
open Go Go.Proofs Go.Eng Go.Shelf IB Go.Lib Go.RowKit
namespace RB
set_option maxRecDepth 10000
set_option linter.unusedVariables false
set_option linter.unusedSimpArgs false
section
variable {p q r s t u:Rat}
theorem meP_num (z1:Sz 36 p) (z2:Sz 36 q) (z3:Sz 36 r) (y1:Sz 36 s) (y2:Sz 36 t) (y3:Sz 36 u):meP (numS p) (numS q) (numS r) (numS s) (numS t) (numS u)=
  if p-s=0∧q-t=0 then ([],[],[],12) else if p-s=0 then ([48],[49],numS ((u-r)/(q-t)),0) else ([49],numS ((q-t)/(p-s)),numS ((u-r)/(p-s)),0):=by
 unfold meP
 rw[if_neg (by rintro (h | h);exact h (chk3_no z1 z2 z3);exact h (chk3_no y1 y2 y3))]
 simp only[valQ_numS]
end
set_option maxHeartbeats 4000000 in
theorem b1015 (a b c a' b' c':List UInt8):body Tryz.prog [c1034,c1041,c14,c1040] {} true Tryz.f15 [.agg [S a,S b,S c],.agg [S a',S b',S c']] (.tup [S (meP a b c a' b' c').1,S (meP a b c a' b' c').2.1,S (meP a b c a' b' c').2.2.1,I (meP a b c a' b' c').2.2.2]):=by
 by_cases h1:chk3 a b c=0
 ·by_cases h2:chk3 a' b' c'=0
  ·obtain ⟨p,q,r,⟨rfl,rfl,rfl⟩,⟨z1,z2,z3⟩,v1,v2,v3⟩:=chk3_num h1
   obtain ⟨s,t,u,⟨rfl,rfl,rfl⟩,⟨y1,y2,y3⟩,w1,w2,w3⟩:=chk3_num h2
   rw[meP_num z1 z2 z3 y1 y2 y3]
   have s1:=subQ_sz z1 y1 (by decide) (by decide) (by decide)
   have s2:=subQ_sz z2 y2 (by decide) (by decide) (by decide)
   have s3:=subQ_sz y3 z3 (by decide) (by decide) (by decide)
   have he:keepE (keepE (keepE 0 (subQ (numS p) (numS s)).2) (subQ (numS q) (numS t)).2) (subQ (numS u) (numS r)).2=0:=by rw[s1,s2,s3];rfl
   by_cases hd:p-s=0
   ·have g1:(subQ (numS p) (numS s)).1= [48]:=by rw[s1,hd];exact numS0
    by_cases hf:q-t=0
    ·have g2:(subQ (numS q) (numS t)).1= [48]:=by rw[s2,hf];exact numS0
     rw[if_pos ⟨hd,hf⟩]
     (repeat'((conv=>whnf);first|(apply Pin.mk;apply Exists.intro)|apply Pinned.mk rfl rfl|(apply PinH.mk;apply Exists.intro;apply Exists.intro)|exact Zf|refine Zc ?_ ?_|refine Zy ?_|refine Zm ?_|fail))
     (conv=>whnf)
     (repeat'(first|exact trivial|rfl|refine And.intro ?_ ?_|fail))
    ·have g2:¬(subQ (numS q) (numS t)).1= [48]:=by rw[s2];exact fun h=>hf (numS_inj (h.trans numS0.symm))
     rw[if_neg (fun h=>hf h.2),if_pos hd]
     have d1:=divQ_sz (y3.sub z3) (z2.sub y2) (by decide) (by decide) (by decide) hf
     have d2:divQ (subQ (numS u) (numS r)).1 (subQ (numS q) (numS t)).1=(numS ((u-r)/(q-t)),0):=by rw[s3,s2];exact d1
     have hk:keepE (keepE (keepE (keepE 0 (subQ (numS p) (numS s)).2) (subQ (numS q) (numS t)).2) (subQ (numS u) (numS r)).2) (divQ (subQ (numS u) (numS r)).1 (subQ (numS q) (numS t)).1).2=0:=by rw[he,d2];rfl
     (repeat'((conv=>whnf);first|(apply Pin.mk;apply Exists.intro)|apply Pinned.mk rfl rfl|(apply PinH.mk;apply Exists.intro;apply Exists.intro)|exact Zf|refine Zc ?_ ?_|refine Zy ?_|refine Zm ?_|fail))
     (conv=>whnf)
     (repeat'(first|exact trivial|rfl|refine And.intro ?_ ?_|fail))
     (conv=>whnf)
     rw[d2]
   ·have g1:¬(subQ (numS p) (numS s)).1= [48]:=by rw[s1];exact fun h=>hd (numS_inj (h.trans numS0.symm))
    rw[if_neg (fun h=>hd h.1),if_neg hd]
    have d1:divQ (subQ (numS u) (numS r)).1 (subQ (numS p) (numS s)).1=(numS ((u-r)/(p-s)),0):=by rw[s3,s1];exact divQ_sz (y3.sub z3) (z1.sub y1) (by decide) (by decide) (by decide) hd
    have d2:divQ (subQ (numS q) (numS t)).1 (subQ (numS p) (numS s)).1=(numS ((q-t)/(p-s)),0):=by rw[s2,s1];exact divQ_sz (z2.sub y2) (z1.sub y1) (by decide) (by decide) (by decide) hd
    have hk:keepE (keepE (keepE (keepE (keepE 0 (subQ (numS p) (numS s)).2) (subQ (numS q) (numS t)).2) (subQ (numS u) (numS r)).2) (divQ (subQ (numS q) (numS t)).1 (subQ (numS p) (numS s)).1).2) (divQ (subQ (numS u) (numS r)).1 (subQ (numS p) (numS s)).1).2=0:=by rw[he,d2,d1];rfl
    (repeat'((conv=>whnf);first|(apply Pin.mk;apply Exists.intro)|apply Pinned.mk rfl rfl|(apply PinH.mk;apply Exists.intro;apply Exists.intro)|exact Zf|refine Zc ?_ ?_|refine Zm ?_|fail))
    (conv=>whnf)
    (repeat'(first|exact trivial|rfl|refine And.intro ?_ ?_|fail))
    ·(conv=>whnf)
     rw[d2]
    ·(conv=>whnf)
     rw[d1]
  ·have e:meP a b c a' b' c'=([],[],[],1):=by unfold meP;rw[if_pos (.inr h2)]
   rw[e]
   (repeat'((conv=>whnf);first|refine Zy ?_|refine Zm ?_|fail))
   (conv=>whnf)
   (repeat'(first|exact trivial|rfl|refine And.intro ?_ ?_|fail))
 ·have e:meP a b c a' b' c'=([],[],[],1):=by unfold meP;rw[if_pos (.inl h1)]
  rw[e]
  (repeat'((conv=>whnf);first|refine Zy ?_|fail))
  (conv=>whnf)
  (repeat'(first|exact trivial|rfl|refine And.intro ?_ ?_|fail))
def c1015:Con:=mkCon 15 true fun args K=>match args with | [.agg [.str a,.str b,.str c],.agg [.str a',.str b',.str c']]=>K (.tup [S (meP a b c a' b' c').1,S (meP a b c a' b' c').2.1,S (meP a b c a' b' c').2.2.1,I (meP a b c a' b' c').2.2.2]) | _=>False
theorem k1015:ConOK Tryz.prog c1015:=by
 refine conOK_of rfl (enters_of Tryz.func15 (by kernel_rfl) rfl) ?_
 intro args K h
 simp only[c1015] at h
 split at h
 ·rename_i a b c a' b' c';exact ⟨_,h,tri_of_body (Γ:=[c1034,c1041,c14,c1040]) (by simp[k1034,k1041,k14,k1040]) Tryz.func15 (by simp[Tryz.ntmps15]) rfl (b1015 a b c a' b' c')⟩
 ·exact h.elim
def grtP (l:List (List UInt8)):Prop:=∃a∈l,(20<a.length∧a.length<80)∨700<a.length
noncomputable instance (l:List (List UInt8)):Decidable (grtP l):=Classical.propDecidable _
theorem b1050 (s:List UInt8):body Tryz.prog [c44] {} true Tryz.f50 [S s] (.bl (badS s) inferInstance):=by
 unfold badS
 (repeat'((conv=>whnf);first|refine Zg fun _=>?_|fail))
 (refine Br.mk (fun _=>?_) (fun _=>?_))
 ·rename_i h
  skip
  (conv=>whnf)
  exact .inl (by omega)
 ·rename_i h
  skip
  (conv=>whnf)
  constructor
  ·exact .inr
  ·rintro (h1 | h1)
   ·omega
   ·exact h1
def c1050:Con:=mkCon 50 true fun args K=>match args with | [.str s]=>K (.bl (badS s) inferInstance) | _=>False
theorem k1050:ConOK Tryz.prog c1050:=by
 refine conOK_of rfl (enters_of Tryz.func50 (by kernel_rfl) rfl) ?_
 intro args K h
 simp only[c1050] at h
 split at h
 ·rename_i s;exact ⟨_,h,tri_of_body (Γ:=[c44]) (by simp[k44]) Tryz.func50 (by simp[Tryz.ntmps50]) rfl (b1050 s)⟩
 ·exact h.elim
theorem b74t (l:List (List UInt8)):body Tryz.prog [c1050] { asks:=[(0,[])] } true Tryz.f86 [.seq .str l,.clo 50 [] []] (I (ixD badS l)):=by
 (repeat'((conv=>whnf);first|refine Zg fun _=>?_|fail))
 refine Ask.mk ⟨{ X:=Nat,pre:=fun i=>i≤l.length∧∀j,j<i→¬badS (l.getD j []),mod:=fun i _=>[(8,I i)],heap:=fun i H=>H,mu:=fun i=>l.length-i },rfl,?_⟩
 (repeat'((conv=>whnf);first|refine Zn ?_|fail))
 refine ⟨⟨(0:Nat),⟨Nat.zero_le _,fun j hj=>by omega⟩,?_⟩,fun (i:Nat) hi=>?_⟩
 ·(repeat'(first|exact trivial|rfl|refine And.intro ?_ ?_|fail))
 obtain ⟨hi,hp⟩:=hi
 skip
 (refine Br.mk (fun _=>?_) (fun _=>?_))
 ·have hlt:i<l.length:=by omega
  (repeat'((conv=>whnf);first|refine Zn ?_|refine Zj ?_|fail))
  (refine Br.mk (fun _=>?_) (fun _=>?_))
  ·rename_i hb
   skip
   (conv=>whnf)
   (repeat'(first|rfl|refine And.intro ?_ ?_|fail))
   exact (ixD_at _ hlt hb hp).symm
  ·rename_i hb
   (repeat'((conv=>whnf);first|refine Zn ?_|fail))
   refine ⟨(i+1:Nat),by show l.length-(i+1)<l.length-i;omega,⟨hlt,fun j hj=>?_⟩,?_⟩
   ·rcases Nat.lt_succ_iff_lt_or_eq.1 hj with h1 | h1
    ·exact hp j h1
    ·subst h1;exact hb
   ·(repeat'(first|exact trivial|rfl|refine And.intro ?_ ?_|fail))
 ·have e:i=l.length:=by omega
  subst e
  skip
  (conv=>whnf)
  (repeat'(first|rfl|refine And.intro ?_ ?_|fail))
  exact (ixD_no _ hp).symm
def c74t:Con:=mkCon 86 true fun args K=>match args with | [.seq .str l,.clo 50 [] []]=>K (I (ixD badS l)) | _=>False
theorem k74t:ConOK Tryz.prog c74t:=by
 refine conOK_of rfl (enters_of Tryz.func86 (by kernel_rfl) rfl) ?_
 intro args K h
 simp only[c74t] at h
 split at h
 ·rename_i l;exact ⟨_,h,tri_of_body (Γ:=[c1050]) (by simp[k1050]) Tryz.func86 (by simp[Tryz.ntmps86]) rfl (b74t l)⟩
 ·exact h.elim
theorem b33t (l:List (List UInt8)):body Tryz.prog [c74t] {} true Tryz.f49 [.seq .str l,.clo 50 [] []] (.bl (0≤ixD badS l) inferInstance):=by
 skip
 (conv=>whnf)
 skip
def c33t:Con:=mkCon 49 true fun args K=>match args with | [.seq .str l,.clo 50 [] []]=>K (.bl (0≤ixD badS l) inferInstance) | _=>False
theorem k33t:ConOK Tryz.prog c33t:=by
 refine conOK_of rfl (enters_of Tryz.func49 (by kernel_rfl) rfl) ?_
 intro args K h
 simp only[c33t] at h
 split at h
 ·rename_i l;exact ⟨_,h,tri_of_body (Γ:=[c74t]) (by simp[k74t]) Tryz.func49 (by simp[Tryz.ntmps49]) rfl (b33t l)⟩
 ·exact h.elim
theorem b1017 (l:List (List UInt8)):body Tryz.prog [c33t] {} true Tryz.f17 [.seq .str l] (.bl (shortL l) inferInstance):=by
 skip
 (conv=>whnf)
 exact shortL_iff l
def c1017:Con:=mkCon 17 true fun args K=>match args with | [.seq .str l]=>K (.bl (shortL l) inferInstance) | _=>False
theorem k1017:ConOK Tryz.prog c1017:=by
 refine conOK_of rfl (enters_of Tryz.func17 (by kernel_rfl) rfl) ?_
 intro args K h
 simp only[c1017] at h
 split at h
 ·rename_i l;exact ⟨_,h,tri_of_body (Γ:=[c33t]) (by simp[k33t]) Tryz.func17 (by simp[Tryz.ntmps17]) rfl (b1017 l)⟩
 ·exact h.elim
theorem b1018 (a b c:List UInt8):body Tryz.prog [c1017] {} true Tryz.f18 [.agg [S a,S b,S c]] (.bl (shortL [a,b,c]) inferInstance):=by
 (repeat'((conv=>whnf);first|refine Zl ?_|fail))
 (conv=>whnf)
 skip
def c1018:Con:=mkCon 18 true fun args K=>match args with | [.agg [.str a,.str b,.str c]]=>K (.bl (shortL [a,b,c]) inferInstance) | _=>False
theorem k1018:ConOK Tryz.prog c1018:=by
 refine conOK_of rfl (enters_of Tryz.func18 (by kernel_rfl) rfl) ?_
 intro args K h
 simp only[c1018] at h
 split at h
 ·rename_i a b c;exact ⟨_,h,tri_of_body (Γ:=[c1017]) (by simp[k1017]) Tryz.func18 (by simp[Tryz.ntmps18]) rfl (b1018 a b c)⟩
 ·exact h.elim
theorem b1012:body Tryz.prog [c1013,c1015,c1023] {} true Tryz.f12 [] (.val (.bool true)):=by
 have e1:(thP [48] [48] [48] [50] [48] [49] [48] [51] [48]).2.2.2=0:=by rw[aw_th]
 have e2:(meP [49] [48] [48] [48] [49] [48]).2.2.2=0:=by rw[aw_me]
 have e3:(nmP [49] [48] [48] [48] [49] [48]).2.2=0:=by rw[aw_nm]
 have e4: [(thP [48] [48] [48] [50] [48] [49] [48] [51] [48]).1,(thP [48] [48] [48] [50] [48] [49] [48] [51] [48]).2.1,(thP [48] [48] [48] [50] [48] [49] [48] [51] [48]).2.2.1]= [[49,47,50],[48],[48]]:=by rw[aw_th]
 have e5:(meP [49] [48] [48] [48] [49] [48]).1= [49]:=by rw[aw_me]
 have e6:(meP [49] [48] [48] [48] [49] [48]).2.1= [45,49]:=by rw[aw_me]
 have e7:(meP [49] [48] [48] [48] [49] [48]).2.2.1= [48]:=by rw[aw_me]
 have e8:(nmP [49] [48] [48] [48] [49] [48]).1= [49]:=by rw[aw_nm]
 have e9:(nmP [49] [48] [48] [48] [49] [48]).2.1= [52]:=by rw[aw_nm]
 (repeat'((conv=>whnf);first|refine Zy ?_|fail))
 refine Need.mk ⟨⟨by decide,by decide,by decide,trivial⟩,by kernel_rfl⟩ ?_
 (repeat'((conv=>whnf);first|refine Zy ?_|fail))
 (conv=>whnf)
 exact iff_of_true e9 rfl
def c1012:Con:=mkCon 12 true fun args K=>match args with | []=>K (.val (.bool true)) | _=>False
theorem k1012:ConOK Tryz.prog c1012:=by
 refine conOK_of rfl (enters_of Tryz.func12 (by kernel_rfl) rfl) ?_
 intro args K h
 simp only[c1012] at h
 split at h
 ·exact ⟨_,h,tri_of_body (Γ:=[c1013,c1015,c1023]) (by simp[k1013,k1015,k1023]) Tryz.func12 (by simp[Tryz.ntmps12]) rfl b1012⟩
 ·exact h.elim
section
variable {a b c d:List UInt8}
theorem short2 (h:shortL [a,b]):∃p q,(a=numS p∧b=numS q)∧Sz 12 p∧Sz 12 q:=by
 obtain ⟨p,h1,z1⟩:=short_ex h (a:=a) (by simp)
 obtain ⟨q,h2,z2⟩:=short_ex h (a:=b) (by simp)
 exact ⟨p,q,⟨h1,h2⟩,z1,z2⟩
theorem short3 (h:shortL [a,b,c]):∃p q r,(a=numS p∧b=numS q∧c=numS r)∧Sz 12 p∧Sz 12 q∧Sz 12 r:=by
 obtain ⟨p,h1,z1⟩:=short_ex h (a:=a) (by simp)
 obtain ⟨q,h2,z2⟩:=short_ex h (a:=b) (by simp)
 obtain ⟨r,h3,z3⟩:=short_ex h (a:=c) (by simp)
 exact ⟨p,q,r,⟨h1,h2,h3⟩,z1,z2,z3⟩
theorem short4 (h:shortL [a,b,c,d]):∃p q r s,(a=numS p∧b=numS q∧c=numS r∧d=numS s)∧Sz 12 p∧Sz 12 q∧Sz 12 r∧Sz 12 s:=by
 obtain ⟨p,h1,z1⟩:=short_ex h (a:=a) (by simp)
 obtain ⟨q,h2,z2⟩:=short_ex h (a:=b) (by simp)
 obtain ⟨r,h3,z3⟩:=short_ex h (a:=c) (by simp)
 obtain ⟨s,h4,z4⟩:=short_ex h (a:=d) (by simp)
 exact ⟨p,q,r,s,⟨h1,h2,h3,h4⟩,z1,z2,z3,z4⟩
end
theorem Sz.up' {q:Rat} (h:Sz 12 q):Sz 36 q:=h.mono (by decide)
theorem sz2:Sz 1 (2:Rat):=⟨by decide,by decide⟩
theorem sz_at {a b c x y:Rat} {i j:Nat} (ha:Sz i a) (hb:Sz i b) (hc:Sz i c) (hx:Sz j x) (hy:Sz j y):Sz (3*i+2*j+2) (a*x+b*y+c):=by
 have:=((ha.mul hx).add (hb.mul hy)).add hc
 rwa [show i+j+(i+j)+1+i+1=3*i+2*j+2 by omega] at this
set_option maxHeartbeats 4000000 in
theorem b1005 (a b c x y u v:List UInt8):body Tryz.prog [c1018,c1017,c1012,c17,c14,c1019,c19] {} true Tryz.f5 [.agg [S a,S b,S c],.agg [S x,S y],.agg [S u,S v]] (.val (.bool true)):=by
 by_cases h1:shortL [a,b,c]
 ·by_cases h2:shortL [x,y,u,v]
  ·obtain ⟨p,q,r,⟨rfl,rfl,rfl⟩,zp,zq,zr⟩:=short3 h1
   obtain ⟨x,y,u,v,⟨rfl,rfl,rfl,rfl⟩,zx,zy,zu,zv⟩:=short4 h2
   have x1:addQ (numS x) (numS u)=(numS (x+u),0):=addQ_sz zx zu (by decide) (by decide) (by decide)
   have x2:addQ (numS y) (numS v)=(numS (y+v),0):=addQ_sz zy zv (by decide) (by decide) (by decide)
   have zm:=(zx.add zu).div sz2 (by decide)
   have zn:=(zy.add zv).div sz2 (by decide)
   have x3:divQ (addQ (numS x) (numS u)).1 [50]=(numS ((x+u)/2),0):=by rw[x1,← numS2];exact divQ_sz (zx.add zu) sz2 (by decide) (by decide) (by decide) (by decide)
   have x4:divQ (addQ (numS y) (numS v)).1 [50]=(numS ((y+v)/2),0):=by rw[x2,← numS2];exact divQ_sz (zy.add zv) sz2 (by decide) (by decide) (by decide) (by decide)
   have x5:atP (numS p) (numS q) (numS r) (divQ (addQ (numS x) (numS u)).1 [50]).1 (divQ (addQ (numS y) (numS v)).1 [50]).1=(numS (p*((x+u)/2)+q*((y+v)/2)+r),0):=by rw[x3,x4];exact atP_num zp.up' zq.up' zr.up' (zm.mono (by decide)) (zn.mono (by decide))
   have x6:atP (numS p) (numS q) (numS r) (numS x) (numS y)=(numS (p*x+q*y+r),0):=atP_num zp.up' zq.up' zr.up' zx.up' zy.up'
   have x7:atP (numS p) (numS q) (numS r) (numS u) (numS v)=(numS (p*u+q*v+r),0):=atP_num zp.up' zq.up' zr.up' zu.up' zv.up'
   have x8:addQ (atP (numS p) (numS q) (numS r) (numS x) (numS y)).1 (atP (numS p) (numS q) (numS r) (numS u) (numS v)).1=(numS ((p*x+q*y+r)+(p*u+q*v+r)),0):=by rw[x6,x7];exact addQ_sz (sz_at zp zq zr zx zy) (sz_at zp zq zr zu zv) (by decide) (by decide) (by decide)
   have x9:mulQ (atP (numS p) (numS q) (numS r) (divQ (addQ (numS x) (numS u)).1 [50]).1 (divQ (addQ (numS y) (numS v)).1 [50]).1).1 [50]=(numS ((p*((x+u)/2)+q*((y+v)/2)+r)*2),0):=by rw[x5,← numS2];exact mulQ_sz (sz_at zp zq zr zm zn) sz2 (by decide) (by decide) (by decide)
   have f1:=congrArg Prod.snd x1
   have f2:=congrArg Prod.snd x2
   have f3:=congrArg Prod.snd x3
   have f4:=congrArg Prod.snd x4
   have f5:=congrArg Prod.snd x5
   have f6:=congrArg Prod.snd x6
   have f7:=congrArg Prod.snd x7
   have f8:=congrArg Prod.snd x8
   have f9:=congrArg Prod.snd x9
   have e1:(addQ (atP (numS p) (numS q) (numS r) (numS x) (numS y)).1 (atP (numS p) (numS q) (numS r) (numS u) (numS v)).1).1=(mulQ (atP (numS p) (numS q) (numS r) (divQ (addQ (numS x) (numS u)).1 [50]).1 (divQ (addQ (numS y) (numS v)).1 [50]).1).1 [50]).1:=by rw[x8,x9,midR]
   dsimp only at f1 f2 f3 f4 f5 f6 f7 f8 f9
   (repeat'((conv=>whnf);first|refine Zl ?_|refine Zy ?_|refine Zm ?_|fail))
   (conv=>whnf)
   skip
  ·(repeat'((conv=>whnf);first|refine Zl ?_|refine Zy ?_|refine Zm ?_|fail))
   (conv=>whnf)
   skip
 ·(repeat'((conv=>whnf);first|refine Zy ?_|fail))
  (conv=>whnf)
  skip
theorem t1005 (a b c x y u v:List UInt8):Tri Tryz.prog true 5 [.agg [S a,S b,S c],.agg [S x,S y],.agg [S u,S v]] (.val (.bool true)):=
 tri_of_body (Γ:=[c1018,c1017,c1012,c17,c14,c1019,c19]) (by simp[k1018,k1017,k1012,k17,k14,k1019,k19]) Tryz.func5 (by simp[Tryz.ntmps5]) rfl (b1005 a b c x y u v)
theorem nmP_num {p q r s t u:Rat} (z1:Sz 36 p) (z2:Sz 36 q) (z3:Sz 36 r) (y1:Sz 36 s) (y2:Sz 36 t) (y3:Sz 36 u):nmP (numS p) (numS q) (numS r) (numS s) (numS t) (numS u)=(numS (p*s+q*t+1),numS ((p*p+q*q+1)*(s*s+t*t+1)),0):=by
 unfold nmP dotP
 rw[if_neg (by rintro (h | h);exact h (chk3_no z1 z2 z3);exact h (chk3_no y1 y2 y3))]
 simp only[valQ_numS]
theorem abP_num {p q r s t u x y:Rat} (z1:Sz 36 p) (z2:Sz 36 q) (z3:Sz 36 r) (y1:Sz 36 s) (y2:Sz 36 t) (y3:Sz 36 u) (x1:Sz 36 x) (x2:Sz 36 y):abP (numS p) (numS q) (numS r) (numS s) (numS t) (numS u) (numS x) (numS y)=cmpQ (numS (p*x+q*y+r)) (numS (s*x+t*y+u)):=by
 unfold abP hgt
 rw[if_neg (by rintro (h | h | h);exact h (chk3_no z1 z2 z3);exact h (chk3_no y1 y2 y3);exact bad2_no x1 x2 h)]
 simp only[valQ_numS]
theorem cmpR_mono {p p' q:Rat} (h:p≤p'):cmpR p q≤cmpR p' q:=by
 have h1:=cmpR_rng p q
 have h2:=cmpR_rng p' q
 by_cases ha:p'<q
 ·have h3:=(cmpR_lt p q).2 (Rat.not_le.1 fun h'=>Rat.not_le.2 ha (Rat.le_trans h' h))
  omega
 ·by_cases hb:q<p'
  ·have:=cmpR_neg p' q
   have h3:=(cmpR_lt q p').2 hb
   omega
  ·have h4:p'=q:=Rat.le_antisymm (Rat.not_lt.1 hb) (Rat.not_lt.1 ha)
   have h5:=(cmpR_le p q).2 (h4 ▸ h)
   have h6:=(cmpR_zero p' q).2 h4
   omega
set_option maxHeartbeats 4000000 in
theorem b1006 (a b c a' b' c':List UInt8):body Tryz.prog [c1018,c1012,c1023,c19,c38] {} true Tryz.f6 [.agg [S a,S b,S c],.agg [S a',S b',S c']] (.val (.bool true)):=by
 by_cases h1:shortL [a,b,c]
 ·by_cases h2:shortL [a',b',c']
  ·obtain ⟨p,q,r,⟨rfl,rfl,rfl⟩,zp,zq,zr⟩:=short3 h1
   obtain ⟨s,t,u,⟨rfl,rfl,rfl⟩,zs,zt,zu⟩:=short3 h2
   have x1:=nmP_num zp.up' zq.up' zr.up' zs.up' zt.up' zu.up'
   have x2:=nmP_num zs.up' zt.up' zu.up' zp.up' zq.up' zr.up'
   have k1:Sz 51 (p*s+q*t+1):=(((zp.mul zs).add (zq.mul zt)).add sz1).mono (by decide)
   have k2:Sz 51 (p*p+q*q+1):=(((zp.mul zp).add (zq.mul zq)).add sz1).mono (by decide)
   have k3:Sz 51 (s*s+t*t+1):=(((zs.mul zs).add (zt.mul zt)).add sz1).mono (by decide)
   have x3:mulQ (nmP (numS p) (numS q) (numS r) (numS s) (numS t) (numS u)).1 (nmP (numS p) (numS q) (numS r) (numS s) (numS t) (numS u)).1=(numS ((p*s+q*t+1)*(p*s+q*t+1)),0):=by rw[x1];exact mulQ_sz k1 k1 (by decide) (by decide) (by decide)
   have x4:cmpQ (mulQ (nmP (numS p) (numS q) (numS r) (numS s) (numS t) (numS u)).1 (nmP (numS p) (numS q) (numS r) (numS s) (numS t) (numS u)).1).1 (nmP (numS p) (numS q) (numS r) (numS s) (numS t) (numS u)).2.1=(cmpR ((p*s+q*t+1)*(p*s+q*t+1)) ((p*p+q*q+1)*(s*s+t*t+1)),0):=by
    rw[x3,x1];exact cmpQ_R (k1.mul k1) (k2.mul k3) (by decide) (by decide) (by decide)
   have f1:(nmP (numS p) (numS q) (numS r) (numS s) (numS t) (numS u)).2.2=0:=by rw[x1]
   have f2:(nmP (numS s) (numS t) (numS u) (numS p) (numS q) (numS r)).2.2=0:=by rw[x2]
   have f3:(mulQ (nmP (numS p) (numS q) (numS r) (numS s) (numS t) (numS u)).1 (nmP (numS p) (numS q) (numS r) (numS s) (numS t) (numS u)).1).2=0:=by rw[x3]
   have f4:(cmpQ (mulQ (nmP (numS p) (numS q) (numS r) (numS s) (numS t) (numS u)).1 (nmP (numS p) (numS q) (numS r) (numS s) (numS t) (numS u)).1).1 (nmP (numS p) (numS q) (numS r) (numS s) (numS t) (numS u)).2.1).2=0:=by rw[x4]
   have e1:(nmP (numS p) (numS q) (numS r) (numS s) (numS t) (numS u)).1=(nmP (numS s) (numS t) (numS u) (numS p) (numS q) (numS r)).1:=by
    rw[x1,x2,Rat.mul_comm p s,Rat.mul_comm q t]
   have e2:(nmP (numS p) (numS q) (numS r) (numS s) (numS t) (numS u)).2.1=(nmP (numS s) (numS t) (numS u) (numS p) (numS q) (numS r)).2.1:=by
    rw[x1,x2,Rat.mul_comm (p*p+q*q+1)]
   have e3:(cmpQ (mulQ (nmP (numS p) (numS q) (numS r) (numS s) (numS t) (numS u)).1 (nmP (numS p) (numS q) (numS r) (numS s) (numS t) (numS u)).1).1 (nmP (numS p) (numS q) (numS r) (numS s) (numS t) (numS u)).2.1).1≤0:=by
    rw[x4];exact (cmpR_le _ _).2 (normR p q s t)
   have e4:(cmpQ (mulQ (nmP (numS p) (numS q) (numS r) (numS s) (numS t) (numS u)).1 (nmP (numS p) (numS q) (numS r) (numS s) (numS t) (numS u)).1).1 (nmP (numS p) (numS q) (numS r) (numS s) (numS t) (numS u)).2.1).1=0↔(numS p=numS s∧numS q=numS t):=by
    rw[x4,cmpR_zero,normR_eq]
    exact ⟨fun ⟨h1,h2⟩=>⟨by rw[h1],by rw[h2]⟩,fun ⟨h1,h2⟩=>⟨numS_inj h1,numS_inj h2⟩⟩
   by_cases g1:numS p=numS s
   ·have e5:(cmpQ (mulQ (nmP (numS p) (numS q) (numS r) (numS s) (numS t) (numS u)).1 (nmP (numS p) (numS q) (numS r) (numS s) (numS t) (numS u)).1).1 (nmP (numS p) (numS q) (numS r) (numS s) (numS t) (numS u)).2.1).1=0↔numS q=numS t:=⟨fun h=>(e4.1 h).2,fun h=>e4.2 ⟨g1,h⟩⟩
    (repeat'((conv=>whnf);first|refine Zy ?_|refine Zm ?_|fail))
    (conv=>whnf)
    skip
   ·have e5:=iff_of_false (fun h=>g1 (e4.1 h).1) (by decide:¬false=true)
    (repeat'((conv=>whnf);first|refine Zy ?_|refine Zm ?_|fail))
    (conv=>whnf)
    skip
  ·(repeat'((conv=>whnf);first|refine Zy ?_|refine Zm ?_|fail))
   (conv=>whnf)
   skip
 ·(repeat'((conv=>whnf);first|refine Zy ?_|fail))
  (conv=>whnf)
  skip
set_option maxHeartbeats 4000000 in
theorem b1008 (a b c a' b' c' x y g:List UInt8):body Tryz.prog [c1018,c1017,c1012,c1025,c17,c38] {} true Tryz.f8 [.agg [S a,S b,S c],.agg [S a',S b',S c'],.agg [S x,S y],S g] (.val (.bool true)):=by
 by_cases h1:shortL [a,b,c]
 ·by_cases h2:shortL [a',b',c']
  ·by_cases h3:shortL [x,y,g]
   ·obtain ⟨p,q,r,⟨rfl,rfl,rfl⟩,zp,zq,zr⟩:=short3 h1
    obtain ⟨s,t,u,⟨rfl,rfl,rfl⟩,zs,zt,zu⟩:=short3 h2
    obtain ⟨x,y,g,⟨rfl,rfl,rfl⟩,zx,zy,zg⟩:=short3 h3
    have w1:Sz 63 (p*x+q*y+r):=(sz_at zp zq zr zx zy).mono (by decide)
    have w2:Sz 63 (s*x+t*y+u):=(sz_at zs zt zu zx zy).mono (by decide)
    have w3:Sz 75 (p*x+q*y+(r+g)):=(((zp.mul zx).add (zq.mul zy)).add (zr.add zg)).mono (by decide)
    have x1:abP (numS p) (numS q) (numS r) (numS s) (numS t) (numS u) (numS x) (numS y)=(cmpR (p*x+q*y+r) (s*x+t*y+u),0):=by rw[abP_num zp.up' zq.up' zr.up' zs.up' zt.up' zu.up' zx.up' zy.up'];exact cmpQ_R w1 w2 (by decide) (by decide) (by decide)
    have x2:abP (numS s) (numS t) (numS u) (numS p) (numS q) (numS r) (numS x) (numS y)=(cmpR (s*x+t*y+u) (p*x+q*y+r),0):=by rw[abP_num zs.up' zt.up' zu.up' zp.up' zq.up' zr.up' zx.up' zy.up'];exact cmpQ_R w2 w1 (by decide) (by decide) (by decide)
    have x3:addQ (numS r) (numS g)=(numS (r+g),0):=addQ_sz zr zg (by decide) (by decide) (by decide)
    have zh:Sz 36 (r+g):=(zr.add zg).mono (by decide)
    have x4:abP (numS p) (numS q) (addQ (numS r) (numS g)).1 (numS s) (numS t) (numS u) (numS x) (numS y)=(cmpR (p*x+q*y+(r+g)) (s*x+t*y+u),0):=by rw[x3,abP_num zp.up' zq.up' zh zs.up' zt.up' zu.up' zx.up' zy.up'];exact cmpQ_R w3 w2 (by decide) (by decide) (by decide)
    have x5:abP (numS p) (numS q) (addQ (numS r) (numS g)).1 (numS p) (numS q) (numS r) (numS x) (numS y)=(cmpR (p*x+q*y+(r+g)) (p*x+q*y+r),0):=by rw[x3,abP_num zp.up' zq.up' zh zp.up' zq.up' zr.up' zx.up' zy.up'];exact cmpQ_R w3 w1 (by decide) (by decide) (by decide)
    have x6:cmpQ (numS g) [48]=(cmpR g 0,0):=by rw[← numS0];exact cmpQ_R zg sz0 (by decide) (by decide) (by decide)
    have hn:=cmpR_neg (p*x+q*y+r) (s*x+t*y+u)
    have ho:cmpR (p*x+q*y+(r+g)) (p*x+q*y+r)=cmpR g 0:=by
     have:=cmpR_add g 0 (p*x+q*y+r)
     rw[Rat.zero_add] at this
     rw[← this]
     congr 1
     rw[← Rat.add_assoc,Rat.add_comm]
    have hup:0≤cmpR g 0→cmpR (p*x+q*y+r) (s*x+t*y+u)≤cmpR (p*x+q*y+(r+g)) (s*x+t*y+u):=fun h=>cmpR_mono (by
     have:¬g<0:=fun hg=>by have:=(cmpR_lt g 0).2 hg;omega
     have:=Rat.not_lt.1 this
     rw[← Rat.add_assoc]
     have h3:=Rat.add_le_add_left (c:=p*x+q*y+r) |>.2 this
     rwa [Rat.add_zero] at h3)
    have hdn:cmpR g 0≤0→cmpR (p*x+q*y+(r+g)) (s*x+t*y+u)≤cmpR (p*x+q*y+r) (s*x+t*y+u):=fun h=>cmpR_mono (by
     have:=(cmpR_le g 0).1 h
     rw[← Rat.add_assoc]
     have h3:=Rat.add_le_add_left (c:=p*x+q*y+r) |>.2 this
     rwa [Rat.add_zero] at h3)
    have g1:=cmpR_rng (p*x+q*y+r) (s*x+t*y+u)
    have g2:=cmpR_rng (s*x+t*y+u) (p*x+q*y+r)
    have f1:(abP (numS p) (numS q) (numS r) (numS s) (numS t) (numS u) (numS x) (numS y)).2=0:=by rw[x1]
    have f2:(abP (numS s) (numS t) (numS u) (numS p) (numS q) (numS r) (numS x) (numS y)).2=0:=by rw[x2]
    have f3:(addQ (numS r) (numS g)).2=0:=by rw[x3]
    have f4:(abP (numS p) (numS q) (addQ (numS r) (numS g)).1 (numS s) (numS t) (numS u) (numS x) (numS y)).2=0:=by rw[x4]
    have f5:(abP (numS p) (numS q) (addQ (numS r) (numS g)).1 (numS p) (numS q) (numS r) (numS x) (numS y)).2=0:=by rw[x5]
    have f6:(cmpQ (numS g) [48]).2=0:=by rw[x6]
    have e1:(abP (numS p) (numS q) (numS r) (numS s) (numS t) (numS u) (numS x) (numS y)).1=cmpR (p*x+q*y+r) (s*x+t*y+u):=by rw[x1]
    have e2:(abP (numS s) (numS t) (numS u) (numS p) (numS q) (numS r) (numS x) (numS y)).1=cmpR (s*x+t*y+u) (p*x+q*y+r):=by rw[x2]
    have e4:(abP (numS p) (numS q) (addQ (numS r) (numS g)).1 (numS s) (numS t) (numS u) (numS x) (numS y)).1=cmpR (p*x+q*y+(r+g)) (s*x+t*y+u):=by rw[x4]
    have e5:(abP (numS p) (numS q) (addQ (numS r) (numS g)).1 (numS p) (numS q) (numS r) (numS x) (numS y)).1=cmpR (p*x+q*y+(r+g)) (p*x+q*y+r):=by rw[x5]
    have e6:(cmpQ (numS g) [48]).1=cmpR g 0:=by rw[x6]
    have e7:(abP (numS p) (numS q) (addQ (numS r) (numS g)).1 (numS p) (numS q) (numS r) (numS x) (numS y)).1=(cmpQ (numS g) [48]).1:=by rw[e5,e6,ho]
    rcases Int.lt_trichotomy (cmpR g 0) 0 with h | h | h
    ·have h8:=hdn (by omega)
     have h10:(cmpQ (numS g) [48]).1<0:=by omega
     have h11:¬0<(cmpQ (numS g) [48]).1:=by omega
     (repeat'((conv=>whnf);first|refine Zn ?_|refine Zl ?_|refine Zy ?_|refine Zm ?_|fail))
     (conv=>whnf)
     skip
    ·have h8:=hdn (by omega)
     have h9:=hup (by omega)
     have h10:¬(cmpQ (numS g) [48]).1<0:=by omega
     have h11:¬0<(cmpQ (numS g) [48]).1:=by omega
     (repeat'((conv=>whnf);first|refine Zn ?_|refine Zl ?_|refine Zy ?_|refine Zm ?_|fail))
     (conv=>whnf)
     skip
    ·have h8:=hup (by omega)
     have h10:¬(cmpQ (numS g) [48]).1<0:=by omega
     have h11:0<(cmpQ (numS g) [48]).1:=by omega
     (repeat'((conv=>whnf);first|refine Zn ?_|refine Zl ?_|refine Zy ?_|refine Zm ?_|fail))
     (conv=>whnf)
     skip
   ·(repeat'((conv=>whnf);first|refine Zl ?_|refine Zy ?_|refine Zm ?_|fail))
    (conv=>whnf)
    skip
  ·(repeat'((conv=>whnf);first|refine Zy ?_|refine Zm ?_|fail))
   (conv=>whnf)
   skip
 ·(repeat'((conv=>whnf);first|refine Zy ?_|fail))
  (conv=>whnf)
  skip
theorem t1006 (a b c a' b' c':List UInt8):Tri Tryz.prog true 6 [.agg [S a,S b,S c],.agg [S a',S b',S c']] (.val (.bool true)):=
 tri_of_body (Γ:=[c1018,c1012,c1023,c19,c38]) (by simp[k1018,k1012,k1023,k19,k38]) Tryz.func6 (by simp[Tryz.ntmps6]) rfl (b1006 a b c a' b' c')
theorem t1008 (a b c a' b' c' x y g:List UInt8) (_:g.length≤maxL):Tri Tryz.prog true 8 [.agg [S a,S b,S c],.agg [S a',S b',S c'],.agg [S x,S y],S g] (.val (.bool true)):=
 tri_of_body (Γ:=[c1018,c1017,c1012,c1025,c17,c38]) (by simp[k1018,k1017,k1012,k1025,k17,k38]) Tryz.func8 (by simp[Tryz.ntmps8]) rfl (b1008 a b c a' b' c' x y g)
theorem drP_num {p q r:Rat} (z1:Sz 36 p) (z2:Sz 36 q) (z3:Sz 36 r):drP (numS p) (numS q) (numS r)=((numS (0-p),numS (0-q)),0):=by
 unfold drP
 rw[if_neg (fun h=>h (chk3_no z1 z2 z3))]
 simp only[valQ_numS]
theorem slP_num {p q r:Rat} (z1:Sz 36 p) (z2:Sz 36 q) (z3:Sz 36 r):slP (numS p) (numS q) (numS r)=(numS (p*p+q*q),0):=by
 unfold slP
 rw[if_neg (fun h=>h (chk3_no z1 z2 z3))]
 simp only[valQ_numS]
set_option maxRecDepth 100000 in
set_option maxHeartbeats 4000000 in
theorem b1009 (a b c x y u v:List UInt8):body Tryz.prog [c1018,c1017,c1012,c1026,c1027,c1019,c17,c20,c19,c38] {} true Tryz.f9 [.agg [S a,S b,S c],.agg [S x,S y],.agg [S u,S v]] (.val (.bool true)):=by
 by_cases h1:shortL [a,b,c]
 ·by_cases h2:shortL [x,y,u,v]
  ·obtain ⟨p,q,r,⟨rfl,rfl,rfl⟩,zp,zq,zr⟩:=short3 h1
   obtain ⟨x,y,u,v,⟨rfl,rfl,rfl,rfl⟩,zx,zy,zu,zv⟩:=short4 h2
   have d1:=drP_num zp.up' zq.up' zr.up'
   have d2:=slP_num zp.up' zq.up' zr.up'
   obtain ⟨DX,hDX⟩:∃DX,(drP (numS p) (numS q) (numS r)).1.1=DX:=⟨_,rfl⟩
   obtain ⟨DY,hDY⟩:∃DY,(drP (numS p) (numS q) (numS r)).1.2=DY:=⟨_,rfl⟩
   have n1:Sz 14 (0-p):=sz0.sub zp
   have n2:Sz 14 (0-q):=sz0.sub zq
   have d3:=atP_num zp.up' zq.up' zr.up' zx.up' zy.up'
   have x1:addQ (numS x) (drP (numS p) (numS q) (numS r)).1.1=(numS (x+(0-p)),0):=by rw[d1];exact addQ_sz zx n1 (by decide) (by decide) (by decide)
   have x2:addQ (numS y) (drP (numS p) (numS q) (numS r)).1.2=(numS (y+(0-q)),0):=by rw[d1];exact addQ_sz zy n2 (by decide) (by decide) (by decide)
   have zm:=zx.add n1
   have zn:=zy.add n2
   have x3:atP (numS p) (numS q) (numS r) (addQ (numS x) (drP (numS p) (numS q) (numS r)).1.1).1 (addQ (numS y) (drP (numS p) (numS q) (numS r)).1.2).1=(numS (p*(x+(0-p))+q*(y+(0-q))+r),0):=by rw[x1,x2];exact atP_num zp.up' zq.up' zr.up' (zm.mono (by decide)) (zn.mono (by decide))
   have x4:subQ (atP (numS p) (numS q) (numS r) (numS x) (numS y)).1 (atP (numS p) (numS q) (numS r) (addQ (numS x) (drP (numS p) (numS q) (numS r)).1.1).1 (addQ (numS y) (drP (numS p) (numS q) (numS r)).1.2).1).1=(numS (p*p+q*q),0):=by
    rw[x3,d3]
    have:=subQ_sz (sz_at zp zq zr zx zy) (sz_at zp zq zr zm zn) (by decide) (by decide) (by decide)
    rwa [fallR] at this
   have y1:mulQ (numS p) (numS u)=(numS (p*u),0):=mulQ_sz zp zu (by decide) (by decide) (by decide)
   have y2:mulQ (numS q) (numS v)=(numS (q*v),0):=mulQ_sz zq zv (by decide) (by decide) (by decide)
   have y3:addQ (mulQ (numS p) (numS u)).1 (mulQ (numS q) (numS v)).1=(numS (p*u+q*v),0):=by rw[y1,y2];exact addQ_sz (zp.mul zu) (zq.mul zv) (by decide) (by decide) (by decide)
   have zt:=(zp.mul zu).add (zq.mul zv)
   have y4:mulQ (addQ (mulQ (numS p) (numS u)).1 (mulQ (numS q) (numS v)).1).1 (addQ (mulQ (numS p) (numS u)).1 (mulQ (numS q) (numS v)).1).1=(numS ((p*u+q*v)*(p*u+q*v)),0):=by rw[y3];exact mulQ_sz zt zt (by decide) (by decide) (by decide)
   have y5:mulQ (numS u) (numS u)=(numS (u*u),0):=mulQ_sz zu zu (by decide) (by decide) (by decide)
   have y6:mulQ (numS v) (numS v)=(numS (v*v),0):=mulQ_sz zv zv (by decide) (by decide) (by decide)
   have y7:addQ (mulQ (numS u) (numS u)).1 (mulQ (numS v) (numS v)).1=(numS (u*u+v*v),0):=by rw[y5,y6];exact addQ_sz (zu.mul zu) (zv.mul zv) (by decide) (by decide) (by decide)
   have zl:=(zu.mul zu).add (zv.mul zv)
   have zs:=(zp.mul zp).add (zq.mul zq)
   have y8:mulQ (addQ (mulQ (numS u) (numS u)).1 (mulQ (numS v) (numS v)).1).1 (slP (numS p) (numS q) (numS r)).1=(numS ((u*u+v*v)*(p*p+q*q)),0):=by rw[y7,d2];exact mulQ_sz zl zs (by decide) (by decide) (by decide)
   have y9:cmpQ (mulQ (addQ (mulQ (numS p) (numS u)).1 (mulQ (numS q) (numS v)).1).1 (addQ (mulQ (numS p) (numS u)).1 (mulQ (numS q) (numS v)).1).1).1 (mulQ (addQ (mulQ (numS u) (numS u)).1 (mulQ (numS v) (numS v)).1).1 (slP (numS p) (numS q) (numS r)).1).1=(cmpR ((p*u+q*v)*(p*u+q*v)) ((u*u+v*v)*(p*p+q*q)),0):=by rw[y4,y8];exact cmpQ_R (zt.mul zt) (zl.mul zs) (by decide) (by decide) (by decide)
   have f1:(drP (numS p) (numS q) (numS r)).2=0:=by rw[d1]
   have f2:(slP (numS p) (numS q) (numS r)).2=0:=by rw[d2]
   have f3:=congrArg Prod.snd d3
   have f4:=congrArg Prod.snd x1
   have f5:=congrArg Prod.snd x2
   have f6:=congrArg Prod.snd x3
   have f7:=congrArg Prod.snd x4
   have e1:(subQ (atP (numS p) (numS q) (numS r) (numS x) (numS y)).1 (atP (numS p) (numS q) (numS r) (addQ (numS x) (drP (numS p) (numS q) (numS r)).1.1).1 (addQ (numS y) (drP (numS p) (numS q) (numS r)).1.2).1).1).1=(slP (numS p) (numS q) (numS r)).1:=by rw[x4,d2]
   have g1:=congrArg Prod.snd y1
   have g2:=congrArg Prod.snd y2
   have g3:=congrArg Prod.snd y3
   have g4:=congrArg Prod.snd y4
   have g5:=congrArg Prod.snd y5
   have g6:=congrArg Prod.snd y6
   have g7:=congrArg Prod.snd y7
   have g8:=congrArg Prod.snd y8
   have g9:=congrArg Prod.snd y9
   have e2:(cmpQ (mulQ (addQ (mulQ (numS p) (numS u)).1 (mulQ (numS q) (numS v)).1).1 (addQ (mulQ (numS p) (numS u)).1 (mulQ (numS q) (numS v)).1).1).1 (mulQ (addQ (mulQ (numS u) (numS u)).1 (mulQ (numS v) (numS v)).1).1 (slP (numS p) (numS q) (numS r)).1).1).1≤0:=by rw[y9];exact (cmpR_le _ _).2 (slopeR p q u v)
   dsimp only at f3 f4 f5 f6 f7 g1 g2 g3 g4 g5 g6 g7 g8 g9
   (repeat'((conv=>whnf);first|refine Zl ?_|refine Zy ?_|refine Zm ?_|fail))
   (conv=>whnf)
   skip
  ·(repeat'((conv=>whnf);first|refine Zl ?_|refine Zy ?_|refine Zm ?_|fail))
   (conv=>whnf)
   skip
 ·(repeat'((conv=>whnf);first|refine Zy ?_|fail))
  (conv=>whnf)
  skip
theorem sub_zero_iff {p s:Rat}:p-s=0↔p=s:=by
 constructor<;>intro h<;>grind
structure MeN (a b c:Rat) (p q r s t u:Rat):Prop where
 one:meP (numS p) (numS q) (numS r) (numS s) (numS t) (numS u)=(numS a,numS b,numS c,0)
 two:meP (numS s) (numS t) (numS u) (numS p) (numS q) (numS r)=(numS a,numS b,numS c,0)
 za:Sz 30 a
 zb:Sz 52 b
 zc:Sz 52 c
 lead:numS a= [49]∨(¬numS a= [49]∧numS a= [48]∧numS b= [49])
 on:∀x y,p*x+q*y+r=s*x+t*y+u↔a*x+b*y=c
theorem meN_of {p q r s t u:Rat} (zp:Sz 12 p) (zq:Sz 12 q) (zr:Sz 12 r) (zs:Sz 12 s) (zt:Sz 12 t) (zu:Sz 12 u) (h:¬(p=s∧q=t)):∃a b c,MeN a b c p q r s t u:=by
 have h1:=meP_num zp.up' zq.up' zr.up' zs.up' zt.up' zu.up'
 have h2:=meP_num zs.up' zt.up' zu.up' zp.up' zq.up' zr.up'
 by_cases hd:p-s=0
 ·have hf:q-t≠0:=fun hf=>h ⟨sub_zero_iff.1 hd,sub_zero_iff.1 hf⟩
  have hd':s-p=0:=by grind
  have hf':t-q≠0:=fun e=>hf (by grind)
  refine ⟨0,1,(u-r)/(q-t),?_,?_,sz0.mono (by decide),sz1.mono (by decide),((zu.sub zr).div (zq.sub zt) hf).mono (by decide),.inr ⟨by rw[numS0];decide,numS0,numS1⟩,fun x y=>?_⟩
  ·rw[h1,if_neg (fun h=>hf h.2),if_pos hd,numS0,numS1]
  ·rw[h2,if_neg (fun h=>hf' h.2),if_pos hd',numS0,numS1,div_flip (f:=u-r) (d:=q-t) (f':=r-u) (d':=t-q) (by grind) (by grind) hf]
  ·exact meet_iff0 hd hf
 ·have hd':s-p≠0:=fun e=>hd (by grind)
  refine ⟨1,(q-t)/(p-s),(u-r)/(p-s),?_,?_,sz1.mono (by decide),((zq.sub zt).div (zp.sub zs) hd).mono (by decide),((zu.sub zr).div (zp.sub zs) hd).mono (by decide),.inl numS1,fun x y=>?_⟩
  ·rw[h1,if_neg (fun h=>hd h.1),if_neg hd,numS1]
  ·rw[h2,if_neg (fun h=>hd' h.1),if_neg hd',numS1,div_flip (f:=u-r) (d:=p-s) (f':=r-u) (d':=s-p) (by grind) (by grind) hd,div_flip (f:=q-t) (d:=p-s) (f':=t-q) (d':=s-p) (by grind) (by grind) hd]
  ·exact meet_iff hd
set_option maxHeartbeats 4000000 in
theorem b1007 (a b c a' b' c' x y:List UInt8):body Tryz.prog [c1018,c1017,c1012,c1015,c1025,c17,c19] {} true Tryz.f7 [.agg [S a,S b,S c],.agg [S a',S b',S c'],.agg [S x,S y]] (.val (.bool true)):=by
 by_cases h1:shortL [a,b,c]
 ·by_cases h2:shortL [a',b',c']
  ·by_cases h3:shortL [x,y]
   ·obtain ⟨p,q,r,⟨rfl,rfl,rfl⟩,zp,zq,zr⟩:=short3 h1
    obtain ⟨s,t,u,⟨rfl,rfl,rfl⟩,zs,zt,zu⟩:=short3 h2
    obtain ⟨x,y,⟨rfl,rfl⟩,zx,zy⟩:=short2 h3
    have w1:Sz 63 (p*x+q*y+r):=(sz_at zp zq zr zx zy).mono (by decide)
    have w2:Sz 63 (s*x+t*y+u):=(sz_at zs zt zu zx zy).mono (by decide)
    have x1:abP (numS p) (numS q) (numS r) (numS s) (numS t) (numS u) (numS x) (numS y)=(cmpR (p*x+q*y+r) (s*x+t*y+u),0):=by rw[abP_num zp.up' zq.up' zr.up' zs.up' zt.up' zu.up' zx.up' zy.up'];exact cmpQ_R w1 w2 (by decide) (by decide) (by decide)
    have f1:(abP (numS p) (numS q) (numS r) (numS s) (numS t) (numS u) (numS x) (numS y)).2=0:=by rw[x1]
    by_cases he:p=s∧q=t
    ·obtain ⟨rfl,rfl⟩:=he
     have m1:meP (numS p) (numS q) (numS r) (numS p) (numS q) (numS u)=([],[],[],12):=by rw[meP_num zp.up' zq.up' zr.up' zs.up' zt.up' zu.up',if_pos ⟨Rat.sub_self,Rat.sub_self⟩]
     have m2:meP (numS p) (numS q) (numS u) (numS p) (numS q) (numS r)=([],[],[],12):=by rw[meP_num zp.up' zq.up' zu.up' zp.up' zq.up' zr.up',if_pos ⟨Rat.sub_self,Rat.sub_self⟩]
     have e1:(abP (numS p) (numS q) (numS r) (numS p) (numS q) (numS u) (numS x) (numS y)).1=0↔numS r=numS u:=by
      rw[x1,cmpR_zero]
      constructor
      ·intro h;rw[show r=u by grind]
      ·intro h;rw[numS_inj h]
     have g1:(meP (numS p) (numS q) (numS r) (numS p) (numS q) (numS u)).2.2.2=(meP (numS p) (numS q) (numS u) (numS p) (numS q) (numS r)).2.2.2:=by rw[m1,m2]
     have g2:(meP (numS p) (numS q) (numS r) (numS p) (numS q) (numS u)).1=(meP (numS p) (numS q) (numS u) (numS p) (numS q) (numS r)).1:=by rw[m1,m2]
     have g3:(meP (numS p) (numS q) (numS r) (numS p) (numS q) (numS u)).2.1=(meP (numS p) (numS q) (numS u) (numS p) (numS q) (numS r)).2.1:=by rw[m1,m2]
     have g4:(meP (numS p) (numS q) (numS r) (numS p) (numS q) (numS u)).2.2.1=(meP (numS p) (numS q) (numS u) (numS p) (numS q) (numS r)).2.2.1:=by rw[m1,m2]
     have g5:(meP (numS p) (numS q) (numS r) (numS p) (numS q) (numS u)).2.2.2=12:=by rw[m1]
     have g6:(numS p:List UInt8)=numS p:=rfl
     have g7:(numS q:List UInt8)=numS q:=rfl
     (repeat'((conv=>whnf);first|refine Zl ?_|refine Zy ?_|refine Zm ?_|fail))
     (conv=>whnf)
     skip
    ·obtain ⟨A,B,C,hM⟩:=meN_of zp zq zr zs zt zu he
     have g1:(meP (numS p) (numS q) (numS r) (numS s) (numS t) (numS u)).2.2.2=(meP (numS s) (numS t) (numS u) (numS p) (numS q) (numS r)).2.2.2:=by rw[hM.one,hM.two]
     have g2:(meP (numS p) (numS q) (numS r) (numS s) (numS t) (numS u)).1=(meP (numS s) (numS t) (numS u) (numS p) (numS q) (numS r)).1:=by rw[hM.one,hM.two]
     have g3:(meP (numS p) (numS q) (numS r) (numS s) (numS t) (numS u)).2.1=(meP (numS s) (numS t) (numS u) (numS p) (numS q) (numS r)).2.1:=by rw[hM.one,hM.two]
     have g4:(meP (numS p) (numS q) (numS r) (numS s) (numS t) (numS u)).2.2.1=(meP (numS s) (numS t) (numS u) (numS p) (numS q) (numS r)).2.2.1:=by rw[hM.one,hM.two]
     have g5:(meP (numS p) (numS q) (numS r) (numS s) (numS t) (numS u)).2.2.2=0:=by rw[hM.one]
     have x2:mulQ (meP (numS p) (numS q) (numS r) (numS s) (numS t) (numS u)).1 (numS x)=(numS (A*x),0):=by rw[hM.one];exact mulQ_sz hM.za zx (by decide) (by decide) (by decide)
     have x3:mulQ (meP (numS p) (numS q) (numS r) (numS s) (numS t) (numS u)).2.1 (numS y)=(numS (B*y),0):=by rw[hM.one];exact mulQ_sz hM.zb zy (by decide) (by decide) (by decide)
     have x4:addQ (mulQ (meP (numS p) (numS q) (numS r) (numS s) (numS t) (numS u)).1 (numS x)).1 (mulQ (meP (numS p) (numS q) (numS r) (numS s) (numS t) (numS u)).2.1 (numS y)).1=(numS (A*x+B*y),0):=by rw[x2,x3];exact addQ_sz (hM.za.mul zx) (hM.zb.mul zy) (by decide) (by decide) (by decide)
     have f2:(mulQ (meP (numS p) (numS q) (numS r) (numS s) (numS t) (numS u)).1 (numS x)).2=0:=by rw[x2]
     have f3:(mulQ (meP (numS p) (numS q) (numS r) (numS s) (numS t) (numS u)).2.1 (numS y)).2=0:=by rw[x3]
     have f4:(addQ (mulQ (meP (numS p) (numS q) (numS r) (numS s) (numS t) (numS u)).1 (numS x)).1 (mulQ (meP (numS p) (numS q) (numS r) (numS s) (numS t) (numS u)).2.1 (numS y)).1).2=0:=by rw[x4]
     have e1:(abP (numS p) (numS q) (numS r) (numS s) (numS t) (numS u) (numS x) (numS y)).1=0↔(addQ (mulQ (meP (numS p) (numS q) (numS r) (numS s) (numS t) (numS u)).1 (numS x)).1 (mulQ (meP (numS p) (numS q) (numS r) (numS s) (numS t) (numS u)).2.1 (numS y)).1).1=(meP (numS p) (numS q) (numS r) (numS s) (numS t) (numS u)).2.2.1:=by
      rw[x1,x4,hM.one,cmpR_zero,hM.on]
      exact ⟨fun h=>by rw[h],fun h=>numS_inj h⟩
     rcases hM.lead with l1 | ⟨l1,l2,l3⟩
     ·have g6:(meP (numS p) (numS q) (numS r) (numS s) (numS t) (numS u)).1= [49]:=by rw[hM.one];exact l1
      (repeat'((conv=>whnf);first|refine Zl ?_|refine Zy ?_|refine Zm ?_|fail))
      (conv=>whnf)
      skip
     ·have g6:¬(meP (numS p) (numS q) (numS r) (numS s) (numS t) (numS u)).1= [49]:=by rw[hM.one];exact l1
      have g7:(meP (numS p) (numS q) (numS r) (numS s) (numS t) (numS u)).1= [48]:=by rw[hM.one];exact l2
      have g8:(meP (numS p) (numS q) (numS r) (numS s) (numS t) (numS u)).2.1= [49]:=by rw[hM.one];exact l3
      (repeat'((conv=>whnf);first|refine Zl ?_|refine Zy ?_|refine Zm ?_|fail))
      (conv=>whnf)
      skip
   ·(repeat'((conv=>whnf);first|refine Zl ?_|refine Zy ?_|refine Zm ?_|fail))
    (conv=>whnf)
    skip
  ·(repeat'((conv=>whnf);first|refine Zy ?_|refine Zm ?_|fail))
   (conv=>whnf)
   skip
 ·(repeat'((conv=>whnf);first|refine Zy ?_|fail))
  (conv=>whnf)
  skip
theorem t1009 (a b c x y u v:List UInt8):Tri Tryz.prog true 9 [.agg [S a,S b,S c],.agg [S x,S y],.agg [S u,S v]] (.val (.bool true)):=
 tri_of_body (Γ:=[c1018,c1017,c1012,c1026,c1027,c1019,c17,c20,c19,c38]) (by simp[k1018,k1017,k1012,k1026,k1027,k1019,k17,k20,k19,k38]) Tryz.func9 (by simp[Tryz.ntmps9]) rfl (b1009 a b c x y u v)
theorem t1007 (a b c a' b' c' x y:List UInt8):Tri Tryz.prog true 7 [.agg [S a,S b,S c],.agg [S a',S b',S c'],.agg [S x,S y]] (.val (.bool true)):=
 tri_of_body (Γ:=[c1018,c1017,c1012,c1015,c1025,c17,c19]) (by simp[k1018,k1017,k1012,k1015,k1025,k17,k19]) Tryz.func7 (by simp[Tryz.ntmps7]) rfl (b1007 a b c a' b' c' x y)
end RB
end

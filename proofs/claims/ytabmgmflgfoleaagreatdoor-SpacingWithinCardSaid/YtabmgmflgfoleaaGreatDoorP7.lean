/-
  Part 7: a symbolic executor over the model, contracts of functions and plain laws.
-/
import Derived.Test.YtabmgmflgfoleaaGreatDoorP6
section
open Go Go.Proofs Go.Eng Go.Shelf IB Go.Lib Go.RowKit
namespace RB
set_option maxRecDepth 10000
set_option linter.unusedVariables false
set_option linter.unusedSimpArgs false
theorem ixAt {n:Int} {C:Nat→Prop} (j:Nat) (e:n=j) (h:C j):Ix n C:=⟨fun i h'=>by
 have:j=i:=by omega
 subst this;exact h⟩
theorem b2028 (l:List (List UInt8)):body Tryz.prog [c21,c38] { asks:=[(0,[])] } true Tryz.f28 [.seq .str l] (I (ckS l)):=by
 by_cases hl:4096<l.length
 ·rw[show ckS l=4 from if_pos hl]
  (repeat'((conv=>whnf);first|refine Zg fun _=>?_|refine Zy ?_|fail))
  (conv=>whnf)
  (repeat'(first|rfl|refine And.intro ?_ ?_|fail))
 ·rw[show ckS l=ckF l from if_neg hl]
  (repeat'((conv=>whnf);first|refine Zg fun _=>?_|refine Zm ?_|fail))
  refine Ask.mk ⟨{ X:=Nat,pre:=fun i=>i≤l.length∧ckAt l i=ckF l,mod:=fun i _=>[(13,I i)],heap:=fun i H=>H,mu:=fun i=>l.length-i },rfl,?_⟩
  (repeat'((conv=>whnf);first|refine Zn ?_|fail))
  refine ⟨⟨(0:Nat),⟨Nat.zero_le _,rfl⟩,?_⟩,fun (i:Nat) hi=>?_⟩
  ·(repeat'(first|exact trivial|rfl|refine And.intro ?_ ?_|fail))
  obtain ⟨hi,hc⟩:=hi
  by_cases hlt:i<l.length
  ·by_cases hk:chkQ (l.getD i [])=0
   ·rcases i with _ | i
    ·(repeat'((conv=>whnf);first|refine Zn ?_|refine Z0 ?_|refine Zy ?_|refine Zm ?_|fail))
     refine ⟨(1:Nat),by show l.length-1<l.length-0;omega,⟨hlt,(aEr hlt hk).trans hc⟩,?_⟩
     (repeat'(first|exact trivial|rfl|refine And.intro ?_ ?_|fail))
    ·(repeat'((conv=>whnf);first|refine Zn ?_|refine Zj ?_|refine Zy ?_|refine Zm ?_|fail))
     refine ixAt i (by omega) ?_
     by_cases h2:(cmpQ (l.getD i []) (l.getD (i+1) [])).2=0
     ·by_cases h3:0≤(cmpQ (l.getD i []) (l.getD (i+1) [])).1
      ·rw[← hc,aEq hlt hk h2 h3]
       (repeat'((conv=>whnf);first|refine Zy ?_|refine Zm ?_|fail))
       (conv=>whnf)
       (repeat'(first|rfl|refine And.intro ?_ ?_|fail))
      ·(repeat'((conv=>whnf);first|refine Zn ?_|refine Zm ?_|fail))
       refine ⟨(i+2:Nat),by show l.length-(i+2)<l.length-(i+1);omega,⟨hlt,(aIa hlt hk h2 h3).trans hc⟩,?_⟩
       (repeat'(first|exact trivial|rfl|refine And.intro ?_ ?_|fail))
     ·rw[← hc,aEp hlt hk h2]
      (repeat'((conv=>whnf);first|refine Zy ?_|fail))
      (conv=>whnf)
      (repeat'(first|rfl|refine And.intro ?_ ?_|fail))
   ·rw[← hc,aEo hlt hk]
    (repeat'((conv=>whnf);first|refine Zn ?_|refine Zj ?_|refine Zy ?_|fail))
    (conv=>whnf)
    (repeat'(first|rfl|refine And.intro ?_ ?_|fail))
  ·have e:i=l.length:=by omega
   subst e
   rw[← hc,aEn]
   (repeat'((conv=>whnf);first|refine Zm ?_|fail))
   (conv=>whnf)
   (repeat'(first|rfl|refine And.intro ?_ ?_|fail))
def aI4:Con:=aK 28 true fun args K=>match args with | [.seq .str l]=>K (I (ckS l)) | _=>False
theorem k2028:aG Tryz.prog aI4:=by
 refine aC rfl (enters_of Tryz.func28 (by kernel_rfl) rfl) ?_
 intro args K h
 simp only[aI4] at h
 split at h
 ·rename_i l;exact ⟨_,h,aA (Γ:=[c21,c38]) (by simp[k21,k38]) Tryz.func28 (by simp[Tryz.ntmps28]) rfl (b2028 l)⟩
 ·exact h.elim
theorem b2029 (l:List (List UInt8)):body Tryz.prog [c44,c43] { asks:=[(0,[])] } true Tryz.f29 [.seq .str l] (I (ckS l)):=by
 by_cases hl:4096<l.length
 ·rw[show ckS l=4 from if_pos hl]
  (repeat'((conv=>whnf);first|refine Zg fun _=>?_|refine Zy ?_|fail))
  (conv=>whnf)
  (repeat'(first|rfl|refine And.intro ?_ ?_|fail))
 ·rw[show ckS l=ckF l from if_neg hl]
  (repeat'((conv=>whnf);first|refine Zg fun _=>?_|refine Zm ?_|fail))
  refine Ask.mk ⟨{ X:=Nat,pre:=fun i=>i≤l.length∧ckAt l i=ckF l,mod:=fun i _=>[(3,I i)],heap:=fun i H=>H,mu:=fun i=>l.length-i },rfl,?_⟩
  (repeat'((conv=>whnf);first|refine Zn ?_|fail))
  refine ⟨⟨(0:Nat),⟨Nat.zero_le _,rfl⟩,?_⟩,fun (i:Nat) hi=>?_⟩
  ·(repeat'(first|exact trivial|rfl|refine And.intro ?_ ?_|fail))
  obtain ⟨hi,hc⟩:=hi
  by_cases hlt:i<l.length
  ·by_cases hk:chkQ (l.getD i [])=0
   ·rcases i with _ | i
    ·(repeat'((conv=>whnf);first|refine Zg fun _=>?_|refine Zn ?_|refine Z0 ?_|refine Zy ?_|refine Zm ?_|fail))
     refine ⟨(1:Nat),by show l.length-1<l.length-0;omega,⟨hlt,(aEr hlt hk).trans hc⟩,?_⟩
     (repeat'(first|exact trivial|rfl|refine And.intro ?_ ?_|fail))
    ·(repeat'((conv=>whnf);first|refine Zg fun _=>?_|refine Zn ?_|refine Zj ?_|(apply Pin.mk;apply Exists.intro)|apply Pinned.mk rfl rfl|refine Zy ?_|refine Zm ?_|fail))
     refine ixAt i (by omega) ?_
     by_cases h2:(cmpQ (l.getD i []) (l.getD (i+1) [])).2=0
     ·by_cases h3:0≤(cmpQ (l.getD i []) (l.getD (i+1) [])).1
      ·rw[← hc,aEq hlt hk h2 h3]
       (repeat'((conv=>whnf);first|refine Zn ?_|refine Zj ?_|(apply Pin.mk;apply Exists.intro)|apply Pinned.mk rfl rfl|refine Zy ?_|refine Zm ?_|fail))
       (conv=>whnf)
       (repeat'(first|rfl|refine And.intro ?_ ?_|fail))
      ·(repeat'((conv=>whnf);first|refine Zn ?_|refine Zj ?_|(apply Pin.mk;apply Exists.intro)|apply Pinned.mk rfl rfl|refine Zm ?_|fail))
       refine ⟨(i+2:Nat),by show l.length-(i+2)<l.length-(i+1);omega,⟨hlt,(aIa hlt hk h2 h3).trans hc⟩,?_⟩
       (repeat'(first|exact trivial|rfl|refine And.intro ?_ ?_|fail))
     ·rw[← hc,aEp hlt hk h2]
      (repeat'((conv=>whnf);first|refine Zn ?_|refine Zj ?_|(apply Pin.mk;apply Exists.intro)|apply Pinned.mk rfl rfl|refine Zy ?_|fail))
      (conv=>whnf)
      (repeat'(first|rfl|refine And.intro ?_ ?_|fail))
   ·rw[← hc,aEo hlt hk]
    (repeat'((conv=>whnf);first|refine Zg fun _=>?_|refine Zn ?_|refine Zj ?_|refine Zy ?_|fail))
    (conv=>whnf)
    (repeat'(first|rfl|refine And.intro ?_ ?_|fail))
  ·have e:i=l.length:=by omega
   subst e
   rw[← hc,aEn]
   (repeat'((conv=>whnf);first|refine Zg fun _=>?_|refine Zm ?_|fail))
   (conv=>whnf)
   (repeat'(first|rfl|refine And.intro ?_ ?_|fail))
def aI5:Con:=aK 29 true fun args K=>match args with | [.seq .str l]=>K (I (ckS l)) | _=>False
theorem k2029:aG Tryz.prog aI5:=by
 refine aC rfl (enters_of Tryz.func29 (by kernel_rfl) rfl) ?_
 intro args K h
 simp only[aI5] at h
 split at h
 ·rename_i l;exact ⟨_,h,aA (Γ:=[c44,c43]) (by simp[k44,k43]) Tryz.func29 (by simp[Tryz.ntmps29]) rfl (b2029 l)⟩
 ·exact h.elim
theorem b2062 (a b:List UInt8):body Tryz.prog [c38] {} true Tryz.f62 [.agg [S a,S b]] (.bl (rgP a b) inferInstance):=by
 unfold rgP
 by_cases h1:(cmpQ a b).2=0
 ·(repeat'((conv=>whnf);first|refine Zy ?_|fail))
  (conv=>whnf)
  exact ⟨fun h=>⟨h1,h⟩,fun h=>h.2⟩
 ·(repeat'((conv=>whnf);first|refine Zm ?_|fail))
  (conv=>whnf)
  exact fun h=>h1 h.1
def tS:Con:=aK 62 true fun args K=>match args with | [.agg [.str a,.str b]]=>K (.bl (rgP a b) inferInstance) | _=>False
theorem aM3:aG Tryz.prog tS:=by
 refine aC rfl (enters_of Tryz.func62 (by kernel_rfl) rfl) ?_
 intro args K h
 simp only[tS] at h
 split at h
 ·rename_i a b;exact ⟨_,h,aA (Γ:=[c38]) (by simp[k38]) Tryz.func62 (by simp[Tryz.ntmps62]) rfl (b2062 a b)⟩
 ·exact h.elim
set_option exponentiation.threshold 400 in
theorem cmp0 {a:List UInt8} (h:chkQ a=0):cmpQ a [48]=(cmpR (valQ a) 0,0):=by
 obtain ⟨e,h1,h2⟩:=qY h
 have z:Sz 300 (valQ a):=by
  refine ⟨iF (Nat.le_trans (Nat.le_of_eq ?_) h1),?_⟩
  ·rw[← bN,← fA,← e]
  ·have:(valQ a).den<10^300∨(valQ a).den=1:=by
    by_cases hd:(valQ a).den=1
    ·exact .inr hd
    ·refine .inl (iF (Nat.le_trans (Nat.le_of_eq ?_) h2))
     conv=>rhs;rw[e,iN,if_neg hd]
     rfl
   rcases this with h | h
   ·exact h
   ·rw[h];exact Nat.one_lt_pow (by decide) (by decide)
 have e0:=aJo
 conv=>lhs;rw[e,← e0]
 have p1:(1:Nat)<10^300:=Nat.one_lt_pow (by decide) (by decide)
 refine aMb (k:=300) ⟨by decide,by decide⟩ z ⟨Nat.lt_trans Nat.zero_lt_one p1,p1⟩ ?_ ?_
 ·rw[show (0:Rat).den=1 from rfl,Nat.mul_one];exact z.1
 ·rw[show (0:Rat).num.natAbs=0 from rfl,Nat.zero_mul];exact Nat.lt_trans Nat.zero_lt_one p1
theorem b2064 (a:List UInt8):body Tryz.prog [c38] {} true Tryz.f64 [S a] (.bl ((cmpQ a [48]).2=0∧0<(cmpQ a [48]).1) inferInstance):=by
 by_cases h1:(cmpQ a [48]).2=0
 ·(repeat'((conv=>whnf);first|refine Zy ?_|fail))
  (conv=>whnf)
  exact ⟨fun h=>⟨h1,h⟩,fun h=>h.2⟩
 ·(repeat'((conv=>whnf);first|refine Zm ?_|fail))
  (conv=>whnf)
  exact fun h=>h1 h.1
def aAl:Con:=aK 64 true fun args K=>match args with | [.str a]=>K (.bl ((cmpQ a [48]).2=0∧0<(cmpQ a [48]).1) inferInstance) | _=>False
theorem aP0:aG Tryz.prog aAl:=by
 refine aC rfl (enters_of Tryz.func64 (by kernel_rfl) rfl) ?_
 intro args K h
 simp only[aAl] at h
 split at h
 ·rename_i a;exact ⟨_,h,aA (Γ:=[c38]) (by simp[k38]) Tryz.func64 (by simp[Tryz.ntmps64]) rfl (b2064 a)⟩
 ·exact h.elim
theorem b2016 (a b:List UInt8):body Tryz.prog [c38] {} true Tryz.f16 [S a,S b] (.bl ((cmpQ a b).2=0∧(cmpQ a b).1<0) inferInstance):=by
 by_cases h1:(cmpQ a b).2=0
 ·(repeat'((conv=>whnf);first|refine Zy ?_|fail))
  (conv=>whnf)
  exact ⟨fun h=>⟨h1,h⟩,fun h=>h.2⟩
 ·(repeat'((conv=>whnf);first|refine Zm ?_|fail))
  (conv=>whnf)
  exact fun h=>h1 h.1
def tT:Con:=aK 16 true fun args K=>match args with | [.str a,.str b]=>K (.bl ((cmpQ a b).2=0∧(cmpQ a b).1<0) inferInstance) | _=>False
theorem aM4:aG Tryz.prog tT:=by
 refine aC rfl (enters_of Tryz.func16 (by kernel_rfl) rfl) ?_
 intro args K h
 simp only[tT] at h
 split at h
 ·rename_i a b;exact ⟨_,h,aA (Γ:=[c38]) (by simp[k38]) Tryz.func16 (by simp[Tryz.ntmps16]) rfl (b2016 a b)⟩
 ·exact h.elim
theorem b2044 (l:List (List UInt8)) (lo hi:List UInt8) (hP:Lm l∧Lm [lo,hi]):body Tryz.prog [aI4,tS,c38] { asks:=[(0,[2])] } true Tryz.f44 [.seq .str l,.agg [S lo,S hi]] (.tup [.seq .str (wiS l lo hi).1,I (wiS l lo hi).2]):=by
 obtain ⟨hL,hR⟩:=hP
 by_cases hc:ckS l=0
 ·by_cases hr:rgP lo hi
  ·obtain ⟨k1,k2⟩:=uD hr
   have l1:=hR lo (by simp) k1
   have l2:=hR hi (by simp) k2
   have hall:=aOf (aGr hc).2
   rw[show wiS l lo hi=(l.filter (inR lo hi),0) from if_neg (by rintro (h | h);exact h hc;exact h hr)]
   (repeat'((conv=>whnf);first|refine Zg fun _=>?_|refine Zm ?_|fail))
   refine Ask.mk ⟨{ X:=Nat,pre:=fun i=>i≤l.length,mod:=fun i _=>[(6,.ref 2 1),(22,I i)],heap:=fun i H=>[hget H 0,hget H 1,.vec 1 .str ((l.take i).filter (inR lo hi)) 22],mu:=fun i=>l.length-i,objs:=[2] },rfl,?_⟩
   (repeat'((conv=>whnf);first|refine Zn ?_|fail))
   refine ⟨⟨(0:Nat),Nat.zero_le _,?_⟩,fun (i:Nat) hi'=>?_⟩
   ·(repeat'(first|exact trivial|rfl|exact Nat.one_pos|refine And.intro ?_ ?_|fail))
   have hi':i≤l.length:=hi'
   have hl4:=(aGr hc).1
   have hn:((l.take i).filter (inR lo hi)).length≤l.length:=Nat.le_trans (List.length_filter_le _ _) (by rw[List.length_take];omega)
   by_cases hlt:i<l.length
   ·have hk:=hall _ (jP (d:=[]) hlt)
    have hk2:=hL.at hlt hk
    have c1:(cmpQ lo (l.getD i [])).2=0:=by rw[aMd k1 l1 hk hk2]
    have c2:(cmpQ (l.getD i []) hi).2=0:=by rw[aMd hk hk2 k2 l2]
    have fs:=aEv (inR lo hi) [] hlt
    by_cases h1:(cmpQ lo (l.getD i [])).1≤0∧(cmpQ (l.getD i []) hi).1≤0
    ·rw[show inR lo hi (l.getD i [])=true from decide_eq_true h1,if_pos rfl] at fs
     obtain ⟨h1,h2⟩:=h1
     (repeat'((conv=>whnf);first|refine Zn ?_|refine Zj ?_|refine Zl ?_|refine Zy ?_|refine Zm ?_|fail))
     refine ⟨(i+1:Nat),by show l.length-(i+1)<l.length-i;omega,hlt,?_⟩
     (repeat'(first|exact trivial|rfl|exact Nat.one_pos|refine And.intro ?_ ?_|fail))
     exact fs.symm
    ·rw[show inR lo hi (l.getD i [])=false from decide_eq_false h1,if_neg (by decide),List.append_nil] at fs
     by_cases h2:(cmpQ lo (l.getD i [])).1≤0
     ·have h3:¬(cmpQ (l.getD i []) hi).1≤0:=fun h3=>h1 ⟨h2,h3⟩
      (repeat'((conv=>whnf);first|refine Zn ?_|refine Zj ?_|refine Zy ?_|refine Zm ?_|fail))
      refine ⟨(i+1:Nat),by show l.length-(i+1)<l.length-i;omega,hlt,?_⟩
      (repeat'(first|exact trivial|rfl|exact Nat.one_pos|refine And.intro ?_ ?_|fail))
      exact fs.symm
     ·(repeat'((conv=>whnf);first|refine Zn ?_|refine Zj ?_|refine Zy ?_|refine Zm ?_|fail))
      refine ⟨(i+1:Nat),by show l.length-(i+1)<l.length-i;omega,hlt,?_⟩
      (repeat'(first|exact trivial|rfl|exact Nat.one_pos|refine And.intro ?_ ?_|fail))
      exact fs.symm
   ·have e:i=l.length:=by omega
    subst e
    (repeat'((conv=>whnf);first|refine Zm ?_|fail))
    (conv=>whnf)
    (repeat'(first|exact trivial|rfl|refine And.intro ?_ ?_|fail))
    exact congrArg (List.filter _) (List.take_length ..)
  ·rw[show wiS l lo hi=([],1) from if_pos (.inr hr)]
   (repeat'((conv=>whnf);first|refine Zy ?_|refine Zm ?_|fail))
   (conv=>whnf)
   (repeat'(first|exact trivial|rfl|refine And.intro ?_ ?_|fail))
 ·rw[show wiS l lo hi=([],1) from if_pos (.inl hc)]
  (repeat'((conv=>whnf);first|refine Zy ?_|fail))
  (conv=>whnf)
  (repeat'(first|exact trivial|rfl|refine And.intro ?_ ?_|fail))
def aI9:Con:=aK 44 true fun args K=>match args with | [.seq .str l,.agg [.str lo,.str hi]]=>Need (Lm l∧Lm [lo,hi]) (K (.tup [.seq .str (wiS l lo hi).1,I (wiS l lo hi).2])) | _=>False
theorem k2044:aG Tryz.prog aI9:=by
 refine aC rfl (enters_of Tryz.func44 (by kernel_rfl) rfl) ?_
 intro args K h
 simp only[aI9] at h
 split at h
 ·rename_i l lo hi;exact ⟨_,h.go,aA (Γ:=[aI4,tS,c38]) (by simp[k2028,aM3,k38]) Tryz.func44 (by simp[Tryz.ntmps44]) rfl (b2044 l lo hi h.ok)⟩
 ·exact h.elim
def CmpAll (a b:List (List UInt8)):Prop:=∀x∈a,∀y∈b,(cmpQ x y).2=0
theorem CmpAll.drop {a b:List (List UInt8)} (h:CmpAll a b) (i j:Nat):CmpAll (a.drop i) (b.drop j):=fun x hx y hy=>h x (List.mem_of_mem_drop hx) y (List.mem_of_mem_drop hy)
set_option linter.unusedSimpArgs false
theorem b2065 (a:List UInt8):aDg Tryz.prog [] {} Tryz.f65 [.ptr 0 0,S a,I 0] [.cells [I 0] 77] (fun r H'=>r=S a∧H'= [.cells [I 0] 77]):=by
 (conv=>whnf)
 refine Need.mk rfl ?_
 (repeat'((conv=>whnf);first|refine Zy ?_|fail))
 (conv=>whnf)
 refine ⟨_,_,⟨rfl,rfl⟩,rfl,?_,rfl,rfl,?_⟩
 all_goals (repeat'(first|exact trivial|rfl|refine And.intro ?_ ?_|fail))
noncomputable def aFj:Con:=aLm 65 77 fun args e0 K=>match args with | [.str a,.val (.int .i64 n)]=>Need (e0=0∧n=0) (K (S a) 0) | _=>False
theorem aP2:aG Tryz.prog aFj:=by
 refine aLn (enters_of Tryz.func65 (by kernel_rfl) rfl) ?_
 intro args e0 K h
 split at h
 ·rename_i a n
  obtain ⟨⟨h1,h2⟩,hk⟩:=h
  subst h1 h2
  exact ⟨_,_,hk,rfl,lK (Γ:=[]) (by simp) Tryz.func65 (by simp[Tryz.ntmps65]) (b2065 a)⟩
 ·exact h.elim
theorem aQ9 (a:List UInt8):body Tryz.prog [] {} true Tryz.f65 [.wcel 0,S a,I 0] (S a):=by
 (repeat'((conv=>whnf);first|refine Zn ?_|refine Zy ?_|fail))
 (conv=>whnf)
 skip
def xK:Con:=aK 65 true fun args K=>match args with | [.wcel 0,.str a,.val (.int .i64 0)]=>K (S a) | _=>False
theorem aRa:aG Tryz.prog xK:=by
 refine aC rfl (enters_of Tryz.func65 (by kernel_rfl) rfl) ?_
 intro args K h
 simp only[xK] at h
 split at h
 ·rename_i a;exact ⟨_,h,aA (Γ:=[]) (by simp) Tryz.func65 (by simp[Tryz.ntmps65]) rfl (aQ9 a)⟩
 ·exact h.elim
theorem b2067 (a:List UInt8):body Tryz.prog [c31] {} true Tryz.f67 [S a] (.tup [I (inQ a).1,.bl ((inQ a).2=0) inferInstance]):=by
 skip
 (conv=>whnf)
 (repeat'(first|exact trivial|rfl|refine And.intro ?_ ?_|fail))
def aP3:Con:=aK 67 true fun args K=>match args with | [.str a]=>K (.tup [I (inQ a).1,.bl ((inQ a).2=0) inferInstance]) | _=>False
theorem k2067:aG Tryz.prog aP3:=by
 refine aC rfl (enters_of Tryz.func67 (by kernel_rfl) rfl) ?_
 intro args K h
 simp only[aP3] at h
 split at h
 ·rename_i a;exact ⟨_,h,aA (Γ:=[c31]) (by simp[k31]) Tryz.func67 (by simp[Tryz.ntmps67]) rfl (b2067 a)⟩
 ·exact h.elim
theorem b2070 (f s:List UInt8) (n:Int):body Tryz.prog [] {} false Tryz.f70 [.wcel 0,S f,S s,I n] (.clo 133 [] [.wcel n,.lelem [.wcel 0] 0,.lelem [S s] 0,.lelem [S f] 0]):=by
 skip
 (conv=>whnf)
 (repeat'(first|exact trivial|rfl|refine And.intro ?_ ?_|fail))
def aAp:Con:=aK 70 false fun args K=>match args with | [.wcel 0,.str f,.str s,.val (.int .i64 n)]=>K (.clo 133 [] [.wcel n,.lelem [.wcel 0] 0,.lelem [S s] 0,.lelem [S f] 0]) | _=>False
theorem aP4:aG Tryz.prog aAp:=by
 refine aC rfl (enters_of Tryz.func70 (by kernel_rfl) rfl) ?_
 intro args K h
 simp only[aAp] at h
 split at h
 ·rename_i f s n;exact ⟨_,h,aA (Γ:=[]) (by simp) Tryz.func70 (by simp[Tryz.ntmps70]) rfl (b2070 f s n)⟩
 ·exact h.elim
noncomputable def mulA (f s:List UInt8) (k:Nat):List UInt8:=(addQ f (mulQ s (itoa k)).1).1
def OkM (f s:List UInt8) (n:Nat):Prop:=∀k,k<n→(mulQ s (itoa k)).2=0∧(addQ f (mulQ s (itoa k)).1).2=0
noncomputable def mulL (f s:List UInt8) (n:Nat):List (List UInt8):=(List.range n).map (mulA f s)
theorem aKq (f s:List UInt8) (n:Nat):mulL f s (n+1)=mulL f s n++ [mulA f s n]:=by
 unfold mulL;rw[List.range_succ,List.map_append];rfl
theorem aNc (f s:List UInt8) (n:Nat):(mulL f s n).length=n:=by unfold mulL;rw[List.length_map,List.length_range]
noncomputable abbrev itM (f s:List UInt8) (k:Nat):List SV:=[S (mulA f s k)]
theorem b2133 (f s:List UInt8) (n:Nat) (h:OkM f s n∧n≤1000000):uZ Tryz.prog [c61,c19n,c17n,xK] { asks:=[(0,[])] } Tryz.f133 [.wcel n,.lelem [.wcel 0] 0,.lelem [S s] 0,.lelem [S f] 0] n (itM f s):=by
 obtain ⟨h,hn⟩:=h
 skip
 refine Ask.mk ⟨{ X:=Nat,pre:=fun i=>i≤n,mod:=fun i _=>[(9,I i)],heap:=fun i _=>[.yst (some i) n (itM f s)],mu:=fun i=>n-i },rfl,?_⟩
 (repeat'((conv=>whnf);first|refine Zn ?_|fail))
 refine ⟨⟨(0:Nat),Nat.zero_le _,by (repeat'(first|exact trivial|rfl|refine And.intro ?_ ?_|fail))⟩,fun (i:Nat) hi=>?_⟩
 have hi:i≤n:=hi
 by_cases hlt:i<n
 ·obtain ⟨h1,h2⟩:=h i hlt
  have e1:mulQ s (itoa i)=((mulQ s (itoa i)).1,0):=Prod.ext rfl h1
  have e2:addQ f (mulQ s (itoa i)).1=((addQ f (mulQ s (itoa i)).1).1,0):=Prod.ext rfl h2
  (repeat'((conv=>whnf);first|refine Zn ?_|(apply Pin.mk;apply Exists.intro)|apply Pinned.mk rfl rfl|refine .h ?_|refine Zy ?_|refine Zm ?_|fail))
  refine Need.mk (by (repeat'(first|exact trivial|rfl|refine And.intro ?_ ?_|fail))) ?_
  refine Two.mk ?_ ?_
  ·(repeat'((conv=>whnf);first|refine Zn ?_|fail))
   refine ⟨(i+1:Nat),by show n-(i+1)<n-i;omega,hlt,?_⟩
   (repeat'(first|exact trivial|rfl|refine And.intro ?_ ?_|fail))
  ·skip
   (conv=>whnf)
   trivial
 ·have e:i=n:=by omega
  subst e
  (repeat'((conv=>whnf);first|refine Zm ?_|fail))
  (conv=>whnf)
  skip
theorem aRb (n:Int) (s f:List UInt8) (h:0≤n∧OkM f s n.toNat∧n≤1000000):uZ Tryz.prog [c61,c19n,c17n,xK] { asks:=[(0,[])] } Tryz.f133 [.wcel n,.lelem [.wcel 0] 0,.lelem [S s] 0,.lelem [S f] 0] n.toNat (itM f s):=by
 have:=b2133 f s n.toNat ⟨h.2.1,by omega⟩
 rwa [show ((n.toNat:Nat):Int)=n by omega] at this
def aCu:Con:=aK 133 false fun args K=>match args with | [.wcel n,.lelem [.wcel 0] 0,.lelem [.str s] 0,.lelem [.str f] 0]=>Need (0≤n∧OkM f s n.toNat∧n≤1000000) (K (.itr n.toNat (itM f s))) | _=>False
theorem aRc:aG Tryz.prog aCu:=by
 refine aC rfl (enters_of Tryz.func133 (by kernel_rfl) rfl) ?_
 intro args K h
 simp only[aCu] at h
 split at h
 ·rename_i n s f;exact ⟨_,h.go,iV (Γ:=[c61,c19n,c17n,xK]) (by simp[k61,k19n,k17n,aRa]) Tryz.func133 (by simp[Tryz.ntmps133]) (aRb n s f h.ok)⟩
 ·exact h.elim
theorem b2187 (n:Int) (s f:List UInt8) (h:0≤n∧OkM f s n.toNat∧n≤1000000):body Tryz.prog [aCu] { asks:=[(0,[1])] } true Tryz.f187 [.val (.slice none 0 0),.clo 133 [] [.wcel n,.lelem [.wcel 0] 0,.lelem [S s] 0,.lelem [S f] 0]] (.seq .str (mulL f s n.toNat)):=by
 have hl:=fun i=>aNc f s i
 skip
 refine Own.r ?_
 refine ⟨0,.str,22,?_⟩
 skip
 refine Ask.mk ⟨{ X:=Nat,pre:=fun i=>i≤n.toNat,mod:=fun _ _=>[],heap:=fun i H=>[hget H 0,.vec 1 .str (mulL f s i) 22,hget H 2],mu:=fun i=>i,objs:=[1] },rfl,?_⟩
 (repeat'((conv=>whnf);first|refine Zn ?_|fail))
 refine ⟨⟨(0:Nat),rfl,Nat.zero_le _,by (repeat'(first|exact trivial|rfl|exact Nat.one_pos|refine And.intro ?_ ?_|fail))⟩,fun (i:Nat) hi (hlt:i<n.toNat)=>?_,fun (i:Nat) hi (he:i=n.toNat)=>?_⟩
 ·have hli:=hl i
  have hn:=h.2.2
  show hnfL (itM f s i) _
  (repeat'((conv=>whnf);first|refine Zn ?_|refine Zl ?_|fail))
  refine ⟨(i+1:Nat),rfl,hlt,?_⟩
  (repeat'(first|exact trivial|rfl|exact Nat.one_pos|refine And.intro ?_ ?_|fail))
  exact (aKq f s i).symm
 ·subst he
  skip
  (conv=>whnf)
  skip
def aJa:Con:=aK 187 true fun args K=>match args with | [.val (.slice none 0 0),.clo 133 [] [.wcel n,.lelem [.wcel 0] 0,.lelem [.str s] 0,.lelem [.str f] 0]]=>Need (0≤n∧OkM f s n.toNat∧n≤1000000) (K (.seq .str (mulL f s n.toNat))) | _=>False
theorem k2187:aG Tryz.prog aJa:=by
 refine aC rfl (enters_of Tryz.func187 (by kernel_rfl) rfl) ?_
 intro args K h
 simp only[aJa] at h
 split at h
 ·rename_i n s f;exact ⟨_,h.go,aA (Γ:=[aCu]) (by simp[aRc]) Tryz.func187 (by simp[Tryz.ntmps187]) rfl (b2187 n s f h.ok)⟩
 ·exact h.elim
theorem b2132 (n:Int) (s f:List UInt8) (h:0≤n∧OkM f s n.toNat∧n≤1000000):body Tryz.prog [aJa] {} false Tryz.f132 [.clo 133 [] [.wcel n,.lelem [.wcel 0] 0,.lelem [S s] 0,.lelem [S f] 0]] (.seq .str (mulL f s n.toNat)):=by
 (repeat'((conv=>whnf);first|refine Zn ?_|fail))
 (conv=>whnf)
 skip
def aJb:Con:=aK 132 false fun args K=>match args with | [.clo 133 [] [.wcel n,.lelem [.wcel 0] 0,.lelem [.str s] 0,.lelem [.str f] 0]]=>Need (0≤n∧OkM f s n.toNat∧n≤1000000) (K (.seq .str (mulL f s n.toNat))) | _=>False
theorem k2132:aG Tryz.prog aJb:=by
 refine aC rfl (enters_of Tryz.func132 (by kernel_rfl) rfl) ?_
 intro args K h
 simp only[aJb] at h
 split at h
 ·rename_i n s f;exact ⟨_,h.go,aA (Γ:=[aJa]) (by simp[k2187]) Tryz.func132 (by simp[Tryz.ntmps132]) rfl (b2132 n s f h.ok)⟩
 ·exact h.elim
theorem b2069 (n:Int) (s f:List UInt8) (h:0≤n∧OkM f s n.toNat∧n≤1000000):body Tryz.prog [aJb] {} false Tryz.f69 [.wcel 0,.clo 133 [] [.wcel n,.lelem [.wcel 0] 0,.lelem [S s] 0,.lelem [S f] 0]] (.tup [.seq .str (mulL f s n.toNat),I 0]):=by
 (repeat'((conv=>whnf);first|refine Zn ?_|refine Zm ?_|fail))
 (conv=>whnf)
 (repeat'(first|exact trivial|rfl|refine And.intro ?_ ?_|fail))
def aAq:Con:=aK 69 false fun args K=>match args with | [.wcel 0,.clo 133 [] [.wcel n,.lelem [.wcel 0] 0,.lelem [.str s] 0,.lelem [.str f] 0]]=>Need (0≤n∧OkM f s n.toNat∧n≤1000000) (K (.tup [.seq .str (mulL f s n.toNat),I 0])) | _=>False
theorem aP5:aG Tryz.prog aAq:=by
 refine aC rfl (enters_of Tryz.func69 (by kernel_rfl) rfl) ?_
 intro args K h
 simp only[aAq] at h
 split at h
 ·rename_i n s f;exact ⟨_,h.go,aA (Γ:=[aJb]) (by simp[k2132]) Tryz.func69 (by simp[Tryz.ntmps69]) rfl (b2069 n s f h.ok)⟩
 ·exact h.elim
noncomputable def c29n:Con:=aK 66 true fun args K=>match args with
 | [.str a]=>Alt (Has (fun r=>flQ a=(r,0)) fun r=>K (.tup [S r,I 0])) (K (.tup [S (flQ a).1,I (flQ a).2]))
 | _=>False
theorem k29n:aG Tryz.prog c29n:=fL k29 rfl rfl rfl fun args K h=>by
 simp only[c29n] at h
 split at h
 ·rcases h.or with h | h
  ·obtain ⟨r,e,h⟩:=h.ex
   show K _
   rw[e];exact h
  ·exact h
 ·exact h.elim
noncomputable def sG:Con:=aK 67 true fun args K=>match args with
 | [.str a]=>Alt (Has (fun r=>inQ a=(r,0)) fun r=>K (.tup [I r,.bl ((inQ a).2=0) inferInstance])) (K (.tup [I (inQ a).1,.bl ((inQ a).2=0) inferInstance]))
 | _=>False
theorem aNd:aG Tryz.prog sG:=fL k2067 rfl rfl rfl fun args K h=>by
 simp only[sG] at h
 split at h
 ·rcases h.or with h | h
  ·obtain ⟨r,e,h⟩:=h.ex
   show K _
   rw[show r=(inQ _).1 by rw[e]] at h
   exact h
  ·exact h
 ·exact h.elim
theorem aJc {a:List UInt8} (h:chkQ a=0):((cmpQ a [48]).2=0∧0<(cmpQ a [48]).1)↔0<valQ a:=by
 rw[cmp0 h]
 have:=mI 0 (valQ a)
 rw[← this,rJ (valQ a) 0]
 constructor
 ·intro h;have:=h.2;dsimp only at this;omega
 ·intro h;exact ⟨rfl,by dsimp only;omega⟩
theorem aP6 {a b:List UInt8} (h:rgP a b) (h1:a.length≤82) (h2:b.length≤82):valQ a≤valQ b:=by
 obtain ⟨k1,k2⟩:=uD h
 have:=h.2
 rw[aMd k1 h1 k2 h2] at this
 refine Rat.not_lt.1 fun hlt=>?_
 have h3:=(mI _ _).2 hlt
 have h4:=rJ (valQ a) (valQ b)
 dsimp only at this
 omega
def FewP (lo hi o s:List UInt8):Prop:=Lm [lo,hi,o,s]∧(rgP lo hi→chkQ o=0→chkQ s=0→0<valQ s→valQ hi≤valQ lo+((100:Nat):Rat)*valQ s)
theorem aRd {lo hi o s:List UInt8} (h:FewP lo hi o s) (h1:rgP lo hi) (h2:chkQ o=0) (h3:chkQ s=0) (h4:0<valQ s):AtH (valQ lo) (valQ hi) (valQ o) (valQ s)∧lo=numS (valQ lo)∧hi=numS (valQ hi)∧o=numS (valQ o)∧s=numS (valQ s):=by
 obtain ⟨k1,k2⟩:=uD h1
 have l1:=h.1 lo (by simp) k1
 have l2:=h.1 hi (by simp) k2
 have l3:=h.1 o (by simp) h2
 have l4:=h.1 s (by simp) h3
 obtain ⟨e1,z1,w1⟩:=qU k1 l1
 obtain ⟨e2,z2,w2⟩:=qU k2 l2
 obtain ⟨e3,z3,w3⟩:=qU h2 l3
 obtain ⟨e4,z4,w4⟩:=qU h3 l4
 exact ⟨⟨w1,w2,w4,z1,z2,z3,z4,aP6 h1 l1 l2,h4,h.2 h1 h2 h3 h4⟩,e1,e2,e3,e4⟩
theorem aRe {L H O S:Rat} (h:AtH L H O S):OkM (numS (cJ L O S)) (numS S) (eB L H O S).toNat∧mulL (numS (cJ L O S)) (numS S) (eB L H O S).toNat=(atR L H O S).map numS:=by
 have hc:=h.count
 have hm:∀k,k<(eB L H O S).toNat→mulQ (numS S) (itoa k)=(numS (S*((k:Int):Rat)),0)∧addQ (numS (cJ L O S)) (numS (S*((k:Int):Rat)))=(numS (atX L O S k),0):=fun k hk=>⟨h.f12 (by unfold eB at hk;omega),h.f13 (by omega)⟩
 constructor
 ·intro k hk
  obtain ⟨h1,h2⟩:=hm k hk
  rw[h1]
  exact ⟨rfl,by rw[h2]⟩
 ·unfold mulL atR
  rw[List.map_map]
  apply List.map_congr_left
  intro k hk
  obtain ⟨h1,h2⟩:=hm k (List.mem_range.1 hk)
  unfold mulA
  rw[h1,h2];rfl
set_option maxHeartbeats 1000000 in
theorem b2026 (lo hi o s:List UInt8) (hP:FewP lo hi o s):body Tryz.prog [tS,c21,aAl,c20n,c14n,c29n,aFj,c17n,sG,c19n,aAp,aAq] {} false Tryz.f26 [.agg [S lo,S hi],S o,S s] (.tup [.seq .str (atW lo hi o s).1,I (atW lo hi o s).2]):=by
 by_cases h1:rgP lo hi
 ·by_cases h2:chkQ o=0
  ·by_cases h3:chkQ s=0
   ·have hps:=aJc h3
    by_cases h4:0<valQ s
    ·have h5:=hps.2 h4
     rw[show atW lo hi o s=((atR (valQ lo) (valQ hi) (valQ o) (valQ s)).map numS,0) by unfold atW;rw[if_neg (by rintro (h | h | h);exact h h1;exact h h2;exact h h3),if_neg (fun h=>h h4)]]
     obtain ⟨hA,e1,e2,e3,e4⟩:=aRd hP h1 h2 h3 h4
     generalize valQ lo=L at*
     generalize valQ hi=H at*
     generalize valQ o=O at*
     generalize valQ s=Z at*
     subst e1 e2 e3 e4
     have f1:=hA.f1
     have f2:=hA.f2
     have f3:=hA.f3
     have f4:=hA.f4
     have f5:=hA.f5
     have f6:=hA.f6
     have f7:=hA.f7
     obtain ⟨c1,c2⟩:=hA.count
     have f9:=hA.f9
     have f9':=congrArg Prod.snd f9
     have f10:=hA.f10
     have f11:=hA.f11
     obtain ⟨m1,m2⟩:=aRe hA
     have em:max (aV L O Z+cQ H O Z+1) 0=eB L H O Z:=by unfold eB;omega
     rw[← em] at m1 m2
     have hm:0≤max (aV L O Z+cQ H O Z+1) 0∧OkM (numS (cJ L O Z)) (numS Z) (max (aV L O Z+cQ H O Z+1) 0).toNat∧max (aV L O Z+cQ H O Z+1) 0≤1000000:=⟨by omega,m1,by omega⟩
     rw[← m2]
     (repeat'((conv=>whnf);first|refine Zn ?_|refine .h ?_|refine Zm ?_|fail))
     (conv=>whnf)
     (repeat'(first|exact trivial|rfl|refine And.intro ?_ ?_|fail))
    ·rw[show atW lo hi o s=([],2) by unfold atW;rw[if_neg (by rintro (h | h | h);exact h h1;exact h h2;exact h h3),if_pos h4]]
     have h5:=fun h=>h4 (hps.1 h)
     (repeat'((conv=>whnf);first|refine Zy ?_|refine Zm ?_|fail))
     (conv=>whnf)
     (repeat'(first|exact trivial|rfl|refine And.intro ?_ ?_|fail))
   ·rw[show atW lo hi o s=([],1) from if_pos (.inr (.inr h3))]
    (repeat'((conv=>whnf);first|refine Zy ?_|refine Zm ?_|fail))
    (conv=>whnf)
    (repeat'(first|exact trivial|rfl|refine And.intro ?_ ?_|fail))
  ·rw[show atW lo hi o s=([],1) from if_pos (.inr (.inl h2))]
   (repeat'((conv=>whnf);first|refine Zy ?_|refine Zm ?_|fail))
   (conv=>whnf)
   (repeat'(first|exact trivial|rfl|refine And.intro ?_ ?_|fail))
 ·rw[show atW lo hi o s=([],1) from if_pos (.inl h1)]
  (repeat'((conv=>whnf);first|refine Zy ?_|fail))
  (conv=>whnf)
  (repeat'(first|exact trivial|rfl|refine And.intro ?_ ?_|fail))
def aJd:Con:=aK 26 false fun args K=>match args with | [.agg [.str lo,.str hi],.str o,.str s]=>Need (FewP lo hi o s) (K (.tup [.seq .str (atW lo hi o s).1,I (atW lo hi o s).2])) | _=>False
theorem k2026:aG Tryz.prog aJd:=by
 refine aC rfl (enters_of Tryz.func26 (by kernel_rfl) rfl) ?_
 intro args K h
 simp only[aJd] at h
 split at h
 ·rename_i lo hi o s;exact ⟨_,h.go,aA (Γ:=[tS,c21,aAl,c20n,c14n,c29n,aFj,c17n,sG,c19n,aAp,aAq]) (by simp[aM3,k21,aP0,k20n,k14n,k29n,aP2,k17n,aNd,k19n,aP4,aP5]) Tryz.func26 (by simp[Tryz.ntmps26]) rfl (b2026 lo hi o s h.ok)⟩
 ·exact h.elim
theorem aRf {lo hi m:List UInt8} (h:Lm [lo,hi,m]) (h1:rgP lo hi) (h2:chkQ m=0) (h3:0<valQ m) (h4:¬lo=hi):EvH (valQ lo) (valQ hi) (valQ m)∧lo=numS (valQ lo)∧hi=numS (valQ hi)∧m=numS (valQ m):=by
 obtain ⟨k1,k2⟩:=uD h1
 have l1:=h lo (by simp) k1
 have l2:=h hi (by simp) k2
 have l3:=h m (by simp) h2
 obtain ⟨e1,z1,w1⟩:=qU k1 l1
 obtain ⟨e2,z2,w2⟩:=qU k2 l2
 obtain ⟨e3,z3,w3⟩:=qU h2 l3
 refine ⟨⟨z1,z2,z3,?_,h3⟩,e1,e2,e3⟩
 refine Rat.not_le.1 fun hle=>h4 ?_
 rw[e1,e2,Rat.le_antisymm (aP6 h1 l1 l2) hle]
theorem aRg {L H M:Rat} (h:EvH L H M) (hc:evC L H M≤4095):OkM (numS L) (numS (gQ L H M)) (evC L H M+1).toNat∧mulL (numS L) (numS (gQ L H M)) (evC L H M+1).toNat=(evR L H M).map numS:=by
 have hp:=h.cpos
 constructor
 ·intro k hk
  rw[h.e5 hc (show k≤5000 by omega)]
  exact ⟨rfl,by rw[h.e6 hc (show k≤5000 by omega)]⟩
 ·unfold mulL evR
  rw[List.map_map,show (evC L H M+1).toNat=(clI ((H-L)/M)).toNat+1 by show (clI ((H-L)/M)+1).toNat= _;have:0<clI ((H-L)/M):=hp;omega]
  apply List.map_congr_left
  intro k hk
  have hk:=List.mem_range.1 hk
  have hc':clI ((H-L)/M)≤4095:=hc
  unfold mulA
  rw[h.e5 hc (show k≤5000 by omega),h.e6 hc (show k≤5000 by omega)];rfl
set_option maxHeartbeats 1000000 in
theorem b2014 (lo hi m:List UInt8) (hP:Lm [lo,hi,m]):body Tryz.prog [tS,c21,aAl,c20n,c14n,c29n,aFj,sG,c61,aAp,aAq] {} false Tryz.f14 [.agg [S lo,S hi],S m] (.tup [.seq .str (evW lo hi m).1,I (evW lo hi m).2]):=by
 by_cases h1:rgP lo hi
 ·by_cases h2:chkQ m=0
  ·have hps:=aJc h2
   by_cases h3:0<valQ m
   ·have h5:=hps.2 h3
    have e0:evW lo hi m=if lo=hi then ([lo],0) else if 4095<clI ((valQ hi-valQ lo)/valQ m) then ([],4) else ((evR (valQ lo) (valQ hi) (valQ m)).map numS,0):=by unfold evW;rw[if_neg (by rintro (h | h);exact h h1;exact h h2),if_neg (fun h=>h h3)]
    by_cases h4:lo=hi
    ·rw[if_pos h4] at e0
     rw[e0]
     (repeat'((conv=>whnf);first|refine Zl ?_|refine Zy ?_|refine Zm ?_|fail))
     (conv=>whnf)
     (repeat'(first|exact trivial|rfl|refine And.intro ?_ ?_|fail))
    ·rw[if_neg h4] at e0
     rw[e0]
     obtain ⟨hA,q1,q2,q3⟩:=aRf hP h1 h2 h3 h4
     generalize valQ lo=L at*
     generalize valQ hi=H at*
     generalize valQ m=M at*
     subst q1 q2 q3
     have e1:=hA.e1
     have e2:=hA.e2
     have e3:=hA.e3
     have e3i:=hA.e3i
     have hp:=hA.cpos
     have hcl:=aKb ((H-L)/M)
     have hpp:0<clI ((H-L)/M):=hp
     by_cases hc:4095<clI ((H-L)/M)
     ·rw[if_pos hc]
      by_cases hb:flI ((H-L)/M) < -4611686018427387904∨4611686018427387904<flI ((H-L)/M)
      ·rw[if_pos hb] at e3i
       have g1:=congrArg Prod.fst e3i
       have g2:=congrArg Prod.snd e3i
       dsimp only at g1 g2
       have g3:¬(inQ (itoa (flI ((H-L)/M)))).2=0:=by omega
       rcases hcl with ⟨hd,_⟩ | ⟨hd,_⟩
       ·have hdd:¬ ¬itoa (flI ((H-L)/M))=numS ((H-L)/M):=fun h=>h hd
        (repeat'((conv=>whnf);first|refine Zn ?_|refine .h ?_|refine .r ?_|refine Zy ?_|refine Zm ?_|fail))
        (conv=>whnf)
        (repeat'(first|exact trivial|rfl|refine And.intro ?_ ?_|fail))
       ·(repeat'((conv=>whnf);first|refine Zn ?_|refine .h ?_|refine .r ?_|refine Zy ?_|refine Zm ?_|fail))
        (conv=>whnf)
        (repeat'(first|exact trivial|rfl|refine And.intro ?_ ?_|fail))
      ·rw[if_neg hb] at e3i
       have g2:=congrArg Prod.snd e3i
       rcases hcl with ⟨hd,hq⟩ | ⟨hd,hq⟩
       ·have hdd:¬ ¬itoa (flI ((H-L)/M))=numS ((H-L)/M):=fun h=>h hd
        (repeat'((conv=>whnf);first|refine Zn ?_|refine .h ?_|refine Zy ?_|refine Zm ?_|fail))
        (conv=>whnf)
        (repeat'(first|exact trivial|rfl|refine And.intro ?_ ?_|fail))
       ·(repeat'((conv=>whnf);first|refine Zn ?_|refine .h ?_|refine Zy ?_|refine Zm ?_|fail))
        (conv=>whnf)
        (repeat'(first|exact trivial|rfl|refine And.intro ?_ ?_|fail))
     ·rw[if_neg hc]
      have hc':evC L H M≤4095:=Int.not_lt.1 hc
      have hb:¬(flI ((H-L)/M) < -4611686018427387904∨4611686018427387904<flI ((H-L)/M)):=by rcases hcl with ⟨_,hq⟩ | ⟨_,hq⟩<;>omega
      rw[if_neg hb] at e3i
      have g2:=congrArg Prod.snd e3i
      have e4:=hA.e4 hc'
      obtain ⟨m1,m2⟩:=aRg hA hc'
      rcases hcl with ⟨hd,hq⟩ | ⟨hd,hq⟩
      ·have hdd:¬ ¬itoa (flI ((H-L)/M))=numS ((H-L)/M):=fun h=>h hd
       have hq':evC L H M=flI ((H-L)/M):=hq
       rw[hq'] at e4 m1 m2
       have hm:0≤flI ((H-L)/M)+1∧OkM (numS L) (numS (gQ L H M)) (flI ((H-L)/M)+1).toNat∧flI ((H-L)/M)+1≤1000000:=⟨by omega,m1,by omega⟩
       rw[← m2]
       (repeat'((conv=>whnf);first|refine Zn ?_|refine .h ?_|refine Zm ?_|fail))
       (conv=>whnf)
       (repeat'(first|exact trivial|rfl|refine And.intro ?_ ?_|fail))
      ·have hq':evC L H M=flI ((H-L)/M)+1:=hq
       rw[hq'] at e4 m1 m2
       have hm:0≤flI ((H-L)/M)+1+1∧OkM (numS L) (numS (gQ L H M)) (flI ((H-L)/M)+1+1).toNat∧flI ((H-L)/M)+1+1≤1000000:=⟨by omega,m1,by omega⟩
       rw[← m2]
       (repeat'((conv=>whnf);first|refine Zn ?_|refine .h ?_|refine Zy ?_|refine Zm ?_|fail))
       (conv=>whnf)
       (repeat'(first|exact trivial|rfl|refine And.intro ?_ ?_|fail))
   ·rw[show evW lo hi m=([],2) by unfold evW;rw[if_neg (by rintro (h | h);exact h h1;exact h h2),if_pos h3]]
    have h5:=fun h=>h3 (hps.1 h)
    (repeat'((conv=>whnf);first|refine Zy ?_|refine Zm ?_|fail))
    (conv=>whnf)
    (repeat'(first|exact trivial|rfl|refine And.intro ?_ ?_|fail))
  ·rw[show evW lo hi m=([],1) from if_pos (.inr h2)]
   (repeat'((conv=>whnf);first|refine Zy ?_|refine Zm ?_|fail))
   (conv=>whnf)
   (repeat'(first|exact trivial|rfl|refine And.intro ?_ ?_|fail))
 ·rw[show evW lo hi m=([],1) from if_pos (.inl h1)]
  (repeat'((conv=>whnf);first|refine Zy ?_|fail))
  (conv=>whnf)
  (repeat'(first|exact trivial|rfl|refine And.intro ?_ ?_|fail))
def aJe:Con:=aK 14 false fun args K=>match args with | [.agg [.str lo,.str hi],.str m]=>Need (Lm [lo,hi,m]) (K (.tup [.seq .str (evW lo hi m).1,I (evW lo hi m).2])) | _=>False
theorem k2014:aG Tryz.prog aJe:=by
 refine aC rfl (enters_of Tryz.func14 (by kernel_rfl) rfl) ?_
 intro args K h
 simp only[aJe] at h
 split at h
 ·rename_i lo hi m;exact ⟨_,h.go,aA (Γ:=[tS,c21,aAl,c20n,c14n,c29n,aFj,sG,c61,aAp,aAq]) (by simp[aM3,k21,aP0,k20n,k14n,k29n,aP2,aNd,k61,aP4,aP5]) Tryz.func14 (by simp[Tryz.ntmps14]) rfl (b2014 lo hi m h.ok)⟩
 ·exact h.elim
set_option linter.unusedSimpArgs false
theorem aNe {xs ys:List (List UInt8)} (h:xs.length=ys.length) (hg:∀p,p<xs.length→xs.getD p []=ys.getD p []):xs=ys:=by
 apply List.ext_getElem h
 intro p h1 h2
 have:=hg p h1
 simpa [List.getD_eq_getElem?_getD,h1,h2] using this
theorem b2025 (xs ys:List (List UInt8)):body Tryz.prog [] { asks:=[(0,[])] } true Tryz.f25 [.seq .str xs,.seq .str ys] (.bl (xs=ys) inferInstance):=by
 (repeat'((conv=>whnf);first|refine Zg fun _=>?_|fail))
 (refine Br.mk (fun _=>?_) (fun _=>?_))
 ·rename_i h
  skip
  (conv=>whnf)
  exact fun e=>h (by rw[e])
 ·rename_i hl
  have hl:xs.length=ys.length:=by omega
  (repeat'((conv=>whnf);first|refine Zg fun _=>?_|fail))
  refine Ask.mk ⟨{ X:=Nat,pre:=fun i=>i≤xs.length∧∀j,j<i→xs.getD j []=ys.getD j [],mod:=fun i _=>[(13,I i)],heap:=fun i H=>H,mu:=fun i=>xs.length-i },rfl,?_⟩
  (repeat'((conv=>whnf);first|refine Zn ?_|fail))
  refine ⟨⟨(0:Nat),⟨Nat.zero_le _,fun j hj=>absurd hj (Nat.not_lt_zero _)⟩,by (repeat'(first|exact trivial|rfl|refine And.intro ?_ ?_|fail))⟩,fun (i:Nat) hi=>?_⟩
  obtain ⟨hi,hb⟩:=hi
  by_cases hlt:i<xs.length
  ·by_cases hne:xs.getD i []=ys.getD i []
   ·(repeat'((conv=>whnf);first|refine Zn ?_|refine Zj ?_|(apply Pin.mk;apply Exists.intro)|apply Pinned.mk rfl rfl|refine Zy ?_|refine Zm ?_|fail))
    refine ⟨(i+1:Nat),by show xs.length-(i+1)<xs.length-i;omega,⟨hlt,fun j hj=>?_⟩,by (repeat'(first|exact trivial|rfl|refine And.intro ?_ ?_|fail))⟩
    by_cases e:j=i
    ·subst e;exact hne
    ·exact hb j (by omega)
   ·(repeat'((conv=>whnf);first|refine Zn ?_|refine Zj ?_|(apply Pin.mk;apply Exists.intro)|apply Pinned.mk rfl rfl|refine Zy ?_|fail))
    (conv=>whnf)
    exact fun e=>hne (by rw[e])
  ·have hii:i=xs.length:=by omega
   subst hii
   (repeat'((conv=>whnf);first|refine Zm ?_|fail))
   (conv=>whnf)
   exact aNe hl hb
def aAr:Con:=aK 25 true fun args K=>match args with | [.seq .str xs,.seq .str ys]=>K (.bl (xs=ys) inferInstance) | _=>False
theorem aP7:aG Tryz.prog aAr:=by
 refine aC rfl (enters_of Tryz.func25 (by kernel_rfl) rfl) ?_
 intro args K h
 simp only[aAr] at h
 split at h
 ·rename_i xs ys;exact ⟨_,h,aA (Γ:=[]) (by simp) Tryz.func25 (by simp[Tryz.ntmps25]) rfl (b2025 xs ys)⟩
 ·exact h.elim
theorem b2099 (s:List UInt8):body Tryz.prog [c44] {} true Tryz.f99 [S s] (.bl (gP s) inferInstance):=by
 unfold gP
 (repeat'((conv=>whnf);first|refine Zg fun _=>?_|fail))
 (refine Br.mk (fun _=>?_) (fun _=>?_))
 ·rename_i h
  skip
  (conv=>whnf)
  exact .inl (by omega)
 ·rename_i h
  skip
  (conv=>whnf)
  constructor
  ·exact .inr
  ·rintro (h1 | h1)
   ·omega
   ·exact h1
def aJf:Con:=aK 99 true fun args K=>match args with | [.str s]=>K (.bl (gP s) inferInstance) | _=>False
theorem k2099:aG Tryz.prog aJf:=by
 refine aC rfl (enters_of Tryz.func99 (by kernel_rfl) rfl) ?_
 intro args K h
 simp only[aJf] at h
 split at h
 ·rename_i s;exact ⟨_,h,aA (Γ:=[c44]) (by simp[k44]) Tryz.func99 (by simp[Tryz.ntmps99]) rfl (b2099 s)⟩
 ·exact h.elim
theorem aRh (l:List (List UInt8)):body Tryz.prog [aJf] { asks:=[(0,[])] } true Tryz.f101 [.seq .str l,.clo 99 [] []] (I (ixD gP l)):=by
 (repeat'((conv=>whnf);first|refine Zg fun _=>?_|fail))
 refine Ask.mk ⟨{ X:=Nat,pre:=fun i=>i≤l.length∧∀j,j<i→¬gP (l.getD j []),mod:=fun i _=>[(8,I i)],heap:=fun i H=>H,mu:=fun i=>l.length-i },rfl,?_⟩
 (repeat'((conv=>whnf);first|refine Zn ?_|fail))
 refine ⟨⟨(0:Nat),⟨Nat.zero_le _,fun j hj=>by omega⟩,?_⟩,fun (i:Nat) hi=>?_⟩
 ·(repeat'(first|exact trivial|rfl|refine And.intro ?_ ?_|fail))
 obtain ⟨hi,hp⟩:=hi
 by_cases hlt:i<l.length
 ·by_cases hb:gP (l.getD i [])
  ·(repeat'((conv=>whnf);first|refine Zn ?_|refine Zj ?_|refine Zy ?_|fail))
   (conv=>whnf)
   (repeat'(first|rfl|refine And.intro ?_ ?_|fail))
   exact (wV _ hlt hb hp).symm
  ·(repeat'((conv=>whnf);first|refine Zn ?_|refine Zj ?_|refine Zy ?_|refine Zm ?_|fail))
   refine ⟨(i+1:Nat),by show l.length-(i+1)<l.length-i;omega,⟨hlt,fun j hj=>?_⟩,?_⟩
   ·rcases Nat.lt_succ_iff_lt_or_eq.1 hj with h1 | h1
    ·exact hp j h1
    ·subst h1;exact hb
   ·(repeat'(first|exact trivial|rfl|refine And.intro ?_ ?_|fail))
 ·have e:i=l.length:=by omega
  subst e
  (repeat'((conv=>whnf);first|refine Zm ?_|fail))
  (conv=>whnf)
  (repeat'(first|rfl|refine And.intro ?_ ?_|fail))
  exact (wW _ hp).symm
def aCv:Con:=aK 101 true fun args K=>match args with | [.seq .str l,.clo 99 [] []]=>K (I (ixD gP l)) | _=>False
theorem aRi:aG Tryz.prog aCv:=by
 refine aC rfl (enters_of Tryz.func101 (by kernel_rfl) rfl) ?_
 intro args K h
 simp only[aCv] at h
 split at h
 ·rename_i l;exact ⟨_,h,aA (Γ:=[aJf]) (by simp[k2099]) Tryz.func101 (by simp[Tryz.ntmps101]) rfl (aRh l)⟩
 ·exact h.elim
theorem aRj (l:List (List UInt8)):body Tryz.prog [aCv] {} true Tryz.f35 [.seq .str l,.clo 99 [] []] (.bl (0≤ixD gP l) inferInstance):=by
 skip
 (conv=>whnf)
 skip
def aCw:Con:=aK 35 true fun args K=>match args with | [.seq .str l,.clo 99 [] []]=>K (.bl (0≤ixD gP l) inferInstance) | _=>False
theorem aRk:aG Tryz.prog aCw:=by
 refine aC rfl (enters_of Tryz.func35 (by kernel_rfl) rfl) ?_
 intro args K h
 simp only[aCw] at h
 split at h
 ·rename_i l;exact ⟨_,h,aA (Γ:=[aCv]) (by simp[aRi]) Tryz.func35 (by simp[Tryz.ntmps35]) rfl (aRj l)⟩
 ·exact h.elim
theorem b2031 (l:List (List UInt8)):body Tryz.prog [aCw] {} true Tryz.f31 [.seq .str l] (.bl (shS l) inferInstance):=by
 skip
 (conv=>whnf)
 exact aOg l
def aAs:Con:=aK 31 true fun args K=>match args with | [.seq .str l]=>K (.bl (shS l) inferInstance) | _=>False
theorem aP8:aG Tryz.prog aAs:=by
 refine aC rfl (enters_of Tryz.func31 (by kernel_rfl) rfl) ?_
 intro args K h
 simp only[aAs] at h
 split at h
 ·rename_i l;exact ⟨_,h,aA (Γ:=[aCw]) (by simp[aRk]) Tryz.func31 (by simp[Tryz.ntmps31]) rfl (b2031 l)⟩
 ·exact h.elim
theorem b2030 (l:List (List UInt8)):body Tryz.prog [aAs,aI5] {} true Tryz.f30 [.seq .str l] (.bl (zT l) inferInstance):=by
 unfold zT
 by_cases h1:l.length≤16
 ·by_cases h2:shS l
  ·(repeat'((conv=>whnf);first|refine Zg fun _=>?_|refine Zy ?_|fail))
   (conv=>whnf)
   exact ⟨fun h=>⟨⟨h1,h2⟩,h⟩,fun h=>h.2⟩
  ·(repeat'((conv=>whnf);first|refine Zg fun _=>?_|refine Zy ?_|refine Zm ?_|fail))
   (conv=>whnf)
   exact fun h=>h2 h.1.2
 ·(repeat'((conv=>whnf);first|refine Zg fun _=>?_|refine Zm ?_|fail))
  (conv=>whnf)
  exact fun h=>h1 h.1.1
def aJg:Con:=aK 30 true fun args K=>match args with | [.seq .str l]=>K (.bl (zT l) inferInstance) | _=>False
theorem k2030:aG Tryz.prog aJg:=by
 refine aC rfl (enters_of Tryz.func30 (by kernel_rfl) rfl) ?_
 intro args K h
 simp only[aJg] at h
 split at h
 ·rename_i l;exact ⟨_,h,aA (Γ:=[aAs,aI5]) (by simp[aP8,k2029]) Tryz.func30 (by simp[Tryz.ntmps30]) rfl (b2030 l)⟩
 ·exact h.elim
theorem aPa:FewP [48] [49,48,48,48] [49,48,48] [52,48,48]:=by
 refine ⟨aL6.1,fun _ _ _ _=>?_⟩
 rw[← aPw,← n400,← aJo]
 simp only[cC]
 decide+kernel
theorem b2013:body Tryz.prog [aJd,aJe,aAr] {} true Tryz.f13 [] (.val (.bool true)):=by
 have p1:=aPa
 have p2:=aL6.2
 have e1:(atW [48] [49,48,48,48] [49,48,48] [52,48,48]).2=0:=by rw[aPx]
 have e2:(atW [48] [49,48,48,48] [49,48,48] [52,48,48]).1= [[49,48,48],[53,48,48],[57,48,48]]:=by rw[aPx]
 have e3:(evW [48] [49,48] [52]).2=0:=by rw[aPy]
 have e4:(evW [48] [49,48] [52]).1= [[48],[49,48,47,51],[50,48,47,51],[49,48]]:=by rw[aPy]
 (repeat'((conv=>whnf);first|refine Zn ?_|refine Zl ?_|refine Zy ?_|fail))
 (conv=>whnf)
 exact iff_of_true e4 rfl
def aJh:Con:=aK 13 true fun args K=>match args with | []=>K (.val (.bool true)) | _=>False
theorem k2013:aG Tryz.prog aJh:=by
 refine aC rfl (enters_of Tryz.func13 (by kernel_rfl) rfl) ?_
 intro args K h
 simp only[aJh] at h
 split at h
 ·exact ⟨_,h,aA (Γ:=[aJd,aJe,aAr]) (by simp[k2026,k2014,aP7]) Tryz.func13 (by simp[Tryz.ntmps13]) rfl b2013⟩
 ·exact h.elim
set_option linter.unusedSimpArgs false
def npP (d:List UInt8):Prop:=¬((cmpQ [48] d).2=0∧(cmpQ [48] d).1<0)
noncomputable instance (s:List UInt8):Decidable (npP s):=Classical.propDecidable _
noncomputable instance:DecidablePred npP:=fun s=>Classical.propDecidable _
def prP (lo hi s:List UInt8):Prop:=shS [lo,hi,s]∧valQ lo≤valQ hi∧0<valQ s∧(valQ hi-valQ lo)/valQ s≤100
noncomputable instance (lo hi s:List UInt8):Decidable (prP lo hi s):=Classical.propDecidable _
theorem sh3 {a b c:List UInt8} (h:shS [a,b,c]):∃p q r,(a=numS p∧b=numS q∧c=numS r)∧Sz 20 p∧Sz 20 q∧Sz 20 r:=by
 obtain ⟨e1,z1⟩:=rK (h a (by simp)).1 (h a (by simp)).2 (by decide)
 obtain ⟨e2,z2⟩:=rK (h b (by simp)).1 (h b (by simp)).2 (by decide)
 obtain ⟨e3,z3⟩:=rK (h c (by simp)).1 (h c (by simp)).2 (by decide)
 exact ⟨_,_,_,⟨e1,e2,e3⟩,z1,z2,z3⟩
theorem sF {p q:Rat}:cmpR p q≤0↔p≤q:=by
 have h1:=mI q p
 have h2:=rJ q p
 constructor
 ·intro h
  refine Rat.not_lt.1 fun hlt=>?_
  have:=h1.2 hlt
  omega
 ·intro h
  have:¬cmpR q p<0:=fun h'=>Rat.not_le.2 (h1.1 h') h
  omega
section
variable {L H M:Rat}
end
def eqV (v s:List UInt8):Prop:=v=s
noncomputable instance (v:List UInt8):DecidablePred (eqV v):=fun s=>Classical.propDecidable _
theorem b2048 (l:List (List UInt8)) (v:List UInt8):body Tryz.prog [] { asks:=[(0,[])] } true Tryz.f48 [.seq .str l,S v] (I (ixD (eqV v) l)):=by
 (repeat'((conv=>whnf);first|refine Zg fun _=>?_|fail))
 refine Ask.mk ⟨{ X:=Nat,pre:=fun i=>i≤l.length∧∀j,j<i→¬eqV v (l.getD j []),mod:=fun i _=>[(8,I i)],heap:=fun i H=>H,mu:=fun i=>l.length-i },rfl,?_⟩
 (repeat'((conv=>whnf);first|refine Zn ?_|fail))
 refine ⟨⟨(0:Nat),⟨Nat.zero_le _,fun j hj=>by omega⟩,?_⟩,fun (i:Nat) hi=>?_⟩
 ·(repeat'(first|exact trivial|rfl|refine And.intro ?_ ?_|fail))
 obtain ⟨hi,hp⟩:=hi
 by_cases hlt:i<l.length
 ·by_cases hb:v=l.getD i []
  ·(repeat'((conv=>whnf);first|refine Zn ?_|refine Zj ?_|refine Zy ?_|fail))
   (conv=>whnf)
   (repeat'(first|rfl|refine And.intro ?_ ?_|fail))
   exact (wV (eqV v) hlt hb hp).symm
  ·(repeat'((conv=>whnf);first|refine Zn ?_|refine Zj ?_|refine Zy ?_|refine Zm ?_|fail))
   refine ⟨(i+1:Nat),by show l.length-(i+1)<l.length-i;omega,⟨hlt,fun j hj=>?_⟩,?_⟩
   ·rcases Nat.lt_succ_iff_lt_or_eq.1 hj with h1 | h1
    ·exact hp j h1
    ·subst h1;exact hb
   ·(repeat'(first|exact trivial|rfl|refine And.intro ?_ ?_|fail))
 ·have e:i=l.length:=by omega
  subst e
  (repeat'((conv=>whnf);first|refine Zm ?_|fail))
  (conv=>whnf)
  (repeat'(first|rfl|refine And.intro ?_ ?_|fail))
  exact (wW _ hp).symm
def aI6:Con:=aK 48 true fun args K=>match args with | [.seq .str l,.str v]=>K (I (ixD (eqV v) l)) | _=>False
theorem k2048:aG Tryz.prog aI6:=by
 refine aC rfl (enters_of Tryz.func48 (by kernel_rfl) rfl) ?_
 intro args K h
 simp only[aI6] at h
 split at h
 ·rename_i l v;exact ⟨_,h,aA (Γ:=[]) (by simp) Tryz.func48 (by simp[Tryz.ntmps48]) rfl (b2048 l v)⟩
 ·exact h.elim
noncomputable instance (v:List UInt8) (l:List (List UInt8)):Decidable (v∈l):=Classical.propDecidable _
def niP (l:List (List UInt8)) (x:List UInt8):Prop:=¬x∈l
noncomputable instance (l:List (List UInt8)) (x:List UInt8):Decidable (niP l x):=Classical.propDecidable _
noncomputable instance (l:List (List UInt8)):DecidablePred (niP l):=fun s=>Classical.propDecidable _
section
variable {α:Type} [DecidableEq α]
theorem rI (x y:α) (r:List α):cpt (x::y::r)=if x=y then cpt (y::r) else x::cpt (y::r):=by rw[cpt]
theorem xI (x y:α):∀l:List α,cpt (l++ [x,y])=if x=y then cpt (l++ [x]) else cpt (l++ [x])++ [y]
 | []=>by
  show cpt [x,y]=if x=y then cpt [x] else cpt [x]++ [y]
  rw[rI]
  by_cases h:x=y
  ·rw[if_pos h,if_pos h,h]
  ·rw[if_neg h,if_neg h];rfl
 | [a]=>by
  show cpt [a,x,y]=if x=y then cpt [a,x] else cpt [a,x]++ [y]
  have ih:=xI x y []
  simp only[List.nil_append] at ih
  rw[rI,ih,rI]
  by_cases h:a=x
  ·simp only[if_pos h]
  ·simp only[if_neg h]
   by_cases h2:x=y
   ·simp only[if_pos h2]
   ·simp only[if_neg h2];rfl
 | a::b::r=>by
  have ih:=xI x y (b::r)
  simp only[List.cons_append] at ih ⊢
  rw[rI,ih,rI]
  by_cases h:a=b
  ·simp only[if_pos h]
  ·simp only[if_neg h]
   by_cases h2:x=y
   ·simp only[if_pos h2]
   ·simp only[if_neg h2];rfl
omit [DecidableEq α] in
theorem oM {xs:List α} {m:Nat} (d:α) (h:m<xs.length):xs.take (m+1)=xs.take m++ [xs.getD m d]:=by
 rw[List.take_succ_eq_append_getElem h]
 simp[List.getD_eq_getElem?_getD,h]
theorem aAm {xs:List α} {m:Nat} (d:α) (hm:1≤m) (h:m<xs.length):cpt (xs.take (m+1))=if xs.getD (m-1) d=xs.getD m d then cpt (xs.take m) else cpt (xs.take m)++ [xs.getD m d]:=by
 obtain ⟨k,rfl⟩:∃k,m=k+1:=⟨m-1,by omega⟩
 rw[oM d h,oM d (show k<xs.length by omega),List.append_assoc]
 exact xI _ _ _
end
theorem aFg {α:Type} {xs ys:List α} {k i:Nat} (d:α) (h:ys.drop k=xs.drop k) (hi:k≤i):ys.getD i d=xs.getD i d:=by
 have e:∀l:List α,l.getD i d=(l.drop k).getD (i-k) d:=fun l=>by
  rw[List.getD_eq_getElem?_getD,List.getD_eq_getElem?_getD,List.getElem?_drop,show k+(i-k)=i by omega]
 rw[e,e,h]
theorem aAn {α:Type} {xs ys:List α} {k j:Nat} (h:ys.drop k=xs.drop k) (hj:k≤j):ys.drop j=xs.drop j:=by
 have:=congrArg (List.drop (j-k)) h
 rwa [List.drop_drop,List.drop_drop,show k+(j-k)=j by omega] at this
theorem aM5 {α:Type} (xs ys:List α) (p:Nat) (h:p≤xs.length):(layL xs p ys).take p=xs.take p:=by
 have h1:(xs.take p).length=p:=by rw[List.length_take];omega
 unfold layL
 first
  | rw[List.take_append_of_le_length (by rw[List.length_append,h1];omega),List.take_append_of_le_length (by omega),List.take_take,Nat.min_self]
  | rw[List.take_append_of_le_length (by omega),List.take_take,Nat.min_self]
theorem aM6 {α:Type} {ys:List α} {k:Nat} (v:α) (h:k<ys.length):(ys.set k v).take (k+1)=ys.take k++ [v]:=by
 rw[oM v (by rw[List.length_set];exact h),List.take_set,List.set_eq_of_length_le (by rw[List.length_take];omega)]
 simp[List.getD_eq_getElem?_getD,h]
theorem aP1 (xs:List (List UInt8)) (h:xs.length≤1000000):yP Tryz.prog [] { asks:=[(0,[]),(2,[])] } Tryz.f45 0 false [.any] .str xs 22 (.ref 0 1) (cpt xs):=by
 by_cases h2:xs.length<2
 ·have e:cpt xs=xs:=by
   match xs,h2 with
   | [],_=>rfl
   | [x],_=>rfl
   | _:: _:: _,h=>simp at h;omega
  rw[e]
  (repeat'((conv=>whnf);first|refine Zg fun _=>?_|refine Zy ?_|fail))
  (conv=>whnf)
  (repeat'(first|rfl|refine And.intro ?_ ?_|fail))
 ·(repeat'((conv=>whnf);first|refine Zg fun _=>?_|refine Zm ?_|fail))
  refine Ask.mk ⟨{ X:=Nat,pre:=fun i=>(1≤i∧i≤xs.length)∧cpt (xs.take i)=xs.take i,mod:=fun i _=>[(3,I i)],heap:=fun i H=>H,mu:=fun i=>xs.length-i },rfl,?_⟩
  (repeat'((conv=>whnf);first|refine Zn ?_|fail))
  refine ⟨⟨(1:Nat),⟨⟨Nat.le_refl _,by omega⟩,?_⟩,?_⟩,fun (i:Nat) hi=>?_⟩
  ·match xs,h2 with
   | [],_=>rfl
   | x:: _,_=>rfl
  ·(repeat'(first|exact trivial|rfl|refine And.intro ?_ ?_|fail))
  obtain ⟨⟨hi1,hi2⟩,hp⟩:=hi
  by_cases hlt:i<xs.length
  ·have hs:=aAm (xs:=xs) (m:=i) [] hi1 hlt
   have ht:=oM (xs:=xs) [] hlt
   by_cases he:xs.getD (i-1) []=xs.getD i []
   ·rw[if_pos he,hp] at hs
    have he':=he.symm
    obtain ⟨p,rfl⟩:∃p,i=p+1:=⟨i-1,by omega⟩
    (repeat'((conv=>whnf);first|refine Zg fun _=>?_|refine Zn ?_|refine Zj ?_|(apply Pin.mk;apply Exists.intro)|apply Pinned.mk rfl rfl|refine Zy ?_|fail))
    refine ixAt p (by omega) ?_
    (repeat'((conv=>whnf);first|(apply Pin.mk;apply Exists.intro)|apply Pinned.mk rfl rfl|refine Zy ?_|fail))
    refine Own.r ?_
    (repeat'((conv=>whnf);first|refine Zn ?_|refine Zj ?_|fail))
    refine Ask.mk ⟨{ X:=Nat × Nat × List (List UInt8),pre:=fun z=>(1≤z.1∧(p+1)+z.1≤xs.length∧z.2.1+1≤(p+1)+z.1)∧List.length z.2.2=xs.length∧z.2.2.take z.2.1=cpt (xs.take ((p+1)+z.1))∧z.2.2.drop ((p+1)+z.1-1)=xs.drop ((p+1)+z.1-1),mod:=fun z _=>[(3,I z.2.1),(5,I z.1)],heap:=fun z H=>[.vec 1 .str z.2.2 22,hget H 1],mu:=fun z=>xs.length-z.1 },rfl,?_⟩
    (repeat'((conv=>whnf);first|refine Zn ?_|fail))
    refine ⟨⟨((1:Nat),((p+1):Nat),xs),⟨⟨Nat.le_refl _,by omega,Nat.le_refl _⟩,rfl,hs.symm,rfl⟩,?_⟩,fun (z:Nat × Nat × List (List UInt8)) hz=>?_⟩
    ·(repeat'(first|exact trivial|rfl|refine And.intro ?_ ?_|fail))
    obtain ⟨⟨g1,g2,g3⟩,g4,g5,g6⟩:=hz
    by_cases hz:(p+1)+z.1<xs.length
    ·have r1:=aFg (i:=(p+1)+z.1) [] g6 (by omega)
     have r2:=aFg (i:=(p+1)+(z.1-1)) [] g6 (by omega)
     have ps:=aAm (xs:=xs) (m:=(p+1)+z.1) [] (by omega) hz
     rw[show (p+1)+z.1-1=(p+1)+(z.1-1) by omega] at ps g6
     by_cases hq:xs.getD ((p+1)+(z.1-1)) []=xs.getD ((p+1)+z.1) []
     ·rw[if_pos hq] at ps
      have hq':¬ ¬z.2.2.getD ((p+1)+z.1) []=z.2.2.getD ((p+1)+(z.1-1)) []:=by rw[r1,r2];exact fun h=>h hq.symm
      (repeat'((conv=>whnf);first|refine Zn ?_|refine Zj ?_|(apply Pin.mk;apply Exists.intro)|apply Pinned.mk rfl rfl|refine Zy ?_|fail))
      refine ixAt (z.1-1) (by omega) ?_
      (repeat'((conv=>whnf);first|refine Zn ?_|(apply Pin.mk;apply Exists.intro)|apply Pinned.mk rfl rfl|refine Zm ?_|fail))
      refine ⟨((z.1+1:Nat),(z.2.1:Nat),z.2.2),by show xs.length-(z.1+1)<xs.length-z.1;omega,⟨⟨Nat.le_succ_of_le g1,hz,Nat.le_succ_of_le g3⟩,g4,g5.trans ps.symm,aAn g6 (show p+1+(z.1-1)≤p+1+(z.1+1)-1 by omega)⟩,?_⟩
      (repeat'(first|exact trivial|rfl|refine And.intro ?_ ?_|fail))
     ·rw[if_neg hq] at ps
      have hq':¬z.2.2.getD ((p+1)+z.1) []=z.2.2.getD ((p+1)+(z.1-1)) []:=by rw[r1,r2];exact fun h=>hq h.symm
      (repeat'((conv=>whnf);first|refine Zn ?_|refine Zj ?_|(apply Pin.mk;apply Exists.intro)|apply Pinned.mk rfl rfl|refine Zy ?_|fail))
      refine ixAt (z.1-1) (by omega) ?_
      (repeat'((conv=>whnf);first|refine Zn ?_|refine Zj ?_|(apply Pin.mk;apply Exists.intro)|apply Pinned.mk rfl rfl|refine Zy ?_|fail))
      refine ⟨((z.1+1:Nat),(z.2.1+1:Nat),z.2.2.set z.2.1 (z.2.2.getD (p+1+z.1) [])),by show xs.length-(z.1+1)<xs.length-z.1;omega,⟨⟨Nat.le_succ_of_le g1,hz,by show z.2.1+1+1≤p+1+(z.1+1);omega⟩,by show List.length (z.2.2.set _ _)= _;rw[List.length_set];exact g4,?_,?_⟩,?_⟩
      ·show List.take (z.2.1+1) (z.2.2.set z.2.1 _)=cpt (xs.take (p+1+z.1+1))
       rw[aM6 _ (by omega),ps,g5,r1]
      ·show List.drop (p+1+(z.1+1)-1) (z.2.2.set z.2.1 _)= _
       rw[List.drop_set,if_pos (by omega)]
       exact aAn g6 (by omega)
      ·(repeat'(first|exact trivial|rfl|refine And.intro ?_ ?_|fail))
    ·have e:(p+1)+z.1=xs.length:=by omega
     rw[e,List.take_length] at g5
     rw[← g5]
     have hll:(layL z.2.2 z.2.1 (List.replicate (z.2.2.length-z.2.1) ({ data:= #[] }:ByteArray).data.toList)).length=z.2.2.length:=qG _ _ _ (by rw[List.length_replicate];omega)
     (repeat'((conv=>whnf);first|refine Zm ?_|fail))
     (conv=>whnf)
     refine Own.r ?_
     (repeat'((conv=>whnf);first|refine Zn ?_|refine Zj ?_|fail))
     (conv=>whnf)
     refine Own.l ?_
     refine Own.r ?_
     (repeat'((conv=>whnf);first|refine Zn ?_|refine Zj ?_|fail))
     (repeat'(first|rfl|refine And.intro ?_ ?_|fail))
     exact aM5 _ _ _ (show z.2.1≤z.2.2.length by omega)
   ·rw[if_neg he,hp] at hs
    have he':¬xs.getD i []=xs.getD (i-1) []:=fun h=>he h.symm
    (repeat'((conv=>whnf);first|refine Zg fun _=>?_|refine Zn ?_|refine Zj ?_|(apply Pin.mk;apply Exists.intro)|apply Pinned.mk rfl rfl|refine Zy ?_|fail))
    refine ixAt (i-1) (by omega) ?_
    (repeat'((conv=>whnf);first|refine Zn ?_|(apply Pin.mk;apply Exists.intro)|apply Pinned.mk rfl rfl|refine Zm ?_|fail))
    refine ⟨(i+1:Nat),by show xs.length-(i+1)<xs.length-i;omega,⟨⟨by omega,by omega⟩,hs.trans ht.symm⟩,?_⟩
    (repeat'(first|exact trivial|rfl|refine And.intro ?_ ?_|fail))
  ·have e:i=xs.length:=by omega
   rw[e,List.take_length] at hp
   rw[hp]
   (repeat'((conv=>whnf);first|refine Zg fun _=>?_|refine Zm ?_|fail))
   (conv=>whnf)
   (repeat'(first|rfl|refine And.intro ?_ ?_|fail))
def aM7:Con:=aAy 45 0 false fun args o K=>match args,o with | [.any],.vec 1 (.str) xs 22=>Need (xs.length≤1000000) (K (.ref 0 1) (.vec 1 (.str) (cpt xs) 22)) | _,_=>False
theorem k2045:aG Tryz.prog aM7:=by
 refine vN (enters_of Tryz.func45 (by kernel_rfl) rfl) ?_
 intro args t xs e K hfl h
 split at h
 ·rename_i zs heq
  cases heq
  first | exact ⟨_,_,h.go,dE (Γ:=[]) (by simp) Tryz.func45 (by simp[Tryz.ntmps45]) rfl (aP1 zs h.ok)⟩ | exact ⟨_,_,h.go,dE (Γ:=[]) (by simp) Tryz.func45 (by simp[Tryz.ntmps45]) rfl (aP1 xs h.ok)⟩
 ·exact h.elim
def outP (a c:List UInt8) (v:List UInt8):Prop:=((cmpQ v a).2=0∧(cmpQ v a).1<0)∨((cmpQ c v).2=0∧(cmpQ c v).1<0)
noncomputable instance (a c v:List UInt8):Decidable (outP a c v):=Classical.propDecidable _
noncomputable instance (a c:List UInt8):DecidablePred (outP a c):=fun s=>Classical.propDecidable _
def insP (a c:List UInt8) (v:List UInt8):Prop:=¬((cmpQ v a).2=0∧(cmpQ v a).1<0)∧¬((cmpQ c v).2=0∧(cmpQ c v).1<0)
noncomputable instance (a c v:List UInt8):Decidable (insP a c v):=Classical.propDecidable _
noncomputable instance (a c:List UInt8):DecidablePred (insP a c):=fun s=>Classical.propDecidable _
theorem b2046 (v a c:List UInt8):body Tryz.prog [tT] {} true Tryz.f46 [S v,.lelem [S a] 0,.lelem [S c] 0] (.bl (outP a c v) inferInstance):=by
 unfold outP
 by_cases h:(cmpQ v a).2=0∧(cmpQ v a).1<0
 ·(repeat'((conv=>whnf);first|refine Zy ?_|fail))
  (conv=>whnf)
  exact .inl h
 ·(repeat'((conv=>whnf);first|refine Zm ?_|fail))
  (conv=>whnf)
  exact ⟨.inr,fun h'=>h'.resolve_left h⟩
def aI7:Con:=aK 46 true fun args K=>match args with | [.str v,.lelem [.str a] 0,.lelem [.str c] 0]=>K (.bl (outP a c v) inferInstance) | _=>False
theorem k2046:aG Tryz.prog aI7:=by
 refine aC rfl (enters_of Tryz.func46 (by kernel_rfl) rfl) ?_
 intro args K h
 simp only[aI7] at h
 split at h
 ·rename_i v a c;exact ⟨_,h,aA (Γ:=[tT]) (by simp[aM4]) Tryz.func46 (by simp[Tryz.ntmps46]) rfl (b2046 v a c)⟩
 ·exact h.elim
theorem b2047 (v a c:List UInt8):body Tryz.prog [tT] {} true Tryz.f47 [S v,.lelem [S a] 0,.lelem [S c] 0] (.bl (insP a c v) inferInstance):=by
 unfold insP
 by_cases h:(cmpQ v a).2=0∧(cmpQ v a).1<0
 ·have hn:¬ ¬((cmpQ v a).2=0∧(cmpQ v a).1<0):=fun h'=>h' h
  (repeat'((conv=>whnf);first|refine Zm ?_|fail))
  (conv=>whnf)
  exact fun h'=>h'.1 h
 ·(repeat'((conv=>whnf);first|refine Zy ?_|fail))
  (conv=>whnf)
  exact ⟨fun h'=>⟨h,h'⟩,fun h'=>h'.2⟩
def aI8:Con:=aK 47 true fun args K=>match args with | [.str v,.lelem [.str a] 0,.lelem [.str c] 0]=>K (.bl (insP a c v) inferInstance) | _=>False
theorem k2047:aG Tryz.prog aI8:=by
 refine aC rfl (enters_of Tryz.func47 (by kernel_rfl) rfl) ?_
 intro args K h
 simp only[aI8] at h
 split at h
 ·rename_i v a c;exact ⟨_,h,aA (Γ:=[tT]) (by simp[aM4]) Tryz.func47 (by simp[Tryz.ntmps47]) rfl (b2047 v a c)⟩
 ·exact h.elim
theorem aQ2 (l:List (List UInt8)) (a:List UInt8) (c:List UInt8):body Tryz.prog [aI7] { asks:=[(0,[])] } true Tryz.f101 [.seq .str l,.clo 46 [] [.lelem [S a] 0,.lelem [S c] 0]] (I (ixD (outP a c) l)):=by
 (repeat'((conv=>whnf);first|refine Zg fun _=>?_|fail))
 refine Ask.mk ⟨{ X:=Nat,pre:=fun i=>i≤l.length∧∀j,j<i→¬(outP a c) (l.getD j []),mod:=fun i _=>[(8,I i)],heap:=fun i H=>H,mu:=fun i=>l.length-i },rfl,?_⟩
 (repeat'((conv=>whnf);first|refine Zn ?_|fail))
 refine ⟨⟨(0:Nat),⟨Nat.zero_le _,fun j hj=>by omega⟩,?_⟩,fun (i:Nat) hi=>?_⟩
 ·(repeat'(first|exact trivial|rfl|refine And.intro ?_ ?_|fail))
 obtain ⟨hi,hp⟩:=hi
 by_cases hlt:i<l.length
 ·by_cases hb:(outP a c) (l.getD i [])
  ·(repeat'((conv=>whnf);first|refine Zn ?_|refine Zj ?_|refine Zy ?_|fail))
   (conv=>whnf)
   (repeat'(first|rfl|refine And.intro ?_ ?_|fail))
   exact (wV _ hlt hb hp).symm
  ·(repeat'((conv=>whnf);first|refine Zn ?_|refine Zj ?_|refine Zy ?_|refine Zm ?_|fail))
   refine ⟨(i+1:Nat),by show l.length-(i+1)<l.length-i;omega,⟨hlt,fun j hj=>?_⟩,?_⟩
   ·rcases Nat.lt_succ_iff_lt_or_eq.1 hj with h1 | h1
    ·exact hp j h1
    ·subst h1;exact hb
   ·(repeat'(first|exact trivial|rfl|refine And.intro ?_ ?_|fail))
 ·have e:i=l.length:=by omega
  subst e
  (repeat'((conv=>whnf);first|refine Zm ?_|fail))
  (conv=>whnf)
  (repeat'(first|rfl|refine And.intro ?_ ?_|fail))
  exact (wW _ hp).symm
def aCr:Con:=aK 101 true fun args K=>match args with | [.seq .str l,.clo 46 [] [.lelem [.str a] 0,.lelem [.str c] 0]]=>K (I (ixD (outP a c) l)) | _=>False
theorem aQ3:aG Tryz.prog aCr:=by
 refine aC rfl (enters_of Tryz.func101 (by kernel_rfl) rfl) ?_
 intro args K h
 simp only[aCr] at h
 split at h
 ·rename_i l a c;exact ⟨_,h,aA (Γ:=[aI7]) (by simp[k2046]) Tryz.func101 (by simp[Tryz.ntmps101]) rfl (aQ2 l a c)⟩
 ·exact h.elim
theorem aQ4 (l:List (List UInt8)) (a:List UInt8) (c:List UInt8):body Tryz.prog [aCr] {} true Tryz.f35 [.seq .str l,.clo 46 [] [.lelem [S a] 0,.lelem [S c] 0]] (.bl (0≤ixD (outP a c) l) inferInstance):=by
 skip
 (conv=>whnf)
 skip
theorem aQ5 (l:List (List UInt8)) (a:List UInt8) (c:List UInt8):body Tryz.prog [aI8] { asks:=[(0,[])] } true Tryz.f101 [.seq .str l,.clo 47 [] [.lelem [S a] 0,.lelem [S c] 0]] (I (ixD (insP a c) l)):=by
 (repeat'((conv=>whnf);first|refine Zg fun _=>?_|fail))
 refine Ask.mk ⟨{ X:=Nat,pre:=fun i=>i≤l.length∧∀j,j<i→¬(insP a c) (l.getD j []),mod:=fun i _=>[(8,I i)],heap:=fun i H=>H,mu:=fun i=>l.length-i },rfl,?_⟩
 (repeat'((conv=>whnf);first|refine Zn ?_|fail))
 refine ⟨⟨(0:Nat),⟨Nat.zero_le _,fun j hj=>by omega⟩,?_⟩,fun (i:Nat) hi=>?_⟩
 ·(repeat'(first|exact trivial|rfl|refine And.intro ?_ ?_|fail))
 obtain ⟨hi,hp⟩:=hi
 by_cases hlt:i<l.length
 ·by_cases hb:(insP a c) (l.getD i [])
  ·(repeat'((conv=>whnf);first|refine Zn ?_|refine Zj ?_|refine Zy ?_|fail))
   (conv=>whnf)
   (repeat'(first|rfl|refine And.intro ?_ ?_|fail))
   exact (wV _ hlt hb hp).symm
  ·(repeat'((conv=>whnf);first|refine Zn ?_|refine Zj ?_|refine Zy ?_|refine Zm ?_|fail))
   refine ⟨(i+1:Nat),by show l.length-(i+1)<l.length-i;omega,⟨hlt,fun j hj=>?_⟩,?_⟩
   ·rcases Nat.lt_succ_iff_lt_or_eq.1 hj with h1 | h1
    ·exact hp j h1
    ·subst h1;exact hb
   ·(repeat'(first|exact trivial|rfl|refine And.intro ?_ ?_|fail))
 ·have e:i=l.length:=by omega
  subst e
  (repeat'((conv=>whnf);first|refine Zm ?_|fail))
  (conv=>whnf)
  (repeat'(first|rfl|refine And.intro ?_ ?_|fail))
  exact (wW _ hp).symm
def aCs:Con:=aK 101 true fun args K=>match args with | [.seq .str l,.clo 47 [] [.lelem [.str a] 0,.lelem [.str c] 0]]=>K (I (ixD (insP a c) l)) | _=>False
theorem aQ6:aG Tryz.prog aCs:=by
 refine aC rfl (enters_of Tryz.func101 (by kernel_rfl) rfl) ?_
 intro args K h
 simp only[aCs] at h
 split at h
 ·rename_i l a c;exact ⟨_,h,aA (Γ:=[aI8]) (by simp[k2047]) Tryz.func101 (by simp[Tryz.ntmps101]) rfl (aQ5 l a c)⟩
 ·exact h.elim
theorem aQ7 (l:List (List UInt8)) (a:List UInt8) (c:List UInt8):body Tryz.prog [aCs] {} true Tryz.f35 [.seq .str l,.clo 47 [] [.lelem [S a] 0,.lelem [S c] 0]] (.bl (0≤ixD (insP a c) l) inferInstance):=by
 skip
 (conv=>whnf)
 skip
theorem aAo {p q:Rat} {k:Nat} (hp:Sz k p) (hq:Sz k q) (hk:0<k∧k≤150):((cmpQ (numS p) (numS q)).2=0∧(cmpQ (numS p) (numS q)).1<0)↔p<q:=by
 rw[nM hp hq hk.1 hk.1 (by omega),← mI]
 exact ⟨fun h=>h.2,fun h=>⟨rfl,h⟩⟩
theorem pU {qs:List Rat} {A C:Rat} (hq:∀q∈qs,Sz 20 q) (zA:Sz 20 A) (zC:Sz 20 C) (hc:ckS (qs.map numS)=0) (hAC:A≤C):wiS (qs.map numS) (numS A) (numS C)=((Fr A C qs).map numS,0):=by
 unfold wiS
 rw[if_neg (by rintro (h | h);exact h hc;exact h ((aCf zA zC ⟨by decide,by decide⟩).2 hAC))]
 congr 1
 rw[List.filter_map]
 congr 1
 apply List.filter_congr
 intro q hq'
 have z:=hq q hq'
 show decide _=decide _
 rw[nM zA z (by decide) (by decide) (by decide),nM z zC (by decide) (by decide) (by decide)]
 exact decide_eq_decide.2 (and_congr sF sF)
section
variable {qs:List Rat} {A C:Rat}
def loN (A:Rat) (qs:List Rat):Nat:=(qs.filter (fun v=>decide (v<A))).length
theorem nK (ha:Asc qs):qs=qs.filter (fun v=>decide (v<A))++(Fr A C qs++qs.filter (fun v=>decide (A≤v∧C<v))):=aKd ha A C
theorem aFh {l m:List Rat} {i:Nat} (h:i<l.length):(l++m).getD i 0=l.getD i 0:=by
 rw[List.getD_eq_getElem?_getD,List.getD_eq_getElem?_getD,List.getElem?_append_left h]
theorem xJ {l m:List Rat} {i:Nat} (h:l.length≤i):(l++m).getD i 0=m.getD (i-l.length) 0:=by
 rw[List.getD_eq_getElem?_getD,List.getD_eq_getElem?_getD,List.getElem?_append_right h]
theorem iO {P Z R qs:List Rat} (h:qs=P++(Z++R)):qs.length=P.length+Z.length+R.length∧(∀i,i<P.length→qs.getD i 0=P.getD i 0)∧(∀i,i<Z.length→qs.getD (P.length+i) 0=Z.getD i 0)∧qs.getD (P.length+Z.length) 0=R.getD 0 0∧(qs.take (P.length+Z.length)).drop P.length=Z:=by
 subst h
 refine ⟨by rw[List.length_append,List.length_append];omega,fun i hi=>aFh hi,fun i hi=>?_,?_,?_⟩
 ·rw[xJ (by omega),show P.length+i-P.length=i by omega,aFh hi]
 ·rw[xJ (by omega),show P.length+Z.length-P.length=Z.length by omega,xJ (Nat.le_refl _),Nat.sub_self]
 ·rw[← List.append_assoc,List.take_append_of_le_length (by rw[List.length_append];omega),List.take_of_length_le (by rw[List.length_append];omega),List.drop_append_of_le_length (Nat.le_refl _),List.drop_length,List.nil_append]
theorem aM8 (ha:Asc qs):loN A qs+(Fr A C qs).length≤qs.length:=by
 have:=(iO (nK (A:=A) (C:=C) ha)).1
 unfold loN;omega
theorem aFi (ha:Asc qs) {i:Nat} (h:i<loN A qs):qs.getD i 0<A:=by
 rw[(iO (nK (A:=A) (C:=A) ha)).2.1 i h]
 have:=(List.mem_filter.1 (jP (d:=(0:Rat)) h)).2
 simpa using this
theorem lo_in (ha:Asc qs) {i:Nat} (h:i<(Fr A C qs).length):qs.getD (loN A qs+i) 0=(Fr A C qs).getD i 0:=(iO (nK (A:=A) (C:=C) ha)).2.2.1 i h
theorem aM9 (ha:Asc qs) (h:loN A qs+(Fr A C qs).length<qs.length):C<qs.getD (loN A qs+(Fr A C qs).length) 0:=by
 obtain ⟨e1,_,_,e2,_⟩:=iO (nK (A:=A) (C:=C) ha)
 have e2:qs.getD (loN A qs+(Fr A C qs).length) 0= _:=e2
 rw[e2]
 have h:(qs.filter (fun v=>decide (v<A))).length+(Fr A C qs).length<qs.length:=h
 have:=(List.mem_filter.1 (jP (d:=(0:Rat)) (l:=qs.filter (fun v=>decide (A≤v∧C<v))) (i:=0) (by omega))).2
 simp only[decide_eq_true_eq] at this
 exact this.2
theorem aNa (ha:Asc qs):((qs.map numS).take (loN A qs+(Fr A C qs).length)).drop (loN A qs)=(Fr A C qs).map numS:=by
 rw[← List.map_take,← List.map_drop]
 congr 1
 exact (iO (nK (A:=A) (C:=C) ha)).2.2.2.2
theorem aNb (ha:Asc qs) (h:0<(Fr A C qs).length):ixD (eqV (((Fr A C qs).map numS).getD 0 [])) (qs.map numS)=loN A qs:=by
 have hl:=aM8 (A:=A) (C:=C) ha
 have e0:((Fr A C qs).map numS).getD 0 []=numS ((Fr A C qs).getD 0 0):=nE h
 refine wV (eqV _) (i:=loN A qs) (by rw[List.length_map];omega) ?_ ?_
 ·show _= _
  rw[e0,nE (by omega)]
  have:=lo_in (A:=A) (C:=C) ha h
  rw[Nat.add_zero] at this
  rw[this]
 ·intro j hj he
  have he:_= _:=he
  rw[e0,nE (by omega)] at he
  have h1:=aFi ha hj
  have h2:=(List.mem_filter.1 (jP (d:=(0:Rat)) h)).2
  simp only[decide_eq_true_eq] at h2
  have e:=qX he
  rw[← e] at h1
  exact Rat.not_lt.2 h2.1 h1
end
theorem b34o (xss:List (List (List UInt8))) (h:xss.flatten.length≤1000000∧xss.length≤1000):aDf Tryz.prog [c75] { asks:=[(0,[]),(2,[1])] } Tryz.f42 [.seq (.slice .str) xss] (.ref 0 1) .str xss.flatten 22:=by
 have h2:=h.2
 have h:=h.1
 (repeat'((conv=>whnf);first|refine Zg fun _=>?_|fail))
 refine Ask.mk ⟨{ X:=Nat,pre:=fun i=>i≤xss.length,mod:=fun i _=>[(3,I (lsum xss i)),(11,I i)],mu:=fun i=>xss.length-i },rfl,?_⟩
 (repeat'((conv=>whnf);first|refine Zn ?_|fail))
 refine ⟨⟨(0:Nat),Nat.zero_le _,?_⟩,fun (i:Nat) (hi:i≤xss.length)=>?_⟩
 ·(repeat'(first|exact trivial|rfl|refine And.intro ?_ ?_|fail))
 ·have hs:lsum xss (i+1)=lsum xss i+(xss.getD i []).length:=by
   unfold lsum;rw[aAx,List.length_append];omega
  have hs0:0≤lsum xss i∧lsum xss i≤1000000:=by
   have:=xU xss i
   unfold lsum;omega
  have hs1:0≤lsum xss (i+1)∧lsum xss (i+1)≤1000000:=by
   have:=xU xss (i+1)
   unfold lsum;omega
  by_cases hlt:i<xss.length
  ·have hneg:¬lsum xss i+((xss.getD i []).length:Int)<0:=by omega
   (repeat'((conv=>whnf);first|refine Zg fun _=>?_|refine Zn ?_|refine Zj ?_|refine Zy ?_|refine Zm ?_|fail))
   refine ⟨(i+1:Nat),?_,?_,?_⟩
   ·show xss.length-(i+1)<xss.length-i
    omega
   ·show i+1≤xss.length
    omega
   ·(repeat'(first|exact trivial|rfl|refine And.intro ?_ ?_|omega|fail))
  ·have hii:i=xss.length:=by omega
   subst hii
   (repeat'((conv=>whnf);first|refine Zg fun _=>?_|refine Zn ?_|refine Zm ?_|fail))
   refine Ask.mk ⟨{ X:=Nat,pre:=fun i=>i≤xss.length,mod:=fun i _=>[(6,.ref 1 1),(27,I i)],objs:=[1],heap:=fun i _=>[.vec 1 .str [] 22,.vec 1 .str (xss.take i).flatten 22],mu:=fun i=>xss.length-i },rfl,?_⟩
   (repeat'((conv=>whnf);first|refine Zn ?_|fail))
   refine ⟨⟨(0:Nat),Nat.zero_le _,?_⟩,fun (i:Nat) (hi:i≤xss.length)=>?_⟩
   ·(repeat'(first|exact trivial|rfl|exact Nat.one_pos|refine And.intro ?_ ?_|fail))
   ·have hs2:(xss.take (i+1)).flatten=(xss.take i).flatten++xss.getD i []:=aAx xss i
    have hs3:(xss.take i).flatten.length+(xss.getD i []).length≤1000000:=by
     have:=xU xss (i+1)
     rw[hs2,List.length_append] at this;omega
    by_cases hlt2:i<xss.length
    ·(repeat'((conv=>whnf);first|refine Zg fun _=>?_|refine Zn ?_|refine Zj ?_|refine Zy ?_|fail))
     refine ⟨(i+1:Nat),?_,?_,?_⟩
     ·show xss.length-(i+1)<xss.length-i
      omega
     ·show i+1≤xss.length
      omega
     ·(repeat'(first|exact trivial|rfl|exact Nat.one_pos|refine And.intro ?_ ?_|fail))
      exact hs2.symm
    ·(repeat'((conv=>whnf);first|refine Zm ?_|fail))
     (conv=>whnf)
     (repeat'(first|rfl|refine And.intro ?_ ?_|fail))
     rw[List.take_of_length_le (by omega)]
     (repeat'(first|rfl|fail))
def c34o:Con:=aAz 42 fun args K=>match args with | [.seq (.slice .str) xss]=>Need (xss.flatten.length≤1000000∧List.length (α:=List (List UInt8)) xss≤1000) (K (.ref 0 1) (.vec 1 .str xss.flatten 22)) | _=>False
theorem k34o:aG Tryz.prog c34o:=by
 refine vO (enters_of Tryz.func42 (by kernel_rfl) rfl) ?_
 intro args K h
 split at h
 ·rename_i xss
  exact ⟨_,_,_,_,_,h.go,fun hfl=>iU (Γ:=[c75]) (by simp[k75]) Tryz.func42 (by simp[Tryz.ntmps42]) hfl (b34o xss h.ok)⟩
 ·exact h.elim
noncomputable def aCt:Con:=aK 35 true fun args K=>match args with
 | [.seq .str l,.clo 46 [] [.lelem [.str a] 0,.lelem [.str c] 0]]=>K (.bl (0≤ixD (outP a c) l) inferInstance)
 | [.seq .str l,.clo 47 [] [.lelem [.str a] 0,.lelem [.str c] 0]]=>K (.bl (0≤ixD (insP a c) l) inferInstance)
 | _=>False
theorem aQ8:aG Tryz.prog aCt:=by
 refine aC rfl (enters_of Tryz.func35 (by kernel_rfl) rfl) ?_
 intro args K h
 simp only[aCt] at h
 split at h
 ·rename_i l a c
  exact ⟨_,h,aA (Γ:=[aCr]) (by simp[aQ3]) Tryz.func35 (by simp[Tryz.ntmps35]) rfl (aQ4 l a c)⟩
 ·rename_i l a c
  exact ⟨_,h,aA (Γ:=[aCs]) (by simp[aQ6]) Tryz.func35 (by simp[Tryz.ntmps35]) rfl (aQ7 l a c)⟩
 ·exact h.elim
set_option maxHeartbeats 4000000 in
theorem b2008 (l:List (List UInt8)) (a b c:List UInt8):body Tryz.prog [aJg,aAs,aJh,c43n,aI9,c34o,aM7,aAr,aCt,aI6,tT] {} true Tryz.f8 [.seq .str l,S a,S b,S c] (.val (.bool true)):=by
 by_cases h1:zT l
 ·by_cases h2:shS [a,b,c]
  ·have hc:=h1.2
   have hLm:Lm l:=aL4 h1.1.2
   have hL2:Lm [a,b,c]:=aL4 h2
   have p1:Lm l∧Lm [a,b]:=⟨hLm,hL2.sub fun x hx=>by simp at hx ⊢;rcases hx with h | h<;>simp[h]⟩
   have p2:Lm l∧Lm [b,c]:=⟨hLm,hL2.sub fun x hx=>by simp at hx ⊢;rcases hx with h | h<;>simp[h]⟩
   have p3:Lm l∧Lm [a,c]:=⟨hLm,hL2.sub fun x hx=>by simp at hx ⊢;rcases hx with h | h<;>simp[h]⟩
   obtain ⟨qs,rfl,hq,ha,hl⟩:=aKc h1
   obtain ⟨A,B,C,⟨rfl,rfl,rfl⟩,zA,zB,zC⟩:=sh3 h2
   have c1:=nM zA zB (by decide) (by decide) (by decide)
   have c2:=nM zB zC (by decide) (by decide) (by decide)
   by_cases hAB:A≤B
   ·have t1:=sF.2 hAB
    by_cases hBC:B≤C
    ·have t2:=sF.2 hBC
     have hAC:=Rat.le_trans hAB hBC
     have e1:=pU hq zA zB hc hAB
     have e2:=pU hq zB zC hc hBC
     have e3:=pU hq zA zC hc hAC
     have f1:=congrArg Prod.snd e1
     have f2:=congrArg Prod.snd e2
     have f3:=congrArg Prod.snd e3
     dsimp only at f1 f2 f3
     have g1:=congrArg Prod.fst e1
     have g2:=congrArg Prod.fst e2
     have g3:=congrArg Prod.fst e3
     dsimp only at g1 g2 g3
     have hfr:∀(x y:Rat),(Fr x y qs).length≤16:=fun x y=>Nat.le_trans (List.length_filter_le _ _) hl
     have fl: [(wiS (qs.map numS) (numS A) (numS B)).1,(wiS (qs.map numS) (numS B) (numS C)).1].flatten=(Fr A B qs++Fr B C qs).map numS:=by
      rw[g1,g2,List.map_append];simp
     have pc: [(wiS (qs.map numS) (numS A) (numS B)).1,(wiS (qs.map numS) (numS B) (numS C)).1].flatten.length≤1000000∧ [(wiS (qs.map numS) (numS A) (numS B)).1,(wiS (qs.map numS) (numS B) (numS C)).1].length≤1000:=by
      refine ⟨?_,by simp⟩
      rw[fl,List.length_map,List.length_append]
      have:=hfr A B
      have:=hfr B C
      omega
     have pc1:=pc.1
     have q1:cpt [(wiS (qs.map numS) (numS A) (numS B)).1,(wiS (qs.map numS) (numS B) (numS C)).1].flatten=(wiS (qs.map numS) (numS A) (numS C)).1:=by
      rw[fl,aIf,wP hAB hBC ha,g3]
     have hz:∀v∈Fr A C qs,Sz 20 v:=fun v hv=>hq v (List.mem_filter.1 hv).1
     have o1:¬0≤ixD (outP (numS A) (numS C)) (wiS (qs.map numS) (numS A) (numS C)).1:=by
      rw[aCl,g3]
      rintro ⟨v,hv,h⟩
      obtain ⟨q,hq',rfl⟩:=List.mem_map.1 hv
      have hin:=(List.mem_filter.1 hq').2
      simp only[decide_eq_true_eq] at hin
      rcases h with h | h
      ·exact Rat.not_lt.2 hin.1 ((aAo (hz q hq') zA ⟨by decide,by decide⟩).1 h)
      ·exact Rat.not_lt.2 hin.2 ((aAo zC (hz q hq') ⟨by decide,by decide⟩).1 h)
     have n2:(qs.map numS).length=qs.length:=List.length_map ..
     have n3:(wiS (qs.map numS) (numS A) (numS C)).1.length=(Fr A C qs).length:=by rw[g3,List.length_map]
     by_cases h0:(Fr A C qs).length=0
     ·have i1:¬0≤ixD (insP (numS A) (numS C)) (qs.map numS):=by
       rw[aCl]
       rintro ⟨v,hv,h⟩
       obtain ⟨q,hq',rfl⟩:=List.mem_map.1 hv
       have u1:=fun h'=>h.1 ((aAo (hq q hq') zA ⟨by decide,by decide⟩).2 h')
       have u2:=fun h'=>h.2 ((aAo zC (hq q hq') ⟨by decide,by decide⟩).2 h')
       have:q∈Fr A C qs:=List.mem_filter.2 ⟨hq',by simpa using ⟨Rat.not_lt.1 u1,Rat.not_lt.1 u2⟩⟩
       rw[show Fr A C qs= [] from List.length_eq_zero_iff.1 h0] at this
       cases this
      (repeat'((conv=>whnf);first|refine Zg fun _=>?_|refine Zn ?_|refine .h ?_|refine Zl ?_|refine Zy ?_|refine Zm ?_|fail))
      (conv=>whnf)
      skip
     ·have h0':0<(Fr A C qs).length:=by omega
      have ll:=aM8 (A:=A) (C:=C) ha
      have ix:=aNb (A:=A) (C:=C) ha h0'
      rw[← g3] at ix
      have sl:=aNa (A:=A) (C:=C) ha
      rw[← g3] at sl
      have q3:(wiS (qs.map numS) (numS A) (numS C)).1=(wiS (qs.map numS) (numS A) (numS C)).1:=rfl
      have w1:0<loN A qs→(cmpQ ((qs.map numS).getD (loN A qs-1) []) (numS A)).2=0∧(cmpQ ((qs.map numS).getD (loN A qs-1) []) (numS A)).1<0:=fun h=>by
       rw[nE (by omega)]
       exact (aAo (hq _ (jP (d:=(0:Rat)) (by omega))) zA ⟨by decide,by decide⟩).2 (aFi ha (by omega))
      have w2:loN A qs+(Fr A C qs).length<qs.length→(cmpQ (numS C) ((qs.map numS).getD (loN A qs+(Fr A C qs).length) [])).2=0∧(cmpQ (numS C) ((qs.map numS).getD (loN A qs+(Fr A C qs).length) [])).1<0:=fun h=>by
       rw[nE h]
       exact (aAo zC (hq _ (jP (d:=(0:Rat)) h)) ⟨by decide,by decide⟩).2 (aM9 ha h)
      by_cases k1:loN A qs=0
      ·by_cases k2:loN A qs+(Fr A C qs).length<qs.length
       ·have w2:=w2 k2
        (repeat'((conv=>whnf);first|refine Zg fun _=>?_|refine Zn ?_|refine Z0 ?_|(apply Pin.mk;apply Exists.intro)|apply Pinned.mk rfl rfl|refine .h ?_|refine Zl ?_|refine Zy ?_|refine Zm ?_|fail))
        refine ixAt (loN A qs) ix ?_
        refine ixAt (loN A qs+(Fr A C qs).length) (by omega) ?_
        (repeat'((conv=>whnf);first|refine Zg fun _=>?_|refine Zn ?_|(apply Pin.mk;apply Exists.intro)|apply Pinned.mk rfl rfl|refine Zy ?_|refine Zm ?_|fail))
        refine ixAt (loN A qs+(Fr A C qs).length) (by omega) ?_
        (repeat'((conv=>whnf);first|(apply Pin.mk;apply Exists.intro)|apply Pinned.mk rfl rfl|refine Zy ?_|fail))
        (conv=>whnf)
        skip
       ·(repeat'((conv=>whnf);first|refine Zg fun _=>?_|refine Zn ?_|refine Z0 ?_|(apply Pin.mk;apply Exists.intro)|apply Pinned.mk rfl rfl|refine .h ?_|refine Zl ?_|refine Zy ?_|refine Zm ?_|fail))
        refine ixAt (loN A qs) ix ?_
        refine ixAt (loN A qs+(Fr A C qs).length) (by omega) ?_
        (repeat'((conv=>whnf);first|refine Zg fun _=>?_|refine Zn ?_|(apply Pin.mk;apply Exists.intro)|apply Pinned.mk rfl rfl|refine Zy ?_|fail))
        (conv=>whnf)
        skip
      ·have w1:=w1 (by omega)
       by_cases k2:loN A qs+(Fr A C qs).length<qs.length
       ·have w2:=w2 k2
        (repeat'((conv=>whnf);first|refine Zg fun _=>?_|refine Zn ?_|refine Z0 ?_|(apply Pin.mk;apply Exists.intro)|apply Pinned.mk rfl rfl|refine .h ?_|refine Zl ?_|refine Zy ?_|refine Zm ?_|fail))
        refine ixAt (loN A qs) ix ?_
        refine ixAt (loN A qs+(Fr A C qs).length) (by omega) ?_
        (repeat'((conv=>whnf);first|refine Zn ?_|(apply Pin.mk;apply Exists.intro)|apply Pinned.mk rfl rfl|refine Zy ?_|refine Zm ?_|fail))
        refine ixAt (loN A qs-1) (by omega) ?_
        (repeat'((conv=>whnf);first|refine Zg fun _=>?_|refine Zn ?_|(apply Pin.mk;apply Exists.intro)|apply Pinned.mk rfl rfl|refine Zy ?_|refine Zm ?_|fail))
        refine ixAt (loN A qs+(Fr A C qs).length) (by omega) ?_
        (repeat'((conv=>whnf);first|(apply Pin.mk;apply Exists.intro)|apply Pinned.mk rfl rfl|refine Zy ?_|fail))
        (conv=>whnf)
        skip
       ·(repeat'((conv=>whnf);first|refine Zg fun _=>?_|refine Zn ?_|refine Z0 ?_|(apply Pin.mk;apply Exists.intro)|apply Pinned.mk rfl rfl|refine .h ?_|refine Zl ?_|refine Zy ?_|refine Zm ?_|fail))
        refine ixAt (loN A qs) ix ?_
        refine ixAt (loN A qs+(Fr A C qs).length) (by omega) ?_
        (repeat'((conv=>whnf);first|refine Zn ?_|(apply Pin.mk;apply Exists.intro)|apply Pinned.mk rfl rfl|refine Zy ?_|refine Zm ?_|fail))
        refine ixAt (loN A qs-1) (by omega) ?_
        (repeat'((conv=>whnf);first|refine Zg fun _=>?_|refine Zn ?_|(apply Pin.mk;apply Exists.intro)|apply Pinned.mk rfl rfl|refine Zy ?_|fail))
        (conv=>whnf)
        skip
    ·have t2:¬cmpR B C≤0:=fun h=>hBC (sF.1 h)
     (repeat'((conv=>whnf);first|refine .h ?_|refine Zl ?_|refine Zy ?_|refine Zm ?_|fail))
     (conv=>whnf)
     skip
   ·have t1:¬cmpR A B≤0:=fun h=>hAB (sF.1 h)
    (repeat'((conv=>whnf);first|refine .h ?_|refine Zl ?_|refine Zy ?_|refine Zm ?_|fail))
    (conv=>whnf)
    skip
  ·(repeat'((conv=>whnf);first|refine Zl ?_|refine Zy ?_|refine Zm ?_|fail))
   (conv=>whnf)
   skip
 ·(repeat'((conv=>whnf);first|refine Zy ?_|fail))
  (conv=>whnf)
  skip
theorem t2008 (l:List (List UInt8)) (a b c:List UInt8) (_:Okd (.slice .str) l) (_:a.length≤maxL) (_:b.length≤maxL) (_:c.length≤maxL):Tri Tryz.prog true 8 [.seq .str l,S a,S b,S c] (.val (.bool true)):=
 aA (Γ:=[aJg,aAs,aJh,c43n,aI9,c34o,aM7,aAr,aCt,aI6,tT]) (by simp[k2030,aP8,k2013,k43n,k2044,k34o,k2045,aP7,aQ8,k2048,aM4]) Tryz.func8 (by simp[Tryz.ntmps8]) rfl (b2008 l a b c)
end RB
end

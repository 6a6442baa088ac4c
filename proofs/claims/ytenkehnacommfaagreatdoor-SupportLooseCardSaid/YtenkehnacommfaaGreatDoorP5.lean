/-
  Part 5: a symbolic executor over the model, contracts of functions and plain laws.
-/
import Derived.Test.YtenkehnacommfaaGreatDoorP4
import Derived.Test.YtenkehnacommfaaGreatDoorProg
import Derived.Shelf.Abstract
import Derived.Shelf.Strconv.Itoa3
import Derived.Shelf.Strconv.AtoiAll
import Derived.Shelf.Strings.Repeat
import Derived.Shelf.Strings.SlTrimAscii
import Derived.Shelf.Strings.Search3
import Derived.Shelf.Strings.Builder1
import Derived.Lib.SmallJoins
import Derived.Lib.AtoiAllCases
import Derived.Lib.AppendIntMem
import Derived.Lib.Bytealg
set_option linter.unusedVariables false
set_option linter.unusedSimpArgs false
set_option maxRecDepth 10000
set_option maxHeartbeats 2000000
section
namespace IB
open Go.Lib
def sgn (b:Bool) (m:Nat):Int:=if b then -(m:Int) else m
def wrM (b:Bool) (m:Nat):List UInt8:=if m=0 then [48] else if b then 45::decDigits m else decDigits m
theorem aSb (b:Bool) (m:Nat):wrM b m=itoa (sgn b m):=by
 unfold wrM sgn itoa
 by_cases h:m=0
 ·subst h
  rw[if_pos rfl]
  cases b<;>exact (cE (show 0<10 by omega)).symm
 ·rw[if_neg h]
  cases b
  ·show decDigits m=if (m:Int)<0 then 45::decDigits (m:Int).natAbs else decDigits (m:Int).toNat
   rw[if_neg (by omega),Int.toNat_natCast]
  ·show 45::decDigits m=if -(m:Int)<0 then 45::decDigits (-(m:Int)).natAbs else decDigits (-(m:Int)).toNat
   rw[if_pos (by omega),show (-(m:Int)).natAbs=m by omega]
theorem aKe (x y:Int) (hy:y≠0):(if x.tmod y≠0∧¬(x.tmod y<0↔y<0) then (x.tdiv y-1,x.tmod y+y) else (x.tdiv y,x.tmod y))=(x.fdiv y,x.fmod y):=by
 have h1:=Int.tmod_add_mul_tdiv x y
 have hlt:(x.tmod y).natAbs<y.natAbs:=by rw[Int.natAbs_tmod];exact Nat.mod_lt _ (by omega)
 rcases Int.lt_or_gt_of_ne hy with hn | hp
 ·split
  ·rename_i h
   have:=(Int.fdiv_fmod_unique' (a:=x) (r:=x.tmod y+y) (q:=x.tdiv y-1) hn).2 ⟨by rw[Int.mul_sub,Int.mul_one];omega,by omega,by omega⟩
   rw[this.1,this.2]
  ·rename_i h
   have:=(Int.fdiv_fmod_unique' (a:=x) (r:=x.tmod y) (q:=x.tdiv y) hn).2 ⟨h1,by omega,by omega⟩
   rw[this.1,this.2]
 ·split
  ·rename_i h
   have:=(Int.fdiv_fmod_unique (a:=x) (r:=x.tmod y+y) (q:=x.tdiv y-1) hp).2 ⟨by rw[Int.mul_sub,Int.mul_one];omega,by omega,by omega⟩
   rw[this.1,this.2]
  ·rename_i h
   have:=(Int.fdiv_fmod_unique (a:=x) (r:=x.tmod y) (q:=x.tdiv y) hp).2 ⟨h1,by omega,by omega⟩
   rw[this.1,this.2]
theorem aQf (b:Bool) (m:Nat) (c:Bool) (n:Nat) (hn:0<n):
  (sgn (b != c) (if b≠c∧0<m%n then m/n+1 else m/n),sgn c (if b≠c∧0<m%n then n-m%n else m%n))=((sgn b m).fdiv (sgn c n),(sgn b m).fmod (sgn c n)):=by
 have h1:=Nat.mod_add_div m n
 have h2:=Nat.mod_lt m hn
 have h1':((m%n:Nat):Int)+(n:Int)*((m/n:Nat):Int)=m:=by exact_mod_cast h1
 generalize m%n=r at h1 h1' h2 ⊢
 generalize m/n=q at h1 h1' ⊢
 cases b<;>cases c<;>simp only[sgn,bne_self_eq_false,Bool.false_eq_true,if_false,if_true,ne_eq,not_true_eq_false,false_and,reduceCtorEq,not_false_eq_true,true_and,Bool.bne_true,Bool.bne_false,Bool.not_false]
 ·have:=(Int.fdiv_fmod_unique (a:=(m:Int)) (b:=(n:Int)) (r:=(r:Int)) (q:=(q:Int)) (by omega)).2 ⟨h1',by omega,by omega⟩
  rw[this.1,this.2]
 ·by_cases h:0<r
  ·have:=(Int.fdiv_fmod_unique' (a:=(m:Int)) (b:= -(n:Int)) (r:= -((n-r:Nat):Int)) (q:= -((q+1:Nat):Int)) (by omega)).2 ⟨by rw[Int.neg_mul_neg];simp only[Int.natCast_add,Int.mul_add];omega,by omega,by omega⟩
   rw[if_pos h,if_pos h,this.1,this.2]
  ·have:=(Int.fdiv_fmod_unique' (a:=(m:Int)) (b:= -(n:Int)) (r:= -(r:Int)) (q:= -(q:Int)) (by omega)).2 ⟨by rw[Int.neg_mul_neg];omega,by omega,by omega⟩
   rw[if_neg h,if_neg h,this.1,this.2]
 ·by_cases h:0<r
  ·have:=(Int.fdiv_fmod_unique (a:= -(m:Int)) (b:=(n:Int)) (r:=((n-r:Nat):Int)) (q:= -((q+1:Nat):Int)) (by omega)).2 ⟨by rw[Int.mul_neg];simp only[Int.natCast_add,Int.mul_add];omega,by omega,by omega⟩
   rw[if_pos h,if_pos h,this.1,this.2]
  ·have:=(Int.fdiv_fmod_unique (a:= -(m:Int)) (b:=(n:Int)) (r:=(r:Int)) (q:= -(q:Int)) (by omega)).2 ⟨by rw[Int.mul_neg];omega,by omega,by omega⟩
   rw[if_neg h,if_neg h,this.1,this.2]
 ·have:=(Int.fdiv_fmod_unique' (a:= -(m:Int)) (b:= -(n:Int)) (r:= -(r:Int)) (q:=(q:Int)) (by omega)).2 ⟨by rw[Int.neg_mul];omega,by omega,by omega⟩
  rw[this.1,this.2]
end IB
end
section
namespace IB
open Go.Lib
noncomputable instance (s:List UInt8):Decidable (jF s):=Classical.propDecidable _
noncomputable def chkQ (s:List UInt8):Int:=if jF s then (if 300<(digs (topS s)).length∨300<(botS s).tail.length then 4 else if (valI (topS s)).natAbs.gcd (denS s)=1 then 0 else 11) else 11
theorem uE {s:List UInt8} (h:chkQ s=0):s=numS (valQ s)∧(digs (topS s)).length≤300∧(botS s).tail.length≤300:=by
 unfold chkQ at h
 split at h
 ·rename_i hf
  split at h
  ·cases h
  ·rename_i hl
   split at h
   ·rename_i hg
    exact ⟨aI4 hf hg,by omega,by omega⟩
   ·cases h
 ·cases h
def lim (n:Int):Bool:=decide (300<(decDigits n.natAbs).length)
noncomputable def cK (a b:List UInt8) (f:Rat→Rat→List UInt8 × Int):List UInt8 × Int:=if chkQ a≠0 then ([],chkQ a) else if chkQ b≠0 then ([],chkQ b) else f (valQ a) (valQ b)
noncomputable def addQ (a b:List UInt8):List UInt8 × Int:=cK a b fun p q=>if lim (p.num*q.den) || lim (q.num*p.den) || lim (p.num*q.den+q.num*p.den) || lim (p.den*q.den) then ([],4) else (numS (p+q),0)
noncomputable def subQ (a b:List UInt8):List UInt8 × Int:=cK a b fun p q=>if lim (p.num*q.den) || lim (q.num*p.den) || lim (p.num*q.den-q.num*p.den) || lim (p.den*q.den) then ([],4) else (numS (p-q),0)
noncomputable def mulQ (a b:List UInt8):List UInt8 × Int:=cK a b fun p q=>if lim (p.num*q.num) || lim (p.den*q.den) then ([],4) else (numS (p*q),0)
noncomputable def divQ (a b:List UInt8):List UInt8 × Int:=cK a b fun p q=>if q=0 then ([],12) else if lim (p.num*q.den) || lim (q.num*p.den) then ([],4) else (numS (p/q),0)
end IB
end
section
open Go Go.Proofs Go.Eng Go.Shelf IB
namespace RB
abbrev I (n:Int):SV:=.val (.int .i64 n)
abbrev Ls (xs:List Int):SV:=.seq (.int .i64) xs
abbrev S (s:List UInt8):SV:=.str s
abbrev B9:Nat:=1000000000
theorem cF {n:Int} {C:Nat→Prop} (j:Nat) (e:n=(j:Int)) (h:C j):Ix n C:=by
 refine ⟨fun i e'=>?_⟩
 have:j=i:=by omega
 subst this;exact h
theorem get9 {l:List Int} (h:InB B9 l) (i:Nat):0≤l.getD i 0∧l.getD i 0<1000000000:=h.getD0 (by decide) i
theorem rB (xs:List Int) (k:Nat) (h:k<xs.length):xs.take (k+1)=xs.take k++ [xs.getD k 0]:=by
 rw[List.take_succ_eq_append_getElem h]
 simp[List.getD_eq_getElem?_getD,h]
theorem nU (xs:List Int) (k i:Nat) (h:i<k):(xs.take k).getD i 0=xs.getD i 0:=by
 simp[List.getD_eq_getElem?_getD,List.getElem?_take,h]
abbrev V (xs:List Int):HO:=.vec 1 (.int .i64) xs 3
theorem b131 (xs:List Int):aDh Tryz.prog [] { asks:=[(0,[0])] } Tryz.f233 0 false [.any] (.int .i64) xs 3 (.ref 0 1) (cU xs):=by
 refine Ask.mk ⟨{ X:=Nat,pre:=fun i=>i≤xs.length∧cU (xs.take i)=cU xs,mod:=fun i _=>[(0,.ref 0 1)],heap:=fun i _=>[V (xs.take i),V []],mu:=fun i=>i,objs:=[0] },rfl,?_⟩
 (repeat' first|refine ZG ?_|fail)
 refine ⟨⟨xs.length,⟨Nat.le_refl _,by rw[List.take_length]⟩,?_⟩,fun (i:Nat) hi=>?_⟩
 ·(repeat' first|exact trivial|rfl|exact Nat.one_pos|refine And.intro ?_ ?_)
  exact (List.take_length).symm
 ·obtain ⟨hi1,hi2⟩:=hi
  have hl:(xs.take i).length=i:=by rw[List.length_take];omega
  (repeat'((conv=>whnf);first|refine Zg fun _=>?_|fail))
  (refine Br.mk (fun _=>?_) (fun _=>?_))
  ·rename_i h1
   have h0:0<i:=by omega
   obtain ⟨k,rfl⟩:∃k,i=k+1:=⟨i-1,by omega⟩
   (repeat' first|refine ZN ?_|refine Zg fun _=>?_)
   refine cF k (by omega) ?_
   (repeat'((conv=>whnf);first|refine Zg fun _=>?_|fail))
   (refine Br.mk (fun _=>?_) (fun _=>?_))
   ·rename_i hz
    rw[nU _ _ _ (by omega)] at hz
    (repeat' first|refine ZN ?_|refine Zg fun _=>?_)
    refine Own.l (Own.r ?_)
    (repeat' first|refine ZN ?_|fail)
    refine cF k (by omega) ?_
    refine ⟨(k:Nat),by show k<k+1;omega,⟨by omega,?_⟩,?_⟩
    ·rw[← hi2,rB _ _ (by omega),hz,dW]
    ·(repeat' first|exact trivial|rfl|exact Nat.one_pos|refine And.intro ?_ ?_)
     rw[List.take_take];congr 1;omega
   ·rename_i hz
    rw[nU _ _ _ (by omega)] at hz
    (conv=>whnf)
    (repeat' first|rfl|refine And.intro ?_ ?_)
    rw[← hi2,rB _ _ (by omega)]
    exact (kG _ _ hz).symm
  ·have:i=0:=by omega
   subst this
   (conv=>whnf)
   (repeat' first|rfl|refine And.intro ?_ ?_)
   rw[← hi2];rfl
theorem b131s (xs:List Int):body Tryz.prog [] { asks:=[(0,[])] } false Tryz.f233 [Ls xs] (Ls (cU xs)):=by
 refine Ask.mk ⟨{ X:=Nat,pre:=fun i=>i≤xs.length∧cU (xs.take i)=cU xs,mod:=fun i _=>[(0,Ls (xs.take i))],heap:=fun i _=>[V []],mu:=fun i=>i },rfl,?_⟩
 (repeat' first|refine ZG ?_|fail)
 refine ⟨⟨xs.length,⟨Nat.le_refl _,by rw[List.take_length]⟩,?_⟩,fun (i:Nat) hi=>?_⟩
 ·(repeat' first|exact trivial|rfl|refine And.intro ?_ ?_)
  exact (List.take_length).symm
 ·obtain ⟨hi1,hi2⟩:=hi
  have hl:(xs.take i).length=i:=by rw[List.length_take];omega
  (repeat'((conv=>whnf);first|refine Zg fun _=>?_|fail))
  (refine Br.mk (fun _=>?_) (fun _=>?_))
  ·rename_i h1
   have h0:0<i:=by omega
   obtain ⟨k,rfl⟩:∃k,i=k+1:=⟨i-1,by omega⟩
   (repeat' first|refine ZG ?_|refine Zg fun _=>?_)
   refine cF k (by omega) ?_
   (repeat'((conv=>whnf);first|refine Zg fun _=>?_|fail))
   (refine Br.mk (fun _=>?_) (fun _=>?_))
   ·rename_i hz
    rw[nU _ _ _ (by omega)] at hz
    (repeat' first|refine ZG ?_|refine Zg fun _=>?_)
    refine cF k (by omega) ?_
    refine ⟨(k:Nat),by show k<k+1;omega,⟨by omega,?_⟩,?_⟩
    ·rw[← hi2,rB _ _ (by omega),hz,dW]
    ·(repeat' first|exact trivial|rfl|refine And.intro ?_ ?_)
     rw[List.take_take];congr 1;omega
   ·rename_i hz
    rw[nU _ _ _ (by omega)] at hz
    (conv=>whnf)
    rw[← hi2,rB _ _ (by omega)]
    exact (kG _ _ hz).symm
  ·have:i=0:=by omega
   subst this
   (conv=>whnf)
   rw[← hi2];rfl
def c131:Con:=aM6 233 false 0 false (fun args o K=>match args,o with | [.any],.vec 1 (.int .i64) xs 3=>K (.ref 0 1) (.vec 1 (.int .i64) (cU xs) 3) | _,_=>False)
 (fun args K=>match args with | [.seq (.int .i64) xs]=>K (Ls (cU xs)) | _=>False)
theorem k131:aG Tryz.prog c131:=by
 refine aNz (enters_of Tryz.func233 (by kernel_rfl) rfl) ?_ ?_
 ·intro args t xs e K hfl h
  split at h
  ·rename_i zs heq
   cases heq
   first | exact ⟨_,_,h,eC (by simp) Tryz.func233 (by simp[Tryz.ntmps233]) rfl (b131 zs)⟩ | exact ⟨_,_,h,eC (by simp) Tryz.func233 (by simp[Tryz.ntmps233]) rfl (b131 xs)⟩
  ·exact h.elim
 ·intro args K h
  split at h
  ·rename_i xs
   exact ⟨_,h,aA (by simp) Tryz.func233 (by simp[Tryz.ntmps233]) rfl (b131s xs)⟩
  ·exact h.elim
theorem b132 (l:List Int) (i:Int) (h:0≤i):body Tryz.prog [] {} true Tryz.f283 [Ls l,I i] (I (l.getD i.toNat 0)):=by
 (repeat'((conv=>whnf);first|refine Zg fun _=>?_|fail))
 (refine Br.mk (fun _=>?_) (fun _=>?_))
 ·(repeat' first|refine ZG ?_|fail)
  refine cF i.toNat (by omega) ?_
  (repeat'((conv=>whnf);first|refine Zg fun _=>?_|fail))
  (conv=>whnf)
  (repeat' first|rfl|refine And.intro ?_ ?_)
 ·rename_i h1
  have:l.getD i.toNat 0=0:=qW _ _ (by omega)
  (conv=>whnf)
  rw[this]
  (repeat' first|rfl|refine And.intro ?_ ?_)
def c132:Con:=aI 283 true fun args K=>match args with | [.seq (.int .i64) l,.val (.int .i64 i)]=>Need (0≤i) (Ix i fun j=>K (I (l.getD j 0))) | _=>False
theorem k132:aG Tryz.prog c132:=by
 refine aB rfl (enters_of Tryz.func283 (by kernel_rfl) rfl) ?_
 intro args K h
 simp only[c132] at h
 split at h
 ·rename_i l i
  exact ⟨_,h.go.use h.ok,aA (by simp) Tryz.func283 (by simp[Tryz.ntmps283]) rfl (b132 l i h.ok)⟩
 ·exact h.elim
theorem b108 (x y c:Int) (h:(0≤x∧x<1000000000)∧(0≤y∧y<1000000000)∧(0≤c∧c≤1)):body Tryz.prog [] {} true Tryz.f292 [I x,I y,I c] (.tup [I ((x+y+c)%1000000000),I ((x+y+c)/1000000000)]):=by
 (repeat' first|refine ZG ?_|fail)
 (conv=>whnf)
 (repeat' first|exact trivial|rfl|refine And.intro ?_ ?_)
def c108:Con:=aI 292 true fun args K=>match args with | [.val (.int .i64 x),.val (.int .i64 y),.val (.int .i64 c)]=>Need ((0≤x∧x<1000000000)∧(0≤y∧y<1000000000)∧(0≤c∧c≤1)) (K (.tup [I ((x+y+c)%1000000000),I ((x+y+c)/1000000000)])) | _=>False
theorem k108:aG Tryz.prog c108:=by
 refine aB rfl (enters_of Tryz.func292 (by kernel_rfl) rfl) ?_
 intro args K h
 simp only[c108] at h
 split at h
 ·rename_i x y c;exact ⟨_,h.go,aA (by simp) Tryz.func292 (by simp[Tryz.ntmps292]) rfl (b108 x y c h.ok)⟩
 ·exact h.elim
abbrev mn (x y c:Int):Int:=if 0≤x-y-c then x-y-c else x-y-c+1000000000
abbrev mc (x y c:Int):Int:=if 0≤x-y-c then 0 else 1
theorem b109 (x y c:Int) (h:(0≤x∧x<1000000000)∧(0≤y∧y<1000000000)∧(0≤c∧c≤1)):body Tryz.prog [] {} true Tryz.f293 [I x,I y,I c] (.tup [I (mn x y c),I (mc x y c)]):=by
 unfold mn mc
 (repeat' first|refine ZG ?_|fail)
 (refine Br.mk (fun _=>?_) (fun _=>?_))
 ·rename_i hb
  (conv=>whnf)
  rw[if_pos hb,if_pos hb]
  (repeat' first|exact trivial|rfl|refine And.intro ?_ ?_)
 ·rename_i hb
  (repeat' first|refine ZG ?_|fail)
  (conv=>whnf)
  rw[if_neg hb,if_neg hb]
  (repeat' first|exact trivial|rfl|refine And.intro ?_ ?_)
def c109:Con:=aI 293 true fun args K=>match args with | [.val (.int .i64 x),.val (.int .i64 y),.val (.int .i64 c)]=>Need ((0≤x∧x<1000000000)∧(0≤y∧y<1000000000)∧(0≤c∧c≤1)) (K (.tup [I (mn x y c),I (mc x y c)])) | _=>False
theorem k109:aG Tryz.prog c109:=by
 refine aB rfl (enters_of Tryz.func293 (by kernel_rfl) rfl) ?_
 intro args K h
 simp only[c109] at h
 split at h
 ·rename_i x y c;exact ⟨_,h.go,aA (by simp) Tryz.func293 (by simp[Tryz.ntmps293]) rfl (b109 x y c h.ok)⟩
 ·exact h.elim
theorem b107p (a b:List Int) (h:InB B9 a∧InB B9 b∧a.length≤100000∧b.length≤100000):body Tryz.prog [c132,c108,c131] { asks:=[(0,[1])] } true Tryz.f291 [Ls a,Ls b,.clo 292 [] []] (Ls (aH B9 (valB B9 a+valB B9 b).toNat)):=by
 obtain ⟨ha,hb,hla,hlb⟩:=h
 (repeat' first|refine ZG ?_|refine Zg fun _=>?_)
 refine Ask.mk ⟨{ X:=Nat,pre:=fun i=>i≤max a.length b.length+1,mod:=fun i _=>[(7,.ref 1 1),(8,I (addK B9 a b i).2),(18,I i)],heap:=fun i _=>[V [],V (addK B9 a b i).1],mu:=fun i=>max a.length b.length+1-i,objs:=[1] },rfl,?_⟩
 (repeat' first|refine ZG ?_|fail)
 refine ⟨⟨(0:Nat),Nat.zero_le _,by (repeat' first|exact trivial|rfl|exact Nat.one_pos|refine And.intro ?_ ?_)⟩,fun (i:Nat) (hi:i≤max a.length b.length+1)=>?_⟩
 obtain ⟨g1,g2,g3,_⟩:=sI (B:=B9) (by decide) ha hb i
 have ga:=get9 ha i
 have gb:=get9 hb i
 (refine Br.mk (fun _=>?_) (fun _=>?_))
 ·have hlt:i<max a.length b.length+1:=by omega
  (repeat' first|refine ZG ?_|fail)
  refine ⟨(i+1:Nat),by show max a.length b.length+1-(i+1)<max a.length b.length+1-i;omega,hlt,?_⟩
  (repeat' first|exact trivial|rfl|exact Nat.one_pos|refine And.intro ?_ ?_)
 ·have e:i=max a.length b.length+1:=by omega
  subst e
  (conv=>whnf)
  rw[← aOh (B:=B9) (by decide) ha hb (Nat.le_max_left _ _) (Nat.le_max_right _ _)]
theorem b107m (a b:List Int) (h:InB B9 a∧InB B9 b∧valB B9 b≤valB B9 a∧a.length≤100000∧b.length≤100000):body Tryz.prog [c132,c109,c131] { asks:=[(0,[1])] } true Tryz.f291 [Ls a,Ls b,.clo 293 [] []] (Ls (aH B9 (valB B9 a-valB B9 b).toNat)):=by
 obtain ⟨ha,hb,hle,hla,hlb⟩:=h
 (repeat' first|refine ZG ?_|refine Zg fun _=>?_)
 refine Ask.mk ⟨{ X:=Nat,pre:=fun i=>i≤max a.length b.length+1,mod:=fun i _=>[(7,.ref 1 1),(8,I (subK B9 a b i).2),(18,I i)],heap:=fun i _=>[V [],V (subK B9 a b i).1],mu:=fun i=>max a.length b.length+1-i,objs:=[1] },rfl,?_⟩
 (repeat' first|refine ZG ?_|fail)
 refine ⟨⟨(0:Nat),Nat.zero_le _,by (repeat' first|exact trivial|rfl|exact Nat.one_pos|refine And.intro ?_ ?_)⟩,fun (i:Nat) (hi:i≤max a.length b.length+1)=>?_⟩
 obtain ⟨g1,g2,g3,_⟩:=sJ (B:=B9) (by decide) ha hb i
 have ga:=get9 ha i
 have gb:=get9 hb i
 (refine Br.mk (fun _=>?_) (fun _=>?_))
 ·have hlt:i<max a.length b.length+1:=by omega
  (repeat' first|refine ZG ?_|fail)
  refine ⟨(i+1:Nat),by show max a.length b.length+1-(i+1)<max a.length b.length+1-i;omega,hlt,?_⟩
  (repeat' first|exact trivial|rfl|exact Nat.one_pos|refine And.intro ?_ ?_)
 ·have e:i=max a.length b.length+1:=by omega
  subst e
  (conv=>whnf)
  rw[← (aOi (B:=B9) (by decide) ha hb (n:=max a.length b.length+1) (by omega) (by omega) hle).1]
def c107:Con:=aI 291 true fun args K=>match args with
 | [.seq (.int .i64) a,.seq (.int .i64) b,.clo 292 [] []]=>Need (InB B9 a∧InB B9 b∧a.length≤100000∧b.length≤100000) (K (Ls (aH B9 (valB B9 a+valB B9 b).toNat)))
 | [.seq (.int .i64) a,.seq (.int .i64) b,.clo 293 [] []]=>Need (InB B9 a∧InB B9 b∧valB B9 b≤valB B9 a∧a.length≤100000∧b.length≤100000) (K (Ls (aH B9 (valB B9 a-valB B9 b).toNat)))
 | _=>False
theorem k107:aG Tryz.prog c107:=by
 refine aB rfl (enters_of Tryz.func291 (by kernel_rfl) rfl) ?_
 intro args K h
 simp only[c107] at h
 split at h
 ·rename_i a b
  exact ⟨_,h.go,aA (by simp[k132,k108,k131]) Tryz.func291 (by simp[Tryz.ntmps291]) rfl (b107p a b h.ok)⟩
 ·rename_i a b
  exact ⟨_,h.go,aA (by simp[k132,k109,k131]) Tryz.func291 (by simp[Tryz.ntmps291]) rfl (b107m a b h.ok)⟩
 ·exact h.elim
theorem c9:((B9:Nat):Int)=1000000000:=rfl
theorem aKt {x y B:Int} (hx:0≤x∧x<B) (hy:0≤y∧y<B):0≤x*y∧x*y≤(B-1)*(B-1):=by
 refine ⟨Int.mul_nonneg hx.1 hy.1,?_⟩
 calc x*y≤(B-1)*y:=Int.mul_le_mul_of_nonneg_right (by omega) hy.1
  _≤(B-1)*(B-1):=Int.mul_le_mul_of_nonneg_left (by omega) (by omega)
theorem b99 (a b:List Int) (h:InB B9 a∧InB B9 b∧a.length≤100000∧b.length≤100000):aNu Tryz.prog [c132,c131] { asks:=[(0,[]),(2,[])] } Tryz.f236 [Ls a,Ls b] (.ref 0 1) (.int .i64) (aH B9 (valB B9 a*valB B9 b).toNat) 3:=by
 obtain ⟨ha,hb,hla,hlb⟩:=h
 obtain ⟨n,hn⟩:∃n,n=a.length+b.length+1:=⟨_,rfl⟩
 (repeat' first|refine ZG ?_|refine Zg fun _=>?_)
 refine Ask.mk ⟨{ X:=Nat,pre:=fun i=>i≤a.length,mod:=fun i _=>[(20,I i)],heap:=fun i _=>[V [],V (mulR B9 a b (List.replicate n 0) i)],mu:=fun i=>a.length-i },rfl,?_⟩
 (repeat' first|refine ZG ?_|fail)
 refine ⟨⟨(0:Nat),Nat.zero_le _,?_⟩,fun (i:Nat) (hi:i≤a.length)=>?_⟩
 ·(repeat' first|exact trivial|rfl|refine And.intro ?_ ?_)
  show List.replicate _ _=List.replicate _ _
  congr 1;omega
 obtain ⟨g1,g2,g3⟩:=sL (B:=B9) (by decide) ha hb (n:=n) (by omega) i hi
 have ga:=get9 ha i
 (refine Br.mk (fun _=>?_) (fun _=>?_))
 ·have hlt:i<a.length:=by omega
  (repeat' first|refine ZG ?_|refine Zg fun _=>?_)
  refine Ask.mk ⟨{ X:=Nat,pre:=fun k=>k≤b.length+1,mod:=fun k _=>[(28,I k),(8,I (mulK B9 (a.getD i 0) b i (mulR B9 a b (List.replicate n 0) i) k).2)],heap:=fun k _=>[V [],V (mulK B9 (a.getD i 0) b i (mulR B9 a b (List.replicate n 0) i) k).1],mu:=fun k=>b.length+1-k },rfl,?_⟩
  (repeat' first|refine ZG ?_|fail)
  refine ⟨⟨(0:Nat),Nat.zero_le _,by (repeat' first|exact trivial|rfl|refine And.intro ?_ ?_)⟩,fun (k:Nat) (hk:k≤b.length+1)=>?_⟩
  obtain ⟨m1,m2,m3,_⟩:=kH (B:=B9) (by decide) (x:=a.getD i 0) ⟨ga.1,by rw[c9];exact ga.2⟩ hb (i:=i) g2 k (by omega)
  have m3:0≤(mulK B9 (a.getD i 0) b i (mulR B9 a b (List.replicate n 0) i) k).2∧(mulK B9 (a.getD i 0) b i (mulR B9 a b (List.replicate n 0) i) k).2<1000000000:=m3
  have gb:=get9 hb k
  have gm:=get9 m2 (i+k)
  have hm:=aKt ga gb
  (refine Br.mk (fun _=>?_) (fun _=>?_))
  ·have hlt:k<b.length+1:=by omega
   (repeat'((conv=>whnf);first|refine Zg fun _=>?_|refine Za ?_|refine Zn ?_|refine Zj ?_|(apply Pin.mk;apply Exists.intro)|apply Pinned.mk rfl rfl|fail))
   refine ⟨(k+1:Nat),by show b.length+1-(k+1)<b.length+1-k;omega,hlt,?_⟩
   (repeat' first|exact trivial|rfl|refine And.intro ?_ ?_)
  ·have e:k=b.length+1:=by omega
   subst e
   (repeat' first|refine ZG ?_|fail)
   refine ⟨(i+1:Nat),by show a.length-(i+1)<a.length-i;omega,hlt,?_⟩
   (repeat' first|exact trivial|rfl|refine And.intro ?_ ?_)
 ·have e:i=a.length:=by omega
  subst e
  (conv=>whnf)
  (repeat' first|rfl|refine And.intro ?_ ?_)
  exact aOk (B:=B9) (by decide) ha hb (by omega)
def c99:Con:=aM7 236 fun args K=>match args with | [.seq (.int .i64) a,.seq (.int .i64) b]=>Need (InB B9 a∧InB B9 b∧a.length≤100000∧b.length≤100000) (K (.ref 0 1) (.vec 1 (.int .i64) (aH B9 (valB B9 a*valB B9 b).toNat) 3)) | _=>False
theorem k99:aG Tryz.prog c99:=by
 refine aN0 (enters_of Tryz.func236 (by kernel_rfl) rfl) ?_
 intro args K h
 split at h
 ·rename_i a b;exact ⟨_,_,_,_,_,h.go,fun hfl=>qP (by simp[k132,k131]) Tryz.func236 (by simp[Tryz.ntmps236]) hfl (b99 a b h.ok)⟩
 ·exact h.elim
abbrev itB (xs:List Int) (k:Nat):List SV:=[I ((xs.length-1-k:Nat)),I (xs.getD (xs.length-1-k) 0)]
theorem b135 (xs:List Int):body Tryz.prog [] {} false Tryz.f237 [Ls xs] (.clo 284 [] [.lelem [Ls xs] 0]):=by
 (conv=>whnf)
 (repeat' first|exact trivial|rfl|refine And.intro ?_ ?_)
def c135:Con:=aI 237 false fun args K=>match args with | [.seq (.int .i64) xs]=>K (.clo 284 [] [.lelem [Ls xs] 0]) | _=>False
theorem k135:aG Tryz.prog c135:=by
 refine aB rfl (enters_of Tryz.func237 (by kernel_rfl) rfl) ?_
 intro args K h
 simp only[c135] at h
 split at h
 ·rename_i xs;exact ⟨_,h,aA (by simp) Tryz.func237 (by simp[Tryz.ntmps237]) rfl (b135 xs)⟩
 ·exact h.elim
theorem b166 (xs:List Int):vP Tryz.prog [] { asks:=[(0,[])] } Tryz.f284 [.lelem [Ls xs] 0] xs.length (itB xs):=by
 (repeat' first|refine ZG ?_|refine Zg fun _=>?_)
 refine Ask.mk ⟨{ X:=Nat,pre:=fun i=>i≤xs.length,mod:=fun i _=>[(3,I ((xs.length:Int)-1-i))],heap:=fun i _=>[.yst (some i) xs.length (itB xs)],mu:=fun i=>xs.length-i },rfl,?_⟩
 (repeat' first|refine ZG ?_|fail)
 refine ⟨⟨(0:Nat),Nat.zero_le _,by (repeat' first|exact trivial|rfl|refine And.intro ?_ ?_|omega)⟩,fun (i:Nat) (hi:i≤xs.length)=>?_⟩
 (refine Br.mk (fun _=>?_) (fun _=>?_))
 ·have hlt:i<xs.length:=by omega
  have e:((xs.length:Int)-1-i)=((xs.length-1-i:Nat):Int):=by omega
  (repeat' first|refine ZG ?_|fail)
  refine cF (xs.length-1-i) (by omega) ?_
  (repeat' first|refine ZG ?_|refine Zg fun _=>?_)
  refine Need.mk (by (repeat' first|exact trivial|rfl|refine And.intro ?_ ?_);exact e) ?_
  refine Two.mk ?_ ?_
  ·(repeat' first|refine ZG ?_|fail)
   refine ⟨(i+1:Nat),by show xs.length-(i+1)<xs.length-i;omega,hlt,?_⟩
   (repeat' first|exact trivial|rfl|refine And.intro ?_ ?_|omega)
  ·(conv=>whnf)
   trivial
 ·(conv=>whnf)
  omega
def c166:Con:=aI 284 false fun args K=>match args with | [.lelem [.seq (.int .i64) xs] 0]=>K (.itr xs.length (itB xs)) | _=>False
theorem k166:aG Tryz.prog c166:=by
 refine aB rfl (enters_of Tryz.func284 (by kernel_rfl) rfl) ?_
 intro args K h
 simp only[c166] at h
 split at h
 ·rename_i xs;exact ⟨_,h,gV (by simp) Tryz.func284 (by simp[Tryz.ntmps284]) (b166 xs)⟩
 ·exact h.elim
def lH (a b:List Int):Nat→Int
 | 0=>0
 | m+1=>if a.getD m 0=b.getD m 0 then lH a b m else a.getD m 0-b.getD m 0
def cmpL (a b:List Int):Int:=if a.length=b.length then lH a b a.length else (a.length:Int)-b.length
theorem b129 (a b:List Int) (h:InB B9 a∧InB B9 b):body Tryz.prog [c135,c166] { asks:=[(0,[])] } true Tryz.f234 [Ls a,Ls b] (I (cmpL a b)):=by
 obtain ⟨ha,hb⟩:=h
 unfold cmpL
 (repeat'((conv=>whnf);first|refine Zg fun _=>?_|fail))
 (refine Br.mk (fun _=>?_) (fun _=>?_))
 ·rename_i h1
  rw[if_neg (by omega)]
  (repeat' first|refine ZG ?_|refine Zg fun _=>?_)
  (conv=>whnf)
  (repeat' first|rfl|refine And.intro ?_ ?_)
 ·rename_i h1
  rw[if_pos (by omega)]
  have hl:a.length=b.length:=by omega
  refine Ask.mk ⟨{ X:=Nat,pre:=fun i=>i≤a.length∧lH a b a.length=lH a b (a.length-i),mod:=fun _ _=>[],heap:=fun _ _=>[.cells [Ls b] 41,.cells [I 0] 3],mu:=fun i=>i },rfl,?_⟩
  (repeat' first|refine ZG ?_|fail)
  refine ⟨⟨(0:Nat),rfl,⟨Nat.zero_le _,rfl⟩,by (repeat' first|exact trivial|rfl|refine And.intro ?_ ?_)⟩,fun (i:Nat) hi (hlt:i<a.length)=>?_,fun (i:Nat) hi (he:i=a.length)=>?_⟩
  ·obtain ⟨hi1,hi2⟩:=hi
   obtain ⟨m,hm⟩:∃m,a.length-i=m+1:=⟨a.length-i-1,by omega⟩
   have e1:a.length-1-i=m:=by omega
   have e2:a.length-(i+1)=m:=by omega
   have ga:=get9 ha m
   have gb:=get9 hb m
   rw[hm,lH] at hi2
   have eI:itB a i= [I m,I (a.getD m 0)]:=by rw[itB,e1]
   show hnfL (itB a i) _
   rw[eI]
   (repeat' first|refine ZG ?_|refine Zg fun _=>?_)
   (refine Br.mk (fun _=>?_) (fun _=>?_))
   ·rename_i hne
    rw[if_neg hne] at hi2
    (repeat' first|refine ZG ?_|refine Zg fun _=>?_)
    (conv=>whnf)
    (repeat' first|rfl|refine And.intro ?_ ?_)
    exact hi2.symm
   ·rename_i heq
    rw[if_pos (Classical.not_not.1 heq)] at hi2
    refine ⟨(i+1:Nat),rfl,⟨by omega,by rw[e2];exact hi2⟩,by (repeat' first|exact trivial|rfl|refine And.intro ?_ ?_)⟩
  ·obtain ⟨hi1,hi2⟩:=hi
   subst he
   rw[Nat.sub_self] at hi2
   (conv=>whnf)
   (repeat' first|rfl|refine And.intro ?_ ?_)
   exact hi2.symm
def c129:Con:=aI 234 true fun args K=>match args with | [.seq (.int .i64) a,.seq (.int .i64) b]=>Need (InB B9 a∧InB B9 b) (K (I (cmpL a b))) | _=>False
theorem k129:aG Tryz.prog c129:=by
 refine aB rfl (enters_of Tryz.func234 (by kernel_rfl) rfl) ?_
 intro args K h
 simp only[c129] at h
 split at h
 ·rename_i a b;exact ⟨_,h.go,aA (by simp[k135,k166]) Tryz.func234 (by simp[Tryz.ntmps234]) rfl (b129 a b h.ok)⟩
 ·exact h.elim
theorem tP {a b:List Int} (ha:InB B9 a) (hb:InB B9 b) (hl:a.length=b.length):∀m,m≤a.length→(∀j,m≤j→j<a.length→a.getD j 0=b.getD j 0)→
  (lH a b m<0↔valB B9 a<valB B9 b)∧(lH a b m=0↔valB B9 a=valB B9 b)
 | 0,_,h=>by
  have:a=b:=kI hl fun j hj=>h j (Nat.zero_le _) hj
  subst this
  simp[lH]
 | m+1,hm,h=>by
  simp only[lH]
  by_cases e:a.getD m 0=b.getD m 0
  ·rw[if_pos e]
   refine tP ha hb hl m (by omega) fun j h1 h2=>?_
   by_cases e2:j=m
   ·rw[e2];exact e
   ·exact h j (by omega) h2
  ·rw[if_neg e]
   rcases Int.lt_or_gt_of_ne e with h1 | h1
   ·have:=aI5 (B:=B9) (by decide) ha hb hl (by omega) (fun j h2 h3=>h j (by omega) h3) h1
    omega
   ·have:=aI5 (B:=B9) (by decide) hb ha hl.symm (by omega) (fun j h2 h3=>(h j (by omega) (by omega)).symm) h1
    omega
theorem xY (m n:Nat):(cmpL (aH B9 m) (aH B9 n)<0↔m<n)∧(cmpL (aH B9 m) (aH B9 n)=0↔m=n):=by
 unfold cmpL
 split
 ·rename_i hl
  have:=tP (bI (B:=B9) (by decide) m) (bI (B:=B9) (by decide) n) hl _ (Nat.le_refl _) fun j h1 h2=>by omega
  rw[dL (by decide),dL (by decide)] at this
  omega
 ·rename_i hl
  rcases Nat.lt_or_ge (aH B9 m).length (aH B9 n).length with h | h
  ·have:=mT (B:=B9) (by decide) h
   omega
  ·have:=mT (B:=B9) (by decide) (show (aH B9 n).length<(aH B9 m).length by omega)
   omega
theorem b134 (a:List Int) (d:Int) (h:InB B9 a∧(0<d∧d<1000000000)∧a.length≤100000):body Tryz.prog [c135,c166,c131] { asks:=[(0,[])] } false Tryz.f235 [Ls a,I d] (.tup [Ls (aH B9 (valB B9 a/d).toNat),Ls (aH B9 (valB B9 a%d).toNat)]):=by
 obtain ⟨ha,hd,hla⟩:=h
 obtain ⟨q1,q2,q3⟩:=aOl (B:=B9) (by decide) hd.1 hd.2 ha
 (repeat' first|refine ZG ?_|refine Zg fun _=>?_)
 refine Ask.mk ⟨{ X:=Nat,pre:=fun i=>i≤a.length,mod:=fun _ _=>[],heap:=fun i _=>[.cells [I d] 3,V [],.cells [.ref 4 1] 41,V [],V (divK B9 d a i).1,.cells [I (divK B9 d a i).2] 3],mu:=fun i=>i },rfl,?_⟩
 (repeat' first|refine ZG ?_|fail)
 refine ⟨⟨(0:Nat),rfl,Nat.zero_le _,?_⟩,fun (i:Nat) hi (hlt:i<a.length)=>?_,fun (i:Nat) hi (he:i=a.length)=>?_⟩
 ·(repeat' first|exact trivial|rfl|refine And.intro ?_ ?_)
 ·obtain ⟨g1,g2,g3,_⟩:=sM (B:=B9) (by decide) hd.1 ha i (by omega)
  have ga:=get9 ha (a.length-1-i)
  have hm:=Int.mul_le_mul_of_nonneg_right (show (divK B9 d a i).2≤999999998 by omega) (show (0:Int)≤1000000000 by omega)
  have hm0:=Int.mul_nonneg g3.1 (show (0:Int)≤1000000000 by omega)
  show hnfL (itB a i) _
  (repeat'((conv=>whnf);first|refine Zg fun _=>?_|refine Za ?_|refine Zn ?_|refine Zj ?_|(apply Pin.mk;apply Exists.intro)|apply Pinned.mk rfl rfl|(apply PinH.mk;apply Exists.intro;apply Exists.intro)|exact Zf|refine Zc ?_ ?_|fail))
  refine ⟨(i+1:Nat),rfl,hlt,by (repeat' first|exact trivial|rfl|refine And.intro ?_ ?_)⟩
 ·subst he
  (repeat'((conv=>whnf);first|(apply Pin.mk;apply Exists.intro)|apply Pinned.mk rfl rfl|(apply PinH.mk;apply Exists.intro;apply Exists.intro)|exact Zf|refine Zc ?_ ?_|refine Zl ?_|fail))
  (conv=>whnf)
  (repeat' first|exact trivial|refine And.intro ?_ ?_)
  ·exact q1
  ·exact q3
def c134:Con:=aI 235 false fun args K=>match args with | [.seq (.int .i64) a,.val (.int .i64 d)]=>Need (InB B9 a∧(0<d∧d<1000000000)∧a.length≤100000) (K (.tup [Ls (aH B9 (valB B9 a/d).toNat),Ls (aH B9 (valB B9 a%d).toNat)])) | _=>False
theorem k134:aG Tryz.prog c134:=by
 refine aB rfl (enters_of Tryz.func235 (by kernel_rfl) rfl) ?_
 intro args K h
 simp only[c134] at h
 split at h
 ·rename_i a d;exact ⟨_,h.go,aA (by simp[k135,k166,k131]) Tryz.func235 (by simp[Tryz.ntmps235]) rfl (b134 a d h.ok)⟩
 ·exact h.elim
theorem b137 (v:List Int) (j q:Int) (u:List Int) (h:InB B9 u∧InB B9 v∧0≤j∧(0≤q∧q≤8000000000)∧j+v.length+1≤u.length∧u.length≤300000):aDh Tryz.prog [c132] { asks:=[(0,[])] } Tryz.f239 0 true [.any,Ls v,I j,I q] (.int .i64) u 3 (.bl (0<(bA B9 u v j.toNat q (v.length+1)).2) inferInstance) (bA B9 u v j.toNat q (v.length+1)).1:=by
 obtain ⟨hu,hv,hj,hq,hl,hlu⟩:=h
 obtain ⟨j,rfl⟩:∃k:Nat,j=k:=⟨j.toNat,by omega⟩
 rw[Int.toNat_natCast]
 (repeat' first|refine ZG ?_|refine Zg fun _=>?_)
 refine Ask.mk ⟨{ X:=Nat,pre:=fun k=>k≤v.length+1,mod:=fun k _=>[(15,I k),(9,I (bA B9 u v j q k).2)],heap:=fun k _=>[V (bA B9 u v j q k).1],mu:=fun k=>v.length+1-k },rfl,?_⟩
 (repeat' first|refine ZG ?_|fail)
 refine ⟨⟨(0:Nat),Nat.zero_le _,by (repeat' first|exact trivial|rfl|refine And.intro ?_ ?_)⟩,fun (k:Nat) (hk:k≤v.length+1)=>?_⟩
 obtain ⟨m1,m2,m3,_⟩:=gA (B:=B9) (by decide) hu hv (j:=j) hq.1 k (by omega)
 have gv:=get9 hv k
 have gm:=get9 m2 (j+k)
 have hm:0≤q*v.getD k 0∧q*v.getD k 0≤8000000000*999999999:=⟨Int.mul_nonneg hq.1 gv.1,Int.le_trans (Int.mul_le_mul_of_nonneg_right hq.2 gv.1) (Int.mul_le_mul_of_nonneg_left (by omega) (by omega))⟩
 (refine Br.mk (fun _=>?_) (fun _=>?_))
 ·have hlt:k<v.length+1:=by omega
  (repeat'((conv=>whnf);first|refine Zg fun _=>?_|refine Zn ?_|refine Zj ?_|(apply Pin.mk;apply Exists.intro)|apply Pinned.mk rfl rfl|fail))
  (refine Br.mk (fun _=>?_) (fun _=>?_))
  ·rename_i hneg
   have ht:bA B9 u v j q (k+1)=((bA B9 u v j q k).1.set (j+k) ((bA B9 u v j q k).1.getD (j+k) 0-(bA B9 u v j q k).2-q*v.getD k 0+(-((bA B9 u v j q k).1.getD (j+k) 0-(bA B9 u v j q k).2-q*v.getD k 0)+1000000000-1)/1000000000*1000000000),(-((bA B9 u v j q k).1.getD (j+k) 0-(bA B9 u v j q k).2-q*v.getD k 0)+1000000000-1)/1000000000):=by
    simp only[bA]
    rw[if_pos hneg]
    rfl
   (repeat' first|refine ZG ?_|fail)
   refine ⟨(k+1:Nat),by show v.length+1-(k+1)<v.length+1-k;omega,hlt,?_⟩
   (repeat' first|exact trivial|rfl|refine And.intro ?_ ?_)
   all_goals first | exact (congrArg Prod.fst ht).symm | exact (congrArg Prod.snd ht).symm
  ·rename_i hneg
   have ht:bA B9 u v j q (k+1)=((bA B9 u v j q k).1.set (j+k) ((bA B9 u v j q k).1.getD (j+k) 0-(bA B9 u v j q k).2-q*v.getD k 0+0*1000000000),0):=by
    simp only[bA]
    rw[if_neg hneg]
    rfl
   (repeat' first|refine ZG ?_|fail)
   refine ⟨(k+1:Nat),by show v.length+1-(k+1)<v.length+1-k;omega,hlt,?_⟩
   (repeat' first|exact trivial|rfl|refine And.intro ?_ ?_)
   all_goals first | exact (congrArg Prod.fst ht).symm | exact (congrArg Prod.snd ht).symm
 ·have e:k=v.length+1:=by omega
  subst e
  (conv=>whnf)
  (repeat' first|rfl|refine And.intro ?_ ?_)
def c137:Con:=aFs 239 0 true fun args o K=>match args,o with | [.any,.seq (.int .i64) v,.val (.int .i64 j),.val (.int .i64 q)],.vec 1 (.int .i64) u 3=>Need (InB B9 u∧InB B9 v∧0≤j∧(0≤q∧q≤8000000000)∧j+v.length+1≤u.length∧u.length≤300000) (K (.bl (0<(bA B9 u v j.toNat q (v.length+1)).2) inferInstance) (.vec 1 (.int .i64) ((bA B9 u v j.toNat q (v.length+1)).1) 3)) | _,_=>False
theorem k137:aG Tryz.prog c137:=by
 refine aDv (enters_of Tryz.func239 (by kernel_rfl) rfl) ?_
 intro args t xs e K hfl h
 split at h
 ·rename_i v j q zs heq
  cases heq
  first | exact ⟨_,_,h.go,eC (by simp[k132]) Tryz.func239 (by simp[Tryz.ntmps239]) rfl (b137 v j q zs h.ok)⟩ | exact ⟨_,_,h.go,eC (by simp[k132]) Tryz.func239 (by simp[Tryz.ntmps239]) rfl (b137 v j q xs h.ok)⟩
 ·exact h.elim
theorem b138 (v:List Int) (j q:Int) (u:List Int) (h:InB B9 u∧InB B9 v∧0≤j∧(0≤q∧q≤8000000000)∧j+v.length+1≤u.length∧u.length≤300000):aDh Tryz.prog [c132] { asks:=[(0,[])] } Tryz.f240 0 true [.any,Ls v,I j,I q] (.int .i64) u 3 (.ref 0 1) (mulK B9 q v j.toNat u (v.length+1)).1:=by
 obtain ⟨hu,hv,hj,hq,hl,hlu⟩:=h
 obtain ⟨j,rfl⟩:∃k:Nat,j=k:=⟨j.toNat,by omega⟩
 rw[Int.toNat_natCast]
 (repeat' first|refine ZG ?_|refine Zg fun _=>?_)
 refine Ask.mk ⟨{ X:=Nat,pre:=fun k=>k≤v.length+1,mod:=fun k _=>[(15,I k),(9,I (mulK B9 q v j u k).2)],heap:=fun k _=>[V (mulK B9 q v j u k).1,V []],mu:=fun k=>v.length+1-k },rfl,?_⟩
 (repeat' first|refine ZG ?_|fail)
 refine ⟨⟨(0:Nat),Nat.zero_le _,by (repeat' first|exact trivial|rfl|refine And.intro ?_ ?_)⟩,fun (k:Nat) (hk:k≤v.length+1)=>?_⟩
 obtain ⟨m1,m2,m3,_⟩:=sN (B:=B9) (by decide) (x:=q) hq.1 hv (i:=j) hu k (by omega)
 have gv:=get9 hv k
 have gm:=get9 m2 (j+k)
 have hm:0≤q*v.getD k 0∧q*v.getD k 0≤8000000000*999999999:=⟨Int.mul_nonneg hq.1 gv.1,Int.le_trans (Int.mul_le_mul_of_nonneg_right hq.2 gv.1) (Int.mul_le_mul_of_nonneg_left (by omega) (by omega))⟩
 (refine Br.mk (fun _=>?_) (fun _=>?_))
 ·have hlt:k<v.length+1:=by omega
  (repeat'((conv=>whnf);first|refine Zg fun _=>?_|refine Za ?_|refine Zn ?_|refine Zj ?_|(apply Pin.mk;apply Exists.intro)|apply Pinned.mk rfl rfl|fail))
  refine ⟨(k+1:Nat),by show v.length+1-(k+1)<v.length+1-k;omega,hlt,?_⟩
  (repeat' first|exact trivial|rfl|refine And.intro ?_ ?_)
 ·have e:k=v.length+1:=by omega
  subst e
  (conv=>whnf)
  (repeat' first|rfl|refine And.intro ?_ ?_)
def c138:Con:=aFs 240 0 true fun args o K=>match args,o with | [.any,.seq (.int .i64) v,.val (.int .i64 j),.val (.int .i64 q)],.vec 1 (.int .i64) u 3=>Need (InB B9 u∧InB B9 v∧0≤j∧(0≤q∧q≤8000000000)∧j+v.length+1≤u.length∧u.length≤300000) (K (.ref 0 1) (.vec 1 (.int .i64) ((mulK B9 q v j.toNat u (v.length+1)).1) 3)) | _,_=>False
theorem k138:aG Tryz.prog c138:=by
 refine aDv (enters_of Tryz.func240 (by kernel_rfl) rfl) ?_
 intro args t xs e K hfl h
 split at h
 ·rename_i v j q zs heq
  cases heq
  first | exact ⟨_,_,h.go,eC (by simp[k132]) Tryz.func240 (by simp[Tryz.ntmps240]) rfl (b138 v j q zs h.ok)⟩ | exact ⟨_,_,h.go,eC (by simp[k132]) Tryz.func240 (by simp[Tryz.ntmps240]) rfl (b138 v j q xs h.ok)⟩
 ·exact h.elim
abbrev top2 (u v:List Int) (j:Nat):Int:=u.getD (j+v.length) 0*1000000000+u.getD (j+v.length-1) 0
abbrev estL (u v:List Int) (j:Nat):Int:=estF 1000000000 (v.getD (v.length-1) 0) (v.getD (v.length-2) 0) (u.getD (j+v.length-2) 0) 8 (top2 u v j/v.getD (v.length-1) 0) (top2 u v j%v.getD (v.length-1) 0)
def eQ (u v:List Int) (j i:Nat):Int:=top2 u v j/v.getD (v.length-1) 0-i
def eR (u v:List Int) (j i:Nat):Int:=top2 u v j%v.getD (v.length-1) 0+i*v.getD (v.length-1) 0
theorem gX (u v:List Int) (j i:Nat):eR u v j (i+1)=eR u v j i+v.getD (v.length-1) 0:=by
 unfold eR
 have:((i+1:Nat):Int)*v.getD (v.length-1) 0=i*v.getD (v.length-1) 0+v.getD (v.length-1) 0:=by rw[Int.natCast_succ,Int.add_mul,Int.one_mul]
 omega
theorem rD (u v:List Int) (j i:Nat):eQ u v j (i+1)=eQ u v j i-1:=by unfold eQ;omega
theorem b136 (u v:List Int) (j:Int) (h:InB B9 u∧InB B9 v∧0≤j∧2≤v.length∧250000000≤v.getD (v.length-1) 0∧j+v.length+1≤u.length∧u.length≤300000):body Tryz.prog [] { asks:=[(0,[])] } true Tryz.f238 [Ls u,Ls v,I j] (I (estL u v j.toNat)):=by
 obtain ⟨hu,hv,hj,hn,hv1,hl,hlu⟩:=h
 obtain ⟨j,rfl⟩:∃k:Nat,j=k:=⟨j.toNat,by omega⟩
 rw[Int.toNat_natCast]
 have g0:=get9 hu (j+v.length)
 have g1:=get9 hu (j+v.length-1)
 have g2:=get9 hu (j+v.length-2)
 have w1:=get9 hv (v.length-1)
 have w2:=get9 hv (v.length-2)
 (repeat'((conv=>whnf);first|refine Zg fun _=>?_|refine Zn ?_|refine Zj ?_|(apply Pin.mk;apply Exists.intro)|apply Pinned.mk rfl rfl|fail))
 refine cF (j+v.length-1) (by omega) ?_
 (repeat'((conv=>whnf);first|refine Zg fun _=>?_|refine Zn ?_|(apply Pin.mk;apply Exists.intro)|apply Pinned.mk rfl rfl|fail))
 refine cF (v.length-1) (by omega) ?_
 (repeat'((conv=>whnf);first|refine Zg fun _=>?_|refine Za ?_|refine Zn ?_|(apply Pin.mk;apply Exists.intro)|apply Pinned.mk rfl rfl|fail))
 refine cF (v.length-1) (by omega) ?_
 (repeat'((conv=>whnf);first|refine Zg fun _=>?_|refine Za ?_|(apply Pin.mk;apply Exists.intro)|apply Pinned.mk rfl rfl|fail))
 have hT:0≤top2 u v j∧top2 u v j<1000000000000000000:=by unfold top2;omega
 have hr:0≤top2 u v j%v.getD (v.length-1) 0∧top2 u v j%v.getD (v.length-1) 0<v.getD (v.length-1) 0:=⟨Int.emod_nonneg _ (by omega),Int.emod_lt_of_pos _ (by omega)⟩
 have hq:0≤top2 u v j/v.getD (v.length-1) 0∧top2 u v j/v.getD (v.length-1) 0≤4000000000:=by
  refine ⟨Int.ediv_nonneg hT.1 (by omega),?_⟩
  refine Int.le_trans (Int.ediv_le_ediv (by omega) (show top2 u v j≤4000000000*v.getD (v.length-1) 0 by omega)) ?_
  rw[Int.mul_ediv_cancel _ (by omega)]
  exact Int.le_refl _
 refine Ask.mk ⟨{ X:=Nat,pre:=fun i=>eR u v j i<1000000000∧estL u v j=estF 1000000000 (v.getD (v.length-1) 0) (v.getD (v.length-2) 0) (u.getD (j+v.length-2) 0) (8-i) (eQ u v j i) (eR u v j i),mod:=fun i _=>[(9,I (eQ u v j i)),(10,I (eR u v j i))],heap:=fun _ _=>[],mu:=fun i=>8-i },rfl,?_⟩
 (repeat' first|refine ZG ?_|fail)
 refine ⟨⟨(0:Nat),⟨by unfold eR;omega,by simp only[estL,eQ,eR];congr 1<;>omega⟩,?_⟩,fun (i:Nat) hi=>?_⟩
 ·(repeat' first|exact trivial|rfl|refine And.intro ?_ ?_)
  ·show top2 u v j/ _= _
   unfold eQ;omega
  ·show top2 u v j% _= _
   unfold eR;omega
 obtain ⟨hi1,hi2⟩:=hi
 have hi4:(i:Int)*250000000≤i*v.getD (v.length-1) 0:=Int.mul_le_mul_of_nonneg_left hv1 (by omega)
 have hi3:i≤3:=by unfold eR at hi1;omega
 have hR:0≤eR u v j i:=by unfold eR;omega
 have hQ: -3≤eQ u v j i∧eQ u v j i≤4000000000:=by unfold eQ;omega
 have hQv: -3*999999999≤eQ u v j i*v.getD (v.length-2) 0∧eQ u v j i*v.getD (v.length-2) 0≤4000000000*999999999:=by
  refine ⟨Int.le_trans (Int.mul_le_mul_of_nonpos_left (by omega) (show v.getD (v.length-2) 0≤999999999 by omega)) (Int.mul_le_mul_of_nonneg_right hQ.1 w2.1),Int.le_trans (Int.mul_le_mul_of_nonneg_right hQ.2 w2.1) (Int.mul_le_mul_of_nonneg_left (by omega) (by omega))⟩
 obtain ⟨f,hf⟩:∃f,8-i=f+1:=⟨7-i,by omega⟩
 have hf1:8-(i+1)=f:=by omega
 rw[hf,estF,← gX,← rD] at hi2
 (repeat'((conv=>whnf);first|(apply Pin.mk;apply Exists.intro)|apply Pinned.mk rfl rfl|fail))
 (refine Br.mk (fun _=>?_) (fun _=>?_))
 ·rename_i hq1
  rw[if_pos (.inl hq1)] at hi2
  (repeat'((conv=>whnf);first|refine Zn ?_|(apply Pin.mk;apply Exists.intro)|apply Pinned.mk rfl rfl|fail))
  refine cF (v.length-1) (by omega) ?_
  (repeat'((conv=>whnf);first|refine Zg fun _=>?_|refine Zn ?_|(apply Pin.mk;apply Exists.intro)|apply Pinned.mk rfl rfl|fail))
  (refine Br.mk (fun _=>?_) (fun _=>?_))
  ·rename_i hb
   rw[gX,if_pos hb,rD] at hi2
   (conv=>whnf)
   (repeat' first|rfl|refine And.intro ?_ ?_)
   exact hi2.symm
  ·rename_i hb
   rw[if_neg (by rw[gX];exact hb)] at hi2
   refine ⟨(i+1:Nat),by show 8-(i+1)<8-i;omega,⟨by rw[gX];omega,by rw[hi2,hf1]⟩,?_⟩
   (repeat' first|exact trivial|rfl|refine And.intro ?_ ?_)
   ·exact (rD u v j i).symm
   ·exact (gX u v j i).symm
 ·rename_i hq1
  (repeat'((conv=>whnf);first|(apply Pin.mk;apply Exists.intro)|apply Pinned.mk rfl rfl|fail))
  (refine Br.mk (fun _=>?_) (fun _=>?_))
  ·rename_i hr1
   (repeat'((conv=>whnf);first|refine Zn ?_|(apply Pin.mk;apply Exists.intro)|apply Pinned.mk rfl rfl|fail))
   refine cF (v.length-2) (by omega) ?_
   (repeat'((conv=>whnf);first|refine Zg fun _=>?_|refine Zn ?_|(apply Pin.mk;apply Exists.intro)|apply Pinned.mk rfl rfl|fail))
   refine cF (j+v.length-2) (by omega) ?_
   (repeat'((conv=>whnf);first|refine Zg fun _=>?_|refine Zn ?_|(apply Pin.mk;apply Exists.intro)|apply Pinned.mk rfl rfl|fail))
   (refine Br.mk (fun _=>?_) (fun _=>?_))
   ·rename_i hgt
    rw[if_pos (.inr ⟨hr1,hgt⟩)] at hi2
    (repeat'((conv=>whnf);first|refine Zn ?_|(apply Pin.mk;apply Exists.intro)|apply Pinned.mk rfl rfl|fail))
    refine cF (v.length-1) (by omega) ?_
    (repeat'((conv=>whnf);first|refine Zg fun _=>?_|refine Zn ?_|(apply Pin.mk;apply Exists.intro)|apply Pinned.mk rfl rfl|fail))
    (refine Br.mk (fun _=>?_) (fun _=>?_))
    ·rename_i hb
     rw[gX,if_pos hb,rD] at hi2
     (conv=>whnf)
     (repeat' first|rfl|refine And.intro ?_ ?_)
     exact hi2.symm
    ·rename_i hb
     rw[if_neg (by rw[gX];exact hb)] at hi2
     refine ⟨(i+1:Nat),by show 8-(i+1)<8-i;omega,⟨by rw[gX];omega,by rw[hi2,hf1]⟩,?_⟩
     (repeat' first|exact trivial|rfl|refine And.intro ?_ ?_)
     ·exact (rD u v j i).symm
     ·exact (gX u v j i).symm
   ·rename_i hgt
    rw[if_neg (by omega)] at hi2
    (conv=>whnf)
    (repeat' first|rfl|refine And.intro ?_ ?_)
    exact hi2.symm
  ·omega
def c136:Con:=aI 238 true fun args K=>match args with | [.seq (.int .i64) u,.seq (.int .i64) v,.val (.int .i64 j)]=>Need (InB B9 u∧InB B9 v∧0≤j∧2≤v.length∧250000000≤v.getD (v.length-1) 0∧j+v.length+1≤u.length∧u.length≤300000) (K (I (estL u v j.toNat))) | _=>False
theorem k136:aG Tryz.prog c136:=by
 refine aB rfl (enters_of Tryz.func238 (by kernel_rfl) rfl) ?_
 intro args K h
 simp only[c136] at h
 split at h
 ·rename_i u v j;exact ⟨_,h.go,aA (by simp) Tryz.func238 (by simp[Tryz.ntmps238]) rfl (b136 u v j h.ok)⟩
 ·exact h.elim
end RB
end
section
set_option maxRecDepth 100000
namespace Go.Proofs
open Go.Shelf
def RL.lI_ren:Go.Shelf.Ren:=⟨fun | 171=>188 | 243=>231 | 246=>281 | 283=>316 | 284=>317 | 285=>318 | 286=>319 | 129=>111 | 317=>332 | 318=>333 | 319=>334 | 320=>335 | 337=>343 | 338=>344 | n=>n,fun | 3=>3 | 9=>9 | 2=>2 | 4=>4 | 171=>316 | 0=>0 | 53=>142 | 37=>284 | 5=>5 | 173=>318 | 212=>334 | 51=>140 | 20=>20 | 213=>335 | 46=>108 | 232=>349 | 233=>350 | n=>n,fun | 17=>3 | 18=>6 | 19=>7 | n=>n⟩
theorem RL.lI:Go.Proofs.LaysM.n171 Tryz.prog RL.lI_ren where
 mixed:=by kernel_rfl
 f129:=Tryz.func111.trans (congrArg some (by kernel_rfl))
 f171:=Tryz.func188.trans (congrArg some (by kernel_rfl))
 f243:=Tryz.func231.trans (congrArg some (by kernel_rfl))
 f246:=Tryz.func281.trans (congrArg some (by kernel_rfl))
 f283:=Tryz.func316.trans (congrArg some (by kernel_rfl))
 f284:=Tryz.func317.trans (congrArg some (by kernel_rfl))
 f285:=Tryz.func318.trans (congrArg some (by kernel_rfl))
 f286:=Tryz.func319.trans (congrArg some (by kernel_rfl))
 f317:=Tryz.func332.trans (congrArg some (by kernel_rfl))
 f318:=Tryz.func333.trans (congrArg some (by kernel_rfl))
 f319:=Tryz.func334.trans (congrArg some (by kernel_rfl))
 f320:=Tryz.func335.trans (congrArg some (by kernel_rfl))
 f337:=Tryz.func343.trans (congrArg some (by kernel_rfl))
 f338:=Tryz.func344.trans (congrArg some (by kernel_rfl))
 t0:=Tryz.underlying0
 a0:=Tryz.isAgg0
 z0:=Tryz.sizeOf0
 v0:=Tryz.zeroValue0
 t2:=Tryz.underlying2
 a2:=Tryz.isAgg2
 z2:=Tryz.sizeOf2
 v2:=Tryz.zeroValue2
 t3:=Tryz.underlying3
 a3:=Tryz.isAgg3
 z3:=Tryz.sizeOf3
 v3:=Tryz.zeroValue3
 t4:=Tryz.underlying4
 a4:=Tryz.isAgg4
 z4:=Tryz.sizeOf4
 v4:=Tryz.zeroValue4
 t5:=Tryz.underlying5
 a5:=Tryz.isAgg5
 z5:=Tryz.sizeOf5
 v5:=Tryz.zeroValue5
 t9:=Tryz.underlying9
 a9:=Tryz.isAgg9
 z9:=Tryz.sizeOf9
 v9:=Tryz.zeroValue9
 t20:=Tryz.underlying20
 a20:=Tryz.isAgg20
 z20:=Tryz.sizeOf20
 v20:=Tryz.zeroValue20
 t37:=Tryz.underlying284
 a37:=Tryz.isAgg284
 z37:=Tryz.sizeOf284
 v37:=Tryz.zeroValue284
 t46:=Tryz.underlying108
 a46:=Tryz.isAgg108
 z46:=Tryz.sizeOf108
 v46:=Tryz.zeroValue108
 t51:=Tryz.underlying140
 a51:=Tryz.isAgg140
 z51:=Tryz.sizeOf140
 v51:=Tryz.zeroValue140
 t53:=Tryz.underlying142
 a53:=Tryz.isAgg142
 z53:=Tryz.sizeOf142
 v53:=Tryz.zeroValue142
 t171:=Tryz.underlying316
 a171:=Tryz.isAgg316
 z171:=Tryz.sizeOf316
 v171:=Tryz.zeroValue316
 t173:=Tryz.underlying318
 a173:=Tryz.isAgg318
 z173:=Tryz.sizeOf318
 v173:=Tryz.zeroValue318
 t212:=Tryz.underlying334
 a212:=Tryz.isAgg334
 z212:=Tryz.sizeOf334
 v212:=Tryz.zeroValue334
 t213:=Tryz.underlying335
 a213:=Tryz.isAgg335
 z213:=Tryz.sizeOf335
 t232:=Tryz.underlying349
 a232:=Tryz.isAgg349
 z232:=Tryz.sizeOf349
 v232:=Tryz.zeroValue349
 t233:=Tryz.underlying350
 a233:=Tryz.isAgg350
 z233:=Tryz.sizeOf350
 v233:=Tryz.zeroValue350
 g17:=by kernel_rfl
 g18:=by kernel_rfl
 g19:=by kernel_rfl
 i0:=by kernel_rfl
 i2:=by kernel_rfl
 i3:=by kernel_rfl
 i4:=by kernel_rfl
 i5:=by kernel_rfl
 i9:=by kernel_rfl
 i20:=by kernel_rfl
 i37:=by kernel_rfl
 i46:=by kernel_rfl
 i51:=by kernel_rfl
 i53:=by kernel_rfl
 i171:=by kernel_rfl
 i173:=by kernel_rfl
 i212:=by kernel_rfl
 i232:=by kernel_rfl
 i233:=by kernel_rfl
 m17:=by kernel_rfl
 m18:=by kernel_rfl
 m19:=by kernel_rfl
def RL.lA_ren:Go.Shelf.Ren:=⟨fun | 172=>230 | 244=>279 | 245=>280 | 247=>311 | 279=>312 | 280=>313 | 281=>314 | 282=>315 | 287=>329 | 316=>330 | 171=>188 | 205=>331 | 321=>341 | 322=>342 | 243=>231 | 246=>281 | 283=>316 | 284=>317 | 285=>318 | 286=>319 | 129=>111 | 317=>332 | 318=>333 | 319=>334 | 320=>335 | 337=>343 | 338=>344 | n=>n,fun | 9=>9 | 3=>3 | 75=>263 | 76=>264 | 4=>4 | 5=>5 | 167=>310 | 37=>284 | 0=>0 | 85=>311 | 2=>2 | 168=>313 | 53=>142 | 175=>328 | 46=>108 | 210=>331 | 127=>322 | 145=>342 | 143=>340 | 21=>21 | 171=>316 | 173=>318 | 212=>334 | 51=>140 | 20=>20 | 213=>335 | 232=>349 | 233=>350 | 80=>295 | n=>n,fun | 15=>1 | 16=>2 | 17=>3 | 18=>6 | 19=>7 | n=>n⟩
theorem RL.lA:Go.Proofs.LaysC.n172 Tryz.prog RL.lA_ren where
 mixed:=by kernel_rfl
 f129:=Tryz.func111.trans (congrArg some (by kernel_rfl))
 f171:=Tryz.func188.trans (congrArg some (by kernel_rfl))
 f172:=Tryz.func230.trans (congrArg some (by kernel_rfl))
 f205:=Tryz.func331.trans (congrArg some (by kernel_rfl))
 f243:=Tryz.func231.trans (congrArg some (by kernel_rfl))
 f244:=Tryz.func279.trans (congrArg some (by kernel_rfl))
 f245:=Tryz.func280.trans (congrArg some (by kernel_rfl))
 f246:=Tryz.func281.trans (congrArg some (by kernel_rfl))
 f247:=Tryz.func311.trans (congrArg some (by kernel_rfl))
 f279:=Tryz.func312.trans (congrArg some (by kernel_rfl))
 f280:=Tryz.func313.trans (congrArg some (by kernel_rfl))
 f281:=Tryz.func314.trans (congrArg some (by kernel_rfl))
 f282:=Tryz.func315.trans (congrArg some (by kernel_rfl))
 f283:=Tryz.func316.trans (congrArg some (by kernel_rfl))
 f284:=Tryz.func317.trans (congrArg some (by kernel_rfl))
 f285:=Tryz.func318.trans (congrArg some (by kernel_rfl))
 f286:=Tryz.func319.trans (congrArg some (by kernel_rfl))
 f287:=Tryz.func329.trans (congrArg some (by kernel_rfl))
 f316:=Tryz.func330.trans (congrArg some (by kernel_rfl))
 f317:=Tryz.func332.trans (congrArg some (by kernel_rfl))
 f318:=Tryz.func333.trans (congrArg some (by kernel_rfl))
 f319:=Tryz.func334.trans (congrArg some (by kernel_rfl))
 f320:=Tryz.func335.trans (congrArg some (by kernel_rfl))
 f321:=Tryz.func341.trans (congrArg some (by kernel_rfl))
 f322:=Tryz.func342.trans (congrArg some (by kernel_rfl))
 f337:=Tryz.func343.trans (congrArg some (by kernel_rfl))
 f338:=Tryz.func344.trans (congrArg some (by kernel_rfl))
 t0:=Tryz.underlying0
 a0:=Tryz.isAgg0
 z0:=Tryz.sizeOf0
 v0:=Tryz.zeroValue0
 t2:=Tryz.underlying2
 a2:=Tryz.isAgg2
 z2:=Tryz.sizeOf2
 v2:=Tryz.zeroValue2
 t3:=Tryz.underlying3
 a3:=Tryz.isAgg3
 z3:=Tryz.sizeOf3
 v3:=Tryz.zeroValue3
 t4:=Tryz.underlying4
 a4:=Tryz.isAgg4
 z4:=Tryz.sizeOf4
 v4:=Tryz.zeroValue4
 t5:=Tryz.underlying5
 a5:=Tryz.isAgg5
 z5:=Tryz.sizeOf5
 v5:=Tryz.zeroValue5
 t9:=Tryz.underlying9
 a9:=Tryz.isAgg9
 z9:=Tryz.sizeOf9
 v9:=Tryz.zeroValue9
 t20:=Tryz.underlying20
 a20:=Tryz.isAgg20
 z20:=Tryz.sizeOf20
 v20:=Tryz.zeroValue20
 t21:=Tryz.underlying21
 a21:=Tryz.isAgg21
 z21:=Tryz.sizeOf21
 v21:=Tryz.zeroValue21
 t37:=Tryz.underlying284
 a37:=Tryz.isAgg284
 z37:=Tryz.sizeOf284
 v37:=Tryz.zeroValue284
 t46:=Tryz.underlying108
 a46:=Tryz.isAgg108
 z46:=Tryz.sizeOf108
 v46:=Tryz.zeroValue108
 t51:=Tryz.underlying140
 a51:=Tryz.isAgg140
 z51:=Tryz.sizeOf140
 v51:=Tryz.zeroValue140
 t53:=Tryz.underlying142
 a53:=Tryz.isAgg142
 z53:=Tryz.sizeOf142
 v53:=Tryz.zeroValue142
 t75:=Tryz.underlying263
 a75:=Tryz.isAgg263
 z75:=Tryz.sizeOf263
 v75:=Tryz.zeroValue263
 t76:=Tryz.underlying264
 a76:=Tryz.isAgg264
 z76:=Tryz.sizeOf264
 v76:=Tryz.zeroValue264
 t85:=Tryz.underlying311
 a85:=Tryz.isAgg311
 z85:=Tryz.sizeOf311
 v85:=Tryz.zeroValue311
 t127:=Tryz.underlying322
 a127:=Tryz.isAgg322
 z127:=Tryz.sizeOf322
 v127:=Tryz.zeroValue322
 t143:=Tryz.underlying340
 a143:=Tryz.isAgg340
 z143:=Tryz.sizeOf340
 v143:=Tryz.zeroValue340
 t145:=Tryz.underlying342
 a145:=Tryz.isAgg342
 z145:=Tryz.sizeOf342
 v145:=Tryz.zeroValue342
 t167:=Tryz.underlying310
 a167:=Tryz.isAgg310
 z167:=Tryz.sizeOf310
 v167:=Tryz.zeroValue310
 t168:=Tryz.underlying313
 a168:=Tryz.isAgg313
 z168:=Tryz.sizeOf313
 v168:=Tryz.zeroValue313
 t171:=Tryz.underlying316
 a171:=Tryz.isAgg316
 z171:=Tryz.sizeOf316
 v171:=Tryz.zeroValue316
 t173:=Tryz.underlying318
 a173:=Tryz.isAgg318
 z173:=Tryz.sizeOf318
 v173:=Tryz.zeroValue318
 t175:=Tryz.underlying328
 a175:=Tryz.isAgg328
 z175:=Tryz.sizeOf328
 v175:=Tryz.zeroValue328
 t210:=Tryz.underlying331
 a210:=Tryz.isAgg331
 z210:=Tryz.sizeOf331
 v210:=Tryz.zeroValue331
 t212:=Tryz.underlying334
 a212:=Tryz.isAgg334
 z212:=Tryz.sizeOf334
 v212:=Tryz.zeroValue334
 t213:=Tryz.underlying335
 a213:=Tryz.isAgg335
 z213:=Tryz.sizeOf335
 t232:=Tryz.underlying349
 a232:=Tryz.isAgg349
 z232:=Tryz.sizeOf349
 v232:=Tryz.zeroValue349
 t233:=Tryz.underlying350
 a233:=Tryz.isAgg350
 z233:=Tryz.sizeOf350
 v233:=Tryz.zeroValue350
 g15:=by kernel_rfl
 g16:=by kernel_rfl
 g17:=by kernel_rfl
 g18:=by kernel_rfl
 g19:=by kernel_rfl
 t80:=Tryz.underlying295
 a80:=Tryz.isAgg295
 z80:=Tryz.sizeOf295
 v80:=Tryz.zeroValue295
 i0:=by kernel_rfl
 i2:=by kernel_rfl
 i3:=by kernel_rfl
 i4:=by kernel_rfl
 i5:=by kernel_rfl
 i9:=by kernel_rfl
 i20:=by kernel_rfl
 i21:=by kernel_rfl
 i37:=by kernel_rfl
 i46:=by kernel_rfl
 i51:=by kernel_rfl
 i53:=by kernel_rfl
 i75:=by kernel_rfl
 i76:=by kernel_rfl
 i80:=by kernel_rfl
 i85:=by kernel_rfl
 i127:=by kernel_rfl
 i143:=by kernel_rfl
 i145:=by kernel_rfl
 i167:=by kernel_rfl
 i168:=by kernel_rfl
 i171:=by kernel_rfl
 i173:=by kernel_rfl
 i175:=by kernel_rfl
 i210:=by kernel_rfl
 i212:=by kernel_rfl
 i232:=by kernel_rfl
 i233:=by kernel_rfl
 m15:=by kernel_rfl
 m16:=by kernel_rfl
 m17:=by kernel_rfl
 m18:=by kernel_rfl
 m19:=by kernel_rfl
 c0:=by kernel_rfl
 c2:=by kernel_rfl
 c3:=by kernel_rfl
 c4:=by kernel_rfl
 c5:=by kernel_rfl
 c9:=by kernel_rfl
 c20:=by kernel_rfl
 c21:=by kernel_rfl
 c37:=by kernel_rfl
 c46:=by kernel_rfl
 c51:=by kernel_rfl
 c53:=by kernel_rfl
 c75:=by kernel_rfl
 c76:=by kernel_rfl
 c80:=by kernel_rfl
 c85:=by kernel_rfl
 c127:=by kernel_rfl
 c143:=by kernel_rfl
 c145:=by kernel_rfl
 c167:=by kernel_rfl
 c168:=by kernel_rfl
 c171:=by kernel_rfl
 c173:=by kernel_rfl
 c175:=by kernel_rfl
 c210:=by kernel_rfl
 c212:=by kernel_rfl
 c213:=by kernel_rfl
 c232:=by kernel_rfl
 c233:=by kernel_rfl
def RL.lR_ren:Go.Shelf.Ren:=⟨fun | 105=>287 | 212=>136 | 99=>249 | 165=>321 | 166=>286 | 170=>322 | 169=>288 | 263=>178 | 264=>179 | 206=>145 | 240=>320 | 241=>337 | 276=>336 | 277=>345 | n=>n,fun | 9=>9 | 3=>3 | 4=>4 | 20=>20 | 0=>0 | 46=>108 | 109=>169 | 5=>5 | 72=>292 | 76=>264 | 51=>140 | 146=>216 | 53=>142 | 148=>218 | 70=>290 | 37=>284 | 75=>263 | 127=>322 | 164=>336 | 80=>295 | n=>n,fun | n=>n⟩
theorem RL.lR:Go.Proofs.Lays.n105 Tryz.prog RL.lR_ren where
 mixed:=by kernel_rfl
 f99:=Tryz.func249.trans (congrArg some (by kernel_rfl))
 f105:=Tryz.func287.trans (congrArg some (by kernel_rfl))
 f165:=Tryz.func321.trans (congrArg some (by kernel_rfl))
 f166:=Tryz.func286.trans (congrArg some (by kernel_rfl))
 f169:=Tryz.func288.trans (congrArg some (by kernel_rfl))
 f170:=Tryz.func322.trans (congrArg some (by kernel_rfl))
 f206:=Tryz.func145.trans (congrArg some (by kernel_rfl))
 f212:=Tryz.func136.trans (congrArg some (by kernel_rfl))
 f240:=Tryz.func320.trans (congrArg some (by kernel_rfl))
 f241:=Tryz.func337.trans (congrArg some (by kernel_rfl))
 f263:=Tryz.func178.trans (congrArg some (by kernel_rfl))
 f264:=Tryz.func179.trans (congrArg some (by kernel_rfl))
 f276:=Tryz.func336.trans (congrArg some (by kernel_rfl))
 f277:=Tryz.func345.trans (congrArg some (by kernel_rfl))
 t0:=Tryz.underlying0
 a0:=Tryz.isAgg0
 z0:=Tryz.sizeOf0
 v0:=Tryz.zeroValue0
 t3:=Tryz.underlying3
 a3:=Tryz.isAgg3
 z3:=Tryz.sizeOf3
 v3:=Tryz.zeroValue3
 t4:=Tryz.underlying4
 a4:=Tryz.isAgg4
 z4:=Tryz.sizeOf4
 v4:=Tryz.zeroValue4
 t5:=Tryz.underlying5
 a5:=Tryz.isAgg5
 z5:=Tryz.sizeOf5
 v5:=Tryz.zeroValue5
 t9:=Tryz.underlying9
 a9:=Tryz.isAgg9
 z9:=Tryz.sizeOf9
 v9:=Tryz.zeroValue9
 t20:=Tryz.underlying20
 a20:=Tryz.isAgg20
 z20:=Tryz.sizeOf20
 v20:=Tryz.zeroValue20
 t37:=Tryz.underlying284
 a37:=Tryz.isAgg284
 z37:=Tryz.sizeOf284
 v37:=Tryz.zeroValue284
 t46:=Tryz.underlying108
 a46:=Tryz.isAgg108
 z46:=Tryz.sizeOf108
 v46:=Tryz.zeroValue108
 t51:=Tryz.underlying140
 a51:=Tryz.isAgg140
 z51:=Tryz.sizeOf140
 v51:=Tryz.zeroValue140
 t53:=Tryz.underlying142
 a53:=Tryz.isAgg142
 z53:=Tryz.sizeOf142
 v53:=Tryz.zeroValue142
 t70:=Tryz.underlying290
 a70:=Tryz.isAgg290
 z70:=Tryz.sizeOf290
 v70:=Tryz.zeroValue290
 t72:=Tryz.underlying292
 a72:=Tryz.isAgg292
 z72:=Tryz.sizeOf292
 v72:=Tryz.zeroValue292
 t75:=Tryz.underlying263
 a75:=Tryz.isAgg263
 z75:=Tryz.sizeOf263
 v75:=Tryz.zeroValue263
 t76:=Tryz.underlying264
 a76:=Tryz.isAgg264
 z76:=Tryz.sizeOf264
 v76:=Tryz.zeroValue264
 t109:=Tryz.underlying169
 a109:=Tryz.isAgg169
 z109:=Tryz.sizeOf169
 v109:=Tryz.zeroValue169
 t127:=Tryz.underlying322
 a127:=Tryz.isAgg322
 z127:=Tryz.sizeOf322
 v127:=Tryz.zeroValue322
 t146:=Tryz.underlying216
 a146:=Tryz.isAgg216
 z146:=Tryz.sizeOf216
 v146:=Tryz.zeroValue216
 t148:=Tryz.underlying218
 a148:=Tryz.isAgg218
 z148:=Tryz.sizeOf218
 v148:=Tryz.zeroValue218
 t164:=Tryz.underlying336
 a164:=Tryz.isAgg336
 z164:=Tryz.sizeOf336
 v164:=Tryz.zeroValue336
def RL.lT_ren:Go.Shelf.Ren:=⟨fun | 160=>278 | 232=>305 | 231=>304 | 227=>306 | 234=>308 | 233=>307 | 236=>310 | 235=>309 | 228=>325 | 271=>328 | 151=>327 | 197=>326 | 120=>340 | 152=>339 | 260=>338 | 137=>346 | 119=>347 | 224=>302 | 225=>301 | 217=>300 | 266=>323 | n=>n,fun | 9=>9 | 4=>4 | 3=>3 | 5=>5 | 117=>306 | 116=>305 | 0=>0 | 124=>309 | 21=>21 | 105=>325 | 46=>108 | 119=>344 | 139=>347 | 138=>346 | n=>n,fun | 3=>4 | 4=>5 | n=>n⟩
theorem RL.lT:Go.Proofs.Lays.n160 Tryz.prog RL.lT_ren where
 mixed:=by kernel_rfl
 f119:=Tryz.func347.trans (congrArg some (by kernel_rfl))
 f120:=Tryz.func340.trans (congrArg some (by kernel_rfl))
 f137:=Tryz.func346.trans (congrArg some (by kernel_rfl))
 f151:=Tryz.func327.trans (congrArg some (by kernel_rfl))
 f152:=Tryz.func339.trans (congrArg some (by kernel_rfl))
 f160:=Tryz.func278.trans (congrArg some (by kernel_rfl))
 f197:=Tryz.func326.trans (congrArg some (by kernel_rfl))
 f217:=Tryz.func300.trans (congrArg some (by kernel_rfl))
 f224:=Tryz.func302.trans (congrArg some (by kernel_rfl))
 f225:=Tryz.func301.trans (congrArg some (by kernel_rfl))
 f227:=Tryz.func306.trans (congrArg some (by kernel_rfl))
 f228:=Tryz.func325.trans (congrArg some (by kernel_rfl))
 f231:=Tryz.func304.trans (congrArg some (by kernel_rfl))
 f232:=Tryz.func305.trans (congrArg some (by kernel_rfl))
 f233:=Tryz.func307.trans (congrArg some (by kernel_rfl))
 f234:=Tryz.func308.trans (congrArg some (by kernel_rfl))
 f235:=Tryz.func309.trans (congrArg some (by kernel_rfl))
 f236:=Tryz.func310.trans (congrArg some (by kernel_rfl))
 f260:=Tryz.func338.trans (congrArg some (by kernel_rfl))
 f266:=Tryz.func323.trans (congrArg some (by kernel_rfl))
 f271:=Tryz.func328.trans (congrArg some (by kernel_rfl))
 t0:=Tryz.underlying0
 a0:=Tryz.isAgg0
 z0:=Tryz.sizeOf0
 v0:=Tryz.zeroValue0
 t3:=Tryz.underlying3
 a3:=Tryz.isAgg3
 z3:=Tryz.sizeOf3
 v3:=Tryz.zeroValue3
 t4:=Tryz.underlying4
 a4:=Tryz.isAgg4
 z4:=Tryz.sizeOf4
 v4:=Tryz.zeroValue4
 t5:=Tryz.underlying5
 a5:=Tryz.isAgg5
 z5:=Tryz.sizeOf5
 v5:=Tryz.zeroValue5
 t9:=Tryz.underlying9
 a9:=Tryz.isAgg9
 z9:=Tryz.sizeOf9
 v9:=Tryz.zeroValue9
 t21:=Tryz.underlying21
 a21:=Tryz.isAgg21
 z21:=Tryz.sizeOf21
 v21:=Tryz.zeroValue21
 t46:=Tryz.underlying108
 a46:=Tryz.isAgg108
 z46:=Tryz.sizeOf108
 v46:=Tryz.zeroValue108
 t105:=Tryz.underlying325
 a105:=Tryz.isAgg325
 z105:=Tryz.sizeOf325
 v105:=Tryz.zeroValue325
 t116:=Tryz.underlying305
 a116:=Tryz.isAgg305
 z116:=Tryz.sizeOf305
 t117:=Tryz.underlying306
 a117:=Tryz.isAgg306
 z117:=Tryz.sizeOf306
 v117:=Tryz.zeroValue306
 t119:=Tryz.underlying344
 a119:=Tryz.isAgg344
 z119:=Tryz.sizeOf344
 t124:=Tryz.underlying309
 a124:=Tryz.isAgg309
 z124:=Tryz.sizeOf309
 v124:=Tryz.zeroValue309
 t138:=Tryz.underlying346
 a138:=Tryz.isAgg346
 z138:=Tryz.sizeOf346
 v138:=Tryz.zeroValue346
 t139:=Tryz.underlying347
 a139:=Tryz.isAgg347
 z139:=Tryz.sizeOf347
 v139:=Tryz.zeroValue347
 g3:=by kernel_rfl
 g4:=by kernel_rfl
def RL.lX_ren:Go.Shelf.Ren:=⟨fun | 219=>277 | 217=>300 | 225=>301 | 224=>302 | 267=>303 | 266=>323 | 314=>324 | n=>n,fun | 9=>9 | 3=>3 | 4=>4 | 5=>5 | 46=>108 | 146=>216 | 51=>140 | n=>n,fun | 1=>0 | n=>n⟩
theorem RL.lX:Go.Proofs.Lays.n219 Tryz.prog RL.lX_ren where
 mixed:=by kernel_rfl
 f217:=Tryz.func300.trans (congrArg some (by kernel_rfl))
 f219:=Tryz.func277.trans (congrArg some (by kernel_rfl))
 f224:=Tryz.func302.trans (congrArg some (by kernel_rfl))
 f225:=Tryz.func301.trans (congrArg some (by kernel_rfl))
 f266:=Tryz.func323.trans (congrArg some (by kernel_rfl))
 f267:=Tryz.func303.trans (congrArg some (by kernel_rfl))
 f314:=Tryz.func324.trans (congrArg some (by kernel_rfl))
 t3:=Tryz.underlying3
 a3:=Tryz.isAgg3
 z3:=Tryz.sizeOf3
 v3:=Tryz.zeroValue3
 t4:=Tryz.underlying4
 a4:=Tryz.isAgg4
 z4:=Tryz.sizeOf4
 v4:=Tryz.zeroValue4
 t5:=Tryz.underlying5
 a5:=Tryz.isAgg5
 z5:=Tryz.sizeOf5
 v5:=Tryz.zeroValue5
 t9:=Tryz.underlying9
 a9:=Tryz.isAgg9
 z9:=Tryz.sizeOf9
 v9:=Tryz.zeroValue9
 t46:=Tryz.underlying108
 a46:=Tryz.isAgg108
 z46:=Tryz.sizeOf108
 v46:=Tryz.zeroValue108
 t51:=Tryz.underlying140
 a51:=Tryz.isAgg140
 z51:=Tryz.sizeOf140
 v51:=Tryz.zeroValue140
 t146:=Tryz.underlying216
 a146:=Tryz.isAgg216
 z146:=Tryz.sizeOf216
 v146:=Tryz.zeroValue216
 g1:=by kernel_rfl
def RL.lC_ren:Go.Shelf.Ren:=⟨fun | 240=>320 | 276=>336 | n=>n,fun | 70=>290 | 0=>0 | 72=>292 | 4=>4 | 164=>336 | 37=>284 | 5=>5 | n=>n,fun | n=>n⟩
theorem RL.lC:Go.Proofs.Lays.n240 Tryz.prog RL.lC_ren where
 mixed:=by kernel_rfl
 f240:=Tryz.func320.trans (congrArg some (by kernel_rfl))
 f276:=Tryz.func336.trans (congrArg some (by kernel_rfl))
 t0:=Tryz.underlying0
 a0:=Tryz.isAgg0
 z0:=Tryz.sizeOf0
 v0:=Tryz.zeroValue0
 t4:=Tryz.underlying4
 a4:=Tryz.isAgg4
 z4:=Tryz.sizeOf4
 v4:=Tryz.zeroValue4
 t9:=Tryz.underlying9
 a9:=Tryz.isAgg9
 z9:=Tryz.sizeOf9
 v9:=Tryz.zeroValue9
 t20:=Tryz.underlying20
 a20:=Tryz.isAgg20
 z20:=Tryz.sizeOf20
 v20:=Tryz.zeroValue20
 t70:=Tryz.underlying290
 a70:=Tryz.isAgg290
 z70:=Tryz.sizeOf290
 v70:=Tryz.zeroValue290
 t72:=Tryz.underlying292
 a72:=Tryz.isAgg292
 z72:=Tryz.sizeOf292
 v72:=Tryz.zeroValue292
 t164:=Tryz.underlying336
 a164:=Tryz.isAgg336
 z164:=Tryz.sizeOf336
 v164:=Tryz.zeroValue336
def RL.lS_ren:Go.Shelf.Ren:=⟨fun | 169=>288 | n=>n,fun | 70=>290 | 9=>9 | 0=>0 | 72=>292 | 37=>284 | 127=>322 | 3=>3 | 5=>5 | n=>n,fun | n=>n⟩
theorem RL.lS:Go.Proofs.Lays.n169 Tryz.prog RL.lS_ren where
 mixed:=by kernel_rfl
 f169:=Tryz.func288.trans (congrArg some (by kernel_rfl))
 t0:=Tryz.underlying0
 a0:=Tryz.isAgg0
 z0:=Tryz.sizeOf0
 v0:=Tryz.zeroValue0
 t3:=Tryz.underlying3
 a3:=Tryz.isAgg3
 z3:=Tryz.sizeOf3
 v3:=Tryz.zeroValue3
 t9:=Tryz.underlying9
 a9:=Tryz.isAgg9
 z9:=Tryz.sizeOf9
 v9:=Tryz.zeroValue9
 t37:=Tryz.underlying284
 a37:=Tryz.isAgg284
 z37:=Tryz.sizeOf284
 v37:=Tryz.zeroValue284
 t70:=Tryz.underlying290
 a70:=Tryz.isAgg290
 z70:=Tryz.sizeOf290
 v70:=Tryz.zeroValue290
 t72:=Tryz.underlying292
 a72:=Tryz.isAgg292
 z72:=Tryz.sizeOf292
 v72:=Tryz.zeroValue292
 t127:=Tryz.underlying322
 a127:=Tryz.isAgg322
 z127:=Tryz.sizeOf322
 v127:=Tryz.zeroValue322
end Go.Proofs
end
section
open Go Go.Proofs Go.Eng Go.Shelf IB Go.Lib Go.RowKit
namespace RB
def hasP (s p:List UInt8):Prop:=p.length≤s.length∧s.take p.length=p
instance (s p:List UInt8):Decidable (hasP s p):=by unfold hasP;infer_instance
def tQ (s p:List UInt8):List UInt8:=if hasP s p then s.drop p.length else s
theorem lK (s:List UInt8):hasP s [45]↔s.headD 0=45:=by
 cases s with
 | nil=>simp[hasP]
 | cons c r=>simp[hasP]
theorem tR (s:List UInt8):tQ s [45]=digs s:=by
 unfold tQ digs
 by_cases h:s.headD 0=45
 ·rw[if_pos h,if_pos ((lK s).2 h)]
  cases s<;>rfl
 ·rw[if_neg h,if_neg (fun e=>h ((lK s).1 e))]
theorem b126 (s p:List UInt8):body Tryz.prog [] {} true Tryz.f145 [S s,S p] (.bl (hasP s p) inferInstance):=by
 (repeat'((conv=>whnf);first|refine Zg fun _=>?_|fail))
 (refine Br.mk (fun _=>?_) (fun _=>?_))
 ·rename_i h
  (repeat' first|refine ZG ?_|refine Zg fun _=>?_)
  (conv=>whnf)
  unfold hasP
  exact ⟨fun e=>⟨by omega,e⟩,fun e=>e.2⟩
 ·rename_i h
  (conv=>whnf)
  intro e
  exact h (by have:=e.1;omega)
def c126:Con:=aI 145 true fun args K=>match args with | [.str s,.str p]=>K (.bl (hasP s p) inferInstance) | _=>False
theorem k126:aG Tryz.prog c126:=by
 refine aB rfl (enters_of Tryz.func145 (by kernel_rfl) rfl) ?_
 intro args K h
 simp only[c126] at h
 split at h
 ·rename_i s p;exact ⟨_,h,aA (by simp) Tryz.func145 (by simp[Tryz.ntmps145]) rfl (b126 s p)⟩
 ·exact h.elim
theorem b91 (s:List UInt8):body Tryz.prog [c126] {} true Tryz.f249 [S s,S [45]] (.bl (s.headD 0=45) inferInstance):=by
 (conv=>whnf)
 exact lK s
def c91:Con:=aI 249 true fun args K=>match args with | [.str s,.str p]=>Need (p= [45]) (K (.bl (s.headD 0=45) inferInstance)) | _=>False
theorem k91:aG Tryz.prog c91:=by
 refine aB rfl (enters_of Tryz.func249 (by kernel_rfl) rfl) ?_
 intro args K h
 simp only[c91] at h
 split at h
 ·rename_i s p
  obtain ⟨rfl,h⟩:=h
  exact ⟨_,h,aA (by simp[k126]) Tryz.func249 (by simp[Tryz.ntmps249]) rfl (b91 s)⟩
 ·exact h.elim
theorem b125 (s p:List UInt8):body Tryz.prog [c126] {} true Tryz.f116 [S s,S p] (S (tQ s p)):=by
 unfold tQ
 (refine Br.mk (fun _=>?_) (fun _=>?_))
 ·rename_i h
  rw[if_pos h]
  have:=h.1
  (repeat' first|refine ZG ?_|refine Zg fun _=>?_)
  (conv=>whnf)
 ·rename_i h
  rw[if_neg h]
  (conv=>whnf)
def c125:Con:=aI 116 true fun args K=>match args with | [.str s,.str p]=>K (.str (tQ s p)) | _=>False
theorem k125:aG Tryz.prog c125:=by
 refine aB rfl (enters_of Tryz.func116 (by kernel_rfl) rfl) ?_
 intro args K h
 simp only[c125] at h
 split at h
 ·rename_i s p;exact ⟨_,h,aA (by simp[k126]) Tryz.func116 (by simp[Tryz.ntmps116]) rfl (b125 s p)⟩
 ·exact h.elim
theorem b88 (s:List UInt8):body Tryz.prog [c125] {} true Tryz.f75 [S s,S [45]] (S (digs s)):=by
 rw[← tR]
 (conv=>whnf)
def c88:Con:=aI 75 true fun args K=>match args with | [.str s,.str p]=>Need (p= [45]) (K (S (digs s))) | _=>False
theorem k88:aG Tryz.prog c88:=by
 refine aB rfl (enters_of Tryz.func75 (by kernel_rfl) rfl) ?_
 intro args K h
 simp only[c88] at h
 split at h
 ·rename_i s p
  obtain ⟨rfl,h⟩:=h
  exact ⟨_,h,aA (by simp[k125]) Tryz.func75 (by simp[Tryz.ntmps75]) rfl (b88 s)⟩
 ·exact h.elim
theorem b155 (s p:List UInt8):body Tryz.prog [c126] {} true Tryz.f228 [S s,S p] (.tup [S (tQ s p),.bl (hasP s p) inferInstance]):=by
 unfold tQ
 (refine Br.mk (fun _=>?_) (fun _=>?_))
 ·rename_i h
  rw[if_neg h]
  (conv=>whnf)
  (repeat' first|exact trivial|rfl|refine And.intro ?_ ?_)
  exact h
 ·rename_i h
  have h:=Classical.not_not.1 h
  rw[if_pos h]
  have:=h.1
  (repeat' first|refine ZG ?_|refine Zg fun _=>?_)
  (conv=>whnf)
  (repeat' first|exact trivial|rfl|refine And.intro ?_ ?_)
  all_goals first | exact h | exact h.1 | exact h.2
def c155:Con:=aI 228 true fun args K=>match args with | [.str s,.str p]=>K (.tup [S (tQ s p),.bl (hasP s p) inferInstance]) | _=>False
theorem k155:aG Tryz.prog c155:=by
 refine aB rfl (enters_of Tryz.func228 (by kernel_rfl) rfl) ?_
 intro args K h
 simp only[c155] at h
 split at h
 ·rename_i s p;exact ⟨_,h,aA (by simp[k126]) Tryz.func228 (by simp[Tryz.ntmps228]) rfl (b155 s p)⟩
 ·exact h.elim
theorem b123 (s:List UInt8):body Tryz.prog [c155] {} true Tryz.f182 [S s,S [45]] (.tup [S (digs s),.bl (s.headD 0=45) inferInstance]):=by
 rw[← tR]
 (conv=>whnf)
 (repeat' first|exact trivial|rfl|refine And.intro ?_ ?_)
 exact lK s
def c123:Con:=aI 182 true fun args K=>match args with | [.str s,.str p]=>Need (p= [45]) (K (.tup [S (digs s),.bl (s.headD 0=45) inferInstance])) | _=>False
theorem k123:aG Tryz.prog c123:=by
 refine aB rfl (enters_of Tryz.func182 (by kernel_rfl) rfl) ?_
 intro args K h
 simp only[c123] at h
 split at h
 ·rename_i s p
  obtain ⟨rfl,h⟩:=h
  exact ⟨_,h,aA (by simp[k155]) Tryz.func182 (by simp[Tryz.ntmps182]) rfl (b123 s)⟩
 ·exact h.elim
theorem rE {E:Env} {s:List UInt8} {vs:List Value} (h:RelL E [.str s] vs):vs= [.string ⟨s.toArray⟩]∧s.length≤maxL:=by
 obtain ⟨v,rfl,h1⟩:=h.one
 cases h1 with
 | str _ hl=>exact ⟨rfl,hl⟩
theorem aFb {E:Env} {k:IntKind} {n:Int} {vs:List Value} (h:RelL E [.val (.int k n)] vs):vs= [.int k n]∧inK k n:=by
 obtain ⟨v,rfl,h1⟩:=h.one
 obtain ⟨rfl,h2⟩:=h1.int_inv
 exact ⟨rfl,h2⟩
theorem aPf {ok:Nat→Prop} {w:World} (h:GW Tryz.prog ok w):Lib.TabIs Tryz.prog w "internal/strconv.uint64pow10" .u64 Lib.pow10Tab:=by
 obtain ⟨cs,h1,h2⟩:=h.var (n:= "internal/strconv.uint64pow10") (by simp[gnames]) (g:=3) (by kernel_rfl)
 unfold Lib.TabIs
 rw[h1,h2.pow rfl]
 rfl
theorem aHb (n:Nat) (h:n≤9223372036854775808):(decDigits n).length≤20:=IB.fH 19 n (by omega)
theorem aPg (n:Int) (h:inK .i64 n):(itoa n).length≤maxL:=by
 have h: -9223372036854775808≤n∧n≤9223372036854775807:=h
 have h1:=aHb n.natAbs (by omega)
 rw[← bS] at h1
 have h2:(itoa n).length≤(digs (itoa n)).length+1:=by
  unfold digs
  split
  ·rw[List.length_tail];omega
  ·omega
 show _≤140737488355328
 omega
theorem t61 (n:Int):Tri Tryz.prog true 188 [I n] (S (itoa n)):=by
 intro ok w vs hg hok hr
 obtain ⟨rfl,hn⟩:=aFb hr
 have hn': -9223372036854775808≤n∧n≤9223372036854775807:=hn
 refine (Any.strconv_Itoa RL.lI n hn'.1 hn'.2 w (aPf hg)).mono ?_
 rintro e w' ⟨rfl,k,os,rfl⟩
 exact ⟨_,rfl,Lib.below_grow _ _ (Nat.le_refl _) _ _,.str _ (aPg n hn)⟩
def c61:Con:=aI 188 true fun args K=>match args with | [.val (.int .i64 n)]=>K (S (itoa n)) | _=>False
theorem k61:aG Tryz.prog c61:=by
 refine aB rfl (enters_of Tryz.func188 (by kernel_rfl) rfl) ?_
 intro args K h
 simp only[c61] at h
 split at h
 ·exact ⟨_,h,t61 _⟩
 ·exact h.elim
abbrev fitI (n:Int):Prop:= -9223372036854775808≤n∧n≤9223372036854775807
def mY (acc:Nat) (l:List UInt8):Nat:=l.foldl (fun n c=>10*n+(c.toNat-48)) acc
theorem aAr:∀(l:List UInt8) (acc:Nat),acc≤mY acc l
 | [],acc=>Nat.le_refl _
 | c::r,acc=>by
  have:=aAr r (10*acc+(c.toNat-48))
  simp only[mY,List.foldl_cons] at this ⊢
  omega
theorem rF:∀(l:List UInt8) (acc:Nat),(∀c∈l,bC c)→acc<18446744073709551616→parseUint10 acc l=if mY acc l<18446744073709551616 then .ok (mY acc l) else .range
 | [],acc,_,h=>by simp[parseUint10,mY,h]
 | c::r,acc,hd,h=>by
  have hc:=hd c (by simp)
  have ih:=rF r (acc*10+(c.toNat-48)) fun x hx=>hd x (by simp[hx])
  have hg:=aAr r (10*acc+(c.toNat-48))
  have e:mY acc (c::r)=mY (acc*10+(c.toNat-48)) r:=by simp only[mY,List.foldl_cons];rw[Nat.mul_comm]
  rw[Nat.mul_comm] at hg
  simp only[parseUint10]
  have hc:48≤c.toNat∧c.toNat≤57:=hc
  rw[if_pos hc,e]
  by_cases h1:1844674407370955162≤acc
  ·rw[if_pos h1,if_neg (by omega)]
  ·rw[if_neg h1]
   by_cases h2:18446744073709551616≤acc*10+(c.toNat-48)
   ·rw[if_pos h2,if_neg (by omega)]
   ·rw[if_neg h2,ih (by omega)]
theorem aAs {l:List UInt8} (h:∀c∈l,bC c) (hne:l≠ []):parseMag l=if aM l<18446744073709551616 then .ok (aM l) else .range:=by
 unfold parseMag
 rw[if_neg hne,rF l 0 h (by omega)]
 rfl
theorem aSz {c:UInt8} (h:bC c):c.toNat≠43∧c.toNat≠45:=by unfold bC at h;omega
theorem aAt {s:List UInt8} (h:form s):atoiAll s=(if fitI (valI s) then .ok (valI s) else .range)∧(¬fitI (valI s)→(9223372036854775807<valI s∧atoiSat s=9223372036854775807)∨(valI s < -9223372036854775808∧atoiSat s= -9223372036854775808)):=by
 obtain ⟨h1,h2,h3⟩:=h
 cases s with
 | nil=>simp[digs] at h1
 | cons c r=>
  by_cases hc:c=45
  ·subst hc
   have e1:digs (45::r)=r:=rfl
   have e2:valI (45::r)= -(aM r:Int):=rfl
   rw[e1] at h1 h3
   rw[e2];unfold fitI;rw[atoiAll_minus,aAs h3 h1,atoiSat_minus]
   refine ⟨?_,fun hn=>.inr ⟨by omega,rfl⟩⟩
   by_cases h4:aM r<18446744073709551616
   ·rw[if_pos h4]
    simp only[signed]
    by_cases h5:9223372036854775808<aM r
    ·rw[if_pos h5,if_neg (by omega)]
    ·rw[if_neg h5,if_pos (by omega)]
   ·rw[if_neg h4,if_neg (by omega)];rfl
  ·have e1:digs (c::r)=c::r:=by simp[digs,hc]
   have e2:valI (c::r)=aM (c::r):=by simp[valI,hc]
   rw[e1] at h1 h3
   obtain ⟨g1,g2⟩:=aSz (h3 c (by simp))
   rw[e2];unfold fitI;rw[atoiAll_plain c r g1 g2,aAs h3 h1,atoiSat_other c r g2]
   refine ⟨?_,fun hn=>.inl ⟨by omega,rfl⟩⟩
   by_cases h4:aM (c::r)<18446744073709551616
   ·rw[if_pos h4]
    simp only[signless]
    by_cases h5:9223372036854775808≤aM (c::r)
    ·rw[if_pos h5,if_neg (by omega)]
    ·rw[if_neg h5,if_pos (by omega)]
   ·rw[if_neg h4,if_neg (by omega)];rfl
theorem t72ok (s:List UInt8) (hf:form s) (hv:fitI (valI s)):Tri Tryz.prog true 230 [S s] (.tup [I (valI s),.val .nilIface]):=by
 intro ok w vs hg hok hr
 obtain ⟨rfl,hl⟩:=rE hr
 have hl':s.length≤140737488355328:=hl
 have ha:=(aAt hf).1
 rw[if_pos hv] at ha
 refine (Any.strconv_Atoi_ok RL.lA ⟨s.toArray⟩ (by show s.toArray.size≤ _;rw[List.size_toArray];omega) (valI s) (by simpa using ha) w).mono ?_
 rintro e w' ⟨rfl,hw⟩
 refine ⟨_,rfl,?_,.tup _ _ (.cons _ _ _ _ (.val _ hv) (.cons _ _ _ _ (.val _ trivial) .nil))⟩
 rcases hw with rfl | ⟨t,rfl⟩
 ·exact Below.refl _ _
 ·exact Go.Joins.below_bytesWorld _ _ _ _ (Nat.le_refl _)
theorem aPh {ok:Nat→Prop} {w:World} (h:GW Tryz.prog ok w):∃ev,w.cell? ⟨(RL.lA_ren).g 16,0,none⟩=some ev∧∃te pe,ev= .iface te pe:=by
 obtain ⟨hk,cs,e,f,h2,h3⟩:=h "strconv.ErrRange" (by simp[gnames]) ((RL.lA_ren).g 16) (by kernel_rfl)
 obtain ⟨tp,p,hc⟩:=h3.err (.inl rfl)
 refine ⟨_,?_,tp,p,rfl⟩
 rw[World.cell?,h2,hc]
 rfl
theorem aS0 (s:List UInt8) (hf:form s) (hv:¬fitI (valI s)) (hl:s.length≤281474976710656):Tri Tryz.prog true 230 [S s] (.tup [I (atoiSat s),.ifc]):=by
 intro ok w vs hg hok hr
 obtain ⟨rfl,_⟩:=rE hr
 have ha:=(aAt hf).1
 rw[if_neg hv] at ha
 obtain ⟨ev,h1,h2⟩:=aPh hg
 refine (Any.strconv_Atoi_range RL.lA ⟨s.toArray⟩ (by show s.toArray.size≤ _;rw[List.size_toArray];omega) (by simpa using ha) ev w h1 (.inr h2)).mono ?_
 rintro e w' ⟨N,rfl,_,_,hb⟩
 refine ⟨_,rfl,hb,.tup _ _ (.cons _ _ _ _ ?_ (.cons _ _ _ _ (.ifc _ (.inr ⟨_,_,rfl⟩)) .nil))⟩
 exact .val _ (atoiSat_bounds _)
def c72:Con:=aI 230 true fun args K=>match args with
 | [.str s]=>Need (form s∧s.length≤1000) (Br (fitI (valI s)) (K (.tup [I (valI s),.val .nilIface])) (K (.tup [I (atoiSat s),.ifc])))
 | _=>False
theorem k72:aG Tryz.prog c72:=by
 refine aB rfl (enters_of Tryz.func230 (by kernel_rfl) rfl) ?_
 intro args K h
 simp only[c72] at h
 split at h
 ·rename_i s
  obtain ⟨⟨hf,hl⟩,h⟩:=h
  by_cases hv:fitI (valI s)
  ·exact ⟨_,h.yes hv,t72ok s hf hv⟩
  ·exact ⟨_,h.no hv,aS0 s hf hv (by omega)⟩
 ·exact h.elim
abbrev digitsS:List UInt8:=[48,49,50,51,52,53,54,55,56,57]
theorem xZ (c:UInt8):digitsS.contains c=true↔bC c:=by
 have h:∀n:Fin 256,(digitsS.contains (UInt8.ofNat n.val)=true)↔(48≤n.val∧n.val≤57):=by decide
 have h1:=h ⟨c.toNat,c.toNat_lt⟩
 simp only[UInt8.ofNat_toNat] at h1
 exact h1
theorem aAu (s cs:List UInt8):trimS s cs= []↔∀c∈s,cs.contains c=true:=by
 have hd:∀l:List UInt8,l.dropWhile (cs.contains ·)= []↔∀c∈l,cs.contains c=true:=by
  intro l
  induction l with
  | nil=>simp
  | cons x r ih=>
   simp only[List.dropWhile_cons,List.mem_cons,forall_eq_or_imp]
   by_cases h:cs.contains x=true
   ·rw[if_pos h,ih];simp only[h,true_and]
   ·rw[if_neg h];exact ⟨(fun e=>by cases e),(fun e=>(h e.1).elim)⟩
 have hmem:∀l:List UInt8,(∀c∈l.dropWhile (cs.contains ·),cs.contains c=true)↔∀c∈l,cs.contains c=true:=by
  intro l
  induction l with
  | nil=>simp
  | cons x r ih=>
   simp only[List.dropWhile_cons]
   by_cases h:cs.contains x=true
   ·rw[if_pos h,ih];simp only[List.mem_cons,forall_eq_or_imp,h,true_and]
   ·rw[if_neg h]
 unfold trimS trimLeftS trimRightS
 rw[hd]
 have:=hmem s.reverse
 simp only[List.mem_reverse] at this ⊢
 exact this
theorem aKu (s cs:List UInt8):(trimS s cs).length≤s.length:=by
 have h:∀l:List UInt8,(l.dropWhile (cs.contains ·)).length≤l.length:=fun l=>(List.dropWhile_sublist _).length_le
 unfold trimS trimLeftS trimRightS
 have h1:=h (s.reverse.dropWhile (cs.contains ·)).reverse
 have h2:=h s.reverse
 simp only[List.length_reverse] at h1 h2
 omega
theorem t156 (s:List UInt8):Tri Tryz.prog true 278 [S s,S digitsS] (S (trimS s digitsS)):=by
 intro ok w vs hg hok hr
 cases hr with
 | cons _ v1 _ vs1 h1 hr=>
 cases h1 with
 | str _ hl=>
 obtain ⟨rfl,_⟩:=rE hr
 have hl':s.length≤140737488355328:=hl
 refine (Any.strings_Trim_laid RL.lT (by kernel_rfl) ⟨s.toArray⟩ ⟨digitsS.toArray⟩ w (by show s.toArray.size≤ _;rw[List.size_toArray];omega) (by decide) (ascii_of_all (by decide))).mono ?_
 rintro e w' ⟨rfl,hb⟩
 exact ⟨_,rfl,hb,.str _ (by have:=aKu s digitsS;show _≤140737488355328;omega)⟩
def c156:Con:=aI 278 true fun args K=>match args with | [.str s,.str cs]=>Need (cs=digitsS) (K (S (trimS s digitsS))) | _=>False
theorem k156:aG Tryz.prog c156:=by
 refine aB rfl (enters_of Tryz.func278 (by kernel_rfl) rfl) ?_
 intro args K h
 simp only[c156] at h
 split at h
 ·rename_i s cs
  obtain ⟨rfl,h⟩:=h
  exact ⟨_,h,t156 _⟩
 ·exact h.elim
theorem ex9:Builder.Extra Tryz.prog RL.lR_ren where
 sizeBuilder:=by kernel_rfl
 liesBuilder:=by kernel_rfl
 t5:=Tryz.underlying5
 a5:=Tryz.isAgg5
 z5:=Tryz.sizeOf5
 v5:=Tryz.zeroValue5
 infoByte:=by kernel_rfl
 cellsByte:=by kernel_rfl
 sizeByte:=by kernel_rfl
 neB5:=by decide
theorem pJ (c:UInt8):∀n,repeatL [c] n=List.replicate n c
 | 0=>rfl
 | n+1=>by rw[repeatL,pJ c n];rfl
theorem t159 (c:UInt8) (n:Int) (hn:0≤n∧n≤1000):Tri Tryz.prog true 287 [S [c],I n] (S (List.replicate n.toNat c)):=by
 intro ok w vs hg hok hr
 cases hr with
 | cons _ v1 _ vs1 h1 hr=>
 cases h1 with
 | str _ hl=>
 obtain ⟨rfl,_⟩:=aFb hr
 obtain ⟨k,rfl⟩:∃k:Nat,n=k:=⟨n.toNat,by omega⟩
 refine (Any.strings_Repeat RL.lR ex9 ⟨[c].toArray⟩ k w (by omega) (by show 1*k≤ _;omega)).mono ?_
 rintro e w' ⟨rfl,hb⟩
 rw[Int.toNat_natCast,← pJ]
 exact ⟨_,rfl,hb,.str _ (by rw[pJ,List.length_replicate];show _≤140737488355328;omega)⟩
def c159:Con:=aI 287 true fun args K=>match args with | [.str [c],.val (.int .i64 n)]=>Need (0≤n∧n≤1000) (K (S (List.replicate n.toNat c))) | _=>False
theorem k159:aG Tryz.prog c159:=by
 refine aB rfl (enters_of Tryz.func287 (by kernel_rfl) rfl) ?_
 intro args K h
 simp only[c159] at h
 split at h
 ·exact ⟨_,h.go,t159 _ _ h.ok⟩
 ·exact h.elim
theorem aCo {s:List UInt8} (h:digs s= []∨((digs s).headD 0=48∧s≠ [48])∨trimS (digs s) digitsS≠ []):chkI s=11:=by
 unfold chkI
 rw[if_neg]
 rintro ⟨h1,h2,h3⟩
 rcases h with h | h | h
 ·exact h1 h
 ·rcases h2 with h2 | h2
  ·exact h2 h.1
  ·exact h.2 h2
 ·exact h ((aAu _ _).2 fun c hc=>(xZ c).2 (h3 c hc))
theorem aQ3 {s:List UInt8} (h1:digs s≠ []) (h2:(digs s).headD 0=48→s= [48]) (h3:trimS (digs s) digitsS= []):form s:=
 ⟨h1,(Classical.em ((digs s).headD 0=48)).elim (fun e=>.inr (h2 e)) .inl,fun c hc=>(xZ c).1 ((aAu _ _).1 h3 c hc)⟩
theorem mZ {s:List UInt8} (h:form s):chkI s=if 300<(digs s).length then 4 else 0:=by unfold chkI;rw[if_pos h]
theorem b127 (s:List UInt8):body Tryz.prog [c88,c156] {} true Tryz.f229 [S s] (I (chkI s)):=by
 (repeat' first|refine ZG ?_|fail)
 (refine Br.mk (fun _=>?_) (fun _=>?_))
 ·rename_i h
  rw[aCo (.inl h)]
  (conv=>whnf)
  (repeat' first|rfl|refine And.intro ?_ ?_)
 ·rename_i h
  have hpos:0<(digs s).length:=List.length_pos_iff.2 h
  have hb:aW (digs s) 0=48↔(digs s).headD 0=48:=by
   unfold aW
   cases hd:digs s with
   | nil=>rw[hd] at hpos;simp at hpos
   | cons c r=>
    show (c.toNat:Int)=48↔c=48
    constructor
    ·intro e
     have:c.toNat=(48:UInt8).toNat:=by show c.toNat=48;omega
     exact UInt8.toNat.inj this
    ·rintro rfl;rfl
  (repeat'((conv=>whnf);first|refine Zg fun _=>?_|refine Zn ?_|refine Z0 ?_|refine Zr (fun _=>?_) fun _=>?_|fail))
  all_goals (skip;(conv=>whnf);(repeat' first|rfl|refine And.intro ?_ ?_))
  all_goals first
   | exact (aCo (.inr (.inl ⟨hb.1 (by assumption),by assumption⟩))).symm
   | exact (aCo (.inr (.inr (by assumption)))).symm
   | (have hf:form s:=aQ3 h (fun e=>by first | exact Classical.not_not.1 (by assumption) | exact absurd (hb.2 e) (by assumption)) (by exact Classical.not_not.1 (by assumption))
      rw[mZ hf]
      first | (rw[if_pos (by omega)]) | (rw[if_neg (by omega)])
      done)
def c127:Con:=aI 229 true fun args K=>match args with | [.str s]=>K (I (chkI s)) | _=>False
theorem k127:aG Tryz.prog c127:=by
 refine aB rfl (enters_of Tryz.func229 (by kernel_rfl) rfl) ?_
 intro args K h
 simp only[c127] at h
 split at h
 ·rename_i s;exact ⟨_,h,aA (by simp[k88,k156]) Tryz.func229 (by simp[Tryz.ntmps229]) rfl (b127 s)⟩
 ·exact h.elim
noncomputable def chk2 (a b:List UInt8):Int:=if chkI a≠0 then chkI a else chkI b
theorem b94 (a b:List UInt8):body Tryz.prog [c127] {} true Tryz.f186 [S a,S b] (I (chk2 a b)):=by
 unfold chk2
 (refine Br.mk (fun _=>?_) (fun _=>?_))
 ·rename_i h
  rw[if_pos h]
  (conv=>whnf)
  (repeat' first|rfl|refine And.intro ?_ ?_)
 ·rename_i h
  rw[if_neg h]
  (conv=>whnf)
  (repeat' first|rfl|refine And.intro ?_ ?_)
def c94:Con:=aI 186 true fun args K=>match args with | [.str a,.str b]=>K (I (chk2 a b)) | _=>False
theorem k94:aG Tryz.prog c94:=by
 refine aB rfl (enters_of Tryz.func186 (by kernel_rfl) rfl) ?_
 intro args K h
 simp only[c94] at h
 split at h
 ·rename_i a b;exact ⟨_,h,aA (by simp[k127]) Tryz.func186 (by simp[Tryz.ntmps186]) rfl (b94 a b)⟩
 ·exact h.elim
theorem cS {s:List UInt8} (h:chkI s=0):form s∧(digs s).length≤300:=by
 unfold chkI at h
 split at h
 ·rename_i hf
  split at h
  ·cases h
  ·exact ⟨hf,by omega⟩
 ·cases h
theorem yA (s:List UInt8):(digs s).length≤s.length∧s.length≤(digs s).length+1:=by
 unfold digs
 split
 ·rw[List.length_tail];omega
 ·omega
theorem dN {s:List UInt8} (h:form s) (hl:s.length≤18): -1000000000000000000<valI s∧valI s<1000000000000000000:=by
 obtain ⟨h1,h2,h3⟩:=h
 have hb:=iT (digs s) h3
 have hp:(10:Nat)^ (digs s).length≤10^18:=Nat.pow_le_pow_right (by omega) (by have:=yA s;omega)
 have h18:(10:Nat)^18=1000000000000000000:=by decide
 have hv:valI s=aM (digs s)∨valI s= -(aM (digs s):Int):=by
  unfold valI digs
  split
  ·exact .inr rfl
  ·exact .inl rfl
 omega
theorem b95y (a b:List UInt8) (ha:form a) (hb:form b) (hs:a.length≤18∧b.length≤18):body Tryz.prog [c72] {} true Tryz.f187 [S a,S b,I 18] (.tup [I (valI a),I (valI b),.val (.bool true)]):=by
 have h1:=dN ha hs.1
 have h2:=dN hb hs.2
 have f1:fitI (valI a):=by unfold fitI;omega
 have f2:fitI (valI b):=by unfold fitI;omega
 (repeat' first|refine ZR ?_|refine Zg fun _=>?_)
 refine Need.mk ⟨ha,by omega⟩ ?_
 refine Br.mkY f1 ?_
 refine Need.mk ⟨hb,by omega⟩ ?_
 refine Br.mkY f2 ?_
 (repeat'((conv=>whnf);first|(apply Pin.mk;apply Exists.intro)|apply Pinned.mk rfl rfl|fail))
 (conv=>whnf)
 (repeat' first|exact trivial|rfl|refine And.intro ?_ ?_)
theorem b95n (a b:List UInt8) (hs:¬(a.length≤18∧b.length≤18)):body Tryz.prog [c72] {} true Tryz.f187 [S a,S b,I 18] (.tup [I 0,I 0,.val (.bool false)]):=by
 (repeat'((conv=>whnf);first|refine Zg fun _=>?_|refine Zy ?_|refine Zr (fun _=>?_) fun _=>?_|fail))
 all_goals first | (exfalso;omega) | skip
 all_goals (skip;(conv=>whnf);(repeat' first|exact trivial|rfl|refine And.intro ?_ ?_))
def c95:Con:=aI 187 true fun args K=>match args with
 | [.str a,.str b,.val (.int .i64 m)]=>Need (m=18∧form a∧form b) (Br (a.length≤18∧b.length≤18) (K (.tup [I (valI a),I (valI b),.val (.bool true)])) (K (.tup [I 0,I 0,.val (.bool false)])))
 | _=>False
theorem k95:aG Tryz.prog c95:=by
 refine aB rfl (enters_of Tryz.func187 (by kernel_rfl) rfl) ?_
 intro args K h
 simp only[c95] at h
 split at h
 ·rename_i a b m
  obtain ⟨⟨rfl,ha,hb⟩,h⟩:=h
  by_cases hs:a.length≤18∧b.length≤18
  ·exact ⟨_,h.yes hs,aA (by simp[k72]) Tryz.func187 (by simp[Tryz.ntmps187]) rfl (b95y a b ha hb hs)⟩
  ·exact ⟨_,h.no hs,aA (by simp[k72]) Tryz.func187 (by simp[Tryz.ntmps187]) rfl (b95n a b hs)⟩
 ·exact h.elim
abbrev itD (s:List UInt8) (i:Nat):List SV:=[I i,I (dgt s i)]
theorem b130 (s:List UInt8):body Tryz.prog [] {} false Tryz.f232 [S s] (.clo 282 [] [.lelem [S s] 0]):=by
 (conv=>whnf)
 (repeat' first|exact trivial|rfl|refine And.intro ?_ ?_)
def c130:Con:=aI 232 false fun args K=>match args with | [.str s]=>K (.clo 282 [] [.lelem [S s] 0]) | _=>False
theorem k130:aG Tryz.prog c130:=by
 refine aB rfl (enters_of Tryz.func232 (by kernel_rfl) rfl) ?_
 intro args K h
 simp only[c130] at h
 split at h
 ·rename_i s;exact ⟨_,h,aA (by simp) Tryz.func232 (by simp[Tryz.ntmps232]) rfl (b130 s)⟩
 ·exact h.elim
theorem aPi {s:List UInt8} (h:∀c∈s,bC c) {i:Nat} (hi:i<s.length):aW s (s.length-1-i)-48=dgt s i∧48≤aW s (s.length-1-i)∧aW s (s.length-1-i)≤57:=by
 have hj:s.length-1-i<s.length:=by omega
 have e:∀d:UInt8,s.getD (s.length-1-i) d=s[s.length-1-i]:=fun d=>by simp[List.getD_eq_getElem?_getD,hj]
 have hd:bC s[s.length-1-i]:=h _ (List.getElem_mem hj)
 unfold aW dgt
 rw[e,e]
 unfold bC at hd
 omega
theorem b161 (s:List UInt8) (h:∀c∈s,bC c):vP Tryz.prog [] { asks:=[(0,[])] } Tryz.f282 [.lelem [S s] 0] s.length (itD s):=by
 (repeat'((conv=>whnf);first|refine Zg fun _=>?_|fail))
 refine Ask.mk ⟨{ X:=Nat,pre:=fun i=>i≤s.length,mod:=fun i _=>[(6,I i)],heap:=fun i _=>[.yst (some i) s.length (itD s)],mu:=fun i=>s.length-i },rfl,?_⟩
 (repeat' first|refine ZG ?_|fail)
 refine ⟨⟨(0:Nat),Nat.zero_le _,by (repeat' first|exact trivial|rfl|refine And.intro ?_ ?_)⟩,fun (i:Nat) (hi:i≤s.length)=>?_⟩
 (refine Br.mk (fun _=>?_) (fun _=>?_))
 ·have hlt:i<s.length:=by omega
  obtain ⟨e1,e2,e3⟩:=aPi h hlt
  (repeat' first|refine ZG ?_|refine Zg fun _=>?_)
  refine cF (s.length-1-i) (by omega) ?_
  (repeat' first|refine ZG ?_|refine Zg fun _=>?_)
  refine Need.mk (by (repeat' first|exact trivial|rfl|refine And.intro ?_ ?_);exact e1) ?_
  refine Two.mk ?_ ?_
  ·(repeat' first|refine ZG ?_|fail)
   refine ⟨(i+1:Nat),by show s.length-(i+1)<s.length-i;omega,hlt,?_⟩
   (repeat' first|exact trivial|rfl|refine And.intro ?_ ?_)
  ·(conv=>whnf)
   trivial
 ·(conv=>whnf)
  omega
def c161:Con:=aI 282 false fun args K=>match args with | [.lelem [.str s] 0]=>Need (∀c∈s,bC c) (K (.itr s.length (itD s))) | _=>False
theorem k161:aG Tryz.prog c161:=by
 refine aB rfl (enters_of Tryz.func282 (by kernel_rfl) rfl) ?_
 intro args K h
 simp only[c161] at h
 split at h
 ·rename_i s;exact ⟨_,h.go,gV (by simp) Tryz.func282 (by simp[Tryz.ntmps282]) (b161 s h.ok)⟩
 ·exact h.elim
abbrev yB (i:Nat):Int:=if i=0 then 1 else 10^ ((i-1)%9+1)
theorem aQ4 (i:Nat) (h:i%9≠0):yB i=10^ (i%9):=by
 unfold yB
 rw[if_neg (by omega)]
 congr 1
 omega
theorem aKv (i:Nat):yB (i+1)=10^ (i%9)*10:=by
 unfold yB
 rw[if_neg (by omega),Nat.add_sub_cancel,Int.pow_succ]
theorem aPj (i:Nat):1≤(10:Int)^ (i%9)∧(10:Int)^ (i%9)≤100000000:=by
 have:i%9<9:=Nat.mod_lt _ (by omega)
 generalize i%9=k at this
 match k,this with
 | 0,_ | 1,_ | 2,_ | 3,_ | 4,_ | 5,_ | 6,_ | 7,_ | 8,_=>decide
abbrev nL (s:List UInt8):Nat:=(s.length+8)/9
theorem b98 (s:List UInt8) (h:form s∧(digs s).length≤600):body Tryz.prog [c123,c130,c161,c131] { asks:=[(0,[])] } true Tryz.f189 [S s] (.agg [.bl (s.headD 0=45) inferInstance,Ls (aH B9 (aM (digs s)))]):=by
 obtain ⟨hf,hl⟩:=h
 have hd:=hf.2.2
 have hn:(digs s).length≤9*nL (digs s):=by unfold nL;omega
 have e9:(10:Nat)^9=B9:=by decide
 (repeat' first|refine ZG ?_|refine Zg fun _=>?_)
 refine Ask.mk ⟨{ X:=Nat,pre:=fun i=>i≤(digs s).length,mod:=fun _ _=>[],heap:=fun i H=>[hget H 0,V (rdK (digs s) (nL (digs s)) i),hget H 2,.cells [I (yB i)] 3],mu:=fun i=>i },rfl,?_⟩
 (repeat' first|refine ZG ?_|fail)
 refine ⟨⟨(0:Nat),rfl,Nat.zero_le _,?_⟩,fun (i:Nat) hi (hlt:i<(digs s).length)=>?_,fun (i:Nat) hi (he:i=(digs s).length)=>?_⟩
 ·(repeat' first|exact trivial|rfl|refine And.intro ?_ ?_)
  (conv=>whnf)
  show List.replicate _ _=List.replicate _ _
  congr 1;unfold nL;omega
 ·obtain ⟨g1,g2,g3,g4,g5⟩:=xI hd hn i (by omega)
  have gd:=aI2 hd hlt
  have gi:=get9 g2 (i/9)
  have gu:=aPj i
  have hi9:i/9<nL (digs s):=by unfold nL;omega
  have g5:(rdK (digs s) (nL (digs s)) i).getD (i/9) 0<(10:Int)^ (i%9):=g5
  have hm:0≤dgt (digs s) i*10^ (i%9)∧dgt (digs s) i*10^ (i%9)≤9*100000000:=⟨Int.mul_nonneg gd.1 (by omega),Int.le_trans (Int.mul_le_mul_of_nonneg_right gd.2.1 (by omega)) (Int.mul_le_mul_of_nonneg_left gu.2 (by omega))⟩
  have hst:rdK (digs s) (nL (digs s)) (i+1)=(rdK (digs s) (nL (digs s)) i).set (i/9) ((rdK (digs s) (nL (digs s)) i).getD (i/9) 0+dgt (digs s) i*10^ (i%9)):=rfl
  have hun:=aKv i
  show hnfL (itD (digs s) i) _
  (repeat' first|refine ZG ?_|refine Zg fun _=>?_)
  (refine Br.mk (fun _=>?_) (fun _=>?_))
  ·rename_i hz
   have hz:i%9=0:=by omega
   rw[hz] at hm hst hun
   (repeat'((conv=>whnf);first|refine Zg fun _=>?_|refine Za ?_|refine Zn ?_|refine Zj ?_|(apply Pin.mk;apply Exists.intro)|apply Pinned.mk rfl rfl|fail))
   refine Need.mk (show -9223372036854775808≤(rdK (digs s) (nL (digs s)) i).getD (i/9) 0+dgt (digs s) i*1∧(rdK (digs s) (nL (digs s)) i).getD (i/9) 0+dgt (digs s) i*1≤9223372036854775807 by omega) ?_
   (repeat' first|refine ZG ?_|fail)
   refine ⟨(i+1:Nat),rfl,hlt,?_⟩
   (repeat' first|exact trivial|rfl|refine And.intro ?_ ?_|omega)
   exact hst.symm
  ·rename_i hz
   have hz:i%9≠0:=by omega
   rw[← aQ4 i hz] at hm hst hun gu
   (repeat'((conv=>whnf);first|refine Zg fun _=>?_|refine Za ?_|refine Zn ?_|refine Zj ?_|(apply Pin.mk;apply Exists.intro)|apply Pinned.mk rfl rfl|fail))
   refine Need.mk (show -9223372036854775808≤(rdK (digs s) (nL (digs s)) i).getD (i/9) 0+dgt (digs s) i*yB i∧(rdK (digs s) (nL (digs s)) i).getD (i/9) 0+dgt (digs s) i*yB i≤9223372036854775807 by omega) ?_
   (repeat' first|refine ZG ?_|fail)
   refine ⟨(i+1:Nat),rfl,hlt,?_⟩
   (repeat' first|exact trivial|rfl|refine And.intro ?_ ?_|omega)
   exact hst.symm
 ·subst he
  (conv=>whnf)
  (repeat' first|exact trivial|rfl|refine And.intro ?_ ?_)
  have:=aQd hd hn
  rw[e9] at this
  exact this
def c98:Con:=aI 189 true fun args K=>match args with | [.str s]=>Need (form s∧(digs s).length≤600) (K (.agg [.bl (s.headD 0=45) inferInstance,Ls (aH B9 (aM (digs s)))])) | _=>False
theorem k98:aG Tryz.prog c98:=by
 refine aB rfl (enters_of Tryz.func189 (by kernel_rfl) rfl) ?_
 intro args K h
 simp only[c98] at h
 split at h
 ·rename_i s;exact ⟨_,h.go,aA (by simp[k123,k130,k161,k131]) Tryz.func189 (by simp[Tryz.ntmps189]) rfl (b98 s h.ok)⟩
 ·exact h.elim
theorem aR1:Builder.X72 Tryz.prog RL.lC_ren where
 sizeBuilder:=by kernel_rfl
 liesBuilder:=by kernel_rfl
theorem ex160:Builder.Extra Tryz.prog RL.lS_ren where
 sizeBuilder:=by kernel_rfl
 liesBuilder:=by kernel_rfl
 t5:=Tryz.underlying5
 a5:=Tryz.isAgg5
 z5:=Tryz.sizeOf5
 v5:=Tryz.zeroValue5
 infoByte:=by kernel_rfl
 cellsByte:=by kernel_rfl
 sizeByte:=by kernel_rfl
 neB5:=by decide
def aAv (nm:Nat) (A:SV):Prop:=A= .val (.pointer none)∨A= .ptr nm 0
def c178:Con:=uX 320 fun args H K=>match args with
 | [.ptr nm 0]=>(match hget H nm with
  | .cells [A,x] e=>Need (aAv nm A∧e=292) <| K (.tup []) (hset H nm (.cells [.ptr nm 0,x] 292))
  | _=>False)
 | _=>False
theorem k178:aG Tryz.prog c178:=by
 refine nN (enters_of Tryz.func320 (by kernel_rfl) rfl) ?_
 intro args H K h
 split at h
 case h_2=>exact h.elim
 rename_i nm
 split at h
 case h_2=>exact h.elim
 rename_i A x e ho
 obtain ⟨⟨hA,rfl⟩,hK⟩:=h
 refine ⟨fun s H'=>s= .tup []∧H'=hset H nm (.cells [.ptr nm 0,x] 292),fun s H' e=>by rw[e.1,e.2];exact hK,?_⟩
 intro G loc ver w vs hC hI hr
 cases hr with
 | cons _ v1 _ vs1 h1 hr=>
 cases hr
 obtain ⟨b,hbk,rfl⟩:=jY hI h1 (by simp only[live,ho])
 have hn:=aD ho (by simp)
 obtain ⟨h0,b',vals,g1,g2,g3⟩:=hI.objs nm _ hn
 rw[hbk] at g1;cases g1
 replace g2:w.heap[b]? =some (.cells ⟨vals⟩ 292 (0,0)):=g2
 cases g3 with
 | cons _ u _ us r1 r2=>
 cases r2 with
 | cons _ u2 _ us2 r2 r3=>
 cases r3
 have hfin:∀w':World,w'.heap.size=w.heap.size→w'.os=w.os→w'.tape=w.tape→w'.output=w.output→(∀k,k≠b→w'.heap[k]? =w.heap[k]?)→w'.heap[b]? =some (.cells #[.pointer (some ⟨b,0,none⟩),u2] 292 (0,0))→Res G (envOf G H loc ver w) (fun s H'=>s= .tup []∧H'=hset H nm (.cells [.ptr nm 0,x] 292)) (.tuple #[]) w':=by
  intro w' q1 q2 q3 q4 q5 q6
  have hin:=hI.inPlace (w':=w') (o':=.cells [.ptr nm 0,x] 292) hn (b:=b) (by simp[Owns,hbk]) (fun _ h=>h) q1 q2 q3 q4 q5
   (fun hx'=>⟨h0,b,[.pointer (some ⟨b,0,none⟩),u2],hbk,q6,.cons _ _ _ _ (h1.ext hx') (.cons _ _ _ _ (r2.ext hx') .nil)⟩)
  exact ⟨_,_,_,_,⟨rfl,rfl⟩,hin.1,.tup [] [] .nil,hin.2⟩
 rcases hA with rfl | rfl
 ·cases r1
  refine (Any.Builder_copyCheck_fresh RL.lC aR1 b w (by rw[Lib.cell_of_heap g2];rfl) (by unfold World.shape?;rw[g2];rfl) (Lib.frozen_of_heap g2 0)).mono ?_
  rintro e w' ⟨rfl,rfl⟩
  exact ⟨_,rfl,hfin _ (by simp[World.setCell]) rfl rfl rfl (fun k hk=>Below.heap_setCell w _ _ k hk) (by unfold World.setCell;rw[Array.getElem?_modify];simp[g2])⟩
 ·obtain ⟨b2,hb2,rfl⟩:=jY hI r1 (by simp only[live,ho])
  rw[hbk] at hb2;cases hb2
  refine (Any.Builder_copyCheck_used RL.lC aR1 b w (by rw[Lib.cell_of_heap g2];rfl)).mono ?_
  rintro e w' ⟨rfl,rfl⟩
  exact ⟨_,rfl,hfin _ rfl rfl rfl rfl (fun _ _=>rfl) g2⟩
abbrev H3 (p:Prop) (hp:Decidable p) (a:List Int) (A:SV) (k:Nat) (bs:List Int):List HO:=[.cells [.bl p hp,Ls a] 233,.cells [A,.ref 2 k] 292,.vec k (.int .u8) bs 5]
theorem b157 (p:Prop) (hp:Decidable p) (a:List Int) (A:SV) (hA:aAv 1 A) (bs:List Int) (hl:bs.length≤1000000):
  jV Tryz.prog [c178] {} Tryz.f285 [.ptr 1 0,.val (.int .u8 45)] (H3 p hp a A 1 bs) (fun s H'=>s= .val .nilIface∧H'=H3 p hp a (.ptr 1 0) 2 (List.append (α:=Int) bs [45])):=by
 (conv=>whnf)
 refine Need.mk rfl ?_
 (repeat' first|refine ZG ?_|fail)
 (conv=>whnf)
 refine ⟨_,_,⟨rfl,rfl⟩,rfl,rfl,rfl,rfl,?_⟩
 (repeat' first|exact trivial|rfl|refine And.intro ?_ ?_)
theorem b158 (p:Prop) (hp:Decidable p) (a:List Int) (A:SV) (hA:aAv 1 A) (k:Nat) (hk:k=1∨k=2) (bs:List Int) (s:List UInt8) (hl:bs.length+s.length≤1000000):
  jV Tryz.prog [c178] {} Tryz.f286 [.ptr 1 0,S s] (H3 p hp a A k bs++ [.gone]) (fun r H'=>r= .tup [I s.length,.val .nilIface]∧H'=H3 p hp a (.ptr 1 0) (k+1) (List.append (α:=Int) bs (aY s))++ [.gone]):=by
 rcases hk with rfl | rfl
 ·(conv=>whnf)
  refine Need.mk rfl ?_
  (repeat' first|refine ZG ?_|refine Zg fun _=>?_)
  (conv=>whnf)
  refine ⟨_,_,⟨rfl,rfl⟩,rfl,?_,rfl,rfl,?_⟩
  all_goals (repeat' first|exact trivial|rfl|refine And.intro ?_ ?_)
 ·(conv=>whnf)
  refine Need.mk rfl ?_
  (repeat' first|refine ZG ?_|refine Zg fun _=>?_)
  (conv=>whnf)
  refine ⟨_,_,⟨rfl,rfl⟩,rfl,?_,rfl,rfl,?_⟩
  all_goals (repeat' first|exact trivial|rfl|refine And.intro ?_ ?_)
def c157:Con:=uX 285 fun args H K=>match args,H with
 | [.ptr 1 0,.val (.int .u8 45)],[.cells [.bl p hp,.seq (.int .i64) a] e1,.cells [A,.ref 2 1] e2,.vec 1 (.int .u8) bs e3]=>
  Need (aAv 1 A∧e1=233∧e2=292∧e3=5∧List.length (α:=Int) bs≤1000000) (K (.val .nilIface) (H3 p hp a (.ptr 1 0) 2 (List.append (α:=Int) bs [45])))
 | _,_=>False
theorem k157:aG Tryz.prog c157:=by
 refine nN (enters_of Tryz.func285 (by kernel_rfl) rfl) ?_
 intro args H K h
 split at h
 ·obtain ⟨⟨hA,rfl,rfl,rfl,hl⟩,hK⟩:=h
  refine ⟨_,?_,bO (by simp[k178]) Tryz.func285 (by simp[Tryz.ntmps285]) (b157 _ _ _ _ hA _ hl)⟩
  rintro s H' ⟨rfl,rfl⟩
  exact hK
 ·exact h.elim
def c158:Con:=uX 286 fun args H K=>match args,H with
 | [.ptr 1 0,.str s],[.cells [.bl p hp,.seq (.int .i64) a] e1,.cells [A,.ref 2 k] e2,.vec k' (.int .u8) bs e3,.gone]=>
  Need (aAv 1 A∧k'=k∧(k=1∨k=2)∧e1=233∧e2=292∧e3=5∧List.length (α:=Int) bs+s.length≤1000000) (K (.tup [I s.length,.val .nilIface]) (H3 p hp a (.ptr 1 0) (k+1) (List.append (α:=Int) bs (aY s))++ [.gone]))
 | _,_=>False
theorem k158:aG Tryz.prog c158:=by
 refine nN (enters_of Tryz.func286 (by kernel_rfl) rfl) ?_
 intro args H K h
 split at h
 ·obtain ⟨⟨hA,rfl,hk,rfl,rfl,rfl,hl⟩,hK⟩:=h
  refine ⟨_,?_,bO (by simp[k178]) Tryz.func286 (by simp[Tryz.ntmps286]) (b158 _ _ _ _ hA _ hk _ _ hl)⟩
  rintro s H' ⟨rfl,rfl⟩
  exact hK
 ·exact h.elim
set_option maxHeartbeats 2000000 in
set_option maxRecDepth 100000 in
theorem aKw {P:Program} {ρ:Ren} (L:Lays.n169 P ρ) (X:Builder.Extra P ρ) (b g cap:Nat) (p:Value) (cur:Array Value) (l:List UInt8) (w:World) (h0:l≠ []) (hbk:w.heap[b]? =some (.cells #[p,.slice (some ⟨g,0,none⟩) l.length cap] (ρ.t 72) (0,0)))
  (hg:w.heap[g]? =some (.cells cur (ρ.t 5) (0,0))) (hnc:l.length≤cap) (hcm:cap≤maxLen) (hcs:cap≤cur.size) (hcell:∀(j:Nat) (x:UInt8),l[j]? =some x→cur[j]? =some (Value.int .u8 x.toNat)):
  Calls P (ρ.f 169) #[.pointer (some ⟨b,0,none⟩)] w fun e w'=>e= .returned (.string ⟨l.toArray⟩)∧w'=w.drew.freeze ⟨g,0,none⟩ l.length:=by
 have hl0:l.length≠0:=by simpa using h0
 have c1:w.drew.cell? ⟨b,1,none⟩=some (.slice (some ⟨g,0,none⟩) l.length cap):=by
  have:w.drew.heap[b]? =some (.cells #[p,.slice (some ⟨g,0,none⟩) l.length cap] (ρ.t 72) (0,0)):=hbk
  rw[Lib.cell_of_heap this];rfl
 have hSD:(Builtin.unsafeSliceData_ #[(ρ.t 37)] (ρ.t 127) #[.slice (some ⟨g,0,none⟩) l.length cap]).run P w.drew= .ok (.pointer (some ⟨g,0,none⟩)) w.drew:=
  Lib.run_unsafeSliceData_row _ _ _ _ _ _ (by omega)
 have hUS:(Builtin.unsafeString_ #[(ρ.t 127),(ρ.t 3)] (ρ.t 9) #[.pointer (some ⟨g,0,none⟩),.int .i64 l.length]).run P w.drew= .ok (.string ⟨l.toArray⟩) (w.drew.freeze ⟨g,0,none⟩ l.length):=by
  refine Lib.run_unsafeString_row w.drew (ρ.t 127) (ρ.t 3) (ρ.t 9) (ρ.t 5) L.t127 X.cellsByte g cur.size (by have hg':w.drew.heap[g]? =some (.cells cur (ρ.t 5) (0,0)):=hg;simp[World.shape?,hg']) l h0 (by omega) (by unfold maxLen at hcm;omega) ?_
  intro j x hx
  have hg':w.drew.heap[g]? =some (.cells cur (ρ.t 5) (0,0)):=hg
  rw[Addr.add_mid,Lib.cell_of_heap hg',Nat.zero_add]
  exact hcell j x hx
 have mixed:=L.mixed
 have t72:=L.t72;have a72:=L.a72;have z72:=L.z72;have v72:=L.v72;have u72:=run_underlying L.t72
 have t70:=L.t70;have a70:=L.a70;have z70:=L.z70;have v70:=L.v70;have u70:=run_underlying L.t70
 have t37:=L.t37;have a37:=L.a37;have z37:=L.z37;have v37:=L.v37;have u37:=run_underlying L.t37
 have t127:=L.t127;have a127:=L.a127;have z127:=L.z127;have v127:=L.v127;have u127:=run_underlying L.t127
 have t3:=L.t3;have a3:=L.a3;have z3:=L.z3;have v3:=L.v3;have u3:=run_underlying L.t3
 have t9:=L.t9;have a9:=L.a9;have z9:=L.z9;have v9:=L.v9;have u9:=run_underlying L.t9
 have t5:=X.t5;have a5:=X.a5;have z5:=X.z5;have v5:=X.v5;have u5:=run_underlying X.t5
 go_enter L.f169,Body.n169_ntmps ρ
 go_wp2
 go_region_o
 all_goals (go_wp2;go_ret;exact ⟨rfl,rfl⟩)
def ofI (bs:List Int):List UInt8:=bs.map fun n=>UInt8.ofNat n.toNat
theorem yC (l:List UInt8):ofI (aY l)=l:=by
 unfold ofI aY
 rw[List.map_map]
 conv=>rhs;rw[← List.map_id l]
 refine List.map_congr_left fun x _=>?_
 simp
def c160:Con:=uX 288 fun args H K=>match args with
 | [.ptr nm 0]=>(match hget H nm with
  | .cells [A,.ref nm2 k] e=>(match hget H nm2 with
   | .vec k' (.int .u8) bs e'=>Need (aAv nm A∧k'=k∧e=292∧e'=5∧0<List.length (α:=Int) bs∧nm≠nm2) (K (.str (ofI bs)) (hset H nm2 .dead))
   | _=>False)
  | _=>False)
 | _=>False
theorem k160:aG Tryz.prog c160:=by
 refine nN (enters_of Tryz.func288 (by kernel_rfl) rfl) ?_
 intro args H K h
 split at h
 case h_2=>exact h.elim
 rename_i nm
 split at h
 case h_2=>exact h.elim
 rename_i A nm2 k e ho
 split at h
 case h_2=>exact h.elim
 rename_i k' bs e' ho2
 obtain ⟨⟨hA,hkk,rfl,rfl,hpos,hne⟩,hK⟩:=h
 subst hkk
 refine ⟨fun s H'=>s= .str (ofI bs)∧H'=hset H nm2 .dead,fun s H' e=>by rw[e.1,e.2];exact hK,?_⟩
 intro G loc ver w vs hC hI hr
 cases hr with
 | cons _ v1 _ vs1 h1 hr=>
 cases hr
 obtain ⟨b,hbk,rfl⟩:=jY hI h1 (by simp only[live,ho])
 have hn:=aD ho (by simp)
 have hn2:=aD ho2 (by simp)
 obtain ⟨h0,b',vals,g1,g2,g3⟩:=hI.objs nm _ hn
 rw[hbk] at g1;cases g1
 replace g2:w.heap[b]? =some (.cells ⟨vals⟩ 292 (0,0)):=g2
 cases g3 with
 | cons _ u _ us r1 r2=>
 cases r2 with
 | cons _ u2 _ us2 r2 r3=>
 cases r3
 obtain ⟨hu2,hlt2⟩:=gM hI r2 ho2
 subst hu2
 obtain ⟨q1,q2,hlen,hmax,vs2,hown,hel⟩:=hI.objs nm2 _ hn2
 have hlen':(loc nm2).len=List.length (α:=Int) bs:=hlen
 have hmax':(loc nm2).len≤140737488355328:=hmax
 have hel':∀i,i<(loc nm2).len→Reads w (okN G H loc w) (.int .u8) (List.getD (α:=Int) bs i 0) ((vs2.drop (i*1)).take 1):=hel
 rcases aN hown with ⟨_,_,_,e4⟩ | ⟨g,cur,e1,e2,e3,e4,e5,e6,e7⟩
 ·omega
 have e3':w.heap[g]? =some (.cells cur 5 (0,0)):=e3
 have hol:(ofI bs).length=List.length (α:=Int) bs:=by simp[ofI]
 have e7':cur.toList.take (List.length (α:=Int) bs)=vs2:=by rw[← hlen'];simpa [Ty.size] using e7
 have hcell:∀(j:Nat) (x:UInt8),(ofI bs)[j]? =some x→cur[j]? =some (Value.int .u8 x.toNat):=by
  intro j x hj
  have hjl:j<List.length (α:=Int) bs:=by rw[← hol];exact (List.getElem?_eq_some_iff.1 hj).1
  have hR:=hel' j (by omega)
  have hg1:List.getD (α:=Int) bs j 0=bs[j]:=by simp[List.getD_eq_getElem?_getD,hjl]
  have hx:x=UInt8.ofNat (bs[j]:Int).toNat:=by
   simp[ofI,hjl] at hj
   exact hj.symm
  obtain ⟨hR1,hR2⟩:=hR
  have hR2:(0:Int)≤List.getD (α:=Int) bs j 0∧List.getD (α:=Int) bs j 0≤255:=hR2
  have hjc:(cur.toList.take (List.length (α:=Int) bs))[j]? =some (Value.int .u8 (List.getD (α:=Int) bs j 0)):=by
   rw[e7']
   have h1:((vs2.drop (j*1)).take 1)[0]? =some (Value.int .u8 (List.getD (α:=Int) bs j 0)):=by rw[hR1];rfl
   simpa using h1
  rw[List.getElem?_take,if_pos hjl] at hjc
  rw[← Array.getElem?_toList,hjc,hx]
  rw[hg1] at hR2 ⊢
  congr 2
  simp only[UInt8.toNat_ofNat']
  omega
 have hhead:(loc nm2).head= .slice (some ⟨g,0,none⟩) (ofI bs).length (loc nm2).cap:=by simp[Core.head,e1,e2,hlen',hol]
 have hb3:w.heap[b]? =some (.cells #[u,.slice (some ⟨g,0,none⟩) (ofI bs).length (loc nm2).cap] 292 (0,0)):=by rw[← hhead];exact g2
 refine (aKw RL.lS ex160 b g (loc nm2).cap u cur (ofI bs) w (by intro e;rw[e] at hol;simp at hol;omega) hb3 e3' (by omega) e5 (by simpa [Ty.size] using e6) hcell).mono ?_
 rintro e w' ⟨rfl,rfl⟩
 refine ⟨_,rfl,?_⟩
 have hfr:∀c,c≠g→(w.drew.freeze ⟨g,0,none⟩ (ofI bs).length).heap[c]? =w.heap[c]? :=by
  intro c hc
  unfold World.freeze
  split
  ·rfl
  ·show (w.heap.modify _ _)[c]? = _
   rw[Array.getElem?_modify,if_neg (fun e=>hc e.symm)]
 have hsz:(w.drew.freeze ⟨g,0,none⟩ (ofI bs).length).heap.size=w.heap.size:=by
  unfold World.freeze
  split
  ·rfl
  ·simp
 have hin:=hI.inPlace (w':=w.drew.freeze ⟨g,0,none⟩ (ofI bs).length) (o':=.dead) hn2 (b:=g) (by simp[Owns,e1]) (fun _ h=>h.elim) hsz (by unfold World.freeze;split<;>rfl) (by unfold World.freeze;split<;>rfl) (by unfold World.freeze;split<;>rfl) hfr (fun _=>trivial)
 exact ⟨_,_,_,_,⟨rfl,rfl⟩,hin.1,.str _ (by show (ofI bs).length≤140737488355328;omega),hin.2⟩
theorem jP (a b:List UInt8):aY (a++b)=List.append (α:=Int) (aY a) (aY b):=by simp[aY]
theorem tS (p w r t:List UInt8):List.append (α:=Int) (List.append (α:=Int) (aY (p++w)) (aY r)) (aY t)=aY (p++(w++(r++t))):=by
 rw[← jP,← jP]
 simp only[List.append_assoc]
theorem aFc (p w t:List UInt8):List.append (α:=Int) (aY (p++w)) (aY t)=aY (p++(w++([]++t))):=by
 rw[← jP,List.append_assoc,List.nil_append]
def wrA:Nat→SV
 | 0=>.val (.pointer none)
 | _+1=>.ptr 1 0
theorem aJk {x:Int} (h:0≤x∧x<1000000000):(itoa x).length≤9:=by
 unfold itoa
 rw[if_neg (by omega)]
 exact fH 8 _ (by omega)
theorem aPk {x:Int}:0<(itoa x).length:=by
 cases h:itoa x with
 | nil=>exact absurd h (by unfold itoa;split<;>simp[aCh])
 | cons=>simp
theorem aJl (a:List Int) (m:Nat):0<(wrK a (m+1)).length:=by
 have:=aPk (x:=a.getD (a.length-1-m) 0)
 show 0<(wrK a m++((if 0<m then List.replicate (9-(itoa (a.getD (a.length-1-m) 0)).length) 48 else [])++itoa (a.getD (a.length-1-m) 0))).length
 simp only[List.length_append];omega
theorem uI {a:List Int} (h:InB B9 a):∀i,(wrK a i).length≤9*i
 | 0=>Nat.le_refl _
 | i+1=>by
  have h1:=uI h i
  have h2:=aJk (get9 h (a.length-1-i))
  show (wrK a i++((if 0<i then List.replicate (9-(itoa (a.getD (a.length-1-i) 0)).length) 48 else [])++itoa (a.getD (a.length-1-i) 0))).length≤9*(i+1)
  by_cases h0:0<i
  ·rw[if_pos h0];simp only[List.length_append,List.length_replicate];omega
  ·rw[if_neg h0];simp only[List.length_append,List.length_nil];omega
theorem b128 (p:Prop) (hp:Decidable p) (a:List Int) (h:InB B9 a∧a.length≤200):body Tryz.prog [c157,c158,c160,c61,c159,c135,c166] { asks:=[(0,[2])] } true Tryz.f241 [.agg [.bl p hp,Ls a]] (S (if a= [] then [48] else (if p then [45] else [])++wrK a a.length)):=by
 (repeat'((conv=>whnf);first|refine Zg fun _=>?_|fail))
 (refine Br.mk (fun _=>?_) (fun _=>?_))
 ·rename_i hz
  have e:a= []:=List.eq_nil_of_length_eq_zero (by omega)
  (conv=>whnf)
  rw[if_pos e]
 ·rename_i hz
  refine Own.r ?_
  (conv=>whnf)
  refine ⟨1,.int .u8,5,?_⟩
  (refine Br.mk (fun _=>?_) (fun _=>?_))
  ·rename_i hp'
   (conv=>whnf)
   refine Need.mk ⟨.inl rfl,rfl,rfl,rfl,Nat.zero_le _⟩ ?_
   (conv=>whnf)
   refine Ask.mk ⟨{ X:=Nat,pre:=fun i=>i≤a.length,mod:=fun i _=>[],heap:=fun i H=>[hget H 0,.cells [.ptr 1 0,.ref 2 1] 292,.vec 1 (.int .u8) (aY ([45]++wrK a i)) 5],mu:=fun i=>i,objs:=[2] },rfl,?_⟩
   (repeat' first|refine ZN ?_|fail)
   refine ⟨⟨(0:Nat),rfl,Nat.zero_le _,?_⟩,fun (i:Nat) hi (hlt:i<a.length)=>?_,fun (i:Nat) hi (he:i=a.length)=>?_⟩
   ·(repeat' first|exact trivial|rfl|exact Nat.one_pos|refine And.intro ?_ ?_)
   ·have hx:=aJk (get9 h.1 (a.length-1-i))
    have hb:([45]++wrK a i).length≤1+9*i:=by have:=uI h.1 i;simp only[List.length_append,List.length_cons,List.length_nil];omega
    rw[← bH] at hb
    have h2:=h.2
    have hst:wrK a (i+1)=wrK a i++((if 0<i then List.replicate (9-(itoa (a.getD (a.length-1-i) 0)).length) 48 else [])++itoa (a.getD (a.length-1-i) 0)):=rfl
    show hnfL (itB a i) _
    (repeat' first|refine ZG ?_|refine Zg fun _=>?_)
    (refine Br.mk (fun _=>?_) (fun _=>?_))
    ·rw[if_pos (by omega)] at hst
     (repeat' first|refine ZG ?_|refine Zg fun _=>?_)
     refine Need.mk ⟨.inr rfl,rfl,.inl rfl,rfl,rfl,rfl,?_⟩ ?_
     ·show _+(List.replicate (9-((itoa (a.getD (a.length-1-i) 0)).length:Int)).toNat 48).length≤1000000
      rw[List.length_replicate];omega
     refine Need.mk ⟨.inr rfl,rfl,.inr rfl,rfl,rfl,rfl,?_⟩ ?_
     ·show (List.append (α:=Int) _ (aY (List.replicate (9-((itoa (a.getD (a.length-1-i) 0)).length:Int)).toNat 48))).length+ _≤1000000
      show (_++ _:List Int).length+ _≤ _
      rw[List.length_append,bH (List.replicate _ _),List.length_replicate];omega
     refine ⟨(i+1:Nat),rfl,hlt,?_⟩
     (repeat' first|exact trivial|rfl|exact Nat.one_pos|refine And.intro ?_ ?_)
     rw[hst,show (9-((itoa (a.getD (a.length-1-i) 0)).length:Int)).toNat=9-(itoa (a.getD (a.length-1-i) 0)).length by omega]
     exact tS [45] _ _ _
    ·rw[if_neg (by omega)] at hst
     refine Need.mk ⟨.inr rfl,rfl,.inl rfl,rfl,rfl,rfl,by omega⟩ ?_
     refine ⟨(i+1:Nat),rfl,hlt,?_⟩
     (repeat' first|exact trivial|rfl|exact Nat.one_pos|refine And.intro ?_ ?_)
     rw[hst]
     exact aFc [45] _ _
   ·subst he
    have hpos:0<(aY ([45]++wrK a a.length)).length:=by
     rw[bH]
     obtain ⟨m,hm⟩:∃m,a.length=m+1:=⟨a.length-1,by omega⟩
     have:=aJl a m
     rw[hm,List.length_append];omega
    refine Need.mk ⟨.inr rfl,rfl,rfl,rfl,hpos,by show (1:Nat)≠2;decide⟩ ?_
    (conv=>whnf)
    rw[if_neg (by intro e;rw[e] at hz;exact hz rfl),if_pos hp',yC]
  ·rename_i hp'
   refine Ask.mk ⟨{ X:=Nat,pre:=fun i=>i≤a.length,mod:=fun i _=>[],heap:=fun i H=>[hget H 0,.cells [wrA i,.ref 2 1] 292,.vec 1 (.int .u8) (aY ([]++wrK a i)) 5],mu:=fun i=>i,objs:=[2] },rfl,?_⟩
   (repeat' first|refine ZN ?_|fail)
   refine ⟨⟨(0:Nat),rfl,Nat.zero_le _,?_⟩,fun (i:Nat) hi (hlt:i<a.length)=>?_,fun (i:Nat) hi (he:i=a.length)=>?_⟩
   ·(repeat' first|exact trivial|rfl|exact Nat.one_pos|refine And.intro ?_ ?_)
   ·have h2:=h.2
    rcases i with _ | k
    ·have hx:=aJk (get9 h.1 (a.length-1-(0)))
     have hb:([]++wrK a (0)).length≤1+9*(0):=by have:=uI h.1 (0);simp only[List.length_append,List.length_nil];omega
     rw[← bH] at hb
     have hst:wrK a (0+1)=wrK a (0)++((if 0<(0) then List.replicate (9-(itoa (a.getD (a.length-1-(0)) 0)).length) 48 else [])++itoa (a.getD (a.length-1-(0)) 0)):=rfl
     show hnfL (itB a (0)) _
     (repeat' first|refine ZG ?_|refine Zg fun _=>?_)
     (refine Br.mk (fun _=>?_) (fun _=>?_))
     ·exfalso;omega
     ·rw[if_neg (by omega)] at hst
      refine Need.mk ⟨.inl rfl,rfl,.inl rfl,rfl,rfl,rfl,by omega⟩ ?_
      refine ⟨(0+1:Nat),rfl,hlt,?_⟩
      (repeat' first|exact trivial|rfl|exact Nat.one_pos|refine And.intro ?_ ?_)
    ·have hx:=aJk (get9 h.1 (a.length-1-(k+1)))
     have hb:([]++wrK a (k+1)).length≤1+9*(k+1):=by have:=uI h.1 (k+1);simp only[List.length_append,List.length_nil];omega
     rw[← bH] at hb
     have hst:wrK a (k+1+1)=wrK a (k+1)++((if 0<(k+1) then List.replicate (9-(itoa (a.getD (a.length-1-(k+1)) 0)).length) 48 else [])++itoa (a.getD (a.length-1-(k+1)) 0)):=rfl
     show hnfL (itB a (k+1)) _
     (repeat' first|refine ZG ?_|refine Zg fun _=>?_)
     (refine Br.mk (fun _=>?_) (fun _=>?_))
     ·rw[if_pos (by omega)] at hst
      (repeat' first|refine ZG ?_|refine Zg fun _=>?_)
      refine Need.mk ⟨.inr rfl,rfl,.inl rfl,rfl,rfl,rfl,?_⟩ ?_
      ·show _+(List.replicate (9-((itoa (a.getD (a.length-1-(k+1)) 0)).length:Int)).toNat 48).length≤1000000
       rw[List.length_replicate];omega
      refine Need.mk ⟨.inr rfl,rfl,.inr rfl,rfl,rfl,rfl,?_⟩ ?_
      ·show (List.append (α:=Int) _ (aY (List.replicate (9-((itoa (a.getD (a.length-1-(k+1)) 0)).length:Int)).toNat 48))).length+ _≤1000000
       show (_++ _:List Int).length+ _≤ _
       rw[List.length_append,bH (List.replicate _ _),List.length_replicate];omega
      refine ⟨(k+1+1:Nat),rfl,hlt,?_⟩
      (repeat' first|exact trivial|rfl|exact Nat.one_pos|refine And.intro ?_ ?_)
      rw[hst,show (9-((itoa (a.getD (a.length-1-(k+1)) 0)).length:Int)).toNat=9-(itoa (a.getD (a.length-1-(k+1)) 0)).length by omega]
      exact tS [] _ _ _
     ·exfalso;omega
   ·obtain ⟨m,rfl⟩:∃m,i=m+1:=⟨i-1,by omega⟩
    have hpos:0<(aY ([]++wrK a (m+1))).length:=by
     rw[bH]
     exact aJl a m
    refine Need.mk ⟨.inr rfl,rfl,rfl,rfl,hpos,by show (1:Nat)≠2;decide⟩ ?_
    (conv=>whnf)
    rw[if_neg (by intro e;rw[e] at hz;exact hz rfl),if_neg hp',yC,he]
def tT (a:List Int):Prop:=a=aH B9 (valB B9 a).toNat∧a.length≤200
theorem cL {m:Nat} (h:m<B9^200):tT (aH B9 m):=by
 refine ⟨by rw[dL (by decide),Int.toNat_natCast],?_⟩
 rcases Nat.eq_zero_or_pos m with rfl | hm
 ·rw[bP];exact Nat.zero_le _
 ·obtain ⟨h1,_,h3⟩:=eD (B:=B9) (by decide) hm
  have h1:B9^ ((aH B9 m).length-1)≤m:=by exact_mod_cast h1
  have:=(Nat.pow_lt_pow_iff_right (show 1<B9 by decide)).1 (Nat.lt_of_le_of_lt h1 h)
  omega
theorem aFd {a:List Int} (h:tT a):InB B9 a:=by rw[h.1];exact bI (by decide) _
def sgP (p:Prop) [Decidable p] (n:Int):Int:=if p then -n else n
theorem aPl (p:Prop) [hp:Decidable p] {a:List Int} (h:tT a):(if a= [] then [48] else (if p then [45] else [])++wrK a a.length)=itoa (sgP p (valB B9 a)):=by
 have hz:=dL (B:=B9) (by decide) (valB B9 a).toNat
 rw[← h.1] at hz
 by_cases e:a= []
 ·rw[if_pos e]
  subst e
  have:sgP p (valB B9 [])=0:=by unfold sgP;split<;>rfl
  rw[this]
  unfold itoa
  rw[if_neg (by omega)]
  exact (cE (show 0<10 by omega)).symm
 ·rw[if_neg e]
  have hl:a.getLast e≠0:=by
   have:=pF (B:=B9) (by decide) (valB B9 a).toNat
   rw[← h.1] at this
   exact this e
  obtain ⟨m,hm⟩:∃m,a.length=m+1:=⟨a.length-1,by have:=List.length_pos_iff.2 e;omega⟩
  obtain ⟨h1,h2⟩:=aEv (show InB (10^9) a from aFd h) e hl m (by omega)
  have e9:(10:Nat)^9=B9:=by decide
  rw[show a.length-1-m=0 by omega,List.drop_zero,e9] at h1 h2
  rw[hm,h2]
  have h3:=aSb (decide p) (valB B9 a).toNat
  unfold wrM at h3
  rw[if_neg (by omega)] at h3
  have h4:sgn (decide p) (valB B9 a).toNat=sgP p (valB B9 a):=by
   unfold sgn sgP
   by_cases hq:p
   ·rw[if_pos (by simp[hq]),if_pos hq];omega
   ·rw[if_neg (by simp[hq]),if_neg hq];omega
  rw[← h4,← h3]
  by_cases hq:p
  ·rw[if_pos hq,if_pos (by simp[hq])];rfl
  ·rw[if_neg hq,if_neg (by simp[hq])];rfl
def c128:Con:=aI 241 true fun args K=>match args with
 | [.agg [.bl p hp,.seq (.int .i64) a]]=>Need (tT a) (K (S (itoa (@sgP p hp (valB B9 a)))))
 | _=>False
theorem k128:aG Tryz.prog c128:=by
 refine aB rfl (enters_of Tryz.func241 (by kernel_rfl) rfl) ?_
 intro args K h
 simp only[c128] at h
 split at h
 ·rename_i p hp a
  refine ⟨_,h.go,?_⟩
  rw[← aPl p h.ok]
  exact aA (by simp[k157,k158,k160,k61,k159,k135,k166]) Tryz.func241 (by simp[Tryz.ntmps241]) rfl (b128 p hp a ⟨aFd h.ok,h.ok.2⟩)
 ·exact h.elim
def resI (n:Int):List UInt8 × Int:=if lim n then ([],4) else (itoa n,0)
theorem b96 (p:Prop) (hp:Decidable p) (a:List Int) (h:tT a):body Tryz.prog [c128,c88] {} true Tryz.f191 [.agg [.bl p hp,Ls a]] (.tup [S (resI (sgP p (valB B9 a))).1,I (resI (sgP p (valB B9 a))).2]):=by
 have ht:=congrArg List.length (bS (sgP p (valB B9 a)))
 unfold resI lim
 (repeat' first|refine ZG ?_|refine Zg fun _=>?_)
 (refine Br.mk (fun _=>?_) (fun _=>?_))
 ·rename_i hg
  rw[if_pos (by simp;omega)]
  (conv=>whnf)
  (repeat' first|exact trivial|rfl|refine And.intro ?_ ?_)
 ·rename_i hg
  rw[if_neg (by simp;omega)]
  (conv=>whnf)
  (repeat' first|exact trivial|rfl|refine And.intro ?_ ?_)
def c96:Con:=aI 191 true fun args K=>match args with
 | [.agg [.bl p hp,.seq (.int .i64) a]]=>Need (tT a) (K (.tup [S (resI (@sgP p hp (valB B9 a))).1,I (resI (@sgP p hp (valB B9 a))).2]))
 | _=>False
theorem k96:aG Tryz.prog c96:=by
 refine aB rfl (enters_of Tryz.func191 (by kernel_rfl) rfl) ?_
 intro args K h
 simp only[c96] at h
 split at h
 ·rename_i p hp a
  exact ⟨_,h.go,aA (by simp[k128,k88]) Tryz.func191 (by simp[Tryz.ntmps191]) rfl (b96 p hp a h.ok)⟩
 ·exact h.elim
def addP (p:Prop) (m:Nat) (q:Prop) (n:Nat):Prop:=(((p↔q)∨n≤m)∧p)∨(¬((p↔q)∨n≤m)∧q)
instance (p:Prop) [Decidable p] (m:Nat) (q:Prop) [Decidable q] (n:Nat):Decidable (addP p m q n):=by unfold addP;infer_instance
def addN (p:Prop) [Decidable p] (m:Nat) (q:Prop) [Decidable q] (n:Nat):Nat:=if p↔q then m+n else if n≤m then m-n else n-m
theorem aJm (p:Prop) [Decidable p] (m:Nat) (q:Prop) [Decidable q] (n:Nat):sgP (addP p m q n) (addN p m q n)=sgP p m+sgP q n:=by
 unfold sgP addP addN
 by_cases hp:p<;>by_cases hq:q<;>by_cases h:n≤m<;>simp[hp,hq,h]<;>omega
theorem aPm {p:Prop} [Decidable p] {m:Nat} {q:Prop} [Decidable q] {n:Nat} (hm:m<B9^100) (hn:n<B9^100):addN p m q n<B9^200:=by
 have h:B9^100+B9^100≤B9^200:=by
  rw[← Nat.two_mul]
  exact Nat.le_trans (Nat.mul_le_mul_right _ (show 2≤B9 by decide)) (by rw[← Nat.pow_succ'];exact Nat.pow_le_pow_right (by decide) (by omega))
 unfold addN
 split
 ·omega
 ·split<;>omega
theorem eK {m k:Nat} (h:m<B9^k):(aH B9 m).length≤k:=by
 rcases Nat.eq_zero_or_pos m with rfl | hm
 ·rw[bP];exact Nat.zero_le _
 ·obtain ⟨h1,_,h3⟩:=eD (B:=B9) (by decide) hm
  have h1:B9^ ((aH B9 m).length-1)≤m:=by exact_mod_cast h1
  have:=(Nat.pow_lt_pow_iff_right (show 1<B9 by decide)).1 (Nat.lt_of_le_of_lt h1 h)
  omega
theorem v9 (m:Nat):valB B9 (aH B9 m)=m:=dL (by decide) m
theorem b97 (p:Prop) (hp:Decidable p) (m:Nat) (q:Prop) (hq:Decidable q) (n:Nat) (hm:m<B9^100) (hn:n<B9^100):
  body Tryz.prog [c107,c129] {} false Tryz.f290 [.agg [.bl p hp,Ls (aH B9 m)],.agg [.bl q hq,Ls (aH B9 n)]] (.agg [.bl (addP p m q n) inferInstance,Ls (aH B9 (addN p m q n))]):=by
 have im:InB B9 (aH B9 m):=bI (by decide) m
 have jn:InB B9 (aH B9 n):=bI (by decide) n
 have lm:=eK hm
 have ln:=eK hn
 have hc:=xY m n
 have vm:=v9 m
 have vn:=v9 n
 (repeat' first|refine ZG ?_|fail)
 (refine Br.mk (fun _=>?_) (fun _=>?_))
 ·rename_i h
  have e1:p↔addP p m q n:=by unfold addP;simp[h]
  have e2:(valB B9 (aH B9 m)+valB B9 (aH B9 n)).toNat=addN p m q n:=by unfold addN;rw[if_pos h];omega
  (repeat'((conv=>whnf);first|(apply Pin.mk;apply Exists.intro)|apply Pinned.mk rfl rfl|fail))
  refine Need.mk ⟨im,jn,by omega,by omega⟩ ?_
  (repeat'((conv=>whnf);first|apply Pinned.mk rfl rfl|fail))
  (conv=>whnf)
  (repeat' first|exact trivial|refine And.intro ?_ ?_)
  ·exact e1
  ·skip
   exact congrArg (aH B9) e2
 ·rename_i h
  (conv=>whnf)
  refine Need.mk ⟨im,jn⟩ ?_
  (refine Br.mk (fun _=>?_) (fun _=>?_))
  ·rename_i hg
   have hle:n≤m:=by omega
   have e1:p↔addP p m q n:=by unfold addP;simp[hle]
   have e2:(valB B9 (aH B9 m)-valB B9 (aH B9 n)).toNat=addN p m q n:=by unfold addN;rw[if_neg h,if_pos hle];omega
   (repeat'((conv=>whnf);first|(apply Pin.mk;apply Exists.intro)|apply Pinned.mk rfl rfl|fail))
   refine Need.mk ⟨im,jn,by omega,by omega,by omega⟩ ?_
   (repeat'((conv=>whnf);first|apply Pinned.mk rfl rfl|fail))
   (conv=>whnf)
   (repeat' first|exact trivial|refine And.intro ?_ ?_)
   ·exact e1
   ·(conv=>whnf)
    exact congrArg (aH B9) e2
  ·rename_i hg
   have hle:¬n≤m:=by omega
   have e1:q↔addP p m q n:=by unfold addP;simp[hle,h]
   have e2:(valB B9 (aH B9 n)-valB B9 (aH B9 m)).toNat=addN p m q n:=by unfold addN;rw[if_neg h,if_neg hle];omega
   (repeat'((conv=>whnf);first|(apply Pin.mk;apply Exists.intro)|apply Pinned.mk rfl rfl|fail))
   refine Need.mk ⟨jn,im,by omega,by omega,by omega⟩ ?_
   (repeat'((conv=>whnf);first|apply Pinned.mk rfl rfl|fail))
   (conv=>whnf)
   (repeat' first|exact trivial|refine And.intro ?_ ?_)
   ·exact e1
   ·(conv=>whnf)
    exact congrArg (aH B9) e2
def pK (a:List Int):Prop:=a=aH B9 (valB B9 a).toNat∧(valB B9 a).toNat<B9^100
def c97:Con:=aI 290 false fun args K=>match args with
 | [.agg [.bl p hp,.seq (.int .i64) a],.agg [.bl q hq,.seq (.int .i64) b]]=>Need (pK a∧pK b) (K (.agg [.bl (addP p (valB B9 a).toNat q (valB B9 b).toNat) inferInstance,Ls (aH B9 (@addN p hp (valB B9 a).toNat q hq (valB B9 b).toNat))]))
 | _=>False
theorem k97:aG Tryz.prog c97:=by
 refine aB rfl (enters_of Tryz.func290 (by kernel_rfl) rfl) ?_
 intro args K h
 simp only[c97] at h
 split at h
 ·rename_i p hp a q hq b
  refine ⟨_,h.go,?_⟩
  obtain ⟨⟨ha,hm⟩,hb,hn⟩:=h.ok
  have ht:=aA (by simp[k107,k129]) Tryz.func290 (by simp[Tryz.ntmps290]) rfl (b97 p hp (valB B9 a).toNat q hq (valB B9 b).toNat hm hn)
  rw[← ha,← hb] at ht
  exact ht
 ·exact h.elim
theorem aQ5 {l k:Nat} (h:l≤9*k):(10:Nat)^l≤B9^k:=by
 have e9:(10:Nat)^9=B9:=by decide
 rw[← e9,← Nat.pow_mul]
 exact Nat.pow_le_pow_right (by omega) h
theorem gC {s:List UInt8} (h:form s) (hl:(digs s).length≤300):aM (digs s)<B9^34:=
 Nat.lt_of_lt_of_le (iT (digs s) h.2.2) (aQ5 (by omega))
theorem gY {s:List UInt8}:valI s=sgP (s.headD 0=45) (aM (digs s):Nat):=by
 unfold valI sgP digs
 split
 ·rfl
 ·rfl
theorem bE {s:List UInt8} (h:form s) (hl:(digs s).length≤300):pK (aH B9 (aM (digs s))):=by
 refine ⟨by rw[v9,Int.toNat_natCast],?_⟩
 rw[v9,Int.toNat_natCast]
 exact Nat.lt_of_lt_of_le (gC h hl) (Nat.pow_le_pow_right (by decide) (by omega))
noncomputable def dH (a b:List UInt8) (r:List UInt8 × Int):List UInt8 × Int:=if chk2 a b≠0 then ([],chk2 a b) else r
theorem iH {a b:List UInt8} (h:¬chk2 a b≠0):chkI a=0∧chkI b=0:=by
 unfold chk2 at h
 split at h
 ·rename_i h1;exact absurd h1 h
 ·rename_i h1;exact ⟨Classical.not_not.1 h1,Classical.not_not.1 h⟩
theorem gD {n:Int} (h:n.natAbs<10^40):resI n=(itoa n,0):=by
 unfold resI lim
 rw[if_neg]
 have:=fH 39 n.natAbs h
 simp;omega
theorem aS1 (a b:List UInt8):sgP (addP (a.headD 0=45) (valB B9 (aH B9 (aM (digs a)))).toNat (b.headD 0=45) (valB B9 (aH B9 (aM (digs b)))).toNat) (valB B9 (aH B9 (addN (a.headD 0=45) (valB B9 (aH B9 (aM (digs a)))).toNat (b.headD 0=45) (valB B9 (aH B9 (aM (digs b)))).toNat)))=valI a+valI b:=by
 simp only[v9,Int.toNat_natCast,aJm,gY]
theorem b55 (a b:List UInt8):body Tryz.prog [c94,c95,c61,c98,c97,c96] {} true Tryz.f253 [S a,S b] (.tup [S (dH a b (resI (valI a+valI b))).1,I (dH a b (resI (valI a+valI b))).2]):=by
 unfold dH
 (refine Br.mk (fun _=>?_) (fun _=>?_))
 ·rename_i h
  rw[if_pos h]
  (conv=>whnf)
  (repeat' first|exact trivial|rfl|refine And.intro ?_ ?_)
 ·rename_i h
  rw[if_neg h]
  obtain ⟨ha,hb⟩:=iH h
  obtain ⟨fa,la⟩:=cS ha
  obtain ⟨fb,lb⟩:=cS hb
  refine Need.mk ⟨rfl,fa,fb⟩ ?_
  (refine Br.mk (fun _=>?_) (fun _=>?_))
  ·rename_i hs
   have h1:=dN fa hs.1
   have h2:=dN fb hs.2
   rw[gD (by omega)]
   (repeat' first|refine ZG ?_|fail)
   (conv=>whnf)
   (repeat' first|exact trivial|rfl|refine And.intro ?_ ?_)
  ·rename_i hs
   have hv:=aS1 a b
   refine Need.mk ⟨fa,by omega⟩ ?_
   refine Need.mk ⟨fb,by omega⟩ ?_
   refine Need.mk ⟨bE fa la,bE fb lb⟩ ?_
   refine Need.mk (cL (aPm (bE fa la).2 (bE fb lb).2)) ?_
   (conv=>whnf)
   (repeat' first|exact trivial|rfl|refine And.intro ?_ ?_)
   ·exact congrArg (fun z=>(resI z).1) hv
   ·exact congrArg (fun z=>(resI z).2) hv
theorem aQ6 (p:Prop) [Decidable p] (n:Int):sgP (¬p) n= -sgP p n:=by unfold sgP;by_cases h:p<;>simp[h]
theorem aPn (a b:List UInt8):sgP (addP (a.headD 0=45) (valB B9 (aH B9 (aM (digs a)))).toNat (¬b.headD 0=45) (valB B9 (aH B9 (aM (digs b)))).toNat) (valB B9 (aH B9 (addN (a.headD 0=45) (valB B9 (aH B9 (aM (digs a)))).toNat (¬b.headD 0=45) (valB B9 (aH B9 (aM (digs b)))).toNat)))=valI a-valI b:=by
 simp only[v9,Int.toNat_natCast,aJm,gY,aQ6]
 omega
theorem b60 (a b:List UInt8):body Tryz.prog [c94,c95,c61,c98,c97,c96] {} true Tryz.f244 [S a,S b] (.tup [S (dH a b (resI (valI a-valI b))).1,I (dH a b (resI (valI a-valI b))).2]):=by
 unfold dH
 (refine Br.mk (fun _=>?_) (fun _=>?_))
 ·rename_i h
  rw[if_pos h]
  (conv=>whnf)
  (repeat' first|exact trivial|rfl|refine And.intro ?_ ?_)
 ·rename_i h
  rw[if_neg h]
  obtain ⟨ha,hb⟩:=iH h
  obtain ⟨fa,la⟩:=cS ha
  obtain ⟨fb,lb⟩:=cS hb
  refine Need.mk ⟨rfl,fa,fb⟩ ?_
  (refine Br.mk (fun _=>?_) (fun _=>?_))
  ·rename_i hs
   have h1:=dN fa hs.1
   have h2:=dN fb hs.2
   rw[gD (by omega)]
   (repeat' first|refine ZG ?_|fail)
   (conv=>whnf)
   (repeat' first|exact trivial|rfl|refine And.intro ?_ ?_)
  ·rename_i hs
   have hv:=aPn a b
   refine Need.mk ⟨fb,by omega⟩ ?_
   (repeat'((conv=>whnf);first|(apply Pin.mk;apply Exists.intro)|apply Pinned.mk rfl rfl|refine Zl ?_|fail))
   refine Need.mk ⟨fa,by omega⟩ ?_
   (repeat'((conv=>whnf);first|(apply Pin.mk;apply Exists.intro)|apply Pinned.mk rfl rfl|fail))
   refine Need.mk ⟨bE fa la,bE fb lb⟩ ?_
   (repeat'((conv=>whnf);first|(apply Pin.mk;apply Exists.intro)|apply Pinned.mk rfl rfl|fail))
   refine Need.mk (cL (aPm (bE fa la).2 (bE fb lb).2)) ?_
   (repeat'((conv=>whnf);first|(apply Pin.mk;apply Exists.intro)|apply Pinned.mk rfl rfl|fail))
   (conv=>whnf)
   (repeat' first|exact trivial|rfl|refine And.intro ?_ ?_)
   ·exact congrArg (fun z=>(resI z).1) hv
   ·exact congrArg (fun z=>(resI z).2) hv
theorem aE6 {P:Program} {f:FuncId} {args:List SV} {t:Ty} {ys:List t.T} {e:TypeId} (h2:t.flat=true) (h:OTri P f args (.ref 0 1) t ys e):Tri P true f args (.seq t ys):=by
 intro ok w vs hg hok hr
 refine (h ok w vs hg hok hr).mono ?_
 rintro en w' ⟨v,L',rfl,hb,hL,⟨hlen,hmax,us,hown,hel⟩,hrel⟩
 refine ⟨v,rfl,hb,?_⟩
 cases hrel with
 | ref _ _ _ hn h0 hk hv=>
 have:=hv rfl
 subst this
 refine .seq t ys _ ?_
 rcases aN hown with ⟨e1,e2,e3,e4⟩ | ⟨g,cur,e1,e2,e3,e4,e5,e6,e7⟩
 ·exact ⟨none,0,0,by simp[Core.head,envO,e1,e2,e3],by omega,Nat.le_refl _,Nat.zero_le _,fun h=>absurd h (Nat.lt_irrefl _)⟩
 ·have hg1:w.heap.size≤g:=hL g (by simp[e1])
  have hg2:g<w'.heap.size:=(Array.getElem?_eq_some_iff.1 e3).1
  refine ⟨some ⟨g,0,none⟩,L'.len,L'.cap,by simp[Core.head,envO,e1],hlen,e4,hmax,fun h0=>⟨g,0,rfl,.inr ⟨hg1,hg2⟩,fun i hi=>⟨_,(hel i hi).length,?_,(hel i hi).flat h2⟩⟩⟩
  intro j v hj
  rw[List.getElem?_take] at hj
  split at hj
  ·rw[List.getElem?_drop,← e7,List.getElem?_take] at hj
   split at hj
   ·simp only[env0,World.cell?,e3]
    simpa using hj
   ·cases hj
  ·cases hj
def c99f:Con:=aI 236 true fun args K=>match args with
 | [.seq (.int .i64) a,.seq (.int .i64) b]=>Need (InB B9 a∧InB B9 b∧a.length≤100000∧b.length≤100000) (K (Ls (aH B9 (valB B9 a*valB B9 b).toNat)))
 | _=>False
theorem k99f:aG Tryz.prog c99f:=by
 refine aB rfl (enters_of Tryz.func236 (by kernel_rfl) rfl) ?_
 intro args K h
 simp only[c99f] at h
 split at h
 ·rename_i a b
  exact ⟨_,h.go,aE6 rfl (qP (by simp[k132,k131]) Tryz.func236 (by simp[Tryz.ntmps236]) rfl (b99 a b h.ok))⟩
 ·exact h.elim
theorem aQr (p q:Prop) [Decidable p] [Decidable q] (m n:Int):sgP (¬(p↔q)) (m*n)=sgP p m*sgP q n:=by
 unfold sgP
 by_cases hp:p<;>by_cases hq:q<;>simp[hp,hq,Int.neg_mul,Int.mul_neg]
theorem aJe {s:List UInt8} (h:form s):(valI s).natAbs<10^s.length:=by
 obtain ⟨h1,h2,h3⟩:=h
 have hb:=iT (digs s) h3
 have hp:(10:Nat)^ (digs s).length≤10^s.length:=Nat.pow_le_pow_right (by omega) (yA s).1
 have hv:valI s=aM (digs s)∨valI s= -(aM (digs s):Int):=by
  unfold valI digs
  split
  ·exact .inr rfl
  ·exact .inl rfl
 omega
theorem aKr {a b:List UInt8} (ha:form a) (hb:form b) (h:a.length+b.length≤18):(valI a*valI b).natAbs<1000000000000000000:=by
 have h1:=aJe ha
 have h2:=aJe hb
 rw[Int.natAbs_mul]
 have h3:(valI a).natAbs*(valI b).natAbs<10^a.length*10^b.length:=Nat.mul_lt_mul'' h1 h2
 rw[← Nat.pow_add] at h3
 exact Nat.lt_of_lt_of_le h3 (Nat.le_trans (Nat.pow_le_pow_right (by omega) h) (by decide))
theorem aSm (a b:List UInt8) (m:Nat) (hd:Decidable (¬(a.headD 0=45↔b.headD 0=45))) (hm:m=(valB B9 (aH B9 (aM (digs a)))*valB B9 (aH B9 (aM (digs b)))).toNat):sgP (¬(a.headD 0=45↔b.headD 0=45)) (valB B9 (aH B9 m))=valI a*valI b:=by
 subst hm
 have:hd=instDecidableNot:=Subsingleton.elim _ _
 subst this
 rw[v9,v9,v9,← Int.natCast_mul,Int.toNat_natCast,Int.natCast_mul,aQr,gY,gY]
theorem aKs {a b:List UInt8} (fa:form a) (la:(digs a).length≤300) (fb:form b) (lb:(digs b).length≤300):tT (aH B9 (valB B9 (aH B9 (aM (digs a)))*valB B9 (aH B9 (aM (digs b)))).toNat):=by
 refine cL ?_
 rw[v9,v9,← Int.natCast_mul,Int.toNat_natCast]
 have h3:=Nat.mul_lt_mul'' (gC fa la) (gC fb lb)
 rw[← Nat.pow_add] at h3
 exact Nat.lt_of_lt_of_le h3 (Nat.pow_le_pow_right (by decide) (by omega))
theorem b58 (a b:List UInt8):body Tryz.prog [c94,c95,c61,c98,c99f,c96] {} true Tryz.f247 [S a,S b] (.tup [S (dH a b (resI (valI a*valI b))).1,I (dH a b (resI (valI a*valI b))).2]):=by
 unfold dH
 (refine Br.mk (fun _=>?_) (fun _=>?_))
 ·rename_i h
  rw[if_pos h]
  (conv=>whnf)
  (repeat' first|exact trivial|rfl|refine And.intro ?_ ?_)
 ·rename_i h
  rw[if_neg h]
  obtain ⟨ha,hb⟩:=iH h
  obtain ⟨fa,la⟩:=cS ha
  obtain ⟨fb,lb⟩:=cS hb
  (repeat' first|refine ZG ?_|refine Zg fun _=>?_)
  (refine Br.mk (fun _=>?_) (fun _=>?_))
  ·rename_i hs
   have hm:=aKr fa fb (by omega)
   refine Need.mk ⟨rfl,fa,fb⟩ ?_
   refine Br.mk (fun _=>?_) (fun hn=>absurd (show a.length≤18∧b.length≤18 by omega) hn)
   rw[gD (by omega)]
   (repeat' first|refine ZG ?_|fail)
   (conv=>whnf)
   (repeat' first|exact trivial|rfl|refine And.intro ?_ ?_)
  ·rename_i hs
   have hv:=fun hd=>aSm a b _ hd rfl
   refine Need.mk ⟨fa,by omega⟩ ?_
   refine Need.mk ⟨fb,by omega⟩ ?_
   have l1:=eK (gC fa la)
   have l2:=eK (gC fb lb)
   (repeat'((conv=>whnf);first|(apply Pin.mk;apply Exists.intro)|apply Pinned.mk rfl rfl|refine Zl ?_|fail))
   refine Need.mk ⟨bI (by decide) _,bI (by decide) _,by omega,by omega⟩ ?_
   (repeat'((conv=>whnf);first|(apply Pin.mk;apply Exists.intro)|apply Pinned.mk rfl rfl|fail))
   refine Need.mk (aKs fa la fb lb) ?_
   (repeat'((conv=>whnf);first|(apply Pin.mk;apply Exists.intro)|apply Pinned.mk rfl rfl|fail))
   (conv=>whnf)
   (repeat' first|exact trivial|rfl|refine And.intro ?_ ?_)
   ·exact congrArg (fun z=>(resI z).1) (hv _)
   ·exact congrArg (fun z=>(resI z).2) (hv _)
def cmpI (x y:Int):Int:=if x<y then -1 else if x=y then 0 else 1
theorem b119 (x:Int):body Tryz.prog [] {} true Tryz.f99 [I x] (.val (.bool false)):=by
 (conv=>whnf)
 exact ⟨fun h=>absurd rfl h,fun h=>by cases h⟩
def c119:Con:=aI 99 true fun args K=>match args with | [.val (.int .i64 x)]=>K (.val (.bool false)) | _=>False
theorem k119:aG Tryz.prog c119:=by
 refine aB rfl (enters_of Tryz.func99 (by kernel_rfl) rfl) ?_
 intro args K h
 simp only[c119] at h
 split at h
 ·rename_i x;exact ⟨_,h,aA (by simp) Tryz.func99 (by simp[Tryz.ntmps99]) rfl (b119 x)⟩
 ·exact h.elim
theorem b76 (x y:Int):body Tryz.prog [c119] {} true Tryz.f64 [I x,I y] (I (cmpI x y)):=by
 unfold cmpI
 (repeat'((conv=>whnf);first|refine Zr (fun _=>?_) fun _=>?_|fail))
 all_goals (skip;(conv=>whnf);(repeat' first|rfl|refine And.intro ?_ ?_))
 all_goals (repeat' split)
 all_goals omega
def c76:Con:=aI 64 true fun args K=>match args with | [.val (.int .i64 x),.val (.int .i64 y)]=>K (I (cmpI x y)) | _=>False
theorem k76:aG Tryz.prog c76:=by
 refine aB rfl (enters_of Tryz.func64 (by kernel_rfl) rfl) ?_
 intro args K h
 simp only[c76] at h
 split at h
 ·rename_i x y;exact ⟨_,h,aA (by simp[k119]) Tryz.func64 (by simp[Tryz.ntmps64]) rfl (b76 x y)⟩
 ·exact h.elim
noncomputable def aJf (a b:List UInt8) (r:Int):Int × Int:=if chk2 a b≠0 then (0,chk2 a b) else (r,0)
theorem aSn (p:Prop) [Decidable p] (n:Nat) (x y:Int) (hv:sgP p (valB B9 (aH B9 n))=x-y):cmpI x y=if ((aH B9 n).length:Int)=0 then 0 else if p then -1 else 1:=by
 rw[v9] at hv
 have h0:((aH B9 n).length:Int)=0↔n=0:=by
  rw[← iC (B:=B9) (by decide),← List.length_eq_zero_iff];omega
 unfold sgP at hv
 unfold cmpI
 by_cases hn:n=0
 ·rw[if_pos (h0.2 hn)]
  subst hn
  have:x-y=0:=by rw[← hv];split<;>rfl
  rw[if_neg (by omega),if_pos (by omega)]
 ·rw[if_neg (fun h=>hn (h0.1 h))]
  by_cases hp:p
  ·rw[if_pos hp] at hv ⊢
   rw[if_pos (by omega)]
  ·rw[if_neg hp] at hv ⊢
   rw[if_neg (by omega),if_neg (by omega)]
theorem b77 (a b:List UInt8):body Tryz.prog [c94,c95,c98,c97,c76] {} true Tryz.f294 [S a,S b] (.tup [I (aJf a b (cmpI (valI a) (valI b))).1,I (aJf a b (cmpI (valI a) (valI b))).2]):=by
 unfold aJf
 (refine Br.mk (fun _=>?_) (fun _=>?_))
 ·rename_i h
  rw[if_pos h]
  (conv=>whnf)
  (repeat' first|exact trivial|rfl|refine And.intro ?_ ?_)
 ·rename_i h
  rw[if_neg h]
  obtain ⟨ha,hb⟩:=iH h
  obtain ⟨fa,la⟩:=cS ha
  obtain ⟨fb,lb⟩:=cS hb
  refine Need.mk ⟨rfl,fa,fb⟩ ?_
  (refine Br.mk (fun _=>?_) (fun _=>?_))
  ·skip
   (conv=>whnf)
   (repeat' first|exact trivial|rfl|refine And.intro ?_ ?_)
  ·have hv:=aPn a b
   refine Need.mk ⟨fa,by omega⟩ ?_
   refine Need.mk ⟨fb,by omega⟩ ?_
   (repeat' first|refine ZG ?_|fail)
   refine Need.mk ⟨bE fa la,bE fb lb⟩ ?_
   have hc:=aSn _ _ _ _ hv
   (repeat' first|refine ZG ?_|refine Zg fun _=>?_)
   (refine Br.mk (fun _=>?_) (fun _=>?_))
   ·rename_i h0
    rw[if_pos h0] at hc
    (conv=>whnf)
    (repeat' first|exact trivial|rfl|refine And.intro ?_ ?_)
    exact hc.symm
   ·rename_i h0
    rw[if_neg h0] at hc
    (refine Br.mk (fun _=>?_) (fun _=>?_))
    ·rename_i h1
     rw[if_pos h1] at hc
     (conv=>whnf)
     (repeat' first|exact trivial|rfl|refine And.intro ?_ ?_)
     exact hc.symm
    ·rename_i h1
     rw[if_neg h1] at hc
     (conv=>whnf)
     (repeat' first|exact trivial|rfl|refine And.intro ?_ ?_)
     exact hc.symm
theorem w135 (a:Option Addr) (n c:Nat) (w:World):Calls Tryz.prog 237 #[.slice a n c] w fun e w'=>e= .returned (.func (.func 284) #[] #[.pointer (some ⟨w.heap.size,0,none⟩)])∧w'=w.alloc (.cells #[.slice a n c] 41):=by
 go_enter Tryz.func237,Tryz.ntmps237
 go_wp2
 go_ret
 exact ⟨rfl,rfl⟩
def aR0:Con:=uX 237 fun args H K=>match args with
 | [.ref nm k]=>(match hget H nm with
  | .vec j t xs e=>Need (j=k) <| K (.clo 284 [] [.lelem [.ref nm k] 0]) H
  | _=>False)
 | _=>False
theorem k135h:aG Tryz.prog aR0:=by
 refine nN (enters_of Tryz.func237 (by kernel_rfl) rfl) ?_
 intro args H K h
 split at h
 case h_2=>exact h.elim
 rename_i nm k
 split at h
 case h_2=>exact h.elim
 rename_i j t xs e ho
 obtain ⟨hjk,hK⟩:=h
 subst hjk
 refine ⟨fun s H'=>s= .clo 284 [] [.lelem [.ref nm j] 0]∧H'=H,fun s H' e=>by rw[e.1,e.2];exact hK,?_⟩
 intro G loc ver w vs hC hI hr
 cases hr with
 | cons _ v1 _ vs1 h1 hr=>
 cases hr
 obtain ⟨hv,_⟩:=gM hI h1 ho
 have hw:=w135 ((loc nm).blk.map fun p=>⟨p.1,p.2,none⟩) (loc nm).len (loc nm).cap w
 rw[show (Value.slice ((loc nm).blk.map fun p=>⟨p.1,p.2,none⟩) (loc nm).len (loc nm).cap)=v1 from hv.symm] at hw
 refine hw.mono ?_
 rintro en w' ⟨rfl,rfl⟩
 obtain ⟨hI',hx⟩:=hI.grow (w':=w.alloc (.cells #[v1] 41)) ((Below.refl _ _).alloc (Nat.le_refl _) _)
 refine ⟨_,rfl,_,_,_,_,⟨rfl,rfl⟩,hI',.clo _ _ _ _ _ .nil (.cons _ _ _ _ ?_ .nil),hx⟩
 refine .lelem _ 0 w.heap.size 0 [v1] (.cons _ _ _ _ (h1.ext hx) .nil) ?_ ?_
 ·refine ⟨.inr (.inr hI.size),by simp,?_⟩
  rintro ⟨k,o,hk,hb⟩
  have:=(hI.objs k _ hk).block (b:=w.heap.size) hb
  exact absurd this (by simp[envOf])
 ·intro i u hi
  cases i with
  | zero=>
   simp at hi;subst hi
   have:=cV w (.cells #[v1] 41)
   show (w.alloc (.cells #[v1] 41)).cell? ⟨w.heap.size,0+0,none⟩=some v1
   unfold World.cell?
   simp only[this]
   rfl
  | succ i=>simp at hi
abbrev itS (n k:Nat):List SV:=[I ((n-1-k:Nat)),.any]
theorem b166s (n:Nat):vP Tryz.prog [] { asks:=[(0,[])] } Tryz.f284 [.lelem [.sft none] 0] n (itS n):=by
 (repeat' first|refine ZG ?_|refine Zg fun _=>?_)
 refine Ask.mk ⟨{ X:=Nat,pre:=fun i=>i≤n,mod:=fun i _=>[(3,I ((n:Int)-1-i))],heap:=fun i _=>[.yst (some i) n (itS n)],mu:=fun i=>n-i },rfl,?_⟩
 (repeat' first|refine ZG ?_|fail)
 refine ⟨⟨(0:Nat),Nat.zero_le _,by (repeat' first|exact trivial|rfl|refine And.intro ?_ ?_|omega)⟩,fun (i:Nat) (hi:i≤n)=>?_⟩
 (refine Br.mk (fun _=>?_) (fun _=>?_))
 ·have hlt:i<n:=by omega
  have e:((n:Int)-1-i)=((n-1-i:Nat):Int):=by omega
  (repeat' first|refine ZG ?_|fail)
  refine cF (n-1-i) (by omega) ?_
  (repeat' first|refine ZG ?_|fail)
  refine Need.mk (by (repeat' first|exact trivial|rfl|refine And.intro ?_ ?_);exact e) ?_
  refine Two.mk ?_ ?_
  ·(repeat' first|refine ZG ?_|fail)
   refine ⟨(i+1:Nat),by show n-(i+1)<n-i;omega,hlt,?_⟩
   (repeat' first|exact trivial|rfl|refine And.intro ?_ ?_|omega)
  ·(conv=>whnf)
   trivial
 ·(conv=>whnf)
  omega
def aO4:Con:=aI 284 false fun args K=>match args with | [.lelem [.sft none] 0]=>∃n,K (.itr n (itS n)) | _=>False
theorem k166s:aG Tryz.prog aO4:=by
 refine aB rfl (enters_of Tryz.func284 (by kernel_rfl) rfl) ?_
 intro args K h
 simp only[aO4] at h
 split at h
 ·obtain ⟨n,hK⟩:=h
  exact ⟨_,hK,gV (by simp) Tryz.func284 (by simp[Tryz.ntmps284]) (b166s n)⟩
 ·exact h.elim
end RB
end
section
namespace IB
theorem aKh {B:Nat} (hB:2≤B) {w:List Int} (h:InB B w) {j k:Nat} (hk:2≤k) (hl:j+k<w.length) (hz:∀i,j+(k+1)≤i→w.getD i 0=0):
  valB B (w.drop j)<((w.getD (j+k) 0*B+w.getD (j+k-1) 0)*B+w.getD (j+k-2) 0+1)*(B:Int)^ (k-2):=by
 have e0:=fC (B:=B) (w.drop j) (k-2) (by rw[List.length_drop];omega)
 rw[List.drop_drop,show j+(k-2)=j+k-2 by omega] at e0
 have b0:=iV hB (lD (gW h j) (k-2)) (n:=k-2) (by rw[List.length_take];omega)
 rw[bL w (j+k-2) (by omega),show j+k-2+1=j+k-1 by omega,bL w (j+k-1) (by omega),show j+k-1+1=j+k by omega,bL w (j+k) hl] at e0
 have ez:valB B (w.drop (j+k+1))=0:=by
  have:w.drop (j+k+1)=List.replicate (w.length-(j+k+1)) 0:=by
   refine kI (by simp) fun i hi=>?_
   have:=hz (j+k+1+i) (by omega)
   rw[List.length_drop] at hi
   have hi':j+k+1+i<w.length:=by omega
   simpa [List.getD_eq_getElem?_getD,List.getElem?_drop,List.getElem?_replicate,hi,hi'] using this
  rw[this,kF]
 simp only[valB,ez,Int.mul_zero,Int.add_zero] at e0
 have hP:=dX hB (k-2)
 generalize (B:Int)^ (k-2)=P at*
 generalize w.getD (j+k) 0=x0 at*
 generalize w.getD (j+k-1) 0=x1 at*
 generalize w.getD (j+k-2) 0=x2 at*
 rw[e0,show ((x0*B+x1)*B+x2+1)*P=P*(x2+B*(x1+B*x0))+P by
  rw[Int.add_mul _ 1,Int.one_mul,Int.mul_comm _ P,Int.add_comm _ x2,Int.mul_comm _ (B:Int),Int.add_comm _ x1,Int.mul_comm x0]]
 omega
theorem aQg {B:Nat} (hB:2≤B) {v:List Int} (h:InB B v) (hk:2≤v.length):
  (v.getD (v.length-1) 0*B+v.getD (v.length-2) 0)*(B:Int)^ (v.length-2)≤valB B v:=by
 have e0:=fC (B:=B) v (v.length-2) (by omega)
 have b0:=bD (lD h (v.length-2))
 rw[bL v (v.length-2) (by omega),show v.length-2+1=v.length-1 by omega,bL v (v.length-1) (by omega),List.drop_eq_nil_of_le (by omega)] at e0
 simp only[valB,Int.mul_zero,Int.add_zero] at e0
 rw[Int.mul_comm,Int.add_comm (v.getD (v.length-1) 0*(B:Int)),Int.mul_comm (v.getD (v.length-1) 0)]
 omega
theorem aG1 {B:Nat} (hB:2≤B) {u v:List Int} (hu:InB B u) (hv:InB B v) (hV:0<valB B v) {m:Nat} (hm:m+v.length=u.length) (h0:valB B (u.drop m)<valB B v) (hk:2≤v.length) (hv1:0<v.getD (v.length-1) 0) (s:Nat) (hs:s<m) (f:Nat):
  (∀i,m-1-s+(v.length+1)≤i→(bQ B u v m s).1.getD i 0=0)∧
  0≤valB B ((bQ B u v m s).1.drop (m-1-s))/valB B v∧valB B ((bQ B u v m s).1.drop (m-1-s))/valB B v<B∧
  (∀top,top=(bQ B u v m s).1.getD (m-1-s+v.length) 0*B+(bQ B u v m s).1.getD (m-1-s+v.length-1) 0→
   valB B ((bQ B u v m s).1.drop (m-1-s))/valB B v≤estF B (v.getD (v.length-1) 0) (v.getD (v.length-2) 0) ((bQ B u v m s).1.getD (m-1-s+v.length-2) 0) f (top/v.getD (v.length-1) 0) (top%v.getD (v.length-1) 0)∧
   estF B (v.getD (v.length-1) 0) (v.getD (v.length-2) 0) ((bQ B u v m s).1.getD (m-1-s+v.length-2) 0) f (top/v.getD (v.length-1) 0) (top%v.getD (v.length-1) 0)≤top/v.getD (v.length-1) 0):=by
 obtain ⟨h1,h2,h3,h4,h5,h6⟩:=lE hB hu hv hV hm h0 s (by omega)
 obtain ⟨j,hj⟩:∃j,m-1-s=j:=⟨_,rfl⟩
 have e1:m-s=j+1:=by omega
 rw[hj]
 rw[e1] at h5
 generalize (bQ B u v m s).1=w at h1 h2 h5 ⊢
 have hw:valB B (w.drop j)=w.getD j 0+(B:Int)*valB B (w.drop (j+1)):=by rw[bL w j (by omega)];rfl
 have g1:=h2.get (show j<w.length by omega)
 have hVB:=jN hv
 have hz:∀i,j+(v.length+1)≤i→w.getD i 0=0:=fun i hi=>by
  have:=aAf hB (gW h2 (j+1)) (n:=v.length) (by omega) (i-(j+1)) (by omega)
  rw[qX] at this
  rwa [show j+1+(i-(j+1))=i by omega] at this
 have hW0:=bD (gW h2 j)
 have hWB:valB B (w.drop j)<(B:Int)*valB B v:=by
  have:(B:Int)*(valB B (w.drop (j+1))+1)≤B*valB B v:=Int.mul_le_mul_of_nonneg_left (by omega) (by omega)
  rw[Int.mul_add,Int.mul_one] at this
  omega
 have t3:=aKh hB h2 hk (by omega) hz
 have t2:=aQg hB hv hk
 obtain ⟨W,hW⟩:∃W,valB B (w.drop j)=W:=⟨_,rfl⟩
 rw[hW] at hWB hW0 t3 ⊢
 have hQ0:0≤W/valB B v:=Int.ediv_nonneg (by omega) (by omega)
 have hQV:W/valB B v*valB B v≤W:=Int.ediv_mul_le _ (by omega)
 have hQB:W/valB B v<B:=Int.ediv_lt_of_lt_mul hV hWB
 refine ⟨hz,hQ0,hQB,?_⟩
 rintro top rfl
 have hP:=dX hB (v.length-2)
 have x2:=h2.get (show j+v.length-2<w.length by omega)
 have hB':(0:Int)<B:=by omega
 have hPB:(0:Int)<B*(B:Int)^ (v.length-2):=Int.mul_pos hB' hP
 have w2:=hv.get (show v.length-2<v.length by omega)
 refine aI8 hP (by omega) t2 (by omega) t3 hQB hQ0 hQV f _ _ ?_ ?_
 ·rw[Int.mul_comm (_/ _) _];exact (Int.mul_ediv_add_emod _ _).symm
 ·refine aKf (B:=(B:Int)) (P:=B*(B:Int)^ (v.length-2)) hPB hv1 ?_ ?_ hQ0 hQV
  ·refine Int.le_trans ?_ t2
   rw[← Int.mul_assoc]
   exact Int.mul_le_mul_of_nonneg_right (by omega) (Int.le_of_lt hP)
  ·refine Int.lt_of_lt_of_le t3 ?_
   rw[← Int.mul_assoc]
   refine Int.mul_le_mul_of_nonneg_right ?_ (Int.le_of_lt hP)
   rw[Int.add_mul _ 1,Int.one_mul];omega
theorem aG2 {B:Nat} (hB:2≤B) {u v:List Int} (hu:InB B u) (hv:InB B v) (hk:1≤v.length) (hv1:0<v.getD (v.length-1) 0) {m:Nat} (hm:m+v.length=u.length) (hz:u.getD (u.length-1) 0=0):valB B (u.drop m)<valB B v∧0<valB B v:=by
 have e0:=fC (B:=B) v (v.length-1) (by omega)
 have b0:=bD (lD hv (v.length-1))
 rw[bL v (v.length-1) (by omega),List.drop_eq_nil_of_le (by omega)] at e0
 simp only[valB,Int.mul_zero,Int.add_zero] at e0
 have hP:=dX hB (v.length-1)
 have h1:(B:Int)^ (v.length-1)*1≤(B:Int)^ (v.length-1)*v.getD (v.length-1) 0:=Int.mul_le_mul_of_nonneg_left (by omega) (by omega)
 have h2:valB B (u.drop m)<(B:Int)^ (v.length-1):=aI7 hB (gW hu m) fun i hi=>by
  rw[qX]
  by_cases hi2:m+i<u.length
  ·rw[show m+i=u.length-1 by omega];exact hz
  ·exact qW _ _ (by omega)
 omega
end IB
end
section
namespace IB
theorem aAg {B:Nat} (hB:2≤B) {n k:Nat} (hk:1≤k) (h1:B^ (k-1)≤n) (h2:n<B^k):
  (aH B n).length=k∧(aH B n).getD (k-1) 0*(B:Int)^ (k-1)≤n∧(n:Int)<((aH B n).getD (k-1) 0+1)*(B:Int)^ (k-1):=by
 have hp:0<B^ (k-1):=Nat.pow_pos (by omega)
 obtain ⟨g1,g2,g3⟩:=eD hB (n:=n) (by omega)
 have g1:B^ ((aH B n).length-1)≤n:=by exact_mod_cast g1
 have g2:n<B^ (aH B n).length:=by exact_mod_cast g2
 have a1:=(Nat.pow_lt_pow_iff_right (show 1<B by omega)).1 (Nat.lt_of_le_of_lt g1 h2)
 have a2:=(Nat.pow_lt_pow_iff_right (show 1<B by omega)).1 (Nat.lt_of_le_of_lt h1 g2)
 have hl:(aH B n).length=k:=by omega
 have hi:=bI hB n
 have e0:=fC (B:=B) (aH B n) (k-1) (by omega)
 have b0:=bD (lD hi (k-1))
 have b1:=iV hB (lD hi (k-1)) (n:=k-1) (by rw[List.length_take];omega)
 rw[bL _ (k-1) (by omega),List.drop_eq_nil_of_le (by omega),dL hB] at e0
 simp only[valB,Int.mul_zero,Int.add_zero] at e0
 refine ⟨hl,?_,?_⟩
 ·rw[Int.mul_comm];omega
 ·rw[Int.add_mul,Int.one_mul,Int.mul_comm];omega
theorem scale {B:Nat} (hB:2≤B) {n:Nat} (hn:0<n) {f:Nat} (hf:(f:Int)=(B:Int)/((aH B n).getD ((aH B n).length-1) 0+1)):
  0<f∧f<B∧(aH B (n*f)).length=(aH B n).length∧(B:Int)≤4*(aH B (n*f)).getD ((aH B (n*f)).length-1) 0:=by
 obtain ⟨g1,g2,g3⟩:=eD hB hn
 have g1:B^ ((aH B n).length-1)≤n:=by exact_mod_cast g1
 have g2:n<B^ (aH B n).length:=by exact_mod_cast g2
 obtain ⟨k,hk⟩:∃k,(aH B n).length=k:=⟨_,rfl⟩
 rw[hk] at g1 g2 g3 hf ⊢
 obtain ⟨_,t1,t2⟩:=aAg hB g3 g1 g2
 have ht:=(bI hB n).get (show k-1<(aH B n).length by omega)
 have ht1:(aH B n).getD (k-1) 0≠0:=by
  have hne:aH B n≠ []:=by rw[← List.length_pos_iff];omega
  have:=pF hB n hne
  rw[List.getLast_eq_getElem] at this
  rw[List.getD_eq_getElem?_getD,List.getElem?_eq_getElem (by omega),Option.getD_some]
  simpa [hk] using this
 obtain ⟨t,ht'⟩:∃t:Nat,(aH B n).getD (k-1) 0=t:=⟨_,(Int.eq_ofNat_of_zero_le ht.1).choose_spec⟩
 rw[ht'] at hf t1 t2 ht ht1
 obtain ⟨f1,f2,f3⟩:=aG0 (B:=(B:Int)) (t:=(t:Int)) (f:=(f:Int)) (by omega) ht.2 hf
 have f2:f*(t+1)≤B:=by exact_mod_cast f2
 have f3:B≤4*(f*t):=by exact_mod_cast f3
 have t1:t*B^ (k-1)≤n:=by exact_mod_cast t1
 have t2:n<(t+1)*B^ (k-1):=by exact_mod_cast t2
 have hf0:0<f:=by omega
 have u1:f*t*B^ (k-1)≤n*f:=by
  rw[Nat.mul_assoc,Nat.mul_comm n f];exact Nat.mul_le_mul_left f t1
 have u2:n*f<f*(t+1)*B^ (k-1):=by
  rw[Nat.mul_assoc,Nat.mul_comm n f];exact Nat.mul_lt_mul_of_pos_left t2 hf0
 have u3:f*(t+1)*B^ (k-1)≤B^k:=by
  rw[show B^k=B*B^ (k-1) by rw[← Nat.pow_succ'];congr 1;omega]
  exact Nat.mul_le_mul_right _ f2
 have hft:1≤f*t:=Nat.mul_pos hf0 (by omega)
 have u4:B^ (k-1)≤n*f:=Nat.le_trans (by rw[← Nat.one_mul (B^ (k-1)),← Nat.mul_assoc,Nat.mul_one];exact Nat.mul_le_mul_right _ hft) u1
 obtain ⟨v1,v2,v3⟩:=aAg hB g3 u4 (Nat.lt_of_lt_of_le u2 u3)
 have hfB:f<B:=by
  have:f*2≤f*(t+1):=Nat.mul_le_mul_left f (by omega)
  omega
 refine ⟨hf0,hfB,v1,?_⟩
 rw[v1]
 have hp:(0:Int)<(B:Int)^ (k-1):=dX hB (k-1)
 have u1':(f:Int)*t*(B:Int)^ (k-1)≤((n*f:Nat):Int):=by exact_mod_cast u1
 have:(f:Int)*t<(aH B (n*f)).getD (k-1) 0+1:=Int.lt_of_mul_lt_mul_right (Int.lt_of_le_of_lt u1' v3) (Int.le_of_lt hp)
 have f3':(B:Int)≤4*((f:Int)*t):=by exact_mod_cast f3
 omega
theorem aKi {B:Nat} (hB:2≤B) (n k:Nat):InB B (aH B n++List.replicate k 0)∧valB B (aH B n++List.replicate k 0)=n∧(0<k→(aH B n++List.replicate k 0).getD ((aH B n++List.replicate k 0).length-1) 0=0):=by
 refine ⟨InB.append.2 ⟨bI hB n,fun x hx=>?_⟩,?_,fun hk=>?_⟩
 ·rw[(List.mem_replicate.1 hx).2];omega
 ·rw[eT,kF,Int.mul_zero,Int.add_zero,dL hB]
 ·rw[List.getD_eq_getElem?_getD,List.getElem?_append_right (by simp;omega)]
  simp[List.getElem?_replicate]
  split<;>rfl
theorem aKj {B:Nat} (hB:2≤B) {m f:Nat} (hf:f<B):(aH B (m*f)).length≤(aH B m).length+1:=by
 rcases Nat.eq_zero_or_pos m with rfl | hm
 ·rw[Nat.zero_mul,bP];exact Nat.zero_le _
 ·rcases Nat.eq_zero_or_pos f with rfl | hf0
  ·rw[Nat.mul_zero,bP];exact Nat.zero_le _
  ·obtain ⟨g1,g2,g3⟩:=eD hB hm
   have g2:m<B^ (aH B m).length:=by exact_mod_cast g2
   obtain ⟨q1,_,_⟩:=eD hB (n:=m*f) (Nat.mul_pos hm hf0)
   have q1:B^ ((aH B (m*f)).length-1)≤m*f:=by exact_mod_cast q1
   have:m*f<B^ ((aH B m).length+1):=by
    rw[Nat.pow_succ];exact Nat.mul_lt_mul'' g2 hf
   have:=(Nat.pow_lt_pow_iff_right (show 1<B by omega)).1 (Nat.lt_of_le_of_lt q1 this)
   omega
end IB
end
section
open Go Go.Proofs Go.Eng Go.Shelf IB Go.Lib Go.RowKit
namespace RB
theorem aO5 {n:Nat} (h:(aH B9 n).length=1):(aH B9 n).getD 0 0=n∧n<1000000000:=by
 have hv:=v9 n
 have hg:=get9 (show InB B9 (aH B9 n) from bI (by decide) n) 0
 cases hl:aH B9 n with
 | nil=>rw[hl] at h;simp at h
 | cons x r=>
  have hr:r= []:=by rw[hl] at h;simpa using h
  subst hr
  rw[hl] at hv hg
  simp only[valB,Int.mul_zero,Int.add_zero] at hv
  refine ⟨hv,?_⟩
  have hg:0≤x∧x<1000000000:=hg
  omega
theorem aO6 (l:List Int) (k:Nat):l++List.replicate k 0++ [0]=l++List.replicate (k+1) 0:=by
 rw[List.append_assoc,← List.replicate_succ']
set_option maxHeartbeats 4000000 in
theorem b106 (m n:Nat) (hm:m<B9^100) (hn:0<n∧n<B9^100):
  body Tryz.prog [c129,c134,c99,aR0,aO4,c136,c137,c138,c131] { asks:=[(0,[3]),(2,[3]),(4,[3])] } false Tryz.f190 [Ls (aH B9 m),Ls (aH B9 n)] (.tup [Ls (aH B9 (m/n)),Ls (aH B9 (m%n))]):=by
 obtain ⟨hn0,hn⟩:=hn
 have im:InB B9 (aH B9 m):=bI (by decide) m
 have jn:InB B9 (aH B9 n):=bI (by decide) n
 have lm:=eK hm
 have ln:=eK hn
 have hc:=xY m n
 have vm:=v9 m
 have vn:=v9 n
 refine Need.mk ⟨im,jn⟩ ?_
 (refine Br.mk (fun _=>?_) (fun _=>?_))
 ·rename_i h
  have hlt:m<n:=by omega
  rw[Nat.div_eq_of_lt hlt,Nat.mod_eq_of_lt hlt,bP]
  (conv=>whnf)
  (repeat' first|exact trivial|rfl|refine And.intro ?_ ?_)
 ·rename_i h
  have hle:n≤m:=by omega
  (repeat'((conv=>whnf);first|refine Zg fun _=>?_|fail))
  (refine Br.mk (fun _=>?_) (fun _=>?_))
  ·rename_i h1
   obtain ⟨hx,hxlt⟩:=aO5 (n:=n) (by omega)
   (repeat' first|refine ZG ?_|refine Zg fun _=>?_)
   refine Need.mk ⟨im,by omega,by omega⟩ ?_
   (conv=>whnf)
   have e1:(valB B9 (aH B9 m)/(aH B9 n).getD 0 0).toNat=m/n:=by rw[vm,hx,← Int.natCast_ediv,Int.toNat_natCast]
   have e2:(valB B9 (aH B9 m)% (aH B9 n).getD 0 0).toNat=m%n:=by rw[vm,hx,← Int.natCast_emod,Int.toNat_natCast]
   (repeat' first|exact trivial|refine And.intro ?_ ?_)
   ·exact congrArg (aH B9) e1
   ·exact congrArg (aH B9) e2
  ·rename_i h1
   have hk:2≤(aH B9 n).length:=by
    have:=(eD (B:=B9) (by decide) hn0).2.2
    omega
   have ht:=get9 jn ((aH B9 n).length-1)
   obtain ⟨f,hf⟩:∃f:Nat,(f:Int)=1000000000/((aH B9 n).getD ((aH B9 n).length-1) 0+1):=⟨_,(Int.eq_ofNat_of_zero_le (Int.ediv_nonneg (by omega) (by omega))).choose_spec.symm⟩
   obtain ⟨f0,fB,sl,st⟩:=scale (B:=B9) (by decide) hn0 hf
   have st:(1000000000:Int)≤4*(aH B9 (n*f)).getD ((aH B9 (n*f)).length-1) 0:=st
   have fB:f<1000000000:=fB
   (repeat' first|refine ZG ?_|refine Zg fun _=>?_)
   refine cF ((aH B9 n).length-1) (by omega) ?_
   (repeat' first|refine ZG ?_|refine Zg fun _=>?_)
   rw[← hf]
   have if1:InB B9 [(f:Int)]:=fun x hx=>by
    have:x=f:=by simpa using hx
    subst this
    exact ⟨by omega,by show (f:Int)<1000000000;omega⟩
   have ef:∀k:Nat,(valB B9 (aH B9 k)*valB B9 [(f:Int)]).toNat=k*f:=fun k=>by
    rw[v9,show valB B9 [(f:Int)]=f by simp[valB],← Int.natCast_mul,Int.toNat_natCast]
   refine Need.mk ⟨im,if1,by omega,by show 1≤100000;omega⟩ ?_
   rw[ef]
   have sm:=aKj (B:=B9) (by decide) (m:=m) (show f<B9 from fB)
   (repeat' first|refine ZG ?_|fail)
   refine Need.mk ⟨jn,if1,by omega,by show 1≤100000;omega⟩ ?_
   rw[ef]
   have ka:(aH B9 n).length≤(aH B9 m).length:=Classical.byContradiction fun hx=>by
    have:=mT (B:=B9) (by decide) (m:=m) (n:=n) (by omega)
    omega
   refine Ask.mk ⟨{ X:=Nat,pre:=fun i=>(aH B9 (m*f)).length+i≤(aH B9 m).length+1,mod:=fun _ _=>[],heap:=fun i H=>[V [],.cells [.ref 0 1] 41,V [],V (aH B9 (m*f)++List.replicate (i+1) 0),V (aH B9 (n*f)),V [],.cells [.ref 3 1] 41,V [],.cells [.ref 4 1] 41],mu:=fun i=>(aH B9 m).length+1-(aH B9 (m*f)).length-i,objs:=[3] },rfl,?_⟩
   (repeat' first|refine ZG ?_|fail)
   refine ⟨⟨(0:Nat),sm,?_⟩,fun (i:Nat) hi=>?_⟩
   ·(repeat' first|exact trivial|rfl|exact Nat.one_pos|refine And.intro ?_ ?_)
   ·have hi:(aH B9 (m*f)).length+i≤(aH B9 m).length+1:=hi
    have hul:(aH B9 (m*f)++List.replicate (i+1) (0:Int)).length=(aH B9 (m*f)).length+(i+1):=by simp
    (repeat' first|refine ZG ?_|refine Zg fun _=>?_)
    (refine Br.mk (fun _=>?_) (fun _=>?_))
    ·rename_i hlt
     (repeat' first|refine ZG ?_|fail)
     refine ⟨(i+1:Nat),by show (aH B9 m).length+1-(aH B9 (m*f)).length-(i+1)<(aH B9 m).length+1-(aH B9 (m*f)).length-i;omega,by show _+(i+1)≤ _;omega,?_⟩
     (repeat' first|exact trivial|rfl|exact Nat.one_pos|refine And.intro ?_ ?_)
     exact aO6 _ _
    ·rename_i hge
     have hge:(aH B9 m).length+1≤(aH B9 (m*f)).length+(i+1):=by omega
     obtain ⟨iu,vu,zu⟩:=aKi (B:=B9) (by decide) (m*f) (i+1)
     have zu:=zu (by omega)
     have jv:InB B9 (aH B9 (n*f)):=bI (by decide) _
     obtain ⟨u,hu⟩:∃u,aH B9 (m*f)++List.replicate (i+1) (0:Int)=u:=⟨_,rfl⟩
     rw[hu] at iu vu zu hul ⊢
     obtain ⟨v,hv⟩:∃v,aH B9 (n*f)=v:=⟨_,rfl⟩
     have vv:valB B9 v=((n*f:Nat):Int):=by rw[← hv];exact v9 _
     rw[hv] at st sl jv ⊢
     obtain ⟨M,hM⟩:∃M,u.length-v.length=M:=⟨_,rfl⟩
     have hMu:M+v.length=u.length:=by omega
     obtain ⟨s1,s2⟩:=aG2 (B:=B9) (by decide) iu jv (by omega) (by omega) hMu zu
     (repeat' first|refine ZG ?_|refine Zg fun _=>?_)
     rw[show ((u.length:Int)-v.length)=(M:Int) by omega]
     have v1p:250000000≤v.getD (v.length-1) 0:=by omega
     have hspec:=lE (B:=B9) (by decide) iu jv s2 hMu s1
     refine Ask.mk ⟨{ X:=Nat,pre:=fun s=>s≤M,mod:=fun _ _=>[],heap:=fun s H=>[V [],.cells [.ref 9 1] 41,V [],V (bQ B9 u v M s).1,V v,V [],.cells [.ref 3 1] 41,V [],.cells [.ref 4 1] 41,V (bQ B9 u v M s).2],mu:=fun s=>s,objs:=[3] },rfl,?_⟩
     refine ⟨M,?_⟩
     (conv=>whnf)
     refine Need.mk ⟨⟨rfl,rfl,by simp⟩,fun s hs=>⟨rfl,rfl,(hspec s hs).2.2.1⟩⟩ ?_
     (repeat' first|refine ZG ?_|fail)
     refine ⟨⟨(0:Nat),rfl,Nat.zero_le _,?_⟩,fun (s:Nat) hs (hlt:s<M)=>?_,fun (s:Nat) hs (he:s=M)=>?_⟩
     ·(repeat' first|exact trivial|rfl|exact Nat.one_pos|refine And.intro ?_ ?_)
     ·obtain ⟨w1,w2,w3,w4,w5,w6⟩:=hspec s (by omega)
      obtain ⟨r1,r2,r3,r4⟩:=aG1 (B:=B9) (by decide) iu jv s2 hMu s1 (by omega) (by omega) s hlt 8
      have hst1:(bQ B9 u v M (s+1)).1=(bA B9 (bQ B9 u v M s).1 v (M-1-s) (valB B9 ((bQ B9 u v M s).1.drop (M-1-s))/valB B9 v) (v.length+1)).1:=rfl
      have hst2:(bQ B9 u v M (s+1)).2=(bQ B9 u v M s).2.set (M-1-s) (valB B9 ((bQ B9 u v M s).1.drop (M-1-s))/valB B9 v):=rfl
      obtain ⟨w,hw⟩:∃w,(bQ B9 u v M s).1=w:=⟨_,rfl⟩
      obtain ⟨p,hp⟩:∃p,(bQ B9 u v M s).2=p:=⟨_,rfl⟩
      obtain ⟨j,hj⟩:∃j,M-1-s=j:=⟨_,rfl⟩
      obtain ⟨Q,hQ⟩:∃Q,valB B9 (w.drop j)/valB B9 v=Q:=⟨_,rfl⟩
      rw[hw] at w1 w2 w5 w6 r1 r2 r3 r4 hst1 hst2
      rw[hp] at w3 w4 w6 hst2
      rw[hj] at r1 r2 r3 r4 hst1 hst2
      rw[hQ] at r2 r3 r4 hst1 hst2
      show hnfL (itS M s) _
      (repeat'((conv=>whnf);first|refine Zg fun _=>?_|fail))
      (conv=>whnf)
      rw[hw,hj]
      refine Need.mk ⟨w2,jv,by omega,by omega,v1p,by omega,by omega⟩ ?_
      rw[Int.toNat_natCast]
      have g0:=get9 w2 (j+v.length)
      have g1:=get9 w2 (j+v.length-1)
      have hT:0≤top2 w v j∧top2 w v j<1000000000000000000:=by unfold top2;omega
      have hq4:top2 w v j/v.getD (v.length-1) 0≤4000000000:=by
       refine Int.le_trans (Int.ediv_le_ediv (by omega) (show top2 w v j≤4000000000*v.getD (v.length-1) 0 by omega)) ?_
       rw[Int.mul_ediv_cancel _ (by omega)]
       exact Int.le_refl _
      have r5:Q≤estL w v j∧estL w v j≤4000000000:=⟨(r4 (top2 w v j) rfl).1,Int.le_trans (r4 (top2 w v j) rfl).2 hq4⟩
      obtain ⟨q0,hq0⟩:∃q0,estL w v j=q0:=⟨_,rfl⟩
      rw[hq0] at r5
      refine Ask.mk ⟨{ X:=Int,pre:=fun q=>Q≤q∧q≤4000000000,mod:=fun q _=>[(10,I q)],heap:=fun q H=>[V [],.cells [.ref 9 1] 41,V [],V w,V v,V [],.cells [.ref 3 1] 41,V [],.cells [.ref 4 1] 41,V p,.gone],mu:=fun q=>(q-Q).toNat,objs:=[3] },rfl,?_⟩
      (repeat' first|refine ZG ?_|fail)
      refine ⟨⟨q0,r5,?_⟩,fun (q:Int) hq=>?_⟩
      ·(repeat' first|exact trivial|rfl|exact Nat.one_pos|refine And.intro ?_ ?_)
       ·exact hq0
       ·exact hp
      ·obtain ⟨q1,q2⟩:=hq
       have q1:Q≤q:=q1
       obtain ⟨k1,k2,k3,_⟩:=gA (B:=B9) (by decide) w2 jv (j:=j) (q:=q) (by omega) (v.length+1) (by omega)
       obtain ⟨k4,_⟩:=aEw (B:=B9) (by decide) w2 jv (j:=j) (q:=q) (by omega) (by omega) r1
       have krest:=aGz (B:=B9) (by decide) w2 jv (j:=j) (q:=q) (by omega) (k:=v.length+1) (by omega)
       have kQ:q*valB B9 v≤valB B9 (w.drop j)↔q≤Q:=by rw[← hQ,Int.le_ediv_iff_mul_le s2]
       refine Need.mk ⟨w2,jv,by omega,by omega,by omega,by omega⟩ ?_
       rw[Int.toNat_natCast]
       (refine Br.mk (fun _=>?_) (fun _=>?_))
       ·rename_i hc
        have hgt:Q<q:=by
         refine Classical.byContradiction fun hx=>?_
         have:=k4.2 (kQ.2 (by omega))
         omega
        refine Need.mk ⟨k2,jv,by omega,by omega,by omega,by omega⟩ ?_
        (repeat' first|refine ZG ?_|fail)
        refine ⟨q-1,?_,⟨by show Q≤q-1;omega,by show q-1≤4000000000;omega⟩,?_⟩
        ·show (q-1-Q).toNat<(q-Q).toNat
         omega
        ·(repeat' first|exact trivial|rfl|exact Nat.one_pos|refine And.intro ?_ ?_)
         exact krest
       ·rename_i hc
        have hqQ:q=Q:=by
         have:=kQ.1 (k4.1 (by omega))
         omega
        subst hqQ
        (repeat' first|refine ZG ?_|fail)
        refine ⟨(s+1:Nat),rfl,hlt,?_⟩
        (repeat' first|exact trivial|rfl|exact Nat.one_pos|refine And.intro ?_ ?_)
        ·exact hst1.symm
        ·exact hst2.symm
     ·subst he
      obtain ⟨a1,a2⟩:=aKg (B:=B9) (by decide) iu jv s2 hMu s1
      have e1:(valB B9 u/valB B9 v).toNat=m/n:=by
       rw[vu,vv,← Int.natCast_ediv,Int.toNat_natCast,Nat.mul_div_mul_right _ _ f0]
      have e2:(valB B9 u%valB B9 v).toNat=m%n*f:=by
       rw[vu,vv,← Int.natCast_emod,Int.toNat_natCast,Nat.mul_mod_mul_right]
      rw[e1] at a1
      rw[e2] at a2
      have hr:m%n*f<B9^101:=by
       rw[Nat.pow_succ]
       exact Nat.mul_lt_mul'' (Nat.lt_trans (Nat.mod_lt m hn0) hn) fB
      have lr:=eK hr
      (conv=>whnf)
      rw[a2]
      refine Need.mk ⟨bI (by decide) _,by omega,by omega⟩ ?_
      have e3:(valB B9 (aH B9 (m%n*f))/(f:Int)).toNat=m%n:=by
       rw[v9,← Int.natCast_ediv,Int.toNat_natCast,Nat.mul_div_cancel _ f0]
      rw[e3]
      (conv=>whnf)
      (repeat' first|exact trivial|rfl|refine And.intro ?_ ?_)
      ·exact a1
def c106:Con:=aI 190 false fun args K=>match args with
 | [.seq (.int .i64) a,.seq (.int .i64) b]=>Need (pK a∧pK b∧b≠ []) (K (.tup [Ls (aH B9 ((valB B9 a).toNat/(valB B9 b).toNat)),Ls (aH B9 ((valB B9 a).toNat% (valB B9 b).toNat))]))
 | _=>False
theorem aG6 {b:List Int} (h:pK b) (hb:b≠ []):0<(valB B9 b).toNat:=by
 refine Nat.pos_of_ne_zero fun h0=>hb ?_
 rw[h.1,h0,bP]
theorem k106:aG Tryz.prog c106:=by
 refine aB rfl (enters_of Tryz.func190 (by kernel_rfl) rfl) ?_
 intro args K h
 simp only[c106] at h
 split at h
 ·rename_i a b
  refine ⟨_,h.go,?_⟩
  obtain ⟨⟨ha,hm⟩,⟨hb,hn⟩,hne⟩:=h.ok
  have ht:=aA (by simp[k129,k134,k99,k135h,k166s,k136,k137,k138,k131]) Tryz.func190 (by simp[Tryz.ntmps190]) rfl (b106 (valB B9 a).toNat (valB B9 b).toNat hm ⟨aG6 ⟨hb,hn⟩ hne,hn⟩)
  rw[← ha,← hb] at ht
  exact ht
 ·exact h.elim
def dvI (x y:Int):List UInt8 × List UInt8 × Int:=if lim (x.fdiv y) || lim (x.fmod y) then ([],[],4) else (itoa (x.fdiv y),itoa (x.fmod y),0)
noncomputable def divI (a b:List UInt8):List UInt8 × List UInt8 × Int:=if chk2 a b≠0 then ([],[],chk2 a b) else if b= [48] then ([],[],12) else dvI (valI a) (valI b)
theorem aO7 {b:List UInt8} (h:form b) (h0:¬b= [48]):valI b≠0:=fun e=>h0 (by
 have:=qS h
 rw[e] at this
 rw[this]
 unfold itoa
 rw[if_neg (by omega)]
 exact cE (show 0<10 by omega))
theorem pw12:B9^100<B9^200:=Nat.pow_lt_pow_right (by decide) (by omega)
theorem aO8 (x y:Int):dvI x y=if (resI (x.fdiv y)).2≠0∨(resI (x.fmod y)).2≠0 then ([],[],4) else ((resI (x.fdiv y)).1,(resI (x.fmod y)).1,0):=by
 unfold dvI resI
 by_cases h1:lim (x.fdiv y)=true<;>by_cases h2:lim (x.fmod y)=true<;>simp[h1,h2]
theorem sO {x y q r:Int} (hq:q=x.fdiv y) (hr:r=x.fmod y) (h1:q.natAbs<10^40) (h2:r.natAbs<10^40):dvI x y=(itoa q,itoa r,0):=by
 rw[aO8,← hq,← hr,gD h1,gD h2]
 simp
theorem aO9 (p q:Prop) [Decidable p] [Decidable q] (m n:Nat) (hn:0<n):
  sgP (¬(p↔q)) ((if ¬(p↔q)∧0<m%n then m/n+1 else m/n:Nat):Int)=(sgP p m).fdiv (sgP q n)∧sgP q ((if ¬(p↔q)∧0<m%n then n-m%n else m%n:Nat):Int)=(sgP p m).fmod (sgP q n):=by
 have h:=aQf (decide p) m (decide q) n hn
 have e1:∀(r:Prop) [Decidable r] (k:Nat),sgn (decide r) k=sgP r k:=fun r _ k=>by unfold sgn sgP;by_cases hr:r<;>simp[hr]
 rw[Prod.mk.injEq,e1,e1,e1] at h
 have e2:∀k,sgn (decide p != decide q) k=sgP (¬(p↔q)) k:=fun k=>by
  unfold sgn sgP
  by_cases hp:p<;>by_cases hq:q<;>simp[hp,hq]
 rw[e2] at h
 have e3:(decide p≠decide q)↔¬(p↔q):=by by_cases hp:p<;>by_cases hq:q<;>simp[hp,hq]
 by_cases hc:¬(p↔q)∧0<m%n
 ·rw[if_pos hc,if_pos hc]
  rw[if_pos ⟨e3.2 hc.1,hc.2⟩,if_pos ⟨e3.2 hc.1,hc.2⟩] at h
  exact h
 ·rw[if_neg hc,if_neg hc]
  rw[if_neg (fun hx=>hc ⟨e3.1 hx.1,hx.2⟩),if_neg (fun hx=>hc ⟨e3.1 hx.1,hx.2⟩)] at h
  exact h
set_option maxHeartbeats 4000000 in
theorem b69 (a b:List UInt8):body Tryz.prog [c94,c95,c61,c98,c106,c107,c96] {} true Tryz.f251 [S a,S b] (.tup [S (divI a b).1,S (divI a b).2.1,I (divI a b).2.2]):=by
 unfold divI
 (refine Br.mk (fun _=>?_) (fun _=>?_))
 ·rename_i h
  rw[if_pos h]
  (conv=>whnf)
  (repeat' first|exact trivial|rfl|refine And.intro ?_ ?_)
 ·rename_i h
  rw[if_neg h]
  obtain ⟨ha,hb⟩:=iH h
  obtain ⟨fa,la⟩:=cS ha
  obtain ⟨fb,lb⟩:=cS hb
  (refine Br.mk (fun _=>?_) (fun _=>?_))
  ·rename_i h0
   rw[if_pos h0]
   (conv=>whnf)
   (repeat' first|exact trivial|rfl|refine And.intro ?_ ?_)
  ·rename_i h0
   rw[if_neg h0]
   have hy:=aO7 fb h0
   refine Need.mk ⟨rfl,fa,fb⟩ ?_
   (refine Br.mk (fun _=>?_) (fun _=>?_))
   ·rename_i hs
    have h1:=dN fa hs.1
    have h2:=dN fb hs.2
    have hd:((valI a).tdiv (valI b)).natAbs≤(valI a).natAbs:=by rw[Int.natAbs_tdiv];exact Nat.div_le_self _ _
    have hm:((valI a).tmod (valI b)).natAbs<(valI b).natAbs:=by rw[Int.natAbs_tmod];exact Nat.mod_lt _ (by omega)
    have hsd:=aKe (valI a) (valI b) hy
    (repeat'((conv=>whnf);first|refine Zb ?_|refine Zn ?_|(apply Pin.mk;apply Exists.intro)|apply Pinned.mk rfl rfl|fail))
    (refine Br.mk (fun _=>?_) (fun _=>?_))
    ·rename_i hr
     (refine Br.mk (fun _=>?_) (fun _=>?_))
     ·rename_i hsg
      rw[if_pos ⟨hr,hsg⟩,Prod.mk.injEq] at hsd
      rw[sO hsd.1 hsd.2 (by omega) (by omega)]
      (repeat' first|refine ZG ?_|fail)
      (conv=>whnf)
      (repeat' first|exact trivial|rfl|refine And.intro ?_ ?_)
     ·rename_i hsg
      rw[if_neg (fun hx=>hsg hx.2),Prod.mk.injEq] at hsd
      rw[sO hsd.1 hsd.2 (by omega) (by omega)]
      (conv=>whnf)
      (repeat' first|exact trivial|rfl|refine And.intro ?_ ?_)
    ·rename_i hr
     rw[if_neg (fun hx=>hr hx.1),Prod.mk.injEq] at hsd
     rw[sO hsd.1 hsd.2 (by omega) (by omega)]
     (conv=>whnf)
     (repeat' first|exact trivial|rfl|refine And.intro ?_ ?_)
   ·rename_i hs
    refine Need.mk ⟨fa,by omega⟩ ?_
    refine Need.mk ⟨fb,by omega⟩ ?_
    have pb:0<aM (digs b):=Nat.pos_of_ne_zero fun e=>hy (by rw[gY,e];unfold sgP;split<;>rfl)
    (repeat' first|refine ZG ?_|fail)
    refine Need.mk ⟨bE fa la,bE fb lb,fun e=>by rw[iC (by decide)] at e;omega⟩ ?_
    rw[v9,v9,Int.toNat_natCast,Int.toNat_natCast]
    obtain ⟨d1,d2⟩:=aO9 (a.headD 0=45) (b.headD 0=45) (aM (digs a)) (aM (digs b)) pb
    rw[← gY,← gY] at d1 d2
    rw[aO8]
    obtain ⟨M,hM⟩:∃M,aM (digs a)=M:=⟨_,rfl⟩
    obtain ⟨N,hN⟩:∃N,aM (digs b)=N:=⟨_,rfl⟩
    have cM:=(bE fa la).2
    have cN:=(bE fb lb).2
    rw[v9,Int.toNat_natCast,hM] at cM
    rw[v9,Int.toNat_natCast,hN] at cN
    rw[hM,hN] at d1 d2 ⊢
    rw[hN] at pb
    (refine Br.mk (fun _=>?_) (fun _=>?_))
    ·rename_i hne
     (repeat'((conv=>whnf);first|refine Zg fun _=>?_|fail))
     (refine Br.mk (fun _=>?_) (fun _=>?_))
     ·rename_i hrm
      have hpos:0<M%N:=Nat.pos_of_ne_zero fun e=>by rw[e,bP] at hrm;exact absurd hrm (by decide)
      rw[if_pos ⟨hne,hpos⟩] at d1 d2
      have ex1:(valB B9 (aH B9 (M/N))+valB B9 [(1:Int)]).toNat=M/N+1:=by rw[v9,show valB B9 [(1:Int)]=1 by simp[valB]];generalize M/N=k;omega
      have ex2:(valB B9 (aH B9 N)-valB B9 (aH B9 (M%N))).toNat=N-M%N:=by rw[v9,v9];omega
      have hv1:∀hd,@sgP (¬(a.headD 0=45↔b.headD 0=45)) hd (valB B9 (aH B9 (M/N+1)))=(valI a).fdiv (valI b):=fun hd=>by rw[← d1,v9];congr
      have hv2:sgP (b.headD 0=45) (valB B9 (aH B9 (N-M%N)))=(valI a).fmod (valI b):=by rw[← d2,v9]
      have lq:=eK (show M/N<B9^100 from Nat.lt_of_le_of_lt (Nat.div_le_self _ _) cM)
      have lr:=eK (show M%N<B9^100 from Nat.lt_trans (Nat.mod_lt _ pb) cN)
      have hml:=Nat.mod_lt M pb
      have lN:=eK cN
      have big1:M/N+1<B9^200:=by
       have h1:M/N<B9^100:=Nat.lt_of_le_of_lt (Nat.div_le_self _ _) cM
       have h2:B9^100<B9^200:=Nat.pow_lt_pow_right (by decide) (by omega)
       omega
      (repeat'((conv=>whnf);first|(apply Pin.mk;apply Exists.intro)|apply Pinned.mk rfl rfl|refine Zl ?_|fail))
      refine Need.mk ⟨bI (by decide) _,fun x hx=>?_,by omega,by show 1≤100000;omega⟩ ?_
      ·have:x=1:=by simpa using hx
       subst this
       exact ⟨by omega,by show (1:Int)<1000000000;omega⟩
      rw[ex1]
      (repeat'((conv=>whnf);first|(apply Pin.mk;apply Exists.intro)|apply Pinned.mk rfl rfl|fail))
      refine Need.mk ⟨bI (by decide) _,bI (by decide) _,by rw[v9,v9];omega,by omega,by omega⟩ ?_
      rw[ex2]
      refine Need.mk (cL (show M/N+1<B9^200 from big1)) ?_
      rw[hv1]
      refine Need.mk (cL (show N-M%N<B9^200 from (Nat.lt_trans (show N-M%N<B9^100 from Nat.lt_of_le_of_lt (Nat.sub_le _ _) cN) pw12))) ?_
      rw[hv2]
      (refine Br.mk (fun _=>?_) (fun _=>?_))
      ·rename_i z1
       rw[if_pos (.inl z1)]
       (conv=>whnf)
       (repeat' first|exact trivial|rfl|refine And.intro ?_ ?_)
      ·rename_i z1
       (refine Br.mk (fun _=>?_) (fun _=>?_))
       ·rename_i z2
        rw[if_pos (.inr z2)]
        (conv=>whnf)
        (repeat' first|exact trivial|rfl|refine And.intro ?_ ?_)
       ·rename_i z2
        rw[if_neg (fun hx=>hx.elim z1 z2)]
        (conv=>whnf)
        (repeat' first|exact trivial|rfl|refine And.intro ?_ ?_)
     ·rename_i hrm
      have h00:M%N=0:=by
       have:(aH B9 (M%N)).length=0:=by omega
       exact (iC (by decide)).1 (List.eq_nil_of_length_eq_zero this)
      have d1':(valI a).fdiv (valI b)=sgP (¬(a.headD 0=45↔b.headD 0=45)) ((M/N:Nat):Int):=by rw[← d1,if_neg (fun hx=>absurd hx.2 (by omega))]
      have d2':(valI a).fmod (valI b)=sgP (b.headD 0=45) ((M%N:Nat):Int):=by rw[← d2,if_neg (fun hx=>absurd hx.2 (by omega))]
      have hv1:∀hd,@sgP (¬(a.headD 0=45↔b.headD 0=45)) hd (valB B9 (aH B9 (M/N)))=(valI a).fdiv (valI b):=fun hd=>by rw[d1',v9];congr
      have hv2:sgP (b.headD 0=45) (valB B9 (aH B9 (M%N)))=(valI a).fmod (valI b):=by rw[d2',v9]
      refine Need.mk (cL (Nat.lt_trans ((show M/N<B9^100 from Nat.lt_of_le_of_lt (Nat.div_le_self _ _) cM)) pw12)) ?_
      rw[hv1]
      refine Need.mk (cL (Nat.lt_trans ((show M%N<B9^100 from Nat.lt_trans (Nat.mod_lt _ pb) cN)) pw12)) ?_
      rw[hv2]
      (refine Br.mk (fun _=>?_) (fun _=>?_))
      ·rename_i z1
       rw[if_pos (.inl z1)]
       (conv=>whnf)
       (repeat' first|exact trivial|rfl|refine And.intro ?_ ?_)
      ·rename_i z1
       (refine Br.mk (fun _=>?_) (fun _=>?_))
       ·rename_i z2
        rw[if_pos (.inr z2)]
        (conv=>whnf)
        (repeat' first|exact trivial|rfl|refine And.intro ?_ ?_)
       ·rename_i z2
        rw[if_neg (fun hx=>hx.elim z1 z2)]
        (conv=>whnf)
        (repeat' first|exact trivial|rfl|refine And.intro ?_ ?_)
    ·rename_i hne
     have d1':(valI a).fdiv (valI b)=sgP (¬(a.headD 0=45↔b.headD 0=45)) ((M/N:Nat):Int):=by rw[← d1,if_neg (fun hx=>hne hx.1)]
     have d2':(valI a).fmod (valI b)=sgP (b.headD 0=45) ((M%N:Nat):Int):=by rw[← d2,if_neg (fun hx=>hne hx.1)]
     have hv1:∀hd,@sgP (¬(a.headD 0=45↔b.headD 0=45)) hd (valB B9 (aH B9 (M/N)))=(valI a).fdiv (valI b):=fun hd=>by rw[d1',v9];congr
     have hv2:sgP (b.headD 0=45) (valB B9 (aH B9 (M%N)))=(valI a).fmod (valI b):=by rw[d2',v9]
     refine Need.mk (cL (Nat.lt_trans ((show M/N<B9^100 from Nat.lt_of_le_of_lt (Nat.div_le_self _ _) cM)) pw12)) ?_
     rw[hv1]
     refine Need.mk (cL (Nat.lt_trans ((show M%N<B9^100 from Nat.lt_trans (Nat.mod_lt _ pb) cN)) pw12)) ?_
     rw[hv2]
     (refine Br.mk (fun _=>?_) (fun _=>?_))
     ·rename_i z1
      rw[if_pos (.inl z1)]
      (conv=>whnf)
      (repeat' first|exact trivial|rfl|refine And.intro ?_ ?_)
     ·rename_i z1
      (refine Br.mk (fun _=>?_) (fun _=>?_))
      ·rename_i z2
       rw[if_pos (.inr z2)]
       (conv=>whnf)
       (repeat' first|exact trivial|rfl|refine And.intro ?_ ?_)
      ·rename_i z2
       rw[if_neg (fun hx=>hx.elim z1 z2)]
       (conv=>whnf)
       (repeat' first|exact trivial|rfl|refine And.intro ?_ ?_)
def c69:Con:=aI 251 true fun args K=>match args with | [.str a,.str b]=>K (.tup [S (divI a b).1,S (divI a b).2.1,I (divI a b).2.2]) | _=>False
theorem k69:aG Tryz.prog c69:=by
 refine aB rfl (enters_of Tryz.func251 (by kernel_rfl) rfl) ?_
 intro args K h
 simp only[c69] at h
 split at h
 ·rename_i a b;exact ⟨_,h,aA (by simp[k94,k95,k61,k98,k106,k107,k96]) Tryz.func251 (by simp[Tryz.ntmps251]) rfl (b69 a b)⟩
 ·exact h.elim
theorem aPa {P:Program} {fr:Bool} {f:FuncId} {args args':List SV} {r:SV} (h:Tri P fr f args r) (he:ent.entL args' args):Tri P fr f args' r:=
 fun ok w vs hg hok hr=>h ok w vs hg hok (cA he hr)
def c96g:Con:=aI 191 true fun args K=>match args with
 | [.agg [.val (.bool false),.seq (.int .i64) a]]=>Need (tT a) (K (.tup [S (resI (valB B9 a)).1,I (resI (valB B9 a)).2]))
 | _=>False
theorem k96g:aG Tryz.prog c96g:=by
 refine aB rfl (enters_of Tryz.func191 (by kernel_rfl) rfl) ?_
 intro args K h
 simp only[c96g] at h
 split at h
 ·rename_i a
  refine ⟨_,h.go,?_⟩
  have ht:=aA (by simp[k128,k88]) Tryz.func191 (by simp[Tryz.ntmps191]) rfl (b96 False inferInstance a h.ok)
  refine aPa (args:=[.agg [.bl False inferInstance,Ls a]]) ht ⟨⟨fun h=>h,?_,trivial⟩,trivial⟩
  rfl
 ·exact h.elim
theorem aE7 (x y:Int):Int.gcd y (x.tmod y)=Int.gcd x y:=by
 unfold Int.gcd
 rw[Int.natAbs_tmod,Nat.gcd_comm,← Nat.gcd_rec,Nat.gcd_comm]
theorem uG (p:Prop) [Decidable p] (n:Nat):(sgP p n).natAbs=n:=by unfold sgP;split<;>omega
theorem xR {m:Nat} (h:m<B9^34):pK (aH B9 m):=by
 refine ⟨by rw[v9,Int.toNat_natCast],?_⟩
 rw[v9,Int.toNat_natCast]
 exact Nat.lt_of_lt_of_le h (Nat.pow_le_pow_right (by decide) (by omega))
set_option maxHeartbeats 4000000 in
theorem b89 (a b:List UInt8):body Tryz.prog [c94,c95,c61,c98,c106,c96g] { asks:=[(0,[]),(2,[])] } true Tryz.f144 [S a,S b] (.tup [S (dH a b (resI (Int.gcd (valI a) (valI b)))).1,I (dH a b (resI (Int.gcd (valI a) (valI b)))).2]):=by
 unfold dH
 (refine Br.mk (fun _=>?_) (fun _=>?_))
 ·rename_i h
  rw[if_pos h]
  (conv=>whnf)
  (repeat' first|exact trivial|rfl|refine And.intro ?_ ?_)
 ·rename_i h
  rw[if_neg h]
  obtain ⟨ha,hb⟩:=iH h
  obtain ⟨fa,la⟩:=cS ha
  obtain ⟨fb,lb⟩:=cS hb
  refine Need.mk ⟨rfl,fa,fb⟩ ?_
  (refine Br.mk (fun _=>?_) (fun _=>?_))
  ·rename_i hs
   have h1:=dN fa hs.1
   have h2:=dN fb hs.2
   refine Ask.mk ⟨{ X:=Int × Int,pre:=fun z=>Int.gcd z.1 z.2=Int.gcd (valI a) (valI b)∧z.1.natAbs≤1000000000000000000∧z.2.natAbs≤1000000000000000000,mod:=fun z _=>[(7,I z.1),(8,I z.2)],heap:=fun _ _=>[],mu:=fun z=>z.2.natAbs },rfl,?_⟩
   (repeat' first|refine ZG ?_|fail)
   refine ⟨⟨(valI a,valI b),⟨rfl,by show (valI a).natAbs≤ _;omega,by show (valI b).natAbs≤ _;omega⟩,by (repeat' first|exact trivial|rfl|refine And.intro ?_ ?_)⟩,fun (z:Int × Int) hz=>?_⟩
   obtain ⟨z1,z2,z3⟩:=hz
   (refine Br.mk (fun _=>?_) (fun _=>?_))
   ·rename_i hy
    have hm:(z.1.tmod z.2).natAbs<z.2.natAbs:=by rw[Int.natAbs_tmod];exact Nat.mod_lt _ (by omega)
    (repeat'((conv=>whnf);first|refine Zb ?_|(apply Pin.mk;apply Exists.intro)|apply Pinned.mk rfl rfl|fail))
    (conv=>whnf)
    refine ⟨(z.2,z.1.tmod z.2),hm,⟨by rw[← z1];exact aE7 _ _,z3,by show (z.1.tmod z.2).natAbs≤ _;omega⟩,?_⟩
    (repeat' first|exact trivial|rfl|refine And.intro ?_ ?_)
   ·rename_i hy
    have hy:z.2=0:=by omega
    have hg:((Int.gcd (valI a) (valI b):Nat):Int)=max z.1 (-z.1):=by
     rw[← z1,hy,Int.gcd_zero_right]
     omega
    rw[hg,gD (by omega)]
    (repeat' first|refine ZG ?_|fail)
    (conv=>whnf)
    (repeat' first|exact trivial|rfl|refine And.intro ?_ ?_)
  ·rename_i hs
   refine Need.mk ⟨fa,by omega⟩ ?_
   refine Need.mk ⟨fb,by omega⟩ ?_
   have pM:=gC fa la
   have pN:=gC fb lb
   have hgv:Int.gcd (valI a) (valI b)=Nat.gcd (aM (digs a)) (aM (digs b)):=by
    unfold Int.gcd
    rw[gY,gY,uG,uG]
   rw[hgv]
   refine Ask.mk ⟨{ X:=Nat × Nat,pre:=fun z=>Nat.gcd z.1 z.2=Nat.gcd (aM (digs a)) (aM (digs b))∧z.1<B9^34∧z.2<B9^34,mod:=fun z _=>[(10,Ls (aH B9 z.1)),(11,Ls (aH B9 z.2))],heap:=fun _ _=>[],mu:=fun z=>z.2 },rfl,?_⟩
   (repeat' first|refine ZG ?_|fail)
   refine ⟨⟨(aM (digs a),aM (digs b)),⟨rfl,pM,pN⟩,by (repeat' first|exact trivial|rfl|refine And.intro ?_ ?_)⟩,fun (z:Nat × Nat) hz=>?_⟩
   obtain ⟨z1,z2,z3⟩:=hz
   (repeat'((conv=>whnf);first|refine Zg fun _=>?_|fail))
   (refine Br.mk (fun _=>?_) (fun _=>?_))
   ·rename_i hy
    have hy:0<z.2:=Nat.pos_of_ne_zero fun e=>by rw[e,bP] at hy;exact absurd hy (by decide)
    refine Need.mk ⟨xR z2,xR z3,fun e=>by rw[iC (by decide)] at e;omega⟩ ?_
    rw[v9,v9,Int.toNat_natCast,Int.toNat_natCast]
    refine ⟨(z.2,z.1%z.2),Nat.mod_lt _ hy,⟨by rw[← z1];show Nat.gcd z.2 (z.1%z.2)= _;rw[Nat.gcd_comm z.1 z.2,Nat.gcd_rec z.2 z.1];exact Nat.gcd_comm _ _,z3,Nat.lt_trans (Nat.mod_lt _ hy) z3⟩,?_⟩
    (repeat' first|exact trivial|rfl|refine And.intro ?_ ?_)
   ·rename_i hy
    have hy:z.2=0:=(iC (B:=B9) (by decide)).1 (List.eq_nil_of_length_eq_zero (by omega))
    rw[hy,Nat.gcd_zero_right] at z1
    rw[← z1]
    refine Need.mk (cL (Nat.lt_of_lt_of_le z2 (Nat.pow_le_pow_right (by decide) (by omega)))) ?_
    rw[v9]
    (conv=>whnf)
    (repeat' first|exact trivial|rfl|refine And.intro ?_ ?_)
def c89:Con:=aI 144 true fun args K=>match args with | [.str a,.str b]=>K (.tup [S (dH a b (resI (Int.gcd (valI a) (valI b)))).1,I (dH a b (resI (Int.gcd (valI a) (valI b)))).2]) | _=>False
theorem k89:aG Tryz.prog c89:=by
 refine aB rfl (enters_of Tryz.func144 (by kernel_rfl) rfl) ?_
 intro args K h
 simp only[c89] at h
 split at h
 ·rename_i a b;exact ⟨_,h,aA (by simp[k94,k95,k61,k98,k106,k96g]) Tryz.func144 (by simp[Tryz.ntmps144]) rfl (b89 a b)⟩
 ·exact h.elim
end RB
end
section
namespace IB
open Go.Lib
def lead:List UInt8→Nat
 | []=>0
 | c::r=>if 48≤c.toNat∧c.toNat≤57 then lead r+1 else 0
theorem aCi:∀s,lead s≤s.length
 | []=>Nat.le_refl _
 | c::r=>by
  unfold lead
  split
  ·have:=aCi r;simp only[List.length_cons];omega
  ·omega
theorem xJ:∀s:List UInt8,∀c∈s.take (lead s),bC c
 | [],c,h=>by simp at h
 | x::r,c,h=>by
  unfold lead at h
  split at h
  ·rename_i hx
   rw[List.take_succ_cons] at h
   rcases List.mem_cons.1 h with rfl | h
   ·exact hx
   ·exact xJ r c h
  ·simp at h
theorem qY:∀(s:List UInt8) (n:Nat),n≤s.length→(∀i,i<n→bC (s.getD i 0))→(n=s.length∨¬bC (s.getD n 0))→lead s=n
 | [],n,h1,_,_=>by simp at h1;subst h1;rfl
 | c::r,0,_,_,h3=>by
  rcases h3 with h3 | h3
  ·simp at h3
  ·unfold lead
   rw[if_neg]
   exact h3
 | c::r,n+1,h1,h2,h3=>by
  have hc:48≤c.toNat∧c.toNat≤57:=h2 0 (by omega)
  unfold lead
  rw[if_pos hc,qY r n (by simpa using h1) (fun i hi=>h2 (i+1) (by omega)) (by
   rcases h3 with h3 | h3
   ·exact .inl (by simpa using h3)
   ·exact .inr h3)]
theorem aOn {s:List UInt8}:lead s=s.length↔∀c∈s,bC c:=by
 constructor
 ·intro h c hc
  have:=xJ s c
  rw[h,List.take_length] at this
  exact this hc
 ·intro h
  exact qY s s.length (Nat.le_refl _) (fun i hi=>by
   rw[List.getD_eq_getElem?_getD,List.getElem?_eq_getElem hi]
   exact h _ (List.getElem_mem hi)) (.inl rfl)
def dgsN (s:List UInt8):Nat:=if 1<lead s∧s.headD 0=48 then 0 else lead s
def okD (s:List UInt8):Prop:=dgsN s≠0∧s.length≤dgsN s
theorem aJa (s:List UInt8):okD s↔s≠ []∧(∀c∈s,bC c)∧(s.length=1∨s.headD 0≠48):=by
 have hl:=aCi s
 unfold okD dgsN
 rw[← aOn]
 by_cases h:1<lead s∧s.headD 0=48
 ·rw[if_pos h]
  refine ⟨fun hx=>absurd rfl hx.1,?_⟩
  rintro ⟨_,h2,h3⟩
  rcases h3 with h3 | h3
  ·omega
  ·exact absurd h.2 h3
 ·rw[if_neg h]
  constructor
  ·rintro ⟨h1,h2⟩
   have e:lead s=s.length:=by omega
   refine ⟨fun hx=>by rw[hx] at h1;exact h1 rfl,e,?_⟩
   by_cases h48:s.headD 0=48
   ·left
    have:¬1<lead s:=fun hx=>h ⟨hx,h48⟩
    omega
   ·exact .inr h48
  ·rintro ⟨h1,h2,h3⟩
   have:=List.length_pos_iff.2 h1
   exact ⟨by omega,by omega⟩
theorem aQh {s:List UInt8} (h1:s.length=1) (h:s.headD 0=48):s= [48]:=by
 cases s with
 | nil=>simp at h1
 | cons c r=>
  have:r= []:=by simpa using h1
  subst this
  simp at h;rw[h]
theorem aOo (t:List UInt8):form t↔okD (digs t)∧¬(t.headD 0=45∧digs t= [48]):=by
 rw[aJa]
 unfold form
 constructor
 ·rintro ⟨h1,h2,h3⟩
  refine ⟨⟨h1,h3,?_⟩,?_⟩
  ·rcases h2 with h2 | h2
   ·exact .inr h2
   ·left;rw[h2];rfl
  ·rintro ⟨q1,q2⟩
   rcases h2 with h2 | h2
   ·rw[q2] at h2;exact h2 rfl
   ·rw[h2] at q1;simp at q1
 ·rintro ⟨⟨h1,h2,h3⟩,h4⟩
  refine ⟨h1,?_,h2⟩
  by_cases h48:(digs t).headD 0=48
  ·right
   rcases h3 with h3 | h3
   ·have e:=aQh h3 h48
    have hn:¬t.headD 0=45:=fun q=>h4 ⟨q,e⟩
    unfold digs at e
    rw[if_neg hn] at e
    exact e
   ·exact absurd h48 h3
  ·exact .inl h48
theorem aQi (d:List UInt8):(d=decDigits (aM d)∧2≤aM d)↔okD d∧¬d= [48]∧¬d= [49]:=by
 rw[aJa]
 constructor
 ·rintro ⟨h1,h2⟩
  have hd:∀c∈d,bC c:=fun c hc=>by rw[h1] at hc;exact lG _ _ hc
  have hne:d≠ []:=fun e=>by rw[e] at h2;exact absurd h2 (by decide)
  refine ⟨⟨hne,hd,?_⟩,fun e=>by rw[e] at h2;exact absurd h2 (by decide),fun e=>by rw[e] at h2;exact absurd h2 (by decide)⟩
  right
  rw[h1]
  exact aEy _ (by omega)
 ·rintro ⟨⟨h1,h2,h3⟩,h4,h5⟩
  have e:=nT d.length d rfl h1 h2 h3
  refine ⟨e.symm,?_⟩
  apply Classical.byContradiction
  intro hn
  have:aM d=0∨aM d=1:=by omega
  rcases this with h | h
  ·rw[h,cE (by omega)] at e;exact h4 e.symm
  ·rw[h,cE (by omega)] at e;exact h5 e.symm
theorem jO:∀s:List UInt8,Go.Lib.indexByte s 47=if botS s= [] then -1 else ((topS s).length:Int)
 | []=>rfl
 | c::r=>by
  have ih:=jO r
  by_cases h:c=47
  ·subst h
   simp[Go.Lib.indexByte,botS,topS]
  ·have e1:botS (c::r)=botS r:=by simp[botS,h]
   have e2:topS (c::r)=c::topS r:=by simp[topS,h]
   rw[e1,e2]
   simp only[Go.Lib.indexByte]
   rw[ih]
   by_cases hb:botS r= []
   ·simp[hb,h]
   ·simp[hb,h]
theorem qZ (s:List UInt8):topS s++botS s=s:=List.takeWhile_append_dropWhile
theorem aOp (s:List UInt8):s.take (topS s).length=topS s:=by
 have:=List.take_left (l₁:=topS s) (l₂:=botS s)
 rwa [qZ] at this
theorem aOq (s:List UInt8):s.drop (topS s).length=botS s:=by
 have:=List.drop_left (l₁:=topS s) (l₂:=botS s)
 rwa [qZ] at this
end IB
end
section
open Go Go.Proofs Go.Eng Go.Shelf IB Go.Lib Go.RowKit
namespace RB
theorem b105 (a b:Int) (h:(0≤a∧a≤4000000000000000000)∧(0≤b∧b≤4000000000000000000)):body Tryz.prog [] { asks:=[(0,[])] } true Tryz.f185 [I a,I b] (I (Int.gcd a b)):=by
 obtain ⟨ha,hb⟩:=h
 refine Ask.mk ⟨{ X:=Int × Int,pre:=fun z=>Int.gcd z.1 z.2=Int.gcd a b∧(0≤z.1∧z.1≤4000000000000000000)∧(0≤z.2∧z.2≤4000000000000000000),mod:=fun z _=>[(0,I z.1),(1,I z.2)],heap:=fun _ _=>[],mu:=fun z=>z.2.natAbs },rfl,?_⟩
 (repeat' first|refine ZG ?_|fail)
 refine ⟨⟨(a,b),⟨rfl,ha,hb⟩,by (repeat' first|exact trivial|rfl|refine And.intro ?_ ?_)⟩,fun (z:Int × Int) hz=>?_⟩
 obtain ⟨z1,z2,z3⟩:=hz
 (refine Br.mk (fun _=>?_) (fun _=>?_))
 ·rename_i hy
  have hm:(z.1.tmod z.2).natAbs<z.2.natAbs:=by rw[Int.natAbs_tmod];exact Nat.mod_lt _ (by omega)
  have hm0:0≤z.1.tmod z.2:=Int.tmod_nonneg _ z2.1
  (repeat'((conv=>whnf);first|refine Za ?_|(apply Pin.mk;apply Exists.intro)|apply Pinned.mk rfl rfl|fail))
  (conv=>whnf)
  refine ⟨(z.2,z.1.tmod z.2),hm,⟨by rw[← z1];exact aE7 _ _,z3,hm0,by show z.1.tmod z.2≤ _;omega⟩,?_⟩
  (repeat' first|exact trivial|rfl|refine And.intro ?_ ?_)
  exact (Int.tmod_eq_emod_of_nonneg z2.1).symm
 ·rename_i hy
  have hy:z.2=0:=by omega
  have hg:((Int.gcd a b:Nat):Int)=z.1:=by
   rw[← z1,hy,Int.gcd_zero_right]
   omega
  rw[hg]
  (conv=>whnf)
  (repeat' first|rfl|refine And.intro ?_ ?_)
def c105:Con:=aI 185 true fun args K=>match args with | [.val (.int .i64 a),.val (.int .i64 b)]=>Need ((0≤a∧a≤4000000000000000000)∧(0≤b∧b≤4000000000000000000)) (K (I (Int.gcd a b))) | _=>False
theorem k105:aG Tryz.prog c105:=by
 refine aB rfl (enters_of Tryz.func185 (by kernel_rfl) rfl) ?_
 intro args K h
 simp only[c105] at h
 split at h
 ·rename_i a b;exact ⟨_,h.go,aA (by simp) Tryz.func185 (by simp[Tryz.ntmps185]) rfl (b105 a b h.ok)⟩
 ·exact h.elim
theorem aQs {P:Program} {fr:Bool} {f:FuncId} {s:List UInt8} {r:List SV} {x:SV} (h:s.length≤140737488355328→Tri P fr f (.str s::r) x):Tri P fr f (.str s::r) x:=by
 intro ok w vs hg hok hr
 cases hr with
 | cons _ v1 _ vs1 h1 hr=>
 cases h1 with
 | str _ hl=>exact h hl ok w _ hg hok (.cons _ _ _ _ (.str _ hl) hr)
theorem aJg (s:List UInt8): -1≤Lib.indexByte s 47∧Lib.indexByte s 47≤s.length:=by
 rw[jO]
 split
 ·omega
 ·have:=congrArg List.length (qZ s)
  rw[List.length_append] at this
  omega
theorem t170 (s:List UInt8):Tri Tryz.prog true 277 [S s,S [47]] (I (Lib.indexByte s 47)):=by
 intro ok w vs hg hok hr
 cases hr with
 | cons _ v1 _ vs1 h1 hr=>
 cases h1 with
 | str _ hl=>
 obtain ⟨rfl,_⟩:=rE hr
 have hl':s.length≤140737488355328:=hl
 have hb:=aJg s
 refine (Any.stringslite_Index_one RL.lX ⟨s.toArray⟩ 47 w).mono ?_
 rintro e w' ⟨rfl,rfl⟩
 have hw:WV (.int .i64 (Lib.indexByte s 47)):=by constructor<;>simp only[lo,hi]<;>omega
 exact ⟨_,rfl,Below.refl _ _,.val _ hw⟩
def c170:Con:=aI 277 true fun args K=>match args with | [.str s,.str p]=>Need (p= [47]) (K (I (Lib.indexByte s 47))) | _=>False
theorem k170:aG Tryz.prog c170:=by
 refine aB rfl (enters_of Tryz.func277 (by kernel_rfl) rfl) ?_
 intro args K h
 simp only[c170] at h
 split at h
 ·obtain ⟨rfl,h⟩:=h
  exact ⟨_,h,t170 _⟩
 ·exact h.elim
theorem b154 (s:List UInt8) (hl:s.length≤140737488355328):body Tryz.prog [c170] {} true Tryz.f227 [S s,S [47]] (.tup [S (topS s),S (botS s).tail,.bl (botS s≠ []) inferInstance]):=by
 have hb:=aJg s
 have hi:=jO s
 have htb:=congrArg List.length (qZ s)
 rw[List.length_append] at htb
 (repeat' first|refine ZG ?_|fail)
 (refine Br.mk (fun _=>?_) (fun _=>?_))
 ·rename_i h
  by_cases hbn:botS s= []
  ·rw[if_pos hbn] at hi;omega
  ·rw[if_neg hbn] at hi
   have hpos:=List.length_pos_iff.2 hbn
   rw[hi]
   (repeat'((conv=>whnf);first|refine Zg fun _=>?_|refine Zn ?_|refine Zj ?_|(apply Pin.mk;apply Exists.intro)|apply Pinned.mk rfl rfl|fail))
   (conv=>whnf)
   (repeat' first|exact trivial|refine And.intro ?_ ?_)
   ·exact aOp s
   ·show s.drop ((topS s).length+1)=(botS s).tail
    rw[← List.drop_drop,aOq,List.drop_one]
   ·exact hbn
 ·rename_i h
  have hbn:botS s= []:=by
   refine Classical.byContradiction fun hx=>?_
   rw[if_neg hx] at hi;omega
  have ht:topS s=s:=by have:=qZ s;rw[hbn,List.append_nil] at this;exact this
  (conv=>whnf)
  (repeat' first|exact trivial|refine And.intro ?_ ?_)
  ·exact ht.symm
  ·show ([]:List UInt8)= _
   rw[hbn];rfl
  ·exact fun hx=>hx hbn
def c154:Con:=aI 227 true fun args K=>match args with | [.str s,.str p]=>Need (p= [47]) (K (.tup [S (topS s),S (botS s).tail,.bl (botS s≠ []) inferInstance])) | _=>False
theorem k154:aG Tryz.prog c154:=by
 refine aB rfl (enters_of Tryz.func227 (by kernel_rfl) rfl) ?_
 intro args K h
 simp only[c154] at h
 split at h
 ·obtain ⟨rfl,h⟩:=h
  exact ⟨_,h,aQs fun hl=>aA (by simp[k170]) Tryz.func227 (by simp[Tryz.ntmps227]) rfl (b154 _ hl)⟩
 ·exact h.elim
theorem b122 (s:List UInt8):body Tryz.prog [c154] {} true Tryz.f181 [S s,S [47]] (.tup [S (topS s),S (botS s).tail,.bl (botS s≠ []) inferInstance]):=by
 (repeat' first|refine ZG ?_|fail)
 (conv=>whnf)
 (repeat' first|exact trivial|rfl|refine And.intro ?_ ?_)
def c122:Con:=aI 181 true fun args K=>match args with | [.str s,.str p]=>Need (p= [47]) (K (.tup [S (topS s),S (botS s).tail,.bl (botS s≠ []) inferInstance])) | _=>False
theorem k122:aG Tryz.prog c122:=by
 refine aB rfl (enters_of Tryz.func181 (by kernel_rfl) rfl) ?_
 intro args K h
 simp only[c122] at h
 split at h
 ·obtain ⟨rfl,h⟩:=h
  exact ⟨_,h,aA (by simp[k154]) Tryz.func181 (by simp[Tryz.ntmps181]) rfl (b122 _)⟩
 ·exact h.elim
theorem xS (s:List UInt8) (i:Nat):(48≤aW s i∧aW s i≤57)↔bC (s.getD i 0):=by
 unfold aW bC;omega
theorem sP (s:List UInt8):aW s 0=48↔s.headD 0=48:=by
 unfold aW
 have e:s.getD 0 0=s.headD 0:=by cases s<;>rfl
 rw[e]
 constructor
 ·intro h
  have:(s.headD 0).toNat=(48:UInt8).toNat:=by show _=48;omega
  exact UInt8.toNat.inj this
 ·intro h;rw[h];rfl
theorem b124 (s:List UInt8):body Tryz.prog [] { asks:=[(0,[])] } true Tryz.f183 [S s] (I (dgsN s)):=by
 refine Ask.mk ⟨{ X:=Nat,pre:=fun n=>n≤s.length∧∀i,i<n→bC (s.getD i 0),mod:=fun n _=>[(3,I n)],heap:=fun _ _=>[],mu:=fun n=>s.length-n },rfl,?_⟩
 (repeat' first|refine ZG ?_|fail)
 refine ⟨⟨(0:Nat),⟨Nat.zero_le _,fun i hi=>absurd hi (Nat.not_lt_zero _)⟩,by (repeat' first|exact trivial|rfl|refine And.intro ?_ ?_)⟩,fun (n:Nat) hn=>?_⟩
 obtain ⟨n1,n2⟩:=hn
 have hb:=xS s n
 have h0:=sP s
 by_cases hc:n<s.length∧48≤aW s n∧aW s n≤57
 ·(repeat'((conv=>whnf);first|refine Zg fun _=>?_|refine Zn ?_|refine Zj ?_|refine Zy ?_|fail))
  all_goals first | (exfalso;omega) | skip
  refine ⟨(n+1:Nat),by show s.length-(n+1)<s.length-n;omega,⟨by omega,fun i hi=>?_⟩,by (repeat' first|exact trivial|rfl|refine And.intro ?_ ?_)⟩
  by_cases e:i=n
  ·subst e;exact hb.1 hc.2
  ·exact n2 i (by omega)
 ·have hl:lead s=n:=qY s n n1 n2 (by
   by_cases e:n=s.length
   ·exact .inl e
   ·right
    rw[← hb];intro hx;exact hc ⟨by omega,hx⟩)
  have hd:(dgsN s:Int)=if 1<n∧aW s 0=48 then 0 else (n:Int):=by
   unfold dgsN
   rw[hl]
   by_cases q:1<n∧aW s 0=48
   ·rw[if_pos q,if_pos ⟨q.1,h0.1 q.2⟩];rfl
   ·rw[if_neg q,if_neg (fun hx=>q ⟨hx.1,h0.2 hx.2⟩)]
  (repeat'((conv=>whnf);first|refine Zg fun _=>?_|refine Zn ?_|refine Z0 ?_|refine Zj ?_|refine Zm ?_|refine Zr (fun _=>?_) fun _=>?_|fail))
  all_goals first | (exfalso;omega) | skip
  all_goals (skip;(conv=>whnf);(repeat' first|rfl|refine And.intro ?_ ?_))
  all_goals (rw[hd];first | rw[if_pos (by omega)] | rw[if_neg (by omega)])
def c124:Con:=aI 183 true fun args K=>match args with | [.str s]=>K (I (dgsN s)) | _=>False
theorem k124:aG Tryz.prog c124:=by
 refine aB rfl (enters_of Tryz.func183 (by kernel_rfl) rfl) ?_
 intro args K h
 simp only[c124] at h
 split at h
 ·rename_i s;exact ⟨_,h,aA (by simp) Tryz.func183 (by simp[Tryz.ntmps183]) rfl (b124 s)⟩
 ·exact h.elim
theorem itoa_zero:itoa 0= [48]:=by
 unfold itoa
 rw[if_neg (by omega)]
 exact cE (show 0<10 by omega)
theorem b92 (x:Int) (hlx:(itoa x).length≤1000):body Tryz.prog [c123] {} true Tryz.f250 [S (itoa x)] (S (itoa (-x))):=by
 (refine Br.mk (fun _=>?_) (fun _=>?_))
 ·rename_i h
  have hx:x=0:=iW (by rw[itoa_zero];exact h)
  subst hx
  (conv=>whnf)
  (repeat' first|rfl)
 ·rename_i h
  have hx:x≠0:=fun e=>h (by rw[e,itoa_zero])
  have hh:=fX x
  have hd:=bS x
  (repeat' first|refine ZG ?_|fail)
  (refine Br.mk (fun _=>?_) (fun _=>?_))
  ·rename_i hn
   have hn:=hh.1 hn
   have e:itoa (-x)=digs (itoa x):=by
    rw[hd]
    unfold itoa
    rw[if_neg (by omega)]
    congr 1;omega
   rw[e]
   (conv=>whnf)
  ·rename_i hn
   have hn:¬x<0:=fun e=>hn (hh.2 e)
   have e:itoa (-x)=45::itoa x:=by
    unfold itoa
    rw[if_pos (by omega),if_neg (by omega)]
    congr 2;omega
   rw[e]
   (repeat' first|refine ZG ?_|fail)
   (conv=>whnf)
   (repeat' first|rfl)
def c92:Con:=aI 250 true fun args K=>match args with | [.str s]=>Need (form s∧s.length≤1000) (K (S (itoa (-valI s)))) | _=>False
theorem k92:aG Tryz.prog c92:=by
 refine aB rfl (enters_of Tryz.func250 (by kernel_rfl) rfl) ?_
 intro args K h
 simp only[c92] at h
 split at h
 ·rename_i s
  obtain ⟨⟨h1,h2⟩,h⟩:=h
  refine ⟨_,h,?_⟩
  have e:=qS h1
  have:=aA (by simp[k123]) Tryz.func250 (by simp[Tryz.ntmps250]) rfl (b92 (valI s) (by rw[← e];exact h2))
  rwa [← e] at this
 ·exact h.elim
def bot1 (s:List UInt8):List UInt8:=if botS s= [] then [49] else (botS s).tail
theorem tN (s:List UInt8):jF s↔(((dgsN (digs (topS s)):Int)≠0∧((digs (topS s)).length:Int)≤dgsN (digs (topS s)))∧¬((topS s).headD 0=45∧digs (topS s)= [48]))∧
  (botS s= []∨(((dgsN (botS s).tail:Int)≠0∧((botS s).tail.length:Int)≤dgsN (botS s).tail)∧¬(botS s).tail= [48]∧¬(botS s).tail= [49])):=by
 unfold jF
 rw[aOo]
 have e:∀d:List UInt8,okD d↔((dgsN d:Int)≠0∧(d.length:Int)≤dgsN d):=fun d=>by unfold okD;omega
 rw[e]
 refine and_congr Iff.rfl ?_
 by_cases hb:botS s= []
 ·simp[hb]
 ·have hd:denS s=aM (botS s).tail:=by unfold denS;rw[if_neg hb]
  rw[hd,aQi,e]
theorem b87y (s:List UInt8) (hf:jF s):body Tryz.prog [c122,c123,c124] {} true Tryz.f142 [S s] (.tup [.agg [S (topS s),S (bot1 s)],.val (.bool true)]):=by
 have hF:=(tN s).1 hf
 obtain ⟨⟨⟨f1,f2⟩,f3⟩,f4⟩:=hF
 unfold bot1
 (repeat'((conv=>whnf);first|refine Zg fun _=>?_|refine Zn ?_|refine Zm ?_|refine Zr (fun _=>?_) fun _=>?_|fail))
 all_goals first | (exfalso;omega) | skip
 all_goals first
  | (exfalso;simp_all;done)
  | (exfalso;simp_all;omega)
  | (skip;(conv=>whnf);(repeat' first|exact trivial|rfl|refine And.intro ?_ ?_);simp_all;exact @rfl (List UInt8) _)
theorem b87n (s:List UInt8) (hf:¬jF s):body Tryz.prog [c122,c123,c124] {} true Tryz.f142 [S s] (.tup [.agg [S [],S []],.val (.bool false)]):=by
 have hF:=fun h=>hf ((tN s).2 h)
 (repeat'((conv=>whnf);first|refine Zg fun _=>?_|refine Zn ?_|refine Zr (fun _=>?_) fun _=>?_|fail))
 all_goals first
  | (exfalso;simp_all;done)
  | (exfalso;simp_all;omega)
  | (skip;(conv=>whnf);(repeat' first|exact trivial|rfl|refine And.intro ?_ ?_);done)
  | (exfalso;refine hF ⟨⟨⟨by omega,by omega⟩,?_⟩,?_⟩
     ·first | exact fun hx=>absurd hx.2 (by assumption) | exact fun hx=>absurd hx.1 (by assumption)
     ·first | exact .inl (Classical.not_not.1 (by assumption)) | exact .inr ⟨⟨by omega,by omega⟩,by assumption,by assumption⟩)
def c87:Con:=aI 142 true fun args K=>match args with
 | [.str s]=>Br (jF s) (K (.tup [.agg [S (topS s),S (bot1 s)],.val (.bool true)])) (K (.tup [.agg [S [],S []],.val (.bool false)]))
 | _=>False
theorem k87:aG Tryz.prog c87:=by
 refine aB rfl (enters_of Tryz.func142 (by kernel_rfl) rfl) ?_
 intro args K h
 simp only[c87] at h
 split at h
 ·rename_i s
  by_cases hf:jF s
  ·exact ⟨_,h.yes hf,aA (by simp[k122,k123,k124]) Tryz.func142 (by simp[Tryz.ntmps142]) rfl (b87y s hf)⟩
  ·exact ⟨_,h.no hf,aA (by simp[k122,k123,k124]) Tryz.func142 (by simp[Tryz.ntmps142]) rfl (b87n s hf)⟩
 ·exact h.elim
def tO (s:List UInt8):Prop:=1≤lead s∧lead s≤8∧¬(1<lead s∧s.headD 0=48)
theorem aPb {s:List UInt8} {i:Nat} (hi:i≤s.length) (h:∀j,j<i→bC (s.getD j 0)):∀c∈s.take i,bC c:=by
 intro c hc
 obtain ⟨j,hj,rfl⟩:=List.getElem_of_mem hc
 rw[List.length_take] at hj
 have:=h j (by omega)
 rw[List.getD_eq_getElem?_getD,List.getElem?_eq_getElem (by omega)] at this
 simpa using this
theorem xT {s:List UInt8} {i:Nat} (hi:i<s.length) (hd:bC (s.getD i 0)):(aM (s.take (i+1)):Int)=10*aM (s.take i)+(aW s i-48):=by
 have e:s.take (i+1)=s.take i++ [s.getD i 0]:=by
  rw[List.take_succ_eq_append_getElem hi]
  simp[List.getD_eq_getElem?_getD,hi]
 rw[e,eU]
 unfold aW
 unfold bC at hd
 omega
theorem xU {s:List UInt8} {i:Nat} (hi:i≤s.length) (h:∀j,j<i→bC (s.getD j 0)) (h9:i≤9):aM (s.take i)<1000000000:=by
 have h1:=iT (s.take i) (aPb hi h)
 have h2:(10:Nat)^ (s.take i).length≤10^9:=Nat.pow_le_pow_right (by omega) (by rw[List.length_take];omega)
 have h3:(10:Nat)^9=1000000000:=by decide
 omega
theorem aCk:∀(s:List UInt8) (n:Nat),n≤s.length→(∀i,i<n→bC (s.getD i 0))→n≤lead s
 | _,0,_,_=>Nat.zero_le _
 | [],n+1,h,_=>by simp at h
 | c::r,n+1,h1,h2=>by
  have hc:48≤c.toNat∧c.toNat≤57:=h2 0 (by omega)
  unfold lead
  rw[if_pos hc]
  have:=aCk r n (by simpa using h1) (fun i hi=>h2 (i+1) (by omega))
  omega
theorem b104y (s:List UInt8) (h:tO s):body Tryz.prog [] { asks:=[(0,[])] } true Tryz.f184 [S s] (.tup [I (aM (s.take (lead s))),S (s.drop (lead s)),.val (.bool true)]):=by
 obtain ⟨o1,o2,o3⟩:=h
 rw[← sP] at o3
 refine Ask.mk ⟨{ X:=Nat,pre:=fun n=>n≤9∧n≤s.length∧∀i,i<n→bC (s.getD i 0),mod:=fun n _=>[(5,I (aM (s.take n))),(6,I n)],heap:=fun _ _=>[],mu:=fun n=>s.length-n },rfl,?_⟩
 (repeat' first|refine ZG ?_|fail)
 refine ⟨⟨(0:Nat),⟨by omega,Nat.zero_le _,fun i hi=>absurd hi (Nat.not_lt_zero _)⟩,by (repeat' first|exact trivial|rfl|refine And.intro ?_ ?_)⟩,fun (n:Nat) hn=>?_⟩
 obtain ⟨n9,n1,n2⟩:=hn
 have hb:=xS s n
 have hv:=xU n1 n2 n9
 have hge:=aCk s n n1 n2
 by_cases hc:n<s.length∧48≤aW s n∧aW s n≤57
 ·have hs:=xT hc.1 (hb.1 hc.2)
  (repeat'((conv=>whnf);first|refine Zg fun _=>?_|refine Zn ?_|refine Zj ?_|refine Zy ?_|fail))
  all_goals first | (exfalso;omega) | skip
  all_goals (skip;(conv=>whnf);refine ⟨(n+1:Nat),by show s.length-(n+1)<s.length-n;omega,⟨by omega,by omega,fun i hi=>by
     by_cases e:i=n
     ·subst e;exact hb.1 hc.2
     ·exact n2 i (by omega)⟩,?_⟩;(repeat' first|exact trivial|rfl|refine And.intro ?_ ?_|omega);done)
 ·have hl:lead s=n:=qY s n n1 n2 (by
   by_cases e:n=s.length
   ·exact .inl e
   ·right
    rw[← hb];intro hx;exact hc ⟨by omega,hx⟩)
  have hr:(.tup [I (aM (s.take (lead s))),S (s.drop (lead s)),.val (.bool true)]:SV)= .tup [I (aM (s.take n)),S (s.drop n),.val (.bool true)]:=by rw[hl]
  rw[hr]
  rw[hl] at o1 o2 o3
  (repeat'((conv=>whnf);first|refine Zg fun _=>?_|refine Zn ?_|refine Z0 ?_|refine Zj ?_|(apply Pin.mk;apply Exists.intro)|apply Pinned.mk rfl rfl|refine Zy ?_|refine Zm ?_|refine Zr (fun _=>?_) fun _=>?_|fail))
  all_goals first | (exfalso;omega) | skip
  all_goals (skip;(conv=>whnf);(repeat' first|exact trivial|rfl|refine And.intro ?_ ?_))
theorem b104n (s:List UInt8) (h:¬tO s):body Tryz.prog [] { asks:=[(0,[])] } true Tryz.f184 [S s] (.tup [I 0,S [],.val (.bool false)]):=by
 have h:¬(1≤lead s∧lead s≤8∧¬(1<lead s∧aW s 0=48)):=by rw[sP];exact h
 refine Ask.mk ⟨{ X:=Nat,pre:=fun n=>n≤9∧n≤s.length∧∀i,i<n→bC (s.getD i 0),mod:=fun n _=>[(5,I (aM (s.take n))),(6,I n)],heap:=fun _ _=>[],mu:=fun n=>s.length-n },rfl,?_⟩
 (repeat' first|refine ZG ?_|fail)
 refine ⟨⟨(0:Nat),⟨by omega,Nat.zero_le _,fun i hi=>absurd hi (Nat.not_lt_zero _)⟩,by (repeat' first|exact trivial|rfl|refine And.intro ?_ ?_)⟩,fun (n:Nat) hn=>?_⟩
 obtain ⟨n9,n1,n2⟩:=hn
 have hb:=xS s n
 have hv:=xU n1 n2 n9
 have hge:=aCk s n n1 n2
 by_cases hc:n<s.length∧48≤aW s n∧aW s n≤57
 ·have hs:=xT hc.1 (hb.1 hc.2)
  (repeat'((conv=>whnf);first|refine Zg fun _=>?_|refine Zn ?_|refine Zj ?_|refine Zy ?_|refine Zm ?_|refine Zr (fun _=>?_) fun _=>?_|fail))
  all_goals first | (exfalso;omega) | skip
  all_goals first | (skip;(conv=>whnf);refine ⟨(n+1:Nat),by show s.length-(n+1)<s.length-n;omega,⟨by omega,by omega,fun i hi=>by
     by_cases e:i=n
     ·subst e;exact hb.1 hc.2
     ·exact n2 i (by omega)⟩,?_⟩;(repeat' first|exact trivial|rfl|refine And.intro ?_ ?_|omega);done) | (skip;(conv=>whnf);(repeat' first|exact trivial|rfl|refine And.intro ?_ ?_);done)
 ·have hl:lead s=n:=qY s n n1 n2 (by
   by_cases e:n=s.length
   ·exact .inl e
   ·right
    rw[← hb];intro hx;exact hc ⟨by omega,hx⟩)
  rw[hl] at h
  (repeat'((conv=>whnf);first|refine Zg fun _=>?_|refine Zn ?_|refine Z0 ?_|refine Zj ?_|refine Zy ?_|refine Zm ?_|refine Zr (fun _=>?_) fun _=>?_|fail))
  all_goals first | (exfalso;omega) | skip
  all_goals (skip;(conv=>whnf);(repeat' first|exact trivial|rfl|refine And.intro ?_ ?_))
theorem iE {s:List UInt8} (h:tO s):s.take (lead s)=decDigits (aM (s.take (lead s)))∧aM (s.take (lead s))<100000000:=by
 obtain ⟨h1,h2,h3⟩:=h
 have hl:=aCi s
 have hd:=xJ s
 have hlen:(s.take (lead s)).length=lead s:=by rw[List.length_take];omega
 have hh:(s.take (lead s)).headD 0=s.headD 0:=by
  cases s with
  | nil=>rfl
  | cons c r=>
   obtain ⟨k,hk⟩:∃k,lead (c::r)=k+1:=⟨lead (c::r)-1,by omega⟩
   rw[hk];rfl
 refine ⟨(nT _ _ rfl (fun e=>by rw[e] at hlen;simp at hlen;omega) hd ?_).symm,?_⟩
 ·rw[hlen,hh]
  by_cases h48:s.headD 0=48
  ·left
   have:¬1<lead s:=fun hx=>h3 ⟨hx,h48⟩
   omega
  ·exact .inr h48
 ·have h1:=iT (s.take (lead s)) hd
  have h2:(10:Nat)^ (s.take (lead s)).length≤10^8:=Nat.pow_le_pow_right (by omega) (by rw[hlen];omega)
  have h3:(10:Nat)^8=100000000:=by decide
  omega
def c104:Con:=aI 184 true fun args K=>match args with
 | [.str s]=>Br (tO s) (Giv (aM (s.take (lead s))<100000000) (K (.tup [I (aM (s.take (lead s))),S (s.drop (lead s)),.val (.bool true)]))) (K (.tup [I 0,S [],.val (.bool false)]))
 | _=>False
theorem k104:aG Tryz.prog c104:=by
 refine aB rfl (enters_of Tryz.func184 (by kernel_rfl) rfl) ?_
 intro args K h
 simp only[c104] at h
 split at h
 ·rename_i s
  by_cases hf:tO s
  ·exact ⟨_,(h.yes hf).go (iE hf).2,aA (by simp) Tryz.func184 (by simp[Tryz.ntmps184]) rfl (b104y s hf)⟩
  ·exact ⟨_,h.no hf,aA (by simp) Tryz.func184 (by simp[Tryz.ntmps184]) rfl (b104n s hf)⟩
 ·exact h.elim
abbrev nvN (s:List UInt8):Nat:=aM ((digs s).take (lead (digs s)))
abbrev nvR (s:List UInt8):List UInt8:=(digs s).drop (lead (digs s))
abbrev nvD (s:List UInt8):Nat:=aM ((nvR s).tail.take (lead (nvR s).tail))
def nvOK (s:List UInt8):Prop:=tO (digs s)∧¬(s.headD 0=45∧nvN s=0)∧(nvR s= []∨((nvR s).headD 0=47∧tO (nvR s).tail∧(nvR s).tail.drop (lead (nvR s).tail)= []∧2≤nvD s∧Nat.gcd (nvN s) (nvD s)=1))
theorem aPc (s:List UInt8):s=(if s.headD 0=45 then [45] else [])++digs s:=by
 unfold digs
 by_cases h:s.headD 0=45
 ·rw[if_pos h,if_pos h]
  cases s with
  | nil=>simp at h
  | cons c r=>simp at h;rw[h];rfl
 ·rw[if_neg h,if_neg h];rfl
theorem aPd {p:Prop} [Decidable p] {n:Nat} (h:¬(p∧n=0)):itoa (sgP p n)=(if p then [45] else [])++decDigits n:=by
 unfold itoa sgP
 by_cases hp:p
 ·rw[if_pos hp,if_pos hp]
  have:n≠0:=fun e=>h ⟨hp,e⟩
  rw[if_pos (by omega)]
  show 45:: _=45:: _
  congr 2;omega
 ·rw[if_neg hp,if_neg hp,if_neg (by omega)]
  simp
theorem aSo {s:List UInt8} (h:nvOK s):∃q:Rat,s=numS q∧q.num=sgP (s.headD 0=45) (nvN s)∧(q.den:Int)=(if nvR s= [] then 1 else nvD s:Nat)∧nvN s<100000000∧q.den<100000000:=by
 obtain ⟨h1,h2,h3⟩:=h
 obtain ⟨a1,a2⟩:=iE h1
 have hs:=aPc s
 have ht:digs s=decDigits (nvN s)++nvR s:=by
  rw[← a1];exact (List.take_append_drop _ _).symm
 have hi:=aPd h2
 have hs2:s=itoa (sgP (s.headD 0=45) (nvN s))++nvR s:=by
  rw[hi,List.append_assoc,← ht];exact hs
 rcases h3 with h3 | ⟨b1,b2,b3,b4,b5⟩
 ·refine ⟨⟨sgP (s.headD 0=45) (nvN s),1,by decide,by simp⟩,?_,rfl,by rw[if_pos h3],a2,by show (1:Nat)< _;decide⟩
  unfold numS
  rw[if_pos rfl]
  rw[h3,List.append_nil] at hs2
  exact hs2
 ·have hne:nvR s≠ []:=fun e=>by rw[e] at b1;simp at b1
  obtain ⟨c1,c2⟩:=iE b2
  have hr:nvR s=47::decDigits (nvD s):=by
   cases hq:nvR s with
   | nil=>exact absurd hq hne
   | cons c r=>
    have hc:c=47:=by rw[hq] at b1;simpa using b1
    have ht2:(nvR s).tail=r:=by rw[hq];rfl
    rw[← ht2,hc]
    congr 1
    rw[← c1]
    have:=List.take_append_drop (lead (nvR s).tail) (nvR s).tail
    rw[b3,List.append_nil] at this
    exact this.symm
  refine ⟨⟨sgP (s.headD 0=45) (nvN s),nvD s,by omega,?_⟩,?_,rfl,by rw[if_neg hne],a2,c2⟩
  ·rw[uG];exact b5
  ·unfold numS
   rw[if_neg (by show ¬nvD s=1;omega)]
   show s=itoa _++47::decDigits (nvD s)
   rw[← hr];exact hs2
theorem cR {s:List UInt8} (h:nvOK s):s=numS (valQ s)∧(valQ s).num=sgP (s.headD 0=45) (nvN s)∧((valQ s).den:Int)=(if nvR s= [] then 1 else nvD s:Nat)∧(valQ s).num.natAbs<100000000∧(valQ s).den<100000000:=by
 obtain ⟨q,q1,q2,q3,q4,q5⟩:=aSo h
 have e:valQ s=q:=by rw[q1];exact cW q
 rw[e]
 exact ⟨q1,q2,q3,by rw[q2,uG];exact q4,q5⟩
theorem iF (s:List UInt8) (c:UInt8):aW s 0=c.toNat↔s.headD 0=c:=by
 unfold aW
 have e:s.getD 0 0=s.headD 0:=by cases s<;>rfl
 rw[e]
 constructor
 ·intro h
  exact UInt8.toNat.inj (by omega)
 ·intro h;rw[h]
theorem b68y (s:List UInt8) (h:nvOK s):body Tryz.prog [c104,c105] {} true Tryz.f143 [S s] (.tup [.agg [I (sgP (s.headD 0=45) (nvN s)),I (if nvR s= [] then 1 else nvD s:Nat)],.val (.bool true)]):=by
 obtain ⟨h1,h2,h3⟩:=h
 have hb:aW s 0=45↔s.headD 0=45:=iF s 45
 have hd8:=(iE h1).2
 unfold sgP
 by_cases hn:s.headD 0=45
 ·rw[if_pos hn]
  have hb0:aW s 0=45:=hb.2 hn
  have hs0:¬s= []:=fun e=>by rw[e] at hn;simp at hn
  have hlen:(s.drop 1).length=s.length-1:=List.length_drop
  have hpos:=List.length_pos_iff.2 hs0
  have hdg:digs s=s.drop 1:=by unfold digs;rw[if_pos hn,List.drop_one]
  have hN:nvN s≠0:=fun e=>h2 ⟨hn,e⟩
  simp only[nvN,nvR,nvD,hdg] at*
  rcases h3 with h3 | ⟨d1,d2,d3,d4,d5⟩
  ·skip
   rw[if_pos h3]
   (repeat' first|refine ZR ?_|refine Zg fun _=>?_)
   (conv=>whnf)
   (repeat' first|exact trivial|rfl|refine And.intro ?_ ?_)
  ·skip
   have hR:¬List.drop (lead (List.drop 1 s)) (List.drop 1 s)= []:=fun e=>by rw[e] at d1;simp at d1
   have hRp:=List.length_pos_iff.2 hR
   have hb47:aW (List.drop (lead (List.drop 1 s)) (List.drop 1 s)) 0=47:=(iF _ 47).2 d1
   rw[← List.drop_one] at d2 d3 d4 d5
   have hg:((Int.gcd ((aM (List.take (lead (List.drop 1 s)) (List.drop 1 s)):Nat):Int) ((aM (List.take (lead (List.drop 1 (List.drop (lead (List.drop 1 s)) (List.drop 1 s)))) (List.drop 1 (List.drop (lead (List.drop 1 s)) (List.drop 1 s)))):Nat):Int):Nat):Int)=1:=by rw[Int.gcd_natCast_natCast,d5];rfl
   have hd9:=(iE d2).2
   rw[if_neg hR,← List.drop_one]
   (repeat' first|refine ZR ?_|refine Zg fun _=>?_)
   (conv=>whnf)
   (repeat' first|exact trivial|rfl|refine And.intro ?_ ?_)
 ·rw[if_neg hn]
  have hb0:¬aW s 0=45:=fun e=>hn (hb.1 e)
  have hs0:¬s= []:=fun e=>by rw[e] at h1;exact absurd h1.1 (by decide)
  have hpos:=List.length_pos_iff.2 hs0
  have hdg:digs s=s:=by unfold digs;rw[if_neg hn]
  simp only[nvN,nvR,nvD,hdg] at*
  rcases h3 with h3 | ⟨d1,d2,d3,d4,d5⟩
  ·skip
   rw[if_pos h3]
   (repeat' first|refine ZR ?_|refine Zg fun _=>?_)
   (conv=>whnf)
   (repeat' first|exact trivial|rfl|refine And.intro ?_ ?_)
  ·skip
   have hR:¬List.drop (lead s) s= []:=fun e=>by rw[e] at d1;simp at d1
   have hRp:=List.length_pos_iff.2 hR
   have hb47:aW (List.drop (lead s) s) 0=47:=(iF _ 47).2 d1
   rw[← List.drop_one] at d2 d3 d4 d5
   have hg:((Int.gcd ((aM (List.take (lead s) s):Nat):Int) ((aM (List.take (lead (List.drop 1 (List.drop (lead s) s))) (List.drop 1 (List.drop (lead s) s))):Nat):Int):Nat):Int)=1:=by rw[Int.gcd_natCast_natCast,d5];rfl
   have hd9:=(iE d2).2
   rw[if_neg hR,← List.drop_one]
   (repeat' first|refine ZR ?_|refine Zg fun _=>?_)
   (conv=>whnf)
   (repeat' first|exact trivial|rfl|refine And.intro ?_ ?_)
theorem b68n (s:List UInt8) (h:¬nvOK s):body Tryz.prog [c104,c105] {} true Tryz.f143 [S s] (.tup [.agg [I 0,I 0],.val (.bool false)]):=by
 have hb:aW s 0=45↔s.headD 0=45:=iF s 45
 unfold nvOK at h
 by_cases hn:s.headD 0=45
 ·have hb0:aW s 0=45:=hb.2 hn
  have hs0:¬s= []:=fun e=>by rw[e] at hn;simp at hn
  have hlen:(s.drop 1).length=s.length-1:=List.length_drop
  have hpos:=List.length_pos_iff.2 hs0
  have hdg:digs s=s.drop 1:=by unfold digs;rw[if_pos hn,List.drop_one]
  simp only[nvN,nvR,nvD,hdg,← List.drop_one] at h
  (repeat' first|refine ZR ?_|refine Zg fun _=>?_)
  (refine Br.mk (fun _=>?_) (fun _=>?_))
  ·rename_i hk
   (repeat' first|refine ZR ?_|refine Zg fun _=>?_)
   (refine Br.mk (fun _=>?_) (fun _=>?_))
   ·rename_i hN
    (conv=>whnf)
    (repeat' first|exact trivial|rfl|refine And.intro ?_ ?_)
   ·rename_i hN
    (refine Br.mk (fun _=>?_) (fun _=>?_))
    ·rename_i hR
     have hRp:=List.length_pos_iff.2 hR
     (repeat' first|refine ZG ?_|refine Zg fun _=>?_)
     (refine Br.mk (fun _=>?_) (fun _=>?_))
     ·rename_i hc
      (conv=>whnf)
      (repeat' first|exact trivial|rfl|refine And.intro ?_ ?_)
     ·rename_i hc
      have hc:=(iF _ 47).1 (Classical.not_not.1 hc)
      (repeat' first|refine ZG ?_|fail)
      (refine Br.mk (fun _=>?_) (fun _=>?_))
      ·rename_i hk2
       (repeat'((conv=>whnf);first|refine Zg fun _=>?_|fail))
       (refine Br.mk (fun _=>?_) (fun _=>?_))
       ·rename_i he
        (conv=>whnf)
        (repeat' first|exact trivial|rfl|refine And.intro ?_ ?_)
       ·rename_i he
        have he:=Classical.not_not.1 he
        (refine Br.mk (fun _=>?_) (fun _=>?_))
        ·rename_i h2d
         (conv=>whnf)
         (repeat' first|exact trivial|rfl|refine And.intro ?_ ?_)
        ·rename_i h2d
         (repeat' first|refine ZG ?_|fail)
         (refine Br.mk (fun _=>?_) (fun _=>?_))
         ·rename_i hg
          (conv=>whnf)
          (repeat' first|exact trivial|rfl|refine And.intro ?_ ?_)
         ·rename_i hg
          exfalso
          have hg:=Classical.not_not.1 hg
          rw[Int.gcd_natCast_natCast] at hg
          exact h ⟨hk,(fun hx=>hN (by omega)),.inr ⟨hc,hk2,he,by omega,by omega⟩⟩
      ·rename_i hk2
       (conv=>whnf)
       (repeat' first|exact trivial|rfl|refine And.intro ?_ ?_)
    ·rename_i hR
     exfalso
     exact h ⟨hk,(fun hx=>hN (by omega)),.inl (Classical.not_not.1 hR)⟩
  ·rename_i hk
   (conv=>whnf)
   (repeat' first|exact trivial|rfl|refine And.intro ?_ ?_)
 ·have hb0:¬aW s 0=45:=fun e=>hn (hb.1 e)
  have hdg:digs s=s:=by unfold digs;rw[if_neg hn]
  simp only[nvN,nvR,nvD,hdg,← List.drop_one] at h
  by_cases hs0:s= []
  ·subst hs0
   have hk:¬tO []:=fun h=>absurd h.1 (by decide)
   (repeat' first|refine ZR ?_|fail)
   (conv=>whnf)
   (repeat' first|exact trivial|rfl|refine And.intro ?_ ?_)
  ·have hpos:=List.length_pos_iff.2 hs0
   (repeat' first|refine ZR ?_|refine Zg fun _=>?_)
   (refine Br.mk (fun _=>?_) (fun _=>?_))
   ·rename_i hk
    (repeat' first|refine ZR ?_|refine Zg fun _=>?_)
    (refine Br.mk (fun _=>?_) (fun _=>?_))
    ·rename_i hR
     have hRp:=List.length_pos_iff.2 hR
     (repeat' first|refine ZG ?_|refine Zg fun _=>?_)
     (refine Br.mk (fun _=>?_) (fun _=>?_))
     ·rename_i hc
      (conv=>whnf)
      (repeat' first|exact trivial|rfl|refine And.intro ?_ ?_)
     ·rename_i hc
      have hc:=(iF _ 47).1 (Classical.not_not.1 hc)
      (repeat' first|refine ZG ?_|fail)
      (refine Br.mk (fun _=>?_) (fun _=>?_))
      ·rename_i hk2
       (repeat'((conv=>whnf);first|refine Zg fun _=>?_|fail))
       (refine Br.mk (fun _=>?_) (fun _=>?_))
       ·rename_i he
        (conv=>whnf)
        (repeat' first|exact trivial|rfl|refine And.intro ?_ ?_)
       ·rename_i he
        have he:=Classical.not_not.1 he
        (refine Br.mk (fun _=>?_) (fun _=>?_))
        ·rename_i h2d
         (conv=>whnf)
         (repeat' first|exact trivial|rfl|refine And.intro ?_ ?_)
        ·rename_i h2d
         (repeat' first|refine ZG ?_|fail)
         (refine Br.mk (fun _=>?_) (fun _=>?_))
         ·rename_i hg
          (conv=>whnf)
          (repeat' first|exact trivial|rfl|refine And.intro ?_ ?_)
         ·rename_i hg
          exfalso
          have hg:=Classical.not_not.1 hg
          rw[Int.gcd_natCast_natCast] at hg
          exact h ⟨hk,(fun hx=>hn hx.1),.inr ⟨hc,hk2,he,by omega,by omega⟩⟩
      ·rename_i hk2
       (conv=>whnf)
       (repeat' first|exact trivial|rfl|refine And.intro ?_ ?_)
    ·rename_i hR
     exfalso
     exact h ⟨hk,(fun hx=>hn hx.1),.inl (Classical.not_not.1 hR)⟩
   ·rename_i hk
    (conv=>whnf)
    (repeat' first|exact trivial|rfl|refine And.intro ?_ ?_)
noncomputable instance (s:List UInt8):Decidable (nvOK s):=Classical.propDecidable _
def bK (s:List UInt8):Prop:=s=numS (valQ s)∧(valQ s).num.natAbs<100000000∧(valQ s).den<100000000
def c68:Con:=aI 143 true fun args K=>match args with
 | [.str s]=>Br (nvOK s) (Giv (bK s) (K (.tup [.agg [I (valQ s).num,I (valQ s).den],.val (.bool true)]))) (K (.tup [.agg [I 0,I 0],.val (.bool false)]))
 | _=>False
theorem k68:aG Tryz.prog c68:=by
 refine aB rfl (enters_of Tryz.func143 (by kernel_rfl) rfl) ?_
 intro args K h
 simp only[c68] at h
 split at h
 ·rename_i s
  by_cases hf:nvOK s
  ·obtain ⟨v1,v2,v3,v4,v5⟩:=cR hf
   refine ⟨_,(h.yes hf).go ⟨v1,v4,v5⟩,?_⟩
   rw[v2,v3]
   exact aA (by simp[k104,k105]) Tryz.func143 (by simp[Tryz.ntmps143]) rfl (b68y s hf)
  ·exact ⟨_,h.no hf,aA (by simp[k104,k105]) Tryz.func143 (by simp[Tryz.ntmps143]) rfl (b68n s hf)⟩
 ·exact h.elim
theorem mU (n:Nat):itoa (n:Int)=decDigits n:=by
 unfold itoa
 rw[if_neg (by omega),Int.toNat_natCast]
theorem aE8 {g d k:Nat} (h:g≤d) (hd:(decDigits d).length≤k+1):(decDigits g).length≤k+1:=by
 have h2:=iT (decDigits d) (lG _)
 rw[dM] at h2
 exact fH k g (Nat.lt_of_lt_of_le (Nat.lt_of_le_of_lt h h2) (Nat.pow_le_pow_right (by omega) hd))
theorem xV {s:List UInt8} (h:jF s):bot1 s=decDigits (denS s)∧1≤denS s∧(300<(bot1 s).length↔300<(botS s).tail.length):=by
 unfold bot1
 rcases h.2 with h | ⟨h1,h2⟩
 ·have hd:denS s=1:=by unfold denS;rw[if_pos h]
  rw[if_pos h,hd,h]
  exact ⟨(cE (show 1<10 by omega)).symm,Nat.le_refl _,by simp⟩
 ·have hb:botS s≠ []:=fun e=>by
   have hd:denS s=1:=by unfold denS;rw[if_pos e]
   omega
  rw[if_neg hb]
  exact ⟨h1,by omega,Iff.rfl⟩
theorem xW {s:List UInt8} (h:s=numS (valQ s)) (h1:(digs (topS s)).length≤300) (h2:(botS s).tail.length≤300):chkQ s=0:=by
 have hf:jF s:=by rw[h];exact pG _
 have hg:(valI (topS s)).natAbs.gcd (denS s)=1:=by rw[h];exact aCg _
 unfold chkQ
 rw[if_pos hf,if_neg (by omega),if_pos hg]
theorem aAm {n:Nat} (h:n<100000000):(decDigits n).length≤8:=fH 7 n (by simpa using h)
theorem iG {s:List UInt8} (h:bK s):chkQ s=0:=by
 obtain ⟨h1,h2,h3⟩:=h
 refine xW h1 ?_ ?_
 ·rw[h1,iU,bS]
  have:=aAm h2
  omega
 ·rw[h1,mS]
  split
  ·simp
  ·have:=aAm h3
   simp;omega
theorem sQ {s:List UInt8} (h:s=numS (valQ s)):topS s=itoa (valQ s).num∧bot1 s=decDigits (valQ s).den:=by
 have hf:jF s:=by rw[h];exact pG _
 have e:=(xV hf).1
 have ed:denS s=(valQ s).den:=(congrArg denS h).trans (qT _)
 rw[ed] at e
 exact ⟨(congrArg topS h).trans (iU _),e⟩
theorem aJh {d:Nat} (h:(decDigits d).length≤300):form (decDigits d)∧chkI (decDigits d)=0∧valI (decDigits d)=d:=by
 rw[← mU]
 refine ⟨fY _,?_,aU _⟩
 rw[mZ (fY _),if_neg]
 rw[bS]
 simpa using h
noncomputable def rdV (s:List UInt8):SV:=if chkQ s=0 then .tup [.agg [S (itoa (valQ s).num),S (decDigits (valQ s).den)],I 0] else .tup [.agg [S [],S []],I (chkQ s)]
theorem b46 (s:List UInt8):body Tryz.prog [c87,c68,c88,c89] {} true Tryz.f115 [S s] (rdV s):=by
 (refine Br.mk (fun _=>?_) (fun _=>?_))
 ·rename_i hf
  obtain ⟨hb1,hb2,hb3⟩:=xV hf
  (refine Br.mk (fun _=>?_) (fun _=>?_))
  ·rename_i hn
   refine Giv.mk fun hs=>?_
   have h0:=iG hs
   obtain ⟨p1,p2⟩:=sQ hs.1
   unfold rdV
   rw[if_pos h0,← p1,← p2]
   (conv=>whnf)
   (repeat' first|exact trivial|rfl|refine And.intro ?_ ?_)
  ·rename_i hn
   have hq:chkQ s=if 300<(digs (topS s)).length∨300<(bot1 s).length then 4 else if (valI (topS s)).natAbs.gcd (denS s)=1 then 0 else 11:=by
    unfold chkQ
    rw[if_pos hf]
    simp only[hb3]
   have hnum:(valI (topS s)).natAbs.gcd (denS s)=1→topS s=itoa (valQ s).num∧bot1 s=decDigits (valQ s).den:=fun hg=>sQ (aI4 hf hg)
   (repeat' first|refine ZG ?_|refine Zg fun _=>?_)
   (refine Br.mk (fun _=>?_) (fun _=>?_))
   ·rename_i hl
    have h4:chkQ s=4:=by rw[hq,if_pos (.inl (by omega))]
    unfold rdV
    rw[if_neg (by omega),h4]
    (conv=>whnf)
    (repeat' first|exact trivial|rfl|refine And.intro ?_ ?_)
   ·rename_i hl
    (repeat'((conv=>whnf);first|refine Zg fun _=>?_|fail))
    (refine Br.mk (fun _=>?_) (fun _=>?_))
    ·rename_i hl2
     have h4:chkQ s=4:=by rw[hq,if_pos (.inr (by omega))]
     unfold rdV
     rw[if_neg (by omega),h4]
     (conv=>whnf)
     (repeat' first|exact trivial|rfl|refine And.intro ?_ ?_)
    ·rename_i hl2
     rw[if_neg (by omega)] at hq
     (refine Br.mk (fun _=>?_) (fun _=>?_))
     ·rename_i h1
      have hd:denS s=1:=by
       rw[hb1] at h1
       have:=congrArg aM h1
       rw[dM] at this
       exact this
      have hg:(valI (topS s)).natAbs.gcd (denS s)=1:=by rw[hd];exact Nat.gcd_one_right _
      obtain ⟨p1,p2⟩:=hnum hg
      rw[if_pos hg] at hq
      unfold rdV
      rw[if_pos hq,← p1,← p2]
      (conv=>whnf)
      (repeat' first|exact trivial|rfl|refine And.intro ?_ ?_)
     ·rename_i h1
      obtain ⟨d1,d2,d3⟩:=aJh (d:=denS s) (by rw[← hb1];omega)
      have hct:chkI (topS s)=0:=by rw[mZ hf.1,if_neg (by omega)]
      have hb:dH (topS s) (bot1 s) (resI (Int.gcd (valI (topS s)) (valI (bot1 s))))=(decDigits ((valI (topS s)).natAbs.gcd (denS s)),0):=by
       unfold dH chk2
       rw[hb1,hct,d2,d3,if_neg (by simp),show Int.gcd (valI (topS s)) (denS s:Int)=(valI (topS s)).natAbs.gcd (denS s) by unfold Int.gcd;simp]
       unfold resI lim
       rw[if_neg]
       ·rw[mU]
       ·have h3:(valI (topS s)).natAbs.gcd (denS s)≤denS s:=Nat.gcd_le_right _ (by omega)
        have h4:(decDigits (denS s)).length≤300:=by rw[← hb1];omega
        have h5:=aE8 h3 (k:=299) h4
        simpa using h5
      have z1:=congrArg Prod.fst hb
      have z2:(dH (topS s) (bot1 s) (resI (Int.gcd (valI (topS s)) (valI (bot1 s))))).2=0:=congrArg Prod.snd hb
      (repeat' first|refine ZR ?_|fail)
      (refine Br.mk (fun _=>?_) (fun _=>?_))
      ·rename_i hg
       rw[z1] at hg
       have hg1:(valI (topS s)).natAbs.gcd (denS s)≠1:=fun e=>hg (by rw[e];exact cE (show 1<10 by omega))
       rw[if_neg hg1] at hq
       unfold rdV
       rw[if_neg (by omega),hq]
       (conv=>whnf)
       (repeat' first|exact trivial|rfl|refine And.intro ?_ ?_)
      ·rename_i hg
       have hg:=Classical.not_not.1 hg
       rw[z1] at hg
       have hg1:(valI (topS s)).natAbs.gcd (denS s)=1:=by
        have:=congrArg aM hg
        rw[dM] at this
        exact this
       obtain ⟨p1,p2⟩:=hnum hg1
       rw[if_pos hg1] at hq
       unfold rdV
       rw[if_pos hq,← p1,← p2]
       (conv=>whnf)
       (repeat' first|exact trivial|rfl|refine And.intro ?_ ?_)
 ·rename_i hf
  have h11:chkQ s=11:=by unfold chkQ;rw[if_neg hf]
  unfold rdV
  rw[if_neg (by omega),h11]
  (conv=>whnf)
  (repeat' first|exact trivial|rfl|refine And.intro ?_ ?_)
def aPe (s:List UInt8):Prop:=s=numS (valQ s)∧(decDigits (valQ s).num.natAbs).length≤300∧(decDigits (valQ s).den).length≤300
theorem dC {s:List UInt8} (h:chkQ s=0):aPe s:=by
 obtain ⟨h1,h2,h3⟩:=uE h
 have hf:jF s:=by rw[h1];exact pG _
 obtain ⟨p1,p2⟩:=sQ h1
 refine ⟨h1,?_,?_⟩
 ·rw[p1,bS] at h2;exact h2
 ·have:=(xV hf).2.2
  rw[p2] at this
  omega
def c46:Con:=aI 115 true fun args K=>match args with
 | [.str s]=>Br (chkQ s=0) (Giv (aPe s) (K (.tup [.agg [S (itoa (valQ s).num),S (decDigits (valQ s).den)],I 0]))) (K (.tup [.agg [S [],S []],I (chkQ s)]))
 | _=>False
theorem k46:aG Tryz.prog c46:=by
 refine aB rfl (enters_of Tryz.func115 (by kernel_rfl) rfl) ?_
 intro args K h
 simp only[c46] at h
 split at h
 ·rename_i s
  have ht:=aA (r:=rdV s) (Γ:=[c87,c68,c88,c89]) (by simp[k87,k68,k88,k89]) Tryz.func115 (by simp[Tryz.ntmps115]) (by unfold rdV;split<;>rfl) (b46 s)
  unfold rdV at ht
  by_cases hf:chkQ s=0
  ·rw[if_pos hf] at ht
   exact ⟨_,(h.yes hf).go (dC hf),ht⟩
  ·rw[if_neg hf] at ht
   exact ⟨_,h.no hf,by
    cases hc:chkQ s with
    | _=>exact hc ▸ ht⟩
 ·exact h.elim
end RB
end

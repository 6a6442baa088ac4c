/-
  Part 5: a symbolic executor over the model, contracts of functions and plain laws.
-/
import Derived.Test.YtjjnphkdhdjcbaaGreatDoorP4
import Derived.Test.YtjjnphkdhdjcbaaGreatDoorProg
import Derived.Shelf.Abstract
import Derived.Shelf.Strconv.Itoa3
import Derived.Shelf.Strconv.AtoiAll
import Derived.Shelf.Strings.Repeat
import Derived.Shelf.Strings.SlTrimAscii
import Derived.Shelf.Strings.Search3
import Derived.Shelf.Strings.Builder1
import Derived.Lib.SmallJoins
import Derived.Lib.AtoiAllCases
import Derived.Lib.AppendIntMem
set_option linter.unusedVariables false
set_option linter.unusedSimpArgs false
set_option maxRecDepth 10000
set_option maxHeartbeats 80000000
section
namespace IB
open Go.Lib
def sgn (b:Bool) (m:Nat):Int:=if b then -(m:Int) else m
def wrM (b:Bool) (m:Nat):List UInt8:=if m=0 then [48] else if b then 45::decDigits m else decDigits m
theorem Uk (b:Bool) (m:Nat):wrM b m=itoa (sgn b m):=by
 unfold wrM sgn itoa
 by_cases h:m=0
 ·subst h
  rw[if_pos rfl]
  cases b<;>exact (bJ (show 0<10 by omega)).symm
 ·rw[if_neg h]
  cases b
  ·show decDigits m=if (m:Int)<0 then 45::decDigits (m:Int).natAbs else decDigits (m:Int).toNat
   rw[if_neg (by omega),Int.toNat_natCast]
  ·show 45::decDigits m=if -(m:Int)<0 then 45::decDigits (-(m:Int)).natAbs else decDigits (-(m:Int)).toNat
   rw[if_pos (by omega),show (-(m:Int)).natAbs=m by omega]
theorem Lg (x y:Int) (hy:y≠0):(if x.tmod y≠0∧¬(x.tmod y<0↔y<0) then (x.tdiv y-1,x.tmod y+y) else (x.tdiv y,x.tmod y))=(x.fdiv y,x.fmod y):=by
 have h1:=Int.tmod_add_mul_tdiv x y
 have hlt:(x.tmod y).natAbs<y.natAbs:=by rw[Int.natAbs_tmod];exact Nat.mod_lt _ (by omega)
 rcases Int.lt_or_gt_of_ne hy with hn | hp
 ·split
  ·rename_i h
   have:=(Int.fdiv_fmod_unique' (a:=x) (r:=x.tmod y+y) (q:=x.tdiv y-1) hn).2 ⟨by rw[Int.mul_sub,Int.mul_one];omega,by omega,by omega⟩
   rw[this.1,this.2]
  ·rename_i h
   have:=(Int.fdiv_fmod_unique' (a:=x) (r:=x.tmod y) (q:=x.tdiv y) hn).2 ⟨h1,by omega,by omega⟩
   rw[this.1,this.2]
 ·split
  ·rename_i h
   have:=(Int.fdiv_fmod_unique (a:=x) (r:=x.tmod y+y) (q:=x.tdiv y-1) hp).2 ⟨by rw[Int.mul_sub,Int.mul_one];omega,by omega,by omega⟩
   rw[this.1,this.2]
  ·rename_i h
   have:=(Int.fdiv_fmod_unique (a:=x) (r:=x.tmod y) (q:=x.tdiv y) hp).2 ⟨h1,by omega,by omega⟩
   rw[this.1,this.2]
theorem Rn (b:Bool) (m:Nat) (c:Bool) (n:Nat) (hn:0<n):
  (sgn (b != c) (if b≠c∧0<m%n then m/n+1 else m/n),sgn c (if b≠c∧0<m%n then n-m%n else m%n))=((sgn b m).fdiv (sgn c n),(sgn b m).fmod (sgn c n)):=by
 have h1:=Nat.mod_add_div m n
 have h2:=Nat.mod_lt m hn
 have h1':((m%n:Nat):Int)+(n:Int)*((m/n:Nat):Int)=m:=by exact_mod_cast h1
 generalize m%n=r at h1 h1' h2 ⊢
 generalize m/n=q at h1 h1' ⊢
 cases b<;>cases c<;>simp only[sgn,bne_self_eq_false,Bool.false_eq_true,if_false,if_true,ne_eq,not_true_eq_false,false_and,reduceCtorEq,not_false_eq_true,true_and,Bool.bne_true,Bool.bne_false,Bool.not_false]
 ·have:=(Int.fdiv_fmod_unique (a:=(m:Int)) (b:=(n:Int)) (r:=(r:Int)) (q:=(q:Int)) (by omega)).2 ⟨h1',by omega,by omega⟩
  rw[this.1,this.2]
 ·by_cases h:0<r
  ·have:=(Int.fdiv_fmod_unique' (a:=(m:Int)) (b:= -(n:Int)) (r:= -((n-r:Nat):Int)) (q:= -((q+1:Nat):Int)) (by omega)).2 ⟨by rw[Int.neg_mul_neg];simp only[Int.natCast_add,Int.mul_add];omega,by omega,by omega⟩
   rw[if_pos h,if_pos h,this.1,this.2]
  ·have:=(Int.fdiv_fmod_unique' (a:=(m:Int)) (b:= -(n:Int)) (r:= -(r:Int)) (q:= -(q:Int)) (by omega)).2 ⟨by rw[Int.neg_mul_neg];omega,by omega,by omega⟩
   rw[if_neg h,if_neg h,this.1,this.2]
 ·by_cases h:0<r
  ·have:=(Int.fdiv_fmod_unique (a:= -(m:Int)) (b:=(n:Int)) (r:=((n-r:Nat):Int)) (q:= -((q+1:Nat):Int)) (by omega)).2 ⟨by rw[Int.mul_neg];simp only[Int.natCast_add,Int.mul_add];omega,by omega,by omega⟩
   rw[if_pos h,if_pos h,this.1,this.2]
  ·have:=(Int.fdiv_fmod_unique (a:= -(m:Int)) (b:=(n:Int)) (r:=(r:Int)) (q:= -(q:Int)) (by omega)).2 ⟨by rw[Int.mul_neg];omega,by omega,by omega⟩
   rw[if_neg h,if_neg h,this.1,this.2]
 ·have:=(Int.fdiv_fmod_unique' (a:= -(m:Int)) (b:= -(n:Int)) (r:= -(r:Int)) (q:=(q:Int)) (by omega)).2 ⟨by rw[Int.neg_mul];omega,by omega,by omega⟩
  rw[this.1,this.2]
end IB
end
section
namespace IB
open Go.Lib
noncomputable instance (s:List UInt8):Decidable (iR s):=Classical.propDecidable _
noncomputable def chkQ (s:List UInt8):Int:=if iR s then (if 300<(digs (topS s)).length∨300<(botS s).tail.length then 4 else if (valI (topS s)).natAbs.gcd (denS s)=1 then 0 else 11) else 11
theorem Ax {s:List UInt8} (h:chkQ s=0):s=numS (valQ s)∧(digs (topS s)).length≤300∧(botS s).tail.length≤300:=by
 unfold chkQ at h
 split at h
 ·rename_i hf
  split at h
  ·cases h
  ·rename_i hl
   split at h
   ·rename_i hg
    exact ⟨Ji hf hg,by omega,by omega⟩
   ·cases h
 ·cases h
def lim (n:Int):Bool:=decide (300<(decDigits n.natAbs).length)
noncomputable def cS (a b:List UInt8) (f:Rat→Rat→List UInt8 × Int):List UInt8 × Int:=if chkQ a≠0 then ([],chkQ a) else if chkQ b≠0 then ([],chkQ b) else f (valQ a) (valQ b)
noncomputable def addQ (a b:List UInt8):List UInt8 × Int:=cS a b fun p q=>if lim (p.num*q.den) || lim (q.num*p.den) || lim (p.num*q.den+q.num*p.den) || lim (p.den*q.den) then ([],4) else (numS (p+q),0)
noncomputable def subQ (a b:List UInt8):List UInt8 × Int:=cS a b fun p q=>if lim (p.num*q.den) || lim (q.num*p.den) || lim (p.num*q.den-q.num*p.den) || lim (p.den*q.den) then ([],4) else (numS (p-q),0)
noncomputable def mulQ (a b:List UInt8):List UInt8 × Int:=cS a b fun p q=>if lim (p.num*q.num) || lim (p.den*q.den) then ([],4) else (numS (p*q),0)
noncomputable def divQ (a b:List UInt8):List UInt8 × Int:=cS a b fun p q=>if q=0 then ([],12) else if lim (p.num*q.den) || lim (q.num*p.den) then ([],4) else (numS (p/q),0)
end IB
end
section
open Go Go.Proofs Go.Eng Go.Shelf IB
namespace RB
abbrev I (n:Int):SV:=.val (.int .i64 n)
abbrev Ls (xs:List Int):SV:=.seq (.int .i64) xs
abbrev S (s:List UInt8):SV:=.str s
abbrev B9:Nat:=1000000000
theorem gH {n:Int} {C:Nat→Prop} (j:Nat) (e:n=(j:Int)) (h:C j):Ix n C:=by
 refine ⟨fun i e'=>?_⟩
 have:j=i:=by omega
 subst this;exact h
theorem get9 {l:List Int} (h:InB B9 l) (i:Nat):0≤l.getD i 0∧l.getD i 0<1000000000:=h.getD0 (by decide) i
theorem qB (xs:List Int) (k:Nat) (h:k<xs.length):xs.take (k+1)=xs.take k++ [xs.getD k 0]:=by
 rw[List.take_succ_eq_append_getElem h]
 simp[List.getD_eq_getElem?_getD,h]
theorem nG (xs:List Int) (k i:Nat) (h:i<k):(xs.take k).getD i 0=xs.getD i 0:=by
 simp[List.getD_eq_getElem?_getD,List.getElem?_take,h]
abbrev V (xs:List Int):HO:=.vec 1 (.int .i64) xs 3
theorem b131 (xs:List Int):Ce Tryz.prog [] { asks:=[(0,[0])] } Tryz.f159 0 false [.any] (.int .i64) xs 3 (.ref 0 1) (cF xs):=by
 refine Ask.mk ⟨{ X:=Nat,pre:=fun i=>i≤xs.length∧cF (xs.take i)=cF xs,mod:=fun i _=>[(0,.ref 0 1)],heap:=fun i _=>[V (xs.take i),V []],mu:=fun i=>i,objs:=[0] },rfl,?_⟩
 (repeat refine ZG ?_)
 refine ⟨⟨xs.length,⟨Nat.le_refl _,by rw[List.take_length]⟩,?_⟩,fun (i:Nat) hi=>?_⟩
 ·(repeat' first|exact trivial|rfl|exact Nat.one_pos|apply And.intro)
  exact (List.take_length).symm
 ·obtain ⟨hi1,hi2⟩:=hi
  have hl:(xs.take i).length=i:=by rw[List.length_take];omega
  (repeat'((conv=>whnf);first|refine Zg fun _=>?_|fail))
  (apply Br.mk<;>intro)
  ·rename_i h1
   have h0:0<i:=by omega
   obtain ⟨k,rfl⟩:∃k,i=k+1:=⟨i-1,by omega⟩
   (repeat' first|refine ZN ?_|refine Zg fun _=>?_)
   refine gH k (by omega) ?_
   (repeat'((conv=>whnf);first|refine Zg fun _=>?_|fail))
   (apply Br.mk<;>intro)
   ·rename_i hz
    rw[nG _ _ _ (by omega)] at hz
    (repeat' first|refine ZN ?_|refine Zg fun _=>?_)
    refine Own.l (Own.r ?_)
    (repeat refine ZN ?_)
    refine gH k (by omega) ?_
    refine ⟨(k:Nat),by show k<k+1;omega,⟨by omega,?_⟩,?_⟩
    ·rw[← hi2,qB _ _ (by omega),hz,dJ]
    ·(repeat' first|exact trivial|rfl|exact Nat.one_pos|apply And.intro)
     rw[List.take_take];congr 1;omega
   ·rename_i hz
    rw[nG _ _ _ (by omega)] at hz
    (conv=>whnf)
    (repeat' first|rfl|apply And.intro)
    rw[← hi2,qB _ _ (by omega)]
    exact (jQ _ _ hz).symm
  ·have:i=0:=by omega
   subst this
   (conv=>whnf)
   (repeat' first|rfl|apply And.intro)
   rw[← hi2];rfl
theorem b131s (xs:List Int):body Tryz.prog [] { asks:=[(0,[])] } false Tryz.f159 [Ls xs] (Ls (cF xs)):=by
 refine Ask.mk ⟨{ X:=Nat,pre:=fun i=>i≤xs.length∧cF (xs.take i)=cF xs,mod:=fun i _=>[(0,Ls (xs.take i))],heap:=fun i _=>[V []],mu:=fun i=>i },rfl,?_⟩
 (repeat refine ZG ?_)
 refine ⟨⟨xs.length,⟨Nat.le_refl _,by rw[List.take_length]⟩,?_⟩,fun (i:Nat) hi=>?_⟩
 ·(repeat' first|exact trivial|rfl|apply And.intro)
  exact (List.take_length).symm
 ·obtain ⟨hi1,hi2⟩:=hi
  have hl:(xs.take i).length=i:=by rw[List.length_take];omega
  (repeat'((conv=>whnf);first|refine Zg fun _=>?_|fail))
  (apply Br.mk<;>intro)
  ·rename_i h1
   have h0:0<i:=by omega
   obtain ⟨k,rfl⟩:∃k,i=k+1:=⟨i-1,by omega⟩
   (repeat' first|refine ZG ?_|refine Zg fun _=>?_)
   refine gH k (by omega) ?_
   (repeat'((conv=>whnf);first|refine Zg fun _=>?_|fail))
   (apply Br.mk<;>intro)
   ·rename_i hz
    rw[nG _ _ _ (by omega)] at hz
    (repeat' first|refine ZG ?_|refine Zg fun _=>?_)
    refine gH k (by omega) ?_
    refine ⟨(k:Nat),by show k<k+1;omega,⟨by omega,?_⟩,?_⟩
    ·rw[← hi2,qB _ _ (by omega),hz,dJ]
    ·(repeat' first|exact trivial|rfl|apply And.intro)
     rw[List.take_take];congr 1;omega
   ·rename_i hz
    rw[nG _ _ _ (by omega)] at hz
    (conv=>whnf)
    rw[← hi2,qB _ _ (by omega)]
    exact (jQ _ _ hz).symm
  ·have:i=0:=by omega
   subst this
   (conv=>whnf)
   rw[← hi2];rfl
def c131:Con:=Ly 159 false 0 false (fun args o K=>match args,o with | [.any],.vec 1 (.int .i64) xs 3=>K (.ref 0 1) (.vec 1 (.int .i64) (cF xs) 3) | _,_=>False)
 (fun args K=>match args with | [.seq (.int .i64) xs]=>K (Ls (cF xs)) | _=>False)
theorem k131:aF Tryz.prog c131:=by
 refine Nd (enters_of Tryz.func159 (by kernel_rfl) rfl) ?_ ?_
 ·intro args t xs e K hfl h
  split at h
  ·rename_i zs heq
   cases heq
   first | exact ⟨_,_,h,dO (by simp) Tryz.func159 (by simp[Tryz.ntmps159]) rfl (b131 zs)⟩ | exact ⟨_,_,h,dO (by simp) Tryz.func159 (by simp[Tryz.ntmps159]) rfl (b131 xs)⟩
  ·exact h.elim
 ·intro args K h
  split at h
  ·rename_i xs
   exact ⟨_,h,triB Tryz.func159 Tryz.ntmps159 (by simp) (b131s xs)⟩
  ·exact h.elim
theorem b132 (l:List Int) (i:Int) (h:0≤i):body Tryz.prog [] {} true Tryz.f186 [Ls l,I i] (I (l.getD i.toNat 0)):=by
 (repeat'((conv=>whnf);first|refine Zg fun _=>?_|fail))
 (apply Br.mk<;>intro)
 ·(repeat refine ZG ?_)
  refine gH i.toNat (by omega) ?_
  (repeat'((conv=>whnf);first|refine Zg fun _=>?_|fail))
  (conv=>whnf)
  (repeat' first|rfl|apply And.intro)
 ·rename_i h1
  have:l.getD i.toNat 0=0:=pV _ _ (by omega)
  (conv=>whnf)
  rw[this]
  (repeat' first|rfl|apply And.intro)
def c132:Con:=aH 186 true fun args K=>match args with | [.seq (.int .i64) l,.val (.int .i64 i)]=>Need (0≤i) (Ix i fun j=>K (I (l.getD j 0))) | _=>False
theorem k132:aF Tryz.prog c132:=by
 refine kO Tryz.func186 fun args K h=>?_
 simp only[c132] at h;split at h
 ·rename_i l i
  exact ⟨_,h.go.use h.ok,triB Tryz.func186 Tryz.ntmps186 (by simp) (b132 l i h.ok)⟩
 ·exact h.elim
def c108:Con:=aH 150 true fun args K=>match args with | [.val (.int .i64 x),.val (.int .i64 y),.val (.int .i64 c)]=>Need ((0≤x∧x<1000000000)∧(0≤y∧y<1000000000)∧(0≤c∧c≤1)) (K (.tup [I ((x+y+c)%1000000000),I ((x+y+c)/1000000000)])) | _=>False
theorem k108:aF Tryz.prog c108:=by
 refine kQ {} Tryz.func150 Tryz.ntmps150 kn fun _ _ h=>?_
 split at h
 case h_2=>exact h.elim
 refine kb h.go ?_
 replace h:=h.ok
 (repeat refine ZG ?_)
 (conv=>whnf)
 (repeat' first|exact trivial|rfl|apply And.intro)
abbrev mn (x y c:Int):Int:=if 0≤x-y-c then x-y-c else x-y-c+1000000000
abbrev mc (x y c:Int):Int:=if 0≤x-y-c then 0 else 1
def c109:Con:=aH 151 true fun args K=>match args with | [.val (.int .i64 x),.val (.int .i64 y),.val (.int .i64 c)]=>Need ((0≤x∧x<1000000000)∧(0≤y∧y<1000000000)∧(0≤c∧c≤1)) (K (.tup [I (mn x y c),I (mc x y c)])) | _=>False
theorem k109:aF Tryz.prog c109:=by
 refine kQ {} Tryz.func151 Tryz.ntmps151 kn fun _ _ h=>?_
 split at h
 case h_2=>exact h.elim
 refine kb h.go ?_
 replace h:=h.ok
 unfold mn mc
 (repeat refine ZG ?_)
 (apply Br.mk<;>intro)
 ·rename_i hb
  (conv=>whnf)
  rw[if_pos hb,if_pos hb]
  (repeat' first|exact trivial|rfl|apply And.intro)
 ·rename_i hb
  (repeat refine ZG ?_)
  (conv=>whnf)
  rw[if_neg hb,if_neg hb]
  (repeat' first|exact trivial|rfl|apply And.intro)
theorem b107p (a b:List Int) (h:InB B9 a∧InB B9 b∧a.length≤100000∧b.length≤100000):body Tryz.prog [c132,c108,c131] { asks:=[(0,[1])] } true Tryz.f149 [Ls a,Ls b,.clo 150 [] []] (Ls (aD B9 (valB B9 a+valB B9 b).toNat)):=by
 obtain ⟨ha,hb,hla,hlb⟩:=h
 (repeat' first|refine ZG ?_|refine Zg fun _=>?_)
 refine Ask.mk ⟨{ X:=Nat,pre:=fun i=>i≤max a.length b.length+1,mod:=fun i _=>[(7,.ref 1 1),(8,I (addK B9 a b i).2),(18,I i)],heap:=fun i _=>[V [],V (addK B9 a b i).1],mu:=fun i=>max a.length b.length+1-i,objs:=[1] },rfl,?_⟩
 (repeat refine ZG ?_)
 refine ⟨⟨(0:Nat),Nat.zero_le _,by (repeat' first|exact trivial|rfl|exact Nat.one_pos|apply And.intro)⟩,fun (i:Nat) (hi:i≤max a.length b.length+1)=>?_⟩
 obtain ⟨g1,g2,g3,_⟩:=qZ (B:=B9) (by decide) ha hb i
 have ga:=get9 ha i
 have gb:=get9 hb i
 (apply Br.mk<;>intro)
 ·have hlt:i<max a.length b.length+1:=by omega
  (repeat refine ZG ?_)
  refine ⟨(i+1:Nat),by show max a.length b.length+1-(i+1)<max a.length b.length+1-i;omega,hlt,?_⟩
  (repeat' first|exact trivial|rfl|exact Nat.one_pos|apply And.intro)
 ·have e:i=max a.length b.length+1:=by omega
  subst e
  (conv=>whnf)
  rw[← Oh (B:=B9) (by decide) ha hb (Nat.le_max_left _ _) (Nat.le_max_right _ _)]
theorem b107m (a b:List Int) (h:InB B9 a∧InB B9 b∧valB B9 b≤valB B9 a∧a.length≤100000∧b.length≤100000):body Tryz.prog [c132,c109,c131] { asks:=[(0,[1])] } true Tryz.f149 [Ls a,Ls b,.clo 151 [] []] (Ls (aD B9 (valB B9 a-valB B9 b).toNat)):=by
 obtain ⟨ha,hb,hle,hla,hlb⟩:=h
 (repeat' first|refine ZG ?_|refine Zg fun _=>?_)
 refine Ask.mk ⟨{ X:=Nat,pre:=fun i=>i≤max a.length b.length+1,mod:=fun i _=>[(7,.ref 1 1),(8,I (subK B9 a b i).2),(18,I i)],heap:=fun i _=>[V [],V (subK B9 a b i).1],mu:=fun i=>max a.length b.length+1-i,objs:=[1] },rfl,?_⟩
 (repeat refine ZG ?_)
 refine ⟨⟨(0:Nat),Nat.zero_le _,by (repeat' first|exact trivial|rfl|exact Nat.one_pos|apply And.intro)⟩,fun (i:Nat) (hi:i≤max a.length b.length+1)=>?_⟩
 obtain ⟨g1,g2,g3,_⟩:=rA (B:=B9) (by decide) ha hb i
 have ga:=get9 ha i
 have gb:=get9 hb i
 (apply Br.mk<;>intro)
 ·have hlt:i<max a.length b.length+1:=by omega
  (repeat refine ZG ?_)
  refine ⟨(i+1:Nat),by show max a.length b.length+1-(i+1)<max a.length b.length+1-i;omega,hlt,?_⟩
  (repeat' first|exact trivial|rfl|exact Nat.one_pos|apply And.intro)
 ·have e:i=max a.length b.length+1:=by omega
  subst e
  (conv=>whnf)
  rw[← (Oi (B:=B9) (by decide) ha hb (n:=max a.length b.length+1) (by omega) (by omega) hle).1]
def c107:Con:=aH 149 true fun args K=>match args with
 | [.seq (.int .i64) a,.seq (.int .i64) b,.clo 150 [] []]=>Need (InB B9 a∧InB B9 b∧a.length≤100000∧b.length≤100000) (K (Ls (aD B9 (valB B9 a+valB B9 b).toNat)))
 | [.seq (.int .i64) a,.seq (.int .i64) b,.clo 151 [] []]=>Need (InB B9 a∧InB B9 b∧valB B9 b≤valB B9 a∧a.length≤100000∧b.length≤100000) (K (Ls (aD B9 (valB B9 a-valB B9 b).toNat)))
 | _=>False
theorem k107:aF Tryz.prog c107:=by
 refine kO Tryz.func149 fun args K h=>?_
 simp only[c107] at h;split at h
 ·rename_i a b
  exact ⟨_,h.go,triB Tryz.func149 Tryz.ntmps149 (by simp[k132,k108,k131]) (b107p a b h.ok)⟩
 ·rename_i a b
  exact ⟨_,h.go,triB Tryz.func149 Tryz.ntmps149 (by simp[k132,k109,k131]) (b107m a b h.ok)⟩
 ·exact h.elim
theorem c9:((B9:Nat):Int)=1000000000:=rfl
theorem Lr {x y B:Int} (hx:0≤x∧x<B) (hy:0≤y∧y<B):0≤x*y∧x*y≤(B-1)*(B-1):=by
 refine ⟨Int.mul_nonneg hx.1 hy.1,?_⟩
 calc x*y≤(B-1)*y:=Int.mul_le_mul_of_nonneg_right (by omega) hy.1
  _≤(B-1)*(B-1):=Int.mul_le_mul_of_nonneg_left (by omega) (by omega)
theorem b99 (a b:List Int) (h:InB B9 a∧InB B9 b∧a.length≤100000∧b.length≤100000):Ii Tryz.prog [c132,c131] { asks:=[(0,[]),(2,[])] } Tryz.f155 [Ls a,Ls b] (.ref 0 1) (.int .i64) (aD B9 (valB B9 a*valB B9 b).toNat) 3:=by
 obtain ⟨ha,hb,hla,hlb⟩:=h
 obtain ⟨n,hn⟩:∃n,n=a.length+b.length+1:=⟨_,rfl⟩
 (repeat' first|refine ZG ?_|refine Zg fun _=>?_)
 refine Ask.mk ⟨{ X:=Nat,pre:=fun i=>i≤a.length,mod:=fun i _=>[(20,I i)],heap:=fun i _=>[V [],V (mulR B9 a b (List.replicate n 0) i)],mu:=fun i=>a.length-i },rfl,?_⟩
 (repeat refine ZG ?_)
 refine ⟨⟨(0:Nat),Nat.zero_le _,?_⟩,fun (i:Nat) (hi:i≤a.length)=>?_⟩
 ·(repeat' first|exact trivial|rfl|apply And.intro)
  show List.replicate _ _=List.replicate _ _
  congr 1;omega
 obtain ⟨g1,g2,g3⟩:=rC (B:=B9) (by decide) ha hb (n:=n) (by omega) i hi
 have ga:=get9 ha i
 (apply Br.mk<;>intro)
 ·have hlt:i<a.length:=by omega
  (repeat' first|refine ZG ?_|refine Zg fun _=>?_)
  refine Ask.mk ⟨{ X:=Nat,pre:=fun k=>k≤b.length+1,mod:=fun k _=>[(28,I k),(8,I (mulK B9 (a.getD i 0) b i (mulR B9 a b (List.replicate n 0) i) k).2)],heap:=fun k _=>[V [],V (mulK B9 (a.getD i 0) b i (mulR B9 a b (List.replicate n 0) i) k).1],mu:=fun k=>b.length+1-k },rfl,?_⟩
  (repeat refine ZG ?_)
  refine ⟨⟨(0:Nat),Nat.zero_le _,by (repeat' first|exact trivial|rfl|apply And.intro)⟩,fun (k:Nat) (hk:k≤b.length+1)=>?_⟩
  obtain ⟨m1,m2,m3,_⟩:=jS (B:=B9) (by decide) (x:=a.getD i 0) ⟨ga.1,by rw[c9];exact ga.2⟩ hb (i:=i) g2 k (by omega)
  have m3:0≤(mulK B9 (a.getD i 0) b i (mulR B9 a b (List.replicate n 0) i) k).2∧(mulK B9 (a.getD i 0) b i (mulR B9 a b (List.replicate n 0) i) k).2<1000000000:=m3
  have gb:=get9 hb k
  have gm:=get9 m2 (i+k)
  have hm:=Lr ga gb
  (apply Br.mk<;>intro)
  ·have hlt:k<b.length+1:=by omega
   (repeat'((conv=>whnf);first|refine Zg fun _=>?_|refine Za ?_|refine Zn ?_|refine Zj ?_|(apply Pin.mk;apply Exists.intro)|apply Pinned.mk rfl rfl|fail))
   refine ⟨(k+1:Nat),by show b.length+1-(k+1)<b.length+1-k;omega,hlt,?_⟩
   (repeat' first|exact trivial|rfl|apply And.intro)
  ·have e:k=b.length+1:=by omega
   subst e
   (repeat refine ZG ?_)
   refine ⟨(i+1:Nat),by show a.length-(i+1)<a.length-i;omega,hlt,?_⟩
   (repeat' first|exact trivial|rfl|apply And.intro)
 ·have e:i=a.length:=by omega
  subst e
  (conv=>whnf)
  (repeat' first|rfl|apply And.intro)
  exact Ok (B:=B9) (by decide) ha hb (by omega)
def c99:Con:=Ey 155 fun args K=>match args with | [.seq (.int .i64) a,.seq (.int .i64) b]=>Need (InB B9 a∧InB B9 b∧a.length≤100000∧b.length≤100000) (K (.ref 0 1) (.vec 1 (.int .i64) (aD B9 (valB B9 a*valB B9 b).toNat) 3)) | _=>False
theorem k99:aF Tryz.prog c99:=by
 refine Cx (enters_of Tryz.func155 (by kernel_rfl) rfl) ?_
 intro args K h
 split at h
 ·rename_i a b;exact ⟨_,_,_,_,_,h.go,fun hfl=>kH (by simp[k132,k131]) Tryz.func155 (by simp[Tryz.ntmps155]) hfl (b99 a b h.ok)⟩
 ·exact h.elim
abbrev itB (xs:List Int) (k:Nat):List SV:=[I ((xs.length-1-k:Nat)),I (xs.getD (xs.length-1-k) 0)]
def c135:Con:=aH 182 false fun args K=>match args with | [.seq (.int .i64) xs]=>K (.clo 215 [] [.lelem [Ls xs] 0]) | _=>False
theorem k135:aF Tryz.prog c135:=by
 refine kQ {} Tryz.func182 Tryz.ntmps182 kn fun _ _ h=>?_
 split at h
 case h_2=>exact h.elim
 refine kb h ?_
 (conv=>whnf)
 (repeat' first|exact trivial|rfl|apply And.intro)
theorem b166 (xs:List Int):rP Tryz.prog [] { asks:=[(0,[])] } Tryz.f215 [.lelem [Ls xs] 0] xs.length (itB xs):=by
 (repeat' first|refine ZG ?_|refine Zg fun _=>?_)
 refine Ask.mk ⟨{ X:=Nat,pre:=fun i=>i≤xs.length,mod:=fun i _=>[(3,I ((xs.length:Int)-1-i))],heap:=fun i _=>[.yst (some i) xs.length (itB xs)],mu:=fun i=>xs.length-i },rfl,?_⟩
 (repeat refine ZG ?_)
 refine ⟨⟨(0:Nat),Nat.zero_le _,by (repeat' first|exact trivial|rfl|apply And.intro|omega)⟩,fun (i:Nat) (hi:i≤xs.length)=>?_⟩
 (apply Br.mk<;>intro)
 ·have hlt:i<xs.length:=by omega
  have e:((xs.length:Int)-1-i)=((xs.length-1-i:Nat):Int):=by omega
  (repeat refine ZG ?_)
  refine gH (xs.length-1-i) (by omega) ?_
  (repeat'((conv=>whnf);first|refine Zg fun _=>?_|refine Zn ?_|fail))
  refine Need.mk (by (repeat' first|exact trivial|rfl|apply And.intro);exact e) ?_
  refine Two.mk ?_ ?_
  ·(repeat refine ZG ?_)
   refine ⟨(i+1:Nat),by show xs.length-(i+1)<xs.length-i;omega,hlt,?_⟩
   (repeat' first|exact trivial|rfl|apply And.intro|omega)
  ·(conv=>whnf)
   trivial
 ·(conv=>whnf)
  omega
def c166:Con:=aH 215 false fun args K=>match args with | [.lelem [.seq (.int .i64) xs] 0]=>K (.itr xs.length (itB xs)) | _=>False
theorem k166:aF Tryz.prog c166:=by
 refine kO Tryz.func215 fun args K h=>?_
 simp only[c166] at h;split at h
 ·rename_i xs;exact ⟨_,h,fD (by simp) Tryz.func215 (by simp[Tryz.ntmps215]) (b166 xs)⟩
 ·exact h.elim
def kW (a b:List Int):Nat→Int
 | 0=>0
 | m+1=>if a.getD m 0=b.getD m 0 then kW a b m else a.getD m 0-b.getD m 0
def cmpL (a b:List Int):Int:=if a.length=b.length then kW a b a.length else (a.length:Int)-b.length
def c129:Con:=aH 160 true fun args K=>match args with | [.seq (.int .i64) a,.seq (.int .i64) b]=>Need (InB B9 a∧InB B9 b) (K (I (cmpL a b))) | _=>False
theorem k129:aF Tryz.prog c129:=by
 refine kQ { asks:=[(0,[])] } Tryz.func160 Tryz.ntmps160 (kc k135 (kc k166 kn)) fun _ _ h=>?_
 split at h
 case h_2=>exact h.elim
 rename_i a b
 refine kb h.go ?_
 replace h:=h.ok
 obtain ⟨ha,hb⟩:=h
 unfold cmpL
 (repeat'((conv=>whnf);first|refine Zg fun _=>?_|fail))
 (apply Br.mk<;>intro)
 ·rename_i h1
  rw[if_neg (by omega)]
  (repeat' first|refine ZG ?_|refine Zg fun _=>?_)
  (conv=>whnf)
  (repeat' first|rfl|apply And.intro)
 ·rename_i h1
  rw[if_pos (by omega)]
  have hl:a.length=b.length:=by omega
  refine Ask.mk ⟨{ X:=Nat,pre:=fun i=>i≤a.length∧kW a b a.length=kW a b (a.length-i),mod:=fun _ _=>[],heap:=fun _ _=>[.cells [Ls b] 119,.cells [I 0] 3],mu:=fun i=>i },rfl,?_⟩
  (repeat refine ZG ?_)
  refine ⟨⟨(0:Nat),rfl,⟨Nat.zero_le _,rfl⟩,by (repeat' first|exact trivial|rfl|apply And.intro)⟩,fun (i:Nat) hi (hlt:i<a.length)=>?_,fun (i:Nat) hi (he:i=a.length)=>?_⟩
  ·obtain ⟨hi1,hi2⟩:=hi
   obtain ⟨m,hm⟩:∃m,a.length-i=m+1:=⟨a.length-i-1,by omega⟩
   have e1:a.length-1-i=m:=by omega
   have e2:a.length-(i+1)=m:=by omega
   have ga:=get9 ha m
   have gb:=get9 hb m
   rw[hm,kW] at hi2
   have eI:itB a i= [I m,I (a.getD m 0)]:=by rw[itB,e1]
   show hnfL (itB a i) _
   rw[eI]
   (repeat' first|refine ZG ?_|refine Zg fun _=>?_)
   (apply Br.mk<;>intro)
   ·rename_i hne
    rw[if_neg hne] at hi2
    (repeat' first|refine ZG ?_|refine Zg fun _=>?_)
    (conv=>whnf)
    (repeat' first|rfl|apply And.intro)
    exact hi2.symm
   ·rename_i heq
    rw[if_pos (Classical.not_not.1 heq)] at hi2
    refine ⟨(i+1:Nat),rfl,⟨by omega,by rw[e2];exact hi2⟩,by (repeat' first|exact trivial|rfl|apply And.intro)⟩
  ·obtain ⟨hi1,hi2⟩:=hi
   subst he
   rw[Nat.sub_self] at hi2
   (conv=>whnf)
   (repeat' first|rfl|apply And.intro)
   exact hi2.symm
theorem sI {a b:List Int} (ha:InB B9 a) (hb:InB B9 b) (hl:a.length=b.length):∀m,m≤a.length→(∀j,m≤j→j<a.length→a.getD j 0=b.getD j 0)→
  (kW a b m<0↔valB B9 a<valB B9 b)∧(kW a b m=0↔valB B9 a=valB B9 b)
 | 0,_,h=>by
  have:a=b:=jT hl fun j hj=>h j (Nat.zero_le _) hj
  subst this
  simp[kW]
 | m+1,hm,h=>by
  simp only[kW]
  by_cases e:a.getD m 0=b.getD m 0
  ·rw[if_pos e]
   refine sI ha hb hl m (by omega) fun j h1 h2=>?_
   by_cases e2:j=m
   ·rw[e2];exact e
   ·exact h j (by omega) h2
  ·rw[if_neg e]
   rcases Int.lt_or_gt_of_ne e with h1 | h1
   ·have:=Jk (B:=B9) (by decide) ha hb hl (by omega) (fun j h2 h3=>h j (by omega) h3) h1
    omega
   ·have:=Jk (B:=B9) (by decide) hb ha hl.symm (by omega) (fun j h2 h3=>(h j (by omega) (by omega)).symm) h1
    omega
theorem wB (m n:Nat):(cmpL (aD B9 m) (aD B9 n)<0↔m<n)∧(cmpL (aD B9 m) (aD B9 n)=0↔m=n):=by
 unfold cmpL
 split
 ·rename_i hl
  have:=sI (bD (B:=B9) (by decide) m) (bD (B:=B9) (by decide) n) hl _ (Nat.le_refl _) fun j h1 h2=>by omega
  rw[dB (by decide),dB (by decide)] at this
  omega
 ·rename_i hl
  rcases Nat.lt_or_ge (aD B9 m).length (aD B9 n).length with h | h
  ·have:=mG (B:=B9) (by decide) h
   omega
  ·have:=mG (B:=B9) (by decide) (show (aD B9 n).length<(aD B9 m).length by omega)
   omega
end RB
end
section
open Go Go.Proofs Go.Eng Go.Shelf IB Go.Lib Go.RowKit
namespace RB
abbrev Sid:=Int × Int × Int × Int × Bool × Int × Int
abbrev tSid:Ty:=.pair (.int .i64) (.pair (.int .i64) (.pair (.int .i64) (.pair (.int .i64) (.pair .bool (.pair (.int .i64) (.int .i64))))))
abbrev sd0:Sid:=(0,0,0,0,false,0,0)
def ranQ (x y a b:Int) (p:Prop) (u v:Int):Prop:=((p→a=0∧b=0)∧(¬p→(1≤a∧a≤48)∧1≤b∧b≤48))∧(0≤x∧x≤65536)∧(0≤y∧y≤65536)∧(0≤u∧u≤65536)∧0≤v∧v≤65536
instance (x y a b:Int) (p:Prop) [Decidable p] (u v:Int):Decidable (ranQ x y a b p u v):=by unfold ranQ;exact inferInstance
def ranP (s:Sid):Prop:=ranQ s.1 s.2.1 s.2.2.1 s.2.2.2.1 (s.2.2.2.2.1=true) s.2.2.2.2.2.1 s.2.2.2.2.2.2
instance (s:Sid):Decidable (ranP s):=by unfold ranP;exact inferInstance
theorem ixA {n:Int} {C:Nat→Prop} (j:Nat) (e:n=j) (h:C j):Ix n C:=⟨fun i h'=>by
 have:j=i:=by omega
 subst this;exact h⟩
def bfI (n i:Nat):Nat:=if i=0 then n-1 else i-1
def nxI (n i:Nat):Nat:=if i+1=n then 0 else i+1
theorem Gu {n i:Nat} (h:i<n):bfI n i<n:=by unfold bfI;split<;>omega
theorem vP {n i:Nat} (h:i<n):nxI n i<n:=by unfold nxI;split<;>omega
theorem Jq {n i:Nat} (h:i<n):(i+n-1)%n=bfI n i:=by
 unfold bfI
 split
 ·rename_i e;subst e;rw[Nat.mod_eq_of_lt (by omega)];omega
 ·rw[show i+n-1=(i-1)+n by omega,Nat.add_mod_right,Nat.mod_eq_of_lt (by omega)]
theorem Jr {n i:Nat} (h:i<n):(i+1)%n=nxI n i:=by
 unfold nxI
 split
 ·rename_i e;rw[e,Nat.mod_self]
 ·rw[Nat.mod_eq_of_lt (by omega)]
def bfS (r:List Sid) (i:Nat):Sid:=r.getD (bfI r.length i) sd0
def owS (r:List Sid) (i:Nat):Sid:=r.getD i sd0
def nxS (r:List Sid) (i:Nat):Sid:=r.getD (nxI r.length i) sd0
def shp1 (r:List Sid) (i:Nat):Prop:=(((nxS r i).1-(owS r i).1=0)↔¬((nxS r i).2.1-(owS r i).2.1=0))∧(((owS r i).1-(bfS r i).1=0)↔¬((nxS r i).1-(owS r i).1=0))
instance (r:List Sid) (i:Nat):Decidable (shp1 r i):=by unfold shp1;exact inferInstance
def shpP (r:List Sid):Prop:=4≤r.length∧∀i,i<r.length→shp1 r i
instance (r:List Sid):Decidable (shpP r):=by unfold shpP;exact inferInstance
abbrev Bx:=(Int × Int) × (Int × Int)
abbrev tBx:Ty:=.pair (.pair (.int .i64) (.int .i64)) (.pair (.int .i64) (.int .i64))
abbrev bx0:Bx:=((0,0),(0,0))
def bxS (p q:Sid):Bx:=((min p.1 q.1,min p.2.1 q.2.1),(max p.1 q.1,max p.2.1 q.2.1))
def metB (a b:Bx):Prop:=a.1.1≤b.2.1∧b.1.1≤a.2.1∧a.1.2≤b.2.2∧b.1.2≤a.2.2
instance (a b:Bx):Decidable (metB a b):=by unfold metB;exact inferInstance
def bxN (r:List Sid) (i:Nat):List Bx:=(List.range i).map fun k=>bxS (owS r k) (nxS r k)
def plN (m:Nat) (i:Nat):List (Int × Int):=(List.range i).map fun (k:Nat)=>((m:Int),(k:Int))
def bxA (R:List (List Sid)):Nat→List Bx
 | 0=>[]
 | m+1=>bxA R m++bxN (R.getD m []) (R.getD m []).length
def plA (R:List (List Sid)):Nat→List (Int × Int)
 | 0=>[]
 | m+1=>plA R m++plN m (R.getD m []).length
theorem Ou (r:List Sid) (i:Nat):bxN r (i+1)=bxN r i++ [bxS (owS r i) (nxS r i)]:=by simp[bxN,List.range_succ]
theorem Ov (m i:Nat):plN m (i+1)=plN m i++ [((m:Int),(i:Int))]:=by simp[plN,List.range_succ]
theorem Ba (r:List Sid) (i:Nat):(bxN r i).length=i:=by simp[bxN]
theorem Bb (m i:Nat):(plN m i).length=i:=by simp[plN]
def cnt (R:List (List Sid)):Nat→Nat
 | 0=>0
 | m+1=>cnt R m+(R.getD m []).length
theorem sV (R:List (List Sid)):∀m,(bxA R m).length=cnt R m
 | 0=>rfl
 | m+1=>by rw[bxA,cnt,List.length_append,sV R m,Ba]
theorem sW (R:List (List Sid)):∀m,(plA R m).length=cnt R m
 | 0=>rfl
 | m+1=>by rw[plA,cnt,List.length_append,sW R m,Bb]
theorem mH (R:List (List Sid)) {m n:Nat} (h:m≤n):cnt R m≤cnt R n:=by
 induction n with
 | zero=>rw[show m=0 by omega];exact Nat.le_refl _
 | succ n ih=>
  by_cases e:m=n+1
  ·rw[e];exact Nat.le_refl _
  ·have:=ih (by omega)
   rw[cnt];omega
theorem Bc (R:List (List Sid)):∀m,∀p∈plA R m,∃a b:Nat,p=((a:Int),(b:Int))∧a<m∧b<(R.getD a []).length
 | 0,p,h=>absurd h (by simp[plA])
 | m+1,p,h=>by
  rw[plA,List.mem_append] at h
  rcases h with h | h
  ·obtain ⟨a,b,e,h1,h2⟩:=Bc R m p h
   exact ⟨a,b,e,by omega,h2⟩
  ·simp only[plN,List.mem_map,List.mem_range] at h
   obtain ⟨k,hk,e⟩:=h
   exact ⟨m,k,e.symm,by omega,hk⟩
def nbP (n:Int) (p q:Int × Int):Prop:=p.1=q.1∧(p.2-q.2=1∨p.2-q.2=n-1)
instance (n:Int) (p q:Int × Int):Decidable (nbP n p q):=by unfold nbP;exact inferInstance
def cr1 (R:List (List Sid)) (i k:Nat):Prop:=¬nbP ((R.getD ((plA R R.length).getD i (0,0)).1.toNat []).length:Int) ((plA R R.length).getD i (0,0)) ((plA R R.length).getD k (0,0))∧metB ((bxA R R.length).getD i bx0) ((bxA R R.length).getD k bx0)
instance (R:List (List Sid)) (i k:Nat):Decidable (cr1 R i k):=by unfold cr1;exact inferInstance
def crP (R:List (List Sid)):Prop:=¬ ∀i,i<cnt R R.length→∀k,k<i→¬cr1 R i k
instance (R:List (List Sid)):Decidable (crP R):=by unfold crP;exact inferInstance
def crS (p q:Sid):Int:=p.1*q.2.1-p.2.1*q.1
def arN (r:List Sid):Nat→Int
 | 0=>0
 | i+1=>arN r i+crS (owS r i) (nxS r i)
def ups (r:List Sid) (x y:Int) (i:Nat):Prop:=(nxS r i).1-(owS r i).1=0∧x<(owS r i).1∧¬((y<(owS r i).2.1)↔(y<(nxS r i).2.1))
instance (r:List Sid) (x y:Int) (i:Nat):Decidable (ups r x y i):=by unfold ups;exact inferInstance
def insN (r:List Sid) (x y:Int):Nat→Bool
 | 0=>false
 | i+1=>if ups r x y i then !(insN r x y i) else insN r x y i
def pl1 (R:List (List Sid)) (i:Nat):Prop:=((0<arN (R.getD i []) (R.getD i []).length)↔i=0)∧(i=0∨∀k,k<R.length→k=i∨((insN (R.getD k []) ((R.getD i []).getD 0 sd0).1 ((R.getD i []).getD 0 sd0).2.1 (R.getD k []).length=true)↔k=0))
instance (R:List (List Sid)) (i:Nat):Decidable (pl1 R i):=by unfold pl1;exact inferInstance
def plcP (R:List (List Sid)):Prop:=∀i,i<R.length→pl1 R i
instance (R:List (List Sid)):Decidable (plcP R):=by unfold plcP;exact inferInstance
def lefP (r:List Sid) (i:Nat):Prop:=0<((owS r i).1-(bfS r i).1)*((nxS r i).2.1-(owS r i).2.1)-((owS r i).2.1-(bfS r i).2.1)*((nxS r i).1-(owS r i).1)
instance (r:List Sid) (i:Nat):Decidable (lefP r i):=by unfold lefP;exact inferInstance
def jo1 (r:List Sid) (i:Nat):Prop:=¬lefP r i∧((owS r i).2.2.2.2.1=true∨(bfS r i).2.2.2.2.1=true∨¬(owS r i).2.2.2.2.2.1=(bfS r i).2.2.2.2.2.1)
instance (r:List Sid) (i:Nat):Decidable (jo1 r i):=by unfold jo1;exact inferInstance
def joB (R:List (List Sid)):Prop:=∀m,m<R.length→∀i,i<(R.getD m []).length→¬jo1 (R.getD m []) i
instance (R:List (List Sid)):Decidable (joB R):=by unfold joB;exact inferInstance
def joS (R:List (List Sid)):Prop:=¬ ∀m,m<R.length→∀i,i<(R.getD m []).length→(owS (R.getD m []) i).2.2.2.2.1=true
instance (R:List (List Sid)):Decidable (joS R):=by unfold joS;exact inferInstance
def bZ (R:List (List Sid)):Int:=
 if ∃r∈R,r.length=0 then 5
 else if cnt R R.length=0 then 5
 else if 24<cnt R R.length then 4
 else if ∃s∈R.flatten,¬ranP s then 2
 else if ∃r∈R,¬shpP r then 14
 else if crP R then 15
 else if ¬plcP R∨¬joB R∨¬joS R then 14 else 0
theorem iI {R:List (List Sid)} (h:bZ R=0):(∀r∈R,0<r.length)∧0<cnt R R.length∧cnt R R.length≤24∧(∀r∈R,∀s∈r,ranP s)∧∀r∈R,shpP r:=by
 unfold bZ at h
 split at h
 ·exact absurd h (by decide)
 rename_i h1
 split at h
 ·exact absurd h (by decide)
 rename_i h2
 split at h
 ·exact absurd h (by decide)
 rename_i h3
 split at h
 ·exact absurd h (by decide)
 rename_i h4
 split at h
 ·exact absurd h (by decide)
 rename_i h5
 refine ⟨fun r hr=>?_,by omega,by omega,fun r hr s hs=>?_,fun r hr=>?_⟩
 ·rcases Nat.eq_zero_or_pos r.length with e | e
  ·exact absurd ⟨r,hr,e⟩ h1
  ·exact e
 ·exact Decidable.byContradiction fun e=>h4 ⟨s,List.mem_flatten.2 ⟨r,hr,hs⟩,e⟩
 ·exact Decidable.byContradiction fun e=>h5 ⟨r,hr,e⟩
def exR:List (List Sid):=[[(0,0,3,4,false,0,0),(100,0,0,0,true,0,0),(100,80,3,4,false,0,0),(0,80,0,0,true,0,0)]]
theorem Ow:bZ exR=0:=by decide+kernel
abbrev ag (s:Sid):List SV:=[I s.1,I s.2.1,I s.2.2.1,I s.2.2.2.1,.bl (s.2.2.2.2.1=true) inferInstance,I s.2.2.2.2.2.1,I s.2.2.2.2.2.2]
theorem sZ {a b:Int} (ha: -65536≤a∧a≤65536) (hb: -65536≤b∧b≤65536): -4294967296≤a*b∧a*b≤4294967296:=by
 have h:(a*b).natAbs≤65536*65536:=by rw[Int.natAbs_mul];exact Nat.mul_le_mul (by omega) (by omega)
 omega
def c4066:Con:=aH 66 true fun args K=>match args with | [.val (.int .i64 n),.val (.int .i64 f),.val (.int .i64 t)]=>K (.bl (f≤n∧n≤t) inferInstance) | _=>False
theorem k4066:aF Tryz.prog c4066:=by
 refine kQ {} Tryz.func66 Tryz.ntmps66 kn fun _ _ h=>?_
 split at h
 case h_2=>exact h.elim
 rename_i n f t
 refine kb h ?_
 by_cases h1:f≤n
 ·(repeat refine ZR ?_)
  (conv=>whnf)
  exact ⟨fun h=>⟨h1,h⟩,fun h=>h.2⟩
 ·(repeat refine ZR ?_)
  (conv=>whnf)
  exact fun h=>h1 h.1
def c4069:Con:=aH 69 true fun args K=>match args with | [.agg [.val (.int .i64 x),.val (.int .i64 y),.val (.int .i64 a),.val (.int .i64 b),.bl p d,.val (.int .i64 u),.val (.int .i64 v)]]=>K (.agg [I x,I y]) | _=>False
theorem vV:aF Tryz.prog c4069:=by
 refine kQ {} Tryz.func69 Tryz.ntmps69 kn fun _ _ h=>?_
 split at h
 case h_2=>exact h.elim
 refine kb h ?_
 (conv=>whnf)
 (repeat' first|exact trivial|rfl|apply And.intro)
def c4070:Con:=aH 70 true fun args K=>match args with | [.agg [.val (.int .i64 x),.val (.int .i64 y)],.agg [.val (.int .i64 z),.val (.int .i64 w)]]=>Need (((0≤x∧x≤65536)∧0≤y∧y≤65536)∧(0≤z∧z≤65536)∧0≤w∧w≤65536) (K (.agg [I (z-x),I (w-y)])) | _=>False
theorem Pj:aF Tryz.prog c4070:=by
 refine kQ {} Tryz.func70 Tryz.ntmps70 kn fun _ _ h=>?_
 split at h
 case h_2=>exact h.elim
 refine kb h.go ?_
 replace h:=h.ok
 (repeat refine ZG ?_)
 (conv=>whnf)
 (repeat' first|exact trivial|rfl|apply And.intro)
def c4139:Con:=aH 139 true fun args K=>match args with | [.agg [.val (.int .i64 x),.val (.int .i64 y)],.agg [.val (.int .i64 z),.val (.int .i64 w)]]=>Need (((-65536≤x∧x≤65536)∧ -65536≤y∧y≤65536)∧(-65536≤z∧z≤65536)∧ -65536≤w∧w≤65536) (K (I (x*w-y*z))) | _=>False
theorem Tw:aF Tryz.prog c4139:=by
 refine kQ {} Tryz.func139 Tryz.ntmps139 kn fun _ _ h=>?_
 split at h
 case h_2=>exact h.elim
 refine kb h.go ?_
 replace h:=h.ok
 have h1:=sZ h.1.1 h.2.2
 have h2:=sZ h.1.2 h.2.1
 (repeat refine ZG ?_)
 (conv=>whnf)
 (repeat' first|rfl|apply And.intro)
def c4071:Con:=aH 71 true fun args K=>match args with | [.agg [.val (.int .i64 x0),.val (.int .i64 y0),.val (.int .i64 a0),.val (.int .i64 b0),.bl p0 d0,.val (.int .i64 u0),.val (.int .i64 v0),.val (.int .i64 x1),.val (.int .i64 y1),.val (.int .i64 a1),.val (.int .i64 b1),.bl p1 d1,.val (.int .i64 u1),.val (.int .i64 v1),.val (.int .i64 x2),.val (.int .i64 y2),.val (.int .i64 a2),.val (.int .i64 b2),.bl p2 d2,.val (.int .i64 u2),.val (.int .i64 v2)]]=>Need (((0≤x1∧x1≤65536)∧0≤y1∧y1≤65536)∧(0≤x2∧x2≤65536)∧0≤y2∧y2≤65536) (K (.agg [I (x2-x1),I (y2-y1)])) | _=>False
theorem Pk:aF Tryz.prog c4071:=by
 refine kQ {} Tryz.func71 Tryz.ntmps71 (kc vV (kc Pj kn)) fun _ _ h=>?_
 split at h
 case h_2=>exact h.elim
 refine kb h.go ?_
 replace h:=h.ok
 (repeat'((conv=>whnf);first|refine Zn ?_|(apply Pin.mk;apply Exists.intro)|apply Pinned.mk rfl rfl|fail))
 (conv=>whnf)
 (repeat' first|exact trivial|rfl|apply And.intro)
def c4076:Con:=aH 76 true fun args K=>match args with | [.agg [.val (.int .i64 x0),.val (.int .i64 y0),.val (.int .i64 a0),.val (.int .i64 b0),.bl p0 d0,.val (.int .i64 u0),.val (.int .i64 v0),.val (.int .i64 x1),.val (.int .i64 y1),.val (.int .i64 a1),.val (.int .i64 b1),.bl p1 d1,.val (.int .i64 u1),.val (.int .i64 v1),.val (.int .i64 x2),.val (.int .i64 y2),.val (.int .i64 a2),.val (.int .i64 b2),.bl p2 d2,.val (.int .i64 u2),.val (.int .i64 v2)]]=>Need (((0≤x0∧x0≤65536)∧0≤y0∧y0≤65536)∧((0≤x1∧x1≤65536)∧0≤y1∧y1≤65536)∧(0≤x2∧x2≤65536)∧0≤y2∧y2≤65536) (K (.bl (0<(x1-x0)*(y2-y1)-(y1-y0)*(x2-x1)) inferInstance)) | _=>False
theorem k4076:aF Tryz.prog c4076:=by
 refine kQ {} Tryz.func76 Tryz.ntmps76 (kc vV (kc Pj (kc Pk (kc Tw kn)))) fun _ _ h=>?_
 split at h
 case h_2=>exact h.elim
 refine kb h.go ?_
 replace h:=h.ok
 (repeat'((conv=>whnf);first|refine Zn ?_|(apply Pin.mk;apply Exists.intro)|apply Pinned.mk rfl rfl|fail))
 (conv=>whnf)
theorem entI (k:IntKind) (n:Int):ent (.val (.int k n)) (.val (.int k n)):=⟨rfl,rfl⟩
theorem entB (p:Prop) (d d':Decidable p):ent (.bl p d) (.bl p d'):=Iff.rfl
theorem entA {l l':List SV} (h:ent.entL l l'):ent (.agg l) (.agg l'):=h
theorem entC {x y:SV} {l l':List SV} (h:ent x y) (g:ent.entL l l'):ent.entL (x::l) (y::l'):=⟨h,g⟩
theorem entN:ent.entL [] []:=trivial
theorem Pl (s:Sid) {l l':List SV} (h:ent.entL l l'):ent.entL (ag s++l) (ag s++l'):=
 entC (entI _ _) (entC (entI _ _) (entC (entI _ _) (entC (entI _ _) (entC (entB _ _ _) (entC (entI _ _) (entC (entI _ _) h))))))
theorem entS3 (s t u:Sid):ent.entL (ag s++(ag t++(ag u++ []))) (ag s++(ag t++(ag u++ []))):=Pl s (Pl t (Pl u entN))
noncomputable abbrev itRg (r:List Sid) (k:Nat):List SV:=[I k,.agg (ag (bfS r k)++(ag (owS r k)++(ag (nxS r k)++ [])))]
def Tx:Con:=aH 68 false fun args K=>match args with | [.seq (.pair (.int .i64) (.pair (.int .i64) (.pair (.int .i64) (.pair (.int .i64) (.pair .bool (.pair (.int .i64) (.int .i64))))))) r]=>K (.clo 138 [] [.lelem [.seq tSid r] 0]) | _=>False
theorem yB:aF Tryz.prog Tx:=by
 refine kQ {} Tryz.func68 Tryz.ntmps68 kn fun _ _ h=>?_
 split at h
 case h_2=>exact h.elim
 refine kb h ?_
 (conv=>whnf)
 (repeat' first|exact trivial|rfl|apply And.intro)
@[irreducible] def idI (i:Nat):Int:=i
theorem Ha (i:Nat):idI i=(i:Int):=by unfold idI;rfl
theorem entE (k:IntKind) {a b:Int} (h:a=b):ent (.val (.int k a)) (.val (.int k b)):=⟨rfl,h⟩
theorem b4138 (r:List Sid) (h:List.length (α:=Sid) r≤1000000):rP Tryz.prog [] { asks:=[(0,[])] } Tryz.f138 [.lelem [.seq tSid r] 0] r.length (itRg r):=by
 (repeat'((conv=>whnf);first|refine Zg fun _=>?_|fail))
 refine Ask.mk ⟨{ X:=Nat,pre:=fun i=>i≤r.length,mod:=fun i _=>[(9,I (idI i))],heap:=fun i _=>[.yst (some i) r.length (itRg r)],mu:=fun i=>r.length-i },rfl,?_⟩
 (repeat refine ZG ?_)
 refine ⟨⟨(0:Nat),Nat.zero_le _,by ((repeat' first|exact trivial|rfl|apply And.intro);all_goals exact (Ha 0).symm)⟩,fun (i:Nat) (hi:i≤r.length)=>?_⟩
 have hid:=Ha i
 by_cases hlt:i<r.length
 ·have e1:(idI i+r.length-1)% (r.length:Int)=(bfI r.length i:Nat):=by
   rw[← Jq hlt,show idI i+r.length-1=((i+r.length-1:Nat):Int) by omega];rfl
  have e2:(idI i+1)% (r.length:Int)=(nxI r.length i:Nat):=by
   rw[← Jr hlt,hid];rfl
  have h1:=Gu hlt
  have h2:=vP hlt
  obtain ⟨j,hj⟩:∃j,j=bfI r.length i:=⟨_,rfl⟩
  obtain ⟨m,hm⟩:∃m,m=nxI r.length i:=⟨_,rfl⟩
  rw[← hj] at e1 h1
  rw[← hm] at e2 h2
  (repeat'((conv=>whnf);first|refine Za ?_|refine Zn ?_|(apply Pin.mk;apply Exists.intro)|apply Pinned.mk rfl rfl|refine Zy ?_|fail))
  refine ixA j e1 ?_
  (repeat'((conv=>whnf);first|refine Zg fun _=>?_|refine Zn ?_|(apply Pin.mk;apply Exists.intro)|apply Pinned.mk rfl rfl|fail))
  refine ixA i hid ?_
  (repeat'((conv=>whnf);first|refine Zg fun _=>?_|refine Za ?_|refine Zn ?_|(apply Pin.mk;apply Exists.intro)|apply Pinned.mk rfl rfl|fail))
  refine ixA m e2 ?_
  (repeat'((conv=>whnf);first|refine Zg fun _=>?_|refine Zn ?_|(apply Pin.mk;apply Exists.intro)|apply Pinned.mk rfl rfl|fail))
  subst hj hm
  refine Need.mk (entC (entE _ hid) (entC (entA (entS3 (bfS r i) (owS r i) (nxS r i))) entN)) ?_
  refine Two.mk ?_ ?_
  ·(repeat refine ZR ?_)
   refine ⟨(i+1:Nat),by show r.length-(i+1)<r.length-i;omega,hlt,?_⟩
   (repeat' first|exact trivial|rfl|apply And.intro)
   all_goals (have:=Ha (i+1);omega)
  ·skip
   (conv=>whnf)
   trivial
 ·have e:i=r.length:=by omega
  subst e
  (repeat refine ZR ?_)
  (conv=>whnf)
def Pm:Con:=aH 138 false fun args K=>match args with | [.lelem [.seq (.pair (.int .i64) (.pair (.int .i64) (.pair (.int .i64) (.pair (.int .i64) (.pair .bool (.pair (.int .i64) (.int .i64))))))) r] 0]=>Need (List.length (α:=Sid) r≤1000000) (K (.itr (List.length (α:=Sid) r) (itRg r))) | _=>False
theorem yC:aF Tryz.prog Pm:=by
 refine kO Tryz.func138 fun args K h=>?_
 simp only[Pm] at h;split at h
 ·rename_i r;exact ⟨_,h.go,fD (by simp) Tryz.func138 (by simp[Tryz.ntmps138]) (b4138 r h.ok)⟩
 ·exact h.elim
def c4027:Con:=aH 27 true fun args K=>match args with | [.agg [.val (.int .i64 x),.val (.int .i64 y),.val (.int .i64 a),.val (.int .i64 b),.bl p d,.val (.int .i64 u),.val (.int .i64 v)]]=>K (.bl (ranQ x y a b p u v) (Classical.propDecidable _)) | _=>False
theorem k4027:aF Tryz.prog c4027:=by
 refine kQ {} Tryz.func27 Tryz.ntmps27 (kc k4066 kn) fun _ _ h=>?_
 split at h
 case h_2=>exact h.elim
 rename_i x y a b p d u v
 refine kb h ?_
 have hl:([x,y,u,v]:List Int).length=4:=rfl
 have g0:([x,y,u,v]:List Int).getD 0 0=x:=rfl
 have g1:([x,y,u,v]:List Int).getD 1 0=y:=rfl
 have g2:([x,y,u,v]:List Int).getD 2 0=u:=rfl
 have g3:([x,y,u,v]:List Int).getD 3 0=v:=rfl
 by_cases h0:(p→a=0∧b=0)∧(¬p→(1≤a∧a≤48)∧1≤b∧b≤48)
 ·have hf:∀q,(ranQ x y a b p u v↔q)→¬q→¬ranQ x y a b p u v:=fun q h h' h2=>h' (h.1 h2)
  have hq:ranQ x y a b p u v↔((0≤x∧x≤65536)∧(0≤y∧y≤65536)∧(0≤u∧u≤65536)∧0≤v∧v≤65536):=⟨fun h=>h.2,fun h=>⟨h0,h⟩⟩
  generalize ranQ x y a b p u v=M at*
  have key:(p∧a=0∧b=0)∨(¬p∧(1≤a∧a≤48)∧1≤b∧b≤48):=by
   by_cases hp:p
   ·exact .inl ⟨hp,h0.1 hp⟩
   ·exact .inr ⟨hp,h0.2 hp⟩
  clear h0
  rcases key with ⟨hp,h1⟩ | ⟨hp,h1⟩
  all_goals
   by_cases hx:0≤x∧x≤65536
   ·by_cases hy:0≤y∧y≤65536
    ·by_cases hu:0≤u∧u≤65536
     ·by_cases hv:0≤v∧v≤65536
      ·have hM:M:=hq.2 ⟨hx,hy,hu,hv⟩
       (repeat' first|refine ZR ?_|refine Zg fun _=>?_)
       (conv=>whnf)
       exact hM
      ·have hM:¬M:=fun h=>hv (hq.1 h).2.2.2
       (repeat' first|refine ZR ?_|refine Zg fun _=>?_)
       (conv=>whnf)
       exact hM
     ·have hM:¬M:=fun h=>hu (hq.1 h).2.2.1
      (repeat' first|refine ZR ?_|refine Zg fun _=>?_)
      (conv=>whnf)
      exact hM
    ·have hM:¬M:=fun h=>hy (hq.1 h).2.1
     (repeat' first|refine ZR ?_|refine Zg fun _=>?_)
     (conv=>whnf)
     exact hM
   ·have hM:¬M:=fun h=>hx (hq.1 h).1
    (repeat' first|refine ZR ?_|refine Zg fun _=>?_)
    (conv=>whnf)
    exact hM
 ·have hM:¬ranQ x y a b p u v:=fun h=>h0 h.1
  generalize ranQ x y a b p u v=M at*
  by_cases hp:p
  ·have h1:¬(a=0∧b=0):=fun h=>h0 ⟨fun _=>h,fun h=>absurd hp h⟩
   clear h0
   by_cases ha:a=0
   ·(repeat refine ZR ?_)
    (conv=>whnf)
    exact hM
   ·(repeat refine ZR ?_)
    (conv=>whnf)
    exact hM
  ·have h1:¬((1≤a∧a≤48)∧1≤b∧b≤48):=fun h=>h0 ⟨fun h'=>absurd h' hp,fun _=>h⟩
   clear h0
   by_cases ha:1≤a∧a≤48
   ·(repeat refine ZR ?_)
    (conv=>whnf)
    exact hM
   ·(repeat refine ZR ?_)
    (conv=>whnf)
    exact hM
def c4026:Con:=aH 26 true fun args K=>match args with | [.agg [.val (.int .i64 x),.val (.int .i64 y),.val (.int .i64 a),.val (.int .i64 b),.bl p d,.val (.int .i64 u),.val (.int .i64 v)]]=>K (.bl (¬ranQ x y a b p u v) (Classical.propDecidable _)) | _=>False
theorem k4026:aF Tryz.prog c4026:=by
 refine kQ {} Tryz.func26 Tryz.ntmps26 (kc k4027 kn) fun _ _ h=>?_
 split at h
 case h_2=>exact h.elim
 rename_i x y a b p d u v
 refine kb h ?_
 generalize hM:ranQ x y a b p u v=M
 (conv=>whnf)
 rw[hM]
def okR (r:List Sid):Prop:=∀i,i<r.length→((0≤(r.getD i sd0).1∧(r.getD i sd0).1≤65536)∧0≤(r.getD i sd0).2.1∧(r.getD i sd0).2.1≤65536)
theorem Pn {r:List Sid} (h:∀s∈r,ranP s):okR r:=fun i hi=>by
 have:=h (r.getD i sd0) (by simp[List.getD_eq_getElem?_getD,hi])
 exact ⟨this.2.1,this.2.2.1⟩
theorem okR3 {r:List Sid} (h:okR r) {i:Nat} (hi:i<r.length):((0≤(bfS r i).1∧(bfS r i).1≤65536)∧0≤(bfS r i).2.1∧(bfS r i).2.1≤65536)∧((0≤(owS r i).1∧(owS r i).1≤65536)∧0≤(owS r i).2.1∧(owS r i).2.1≤65536)∧(0≤(nxS r i).1∧(nxS r i).1≤65536)∧0≤(nxS r i).2.1∧(nxS r i).2.1≤65536:=⟨h _ (Gu hi),h _ hi,h _ (vP hi)⟩
def c4030:Con:=aH 30 true fun args K=>match args with | [.seq (.pair (.int .i64) (.pair (.int .i64) (.pair (.int .i64) (.pair (.int .i64) (.pair .bool (.pair (.int .i64) (.int .i64))))))) r]=>Need (List.length (α:=Sid) r≤1000000∧okR r) (K (.bl (shpP r) (Classical.propDecidable _))) | _=>False
theorem k4030:aF Tryz.prog c4030:=by
 refine kQ { asks:=[(0,[])] } Tryz.func30 Tryz.ntmps30 (kc yB (kc yC (kc vV (kc Pj (kc Pk kn))))) fun _ _ h=>?_
 split at h
 case h_2=>exact h.elim
 rename_i r
 change List Sid at r
 refine kb h.go ?_
 replace h:=h.ok
 obtain ⟨hr,hok⟩:=h
 by_cases h4:r.length<4
 ·have hM:¬shpP r:=fun h=>absurd h.1 (by omega)
  generalize shpP r=M at*
  (repeat' first|refine ZR ?_|refine Zg fun _=>?_)
  (conv=>whnf)
  exact hM
 ·have hM:(∀i,i<r.length→shp1 r i)↔shpP r:=⟨fun h=>⟨by omega,h⟩,fun h=>h.2⟩
  generalize shpP r=M at*
  (repeat' first|refine ZR ?_|refine Zg fun _=>?_)
  refine Ask.mk ⟨{ X:=Nat,pre:=fun i=>i≤r.length∧∀j,j<i→shp1 r j,mod:=fun _ _=>[],heap:=fun _ _=>[.cells [.val (.bool false)] 4],mu:=fun i=>i },rfl,?_⟩
  (repeat refine ZG ?_)
  refine ⟨⟨(0:Nat),rfl,⟨Nat.zero_le _,fun j hj=>absurd hj (by omega)⟩,by (repeat' first|exact trivial|rfl|apply And.intro)⟩,fun (i:Nat) hi (hlt:i<r.length)=>?_,fun (i:Nat) hi (he:i=r.length)=>?_⟩
  ·obtain ⟨hi1,hi2⟩:=hi
   have hk:=okR3 hok hlt
   by_cases hs:shp1 r i
   ·obtain ⟨s1,s2⟩:=id hs
    show hnfL (itRg r i) _
    (repeat'((conv=>whnf);first|refine Zg fun _=>?_|refine Zn ?_|(apply Pin.mk;apply Exists.intro)|apply Pinned.mk rfl rfl|exact Zf|refine Zc ?_ ?_|refine Zm ?_|fail))
    refine ⟨(i+1:Nat),rfl,⟨by omega,fun j hj=>?_⟩,by (repeat' first|exact trivial|rfl|apply And.intro)⟩
    by_cases e:j=i
    ·subst e;exact hs
    ·exact hi2 j (by omega)
   ·have hM':¬M:=fun h=>hs (hM.2 h i hlt)
    have hs':¬(((nxS r i).1-(owS r i).1=0↔¬((nxS r i).2.1-(owS r i).2.1=0))∧((owS r i).1-(bfS r i).1=0↔¬((nxS r i).1-(owS r i).1=0))):=hs
    show hnfL (itRg r i) _
    by_cases hb:(nxS r i).1-(owS r i).1=0↔(nxS r i).2.1-(owS r i).2.1=0
    ·(repeat'((conv=>whnf);first|refine Zg fun _=>?_|refine Zn ?_|(apply Pin.mk;apply Exists.intro)|apply Pinned.mk rfl rfl|exact Zf|refine Zc ?_ ?_|refine Zy ?_|fail))
     (conv=>whnf)
     exact hM'
    ·(repeat'((conv=>whnf);first|refine Zg fun _=>?_|refine Zn ?_|(apply Pin.mk;apply Exists.intro)|apply Pinned.mk rfl rfl|exact Zf|refine Zc ?_ ?_|refine Zy ?_|refine Zm ?_|fail))
     (conv=>whnf)
     exact hM'
  ·obtain ⟨hi1,hi2⟩:=hi
   subst he
   (conv=>whnf)
   exact hM.1 hi2
def c4029:Con:=aH 29 true fun args K=>match args with | [.seq (.pair (.int .i64) (.pair (.int .i64) (.pair (.int .i64) (.pair (.int .i64) (.pair .bool (.pair (.int .i64) (.int .i64))))))) r]=>Need (List.length (α:=Sid) r≤1000000∧okR r) (K (.bl (¬shpP r) (Classical.propDecidable _))) | _=>False
theorem k4029:aF Tryz.prog c4029:=by
 refine kQ {} Tryz.func29 Tryz.ntmps29 (kc k4030 kn) fun _ _ h=>?_
 split at h
 case h_2=>exact h.elim
 rename_i r
 change List Sid at r
 refine kb h.go ?_
 replace h:=h.ok
 have e:¬shpP r↔¬shpP r:=Iff.rfl
 (repeat refine ZR ?_)
 all_goals exact e
def c4072:Con:=aH 72 true fun args K=>match args with | [.agg [.val (.int .i64 x0),.val (.int .i64 y0),.val (.int .i64 a0),.val (.int .i64 b0),.bl p0 d0,.val (.int .i64 u0),.val (.int .i64 v0),.val (.int .i64 x1),.val (.int .i64 y1),.val (.int .i64 a1),.val (.int .i64 b1),.bl p1 d1,.val (.int .i64 u1),.val (.int .i64 v1),.val (.int .i64 x2),.val (.int .i64 y2),.val (.int .i64 a2),.val (.int .i64 b2),.bl p2 d2,.val (.int .i64 u2),.val (.int .i64 v2)]]=>K (.agg [I (min x1 x2),I (min y1 y2),I (max x1 x2),I (max y1 y2)]) | _=>False
theorem k4072:aF Tryz.prog c4072:=by
 refine kQ {} Tryz.func72 Tryz.ntmps72 (kc vV kn) fun _ _ h=>?_
 split at h
 case h_2=>exact h.elim
 refine kb h ?_
 (repeat'((conv=>whnf);first|(apply Pin.mk;apply Exists.intro)|apply Pinned.mk rfl rfl|exact Zf|refine Zc ?_ ?_|fail))
 (conv=>whnf)
 (repeat' first|exact trivial|rfl|apply And.intro)
def c4073:Con:=aH 73 true fun args K=>match args with | [.agg [.val (.int .i64 a),.val (.int .i64 b),.val (.int .i64 c),.val (.int .i64 d)],.agg [.val (.int .i64 e),.val (.int .i64 f),.val (.int .i64 g),.val (.int .i64 z)]]=>K (.bl (a≤g∧e≤c∧b≤z∧f≤d) inferInstance) | _=>False
theorem k4073:aF Tryz.prog c4073:=by
 refine kQ {} Tryz.func73 Tryz.ntmps73 kn fun _ _ h=>?_
 split at h
 case h_2=>exact h.elim
 rename_i a b c d e f g z
 refine kb h ?_
 by_cases h1:a≤g
 ·by_cases h2:e≤c
  ·by_cases h3:b≤z
   ·(repeat refine ZR ?_)
    (conv=>whnf)
    exact ⟨fun q=>⟨h1,h2,h3,q⟩,fun q=>q.2.2.2⟩
   ·(repeat refine ZR ?_)
    (conv=>whnf)
    exact fun q=>h3 q.2.2.1
  ·(repeat refine ZR ?_)
   (conv=>whnf)
   exact fun q=>h2 q.2.1
 ·(repeat refine ZR ?_)
  (conv=>whnf)
  exact fun q=>h1 q.1
theorem Po {r:List Sid} (h:okR r) {i:Nat} (hi:i<r.length): -4294967296≤crS (owS r i) (nxS r i)∧crS (owS r i) (nxS r i)≤4294967296:=by
 obtain ⟨_,h1,h2⟩:=okR3 h hi
 have m1:=Int.mul_nonneg h1.1.1 h2.2.1
 have m2:=Int.mul_nonneg h1.2.1 h2.1.1
 have m3:=(sZ (a:=(owS r i).1) (b:=(nxS r i).2.1) (by omega) (by omega)).2
 have m4:=(sZ (a:=(owS r i).2.1) (b:=(nxS r i).1) (by omega) (by omega)).2
 unfold crS
 omega
theorem Pp {r:List Sid} (h:okR r):∀i,i≤r.length→ -(4294967296*(i:Int))≤arN r i∧arN r i≤4294967296*(i:Int)
 | 0,_=>by simp[arN]
 | i+1,hi=>by
  have h1:=Pp h i (by omega)
  have h2:=Po h (show i<r.length by omega)
  rw[arN]
  omega
def c4074:Con:=aH 74 true fun args K=>match args with | [.seq (.pair (.int .i64) (.pair (.int .i64) (.pair (.int .i64) (.pair (.int .i64) (.pair .bool (.pair (.int .i64) (.int .i64))))))) r]=>Need (List.length (α:=Sid) r≤1000000∧okR r) (K (I (arN r (List.length (α:=Sid) r)))) | _=>False
theorem k4074:aF Tryz.prog c4074:=by
 refine kQ { asks:=[(0,[])] } Tryz.func74 Tryz.ntmps74 (kc yB (kc yC (kc vV (kc Tw kn)))) fun _ _ h=>?_
 split at h
 case h_2=>exact h.elim
 rename_i r
 change List Sid at r
 refine kb h.go ?_
 replace h:=h.ok
 obtain ⟨hr,hok⟩:=h
 refine Ask.mk ⟨{ X:=Nat,pre:=fun i=>i≤r.length,mod:=fun _ _=>[],heap:=fun i _=>[.cells [I (arN r i)] 3],mu:=fun i=>i },rfl,?_⟩
 (repeat refine ZG ?_)
 refine ⟨⟨(0:Nat),rfl,Nat.zero_le _,by (repeat' first|exact trivial|rfl|apply And.intro)⟩,fun (i:Nat) hi (hlt:i<r.length)=>?_,fun (i:Nat) hi (he:i=r.length)=>?_⟩
 ·have hi:i≤r.length:=hi
  have hk:=(okR3 hok hlt).2
  have h1:=Pp hok i hi
  have h2:=Po hok hlt
  have h2: -4294967296≤(owS r i).1*(nxS r i).2.1-(owS r i).2.1*(nxS r i).1∧(owS r i).1*(nxS r i).2.1-(owS r i).2.1*(nxS r i).1≤4294967296:=h2
  show hnfL (itRg r i) _
  (repeat'((conv=>whnf);first|refine Zg fun _=>?_|refine Zn ?_|(apply Pin.mk;apply Exists.intro)|apply Pinned.mk rfl rfl|fail))
  refine ⟨(i+1:Nat),rfl,hlt,?_⟩
  (repeat' first|exact trivial|rfl|apply And.intro)
 ·subst he
  (conv=>whnf)
  (repeat' first|rfl|apply And.intro)
theorem Ry {r:List Sid} {x y:Int} {i:Nat} (h:ups r x y i):(¬insN r x y i=true)↔insN r x y (i+1)=true:=by
 rw[insN,if_pos h];cases insN r x y i<;>simp
theorem Uy {r:List Sid} {x y:Int} {i:Nat} (h:¬ups r x y i):insN r x y i=true↔insN r x y (i+1)=true:=by
 rw[insN,if_neg h]
def c4075:Con:=aH 75 true fun args K=>match args with | [.seq (.pair (.int .i64) (.pair (.int .i64) (.pair (.int .i64) (.pair (.int .i64) (.pair .bool (.pair (.int .i64) (.int .i64))))))) r,.agg [.val (.int .i64 x),.val (.int .i64 y)]]=>Need (List.length (α:=Sid) r≤1000000∧okR r) (K (.bl (insN r x y (List.length (α:=Sid) r)=true) inferInstance)) | _=>False
theorem k4075:aF Tryz.prog c4075:=by
 refine kQ { asks:=[(0,[])] } Tryz.func75 Tryz.ntmps75 (kc yB (kc yC (kc vV (kc Pk kn)))) fun _ _ h=>?_
 split at h
 case h_2=>exact h.elim
 rename_i r x y
 change List Sid at r
 refine kb h.go ?_
 replace h:=h.ok
 obtain ⟨hr,hok⟩:=h
 refine Ask.mk ⟨{ X:=Nat,pre:=fun i=>i≤r.length,mod:=fun _ _=>[],heap:=fun i _=>[.cells [I x,I y] 127,.cells [.bl (insN r x y i=true) inferInstance] 4],mu:=fun i=>i },rfl,?_⟩
 (repeat refine ZG ?_)
 refine ⟨⟨(0:Nat),rfl,Nat.zero_le _,by ((repeat' first|exact trivial|rfl|apply And.intro);all_goals exact fun h=>by cases h)⟩,fun (i:Nat) hi (hlt:i<r.length)=>?_,fun (i:Nat) hi (he:i=r.length)=>?_⟩
 ·have hi:i≤r.length:=hi
  have hk:=(okR3 hok hlt).2
  show hnfL (itRg r i) _
  by_cases hu:ups r x y i
  ·have hy:=Ry hu
   obtain ⟨u1,u2,u3⟩:=hu
   (repeat' first|refine ZR ?_|refine Zg fun _=>?_)
   refine ⟨(i+1:Nat),rfl,hlt,?_⟩
   (repeat' first|exact trivial|rfl|apply And.intro)
   all_goals exact hy
  ·have hn:=Uy hu
   by_cases h1:(nxS r i).1-(owS r i).1=0
   ·by_cases h2:x<(owS r i).1
    ·have h3:¬ ¬((y<(owS r i).2.1)↔(y<(nxS r i).2.1)):=fun q=>hu ⟨h1,h2,q⟩
     (repeat' first|refine ZR ?_|refine Zg fun _=>?_)
     refine ⟨(i+1:Nat),rfl,hlt,?_⟩
     (repeat' first|exact trivial|rfl|apply And.intro)
     all_goals exact hn
    ·(repeat' first|refine ZR ?_|refine Zg fun _=>?_)
     refine ⟨(i+1:Nat),rfl,hlt,?_⟩
     (repeat' first|exact trivial|rfl|apply And.intro)
     all_goals exact hn
   ·(repeat' first|refine ZR ?_|refine Zg fun _=>?_)
    refine ⟨(i+1:Nat),rfl,hlt,?_⟩
    (repeat' first|exact trivial|rfl|apply And.intro)
    all_goals exact hn
 ·subst he
  (conv=>whnf)
abbrev tPr:Ty:=.pair (.int .i64) (.int .i64)
def okRs (R:List (List Sid)):Prop:=R.length≤1000000∧cnt R R.length≤24∧∀m,m<R.length→okR (R.getD m [])
theorem iJ {R:List (List Sid)} (h:okRs R) {m:Nat} (hm:m<R.length):cnt R m+(R.getD m []).length≤24:=by
 have:=mH R (show m+1≤R.length by omega)
 rw[cnt] at this
 have:=h.2.1
 omega
def c4031:Con:=aH 31 true fun args K=>match args with | [.seq (.slice (.pair (.int .i64) (.pair (.int .i64) (.pair (.int .i64) (.pair (.int .i64) (.pair .bool (.pair (.int .i64) (.int .i64)))))))) R]=>Need (okRs R) (K (.bl (crP R) (Classical.propDecidable _))) | _=>False
theorem k4031:aF Tryz.prog c4031:=by
 refine kQ { asks:=[(0,[0,2]),(2,[0,2]),(4,[]),(6,[])] } Tryz.func31 Tryz.ntmps31 (kc yB (kc yC (kc k4072 (kc k4073 kn)))) fun _ _ h=>?_
 split at h
 case h_2=>exact h.elim
 rename_i R
 change List (List Sid) at R
 refine kb h.go ?_
 replace h:=h.ok
 have hRl:R.length≤1000000:=h.1
 (repeat'((conv=>whnf);first|refine Zg fun _=>?_|fail))
 refine Ask.mk ⟨{ X:=Nat,pre:=fun m=>m≤R.length,mod:=fun m _=>[(16,I m)],heap:=fun m _=>[.vec 1 tBx (bxA R m) 134,.cells [.ref 0 1] 131,.vec 1 tPr (plA R m) 137,.cells [.ref 2 1] 132],objs:=[0,2],mu:=fun m=>R.length-m },rfl,?_⟩
 (repeat refine ZG ?_)
 refine ⟨⟨(0:Nat),Nat.zero_le _,by (repeat' first|exact trivial|rfl|exact Nat.one_pos|apply And.intro)⟩,fun (m:Nat) hm=>?_⟩
 have hm:m≤R.length:=hm
 by_cases hlt:m<R.length
 ·have hc:=iJ h hlt
  have hb1:∀i,(bxA R m++bxN (R.getD m []) i).length=cnt R m+i:=fun i=>by rw[List.length_append,sV,Ba]
  have hb2:∀i,(plA R m++plN m i).length=cnt R m+i:=fun i=>by rw[List.length_append,sW,Bb]
  (repeat' first|refine ZR ?_|refine Zg fun _=>?_)
  refine Ask.mk ⟨{ X:=Nat,pre:=fun i=>i≤(R.getD m []).length,mod:=fun _ _=>[],heap:=fun i _=>[.vec 1 tBx (bxA R m++bxN (R.getD m []) i) 134,.cells [.ref 0 1] 131,.vec 1 tPr (plA R m++plN m i) 137,.cells [.ref 2 1] 132,.cells [I m] 3],objs:=[0,2],mu:=fun i=>i },rfl,?_⟩
  (repeat refine ZG ?_)
  refine ⟨⟨(0:Nat),rfl,Nat.zero_le _,by ((repeat' first|exact trivial|rfl|exact Nat.one_pos|apply And.intro);all_goals (simp[bxN,plN];rfl))⟩,fun (i:Nat) hi (hil:i<(R.getD m []).length)=>?_,fun (i:Nat) hi (he:i=(R.getD m []).length)=>?_⟩
  ·have hi:i≤(R.getD m []).length:=hi
   have hb1i:=hb1 i
   have hb2i:=hb2 i
   have hk:=(okR3 (h.2.2 m hlt) hil).2
   have q1:=sV R m
   have q2:=Ba (R.getD m []) i
   have q3:=sW R m
   have q4:=Bb m i
   show hnfL (itRg (R.getD m []) i) _
   (repeat'((conv=>whnf);first|refine Zg fun _=>?_|(apply Pin.mk;apply Exists.intro)|apply Pinned.mk rfl rfl|(apply PinH.mk;apply Exists.intro;apply Exists.intro)|refine Zl ?_|fail))
   (conv=>whnf)
   refine Need.mk (by rw[List.length_singleton];omega) ?_
   (repeat'((conv=>whnf);first|refine Zn ?_|(apply Pin.mk;apply Exists.intro)|apply Pinned.mk rfl rfl|exact Zf|refine Zc ?_ ?_|refine Zl ?_|fail))
   (conv=>whnf)
   refine Need.mk (by rw[List.length_singleton];omega) ?_
   (repeat'((conv=>whnf);first|apply Pinned.mk rfl rfl|exact Zf|fail))
   refine ⟨(i+1:Nat),rfl,hil,?_⟩
   (repeat' first|exact trivial|rfl|exact Nat.one_pos|apply And.intro)
   all_goals first | (rw[Ou,← List.append_assoc];rfl) | (rw[Ov,← List.append_assoc];rfl)
  ·subst he
   (repeat refine ZR ?_)
   (conv=>whnf)
   refine ⟨(m+1:Nat),by show R.length-(m+1)<R.length-m;omega,hlt,?_⟩
   (repeat' first|exact trivial|rfl|exact Nat.one_pos|apply And.intro)
 ·have e:m=R.length:=by omega
  subst e
  have hN:(bxA R R.length).length=cnt R R.length:=sV R _
  have hP:(plA R R.length).length=cnt R R.length:=sW R _
  have h24:=h.2.1
  have hM:crP R↔¬ ∀i,i<cnt R R.length→∀k,k<i→¬cr1 R i k:=Iff.rfl
  generalize crP R=M at*
  (repeat' first|refine ZR ?_|refine Zg fun _=>?_)
  refine Ask.mk ⟨{ X:=Nat,pre:=fun i=>i≤cnt R R.length∧∀j,j<i→∀k,k<j→¬cr1 R j k,mod:=fun i _=>[(39,I i)],heap:=fun i H=>H,mu:=fun i=>cnt R R.length-i },rfl,?_⟩
  (repeat refine ZG ?_)
  refine ⟨⟨(0:Nat),⟨Nat.zero_le _,fun j hj=>absurd hj (by omega)⟩,by (repeat' first|exact trivial|rfl|apply And.intro)⟩,fun (i:Nat) hi=>?_⟩
  obtain ⟨hi,hi2⟩:=hi
  by_cases hil:i<cnt R R.length
  ·(repeat refine ZR ?_)
   refine Ask.mk ⟨{ X:=Nat,pre:=fun k=>k≤i∧∀j,j<k→¬cr1 R i j,mod:=fun k _=>[(43,I k)],heap:=fun i H=>H,mu:=fun k=>i-k },rfl,?_⟩
   (repeat refine ZG ?_)
   refine ⟨⟨(0:Nat),⟨Nat.zero_le _,fun j hj=>absurd hj (by omega)⟩,by (repeat' first|exact trivial|rfl|apply And.intro)⟩,fun (k:Nat) hk=>?_⟩
   obtain ⟨hk,hk2⟩:=hk
   by_cases hki:k<i
   ·obtain ⟨a,b,e1,ha,hb⟩:=Bc R R.length _ (show (plA R R.length).getD i (0,0)∈plA R R.length by simp[List.getD_eq_getElem?_getD,hP,hil])
    obtain ⟨c,d,e2,hc,hd⟩:=Bc R R.length _ (show (plA R R.length).getD k (0,0)∈plA R R.length by simp[List.getD_eq_getElem?_getD,hP,show k<cnt R R.length by omega])
    have hla:=iJ h ha
    have hlc:=iJ h hc
    have e1a:((plA R R.length).getD i (0,0)).1=(a:Int):=by rw[e1]
    have e1b:((plA R R.length).getD i (0,0)).2=(b:Int):=by rw[e1]
    have e2a:((plA R R.length).getD k (0,0)).1=(c:Int):=by rw[e2]
    have e2b:((plA R R.length).getD k (0,0)).2=(d:Int):=by rw[e2]
    have hcr:cr1 R i k↔¬((a:Int)=c∧((b:Int)-d=1∨(b:Int)-d=((R.getD a []).length:Int)-1))∧metB ((bxA R R.length).getD i bx0) ((bxA R R.length).getD k bx0):=by
     unfold cr1 nbP
     rw[e1,e2]
     exact Iff.rfl
    (repeat' first|refine ZR ?_|refine Zg fun _=>?_)
    refine ixA a e1a ?_
    have hbad:cr1 R i k→M:=fun q=>hM.2 fun h=>h i hil k hki q
    by_cases hs:(a:Int)=c
    ·by_cases g1:(b:Int)-d=1
     ·have hn:¬cr1 R i k:=fun q=>(hcr.1 q).1 ⟨hs,.inl g1⟩
      (repeat'((conv=>whnf);first|refine Zg fun _=>?_|refine Zn ?_|refine Zj ?_|(apply Pin.mk;apply Exists.intro)|apply Pinned.mk rfl rfl|refine Zy ?_|fail))
      refine ⟨(k+1:Nat),by show i-(k+1)<i-k;omega,⟨hki,fun j hj=>?_⟩,by (repeat' first|exact trivial|rfl|apply And.intro)⟩
      by_cases e:j=k
      ·subst e;exact hn
      ·exact hk2 j (by omega)
     ·by_cases g2:(b:Int)-d=((R.getD a []).length:Int)-1
      ·have hn:¬cr1 R i k:=fun q=>(hcr.1 q).1 ⟨hs,.inr g2⟩
       (repeat'((conv=>whnf);first|refine Zg fun _=>?_|refine Zn ?_|refine Zj ?_|(apply Pin.mk;apply Exists.intro)|apply Pinned.mk rfl rfl|refine Zy ?_|refine Zm ?_|fail))
       refine ⟨(k+1:Nat),by show i-(k+1)<i-k;omega,⟨hki,fun j hj=>?_⟩,by (repeat' first|exact trivial|rfl|apply And.intro)⟩
       by_cases e:j=k
       ·subst e;exact hn
       ·exact hk2 j (by omega)
      ·by_cases hm:metB ((bxA R R.length).getD i bx0) ((bxA R R.length).getD k bx0)
       ·have hy:=hbad (hcr.2 ⟨fun q=>q.2.elim g1 g2,hm⟩)
        unfold metB at hm
        (repeat'((conv=>whnf);first|refine Zg fun _=>?_|refine Zn ?_|refine Zj ?_|(apply Pin.mk;apply Exists.intro)|apply Pinned.mk rfl rfl|refine Zy ?_|refine Zm ?_|fail))
        (conv=>whnf)
        exact hy
       ·have hn:¬cr1 R i k:=fun q=>hm (hcr.1 q).2
        unfold metB at hm
        (repeat'((conv=>whnf);first|refine Zg fun _=>?_|refine Zn ?_|refine Zj ?_|(apply Pin.mk;apply Exists.intro)|apply Pinned.mk rfl rfl|refine Zy ?_|refine Zm ?_|fail))
        refine ⟨(k+1:Nat),by show i-(k+1)<i-k;omega,⟨hki,fun j hj=>?_⟩,by (repeat' first|exact trivial|rfl|apply And.intro)⟩
        by_cases e:j=k
        ·subst e;exact hn
        ·exact hk2 j (by omega)
    ·by_cases hm:metB ((bxA R R.length).getD i bx0) ((bxA R R.length).getD k bx0)
     ·have hy:=hbad (hcr.2 ⟨fun q=>hs q.1,hm⟩)
      unfold metB at hm
      (repeat'((conv=>whnf);first|refine Zg fun _=>?_|refine Zn ?_|refine Zj ?_|(apply Pin.mk;apply Exists.intro)|apply Pinned.mk rfl rfl|refine Zy ?_|refine Zm ?_|fail))
      (conv=>whnf)
      exact hy
     ·have hn:¬cr1 R i k:=fun q=>hm (hcr.1 q).2
      unfold metB at hm
      (repeat'((conv=>whnf);first|refine Zg fun _=>?_|refine Zn ?_|refine Zj ?_|(apply Pin.mk;apply Exists.intro)|apply Pinned.mk rfl rfl|refine Zm ?_|fail))
      refine ⟨(k+1:Nat),by show i-(k+1)<i-k;omega,⟨hki,fun j hj=>?_⟩,by (repeat' first|exact trivial|rfl|apply And.intro)⟩
      by_cases e:j=k
      ·subst e;exact hn
      ·exact hk2 j (by omega)
   ·have e:k=i:=by omega
    subst e
    (repeat refine ZR ?_)
    refine ⟨(k+1:Nat),by show cnt R R.length-(k+1)<cnt R R.length-k;omega,⟨hil,fun j hj=>?_⟩,by (repeat' first|exact trivial|rfl|apply And.intro)⟩
    by_cases e:j=k
    ·subst e;exact hk2
    ·exact hi2 j (by omega)
  ·have e:i=cnt R R.length:=by omega
   subst e
   (repeat refine ZR ?_)
   (conv=>whnf)
   exact fun q=>hM.1 q hi2
theorem jV {R:List (List Sid)} (h:okRs R) {m:Nat} (hm:m<R.length):List.length (α:=Sid) (R.getD m [])≤1000000∧okR (R.getD m []):=⟨by have:=iJ h hm;show (R.getD m []).length≤1000000;omega,h.2.2 m hm⟩
def c4032:Con:=aH 32 true fun args K=>match args with | [.seq (.slice (.pair (.int .i64) (.pair (.int .i64) (.pair (.int .i64) (.pair (.int .i64) (.pair .bool (.pair (.int .i64) (.int .i64)))))))) R]=>Need (okRs R∧∀m,m<R.length→0<(R.getD m []).length) (K (.bl (plcP R) (Classical.propDecidable _))) | _=>False
theorem k4032:aF Tryz.prog c4032:=by
 refine kQ { asks:=[(0,[]),(2,[])] } Tryz.func32 Tryz.ntmps32 (kc vV (kc k4074 (kc k4075 kn))) fun _ _ h=>?_
 split at h
 case h_2=>exact h.elim
 rename_i R
 change List (List Sid) at R
 refine kb h.go ?_
 replace h:=h.ok
 obtain ⟨h,hpos⟩:=h
 have hRl:R.length≤1000000:=h.1
 have hM:plcP R↔∀i,i<R.length→pl1 R i:=Iff.rfl
 generalize plcP R=M at*
 (repeat'((conv=>whnf);first|refine Zg fun _=>?_|fail))
 refine Ask.mk ⟨{ X:=Nat,pre:=fun i=>i≤R.length∧∀j,j<i→pl1 R j,mod:=fun i _=>[(9,I i)],heap:=fun i H=>H,mu:=fun i=>R.length-i },rfl,?_⟩
 (repeat refine ZG ?_)
 refine ⟨⟨(0:Nat),⟨Nat.zero_le _,fun j hj=>absurd hj (by omega)⟩,by (repeat' first|exact trivial|rfl|apply And.intro)⟩,fun (i:Nat) hi=>?_⟩
 obtain ⟨hi,hi2⟩:=hi
 by_cases hil:i<R.length
 ·have hr:=jV h hil
  have hr1:=hr.1
  have hok:=hr.2
  have hp:=hpos i hil
  have hbad:¬pl1 R i→¬M:=fun q q2=>q (hM.1 q2 i hil)
  by_cases h1:(0<arN (R.getD i []) (R.getD i []).length)↔i=0
  ·have h1':0<arN (R.getD i []) (R.getD i []).length↔(i:Int)=0:=by rw[h1];omega
   (repeat' first|refine ZR ?_|refine Zg fun _=>?_)
   refine Ask.mk ⟨{ X:=Nat,pre:=fun k=>k≤R.length∧(i=0∨∀j,j<k→j=i∨((insN (R.getD j []) ((R.getD i []).getD 0 sd0).1 ((R.getD i []).getD 0 sd0).2.1 (R.getD j []).length=true)↔j=0)),mod:=fun k _=>[(22,I k)],heap:=fun i H=>H,mu:=fun k=>R.length-k },rfl,?_⟩
   (repeat refine ZG ?_)
   refine ⟨⟨(0:Nat),⟨Nat.zero_le _,.inr fun j hj=>absurd hj (by omega)⟩,by (repeat' first|exact trivial|rfl|apply And.intro)⟩,fun (k:Nat) hk=>?_⟩
   obtain ⟨hk,hk2⟩:=hk
   by_cases hkl:k<R.length
   ·have hrk:=jV h hkl
    have hrk1:=hrk.1
    have hokk:=hrk.2
    by_cases h2:k=i∨i=0
    ·have h2':(k:Int)=i∨(i:Int)=0:=by omega
     have hnext:k+1≤R.length∧(i=0∨∀j,j<k+1→j=i∨((insN (R.getD j []) ((R.getD i []).getD 0 sd0).1 ((R.getD i []).getD 0 sd0).2.1 (R.getD j []).length=true)↔j=0)):=by
      refine ⟨hkl,?_⟩
      rcases hk2 with e | hk2
      ·exact .inl e
      rcases h2 with e | e
      ·refine .inr fun j hj=>?_
       by_cases e2:j=k
       ·exact .inl (e2.trans e)
       ·exact hk2 j (by omega)
      ·exact .inl e
     by_cases h3:(k:Int)=i
     ·(repeat' first|refine ZR ?_|refine Zg fun _=>?_)
      refine ⟨(k+1:Nat),by show R.length-(k+1)<R.length-k;omega,hnext,by (repeat' first|exact trivial|rfl|apply And.intro)⟩
     ·(repeat' first|refine ZR ?_|refine Zg fun _=>?_)
      refine ⟨(k+1:Nat),by show R.length-(k+1)<R.length-k;omega,hnext,by (repeat' first|exact trivial|rfl|apply And.intro)⟩
    ·have h4:¬(k:Int)=i:=by omega
     have h5:¬(i:Int)=0:=by omega
     have hk3:∀j,j<k→j=i∨((insN (R.getD j []) ((R.getD i []).getD 0 sd0).1 ((R.getD i []).getD 0 sd0).2.1 (R.getD j []).length=true)↔j=0):=hk2.resolve_left (by omega)
     by_cases h6:insN (R.getD k []) ((R.getD i []).getD 0 sd0).1 ((R.getD i []).getD 0 sd0).2.1 (R.getD k []).length=true↔k=0
     ·have h6':insN (R.getD k []) ((R.getD i []).getD 0 sd0).1 ((R.getD i []).getD 0 sd0).2.1 (R.getD k []).length=true↔(k:Int)=0:=by rw[h6];omega
      have h6':=not_not_intro h6'
      (repeat' first|refine ZR ?_|refine Zg fun _=>?_)
      refine ⟨(k+1:Nat),by show R.length-(k+1)<R.length-k;omega,⟨hkl,.inr fun j hj=>?_⟩,by (repeat' first|exact trivial|rfl|apply And.intro)⟩
      by_cases e2:j=k
      ·subst e2;exact .inr h6
      ·exact hk3 j (by omega)
     ·have hn:=hbad fun q=>(q.2.resolve_left (by omega) k hkl).elim (by omega) h6
      have h6':¬(insN (R.getD k []) ((R.getD i []).getD 0 sd0).1 ((R.getD i []).getD 0 sd0).2.1 (R.getD k []).length=true↔(k:Int)=0):=by
       intro q;apply h6;rw[q];omega
      (repeat' first|refine ZR ?_|refine Zg fun _=>?_)
      (conv=>whnf)
      exact hn
   ·have e:k=R.length:=by omega
    subst e
    (repeat refine ZR ?_)
    refine ⟨(i+1:Nat),by show R.length-(i+1)<R.length-i;omega,⟨hil,fun j hj=>?_⟩,by (repeat' first|exact trivial|rfl|apply And.intro)⟩
    by_cases e2:j=i
    ·subst e2;exact ⟨h1,hk2⟩
    ·exact hi2 j (by omega)
  ·have hn:=hbad fun q=>h1 q.1
   have h1':¬(0<arN (R.getD i []) (R.getD i []).length↔(i:Int)=0):=by
    intro q;apply h1;rw[q];omega
   (repeat' first|refine ZR ?_|refine Zg fun _=>?_)
   (conv=>whnf)
   exact hn
 ·have e:i=R.length:=by omega
  subst e
  (repeat refine ZR ?_)
  (conv=>whnf)
  exact hM.2 hi2
def smA (R:List (List Sid)) (m:Nat):Prop:=∃a,a<m∧∃i,i<(R.getD a []).length∧¬(owS (R.getD a []) i).2.2.2.2.1=true
def smB (r:List Sid) (i:Nat):Prop:=∃j,j<i∧¬(owS r j).2.2.2.2.1=true
theorem Pq (r:List Sid) (i:Nat):smB r (i+1)↔smB r i∨¬(owS r i).2.2.2.2.1=true:=by
 constructor
 ·rintro ⟨j,h1,h2⟩
  by_cases e:j=i
  ·subst e;exact .inr h2
  ·exact .inl ⟨j,by omega,h2⟩
 ·rintro (⟨j,h1,h2⟩ | h)
  ·exact ⟨j,by omega,h2⟩
  ·exact ⟨i,by omega,h⟩
theorem Pr (R:List (List Sid)) (m:Nat):smA R (m+1)↔smA R m∨smB (R.getD m []) (R.getD m []).length:=by
 constructor
 ·rintro ⟨a,h1,i,h2,h3⟩
  by_cases e:a=m
  ·subst e;exact .inr ⟨i,h2,h3⟩
  ·exact .inl ⟨a,by omega,i,h2,h3⟩
 ·rintro (⟨a,h1,h2⟩ | ⟨i,h1,h2⟩)
  ·exact ⟨a,by omega,h2⟩
  ·exact ⟨m,by omega,i,h1,h2⟩
theorem Rz (R:List (List Sid)):smA R R.length↔joS R:=by
 unfold smA joS
 constructor
 ·rintro ⟨a,h1,i,h2,h3⟩ h
  exact h3 (h a h1 i h2)
 ·intro h
  apply Classical.byContradiction
  intro hn
  exact h fun m hm i hi=>Classical.byContradiction fun q=>hn ⟨m,hm,i,hi,q⟩
def c4033:Con:=aH 33 true fun args K=>match args with | [.seq (.slice (.pair (.int .i64) (.pair (.int .i64) (.pair (.int .i64) (.pair (.int .i64) (.pair .bool (.pair (.int .i64) (.int .i64)))))))) R]=>Need (okRs R) (K (.bl (joB R∧joS R) (Classical.propDecidable _))) | _=>False
theorem k4033:aF Tryz.prog c4033:=by
 refine kQ { asks:=[(0,[]),(2,[])] } Tryz.func33 Tryz.ntmps33 (kc yB (kc yC (kc k4076 kn))) fun _ _ h=>?_
 split at h
 case h_2=>exact h.elim
 rename_i R
 change List (List Sid) at R
 refine kb h.go ?_
 replace h:=h.ok
 have hRl:R.length≤1000000:=h.1
 have hM:(joB R∧joS R)↔(∀m,m<R.length→∀i,i<(R.getD m []).length→¬jo1 (R.getD m []) i)∧smA R R.length:=by rw[Rz];exact Iff.rfl
 generalize (joB R∧joS R)=M at*
 (repeat'((conv=>whnf);first|refine Zg fun _=>?_|fail))
 refine Ask.mk ⟨{ X:=Nat,pre:=fun m=>m≤R.length∧∀a,a<m→∀i,i<(R.getD a []).length→¬jo1 (R.getD a []) i,mod:=fun m _=>[(10,I m)],heap:=fun m _=>[.cells [.val (.bool false)] 4,.cells [.bl (smA R m) (Classical.propDecidable _)] 4],mu:=fun m=>R.length-m },rfl,?_⟩
 (repeat refine ZG ?_)
 refine ⟨⟨(0:Nat),⟨Nat.zero_le _,fun j hj=>absurd hj (by omega)⟩,by ((repeat' first|exact trivial|rfl|apply And.intro);all_goals (rintro ⟨a,h1,_⟩;omega))⟩,fun (m:Nat) hm=>?_⟩
 obtain ⟨hm,hm2⟩:=hm
 by_cases hlt:m<R.length
 ·have hr:=jV h hlt
  have hr1:=hr.1
  have hok:=hr.2
  (repeat' first|refine ZR ?_|refine Zg fun _=>?_)
  refine Ask.mk ⟨{ X:=Nat,pre:=fun i=>i≤(R.getD m []).length∧∀j,j<i→¬jo1 (R.getD m []) j,mod:=fun _ _=>[],heap:=fun i _=>[.cells [.val (.bool false)] 4,.cells [.bl (smA R m∨smB (R.getD m []) i) (Classical.propDecidable _)] 4],mu:=fun i=>i },rfl,?_⟩
  (repeat refine ZG ?_)
  refine ⟨⟨(0:Nat),rfl,⟨Nat.zero_le _,fun j hj=>absurd hj (by omega)⟩,by ((repeat' first|exact trivial|rfl|apply And.intro);all_goals exact ⟨.inl,fun q=>q.elim id fun ⟨j,h1,_⟩=>absurd h1 (by omega)⟩)⟩,fun (i:Nat) hi (hil:i<(R.getD m []).length)=>?_,fun (i:Nat) hi (he:i=(R.getD m []).length)=>?_⟩
  ·obtain ⟨hi,hi2⟩:=hi
   have hk:=okR3 hok hil
   have hnext:¬jo1 (R.getD m []) i→i+1≤(R.getD m []).length∧∀j,j<i+1→¬jo1 (R.getD m []) j:=fun q=>⟨hil,fun j hj=>by
    by_cases e:j=i
    ·subst e;exact q
    ·exact hi2 j (by omega)⟩
   have hs:=Pq (R.getD m []) i
   have hyes:smA R m∨smB (R.getD m []) i→smA R m∨smB (R.getD m []) (i+1):=fun q=>q.imp_right fun q=>hs.2 (.inl q)
   have hno:¬(smA R m∨smB (R.getD m []) i)→(¬(owS (R.getD m []) i).2.2.2.2.1=true↔smA R m∨smB (R.getD m []) (i+1)):=fun q=>⟨fun q2=>.inr (hs.2 (.inr q2)),fun q2=>q2.elim (fun q3=>absurd (.inl q3) q) fun q3=>(hs.1 q3).elim (fun q4=>absurd (.inr q4) q) id⟩
   have bad:jo1 (R.getD m []) i→¬M:=fun q q2=>(hM.1 q2).1 m hlt i hil q
   have key:lefP (R.getD m []) i∨(¬lefP (R.getD m []) i∧¬(owS (R.getD m []) i).2.2.2.2.1=true∧¬(bfS (R.getD m []) i).2.2.2.2.1=true∧(owS (R.getD m []) i).2.2.2.2.2.1=(bfS (R.getD m []) i).2.2.2.2.2.1)∨(¬lefP (R.getD m []) i∧(owS (R.getD m []) i).2.2.2.2.1=true)∨(¬lefP (R.getD m []) i∧¬(owS (R.getD m []) i).2.2.2.2.1=true∧(bfS (R.getD m []) i).2.2.2.2.1=true)∨(¬lefP (R.getD m []) i∧¬(owS (R.getD m []) i).2.2.2.2.1=true∧¬(bfS (R.getD m []) i).2.2.2.2.1=true∧¬(owS (R.getD m []) i).2.2.2.2.2.1=(bfS (R.getD m []) i).2.2.2.2.2.1):=by
    by_cases a1:lefP (R.getD m []) i
    ·exact .inl a1
    by_cases a2:(owS (R.getD m []) i).2.2.2.2.1=true
    ·exact .inr (.inr (.inl ⟨a1,a2⟩))
    by_cases a3:(bfS (R.getD m []) i).2.2.2.2.1=true
    ·exact .inr (.inr (.inr (.inl ⟨a1,a2,a3⟩)))
    by_cases a4:(owS (R.getD m []) i).2.2.2.2.2.1=(bfS (R.getD m []) i).2.2.2.2.2.1
    ·exact .inr (.inl ⟨a1,a2,a3,a4⟩)
    ·exact .inr (.inr (.inr (.inr ⟨a1,a2,a3,a4⟩)))
   unfold lefP at key
   show hnfL (itRg (R.getD m []) i) _
   rcases key with hl | ⟨hl,g1,g2,g3⟩ | ⟨hl,g1⟩ | ⟨hl,g1,g2⟩ | ⟨hl,g1,g2,g3⟩
   ·have nj:¬jo1 (R.getD m []) i:=fun q=>q.1 hl
    by_cases hP:smA R m∨smB (R.getD m []) i
    ·(repeat' first|refine ZR ?_|refine Zg fun _=>?_)
     refine ⟨(i+1:Nat),rfl,hnext nj,?_⟩
     (repeat' first|exact trivial|rfl|apply And.intro)
     all_goals exact hyes hP
    ·(repeat' first|refine ZR ?_|refine Zg fun _=>?_)
     refine ⟨(i+1:Nat),rfl,hnext nj,?_⟩
     (repeat' first|exact trivial|rfl|apply And.intro)
     all_goals exact hno hP
   ·have nj:¬jo1 (R.getD m []) i:=fun q=>q.2.elim g1 fun q=>q.elim g2 fun q=>q g3
    by_cases hP:smA R m∨smB (R.getD m []) i
    ·(repeat' first|refine ZR ?_|refine Zg fun _=>?_)
     refine ⟨(i+1:Nat),rfl,hnext nj,?_⟩
     (repeat' first|exact trivial|rfl|apply And.intro)
     all_goals exact hyes hP
    ·(repeat' first|refine ZR ?_|refine Zg fun _=>?_)
     refine ⟨(i+1:Nat),rfl,hnext nj,?_⟩
     (repeat' first|exact trivial|rfl|apply And.intro)
     all_goals exact hno hP
   ·have nj:jo1 (R.getD m []) i:=⟨hl,.inl g1⟩
    by_cases hP:smA R m∨smB (R.getD m []) i
    ·(repeat' first|refine ZR ?_|refine Zg fun _=>?_)
     (conv=>whnf)
     exact bad nj
    ·(repeat' first|refine ZR ?_|refine Zg fun _=>?_)
     (conv=>whnf)
     exact bad nj
   ·have nj:jo1 (R.getD m []) i:=⟨hl,.inr (.inl g2)⟩
    by_cases hP:smA R m∨smB (R.getD m []) i
    ·(repeat' first|refine ZR ?_|refine Zg fun _=>?_)
     (conv=>whnf)
     exact bad nj
    ·(repeat' first|refine ZR ?_|refine Zg fun _=>?_)
     (conv=>whnf)
     exact bad nj
   ·have nj:jo1 (R.getD m []) i:=⟨hl,.inr (.inr g3)⟩
    by_cases hP:smA R m∨smB (R.getD m []) i
    ·(repeat' first|refine ZR ?_|refine Zg fun _=>?_)
     (conv=>whnf)
     exact bad nj
    ·(repeat' first|refine ZR ?_|refine Zg fun _=>?_)
     (conv=>whnf)
     exact bad nj
  ·obtain ⟨hi,hi2⟩:=hi
   subst he
   have hs:=Pr R m
   (repeat refine ZR ?_)
   refine ⟨(m+1:Nat),by show R.length-(m+1)<R.length-m;omega,⟨hlt,fun a ha=>?_⟩,?_⟩
   ·by_cases e:a=m
    ·subst e;exact hi2
    ·exact hm2 a (by omega)
   ·(repeat' first|exact trivial|rfl|apply And.intro)
    all_goals exact hs.symm
 ·have e:m=R.length:=by omega
  subst e
  (repeat refine ZR ?_)
  (conv=>whnf)
  exact ⟨fun q=>hM.2 ⟨hm2,q⟩,fun q=>(hM.1 q).2⟩
section
variable {α:Type} (p:α→Prop)
noncomputable local instance:DecidablePred p:=fun s=>Classical.propDecidable (p s)
noncomputable def ixJ (l:List α):Int:=if l.findIdx (fun s=>decide (p s))<l.length then (l.findIdx (fun s=>decide (p s)):Int) else -1
theorem Gv {l:List α} (d:α) {i:Nat} (hi:i<l.length) (hb:p (l.getD i d)) (h:∀j,j<i→¬p (l.getD j d)):ixJ p l=i:=by
 have e:l.findIdx (fun s=>decide (p s))=i:=by
  rw[List.findIdx_eq hi]
  refine ⟨?_,fun j hj=>?_⟩
  ·have:l[i]=l.getD i d:=by simp[List.getD_eq_getElem?_getD,hi]
   rw[this];exact decide_eq_true hb
  ·have hj':j<l.length:=by omega
   have:l[j]=l.getD j d:=by simp[List.getD_eq_getElem?_getD,hj']
   rw[this]
   exact decide_eq_false (h j hj)
 unfold ixJ
 rw[e,if_pos hi]
theorem Gw {l:List α} (d:α) (h:∀j,j<l.length→¬p (l.getD j d)):ixJ p l= -1:=by
 have e:l.findIdx (fun s=>decide (p s))=l.length:=by
  rw[List.findIdx_eq_length]
  intro x hx
  obtain ⟨j,hj,rfl⟩:=List.mem_iff_getElem.1 hx
  have:l[j]=l.getD j d:=by simp[List.getD_eq_getElem?_getD,hj]
  rw[this]
  exact decide_eq_false (h j hj)
 unfold ixJ
 rw[e,if_neg (by omega)]
theorem sX (l:List α) (d:α):0≤ixJ p l↔∃j,j<l.length∧p (l.getD j d):=by
 constructor
 ·intro h
  apply Classical.byContradiction
  intro hn
  rw[Gw p d (fun j hj q=>hn ⟨j,hj,q⟩)] at h
  omega
 ·intro h
  have:∃i,i<l.length∧p (l.getD i d)∧∀j,j<i→¬p (l.getD j d):=by
   obtain ⟨j,hj,hp⟩:=h
   induction j using Nat.strongRecOn with
   | _ j ih=>
    by_cases q:∃i,i<j∧p (l.getD i d)
    ·obtain ⟨i,hi,hpi⟩:=q
     exact ih i hi (by omega) hpi
    ·exact ⟨j,hj,hp,fun i hi hpi=>q ⟨i,hi,hpi⟩⟩
  obtain ⟨i,hi,hp,hn⟩:=this
  rw[Gv p d hi hp hn]
  omega
end
theorem b4065 (n:Int) (h:0≤n∧n≤1000000):Ii Tryz.prog [] {} Tryz.f65 [.val (.slice none 0 0),I n] (.ref 0 1) tSid [] 41:=by
 (apply Br.mk<;>intro)
 ·omega
 ·(repeat refine ZG ?_)
  (apply Br.mk<;>intro)
  ·(repeat refine ZG ?_)
   (conv=>whnf)
   (repeat' first|rfl|apply And.intro)
  ·skip
   (conv=>whnf)
   (repeat' first|rfl|apply And.intro)
def c4065:Con:=Ey 65 fun args K=>match args with | [.val (.slice none 0 0),.val (.int .i64 n)]=>Need (0≤n∧n≤1000000) (K (.ref 0 1) (.vec 1 ((.pair (.int .i64) (.pair (.int .i64) (.pair (.int .i64) (.pair (.int .i64) (.pair .bool (.pair (.int .i64) (.int .i64)))))))) ([]) 41)) | _=>False
theorem k4065:aF Tryz.prog c4065:=by
 refine Cx (enters_of Tryz.func65 (by kernel_rfl) rfl) ?_
 intro args K h
 split at h
 ·rename_i n;exact ⟨_,_,_,_,_,h.go,fun hfl=>kH (by simp) Tryz.func65 (by simp[Tryz.ntmps65]) hfl (b4065 n h.ok)⟩
 ·exact h.elim
theorem El (R:List (List Sid)):∀m,m≤R.length→(R.take m).flatten.length=cnt R m
 | 0,_=>by simp[cnt]
 | m+1,h=>by
  have e:R.take (m+1)=R.take m++ [R.getD m []]:=by
   rw[List.take_succ_eq_append_getElem (by omega)]
   congr 2
   simp[List.getD_eq_getElem?_getD,show m<R.length by omega]
  rw[e,List.flatten_append,List.length_append,El R m (by omega),cnt]
  simp
theorem Rs (R:List (List Sid)) {m:Nat} (h:m<R.length):(R.take (m+1)).flatten=(R.take m).flatten++R.getD m []:=by
 have e:R.take (m+1)=R.take m++ [R.getD m []]:=by
  rw[List.take_succ_eq_append_getElem h]
  congr 2
  simp[List.getD_eq_getElem?_getD,h]
 rw[e,List.flatten_append]
 simp
def c4025:Con:=aH 25 true fun args K=>match args with | [.seq (.slice (.pair (.int .i64) (.pair (.int .i64) (.pair (.int .i64) (.pair (.int .i64) (.pair .bool (.pair (.int .i64) (.int .i64)))))))) R]=>Need (R.length≤1000000∧cnt R R.length≤24) (K (.seq (.pair (.int .i64) (.pair (.int .i64) (.pair (.int .i64) (.pair (.int .i64) (.pair .bool (.pair (.int .i64) (.int .i64))))))) R.flatten)) | _=>False
theorem Tg:aF Tryz.prog c4025:=by
 refine kQ { asks:=[(0,[]),(2,[1])] } Tryz.func25 Tryz.ntmps25 (kc k4065 kn) fun _ _ h=>?_
 split at h
 case h_2=>exact h.elim
 rename_i R
 change List (List Sid) at R
 refine kb h.go ?_
 replace h:=h.ok
 obtain ⟨hRl,hc⟩:=h
 (repeat'((conv=>whnf);first|refine Zg fun _=>?_|fail))
 refine Ask.mk ⟨{ X:=Nat,pre:=fun m=>m≤R.length,mod:=fun m _=>[(3,I (cnt R m)),(11,I m)],heap:=fun i H=>H,mu:=fun m=>R.length-m },rfl,?_⟩
 (repeat refine ZG ?_)
 refine ⟨⟨(0:Nat),Nat.zero_le _,by (repeat' first|exact trivial|rfl|apply And.intro)⟩,fun (m:Nat) hm=>?_⟩
 have hm:m≤R.length:=hm
 by_cases hlt:m<R.length
 ·have hs:cnt R (m+1)=cnt R m+(R.getD m []).length:=rfl
  have hl:=mH R (show m+1≤R.length by omega)
  (repeat' first|refine ZR ?_|refine Zg fun _=>?_)
  refine ⟨(m+1:Nat),by show R.length-(m+1)<R.length-m;omega,hlt,?_⟩
  (repeat' first|exact trivial|rfl|apply And.intro)
 ·have e:m=R.length:=by omega
  subst e
  (repeat' first|refine ZR ?_|refine Zg fun _=>?_)
  refine Ask.mk ⟨{ X:=Nat,pre:=fun m=>m≤R.length,mod:=fun m _=>[(6,.ref 1 1),(27,I m)],objs:=[1],heap:=fun m H=>[hget H 0,.vec 1 tSid (R.take m).flatten 41],mu:=fun m=>R.length-m },rfl,?_⟩
  (repeat refine ZG ?_)
  refine ⟨⟨(0:Nat),Nat.zero_le _,by (repeat' first|exact trivial|rfl|exact Nat.one_pos|apply And.intro)⟩,fun (m:Nat) hm=>?_⟩
  have hm:m≤R.length:=hm
  by_cases hlt:m<R.length
  ·have hs:=Rs R hlt
   have hs2:=El R m hm
   have hs3:cnt R (m+1)=cnt R m+(R.getD m []).length:=rfl
   have hs4:=mH R (show m+1≤R.length by omega)
   (repeat' first|refine ZR ?_|refine Zg fun _=>?_)
   refine ⟨(m+1:Nat),by show R.length-(m+1)<R.length-m;omega,hlt,?_⟩
   (repeat' first|exact trivial|rfl|exact Nat.one_pos|apply And.intro)
   all_goals exact hs.symm
  ·have e:m=R.length:=by omega
   subst e
   (repeat refine ZR ?_)
   (conv=>whnf)
   rw[List.take_length]
def mI (s:Sid):Prop:=¬ranP s
def c4064:Con:=aH 64 true fun args K=>match args with | [.seq (.pair (.int .i64) (.pair (.int .i64) (.pair (.int .i64) (.pair (.int .i64) (.pair .bool (.pair (.int .i64) (.int .i64))))))) l,.clo 26 [] []]=>K (I (ixJ mI l)) | _=>False
theorem k4064:aF Tryz.prog c4064:=by
 refine kQ { asks:=[(0,[])] } Tryz.func64 Tryz.ntmps64 (kc k4026 kn) fun _ _ h=>?_
 split at h
 case h_2=>exact h.elim
 rename_i l
 change List Sid at l
 refine kb h ?_
 (repeat'((conv=>whnf);first|refine Zg fun _=>?_|fail))
 refine Ask.mk ⟨{ X:=Nat,pre:=fun i=>i≤l.length∧∀j,j<i→¬mI (l.getD j sd0),mod:=fun i _=>[(8,I i)],heap:=fun i H=>H,mu:=fun i=>l.length-i },rfl,?_⟩
 (repeat refine ZG ?_)
 refine ⟨⟨(0:Nat),⟨Nat.zero_le _,fun j hj=>by omega⟩,by (repeat' first|exact trivial|rfl|apply And.intro)⟩,fun (i:Nat) hi=>?_⟩
 obtain ⟨hi,hp⟩:=hi
 by_cases hlt:i<l.length
 ·by_cases hb:mI (l.getD i sd0)
  ·rw[Gv mI sd0 hlt hb hp]
   unfold mI ranP at hb
   (repeat' first|refine ZR ?_|refine Zg fun _=>?_)
   (conv=>whnf)
   (repeat' first|rfl|apply And.intro)
  ·have hb':=hb
   unfold mI ranP at hb
   (repeat' first|refine ZR ?_|refine Zg fun _=>?_)
   refine ⟨(i+1:Nat),by show l.length-(i+1)<l.length-i;omega,⟨hlt,fun j hj=>?_⟩,by (repeat' first|exact trivial|rfl|apply And.intro)⟩
   by_cases e:j=i
   ·subst e;exact hb'
   ·exact hp j (by omega)
 ·have e:i=l.length:=by omega
  subst e
  rw[Gw mI sd0 hp]
  (repeat refine ZR ?_)
  (conv=>whnf)
  (repeat' first|rfl|apply And.intro)
def c4024:Con:=aH 24 true fun args K=>match args with | [.seq (.pair (.int .i64) (.pair (.int .i64) (.pair (.int .i64) (.pair (.int .i64) (.pair .bool (.pair (.int .i64) (.int .i64))))))) l,.clo 26 [] []]=>K (.bl (0≤ixJ mI l) inferInstance) | _=>False
theorem k4024:aF Tryz.prog c4024:=by
 refine kQ {} Tryz.func24 Tryz.ntmps24 (kc k4064 kn) fun _ _ h=>?_
 split at h
 case h_2=>exact h.elim
 refine kb h ?_
 (conv=>whnf)
def badR (r:List Sid):Prop:=¬shpP r
def c4067:Con:=aH 67 true fun args K=>match args with | [.seq (.slice (.pair (.int .i64) (.pair (.int .i64) (.pair (.int .i64) (.pair (.int .i64) (.pair .bool (.pair (.int .i64) (.int .i64)))))))) R,.clo 29 [] []]=>Need (okRs R) (K (I (ixJ badR R))) | _=>False
theorem k4067:aF Tryz.prog c4067:=by
 refine kQ { asks:=[(0,[])] } Tryz.func67 Tryz.ntmps67 (kc k4029 kn) fun _ _ h=>?_
 split at h
 case h_2=>exact h.elim
 rename_i R
 change List (List Sid) at R
 refine kb h.go ?_
 replace h:=h.ok
 (repeat'((conv=>whnf);first|refine Zg fun _=>?_|fail))
 refine Ask.mk ⟨{ X:=Nat,pre:=fun i=>i≤R.length∧∀j,j<i→¬badR (R.getD j []),mod:=fun i _=>[(8,I i)],heap:=fun i H=>H,mu:=fun i=>R.length-i },rfl,?_⟩
 (repeat refine ZG ?_)
 refine ⟨⟨(0:Nat),⟨Nat.zero_le _,fun j hj=>by omega⟩,by (repeat' first|exact trivial|rfl|apply And.intro)⟩,fun (i:Nat) hi=>?_⟩
 obtain ⟨hi,hp⟩:=hi
 by_cases hlt:i<R.length
 ·have hr:=jV h hlt
  by_cases hb:badR (R.getD i [])
  ·rw[Gv badR [] hlt hb hp]
   unfold badR at hb
   (repeat' first|refine ZR ?_|refine Zg fun _=>?_)
   (conv=>whnf)
   (repeat' first|rfl|apply And.intro)
  ·have hb':=hb
   unfold badR at hb
   (repeat' first|refine ZR ?_|refine Zg fun _=>?_)
   refine ⟨(i+1:Nat),by show R.length-(i+1)<R.length-i;omega,⟨hlt,fun j hj=>?_⟩,by (repeat' first|exact trivial|rfl|apply And.intro)⟩
   by_cases e:j=i
   ·subst e;exact hb'
   ·exact hp j (by omega)
 ·have e:i=R.length:=by omega
  subst e
  rw[Gw badR [] hp]
  (repeat refine ZR ?_)
  (conv=>whnf)
  (repeat' first|rfl|apply And.intro)
def c4028:Con:=aH 28 true fun args K=>match args with | [.seq (.slice (.pair (.int .i64) (.pair (.int .i64) (.pair (.int .i64) (.pair (.int .i64) (.pair .bool (.pair (.int .i64) (.int .i64)))))))) R,.clo 29 [] []]=>Need (okRs R) (K (.bl (0≤ixJ badR R) inferInstance)) | _=>False
theorem k4028:aF Tryz.prog c4028:=by
 refine kQ {} Tryz.func28 Tryz.ntmps28 (kc k4067 kn) fun _ _ h=>?_
 split at h
 case h_2=>exact h.elim
 refine kb h.go ?_
 replace h:=h.ok
 (repeat refine ZR ?_)
 (conv=>whnf)
theorem vQ {α:Type} {l:List α} {x:α} (d:α) (h:x∈l):∃j,j<l.length∧l.getD j d=x:=by
 obtain ⟨j,hj,e⟩:=List.mem_iff_getElem.1 h
 exact ⟨j,hj,by simp[List.getD_eq_getElem?_getD,hj,e]⟩
theorem pZ {α:Type} {l:List α} {j:Nat} (d:α) (h:j<l.length):l.getD j d∈l:=by simp[List.getD_eq_getElem?_getD,h]
def Ox:Con:=aH 6 true fun args K=>match args with | [.agg [.seq (.slice (.pair (.int .i64) (.pair (.int .i64) (.pair (.int .i64) (.pair (.int .i64) (.pair .bool (.pair (.int .i64) (.int .i64)))))))) R]]=>Need (R.length≤40) (K (I (bZ R))) | _=>False
theorem Js:aF Tryz.prog Ox:=by
 refine kQ { asks:=[(0,[])] } Tryz.func6 Tryz.ntmps6 (kc Tg (kc k4024 (kc k4028 (kc k4031 (kc k4032 (kc k4033 kn)))))) fun _ _ h=>?_
 split at h
 case h_2=>exact h.elim
 rename_i R
 change List (List Sid) at R
 refine kb h.go ?_
 replace h:=h.ok
 (repeat'((conv=>whnf);first|refine Zg fun _=>?_|fail))
 refine Ask.mk ⟨{ X:=Nat,pre:=fun m=>m≤R.length∧cnt R m≤m*140737488355328∧∀j,j<m→(R.getD j []).length≠0,mod:=fun m _=>[(3,I (cnt R m)),(9,I m)],heap:=fun i H=>H,mu:=fun m=>R.length-m },rfl,?_⟩
 (repeat refine ZG ?_)
 refine ⟨⟨(0:Nat),⟨Nat.zero_le _,Nat.zero_le _,fun j hj=>absurd hj (by omega)⟩,by (repeat' first|exact trivial|rfl|apply And.intro)⟩,fun (m:Nat) hm=>?_⟩
 obtain ⟨hm,hc,hp⟩:=hm
 by_cases hlt:m<R.length
 ·have hs:cnt R (m+1)=cnt R m+(R.getD m []).length:=rfl
  by_cases h0:(R.getD m []).length=0
  ·have e:bZ R=5:=by unfold bZ;rw[if_pos ⟨_,pZ [] hlt,h0⟩]
   rw[e]
   (repeat' first|refine ZR ?_|refine Zg fun _=>?_)
   (conv=>whnf)
   (repeat' first|rfl|apply And.intro)
  ·(repeat' first|refine ZR ?_|refine Zg fun _=>?_)
   refine ⟨(m+1:Nat),by show R.length-(m+1)<R.length-m;omega,⟨hlt,by omega,fun j hj=>?_⟩,by (repeat' first|exact trivial|rfl|apply And.intro)⟩
   by_cases e:j=m
   ·subst e;exact h0
   ·exact hp j (by omega)
 ·have e:m=R.length:=by omega
  subst e
  have p1:¬ ∃r∈R,r.length=0:=by
   rintro ⟨r,hr,h0⟩
   obtain ⟨j,hj,rfl⟩:=vQ [] hr
   exact hp j hj h0
  by_cases p2:cnt R R.length=0
  ·have e:bZ R=5:=by unfold bZ;rw[if_neg p1,if_pos p2]
   rw[e]
   (repeat refine ZR ?_)
   (conv=>whnf)
   (repeat' first|rfl|apply And.intro)
  by_cases p3:24<cnt R R.length
  ·have e:bZ R=4:=by unfold bZ;rw[if_neg p1,if_neg p2,if_pos p3]
   rw[e]
   (repeat refine ZR ?_)
   (conv=>whnf)
   (repeat' first|rfl|apply And.intro)
  have hcc:R.length≤1000000∧cnt R R.length≤24:=⟨by omega,by omega⟩
  by_cases p4:0≤ixJ mI R.flatten
  ·have e:bZ R=2:=by
    unfold bZ
    rw[if_neg p1,if_neg p2,if_neg p3,if_pos]
    obtain ⟨j,hj,hb⟩:=(sX mI _ sd0).1 p4
    exact ⟨_,pZ sd0 hj,hb⟩
   rw[e]
   (repeat refine ZR ?_)
   (conv=>whnf)
   (repeat' first|rfl|apply And.intro)
  have p4':¬ ∃s∈R.flatten,¬ranP s:=by
   rintro ⟨s,hs,hb⟩
   obtain ⟨j,hj,rfl⟩:=vQ sd0 hs
   exact p4 ((sX mI _ sd0).2 ⟨j,hj,hb⟩)
  have hok:okRs R:=⟨hcc.1,hcc.2,fun m hm=>Pn fun s hs=>Classical.byContradiction fun q=>p4' ⟨s,List.mem_flatten.2 ⟨_,pZ [] hm,hs⟩,q⟩⟩
  have hok2:okRs R∧∀m,m<R.length→0<(R.getD m []).length:=⟨hok,fun m hm=>by have:=hp m hm;omega⟩
  by_cases p5:0≤ixJ badR R
  ·have e:bZ R=14:=by
    unfold bZ
    rw[if_neg p1,if_neg p2,if_neg p3,if_neg p4',if_pos]
    obtain ⟨j,hj,hb⟩:=(sX badR _ []).1 p5
    exact ⟨_,pZ [] hj,hb⟩
   rw[e]
   (repeat refine ZR ?_)
   (conv=>whnf)
   (repeat' first|rfl|apply And.intro)
  have p5':¬ ∃r∈R,¬shpP r:=by
   rintro ⟨s,hs,hb⟩
   obtain ⟨j,hj,rfl⟩:=vQ [] hs
   exact p5 ((sX badR _ []).2 ⟨j,hj,hb⟩)
  have eE:bZ R=if crP R then 15 else if ¬plcP R∨¬joB R∨¬joS R then 14 else 0:=by
   unfold bZ
   rw[if_neg p1,if_neg p2,if_neg p3,if_neg p4',if_neg p5']
  by_cases p6:crP R
  ·rw[if_pos p6] at eE
   rw[eE]
   (repeat refine ZR ?_)
   (conv=>whnf)
   (repeat' first|rfl|apply And.intro)
  rw[if_neg p6] at eE
  by_cases p7:plcP R
  ·by_cases p8:joB R∧joS R
   ·rw[if_neg (fun q=>q.elim (fun q=>q p7) fun q=>q.elim (fun q=>q p8.1) fun q=>q p8.2)] at eE
    rw[eE]
    (repeat refine ZR ?_)
    (conv=>whnf)
    (repeat' first|rfl|apply And.intro)
   ·rw[if_pos (.inr (Classical.byContradiction fun q=>p8 ⟨Classical.byContradiction fun q2=>q (.inl q2),Classical.byContradiction fun q2=>q (.inr q2)⟩))] at eE
    rw[eE]
    (repeat refine ZR ?_)
    (conv=>whnf)
    (repeat' first|rfl|apply And.intro)
  ·rw[if_pos (.inl p7)] at eE
   rw[eE]
   (repeat refine ZR ?_)
   (conv=>whnf)
   (repeat' first|rfl|apply And.intro)
def sidL (R:List (List Sid)):List Sid:=if bZ R=0 then R.flatten else []
def sidC (R:List (List Sid)):Int:=if bZ R=0 then 0 else 1
def Th:Con:=aH 8 false fun args K=>match args with | [.agg [.seq (.slice (.pair (.int .i64) (.pair (.int .i64) (.pair (.int .i64) (.pair (.int .i64) (.pair .bool (.pair (.int .i64) (.int .i64)))))))) R]]=>Need (R.length≤40) (K (.tup [.seq (.pair (.int .i64) (.pair (.int .i64) (.pair (.int .i64) (.pair (.int .i64) (.pair .bool (.pair (.int .i64) (.int .i64))))))) (sidL R),I (sidC R)])) | _=>False
theorem Ti:aF Tryz.prog Th:=by
 refine kQ {} Tryz.func8 Tryz.ntmps8 (kc Js (kc Tg kn)) fun _ _ h=>?_
 split at h
 case h_2=>exact h.elim
 rename_i R
 change List (List Sid) at R
 refine kb h.go ?_
 replace h:=h.ok
 unfold sidL sidC
 by_cases h0:bZ R=0
 ·have hc:R.length≤1000000∧cnt R R.length≤24:=⟨by omega,(iI h0).2.2.1⟩
  rw[if_pos h0,if_pos h0]
  (repeat refine ZR ?_)
  (conv=>whnf)
  (repeat' first|exact trivial|rfl|apply And.intro)
 ·rw[if_neg h0,if_neg h0]
  (repeat refine ZR ?_)
  (conv=>whnf)
  (repeat' first|exact trivial|rfl|apply And.intro)
def grP (R:List (List Sid)) (n:Int):Prop:=40<R.length∨(n<(cnt R R.length:Int)∧cnt R R.length≤24)∨40<cnt R R.length
def Tn:Con:=aH 5 true fun args K=>match args with | [.agg [.seq (.slice (.pair (.int .i64) (.pair (.int .i64) (.pair (.int .i64) (.pair (.int .i64) (.pair .bool (.pair (.int .i64) (.int .i64)))))))) R],.val (.int .i64 n)]=>K (.bl (grP R n) (Classical.propDecidable _)) | _=>False
theorem k4005:aF Tryz.prog Tn:=by
 refine kQ { asks:=[(0,[])] } Tryz.func5 Tryz.ntmps5 kn fun _ _ h=>?_
 split at h
 case h_2=>exact h.elim
 rename_i R n
 change List (List Sid) at R
 refine kb h ?_
 by_cases h40:R.length≤40
 ·skip
  refine Ask.mk ⟨{ X:=Nat,pre:=fun m=>m≤R.length∧cnt R m≤m*140737488355328,mod:=fun m _=>[(5,I (cnt R m)),(6,I m)],heap:=fun i H=>H,mu:=fun m=>R.length-m },rfl,?_⟩
  (repeat refine ZG ?_)
  refine ⟨⟨(0:Nat),⟨Nat.zero_le _,Nat.zero_le _⟩,by (repeat' first|exact trivial|rfl|apply And.intro)⟩,fun (m:Nat) hm=>?_⟩
  obtain ⟨hm,hc⟩:=hm
  by_cases hlt:m<R.length
  ·have hs:cnt R (m+1)=cnt R m+(R.getD m []).length:=rfl
   (repeat' first|refine ZR ?_|refine Zg fun _=>?_)
   refine ⟨(m+1:Nat),by show R.length-(m+1)<R.length-m;omega,⟨hlt,by omega⟩,by (repeat' first|exact trivial|rfl|apply And.intro)⟩
  ·have e:m=R.length:=by omega
   subst e
   have hg:grP R n↔(n<(cnt R R.length:Int)∧cnt R R.length≤24)∨40<cnt R R.length:=⟨fun q=>q.resolve_left (by omega),.inr⟩
   generalize grP R n=M at*
   by_cases h1:n<(cnt R R.length:Int)
   ·by_cases h2:(cnt R R.length:Int)≤24
    ·have hM:=hg.2 (.inl ⟨h1,by omega⟩)
     (repeat' first|refine ZR ?_|refine Zg fun _=>?_)
     (conv=>whnf)
     exact hM
    ·by_cases h3:40<(cnt R R.length:Int)
     ·have hM:=hg.2 (.inr (by omega))
      (repeat' first|refine ZR ?_|refine Zg fun _=>?_)
      (conv=>whnf)
      exact hM
     ·have hM:¬M:=fun q=>(hg.1 q).elim (fun q=>h2 (by omega)) fun q=>h3 (by omega)
      (repeat' first|refine ZR ?_|refine Zg fun _=>?_)
      (conv=>whnf)
      exact ⟨fun q=>absurd q (by omega),fun q=>absurd q hM⟩
   ·by_cases h3:40<(cnt R R.length:Int)
    ·have hM:=hg.2 (.inr (by omega))
     (repeat' first|refine ZR ?_|refine Zg fun _=>?_)
     (conv=>whnf)
     exact hM
    ·have hM:¬M:=fun q=>(hg.1 q).elim (fun q=>h1 q.1) fun q=>h3 (by omega)
     (repeat' first|refine ZR ?_|refine Zg fun _=>?_)
     (conv=>whnf)
     exact ⟨fun q=>absurd q (by omega),fun q=>absurd q hM⟩
 ·have hM:grP R n:=.inl (by omega)
  generalize grP R n=M at*
  refine Ask.mk ⟨{ X:=Nat,pre:=fun m=>m≤R.length,mod:=fun m _=>[(5,.num .i64),(6,I m)],heap:=fun i H=>H,mu:=fun m=>R.length-m },rfl,?_⟩
  (repeat refine ZG ?_)
  refine ⟨⟨(0:Nat),Nat.zero_le _,by (repeat' first|exact trivial|rfl|apply And.intro)⟩,fun (m:Nat) hm=>?_⟩
  have hm:m≤R.length:=hm
  by_cases hlt:m<R.length
  ·(repeat' first|refine ZR ?_|refine Zg fun _=>?_)
   refine ⟨(m+1:Nat),by show R.length-(m+1)<R.length-m;omega,hlt,by (repeat' first|exact trivial|rfl|apply And.intro)⟩
  ·have e:m=R.length:=by omega
   subst e
   (repeat' first|refine ZR ?_|refine Zg fun _=>?_)
   (conv=>whnf)
   intro p1
   by_cases q1:p1
   ·(repeat refine ZR ?_)
    (conv=>whnf)
    intro p2
    by_cases q2:p2
    ·(repeat refine ZR ?_)
     (conv=>whnf)
     exact hM
    ·(repeat refine ZR ?_)
     (conv=>whnf)
     intro p3
     by_cases q3:p3
     ·(repeat refine ZR ?_)
      (conv=>whnf)
      exact hM
     ·(repeat' first|refine ZR ?_|refine Zg fun _=>?_)
      (conv=>whnf)
      exact ⟨fun _=>hM,fun _=>by omega⟩
   ·(repeat refine ZR ?_)
    (conv=>whnf)
    intro p3
    by_cases q3:p3
    ·(repeat refine ZR ?_)
     (conv=>whnf)
     exact hM
    ·(repeat' first|refine ZR ?_|refine Zg fun _=>?_)
     (conv=>whnf)
     exact ⟨fun _=>hM,fun _=>by omega⟩
def c4036:Con:=aH 36 false fun args K=>match args with | []=>K (.seq (.slice (.int .i64)) [[100,50],[125,100],[150,200],[200,1048576]]) | _=>False
theorem k4036:aF Tryz.prog c4036:=by
 refine kQ {} Tryz.func36 Tryz.ntmps36 kn fun _ _ h=>?_
 split at h
 case h_2=>exact h.elim
 refine kb h ?_
 (repeat refine ZR ?_)
 (conv=>whnf)
def c4079:Con:=aH 79 true fun args K=>match args with | [.seq (.slice (.int .i64)) [[100,50],[125,100],[150,200],[200,1048576]]]=>K (I 0) | _=>False
theorem k4079:aF Tryz.prog c4079:=by
 refine kQ {} Tryz.func79 Tryz.ntmps79 kn fun _ _ h=>?_
 split at h
 case h_2=>exact h.elim
 refine kb h ?_
 have hl:([[100,50],[125,100],[150,200],[200,1048576]]:List (List Int)).length=4:=rfl
 have l0:(([[100,50],[125,100],[150,200],[200,1048576]]:List (List Int)).getD 0 []).length=2:=rfl
 have l1:(([[100,50],[125,100],[150,200],[200,1048576]]:List (List Int)).getD 1 []).length=2:=rfl
 have l2:(([[100,50],[125,100],[150,200],[200,1048576]]:List (List Int)).getD 2 []).length=2:=rfl
 have l3:(([[100,50],[125,100],[150,200],[200,1048576]]:List (List Int)).getD 3 []).length=2:=rfl
 have a0:(([[100,50],[125,100],[150,200],[200,1048576]]:List (List Int)).getD 0 []).getD 0 0=100:=rfl
 have a1:(([[100,50],[125,100],[150,200],[200,1048576]]:List (List Int)).getD 0 []).getD 1 0=50:=rfl
 have b0:(([[100,50],[125,100],[150,200],[200,1048576]]:List (List Int)).getD 1 []).getD 0 0=125:=rfl
 have b1:(([[100,50],[125,100],[150,200],[200,1048576]]:List (List Int)).getD 1 []).getD 1 0=100:=rfl
 have c0:(([[100,50],[125,100],[150,200],[200,1048576]]:List (List Int)).getD 2 []).getD 0 0=150:=rfl
 have c1:(([[100,50],[125,100],[150,200],[200,1048576]]:List (List Int)).getD 2 []).getD 1 0=200:=rfl
 have d0:(([[100,50],[125,100],[150,200],[200,1048576]]:List (List Int)).getD 3 []).getD 0 0=200:=rfl
 have d1:(([[100,50],[125,100],[150,200],[200,1048576]]:List (List Int)).getD 3 []).getD 1 0=1048576:=rfl
 have l3':(([[100,50],[125,100],[150,200],[200,1048576]]:List (List Int)).getD (0+1+1+1) []).length=2:=rfl
 have d0':(([[100,50],[125,100],[150,200],[200,1048576]]:List (List Int)).getD (0+1+1+1) []).getD 0 0=200:=rfl
 have d1':(([[100,50],[125,100],[150,200],[200,1048576]]:List (List Int)).getD (0+1+1+1) []).getD 1 0=1048576:=rfl
 (repeat'((conv=>whnf);first|refine Zg fun _=>?_|refine Zn ?_|refine Z0 ?_|refine Z1 ?_|refine Z2 ?_|refine Zj ?_|(apply Pin.mk;apply Exists.intro)|apply Pinned.mk rfl rfl|refine Zy ?_|refine Zm ?_|fail))
 (conv=>whnf)
 repeat (first | (refine Br.mkN (by decide) ?_;(repeat'((conv=>whnf);first|refine Zg fun _=>?_|refine Zn ?_|refine Z0 ?_|refine Z1 ?_|refine Z2 ?_|(apply Pin.mk;apply Exists.intro)|apply Pinned.mk rfl rfl|refine Zy ?_|refine Zm ?_|fail));(conv=>whnf)) | (refine Br.mkY (by decide) ?_;skip;(conv=>whnf)))
 (repeat' first|rfl|apply And.intro)
end RB
end
section
open Go Go.Proofs Go.Eng Go.Shelf IB
namespace RB
def c134:Con:=aH 181 false fun args K=>match args with | [.seq (.int .i64) a,.val (.int .i64 d)]=>Need (InB B9 a∧(0<d∧d<1000000000)∧a.length≤100000) (K (.tup [Ls (aD B9 (valB B9 a/d).toNat),Ls (aD B9 (valB B9 a%d).toNat)])) | _=>False
theorem k134:aF Tryz.prog c134:=by
 refine kQ { asks:=[(0,[])] } Tryz.func181 Tryz.ntmps181 (kc k135 (kc k166 (kc k131 kn))) fun _ _ h=>?_
 split at h
 case h_2=>exact h.elim
 rename_i a d
 refine kb h.go ?_
 replace h:=h.ok
 obtain ⟨ha,hd,hla⟩:=h
 obtain ⟨q1,q2,q3⟩:=Ol (B:=B9) (by decide) hd.1 hd.2 ha
 (repeat' first|refine ZG ?_|refine Zg fun _=>?_)
 refine Ask.mk ⟨{ X:=Nat,pre:=fun i=>i≤a.length,mod:=fun _ _=>[],heap:=fun i _=>[.cells [I d] 3,V [],.cells [.ref 4 1] 119,V [],V (divK B9 d a i).1,.cells [I (divK B9 d a i).2] 3],mu:=fun i=>i },rfl,?_⟩
 (repeat refine ZG ?_)
 refine ⟨⟨(0:Nat),rfl,Nat.zero_le _,?_⟩,fun (i:Nat) hi (hlt:i<a.length)=>?_,fun (i:Nat) hi (he:i=a.length)=>?_⟩
 ·(repeat' first|exact trivial|rfl|apply And.intro)
 ·obtain ⟨g1,g2,g3,_⟩:=rD (B:=B9) (by decide) hd.1 ha i (by omega)
  have ga:=get9 ha (a.length-1-i)
  have hm:=Int.mul_le_mul_of_nonneg_right (show (divK B9 d a i).2≤999999998 by omega) (show (0:Int)≤1000000000 by omega)
  have hm0:=Int.mul_nonneg g3.1 (show (0:Int)≤1000000000 by omega)
  show hnfL (itB a i) _
  (repeat'((conv=>whnf);first|refine Zg fun _=>?_|refine Za ?_|refine Zn ?_|refine Zj ?_|(apply Pin.mk;apply Exists.intro)|apply Pinned.mk rfl rfl|(apply PinH.mk;apply Exists.intro;apply Exists.intro)|exact Zf|refine Zc ?_ ?_|fail))
  refine ⟨(i+1:Nat),rfl,hlt,by (repeat' first|exact trivial|rfl|apply And.intro)⟩
 ·subst he
  (repeat'((conv=>whnf);first|(apply Pin.mk;apply Exists.intro)|apply Pinned.mk rfl rfl|(apply PinH.mk;apply Exists.intro;apply Exists.intro)|exact Zf|refine Zc ?_ ?_|refine Zl ?_|fail))
  (conv=>whnf)
  (repeat' first|exact trivial|apply And.intro)
  ·exact q1
  ·exact q3
theorem b137 (v:List Int) (j q:Int) (u:List Int) (h:InB B9 u∧InB B9 v∧0≤j∧(0≤q∧q≤8000000000)∧j+v.length+1≤u.length∧u.length≤300000):Ce Tryz.prog [c132] { asks:=[(0,[])] } Tryz.f184 0 true [.any,Ls v,I j,I q] (.int .i64) u 3 (.bl (0<(aW B9 u v j.toNat q (v.length+1)).2) inferInstance) (aW B9 u v j.toNat q (v.length+1)).1:=by
 obtain ⟨hu,hv,hj,hq,hl,hlu⟩:=h
 obtain ⟨j,rfl⟩:∃k:Nat,j=k:=⟨j.toNat,by omega⟩
 rw[Int.toNat_natCast]
 (repeat' first|refine ZG ?_|refine Zg fun _=>?_)
 refine Ask.mk ⟨{ X:=Nat,pre:=fun k=>k≤v.length+1,mod:=fun k _=>[(15,I k),(9,I (aW B9 u v j q k).2)],heap:=fun k _=>[V (aW B9 u v j q k).1],mu:=fun k=>v.length+1-k },rfl,?_⟩
 (repeat refine ZG ?_)
 refine ⟨⟨(0:Nat),Nat.zero_le _,by (repeat' first|exact trivial|rfl|apply And.intro)⟩,fun (k:Nat) (hk:k≤v.length+1)=>?_⟩
 obtain ⟨m1,m2,m3,_⟩:=fS (B:=B9) (by decide) hu hv (j:=j) hq.1 k (by omega)
 have gv:=get9 hv k
 have gm:=get9 m2 (j+k)
 have hm:0≤q*v.getD k 0∧q*v.getD k 0≤8000000000*999999999:=⟨Int.mul_nonneg hq.1 gv.1,Int.le_trans (Int.mul_le_mul_of_nonneg_right hq.2 gv.1) (Int.mul_le_mul_of_nonneg_left (by omega) (by omega))⟩
 (apply Br.mk<;>intro)
 ·have hlt:k<v.length+1:=by omega
  (repeat'((conv=>whnf);first|refine Zg fun _=>?_|refine Zn ?_|refine Zj ?_|(apply Pin.mk;apply Exists.intro)|apply Pinned.mk rfl rfl|fail))
  (apply Br.mk<;>intro)
  ·rename_i hneg
   have ht:aW B9 u v j q (k+1)=((aW B9 u v j q k).1.set (j+k) ((aW B9 u v j q k).1.getD (j+k) 0-(aW B9 u v j q k).2-q*v.getD k 0+(-((aW B9 u v j q k).1.getD (j+k) 0-(aW B9 u v j q k).2-q*v.getD k 0)+1000000000-1)/1000000000*1000000000),(-((aW B9 u v j q k).1.getD (j+k) 0-(aW B9 u v j q k).2-q*v.getD k 0)+1000000000-1)/1000000000):=by
    simp only[aW]
    rw[if_pos hneg]
    rfl
   (repeat refine ZG ?_)
   refine ⟨(k+1:Nat),by show v.length+1-(k+1)<v.length+1-k;omega,hlt,?_⟩
   (repeat' first|exact trivial|rfl|apply And.intro)
   all_goals first | exact (congrArg Prod.fst ht).symm | exact (congrArg Prod.snd ht).symm
  ·rename_i hneg
   have ht:aW B9 u v j q (k+1)=((aW B9 u v j q k).1.set (j+k) ((aW B9 u v j q k).1.getD (j+k) 0-(aW B9 u v j q k).2-q*v.getD k 0+0*1000000000),0):=by
    simp only[aW]
    rw[if_neg hneg]
    rfl
   (repeat refine ZG ?_)
   refine ⟨(k+1:Nat),by show v.length+1-(k+1)<v.length+1-k;omega,hlt,?_⟩
   (repeat' first|exact trivial|rfl|apply And.intro)
   all_goals first | exact (congrArg Prod.fst ht).symm | exact (congrArg Prod.snd ht).symm
 ·have e:k=v.length+1:=by omega
  subst e
  (conv=>whnf)
  (repeat' first|rfl|apply And.intro)
def c137:Con:=Ex 184 0 true fun args o K=>match args,o with | [.any,.seq (.int .i64) v,.val (.int .i64 j),.val (.int .i64 q)],.vec 1 (.int .i64) u 3=>Need (InB B9 u∧InB B9 v∧0≤j∧(0≤q∧q≤8000000000)∧j+v.length+1≤u.length∧u.length≤300000) (K (.bl (0<(aW B9 u v j.toNat q (v.length+1)).2) inferInstance) (.vec 1 (.int .i64) ((aW B9 u v j.toNat q (v.length+1)).1) 3)) | _,_=>False
theorem k137:aF Tryz.prog c137:=by
 refine Cw (enters_of Tryz.func184 (by kernel_rfl) rfl) ?_
 intro args t xs e K hfl h
 split at h
 ·rename_i v j q zs heq
  cases heq
  first | exact ⟨_,_,h.go,dO (by simp[k132]) Tryz.func184 (by simp[Tryz.ntmps184]) rfl (b137 v j q zs h.ok)⟩ | exact ⟨_,_,h.go,dO (by simp[k132]) Tryz.func184 (by simp[Tryz.ntmps184]) rfl (b137 v j q xs h.ok)⟩
 ·exact h.elim
theorem b138 (v:List Int) (j q:Int) (u:List Int) (h:InB B9 u∧InB B9 v∧0≤j∧(0≤q∧q≤8000000000)∧j+v.length+1≤u.length∧u.length≤300000):Ce Tryz.prog [c132] { asks:=[(0,[])] } Tryz.f185 0 true [.any,Ls v,I j,I q] (.int .i64) u 3 (.ref 0 1) (mulK B9 q v j.toNat u (v.length+1)).1:=by
 obtain ⟨hu,hv,hj,hq,hl,hlu⟩:=h
 obtain ⟨j,rfl⟩:∃k:Nat,j=k:=⟨j.toNat,by omega⟩
 rw[Int.toNat_natCast]
 (repeat' first|refine ZG ?_|refine Zg fun _=>?_)
 refine Ask.mk ⟨{ X:=Nat,pre:=fun k=>k≤v.length+1,mod:=fun k _=>[(15,I k),(9,I (mulK B9 q v j u k).2)],heap:=fun k _=>[V (mulK B9 q v j u k).1,V []],mu:=fun k=>v.length+1-k },rfl,?_⟩
 (repeat refine ZG ?_)
 refine ⟨⟨(0:Nat),Nat.zero_le _,by (repeat' first|exact trivial|rfl|apply And.intro)⟩,fun (k:Nat) (hk:k≤v.length+1)=>?_⟩
 obtain ⟨m1,m2,m3,_⟩:=rE (B:=B9) (by decide) (x:=q) hq.1 hv (i:=j) hu k (by omega)
 have gv:=get9 hv k
 have gm:=get9 m2 (j+k)
 have hm:0≤q*v.getD k 0∧q*v.getD k 0≤8000000000*999999999:=⟨Int.mul_nonneg hq.1 gv.1,Int.le_trans (Int.mul_le_mul_of_nonneg_right hq.2 gv.1) (Int.mul_le_mul_of_nonneg_left (by omega) (by omega))⟩
 (apply Br.mk<;>intro)
 ·have hlt:k<v.length+1:=by omega
  (repeat'((conv=>whnf);first|refine Zg fun _=>?_|refine Za ?_|refine Zn ?_|refine Zj ?_|(apply Pin.mk;apply Exists.intro)|apply Pinned.mk rfl rfl|fail))
  refine ⟨(k+1:Nat),by show v.length+1-(k+1)<v.length+1-k;omega,hlt,?_⟩
  (repeat' first|exact trivial|rfl|apply And.intro)
 ·have e:k=v.length+1:=by omega
  subst e
  (conv=>whnf)
  (repeat' first|rfl|apply And.intro)
def c138:Con:=Ex 185 0 true fun args o K=>match args,o with | [.any,.seq (.int .i64) v,.val (.int .i64 j),.val (.int .i64 q)],.vec 1 (.int .i64) u 3=>Need (InB B9 u∧InB B9 v∧0≤j∧(0≤q∧q≤8000000000)∧j+v.length+1≤u.length∧u.length≤300000) (K (.ref 0 1) (.vec 1 (.int .i64) ((mulK B9 q v j.toNat u (v.length+1)).1) 3)) | _,_=>False
theorem k138:aF Tryz.prog c138:=by
 refine Cw (enters_of Tryz.func185 (by kernel_rfl) rfl) ?_
 intro args t xs e K hfl h
 split at h
 ·rename_i v j q zs heq
  cases heq
  first | exact ⟨_,_,h.go,dO (by simp[k132]) Tryz.func185 (by simp[Tryz.ntmps185]) rfl (b138 v j q zs h.ok)⟩ | exact ⟨_,_,h.go,dO (by simp[k132]) Tryz.func185 (by simp[Tryz.ntmps185]) rfl (b138 v j q xs h.ok)⟩
 ·exact h.elim
abbrev top2 (u v:List Int) (j:Nat):Int:=u.getD (j+v.length) 0*1000000000+u.getD (j+v.length-1) 0
abbrev estL (u v:List Int) (j:Nat):Int:=estF 1000000000 (v.getD (v.length-1) 0) (v.getD (v.length-2) 0) (u.getD (j+v.length-2) 0) 8 (top2 u v j/v.getD (v.length-1) 0) (top2 u v j%v.getD (v.length-1) 0)
def eQ (u v:List Int) (j i:Nat):Int:=top2 u v j/v.getD (v.length-1) 0-i
def eR (u v:List Int) (j i:Nat):Int:=top2 u v j%v.getD (v.length-1) 0+i*v.getD (v.length-1) 0
theorem gO (u v:List Int) (j i:Nat):eR u v j (i+1)=eR u v j i+v.getD (v.length-1) 0:=by
 unfold eR
 have:((i+1:Nat):Int)*v.getD (v.length-1) 0=i*v.getD (v.length-1) 0+v.getD (v.length-1) 0:=by rw[Int.natCast_succ,Int.add_mul,Int.one_mul]
 omega
theorem qD (u v:List Int) (j i:Nat):eQ u v j (i+1)=eQ u v j i-1:=by unfold eQ;omega
theorem b136 (u v:List Int) (j:Int) (h:InB B9 u∧InB B9 v∧0≤j∧2≤v.length∧250000000≤v.getD (v.length-1) 0∧j+v.length+1≤u.length∧u.length≤300000):body Tryz.prog [] { asks:=[(0,[])] } true Tryz.f183 [Ls u,Ls v,I j] (I (estL u v j.toNat)):=by
 obtain ⟨hu,hv,hj,hn,hv1,hl,hlu⟩:=h
 obtain ⟨j,rfl⟩:∃k:Nat,j=k:=⟨j.toNat,by omega⟩
 rw[Int.toNat_natCast]
 have g0:=get9 hu (j+v.length)
 have g1:=get9 hu (j+v.length-1)
 have g2:=get9 hu (j+v.length-2)
 have w1:=get9 hv (v.length-1)
 have w2:=get9 hv (v.length-2)
 (repeat'((conv=>whnf);first|refine Zg fun _=>?_|refine Zn ?_|refine Zj ?_|(apply Pin.mk;apply Exists.intro)|apply Pinned.mk rfl rfl|fail))
 refine gH (j+v.length-1) (by omega) ?_
 (repeat'((conv=>whnf);first|refine Zg fun _=>?_|refine Zn ?_|(apply Pin.mk;apply Exists.intro)|apply Pinned.mk rfl rfl|fail))
 refine gH (v.length-1) (by omega) ?_
 (repeat'((conv=>whnf);first|refine Zg fun _=>?_|refine Za ?_|refine Zn ?_|(apply Pin.mk;apply Exists.intro)|apply Pinned.mk rfl rfl|fail))
 refine gH (v.length-1) (by omega) ?_
 (repeat'((conv=>whnf);first|refine Zg fun _=>?_|refine Za ?_|(apply Pin.mk;apply Exists.intro)|apply Pinned.mk rfl rfl|fail))
 have hT:0≤top2 u v j∧top2 u v j<1000000000000000000:=by unfold top2;omega
 have hr:0≤top2 u v j%v.getD (v.length-1) 0∧top2 u v j%v.getD (v.length-1) 0<v.getD (v.length-1) 0:=⟨Int.emod_nonneg _ (by omega),Int.emod_lt_of_pos _ (by omega)⟩
 have hq:0≤top2 u v j/v.getD (v.length-1) 0∧top2 u v j/v.getD (v.length-1) 0≤4000000000:=by
  refine ⟨Int.ediv_nonneg hT.1 (by omega),?_⟩
  refine Int.le_trans (Int.ediv_le_ediv (by omega) (show top2 u v j≤4000000000*v.getD (v.length-1) 0 by omega)) ?_
  rw[Int.mul_ediv_cancel _ (by omega)]
  exact Int.le_refl _
 refine Ask.mk ⟨{ X:=Nat,pre:=fun i=>eR u v j i<1000000000∧estL u v j=estF 1000000000 (v.getD (v.length-1) 0) (v.getD (v.length-2) 0) (u.getD (j+v.length-2) 0) (8-i) (eQ u v j i) (eR u v j i),mod:=fun i _=>[(9,I (eQ u v j i)),(10,I (eR u v j i))],heap:=fun _ _=>[],mu:=fun i=>8-i },rfl,?_⟩
 (repeat refine ZG ?_)
 refine ⟨⟨(0:Nat),⟨by unfold eR;omega,by simp only[estL,eQ,eR];congr 1<;>omega⟩,?_⟩,fun (i:Nat) hi=>?_⟩
 ·(repeat' first|exact trivial|rfl|apply And.intro)
  ·show top2 u v j/ _= _
   unfold eQ;omega
  ·show top2 u v j% _= _
   unfold eR;omega
 obtain ⟨hi1,hi2⟩:=hi
 have hi4:(i:Int)*250000000≤i*v.getD (v.length-1) 0:=Int.mul_le_mul_of_nonneg_left hv1 (by omega)
 have hi3:i≤3:=by unfold eR at hi1;omega
 have hR:0≤eR u v j i:=by unfold eR;omega
 have hQ: -3≤eQ u v j i∧eQ u v j i≤4000000000:=by unfold eQ;omega
 have hQv: -3*999999999≤eQ u v j i*v.getD (v.length-2) 0∧eQ u v j i*v.getD (v.length-2) 0≤4000000000*999999999:=by
  refine ⟨Int.le_trans (Int.mul_le_mul_of_nonpos_left (by omega) (show v.getD (v.length-2) 0≤999999999 by omega)) (Int.mul_le_mul_of_nonneg_right hQ.1 w2.1),Int.le_trans (Int.mul_le_mul_of_nonneg_right hQ.2 w2.1) (Int.mul_le_mul_of_nonneg_left (by omega) (by omega))⟩
 obtain ⟨f,hf⟩:∃f,8-i=f+1:=⟨7-i,by omega⟩
 have hf1:8-(i+1)=f:=by omega
 rw[hf,estF,← gO,← qD] at hi2
 (repeat'((conv=>whnf);first|(apply Pin.mk;apply Exists.intro)|apply Pinned.mk rfl rfl|fail))
 (apply Br.mk<;>intro)
 ·rename_i hq1
  rw[if_pos (.inl hq1)] at hi2
  (repeat'((conv=>whnf);first|refine Zn ?_|(apply Pin.mk;apply Exists.intro)|apply Pinned.mk rfl rfl|fail))
  refine gH (v.length-1) (by omega) ?_
  (repeat'((conv=>whnf);first|refine Zg fun _=>?_|refine Zn ?_|(apply Pin.mk;apply Exists.intro)|apply Pinned.mk rfl rfl|fail))
  (apply Br.mk<;>intro)
  ·rename_i hb
   rw[gO,if_pos hb,qD] at hi2
   (conv=>whnf)
   (repeat' first|rfl|apply And.intro)
   exact hi2.symm
  ·rename_i hb
   rw[if_neg (by rw[gO];exact hb)] at hi2
   refine ⟨(i+1:Nat),by show 8-(i+1)<8-i;omega,⟨by rw[gO];omega,by rw[hi2,hf1]⟩,?_⟩
   (repeat' first|exact trivial|rfl|apply And.intro)
   ·exact (qD u v j i).symm
   ·exact (gO u v j i).symm
 ·rename_i hq1
  (repeat'((conv=>whnf);first|(apply Pin.mk;apply Exists.intro)|apply Pinned.mk rfl rfl|fail))
  (apply Br.mk<;>intro)
  ·rename_i hr1
   (repeat'((conv=>whnf);first|refine Zn ?_|(apply Pin.mk;apply Exists.intro)|apply Pinned.mk rfl rfl|fail))
   refine gH (v.length-2) (by omega) ?_
   (repeat'((conv=>whnf);first|refine Zg fun _=>?_|refine Zn ?_|(apply Pin.mk;apply Exists.intro)|apply Pinned.mk rfl rfl|fail))
   refine gH (j+v.length-2) (by omega) ?_
   (repeat'((conv=>whnf);first|refine Zg fun _=>?_|refine Zn ?_|(apply Pin.mk;apply Exists.intro)|apply Pinned.mk rfl rfl|fail))
   (apply Br.mk<;>intro)
   ·rename_i hgt
    rw[if_pos (.inr ⟨hr1,hgt⟩)] at hi2
    (repeat'((conv=>whnf);first|refine Zn ?_|(apply Pin.mk;apply Exists.intro)|apply Pinned.mk rfl rfl|fail))
    refine gH (v.length-1) (by omega) ?_
    (repeat'((conv=>whnf);first|refine Zg fun _=>?_|refine Zn ?_|(apply Pin.mk;apply Exists.intro)|apply Pinned.mk rfl rfl|fail))
    (apply Br.mk<;>intro)
    ·rename_i hb
     rw[gO,if_pos hb,qD] at hi2
     (conv=>whnf)
     (repeat' first|rfl|apply And.intro)
     exact hi2.symm
    ·rename_i hb
     rw[if_neg (by rw[gO];exact hb)] at hi2
     refine ⟨(i+1:Nat),by show 8-(i+1)<8-i;omega,⟨by rw[gO];omega,by rw[hi2,hf1]⟩,?_⟩
     (repeat' first|exact trivial|rfl|apply And.intro)
     ·exact (qD u v j i).symm
     ·exact (gO u v j i).symm
   ·rename_i hgt
    rw[if_neg (by omega)] at hi2
    (conv=>whnf)
    (repeat' first|rfl|apply And.intro)
    exact hi2.symm
  ·omega
def c136:Con:=aH 183 true fun args K=>match args with | [.seq (.int .i64) u,.seq (.int .i64) v,.val (.int .i64 j)]=>Need (InB B9 u∧InB B9 v∧0≤j∧2≤v.length∧250000000≤v.getD (v.length-1) 0∧j+v.length+1≤u.length∧u.length≤300000) (K (I (estL u v j.toNat))) | _=>False
theorem k136:aF Tryz.prog c136:=by
 refine kO Tryz.func183 fun args K h=>?_
 simp only[c136] at h;split at h
 ·rename_i u v j;exact ⟨_,h.go,triB Tryz.func183 Tryz.ntmps183 (by simp) (b136 u v j h.ok)⟩
 ·exact h.elim
end RB
end
section
set_option maxRecDepth 100000
namespace Go.Proofs
open Go.Shelf
def RL.lI_ren:Go.Shelf.Ren:=⟨fun | 171=>47 | 243=>93 | 246=>145 | 283=>176 | 284=>177 | 285=>178 | 286=>179 | 129=>134 | 317=>211 | 318=>212 | 319=>213 | 320=>214 | 337=>241 | 338=>242 | n=>n,fun | 3=>3 | 9=>9 | 2=>2 | 4=>4 | 171=>235 | 0=>0 | 53=>198 | 37=>237 | 5=>5 | 173=>238 | 212=>267 | 51=>196 | 20=>20 | 213=>268 | 46=>114 | 232=>313 | 233=>314 | n=>n,fun | 17=>0 | 18=>4 | 19=>5 | n=>n⟩
theorem RL.lI:Go.Proofs.LaysM.n171 Tryz.prog RL.lI_ren where
 mixed:=by kernel_rfl
 f129:=Tryz.func134.trans (congrArg some (by kernel_rfl))
 f171:=Tryz.func47.trans (congrArg some (by kernel_rfl))
 f243:=Tryz.func93.trans (congrArg some (by kernel_rfl))
 f246:=Tryz.func145.trans (congrArg some (by kernel_rfl))
 f283:=Tryz.func176.trans (congrArg some (by kernel_rfl))
 f284:=Tryz.func177.trans (congrArg some (by kernel_rfl))
 f285:=Tryz.func178.trans (congrArg some (by kernel_rfl))
 f286:=Tryz.func179.trans (congrArg some (by kernel_rfl))
 f317:=Tryz.func211.trans (congrArg some (by kernel_rfl))
 f318:=Tryz.func212.trans (congrArg some (by kernel_rfl))
 f319:=Tryz.func213.trans (congrArg some (by kernel_rfl))
 f320:=Tryz.func214.trans (congrArg some (by kernel_rfl))
 f337:=Tryz.func241.trans (congrArg some (by kernel_rfl))
 f338:=Tryz.func242.trans (congrArg some (by kernel_rfl))
 t0:=Tryz.underlying0
 a0:=Tryz.isAgg0
 z0:=Tryz.sizeOf0
 v0:=Tryz.zeroValue0
 t2:=Tryz.underlying2
 a2:=Tryz.isAgg2
 z2:=Tryz.sizeOf2
 v2:=Tryz.zeroValue2
 t3:=Tryz.underlying3
 a3:=Tryz.isAgg3
 z3:=Tryz.sizeOf3
 v3:=Tryz.zeroValue3
 t4:=Tryz.underlying4
 a4:=Tryz.isAgg4
 z4:=Tryz.sizeOf4
 v4:=Tryz.zeroValue4
 t5:=Tryz.underlying5
 a5:=Tryz.isAgg5
 z5:=Tryz.sizeOf5
 v5:=Tryz.zeroValue5
 t9:=Tryz.underlying9
 a9:=Tryz.isAgg9
 z9:=Tryz.sizeOf9
 v9:=Tryz.zeroValue9
 t20:=Tryz.underlying20
 a20:=Tryz.isAgg20
 z20:=Tryz.sizeOf20
 v20:=Tryz.zeroValue20
 t37:=Tryz.underlying237
 a37:=Tryz.isAgg237
 z37:=Tryz.sizeOf237
 v37:=Tryz.zeroValue237
 t46:=Tryz.underlying114
 a46:=Tryz.isAgg114
 z46:=Tryz.sizeOf114
 v46:=Tryz.zeroValue114
 t51:=Tryz.underlying196
 a51:=Tryz.isAgg196
 z51:=Tryz.sizeOf196
 v51:=Tryz.zeroValue196
 t53:=Tryz.underlying198
 a53:=Tryz.isAgg198
 z53:=Tryz.sizeOf198
 v53:=Tryz.zeroValue198
 t171:=Tryz.underlying235
 a171:=Tryz.isAgg235
 z171:=Tryz.sizeOf235
 v171:=Tryz.zeroValue235
 t173:=Tryz.underlying238
 a173:=Tryz.isAgg238
 z173:=Tryz.sizeOf238
 v173:=Tryz.zeroValue238
 t212:=Tryz.underlying267
 a212:=Tryz.isAgg267
 z212:=Tryz.sizeOf267
 v212:=Tryz.zeroValue267
 t213:=Tryz.underlying268
 a213:=Tryz.isAgg268
 z213:=Tryz.sizeOf268
 t232:=Tryz.underlying313
 a232:=Tryz.isAgg313
 z232:=Tryz.sizeOf313
 v232:=Tryz.zeroValue313
 t233:=Tryz.underlying314
 a233:=Tryz.isAgg314
 z233:=Tryz.sizeOf314
 v233:=Tryz.zeroValue314
 g17:=by kernel_rfl
 g18:=by kernel_rfl
 g19:=by kernel_rfl
 i0:=by kernel_rfl
 i2:=by kernel_rfl
 i3:=by kernel_rfl
 i4:=by kernel_rfl
 i5:=by kernel_rfl
 i9:=by kernel_rfl
 i20:=by kernel_rfl
 i37:=by kernel_rfl
 i46:=by kernel_rfl
 i51:=by kernel_rfl
 i53:=by kernel_rfl
 i171:=by kernel_rfl
 i173:=by kernel_rfl
 i212:=by kernel_rfl
 i232:=by kernel_rfl
 i233:=by kernel_rfl
 m17:=by kernel_rfl
 m18:=by kernel_rfl
 m19:=by kernel_rfl
def RL.lA_ren:Go.Shelf.Ren:=⟨fun | 172=>157 | 244=>189 | 245=>190 | 247=>224 | 279=>225 | 280=>226 | 281=>227 | 282=>228 | 287=>251 | 316=>252 | 171=>47 | 205=>253 | 321=>274 | 322=>275 | 243=>93 | 246=>145 | 283=>176 | 284=>177 | 285=>178 | 286=>179 | 129=>134 | 317=>211 | 318=>212 | 319=>213 | 320=>214 | 337=>241 | 338=>242 | n=>n,fun | 9=>9 | 3=>3 | 75=>218 | 76=>219 | 4=>4 | 5=>5 | 167=>277 | 37=>237 | 0=>0 | 85=>278 | 2=>2 | 168=>280 | 53=>198 | 175=>300 | 46=>114 | 210=>303 | 127=>294 | 145=>320 | 143=>318 | 21=>21 | 171=>235 | 173=>238 | 212=>267 | 51=>196 | 20=>20 | 213=>268 | 232=>313 | 233=>314 | 80=>264 | n=>n,fun | 15=>2 | 16=>3 | 17=>0 | 18=>4 | 19=>5 | n=>n⟩
theorem RL.lA:Go.Proofs.LaysC.n172 Tryz.prog RL.lA_ren where
 mixed:=by kernel_rfl
 f129:=Tryz.func134.trans (congrArg some (by kernel_rfl))
 f171:=Tryz.func47.trans (congrArg some (by kernel_rfl))
 f172:=Tryz.func157.trans (congrArg some (by kernel_rfl))
 f205:=Tryz.func253.trans (congrArg some (by kernel_rfl))
 f243:=Tryz.func93.trans (congrArg some (by kernel_rfl))
 f244:=Tryz.func189.trans (congrArg some (by kernel_rfl))
 f245:=Tryz.func190.trans (congrArg some (by kernel_rfl))
 f246:=Tryz.func145.trans (congrArg some (by kernel_rfl))
 f247:=Tryz.func224.trans (congrArg some (by kernel_rfl))
 f279:=Tryz.func225.trans (congrArg some (by kernel_rfl))
 f280:=Tryz.func226.trans (congrArg some (by kernel_rfl))
 f281:=Tryz.func227.trans (congrArg some (by kernel_rfl))
 f282:=Tryz.func228.trans (congrArg some (by kernel_rfl))
 f283:=Tryz.func176.trans (congrArg some (by kernel_rfl))
 f284:=Tryz.func177.trans (congrArg some (by kernel_rfl))
 f285:=Tryz.func178.trans (congrArg some (by kernel_rfl))
 f286:=Tryz.func179.trans (congrArg some (by kernel_rfl))
 f287:=Tryz.func251.trans (congrArg some (by kernel_rfl))
 f316:=Tryz.func252.trans (congrArg some (by kernel_rfl))
 f317:=Tryz.func211.trans (congrArg some (by kernel_rfl))
 f318:=Tryz.func212.trans (congrArg some (by kernel_rfl))
 f319:=Tryz.func213.trans (congrArg some (by kernel_rfl))
 f320:=Tryz.func214.trans (congrArg some (by kernel_rfl))
 f321:=Tryz.func274.trans (congrArg some (by kernel_rfl))
 f322:=Tryz.func275.trans (congrArg some (by kernel_rfl))
 f337:=Tryz.func241.trans (congrArg some (by kernel_rfl))
 f338:=Tryz.func242.trans (congrArg some (by kernel_rfl))
 t0:=Tryz.underlying0
 a0:=Tryz.isAgg0
 z0:=Tryz.sizeOf0
 v0:=Tryz.zeroValue0
 t2:=Tryz.underlying2
 a2:=Tryz.isAgg2
 z2:=Tryz.sizeOf2
 v2:=Tryz.zeroValue2
 t3:=Tryz.underlying3
 a3:=Tryz.isAgg3
 z3:=Tryz.sizeOf3
 v3:=Tryz.zeroValue3
 t4:=Tryz.underlying4
 a4:=Tryz.isAgg4
 z4:=Tryz.sizeOf4
 v4:=Tryz.zeroValue4
 t5:=Tryz.underlying5
 a5:=Tryz.isAgg5
 z5:=Tryz.sizeOf5
 v5:=Tryz.zeroValue5
 t9:=Tryz.underlying9
 a9:=Tryz.isAgg9
 z9:=Tryz.sizeOf9
 v9:=Tryz.zeroValue9
 t20:=Tryz.underlying20
 a20:=Tryz.isAgg20
 z20:=Tryz.sizeOf20
 v20:=Tryz.zeroValue20
 t21:=Tryz.underlying21
 a21:=Tryz.isAgg21
 z21:=Tryz.sizeOf21
 v21:=Tryz.zeroValue21
 t37:=Tryz.underlying237
 a37:=Tryz.isAgg237
 z37:=Tryz.sizeOf237
 v37:=Tryz.zeroValue237
 t46:=Tryz.underlying114
 a46:=Tryz.isAgg114
 z46:=Tryz.sizeOf114
 v46:=Tryz.zeroValue114
 t51:=Tryz.underlying196
 a51:=Tryz.isAgg196
 z51:=Tryz.sizeOf196
 v51:=Tryz.zeroValue196
 t53:=Tryz.underlying198
 a53:=Tryz.isAgg198
 z53:=Tryz.sizeOf198
 v53:=Tryz.zeroValue198
 t75:=Tryz.underlying218
 a75:=Tryz.isAgg218
 z75:=Tryz.sizeOf218
 v75:=Tryz.zeroValue218
 t76:=Tryz.underlying219
 a76:=Tryz.isAgg219
 z76:=Tryz.sizeOf219
 v76:=Tryz.zeroValue219
 t85:=Tryz.underlying278
 a85:=Tryz.isAgg278
 z85:=Tryz.sizeOf278
 v85:=Tryz.zeroValue278
 t127:=Tryz.underlying294
 a127:=Tryz.isAgg294
 z127:=Tryz.sizeOf294
 v127:=Tryz.zeroValue294
 t143:=Tryz.underlying318
 a143:=Tryz.isAgg318
 z143:=Tryz.sizeOf318
 v143:=Tryz.zeroValue318
 t145:=Tryz.underlying320
 a145:=Tryz.isAgg320
 z145:=Tryz.sizeOf320
 v145:=Tryz.zeroValue320
 t167:=Tryz.underlying277
 a167:=Tryz.isAgg277
 z167:=Tryz.sizeOf277
 v167:=Tryz.zeroValue277
 t168:=Tryz.underlying280
 a168:=Tryz.isAgg280
 z168:=Tryz.sizeOf280
 v168:=Tryz.zeroValue280
 t171:=Tryz.underlying235
 a171:=Tryz.isAgg235
 z171:=Tryz.sizeOf235
 v171:=Tryz.zeroValue235
 t173:=Tryz.underlying238
 a173:=Tryz.isAgg238
 z173:=Tryz.sizeOf238
 v173:=Tryz.zeroValue238
 t175:=Tryz.underlying300
 a175:=Tryz.isAgg300
 z175:=Tryz.sizeOf300
 v175:=Tryz.zeroValue300
 t210:=Tryz.underlying303
 a210:=Tryz.isAgg303
 z210:=Tryz.sizeOf303
 v210:=Tryz.zeroValue303
 t212:=Tryz.underlying267
 a212:=Tryz.isAgg267
 z212:=Tryz.sizeOf267
 v212:=Tryz.zeroValue267
 t213:=Tryz.underlying268
 a213:=Tryz.isAgg268
 z213:=Tryz.sizeOf268
 t232:=Tryz.underlying313
 a232:=Tryz.isAgg313
 z232:=Tryz.sizeOf313
 v232:=Tryz.zeroValue313
 t233:=Tryz.underlying314
 a233:=Tryz.isAgg314
 z233:=Tryz.sizeOf314
 v233:=Tryz.zeroValue314
 g15:=by kernel_rfl
 g16:=by kernel_rfl
 g17:=by kernel_rfl
 g18:=by kernel_rfl
 g19:=by kernel_rfl
 t80:=Tryz.underlying264
 a80:=Tryz.isAgg264
 z80:=Tryz.sizeOf264
 v80:=Tryz.zeroValue264
 i0:=by kernel_rfl
 i2:=by kernel_rfl
 i3:=by kernel_rfl
 i4:=by kernel_rfl
 i5:=by kernel_rfl
 i9:=by kernel_rfl
 i20:=by kernel_rfl
 i21:=by kernel_rfl
 i37:=by kernel_rfl
 i46:=by kernel_rfl
 i51:=by kernel_rfl
 i53:=by kernel_rfl
 i75:=by kernel_rfl
 i76:=by kernel_rfl
 i80:=by kernel_rfl
 i85:=by kernel_rfl
 i127:=by kernel_rfl
 i143:=by kernel_rfl
 i145:=by kernel_rfl
 i167:=by kernel_rfl
 i168:=by kernel_rfl
 i171:=by kernel_rfl
 i173:=by kernel_rfl
 i175:=by kernel_rfl
 i210:=by kernel_rfl
 i212:=by kernel_rfl
 i232:=by kernel_rfl
 i233:=by kernel_rfl
 m15:=by kernel_rfl
 m16:=by kernel_rfl
 m17:=by kernel_rfl
 m18:=by kernel_rfl
 m19:=by kernel_rfl
 c0:=by kernel_rfl
 c2:=by kernel_rfl
 c3:=by kernel_rfl
 c4:=by kernel_rfl
 c5:=by kernel_rfl
 c9:=by kernel_rfl
 c20:=by kernel_rfl
 c21:=by kernel_rfl
 c37:=by kernel_rfl
 c46:=by kernel_rfl
 c51:=by kernel_rfl
 c53:=by kernel_rfl
 c75:=by kernel_rfl
 c76:=by kernel_rfl
 c80:=by kernel_rfl
 c85:=by kernel_rfl
 c127:=by kernel_rfl
 c143:=by kernel_rfl
 c145:=by kernel_rfl
 c167:=by kernel_rfl
 c168:=by kernel_rfl
 c171:=by kernel_rfl
 c173:=by kernel_rfl
 c175:=by kernel_rfl
 c210:=by kernel_rfl
 c212:=by kernel_rfl
 c213:=by kernel_rfl
 c232:=by kernel_rfl
 c233:=by kernel_rfl
def RL.lR_ren:Go.Shelf.Ren:=⟨fun | 105=>209 | 212=>238 | 99=>94 | 165=>239 | 166=>208 | 170=>240 | 169=>210 | 263=>266 | 264=>267 | 206=>146 | 240=>237 | 241=>268 | 276=>265 | 277=>276 | n=>n,fun | 9=>9 | 3=>3 | 4=>4 | 20=>20 | 0=>0 | 46=>114 | 109=>290 | 5=>5 | 72=>261 | 76=>219 | 51=>196 | 146=>309 | 53=>198 | 148=>311 | 70=>259 | 37=>237 | 75=>218 | 127=>294 | 164=>307 | 80=>264 | n=>n,fun | n=>n⟩
theorem RL.lR:Go.Proofs.Lays.n105 Tryz.prog RL.lR_ren where
 mixed:=by kernel_rfl
 f99:=Tryz.func94.trans (congrArg some (by kernel_rfl))
 f105:=Tryz.func209.trans (congrArg some (by kernel_rfl))
 f165:=Tryz.func239.trans (congrArg some (by kernel_rfl))
 f166:=Tryz.func208.trans (congrArg some (by kernel_rfl))
 f169:=Tryz.func210.trans (congrArg some (by kernel_rfl))
 f170:=Tryz.func240.trans (congrArg some (by kernel_rfl))
 f206:=Tryz.func146.trans (congrArg some (by kernel_rfl))
 f212:=Tryz.func238.trans (congrArg some (by kernel_rfl))
 f240:=Tryz.func237.trans (congrArg some (by kernel_rfl))
 f241:=Tryz.func268.trans (congrArg some (by kernel_rfl))
 f263:=Tryz.func266.trans (congrArg some (by kernel_rfl))
 f264:=Tryz.func267.trans (congrArg some (by kernel_rfl))
 f276:=Tryz.func265.trans (congrArg some (by kernel_rfl))
 f277:=Tryz.func276.trans (congrArg some (by kernel_rfl))
 t0:=Tryz.underlying0
 a0:=Tryz.isAgg0
 z0:=Tryz.sizeOf0
 v0:=Tryz.zeroValue0
 t3:=Tryz.underlying3
 a3:=Tryz.isAgg3
 z3:=Tryz.sizeOf3
 v3:=Tryz.zeroValue3
 t4:=Tryz.underlying4
 a4:=Tryz.isAgg4
 z4:=Tryz.sizeOf4
 v4:=Tryz.zeroValue4
 t5:=Tryz.underlying5
 a5:=Tryz.isAgg5
 z5:=Tryz.sizeOf5
 v5:=Tryz.zeroValue5
 t9:=Tryz.underlying9
 a9:=Tryz.isAgg9
 z9:=Tryz.sizeOf9
 v9:=Tryz.zeroValue9
 t20:=Tryz.underlying20
 a20:=Tryz.isAgg20
 z20:=Tryz.sizeOf20
 v20:=Tryz.zeroValue20
 t37:=Tryz.underlying237
 a37:=Tryz.isAgg237
 z37:=Tryz.sizeOf237
 v37:=Tryz.zeroValue237
 t46:=Tryz.underlying114
 a46:=Tryz.isAgg114
 z46:=Tryz.sizeOf114
 v46:=Tryz.zeroValue114
 t51:=Tryz.underlying196
 a51:=Tryz.isAgg196
 z51:=Tryz.sizeOf196
 v51:=Tryz.zeroValue196
 t53:=Tryz.underlying198
 a53:=Tryz.isAgg198
 z53:=Tryz.sizeOf198
 v53:=Tryz.zeroValue198
 t70:=Tryz.underlying259
 a70:=Tryz.isAgg259
 z70:=Tryz.sizeOf259
 v70:=Tryz.zeroValue259
 t72:=Tryz.underlying261
 a72:=Tryz.isAgg261
 z72:=Tryz.sizeOf261
 v72:=Tryz.zeroValue261
 t75:=Tryz.underlying218
 a75:=Tryz.isAgg218
 z75:=Tryz.sizeOf218
 v75:=Tryz.zeroValue218
 t76:=Tryz.underlying219
 a76:=Tryz.isAgg219
 z76:=Tryz.sizeOf219
 v76:=Tryz.zeroValue219
 t109:=Tryz.underlying290
 a109:=Tryz.isAgg290
 z109:=Tryz.sizeOf290
 v109:=Tryz.zeroValue290
 t127:=Tryz.underlying294
 a127:=Tryz.isAgg294
 z127:=Tryz.sizeOf294
 v127:=Tryz.zeroValue294
 t146:=Tryz.underlying309
 a146:=Tryz.isAgg309
 z146:=Tryz.sizeOf309
 v146:=Tryz.zeroValue309
 t148:=Tryz.underlying311
 a148:=Tryz.isAgg311
 z148:=Tryz.sizeOf311
 v148:=Tryz.zeroValue311
 t164:=Tryz.underlying307
 a164:=Tryz.isAgg307
 z164:=Tryz.sizeOf307
 v164:=Tryz.zeroValue307
def RL.lT_ren:Go.Shelf.Ren:=⟨fun | 160=>188 | 232=>218 | 231=>217 | 227=>219 | 234=>221 | 233=>220 | 236=>223 | 235=>222 | 228=>247 | 271=>250 | 151=>249 | 197=>248 | 120=>273 | 152=>272 | 260=>271 | 137=>277 | 119=>278 | 224=>245 | 225=>244 | 217=>243 | 266=>269 | n=>n,fun | 9=>9 | 4=>4 | 3=>3 | 5=>5 | 117=>273 | 116=>272 | 0=>0 | 124=>276 | 21=>21 | 105=>297 | 46=>114 | 119=>322 | 139=>325 | 138=>324 | n=>n,fun | 3=>6 | 4=>7 | n=>n⟩
theorem RL.lT:Go.Proofs.Lays.n160 Tryz.prog RL.lT_ren where
 mixed:=by kernel_rfl
 f119:=Tryz.func278.trans (congrArg some (by kernel_rfl))
 f120:=Tryz.func273.trans (congrArg some (by kernel_rfl))
 f137:=Tryz.func277.trans (congrArg some (by kernel_rfl))
 f151:=Tryz.func249.trans (congrArg some (by kernel_rfl))
 f152:=Tryz.func272.trans (congrArg some (by kernel_rfl))
 f160:=Tryz.func188.trans (congrArg some (by kernel_rfl))
 f197:=Tryz.func248.trans (congrArg some (by kernel_rfl))
 f217:=Tryz.func243.trans (congrArg some (by kernel_rfl))
 f224:=Tryz.func245.trans (congrArg some (by kernel_rfl))
 f225:=Tryz.func244.trans (congrArg some (by kernel_rfl))
 f227:=Tryz.func219.trans (congrArg some (by kernel_rfl))
 f228:=Tryz.func247.trans (congrArg some (by kernel_rfl))
 f231:=Tryz.func217.trans (congrArg some (by kernel_rfl))
 f232:=Tryz.func218.trans (congrArg some (by kernel_rfl))
 f233:=Tryz.func220.trans (congrArg some (by kernel_rfl))
 f234:=Tryz.func221.trans (congrArg some (by kernel_rfl))
 f235:=Tryz.func222.trans (congrArg some (by kernel_rfl))
 f236:=Tryz.func223.trans (congrArg some (by kernel_rfl))
 f260:=Tryz.func271.trans (congrArg some (by kernel_rfl))
 f266:=Tryz.func269.trans (congrArg some (by kernel_rfl))
 f271:=Tryz.func250.trans (congrArg some (by kernel_rfl))
 t0:=Tryz.underlying0
 a0:=Tryz.isAgg0
 z0:=Tryz.sizeOf0
 v0:=Tryz.zeroValue0
 t3:=Tryz.underlying3
 a3:=Tryz.isAgg3
 z3:=Tryz.sizeOf3
 v3:=Tryz.zeroValue3
 t4:=Tryz.underlying4
 a4:=Tryz.isAgg4
 z4:=Tryz.sizeOf4
 v4:=Tryz.zeroValue4
 t5:=Tryz.underlying5
 a5:=Tryz.isAgg5
 z5:=Tryz.sizeOf5
 v5:=Tryz.zeroValue5
 t9:=Tryz.underlying9
 a9:=Tryz.isAgg9
 z9:=Tryz.sizeOf9
 v9:=Tryz.zeroValue9
 t21:=Tryz.underlying21
 a21:=Tryz.isAgg21
 z21:=Tryz.sizeOf21
 v21:=Tryz.zeroValue21
 t46:=Tryz.underlying114
 a46:=Tryz.isAgg114
 z46:=Tryz.sizeOf114
 v46:=Tryz.zeroValue114
 t105:=Tryz.underlying297
 a105:=Tryz.isAgg297
 z105:=Tryz.sizeOf297
 v105:=Tryz.zeroValue297
 t116:=Tryz.underlying272
 a116:=Tryz.isAgg272
 z116:=Tryz.sizeOf272
 t117:=Tryz.underlying273
 a117:=Tryz.isAgg273
 z117:=Tryz.sizeOf273
 v117:=Tryz.zeroValue273
 t119:=Tryz.underlying322
 a119:=Tryz.isAgg322
 z119:=Tryz.sizeOf322
 t124:=Tryz.underlying276
 a124:=Tryz.isAgg276
 z124:=Tryz.sizeOf276
 v124:=Tryz.zeroValue276
 t138:=Tryz.underlying324
 a138:=Tryz.isAgg324
 z138:=Tryz.sizeOf324
 v138:=Tryz.zeroValue324
 t139:=Tryz.underlying325
 a139:=Tryz.isAgg325
 z139:=Tryz.sizeOf325
 v139:=Tryz.zeroValue325
 g3:=by kernel_rfl
 g4:=by kernel_rfl
def RL.lX_ren:Go.Shelf.Ren:=⟨fun | 219=>216 | 217=>243 | 225=>244 | 224=>245 | 267=>246 | 266=>269 | 314=>270 | n=>n,fun | 9=>9 | 3=>3 | 4=>4 | 5=>5 | 46=>114 | 146=>309 | 51=>196 | n=>n,fun | 1=>1 | n=>n⟩
theorem RL.lX:Go.Proofs.Lays.n219 Tryz.prog RL.lX_ren where
 mixed:=by kernel_rfl
 f217:=Tryz.func243.trans (congrArg some (by kernel_rfl))
 f219:=Tryz.func216.trans (congrArg some (by kernel_rfl))
 f224:=Tryz.func245.trans (congrArg some (by kernel_rfl))
 f225:=Tryz.func244.trans (congrArg some (by kernel_rfl))
 f266:=Tryz.func269.trans (congrArg some (by kernel_rfl))
 f267:=Tryz.func246.trans (congrArg some (by kernel_rfl))
 f314:=Tryz.func270.trans (congrArg some (by kernel_rfl))
 t3:=Tryz.underlying3
 a3:=Tryz.isAgg3
 z3:=Tryz.sizeOf3
 v3:=Tryz.zeroValue3
 t4:=Tryz.underlying4
 a4:=Tryz.isAgg4
 z4:=Tryz.sizeOf4
 v4:=Tryz.zeroValue4
 t5:=Tryz.underlying5
 a5:=Tryz.isAgg5
 z5:=Tryz.sizeOf5
 v5:=Tryz.zeroValue5
 t9:=Tryz.underlying9
 a9:=Tryz.isAgg9
 z9:=Tryz.sizeOf9
 v9:=Tryz.zeroValue9
 t46:=Tryz.underlying114
 a46:=Tryz.isAgg114
 z46:=Tryz.sizeOf114
 v46:=Tryz.zeroValue114
 t51:=Tryz.underlying196
 a51:=Tryz.isAgg196
 z51:=Tryz.sizeOf196
 v51:=Tryz.zeroValue196
 t146:=Tryz.underlying309
 a146:=Tryz.isAgg309
 z146:=Tryz.sizeOf309
 v146:=Tryz.zeroValue309
 g1:=by kernel_rfl
def RL.lC_ren:Go.Shelf.Ren:=⟨fun | 240=>237 | 276=>265 | n=>n,fun | 70=>259 | 0=>0 | 72=>261 | 4=>4 | 164=>307 | 37=>237 | 5=>5 | n=>n,fun | n=>n⟩
theorem RL.lC:Go.Proofs.Lays.n240 Tryz.prog RL.lC_ren where
 mixed:=by kernel_rfl
 f240:=Tryz.func237.trans (congrArg some (by kernel_rfl))
 f276:=Tryz.func265.trans (congrArg some (by kernel_rfl))
 t0:=Tryz.underlying0
 a0:=Tryz.isAgg0
 z0:=Tryz.sizeOf0
 v0:=Tryz.zeroValue0
 t4:=Tryz.underlying4
 a4:=Tryz.isAgg4
 z4:=Tryz.sizeOf4
 v4:=Tryz.zeroValue4
 t9:=Tryz.underlying9
 a9:=Tryz.isAgg9
 z9:=Tryz.sizeOf9
 v9:=Tryz.zeroValue9
 t20:=Tryz.underlying20
 a20:=Tryz.isAgg20
 z20:=Tryz.sizeOf20
 v20:=Tryz.zeroValue20
 t70:=Tryz.underlying259
 a70:=Tryz.isAgg259
 z70:=Tryz.sizeOf259
 v70:=Tryz.zeroValue259
 t72:=Tryz.underlying261
 a72:=Tryz.isAgg261
 z72:=Tryz.sizeOf261
 v72:=Tryz.zeroValue261
 t164:=Tryz.underlying307
 a164:=Tryz.isAgg307
 z164:=Tryz.sizeOf307
 v164:=Tryz.zeroValue307
def RL.lS_ren:Go.Shelf.Ren:=⟨fun | 169=>210 | n=>n,fun | 70=>259 | 9=>9 | 0=>0 | 72=>261 | 37=>237 | 127=>294 | 3=>3 | 5=>5 | n=>n,fun | n=>n⟩
theorem RL.lS:Go.Proofs.Lays.n169 Tryz.prog RL.lS_ren where
 mixed:=by kernel_rfl
 f169:=Tryz.func210.trans (congrArg some (by kernel_rfl))
 t0:=Tryz.underlying0
 a0:=Tryz.isAgg0
 z0:=Tryz.sizeOf0
 v0:=Tryz.zeroValue0
 t3:=Tryz.underlying3
 a3:=Tryz.isAgg3
 z3:=Tryz.sizeOf3
 v3:=Tryz.zeroValue3
 t9:=Tryz.underlying9
 a9:=Tryz.isAgg9
 z9:=Tryz.sizeOf9
 v9:=Tryz.zeroValue9
 t37:=Tryz.underlying237
 a37:=Tryz.isAgg237
 z37:=Tryz.sizeOf237
 v37:=Tryz.zeroValue237
 t70:=Tryz.underlying259
 a70:=Tryz.isAgg259
 z70:=Tryz.sizeOf259
 v70:=Tryz.zeroValue259
 t72:=Tryz.underlying261
 a72:=Tryz.isAgg261
 z72:=Tryz.sizeOf261
 v72:=Tryz.zeroValue261
 t127:=Tryz.underlying294
 a127:=Tryz.isAgg294
 z127:=Tryz.sizeOf294
 v127:=Tryz.zeroValue294
end Go.Proofs
end
section
open Go Go.Proofs Go.Eng Go.Shelf IB Go.Lib Go.RowKit
namespace RB
def hasP (s p:List UInt8):Prop:=p.length≤s.length∧s.take p.length=p
instance (s p:List UInt8):Decidable (hasP s p):=by unfold hasP;infer_instance
def yI (s p:List UInt8):List UInt8:=if hasP s p then s.drop p.length else s
theorem kX (s:List UInt8):hasP s [45]↔s.headD 0=45:=by
 cases s with
 | nil=>simp[hasP]
 | cons c r=>simp[hasP]
theorem sJ (s:List UInt8):yI s [45]=digs s:=by
 unfold yI digs
 by_cases h:s.headD 0=45
 ·rw[if_pos h,if_pos ((kX s).2 h)]
  cases s<;>rfl
 ·rw[if_neg h,if_neg (fun e=>h ((kX s).1 e))]
def c126:Con:=aH 146 true fun args K=>match args with | [.str s,.str p]=>K (.bl (hasP s p) inferInstance) | _=>False
theorem k126:aF Tryz.prog c126:=by
 refine kQ {} Tryz.func146 Tryz.ntmps146 kn fun _ _ h=>?_
 split at h
 case h_2=>exact h.elim
 refine kb h ?_
 (repeat'((conv=>whnf);first|refine Zg fun _=>?_|fail))
 (apply Br.mk<;>intro)
 ·rename_i h
  (repeat' first|refine ZG ?_|refine Zg fun _=>?_)
  (conv=>whnf)
  unfold hasP
  exact ⟨fun e=>⟨by omega,e⟩,fun e=>e.2⟩
 ·rename_i h
  (conv=>whnf)
  intro e
  exact h (by have:=e.1;omega)
theorem b91 (s:List UInt8):body Tryz.prog [c126] {} true Tryz.f94 [S s,S [45]] (.bl (s.headD 0=45) inferInstance):=by
 (conv=>whnf)
 exact kX s
def c91:Con:=aH 94 true fun args K=>match args with | [.str s,.str p]=>Need (p= [45]) (K (.bl (s.headD 0=45) inferInstance)) | _=>False
theorem k91:aF Tryz.prog c91:=by
 refine kO Tryz.func94 fun args K h=>?_
 simp only[c91] at h;split at h
 ·rename_i s p
  obtain ⟨rfl,h⟩:=h
  exact ⟨_,h,triB Tryz.func94 Tryz.ntmps94 (by simp[k126]) (b91 s)⟩
 ·exact h.elim
def c125:Con:=aH 154 true fun args K=>match args with | [.str s,.str p]=>K (.str (yI s p)) | _=>False
theorem k125:aF Tryz.prog c125:=by
 refine kQ {} Tryz.func154 Tryz.ntmps154 (kc k126 kn) fun _ _ h=>?_
 split at h
 case h_2=>exact h.elim
 refine kb h ?_
 unfold yI
 (apply Br.mk<;>intro)
 ·rename_i h
  rw[if_pos h]
  have:=h.1
  (repeat' first|refine ZG ?_|refine Zg fun _=>?_)
  (conv=>whnf)
 ·rename_i h
  rw[if_neg h]
  (conv=>whnf)
theorem b88 (s:List UInt8):body Tryz.prog [c125] {} true Tryz.f102 [S s,S [45]] (S (digs s)):=by
 rw[← sJ]
 (conv=>whnf)
def c88:Con:=aH 102 true fun args K=>match args with | [.str s,.str p]=>Need (p= [45]) (K (S (digs s))) | _=>False
theorem k88:aF Tryz.prog c88:=by
 refine kO Tryz.func102 fun args K h=>?_
 simp only[c88] at h;split at h
 ·rename_i s p
  obtain ⟨rfl,h⟩:=h
  exact ⟨_,h,triB Tryz.func102 Tryz.ntmps102 (by simp[k125]) (b88 s)⟩
 ·exact h.elim
def c155:Con:=aH 180 true fun args K=>match args with | [.str s,.str p]=>K (.tup [S (yI s p),.bl (hasP s p) inferInstance]) | _=>False
theorem k155:aF Tryz.prog c155:=by
 refine kQ {} Tryz.func180 Tryz.ntmps180 (kc k126 kn) fun _ _ h=>?_
 split at h
 case h_2=>exact h.elim
 refine kb h ?_
 unfold yI
 (apply Br.mk<;>intro)
 ·rename_i h
  rw[if_neg h]
  (conv=>whnf)
  (repeat' first|exact trivial|rfl|apply And.intro)
  exact h
 ·rename_i h
  have h:=Classical.not_not.1 h
  rw[if_pos h]
  have:=h.1
  (repeat' first|refine ZG ?_|refine Zg fun _=>?_)
  (conv=>whnf)
  (repeat' first|exact trivial|rfl|apply And.intro)
  all_goals first | exact h | exact h.1 | exact h.2
theorem b123 (s:List UInt8):body Tryz.prog [c155] {} true Tryz.f147 [S s,S [45]] (.tup [S (digs s),.bl (s.headD 0=45) inferInstance]):=by
 rw[← sJ]
 (conv=>whnf)
 (repeat' first|exact trivial|rfl|apply And.intro)
 exact kX s
def c123:Con:=aH 147 true fun args K=>match args with | [.str s,.str p]=>Need (p= [45]) (K (.tup [S (digs s),.bl (s.headD 0=45) inferInstance])) | _=>False
theorem k123:aF Tryz.prog c123:=by
 refine kO Tryz.func147 fun args K h=>?_
 simp only[c123] at h;split at h
 ·rename_i s p
  obtain ⟨rfl,h⟩:=h
  exact ⟨_,h,triB Tryz.func147 Tryz.ntmps147 (by simp[k155]) (b123 s)⟩
 ·exact h.elim
theorem qE {E:Env} {s:List UInt8} {vs:List Value} (h:RelL E [.str s] vs):vs= [.string ⟨s.toArray⟩]∧s.length≤maxL:=by
 obtain ⟨v,rfl,h1⟩:=h.one
 cases h1 with
 | str _ hl=>exact ⟨rfl,hl⟩
theorem Eu {E:Env} {k:IntKind} {n:Int} {vs:List Value} (h:RelL E [.val (.int k n)] vs):vs= [.int k n]∧inK k n:=by
 obtain ⟨v,rfl,h1⟩:=h.one
 obtain ⟨rfl,h2⟩:=h1.int_inv
 exact ⟨rfl,h2⟩
theorem Qd {ok:Nat→Prop} {w:World} (h:GW Tryz.prog ok w):Lib.TabIs Tryz.prog w "internal/strconv.uint64pow10" .u64 Lib.pow10Tab:=by
 obtain ⟨cs,h1,h2⟩:=h.var (n:= "internal/strconv.uint64pow10") (by simp[gnames]) (g:=0) (by kernel_rfl)
 unfold Lib.TabIs
 rw[h1,h2.pow rfl]
 rfl
theorem Hh (n:Nat) (h:n≤9223372036854775808):(decDigits n).length≤20:=IB.gM 19 n (by omega)
theorem Qe (n:Int) (h:inK .i64 n):(itoa n).length≤maxL:=by
 have h: -9223372036854775808≤n∧n≤9223372036854775807:=h
 have h1:=Hh n.natAbs (by omega)
 rw[← cB] at h1
 have h2:(itoa n).length≤(digs (itoa n)).length+1:=by
  unfold digs
  split
  ·rw[List.length_tail];omega
  ·omega
 show _≤140737488355328
 omega
theorem t61 (n:Int):Tri Tryz.prog true 47 [I n] (S (itoa n)):=by
 intro ok w vs hg hok hr
 obtain ⟨rfl,hn⟩:=Eu hr
 have hn': -9223372036854775808≤n∧n≤9223372036854775807:=hn
 refine (Any.strconv_Itoa RL.lI n hn'.1 hn'.2 w (Qd hg)).mono ?_
 rintro e w' ⟨rfl,k,os,rfl⟩
 exact ⟨_,rfl,Lib.below_grow _ _ (Nat.le_refl _) _ _,.str _ (Qe n hn)⟩
def c61:Con:=aH 47 true fun args K=>match args with | [.val (.int .i64 n)]=>K (S (itoa n)) | _=>False
theorem k61:aF Tryz.prog c61:=by
 refine kO Tryz.func47 fun args K h=>?_
 simp only[c61] at h;split at h
 ·exact ⟨_,h,t61 _⟩
 ·exact h.elim
abbrev fitI (n:Int):Prop:= -9223372036854775808≤n∧n≤9223372036854775807
def mO (acc:Nat) (l:List UInt8):Nat:=l.foldl (fun n c=>10*n+(c.toNat-48)) acc
theorem yJ:∀(l:List UInt8) (acc:Nat),acc≤mO acc l
 | [],acc=>Nat.le_refl _
 | c::r,acc=>by
  have:=yJ r (10*acc+(c.toNat-48))
  simp only[mO,List.foldl_cons] at this ⊢
  omega
theorem qF:∀(l:List UInt8) (acc:Nat),(∀c∈l,aY c)→acc<18446744073709551616→parseUint10 acc l=if mO acc l<18446744073709551616 then .ok (mO acc l) else .range
 | [],acc,_,h=>by simp[parseUint10,mO,h]
 | c::r,acc,hd,h=>by
  have hc:=hd c (by simp)
  have ih:=qF r (acc*10+(c.toNat-48)) fun x hx=>hd x (by simp[hx])
  have hg:=yJ r (10*acc+(c.toNat-48))
  have e:mO acc (c::r)=mO (acc*10+(c.toNat-48)) r:=by simp only[mO,List.foldl_cons];rw[Nat.mul_comm]
  rw[Nat.mul_comm] at hg
  simp only[parseUint10]
  have hc:48≤c.toNat∧c.toNat≤57:=hc
  rw[if_pos hc,e]
  by_cases h1:1844674407370955162≤acc
  ·rw[if_pos h1,if_neg (by omega)]
  ·rw[if_neg h1]
   by_cases h2:18446744073709551616≤acc*10+(c.toNat-48)
   ·rw[if_pos h2,if_neg (by omega)]
   ·rw[if_neg h2,ih (by omega)]
theorem yK {l:List UInt8} (h:∀c∈l,aY c) (hne:l≠ []):parseMag l=if aK l<18446744073709551616 then .ok (aK l) else .range:=by
 unfold parseMag
 rw[if_neg hne,qF l 0 h (by omega)]
 rfl
theorem Vk {c:UInt8} (h:aY c):c.toNat≠43∧c.toNat≠45:=by unfold aY at h;omega
theorem yL {s:List UInt8} (h:form s):atoiAll s=(if fitI (valI s) then .ok (valI s) else .range)∧(¬fitI (valI s)→(9223372036854775807<valI s∧atoiSat s=9223372036854775807)∨(valI s < -9223372036854775808∧atoiSat s= -9223372036854775808)):=by
 obtain ⟨h1,h2,h3⟩:=h
 cases s with
 | nil=>simp[digs] at h1
 | cons c r=>
  by_cases hc:c=45
  ·subst hc
   have e1:digs (45::r)=r:=rfl
   have e2:valI (45::r)= -(aK r:Int):=rfl
   rw[e1] at h1 h3
   rw[e2];unfold fitI;rw[atoiAll_minus,yK h3 h1,atoiSat_minus]
   refine ⟨?_,fun hn=>.inr ⟨by omega,rfl⟩⟩
   by_cases h4:aK r<18446744073709551616
   ·rw[if_pos h4]
    simp only[signed]
    by_cases h5:9223372036854775808<aK r
    ·rw[if_pos h5,if_neg (by omega)]
    ·rw[if_neg h5,if_pos (by omega)]
   ·rw[if_neg h4,if_neg (by omega)];rfl
  ·have e1:digs (c::r)=c::r:=by simp[digs,hc]
   have e2:valI (c::r)=aK (c::r):=by simp[valI,hc]
   rw[e1] at h1 h3
   obtain ⟨g1,g2⟩:=Vk (h3 c (by simp))
   rw[e2];unfold fitI;rw[atoiAll_plain c r g1 g2,yK h3 h1,atoiSat_other c r g2]
   refine ⟨?_,fun hn=>.inl ⟨by omega,rfl⟩⟩
   by_cases h4:aK (c::r)<18446744073709551616
   ·rw[if_pos h4]
    simp only[signless]
    by_cases h5:9223372036854775808≤aK (c::r)
    ·rw[if_pos h5,if_neg (by omega)]
    ·rw[if_neg h5,if_pos (by omega)]
   ·rw[if_neg h4,if_neg (by omega)];rfl
theorem t72ok (s:List UInt8) (hf:form s) (hv:fitI (valI s)):Tri Tryz.prog true 157 [S s] (.tup [I (valI s),.val .nilIface]):=by
 intro ok w vs hg hok hr
 obtain ⟨rfl,hl⟩:=qE hr
 have hl':s.length≤140737488355328:=hl
 have ha:=(yL hf).1
 rw[if_pos hv] at ha
 refine (Any.strconv_Atoi_ok RL.lA ⟨s.toArray⟩ (by show s.toArray.size≤ _;rw[List.size_toArray];omega) (valI s) (by simpa using ha) w).mono ?_
 rintro e w' ⟨rfl,hw⟩
 refine ⟨_,rfl,?_,.tup _ _ (.cons _ _ _ _ (.val _ hv) (.cons _ _ _ _ (.val _ trivial) .nil))⟩
 rcases hw with rfl | ⟨t,rfl⟩
 ·exact Below.refl _ _
 ·exact Go.Joins.below_bytesWorld _ _ _ _ (Nat.le_refl _)
theorem Qf {ok:Nat→Prop} {w:World} (h:GW Tryz.prog ok w):∃ev,w.cell? ⟨(RL.lA_ren).g 16,0,none⟩=some ev∧∃te pe,ev= .iface te pe:=by
 obtain ⟨hk,cs,e,f,h2,h3⟩:=h "strconv.ErrRange" (by simp[gnames]) ((RL.lA_ren).g 16) (by kernel_rfl)
 obtain ⟨tp,p,hc⟩:=h3.err (.inl rfl)
 refine ⟨_,?_,tp,p,rfl⟩
 rw[World.cell?,h2,hc]
 rfl
theorem Vl (s:List UInt8) (hf:form s) (hv:¬fitI (valI s)) (hl:s.length≤281474976710656):Tri Tryz.prog true 157 [S s] (.tup [I (atoiSat s),.ifc]):=by
 intro ok w vs hg hok hr
 obtain ⟨rfl,_⟩:=qE hr
 have ha:=(yL hf).1
 rw[if_neg hv] at ha
 obtain ⟨ev,h1,h2⟩:=Qf hg
 refine (Any.strconv_Atoi_range RL.lA ⟨s.toArray⟩ (by show s.toArray.size≤ _;rw[List.size_toArray];omega) (by simpa using ha) ev w h1 (.inr h2)).mono ?_
 rintro e w' ⟨N,rfl,_,_,hb⟩
 refine ⟨_,rfl,hb,.tup _ _ (.cons _ _ _ _ ?_ (.cons _ _ _ _ (.ifc _ (.inr ⟨_,_,rfl⟩)) .nil))⟩
 exact .val _ (atoiSat_bounds _)
def c72:Con:=aH 157 true fun args K=>match args with
 | [.str s]=>Need (form s∧s.length≤1000) (Br (fitI (valI s)) (K (.tup [I (valI s),.val .nilIface])) (K (.tup [I (atoiSat s),.ifc])))
 | _=>False
theorem k72:aF Tryz.prog c72:=by
 refine kO Tryz.func157 fun args K h=>?_
 simp only[c72] at h;split at h
 ·rename_i s
  obtain ⟨⟨hf,hl⟩,h⟩:=h
  by_cases hv:fitI (valI s)
  ·exact ⟨_,h.yes hv,t72ok s hf hv⟩
  ·exact ⟨_,h.no hv,Vl s hf hv (by omega)⟩
 ·exact h.elim
abbrev digitsS:List UInt8:=[48,49,50,51,52,53,54,55,56,57]
theorem wC (c:UInt8):digitsS.contains c=true↔aY c:=by
 have h:∀n:Fin 256,(digitsS.contains (UInt8.ofNat n.val)=true)↔(48≤n.val∧n.val≤57):=by decide
 have h1:=h ⟨c.toNat,c.toNat_lt⟩
 simp only[UInt8.ofNat_toNat] at h1
 exact h1
theorem yM (s cs:List UInt8):trimS s cs= []↔∀c∈s,cs.contains c=true:=by
 have hd:∀l:List UInt8,l.dropWhile (cs.contains ·)= []↔∀c∈l,cs.contains c=true:=by
  intro l
  induction l with
  | nil=>simp
  | cons x r ih=>
   simp only[List.dropWhile_cons,List.mem_cons,forall_eq_or_imp]
   by_cases h:cs.contains x=true
   ·rw[if_pos h,ih];simp only[h,true_and]
   ·rw[if_neg h];exact ⟨(fun e=>by cases e),(fun e=>(h e.1).elim)⟩
 have hmem:∀l:List UInt8,(∀c∈l.dropWhile (cs.contains ·),cs.contains c=true)↔∀c∈l,cs.contains c=true:=by
  intro l
  induction l with
  | nil=>simp
  | cons x r ih=>
   simp only[List.dropWhile_cons]
   by_cases h:cs.contains x=true
   ·rw[if_pos h,ih];simp only[List.mem_cons,forall_eq_or_imp,h,true_and]
   ·rw[if_neg h]
 unfold trimS trimLeftS trimRightS
 rw[hd]
 have:=hmem s.reverse
 simp only[List.mem_reverse] at this ⊢
 exact this
theorem Lu (s cs:List UInt8):(trimS s cs).length≤s.length:=by
 have h:∀l:List UInt8,(l.dropWhile (cs.contains ·)).length≤l.length:=fun l=>(List.dropWhile_sublist _).length_le
 unfold trimS trimLeftS trimRightS
 have h1:=h (s.reverse.dropWhile (cs.contains ·)).reverse
 have h2:=h s.reverse
 simp only[List.length_reverse] at h1 h2
 omega
theorem t156 (s:List UInt8):Tri Tryz.prog true 188 [S s,S digitsS] (S (trimS s digitsS)):=by
 intro ok w vs hg hok hr
 cases hr with
 | cons _ v1 _ vs1 h1 hr=>
 cases h1 with
 | str _ hl=>
 obtain ⟨rfl,_⟩:=qE hr
 have hl':s.length≤140737488355328:=hl
 refine (Any.strings_Trim_laid RL.lT (by kernel_rfl) ⟨s.toArray⟩ ⟨digitsS.toArray⟩ w (by show s.toArray.size≤ _;rw[List.size_toArray];omega) (by decide) (ascii_of_all (by decide))).mono ?_
 rintro e w' ⟨rfl,hb⟩
 exact ⟨_,rfl,hb,.str _ (by have:=Lu s digitsS;show _≤140737488355328;omega)⟩
def c156:Con:=aH 188 true fun args K=>match args with | [.str s,.str cs]=>Need (cs=digitsS) (K (S (trimS s digitsS))) | _=>False
theorem k156:aF Tryz.prog c156:=by
 refine kO Tryz.func188 fun args K h=>?_
 simp only[c156] at h;split at h
 ·rename_i s cs
  obtain ⟨rfl,h⟩:=h
  exact ⟨_,h,t156 _⟩
 ·exact h.elim
theorem ex9:Builder.Extra Tryz.prog RL.lR_ren where
 sizeBuilder:=by kernel_rfl
 liesBuilder:=by kernel_rfl
 t5:=Tryz.underlying5
 a5:=Tryz.isAgg5
 z5:=Tryz.sizeOf5
 v5:=Tryz.zeroValue5
 infoByte:=by kernel_rfl
 cellsByte:=by kernel_rfl
 sizeByte:=by kernel_rfl
 neB5:=by decide
theorem oO (c:UInt8):∀n,repeatL [c] n=List.replicate n c
 | 0=>rfl
 | n+1=>by rw[repeatL,oO c n];rfl
theorem t159 (c:UInt8) (n:Int) (hn:0≤n∧n≤1000):Tri Tryz.prog true 209 [S [c],I n] (S (List.replicate n.toNat c)):=by
 intro ok w vs hg hok hr
 cases hr with
 | cons _ v1 _ vs1 h1 hr=>
 cases h1 with
 | str _ hl=>
 obtain ⟨rfl,_⟩:=Eu hr
 obtain ⟨k,rfl⟩:∃k:Nat,n=k:=⟨n.toNat,by omega⟩
 refine (Any.strings_Repeat RL.lR ex9 ⟨[c].toArray⟩ k w (by omega) (by show 1*k≤ _;omega)).mono ?_
 rintro e w' ⟨rfl,hb⟩
 rw[Int.toNat_natCast,← oO]
 exact ⟨_,rfl,hb,.str _ (by rw[oO,List.length_replicate];show _≤140737488355328;omega)⟩
def c159:Con:=aH 209 true fun args K=>match args with | [.str [c],.val (.int .i64 n)]=>Need (0≤n∧n≤1000) (K (S (List.replicate n.toNat c))) | _=>False
theorem k159:aF Tryz.prog c159:=by
 refine kO Tryz.func209 fun args K h=>?_
 simp only[c159] at h;split at h
 ·exact ⟨_,h.go,t159 _ _ h.ok⟩
 ·exact h.elim
theorem Bk {s:List UInt8} (h:digs s= []∨((digs s).headD 0=48∧s≠ [48])∨trimS (digs s) digitsS≠ []):chkI s=11:=by
 unfold chkI
 rw[if_neg]
 rintro ⟨h1,h2,h3⟩
 rcases h with h | h | h
 ·exact h1 h
 ·rcases h2 with h2 | h2
  ·exact h2 h.1
  ·exact h.2 h2
 ·exact h ((yM _ _).2 fun c hc=>(wC c).2 (h3 c hc))
theorem Sk {s:List UInt8} (h1:digs s≠ []) (h2:(digs s).headD 0=48→s= [48]) (h3:trimS (digs s) digitsS= []):form s:=
 ⟨h1,(Classical.em ((digs s).headD 0=48)).elim (fun e=>.inr (h2 e)) .inl,fun c hc=>(wC c).1 ((yM _ _).1 h3 c hc)⟩
theorem mP {s:List UInt8} (h:form s):chkI s=if 300<(digs s).length then 4 else 0:=by unfold chkI;rw[if_pos h]
def c127:Con:=aH 156 true fun args K=>match args with | [.str s]=>K (I (chkI s)) | _=>False
theorem k127:aF Tryz.prog c127:=by
 refine kQ {} Tryz.func156 Tryz.ntmps156 (kc k88 (kc k156 kn)) fun _ _ h=>?_
 split at h
 case h_2=>exact h.elim
 rename_i s
 refine kb h ?_
 (repeat refine ZG ?_)
 (apply Br.mk<;>intro)
 ·rename_i h
  rw[Bk (.inl h)]
  (conv=>whnf)
  (repeat' first|rfl|apply And.intro)
 ·rename_i h
  have hpos:0<(digs s).length:=List.length_pos_iff.2 h
  have hb:aR (digs s) 0=48↔(digs s).headD 0=48:=by
   unfold aR
   cases hd:digs s with
   | nil=>rw[hd] at hpos;simp at hpos
   | cons c r=>
    show (c.toNat:Int)=48↔c=48
    constructor
    ·intro e
     have:c.toNat=(48:UInt8).toNat:=by show c.toNat=48;omega
     exact UInt8.toNat.inj this
    ·rintro rfl;rfl
  (repeat'((conv=>whnf);first|refine Zg fun _=>?_|refine Zn ?_|refine Z0 ?_|refine Zr (fun _=>?_) fun _=>?_|fail))
  all_goals (skip;(conv=>whnf);(repeat' first|rfl|apply And.intro))
  all_goals first
   | exact (Bk (.inr (.inl ⟨hb.1 (by assumption),by assumption⟩))).symm
   | exact (Bk (.inr (.inr (by assumption)))).symm
   | (have hf:form s:=Sk h (fun e=>by first | exact Classical.not_not.1 (by assumption) | exact absurd (hb.2 e) (by assumption)) (by exact Classical.not_not.1 (by assumption))
      rw[mP hf]
      first | (rw[if_pos (by omega)]) | (rw[if_neg (by omega)])
      done)
noncomputable def chk2 (a b:List UInt8):Int:=if chkI a≠0 then chkI a else chkI b
def c94:Con:=aH 104 true fun args K=>match args with | [.str a,.str b]=>K (I (chk2 a b)) | _=>False
theorem k94:aF Tryz.prog c94:=by
 refine kQ {} Tryz.func104 Tryz.ntmps104 (kc k127 kn) fun _ _ h=>?_
 split at h
 case h_2=>exact h.elim
 refine kb h ?_
 unfold chk2
 (apply Br.mk<;>intro)
 ·rename_i h
  rw[if_pos h]
  (conv=>whnf)
  (repeat' first|rfl|apply And.intro)
 ·rename_i h
  rw[if_neg h]
  (conv=>whnf)
  (repeat' first|rfl|apply And.intro)
theorem cP {s:List UInt8} (h:chkI s=0):form s∧(digs s).length≤300:=by
 unfold chkI at h
 split at h
 ·rename_i hf
  split at h
  ·cases h
  ·exact ⟨hf,by omega⟩
 ·cases h
theorem wD (s:List UInt8):(digs s).length≤s.length∧s.length≤(digs s).length+1:=by
 unfold digs
 split
 ·rw[List.length_tail];omega
 ·omega
theorem eW {s:List UInt8} (h:form s) (hl:s.length≤18): -1000000000000000000<valI s∧valI s<1000000000000000000:=by
 obtain ⟨h1,h2,h3⟩:=h
 have hb:=iF (digs s) h3
 have hp:(10:Nat)^ (digs s).length≤10^18:=Nat.pow_le_pow_right (by omega) (by have:=wD s;omega)
 have h18:(10:Nat)^18=1000000000000000000:=by decide
 have hv:valI s=aK (digs s)∨valI s= -(aK (digs s):Int):=by
  unfold valI digs
  split
  ·exact .inr rfl
  ·exact .inl rfl
 omega
theorem b95y (a b:List UInt8) (ha:form a) (hb:form b) (hs:a.length≤18∧b.length≤18):body Tryz.prog [c72] {} true Tryz.f105 [S a,S b,I 18] (.tup [I (valI a),I (valI b),.val (.bool true)]):=by
 have h1:=eW ha hs.1
 have h2:=eW hb hs.2
 have f1:fitI (valI a):=by unfold fitI;omega
 have f2:fitI (valI b):=by unfold fitI;omega
 (repeat'((conv=>whnf);first|refine Zg fun _=>?_|refine Zm ?_|fail))
 refine Need.mk ⟨ha,by omega⟩ ?_
 refine Br.mkY f1 ?_
 refine Need.mk ⟨hb,by omega⟩ ?_
 refine Br.mkY f2 ?_
 (repeat'((conv=>whnf);first|(apply Pin.mk;apply Exists.intro)|apply Pinned.mk rfl rfl|fail))
 (conv=>whnf)
 (repeat' first|exact trivial|rfl|apply And.intro)
theorem b95n (a b:List UInt8) (hs:¬(a.length≤18∧b.length≤18)):body Tryz.prog [c72] {} true Tryz.f105 [S a,S b,I 18] (.tup [I 0,I 0,.val (.bool false)]):=by
 (repeat'((conv=>whnf);first|refine Zg fun _=>?_|refine Zy ?_|refine Zr (fun _=>?_) fun _=>?_|fail))
 all_goals first | (exfalso;omega) | skip
 all_goals (skip;(conv=>whnf);(repeat' first|exact trivial|rfl|apply And.intro))
def c95:Con:=aH 105 true fun args K=>match args with
 | [.str a,.str b,.val (.int .i64 m)]=>Need (m=18∧form a∧form b) (Br (a.length≤18∧b.length≤18) (K (.tup [I (valI a),I (valI b),.val (.bool true)])) (K (.tup [I 0,I 0,.val (.bool false)])))
 | _=>False
theorem k95:aF Tryz.prog c95:=by
 refine kO Tryz.func105 fun args K h=>?_
 simp only[c95] at h;split at h
 ·rename_i a b m
  obtain ⟨⟨rfl,ha,hb⟩,h⟩:=h
  by_cases hs:a.length≤18∧b.length≤18
  ·exact ⟨_,h.yes hs,triB Tryz.func105 Tryz.ntmps105 (by simp[k72]) (b95y a b ha hb hs)⟩
  ·exact ⟨_,h.no hs,triB Tryz.func105 Tryz.ntmps105 (by simp[k72]) (b95n a b hs)⟩
 ·exact h.elim
abbrev itD (s:List UInt8) (i:Nat):List SV:=[I i,I (dgt s i)]
def c130:Con:=aH 158 false fun args K=>match args with | [.str s]=>K (.clo 191 [] [.lelem [S s] 0]) | _=>False
theorem k130:aF Tryz.prog c130:=by
 refine kQ {} Tryz.func158 Tryz.ntmps158 kn fun _ _ h=>?_
 split at h
 case h_2=>exact h.elim
 refine kb h ?_
 (conv=>whnf)
 (repeat' first|exact trivial|rfl|apply And.intro)
theorem Qg {s:List UInt8} (h:∀c∈s,aY c) {i:Nat} (hi:i<s.length):aR s (s.length-1-i)-48=dgt s i∧48≤aR s (s.length-1-i)∧aR s (s.length-1-i)≤57:=by
 have hj:s.length-1-i<s.length:=by omega
 have e:∀d:UInt8,s.getD (s.length-1-i) d=s[s.length-1-i]:=fun d=>by simp[List.getD_eq_getElem?_getD,hj]
 have hd:aY s[s.length-1-i]:=h _ (List.getElem_mem hj)
 unfold aR dgt
 rw[e,e]
 unfold aY at hd
 omega
theorem b161 (s:List UInt8) (h:∀c∈s,aY c):rP Tryz.prog [] { asks:=[(0,[])] } Tryz.f191 [.lelem [S s] 0] s.length (itD s):=by
 (repeat'((conv=>whnf);first|refine Zg fun _=>?_|fail))
 refine Ask.mk ⟨{ X:=Nat,pre:=fun i=>i≤s.length,mod:=fun i _=>[(6,I i)],heap:=fun i _=>[.yst (some i) s.length (itD s)],mu:=fun i=>s.length-i },rfl,?_⟩
 (repeat refine ZG ?_)
 refine ⟨⟨(0:Nat),Nat.zero_le _,by (repeat' first|exact trivial|rfl|apply And.intro)⟩,fun (i:Nat) (hi:i≤s.length)=>?_⟩
 (apply Br.mk<;>intro)
 ·have hlt:i<s.length:=by omega
  obtain ⟨e1,e2,e3⟩:=Qg h hlt
  (repeat' first|refine ZG ?_|refine Zg fun _=>?_)
  refine gH (s.length-1-i) (by omega) ?_
  (repeat'((conv=>whnf);first|refine Zg fun _=>?_|refine Zn ?_|fail))
  refine Need.mk (by (repeat' first|exact trivial|rfl|apply And.intro);exact e1) ?_
  refine Two.mk ?_ ?_
  ·(repeat refine ZG ?_)
   refine ⟨(i+1:Nat),by show s.length-(i+1)<s.length-i;omega,hlt,?_⟩
   (repeat' first|exact trivial|rfl|apply And.intro)
  ·(conv=>whnf)
   trivial
 ·(conv=>whnf)
  omega
def c161:Con:=aH 191 false fun args K=>match args with | [.lelem [.str s] 0]=>Need (∀c∈s,aY c) (K (.itr s.length (itD s))) | _=>False
theorem k161:aF Tryz.prog c161:=by
 refine kO Tryz.func191 fun args K h=>?_
 simp only[c161] at h;split at h
 ·rename_i s;exact ⟨_,h.go,fD (by simp) Tryz.func191 (by simp[Tryz.ntmps191]) (b161 s h.ok)⟩
 ·exact h.elim
abbrev wE (i:Nat):Int:=if i=0 then 1 else 10^ ((i-1)%9+1)
theorem Sl (i:Nat) (h:i%9≠0):wE i=10^ (i%9):=by
 unfold wE
 rw[if_neg (by omega)]
 congr 1
 omega
theorem Lv (i:Nat):wE (i+1)=10^ (i%9)*10:=by
 unfold wE
 rw[if_neg (by omega),Nat.add_sub_cancel,Int.pow_succ]
theorem Qh (i:Nat):1≤(10:Int)^ (i%9)∧(10:Int)^ (i%9)≤100000000:=by
 have:i%9<9:=Nat.mod_lt _ (by omega)
 generalize i%9=k at this
 match k,this with
 | 0,_ | 1,_ | 2,_ | 3,_ | 4,_ | 5,_ | 6,_ | 7,_ | 8,_=>decide
abbrev nL (s:List UInt8):Nat:=(s.length+8)/9
def c98:Con:=aH 106 true fun args K=>match args with | [.str s]=>Need (form s∧(digs s).length≤600) (K (.agg [.bl (s.headD 0=45) inferInstance,Ls (aD B9 (aK (digs s)))])) | _=>False
theorem k98:aF Tryz.prog c98:=by
 refine kQ { asks:=[(0,[])] } Tryz.func106 Tryz.ntmps106 (kc k123 (kc k130 (kc k161 (kc k131 kn)))) fun _ _ h=>?_
 split at h
 case h_2=>exact h.elim
 rename_i s
 refine kb h.go ?_
 replace h:=h.ok
 obtain ⟨hf,hl⟩:=h
 have hd:=hf.2.2
 have hn:(digs s).length≤9*nL (digs s):=by unfold nL;omega
 have e9:(10:Nat)^9=B9:=by decide
 (repeat' first|refine ZG ?_|refine Zg fun _=>?_)
 refine Ask.mk ⟨{ X:=Nat,pre:=fun i=>i≤(digs s).length,mod:=fun _ _=>[],heap:=fun i H=>[hget H 0,V (rdK (digs s) (nL (digs s)) i),hget H 2,.cells [I (wE i)] 3],mu:=fun i=>i },rfl,?_⟩
 (repeat refine ZG ?_)
 refine ⟨⟨(0:Nat),rfl,Nat.zero_le _,?_⟩,fun (i:Nat) hi (hlt:i<(digs s).length)=>?_,fun (i:Nat) hi (he:i=(digs s).length)=>?_⟩
 ·(repeat' first|exact trivial|rfl|apply And.intro)
  (conv=>whnf)
  show List.replicate _ _=List.replicate _ _
  congr 1;unfold nL;omega
 ·obtain ⟨g1,g2,g3,g4,g5⟩:=vN hd hn i (by omega)
  have gd:=Jg hd hlt
  have gi:=get9 g2 (i/9)
  have gu:=Qh i
  have hi9:i/9<nL (digs s):=by unfold nL;omega
  have g5:(rdK (digs s) (nL (digs s)) i).getD (i/9) 0<(10:Int)^ (i%9):=g5
  have hm:0≤dgt (digs s) i*10^ (i%9)∧dgt (digs s) i*10^ (i%9)≤9*100000000:=⟨Int.mul_nonneg gd.1 (by omega),Int.le_trans (Int.mul_le_mul_of_nonneg_right gd.2.1 (by omega)) (Int.mul_le_mul_of_nonneg_left gu.2 (by omega))⟩
  have hst:rdK (digs s) (nL (digs s)) (i+1)=(rdK (digs s) (nL (digs s)) i).set (i/9) ((rdK (digs s) (nL (digs s)) i).getD (i/9) 0+dgt (digs s) i*10^ (i%9)):=rfl
  have hun:=Lv i
  show hnfL (itD (digs s) i) _
  (repeat' first|refine ZG ?_|refine Zg fun _=>?_)
  (apply Br.mk<;>intro)
  ·rename_i hz
   have hz:i%9=0:=by omega
   rw[hz] at hm hst hun
   (repeat'((conv=>whnf);first|refine Zg fun _=>?_|refine Za ?_|refine Zn ?_|refine Zj ?_|(apply Pin.mk;apply Exists.intro)|apply Pinned.mk rfl rfl|fail))
   refine Need.mk (show -9223372036854775808≤(rdK (digs s) (nL (digs s)) i).getD (i/9) 0+dgt (digs s) i*1∧(rdK (digs s) (nL (digs s)) i).getD (i/9) 0+dgt (digs s) i*1≤9223372036854775807 by omega) ?_
   (repeat refine ZG ?_)
   refine ⟨(i+1:Nat),rfl,hlt,?_⟩
   (repeat' first|exact trivial|rfl|apply And.intro|omega)
   exact hst.symm
  ·rename_i hz
   have hz:i%9≠0:=by omega
   rw[← Sl i hz] at hm hst hun gu
   (repeat'((conv=>whnf);first|refine Zg fun _=>?_|refine Za ?_|refine Zn ?_|refine Zj ?_|(apply Pin.mk;apply Exists.intro)|apply Pinned.mk rfl rfl|fail))
   refine Need.mk (show -9223372036854775808≤(rdK (digs s) (nL (digs s)) i).getD (i/9) 0+dgt (digs s) i*wE i∧(rdK (digs s) (nL (digs s)) i).getD (i/9) 0+dgt (digs s) i*wE i≤9223372036854775807 by omega) ?_
   (repeat refine ZG ?_)
   refine ⟨(i+1:Nat),rfl,hlt,?_⟩
   (repeat' first|exact trivial|rfl|apply And.intro|omega)
   exact hst.symm
 ·subst he
  (conv=>whnf)
  (repeat' first|exact trivial|rfl|apply And.intro)
  have:=Rm hd hn
  rw[e9] at this
  exact this
theorem Ub:Builder.X72 Tryz.prog RL.lC_ren where
 sizeBuilder:=by kernel_rfl
 liesBuilder:=by kernel_rfl
theorem ex160:Builder.Extra Tryz.prog RL.lS_ren where
 sizeBuilder:=by kernel_rfl
 liesBuilder:=by kernel_rfl
 t5:=Tryz.underlying5
 a5:=Tryz.isAgg5
 z5:=Tryz.sizeOf5
 v5:=Tryz.zeroValue5
 infoByte:=by kernel_rfl
 cellsByte:=by kernel_rfl
 sizeByte:=by kernel_rfl
 neB5:=by decide
def yN (nm:Nat) (A:SV):Prop:=A= .val (.pointer none)∨A= .ptr nm 0
def c178:Con:=wW 237 fun args H K=>match args with
 | [.ptr nm 0]=>(match hget H nm with
  | .cells [A,x] e=>Need (yN nm A∧e=261) <| K (.tup []) (hset H nm (.cells [.ptr nm 0,x] 261))
  | _=>False)
 | _=>False
theorem k178:aF Tryz.prog c178:=by
 refine pB (enters_of Tryz.func237 (by kernel_rfl) rfl) ?_
 intro args H K h
 split at h
 case h_2=>exact h.elim
 rename_i nm
 split at h
 case h_2=>exact h.elim
 rename_i A x e ho
 obtain ⟨⟨hA,rfl⟩,hK⟩:=h
 refine ⟨fun s H'=>s= .tup []∧H'=hset H nm (.cells [.ptr nm 0,x] 261),fun s H' e=>by rw[e.1,e.2];exact hK,?_⟩
 intro G loc ver w vs hC hI hr
 cases hr with
 | cons _ v1 _ vs1 h1 hr=>
 cases hr
 obtain ⟨b,hbk,rfl⟩:=jH hI h1 (by simp only[live,ho])
 have hn:=aB ho (by simp)
 obtain ⟨h0,b',vals,g1,g2,g3⟩:=hI.objs nm _ hn
 rw[hbk] at g1;cases g1
 replace g2:w.heap[b]? =some (.cells ⟨vals⟩ 261 (0,0)):=g2
 cases g3 with
 | cons _ u _ us r1 r2=>
 cases r2 with
 | cons _ u2 _ us2 r2 r3=>
 cases r3
 have hfin:∀w':World,w'.heap.size=w.heap.size→w'.os=w.os→w'.tape=w.tape→w'.output=w.output→(∀k,k≠b→w'.heap[k]? =w.heap[k]?)→w'.heap[b]? =some (.cells #[.pointer (some ⟨b,0,none⟩),u2] 261 (0,0))→Res G (envOf G H loc ver w) (fun s H'=>s= .tup []∧H'=hset H nm (.cells [.ptr nm 0,x] 261)) (.tuple #[]) w':=by
  intro w' q1 q2 q3 q4 q5 q6
  have hin:=hI.inPlace (w':=w') (o':=.cells [.ptr nm 0,x] 261) hn (b:=b) (by simp[Owns,hbk]) (fun _ h=>h) q1 q2 q3 q4 q5
   (fun hx'=>⟨h0,b,[.pointer (some ⟨b,0,none⟩),u2],hbk,q6,.cons _ _ _ _ (h1.ext hx') (.cons _ _ _ _ (r2.ext hx') .nil)⟩)
  exact ⟨_,_,_,_,⟨rfl,rfl⟩,hin.1,.tup [] [] .nil,hin.2⟩
 rcases hA with rfl | rfl
 ·cases r1
  refine (Any.Builder_copyCheck_fresh RL.lC Ub b w (by rw[Lib.cell_of_heap g2];rfl) (by unfold World.shape?;rw[g2];rfl) (Lib.frozen_of_heap g2 0)).mono ?_
  rintro e w' ⟨rfl,rfl⟩
  exact ⟨_,rfl,hfin _ (by simp[World.setCell]) rfl rfl rfl (fun k hk=>Below.heap_setCell w _ _ k hk) (by unfold World.setCell;rw[Array.getElem?_modify];simp[g2])⟩
 ·obtain ⟨b2,hb2,rfl⟩:=jH hI r1 (by simp only[live,ho])
  rw[hbk] at hb2;cases hb2
  refine (Any.Builder_copyCheck_used RL.lC Ub b w (by rw[Lib.cell_of_heap g2];rfl)).mono ?_
  rintro e w' ⟨rfl,rfl⟩
  exact ⟨_,rfl,hfin _ rfl rfl rfl rfl (fun _ _=>rfl) g2⟩
abbrev H3 (p:Prop) (hp:Decidable p) (a:List Int) (A:SV) (k:Nat) (bs:List Int):List HO:=[.cells [.bl p hp,Ls a] 171,.cells [A,.ref 2 k] 261,.vec k (.int .u8) bs 5]
theorem b157 (p:Prop) (hp:Decidable p) (a:List Int) (A:SV) (hA:yN 1 A) (bs:List Int) (hl:bs.length≤1000000):
  Ij Tryz.prog [c178] {} Tryz.f207 [.ptr 1 0,.val (.int .u8 45)] (H3 p hp a A 1 bs) (fun s H'=>s= .val .nilIface∧H'=H3 p hp a (.ptr 1 0) 2 (List.append (α:=Int) bs [45])):=by
 (conv=>whnf)
 refine Need.mk rfl ?_
 (repeat refine ZG ?_)
 (conv=>whnf)
 refine ⟨_,_,⟨rfl,rfl⟩,rfl,rfl,rfl,rfl,?_⟩
 (repeat' first|exact trivial|rfl|apply And.intro)
theorem b158 (p:Prop) (hp:Decidable p) (a:List Int) (A:SV) (hA:yN 1 A) (k:Nat) (hk:k=1∨k=2) (bs:List Int) (s:List UInt8) (hl:bs.length+s.length≤1000000):
  Ij Tryz.prog [c178] {} Tryz.f208 [.ptr 1 0,S s] (H3 p hp a A k bs++ [.gone]) (fun r H'=>r= .tup [I s.length,.val .nilIface]∧H'=H3 p hp a (.ptr 1 0) (k+1) (List.append (α:=Int) bs (aU s))++ [.gone]):=by
 rcases hk with rfl | rfl
 ·(conv=>whnf)
  refine Need.mk rfl ?_
  (repeat' first|refine ZG ?_|refine Zg fun _=>?_)
  (conv=>whnf)
  refine ⟨_,_,⟨rfl,rfl⟩,rfl,?_,rfl,rfl,?_⟩
  all_goals (repeat' first|exact trivial|rfl|apply And.intro)
 ·(conv=>whnf)
  refine Need.mk rfl ?_
  (repeat' first|refine ZG ?_|refine Zg fun _=>?_)
  (conv=>whnf)
  refine ⟨_,_,⟨rfl,rfl⟩,rfl,?_,rfl,rfl,?_⟩
  all_goals (repeat' first|exact trivial|rfl|apply And.intro)
def c157:Con:=wW 207 fun args H K=>match args,H with
 | [.ptr 1 0,.val (.int .u8 45)],[.cells [.bl p hp,.seq (.int .i64) a] e1,.cells [A,.ref 2 1] e2,.vec 1 (.int .u8) bs e3]=>
  Need (yN 1 A∧e1=171∧e2=261∧e3=5∧List.length (α:=Int) bs≤1000000) (K (.val .nilIface) (H3 p hp a (.ptr 1 0) 2 (List.append (α:=Int) bs [45])))
 | _,_=>False
theorem k157:aF Tryz.prog c157:=by
 refine pB (enters_of Tryz.func207 (by kernel_rfl) rfl) ?_
 intro args H K h
 split at h
 ·obtain ⟨⟨hA,rfl,rfl,rfl,hl⟩,hK⟩:=h
  refine ⟨_,?_,pO (by simp[k178]) Tryz.func207 (by simp[Tryz.ntmps207]) (b157 _ _ _ _ hA _ hl)⟩
  rintro s H' ⟨rfl,rfl⟩
  exact hK
 ·exact h.elim
def c158:Con:=wW 208 fun args H K=>match args,H with
 | [.ptr 1 0,.str s],[.cells [.bl p hp,.seq (.int .i64) a] e1,.cells [A,.ref 2 k] e2,.vec k' (.int .u8) bs e3,.gone]=>
  Need (yN 1 A∧k'=k∧(k=1∨k=2)∧e1=171∧e2=261∧e3=5∧List.length (α:=Int) bs+s.length≤1000000) (K (.tup [I s.length,.val .nilIface]) (H3 p hp a (.ptr 1 0) (k+1) (List.append (α:=Int) bs (aU s))++ [.gone]))
 | _,_=>False
theorem k158:aF Tryz.prog c158:=by
 refine pB (enters_of Tryz.func208 (by kernel_rfl) rfl) ?_
 intro args H K h
 split at h
 ·obtain ⟨⟨hA,rfl,hk,rfl,rfl,rfl,hl⟩,hK⟩:=h
  refine ⟨_,?_,pO (by simp[k178]) Tryz.func208 (by simp[Tryz.ntmps208]) (b158 _ _ _ _ hA _ hk _ _ hl)⟩
  rintro s H' ⟨rfl,rfl⟩
  exact hK
 ·exact h.elim
set_option maxRecDepth 100000 in
theorem Lw {P:Program} {ρ:Ren} (L:Lays.n169 P ρ) (X:Builder.Extra P ρ) (b g cap:Nat) (p:Value) (cur:Array Value) (l:List UInt8) (w:World) (h0:l≠ []) (hbk:w.heap[b]? =some (.cells #[p,.slice (some ⟨g,0,none⟩) l.length cap] (ρ.t 72) (0,0)))
  (hg:w.heap[g]? =some (.cells cur (ρ.t 5) (0,0))) (hnc:l.length≤cap) (hcm:cap≤maxLen) (hcs:cap≤cur.size) (hcell:∀(j:Nat) (x:UInt8),l[j]? =some x→cur[j]? =some (Value.int .u8 x.toNat)):
  Calls P (ρ.f 169) #[.pointer (some ⟨b,0,none⟩)] w fun e w'=>e= .returned (.string ⟨l.toArray⟩)∧w'=w.drew.freeze ⟨g,0,none⟩ l.length:=by
 have hl0:l.length≠0:=by simpa using h0
 have c1:w.drew.cell? ⟨b,1,none⟩=some (.slice (some ⟨g,0,none⟩) l.length cap):=by
  have:w.drew.heap[b]? =some (.cells #[p,.slice (some ⟨g,0,none⟩) l.length cap] (ρ.t 72) (0,0)):=hbk
  rw[Lib.cell_of_heap this];rfl
 have hSD:(Builtin.unsafeSliceData_ #[(ρ.t 37)] (ρ.t 127) #[.slice (some ⟨g,0,none⟩) l.length cap]).run P w.drew= .ok (.pointer (some ⟨g,0,none⟩)) w.drew:=
  Lib.run_unsafeSliceData_row _ _ _ _ _ _ (by omega)
 have hUS:(Builtin.unsafeString_ #[(ρ.t 127),(ρ.t 3)] (ρ.t 9) #[.pointer (some ⟨g,0,none⟩),.int .i64 l.length]).run P w.drew= .ok (.string ⟨l.toArray⟩) (w.drew.freeze ⟨g,0,none⟩ l.length):=by
  refine Lib.run_unsafeString_row w.drew (ρ.t 127) (ρ.t 3) (ρ.t 9) (ρ.t 5) L.t127 X.cellsByte g cur.size (by have hg':w.drew.heap[g]? =some (.cells cur (ρ.t 5) (0,0)):=hg;simp[World.shape?,hg']) l h0 (by omega) (by unfold maxLen at hcm;omega) ?_
  intro j x hx
  have hg':w.drew.heap[g]? =some (.cells cur (ρ.t 5) (0,0)):=hg
  rw[Addr.add_mid,Lib.cell_of_heap hg',Nat.zero_add]
  exact hcell j x hx
 have mixed:=L.mixed
 have t72:=L.t72;have a72:=L.a72;have z72:=L.z72;have v72:=L.v72;have u72:=run_underlying L.t72
 have t70:=L.t70;have a70:=L.a70;have z70:=L.z70;have v70:=L.v70;have u70:=run_underlying L.t70
 have t37:=L.t37;have a37:=L.a37;have z37:=L.z37;have v37:=L.v37;have u37:=run_underlying L.t37
 have t127:=L.t127;have a127:=L.a127;have z127:=L.z127;have v127:=L.v127;have u127:=run_underlying L.t127
 have t3:=L.t3;have a3:=L.a3;have z3:=L.z3;have v3:=L.v3;have u3:=run_underlying L.t3
 have t9:=L.t9;have a9:=L.a9;have z9:=L.z9;have v9:=L.v9;have u9:=run_underlying L.t9
 have t5:=X.t5;have a5:=X.a5;have z5:=X.z5;have v5:=X.v5;have u5:=run_underlying X.t5
 go_enter L.f169,Body.n169_ntmps ρ
 go_wp2
 go_region_o
 all_goals (go_wp2;go_ret;exact ⟨rfl,rfl⟩)
def ofI (bs:List Int):List UInt8:=bs.map fun n=>UInt8.ofNat n.toNat
theorem wF (l:List UInt8):ofI (aU l)=l:=by
 unfold ofI aU
 rw[List.map_map]
 conv=>rhs;rw[← List.map_id l]
 refine List.map_congr_left fun x _=>?_
 simp
def c160:Con:=wW 210 fun args H K=>match args with
 | [.ptr nm 0]=>(match hget H nm with
  | .cells [A,.ref nm2 k] e=>(match hget H nm2 with
   | .vec k' (.int .u8) bs e'=>Need (yN nm A∧k'=k∧e=261∧e'=5∧0<List.length (α:=Int) bs∧nm≠nm2) (K (.str (ofI bs)) (hset H nm2 .dead))
   | _=>False)
  | _=>False)
 | _=>False
theorem k160:aF Tryz.prog c160:=by
 refine pB (enters_of Tryz.func210 (by kernel_rfl) rfl) ?_
 intro args H K h
 split at h
 case h_2=>exact h.elim
 rename_i nm
 split at h
 case h_2=>exact h.elim
 rename_i A nm2 k e ho
 split at h
 case h_2=>exact h.elim
 rename_i k' bs e' ho2
 obtain ⟨⟨hA,hkk,rfl,rfl,hpos,hne⟩,hK⟩:=h
 subst hkk
 refine ⟨fun s H'=>s= .str (ofI bs)∧H'=hset H nm2 .dead,fun s H' e=>by rw[e.1,e.2];exact hK,?_⟩
 intro G loc ver w vs hC hI hr
 cases hr with
 | cons _ v1 _ vs1 h1 hr=>
 cases hr
 obtain ⟨b,hbk,rfl⟩:=jH hI h1 (by simp only[live,ho])
 have hn:=aB ho (by simp)
 have hn2:=aB ho2 (by simp)
 obtain ⟨h0,b',vals,g1,g2,g3⟩:=hI.objs nm _ hn
 rw[hbk] at g1;cases g1
 replace g2:w.heap[b]? =some (.cells ⟨vals⟩ 261 (0,0)):=g2
 cases g3 with
 | cons _ u _ us r1 r2=>
 cases r2 with
 | cons _ u2 _ us2 r2 r3=>
 cases r3
 obtain ⟨hu2,hlt2⟩:=gC hI r2 ho2
 subst hu2
 obtain ⟨q1,q2,hlen,hmax,vs2,hown,hel⟩:=hI.objs nm2 _ hn2
 have hlen':(loc nm2).len=List.length (α:=Int) bs:=hlen
 have hmax':(loc nm2).len≤140737488355328:=hmax
 have hel':∀i,i<(loc nm2).len→Reads w (okN G H loc w) (.int .u8) (List.getD (α:=Int) bs i 0) ((vs2.drop (i*1)).take 1):=hel
 rcases aM hown with ⟨_,_,_,e4⟩ | ⟨g,cur,e1,e2,e3,e4,e5,e6,e7⟩
 ·omega
 have e3':w.heap[g]? =some (.cells cur 5 (0,0)):=e3
 have hol:(ofI bs).length=List.length (α:=Int) bs:=by simp[ofI]
 have e7':cur.toList.take (List.length (α:=Int) bs)=vs2:=by rw[← hlen'];simpa [Ty.size] using e7
 have hcell:∀(j:Nat) (x:UInt8),(ofI bs)[j]? =some x→cur[j]? =some (Value.int .u8 x.toNat):=by
  intro j x hj
  have hjl:j<List.length (α:=Int) bs:=by rw[← hol];exact (List.getElem?_eq_some_iff.1 hj).1
  have hR:=hel' j (by omega)
  have hg1:List.getD (α:=Int) bs j 0=bs[j]:=by simp[List.getD_eq_getElem?_getD,hjl]
  have hx:x=UInt8.ofNat (bs[j]:Int).toNat:=by
   simp[ofI,hjl] at hj
   exact hj.symm
  obtain ⟨hR1,hR2⟩:=hR
  have hR2:(0:Int)≤List.getD (α:=Int) bs j 0∧List.getD (α:=Int) bs j 0≤255:=hR2
  have hjc:(cur.toList.take (List.length (α:=Int) bs))[j]? =some (Value.int .u8 (List.getD (α:=Int) bs j 0)):=by
   rw[e7']
   have h1:((vs2.drop (j*1)).take 1)[0]? =some (Value.int .u8 (List.getD (α:=Int) bs j 0)):=by rw[hR1];rfl
   simpa using h1
  rw[List.getElem?_take,if_pos hjl] at hjc
  rw[← Array.getElem?_toList,hjc,hx]
  rw[hg1] at hR2 ⊢
  congr 2
  simp only[UInt8.toNat_ofNat']
  omega
 have hhead:(loc nm2).head= .slice (some ⟨g,0,none⟩) (ofI bs).length (loc nm2).cap:=by simp[Core.head,e1,e2,hlen',hol]
 have hb3:w.heap[b]? =some (.cells #[u,.slice (some ⟨g,0,none⟩) (ofI bs).length (loc nm2).cap] 261 (0,0)):=by rw[← hhead];exact g2
 refine (Lw RL.lS ex160 b g (loc nm2).cap u cur (ofI bs) w (by intro e;rw[e] at hol;simp at hol;omega) hb3 e3' (by omega) e5 (by simpa [Ty.size] using e6) hcell).mono ?_
 rintro e w' ⟨rfl,rfl⟩
 refine ⟨_,rfl,?_⟩
 have hfr:∀c,c≠g→(w.drew.freeze ⟨g,0,none⟩ (ofI bs).length).heap[c]? =w.heap[c]? :=by
  intro c hc
  unfold World.freeze
  split
  ·rfl
  ·show (w.heap.modify _ _)[c]? = _
   rw[Array.getElem?_modify,if_neg (fun e=>hc e.symm)]
 have hsz:(w.drew.freeze ⟨g,0,none⟩ (ofI bs).length).heap.size=w.heap.size:=by
  unfold World.freeze
  split
  ·rfl
  ·simp
 have hin:=hI.inPlace (w':=w.drew.freeze ⟨g,0,none⟩ (ofI bs).length) (o':=.dead) hn2 (b:=g) (by simp[Owns,e1]) (fun _ h=>h.elim) hsz (by unfold World.freeze;split<;>rfl) (by unfold World.freeze;split<;>rfl) (by unfold World.freeze;split<;>rfl) hfr (fun _=>trivial)
 exact ⟨_,_,_,_,⟨rfl,rfl⟩,hin.1,.str _ (by show (ofI bs).length≤140737488355328;omega),hin.2⟩
theorem jA (a b:List UInt8):aU (a++b)=List.append (α:=Int) (aU a) (aU b):=by simp[aU]
theorem sK (p w r t:List UInt8):List.append (α:=Int) (List.append (α:=Int) (aU (p++w)) (aU r)) (aU t)=aU (p++(w++(r++t))):=by
 rw[← jA,← jA]
 simp only[List.append_assoc]
theorem Ev (p w t:List UInt8):List.append (α:=Int) (aU (p++w)) (aU t)=aU (p++(w++([]++t))):=by
 rw[← jA,List.append_assoc,List.nil_append]
def wrA:Nat→SV
 | 0=>.val (.pointer none)
 | _+1=>.ptr 1 0
theorem Kc {x:Int} (h:0≤x∧x<1000000000):(itoa x).length≤9:=by
 unfold itoa
 rw[if_neg (by omega)]
 exact gM 8 _ (by omega)
theorem Qi {x:Int}:0<(itoa x).length:=by
 cases h:itoa x with
 | nil=>exact absurd h (by unfold itoa;split<;>simp[Ay])
 | cons=>simp
theorem Kd (a:List Int) (m:Nat):0<(wrK a (m+1)).length:=by
 have:=Qi (x:=a.getD (a.length-1-m) 0)
 show 0<(wrK a m++((if 0<m then List.replicate (9-(itoa (a.getD (a.length-1-m) 0)).length) 48 else [])++itoa (a.getD (a.length-1-m) 0))).length
 simp only[List.length_append];omega
theorem tC {a:List Int} (h:InB B9 a):∀i,(wrK a i).length≤9*i
 | 0=>Nat.le_refl _
 | i+1=>by
  have h1:=tC h i
  have h2:=Kc (get9 h (a.length-1-i))
  show (wrK a i++((if 0<i then List.replicate (9-(itoa (a.getD (a.length-1-i) 0)).length) 48 else [])++itoa (a.getD (a.length-1-i) 0))).length≤9*(i+1)
  by_cases h0:0<i
  ·rw[if_pos h0];simp only[List.length_append,List.length_replicate];omega
  ·rw[if_neg h0];simp only[List.length_append,List.length_nil];omega
theorem b128 (p:Prop) (hp:Decidable p) (a:List Int) (h:InB B9 a∧a.length≤200):body Tryz.prog [c157,c158,c160,c61,c159,c135,c166] { asks:=[(0,[2])] } true Tryz.f175 [.agg [.bl p hp,Ls a]] (S (if a= [] then [48] else (if p then [45] else [])++wrK a a.length)):=by
 (repeat'((conv=>whnf);first|refine Zg fun _=>?_|fail))
 (apply Br.mk<;>intro)
 ·rename_i hz
  have e:a= []:=List.eq_nil_of_length_eq_zero (by omega)
  (conv=>whnf)
  rw[if_pos e]
 ·rename_i hz
  refine Own.r ?_
  (conv=>whnf)
  refine ⟨1,.int .u8,5,?_⟩
  (apply Br.mk<;>intro)
  ·rename_i hp'
   (conv=>whnf)
   refine Need.mk ⟨.inl rfl,rfl,rfl,rfl,Nat.zero_le _⟩ ?_
   (conv=>whnf)
   refine Ask.mk ⟨{ X:=Nat,pre:=fun i=>i≤a.length,mod:=fun i _=>[],heap:=fun i H=>[hget H 0,.cells [.ptr 1 0,.ref 2 1] 261,.vec 1 (.int .u8) (aU ([45]++wrK a i)) 5],mu:=fun i=>i,objs:=[2] },rfl,?_⟩
   (repeat refine ZN ?_)
   refine ⟨⟨(0:Nat),rfl,Nat.zero_le _,?_⟩,fun (i:Nat) hi (hlt:i<a.length)=>?_,fun (i:Nat) hi (he:i=a.length)=>?_⟩
   ·(repeat' first|exact trivial|rfl|exact Nat.one_pos|apply And.intro)
   ·have hx:=Kc (get9 h.1 (a.length-1-i))
    have hb:([45]++wrK a i).length≤1+9*i:=by have:=tC h.1 i;simp only[List.length_append,List.length_cons,List.length_nil];omega
    rw[← bC] at hb
    have h2:=h.2
    have hst:wrK a (i+1)=wrK a i++((if 0<i then List.replicate (9-(itoa (a.getD (a.length-1-i) 0)).length) 48 else [])++itoa (a.getD (a.length-1-i) 0)):=rfl
    show hnfL (itB a i) _
    (repeat' first|refine ZG ?_|refine Zg fun _=>?_)
    (apply Br.mk<;>intro)
    ·rw[if_pos (by omega)] at hst
     (repeat'((conv=>whnf);first|refine Zg fun _=>?_|refine Zn ?_|fail))
     refine Need.mk ⟨.inr rfl,rfl,.inl rfl,rfl,rfl,rfl,?_⟩ ?_
     ·show _+(List.replicate (9-((itoa (a.getD (a.length-1-i) 0)).length:Int)).toNat 48).length≤1000000
      rw[List.length_replicate];omega
     refine Need.mk ⟨.inr rfl,rfl,.inr rfl,rfl,rfl,rfl,?_⟩ ?_
     ·show (List.append (α:=Int) _ (aU (List.replicate (9-((itoa (a.getD (a.length-1-i) 0)).length:Int)).toNat 48))).length+ _≤1000000
      show (_++ _:List Int).length+ _≤ _
      rw[List.length_append,bC (List.replicate _ _),List.length_replicate];omega
     refine ⟨(i+1:Nat),rfl,hlt,?_⟩
     (repeat' first|exact trivial|rfl|exact Nat.one_pos|apply And.intro)
     rw[hst,show (9-((itoa (a.getD (a.length-1-i) 0)).length:Int)).toNat=9-(itoa (a.getD (a.length-1-i) 0)).length by omega]
     exact sK [45] _ _ _
    ·rw[if_neg (by omega)] at hst
     refine Need.mk ⟨.inr rfl,rfl,.inl rfl,rfl,rfl,rfl,by omega⟩ ?_
     refine ⟨(i+1:Nat),rfl,hlt,?_⟩
     (repeat' first|exact trivial|rfl|exact Nat.one_pos|apply And.intro)
     rw[hst]
     exact Ev [45] _ _
   ·subst he
    have hpos:0<(aU ([45]++wrK a a.length)).length:=by
     rw[bC]
     obtain ⟨m,hm⟩:∃m,a.length=m+1:=⟨a.length-1,by omega⟩
     have:=Kd a m
     rw[hm,List.length_append];omega
    refine Need.mk ⟨.inr rfl,rfl,rfl,rfl,hpos,by show (1:Nat)≠2;decide⟩ ?_
    (conv=>whnf)
    rw[if_neg (by intro e;rw[e] at hz;exact hz rfl),if_pos hp',wF]
  ·rename_i hp'
   refine Ask.mk ⟨{ X:=Nat,pre:=fun i=>i≤a.length,mod:=fun i _=>[],heap:=fun i H=>[hget H 0,.cells [wrA i,.ref 2 1] 261,.vec 1 (.int .u8) (aU ([]++wrK a i)) 5],mu:=fun i=>i,objs:=[2] },rfl,?_⟩
   (repeat refine ZN ?_)
   refine ⟨⟨(0:Nat),rfl,Nat.zero_le _,?_⟩,fun (i:Nat) hi (hlt:i<a.length)=>?_,fun (i:Nat) hi (he:i=a.length)=>?_⟩
   ·(repeat' first|exact trivial|rfl|exact Nat.one_pos|apply And.intro)
   ·have h2:=h.2
    rcases i with _ | k
    ·have hx:=Kc (get9 h.1 (a.length-1-(0)))
     have hb:([]++wrK a (0)).length≤1+9*(0):=by have:=tC h.1 (0);simp only[List.length_append,List.length_nil];omega
     rw[← bC] at hb
     have hst:wrK a (0+1)=wrK a (0)++((if 0<(0) then List.replicate (9-(itoa (a.getD (a.length-1-(0)) 0)).length) 48 else [])++itoa (a.getD (a.length-1-(0)) 0)):=rfl
     show hnfL (itB a (0)) _
     (repeat' first|refine ZG ?_|refine Zg fun _=>?_)
     (apply Br.mk<;>intro)
     ·exfalso;omega
     ·rw[if_neg (by omega)] at hst
      refine Need.mk ⟨.inl rfl,rfl,.inl rfl,rfl,rfl,rfl,by omega⟩ ?_
      refine ⟨(0+1:Nat),rfl,hlt,?_⟩
      (repeat' first|exact trivial|rfl|exact Nat.one_pos|apply And.intro)
    ·have hx:=Kc (get9 h.1 (a.length-1-(k+1)))
     have hb:([]++wrK a (k+1)).length≤1+9*(k+1):=by have:=tC h.1 (k+1);simp only[List.length_append,List.length_nil];omega
     rw[← bC] at hb
     have hst:wrK a (k+1+1)=wrK a (k+1)++((if 0<(k+1) then List.replicate (9-(itoa (a.getD (a.length-1-(k+1)) 0)).length) 48 else [])++itoa (a.getD (a.length-1-(k+1)) 0)):=rfl
     show hnfL (itB a (k+1)) _
     (repeat' first|refine ZG ?_|refine Zg fun _=>?_)
     (apply Br.mk<;>intro)
     ·rw[if_pos (by omega)] at hst
      (repeat'((conv=>whnf);first|refine Zg fun _=>?_|refine Zn ?_|fail))
      refine Need.mk ⟨.inr rfl,rfl,.inl rfl,rfl,rfl,rfl,?_⟩ ?_
      ·show _+(List.replicate (9-((itoa (a.getD (a.length-1-(k+1)) 0)).length:Int)).toNat 48).length≤1000000
       rw[List.length_replicate];omega
      refine Need.mk ⟨.inr rfl,rfl,.inr rfl,rfl,rfl,rfl,?_⟩ ?_
      ·show (List.append (α:=Int) _ (aU (List.replicate (9-((itoa (a.getD (a.length-1-(k+1)) 0)).length:Int)).toNat 48))).length+ _≤1000000
       show (_++ _:List Int).length+ _≤ _
       rw[List.length_append,bC (List.replicate _ _),List.length_replicate];omega
      refine ⟨(k+1+1:Nat),rfl,hlt,?_⟩
      (repeat' first|exact trivial|rfl|exact Nat.one_pos|apply And.intro)
      rw[hst,show (9-((itoa (a.getD (a.length-1-(k+1)) 0)).length:Int)).toNat=9-(itoa (a.getD (a.length-1-(k+1)) 0)).length by omega]
      exact sK [] _ _ _
     ·exfalso;omega
   ·obtain ⟨m,rfl⟩:∃m,i=m+1:=⟨i-1,by omega⟩
    have hpos:0<(aU ([]++wrK a (m+1))).length:=by
     rw[bC]
     exact Kd a m
    refine Need.mk ⟨.inr rfl,rfl,rfl,rfl,hpos,by show (1:Nat)≠2;decide⟩ ?_
    (conv=>whnf)
    rw[if_neg (by intro e;rw[e] at hz;exact hz rfl),if_neg hp',wF,he]
def sL (a:List Int):Prop:=a=aD B9 (valB B9 a).toNat∧a.length≤200
theorem cK {m:Nat} (h:m<B9^200):sL (aD B9 m):=by
 refine ⟨by rw[dB (by decide),Int.toNat_natCast],?_⟩
 rcases Nat.eq_zero_or_pos m with rfl | hm
 ·rw[bG];exact Nat.zero_le _
 ·obtain ⟨h1,_,h3⟩:=dP (B:=B9) (by decide) hm
  have h1:B9^ ((aD B9 m).length-1)≤m:=by exact_mod_cast h1
  have:=(Nat.pow_lt_pow_iff_right (show 1<B9 by decide)).1 (Nat.lt_of_le_of_lt h1 h)
  omega
theorem Ew {a:List Int} (h:sL a):InB B9 a:=by rw[h.1];exact bD (by decide) _
def sgP (p:Prop) [Decidable p] (n:Int):Int:=if p then -n else n
theorem Qj (p:Prop) [hp:Decidable p] {a:List Int} (h:sL a):(if a= [] then [48] else (if p then [45] else [])++wrK a a.length)=itoa (sgP p (valB B9 a)):=by
 have hz:=dB (B:=B9) (by decide) (valB B9 a).toNat
 rw[← h.1] at hz
 by_cases e:a= []
 ·rw[if_pos e]
  subst e
  have:sgP p (valB B9 [])=0:=by unfold sgP;split<;>rfl
  rw[this]
  unfold itoa
  rw[if_neg (by omega)]
  exact (bJ (show 0<10 by omega)).symm
 ·rw[if_neg e]
  have hl:a.getLast e≠0:=by
   have:=oJ (B:=B9) (by decide) (valB B9 a).toNat
   rw[← h.1] at this
   exact this e
  obtain ⟨m,hm⟩:∃m,a.length=m+1:=⟨a.length-1,by have:=List.length_pos_iff.2 e;omega⟩
  obtain ⟨h1,h2⟩:=Eh (show InB (10^9) a from Ew h) e hl m (by omega)
  have e9:(10:Nat)^9=B9:=by decide
  rw[show a.length-1-m=0 by omega,List.drop_zero,e9] at h1 h2
  rw[hm,h2]
  have h3:=Uk (decide p) (valB B9 a).toNat
  unfold wrM at h3
  rw[if_neg (by omega)] at h3
  have h4:sgn (decide p) (valB B9 a).toNat=sgP p (valB B9 a):=by
   unfold sgn sgP
   by_cases hq:p
   ·rw[if_pos (by simp[hq]),if_pos hq];omega
   ·rw[if_neg (by simp[hq]),if_neg hq];omega
  rw[← h4,← h3]
  by_cases hq:p
  ·rw[if_pos hq,if_pos (by simp[hq])];rfl
  ·rw[if_neg hq,if_neg (by simp[hq])];rfl
def c128:Con:=aH 175 true fun args K=>match args with
 | [.agg [.bl p hp,.seq (.int .i64) a]]=>Need (sL a) (K (S (itoa (@sgP p hp (valB B9 a)))))
 | _=>False
theorem k128:aF Tryz.prog c128:=by
 refine kO Tryz.func175 fun args K h=>?_
 simp only[c128] at h;split at h
 ·rename_i p hp a
  refine ⟨_,h.go,?_⟩
  rw[← Qj p h.ok]
  exact triB Tryz.func175 Tryz.ntmps175 (by simp[k157,k158,k160,k61,k159,k135,k166]) (b128 p hp a ⟨Ew h.ok,h.ok.2⟩)
 ·exact h.elim
def resI (n:Int):List UInt8 × Int:=if lim n then ([],4) else (itoa n,0)
theorem b96 (p:Prop) (hp:Decidable p) (a:List Int) (h:sL a):body Tryz.prog [c128,c88] {} true Tryz.f144 [.agg [.bl p hp,Ls a]] (.tup [S (resI (sgP p (valB B9 a))).1,I (resI (sgP p (valB B9 a))).2]):=by
 have ht:=congrArg List.length (cB (sgP p (valB B9 a)))
 unfold resI lim
 (repeat' first|refine ZG ?_|refine Zg fun _=>?_)
 (apply Br.mk<;>intro)
 ·rename_i hg
  rw[if_pos (by simp;omega)]
  (conv=>whnf)
  (repeat' first|exact trivial|rfl|apply And.intro)
 ·rename_i hg
  rw[if_neg (by simp;omega)]
  (conv=>whnf)
  (repeat' first|exact trivial|rfl|apply And.intro)
def c96:Con:=aH 144 true fun args K=>match args with
 | [.agg [.bl p hp,.seq (.int .i64) a]]=>Need (sL a) (K (.tup [S (resI (@sgP p hp (valB B9 a))).1,I (resI (@sgP p hp (valB B9 a))).2]))
 | _=>False
theorem k96:aF Tryz.prog c96:=by
 refine kO Tryz.func144 fun args K h=>?_
 simp only[c96] at h;split at h
 ·rename_i p hp a
  exact ⟨_,h.go,triB Tryz.func144 Tryz.ntmps144 (by simp[k128,k88]) (b96 p hp a h.ok)⟩
 ·exact h.elim
def addP (p:Prop) (m:Nat) (q:Prop) (n:Nat):Prop:=(((p↔q)∨n≤m)∧p)∨(¬((p↔q)∨n≤m)∧q)
instance (p:Prop) [Decidable p] (m:Nat) (q:Prop) [Decidable q] (n:Nat):Decidable (addP p m q n):=by unfold addP;infer_instance
def addN (p:Prop) [Decidable p] (m:Nat) (q:Prop) [Decidable q] (n:Nat):Nat:=if p↔q then m+n else if n≤m then m-n else n-m
theorem Sm (p:Prop) [Decidable p] (m:Nat) (q:Prop) [Decidable q] (n:Nat):sgP (addP p m q n) (addN p m q n)=sgP p m+sgP q n:=by
 unfold sgP addP addN
 by_cases hp:p<;>by_cases hq:q<;>by_cases h:n≤m<;>simp[hp,hq,h]<;>omega
theorem Vm {p:Prop} [Decidable p] {m:Nat} {q:Prop} [Decidable q] {n:Nat} (hm:m<B9^100) (hn:n<B9^100):addN p m q n<B9^200:=by
 have h:B9^100+B9^100≤B9^200:=by
  rw[← Nat.two_mul]
  exact Nat.le_trans (Nat.mul_le_mul_right _ (show 2≤B9 by decide)) (by rw[← Nat.pow_succ'];exact Nat.pow_le_pow_right (by decide) (by omega))
 unfold addN
 split
 ·omega
 ·split<;>omega
theorem dV {m k:Nat} (h:m<B9^k):(aD B9 m).length≤k:=by
 rcases Nat.eq_zero_or_pos m with rfl | hm
 ·rw[bG];exact Nat.zero_le _
 ·obtain ⟨h1,_,h3⟩:=dP (B:=B9) (by decide) hm
  have h1:B9^ ((aD B9 m).length-1)≤m:=by exact_mod_cast h1
  have:=(Nat.pow_lt_pow_iff_right (show 1<B9 by decide)).1 (Nat.lt_of_le_of_lt h1 h)
  omega
theorem v9 (m:Nat):valB B9 (aD B9 m)=m:=dB (by decide) m
theorem b97 (p:Prop) (hp:Decidable p) (m:Nat) (q:Prop) (hq:Decidable q) (n:Nat) (hm:m<B9^100) (hn:n<B9^100):
  body Tryz.prog [c107,c129] {} false Tryz.f107 [.agg [.bl p hp,Ls (aD B9 m)],.agg [.bl q hq,Ls (aD B9 n)]] (.agg [.bl (addP p m q n) inferInstance,Ls (aD B9 (addN p m q n))]):=by
 have im:InB B9 (aD B9 m):=bD (by decide) m
 have jn:InB B9 (aD B9 n):=bD (by decide) n
 have lm:=dV hm
 have ln:=dV hn
 have hc:=wB m n
 have vm:=v9 m
 have vn:=v9 n
 (repeat refine ZG ?_)
 (apply Br.mk<;>intro)
 ·rename_i h
  have e1:p↔addP p m q n:=by unfold addP;simp[h]
  have e2:(valB B9 (aD B9 m)+valB B9 (aD B9 n)).toNat=addN p m q n:=by unfold addN;rw[if_pos h];omega
  (repeat'((conv=>whnf);first|(apply Pin.mk;apply Exists.intro)|apply Pinned.mk rfl rfl|fail))
  refine Need.mk ⟨im,jn,by omega,by omega⟩ ?_
  (repeat'((conv=>whnf);first|apply Pinned.mk rfl rfl|fail))
  (conv=>whnf)
  (repeat' first|exact trivial|apply And.intro)
  ·exact e1
  ·skip
   exact congrArg (aD B9) e2
 ·rename_i h
  (conv=>whnf)
  refine Need.mk ⟨im,jn⟩ ?_
  (apply Br.mk<;>intro)
  ·rename_i hg
   have hle:n≤m:=by omega
   have e1:p↔addP p m q n:=by unfold addP;simp[hle]
   have e2:(valB B9 (aD B9 m)-valB B9 (aD B9 n)).toNat=addN p m q n:=by unfold addN;rw[if_neg h,if_pos hle];omega
   (repeat'((conv=>whnf);first|(apply Pin.mk;apply Exists.intro)|apply Pinned.mk rfl rfl|fail))
   refine Need.mk ⟨im,jn,by omega,by omega,by omega⟩ ?_
   (repeat'((conv=>whnf);first|apply Pinned.mk rfl rfl|fail))
   (conv=>whnf)
   (repeat' first|exact trivial|apply And.intro)
   ·exact e1
   ·(conv=>whnf)
    exact congrArg (aD B9) e2
  ·rename_i hg
   have hle:¬n≤m:=by omega
   have e1:q↔addP p m q n:=by unfold addP;simp[hle,h]
   have e2:(valB B9 (aD B9 n)-valB B9 (aD B9 m)).toNat=addN p m q n:=by unfold addN;rw[if_neg h,if_neg hle];omega
   (repeat'((conv=>whnf);first|(apply Pin.mk;apply Exists.intro)|apply Pinned.mk rfl rfl|fail))
   refine Need.mk ⟨jn,im,by omega,by omega,by omega⟩ ?_
   (repeat'((conv=>whnf);first|apply Pinned.mk rfl rfl|fail))
   (conv=>whnf)
   (repeat' first|exact trivial|apply And.intro)
   ·exact e1
   ·(conv=>whnf)
    exact congrArg (aD B9) e2
def oP (a:List Int):Prop:=a=aD B9 (valB B9 a).toNat∧(valB B9 a).toNat<B9^100
def c97:Con:=aH 107 false fun args K=>match args with
 | [.agg [.bl p hp,.seq (.int .i64) a],.agg [.bl q hq,.seq (.int .i64) b]]=>Need (oP a∧oP b) (K (.agg [.bl (addP p (valB B9 a).toNat q (valB B9 b).toNat) inferInstance,Ls (aD B9 (@addN p hp (valB B9 a).toNat q hq (valB B9 b).toNat))]))
 | _=>False
theorem k97:aF Tryz.prog c97:=by
 refine kO Tryz.func107 fun args K h=>?_
 simp only[c97] at h;split at h
 ·rename_i p hp a q hq b
  refine ⟨_,h.go,?_⟩
  obtain ⟨⟨ha,hm⟩,hb,hn⟩:=h.ok
  have ht:=triB Tryz.func107 Tryz.ntmps107 (by simp[k107,k129]) (b97 p hp (valB B9 a).toNat q hq (valB B9 b).toNat hm hn)
  rw[← ha,← hb] at ht
  exact ht
 ·exact h.elim
theorem Sn {l k:Nat} (h:l≤9*k):(10:Nat)^l≤B9^k:=by
 have e9:(10:Nat)^9=B9:=by decide
 rw[← e9,← Nat.pow_mul]
 exact Nat.pow_le_pow_right (by omega) h
theorem fT {s:List UInt8} (h:form s) (hl:(digs s).length≤300):aK (digs s)<B9^34:=
 Nat.lt_of_lt_of_le (iF (digs s) h.2.2) (Sn (by omega))
theorem iT {s:List UInt8}:valI s=sgP (s.headD 0=45) (aK (digs s):Nat):=by
 unfold valI sgP digs
 split
 ·rfl
 ·rfl
theorem cA {s:List UInt8} (h:form s) (hl:(digs s).length≤300):oP (aD B9 (aK (digs s))):=by
 refine ⟨by rw[v9,Int.toNat_natCast],?_⟩
 rw[v9,Int.toNat_natCast]
 exact Nat.lt_of_lt_of_le (fT h hl) (Nat.pow_le_pow_right (by decide) (by omega))
noncomputable def eZ (a b:List UInt8) (r:List UInt8 × Int):List UInt8 × Int:=if chk2 a b≠0 then ([],chk2 a b) else r
theorem jW {a b:List UInt8} (h:¬chk2 a b≠0):chkI a=0∧chkI b=0:=by
 unfold chk2 at h
 split at h
 ·rename_i h1;exact absurd h1 h
 ·rename_i h1;exact ⟨Classical.not_not.1 h1,Classical.not_not.1 h⟩
theorem iL {n:Int} (h:n.natAbs<10^40):resI n=(itoa n,0):=by
 unfold resI lim
 rw[if_neg]
 have:=gM 39 n.natAbs h
 simp;omega
theorem So (p:Prop) [Decidable p] (n:Int):sgP (¬p) n= -sgP p n:=by unfold sgP;by_cases h:p<;>simp[h]
theorem Qk (a b:List UInt8):sgP (addP (a.headD 0=45) (valB B9 (aD B9 (aK (digs a)))).toNat (¬b.headD 0=45) (valB B9 (aD B9 (aK (digs b)))).toNat) (valB B9 (aD B9 (addN (a.headD 0=45) (valB B9 (aD B9 (aK (digs a)))).toNat (¬b.headD 0=45) (valB B9 (aD B9 (aK (digs b)))).toNat)))=valI a-valI b:=by
 simp only[v9,Int.toNat_natCast,Sm,iT,So]
 omega
theorem b60 (a b:List UInt8):body Tryz.prog [c94,c95,c61,c98,c97,c96] {} true Tryz.f90 [S a,S b] (.tup [S (eZ a b (resI (valI a-valI b))).1,I (eZ a b (resI (valI a-valI b))).2]):=by
 unfold eZ
 (apply Br.mk<;>intro)
 ·rename_i h
  rw[if_pos h]
  (conv=>whnf)
  (repeat' first|exact trivial|rfl|apply And.intro)
 ·rename_i h
  rw[if_neg h]
  obtain ⟨ha,hb⟩:=jW h
  obtain ⟨fa,la⟩:=cP ha
  obtain ⟨fb,lb⟩:=cP hb
  refine Need.mk ⟨rfl,fa,fb⟩ ?_
  (apply Br.mk<;>intro)
  ·rename_i hs
   have h1:=eW fa hs.1
   have h2:=eW fb hs.2
   rw[iL (by omega)]
   (repeat refine ZG ?_)
   (conv=>whnf)
   (repeat' first|exact trivial|rfl|apply And.intro)
  ·rename_i hs
   have hv:=Qk a b
   refine Need.mk ⟨fb,by omega⟩ ?_
   (repeat'((conv=>whnf);first|(apply Pin.mk;apply Exists.intro)|apply Pinned.mk rfl rfl|refine Zl ?_|fail))
   refine Need.mk ⟨fa,by omega⟩ ?_
   (repeat'((conv=>whnf);first|(apply Pin.mk;apply Exists.intro)|apply Pinned.mk rfl rfl|fail))
   refine Need.mk ⟨cA fa la,cA fb lb⟩ ?_
   (repeat'((conv=>whnf);first|(apply Pin.mk;apply Exists.intro)|apply Pinned.mk rfl rfl|fail))
   refine Need.mk (cK (Vm (cA fa la).2 (cA fb lb).2)) ?_
   (repeat'((conv=>whnf);first|(apply Pin.mk;apply Exists.intro)|apply Pinned.mk rfl rfl|fail))
   (conv=>whnf)
   (repeat' first|exact trivial|rfl|apply And.intro)
   ·exact congrArg (fun z=>(resI z).1) hv
   ·exact congrArg (fun z=>(resI z).2) hv
theorem Em {P:Program} {f:FuncId} {args:List SV} {t:Ty} {ys:List t.T} {e:TypeId} (h2:t.flat=true) (h:OTri P f args (.ref 0 1) t ys e):Tri P true f args (.seq t ys):=by
 intro ok w vs hg hok hr
 refine (h ok w vs hg hok hr).mono ?_
 rintro en w' ⟨v,L',rfl,hb,hL,⟨hlen,hmax,us,hown,hel⟩,hrel⟩
 refine ⟨v,rfl,hb,?_⟩
 cases hrel with
 | ref _ _ _ hn h0 hk hv=>
 have:=hv rfl
 subst this
 refine .seq t ys _ ?_
 rcases aM hown with ⟨e1,e2,e3,e4⟩ | ⟨g,cur,e1,e2,e3,e4,e5,e6,e7⟩
 ·exact ⟨none,0,0,by simp[Core.head,envO,e1,e2,e3],by omega,Nat.le_refl _,Nat.zero_le _,fun h=>absurd h (Nat.lt_irrefl _)⟩
 ·have hg1:w.heap.size≤g:=hL g (by simp[e1])
  have hg2:g<w'.heap.size:=(Array.getElem?_eq_some_iff.1 e3).1
  refine ⟨some ⟨g,0,none⟩,L'.len,L'.cap,by simp[Core.head,envO,e1],hlen,e4,hmax,fun h0=>⟨g,0,rfl,.inr ⟨hg1,hg2⟩,fun i hi=>⟨_,(hel i hi).length,?_,(hel i hi).flat h2⟩⟩⟩
  intro j v hj
  rw[List.getElem?_take] at hj
  split at hj
  ·rw[List.getElem?_drop,← e7,List.getElem?_take] at hj
   split at hj
   ·simp only[env0,World.cell?,e3]
    simpa using hj
   ·cases hj
  ·cases hj
def c99f:Con:=aH 155 true fun args K=>match args with
 | [.seq (.int .i64) a,.seq (.int .i64) b]=>Need (InB B9 a∧InB B9 b∧a.length≤100000∧b.length≤100000) (K (Ls (aD B9 (valB B9 a*valB B9 b).toNat)))
 | _=>False
theorem k99f:aF Tryz.prog c99f:=by
 refine kO Tryz.func155 fun args K h=>?_
 simp only[c99f] at h;split at h
 ·rename_i a b
  exact ⟨_,h.go,Em rfl (kH (by simp[k132,k131]) Tryz.func155 (by simp[Tryz.ntmps155]) rfl (b99 a b h.ok))⟩
 ·exact h.elim
theorem Sa (p q:Prop) [Decidable p] [Decidable q] (m n:Int):sgP (¬(p↔q)) (m*n)=sgP p m*sgP q n:=by
 unfold sgP
 by_cases hp:p<;>by_cases hq:q<;>simp[hp,hq,Int.neg_mul,Int.mul_neg]
theorem Ju {s:List UInt8} (h:form s):(valI s).natAbs<10^s.length:=by
 obtain ⟨h1,h2,h3⟩:=h
 have hb:=iF (digs s) h3
 have hp:(10:Nat)^ (digs s).length≤10^s.length:=Nat.pow_le_pow_right (by omega) (wD s).1
 have hv:valI s=aK (digs s)∨valI s= -(aK (digs s):Int):=by
  unfold valI digs
  split
  ·exact .inr rfl
  ·exact .inl rfl
 omega
theorem Lp {a b:List UInt8} (ha:form a) (hb:form b) (h:a.length+b.length≤18):(valI a*valI b).natAbs<1000000000000000000:=by
 have h1:=Ju ha
 have h2:=Ju hb
 rw[Int.natAbs_mul]
 have h3:(valI a).natAbs*(valI b).natAbs<10^a.length*10^b.length:=Nat.mul_lt_mul'' h1 h2
 rw[← Nat.pow_add] at h3
 exact Nat.lt_of_lt_of_le h3 (Nat.le_trans (Nat.pow_le_pow_right (by omega) h) (by decide))
theorem Uz (a b:List UInt8) (m:Nat) (hd:Decidable (¬(a.headD 0=45↔b.headD 0=45))) (hm:m=(valB B9 (aD B9 (aK (digs a)))*valB B9 (aD B9 (aK (digs b)))).toNat):sgP (¬(a.headD 0=45↔b.headD 0=45)) (valB B9 (aD B9 m))=valI a*valI b:=by
 subst hm
 have:hd=instDecidableNot:=Subsingleton.elim _ _
 subst this
 rw[v9,v9,v9,← Int.natCast_mul,Int.toNat_natCast,Int.natCast_mul,Sa,iT,iT]
theorem Lq {a b:List UInt8} (fa:form a) (la:(digs a).length≤300) (fb:form b) (lb:(digs b).length≤300):sL (aD B9 (valB B9 (aD B9 (aK (digs a)))*valB B9 (aD B9 (aK (digs b)))).toNat):=by
 refine cK ?_
 rw[v9,v9,← Int.natCast_mul,Int.toNat_natCast]
 have h3:=Nat.mul_lt_mul'' (fT fa la) (fT fb lb)
 rw[← Nat.pow_add] at h3
 exact Nat.lt_of_lt_of_le h3 (Nat.pow_le_pow_right (by decide) (by omega))
theorem b58 (a b:List UInt8):body Tryz.prog [c94,c95,c61,c98,c99f,c96] {} true Tryz.f103 [S a,S b] (.tup [S (eZ a b (resI (valI a*valI b))).1,I (eZ a b (resI (valI a*valI b))).2]):=by
 unfold eZ
 (apply Br.mk<;>intro)
 ·rename_i h
  rw[if_pos h]
  (conv=>whnf)
  (repeat' first|exact trivial|rfl|apply And.intro)
 ·rename_i h
  rw[if_neg h]
  obtain ⟨ha,hb⟩:=jW h
  obtain ⟨fa,la⟩:=cP ha
  obtain ⟨fb,lb⟩:=cP hb
  (repeat' first|refine ZG ?_|refine Zg fun _=>?_)
  (apply Br.mk<;>intro)
  ·rename_i hs
   have hm:=Lp fa fb (by omega)
   refine Need.mk ⟨rfl,fa,fb⟩ ?_
   refine Br.mk (fun _=>?_) (fun hn=>absurd (show a.length≤18∧b.length≤18 by omega) hn)
   rw[iL (by omega)]
   (repeat refine ZG ?_)
   (conv=>whnf)
   (repeat' first|exact trivial|rfl|apply And.intro)
  ·rename_i hs
   have hv:=fun hd=>Uz a b _ hd rfl
   refine Need.mk ⟨fa,by omega⟩ ?_
   refine Need.mk ⟨fb,by omega⟩ ?_
   have l1:=dV (fT fa la)
   have l2:=dV (fT fb lb)
   (repeat'((conv=>whnf);first|(apply Pin.mk;apply Exists.intro)|apply Pinned.mk rfl rfl|refine Zl ?_|fail))
   refine Need.mk ⟨bD (by decide) _,bD (by decide) _,by omega,by omega⟩ ?_
   (repeat'((conv=>whnf);first|(apply Pin.mk;apply Exists.intro)|apply Pinned.mk rfl rfl|fail))
   refine Need.mk (Lq fa la fb lb) ?_
   (repeat'((conv=>whnf);first|(apply Pin.mk;apply Exists.intro)|apply Pinned.mk rfl rfl|fail))
   (conv=>whnf)
   (repeat' first|exact trivial|rfl|apply And.intro)
   ·exact congrArg (fun z=>(resI z).1) (hv _)
   ·exact congrArg (fun z=>(resI z).2) (hv _)
def cmpI (x y:Int):Int:=if x<y then -1 else if x=y then 0 else 1
def c119:Con:=aH 100 true fun args K=>match args with | [.val (.int .i64 x)]=>K (.val (.bool false)) | _=>False
theorem k119:aF Tryz.prog c119:=by
 refine kQ {} Tryz.func100 Tryz.ntmps100 kn fun _ _ h=>?_
 split at h
 case h_2=>exact h.elim
 refine kb h ?_
 (conv=>whnf)
 exact ⟨fun h=>absurd rfl h,fun h=>by cases h⟩
def c76:Con:=aH 50 true fun args K=>match args with | [.val (.int .i64 x),.val (.int .i64 y)]=>K (I (cmpI x y)) | _=>False
theorem k76:aF Tryz.prog c76:=by
 refine kQ {} Tryz.func50 Tryz.ntmps50 (kc k119 kn) fun _ _ h=>?_
 split at h
 case h_2=>exact h.elim
 refine kb h ?_
 unfold cmpI
 (repeat'((conv=>whnf);first|refine Zr (fun _=>?_) fun _=>?_|fail))
 all_goals (skip;(conv=>whnf);(repeat' first|rfl|apply And.intro))
 all_goals (repeat' split)
 all_goals omega
noncomputable def Jv (a b:List UInt8) (r:Int):Int × Int:=if chk2 a b≠0 then (0,chk2 a b) else (r,0)
theorem Va (p:Prop) [Decidable p] (n:Nat) (x y:Int) (hv:sgP p (valB B9 (aD B9 n))=x-y):cmpI x y=if ((aD B9 n).length:Int)=0 then 0 else if p then -1 else 1:=by
 rw[v9] at hv
 have h0:((aD B9 n).length:Int)=0↔n=0:=by
  rw[← gT (B:=B9) (by decide),← List.length_eq_zero_iff];omega
 unfold sgP at hv
 unfold cmpI
 by_cases hn:n=0
 ·rw[if_pos (h0.2 hn)]
  subst hn
  have:x-y=0:=by rw[← hv];split<;>rfl
  rw[if_neg (by omega),if_pos (by omega)]
 ·rw[if_neg (fun h=>hn (h0.1 h))]
  by_cases hp:p
  ·rw[if_pos hp] at hv ⊢
   rw[if_pos (by omega)]
  ·rw[if_neg hp] at hv ⊢
   rw[if_neg (by omega),if_neg (by omega)]
theorem b77 (a b:List UInt8):body Tryz.prog [c94,c95,c98,c97,c76] {} true Tryz.f53 [S a,S b] (.tup [I (Jv a b (cmpI (valI a) (valI b))).1,I (Jv a b (cmpI (valI a) (valI b))).2]):=by
 unfold Jv
 (apply Br.mk<;>intro)
 ·rename_i h
  rw[if_pos h]
  (conv=>whnf)
  (repeat' first|exact trivial|rfl|apply And.intro)
 ·rename_i h
  rw[if_neg h]
  obtain ⟨ha,hb⟩:=jW h
  obtain ⟨fa,la⟩:=cP ha
  obtain ⟨fb,lb⟩:=cP hb
  refine Need.mk ⟨rfl,fa,fb⟩ ?_
  (apply Br.mk<;>intro)
  ·skip
   (conv=>whnf)
   (repeat' first|exact trivial|rfl|apply And.intro)
  ·have hv:=Qk a b
   refine Need.mk ⟨fa,by omega⟩ ?_
   refine Need.mk ⟨fb,by omega⟩ ?_
   (repeat'((conv=>whnf);first|refine Zl ?_|fail))
   refine Need.mk ⟨cA fa la,cA fb lb⟩ ?_
   have hc:=Va _ _ _ _ hv
   (repeat' first|refine ZG ?_|refine Zg fun _=>?_)
   (apply Br.mk<;>intro)
   ·rename_i h0
    rw[if_pos h0] at hc
    (conv=>whnf)
    (repeat' first|exact trivial|rfl|apply And.intro)
    exact hc.symm
   ·rename_i h0
    rw[if_neg h0] at hc
    (apply Br.mk<;>intro)
    ·rename_i h1
     rw[if_pos h1] at hc
     (conv=>whnf)
     (repeat' first|exact trivial|rfl|apply And.intro)
     exact hc.symm
    ·rename_i h1
     rw[if_neg h1] at hc
     (conv=>whnf)
     (repeat' first|exact trivial|rfl|apply And.intro)
     exact hc.symm
theorem w135 (a:Option Addr) (n c:Nat) (w:World):Calls Tryz.prog 182 #[.slice a n c] w fun e w'=>e= .returned (.func (.func 215) #[] #[.pointer (some ⟨w.heap.size,0,none⟩)])∧w'=w.alloc (.cells #[.slice a n c] 119):=by
 go_enter Tryz.func182,Tryz.ntmps182
 go_wp2
 go_ret
 exact ⟨rfl,rfl⟩
def Tz:Con:=wW 182 fun args H K=>match args with
 | [.ref nm k]=>(match hget H nm with
  | .vec j t xs e=>Need (j=k) <| K (.clo 215 [] [.lelem [.ref nm k] 0]) H
  | _=>False)
 | _=>False
theorem k135h:aF Tryz.prog Tz:=by
 refine pB (enters_of Tryz.func182 (by kernel_rfl) rfl) ?_
 intro args H K h
 split at h
 case h_2=>exact h.elim
 rename_i nm k
 split at h
 case h_2=>exact h.elim
 rename_i j t xs e ho
 obtain ⟨hjk,hK⟩:=h
 subst hjk
 refine ⟨fun s H'=>s= .clo 215 [] [.lelem [.ref nm j] 0]∧H'=H,fun s H' e=>by rw[e.1,e.2];exact hK,?_⟩
 intro G loc ver w vs hC hI hr
 cases hr with
 | cons _ v1 _ vs1 h1 hr=>
 cases hr
 obtain ⟨hv,_⟩:=gC hI h1 ho
 have hw:=w135 ((loc nm).blk.map fun p=>⟨p.1,p.2,none⟩) (loc nm).len (loc nm).cap w
 rw[show (Value.slice ((loc nm).blk.map fun p=>⟨p.1,p.2,none⟩) (loc nm).len (loc nm).cap)=v1 from hv.symm] at hw
 refine hw.mono ?_
 rintro en w' ⟨rfl,rfl⟩
 obtain ⟨hI',hx⟩:=hI.grow (w':=w.alloc (.cells #[v1] 119)) ((Below.refl _ _).alloc (Nat.le_refl _) _)
 refine ⟨_,rfl,_,_,_,_,⟨rfl,rfl⟩,hI',.clo _ _ _ _ _ .nil (.cons _ _ _ _ ?_ .nil),hx⟩
 refine .lelem _ 0 w.heap.size 0 [v1] (.cons _ _ _ _ (h1.ext hx) .nil) ?_ ?_
 ·refine ⟨.inr (.inr hI.size),by simp,?_⟩
  rintro ⟨k,o,hk,hb⟩
  have:=(hI.objs k _ hk).block (b:=w.heap.size) hb
  exact absurd this (by simp[envOf])
 ·intro i u hi
  cases i with
  | zero=>
   simp at hi;subst hi
   have:=cY w (.cells #[v1] 119)
   show (w.alloc (.cells #[v1] 119)).cell? ⟨w.heap.size,0+0,none⟩=some v1
   unfold World.cell?
   simp only[this]
   rfl
  | succ i=>simp at hi
abbrev itS (n k:Nat):List SV:=[I ((n-1-k:Nat)),.any]
theorem b166s (n:Nat):rP Tryz.prog [] { asks:=[(0,[])] } Tryz.f215 [.lelem [.sft none] 0] n (itS n):=by
 (repeat' first|refine ZG ?_|refine Zg fun _=>?_)
 refine Ask.mk ⟨{ X:=Nat,pre:=fun i=>i≤n,mod:=fun i _=>[(3,I ((n:Int)-1-i))],heap:=fun i _=>[.yst (some i) n (itS n)],mu:=fun i=>n-i },rfl,?_⟩
 (repeat refine ZG ?_)
 refine ⟨⟨(0:Nat),Nat.zero_le _,by (repeat' first|exact trivial|rfl|apply And.intro|omega)⟩,fun (i:Nat) (hi:i≤n)=>?_⟩
 (apply Br.mk<;>intro)
 ·have hlt:i<n:=by omega
  have e:((n:Int)-1-i)=((n-1-i:Nat):Int):=by omega
  (repeat refine ZG ?_)
  refine gH (n-1-i) (by omega) ?_
  (repeat'((conv=>whnf);first|refine Zn ?_|fail))
  refine Need.mk (by (repeat' first|exact trivial|rfl|apply And.intro);exact e) ?_
  refine Two.mk ?_ ?_
  ·(repeat refine ZG ?_)
   refine ⟨(i+1:Nat),by show n-(i+1)<n-i;omega,hlt,?_⟩
   (repeat' first|exact trivial|rfl|apply And.intro|omega)
  ·(conv=>whnf)
   trivial
 ·(conv=>whnf)
  omega
def Ps:Con:=aH 215 false fun args K=>match args with | [.lelem [.sft none] 0]=>∃n,K (.itr n (itS n)) | _=>False
theorem k166s:aF Tryz.prog Ps:=by
 refine kO Tryz.func215 fun args K h=>?_
 simp only[Ps] at h;split at h
 ·obtain ⟨n,hK⟩:=h
  exact ⟨_,hK,fD (by simp) Tryz.func215 (by simp[Tryz.ntmps215]) (b166s n)⟩
 ·exact h.elim
end RB
end
section
namespace IB
theorem Lj {B:Nat} (hB:2≤B) {w:List Int} (h:InB B w) {j k:Nat} (hk:2≤k) (hl:j+k<w.length) (hz:∀i,j+(k+1)≤i→w.getD i 0=0):
  valB B (w.drop j)<((w.getD (j+k) 0*B+w.getD (j+k-1) 0)*B+w.getD (j+k-2) 0+1)*(B:Int)^ (k-2):=by
 have e0:=eV (B:=B) (w.drop j) (k-2) (by rw[List.length_drop];omega)
 rw[List.drop_drop,show j+(k-2)=j+k-2 by omega] at e0
 have b0:=iG hB (kS (gN h j) (k-2)) (n:=k-2) (by rw[List.length_take];omega)
 rw[bE w (j+k-2) (by omega),show j+k-2+1=j+k-1 by omega,bE w (j+k-1) (by omega),show j+k-1+1=j+k by omega,bE w (j+k) hl] at e0
 have ez:valB B (w.drop (j+k+1))=0:=by
  have:w.drop (j+k+1)=List.replicate (w.length-(j+k+1)) 0:=by
   refine jT (by simp) fun i hi=>?_
   have:=hz (j+k+1+i) (by omega)
   rw[List.length_drop] at hi
   have hi':j+k+1+i<w.length:=by omega
   simpa [List.getD_eq_getElem?_getD,List.getElem?_drop,List.getElem?_replicate,hi,hi'] using this
  rw[this,jP]
 simp only[valB,ez,Int.mul_zero,Int.add_zero] at e0
 have hP:=dK hB (k-2)
 generalize (B:Int)^ (k-2)=P at*
 generalize w.getD (j+k) 0=x0 at*
 generalize w.getD (j+k-1) 0=x1 at*
 generalize w.getD (j+k-2) 0=x2 at*
 rw[e0,show ((x0*B+x1)*B+x2+1)*P=P*(x2+B*(x1+B*x0))+P by
  rw[Int.add_mul _ 1,Int.one_mul,Int.mul_comm _ P,Int.add_comm _ x2,Int.mul_comm _ (B:Int),Int.add_comm _ x1,Int.mul_comm x0]]
 omega
theorem Ro {B:Nat} (hB:2≤B) {v:List Int} (h:InB B v) (hk:2≤v.length):
  (v.getD (v.length-1) 0*B+v.getD (v.length-2) 0)*(B:Int)^ (v.length-2)≤valB B v:=by
 have e0:=eV (B:=B) v (v.length-2) (by omega)
 have b0:=aZ (kS h (v.length-2))
 rw[bE v (v.length-2) (by omega),show v.length-2+1=v.length-1 by omega,bE v (v.length-1) (by omega),List.drop_eq_nil_of_le (by omega)] at e0
 simp only[valB,Int.mul_zero,Int.add_zero] at e0
 rw[Int.mul_comm,Int.add_comm (v.getD (v.length-1) 0*(B:Int)),Int.mul_comm (v.getD (v.length-1) 0)]
 omega
theorem Gr {B:Nat} (hB:2≤B) {u v:List Int} (hu:InB B u) (hv:InB B v) (hV:0<valB B v) {m:Nat} (hm:m+v.length=u.length) (h0:valB B (u.drop m)<valB B v) (hk:2≤v.length) (hv1:0<v.getD (v.length-1) 0) (s:Nat) (hs:s<m) (f:Nat):
  (∀i,m-1-s+(v.length+1)≤i→(bH B u v m s).1.getD i 0=0)∧
  0≤valB B ((bH B u v m s).1.drop (m-1-s))/valB B v∧valB B ((bH B u v m s).1.drop (m-1-s))/valB B v<B∧
  (∀top,top=(bH B u v m s).1.getD (m-1-s+v.length) 0*B+(bH B u v m s).1.getD (m-1-s+v.length-1) 0→
   valB B ((bH B u v m s).1.drop (m-1-s))/valB B v≤estF B (v.getD (v.length-1) 0) (v.getD (v.length-2) 0) ((bH B u v m s).1.getD (m-1-s+v.length-2) 0) f (top/v.getD (v.length-1) 0) (top%v.getD (v.length-1) 0)∧
   estF B (v.getD (v.length-1) 0) (v.getD (v.length-2) 0) ((bH B u v m s).1.getD (m-1-s+v.length-2) 0) f (top/v.getD (v.length-1) 0) (top%v.getD (v.length-1) 0)≤top/v.getD (v.length-1) 0):=by
 obtain ⟨h1,h2,h3,h4,h5,h6⟩:=kT hB hu hv hV hm h0 s (by omega)
 obtain ⟨j,hj⟩:∃j,m-1-s=j:=⟨_,rfl⟩
 have e1:m-s=j+1:=by omega
 rw[hj]
 rw[e1] at h5
 generalize (bH B u v m s).1=w at h1 h2 h5 ⊢
 have hw:valB B (w.drop j)=w.getD j 0+(B:Int)*valB B (w.drop (j+1)):=by rw[bE w j (by omega)];rfl
 have g1:=h2.get (show j<w.length by omega)
 have hVB:=iX hv
 have hz:∀i,j+(v.length+1)≤i→w.getD i 0=0:=fun i hi=>by
  have:=xZ hB (gN h2 (j+1)) (n:=v.length) (by omega) (i-(j+1)) (by omega)
  rw[pW] at this
  rwa [show j+1+(i-(j+1))=i by omega] at this
 have hW0:=aZ (gN h2 j)
 have hWB:valB B (w.drop j)<(B:Int)*valB B v:=by
  have:(B:Int)*(valB B (w.drop (j+1))+1)≤B*valB B v:=Int.mul_le_mul_of_nonneg_left (by omega) (by omega)
  rw[Int.mul_add,Int.mul_one] at this
  omega
 have t3:=Lj hB h2 hk (by omega) hz
 have t2:=Ro hB hv hk
 obtain ⟨W,hW⟩:∃W,valB B (w.drop j)=W:=⟨_,rfl⟩
 rw[hW] at hWB hW0 t3 ⊢
 have hQ0:0≤W/valB B v:=Int.ediv_nonneg (by omega) (by omega)
 have hQV:W/valB B v*valB B v≤W:=Int.ediv_mul_le _ (by omega)
 have hQB:W/valB B v<B:=Int.ediv_lt_of_lt_mul hV hWB
 refine ⟨hz,hQ0,hQB,?_⟩
 rintro top rfl
 have hP:=dK hB (v.length-2)
 have x2:=h2.get (show j+v.length-2<w.length by omega)
 have hB':(0:Int)<B:=by omega
 have hPB:(0:Int)<B*(B:Int)^ (v.length-2):=Int.mul_pos hB' hP
 have w2:=hv.get (show v.length-2<v.length by omega)
 refine Jn hP (by omega) t2 (by omega) t3 hQB hQ0 hQV f _ _ ?_ ?_
 ·rw[Int.mul_comm (_/ _) _];exact (Int.mul_ediv_add_emod _ _).symm
 ·refine Lh (B:=(B:Int)) (P:=B*(B:Int)^ (v.length-2)) hPB hv1 ?_ ?_ hQ0 hQV
  ·refine Int.le_trans ?_ t2
   rw[← Int.mul_assoc]
   exact Int.mul_le_mul_of_nonneg_right (by omega) (Int.le_of_lt hP)
  ·refine Int.lt_of_lt_of_le t3 ?_
   rw[← Int.mul_assoc]
   refine Int.mul_le_mul_of_nonneg_right ?_ (Int.le_of_lt hP)
   rw[Int.add_mul _ 1,Int.one_mul];omega
theorem Gs {B:Nat} (hB:2≤B) {u v:List Int} (hu:InB B u) (hv:InB B v) (hk:1≤v.length) (hv1:0<v.getD (v.length-1) 0) {m:Nat} (hm:m+v.length=u.length) (hz:u.getD (u.length-1) 0=0):valB B (u.drop m)<valB B v∧0<valB B v:=by
 have e0:=eV (B:=B) v (v.length-1) (by omega)
 have b0:=aZ (kS hv (v.length-1))
 rw[bE v (v.length-1) (by omega),List.drop_eq_nil_of_le (by omega)] at e0
 simp only[valB,Int.mul_zero,Int.add_zero] at e0
 have hP:=dK hB (v.length-1)
 have h1:(B:Int)^ (v.length-1)*1≤(B:Int)^ (v.length-1)*v.getD (v.length-1) 0:=Int.mul_le_mul_of_nonneg_left (by omega) (by omega)
 have h2:valB B (u.drop m)<(B:Int)^ (v.length-1):=Jm hB (gN hu m) fun i hi=>by
  rw[pW]
  by_cases hi2:m+i<u.length
  ·rw[show m+i=u.length-1 by omega];exact hz
  ·exact pV _ _ (by omega)
 omega
end IB
end
section
namespace IB
theorem yA {B:Nat} (hB:2≤B) {n k:Nat} (hk:1≤k) (h1:B^ (k-1)≤n) (h2:n<B^k):
  (aD B n).length=k∧(aD B n).getD (k-1) 0*(B:Int)^ (k-1)≤n∧(n:Int)<((aD B n).getD (k-1) 0+1)*(B:Int)^ (k-1):=by
 have hp:0<B^ (k-1):=Nat.pow_pos (by omega)
 obtain ⟨g1,g2,g3⟩:=dP hB (n:=n) (by omega)
 have g1:B^ ((aD B n).length-1)≤n:=by exact_mod_cast g1
 have g2:n<B^ (aD B n).length:=by exact_mod_cast g2
 have a1:=(Nat.pow_lt_pow_iff_right (show 1<B by omega)).1 (Nat.lt_of_le_of_lt g1 h2)
 have a2:=(Nat.pow_lt_pow_iff_right (show 1<B by omega)).1 (Nat.lt_of_le_of_lt h1 g2)
 have hl:(aD B n).length=k:=by omega
 have hi:=bD hB n
 have e0:=eV (B:=B) (aD B n) (k-1) (by omega)
 have b0:=aZ (kS hi (k-1))
 have b1:=iG hB (kS hi (k-1)) (n:=k-1) (by rw[List.length_take];omega)
 rw[bE _ (k-1) (by omega),List.drop_eq_nil_of_le (by omega),dB hB] at e0
 simp only[valB,Int.mul_zero,Int.add_zero] at e0
 refine ⟨hl,?_,?_⟩
 ·rw[Int.mul_comm];omega
 ·rw[Int.add_mul,Int.one_mul,Int.mul_comm];omega
theorem scale {B:Nat} (hB:2≤B) {n:Nat} (hn:0<n) {f:Nat} (hf:(f:Int)=(B:Int)/((aD B n).getD ((aD B n).length-1) 0+1)):
  0<f∧f<B∧(aD B (n*f)).length=(aD B n).length∧(B:Int)≤4*(aD B (n*f)).getD ((aD B (n*f)).length-1) 0:=by
 obtain ⟨g1,g2,g3⟩:=dP hB hn
 have g1:B^ ((aD B n).length-1)≤n:=by exact_mod_cast g1
 have g2:n<B^ (aD B n).length:=by exact_mod_cast g2
 obtain ⟨k,hk⟩:∃k,(aD B n).length=k:=⟨_,rfl⟩
 rw[hk] at g1 g2 g3 hf ⊢
 obtain ⟨_,t1,t2⟩:=yA hB g3 g1 g2
 have ht:=(bD hB n).get (show k-1<(aD B n).length by omega)
 have ht1:(aD B n).getD (k-1) 0≠0:=by
  have hne:aD B n≠ []:=by rw[← List.length_pos_iff];omega
  have:=oJ hB n hne
  rw[List.getLast_eq_getElem] at this
  rw[List.getD_eq_getElem?_getD,List.getElem?_eq_getElem (by omega),Option.getD_some]
  simpa [hk] using this
 obtain ⟨t,ht'⟩:∃t:Nat,(aD B n).getD (k-1) 0=t:=⟨_,(Int.eq_ofNat_of_zero_le ht.1).choose_spec⟩
 rw[ht'] at hf t1 t2 ht ht1
 obtain ⟨f1,f2,f3⟩:=Gq (B:=(B:Int)) (t:=(t:Int)) (f:=(f:Int)) (by omega) ht.2 hf
 have f2:f*(t+1)≤B:=by exact_mod_cast f2
 have f3:B≤4*(f*t):=by exact_mod_cast f3
 have t1:t*B^ (k-1)≤n:=by exact_mod_cast t1
 have t2:n<(t+1)*B^ (k-1):=by exact_mod_cast t2
 have hf0:0<f:=by omega
 have u1:f*t*B^ (k-1)≤n*f:=by
  rw[Nat.mul_assoc,Nat.mul_comm n f];exact Nat.mul_le_mul_left f t1
 have u2:n*f<f*(t+1)*B^ (k-1):=by
  rw[Nat.mul_assoc,Nat.mul_comm n f];exact Nat.mul_lt_mul_of_pos_left t2 hf0
 have u3:f*(t+1)*B^ (k-1)≤B^k:=by
  rw[show B^k=B*B^ (k-1) by rw[← Nat.pow_succ'];congr 1;omega]
  exact Nat.mul_le_mul_right _ f2
 have hft:1≤f*t:=Nat.mul_pos hf0 (by omega)
 have u4:B^ (k-1)≤n*f:=Nat.le_trans (by rw[← Nat.one_mul (B^ (k-1)),← Nat.mul_assoc,Nat.mul_one];exact Nat.mul_le_mul_right _ hft) u1
 obtain ⟨v1,v2,v3⟩:=yA hB g3 u4 (Nat.lt_of_lt_of_le u2 u3)
 have hfB:f<B:=by
  have:f*2≤f*(t+1):=Nat.mul_le_mul_left f (by omega)
  omega
 refine ⟨hf0,hfB,v1,?_⟩
 rw[v1]
 have hp:(0:Int)<(B:Int)^ (k-1):=dK hB (k-1)
 have u1':(f:Int)*t*(B:Int)^ (k-1)≤((n*f:Nat):Int):=by exact_mod_cast u1
 have:(f:Int)*t<(aD B (n*f)).getD (k-1) 0+1:=Int.lt_of_mul_lt_mul_right (Int.lt_of_le_of_lt u1' v3) (Int.le_of_lt hp)
 have f3':(B:Int)≤4*((f:Int)*t):=by exact_mod_cast f3
 omega
theorem Lk {B:Nat} (hB:2≤B) (n k:Nat):InB B (aD B n++List.replicate k 0)∧valB B (aD B n++List.replicate k 0)=n∧(0<k→(aD B n++List.replicate k 0).getD ((aD B n++List.replicate k 0).length-1) 0=0):=by
 refine ⟨InB.append.2 ⟨bD hB n,fun x hx=>?_⟩,?_,fun hk=>?_⟩
 ·rw[(List.mem_replicate.1 hx).2];omega
 ·rw[eC,jP,Int.mul_zero,Int.add_zero,dB hB]
 ·rw[List.getD_eq_getElem?_getD,List.getElem?_append_right (by simp;omega)]
  simp[List.getElem?_replicate]
  split<;>rfl
theorem Ll {B:Nat} (hB:2≤B) {m f:Nat} (hf:f<B):(aD B (m*f)).length≤(aD B m).length+1:=by
 rcases Nat.eq_zero_or_pos m with rfl | hm
 ·rw[Nat.zero_mul,bG];exact Nat.zero_le _
 ·rcases Nat.eq_zero_or_pos f with rfl | hf0
  ·rw[Nat.mul_zero,bG];exact Nat.zero_le _
  ·obtain ⟨g1,g2,g3⟩:=dP hB hm
   have g2:m<B^ (aD B m).length:=by exact_mod_cast g2
   obtain ⟨q1,_,_⟩:=dP hB (n:=m*f) (Nat.mul_pos hm hf0)
   have q1:B^ ((aD B (m*f)).length-1)≤m*f:=by exact_mod_cast q1
   have:m*f<B^ ((aD B m).length+1):=by
    rw[Nat.pow_succ];exact Nat.mul_lt_mul'' g2 hf
   have:=(Nat.pow_lt_pow_iff_right (show 1<B by omega)).1 (Nat.lt_of_le_of_lt q1 this)
   omega
end IB
end

/-
  Part 5: a symbolic executor over the model, contracts of functions and plain laws.
-/
import Derived.Test.YtjjnphkdhdjcbaaGreatDoorP4
import Derived.Test.YtjjnphkdhdjcbaaGreatDoorProg
import Derived.Shelf.Abstract
import Derived.Shelf.Strconv.Itoa3
import Derived.Shelf.Strconv.AtoiAll
import Derived.Shelf.Strings.Repeat
import Derived.Shelf.Strings.SlTrimAscii
import Derived.Shelf.Strings.Search3
import Derived.Shelf.Strings.Builder1
import Derived.Lib.SmallJoins
import Derived.Lib.AtoiAllCases
import Derived.Lib.AppendIntMem
import Derived.Lib.Bytealg
set_option linter.unusedVariables false
set_option linter.unusedSimpArgs false
set_option maxRecDepth 10000
set_option maxHeartbeats 80000000
section
namespace IB
open Go.Lib
def numS (q:Rat):List UInt8:=if q.den=1 then itoa q.num else itoa q.num++47::decDigits q.den
def topS (s:List UInt8):List UInt8:=s.takeWhile (· != 47)
def botS (s:List UInt8):List UInt8:=s.dropWhile (· != 47)
theorem Pl (n:Int):∀c∈itoa n,c≠47:=by
 intro c hc e
 subst e
 have key:∀m:Nat,(47:UInt8) ∉ decDigits m:=fun m h=>by
  have:=iK m 47 h
  have e2:(47:UInt8).toNat=47:=rfl
  unfold aR at this
  omega
 unfold itoa at hc
 split at hc
 ·rcases List.mem_cons.1 hc with h | h
  ·cases h
  ·exact key _ h
 ·exact key _ hc
theorem qO {p:UInt8→Bool} {a b:List UInt8} (h:∀c∈a,p c=true):(a++b).takeWhile p=a++b.takeWhile p:=by
 induction a with
 | nil=>rfl
 | cons x r ih=>
  rw[List.cons_append,List.takeWhile_cons_of_pos (h x (by simp)),ih fun c hc=>h c (List.mem_cons_of_mem _ hc)];rfl
theorem qP {p:UInt8→Bool} {a b:List UInt8} (h:∀c∈a,p c=true):(a++b).dropWhile p=b.dropWhile p:=by
 induction a with
 | nil=>rfl
 | cons x r ih=>
  rw[List.cons_append,List.dropWhile_cons_of_pos (h x (by simp)),ih fun c hc=>h c (List.mem_cons_of_mem _ hc)]
theorem gG (q:Rat):topS (numS q)=itoa q.num:=by
 have hno:∀c∈itoa q.num,(c != 47)=true:=fun c hc=>by simpa using Pl _ c hc
 unfold topS numS
 split
 ·have:=qO (b:=[]) hno;simpa using this
 ·rw[qO hno,List.takeWhile_cons_of_neg (by simp)];simp
theorem kC (q:Rat):botS (numS q)=if q.den=1 then [] else 47::decDigits q.den:=by
 have hno:∀c∈itoa q.num,(c != 47)=true:=fun c hc=>by simpa using Pl _ c hc
 unfold botS numS
 split
 ·have:=qP (b:=[]) hno;simpa using this
 ·rw[qP hno,List.dropWhile_cons_of_neg (by simp)]
def denS (s:List UInt8):Nat:=if botS s= [] then 1 else aF (botS s).tail
noncomputable def valQ (s:List UInt8):Rat:=mkRat (valI (topS s)) (denS s)
def jA (s:List UInt8):Prop:=form (topS s)∧(botS s= []∨((botS s).tail=decDigits (denS s)∧2≤denS s))
theorem sQ (q:Rat):denS (numS q)=q.den:=by
 unfold denS
 rw[kC]
 by_cases h:q.den=1
 ·rw[if_pos h,if_pos rfl,h]
 ·rw[if_neg h,if_neg (by simp),List.tail_cons,cV]
theorem cU (q:Rat):valQ (numS q)=q:=by
 unfold valQ
 rw[gG,aV,sQ,Rat.mkRat_self]
theorem Vk {p q:Rat} (h:numS p=numS q):p=q:=by rw[← cU p,h,cU]
theorem rF (q:Rat):jA (numS q):=by
 refine ⟨by rw[gG];exact eZ _,?_⟩
 rw[kC,sQ]
 by_cases h:q.den=1
 ·left;rw[if_pos h]
 ·right;rw[if_neg h]
  have:=q.den_nz
  exact ⟨rfl,by omega⟩
theorem Fp (q:Rat):(valI (topS (numS q))).natAbs.gcd (denS (numS q))=1:=by
 rw[gG,aV,sQ];exact q.reduced
theorem Pm {s:List UInt8} (h:jA s) (hg:(valI (topS s)).natAbs.gcd (denS s)=1):s=numS (valQ s):=by
 obtain ⟨h1,h2⟩:=h
 have hs:topS s++botS s=s:=List.takeWhile_append_dropWhile
 have hd0:denS s≠0:=by
  rcases h2 with h | ⟨_,h⟩
  ·unfold denS;rw[if_pos h];decide
  ·omega
 have hq:valQ s= ⟨valI (topS s),denS s,hd0,hg⟩:=by unfold valQ;rw[← Rat.mk_eq_mkRat]
 have e1:(valQ s).num=valI (topS s):=by rw[hq]
 have e2:(valQ s).den=denS s:=by rw[hq]
 unfold numS
 rw[e1,e2,← pR h1]
 rcases h2 with h | ⟨h3,h4⟩
 ·have:denS s=1:=by unfold denS;rw[if_pos h]
  rw[if_pos this]
  rw[h,List.append_nil] at hs
  exact hs.symm
 ·rw[if_neg (by omega),← h3]
  have hb:botS s=47::(botS s).tail:=by
   cases hb:botS s with
   | nil=>
    have:denS s=1:=by unfold denS;rw[if_pos hb]
    omega
   | cons x r=>
    have hx:x=47:=by
     have hd:=List.head?_dropWhile_not (p:=(· != (47:UInt8))) (l:=s)
     have hb':s.dropWhile (· != 47)=x::r:=hb
     rw[hb'] at hd
     simpa using hd
    subst hx;rfl
  rw[← hb,hs]
end IB
end
section
namespace IB
open Go.Lib
theorem Pn (n:Int) (d:Nat) (hd:d≠0):numS (mkRat n d)=if d/d.gcd n.natAbs=1 then itoa (n/(d.gcd n.natAbs:Nat)) else itoa (n/(d.gcd n.natAbs:Nat))++47::decDigits (d/d.gcd n.natAbs):=by
 unfold numS
 rw[Rat.num_mkRat,Rat.den_mkRat,if_neg hd,if_neg hd]
theorem Cl (p q:Rat):p+q=mkRat (p.num*q.den+q.num*p.den) (p.den*q.den):=Rat.add_def' p q
theorem pS (p q:Rat):p-q=mkRat (p.num*q.den-q.num*p.den) (p.den*q.den):=Rat.sub_def' p q
theorem uD (p q:Rat):p*q=mkRat (p.num*q.num) (p.den*q.den):=Rat.mul_def' p q
theorem rG (n:Int) (d:Int) (hd:d<0):Rat.divInt n d=mkRat (-n) (-d).toNat:=by
 rw[← Rat.neg_divInt_neg]
 have: -d=((-d).toNat:Int):=by omega
 rw[this]
 exact Rat.divInt_ofNat _ _
theorem eH (n:Int) (d:Int) (hd:0<d):Rat.divInt n d=mkRat n d.toNat:=by
 have:d=(d.toNat:Int):=by omega
 conv=>lhs;rw[this]
 exact Rat.divInt_ofNat _ _
theorem Cm (p q:Rat) (hq:q≠0):p/q=Rat.divInt (p.num*q.den) (p.den*q.num):=by
 rw[Rat.div_def,Rat.inv_def]
 conv=>lhs;lhs;rw[← Rat.num_divInt_den p]
 rw[Rat.divInt_mul_divInt]
end IB
end
section
namespace IB
open Go.Lib
def sgn (b:Bool) (m:Nat):Int:=if b then -(m:Int) else m
def wrM (b:Bool) (m:Nat):List UInt8:=if m=0 then [48] else if b then 45::decDigits m else decDigits m
theorem aC7 (b:Bool) (m:Nat):wrM b m=itoa (sgn b m):=by
 unfold wrM sgn itoa
 by_cases h:m=0
 ·subst h
  rw[if_pos rfl]
  cases b<;>exact (bQ (show 0<10 by omega)).symm
 ·rw[if_neg h]
  cases b
  ·show decDigits m=if (m:Int)<0 then 45::decDigits (m:Int).natAbs else decDigits (m:Int).toNat
   rw[if_neg (by omega),Int.toNat_natCast]
  ·show 45::decDigits m=if -(m:Int)<0 then 45::decDigits (-(m:Int)).natAbs else decDigits (-(m:Int)).toNat
   rw[if_pos (by omega),show (-(m:Int)).natAbs=m by omega]
theorem Ry (x y:Int) (hy:y≠0):(if x.tmod y≠0∧¬(x.tmod y<0↔y<0) then (x.tdiv y-1,x.tmod y+y) else (x.tdiv y,x.tmod y))=(x.fdiv y,x.fmod y):=by
 have h1:=Int.tmod_add_mul_tdiv x y
 have hlt:(x.tmod y).natAbs<y.natAbs:=by rw[Int.natAbs_tmod];exact Nat.mod_lt _ (by omega)
 rcases Int.lt_or_gt_of_ne hy with hn | hp
 ·split
  ·rename_i h
   have:=(Int.fdiv_fmod_unique' (a:=x) (r:=x.tmod y+y) (q:=x.tdiv y-1) hn).2 ⟨by rw[Int.mul_sub,Int.mul_one];omega,by omega,by omega⟩
   rw[this.1,this.2]
  ·rename_i h
   have:=(Int.fdiv_fmod_unique' (a:=x) (r:=x.tmod y) (q:=x.tdiv y) hn).2 ⟨h1,by omega,by omega⟩
   rw[this.1,this.2]
 ·split
  ·rename_i h
   have:=(Int.fdiv_fmod_unique (a:=x) (r:=x.tmod y+y) (q:=x.tdiv y-1) hp).2 ⟨by rw[Int.mul_sub,Int.mul_one];omega,by omega,by omega⟩
   rw[this.1,this.2]
  ·rename_i h
   have:=(Int.fdiv_fmod_unique (a:=x) (r:=x.tmod y) (q:=x.tdiv y) hp).2 ⟨h1,by omega,by omega⟩
   rw[this.1,this.2]
theorem aAi (b:Bool) (m:Nat) (c:Bool) (n:Nat) (hn:0<n):
  (sgn (b != c) (if b≠c∧0<m%n then m/n+1 else m/n),sgn c (if b≠c∧0<m%n then n-m%n else m%n))=((sgn b m).fdiv (sgn c n),(sgn b m).fmod (sgn c n)):=by
 have h1:=Nat.mod_add_div m n
 have h2:=Nat.mod_lt m hn
 have h1':((m%n:Nat):Int)+(n:Int)*((m/n:Nat):Int)=m:=by exact_mod_cast h1
 generalize m%n=r at h1 h1' h2 ⊢
 generalize m/n=q at h1 h1' ⊢
 cases b<;>cases c<;>simp only[sgn,bne_self_eq_false,Bool.false_eq_true,if_false,if_true,ne_eq,not_true_eq_false,false_and,reduceCtorEq,not_false_eq_true,true_and,Bool.bne_true,Bool.bne_false,Bool.not_false]
 ·have:=(Int.fdiv_fmod_unique (a:=(m:Int)) (b:=(n:Int)) (r:=(r:Int)) (q:=(q:Int)) (by omega)).2 ⟨h1',by omega,by omega⟩
  rw[this.1,this.2]
 ·by_cases h:0<r
  ·have:=(Int.fdiv_fmod_unique' (a:=(m:Int)) (b:= -(n:Int)) (r:= -((n-r:Nat):Int)) (q:= -((q+1:Nat):Int)) (by omega)).2 ⟨by rw[Int.neg_mul_neg];simp only[Int.natCast_add,Int.mul_add];omega,by omega,by omega⟩
   rw[if_pos h,if_pos h,this.1,this.2]
  ·have:=(Int.fdiv_fmod_unique' (a:=(m:Int)) (b:= -(n:Int)) (r:= -(r:Int)) (q:= -(q:Int)) (by omega)).2 ⟨by rw[Int.neg_mul_neg];omega,by omega,by omega⟩
   rw[if_neg h,if_neg h,this.1,this.2]
 ·by_cases h:0<r
  ·have:=(Int.fdiv_fmod_unique (a:= -(m:Int)) (b:=(n:Int)) (r:=((n-r:Nat):Int)) (q:= -((q+1:Nat):Int)) (by omega)).2 ⟨by rw[Int.mul_neg];simp only[Int.natCast_add,Int.mul_add];omega,by omega,by omega⟩
   rw[if_pos h,if_pos h,this.1,this.2]
  ·have:=(Int.fdiv_fmod_unique (a:= -(m:Int)) (b:=(n:Int)) (r:=(r:Int)) (q:= -(q:Int)) (by omega)).2 ⟨by rw[Int.mul_neg];omega,by omega,by omega⟩
   rw[if_neg h,if_neg h,this.1,this.2]
 ·have:=(Int.fdiv_fmod_unique' (a:= -(m:Int)) (b:= -(n:Int)) (r:= -(r:Int)) (q:=(q:Int)) (by omega)).2 ⟨by rw[Int.neg_mul];omega,by omega,by omega⟩
  rw[this.1,this.2]
end IB
end
section
namespace IB
open Go.Lib
noncomputable instance (s:List UInt8):Decidable (jA s):=Classical.propDecidable _
noncomputable def chkQ (s:List UInt8):Int:=if jA s then (if 300<(digs (topS s)).length∨300<(botS s).tail.length then 4 else if (valI (topS s)).natAbs.gcd (denS s)=1 then 0 else 11) else 11
theorem Fq {s:List UInt8} (h:chkQ s=0):s=numS (valQ s)∧(digs (topS s)).length≤300∧(botS s).tail.length≤300:=by
 unfold chkQ at h
 split at h
 ·rename_i hf
  split at h
  ·cases h
  ·rename_i hl
   split at h
   ·rename_i hg
    exact ⟨Pm hf hg,by omega,by omega⟩
   ·cases h
 ·cases h
def lim (n:Int):Bool:=decide (300<(decDigits n.natAbs).length)
noncomputable def cS (a b:List UInt8) (f:Rat→Rat→List UInt8 × Int):List UInt8 × Int:=if chkQ a≠0 then ([],chkQ a) else if chkQ b≠0 then ([],chkQ b) else f (valQ a) (valQ b)
noncomputable def addQ (a b:List UInt8):List UInt8 × Int:=cS a b fun p q=>if lim (p.num*q.den) || lim (q.num*p.den) || lim (p.num*q.den+q.num*p.den) || lim (p.den*q.den) then ([],4) else (numS (p+q),0)
noncomputable def subQ (a b:List UInt8):List UInt8 × Int:=cS a b fun p q=>if lim (p.num*q.den) || lim (q.num*p.den) || lim (p.num*q.den-q.num*p.den) || lim (p.den*q.den) then ([],4) else (numS (p-q),0)
noncomputable def mulQ (a b:List UInt8):List UInt8 × Int:=cS a b fun p q=>if lim (p.num*q.num) || lim (p.den*q.den) then ([],4) else (numS (p*q),0)
noncomputable def divQ (a b:List UInt8):List UInt8 × Int:=cS a b fun p q=>if q=0 then ([],12) else if lim (p.num*q.den) || lim (q.num*p.den) then ([],4) else (numS (p/q),0)
end IB
end
section
open Go Go.Proofs Go.Eng Go.Shelf IB
namespace RB
abbrev I (n:Int):SV:=.val (.int .i64 n)
abbrev Ls (xs:List Int):SV:=.seq (.int .i64) xs
abbrev S (s:List UInt8):SV:=.str s
abbrev B9:Nat:=1000000000
theorem cG {n:Int} {C:Nat→Prop} (j:Nat) (e:n=(j:Int)) (h:C j):Ix n C:=by
 refine ⟨fun i e'=>?_⟩
 have:j=i:=by omega
 subst this;exact h
theorem get9 {l:List Int} (h:InB B9 l) (i:Nat):0≤l.getD i 0∧l.getD i 0<1000000000:=h.getD0 (by decide) i
theorem lW (xs:List Int) (k:Nat) (h:k<xs.length):xs.take (k+1)=xs.take k++ [xs.getD k 0]:=by
 rw[List.take_succ_eq_append_getElem h]
 simp[List.getD_eq_getElem?_getD,h]
theorem pW (xs:List Int) (k i:Nat) (h:i<k):(xs.take k).getD i 0=xs.getD i 0:=by
 simp[List.getD_eq_getElem?_getD,List.getElem?_take,h]
abbrev V (xs:List Int):HO:=.vec 1 (.int .i64) xs 3
theorem b131 (xs:List Int):Bl Tryz.prog [] { asks:=[(0,[0])] } Tryz.f159 0 false [.any] (.int .i64) xs 3 (.ref 0 1) (bU xs):=by
 refine Ask.mk ⟨{ X:=Nat,pre:=fun i=>i≤xs.length∧bU (xs.take i)=bU xs,mod:=fun i _=>[(0,.ref 0 1)],heap:=fun i _=>[V (xs.take i),V []],mu:=fun i=>i,objs:=[0] },rfl,?_⟩
 (repeat refine ZG ?_)
 refine ⟨⟨xs.length,⟨Nat.le_refl _,by rw[List.take_length]⟩,?_⟩,fun (i:Nat) hi=>?_⟩
 ·(repeat' first|exact trivial|rfl|exact Nat.one_pos|apply And.intro)
  exact (List.take_length).symm
 ·obtain ⟨hi1,hi2⟩:=hi
  have hl:(xs.take i).length=i:=by rw[List.length_take];omega
  (repeat'((conv=>whnf);first|refine Zg fun _=>?_|fail))
  (apply Br.mk<;>intro)
  ·rename_i h1
   have h0:0<i:=by omega
   obtain ⟨k,rfl⟩:∃k,i=k+1:=⟨i-1,by omega⟩
   (repeat' first|refine ZN ?_|refine Zg fun _=>?_)
   refine cG k (by omega) ?_
   (repeat'((conv=>whnf);first|refine Zg fun _=>?_|fail))
   (apply Br.mk<;>intro)
   ·rename_i hz
    rw[pW _ _ _ (by omega)] at hz
    (repeat' first|refine ZN ?_|refine Zg fun _=>?_)
    refine Own.l (Own.r ?_)
    (repeat refine ZN ?_)
    refine cG k (by omega) ?_
    refine ⟨(k:Nat),by show k<k+1;omega,⟨by omega,?_⟩,?_⟩
    ·rw[← hi2,lW _ _ (by omega),hz,dJ]
    ·(repeat' first|exact trivial|rfl|exact Nat.one_pos|apply And.intro)
     rw[List.take_take];congr 1;omega
   ·rename_i hz
    rw[pW _ _ _ (by omega)] at hz
    (conv=>whnf)
    (repeat' first|rfl|apply And.intro)
    rw[← hi2,lW _ _ (by omega)]
    exact (jL _ _ hz).symm
  ·have:i=0:=by omega
   subst this
   (conv=>whnf)
   (repeat' first|rfl|apply And.intro)
   rw[← hi2];rfl
theorem b131s (xs:List Int):body Tryz.prog [] { asks:=[(0,[])] } false Tryz.f159 [Ls xs] (Ls (bU xs)):=by
 refine Ask.mk ⟨{ X:=Nat,pre:=fun i=>i≤xs.length∧bU (xs.take i)=bU xs,mod:=fun i _=>[(0,Ls (xs.take i))],heap:=fun i _=>[V []],mu:=fun i=>i },rfl,?_⟩
 (repeat refine ZG ?_)
 refine ⟨⟨xs.length,⟨Nat.le_refl _,by rw[List.take_length]⟩,?_⟩,fun (i:Nat) hi=>?_⟩
 ·(repeat' first|exact trivial|rfl|apply And.intro)
  exact (List.take_length).symm
 ·obtain ⟨hi1,hi2⟩:=hi
  have hl:(xs.take i).length=i:=by rw[List.length_take];omega
  (repeat'((conv=>whnf);first|refine Zg fun _=>?_|fail))
  (apply Br.mk<;>intro)
  ·rename_i h1
   have h0:0<i:=by omega
   obtain ⟨k,rfl⟩:∃k,i=k+1:=⟨i-1,by omega⟩
   (repeat' first|refine ZG ?_|refine Zg fun _=>?_)
   refine cG k (by omega) ?_
   (repeat'((conv=>whnf);first|refine Zg fun _=>?_|fail))
   (apply Br.mk<;>intro)
   ·rename_i hz
    rw[pW _ _ _ (by omega)] at hz
    (repeat' first|refine ZG ?_|refine Zg fun _=>?_)
    refine cG k (by omega) ?_
    refine ⟨(k:Nat),by show k<k+1;omega,⟨by omega,?_⟩,?_⟩
    ·rw[← hi2,lW _ _ (by omega),hz,dJ]
    ·(repeat' first|exact trivial|rfl|apply And.intro)
     rw[List.take_take];congr 1;omega
   ·rename_i hz
    rw[pW _ _ _ (by omega)] at hz
    (conv=>whnf)
    rw[← hi2,lW _ _ (by omega)]
    exact (jL _ _ hz).symm
  ·have:i=0:=by omega
   subst this
   (conv=>whnf)
   rw[← hi2];rfl
def c131:Con:=Sx 159 false 0 false (fun args o K=>match args,o with | [.any],.vec 1 (.int .i64) xs 3=>K (.ref 0 1) (.vec 1 (.int .i64) (bU xs) 3) | _,_=>False)
 (fun args K=>match args with | [.seq (.int .i64) xs]=>K (Ls (bU xs)) | _=>False)
theorem k131:aD Tryz.prog c131:=by
 refine Ug (enters_of Tryz.func159 (by kernel_rfl) rfl) ?_ ?_
 ·intro args t xs e K hfl h
  split at h
  ·rename_i zs heq
   cases heq
   first | exact ⟨_,_,h,dE (by simp) Tryz.func159 (by simp[Tryz.ntmps159]) rfl (b131 zs)⟩ | exact ⟨_,_,h,dE (by simp) Tryz.func159 (by simp[Tryz.ntmps159]) rfl (b131 xs)⟩
  ·exact h.elim
 ·intro args K h
  split at h
  ·rename_i xs
   exact ⟨_,h,triB Tryz.func159 Tryz.ntmps159 (by simp) (b131s xs)⟩
  ·exact h.elim
theorem b132 (l:List Int) (i:Int) (h:0≤i):body Tryz.prog [] {} true Tryz.f186 [Ls l,I i] (I (l.getD i.toNat 0)):=by
 (repeat'((conv=>whnf);first|refine Zg fun _=>?_|fail))
 (apply Br.mk<;>intro)
 ·(repeat refine ZG ?_)
  refine cG i.toNat (by omega) ?_
  (repeat'((conv=>whnf);first|refine Zg fun _=>?_|fail))
  (conv=>whnf)
  (repeat' first|rfl|apply And.intro)
 ·rename_i h1
  have:l.getD i.toNat 0=0:=dT _ _ (by omega)
  (conv=>whnf)
  rw[this]
  (repeat' first|rfl|apply And.intro)
def c132:Con:=aI 186 true fun args K=>match args with | [.seq (.int .i64) l,.val (.int .i64 i)]=>Need (0≤i) (Ix i fun j=>K (I (l.getD j 0))) | _=>False
theorem k132:aD Tryz.prog c132:=by
 refine kO Tryz.func186 fun args K h=>?_
 simp only[c132] at h;split at h
 ·rename_i l i
  exact ⟨_,h.go.use h.ok,triB Tryz.func186 Tryz.ntmps186 (by simp) (b132 l i h.ok)⟩
 ·exact h.elim
def c108:Con:=aI 150 true fun args K=>match args with | [.val (.int .i64 x),.val (.int .i64 y),.val (.int .i64 c)]=>Need ((0≤x∧x<1000000000)∧(0≤y∧y<1000000000)∧(0≤c∧c≤1)) (K (.tup [I ((x+y+c)%1000000000),I ((x+y+c)/1000000000)])) | _=>False
theorem k108:aD Tryz.prog c108:=by
 refine kQ {} Tryz.func150 Tryz.ntmps150 kn fun _ _ h=>?_
 split at h
 case h_2=>exact h.elim
 refine kb h.go ?_
 replace h:=h.ok
 (repeat refine ZG ?_)
 (conv=>whnf)
 (repeat' first|exact trivial|rfl|apply And.intro)
abbrev mn (x y c:Int):Int:=if 0≤x-y-c then x-y-c else x-y-c+1000000000
abbrev mc (x y c:Int):Int:=if 0≤x-y-c then 0 else 1
def c109:Con:=aI 151 true fun args K=>match args with | [.val (.int .i64 x),.val (.int .i64 y),.val (.int .i64 c)]=>Need ((0≤x∧x<1000000000)∧(0≤y∧y<1000000000)∧(0≤c∧c≤1)) (K (.tup [I (mn x y c),I (mc x y c)])) | _=>False
theorem k109:aD Tryz.prog c109:=by
 refine kQ {} Tryz.func151 Tryz.ntmps151 kn fun _ _ h=>?_
 split at h
 case h_2=>exact h.elim
 refine kb h.go ?_
 replace h:=h.ok
 unfold mn mc
 (repeat refine ZG ?_)
 (apply Br.mk<;>intro)
 ·rename_i hb
  (conv=>whnf)
  rw[if_pos hb,if_pos hb]
  (repeat' first|exact trivial|rfl|apply And.intro)
 ·rename_i hb
  (repeat refine ZG ?_)
  (conv=>whnf)
  rw[if_neg hb,if_neg hb]
  (repeat' first|exact trivial|rfl|apply And.intro)
theorem b107p (a b:List Int) (h:InB B9 a∧InB B9 b∧a.length≤100000∧b.length≤100000):body Tryz.prog [c132,c108,c131] { asks:=[(0,[1])] } true Tryz.f149 [Ls a,Ls b,.clo 150 [] []] (Ls (aA B9 (valB B9 a+valB B9 b).toNat)):=by
 obtain ⟨ha,hb,hla,hlb⟩:=h
 (repeat' first|refine ZG ?_|refine Zg fun _=>?_)
 refine Ask.mk ⟨{ X:=Nat,pre:=fun i=>i≤max a.length b.length+1,mod:=fun i _=>[(7,.ref 1 1),(8,I (addK B9 a b i).2),(18,I i)],heap:=fun i _=>[V [],V (addK B9 a b i).1],mu:=fun i=>max a.length b.length+1-i,objs:=[1] },rfl,?_⟩
 (repeat refine ZG ?_)
 refine ⟨⟨(0:Nat),Nat.zero_le _,by (repeat' first|exact trivial|rfl|exact Nat.one_pos|apply And.intro)⟩,fun (i:Nat) (hi:i≤max a.length b.length+1)=>?_⟩
 obtain ⟨g1,g2,g3,_⟩:=jN (B:=B9) (by decide) ha hb i
 have ga:=get9 ha i
 have gb:=get9 hb i
 (apply Br.mk<;>intro)
 ·have hlt:i<max a.length b.length+1:=by omega
  (repeat refine ZG ?_)
  refine ⟨(i+1:Nat),by show max a.length b.length+1-(i+1)<max a.length b.length+1-i;omega,hlt,?_⟩
  (repeat' first|exact trivial|rfl|exact Nat.one_pos|apply And.intro)
 ·have e:i=max a.length b.length+1:=by omega
  subst e
  (conv=>whnf)
  rw[← Vl (B:=B9) (by decide) ha hb (Nat.le_max_left _ _) (Nat.le_max_right _ _)]
theorem b107m (a b:List Int) (h:InB B9 a∧InB B9 b∧valB B9 b≤valB B9 a∧a.length≤100000∧b.length≤100000):body Tryz.prog [c132,c109,c131] { asks:=[(0,[1])] } true Tryz.f149 [Ls a,Ls b,.clo 151 [] []] (Ls (aA B9 (valB B9 a-valB B9 b).toNat)):=by
 obtain ⟨ha,hb,hle,hla,hlb⟩:=h
 (repeat' first|refine ZG ?_|refine Zg fun _=>?_)
 refine Ask.mk ⟨{ X:=Nat,pre:=fun i=>i≤max a.length b.length+1,mod:=fun i _=>[(7,.ref 1 1),(8,I (subK B9 a b i).2),(18,I i)],heap:=fun i _=>[V [],V (subK B9 a b i).1],mu:=fun i=>max a.length b.length+1-i,objs:=[1] },rfl,?_⟩
 (repeat refine ZG ?_)
 refine ⟨⟨(0:Nat),Nat.zero_le _,by (repeat' first|exact trivial|rfl|exact Nat.one_pos|apply And.intro)⟩,fun (i:Nat) (hi:i≤max a.length b.length+1)=>?_⟩
 obtain ⟨g1,g2,g3,_⟩:=pT (B:=B9) (by decide) ha hb i
 have ga:=get9 ha i
 have gb:=get9 hb i
 (apply Br.mk<;>intro)
 ·have hlt:i<max a.length b.length+1:=by omega
  (repeat refine ZG ?_)
  refine ⟨(i+1:Nat),by show max a.length b.length+1-(i+1)<max a.length b.length+1-i;omega,hlt,?_⟩
  (repeat' first|exact trivial|rfl|exact Nat.one_pos|apply And.intro)
 ·have e:i=max a.length b.length+1:=by omega
  subst e
  (conv=>whnf)
  rw[← (Jn (B:=B9) (by decide) ha hb (n:=max a.length b.length+1) (by omega) (by omega) hle).1]
def c107:Con:=aI 149 true fun args K=>match args with
 | [.seq (.int .i64) a,.seq (.int .i64) b,.clo 150 [] []]=>Need (InB B9 a∧InB B9 b∧a.length≤100000∧b.length≤100000) (K (Ls (aA B9 (valB B9 a+valB B9 b).toNat)))
 | [.seq (.int .i64) a,.seq (.int .i64) b,.clo 151 [] []]=>Need (InB B9 a∧InB B9 b∧valB B9 b≤valB B9 a∧a.length≤100000∧b.length≤100000) (K (Ls (aA B9 (valB B9 a-valB B9 b).toNat)))
 | _=>False
theorem k107:aD Tryz.prog c107:=by
 refine kO Tryz.func149 fun args K h=>?_
 simp only[c107] at h;split at h
 ·rename_i a b
  exact ⟨_,h.go,triB Tryz.func149 Tryz.ntmps149 (by simp[k132,k108,k131]) (b107p a b h.ok)⟩
 ·rename_i a b
  exact ⟨_,h.go,triB Tryz.func149 Tryz.ntmps149 (by simp[k132,k109,k131]) (b107m a b h.ok)⟩
 ·exact h.elim
theorem c9:((B9:Nat):Int)=1000000000:=rfl
theorem Sl {x y B:Int} (hx:0≤x∧x<B) (hy:0≤y∧y<B):0≤x*y∧x*y≤(B-1)*(B-1):=by
 refine ⟨Int.mul_nonneg hx.1 hy.1,?_⟩
 calc x*y≤(B-1)*y:=Int.mul_le_mul_of_nonneg_right (by omega) hy.1
  _≤(B-1)*(B-1):=Int.mul_le_mul_of_nonneg_left (by omega) (by omega)
theorem b99 (a b:List Int) (h:InB B9 a∧InB B9 b∧a.length≤100000∧b.length≤100000):Ub Tryz.prog [c132,c131] { asks:=[(0,[]),(2,[])] } Tryz.f155 [Ls a,Ls b] (.ref 0 1) (.int .i64) (aA B9 (valB B9 a*valB B9 b).toNat) 3:=by
 obtain ⟨ha,hb,hla,hlb⟩:=h
 obtain ⟨n,hn⟩:∃n,n=a.length+b.length+1:=⟨_,rfl⟩
 (repeat' first|refine ZG ?_|refine Zg fun _=>?_)
 refine Ask.mk ⟨{ X:=Nat,pre:=fun i=>i≤a.length,mod:=fun i _=>[(20,I i)],heap:=fun i _=>[V [],V (mulR B9 a b (List.replicate n 0) i)],mu:=fun i=>a.length-i },rfl,?_⟩
 (repeat refine ZG ?_)
 refine ⟨⟨(0:Nat),Nat.zero_le _,?_⟩,fun (i:Nat) (hi:i≤a.length)=>?_⟩
 ·(repeat' first|exact trivial|rfl|apply And.intro)
  show List.replicate _ _=List.replicate _ _
  congr 1;omega
 obtain ⟨g1,g2,g3⟩:=pU (B:=B9) (by decide) ha hb (n:=n) (by omega) i hi
 have ga:=get9 ha i
 (apply Br.mk<;>intro)
 ·have hlt:i<a.length:=by omega
  (repeat' first|refine ZG ?_|refine Zg fun _=>?_)
  refine Ask.mk ⟨{ X:=Nat,pre:=fun k=>k≤b.length+1,mod:=fun k _=>[(28,I k),(8,I (mulK B9 (a.getD i 0) b i (mulR B9 a b (List.replicate n 0) i) k).2)],heap:=fun k _=>[V [],V (mulK B9 (a.getD i 0) b i (mulR B9 a b (List.replicate n 0) i) k).1],mu:=fun k=>b.length+1-k },rfl,?_⟩
  (repeat refine ZG ?_)
  refine ⟨⟨(0:Nat),Nat.zero_le _,by (repeat' first|exact trivial|rfl|apply And.intro)⟩,fun (k:Nat) (hk:k≤b.length+1)=>?_⟩
  obtain ⟨m1,m2,m3,_⟩:=hU (B:=B9) (by decide) (x:=a.getD i 0) ⟨ga.1,by rw[c9];exact ga.2⟩ hb (i:=i) g2 k (by omega)
  have m3:0≤(mulK B9 (a.getD i 0) b i (mulR B9 a b (List.replicate n 0) i) k).2∧(mulK B9 (a.getD i 0) b i (mulR B9 a b (List.replicate n 0) i) k).2<1000000000:=m3
  have gb:=get9 hb k
  have gm:=get9 m2 (i+k)
  have hm:=Sl ga gb
  (apply Br.mk<;>intro)
  ·have hlt:k<b.length+1:=by omega
   (repeat'((conv=>whnf);first|refine Zg fun _=>?_|refine Za ?_|refine Zn ?_|refine Zj ?_|(apply Pin.mk;apply Exists.intro)|apply Pinned.mk rfl rfl|fail))
   refine ⟨(k+1:Nat),by show b.length+1-(k+1)<b.length+1-k;omega,hlt,?_⟩
   (repeat' first|exact trivial|rfl|apply And.intro)
  ·have e:k=b.length+1:=by omega
   subst e
   (repeat refine ZG ?_)
   refine ⟨(i+1:Nat),by show a.length-(i+1)<a.length-i;omega,hlt,?_⟩
   (repeat' first|exact trivial|rfl|apply And.intro)
 ·have e:i=a.length:=by omega
  subst e
  (conv=>whnf)
  (repeat' first|rfl|apply And.intro)
  exact Jp (B:=B9) (by decide) ha hb (by omega)
def c99:Con:=Sy 155 fun args K=>match args with | [.seq (.int .i64) a,.seq (.int .i64) b]=>Need (InB B9 a∧InB B9 b∧a.length≤100000∧b.length≤100000) (K (.ref 0 1) (.vec 1 (.int .i64) (aA B9 (valB B9 a*valB B9 b).toNat) 3)) | _=>False
theorem k99:aD Tryz.prog c99:=by
 refine Uh (enters_of Tryz.func155 (by kernel_rfl) rfl) ?_
 intro args K h
 split at h
 ·rename_i a b;exact ⟨_,_,_,_,_,h.go,fun hfl=>sK (by simp[k132,k131]) Tryz.func155 (by simp[Tryz.ntmps155]) hfl (b99 a b h.ok)⟩
 ·exact h.elim
abbrev itB (xs:List Int) (k:Nat):List SV:=[I ((xs.length-1-k:Nat)),I (xs.getD (xs.length-1-k) 0)]
def c135:Con:=aI 182 false fun args K=>match args with | [.seq (.int .i64) xs]=>K (.clo 215 [] [.lelem [Ls xs] 0]) | _=>False
theorem k135:aD Tryz.prog c135:=by
 refine kQ {} Tryz.func182 Tryz.ntmps182 kn fun _ _ h=>?_
 split at h
 case h_2=>exact h.elim
 refine kb h ?_
 (conv=>whnf)
 (repeat' first|exact trivial|rfl|apply And.intro)
theorem b166 (xs:List Int):Hg Tryz.prog [] { asks:=[(0,[])] } Tryz.f215 [.lelem [Ls xs] 0] xs.length (itB xs):=by
 (repeat' first|refine ZG ?_|refine Zg fun _=>?_)
 refine Ask.mk ⟨{ X:=Nat,pre:=fun i=>i≤xs.length,mod:=fun i _=>[(3,I ((xs.length:Int)-1-i))],heap:=fun i _=>[.yst (some i) xs.length (itB xs)],mu:=fun i=>xs.length-i },rfl,?_⟩
 (repeat refine ZG ?_)
 refine ⟨⟨(0:Nat),Nat.zero_le _,by (repeat' first|exact trivial|rfl|apply And.intro|omega)⟩,fun (i:Nat) (hi:i≤xs.length)=>?_⟩
 (apply Br.mk<;>intro)
 ·have hlt:i<xs.length:=by omega
  have e:((xs.length:Int)-1-i)=((xs.length-1-i:Nat):Int):=by omega
  (repeat refine ZG ?_)
  refine cG (xs.length-1-i) (by omega) ?_
  (repeat'((conv=>whnf);first|refine Zg fun _=>?_|refine Zn ?_|fail))
  refine Need.mk (by (repeat' first|exact trivial|rfl|apply And.intro);exact e) ?_
  refine Two.mk ?_ ?_
  ·(repeat refine ZG ?_)
   refine ⟨(i+1:Nat),by show xs.length-(i+1)<xs.length-i;omega,hlt,?_⟩
   (repeat' first|exact trivial|rfl|apply And.intro|omega)
  ·(conv=>whnf)
   trivial
 ·(conv=>whnf)
  omega
def c166:Con:=aI 215 false fun args K=>match args with | [.lelem [.seq (.int .i64) xs] 0]=>K (.itr xs.length (itB xs)) | _=>False
theorem k166:aD Tryz.prog c166:=by
 refine kO Tryz.func215 fun args K h=>?_
 simp only[c166] at h;split at h
 ·rename_i xs;exact ⟨_,h,mM (by simp) Tryz.func215 (by simp[Tryz.ntmps215]) (b166 xs)⟩
 ·exact h.elim
def eN (a b:List Int):Nat→Int
 | 0=>0
 | m+1=>if a.getD m 0=b.getD m 0 then eN a b m else a.getD m 0-b.getD m 0
def cmpL (a b:List Int):Int:=if a.length=b.length then eN a b a.length else (a.length:Int)-b.length
def c129:Con:=aI 160 true fun args K=>match args with | [.seq (.int .i64) a,.seq (.int .i64) b]=>Need (InB B9 a∧InB B9 b) (K (I (cmpL a b))) | _=>False
theorem k129:aD Tryz.prog c129:=by
 refine kQ { asks:=[(0,[])] } Tryz.func160 Tryz.ntmps160 (kc k135 (kc k166 kn)) fun _ _ h=>?_
 split at h
 case h_2=>exact h.elim
 rename_i a b
 refine kb h.go ?_
 replace h:=h.ok
 obtain ⟨ha,hb⟩:=h
 unfold cmpL
 (repeat'((conv=>whnf);first|refine Zg fun _=>?_|fail))
 (apply Br.mk<;>intro)
 ·rename_i h1
  rw[if_neg (by omega)]
  (repeat' first|refine ZG ?_|refine Zg fun _=>?_)
  (conv=>whnf)
  (repeat' first|rfl|apply And.intro)
 ·rename_i h1
  rw[if_pos (by omega)]
  have hl:a.length=b.length:=by omega
  refine Ask.mk ⟨{ X:=Nat,pre:=fun i=>i≤a.length∧eN a b a.length=eN a b (a.length-i),mod:=fun _ _=>[],heap:=fun _ _=>[.cells [Ls b] 119,.cells [I 0] 3],mu:=fun i=>i },rfl,?_⟩
  (repeat refine ZG ?_)
  refine ⟨⟨(0:Nat),rfl,⟨Nat.zero_le _,rfl⟩,by (repeat' first|exact trivial|rfl|apply And.intro)⟩,fun (i:Nat) hi (hlt:i<a.length)=>?_,fun (i:Nat) hi (he:i=a.length)=>?_⟩
  ·obtain ⟨hi1,hi2⟩:=hi
   obtain ⟨m,hm⟩:∃m,a.length-i=m+1:=⟨a.length-i-1,by omega⟩
   have e1:a.length-1-i=m:=by omega
   have e2:a.length-(i+1)=m:=by omega
   have ga:=get9 ha m
   have gb:=get9 hb m
   rw[hm,eN] at hi2
   have eI:itB a i= [I m,I (a.getD m 0)]:=by rw[itB,e1]
   show hnfL (itB a i) _
   rw[eI]
   (repeat' first|refine ZG ?_|refine Zg fun _=>?_)
   (apply Br.mk<;>intro)
   ·rename_i hne
    rw[if_neg hne] at hi2
    (repeat' first|refine ZG ?_|refine Zg fun _=>?_)
    (conv=>whnf)
    (repeat' first|rfl|apply And.intro)
    exact hi2.symm
   ·rename_i heq
    rw[if_pos (Classical.not_not.1 heq)] at hi2
    refine ⟨(i+1:Nat),rfl,⟨by omega,by rw[e2];exact hi2⟩,by (repeat' first|exact trivial|rfl|apply And.intro)⟩
  ·obtain ⟨hi1,hi2⟩:=hi
   subst he
   rw[Nat.sub_self] at hi2
   (conv=>whnf)
   (repeat' first|rfl|apply And.intro)
   exact hi2.symm
theorem vT {a b:List Int} (ha:InB B9 a) (hb:InB B9 b) (hl:a.length=b.length):∀m,m≤a.length→(∀j,m≤j→j<a.length→a.getD j 0=b.getD j 0)→
  (eN a b m<0↔valB B9 a<valB B9 b)∧(eN a b m=0↔valB B9 a=valB B9 b)
 | 0,_,h=>by
  have:a=b:=hZ hl fun j hj=>h j (Nat.zero_le _) hj
  subst this
  simp[eN]
 | m+1,hm,h=>by
  simp only[eN]
  by_cases e:a.getD m 0=b.getD m 0
  ·rw[if_pos e]
   refine vT ha hb hl m (by omega) fun j h1 h2=>?_
   by_cases e2:j=m
   ·rw[e2];exact e
   ·exact h j (by omega) h2
  ·rw[if_neg e]
   rcases Int.lt_or_gt_of_ne e with h1 | h1
   ·have:=wG (B:=B9) (by decide) ha hb hl (by omega) (fun j h2 h3=>h j (by omega) h3) h1
    omega
   ·have:=wG (B:=B9) (by decide) hb ha hl.symm (by omega) (fun j h2 h3=>(h j (by omega) (by omega)).symm) h1
    omega
theorem Ad (m n:Nat):(cmpL (aA B9 m) (aA B9 n)<0↔m<n)∧(cmpL (aA B9 m) (aA B9 n)=0↔m=n):=by
 unfold cmpL
 split
 ·rename_i hl
  have:=vT (aN (B:=B9) (by decide) m) (aN (B:=B9) (by decide) n) hl _ (Nat.le_refl _) fun j h1 h2=>by omega
  rw[cJ (by decide),cJ (by decide)] at this
  omega
 ·rename_i hl
  rcases Nat.lt_or_ge (aA B9 m).length (aA B9 n).length with h | h
  ·have:=fX (B:=B9) (by decide) h
   omega
  ·have:=fX (B:=B9) (by decide) (show (aA B9 n).length<(aA B9 m).length by omega)
   omega
def c134:Con:=aI 181 false fun args K=>match args with | [.seq (.int .i64) a,.val (.int .i64 d)]=>Need (InB B9 a∧(0<d∧d<1000000000)∧a.length≤100000) (K (.tup [Ls (aA B9 (valB B9 a/d).toNat),Ls (aA B9 (valB B9 a%d).toNat)])) | _=>False
theorem k134:aD Tryz.prog c134:=by
 refine kQ { asks:=[(0,[])] } Tryz.func181 Tryz.ntmps181 (kc k135 (kc k166 (kc k131 kn))) fun _ _ h=>?_
 split at h
 case h_2=>exact h.elim
 rename_i a d
 refine kb h.go ?_
 replace h:=h.ok
 obtain ⟨ha,hd,hla⟩:=h
 obtain ⟨q1,q2,q3⟩:=Jq (B:=B9) (by decide) hd.1 hd.2 ha
 (repeat' first|refine ZG ?_|refine Zg fun _=>?_)
 refine Ask.mk ⟨{ X:=Nat,pre:=fun i=>i≤a.length,mod:=fun _ _=>[],heap:=fun i _=>[.cells [I d] 3,V [],.cells [.ref 4 1] 119,V [],V (divK B9 d a i).1,.cells [I (divK B9 d a i).2] 3],mu:=fun i=>i },rfl,?_⟩
 (repeat refine ZG ?_)
 refine ⟨⟨(0:Nat),rfl,Nat.zero_le _,?_⟩,fun (i:Nat) hi (hlt:i<a.length)=>?_,fun (i:Nat) hi (he:i=a.length)=>?_⟩
 ·(repeat' first|exact trivial|rfl|apply And.intro)
 ·obtain ⟨g1,g2,g3,_⟩:=jO (B:=B9) (by decide) hd.1 ha i (by omega)
  have ga:=get9 ha (a.length-1-i)
  have hm:=Int.mul_le_mul_of_nonneg_right (show (divK B9 d a i).2≤999999998 by omega) (show (0:Int)≤1000000000 by omega)
  have hm0:=Int.mul_nonneg g3.1 (show (0:Int)≤1000000000 by omega)
  show hnfL (itB a i) _
  (repeat'((conv=>whnf);first|refine Zg fun _=>?_|refine Za ?_|refine Zn ?_|refine Zj ?_|(apply Pin.mk;apply Exists.intro)|apply Pinned.mk rfl rfl|(apply PinH.mk;apply Exists.intro;apply Exists.intro)|exact Zf|refine Zc ?_ ?_|fail))
  refine ⟨(i+1:Nat),rfl,hlt,by (repeat' first|exact trivial|rfl|apply And.intro)⟩
 ·subst he
  (repeat'((conv=>whnf);first|(apply Pin.mk;apply Exists.intro)|apply Pinned.mk rfl rfl|(apply PinH.mk;apply Exists.intro;apply Exists.intro)|exact Zf|refine Zc ?_ ?_|refine Zl ?_|fail))
  (conv=>whnf)
  (repeat' first|exact trivial|apply And.intro)
  ·exact q1
  ·exact q3
theorem b137 (v:List Int) (j q:Int) (u:List Int) (h:InB B9 u∧InB B9 v∧0≤j∧(0≤q∧q≤8000000000)∧j+v.length+1≤u.length∧u.length≤300000):Bl Tryz.prog [c132] { asks:=[(0,[])] } Tryz.f184 0 true [.any,Ls v,I j,I q] (.int .i64) u 3 (.bl (0<(bE B9 u v j.toNat q (v.length+1)).2) inferInstance) (bE B9 u v j.toNat q (v.length+1)).1:=by
 obtain ⟨hu,hv,hj,hq,hl,hlu⟩:=h
 obtain ⟨j,rfl⟩:∃k:Nat,j=k:=⟨j.toNat,by omega⟩
 rw[Int.toNat_natCast]
 (repeat' first|refine ZG ?_|refine Zg fun _=>?_)
 refine Ask.mk ⟨{ X:=Nat,pre:=fun k=>k≤v.length+1,mod:=fun k _=>[(15,I k),(9,I (bE B9 u v j q k).2)],heap:=fun k _=>[V (bE B9 u v j q k).1],mu:=fun k=>v.length+1-k },rfl,?_⟩
 (repeat refine ZG ?_)
 refine ⟨⟨(0:Nat),Nat.zero_le _,by (repeat' first|exact trivial|rfl|apply And.intro)⟩,fun (k:Nat) (hk:k≤v.length+1)=>?_⟩
 obtain ⟨m1,m2,m3,_⟩:=iA (B:=B9) (by decide) hu hv (j:=j) hq.1 k (by omega)
 have gv:=get9 hv k
 have gm:=get9 m2 (j+k)
 have hm:0≤q*v.getD k 0∧q*v.getD k 0≤8000000000*999999999:=⟨Int.mul_nonneg hq.1 gv.1,Int.le_trans (Int.mul_le_mul_of_nonneg_right hq.2 gv.1) (Int.mul_le_mul_of_nonneg_left (by omega) (by omega))⟩
 (apply Br.mk<;>intro)
 ·have hlt:k<v.length+1:=by omega
  (repeat'((conv=>whnf);first|refine Zg fun _=>?_|refine Zn ?_|refine Zj ?_|(apply Pin.mk;apply Exists.intro)|apply Pinned.mk rfl rfl|fail))
  (apply Br.mk<;>intro)
  ·rename_i hneg
   have ht:bE B9 u v j q (k+1)=((bE B9 u v j q k).1.set (j+k) ((bE B9 u v j q k).1.getD (j+k) 0-(bE B9 u v j q k).2-q*v.getD k 0+(-((bE B9 u v j q k).1.getD (j+k) 0-(bE B9 u v j q k).2-q*v.getD k 0)+1000000000-1)/1000000000*1000000000),(-((bE B9 u v j q k).1.getD (j+k) 0-(bE B9 u v j q k).2-q*v.getD k 0)+1000000000-1)/1000000000):=by
    simp only[bE]
    rw[if_pos hneg]
    rfl
   (repeat refine ZG ?_)
   refine ⟨(k+1:Nat),by show v.length+1-(k+1)<v.length+1-k;omega,hlt,?_⟩
   (repeat' first|exact trivial|rfl|apply And.intro)
   all_goals first | exact (congrArg Prod.fst ht).symm | exact (congrArg Prod.snd ht).symm
  ·rename_i hneg
   have ht:bE B9 u v j q (k+1)=((bE B9 u v j q k).1.set (j+k) ((bE B9 u v j q k).1.getD (j+k) 0-(bE B9 u v j q k).2-q*v.getD k 0+0*1000000000),0):=by
    simp only[bE]
    rw[if_neg hneg]
    rfl
   (repeat refine ZG ?_)
   refine ⟨(k+1:Nat),by show v.length+1-(k+1)<v.length+1-k;omega,hlt,?_⟩
   (repeat' first|exact trivial|rfl|apply And.intro)
   all_goals first | exact (congrArg Prod.fst ht).symm | exact (congrArg Prod.snd ht).symm
 ·have e:k=v.length+1:=by omega
  subst e
  (conv=>whnf)
  (repeat' first|rfl|apply And.intro)
def c137:Con:=wV 184 0 true fun args o K=>match args,o with | [.any,.seq (.int .i64) v,.val (.int .i64 j),.val (.int .i64 q)],.vec 1 (.int .i64) u 3=>Need (InB B9 u∧InB B9 v∧0≤j∧(0≤q∧q≤8000000000)∧j+v.length+1≤u.length∧u.length≤300000) (K (.bl (0<(bE B9 u v j.toNat q (v.length+1)).2) inferInstance) (.vec 1 (.int .i64) ((bE B9 u v j.toNat q (v.length+1)).1) 3)) | _,_=>False
theorem k137:aD Tryz.prog c137:=by
 refine rZ (enters_of Tryz.func184 (by kernel_rfl) rfl) ?_
 intro args t xs e K hfl h
 split at h
 ·rename_i v j q zs heq
  cases heq
  first | exact ⟨_,_,h.go,dE (by simp[k132]) Tryz.func184 (by simp[Tryz.ntmps184]) rfl (b137 v j q zs h.ok)⟩ | exact ⟨_,_,h.go,dE (by simp[k132]) Tryz.func184 (by simp[Tryz.ntmps184]) rfl (b137 v j q xs h.ok)⟩
 ·exact h.elim
theorem b138 (v:List Int) (j q:Int) (u:List Int) (h:InB B9 u∧InB B9 v∧0≤j∧(0≤q∧q≤8000000000)∧j+v.length+1≤u.length∧u.length≤300000):Bl Tryz.prog [c132] { asks:=[(0,[])] } Tryz.f185 0 true [.any,Ls v,I j,I q] (.int .i64) u 3 (.ref 0 1) (mulK B9 q v j.toNat u (v.length+1)).1:=by
 obtain ⟨hu,hv,hj,hq,hl,hlu⟩:=h
 obtain ⟨j,rfl⟩:∃k:Nat,j=k:=⟨j.toNat,by omega⟩
 rw[Int.toNat_natCast]
 (repeat' first|refine ZG ?_|refine Zg fun _=>?_)
 refine Ask.mk ⟨{ X:=Nat,pre:=fun k=>k≤v.length+1,mod:=fun k _=>[(15,I k),(9,I (mulK B9 q v j u k).2)],heap:=fun k _=>[V (mulK B9 q v j u k).1,V []],mu:=fun k=>v.length+1-k },rfl,?_⟩
 (repeat refine ZG ?_)
 refine ⟨⟨(0:Nat),Nat.zero_le _,by (repeat' first|exact trivial|rfl|apply And.intro)⟩,fun (k:Nat) (hk:k≤v.length+1)=>?_⟩
 obtain ⟨m1,m2,m3,_⟩:=uF (B:=B9) (by decide) (x:=q) hq.1 hv (i:=j) hu k (by omega)
 have gv:=get9 hv k
 have gm:=get9 m2 (j+k)
 have hm:0≤q*v.getD k 0∧q*v.getD k 0≤8000000000*999999999:=⟨Int.mul_nonneg hq.1 gv.1,Int.le_trans (Int.mul_le_mul_of_nonneg_right hq.2 gv.1) (Int.mul_le_mul_of_nonneg_left (by omega) (by omega))⟩
 (apply Br.mk<;>intro)
 ·have hlt:k<v.length+1:=by omega
  (repeat'((conv=>whnf);first|refine Zg fun _=>?_|refine Za ?_|refine Zn ?_|refine Zj ?_|(apply Pin.mk;apply Exists.intro)|apply Pinned.mk rfl rfl|fail))
  refine ⟨(k+1:Nat),by show v.length+1-(k+1)<v.length+1-k;omega,hlt,?_⟩
  (repeat' first|exact trivial|rfl|apply And.intro)
 ·have e:k=v.length+1:=by omega
  subst e
  (conv=>whnf)
  (repeat' first|rfl|apply And.intro)
def c138:Con:=wV 185 0 true fun args o K=>match args,o with | [.any,.seq (.int .i64) v,.val (.int .i64 j),.val (.int .i64 q)],.vec 1 (.int .i64) u 3=>Need (InB B9 u∧InB B9 v∧0≤j∧(0≤q∧q≤8000000000)∧j+v.length+1≤u.length∧u.length≤300000) (K (.ref 0 1) (.vec 1 (.int .i64) ((mulK B9 q v j.toNat u (v.length+1)).1) 3)) | _,_=>False
theorem k138:aD Tryz.prog c138:=by
 refine rZ (enters_of Tryz.func185 (by kernel_rfl) rfl) ?_
 intro args t xs e K hfl h
 split at h
 ·rename_i v j q zs heq
  cases heq
  first | exact ⟨_,_,h.go,dE (by simp[k132]) Tryz.func185 (by simp[Tryz.ntmps185]) rfl (b138 v j q zs h.ok)⟩ | exact ⟨_,_,h.go,dE (by simp[k132]) Tryz.func185 (by simp[Tryz.ntmps185]) rfl (b138 v j q xs h.ok)⟩
 ·exact h.elim
abbrev top2 (u v:List Int) (j:Nat):Int:=u.getD (j+v.length) 0*1000000000+u.getD (j+v.length-1) 0
abbrev estL (u v:List Int) (j:Nat):Int:=estF 1000000000 (v.getD (v.length-1) 0) (v.getD (v.length-2) 0) (u.getD (j+v.length-2) 0) 8 (top2 u v j/v.getD (v.length-1) 0) (top2 u v j%v.getD (v.length-1) 0)
def eQ (u v:List Int) (j i:Nat):Int:=top2 u v j/v.getD (v.length-1) 0-i
def eR (u v:List Int) (j i:Nat):Int:=top2 u v j%v.getD (v.length-1) 0+i*v.getD (v.length-1) 0
theorem jG (u v:List Int) (j i:Nat):eR u v j (i+1)=eR u v j i+v.getD (v.length-1) 0:=by
 unfold eR
 have:((i+1:Nat):Int)*v.getD (v.length-1) 0=i*v.getD (v.length-1) 0+v.getD (v.length-1) 0:=by rw[Int.natCast_succ,Int.add_mul,Int.one_mul]
 omega
theorem tG (u v:List Int) (j i:Nat):eQ u v j (i+1)=eQ u v j i-1:=by unfold eQ;omega
theorem b136 (u v:List Int) (j:Int) (h:InB B9 u∧InB B9 v∧0≤j∧2≤v.length∧250000000≤v.getD (v.length-1) 0∧j+v.length+1≤u.length∧u.length≤300000):body Tryz.prog [] { asks:=[(0,[])] } true Tryz.f183 [Ls u,Ls v,I j] (I (estL u v j.toNat)):=by
 obtain ⟨hu,hv,hj,hn,hv1,hl,hlu⟩:=h
 obtain ⟨j,rfl⟩:∃k:Nat,j=k:=⟨j.toNat,by omega⟩
 rw[Int.toNat_natCast]
 have g0:=get9 hu (j+v.length)
 have g1:=get9 hu (j+v.length-1)
 have g2:=get9 hu (j+v.length-2)
 have w1:=get9 hv (v.length-1)
 have w2:=get9 hv (v.length-2)
 (repeat'((conv=>whnf);first|refine Zg fun _=>?_|refine Zn ?_|refine Zj ?_|(apply Pin.mk;apply Exists.intro)|apply Pinned.mk rfl rfl|fail))
 refine cG (j+v.length-1) (by omega) ?_
 (repeat'((conv=>whnf);first|refine Zg fun _=>?_|refine Zn ?_|(apply Pin.mk;apply Exists.intro)|apply Pinned.mk rfl rfl|fail))
 refine cG (v.length-1) (by omega) ?_
 (repeat'((conv=>whnf);first|refine Zg fun _=>?_|refine Za ?_|refine Zn ?_|(apply Pin.mk;apply Exists.intro)|apply Pinned.mk rfl rfl|fail))
 refine cG (v.length-1) (by omega) ?_
 (repeat'((conv=>whnf);first|refine Zg fun _=>?_|refine Za ?_|(apply Pin.mk;apply Exists.intro)|apply Pinned.mk rfl rfl|fail))
 have hT:0≤top2 u v j∧top2 u v j<1000000000000000000:=by unfold top2;omega
 have hr:0≤top2 u v j%v.getD (v.length-1) 0∧top2 u v j%v.getD (v.length-1) 0<v.getD (v.length-1) 0:=⟨Int.emod_nonneg _ (by omega),Int.emod_lt_of_pos _ (by omega)⟩
 have hq:0≤top2 u v j/v.getD (v.length-1) 0∧top2 u v j/v.getD (v.length-1) 0≤4000000000:=by
  refine ⟨Int.ediv_nonneg hT.1 (by omega),?_⟩
  refine Int.le_trans (Int.ediv_le_ediv (by omega) (show top2 u v j≤4000000000*v.getD (v.length-1) 0 by omega)) ?_
  rw[Int.mul_ediv_cancel _ (by omega)]
  exact Int.le_refl _
 refine Ask.mk ⟨{ X:=Nat,pre:=fun i=>eR u v j i<1000000000∧estL u v j=estF 1000000000 (v.getD (v.length-1) 0) (v.getD (v.length-2) 0) (u.getD (j+v.length-2) 0) (8-i) (eQ u v j i) (eR u v j i),mod:=fun i _=>[(9,I (eQ u v j i)),(10,I (eR u v j i))],heap:=fun _ _=>[],mu:=fun i=>8-i },rfl,?_⟩
 (repeat refine ZG ?_)
 refine ⟨⟨(0:Nat),⟨by unfold eR;omega,by simp only[estL,eQ,eR];congr 1<;>omega⟩,?_⟩,fun (i:Nat) hi=>?_⟩
 ·(repeat' first|exact trivial|rfl|apply And.intro)
  ·show top2 u v j/ _= _
   unfold eQ;omega
  ·show top2 u v j% _= _
   unfold eR;omega
 obtain ⟨hi1,hi2⟩:=hi
 have hi4:(i:Int)*250000000≤i*v.getD (v.length-1) 0:=Int.mul_le_mul_of_nonneg_left hv1 (by omega)
 have hi3:i≤3:=by unfold eR at hi1;omega
 have hR:0≤eR u v j i:=by unfold eR;omega
 have hQ: -3≤eQ u v j i∧eQ u v j i≤4000000000:=by unfold eQ;omega
 have hQv: -3*999999999≤eQ u v j i*v.getD (v.length-2) 0∧eQ u v j i*v.getD (v.length-2) 0≤4000000000*999999999:=by
  refine ⟨Int.le_trans (Int.mul_le_mul_of_nonpos_left (by omega) (show v.getD (v.length-2) 0≤999999999 by omega)) (Int.mul_le_mul_of_nonneg_right hQ.1 w2.1),Int.le_trans (Int.mul_le_mul_of_nonneg_right hQ.2 w2.1) (Int.mul_le_mul_of_nonneg_left (by omega) (by omega))⟩
 obtain ⟨f,hf⟩:∃f,8-i=f+1:=⟨7-i,by omega⟩
 have hf1:8-(i+1)=f:=by omega
 rw[hf,estF,← jG,← tG] at hi2
 (repeat'((conv=>whnf);first|(apply Pin.mk;apply Exists.intro)|apply Pinned.mk rfl rfl|fail))
 (apply Br.mk<;>intro)
 ·rename_i hq1
  rw[if_pos (.inl hq1)] at hi2
  (repeat'((conv=>whnf);first|refine Zn ?_|(apply Pin.mk;apply Exists.intro)|apply Pinned.mk rfl rfl|fail))
  refine cG (v.length-1) (by omega) ?_
  (repeat'((conv=>whnf);first|refine Zg fun _=>?_|refine Zn ?_|(apply Pin.mk;apply Exists.intro)|apply Pinned.mk rfl rfl|fail))
  (apply Br.mk<;>intro)
  ·rename_i hb
   rw[jG,if_pos hb,tG] at hi2
   (conv=>whnf)
   (repeat' first|rfl|apply And.intro)
   exact hi2.symm
  ·rename_i hb
   rw[if_neg (by rw[jG];exact hb)] at hi2
   refine ⟨(i+1:Nat),by show 8-(i+1)<8-i;omega,⟨by rw[jG];omega,by rw[hi2,hf1]⟩,?_⟩
   (repeat' first|exact trivial|rfl|apply And.intro)
   ·exact (tG u v j i).symm
   ·exact (jG u v j i).symm
 ·rename_i hq1
  (repeat'((conv=>whnf);first|(apply Pin.mk;apply Exists.intro)|apply Pinned.mk rfl rfl|fail))
  (apply Br.mk<;>intro)
  ·rename_i hr1
   (repeat'((conv=>whnf);first|refine Zn ?_|(apply Pin.mk;apply Exists.intro)|apply Pinned.mk rfl rfl|fail))
   refine cG (v.length-2) (by omega) ?_
   (repeat'((conv=>whnf);first|refine Zg fun _=>?_|refine Zn ?_|(apply Pin.mk;apply Exists.intro)|apply Pinned.mk rfl rfl|fail))
   refine cG (j+v.length-2) (by omega) ?_
   (repeat'((conv=>whnf);first|refine Zg fun _=>?_|refine Zn ?_|(apply Pin.mk;apply Exists.intro)|apply Pinned.mk rfl rfl|fail))
   (apply Br.mk<;>intro)
   ·rename_i hgt
    rw[if_pos (.inr ⟨hr1,hgt⟩)] at hi2
    (repeat'((conv=>whnf);first|refine Zn ?_|(apply Pin.mk;apply Exists.intro)|apply Pinned.mk rfl rfl|fail))
    refine cG (v.length-1) (by omega) ?_
    (repeat'((conv=>whnf);first|refine Zg fun _=>?_|refine Zn ?_|(apply Pin.mk;apply Exists.intro)|apply Pinned.mk rfl rfl|fail))
    (apply Br.mk<;>intro)
    ·rename_i hb
     rw[jG,if_pos hb,tG] at hi2
     (conv=>whnf)
     (repeat' first|rfl|apply And.intro)
     exact hi2.symm
    ·rename_i hb
     rw[if_neg (by rw[jG];exact hb)] at hi2
     refine ⟨(i+1:Nat),by show 8-(i+1)<8-i;omega,⟨by rw[jG];omega,by rw[hi2,hf1]⟩,?_⟩
     (repeat' first|exact trivial|rfl|apply And.intro)
     ·exact (tG u v j i).symm
     ·exact (jG u v j i).symm
   ·rename_i hgt
    rw[if_neg (by omega)] at hi2
    (conv=>whnf)
    (repeat' first|rfl|apply And.intro)
    exact hi2.symm
  ·omega
def c136:Con:=aI 183 true fun args K=>match args with | [.seq (.int .i64) u,.seq (.int .i64) v,.val (.int .i64 j)]=>Need (InB B9 u∧InB B9 v∧0≤j∧2≤v.length∧250000000≤v.getD (v.length-1) 0∧j+v.length+1≤u.length∧u.length≤300000) (K (I (estL u v j.toNat))) | _=>False
theorem k136:aD Tryz.prog c136:=by
 refine kO Tryz.func183 fun args K h=>?_
 simp only[c136] at h;split at h
 ·rename_i u v j;exact ⟨_,h.go,triB Tryz.func183 Tryz.ntmps183 (by simp) (b136 u v j h.ok)⟩
 ·exact h.elim
end RB
end
section
set_option maxRecDepth 100000
namespace Go.Proofs
open Go.Shelf
def RL.lI_ren:Go.Shelf.Ren:=⟨fun | 171=>47 | 243=>93 | 246=>145 | 283=>176 | 284=>177 | 285=>178 | 286=>179 | 129=>134 | 317=>211 | 318=>212 | 319=>213 | 320=>214 | 337=>241 | 338=>242 | n=>n,fun | 3=>3 | 9=>9 | 2=>2 | 4=>4 | 171=>235 | 0=>0 | 53=>198 | 37=>237 | 5=>5 | 173=>238 | 212=>267 | 51=>196 | 20=>20 | 213=>268 | 46=>114 | 232=>313 | 233=>314 | n=>n,fun | 17=>0 | 18=>4 | 19=>5 | n=>n⟩
theorem RL.lI:Go.Proofs.LaysM.n171 Tryz.prog RL.lI_ren where
 mixed:=by kernel_rfl
 f129:=Tryz.func134.trans (congrArg some (by kernel_rfl))
 f171:=Tryz.func47.trans (congrArg some (by kernel_rfl))
 f243:=Tryz.func93.trans (congrArg some (by kernel_rfl))
 f246:=Tryz.func145.trans (congrArg some (by kernel_rfl))
 f283:=Tryz.func176.trans (congrArg some (by kernel_rfl))
 f284:=Tryz.func177.trans (congrArg some (by kernel_rfl))
 f285:=Tryz.func178.trans (congrArg some (by kernel_rfl))
 f286:=Tryz.func179.trans (congrArg some (by kernel_rfl))
 f317:=Tryz.func211.trans (congrArg some (by kernel_rfl))
 f318:=Tryz.func212.trans (congrArg some (by kernel_rfl))
 f319:=Tryz.func213.trans (congrArg some (by kernel_rfl))
 f320:=Tryz.func214.trans (congrArg some (by kernel_rfl))
 f337:=Tryz.func241.trans (congrArg some (by kernel_rfl))
 f338:=Tryz.func242.trans (congrArg some (by kernel_rfl))
 t0:=Tryz.underlying0
 a0:=Tryz.isAgg0
 z0:=Tryz.sizeOf0
 v0:=Tryz.zeroValue0
 t2:=Tryz.underlying2
 a2:=Tryz.isAgg2
 z2:=Tryz.sizeOf2
 v2:=Tryz.zeroValue2
 t3:=Tryz.underlying3
 a3:=Tryz.isAgg3
 z3:=Tryz.sizeOf3
 v3:=Tryz.zeroValue3
 t4:=Tryz.underlying4
 a4:=Tryz.isAgg4
 z4:=Tryz.sizeOf4
 v4:=Tryz.zeroValue4
 t5:=Tryz.underlying5
 a5:=Tryz.isAgg5
 z5:=Tryz.sizeOf5
 v5:=Tryz.zeroValue5
 t9:=Tryz.underlying9
 a9:=Tryz.isAgg9
 z9:=Tryz.sizeOf9
 v9:=Tryz.zeroValue9
 t20:=Tryz.underlying20
 a20:=Tryz.isAgg20
 z20:=Tryz.sizeOf20
 v20:=Tryz.zeroValue20
 t37:=Tryz.underlying237
 a37:=Tryz.isAgg237
 z37:=Tryz.sizeOf237
 v37:=Tryz.zeroValue237
 t46:=Tryz.underlying114
 a46:=Tryz.isAgg114
 z46:=Tryz.sizeOf114
 v46:=Tryz.zeroValue114
 t51:=Tryz.underlying196
 a51:=Tryz.isAgg196
 z51:=Tryz.sizeOf196
 v51:=Tryz.zeroValue196
 t53:=Tryz.underlying198
 a53:=Tryz.isAgg198
 z53:=Tryz.sizeOf198
 v53:=Tryz.zeroValue198
 t171:=Tryz.underlying235
 a171:=Tryz.isAgg235
 z171:=Tryz.sizeOf235
 v171:=Tryz.zeroValue235
 t173:=Tryz.underlying238
 a173:=Tryz.isAgg238
 z173:=Tryz.sizeOf238
 v173:=Tryz.zeroValue238
 t212:=Tryz.underlying267
 a212:=Tryz.isAgg267
 z212:=Tryz.sizeOf267
 v212:=Tryz.zeroValue267
 t213:=Tryz.underlying268
 a213:=Tryz.isAgg268
 z213:=Tryz.sizeOf268
 t232:=Tryz.underlying313
 a232:=Tryz.isAgg313
 z232:=Tryz.sizeOf313
 v232:=Tryz.zeroValue313
 t233:=Tryz.underlying314
 a233:=Tryz.isAgg314
 z233:=Tryz.sizeOf314
 v233:=Tryz.zeroValue314
 g17:=by kernel_rfl
 g18:=by kernel_rfl
 g19:=by kernel_rfl
 i0:=by kernel_rfl
 i2:=by kernel_rfl
 i3:=by kernel_rfl
 i4:=by kernel_rfl
 i5:=by kernel_rfl
 i9:=by kernel_rfl
 i20:=by kernel_rfl
 i37:=by kernel_rfl
 i46:=by kernel_rfl
 i51:=by kernel_rfl
 i53:=by kernel_rfl
 i171:=by kernel_rfl
 i173:=by kernel_rfl
 i212:=by kernel_rfl
 i232:=by kernel_rfl
 i233:=by kernel_rfl
 m17:=by kernel_rfl
 m18:=by kernel_rfl
 m19:=by kernel_rfl
def RL.lA_ren:Go.Shelf.Ren:=⟨fun | 172=>157 | 244=>189 | 245=>190 | 247=>224 | 279=>225 | 280=>226 | 281=>227 | 282=>228 | 287=>251 | 316=>252 | 171=>47 | 205=>253 | 321=>274 | 322=>275 | 243=>93 | 246=>145 | 283=>176 | 284=>177 | 285=>178 | 286=>179 | 129=>134 | 317=>211 | 318=>212 | 319=>213 | 320=>214 | 337=>241 | 338=>242 | n=>n,fun | 9=>9 | 3=>3 | 75=>218 | 76=>219 | 4=>4 | 5=>5 | 167=>277 | 37=>237 | 0=>0 | 85=>278 | 2=>2 | 168=>280 | 53=>198 | 175=>300 | 46=>114 | 210=>303 | 127=>294 | 145=>320 | 143=>318 | 21=>21 | 171=>235 | 173=>238 | 212=>267 | 51=>196 | 20=>20 | 213=>268 | 232=>313 | 233=>314 | 80=>264 | n=>n,fun | 15=>2 | 16=>3 | 17=>0 | 18=>4 | 19=>5 | n=>n⟩
theorem RL.lA:Go.Proofs.LaysC.n172 Tryz.prog RL.lA_ren where
 mixed:=by kernel_rfl
 f129:=Tryz.func134.trans (congrArg some (by kernel_rfl))
 f171:=Tryz.func47.trans (congrArg some (by kernel_rfl))
 f172:=Tryz.func157.trans (congrArg some (by kernel_rfl))
 f205:=Tryz.func253.trans (congrArg some (by kernel_rfl))
 f243:=Tryz.func93.trans (congrArg some (by kernel_rfl))
 f244:=Tryz.func189.trans (congrArg some (by kernel_rfl))
 f245:=Tryz.func190.trans (congrArg some (by kernel_rfl))
 f246:=Tryz.func145.trans (congrArg some (by kernel_rfl))
 f247:=Tryz.func224.trans (congrArg some (by kernel_rfl))
 f279:=Tryz.func225.trans (congrArg some (by kernel_rfl))
 f280:=Tryz.func226.trans (congrArg some (by kernel_rfl))
 f281:=Tryz.func227.trans (congrArg some (by kernel_rfl))
 f282:=Tryz.func228.trans (congrArg some (by kernel_rfl))
 f283:=Tryz.func176.trans (congrArg some (by kernel_rfl))
 f284:=Tryz.func177.trans (congrArg some (by kernel_rfl))
 f285:=Tryz.func178.trans (congrArg some (by kernel_rfl))
 f286:=Tryz.func179.trans (congrArg some (by kernel_rfl))
 f287:=Tryz.func251.trans (congrArg some (by kernel_rfl))
 f316:=Tryz.func252.trans (congrArg some (by kernel_rfl))
 f317:=Tryz.func211.trans (congrArg some (by kernel_rfl))
 f318:=Tryz.func212.trans (congrArg some (by kernel_rfl))
 f319:=Tryz.func213.trans (congrArg some (by kernel_rfl))
 f320:=Tryz.func214.trans (congrArg some (by kernel_rfl))
 f321:=Tryz.func274.trans (congrArg some (by kernel_rfl))
 f322:=Tryz.func275.trans (congrArg some (by kernel_rfl))
 f337:=Tryz.func241.trans (congrArg some (by kernel_rfl))
 f338:=Tryz.func242.trans (congrArg some (by kernel_rfl))
 t0:=Tryz.underlying0
 a0:=Tryz.isAgg0
 z0:=Tryz.sizeOf0
 v0:=Tryz.zeroValue0
 t2:=Tryz.underlying2
 a2:=Tryz.isAgg2
 z2:=Tryz.sizeOf2
 v2:=Tryz.zeroValue2
 t3:=Tryz.underlying3
 a3:=Tryz.isAgg3
 z3:=Tryz.sizeOf3
 v3:=Tryz.zeroValue3
 t4:=Tryz.underlying4
 a4:=Tryz.isAgg4
 z4:=Tryz.sizeOf4
 v4:=Tryz.zeroValue4
 t5:=Tryz.underlying5
 a5:=Tryz.isAgg5
 z5:=Tryz.sizeOf5
 v5:=Tryz.zeroValue5
 t9:=Tryz.underlying9
 a9:=Tryz.isAgg9
 z9:=Tryz.sizeOf9
 v9:=Tryz.zeroValue9
 t20:=Tryz.underlying20
 a20:=Tryz.isAgg20
 z20:=Tryz.sizeOf20
 v20:=Tryz.zeroValue20
 t21:=Tryz.underlying21
 a21:=Tryz.isAgg21
 z21:=Tryz.sizeOf21
 v21:=Tryz.zeroValue21
 t37:=Tryz.underlying237
 a37:=Tryz.isAgg237
 z37:=Tryz.sizeOf237
 v37:=Tryz.zeroValue237
 t46:=Tryz.underlying114
 a46:=Tryz.isAgg114
 z46:=Tryz.sizeOf114
 v46:=Tryz.zeroValue114
 t51:=Tryz.underlying196
 a51:=Tryz.isAgg196
 z51:=Tryz.sizeOf196
 v51:=Tryz.zeroValue196
 t53:=Tryz.underlying198
 a53:=Tryz.isAgg198
 z53:=Tryz.sizeOf198
 v53:=Tryz.zeroValue198
 t75:=Tryz.underlying218
 a75:=Tryz.isAgg218
 z75:=Tryz.sizeOf218
 v75:=Tryz.zeroValue218
 t76:=Tryz.underlying219
 a76:=Tryz.isAgg219
 z76:=Tryz.sizeOf219
 v76:=Tryz.zeroValue219
 t85:=Tryz.underlying278
 a85:=Tryz.isAgg278
 z85:=Tryz.sizeOf278
 v85:=Tryz.zeroValue278
 t127:=Tryz.underlying294
 a127:=Tryz.isAgg294
 z127:=Tryz.sizeOf294
 v127:=Tryz.zeroValue294
 t143:=Tryz.underlying318
 a143:=Tryz.isAgg318
 z143:=Tryz.sizeOf318
 v143:=Tryz.zeroValue318
 t145:=Tryz.underlying320
 a145:=Tryz.isAgg320
 z145:=Tryz.sizeOf320
 v145:=Tryz.zeroValue320
 t167:=Tryz.underlying277
 a167:=Tryz.isAgg277
 z167:=Tryz.sizeOf277
 v167:=Tryz.zeroValue277
 t168:=Tryz.underlying280
 a168:=Tryz.isAgg280
 z168:=Tryz.sizeOf280
 v168:=Tryz.zeroValue280
 t171:=Tryz.underlying235
 a171:=Tryz.isAgg235
 z171:=Tryz.sizeOf235
 v171:=Tryz.zeroValue235
 t173:=Tryz.underlying238
 a173:=Tryz.isAgg238
 z173:=Tryz.sizeOf238
 v173:=Tryz.zeroValue238
 t175:=Tryz.underlying300
 a175:=Tryz.isAgg300
 z175:=Tryz.sizeOf300
 v175:=Tryz.zeroValue300
 t210:=Tryz.underlying303
 a210:=Tryz.isAgg303
 z210:=Tryz.sizeOf303
 v210:=Tryz.zeroValue303
 t212:=Tryz.underlying267
 a212:=Tryz.isAgg267
 z212:=Tryz.sizeOf267
 v212:=Tryz.zeroValue267
 t213:=Tryz.underlying268
 a213:=Tryz.isAgg268
 z213:=Tryz.sizeOf268
 t232:=Tryz.underlying313
 a232:=Tryz.isAgg313
 z232:=Tryz.sizeOf313
 v232:=Tryz.zeroValue313
 t233:=Tryz.underlying314
 a233:=Tryz.isAgg314
 z233:=Tryz.sizeOf314
 v233:=Tryz.zeroValue314
 g15:=by kernel_rfl
 g16:=by kernel_rfl
 g17:=by kernel_rfl
 g18:=by kernel_rfl
 g19:=by kernel_rfl
 t80:=Tryz.underlying264
 a80:=Tryz.isAgg264
 z80:=Tryz.sizeOf264
 v80:=Tryz.zeroValue264
 i0:=by kernel_rfl
 i2:=by kernel_rfl
 i3:=by kernel_rfl
 i4:=by kernel_rfl
 i5:=by kernel_rfl
 i9:=by kernel_rfl
 i20:=by kernel_rfl
 i21:=by kernel_rfl
 i37:=by kernel_rfl
 i46:=by kernel_rfl
 i51:=by kernel_rfl
 i53:=by kernel_rfl
 i75:=by kernel_rfl
 i76:=by kernel_rfl
 i80:=by kernel_rfl
 i85:=by kernel_rfl
 i127:=by kernel_rfl
 i143:=by kernel_rfl
 i145:=by kernel_rfl
 i167:=by kernel_rfl
 i168:=by kernel_rfl
 i171:=by kernel_rfl
 i173:=by kernel_rfl
 i175:=by kernel_rfl
 i210:=by kernel_rfl
 i212:=by kernel_rfl
 i232:=by kernel_rfl
 i233:=by kernel_rfl
 m15:=by kernel_rfl
 m16:=by kernel_rfl
 m17:=by kernel_rfl
 m18:=by kernel_rfl
 m19:=by kernel_rfl
 c0:=by kernel_rfl
 c2:=by kernel_rfl
 c3:=by kernel_rfl
 c4:=by kernel_rfl
 c5:=by kernel_rfl
 c9:=by kernel_rfl
 c20:=by kernel_rfl
 c21:=by kernel_rfl
 c37:=by kernel_rfl
 c46:=by kernel_rfl
 c51:=by kernel_rfl
 c53:=by kernel_rfl
 c75:=by kernel_rfl
 c76:=by kernel_rfl
 c80:=by kernel_rfl
 c85:=by kernel_rfl
 c127:=by kernel_rfl
 c143:=by kernel_rfl
 c145:=by kernel_rfl
 c167:=by kernel_rfl
 c168:=by kernel_rfl
 c171:=by kernel_rfl
 c173:=by kernel_rfl
 c175:=by kernel_rfl
 c210:=by kernel_rfl
 c212:=by kernel_rfl
 c213:=by kernel_rfl
 c232:=by kernel_rfl
 c233:=by kernel_rfl
def RL.lR_ren:Go.Shelf.Ren:=⟨fun | 105=>209 | 212=>238 | 99=>94 | 165=>239 | 166=>208 | 170=>240 | 169=>210 | 263=>266 | 264=>267 | 206=>146 | 240=>237 | 241=>268 | 276=>265 | 277=>276 | n=>n,fun | 9=>9 | 3=>3 | 4=>4 | 20=>20 | 0=>0 | 46=>114 | 109=>290 | 5=>5 | 72=>261 | 76=>219 | 51=>196 | 146=>309 | 53=>198 | 148=>311 | 70=>259 | 37=>237 | 75=>218 | 127=>294 | 164=>307 | 80=>264 | n=>n,fun | n=>n⟩
theorem RL.lR:Go.Proofs.Lays.n105 Tryz.prog RL.lR_ren where
 mixed:=by kernel_rfl
 f99:=Tryz.func94.trans (congrArg some (by kernel_rfl))
 f105:=Tryz.func209.trans (congrArg some (by kernel_rfl))
 f165:=Tryz.func239.trans (congrArg some (by kernel_rfl))
 f166:=Tryz.func208.trans (congrArg some (by kernel_rfl))
 f169:=Tryz.func210.trans (congrArg some (by kernel_rfl))
 f170:=Tryz.func240.trans (congrArg some (by kernel_rfl))
 f206:=Tryz.func146.trans (congrArg some (by kernel_rfl))
 f212:=Tryz.func238.trans (congrArg some (by kernel_rfl))
 f240:=Tryz.func237.trans (congrArg some (by kernel_rfl))
 f241:=Tryz.func268.trans (congrArg some (by kernel_rfl))
 f263:=Tryz.func266.trans (congrArg some (by kernel_rfl))
 f264:=Tryz.func267.trans (congrArg some (by kernel_rfl))
 f276:=Tryz.func265.trans (congrArg some (by kernel_rfl))
 f277:=Tryz.func276.trans (congrArg some (by kernel_rfl))
 t0:=Tryz.underlying0
 a0:=Tryz.isAgg0
 z0:=Tryz.sizeOf0
 v0:=Tryz.zeroValue0
 t3:=Tryz.underlying3
 a3:=Tryz.isAgg3
 z3:=Tryz.sizeOf3
 v3:=Tryz.zeroValue3
 t4:=Tryz.underlying4
 a4:=Tryz.isAgg4
 z4:=Tryz.sizeOf4
 v4:=Tryz.zeroValue4
 t5:=Tryz.underlying5
 a5:=Tryz.isAgg5
 z5:=Tryz.sizeOf5
 v5:=Tryz.zeroValue5
 t9:=Tryz.underlying9
 a9:=Tryz.isAgg9
 z9:=Tryz.sizeOf9
 v9:=Tryz.zeroValue9
 t20:=Tryz.underlying20
 a20:=Tryz.isAgg20
 z20:=Tryz.sizeOf20
 v20:=Tryz.zeroValue20
 t37:=Tryz.underlying237
 a37:=Tryz.isAgg237
 z37:=Tryz.sizeOf237
 v37:=Tryz.zeroValue237
 t46:=Tryz.underlying114
 a46:=Tryz.isAgg114
 z46:=Tryz.sizeOf114
 v46:=Tryz.zeroValue114
 t51:=Tryz.underlying196
 a51:=Tryz.isAgg196
 z51:=Tryz.sizeOf196
 v51:=Tryz.zeroValue196
 t53:=Tryz.underlying198
 a53:=Tryz.isAgg198
 z53:=Tryz.sizeOf198
 v53:=Tryz.zeroValue198
 t70:=Tryz.underlying259
 a70:=Tryz.isAgg259
 z70:=Tryz.sizeOf259
 v70:=Tryz.zeroValue259
 t72:=Tryz.underlying261
 a72:=Tryz.isAgg261
 z72:=Tryz.sizeOf261
 v72:=Tryz.zeroValue261
 t75:=Tryz.underlying218
 a75:=Tryz.isAgg218
 z75:=Tryz.sizeOf218
 v75:=Tryz.zeroValue218
 t76:=Tryz.underlying219
 a76:=Tryz.isAgg219
 z76:=Tryz.sizeOf219
 v76:=Tryz.zeroValue219
 t109:=Tryz.underlying290
 a109:=Tryz.isAgg290
 z109:=Tryz.sizeOf290
 v109:=Tryz.zeroValue290
 t127:=Tryz.underlying294
 a127:=Tryz.isAgg294
 z127:=Tryz.sizeOf294
 v127:=Tryz.zeroValue294
 t146:=Tryz.underlying309
 a146:=Tryz.isAgg309
 z146:=Tryz.sizeOf309
 v146:=Tryz.zeroValue309
 t148:=Tryz.underlying311
 a148:=Tryz.isAgg311
 z148:=Tryz.sizeOf311
 v148:=Tryz.zeroValue311
 t164:=Tryz.underlying307
 a164:=Tryz.isAgg307
 z164:=Tryz.sizeOf307
 v164:=Tryz.zeroValue307
def RL.lT_ren:Go.Shelf.Ren:=⟨fun | 160=>188 | 232=>218 | 231=>217 | 227=>219 | 234=>221 | 233=>220 | 236=>223 | 235=>222 | 228=>247 | 271=>250 | 151=>249 | 197=>248 | 120=>273 | 152=>272 | 260=>271 | 137=>277 | 119=>278 | 224=>245 | 225=>244 | 217=>243 | 266=>269 | n=>n,fun | 9=>9 | 4=>4 | 3=>3 | 5=>5 | 117=>273 | 116=>272 | 0=>0 | 124=>276 | 21=>21 | 105=>297 | 46=>114 | 119=>322 | 139=>325 | 138=>324 | n=>n,fun | 3=>6 | 4=>7 | n=>n⟩
theorem RL.lT:Go.Proofs.Lays.n160 Tryz.prog RL.lT_ren where
 mixed:=by kernel_rfl
 f119:=Tryz.func278.trans (congrArg some (by kernel_rfl))
 f120:=Tryz.func273.trans (congrArg some (by kernel_rfl))
 f137:=Tryz.func277.trans (congrArg some (by kernel_rfl))
 f151:=Tryz.func249.trans (congrArg some (by kernel_rfl))
 f152:=Tryz.func272.trans (congrArg some (by kernel_rfl))
 f160:=Tryz.func188.trans (congrArg some (by kernel_rfl))
 f197:=Tryz.func248.trans (congrArg some (by kernel_rfl))
 f217:=Tryz.func243.trans (congrArg some (by kernel_rfl))
 f224:=Tryz.func245.trans (congrArg some (by kernel_rfl))
 f225:=Tryz.func244.trans (congrArg some (by kernel_rfl))
 f227:=Tryz.func219.trans (congrArg some (by kernel_rfl))
 f228:=Tryz.func247.trans (congrArg some (by kernel_rfl))
 f231:=Tryz.func217.trans (congrArg some (by kernel_rfl))
 f232:=Tryz.func218.trans (congrArg some (by kernel_rfl))
 f233:=Tryz.func220.trans (congrArg some (by kernel_rfl))
 f234:=Tryz.func221.trans (congrArg some (by kernel_rfl))
 f235:=Tryz.func222.trans (congrArg some (by kernel_rfl))
 f236:=Tryz.func223.trans (congrArg some (by kernel_rfl))
 f260:=Tryz.func271.trans (congrArg some (by kernel_rfl))
 f266:=Tryz.func269.trans (congrArg some (by kernel_rfl))
 f271:=Tryz.func250.trans (congrArg some (by kernel_rfl))
 t0:=Tryz.underlying0
 a0:=Tryz.isAgg0
 z0:=Tryz.sizeOf0
 v0:=Tryz.zeroValue0
 t3:=Tryz.underlying3
 a3:=Tryz.isAgg3
 z3:=Tryz.sizeOf3
 v3:=Tryz.zeroValue3
 t4:=Tryz.underlying4
 a4:=Tryz.isAgg4
 z4:=Tryz.sizeOf4
 v4:=Tryz.zeroValue4
 t5:=Tryz.underlying5
 a5:=Tryz.isAgg5
 z5:=Tryz.sizeOf5
 v5:=Tryz.zeroValue5
 t9:=Tryz.underlying9
 a9:=Tryz.isAgg9
 z9:=Tryz.sizeOf9
 v9:=Tryz.zeroValue9
 t21:=Tryz.underlying21
 a21:=Tryz.isAgg21
 z21:=Tryz.sizeOf21
 v21:=Tryz.zeroValue21
 t46:=Tryz.underlying114
 a46:=Tryz.isAgg114
 z46:=Tryz.sizeOf114
 v46:=Tryz.zeroValue114
 t105:=Tryz.underlying297
 a105:=Tryz.isAgg297
 z105:=Tryz.sizeOf297
 v105:=Tryz.zeroValue297
 t116:=Tryz.underlying272
 a116:=Tryz.isAgg272
 z116:=Tryz.sizeOf272
 t117:=Tryz.underlying273
 a117:=Tryz.isAgg273
 z117:=Tryz.sizeOf273
 v117:=Tryz.zeroValue273
 t119:=Tryz.underlying322
 a119:=Tryz.isAgg322
 z119:=Tryz.sizeOf322
 t124:=Tryz.underlying276
 a124:=Tryz.isAgg276
 z124:=Tryz.sizeOf276
 v124:=Tryz.zeroValue276
 t138:=Tryz.underlying324
 a138:=Tryz.isAgg324
 z138:=Tryz.sizeOf324
 v138:=Tryz.zeroValue324
 t139:=Tryz.underlying325
 a139:=Tryz.isAgg325
 z139:=Tryz.sizeOf325
 v139:=Tryz.zeroValue325
 g3:=by kernel_rfl
 g4:=by kernel_rfl
def RL.lX_ren:Go.Shelf.Ren:=⟨fun | 219=>216 | 217=>243 | 225=>244 | 224=>245 | 267=>246 | 266=>269 | 314=>270 | n=>n,fun | 9=>9 | 3=>3 | 4=>4 | 5=>5 | 46=>114 | 146=>309 | 51=>196 | n=>n,fun | 1=>1 | n=>n⟩
theorem RL.lX:Go.Proofs.Lays.n219 Tryz.prog RL.lX_ren where
 mixed:=by kernel_rfl
 f217:=Tryz.func243.trans (congrArg some (by kernel_rfl))
 f219:=Tryz.func216.trans (congrArg some (by kernel_rfl))
 f224:=Tryz.func245.trans (congrArg some (by kernel_rfl))
 f225:=Tryz.func244.trans (congrArg some (by kernel_rfl))
 f266:=Tryz.func269.trans (congrArg some (by kernel_rfl))
 f267:=Tryz.func246.trans (congrArg some (by kernel_rfl))
 f314:=Tryz.func270.trans (congrArg some (by kernel_rfl))
 t3:=Tryz.underlying3
 a3:=Tryz.isAgg3
 z3:=Tryz.sizeOf3
 v3:=Tryz.zeroValue3
 t4:=Tryz.underlying4
 a4:=Tryz.isAgg4
 z4:=Tryz.sizeOf4
 v4:=Tryz.zeroValue4
 t5:=Tryz.underlying5
 a5:=Tryz.isAgg5
 z5:=Tryz.sizeOf5
 v5:=Tryz.zeroValue5
 t9:=Tryz.underlying9
 a9:=Tryz.isAgg9
 z9:=Tryz.sizeOf9
 v9:=Tryz.zeroValue9
 t46:=Tryz.underlying114
 a46:=Tryz.isAgg114
 z46:=Tryz.sizeOf114
 v46:=Tryz.zeroValue114
 t51:=Tryz.underlying196
 a51:=Tryz.isAgg196
 z51:=Tryz.sizeOf196
 v51:=Tryz.zeroValue196
 t146:=Tryz.underlying309
 a146:=Tryz.isAgg309
 z146:=Tryz.sizeOf309
 v146:=Tryz.zeroValue309
 g1:=by kernel_rfl
def RL.lC_ren:Go.Shelf.Ren:=⟨fun | 240=>237 | 276=>265 | n=>n,fun | 70=>259 | 0=>0 | 72=>261 | 4=>4 | 164=>307 | 37=>237 | 5=>5 | n=>n,fun | n=>n⟩
theorem RL.lC:Go.Proofs.Lays.n240 Tryz.prog RL.lC_ren where
 mixed:=by kernel_rfl
 f240:=Tryz.func237.trans (congrArg some (by kernel_rfl))
 f276:=Tryz.func265.trans (congrArg some (by kernel_rfl))
 t0:=Tryz.underlying0
 a0:=Tryz.isAgg0
 z0:=Tryz.sizeOf0
 v0:=Tryz.zeroValue0
 t4:=Tryz.underlying4
 a4:=Tryz.isAgg4
 z4:=Tryz.sizeOf4
 v4:=Tryz.zeroValue4
 t9:=Tryz.underlying9
 a9:=Tryz.isAgg9
 z9:=Tryz.sizeOf9
 v9:=Tryz.zeroValue9
 t20:=Tryz.underlying20
 a20:=Tryz.isAgg20
 z20:=Tryz.sizeOf20
 v20:=Tryz.zeroValue20
 t70:=Tryz.underlying259
 a70:=Tryz.isAgg259
 z70:=Tryz.sizeOf259
 v70:=Tryz.zeroValue259
 t72:=Tryz.underlying261
 a72:=Tryz.isAgg261
 z72:=Tryz.sizeOf261
 v72:=Tryz.zeroValue261
 t164:=Tryz.underlying307
 a164:=Tryz.isAgg307
 z164:=Tryz.sizeOf307
 v164:=Tryz.zeroValue307
def RL.lS_ren:Go.Shelf.Ren:=⟨fun | 169=>210 | n=>n,fun | 70=>259 | 9=>9 | 0=>0 | 72=>261 | 37=>237 | 127=>294 | 3=>3 | 5=>5 | n=>n,fun | n=>n⟩
theorem RL.lS:Go.Proofs.Lays.n169 Tryz.prog RL.lS_ren where
 mixed:=by kernel_rfl
 f169:=Tryz.func210.trans (congrArg some (by kernel_rfl))
 t0:=Tryz.underlying0
 a0:=Tryz.isAgg0
 z0:=Tryz.sizeOf0
 v0:=Tryz.zeroValue0
 t3:=Tryz.underlying3
 a3:=Tryz.isAgg3
 z3:=Tryz.sizeOf3
 v3:=Tryz.zeroValue3
 t9:=Tryz.underlying9
 a9:=Tryz.isAgg9
 z9:=Tryz.sizeOf9
 v9:=Tryz.zeroValue9
 t37:=Tryz.underlying237
 a37:=Tryz.isAgg237
 z37:=Tryz.sizeOf237
 v37:=Tryz.zeroValue237
 t70:=Tryz.underlying259
 a70:=Tryz.isAgg259
 z70:=Tryz.sizeOf259
 v70:=Tryz.zeroValue259
 t72:=Tryz.underlying261
 a72:=Tryz.isAgg261
 z72:=Tryz.sizeOf261
 v72:=Tryz.zeroValue261
 t127:=Tryz.underlying294
 a127:=Tryz.isAgg294
 z127:=Tryz.sizeOf294
 v127:=Tryz.zeroValue294
end Go.Proofs
end
section
open Go Go.Proofs Go.Eng Go.Shelf IB Go.Lib Go.RowKit
namespace RB
def hasP (s p:List UInt8):Prop:=p.length≤s.length∧s.take p.length=p
instance (s p:List UInt8):Decidable (hasP s p):=by unfold hasP;infer_instance
def Cz (s p:List UInt8):List UInt8:=if hasP s p then s.drop p.length else s
theorem nG (s:List UInt8):hasP s [45]↔s.headD 0=45:=by
 cases s with
 | nil=>simp[hasP]
 | cons c r=>simp[hasP]
theorem vU (s:List UInt8):Cz s [45]=digs s:=by
 unfold Cz digs
 by_cases h:s.headD 0=45
 ·rw[if_pos h,if_pos ((nG s).2 h)]
  cases s<;>rfl
 ·rw[if_neg h,if_neg (fun e=>h ((nG s).1 e))]
def c126:Con:=aI 146 true fun args K=>match args with | [.str s,.str p]=>K (.bl (hasP s p) inferInstance) | _=>False
theorem k126:aD Tryz.prog c126:=by
 refine kQ {} Tryz.func146 Tryz.ntmps146 kn fun _ _ h=>?_
 split at h
 case h_2=>exact h.elim
 refine kb h ?_
 (repeat'((conv=>whnf);first|refine Zg fun _=>?_|fail))
 (apply Br.mk<;>intro)
 ·rename_i h
  (repeat' first|refine ZG ?_|refine Zg fun _=>?_)
  (conv=>whnf)
  unfold hasP
  exact ⟨fun e=>⟨by omega,e⟩,fun e=>e.2⟩
 ·rename_i h
  (conv=>whnf)
  intro e
  exact h (by have:=e.1;omega)
theorem b91 (s:List UInt8):body Tryz.prog [c126] {} true Tryz.f94 [S s,S [45]] (.bl (s.headD 0=45) inferInstance):=by
 (conv=>whnf)
 exact nG s
def c91:Con:=aI 94 true fun args K=>match args with | [.str s,.str p]=>Need (p= [45]) (K (.bl (s.headD 0=45) inferInstance)) | _=>False
theorem k91:aD Tryz.prog c91:=by
 refine kO Tryz.func94 fun args K h=>?_
 simp only[c91] at h;split at h
 ·rename_i s p
  obtain ⟨rfl,h⟩:=h
  exact ⟨_,h,triB Tryz.func94 Tryz.ntmps94 (by simp[k126]) (b91 s)⟩
 ·exact h.elim
def c125:Con:=aI 154 true fun args K=>match args with | [.str s,.str p]=>K (.str (Cz s p)) | _=>False
theorem k125:aD Tryz.prog c125:=by
 refine kQ {} Tryz.func154 Tryz.ntmps154 (kc k126 kn) fun _ _ h=>?_
 split at h
 case h_2=>exact h.elim
 refine kb h ?_
 unfold Cz
 (apply Br.mk<;>intro)
 ·rename_i h
  rw[if_pos h]
  have:=h.1
  (repeat' first|refine ZG ?_|refine Zg fun _=>?_)
  (conv=>whnf)
 ·rename_i h
  rw[if_neg h]
  (conv=>whnf)
theorem b88 (s:List UInt8):body Tryz.prog [c125] {} true Tryz.f102 [S s,S [45]] (S (digs s)):=by
 rw[← vU]
 (conv=>whnf)
def c88:Con:=aI 102 true fun args K=>match args with | [.str s,.str p]=>Need (p= [45]) (K (S (digs s))) | _=>False
theorem k88:aD Tryz.prog c88:=by
 refine kO Tryz.func102 fun args K h=>?_
 simp only[c88] at h;split at h
 ·rename_i s p
  obtain ⟨rfl,h⟩:=h
  exact ⟨_,h,triB Tryz.func102 Tryz.ntmps102 (by simp[k125]) (b88 s)⟩
 ·exact h.elim
def c155:Con:=aI 180 true fun args K=>match args with | [.str s,.str p]=>K (.tup [S (Cz s p),.bl (hasP s p) inferInstance]) | _=>False
theorem k155:aD Tryz.prog c155:=by
 refine kQ {} Tryz.func180 Tryz.ntmps180 (kc k126 kn) fun _ _ h=>?_
 split at h
 case h_2=>exact h.elim
 refine kb h ?_
 unfold Cz
 (apply Br.mk<;>intro)
 ·rename_i h
  rw[if_neg h]
  (conv=>whnf)
  (repeat' first|exact trivial|rfl|apply And.intro)
  exact h
 ·rename_i h
  have h:=Classical.not_not.1 h
  rw[if_pos h]
  have:=h.1
  (repeat' first|refine ZG ?_|refine Zg fun _=>?_)
  (conv=>whnf)
  (repeat' first|exact trivial|rfl|apply And.intro)
  all_goals first | exact h | exact h.1 | exact h.2
theorem b123 (s:List UInt8):body Tryz.prog [c155] {} true Tryz.f147 [S s,S [45]] (.tup [S (digs s),.bl (s.headD 0=45) inferInstance]):=by
 rw[← vU]
 (conv=>whnf)
 (repeat' first|exact trivial|rfl|apply And.intro)
 exact nG s
def c123:Con:=aI 147 true fun args K=>match args with | [.str s,.str p]=>Need (p= [45]) (K (.tup [S (digs s),.bl (s.headD 0=45) inferInstance])) | _=>False
theorem k123:aD Tryz.prog c123:=by
 refine kO Tryz.func147 fun args K h=>?_
 simp only[c123] at h;split at h
 ·rename_i s p
  obtain ⟨rfl,h⟩:=h
  exact ⟨_,h,triB Tryz.func147 Tryz.ntmps147 (by simp[k155]) (b123 s)⟩
 ·exact h.elim
theorem tI {E:Env} {s:List UInt8} {vs:List Value} (h:RelL E [.str s] vs):vs= [.string ⟨s.toArray⟩]∧s.length≤maxL:=by
 obtain ⟨v,rfl,h1⟩:=h.one
 cases h1 with
 | str _ hl=>exact ⟨rfl,hl⟩
theorem Kn {E:Env} {k:IntKind} {n:Int} {vs:List Value} (h:RelL E [.val (.int k n)] vs):vs= [.int k n]∧inK k n:=by
 obtain ⟨v,rfl,h1⟩:=h.one
 obtain ⟨rfl,h2⟩:=h1.int_inv
 exact ⟨rfl,h2⟩
theorem Xp {ok:Nat→Prop} {w:World} (h:GW Tryz.prog ok w):Lib.TabIs Tryz.prog w "internal/strconv.uint64pow10" .u64 Lib.pow10Tab:=by
 obtain ⟨cs,h1,h2⟩:=h.var (n:= "internal/strconv.uint64pow10") (by simp[gnames]) (g:=0) (by kernel_rfl)
 unfold Lib.TabIs
 rw[h1,h2.pow rfl]
 rfl
theorem Nf (n:Nat) (h:n≤9223372036854775808):(decDigits n).length≤20:=IB.iJ 19 n (by omega)
theorem Xq (n:Int) (h:inK .i64 n):(itoa n).length≤maxL:=by
 have h: -9223372036854775808≤n∧n≤9223372036854775807:=h
 have h1:=Nf n.natAbs (by omega)
 rw[← bC] at h1
 have h2:(itoa n).length≤(digs (itoa n)).length+1:=by
  unfold digs
  split
  ·rw[List.length_tail];omega
  ·omega
 show _≤140737488355328
 omega
theorem t61 (n:Int):Tri Tryz.prog true 47 [I n] (S (itoa n)):=by
 intro ok w vs hg hok hr
 obtain ⟨rfl,hn⟩:=Kn hr
 have hn': -9223372036854775808≤n∧n≤9223372036854775807:=hn
 refine (Any.strconv_Itoa RL.lI n hn'.1 hn'.2 w (Xp hg)).mono ?_
 rintro e w' ⟨rfl,k,os,rfl⟩
 exact ⟨_,rfl,Lib.below_grow _ _ (Nat.le_refl _) _ _,.str _ (Xq n hn)⟩
def c61:Con:=aI 47 true fun args K=>match args with | [.val (.int .i64 n)]=>K (S (itoa n)) | _=>False
theorem k61:aD Tryz.prog c61:=by
 refine kO Tryz.func47 fun args K h=>?_
 simp only[c61] at h;split at h
 ·exact ⟨_,h,t61 _⟩
 ·exact h.elim
abbrev fitI (n:Int):Prop:= -9223372036854775808≤n∧n≤9223372036854775807
def oW (acc:Nat) (l:List UInt8):Nat:=l.foldl (fun n c=>10*n+(c.toNat-48)) acc
theorem Da:∀(l:List UInt8) (acc:Nat),acc≤oW acc l
 | [],acc=>Nat.le_refl _
 | c::r,acc=>by
  have:=Da r (10*acc+(c.toNat-48))
  simp only[oW,List.foldl_cons] at this ⊢
  omega
theorem tJ:∀(l:List UInt8) (acc:Nat),(∀c∈l,aR c)→acc<18446744073709551616→parseUint10 acc l=if oW acc l<18446744073709551616 then .ok (oW acc l) else .range
 | [],acc,_,h=>by simp[parseUint10,oW,h]
 | c::r,acc,hd,h=>by
  have hc:=hd c (by simp)
  have ih:=tJ r (acc*10+(c.toNat-48)) fun x hx=>hd x (by simp[hx])
  have hg:=Da r (10*acc+(c.toNat-48))
  have e:oW acc (c::r)=oW (acc*10+(c.toNat-48)) r:=by simp only[oW,List.foldl_cons];rw[Nat.mul_comm]
  rw[Nat.mul_comm] at hg
  simp only[parseUint10]
  have hc:48≤c.toNat∧c.toNat≤57:=hc
  rw[if_pos hc,e]
  by_cases h1:1844674407370955162≤acc
  ·rw[if_pos h1,if_neg (by omega)]
  ·rw[if_neg h1]
   by_cases h2:18446744073709551616≤acc*10+(c.toNat-48)
   ·rw[if_pos h2,if_neg (by omega)]
   ·rw[if_neg h2,ih (by omega)]
theorem Db {l:List UInt8} (h:∀c∈l,aR c) (hne:l≠ []):parseMag l=if aF l<18446744073709551616 then .ok (aF l) else .range:=by
 unfold parseMag
 rw[if_neg hne,tJ l 0 h (by omega)]
 rfl
theorem aEg {c:UInt8} (h:aR c):c.toNat≠43∧c.toNat≠45:=by unfold aR at h;omega
theorem Dc {s:List UInt8} (h:form s):atoiAll s=(if fitI (valI s) then .ok (valI s) else .range)∧(¬fitI (valI s)→(9223372036854775807<valI s∧atoiSat s=9223372036854775807)∨(valI s < -9223372036854775808∧atoiSat s= -9223372036854775808)):=by
 obtain ⟨h1,h2,h3⟩:=h
 cases s with
 | nil=>simp[digs] at h1
 | cons c r=>
  by_cases hc:c=45
  ·subst hc
   have e1:digs (45::r)=r:=rfl
   have e2:valI (45::r)= -(aF r:Int):=rfl
   rw[e1] at h1 h3
   rw[e2];unfold fitI;rw[atoiAll_minus,Db h3 h1,atoiSat_minus]
   refine ⟨?_,fun hn=>.inr ⟨by omega,rfl⟩⟩
   by_cases h4:aF r<18446744073709551616
   ·rw[if_pos h4]
    simp only[signed]
    by_cases h5:9223372036854775808<aF r
    ·rw[if_pos h5,if_neg (by omega)]
    ·rw[if_neg h5,if_pos (by omega)]
   ·rw[if_neg h4,if_neg (by omega)];rfl
  ·have e1:digs (c::r)=c::r:=by simp[digs,hc]
   have e2:valI (c::r)=aF (c::r):=by simp[valI,hc]
   rw[e1] at h1 h3
   obtain ⟨g1,g2⟩:=aEg (h3 c (by simp))
   rw[e2];unfold fitI;rw[atoiAll_plain c r g1 g2,Db h3 h1,atoiSat_other c r g2]
   refine ⟨?_,fun hn=>.inl ⟨by omega,rfl⟩⟩
   by_cases h4:aF (c::r)<18446744073709551616
   ·rw[if_pos h4]
    simp only[signless]
    by_cases h5:9223372036854775808≤aF (c::r)
    ·rw[if_pos h5,if_neg (by omega)]
    ·rw[if_neg h5,if_pos (by omega)]
   ·rw[if_neg h4,if_neg (by omega)];rfl
theorem t72ok (s:List UInt8) (hf:form s) (hv:fitI (valI s)):Tri Tryz.prog true 157 [S s] (.tup [I (valI s),.val .nilIface]):=by
 intro ok w vs hg hok hr
 obtain ⟨rfl,hl⟩:=tI hr
 have hl':s.length≤140737488355328:=hl
 have ha:=(Dc hf).1
 rw[if_pos hv] at ha
 refine (Any.strconv_Atoi_ok RL.lA ⟨s.toArray⟩ (by show s.toArray.size≤ _;rw[List.size_toArray];omega) (valI s) (by simpa using ha) w).mono ?_
 rintro e w' ⟨rfl,hw⟩
 refine ⟨_,rfl,?_,.tup _ _ (.cons _ _ _ _ (.val _ hv) (.cons _ _ _ _ (.val _ trivial) .nil))⟩
 rcases hw with rfl | ⟨t,rfl⟩
 ·exact Below.refl _ _
 ·exact Go.Joins.below_bytesWorld _ _ _ _ (Nat.le_refl _)
theorem Xr {ok:Nat→Prop} {w:World} (h:GW Tryz.prog ok w):∃ev,w.cell? ⟨(RL.lA_ren).g 16,0,none⟩=some ev∧∃te pe,ev= .iface te pe:=by
 obtain ⟨hk,cs,e,f,h2,h3⟩:=h "strconv.ErrRange" (by simp[gnames]) ((RL.lA_ren).g 16) (by kernel_rfl)
 obtain ⟨tp,p,hc⟩:=h3.err (.inl rfl)
 refine ⟨_,?_,tp,p,rfl⟩
 rw[World.cell?,h2,hc]
 rfl
theorem aEh (s:List UInt8) (hf:form s) (hv:¬fitI (valI s)) (hl:s.length≤281474976710656):Tri Tryz.prog true 157 [S s] (.tup [I (atoiSat s),.ifc]):=by
 intro ok w vs hg hok hr
 obtain ⟨rfl,_⟩:=tI hr
 have ha:=(Dc hf).1
 rw[if_neg hv] at ha
 obtain ⟨ev,h1,h2⟩:=Xr hg
 refine (Any.strconv_Atoi_range RL.lA ⟨s.toArray⟩ (by show s.toArray.size≤ _;rw[List.size_toArray];omega) (by simpa using ha) ev w h1 (.inr h2)).mono ?_
 rintro e w' ⟨N,rfl,_,_,hb⟩
 refine ⟨_,rfl,hb,.tup _ _ (.cons _ _ _ _ ?_ (.cons _ _ _ _ (.ifc _ (.inr ⟨_,_,rfl⟩)) .nil))⟩
 exact .val _ (atoiSat_bounds _)
def c72:Con:=aI 157 true fun args K=>match args with
 | [.str s]=>Need (form s∧s.length≤1000) (Br (fitI (valI s)) (K (.tup [I (valI s),.val .nilIface])) (K (.tup [I (atoiSat s),.ifc])))
 | _=>False
theorem k72:aD Tryz.prog c72:=by
 refine kO Tryz.func157 fun args K h=>?_
 simp only[c72] at h;split at h
 ·rename_i s
  obtain ⟨⟨hf,hl⟩,h⟩:=h
  by_cases hv:fitI (valI s)
  ·exact ⟨_,h.yes hv,t72ok s hf hv⟩
  ·exact ⟨_,h.no hv,aEh s hf hv (by omega)⟩
 ·exact h.elim
abbrev digitsS:List UInt8:=[48,49,50,51,52,53,54,55,56,57]
theorem Ae (c:UInt8):digitsS.contains c=true↔aR c:=by
 have h:∀n:Fin 256,(digitsS.contains (UInt8.ofNat n.val)=true)↔(48≤n.val∧n.val≤57):=by decide
 have h1:=h ⟨c.toNat,c.toNat_lt⟩
 simp only[UInt8.ofNat_toNat] at h1
 exact h1
theorem Dd (s cs:List UInt8):trimS s cs= []↔∀c∈s,cs.contains c=true:=by
 have hd:∀l:List UInt8,l.dropWhile (cs.contains ·)= []↔∀c∈l,cs.contains c=true:=by
  intro l
  induction l with
  | nil=>simp
  | cons x r ih=>
   simp only[List.dropWhile_cons,List.mem_cons,forall_eq_or_imp]
   by_cases h:cs.contains x=true
   ·rw[if_pos h,ih];simp only[h,true_and]
   ·rw[if_neg h];exact ⟨(fun e=>by cases e),(fun e=>(h e.1).elim)⟩
 have hmem:∀l:List UInt8,(∀c∈l.dropWhile (cs.contains ·),cs.contains c=true)↔∀c∈l,cs.contains c=true:=by
  intro l
  induction l with
  | nil=>simp
  | cons x r ih=>
   simp only[List.dropWhile_cons]
   by_cases h:cs.contains x=true
   ·rw[if_pos h,ih];simp only[List.mem_cons,forall_eq_or_imp,h,true_and]
   ·rw[if_neg h]
 unfold trimS trimLeftS trimRightS
 rw[hd]
 have:=hmem s.reverse
 simp only[List.mem_reverse] at this ⊢
 exact this
theorem Sm (s cs:List UInt8):(trimS s cs).length≤s.length:=by
 have h:∀l:List UInt8,(l.dropWhile (cs.contains ·)).length≤l.length:=fun l=>(List.dropWhile_sublist _).length_le
 unfold trimS trimLeftS trimRightS
 have h1:=h (s.reverse.dropWhile (cs.contains ·)).reverse
 have h2:=h s.reverse
 simp only[List.length_reverse] at h1 h2
 omega
theorem t156 (s:List UInt8):Tri Tryz.prog true 188 [S s,S digitsS] (S (trimS s digitsS)):=by
 intro ok w vs hg hok hr
 cases hr with
 | cons _ v1 _ vs1 h1 hr=>
 cases h1 with
 | str _ hl=>
 obtain ⟨rfl,_⟩:=tI hr
 have hl':s.length≤140737488355328:=hl
 refine (Any.strings_Trim_laid RL.lT (by kernel_rfl) ⟨s.toArray⟩ ⟨digitsS.toArray⟩ w (by show s.toArray.size≤ _;rw[List.size_toArray];omega) (by decide) (ascii_of_all (by decide))).mono ?_
 rintro e w' ⟨rfl,hb⟩
 exact ⟨_,rfl,hb,.str _ (by have:=Sm s digitsS;show _≤140737488355328;omega)⟩
def c156:Con:=aI 188 true fun args K=>match args with | [.str s,.str cs]=>Need (cs=digitsS) (K (S (trimS s digitsS))) | _=>False
theorem k156:aD Tryz.prog c156:=by
 refine kO Tryz.func188 fun args K h=>?_
 simp only[c156] at h;split at h
 ·rename_i s cs
  obtain ⟨rfl,h⟩:=h
  exact ⟨_,h,t156 _⟩
 ·exact h.elim
theorem ex9:Builder.Extra Tryz.prog RL.lR_ren where
 sizeBuilder:=by kernel_rfl
 liesBuilder:=by kernel_rfl
 t5:=Tryz.underlying5
 a5:=Tryz.isAgg5
 z5:=Tryz.sizeOf5
 v5:=Tryz.zeroValue5
 infoByte:=by kernel_rfl
 cellsByte:=by kernel_rfl
 sizeByte:=by kernel_rfl
 neB5:=by decide
theorem rJ (c:UInt8):∀n,repeatL [c] n=List.replicate n c
 | 0=>rfl
 | n+1=>by rw[repeatL,rJ c n];rfl
theorem t159 (c:UInt8) (n:Int) (hn:0≤n∧n≤1000):Tri Tryz.prog true 209 [S [c],I n] (S (List.replicate n.toNat c)):=by
 intro ok w vs hg hok hr
 cases hr with
 | cons _ v1 _ vs1 h1 hr=>
 cases h1 with
 | str _ hl=>
 obtain ⟨rfl,_⟩:=Kn hr
 obtain ⟨k,rfl⟩:∃k:Nat,n=k:=⟨n.toNat,by omega⟩
 refine (Any.strings_Repeat RL.lR ex9 ⟨[c].toArray⟩ k w (by omega) (by show 1*k≤ _;omega)).mono ?_
 rintro e w' ⟨rfl,hb⟩
 rw[Int.toNat_natCast,← rJ]
 exact ⟨_,rfl,hb,.str _ (by rw[rJ,List.length_replicate];show _≤140737488355328;omega)⟩
def c159:Con:=aI 209 true fun args K=>match args with | [.str [c],.val (.int .i64 n)]=>Need (0≤n∧n≤1000) (K (S (List.replicate n.toNat c))) | _=>False
theorem k159:aD Tryz.prog c159:=by
 refine kO Tryz.func209 fun args K h=>?_
 simp only[c159] at h;split at h
 ·exact ⟨_,h.go,t159 _ _ h.ok⟩
 ·exact h.elim
theorem nH {s:List UInt8} (h:digs s= []∨((digs s).headD 0=48∧s≠ [48])∨trimS (digs s) digitsS≠ []):chkI s=11:=by
 unfold chkI
 rw[if_neg]
 rintro ⟨h1,h2,h3⟩
 rcases h with h | h | h
 ·exact h1 h
 ·rcases h2 with h2 | h2
  ·exact h2 h.1
  ·exact h.2 h2
 ·exact h ((Dd _ _).2 fun c hc=>(Ae c).2 (h3 c hc))
theorem aBc {s:List UInt8} (h1:digs s≠ []) (h2:(digs s).headD 0=48→s= [48]) (h3:trimS (digs s) digitsS= []):form s:=
 ⟨h1,(Classical.em ((digs s).headD 0=48)).elim (fun e=>.inr (h2 e)) .inl,fun c hc=>(Ae c).1 ((Dd _ _).1 h3 c hc)⟩
theorem gK {s:List UInt8} (h:form s):chkI s=if 300<(digs s).length then 4 else 0:=by unfold chkI;rw[if_pos h]
def c127:Con:=aI 156 true fun args K=>match args with | [.str s]=>K (I (chkI s)) | _=>False
theorem k127:aD Tryz.prog c127:=by
 refine kQ {} Tryz.func156 Tryz.ntmps156 (kc k88 (kc k156 kn)) fun _ _ h=>?_
 split at h
 case h_2=>exact h.elim
 rename_i s
 refine kb h ?_
 (repeat refine ZG ?_)
 (apply Br.mk<;>intro)
 ·rename_i h
  rw[nH (.inl h)]
  (conv=>whnf)
  (repeat' first|rfl|apply And.intro)
 ·rename_i h
  have hpos:0<(digs s).length:=List.length_pos_iff.2 h
  have hb:aH (digs s) 0=48↔(digs s).headD 0=48:=by
   unfold aH
   cases hd:digs s with
   | nil=>rw[hd] at hpos;simp at hpos
   | cons c r=>
    show (c.toNat:Int)=48↔c=48
    constructor
    ·intro e
     have:c.toNat=(48:UInt8).toNat:=by show c.toNat=48;omega
     exact UInt8.toNat.inj this
    ·rintro rfl;rfl
  (repeat'((conv=>whnf);first|refine Zg fun _=>?_|refine Zn ?_|refine Z0 ?_|refine Zr (fun _=>?_) fun _=>?_|fail))
  all_goals (skip;(conv=>whnf);(repeat' first|rfl|apply And.intro))
  all_goals first
   | exact (nH (.inr (.inl ⟨hb.1 (by assumption),by assumption⟩))).symm
   | exact (nH (.inr (.inr (by assumption)))).symm
   | (have hf:form s:=aBc h (fun e=>by first | exact Classical.not_not.1 (by assumption) | exact absurd (hb.2 e) (by assumption)) (by exact Classical.not_not.1 (by assumption))
      rw[gK hf]
      first | (rw[if_pos (by omega)]) | (rw[if_neg (by omega)])
      done)
noncomputable def chk2 (a b:List UInt8):Int:=if chkI a≠0 then chkI a else chkI b
def c94:Con:=aI 104 true fun args K=>match args with | [.str a,.str b]=>K (I (chk2 a b)) | _=>False
theorem k94:aD Tryz.prog c94:=by
 refine kQ {} Tryz.func104 Tryz.ntmps104 (kc k127 kn) fun _ _ h=>?_
 split at h
 case h_2=>exact h.elim
 refine kb h ?_
 unfold chk2
 (apply Br.mk<;>intro)
 ·rename_i h
  rw[if_pos h]
  (conv=>whnf)
  (repeat' first|rfl|apply And.intro)
 ·rename_i h
  rw[if_neg h]
  (conv=>whnf)
  (repeat' first|rfl|apply And.intro)
theorem bR {s:List UInt8} (h:chkI s=0):form s∧(digs s).length≤300:=by
 unfold chkI at h
 split at h
 ·rename_i hf
  split at h
  ·cases h
  ·exact ⟨hf,by omega⟩
 ·cases h
theorem kE (s:List UInt8):(digs s).length≤s.length∧s.length≤(digs s).length+1:=by
 unfold digs
 split
 ·rw[List.length_tail];omega
 ·omega
theorem dM {s:List UInt8} (h:form s) (hl:s.length≤18): -1000000000000000000<valI s∧valI s<1000000000000000000:=by
 obtain ⟨h1,h2,h3⟩:=h
 have hb:=cE (digs s) h3
 have hp:(10:Nat)^ (digs s).length≤10^18:=Nat.pow_le_pow_right (by omega) (by have:=kE s;omega)
 have h18:(10:Nat)^18=1000000000000000000:=by decide
 have hv:valI s=aF (digs s)∨valI s= -(aF (digs s):Int):=by
  unfold valI digs
  split
  ·exact .inr rfl
  ·exact .inl rfl
 omega
theorem b95y (a b:List UInt8) (ha:form a) (hb:form b) (hs:a.length≤18∧b.length≤18):body Tryz.prog [c72] {} true Tryz.f105 [S a,S b,I 18] (.tup [I (valI a),I (valI b),.val (.bool true)]):=by
 have h1:=dM ha hs.1
 have h2:=dM hb hs.2
 have f1:fitI (valI a):=by unfold fitI;omega
 have f2:fitI (valI b):=by unfold fitI;omega
 (repeat'((conv=>whnf);first|refine Zg fun _=>?_|refine Zm ?_|fail))
 refine Need.mk ⟨ha,by omega⟩ ?_
 refine Br.mkY f1 ?_
 refine Need.mk ⟨hb,by omega⟩ ?_
 refine Br.mkY f2 ?_
 (repeat'((conv=>whnf);first|(apply Pin.mk;apply Exists.intro)|apply Pinned.mk rfl rfl|fail))
 (conv=>whnf)
 (repeat' first|exact trivial|rfl|apply And.intro)
theorem b95n (a b:List UInt8) (hs:¬(a.length≤18∧b.length≤18)):body Tryz.prog [c72] {} true Tryz.f105 [S a,S b,I 18] (.tup [I 0,I 0,.val (.bool false)]):=by
 (repeat'((conv=>whnf);first|refine Zg fun _=>?_|refine Zy ?_|refine Zr (fun _=>?_) fun _=>?_|fail))
 all_goals first | (exfalso;omega) | skip
 all_goals (skip;(conv=>whnf);(repeat' first|exact trivial|rfl|apply And.intro))
def c95:Con:=aI 105 true fun args K=>match args with
 | [.str a,.str b,.val (.int .i64 m)]=>Need (m=18∧form a∧form b) (Br (a.length≤18∧b.length≤18) (K (.tup [I (valI a),I (valI b),.val (.bool true)])) (K (.tup [I 0,I 0,.val (.bool false)])))
 | _=>False
theorem k95:aD Tryz.prog c95:=by
 refine kO Tryz.func105 fun args K h=>?_
 simp only[c95] at h;split at h
 ·rename_i a b m
  obtain ⟨⟨rfl,ha,hb⟩,h⟩:=h
  by_cases hs:a.length≤18∧b.length≤18
  ·exact ⟨_,h.yes hs,triB Tryz.func105 Tryz.ntmps105 (by simp[k72]) (b95y a b ha hb hs)⟩
  ·exact ⟨_,h.no hs,triB Tryz.func105 Tryz.ntmps105 (by simp[k72]) (b95n a b hs)⟩
 ·exact h.elim
abbrev itD (s:List UInt8) (i:Nat):List SV:=[I i,I (dgt s i)]
def c130:Con:=aI 158 false fun args K=>match args with | [.str s]=>K (.clo 191 [] [.lelem [S s] 0]) | _=>False
theorem k130:aD Tryz.prog c130:=by
 refine kQ {} Tryz.func158 Tryz.ntmps158 kn fun _ _ h=>?_
 split at h
 case h_2=>exact h.elim
 refine kb h ?_
 (conv=>whnf)
 (repeat' first|exact trivial|rfl|apply And.intro)
theorem Xs {s:List UInt8} (h:∀c∈s,aR c) {i:Nat} (hi:i<s.length):aH s (s.length-1-i)-48=dgt s i∧48≤aH s (s.length-1-i)∧aH s (s.length-1-i)≤57:=by
 have hj:s.length-1-i<s.length:=by omega
 have e:∀d:UInt8,s.getD (s.length-1-i) d=s[s.length-1-i]:=fun d=>by simp[List.getD_eq_getElem?_getD,hj]
 have hd:aR s[s.length-1-i]:=h _ (List.getElem_mem hj)
 unfold aH dgt
 rw[e,e]
 unfold aR at hd
 omega
theorem b161 (s:List UInt8) (h:∀c∈s,aR c):Hg Tryz.prog [] { asks:=[(0,[])] } Tryz.f191 [.lelem [S s] 0] s.length (itD s):=by
 (repeat'((conv=>whnf);first|refine Zg fun _=>?_|fail))
 refine Ask.mk ⟨{ X:=Nat,pre:=fun i=>i≤s.length,mod:=fun i _=>[(6,I i)],heap:=fun i _=>[.yst (some i) s.length (itD s)],mu:=fun i=>s.length-i },rfl,?_⟩
 (repeat refine ZG ?_)
 refine ⟨⟨(0:Nat),Nat.zero_le _,by (repeat' first|exact trivial|rfl|apply And.intro)⟩,fun (i:Nat) (hi:i≤s.length)=>?_⟩
 (apply Br.mk<;>intro)
 ·have hlt:i<s.length:=by omega
  obtain ⟨e1,e2,e3⟩:=Xs h hlt
  (repeat' first|refine ZG ?_|refine Zg fun _=>?_)
  refine cG (s.length-1-i) (by omega) ?_
  (repeat'((conv=>whnf);first|refine Zg fun _=>?_|refine Zn ?_|fail))
  refine Need.mk (by (repeat' first|exact trivial|rfl|apply And.intro);exact e1) ?_
  refine Two.mk ?_ ?_
  ·(repeat refine ZG ?_)
   refine ⟨(i+1:Nat),by show s.length-(i+1)<s.length-i;omega,hlt,?_⟩
   (repeat' first|exact trivial|rfl|apply And.intro)
  ·(conv=>whnf)
   trivial
 ·(conv=>whnf)
  omega
def c161:Con:=aI 191 false fun args K=>match args with | [.lelem [.str s] 0]=>Need (∀c∈s,aR c) (K (.itr s.length (itD s))) | _=>False
theorem k161:aD Tryz.prog c161:=by
 refine kO Tryz.func191 fun args K h=>?_
 simp only[c161] at h;split at h
 ·rename_i s;exact ⟨_,h.go,mM (by simp) Tryz.func191 (by simp[Tryz.ntmps191]) (b161 s h.ok)⟩
 ·exact h.elim
abbrev Af (i:Nat):Int:=if i=0 then 1 else 10^ ((i-1)%9+1)
theorem aBd (i:Nat) (h:i%9≠0):Af i=10^ (i%9):=by
 unfold Af
 rw[if_neg (by omega)]
 congr 1
 omega
theorem Sn (i:Nat):Af (i+1)=10^ (i%9)*10:=by
 unfold Af
 rw[if_neg (by omega),Nat.add_sub_cancel,Int.pow_succ]
theorem Xt (i:Nat):1≤(10:Int)^ (i%9)∧(10:Int)^ (i%9)≤100000000:=by
 have:i%9<9:=Nat.mod_lt _ (by omega)
 generalize i%9=k at this
 match k,this with
 | 0,_ | 1,_ | 2,_ | 3,_ | 4,_ | 5,_ | 6,_ | 7,_ | 8,_=>decide
abbrev nL (s:List UInt8):Nat:=(s.length+8)/9
def c98:Con:=aI 106 true fun args K=>match args with | [.str s]=>Need (form s∧(digs s).length≤600) (K (.agg [.bl (s.headD 0=45) inferInstance,Ls (aA B9 (aF (digs s)))])) | _=>False
theorem k98:aD Tryz.prog c98:=by
 refine kQ { asks:=[(0,[])] } Tryz.func106 Tryz.ntmps106 (kc k123 (kc k130 (kc k161 (kc k131 kn)))) fun _ _ h=>?_
 split at h
 case h_2=>exact h.elim
 rename_i s
 refine kb h.go ?_
 replace h:=h.ok
 obtain ⟨hf,hl⟩:=h
 have hd:=hf.2.2
 have hn:(digs s).length≤9*nL (digs s):=by unfold nL;omega
 have e9:(10:Nat)^9=B9:=by decide
 (repeat' first|refine ZG ?_|refine Zg fun _=>?_)
 refine Ask.mk ⟨{ X:=Nat,pre:=fun i=>i≤(digs s).length,mod:=fun _ _=>[],heap:=fun i H=>[hget H 0,V (rdK (digs s) (nL (digs s)) i),hget H 2,.cells [I (Af i)] 3],mu:=fun i=>i },rfl,?_⟩
 (repeat refine ZG ?_)
 refine ⟨⟨(0:Nat),rfl,Nat.zero_le _,?_⟩,fun (i:Nat) hi (hlt:i<(digs s).length)=>?_,fun (i:Nat) hi (he:i=(digs s).length)=>?_⟩
 ·(repeat' first|exact trivial|rfl|apply And.intro)
  (conv=>whnf)
  show List.replicate _ _=List.replicate _ _
  congr 1;unfold nL;omega
 ·obtain ⟨g1,g2,g3,g4,g5⟩:=zC hd hn i (by omega)
  have gd:=Pg hd hlt
  have gi:=get9 g2 (i/9)
  have gu:=Xt i
  have hi9:i/9<nL (digs s):=by unfold nL;omega
  have g5:(rdK (digs s) (nL (digs s)) i).getD (i/9) 0<(10:Int)^ (i%9):=g5
  have hm:0≤dgt (digs s) i*10^ (i%9)∧dgt (digs s) i*10^ (i%9)≤9*100000000:=⟨Int.mul_nonneg gd.1 (by omega),Int.le_trans (Int.mul_le_mul_of_nonneg_right gd.2.1 (by omega)) (Int.mul_le_mul_of_nonneg_left gu.2 (by omega))⟩
  have hst:rdK (digs s) (nL (digs s)) (i+1)=(rdK (digs s) (nL (digs s)) i).set (i/9) ((rdK (digs s) (nL (digs s)) i).getD (i/9) 0+dgt (digs s) i*10^ (i%9)):=rfl
  have hun:=Sn i
  show hnfL (itD (digs s) i) _
  (repeat' first|refine ZG ?_|refine Zg fun _=>?_)
  (apply Br.mk<;>intro)
  ·rename_i hz
   have hz:i%9=0:=by omega
   rw[hz] at hm hst hun
   (repeat'((conv=>whnf);first|refine Zg fun _=>?_|refine Za ?_|refine Zn ?_|refine Zj ?_|(apply Pin.mk;apply Exists.intro)|apply Pinned.mk rfl rfl|fail))
   refine Need.mk (show -9223372036854775808≤(rdK (digs s) (nL (digs s)) i).getD (i/9) 0+dgt (digs s) i*1∧(rdK (digs s) (nL (digs s)) i).getD (i/9) 0+dgt (digs s) i*1≤9223372036854775807 by omega) ?_
   (repeat refine ZG ?_)
   refine ⟨(i+1:Nat),rfl,hlt,?_⟩
   (repeat' first|exact trivial|rfl|apply And.intro|omega)
   exact hst.symm
  ·rename_i hz
   have hz:i%9≠0:=by omega
   rw[← aBd i hz] at hm hst hun gu
   (repeat'((conv=>whnf);first|refine Zg fun _=>?_|refine Za ?_|refine Zn ?_|refine Zj ?_|(apply Pin.mk;apply Exists.intro)|apply Pinned.mk rfl rfl|fail))
   refine Need.mk (show -9223372036854775808≤(rdK (digs s) (nL (digs s)) i).getD (i/9) 0+dgt (digs s) i*Af i∧(rdK (digs s) (nL (digs s)) i).getD (i/9) 0+dgt (digs s) i*Af i≤9223372036854775807 by omega) ?_
   (repeat refine ZG ?_)
   refine ⟨(i+1:Nat),rfl,hlt,?_⟩
   (repeat' first|exact trivial|rfl|apply And.intro|omega)
   exact hst.symm
 ·subst he
  (conv=>whnf)
  (repeat' first|exact trivial|rfl|apply And.intro)
  have:=aAb hd hn
  rw[e9] at this
  exact this
theorem aCv:Builder.X72 Tryz.prog RL.lC_ren where
 sizeBuilder:=by kernel_rfl
 liesBuilder:=by kernel_rfl
theorem ex160:Builder.Extra Tryz.prog RL.lS_ren where
 sizeBuilder:=by kernel_rfl
 liesBuilder:=by kernel_rfl
 t5:=Tryz.underlying5
 a5:=Tryz.isAgg5
 z5:=Tryz.sizeOf5
 v5:=Tryz.zeroValue5
 infoByte:=by kernel_rfl
 cellsByte:=by kernel_rfl
 sizeByte:=by kernel_rfl
 neB5:=by decide
def De (nm:Nat) (A:SV):Prop:=A= .val (.pointer none)∨A= .ptr nm 0
def c178:Con:=nM 237 fun args H K=>match args with
 | [.ptr nm 0]=>(match hget H nm with
  | .cells [A,x] e=>Need (De nm A∧e=261) <| K (.tup []) (hset H nm (.cells [.ptr nm 0,x] 261))
  | _=>False)
 | _=>False
theorem k178:aD Tryz.prog c178:=by
 refine gE (enters_of Tryz.func237 (by kernel_rfl) rfl) ?_
 intro args H K h
 split at h
 case h_2=>exact h.elim
 rename_i nm
 split at h
 case h_2=>exact h.elim
 rename_i A x e ho
 obtain ⟨⟨hA,rfl⟩,hK⟩:=h
 refine ⟨fun s H'=>s= .tup []∧H'=hset H nm (.cells [.ptr nm 0,x] 261),fun s H' e=>by rw[e.1,e.2];exact hK,?_⟩
 intro G loc ver w vs hC hI hr
 cases hr with
 | cons _ v1 _ vs1 h1 hr=>
 cases hr
 obtain ⟨b,hbk,rfl⟩:=lH hI h1 (by simp only[live,ho])
 have hn:=aC ho (by simp)
 obtain ⟨h0,b',vals,g1,g2,g3⟩:=hI.objs nm _ hn
 rw[hbk] at g1;cases g1
 replace g2:w.heap[b]? =some (.cells ⟨vals⟩ 261 (0,0)):=g2
 cases g3 with
 | cons _ u _ us r1 r2=>
 cases r2 with
 | cons _ u2 _ us2 r2 r3=>
 cases r3
 have hfin:∀w':World,w'.heap.size=w.heap.size→w'.os=w.os→w'.tape=w.tape→w'.output=w.output→(∀k,k≠b→w'.heap[k]? =w.heap[k]?)→w'.heap[b]? =some (.cells #[.pointer (some ⟨b,0,none⟩),u2] 261 (0,0))→Res G (envOf G H loc ver w) (fun s H'=>s= .tup []∧H'=hset H nm (.cells [.ptr nm 0,x] 261)) (.tuple #[]) w':=by
  intro w' q1 q2 q3 q4 q5 q6
  have hin:=hI.inPlace (w':=w') (o':=.cells [.ptr nm 0,x] 261) hn (b:=b) (by simp[Owns,hbk]) (fun _ h=>h) q1 q2 q3 q4 q5
   (fun hx'=>⟨h0,b,[.pointer (some ⟨b,0,none⟩),u2],hbk,q6,.cons _ _ _ _ (h1.ext hx') (.cons _ _ _ _ (r2.ext hx') .nil)⟩)
  exact ⟨_,_,_,_,⟨rfl,rfl⟩,hin.1,.tup [] [] .nil,hin.2⟩
 rcases hA with rfl | rfl
 ·cases r1
  refine (Any.Builder_copyCheck_fresh RL.lC aCv b w (by rw[Lib.cell_of_heap g2];rfl) (by unfold World.shape?;rw[g2];rfl) (Lib.frozen_of_heap g2 0)).mono ?_
  rintro e w' ⟨rfl,rfl⟩
  exact ⟨_,rfl,hfin _ (by simp[World.setCell]) rfl rfl rfl (fun k hk=>Below.heap_setCell w _ _ k hk) (by unfold World.setCell;rw[Array.getElem?_modify];simp[g2])⟩
 ·obtain ⟨b2,hb2,rfl⟩:=lH hI r1 (by simp only[live,ho])
  rw[hbk] at hb2;cases hb2
  refine (Any.Builder_copyCheck_used RL.lC aCv b w (by rw[Lib.cell_of_heap g2];rfl)).mono ?_
  rintro e w' ⟨rfl,rfl⟩
  exact ⟨_,rfl,hfin _ rfl rfl rfl rfl (fun _ _=>rfl) g2⟩
abbrev H3 (p:Prop) (hp:Decidable p) (a:List Int) (A:SV) (k:Nat) (bs:List Int):List HO:=[.cells [.bl p hp,Ls a] 171,.cells [A,.ref 2 k] 261,.vec k (.int .u8) bs 5]
theorem b157 (p:Prop) (hp:Decidable p) (a:List Int) (A:SV) (hA:De 1 A) (bs:List Int) (hl:bs.length≤1000000):
  gC Tryz.prog [c178] {} Tryz.f207 [.ptr 1 0,.val (.int .u8 45)] (H3 p hp a A 1 bs) (fun s H'=>s= .val .nilIface∧H'=H3 p hp a (.ptr 1 0) 2 (List.append (α:=Int) bs [45])):=by
 (conv=>whnf)
 refine Need.mk rfl ?_
 (repeat refine ZG ?_)
 (conv=>whnf)
 refine ⟨_,_,⟨rfl,rfl⟩,rfl,rfl,rfl,rfl,?_⟩
 (repeat' first|exact trivial|rfl|apply And.intro)
theorem b158 (p:Prop) (hp:Decidable p) (a:List Int) (A:SV) (hA:De 1 A) (k:Nat) (hk:k=1∨k=2) (bs:List Int) (s:List UInt8) (hl:bs.length+s.length≤1000000):
  gC Tryz.prog [c178] {} Tryz.f208 [.ptr 1 0,S s] (H3 p hp a A k bs++ [.gone]) (fun r H'=>r= .tup [I s.length,.val .nilIface]∧H'=H3 p hp a (.ptr 1 0) (k+1) (List.append (α:=Int) bs (aM s))++ [.gone]):=by
 rcases hk with rfl | rfl
 ·(conv=>whnf)
  refine Need.mk rfl ?_
  (repeat' first|refine ZG ?_|refine Zg fun _=>?_)
  (conv=>whnf)
  refine ⟨_,_,⟨rfl,rfl⟩,rfl,?_,rfl,rfl,?_⟩
  all_goals (repeat' first|exact trivial|rfl|apply And.intro)
 ·(conv=>whnf)
  refine Need.mk rfl ?_
  (repeat' first|refine ZG ?_|refine Zg fun _=>?_)
  (conv=>whnf)
  refine ⟨_,_,⟨rfl,rfl⟩,rfl,?_,rfl,rfl,?_⟩
  all_goals (repeat' first|exact trivial|rfl|apply And.intro)
def c157:Con:=nM 207 fun args H K=>match args,H with
 | [.ptr 1 0,.val (.int .u8 45)],[.cells [.bl p hp,.seq (.int .i64) a] e1,.cells [A,.ref 2 1] e2,.vec 1 (.int .u8) bs e3]=>
  Need (De 1 A∧e1=171∧e2=261∧e3=5∧List.length (α:=Int) bs≤1000000) (K (.val .nilIface) (H3 p hp a (.ptr 1 0) 2 (List.append (α:=Int) bs [45])))
 | _,_=>False
theorem k157:aD Tryz.prog c157:=by
 refine gE (enters_of Tryz.func207 (by kernel_rfl) rfl) ?_
 intro args H K h
 split at h
 ·obtain ⟨⟨hA,rfl,rfl,rfl,hl⟩,hK⟩:=h
  refine ⟨_,?_,aY (by simp[k178]) Tryz.func207 (by simp[Tryz.ntmps207]) (b157 _ _ _ _ hA _ hl)⟩
  rintro s H' ⟨rfl,rfl⟩
  exact hK
 ·exact h.elim
def c158:Con:=nM 208 fun args H K=>match args,H with
 | [.ptr 1 0,.str s],[.cells [.bl p hp,.seq (.int .i64) a] e1,.cells [A,.ref 2 k] e2,.vec k' (.int .u8) bs e3,.gone]=>
  Need (De 1 A∧k'=k∧(k=1∨k=2)∧e1=171∧e2=261∧e3=5∧List.length (α:=Int) bs+s.length≤1000000) (K (.tup [I s.length,.val .nilIface]) (H3 p hp a (.ptr 1 0) (k+1) (List.append (α:=Int) bs (aM s))++ [.gone]))
 | _,_=>False
theorem k158:aD Tryz.prog c158:=by
 refine gE (enters_of Tryz.func208 (by kernel_rfl) rfl) ?_
 intro args H K h
 split at h
 ·obtain ⟨⟨hA,rfl,hk,rfl,rfl,rfl,hl⟩,hK⟩:=h
  refine ⟨_,?_,aY (by simp[k178]) Tryz.func208 (by simp[Tryz.ntmps208]) (b158 _ _ _ _ hA _ hk _ _ hl)⟩
  rintro s H' ⟨rfl,rfl⟩
  exact hK
 ·exact h.elim
set_option maxRecDepth 100000 in
theorem So {P:Program} {ρ:Ren} (L:Lays.n169 P ρ) (X:Builder.Extra P ρ) (b g cap:Nat) (p:Value) (cur:Array Value) (l:List UInt8) (w:World) (h0:l≠ []) (hbk:w.heap[b]? =some (.cells #[p,.slice (some ⟨g,0,none⟩) l.length cap] (ρ.t 72) (0,0)))
  (hg:w.heap[g]? =some (.cells cur (ρ.t 5) (0,0))) (hnc:l.length≤cap) (hcm:cap≤maxLen) (hcs:cap≤cur.size) (hcell:∀(j:Nat) (x:UInt8),l[j]? =some x→cur[j]? =some (Value.int .u8 x.toNat)):
  Calls P (ρ.f 169) #[.pointer (some ⟨b,0,none⟩)] w fun e w'=>e= .returned (.string ⟨l.toArray⟩)∧w'=w.drew.freeze ⟨g,0,none⟩ l.length:=by
 have hl0:l.length≠0:=by simpa using h0
 have c1:w.drew.cell? ⟨b,1,none⟩=some (.slice (some ⟨g,0,none⟩) l.length cap):=by
  have:w.drew.heap[b]? =some (.cells #[p,.slice (some ⟨g,0,none⟩) l.length cap] (ρ.t 72) (0,0)):=hbk
  rw[Lib.cell_of_heap this];rfl
 have hSD:(Builtin.unsafeSliceData_ #[(ρ.t 37)] (ρ.t 127) #[.slice (some ⟨g,0,none⟩) l.length cap]).run P w.drew= .ok (.pointer (some ⟨g,0,none⟩)) w.drew:=
  Lib.run_unsafeSliceData_row _ _ _ _ _ _ (by omega)
 have hUS:(Builtin.unsafeString_ #[(ρ.t 127),(ρ.t 3)] (ρ.t 9) #[.pointer (some ⟨g,0,none⟩),.int .i64 l.length]).run P w.drew= .ok (.string ⟨l.toArray⟩) (w.drew.freeze ⟨g,0,none⟩ l.length):=by
  refine Lib.run_unsafeString_row w.drew (ρ.t 127) (ρ.t 3) (ρ.t 9) (ρ.t 5) L.t127 X.cellsByte g cur.size (by have hg':w.drew.heap[g]? =some (.cells cur (ρ.t 5) (0,0)):=hg;simp[World.shape?,hg']) l h0 (by omega) (by unfold maxLen at hcm;omega) ?_
  intro j x hx
  have hg':w.drew.heap[g]? =some (.cells cur (ρ.t 5) (0,0)):=hg
  rw[Addr.add_mid,Lib.cell_of_heap hg',Nat.zero_add]
  exact hcell j x hx
 have mixed:=L.mixed
 have t72:=L.t72;have a72:=L.a72;have z72:=L.z72;have v72:=L.v72;have u72:=run_underlying L.t72
 have t70:=L.t70;have a70:=L.a70;have z70:=L.z70;have v70:=L.v70;have u70:=run_underlying L.t70
 have t37:=L.t37;have a37:=L.a37;have z37:=L.z37;have v37:=L.v37;have u37:=run_underlying L.t37
 have t127:=L.t127;have a127:=L.a127;have z127:=L.z127;have v127:=L.v127;have u127:=run_underlying L.t127
 have t3:=L.t3;have a3:=L.a3;have z3:=L.z3;have v3:=L.v3;have u3:=run_underlying L.t3
 have t9:=L.t9;have a9:=L.a9;have z9:=L.z9;have v9:=L.v9;have u9:=run_underlying L.t9
 have t5:=X.t5;have a5:=X.a5;have z5:=X.z5;have v5:=X.v5;have u5:=run_underlying X.t5
 go_enter L.f169,Body.n169_ntmps ρ
 go_wp2
 go_region_o
 all_goals (go_wp2;go_ret;exact ⟨rfl,rfl⟩)
def ofI (bs:List Int):List UInt8:=bs.map fun n=>UInt8.ofNat n.toNat
theorem Ag (l:List UInt8):ofI (aM l)=l:=by
 unfold ofI aM
 rw[List.map_map]
 conv=>rhs;rw[← List.map_id l]
 refine List.map_congr_left fun x _=>?_
 simp
def c160:Con:=nM 210 fun args H K=>match args with
 | [.ptr nm 0]=>(match hget H nm with
  | .cells [A,.ref nm2 k] e=>(match hget H nm2 with
   | .vec k' (.int .u8) bs e'=>Need (De nm A∧k'=k∧e=261∧e'=5∧0<List.length (α:=Int) bs∧nm≠nm2) (K (.str (ofI bs)) (hset H nm2 .dead))
   | _=>False)
  | _=>False)
 | _=>False
theorem k160:aD Tryz.prog c160:=by
 refine gE (enters_of Tryz.func210 (by kernel_rfl) rfl) ?_
 intro args H K h
 split at h
 case h_2=>exact h.elim
 rename_i nm
 split at h
 case h_2=>exact h.elim
 rename_i A nm2 k e ho
 split at h
 case h_2=>exact h.elim
 rename_i k' bs e' ho2
 obtain ⟨⟨hA,hkk,rfl,rfl,hpos,hne⟩,hK⟩:=h
 subst hkk
 refine ⟨fun s H'=>s= .str (ofI bs)∧H'=hset H nm2 .dead,fun s H' e=>by rw[e.1,e.2];exact hK,?_⟩
 intro G loc ver w vs hC hI hr
 cases hr with
 | cons _ v1 _ vs1 h1 hr=>
 cases hr
 obtain ⟨b,hbk,rfl⟩:=lH hI h1 (by simp only[live,ho])
 have hn:=aC ho (by simp)
 have hn2:=aC ho2 (by simp)
 obtain ⟨h0,b',vals,g1,g2,g3⟩:=hI.objs nm _ hn
 rw[hbk] at g1;cases g1
 replace g2:w.heap[b]? =some (.cells ⟨vals⟩ 261 (0,0)):=g2
 cases g3 with
 | cons _ u _ us r1 r2=>
 cases r2 with
 | cons _ u2 _ us2 r2 r3=>
 cases r3
 obtain ⟨hu2,hlt2⟩:=iT hI r2 ho2
 subst hu2
 obtain ⟨q1,q2,hlen,hmax,vs2,hown,hel⟩:=hI.objs nm2 _ hn2
 have hlen':(loc nm2).len=List.length (α:=Int) bs:=hlen
 have hmax':(loc nm2).len≤140737488355328:=hmax
 have hel':∀i,i<(loc nm2).len→Reads w (okN G H loc w) (.int .u8) (List.getD (α:=Int) bs i 0) ((vs2.drop (i*1)).take 1):=hel
 rcases aO hown with ⟨_,_,_,e4⟩ | ⟨g,cur,e1,e2,e3,e4,e5,e6,e7⟩
 ·omega
 have e3':w.heap[g]? =some (.cells cur 5 (0,0)):=e3
 have hol:(ofI bs).length=List.length (α:=Int) bs:=by simp[ofI]
 have e7':cur.toList.take (List.length (α:=Int) bs)=vs2:=by rw[← hlen'];simpa [Ty.size] using e7
 have hcell:∀(j:Nat) (x:UInt8),(ofI bs)[j]? =some x→cur[j]? =some (Value.int .u8 x.toNat):=by
  intro j x hj
  have hjl:j<List.length (α:=Int) bs:=by rw[← hol];exact (List.getElem?_eq_some_iff.1 hj).1
  have hR:=hel' j (by omega)
  have hg1:List.getD (α:=Int) bs j 0=bs[j]:=by simp[List.getD_eq_getElem?_getD,hjl]
  have hx:x=UInt8.ofNat (bs[j]:Int).toNat:=by
   simp[ofI,hjl] at hj
   exact hj.symm
  obtain ⟨hR1,hR2⟩:=hR
  have hR2:(0:Int)≤List.getD (α:=Int) bs j 0∧List.getD (α:=Int) bs j 0≤255:=hR2
  have hjc:(cur.toList.take (List.length (α:=Int) bs))[j]? =some (Value.int .u8 (List.getD (α:=Int) bs j 0)):=by
   rw[e7']
   have h1:((vs2.drop (j*1)).take 1)[0]? =some (Value.int .u8 (List.getD (α:=Int) bs j 0)):=by rw[hR1];rfl
   simpa using h1
  rw[List.getElem?_take,if_pos hjl] at hjc
  rw[← Array.getElem?_toList,hjc,hx]
  rw[hg1] at hR2 ⊢
  congr 2
  simp only[UInt8.toNat_ofNat']
  omega
 have hhead:(loc nm2).head= .slice (some ⟨g,0,none⟩) (ofI bs).length (loc nm2).cap:=by simp[Core.head,e1,e2,hlen',hol]
 have hb3:w.heap[b]? =some (.cells #[u,.slice (some ⟨g,0,none⟩) (ofI bs).length (loc nm2).cap] 261 (0,0)):=by rw[← hhead];exact g2
 refine (So RL.lS ex160 b g (loc nm2).cap u cur (ofI bs) w (by intro e;rw[e] at hol;simp at hol;omega) hb3 e3' (by omega) e5 (by simpa [Ty.size] using e6) hcell).mono ?_
 rintro e w' ⟨rfl,rfl⟩
 refine ⟨_,rfl,?_⟩
 have hfr:∀c,c≠g→(w.drew.freeze ⟨g,0,none⟩ (ofI bs).length).heap[c]? =w.heap[c]? :=by
  intro c hc
  unfold World.freeze
  split
  ·rfl
  ·show (w.heap.modify _ _)[c]? = _
   rw[Array.getElem?_modify,if_neg (fun e=>hc e.symm)]
 have hsz:(w.drew.freeze ⟨g,0,none⟩ (ofI bs).length).heap.size=w.heap.size:=by
  unfold World.freeze
  split
  ·rfl
  ·simp
 have hin:=hI.inPlace (w':=w.drew.freeze ⟨g,0,none⟩ (ofI bs).length) (o':=.dead) hn2 (b:=g) (by simp[Owns,e1]) (fun _ h=>h.elim) hsz (by unfold World.freeze;split<;>rfl) (by unfold World.freeze;split<;>rfl) (by unfold World.freeze;split<;>rfl) hfr (fun _=>trivial)
 exact ⟨_,_,_,_,⟨rfl,rfl⟩,hin.1,.str _ (by show (ofI bs).length≤140737488355328;omega),hin.2⟩
theorem kX (a b:List UInt8):aM (a++b)=List.append (α:=Int) (aM a) (aM b):=by simp[aM]
theorem vV (p w r t:List UInt8):List.append (α:=Int) (List.append (α:=Int) (aM (p++w)) (aM r)) (aM t)=aM (p++(w++(r++t))):=by
 rw[← kX,← kX]
 simp only[List.append_assoc]
theorem Ko (p w t:List UInt8):List.append (α:=Int) (aM (p++w)) (aM t)=aM (p++(w++([]++t))):=by
 rw[← kX,List.append_assoc,List.nil_append]
def wrA:Nat→SV
 | 0=>.val (.pointer none)
 | _+1=>.ptr 1 0
theorem Qs {x:Int} (h:0≤x∧x<1000000000):(itoa x).length≤9:=by
 unfold itoa
 rw[if_neg (by omega)]
 exact iJ 8 _ (by omega)
theorem Ah {x:Int}:0<(itoa x).length:=by
 cases h:itoa x with
 | nil=>exact absurd h (by unfold itoa;split<;>simp[zD])
 | cons=>simp
theorem Qt (a:List Int) (m:Nat):0<(wrK a (m+1)).length:=by
 have:=Ah (x:=a.getD (a.length-1-m) 0)
 show 0<(wrK a m++((if 0<m then List.replicate (9-(itoa (a.getD (a.length-1-m) 0)).length) 48 else [])++itoa (a.getD (a.length-1-m) 0))).length
 simp only[List.length_append];omega
theorem wO {a:List Int} (h:InB B9 a):∀i,(wrK a i).length≤9*i
 | 0=>Nat.le_refl _
 | i+1=>by
  have h1:=wO h i
  have h2:=Qs (get9 h (a.length-1-i))
  show (wrK a i++((if 0<i then List.replicate (9-(itoa (a.getD (a.length-1-i) 0)).length) 48 else [])++itoa (a.getD (a.length-1-i) 0))).length≤9*(i+1)
  by_cases h0:0<i
  ·rw[if_pos h0];simp only[List.length_append,List.length_replicate];omega
  ·rw[if_neg h0];simp only[List.length_append,List.length_nil];omega
theorem b128 (p:Prop) (hp:Decidable p) (a:List Int) (h:InB B9 a∧a.length≤200):body Tryz.prog [c157,c158,c160,c61,c159,c135,c166] { asks:=[(0,[2])] } true Tryz.f175 [.agg [.bl p hp,Ls a]] (S (if a= [] then [48] else (if p then [45] else [])++wrK a a.length)):=by
 (repeat'((conv=>whnf);first|refine Zg fun _=>?_|fail))
 (apply Br.mk<;>intro)
 ·rename_i hz
  have e:a= []:=List.eq_nil_of_length_eq_zero (by omega)
  (conv=>whnf)
  rw[if_pos e]
 ·rename_i hz
  refine Own.r ?_
  (conv=>whnf)
  refine ⟨1,.int .u8,5,?_⟩
  (apply Br.mk<;>intro)
  ·rename_i hp'
   (conv=>whnf)
   refine Need.mk ⟨.inl rfl,rfl,rfl,rfl,Nat.zero_le _⟩ ?_
   (conv=>whnf)
   refine Ask.mk ⟨{ X:=Nat,pre:=fun i=>i≤a.length,mod:=fun i _=>[],heap:=fun i H=>[hget H 0,.cells [.ptr 1 0,.ref 2 1] 261,.vec 1 (.int .u8) (aM ([45]++wrK a i)) 5],mu:=fun i=>i,objs:=[2] },rfl,?_⟩
   (repeat refine ZN ?_)
   refine ⟨⟨(0:Nat),rfl,Nat.zero_le _,?_⟩,fun (i:Nat) hi (hlt:i<a.length)=>?_,fun (i:Nat) hi (he:i=a.length)=>?_⟩
   ·(repeat' first|exact trivial|rfl|exact Nat.one_pos|apply And.intro)
   ·have hx:=Qs (get9 h.1 (a.length-1-i))
    have hb:([45]++wrK a i).length≤1+9*i:=by have:=wO h.1 i;simp only[List.length_append,List.length_cons,List.length_nil];omega
    rw[← bP] at hb
    have h2:=h.2
    have hst:wrK a (i+1)=wrK a i++((if 0<i then List.replicate (9-(itoa (a.getD (a.length-1-i) 0)).length) 48 else [])++itoa (a.getD (a.length-1-i) 0)):=rfl
    show hnfL (itB a i) _
    (repeat' first|refine ZG ?_|refine Zg fun _=>?_)
    (apply Br.mk<;>intro)
    ·rw[if_pos (by omega)] at hst
     (repeat'((conv=>whnf);first|refine Zg fun _=>?_|refine Zn ?_|fail))
     refine Need.mk ⟨.inr rfl,rfl,.inl rfl,rfl,rfl,rfl,?_⟩ ?_
     ·show _+(List.replicate (9-((itoa (a.getD (a.length-1-i) 0)).length:Int)).toNat 48).length≤1000000
      rw[List.length_replicate];omega
     refine Need.mk ⟨.inr rfl,rfl,.inr rfl,rfl,rfl,rfl,?_⟩ ?_
     ·show (List.append (α:=Int) _ (aM (List.replicate (9-((itoa (a.getD (a.length-1-i) 0)).length:Int)).toNat 48))).length+ _≤1000000
      show (_++ _:List Int).length+ _≤ _
      rw[List.length_append,bP (List.replicate _ _),List.length_replicate];omega
     refine ⟨(i+1:Nat),rfl,hlt,?_⟩
     (repeat' first|exact trivial|rfl|exact Nat.one_pos|apply And.intro)
     rw[hst,show (9-((itoa (a.getD (a.length-1-i) 0)).length:Int)).toNat=9-(itoa (a.getD (a.length-1-i) 0)).length by omega]
     exact vV [45] _ _ _
    ·rw[if_neg (by omega)] at hst
     refine Need.mk ⟨.inr rfl,rfl,.inl rfl,rfl,rfl,rfl,by omega⟩ ?_
     refine ⟨(i+1:Nat),rfl,hlt,?_⟩
     (repeat' first|exact trivial|rfl|exact Nat.one_pos|apply And.intro)
     rw[hst]
     exact Ko [45] _ _
   ·subst he
    have hpos:0<(aM ([45]++wrK a a.length)).length:=by
     rw[bP]
     obtain ⟨m,hm⟩:∃m,a.length=m+1:=⟨a.length-1,by omega⟩
     have:=Qt a m
     rw[hm,List.length_append];omega
    refine Need.mk ⟨.inr rfl,rfl,rfl,rfl,hpos,by show (1:Nat)≠2;decide⟩ ?_
    (conv=>whnf)
    rw[if_neg (by intro e;rw[e] at hz;exact hz rfl),if_pos hp',Ag]
  ·rename_i hp'
   refine Ask.mk ⟨{ X:=Nat,pre:=fun i=>i≤a.length,mod:=fun i _=>[],heap:=fun i H=>[hget H 0,.cells [wrA i,.ref 2 1] 261,.vec 1 (.int .u8) (aM ([]++wrK a i)) 5],mu:=fun i=>i,objs:=[2] },rfl,?_⟩
   (repeat refine ZN ?_)
   refine ⟨⟨(0:Nat),rfl,Nat.zero_le _,?_⟩,fun (i:Nat) hi (hlt:i<a.length)=>?_,fun (i:Nat) hi (he:i=a.length)=>?_⟩
   ·(repeat' first|exact trivial|rfl|exact Nat.one_pos|apply And.intro)
   ·have h2:=h.2
    rcases i with _ | k
    ·have hx:=Qs (get9 h.1 (a.length-1-(0)))
     have hb:([]++wrK a (0)).length≤1+9*(0):=by have:=wO h.1 (0);simp only[List.length_append,List.length_nil];omega
     rw[← bP] at hb
     have hst:wrK a (0+1)=wrK a (0)++((if 0<(0) then List.replicate (9-(itoa (a.getD (a.length-1-(0)) 0)).length) 48 else [])++itoa (a.getD (a.length-1-(0)) 0)):=rfl
     show hnfL (itB a (0)) _
     (repeat' first|refine ZG ?_|refine Zg fun _=>?_)
     (apply Br.mk<;>intro)
     ·exfalso;omega
     ·rw[if_neg (by omega)] at hst
      refine Need.mk ⟨.inl rfl,rfl,.inl rfl,rfl,rfl,rfl,by omega⟩ ?_
      refine ⟨(0+1:Nat),rfl,hlt,?_⟩
      (repeat' first|exact trivial|rfl|exact Nat.one_pos|apply And.intro)
    ·have hx:=Qs (get9 h.1 (a.length-1-(k+1)))
     have hb:([]++wrK a (k+1)).length≤1+9*(k+1):=by have:=wO h.1 (k+1);simp only[List.length_append,List.length_nil];omega
     rw[← bP] at hb
     have hst:wrK a (k+1+1)=wrK a (k+1)++((if 0<(k+1) then List.replicate (9-(itoa (a.getD (a.length-1-(k+1)) 0)).length) 48 else [])++itoa (a.getD (a.length-1-(k+1)) 0)):=rfl
     show hnfL (itB a (k+1)) _
     (repeat' first|refine ZG ?_|refine Zg fun _=>?_)
     (apply Br.mk<;>intro)
     ·rw[if_pos (by omega)] at hst
      (repeat'((conv=>whnf);first|refine Zg fun _=>?_|refine Zn ?_|fail))
      refine Need.mk ⟨.inr rfl,rfl,.inl rfl,rfl,rfl,rfl,?_⟩ ?_
      ·show _+(List.replicate (9-((itoa (a.getD (a.length-1-(k+1)) 0)).length:Int)).toNat 48).length≤1000000
       rw[List.length_replicate];omega
      refine Need.mk ⟨.inr rfl,rfl,.inr rfl,rfl,rfl,rfl,?_⟩ ?_
      ·show (List.append (α:=Int) _ (aM (List.replicate (9-((itoa (a.getD (a.length-1-(k+1)) 0)).length:Int)).toNat 48))).length+ _≤1000000
       show (_++ _:List Int).length+ _≤ _
       rw[List.length_append,bP (List.replicate _ _),List.length_replicate];omega
      refine ⟨(k+1+1:Nat),rfl,hlt,?_⟩
      (repeat' first|exact trivial|rfl|exact Nat.one_pos|apply And.intro)
      rw[hst,show (9-((itoa (a.getD (a.length-1-(k+1)) 0)).length:Int)).toNat=9-(itoa (a.getD (a.length-1-(k+1)) 0)).length by omega]
      exact vV [] _ _ _
     ·exfalso;omega
   ·obtain ⟨m,rfl⟩:∃m,i=m+1:=⟨i-1,by omega⟩
    have hpos:0<(aM ([]++wrK a (m+1))).length:=by
     rw[bP]
     exact Qt a m
    refine Need.mk ⟨.inr rfl,rfl,rfl,rfl,hpos,by show (1:Nat)≠2;decide⟩ ?_
    (conv=>whnf)
    rw[if_neg (by intro e;rw[e] at hz;exact hz rfl),if_neg hp',Ag,he]
def vW (a:List Int):Prop:=a=aA B9 (valB B9 a).toNat∧a.length≤200
theorem cT {m:Nat} (h:m<B9^200):vW (aA B9 m):=by
 refine ⟨by rw[cJ (by decide),Int.toNat_natCast],?_⟩
 rcases Nat.eq_zero_or_pos m with rfl | hm
 ·rw[aW];exact Nat.zero_le _
 ·obtain ⟨h1,_,h3⟩:=dC (B:=B9) (by decide) hm
  have h1:B9^ ((aA B9 m).length-1)≤m:=by exact_mod_cast h1
  have:=(Nat.pow_lt_pow_iff_right (show 1<B9 by decide)).1 (Nat.lt_of_le_of_lt h1 h)
  omega
theorem Kp {a:List Int} (h:vW a):InB B9 a:=by rw[h.1];exact aN (by decide) _
def sgP (p:Prop) [Decidable p] (n:Int):Int:=if p then -n else n
theorem Xu (p:Prop) [hp:Decidable p] {a:List Int} (h:vW a):(if a= [] then [48] else (if p then [45] else [])++wrK a a.length)=itoa (sgP p (valB B9 a)):=by
 have hz:=cJ (B:=B9) (by decide) (valB B9 a).toNat
 rw[← h.1] at hz
 by_cases e:a= []
 ·rw[if_pos e]
  subst e
  have:sgP p (valB B9 [])=0:=by unfold sgP;split<;>rfl
  rw[this]
  unfold itoa
  rw[if_neg (by omega)]
  exact (bQ (show 0<10 by omega)).symm
 ·rw[if_neg e]
  have hl:a.getLast e≠0:=by
   have:=mW (B:=B9) (by decide) (valB B9 a).toNat
   rw[← h.1] at this
   exact this e
  obtain ⟨m,hm⟩:∃m,a.length=m+1:=⟨a.length-1,by have:=List.length_pos_iff.2 e;omega⟩
  obtain ⟨h1,h2⟩:=Jl (show InB (10^9) a from Kp h) e hl m (by omega)
  have e9:(10:Nat)^9=B9:=by decide
  rw[show a.length-1-m=0 by omega,List.drop_zero,e9] at h1 h2
  rw[hm,h2]
  have h3:=aC7 (decide p) (valB B9 a).toNat
  unfold wrM at h3
  rw[if_neg (by omega)] at h3
  have h4:sgn (decide p) (valB B9 a).toNat=sgP p (valB B9 a):=by
   unfold sgn sgP
   by_cases hq:p
   ·rw[if_pos (by simp[hq]),if_pos hq];omega
   ·rw[if_neg (by simp[hq]),if_neg hq];omega
  rw[← h4,← h3]
  by_cases hq:p
  ·rw[if_pos hq,if_pos (by simp[hq])];rfl
  ·rw[if_neg hq,if_neg (by simp[hq])];rfl
def c128:Con:=aI 175 true fun args K=>match args with
 | [.agg [.bl p hp,.seq (.int .i64) a]]=>Need (vW a) (K (S (itoa (@sgP p hp (valB B9 a)))))
 | _=>False
theorem k128:aD Tryz.prog c128:=by
 refine kO Tryz.func175 fun args K h=>?_
 simp only[c128] at h;split at h
 ·rename_i p hp a
  refine ⟨_,h.go,?_⟩
  rw[← Xu p h.ok]
  exact triB Tryz.func175 Tryz.ntmps175 (by simp[k157,k158,k160,k61,k159,k135,k166]) (b128 p hp a ⟨Kp h.ok,h.ok.2⟩)
 ·exact h.elim
def resI (n:Int):List UInt8 × Int:=if lim n then ([],4) else (itoa n,0)
theorem b96 (p:Prop) (hp:Decidable p) (a:List Int) (h:vW a):body Tryz.prog [c128,c88] {} true Tryz.f144 [.agg [.bl p hp,Ls a]] (.tup [S (resI (sgP p (valB B9 a))).1,I (resI (sgP p (valB B9 a))).2]):=by
 have ht:=congrArg List.length (bC (sgP p (valB B9 a)))
 unfold resI lim
 (repeat' first|refine ZG ?_|refine Zg fun _=>?_)
 (apply Br.mk<;>intro)
 ·rename_i hg
  rw[if_pos (by simp;omega)]
  (conv=>whnf)
  (repeat' first|exact trivial|rfl|apply And.intro)
 ·rename_i hg
  rw[if_neg (by simp;omega)]
  (conv=>whnf)
  (repeat' first|exact trivial|rfl|apply And.intro)
def c96:Con:=aI 144 true fun args K=>match args with
 | [.agg [.bl p hp,.seq (.int .i64) a]]=>Need (vW a) (K (.tup [S (resI (@sgP p hp (valB B9 a))).1,I (resI (@sgP p hp (valB B9 a))).2]))
 | _=>False
theorem k96:aD Tryz.prog c96:=by
 refine kO Tryz.func144 fun args K h=>?_
 simp only[c96] at h;split at h
 ·rename_i p hp a
  exact ⟨_,h.go,triB Tryz.func144 Tryz.ntmps144 (by simp[k128,k88]) (b96 p hp a h.ok)⟩
 ·exact h.elim
def addP (p:Prop) (m:Nat) (q:Prop) (n:Nat):Prop:=(((p↔q)∨n≤m)∧p)∨(¬((p↔q)∨n≤m)∧q)
instance (p:Prop) [Decidable p] (m:Nat) (q:Prop) [Decidable q] (n:Nat):Decidable (addP p m q n):=by unfold addP;infer_instance
def addN (p:Prop) [Decidable p] (m:Nat) (q:Prop) [Decidable q] (n:Nat):Nat:=if p↔q then m+n else if n≤m then m-n else n-m
theorem Gi (p:Prop) [Decidable p] (m:Nat) (q:Prop) [Decidable q] (n:Nat):sgP (addP p m q n) (addN p m q n)=sgP p m+sgP q n:=by
 unfold sgP addP addN
 by_cases hp:p<;>by_cases hq:q<;>by_cases h:n≤m<;>simp[hp,hq,h]<;>omega
theorem Xv {p:Prop} [Decidable p] {m:Nat} {q:Prop} [Decidable q] {n:Nat} (hm:m<B9^100) (hn:n<B9^100):addN p m q n<B9^200:=by
 have h:B9^100+B9^100≤B9^200:=by
  rw[← Nat.two_mul]
  exact Nat.le_trans (Nat.mul_le_mul_right _ (show 2≤B9 by decide)) (by rw[← Nat.pow_succ'];exact Nat.pow_le_pow_right (by decide) (by omega))
 unfold addN
 split
 ·omega
 ·split<;>omega
theorem fI {m k:Nat} (h:m<B9^k):(aA B9 m).length≤k:=by
 rcases Nat.eq_zero_or_pos m with rfl | hm
 ·rw[aW];exact Nat.zero_le _
 ·obtain ⟨h1,_,h3⟩:=dC (B:=B9) (by decide) hm
  have h1:B9^ ((aA B9 m).length-1)≤m:=by exact_mod_cast h1
  have:=(Nat.pow_lt_pow_iff_right (show 1<B9 by decide)).1 (Nat.lt_of_le_of_lt h1 h)
  omega
theorem v9 (m:Nat):valB B9 (aA B9 m)=m:=cJ (by decide) m
theorem b97 (p:Prop) (hp:Decidable p) (m:Nat) (q:Prop) (hq:Decidable q) (n:Nat) (hm:m<B9^100) (hn:n<B9^100):
  body Tryz.prog [c107,c129] {} false Tryz.f107 [.agg [.bl p hp,Ls (aA B9 m)],.agg [.bl q hq,Ls (aA B9 n)]] (.agg [.bl (addP p m q n) inferInstance,Ls (aA B9 (addN p m q n))]):=by
 have im:InB B9 (aA B9 m):=aN (by decide) m
 have jn:InB B9 (aA B9 n):=aN (by decide) n
 have lm:=fI hm
 have ln:=fI hn
 have hc:=Ad m n
 have vm:=v9 m
 have vn:=v9 n
 (repeat refine ZG ?_)
 (apply Br.mk<;>intro)
 ·rename_i h
  have e1:p↔addP p m q n:=by unfold addP;simp[h]
  have e2:(valB B9 (aA B9 m)+valB B9 (aA B9 n)).toNat=addN p m q n:=by unfold addN;rw[if_pos h];omega
  (repeat'((conv=>whnf);first|(apply Pin.mk;apply Exists.intro)|apply Pinned.mk rfl rfl|fail))
  refine Need.mk ⟨im,jn,by omega,by omega⟩ ?_
  (repeat'((conv=>whnf);first|apply Pinned.mk rfl rfl|fail))
  (conv=>whnf)
  (repeat' first|exact trivial|apply And.intro)
  ·exact e1
  ·skip
   exact congrArg (aA B9) e2
 ·rename_i h
  (conv=>whnf)
  refine Need.mk ⟨im,jn⟩ ?_
  (apply Br.mk<;>intro)
  ·rename_i hg
   have hle:n≤m:=by omega
   have e1:p↔addP p m q n:=by unfold addP;simp[hle]
   have e2:(valB B9 (aA B9 m)-valB B9 (aA B9 n)).toNat=addN p m q n:=by unfold addN;rw[if_neg h,if_pos hle];omega
   (repeat'((conv=>whnf);first|(apply Pin.mk;apply Exists.intro)|apply Pinned.mk rfl rfl|fail))
   refine Need.mk ⟨im,jn,by omega,by omega,by omega⟩ ?_
   (repeat'((conv=>whnf);first|apply Pinned.mk rfl rfl|fail))
   (conv=>whnf)
   (repeat' first|exact trivial|apply And.intro)
   ·exact e1
   ·(conv=>whnf)
    exact congrArg (aA B9) e2
  ·rename_i hg
   have hle:¬n≤m:=by omega
   have e1:q↔addP p m q n:=by unfold addP;simp[hle,h]
   have e2:(valB B9 (aA B9 n)-valB B9 (aA B9 m)).toNat=addN p m q n:=by unfold addN;rw[if_neg h,if_neg hle];omega
   (repeat'((conv=>whnf);first|(apply Pin.mk;apply Exists.intro)|apply Pinned.mk rfl rfl|fail))
   refine Need.mk ⟨jn,im,by omega,by omega,by omega⟩ ?_
   (repeat'((conv=>whnf);first|apply Pinned.mk rfl rfl|fail))
   (conv=>whnf)
   (repeat' first|exact trivial|apply And.intro)
   ·exact e1
   ·(conv=>whnf)
    exact congrArg (aA B9) e2
def rK (a:List Int):Prop:=a=aA B9 (valB B9 a).toNat∧(valB B9 a).toNat<B9^100
def c97:Con:=aI 107 false fun args K=>match args with
 | [.agg [.bl p hp,.seq (.int .i64) a],.agg [.bl q hq,.seq (.int .i64) b]]=>Need (rK a∧rK b) (K (.agg [.bl (addP p (valB B9 a).toNat q (valB B9 b).toNat) inferInstance,Ls (aA B9 (@addN p hp (valB B9 a).toNat q hq (valB B9 b).toNat))]))
 | _=>False
theorem k97:aD Tryz.prog c97:=by
 refine kO Tryz.func107 fun args K h=>?_
 simp only[c97] at h;split at h
 ·rename_i p hp a q hq b
  refine ⟨_,h.go,?_⟩
  obtain ⟨⟨ha,hm⟩,hb,hn⟩:=h.ok
  have ht:=triB Tryz.func107 Tryz.ntmps107 (by simp[k107,k129]) (b97 p hp (valB B9 a).toNat q hq (valB B9 b).toNat hm hn)
  rw[← ha,← hb] at ht
  exact ht
 ·exact h.elim
theorem aBe {l k:Nat} (h:l≤9*k):(10:Nat)^l≤B9^k:=by
 have e9:(10:Nat)^9=B9:=by decide
 rw[← e9,← Nat.pow_mul]
 exact Nat.pow_le_pow_right (by omega) h
theorem iD {s:List UInt8} (h:form s) (hl:(digs s).length≤300):aF (digs s)<B9^34:=
 Nat.lt_of_lt_of_le (cE (digs s) h.2.2) (aBe (by omega))
theorem dS {s:List UInt8}:valI s=sgP (s.headD 0=45) (aF (digs s):Nat):=by
 unfold valI sgP digs
 split
 ·rfl
 ·rfl
theorem bH {s:List UInt8} (h:form s) (hl:(digs s).length≤300):rK (aA B9 (aF (digs s))):=by
 refine ⟨by rw[v9,Int.toNat_natCast],?_⟩
 rw[v9,Int.toNat_natCast]
 exact Nat.lt_of_lt_of_le (iD h hl) (Nat.pow_le_pow_right (by decide) (by omega))
noncomputable def bX (a b:List UInt8) (r:List UInt8 × Int):List UInt8 × Int:=if chk2 a b≠0 then ([],chk2 a b) else r
theorem fZ {a b:List UInt8} (h:¬chk2 a b≠0):chkI a=0∧chkI b=0:=by
 unfold chk2 at h
 split at h
 ·rename_i h1;exact absurd h1 h
 ·rename_i h1;exact ⟨Classical.not_not.1 h1,Classical.not_not.1 h⟩
theorem eO {n:Int} (h:n.natAbs<10^40):resI n=(itoa n,0):=by
 unfold resI lim
 rw[if_neg]
 have:=iJ 39 n.natAbs h
 simp;omega
theorem aEi (a b:List UInt8):sgP (addP (a.headD 0=45) (valB B9 (aA B9 (aF (digs a)))).toNat (b.headD 0=45) (valB B9 (aA B9 (aF (digs b)))).toNat) (valB B9 (aA B9 (addN (a.headD 0=45) (valB B9 (aA B9 (aF (digs a)))).toNat (b.headD 0=45) (valB B9 (aA B9 (aF (digs b)))).toNat)))=valI a+valI b:=by
 simp only[v9,Int.toNat_natCast,Gi,dS]
theorem b55 (a b:List UInt8):body Tryz.prog [c94,c95,c61,c98,c97,c96] {} true Tryz.f137 [S a,S b] (.tup [S (bX a b (resI (valI a+valI b))).1,I (bX a b (resI (valI a+valI b))).2]):=by
 unfold bX
 (apply Br.mk<;>intro)
 ·rename_i h
  rw[if_pos h]
  (conv=>whnf)
  (repeat' first|exact trivial|rfl|apply And.intro)
 ·rename_i h
  rw[if_neg h]
  obtain ⟨ha,hb⟩:=fZ h
  obtain ⟨fa,la⟩:=bR ha
  obtain ⟨fb,lb⟩:=bR hb
  refine Need.mk ⟨rfl,fa,fb⟩ ?_
  (apply Br.mk<;>intro)
  ·rename_i hs
   have h1:=dM fa hs.1
   have h2:=dM fb hs.2
   rw[eO (by omega)]
   (repeat refine ZG ?_)
   (conv=>whnf)
   (repeat' first|exact trivial|rfl|apply And.intro)
  ·rename_i hs
   have hv:=aEi a b
   refine Need.mk ⟨fa,by omega⟩ ?_
   refine Need.mk ⟨fb,by omega⟩ ?_
   refine Need.mk ⟨bH fa la,bH fb lb⟩ ?_
   refine Need.mk (cT (Xv (bH fa la).2 (bH fb lb).2)) ?_
   (conv=>whnf)
   (repeat' first|exact trivial|rfl|apply And.intro)
   ·exact congrArg (fun z=>(resI z).1) hv
   ·exact congrArg (fun z=>(resI z).2) hv
theorem aBf (p:Prop) [Decidable p] (n:Int):sgP (¬p) n= -sgP p n:=by unfold sgP;by_cases h:p<;>simp[h]
theorem Xw (a b:List UInt8):sgP (addP (a.headD 0=45) (valB B9 (aA B9 (aF (digs a)))).toNat (¬b.headD 0=45) (valB B9 (aA B9 (aF (digs b)))).toNat) (valB B9 (aA B9 (addN (a.headD 0=45) (valB B9 (aA B9 (aF (digs a)))).toNat (¬b.headD 0=45) (valB B9 (aA B9 (aF (digs b)))).toNat)))=valI a-valI b:=by
 simp only[v9,Int.toNat_natCast,Gi,dS,aBf]
 omega
theorem b60 (a b:List UInt8):body Tryz.prog [c94,c95,c61,c98,c97,c96] {} true Tryz.f90 [S a,S b] (.tup [S (bX a b (resI (valI a-valI b))).1,I (bX a b (resI (valI a-valI b))).2]):=by
 unfold bX
 (apply Br.mk<;>intro)
 ·rename_i h
  rw[if_pos h]
  (conv=>whnf)
  (repeat' first|exact trivial|rfl|apply And.intro)
 ·rename_i h
  rw[if_neg h]
  obtain ⟨ha,hb⟩:=fZ h
  obtain ⟨fa,la⟩:=bR ha
  obtain ⟨fb,lb⟩:=bR hb
  refine Need.mk ⟨rfl,fa,fb⟩ ?_
  (apply Br.mk<;>intro)
  ·rename_i hs
   have h1:=dM fa hs.1
   have h2:=dM fb hs.2
   rw[eO (by omega)]
   (repeat refine ZG ?_)
   (conv=>whnf)
   (repeat' first|exact trivial|rfl|apply And.intro)
  ·rename_i hs
   have hv:=Xw a b
   refine Need.mk ⟨fb,by omega⟩ ?_
   (repeat'((conv=>whnf);first|(apply Pin.mk;apply Exists.intro)|apply Pinned.mk rfl rfl|refine Zl ?_|fail))
   refine Need.mk ⟨fa,by omega⟩ ?_
   (repeat'((conv=>whnf);first|(apply Pin.mk;apply Exists.intro)|apply Pinned.mk rfl rfl|fail))
   refine Need.mk ⟨bH fa la,bH fb lb⟩ ?_
   (repeat'((conv=>whnf);first|(apply Pin.mk;apply Exists.intro)|apply Pinned.mk rfl rfl|fail))
   refine Need.mk (cT (Xv (bH fa la).2 (bH fb lb).2)) ?_
   (repeat'((conv=>whnf);first|(apply Pin.mk;apply Exists.intro)|apply Pinned.mk rfl rfl|fail))
   (conv=>whnf)
   (repeat' first|exact trivial|rfl|apply And.intro)
   ·exact congrArg (fun z=>(resI z).1) hv
   ·exact congrArg (fun z=>(resI z).2) hv
theorem Ki {P:Program} {f:FuncId} {args:List SV} {t:Ty} {ys:List t.T} {e:TypeId} (h2:t.flat=true) (h:OTri P f args (.ref 0 1) t ys e):Tri P true f args (.seq t ys):=by
 intro ok w vs hg hok hr
 refine (h ok w vs hg hok hr).mono ?_
 rintro en w' ⟨v,L',rfl,hb,hL,⟨hlen,hmax,us,hown,hel⟩,hrel⟩
 refine ⟨v,rfl,hb,?_⟩
 cases hrel with
 | ref _ _ _ hn h0 hk hv=>
 have:=hv rfl
 subst this
 refine .seq t ys _ ?_
 rcases aO hown with ⟨e1,e2,e3,e4⟩ | ⟨g,cur,e1,e2,e3,e4,e5,e6,e7⟩
 ·exact ⟨none,0,0,by simp[Core.head,envO,e1,e2,e3],by omega,Nat.le_refl _,Nat.zero_le _,fun h=>absurd h (Nat.lt_irrefl _)⟩
 ·have hg1:w.heap.size≤g:=hL g (by simp[e1])
  have hg2:g<w'.heap.size:=(Array.getElem?_eq_some_iff.1 e3).1
  refine ⟨some ⟨g,0,none⟩,L'.len,L'.cap,by simp[Core.head,envO,e1],hlen,e4,hmax,fun h0=>⟨g,0,rfl,.inr ⟨hg1,hg2⟩,fun i hi=>⟨_,(hel i hi).length,?_,(hel i hi).flat h2⟩⟩⟩
  intro j v hj
  rw[List.getElem?_take] at hj
  split at hj
  ·rw[List.getElem?_drop,← e7,List.getElem?_take] at hj
   split at hj
   ·simp only[env0,World.cell?,e3]
    simpa using hj
   ·cases hj
  ·cases hj
def c99f:Con:=aI 155 true fun args K=>match args with
 | [.seq (.int .i64) a,.seq (.int .i64) b]=>Need (InB B9 a∧InB B9 b∧a.length≤100000∧b.length≤100000) (K (Ls (aA B9 (valB B9 a*valB B9 b).toNat)))
 | _=>False
theorem k99f:aD Tryz.prog c99f:=by
 refine kO Tryz.func155 fun args K h=>?_
 simp only[c99f] at h;split at h
 ·rename_i a b
  exact ⟨_,h.go,Ki rfl (sK (by simp[k132,k131]) Tryz.func155 (by simp[Tryz.ntmps155]) rfl (b99 a b h.ok))⟩
 ·exact h.elim
theorem Qm (p q:Prop) [Decidable p] [Decidable q] (m n:Int):sgP (¬(p↔q)) (m*n)=sgP p m*sgP q n:=by
 unfold sgP
 by_cases hp:p<;>by_cases hq:q<;>simp[hp,hq,Int.neg_mul,Int.mul_neg]
theorem Qn {s:List UInt8} (h:form s):(valI s).natAbs<10^s.length:=by
 obtain ⟨h1,h2,h3⟩:=h
 have hb:=cE (digs s) h3
 have hp:(10:Nat)^ (digs s).length≤10^s.length:=Nat.pow_le_pow_right (by omega) (kE s).1
 have hv:valI s=aF (digs s)∨valI s= -(aF (digs s):Int):=by
  unfold valI digs
  split
  ·exact .inr rfl
  ·exact .inl rfl
 omega
theorem Cs {a b:List UInt8} (ha:form a) (hb:form b) (h:a.length+b.length≤18):(valI a*valI b).natAbs<1000000000000000000:=by
 have h1:=Qn ha
 have h2:=Qn hb
 rw[Int.natAbs_mul]
 have h3:(valI a).natAbs*(valI b).natAbs<10^a.length*10^b.length:=Nat.mul_lt_mul'' h1 h2
 rw[← Nat.pow_add] at h3
 exact Nat.lt_of_lt_of_le h3 (Nat.le_trans (Nat.pow_le_pow_right (by omega) h) (by decide))
theorem aD3 (a b:List UInt8) (m:Nat) (hd:Decidable (¬(a.headD 0=45↔b.headD 0=45))) (hm:m=(valB B9 (aA B9 (aF (digs a)))*valB B9 (aA B9 (aF (digs b)))).toNat):sgP (¬(a.headD 0=45↔b.headD 0=45)) (valB B9 (aA B9 m))=valI a*valI b:=by
 subst hm
 have:hd=instDecidableNot:=Subsingleton.elim _ _
 subst this
 rw[v9,v9,v9,← Int.natCast_mul,Int.toNat_natCast,Int.natCast_mul,Qm,dS,dS]
theorem Sk {a b:List UInt8} (fa:form a) (la:(digs a).length≤300) (fb:form b) (lb:(digs b).length≤300):vW (aA B9 (valB B9 (aA B9 (aF (digs a)))*valB B9 (aA B9 (aF (digs b)))).toNat):=by
 refine cT ?_
 rw[v9,v9,← Int.natCast_mul,Int.toNat_natCast]
 have h3:=Nat.mul_lt_mul'' (iD fa la) (iD fb lb)
 rw[← Nat.pow_add] at h3
 exact Nat.lt_of_lt_of_le h3 (Nat.pow_le_pow_right (by decide) (by omega))
theorem b58 (a b:List UInt8):body Tryz.prog [c94,c95,c61,c98,c99f,c96] {} true Tryz.f103 [S a,S b] (.tup [S (bX a b (resI (valI a*valI b))).1,I (bX a b (resI (valI a*valI b))).2]):=by
 unfold bX
 (apply Br.mk<;>intro)
 ·rename_i h
  rw[if_pos h]
  (conv=>whnf)
  (repeat' first|exact trivial|rfl|apply And.intro)
 ·rename_i h
  rw[if_neg h]
  obtain ⟨ha,hb⟩:=fZ h
  obtain ⟨fa,la⟩:=bR ha
  obtain ⟨fb,lb⟩:=bR hb
  (repeat' first|refine ZG ?_|refine Zg fun _=>?_)
  (apply Br.mk<;>intro)
  ·rename_i hs
   have hm:=Cs fa fb (by omega)
   refine Need.mk ⟨rfl,fa,fb⟩ ?_
   refine Br.mk (fun _=>?_) (fun hn=>absurd (show a.length≤18∧b.length≤18 by omega) hn)
   rw[eO (by omega)]
   (repeat refine ZG ?_)
   (conv=>whnf)
   (repeat' first|exact trivial|rfl|apply And.intro)
  ·rename_i hs
   have hv:=fun hd=>aD3 a b _ hd rfl
   refine Need.mk ⟨fa,by omega⟩ ?_
   refine Need.mk ⟨fb,by omega⟩ ?_
   have l1:=fI (iD fa la)
   have l2:=fI (iD fb lb)
   (repeat'((conv=>whnf);first|(apply Pin.mk;apply Exists.intro)|apply Pinned.mk rfl rfl|refine Zl ?_|fail))
   refine Need.mk ⟨aN (by decide) _,aN (by decide) _,by omega,by omega⟩ ?_
   (repeat'((conv=>whnf);first|(apply Pin.mk;apply Exists.intro)|apply Pinned.mk rfl rfl|fail))
   refine Need.mk (Sk fa la fb lb) ?_
   (repeat'((conv=>whnf);first|(apply Pin.mk;apply Exists.intro)|apply Pinned.mk rfl rfl|fail))
   (conv=>whnf)
   (repeat' first|exact trivial|rfl|apply And.intro)
   ·exact congrArg (fun z=>(resI z).1) (hv _)
   ·exact congrArg (fun z=>(resI z).2) (hv _)
def cmpI (x y:Int):Int:=if x<y then -1 else if x=y then 0 else 1
def c119:Con:=aI 100 true fun args K=>match args with | [.val (.int .i64 x)]=>K (.val (.bool false)) | _=>False
theorem k119:aD Tryz.prog c119:=by
 refine kQ {} Tryz.func100 Tryz.ntmps100 kn fun _ _ h=>?_
 split at h
 case h_2=>exact h.elim
 refine kb h ?_
 (conv=>whnf)
 exact ⟨fun h=>absurd rfl h,fun h=>by cases h⟩
def c76:Con:=aI 50 true fun args K=>match args with | [.val (.int .i64 x),.val (.int .i64 y)]=>K (I (cmpI x y)) | _=>False
theorem k76:aD Tryz.prog c76:=by
 refine kQ {} Tryz.func50 Tryz.ntmps50 (kc k119 kn) fun _ _ h=>?_
 split at h
 case h_2=>exact h.elim
 refine kb h ?_
 unfold cmpI
 (repeat'((conv=>whnf);first|refine Zr (fun _=>?_) fun _=>?_|fail))
 all_goals (skip;(conv=>whnf);(repeat' first|rfl|apply And.intro))
 all_goals (repeat' split)
 all_goals omega
noncomputable def Qo (a b:List UInt8) (r:Int):Int × Int:=if chk2 a b≠0 then (0,chk2 a b) else (r,0)
theorem aD4 (p:Prop) [Decidable p] (n:Nat) (x y:Int) (hv:sgP p (valB B9 (aA B9 n))=x-y):cmpI x y=if ((aA B9 n).length:Int)=0 then 0 else if p then -1 else 1:=by
 rw[v9] at hv
 have h0:((aA B9 n).length:Int)=0↔n=0:=by
  rw[← gY (B:=B9) (by decide),← List.length_eq_zero_iff];omega
 unfold sgP at hv
 unfold cmpI
 by_cases hn:n=0
 ·rw[if_pos (h0.2 hn)]
  subst hn
  have:x-y=0:=by rw[← hv];split<;>rfl
  rw[if_neg (by omega),if_pos (by omega)]
 ·rw[if_neg (fun h=>hn (h0.1 h))]
  by_cases hp:p
  ·rw[if_pos hp] at hv ⊢
   rw[if_pos (by omega)]
  ·rw[if_neg hp] at hv ⊢
   rw[if_neg (by omega),if_neg (by omega)]
theorem b77 (a b:List UInt8):body Tryz.prog [c94,c95,c98,c97,c76] {} true Tryz.f53 [S a,S b] (.tup [I (Qo a b (cmpI (valI a) (valI b))).1,I (Qo a b (cmpI (valI a) (valI b))).2]):=by
 unfold Qo
 (apply Br.mk<;>intro)
 ·rename_i h
  rw[if_pos h]
  (conv=>whnf)
  (repeat' first|exact trivial|rfl|apply And.intro)
 ·rename_i h
  rw[if_neg h]
  obtain ⟨ha,hb⟩:=fZ h
  obtain ⟨fa,la⟩:=bR ha
  obtain ⟨fb,lb⟩:=bR hb
  refine Need.mk ⟨rfl,fa,fb⟩ ?_
  (apply Br.mk<;>intro)
  ·skip
   (conv=>whnf)
   (repeat' first|exact trivial|rfl|apply And.intro)
  ·have hv:=Xw a b
   refine Need.mk ⟨fa,by omega⟩ ?_
   refine Need.mk ⟨fb,by omega⟩ ?_
   (repeat'((conv=>whnf);first|refine Zl ?_|fail))
   refine Need.mk ⟨bH fa la,bH fb lb⟩ ?_
   have hc:=aD4 _ _ _ _ hv
   (repeat' first|refine ZG ?_|refine Zg fun _=>?_)
   (apply Br.mk<;>intro)
   ·rename_i h0
    rw[if_pos h0] at hc
    (conv=>whnf)
    (repeat' first|exact trivial|rfl|apply And.intro)
    exact hc.symm
   ·rename_i h0
    rw[if_neg h0] at hc
    (apply Br.mk<;>intro)
    ·rename_i h1
     rw[if_pos h1] at hc
     (conv=>whnf)
     (repeat' first|exact trivial|rfl|apply And.intro)
     exact hc.symm
    ·rename_i h1
     rw[if_neg h1] at hc
     (conv=>whnf)
     (repeat' first|exact trivial|rfl|apply And.intro)
     exact hc.symm
theorem w135 (a:Option Addr) (n c:Nat) (w:World):Calls Tryz.prog 182 #[.slice a n c] w fun e w'=>e= .returned (.func (.func 215) #[] #[.pointer (some ⟨w.heap.size,0,none⟩)])∧w'=w.alloc (.cells #[.slice a n c] 119):=by
 go_enter Tryz.func182,Tryz.ntmps182
 go_wp2
 go_ret
 exact ⟨rfl,rfl⟩
def aCu:Con:=nM 182 fun args H K=>match args with
 | [.ref nm k]=>(match hget H nm with
  | .vec j t xs e=>Need (j=k) <| K (.clo 215 [] [.lelem [.ref nm k] 0]) H
  | _=>False)
 | _=>False
theorem k135h:aD Tryz.prog aCu:=by
 refine gE (enters_of Tryz.func182 (by kernel_rfl) rfl) ?_
 intro args H K h
 split at h
 case h_2=>exact h.elim
 rename_i nm k
 split at h
 case h_2=>exact h.elim
 rename_i j t xs e ho
 obtain ⟨hjk,hK⟩:=h
 subst hjk
 refine ⟨fun s H'=>s= .clo 215 [] [.lelem [.ref nm j] 0]∧H'=H,fun s H' e=>by rw[e.1,e.2];exact hK,?_⟩
 intro G loc ver w vs hC hI hr
 cases hr with
 | cons _ v1 _ vs1 h1 hr=>
 cases hr
 obtain ⟨hv,_⟩:=iT hI h1 ho
 have hw:=w135 ((loc nm).blk.map fun p=>⟨p.1,p.2,none⟩) (loc nm).len (loc nm).cap w
 rw[show (Value.slice ((loc nm).blk.map fun p=>⟨p.1,p.2,none⟩) (loc nm).len (loc nm).cap)=v1 from hv.symm] at hw
 refine hw.mono ?_
 rintro en w' ⟨rfl,rfl⟩
 obtain ⟨hI',hx⟩:=hI.grow (w':=w.alloc (.cells #[v1] 119)) ((Below.refl _ _).alloc (Nat.le_refl _) _)
 refine ⟨_,rfl,_,_,_,_,⟨rfl,rfl⟩,hI',.clo _ _ _ _ _ .nil (.cons _ _ _ _ ?_ .nil),hx⟩
 refine .lelem _ 0 w.heap.size 0 [v1] (.cons _ _ _ _ (h1.ext hx) .nil) ?_ ?_
 ·refine ⟨.inr (.inr hI.size),by simp,?_⟩
  rintro ⟨k,o,hk,hb⟩
  have:=(hI.objs k _ hk).block (b:=w.heap.size) hb
  exact absurd this (by simp[envOf])
 ·intro i u hi
  cases i with
  | zero=>
   simp at hi;subst hi
   have:=dV w (.cells #[v1] 119)
   show (w.alloc (.cells #[v1] 119)).cell? ⟨w.heap.size,0+0,none⟩=some v1
   unfold World.cell?
   simp only[this]
   rfl
  | succ i=>simp at hi
abbrev itS (n k:Nat):List SV:=[I ((n-1-k:Nat)),.any]
theorem b166s (n:Nat):Hg Tryz.prog [] { asks:=[(0,[])] } Tryz.f215 [.lelem [.sft none] 0] n (itS n):=by
 (repeat' first|refine ZG ?_|refine Zg fun _=>?_)
 refine Ask.mk ⟨{ X:=Nat,pre:=fun i=>i≤n,mod:=fun i _=>[(3,I ((n:Int)-1-i))],heap:=fun i _=>[.yst (some i) n (itS n)],mu:=fun i=>n-i },rfl,?_⟩
 (repeat refine ZG ?_)
 refine ⟨⟨(0:Nat),Nat.zero_le _,by (repeat' first|exact trivial|rfl|apply And.intro|omega)⟩,fun (i:Nat) (hi:i≤n)=>?_⟩
 (apply Br.mk<;>intro)
 ·have hlt:i<n:=by omega
  have e:((n:Int)-1-i)=((n-1-i:Nat):Int):=by omega
  (repeat refine ZG ?_)
  refine cG (n-1-i) (by omega) ?_
  (repeat'((conv=>whnf);first|refine Zn ?_|fail))
  refine Need.mk (by (repeat' first|exact trivial|rfl|apply And.intro);exact e) ?_
  refine Two.mk ?_ ?_
  ·(repeat refine ZG ?_)
   refine ⟨(i+1:Nat),by show n-(i+1)<n-i;omega,hlt,?_⟩
   (repeat' first|exact trivial|rfl|apply And.intro|omega)
  ·(conv=>whnf)
   trivial
 ·(conv=>whnf)
  omega
def Xf:Con:=aI 215 false fun args K=>match args with | [.lelem [.sft none] 0]=>∃n,K (.itr n (itS n)) | _=>False
theorem k166s:aD Tryz.prog Xf:=by
 refine kO Tryz.func215 fun args K h=>?_
 simp only[Xf] at h;split at h
 ·obtain ⟨n,hK⟩:=h
  exact ⟨_,hK,mM (by simp) Tryz.func215 (by simp[Tryz.ntmps215]) (b166s n)⟩
 ·exact h.elim
end RB
end
section
namespace IB
theorem Sb {B:Nat} (hB:2≤B) {w:List Int} (h:InB B w) {j k:Nat} (hk:2≤k) (hl:j+k<w.length) (hz:∀i,j+(k+1)≤i→w.getD i 0=0):
  valB B (w.drop j)<((w.getD (j+k) 0*B+w.getD (j+k-1) 0)*B+w.getD (j+k-2) 0+1)*(B:Int)^ (k-2):=by
 have e0:=dY (B:=B) (w.drop j) (k-2) (by rw[List.length_drop];omega)
 rw[List.drop_drop,show j+(k-2)=j+k-2 by omega] at e0
 have b0:=eK hB (jF (fK h j) (k-2)) (n:=k-2) (by rw[List.length_take];omega)
 rw[bB w (j+k-2) (by omega),show j+k-2+1=j+k-1 by omega,bB w (j+k-1) (by omega),show j+k-1+1=j+k by omega,bB w (j+k) hl] at e0
 have ez:valB B (w.drop (j+k+1))=0:=by
  have:w.drop (j+k+1)=List.replicate (w.length-(j+k+1)) 0:=by
   refine hZ (by simp) fun i hi=>?_
   have:=hz (j+k+1+i) (by omega)
   rw[List.length_drop] at hi
   have hi':j+k+1+i<w.length:=by omega
   simpa [List.getD_eq_getElem?_getD,List.getElem?_drop,List.getElem?_replicate,hi,hi'] using this
  rw[this,lP]
 simp only[valB,ez,Int.mul_zero,Int.add_zero] at e0
 have hP:=dF hB (k-2)
 generalize (B:Int)^ (k-2)=P at*
 generalize w.getD (j+k) 0=x0 at*
 generalize w.getD (j+k-1) 0=x1 at*
 generalize w.getD (j+k-2) 0=x2 at*
 rw[e0,show ((x0*B+x1)*B+x2+1)*P=P*(x2+B*(x1+B*x0))+P by
  rw[Int.add_mul _ 1,Int.one_mul,Int.mul_comm _ P,Int.add_comm _ x2,Int.mul_comm _ (B:Int),Int.add_comm _ x1,Int.mul_comm x0]]
 omega
theorem aAk {B:Nat} (hB:2≤B) {v:List Int} (h:InB B v) (hk:2≤v.length):
  (v.getD (v.length-1) 0*B+v.getD (v.length-2) 0)*(B:Int)^ (v.length-2)≤valB B v:=by
 have e0:=dY (B:=B) v (v.length-2) (by omega)
 have b0:=aX (jF h (v.length-2))
 rw[bB v (v.length-2) (by omega),show v.length-2+1=v.length-1 by omega,bB v (v.length-1) (by omega),List.drop_eq_nil_of_le (by omega)] at e0
 simp only[valB,Int.mul_zero,Int.add_zero] at e0
 rw[Int.mul_comm,Int.add_comm (v.getD (v.length-1) 0*(B:Int)),Int.mul_comm (v.getD (v.length-1) 0)]
 omega
theorem Mo {B:Nat} (hB:2≤B) {u v:List Int} (hu:InB B u) (hv:InB B v) (hV:0<valB B v) {m:Nat} (hm:m+v.length=u.length) (h0:valB B (u.drop m)<valB B v) (hk:2≤v.length) (hv1:0<v.getD (v.length-1) 0) (s:Nat) (hs:s<m) (f:Nat):
  (∀i,m-1-s+(v.length+1)≤i→(bV B u v m s).1.getD i 0=0)∧
  0≤valB B ((bV B u v m s).1.drop (m-1-s))/valB B v∧valB B ((bV B u v m s).1.drop (m-1-s))/valB B v<B∧
  (∀top,top=(bV B u v m s).1.getD (m-1-s+v.length) 0*B+(bV B u v m s).1.getD (m-1-s+v.length-1) 0→
   valB B ((bV B u v m s).1.drop (m-1-s))/valB B v≤estF B (v.getD (v.length-1) 0) (v.getD (v.length-2) 0) ((bV B u v m s).1.getD (m-1-s+v.length-2) 0) f (top/v.getD (v.length-1) 0) (top%v.getD (v.length-1) 0)∧
   estF B (v.getD (v.length-1) 0) (v.getD (v.length-2) 0) ((bV B u v m s).1.getD (m-1-s+v.length-2) 0) f (top/v.getD (v.length-1) 0) (top%v.getD (v.length-1) 0)≤top/v.getD (v.length-1) 0):=by
 obtain ⟨h1,h2,h3,h4,h5,h6⟩:=mX hB hu hv hV hm h0 s (by omega)
 obtain ⟨j,hj⟩:∃j,m-1-s=j:=⟨_,rfl⟩
 have e1:m-s=j+1:=by omega
 rw[hj]
 rw[e1] at h5
 generalize (bV B u v m s).1=w at h1 h2 h5 ⊢
 have hw:valB B (w.drop j)=w.getD j 0+(B:Int)*valB B (w.drop (j+1)):=by rw[bB w j (by omega)];rfl
 have g1:=h2.get (show j<w.length by omega)
 have hVB:=kU hv
 have hz:∀i,j+(v.length+1)≤i→w.getD i 0=0:=fun i hi=>by
  have:=Cn hB (fK h2 (j+1)) (n:=v.length) (by omega) (i-(j+1)) (by omega)
  rw[sS] at this
  rwa [show j+1+(i-(j+1))=i by omega] at this
 have hW0:=aX (fK h2 j)
 have hWB:valB B (w.drop j)<(B:Int)*valB B v:=by
  have:(B:Int)*(valB B (w.drop (j+1))+1)≤B*valB B v:=Int.mul_le_mul_of_nonneg_left (by omega) (by omega)
  rw[Int.mul_add,Int.mul_one] at this
  omega
 have t3:=Sb hB h2 hk (by omega) hz
 have t2:=aAk hB hv hk
 obtain ⟨W,hW⟩:∃W,valB B (w.drop j)=W:=⟨_,rfl⟩
 rw[hW] at hWB hW0 t3 ⊢
 have hQ0:0≤W/valB B v:=Int.ediv_nonneg (by omega) (by omega)
 have hQV:W/valB B v*valB B v≤W:=Int.ediv_mul_le _ (by omega)
 have hQB:W/valB B v<B:=Int.ediv_lt_of_lt_mul hV hWB
 refine ⟨hz,hQ0,hQB,?_⟩
 rintro top rfl
 have hP:=dF hB (v.length-2)
 have x2:=h2.get (show j+v.length-2<w.length by omega)
 have hB':(0:Int)<B:=by omega
 have hPB:(0:Int)<B*(B:Int)^ (v.length-2):=Int.mul_pos hB' hP
 have w2:=hv.get (show v.length-2<v.length by omega)
 refine Pq hP (by omega) t2 (by omega) t3 hQB hQ0 hQV f _ _ ?_ ?_
 ·rw[Int.mul_comm (_/ _) _];exact (Int.mul_ediv_add_emod _ _).symm
 ·refine Rz (B:=(B:Int)) (P:=B*(B:Int)^ (v.length-2)) hPB hv1 ?_ ?_ hQ0 hQV
  ·refine Int.le_trans ?_ t2
   rw[← Int.mul_assoc]
   exact Int.mul_le_mul_of_nonneg_right (by omega) (Int.le_of_lt hP)
  ·refine Int.lt_of_lt_of_le t3 ?_
   rw[← Int.mul_assoc]
   refine Int.mul_le_mul_of_nonneg_right ?_ (Int.le_of_lt hP)
   rw[Int.add_mul _ 1,Int.one_mul];omega
theorem Mp {B:Nat} (hB:2≤B) {u v:List Int} (hu:InB B u) (hv:InB B v) (hk:1≤v.length) (hv1:0<v.getD (v.length-1) 0) {m:Nat} (hm:m+v.length=u.length) (hz:u.getD (u.length-1) 0=0):valB B (u.drop m)<valB B v∧0<valB B v:=by
 have e0:=dY (B:=B) v (v.length-1) (by omega)
 have b0:=aX (jF hv (v.length-1))
 rw[bB v (v.length-1) (by omega),List.drop_eq_nil_of_le (by omega)] at e0
 simp only[valB,Int.mul_zero,Int.add_zero] at e0
 have hP:=dF hB (v.length-1)
 have h1:(B:Int)^ (v.length-1)*1≤(B:Int)^ (v.length-1)*v.getD (v.length-1) 0:=Int.mul_le_mul_of_nonneg_left (by omega) (by omega)
 have h2:valB B (u.drop m)<(B:Int)^ (v.length-1):=Pp hB (fK hu m) fun i hi=>by
  rw[sS]
  by_cases hi2:m+i<u.length
  ·rw[show m+i=u.length-1 by omega];exact hz
  ·exact dT _ _ (by omega)
 omega
end IB
end
section
namespace IB
theorem Co {B:Nat} (hB:2≤B) {n k:Nat} (hk:1≤k) (h1:B^ (k-1)≤n) (h2:n<B^k):
  (aA B n).length=k∧(aA B n).getD (k-1) 0*(B:Int)^ (k-1)≤n∧(n:Int)<((aA B n).getD (k-1) 0+1)*(B:Int)^ (k-1):=by
 have hp:0<B^ (k-1):=Nat.pow_pos (by omega)
 obtain ⟨g1,g2,g3⟩:=dC hB (n:=n) (by omega)
 have g1:B^ ((aA B n).length-1)≤n:=by exact_mod_cast g1
 have g2:n<B^ (aA B n).length:=by exact_mod_cast g2
 have a1:=(Nat.pow_lt_pow_iff_right (show 1<B by omega)).1 (Nat.lt_of_le_of_lt g1 h2)
 have a2:=(Nat.pow_lt_pow_iff_right (show 1<B by omega)).1 (Nat.lt_of_le_of_lt h1 g2)
 have hl:(aA B n).length=k:=by omega
 have hi:=aN hB n
 have e0:=dY (B:=B) (aA B n) (k-1) (by omega)
 have b0:=aX (jF hi (k-1))
 have b1:=eK hB (jF hi (k-1)) (n:=k-1) (by rw[List.length_take];omega)
 rw[bB _ (k-1) (by omega),List.drop_eq_nil_of_le (by omega),cJ hB] at e0
 simp only[valB,Int.mul_zero,Int.add_zero] at e0
 refine ⟨hl,?_,?_⟩
 ·rw[Int.mul_comm];omega
 ·rw[Int.add_mul,Int.one_mul,Int.mul_comm];omega
theorem scale {B:Nat} (hB:2≤B) {n:Nat} (hn:0<n) {f:Nat} (hf:(f:Int)=(B:Int)/((aA B n).getD ((aA B n).length-1) 0+1)):
  0<f∧f<B∧(aA B (n*f)).length=(aA B n).length∧(B:Int)≤4*(aA B (n*f)).getD ((aA B (n*f)).length-1) 0:=by
 obtain ⟨g1,g2,g3⟩:=dC hB hn
 have g1:B^ ((aA B n).length-1)≤n:=by exact_mod_cast g1
 have g2:n<B^ (aA B n).length:=by exact_mod_cast g2
 obtain ⟨k,hk⟩:∃k,(aA B n).length=k:=⟨_,rfl⟩
 rw[hk] at g1 g2 g3 hf ⊢
 obtain ⟨_,t1,t2⟩:=Co hB g3 g1 g2
 have ht:=(aN hB n).get (show k-1<(aA B n).length by omega)
 have ht1:(aA B n).getD (k-1) 0≠0:=by
  have hne:aA B n≠ []:=by rw[← List.length_pos_iff];omega
  have:=mW hB n hne
  rw[List.getLast_eq_getElem] at this
  rw[List.getD_eq_getElem?_getD,List.getElem?_eq_getElem (by omega),Option.getD_some]
  simpa [hk] using this
 obtain ⟨t,ht'⟩:∃t:Nat,(aA B n).getD (k-1) 0=t:=⟨_,(Int.eq_ofNat_of_zero_le ht.1).choose_spec⟩
 rw[ht'] at hf t1 t2 ht ht1
 obtain ⟨f1,f2,f3⟩:=Mn (B:=(B:Int)) (t:=(t:Int)) (f:=(f:Int)) (by omega) ht.2 hf
 have f2:f*(t+1)≤B:=by exact_mod_cast f2
 have f3:B≤4*(f*t):=by exact_mod_cast f3
 have t1:t*B^ (k-1)≤n:=by exact_mod_cast t1
 have t2:n<(t+1)*B^ (k-1):=by exact_mod_cast t2
 have hf0:0<f:=by omega
 have u1:f*t*B^ (k-1)≤n*f:=by
  rw[Nat.mul_assoc,Nat.mul_comm n f];exact Nat.mul_le_mul_left f t1
 have u2:n*f<f*(t+1)*B^ (k-1):=by
  rw[Nat.mul_assoc,Nat.mul_comm n f];exact Nat.mul_lt_mul_of_pos_left t2 hf0
 have u3:f*(t+1)*B^ (k-1)≤B^k:=by
  rw[show B^k=B*B^ (k-1) by rw[← Nat.pow_succ'];congr 1;omega]
  exact Nat.mul_le_mul_right _ f2
 have hft:1≤f*t:=Nat.mul_pos hf0 (by omega)
 have u4:B^ (k-1)≤n*f:=Nat.le_trans (by rw[← Nat.one_mul (B^ (k-1)),← Nat.mul_assoc,Nat.mul_one];exact Nat.mul_le_mul_right _ hft) u1
 obtain ⟨v1,v2,v3⟩:=Co hB g3 u4 (Nat.lt_of_lt_of_le u2 u3)
 have hfB:f<B:=by
  have:f*2≤f*(t+1):=Nat.mul_le_mul_left f (by omega)
  omega
 refine ⟨hf0,hfB,v1,?_⟩
 rw[v1]
 have hp:(0:Int)<(B:Int)^ (k-1):=dF hB (k-1)
 have u1':(f:Int)*t*(B:Int)^ (k-1)≤((n*f:Nat):Int):=by exact_mod_cast u1
 have:(f:Int)*t<(aA B (n*f)).getD (k-1) 0+1:=Int.lt_of_mul_lt_mul_right (Int.lt_of_le_of_lt u1' v3) (Int.le_of_lt hp)
 have f3':(B:Int)≤4*((f:Int)*t):=by exact_mod_cast f3
 omega
theorem Sc {B:Nat} (hB:2≤B) (n k:Nat):InB B (aA B n++List.replicate k 0)∧valB B (aA B n++List.replicate k 0)=n∧(0<k→(aA B n++List.replicate k 0).getD ((aA B n++List.replicate k 0).length-1) 0=0):=by
 refine ⟨InB.append.2 ⟨aN hB n,fun x hx=>?_⟩,?_,fun hk=>?_⟩
 ·rw[(List.mem_replicate.1 hx).2];omega
 ·rw[fQ,lP,Int.mul_zero,Int.add_zero,cJ hB]
 ·rw[List.getD_eq_getElem?_getD,List.getElem?_append_right (by simp;omega)]
  simp[List.getElem?_replicate]
  split<;>rfl
theorem Sd {B:Nat} (hB:2≤B) {m f:Nat} (hf:f<B):(aA B (m*f)).length≤(aA B m).length+1:=by
 rcases Nat.eq_zero_or_pos m with rfl | hm
 ·rw[Nat.zero_mul,aW];exact Nat.zero_le _
 ·rcases Nat.eq_zero_or_pos f with rfl | hf0
  ·rw[Nat.mul_zero,aW];exact Nat.zero_le _
  ·obtain ⟨g1,g2,g3⟩:=dC hB hm
   have g2:m<B^ (aA B m).length:=by exact_mod_cast g2
   obtain ⟨q1,_,_⟩:=dC hB (n:=m*f) (Nat.mul_pos hm hf0)
   have q1:B^ ((aA B (m*f)).length-1)≤m*f:=by exact_mod_cast q1
   have:m*f<B^ ((aA B m).length+1):=by
    rw[Nat.pow_succ];exact Nat.mul_lt_mul'' g2 hf
   have:=(Nat.pow_lt_pow_iff_right (show 1<B by omega)).1 (Nat.lt_of_le_of_lt q1 this)
   omega
end IB
end
section
open Go Go.Proofs Go.Eng Go.Shelf IB Go.Lib Go.RowKit
namespace RB
theorem Xg {n:Nat} (h:(aA B9 n).length=1):(aA B9 n).getD 0 0=n∧n<1000000000:=by
 have hv:=v9 n
 have hg:=get9 (show InB B9 (aA B9 n) from aN (by decide) n) 0
 cases hl:aA B9 n with
 | nil=>rw[hl] at h;simp at h
 | cons x r=>
  have hr:r= []:=by rw[hl] at h;simpa using h
  subst hr
  rw[hl] at hv hg
  simp only[valB,Int.mul_zero,Int.add_zero] at hv
  refine ⟨hv,?_⟩
  have hg:0≤x∧x<1000000000:=hg
  omega
theorem Xh (l:List Int) (k:Nat):l++List.replicate k 0++ [0]=l++List.replicate (k+1) 0:=by
 rw[List.append_assoc,← List.replicate_succ']
theorem b106 (m n:Nat) (hm:m<B9^100) (hn:0<n∧n<B9^100):
  body Tryz.prog [c129,c134,c99,aCu,Xf,c136,c137,c138,c131] { asks:=[(0,[3]),(2,[3]),(4,[3])] } false Tryz.f148 [Ls (aA B9 m),Ls (aA B9 n)] (.tup [Ls (aA B9 (m/n)),Ls (aA B9 (m%n))]):=by
 obtain ⟨hn0,hn⟩:=hn
 have im:InB B9 (aA B9 m):=aN (by decide) m
 have jn:InB B9 (aA B9 n):=aN (by decide) n
 have lm:=fI hm
 have ln:=fI hn
 have hc:=Ad m n
 have vm:=v9 m
 have vn:=v9 n
 refine Need.mk ⟨im,jn⟩ ?_
 (apply Br.mk<;>intro)
 ·rename_i h
  have hlt:m<n:=by omega
  rw[Nat.div_eq_of_lt hlt,Nat.mod_eq_of_lt hlt,aW]
  (conv=>whnf)
  (repeat' first|exact trivial|rfl|apply And.intro)
 ·rename_i h
  have hle:n≤m:=by omega
  (repeat'((conv=>whnf);first|refine Zg fun _=>?_|fail))
  (apply Br.mk<;>intro)
  ·rename_i h1
   obtain ⟨hx,hxlt⟩:=Xg (n:=n) (by omega)
   (repeat'((conv=>whnf);first|refine Zg fun _=>?_|refine Zn ?_|refine Z0 ?_|fail))
   refine Need.mk ⟨im,by omega,by omega⟩ ?_
   (conv=>whnf)
   have e1:(valB B9 (aA B9 m)/(aA B9 n).getD 0 0).toNat=m/n:=by rw[vm,hx,← Int.natCast_ediv,Int.toNat_natCast]
   have e2:(valB B9 (aA B9 m)% (aA B9 n).getD 0 0).toNat=m%n:=by rw[vm,hx,← Int.natCast_emod,Int.toNat_natCast]
   (repeat' first|exact trivial|apply And.intro)
   ·exact congrArg (aA B9) e1
   ·exact congrArg (aA B9) e2
  ·rename_i h1
   have hk:2≤(aA B9 n).length:=by
    have:=(dC (B:=B9) (by decide) hn0).2.2
    omega
   have ht:=get9 jn ((aA B9 n).length-1)
   obtain ⟨f,hf⟩:∃f:Nat,(f:Int)=1000000000/((aA B9 n).getD ((aA B9 n).length-1) 0+1):=⟨_,(Int.eq_ofNat_of_zero_le (Int.ediv_nonneg (by omega) (by omega))).choose_spec.symm⟩
   obtain ⟨f0,fB,sl,st⟩:=scale (B:=B9) (by decide) hn0 hf
   have st:(1000000000:Int)≤4*(aA B9 (n*f)).getD ((aA B9 (n*f)).length-1) 0:=st
   have fB:f<1000000000:=fB
   (repeat' first|refine ZG ?_|refine Zg fun _=>?_)
   refine cG ((aA B9 n).length-1) (by omega) ?_
   (repeat' first|refine ZG ?_|refine Zg fun _=>?_)
   rw[← hf]
   have if1:InB B9 [(f:Int)]:=fun x hx=>by
    have:x=f:=by simpa using hx
    subst this
    exact ⟨by omega,by show (f:Int)<1000000000;omega⟩
   have ef:∀k:Nat,(valB B9 (aA B9 k)*valB B9 [(f:Int)]).toNat=k*f:=fun k=>by
    rw[v9,show valB B9 [(f:Int)]=f by simp[valB],← Int.natCast_mul,Int.toNat_natCast]
   refine Need.mk ⟨im,if1,by omega,by show 1≤100000;omega⟩ ?_
   rw[ef]
   have sm:=Sd (B:=B9) (by decide) (m:=m) (show f<B9 from fB)
   (repeat'((conv=>whnf);first|refine Zn ?_|refine Zl ?_|fail))
   refine Need.mk ⟨jn,if1,by omega,by show 1≤100000;omega⟩ ?_
   rw[ef]
   have ka:(aA B9 n).length≤(aA B9 m).length:=Classical.byContradiction fun hx=>by
    have:=fX (B:=B9) (by decide) (m:=m) (n:=n) (by omega)
    omega
   refine Ask.mk ⟨{ X:=Nat,pre:=fun i=>(aA B9 (m*f)).length+i≤(aA B9 m).length+1,mod:=fun _ _=>[],heap:=fun i H=>[V [],.cells [.ref 0 1] 119,V [],V (aA B9 (m*f)++List.replicate (i+1) 0),V (aA B9 (n*f)),V [],.cells [.ref 3 1] 119,V [],.cells [.ref 4 1] 119],mu:=fun i=>(aA B9 m).length+1-(aA B9 (m*f)).length-i,objs:=[3] },rfl,?_⟩
   (repeat refine ZG ?_)
   refine ⟨⟨(0:Nat),sm,?_⟩,fun (i:Nat) hi=>?_⟩
   ·(repeat' first|exact trivial|rfl|exact Nat.one_pos|apply And.intro)
   ·have hi:(aA B9 (m*f)).length+i≤(aA B9 m).length+1:=hi
    have hul:(aA B9 (m*f)++List.replicate (i+1) (0:Int)).length=(aA B9 (m*f)).length+(i+1):=by simp
    (repeat' first|refine ZG ?_|refine Zg fun _=>?_)
    (apply Br.mk<;>intro)
    ·rename_i hlt
     (repeat refine ZG ?_)
     refine ⟨(i+1:Nat),by show (aA B9 m).length+1-(aA B9 (m*f)).length-(i+1)<(aA B9 m).length+1-(aA B9 (m*f)).length-i;omega,by show _+(i+1)≤ _;omega,?_⟩
     (repeat' first|exact trivial|rfl|exact Nat.one_pos|apply And.intro)
     exact Xh _ _
    ·rename_i hge
     have hge:(aA B9 m).length+1≤(aA B9 (m*f)).length+(i+1):=by omega
     obtain ⟨iu,vu,zu⟩:=Sc (B:=B9) (by decide) (m*f) (i+1)
     have zu:=zu (by omega)
     have jv:InB B9 (aA B9 (n*f)):=aN (by decide) _
     obtain ⟨u,hu⟩:∃u,aA B9 (m*f)++List.replicate (i+1) (0:Int)=u:=⟨_,rfl⟩
     rw[hu] at iu vu zu hul ⊢
     obtain ⟨v,hv⟩:∃v,aA B9 (n*f)=v:=⟨_,rfl⟩
     have vv:valB B9 v=((n*f:Nat):Int):=by rw[← hv];exact v9 _
     rw[hv] at st sl jv ⊢
     obtain ⟨M,hM⟩:∃M,u.length-v.length=M:=⟨_,rfl⟩
     have hMu:M+v.length=u.length:=by omega
     obtain ⟨s1,s2⟩:=Mp (B:=B9) (by decide) iu jv (by omega) (by omega) hMu zu
     (repeat' first|refine ZG ?_|refine Zg fun _=>?_)
     rw[show ((u.length:Int)-v.length)=(M:Int) by omega]
     have v1p:250000000≤v.getD (v.length-1) 0:=by omega
     have hspec:=mX (B:=B9) (by decide) iu jv s2 hMu s1
     refine Ask.mk ⟨{ X:=Nat,pre:=fun s=>s≤M,mod:=fun _ _=>[],heap:=fun s H=>[V [],.cells [.ref 9 1] 119,V [],V (bV B9 u v M s).1,V v,V [],.cells [.ref 3 1] 119,V [],.cells [.ref 4 1] 119,V (bV B9 u v M s).2],mu:=fun s=>s,objs:=[3] },rfl,?_⟩
     refine ⟨M,?_⟩
     (conv=>whnf)
     refine Need.mk ⟨⟨rfl,rfl,by simp⟩,fun s hs=>⟨rfl,rfl,(hspec s hs).2.2.1⟩⟩ ?_
     (repeat refine ZG ?_)
     refine ⟨⟨(0:Nat),rfl,Nat.zero_le _,?_⟩,fun (s:Nat) hs (hlt:s<M)=>?_,fun (s:Nat) hs (he:s=M)=>?_⟩
     ·(repeat' first|exact trivial|rfl|exact Nat.one_pos|apply And.intro)
     ·obtain ⟨w1,w2,w3,w4,w5,w6⟩:=hspec s (by omega)
      obtain ⟨r1,r2,r3,r4⟩:=Mo (B:=B9) (by decide) iu jv s2 hMu s1 (by omega) (by omega) s hlt 8
      have hst1:(bV B9 u v M (s+1)).1=(bE B9 (bV B9 u v M s).1 v (M-1-s) (valB B9 ((bV B9 u v M s).1.drop (M-1-s))/valB B9 v) (v.length+1)).1:=rfl
      have hst2:(bV B9 u v M (s+1)).2=(bV B9 u v M s).2.set (M-1-s) (valB B9 ((bV B9 u v M s).1.drop (M-1-s))/valB B9 v):=rfl
      obtain ⟨w,hw⟩:∃w,(bV B9 u v M s).1=w:=⟨_,rfl⟩
      obtain ⟨p,hp⟩:∃p,(bV B9 u v M s).2=p:=⟨_,rfl⟩
      obtain ⟨j,hj⟩:∃j,M-1-s=j:=⟨_,rfl⟩
      obtain ⟨Q,hQ⟩:∃Q,valB B9 (w.drop j)/valB B9 v=Q:=⟨_,rfl⟩
      rw[hw] at w1 w2 w5 w6 r1 r2 r3 r4 hst1 hst2
      rw[hp] at w3 w4 w6 hst2
      rw[hj] at r1 r2 r3 r4 hst1 hst2
      rw[hQ] at r2 r3 r4 hst1 hst2
      show hnfL (itS M s) _
      (repeat'((conv=>whnf);first|refine Zg fun _=>?_|fail))
      (conv=>whnf)
      rw[hw,hj]
      refine Need.mk ⟨w2,jv,by omega,by omega,v1p,by omega,by omega⟩ ?_
      rw[Int.toNat_natCast]
      have g0:=get9 w2 (j+v.length)
      have g1:=get9 w2 (j+v.length-1)
      have hT:0≤top2 w v j∧top2 w v j<1000000000000000000:=by unfold top2;omega
      have hq4:top2 w v j/v.getD (v.length-1) 0≤4000000000:=by
       refine Int.le_trans (Int.ediv_le_ediv (by omega) (show top2 w v j≤4000000000*v.getD (v.length-1) 0 by omega)) ?_
       rw[Int.mul_ediv_cancel _ (by omega)]
       exact Int.le_refl _
      have r5:Q≤estL w v j∧estL w v j≤4000000000:=⟨(r4 (top2 w v j) rfl).1,Int.le_trans (r4 (top2 w v j) rfl).2 hq4⟩
      obtain ⟨q0,hq0⟩:∃q0,estL w v j=q0:=⟨_,rfl⟩
      rw[hq0] at r5
      refine Ask.mk ⟨{ X:=Int,pre:=fun q=>Q≤q∧q≤4000000000,mod:=fun q _=>[(10,I q)],heap:=fun q H=>[V [],.cells [.ref 9 1] 119,V [],V w,V v,V [],.cells [.ref 3 1] 119,V [],.cells [.ref 4 1] 119,V p,.gone],mu:=fun q=>(q-Q).toNat,objs:=[3] },rfl,?_⟩
      (repeat refine ZG ?_)
      refine ⟨⟨q0,r5,?_⟩,fun (q:Int) hq=>?_⟩
      ·(repeat' first|exact trivial|rfl|exact Nat.one_pos|apply And.intro)
       ·exact hq0
       ·exact hp
      ·obtain ⟨q1,q2⟩:=hq
       have q1:Q≤q:=q1
       obtain ⟨k1,k2,k3,_⟩:=iA (B:=B9) (by decide) w2 jv (j:=j) (q:=q) (by omega) (v.length+1) (by omega)
       obtain ⟨k4,_⟩:=Jr (B:=B9) (by decide) w2 jv (j:=j) (q:=q) (by omega) (by omega) r1
       have krest:=Mm (B:=B9) (by decide) w2 jv (j:=j) (q:=q) (by omega) (k:=v.length+1) (by omega)
       have kQ:q*valB B9 v≤valB B9 (w.drop j)↔q≤Q:=by rw[← hQ,Int.le_ediv_iff_mul_le s2]
       refine Need.mk ⟨w2,jv,by omega,by omega,by omega,by omega⟩ ?_
       rw[Int.toNat_natCast]
       (apply Br.mk<;>intro)
       ·rename_i hc
        have hgt:Q<q:=by
         refine Classical.byContradiction fun hx=>?_
         have:=k4.2 (kQ.2 (by omega))
         omega
        refine Need.mk ⟨k2,jv,by omega,by omega,by omega,by omega⟩ ?_
        (repeat refine ZG ?_)
        refine ⟨q-1,?_,⟨by show Q≤q-1;omega,by show q-1≤4000000000;omega⟩,?_⟩
        ·show (q-1-Q).toNat<(q-Q).toNat
         omega
        ·(repeat' first|exact trivial|rfl|exact Nat.one_pos|apply And.intro)
         exact krest
       ·rename_i hc
        have hqQ:q=Q:=by
         have:=kQ.1 (k4.1 (by omega))
         omega
        subst hqQ
        (repeat refine ZG ?_)
        refine ⟨(s+1:Nat),rfl,hlt,?_⟩
        (repeat' first|exact trivial|rfl|exact Nat.one_pos|apply And.intro)
        ·exact hst1.symm
        ·exact hst2.symm
     ·subst he
      obtain ⟨a1,a2⟩:=Sa (B:=B9) (by decide) iu jv s2 hMu s1
      have e1:(valB B9 u/valB B9 v).toNat=m/n:=by
       rw[vu,vv,← Int.natCast_ediv,Int.toNat_natCast,Nat.mul_div_mul_right _ _ f0]
      have e2:(valB B9 u%valB B9 v).toNat=m%n*f:=by
       rw[vu,vv,← Int.natCast_emod,Int.toNat_natCast,Nat.mul_mod_mul_right]
      rw[e1] at a1
      rw[e2] at a2
      have hr:m%n*f<B9^101:=by
       rw[Nat.pow_succ]
       exact Nat.mul_lt_mul'' (Nat.lt_trans (Nat.mod_lt m hn0) hn) fB
      have lr:=fI hr
      (conv=>whnf)
      rw[a2]
      refine Need.mk ⟨aN (by decide) _,by omega,by omega⟩ ?_
      have e3:(valB B9 (aA B9 (m%n*f))/(f:Int)).toNat=m%n:=by
       rw[v9,← Int.natCast_ediv,Int.toNat_natCast,Nat.mul_div_cancel _ f0]
      rw[e3]
      (conv=>whnf)
      (repeat' first|exact trivial|rfl|apply And.intro)
      ·exact a1
def c106:Con:=aI 148 false fun args K=>match args with
 | [.seq (.int .i64) a,.seq (.int .i64) b]=>Need (rK a∧rK b∧b≠ []) (K (.tup [Ls (aA B9 ((valB B9 a).toNat/(valB B9 b).toNat)),Ls (aA B9 ((valB B9 a).toNat% (valB B9 b).toNat))]))
 | _=>False
theorem Mz {b:List Int} (h:rK b) (hb:b≠ []):0<(valB B9 b).toNat:=by
 refine Nat.pos_of_ne_zero fun h0=>hb ?_
 rw[h.1,h0,aW]
theorem k106:aD Tryz.prog c106:=by
 refine kO Tryz.func148 fun args K h=>?_
 simp only[c106] at h;split at h
 ·rename_i a b
  refine ⟨_,h.go,?_⟩
  obtain ⟨⟨ha,hm⟩,⟨hb,hn⟩,hne⟩:=h.ok
  have ht:=triB Tryz.func148 Tryz.ntmps148 (by simp[k129,k134,k99,k135h,k166s,k136,k137,k138,k131]) (b106 (valB B9 a).toNat (valB B9 b).toNat hm ⟨Mz ⟨hb,hn⟩ hne,hn⟩)
  rw[← ha,← hb] at ht
  exact ht
 ·exact h.elim
def dvI (x y:Int):List UInt8 × List UInt8 × Int:=if lim (x.fdiv y) || lim (x.fmod y) then ([],[],4) else (itoa (x.fdiv y),itoa (x.fmod y),0)
noncomputable def divI (a b:List UInt8):List UInt8 × List UInt8 × Int:=if chk2 a b≠0 then ([],[],chk2 a b) else if b= [48] then ([],[],12) else dvI (valI a) (valI b)
theorem Xi {b:List UInt8} (h:form b) (h0:¬b= [48]):valI b≠0:=fun e=>h0 (by
 have:=pR h
 rw[e] at this
 rw[this]
 unfold itoa
 rw[if_neg (by omega)]
 exact bQ (show 0<10 by omega))
theorem pw12:B9^100<B9^200:=Nat.pow_lt_pow_right (by decide) (by omega)
theorem Xj (x y:Int):dvI x y=if (resI (x.fdiv y)).2≠0∨(resI (x.fmod y)).2≠0 then ([],[],4) else ((resI (x.fdiv y)).1,(resI (x.fmod y)).1,0):=by
 unfold dvI resI
 by_cases h1:lim (x.fdiv y)=true<;>by_cases h2:lim (x.fmod y)=true<;>simp[h1,h2]
theorem uH {x y q r:Int} (hq:q=x.fdiv y) (hr:r=x.fmod y) (h1:q.natAbs<10^40) (h2:r.natAbs<10^40):dvI x y=(itoa q,itoa r,0):=by
 rw[Xj,← hq,← hr,eO h1,eO h2]
 simp
theorem Xk (p q:Prop) [Decidable p] [Decidable q] (m n:Nat) (hn:0<n):
  sgP (¬(p↔q)) ((if ¬(p↔q)∧0<m%n then m/n+1 else m/n:Nat):Int)=(sgP p m).fdiv (sgP q n)∧sgP q ((if ¬(p↔q)∧0<m%n then n-m%n else m%n:Nat):Int)=(sgP p m).fmod (sgP q n):=by
 have h:=aAi (decide p) m (decide q) n hn
 have e1:∀(r:Prop) [Decidable r] (k:Nat),sgn (decide r) k=sgP r k:=fun r _ k=>by unfold sgn sgP;by_cases hr:r<;>simp[hr]
 rw[Prod.mk.injEq,e1,e1,e1] at h
 have e2:∀k,sgn (decide p != decide q) k=sgP (¬(p↔q)) k:=fun k=>by
  unfold sgn sgP
  by_cases hp:p<;>by_cases hq:q<;>simp[hp,hq]
 rw[e2] at h
 have e3:(decide p≠decide q)↔¬(p↔q):=by by_cases hp:p<;>by_cases hq:q<;>simp[hp,hq]
 by_cases hc:¬(p↔q)∧0<m%n
 ·rw[if_pos hc,if_pos hc]
  rw[if_pos ⟨e3.2 hc.1,hc.2⟩,if_pos ⟨e3.2 hc.1,hc.2⟩] at h
  exact h
 ·rw[if_neg hc,if_neg hc]
  rw[if_neg (fun hx=>hc ⟨e3.1 hx.1,hx.2⟩),if_neg (fun hx=>hc ⟨e3.1 hx.1,hx.2⟩)] at h
  exact h
def c69:Con:=aI 97 true fun args K=>match args with | [.str a,.str b]=>K (.tup [S (divI a b).1,S (divI a b).2.1,I (divI a b).2.2]) | _=>False
theorem k69:aD Tryz.prog c69:=by
 refine kQ {} Tryz.func97 Tryz.ntmps97 (kc k94 (kc k95 (kc k61 (kc k98 (kc k106 (kc k107 (kc k96 kn))))))) fun _ _ h=>?_
 split at h
 case h_2=>exact h.elim
 rename_i a b
 refine kb h ?_
 unfold divI
 (apply Br.mk<;>intro)
 ·rename_i h
  rw[if_pos h]
  (conv=>whnf)
  (repeat' first|exact trivial|rfl|apply And.intro)
 ·rename_i h
  rw[if_neg h]
  obtain ⟨ha,hb⟩:=fZ h
  obtain ⟨fa,la⟩:=bR ha
  obtain ⟨fb,lb⟩:=bR hb
  (apply Br.mk<;>intro)
  ·rename_i h0
   rw[if_pos h0]
   (conv=>whnf)
   (repeat' first|exact trivial|rfl|apply And.intro)
  ·rename_i h0
   rw[if_neg h0]
   have hy:=Xi fb h0
   refine Need.mk ⟨rfl,fa,fb⟩ ?_
   (apply Br.mk<;>intro)
   ·rename_i hs
    have h1:=dM fa hs.1
    have h2:=dM fb hs.2
    have hd:((valI a).tdiv (valI b)).natAbs≤(valI a).natAbs:=by rw[Int.natAbs_tdiv];exact Nat.div_le_self _ _
    have hm:((valI a).tmod (valI b)).natAbs<(valI b).natAbs:=by rw[Int.natAbs_tmod];exact Nat.mod_lt _ (by omega)
    have hsd:=Ry (valI a) (valI b) hy
    (repeat'((conv=>whnf);first|refine Zb ?_|refine Zn ?_|(apply Pin.mk;apply Exists.intro)|apply Pinned.mk rfl rfl|fail))
    (apply Br.mk<;>intro)
    ·rename_i hr
     (apply Br.mk<;>intro)
     ·rename_i hsg
      rw[if_pos ⟨hr,hsg⟩,Prod.mk.injEq] at hsd
      rw[uH hsd.1 hsd.2 (by omega) (by omega)]
      (repeat refine ZG ?_)
      (conv=>whnf)
      (repeat' first|exact trivial|rfl|apply And.intro)
     ·rename_i hsg
      rw[if_neg (fun hx=>hsg hx.2),Prod.mk.injEq] at hsd
      rw[uH hsd.1 hsd.2 (by omega) (by omega)]
      (conv=>whnf)
      (repeat' first|exact trivial|rfl|apply And.intro)
    ·rename_i hr
     rw[if_neg (fun hx=>hr hx.1),Prod.mk.injEq] at hsd
     rw[uH hsd.1 hsd.2 (by omega) (by omega)]
     (conv=>whnf)
     (repeat' first|exact trivial|rfl|apply And.intro)
   ·rename_i hs
    refine Need.mk ⟨fa,by omega⟩ ?_
    refine Need.mk ⟨fb,by omega⟩ ?_
    have pb:0<aF (digs b):=Nat.pos_of_ne_zero fun e=>hy (by rw[dS,e];unfold sgP;split<;>rfl)
    (repeat'((conv=>whnf);first|refine Zl ?_|fail))
    refine Need.mk ⟨bH fa la,bH fb lb,fun e=>by rw[gY (by decide)] at e;omega⟩ ?_
    rw[v9,v9,Int.toNat_natCast,Int.toNat_natCast]
    obtain ⟨d1,d2⟩:=Xk (a.headD 0=45) (b.headD 0=45) (aF (digs a)) (aF (digs b)) pb
    rw[← dS,← dS] at d1 d2
    rw[Xj]
    obtain ⟨M,hM⟩:∃M,aF (digs a)=M:=⟨_,rfl⟩
    obtain ⟨N,hN⟩:∃N,aF (digs b)=N:=⟨_,rfl⟩
    have cM:=(bH fa la).2
    have cN:=(bH fb lb).2
    rw[v9,Int.toNat_natCast,hM] at cM
    rw[v9,Int.toNat_natCast,hN] at cN
    rw[hM,hN] at d1 d2 ⊢
    rw[hN] at pb
    (apply Br.mk<;>intro)
    ·rename_i hne
     (repeat'((conv=>whnf);first|refine Zg fun _=>?_|fail))
     (apply Br.mk<;>intro)
     ·rename_i hrm
      have hpos:0<M%N:=Nat.pos_of_ne_zero fun e=>by rw[e,aW] at hrm;exact absurd hrm (by decide)
      rw[if_pos ⟨hne,hpos⟩] at d1 d2
      have ex1:(valB B9 (aA B9 (M/N))+valB B9 [(1:Int)]).toNat=M/N+1:=by rw[v9,show valB B9 [(1:Int)]=1 by simp[valB]];generalize M/N=k;omega
      have ex2:(valB B9 (aA B9 N)-valB B9 (aA B9 (M%N))).toNat=N-M%N:=by rw[v9,v9];omega
      have hv1:∀hd,@sgP (¬(a.headD 0=45↔b.headD 0=45)) hd (valB B9 (aA B9 (M/N+1)))=(valI a).fdiv (valI b):=fun hd=>by rw[← d1,v9];congr
      have hv2:sgP (b.headD 0=45) (valB B9 (aA B9 (N-M%N)))=(valI a).fmod (valI b):=by rw[← d2,v9]
      have lq:=fI (show M/N<B9^100 from Nat.lt_of_le_of_lt (Nat.div_le_self _ _) cM)
      have lr:=fI (show M%N<B9^100 from Nat.lt_trans (Nat.mod_lt _ pb) cN)
      have hml:=Nat.mod_lt M pb
      have lN:=fI cN
      have big1:M/N+1<B9^200:=by
       have h1:M/N<B9^100:=Nat.lt_of_le_of_lt (Nat.div_le_self _ _) cM
       have h2:B9^100<B9^200:=Nat.pow_lt_pow_right (by decide) (by omega)
       omega
      (repeat'((conv=>whnf);first|(apply Pin.mk;apply Exists.intro)|apply Pinned.mk rfl rfl|refine Zl ?_|fail))
      refine Need.mk ⟨aN (by decide) _,fun x hx=>?_,by omega,by show 1≤100000;omega⟩ ?_
      ·have:x=1:=by simpa using hx
       subst this
       exact ⟨by omega,by show (1:Int)<1000000000;omega⟩
      rw[ex1]
      (repeat'((conv=>whnf);first|(apply Pin.mk;apply Exists.intro)|apply Pinned.mk rfl rfl|fail))
      refine Need.mk ⟨aN (by decide) _,aN (by decide) _,by rw[v9,v9];omega,by omega,by omega⟩ ?_
      rw[ex2]
      refine Need.mk (cT (show M/N+1<B9^200 from big1)) ?_
      rw[hv1]
      refine Need.mk (cT (show N-M%N<B9^200 from (Nat.lt_trans (show N-M%N<B9^100 from Nat.lt_of_le_of_lt (Nat.sub_le _ _) cN) pw12))) ?_
      rw[hv2]
      (apply Br.mk<;>intro)
      ·rename_i z1
       rw[if_pos (.inl z1)]
       (conv=>whnf)
       (repeat' first|exact trivial|rfl|apply And.intro)
      ·rename_i z1
       (apply Br.mk<;>intro)
       ·rename_i z2
        rw[if_pos (.inr z2)]
        (conv=>whnf)
        (repeat' first|exact trivial|rfl|apply And.intro)
       ·rename_i z2
        rw[if_neg (fun hx=>hx.elim z1 z2)]
        (conv=>whnf)
        (repeat' first|exact trivial|rfl|apply And.intro)
     ·rename_i hrm
      have h00:M%N=0:=by
       have:(aA B9 (M%N)).length=0:=by omega
       exact (gY (by decide)).1 (List.eq_nil_of_length_eq_zero this)
      have d1':(valI a).fdiv (valI b)=sgP (¬(a.headD 0=45↔b.headD 0=45)) ((M/N:Nat):Int):=by rw[← d1,if_neg (fun hx=>absurd hx.2 (by omega))]
      have d2':(valI a).fmod (valI b)=sgP (b.headD 0=45) ((M%N:Nat):Int):=by rw[← d2,if_neg (fun hx=>absurd hx.2 (by omega))]
      have hv1:∀hd,@sgP (¬(a.headD 0=45↔b.headD 0=45)) hd (valB B9 (aA B9 (M/N)))=(valI a).fdiv (valI b):=fun hd=>by rw[d1',v9];congr
      have hv2:sgP (b.headD 0=45) (valB B9 (aA B9 (M%N)))=(valI a).fmod (valI b):=by rw[d2',v9]
      refine Need.mk (cT (Nat.lt_trans ((show M/N<B9^100 from Nat.lt_of_le_of_lt (Nat.div_le_self _ _) cM)) pw12)) ?_
      rw[hv1]
      refine Need.mk (cT (Nat.lt_trans ((show M%N<B9^100 from Nat.lt_trans (Nat.mod_lt _ pb) cN)) pw12)) ?_
      rw[hv2]
      (apply Br.mk<;>intro)
      ·rename_i z1
       rw[if_pos (.inl z1)]
       (conv=>whnf)
       (repeat' first|exact trivial|rfl|apply And.intro)
      ·rename_i z1
       (apply Br.mk<;>intro)
       ·rename_i z2
        rw[if_pos (.inr z2)]
        (conv=>whnf)
        (repeat' first|exact trivial|rfl|apply And.intro)
       ·rename_i z2
        rw[if_neg (fun hx=>hx.elim z1 z2)]
        (conv=>whnf)
        (repeat' first|exact trivial|rfl|apply And.intro)
    ·rename_i hne
     have d1':(valI a).fdiv (valI b)=sgP (¬(a.headD 0=45↔b.headD 0=45)) ((M/N:Nat):Int):=by rw[← d1,if_neg (fun hx=>hne hx.1)]
     have d2':(valI a).fmod (valI b)=sgP (b.headD 0=45) ((M%N:Nat):Int):=by rw[← d2,if_neg (fun hx=>hne hx.1)]
     have hv1:∀hd,@sgP (¬(a.headD 0=45↔b.headD 0=45)) hd (valB B9 (aA B9 (M/N)))=(valI a).fdiv (valI b):=fun hd=>by rw[d1',v9];congr
     have hv2:sgP (b.headD 0=45) (valB B9 (aA B9 (M%N)))=(valI a).fmod (valI b):=by rw[d2',v9]
     refine Need.mk (cT (Nat.lt_trans ((show M/N<B9^100 from Nat.lt_of_le_of_lt (Nat.div_le_self _ _) cM)) pw12)) ?_
     rw[hv1]
     refine Need.mk (cT (Nat.lt_trans ((show M%N<B9^100 from Nat.lt_trans (Nat.mod_lt _ pb) cN)) pw12)) ?_
     rw[hv2]
     (apply Br.mk<;>intro)
     ·rename_i z1
      rw[if_pos (.inl z1)]
      (conv=>whnf)
      (repeat' first|exact trivial|rfl|apply And.intro)
     ·rename_i z1
      (apply Br.mk<;>intro)
      ·rename_i z2
       rw[if_pos (.inr z2)]
       (conv=>whnf)
       (repeat' first|exact trivial|rfl|apply And.intro)
      ·rename_i z2
       rw[if_neg (fun hx=>hx.elim z1 z2)]
       (conv=>whnf)
       (repeat' first|exact trivial|rfl|apply And.intro)
theorem zX {P:Program} {fr:Bool} {f:FuncId} {args args':List SV} {r:SV} (h:Tri P fr f args r) (he:ent.entL args' args):Tri P fr f args' r:=
 fun ok w vs hg hok hr=>h ok w vs hg hok (bZ he hr)
def c96g:Con:=aI 144 true fun args K=>match args with
 | [.agg [.val (.bool false),.seq (.int .i64) a]]=>Need (vW a) (K (.tup [S (resI (valB B9 a)).1,I (resI (valB B9 a)).2]))
 | _=>False
theorem k96g:aD Tryz.prog c96g:=by
 refine kO Tryz.func144 fun args K h=>?_
 simp only[c96g] at h;split at h
 ·rename_i a
  refine ⟨_,h.go,?_⟩
  have ht:=triB Tryz.func144 Tryz.ntmps144 (by simp[k128,k88]) (b96 False inferInstance a h.ok)
  refine zX (args:=[.agg [.bl False inferInstance,Ls a]]) ht ⟨⟨fun h=>h,?_,trivial⟩,trivial⟩
  rfl
 ·exact h.elim
theorem tE (x y:Int):Int.gcd y (x.tmod y)=Int.gcd x y:=by
 unfold Int.gcd
 rw[Int.natAbs_tmod,Nat.gcd_comm,← Nat.gcd_rec,Nat.gcd_comm]
theorem nD (p:Prop) [Decidable p] (n:Nat):(sgP p n).natAbs=n:=by unfold sgP;split<;>omega
theorem zY {m:Nat} (h:m<B9^34):rK (aA B9 m):=by
 refine ⟨by rw[v9,Int.toNat_natCast],?_⟩
 rw[v9,Int.toNat_natCast]
 exact Nat.lt_of_lt_of_le h (Nat.pow_le_pow_right (by decide) (by omega))
def c89:Con:=aI 96 true fun args K=>match args with | [.str a,.str b]=>K (.tup [S (bX a b (resI (Int.gcd (valI a) (valI b)))).1,I (bX a b (resI (Int.gcd (valI a) (valI b)))).2]) | _=>False
theorem k89:aD Tryz.prog c89:=by
 refine kQ { asks:=[(0,[]),(2,[])] } Tryz.func96 Tryz.ntmps96 (kc k94 (kc k95 (kc k61 (kc k98 (kc k106 (kc k96g kn)))))) fun _ _ h=>?_
 split at h
 case h_2=>exact h.elim
 rename_i a b
 refine kb h ?_
 unfold bX
 (apply Br.mk<;>intro)
 ·rename_i h
  rw[if_pos h]
  (conv=>whnf)
  (repeat' first|exact trivial|rfl|apply And.intro)
 ·rename_i h
  rw[if_neg h]
  obtain ⟨ha,hb⟩:=fZ h
  obtain ⟨fa,la⟩:=bR ha
  obtain ⟨fb,lb⟩:=bR hb
  refine Need.mk ⟨rfl,fa,fb⟩ ?_
  (apply Br.mk<;>intro)
  ·rename_i hs
   have h1:=dM fa hs.1
   have h2:=dM fb hs.2
   refine Ask.mk ⟨{ X:=Int × Int,pre:=fun z=>Int.gcd z.1 z.2=Int.gcd (valI a) (valI b)∧z.1.natAbs≤1000000000000000000∧z.2.natAbs≤1000000000000000000,mod:=fun z _=>[(7,I z.1),(8,I z.2)],heap:=fun _ _=>[],mu:=fun z=>z.2.natAbs },rfl,?_⟩
   (repeat refine ZG ?_)
   refine ⟨⟨(valI a,valI b),⟨rfl,by show (valI a).natAbs≤ _;omega,by show (valI b).natAbs≤ _;omega⟩,by (repeat' first|exact trivial|rfl|apply And.intro)⟩,fun (z:Int × Int) hz=>?_⟩
   obtain ⟨z1,z2,z3⟩:=hz
   (apply Br.mk<;>intro)
   ·rename_i hy
    have hm:(z.1.tmod z.2).natAbs<z.2.natAbs:=by rw[Int.natAbs_tmod];exact Nat.mod_lt _ (by omega)
    (repeat'((conv=>whnf);first|refine Zb ?_|(apply Pin.mk;apply Exists.intro)|apply Pinned.mk rfl rfl|fail))
    (conv=>whnf)
    refine ⟨(z.2,z.1.tmod z.2),hm,⟨by rw[← z1];exact tE _ _,z3,by show (z.1.tmod z.2).natAbs≤ _;omega⟩,?_⟩
    (repeat' first|exact trivial|rfl|apply And.intro)
   ·rename_i hy
    have hy:z.2=0:=by omega
    have hg:((Int.gcd (valI a) (valI b):Nat):Int)=max z.1 (-z.1):=by
     rw[← z1,hy,Int.gcd_zero_right]
     omega
    rw[hg,eO (by omega)]
    (repeat refine ZG ?_)
    (conv=>whnf)
    (repeat' first|exact trivial|rfl|apply And.intro)
  ·rename_i hs
   refine Need.mk ⟨fa,by omega⟩ ?_
   refine Need.mk ⟨fb,by omega⟩ ?_
   have pM:=iD fa la
   have pN:=iD fb lb
   have hgv:Int.gcd (valI a) (valI b)=Nat.gcd (aF (digs a)) (aF (digs b)):=by
    unfold Int.gcd
    rw[dS,dS,nD,nD]
   rw[hgv]
   refine Ask.mk ⟨{ X:=Nat × Nat,pre:=fun z=>Nat.gcd z.1 z.2=Nat.gcd (aF (digs a)) (aF (digs b))∧z.1<B9^34∧z.2<B9^34,mod:=fun z _=>[(10,Ls (aA B9 z.1)),(11,Ls (aA B9 z.2))],heap:=fun _ _=>[],mu:=fun z=>z.2 },rfl,?_⟩
   (repeat refine ZG ?_)
   refine ⟨⟨(aF (digs a),aF (digs b)),⟨rfl,pM,pN⟩,by (repeat' first|exact trivial|rfl|apply And.intro)⟩,fun (z:Nat × Nat) hz=>?_⟩
   obtain ⟨z1,z2,z3⟩:=hz
   (repeat'((conv=>whnf);first|refine Zg fun _=>?_|fail))
   (apply Br.mk<;>intro)
   ·rename_i hy
    have hy:0<z.2:=Nat.pos_of_ne_zero fun e=>by rw[e,aW] at hy;exact absurd hy (by decide)
    refine Need.mk ⟨zY z2,zY z3,fun e=>by rw[gY (by decide)] at e;omega⟩ ?_
    rw[v9,v9,Int.toNat_natCast,Int.toNat_natCast]
    refine ⟨(z.2,z.1%z.2),Nat.mod_lt _ hy,⟨by rw[← z1];show Nat.gcd z.2 (z.1%z.2)= _;rw[Nat.gcd_comm z.1 z.2,Nat.gcd_rec z.2 z.1];exact Nat.gcd_comm _ _,z3,Nat.lt_trans (Nat.mod_lt _ hy) z3⟩,?_⟩
    (repeat' first|exact trivial|rfl|apply And.intro)
   ·rename_i hy
    have hy:z.2=0:=(gY (B:=B9) (by decide)).1 (List.eq_nil_of_length_eq_zero (by omega))
    rw[hy,Nat.gcd_zero_right] at z1
    rw[← z1]
    refine Need.mk (cT (Nat.lt_of_lt_of_le z2 (Nat.pow_le_pow_right (by decide) (by omega)))) ?_
    rw[v9]
    (conv=>whnf)
    (repeat' first|exact trivial|rfl|apply And.intro)
end RB
end
section
namespace IB
open Go.Lib
def lead:List UInt8→Nat
 | []=>0
 | c::r=>if 48≤c.toNat∧c.toNat≤57 then lead r+1 else 0
theorem Fr:∀s,lead s≤s.length
 | []=>Nat.le_refl _
 | c::r=>by
  unfold lead
  split
  ·have:=Fr r;simp only[List.length_cons];omega
  ·omega
theorem zE:∀s:List UInt8,∀c∈s.take (lead s),aR c
 | [],c,h=>by simp at h
 | x::r,c,h=>by
  unfold lead at h
  split at h
  ·rename_i hx
   rw[List.take_succ_cons] at h
   rcases List.mem_cons.1 h with rfl | h
   ·exact hx
   ·exact zE r c h
  ·simp at h
theorem sU:∀(s:List UInt8) (n:Nat),n≤s.length→(∀i,i<n→aR (s.getD i 0))→(n=s.length∨¬aR (s.getD n 0))→lead s=n
 | [],n,h1,_,_=>by simp at h1;subst h1;rfl
 | c::r,0,_,_,h3=>by
  rcases h3 with h3 | h3
  ·simp at h3
  ·unfold lead
   rw[if_neg]
   exact h3
 | c::r,n+1,h1,h2,h3=>by
  have hc:48≤c.toNat∧c.toNat≤57:=h2 0 (by omega)
  unfold lead
  rw[if_pos hc,sU r n (by simpa using h1) (fun i hi=>h2 (i+1) (by omega)) (by
   rcases h3 with h3 | h3
   ·exact .inl (by simpa using h3)
   ·exact .inr h3)]
theorem Vn {s:List UInt8}:lead s=s.length↔∀c∈s,aR c:=by
 constructor
 ·intro h c hc
  have:=zE s c
  rw[h,List.take_length] at this
  exact this hc
 ·intro h
  exact sU s s.length (Nat.le_refl _) (fun i hi=>by
   rw[List.getD_eq_getElem?_getD,List.getElem?_eq_getElem hi]
   exact h _ (List.getElem_mem hi)) (.inl rfl)
def dgsN (s:List UInt8):Nat:=if 1<lead s∧s.headD 0=48 then 0 else lead s
def okD (s:List UInt8):Prop:=dgsN s≠0∧s.length≤dgsN s
theorem gI (s:List UInt8):okD s↔s≠ []∧(∀c∈s,aR c)∧(s.length=1∨s.headD 0≠48):=by
 have hl:=Fr s
 unfold okD dgsN
 rw[← Vn]
 by_cases h:1<lead s∧s.headD 0=48
 ·rw[if_pos h]
  refine ⟨fun hx=>absurd rfl hx.1,?_⟩
  rintro ⟨_,h2,h3⟩
  rcases h3 with h3 | h3
  ·omega
  ·exact absurd h.2 h3
 ·rw[if_neg h]
  constructor
  ·rintro ⟨h1,h2⟩
   have e:lead s=s.length:=by omega
   refine ⟨fun hx=>by rw[hx] at h1;exact h1 rfl,e,?_⟩
   by_cases h48:s.headD 0=48
   ·left
    have:¬1<lead s:=fun hx=>h ⟨hx,h48⟩
    omega
   ·exact .inr h48
  ·rintro ⟨h1,h2,h3⟩
   have:=List.length_pos_iff.2 h1
   exact ⟨by omega,by omega⟩
theorem Ps {s:List UInt8} (h1:s.length=1) (h:s.headD 0=48):s= [48]:=by
 cases s with
 | nil=>simp at h1
 | cons c r=>
  have:r= []:=by simpa using h1
  subst this
  simp at h;rw[h]
theorem Jt (t:List UInt8):form t↔okD (digs t)∧¬(t.headD 0=45∧digs t= [48]):=by
 rw[gI]
 unfold form
 constructor
 ·rintro ⟨h1,h2,h3⟩
  refine ⟨⟨h1,h3,?_⟩,?_⟩
  ·rcases h2 with h2 | h2
   ·exact .inr h2
   ·left;rw[h2];rfl
  ·rintro ⟨q1,q2⟩
   rcases h2 with h2 | h2
   ·rw[q2] at h2;exact h2 rfl
   ·rw[h2] at q1;simp at q1
 ·rintro ⟨⟨h1,h2,h3⟩,h4⟩
  refine ⟨h1,?_,h2⟩
  by_cases h48:(digs t).headD 0=48
  ·right
   rcases h3 with h3 | h3
   ·have e:=Ps h3 h48
    have hn:¬t.headD 0=45:=fun q=>h4 ⟨q,e⟩
    unfold digs at e
    rw[if_neg hn] at e
    exact e
   ·exact absurd h48 h3
  ·exact .inl h48
theorem Pt (d:List UInt8):(d=decDigits (aF d)∧2≤aF d)↔okD d∧¬d= [48]∧¬d= [49]:=by
 rw[gI]
 constructor
 ·rintro ⟨h1,h2⟩
  have hd:∀c∈d,aR c:=fun c hc=>by rw[h1] at hc;exact iK _ _ hc
  have hne:d≠ []:=fun e=>by rw[e] at h2;exact absurd h2 (by decide)
  refine ⟨⟨hne,hd,?_⟩,fun e=>by rw[e] at h2;exact absurd h2 (by decide),fun e=>by rw[e] at h2;exact absurd h2 (by decide)⟩
  right
  rw[h1]
  exact sT _ (by omega)
 ·rintro ⟨⟨h1,h2,h3⟩,h4,h5⟩
  have e:=lQ d.length d rfl h1 h2 h3
  refine ⟨e.symm,?_⟩
  apply Classical.byContradiction
  intro hn
  have:aF d=0∨aF d=1:=by omega
  rcases this with h | h
  ·rw[h,bQ (by omega)] at e;exact h4 e.symm
  ·rw[h,bQ (by omega)] at e;exact h5 e.symm
theorem kV:∀s:List UInt8,Go.Lib.indexByte s 47=if botS s= [] then -1 else ((topS s).length:Int)
 | []=>rfl
 | c::r=>by
  have ih:=kV r
  by_cases h:c=47
  ·subst h
   simp[Go.Lib.indexByte,botS,topS]
  ·have e1:botS (c::r)=botS r:=by simp[botS,h]
   have e2:topS (c::r)=c::topS r:=by simp[topS,h]
   rw[e1,e2]
   simp only[Go.Lib.indexByte]
   rw[ih]
   by_cases hb:botS r= []
   ·simp[hb,h]
   ·simp[hb,h]
theorem sV (s:List UInt8):topS s++botS s=s:=List.takeWhile_append_dropWhile
theorem Vo (s:List UInt8):s.take (topS s).length=topS s:=by
 have:=List.take_left (l₁:=topS s) (l₂:=botS s)
 rwa [sV] at this
theorem Vp (s:List UInt8):s.drop (topS s).length=botS s:=by
 have:=List.drop_left (l₁:=topS s) (l₂:=botS s)
 rwa [sV] at this
end IB
end
section
open Go Go.Proofs Go.Eng Go.Shelf IB Go.Lib Go.RowKit
namespace RB
def c105:Con:=aI 99 true fun args K=>match args with | [.val (.int .i64 a),.val (.int .i64 b)]=>Need ((0≤a∧a≤4000000000000000000)∧(0≤b∧b≤4000000000000000000)) (K (I (Int.gcd a b))) | _=>False
theorem k105:aD Tryz.prog c105:=by
 refine kQ { asks:=[(0,[])] } Tryz.func99 Tryz.ntmps99 kn fun _ _ h=>?_
 split at h
 case h_2=>exact h.elim
 rename_i a b
 refine kb h.go ?_
 replace h:=h.ok
 obtain ⟨ha,hb⟩:=h
 refine Ask.mk ⟨{ X:=Int × Int,pre:=fun z=>Int.gcd z.1 z.2=Int.gcd a b∧(0≤z.1∧z.1≤4000000000000000000)∧(0≤z.2∧z.2≤4000000000000000000),mod:=fun z _=>[(0,I z.1),(1,I z.2)],heap:=fun _ _=>[],mu:=fun z=>z.2.natAbs },rfl,?_⟩
 (repeat refine ZG ?_)
 refine ⟨⟨(a,b),⟨rfl,ha,hb⟩,by (repeat' first|exact trivial|rfl|apply And.intro)⟩,fun (z:Int × Int) hz=>?_⟩
 obtain ⟨z1,z2,z3⟩:=hz
 (apply Br.mk<;>intro)
 ·rename_i hy
  have hm:(z.1.tmod z.2).natAbs<z.2.natAbs:=by rw[Int.natAbs_tmod];exact Nat.mod_lt _ (by omega)
  have hm0:0≤z.1.tmod z.2:=Int.tmod_nonneg _ z2.1
  (repeat'((conv=>whnf);first|refine Za ?_|(apply Pin.mk;apply Exists.intro)|apply Pinned.mk rfl rfl|fail))
  (conv=>whnf)
  refine ⟨(z.2,z.1.tmod z.2),hm,⟨by rw[← z1];exact tE _ _,z3,hm0,by show z.1.tmod z.2≤ _;omega⟩,?_⟩
  (repeat' first|exact trivial|rfl|apply And.intro)
  exact (Int.tmod_eq_emod_of_nonneg z2.1).symm
 ·rename_i hy
  have hy:z.2=0:=by omega
  have hg:((Int.gcd a b:Nat):Int)=z.1:=by
   rw[← z1,hy,Int.gcd_zero_right]
   omega
  rw[hg]
  (conv=>whnf)
  (repeat' first|rfl|apply And.intro)
theorem aA1 {P:Program} {fr:Bool} {f:FuncId} {s:List UInt8} {r:List SV} {x:SV} (h:s.length≤140737488355328→Tri P fr f (.str s::r) x):Tri P fr f (.str s::r) x:=by
 intro ok w vs hg hok hr
 cases hr with
 | cons _ v1 _ vs1 h1 hr=>
 cases h1 with
 | str _ hl=>exact h hl ok w _ hg hok (.cons _ _ _ _ (.str _ hl) hr)
theorem Qp (s:List UInt8): -1≤Lib.indexByte s 47∧Lib.indexByte s 47≤s.length:=by
 rw[kV]
 split
 ·omega
 ·have:=congrArg List.length (sV s)
  rw[List.length_append] at this
  omega
theorem t170 (s:List UInt8):Tri Tryz.prog true 216 [S s,S [47]] (I (Lib.indexByte s 47)):=by
 intro ok w vs hg hok hr
 cases hr with
 | cons _ v1 _ vs1 h1 hr=>
 cases h1 with
 | str _ hl=>
 obtain ⟨rfl,_⟩:=tI hr
 have hl':s.length≤140737488355328:=hl
 have hb:=Qp s
 refine (Any.stringslite_Index_one RL.lX ⟨s.toArray⟩ 47 w).mono ?_
 rintro e w' ⟨rfl,rfl⟩
 have hw:WV (.int .i64 (Lib.indexByte s 47)):=by constructor<;>simp only[lo,hi]<;>omega
 exact ⟨_,rfl,Below.refl _ _,.val _ hw⟩
def c170:Con:=aI 216 true fun args K=>match args with | [.str s,.str p]=>Need (p= [47]) (K (I (Lib.indexByte s 47))) | _=>False
theorem k170:aD Tryz.prog c170:=by
 refine kO Tryz.func216 fun args K h=>?_
 simp only[c170] at h;split at h
 ·obtain ⟨rfl,h⟩:=h
  exact ⟨_,h,t170 _⟩
 ·exact h.elim
theorem b154 (s:List UInt8) (hl:s.length≤140737488355328):body Tryz.prog [c170] {} true Tryz.f187 [S s,S [47]] (.tup [S (topS s),S (botS s).tail,.bl (botS s≠ []) inferInstance]):=by
 have hb:=Qp s
 have hi:=kV s
 have htb:=congrArg List.length (sV s)
 rw[List.length_append] at htb
 (repeat refine ZG ?_)
 (apply Br.mk<;>intro)
 ·rename_i h
  by_cases hbn:botS s= []
  ·rw[if_pos hbn] at hi;omega
  ·rw[if_neg hbn] at hi
   have hpos:=List.length_pos_iff.2 hbn
   rw[hi]
   (repeat'((conv=>whnf);first|refine Zg fun _=>?_|refine Zn ?_|refine Zj ?_|(apply Pin.mk;apply Exists.intro)|apply Pinned.mk rfl rfl|fail))
   (conv=>whnf)
   (repeat' first|exact trivial|apply And.intro)
   ·exact Vo s
   ·show s.drop ((topS s).length+1)=(botS s).tail
    rw[← List.drop_drop,Vp,List.drop_one]
   ·exact hbn
 ·rename_i h
  have hbn:botS s= []:=by
   refine Classical.byContradiction fun hx=>?_
   rw[if_neg hx] at hi;omega
  have ht:topS s=s:=by have:=sV s;rw[hbn,List.append_nil] at this;exact this
  (conv=>whnf)
  (repeat' first|exact trivial|apply And.intro)
  ·exact ht.symm
  ·show ([]:List UInt8)= _
   rw[hbn];rfl
  ·exact fun hx=>hx hbn
def c154:Con:=aI 187 true fun args K=>match args with | [.str s,.str p]=>Need (p= [47]) (K (.tup [S (topS s),S (botS s).tail,.bl (botS s≠ []) inferInstance])) | _=>False
theorem k154:aD Tryz.prog c154:=by
 refine kO Tryz.func187 fun args K h=>?_
 simp only[c154] at h;split at h
 ·obtain ⟨rfl,h⟩:=h
  exact ⟨_,h,aA1 fun hl=>triB Tryz.func187 Tryz.ntmps187 (by simp[k170]) (b154 _ hl)⟩
 ·exact h.elim
theorem b122 (s:List UInt8):body Tryz.prog [c154] {} true Tryz.f152 [S s,S [47]] (.tup [S (topS s),S (botS s).tail,.bl (botS s≠ []) inferInstance]):=by
 (repeat refine ZG ?_)
 (conv=>whnf)
 (repeat' first|exact trivial|rfl|apply And.intro)
def c122:Con:=aI 152 true fun args K=>match args with | [.str s,.str p]=>Need (p= [47]) (K (.tup [S (topS s),S (botS s).tail,.bl (botS s≠ []) inferInstance])) | _=>False
theorem k122:aD Tryz.prog c122:=by
 refine kO Tryz.func152 fun args K h=>?_
 simp only[c122] at h;split at h
 ·obtain ⟨rfl,h⟩:=h
  exact ⟨_,h,triB Tryz.func152 Tryz.ntmps152 (by simp[k154]) (b122 _)⟩
 ·exact h.elim
theorem zZ (s:List UInt8) (i:Nat):(48≤aH s i∧aH s i≤57)↔aR (s.getD i 0):=by
 unfold aH aR;omega
theorem uI (s:List UInt8):aH s 0=48↔s.headD 0=48:=by
 unfold aH
 have e:s.getD 0 0=s.headD 0:=by cases s<;>rfl
 rw[e]
 constructor
 ·intro h
  have:(s.headD 0).toNat=(48:UInt8).toNat:=by show _=48;omega
  exact UInt8.toNat.inj this
 ·intro h;rw[h];rfl
def c124:Con:=aI 153 true fun args K=>match args with | [.str s]=>K (I (dgsN s)) | _=>False
theorem k124:aD Tryz.prog c124:=by
 refine kQ { asks:=[(0,[])] } Tryz.func153 Tryz.ntmps153 kn fun _ _ h=>?_
 split at h
 case h_2=>exact h.elim
 rename_i s
 refine kb h ?_
 refine Ask.mk ⟨{ X:=Nat,pre:=fun n=>n≤s.length∧∀i,i<n→aR (s.getD i 0),mod:=fun n _=>[(3,I n)],heap:=fun _ _=>[],mu:=fun n=>s.length-n },rfl,?_⟩
 (repeat refine ZG ?_)
 refine ⟨⟨(0:Nat),⟨Nat.zero_le _,fun i hi=>absurd hi (Nat.not_lt_zero _)⟩,by (repeat' first|exact trivial|rfl|apply And.intro)⟩,fun (n:Nat) hn=>?_⟩
 obtain ⟨n1,n2⟩:=hn
 have hb:=zZ s n
 have h0:=uI s
 by_cases hc:n<s.length∧48≤aH s n∧aH s n≤57
 ·(repeat'((conv=>whnf);first|refine Zg fun _=>?_|refine Zn ?_|refine Zj ?_|refine Zy ?_|fail))
  all_goals first | (exfalso;omega) | skip
  refine ⟨(n+1:Nat),by show s.length-(n+1)<s.length-n;omega,⟨by omega,fun i hi=>?_⟩,by (repeat' first|exact trivial|rfl|apply And.intro)⟩
  by_cases e:i=n
  ·subst e;exact hb.1 hc.2
  ·exact n2 i (by omega)
 ·have hl:lead s=n:=sU s n n1 n2 (by
   by_cases e:n=s.length
   ·exact .inl e
   ·right
    rw[← hb];intro hx;exact hc ⟨by omega,hx⟩)
  have hd:(dgsN s:Int)=if 1<n∧aH s 0=48 then 0 else (n:Int):=by
   unfold dgsN
   rw[hl]
   by_cases q:1<n∧aH s 0=48
   ·rw[if_pos q,if_pos ⟨q.1,h0.1 q.2⟩];rfl
   ·rw[if_neg q,if_neg (fun hx=>q ⟨hx.1,h0.2 hx.2⟩)]
  (repeat'((conv=>whnf);first|refine Zg fun _=>?_|refine Zn ?_|refine Z0 ?_|refine Zj ?_|refine Zm ?_|refine Zr (fun _=>?_) fun _=>?_|fail))
  all_goals first | (exfalso;omega) | skip
  all_goals (skip;(conv=>whnf);(repeat' first|rfl|apply And.intro))
  all_goals (rw[hd];first | rw[if_pos (by omega)] | rw[if_neg (by omega)])
theorem itoa_zero:itoa 0= [48]:=by
 unfold itoa
 rw[if_neg (by omega)]
 exact bQ (show 0<10 by omega)
theorem b92 (x:Int) (hlx:(itoa x).length≤1000):body Tryz.prog [c123] {} true Tryz.f95 [S (itoa x)] (S (itoa (-x))):=by
 (apply Br.mk<;>intro)
 ·rename_i h
  have hx:x=0:=iV (by rw[itoa_zero];exact h)
  subst hx
  (conv=>whnf)
  (repeat' first|rfl)
 ·rename_i h
  have hx:x≠0:=fun e=>h (by rw[e,itoa_zero])
  have hh:=gZ x
  have hd:=bC x
  (repeat refine ZG ?_)
  (apply Br.mk<;>intro)
  ·rename_i hn
   have hn:=hh.1 hn
   have e:itoa (-x)=digs (itoa x):=by
    rw[hd]
    unfold itoa
    rw[if_neg (by omega)]
    congr 1;omega
   rw[e]
   (conv=>whnf)
  ·rename_i hn
   have hn:¬x<0:=fun e=>hn (hh.2 e)
   have e:itoa (-x)=45::itoa x:=by
    unfold itoa
    rw[if_pos (by omega),if_neg (by omega)]
    congr 2;omega
   rw[e]
   (repeat refine ZG ?_)
   (conv=>whnf)
   (repeat' first|rfl)
def c92:Con:=aI 95 true fun args K=>match args with | [.str s]=>Need (form s∧s.length≤1000) (K (S (itoa (-valI s)))) | _=>False
theorem k92:aD Tryz.prog c92:=by
 refine kO Tryz.func95 fun args K h=>?_
 simp only[c92] at h;split at h
 ·rename_i s
  obtain ⟨⟨h1,h2⟩,h⟩:=h
  refine ⟨_,h,?_⟩
  have e:=pR h1
  have:=triB Tryz.func95 Tryz.ntmps95 (by simp[k123]) (b92 (valI s) (by rw[← e];exact h2))
  rwa [← e] at this
 ·exact h.elim
def bot1 (s:List UInt8):List UInt8:=if botS s= [] then [49] else (botS s).tail
theorem vR (s:List UInt8):jA s↔(((dgsN (digs (topS s)):Int)≠0∧((digs (topS s)).length:Int)≤dgsN (digs (topS s)))∧¬((topS s).headD 0=45∧digs (topS s)= [48]))∧
  (botS s= []∨(((dgsN (botS s).tail:Int)≠0∧((botS s).tail.length:Int)≤dgsN (botS s).tail)∧¬(botS s).tail= [48]∧¬(botS s).tail= [49])):=by
 unfold jA
 rw[Jt]
 have e:∀d:List UInt8,okD d↔((dgsN d:Int)≠0∧(d.length:Int)≤dgsN d):=fun d=>by unfold okD;omega
 rw[e]
 refine and_congr Iff.rfl ?_
 by_cases hb:botS s= []
 ·simp[hb]
 ·have hd:denS s=aF (botS s).tail:=by unfold denS;rw[if_neg hb]
  rw[hd,Pt,e]
theorem b87y (s:List UInt8) (hf:jA s):body Tryz.prog [c122,c123,c124] {} true Tryz.f101 [S s] (.tup [.agg [S (topS s),S (bot1 s)],.val (.bool true)]):=by
 have hF:=(vR s).1 hf
 obtain ⟨⟨⟨f1,f2⟩,f3⟩,f4⟩:=hF
 unfold bot1
 (repeat'((conv=>whnf);first|refine Zg fun _=>?_|refine Zn ?_|refine Zm ?_|refine Zr (fun _=>?_) fun _=>?_|fail))
 all_goals first | (exfalso;omega) | skip
 all_goals first
  | (exfalso;simp_all;done)
  | (exfalso;simp_all;omega)
  | (skip;(conv=>whnf);(repeat' first|exact trivial|rfl|apply And.intro);simp_all;exact @rfl (List UInt8) _)
theorem b87n (s:List UInt8) (hf:¬jA s):body Tryz.prog [c122,c123,c124] {} true Tryz.f101 [S s] (.tup [.agg [S [],S []],.val (.bool false)]):=by
 have hF:=fun h=>hf ((vR s).2 h)
 (repeat'((conv=>whnf);first|refine Zg fun _=>?_|refine Zn ?_|refine Zr (fun _=>?_) fun _=>?_|fail))
 all_goals first
  | (exfalso;simp_all;done)
  | (exfalso;simp_all;omega)
  | (skip;(conv=>whnf);(repeat' first|exact trivial|rfl|apply And.intro);done)
  | (exfalso;refine hF ⟨⟨⟨by omega,by omega⟩,?_⟩,?_⟩
     ·first | exact fun hx=>absurd hx.2 (by assumption) | exact fun hx=>absurd hx.1 (by assumption)
     ·first | exact .inl (Classical.not_not.1 (by assumption)) | exact .inr ⟨⟨by omega,by omega⟩,by assumption,by assumption⟩)
def c87:Con:=aI 101 true fun args K=>match args with
 | [.str s]=>Br (jA s) (K (.tup [.agg [S (topS s),S (bot1 s)],.val (.bool true)])) (K (.tup [.agg [S [],S []],.val (.bool false)]))
 | _=>False
theorem k87:aD Tryz.prog c87:=by
 refine kO Tryz.func101 fun args K h=>?_
 simp only[c87] at h;split at h
 ·rename_i s
  by_cases hf:jA s
  ·exact ⟨_,h.yes hf,triB Tryz.func101 Tryz.ntmps101 (by simp[k122,k123,k124]) (b87y s hf)⟩
  ·exact ⟨_,h.no hf,triB Tryz.func101 Tryz.ntmps101 (by simp[k122,k123,k124]) (b87n s hf)⟩
 ·exact h.elim
def vS (s:List UInt8):Prop:=1≤lead s∧lead s≤8∧¬(1<lead s∧s.headD 0=48)
theorem Xl {s:List UInt8} {i:Nat} (hi:i≤s.length) (h:∀j,j<i→aR (s.getD j 0)):∀c∈s.take i,aR c:=by
 intro c hc
 obtain ⟨j,hj,rfl⟩:=List.getElem_of_mem hc
 rw[List.length_take] at hj
 have:=h j (by omega)
 rw[List.getD_eq_getElem?_getD,List.getElem?_eq_getElem (by omega)] at this
 simpa using this
theorem Aa {s:List UInt8} {i:Nat} (hi:i<s.length) (hd:aR (s.getD i 0)):(aF (s.take (i+1)):Int)=10*aF (s.take i)+(aH s i-48):=by
 have e:s.take (i+1)=s.take i++ [s.getD i 0]:=by
  rw[List.take_succ_eq_append_getElem hi]
  simp[List.getD_eq_getElem?_getD,hi]
 rw[e,cY]
 unfold aH
 unfold aR at hd
 omega
theorem Ab {s:List UInt8} {i:Nat} (hi:i≤s.length) (h:∀j,j<i→aR (s.getD j 0)) (h9:i≤9):aF (s.take i)<1000000000:=by
 have h1:=cE (s.take i) (Xl hi h)
 have h2:(10:Nat)^ (s.take i).length≤10^9:=Nat.pow_le_pow_right (by omega) (by rw[List.length_take];omega)
 have h3:(10:Nat)^9=1000000000:=by decide
 omega
theorem Gd:∀(s:List UInt8) (n:Nat),n≤s.length→(∀i,i<n→aR (s.getD i 0))→n≤lead s
 | _,0,_,_=>Nat.zero_le _
 | [],n+1,h,_=>by simp at h
 | c::r,n+1,h1,h2=>by
  have hc:48≤c.toNat∧c.toNat≤57:=h2 0 (by omega)
  unfold lead
  rw[if_pos hc]
  have:=Gd r n (by simpa using h1) (fun i hi=>h2 (i+1) (by omega))
  omega
theorem b104y (s:List UInt8) (h:vS s):body Tryz.prog [] { asks:=[(0,[])] } true Tryz.f98 [S s] (.tup [I (aF (s.take (lead s))),S (s.drop (lead s)),.val (.bool true)]):=by
 obtain ⟨o1,o2,o3⟩:=h
 rw[← uI] at o3
 refine Ask.mk ⟨{ X:=Nat,pre:=fun n=>n≤9∧n≤s.length∧∀i,i<n→aR (s.getD i 0),mod:=fun n _=>[(5,I (aF (s.take n))),(6,I n)],heap:=fun _ _=>[],mu:=fun n=>s.length-n },rfl,?_⟩
 (repeat refine ZG ?_)
 refine ⟨⟨(0:Nat),⟨by omega,Nat.zero_le _,fun i hi=>absurd hi (Nat.not_lt_zero _)⟩,by (repeat' first|exact trivial|rfl|apply And.intro)⟩,fun (n:Nat) hn=>?_⟩
 obtain ⟨n9,n1,n2⟩:=hn
 have hb:=zZ s n
 have hv:=Ab n1 n2 n9
 have hge:=Gd s n n1 n2
 by_cases hc:n<s.length∧48≤aH s n∧aH s n≤57
 ·have hs:=Aa hc.1 (hb.1 hc.2)
  (repeat'((conv=>whnf);first|refine Zg fun _=>?_|refine Zn ?_|refine Zj ?_|refine Zy ?_|fail))
  all_goals first | (exfalso;omega) | skip
  all_goals (skip;(conv=>whnf);refine ⟨(n+1:Nat),by show s.length-(n+1)<s.length-n;omega,⟨by omega,by omega,fun i hi=>by
     by_cases e:i=n
     ·subst e;exact hb.1 hc.2
     ·exact n2 i (by omega)⟩,?_⟩;(repeat' first|exact trivial|rfl|apply And.intro|omega);done)
 ·have hl:lead s=n:=sU s n n1 n2 (by
   by_cases e:n=s.length
   ·exact .inl e
   ·right
    rw[← hb];intro hx;exact hc ⟨by omega,hx⟩)
  have hr:(.tup [I (aF (s.take (lead s))),S (s.drop (lead s)),.val (.bool true)]:SV)= .tup [I (aF (s.take n)),S (s.drop n),.val (.bool true)]:=by rw[hl]
  rw[hr]
  rw[hl] at o1 o2 o3
  (repeat'((conv=>whnf);first|refine Zg fun _=>?_|refine Zn ?_|refine Z0 ?_|refine Zj ?_|(apply Pin.mk;apply Exists.intro)|apply Pinned.mk rfl rfl|refine Zy ?_|refine Zm ?_|refine Zr (fun _=>?_) fun _=>?_|fail))
  all_goals first | (exfalso;omega) | skip
  all_goals (skip;(conv=>whnf);(repeat' first|exact trivial|rfl|apply And.intro))
theorem b104n (s:List UInt8) (h:¬vS s):body Tryz.prog [] { asks:=[(0,[])] } true Tryz.f98 [S s] (.tup [I 0,S [],.val (.bool false)]):=by
 have h:¬(1≤lead s∧lead s≤8∧¬(1<lead s∧aH s 0=48)):=by rw[uI];exact h
 refine Ask.mk ⟨{ X:=Nat,pre:=fun n=>n≤9∧n≤s.length∧∀i,i<n→aR (s.getD i 0),mod:=fun n _=>[(5,I (aF (s.take n))),(6,I n)],heap:=fun _ _=>[],mu:=fun n=>s.length-n },rfl,?_⟩
 (repeat refine ZG ?_)
 refine ⟨⟨(0:Nat),⟨by omega,Nat.zero_le _,fun i hi=>absurd hi (Nat.not_lt_zero _)⟩,by (repeat' first|exact trivial|rfl|apply And.intro)⟩,fun (n:Nat) hn=>?_⟩
 obtain ⟨n9,n1,n2⟩:=hn
 have hb:=zZ s n
 have hv:=Ab n1 n2 n9
 have hge:=Gd s n n1 n2
 by_cases hc:n<s.length∧48≤aH s n∧aH s n≤57
 ·have hs:=Aa hc.1 (hb.1 hc.2)
  (repeat'((conv=>whnf);first|refine Zg fun _=>?_|refine Zn ?_|refine Zj ?_|refine Zy ?_|refine Zm ?_|refine Zr (fun _=>?_) fun _=>?_|fail))
  all_goals first | (exfalso;omega) | skip
  all_goals first | (skip;(conv=>whnf);refine ⟨(n+1:Nat),by show s.length-(n+1)<s.length-n;omega,⟨by omega,by omega,fun i hi=>by
     by_cases e:i=n
     ·subst e;exact hb.1 hc.2
     ·exact n2 i (by omega)⟩,?_⟩;(repeat' first|exact trivial|rfl|apply And.intro|omega);done) | (skip;(conv=>whnf);(repeat' first|exact trivial|rfl|apply And.intro);done)
 ·have hl:lead s=n:=sU s n n1 n2 (by
   by_cases e:n=s.length
   ·exact .inl e
   ·right
    rw[← hb];intro hx;exact hc ⟨by omega,hx⟩)
  rw[hl] at h
  (repeat'((conv=>whnf);first|refine Zg fun _=>?_|refine Zn ?_|refine Z0 ?_|refine Zj ?_|refine Zy ?_|refine Zm ?_|refine Zr (fun _=>?_) fun _=>?_|fail))
  all_goals first | (exfalso;omega) | skip
  all_goals (skip;(conv=>whnf);(repeat' first|exact trivial|rfl|apply And.intro))
theorem jP {s:List UInt8} (h:vS s):s.take (lead s)=decDigits (aF (s.take (lead s)))∧aF (s.take (lead s))<100000000:=by
 obtain ⟨h1,h2,h3⟩:=h
 have hl:=Fr s
 have hd:=zE s
 have hlen:(s.take (lead s)).length=lead s:=by rw[List.length_take];omega
 have hh:(s.take (lead s)).headD 0=s.headD 0:=by
  cases s with
  | nil=>rfl
  | cons c r=>
   obtain ⟨k,hk⟩:∃k,lead (c::r)=k+1:=⟨lead (c::r)-1,by omega⟩
   rw[hk];rfl
 refine ⟨(lQ _ _ rfl (fun e=>by rw[e] at hlen;simp at hlen;omega) hd ?_).symm,?_⟩
 ·rw[hlen,hh]
  by_cases h48:s.headD 0=48
  ·left
   have:¬1<lead s:=fun hx=>h3 ⟨hx,h48⟩
   omega
  ·exact .inr h48
 ·have h1:=cE (s.take (lead s)) hd
  have h2:(10:Nat)^ (s.take (lead s)).length≤10^8:=Nat.pow_le_pow_right (by omega) (by rw[hlen];omega)
  have h3:(10:Nat)^8=100000000:=by decide
  omega
def c104:Con:=aI 98 true fun args K=>match args with
 | [.str s]=>Br (vS s) (Giv (aF (s.take (lead s))<100000000) (K (.tup [I (aF (s.take (lead s))),S (s.drop (lead s)),.val (.bool true)]))) (K (.tup [I 0,S [],.val (.bool false)]))
 | _=>False
theorem k104:aD Tryz.prog c104:=by
 refine kO Tryz.func98 fun args K h=>?_
 simp only[c104] at h;split at h
 ·rename_i s
  by_cases hf:vS s
  ·exact ⟨_,(h.yes hf).go (jP hf).2,triB Tryz.func98 Tryz.ntmps98 (by simp) (b104y s hf)⟩
  ·exact ⟨_,h.no hf,triB Tryz.func98 Tryz.ntmps98 (by simp) (b104n s hf)⟩
 ·exact h.elim
abbrev nvN (s:List UInt8):Nat:=aF ((digs s).take (lead (digs s)))
abbrev nvR (s:List UInt8):List UInt8:=(digs s).drop (lead (digs s))
abbrev nvD (s:List UInt8):Nat:=aF ((nvR s).tail.take (lead (nvR s).tail))
def nvOK (s:List UInt8):Prop:=vS (digs s)∧¬(s.headD 0=45∧nvN s=0)∧(nvR s= []∨((nvR s).headD 0=47∧vS (nvR s).tail∧(nvR s).tail.drop (lead (nvR s).tail)= []∧2≤nvD s∧Nat.gcd (nvN s) (nvD s)=1))
theorem Xm (s:List UInt8):s=(if s.headD 0=45 then [45] else [])++digs s:=by
 unfold digs
 by_cases h:s.headD 0=45
 ·rw[if_pos h,if_pos h]
  cases s with
  | nil=>simp at h
  | cons c r=>simp at h;rw[h];rfl
 ·rw[if_neg h,if_neg h];rfl
theorem Xn {p:Prop} [Decidable p] {n:Nat} (h:¬(p∧n=0)):itoa (sgP p n)=(if p then [45] else [])++decDigits n:=by
 unfold itoa sgP
 by_cases hp:p
 ·rw[if_pos hp,if_pos hp]
  have:n≠0:=fun e=>h ⟨hp,e⟩
  rw[if_pos (by omega)]
  show 45:: _=45:: _
  congr 2;omega
 ·rw[if_neg hp,if_neg hp,if_neg (by omega)]
  simp
theorem aD5 {s:List UInt8} (h:nvOK s):∃q:Rat,s=numS q∧q.num=sgP (s.headD 0=45) (nvN s)∧(q.den:Int)=(if nvR s= [] then 1 else nvD s:Nat)∧nvN s<100000000∧q.den<100000000:=by
 obtain ⟨h1,h2,h3⟩:=h
 obtain ⟨a1,a2⟩:=jP h1
 have hs:=Xm s
 have ht:digs s=decDigits (nvN s)++nvR s:=by
  rw[← a1];exact (List.take_append_drop _ _).symm
 have hi:=Xn h2
 have hs2:s=itoa (sgP (s.headD 0=45) (nvN s))++nvR s:=by
  rw[hi,List.append_assoc,← ht];exact hs
 rcases h3 with h3 | ⟨b1,b2,b3,b4,b5⟩
 ·refine ⟨⟨sgP (s.headD 0=45) (nvN s),1,by decide,by simp⟩,?_,rfl,by rw[if_pos h3],a2,by show (1:Nat)< _;decide⟩
  unfold numS
  rw[if_pos rfl]
  rw[h3,List.append_nil] at hs2
  exact hs2
 ·have hne:nvR s≠ []:=fun e=>by rw[e] at b1;simp at b1
  obtain ⟨c1,c2⟩:=jP b2
  have hr:nvR s=47::decDigits (nvD s):=by
   cases hq:nvR s with
   | nil=>exact absurd hq hne
   | cons c r=>
    have hc:c=47:=by rw[hq] at b1;simpa using b1
    have ht2:(nvR s).tail=r:=by rw[hq];rfl
    rw[← ht2,hc]
    congr 1
    rw[← c1]
    have:=List.take_append_drop (lead (nvR s).tail) (nvR s).tail
    rw[b3,List.append_nil] at this
    exact this.symm
  refine ⟨⟨sgP (s.headD 0=45) (nvN s),nvD s,by omega,?_⟩,?_,rfl,by rw[if_neg hne],a2,c2⟩
  ·rw[nD];exact b5
  ·unfold numS
   rw[if_neg (by show ¬nvD s=1;omega)]
   show s=itoa _++47::decDigits (nvD s)
   rw[← hr];exact hs2
theorem cZ {s:List UInt8} (h:nvOK s):s=numS (valQ s)∧(valQ s).num=sgP (s.headD 0=45) (nvN s)∧((valQ s).den:Int)=(if nvR s= [] then 1 else nvD s:Nat)∧(valQ s).num.natAbs<100000000∧(valQ s).den<100000000:=by
 obtain ⟨q,q1,q2,q3,q4,q5⟩:=aD5 h
 have e:valQ s=q:=by rw[q1];exact cU q
 rw[e]
 exact ⟨q1,q2,q3,by rw[q2,nD];exact q4,q5⟩
theorem jQ (s:List UInt8) (c:UInt8):aH s 0=c.toNat↔s.headD 0=c:=by
 unfold aH
 have e:s.getD 0 0=s.headD 0:=by cases s<;>rfl
 rw[e]
 constructor
 ·intro h
  exact UInt8.toNat.inj (by omega)
 ·intro h;rw[h]
theorem b68y (s:List UInt8) (h:nvOK s):body Tryz.prog [c104,c105] {} true Tryz.f49 [S s] (.tup [.agg [I (sgP (s.headD 0=45) (nvN s)),I (if nvR s= [] then 1 else nvD s:Nat)],.val (.bool true)]):=by
 obtain ⟨h1,h2,h3⟩:=h
 have hb:aH s 0=45↔s.headD 0=45:=jQ s 45
 have hd8:=(jP h1).2
 unfold sgP
 by_cases hn:s.headD 0=45
 ·rw[if_pos hn]
  have hb0:aH s 0=45:=hb.2 hn
  have hs0:¬s= []:=fun e=>by rw[e] at hn;simp at hn
  have hlen:(s.drop 1).length=s.length-1:=List.length_drop
  have hpos:=List.length_pos_iff.2 hs0
  have hdg:digs s=s.drop 1:=by unfold digs;rw[if_pos hn,List.drop_one]
  have hN:nvN s≠0:=fun e=>h2 ⟨hn,e⟩
  simp only[nvN,nvR,nvD,hdg] at*
  rcases h3 with h3 | ⟨d1,d2,d3,d4,d5⟩
  ·skip
   rw[if_pos h3]
   (repeat' first|refine ZR ?_|refine Zg fun _=>?_)
   (conv=>whnf)
   (repeat' first|exact trivial|rfl|apply And.intro)
  ·skip
   have hR:¬List.drop (lead (List.drop 1 s)) (List.drop 1 s)= []:=fun e=>by rw[e] at d1;simp at d1
   have hRp:=List.length_pos_iff.2 hR
   have hb47:aH (List.drop (lead (List.drop 1 s)) (List.drop 1 s)) 0=47:=(jQ _ 47).2 d1
   rw[← List.drop_one] at d2 d3 d4 d5
   have hg:((Int.gcd ((aF (List.take (lead (List.drop 1 s)) (List.drop 1 s)):Nat):Int) ((aF (List.take (lead (List.drop 1 (List.drop (lead (List.drop 1 s)) (List.drop 1 s)))) (List.drop 1 (List.drop (lead (List.drop 1 s)) (List.drop 1 s)))):Nat):Int):Nat):Int)=1:=by rw[Int.gcd_natCast_natCast,d5];rfl
   have hd9:=(jP d2).2
   rw[if_neg hR,← List.drop_one]
   (repeat' first|refine ZR ?_|refine Zg fun _=>?_)
   (conv=>whnf)
   (repeat' first|exact trivial|rfl|apply And.intro)
 ·rw[if_neg hn]
  have hb0:¬aH s 0=45:=fun e=>hn (hb.1 e)
  have hs0:¬s= []:=fun e=>by rw[e] at h1;exact absurd h1.1 (by decide)
  have hpos:=List.length_pos_iff.2 hs0
  have hdg:digs s=s:=by unfold digs;rw[if_neg hn]
  simp only[nvN,nvR,nvD,hdg] at*
  rcases h3 with h3 | ⟨d1,d2,d3,d4,d5⟩
  ·skip
   rw[if_pos h3]
   (repeat' first|refine ZR ?_|refine Zg fun _=>?_)
   (conv=>whnf)
   (repeat' first|exact trivial|rfl|apply And.intro)
  ·skip
   have hR:¬List.drop (lead s) s= []:=fun e=>by rw[e] at d1;simp at d1
   have hRp:=List.length_pos_iff.2 hR
   have hb47:aH (List.drop (lead s) s) 0=47:=(jQ _ 47).2 d1
   rw[← List.drop_one] at d2 d3 d4 d5
   have hg:((Int.gcd ((aF (List.take (lead s) s):Nat):Int) ((aF (List.take (lead (List.drop 1 (List.drop (lead s) s))) (List.drop 1 (List.drop (lead s) s))):Nat):Int):Nat):Int)=1:=by rw[Int.gcd_natCast_natCast,d5];rfl
   have hd9:=(jP d2).2
   rw[if_neg hR,← List.drop_one]
   (repeat' first|refine ZR ?_|refine Zg fun _=>?_)
   (conv=>whnf)
   (repeat' first|exact trivial|rfl|apply And.intro)
theorem b68n (s:List UInt8) (h:¬nvOK s):body Tryz.prog [c104,c105] {} true Tryz.f49 [S s] (.tup [.agg [I 0,I 0],.val (.bool false)]):=by
 have hb:aH s 0=45↔s.headD 0=45:=jQ s 45
 unfold nvOK at h
 by_cases hn:s.headD 0=45
 ·have hb0:aH s 0=45:=hb.2 hn
  have hs0:¬s= []:=fun e=>by rw[e] at hn;simp at hn
  have hlen:(s.drop 1).length=s.length-1:=List.length_drop
  have hpos:=List.length_pos_iff.2 hs0
  have hdg:digs s=s.drop 1:=by unfold digs;rw[if_pos hn,List.drop_one]
  simp only[nvN,nvR,nvD,hdg,← List.drop_one] at h
  (repeat' first|refine ZR ?_|refine Zg fun _=>?_)
  (apply Br.mk<;>intro)
  ·rename_i hk
   (repeat' first|refine ZR ?_|refine Zg fun _=>?_)
   (apply Br.mk<;>intro)
   ·rename_i hN
    (conv=>whnf)
    (repeat' first|exact trivial|rfl|apply And.intro)
   ·rename_i hN
    (apply Br.mk<;>intro)
    ·rename_i hR
     have hRp:=List.length_pos_iff.2 hR
     (repeat' first|refine ZG ?_|refine Zg fun _=>?_)
     (apply Br.mk<;>intro)
     ·rename_i hc
      (conv=>whnf)
      (repeat' first|exact trivial|rfl|apply And.intro)
     ·rename_i hc
      have hc:=(jQ _ 47).1 (Classical.not_not.1 hc)
      (repeat refine ZG ?_)
      (apply Br.mk<;>intro)
      ·rename_i hk2
       (repeat'((conv=>whnf);first|refine Zg fun _=>?_|fail))
       (apply Br.mk<;>intro)
       ·rename_i he
        (conv=>whnf)
        (repeat' first|exact trivial|rfl|apply And.intro)
       ·rename_i he
        have he:=Classical.not_not.1 he
        (apply Br.mk<;>intro)
        ·rename_i h2d
         (conv=>whnf)
         (repeat' first|exact trivial|rfl|apply And.intro)
        ·rename_i h2d
         (repeat refine ZG ?_)
         (apply Br.mk<;>intro)
         ·rename_i hg
          (conv=>whnf)
          (repeat' first|exact trivial|rfl|apply And.intro)
         ·rename_i hg
          exfalso
          have hg:=Classical.not_not.1 hg
          rw[Int.gcd_natCast_natCast] at hg
          exact h ⟨hk,(fun hx=>hN (by omega)),.inr ⟨hc,hk2,he,by omega,by omega⟩⟩
      ·rename_i hk2
       (conv=>whnf)
       (repeat' first|exact trivial|rfl|apply And.intro)
    ·rename_i hR
     exfalso
     exact h ⟨hk,(fun hx=>hN (by omega)),.inl (Classical.not_not.1 hR)⟩
  ·rename_i hk
   (conv=>whnf)
   (repeat' first|exact trivial|rfl|apply And.intro)
 ·have hb0:¬aH s 0=45:=fun e=>hn (hb.1 e)
  have hdg:digs s=s:=by unfold digs;rw[if_neg hn]
  simp only[nvN,nvR,nvD,hdg,← List.drop_one] at h
  by_cases hs0:s= []
  ·subst hs0
   have hk:¬vS []:=fun h=>absurd h.1 (by decide)
   (repeat refine ZR ?_)
   (conv=>whnf)
   (repeat' first|exact trivial|rfl|apply And.intro)
  ·have hpos:=List.length_pos_iff.2 hs0
   (repeat' first|refine ZR ?_|refine Zg fun _=>?_)
   (apply Br.mk<;>intro)
   ·rename_i hk
    (repeat' first|refine ZR ?_|refine Zg fun _=>?_)
    (apply Br.mk<;>intro)
    ·rename_i hR
     have hRp:=List.length_pos_iff.2 hR
     (repeat' first|refine ZG ?_|refine Zg fun _=>?_)
     (apply Br.mk<;>intro)
     ·rename_i hc
      (conv=>whnf)
      (repeat' first|exact trivial|rfl|apply And.intro)
     ·rename_i hc
      have hc:=(jQ _ 47).1 (Classical.not_not.1 hc)
      (repeat refine ZG ?_)
      (apply Br.mk<;>intro)
      ·rename_i hk2
       (repeat'((conv=>whnf);first|refine Zg fun _=>?_|fail))
       (apply Br.mk<;>intro)
       ·rename_i he
        (conv=>whnf)
        (repeat' first|exact trivial|rfl|apply And.intro)
       ·rename_i he
        have he:=Classical.not_not.1 he
        (apply Br.mk<;>intro)
        ·rename_i h2d
         (conv=>whnf)
         (repeat' first|exact trivial|rfl|apply And.intro)
        ·rename_i h2d
         (repeat refine ZG ?_)
         (apply Br.mk<;>intro)
         ·rename_i hg
          (conv=>whnf)
          (repeat' first|exact trivial|rfl|apply And.intro)
         ·rename_i hg
          exfalso
          have hg:=Classical.not_not.1 hg
          rw[Int.gcd_natCast_natCast] at hg
          exact h ⟨hk,(fun hx=>hn hx.1),.inr ⟨hc,hk2,he,by omega,by omega⟩⟩
      ·rename_i hk2
       (conv=>whnf)
       (repeat' first|exact trivial|rfl|apply And.intro)
    ·rename_i hR
     exfalso
     exact h ⟨hk,(fun hx=>hn hx.1),.inl (Classical.not_not.1 hR)⟩
   ·rename_i hk
    (conv=>whnf)
    (repeat' first|exact trivial|rfl|apply And.intro)
noncomputable instance (s:List UInt8):Decidable (nvOK s):=Classical.propDecidable _
def bS (s:List UInt8):Prop:=s=numS (valQ s)∧(valQ s).num.natAbs<100000000∧(valQ s).den<100000000
def c68:Con:=aI 49 true fun args K=>match args with
 | [.str s]=>Br (nvOK s) (Giv (bS s) (K (.tup [.agg [I (valQ s).num,I (valQ s).den],.val (.bool true)]))) (K (.tup [.agg [I 0,I 0],.val (.bool false)]))
 | _=>False
theorem k68:aD Tryz.prog c68:=by
 refine kO Tryz.func49 fun args K h=>?_
 simp only[c68] at h;split at h
 ·rename_i s
  by_cases hf:nvOK s
  ·obtain ⟨v1,v2,v3,v4,v5⟩:=cZ hf
   refine ⟨_,(h.yes hf).go ⟨v1,v4,v5⟩,?_⟩
   rw[v2,v3]
   exact triB Tryz.func49 Tryz.ntmps49 (by simp[k104,k105]) (b68y s hf)
  ·exact ⟨_,h.no hf,triB Tryz.func49 Tryz.ntmps49 (by simp[k104,k105]) (b68n s hf)⟩
 ·exact h.elim
theorem oR (n:Nat):itoa (n:Int)=decDigits n:=by
 unfold itoa
 rw[if_neg (by omega),Int.toNat_natCast]
theorem Kj {g d k:Nat} (h:g≤d) (hd:(decDigits d).length≤k+1):(decDigits g).length≤k+1:=by
 have h2:=cE (decDigits d) (iK _)
 rw[cV] at h2
 exact iJ k g (Nat.lt_of_lt_of_le (Nat.lt_of_le_of_lt h h2) (Nat.pow_le_pow_right (by omega) hd))
theorem Ac {s:List UInt8} (h:jA s):bot1 s=decDigits (denS s)∧1≤denS s∧(300<(bot1 s).length↔300<(botS s).tail.length):=by
 unfold bot1
 rcases h.2 with h | ⟨h1,h2⟩
 ·have hd:denS s=1:=by unfold denS;rw[if_pos h]
  rw[if_pos h,hd,h]
  exact ⟨(bQ (show 1<10 by omega)).symm,Nat.le_refl _,by simp⟩
 ·have hb:botS s≠ []:=fun e=>by
   have hd:denS s=1:=by unfold denS;rw[if_pos e]
   omega
  rw[if_neg hb]
  exact ⟨h1,by omega,Iff.rfl⟩
theorem Kk {s:List UInt8} (h:s=numS (valQ s)) (h1:(digs (topS s)).length≤300) (h2:(botS s).tail.length≤300):chkQ s=0:=by
 have hf:jA s:=by rw[h];exact rF _
 have hg:(valI (topS s)).natAbs.gcd (denS s)=1:=by rw[h];exact Fp _
 unfold chkQ
 rw[if_pos hf,if_neg (by omega),if_pos hg]
theorem Ct {n:Nat} (h:n<100000000):(decDigits n).length≤8:=iJ 7 n (by simpa using h)
theorem jR {s:List UInt8} (h:bS s):chkQ s=0:=by
 obtain ⟨h1,h2,h3⟩:=h
 refine Kk h1 ?_ ?_
 ·rw[h1,gG,bC]
  have:=Ct h2
  omega
 ·rw[h1,kC]
  split
  ·simp
  ·have:=Ct h3
   simp;omega
theorem uJ {s:List UInt8} (h:s=numS (valQ s)):topS s=itoa (valQ s).num∧bot1 s=decDigits (valQ s).den:=by
 have hf:jA s:=by rw[h];exact rF _
 have e:=(Ac hf).1
 have ed:denS s=(valQ s).den:=(congrArg denS h).trans (sQ _)
 rw[ed] at e
 exact ⟨(congrArg topS h).trans (gG _),e⟩
theorem Gf {d:Nat} (h:(decDigits d).length≤300):form (decDigits d)∧chkI (decDigits d)=0∧valI (decDigits d)=d:=by
 rw[← oR]
 refine ⟨eZ _,?_,aV _⟩
 rw[gK (eZ _),if_neg]
 rw[bC]
 simpa using h
noncomputable def rdV (s:List UInt8):SV:=if chkQ s=0 then .tup [.agg [S (itoa (valQ s).num),S (decDigits (valQ s).den)],I 0] else .tup [.agg [S [],S []],I (chkQ s)]
theorem b46 (s:List UInt8):body Tryz.prog [c87,c68,c88,c89] {} true Tryz.f51 [S s] (rdV s):=by
 (apply Br.mk<;>intro)
 ·rename_i hf
  obtain ⟨hb1,hb2,hb3⟩:=Ac hf
  (apply Br.mk<;>intro)
  ·rename_i hn
   refine Giv.mk fun hs=>?_
   have h0:=jR hs
   obtain ⟨p1,p2⟩:=uJ hs.1
   unfold rdV
   rw[if_pos h0,← p1,← p2]
   (conv=>whnf)
   (repeat' first|exact trivial|rfl|apply And.intro)
  ·rename_i hn
   have hq:chkQ s=if 300<(digs (topS s)).length∨300<(bot1 s).length then 4 else if (valI (topS s)).natAbs.gcd (denS s)=1 then 0 else 11:=by
    unfold chkQ
    rw[if_pos hf]
    simp only[hb3]
   have hnum:(valI (topS s)).natAbs.gcd (denS s)=1→topS s=itoa (valQ s).num∧bot1 s=decDigits (valQ s).den:=fun hg=>uJ (Pm hf hg)
   (repeat' first|refine ZG ?_|refine Zg fun _=>?_)
   (apply Br.mk<;>intro)
   ·rename_i hl
    have h4:chkQ s=4:=by rw[hq,if_pos (.inl (by omega))]
    unfold rdV
    rw[if_neg (by omega),h4]
    (conv=>whnf)
    (repeat' first|exact trivial|rfl|apply And.intro)
   ·rename_i hl
    (repeat'((conv=>whnf);first|refine Zg fun _=>?_|fail))
    (apply Br.mk<;>intro)
    ·rename_i hl2
     have h4:chkQ s=4:=by rw[hq,if_pos (.inr (by omega))]
     unfold rdV
     rw[if_neg (by omega),h4]
     (conv=>whnf)
     (repeat' first|exact trivial|rfl|apply And.intro)
    ·rename_i hl2
     rw[if_neg (by omega)] at hq
     (apply Br.mk<;>intro)
     ·rename_i h1
      have hd:denS s=1:=by
       rw[hb1] at h1
       have:=congrArg aF h1
       rw[cV] at this
       exact this
      have hg:(valI (topS s)).natAbs.gcd (denS s)=1:=by rw[hd];exact Nat.gcd_one_right _
      obtain ⟨p1,p2⟩:=hnum hg
      rw[if_pos hg] at hq
      unfold rdV
      rw[if_pos hq,← p1,← p2]
      (conv=>whnf)
      (repeat' first|exact trivial|rfl|apply And.intro)
     ·rename_i h1
      obtain ⟨d1,d2,d3⟩:=Gf (d:=denS s) (by rw[← hb1];omega)
      have hct:chkI (topS s)=0:=by rw[gK hf.1,if_neg (by omega)]
      have hb:bX (topS s) (bot1 s) (resI (Int.gcd (valI (topS s)) (valI (bot1 s))))=(decDigits ((valI (topS s)).natAbs.gcd (denS s)),0):=by
       unfold bX chk2
       rw[hb1,hct,d2,d3,if_neg (by simp),show Int.gcd (valI (topS s)) (denS s:Int)=(valI (topS s)).natAbs.gcd (denS s) by unfold Int.gcd;simp]
       unfold resI lim
       rw[if_neg]
       ·rw[oR]
       ·have h3:(valI (topS s)).natAbs.gcd (denS s)≤denS s:=Nat.gcd_le_right _ (by omega)
        have h4:(decDigits (denS s)).length≤300:=by rw[← hb1];omega
        have h5:=Kj h3 (k:=299) h4
        simpa using h5
      have z1:=congrArg Prod.fst hb
      have z2:(bX (topS s) (bot1 s) (resI (Int.gcd (valI (topS s)) (valI (bot1 s))))).2=0:=congrArg Prod.snd hb
      (repeat refine ZR ?_)
      (apply Br.mk<;>intro)
      ·rename_i hg
       rw[z1] at hg
       have hg1:(valI (topS s)).natAbs.gcd (denS s)≠1:=fun e=>hg (by rw[e];exact bQ (show 1<10 by omega))
       rw[if_neg hg1] at hq
       unfold rdV
       rw[if_neg (by omega),hq]
       (conv=>whnf)
       (repeat' first|exact trivial|rfl|apply And.intro)
      ·rename_i hg
       have hg:=Classical.not_not.1 hg
       rw[z1] at hg
       have hg1:(valI (topS s)).natAbs.gcd (denS s)=1:=by
        have:=congrArg aF hg
        rw[cV] at this
        exact this
       obtain ⟨p1,p2⟩:=hnum hg1
       rw[if_pos hg1] at hq
       unfold rdV
       rw[if_pos hq,← p1,← p2]
       (conv=>whnf)
       (repeat' first|exact trivial|rfl|apply And.intro)
 ·rename_i hf
  have h11:chkQ s=11:=by unfold chkQ;rw[if_neg hf]
  unfold rdV
  rw[if_neg (by omega),h11]
  (conv=>whnf)
  (repeat' first|exact trivial|rfl|apply And.intro)
def Xo (s:List UInt8):Prop:=s=numS (valQ s)∧(decDigits (valQ s).num.natAbs).length≤300∧(decDigits (valQ s).den).length≤300
theorem dL {s:List UInt8} (h:chkQ s=0):Xo s:=by
 obtain ⟨h1,h2,h3⟩:=Fq h
 have hf:jA s:=by rw[h1];exact rF _
 obtain ⟨p1,p2⟩:=uJ h1
 refine ⟨h1,?_,?_⟩
 ·rw[p1,bC] at h2;exact h2
 ·have:=(Ac hf).2.2
  rw[p2] at this
  omega
def c46:Con:=aI 51 true fun args K=>match args with
 | [.str s]=>Br (chkQ s=0) (Giv (Xo s) (K (.tup [.agg [S (itoa (valQ s).num),S (decDigits (valQ s).den)],I 0]))) (K (.tup [.agg [S [],S []],I (chkQ s)]))
 | _=>False
theorem k46:aD Tryz.prog c46:=by
 refine kO Tryz.func51 fun args K h=>?_
 simp only[c46] at h;split at h
 ·rename_i s
  have ht:=oG (r:=rdV s) (Γ:=[c87,c68,c88,c89]) (by simp[k87,k68,k88,k89]) Tryz.func51 (by simp[Tryz.ntmps51]) (by unfold rdV;split<;>rfl) (b46 s)
  unfold rdV at ht
  by_cases hf:chkQ s=0
  ·rw[if_pos hf] at ht
   exact ⟨_,(h.yes hf).go (dL hf),ht⟩
  ·rw[if_neg hf] at ht
   exact ⟨_,h.no hf,by
    cases hc:chkQ s with
    | _=>exact hc ▸ ht⟩
 ·exact h.elim
end RB
end

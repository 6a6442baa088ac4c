/-
  Part 7: a symbolic executor over the model, contracts of functions and plain laws.
-/
import Derived.Test.YtocimheacfaimaaGreatDoorP6
import Derived.Shelf.Spec.SlicesInsertGrow
import Derived.Laws.CopyRow
set_option linter.unusedVariables false
set_option linter.unusedSimpArgs false
set_option maxRecDepth 10000
set_option maxHeartbeats 80000000
open List (length getD)
noncomputable section
section
open Go Go.Proofs Go.Eng Go.Shelf IB Go.Lib Go.RowKit Tryz
namespace RB
def c5036:Con:=aV 36 true fun | [.str s],K=>K (.bl (namP s) Cp) | _,_=>False
theorem k5036:aM Tp c5036:=by
 refine kQ { asks:=[(0,[])] } func36 ntmps36 kn fun _ _ h=>?_;split at h;case h_2=>cases h
 rename_i s;refine kb h ?_;have o:namP s↔((∀i,i<s.length->Ai (bJ s i))/\0<s.length/\s.length<=16):=cJ;generalize namP s=M at*;refine Ask.mk ⟨{ X:=Nat,pre:=fun i=>i<=s.length/\∀j,j<i->Ai (bJ s j),mod:=fun i _=>[(3,I i)],heap:=fun i H=>H,mu:=fun i=>s.length-i },rfl,?_⟩;(repeat refine ZG ?_);refine ⟨⟨(0:Nat),⟨aF _,fun j x=>absurd x (aT j)⟩,ZE⟩,fun (i:Nat) hi=>?_⟩;obtain ⟨hi,y⟩:i<=s.length/\∀j,j<i->Ai (bJ s j):=hi;by_cases c:i<s.length
 ·by_cases f:Ai (bJ s i)
  ·have n:∀j,j<i+1->Ai (bJ s j):=fun j x=>by
    by_cases e:j=i
    ·subst e;exact f
    exact y j om
   unfold Ai at f;(repeat'((conv=>whnf);first|refine Zg fun _=>?_|refine Zn ?_|refine Zj ?_|refine Zy ?_|refine Zm ?_|refine Zr (fun _=>?_) fun _=>?_|fail));all_goals first
    | (exfalso;omega)
    | (refine ⟨(i+1:Nat),by show s.length-(i+1)<s.length-i;omega,⟨c,n⟩,ZE⟩)
  have g:¬M:=fun q=>f ((o.1 q).1 i c);unfold Ai at f;(repeat'((conv=>whnf);first|refine Zg fun _=>?_|refine Zn ?_|refine Zj ?_|refine Zy ?_|refine Zm ?_|refine Zr (fun _=>?_) fun _=>?_|fail));all_goals first
   | (exfalso;omega)
   | ((conv=>whnf);exact g)
 have e:i=s.length:=om;subst e;by_cases u:0<s.length
 ·have m:(s.length:Int)<=16↔M:=by rw[o];exact ⟨fun q=>⟨y,u,om⟩,fun q=>om⟩
  (repeat' first|refine ZR ?_|refine Zg fun _=>?_);(conv=>whnf);exact m
 have g:¬M:=fun q=>u (o.1 q).2.1;(repeat' first|refine ZR ?_|refine Zg fun _=>?_);(conv=>whnf);exact g
def c5038:Con:=aV 38 true fun | [.val (.int .i64 n),.val (.int .i64 f),.val (.int .i64 t)],K=>K (.bl (¬gL n f t) Cp) | _,_=>False
theorem J3:aM Tp c5038:=by
 refine kQ {} func38 ntmps38 kn fun _ _ h=>?_;split at h;case h_2=>cases h
 rename_i n f t;refine kb h ?_;have e:¬gL n f t↔¬(f<=n/\n<=t):=cJ;generalize (¬gL n f t)=M at*;by_cases h:n<f
 ·have c:M:=e.2 om;(repeat refine ZR ?_);(conv=>whnf);exact c
 have c:t<n↔M:=e.trans om |>.symm
 (repeat refine ZR ?_);(conv=>whnf);exact c
def c5039:Con:=aV 39 true fun | [.seq (.int .i64) l],K=>K (I (purE l)) | _,_=>False
theorem k5039:aM Tp c5039:=by
 refine kQ { asks:=[(0,[])] } func39 ntmps39 (kc J3 kn) fun _ _ h=>?_;split at h;case h_2=>cases h
 rename_i l;refine kb h ?_;by_cases g:16<length (α:=Int) l
 ·have e:purE l=4:=aE g;rw[e];exact ZRF
 have s:purE l=rO (rP l) l.length:=aD g;(repeat' first|refine ZR ?_|refine Zg fun _=>?_);refine Ask.mk ⟨{ X:=Nat,pre:=fun i=>i<=length (α:=Int) l/\∀j,j<i->rP l j=0,mod:=fun i _=>[(3,I i)],heap:=fun i H=>H,mu:=fun i=>length (α:=Int) l-i },rfl,?_⟩;(repeat refine ZG ?_);refine ⟨⟨(0:Nat),⟨aF _,fun j o=>absurd o (aT j)⟩,ZE⟩,fun (i:Nat) hi=>?_⟩;obtain ⟨hi,m⟩:i<=length (α:=Int) l/\∀j,j<i->rP l j=0:=hi;by_cases c:i<length (α:=Int) l
 ·by_cases n:gL (getD (α:=Int) l i 0) 0 1048576
  ·by_cases u:0<i
   ·by_cases x:getD (α:=Int) l i 0<=getD (α:=Int) l (i-1) 0
    ·have e1:rP l i=10:=by unfold rP;rw[aD (fun q=>q n),aE ⟨u,x⟩]
     have e2:purE l=10:=by rw[s,eZ c m (by rw[e1];decide),e1]
     rw[e2];(repeat'((conv=>whnf);first|refine Zg fun _=>?_|refine Zn ?_|refine Zj ?_|apply pI|apply pJ|refine Zy ?_|refine Zm ?_|fail));refine Kk (i-1) om ?_;(repeat'((conv=>whnf);first|refine Zg fun _=>?_|apply pI|apply pJ|refine Zy ?_|fail));exact ZF
    have e1:rP l i=0:=by unfold rP;rw[aD (fun q=>q n),aD (fun q=>x q.2)]
    have f:∀j,j<i+1->rP l j=0:=fun j o=>by
     by_cases e:j=i
     ·subst e;exact e1
     exact m j om
    (repeat'((conv=>whnf);first|refine Zg fun _=>?_|refine Zn ?_|refine Zj ?_|apply pI|apply pJ|refine Zy ?_|refine Zm ?_|fail));refine Kk (i-1) om ?_;(repeat'((conv=>whnf);first|refine Zg fun _=>?_|refine Zn ?_|apply pI|apply pJ|refine Zm ?_|fail));refine ⟨(i+1:Nat),by show length (α:=Int) l-(i+1)<length (α:=Int) l-i;omega,⟨c,f⟩,ZE⟩
   have e1:rP l i=0:=by unfold rP;rw[aD (fun q=>q n),aD (fun q=>u q.1)]
   have f:∀j,j<i+1->rP l j=0:=fun j o=>by
    by_cases e:j=i
    ·subst e;exact e1
    exact m j om
   (repeat'((conv=>whnf);first|refine Zg fun _=>?_|refine Zn ?_|refine Zj ?_|apply pI|apply pJ|refine Zy ?_|refine Zm ?_|fail));refine ⟨(i+1:Nat),by show length (α:=Int) l-(i+1)<length (α:=Int) l-i;omega,⟨c,f⟩,ZE⟩
  have e1:rP l i=2:=by unfold rP;rw[aE n]
  have e2:purE l=2:=by rw[s,eZ c m (by rw[e1];decide),e1]
  rw[e2];exact ZRF
 have e:i=length (α:=Int) l:=om;have e2:purE l=0:=by rw[s,jL fun j o=>m j om]
 rw[e2];subst e;exact ZRF
def c5092:Con:=aV 92 true fun | [.val (.int .i64 n)],K=>K (.bl (gL n 1 1000) Cp) | _,_=>False
theorem k5092:aM Tp c5092:=by
 refine kQ {} func92 ntmps92 kn fun _ _ h=>?_;split at h;case h_2=>cases h
 rename_i n;refine kb h ?_;have e:gL n 1 1000↔(1<=n/\n<=1000):=cJ;generalize gL n 1 1000=M at*;by_cases h:1<=n
 ·have c:n<=1000↔M:=⟨fun q=>e.2 ⟨h,q⟩,fun q=>(e.1 q).2⟩;(repeat refine ZR ?_);(conv=>whnf);exact c
 have c:¬M:=fun q=>h (e.1 q).1;(repeat refine ZR ?_);(conv=>whnf);exact c
def c5041:Con:=aV 41 true fun | [.seq (.pair (.int .i64) (.pair (.int .i64) (.int .i64))) l],K=>K (I (timE l)) | _,_=>False
theorem k5041:aM Tp c5041:=by
 refine kQ { asks:=[(0,[]),(2,[])] } func41 ntmps41 (kc k5092 kn) fun _ _ h=>?_;split at h;case h_2=>cases h
 rename_i l;change List Siz at l;refine kb h ?_;refine Ask.mk ⟨{ X:=Nat,pre:=fun i=>i<=length (α:=Siz) l/\∀j,j<i->(wT l j=0),mod:=fun i _=>[(3,I i)],heap:=fun i H=>H,mu:=fun i=>length (α:=Siz) l-i },rfl,?_⟩;(repeat refine ZG ?_);refine ⟨⟨(0:Nat),⟨aF _,fun j u=>absurd u (aT j)⟩,ZE⟩,fun (i:Nat) hi=>?_⟩;obtain ⟨hi,x⟩:i<=length (α:=Siz) l/\∀j,j<i->(wT l j=0):=hi;by_cases s:i<length (α:=Siz) l
 ·have g:=fun h=>(eZ (f:=wT l) s x h);have c:=fun h=>oN (f:=wT l) x h;rw[show rO (wT l) (length (α:=Siz) l)=timE l from rfl] at g;clear x;have e1:wT l i=if (getD (α:=Siz) l i (0,0,0)).1<1\/13<=(getD (α:=Siz) l i (0,0,0)).1 then 8 else if min (getD (α:=Siz) l i (0,0,0)).2.1 (getD (α:=Siz) l i (0,0,0)).2.2<1\/1000<max (getD (α:=Siz) l i (0,0,0)).2.1 (getD (α:=Siz) l i (0,0,0)).2.2 then 2 else if ∀k,k<i->(getD (α:=Siz) l k (0,0,0)).1≠(getD (α:=Siz) l i (0,0,0)).1 then 0 else 7:=rfl;by_cases m:(getD (α:=Siz) l i (0,0,0)).1<1\/13<=(getD (α:=Siz) l i (0,0,0)).1
  ·rw[aE m] at e1;have e2:timE l=8:=(g (by rw[e1];decide)).trans e1;rw[e2];clear g c e1 e2;(repeat'((conv=>whnf);first|refine Zg fun _=>?_|refine Zn ?_|refine Zj ?_|refine Zy ?_|refine Zr (fun _=>?_) fun _=>?_|fail));all_goals first
    | (exfalso;omega)
    | ((conv=>whnf);(repeat' first|rfl|apply aA))
  rw[aD m] at e1;have K:¬(getD (α:=Siz) l i (0,0,0)).1<1:=fun q=>m (.inl q);have F:¬12<(getD (α:=Siz) l i (0,0,0)).1:=fun q=>m (.inr q);by_cases A:gL (getD (α:=Siz) l i (0,0,0)).2.1 1 1000
  ·by_cases B:gL (getD (α:=Siz) l i (0,0,0)).2.2 1 1000
   ·have J:1<=(getD (α:=Siz) l i (0,0,0)).2.1/\(getD (α:=Siz) l i (0,0,0)).2.1<=1000:=A;have n:1<=(getD (α:=Siz) l i (0,0,0)).2.2/\(getD (α:=Siz) l i (0,0,0)).2.2<=1000:=B;rw[aD om] at e1;have e3:(¬ ∀k,k<i->(getD (α:=Siz) l k (0,0,0)).1≠(getD (α:=Siz) l i (0,0,0)).1)->timE l=7:=fun q=>by
     rw[aD q] at e1;exact (g (by rw[e1];decide)).trans e1
    have e4:(∀k,k<i->(getD (α:=Siz) l k (0,0,0)).1≠(getD (α:=Siz) l i (0,0,0)).1)->∀j,j<i+1->wT l j=0:=fun q=>by
     rw[aE q] at e1;exact c e1
    clear g c e1 J n m;(repeat' first|refine ZR ?_|refine Zg fun _=>?_);refine Ask.mk ⟨{ X:=Nat,pre:=fun k=>k<=i/\∀j,j<k->(getD (α:=Siz) l j (0,0,0)).1≠(getD (α:=Siz) l i (0,0,0)).1,mod:=fun k _=>[(4,I k)],heap:=fun k H=>H,mu:=fun k=>i-k },rfl,?_⟩;(repeat refine ZG ?_);refine ⟨⟨(0:Nat),⟨aF _,fun j u=>absurd u (aT j)⟩,ZE⟩,fun (k:Nat) C=>?_⟩;obtain ⟨C,E⟩:k<=i/\∀j,j<k->(getD (α:=Siz) l j (0,0,0)).1≠(getD (α:=Siz) l i (0,0,0)).1:=C;by_cases o:k<i
    ·by_cases D:(getD (α:=Siz) l k (0,0,0)).1=(getD (α:=Siz) l i (0,0,0)).1
     ·have e2:=e3 fun q=>q k o D;rw[e2];clear e3 e4 e2;(repeat'((conv=>whnf);first|refine Zg fun _=>?_|refine Zn ?_|refine Zj ?_|apply pI|apply pJ|refine Zy ?_|fail));exact ZF
     have z:=eD (f:=fun j=>(getD (α:=Siz) l j (0,0,0)).1≠(getD (α:=Siz) l i (0,0,0)).1) E D;clear e3 e4;(repeat'((conv=>whnf);first|refine Zg fun _=>?_|refine Zn ?_|refine Zj ?_|apply pI|apply pJ|refine Zy ?_|refine Zm ?_|fail));refine ⟨(k+1:Nat),by show i-(k+1)<i-k;omega,⟨o,z⟩,ZE⟩
    have e:k=i:=om;subst e;have y:=e4 E;clear e3 e4;(repeat refine ZR ?_);refine ⟨(k+1:Nat),by show length (α:=Siz) l-(k+1)<length (α:=Siz) l-k;omega,⟨s,y⟩,ZE⟩
   have n:¬(1<=(getD (α:=Siz) l i (0,0,0)).2.2/\(getD (α:=Siz) l i (0,0,0)).2.2<=1000):=B;rw[aE om] at e1;have e2:timE l=2:=(g (by rw[e1];decide)).trans e1;rw[e2];clear g c e1 e2 n m;exact ZRF
  have n:¬(1<=(getD (α:=Siz) l i (0,0,0)).2.1/\(getD (α:=Siz) l i (0,0,0)).2.1<=1000):=A;rw[aE om] at e1;have e2:timE l=2:=(g (by rw[e1];decide)).trans e1;rw[e2];clear g c e1 e2 n m;exact ZRF
 have e1:timE l=0:=jL fun j u=>x j om;have e:i=length (α:=Siz) l:=om;rw[e1];subst e;exact ZRF
def c5043:Con:=aV 43 true fun | [.agg [.val (.int .i64 a),.val (.int .i64 b),.val (.int .i64 c),.val (.int .i64 d)]],K=>K (I (if xZ (a,b,c,d) then 0 else 2)) | _,_=>False
theorem k5043:aM Tp c5043:=by
 refine kQ {} func43 ntmps43 kn fun _ _ h=>?_;split at h;case h_2=>cases h
 rename_i a b c d;refine kb h ?_;have e:xZ (a,b,c,d)↔((1<=a/\a<=2000)/\(1<=b/\b<=2000)/\(0<=c/\c<=b-1)/\0<=d/\d<=1000):=cJ;by_cases h:xZ (a,b,c,d)
 ·rw[aE h];obtain ⟨⟨f,g⟩,⟨m,n⟩,⟨o,s⟩,u,x⟩:=e.1 h;clear e h;exact ZRF
 rw[aD h];rw[e] at h;clear e;(repeat'((conv=>whnf);first|refine Zy ?_|refine Zr (fun _=>?_) fun _=>?_|fail));all_goals first
  | (exfalso;omega)
  | ((conv=>whnf);(repeat' first|rfl|apply aA))
def J4:Con:=aV 96 true fun | [.val (.int .i64 n),.val (.int .i64 f),.val (.int .i64 t)],K=>K (.bl (¬gL n f t) Cp) | _,_=>False
theorem QZ:aM Tp J4:=by
 refine kQ {} func96 ntmps96 kn fun _ _ h=>?_;split at h;case h_2=>cases h
 rename_i n f t;refine kb h ?_;have e:¬gL n f t↔¬(f<=n/\n<=t):=cJ;generalize (¬gL n f t)=M at*;by_cases h:n<f
 ·have c:M:=e.2 om;(repeat refine ZR ?_);(conv=>whnf);exact c
 have c:t<n↔M:=e.trans om |>.symm
 (repeat refine ZR ?_);(conv=>whnf);exact c
open Classical in
theorem b5095 (w d s l:Int):body Tp [J4] {} true f95 [I w,I d,I s,I l] (I (if Dt w d s l then 0 else 2)):=by
 have c:Dt w d s l↔((gL w 1 1000/\gL d 1 1000)/\gL s 1 65536/\gL l 0 1048576):=cJ;by_cases e:gL w 1 1000
 ·by_cases f:gL d 1 1000
  ·by_cases g:gL s 1 65536
   ·by_cases m:gL l 0 1048576
    ·rw[aE (c.2 ⟨⟨e,f⟩,g,m⟩)];clear c;exact ZRF
    rw[aD fun q=>m (c.1 q).2.2];clear c;exact ZRF
   rw[aD fun q=>g (c.1 q).2.1];clear c;exact ZRF
  rw[aD fun q=>f (c.1 q).1.2];clear c;exact ZRF
 rw[aD fun q=>e (c.1 q).1.1];clear c;exact ZRF
open Classical in
def OY (w d s l:Int):Int:=if Dt w d s l then 0 else 2
theorem Ze (w d s l:Int):OY w d s l=0↔Dt w d s l:=by
 unfold OY;split
 ·rename_i h;exact ⟨fun _=>h,fun _=>rfl⟩
 rename_i h;exact ⟨fun q=>absurd q de,fun q=>absurd q h⟩
theorem TD (w d s l:Int):body Tp [J4] {} true f95 [I w,I d,I s,I l] (I (OY w d s l)):=b5095 w d s l
def J5:Con:=aV 95 true fun args K=>match args with | [.val (.int .i64 w),.val (.int .i64 d),.val (.int .i64 s),.val (.int .i64 l)]=>K (I (OY w d s l)) | _=>False
theorem TE:aM Tp J5:=by
 refine Xp rfl (enters_of func95 kr rfl) ?_;intro c K h;simp only[J5] at h;split at h
 ·rename_i w d s l;exact ⟨_,h,gH func95 ntmps95 (by simp[QZ]) (TD w d s l)⟩
 cases h
def c5097:Con:=aV 97 true fun | [.agg [.val (.int .i64 a),.val (.int .i64 b),.val (.int .i64 c),.val (.int .i64 d),.val (.int .i64 e)],.agg [.val (.int .i64 a'),.val (.int .i64 b'),.val (.int .i64 c'),.val (.int .i64 d'),.val (.int .i64 e')]],K=>K (.bl (Jr (a,b,c,d,e) (a',b',c',d',e')) Cp) | _,_=>False
theorem k5097:aM Tp c5097:=by
 refine kQ {} func97 ntmps97 kn fun _ _ h=>?_;split at h;case h_2=>cases h
 rename_i a b c d e m n o s u;refine kb h ?_;have f:Jr (a,b,c,d,e) (m,n,o,s,u)↔(a<m\/(a=m/\(b<n\/(b=n/\(c<o\/(c=o/\d<s)))))):=cJ;generalize Jr (a,b,c,d,e) (m,n,o,s,u)=M at*;by_cases x:a=m
 ·by_cases y:b=n
  ·by_cases z:c=o
   ·have g:d<s↔M:=by rw[f];omega
    clear f;(repeat refine ZR ?_);(conv=>whnf);exact g
   have g:c<o↔M:=by rw[f];omega
   clear f;(repeat refine ZR ?_);(conv=>whnf);exact g
  have g:b<n↔M:=by rw[f];omega
  clear f;(repeat refine ZR ?_);(conv=>whnf);exact g
 have g:a<m↔M:=by rw[f];omega
 clear f;(repeat refine ZR ?_);(conv=>whnf);exact g
def c5045:Con:=aV 45 true fun | [.seq (.pair (.int .i64) (.pair (.int .i64) (.pair (.int .i64) (.pair (.int .i64) (.int .i64))))) l],K=>K (I (wU l)) | _,_=>False
theorem k5045:aM Tp c5045:=by
 refine kQ { asks:=[(0,[])] } func45 ntmps45 (kc TE (kc QZ (kc k5097 kn))) fun _ _ h=>?_;split at h;case h_2=>cases h
 rename_i l;change List Alw at l;refine kb h ?_;by_cases u:4096<length (α:=Alw) l
 ·have e:wU l=4:=aE u;rw[e];exact ZRF
 have A:wU l=rO (Dr l) (length (α:=Alw) l):=aD u;(repeat' first|refine ZR ?_|refine Zg fun _=>?_);refine Ask.mk ⟨{ X:=Nat,pre:=fun i=>i<=length (α:=Alw) l/\∀j,j<i->(Dr l j=0),mod:=fun i _=>[(3,I i)],heap:=fun i H=>H,mu:=fun i=>length (α:=Alw) l-i },rfl,?_⟩;(repeat refine ZG ?_);refine ⟨⟨(0:Nat),⟨aF _,fun j z=>absurd z (aT j)⟩,ZE⟩,fun (i:Nat) hi=>?_⟩;obtain ⟨hi,x⟩:i<=length (α:=Alw) l/\∀j,j<i->(Dr l j=0):=hi;by_cases m:i<length (α:=Alw) l
 ·have g:=fun h=>(A.trans (eZ (f:=Dr l) m x h));have c:=fun h=>oN (f:=Dr l) x h;have y:∀j,j<i->Um (getD (α:=Alw) l j (0,0,0,0,0)):=fun j z=>by
   have:=x j z;unfold Dr at this;apply aS;intro q;rw[aE q] at this;exact absurd this de
  have e1:Dr l i=if ¬Um (getD (α:=Alw) l i (0,0,0,0,0)) then 2 else if 0<i/\¬Jr (getD (α:=Alw) l (i-1) (0,0,0,0,0)) (getD (α:=Alw) l i (0,0,0,0,0)) then 10 else 0:=rfl;clear A x;have o:Um (getD (α:=Alw) l i (0,0,0,0,0))↔(Dt (getD (α:=Alw) l i (0,0,0,0,0)).1 (getD (α:=Alw) l i (0,0,0,0,0)).2.1 (getD (α:=Alw) l i (0,0,0,0,0)).2.2.1 (getD (α:=Alw) l i (0,0,0,0,0)).2.2.2.1/\gL (getD (α:=Alw) l i (0,0,0,0,0)).2.2.2.2 1 65536):=cJ;by_cases s:Dt (getD (α:=Alw) l i (0,0,0,0,0)).1 (getD (α:=Alw) l i (0,0,0,0,0)).2.1 (getD (α:=Alw) l i (0,0,0,0,0)).2.2.1 (getD (α:=Alw) l i (0,0,0,0,0)).2.2.2.1
  ·have K:=(Ze (getD (α:=Alw) l i (0,0,0,0,0)).1 (getD (α:=Alw) l i (0,0,0,0,0)).2.1 (getD (α:=Alw) l i (0,0,0,0,0)).2.2.1 (getD (α:=Alw) l i (0,0,0,0,0)).2.2.2.1).2 s;by_cases B:gL (getD (α:=Alw) l i (0,0,0,0,0)).2.2.2.2 1 65536
   ·rw[aD (fun q=>q (o.2 ⟨s,B⟩))] at e1;clear o;by_cases C:0<i
    ·have D:=(y (i-1) om).1;have J:Dt (getD (α:=Alw) l (i-1) (0,0,0,0,0)).1 (getD (α:=Alw) l (i-1) (0,0,0,0,0)).2.1 (getD (α:=Alw) l (i-1) (0,0,0,0,0)).2.2.1 (getD (α:=Alw) l (i-1) (0,0,0,0,0)).2.2.2.1:=D;have W:=aA J s;have E:=ED (getD (α:=Alw) l (i-1) (0,0,0,0,0)) (getD (α:=Alw) l i (0,0,0,0,0));clear D y;by_cases F:Jr (getD (α:=Alw) l (i-1) (0,0,0,0,0)) (getD (α:=Alw) l i (0,0,0,0,0))
     ·rw[aD (fun q=>q.2 F)] at e1;have n:=c e1;clear g c e1 E;(repeat'((conv=>whnf);first|refine Zg fun _=>?_|refine Zn ?_|refine Zj ?_|apply pI|apply pJ|refine Zy ?_|refine Zm ?_|fail));refine Kk (i-1) om ?_;(repeat'((conv=>whnf);first|refine Zg fun _=>?_|refine Zn ?_|refine Zj ?_|apply pI|apply pJ|refine Zm ?_|fail));refine ⟨(i+1:Nat),by show length (α:=Alw) l-(i+1)<length (α:=Alw) l-i;omega,⟨m,n⟩,ZE⟩
     rw[aE ⟨C,F⟩] at e1;have e2:wU l=10:=(g (by rw[e1];decide)).trans e1;rw[e2];clear g c e1 e2 E;(repeat'((conv=>whnf);first|refine Zg fun _=>?_|refine Zn ?_|refine Zj ?_|apply pI|apply pJ|refine Zy ?_|refine Zm ?_|fail));refine Kk (i-1) om ?_;(repeat'((conv=>whnf);first|refine Zg fun _=>?_|refine Zn ?_|refine Zj ?_|apply pI|apply pJ|refine Zy ?_|fail));exact ZF
    rw[aD (fun q=>C q.1)] at e1;have n:=c e1;clear g c e1 y;(repeat'((conv=>whnf);first|refine Zg fun _=>?_|refine Zn ?_|refine Zj ?_|apply pI|apply pJ|refine Zy ?_|refine Zm ?_|fail));refine ⟨(i+1:Nat),by show length (α:=Alw) l-(i+1)<length (α:=Alw) l-i;omega,⟨m,n⟩,ZE⟩
   rw[aE (fun q=>B (o.1 q).2)] at e1;have e2:wU l=2:=(g (by rw[e1];decide)).trans e1;rw[e2];clear g c e1 e2 o y;(repeat'((conv=>whnf);first|refine Zg fun _=>?_|refine Zn ?_|refine Zj ?_|apply pI|apply pJ|refine Zy ?_|refine Zm ?_|fail));exact ZF
  have K:=fun q=>s ((Ze (getD (α:=Alw) l i (0,0,0,0,0)).1 (getD (α:=Alw) l i (0,0,0,0,0)).2.1 (getD (α:=Alw) l i (0,0,0,0,0)).2.2.1 (getD (α:=Alw) l i (0,0,0,0,0)).2.2.2.1).1 q);rw[aE (fun q=>s (o.1 q).1)] at e1;have e2:wU l=2:=(g (by rw[e1];decide)).trans e1;rw[e2];clear g c e1 e2 o y;(repeat'((conv=>whnf);first|refine Zg fun _=>?_|refine Zn ?_|refine Zj ?_|apply pI|apply pJ|refine Zy ?_|fail));exact ZF
 have e1:wU l=0:=A.trans (jL fun j z=>x j om);have e:i=length (α:=Alw) l:=om;rw[e1];subst e;exact ZRF
theorem TF {s:Str}(h:s≠ []):bJ s 0=45↔s.headD 0=45:=by
 rcases s with _ | ⟨c,r⟩
 ·exact absurd rfl h
 have e:bJ (c::r) 0=c.toNat:=by simp[bJ]
 rw[e];show _↔c=45;exact ⟨fun q=>UInt8.toNat_inj.1 (by show c.toNat=45;omega),fun q=>by rw[q];rfl⟩
def c5202:Con:=aV 202 true fun | [.str s],K=>Need (s≠ []) (K (I (digs s).length)) | _,_=>False
theorem k5202:aM Tp c5202:=by
 refine kQ {} func202 ntmps202 kn fun _ _ h=>?_;split at h;case h_2=>cases h
 rename_i s;refine kb h.go ?_;replace h:=h.ok;have m:0<s.length:=cB.2 h;have f:=TF h;by_cases c:s.headD 0=45
 ·have g:=f.2 c;have e2:(s.length:Int)-1=(digs s).length:=by
   unfold digs;rw[aE c,List.length_tail];omega
  rw[<- e2];exact ZRF
 have g:=fun q=>c (f.1 q);have e:digs s=s:=by
  unfold digs;rw[aD c]
 rw[e];exact ZRF
theorem J6 {a:Str}(h:dD a=0):(qI a).1≠ []/\(qI a).2≠ []/\digs (qI a).2=(qI a).2:=by
 have c:qI a=(pn (cH a),pd (cH a)):=by rw[qI,aE h]
 rw[c];refine ⟨fun q=>?_,fun q=>?_,?_⟩
 ·have:=gA (cH a).num;rw[show itoa (cH a).num= [] from q] at this;exact Ao (cH a).num.natAbs this.symm
 ·exact Ao (cH a).den q
 have:=gA ((cH a).den:Int);rwa [SJ,bZ] at this
def c5148:Con:=aV 148 true fun | [.str a,.val (.int .i64 m)],K=>K (I (if dD a=0 then (if m<(digs (qI a).1).length\/m<(qI a).2.length then 4 else 0) else dD a)) | _,_=>False
theorem k5148:aM Tp c5148:=by
 refine kQ {} func148 ntmps148 (kc X1 (kc QJ kn)) fun _ _ h=>?_;split at h;case h_2=>cases h
 rename_i a m;refine kb h ?_;by_cases h:dD a=0
 ·obtain ⟨n,u,x⟩:=J6 h;have s:0<(qI a).1.length:=cB.2 n;have g:=TF n;rw[aE h];by_cases f:(qI a).1.headD 0=45
  ·have o:=g.2 f;have e:digs (qI a).1=(qI a).1.drop 1:=by
    unfold digs;rw[aE f,gI]
   rw[e];have e3:((qI a).1.drop 1).length=(qI a).1.length-1:=bT;by_cases c:m<((qI a).1.drop 1).length\/m<(qI a).2.length
   ·rw[aE c];(repeat'((conv=>whnf);first|refine Zg fun _=>?_|refine Zn ?_|refine Z0 ?_|refine Z1 ?_|refine Zy ?_|refine Zm ?_|refine Zr (fun _=>?_) fun _=>?_|fail));all_goals first
     | (exfalso;omega)
     | ((conv=>whnf);(repeat' first|rfl|apply aA))
   rw[aD c];exact ZRF
  have o:=fun q=>f (g.1 q);have e:digs (qI a).1=(qI a).1:=by
   unfold digs;rw[aD f]
  rw[e];by_cases c:m<(qI a).1.length\/m<(qI a).2.length
  ·rw[aE c];(repeat'((conv=>whnf);first|refine Zg fun _=>?_|refine Zn ?_|refine Z0 ?_|refine Zy ?_|refine Zm ?_|refine Zr (fun _=>?_) fun _=>?_|fail));all_goals first
    | (exfalso;omega)
    | ((conv=>whnf);(repeat' first|rfl|apply aA))
  rw[aD c];exact ZRF
 rw[aD h];exact ZRF
theorem TG {a:Str}(h:dD a=0):a≠ []:=fun q=>by
 subst q;have e:=(NJ de h).1;have c:itoa (cH []).num≠ []:=fun q=>by
  have:=gA (cH []).num;rw[q] at this;exact Ao (cH []).num.natAbs this.symm
 unfold cT at e;split at e
 ·exact c e.symm
 have:=aR List.length e;simp at this
def c5094:Con:=aV 94 true fun | [.str a],K=>K (I (sX a)) | _,_=>False
theorem k5094:aM Tp c5094:=by
 refine kQ {} func94 ntmps94 (kc k5148 kn) fun _ _ h=>?_;split at h;case h_2=>cases h
 rename_i a;refine kb h ?_;by_cases h:dD a=0
 ·have n:=TG h;have s:0<a.length:=cB.2 n;have m:=TF n;have c:(if dD a=0 then (if (20:Int)<(digs (qI a).1).length\/(20:Int)<(qI a).2.length then (4:Int) else 0) else dD a)=if 20<(digs (qI a).1).length\/20<(qI a).2.length then 4 else 0:=by
   rw[aE h];congr 1
   simp only[eq_iff_iff];omega
  by_cases f:20<(digs (qI a).1).length\/20<(qI a).2.length
  ·have e:sX a=4:=by unfold sX;rw[aE h,aE f]
   rw[aE f] at c;rw[e];have e1:¬(if dD a=0 then (if (20:Int)<(digs (qI a).1).length\/(20:Int)<(qI a).2.length then (4:Int) else 0) else dD a)=0:=by rw[c];decide
   exact ZRx c
  rw[aD f] at c;by_cases g:a.headD 0=45
  ·have o:=m.2 g;have e:sX a=2:=by unfold sX;rw[aE h,aD f,aE g]
   rw[e];exact ZRF
  have o:=fun q=>g (m.1 q);have e:sX a=0:=by unfold sX;rw[aE h,aD f,aD g]
  rw[e];exact ZRF
 have e:sX a=dD a:=by unfold sX;rw[aD h]
 have c:(if dD a=0 then (if (20:Int)<(digs (qI a).1).length\/(20:Int)<(qI a).2.length then (4:Int) else 0) else dD a)=dD a:=aD h;have e1:¬(if dD a=0 then (if (20:Int)<(digs (qI a).1).length\/(20:Int)<(qI a).2.length then (4:Int) else 0) else dD a)=0:=by rw[c];exact h
 rw[e];exact ZRx c
def c5044:Con:=aV 44 true fun | [.seq (.pair (.int .i64) (.pair (.int .i64) .str)) l],K=>K (I (qF l)) | _,_=>False
theorem k5044:aM Tp c5044:=by
 refine kQ { asks:=[(0,[])] } func44 ntmps44 (kc k5094 kn) fun _ _ h=>?_;split at h;case h_2=>cases h
 rename_i l;change List Lod at l;refine kb h ?_;by_cases m:64<length (α:=Lod) l
 ·have e:qF l=4:=aE m;rw[e];exact ZRF
 have s:qF l=rO (fun i=>Gr (getD (α:=Lod) l i (0,0,[]))) (length (α:=Lod) l):=aD m;(repeat' first|refine ZR ?_|refine Zg fun _=>?_);refine Ask.mk ⟨{ X:=Nat,pre:=fun i=>i<=length (α:=Lod) l/\∀j,j<i->(Gr (getD (α:=Lod) l j (0,0,[]))=0),mod:=fun i _=>[(3,I i)],heap:=fun i H=>H,mu:=fun i=>length (α:=Lod) l-i },rfl,?_⟩;(repeat refine ZG ?_);refine ⟨⟨(0:Nat),⟨aF _,fun j A=>absurd A (aT j)⟩,ZE⟩,fun (i:Nat) hi=>?_⟩;obtain ⟨hi,o⟩:i<=length (α:=Lod) l/\∀j,j<i->(Gr (getD (α:=Lod) l j (0,0,[]))=0):=hi;by_cases n:i<length (α:=Lod) l
 ·have g:=fun h=>eZ (f:=fun i=>Gr (getD (α:=Lod) l i (0,0,[]))) n o h;have c:=fun h=>oN (f:=fun j=>Gr (getD (α:=Lod) l j (0,0,[]))) o h;rw[<- s] at g;clear s o;have e1:Gr (getD (α:=Lod) l i (0,0,[]))=if (getD (α:=Lod) l i (0,0,[])).1<1\/3<(getD (α:=Lod) l i (0,0,[])).1 then 8 else if (getD (α:=Lod) l i (0,0,[])).2.1 < -1\/24<=(getD (α:=Lod) l i (0,0,[])).2.1 then 2 else sX (getD (α:=Lod) l i (0,0,[])).2.2:=rfl;by_cases x:(getD (α:=Lod) l i (0,0,[])).1<1\/3<(getD (α:=Lod) l i (0,0,[])).1
  ·rw[aE x] at e1;have e2:qF l=8:=(g (by rw[e1];decide)).trans e1;rw[e2];clear g c e1 e2;(repeat'((conv=>whnf);first|refine Zg fun _=>?_|refine Zn ?_|refine Zj ?_|refine Zy ?_|refine Zr (fun _=>?_) fun _=>?_|fail));all_goals first
    | (exfalso;omega)
    | ((conv=>whnf);(repeat' first|rfl|apply aA))
  rw[aD x] at e1;by_cases y:(getD (α:=Lod) l i (0,0,[])).2.1 < -1\/24<=(getD (α:=Lod) l i (0,0,[])).2.1
  ·rw[aE y] at e1;have e2:qF l=2:=(g (by rw[e1];decide)).trans e1;rw[e2];clear g c e1 e2;(repeat'((conv=>whnf);first|refine Zg fun _=>?_|refine Zn ?_|refine Zj ?_|refine Zy ?_|refine Zm ?_|refine Zr (fun _=>?_) fun _=>?_|fail));all_goals first
    | (exfalso;omega)
    | ((conv=>whnf);(repeat' first|rfl|apply aA))
  rw[aD y] at e1;by_cases z:sX (getD (α:=Lod) l i (0,0,[])).2.2=0
  ·have u:=c (e1.trans z);clear g c e1;(repeat' first|refine ZR ?_|refine Zg fun _=>?_);refine ⟨(i+1:Nat),by show length (α:=Lod) l-(i+1)<length (α:=Lod) l-i;omega,⟨n,u⟩,ZE⟩
  have e2:qF l=sX (getD (α:=Lod) l i (0,0,[])).2.2:=(g (by rw[e1];exact z)).trans e1;rw[e2];clear g c e1 e2;exact ZRF
 have e1:qF l=0:=s.trans (jL fun j A=>o j om);have e:i=length (α:=Lod) l:=om;rw[e1];subst e;exact ZRF
def c5188:Con:=aV 188 true fun | [.str a,.str b],K=>K (I (De a b)) | _,_=>False
theorem Q0:aM Tp c5188:=by
 refine kQ {} func188 ntmps188 (kc k43 kn) fun _ _ h=>?_;split at h;case h_2=>cases h
 refine kb h ?_;exact ZF
def c5187:Con:=aV 187 true fun | [.seq .str l],K=>K (I (xW l)) | _,_=>False
theorem k5187:aM Tp c5187:=by
 refine kQ { asks:=[(0,[]),(2,[])] } func187 ntmps187 (kc X1 (kc QJ (kc k5202 kn))) fun _ _ h=>?_;split at h;case h_2=>cases h
 rename_i l;change List Str at l;refine kb h ?_;refine Ask.mk ⟨{ X:=Nat,pre:=fun i=>i<=length (α:=Str) l/\∀j,j<i->dD (getD (α:=Str) l j [])=0,mod:=fun i _=>[(3,I i)],heap:=fun i H=>H,mu:=fun i=>length (α:=Str) l-i },rfl,?_⟩;(repeat refine ZG ?_);refine ⟨⟨(0:Nat),⟨aF _,fun j s=>absurd s (aT j)⟩,ZE⟩,fun (i:Nat) hi=>?_⟩;obtain ⟨hi,g⟩:i<=length (α:=Str) l/\∀j,j<i->dD (getD (α:=Str) l j [])=0:=hi;by_cases c:i<length (α:=Str) l
 ·by_cases m:dD (getD (α:=Str) l i [])=0
  ·have o:∀j,j<i+1->dD (getD (α:=Str) l j [])=0:=fun j s=>by
    by_cases e:j=i
    ·subst e;exact m
    exact g j om
   (repeat' first|refine ZR ?_|refine Zg fun _=>?_);refine ⟨(i+1:Nat),by show length (α:=Str) l-(i+1)<length (α:=Str) l-i;omega,⟨c,o⟩,ZE⟩
  have e1:=eZ (f:=fun i=>dD (getD (α:=Str) l i [])) c g m;have e2:xW l=dD (getD (α:=Str) l i []):=by
   unfold xW;rw[aD (by rw[e1];exact m),e1]
  rw[e2];exact ZRF
 have e:i=length (α:=Str) l:=om;have e1:=jL (f:=fun i=>dD (getD (α:=Str) l i [])) (n:=length (α:=Str) l) fun j s=>g j om;have e2:xW l=rO (fun i=>Ni (getD (α:=Str) l i [])) (length (α:=Str) l):=by
  unfold xW;rw[aE e1]
 have x:=g;subst e;clear e1 g;(repeat' first|refine ZR ?_|refine Zg fun _=>?_);refine Ask.mk ⟨{ X:=Nat,pre:=fun i=>i<=length (α:=Str) l/\∀j,j<i->Ni (getD (α:=Str) l j [])=0,mod:=fun i _=>[(5,I i)],heap:=fun i H=>H,mu:=fun i=>length (α:=Str) l-i },rfl,?_⟩;(repeat refine ZG ?_);refine ⟨⟨(0:Nat),⟨aF _,fun j s=>absurd s (aT j)⟩,ZE⟩,fun (i:Nat) hi=>?_⟩;obtain ⟨hi,g⟩:i<=length (α:=Str) l/\∀j,j<i->Ni (getD (α:=Str) l j [])=0:=hi;by_cases c:i<length (α:=Str) l
 ·have u:=x i c;obtain ⟨z,A,y⟩:=J6 u;have e3:Ni (getD (α:=Str) l i [])=if 12<(digs (qI (getD (α:=Str) l i [])).1).length\/12<(qI (getD (α:=Str) l i [])).2.length then 4 else 0:=aE u;by_cases m:12<(digs (qI (getD (α:=Str) l i [])).1).length\/12<(qI (getD (α:=Str) l i [])).2.length
  ·rw[aE m] at e3;have e1:=eZ (f:=fun i=>Ni (getD (α:=Str) l i [])) c g (by show Ni _≠0;rw[e3];decide);have e4:xW l=4:=(e2.trans e1).trans e3;rw[e4];rw[<- y] at m;clear e1 e2 e3 e4 g x;(repeat'((conv=>whnf);first|refine Zg fun _=>?_|refine Zn ?_|refine Zj ?_|refine Zy ?_|refine Zr (fun _=>?_) fun _=>?_|fail));all_goals first
    | (exfalso;omega)
    | ((conv=>whnf);(repeat' first|rfl|apply aA))
  rw[aD m] at e3;have o:=oN (f:=fun j=>Ni (getD (α:=Str) l j [])) g e3;rw[<- y] at m;clear e2 e3;(repeat' first|refine ZR ?_|refine Zg fun _=>?_);refine ⟨(i+1:Nat),by show length (α:=Str) l-(i+1)<length (α:=Str) l-i;omega,⟨c,o⟩,ZE⟩
 have e:i=length (α:=Str) l:=om;have e1:=jL (f:=fun i=>Ni (getD (α:=Str) l i [])) (n:=length (α:=Str) l) fun j s=>g j om;rw[e1] at e2;rw[e2];subst e;exact ZRF
def c5145:Con:=aV 145 true fun | [.agg [.val (.int .i64 s),.str a,.str b,.str c,.str d]],K=>K (I (xY (s,a,b,c,d))) | _,_=>False
theorem k5145:aM Tp c5145:=by
 refine kQ {} func145 ntmps145 (kc k5187 (kc Q0 kn)) fun _ _ h=>?_;split at h;case h_2=>cases h
 rename_i s a b c d;refine kb h ?_;have e:xY (s,a,b,c,d)=if xW [a,b,c,d]=0 then (if 0<=De a b\/0<=De c d then 10 else 0) else xW [a,b,c,d]:=rfl;by_cases h:xW [a,b,c,d]=0
 ·rw[aE h] at e;by_cases f:0<=De a b\/0<=De c d
  ·rw[aE f] at e;rw[e];(repeat'((conv=>whnf);first|refine Zl ?_|refine Zy ?_|refine Zm ?_|refine Zr (fun _=>?_) fun _=>?_|fail));all_goals first
    | (exfalso;omega)
    | ((conv=>whnf);(repeat' first|rfl|apply aA))
  rw[aD f] at e;rw[e];exact ZRF
 rw[aD h] at e;rw[e];exact ZRF
def c5146:Con:=aV 146 true fun | [.agg [.val (.int .i64 s),.str a,.str b,.str c,.str d],.agg [.val (.int .i64 s'),.str a',.str b',.str c',.str d']],K=>K (.bl (uQ (s,a,b,c,d) (s',a',b',c',d')) Cp) | _,_=>False
theorem k5146:aM Tp c5146:=by
 refine kQ {} func146 ntmps146 (kc Q0 kn) fun _ _ h=>?_;split at h;case h_2=>cases h
 rename_i s a b c d o f g m n;refine kb h ?_;have e:uQ (s,a,b,c,d) (o,f,g,m,n)↔(s=o/\De a g<0/\De f b<0/\De c n<0/\De m d<0):=cJ;generalize uQ (s,a,b,c,d) (o,f,g,m,n)=M at*;by_cases h:s=o/\De a g<0/\De f b<0/\De c n<0
 ·obtain ⟨x,y,z,A⟩:=h;have u:De m d<0↔M:=⟨fun q=>e.2 ⟨x,y,z,A,q⟩,fun q=>(e.1 q).2.2.2.2⟩;(repeat refine ZR ?_);(conv=>whnf);exact u
 have u:¬M:=fun q=>h ⟨(e.1 q).1,(e.1 q).2.1,(e.1 q).2.2.1,(e.1 q).2.2.2.1⟩;(repeat'((conv=>whnf);first|refine Zm ?_|refine Zr (fun _=>?_) fun _=>?_|fail));all_goals first
  | (exfalso;omega)
  | ((conv=>whnf);exact u)
def c5090:Con:=aV 90 true fun | [.seq (.pair (.int .i64) (.pair .str (.pair .str (.pair .str .str)))) l],K=>K (.tup [.bl (disE l=0/\nO l) Cp,I (disE l)]) | _,_=>False
theorem k5090:aM Tp c5090:=by
 refine kQ { asks:=[(0,[]),(2,[]),(4,[])] } func90 ntmps90 (kc k5145 (kc k5146 kn)) fun _ _ h=>?_;split at h;case h_2=>cases h
 rename_i l;change List Opn at l;refine kb h ?_;by_cases x:32<length (α:=Opn) l
 ·have e:disE l=4:=aE x;have s:¬(disE l=0/\nO l):=fun q=>by rw[e] at q;exact absurd q.1 de
  generalize (disE l=0/\nO l)=M at*;rw[e];exact ZRx s
 have z:disE l=rO (fun i=>xY (getD (α:=Opn) l i kG)) (length (α:=Opn) l):=aD x;(repeat' first|refine ZR ?_|refine Zg fun _=>?_);refine Ask.mk ⟨{ X:=Nat,pre:=fun i=>i<=length (α:=Opn) l/\∀j,j<i->(xY (getD (α:=Opn) l j kG)=0),mod:=fun i _=>[(4,I i)],heap:=fun i H=>H,mu:=fun i=>length (α:=Opn) l-i },rfl,?_⟩;(repeat refine ZG ?_);refine ⟨⟨(0:Nat),⟨aF _,fun j u=>absurd u (aT j)⟩,ZE⟩,fun (i:Nat) hi=>?_⟩;obtain ⟨hi,m⟩:i<=length (α:=Opn) l/\∀j,j<i->(xY (getD (α:=Opn) l j kG)=0):=hi;by_cases c:i<length (α:=Opn) l
 ·by_cases A:xY (getD (α:=Opn) l i kG)=0
  ·have o:=oN (f:=fun j=>xY (getD (α:=Opn) l j kG)) m A;(repeat' first|refine ZR ?_|refine Zg fun _=>?_);refine ⟨(i+1:Nat),by show length (α:=Opn) l-(i+1)<length (α:=Opn) l-i;omega,⟨c,o⟩,ZE⟩
  have e1:=eZ (f:=fun i=>xY (getD (α:=Opn) l i kG)) c m A;rw[<- z] at e1;have s:¬(disE l=0/\nO l):=fun q=>by rw[e1] at q;exact A q.1
  generalize (disE l=0/\nO l)=M at*;rw[e1];exact ZRx s
 have e:i=length (α:=Opn) l:=om;have e1:=jL (f:=fun i=>xY (getD (α:=Opn) l i kG)) (n:=length (α:=Opn) l) fun j u=>m j om;rw[<- z] at e1;have C:nO l↔∀i,i<length (α:=Opn) l->∀k,k<i->¬uQ (getD (α:=Opn) l i kG) (getD (α:=Opn) l k kG):=cJ;have s:=C.symm.trans (show nO l↔(disE l=0/\nO l) from ⟨fun q=>⟨e1,q⟩,fun q=>q.2⟩);generalize (disE l=0/\nO l)=M at*;rw[e1];subst e;clear m z e1 C hi;(repeat' first|refine ZR ?_|refine Zg fun _=>?_);refine Ask.mk ⟨{ X:=Nat,pre:=fun i=>i<=length (α:=Opn) l/\∀j,j<i->(∀k,k<j->¬uQ (getD (α:=Opn) l j kG) (getD (α:=Opn) l k kG)),mod:=fun i _=>[(6,I i)],heap:=fun i H=>H,mu:=fun i=>length (α:=Opn) l-i },rfl,?_⟩;(repeat refine ZG ?_);refine ⟨⟨(0:Nat),⟨aF _,fun j u=>absurd u (aT j)⟩,ZE⟩,fun (i:Nat) hi=>?_⟩;obtain ⟨hi,m⟩:i<=length (α:=Opn) l/\∀j,j<i->(∀k,k<j->¬uQ (getD (α:=Opn) l j kG) (getD (α:=Opn) l k kG)):=hi;by_cases c:i<length (α:=Opn) l
 ·(repeat' first|refine ZR ?_|refine Zg fun _=>?_);refine Ask.mk ⟨{ X:=Nat,pre:=fun k=>k<=i/\∀j,j<k->¬uQ (getD (α:=Opn) l i kG) (getD (α:=Opn) l j kG),mod:=fun k _=>[(7,I k)],heap:=fun k H=>H,mu:=fun k=>i-k },rfl,?_⟩;(repeat refine ZG ?_);refine ⟨⟨(0:Nat),⟨aF _,fun j u=>absurd u (aT j)⟩,ZE⟩,fun (k:Nat) D=>?_⟩;obtain ⟨D,F⟩:k<=i/\∀j,j<k->¬uQ (getD (α:=Opn) l i kG) (getD (α:=Opn) l j kG):=D;by_cases y:k<i
  ·by_cases E:uQ (getD (α:=Opn) l i kG) (getD (α:=Opn) l k kG)
   ·have g:¬M:=fun q=>s.2 q i c k y E;(repeat'((conv=>whnf);first|refine Zg fun _=>?_|refine Zn ?_|refine Zj ?_|apply pI|apply pJ|refine Zy ?_|fail));exact ZFx g
   have B:=eD (f:=fun j=>¬uQ (getD (α:=Opn) l i kG) (getD (α:=Opn) l j kG)) F E;(repeat'((conv=>whnf);first|refine Zg fun _=>?_|refine Zn ?_|refine Zj ?_|apply pI|apply pJ|refine Zy ?_|refine Zm ?_|fail));refine ⟨(k+1:Nat),by show i-(k+1)<i-k;omega,⟨y,B⟩,ZE⟩
  have e:k=i:=om;subst e;have o:=eD (f:=fun i=>∀k,k<i->¬uQ (getD (α:=Opn) l i kG) (getD (α:=Opn) l k kG)) m F;(repeat refine ZR ?_);refine ⟨(k+1:Nat),by show length (α:=Opn) l-(k+1)<length (α:=Opn) l-k;omega,⟨c,o⟩,ZE⟩
 have e:i=length (α:=Opn) l:=om;subst e;have g:M:=s.1 m;exact ZRx g
abbrev ag (s:Sid):List SV:=[I s.1,I s.2.1,I s.2.2.1,I s.2.2.2.1,.bl (s.2.2.2.2.1=true) inferInstance,I s.2.2.2.2.2.1,I s.2.2.2.2.2.2]
theorem Ko {a b:Int}(c: -65536<=a/\a<=65536)(e: -65536<=b/\b<=65536): -4294967296<=a*b/\a*b<=4294967296:=by
 have h:(a*b).natAbs<=65536*65536:=by rw[cR];exact eK om om
 omega
def c4066:Con:=aV 151 true fun | [.val (.int .i64 n),.val (.int .i64 f),.val (.int .i64 t)],K=>K (.bl (f<=n/\n<=t) inferInstance) | _,_=>False
theorem k4066:aM Tp c4066:=by
 refine kQ {} func151 ntmps151 kn fun _ _ h=>?_;split at h;case h_2=>cases h
 rename_i n f t;refine kb h ?_;by_cases c:f<=n
 ·(repeat refine ZR ?_);(conv=>whnf);exact ⟨fun h=>⟨c,h⟩,fun h=>h.2⟩
 (repeat refine ZR ?_);(conv=>whnf);exact fun h=>c h.1
def c4069:Con:=aV 154 true fun | [.agg [.val (.int .i64 x),.val (.int .i64 y),.val (.int .i64 a),.val (.int .i64 b),.bl p d,.val (.int .i64 u),.val (.int .i64 v)]],K=>K (.agg [I x,I y]) | _,_=>False
theorem Nx:aM Tp c4069:=by
 refine kQ {} func154 ntmps154 kn fun _ _ h=>?_;split at h;case h_2=>cases h
 refine kb h ?_;exact ZF
def c4070:Con:=aV 155 true fun | [.agg [.val (.int .i64 x),.val (.int .i64 y)],.agg [.val (.int .i64 z),.val (.int .i64 w)]],K=>Need (((0<=x/\x<=65536)/\0<=y/\y<=65536)/\(0<=z/\z<=65536)/\0<=w/\w<=65536) (K (.agg [I (z-x),I (w-y)])) | _,_=>False
theorem ME:aM Tp c4070:=by
 refine kQ {} func155 ntmps155 kn fun _ _ h=>?_;split at h;case h_2=>cases h
 refine kb h.go ?_;replace h:=h.ok;exact ZGF
def c4139:Con:=aV 192 true fun | [.agg [.val (.int .i64 x),.val (.int .i64 y)],.agg [.val (.int .i64 z),.val (.int .i64 w)]],K=>Need (((-65536<=x/\x<=65536)/\ -65536<=y/\y<=65536)/\(-65536<=z/\z<=65536)/\ -65536<=w/\w<=65536) (K (I (x*w-y*z))) | _,_=>False
theorem SM:aM Tp c4139:=by
 refine kQ {} func192 ntmps192 kn fun _ _ h=>?_;split at h;case h_2=>cases h
 refine kb h.go ?_;replace h:=h.ok;have c:=Ko h.1.1 h.2.2;have e:=Ko h.1.2 h.2.1;exact ZGF
def c4071:Con:=aV 156 true fun | [.agg [.val (.int .i64 x0),.val (.int .i64 y0),.val (.int .i64 a0),.val (.int .i64 b0),.bl p0 d0,.val (.int .i64 u0),.val (.int .i64 v0),.val (.int .i64 x1),.val (.int .i64 y1),.val (.int .i64 a1),.val (.int .i64 b1),.bl p1 d1,.val (.int .i64 u1),.val (.int .i64 v1),.val (.int .i64 x2),.val (.int .i64 y2),.val (.int .i64 a2),.val (.int .i64 b2),.bl p2 d2,.val (.int .i64 u2),.val (.int .i64 v2)]],K=>Need (((0<=x1/\x1<=65536)/\0<=y1/\y1<=65536)/\(0<=x2/\x2<=65536)/\0<=y2/\y2<=65536) (K (.agg [I (x2-x1),I (y2-y1)])) | _,_=>False
theorem MF:aM Tp c4071:=by
 refine kQ {} func156 ntmps156 (kc Nx (kc ME kn)) fun _ _ h=>?_;split at h;case h_2=>cases h
 refine kb h.go ?_;replace h:=h.ok;(repeat'((conv=>whnf);first|refine Zn ?_|apply pI|apply pJ|fail));exact ZF
def c4076:Con:=aV 161 true fun | [.agg [.val (.int .i64 x0),.val (.int .i64 y0),.val (.int .i64 a0),.val (.int .i64 b0),.bl p0 d0,.val (.int .i64 u0),.val (.int .i64 v0),.val (.int .i64 x1),.val (.int .i64 y1),.val (.int .i64 a1),.val (.int .i64 b1),.bl p1 d1,.val (.int .i64 u1),.val (.int .i64 v1),.val (.int .i64 x2),.val (.int .i64 y2),.val (.int .i64 a2),.val (.int .i64 b2),.bl p2 d2,.val (.int .i64 u2),.val (.int .i64 v2)]],K=>Need (((0<=x0/\x0<=65536)/\0<=y0/\y0<=65536)/\((0<=x1/\x1<=65536)/\0<=y1/\y1<=65536)/\(0<=x2/\x2<=65536)/\0<=y2/\y2<=65536) (K (.bl (0<(x1-x0)*(y2-y1)-(y1-y0)*(x2-x1)) inferInstance)) | _,_=>False
theorem k4076:aM Tp c4076:=by
 refine kQ {} func161 ntmps161 (kc Nx (kc ME (kc MF (kc SM kn)))) fun _ _ h=>?_;split at h;case h_2=>cases h
 refine kb h.go ?_;replace h:=h.ok;(repeat'((conv=>whnf);first|refine Zn ?_|apply pI|apply pJ|fail));(conv=>whnf)
theorem HF (k:IntKind)(n:Int):ent (.val (.int k n)) (.val (.int k n)):=⟨rfl,rfl⟩
theorem entB (p:Prop)(d c:Decidable p):ent (.bl p d) (.bl p c):=cJ
theorem entA {l c:List SV}(h:ent.entL l c):ent (.agg l) (.agg c):=h
theorem zK {x y:SV}{l c:List SV}(h:ent x y)(g:ent.entL l c):ent.entL (x::l) (y::c):=⟨h,g⟩
theorem VW:ent.entL [] []:=trivial
theorem MG (s:Sid){l c:List SV}(h:ent.entL l c):ent.entL (ag s++l) (ag s++c):=
 zK (HF _ _) (zK (HF _ _) (zK (HF _ _) (zK (HF _ _) (zK (entB _ _ _) (zK (HF _ _) (zK (HF _ _) h))))))
theorem entS3 (s t u:Sid):ent.entL (ag s++(ag t++(ag u++ []))) (ag s++(ag t++(ag u++ []))):=MG s (MG t (MG u VW))
abbrev CS (r:List Sid)(k:Nat):List SV:=[I k,.agg (ag (Dd r k)++(ag (kE r k)++(ag (jD r k)++ [])))]
def c4068:Con:=aV 153 false fun | [.seq (.pair (.int .i64) (.pair (.int .i64) (.pair (.int .i64) (.pair (.int .i64) (.pair .bool (.pair (.int .i64) (.int .i64))))))) r],K=>K (.clo 191 [] [.lelem [.seq Hd r] 0]) | _,_=>False
theorem AI:aM Tp c4068:=by
 refine kQ {} func153 ntmps153 kn fun _ _ h=>?_;split at h;case h_2=>cases h
 refine kb h ?_;exact ZF
@[irreducible] def VG (i:Nat):Int:=i
theorem CT (i:Nat):VG i=(i:Int):=by unfold VG;rfl
theorem entE (k:IntKind){a b:Int}(h:a=b):ent (.val (.int k a)) (.val (.int k b)):=⟨rfl,h⟩
theorem b4138 (r:List Sid)(h:length (α:=Sid) r<=1000000):Qh Tp [] { asks:=[(0,[])] } f191 [.lelem [.seq Hd r] 0] r.length (CS r):=by
 (repeat'((conv=>whnf);first|refine Zg fun _=>?_|fail));refine Ask.mk ⟨{ X:=Nat,pre:=fun i=>i<=r.length,mod:=fun i _=>[(9,I (VG i))],heap:=fun i _=>[.yst (some i) r.length (CS r)],mu:=fun i=>r.length-i },rfl,?_⟩;(repeat refine ZG ?_);refine ⟨⟨(0:Nat),aF _,by ((repeat' first|exact trivial|rfl|apply aA);all_goals exact (CT 0).symm)⟩,fun (i:Nat) (hi:i<=r.length)=>?_⟩;have f:=CT i;by_cases c:i<r.length
 ·have e1:(VG i+r.length-1)% (r.length:Int)=(Wb r.length i:Nat):=by
   rw[<- E9 c,show VG i+r.length-1=((i+r.length-1:Nat):Int) by omega];rfl
  have e2:(VG i+1)% (r.length:Int)=(L6 r.length i:Nat):=by
   rw[<- Vi c,f];rfl
  have o:=He c;have s:=Hg c;obtain ⟨j,g⟩:∃j,j=Wb r.length i:=⟨_,rfl⟩;obtain ⟨m,n⟩:∃m,m=L6 r.length i:=⟨_,rfl⟩;rw[<- g] at e1 o;rw[<- n] at e2 s;(repeat'((conv=>whnf);first|refine Za ?_|refine Zn ?_|apply pI|apply pJ|refine Zy ?_|fail));refine Kk j e1 ?_;(repeat'((conv=>whnf);first|refine Zg fun _=>?_|refine Zn ?_|apply pI|apply pJ|fail));refine Kk i f ?_;(repeat'((conv=>whnf);first|refine Zg fun _=>?_|refine Za ?_|refine Zn ?_|apply pI|apply pJ|fail));refine Kk m e2 ?_;(repeat'((conv=>whnf);first|refine Zg fun _=>?_|refine Zn ?_|apply pI|apply pJ|fail));subst g n;refine Need.mk (zK (entE _ f) (zK (entA (entS3 (Dd r i) (kE r i) (jD r i))) VW)) ?_;refine Two.mk ?_ ?_
  ·(repeat refine ZR ?_);refine ⟨(i+1:Nat),by show r.length-(i+1)<r.length-i;omega,c,?_⟩;(repeat' first|exact trivial|rfl|apply aA);all_goals (have:=CT (i+1);omega)
  skip;(conv=>whnf)
  trivial
 have e:i=r.length:=om;subst e;(repeat refine ZR ?_);(conv=>whnf)
def SN:Con:=aV 191 false fun args K=>match args with | [.lelem [.seq (.pair (.int .i64) (.pair (.int .i64) (.pair (.int .i64) (.pair (.int .i64) (.pair .bool (.pair (.int .i64) (.int .i64))))))) r] 0]=>Need (length (α:=Sid) r<=1000000) (K (.itr (length (α:=Sid) r) (CS r))) | _=>False
theorem AJ:aM Tp SN:=by
 refine kO func191 fun c K h=>?_;simp only[SN] at h;split at h
 ·rename_i r;exact ⟨_,h.go,tN si func191 (by simp[ntmps191]) (b4138 r h.ok)⟩
 cases h
def c4027:Con:=aV 101 true fun | [.agg [.val (.int .i64 x),.val (.int .i64 y),.val (.int .i64 a),.val (.int .i64 b),.bl p d,.val (.int .i64 u),.val (.int .i64 v)]],K=>K (.bl (Dy x y a b p u v) Cp) | _,_=>False
theorem k4027:aM Tp c4027:=by
 refine kQ {} func101 ntmps101 (kc k4066 kn) fun _ _ h=>?_;split at h;case h_2=>cases h
 rename_i x y a b p d u v;refine kb h ?_;have X:([x,y,u,v]:List Int).length=4:=rfl;have E:([x,y,u,v]:List Int).getD 0 0=x:=rfl;have F:([x,y,u,v]:List Int).getD 1 0=y:=rfl;have J:([x,y,u,v]:List Int).getD 2 0=u:=rfl;have K:([x,y,u,v]:List Int).getD 3 0=v:=rfl;by_cases e:(p->a=0/\b=0)/\(¬p->(1<=a/\a<=48)/\1<=b/\b<=48)
 ·have W:∀q,(Dy x y a b p u v↔q)->¬q->¬Dy x y a b p u v:=fun q h m C=>m (h.1 C);have g:Dy x y a b p u v↔((0<=x/\x<=65536)/\(0<=y/\y<=65536)/\(0<=u/\u<=65536)/\0<=v/\v<=65536):=⟨fun h=>h.2,fun h=>⟨e,h⟩⟩;generalize Dy x y a b p u v=M at*;have o:(p/\a=0/\b=0)\/(¬p/\(1<=a/\a<=48)/\1<=b/\b<=48):=by
   by_cases f:p
   ·exact .inl ⟨f,e.1 f⟩
   exact .inr ⟨f,e.2 f⟩
  clear e;rcases o with ⟨f,n⟩ | ⟨f,n⟩;all_goals
   by_cases A:0<=x/\x<=65536
   ·by_cases B:0<=y/\y<=65536
    ·by_cases s:0<=u/\u<=65536
     ·by_cases z:0<=v/\v<=65536
      ·have c:M:=g.2 ⟨A,B,s,z⟩;(repeat' first|refine ZR ?_|refine Zg fun _=>?_);(conv=>whnf);exact c
      have c:¬M:=fun h=>z (g.1 h).2.2.2;(repeat' first|refine ZR ?_|refine Zg fun _=>?_);(conv=>whnf);exact c
     have c:¬M:=fun h=>s (g.1 h).2.2.1;(repeat' first|refine ZR ?_|refine Zg fun _=>?_);(conv=>whnf);exact c
    have c:¬M:=fun h=>B (g.1 h).2.1;(repeat' first|refine ZR ?_|refine Zg fun _=>?_);(conv=>whnf);exact c
   have c:¬M:=fun h=>A (g.1 h).1;(repeat' first|refine ZR ?_|refine Zg fun _=>?_);(conv=>whnf);exact c
 have c:¬Dy x y a b p u v:=fun h=>e h.1;generalize Dy x y a b p u v=M at*;by_cases f:p
 ·have n:¬(a=0/\b=0):=fun h=>e ⟨fun _=>h,fun h=>absurd f h⟩;clear e;by_cases D:a=0
  ·(repeat refine ZR ?_);(conv=>whnf);exact c
  (repeat refine ZR ?_);(conv=>whnf);exact c
 have n:¬((1<=a/\a<=48)/\1<=b/\b<=48):=fun h=>e ⟨fun m=>absurd m f,fun _=>h⟩;clear e;by_cases D:1<=a/\a<=48
 ·(repeat refine ZR ?_);(conv=>whnf);exact c
 (repeat refine ZR ?_);(conv=>whnf);exact c
def c4026:Con:=aV 100 true fun | [.agg [.val (.int .i64 x),.val (.int .i64 y),.val (.int .i64 a),.val (.int .i64 b),.bl p d,.val (.int .i64 u),.val (.int .i64 v)]],K=>K (.bl (¬Dy x y a b p u v) Cp) | _,_=>False
theorem k4026:aM Tp c4026:=by
 refine kQ {} func100 ntmps100 (kc k4027 kn) fun _ _ h=>?_;split at h;case h_2=>cases h
 rename_i x y a b p d u v;refine kb h ?_;generalize hM:Dy x y a b p u v=M;(conv=>whnf);rw[hM]
def Ei (r:List Sid):Prop:=∀i,i<r.length->((0<=(r.getD i qX).1/\(r.getD i qX).1<=65536)/\0<=(r.getD i qX).2.1/\(r.getD i qX).2.1<=65536)
theorem MH {r:List Sid}(h:∀s∈r,Dz s):Ei r:=fun i hi=>by
 have:=h (r.getD i qX) (by simp[aB,hi]);exact ⟨this.2.1,this.2.2.1⟩
theorem HG {r:List Sid}(h:Ei r){i:Nat}(hi:i<r.length):((0<=(Dd r i).1/\(Dd r i).1<=65536)/\0<=(Dd r i).2.1/\(Dd r i).2.1<=65536)/\((0<=(kE r i).1/\(kE r i).1<=65536)/\0<=(kE r i).2.1/\(kE r i).2.1<=65536)/\(0<=(jD r i).1/\(jD r i).1<=65536)/\0<=(jD r i).2.1/\(jD r i).2.1<=65536:=⟨h _ (He hi),h _ hi,h _ (Hg hi)⟩
def c4030:Con:=aV 104 true fun | [.seq (.pair (.int .i64) (.pair (.int .i64) (.pair (.int .i64) (.pair (.int .i64) (.pair .bool (.pair (.int .i64) (.int .i64))))))) r],K=>Need (length (α:=Sid) r<=1000000/\Ei r) (K (.bl (Ea r) Cp)) | _,_=>False
theorem k4030:aM Tp c4030:=by
 refine kQ { asks:=[(0,[])] } func104 ntmps104 (kc AI (kc AJ (kc Nx (kc ME (kc MF kn))))) fun _ _ h=>?_;split at h;case h_2=>cases h
 rename_i r;change List Sid at r;refine kb h.go ?_;replace h:=h.ok;obtain ⟨C,s⟩:=h;by_cases z:r.length<4
 ·have m:¬Ea r:=fun h=>absurd h.1 om;generalize Ea r=M at*;(repeat' first|refine ZR ?_|refine Zg fun _=>?_);(conv=>whnf);exact m
 have m:(∀i,i<r.length->CP r i)↔Ea r:=⟨fun h=>⟨om,h⟩,fun h=>h.2⟩;generalize Ea r=M at*;(repeat' first|refine ZR ?_|refine Zg fun _=>?_);refine Ask.mk ⟨{ X:=Nat,pre:=fun i=>i<=r.length/\∀j,j<i->CP r j,mod:=fun _ _=>[],heap:=fun _ _=>[.cells [.val (.bool false)] 4],mu:=fun i=>i },rfl,?_⟩;(repeat refine ZG ?_);refine ⟨⟨(0:Nat),rfl,⟨aF _,fun j u=>absurd u om⟩,ZE⟩,fun (i:Nat) hi (g:i<r.length)=>?_,fun (i:Nat) hi (x:i=r.length)=>?_⟩
 ·obtain ⟨o,c⟩:=hi;have B:=HG s g;by_cases n:CP r i
  ·obtain ⟨D,E⟩:=id n;show nD [I i,.agg (ag (Dd r i)++(ag (kE r i)++(ag (jD r i)++ [])))] _;generalize Dd r i=bf at*;generalize kE r i=ow at*;generalize jD r i=nx at*;(repeat'((conv=>whnf);first|refine Zg fun _=>?_|refine Zn ?_|apply pI|apply pJ|exact Zf|refine Zc ?_ ?_|refine Zm ?_|fail));refine ⟨(i+1:Nat),rfl,⟨om,fun j u=>?_⟩,ZE⟩;by_cases e:j=i
   ·subst e;exact n
   exact c j om
  have f:¬M:=fun h=>n (m.2 h i g);have y:¬(((jD r i).1-(kE r i).1=0↔¬((jD r i).2.1-(kE r i).2.1=0))/\((kE r i).1-(Dd r i).1=0↔¬((jD r i).1-(kE r i).1=0))):=n;show nD [I i,.agg (ag (Dd r i)++(ag (kE r i)++(ag (jD r i)++ [])))] _;generalize Dd r i=bf at*;generalize kE r i=ow at*;generalize jD r i=nx at*;by_cases A:nx.1-ow.1=0↔nx.2.1-ow.2.1=0
  ·(repeat'((conv=>whnf);first|refine Zg fun _=>?_|refine Zn ?_|apply pI|apply pJ|exact Zf|refine Zc ?_ ?_|refine Zy ?_|fail));(conv=>whnf);exact f
  (repeat'((conv=>whnf);first|refine Zg fun _=>?_|refine Zn ?_|apply pI|apply pJ|exact Zf|refine Zc ?_ ?_|refine Zy ?_|refine Zm ?_|fail));(conv=>whnf);exact f
 obtain ⟨o,c⟩:=hi;subst x;(conv=>whnf);exact m.1 c
def c4029:Con:=aV 103 true fun | [.seq (.pair (.int .i64) (.pair (.int .i64) (.pair (.int .i64) (.pair (.int .i64) (.pair .bool (.pair (.int .i64) (.int .i64))))))) r],K=>Need (length (α:=Sid) r<=1000000/\Ei r) (K (.bl (¬Ea r) Cp)) | _,_=>False
theorem k4029:aM Tp c4029:=by
 refine kQ {} func103 ntmps103 (kc k4030 kn) fun _ _ h=>?_;split at h;case h_2=>cases h
 rename_i r;change List Sid at r;refine kb h.go ?_;replace h:=h.ok;have e:¬Ea r↔¬Ea r:=cJ;(repeat refine ZR ?_);all_goals exact e
def c5139:Con:=aV 139 true fun | [.val (.int .i64 n),.val (.int .i64 f),.val (.int .i64 t)],K=>K (.bl (¬gL n f t) Cp) | _,_=>False
theorem k5139:aM Tp c5139:=by
 refine kQ {} func139 ntmps139 kn fun _ _ h=>?_;split at h;case h_2=>cases h
 rename_i n f t;refine kb h ?_;have e:¬gL n f t↔¬(f<=n/\n<=t):=cJ;generalize (¬gL n f t)=M at*;by_cases h:n<f
 ·have c:M:=e.2 om;(repeat refine ZR ?_);(conv=>whnf);exact c
 have c:t<n↔M:=e.trans om |>.symm
 (repeat refine ZR ?_);(conv=>whnf);exact c
def c5186:Con:=aV 186 true fun | [.val (.int .i64 n)],K=>K (I (Un n)) | _,_=>False
theorem k5186:aM Tp c5186:=by
 refine kQ {} func186 ntmps186 kn fun _ _ h=>?_;split at h;case h_2=>cases h
 rename_i n;refine kb h ?_;rcases oC n with ⟨h,e⟩ | ⟨h,e⟩ | ⟨h,e⟩;all_goals
  rw[e];exact ZRF
theorem TH {r:List Sid}{k:Nat}(h:k<length (α:=Sid) r):((k:Int)+1)% (length (α:=Sid) r:Int)=((L6 (length (α:=Sid) r) k:Nat):Int):=by
 rw[<- Vi h,show (k:Int)+1=((k+1:Nat):Int) by omega];rfl
theorem J7 {r:List Sid}{k:Nat}(h:k<length (α:=Sid) r):((k:Int)+(length (α:=Sid) r:Int)-1)% (length (α:=Sid) r:Int)=((Wb (length (α:=Sid) r) k:Nat):Int):=by
 rw[<- E9 h,show (k:Int)+(length (α:=Sid) r:Int)-1=((k+length (α:=Sid) r-1:Nat):Int) by omega];rfl
def c5185:Con:=aV 185 true fun | [.seq (.pair (.int .i64) (.pair (.int .i64) (.pair (.int .i64) (.pair (.int .i64) (.pair .bool (.pair (.int .i64) (.int .i64))))))) r,.val (.int .i64 i)],K=>Need ((0<=i/\i<length (α:=Sid) r)/\length (α:=Sid) r<=1000000) (K (.tup [I (jD r i.toNat).1,I (jD r i.toNat).2.1])) | _,_=>False
theorem EE:aM Tp c5185:=by
 refine kQ {} func185 ntmps185 kn fun _ _ h=>?_;split at h;case h_2=>cases h
 rename_i r i;change List Sid at r;refine kb h.go ?_;replace h:=h.ok;obtain ⟨⟨f,m⟩,n⟩:=h;obtain ⟨k,rfl⟩:=bL f;have c:k<length (α:=Sid) r:=om;have e:=TH c;have g:=Hg c;have e3:0<=((k:Int)+1)% (length (α:=Sid) r:Int)/\((k:Int)+1)% (length (α:=Sid) r:Int)<(length (α:=Sid) r:Int):=by rw[e];omega
 have e2:(k+1)% ((length (α:=Sid) r:Int)).natAbs=L6 (length (α:=Sid) r) k:=by rw[bZ];exact Vi c
 have e4:(k+1)% ((length (α:=Sid) r:Int)).natAbs<length (α:=Sid) r:=by rw[e2];exact g
 (repeat'((conv=>whnf);first|refine Zg fun _=>?_|refine Za ?_|refine Zn ?_|refine Zj ?_|apply pI|apply pJ|fail));(conv=>whnf);(repeat' first|exact trivial|rfl|apply aA);all_goals (rw[e2];rfl)
theorem Gs {r:List Sid}(h:Ei r){k:Nat}(c:k<length (α:=Sid) r):(0<=(getD (α:=Sid) r k (0,0,0,0,false,0,0)).1/\(getD (α:=Sid) r k (0,0,0,0,false,0,0)).1<=65536)/\0<=(getD (α:=Sid) r k (0,0,0,0,false,0,0)).2.1/\(getD (α:=Sid) r k (0,0,0,0,false,0,0)).2.1<=65536:=h k c
def c5140:Con:=aV 140 true fun | [.seq (.pair (.int .i64) (.pair (.int .i64) (.pair (.int .i64) (.pair (.int .i64) (.pair .bool (.pair (.int .i64) (.int .i64))))))) r,.val (.int .i64 i)],K=>Need (((0<=i/\i<length (α:=Sid) r)/\length (α:=Sid) r<=1000000)/\Ei r) (K (.tup [I (uR r i.toNat),I (uS r i.toNat)])) | _,_=>False
theorem Q1:aM Tp c5140:=by
 refine kQ {} func140 ntmps140 (kc EE (kc k5186 kn)) fun _ _ h=>?_;split at h;case h_2=>cases h
 rename_i r i;change List Sid at r;refine kb h.go ?_;replace h:=h.ok;obtain ⟨⟨⟨g,o⟩,s⟩,c⟩:=h;obtain ⟨k,rfl⟩:=bL g;have e:k<length (α:=Sid) r:=om;have m:=Gs c e;have f:(0<=(jD r k).1/\(jD r k).1<=65536)/\0<=(jD r k).2.1/\(jD r k).2.1<=65536:=Gs c (Hg e);have n:(0<=(jD r ((k:Int)).toNat).1/\(jD r ((k:Int)).toNat).1<=65536)/\0<=(jD r ((k:Int)).toNat).2.1/\(jD r ((k:Int)).toNat).2.1<=65536:=f;(repeat'((conv=>whnf);first|refine Zg fun _=>?_|refine Zn ?_|refine Zj ?_|apply pI|apply pJ|fail));exact ZF
theorem Uz (a b:Int): -1<=Un a*Un b/\Un a*Un b<=1:=by
 rcases oC a with ⟨-,e⟩ | ⟨-,e⟩ | ⟨-,e⟩<;>rcases oC b with ⟨-,f⟩ | ⟨-,f⟩ | ⟨-,f⟩<;>rw[e,f]<;>decide
def c5141:Con:=aV 141 true fun | [.seq (.pair (.int .i64) (.pair (.int .i64) (.pair (.int .i64) (.pair (.int .i64) (.pair .bool (.pair (.int .i64) (.int .i64))))))) r,.val (.int .i64 i)],K=>Need (((0<=i/\i<length (α:=Sid) r)/\length (α:=Sid) r<=1000000)/\Ei r) (K (I (JO r i.toNat))) | _,_=>False
theorem Q2:aM Tp c5141:=by
 refine kQ {} func141 ntmps141 (kc Q1 kn) fun _ _ h=>?_;split at h;case h_2=>cases h
 rename_i r i;change List Sid at r;refine kb h.go ?_;replace h:=h.ok;obtain ⟨⟨⟨c,o⟩,f⟩,g⟩:=h;obtain ⟨k,rfl⟩:=bL c;have m:k<length (α:=Sid) r:=om;have e:=J7 m;have s:=He m;have e1:(0<=((k:Int)+(length (α:=Sid) r:Int)-1)% (length (α:=Sid) r:Int)/\((k:Int)+(length (α:=Sid) r:Int)-1)% (length (α:=Sid) r:Int)<length (α:=Sid) r):=by rw[e];omega
 have e2:=aA (aA e1 f) g;have e3:=aA (aA (aA c o) f) g;have u: -1<=uR r (((k:Int)+(length (α:=Sid) r:Int)-1)% (length (α:=Sid) r:Int)).toNat*uS r ((k:Int)).toNat/\uR r (((k:Int)+(length (α:=Sid) r:Int)-1)% (length (α:=Sid) r:Int)).toNat*uS r ((k:Int)).toNat<=1:=Uz _ _;have x: -1<=uS r (((k:Int)+(length (α:=Sid) r:Int)-1)% (length (α:=Sid) r:Int)).toNat*uR r ((k:Int)).toNat/\uS r (((k:Int)+(length (α:=Sid) r:Int)-1)% (length (α:=Sid) r:Int)).toNat*uR r ((k:Int)).toNat<=1:=Uz _ _;have n:uR r (((k:Int)+(length (α:=Sid) r:Int)-1)% (length (α:=Sid) r:Int)).toNat*uS r ((k:Int)).toNat-uS r (((k:Int)+(length (α:=Sid) r:Int)-1)% (length (α:=Sid) r:Int)).toNat*uR r ((k:Int)).toNat=JO r ((k:Int)).toNat:=by
  rw[e];rfl
 rw[<- n];clear n e;exact ZRF
def c5086:Con:=aV 86 true fun | [.seq (.pair (.int .i64) (.pair (.int .i64) (.pair (.int .i64) (.pair (.int .i64) (.pair .bool (.pair (.int .i64) (.int .i64))))))) r],K=>Need (length (α:=Sid) r<=1000000/\Ei r) (K (.bl (B7 r) Cp)) | _,_=>False
theorem k5086:aM Tp c5086:=by
 refine kQ { asks:=[(0,[])] } func86 ntmps86 (kc Q1 (kc Q2 kn)) fun _ _ h=>?_;split at h;case h_2=>cases h
 rename_i r;change List Sid at r;refine kb h.go ?_;replace h:=h.ok;obtain ⟨y,z⟩:=h;have g:B7 r↔(4<=length (α:=Sid) r/\∀i,i<length (α:=Sid) r->Yx r i):=cJ;generalize B7 r=M at*;refine Ask.mk ⟨{ X:=Nat,pre:=fun i=>i<=length (α:=Sid) r/\∀j,j<i->(Yx r j),mod:=fun i _=>[(3,I i)],heap:=fun i H=>H,mu:=fun i=>length (α:=Sid) r-i },rfl,?_⟩;(repeat refine ZG ?_);refine ⟨⟨(0:Nat),⟨aF _,fun j A=>absurd A (aT j)⟩,ZE⟩,fun (i:Nat) hi=>?_⟩;obtain ⟨hi,x⟩:i<=length (α:=Sid) r/\∀j,j<i->(Yx r j):=hi;by_cases c:i<length (α:=Sid) r
 ·have e3:((0<=(i:Int)/\(i:Int)<length (α:=Sid) r)/\length (α:=Sid) r<=1000000)/\Ei r:=⟨⟨⟨om,om⟩,y⟩,z⟩;have B: -1<=uR r ((i:Int)).toNat*uR r ((i:Int)).toNat/\uR r ((i:Int)).toNat*uR r ((i:Int)).toNat<=1:=Uz _ _;have C: -1<=uS r ((i:Int)).toNat*uS r ((i:Int)).toNat/\uS r ((i:Int)).toNat*uS r ((i:Int)).toNat<=1:=Uz _ _;have m:Yx r i↔(uR r ((i:Int)).toNat*uR r ((i:Int)).toNat+uS r ((i:Int)).toNat*uS r ((i:Int)).toNat=1/\JO r ((i:Int)).toNat≠0):=cJ;by_cases s:uR r ((i:Int)).toNat*uR r ((i:Int)).toNat+uS r ((i:Int)).toNat*uS r ((i:Int)).toNat=1
  ·by_cases u:JO r ((i:Int)).toNat=0
   ·have n:¬M:=fun q=>(m.1 ((g.1 q).2 i c)).2 u;clear m g;(repeat' first|refine ZR ?_|refine Zg fun _=>?_);(conv=>whnf);exact n
   have o:=eD (f:=Yx r) x (m.2 ⟨s,u⟩);clear m;(repeat' first|refine ZR ?_|refine Zg fun _=>?_);refine ⟨(i+1:Nat),by show length (α:=Sid) r-(i+1)<length (α:=Sid) r-i;omega,⟨c,o⟩,ZE⟩
  have n:¬M:=fun q=>s (m.1 ((g.1 q).2 i c)).1;clear m g;(repeat' first|refine ZR ?_|refine Zg fun _=>?_);(conv=>whnf);exact n
 have e:i=length (α:=Sid) r:=om;subst e;have n:(4:Int)<=(length (α:=Sid) r:Int)↔M:=⟨fun q=>g.2 ⟨om,x⟩,fun q=>by have:=(g.1 q).1;omega⟩;clear g;(repeat' first|refine ZR ?_|refine Zg fun _=>?_);(conv=>whnf);exact n
def c5142:Con:=aV 142 true fun | [.seq (.pair (.int .i64) (.pair (.int .i64) (.pair (.int .i64) (.pair (.int .i64) (.pair .bool (.pair (.int .i64) (.int .i64))))))) a,.val (.int .i64 i),.seq (.pair (.int .i64) (.pair (.int .i64) (.pair (.int .i64) (.pair (.int .i64) (.pair .bool (.pair (.int .i64) (.int .i64))))))) b,.val (.int .i64 k)],K=>Need (((0<=i/\i<length (α:=Sid) a)/\length (α:=Sid) a<=1000000)/\(0<=k/\k<length (α:=Sid) b)/\length (α:=Sid) b<=1000000) (K (.bl (zG (L7 (kE a i.toNat) (jD a i.toNat)) (L7 (kE b k.toNat) (jD b k.toNat))) Cp)) | _,_=>False
theorem k5142:aM Tp c5142:=by
 refine kQ {} func142 ntmps142 (kc EE kn) fun _ _ h=>?_;split at h;case h_2=>cases h
 rename_i a i b k;change List Sid at a;change List Sid at b;refine kb h.go ?_;replace h:=h.ok;obtain ⟨⟨⟨f,x⟩,y⟩,⟨g,z⟩,A⟩:=h;obtain ⟨m,rfl⟩:=bL f;obtain ⟨n,rfl⟩:=bL g;have B:=aA (aA f x) y;have C:=aA (aA g z) A;have c:zG (L7 (kE a ((m:Int)).toNat) (jD a ((m:Int)).toNat)) (L7 (kE b ((n:Int)).toNat) (jD b ((n:Int)).toNat))↔(min (getD (α:=Sid) a m (0,0,0,0,false,0,0)).1 (jD a ((m:Int)).toNat).1<=max (getD (α:=Sid) b n (0,0,0,0,false,0,0)).1 (jD b ((n:Int)).toNat).1/\min (getD (α:=Sid) b n (0,0,0,0,false,0,0)).1 (jD b ((n:Int)).toNat).1<=max (getD (α:=Sid) a m (0,0,0,0,false,0,0)).1 (jD a ((m:Int)).toNat).1/\min (getD (α:=Sid) a m (0,0,0,0,false,0,0)).2.1 (jD a ((m:Int)).toNat).2.1<=max (getD (α:=Sid) b n (0,0,0,0,false,0,0)).2.1 (jD b ((n:Int)).toNat).2.1/\min (getD (α:=Sid) b n (0,0,0,0,false,0,0)).2.1 (jD b ((n:Int)).toNat).2.1<=max (getD (α:=Sid) a m (0,0,0,0,false,0,0)).2.1 (jD a ((m:Int)).toNat).2.1):=cJ;generalize zG (L7 (kE a ((m:Int)).toNat) (jD a ((m:Int)).toNat)) (L7 (kE b ((n:Int)).toNat) (jD b ((n:Int)).toNat))=M at*;clear B C;have B:(0<=(m:Int)/\(m:Int)<length (α:=Sid) a)/\length (α:=Sid) a<=1000000:=⟨⟨f,x⟩,y⟩;have C:(0<=(n:Int)/\(n:Int)<length (α:=Sid) b)/\length (α:=Sid) b<=1000000:=⟨⟨g,z⟩,A⟩;by_cases o:min (getD (α:=Sid) a m (0,0,0,0,false,0,0)).1 (jD a ((m:Int)).toNat).1<=max (getD (α:=Sid) b n (0,0,0,0,false,0,0)).1 (jD b ((n:Int)).toNat).1
 ·by_cases s:min (getD (α:=Sid) b n (0,0,0,0,false,0,0)).1 (jD b ((n:Int)).toNat).1<=max (getD (α:=Sid) a m (0,0,0,0,false,0,0)).1 (jD a ((m:Int)).toNat).1
  ·by_cases u:min (getD (α:=Sid) a m (0,0,0,0,false,0,0)).2.1 (jD a ((m:Int)).toNat).2.1<=max (getD (α:=Sid) b n (0,0,0,0,false,0,0)).2.1 (jD b ((n:Int)).toNat).2.1
   ·have e:min (getD (α:=Sid) b n (0,0,0,0,false,0,0)).2.1 (jD b ((n:Int)).toNat).2.1<=max (getD (α:=Sid) a m (0,0,0,0,false,0,0)).2.1 (jD a ((m:Int)).toNat).2.1↔M:=⟨fun q=>c.2 ⟨o,s,u,q⟩,fun q=>(c.1 q).2.2.2⟩;clear c;(repeat'((conv=>whnf);first|refine Zg fun _=>?_|refine Zn ?_|refine Zj ?_|apply pI|apply pJ|refine Zy ?_|fail));(conv=>whnf);exact e
   have e:¬M:=fun q=>u (c.1 q).2.2.1;clear c;(repeat'((conv=>whnf);first|refine Zg fun _=>?_|refine Zn ?_|refine Zj ?_|apply pI|apply pJ|refine Zy ?_|refine Zm ?_|fail));(conv=>whnf);exact e
  have e:¬M:=fun q=>s (c.1 q).2.1;clear c;(repeat'((conv=>whnf);first|refine Zg fun _=>?_|refine Zn ?_|refine Zj ?_|apply pI|apply pJ|refine Zy ?_|refine Zm ?_|fail));(conv=>whnf);exact e
 have e:¬M:=fun q=>o (c.1 q).1;clear c;(repeat'((conv=>whnf);first|refine Zg fun _=>?_|refine Zn ?_|refine Zj ?_|apply pI|apply pJ|refine Zm ?_|fail));(conv=>whnf);exact e
theorem EF {a b:Int}(e:0<=a/\a<=65536)(c:0<=b/\b<=65536):0<=a*b/\a*b<=4294967296:=by
 refine ⟨cU e.1 c.1,?_⟩;have:=Int.mul_le_mul e.2 c.2 c.1 (by decide:(0:Int)<=65536);omega
theorem EG {r:List Sid}(h:Ei r):∀i,i<=length (α:=Sid) r-> -(4294967296*(i:Int))<=Hh r i/\Hh r i<=4294967296*(i:Int)
 | 0,_=>by rw[Hh];exact ⟨de,de⟩
 | i+1,hi=>by
  have f:=EG h i om;have c:(0<=(kE r i).1/\(kE r i).1<=65536)/\0<=(kE r i).2.1/\(kE r i).2.1<=65536:=Gs h om;have e:(0<=(jD r i).1/\(jD r i).1<=65536)/\0<=(jD r i).2.1/\(jD r i).2.1<=65536:=Gs h (Hg om);have g:=EF c.1 e.2;have m:=EF c.2 e.1;rw[Hh,VE];omega
def c5143:Con:=aV 143 true fun | [.seq (.pair (.int .i64) (.pair (.int .i64) (.pair (.int .i64) (.pair (.int .i64) (.pair .bool (.pair (.int .i64) (.int .i64))))))) r],K=>Need (length (α:=Sid) r<=1000000/\Ei r) (K (I (Hh r (length (α:=Sid) r)))) | _,_=>False
theorem k5143:aM Tp c5143:=by
 refine kQ { asks:=[(0,[])] } func143 ntmps143 (kc EE kn) fun _ _ h=>?_;split at h;case h_2=>cases h
 rename_i r;change List Sid at r;refine kb h.go ?_;replace h:=h.ok;obtain ⟨n,f⟩:=h;refine Ask.mk ⟨{ X:=Nat,pre:=fun i=>i<=length (α:=Sid) r,mod:=fun i _=>[(3,I (Hh r i)),(4,I i)],heap:=fun i H=>H,mu:=fun i=>length (α:=Sid) r-i },rfl,?_⟩;(repeat refine ZG ?_);refine ⟨⟨(0:Nat),aF _,ZE⟩,fun (i:Nat) hi=>?_⟩;have hi:i<=length (α:=Sid) r:=hi;by_cases c:i<length (α:=Sid) r
 ·have e3:(0<=(i:Int)/\(i:Int)<length (α:=Sid) r)/\length (α:=Sid) r<=1000000:=⟨⟨om,om⟩,n⟩;have g:=Gs f c;have m:(0<=(jD r ((i:Int)).toNat).1/\(jD r ((i:Int)).toNat).1<=65536)/\0<=(jD r ((i:Int)).toNat).2.1/\(jD r ((i:Int)).toNat).2.1<=65536:=Gs f (Hg c);have s:=EF g.1 m.2;have u:=EF m.1 g.2;have x:=EG f i hi;have o:Hh r i+(getD (α:=Sid) r i (0,0,0,0,false,0,0)).1*(jD r ((i:Int)).toNat).2.1-(jD r ((i:Int)).toNat).1*(getD (α:=Sid) r i (0,0,0,0,false,0,0)).2.1=Hh r (i+1):=by
   rw[Hh,VE,bU (jD r ((i:Int)).toNat).1];show Hh r i+(kE r i).1*(jD r i).2.1-(kE r i).2.1*(jD r i).1= _;omega
  (repeat'((conv=>whnf);first|refine Zg fun _=>?_|refine Zn ?_|refine Zj ?_|apply pI|apply pJ|refine Zy ?_|fail));refine ⟨(i+1:Nat),by show length (α:=Sid) r-(i+1)<length (α:=Sid) r-i;omega,c,?_⟩;exact ZEx o
 have e:i=length (α:=Sid) r:=om;subst e;exact ZRF
def c5144:Con:=aV 144 true fun | [.seq (.pair (.int .i64) (.pair (.int .i64) (.pair (.int .i64) (.pair (.int .i64) (.pair .bool (.pair (.int .i64) (.int .i64))))))) r,.val (.int .i64 x),.val (.int .i64 y)],K=>Need (length (α:=Sid) r<=1000000) (K (.bl (pD r x y (length (α:=Sid) r)=true) inferInstance)) | _,_=>False
theorem k5144:aM Tp c5144:=by
 refine kQ { asks:=[(0,[])] } func144 ntmps144 (kc EE kn) fun _ _ h=>?_;split at h;case h_2=>cases h
 rename_i r x y;change List Sid at r;refine kb h.go ?_;replace h:=h.ok;refine Ask.mk ⟨{ X:=Nat,pre:=fun i=>i<=length (α:=Sid) r,mod:=fun i _=>[(7,.bl (pD r x y i=true) inferInstance),(8,I i)],heap:=fun i H=>H,mu:=fun i=>length (α:=Sid) r-i },rfl,?_⟩;(repeat refine ZG ?_);refine ⟨⟨(0:Nat),aF _,?_⟩,fun (i:Nat) hi=>?_⟩
 ·(repeat' first|exact trivial|rfl|apply aA);all_goals exact fun q=>Bool.noConfusion q
 have hi:i<=length (α:=Sid) r:=hi;by_cases c:i<length (α:=Sid) r
 ·have e3:(0<=(i:Int)/\(i:Int)<length (α:=Sid) r)/\length (α:=Sid) r<=1000000:=⟨⟨om,om⟩,h⟩;have s:N0 r x y i↔((getD (α:=Sid) r i (0,0,0,0,false,0,0)).1=(jD r ((i:Int)).toNat).1/\x<(jD r ((i:Int)).toNat).1/\min (getD (α:=Sid) r i (0,0,0,0,false,0,0)).2.1 (jD r ((i:Int)).toNat).2.1<=y/\y<max (getD (α:=Sid) r i (0,0,0,0,false,0,0)).2.1 (jD r ((i:Int)).toNat).2.1):=by
   unfold N0;show ((jD r i).1-(kE r i).1=0/\x<(kE r i).1/\¬((y<(kE r i).2.1)↔(y<(jD r i).2.1)))↔((kE r i).1=(jD r i).1/\x<(jD r i).1/\min (kE r i).2.1 (jD r i).2.1<=y/\y<max (kE r i).2.1 (jD r i).2.1);generalize jD r i=n at*;generalize kE r i=o at*;omega
  have m:pD r x y (i+1)=if N0 r x y i then !(pD r x y i) else pD r x y i:=rfl;by_cases f:N0 r x y i
  ·rw[aE f] at m;obtain ⟨u,z,A,B⟩:=s.1 f;clear s f;have g:(¬pD r x y i=true)↔pD r x y (i+1)=true:=by rw[m];cases pD r x y i<;>simp
   (repeat' first|refine ZR ?_|refine Zg fun _=>?_);refine ⟨(i+1:Nat),by show length (α:=Sid) r-(i+1)<length (α:=Sid) r-i;omega,c,?_⟩;exact ZEx g
  rw[aD f] at m;rw[s] at f;clear s;have g:(pD r x y i=true)↔pD r x y (i+1)=true:=by rw[m]
  by_cases u:(getD (α:=Sid) r i (0,0,0,0,false,0,0)).1=(jD r ((i:Int)).toNat).1
  ·by_cases z:x<(jD r ((i:Int)).toNat).1
   ·by_cases A:min (getD (α:=Sid) r i (0,0,0,0,false,0,0)).2.1 (jD r ((i:Int)).toNat).2.1<=y
    ·have B:¬y<max (getD (α:=Sid) r i (0,0,0,0,false,0,0)).2.1 (jD r ((i:Int)).toNat).2.1:=fun q=>f ⟨u,z,A,q⟩;clear f;(repeat' first|refine ZR ?_|refine Zg fun _=>?_);refine ⟨(i+1:Nat),by show length (α:=Sid) r-(i+1)<length (α:=Sid) r-i;omega,c,?_⟩;exact ZEx g
    clear f;(repeat' first|refine ZR ?_|refine Zg fun _=>?_);refine ⟨(i+1:Nat),by show length (α:=Sid) r-(i+1)<length (α:=Sid) r-i;omega,c,?_⟩;exact ZEx g
   clear f;(repeat' first|refine ZR ?_|refine Zg fun _=>?_);refine ⟨(i+1:Nat),by show length (α:=Sid) r-(i+1)<length (α:=Sid) r-i;omega,c,?_⟩;exact ZEx g
  clear f;(repeat' first|refine ZR ?_|refine Zg fun _=>?_);refine ⟨(i+1:Nat),by show length (α:=Sid) r-(i+1)<length (α:=Sid) r-i;omega,c,?_⟩;exact ZEx g
 have e:i=length (α:=Sid) r:=om;subst e;(repeat' first|refine ZR ?_|refine Zg fun _=>?_);(conv=>whnf);all_goals exact cJ
def c5085:Con:=aV 85 true fun | [.agg [.val (.int .i64 x),.val (.int .i64 y),.val (.int .i64 a),.val (.int .i64 b),.bl p d,.val (.int .i64 u),.val (.int .i64 v)]],K=>K (.bl (Dy x y a b p u v) Cp) | _,_=>False
theorem k5085:aM Tp c5085:=by
 refine kQ {} func85 ntmps85 (kc k5139 kn) fun _ _ h=>?_;split at h;case h_2=>cases h
 rename_i x y a b p d u v;refine kb h ?_;have c:Dy x y a b p u v↔(((p->a=0/\b=0)/\(¬p->gL a 1 48/\gL b 1 48))/\gL x 0 65536/\gL y 0 65536/\gL u 0 65536/\gL v 0 65536):=cJ;generalize Dy x y a b p u v=M at*;by_cases m:gL x 0 65536
 ·by_cases o:gL y 0 65536
  ·by_cases s:gL u 0 65536
   ·by_cases z:gL v 0 65536
    ·by_cases g:p
     ·by_cases f:a=0
      ·have e:b=0↔M:=⟨fun q=>c.2 ⟨⟨fun _=>⟨f,q⟩,fun n=>absurd g n⟩,m,o,s,z⟩,fun q=>((c.1 q).1.1 g).2⟩;clear c;(repeat refine ZR ?_);(conv=>whnf);exact e
      have e:¬M:=fun q=>f ((c.1 q).1.1 g).1;clear c;(repeat refine ZR ?_);(conv=>whnf);exact e
     by_cases f:gL a 1 48
     ·have e:(¬ ¬gL b 1 48)↔M:=⟨fun q=>c.2 ⟨⟨fun n=>absurd n g,fun _=>⟨f,bG.1 q⟩⟩,m,o,s,z⟩,fun q n=>n ((c.1 q).1.2 g).2⟩;have A:¬ ¬gL a 1 48:=fun n=>n f;clear c;(repeat refine ZR ?_);(conv=>whnf);exact e
     have e:¬M:=fun q=>f ((c.1 q).1.2 g).1;clear c;(repeat refine ZR ?_);(conv=>whnf);exact e
    have e:¬M:=fun q=>z (c.1 q).2.2.2.2;clear c;(repeat refine ZR ?_);(conv=>whnf);exact e
   have e:¬M:=fun q=>s (c.1 q).2.2.2.1;clear c;(repeat refine ZR ?_);(conv=>whnf);exact e
  have e:¬M:=fun q=>o (c.1 q).2.2.1;clear c;(repeat refine ZR ?_);(conv=>whnf);exact e
 have e:¬M:=fun q=>m (c.1 q).2.1;clear c;(repeat refine ZR ?_);(conv=>whnf);exact e
def VA (R:List (List Sid)):Prop:=length (α:=List Sid) R<=1000000/\∀m,m<length (α:=List Sid) R->length (α:=Sid) (getD (α:=List Sid) R m [])<=1000000
def XJ (R:List (List Sid))(m i s:Nat):Prop:=∀k,k<length (α:=Sid) (getD (α:=List Sid) R s [])->¬Up R m i s k
def XK (R:List (List Sid))(m i:Nat):Prop:=∀s,m<=s->s<length (α:=List Sid) R->XJ R m i s
def XL (R:List (List Sid))(m:Nat):Prop:=∀i,i<length (α:=Sid) (getD (α:=List Sid) R m [])->XK R m i
def c5087:Con:=aV 87 true fun | [.seq (.slice (.pair (.int .i64) (.pair (.int .i64) (.pair (.int .i64) (.pair (.int .i64) (.pair .bool (.pair (.int .i64) (.int .i64)))))))) R],K=>Need (VA R) (K (.bl (¬S7 R) Cp)) | _,_=>False
theorem k5087:aM Tp c5087:=by
 refine kQ { asks:=[(0,[]),(2,[]),(4,[]),(6,[])] } func87 ntmps87 (kc k5142 kn) fun _ _ h=>?_;split at h;case h_2=>cases h
 rename_i R;change List (List Sid) at R;refine kb h.go ?_;replace h:=h.ok;obtain ⟨hl,hr⟩:=h;have x:¬S7 R↔¬ ∀m,m<length (α:=List Sid) R->XL R m:=cJ;generalize (¬S7 R)=M at*;refine Ask.mk ⟨{ X:=Nat,pre:=fun i=>i<=length (α:=List Sid) R/\∀j,j<i->(XL R j),mod:=fun i _=>[(3,I i)],heap:=fun i H=>H,mu:=fun i=>length (α:=List Sid) R-i },rfl,?_⟩;(repeat refine ZG ?_);refine ⟨⟨(0:Nat),⟨aF _,fun j y=>absurd y (aT j)⟩,ZE⟩,fun (i:Nat) hi=>?_⟩;obtain ⟨hi,F⟩:i<=length (α:=List Sid) R/\∀j,j<i->(XL R j):=hi;by_cases z:i<length (α:=List Sid) R;case neg=>
  have Y:¬M:=fun q=>x.1 q fun j y=>F j om;clear x;(repeat' first|refine ZR ?_|refine Zg fun _=>?_);(conv=>whnf);exact Y
 have hn:=hr i z;(repeat' first|refine ZR ?_|refine Zg fun _=>?_);refine Ask.mk ⟨{ X:=Nat,pre:=fun k=>k<=length (α:=Sid) (getD (α:=List Sid) R i [])/\∀j,j<k->XK R i j,mod:=fun k _=>[(4,I k)],heap:=fun k H=>H,mu:=fun k=>length (α:=Sid) (getD (α:=List Sid) R i [])-k },rfl,?_⟩;(repeat refine ZG ?_);refine ⟨⟨(0:Nat),⟨aF _,fun j y=>absurd y (aT j)⟩,ZE⟩,fun (k:Nat) hk=>?_⟩;obtain ⟨hk,g⟩:k<=length (α:=Sid) (getD (α:=List Sid) R i [])/\∀j,j<k->XK R i j:=hk;by_cases D:k<length (α:=Sid) (getD (α:=List Sid) R i []);case neg=>
  have e:k=length (α:=Sid) (getD (α:=List Sid) R i []):=om;have c:=eD (f:=XL R) F (fun j y=>g j om);subst e;clear x;(repeat' first|refine ZR ?_|refine Zg fun _=>?_);refine ⟨(i+1:Nat),by show length (α:=List Sid) R-(i+1)<length (α:=List Sid) R-i;omega,⟨z,c⟩,ZE⟩
 (repeat' first|refine ZR ?_|refine Zg fun _=>?_);refine Ask.mk ⟨{ X:=Nat,pre:=fun s=>(i<=s/\s<=length (α:=List Sid) R)/\∀j,i<=j->j<s->XJ R i k j,mod:=fun s _=>[(5,I s)],heap:=fun s H=>H,mu:=fun s=>length (α:=List Sid) R-s },rfl,?_⟩;(repeat refine ZG ?_);refine ⟨⟨(i:Nat),⟨⟨aI _,om⟩,fun j K W=>absurd W om⟩,ZE⟩,fun (s:Nat) hs=>?_⟩;obtain ⟨⟨a0,hs⟩,o⟩:(i<=s/\s<=length (α:=List Sid) R)/\∀j,i<=j->j<s->XJ R i k j:=hs;by_cases B:s<length (α:=List Sid) R;case neg=>
  have c:=eD (f:=XK R i) g (fun j K W=>o j K om);clear x;(repeat' first|refine ZR ?_|refine Zg fun _=>?_);refine ⟨(k+1:Nat),by show length (α:=Sid) (getD (α:=List Sid) R i [])-(k+1)<length (α:=Sid) (getD (α:=List Sid) R i [])-k;omega,⟨D,c⟩,ZE⟩
 have Z:=hr s B;(repeat' first|refine ZR ?_|refine Zg fun _=>?_);refine Ask.mk ⟨{ X:=Nat,pre:=fun n=>n<=length (α:=Sid) (getD (α:=List Sid) R s [])/\∀j,j<n->¬Up R i k s j,mod:=fun n _=>[(6,I n)],heap:=fun n H=>H,mu:=fun n=>length (α:=Sid) (getD (α:=List Sid) R s [])-n },rfl,?_⟩;(repeat refine ZG ?_);refine ⟨⟨(0:Nat),⟨aF _,fun j y=>absurd y (aT j)⟩,ZE⟩,fun (n:Nat) E=>?_⟩;obtain ⟨E,u⟩:n<=length (α:=Sid) (getD (α:=List Sid) R s [])/\∀j,j<n->¬Up R i k s j:=E;by_cases A:n<length (α:=Sid) (getD (α:=List Sid) R s []);case neg=>
  have c:∀j,i<=j->j<s+1->XJ R i k j:=fun j K W=>by
   by_cases e:j=s
   ·subst e;exact fun t ht=>u t om
   exact o j K om
  clear x;(repeat' first|refine ZR ?_|refine Zg fun _=>?_);refine ⟨(s+1:Nat),by show length (α:=List Sid) R-(s+1)<length (α:=List Sid) R-s;omega,⟨⟨om,B⟩,c⟩,ZE⟩
 have C:Up R i k s n↔(¬(i=s/\(n<=k\/n=k+1\/(k=0/\n+1=length (α:=Sid) (getD (α:=List Sid) R i []))))/\zG (U9 R i k) (U9 R s n)):=cJ;by_cases J:i=s/\(n<=k\/n=k+1\/(k=0/\n+1=length (α:=Sid) (getD (α:=List Sid) R i [])))
 ·have c:=eD (f:=fun j=>¬Up R i k s j) u (fun q=>(C.1 q).1 J);clear C x F g o;(repeat'((conv=>whnf);first|refine Zg fun _=>?_|refine Zn ?_|refine Zj ?_|refine Zy ?_|refine Zr (fun _=>?_) fun _=>?_|fail));all_goals first
   | (exfalso;omega)
   | (refine ⟨(n+1:Nat),by show length (α:=Sid) (getD (α:=List Sid) R s [])-(n+1)<length (α:=Sid) (getD (α:=List Sid) R s [])-n;omega,⟨A,c⟩,ZE⟩)
 have q1:((0<=(k:Int)/\(k:Int)<length (α:=Sid) (getD (α:=List Sid) R i []))/\length (α:=Sid) (getD (α:=List Sid) R i [])<=1000000)/\(0<=(n:Int)/\(n:Int)<length (α:=Sid) (getD (α:=List Sid) R s []))/\length (α:=Sid) (getD (α:=List Sid) R s [])<=1000000:=⟨⟨⟨om,om⟩,hn⟩,⟨om,om⟩,Z⟩;by_cases ht:zG (L7 (kE (getD (α:=List Sid) R i []) ((k:Int)).toNat) (jD (getD (α:=List Sid) R i []) ((k:Int)).toNat)) (L7 (kE (getD (α:=List Sid) R s []) ((n:Int)).toNat) (jD (getD (α:=List Sid) R s []) ((n:Int)).toNat))
 ·have Y:M:=x.2 fun q=>q i z k D s a0 B n A (C.2 ⟨J,ht⟩);clear C x F g o u;(repeat'((conv=>whnf);first|refine Zg fun _=>?_|refine Zn ?_|refine Zj ?_|apply pI|apply pJ|refine Zy ?_|refine Zm ?_|refine Zr (fun _=>?_) fun _=>?_|fail));all_goals first
   | (exfalso;omega)
   | ((conv=>whnf);exact Y)
 have c:=eD (f:=fun j=>¬Up R i k s j) u (fun q=>ht (C.1 q).2);clear C x F g o;(repeat'((conv=>whnf);first|refine Zg fun _=>?_|refine Zn ?_|refine Zj ?_|apply pI|apply pJ|refine Zy ?_|refine Zm ?_|refine Zr (fun _=>?_) fun _=>?_|fail));all_goals first
  | (exfalso;omega)
  | (refine ⟨(n+1:Nat),by show length (α:=Sid) (getD (α:=List Sid) R s [])-(n+1)<length (α:=Sid) (getD (α:=List Sid) R s [])-n;omega,⟨A,c⟩,ZE⟩)
def VO (R:List (List Sid)):Prop:=∀m,m<length (α:=List Sid) R->Ei (getD (α:=List Sid) R m [])/\0<length (α:=Sid) (getD (α:=List Sid) R m [])
def VP (R:List (List Sid))(m s:Nat):Prop:=s=m\/((pD (getD (α:=List Sid) R s []) (getD (α:=Sid) (getD (α:=List Sid) R m []) 0 (0,0,0,0,false,0,0)).1 (getD (α:=Sid) (getD (α:=List Sid) R m []) 0 (0,0,0,0,false,0,0)).2.1 (length (α:=Sid) (getD (α:=List Sid) R s []))=true)↔s=0)
def c5088:Con:=aV 88 true fun | [.seq (.slice (.pair (.int .i64) (.pair (.int .i64) (.pair (.int .i64) (.pair (.int .i64) (.pair .bool (.pair (.int .i64) (.int .i64)))))))) R],K=>Need ((VA R/\VO R)/\0<length (α:=List Sid) R) (K (.bl (Yy R) Cp)) | _,_=>False
theorem k5088:aM Tp c5088:=by
 refine kQ { asks:=[(0,[]),(2,[])] } func88 ntmps88 (kc k5143 (kc k5144 kn)) fun _ _ h=>?_;split at h;case h_2=>cases h
 rename_i R;change List (List Sid) at R;refine kb h.go ?_;replace h:=h.ok;obtain ⟨⟨⟨hl,F⟩,y⟩,E⟩:=h;have o:Yy R↔(0<Hh (getD (α:=List Sid) R 0 []) (length (α:=Sid) (getD (α:=List Sid) R 0 []))/\∀m,1<=m->m<length (α:=List Sid) R->GO R m):=cJ;generalize Yy R=M at*;have Y:length (α:=Sid) (getD (α:=List Sid) R 0 [])<=1000000/\Ei (getD (α:=List Sid) R 0 []):=⟨F 0 E,(y 0 E).1⟩;by_cases ha:Hh (getD (α:=List Sid) R 0 []) (length (α:=Sid) (getD (α:=List Sid) R 0 []))<=0
 ·have x:¬M:=fun q=>absurd (o.1 q).1 om;clear o;(repeat' first|refine ZR ?_|refine Zg fun _=>?_);(conv=>whnf);exact x
 (repeat' first|refine ZR ?_|refine Zg fun _=>?_);refine Ask.mk ⟨{ X:=Nat,pre:=fun i=>(1<=i/\i<=length (α:=List Sid) R)/\∀j,1<=j->j<i->GO R j,mod:=fun i _=>[(3,I i)],heap:=fun i H=>H,mu:=fun i=>length (α:=List Sid) R-i },rfl,?_⟩;(repeat refine ZG ?_);refine ⟨⟨(1:Nat),⟨⟨aI _,E⟩,fun j g D=>absurd D om⟩,ZE⟩,fun (i:Nat) hi=>?_⟩;obtain ⟨⟨A,hi⟩,B⟩:(1<=i/\i<=length (α:=List Sid) R)/\∀j,1<=j->j<i->GO R j:=hi;by_cases c:i<length (α:=List Sid) R;case neg=>
  have x:M:=o.2 ⟨om,fun j g D=>B j g om⟩;clear o;(repeat' first|refine ZR ?_|refine Zg fun _=>?_);(conv=>whnf);exact x
 have Z:length (α:=Sid) (getD (α:=List Sid) R i [])<=1000000/\Ei (getD (α:=List Sid) R i []):=⟨F i c,(y i c).1⟩;have g2:=(y i c).2;have g:GO R i↔(Hh (getD (α:=List Sid) R i []) (length (α:=Sid) (getD (α:=List Sid) R i []))<0/\∀s,s<length (α:=List Sid) R->VP R i s):=cJ;by_cases hb:0<=Hh (getD (α:=List Sid) R i []) (length (α:=Sid) (getD (α:=List Sid) R i []))
 ·have x:¬M:=fun q=>absurd (g.1 ((o.1 q).2 i A c)).1 om;clear o g;(repeat' first|refine ZR ?_|refine Zg fun _=>?_);(conv=>whnf);exact x
 (repeat' first|refine ZR ?_|refine Zg fun _=>?_);refine Ask.mk ⟨{ X:=Nat,pre:=fun s=>s<=length (α:=List Sid) R/\∀j,j<s->VP R i j,mod:=fun s _=>[(4,I s)],heap:=fun s H=>H,mu:=fun s=>length (α:=List Sid) R-s },rfl,?_⟩;(repeat refine ZG ?_);refine ⟨⟨(0:Nat),⟨aF _,fun j W=>absurd W (aT j)⟩,ZE⟩,fun (s:Nat) J=>?_⟩;obtain ⟨J,z⟩:s<=length (α:=List Sid) R/\∀j,j<s->VP R i j:=J;by_cases u:s<length (α:=List Sid) R;case neg=>
  have n:∀j,1<=j->j<i+1->GO R j:=fun j D h3=>by
   by_cases e:j=i
   ·subst e;exact g.2 ⟨om,fun t ht=>z t om⟩
   exact B j D om
  clear o g;(repeat' first|refine ZR ?_|refine Zg fun _=>?_);refine ⟨(i+1:Nat),by show length (α:=List Sid) R-(i+1)<length (α:=List Sid) R-i;omega,⟨⟨om,c⟩,n⟩,ZE⟩
 by_cases C:s=i
 ·have n:=eD (f:=VP R i) z (.inl C);clear o g B;(repeat'((conv=>whnf);first|refine Zg fun _=>?_|refine Zn ?_|apply pI|apply pJ|refine Zy ?_|refine Zm ?_|fail));refine ⟨(s+1:Nat),by show length (α:=List Sid) R-(s+1)<length (α:=List Sid) R-s;omega,⟨u,n⟩,ZE⟩
 have g3:=F s u;by_cases K:(pD (getD (α:=List Sid) R s []) (getD (α:=Sid) (getD (α:=List Sid) R i []) 0 (0,0,0,0,false,0,0)).1 (getD (α:=Sid) (getD (α:=List Sid) R i []) 0 (0,0,0,0,false,0,0)).2.1 (length (α:=Sid) (getD (α:=List Sid) R s []))=true↔((s:Int)=0))
 ·have n:=eD (f:=VP R i) z (.inr (K.trans om));clear o g B;(repeat'((conv=>whnf);first|refine Zg fun _=>?_|refine Zn ?_|refine Z0 ?_|refine Zj ?_|apply pI|apply pJ|refine Zy ?_|refine Zm ?_|fail));refine ⟨(s+1:Nat),by show length (α:=List Sid) R-(s+1)<length (α:=List Sid) R-s;omega,⟨u,n⟩,ZE⟩
 have x:¬M:=fun q=>by
  rcases (g.1 ((o.1 q).2 i A c)).2 s u with e | e
  ·exact C e
  exact K (e.trans om)
 clear o g B;(repeat'((conv=>whnf);first|refine Zg fun _=>?_|refine Zn ?_|refine Z0 ?_|refine Zj ?_|apply pI|apply pJ|refine Zy ?_|fail));(conv=>whnf);exact x
abbrev gb (R:List (List Sid))(m i:Nat):Prop:=(getD (α:=Sid) (getD (α:=List Sid) R m []) i (0,0,0,0,false,0,0)).2.2.2.2.1=true
def AW (R:List (List Sid))(m i:Nat):Prop:=¬((∀a,a<m->∀b,b<length (α:=Sid) (getD (α:=List Sid) R a [])->gb R a b)/\∀b,b<i->gb R m b)
theorem J8 (R:List (List Sid)):¬AW R 0 0:=fun q=>q ⟨fun a c=>absurd c (aT a),fun a c=>absurd c (aT a)⟩
theorem J9 (R:List (List Sid))(m i:Nat):AW R m (i+1)↔(AW R m i\/¬gb R m i):=by
 unfold AW;rw[<- Classical.not_and_iff_not_or_not];refine not_congr ⟨fun q=>⟨⟨q.1,fun b c=>q.2 b om⟩,q.2 i om⟩,fun q=>⟨q.1.1,fun b c=>?_⟩⟩;by_cases e:b=i
 ·subst e;exact q.2
 exact q.1.2 b om
theorem KA (R:List (List Sid))(m:Nat):AW R m (length (α:=Sid) (getD (α:=List Sid) R m []))↔AW R (m+1) 0:=by
 unfold AW;refine not_congr ⟨fun q=>⟨fun a f b c=>?_,fun a f=>absurd f (aT a)⟩,fun q=>⟨fun a f=>q.1 a om,fun b c=>q.1 m om b c⟩⟩;by_cases e:a=m
 ·subst e;exact q.2 b c
 exact q.1 a om b c
theorem OZ (R:List (List Sid)):AW R (length (α:=List Sid) R) 0↔Wd R:=by
 unfold AW;refine not_congr ⟨fun q=>q.1,fun q=>⟨q,fun a c=>absurd c (aT a)⟩⟩
def Q3 (R:List (List Sid))(m i:Nat):Prop:=¬S9 (getD (α:=List Sid) R m []) i
def c5089:Con:=aV 89 true fun | [.seq (.slice (.pair (.int .i64) (.pair (.int .i64) (.pair (.int .i64) (.pair (.int .i64) (.pair .bool (.pair (.int .i64) (.int .i64)))))))) R],K=>Need (VA R/\VO R) (K (.bl (QT R/\Wd R) Cp)) | _,_=>False
theorem k5089:aM Tp c5089:=by
 refine kQ { asks:=[(0,[]),(2,[])] } func89 ntmps89 (kc Q2 kn) fun _ _ h=>?_;split at h;case h_2=>cases h
 rename_i R;change List (List Sid) at R;refine kb h.go ?_;replace h:=h.ok;obtain ⟨⟨hl,hr⟩,J⟩:=h;have B:(QT R/\Wd R)↔((∀m,m<length (α:=List Sid) R->∀i,i<length (α:=Sid) (getD (α:=List Sid) R m [])->Q3 R m i)/\AW R (length (α:=List Sid) R) 0):=by rw[OZ];exact cJ
 generalize (QT R/\Wd R)=M at*;refine Ask.mk ⟨{ X:=Nat,pre:=fun i=>i<=length (α:=List Sid) R/\∀j,j<i->∀b,b<length (α:=Sid) (getD (α:=List Sid) R j [])->Q3 R j b,mod:=fun i _=>[(3,.bl (AW R i 0) Cp),(4,I i)],heap:=fun i H=>H,mu:=fun i=>length (α:=List Sid) R-i },rfl,?_⟩;(repeat refine ZG ?_);refine ⟨⟨(0:Nat),⟨aF _,fun j n=>absurd n (aT j)⟩,?_⟩,fun (i:Nat) hi=>?_⟩
 ·exact ZEx (J8 R)
 obtain ⟨hi,F⟩:i<=length (α:=List Sid) R/\∀j,j<i->∀b,b<length (α:=Sid) (getD (α:=List Sid) R j [])->Q3 R j b:=hi;by_cases z:i<length (α:=List Sid) R;case neg=>
  have e:i=length (α:=List Sid) R:=om;subst e;have o:AW R (length (α:=List Sid) R) 0↔M:=⟨fun q=>B.2 ⟨F,q⟩,fun q=>(B.1 q).2⟩;clear B;(repeat' first|refine ZR ?_|refine Zg fun _=>?_);(conv=>whnf);exact o
 have Z:=hr i z;have g2:=(J i z).1;(repeat' first|refine ZR ?_|refine Zg fun _=>?_);refine Ask.mk ⟨{ X:=Nat,pre:=fun k=>k<=length (α:=Sid) (getD (α:=List Sid) R i [])/\∀b,b<k->Q3 R i b,mod:=fun k _=>[(3,.bl (AW R i k) Cp),(6,I k)],heap:=fun k H=>H,mu:=fun k=>length (α:=Sid) (getD (α:=List Sid) R i [])-k },rfl,?_⟩;(repeat refine ZG ?_);refine ⟨⟨(0:Nat),⟨aF _,fun j n=>absurd n (aT j)⟩,ZE⟩,fun (k:Nat) Y=>?_⟩;obtain ⟨Y,A⟩:k<=length (α:=Sid) (getD (α:=List Sid) R i [])/\∀b,b<k->Q3 R i b:=Y;by_cases u:k<length (α:=Sid) (getD (α:=List Sid) R i []);case neg=>
  have e:k=length (α:=Sid) (getD (α:=List Sid) R i []):=om;have x:∀j,j<i+1->∀b,b<length (α:=Sid) (getD (α:=List Sid) R j [])->Q3 R j b:=fun j n=>by
   by_cases e:j=i
   ·subst e;exact fun b hb=>A b om
   exact F j om
  subst e;have y:=KA R i;clear B F A;(repeat' first|refine ZR ?_|refine Zg fun _=>?_);refine ⟨(i+1:Nat),by show length (α:=List Sid) R-(i+1)<length (α:=List Sid) R-i;omega,⟨z,x⟩,?_⟩;exact ZEx y
 have e:=J7 u;have hb:=He u;have e3:((0<=(k:Int)/\(k:Int)<length (α:=Sid) (getD (α:=List Sid) R i []))/\length (α:=Sid) (getD (α:=List Sid) R i [])<=1000000)/\Ei (getD (α:=List Sid) R i []):=⟨⟨⟨om,om⟩,Z⟩,g2⟩;have e4:0<=((k:Int)+(length (α:=Sid) (getD (α:=List Sid) R i []):Int)-1)% (length (α:=Sid) (getD (α:=List Sid) R i []):Int)/\((k:Int)+(length (α:=Sid) (getD (α:=List Sid) R i []):Int)-1)% (length (α:=Sid) (getD (α:=List Sid) R i []):Int)<(length (α:=Sid) (getD (α:=List Sid) R i []):Int):=by rw[e];omega
 have n:S9 (getD (α:=List Sid) R i []) k↔(JO (getD (α:=List Sid) R i []) ((k:Int)).toNat<0/\((getD (α:=Sid) (getD (α:=List Sid) R i []) (Wb (length (α:=Sid) (getD (α:=List Sid) R i [])) k) (0,0,0,0,false,0,0)).2.2.2.2.1=true\/(getD (α:=Sid) (getD (α:=List Sid) R i []) k (0,0,0,0,false,0,0)).2.2.2.2.1=true\/¬(getD (α:=Sid) (getD (α:=List Sid) R i []) (Wb (length (α:=Sid) (getD (α:=List Sid) R i [])) k) (0,0,0,0,false,0,0)).2.2.2.2.2.1=(getD (α:=Sid) (getD (α:=List Sid) R i []) k (0,0,0,0,false,0,0)).2.2.2.2.2.1)):=cJ;have c:=J9 R i k;have o:S9 (getD (α:=List Sid) R i []) k->¬M:=fun q s=>(B.1 s).1 i z k u q;have g:¬S9 (getD (α:=List Sid) R i []) k->∀b,b<k+1->Q3 R i b:=fun q=>eD (f:=Q3 R i) A q;clear B F A;by_cases C:JO (getD (α:=List Sid) R i []) ((k:Int)).toNat<0
 ·by_cases K:(getD (α:=Sid) (getD (α:=List Sid) R i []) (Wb (length (α:=Sid) (getD (α:=List Sid) R i [])) k) (0,0,0,0,false,0,0)).2.2.2.2.1=true
  ·have o:=o (n.2 ⟨C,.inl K⟩);clear n c g;(repeat'((conv=>whnf);first|refine Zg fun _=>?_|refine Za ?_|refine Zn ?_|apply pI|apply pJ|refine Zy ?_|fail))
   repeat (refine Kk _ e ?_;(repeat'((conv=>whnf);first|refine Zg fun _=>?_|refine Za ?_|refine Zn ?_|refine Zj ?_|apply pI|apply pJ|(apply PinH.mk;apply aC;apply aC)|exact Zf|refine Zc ?_ ?_|refine Zy ?_|fail)))
   (conv=>whnf);exact o
  by_cases D:(getD (α:=Sid) (getD (α:=List Sid) R i []) k (0,0,0,0,false,0,0)).2.2.2.2.1=true
  ·have o:=o (n.2 ⟨C,.inr (.inl D)⟩);clear n c g;(repeat'((conv=>whnf);first|refine Zg fun _=>?_|refine Za ?_|refine Zn ?_|apply pI|apply pJ|refine Zy ?_|fail))
   repeat (refine Kk _ e ?_;(repeat'((conv=>whnf);first|refine Zg fun _=>?_|refine Za ?_|refine Zn ?_|refine Zj ?_|apply pI|apply pJ|(apply PinH.mk;apply aC;apply aC)|exact Zf|refine Zc ?_ ?_|refine Zy ?_|refine Zm ?_|fail)))
   (conv=>whnf);exact o
  by_cases W:(getD (α:=Sid) (getD (α:=List Sid) R i []) (Wb (length (α:=Sid) (getD (α:=List Sid) R i [])) k) (0,0,0,0,false,0,0)).2.2.2.2.2.1=(getD (α:=Sid) (getD (α:=List Sid) R i []) k (0,0,0,0,false,0,0)).2.2.2.2.2.1;case neg=>
   have o:=o (n.2 ⟨C,.inr (.inr W)⟩);clear n c g;(repeat'((conv=>whnf);first|refine Zg fun _=>?_|refine Za ?_|refine Zn ?_|apply pI|apply pJ|refine Zy ?_|fail))
   repeat (refine Kk _ e ?_;(repeat'((conv=>whnf);first|refine Zg fun _=>?_|refine Za ?_|refine Zn ?_|refine Zj ?_|apply pI|apply pJ|(apply PinH.mk;apply aC;apply aC)|exact Zf|refine Zc ?_ ?_|refine Zy ?_|refine Zm ?_|fail)))
   (conv=>whnf);exact o
  have x:=g fun q=>by
   rcases (n.1 q).2 with s | s | s
   ·exact K s
   ·exact D s
   exact s W
  by_cases E:AW R i k
  ·have y:=c.2 (.inl E);clear n c g o;(repeat'((conv=>whnf);first|refine Zg fun _=>?_|refine Za ?_|refine Zn ?_|apply pI|apply pJ|refine Zy ?_|fail))
   repeat (refine Kk _ e ?_;(repeat'((conv=>whnf);first|refine Zg fun _=>?_|refine Za ?_|refine Zn ?_|refine Zj ?_|apply pI|apply pJ|(apply PinH.mk;apply aC;apply aC)|exact Zf|refine Zc ?_ ?_|refine Zy ?_|refine Zm ?_|fail)))
   refine ⟨(k+1:Nat),by show length (α:=Sid) (getD (α:=List Sid) R i [])-(k+1)<length (α:=Sid) (getD (α:=List Sid) R i [])-k;omega,⟨u,x⟩,?_⟩;exact ZEx y
  have y:=c.2 (.inr D);clear n g o;(repeat'((conv=>whnf);first|refine Zg fun _=>?_|refine Za ?_|refine Zn ?_|apply pI|apply pJ|refine Zy ?_|fail))
  repeat (refine Kk _ e ?_;(repeat'((conv=>whnf);first|refine Zg fun _=>?_|refine Za ?_|refine Zn ?_|refine Zj ?_|apply pI|apply pJ|(apply PinH.mk;apply aC;apply aC)|exact Zf|refine Zc ?_ ?_|refine Zy ?_|refine Zm ?_|fail)))
  refine ⟨(k+1:Nat),by show length (α:=Sid) (getD (α:=List Sid) R i [])-(k+1)<length (α:=Sid) (getD (α:=List Sid) R i [])-k;omega,⟨u,x⟩,?_⟩;(repeat' first|exact trivial|rfl|apply aA);all_goals first | exact y | exact ⟨fun _=>y,fun _=>D⟩
 have x:=g fun q=>C (n.1 q).1;by_cases E:AW R i k
 ·have y:=c.2 (.inl E);clear n c g o;(repeat'((conv=>whnf);first|refine Zg fun _=>?_|refine Za ?_|refine Zn ?_|apply pI|apply pJ|refine Zy ?_|fail))
  repeat (refine Kk _ e ?_;(repeat'((conv=>whnf);first|refine Zg fun _=>?_|refine Za ?_|refine Zn ?_|refine Zj ?_|apply pI|apply pJ|(apply PinH.mk;apply aC;apply aC)|exact Zf|refine Zc ?_ ?_|refine Zy ?_|refine Zm ?_|fail)))
  refine ⟨(k+1:Nat),by show length (α:=Sid) (getD (α:=List Sid) R i [])-(k+1)<length (α:=Sid) (getD (α:=List Sid) R i [])-k;omega,⟨u,x⟩,?_⟩;exact ZEx y
 have y:(¬(getD (α:=Sid) (getD (α:=List Sid) R i []) k (0,0,0,0,false,0,0)).2.2.2.2.1=true)↔AW R i (k+1):=⟨fun q=>c.2 (.inr q),fun q=>(c.1 q).resolve_left E⟩;clear n c g o;(repeat'((conv=>whnf);first|refine Zg fun _=>?_|refine Za ?_|refine Zn ?_|apply pI|apply pJ|refine Zy ?_|fail))
 repeat (refine Kk _ e ?_;(repeat'((conv=>whnf);first|refine Zg fun _=>?_|refine Za ?_|refine Zn ?_|refine Zj ?_|apply pI|apply pJ|(apply PinH.mk;apply aC;apply aC)|exact Zf|refine Zc ?_ ?_|refine Zm ?_|fail)))
 refine ⟨(k+1:Nat),by show length (α:=Sid) (getD (α:=List Sid) R i [])-(k+1)<length (α:=Sid) (getD (α:=List Sid) R i [])-k;omega,⟨u,x⟩,?_⟩;exact ZEx y
theorem Aj {α:Type}{l:List α}{j:Nat}(d:α)(h:j<l.length):l.getD j d∈l:=by simp[aB,h]
theorem Ke {α:Type}{l:List α}{x:α}(d:α)(h:x∈l):∃j,j<l.length/\x=l.getD j d:=by
 obtain ⟨j,c,e⟩:=iX.1 h;exact ⟨j,c,by rw[aB,aY c];exact e.symm⟩
def NX (R:List (List Sid))(m i:Nat):Prop:=Dz (getD (α:=Sid) (getD (α:=List Sid) R m []) i (0,0,0,0,false,0,0))
theorem KC {R:List (List Sid)}(h:∀m,m<R.length->∀i,i<(R.getD m []).length->NX R m i):∀s∈R.flatten,Dz s:=fun s c=>by
 obtain ⟨r,f,c⟩:=List.mem_flatten.1 c;obtain ⟨m,e,rfl⟩:=Ke [] f;obtain ⟨i,hi,rfl⟩:=Ke qX c;exact h m e i hi
theorem TI (R:List (List Sid)){m:Nat}(h:m<R.length):(R.getD m []).length<=fU R R.length:=by
 have:=Ap R (show m+1<=R.length by omega);rw[fU] at this;omega
def c5037:Con:=aV 37 true fun | [.agg [.seq (.slice (.pair (.int .i64) (.pair (.int .i64) (.pair (.int .i64) (.pair (.int .i64) (.pair .bool (.pair (.int .i64) (.int .i64)))))))) R]],K=>Need (length (α:=List Sid) R<=40) (K (I (wW R))) | _,_=>False
theorem Q4:aM Tp c5037:=by
 refine kQ { asks:=[(0,[]),(2,[]),(4,[]),(6,[])] } func37 ntmps37 (kc k5085 (kc k5086 (kc k5087 (kc k5088 (kc k5089 kn))))) fun _ _ h=>?_;split at h;case h_2=>cases h
 rename_i R;change List (List Sid) at R;refine kb h.go ?_;replace h:=h.ok;have c:wW R=wW R:=rfl
 conv at c=>rhs;unfold wW
 by_cases h0:length (α:=List Sid) R=0
 ·rw[aE h0] at c;rw[c];clear c;exact ZRF
 rw[aD h0] at c;(repeat' first|refine ZR ?_|refine Zg fun _=>?_);refine Ask.mk ⟨{ X:=Nat,pre:=fun i=>(i<=length (α:=List Sid) R/\fU R i<=i*140737488355328)/\∀j,j<i->0<length (α:=Sid) (getD (α:=List Sid) R j []),mod:=fun i _=>[(3,I (fU R i)),(4,I i)],heap:=fun i H=>H,mu:=fun i=>length (α:=List Sid) R-i },rfl,?_⟩;(repeat refine ZG ?_);refine ⟨⟨(0:Nat),⟨⟨aF _,aF _⟩,fun j C=>absurd C (aT j)⟩,ZE⟩,fun (i:Nat) hi=>?_⟩;obtain ⟨⟨hi,hc⟩,o⟩:(i<=length (α:=List Sid) R/\fU R i<=i*140737488355328)/\∀j,j<i->0<length (α:=Sid) (getD (α:=List Sid) R j []):=hi;by_cases g:i<length (α:=List Sid) R
 ·by_cases hz:length (α:=Sid) (getD (α:=List Sid) R i [])=0
  ·rw[aE ⟨_,Aj [] g,hz⟩] at c;rw[c];clear c;exact ZRF
  have u:=eD (f:=fun j=>0<length (α:=Sid) (getD (α:=List Sid) R j [])) o om;have D:fU R (i+1)=fU R i+length (α:=Sid) (getD (α:=List Sid) R i []):=rfl;have a4:(fU R i:Int)+(length (α:=Sid) (getD (α:=List Sid) R i []):Int)=(fU R (i+1):Int):=om;clear c;(repeat' first|refine ZR ?_|refine Zg fun _=>?_);refine ⟨(i+1:Nat),by show length (α:=List Sid) R-(i+1)<length (α:=List Sid) R-i;omega,⟨⟨g,om⟩,u⟩,?_⟩;exact ZEx a4
 have e:i=length (α:=List Sid) R:=om;subst e;have a3:∀j,j<length (α:=List Sid) R->0<length (α:=Sid) (getD (α:=List Sid) R j []):=o;have a1:¬ ∃r∈R,r.length=0:=fun ⟨r,A,hz⟩=>by
  obtain ⟨m,x,rfl⟩:=Ke [] A;have:=o m x;omega
 rw[aD a1] at c;by_cases E:24<fU R R.length
 ·rw[aE E] at c;rw[c];clear c;exact ZRF
 rw[aD E] at c;have K:VA R:=⟨om,fun m x=>by have:=TI R x;omega⟩;have y:=K.2;clear hc;(repeat' first|refine ZR ?_|refine Zg fun _=>?_);refine Ask.mk ⟨{ X:=Nat,pre:=fun i=>i<=length (α:=List Sid) R/\∀j,j<i->(∀b,b<length (α:=Sid) (getD (α:=List Sid) R j [])->NX R j b),mod:=fun i _=>[(5,I i)],heap:=fun i H=>H,mu:=fun i=>length (α:=List Sid) R-i },rfl,?_⟩;(repeat refine ZG ?_);refine ⟨⟨(0:Nat),⟨aF _,fun j C=>absurd C (aT j)⟩,ZE⟩,fun (i:Nat) hi=>?_⟩;obtain ⟨hi,o⟩:i<=length (α:=List Sid) R/\∀j,j<i->(∀b,b<length (α:=Sid) (getD (α:=List Sid) R j [])->NX R j b):=hi;by_cases g:i<length (α:=List Sid) R
 ·have g1:=y i g;(repeat' first|refine ZR ?_|refine Zg fun _=>?_);refine Ask.mk ⟨{ X:=Nat,pre:=fun k=>k<=length (α:=Sid) (getD (α:=List Sid) R i [])/\∀b,b<k->NX R i b,mod:=fun k _=>[(6,I k)],heap:=fun k H=>H,mu:=fun k=>length (α:=Sid) (getD (α:=List Sid) R i [])-k },rfl,?_⟩;(repeat refine ZG ?_);refine ⟨⟨(0:Nat),⟨aF _,fun j C=>absurd C (aT j)⟩,ZE⟩,fun (k:Nat) hk=>?_⟩;obtain ⟨hk,W⟩:k<=length (α:=Sid) (getD (α:=List Sid) R i [])/\∀b,b<k->NX R i b:=hk;by_cases J:k<length (α:=Sid) (getD (α:=List Sid) R i [])
  ·by_cases A:NX R i k
   ·have Y:=eD (f:=NX R i) W A;unfold NX Dz at A;clear c;(repeat' first|refine ZR ?_|refine Zg fun _=>?_);refine ⟨(k+1:Nat),by show length (α:=Sid) (getD (α:=List Sid) R i [])-(k+1)<length (α:=Sid) (getD (α:=List Sid) R i [])-k;omega,⟨J,Y⟩,ZE⟩
   rw[aE ⟨_,List.mem_flatten.2 ⟨_,Aj [] g,Aj (0,0,0,0,false,0,0) J⟩,A⟩] at c;rw[c];unfold NX Dz at A;clear c;exact ZRF
  have e:k=length (α:=Sid) (getD (α:=List Sid) R i []):=om;have u:=eD (f:=fun j=>∀b,b<length (α:=Sid) (getD (α:=List Sid) R j [])->NX R j b) o (fun b hb=>W b om);subst e;clear c;(repeat' first|refine ZR ?_|refine Zg fun _=>?_);refine ⟨(i+1:Nat),by show length (α:=List Sid) R-(i+1)<length (α:=List Sid) R-i;omega,⟨g,u⟩,ZE⟩
 have e:i=length (α:=List Sid) R:=om;subst e;have B:=KC o;rw[aD (fun ⟨s,D,hn⟩=>hn (B s D))] at c;have z:∀m,m<length (α:=List Sid) R->Ei (getD (α:=List Sid) R m []):=fun m x=>MH fun s D=>B s (List.mem_flatten.2 ⟨_,Aj [] x,D⟩);have a2:VO R:=fun m x=>⟨z m x,a3 m x⟩;clear o B;(repeat' first|refine ZR ?_|refine Zg fun _=>?_);refine Ask.mk ⟨{ X:=Nat,pre:=fun i=>i<=length (α:=List Sid) R/\∀j,j<i->(B7 (getD (α:=List Sid) R j [])),mod:=fun i _=>[(7,I i)],heap:=fun i H=>H,mu:=fun i=>length (α:=List Sid) R-i },rfl,?_⟩;(repeat refine ZG ?_);refine ⟨⟨(0:Nat),⟨aF _,fun j C=>absurd C (aT j)⟩,ZE⟩,fun (i:Nat) hi=>?_⟩;obtain ⟨hi,o⟩:i<=length (α:=List Sid) R/\∀j,j<i->(B7 (getD (α:=List Sid) R j [])):=hi;by_cases g:i<length (α:=List Sid) R
 ·have g1:length (α:=Sid) (getD (α:=List Sid) R i [])<=1000000/\Ei (getD (α:=List Sid) R i []):=⟨y i g,z i g⟩;by_cases D:B7 (getD (α:=List Sid) R i [])
  ·have u:=eD (f:=fun j=>B7 (getD (α:=List Sid) R j [])) o D;clear c;(repeat' first|refine ZR ?_|refine Zg fun _=>?_);refine ⟨(i+1:Nat),by show length (α:=List Sid) R-(i+1)<length (α:=List Sid) R-i;omega,⟨g,u⟩,ZE⟩
  rw[aE ⟨_,Aj [] g,D⟩] at c;rw[c];clear c;exact ZRF
 have e:i=length (α:=List Sid) R:=om;subst e
 rw[aD (fun ⟨r,A,hn⟩=>by
  obtain ⟨m,x,rfl⟩:=Ke [] A
  exact hn (o m x))] at c
 have q1:VA R/\VO R:=⟨K,a2⟩;have q2:(VA R/\VO R)/\0<length (α:=List Sid) R:=⟨q1,om⟩;clear o;by_cases F:¬S7 R
 ·rw[aE F] at c;rw[c];clear c;exact ZRF
 rw[aD F] at c;by_cases Z:Yy R
 ·by_cases a0:QT R/\Wd R
  ·rw[aD (fun q=>q.elim (fun n=>n Z) (fun n=>n a0))] at c;rw[c];clear c;exact ZRF
  rw[aE (.inr a0)] at c;rw[c];clear c;exact ZRF
 rw[aE (.inl Z)] at c;rw[c];clear c;exact ZRF
theorem Zh {R:List (List Sid)}{m:Nat}(h:m<R.length):(R.take (m+1)).flatten=(R.take m).flatten++R.getD m []:=by
 rw[HQ [] h,List.flatten_append];simp
theorem Gu (R:List (List Sid)):∀m,m<=R.length->(R.take m).flatten.length=fU R m
 | 0,_=>rfl
 | m+1,h=>by rw[Zh om,aO,Gu R m om,fU]
def c5091:Con:=aV 91 false fun | [.agg [.seq (.slice (.pair (.int .i64) (.pair (.int .i64) (.pair (.int .i64) (.pair (.int .i64) (.pair .bool (.pair (.int .i64) (.int .i64)))))))) R]],K=>Need (length (α:=List Sid) R<=40/\wW R=0) (K (.tup [.seq qd R.flatten,I 0])) | _,_=>False
theorem k5091:aM Tp c5091:=by
 refine kQ { asks:=[(0,[2])] } func91 ntmps91 (kc Q4 kn) fun _ _ h=>?_;split at h;case h_2=>cases h
 rename_i R;change List (List Sid) at R;refine kb h.go ?_;replace h:=h.ok;obtain ⟨x,g⟩:=h;obtain ⟨-, -,y, -, -⟩:=Aq (Nj g);(repeat refine ZR ?_);refine Ask.mk ⟨{ X:=Nat,pre:=fun m=>m<=length (α:=List Sid) R,mod:=fun m _=>[(4,.ref 2 1),(5,I m)],objs:=[2],heap:=fun m H=>[bX H 0,bX H 1,.vec 1 Hd (R.take m).flatten 48],mu:=fun m=>length (α:=List Sid) R-m },rfl,?_⟩;(repeat refine ZG ?_);refine ⟨⟨(0:Nat),aF _,ZE⟩,fun (m:Nat) f=>?_⟩;have f:m<=length (α:=List Sid) R:=f;by_cases c:m<length (α:=List Sid) R
 ·have n:=Zh c;have o:=Gu R m f;have s:fU R (m+1)=fU R m+length (α:=Sid) (getD (α:=List Sid) R m []):=rfl;have u:=Ap R (show m+1<=R.length by omega);(repeat' first|refine ZR ?_|refine Zg fun _=>?_);refine ⟨(m+1:Nat),by show length (α:=List Sid) R-(m+1)<length (α:=List Sid) R-m;omega,c,?_⟩;exact ZEx n.symm
 have e:m=length (α:=List Sid) R:=om;subst e;(repeat' first|refine ZR ?_|refine Zg fun _=>?_);(conv=>whnf);rw[cG];exact ZE
theorem KD (R:List (List Sid)):length (α:=Sid) R.flatten=fU R R.length:=by
 have:=Gu R R.length (aI _);rwa [cG] at this
def c5040:Con:=aV 40 true fun | [.agg [.seq (.slice (.pair (.int .i64) (.pair (.int .i64) (.pair (.int .i64) (.pair (.int .i64) (.pair .bool (.pair (.int .i64) (.int .i64)))))))) R],.seq (.pair (.int .i64) (.pair .str (.pair .str (.pair .str .str)))) l],K=>Need (length (α:=List Sid) R<=40/\wW R=0) (K (I (Fh R l))) | _,_=>False
theorem k5040:aM Tp c5040:=by
 refine kQ { asks:=[(0,[])] } func40 ntmps40 (kc k5090 (kc k5091 (kc J3 kn))) fun _ _ h=>?_;split at h;case h_2=>cases h
 rename_i R l;change List (List Sid) at R;change List Opn at l;refine kb h.go ?_;replace h:=h.ok;have m:=KD R;obtain ⟨-, -,y, -, -⟩:=Aq (Nj h.2);have c:Fh R l=if disE l=0 then (if ∀i,i<length (α:=Opn) l->gL (getD (α:=Opn) l i kG).1 0 ((fU R R.length:Int)-1) then (open Classical in if nO l then 0 else 28) else 2) else disE l:=rfl;by_cases o:disE l=0;case neg=>
  rw[aD o] at c;rw[c];clear c;exact ZRF
 rw[aE o] at c;rw[<- m] at c y;(repeat refine ZR ?_);refine Ask.mk ⟨{ X:=Nat,pre:=fun i=>i<=length (α:=Opn) l/\∀j,j<i->(gL (getD (α:=Opn) l j kG).1 0 ((length (α:=Sid) R.flatten:Int)-1)),mod:=fun i _=>[(9,I i)],heap:=fun i H=>H,mu:=fun i=>length (α:=Opn) l-i },rfl,?_⟩;(repeat refine ZG ?_);refine ⟨⟨(0:Nat),⟨aF _,fun j z=>absurd z (aT j)⟩,ZE⟩,fun (i:Nat) hi=>?_⟩;obtain ⟨hi,s⟩:i<=length (α:=Opn) l/\∀j,j<i->(gL (getD (α:=Opn) l j kG).1 0 ((length (α:=Sid) R.flatten:Int)-1)):=hi;by_cases n:i<length (α:=Opn) l
 ·by_cases x:gL (getD (α:=Opn) l i kG).1 0 ((length (α:=Sid) R.flatten:Int)-1)
  ·have u:=eD (f:=fun j=>gL (getD (α:=Opn) l j kG).1 0 ((length (α:=Sid) R.flatten:Int)-1)) s x;clear c;(repeat' first|refine ZR ?_|refine Zg fun _=>?_);refine ⟨(i+1:Nat),by show length (α:=Opn) l-(i+1)<length (α:=Opn) l-i;omega,⟨n,u⟩,ZE⟩
  rw[aD (fun q=>x (q i n))] at c;rw[c];clear c;exact ZRF
 have e:i=length (α:=Opn) l:=om;subst e;rw[aE s] at c;clear s;by_cases g:nO l
 ·have q:disE l=0/\nO l:=⟨o,g⟩;rw[aE g] at c;rw[c];clear c;exact ZRF
 have q:¬(disE l=0/\nO l):=fun q=>g q.2;rw[aD g] at c;rw[c];clear c;exact ZRF
theorem Da {g lo c v:Int}(h:g=v)(e:v≠0):(if g≠0 then g else if lo≠0 then lo else c)=v:=by
 subst h;rw[aE e]
theorem job_Z {g lo c:Int}(h:g=0):(if g≠0 then g else if lo≠0 then lo else c)=if lo≠0 then lo else c:=by
 subst h;rw[aD (fun q=>q rfl)]
def Q5:Con:=aV 15 true fun | [.agg [.str nm,.seq (.slice (.pair (.int .i64) (.pair (.int .i64) (.pair (.int .i64) (.pair (.int .i64) (.pair .bool (.pair (.int .i64) (.int .i64)))))))) pl,.val (.int .i64 og),.val (.int .i64 sp),.seq (.int .i64) pu,.seq (.pair (.int .i64) (.pair .str (.pair .str (.pair .str .str)))) op,.seq (.pair (.int .i64) (.pair (.int .i64) (.int .i64))) sz,.seq (.pair (.int .i64) (.pair (.int .i64) (.pair (.int .i64) (.pair (.int .i64) (.pair (.int .i64) (.slice (.pair (.int .i64) (.int .i64)))))))) br,.val (.int .i64 kf),.val (.int .i64 t1),.val (.int .i64 t2),.val (.int .i64 t3),.val (.int .i64 t4),.seq (.pair (.int .i64) (.pair (.int .i64) .str)) lo,.seq (.pair (.int .i64) (.pair (.int .i64) (.pair (.int .i64) (.pair (.int .i64) (.int .i64))))) al]],K=>Need (length (α:=List Sid) pl<=40) (K (I (Zd ⟨nm,pl,og,sp,pu,op,sz,br,kf,t1,t2,t3,t4,lo,al⟩))) | _,_=>False
theorem k5015:aM Tp Q5:=by
 refine kQ {} func15 ntmps15 (kc k5036 (kc Q4 (kc J3 (kc k5039 (kc k5040 (kc k5041 (kc k2127 (kc k5043 (kc k5044 (kc k5045 kn)))))))))) fun _ _ h=>?_;split at h;case h_2=>cases h
 rename_i C f D E z m y x B o t2 s u lo A;change List (List Sid) at f;change List Opn at m;change List Siz at y;change List Bar at x;change List Lod at lo;change List Alw at A;refine kb h.go ?_;replace h:=h.ok;have e:Zd ⟨C,f,D,E,z,m,y,x,B,o,t2,s,u,lo,A⟩=if wV (wW f) ⟨C,f,D,E,z,m,y,x,B,o,t2,s,u,lo,A⟩ (Fh f m)≠0 then wV (wW f) ⟨C,f,D,E,z,m,y,x,B,o,t2,s,u,lo,A⟩ (Fh f m) else if qF lo≠0 then qF lo else wU A:=rfl;have c:wV (wW f) ⟨C,f,D,E,z,m,y,x,B,o,t2,s,u,lo,A⟩ (Fh f m)=if ¬namP C then 13 else if wW f≠0 then wW f else if ¬gL D 0 65536\/¬gL E 1 65536 then 2 else if purE z≠0 then purE z else if Fh f m≠0 then Fh f m else if timE y≠0 then timE y else if pS x≠0 then pS x else if ¬gL B 0 100 then 2 else if ¬xZ (o,t2,s,u) then 2 else 0:=rfl;generalize wV (wW f) ⟨C,f,D,E,z,m,y,x,B,o,t2,s,u,lo,A⟩ (Fh f m)=g at*;by_cases a1:namP C;case neg=>
  rw[aE a1] at c;rw[Da c de] at e;rw[e];clear e c;exact ZRF
 rw[aD (fun q=>q a1)] at c;by_cases F:wW f=0;case neg=>
  rw[aE F] at c;rw[Da c F] at e;rw[e];clear e c;exact ZRF
 rw[aD (fun q=>q F)] at c;have hh:=aA h F;by_cases a3:gL D 0 65536;case neg=>
  rw[aE (.inl a3)] at c;rw[Da c de] at e;rw[e];clear e c;exact ZRF
 by_cases a4:gL E 1 65536;case neg=>
  rw[aE (.inr a4)] at c;rw[Da c de] at e;rw[e];clear e c;exact ZRF
 rw[aD (fun q=>q.elim (fun n=>n a3) (fun n=>n a4))] at c;by_cases K:purE z=0;case neg=>
  rw[aE K] at c;rw[Da c K] at e;rw[e];clear e c;exact ZRF
 rw[aD (fun q=>q K)] at c;by_cases W:Fh f m=0;case neg=>
  rw[aE W] at c;rw[Da c W] at e;rw[e];clear e c;exact ZRF
 rw[aD (fun q=>q W)] at c;by_cases X:timE y=0;case neg=>
  rw[aE X] at c;rw[Da c X] at e;rw[e];clear e c;exact ZRF
 rw[aD (fun q=>q X)] at c;by_cases Y:pS x=0;case neg=>
  rw[aE Y] at c;rw[Da c Y] at e;rw[e];clear e c;exact ZRF
 rw[aD (fun q=>q Y)] at c;by_cases a9:gL B 0 100;case neg=>
  rw[aE a9] at c;rw[Da c de] at e;rw[e];clear e c;exact ZRF
 rw[aD (fun q=>q a9)] at c;by_cases J:xZ (o,t2,s,u);case neg=>
  have Z:(if xZ (o,t2,s,u) then (0:Int) else 2)=2:=aD J;rw[aE J] at c;rw[Da c de] at e;rw[e];clear e c;have b3:¬(if xZ (o,t2,s,u) then (0:Int) else 2)=0:=by rw[Z];decide
  exact ZRx Z
 have Z:(if xZ (o,t2,s,u) then (0:Int) else 2)=0:=aE J;rw[aD (fun q=>q J)] at c;rw[job_Z c] at e;by_cases b3:qF lo=0;case neg=>
  rw[aE b3] at e;rw[e];clear e c;exact ZRF
 rw[aD (fun q=>q b3)] at e;rw[e];clear e c;exact ZRF
def c5138:Con:=aV 138 true fun | [.str a],K=>K (.bl (Cm a) Cp) | _,_=>False
theorem k5138:aM Tp c5138:=by
 refine kQ {} func138 ntmps138 kn fun _ _ h=>?_;split at h;case h_2=>cases h
 rename_i a;refine kb h ?_;have e:Cm a↔((20<a.length/\a.length<299)\/604<a.length):=cJ;generalize Cm a=M at*;by_cases f:20<a.length/\a.length<299
 ·have c:M:=e.2 (.inl f);obtain ⟨f,g⟩:=f;clear e;(repeat' first|refine ZR ?_|refine Zg fun _=>?_);(conv=>whnf);exact c
 have c:(604:Int)<(a.length:Int)↔M:=by rw[e];omega
 clear e;by_cases g:20<a.length
 ·(repeat' first|refine ZR ?_|refine Zg fun _=>?_);(conv=>whnf);exact c
 (repeat' first|refine ZR ?_|refine Zg fun _=>?_);(conv=>whnf);exact c
def c5080:Con:=aV 80 true fun | [.seq (.pair (.int .i64) (.pair .str (.pair .str (.pair .str .str)))) l],K=>K (.bl (Uv l) Cp) | _,_=>False
theorem Q6:aM Tp c5080:=by
 refine kQ { asks:=[(0,[])] } func80 ntmps80 (kc k5138 kn) fun _ _ h=>?_;split at h;case h_2=>cases h
 rename_i l;change List Opn at l;refine kb h ?_;have z:Uv l↔((¬ ∀i,i<length (α:=Opn) l->i<7->¬Px (getD (α:=Opn) l i kG))\/(6<length (α:=Opn) l/\length (α:=Opn) l<=32)\/34<length (α:=Opn) l):=cJ;generalize Uv l=M at*;refine Ask.mk ⟨{ X:=Nat,pre:=fun i=>(i<=length (α:=Opn) l/\i<=7)/\∀j,j<i->¬Px (getD (α:=Opn) l j kG),mod:=fun i _=>[(3,I i)],heap:=fun i H=>H,mu:=fun i=>length (α:=Opn) l-i },rfl,?_⟩;(repeat refine ZG ?_);refine ⟨⟨(0:Nat),⟨⟨aF _,aF _⟩,fun j W=>absurd W (aT j)⟩,ZE⟩,fun (i:Nat) hi=>?_⟩;obtain ⟨⟨hi,K⟩,y⟩:(i<=length (α:=Opn) l/\i<=7)/\∀j,j<i->¬Px (getD (α:=Opn) l j kG):=hi;by_cases m:i<length (α:=Opn) l/\i<7
 ·obtain ⟨m,u⟩:=m;have e:Px (getD (α:=Opn) l i (0,[],[],[],[]))↔(Cm (getD (α:=Opn) l i (0,[],[],[],[])).2.1\/Cm (getD (α:=Opn) l i (0,[],[],[],[])).2.2.1\/Cm (getD (α:=Opn) l i (0,[],[],[],[])).2.2.2.1\/Cm (getD (α:=Opn) l i (0,[],[],[],[])).2.2.2.2):=cJ;by_cases c:Px (getD (α:=Opn) l i (0,[],[],[],[]))
  ·have g:M:=z.2 (.inl fun q=>q i m u c);clear z y;by_cases B:Cm (getD (α:=Opn) l i (0,[],[],[],[])).2.1
   ·clear e c;(repeat' first|refine ZR ?_|refine Zg fun _=>?_);(conv=>whnf);exact g
   by_cases C:Cm (getD (α:=Opn) l i (0,[],[],[],[])).2.2.1
   ·clear e c;(repeat' first|refine ZR ?_|refine Zg fun _=>?_);(conv=>whnf);exact g
   by_cases D:Cm (getD (α:=Opn) l i (0,[],[],[],[])).2.2.2.1
   ·clear e c;(repeat' first|refine ZR ?_|refine Zg fun _=>?_);(conv=>whnf);exact g
   have F:=(((e.1 c).resolve_left B).resolve_left C).resolve_left D;clear e c;(repeat' first|refine ZR ?_|refine Zg fun _=>?_);(conv=>whnf);exact g
  have A:=eD (f:=fun j=>¬Px (getD (α:=Opn) l j kG)) y c;have B:=fun q=>c (e.2 (.inl q));have C:=fun q=>c (e.2 (.inr (.inl q)));have D:=fun q=>c (e.2 (.inr (.inr (.inl q))));have F:=fun q=>c (e.2 (.inr (.inr (.inr q))));clear e c;(repeat' first|refine ZR ?_|refine Zg fun _=>?_);refine ⟨(i+1:Nat),by show length (α:=Opn) l-(i+1)<length (α:=Opn) l-i;omega,⟨⟨m,u⟩,A⟩,ZE⟩
 have s:∀j,j<length (α:=Opn) l->j<7->¬Px (getD (α:=Opn) l j kG):=fun j x E=>y j om;have o:M↔((6<length (α:=Opn) l/\length (α:=Opn) l<=32)\/34<length (α:=Opn) l):=z.trans ⟨fun q=>q.resolve_left (fun n=>n s),.inr⟩;clear z y s;by_cases x:6<length (α:=Opn) l/\length (α:=Opn) l<=32
 ·have g:M:=o.2 (.inl x);obtain ⟨x,E⟩:=x;clear o;by_cases J:i<length (α:=Opn) l;all_goals
   (repeat' first|refine ZR ?_|refine Zg fun _=>?_);(conv=>whnf);exact g
 have g:(34:Int)<(length (α:=Opn) l:Int)↔M:=by rw[o];omega
 clear o;by_cases E:6<length (α:=Opn) l;all_goals
  by_cases J:i<length (α:=Opn) l;all_goals
   (repeat' first|refine ZR ?_|refine Zg fun _=>?_);(conv=>whnf)
   first | exact g | exact g.1 om
def c5081:Con:=aV 81 true fun | [.seq (.pair (.int .i64) (.pair (.int .i64) .str)) l],K=>K (.bl (Uw l) Cp) | _,_=>False
theorem Q7:aM Tp c5081:=by
 refine kQ { asks:=[(0,[])] } func81 ntmps81 kn fun _ _ h=>?_;split at h;case h_2=>cases h
 rename_i l;change List Lod at l;refine kb h ?_;have o:Uw l↔(((8<length (α:=Lod) l/\length (α:=Lod) l<=64)\/66<length (α:=Lod) l)\/¬ ∀i,i<length (α:=Lod) l->¬(50<(getD (α:=Lod) l i (0,0,[])).2.2.length)):=cJ;generalize Uw l=M at*;by_cases g:(8<length (α:=Lod) l/\length (α:=Lod) l<=64)\/66<length (α:=Lod) l
 ·have m:M:=o.2 (.inl g);clear o;(repeat'((conv=>whnf);first|refine Zg fun _=>?_|refine Zy ?_|refine Zr (fun _=>?_) fun _=>?_|fail));all_goals first
   | (exfalso;omega)
   | ((conv=>whnf);exact m)
 have c:M↔¬ ∀i,i<length (α:=Lod) l->¬(50<(getD (α:=Lod) l i (0,0,[])).2.2.length):=o.trans ⟨fun q=>q.resolve_left g,.inr⟩;clear o;have y:¬(8<length (α:=Lod) l/\length (α:=Lod) l<=64):=fun q=>g (.inl q);have B:¬66<length (α:=Lod) l:=fun q=>g (.inr q);clear g;rcases (show ¬8<length (α:=Lod) l\/(8<length (α:=Lod) l/\¬length (α:=Lod) l<=64) by omega) with z | ⟨z,C⟩;all_goals
  clear y;(repeat' first|refine ZR ?_|refine Zg fun _=>?_);refine Ask.mk ⟨{ X:=Nat,pre:=fun i=>i<=length (α:=Lod) l/\∀j,j<i->(¬(50<(getD (α:=Lod) l j (0,0,[])).2.2.length)),mod:=fun i _=>[(3,I i)],heap:=fun i H=>H,mu:=fun i=>length (α:=Lod) l-i },rfl,?_⟩;(repeat refine ZG ?_);refine ⟨⟨(0:Nat),⟨aF _,fun j A=>absurd A (aT j)⟩,ZE⟩,fun (i:Nat) hi=>?_⟩;obtain ⟨hi,u⟩:i<=length (α:=Lod) l/\∀j,j<i->(¬(50<(getD (α:=Lod) l j (0,0,[])).2.2.length)):=hi;by_cases n:i<length (α:=Lod) l
  ·by_cases x:(50<(getD (α:=Lod) l i (0,0,[])).2.2.length)
   ·have m:M:=c.2 fun q=>q i n x;clear c;(repeat' first|refine ZR ?_|refine Zg fun _=>?_);(conv=>whnf);exact m
   have s:=eD (f:=fun j=>¬(50<(getD (α:=Lod) l j (0,0,[])).2.2.length)) u x;clear c;(repeat' first|refine ZR ?_|refine Zg fun _=>?_);refine ⟨(i+1:Nat),by show length (α:=Lod) l-(i+1)<length (α:=Lod) l-i;omega,⟨n,s⟩,ZE⟩
  have e:i=length (α:=Lod) l:=om;subst e;have m:¬M:=fun q=>c.1 q u;clear c;(repeat' first|refine ZR ?_|refine Zg fun _=>?_);(conv=>whnf);exact m
def c5083:Con:=aV 83 true fun | [.seq (.pair (.int .i64) (.pair (.int .i64) (.pair (.int .i64) (.pair (.int .i64) (.pair (.int .i64) (.slice (.pair (.int .i64) (.int .i64)))))))) l],K=>K (.bl (GQ l) Cp) | _,_=>False
theorem k5083:aM Tp c5083:=by
 refine kQ { asks:=[(0,[])] } func83 ntmps83 kn fun _ _ h=>?_;split at h;case h_2=>cases h
 rename_i l;change List Bar at l;refine kb h ?_;have o:GQ l↔(((6<length (α:=Bar) l/\length (α:=Bar) l<=64)\/66<length (α:=Bar) l)\/¬ ∀i,i<length (α:=Bar) l->¬(20<(getD (α:=Bar) l i (0,0,0,0,0,[])).2.2.2.2.2.length)):=cJ;generalize GQ l=M at*;by_cases g:(6<length (α:=Bar) l/\length (α:=Bar) l<=64)\/66<length (α:=Bar) l
 ·have m:M:=o.2 (.inl g);clear o;(repeat'((conv=>whnf);first|refine Zg fun _=>?_|refine Zy ?_|refine Zr (fun _=>?_) fun _=>?_|fail));all_goals first
   | (exfalso;omega)
   | ((conv=>whnf);exact m)
 have c:M↔¬ ∀i,i<length (α:=Bar) l->¬(20<(getD (α:=Bar) l i (0,0,0,0,0,[])).2.2.2.2.2.length):=o.trans ⟨fun q=>q.resolve_left g,.inr⟩;clear o;have y:¬(6<length (α:=Bar) l/\length (α:=Bar) l<=64):=fun q=>g (.inl q);have B:¬66<length (α:=Bar) l:=fun q=>g (.inr q);clear g;rcases (show ¬6<length (α:=Bar) l\/(6<length (α:=Bar) l/\¬length (α:=Bar) l<=64) by omega) with z | ⟨z,C⟩;all_goals
  clear y;(repeat' first|refine ZR ?_|refine Zg fun _=>?_);refine Ask.mk ⟨{ X:=Nat,pre:=fun i=>i<=length (α:=Bar) l/\∀j,j<i->(¬(20<(getD (α:=Bar) l j (0,0,0,0,0,[])).2.2.2.2.2.length)),mod:=fun i _=>[(3,I i)],heap:=fun i H=>H,mu:=fun i=>length (α:=Bar) l-i },rfl,?_⟩;(repeat refine ZG ?_);refine ⟨⟨(0:Nat),⟨aF _,fun j A=>absurd A (aT j)⟩,ZE⟩,fun (i:Nat) hi=>?_⟩;obtain ⟨hi,u⟩:i<=length (α:=Bar) l/\∀j,j<i->(¬(20<(getD (α:=Bar) l j (0,0,0,0,0,[])).2.2.2.2.2.length)):=hi;by_cases n:i<length (α:=Bar) l
  ·by_cases x:(20<(getD (α:=Bar) l i (0,0,0,0,0,[])).2.2.2.2.2.length)
   ·have m:M:=c.2 fun q=>q i n x;clear c;(repeat' first|refine ZR ?_|refine Zg fun _=>?_);(conv=>whnf);exact m
   have s:=eD (f:=fun j=>¬(20<(getD (α:=Bar) l j (0,0,0,0,0,[])).2.2.2.2.2.length)) u x;clear c;(repeat' first|refine ZR ?_|refine Zg fun _=>?_);refine ⟨(i+1:Nat),by show length (α:=Bar) l-(i+1)<length (α:=Bar) l-i;omega,⟨n,s⟩,ZE⟩
  have e:i=length (α:=Bar) l:=om;subst e;have m:¬M:=fun q=>c.1 q u;clear c;(repeat' first|refine ZR ?_|refine Zg fun _=>?_);(conv=>whnf);exact m
def c5084:Con:=aV 84 true fun | [.seq (.pair (.int .i64) (.pair (.int .i64) (.pair (.int .i64) (.pair (.int .i64) (.int .i64))))) l],K=>K (.bl (GR l) Cp) | _,_=>False
theorem k5084:aM Tp c5084:=by
 refine kQ {} func84 ntmps84 kn fun _ _ h=>?_;split at h;case h_2=>cases h
 rename_i l;change List Alw at l;refine kb h ?_;have e:GR l↔((12<length (α:=Alw) l/\length (α:=Alw) l<=4096)\/4098<length (α:=Alw) l):=cJ;generalize GR l=M at*;by_cases f:12<length (α:=Alw) l/\length (α:=Alw) l<=4096
 ·have c:M:=e.2 (.inl f);obtain ⟨f,g⟩:=f;clear e;(repeat' first|refine ZR ?_|refine Zg fun _=>?_);(conv=>whnf);exact c
 have c:(4098:Int)<(length (α:=Alw) l:Int)↔M:=by rw[e];omega
 clear e;by_cases g:12<length (α:=Alw) l
 ·(repeat' first|refine ZR ?_|refine Zg fun _=>?_);(conv=>whnf);exact c
 (repeat' first|refine ZR ?_|refine Zg fun _=>?_);(conv=>whnf);exact c
def Py (R:List (List Sid))(n:Int):Prop:=40<R.length\/(n<(fU R R.length:Int)/\fU R R.length<=24)\/40<fU R R.length
def c5082:Con:=aV 82 true fun | [.agg [.seq (.slice (.pair (.int .i64) (.pair (.int .i64) (.pair (.int .i64) (.pair (.int .i64) (.pair .bool (.pair (.int .i64) (.int .i64)))))))) R],.val (.int .i64 n)],K=>K (.bl (Py R n) Cp) | _,_=>False
theorem k5082:aM Tp c5082:=by
 refine kQ { asks:=[(0,[])] } func82 ntmps82 kn fun _ _ h=>?_;split at h;case h_2=>cases h
 rename_i R n;change List (List Sid) at R;refine kb h ?_;by_cases z:R.length<=40
 ·skip;refine Ask.mk ⟨{ X:=Nat,pre:=fun m=>m<=R.length/\fU R m<=m*140737488355328,mod:=fun m _=>[(5,I (fU R m)),(6,I m)],heap:=fun i H=>H,mu:=fun m=>R.length-m },rfl,?_⟩;(repeat refine ZG ?_);refine ⟨⟨(0:Nat),⟨aF _,aF _⟩,ZE⟩,fun (m:Nat) o=>?_⟩;obtain ⟨o,D⟩:=o;by_cases f:m<R.length
  ·have E:fU R (m+1)=fU R m+(R.getD m []).length:=rfl;(repeat' first|refine ZR ?_|refine Zg fun _=>?_);refine ⟨(m+1:Nat),by show R.length-(m+1)<R.length-m;omega,⟨f,om⟩,ZE⟩
  have e:m=R.length:=om;subst e;have g:Py R n↔(n<(fU R R.length:Int)/\fU R R.length<=24)\/40<fU R R.length:=⟨fun q=>q.resolve_left om,.inr⟩;generalize Py R n=M at*;by_cases x:n<(fU R R.length:Int)
  ·by_cases y:(fU R R.length:Int)<=24
   ·have c:=g.2 (.inl ⟨x,om⟩);(repeat' first|refine ZR ?_|refine Zg fun _=>?_);(conv=>whnf);exact c
   by_cases s:40<(fU R R.length:Int)
   ·have c:=g.2 (.inr om);(repeat' first|refine ZR ?_|refine Zg fun _=>?_);(conv=>whnf);exact c
   have c:¬M:=fun q=>(g.1 q).elim (fun q=>y om) fun q=>s om;(repeat' first|refine ZR ?_|refine Zg fun _=>?_);(conv=>whnf);exact ⟨fun q=>absurd q om,fun q=>absurd q c⟩
  by_cases s:40<(fU R R.length:Int)
  ·have c:=g.2 (.inr om);(repeat' first|refine ZR ?_|refine Zg fun _=>?_);(conv=>whnf);exact c
  have c:¬M:=fun q=>(g.1 q).elim (fun q=>x q.1) fun q=>s om;(repeat' first|refine ZR ?_|refine Zg fun _=>?_);(conv=>whnf);exact ⟨fun q=>absurd q om,fun q=>absurd q c⟩
 have c:Py R n:=.inl om;generalize Py R n=M at*;refine Ask.mk ⟨{ X:=Nat,pre:=fun m=>m<=R.length,mod:=fun m _=>[(5,.num .i64),(6,I m)],heap:=fun i H=>H,mu:=fun m=>R.length-m },rfl,?_⟩;(repeat refine ZG ?_);refine ⟨⟨(0:Nat),aF _,ZE⟩,fun (m:Nat) o=>?_⟩;have o:m<=R.length:=o;by_cases f:m<R.length
 ·(repeat' first|refine ZR ?_|refine Zg fun _=>?_);refine ⟨(m+1:Nat),by show R.length-(m+1)<R.length-m;omega,f,ZE⟩
 have e:m=R.length:=om;subst e;(repeat' first|refine ZR ?_|refine Zg fun _=>?_);(conv=>whnf);intro A;by_cases F:A
 ·(repeat refine ZR ?_);(conv=>whnf);intro B;by_cases J:B
  ·(repeat refine ZR ?_);(conv=>whnf);exact c
  (repeat refine ZR ?_);(conv=>whnf);intro u;by_cases C:u
  ·(repeat refine ZR ?_);(conv=>whnf);exact c
  (repeat' first|refine ZR ?_|refine Zg fun _=>?_);(conv=>whnf);exact ⟨fun _=>c,fun _=>om⟩
 (repeat refine ZR ?_);(conv=>whnf);intro u;by_cases C:u
 ·(repeat refine ZR ?_);(conv=>whnf);exact c
 (repeat' first|refine ZR ?_|refine Zg fun _=>?_);(conv=>whnf);exact ⟨fun _=>c,fun _=>om⟩
def c5034:Con:=aV 34 true fun | [.agg (.val (.int .i64 k):: .val (.int .i64 ix):: .val (.int .i64 sx):: .val (.int .i64 sy):: .val (.int .i64 sr):: .val (.int .i64 su):: .bl sg dsg:: .val (.int .i64 sl):: .val (.int .i64 so):: .val (.int .i64 os):: .str o1:: .str o2:: .str o3:: .str o4:: .val (.int .i64 zk):: .val (.int .i64 zw):: .val (.int .i64 zd):: .val (.int .i64 bw):: .val (.int .i64 bd):: .val (.int .i64 bl):: .val (.int .i64 bc):: .val (.int .i64 bx):: .seq (.pair (.int .i64) (.int .i64)) bg:: .val (.int .i64 lki):: .val (.int .i64 ls):: .str lw:: .val (.int .i64 aw):: .val (.int .i64 ad):: .val (.int .i64 ap):: .val (.int .i64 av):: .val (.int .i64 an):: .val (.int .i64 e1):: .val (.int .i64 e2):: .val (.int .i64 e3):: .val (.int .i64 e4):: .val (.int .i64 nu):: .str tx:: [])],K=>K (.bl (OW (k,ix,(sx,sy,sr,su,@decide sg dsg,sl,so),(os,o1,o2,o3,o4),(zk,zw,zd),(bw,bd,bl,bc,bx,bg),(lki,ls,lw),(aw,ad,ap,av,an),(e1,e2,e3,e4),nu,tx)) Cp) | _,_=>False
theorem k5034:aM Tp c5034:=by
 refine kQ {} func34 ntmps34 (kc Q6 (kc Q7 kn)) fun _ _ h=>?_;split at h;case h_2=>cases h
 rename_i k ix sx sy sr su sg m sl so z s u x y zk zw zd X K W J bx g e n o F B D E C e1 e2 e3 e4 nu A;change List Gp at g;refine kb h ?_;have c:OW (k,ix,(sx,sy,sr,su,@decide sg m,sl,so),(z,s,u,x,y),(zk,zw,zd),(X,K,W,J,bx,g),(e,n,o),(F,B,D,E,C),(e1,e2,e3,e4),nu,A)↔(40<A.length\/17<length (α:=Gp) g\/Uv [(z,s,u,x,y)]\/Uw [(e,n,o)]):=cJ;generalize OW (k,ix,(sx,sy,sr,su,@decide sg m,sl,so),(z,s,u,x,y),(zk,zw,zd),(X,K,W,J,bx,g),(e,n,o),(F,B,D,E,C),(e1,e2,e3,e4),nu,A)=M at*;by_cases Y:40<A.length
 ·have f:M:=c.2 (.inl Y);clear c;(repeat' first|refine ZR ?_|refine Zg fun _=>?_);(conv=>whnf);exact f
 by_cases Z:17<length (α:=Gp) g
 ·have f:M:=c.2 (.inr (.inl Z));clear c;(repeat' first|refine ZR ?_|refine Zg fun _=>?_);(conv=>whnf);exact f
 by_cases h3:Uv [(z,s,u,x,y)]
 ·have f:M:=c.2 (.inr (.inr (.inl h3)));clear c;(repeat' first|refine ZR ?_|refine Zg fun _=>?_);(conv=>whnf);exact f
 have f:Uw [(e,n,o)]↔M:=⟨fun q=>c.2 (.inr (.inr (.inr q))),fun q=>(((c.1 q).resolve_left Y).resolve_left Z).resolve_left h3⟩;clear c;(repeat' first|refine ZR ?_|refine Zg fun _=>?_);(conv=>whnf);exact f
def c5035:Con:=aV 35 true fun | [.agg [.str nm,.seq (.slice (.pair (.int .i64) (.pair (.int .i64) (.pair (.int .i64) (.pair (.int .i64) (.pair .bool (.pair (.int .i64) (.int .i64)))))))) pl,.val (.int .i64 og),.val (.int .i64 sp),.seq (.int .i64) pu,.seq (.pair (.int .i64) (.pair .str (.pair .str (.pair .str .str)))) op,.seq (.pair (.int .i64) (.pair (.int .i64) (.int .i64))) sz,.seq (.pair (.int .i64) (.pair (.int .i64) (.pair (.int .i64) (.pair (.int .i64) (.pair (.int .i64) (.slice (.pair (.int .i64) (.int .i64)))))))) br,.val (.int .i64 kf),.val (.int .i64 t1),.val (.int .i64 t2),.val (.int .i64 t3),.val (.int .i64 t4),.seq (.pair (.int .i64) (.pair (.int .i64) .str)) lo,.seq (.pair (.int .i64) (.pair (.int .i64) (.pair (.int .i64) (.pair (.int .i64) (.int .i64))))) al]],K=>K (.bl (QW ⟨nm,pl,og,sp,pu,op,sz,br,kf,t1,t2,t3,t4,lo,al⟩ (Py pl 8)) Cp) | _,_=>False
theorem k5035:aM Tp c5035:=by
 refine kQ {} func35 ntmps35 (kc k5082 (kc Q6 (kc k5083 (kc Q7 (kc k5084 kn))))) fun _ _ h=>?_;split at h;case h_2=>cases h
 rename_i s f F J u n o m E K t2 W X lo g;change List (List Sid) at f;change List Opn at n;change List Siz at o;change List Bar at m;change List Lod at lo;change List Alw at g;refine kb h ?_;have c:QW ⟨s,f,F,J,u,n,o,m,E,K,t2,W,X,lo,g⟩ (Py f 8)↔(40<s.length\/Py f 8\/17<length (α:=Int) u\/Uv n\/16<length (α:=Siz) o\/GQ m\/Uw lo\/GR g):=cJ;generalize QW ⟨s,f,F,J,u,n,o,m,E,K,t2,W,X,lo,g⟩ (Py f 8)=M at*;by_cases x:40<s.length
 ·have e:M:=c.2 (.inl x);clear c;(repeat' first|refine ZR ?_|refine Zg fun _=>?_);(conv=>whnf);exact e
 by_cases y:Py f 8
 ·have e:M:=c.2 (.inr (.inl y));clear c;(repeat' first|refine ZR ?_|refine Zg fun _=>?_);(conv=>whnf);exact e
 by_cases z:17<length (α:=Int) u
 ·have e:M:=c.2 (.inr (.inr (.inl z)));clear c;(repeat' first|refine ZR ?_|refine Zg fun _=>?_);(conv=>whnf);exact e
 by_cases A:Uv n
 ·have e:M:=c.2 (.inr (.inr (.inr (.inl A))));clear c;(repeat' first|refine ZR ?_|refine Zg fun _=>?_);(conv=>whnf);exact e
 by_cases B:16<length (α:=Siz) o
 ·have e:M:=c.2 (.inr (.inr (.inr (.inr (.inl B)))));clear c;(repeat' first|refine ZR ?_|refine Zg fun _=>?_);(conv=>whnf);exact e
 by_cases C:GQ m
 ·have e:M:=c.2 (.inr (.inr (.inr (.inr (.inr (.inl C))))));clear c;(repeat' first|refine ZR ?_|refine Zg fun _=>?_);(conv=>whnf);exact e
 by_cases D:Uw lo
 ·have e:M:=c.2 (.inr (.inr (.inr (.inr (.inr (.inr (.inl D)))))));clear c;(repeat' first|refine ZR ?_|refine Zg fun _=>?_);(conv=>whnf);exact e
 have e:GR g↔M:=⟨fun q=>c.2 (.inr (.inr (.inr (.inr (.inr (.inr (.inr q))))))),fun q=>(((((((c.1 q).resolve_left x).resolve_left y).resolve_left z).resolve_left A).resolve_left B).resolve_left C).resolve_left D⟩;clear c;(repeat' first|refine ZR ?_|refine Zg fun _=>?_);(conv=>whnf);exact e
def Q8:Con:=aV 14 true fun | [.agg [.str nm,.seq (.slice (.pair (.int .i64) (.pair (.int .i64) (.pair (.int .i64) (.pair (.int .i64) (.pair .bool (.pair (.int .i64) (.int .i64)))))))) pl,.val (.int .i64 og),.val (.int .i64 sp),.seq (.int .i64) pu,.seq (.pair (.int .i64) (.pair .str (.pair .str (.pair .str .str)))) op,.seq (.pair (.int .i64) (.pair (.int .i64) (.int .i64))) sz,.seq (.pair (.int .i64) (.pair (.int .i64) (.pair (.int .i64) (.pair (.int .i64) (.pair (.int .i64) (.slice (.pair (.int .i64) (.int .i64)))))))) br,.val (.int .i64 kf),.val (.int .i64 t1),.val (.int .i64 t2),.val (.int .i64 t3),.val (.int .i64 t4),.seq (.pair (.int .i64) (.pair (.int .i64) .str)) lo,.seq (.pair (.int .i64) (.pair (.int .i64) (.pair (.int .i64) (.pair (.int .i64) (.int .i64))))) al,.seq (.pair (.int .i64) (.pair (.int .i64) (.pair (.pair (.int .i64) (.pair (.int .i64) (.pair (.int .i64) (.pair (.int .i64) (.pair .bool (.pair (.int .i64) (.int .i64))))))) (.pair (.pair (.int .i64) (.pair .str (.pair .str (.pair .str .str)))) (.pair (.pair (.int .i64) (.pair (.int .i64) (.int .i64))) (.pair (.pair (.int .i64) (.pair (.int .i64) (.pair (.int .i64) (.pair (.int .i64) (.pair (.int .i64) (.slice (.pair (.int .i64) (.int .i64)))))))) (.pair (.pair (.int .i64) (.pair (.int .i64) .str)) (.pair (.pair (.int .i64) (.pair (.int .i64) (.pair (.int .i64) (.pair (.int .i64) (.int .i64))))) (.pair (.pair (.int .i64) (.pair (.int .i64) (.pair (.int .i64) (.int .i64)))) (.pair (.int .i64) .str)))))))))) es,.seq .bool us]],K=>K (.bl (TC ⟨nm,pl,og,sp,pu,op,sz,br,kf,t1,t2,t3,t4,lo,al⟩ (Py pl 8) es us) Cp) | _,_=>False
theorem k5014:aM Tp Q8:=by
 refine kQ { asks:=[(0,[])] } func14 ntmps14 (kc k5034 (kc k5035 kn)) fun _ _ h=>?_;split at h;case h_2=>cases h
 rename_i B e C E D y z o A F t2 J K lo m c W;change List (List Sid) at e;change List Opn at y;change List Siz at z;change List Bar at o;change List Lod at lo;change List Alw at m;change List dR at c;change List Bool at W;refine kb h ?_;have x:TC ⟨B,e,C,E,D,y,z,o,A,F,t2,J,K,lo,m⟩ (Py e 8) c W↔((length (α:=dR) c<=6/\¬ ∀i,i<length (α:=dR) c->¬OW (getD (α:=dR) c i Us))\/QW ⟨B,e,C,E,D,y,z,o,A,F,t2,J,K,lo,m⟩ (Py e 8)\/6<length (α:=dR) c\/6<length (α:=Bool) W):=cJ;generalize TC ⟨B,e,C,E,D,y,z,o,A,F,t2,J,K,lo,m⟩ (Py e 8) c W=M at*;refine Ask.mk ⟨{ X:=Nat,pre:=fun i=>i<=length (α:=dR) c/\∀j,j<i->(¬OW (getD (α:=dR) c j Us)),mod:=fun i _=>[(3,I i)],heap:=fun i H=>H,mu:=fun i=>length (α:=dR) c-i },rfl,?_⟩;(repeat refine ZG ?_);refine ⟨⟨(0:Nat),⟨aF _,fun j hj=>absurd hj (aT j)⟩,ZE⟩,fun (i:Nat) hi=>?_⟩;obtain ⟨hi,Y⟩:i<=length (α:=dR) c/\∀j,j<i->(¬OW (getD (α:=dR) c j Us)):=hi;by_cases h6:length (α:=dR) c<=6
 ·by_cases u:i<length (α:=dR) c
  ·by_cases hs:OW (getD (α:=dR) c i Us)
   ·have s:M:=x.2 (.inl ⟨h6,fun q=>q i u hs⟩);clear x;(repeat' first|refine ZR ?_|refine Zg fun _=>?_);(conv=>whnf);exact s
   have a0:=eD (f:=fun j=>¬OW (getD (α:=dR) c j Us)) Y hs;clear x;(repeat' first|refine ZR ?_|refine Zg fun _=>?_);refine ⟨(i+1:Nat),by show length (α:=dR) c-(i+1)<length (α:=dR) c-i;omega,⟨u,a0⟩,ZE⟩
  have g:M↔(QW ⟨B,e,C,E,D,y,z,o,A,F,t2,J,K,lo,m⟩ (Py e 8)\/6<length (α:=dR) c\/6<length (α:=Bool) W):=x.trans ⟨fun q=>q.resolve_left (fun n=>n.2 fun j hj=>Y j om),.inr⟩;clear x Y;by_cases Z:QW ⟨B,e,C,E,D,y,z,o,A,F,t2,J,K,lo,m⟩ (Py e 8)
  ·have s:M:=g.2 (.inl Z);clear g;(repeat' first|refine ZR ?_|refine Zg fun _=>?_);(conv=>whnf);exact s
  have s:(6:Int)<(length (α:=Bool) W:Int)↔M:=by
   rw[g]
   exact ⟨fun q=>.inr (.inr om),fun q=>by
    rcases q with q | q | q
    ·exact absurd q Z
    ·omega
    omega⟩
  clear g;(repeat' first|refine ZR ?_|refine Zg fun _=>?_);(conv=>whnf);exact s
 have s:M:=x.2 (.inr (.inr (.inl om)));clear x Y;by_cases u:i<length (α:=dR) c;all_goals
  by_cases Z:QW ⟨B,e,C,E,D,y,z,o,A,F,t2,J,K,lo,m⟩ (Py e 8);all_goals
   (repeat' first|refine ZR ?_|refine Zg fun _=>?_);(conv=>whnf);exact s
theorem vL {α:Type}(xs ys m:List α)(p:Nat)(h:p+ys.length<=xs.length):List.take (p+ys.length) (jK (jK xs p ys) (p+ys.length-0) m)=xs.take p++ys:=by
 have c:(xs.take p).length=p:=by rw[aW];omega
 have e:(jK xs p ys).take (p+ys.length)=xs.take p++ys:=by
  unfold jK
  first
   | rw[cE (by rw[aO,c];exact aI _),cZ (by rw[aO,c];exact aI _)]
   | rw[<- bW,cE (by rw[aO,c];exact aI _),cZ (by rw[aO,c];exact aI _)]
 have f:(jK xs p ys).length=xs.length:=mJ _ _ _ h;rw[jP,<- e];generalize jK xs p ys=A at f;generalize p+ys.length=k at h;have g:(A.take k).length=k:=by rw[aW];omega
 unfold jK
 first
  | rw[cE (by rw[aO,g];omega),cE om,fP,Nat.min_self]
  | rw[cE om,fP,Nat.min_self]
theorem Ak {α:Type}(xs:List α){p:Nat}(h:p<xs.length):xs.take p++xs.drop (p+1)=xs.eraseIdx p:=(List.eraseIdx_eq_take_drop_succ xs p).symm
theorem b5122 (l:List Opn)(h:length (α:=Opn) l<=4200):wG Tp [] {} f122 [.seq Ui l] (.ref 0 1) Ui l 51:=by
 intro q f;(apply Br.mk<;>intro)
 ·rename_i c;have e:=f c;subst e;exact ZF
 exact ZGF
def c5122:Con:=sU 122 fun args K=>match args with | [.seq (.pair (.int .i64) (.pair .str (.pair .str (.pair .str .str)))) l]=>Need (length (α:=Opn) l<=4200) (K (.ref 0 1) (.vec 1 (qg) (l) 51)) | _=>False
theorem Q9:aM Tp c5122:=by
 refine nJ (enters_of func122 kr rfl) ?_;intro e K h;split at h
 ·rename_i l;exact ⟨_,_,_,_,_,h.go,fun c=>gJ si func122 (by simp[ntmps122]) c (b5122 l h.ok)⟩
 cases h
theorem RA (i j:Int)(xs:List Opn)(h:(0<=i/\j=i+1/\i<(length (α:=Opn) xs:Int))/\length (α:=Opn) xs<=4200):wF Tp [] {} f180 0 false [.any,I i,I j] Ui xs 51 (.ref 0 1) (List.eraseIdx (α:=Opn) xs i.toNat):=by
 obtain ⟨⟨m,c,n⟩,o⟩:=h;subst c;obtain ⟨p,rfl⟩:∃p:Nat,i=p:=⟨i.toNat,om⟩;have f:length (α:=Opn) (List.drop (p+1) (List.take (length (α:=Opn) xs) xs))=length (α:=Opn) xs-(p+1):=by simp
 have g:length (α:=Opn) (jK xs p (List.drop (p+1) (List.take (length (α:=Opn) xs) xs)))=length (α:=Opn) xs:=mJ _ _ _ (by rw[f];omega);have e:p+length (α:=Opn) (List.drop (p+1) (List.take (length (α:=Opn) xs) xs))<=length (α:=Opn) xs:=om;have s:0<=((p+length (α:=Opn) (List.drop (p+1) (List.take (length (α:=Opn) xs) xs))-0:Nat):Int)/\((p+length (α:=Opn) (List.drop (p+1) (List.take (length (α:=Opn) xs) xs))-0:Nat):Int)<=(length (α:=Opn) xs:Int)/\(length (α:=Opn) xs:Int)<=(length (α:=Opn) (jK xs p (List.drop (p+1) (List.take (length (α:=Opn) xs) xs))):Int):=om;(repeat'((conv=>whnf);first|refine Zg fun _=>?_|refine Zn ?_|apply pI|apply pJ|refine Zm ?_|fail));refine Own.r ?_;(repeat'((conv=>whnf);first|refine Zn ?_|refine Zj ?_|apply pI|apply pJ|fail));refine Own.r ?_;(repeat'((conv=>whnf);first|refine Zn ?_|refine Zj ?_|apply pJ|fail));refine Own.l ?_;(repeat refine ZX ?_);refine Own.r ?_;(repeat' first|rfl|apply aA);rw[vL xs (List.drop (p+1) (List.take (length (α:=Opn) xs) xs)) _ p e,cG];exact Ak xs (p:=p) (show p<length (α:=Opn) xs by omega)
def c5180:Con:=rB 180 0 false fun args o K=>match args,o with | [.any,.val (.int .i64 i),.val (.int .i64 j)],.vec 1 ((.pair (.int .i64) (.pair .str (.pair .str (.pair .str .str))))) ws 51=>Need ((0<=i/\j=i+1/\i<(length (α:=Opn) ws:Int))/\length (α:=Opn) ws<=4200) (K (.ref 0 1) (.vec 1 (qg) (List.eraseIdx (α:=Opn) ws i.toNat) 51)) | _,_=>False
theorem k5180:aM Tp c5180:=by
 refine mK (enters_of func180 kr rfl) ?_;intro f t m e K g h;split at h
 ·rename_i i j n c;cases c
  first | exact ⟨_,_,h.go,dH si func180 (by simp[ntmps180]) rfl (RA i j n h.ok)⟩ | exact ⟨_,_,h.go,dH si func180 (by simp[ntmps180]) rfl (RA i j m h.ok)⟩
 cases h
def KE:Con:=aV 133 true fun | [.seq (.pair (.int .i64) (.pair .str (.pair .str (.pair .str .str)))) l,.val (.int .i64 i)],K=>Need (length (α:=Opn) l<=4200) (K (.tup [.seq qg (lB l i).1,I (lB l i).2])) | _,_=>False
theorem k5133:aM Tp KE:=by
 refine kQ {} func133 ntmps133 (kc Q9 (kc k5180 kn)) fun _ _ h=>?_;split at h;case h_2=>cases h
 rename_i l i;change List Opn at l;refine kb h.go ?_;replace h:=h.ok;have c:lB l i=if i<0\/(length (α:=Opn) l:Int)<=i then ([],6) else (List.eraseIdx (α:=Opn) l i.toNat,0):=rfl;by_cases e:i<0\/(length (α:=Opn) l:Int)<=i
 ·rw[aE e] at c;rw[c];clear c;(repeat'((conv=>whnf);first|refine Zg fun _=>?_|refine Zy ?_|refine Zr (fun _=>?_) fun _=>?_|fail));all_goals first
   | (exfalso;omega)
   | ((conv=>whnf);(repeat' first|exact trivial|rfl|apply aA))
 rw[aD e] at c;rw[c];clear c;have f:(0<=i/\i+1=i+1/\i<(length (α:=Opn) l:Int))/\length (α:=Opn) l<=4200:=om;exact ZRF
def KF:Con:=aV 70 true fun | [.seq (.pair (.int .i64) (.pair .str (.pair .str (.pair .str .str)))) l,.val (.int .i64 i),.agg [.val (.int .i64 s),.str a,.str b,.str c,.str d]],K=>Need (length (α:=Opn) l<=4100) (K (.tup [.seq qg (kP l i (s,a,b,c,d)).1,I (kP l i (s,a,b,c,d)).2])) | _,_=>False
theorem k5070:aM Tp KF:=by
 refine kQ {} func70 ntmps70 (kc Q9 kn) fun _ _ h=>?_;split at h;case h_2=>cases h
 rename_i l i s a b c d;change List Opn at l;refine kb h.go ?_;replace h:=h.ok;have e:kP l i (s,a,b,c,d)=if i<0\/(length (α:=Opn) l:Int)<i then ([],6) else if i=length (α:=Opn) l then (l++ [(s,a,b,c,d)],0) else (List.set (α:=Opn) l i.toNat (s,a,b,c,d),0):=rfl;by_cases f:i<0\/(length (α:=Opn) l:Int)<i
 ·rw[aE f] at e;rw[e];clear e;(repeat'((conv=>whnf);first|refine Zg fun _=>?_|refine Zy ?_|refine Zr (fun _=>?_) fun _=>?_|fail));all_goals first
   | (exfalso;omega)
   | ((conv=>whnf);(repeat' first|exact trivial|rfl|apply aA))
 rw[aD f] at e;by_cases g:i=length (α:=Opn) l
 ·rw[aE g] at e;rw[e];clear e;have m:length (α:=Opn) l<=4200:=om;(repeat'((conv=>whnf);first|refine Zg fun _=>?_|refine Zn ?_|apply pI|apply pJ|exact Zf|refine Zc ?_ ?_|refine Zl ?_|refine Zy ?_|refine Zm ?_|fail));exact ZF
 rw[aD g] at e;rw[e];clear e;have m:length (α:=Opn) l<=4200:=om;obtain ⟨k,rfl⟩:∃k:Nat,i=k:=⟨i.toNat,om⟩;exact ZRF
theorem b5175 (l:List Siz)(h:length (α:=Siz) l<=4200):wG Tp [] {} f175 [.seq Uj l] (.ref 0 1) Uj l 53:=by
 intro q f;(apply Br.mk<;>intro)
 ·rename_i c;have e:=f c;subst e;exact ZF
 exact ZGF
def c5175:Con:=sU 175 fun args K=>match args with | [.seq (.pair (.int .i64) (.pair (.int .i64) (.int .i64))) l]=>Need (length (α:=Siz) l<=4200) (K (.ref 0 1) (.vec 1 (qh) (l) 53)) | _=>False
theorem RC:aM Tp c5175:=by
 refine nJ (enters_of func175 kr rfl) ?_;intro e K h;split at h
 ·rename_i l;exact ⟨_,_,_,_,_,h.go,fun c=>gJ si func175 (by simp[ntmps175]) c (b5175 l h.ok)⟩
 cases h
theorem RE (i j:Int)(xs:List Siz)(h:(0<=i/\j=i+1/\i<(length (α:=Siz) xs:Int))/\length (α:=Siz) xs<=4200):wF Tp [] {} f181 0 false [.any,I i,I j] Uj xs 53 (.ref 0 1) (List.eraseIdx (α:=Siz) xs i.toNat):=by
 obtain ⟨⟨m,c,n⟩,o⟩:=h;subst c;obtain ⟨p,rfl⟩:∃p:Nat,i=p:=⟨i.toNat,om⟩;have f:length (α:=Siz) (List.drop (p+1) (List.take (length (α:=Siz) xs) xs))=length (α:=Siz) xs-(p+1):=by simp
 have g:length (α:=Siz) (jK xs p (List.drop (p+1) (List.take (length (α:=Siz) xs) xs)))=length (α:=Siz) xs:=mJ _ _ _ (by rw[f];omega);have e:p+length (α:=Siz) (List.drop (p+1) (List.take (length (α:=Siz) xs) xs))<=length (α:=Siz) xs:=om;have s:0<=((p+length (α:=Siz) (List.drop (p+1) (List.take (length (α:=Siz) xs) xs))-0:Nat):Int)/\((p+length (α:=Siz) (List.drop (p+1) (List.take (length (α:=Siz) xs) xs))-0:Nat):Int)<=(length (α:=Siz) xs:Int)/\(length (α:=Siz) xs:Int)<=(length (α:=Siz) (jK xs p (List.drop (p+1) (List.take (length (α:=Siz) xs) xs))):Int):=om;(repeat'((conv=>whnf);first|refine Zg fun _=>?_|refine Zn ?_|apply pI|apply pJ|refine Zm ?_|fail));refine Own.r ?_;(repeat'((conv=>whnf);first|refine Zn ?_|refine Zj ?_|apply pI|apply pJ|fail));refine Own.r ?_;(repeat'((conv=>whnf);first|refine Zn ?_|refine Zj ?_|apply pJ|fail));refine Own.l ?_;(repeat refine ZX ?_);refine Own.r ?_;(repeat' first|rfl|apply aA);rw[vL xs (List.drop (p+1) (List.take (length (α:=Siz) xs) xs)) _ p e,cG];exact Ak xs (p:=p) (show p<length (α:=Siz) xs by omega)
def c5181:Con:=rB 181 0 false fun args o K=>match args,o with | [.any,.val (.int .i64 i),.val (.int .i64 j)],.vec 1 ((.pair (.int .i64) (.pair (.int .i64) (.int .i64)))) ws 53=>Need ((0<=i/\j=i+1/\i<(length (α:=Siz) ws:Int))/\length (α:=Siz) ws<=4200) (K (.ref 0 1) (.vec 1 (qh) (List.eraseIdx (α:=Siz) ws i.toNat) 53)) | _,_=>False
theorem k5181:aM Tp c5181:=by
 refine mK (enters_of func181 kr rfl) ?_;intro f t m e K g h;split at h
 ·rename_i i j n c;cases c
  first | exact ⟨_,_,h.go,dH si func181 (by simp[ntmps181]) rfl (RE i j n h.ok)⟩ | exact ⟨_,_,h.go,dH si func181 (by simp[ntmps181]) rfl (RE i j m h.ok)⟩
 cases h
def KG:Con:=aV 134 true fun | [.seq (.pair (.int .i64) (.pair (.int .i64) (.int .i64))) l,.val (.int .i64 i)],K=>Need (length (α:=Siz) l<=4200) (K (.tup [.seq qh (lB l i).1,I (lB l i).2])) | _,_=>False
theorem k5134:aM Tp KG:=by
 refine kQ {} func134 ntmps134 (kc RC (kc k5181 kn)) fun _ _ h=>?_;split at h;case h_2=>cases h
 rename_i l i;change List Siz at l;refine kb h.go ?_;replace h:=h.ok;have c:lB l i=if i<0\/(length (α:=Siz) l:Int)<=i then ([],6) else (List.eraseIdx (α:=Siz) l i.toNat,0):=rfl;by_cases e:i<0\/(length (α:=Siz) l:Int)<=i
 ·rw[aE e] at c;rw[c];clear c;(repeat'((conv=>whnf);first|refine Zg fun _=>?_|refine Zy ?_|refine Zr (fun _=>?_) fun _=>?_|fail));all_goals first
   | (exfalso;omega)
   | ((conv=>whnf);(repeat' first|exact trivial|rfl|apply aA))
 rw[aD e] at c;rw[c];clear c;have f:(0<=i/\i+1=i+1/\i<(length (α:=Siz) l:Int))/\length (α:=Siz) l<=4200:=om;exact ZRF
def KH:Con:=aV 125 true fun | [.seq (.pair (.int .i64) (.pair (.int .i64) (.int .i64))) l,.val (.int .i64 i),.agg [.val (.int .i64 a),.val (.int .i64 b),.val (.int .i64 c)]],K=>Need (length (α:=Siz) l<=4100) (K (.tup [.seq qh (kP l i (a,b,c)).1,I (kP l i (a,b,c)).2])) | _,_=>False
theorem k5125:aM Tp KH:=by
 refine kQ {} func125 ntmps125 (kc RC kn) fun _ _ h=>?_;split at h;case h_2=>cases h
 rename_i l i a b c;change List Siz at l;refine kb h.go ?_;replace h:=h.ok;have e:kP l i (a,b,c)=if i<0\/(length (α:=Siz) l:Int)<i then ([],6) else if i=length (α:=Siz) l then (l++ [(a,b,c)],0) else (List.set (α:=Siz) l i.toNat (a,b,c),0):=rfl;by_cases f:i<0\/(length (α:=Siz) l:Int)<i
 ·rw[aE f] at e;rw[e];clear e;(repeat'((conv=>whnf);first|refine Zg fun _=>?_|refine Zy ?_|refine Zr (fun _=>?_) fun _=>?_|fail));all_goals first
   | (exfalso;omega)
   | ((conv=>whnf);(repeat' first|exact trivial|rfl|apply aA))
 rw[aD f] at e;by_cases g:i=length (α:=Siz) l
 ·rw[aE g] at e;rw[e];clear e;have m:length (α:=Siz) l<=4200:=om;(repeat'((conv=>whnf);first|refine Zg fun _=>?_|refine Zn ?_|apply pI|apply pJ|exact Zf|refine Zc ?_ ?_|refine Zl ?_|refine Zy ?_|refine Zm ?_|fail));exact ZF
 rw[aD g] at e;rw[e];clear e;have m:length (α:=Siz) l<=4200:=om;obtain ⟨k,rfl⟩:∃k:Nat,i=k:=⟨i.toNat,om⟩;exact ZRF
theorem b5127 (l:List Lod)(h:length (α:=Lod) l<=4200):wG Tp [] {} f127 [.seq Uk l] (.ref 0 1) Uk l 58:=by
 intro q f;(apply Br.mk<;>intro)
 ·rename_i c;have e:=f c;subst e;exact ZF
 exact ZGF
def c5127:Con:=sU 127 fun args K=>match args with | [.seq (.pair (.int .i64) (.pair (.int .i64) .str)) l]=>Need (length (α:=Lod) l<=4200) (K (.ref 0 1) (.vec 1 (qi) (l) 58)) | _=>False
theorem RF:aM Tp c5127:=by
 refine nJ (enters_of func127 kr rfl) ?_;intro e K h;split at h
 ·rename_i l;exact ⟨_,_,_,_,_,h.go,fun c=>gJ si func127 (by simp[ntmps127]) c (b5127 l h.ok)⟩
 cases h
theorem RG (i j:Int)(xs:List Lod)(h:(0<=i/\j=i+1/\i<(length (α:=Lod) xs:Int))/\length (α:=Lod) xs<=4200):wF Tp [] {} f183 0 false [.any,I i,I j] Uk xs 58 (.ref 0 1) (List.eraseIdx (α:=Lod) xs i.toNat):=by
 obtain ⟨⟨m,c,n⟩,o⟩:=h;subst c;obtain ⟨p,rfl⟩:∃p:Nat,i=p:=⟨i.toNat,om⟩;have f:length (α:=Lod) (List.drop (p+1) (List.take (length (α:=Lod) xs) xs))=length (α:=Lod) xs-(p+1):=by simp
 have g:length (α:=Lod) (jK xs p (List.drop (p+1) (List.take (length (α:=Lod) xs) xs)))=length (α:=Lod) xs:=mJ _ _ _ (by rw[f];omega);have e:p+length (α:=Lod) (List.drop (p+1) (List.take (length (α:=Lod) xs) xs))<=length (α:=Lod) xs:=om;have s:0<=((p+length (α:=Lod) (List.drop (p+1) (List.take (length (α:=Lod) xs) xs))-0:Nat):Int)/\((p+length (α:=Lod) (List.drop (p+1) (List.take (length (α:=Lod) xs) xs))-0:Nat):Int)<=(length (α:=Lod) xs:Int)/\(length (α:=Lod) xs:Int)<=(length (α:=Lod) (jK xs p (List.drop (p+1) (List.take (length (α:=Lod) xs) xs))):Int):=om;(repeat'((conv=>whnf);first|refine Zg fun _=>?_|refine Zn ?_|apply pI|apply pJ|refine Zm ?_|fail));refine Own.r ?_;(repeat'((conv=>whnf);first|refine Zn ?_|refine Zj ?_|apply pI|apply pJ|fail));refine Own.r ?_;(repeat'((conv=>whnf);first|refine Zn ?_|refine Zj ?_|apply pJ|fail));refine Own.l ?_;(repeat refine ZX ?_);refine Own.r ?_;(repeat' first|rfl|apply aA);rw[vL xs (List.drop (p+1) (List.take (length (α:=Lod) xs) xs)) _ p e,cG];exact Ak xs (p:=p) (show p<length (α:=Lod) xs by omega)
def c5183:Con:=rB 183 0 false fun args o K=>match args,o with | [.any,.val (.int .i64 i),.val (.int .i64 j)],.vec 1 ((.pair (.int .i64) (.pair (.int .i64) .str))) ws 58=>Need ((0<=i/\j=i+1/\i<(length (α:=Lod) ws:Int))/\length (α:=Lod) ws<=4200) (K (.ref 0 1) (.vec 1 (qi) (List.eraseIdx (α:=Lod) ws i.toNat) 58)) | _,_=>False
theorem k5183:aM Tp c5183:=by
 refine mK (enters_of func183 kr rfl) ?_;intro f t m e K g h;split at h
 ·rename_i i j n c;cases c
  first | exact ⟨_,_,h.go,dH si func183 (by simp[ntmps183]) rfl (RG i j n h.ok)⟩ | exact ⟨_,_,h.go,dH si func183 (by simp[ntmps183]) rfl (RG i j m h.ok)⟩
 cases h
def KI:Con:=aV 136 true fun | [.seq (.pair (.int .i64) (.pair (.int .i64) .str)) l,.val (.int .i64 i)],K=>Need (length (α:=Lod) l<=4200) (K (.tup [.seq qi (lB l i).1,I (lB l i).2])) | _,_=>False
theorem k5136:aM Tp KI:=by
 refine kQ {} func136 ntmps136 (kc RF (kc k5183 kn)) fun _ _ h=>?_;split at h;case h_2=>cases h
 rename_i l i;change List Lod at l;refine kb h.go ?_;replace h:=h.ok;have c:lB l i=if i<0\/(length (α:=Lod) l:Int)<=i then ([],6) else (List.eraseIdx (α:=Lod) l i.toNat,0):=rfl;by_cases e:i<0\/(length (α:=Lod) l:Int)<=i
 ·rw[aE e] at c;rw[c];clear c;(repeat'((conv=>whnf);first|refine Zg fun _=>?_|refine Zy ?_|refine Zr (fun _=>?_) fun _=>?_|fail));all_goals first
   | (exfalso;omega)
   | ((conv=>whnf);(repeat' first|exact trivial|rfl|apply aA))
 rw[aD e] at c;rw[c];clear c;have f:(0<=i/\i+1=i+1/\i<(length (α:=Lod) l:Int))/\length (α:=Lod) l<=4200:=om;exact ZRF
def KJ:Con:=aV 77 true fun | [.seq (.pair (.int .i64) (.pair (.int .i64) .str)) l,.val (.int .i64 i),.agg [.val (.int .i64 a),.val (.int .i64 b),.str s]],K=>Need (length (α:=Lod) l<=4100) (K (.tup [.seq qi (kP l i (a,b,s)).1,I (kP l i (a,b,s)).2])) | _,_=>False
theorem k5077:aM Tp KJ:=by
 refine kQ {} func77 ntmps77 (kc RF kn) fun _ _ h=>?_;split at h;case h_2=>cases h
 rename_i l i a b s;change List Lod at l;refine kb h.go ?_;replace h:=h.ok;have c:kP l i (a,b,s)=if i<0\/(length (α:=Lod) l:Int)<i then ([],6) else if i=length (α:=Lod) l then (l++ [(a,b,s)],0) else (List.set (α:=Lod) l i.toNat (a,b,s),0):=rfl;by_cases e:i<0\/(length (α:=Lod) l:Int)<i
 ·rw[aE e] at c;rw[c];clear c;(repeat'((conv=>whnf);first|refine Zg fun _=>?_|refine Zy ?_|refine Zr (fun _=>?_) fun _=>?_|fail));all_goals first
   | (exfalso;omega)
   | ((conv=>whnf);(repeat' first|exact trivial|rfl|apply aA))
 rw[aD e] at c;by_cases f:i=length (α:=Lod) l
 ·rw[aE f] at c;rw[c];clear c;have g:length (α:=Lod) l<=4200:=om;(repeat'((conv=>whnf);first|refine Zg fun _=>?_|refine Zn ?_|apply pI|apply pJ|exact Zf|refine Zc ?_ ?_|refine Zl ?_|refine Zy ?_|refine Zm ?_|fail));exact ZF
 rw[aD f] at c;rw[c];clear c;have g:length (α:=Lod) l<=4200:=om;obtain ⟨k,rfl⟩:∃k:Nat,i=k:=⟨i.toNat,om⟩;exact ZRF
theorem b5128 (l:List Alw)(h:length (α:=Alw) l<=4200):wG Tp [] {} f128 [.seq Ul l] (.ref 0 1) Ul l 60:=by
 intro q f;(apply Br.mk<;>intro)
 ·rename_i c;have e:=f c;subst e;exact ZF
 exact ZGF
def KK:Con:=sU 128 fun args K=>match args with | [.seq (.pair (.int .i64) (.pair (.int .i64) (.pair (.int .i64) (.pair (.int .i64) (.int .i64))))) l]=>Need (length (α:=Alw) l<=4200) (K (.ref 0 1) (.vec 1 (qe) (l) 60)) | _=>False
theorem RH:aM Tp KK:=by
 refine nJ (enters_of func128 kr rfl) ?_;intro e K h;split at h
 ·rename_i l;exact ⟨_,_,_,_,_,h.go,fun c=>gJ si func128 (by simp[ntmps128]) c (b5128 l h.ok)⟩
 cases h
theorem RI (i j:Int)(xs:List Alw)(h:(0<=i/\j=i+1/\i<(length (α:=Alw) xs:Int))/\length (α:=Alw) xs<=4200):wF Tp [] {} f184 0 false [.any,I i,I j] Ul xs 60 (.ref 0 1) (List.eraseIdx (α:=Alw) xs i.toNat):=by
 obtain ⟨⟨m,c,n⟩,o⟩:=h;subst c;obtain ⟨p,rfl⟩:∃p:Nat,i=p:=⟨i.toNat,om⟩;have f:length (α:=Alw) (List.drop (p+1) (List.take (length (α:=Alw) xs) xs))=length (α:=Alw) xs-(p+1):=by simp
 have g:length (α:=Alw) (jK xs p (List.drop (p+1) (List.take (length (α:=Alw) xs) xs)))=length (α:=Alw) xs:=mJ _ _ _ (by rw[f];omega);have e:p+length (α:=Alw) (List.drop (p+1) (List.take (length (α:=Alw) xs) xs))<=length (α:=Alw) xs:=om;have s:0<=((p+length (α:=Alw) (List.drop (p+1) (List.take (length (α:=Alw) xs) xs))-0:Nat):Int)/\((p+length (α:=Alw) (List.drop (p+1) (List.take (length (α:=Alw) xs) xs))-0:Nat):Int)<=(length (α:=Alw) xs:Int)/\(length (α:=Alw) xs:Int)<=(length (α:=Alw) (jK xs p (List.drop (p+1) (List.take (length (α:=Alw) xs) xs))):Int):=om;(repeat'((conv=>whnf);first|refine Zg fun _=>?_|refine Zn ?_|apply pI|apply pJ|refine Zm ?_|fail));refine Own.r ?_;(repeat'((conv=>whnf);first|refine Zn ?_|refine Zj ?_|apply pI|apply pJ|fail));refine Own.r ?_;(repeat'((conv=>whnf);first|refine Zn ?_|refine Zj ?_|apply pJ|fail));refine Own.l ?_;(repeat refine ZX ?_);refine Own.r ?_;(repeat' first|rfl|apply aA);rw[vL xs (List.drop (p+1) (List.take (length (α:=Alw) xs) xs)) _ p e,cG];exact Ak xs (p:=p) (show p<length (α:=Alw) xs by omega)
def c5184:Con:=rB 184 0 false fun args o K=>match args,o with | [.any,.val (.int .i64 i),.val (.int .i64 j)],.vec 1 ((.pair (.int .i64) (.pair (.int .i64) (.pair (.int .i64) (.pair (.int .i64) (.int .i64)))))) ws 60=>Need ((0<=i/\j=i+1/\i<(length (α:=Alw) ws:Int))/\length (α:=Alw) ws<=4200) (K (.ref 0 1) (.vec 1 (qe) (List.eraseIdx (α:=Alw) ws i.toNat) 60)) | _,_=>False
theorem k5184:aM Tp c5184:=by
 refine mK (enters_of func184 kr rfl) ?_;intro f t m e K g h;split at h
 ·rename_i i j n c;cases c
  first | exact ⟨_,_,h.go,dH si func184 (by simp[ntmps184]) rfl (RI i j n h.ok)⟩ | exact ⟨_,_,h.go,dH si func184 (by simp[ntmps184]) rfl (RI i j m h.ok)⟩
 cases h
def KL:Con:=aV 137 true fun | [.seq (.pair (.int .i64) (.pair (.int .i64) (.pair (.int .i64) (.pair (.int .i64) (.int .i64))))) l,.val (.int .i64 i)],K=>Need (length (α:=Alw) l<=4200) (K (.tup [.seq qe (lB l i).1,I (lB l i).2])) | _,_=>False
theorem k5137:aM Tp KL:=by
 refine kQ {} func137 ntmps137 (kc RH (kc k5184 kn)) fun _ _ h=>?_;split at h;case h_2=>cases h
 rename_i l i;change List Alw at l;refine kb h.go ?_;replace h:=h.ok;have c:lB l i=if i<0\/(length (α:=Alw) l:Int)<=i then ([],6) else (List.eraseIdx (α:=Alw) l i.toNat,0):=rfl;by_cases e:i<0\/(length (α:=Alw) l:Int)<=i
 ·rw[aE e] at c;rw[c];clear c;(repeat'((conv=>whnf);first|refine Zg fun _=>?_|refine Zy ?_|refine Zr (fun _=>?_) fun _=>?_|fail));all_goals first
   | (exfalso;omega)
   | ((conv=>whnf);(repeat' first|exact trivial|rfl|apply aA))
 rw[aD e] at c;rw[c];clear c;have f:(0<=i/\i+1=i+1/\i<(length (α:=Alw) l:Int))/\length (α:=Alw) l<=4200:=om;exact ZRF
theorem b5121 (l:List Int)(h:length (α:=Int) l<=4200):wG Tp [] {} f121 [.seq (.int .i64) l] (.ref 0 1) (.int .i64) l 3:=by
 intro q f;(apply Br.mk<;>intro)
 ·rename_i c;have e:=f c;subst e;exact ZF
 exact ZGF
def KM:Con:=sU 121 fun args K=>match args with | [.seq (.int .i64) l]=>Need (length (α:=Int) l<=4200) (K (.ref 0 1) (.vec 1 ((.int .i64)) (l) 3)) | _=>False
theorem RK:aM Tp KM:=by
 refine nJ (enters_of func121 kr rfl) ?_;intro e K h;split at h
 ·rename_i l;exact ⟨_,_,_,_,_,h.go,fun c=>gJ si func121 (by simp[ntmps121]) c (b5121 l h.ok)⟩
 cases h
theorem RM (i j:Int)(xs:List Int)(h:(0<=i/\j=i+1/\i<(length (α:=Int) xs:Int))/\length (α:=Int) xs<=4200):wF Tp [] {} f179 0 false [.any,I i,I j] (.int .i64) xs 3 (.ref 0 1) (List.eraseIdx (α:=Int) xs i.toNat):=by
 obtain ⟨⟨m,c,n⟩,o⟩:=h;subst c;obtain ⟨p,rfl⟩:∃p:Nat,i=p:=⟨i.toNat,om⟩;have f:length (α:=Int) (List.drop (p+1) (List.take (length (α:=Int) xs) xs))=length (α:=Int) xs-(p+1):=by simp
 have g:length (α:=Int) (jK xs p (List.drop (p+1) (List.take (length (α:=Int) xs) xs)))=length (α:=Int) xs:=mJ _ _ _ (by rw[f];omega);have e:p+length (α:=Int) (List.drop (p+1) (List.take (length (α:=Int) xs) xs))<=length (α:=Int) xs:=om;have s:0<=((p+length (α:=Int) (List.drop (p+1) (List.take (length (α:=Int) xs) xs))-0:Nat):Int)/\((p+length (α:=Int) (List.drop (p+1) (List.take (length (α:=Int) xs) xs))-0:Nat):Int)<=(length (α:=Int) xs:Int)/\(length (α:=Int) xs:Int)<=(length (α:=Int) (jK xs p (List.drop (p+1) (List.take (length (α:=Int) xs) xs))):Int):=om;(repeat'((conv=>whnf);first|refine Zg fun _=>?_|refine Zn ?_|apply pI|apply pJ|refine Zm ?_|fail));refine Own.r ?_;(repeat'((conv=>whnf);first|refine Zn ?_|refine Zj ?_|apply pI|apply pJ|fail));refine Own.r ?_;(repeat'((conv=>whnf);first|refine Zn ?_|refine Zj ?_|apply pJ|fail));refine Own.l ?_;(repeat refine ZX ?_);refine Own.r ?_;(repeat' first|rfl|apply aA);rw[vL xs (List.drop (p+1) (List.take (length (α:=Int) xs) xs)) _ p e,cG];exact Ak xs (p:=p) (show p<length (α:=Int) xs by omega)
def c5179:Con:=rB 179 0 false fun args o K=>match args,o with | [.any,.val (.int .i64 i),.val (.int .i64 j)],.vec 1 ((.int .i64)) ws 3=>Need ((0<=i/\j=i+1/\i<(length (α:=Int) ws:Int))/\length (α:=Int) ws<=4200) (K (.ref 0 1) (.vec 1 ((.int .i64)) (List.eraseIdx (α:=Int) ws i.toNat) 3)) | _,_=>False
theorem k5179:aM Tp c5179:=by
 refine mK (enters_of func179 kr rfl) ?_;intro f t m e K g h;split at h
 ·rename_i i j n c;cases c
  first | exact ⟨_,_,h.go,dH si func179 (by simp[ntmps179]) rfl (RM i j n h.ok)⟩ | exact ⟨_,_,h.go,dH si func179 (by simp[ntmps179]) rfl (RM i j m h.ok)⟩
 cases h
def KN:Con:=aV 132 true fun | [.seq (.int .i64) l,.val (.int .i64 i)],K=>Need (length (α:=Int) l<=4200) (K (.tup [.seq (.int .i64) (lB l i).1,I (lB l i).2])) | _,_=>False
theorem k5132:aM Tp KN:=by
 refine kQ {} func132 ntmps132 (kc RK (kc k5179 kn)) fun _ _ h=>?_;split at h;case h_2=>cases h
 rename_i l i;refine kb h.go ?_;replace h:=h.ok;have c:lB l i=if i<0\/(length (α:=Int) l:Int)<=i then ([],6) else (List.eraseIdx (α:=Int) l i.toNat,0):=rfl;by_cases e:i<0\/(length (α:=Int) l:Int)<=i
 ·rw[aE e] at c;rw[c];clear c;(repeat'((conv=>whnf);first|refine Zg fun _=>?_|refine Zy ?_|refine Zr (fun _=>?_) fun _=>?_|fail));all_goals first
   | (exfalso;omega)
   | ((conv=>whnf);(repeat' first|exact trivial|rfl|apply aA))
 rw[aD e] at c;rw[c];clear c;have f:(0<=i/\i+1=i+1/\i<(length (α:=Int) l:Int))/\length (α:=Int) l<=4200:=om;exact ZRF
theorem b5011 (l:List Bool)(h:length (α:=Bool) l<=4200):wG Tp [] {} f11 [.seq .bool l] (.ref 0 1) .bool l 4:=by
 intro q f;(apply Br.mk<;>intro)
 ·rename_i c;have e:=f c;subst e;exact ZF
 exact ZGF
def EH:Con:=sU 11 fun args K=>match args with | [.seq .bool l]=>Need (length (α:=Bool) l<=4200) (K (.ref 0 1) (.vec 1 (.bool) (l) 4)) | _=>False
theorem KO:aM Tp EH:=by
 refine nJ (enters_of func11 kr rfl) ?_;intro e K h;split at h
 ·rename_i l;exact ⟨_,_,_,_,_,h.go,fun c=>gJ si func11 (by simp[ntmps11]) c (b5011 l h.ok)⟩
 cases h
theorem RN (i j:Int)(xs:List Bool)(h:(0<=i/\j=i+1/\i<(length (α:=Bool) xs:Int))/\length (α:=Bool) xs<=4200):wF Tp [] {} f10 0 false [.any,I i,I j] .bool xs 4 (.ref 0 1) (List.eraseIdx (α:=Bool) xs i.toNat):=by
 obtain ⟨⟨m,c,n⟩,o⟩:=h;subst c;obtain ⟨p,rfl⟩:∃p:Nat,i=p:=⟨i.toNat,om⟩;have f:length (α:=Bool) (List.drop (p+1) (List.take (length (α:=Bool) xs) xs))=length (α:=Bool) xs-(p+1):=by simp
 have g:length (α:=Bool) (jK xs p (List.drop (p+1) (List.take (length (α:=Bool) xs) xs)))=length (α:=Bool) xs:=mJ _ _ _ (by rw[f];omega);have e:p+length (α:=Bool) (List.drop (p+1) (List.take (length (α:=Bool) xs) xs))<=length (α:=Bool) xs:=om;have s:0<=((p+length (α:=Bool) (List.drop (p+1) (List.take (length (α:=Bool) xs) xs))-0:Nat):Int)/\((p+length (α:=Bool) (List.drop (p+1) (List.take (length (α:=Bool) xs) xs))-0:Nat):Int)<=(length (α:=Bool) xs:Int)/\(length (α:=Bool) xs:Int)<=(length (α:=Bool) (jK xs p (List.drop (p+1) (List.take (length (α:=Bool) xs) xs))):Int):=om;(repeat'((conv=>whnf);first|refine Zg fun _=>?_|refine Zn ?_|apply pI|apply pJ|refine Zm ?_|fail));refine Own.r ?_;(repeat'((conv=>whnf);first|refine Zn ?_|refine Zj ?_|apply pI|apply pJ|fail));refine Own.r ?_;(repeat'((conv=>whnf);first|refine Zn ?_|refine Zj ?_|apply pJ|fail));refine Own.l ?_;(repeat refine ZX ?_);refine Own.r ?_;(repeat' first|rfl|apply aA);rw[vL xs (List.drop (p+1) (List.take (length (α:=Bool) xs) xs)) _ p e,cG];exact Ak xs (p:=p) (show p<length (α:=Bool) xs by omega)
def RO:Con:=rB 10 0 false fun args o K=>match args,o with | [.any,.val (.int .i64 i),.val (.int .i64 j)],.vec 1 (.bool) ws 4=>Need ((0<=i/\j=i+1/\i<(length (α:=Bool) ws:Int))/\length (α:=Bool) ws<=4200) (K (.ref 0 1) (.vec 1 (.bool) (List.eraseIdx (α:=Bool) ws i.toNat) 4)) | _,_=>False
theorem k5010:aM Tp RO:=by
 refine mK (enters_of func10 kr rfl) ?_;intro f t m e K g h;split at h
 ·rename_i i j n c;cases c
  first | exact ⟨_,_,h.go,dH si func10 (by simp[ntmps10]) rfl (RN i j n h.ok)⟩ | exact ⟨_,_,h.go,dH si func10 (by simp[ntmps10]) rfl (RN i j m h.ok)⟩
 cases h
def c5199:Con:=aV 199 true fun | [.val (.int .i64 n)],K=>K (.val (.bool false)) | _,_=>False
theorem RP:aM Tp c5199:=by
 refine kQ {} func199 ntmps199 kn fun _ _ h=>?_;split at h;case h_2=>cases h
 rename_i n;refine kb h ?_;have h:¬(¬n=n):=fun q=>q rfl;(conv=>whnf);all_goals exact ⟨fun q=>absurd rfl q,fun q=>Bool.noConfusion q⟩
def RQ:Con:=aV 172 true fun | [.val (.int .i64 n)],K=>K (.val (.bool false)) | _,_=>False
theorem k5172:aM Tp RQ:=by
 refine kQ {} func172 ntmps172 kn fun _ _ h=>?_;split at h;case h_2=>cases h
 rename_i n;refine kb h ?_;have h:¬(¬n=n):=fun q=>q rfl;(conv=>whnf);all_goals exact ⟨fun q=>absurd rfl q,fun q=>Bool.noConfusion q⟩
def c5176:Con:=aV 176 true fun | [.val (.int .i64 a),.val (.int .i64 b)],K=>K (I (Js a b)) | _,_=>False
theorem k5176:aM Tp c5176:=by
 refine kQ {} func176 ntmps176 (kc RP kn) fun _ _ h=>?_;split at h;case h_2=>cases h
 rename_i a b;refine kb h ?_;by_cases c:a<b
 ·rw[show Js a b= -1 from aE c];exact ZRF
 by_cases e:b<a
 ·rw[show Js a b=1 from (aD c).trans (aE e)];exact ZRF
 rw[show Js a b=0 from (aD c).trans (aD e)];exact ZRF
def RR:Con:=aV 171 true fun | [.val (.int .i64 a),.val (.int .i64 b)],K=>K (.bl (a<b) inferInstance) | _,_=>False
theorem k5171:aM Tp RR:=by
 refine kQ {} func171 ntmps171 (kc RP kn) fun _ _ h=>?_;split at h;case h_2=>cases h
 refine kb h ?_;(conv=>whnf)
theorem KP {f:Nat->Bool}{i j:Nat}(h:i<j):Uq f i j=if f ((i+j)/2) then Uq f ((i+j)/2+1) j else Uq f i ((i+j)/2):=by rw[Uq,dif_pos h]
theorem KQ {f:Nat->Bool}{i j:Nat}(h:¬i<j):Uq f i j=i:=by rw[Uq,Gb h]
def c5130:Con:=aV 130 true fun | [.agg [.val (.int .i64 a),.val (.int .i64 b),.val (.int .i64 c),.val (.int .i64 d),.val (.int .i64 e)],.agg [.val (.int .i64 a'),.val (.int .i64 b'),.val (.int .i64 c'),.val (.int .i64 d'),.val (.int .i64 e')]],K=>K (I (JS (a,b,c,d,e) (a',b',c',d',e'))) | _,_=>False
theorem k5130:aM Tp c5130:=by
 refine kQ {} func130 ntmps130 (kc k5176 (kc QY kn)) fun _ _ h=>?_;split at h;case h_2=>cases h
 rename_i a b c d e f g m n s;refine kb h ?_;have o:XI (Js a f) (Js b g) (Js c m) (Js d n)=JS (a,b,c,d,e) (f,g,m,n,s):=by
  rw[J2];show _=if Js a f≠0 then Js a f else if Js b g≠0 then Js b g else if Js c m≠0 then Js c m else Js d n;by_cases u:Js a f=0<;>by_cases x:Js b g=0<;>by_cases y:Js c m=0<;>simp[u,x,y];exact fun q=>q.symm
 rw[<- o];clear o;(repeat'((conv=>whnf);first|apply pI|apply pJ|refine Zl ?_|fail));exact ZF
theorem Zi (a b:Nat):H8 .u64 ((a:Int)+(b:Int)) 1=(((a+b)/2:Nat):Int):=by
 show Int.fdiv _ ((2:Int)^1)= _;rw[Int.fdiv_eq_ediv_of_nonneg _ de];show ((a:Int)+(b:Int))/2= _;omega
theorem b5119 (l:List Int)(x:Int)(h:length (α:=Int) l<=1000000):body Tp [RR,RQ] { asks:=[(0,[])] } true f119 [.seq (.int .i64) l,I x] (.tup [I (Yz l x),.bl ((Yz l x:Int)<(length (α:=Int) l:Int)/\getD (α:=Int) l (Yz l x) 0=x) Cp]):=by
 (repeat'((conv=>whnf);first|refine Zg fun _=>?_|fail));refine Ask.mk ⟨{ X:=Nat × Nat,pre:=fun z=>(z.1<=z.2/\z.2<=length (α:=Int) l)/\Uq (fun h=>decide (getD (α:=Int) l h 0<x)) z.1 z.2=Yz l x,mod:=fun z _=>[(7,I z.1),(8,I z.2)],heap:=fun z H=>H,mu:=fun z=>z.2-z.1 },rfl,?_⟩;(repeat refine ZG ?_);refine ⟨⟨((0,length (α:=Int) l):Nat × Nat),⟨⟨aF _,aI _⟩,rfl⟩,ZE⟩,fun (z:Nat × Nat) hz=>?_⟩;obtain ⟨⟨m,n⟩,e⟩:(z.1<=z.2/\z.2<=length (α:=Int) l)/\Uq (fun h=>decide (getD (α:=Int) l h 0<x)) z.1 z.2=Yz l x:=hz;by_cases f:z.1<z.2
 ·rw[KP f] at e;have e1:=Zi z.1 z.2;by_cases g:getD (α:=Int) l ((z.1+z.2)/2) 0<x
  ·rw[aE (vD g)] at e;(repeat refine ZR ?_);rw[e1];(repeat' first|refine ZR ?_|refine Zg fun _=>?_);refine ⟨(((z.1+z.2)/2+1,z.2):Nat × Nat),by show z.2-((z.1+z.2)/2+1)<z.2-z.1;omega,⟨⟨by show (z.1+z.2)/2+1<=z.2;omega,n⟩,e⟩,ZE⟩
  rw[aD (by simpa using g)] at e;(repeat refine ZR ?_);rw[e1];(repeat' first|refine ZR ?_|refine Zg fun _=>?_);refine ⟨((z.1,(z.1+z.2)/2):Nat × Nat),by show (z.1+z.2)/2-z.1<z.2-z.1;omega,⟨⟨by show z.1<=(z.1+z.2)/2;omega,by show (z.1+z.2)/2<= _;omega⟩,e⟩,ZE⟩
 rw[KQ f] at e;rw[<- e];generalize hMd:((z.1:Int)<(length (α:=Int) l:Int)/\getD (α:=Int) l z.1 0=x)=M;by_cases o:z.1<length (α:=Int) l
 ·by_cases g:getD (α:=Int) l z.1 0=x
  ·have c:M:=by rw[<- hMd];exact ⟨om,g⟩
   clear hMd;(repeat' first|refine ZR ?_|refine Zg fun _=>?_);(conv=>whnf);(repeat' first|exact trivial|rfl|apply aA);all_goals first
    | exact c
    | ((conv=>whnf);exact c)
  have c:¬M:=by rw[<- hMd];exact fun q=>g q.2
  clear hMd;(repeat' first|refine ZR ?_|refine Zg fun _=>?_);(conv=>whnf);(repeat' first|exact trivial|rfl|apply aA);all_goals first
   | exact c
   | ((conv=>whnf);exact c)
 have c:¬M:=by rw[<- hMd];exact fun q=>o om
 clear hMd;(repeat refine ZR ?_);(conv=>whnf);(repeat' first|exact trivial|rfl|apply aA);all_goals first
  | exact c
  | ((conv=>whnf);exact c)
theorem b5126 (l:List Bar)(h:length (α:=Bar) l<=4200):wG Tp [] {} f126 [.seq tB l] (.ref 0 1) tB l 56:=by
 intro q f;(apply Br.mk<;>intro)
 ·rename_i c;have e:=f c;subst e;exact ZF
 exact ZGF
def c5126:Con:=sU 126 fun args K=>match args with | [.seq (.pair (.int .i64) (.pair (.int .i64) (.pair (.int .i64) (.pair (.int .i64) (.pair (.int .i64) (.slice (.pair (.int .i64) (.int .i64)))))))) l]=>Need (length (α:=Bar) l<=4200) (K (.ref 0 1) (.vec 1 (qb) (l) 56)) | _=>False
theorem RS:aM Tp c5126:=by
 refine nJ (enters_of func126 kr rfl) ?_;intro e K h;split at h
 ·rename_i l;exact ⟨_,_,_,_,_,h.go,fun c=>gJ si func126 (by simp[ntmps126]) c (b5126 l h.ok)⟩
 cases h
theorem RT (i j:Int)(xs:List Bar)(h:(0<=i/\j=i+1/\i<(length (α:=Bar) xs:Int))/\length (α:=Bar) xs<=4200):wF Tp [] {} f182 0 false [.any,I i,I j] tB xs 56 (.ref 0 1) (List.eraseIdx (α:=Bar) xs i.toNat):=by
 obtain ⟨⟨m,c,n⟩,o⟩:=h;subst c;obtain ⟨p,rfl⟩:∃p:Nat,i=p:=⟨i.toNat,om⟩;have f:length (α:=Bar) (List.drop (p+1) (List.take (length (α:=Bar) xs) xs))=length (α:=Bar) xs-(p+1):=by simp
 have g:length (α:=Bar) (jK xs p (List.drop (p+1) (List.take (length (α:=Bar) xs) xs)))=length (α:=Bar) xs:=mJ _ _ _ (by rw[f];omega);have e:p+length (α:=Bar) (List.drop (p+1) (List.take (length (α:=Bar) xs) xs))<=length (α:=Bar) xs:=om;have s:0<=((p+length (α:=Bar) (List.drop (p+1) (List.take (length (α:=Bar) xs) xs))-0:Nat):Int)/\((p+length (α:=Bar) (List.drop (p+1) (List.take (length (α:=Bar) xs) xs))-0:Nat):Int)<=(length (α:=Bar) xs:Int)/\(length (α:=Bar) xs:Int)<=(length (α:=Bar) (jK xs p (List.drop (p+1) (List.take (length (α:=Bar) xs) xs))):Int):=om;(repeat'((conv=>whnf);first|refine Zg fun _=>?_|refine Zn ?_|apply pI|apply pJ|refine Zm ?_|fail));refine Own.r ?_;(repeat'((conv=>whnf);first|refine Zn ?_|refine Zj ?_|apply pI|apply pJ|fail));refine Own.r ?_;(repeat'((conv=>whnf);first|refine Zn ?_|refine Zj ?_|apply pJ|fail));refine Own.l ?_;(repeat refine ZX ?_);refine Own.r ?_;(repeat' first|rfl|apply aA);rw[vL xs (List.drop (p+1) (List.take (length (α:=Bar) xs) xs)) _ p e,cG];exact Ak xs (p:=p) (show p<length (α:=Bar) xs by omega)
def c5182:Con:=rB 182 0 false fun args o K=>match args,o with | [.any,.val (.int .i64 i),.val (.int .i64 j)],.vec 1 ((.pair (.int .i64) (.pair (.int .i64) (.pair (.int .i64) (.pair (.int .i64) (.pair (.int .i64) (.slice (.pair (.int .i64) (.int .i64))))))))) ws 56=>Need ((0<=i/\j=i+1/\i<(length (α:=Bar) ws:Int))/\length (α:=Bar) ws<=4200) (K (.ref 0 1) (.vec 1 (qb) (List.eraseIdx (α:=Bar) ws i.toNat) 56)) | _,_=>False
theorem k5182:aM Tp c5182:=by
 refine mK (enters_of func182 kr rfl) ?_;intro f t m e K g h;split at h
 ·rename_i i j n c;cases c
  first | exact ⟨_,_,h.go,dH si func182 (by simp[ntmps182]) rfl (RT i j n h.ok)⟩ | exact ⟨_,_,h.go,dH si func182 (by simp[ntmps182]) rfl (RT i j m h.ok)⟩
 cases h
def KR:Con:=aV 135 false fun | [.seq (.pair (.int .i64) (.pair (.int .i64) (.pair (.int .i64) (.pair (.int .i64) (.pair (.int .i64) (.slice (.pair (.int .i64) (.int .i64)))))))) l,.val (.int .i64 i)],K=>Need (length (α:=Bar) l<=4200) (K (.tup [.seq qb (lB l i).1,I (lB l i).2])) | _,_=>False
theorem k5135:aM Tp KR:=by
 refine kQ {} func135 ntmps135 (kc RS (kc k5182 kn)) fun _ _ h=>?_;split at h;case h_2=>cases h
 rename_i l i;change List Bar at l;refine kb h.go ?_;replace h:=h.ok;have c:lB l i=if i<0\/(length (α:=Bar) l:Int)<=i then ([],6) else (List.eraseIdx (α:=Bar) l i.toNat,0):=rfl;by_cases e:i<0\/(length (α:=Bar) l:Int)<=i
 ·rw[aE e] at c;rw[c];clear c;(repeat'((conv=>whnf);first|refine Zg fun _=>?_|refine Zy ?_|refine Zr (fun _=>?_) fun _=>?_|fail));all_goals first
   | (exfalso;omega)
   | ((conv=>whnf);(repeat' first|exact trivial|rfl|apply aA))
 rw[aD e] at c;rw[c];clear c;have f:(0<=i/\i+1=i+1/\i<(length (α:=Bar) l:Int))/\length (α:=Bar) l<=4200:=om;exact ZRF
def KS:Con:=aV 73 false fun | [.seq (.pair (.int .i64) (.pair (.int .i64) (.pair (.int .i64) (.pair (.int .i64) (.pair (.int .i64) (.slice (.pair (.int .i64) (.int .i64)))))))) l,.val (.int .i64 i),.agg [.val (.int .i64 a),.val (.int .i64 b),.val (.int .i64 c),.val (.int .i64 d),.val (.int .i64 e),.seq (.pair (.int .i64) (.int .i64)) gs]],K=>Need (length (α:=Bar) l<=4100) (K (.tup [.seq qb (kP l i (a,b,c,d,e,gs)).1,I (kP l i (a,b,c,d,e,gs)).2])) | _,_=>False
theorem k5073:aM Tp KS:=by
 refine kQ {} func73 ntmps73 (kc RS kn) fun _ _ h=>?_;split at h;case h_2=>cases h
 rename_i l i a b c d e g;change List Bar at l;change List Gp at g;refine kb h.go ?_;replace h:=h.ok;have f:kP l i (a,b,c,d,e,g)=if i<0\/(length (α:=Bar) l:Int)<i then ([],6) else if i=length (α:=Bar) l then (l++ [(a,b,c,d,e,g)],0) else (List.set (α:=Bar) l i.toNat (a,b,c,d,e,g),0):=rfl;by_cases m:i<0\/(length (α:=Bar) l:Int)<i
 ·rw[aE m] at f;rw[f];clear f;(repeat'((conv=>whnf);first|refine Zg fun _=>?_|refine Zy ?_|refine Zr (fun _=>?_) fun _=>?_|fail));all_goals first
   | (exfalso;omega)
   | ((conv=>whnf);(repeat' first|exact trivial|rfl|apply aA))
 rw[aD m] at f;by_cases n:i=length (α:=Bar) l
 ·rw[aE n] at f;rw[f];clear f;have o:length (α:=Bar) l<=4200:=om;(repeat'((conv=>whnf);first|refine Zg fun _=>?_|refine Zn ?_|apply pI|apply pJ|exact Zf|refine Zc ?_ ?_|refine Zl ?_|refine Zy ?_|refine Zm ?_|fail));exact ZF
 rw[aD n] at f;rw[f];clear f;have o:length (α:=Bar) l<=4200:=om;obtain ⟨k,rfl⟩:∃k:Nat,i=k:=⟨i.toNat,om⟩;exact ZRF
theorem b5009 (l:List dR)(h:length (α:=dR) l<=4200):wG Tp [] {} f9 [.seq zC l] (.ref 0 1) zC l 62:=by
 intro q f;(apply Br.mk<;>intro)
 ·rename_i c;have e:=f c;subst e;exact ZF
 exact ZGF
def EI:Con:=sU 9 fun args K=>match args with | [.seq (.pair (.int .i64) (.pair (.int .i64) (.pair (.pair (.int .i64) (.pair (.int .i64) (.pair (.int .i64) (.pair (.int .i64) (.pair .bool (.pair (.int .i64) (.int .i64))))))) (.pair (.pair (.int .i64) (.pair .str (.pair .str (.pair .str .str)))) (.pair (.pair (.int .i64) (.pair (.int .i64) (.int .i64))) (.pair (.pair (.int .i64) (.pair (.int .i64) (.pair (.int .i64) (.pair (.int .i64) (.pair (.int .i64) (.slice (.pair (.int .i64) (.int .i64)))))))) (.pair (.pair (.int .i64) (.pair (.int .i64) .str)) (.pair (.pair (.int .i64) (.pair (.int .i64) (.pair (.int .i64) (.pair (.int .i64) (.int .i64))))) (.pair (.pair (.int .i64) (.pair (.int .i64) (.pair (.int .i64) (.int .i64)))) (.pair (.int .i64) .str)))))))))) l]=>Need (length (α:=dR) l<=4200) (K (.ref 0 1) (.vec 1 (qa) (l) 62)) | _=>False
theorem KT:aM Tp EI:=by
 refine nJ (enters_of func9 kr rfl) ?_;intro e K h;split at h
 ·rename_i l;exact ⟨_,_,_,_,_,h.go,fun c=>gJ si func9 (by simp[ntmps9]) c (b5009 l h.ok)⟩
 cases h
theorem RU (i j:Int)(xs:List dR)(h:(0<=i/\j=i+1/\i<(length (α:=dR) xs:Int))/\length (α:=dR) xs<=4200):wF Tp [] {} f8 0 false [.any,I i,I j] zC xs 62 (.ref 0 1) (List.eraseIdx (α:=dR) xs i.toNat):=by
 obtain ⟨⟨m,c,n⟩,o⟩:=h;subst c;obtain ⟨p,rfl⟩:∃p:Nat,i=p:=⟨i.toNat,om⟩;have f:length (α:=dR) (List.drop (p+1) (List.take (length (α:=dR) xs) xs))=length (α:=dR) xs-(p+1):=by simp
 have g:length (α:=dR) (jK xs p (List.drop (p+1) (List.take (length (α:=dR) xs) xs)))=length (α:=dR) xs:=mJ _ _ _ (by rw[f];omega);have e:p+length (α:=dR) (List.drop (p+1) (List.take (length (α:=dR) xs) xs))<=length (α:=dR) xs:=om;have s:0<=((p+length (α:=dR) (List.drop (p+1) (List.take (length (α:=dR) xs) xs))-0:Nat):Int)/\((p+length (α:=dR) (List.drop (p+1) (List.take (length (α:=dR) xs) xs))-0:Nat):Int)<=(length (α:=dR) xs:Int)/\(length (α:=dR) xs:Int)<=(length (α:=dR) (jK xs p (List.drop (p+1) (List.take (length (α:=dR) xs) xs))):Int):=om;(repeat'((conv=>whnf);first|refine Zg fun _=>?_|refine Zn ?_|apply pI|apply pJ|refine Zm ?_|fail));refine Own.r ?_;(repeat'((conv=>whnf);first|refine Zn ?_|refine Zj ?_|apply pI|apply pJ|fail));refine Own.r ?_;(repeat'((conv=>whnf);first|refine Zn ?_|refine Zj ?_|apply pJ|fail));refine Own.l ?_;(repeat refine ZX ?_);refine Own.r ?_;(repeat' first|rfl|apply aA);rw[vL xs (List.drop (p+1) (List.take (length (α:=dR) xs) xs)) _ p e,cG];exact Ak xs (p:=p) (show p<length (α:=dR) xs by omega)
def RV:Con:=rB 8 0 false fun args o K=>match args,o with | [.any,.val (.int .i64 i),.val (.int .i64 j)],.vec 1 ((.pair (.int .i64) (.pair (.int .i64) (.pair (.pair (.int .i64) (.pair (.int .i64) (.pair (.int .i64) (.pair (.int .i64) (.pair .bool (.pair (.int .i64) (.int .i64))))))) (.pair (.pair (.int .i64) (.pair .str (.pair .str (.pair .str .str)))) (.pair (.pair (.int .i64) (.pair (.int .i64) (.int .i64))) (.pair (.pair (.int .i64) (.pair (.int .i64) (.pair (.int .i64) (.pair (.int .i64) (.pair (.int .i64) (.slice (.pair (.int .i64) (.int .i64)))))))) (.pair (.pair (.int .i64) (.pair (.int .i64) .str)) (.pair (.pair (.int .i64) (.pair (.int .i64) (.pair (.int .i64) (.pair (.int .i64) (.int .i64))))) (.pair (.pair (.int .i64) (.pair (.int .i64) (.pair (.int .i64) (.int .i64)))) (.pair (.int .i64) .str))))))))))) ws 62=>Need ((0<=i/\j=i+1/\i<(length (α:=dR) ws:Int))/\length (α:=dR) ws<=4200) (K (.ref 0 1) (.vec 1 (qa) (List.eraseIdx (α:=dR) ws i.toNat) 62)) | _,_=>False
theorem k5008:aM Tp RV:=by
 refine mK (enters_of func8 kr rfl) ?_;intro f t m e K g h;split at h
 ·rename_i i j n c;cases c
  first | exact ⟨_,_,h.go,dH si func8 (by simp[ntmps8]) rfl (RU i j n h.ok)⟩ | exact ⟨_,_,h.go,dH si func8 (by simp[ntmps8]) rfl (RU i j m h.ok)⟩
 cases h
def c5124:Con:=aV 124 true fun | [.agg [.val (.int .i64 a),.val (.int .i64 b),.val (.int .i64 c)],.lelem (.val (.int .i64 k):: .val (.int .i64 ix):: .val (.int .i64 sx):: .val (.int .i64 sy):: .val (.int .i64 sr):: .val (.int .i64 su):: .bl sg dsg:: .val (.int .i64 sl):: .val (.int .i64 so):: .val (.int .i64 os):: .str o1:: .str o2:: .str o3:: .str o4:: .val (.int .i64 zk):: .val (.int .i64 zw):: .val (.int .i64 zd):: .val (.int .i64 bw):: .val (.int .i64 bd):: .val (.int .i64 bl):: .val (.int .i64 bc):: .val (.int .i64 bx):: .seq (.pair (.int .i64) (.int .i64)) bg:: .val (.int .i64 lki):: .val (.int .i64 ls):: .str lw:: .val (.int .i64 aw):: .val (.int .i64 ad):: .val (.int .i64 ap):: .val (.int .i64 av):: .val (.int .i64 an):: .val (.int .i64 e1):: .val (.int .i64 e2):: .val (.int .i64 e3):: .val (.int .i64 e4):: .val (.int .i64 nu):: .str tx:: []) 0],K=>K (.bl (a=zk) inferInstance) | _,_=>False
theorem k5124:aM Tp c5124:=by
 refine kQ {} func124 ntmps124 kn fun _ _ h=>?_;split at h;case h_2=>cases h
 refine kb h ?_;(conv=>whnf)
def KU:Con:=aV 123 true fun | [.seq (.pair (.int .i64) (.pair (.int .i64) (.int .i64))) l,.clo 124 [] [.lelem (.val (.int .i64 k):: .val (.int .i64 ix):: .val (.int .i64 sx):: .val (.int .i64 sy):: .val (.int .i64 sr):: .val (.int .i64 su):: .bl sg dsg:: .val (.int .i64 sl):: .val (.int .i64 so):: .val (.int .i64 os):: .str o1:: .str o2:: .str o3:: .str o4:: .val (.int .i64 zk):: .val (.int .i64 zw):: .val (.int .i64 zd):: .val (.int .i64 bw):: .val (.int .i64 bd):: .val (.int .i64 bl):: .val (.int .i64 bc):: .val (.int .i64 bx):: .seq (.pair (.int .i64) (.int .i64)) bg:: .val (.int .i64 lki):: .val (.int .i64 ls):: .str lw:: .val (.int .i64 aw):: .val (.int .i64 ad):: .val (.int .i64 ap):: .val (.int .i64 av):: .val (.int .i64 an):: .val (.int .i64 e1):: .val (.int .i64 e2):: .val (.int .i64 e3):: .val (.int .i64 e4):: .val (.int .i64 nu):: .str tx:: []) 0]],K=>K (I (EC (fun i=>(getD (α:=Siz) l i pB).1=zk) (length (α:=Siz) l))) | _,_=>False
theorem k5123:aM Tp KU:=by
 refine kQ { asks:=[(0,[])] } func123 ntmps123 (kc k5124 kn) fun _ _ h=>?_;split at h;case h_2=>cases h
 rename_i l k W sx sy sr su sg x sl so os o1 o2 o3 o4 c zw zd K F J E bx u y Y Z D z B C A e1 e2 e3 e4 nu tx;change List Siz at l;change List Gp at u;refine kb h ?_;(repeat'((conv=>whnf);first|refine Zg fun _=>?_|fail));refine Ask.mk ⟨{ X:=Nat,pre:=fun i=>i<=length (α:=Siz) l/\∀j,j<i->(¬(getD (α:=Siz) l j pB).1=c),mod:=fun i _=>[(8,I i)],heap:=fun i H=>H,mu:=fun i=>length (α:=Siz) l-i },rfl,?_⟩;(repeat refine ZG ?_);refine ⟨⟨(0:Nat),⟨aF _,fun j s=>absurd s (aT j)⟩,ZE⟩,fun (i:Nat) hi=>?_⟩;obtain ⟨hi,m⟩:i<=length (α:=Siz) l/\∀j,j<i->(¬(getD (α:=Siz) l j pB).1=c):=hi;by_cases g:i<length (α:=Siz) l
 ·by_cases o:(getD (α:=Siz) l i pB).1=c
  ·have e1:=Uy (P:=fun i=>(getD (α:=Siz) l i pB).1=c) g m o;rw[e1];exact ZRF
  have n:=eD (f:=fun j=>¬(getD (α:=Siz) l j pB).1=c) m o;(repeat' first|refine ZR ?_|refine Zg fun _=>?_);refine ⟨(i+1:Nat),by show length (α:=Siz) l-(i+1)<length (α:=Siz) l-i;omega,⟨g,n⟩,ZE⟩
 have e1:EC (fun i=>(getD (α:=Siz) l i pB).1=c) (length (α:=Siz) l)= -1:=Ux fun j s=>m j om;have e:i=length (α:=Siz) l:=om;rw[e1];subst e;exact ZRF
theorem VB {α:Type}(l:List α)(d:α){i:Nat}(h:i<l.length):l.getD i d=l[i]:=by rw[aB,aY h,lK]
theorem O0 {l:List Siz}{k:Int}(h:∀i,i<l.length->¬(l.getD i pB).1=k):Cl l k=l.length:=by
 unfold Cl;rw[List.findIdx_eq_length];intro x c;obtain ⟨i,hi,rfl⟩:=fV c;have:=h i hi;rw[VB _ _ hi] at this;exact decide_eq_false this
theorem O1 (l:List Siz)(k:Int):Cl l k<=l.length:=List.findIdx_le_length
theorem TJ (l:List Siz)(k:Int):(Cl l k<l.length/\EC (fun i=>(l.getD i pB).1=k) l.length=Cl l k)\/(Cl l k=l.length/\EC (fun i=>(l.getD i pB).1=k) l.length= -1):=by
 by_cases h:∀i,i<l.length->¬(l.getD i pB).1=k
 ·exact .inr ⟨O0 h,Ux h⟩
 have c:Cl l k<l.length:=by
  have f:=O1 l k;refine Nat.lt_of_le_of_ne f fun e=>h fun i hi e2=>?_;unfold Cl at e;rw[List.findIdx_eq_length] at e;have:=e (l.getD i pB) (by rw[VB _ _ hi];exact iL hi);rw[decide_eq_false_iff_not] at this;exact this e2
 refine .inl ⟨c,Uy c (fun j g e2=>?_) ?_⟩
 ·have:=List.not_of_lt_findIdx (xs:=l) (p:=fun s=>decide (s.1=k)) g;rw[<- VB l pB] at this;exact absurd this (by rw[vD e2];decide)
 have:=List.findIdx_getElem (xs:=l) (p:=fun s=>decide (s.1=k)) (w:=show List.findIdx (fun s=>decide (s.1=k)) l<l.length from c);rw[<- VB l pB] at this;exact fM this
abbrev RW (l:List Alw)(m:Nat)(a b c d e:Int):Int:=JS ((getD (α:=Alw) l m Cj).1,(getD (α:=Alw) l m Cj).2.1,(getD (α:=Alw) l m Cj).2.2.1,(getD (α:=Alw) l m Cj).2.2.2.1,(getD (α:=Alw) l m Cj).2.2.2.2) (a,b,c,d,e)
def KV:Con:=aV 129 true fun | [.seq (.pair (.int .i64) (.pair (.int .i64) (.pair (.int .i64) (.pair (.int .i64) (.int .i64))))) l,.agg [.val (.int .i64 a),.val (.int .i64 b),.val (.int .i64 c),.val (.int .i64 d),.val (.int .i64 e)],.clo 130 [] []],K=>Need (length (α:=Alw) l<=1000000) (K (.tup [I (EA l (a,b,c,d,e)),.bl ((EA l (a,b,c,d,e):Int)<(length (α:=Alw) l:Int)/\RW l (EA l (a,b,c,d,e)) a b c d e=0) Cp])) | _,_=>False
theorem k5129:aM Tp KV:=by
 refine kQ { asks:=[(0,[])] } func129 ntmps129 (kc k5130 kn) fun _ _ h=>?_;split at h;case h_2=>cases h
 rename_i l a b c d e;change List Alw at l;refine kb h.go ?_;replace h:=h.ok;have n:EA l (a,b,c,d,e)=Uq (fun h=>decide (RW l h a b c d e<0)) 0 (length (α:=Alw) l):=rfl;generalize EA l (a,b,c,d,e)=B at*;(repeat'((conv=>whnf);first|refine Zg fun _=>?_|fail));refine Ask.mk ⟨{ X:=Nat × Nat,pre:=fun z=>(z.1<=z.2/\z.2<=length (α:=Alw) l)/\Uq (fun h=>decide (RW l h a b c d e<0)) z.1 z.2=B,mod:=fun z _=>[(9,I z.1),(10,I z.2)],heap:=fun z H=>H,mu:=fun z=>z.2-z.1 },rfl,?_⟩;(repeat refine ZG ?_);refine ⟨⟨((0,length (α:=Alw) l):Nat × Nat),⟨⟨aF _,aI _⟩,n.symm⟩,ZE⟩,fun (z:Nat × Nat) hz=>?_⟩;obtain ⟨⟨s,u⟩,g⟩:(z.1<=z.2/\z.2<=length (α:=Alw) l)/\Uq (fun h=>decide (RW l h a b c d e<0)) z.1 z.2=B:=hz;clear n;by_cases o:z.1<z.2
 ·rw[KP o] at g;have e1:=Zi z.1 z.2;by_cases m:RW l ((z.1+z.2)/2) a b c d e<0
  ·rw[aE (vD m)] at g;(repeat'((conv=>whnf);first|refine Zn ?_|apply pI|apply pJ|refine Zy ?_|fail));rw[e1];(repeat'((conv=>whnf);first|refine Zg fun _=>?_|refine Zn ?_|refine Zj ?_|apply pI|apply pJ|refine Zy ?_|fail));refine ⟨(((z.1+z.2)/2+1,z.2):Nat × Nat),by show z.2-((z.1+z.2)/2+1)<z.2-z.1;omega,⟨⟨by show (z.1+z.2)/2+1<=z.2;omega,u⟩,g⟩,ZE⟩
  rw[aD (by simpa using m)] at g;(repeat'((conv=>whnf);first|refine Zn ?_|apply pI|apply pJ|refine Zy ?_|fail));rw[e1];(repeat'((conv=>whnf);first|refine Zg fun _=>?_|refine Zj ?_|apply pI|apply pJ|refine Zm ?_|fail));refine ⟨((z.1,(z.1+z.2)/2):Nat × Nat),by show (z.1+z.2)/2-z.1<z.2-z.1;omega,⟨⟨by show z.1<=(z.1+z.2)/2;omega,by show (z.1+z.2)/2<= _;omega⟩,g⟩,ZE⟩
 rw[KQ o] at g;rw[<- g];generalize hMd:((z.1:Int)<(length (α:=Alw) l:Int)/\RW l z.1 a b c d e=0)=M;by_cases x:z.1<length (α:=Alw) l
 ·by_cases m:RW l z.1 a b c d e=0
  ·have f:M:=by rw[<- hMd];exact ⟨om,m⟩
   clear hMd;(repeat'((conv=>whnf);first|refine Zg fun _=>?_|refine Zn ?_|refine Zj ?_|apply pI|apply pJ|refine Zy ?_|refine Zm ?_|fail));(conv=>whnf);(repeat' first|exact trivial|rfl|apply aA);all_goals first
    | exact f
    | ((conv=>whnf);exact f)
    | ((conv=>whnf);exact ⟨fun _=>f,fun _=>m⟩)
  have f:¬M:=by rw[<- hMd];exact fun q=>m q.2
  clear hMd;(repeat'((conv=>whnf);first|refine Zg fun _=>?_|refine Zn ?_|refine Zj ?_|apply pI|apply pJ|refine Zy ?_|refine Zm ?_|fail));(conv=>whnf);(repeat' first|exact trivial|rfl|apply aA);all_goals first
   | exact f
   | ((conv=>whnf);exact f)
   | ((conv=>whnf);exact ⟨fun q=>absurd q m,fun q=>absurd q f⟩)
 have f:¬M:=by rw[<- hMd];exact fun q=>x om
 clear hMd;(repeat'((conv=>whnf);first|apply pI|apply pJ|refine Zm ?_|fail));(conv=>whnf);(repeat' first|exact trivial|rfl|apply aA);all_goals first
  | exact f
  | ((conv=>whnf);exact f)
end RB
end
section
namespace Go.Proofs
open Go.Shelf Go.RowKit Go.Lib Go.Eng
variable {P:Program} {ρ:Ren}
structure InsL (P:Program) (ρ:Ren) (k:Nat):Prop where
 mixed:P.follows .mixedOrders=true
 f22:∃nm:String,P.funcs[ρ.f 22]? =some { Body2.n22 ρ with name:=nm }
 ov:∀(args:Array Value) (w:World),(callFunc (ρ.f 29) args).run P w=((Extern.SlicesOverlaps.overlaps #[(ρ.t 24),(ρ.t 24)] #[(ρ.t 4)] args).run P w).andThen fun v w'=>.ok (.value v) w'
 t0:P.underlying (ρ.t 0)=some (TypeDesc.tuple #[])
 a0:∀w,(isAgg (ρ.t 0)).run P w= .ok false w
 z0:∀w,(Go.sizeOf (ρ.t 0)).run P w= .ok 1 w
 v0:∀w,(zeroValue (ρ.t 0)).run P w= .ok (Value.tuple #[]) w
 t3:P.underlying (ρ.t 3)=some (TypeDesc.int IntKind.i64)
 a3:∀w,(isAgg (ρ.t 3)).run P w= .ok false w
 z3:∀w,(Go.sizeOf (ρ.t 3)).run P w= .ok 1 w
 v3:∀w,(zeroValue (ρ.t 3)).run P w= .ok (Value.int IntKind.i64 0) w
 t4:P.underlying (ρ.t 4)=some (TypeDesc.bool)
 a4:∀w,(isAgg (ρ.t 4)).run P w= .ok false w
 z4:∀w,(Go.sizeOf (ρ.t 4)).run P w= .ok 1 w
 v4:∀w,(zeroValue (ρ.t 4)).run P w= .ok (Value.bool false) w
 z9:∀w,(Go.sizeOf (ρ.t 9)).run P w= .ok k w
 t24:P.underlying (ρ.t 24)=some (TypeDesc.slice (ρ.t 9))
 a24:∀w,(isAgg (ρ.t 24)).run P w= .ok false w
 z24:∀w,(Go.sizeOf (ρ.t 24)).run P w= .ok 1 w
 v24:∀w,(zeroValue (ρ.t 24)).run P w= .ok (Value.slice none 0 0) w
theorem sC (w:World)(y F ty e:TypeId)(g o c m:Nat)(a:Addr)(f u k:Nat)(cur:Array Value)(t:TypeId)(cs:List Value)(E:P.underlying y=some (.slice e))(z:(P.info? e).map (·.size)=some k)(B:w.heap[g]? =some (.cells cur t (0,0)))(D:cs.length=Nat.min f c*k)(s:∀j v,cs[j]? =some v->w.cell? (a.add j)=some v)(n:o+cs.length<=cur.size)(A:∀v∈cs,v.oneCell'=true):
  (Builtin.copy_ #[y,F] ty #[.slice (some ⟨g,o,none⟩) c m,.slice (some a) f u]).run P w=
   .ok (goInt (Nat.min f c)) (w.setRow g (cur.toList.take o++cs++cur.toList.drop (o+cs.length)).toArray):=by
 have C:=run_loadCells_list (P:=P) w a cs s;have x:=run_storeCells_at P g o t cs 0 cur w B (by simpa using n) A;cases hq:P.info? e with
 | none=>simp[hq] at z
 | some i=>
  have hi:i.size=k:=by simpa [hq] using z
  simp[Builtin.copy_,run_underlying E,Builtin.lenOf,Builtin.firstCells,sizeOf,typeInfo,hq,hi,<- D,C,x]
theorem Ha (w:World)(s Y e:TypeId)(D:P.underlying s=some (.slice e))(size:Nat)(E:∀w,(Go.sizeOf e).run P w= .ok size w)(a b:Addr)(u F x J:Nat)(m:a.block≠b.block)(X tB:TypeId)(n W:Nat)(A:w.shape? a.block=some (X,n))(y:n≠0)(B:w.shape? b.block=some (tB,W))(c:∀o,w.frozen? { block:=b.block,off:=o }=false)(K:b.spot=none):
  (Extern.SlicesOverlaps.overlaps #[s,s] #[Y] #[.slice (some a) u F,.slice (some b) x J]).run P w= .ok (.bool false) w:=by
 have z:(a.block != b.block)=true:=by simpa using m
 have g:(a.block==b.block)=false:=by simpa using m
 have f:w.frozen? b=false:=by
  have:=c b.off;rwa [show ({ block:=b.block,off:=b.off }:Addr)=b by cases b;cases K;rfl] at this
 change Sem.run P (α:=Value) (do
  let some t:=(#[s,s]:Array TypeId)[0]? | stuck "slices.overlaps: no parameter types"
  let .slice elem ← underlying t | stuck "slices.overlaps: slice type expected"
  let size <- sizeOf elem
  match (some a:Option Addr),(some b:Option Addr) with
  | some a,some b=>
   if u=0\/x=0\/size=0 then pure (Value.bool false)
   else if a.block != b.block&&(<- frozen a)&&(<- frozen b) then unsupported .addressObserved
   else do
    if a.block != b.block then do
     noView a;noView b
     if ← mayBeOne a b then return Value.bool ((← choose (.extern "sameAddr.stringBytes" 2))==1)
    pure (Value.bool (a.block==b.block&&a.off<b.off+x*size&&b.off<a.off+u*size))
  | _,_=>pure (Value.bool false)) w= _
 by_cases C:u=0\/x=0\/size=0
 ·simp[run_underlying D,E,C]
 cases n with
 | zero=>exact absurd rfl y
 | succ n=>
  cases hq:w.frozen? a<;>cases hq2:w.frozen? { block:=a.block,off:=n+1 }<;>
   simp[run_underlying D,E,C,z,g,frozen,noView,viewAt,mayBeOne,stringish,shape,Sem.run,A,B,f,c,hq,hq2]
set_option maxRecDepth 100000 in
theorem PL (k:Nat)(L:InsL P ρ k)(base:Option Addr)(n c:Nat)(x:Addr)(y:Nat)(w:World)(u:Value)(w':World)(s:∀ty,(Builtin.append_ #[(ρ.t 24),(ρ.t 24)] ty #[.slice base n c,.slice (some x) 1 y]).run P w= .ok u w')(C:base=none->n=0)(m:∀a,base=some a->a.spot=none)(hc:n<=c)(hn:n<=140737488355328):
  Calls P (ρ.f 22) #[.slice base n c,.int .i64 n,.slice (some x) 1 y] w fun e W=>e= .returned u/\W=w':=by
 have t0:=L.t0;have K:=L.a0;have z0:=L.z0;have v0:=L.v0;have t3:=L.t3;have X:=L.a3;have z3:=L.z3;have v3:=L.v3;have t4:=L.t4;have Y:=L.a4;have z4:=L.z4;have v4:=L.v4;have z9:=L.z9;have D:=L.t24;have z:=L.a24;have J:=L.z24;have F:=L.v24;have u0:=run_underlying L.t0;have u3:=run_underlying L.t3;have u4:=run_underlying L.t4;have E:=run_underlying L.t24;have o:=L.mixed;obtain ⟨nm,g⟩:=L.f22
 go_enter g,Body2.n22_ntmps ρ
 cases base with
 | none=>
  have B:=C rfl;subst B
  go_wp2_with (at_builtin;refine Lib.wpList_append_run _ rfl _ _ _ _ rfl _ _ rfl rfl _ _ (s _) ?_)
  go_ret
  exact ⟨rfl,rfl⟩
 | some a=>
  obtain ⟨Z,ao,A⟩:=a;have:=m _ rfl;simp only at this;subst this
  go_wp2_with (at_builtin;refine Lib.wpList_append_run _ rfl _ _ _ _ rfl _ _ rfl rfl _ _ (s _) ?_)
  all_goals (go_ret;exact ⟨rfl,rfl⟩)
end Go.Proofs
end
section
namespace Go.Proofs
open Go.Shelf Go.RowKit Go.Lib Go.Eng
variable {P:Program} {ρ:Ren}
structure Kp (p:Prop):Prop where
 ok:p
set_option maxRecDepth 100000 in
theorem G8 (k:Nat)(hk:0<k)(L:InsL P ρ k)(b n c i:Nat)(u:Addr)(vc:Nat)(cs vs:List Value)(cur:Array Value)(e:TypeId)(w:World)(hi:i<n)(X:n+1<=c)(c0:c<=9223372036854775807)(a':u.block≠b)(g:w.heap[b]? =some (.cells cur e (0,0)))(a5:c*k<=cur.size)(F:cs=(cur.toList.take (n*k)).drop (i*k))(Y:vs.length=k)(b1:∀j v,vs[j]? =some v->w.cell? (u.add j)=some v)(b3:∀v∈cs,v.oneCell'=true)(b4:∀v∈vs,v.oneCell'=true)(a8:(P.info? (ρ.t 9)).map (·.size)=some k):
  Calls P (ρ.f 22) #[.slice (some ⟨b,0,none⟩) n c,.int .i64 i,.slice (some u) 1 vc] w fun en w'=>
   en= .returned (.slice (some ⟨b,0,none⟩) (n+1) c)/\
   ∃m:Array Value,m=(cur.toList.take ((i*k+k))++cs++cur.toList.drop ((i*k+k)+cs.length)).toArray/\
   w'=(w.drew.setRow b m).setRow b (m.toList.take (i*k)++vs++m.toList.drop (i*k+vs.length)).toArray:=by
 have t0:=L.t0;have a0:=L.a0;have z0:=L.z0;have v0:=L.v0;have t3:=L.t3;have a3:=L.a3;have z3:=L.z3;have v3:=L.v3;have t4:=L.t4;have a4:=L.a4;have z4:=L.z4;have v4:=L.v4;have z9:=L.z9;have d5:=L.t24;have c3:=L.a24;have d8:=L.z24;have d7:=L.v24;have u0:=run_underlying L.t0;have u3:=run_underlying L.t3;have u4:=run_underlying L.t4;have d6:=run_underlying L.t24;have d4:¬((i:Int)=(n:Int)):=om
 have a9:∃v,w.cell? u=some v:=⟨vs[0]'(by omega),by
  have:=b1 0 _ (aY om)
  rwa [Addr.add_zero'] at this⟩
 obtain ⟨tA,kA,b9,b7⟩:∃tA kA,w.shape? u.block=some (tA,kA)/\kA≠0:=by
  obtain ⟨v,hv⟩:=a9;unfold World.cell? at hv;cases hq:w.heap[u.block]? with
  | none=>simp[hq] at hv
  | some o=>
   cases o with
   | cells arr t fr=>
    refine ⟨t,arr.size,by simp[World.shape?,hq],?_⟩;intro h0;simp[hq] at hv;have:=(aH.1 hv.2).1;omega
   | _=>simp[hq] at hv
 have a7:w.shape? b=some (e,cur.size):=by simp[World.shape?,g]
 have a2:∀o,w.frozen? { block:=b,off:=o }=false:=fun o=>by simp[World.frozen?,g]
 have b8:∀o lb cb,(callFunc (ρ.f 29) #[.slice (some u) 1 vc,.slice (some ⟨b,o,none⟩) lb cb]).run P w= .ok (.value (.bool false)) w:=fun o lb cb=>by
  rw[L.ov,
   Ha w (ρ.t 24) (ρ.t 4) (ρ.t 9) L.t24 k L.z9 u ⟨b,o,none⟩ 1 vc lb cb a' tA e kA cur.size b9 b7 a7 a2 rfl]
  rfl
 have hC:n*k+k<=c*k:=by
  have:=aN k X;rwa [bI,cX] at this
 have hI:i*k+k<=n*k:=by
  have:=aN k (show i+1<=n by omega);rwa [bI,cX] at this
 have J:cs.length=(n-i)*k:=by rw[F,bT,aW,Nat.sub_mul];simp;omega
 have x:cs.length=n*k-i*k:=by rw[J,Nat.sub_mul]
 have b':=L.mixed;have d2:IntKind.i64.wrap ((i:Int)+1)=(i:Int)+1:=by rw[IntKind.wrap_i64];omega
 have d3:IntKind.i64.wrap ((n:Int)+1)=(n:Int)+1:=by rw[IntKind.wrap_i64];omega
 have c4:(0:Int)<=(i:Int)+1:=om;have c':i<=n:=om;have d1:((i:Int)+1).toNat=i+1:=om;have c2:((n:Int)+1).toNat=n+1:=om;have c5:¬(c=i+1):=om;have c6:(i:Int)<=(n:Int)+1:=om;have c7:¬(c=i):=om;have c8:¬((c:Int)<(n:Int)+1):=om;have C:∀j v,cs[j]? =some v->w.drew.cell? ((⟨b,i*k,none⟩:Addr).add j)=some v:=fun j v K=>by
  rw[Addr.add_lit];have d0:=(aK.1 K).1;rw[F,aX,aL] at K;split at K
  ·show w.cell? _= _;simp only[World.cell?,g];rw[<- eO];exact K
  cases K
 have A:∀Z E sc,(Builtin.copy_ #[(ρ.t 24),(ρ.t 24)] Z #[.slice (some ⟨b,(i+1)*k,none⟩) (n-i) E,.slice (some ⟨b,i*k,none⟩) (n+1-i) sc]).run P w.drew= .ok (goInt (n-i:Nat)) (w.drew.setRow b (cur.toList.take ((i*k+k))++cs++cur.toList.drop ((i*k+k)+cs.length)).toArray):=fun Z E sc=>by
  have s:Nat.min (n+1-i) (n-i)=n-i:=by simp only[Nat.min_def];split<;>omega
  have:=sC w.drew (ρ.t 24) (ρ.t 24) Z (ρ.t 9) b ((i*k+k)) (n-i) E ⟨b,i*k,none⟩ (n+1-i) sc k cur e cs L.t24 a8 g (by rw[s,J]) C (by rw[x];omega) b3;rw[s] at this;rw[show (i+1)*k=i*k+k by rw[bI,cX]];exact this
 obtain ⟨m,z⟩:∃m,m=(cur.toList.take ((i*k+k))++cs++cur.toList.drop ((i*k+k)+cs.length)).toArray:=⟨_,rfl⟩;rw[<- z] at A;have a1:m.size=cur.size:=by
  rw[z];simp;rw[x];omega
 have y:(w.drew.setRow b m).heap[b]? =some (.cells m e (0,0)):=setRow_heap w.drew b cur m e (0,0) g;have B:∀(W:World),W.heap[b]? =some (.cells m e (0,0))->(∀j v,vs[j]? =some v->W.cell? (u.add j)=some v)->∀Z E,(Builtin.copy_ #[(ρ.t 24),(ρ.t 24)] Z #[.slice (some ⟨b,i*k,none⟩) (n+1-i) E,.slice (some u) 1 vc]).run P W= .ok (goInt (1:Nat)) (W.setRow b (m.toList.take (i*k)++vs++m.toList.drop (i*k+vs.length)).toArray):=fun W hW b5 Z E=>by
  have s:Nat.min 1 (n+1-i)=1:=by simp only[Nat.min_def];split<;>omega
  have:=sC W (ρ.t 24) (ρ.t 24) Z (ρ.t 9) b (i*k) (n+1-i) E u 1 vc k m e vs L.t24 a8 hW (by rw[s,Y,cX]) b5 (by rw[Y];omega) b4;rw[s] at this;exact this
 have D:∀j v,vs[j]? =some v->(w.drew.setRow b m).cell? (u.add j)=some v:=fun j v K=>by
  have b6:(u.add j).block≠b:=by
   have:(u.add j).block=u.block:=by unfold Addr.add;split<;>rfl
   rw[this];exact a'
  rw[World.cell?_of_block (setRow_other w.drew b (u.add j).block m b6)];exact b1 j v K
 have c1:=B _ y D;clear B y D;have a6:=Kp.mk z;clear z F J x a1 C hC hI a5 a9 a7 a2 g;obtain ⟨nm,b2⟩:=L.f22
 go_enter b2,Body2.n22_ntmps ρ
 go_wp2_with (simp only[b8])
 go_region_law_o (refine step_copy_runI rfl _ _ (ρ.t 24) (ρ.t 24) rfl _ _ (by simp[Act.eval,Act.put]) (by simp[Act.eval,Act.put]) (A _ _ _) ?_)
 go_wp2
 go_ret
 exact ⟨rfl,m,a6.ok,by rw[Y,bW]⟩
end Go.Proofs
end

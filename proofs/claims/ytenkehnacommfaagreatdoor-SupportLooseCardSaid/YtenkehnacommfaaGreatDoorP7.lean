/-
  Part 7: a symbolic executor over the model, contracts of functions and plain laws.
-/
import Derived.Test.YtenkehnacommfaaGreatDoorP6
set_option linter.unusedVariables false
set_option linter.unusedSimpArgs false
set_option maxRecDepth 10000
set_option maxHeartbeats 2000000
section
open Go Go.Proofs Go.Eng Go.Shelf IB Go.Lib Go.RowKit
namespace RB
noncomputable def aHt:Con:=aI 70 true fun args K=>match args with
 | [.seq (.pair (.int .i64) (.pair (.pair .str (.pair .str .str)) (.pair (.pair .str (.pair .str .str)) (.pair (.int .i64) (.int .i64))))) l,.clo 42 [] []]=>K (I (ixG badX l))
 | [.seq (.pair (.int .i64) (.pair (.pair .str (.pair .str .str)) (.pair (.pair .str (.pair .str .str)) (.pair (.int .i64) (.int .i64))))) l,.clo 121 [] [.lelem [.seq (.int .i64) ks] 0,.lelem [.str q1,.str q2,.str q3] 0]]=>Need ((∀j,j<l.length→okS (l.getD j lin0).2.1∧okS (l.getD j lin0).2.2.1)∧okS (q1,q2,q3)) (K (I (ixG (onP ks (q1,q2,q3)) l)))
 | _=>False
theorem aRj:aG Tryz.prog aHt:=by
 refine aB rfl (enters_of Tryz.func70 (by kernel_rfl) rfl) ?_
 intro args K h
 simp only[aHt] at h
 split at h
 ·rename_i l;exact ⟨_,h,aA (by simp[k3042]) Tryz.func70 (by simp[Tryz.ntmps70]) rfl (b70a l)⟩
 ·rename_i l ks q1 q2 q3;exact ⟨_,h.go,aA (by simp[k3121]) Tryz.func70 (by simp[Tryz.ntmps70]) rfl (b70b l ks q1 q2 q3 h.ok)⟩
 ·exact h.elim
theorem b41a (l:List Lin):body Tryz.prog [aHt] {} true Tryz.f41 [.seq tLin l,.clo 42 [] []] (.bl (0≤ixG badX l) inferInstance):=by
 (conv=>whnf)
theorem b41b (l:List Lin) (ks:List Int) (q1 q2 q3:List UInt8) (h0:(∀j,j<l.length→okS (l.getD j lin0).2.1∧okS (l.getD j lin0).2.2.1)∧okS (q1,q2,q3)):body Tryz.prog [aHt] {} true Tryz.f41 [.seq tLin l,.clo 121 [] [.lelem [.seq (.int .i64) ks] 0,.lelem [S q1,S q2,S q3] 0]] (.bl (0≤ixG (onP ks (q1,q2,q3)) l) inferInstance):=by
 (repeat' first|refine ZR ?_|fail)
 (conv=>whnf)
noncomputable def aCy:Con:=aI 41 true fun args K=>match args with
 | [.seq (.pair (.int .i64) (.pair (.pair .str (.pair .str .str)) (.pair (.pair .str (.pair .str .str)) (.pair (.int .i64) (.int .i64))))) l,.clo 42 [] []]=>K (.bl (0≤ixG badX l) inferInstance)
 | [.seq (.pair (.int .i64) (.pair (.pair .str (.pair .str .str)) (.pair (.pair .str (.pair .str .str)) (.pair (.int .i64) (.int .i64))))) l,.clo 121 [] [.lelem [.seq (.int .i64) ks] 0,.lelem [.str q1,.str q2,.str q3] 0]]=>Need ((∀j,j<l.length→okS (l.getD j lin0).2.1∧okS (l.getD j lin0).2.2.1)∧okS (q1,q2,q3)) (K (.bl (0≤ixG (onP ks (q1,q2,q3)) l) inferInstance))
 | _=>False
theorem aMa:aG Tryz.prog aCy:=by
 refine aB rfl (enters_of Tryz.func41 (by kernel_rfl) rfl) ?_
 intro args K h
 simp only[aCy] at h
 split at h
 ·rename_i l;exact ⟨_,h,aA (by simp[aRj]) Tryz.func41 (by simp[Tryz.ntmps41]) rfl (b41a l)⟩
 ·rename_i l ks q1 q2 q3;exact ⟨_,h.go,aA (by simp[aRj]) Tryz.func41 (by simp[Tryz.ntmps41]) rfl (b41b l ks q1 q2 q3 h.ok)⟩
 ·exact h.elim
def okLs (l:List Lin):Prop:=∀j,j<l.length→okS (l.getD j lin0).2.1∧okS (l.getD j lin0).2.2.1
theorem b3087 (l:List Lin) (q1 q2 q3:List UInt8) (ks:List Int) (h0:okLs l∧okS (q1,q2,q3)):body Tryz.prog [aCy] {} true Tryz.f87 [.seq tLin l,.agg [S q1,S q2,S q3],.seq (.int .i64) ks] (.bl (latP l (q1,q2,q3) ks) (Classical.propDecidable _)):=by
 have h1:(∀j,j<l.length→okS (l.getD j lin0).2.1∧okS (l.getD j lin0).2.2.1)∧okS (q1,q2,q3):=h0
 have e:(0≤ixG (onP ks (q1,q2,q3)) l)↔latP l (q1,q2,q3) ks:=iY _ l lin0
 generalize latP l (q1,q2,q3) ks=M at e ⊢
 (repeat' first|refine ZR ?_|fail)
 (conv=>whnf)
 all_goals exact e
def aMb:Con:=aI 87 true fun args K=>match args with | [.seq (.pair (.int .i64) (.pair (.pair .str (.pair .str .str)) (.pair (.pair .str (.pair .str .str)) (.pair (.int .i64) (.int .i64))))) l,.agg [.str q1,.str q2,.str q3],.seq (.int .i64) ks]=>Need (okLs l∧okS (q1,q2,q3)) (K (.bl (latP l (q1,q2,q3) ks) (Classical.propDecidable _))) | _=>False
theorem k3087:aG Tryz.prog aMb:=by
 refine aB rfl (enters_of Tryz.func87 (by kernel_rfl) rfl) ?_
 intro args K h
 simp only[aMb] at h
 split at h
 ·rename_i l q1 q2 q3 ks;exact ⟨_,h.go,aA (by simp[aMa]) Tryz.func87 (by simp[Tryz.ntmps87]) rfl (b3087 l q1 q2 q3 ks h.ok)⟩
 ·exact h.elim
theorem b3049 (ls:List Lin) (k f o:Int) (a b c d e g:List UInt8) (w t:Int) (pl:Prop) (dp:Decidable pl) (h0:okLs ls∧okS (a,b,c)∧okS (d,e,g)):body Tryz.prog [aHn,aHm,aMb] {} true Tryz.f49 [.seq tLin ls,.agg [I k,I f,I o,S a,S b,S c,S d,S e,S g,I w,I t],.bl pl dp] (.bl (walP ls (k,f,o,(a,b,c),(d,e,g),w,t) pl) (Classical.propDecidable _)):=by
 have g1:okLs ls∧okS (a,b,c):=⟨h0.1,h0.2.1⟩
 have g2:okLs ls∧okS (d,e,g):=⟨h0.1,h0.2.2⟩
 by_cases h1:k=10
 ·have hw:walP ls (k,f,o,(a,b,c),(d,e,g),w,t) pl:=by unfold walP;rw[if_pos h1];trivial
  generalize walP ls (k,f,o,(a,b,c),(d,e,g),w,t) pl=M at*
  (repeat' first|refine ZR ?_|fail)
  (conv=>whnf)
  all_goals exact hw
 by_cases h2:sloP k∨hipP k
 ·have hw:walP ls (k,f,o,(a,b,c),(d,e,g),w,t) pl↔¬pl∧latP ls (a,b,c) [7]:=by unfold walP;rw[if_neg h1,if_pos h2]
  generalize walP ls (k,f,o,(a,b,c),(d,e,g),w,t) pl=M at*
  by_cases hp:pl
  ·have hw':¬M:=fun h=>(hw.1 h).1 hp
   by_cases h3:sloP k
   ·(repeat' first|refine ZR ?_|fail)
    (conv=>whnf)
    all_goals exact hw'
   ·have h4:hipP k:=h2.resolve_left h3
    (repeat' first|refine ZR ?_|fail)
    (conv=>whnf)
    all_goals exact hw'
  ·have hw':latP ls (a,b,c) [7]↔M:=⟨fun h=>hw.2 ⟨hp,h⟩,fun h=>(hw.1 h).2⟩
   by_cases h3:sloP k
   ·(repeat' first|refine ZR ?_|fail)
    (conv=>whnf)
    all_goals exact hw'
   ·have h4:hipP k:=h2.resolve_left h3
    (repeat' first|refine ZR ?_|fail)
    (conv=>whnf)
    all_goals exact hw'
 have h3:¬sloP k:=fun h=>h2 (.inl h)
 have h4:¬hipP k:=fun h=>h2 (.inr h)
 by_cases h5:k=8∨k=9
 ·have hw:walP ls (k,f,o,(a,b,c),(d,e,g),w,t) pl↔latP ls (a,b,c) [4,5,8]∨latP ls (d,e,g) [4,5,8]:=by unfold walP;rw[if_neg h1,if_neg h2,if_pos h5]
  generalize walP ls (k,f,o,(a,b,c),(d,e,g),w,t) pl=M at*
  have hm:latP ls (a,b,c) [4,5,8]→M:=fun h=>hw.2 (.inl h)
  have hn:¬latP ls (a,b,c) [4,5,8]→(latP ls (d,e,g) [4,5,8]↔M):=fun h=>⟨fun q=>hw.2 (.inr q),fun q=>(hw.1 q).resolve_left h⟩
  by_cases h6:k=8
  ·(repeat' first|refine ZR ?_|fail)
   (refine Br.mk (fun _=>?_) (fun _=>?_))
   ·skip
    (conv=>whnf)
    all_goals (rename_i q;exact hm q)
   ·(repeat' first|refine ZR ?_|fail)
    (conv=>whnf)
    all_goals (rename_i q;exact hn q)
  ·have h7:k=9:=by omega
   (repeat' first|refine ZR ?_|fail)
   (refine Br.mk (fun _=>?_) (fun _=>?_))
   ·skip
    (conv=>whnf)
    all_goals (rename_i q;exact hm q)
   ·(repeat' first|refine ZR ?_|fail)
    (conv=>whnf)
    all_goals (rename_i q;exact hn q)
 ·have hw:¬walP ls (k,f,o,(a,b,c),(d,e,g),w,t) pl:=by unfold walP;rw[if_neg h1,if_neg h2,if_neg h5];exact id
  generalize walP ls (k,f,o,(a,b,c),(d,e,g),w,t) pl=M at*
  (repeat' first|refine ZR ?_|fail)
  (conv=>whnf)
  all_goals exact hw
def aHu:Con:=aI 49 true fun args K=>match args with | [.seq (.pair (.int .i64) (.pair (.pair .str (.pair .str .str)) (.pair (.pair .str (.pair .str .str)) (.pair (.int .i64) (.int .i64))))) ls,.agg [.val (.int .i64 k),.val (.int .i64 f),.val (.int .i64 o),.str a,.str b,.str c,.str d,.str e,.str g,.val (.int .i64 w),.val (.int .i64 t)],.bl pl dp]=>Need (okLs ls∧okS (a,b,c)∧okS (d,e,g)) (K (.bl (walP ls (k,f,o,(a,b,c),(d,e,g),w,t) pl) (Classical.propDecidable _))) | _=>False
theorem aRk:aG Tryz.prog aHu:=by
 refine aB rfl (enters_of Tryz.func49 (by kernel_rfl) rfl) ?_
 intro args K h
 simp only[aHu] at h
 split at h
 ·rename_i ls k f o a b c d e g w t pl dp;exact ⟨_,h.go,aA (by simp[aRc,aRb,k3087]) Tryz.func49 (by simp[Tryz.ntmps49]) rfl (b3049 ls k f o a b c d e g w t pl dp h.ok)⟩
 ·exact h.elim
def badY (m:Mem):Prop:=¬memE m=0
theorem b3076 (l:List Mem):body Tryz.prog [aLr] { asks:=[(0,[])] } true Tryz.f76 [.seq tMem l,.clo 45 [] []] (I (ixG badY l)):=by
 (repeat'((conv=>whnf);first|refine Zg fun _=>?_|fail))
 refine Ask.mk ⟨{ X:=Nat,pre:=fun i=>i≤l.length∧∀j,j<i→¬badY (l.getD j mem0),mod:=fun i _=>[(8,I i)],heap:=fun i H=>H,mu:=fun i=>l.length-i },rfl,?_⟩
 (repeat' first|refine ZG ?_|fail)
 refine ⟨⟨(0:Nat),⟨Nat.zero_le _,fun j hj=>by omega⟩,by (repeat' first|exact trivial|rfl|refine And.intro ?_ ?_)⟩,fun (i:Nat) hi=>?_⟩
 obtain ⟨hi,hp⟩:=hi
 by_cases hlt:i<l.length
 ·(repeat' first|refine ZR ?_|refine Zg fun _=>?_)
  (refine Br.mk (fun _=>?_) (fun _=>?_))
  ·rename_i hb
   have e:=oN badY mem0 hlt hb hp
   rw[e]
   (conv=>whnf)
   (repeat' first|rfl|refine And.intro ?_ ?_)
  ·rename_i hb
   (repeat' first|refine ZR ?_|fail)
   refine ⟨(i+1:Nat),by show l.length-(i+1)<l.length-i;omega,⟨hlt,fun j hj=>?_⟩,by (repeat' first|exact trivial|rfl|refine And.intro ?_ ?_)⟩
   by_cases e:j=i
   ·subst e;exact hb
   ·exact hp j (by omega)
 ·have e:i=l.length:=by omega
  subst e
  rw[oO badY mem0 hp]
  (repeat' first|refine ZR ?_|fail)
  (conv=>whnf)
  (repeat' first|rfl|refine And.intro ?_ ?_)
def aMc:Con:=aI 76 true fun args K=>match args with | [.seq (.pair (.int .i64) (.pair (.int .i64) (.pair (.int .i64) (.pair (.pair .str (.pair .str .str)) (.pair (.pair .str (.pair .str .str)) (.pair (.int .i64) (.int .i64))))))) l,.clo 45 [] []]=>K (I (ixG badY l)) | _=>False
theorem k3076:aG Tryz.prog aMc:=by
 refine aB rfl (enters_of Tryz.func76 (by kernel_rfl) rfl) ?_
 intro args K h
 simp only[aMc] at h
 split at h
 ·rename_i l;exact ⟨_,h,aA (by simp[k3045]) Tryz.func76 (by simp[Tryz.ntmps76]) rfl (b3076 l)⟩
 ·exact h.elim
theorem b3044 (l:List Mem):body Tryz.prog [aMc] {} true Tryz.f44 [.seq tMem l,.clo 45 [] []] (.bl (0≤ixG badY l) inferInstance):=by
 (conv=>whnf)
def aHv:Con:=aI 44 true fun args K=>match args with | [.seq (.pair (.int .i64) (.pair (.int .i64) (.pair (.int .i64) (.pair (.pair .str (.pair .str .str)) (.pair (.pair .str (.pair .str .str)) (.pair (.int .i64) (.int .i64))))))) l,.clo 45 [] []]=>K (.bl (0≤ixG badY l) inferInstance) | _=>False
theorem aRl:aG Tryz.prog aHv:=by
 refine aB rfl (enters_of Tryz.func44 (by kernel_rfl) rfl) ?_
 intro args K h
 simp only[aHv] at h
 split at h
 ·rename_i l;exact ⟨_,h,aA (by simp[k3076]) Tryz.func44 (by simp[Tryz.ntmps44]) rfl (b3044 l)⟩
 ·exact h.elim
def othI (i j:Nat):Nat:=if j<i then j else j+1
def othN (i k:Nat):Nat:=if k≤i then k else k-1
theorem aR3 {i k:Nat} (h:¬k=i):othN i (k+1)=othN i k+1∧othI i (othN i k)=k:=by
 unfold othN othI
 by_cases hc:k<i
 ·rw[if_pos (show k+1≤i by omega),if_pos (show k≤i by omega),if_pos hc];exact ⟨rfl,rfl⟩
 ·rw[if_neg (show ¬k+1≤i by omega),if_neg (show ¬k≤i by omega),if_neg (show ¬k-1<i by omega)];omega
theorem aR4 (i:Nat):othN i i=i∧othN i (i+1)=i:=by unfold othN;rw[if_pos (by omega),if_neg (by omega)];exact ⟨rfl,by omega⟩
theorem aMd {i k n:Nat} (hi:i<n) (hk:k<n) (h:¬k=i):othN i k<n-1:=by unfold othN;split<;>omega
abbrev agM (m:Mem):SV:=.agg [I m.1,I m.2.1,I m.2.2.1,S m.2.2.2.1.1,S m.2.2.2.1.2.1,S m.2.2.2.1.2.2,S m.2.2.2.2.1.1,S m.2.2.2.2.1.2.1,S m.2.2.2.2.1.2.2,I m.2.2.2.2.2.1,I m.2.2.2.2.2.2]
abbrev itO (l:List Mem) (i:Nat) (k:Nat):List SV:=[I (othI i k:Nat),agM (l.getD (othI i k) mem0)]
theorem b86n (l:List Mem) (i:Nat) (h:i<l.length):vP Tryz.prog [] { asks:=[(0,[])] } Tryz.f86 [.lelem [.seq tMem l] 0,.wcel i] (l.length-1) (itO l i):=by
 (repeat'((conv=>whnf);first|refine Zg fun _=>?_|fail))
 refine Ask.mk ⟨{ X:=Nat,pre:=fun k=>k≤l.length,mod:=fun k _=>[(8,I k)],heap:=fun k H=>[.yst (some (othN i k)) (l.length-1) (itO l i)],mu:=fun k=>l.length-k },rfl,?_⟩
 (repeat' first|refine ZG ?_|fail)
 refine ⟨⟨(0:Nat),Nat.zero_le _,by (repeat' first|exact trivial|rfl|refine And.intro ?_ ?_)⟩,fun (k:Nat) hk=>?_⟩
 have hk:k≤l.length:=hk
 by_cases hlt:k<l.length
 ·by_cases hc:k=i
  ·subst hc
   obtain ⟨h1,h2⟩:=aR4 k
   (repeat' first|refine ZR ?_|refine Zg fun _=>?_)
   refine ⟨(k+1:Nat),by show l.length-(k+1)<l.length-k;omega,hlt,?_⟩
   (repeat' first|exact trivial|rfl|refine And.intro ?_ ?_)
   all_goals rw[h1,h2]
  ·obtain ⟨h1,h2⟩:=aR3 hc
   have hne:¬(k:Int)=(i:Int):=by omega
   have hlt2:othN i k<l.length-1:=aMd h hlt hc
   have hit:itO l i (othN i k)= [I (k:Nat),agM (l.getD k mem0)]:=by unfold itO;rw[h2]
   (repeat' first|refine ZR ?_|refine Zg fun _=>?_)
   refine Need.mk (by rw[hit];(repeat' first|exact trivial|rfl|refine And.intro ?_ ?_)) ?_
   refine Two.mk ?_ ?_
   ·(repeat' first|refine ZR ?_|fail)
    refine ⟨(k+1:Nat),by show l.length-(k+1)<l.length-k;omega,hlt,?_⟩
    (repeat' first|exact trivial|rfl|refine And.intro ?_ ?_)
    all_goals rw[h1]
   ·skip
    (conv=>whnf)
    trivial
 ·have e:k=l.length:=by omega
  subst e
  have h1:othN i l.length=l.length-1:=by unfold othN;rw[if_neg (by omega)]
  (repeat' first|refine ZR ?_|fail)
  (conv=>whnf)
  all_goals rw[h1]
theorem b3086 (l:List Mem) (i:Int) (h:0≤i∧i<l.length):vP Tryz.prog [] { asks:=[(0,[])] } Tryz.f86 [.lelem [.seq tMem l] 0,.wcel i] (l.length-1) (itO l i.toNat):=by
 obtain ⟨n,rfl⟩:=Int.eq_ofNat_of_zero_le h.1
 exact b86n l n (by omega)
def aHw:Con:=aI 86 false fun args K=>match args with | [.lelem [.seq (.pair (.int .i64) (.pair (.int .i64) (.pair (.int .i64) (.pair (.pair .str (.pair .str .str)) (.pair (.pair .str (.pair .str .str)) (.pair (.int .i64) (.int .i64))))))) l] 0,.wcel i]=>Need (0≤i∧i<l.length) (K (.itr (l.length-1) (itO l i.toNat))) | _=>False
theorem aRm:aG Tryz.prog aHw:=by
 refine aB rfl (enters_of Tryz.func86 (by kernel_rfl) rfl) ?_
 intro args K h
 simp only[aHw] at h
 split at h
 ·rename_i l i;exact ⟨_,h.go,gV (by simp) Tryz.func86 (by simp[Tryz.ntmps86]) (b3086 l i h.ok)⟩
 ·exact h.elim
theorem b3048 (l:List Mem) (i:Int):body Tryz.prog [] {} false Tryz.f48 [.seq tMem l,I i] (.clo 86 [] [.lelem [.seq tMem l] 0,.wcel i]):=by
 (conv=>whnf)
 (repeat' first|exact trivial|rfl|refine And.intro ?_ ?_)
 all_goals (conv=>whnf)
 all_goals skip
def aHx:Con:=aI 48 false fun args K=>match args with | [.seq (.pair (.int .i64) (.pair (.int .i64) (.pair (.int .i64) (.pair (.pair .str (.pair .str .str)) (.pair (.pair .str (.pair .str .str)) (.pair (.int .i64) (.int .i64))))))) l,.val (.int .i64 i)]=>K (.clo 86 [] [.lelem [.seq (.pair (.int .i64) (.pair (.int .i64) (.pair (.int .i64) (.pair (.pair .str (.pair .str .str)) (.pair (.pair .str (.pair .str .str)) (.pair (.int .i64) (.int .i64))))))) l] 0,.wcel i]) | _=>False
theorem aRn:aG Tryz.prog aHx:=by
 refine aB rfl (enters_of Tryz.func48 (by kernel_rfl) rfl) ?_
 intro args K h
 simp only[aHx] at h
 split at h
 ·rename_i l i;exact ⟨_,h,aA (by simp) Tryz.func48 (by simp[Tryz.ntmps48]) rfl (b3048 l i)⟩
 ·exact h.elim
theorem b3085 (k f o:Int) (a b c d e g:List UInt8) (w t:Int) (k2 f2 o2:Int) (a2 b2 c2 d2 e2 g2:List UInt8) (w2 t2:Int) (hh0:memE (k,f,o,(a,b,c),(d,e,g),w,t)=0∧memE (k2,f2,o2,(a2,b2,c2),(d2,e2,g2),w2,t2)=0):body Tryz.prog [aHo] {} true Tryz.f85 [.agg [I k,I f,I o,S a,S b,S c,S d,S e,S g,I w,I t],.agg [I k2,I f2,I o2,S a2,S b2,S c2,S d2,S e2,S g2,I w2,I t2]] (.tup [.bl (metP (k2,f2,o2,(a2,b2,c2),(d2,e2,g2),w2,t2) (d,e,g)) (Classical.propDecidable _),I 0]):=by
 obtain ⟨h1,h2⟩:=hh0
 have hs:∀s∈([(d,e,g)]:List (List UInt8 × List UInt8 × List UInt8)),okS s:=fun s hs=>by
  rw[List.mem_singleton.1 hs]
  exact (fK h1).2.2.1
 have hc:memE (k2,f2,o2,(a2,b2,c2),(d2,e2,g2),w2,t2)=0∧∀s∈([(d,e,g)]:List (List UInt8 × List UInt8 × List UInt8)),okS s:=⟨h2,hs⟩
 have hq:(∃s,s∈([(d,e,g)]:List (List UInt8 × List UInt8 × List UInt8))∧metP (k2,f2,o2,(a2,b2,c2),(d2,e2,g2),w2,t2) s)↔metP (k2,f2,o2,(a2,b2,c2),(d2,e2,g2),w2,t2) (d,e,g):=by
  constructor
  ·rintro ⟨s,hs,hm⟩
   rwa [List.mem_singleton.1 hs] at hm
  ·intro hm
   exact ⟨_,List.mem_singleton.2 rfl,hm⟩
 generalize metP (k2,f2,o2,(a2,b2,c2),(d2,e2,g2),w2,t2) (d,e,g)=Q at hq ⊢
 (repeat' first|refine ZR ?_|fail)
 (conv=>whnf)
 (repeat' first|exact trivial|rfl|refine And.intro ?_ ?_)
 all_goals exact hq
def aHp:Con:=aI 85 true fun args K=>match args with | [.agg [.val (.int .i64 k),.val (.int .i64 f),.val (.int .i64 o),.str a,.str b,.str c,.str d,.str e,.str g,.val (.int .i64 w),.val (.int .i64 t)],.agg [.val (.int .i64 k2),.val (.int .i64 f2),.val (.int .i64 o2),.str a2,.str b2,.str c2,.str d2,.str e2,.str g2,.val (.int .i64 w2),.val (.int .i64 t2)]]=>Need (memE (k,f,o,(a,b,c),(d,e,g),w,t)=0∧memE (k2,f2,o2,(a2,b2,c2),(d2,e2,g2),w2,t2)=0) (K (.tup [.bl (metP (k2,f2,o2,(a2,b2,c2),(d2,e2,g2),w2,t2) (d,e,g)) (Classical.propDecidable _),I 0])) | _=>False
theorem aRe:aG Tryz.prog aHp:=by
 refine aB rfl (enters_of Tryz.func85 (by kernel_rfl) rfl) ?_
 intro args K h
 simp only[aHp] at h
 split at h
 ·rename_i k f o a b c d e g w t k2 f2 o2 a2 b2 c2 d2 e2 g2 w2 t2;exact ⟨_,h.go,aA (by simp[aRd]) Tryz.func85 (by simp[Tryz.ntmps85]) rfl (b3085 k f o a b c d e g w t k2 f2 o2 a2 b2 c2 d2 e2 g2 w2 t2 h.ok)⟩
 ·exact h.elim
theorem b3082 (k f o:Int) (a b c d e g:List UInt8) (w t:Int) (k2 f2 o2:Int) (a2 b2 c2 d2 e2 g2:List UInt8) (w2 t2:Int) (hh0:memE (k,f,o,(a,b,c),(d,e,g),w,t)=0∧memE (k2,f2,o2,(a2,b2,c2),(d2,e2,g2),w2,t2)=0):body Tryz.prog [aHo] {} true Tryz.f82 [.agg [I k,I f,I o,S a,S b,S c,S d,S e,S g,I w,I t],.agg [I k2,I f2,I o2,S a2,S b2,S c2,S d2,S e2,S g2,I w2,I t2]] (.tup [.bl (tchP (k,f,o,(a,b,c),(d,e,g),w,t) (k2,f2,o2,(a2,b2,c2),(d2,e2,g2),w2,t2)) (Classical.propDecidable _),I 0]):=by
 obtain ⟨h1,h2⟩:=hh0
 have hs:∀s∈([(a,b,c),(d,e,g)]:List (List UInt8 × List UInt8 × List UInt8)),okS s:=fun s hs=>by
  rcases List.mem_cons.1 hs with rfl | hs
  ·exact (fK h1).2.1
  ·rw[List.mem_singleton.1 hs]
   exact (fK h1).2.2.1
 have hc:memE (k2,f2,o2,(a2,b2,c2),(d2,e2,g2),w2,t2)=0∧∀s∈([(a,b,c),(d,e,g)]:List (List UInt8 × List UInt8 × List UInt8)),okS s:=⟨h2,hs⟩
 have hq:(∃s,s∈([(a,b,c),(d,e,g)]:List (List UInt8 × List UInt8 × List UInt8))∧metP (k2,f2,o2,(a2,b2,c2),(d2,e2,g2),w2,t2) s)↔tchP (k,f,o,(a,b,c),(d,e,g),w,t) (k2,f2,o2,(a2,b2,c2),(d2,e2,g2),w2,t2):=by
  constructor
  ·rintro ⟨s,hs,hm⟩
   rcases List.mem_cons.1 hs with rfl | hs
   ·exact .inl hm
   ·rw[List.mem_singleton.1 hs] at hm;exact .inr hm
  ·rintro (hm | hm)
   ·exact ⟨_,List.mem_cons_self ..,hm⟩
   ·exact ⟨_,List.mem_cons_of_mem _ (List.mem_singleton.2 rfl),hm⟩
 generalize tchP (k,f,o,(a,b,c),(d,e,g),w,t) (k2,f2,o2,(a2,b2,c2),(d2,e2,g2),w2,t2)=Q at hq ⊢
 (repeat' first|refine ZR ?_|fail)
 (conv=>whnf)
 (repeat' first|exact trivial|rfl|refine And.intro ?_ ?_)
 all_goals exact hq
def aCv:Con:=aI 82 true fun args K=>match args with | [.agg [.val (.int .i64 k),.val (.int .i64 f),.val (.int .i64 o),.str a,.str b,.str c,.str d,.str e,.str g,.val (.int .i64 w),.val (.int .i64 t)],.agg [.val (.int .i64 k2),.val (.int .i64 f2),.val (.int .i64 o2),.str a2,.str b2,.str c2,.str d2,.str e2,.str g2,.val (.int .i64 w2),.val (.int .i64 t2)]]=>Need (memE (k,f,o,(a,b,c),(d,e,g),w,t)=0∧memE (k2,f2,o2,(a2,b2,c2),(d2,e2,g2),w2,t2)=0) (K (.tup [.bl (tchP (k,f,o,(a,b,c),(d,e,g),w,t) (k2,f2,o2,(a2,b2,c2),(d2,e2,g2),w2,t2)) (Classical.propDecidable _),I 0])) | _=>False
theorem aLs:aG Tryz.prog aCv:=by
 refine aB rfl (enters_of Tryz.func82 (by kernel_rfl) rfl) ?_
 intro args K h
 simp only[aCv] at h
 split at h
 ·rename_i k f o a b c d e g w t k2 f2 o2 a2 b2 c2 d2 e2 g2 w2 t2;exact ⟨_,h.go,aA (by simp[aRd]) Tryz.func82 (by simp[Tryz.ntmps82]) rfl (b3082 k f o a b c d e g w t k2 f2 o2 a2 b2 c2 d2 e2 g2 w2 t2 h.ok)⟩
 ·exact h.elim
def mnS (u v:Sp) (i:Nat) (r:List UInt8):Prop:=match i with
 | 0=>dA u.1 u.2.1 v.1 v.2.1 r
 | 1=>dA u.2.1 u.2.2 v.2.1 v.2.2 r
 | _=>dA u.2.2 u.1 v.2.2 v.1 r
theorem aFh {k:Nat} {a b c d:Rat} (ha:Sz k a) (hb:Sz k b) (hc:Sz k c) (hd:Sz k d) (h0:0<k) (h:(k+k)+(k+k)+1≤300):dA (numS a) (numS b) (numS c) (numS d) (numS (a*d-b*c))∧Sz ((k+k)+(k+k)+1) (a*d-b*c):=
 ⟨⟨numS (a*d),numS (b*c),gZ ha hd h0 h0 (by omega),gZ hb hc h0 h0 (by omega),eM (ha.mul hd) (hb.mul hc) (by omega) (by omega) h⟩,(ha.mul hd).sub (hb.mul hc)⟩
theorem aAx {k:Nat} {u v:V3} (hu:Sz3 k u) (hv:Sz3 k v) (h0:0<k) (h:(k+k)+(k+k)+1≤300) (i:Nat):mnS (nS3 u) (nS3 v) i (numS (mnR u v i))∧Sz ((k+k)+(k+k)+1) (mnR u v i):=by
 match i with
 | 0=>exact aFh hu.1 hu.2.1 hv.1 hv.2.1 h0 h
 | 1=>exact aFh hu.2.1 hu.2.2 hv.2.1 hv.2.2 h0 h
 | _+2=>exact aFh hu.2.2 hu.1 hv.2.2 hv.1 h0 h
theorem aCt {i j k:Nat} {a u:V3} {s:Rat} (ha:Sz3 i a) (hu:Sz3 j u) (hs:Sz k s) (hi:0<i) (hj:0<j) (hk:0<k) (h:i+(j+k)+1≤300):alOK (nS3 a) (nS3 u) (numS s) (nS3 (aG4 a u s)):=
 ⟨numS (u.1*s),numS (u.2.1*s),numS (u.2.2*s),gZ hu.1 hs hj hk (by omega),gZ hu.2.1 hs hj hk (by omega),gZ hu.2.2 hs hj hk (by omega),
  aCq ha.1 (hu.1.mul hs) hi (by omega) h,aCq ha.2.1 (hu.2.1.mul hs) hi (by omega) h,aCq ha.2.2 (hu.2.2.mul hs) hi (by omega) h⟩
theorem aPr {u v:V3}:nS3 u=nS3 v↔u=v:=by
 constructor
 ·intro h
  unfold nS3 at h
  rw[Prod.mk.injEq,Prod.mk.injEq] at h
  obtain ⟨h1,h2,h3⟩:=h
  have g:∀ {p q:Rat},numS p=numS q→p=q:=fun {p q} e=>by rw[← cW p,e,cW]
  exact Prod.ext (g h1) (Prod.ext (g h2) (g h3))
 ·intro h;rw[h]
def shS2 (s:List UInt8):Prop:=0≤(cmpQ s [48]).1∧(cmpQ s [49]).1≤0
theorem aLh:numS (1:Rat)= [49]:=by decide+kernel
theorem aCu {k:Nat} {s:Rat} (h:Sz k s) (h0:0<k) (hk:k+1≤300):shS2 (numS s)↔pI s:=by
 unfold shS2 pI
 rw[← nV,← aLh,sR h sz0 h0 (by decide) (by omega),sR h sz1 h0 (by decide) (by omega)]
def rdOK (F u G v w:Sp) (i:Nat) (r p s q t:List UInt8) (P Q:Sp):Prop:=
 mnS w v i p∧divQ p r=(s,0)∧mnS w u i q∧divQ q r=(t,0)∧alOK F u s P∧alOK G v t Q
theorem rd_ok {F u G v w:V3} (hF:Sz3 12 F) (hG:Sz3 12 G) (hu:Sz3 25 u) (hv:Sz3 25 v) (hw:Sz3 25 w) (i:Nat) (h:¬numS (mnR u v i)= [48]):
  ∃p s q t P Q,rdOK (nS3 F) (nS3 u) (nS3 G) (nS3 v) (nS3 w) i (numS (mnR u v i)) p s q t P Q∧(P=Q∧shS2 s∧shS2 t↔crAt F u G v w i):=by
 obtain ⟨_,zr⟩:=aAx hu hv (by decide) (by decide) i
 obtain ⟨hp,zp⟩:=aAx hw hv (by decide) (by decide) i
 obtain ⟨hq,zq⟩:=aAx hw hu (by decide) (by decide) i
 have h0:mnR u v i≠0:=fun e=>h (uL.2 e)
 refine ⟨_,_,_,_,_,_,⟨hp,aJo zp zr (by decide) (by decide) (by decide) h0,hq,aJo zq zr (by decide) (by decide) (by decide) h0,aCt hF hu (zp.div zr h0) (by decide) (by decide) (by decide) (by decide),aCt hG hv (zq.div zr h0) (by decide) (by decide) (by decide) (by decide)⟩,?_⟩
 rw[aPr,aCu (zp.div zr h0) (by decide) (by decide),aCu (zq.div zr h0) (by decide) (by decide)]
 exact Iff.rfl
theorem dS_n {s:Sp} (h:okS s) (h2:dS 12 s):s=nS3 (vS s)∧Sz3 12 (vS s):=⟨(aHj h).1,aAi h2.1,aAi h2.2.1,aAi h2.2.2⟩
theorem aAy {k:Nat} {u v:V3} (hu:Sz3 k u) (hv:Sz3 k v) (h0:0<k) (h:k+k+1≤300):cZ (nS3 u) (nS3 v) (nS3 (sub3 u v))∧Sz3 (k+k+1) (sub3 u v):=
 ⟨⟨eM hu.1 hv.1 h0 h0 h,eM hu.2.1 hv.2.1 h0 h0 h,eM hu.2.2 hv.2.2 h0 h0 h⟩,hu.1.sub hv.1,hu.2.1.sub hv.2.1,hu.2.2.sub hv.2.2⟩
theorem aLi {m n:Mem} (h:crE m n=0):∃u v w:Sp,cZ m.2.2.2.2.1 m.2.2.2.1 u∧cZ n.2.2.2.2.1 n.2.2.2.1 v∧cZ n.2.2.2.1 m.2.2.2.1 w∧∃r:Nat→List UInt8,(∀i,mnS u v i (r i))∧∃C:Nat→Prop,
  (∀i,¬r i= [48]→∃p s q t P Q,rdOK m.2.2.2.1 u n.2.2.2.1 v w i (r i) p s q t P Q∧(P=Q∧shS2 s∧shS2 t↔C i))∧
  (crP m n↔if ¬r 0= [48] then C 0 else if ¬r 1= [48] then C 1 else if ¬r 2= [48] then C 2 else False):=by
 unfold crE at h
 split at h
 ·exact absurd h (by decide)
 rename_i h1
 split at h
 ·exact absurd h (by decide)
 rename_i h2
 have m0:memE m=0:=Classical.byContradiction fun q=>h1 (.inl q)
 have n0:memE n=0:=Classical.byContradiction fun q=>h1 (.inr q)
 obtain ⟨_,mf,mt,_⟩:=fK m0
 obtain ⟨_,nf,nt,_⟩:=fK n0
 obtain ⟨e1,z1⟩:=dS_n mf (Classical.byContradiction fun q=>h2 (.inl (.inl (.inl q))))
 obtain ⟨e2,z2⟩:=dS_n mt (Classical.byContradiction fun q=>h2 (.inl (.inl (.inr q))))
 obtain ⟨e3,z3⟩:=dS_n nf (Classical.byContradiction fun q=>h2 (.inl (.inr q)))
 obtain ⟨e4,z4⟩:=dS_n nt (Classical.byContradiction fun q=>h2 (.inr q))
 obtain ⟨hu,zu⟩:=aAy z2 z1 (by decide) (by decide)
 obtain ⟨hv,zv⟩:=aAy z4 z3 (by decide) (by decide)
 obtain ⟨hw,zw⟩:=aAy z3 z1 (by decide) (by decide)
 rw[← e2,← e1] at hu
 rw[← e4,← e3] at hv
 rw[← e3,← e1] at hw
 refine ⟨_,_,_,hu,hv,hw,fun i=>numS (mnR (sub3 (vS m.2.2.2.2.1) (vS m.2.2.2.1)) (sub3 (vS n.2.2.2.2.1) (vS n.2.2.2.1)) i),fun i=>(aAx zu zv (by decide) (by decide) i).1,fun i=>crAt (vS m.2.2.2.1) (sub3 (vS m.2.2.2.2.1) (vS m.2.2.2.1)) (vS n.2.2.2.1) (sub3 (vS n.2.2.2.2.1) (vS n.2.2.2.1)) (sub3 (vS n.2.2.2.1) (vS m.2.2.2.1)) i,fun i hi=>?_,?_⟩
 ·have:=rd_ok z1 z3 zu zv zw i hi
  rwa [← e1,← e3] at this
 ·unfold crP crG
  simp only[uL]
theorem aLj {m n:Mem} (h1:memE m=0) (h2:memE n=0) (h:¬(dS 12 m.2.2.2.1∧dS 12 m.2.2.2.2.1∧dS 12 n.2.2.2.1∧dS 12 n.2.2.2.2.1)):crE m n=4:=by
 unfold crE
 rw[if_neg (fun q=>q.elim (fun q=>q h1) fun q=>q h2),if_pos]
 apply Classical.byContradiction
 intro q
 exact h ⟨Classical.byContradiction fun x=>q (.inl (.inl (.inl x))),Classical.byContradiction fun x=>q (.inl (.inl (.inr x))),Classical.byContradiction fun x=>q (.inl (.inr x)),Classical.byContradiction fun x=>q (.inr x)⟩
theorem aLk {m n:Mem} (h1:memE m=0) (h2:memE n=0) (h:dS 12 m.2.2.2.1∧dS 12 m.2.2.2.2.1∧dS 12 n.2.2.2.1∧dS 12 n.2.2.2.2.1):crE m n=0:=by
 unfold crE
 rw[if_neg (fun q=>q.elim (fun q=>q h1) fun q=>q h2),if_neg]
 rintro (((q | q) | q) | q)
 ·exact q h.1
 ·exact q h.2.1
 ·exact q h.2.2.1
 ·exact q h.2.2.2
theorem tY {m:Mem} (h:memE m=0):(chkQ m.2.2.2.1.1=0∧chkQ m.2.2.2.1.2.1=0∧chkQ m.2.2.2.1.2.2=0)∧chkQ m.2.2.2.2.1.1=0∧chkQ m.2.2.2.2.1.2.1=0∧chkQ m.2.2.2.2.1.2.2=0:=by
 obtain ⟨_,h1,h2,_⟩:=fK h
 exact ⟨jG.1 h1.1,jG.1 h2.1⟩
set_option maxHeartbeats 4000000 in
theorem b119n (k f o:Int) (a b c d e g:List UInt8) (w t:Int) (k2 f2 o2:Int) (a2 b2 c2 d2 e2 g2:List UInt8) (w2 t2:Int) (h1:memE (k,f,o,(a,b,c),(d,e,g),w,t)=0) (h2:memE (k2,f2,o2,(a2,b2,c2),(d2,e2,g2),w2,t2)=0) (hd:¬(dS 12 (a,b,c)∧dS 12 (d,e,g)∧dS 12 (a2,b2,c2)∧dS 12 (d2,e2,g2))) (M:Prop) (hn:¬M):body Tryz.prog [jQ,lW,nX,nY,iI,nZ,lV] {} true Tryz.f119 [.agg [I k,I f,I o,S a,S b,S c,S d,S e,S g,I w,I t],.agg [I k2,I f2,I o2,S a2,S b2,S c2,S d2,S e2,S g2,I w2,I t2]] (.tup [.agg [.str [],.str [],.str []],.bl M (Classical.propDecidable _),I 4]):=by
 have hl:([(a,b,c),(d,e,g),(a2,b2,c2),(d2,e2,g2)]:List (List UInt8 × List UInt8 × List UInt8)).length=4:=rfl
 obtain ⟨⟨q1,q2,q3⟩,q4,q5,q6⟩:=tY h1
 obtain ⟨⟨q7,q8,q9⟩,q10,q11,q12⟩:=tY h2
 dsimp only at q1 q2 q3 q4 q5 q6 q7 q8 q9 q10 q11 q12
 by_cases dd0:dK 12 (valQ a)
 case neg=>
  (repeat' first|refine ZR ?_|refine Zg fun _=>?_)
  (conv=>whnf)
  (repeat' first|exact trivial|rfl|refine And.intro ?_ ?_)
  all_goals exact hn
 by_cases dd1:dK 12 (valQ b)
 case neg=>
  (repeat' first|refine ZR ?_|refine Zg fun _=>?_)
  (conv=>whnf)
  (repeat' first|exact trivial|rfl|refine And.intro ?_ ?_)
  all_goals exact hn
 by_cases dd2:dK 12 (valQ c)
 case neg=>
  (repeat' first|refine ZR ?_|refine Zg fun _=>?_)
  (conv=>whnf)
  (repeat' first|exact trivial|rfl|refine And.intro ?_ ?_)
  all_goals exact hn
 by_cases dd3:dK 12 (valQ d)
 case neg=>
  (repeat' first|refine ZR ?_|refine Zg fun _=>?_)
  (conv=>whnf)
  (repeat' first|exact trivial|rfl|refine And.intro ?_ ?_)
  all_goals exact hn
 by_cases dd4:dK 12 (valQ e)
 case neg=>
  (repeat' first|refine ZR ?_|refine Zg fun _=>?_)
  (conv=>whnf)
  (repeat' first|exact trivial|rfl|refine And.intro ?_ ?_)
  all_goals exact hn
 by_cases dd5:dK 12 (valQ g)
 case neg=>
  (repeat' first|refine ZR ?_|refine Zg fun _=>?_)
  (conv=>whnf)
  (repeat' first|exact trivial|rfl|refine And.intro ?_ ?_)
  all_goals exact hn
 by_cases dd6:dK 12 (valQ a2)
 case neg=>
  (repeat' first|refine ZR ?_|refine Zg fun _=>?_)
  (conv=>whnf)
  (repeat' first|exact trivial|rfl|refine And.intro ?_ ?_)
  all_goals exact hn
 by_cases dd7:dK 12 (valQ b2)
 case neg=>
  (repeat' first|refine ZR ?_|refine Zg fun _=>?_)
  (conv=>whnf)
  (repeat' first|exact trivial|rfl|refine And.intro ?_ ?_)
  all_goals exact hn
 by_cases dd8:dK 12 (valQ c2)
 case neg=>
  (repeat' first|refine ZR ?_|refine Zg fun _=>?_)
  (conv=>whnf)
  (repeat' first|exact trivial|rfl|refine And.intro ?_ ?_)
  all_goals exact hn
 by_cases dd9:dK 12 (valQ d2)
 case neg=>
  (repeat' first|refine ZR ?_|refine Zg fun _=>?_)
  (conv=>whnf)
  (repeat' first|exact trivial|rfl|refine And.intro ?_ ?_)
  all_goals exact hn
 by_cases dd10:dK 12 (valQ e2)
 case neg=>
  (repeat' first|refine ZR ?_|refine Zg fun _=>?_)
  (conv=>whnf)
  (repeat' first|exact trivial|rfl|refine And.intro ?_ ?_)
  all_goals exact hn
 by_cases dd11:dK 12 (valQ g2)
 case neg=>
  (repeat' first|refine ZR ?_|refine Zg fun _=>?_)
  (conv=>whnf)
  (repeat' first|exact trivial|rfl|refine And.intro ?_ ?_)
  all_goals exact hn
 exact absurd ⟨⟨dd0,dd1,dd2⟩,⟨dd3,dd4,dd5⟩,⟨dd6,dd7,dd8⟩,dd9,dd10,dd11⟩ hd
abbrev uM (a b c d e g a2 b2 c2 d2 e2 g2:List UInt8):Prop:=(chkQ a=0∧chkQ b=0∧chkQ c=0∧chkQ d=0∧chkQ e=0∧chkQ g=0∧chkQ a2=0∧chkQ b2=0∧chkQ c2=0∧chkQ d2=0∧chkQ e2=0∧chkQ g2=0)∧dK 12 (valQ a)∧dK 12 (valQ b)∧dK 12 (valQ c)∧dK 12 (valQ d)∧dK 12 (valQ e)∧dK 12 (valQ g)∧dK 12 (valQ a2)∧dK 12 (valQ b2)∧dK 12 (valQ c2)∧dK 12 (valQ d2)∧dK 12 (valQ e2)∧dK 12 (valQ g2)
set_option maxHeartbeats 8000000 in
theorem aLl (k f o:Int) (a b c d e g:List UInt8) (w t:Int) (k2 f2 o2:Int) (a2 b2 c2 d2 e2 g2:List UInt8) (w2 t2:Int) (h1:memE (k,f,o,(a,b,c),(d,e,g),w,t)=0) (h2:memE (k2,f2,o2,(a2,b2,c2),(d2,e2,g2),w2,t2)=0) (hq:uM a b c d e g a2 b2 c2 d2 e2 g2) (u1 u2 u3 v1 v2 v3 y1 y2 y3:List UInt8) (hu:cZ (d,e,g) (a,b,c) (u1,u2,u3)) (hv:cZ (d2,e2,g2) (a2,b2,c2) (v1,v2,v3)) (hw:cZ (a2,b2,c2) (a,b,c) (y1,y2,y3)) (x0:List UInt8) (r0:dA u1 u2 v1 v2 x0) (z0:¬x0= [48]) (p s q t4 P1 P2 P3 Q1 Q2 Q3:List UInt8) (gg1:dA y1 y2 v1 v2 p) (gg2:divQ p x0=(s,0)) (gg3:dA y1 y2 u1 u2 q) (gg4:divQ q x0=(t4,0)) (gg5:alOK (a,b,c) (u1,u2,u3) s (P1,P2,P3)) (gg6:alOK (a2,b2,c2) (v1,v2,v3) t4 (Q1,Q2,Q3)) (M:Prop) (X1 X2 X3:List UInt8) (hM:M↔ [P1,P2,P3]= [Q1,Q2,Q3]∧shS2 s∧shS2 t4) (hy: [P1,P2,P3]= [Q1,Q2,Q3]∧shS2 s∧shS2 t4→X1=P1∧X2=P2∧X3=P3) (hn:¬([P1,P2,P3]= [Q1,Q2,Q3]∧shS2 s∧shS2 t4)→X1= []∧X2= []∧X3= []):body Tryz.prog [jQ,lW,nX,nY,iI,nZ,lV] {} true Tryz.f119 [.agg [I k,I f,I o,S a,S b,S c,S d,S e,S g,I w,I t],.agg [I k2,I f2,I o2,S a2,S b2,S c2,S d2,S e2,S g2,I w2,I t2]] (.tup [.agg [S X1,S X2,S X3],.bl M (Classical.propDecidable _),I 0]):=by
 have hl:([(a,b,c),(d,e,g),(a2,b2,c2),(d2,e2,g2)]:List (List UInt8 × List UInt8 × List UInt8)).length=4:=rfl
 have hl3:([(0,1),(1,2),(2,0)]:List (Int × Int)).length=3:=rfl
 obtain ⟨⟨q1,q2,q3,q4,q5,q6,q7,q8,q9,q10,q11,q12⟩,dd0,dd1,dd2,dd3,dd4,dd5,dd6,dd7,dd8,dd9,dd10,dd11⟩:=hq
 (repeat'((conv=>whnf);first|refine .h ?_|refine Zg fun _=>?_|refine Zn ?_|refine Z0 ?_|refine Z1 ?_|refine Z2 ?_|refine Zj ?_|(apply Pin.mk;apply Exists.intro)|apply Pinned.mk rfl rfl|(apply PinH.mk;apply Exists.intro;apply Exists.intro)|exact Zf|refine Zc ?_ ?_|refine Zl ?_|refine Zy ?_|refine Zm ?_|fail))
 refine Need.mk ⟨⟨by decide,by decide,by decide,trivial⟩,by kernel_rfl⟩ ?_
 clear gg1 gg2 gg3 gg4 gg5 gg6 hu hv hw r0 q1 q2 q3 q4 q5 q6 q7 q8 q9 q10 q11 q12 dd0 dd1 dd2 dd3 dd4 dd5 dd6 dd7 dd8 dd9 dd10 dd11
 by_cases y: [P1,P2,P3]= [Q1,Q2,Q3]
 ·by_cases s1:shS2 s
  ·have s1':0≤(cmpQ s [48]).1∧(cmpQ s [49]).1≤0:=s1
   by_cases s2:shS2 t4
   ·have s2':0≤(cmpQ t4 [48]).1∧(cmpQ t4 [49]).1≤0:=s2
    obtain ⟨j1,j2,j3⟩:=hy ⟨y,s1,s2⟩
    subst j1 j2 j3
    (repeat' first|refine ZH ?_|fail)
    (conv=>whnf)
    (repeat' first|exact trivial|rfl|refine And.intro ?_ ?_)
    all_goals exact hM.2 ⟨y,s1,s2⟩
   ·have s2':¬(0≤(cmpQ t4 [48]).1∧(cmpQ t4 [49]).1≤0):=s2
    obtain ⟨j1,j2,j3⟩:=hn fun q=>s2 q.2.2
    subst j1 j2 j3
    (repeat' first|refine ZH ?_|fail)
    (conv=>whnf)
    (repeat' first|exact trivial|rfl|refine And.intro ?_ ?_)
    all_goals exact fun hm=>s2 (hM.1 hm).2.2
  ·have s1':¬(0≤(cmpQ s [48]).1∧(cmpQ s [49]).1≤0):=s1
   obtain ⟨j1,j2,j3⟩:=hn fun q=>s1 q.2.1
   subst j1 j2 j3
   (repeat' first|refine ZH ?_|fail)
   (conv=>whnf)
   (repeat' first|exact trivial|rfl|refine And.intro ?_ ?_)
   all_goals exact fun hm=>s1 (hM.1 hm).2.1
 ·obtain ⟨j1,j2,j3⟩:=hn fun q=>y q.1
  subst j1 j2 j3
  (repeat' first|refine ZH ?_|fail)
  (conv=>whnf)
  (repeat' first|exact trivial|rfl|refine And.intro ?_ ?_)
  all_goals exact fun hm=>y (hM.1 hm).1
set_option maxHeartbeats 8000000 in
theorem aLm (k f o:Int) (a b c d e g:List UInt8) (w t:Int) (k2 f2 o2:Int) (a2 b2 c2 d2 e2 g2:List UInt8) (w2 t2:Int) (h1:memE (k,f,o,(a,b,c),(d,e,g),w,t)=0) (h2:memE (k2,f2,o2,(a2,b2,c2),(d2,e2,g2),w2,t2)=0) (hq:uM a b c d e g a2 b2 c2 d2 e2 g2) (u1 u2 u3 v1 v2 v3 y1 y2 y3:List UInt8) (hu:cZ (d,e,g) (a,b,c) (u1,u2,u3)) (hv:cZ (d2,e2,g2) (a2,b2,c2) (v1,v2,v3)) (hw:cZ (a2,b2,c2) (a,b,c) (y1,y2,y3)) (x0 x1:List UInt8) (r0:dA u1 u2 v1 v2 x0) (r1:dA u2 u3 v2 v3 x1) (z0:x0= [48]) (z1:¬x1= [48]) (p s q t4 P1 P2 P3 Q1 Q2 Q3:List UInt8) (gg1:dA y2 y3 v2 v3 p) (gg2:divQ p x1=(s,0)) (gg3:dA y2 y3 u2 u3 q) (gg4:divQ q x1=(t4,0)) (gg5:alOK (a,b,c) (u1,u2,u3) s (P1,P2,P3)) (gg6:alOK (a2,b2,c2) (v1,v2,v3) t4 (Q1,Q2,Q3)) (M:Prop) (X1 X2 X3:List UInt8) (hM:M↔ [P1,P2,P3]= [Q1,Q2,Q3]∧shS2 s∧shS2 t4) (hy: [P1,P2,P3]= [Q1,Q2,Q3]∧shS2 s∧shS2 t4→X1=P1∧X2=P2∧X3=P3) (hn:¬([P1,P2,P3]= [Q1,Q2,Q3]∧shS2 s∧shS2 t4)→X1= []∧X2= []∧X3= []):body Tryz.prog [jQ,lW,nX,nY,iI,nZ,lV] {} true Tryz.f119 [.agg [I k,I f,I o,S a,S b,S c,S d,S e,S g,I w,I t],.agg [I k2,I f2,I o2,S a2,S b2,S c2,S d2,S e2,S g2,I w2,I t2]] (.tup [.agg [S X1,S X2,S X3],.bl M (Classical.propDecidable _),I 0]):=by
 have hl:([(a,b,c),(d,e,g),(a2,b2,c2),(d2,e2,g2)]:List (List UInt8 × List UInt8 × List UInt8)).length=4:=rfl
 have hl3:([(0,1),(1,2),(2,0)]:List (Int × Int)).length=3:=rfl
 obtain ⟨⟨q1,q2,q3,q4,q5,q6,q7,q8,q9,q10,q11,q12⟩,dd0,dd1,dd2,dd3,dd4,dd5,dd6,dd7,dd8,dd9,dd10,dd11⟩:=hq
 (repeat'((conv=>whnf);first|refine .h ?_|refine Zg fun _=>?_|refine Zn ?_|refine Z0 ?_|refine Z1 ?_|refine Z2 ?_|refine Zj ?_|(apply Pin.mk;apply Exists.intro)|apply Pinned.mk rfl rfl|(apply PinH.mk;apply Exists.intro;apply Exists.intro)|exact Zf|refine Zc ?_ ?_|refine Zl ?_|refine Zy ?_|refine Zm ?_|fail))
 refine Need.mk ⟨⟨by decide,by decide,by decide,trivial⟩,by kernel_rfl⟩ ?_
 clear gg1 gg2 gg3 gg4 gg5 gg6 hu hv hw r0 q1 q2 q3 q4 q5 q6 q7 q8 q9 q10 q11 q12 dd0 dd1 dd2 dd3 dd4 dd5 dd6 dd7 dd8 dd9 dd10 dd11
 by_cases y: [P1,P2,P3]= [Q1,Q2,Q3]
 ·by_cases s1:shS2 s
  ·have s1':0≤(cmpQ s [48]).1∧(cmpQ s [49]).1≤0:=s1
   by_cases s2:shS2 t4
   ·have s2':0≤(cmpQ t4 [48]).1∧(cmpQ t4 [49]).1≤0:=s2
    obtain ⟨j1,j2,j3⟩:=hy ⟨y,s1,s2⟩
    subst j1 j2 j3
    (repeat' first|refine ZH ?_|fail)
    (conv=>whnf)
    (repeat' first|exact trivial|rfl|refine And.intro ?_ ?_)
    all_goals exact hM.2 ⟨y,s1,s2⟩
   ·have s2':¬(0≤(cmpQ t4 [48]).1∧(cmpQ t4 [49]).1≤0):=s2
    obtain ⟨j1,j2,j3⟩:=hn fun q=>s2 q.2.2
    subst j1 j2 j3
    (repeat' first|refine ZH ?_|fail)
    (conv=>whnf)
    (repeat' first|exact trivial|rfl|refine And.intro ?_ ?_)
    all_goals exact fun hm=>s2 (hM.1 hm).2.2
  ·have s1':¬(0≤(cmpQ s [48]).1∧(cmpQ s [49]).1≤0):=s1
   obtain ⟨j1,j2,j3⟩:=hn fun q=>s1 q.2.1
   subst j1 j2 j3
   (repeat' first|refine ZH ?_|fail)
   (conv=>whnf)
   (repeat' first|exact trivial|rfl|refine And.intro ?_ ?_)
   all_goals exact fun hm=>s1 (hM.1 hm).2.1
 ·obtain ⟨j1,j2,j3⟩:=hn fun q=>y q.1
  subst j1 j2 j3
  (repeat' first|refine ZH ?_|fail)
  (conv=>whnf)
  (repeat' first|exact trivial|rfl|refine And.intro ?_ ?_)
  all_goals exact fun hm=>y (hM.1 hm).1
set_option maxHeartbeats 8000000 in
theorem aLn (k f o:Int) (a b c d e g:List UInt8) (w t:Int) (k2 f2 o2:Int) (a2 b2 c2 d2 e2 g2:List UInt8) (w2 t2:Int) (h1:memE (k,f,o,(a,b,c),(d,e,g),w,t)=0) (h2:memE (k2,f2,o2,(a2,b2,c2),(d2,e2,g2),w2,t2)=0) (hq:uM a b c d e g a2 b2 c2 d2 e2 g2) (u1 u2 u3 v1 v2 v3 y1 y2 y3:List UInt8) (hu:cZ (d,e,g) (a,b,c) (u1,u2,u3)) (hv:cZ (d2,e2,g2) (a2,b2,c2) (v1,v2,v3)) (hw:cZ (a2,b2,c2) (a,b,c) (y1,y2,y3)) (x0 x1 x2:List UInt8) (r0:dA u1 u2 v1 v2 x0) (r1:dA u2 u3 v2 v3 x1) (r2:dA u3 u1 v3 v1 x2) (z0:x0= [48]) (z1:x1= [48]) (z2:¬x2= [48]) (p s q t4 P1 P2 P3 Q1 Q2 Q3:List UInt8) (gg1:dA y3 y1 v3 v1 p) (gg2:divQ p x2=(s,0)) (gg3:dA y3 y1 u3 u1 q) (gg4:divQ q x2=(t4,0)) (gg5:alOK (a,b,c) (u1,u2,u3) s (P1,P2,P3)) (gg6:alOK (a2,b2,c2) (v1,v2,v3) t4 (Q1,Q2,Q3)) (M:Prop) (X1 X2 X3:List UInt8) (hM:M↔ [P1,P2,P3]= [Q1,Q2,Q3]∧shS2 s∧shS2 t4) (hy: [P1,P2,P3]= [Q1,Q2,Q3]∧shS2 s∧shS2 t4→X1=P1∧X2=P2∧X3=P3) (hn:¬([P1,P2,P3]= [Q1,Q2,Q3]∧shS2 s∧shS2 t4)→X1= []∧X2= []∧X3= []):body Tryz.prog [jQ,lW,nX,nY,iI,nZ,lV] {} true Tryz.f119 [.agg [I k,I f,I o,S a,S b,S c,S d,S e,S g,I w,I t],.agg [I k2,I f2,I o2,S a2,S b2,S c2,S d2,S e2,S g2,I w2,I t2]] (.tup [.agg [S X1,S X2,S X3],.bl M (Classical.propDecidable _),I 0]):=by
 have hl:([(a,b,c),(d,e,g),(a2,b2,c2),(d2,e2,g2)]:List (List UInt8 × List UInt8 × List UInt8)).length=4:=rfl
 have hl3:([(0,1),(1,2),(2,0)]:List (Int × Int)).length=3:=rfl
 obtain ⟨⟨q1,q2,q3,q4,q5,q6,q7,q8,q9,q10,q11,q12⟩,dd0,dd1,dd2,dd3,dd4,dd5,dd6,dd7,dd8,dd9,dd10,dd11⟩:=hq
 (repeat'((conv=>whnf);first|refine .h ?_|refine Zg fun _=>?_|refine Zn ?_|refine Z0 ?_|refine Z1 ?_|refine Z2 ?_|refine Zj ?_|(apply Pin.mk;apply Exists.intro)|apply Pinned.mk rfl rfl|(apply PinH.mk;apply Exists.intro;apply Exists.intro)|exact Zf|refine Zc ?_ ?_|refine Zl ?_|refine Zy ?_|refine Zm ?_|fail))
 refine Need.mk ⟨⟨by decide,by decide,by decide,trivial⟩,by kernel_rfl⟩ ?_
 clear gg1 gg2 gg3 gg4 gg5 gg6 hu hv hw r0 q1 q2 q3 q4 q5 q6 q7 q8 q9 q10 q11 q12 dd0 dd1 dd2 dd3 dd4 dd5 dd6 dd7 dd8 dd9 dd10 dd11
 by_cases y: [P1,P2,P3]= [Q1,Q2,Q3]
 ·by_cases s1:shS2 s
  ·have s1':0≤(cmpQ s [48]).1∧(cmpQ s [49]).1≤0:=s1
   by_cases s2:shS2 t4
   ·have s2':0≤(cmpQ t4 [48]).1∧(cmpQ t4 [49]).1≤0:=s2
    obtain ⟨j1,j2,j3⟩:=hy ⟨y,s1,s2⟩
    subst j1 j2 j3
    (repeat' first|refine ZH ?_|fail)
    (conv=>whnf)
    (repeat' first|exact trivial|rfl|refine And.intro ?_ ?_)
    all_goals exact hM.2 ⟨y,s1,s2⟩
   ·have s2':¬(0≤(cmpQ t4 [48]).1∧(cmpQ t4 [49]).1≤0):=s2
    obtain ⟨j1,j2,j3⟩:=hn fun q=>s2 q.2.2
    subst j1 j2 j3
    (repeat' first|refine ZH ?_|fail)
    (conv=>whnf)
    (repeat' first|exact trivial|rfl|refine And.intro ?_ ?_)
    all_goals exact fun hm=>s2 (hM.1 hm).2.2
  ·have s1':¬(0≤(cmpQ s [48]).1∧(cmpQ s [49]).1≤0):=s1
   obtain ⟨j1,j2,j3⟩:=hn fun q=>s1 q.2.1
   subst j1 j2 j3
   (repeat' first|refine ZH ?_|fail)
   (conv=>whnf)
   (repeat' first|exact trivial|rfl|refine And.intro ?_ ?_)
   all_goals exact fun hm=>s1 (hM.1 hm).2.1
 ·obtain ⟨j1,j2,j3⟩:=hn fun q=>y q.1
  subst j1 j2 j3
  (repeat' first|refine ZH ?_|fail)
  (conv=>whnf)
  (repeat' first|exact trivial|rfl|refine And.intro ?_ ?_)
  all_goals exact fun hm=>y (hM.1 hm).1
set_option maxHeartbeats 8000000 in
theorem b119z (k f o:Int) (a b c d e g:List UInt8) (w t:Int) (k2 f2 o2:Int) (a2 b2 c2 d2 e2 g2:List UInt8) (w2 t2:Int) (h1:memE (k,f,o,(a,b,c),(d,e,g),w,t)=0) (h2:memE (k2,f2,o2,(a2,b2,c2),(d2,e2,g2),w2,t2)=0) (hq:uM a b c d e g a2 b2 c2 d2 e2 g2) (u1 u2 u3 v1 v2 v3 y1 y2 y3:List UInt8) (hu:cZ (d,e,g) (a,b,c) (u1,u2,u3)) (hv:cZ (d2,e2,g2) (a2,b2,c2) (v1,v2,v3)) (hw:cZ (a2,b2,c2) (a,b,c) (y1,y2,y3)) (x0 x1 x2:List UInt8) (r0:dA u1 u2 v1 v2 x0) (r1:dA u2 u3 v2 v3 x1) (r2:dA u3 u1 v3 v1 x2) (z0:x0= [48]) (z1:x1= [48]) (z2:x2= [48]) (M:Prop) (hM:¬M):body Tryz.prog [jQ,lW,nX,nY,iI,nZ,lV] {} true Tryz.f119 [.agg [I k,I f,I o,S a,S b,S c,S d,S e,S g,I w,I t],.agg [I k2,I f2,I o2,S a2,S b2,S c2,S d2,S e2,S g2,I w2,I t2]] (.tup [.agg [S [],S [],S []],.bl M (Classical.propDecidable _),I 0]):=by
 have hl:([(a,b,c),(d,e,g),(a2,b2,c2),(d2,e2,g2)]:List (List UInt8 × List UInt8 × List UInt8)).length=4:=rfl
 have hl3:([(0,1),(1,2),(2,0)]:List (Int × Int)).length=3:=rfl
 obtain ⟨⟨q1,q2,q3,q4,q5,q6,q7,q8,q9,q10,q11,q12⟩,dd0,dd1,dd2,dd3,dd4,dd5,dd6,dd7,dd8,dd9,dd10,dd11⟩:=hq
 (repeat'((conv=>whnf);first|refine .h ?_|refine Zg fun _=>?_|refine Zn ?_|refine Z0 ?_|refine Z1 ?_|refine Z2 ?_|refine Zj ?_|(apply Pin.mk;apply Exists.intro)|apply Pinned.mk rfl rfl|(apply PinH.mk;apply Exists.intro;apply Exists.intro)|exact Zf|refine Zc ?_ ?_|refine Zl ?_|refine Zy ?_|refine Zm ?_|fail))
 (conv=>whnf)
 (repeat' first|exact trivial|rfl|refine And.intro ?_ ?_)
 all_goals exact hM
theorem spL {a b c d e g:List UInt8}:((a,b,c):Sp)=(d,e,g)↔ [a,b,c]= [d,e,g]:=by
 constructor
 ·intro h;rw[Prod.mk.injEq,Prod.mk.injEq] at h;rw[h.1,h.2.1,h.2.2]
 ·intro e;injection e with e1 e;injection e with e2 e;injection e with e3 _;rw[e1,e2,e3]
theorem b119y (k f o:Int) (a b c d e g:List UInt8) (w t:Int) (k2 f2 o2:Int) (a2 b2 c2 d2 e2 g2:List UInt8) (w2 t2:Int) (h1:memE (k,f,o,(a,b,c),(d,e,g),w,t)=0) (h2:memE (k2,f2,o2,(a2,b2,c2),(d2,e2,g2),w2,t2)=0) (hd:dS 12 (a,b,c)∧dS 12 (d,e,g)∧dS 12 (a2,b2,c2)∧dS 12 (d2,e2,g2)) (M:Prop) (u v w3:Sp) (hu:cZ (d,e,g) (a,b,c) u) (hv:cZ (d2,e2,g2) (a2,b2,c2) v) (hw:cZ (a2,b2,c2) (a,b,c) w3) (r:Nat→List UInt8) (hr:∀i,mnS u v i (r i)) (C:Nat→Prop)
  (hC:∀i,¬r i= [48]→∃p s q t P Q,rdOK (a,b,c) u (a2,b2,c2) v w3 i (r i) p s q t P Q∧(P=Q∧shS2 s∧shS2 t↔C i))
  (hB:M↔(if ¬r 0= [48] then C 0 else if ¬r 1= [48] then C 1 else if ¬r 2= [48] then C 2 else False)):∃X:Sp,body Tryz.prog [jQ,lW,nX,nY,iI,nZ,lV] {} true Tryz.f119 [.agg [I k,I f,I o,S a,S b,S c,S d,S e,S g,I w,I t],.agg [I k2,I f2,I o2,S a2,S b2,S c2,S d2,S e2,S g2,I w2,I t2]] (.tup [.agg [S X.1,S X.2.1,S X.2.2],.bl M (Classical.propDecidable _),I 0]):=by
 obtain ⟨⟨q1,q2,q3⟩,q4,q5,q6⟩:=tY h1
 obtain ⟨⟨q7,q8,q9⟩,q10,q11,q12⟩:=tY h2
 dsimp only at q1 q2 q3 q4 q5 q6 q7 q8 q9 q10 q11 q12
 obtain ⟨⟨dd0,dd1,dd2⟩,⟨dd3,dd4,dd5⟩,⟨dd6,dd7,dd8⟩,dd9,dd10,dd11⟩:=hd
 have hq:uM a b c d e g a2 b2 c2 d2 e2 g2:=⟨⟨q1,q2,q3,q4,q5,q6,q7,q8,q9,q10,q11,q12⟩,dd0,dd1,dd2,dd3,dd4,dd5,dd6,dd7,dd8,dd9,dd10,dd11⟩
 obtain ⟨u1,u2,u3⟩:=u
 obtain ⟨v1,v2,v3⟩:=v
 obtain ⟨y1,y2,y3⟩:=w3
 have r0:dA u1 u2 v1 v2 (r 0):=hr 0
 have r1:dA u2 u3 v2 v3 (r 1):=hr 1
 have r2:dA u3 u1 v3 v1 (r 2):=hr 2
 have n0:=hC 0
 have n1:=hC 1
 have n2:=hC 2
 clear hr hC
 generalize r 0=x0 at*
 generalize r 1=x1 at*
 generalize r 2=x2 at*
 by_cases z0:¬x0= [48]
 case pos=>
  rw[if_pos z0] at hB
  obtain ⟨p,s,q,t4,P,Q,⟨gg1,gg2,gg3,gg4,gg5,gg6⟩,hh⟩:=n0 z0
  obtain ⟨P1,P2,P3⟩:=P
  obtain ⟨Q1,Q2,Q3⟩:=Q
  have hM:M↔ [P1,P2,P3]= [Q1,Q2,Q3]∧shS2 s∧shS2 t4:=(hB.trans hh.symm).trans ⟨fun q=>⟨spL.1 q.1,q.2⟩,fun q=>⟨spL.2 q.1,q.2⟩⟩
  by_cases hc: [P1,P2,P3]= [Q1,Q2,Q3]∧shS2 s∧shS2 t4
  ·exact ⟨(P1,P2,P3),aLl k f o a b c d e g w t k2 f2 o2 a2 b2 c2 d2 e2 g2 w2 t2 h1 h2 hq u1 u2 u3 v1 v2 v3 y1 y2 y3 hu hv hw x0 r0 z0 p s q t4 P1 P2 P3 Q1 Q2 Q3 gg1 gg2 gg3 gg4 gg5 gg6 M P1 P2 P3 hM (fun _=>⟨rfl,rfl,rfl⟩) fun h=>absurd hc h⟩
  ·exact ⟨([],[],[]),aLl k f o a b c d e g w t k2 f2 o2 a2 b2 c2 d2 e2 g2 w2 t2 h1 h2 hq u1 u2 u3 v1 v2 v3 y1 y2 y3 hu hv hw x0 r0 z0 p s q t4 P1 P2 P3 Q1 Q2 Q3 gg1 gg2 gg3 gg4 gg5 gg6 M [] [] [] hM (fun h=>absurd h hc) fun _=>⟨rfl,rfl,rfl⟩⟩
 rw[if_neg z0] at hB
 have z0:x0= [48]:=Classical.not_not.1 z0
 by_cases z1:¬x1= [48]
 case pos=>
  rw[if_pos z1] at hB
  obtain ⟨p,s,q,t4,P,Q,⟨gg1,gg2,gg3,gg4,gg5,gg6⟩,hh⟩:=n1 z1
  obtain ⟨P1,P2,P3⟩:=P
  obtain ⟨Q1,Q2,Q3⟩:=Q
  have hM:M↔ [P1,P2,P3]= [Q1,Q2,Q3]∧shS2 s∧shS2 t4:=(hB.trans hh.symm).trans ⟨fun q=>⟨spL.1 q.1,q.2⟩,fun q=>⟨spL.2 q.1,q.2⟩⟩
  by_cases hc: [P1,P2,P3]= [Q1,Q2,Q3]∧shS2 s∧shS2 t4
  ·exact ⟨(P1,P2,P3),aLm k f o a b c d e g w t k2 f2 o2 a2 b2 c2 d2 e2 g2 w2 t2 h1 h2 hq u1 u2 u3 v1 v2 v3 y1 y2 y3 hu hv hw x0 x1 r0 r1 z0 z1 p s q t4 P1 P2 P3 Q1 Q2 Q3 gg1 gg2 gg3 gg4 gg5 gg6 M P1 P2 P3 hM (fun _=>⟨rfl,rfl,rfl⟩) fun h=>absurd hc h⟩
  ·exact ⟨([],[],[]),aLm k f o a b c d e g w t k2 f2 o2 a2 b2 c2 d2 e2 g2 w2 t2 h1 h2 hq u1 u2 u3 v1 v2 v3 y1 y2 y3 hu hv hw x0 x1 r0 r1 z0 z1 p s q t4 P1 P2 P3 Q1 Q2 Q3 gg1 gg2 gg3 gg4 gg5 gg6 M [] [] [] hM (fun h=>absurd h hc) fun _=>⟨rfl,rfl,rfl⟩⟩
 rw[if_neg z1] at hB
 have z1:x1= [48]:=Classical.not_not.1 z1
 by_cases z2:¬x2= [48]
 case pos=>
  rw[if_pos z2] at hB
  obtain ⟨p,s,q,t4,P,Q,⟨gg1,gg2,gg3,gg4,gg5,gg6⟩,hh⟩:=n2 z2
  obtain ⟨P1,P2,P3⟩:=P
  obtain ⟨Q1,Q2,Q3⟩:=Q
  have hM:M↔ [P1,P2,P3]= [Q1,Q2,Q3]∧shS2 s∧shS2 t4:=(hB.trans hh.symm).trans ⟨fun q=>⟨spL.1 q.1,q.2⟩,fun q=>⟨spL.2 q.1,q.2⟩⟩
  by_cases hc: [P1,P2,P3]= [Q1,Q2,Q3]∧shS2 s∧shS2 t4
  ·exact ⟨(P1,P2,P3),aLn k f o a b c d e g w t k2 f2 o2 a2 b2 c2 d2 e2 g2 w2 t2 h1 h2 hq u1 u2 u3 v1 v2 v3 y1 y2 y3 hu hv hw x0 x1 x2 r0 r1 r2 z0 z1 z2 p s q t4 P1 P2 P3 Q1 Q2 Q3 gg1 gg2 gg3 gg4 gg5 gg6 M P1 P2 P3 hM (fun _=>⟨rfl,rfl,rfl⟩) fun h=>absurd hc h⟩
  ·exact ⟨([],[],[]),aLn k f o a b c d e g w t k2 f2 o2 a2 b2 c2 d2 e2 g2 w2 t2 h1 h2 hq u1 u2 u3 v1 v2 v3 y1 y2 y3 hu hv hw x0 x1 x2 r0 r1 r2 z0 z1 z2 p s q t4 P1 P2 P3 Q1 Q2 Q3 gg1 gg2 gg3 gg4 gg5 gg6 M [] [] [] hM (fun h=>absurd h hc) fun _=>⟨rfl,rfl,rfl⟩⟩
 rw[if_neg z2] at hB
 have z2:x2= [48]:=Classical.not_not.1 z2
 exact ⟨([],[],[]),b119z k f o a b c d e g w t k2 f2 o2 a2 b2 c2 d2 e2 g2 w2 t2 h1 h2 hq u1 u2 u3 v1 v2 v3 y1 y2 y3 hu hv hw x0 x1 x2 r0 r1 r2 z0 z1 z2 M hB.1⟩
theorem b119e (k f o:Int) (a b c d e g:List UInt8) (w t:Int) (k2 f2 o2:Int) (a2 b2 c2 d2 e2 g2:List UInt8) (w2 t2:Int):∃X:Sp,body Tryz.prog [jQ,lW,nX,nY,iI,nZ,lV] {} true Tryz.f119 [.agg [I k,I f,I o,S a,S b,S c,S d,S e,S g,I w,I t],.agg [I k2,I f2,I o2,S a2,S b2,S c2,S d2,S e2,S g2,I w2,I t2]] (.tup [.agg [S X.1,S X.2.1,S X.2.2],.bl (crB (k,f,o,(a,b,c),(d,e,g),w,t) (k2,f2,o2,(a2,b2,c2),(d2,e2,g2),w2,t2)) (Classical.propDecidable _),I (crE (k,f,o,(a,b,c),(d,e,g),w,t) (k2,f2,o2,(a2,b2,c2),(d2,e2,g2),w2,t2))]):=by
 by_cases h1:memE (k,f,o,(a,b,c),(d,e,g),w,t)=0
 ·by_cases h2:memE (k2,f2,o2,(a2,b2,c2),(d2,e2,g2),w2,t2)=0
  ·by_cases hd:dS 12 (a,b,c)∧dS 12 (d,e,g)∧dS 12 (a2,b2,c2)∧dS 12 (d2,e2,g2)
   ·have e0:=aLk h1 h2 hd
    obtain ⟨u,v,w3,hu,hv,hw,r,hr,C,hC,hP⟩:=aLi e0
    rw[e0]
    exact b119y k f o a b c d e g w t k2 f2 o2 a2 b2 c2 d2 e2 g2 w2 t2 h1 h2 hd _ u v w3 hu hv hw r hr C hC ⟨fun hc=>hP.1 hc.2,fun hc=>⟨e0,hP.2 hc⟩⟩
   ·have e4:=aLj h1 h2 hd
    refine ⟨([],[],[]),?_⟩
    rw[e4]
    exact b119n k f o a b c d e g w t k2 f2 o2 a2 b2 c2 d2 e2 g2 w2 t2 h1 h2 hd _ fun hc=>absurd (e4.symm.trans hc.1) (by decide)
  ·have e1:crE (k,f,o,(a,b,c),(d,e,g),w,t) (k2,f2,o2,(a2,b2,c2),(d2,e2,g2),w2,t2)=1:=by unfold crE;rw[if_pos (.inr h2)]
   have hn:¬crB (k,f,o,(a,b,c),(d,e,g),w,t) (k2,f2,o2,(a2,b2,c2),(d2,e2,g2),w2,t2):=fun hc=>absurd (e1.symm.trans hc.1) (by decide)
   refine ⟨([],[],[]),?_⟩
   rw[e1]
   generalize crB (k,f,o,(a,b,c),(d,e,g),w,t) (k2,f2,o2,(a2,b2,c2),(d2,e2,g2),w2,t2)=M at hn ⊢
   (repeat' first|refine ZR ?_|fail)
   (conv=>whnf)
   (repeat' first|exact trivial|rfl|refine And.intro ?_ ?_)
   all_goals exact hn
 ·have e1:crE (k,f,o,(a,b,c),(d,e,g),w,t) (k2,f2,o2,(a2,b2,c2),(d2,e2,g2),w2,t2)=1:=by unfold crE;rw[if_pos (.inl h1)]
  have hn:¬crB (k,f,o,(a,b,c),(d,e,g),w,t) (k2,f2,o2,(a2,b2,c2),(d2,e2,g2),w2,t2):=fun hc=>absurd (e1.symm.trans hc.1) (by decide)
  refine ⟨([],[],[]),?_⟩
  rw[e1]
  generalize crB (k,f,o,(a,b,c),(d,e,g),w,t) (k2,f2,o2,(a2,b2,c2),(d2,e2,g2),w2,t2)=M at hn ⊢
  (repeat' first|refine ZR ?_|fail)
  (conv=>whnf)
  (repeat' first|exact trivial|rfl|refine And.intro ?_ ?_)
  all_goals exact hn
noncomputable def crV (m n:Mem):Sp:=match m,n with
 | (k,f,o,(a,b,c),(d,e,g),w,t),(k2,f2,o2,(a2,b2,c2),(d2,e2,g2),w2,t2)=>Classical.epsilon fun X:Sp=>body Tryz.prog [jQ,lW,nX,nY,iI,nZ,lV] {} true Tryz.f119 [.agg [I k,I f,I o,S a,S b,S c,S d,S e,S g,I w,I t],.agg [I k2,I f2,I o2,S a2,S b2,S c2,S d2,S e2,S g2,I w2,I t2]] (.tup [.agg [S X.1,S X.2.1,S X.2.2],.bl (crB (k,f,o,(a,b,c),(d,e,g),w,t) (k2,f2,o2,(a2,b2,c2),(d2,e2,g2),w2,t2)) (Classical.propDecidable _),I (crE (k,f,o,(a,b,c),(d,e,g),w,t) (k2,f2,o2,(a2,b2,c2),(d2,e2,g2),w2,t2))])
theorem b3119 (k f o:Int) (a b c d e g:List UInt8) (w t:Int) (k2 f2 o2:Int) (a2 b2 c2 d2 e2 g2:List UInt8) (w2 t2:Int):body Tryz.prog [jQ,lW,nX,nY,iI,nZ,lV] {} true Tryz.f119 [.agg [I k,I f,I o,S a,S b,S c,S d,S e,S g,I w,I t],.agg [I k2,I f2,I o2,S a2,S b2,S c2,S d2,S e2,S g2,I w2,I t2]] (.tup [.agg [S (crV (k,f,o,(a,b,c),(d,e,g),w,t) (k2,f2,o2,(a2,b2,c2),(d2,e2,g2),w2,t2)).1,S (crV (k,f,o,(a,b,c),(d,e,g),w,t) (k2,f2,o2,(a2,b2,c2),(d2,e2,g2),w2,t2)).2.1,S (crV (k,f,o,(a,b,c),(d,e,g),w,t) (k2,f2,o2,(a2,b2,c2),(d2,e2,g2),w2,t2)).2.2],.bl (crB (k,f,o,(a,b,c),(d,e,g),w,t) (k2,f2,o2,(a2,b2,c2),(d2,e2,g2),w2,t2)) (Classical.propDecidable _),I (crE (k,f,o,(a,b,c),(d,e,g),w,t) (k2,f2,o2,(a2,b2,c2),(d2,e2,g2),w2,t2))]):=
 Classical.epsilon_spec (b119e k f o a b c d e g w t k2 f2 o2 a2 b2 c2 d2 e2 g2 w2 t2)
def aLo:Con:=aI 119 true fun args K=>match args with | [.agg [.val (.int .i64 k),.val (.int .i64 f),.val (.int .i64 o),.str a,.str b,.str c,.str d,.str e,.str g,.val (.int .i64 w),.val (.int .i64 t)],.agg [.val (.int .i64 k2),.val (.int .i64 f2),.val (.int .i64 o2),.str a2,.str b2,.str c2,.str d2,.str e2,.str g2,.val (.int .i64 w2),.val (.int .i64 t2)]]=>K (.tup [.agg [S (crV (k,f,o,(a,b,c),(d,e,g),w,t) (k2,f2,o2,(a2,b2,c2),(d2,e2,g2),w2,t2)).1,S (crV (k,f,o,(a,b,c),(d,e,g),w,t) (k2,f2,o2,(a2,b2,c2),(d2,e2,g2),w2,t2)).2.1,S (crV (k,f,o,(a,b,c),(d,e,g),w,t) (k2,f2,o2,(a2,b2,c2),(d2,e2,g2),w2,t2)).2.2],.bl (crB (k,f,o,(a,b,c),(d,e,g),w,t) (k2,f2,o2,(a2,b2,c2),(d2,e2,g2),w2,t2)) (Classical.propDecidable _),I (crE (k,f,o,(a,b,c),(d,e,g),w,t) (k2,f2,o2,(a2,b2,c2),(d2,e2,g2),w2,t2))]) | _=>False
theorem k3119:aG Tryz.prog aLo:=by
 refine aB rfl (enters_of Tryz.func119 (by kernel_rfl) rfl) ?_
 intro args K h
 simp only[aLo] at h
 split at h
 ·rename_i k f o a b c d e g w t k2 f2 o2 a2 b2 c2 d2 e2 g2 w2 t2;exact ⟨_,h,aA (by simp[aK4,k3146,k3147,k3148,yV,k3151,k3152]) Tryz.func119 (by simp[Tryz.ntmps119]) rfl (b3119 k f o a b c d e g w t k2 f2 o2 a2 b2 c2 d2 e2 g2 w2 t2)⟩
 ·exact h.elim
theorem b3081 (k f o:Int) (a b c d e g:List UInt8) (w t:Int) (k2 f2 o2:Int) (a2 b2 c2 d2 e2 g2:List UInt8) (w2 t2:Int):body Tryz.prog [aLo] {} true Tryz.f81 [.agg [I k,I f,I o,S a,S b,S c,S d,S e,S g,I w,I t],.agg [I k2,I f2,I o2,S a2,S b2,S c2,S d2,S e2,S g2,I w2,I t2]] (.tup [.bl (crB (k,f,o,(a,b,c),(d,e,g),w,t) (k2,f2,o2,(a2,b2,c2),(d2,e2,g2),w2,t2)) (Classical.propDecidable _),I (crE (k,f,o,(a,b,c),(d,e,g),w,t) (k2,f2,o2,(a2,b2,c2),(d2,e2,g2),w2,t2))]):=by
 generalize hX:crV (k,f,o,(a,b,c),(d,e,g),w,t) (k2,f2,o2,(a2,b2,c2),(d2,e2,g2),w2,t2)=X
 (conv=>whnf)
 (repeat' first|exact trivial|rfl|refine And.intro ?_ ?_)
def aCw:Con:=aI 81 true fun args K=>match args with | [.agg [.val (.int .i64 k),.val (.int .i64 f),.val (.int .i64 o),.str a,.str b,.str c,.str d,.str e,.str g,.val (.int .i64 w),.val (.int .i64 t)],.agg [.val (.int .i64 k2),.val (.int .i64 f2),.val (.int .i64 o2),.str a2,.str b2,.str c2,.str d2,.str e2,.str g2,.val (.int .i64 w2),.val (.int .i64 t2)]]=>K (.tup [.bl (crB (k,f,o,(a,b,c),(d,e,g),w,t) (k2,f2,o2,(a2,b2,c2),(d2,e2,g2),w2,t2)) (Classical.propDecidable _),I (crE (k,f,o,(a,b,c),(d,e,g),w,t) (k2,f2,o2,(a2,b2,c2),(d2,e2,g2),w2,t2))]) | _=>False
theorem aLt:aG Tryz.prog aCw:=by
 refine aB rfl (enters_of Tryz.func81 (by kernel_rfl) rfl) ?_
 intro args K h
 simp only[aCw] at h
 split at h
 ·rename_i k f o a b c d e g w t k2 f2 o2 a2 b2 c2 d2 e2 g2 w2 t2;exact ⟨_,h,aA (by simp[k3119]) Tryz.func81 (by simp[Tryz.ntmps81]) rfl (b3081 k f o a b c d e g w t k2 f2 o2 a2 b2 c2 d2 e2 g2 w2 t2)⟩
 ·exact h.elim
theorem b118c (k f o:Int) (a b c d e g:List UInt8) (w t:Int) (k2 f2 o2:Int) (a2 b2 c2 d2 e2 g2:List UInt8) (w2 t2:Int):body Tryz.prog [aCw] {} true Tryz.f118 [.agg [I k,I f,I o,S a,S b,S c,S d,S e,S g,I w,I t],.agg [I k2,I f2,I o2,S a2,S b2,S c2,S d2,S e2,S g2,I w2,I t2],.lelem [.clo 81 [] []] 0] (.tup [.bl (f=f2∧crB (k,f,o,(a,b,c),(d,e,g),w,t) (k2,f2,o2,(a2,b2,c2),(d2,e2,g2),w2,t2)) (Classical.propDecidable _),I (if f=f2 then crE (k,f,o,(a,b,c),(d,e,g),w,t) (k2,f2,o2,(a2,b2,c2),(d2,e2,g2),w2,t2) else 0)]):=by
 by_cases h:f=f2
 ·rw[if_pos h]
  generalize hM:(f=f2∧crB (k,f,o,(a,b,c),(d,e,g),w,t) (k2,f2,o2,(a2,b2,c2),(d2,e2,g2),w2,t2))=M
  have hq:crB (k,f,o,(a,b,c),(d,e,g),w,t) (k2,f2,o2,(a2,b2,c2),(d2,e2,g2),w2,t2)↔M:=by rw[← hM];exact ⟨fun x=>⟨h,x⟩,fun x=>x.2⟩
  (repeat' first|refine ZR ?_|fail)
  (conv=>whnf)
  (repeat' first|exact trivial|rfl|refine And.intro ?_ ?_)
  all_goals exact hq
 ·rw[if_neg h]
  generalize hM:(f=f2∧crB (k,f,o,(a,b,c),(d,e,g),w,t) (k2,f2,o2,(a2,b2,c2),(d2,e2,g2),w2,t2))=M
  have hq:¬M:=by rw[← hM];exact fun x=>h x.1
  (repeat' first|refine ZR ?_|fail)
  (conv=>whnf)
  (repeat' first|exact trivial|rfl|refine And.intro ?_ ?_)
  all_goals exact hq
theorem b118t (k f o:Int) (a b c d e g:List UInt8) (w t:Int) (k2 f2 o2:Int) (a2 b2 c2 d2 e2 g2:List UInt8) (w2 t2:Int) (hh0:memE (k,f,o,(a,b,c),(d,e,g),w,t)=0∧memE (k2,f2,o2,(a2,b2,c2),(d2,e2,g2),w2,t2)=0):body Tryz.prog [aCv] {} true Tryz.f118 [.agg [I k,I f,I o,S a,S b,S c,S d,S e,S g,I w,I t],.agg [I k2,I f2,I o2,S a2,S b2,S c2,S d2,S e2,S g2,I w2,I t2],.lelem [.clo 82 [] []] 0] (.tup [.bl (f=f2∧tchP (k,f,o,(a,b,c),(d,e,g),w,t) (k2,f2,o2,(a2,b2,c2),(d2,e2,g2),w2,t2)) (Classical.propDecidable _),I 0]):=by
 by_cases h:f=f2
 ·generalize hM:(f=f2∧tchP (k,f,o,(a,b,c),(d,e,g),w,t) (k2,f2,o2,(a2,b2,c2),(d2,e2,g2),w2,t2))=M
  have hq:tchP (k,f,o,(a,b,c),(d,e,g),w,t) (k2,f2,o2,(a2,b2,c2),(d2,e2,g2),w2,t2)↔M:=by rw[← hM];exact ⟨fun x=>⟨h,x⟩,fun x=>x.2⟩
  (repeat' first|refine ZR ?_|fail)
  (conv=>whnf)
  (repeat' first|exact trivial|rfl|refine And.intro ?_ ?_)
  all_goals exact hq
 ·generalize hM:(f=f2∧tchP (k,f,o,(a,b,c),(d,e,g),w,t) (k2,f2,o2,(a2,b2,c2),(d2,e2,g2),w2,t2))=M
  have hq:¬M:=by rw[← hM];exact fun x=>h x.1
  (repeat' first|refine ZR ?_|fail)
  (conv=>whnf)
  (repeat' first|exact trivial|rfl|refine And.intro ?_ ?_)
  all_goals exact hq
noncomputable def aHq:Con:=aI 118 true fun args K=>match args with
 | [.agg [.val (.int .i64 k),.val (.int .i64 f),.val (.int .i64 o),.str a,.str b,.str c,.str d,.str e,.str g,.val (.int .i64 w),.val (.int .i64 t)],.agg [.val (.int .i64 k2),.val (.int .i64 f2),.val (.int .i64 o2),.str a2,.str b2,.str c2,.str d2,.str e2,.str g2,.val (.int .i64 w2),.val (.int .i64 t2)],.lelem [.clo 81 [] []] 0]=>K (.tup [.bl (f=f2∧crB (k,f,o,(a,b,c),(d,e,g),w,t) (k2,f2,o2,(a2,b2,c2),(d2,e2,g2),w2,t2)) (Classical.propDecidable _),I (if f=f2 then crE (k,f,o,(a,b,c),(d,e,g),w,t) (k2,f2,o2,(a2,b2,c2),(d2,e2,g2),w2,t2) else 0)])
 | [.agg [.val (.int .i64 k),.val (.int .i64 f),.val (.int .i64 o),.str a,.str b,.str c,.str d,.str e,.str g,.val (.int .i64 w),.val (.int .i64 t)],.agg [.val (.int .i64 k2),.val (.int .i64 f2),.val (.int .i64 o2),.str a2,.str b2,.str c2,.str d2,.str e2,.str g2,.val (.int .i64 w2),.val (.int .i64 t2)],.lelem [.clo 82 [] []] 0]=>Need (memE (k,f,o,(a,b,c),(d,e,g),w,t)=0∧memE (k2,f2,o2,(a2,b2,c2),(d2,e2,g2),w2,t2)=0) (K (.tup [.bl (f=f2∧tchP (k,f,o,(a,b,c),(d,e,g),w,t) (k2,f2,o2,(a2,b2,c2),(d2,e2,g2),w2,t2)) (Classical.propDecidable _),I 0]))
 | _=>False
theorem aRf:aG Tryz.prog aHq:=by
 refine aB rfl (enters_of Tryz.func118 (by kernel_rfl) rfl) ?_
 intro args K h
 simp only[aHq] at h
 split at h
 ·rename_i k f o a b c d e g w t k2 f2 o2 a2 b2 c2 d2 e2 g2 w2 t2;exact ⟨_,h,aA (by simp[aLt]) Tryz.func118 (by simp[Tryz.ntmps118]) rfl (b118c k f o a b c d e g w t k2 f2 o2 a2 b2 c2 d2 e2 g2 w2 t2)⟩
 ·rename_i k f o a b c d e g w t k2 f2 o2 a2 b2 c2 d2 e2 g2 w2 t2;exact ⟨_,h.go,aA (by simp[aLs]) Tryz.func118 (by simp[Tryz.ntmps118]) rfl (b118t k f o a b c d e g w t k2 f2 o2 a2 b2 c2 d2 e2 g2 w2 t2 h.ok)⟩
 ·exact h.elim
theorem b80c:body Tryz.prog [] {} false Tryz.f80 [.clo 81 [] []] (.clo 118 [] [.lelem [.clo 81 [] []] 0]):=by
 (conv=>whnf)
 (repeat' first|exact trivial|rfl|refine And.intro ?_ ?_)
theorem b80t:body Tryz.prog [] {} false Tryz.f80 [.clo 82 [] []] (.clo 118 [] [.lelem [.clo 82 [] []] 0]):=by
 (conv=>whnf)
 (repeat' first|exact trivial|rfl|refine And.intro ?_ ?_)
def aLu:Con:=aI 80 false fun args K=>match args with
 | [.clo 81 [] []]=>K (.clo 118 [] [.lelem [.clo 81 [] []] 0])
 | [.clo 82 [] []]=>K (.clo 118 [] [.lelem [.clo 82 [] []] 0])
 | _=>False
theorem k3080:aG Tryz.prog aLu:=by
 refine aB rfl (enters_of Tryz.func80 (by kernel_rfl) rfl) ?_
 intro args K h
 simp only[aLu] at h
 split at h
 ·exact ⟨_,h,aA (by simp) Tryz.func80 (by simp[Tryz.ntmps80]) rfl b80c⟩
 ·exact ⟨_,h,aA (by simp) Tryz.func80 (by simp[Tryz.ntmps80]) rfl b80t⟩
 ·exact h.elim
def qKs:List (Int × Int):=[(1,10),(1,9),(1,8),(1,6),(1,7),(1,12),(2,10),(2,9),(2,8),(2,6),(2,7),(2,12),(3,10),(3,9),(3,8),(3,6),(3,7),(3,12),(4,10),(4,9),(4,8),(4,6),(4,7),(4,12),(5,10),(5,9),(5,8),(5,6),(5,7),(5,12),(6,8),(6,10),(9,6),(7,8),(7,10),(9,7),(11,10),(11,9),(11,8),(11,6),(11,7),(12,11)]
def qVs:List SV:=[.clo 118 [] [.lelem [.clo 81 [] []] 0],.clo 118 [] [.lelem [.clo 81 [] []] 0],.clo 82 [] [],.clo 82 [] [],.clo 82 [] [],.clo 118 [] [.lelem [.clo 82 [] []] 0],.clo 118 [] [.lelem [.clo 81 [] []] 0],.clo 118 [] [.lelem [.clo 81 [] []] 0],.clo 82 [] [],.clo 82 [] [],.clo 82 [] [],.clo 118 [] [.lelem [.clo 82 [] []] 0],.clo 118 [] [.lelem [.clo 81 [] []] 0],.clo 118 [] [.lelem [.clo 81 [] []] 0],.clo 82 [] [],.clo 82 [] [],.clo 82 [] [],.clo 118 [] [.lelem [.clo 82 [] []] 0],.clo 118 [] [.lelem [.clo 81 [] []] 0],.clo 118 [] [.lelem [.clo 81 [] []] 0],.clo 82 [] [],.clo 82 [] [],.clo 82 [] [],.clo 118 [] [.lelem [.clo 82 [] []] 0],.clo 118 [] [.lelem [.clo 81 [] []] 0],.clo 118 [] [.lelem [.clo 81 [] []] 0],.clo 82 [] [],.clo 82 [] [],.clo 82 [] [],.clo 118 [] [.lelem [.clo 82 [] []] 0],.clo 85 [] [],.clo 81 [] [],.clo 82 [] [],.clo 85 [] [],.clo 81 [] [],.clo 82 [] [],.clo 118 [] [.lelem [.clo 81 [] []] 0],.clo 118 [] [.lelem [.clo 81 [] []] 0],.clo 82 [] [],.clo 82 [] [],.clo 82 [] [],.clo 118 [] [.lelem [.clo 82 [] []] 0]]
set_option maxHeartbeats 4000000 in
theorem b3047 (hk:KeyOK Tryz.prog 86):body Tryz.prog [aHn,aHl,aHm,aLu] {} false Tryz.f47 [] (.fmp qKs qVs):=by
 have s1:sloP 1:=by unfold sloP;omega
 have r1:rafP 1:=by unfold rafP;omega
 have h1:¬hipP 1:=by unfold hipP;omega
 have s2:sloP 2:=by unfold sloP;omega
 have r2:rafP 2:=by unfold rafP;omega
 have h2:¬hipP 2:=by unfold hipP;omega
 have s3:sloP 3:=by unfold sloP;omega
 have r3:rafP 3:=by unfold rafP;omega
 have h3:¬hipP 3:=by unfold hipP;omega
 have s4:sloP 4:=by unfold sloP;omega
 have r4:rafP 4:=by unfold rafP;omega
 have h4:¬hipP 4:=by unfold hipP;omega
 have s5:sloP 5:=by unfold sloP;omega
 have r5:rafP 5:=by unfold rafP;omega
 have h5:¬hipP 5:=by unfold hipP;omega
 have s6:¬sloP 6:=by unfold sloP;omega
 have r6:¬rafP 6:=by unfold rafP;omega
 have h6:hipP 6:=by unfold hipP;omega
 have s7:¬sloP 7:=by unfold sloP;omega
 have r7:¬rafP 7:=by unfold rafP;omega
 have h7:hipP 7:=by unfold hipP;omega
 have s8:¬sloP 8:=by unfold sloP;omega
 have r8:¬rafP 8:=by unfold rafP;omega
 have h8:¬hipP 8:=by unfold hipP;omega
 have s9:¬sloP 9:=by unfold sloP;omega
 have r9:¬rafP 9:=by unfold rafP;omega
 have h9:¬hipP 9:=by unfold hipP;omega
 have s10:¬sloP 10:=by unfold sloP;omega
 have r10:¬rafP 10:=by unfold rafP;omega
 have h10:¬hipP 10:=by unfold hipP;omega
 have s11:sloP 11:=by unfold sloP;omega
 have r11:¬rafP 11:=by unfold rafP;omega
 have h11:¬hipP 11:=by unfold hipP;omega
 have s12:¬sloP 12:=by unfold sloP;omega
 have r12:¬rafP 12:=by unfold rafP;omega
 have h12:¬hipP 12:=by unfold hipP;omega
 have hl:([8,6,7]:List Int).length=3:=rfl
 (repeat' first|refine ZR ?_|refine Zg fun _=>?_)
 (conv=>whnf)
 (repeat' first|exact trivial|rfl|refine And.intro ?_ ?_)
theorem aRg:KeyOK Tryz.prog 86:=⟨by kernel_rfl,by kernel_rfl,by kernel_rfl,by kernel_rfl,by decide+kernel⟩
def aHr:Con:=aI 47 false fun args K=>match args with
 | []=>K (.fmp qKs qVs)
 | _=>False
theorem aRh:aG Tryz.prog aHr:=by
 refine aB rfl (enters_of Tryz.func47 (by kernel_rfl) rfl) ?_
 intro args K h
 simp only[aHr] at h
 split at h
 ·exact ⟨_,h,aA (by simp[aRc,aRa,aRb,k3080]) Tryz.func47 (by simp[Tryz.ntmps47]) rfl (b3047 aRg)⟩
 ·exact h.elim
end RB
end
section
open Go Go.Proofs Go.Eng Go.Shelf
namespace EB
theorem aM0 {T:List (Int × Int)} {x:Int × Int} (h:x∈T):∃i,i<T.length∧T.getD i (0,0)=x:=by
 obtain ⟨i,hi,rfl⟩:=List.getElem_of_mem h
 exact ⟨i,hi,by simp[List.getD_eq_getElem?_getD,hi]⟩
theorem at_mem (T:List (Int × Int)) (i:Nat) (h:i<T.length):T.getD i (0,0)∈T:=by
 rw[List.getD_eq_getElem?_getD,List.getElem?_eq_getElem h];exact List.getElem_mem h
structure Pref (n:Int) (l S:List (Int × Int)):Prop where
 ok:∀k:Nat,k≤S.length→stdE n S k=0
 low:∀k:Nat,k≤S.length→∀r∈l,r.1∈stdM n S k→0≤r.2→r.2∈stdM n S k
 prop_:∀k:Nat,k≤S.length→∀m∈stdM n S k,¬l.any (upP m)=true→m∈stdP n S k
 all:((stdM n S S.length).length:Int)=n
end EB
end
section
open Go Go.Proofs Go.Eng Go.Shelf
namespace EB
end EB
end
section
open Go Go.Proofs Go.Eng Go.Shelf
namespace EB
structure RS where
 set:List Int
 most:Int
 err:Int
def keysOf (m:MapS Bool):List Int:=m.es.map fun e=>e.2.1
def AllT (m:MapS Bool):Prop:=∀e∈m.es,e.2.2=true
theorem oR:∀(es:List (Nat × Int × Bool)) (n:Int),¬n∈(es.map fun e=>e.2.1)→jS es n=none
 | [],_,_=>rfl
 | e::r,n,h=>by
  rw[List.map_cons,List.mem_cons] at h
  unfold jS
  rw[if_neg fun e=>h (.inl e.symm),oR r n fun e=>h (.inr e)]
structure Sim (p:PS) (r:RS):Prop where
 err:p.err=r.err
 most:p.most=r.most
 keys:p.err=0→keysOf p.m=r.set∧AllT p.m
end EB
end
section
open Go Go.Proofs Go.Eng Go.Shelf
namespace EB
end EB
end
section
open Go Go.Proofs Go.Eng Go.Shelf
namespace EB
def aM1 (n:Int) (l:List (Int × Int)):Prop:=(12<n∧n≤512)∨30<l.length
instance (n:Int) (l:List (Int × Int)):Decidable (aM1 n l):=by unfold aM1;exact inferInstance
def aM2 (S:List (Int × Int)):Prop:=(30<S.length∧S.length≤4096)∨4098<S.length
instance (S:List (Int × Int)):Decidable (aM2 S):=by unfold aM2;exact inferInstance
end EB
end
section
open Go Go.Proofs Go.Eng Go.Shelf
namespace EB
def nf (on:List (List Int)) (n:Int) (ws:List Int):Nat→Int
 | 0=> -1
 | j+1=>if rJ on ws (n-1-j) then n-1-j else nf on n ws j
end EB
end
section
open Go Go.Proofs Go.Eng Go.Shelf
namespace EB
end EB
end
section
open Go Go.Proofs Go.Eng Go.Shelf
namespace EB
theorem uS {α:Type} (xs:List α) (i p:Nat) (v d:α):(xs.set i v).getD p d=if p=i∧p<xs.length then v else xs.getD p d:=by
 rw[List.getD_eq_getElem?_getD,List.getD_eq_getElem?_getD,List.getElem?_set]
 by_cases h:i=p
 ·subst h
  by_cases h2:i<xs.length
  ·simp[h2]
  ·simp[h2]
 ·have:¬p=i:=fun e=>h e.symm
  simp[h,this]
def kindR (k:Int):Int:=if k=1 then 1 else if k=2 then 3 else if k=3 then 2 else 0
def flipS (x:Int × Int):Int × Int:=(kindR x.1,x.2)
end EB
end
section
open Go Go.Proofs Go.Eng Go.Shelf
namespace EB.R
def onIt (m:Int) (st:List Bool) (r:Int × Int):Bool:=decide (r.2=m)&&st.getD r.1.toNat false
def isT (x:Bool):Bool:=x
end EB.R
end
section
open Go Go.Proofs Go.Eng Go.Shelf
namespace EB
def downOf (S:List (Int × Int)):List (Int × Int):=S.reverse.map flipS
def stR (n:Nat) (T:List (Int × Int)):List Bool:=(List.range n).map fun j:Nat=> !decide ((1,(j:Int))∈T)
structure Rev (n:Int) (l S:List (Int × Int)):Prop where
 chk:chkE (-1) S=0
 at_:∀i,i<(downOf S).length→((downOf S).getD i (0,0)).1=1→(0≤((downOf S).getD i (0,0)).2∧((downOf S).getD i (0,0)).2<n)∧(stR n.toNat ((downOf S).take i)).getD ((downOf S).getD i (0,0)).2.toNat false=true∧
  ¬l.any (R.onIt ((downOf S).getD i (0,0)).2 (stR n.toNat ((downOf S).take (i+1))))=true
 all:¬(stR n.toNat (downOf S)).any R.isT=true
end EB
end
section
open Go Go.Proofs Go.Eng Go.Shelf
namespace EB
end EB
end
section
open Go Go.Proofs Go.Eng Go.Shelf
namespace EB
def Edge (on:List (List Int)) (u v:Int):Prop:=v∈on.getD u.toNat []
inductive Way (on:List (List Int)):Int→Int→Prop
 | one (u v:Int) (h:Edge on u v):Way on u v
 | more (u v w:Int) (h:Edge on u v) (hw:Way on v w):Way on u w
theorem Way.trans {on:List (List Int)} {u v w:Int} (h:Way on u v) (h2:Way on v w):Way on u w:=by
 induction h with
 | one u v h=>exact .more u v w h h2
 | more u v x h _ ih=>exact .more u v w h (ih h2)
theorem Way.snoc {on:List (List Int)} {u v w:Int} (h:Way on u v) (h2:Edge on v w):Way on u w:=h.trans (.one v w h2)
def Loops (on:List (List Int)) (n:Int):Prop:=∃i:Int,(0≤i∧i<n)∧Way on i i
def fL (on:List (List Int)) (n:Int):Prop:=(on.length:Int)=n∧∀u v:Int,Edge on u v→0≤v∧v<n
theorem aC0 {n:Int} {l:List (Int × Int)} {u v:Int} (hu:0≤u∧u<n):Edge (onL n l) u v↔0≤v∧(u,v)∈l:=by
 unfold Edge
 have e:(onL n l).getD u.toNat []=lM l l.length u.toNat:=tZ _ _ _ _ (by omega)
 rw[e]
 unfold lM
 rw[List.take_length,List.mem_map]
 constructor
 ·rintro ⟨r,hr,rfl⟩
  rw[List.mem_filter] at hr
  have:=of_decide_eq_true hr.2
  have h1:r.1=u:=by omega
  refine ⟨this.2,?_⟩
  have:(u,r.2)=r:=Prod.ext h1.symm rfl
  rw[this];exact hr.1
 ·rintro ⟨h1,h2⟩
  exact ⟨(u,v),List.mem_filter.2 ⟨h2,decide_eq_true ⟨by show u= _;omega,h1⟩⟩,rfl⟩
theorem pS {on:List (List Int)} {u v:Int} (h:Edge on u v):u.toNat<on.length:=by
 apply Classical.byContradiction
 intro hn
 unfold Edge at h
 rw[List.getD_eq_getElem?_getD,List.getElem?_eq_none (by omega)] at h
 cases h
theorem aPx {n:Int} {l:List (Int × Int)} {u:Int} (h:u<0):(onL n l).getD u.toNat []=(onL n l).getD (0:Int).toNat []:=by
 rw[show u.toNat=(0:Int).toNat by omega]
theorem onL_rows {n:Int} {l:List (Int × Int)} (h:pQ n l):fL (onL n l) n:=by
 obtain ⟨r1,r2,r3,r4⟩:=h
 refine ⟨by rw[pT];omega,fun u v he=>?_⟩
 have hu:=pS he
 rw[pT] at hu
 have key:∀u v:Int,0≤u→u<n→Edge (onL n l) u v→0≤v∧v<n:=fun u v h0 h1 he=>by
  obtain ⟨h2,h3⟩:=(aC0 ⟨h0,h1⟩).1 he
  obtain ⟨i,i1,i2⟩:=aM0 h3
  have:=r4 i i1
  rw[i2] at this
  omega
 by_cases h0:0≤u
 ·exact key u v h0 (by omega) he
 ·refine key 0 v (by omega) (by omega) ?_
  unfold Edge at he ⊢
  rwa [aPx (by omega)] at he
end EB
end
section
open Go Go.Proofs Go.Eng Go.Shelf
namespace EB
theorem b69 (n:Int) (l:List (Int × Int)) (h:pQ n l):body Tryz.prog [] { asks:=[(0,[])] } true Tryz.f54 [I n,Ps l] (.seq (.slice (.int .i64)) (onL n l)):=by
 obtain ⟨h1,h2,h3,h4⟩:=h
 refine Need.mk (show 0≤n∧n≤n∧n≤140737488355328∧n*((24:Nat):Int)≤140737488355328 by omega) ?_
 (repeat'((conv=>whnf);first|refine Zg fun _=>?_|fail))
 refine Ask.mk ⟨{ X:=Nat × Nat,pre:=fun x=>x.1≤l.length,mod:=fun x _=>[(12,I x.1)],heap:=fun x _=>[.vec 1 (.slice (.int .i64)) [] 41,.vv 1 x.2 (.int .i64) (onN n.toNat l x.1) none 41 3],mu:=fun x=>l.length-x.1 },rfl,?_⟩
 (repeat' first|refine ZG ?_|fail)
 refine ⟨⟨((0:Nat),(0:Nat)),Nat.zero_le _,?_⟩,fun (x:Nat × Nat) hi=>?_⟩
 ·(repeat' first|exact trivial|rfl|refine And.intro ?_ ?_)
  exact (aMx _ _).symm
 ·have hi:x.1≤l.length:=hi
  have hol:=aA1 n.toNat l x.1
  (refine Br.mk (fun _=>?_) (fun _=>?_))
  ·have hlt:x.1<l.length:=by omega
   obtain ⟨g1,g2,g3,g4⟩:=h4 x.1 hlt
   have hun:(l.getD x.1 (0,0)).1.toNat<n.toNat:=by omega
   have hu:(l.getD x.1 (0,0)).1=((l.getD x.1 (0,0)).1.toNat:Int):=by omega
   have hrow:=zA l x.1 (l.getD x.1 (0,0)).1.toNat
   have hget:=tZ n.toNat l x.1 _ hun
   (repeat' first|refine ZG ?_|refine Zg fun _=>?_)
   (refine Br.mk (fun _=>?_) (fun _=>?_))
   ·(repeat'((conv=>whnf);first|refine Zn ?_|(apply Pin.mk;apply Exists.intro)|apply Pinned.mk rfl rfl|fail))
    refine cF (l.getD x.1 (0,0)).1.toNat hu ?_
    (repeat'((conv=>whnf);first|refine Zn ?_|(apply Pin.mk;apply Exists.intro)|apply Pinned.mk rfl rfl|(apply PinH.mk;apply Exists.intro;apply Exists.intro)|refine Zl ?_|fail))
    refine Need.mk (show ((onN n.toNat l x.1).getD (l.getD x.1 (0,0)).1.toNat []).length+1≤17592186044416 by rw[hget];omega) ?_
    (repeat'((conv=>whnf);first|refine Zn ?_|apply Pinned.mk rfl rfl|exact Zf|refine Zc ?_ ?_|refine Zl ?_|fail))
    ·refine Need.mk (show ((onN n.toNat l x.1).getD (l.getD x.1 (0,0)).1.toNat []).length+1≤17592186044416 by rw[hget];omega) ?_
     (repeat'((conv=>whnf);first|apply Pinned.mk rfl rfl|exact Zf|fail))
    ·refine cF (l.getD x.1 (0,0)).1.toNat hu ?_
     (repeat'((conv=>whnf);first|apply Pinned.mk rfl rfl|exact Zf|fail))
    ·refine cF (l.getD x.1 (0,0)).1.toNat hu ?_
     (repeat' first|refine ZG ?_|fail)
     refine Need.mk (show ((onN n.toNat l x.1).getD (l.getD x.1 (0,0)).1.toNat []++ [(l.getD x.1 (0,0)).2]).length≤140737488355328 by rw[hget,List.length_append,List.length_singleton];omega) ?_
     (repeat' first|refine ZG ?_|fail)
     refine ⟨((x.1+1:Nat),(x.2+1+1:Nat)),?_,?_,?_⟩
     ·show l.length-(x.1+1)<l.length-x.1
      omega
     ·show x.1+1≤l.length
      omega
     ·(repeat' first|exact trivial|rfl|refine And.intro ?_ ?_)
      exact aMz n.toNat l x.1 _ hlt hu ‹_› hun
   ·have hos:=aMy n.toNat l x.1 hlt ‹_›
    (repeat' first|refine ZG ?_|fail)
    (conv=>whnf)
    refine ⟨((x.1+1:Nat),x.2),?_,?_,?_⟩
    ·show l.length-(x.1+1)<l.length-x.1
     omega
    ·show x.1+1≤l.length
     omega
    ·(repeat' first|exact trivial|rfl|refine And.intro ?_ ?_)
     exact hos.symm
  ·have hii:x.1=l.length:=by omega
   (conv=>whnf)
   rw[hii]
   rfl
def c69:Con:=aI 54 true fun args K=>match args with | [.val (.int .i64 n),.seq (.pair (.int .i64) (.int .i64)) l]=>Need (pQ n l) (K (.seq (.slice (.int .i64)) (onL n l))) | _=>False
theorem k69:aG Tryz.prog c69:=by
 refine aB rfl (enters_of Tryz.func54 (by kernel_rfl) rfl) ?_
 intro args K h
 simp only[c69] at h
 split at h
 ·rename_i n l;exact ⟨_,h.go,aA (by simp) Tryz.func54 (by simp[Tryz.ntmps54]) rfl (b69 n l h.ok)⟩
 ·exact h.elim
def unmTo (on:List (List Int)) (out:List Bool):Nat→Nat
 | 0=>0
 | k+1=>unmTo on out k+if out.getD k false=true then 0 else (on.getD k []).length
structure RI (on:List (List Int)) (i:Int) (n:Int) (x:List Bool × List Int):Prop where
 len:x.1.length=on.length
 stk:∀k∈x.2,(0≤k∧k<n)∧Way on i k
 mrk:∀k:Nat,x.1.getD k false=true→Way on i k
 frm:∀k,Edge on i k→x.1.getD k.toNat false=true∨k∈x.2
 nxt:∀m:Nat,x.1.getD m false=true→∀k,Edge on m k→x.1.getD k.toNat false=true∨k∈x.2
 sz:x.2.length+unmTo on x.1 on.length≤5000000
end EB
end
section
open Go Go.Proofs Go.Eng Go.Shelf
namespace EB
inductive WayN (on:List (List Int)):Nat→Int→Int→Prop
 | nil (u:Int):WayN on 0 u u
 | cons (m:Nat) (u v w:Int) (h:Edge on u v) (hw:WayN on m v w):WayN on (m+1) u w
theorem Way.num {on:List (List Int)} {u v:Int} (h:Way on u v):∃m,WayN on (m+1) u v:=by
 induction h with
 | one u v h=>exact ⟨0,.cons 0 u v v h (.nil v)⟩
 | more u v w h _ ih=>obtain ⟨m,hm⟩:=ih;exact ⟨m+1,.cons (m+1) u v w h hm⟩
def sS (p:Nat→Prop) (m:Nat):Prop:=p m∧∀q,q<m→¬p q
theorem aC1 {p:Nat→Prop} {m:Nat} (h:p m):∃q,sS p q:=by
 induction m using Nat.strongRecOn with
 | _ m ih=>
  by_cases hq:∃q,q<m∧p q
  ·obtain ⟨q,h1,h2⟩:=hq;exact ih q h1 h2
  ·exact ⟨m,h,fun q h1 h2=>hq ⟨q,h1,h2⟩⟩
theorem aFp {p:Nat→Prop} {a b:Nat} (h1:sS p a) (h2:sS p b):a=b:=by
 rcases Nat.lt_trichotomy a b with h | h | h
 ·exact absurd h1.1 (h2.2 a h)
 ·exact h
 ·exact absurd h2.1 (h1.2 b h)
noncomputable def cG (on:List (List Int)) (tg k:Int):Int:=open Classical in if h:∃m,sS (fun m=>WayN on m k tg) m then (Classical.choose h:Nat) else -1
theorem uT {on:List (List Int)} {tg k:Int} {m:Nat} (h:sS (fun m=>WayN on m k tg) m):cG on tg k=m:=by
 have hex:∃m,sS (fun m=>WayN on m k tg) m:=⟨m,h⟩
 unfold cG
 rw[dif_pos hex,aFp (Classical.choose_spec hex) h]
theorem aFq {on:List (List Int)} {tg k:Int} (h:∀m,¬WayN on m k tg):cG on tg k= -1:=by
 unfold cG
 rw[dif_neg]
 rintro ⟨m,hm⟩
 exact h m hm.1
def cntTo (far:List Int):Nat→Nat
 | 0=>0
 | k+1=>cntTo far k+if 0≤far.getD k (-1) then 1 else 0
def phiTo (N:Nat) (far:List Int):Nat→Nat
 | 0=>0
 | k+1=>phiTo N far k+if 0≤far.getD k (-1) then (far.getD k (-1)).toNat else N
structure DI (on:List (List Int)) (tg:Int) (far:List Int):Prop where
 len:far.length=on.length
 zero:far.getD tg.toNat (-1)=0
 way:∀k:Nat,k<on.length→0≤far.getD k (-1)→WayN on (far.getD k (-1)).toNat k tg
 low:∀k:Nat, -1≤far.getD k (-1)
 cnt:∀k:Nat,far.getD k (-1)<cntTo far on.length
theorem aC2 {on:List (List Int)} {tg k:Int} {m:Nat} (h:WayN on m k tg):∃d:Nat,cG on tg k=d∧WayN on d k tg∧d≤m:=by
 obtain ⟨q,hq⟩:=aC1 (p:=fun m=>WayN on m k tg) h
 refine ⟨q,uT hq,hq.1,?_⟩
 apply Classical.byContradiction
 intro hn
 exact hq.2 m (by omega) h
theorem aC3 {on:List (List Int)} (tg k:Int):cG on tg k= -1∨∃d:Nat,cG on tg k=d∧WayN on d k tg:=by
 by_cases h:∃m,WayN on m k tg
 ·obtain ⟨m,hm⟩:=h
  obtain ⟨d,h1,h2,_⟩:=aC2 hm
  exact .inr ⟨d,h1,h2⟩
 ·exact .inl (aFq fun m hm=>h ⟨m,hm⟩)
end EB
end
section
open Go Go.Proofs Go.Eng Go.Shelf
namespace EB
structure DP (on:List (List Int)) (tg:Int) (far0:List Int) (x:List Int × Bool):Prop where
 di:DI on tg x.1
 yes:x.2=true→phiTo on.length x.1 on.length<phiTo on.length far0 on.length
 no:x.2=false→x.1=far0
end EB
end
section
open Go Go.Proofs Go.Eng Go.Shelf
namespace EB
theorem aFr {on:List (List Int)} {tg u:Int} {d:Nat} (h:sS (fun m=>WayN on m u tg) (d+1)):∃v,Edge on u v∧sS (fun m=>WayN on m v tg) d:=by
 obtain ⟨h1,h2⟩:=h
 cases h1 with
 | cons _ _ v _ he hw=>exact ⟨v,he,hw,fun q hq hq2=>h2 (q+1) (by omega) (.cons q u v tg he hq2)⟩
end EB
end
section
open Go Go.Proofs Go.Eng Go.Shelf
namespace EB
def Run (on:List (List Int)) (m:Nat) (i:Int):Prop:=∃w,WayN on m i w
theorem Run.zero (on:List (List Int)) (i:Int):Run on 0 i:=⟨i,.nil i⟩
theorem Run.cons {on:List (List Int)} {m:Nat} {i k:Int} (he:Edge on i k) (h:Run on m k):Run on (m+1) i:=by
 obtain ⟨w,hw⟩:=h
 exact ⟨w,.cons m i k w he hw⟩
theorem Run.inv {on:List (List Int)} {m:Nat} {i:Int} (h:Run on (m+1) i):∃k,Edge on i k∧Run on m k:=by
 obtain ⟨w,hw⟩:=h
 cases hw with
 | cons _ _ v _ he hw=>exact ⟨v,he,w,hw⟩
theorem aEz {on:List (List Int)} {n:Int} (hn:fL on n):∀(m:Nat) (i:Int),(0≤i∧i<n)→Run on m i→∃ws:List Int,ws.length=m+1∧(∀w∈ws,(0≤w∧w<n)∧(w=i∨Way on i w))∧ws.Pairwise (Way on)
 | 0,i,hi,_=>⟨[i],rfl,fun w hw=>by rw[List.mem_singleton.1 hw];exact ⟨hi,.inl rfl⟩,List.pairwise_singleton _ _⟩
 | m+1,i,hi,h=>by
  obtain ⟨k,he,hr⟩:=h.inv
  obtain ⟨ws,w1,w2,w3⟩:=aEz hn m k (hn.2 i k he) hr
  have hw:∀w∈ws,Way on i w:=fun w hw=>by
   rcases (w2 w hw).2 with rfl | h2
   ·exact .one _ _ he
   ·exact .more _ _ _ he h2
  refine ⟨i::ws,by simpa using w1,fun w h=>?_,List.pairwise_cons.2 ⟨hw,w3⟩⟩
  rcases List.mem_cons.1 h with rfl | h
  ·exact ⟨hi,.inl rfl⟩
  ·exact ⟨(w2 w h).1,.inr (hw w h)⟩
theorem aAh {on:List (List Int)} {n:Int} (hn:fL on n) (hno:¬Loops on n) {m:Nat} {i:Int} (hi:0≤i∧i<n) (h:Run on m i):(m:Int)<n:=by
 obtain ⟨ws,w1,w2,w3⟩:=aEz hn m i hi h
 have hnd:ws.Nodup:=by
  rw[List.nodup_iff_pairwise_ne]
  refine w3.imp_of_mem fun {a b} ha hb hw e=>?_
  subst e
  exact hno ⟨a,(w2 a ha).1,hw⟩
 have:=zB (by omega) hnd fun w hw=>(w2 w hw).1
 omega
structure RK (on:List (List Int)) (B:Int) (out:List Int):Prop where
 len:out.length=on.length
 run:∀i:Nat,i<on.length→0≤out.getD i 0∧Run on (out.getD i 0).toNat i
 top:∀i:Nat,out.getD i 0≤B
theorem RK.mono {on:List (List Int)} {B C:Int} {out:List Int} (h:RK on B out) (hc:B≤C):RK on C out:=⟨h.len,h.run,fun i=>Int.le_trans (h.top i) hc⟩
def LowR (on:List (List Int)) (r:Nat) (out:List Int):Prop:=∀i:Nat,i<on.length→∀m,m≤r→Run on m i→(m:Int)≤out.getD i 0
structure RankOk (on:List (List Int)) (out:List Int):Prop where
 len:out.length=on.length
 run:∀i:Nat,i<on.length→0≤out.getD i 0∧Run on (out.getD i 0).toNat i
 fix:∀u v:Int,0≤u→Edge on u v→out.getD v.toNat 0<out.getD u.toNat 0
theorem xK {on:List (List Int)} {n:Int} (hn:fL on n) {out:List Int} (h:RankOk on out):∀(m:Nat) (i:Int),(0≤i∧i<n)→Run on m i→(m:Int)≤out.getD i.toNat 0
 | 0,i,hi,_=>(h.run i.toNat (by have:=hn.1;omega)).1
 | m+1,i,hi,hr=>by
  obtain ⟨k,he,hk⟩:=hr.inv
  have h1:=xK hn h m k (hn.2 i k he) hk
  have h2:=h.fix i k hi.1 he
  omega
theorem aJb {on:List (List Int)} {n:Int} (hn:fL on n) {o1 o2:List Int} (h1:RankOk on o1) (h2:RankOk on o2) {i:Nat} (hi:i<on.length):o1.getD i 0≤o2.getD i 0:=by
 obtain ⟨h3,h4⟩:=h1.run i hi
 have:=xK hn h2 _ i (by have:=hn.1;omega) h4
 rw[Int.toNat_natCast] at this
 omega
theorem aKk {on:List (List Int)} {n:Int} (hn:fL on n) {o1 o2:List Int} (h1:RankOk on o1) (h2:RankOk on o2):o1=o2:=by
 apply List.ext_getElem
 ·rw[h1.len,h2.len]
 ·intro i h3 h4
  have hi:i<on.length:=by rw[← h1.len];exact h3
  have e1:o1[i]=o1.getD i 0:=by simp[List.getD_eq_getElem?_getD,h3]
  have e2:o2[i]=o2.getD i 0:=by simp[List.getD_eq_getElem?_getD,h4]
  rw[e1,e2]
  exact Int.le_antisymm (aJb hn h1 h2 hi) (aJb hn h2 h1 hi)
theorem aE0 {on:List (List Int)} {n:Int} (hn:fL on n) {out:List Int} (h:RankOk on out):¬Loops on n:=by
 rintro ⟨i,hi,hw⟩
 have key:∀u v:Int,Way on u v→0≤u→out.getD v.toNat 0<out.getD u.toNat 0:=by
  intro u v hw
  induction hw with
  | one u v he=>exact fun hu=>h.fix u v hu he
  | more u v w he _ ih=>
   intro hu
   have h1:=h.fix u v hu he
   have h2:=ih (hn.2 u v he).1
   omega
 have:=key i i hw hi.1
 omega
structure RP (on:List (List Int)) (r:Nat) (B:Int) (out0:List Int) (done:Int→Int→Prop) (x:List Int × Bool):Prop where
 rk:RK on B x.1
 low:LowR on r x.1
 dn:∀u v,done u v→∀m,m≤r→Run on m v→(m:Int)+1≤x.1.getD u.toNat 0
 no:x.2=false→x.1=out0∧∀u v,done u v→out0.getD v.toNat 0<out0.getD u.toNat 0
 yes:x.2=true→∃u v,0≤u∧Edge on u v∧out0.getD u.toNat 0≤out0.getD v.toNat 0
theorem RP.start {on:List (List Int)} {r:Nat} {B:Int} {out:List Int} (h:RK on B out) (h2:LowR on r out):RP on r B out (fun _ _=>False) (out,false):=
 ⟨h,h2,fun _ _ h=>h.elim,fun _=>⟨rfl,fun _ _ h=>h.elim⟩,fun h=>nomatch h⟩
theorem RP.mono {on:List (List Int)} {r:Nat} {B C:Int} {out0:List Int} {d e:Int→Int→Prop} {x:List Int × Bool} (h:RP on r B out0 d x) (hc:B≤C) (hd:∀u v,e u v→d u v):RP on r C out0 e x:=
 ⟨h.rk.mono hc,h.low,fun u v h1=>h.dn u v (hd u v h1),fun h1=>⟨(h.no h1).1,fun u v h2=>(h.no h1).2 u v (hd u v h2)⟩,h.yes⟩
theorem RP.turn {on:List (List Int)} {n:Int} (hn:fL on n) {r:Nat} {B:Int} {out0:List Int} {d:Int→Int→Prop} {x:List Int × Bool} (h:RP on r B out0 d x) {u v:Int} (hu:0≤u∧u<n) (he:Edge on u v) (hc:x.1.getD u.toNat 0≤x.1.getD v.toNat 0):
  RP on r (B+1) out0 (fun a b=>d a b∨a=u∧b=v) (x.1.set u.toNat (x.1.getD v.toNat 0+1),true):=by
 have hv:=hn.2 u v he
 have hl:u.toNat<x.1.length:=by rw[h.rk.len];have:=hn.1;omega
 have hs:∀q,(x.1.set u.toNat (x.1.getD v.toNat 0+1)).getD q 0=if q=u.toNat then x.1.getD v.toNat 0+1 else x.1.getD q 0:=fun q=>by
  rw[uS]
  by_cases e:q=u.toNat
  ·rw[if_pos ⟨e,by rw[e];exact hl⟩,if_pos e]
  ·rw[if_neg fun h=>e h.1,if_neg e]
 have up:∀q,x.1.getD q 0≤(x.1.set u.toNat (x.1.getD v.toNat 0+1)).getD q 0:=fun q=>by
  rw[hs]
  by_cases e:q=u.toNat
  ·rw[if_pos e,e];omega
  ·rw[if_neg e];exact Int.le_refl _
 obtain ⟨v0,v1⟩:=h.rk.run v.toNat (by have:=hn.1;omega)
 rw[Int.toNat_of_nonneg hv.1] at v1
 refine ⟨⟨by rw[List.length_set];exact h.rk.len,fun i hi=>?_,fun i=>?_⟩,fun i hi m hm hr=>Int.le_trans (h.low i hi m hm hr) (up i),fun a b hd m hm hr=>?_,fun h=>(nomatch h),fun _=>?_⟩
 ·show 0≤(x.1.set u.toNat (x.1.getD v.toNat 0+1)).getD i 0∧Run on ((x.1.set u.toNat (x.1.getD v.toNat 0+1)).getD i 0).toNat i
  rw[hs]
  by_cases e:i=u.toNat
  ·rw[if_pos e]
   refine ⟨by omega,?_⟩
   rw[show (x.1.getD v.toNat 0+1).toNat=(x.1.getD v.toNat 0).toNat+1 by omega,e,Int.toNat_of_nonneg hu.1]
   exact v1.cons he
  ·rw[if_neg e];exact h.rk.run i hi
 ·show (x.1.set u.toNat (x.1.getD v.toNat 0+1)).getD i 0≤B+1
  rw[hs]
  have:=h.rk.top i
  have:=h.rk.top v.toNat
  split<;>omega
 ·rcases hd with hd | ⟨rfl,rfl⟩
  ·exact Int.le_trans (h.dn a b hd m hm hr) (up a.toNat)
  ·show (m:Int)+1≤(x.1.set a.toNat (x.1.getD b.toNat 0+1)).getD a.toNat 0
   rw[hs,if_pos rfl]
   have:=h.low b.toNat (by have:=hn.1;omega) m hm (by rw[Int.toNat_of_nonneg hv.1];exact hr)
   omega
 ·by_cases hx:x.2=true
  ·exact h.yes hx
  ·obtain ⟨e,_⟩:=h.no (Bool.eq_false_iff.2 hx)
   exact ⟨u,v,hu.1,he,by rw[← e];exact hc⟩
theorem RP.skip {on:List (List Int)} {n:Int} (hn:fL on n) {r:Nat} {B:Int} {out0:List Int} {d:Int→Int→Prop} {x:List Int × Bool} (h:RP on r B out0 d x) {u v:Int} (hu:0≤u∧u<n) (he:Edge on u v) (hc:¬x.1.getD u.toNat 0≤x.1.getD v.toNat 0):
  RP on r (B+1) out0 (fun a b=>d a b∨a=u∧b=v) x:=by
 have hv:=hn.2 u v he
 refine ⟨h.rk.mono (by omega),h.low,fun a b hd m hm hr=>?_,fun hx=>⟨(h.no hx).1,fun a b hd=>?_⟩,h.yes⟩
 ·rcases hd with hd | ⟨rfl,rfl⟩
  ·exact h.dn a b hd m hm hr
  ·have:=h.low b.toNat (by have:=hn.1;omega) m hm (by rw[Int.toNat_of_nonneg hv.1];exact hr)
   omega
 ·rcases hd with hd | ⟨rfl,rfl⟩
  ·exact (h.no hx).2 a b hd
  ·rw[← (h.no hx).1];omega
theorem RP.stay {on:List (List Int)} {r:Nat} {B:Int} {out0:List Int} {d:Int→Int→Prop} {x:List Int × Bool} (h:RP on r B out0 d x) (hall:∀u v,0≤u→Edge on u v→d u v) (hx:x.2=false):RankOk on x.1:=by
 obtain ⟨e,h2⟩:=h.no hx
 exact ⟨h.rk.len,h.rk.run,fun u v hu he=>by rw[e];exact h2 u v (hall u v hu he)⟩
theorem RP.more {on:List (List Int)} {r:Nat} {B:Int} {out0:List Int} {d:Int→Int→Prop} {x:List Int × Bool} (h:RP on r B out0 d x) (hall:∀u v,0≤u→Edge on u v→d u v):LowR on (r+1) x.1:=fun i hi m hm hr=>by
 cases m with
 | zero=>exact (h.rk.run i hi).1
 | succ m=>
  obtain ⟨k,he,hk⟩:=hr.inv
  have:=h.dn i k (hall i k (by omega) he) m (by omega) hk
  rw[Int.toNat_natCast] at this
  omega
theorem RP.late {on:List (List Int)} {n:Int} (hn:fL on n) {r:Nat} {B C:Int} {out0:List Int} {d:Int→Int→Prop} {x:List Int × Bool} (h:RP on r B out0 d x) (h0:RK on C out0) (h1:LowR on r out0) (hr:n≤r) (hx:x.2=true):Loops on n:=by
 apply Classical.byContradiction
 intro hno
 obtain ⟨u,v,hu,he,hc⟩:=h.yes hx
 have hv:=hn.2 u v he
 have hul:=pS he
 obtain ⟨v0,v1⟩:=h0.run v.toNat (by have:=hn.1;omega)
 rw[Int.toNat_of_nonneg hv.1] at v1
 have h2:=v1.cons he
 have hun:0≤u∧u<n:=by have:=hn.1;omega
 have h3:=aAh hn hno hun h2
 have h4:=h1 u.toNat hul ((out0.getD v.toNat 0).toNat+1) (by omega) (by rw[Int.toNat_of_nonneg hu];exact h2)
 omega
theorem aQk (on:List (List Int)):RK on 0 (List.replicate on.length 0)∧LowR on 0 (List.replicate on.length 0):=by
 have hg:∀k,(List.replicate on.length (0:Int)).getD k 0=0:=fun k=>by
  rw[List.getD_eq_getElem?_getD,List.getElem?_replicate];split<;>rfl
 refine ⟨⟨by simp,fun i _=>?_,fun i=>by rw[hg];omega⟩,fun i _ m hm _=>by rw[hg];omega⟩
 rw[hg]
 exact ⟨Int.le_refl _,Run.zero _ _⟩
theorem rank_ex {on:List (List Int)} {n:Int} (hn:fL on n) (hno:¬Loops on n):∃out,RankOk on out:=by
 have hg:∀(i:Int),(0≤i∧i<n)→∃m,Run on m i∧∀q,Run on q i→q≤m:=fun i hi=>by
  have key:∀k:Nat,(∀q,Run on q i→q≤k)→∃m,Run on m i∧∀q,Run on q i→q≤m:=by
   intro k
   induction k with
   | zero=>exact fun h=>⟨0,Run.zero _ _,h⟩
   | succ k ih=>
    intro h
    by_cases hk:Run on (k+1) i
    ·exact ⟨k+1,hk,h⟩
    ·refine ih fun q hq=>?_
     have:=h q hq
     by_cases e:q=k+1
     ·subst e;exact absurd hq hk
     ·omega
  exact key n.toNat fun q hq=>by have:=aAh hn hno hi hq;omega
 have hf:∀i:Int,∃m:Nat,(0≤i∧i<n)→Run on m i∧∀q,Run on q i→q≤m:=fun i=>by
  by_cases hi:0≤i∧i<n
  ·obtain ⟨m,hm⟩:=hg i hi;exact ⟨m,fun _=>hm⟩
  ·exact ⟨0,fun h=>absurd h hi⟩
 obtain ⟨f,hf⟩:=Classical.axiomOfChoice hf
 have hln:=hn.1
 have hget:∀i:Nat,i<on.length→((List.range on.length).map fun i:Nat=>(f i:Int)).getD i 0=f i:=fun i hi=>by
  simp[List.getD_eq_getElem?_getD,hi]
 refine ⟨(List.range on.length).map fun i:Nat=>(f i:Int),by simp,fun i hi=>?_,fun u v hu he=>?_⟩
 ·rw[hget i hi]
  exact ⟨by omega,by rw[Int.toNat_natCast];exact (hf i (by omega)).1⟩
 ·have hul:=pS he
  have hv:=hn.2 u v he
  rw[hget u.toNat hul,hget v.toNat (by omega)]
  rw[Int.toNat_of_nonneg hu,Int.toNat_of_nonneg hv.1]
  have h1:=(hf v hv).1
  have h2:=(hf u (by omega)).2 _ (h1.cons he)
  omega
open Classical in
noncomputable def aOr (on:List (List Int)):List Int:=if h:∃out,RankOk on out then Classical.choose h else []
theorem aE1 {on:List (List Int)} {n:Int} (hn:fL on n) {out:List Int} (h:RankOk on out):aOr on=out:=by
 have hex:∃out,RankOk on out:=⟨out,h⟩
 unfold aOr
 rw[dif_pos hex]
 exact aKk hn (Classical.choose_spec hex) h
open Classical in
noncomputable def rkE (n:Int) (l:List (Int × Int)):Int:=if supE n l=0 then if Loops (onL n l) n then 27 else 0 else 1
open Classical in
noncomputable def rkR (n:Int) (l:List (Int × Int)):List Int:=if supE n l=0 then if Loops (onL n l) n then [] else aOr (onL n l) else []
theorem rk_len {n:Int} {l:List (Int × Int)} (h:supE n l=0) (h2:¬Loops (onL n l) n):rkE n l=0∧(rkR n l).length=n.toNat:=by
 have hn:=onL_rows (supE_rests h)
 obtain ⟨out,ho⟩:=rank_ex hn h2
 unfold rkE rkR
 rw[if_pos h,if_pos h,if_neg h2,if_neg h2,aE1 hn ho,ho.len,pT]
 exact ⟨rfl,rfl⟩
theorem aSd {n:Int} {l:List (Int × Int)} (h:¬supE n l=0):rkE n l=1∧rkR n l= []:=by
 unfold rkE rkR;rw[if_neg h,if_neg h];exact ⟨rfl,rfl⟩
theorem rk_loop {n:Int} {l:List (Int × Int)} (h:supE n l=0) (h2:Loops (onL n l) n):rkE n l=27∧rkR n l= []:=by
 unfold rkE rkR;rw[if_pos h,if_pos h,if_pos h2,if_pos h2];exact ⟨rfl,rfl⟩
theorem rk_fine {n:Int} {l:List (Int × Int)} (h:supE n l=0) {out:List Int} (h2:RankOk (onL n l) out):rkE n l=0∧rkR n l=out:=by
 have hn:=onL_rows (supE_rests h)
 have hno:=aE0 hn h2
 unfold rkE rkR;rw[if_pos h,if_pos h,if_neg hno,if_neg hno];exact ⟨rfl,aE1 hn h2⟩
def mostN (l:List (Int × Int)) (rk:List Int) (i:Int):Nat→Int
 | 0=> -1
 | j+1=>if (l.getD j (0,0)).1=i∧0≤(l.getD j (0,0)).2 then max (mostN l rk i j) (rk.getD (l.getD j (0,0)).2.toNat 0) else mostN l rk i j
theorem xL (l:List (Int × Int)) (rk:List Int) (i:Int):∀j,(mostN l rk i j= -1∨∃q,q<j∧(l.getD q (0,0)).1=i∧0≤(l.getD q (0,0)).2∧mostN l rk i j=rk.getD (l.getD q (0,0)).2.toNat 0)∧ -1≤mostN l rk i j∧∀q,q<j→(l.getD q (0,0)).1=i→0≤(l.getD q (0,0)).2→rk.getD (l.getD q (0,0)).2.toNat 0≤mostN l rk i j
 | 0=>⟨.inl rfl,Int.le_refl _,fun q hq=>absurd hq (Nat.not_lt_zero _)⟩
 | j+1=>by
  obtain ⟨h1,h2,h3⟩:=xL l rk i j
  unfold mostN
  by_cases hc:(l.getD j (0,0)).1=i∧0≤(l.getD j (0,0)).2
  ·rw[if_pos hc]
   refine ⟨?_,by omega,fun q hq e1 e2=>?_⟩
   ·by_cases hm:mostN l rk i j≤rk.getD (l.getD j (0,0)).2.toNat 0
    ·rw[Int.max_eq_right hm];exact .inr ⟨j,Nat.lt_succ_self _,hc.1,hc.2,rfl⟩
    ·rw[Int.max_eq_left (by omega)]
     rcases h1 with h1 | ⟨q,q1,q2,q3,q4⟩
     ·exact .inl h1
     ·exact .inr ⟨q,by omega,q2,q3,q4⟩
   ·by_cases e:q=j
    ·subst e;exact Int.le_max_right _ _
    ·exact Int.le_trans (h3 q (by omega) e1 e2) (Int.le_max_left _ _)
  ·rw[if_neg hc]
   refine ⟨?_,h2,fun q hq e1 e2=>?_⟩
   ·rcases h1 with h1 | ⟨q,q1,q2,q3,q4⟩
    ·exact .inl h1
    ·exact .inr ⟨q,by omega,q2,q3,q4⟩
   ·by_cases e:q=j
    ·subst e;exact absurd ⟨e1,e2⟩ hc
    ·exact h3 q (by omega) e1 e2
theorem rank_most {n:Int} {l:List (Int × Int)} (hr:pQ n l) {out:List Int} (h:RankOk (onL n l) out) {i:Nat} (hi:i<n.toNat):out.getD i 0=mostN l out i l.length+1:=by
 have hn:=onL_rows hr
 obtain ⟨r1,r2,r3,r4⟩:=id hr
 have hol:=pT n l
 obtain ⟨h1,h2,h3⟩:=xL l out i l.length
 have hin:0≤(i:Int)∧(i:Int)<n:=by omega
 have ed:∀v,Edge (onL n l) i v↔0≤v∧((i:Int),v)∈l:=fun v=>aC0 hin
 have lo:mostN l out i l.length+1≤out.getD i 0:=by
  rcases h1 with h1 | ⟨q,q1,q2,q3,q4⟩
  ·rw[h1];have:=(h.run i (by omega)).1;omega
  ·have he:Edge (onL n l) i (l.getD q (0,0)).2:=(ed _).2 ⟨q3,by rw[← q2];exact at_mem l q q1⟩
   have:=h.fix i _ (by omega) he
   rw[Int.toNat_natCast] at this
   rw[q4];omega
 refine Int.le_antisymm ?_ lo
 obtain ⟨g1,g2⟩:=h.run i (by omega)
 by_cases h0:out.getD i 0=0
 ·omega
 ·obtain ⟨m,em⟩:∃m,(out.getD i 0).toNat=m+1:=⟨(out.getD i 0).toNat-1,by omega⟩
  rw[em] at g2
  obtain ⟨k,he,hk⟩:=g2.inv
  have hkn:=hn.2 _ _ he
  have h4:=xK hn h m k hkn hk
  obtain ⟨k0,hm⟩:=(ed k).1 he
  obtain ⟨q,q1,q2⟩:=aM0 hm
  have h5:=h3 q q1 (by rw[q2]) (by rw[q2];exact k0)
  rw[q2] at h5
  have h5:out.getD k.toNat 0≤mostN l out i l.length:=h5
  omega
end EB
end
section
open Go Go.Proofs Go.Eng Go.Shelf IB Go.Lib Go.RowKit
namespace RB
theorem aSe {ls:List Lin} {l:List Mem} (h:(ofR ls l).2=0):(l.length≤512∧ls.length≤4096)∧¬badL ls∧¬badM l∧errS l l.length 0=0∧(outR ls l l.length).length≤4096∧(ofR ls l).1=outR ls l l.length:=by
 unfold ofR at h ⊢
 split at h
 ·exact absurd h (by decide)
 rename_i h1
 split at h
 ·exact absurd h (by decide)
 rename_i h2
 split at h
 ·exact absurd h (by decide)
 rename_i h3
 split at h
 ·rename_i h4;exact absurd h h4
 rename_i h4
 split at h
 ·exact absurd h (by decide)
 rename_i h5
 rw[if_neg h1,if_neg h2,if_neg h3,if_neg h4,if_neg h5]
 exact ⟨by omega,h2,h3,Classical.not_not.1 h4,by omega,rfl⟩
theorem aQn {ls:List Lin} {l:List Mem} {x:Int × Int} (h:x∈outR ls l l.length):0≤x.1∧x.1<l.length∧ -1≤x.2∧x.2<l.length∧x.1≠x.2:=by
 obtain ⟨i,h1,h2⟩:=(xO ls l x l.length).1 h
 rcases h2 with ⟨_,rfl⟩ | ⟨k,h3,h4,_,rfl⟩
 ·dsimp only;omega
 ·dsimp only;omega
theorem aSf {ls:List Lin} {l:List Mem} (h:(ofR ls l).2=0):EB.supE l.length (ofR ls l).1=0:=by
 obtain ⟨h1,_,_,_,h2,e⟩:=aSe h
 rw[e]
 unfold EB.supE
 rw[if_neg (by omega),if_neg (by omega)]
 refine EB.firstE_none fun j hj=>?_
 have hin:=aQn (EB.at_mem (outR ls l l.length) j hj)
 unfold EB.supAt
 rw[if_neg (by omega),if_neg hin.2.2.2.2,if_neg]
 rintro ⟨h0,hc⟩
 have hp:=List.pairwise_iff_getElem.1 (aE5 ls l l.length) (j-1) j (by omega) hj (by omega)
 have e1:(outR ls l l.length).getD (j-1) (0,0)=(outR ls l l.length)[j-1]'(by omega):=by simp[List.getD_eq_getElem?_getD,show j-1<(outR ls l l.length).length by omega]
 have e2:(outR ls l l.length).getD j (0,0)=(outR ls l l.length)[j]:=by simp[List.getD_eq_getElem?_getD,hj]
 rw[e1,e2] at hc
 unfold ltP at hp
 generalize (outR ls l l.length)[j-1]'(by omega)=a at*
 generalize (outR ls l l.length)[j]=b at*
 rcases hp with hp | ⟨hp,hq⟩
 ·have:EB.cmpI a.1 b.1= -1:=by unfold EB.cmpI;rw[if_pos hp]
  simp only[EB.orI,this] at hc
  rw[if_neg (by decide)] at hc
  omega
 ·have h3:EB.cmpI a.1 b.1=0:=by unfold EB.cmpI;rw[if_neg (by omega),if_neg (by omega)]
  have h4:EB.cmpI a.2 b.2= -1:=by unfold EB.cmpI;rw[if_pos hq]
  simp only[EB.orI,h3,h4] at hc
  rw[if_pos trivial,if_neg (by decide)] at hc
  omega
theorem aAj {l:List Mem} {i:Nat}:∀(n k:Nat),errR l i n k=0↔∀j,k≤j→j<k+n→j≠i→rstE (l.getD i mem0) (l.getD j mem0)=0
 | 0,k=>⟨fun _ j h1 h2=>by omega,fun _=>rfl⟩
 | n+1,k=>by
  have ih:=aAj (l:=l) (i:=i) n (k+1)
  unfold errR
  split
  ·rename_i h
   exact ⟨fun h2=>absurd h2 h.2,fun h2=>h2 k (Nat.le_refl _) (by omega) h.1⟩
  ·rename_i h
   rw[ih]
   constructor
   ·intro h2 j h3 h4 h5
    by_cases e:j=k
    ·subst e;exact Classical.not_not.1 fun h6=>h ⟨h5,h6⟩
    ·exact h2 j (by omega) (by omega) h5
   ·intro h2 j h3 h4 h5;exact h2 j (by omega) (by omega) h5
theorem aAk {l:List Mem}:∀(n k:Nat),errS l n k=0↔∀i,k≤i→i<k+n→errR l i l.length 0=0
 | 0,k=>⟨fun _ j h1 h2=>by omega,fun _=>rfl⟩
 | n+1,k=>by
  have ih:=aAk (l:=l) n (k+1)
  unfold errS
  split
  ·rename_i h
   exact ⟨fun h2=>absurd h2 h,fun h2=>h2 k (Nat.le_refl _) (by omega)⟩
  ·rename_i h
   rw[ih]
   constructor
   ·intro h2 j h3 h4
    by_cases e:j=k
    ·subst e;exact Classical.not_not.1 h
    ·exact h2 j (by omega) (by omega)
   ·intro h2 j h3 h4;exact h2 j (by omega) (by omega)
def qV:Nat→Option SV
 | 1=>some (.clo 118 [] [.lelem [.clo 81 [] []] 0])
 | 2=>some (.clo 82 [] [])
 | 3=>some (.clo 118 [] [.lelem [.clo 82 [] []] 0])
 | 4=>some (.clo 85 [] [])
 | 5=>some (.clo 81 [] [])
 | _=>none
set_option maxHeartbeats 4000000 in
theorem aR5 {a b:Int} (ha:1≤a∧a≤12) (hb:1≤b∧b≤12):findP qKs qVs a b=qV (qK a b):=by
 have h:∀a b:Fin 13,1≤a.val→1≤b.val→findP qKs qVs (a.val:Int) (b.val:Int)=qV (qK (a.val:Int) (b.val:Int)):=by
  intro a b h1 h2
  obtain ⟨a,ha⟩:=a
  obtain ⟨b,hb⟩:=b
  have hA:a=1∨a=2∨a=3∨a=4∨a=5∨a=6∨a=7∨a=8∨a=9∨a=10∨a=11∨a=12:=by dsimp only at h1;omega
  have hB:b=1∨b=2∨b=3∨b=4∨b=5∨b=6∨b=7∨b=8∨b=9∨b=10∨b=11∨b=12:=by dsimp only at h2;omega
  clear h1 h2
  rcases hA with h | h | h | h | h | h | h | h | h | h | h | h<;>subst h<;>(rcases hB with h | h | h | h | h | h | h | h | h | h | h | h)<;>subst h<;>rfl
 obtain ⟨n,rfl⟩:=Int.eq_ofNat_of_zero_le (show 0≤a by omega)
 obtain ⟨m,rfl⟩:=Int.eq_ofNat_of_zero_le (show 0≤b by omega)
 exact h ⟨n,by omega⟩ ⟨m,by omega⟩ (by show 1≤n;omega) (by show 1≤m;omega)
theorem qK_le (a b:Int):qK a b≤5:=by
 unfold qK
 repeat' split
 all_goals omega
theorem pP (i j:Nat):othI i (j+1)=othI i j+1∨(othI i j+1=i∧othI i (j+1)=i+1):=by
 unfold othI
 by_cases h:j+1<i
 ·rw[if_pos h,if_pos (by omega)];exact .inl rfl
 ·by_cases h2:j<i
  ·rw[if_neg h,if_pos h2];exact .inr ⟨by omega,by omega⟩
  ·rw[if_neg h,if_neg h2];exact .inl rfl
theorem uO (i j:Nat):othI i j≠i:=by unfold othI;split<;>omega
theorem aMe {i j n:Nat} (hi:i<n) (h:j<n-1):othI i j<n:=by unfold othI;split<;>omega
theorem nA {i n:Nat} (hi:i<n):othI i (n-1)=n:=by unfold othI;rw[if_neg (by omega)];omega
theorem rG (l:List Mem) (i:Nat):rowR l i (i+1)=rowR l i i:=if_neg fun h=>h.1 rfl
theorem uP (l:List Mem) (i:Nat):cC l i (i+1)↔cC l i i:=platP_succ.trans ⟨fun h=>h.resolve_right fun q=>q.1 rfl,.inl⟩
theorem yY (l:List Mem) {i:Nat} (hi:i<l.length):errR l i (l.length-i) i=errR l i (l.length-(i+1)) (i+1):=aJc hi fun h=>h.1 rfl
theorem aMf (l:List Mem) (i:Nat):rowR l i (othI i 0)= []:=by
 unfold othI
 split
 ·rfl
 ·have:i=0:=by omega
  subst this;exact rG l 0
theorem aJp (l:List Mem) (i:Nat):¬cC l i (othI i 0):=by
 unfold othI
 split
 ·exact xN
 ·have:i=0:=by omega
  subst this;rw[uP];exact xN
theorem aMg (l:List Mem) {i:Nat} (hi:i<l.length):errR l i l.length 0=errR l i (l.length-othI i 0) (othI i 0):=by
 unfold othI
 split
 ·rfl
 ·have:i=0:=by omega
  subst this;exact yY l hi
theorem rH {l:List Mem} {i j:Nat} (h:¬rstP (l.getD i mem0) (l.getD (othI i j) mem0)):rowR l i (othI i (j+1))=rowR l i (othI i j):=by
 have e:rowR l i (othI i j+1)=rowR l i (othI i j):=if_neg fun q=>h q.2
 rcases pP i j with h1 | ⟨h1,h2⟩
 ·rw[h1,e]
 ·rw[h2,rG,← e,h1]
theorem gE {l:List Mem} {i j:Nat} (h:rstP (l.getD i mem0) (l.getD (othI i j) mem0)):rowR l i (othI i (j+1))=rowR l i (othI i j)++ [((i:Int),(othI i j:Int))]:=by
 have e:rowR l i (othI i j+1)=rowR l i (othI i j)++ [((i:Int),(othI i j:Int))]:=if_pos ⟨uO i j,h⟩
 rcases pP i j with h1 | ⟨h1,h2⟩
 ·rw[h1,e]
 ·rw[h2,rG,← e,h1]
theorem plat_next {l:List Mem} {i j:Nat}:cC l i (othI i (j+1))↔cC l i (othI i j)∨(rstP (l.getD i mem0) (l.getD (othI i j) mem0)∧(l.getD (othI i j) mem0).1=10):=by
 have e:cC l i (othI i j+1)↔cC l i (othI i j)∨(rstP (l.getD i mem0) (l.getD (othI i j) mem0)∧(l.getD (othI i j) mem0).1=10):=
  platP_succ.trans ⟨fun h=>h.imp id fun q=>q.2,fun h=>h.imp id fun q=>⟨uO i j,q⟩⟩
 rcases pP i j with h1 | ⟨h1,h2⟩
 ·rw[h1,e]
 ·rw[h2,uP,← e,h1]
theorem cB {l:List Mem} {i j:Nat} (hi:i<l.length) (hj:othI i j<l.length) (h:rstE (l.getD i mem0) (l.getD (othI i j) mem0)=0):errR l i (l.length-othI i j) (othI i j)=errR l i (l.length-othI i (j+1)) (othI i (j+1)):=by
 have e:=aJc hj (show ¬(othI i j≠i∧rstE (l.getD i mem0) (l.getD (othI i j) mem0)≠0) from fun q=>q.2 h)
 rcases pP i j with h1 | ⟨h1,h2⟩
 ·rw[h1,e]
 ·rw[h2,e,h1,yY l hi]
theorem aPs {l:List Mem} {i j:Nat} (hj:othI i j<l.length) (h:¬rstE (l.getD i mem0) (l.getD (othI i j) mem0)=0):errR l i (l.length-othI i j) (othI i j)=rstE (l.getD i mem0) (l.getD (othI i j) mem0):=aOt hj ⟨uO i j,h⟩
structure AskP (m n:Mem) (v:SV) (p:Prop) (e:Int):Prop where
 found:findP qKs qVs m.1 n.1=some v
 rest:rstP m n↔p
 err:rstE m n=e
abbrev tRr:Ty:=.pair (.int .i64) (.int .i64)
abbrev agC (m:Mem):List SV:=[I m.1,I m.2.1,I m.2.2.1,S m.2.2.2.1.1,S m.2.2.2.1.2.1,S m.2.2.2.1.2.2,S m.2.2.2.2.1.1,S m.2.2.2.2.1.2.1,S m.2.2.2.2.1.2.2,I m.2.2.2.2.2.1,I m.2.2.2.2.2.2]
theorem aFi {ls:List Lin} {l:List Mem} {i:Nat} (h:walP ls (l.getD i mem0) (cC l i l.length)):outR ls l (i+1)=(outR ls l i++ [((i:Int),(-1:Int))])++rowR l i l.length:=by
 show (if walP ls (l.getD i mem0) (cC l i l.length) then outR ls l i++ [((i:Int),(-1:Int))] else outR ls l i)++rowR l i l.length= _
 rw[if_pos h]
theorem aFj {ls:List Lin} {l:List Mem} {i:Nat} (h:¬walP ls (l.getD i mem0) (cC l i l.length)):outR ls l (i+1)=outR ls l i++rowR l i l.length:=by
 show (if walP ls (l.getD i mem0) (cC l i l.length) then outR ls l i++ [((i:Int),(-1:Int))] else outR ls l i)++rowR l i l.length= _
 rw[if_neg h]
theorem b14e (ls:List Lin) (l:List Mem) (hbad:(512<l.length∨4096<ls.length)∨badL ls∨badM l):body Tryz.prog [aCy,aHv,aHr,aHx,aHw,aHq,aCw,aCv,aHp,aHu] {} true Tryz.f14 [.agg [.any,.any,.any,.seq tLin ls],.seq tMem l] (.tup [.seq tRr (ofR ls l).1,I (ofR ls l).2]):=by
 by_cases h1:512<l.length∨4096<ls.length
 ·have e:ofR ls l=([],4):=if_pos h1
  rw[e]
  by_cases h2:512<l.length
  ·(repeat' first|refine ZR ?_|refine Zg fun _=>?_)
   (conv=>whnf)
   (repeat' first|exact trivial|rfl|refine And.intro ?_ ?_)
  ·have h3:4096<ls.length:=h1.resolve_left h2
   (repeat' first|refine ZR ?_|refine Zg fun _=>?_)
   (conv=>whnf)
   (repeat' first|exact trivial|rfl|refine And.intro ?_ ?_)
 by_cases h2:badL ls
 ·have e:ofR ls l=([],1):=by unfold ofR;rw[if_neg h1,if_pos h2]
  rw[e]
  have hq:0≤ixG badX ls:=(iY badX ls lin0).2 h2
  (repeat' first|refine ZR ?_|refine Zg fun _=>?_)
  (conv=>whnf)
  (repeat' first|exact trivial|rfl|refine And.intro ?_ ?_)
 have h3:badM l:=(hbad.resolve_left h1).resolve_left h2
 have e:ofR ls l=([],1):=by unfold ofR;rw[if_neg h1,if_neg h2,if_pos h3]
 rw[e]
 have hq:¬0≤ixG badX ls:=fun q=>h2 ((iY badX ls lin0).1 q)
 have hq2:0≤ixG badY l:=(iY badY l mem0).2 h3
 (repeat' first|refine ZR ?_|refine Zg fun _=>?_)
 (conv=>whnf)
 (repeat' first|exact trivial|rfl|refine And.intro ?_ ?_)
set_option maxHeartbeats 40000000 in
theorem b14m (ls:List Lin) (l:List Mem) (h1:¬(512<l.length∨4096<ls.length)) (h2:¬badL ls) (h3:¬badM l) (hkey:KeyOK Tryz.prog 86) (hV:ent.entL qVs qVs):body Tryz.prog [aCy,aHv,aHr,aHx,aHw,aHq,aCw,aCv,aHp,aHu] { asks:=[(1,[5]),(3,[9])] } true Tryz.f14 [.agg [.any,.any,.any,.seq tLin ls],.seq tMem l] (.tup [.seq tRr (ofR ls l).1,I (ofR ls l).2]):=by
 have hq:¬0≤ixG badX ls:=fun q=>h2 ((iY badX ls lin0).1 q)
 have hq2:¬0≤ixG badY l:=fun q=>h3 ((iY badY l mem0).1 q)
 have hmem:∀j,j<l.length→memE (l.getD j mem0)=0:=fun j hj=>Classical.byContradiction fun q=>h3 ⟨j,hj,q⟩
 have hlin:okLs ls:=fun j hj=>Classical.byContradiction fun q=>h2 ⟨j,hj,q⟩
 have e:ofR ls l=if errS l l.length 0≠0 then ([],errS l l.length 0) else if 4096<(outR ls l l.length).length then ([],4) else (outR ls l l.length,0):=by unfold ofR;rw[if_neg h1,if_neg h2,if_neg h3]
 (repeat' first|refine ZX ?_|refine Zg fun _=>?_)
 refine Ask.mk ⟨{ X:=Nat,pre:=fun i=>i≤l.length∧errS l l.length 0=errS l (l.length-i) i,mod:=fun i _=>[(7,.ref 5 1),(38,I i)],heap:=fun i _=>[.cells [.any,.any,.any,.seq tLin ls] 29,.vec 1 tRr [] 45,.cells [.ref 1 1] 34,.cells [I 0] 35,.cells [.fmp qKs qVs] 77,.vec 1 tRr (outR ls l i) 45],objs:=[5],mu:=fun i=>l.length-i },rfl,?_⟩
 (repeat' first|refine ZG ?_|fail)
 refine ⟨⟨(0:Nat),⟨Nat.zero_le _,rfl⟩,?_⟩,fun (i:Nat) hi=>?_⟩
 ·(repeat' (first | with_reducible exact hV | ((conv=>whnf);first | exact trivial | (refine And.intro ?_ ?_))))
  all_goals first | with_reducible rfl | rfl | skip
  all_goals (repeat' first|exact Nat.one_pos)
 obtain ⟨hi,he⟩:=hi
 by_cases hlt:i<l.length
 ·have hpre:0≤(i:Int)∧(i:Int)<l.length:=by omega
  have hmi:=hmem i hlt
  have hl5:l.length≤512:=by omega
  have hol:=aE3 ls l i
  have hol2:i*(l.length+1)≤512*513:=Nat.mul_le_mul (by omega) (by omega)
  have hol3:(outR ls l i).length≤262656:=Nat.le_trans hol hol2
  have hrl:∀n,(rowR l i n).length≤n:=xM l i
  (repeat' first|refine ZX ?_|refine Zg fun _=>?_)
  refine Ask.mk ⟨{ X:=Nat,pre:=fun j=>j≤l.length-1∧errR l i l.length 0=errR l i (l.length-othI i j) (othI i j),mod:=fun _ _=>[],heap:=fun j _=>[.cells [.any,.any,.any,.seq tLin ls] 29,.vec 1 tRr [] 45,.cells [.ref 1 1] 34,.cells [I 0] 35,.cells [.fmp qKs qVs] 77,.vec 1 tRr (outR ls l i) 45,.cells [I i] 3,.cells (agC (l.getD i mem0)) 51,.cells [.bl (cC l i (othI i j)) (Classical.propDecidable _)] 4,.vec 1 tRr (rowR l i (othI i j)) 45,.cells [.ref 9 1] 34],objs:=[9],mu:=fun j=>j },rfl,?_⟩
  (repeat' first|refine ZG ?_|fail)
  refine ⟨⟨(0:Nat),rfl,⟨Nat.zero_le _,aMg l hlt⟩,?_⟩,fun (j:Nat) hj (hjl:j<l.length-1)=>?_,fun (j:Nat) hj (hje:j=l.length-1)=>?_⟩
  ·(repeat' (first | with_reducible exact hV | ((conv=>whnf);first | exact trivial | (refine And.intro ?_ ?_))))
   all_goals first | with_reducible rfl | rfl | skip
   ·(conv=>whnf)
    exact aJp l i
   ·(conv=>whnf)
    exact Nat.one_pos
   ·(conv=>whnf)
    exact (aMf l i).symm
  ·have hjo:othI i j<l.length:=aMe hlt hjl
   have hmj:=hmem _ hjo
   have hrl:=hrl (othI i j)
   have hmm:memE ((l.getD i mem0).1,(l.getD i mem0).2.1,(l.getD i mem0).2.2.1,((l.getD i mem0).2.2.2.1.1,(l.getD i mem0).2.2.2.1.2.1,(l.getD i mem0).2.2.2.1.2.2),((l.getD i mem0).2.2.2.2.1.1,(l.getD i mem0).2.2.2.2.1.2.1,(l.getD i mem0).2.2.2.2.1.2.2),(l.getD i mem0).2.2.2.2.2.1,(l.getD i mem0).2.2.2.2.2.2)=0∧memE ((l.getD (othI i j) mem0).1,(l.getD (othI i j) mem0).2.1,(l.getD (othI i j) mem0).2.2.1,((l.getD (othI i j) mem0).2.2.2.1.1,(l.getD (othI i j) mem0).2.2.2.1.2.1,(l.getD (othI i j) mem0).2.2.2.1.2.2),((l.getD (othI i j) mem0).2.2.2.2.1.1,(l.getD (othI i j) mem0).2.2.2.2.1.2.1,(l.getD (othI i j) mem0).2.2.2.2.1.2.2),(l.getD (othI i j) mem0).2.2.2.2.2.1,(l.getD (othI i j) mem0).2.2.2.2.2.2)=0:=⟨hmi,hmj⟩
   obtain ⟨hj1,hj2⟩:=hj
   have hq5:=qK_le (l.getD i mem0).1 (l.getD (othI i j) mem0).1
   have hqe:∃q,qK (l.getD i mem0).1 (l.getD (othI i j) mem0).1=q:=⟨_,rfl⟩
   obtain ⟨q,hq0⟩:=hqe
   rw[hq0] at hq5
   have hff:=aR5 (fK hmi).1 (fK hmj).1
   rw[hq0] at hff
   show hnfL (itO l i j) _
   have hres:∀x,rstE (l.getD i mem0) (l.getD (othI i j) mem0)=x→¬x=0→(ofR ls l).1= []∧(ofR ls l).2=x:=fun x hx h0=>by
    have e1:errR l i l.length 0=x:=by rw[hj2,aPs hjo (by rw[hx];exact h0),hx]
    have e2:errS l l.length 0=x:=by rw[he,aOv hlt (by rw[e1];exact h0),e1]
    rw[e,e2,if_pos h0];exact ⟨rfl,rfl⟩
   match q,hq5 with
   | 0,_=>
    have hf:findP qKs qVs (l.getD i mem0).1 (l.getD (othI i j) mem0).1=none:=hff
    have hr:¬rstP (l.getD i mem0) (l.getD (othI i j) mem0):=by unfold rstP;rw[hq0];exact id
    have hz:rstE (l.getD i mem0) (l.getD (othI i j) mem0)=0:=by unfold rstE;rw[hq0];rfl
    (repeat' first|refine ZG ?_|refine Zg fun _=>?_)
    refine ⟨(j+1:Nat),rfl,⟨hjl,hj2.trans (cB hlt hjo hz)⟩,?_⟩
    (repeat' (first | with_reducible exact hV | ((conv=>whnf);first | exact trivial | (refine And.intro ?_ ?_))))
    all_goals first | with_reducible rfl | rfl | skip
    ·(conv=>whnf)
     exact (plat_next.trans ⟨fun h=>h.resolve_right fun q=>hr q.1,.inl⟩).symm
    ·(conv=>whnf)
     exact Nat.one_pos
    ·(conv=>whnf)
     exact (rH hr).symm
   | 1,_=>
    have hf:findP qKs qVs (l.getD i mem0).1 (l.getD (othI i j) mem0).1=some (.clo 118 [] [.lelem [.clo 81 [] []] 0]):=hff
    have hR:rstP (l.getD i mem0) (l.getD (othI i j) mem0)↔((l.getD i mem0).2.1=(l.getD (othI i j) mem0).2.1∧crB (l.getD i mem0) (l.getD (othI i j) mem0)):=by unfold rstP;rw[hq0];exact Iff.rfl
    have hE:rstE (l.getD i mem0) (l.getD (othI i j) mem0)=(if (l.getD i mem0).2.1=(l.getD (othI i j) mem0).2.1 then crE (l.getD i mem0) (l.getD (othI i j) mem0) else 0):=by unfold rstE;rw[hq0];rfl
    (repeat' first|refine ZG ?_|refine Zg fun _=>?_)
    refine ⟨⟨_,hf,?_⟩⟩
    (refine Br.mk (fun _=>?_) (fun _=>?_))
    ·rename_i hb
     obtain ⟨w1,w2⟩:=hres _ hE hb
     (conv=>whnf)
     (repeat' first|exact trivial|rfl|refine And.intro ?_ ?_)
     all_goals (conv=>whnf)
     all_goals first | exact w1 | exact w1.symm | exact w2.symm
    rename_i hb
    have hz:rstE (l.getD i mem0) (l.getD (othI i j) mem0)=0:=hE.trans (Classical.not_not.1 hb)
    (refine Br.mk (fun _=>?_) (fun _=>?_))
    ·rename_i hb
     have hr:rstP (l.getD i mem0) (l.getD (othI i j) mem0):=hR.2 hb
     (repeat' first|refine ZR ?_|fail)
     (refine Br.mk (fun _=>?_) (fun _=>?_))
     ·rename_i hp
      refine ⟨(j+1:Nat),rfl,⟨hjl,hj2.trans (cB hlt hjo hz)⟩,?_⟩
      (repeat' (first | with_reducible exact hV | ((conv=>whnf);first | exact trivial | (refine And.intro ?_ ?_))))
      all_goals first | with_reducible rfl | rfl | skip
      ·(conv=>whnf)
       exact plat_next.2 (.inl hp)
      ·(conv=>whnf)
       exact Nat.one_pos
      ·(conv=>whnf)
       exact (gE hr).symm
     ·rename_i hp
      refine ⟨(j+1:Nat),rfl,⟨hjl,hj2.trans (cB hlt hjo hz)⟩,?_⟩
      (repeat' (first | with_reducible exact hV | ((conv=>whnf);first | exact trivial | (refine And.intro ?_ ?_))))
      all_goals first | with_reducible rfl | rfl | skip
      ·(conv=>whnf)
       exact ⟨fun h=>plat_next.2 (.inr ⟨hr,h⟩),fun h=>((plat_next.1 h).resolve_left hp).2⟩
      ·(conv=>whnf)
       exact Nat.one_pos
      ·(conv=>whnf)
       exact (gE hr).symm
    ·rename_i hb
     have hr:¬rstP (l.getD i mem0) (l.getD (othI i j) mem0):=fun h=>hb (hR.1 h)
     refine ⟨(j+1:Nat),rfl,⟨hjl,hj2.trans (cB hlt hjo hz)⟩,?_⟩
     (repeat' (first | with_reducible exact hV | ((conv=>whnf);first | exact trivial | (refine And.intro ?_ ?_))))
     all_goals first | with_reducible rfl | rfl | skip
     ·(conv=>whnf)
      exact (plat_next.trans ⟨fun h=>h.resolve_right fun q=>hr q.1,.inl⟩).symm
     ·(conv=>whnf)
      exact Nat.one_pos
     ·(conv=>whnf)
      exact (rH hr).symm
   | 2,_=>
    have hf:findP qKs qVs (l.getD i mem0).1 (l.getD (othI i j) mem0).1=some (.clo 82 [] []):=hff
    have hR:rstP (l.getD i mem0) (l.getD (othI i j) mem0)↔tchP (l.getD i mem0) (l.getD (othI i j) mem0):=by unfold rstP;rw[hq0];exact Iff.rfl
    have hz:rstE (l.getD i mem0) (l.getD (othI i j) mem0)=0:=by unfold rstE;rw[hq0];rfl
    (repeat' first|refine ZG ?_|refine Zg fun _=>?_)
    refine ⟨⟨_,hf,?_⟩⟩
    (repeat' first|refine ZR ?_|fail)
    (refine Br.mk (fun _=>?_) (fun _=>?_))
    ·rename_i hb
     have hr:rstP (l.getD i mem0) (l.getD (othI i j) mem0):=hR.2 hb
     (repeat' first|refine ZR ?_|fail)
     (refine Br.mk (fun _=>?_) (fun _=>?_))
     ·rename_i hp
      refine ⟨(j+1:Nat),rfl,⟨hjl,hj2.trans (cB hlt hjo hz)⟩,?_⟩
      (repeat' (first | with_reducible exact hV | ((conv=>whnf);first | exact trivial | (refine And.intro ?_ ?_))))
      all_goals first | with_reducible rfl | rfl | skip
      ·(conv=>whnf)
       exact plat_next.2 (.inl hp)
      ·(conv=>whnf)
       exact Nat.one_pos
      ·(conv=>whnf)
       exact (gE hr).symm
     ·rename_i hp
      refine ⟨(j+1:Nat),rfl,⟨hjl,hj2.trans (cB hlt hjo hz)⟩,?_⟩
      (repeat' (first | with_reducible exact hV | ((conv=>whnf);first | exact trivial | (refine And.intro ?_ ?_))))
      all_goals first | with_reducible rfl | rfl | skip
      ·(conv=>whnf)
       exact ⟨fun h=>plat_next.2 (.inr ⟨hr,h⟩),fun h=>((plat_next.1 h).resolve_left hp).2⟩
      ·(conv=>whnf)
       exact Nat.one_pos
      ·(conv=>whnf)
       exact (gE hr).symm
    ·rename_i hb
     have hr:¬rstP (l.getD i mem0) (l.getD (othI i j) mem0):=fun h=>hb (hR.1 h)
     refine ⟨(j+1:Nat),rfl,⟨hjl,hj2.trans (cB hlt hjo hz)⟩,?_⟩
     (repeat' (first | with_reducible exact hV | ((conv=>whnf);first | exact trivial | (refine And.intro ?_ ?_))))
     all_goals first | with_reducible rfl | rfl | skip
     ·(conv=>whnf)
      exact (plat_next.trans ⟨fun h=>h.resolve_right fun q=>hr q.1,.inl⟩).symm
     ·(conv=>whnf)
      exact Nat.one_pos
     ·(conv=>whnf)
      exact (rH hr).symm
   | 3,_=>
    have hf:findP qKs qVs (l.getD i mem0).1 (l.getD (othI i j) mem0).1=some (.clo 118 [] [.lelem [.clo 82 [] []] 0]):=hff
    have hR:rstP (l.getD i mem0) (l.getD (othI i j) mem0)↔((l.getD i mem0).2.1=(l.getD (othI i j) mem0).2.1∧tchP (l.getD i mem0) (l.getD (othI i j) mem0)):=by unfold rstP;rw[hq0];exact Iff.rfl
    have hz:rstE (l.getD i mem0) (l.getD (othI i j) mem0)=0:=by unfold rstE;rw[hq0];rfl
    (repeat' first|refine ZG ?_|refine Zg fun _=>?_)
    refine ⟨⟨_,hf,?_⟩⟩
    (repeat' first|refine ZR ?_|fail)
    (refine Br.mk (fun _=>?_) (fun _=>?_))
    ·rename_i hb
     have hr:rstP (l.getD i mem0) (l.getD (othI i j) mem0):=hR.2 hb
     (repeat' first|refine ZR ?_|fail)
     (refine Br.mk (fun _=>?_) (fun _=>?_))
     ·rename_i hp
      refine ⟨(j+1:Nat),rfl,⟨hjl,hj2.trans (cB hlt hjo hz)⟩,?_⟩
      (repeat' (first | with_reducible exact hV | ((conv=>whnf);first | exact trivial | (refine And.intro ?_ ?_))))
      all_goals first | with_reducible rfl | rfl | skip
      ·(conv=>whnf)
       exact plat_next.2 (.inl hp)
      ·(conv=>whnf)
       exact Nat.one_pos
      ·(conv=>whnf)
       exact (gE hr).symm
     ·rename_i hp
      refine ⟨(j+1:Nat),rfl,⟨hjl,hj2.trans (cB hlt hjo hz)⟩,?_⟩
      (repeat' (first | with_reducible exact hV | ((conv=>whnf);first | exact trivial | (refine And.intro ?_ ?_))))
      all_goals first | with_reducible rfl | rfl | skip
      ·(conv=>whnf)
       exact ⟨fun h=>plat_next.2 (.inr ⟨hr,h⟩),fun h=>((plat_next.1 h).resolve_left hp).2⟩
      ·(conv=>whnf)
       exact Nat.one_pos
      ·(conv=>whnf)
       exact (gE hr).symm
    ·rename_i hb
     have hr:¬rstP (l.getD i mem0) (l.getD (othI i j) mem0):=fun h=>hb (hR.1 h)
     refine ⟨(j+1:Nat),rfl,⟨hjl,hj2.trans (cB hlt hjo hz)⟩,?_⟩
     (repeat' (first | with_reducible exact hV | ((conv=>whnf);first | exact trivial | (refine And.intro ?_ ?_))))
     all_goals first | with_reducible rfl | rfl | skip
     ·(conv=>whnf)
      exact (plat_next.trans ⟨fun h=>h.resolve_right fun q=>hr q.1,.inl⟩).symm
     ·(conv=>whnf)
      exact Nat.one_pos
     ·(conv=>whnf)
      exact (rH hr).symm
   | 4,_=>
    have hf:findP qKs qVs (l.getD i mem0).1 (l.getD (othI i j) mem0).1=some (.clo 85 [] []):=hff
    have hR:rstP (l.getD i mem0) (l.getD (othI i j) mem0)↔metP (l.getD (othI i j) mem0) (l.getD i mem0).2.2.2.2.1:=by unfold rstP;rw[hq0];exact Iff.rfl
    have hz:rstE (l.getD i mem0) (l.getD (othI i j) mem0)=0:=by unfold rstE;rw[hq0];rfl
    (repeat' first|refine ZG ?_|refine Zg fun _=>?_)
    refine ⟨⟨_,hf,?_⟩⟩
    (repeat' first|refine ZR ?_|fail)
    (refine Br.mk (fun _=>?_) (fun _=>?_))
    ·rename_i hb
     have hr:rstP (l.getD i mem0) (l.getD (othI i j) mem0):=hR.2 hb
     (repeat' first|refine ZR ?_|fail)
     (refine Br.mk (fun _=>?_) (fun _=>?_))
     ·rename_i hp
      refine ⟨(j+1:Nat),rfl,⟨hjl,hj2.trans (cB hlt hjo hz)⟩,?_⟩
      (repeat' (first | with_reducible exact hV | ((conv=>whnf);first | exact trivial | (refine And.intro ?_ ?_))))
      all_goals first | with_reducible rfl | rfl | skip
      ·(conv=>whnf)
       exact plat_next.2 (.inl hp)
      ·(conv=>whnf)
       exact Nat.one_pos
      ·(conv=>whnf)
       exact (gE hr).symm
     ·rename_i hp
      refine ⟨(j+1:Nat),rfl,⟨hjl,hj2.trans (cB hlt hjo hz)⟩,?_⟩
      (repeat' (first | with_reducible exact hV | ((conv=>whnf);first | exact trivial | (refine And.intro ?_ ?_))))
      all_goals first | with_reducible rfl | rfl | skip
      ·(conv=>whnf)
       exact ⟨fun h=>plat_next.2 (.inr ⟨hr,h⟩),fun h=>((plat_next.1 h).resolve_left hp).2⟩
      ·(conv=>whnf)
       exact Nat.one_pos
      ·(conv=>whnf)
       exact (gE hr).symm
    ·rename_i hb
     have hr:¬rstP (l.getD i mem0) (l.getD (othI i j) mem0):=fun h=>hb (hR.1 h)
     refine ⟨(j+1:Nat),rfl,⟨hjl,hj2.trans (cB hlt hjo hz)⟩,?_⟩
     (repeat' (first | with_reducible exact hV | ((conv=>whnf);first | exact trivial | (refine And.intro ?_ ?_))))
     all_goals first | with_reducible rfl | rfl | skip
     ·(conv=>whnf)
      exact (plat_next.trans ⟨fun h=>h.resolve_right fun q=>hr q.1,.inl⟩).symm
     ·(conv=>whnf)
      exact Nat.one_pos
     ·(conv=>whnf)
      exact (rH hr).symm
   | 5,_=>
    have hf:findP qKs qVs (l.getD i mem0).1 (l.getD (othI i j) mem0).1=some (.clo 81 [] []):=hff
    have hR:rstP (l.getD i mem0) (l.getD (othI i j) mem0)↔crB (l.getD i mem0) (l.getD (othI i j) mem0):=by unfold rstP;rw[hq0];exact Iff.rfl
    have hE:rstE (l.getD i mem0) (l.getD (othI i j) mem0)=crE (l.getD i mem0) (l.getD (othI i j) mem0):=by unfold rstE;rw[hq0];rfl
    (repeat' first|refine ZG ?_|refine Zg fun _=>?_)
    refine ⟨⟨_,hf,?_⟩⟩
    (refine Br.mk (fun _=>?_) (fun _=>?_))
    ·rename_i hb
     obtain ⟨w1,w2⟩:=hres _ hE hb
     (conv=>whnf)
     (repeat' first|exact trivial|rfl|refine And.intro ?_ ?_)
     all_goals (conv=>whnf)
     all_goals first | exact w1 | exact w1.symm | exact w2.symm
    rename_i hb
    have hz:rstE (l.getD i mem0) (l.getD (othI i j) mem0)=0:=hE.trans (Classical.not_not.1 hb)
    (refine Br.mk (fun _=>?_) (fun _=>?_))
    ·rename_i hb
     have hr:rstP (l.getD i mem0) (l.getD (othI i j) mem0):=hR.2 hb
     (repeat' first|refine ZR ?_|fail)
     (refine Br.mk (fun _=>?_) (fun _=>?_))
     ·rename_i hp
      refine ⟨(j+1:Nat),rfl,⟨hjl,hj2.trans (cB hlt hjo hz)⟩,?_⟩
      (repeat' (first | with_reducible exact hV | ((conv=>whnf);first | exact trivial | (refine And.intro ?_ ?_))))
      all_goals first | with_reducible rfl | rfl | skip
      ·(conv=>whnf)
       exact plat_next.2 (.inl hp)
      ·(conv=>whnf)
       exact Nat.one_pos
      ·(conv=>whnf)
       exact (gE hr).symm
     ·rename_i hp
      refine ⟨(j+1:Nat),rfl,⟨hjl,hj2.trans (cB hlt hjo hz)⟩,?_⟩
      (repeat' (first | with_reducible exact hV | ((conv=>whnf);first | exact trivial | (refine And.intro ?_ ?_))))
      all_goals first | with_reducible rfl | rfl | skip
      ·(conv=>whnf)
       exact ⟨fun h=>plat_next.2 (.inr ⟨hr,h⟩),fun h=>((plat_next.1 h).resolve_left hp).2⟩
      ·(conv=>whnf)
       exact Nat.one_pos
      ·(conv=>whnf)
       exact (gE hr).symm
    ·rename_i hb
     have hr:¬rstP (l.getD i mem0) (l.getD (othI i j) mem0):=fun h=>hb (hR.1 h)
     refine ⟨(j+1:Nat),rfl,⟨hjl,hj2.trans (cB hlt hjo hz)⟩,?_⟩
     (repeat' (first | with_reducible exact hV | ((conv=>whnf);first | exact trivial | (refine And.intro ?_ ?_))))
     all_goals first | with_reducible rfl | rfl | skip
     ·(conv=>whnf)
      exact (plat_next.trans ⟨fun h=>h.resolve_right fun q=>hr q.1,.inl⟩).symm
     ·(conv=>whnf)
      exact Nat.one_pos
     ·(conv=>whnf)
      exact (rH hr).symm
   | q+6,h=>exact absurd h (by omega)
  ·subst hje
   obtain ⟨_,hj2⟩:=hj
   rw[nA hlt,aOu] at hj2
   have hrl:(rowR l i (othI i (l.length-1))).length≤512:=by have:=hrl (othI i (l.length-1));rw[nA hlt] at this ⊢;omega
   have he2:=he.trans (aQm hlt hj2)
   have hwl:okLs ls∧okS ((l.getD i mem0).2.2.2.1.1,(l.getD i mem0).2.2.2.1.2.1,(l.getD i mem0).2.2.2.1.2.2)∧okS ((l.getD i mem0).2.2.2.2.1.1,(l.getD i mem0).2.2.2.2.1.2.1,(l.getD i mem0).2.2.2.2.1.2.2):=⟨hlin,(fK hmi).2.1,(fK hmi).2.2.1⟩
   (repeat' first|refine ZX ?_|fail)
   (refine Br.mk (fun _=>?_) (fun _=>?_))
   ·rename_i hw
    rw[nA hlt] at hw
    have hw:walP ls (l.getD i mem0) (cC l i l.length):=hw
    (repeat' first|refine ZR ?_|fail)
    refine ⟨(i+1:Nat),by show l.length-(i+1)<l.length-i;omega,⟨hlt,he2⟩,?_⟩
    (repeat' (first | with_reducible exact hV | ((conv=>whnf);first | exact trivial | (refine And.intro ?_ ?_))))
    all_goals first | with_reducible rfl | rfl | skip
    ·(conv=>whnf)
     exact Nat.one_pos
    ·(conv=>whnf)
     rw[nA hlt]
     exact (aFi hw).symm
   ·rename_i hw
    rw[nA hlt] at hw
    have hw:¬walP ls (l.getD i mem0) (cC l i l.length):=hw
    (repeat' first|refine ZX ?_|fail)
    refine ⟨(i+1:Nat),by show l.length-(i+1)<l.length-i;omega,⟨hlt,he2⟩,?_⟩
    (repeat' (first | with_reducible exact hV | ((conv=>whnf);first | exact trivial | (refine And.intro ?_ ?_))))
    all_goals first | with_reducible rfl | rfl | skip
    ·(conv=>whnf)
     exact Nat.one_pos
    ·(conv=>whnf)
     rw[nA hlt]
     exact (aFj hw).symm
 ·have hil:i=l.length:=by omega
  subst hil
  have e2:errS l l.length 0=0:=he.trans aOw
  by_cases hlen:4096<(outR ls l l.length).length
  ·have w1:(ofR ls l).1= []:=by rw[e,e2,if_neg (not_not_intro rfl),if_pos hlen]
   have w2:(ofR ls l).2=4:=by rw[e,e2,if_neg (not_not_intro rfl),if_pos hlen]
   (repeat' first|refine ZR ?_|refine Zg fun _=>?_)
   (conv=>whnf)
   (repeat' first|exact trivial|rfl|refine And.intro ?_ ?_)
   all_goals (conv=>whnf)
   all_goals first | exact w1 | exact w1.symm | exact w2.symm
  ·have w1:(ofR ls l).1=outR ls l l.length:=by rw[e,e2,if_neg (not_not_intro rfl),if_neg hlen]
   have w2:(ofR ls l).2=0:=by rw[e,e2,if_neg (not_not_intro rfl),if_neg hlen]
   (repeat' first|refine ZR ?_|refine Zg fun _=>?_)
   (conv=>whnf)
   (repeat' first|exact trivial|rfl|refine And.intro ?_ ?_)
   all_goals (conv=>whnf)
   all_goals first | exact w1 | exact w1.symm | exact w2.symm
end RB
end
section
open Go Go.Proofs Go.Eng Go.Shelf
namespace EB
structure BI (on:List (List Int)) (n i:Int) (k:Nat) (x:List Bool × List Int):Prop where
 len:x.1.length=on.length
 pos:0<x.2.length
 td0:x.2.getD 0 0=i
 rng:∀q,q<x.2.length→0≤x.2.getD q 0∧x.2.getD q 0<n
 mrk:∀v:Nat,x.1.getD v false=true→Way on i v∧(v:Int)∈x.2.drop 1
 tdm:∀v∈x.2.drop 1,x.1.getD v.toNat false=true
 nd:(x.2.drop 1).Nodup
 dn:∀q,q<k→∀v,Edge on (x.2.getD q 0) v→x.1.getD v.toNat false=true
theorem BI.size {on:List (List Int)} {n i:Int} (hn:fL on n) {k:Nat} {x:List Bool × List Int} (h:BI on n i k x):x.2.length≤n.toNat+1:=by
 have:=zB (n:=n) (by have:=hn.1;omega) h.nd fun v hv=>by
  obtain ⟨q,hq,rfl⟩:=List.getElem_of_mem (List.mem_of_mem_drop hv)
  have:=h.rng q hq
  rw[List.getD_eq_getElem?_getD,List.getElem?_eq_getElem hq] at this
  exact this
 rw[List.length_drop] at this
 omega
theorem BI.turn {on:List (List Int)} {n i:Int} (hn:fL on n) {k:Nat} {x:List Bool × List Int} (h:BI on n i k x) {v:Int} (hk:k<x.2.length) (he:Edge on (x.2.getD k 0) v) (hv:¬x.1.getD v.toNat false=true):BI on n i k (x.1.set v.toNat true,x.2++ [v]):=by
 have hvn:=hn.2 _ _ he
 have hl:v.toNat<x.1.length:=by rw[h.len];have:=hn.1;omega
 have hs:∀q,(x.1.set v.toNat true).getD q false=if q=v.toNat then true else x.1.getD q false:=fun q=>by
  rw[uS]
  by_cases e:q=v.toNat
  ·rw[if_pos ⟨e,by rw[e];exact hl⟩,if_pos e]
  ·rw[if_neg fun h=>e h.1,if_neg e]
 have hp:=h.pos
 have hd:(x.2++ [v]).drop 1=x.2.drop 1++ [v]:=by rw[List.drop_append_of_le_length (by omega)]
 have hq:∀q,q<x.2.length→(x.2++ [v]).getD q 0=x.2.getD q 0:=fun q hq=>by
  rw[List.getD_eq_getElem?_getD,List.getD_eq_getElem?_getD,List.getElem?_append_left hq]
 have hw:Way on i v:=by
  by_cases e:k=0
  ·subst e;rw[h.td0] at he;exact .one _ _ he
  ·have hm:x.2.getD k 0∈x.2.drop 1:=by
    rw[List.getD_eq_getElem?_getD,List.getElem?_eq_getElem hk]
    refine List.mem_iff_getElem.2 ⟨k-1,by rw[List.length_drop];omega,?_⟩
    rw[List.getElem_drop]
    congr 1
    omega
   have h1:=h.tdm _ hm
   have h2:=(h.mrk _ h1).1
   rw[Int.toNat_of_nonneg (h.rng k hk).1] at h2
   exact h2.snoc he
 refine ⟨by rw[List.length_set];exact h.len,by simp,by rw[hq 0 hp];exact h.td0,fun q hq'=>?_,fun u hu=>?_,fun u hu=>?_,?_,fun q hqk u hu=>?_⟩
 ·by_cases e:q<x.2.length
  ·rw[hq q e];exact h.rng q e
  ·have:q=x.2.length:=by simp at hq';omega
   subst this
   rw[List.getD_eq_getElem?_getD,List.getElem?_append_right (Nat.le_refl _)]
   simpa using hvn
 ·rw[hd]
  rw[hs] at hu
  by_cases e:u=v.toNat
  ·have e2:(u:Int)=v:=by omega
   rw[e2]
   exact ⟨hw,List.mem_append.2 (.inr (List.mem_singleton.2 rfl))⟩
  ·rw[if_neg e] at hu
   obtain ⟨h1,h2⟩:=h.mrk u hu
   exact ⟨h1,List.mem_append.2 (.inl h2)⟩
 ·rw[hd] at hu
  rw[hs]
  rcases List.mem_append.1 hu with hu | hu
  ·have:=h.tdm u hu
   split
   ·rfl
   ·exact this
  ·rw[List.mem_singleton.1 hu,if_pos rfl]
 ·rw[hd,List.nodup_append]
  refine ⟨h.nd,by simp,fun a ha b hb e=>?_⟩
  rw[List.mem_singleton.1 hb] at e
  subst e
  exact hv (h.tdm a ha)
 ·have hqq:q<x.2.length:=by omega
  rw[hq q hqq] at hu
  have:=h.dn q hqk u hu
  rw[hs]
  split
  ·rfl
  ·exact this
theorem BI.next {on:List (List Int)} {n i:Int} {k:Nat} {x:List Bool × List Int} (h:BI on n i k x) (hd:∀v,Edge on (x.2.getD k 0) v→x.1.getD v.toNat false=true):BI on n i (k+1) x:=
 ⟨h.len,h.pos,h.td0,h.rng,h.mrk,h.tdm,h.nd,fun q hq v hv=>by
  by_cases e:q=k
  ·subst e;exact hd v hv
  ·exact h.dn q (by omega) v hv⟩
def LV (on:List (List Int)) (tg:Int) (d:Int) (out:List Int):Prop:=out.length=on.length∧∀u:Nat,u<on.length→(0≤cG on tg u∧cG on tg u≤d→out.getD u 0=cG on tg u)∧(¬(0≤cG on tg u∧cG on tg u≤d)→out.getD u 0= -1)
def LM (on:List (List Int)) (tg:Int) (d:Int) (done:Int→Int→Prop) (out:List Int):Prop:=out.length=on.length∧∀u:Nat,u<on.length→(0≤cG on tg u∧cG on tg u≤d→out.getD u 0=cG on tg u)∧(¬(0≤cG on tg u∧cG on tg u≤d)→(out.getD u 0= -1∧∀v,done u v→¬cG on tg v=d)∨(out.getD u 0=d+1∧cG on tg u=d+1))
theorem LV.start {on:List (List Int)} {tg d:Int} {out:List Int} (h:LV on tg d out):LM on tg d (fun _ _=>False) out:=
 ⟨h.1,fun u hu=>⟨(h.2 u hu).1,fun h1=>.inl ⟨(h.2 u hu).2 h1,fun _ h=>h.elim⟩⟩⟩
theorem LM.is {on:List (List Int)} {n tg d:Int} (hn:fL on n) (hd:0≤d) {done:Int→Int→Prop} {out:List Int} (h:LM on tg d done out) {v:Int} (hv:0≤v∧v<n):out.getD v.toNat 0=d↔cG on tg v=d:=by
 have h1:=h.2 v.toNat (by have:=hn.1;omega)
 rw[Int.toNat_of_nonneg hv.1] at h1
 by_cases hc:0≤cG on tg v∧cG on tg v≤d
 ·rw[h1.1 hc]
 ·rcases h1.2 hc with ⟨e,_⟩ | ⟨e,_⟩<;>rw[e]<;>constructor<;>intro<;>omega
theorem aKl {on:List (List Int)} {tg u v:Int} (he:Edge on u v) (h:0≤cG on tg v):0≤cG on tg u∧cG on tg u≤cG on tg v+1:=by
 rcases aC3 (on:=on) tg v with h1 | ⟨d,h1,hw⟩
 ·omega
 ·obtain ⟨e,h2,_,h3⟩:=aC2 (WayN.cons d u v tg he hw)
  omega
theorem aKm {on:List (List Int)} {tg u:Int} {d:Int} (hd:0≤d) (h:cG on tg u=d+1):∃v,Edge on u v∧cG on tg v=d:=by
 rcases aC3 (on:=on) tg u with h1 | ⟨e,h1,hw⟩
 ·omega
 ·obtain ⟨q,hq⟩:=aC1 (p:=fun m=>WayN on m u tg) hw
  have e2:=uT hq
  obtain ⟨k,rfl⟩:∃k,q=k+1:=⟨q-1,by omega⟩
  obtain ⟨v,he,hv⟩:=aFr hq
  exact ⟨v,he,by rw[uT hv];omega⟩
theorem LM.turn {on:List (List Int)} {n tg d:Int} (hn:fL on n) (hd:0≤d) {done:Int→Int→Prop} {out:List Int} (h:LM on tg d done out) {u v:Int} (hu:0≤u∧u<n) (he:Edge on u v) (h1:out.getD v.toNat 0=d) (h2:out.getD u.toNat 0<0):
  LM on tg d (fun a b=>done a b∨a=u∧b=v) (out.set u.toNat (d+1)):=by
 have hv:=hn.2 u v he
 have hl:u.toNat<out.length:=by rw[h.1];have:=hn.1;omega
 have hs:∀q,(out.set u.toNat (d+1)).getD q 0=if q=u.toNat then d+1 else out.getD q 0:=fun q=>by
  rw[uS]
  by_cases e:q=u.toNat
  ·rw[if_pos ⟨e,by rw[e];exact hl⟩,if_pos e]
  ·rw[if_neg fun h=>e h.1,if_neg e]
 have dv:=(h.is hn hd hv).1 h1
 have hu2:=h.2 u.toNat (by have:=hn.1;omega)
 rw[Int.toNat_of_nonneg hu.1] at hu2
 have hnot:¬(0≤cG on tg u∧cG on tg u≤d):=fun hc=>by
  have:=hu2.1 hc;omega
 have hde:=aKl he (tg:=tg) (by omega)
 refine ⟨by rw[List.length_set];exact h.1,fun q hq=>?_⟩
 rw[hs]
 by_cases e:q=u.toNat
 ·rw[if_pos e,e,Int.toNat_of_nonneg hu.1]
  exact ⟨fun hc=>absurd hc hnot,fun _=>.inr ⟨rfl,by omega⟩⟩
 ·rw[if_neg e]
  refine ⟨(h.2 q hq).1,fun hc=>?_⟩
  rcases (h.2 q hq).2 hc with ⟨e1,e2⟩ | h3
  ·refine .inl ⟨e1,fun w hw=>?_⟩
   rcases hw with hw | ⟨ha,_⟩
   ·exact e2 w hw
   ·omega
  ·exact .inr h3
theorem LM.skip {on:List (List Int)} {n tg d:Int} (hn:fL on n) (hd:0≤d) {done:Int→Int→Prop} {out:List Int} (h:LM on tg d done out) {u v:Int} (hu:0≤u∧u<n) (he:Edge on u v) (hc:¬(out.getD v.toNat 0=d∧out.getD u.toNat 0<0)):
  LM on tg d (fun a b=>done a b∨a=u∧b=v) out:=by
 have hv:=hn.2 u v he
 have dv:=h.is hn hd hv
 refine ⟨h.1,fun q hq=>⟨(h.2 q hq).1,fun hc2=>?_⟩⟩
 rcases (h.2 q hq).2 hc2 with ⟨e1,e2⟩ | h3
 ·refine .inl ⟨e1,fun w hw=>?_⟩
  rcases hw with hw | ⟨ha,rfl⟩
  ·exact e2 w hw
  ·intro hdw
   refine hc ⟨dv.2 hdw,?_⟩
   rw[show u.toNat=q by omega,e1];omega
 ·exact .inr h3
theorem LM.next {on:List (List Int)} {tg d:Int} (hd:0≤d) {done:Int→Int→Prop} {out:List Int} (h:LM on tg d done out) (hall:∀u v,0≤u→Edge on u v→done u v):LV on tg (d+1) out:=by
 refine ⟨h.1,fun u hu=>?_⟩
 obtain ⟨h1,h2⟩:=h.2 u hu
 by_cases hc:0≤cG on tg u∧cG on tg u≤d
 ·exact ⟨fun _=>h1 hc,fun h3=>absurd ⟨hc.1,by omega⟩ h3⟩
 ·rcases h2 hc with ⟨e1,e2⟩ | ⟨e1,e2⟩
  ·refine ⟨fun h3=>?_,fun _=>e1⟩
   exfalso
   obtain ⟨v,he,hv⟩:=aKm (on:=on) (tg:=tg) (u:=u) hd (by omega)
   exact e2 v (hall u v (by omega) he) hv
  ·exact ⟨fun _=>by rw[e1,e2],fun h3=>absurd ⟨by omega,by omega⟩ h3⟩
end EB
end
section
open Go Go.Proofs Go.Eng Go.Shelf
namespace EB
def Asc (l:List Int):Prop:=l.Pairwise (· < ·)
def lU (p:Nat→Bool) (n:Nat):List Int:=((List.range n).filter p).map fun i:Nat=>(i:Int)
theorem aG3 (p:Nat→Bool) (n:Nat):lU p (n+1)=if p n=true then lU p n++ [(n:Int)] else lU p n:=by
 unfold lU
 rw[List.range_succ,List.filter_append,List.map_append]
 cases h:p n<;>simp[h]
theorem aKn (p:Nat→Bool) (n:Nat):(lU p n).length≤n:=by
 unfold lU
 rw[List.length_map]
 exact Nat.le_trans (List.length_filter_le _ _) (by simp)
theorem aKo (p:Nat→Bool) (n:Nat) (x:Int):x∈lU p n↔0≤x∧x.toNat<n∧p x.toNat=true:=by
 unfold lU
 simp only[List.mem_map,List.mem_filter,List.mem_range]
 constructor
 ·rintro ⟨i,⟨h1,h2⟩,rfl⟩;exact ⟨by omega,by rw[Int.toNat_natCast];exact h1,by rw[Int.toNat_natCast];exact h2⟩
 ·rintro ⟨h0,h1,h2⟩;exact ⟨x.toNat,⟨h1,h2⟩,by omega⟩
theorem markL_asc (p:Nat→Bool) (n:Nat):Asc (lU p n):=by
 unfold lU Asc
 rw[List.pairwise_map]
 exact (List.pairwise_lt_range.filter p).imp fun h=>by omega
def looL (n:Int) (l:List (Int × Int)):List Int:=lU (fun i=> !jR l l.length i) n.toNat
def looR (n:Int) (l:List (Int × Int)):List Int:=if supE n l=0 then looL n l else []
def looE (n:Int) (l:List (Int × Int)):Int:=if supE n l=0 then 0 else 1
theorem aKp (l:List (Int × Int)) (i:Nat):jR l l.length i=l.any fun r=>decide (r.1=(i:Int)):=by
 unfold jR;rw[List.take_length]
theorem looL_mem {n:Int} {l:List (Int × Int)} {i:Nat} (hi:i<n.toNat):(i:Int)∈looL n l↔¬(l.any fun r=>decide (r.1=(i:Int)))=true:=by
 unfold looL
 rw[aKo,Int.toNat_natCast,aKp]
 constructor
 ·rintro ⟨_,_,h⟩ hc
  rw[hc] at h
  exact absurd h (by decide)
 ·intro h
  refine ⟨by omega,hi,?_⟩
  cases hc:(l.any fun r=>decide (r.1=(i:Int)))
  ·rfl
  ·exact absurd hc h
end EB
end
section
open Go Go.Proofs Go.Eng Go.Shelf EB
namespace SB
abbrev tRr:Ty:=.pair (.int .i64) (.int .i64)
end SB
end
section
open Go Go.Proofs Go.Eng Go.Shelf EB
namespace SB
theorem b3021 (n:Int) (l:List (Int × Int)):body Tryz.prog [EB.c43] { asks:=[(0,[]),(2,[2])] } true Tryz.f21 [I n,.seq tRr l] (.tup [Ls (looR n l),I (looE n l)]):=by
 by_cases h:supE n l=0
 case neg=>
  have e1:looR n l= []:=if_neg h
  have e2:looE n l=1:=if_neg h
  rw[e1,e2]
  (repeat' first|refine ZR ?_|fail)
  (conv=>whnf)
  (repeat' first|exact trivial|rfl|refine And.intro ?_ ?_)
 have e1:looR n l=looL n l:=if_pos h
 have e2:looE n l=0:=if_pos h
 rw[e1,e2]
 obtain ⟨r1,r2,r3,r4⟩:=supE_rests h
 (repeat' first|refine ZR ?_|fail)
 refine Need.mk (show 0≤n∧n≤n∧n≤140737488355328∧n*((1:Nat):Int)≤140737488355328 by omega) ?_
 (repeat'((conv=>whnf);first|refine Zg fun _=>?_|fail))
 refine Ask.mk ⟨{ X:=Nat,pre:=fun j=>j≤l.length,mod:=fun j _=>[(20,I j)],heap:=fun j _=>[.vec 1 (.int .i64) [] 3,.vec 1 .bool (jA n.toNat l j) 4],mu:=fun j=>l.length-j },rfl,?_⟩
 (repeat' first|refine ZG ?_|fail)
 refine ⟨⟨(0:Nat),Nat.zero_le _,?_⟩,fun (j:Nat) hj=>?_⟩
 ·(repeat' first|exact trivial|rfl|refine And.intro ?_ ?_)
  all_goals exact (aFl _ _).symm
 have hj:j≤l.length:=hj
 by_cases hlt:j<l.length
 ·obtain ⟨q1,q2,q3,q4⟩:=r4 j hlt
  have hlen:=rI n.toNat l j
  have hu:(l.getD j (0,0)).1=(((l.getD j (0,0)).1.toNat:Nat):Int):=by omega
  (repeat' first|refine ZR ?_|refine Zg fun _=>?_)
  refine cF (l.getD j (0,0)).1.toNat (by omega) ?_
  (repeat' first|refine ZR ?_|fail)
  refine ⟨(j+1:Nat),by show l.length-(j+1)<l.length-j;omega,hlt,?_⟩
  (repeat' first|exact trivial|rfl|refine And.intro ?_ ?_)
  all_goals exact aFm n.toNat l j _ hlt hu (by omega)
 ·have e:j=l.length:=by omega
  subst e
  have hlen:=rI n.toNat l l.length
  (repeat' first|refine ZR ?_|refine Zg fun _=>?_)
  refine Ask.mk ⟨{ X:=Nat,pre:=fun i=>i≤n.toNat,mod:=fun i _=>[(9,.ref 2 1),(31,I i)],objs:=[2],heap:=fun i _=>[.vec 1 (.int .i64) [] 3,.vec 1 .bool (jA n.toNat l l.length) 4,.vec 1 (.int .i64) (lU (fun i=> !jR l l.length i) i) 3],mu:=fun i=>n.toNat-i },rfl,?_⟩
  (repeat' first|refine ZG ?_|fail)
  refine ⟨⟨(0:Nat),Nat.zero_le _,by (repeat' first|exact trivial|rfl|exact Nat.one_pos|refine And.intro ?_ ?_)⟩,fun (i:Nat) hi=>?_⟩
  have hi:i≤n.toNat:=hi
  by_cases hlt:i<n.toNat
  ·have hg:=aJq n.toNat l l.length i hlt
   have hml:=aKn (fun i=> !jR l l.length i) i
   have hms:=aG3 (fun i=> !jR l l.length i) i
   cases hw:jR l l.length i with
   | true=>
    rw[hw] at hms hg
    rw[if_neg (by decide)] at hms
    (repeat' first|refine ZR ?_|fail)
    refine ⟨(i+1:Nat),by show n.toNat-(i+1)<n.toNat-i;omega,hlt,?_⟩
    (repeat' first|exact trivial|rfl|exact Nat.one_pos|refine And.intro ?_ ?_)
    all_goals exact hms.symm
   | false=>
    rw[hw] at hms hg
    rw[if_pos (by decide)] at hms
    have hg:¬(jA n.toNat l l.length).getD i false=true:=by rw[hg];decide
    (repeat' first|refine ZR ?_|fail)
    refine ⟨(i+1:Nat),by show n.toNat-(i+1)<n.toNat-i;omega,hlt,?_⟩
    (repeat' first|exact trivial|rfl|exact Nat.one_pos|refine And.intro ?_ ?_)
    all_goals exact hms.symm
  ·have e:i=n.toNat:=by omega
   subst e
   (repeat' first|refine ZR ?_|fail)
   (conv=>whnf)
   (repeat' first|exact trivial|rfl|refine And.intro ?_ ?_)
def c3021:Con:=aI 21 true fun args K=>match args with | [.val (.int .i64 n),.seq (.pair (.int .i64) (.int .i64)) l]=>K (.tup [Ls (looR n l),I (looE n l)]) | _=>False
theorem k3021:aG Tryz.prog c3021:=by
 refine aB rfl (enters_of Tryz.func21 (by kernel_rfl) rfl) ?_
 intro args K h
 simp only[c3021] at h
 split at h
 ·rename_i n l;exact ⟨_,h,aA (by simp[EB.k43]) Tryz.func21 (by simp[Tryz.ntmps21]) rfl (b3021 n l)⟩
 ·exact h.elim
end SB
end
section
open Go Go.Proofs Go.Eng Go.Shelf EB
namespace SB
def dnR (on:List (List Int)) (i:Nat) (u v:Int):Prop:=0≤u∧u.toNat<i∧EB.Edge on u v
def dnQ (on:List (List Int)) (i q:Nat) (u v:Int):Prop:=dnR on i u v∨(u=(i:Int)∧∃p,p<q∧v=(on.getD i []).getD p 0)
theorem aMh {on:List (List Int)} {i:Nat} {u v:Int} (h:dnQ on i 0 u v):dnR on i u v:=h.resolve_right fun ⟨_,p,hp,_⟩=>absurd hp (Nat.not_lt_zero _)
theorem aCz {on:List (List Int)} {i q:Nat} {u v:Int} (h:dnQ on i (q+1) u v):dnQ on i q u v∨u=(i:Int)∧v=(on.getD i []).getD q 0:=by
 rcases h with h | ⟨h1,p,hp,h2⟩
 ·exact .inl (.inl h)
 ·by_cases e:p=q
  ·subst e;exact .inr ⟨h1,h2⟩
  ·exact .inl (.inr ⟨h1,p,by omega,h2⟩)
theorem aMi {on:List (List Int)} {i:Nat} {u v:Int} (h:dnR on (i+1) u v):dnQ on i (on.getD i []).length u v:=by
 obtain ⟨h1,h2,h3⟩:=h
 by_cases e:u.toNat<i
 ·exact .inl ⟨h1,e,h3⟩
 ·have hu:u=(i:Int):=by omega
  refine .inr ⟨hu,?_⟩
  unfold EB.Edge at h3
  rw[hu,Int.toNat_natCast] at h3
  obtain ⟨p,hp,rfl⟩:=List.getElem_of_mem h3
  exact ⟨p,hp,by rw[List.getD_eq_getElem?_getD (l:=on.getD i []),List.getElem?_eq_getElem hp];rfl⟩
theorem aPt {on:List (List Int)} {n:Int} (hn:fL on n) {u v:Int} (h:0≤u) (he:EB.Edge on u v):dnR on on.length u v:=by
 refine ⟨h,pS he,he⟩
set_option maxHeartbeats 4000000 in
theorem b3018 (n:Int) (l:List (Int × Int)):body Tryz.prog [EB.c43,EB.c69] { asks:=[(0,[]),(2,[]),(4,[])] } true Tryz.f18 [I n,.seq tRr l] (.tup [Ls (rkR n l),I (rkE n l)]):=by
 by_cases h:supE n l=0
 case neg=>
  obtain ⟨e1,e2⟩:=aSd h
  rw[e1,e2]
  (repeat' first|refine ZR ?_|fail)
  (conv=>whnf)
  (repeat' first|exact trivial|rfl|refine And.intro ?_ ?_)
 have hro:=supE_rests h
 obtain ⟨r1,r2,r3,r4⟩:=id hro
 have hrw:=onL_rows hro
 have hol:=pT n l
 have hrl:∀u,((onL n l).getD u []).length≤4096:=fun u=>by
  by_cases hu:u<n.toNat
  ·have e:(onL n l).getD u []=lM l l.length u:=tZ _ _ _ _ hu
   rw[e];exact Nat.le_trans (zA _ _ _) r1
  ·rw[List.getD_eq_getElem?_getD,List.getElem?_eq_none (by omega)];exact Nat.zero_le _
 obtain ⟨on,hon⟩:∃on,on=onL n l:=⟨_,rfl⟩
 (repeat' first|refine ZR ?_|fail)
 refine Ask.mk ⟨{ X:=Nat × List Int,pre:=fun x=>x.1≤n.toNat+1∧RK (onL n l) ((x.1:Int)*2097152) x.2∧LowR (onL n l) x.1 x.2,mod:=fun x _=>[(8,I x.1)],heap:=fun x _=>[.vec 1 (.int .i64) [] 3,.vec 1 (.int .i64) x.2 3],mu:=fun x=>n.toNat+2-x.1 },rfl,?_⟩
 (repeat' first|refine ZG ?_|fail)
 refine ⟨⟨((0:Nat),List.replicate n.toNat (0:Int)),⟨Nat.zero_le _,?_⟩,?_⟩,fun (x:Nat × List Int) hx=>?_⟩
 ·have:=aQk (onL n l)
  rw[hol] at this
  exact ⟨this.1.mono (by show (0:Int)≤((0:Nat):Int)*2097152;omega),this.2⟩
 ·(repeat' first|exact trivial|rfl|refine And.intro ?_ ?_)
 obtain ⟨x1,x2,x3⟩:=hx
 have x1:x.1≤n.toNat+1:=x1
 (repeat'((conv=>whnf);first|refine Zg fun _=>?_|fail))
 refine Ask.mk ⟨{ X:=(List Int × Bool) × Nat,pre:=fun y=>y.2≤(onL n l).length∧RP (onL n l) x.1 ((x.1:Int)*2097152+(y.2:Int)*4096) x.2 (dnR (onL n l) y.2) y.1,mod:=fun y _=>[(9,.bl (y.1.2=true) inferInstance),(26,I y.2)],heap:=fun y _=>[.vec 1 (.int .i64) [] 3,.vec 1 (.int .i64) y.1.1 3],mu:=fun y=>(onL n l).length-y.2 },rfl,?_⟩
 (repeat' first|refine ZG ?_|fail)
 refine ⟨⟨((x.2,false),(0:Nat)),⟨Nat.zero_le _,(RP.start x2 x3).mono (by omega) fun u v hd=>absurd hd.2.1 (Nat.not_lt_zero _)⟩,?_⟩,fun (y:(List Int × Bool) × Nat) hy=>?_⟩
 ·(repeat' first|exact trivial|rfl|refine And.intro ?_ ?_)
  intro h
  exact nomatch h
 obtain ⟨y1,y2⟩:=hy
 have y1:y.2≤(onL n l).length:=y1
 (refine Br.mk (fun _=>?_) (fun _=>?_))
 ·have hlt:y.2<(onL n l).length:=by omega
  have hrow:=hrl y.2
  (repeat' first|refine ZG ?_|refine Zg fun _=>?_)
  refine Ask.mk ⟨{ X:=(List Int × Bool) × Nat,pre:=fun z=>z.2≤((onL n l).getD y.2 []).length∧RP (onL n l) x.1 ((x.1:Int)*2097152+(y.2:Int)*4096+z.2) x.2 (dnQ (onL n l) y.2 z.2) z.1,mod:=fun z _=>[(9,.bl (z.1.2=true) inferInstance),(34,I z.2)],heap:=fun z _=>[.vec 1 (.int .i64) [] 3,.vec 1 (.int .i64) z.1.1 3],mu:=fun z=>((onL n l).getD y.2 []).length-z.2 },rfl,?_⟩
  (repeat' first|refine ZG ?_|fail)
  refine ⟨⟨(y.1,(0:Nat)),⟨Nat.zero_le _,y2.mono (by omega) fun u v hd=>aMh hd⟩,?_⟩,fun (z:(List Int × Bool) × Nat) hz=>?_⟩
  ·(repeat' first|exact trivial|rfl|refine And.intro ?_ ?_)
  obtain ⟨z1,z2⟩:=hz
  have z1:z.2≤((onL n l).getD y.2 []).length:=z1
  have hzl:=z2.rk.len
  (refine Br.mk (fun _=>?_) (fun _=>?_))
  ·have hzt:z.2<((onL n l).getD y.2 []).length:=by omega
   have he:EB.Edge (onL n l) y.2 (((onL n l).getD y.2 []).getD z.2 0):=by
    unfold EB.Edge
    rw[Int.toNat_natCast,List.getD_eq_getElem?_getD (l:=(onL n l).getD y.2 []),List.getElem?_eq_getElem hzt];exact List.getElem_mem _
   obtain ⟨k0,k1⟩:=hrw.2 _ _ he
   have htop:=z2.rk.top (((onL n l).getD y.2 []).getD z.2 0).toNat
   have hlow:=(z2.rk.run (((onL n l).getD y.2 []).getD z.2 0).toNat (by omega)).1
   have hyn:(0:Int)≤(y.2:Int)∧(y.2:Int)<n:=by omega
   (repeat'((conv=>whnf);first|refine Zg fun _=>?_|refine Zn ?_|refine Zj ?_|(apply Pin.mk;apply Exists.intro)|apply Pinned.mk rfl rfl|fail))
   refine cF (((onL n l).getD y.2 []).getD z.2 0).toNat (by omega) ?_
   (repeat'((conv=>whnf);first|refine Zg fun _=>?_|(apply Pin.mk;apply Exists.intro)|apply Pinned.mk rfl rfl|fail))
   (refine Br.mk (fun _=>?_) (fun _=>?_))
   ·rename_i hc
    have hst:=(z2.turn hrw hyn he (by rw[Int.toNat_natCast];exact hc)).mono (C:=(x.1:Int)*2097152+(y.2:Int)*4096+((z.2+1:Nat):Int)) (e:=dnQ (onL n l) y.2 (z.2+1)) (by omega) fun u v hd=>aCz hd
    rw[Int.toNat_natCast] at hst
    (repeat' first|refine ZG ?_|fail)
    refine cF (((onL n l).getD y.2 []).getD z.2 0).toNat (by omega) ?_
    (repeat' first|refine ZG ?_|refine Zg fun _=>?_)
    refine ⟨((z.1.1.set y.2 (z.1.1.getD (((onL n l).getD y.2 []).getD z.2 0).toNat 0+1),true),(z.2+1:Nat)),by show ((onL n l).getD y.2 []).length-(z.2+1)<((onL n l).getD y.2 []).length-z.2;omega,⟨hzt,hst⟩,?_⟩
    (repeat' first|exact trivial|rfl|refine And.intro ?_ ?_)
   ·rename_i hc
    have hst:=(z2.skip hrw hyn he (by rw[Int.toNat_natCast];exact hc)).mono (C:=(x.1:Int)*2097152+(y.2:Int)*4096+((z.2+1:Nat):Int)) (e:=dnQ (onL n l) y.2 (z.2+1)) (by omega) fun u v hd=>aCz hd
    (repeat' first|refine ZG ?_|fail)
    refine ⟨(z.1,(z.2+1:Nat)),by show ((onL n l).getD y.2 []).length-(z.2+1)<((onL n l).getD y.2 []).length-z.2;omega,⟨hzt,hst⟩,?_⟩
    (repeat' first|exact trivial|rfl|refine And.intro ?_ ?_)
  ·have hze:z.2=((onL n l).getD y.2 []).length:=by omega
   (repeat' first|refine ZG ?_|fail)
   refine ⟨(z.1,(y.2+1:Nat)),by show (onL n l).length-(y.2+1)<(onL n l).length-y.2;omega,⟨hlt,z2.mono (by omega) fun u v hd=>by rw[hze];exact aMi hd⟩,?_⟩
   (repeat' first|exact trivial|rfl|refine And.intro ?_ ?_)
 ·have hye:y.2=(onL n l).length:=by omega
  have hall:∀u v,0≤u→EB.Edge (onL n l) u v→dnR (onL n l) y.2 u v:=fun u v hu he=>by rw[hye];exact aPt hrw hu he
  (refine Br.mk (fun _=>?_) (fun _=>?_))
  ·rename_i hch
   obtain ⟨w1,w2⟩:=rk_fine h (y2.stay hall (by cases hq:y.1.2 with | true=>exact absurd hq hch | false=>rfl))
   rw[w1,w2]
   (conv=>whnf)
   (repeat' first|exact trivial|rfl|refine And.intro ?_ ?_)
  ·rename_i hch
   have hch:y.1.2=true:=Classical.not_not.1 hch
   (refine Br.mk (fun _=>?_) (fun _=>?_))
   ·rename_i hr
    obtain ⟨w1,w2⟩:=rk_loop h (y2.late hrw x2 x3 (by omega) hch)
    rw[w1,w2]
    (conv=>whnf)
    (repeat' first|exact trivial|rfl|refine And.intro ?_ ?_)
   ·rename_i hr
    (repeat' first|refine ZG ?_|fail)
    refine ⟨((x.1+1:Nat),y.1.1),by show n.toNat+2-(x.1+1)<n.toNat+2-x.1;omega,⟨by show x.1+1≤n.toNat+1;omega,y2.rk.mono (by show (x.1:Int)*2097152+(y.2:Int)*4096≤((x.1+1:Nat):Int)*2097152;omega),y2.more hall⟩,?_⟩
    (repeat' first|exact trivial|rfl|refine And.intro ?_ ?_)
def c3018:Con:=aI 18 true fun args K=>match args with | [.val (.int .i64 n),.seq (.pair (.int .i64) (.int .i64)) l]=>K (.tup [Ls (rkR n l),I (rkE n l)]) | _=>False
theorem k3018:aG Tryz.prog c3018:=by
 refine aB rfl (enters_of Tryz.func18 (by kernel_rfl) rfl) ?_
 intro args K h
 simp only[c3018] at h
 split at h
 ·rename_i n l;exact ⟨_,h,aA (by simp[EB.k43,EB.k69]) Tryz.func18 (by simp[Tryz.ntmps18]) rfl (b3018 n l)⟩
 ·exact h.elim
end SB
end
section
open Go Go.Proofs Go.Eng Go.Shelf IB Go.Lib Go.RowKit
namespace RB
def exM:List Mem:=[(2,0, -1,([51],[48],[48]),([51],[51],[51]),60,180),(6,3,0,([48],[48],[48]),([53],[53],[53]),60,180),(10,0, -1,([49],[49],[49]),([57],[49],[49]),60,180)]
theorem xP {s:List UInt8} (q:Rat) (h:numS q=s) (h1:q.num.natAbs<10^40) (h2:q.den<10^40) (h3:dK 12 q):valQ s=q∧chkQ s=0∧dK 12 q:=by
 subst h
 exact ⟨cW q,aPo h1 h2,h3⟩
theorem exd0:valQ [48]=0∧chkQ [48]=0∧dK 12 0:=xP 0 (by decide+kernel) (by decide+kernel) (by decide+kernel) (by decide+kernel)
theorem exd1:valQ [49]=1∧chkQ [49]=0∧dK 12 1:=xP 1 (by decide+kernel) (by decide+kernel) (by decide+kernel) (by decide+kernel)
theorem exd3:valQ [51]=3∧chkQ [51]=0∧dK 12 3:=xP 3 (by decide+kernel) (by decide+kernel) (by decide+kernel) (by decide+kernel)
theorem exd5:valQ [53]=5∧chkQ [53]=0∧dK 12 5:=xP 5 (by decide+kernel) (by decide+kernel) (by decide+kernel) (by decide+kernel)
theorem exd9:valQ [57]=9∧chkQ [57]=0∧dK 12 9:=xP 9 (by decide+kernel) (by decide+kernel) (by decide+kernel) (by decide+kernel)
theorem aCj {k m:Nat} {q:Rat} (h:dK k q) (hk:k≤m):dK m q:=⟨Nat.le_trans h.1 hk,Nat.le_trans h.2 hk⟩
theorem bJ {a b c:List UInt8} {p q r:Rat} (h1:valQ a=p∧chkQ a=0∧dK 12 p) (h2:valQ b=q∧chkQ b=0∧dK 12 q) (h3:valQ c=r∧chkQ c=0∧dK 12 r):vS (a,b,c)=(p,q,r)∧okS (a,b,c)∧dS 12 (a,b,c):=by
 obtain ⟨rfl,a2,a3⟩:=h1
 obtain ⟨rfl,b2,b3⟩:=h2
 obtain ⟨rfl,c2,c3⟩:=h3
 exact ⟨rfl,⟨jG.2 ⟨a2,b2,c2⟩,aCj a3 (by decide),aCj b3 (by decide),aCj c3 (by decide)⟩,a3,b3,c3⟩
theorem xQ {m:Mem} (hk:1≤m.1∧m.1≤12) (hf:0≤m.2.1∧ -1≤m.2.2.1) (hw:(1≤m.2.2.2.2.2.1∧m.2.2.2.2.2.1≤1000)∧1≤m.2.2.2.2.2.2∧m.2.2.2.2.2.2≤1000) (h1:okS m.2.2.2.1) (h2:okS m.2.2.2.2.1) (hne:m.2.2.2.1≠m.2.2.2.2.1):memE m=0:=by
 unfold memE
 rw[if_neg (by omega),if_neg (by omega),if_neg (by omega),if_neg (not_not_intro h1.1),if_neg (not_not_intro h2.1),if_neg (fun q=>q.elim (fun q=>q h1.2) fun q=>q h2.2),if_neg hne]
abbrev exA:Mem:=(2,0, -1,([51],[48],[48]),([51],[51],[51]),60,180)
abbrev exB:Mem:=(6,3,0,([48],[48],[48]),([53],[53],[53]),60,180)
abbrev exC:Mem:=(10,0, -1,([49],[49],[49]),([57],[49],[49]),60,180)
theorem aOx:memE exA=0:=xQ (by decide) (by decide) (by decide) (bJ exd3 exd0 exd0).2.1 (bJ exd3 exd3 exd3).2.1 (by decide)
theorem aOy:memE exB=0:=xQ (by decide) (by decide) (by decide) (bJ exd0 exd0 exd0).2.1 (bJ exd5 exd5 exd5).2.1 (by decide)
theorem aG5:memE exC=0:=xQ (by decide) (by decide) (by decide) (bJ exd1 exd1 exd1).2.1 (bJ exd9 exd1 exd1).2.1 (by decide)
theorem aOz {m n:Mem} (h1:memE m=0) (h2:memE n=0) (d1:dS 12 m.2.2.2.1) (d2:dS 12 m.2.2.2.2.1) (d3:dS 12 n.2.2.2.1) (d4:dS 12 n.2.2.2.2.1):crE m n=0:=by
 unfold crE
 rw[if_neg (fun q=>q.elim (fun q=>q h1) fun q=>q h2),if_neg]
 rintro (((q | q) | q) | q)
 ·exact q d1
 ·exact q d2
 ·exact q d3
 ·exact q d4
theorem aO0:crE exA exC=0:=aOz aOx aG5 (bJ exd3 exd0 exd0).2.2 (bJ exd3 exd3 exd3).2.2 (bJ exd1 exd1 exd1).2.2 (bJ exd9 exd1 exd1).2.2
theorem aO1:crE exB exC=0:=aOz aOy aG5 (bJ exd0 exd0 exd0).2.2 (bJ exd5 exd5 exd5).2.2 (bJ exd1 exd1 exd1).2.2 (bJ exd9 exd1 exd1).2.2
noncomputable instance (F u G v w:V3):Decidable (crG F u G v w):=by unfold crG;exact inferInstance
instance (d v:V3):Decidable (parR d v):=by unfold parR;exact inferInstance
theorem aSg:crP exA exC:=by
 unfold crP
 show crG (vS ([51],[48],[48])) (sub3 (vS ([51],[51],[51])) (vS ([51],[48],[48]))) (vS ([49],[49],[49])) (sub3 (vS ([57],[49],[49])) (vS ([49],[49],[49]))) (sub3 (vS ([49],[49],[49])) (vS ([51],[48],[48])))
 rw[(bJ exd3 exd0 exd0).1,(bJ exd3 exd3 exd3).1,(bJ exd1 exd1 exd1).1,(bJ exd9 exd1 exd1).1]
 unfold crG crAt pI
 decide+kernel
theorem aSh:crP exB exC:=by
 unfold crP
 show crG (vS ([48],[48],[48])) (sub3 (vS ([53],[53],[53])) (vS ([48],[48],[48]))) (vS ([49],[49],[49])) (sub3 (vS ([57],[49],[49])) (vS ([49],[49],[49]))) (sub3 (vS ([49],[49],[49])) (vS ([48],[48],[48])))
 rw[(bJ exd0 exd0 exd0).1,(bJ exd5 exd5 exd5).1,(bJ exd1 exd1 exd1).1,(bJ exd9 exd1 exd1).1]
 unfold crG crAt pI
 decide+kernel
theorem aSi:tchP exA exB:=by
 right
 unfold metP mtO parR
 show _∧ _
 have e1:vS exB.2.2.2.1=(0,0,0):=(bJ exd0 exd0 exd0).1
 have e2:vS exB.2.2.2.2.1=(5,5,5):=(bJ exd5 exd5 exd5).1
 have e3:vS exA.2.2.2.2.1=(3,3,3):=(bJ exd3 exd3 exd3).1
 rw[e1,e2,e3]
 decide+kernel
theorem ex01:rstP exA exB:=aSi
theorem ex02:rstP exA exC:=⟨rfl,aO0,aSg⟩
theorem ex12:rstP exB exC:=⟨aO1,aSh⟩
theorem aQo:rowR exM 0 3= [(0,1),(0,2)]:=by
 have h:rowR exM 0 1= []:=if_neg fun h=>h.1 rfl
 have h2:rowR exM 0 2=rowR exM 0 1++ [(0,1)]:=if_pos ⟨by decide,ex01⟩
 have h3:rowR exM 0 3=rowR exM 0 2++ [(0,2)]:=if_pos ⟨by decide,ex02⟩
 rw[h3,h2,h];rfl
theorem aQp:rowR exM 1 3= [(1,2)]:=by
 have h:rowR exM 1 1= []:=if_neg fun h=>(id h.2:False)
 have h2:rowR exM 1 2=rowR exM 1 1:=if_neg fun h=>h.1 rfl
 have h3:rowR exM 1 3=rowR exM 1 2++ [(1,2)]:=if_pos ⟨by decide,ex12⟩
 rw[h3,h2,h];rfl
theorem aQq:rowR exM 2 3= []:=by
 have h:rowR exM 2 1= []:=if_neg fun h=>(id h.2:False)
 have h2:rowR exM 2 2=rowR exM 2 1:=if_neg fun h=>(id h.2:False)
 have h3:rowR exM 2 3=rowR exM 2 2:=if_neg fun h=>h.1 rfl
 rw[h3,h2,h]
theorem aO2:cC exM 0 3:=⟨2,by decide,by decide,ex02,rfl⟩
theorem aO3:cC exM 1 3:=⟨2,by decide,by decide,ex12,rfl⟩
def exL:List (Int × Int):=[(0,1),(0,2),(1,2),(2, -1)]
theorem aSj:outR [] exM 3=exL:=by
 have w0:¬walP [] exA (cC exM 0 3):=fun h=>(id h:¬cC exM 0 3∧ _).1 aO2
 have w1:¬walP [] exB (cC exM 1 3):=fun h=>(id h:¬cC exM 1 3∧ _).1 aO3
 have w2:walP [] exC (cC exM 2 3):=trivial
 have h1:outR [] exM 1=(if walP [] exA (cC exM 0 3) then ([]:List (Int × Int))++ [((0:Int),(-1:Int))] else [])++rowR exM 0 3:=rfl
 have h2:outR [] exM 2=(if walP [] exB (cC exM 1 3) then outR [] exM 1++ [((1:Int),(-1:Int))] else outR [] exM 1)++rowR exM 1 3:=rfl
 have h3:outR [] exM 3=(if walP [] exC (cC exM 2 3) then outR [] exM 2++ [((2:Int),(-1:Int))] else outR [] exM 2)++rowR exM 2 3:=rfl
 rw[h3,if_pos w2,h2,if_neg w1,h1,if_neg w0,aQo,aQp,aQq];rfl
theorem aSk:errS exM 3 0=0:=by
 refine (aAk 3 0).2 fun i _ hi=>(aAj 3 0).2 fun j _ hj hne=>?_
 have e02:rstE exA exC=0:=by show (if (0:Int)=0 then crE exA exC else 0)=0;rw[if_pos rfl];exact aO0
 match i,j,hi,hj,hne with
 | 0,0,_,_,h=>exact absurd rfl h
 | 0,1,_,_,_=>rfl
 | 0,2,_,_,_=>exact e02
 | 1,0,_,_,_=>rfl
 | 1,1,_,_,h=>exact absurd rfl h
 | 1,2,_,_,_=>exact aO1
 | 2,0,_,_,_=>rfl
 | 2,1,_,_,_=>rfl
 | 2,2,_,_,h=>exact absurd rfl h
 | i+3,_,h,_,_=>omega
 | 0,j+3,_,h,_=>exact absurd h (by show ¬j+3<0+3;omega)
 | 1,j+3,_,h,_=>exact absurd h (by show ¬j+3<0+3;omega)
 | 2,j+3,_,h,_=>exact absurd h (by show ¬j+3<0+3;omega)
theorem aAl:ofR [] exM=(exL,0):=by
 have hb:¬badL []:=fun ⟨j,h,_⟩=>absurd h (Nat.not_lt_zero _)
 have hm:¬badM exM:=by
  rintro ⟨j,h,hj⟩
  match j,h with
  | 0,_=>exact hj aOx
  | 1,_=>exact hj aOy
  | 2,_=>exact hj aG5
  | j+3,h=>exact absurd h (by show ¬j+3<3;omega)
 have he:errS exM exM.length 0=0:=aSk
 have ho:outR [] exM exM.length=exL:=aSj
 unfold ofR
 rw[if_neg (by decide),if_neg hb,if_neg hm,if_neg (not_not_intro he),ho,if_neg (by decide)]
theorem aSl:EB.supE 3 exL=0:=by have:=aSf (ls:=[]) (l:=exM) (by rw[aAl]);rw[aAl] at this;exact this
theorem aJd:EB.rkE 3 exL=0∧EB.rkR 3 exL= [2,1,0]:=by
 refine EB.rk_fine aSl ?_
 have e:EB.onL 3 exL= [[1,2],[2],[]]:=by decide+kernel
 rw[e]
 have e01:EB.Edge [[1,2],[2],[]] 0 1:=by show (1:Int)∈ [(1:Int),2];decide
 have e12:EB.Edge [[1,2],[2],[]] 1 2:=by show (2:Int)∈ [(2:Int)];decide
 refine ⟨rfl,fun i hi=>?_,fun u v hu he=>?_⟩
 ·match i,hi with
  | 0,_=>exact ⟨by decide,.cons e01 (.cons e12 (.zero _ _))⟩
  | 1,_=>exact ⟨by decide,.cons e12 (.zero _ _)⟩
  | 2,_=>exact ⟨by decide,.zero _ _⟩
  | i+3,h=>exact absurd h (by show ¬i+3<3;omega)
 ·obtain ⟨u,rfl⟩:=Int.eq_ofNat_of_zero_le hu
  match u with
  | 0=>
   have:v∈ [(1:Int),2]:=he
   simp only[List.mem_cons,List.not_mem_nil,or_false] at this
   rcases this with rfl | rfl<;>decide
  | 1=>
   have:v∈ [(2:Int)]:=he
   simp only[List.mem_cons,List.not_mem_nil,or_false] at this
   subst this;decide
  | 2=>exact absurd (show v∈([]:List Int) from he) (List.not_mem_nil)
  | u+3=>exact absurd (show v∈([]:List Int) from he) (List.not_mem_nil)
theorem nB (x:SV):ent x .any:=by
 cases x with
 | val v=>cases v<;>trivial
 | _=>trivial
theorem aPu:ent.entL qVs qVs:=by
 (repeat' ((conv=>whnf);first | exact trivial | (refine And.intro ?_ ?_)))
 all_goals rfl
theorem uQ (t:Ty) (xs:List t.T):ent (.seq t xs) (.seq t xs):=by
 show oB t t xs xs
 unfold oB
 rw[dif_pos rfl]
 rfl
theorem t14 (ls:List Lin) (l:List Mem):Tri Tryz.prog true 14 [.agg [.any,.any,.any,.seq tLin ls],.seq tMem l] (.tup [.seq tRr (ofR ls l).1,I (ofR ls l).2]):=by
 by_cases h:(512<l.length∨4096<ls.length)∨badL ls∨badM l
 ·exact aA (by simp[aMa,aRl,aRh,aRn,aRm,aRf,aLt,aLs,aRe,aRk]) Tryz.func14 (by simp[Tryz.ntmps14]) rfl (b14e ls l h)
 ·exact aA (by simp[aMa,aRl,aRh,aRn,aRm,aRf,aLt,aLs,aRe,aRk]) Tryz.func14 (by simp[Tryz.ntmps14]) rfl (b14m ls l (fun q=>h (.inl q)) (fun q=>h (.inr (.inl q))) (fun q=>h (.inr (.inr q))) aRg aPu)
noncomputable def aMj:Con:=aI 14 true fun args K=>match args with
 | [.agg [x,y,z,.val (.slice none 0 0)],.seq (.pair (.int .i64) (.pair (.int .i64) (.pair (.int .i64) (.pair (.pair .str (.pair .str .str)) (.pair (.pair .str (.pair .str .str)) (.pair (.int .i64) (.int .i64))))))) l]=>K (.tup [.seq tRr (ofR [] l).1,I (ofR [] l).2])
 | [.agg [x,y,z,.seq (.pair (.int .i64) (.pair (.pair .str (.pair .str .str)) (.pair (.pair .str (.pair .str .str)) (.pair (.int .i64) (.int .i64))))) ls],.seq (.pair (.int .i64) (.pair (.int .i64) (.pair (.int .i64) (.pair (.pair .str (.pair .str .str)) (.pair (.pair .str (.pair .str .str)) (.pair (.int .i64) (.int .i64))))))) l]=>K (.tup [.seq tRr (ofR ls l).1,I (ofR ls l).2])
 | _=>False
theorem k3014:aG Tryz.prog aMj:=by
 refine aB rfl (enters_of Tryz.func14 (by kernel_rfl) rfl) ?_
 intro args K h
 simp only[aMj] at h
 split at h
 ·rename_i x y z l
  refine ⟨_,h,?_⟩
  show Tri Tryz.prog true 14 _ _
  intro ok w vs hgw hok hr
  exact t14 [] l ok w vs hgw hok (cA (l:=[.agg [x,y,z,.val (.slice none 0 0)],.seq tMem l]) (l':=[.agg [.any,.any,.any,.seq tLin []],.seq tMem l]) ⟨⟨nB x,nB y,nB z,(rfl:([]:List tLin.T)= []),trivial⟩,uQ tMem l,trivial⟩ hr)
 ·rename_i x y z ls l
  refine ⟨_,h,?_⟩
  show Tri Tryz.prog true 14 _ _
  intro ok w vs hgw hok hr
  exact t14 ls l ok w vs hgw hok (cA (l:=[.agg [x,y,z,.seq tLin ls],.seq tMem l]) (l':=[.agg [.any,.any,.any,.seq tLin ls],.seq tMem l]) ⟨⟨nB x,nB y,nB z,uQ tLin ls,trivial⟩,uQ tMem l,trivial⟩ hr)
 ·exact h.elim
theorem b3069 (a b c:List UInt8):body Tryz.prog [] {} true Tryz.f69 [S a,S b,S c] (.agg [S a,S b,S c]):=by
 (conv=>whnf)
 (repeat' first|exact trivial|rfl|refine And.intro ?_ ?_)
def aMk:Con:=aI 69 true fun args K=>match args with | [.str a,.str b,.str c]=>K (.agg [S a,S b,S c]) | _=>False
theorem k3069:aG Tryz.prog aMk:=by
 refine aB rfl (enters_of Tryz.func69 (by kernel_rfl) rfl) ?_
 intro args K h
 simp only[aMk] at h
 split at h
 ·rename_i a b c;exact ⟨_,h,aA (by simp) Tryz.func69 (by simp[Tryz.ntmps69]) rfl (b3069 a b c)⟩
 ·exact h.elim
theorem b3040:body Tryz.prog [aMk] {} true Tryz.f40 [] (.seq tMem exM):=by
 (conv=>whnf)
 refine Own.r ?_
 (conv=>whnf)
 (repeat' first|rfl)
def aMl:Con:=aI 40 true fun args K=>match args with | []=>K (.seq tMem exM) | _=>False
theorem k3040:aG Tryz.prog aMl:=by
 refine aB rfl (enters_of Tryz.func40 (by kernel_rfl) rfl) ?_
 intro args K h
 simp only[aMl] at h
 split at h
 ·exact ⟨_,h,aA (by simp[k3069]) Tryz.func40 (by simp[Tryz.ntmps40]) rfl b3040⟩
 ·exact h.elim
theorem b3016 (a b:List (Int × Int)):body Tryz.prog [] { asks:=[(0,[])] } true Tryz.f16 [.seq tRr a,.seq tRr b] (.bl (a=b) (Classical.propDecidable _)):=by
 by_cases hl:a.length=b.length
 case neg=>
  have hn:¬a=b:=fun e=>hl (by rw[e])
  generalize (a=b)=M at hn ⊢
  (repeat' first|refine ZR ?_|refine Zg fun _=>?_)
  (conv=>whnf)
  all_goals exact hn
 generalize hM:(a=b)=M
 (repeat' first|refine ZR ?_|refine Zg fun _=>?_)
 refine Ask.mk ⟨{ X:=Nat,pre:=fun i=>i≤a.length∧∀j,j<i→a.getD j (0,0)=b.getD j (0,0),mod:=fun i _=>[(5,I i)],heap:=fun i H=>H,mu:=fun i=>a.length-i },rfl,?_⟩
 (repeat' first|refine ZG ?_|fail)
 refine ⟨⟨(0:Nat),⟨Nat.zero_le _,fun j hj=>absurd hj (Nat.not_lt_zero _)⟩,by (repeat' first|exact trivial|rfl|refine And.intro ?_ ?_)⟩,fun (i:Nat) hi=>?_⟩
 obtain ⟨hi,hp⟩:=hi
 by_cases hlt:i<a.length
 ·by_cases he:a.getD i (0,0)=b.getD i (0,0)
  ·have hq:(a.getD i (0,0)).1=(b.getD i (0,0)).1∧(a.getD i (0,0)).2=(b.getD i (0,0)).2:=by rw[he];exact ⟨rfl,rfl⟩
   (repeat'((conv=>whnf);first|refine Zg fun _=>?_|refine Zn ?_|refine Zj ?_|(apply Pin.mk;apply Exists.intro)|apply Pinned.mk rfl rfl|refine Zy ?_|refine Zm ?_|fail))
   refine ⟨(i+1:Nat),by show a.length-(i+1)<a.length-i;omega,⟨hlt,fun j hj=>?_⟩,by (repeat' first|exact trivial|rfl|refine And.intro ?_ ?_)⟩
   by_cases e:j=i
   ·subst e;exact he
   ·exact hp j (by omega)
  ·have hq:¬((a.getD i (0,0)).1=(b.getD i (0,0)).1∧(a.getD i (0,0)).2=(b.getD i (0,0)).2):=fun q=>he (Prod.ext q.1 q.2)
   have hn:¬M:=by rw[← hM];exact fun q=>he (by rw[q])
   (repeat'((conv=>whnf);first|refine Zg fun _=>?_|refine Zn ?_|refine Zj ?_|(apply Pin.mk;apply Exists.intro)|apply Pinned.mk rfl rfl|refine Zy ?_|fail))
   (conv=>whnf)
   all_goals exact hn
 ·have e:a=b:=by
   refine List.ext_getElem hl fun j h1 h2=>?_
   have:=hp j (by omega)
   rwa [List.getD_eq_getElem?_getD,List.getD_eq_getElem?_getD,List.getElem?_eq_getElem h1,List.getElem?_eq_getElem h2] at this
  rw[hM] at e
  (repeat' first|refine ZR ?_|refine Zg fun _=>?_)
  (conv=>whnf)
  all_goals exact e
def aMm:Con:=aI 16 true fun args K=>match args with | [.seq (.pair (.int .i64) (.int .i64)) a,.seq (.pair (.int .i64) (.int .i64)) b]=>K (.bl (a=b) (Classical.propDecidable _)) | _=>False
theorem k3016:aG Tryz.prog aMm:=by
 refine aB rfl (enters_of Tryz.func16 (by kernel_rfl) rfl) ?_
 intro args K h
 simp only[aMm] at h
 split at h
 ·rename_i a b;exact ⟨_,h,aA (by simp) Tryz.func16 (by simp[Tryz.ntmps16]) rfl (b3016 a b)⟩
 ·exact h.elim
theorem b3036 (a b:List Int):body Tryz.prog [] { asks:=[(0,[])] } true Tryz.f36 [.seq (.int .i64) a,.seq (.int .i64) b] (.bl (a=b) (Classical.propDecidable _)):=by
 by_cases hl:a.length=b.length
 case neg=>
  have hn:¬a=b:=fun e=>hl (by rw[e])
  generalize (a=b)=M at hn ⊢
  (repeat' first|refine ZR ?_|refine Zg fun _=>?_)
  (conv=>whnf)
  all_goals exact hn
 generalize hM:(a=b)=M
 (repeat' first|refine ZR ?_|refine Zg fun _=>?_)
 refine Ask.mk ⟨{ X:=Nat,pre:=fun i=>i≤a.length∧∀j,j<i→a.getD j 0=b.getD j 0,mod:=fun i _=>[(13,I i)],heap:=fun i H=>H,mu:=fun i=>a.length-i },rfl,?_⟩
 (repeat' first|refine ZG ?_|fail)
 refine ⟨⟨(0:Nat),⟨Nat.zero_le _,fun j hj=>absurd hj (Nat.not_lt_zero _)⟩,by (repeat' first|exact trivial|rfl|refine And.intro ?_ ?_)⟩,fun (i:Nat) hi=>?_⟩
 obtain ⟨hi,hp⟩:=hi
 by_cases hlt:i<a.length
 ·by_cases he:a.getD i 0=b.getD i 0
  ·(repeat'((conv=>whnf);first|refine Zg fun _=>?_|refine Zn ?_|refine Zj ?_|(apply Pin.mk;apply Exists.intro)|apply Pinned.mk rfl rfl|refine Zy ?_|refine Zm ?_|fail))
   refine ⟨(i+1:Nat),by show a.length-(i+1)<a.length-i;omega,⟨hlt,fun j hj=>?_⟩,by (repeat' first|exact trivial|rfl|refine And.intro ?_ ?_)⟩
   by_cases e:j=i
   ·subst e;exact he
   ·exact hp j (by omega)
  ·have hn:¬M:=by rw[← hM];exact fun q=>he (by rw[q])
   (repeat'((conv=>whnf);first|refine Zg fun _=>?_|refine Zn ?_|refine Zj ?_|(apply Pin.mk;apply Exists.intro)|apply Pinned.mk rfl rfl|refine Zy ?_|fail))
   (conv=>whnf)
   all_goals exact hn
 ·have e:a=b:=by
   refine List.ext_getElem hl fun j h1 h2=>?_
   have:=hp j (by omega)
   rwa [List.getD_eq_getElem?_getD,List.getD_eq_getElem?_getD,List.getElem?_eq_getElem h1,List.getElem?_eq_getElem h2] at this
  rw[hM] at e
  (repeat' first|refine ZR ?_|fail)
  (conv=>whnf)
  all_goals exact e
def aMn:Con:=aI 36 true fun args K=>match args with | [.seq (.int .i64) a,.seq (.int .i64) b]=>K (.bl (a=b) (Classical.propDecidable _)) | _=>False
theorem k3036:aG Tryz.prog aMn:=by
 refine aB rfl (enters_of Tryz.func36 (by kernel_rfl) rfl) ?_
 intro args K h
 simp only[aMn] at h
 split at h
 ·rename_i a b;exact ⟨_,h,aA (by simp) Tryz.func36 (by simp[Tryz.ntmps36]) rfl (b3036 a b)⟩
 ·exact h.elim
def grtP (n:Int) (l:List (Int × Int)):Prop:=(12<n∧n≤512)∨30<l.length
theorem b3030 (n:Int) (l:List (Int × Int)):body Tryz.prog [] {} true Tryz.f30 [I n,.seq tRr l] (.bl (grtP n l) (Classical.propDecidable _)):=by
 by_cases h:12<n
 ·by_cases h2:n≤512
  ·have e:grtP n l:=.inl ⟨h,h2⟩
   generalize grtP n l=M at e ⊢
   (repeat' first|refine ZR ?_|fail)
   (conv=>whnf)
   all_goals exact e
  ·have e:(30<(l.length:Int))↔grtP n l:=⟨fun q=>.inr (by omega),fun q=>by rcases q with q | q;exact absurd q.2 h2;omega⟩
   generalize grtP n l=M at e ⊢
   (repeat' first|refine ZR ?_|refine Zg fun _=>?_)
   (conv=>whnf)
   all_goals exact e
 ·have e:(30<(l.length:Int))↔grtP n l:=⟨fun q=>.inr (by omega),fun q=>by rcases q with q | q;exact absurd q.1 h;omega⟩
  generalize grtP n l=M at e ⊢
  (repeat' first|refine ZR ?_|refine Zg fun _=>?_)
  (conv=>whnf)
  all_goals exact e
def aMo:Con:=aI 30 true fun args K=>match args with | [.val (.int .i64 n),.seq (.pair (.int .i64) (.int .i64)) l]=>K (.bl (grtP n l) (Classical.propDecidable _)) | _=>False
theorem k3030:aG Tryz.prog aMo:=by
 refine aB rfl (enters_of Tryz.func30 (by kernel_rfl) rfl) ?_
 intro args K h
 simp only[aMo] at h
 split at h
 ·rename_i n l;exact ⟨_,h,aA (by simp) Tryz.func30 (by simp[Tryz.ntmps30]) rfl (b3030 n l)⟩
 ·exact h.elim
theorem b3013:body Tryz.prog [aMl,aMj,SB.c3018,aMm,aMn] {} true Tryz.f13 [] (.val (.bool true)):=by
 have f1:(ofR [] exM).2=0:=by rw[aAl]
 have f2:EB.rkE 3 (ofR [] exM).1=0:=by rw[aAl];exact aJd.1
 have f3:(ofR [] exM).1= [(0,1),(0,2),(1,2),(2, -1)]:=by rw[aAl];rfl
 have f4:EB.rkR 3 (ofR [] exM).1= [2,1,0]:=by rw[aAl];exact aJd.2
 (repeat' first|refine ZR ?_|fail)
 (conv=>whnf)
 all_goals exact ⟨fun _=>rfl,fun _=>f4⟩
def aHy:Con:=aI 13 true fun args K=>match args with | []=>K (.val (.bool true)) | _=>False
theorem aRo:aG Tryz.prog aHy:=by
 refine aB rfl (enters_of Tryz.func13 (by kernel_rfl) rfl) ?_
 intro args K h
 simp only[aHy] at h
 split at h
 ·exact ⟨_,h,aA (by simp[k3040,k3014,SB.k3018,k3016,k3036]) Tryz.func13 (by simp[Tryz.ntmps13]) rfl b3013⟩
 ·exact h.elim
theorem aHz {a b c d:Int}:0≤EB.orI [EB.cmpI a c,EB.cmpI b d]↔c<a∨c=a∧d≤b:=by
 unfold EB.cmpI
 by_cases h1:a<c
 ·rw[if_pos h1]
  exact ⟨fun h=>absurd (show (0:Int)≤ -1 from h) (by decide),fun h=>by omega⟩
 ·rw[if_neg h1]
  by_cases h2:c<a
  ·rw[if_pos h2]
   exact ⟨fun _=>.inl h2,fun _=>(by decide:(0:Int)≤1)⟩
  ·rw[if_neg h2]
   by_cases h3:b<d
   ·rw[if_pos h3]
    exact ⟨fun h=>absurd h (by decide),fun h=>by omega⟩
   ·rw[if_neg h3]
    by_cases h4:d<b
    ·rw[if_pos h4]
     exact ⟨fun _=>.inr ⟨by omega,by omega⟩,fun _=>by decide⟩
    ·rw[if_neg h4]
     exact ⟨fun _=>.inr ⟨by omega,by omega⟩,fun _=>by decide⟩
theorem b3035 (n:Int) (l:List (Int × Int)):body Tryz.prog [] { asks:=[(0,[])] } true Tryz.f35 [I n,.seq tRr l] (I (EB.supE n l)):=by
 (refine Br.mk (fun _=>?_) (fun _=>?_))
 ·rename_i h
  (conv=>whnf)
  exact ⟨rfl,EB.supE_out (.inl h)⟩
 rename_i g1
 (refine Br.mk (fun _=>?_) (fun _=>?_))
 ·rename_i h
  (conv=>whnf)
  exact ⟨rfl,EB.supE_out (.inr h)⟩
 rename_i g2
 (repeat'((conv=>whnf);first|refine Zg fun _=>?_|fail))
 (refine Br.mk (fun _=>?_) (fun _=>?_))
 ·rename_i h
  (conv=>whnf)
  exact ⟨rfl,EB.supE_long g1 g2 h⟩
 rename_i g3
 refine Ask.mk ⟨{ X:=Nat,pre:=fun i=>i≤l.length∧∀j,j<i→EB.supAt n l j=0,mod:=fun i _=>[(5,I i)],heap:=fun _ H=>H,mu:=fun i=>l.length-i },rfl,?_⟩
 (repeat' first|refine ZG ?_|fail)
 refine ⟨⟨(0:Nat),⟨Nat.zero_le _,fun j hj=>absurd hj (Nat.not_lt_zero _)⟩,by (repeat' first|exact trivial|rfl|refine And.intro ?_ ?_)⟩,fun (i:Nat) hi=>?_⟩
 obtain ⟨hi,hb⟩:=hi
 (repeat'((conv=>whnf);first|refine Zg fun _=>?_|fail))
 (refine Br.mk (fun _=>?_) (fun _=>?_))
 ·have hlt:i<l.length:=by omega
  have bad:((l.getD i (0,0)).1<0∨n≤(l.getD i (0,0)).1∨(l.getD i (0,0)).2 < -1∨n≤(l.getD i (0,0)).2)→2=EB.supE n l:=fun h=>
   EB.supE_at g1 g2 g3 hlt hb (by unfold EB.supAt;rw[if_pos h]) (by decide)
  have ord:¬(l.getD i (0,0)).1=(l.getD i (0,0)).2→¬((l.getD i (0,0)).1<0∨n≤(l.getD i (0,0)).1∨(l.getD i (0,0)).2 < -1∨n≤(l.getD i (0,0)).2)→(0<i∧((l.getD i (0,0)).1<(l.getD (i-1) (0,0)).1∨(l.getD i (0,0)).1=(l.getD (i-1) (0,0)).1∧(l.getD i (0,0)).2≤(l.getD (i-1) (0,0)).2))→10=EB.supE n l:=fun h1 h2 h3=>
   EB.supE_at g1 g2 g3 hlt hb (by unfold EB.supAt;rw[if_neg h2,if_neg h1,if_pos ⟨h3.1,aHz.2 h3.2⟩]) (by decide)
  have fine:¬(l.getD i (0,0)).1=(l.getD i (0,0)).2→¬((l.getD i (0,0)).1<0∨n≤(l.getD i (0,0)).1∨(l.getD i (0,0)).2 < -1∨n≤(l.getD i (0,0)).2)→¬(0<i∧((l.getD i (0,0)).1<(l.getD (i-1) (0,0)).1∨(l.getD i (0,0)).1=(l.getD (i-1) (0,0)).1∧(l.getD i (0,0)).2≤(l.getD (i-1) (0,0)).2))→∀j,j<i+1→EB.supAt n l j=0:=fun h1 h2 h3 j hj=>by
   by_cases e:j=i
   ·subst e
    unfold EB.supAt
    rw[if_neg h2,if_neg h1,if_neg fun q=>h3 ⟨q.1,aHz.1 q.2⟩]
   ·exact hb j (by omega)
  (repeat'((conv=>whnf);first|refine Zg fun _=>?_|refine Zn ?_|refine Zj ?_|(apply Pin.mk;apply Exists.intro)|apply Pinned.mk rfl rfl|refine Zr (fun _=>?_) fun _=>?_|fail))
  ·skip
   (conv=>whnf)
   exact ⟨rfl,bad (.inl ‹_›)⟩
  ·skip
   (conv=>whnf)
   exact ⟨rfl,bad (.inr (.inl ‹_›))⟩
  ·skip
   (conv=>whnf)
   exact ⟨rfl,bad (.inr (.inr (.inl ‹_›)))⟩
  ·skip
   (conv=>whnf)
   exact ⟨rfl,bad (.inr (.inr (.inr ‹_›)))⟩
  ·rename_i k1 k2 k3 k4 k5
   (conv=>whnf)
   exact ⟨rfl,EB.supE_at g1 g2 g3 hlt hb (by unfold EB.supAt;rw[if_neg (by omega),if_pos k5]) (by decide)⟩
  ·refine cF (i-1) (by omega) ?_
   (repeat'((conv=>whnf);first|refine Zg fun _=>?_|refine Zn ?_|(apply Pin.mk;apply Exists.intro)|apply Pinned.mk rfl rfl|refine Zr (fun _=>?_) fun _=>?_|fail))
   ·skip
    (conv=>whnf)
    exact ⟨rfl,ord ‹_› (by omega) (by omega)⟩
   ·refine cF (i-1) (by omega) ?_
    (repeat'((conv=>whnf);first|refine Zg fun _=>?_|refine Zn ?_|(apply Pin.mk;apply Exists.intro)|apply Pinned.mk rfl rfl|refine Zr (fun _=>?_) fun _=>?_|fail))
    ·refine cF (i-1) (by omega) ?_
     (repeat'((conv=>whnf);first|refine Zg fun _=>?_|refine Zn ?_|(apply Pin.mk;apply Exists.intro)|apply Pinned.mk rfl rfl|refine Zr (fun _=>?_) fun _=>?_|fail))
     ·skip
      (conv=>whnf)
      exact ⟨rfl,ord ‹_› (by omega) (by omega)⟩
     ·skip
      refine ⟨(i+1:Nat),by show l.length-(i+1)<l.length-i;omega,⟨hlt,fine ‹_› (by omega) (by omega)⟩,?_⟩
      (repeat' first|exact trivial|rfl|refine And.intro ?_ ?_)
    ·skip
     refine ⟨(i+1:Nat),by show l.length-(i+1)<l.length-i;omega,⟨hlt,fine ‹_› (by omega) (by omega)⟩,?_⟩
     (repeat' first|exact trivial|rfl|refine And.intro ?_ ?_)
  ·skip
   refine ⟨(i+1:Nat),by show l.length-(i+1)<l.length-i;omega,⟨hlt,fine ‹_› (by omega) (by omega)⟩,?_⟩
   (repeat' first|exact trivial|rfl|refine And.intro ?_ ?_)
 ·have hii:i=l.length:=by omega
  subst hii
  (conv=>whnf)
  exact ⟨rfl,EB.supE_ok g1 g2 g3 hb⟩
def aMp:Con:=aI 35 true fun args K=>match args with | [.val (.int .i64 n),.seq (.pair (.int .i64) (.int .i64)) l]=>K (I (EB.supE n l)) | _=>False
theorem k3035:aG Tryz.prog aMp:=by
 refine aB rfl (enters_of Tryz.func35 (by kernel_rfl) rfl) ?_
 intro args K h
 simp only[aMp] at h
 split at h
 ·rename_i n l;exact ⟨_,h,aA (by simp) Tryz.func35 (by simp[Tryz.ntmps35]) rfl (b3035 n l)⟩
 ·exact h.elim
def finP (n:Int) (l:List (Int × Int)):Prop:=¬grtP n l∧EB.supE n l=0
theorem b3017 (n:Int) (l:List (Int × Int)):body Tryz.prog [aMo,aMp] {} true Tryz.f17 [I n,.seq tRr l] (.bl (finP n l) (Classical.propDecidable _)):=by
 by_cases h:grtP n l
 ·have e:¬finP n l:=fun q=>q.1 h
  generalize finP n l=M at e ⊢
  (repeat' first|refine ZR ?_|fail)
  (conv=>whnf)
  all_goals exact e
 ·have e:EB.supE n l=0↔finP n l:=⟨fun q=>⟨h,q⟩,fun q=>q.2⟩
  generalize finP n l=M at e ⊢
  (repeat' first|refine ZR ?_|fail)
  (conv=>whnf)
  all_goals exact e
def aH0:Con:=aI 17 true fun args K=>match args with | [.val (.int .i64 n),.seq (.pair (.int .i64) (.int .i64)) l]=>K (.bl (finP n l) (Classical.propDecidable _)) | _=>False
theorem aRp:aG Tryz.prog aH0:=by
 refine aB rfl (enters_of Tryz.func17 (by kernel_rfl) rfl) ?_
 intro args K h
 simp only[aH0] at h
 split at h
 ·rename_i n l;exact ⟨_,h,aA (by simp[k3030,k3035]) Tryz.func17 (by simp[Tryz.ntmps17]) rfl (b3017 n l)⟩
 ·exact h.elim
set_option maxHeartbeats 1000000 in
theorem b3004 (n:Int) (l:List (Int × Int)):body Tryz.prog [aH0,aHy,SB.c3018] { asks:=[(0,[]),(2,[])] } true Tryz.f4 [I n,.seq tRr l] (.val (.bool true)):=by
 by_cases hf:finP n l
 case neg=>
  (repeat' first|refine ZR ?_|fail)
  (conv=>whnf)
 have hs:=hf.2
 have hro:=EB.supE_rests hs
 obtain ⟨r1,r2,r3,r4⟩:=id hro
 by_cases hl:EB.Loops (EB.onL n l) n
 ·obtain ⟨w1,w2⟩:=EB.rk_loop hs hl
  have w3:¬EB.rkE n l=0:=by rw[w1];decide
  have w4:(EB.rkR n l).length=0:=by rw[w2];rfl
  (repeat' first|refine ZR ?_|refine Zg fun _=>?_)
  (conv=>whnf)
 obtain ⟨w1,w2⟩:=EB.rk_len hs hl
 obtain ⟨out,ho⟩:=EB.rank_ex (EB.onL_rows hro) hl
 have hr:=(EB.rk_fine hs ho).2
 rw[← hr] at ho
 have w3:((EB.rkR n l).length:Int)=n:=by omega
 (repeat' first|refine ZR ?_|refine Zg fun _=>?_)
 refine Ask.mk ⟨{ X:=Nat,pre:=fun i=>i≤(EB.rkR n l).length,mod:=fun i _=>[(41,I i)],heap:=fun _ H=>H,mu:=fun i=>(EB.rkR n l).length-i },rfl,?_⟩
 (repeat' first|refine ZG ?_|fail)
 refine ⟨⟨(0:Nat),Nat.zero_le _,by (repeat' first|exact trivial|rfl|refine And.intro ?_ ?_)⟩,fun (i:Nat) hi=>?_⟩
 have hi:i≤(EB.rkR n l).length:=hi
 by_cases hlt:i<(EB.rkR n l).length
 ·have hmo:=EB.rank_most hro ho (i:=i) (by omega)
  (repeat' first|refine ZR ?_|refine Zg fun _=>?_)
  refine Ask.mk ⟨{ X:=Nat,pre:=fun j=>j≤l.length,mod:=fun j _=>[(9,I (EB.mostN l (EB.rkR n l) i j)),(48,I j)],heap:=fun _ H=>H,mu:=fun j=>l.length-j },rfl,?_⟩
  (repeat' first|refine ZG ?_|fail)
  refine ⟨⟨(0:Nat),Nat.zero_le _,by (repeat' first|exact trivial|rfl|refine And.intro ?_ ?_)⟩,fun (j:Nat) hj=>?_⟩
  have hj:j≤l.length:=hj
  by_cases hjl:j<l.length
  ·obtain ⟨q1,q2,q3,q4⟩:=r4 j hjl
   by_cases hc:(l.getD j (0,0)).1=(i:Int)
   ·by_cases hc2:0≤(l.getD j (0,0)).2
    ·have hm:EB.mostN l (EB.rkR n l) i (j+1)=max (EB.mostN l (EB.rkR n l) i j) ((EB.rkR n l).getD (l.getD j (0,0)).2.toNat 0):=if_pos ⟨hc,hc2⟩
     (repeat' first|refine ZR ?_|refine Zg fun _=>?_)
     refine cF (l.getD j (0,0)).2.toNat (by omega) ?_
     (repeat' first|refine ZR ?_|refine Zg fun _=>?_)
     refine ⟨(j+1:Nat),by show l.length-(j+1)<l.length-j;omega,hjl,?_⟩
     (repeat' first|exact trivial|rfl|refine And.intro ?_ ?_|omega)
     all_goals exact hm.symm
    ·have hm:EB.mostN l (EB.rkR n l) i (j+1)=EB.mostN l (EB.rkR n l) i j:=if_neg fun q=>hc2 q.2
     (repeat' first|refine ZR ?_|refine Zg fun _=>?_)
     refine ⟨(j+1:Nat),by show l.length-(j+1)<l.length-j;omega,hjl,?_⟩
     (repeat' first|exact trivial|rfl|refine And.intro ?_ ?_|omega)
     all_goals exact hm.symm
   ·have hm:EB.mostN l (EB.rkR n l) i (j+1)=EB.mostN l (EB.rkR n l) i j:=if_neg fun q=>hc q.1
    (repeat' first|refine ZR ?_|refine Zg fun _=>?_)
    refine ⟨(j+1:Nat),by show l.length-(j+1)<l.length-j;omega,hjl,?_⟩
    (repeat' first|exact trivial|rfl|refine And.intro ?_ ?_|omega)
    all_goals exact hm.symm
  ·have e:j=l.length:=by omega
   subst e
   (repeat' first|refine ZR ?_|fail)
   refine ⟨(i+1:Nat),by show (EB.rkR n l).length-(i+1)<(EB.rkR n l).length-i;omega,hlt,?_⟩
   (repeat' first|exact trivial|rfl|refine And.intro ?_ ?_)
 ·(repeat' first|refine ZR ?_|fail)
  (conv=>whnf)
theorem t3004 (n:Int) (l:List (Int × Int)) (_:inK .i64 n) (_:Okd (.slice tRr) l):Tri Tryz.prog true 4 [I n,.seq tRr l] (.val (.bool true)):=
 aA (by simp[aRp,aRo,SB.k3018]) Tryz.func4 (by simp[Tryz.ntmps4]) rfl (b3004 n l)
theorem b3057 (a b:Int):body Tryz.prog [EB.c74] {} true Tryz.f57 [I a,I b] (.bl (a<b) inferInstance):=by
 (conv=>whnf)
def aMq:Con:=aI 57 true fun args K=>match args with | [.val (.int .i64 a),.val (.int .i64 b)]=>K (.bl (a<b) inferInstance) | _=>False
theorem k3057:aG Tryz.prog aMq:=by
 refine aB rfl (enters_of Tryz.func57 (by kernel_rfl) rfl) ?_
 intro args K h
 simp only[aMq] at h
 split at h
 ·rename_i a b;exact ⟨_,h,aA (by simp[EB.k74]) Tryz.func57 (by simp[Tryz.ntmps57]) rfl (b3057 a b)⟩
 ·exact h.elim
theorem b3022 (xs:List Int) (h:∀i,0<i→i<xs.length→¬xs.getD i 0<xs.getD (i-1) 0):body Tryz.prog [aMq] { asks:=[(0,[])] } true Tryz.f22 [.seq (.int .i64) xs] (.val (.bool true)):=by
 (repeat' first|refine ZR ?_|refine Zg fun _=>?_)
 refine Ask.mk ⟨{ X:=Nat,pre:=fun i=>i≤xs.length,mod:=fun i _=>[(3,I ((i:Int)-1))],heap:=fun _ H=>H,mu:=fun i=>i },rfl,?_⟩
 (repeat' first|refine ZG ?_|fail)
 refine ⟨⟨(xs.length:Nat),Nat.le_refl _,by (repeat' first|exact trivial|rfl|refine And.intro ?_ ?_)⟩,fun (i:Nat) hi=>?_⟩
 have hi:i≤xs.length:=hi
 by_cases hlt:1<i
 ·have hh:=h (i-1) (by omega) (by omega)
  (repeat'((conv=>whnf);first|refine Zn ?_|(apply Pin.mk;apply Exists.intro)|apply Pinned.mk rfl rfl|refine Zy ?_|fail))
  refine cF (i-1) (by omega) ?_
  (repeat'((conv=>whnf);first|refine Zg fun _=>?_|refine Zn ?_|(apply Pin.mk;apply Exists.intro)|apply Pinned.mk rfl rfl|fail))
  refine cF (i-1-1) (by omega) ?_
  (repeat'((conv=>whnf);first|refine Zg fun _=>?_|refine Zn ?_|(apply Pin.mk;apply Exists.intro)|apply Pinned.mk rfl rfl|refine Zm ?_|fail))
  refine ⟨(i-1:Nat),by show i-1<i;omega,by show i-1≤xs.length;omega,?_⟩
  (repeat' first|exact trivial|rfl|refine And.intro ?_ ?_|omega)
 ·(repeat' first|refine ZR ?_|fail)
  (conv=>whnf)
def aMr:Con:=aI 22 true fun args K=>match args with | [.seq (.int .i64) xs]=>Need (∀i,0<i→i<xs.length→¬xs.getD i 0<xs.getD (i-1) 0) (K (.val (.bool true))) | _=>False
theorem k3022:aG Tryz.prog aMr:=by
 refine aB rfl (enters_of Tryz.func22 (by kernel_rfl) rfl) ?_
 intro args K h
 simp only[aMr] at h
 split at h
 ·rename_i xs;exact ⟨_,h.go,aA (by simp[k3057]) Tryz.func22 (by simp[Tryz.ntmps22]) rfl (b3022 xs h.ok)⟩
 ·exact h.elim
theorem b3026 (xs:List Int) (h:∀i,0<i→i<xs.length→¬xs.getD i 0=xs.getD (i-1) 0):body Tryz.prog [] { asks:=[(0,[])] } false Tryz.f26 [.seq (.int .i64) xs] (.seq (.int .i64) xs):=by
 by_cases hs:xs.length<2
 ·(repeat' first|refine ZR ?_|refine Zg fun _=>?_)
  (conv=>whnf)
 (repeat' first|refine ZR ?_|refine Zg fun _=>?_)
 refine Ask.mk ⟨{ X:=Nat,pre:=fun i=>1≤i∧i≤xs.length,mod:=fun i _=>[(3,I i)],heap:=fun _ H=>H,mu:=fun i=>xs.length-i },rfl,?_⟩
 (repeat' first|refine ZG ?_|fail)
 refine ⟨⟨(1:Nat),⟨Nat.le_refl _,by omega⟩,by (repeat' first|exact trivial|rfl|refine And.intro ?_ ?_)⟩,fun (i:Nat) hi=>?_⟩
 obtain ⟨hi1,hi2⟩:=hi
 by_cases hlt:i<xs.length
 ·have hh:=h i (by omega) hlt
  (repeat'((conv=>whnf);first|refine Zg fun _=>?_|refine Zn ?_|refine Zj ?_|(apply Pin.mk;apply Exists.intro)|apply Pinned.mk rfl rfl|refine Zy ?_|fail))
  refine cF (i-1) (by omega) ?_
  (repeat'((conv=>whnf);first|refine Zg fun _=>?_|refine Zn ?_|(apply Pin.mk;apply Exists.intro)|apply Pinned.mk rfl rfl|refine Zm ?_|fail))
  refine ⟨(i+1:Nat),by show xs.length-(i+1)<xs.length-i;omega,⟨by omega,hlt⟩,?_⟩
  (repeat' first|exact trivial|rfl|refine And.intro ?_ ?_)
 ·(repeat' first|refine ZR ?_|refine Zg fun _=>?_)
  (conv=>whnf)
def aMs:Con:=aI 26 false fun args K=>match args with
 | [.seq (.int .i64) xs]=>Need (∀i,0<i→i<xs.length→¬xs.getD i 0=xs.getD (i-1) 0) (K (.seq (.int .i64) xs))
 | _=>False
theorem k3026:aG Tryz.prog aMs:=by
 refine aB rfl (enters_of Tryz.func26 (by kernel_rfl) rfl) ?_
 intro args K h
 simp only[aMs] at h
 split at h
 ·rename_i xs;exact ⟨_,h.go,aA (by simp) Tryz.func26 (by simp[Tryz.ntmps26]) rfl (b3026 xs h.ok)⟩
 ·exact h.elim
theorem b3024 (a b i:Int):body Tryz.prog [] {} true Tryz.f24 [.agg [I a,I b],.lelem [I i] 0] (.bl (a=i) inferInstance):=by
 (conv=>whnf)
def aMt:Con:=aI 24 true fun args K=>match args with | [.agg [.val (.int .i64 a),.val (.int .i64 b)],.lelem [.val (.int .i64 i)] 0]=>K (.bl (a=i) inferInstance) | _=>False
theorem k3024:aG Tryz.prog aMt:=by
 refine aB rfl (enters_of Tryz.func24 (by kernel_rfl) rfl) ?_
 intro args K h
 simp only[aMt] at h
 split at h
 ·rename_i a b i;exact ⟨_,h,aA (by simp) Tryz.func24 (by simp[Tryz.ntmps24]) rfl (b3024 a b i)⟩
 ·exact h.elim
def upP (i:Int) (r:Int × Int):Prop:=r.1=i
theorem b3058 (l:List (Int × Int)) (i:Int):body Tryz.prog [aMt] { asks:=[(0,[])] } true Tryz.f58 [.seq tRr l,.clo 24 [] [.lelem [I i] 0]] (I (ixG (upP i) l)):=by
 (repeat'((conv=>whnf);first|refine Zg fun _=>?_|fail))
 refine Ask.mk ⟨{ X:=Nat,pre:=fun j=>j≤l.length∧∀q,q<j→¬upP i (l.getD q (0,0)),mod:=fun j _=>[(8,I j)],heap:=fun _ H=>H,mu:=fun j=>l.length-j },rfl,?_⟩
 (repeat' first|refine ZG ?_|fail)
 refine ⟨⟨(0:Nat),⟨Nat.zero_le _,fun q hq=>absurd hq (Nat.not_lt_zero _)⟩,by (repeat' first|exact trivial|rfl|refine And.intro ?_ ?_)⟩,fun (j:Nat) hj=>?_⟩
 obtain ⟨hj,hp⟩:=hj
 by_cases hlt:j<l.length
 ·(repeat' first|refine ZR ?_|refine Zg fun _=>?_)
  (refine Br.mk (fun _=>?_) (fun _=>?_))
  ·rename_i hb
   have e:=oN (upP i) ((0,0):Int × Int) hlt hb hp
   rw[e]
   (conv=>whnf)
   (repeat' first|rfl|refine And.intro ?_ ?_)
  ·rename_i hb
   (repeat' first|refine ZR ?_|fail)
   refine ⟨(j+1:Nat),by show l.length-(j+1)<l.length-j;omega,⟨hlt,fun q hq=>?_⟩,by (repeat' first|exact trivial|rfl|refine And.intro ?_ ?_)⟩
   by_cases e:q=j
   ·subst e;exact hb
   ·exact hp q (by omega)
 ·have e:j=l.length:=by omega
  subst e
  rw[oO (upP i) ((0,0):Int × Int) hp]
  (repeat' first|refine ZR ?_|fail)
  (conv=>whnf)
  (repeat' first|rfl|refine And.intro ?_ ?_)
def aMu:Con:=aI 58 true fun args K=>match args with | [.seq (.pair (.int .i64) (.int .i64)) l,.clo 24 [] [.lelem [.val (.int .i64 i)] 0]]=>K (I (ixG (upP i) l)) | _=>False
theorem k3058:aG Tryz.prog aMu:=by
 refine aB rfl (enters_of Tryz.func58 (by kernel_rfl) rfl) ?_
 intro args K h
 simp only[aMu] at h
 split at h
 ·rename_i l i;exact ⟨_,h,aA (by simp[k3024]) Tryz.func58 (by simp[Tryz.ntmps58]) rfl (b3058 l i)⟩
 ·exact h.elim
theorem b3023 (l:List (Int × Int)) (i:Int):body Tryz.prog [aMu] {} true Tryz.f23 [.seq tRr l,.clo 24 [] [.lelem [I i] 0]] (.bl (0≤ixG (upP i) l) inferInstance):=by
 (conv=>whnf)
def aMv:Con:=aI 23 true fun args K=>match args with | [.seq (.pair (.int .i64) (.int .i64)) l,.clo 24 [] [.lelem [.val (.int .i64 i)] 0]]=>K (.bl (0≤ixG (upP i) l) inferInstance) | _=>False
theorem k3023:aG Tryz.prog aMv:=by
 refine aB rfl (enters_of Tryz.func23 (by kernel_rfl) rfl) ?_
 intro args K h
 simp only[aMv] at h
 split at h
 ·rename_i l i;exact ⟨_,h,aA (by simp[k3058]) Tryz.func23 (by simp[Tryz.ntmps23]) rfl (b3023 l i)⟩
 ·exact h.elim
theorem aPv (l:List (Int × Int)) (i:Nat):0≤ixG (upP i) l↔(l.any fun r=>decide (r.1=(i:Int)))=true:=by
 rw[iY (upP i) l ((0,0):Int × Int),List.any_eq_true]
 constructor
 ·rintro ⟨j,hj,h⟩
  refine ⟨l.getD j (0,0),?_,decide_eq_true h⟩
  rw[List.getD_eq_getElem?_getD,List.getElem?_eq_getElem hj];exact List.getElem_mem hj
 ·rintro ⟨r,hr,h⟩
  obtain ⟨j,hj,rfl⟩:=List.getElem_of_mem hr
  refine ⟨j,hj,?_⟩
  unfold upP
  rw[List.getD_eq_getElem?_getD,List.getElem?_eq_getElem hj]
  exact of_decide_eq_true h
theorem aH1 {xs:List Int} (h:EB.Asc xs) {i:Nat} (h0:0<i) (hi:i<xs.length):xs.getD (i-1) 0<xs.getD i 0:=by
 rw[List.getD_eq_getElem?_getD,List.getD_eq_getElem?_getD,List.getElem?_eq_getElem hi,List.getElem?_eq_getElem (show i-1<xs.length by omega)]
 exact List.pairwise_iff_getElem.1 h (i-1) i (by omega) hi (by omega)
theorem b3006 (n:Int) (l:List (Int × Int)):body Tryz.prog [aH0,aHy,SB.c3021,aMr,aMv,EB.c21,aMs] { asks:=[(0,[])] } true Tryz.f6 [I n,.seq tRr l] (.val (.bool true)):=by
 by_cases hf:finP n l
 case neg=>
  (repeat' first|refine ZR ?_|fail)
  (conv=>whnf)
 have hs:=hf.2
 obtain ⟨r1,r2,r3,r4⟩:=EB.supE_rests hs
 have e1:EB.looR n l=EB.looL n l:=if_pos hs
 have e2:EB.looE n l=0:=if_pos hs
 have ha:EB.Asc (EB.looR n l):=by rw[e1];exact EB.markL_asc _ _
 have hso:∀i,0<i→i<(EB.looR n l).length→¬(EB.looR n l).getD i 0<(EB.looR n l).getD (i-1) 0:=fun i h0 hi=>by have:=aH1 ha h0 hi;omega
 have hdi:∀i,0<i→i<(EB.looR n l).length→¬(EB.looR n l).getD i 0=(EB.looR n l).getD (i-1) 0:=fun i h0 hi=>by have:=aH1 ha h0 hi;omega
 (repeat' first|refine ZR ?_|fail)
 refine Ask.mk ⟨{ X:=Nat,pre:=fun i=>i≤n.toNat,mod:=fun i _=>[(28,I i)],heap:=fun _ H=>H,mu:=fun i=>n.toNat-i },rfl,?_⟩
 (repeat' first|refine ZG ?_|fail)
 refine ⟨⟨(0:Nat),Nat.zero_le _,by (repeat' first|exact trivial|rfl|refine And.intro ?_ ?_)⟩,fun (i:Nat) hi=>?_⟩
 have hi:i≤n.toNat:=hi
 by_cases hlt:i<n.toNat
 ·have hne:¬((i:Int)∈EB.looR n l↔0≤ixG (upP i) l):=by
   rw[e1,EB.looL_mem hlt,aPv]
   intro q
   by_cases hq:(l.any fun r=>decide (r.1=(i:Int)))=true
   ·exact absurd hq (q.2 hq)
   ·exact hq (q.1 hq)
  (repeat' first|refine ZR ?_|fail)
  refine ⟨(i+1:Nat),by show n.toNat-(i+1)<n.toNat-i;omega,hlt,?_⟩
  (repeat' first|exact trivial|rfl|refine And.intro ?_ ?_)
 ·(repeat' first|refine ZR ?_|refine Zg fun _=>?_)
  (conv=>whnf)
theorem t3006 (n:Int) (l:List (Int × Int)) (_:inK .i64 n) (_:Okd (.slice tRr) l):Tri Tryz.prog true 6 [I n,.seq tRr l] (.val (.bool true)):=
 aA (by simp[aRp,aRo,SB.k3021,k3022,k3023,EB.k21,k3026]) Tryz.func6 (by simp[Tryz.ntmps6]) rfl (b3006 n l)
end RB
end

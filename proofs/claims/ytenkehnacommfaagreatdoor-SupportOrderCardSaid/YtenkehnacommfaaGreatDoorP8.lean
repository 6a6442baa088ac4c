/-
  Part 8: a symbolic executor over the model, contracts of functions and plain laws.
-/
import Derived.Test.YtenkehnacommfaaGreatDoorP7
set_option linter.unusedVariables false
set_option linter.unusedSimpArgs false
set_option maxRecDepth 10000
set_option maxHeartbeats 80000000
noncomputable section
section
open Go Go.Proofs Go.Eng Go.Shelf IB Go.Lib Go.RowKit Tryz
namespace RB
theorem Sc {ls:List Lin} {l:List Mem} (h:(ofR ls l).2=0):(l.length<=512/\ls.length<=4096)/\¬badL ls/\¬badM l/\errS l l.length 0=0/\(outR ls l l.length).length<=4096/\(ofR ls l).1=outR ls l l.length:=by
 unfold ofR at h ⊢;split at h
 ·exact absurd h de
 rename_i h1;split at h
 ·exact absurd h de
 rename_i h2;split at h
 ·exact absurd h de
 rename_i h3;split at h
 ·rename_i h4;exact absurd h h4
 rename_i h4;split at h
 ·exact absurd h de
 rename_i h5;rw[aC h1,aC h2,aC h3,aC h4,aC h5];exact ⟨om,h2,h3,bC.1 h4,om,rfl⟩
theorem Sd {ls:List Lin} {l:List Mem} {x:Int × Int} (h:x∈outR ls l l.length):0<=x.1/\x.1<l.length/\ -1<=x.2/\x.2<l.length/\x.1≠x.2:=by
 obtain ⟨i,h1,h2⟩:=(wN ls l x l.length).1 h;rcases h2 with ⟨_,rfl⟩ | ⟨k,h3,h4,_,rfl⟩
 ·dsimp only;omega
 dsimp only;omega
theorem aAf {ls:List Lin} {l:List Mem} (h:(ofR ls l).2=0):EB.supE l.length (ofR ls l).1=0:=by
 obtain ⟨h1,_,_,_,h2,e⟩:=Sc h;rw[e];unfold EB.supE;rw[aC om,aC om];refine EB.firstE_none fun j hj=>?_;have hin:=Sd (EB.at_mem (outR ls l l.length) j hj);unfold EB.supAt;rw[aC om,aC hin.2.2.2.2,aC];rintro ⟨h0,hc⟩;have hp:=List.pairwise_iff_getElem.1 (Lp ls l l.length) (j-1) j om hj om;have e1:(outR ls l l.length).getD (j-1) (0,0)=(outR ls l l.length)[j-1]'(by omega):=by simp[aB,show j-1<(outR ls l l.length).length by omega]
 have e2:(outR ls l l.length).getD j (0,0)=(outR ls l l.length)[j]:=by simp[aB,hj]
 rw[e1,e2] at hc;unfold ltP at hp;generalize (outR ls l l.length)[j-1]'(by omega)=a at*;generalize (outR ls l l.length)[j]=b at*;rcases hp with hp | ⟨hp,hq⟩
 ·have:EB.cmpI a.1 b.1= -1:=by unfold EB.cmpI;rw[aD hp]
  simp only[EB.orI,this] at hc;rw[aC de] at hc;omega
 have h3:EB.cmpI a.1 b.1=0:=by unfold EB.cmpI;rw[aC om,aC om]
 have h4:EB.cmpI a.2 b.2= -1:=by unfold EB.cmpI;rw[aD hq]
 simp only[EB.orI,h3,h4] at hc;rw[aD trivial,aC de] at hc;omega
theorem aEn {ls:List Lin} {l:List Mem} (h:(ofR ls l).2=0):¬EB.Loops (EB.onL l.length (ofR ls l).1) l.length:=by
 have hs:=aAf h;have hro:=EB.supE_rests hs;have hn:=EB.onL_rows hro;have e:=(Sc h).2.2.2.2.2;have he:∀u v:Int,0<=u->EB.Edge (EB.onL l.length (ofR ls l).1) u v->lvK (l.getD v.toNat mem0).1<lvK (l.getD u.toNat mem0).1:=fun u v hu hx=>by
  have hul:=EB.edge_out hx;rw[EB.onL_len] at hul;obtain ⟨v0,hm⟩:=(EB.onL_edge ⟨hu,om⟩).1 hx;rw[e] at hm;obtain ⟨i,h1,h2⟩:=(wN ls l _ l.length).1 hm;rcases h2 with ⟨_,h3⟩ | ⟨k,_,_,h4,h3⟩
  ·simp only[eF] at h3;omega
  simp only[eF] at h3;rw[h3.1,h3.2,aJ,aJ];exact aHt h4
 rintro ⟨i,hi,hw⟩;have key:∀u v:Int,EB.Way (EB.onL l.length (ofR ls l).1) u v->0<=u->lvK (l.getD v.toNat mem0).1<lvK (l.getD u.toNat mem0).1:=by
  intro u v hw
  induction hw with
  | one u v hx=>exact fun hu=>he u v hu hx
  | more u v w hx _ ih=>
   intro hu;have h1:=he u v hu hx;have h2:=ih (hn.2 u v hx).1;omega
 have:=key i i hw hi.1;omega
def rotL (l:List Mem) (k:Nat):List Mem:=l.drop k++l.take k
theorem oY (l:List Mem) {k:Nat} (hk:k<=l.length):(rotL l k).length=l.length:=by
 unfold rotL;rw[aS,bB,aY];omega
theorem mO (l:List Mem) {k:Nat} (hk:k<=l.length) {j:Nat} (hj:j<l.length):(rotL l k).getD j mem0=l.getD ((j+k)%l.length) mem0:=by
 unfold rotL;by_cases h:j<l.length-k
 ·rw[aB,bU (by rw[bB];exact h),bD,<- aB,eB om,Nat.add_comm]
 rw[aB,cS (by rw[bB];omega),bB,aU];rw[aD om,<- aB];congr 1
 rw[Nat.mod_eq_sub_mod om,eB om];omega
theorem El {n k a b:Nat} (ha:a<n) (hb:b<n) (hk:k<=n) (h:(a+k)%n=(b+k)%n):a=b:=by
 have m:∀x,x<n->(x+k)%n=if x+k<n then x+k else x+k-n:=fun x hx=>by
  split
  ·exact eB om
  rw[Nat.mod_eq_sub_mod om,eB om]
 rw[m a ha,m b hb] at h;split at h<;>split at h<;>omega
theorem aHu {n k a:Nat} (ha:a<n) (hk:k<=n):∃b,b<n/\(b+k)%n=a:=by
 by_cases h:k<=a
 ·exact ⟨a-k,om,by rw[show a-k+k=a by omega];exact eB ha⟩
 exact ⟨a+n-k,om,by rw[show a+n-k+k=a+n by omega,Nat.add_mod_right];exact eB ha⟩
theorem aHv {l:List Mem} {k j:Nat} (hk:k<=l.length) (hj:j<l.length):gK (rotL l k) j l.length↔gK l ((j+k)%l.length) l.length:=by
 constructor
 ·rintro ⟨q,h1,h2,h3,h4⟩;rw[mO l hk hj,mO l hk h1] at h3;rw[mO l hk h1] at h4;exact ⟨(q+k)%l.length,dO _ om,fun e=>h2 (El h1 hj hk e),h3,h4⟩
 rintro ⟨q,h1,h2,h3,h4⟩;obtain ⟨b,hb,rfl⟩:=aHu h1 hk;refine ⟨b,hb,fun e=>h2 (by rw[e]),?_,?_⟩
 ·rw[mO l hk hj,mO l hk hb];exact h3
 rw[mO l hk hb];exact h4
def oldP (n k:Nat) (x:Int × Int):Int × Int:=(((x.1.toNat+k)%n:Nat),if 0<=x.2 then (((x.2.toNat+k)%n:Nat):Int) else x.2)
theorem aC3 {ls:List Lin} {l:List Mem} {k:Nat} (hk:k<=l.length) {x:Int × Int} (h:x∈outR ls (rotL l k) l.length):oldP l.length k x∈outR ls l l.length:=by
 obtain ⟨i,h1,h2⟩:=(wN ls (rotL l k) x l.length).1 h;refine (wN ls l _ l.length).2 ⟨(i+k)%l.length,dO _ om,?_⟩;rcases h2 with ⟨h3,rfl⟩ | ⟨q,h3,h4,h5,rfl⟩
 ·left
  rw[mO l hk h1] at h3;refine ⟨?_,by simp[oldP]⟩;unfold walP at h3 ⊢;rw[oY l hk] at h3;have e:=aHv hk h1;split
  ·trivial
  rename_i g1;rw[aC g1] at h3;split
  ·rename_i g2;rw[aD g2] at h3;exact ⟨fun hp=>h3.1 (e.2 hp),h3.2⟩
  rename_i g2;rw[aC g2] at h3;exact h3
 right
 rw[oY l hk] at h3;rw[mO l hk h1,mO l hk h3] at h5;exact ⟨(q+k)%l.length,dO _ om,fun e=>h4 (El h3 h1 hk e),h5,by simp[oldP]⟩
theorem Lq:∀(a b:List (Int × Int)),a.Nodup->(∀x∈a,x∈b)->a.length<=b.length
 | [],_,_,_=>aK _
 | x::r,b,h,hs=>by
  have hx:=hs x bW;rw[List.nodup_cons] at h;have:=Lq r (b.erase x) h.2 fun y hy=>by
   have hne:y≠x:=fun e=>h.1 (e ▸ hy);exact (List.mem_erase_of_ne hne).2 (hs y (bP _ hy))
  rw[List.length_erase_of_mem hx] at this;have hp:=List.length_pos_of_mem hx;rw[bS];omega
theorem aAg (ls:List Lin) (l:List Mem) (n:Nat):(outR ls l n).Nodup:=by
 rw[List.nodup_iff_pairwise_ne];refine (Lp ls l n).imp fun {a b} h e=>?_;subst e;unfold ltP at h;omega
theorem aHw {ls:List Lin} {l:List Mem} {k:Nat} (hk:k<=l.length):(outR ls (rotL l k) l.length).length<=(outR ls l l.length).length:=by
 have hin:∀x∈outR ls (rotL l k) l.length,0<=x.1/\x.1<l.length/\ -1<=x.2/\x.2<l.length:=fun x hx=>by
  have:=Sd (ls:=ls) (l:=rotL l k) (x:=x) (by rw[oY l hk];exact hx);rw[oY l hk] at this;omega
 have h:=Lq ((outR ls (rotL l k) l.length).map (oldP l.length k)) (outR ls l l.length) (by
  rw[List.nodup_iff_pairwise_ne,kS];refine List.Pairwise.imp_of_mem ?_ (List.nodup_iff_pairwise_ne.1 (aAg ls (rotL l k) l.length));intro a b ha hb hne e;refine hne ?_;obtain ⟨a1,a2,a3,a4⟩:=hin a ha;obtain ⟨b1,b2,b3,b4⟩:=hin b hb;simp only[oldP,eF] at e;have e1:=El (n:=l.length) (a:=a.1.toNat) (b:=b.1.toNat) om om hk om;refine eC om ?_;have e2:=e.2;split at e2<;>split at e2
  ·have:=El (n:=l.length) (a:=a.2.toNat) (b:=b.2.toNat) om om hk om;omega
  ·omega
  ·omega
  ·exact e2) (fun x hx=>by
  obtain ⟨y,hy,rfl⟩:=mB.1 hx
  exact aC3 hk hy)
 rwa [iB] at h
theorem aKi {l:List Mem} {k:Nat} (hk:k<=l.length):rotL (rotL l k) (l.length-k)=l:=by
 unfold rotL;have e:(l.drop k).length=l.length-k:=bB;rw[<- e,List.drop_left,List.take_left,fH]
theorem Wz {ls:List Lin} {l:List Mem} {k:Nat} (hk:k<=l.length):(outR ls (rotL l k) l.length).length=(outR ls l l.length).length:=by
 refine Nat.le_antisymm (aHw hk) ?_;have:=aHw (ls:=ls) (l:=rotL l k) (k:=l.length-k) (by rw[oY l hk];omega);rw[aKi hk,oY l hk] at this;exact this
theorem Ay {l:List Mem} {i:Nat}:∀(n k:Nat),errR l i n k=0↔∀j,k<=j->j<k+n->j≠i->rstE (l.getD i mem0) (l.getD j mem0)=0
 | 0,k=>⟨fun _ j h1 h2=>om,fun _=>rfl⟩
 | n+1,k=>by
  have ih:=Ay (l:=l) (i:=i) n (k+1);unfold errR;split
  ·rename_i h;exact ⟨fun h2=>absurd h2 h.2,fun h2=>h2 k (aN _) om h.1⟩
  rename_i h;rw[ih];constructor
  ·intro h2 j h3 h4 h5;by_cases e:j=k
   ·subst e;exact bC.1 fun h6=>h ⟨h5,h6⟩
   exact h2 j om om h5
  intro h2 j h3 h4 h5;exact h2 j om om h5
theorem Az {l:List Mem}:∀(n k:Nat),errS l n k=0↔∀i,k<=i->i<k+n->errR l i l.length 0=0
 | 0,k=>⟨fun _ j h1 h2=>om,fun _=>rfl⟩
 | n+1,k=>by
  have ih:=Az (l:=l) n (k+1);unfold errS;split
  ·rename_i h;exact ⟨fun h2=>absurd h2 h,fun h2=>h2 k (aN _) om⟩
  rename_i h;rw[ih];constructor
  ·intro h2 j h3 h4;by_cases e:j=k
   ·subst e;exact bC.1 h
   exact h2 j om om
  intro h2 j h3 h4;exact h2 j om om
theorem aNu {ls:List Lin} {l:List Mem} {k:Nat} (hk:k<=l.length) (h:(ofR ls l).2=0):ofR ls (rotL l k)=(outR ls (rotL l k) l.length,0):=by
 obtain ⟨h1,h2,h3,h4,h5,_⟩:=Sc h;have hl:=oY l hk;have hb:¬badM (rotL l k):=by
  rintro ⟨j,j1,j2⟩;rw[hl] at j1;rw[mO l hk j1] at j2;exact h3 ⟨_,dO _ om,j2⟩
 have he:errS (rotL l k) (rotL l k).length 0=0:=by
  rw[Az];intro i _ hi;rw[hl] at hi ⊢;rw[Ay];intro j _ hj hne;have hi:i<l.length:=om;have hj:j<l.length:=om;rw[mO l hk hi,mO l hk hj];have q1:=(Az l.length 0).1 h4 ((i+k)%l.length) (aK _) (by have:=dO (i+k) (show 0<l.length by omega);omega);exact (Ay l.length 0).1 q1 ((j+k)%l.length) (aK _) (by have:=dO (j+k) (show 0<l.length by omega);omega) fun e=>hne (El hj hi hk e)
 have ho:=Wz (ls:=ls) hk;unfold ofR;rw[aC (by rw[hl];omega),aC h2,aC hb,he,aC de,hl,aC (by rw[ho];omega)]
def qV:Nat->Option SV
 | 1=>some (.clo 118 [] [.lelem [.clo 81 [] []] 0])
 | 2=>some (.clo 82 [] [])
 | 3=>some (.clo 118 [] [.lelem [.clo 82 [] []] 0])
 | 4=>some (.clo 85 [] [])
 | 5=>some (.clo 81 [] [])
 | _=>none
theorem aM5 {a b:Int} (ha:1<=a/\a<=12) (hb:1<=b/\b<=12):findP qKs qVs a b=qV (qK a b):=by
 have h:∀a b:Fin 13,1<=a.val->1<=b.val->findP qKs qVs (a.val:Int) (b.val:Int)=qV (qK (a.val:Int) (b.val:Int)):=by
  intro a b h1 h2;obtain ⟨a,ha⟩:=a;obtain ⟨b,hb⟩:=b;have hA:a=1\/a=2\/a=3\/a=4\/a=5\/a=6\/a=7\/a=8\/a=9\/a=10\/a=11\/a=12:=by dsimp only at h1;omega
  have hB:b=1\/b=2\/b=3\/b=4\/b=5\/b=6\/b=7\/b=8\/b=9\/b=10\/b=11\/b=12:=by dsimp only at h2;omega
  clear h1 h2;rcases hA with h | h | h | h | h | h | h | h | h | h | h | h<;>subst h<;>(rcases hB with h | h | h | h | h | h | h | h | h | h | h | h)<;>subst h<;>rfl
 obtain ⟨n,rfl⟩:=bT (show 0<=a by omega);obtain ⟨m,rfl⟩:=bT (show 0<=b by omega);exact h ⟨n,om⟩ ⟨m,om⟩ (by show 1<=n;omega) (by show 1<=m;omega)
theorem qK_le (a b:Int):qK a b<=5:=by
 unfold qK
 repeat' split
 all_goals omega
theorem Cz (i j:Nat):othI i (j+1)=othI i j+1\/(othI i j+1=i/\othI i (j+1)=i+1):=by
 unfold othI;by_cases h:j+1<i
 ·rw[aD h,aD om];exact .inl rfl
 by_cases h2:j<i
 ·rw[aC h,aD h2];exact .inr ⟨om,om⟩
 rw[aC h,aC h2];exact .inl rfl
theorem Iz (i j:Nat):othI i j≠i:=by unfold othI;split<;>omega
theorem aFg {i j n:Nat} (hi:i<n) (h:j<n-1):othI i j<n:=by unfold othI;split<;>omega
theorem zZ {i n:Nat} (hi:i<n):othI i (n-1)=n:=by unfold othI;rw[aC om];omega
theorem Aa (l:List Mem) (i:Nat):rowR l i (i+1)=rowR l i i:=aC fun h=>h.1 rfl
theorem Cc (l:List Mem) (i:Nat):gK l i (i+1)↔gK l i i:=platP_succ.trans ⟨fun h=>h.resolve_right fun q=>q.1 rfl,.inl⟩
theorem Ez (l:List Mem) {i:Nat} (hi:i<l.length):errR l i (l.length-i) i=errR l i (l.length-(i+1)) (i+1):=Sa hi fun h=>h.1 rfl
theorem aFh (l:List Mem) (i:Nat):rowR l i (othI i 0)= []:=by
 unfold othI;split
 ·rfl
 have:i=0:=om;subst this;exact Aa l 0
theorem aDn (l:List Mem) (i:Nat):¬gK l i (othI i 0):=by
 unfold othI;split
 ·exact Cu
 have:i=0:=om;subst this;rw[Cc];exact Cu
theorem aFi (l:List Mem) {i:Nat} (hi:i<l.length):errR l i l.length 0=errR l i (l.length-othI i 0) (othI i 0):=by
 unfold othI;split
 ·rfl
 have:i=0:=om;subst this;exact Ez l hi
theorem Xq {l:List Mem} {i j:Nat} (h:¬rstP (l.getD i mem0) (l.getD (othI i j) mem0)):rowR l i (othI i (j+1))=rowR l i (othI i j):=by
 have e:rowR l i (othI i j+1)=rowR l i (othI i j):=aC fun q=>h q.2;rcases Cz i j with h1 | ⟨h1,h2⟩
 ·rw[h1,e]
 rw[h2,Aa,<- e,h1]
theorem Ic {l:List Mem} {i j:Nat} (h:rstP (l.getD i mem0) (l.getD (othI i j) mem0)):rowR l i (othI i (j+1))=rowR l i (othI i j)++ [((i:Int),(othI i j:Int))]:=by
 have e:rowR l i (othI i j+1)=rowR l i (othI i j)++ [((i:Int),(othI i j:Int))]:=aD ⟨Iz i j,h⟩;rcases Cz i j with h1 | ⟨h1,h2⟩
 ·rw[h1,e]
 rw[h2,Aa,<- e,h1]
theorem plat_next {l:List Mem} {i j:Nat}:gK l i (othI i (j+1))↔gK l i (othI i j)\/(rstP (l.getD i mem0) (l.getD (othI i j) mem0)/\(l.getD (othI i j) mem0).1=10):=by
 have e:gK l i (othI i j+1)↔gK l i (othI i j)\/(rstP (l.getD i mem0) (l.getD (othI i j) mem0)/\(l.getD (othI i j) mem0).1=10):=
  platP_succ.trans ⟨fun h=>h.imp id fun q=>q.2,fun h=>h.imp id fun q=>⟨Iz i j,q⟩⟩
 rcases Cz i j with h1 | ⟨h1,h2⟩
 ·rw[h1,e]
 rw[h2,Cc,<- e,h1]
theorem uE {l:List Mem} {i j:Nat} (hi:i<l.length) (hj:othI i j<l.length) (h:rstE (l.getD i mem0) (l.getD (othI i j) mem0)=0):errR l i (l.length-othI i j) (othI i j)=errR l i (l.length-othI i (j+1)) (othI i (j+1)):=by
 have e:=Sa hj (show ¬(othI i j≠i/\rstE (l.getD i mem0) (l.getD (othI i j) mem0)≠0) from fun q=>q.2 h);rcases Cz i j with h1 | ⟨h1,h2⟩
 ·rw[h1,e]
 rw[h2,e,h1,Ez l hi]
theorem aJc {l:List Mem} {i j:Nat} (hj:othI i j<l.length) (h:¬rstE (l.getD i mem0) (l.getD (othI i j) mem0)=0):errR l i (l.length-othI i j) (othI i j)=rstE (l.getD i mem0) (l.getD (othI i j) mem0):=Wu hj ⟨Iz i j,h⟩
structure AskP (m n:Mem) (v:SV) (p:Prop) (e:Int):Prop where
 found:findP qKs qVs m.1 n.1=some v
 rest:rstP m n↔p
 err:rstE m n=e
abbrev tRr:Ty:=.pair (.int .i64) (.int .i64)
abbrev agC (m:Mem):List SV:=[I m.1,I m.2.1,I m.2.2.1,S m.2.2.2.1.1,S m.2.2.2.1.2.1,S m.2.2.2.1.2.2,S m.2.2.2.2.1.1,S m.2.2.2.2.1.2.1,S m.2.2.2.2.1.2.2,I m.2.2.2.2.2.1,I m.2.2.2.2.2.2]
theorem Iv {ls:List Lin} {l:List Mem} {i:Nat} (h:walP ls (l.getD i mem0) (gK l i l.length)):outR ls l (i+1)=(outR ls l i++ [((i:Int),(-1:Int))])++rowR l i l.length:=by
 show (if walP ls (l.getD i mem0) (gK l i l.length) then outR ls l i++ [((i:Int),(-1:Int))] else outR ls l i)++rowR l i l.length= _;rw[aD h]
theorem Iw {ls:List Lin} {l:List Mem} {i:Nat} (h:¬walP ls (l.getD i mem0) (gK l i l.length)):outR ls l (i+1)=outR ls l i++rowR l i l.length:=by
 show (if walP ls (l.getD i mem0) (gK l i l.length) then outR ls l i++ [((i:Int),(-1:Int))] else outR ls l i)++rowR l i l.length= _;rw[aC h]
theorem b14e (ls:List Lin) (l:List Mem) (hbad:(512<l.length\/4096<ls.length)\/badL ls\/badM l):body Tp [aA5,aFd,aA3,aFf,aA6,aA2,aA1,aA0,aE3,aFc] {} true f14 [.agg [.any,.any,.any,.seq tLin ls],.seq tMem l] (.tup [.seq tRr (ofR ls l).1,I (ofR ls l).2]):=by
 by_cases h1:512<l.length\/4096<ls.length
 ·have e:ofR ls l=([],4):=aD h1;rw[e];by_cases h2:512<l.length
  ·exact ZRF
  have h3:4096<ls.length:=h1.resolve_left h2;exact ZRF
 by_cases h2:badL ls
 ·have e:ofR ls l=([],1):=by unfold ofR;rw[aC h1,aD h2]
  rw[e];have hq:0<=ixG badX ls:=(vA badX ls lin0).2 h2;exact ZRF
 have h3:badM l:=(hbad.resolve_left h1).resolve_left h2;have e:ofR ls l=([],1):=by unfold ofR;rw[aC h1,aC h2,aD h3]
 rw[e];have hq:¬0<=ixG badX ls:=fun q=>h2 ((vA badX ls lin0).1 q);have hq2:0<=ixG badY l:=(vA badY l mem0).2 h3;exact ZRF
theorem b14m (ls:List Lin) (l:List Mem) (h1:¬(512<l.length\/4096<ls.length)) (h2:¬badL ls) (h3:¬badM l) (hkey:KeyOK Tp 86) (hV:ent.entL qVs qVs):body Tp [aA5,aFd,aA3,aFf,aA6,aA2,aA1,aA0,aE3,aFc] { asks:=[(1,[5]),(3,[9])] } true f14 [.agg [.any,.any,.any,.seq tLin ls],.seq tMem l] (.tup [.seq tRr (ofR ls l).1,I (ofR ls l).2]):=by
 have hq:¬0<=ixG badX ls:=fun q=>h2 ((vA badX ls lin0).1 q);have hq2:¬0<=ixG badY l:=fun q=>h3 ((vA badY l mem0).1 q);have hmem:∀j,j<l.length->memE (l.getD j mem0)=0:=fun j hj=>aH fun q=>h3 ⟨j,hj,q⟩;have hlin:okLs ls:=fun j hj=>aH fun q=>h2 ⟨j,hj,q⟩;have e:ofR ls l=if errS l l.length 0≠0 then ([],errS l l.length 0) else if 4096<(outR ls l l.length).length then ([],4) else (outR ls l l.length,0):=by unfold ofR;rw[aC h1,aC h2,aC h3]
 (repeat' first|refine ZX ?_|refine Zg fun _=>?_);refine Ask.mk ⟨{ X:=Nat,pre:=fun i=>i<=l.length/\errS l l.length 0=errS l (l.length-i) i,mod:=fun i _=>[(7,.ref 5 1),(38,I i)],heap:=fun i _=>[.cells [.any,.any,.any,.seq tLin ls] 29,.vec 1 tRr [] 45,.cells [.ref 1 1] 34,.cells [I 0] 35,.cells [.fmp qKs qVs] 77,.vec 1 tRr (outR ls l i) 45],objs:=[5],mu:=fun i=>l.length-i },rfl,?_⟩;(repeat refine ZG ?_);refine ⟨⟨(0:Nat),⟨aK _,rfl⟩,?_⟩,fun (i:Nat) hi=>?_⟩
 ·(repeat' (first | with_reducible exact hV | ((conv=>whnf);first | exact trivial | (refine aA ?_ ?_))));all_goals first | with_reducible rfl | rfl | skip
  all_goals (repeat' first|exact Nat.one_pos)
 obtain ⟨hi,he⟩:=hi;by_cases hlt:i<l.length
 ·have hpre:0<=(i:Int)/\(i:Int)<l.length:=om;have hmi:=hmem i hlt;have hl5:l.length<=512:=om;have hol:=Lo ls l i;have hol2:i*(l.length+1)<=512*513:=jY om om;have hol3:(outR ls l i).length<=262656:=bL hol hol2;have hrl:∀n,(rowR l i n).length<=n:=Ej l i;(repeat' first|refine ZX ?_|refine Zg fun _=>?_);refine Ask.mk ⟨{ X:=Nat,pre:=fun j=>j<=l.length-1/\errR l i l.length 0=errR l i (l.length-othI i j) (othI i j),mod:=fun _ _=>[],heap:=fun j _=>[.cells [.any,.any,.any,.seq tLin ls] 29,.vec 1 tRr [] 45,.cells [.ref 1 1] 34,.cells [I 0] 35,.cells [.fmp qKs qVs] 77,.vec 1 tRr (outR ls l i) 45,.cells [I i] 3,.cells (agC (l.getD i mem0)) 51,.cells [.bl (gK l i (othI i j)) Cp] 4,.vec 1 tRr (rowR l i (othI i j)) 45,.cells [.ref 9 1] 34],objs:=[9],mu:=fun j=>j },rfl,?_⟩;(repeat refine ZG ?_);refine ⟨⟨(0:Nat),rfl,⟨aK _,aFi l hlt⟩,?_⟩,fun (j:Nat) hj (hjl:j<l.length-1)=>?_,fun (j:Nat) hj (hje:j=l.length-1)=>?_⟩
  ·(repeat' (first | with_reducible exact hV | ((conv=>whnf);first | exact trivial | (refine aA ?_ ?_))));all_goals first | with_reducible rfl | rfl | skip
   ·(conv=>whnf);exact aDn l i
   ·(conv=>whnf);exact Nat.one_pos
   (conv=>whnf);exact (aFh l i).symm
  ·have hjo:othI i j<l.length:=aFg hlt hjl;have hmj:=hmem _ hjo;have hrl:=hrl (othI i j);have hmm:memE ((l.getD i mem0).1,(l.getD i mem0).2.1,(l.getD i mem0).2.2.1,((l.getD i mem0).2.2.2.1.1,(l.getD i mem0).2.2.2.1.2.1,(l.getD i mem0).2.2.2.1.2.2),((l.getD i mem0).2.2.2.2.1.1,(l.getD i mem0).2.2.2.2.1.2.1,(l.getD i mem0).2.2.2.2.1.2.2),(l.getD i mem0).2.2.2.2.2.1,(l.getD i mem0).2.2.2.2.2.2)=0/\memE ((l.getD (othI i j) mem0).1,(l.getD (othI i j) mem0).2.1,(l.getD (othI i j) mem0).2.2.1,((l.getD (othI i j) mem0).2.2.2.1.1,(l.getD (othI i j) mem0).2.2.2.1.2.1,(l.getD (othI i j) mem0).2.2.2.1.2.2),((l.getD (othI i j) mem0).2.2.2.2.1.1,(l.getD (othI i j) mem0).2.2.2.2.1.2.1,(l.getD (othI i j) mem0).2.2.2.2.1.2.2),(l.getD (othI i j) mem0).2.2.2.2.2.1,(l.getD (othI i j) mem0).2.2.2.2.2.2)=0:=⟨hmi,hmj⟩;obtain ⟨hj1,hj2⟩:=hj;have hq5:=qK_le (l.getD i mem0).1 (l.getD (othI i j) mem0).1;have hqe:∃q,qK (l.getD i mem0).1 (l.getD (othI i j) mem0).1=q:=⟨_,rfl⟩;obtain ⟨q,hq0⟩:=hqe;rw[hq0] at hq5;have hff:=aM5 (gY hmi).1 (gY hmj).1;rw[hq0] at hff;show hnfL (itO l i j) _;have hres:∀x,rstE (l.getD i mem0) (l.getD (othI i j) mem0)=x->¬x=0->(ofR ls l).1= []/\(ofR ls l).2=x:=fun x hx h0=>by
    have e1:errR l i l.length 0=x:=by rw[hj2,aJc hjo (by rw[hx];exact h0),hx]
    have e2:errS l l.length 0=x:=by rw[he,Ww hlt (by rw[e1];exact h0),e1]
    rw[e,e2,aD h0];exact ⟨rfl,rfl⟩
   have hqc:q=0\/(q=1\/q=5)\/q=2\/q=3\/q=4:=om;rcases hqc with hz0 | hz1 | hz2
   ·subst hz0;have hf:findP qKs qVs (l.getD i mem0).1 (l.getD (othI i j) mem0).1=none:=hff;have hr:¬rstP (l.getD i mem0) (l.getD (othI i j) mem0):=by unfold rstP;rw[hq0];exact id
    have hz:rstE (l.getD i mem0) (l.getD (othI i j) mem0)=0:=by unfold rstE;rw[hq0];rfl
    (repeat' first|refine ZG ?_|refine Zg fun _=>?_);refine ⟨(j+1:Nat),rfl,⟨hjl,hj2.trans (uE hlt hjo hz)⟩,?_⟩;(repeat' (first | with_reducible exact hV | ((conv=>whnf);first | exact trivial | (refine aA ?_ ?_))));all_goals first | with_reducible rfl | rfl | skip
    ·(conv=>whnf);exact (plat_next.trans ⟨fun h=>h.resolve_right fun q=>hr q.1,.inl⟩).symm
    ·(conv=>whnf);exact Nat.one_pos
    (conv=>whnf);exact (Xq hr).symm
   ·rcases hz1 with hz1 | hz1;case' _=>
     subst hz1;have hf:findP qKs qVs (l.getD i mem0).1 (l.getD (othI i j) mem0).1=some (.clo 118 [] [.lelem [.clo 81 [] []] 0]):=hff;have hR:rstP (l.getD i mem0) (l.getD (othI i j) mem0)↔((l.getD i mem0).2.1=(l.getD (othI i j) mem0).2.1/\crB (l.getD i mem0) (l.getD (othI i j) mem0)):=by unfold rstP;rw[hq0];exact gQ
     have hE:rstE (l.getD i mem0) (l.getD (othI i j) mem0)=(if (l.getD i mem0).2.1=(l.getD (othI i j) mem0).2.1 then crE (l.getD i mem0) (l.getD (othI i j) mem0) else 0):=by unfold rstE;rw[hq0];rfl
     (repeat' first|refine ZG ?_|refine Zg fun _=>?_);refine ⟨⟨_,hf,?_⟩⟩
    rotate_left
    case' _=>
     subst hz1;have hf:findP qKs qVs (l.getD i mem0).1 (l.getD (othI i j) mem0).1=some (.clo 81 [] []):=hff;have hR:rstP (l.getD i mem0) (l.getD (othI i j) mem0)↔crB (l.getD i mem0) (l.getD (othI i j) mem0):=by unfold rstP;rw[hq0];exact gQ
     have hE:rstE (l.getD i mem0) (l.getD (othI i j) mem0)=crE (l.getD i mem0) (l.getD (othI i j) mem0):=by unfold rstE;rw[hq0];rfl
     (repeat' first|refine ZG ?_|refine Zg fun _=>?_);refine ⟨⟨_,hf,?_⟩⟩
    all_goals
     (apply Br.mk<;>intro)
     ·rename_i hb;obtain ⟨w1,w2⟩:=hres _ hE hb;(conv=>whnf);(repeat' first|exact trivial|rfl|apply aA);all_goals (conv=>whnf)
      all_goals first | exact w1 | exact w1.symm | exact w2.symm
     rename_i hb;have hz:rstE (l.getD i mem0) (l.getD (othI i j) mem0)=0:=hE.trans (bC.1 hb);(apply Br.mk<;>intro)
     ·rename_i hb;have hr:rstP (l.getD i mem0) (l.getD (othI i j) mem0):=hR.2 hb;(repeat refine ZR ?_);(apply Br.mk<;>intro)
      ·rename_i hp;refine ⟨(j+1:Nat),rfl,⟨hjl,hj2.trans (uE hlt hjo hz)⟩,?_⟩;(repeat' (first | with_reducible exact hV | ((conv=>whnf);first | exact trivial | (refine aA ?_ ?_))));all_goals first | with_reducible rfl | rfl | skip
       ·(conv=>whnf);exact plat_next.2 (.inl hp)
       ·(conv=>whnf);exact Nat.one_pos
       (conv=>whnf);exact (Ic hr).symm
      rename_i hp;refine ⟨(j+1:Nat),rfl,⟨hjl,hj2.trans (uE hlt hjo hz)⟩,?_⟩;(repeat' (first | with_reducible exact hV | ((conv=>whnf);first | exact trivial | (refine aA ?_ ?_))));all_goals first | with_reducible rfl | rfl | skip
      ·(conv=>whnf);exact ⟨fun h=>plat_next.2 (.inr ⟨hr,h⟩),fun h=>((plat_next.1 h).resolve_left hp).2⟩
      ·(conv=>whnf);exact Nat.one_pos
      (conv=>whnf);exact (Ic hr).symm
     rename_i hb;have hr:¬rstP (l.getD i mem0) (l.getD (othI i j) mem0):=fun h=>hb (hR.1 h);refine ⟨(j+1:Nat),rfl,⟨hjl,hj2.trans (uE hlt hjo hz)⟩,?_⟩;(repeat' (first | with_reducible exact hV | ((conv=>whnf);first | exact trivial | (refine aA ?_ ?_))));all_goals first | with_reducible rfl | rfl | skip
     ·(conv=>whnf);exact (plat_next.trans ⟨fun h=>h.resolve_right fun q=>hr q.1,.inl⟩).symm
     ·(conv=>whnf);exact Nat.one_pos
     (conv=>whnf);exact (Xq hr).symm
   rcases hz2 with hz2 | hz2 | hz2;case' _=>
    subst hz2;have hf:findP qKs qVs (l.getD i mem0).1 (l.getD (othI i j) mem0).1=some (.clo 82 [] []):=hff;have hR:rstP (l.getD i mem0) (l.getD (othI i j) mem0)↔tchP (l.getD i mem0) (l.getD (othI i j) mem0):=by unfold rstP;rw[hq0];exact gQ
    have hz:rstE (l.getD i mem0) (l.getD (othI i j) mem0)=0:=by unfold rstE;rw[hq0];rfl
    (repeat' first|refine ZG ?_|refine Zg fun _=>?_);refine ⟨⟨_,hf,?_⟩⟩;(repeat refine ZR ?_)
   rotate_left
   case' _=>
    subst hz2;have hf:findP qKs qVs (l.getD i mem0).1 (l.getD (othI i j) mem0).1=some (.clo 118 [] [.lelem [.clo 82 [] []] 0]):=hff;have hR:rstP (l.getD i mem0) (l.getD (othI i j) mem0)↔((l.getD i mem0).2.1=(l.getD (othI i j) mem0).2.1/\tchP (l.getD i mem0) (l.getD (othI i j) mem0)):=by unfold rstP;rw[hq0];exact gQ
    have hz:rstE (l.getD i mem0) (l.getD (othI i j) mem0)=0:=by unfold rstE;rw[hq0];rfl
    (repeat' first|refine ZG ?_|refine Zg fun _=>?_);refine ⟨⟨_,hf,?_⟩⟩;(repeat refine ZR ?_)
   rotate_left
   case' _=>
    subst hz2;have hf:findP qKs qVs (l.getD i mem0).1 (l.getD (othI i j) mem0).1=some (.clo 85 [] []):=hff;have hR:rstP (l.getD i mem0) (l.getD (othI i j) mem0)↔metP (l.getD (othI i j) mem0) (l.getD i mem0).2.2.2.2.1:=by unfold rstP;rw[hq0];exact gQ
    have hz:rstE (l.getD i mem0) (l.getD (othI i j) mem0)=0:=by unfold rstE;rw[hq0];rfl
    (repeat' first|refine ZG ?_|refine Zg fun _=>?_);refine ⟨⟨_,hf,?_⟩⟩;(repeat refine ZR ?_)
   all_goals
    (apply Br.mk<;>intro)
    ·rename_i hb;have hr:rstP (l.getD i mem0) (l.getD (othI i j) mem0):=hR.2 hb;(repeat refine ZR ?_);(apply Br.mk<;>intro)
     ·rename_i hp;refine ⟨(j+1:Nat),rfl,⟨hjl,hj2.trans (uE hlt hjo hz)⟩,?_⟩;(repeat' (first | with_reducible exact hV | ((conv=>whnf);first | exact trivial | (refine aA ?_ ?_))));all_goals first | with_reducible rfl | rfl | skip
      ·(conv=>whnf);exact plat_next.2 (.inl hp)
      ·(conv=>whnf);exact Nat.one_pos
      (conv=>whnf);exact (Ic hr).symm
     rename_i hp;refine ⟨(j+1:Nat),rfl,⟨hjl,hj2.trans (uE hlt hjo hz)⟩,?_⟩;(repeat' (first | with_reducible exact hV | ((conv=>whnf);first | exact trivial | (refine aA ?_ ?_))));all_goals first | with_reducible rfl | rfl | skip
     ·(conv=>whnf);exact ⟨fun h=>plat_next.2 (.inr ⟨hr,h⟩),fun h=>((plat_next.1 h).resolve_left hp).2⟩
     ·(conv=>whnf);exact Nat.one_pos
     (conv=>whnf);exact (Ic hr).symm
    rename_i hb;have hr:¬rstP (l.getD i mem0) (l.getD (othI i j) mem0):=fun h=>hb (hR.1 h);refine ⟨(j+1:Nat),rfl,⟨hjl,hj2.trans (uE hlt hjo hz)⟩,?_⟩;(repeat' (first | with_reducible exact hV | ((conv=>whnf);first | exact trivial | (refine aA ?_ ?_))));all_goals first | with_reducible rfl | rfl | skip
    ·(conv=>whnf);exact (plat_next.trans ⟨fun h=>h.resolve_right fun q=>hr q.1,.inl⟩).symm
    ·(conv=>whnf);exact Nat.one_pos
    (conv=>whnf);exact (Xq hr).symm
  subst hje;obtain ⟨_,hj2⟩:=hj;rw[zZ hlt,Wv] at hj2;have hrl:(rowR l i (othI i (l.length-1))).length<=512:=by have:=hrl (othI i (l.length-1));rw[zZ hlt] at this ⊢;omega
  have he2:=he.trans (aC2 hlt hj2);have hwl:okLs ls/\okS ((l.getD i mem0).2.2.2.1.1,(l.getD i mem0).2.2.2.1.2.1,(l.getD i mem0).2.2.2.1.2.2)/\okS ((l.getD i mem0).2.2.2.2.1.1,(l.getD i mem0).2.2.2.2.1.2.1,(l.getD i mem0).2.2.2.2.1.2.2):=⟨hlin,(gY hmi).2.1,(gY hmi).2.2.1⟩;(repeat refine ZX ?_);(apply Br.mk<;>intro)
  ·rename_i hw;rw[zZ hlt] at hw;have hw:walP ls (l.getD i mem0) (gK l i l.length):=hw;(repeat refine ZR ?_);refine ⟨(i+1:Nat),by show l.length-(i+1)<l.length-i;omega,⟨hlt,he2⟩,?_⟩;(repeat' (first | with_reducible exact hV | ((conv=>whnf);first | exact trivial | (refine aA ?_ ?_))));all_goals first | with_reducible rfl | rfl | skip
   ·(conv=>whnf);exact Nat.one_pos
   (conv=>whnf);rw[zZ hlt];exact (Iv hw).symm
  rename_i hw;rw[zZ hlt] at hw;have hw:¬walP ls (l.getD i mem0) (gK l i l.length):=hw;(repeat refine ZX ?_);refine ⟨(i+1:Nat),by show l.length-(i+1)<l.length-i;omega,⟨hlt,he2⟩,?_⟩;(repeat' (first | with_reducible exact hV | ((conv=>whnf);first | exact trivial | (refine aA ?_ ?_))));all_goals first | with_reducible rfl | rfl | skip
  ·(conv=>whnf);exact Nat.one_pos
  (conv=>whnf);rw[zZ hlt];exact (Iw hw).symm
 have hil:i=l.length:=om;subst hil;have e2:errS l l.length 0=0:=he.trans Wx;by_cases hlen:4096<(outR ls l l.length).length
 ·have w1:(ofR ls l).1= []:=by rw[e,e2,aC (bI rfl),aD hlen]
  have w2:(ofR ls l).2=4:=by rw[e,e2,aC (bI rfl),aD hlen]
  (repeat' first|refine ZR ?_|refine Zg fun _=>?_);(conv=>whnf);(repeat' first|exact trivial|rfl|apply aA);all_goals (conv=>whnf)
  all_goals first | exact w1 | exact w1.symm | exact w2.symm
 have w1:(ofR ls l).1=outR ls l l.length:=by rw[e,e2,aC (bI rfl),aC hlen]
 have w2:(ofR ls l).2=0:=by rw[e,e2,aC (bI rfl),aC hlen]
 (repeat' first|refine ZR ?_|refine Zg fun _=>?_);(conv=>whnf);(repeat' first|exact trivial|rfl|apply aA);all_goals (conv=>whnf)
 all_goals first | exact w1 | exact w1.symm | exact w2.symm
abbrev et (m:Mem):Mem:=(m.1,m.2.1,m.2.2.1,(m.2.2.2.1.1,m.2.2.2.1.2.1,m.2.2.2.1.2.2),(m.2.2.2.2.1.1,m.2.2.2.2.1.2.1,m.2.2.2.2.1.2.2),m.2.2.2.2.2.1,m.2.2.2.2.2.2)
theorem b3015 (ls:List Lin) (l:List Mem):body Tp [aMk,Np,aMj,aMl] { asks:=[(0,[]),(2,[]),(4,[2]),(6,[3])] } true f15 [.agg [.any,.any,.any,.seq tLin ls],.seq tMem l] (.tup [.seq tRr (ofR ls l).1,I (ofR ls l).2]):=by
 by_cases h1:512<l.length\/4096<ls.length
 ·have e:ofR ls l=([],4):=aD h1;rw[e];by_cases h2:512<l.length
  ·exact ZRF
  have h3:4096<ls.length:=h1.resolve_left h2;exact ZRF
 have hn1:¬512<l.length:=fun q=>h1 (.inl q);have hn2:¬4096<ls.length:=fun q=>h1 (.inr q);(repeat' first|refine ZR ?_|refine Zg fun _=>?_);refine Ask.mk ⟨{ X:=Nat,pre:=fun i=>i<=ls.length/\∀j,j<i->okS (ls.getD j lin0).2.1/\okS (ls.getD j lin0).2.2.1,mod:=fun i _=>[(6,I i)],heap:=fun i H=>H,mu:=fun i=>ls.length-i },rfl,?_⟩;(repeat refine ZG ?_);refine ⟨⟨(0:Nat),⟨aK _,fun j hj=>absurd hj (bV _)⟩,ZE⟩,fun (i:Nat) hi=>?_⟩;obtain ⟨hi,hp⟩:=hi;by_cases hlt:i<ls.length
 ·by_cases k1:okS ((ls.getD i lin0).2.1.1,(ls.getD i lin0).2.1.2.1,(ls.getD i lin0).2.1.2.2)
  ·by_cases k2:okS ((ls.getD i lin0).2.2.1.1,(ls.getD i lin0).2.2.1.2.1,(ls.getD i lin0).2.2.1.2.2)
   ·(repeat' first|refine ZR ?_|refine Zg fun _=>?_);refine ⟨(i+1:Nat),by show ls.length-(i+1)<ls.length-i;omega,⟨hlt,fun j hj=>?_⟩,ZE⟩;by_cases e:j=i
    ·subst e;exact ⟨k1,k2⟩
    exact hp j om
   have e:ofR ls l=([],1):=by unfold ofR;rw[aC h1,aD ⟨i,hlt,fun q=>k2 q.2⟩]
   rw[e];exact ZRF
  have e:ofR ls l=([],1):=by unfold ofR;rw[aC h1,aD ⟨i,hlt,fun q=>k1 q.1⟩]
  rw[e];exact ZRF
 have hil:i=ls.length:=om;subst hil;have h2:¬badL ls:=fun ⟨j,hj,q⟩=>q (hp j hj);have hlin:okLs ls:=hp;clear hi hlt;(repeat' first|refine ZR ?_|refine Zg fun _=>?_);refine Ask.mk ⟨{ X:=Nat,pre:=fun i=>i<=l.length/\∀j,j<i->memE (l.getD j mem0)=0,mod:=fun i _=>[(7,I i)],heap:=fun i H=>H,mu:=fun i=>l.length-i },rfl,?_⟩;(repeat refine ZG ?_);refine ⟨⟨(0:Nat),⟨aK _,fun j hj=>absurd hj (bV _)⟩,ZE⟩,fun (i:Nat) hi=>?_⟩;obtain ⟨hi,hmp⟩:=hi;by_cases hlt:i<l.length
 ·by_cases k1:memE (et (l.getD i mem0))=0
  ·(repeat' first|refine ZR ?_|refine Zg fun _=>?_);refine ⟨(i+1:Nat),by show l.length-(i+1)<l.length-i;omega,⟨hlt,fun j hj=>?_⟩,ZE⟩;by_cases e:j=i
   ·subst e;exact k1
   exact hmp j om
  have e:ofR ls l=([],1):=by unfold ofR;rw[aC h1,aC h2,aD ⟨i,hlt,k1⟩]
  rw[e];exact ZRF
 have hil:i=l.length:=om;subst hil;have h3:¬badM l:=fun ⟨j,hj,q⟩=>q (hmp j hj);have e:ofR ls l=if errS l l.length 0≠0 then ([],errS l l.length 0) else if 4096<(outR ls l l.length).length then ([],4) else (outR ls l l.length,0):=by unfold ofR;rw[aC h1,aC h2,aC h3]
 clear hi hlt;(repeat' first|refine ZX ?_|refine Zg fun _=>?_);refine Ask.mk ⟨{ X:=Nat,pre:=fun i=>i<=l.length/\errS l l.length 0=errS l (l.length-i) i,mod:=fun i _=>[(8,.ref 2 1),(9,I i)],heap:=fun i _=>[.cells [.any,.any,.any,.seq tLin ls] 29,.vec 1 tRr [] 45,.vec 1 tRr (outR ls l i) 45],objs:=[2],mu:=fun i=>l.length-i },rfl,?_⟩;(repeat refine ZG ?_);refine ⟨⟨(0:Nat),⟨aK _,rfl⟩,ZE⟩,fun (i:Nat) hi=>?_⟩;obtain ⟨hi,he⟩:=hi;by_cases hlt:i<l.length
 ·have hmi:memE (et (l.getD i mem0))=0:=hmp i hlt;have hol:=Lo ls l i;have hol2:i*(l.length+1)<=512*513:=jY om om;have hol3:(outR ls l i).length<=262656:=bL hol hol2;have hrl0:∀n,(rowR l i n).length<=n:=Ej l i;(repeat' first|refine ZX ?_|refine Zg fun _=>?_);refine Ask.mk ⟨{ X:=Nat,pre:=fun k=>k<=l.length/\errR l i l.length 0=errR l i (l.length-k) k,mod:=fun k _=>[(10,.ref 3 1),(11,.bl (gK l i k) Cp),(12,I k)],heap:=fun k _=>[.cells [.any,.any,.any,.seq tLin ls] 29,.vec 1 tRr [] 45,.vec 1 tRr (outR ls l i) 45,.vec 1 tRr (rowR l i k) 45],objs:=[3],mu:=fun k=>l.length-k },rfl,?_⟩;(repeat refine ZG ?_);refine ⟨⟨(0:Nat),⟨aK _,rfl⟩,?_⟩,fun (k:Nat) hk=>?_⟩
  ·exact ZEx Cu
  obtain ⟨hk,hke⟩:=hk;have hrl:=hrl0 k;by_cases hkl:k<l.length
  ·have hmu:l.length-(k+1)<l.length-k:=om;by_cases hki:k=i
   ·subst hki;have hx:=hke.trans (Ez l hkl);have hrow:=Aa l k;have hpl:=Cc l k;(repeat' first|refine ZR ?_|refine Zg fun _=>?_);refine ⟨(k+1:Nat),hmu,⟨hkl,hx⟩,?_⟩;(repeat' first|exact trivial|rfl|exact Nat.one_pos|apply aA);all_goals first | exact hrow.symm | exact hpl.symm
   have hmk:memE (et (l.getD k mem0))=0:=hmp k hkl;have hmm:memE (et (l.getD i mem0))=0/\memE (et (l.getD k mem0))=0:=⟨hmi,hmk⟩;by_cases hE:rstE (et (l.getD i mem0)) (et (l.getD k mem0))=0
   ·have hx:errR l i l.length 0=errR l i (l.length-(k+1)) (k+1):=hke.trans (Sa hkl fun q=>q.2 hE);by_cases hR:rstP (et (l.getD i mem0)) (et (l.getD k mem0))
    ·have hrow:rowR l i (k+1)=rowR l i k++ [((i:Int),(k:Int))]:=aD ⟨hki,hR⟩;by_cases hp2:gK l i k
     ·have hpl:gK l i (k+1):=platP_succ.2 (.inl hp2);(repeat'((conv=>whnf);first|refine Zg fun _=>?_|refine Zn ?_|refine Zj ?_|apply pI|apply pJ|refine Zl ?_|refine Zy ?_|refine Zm ?_|fail));refine ⟨(k+1:Nat),hmu,⟨hkl,hx⟩,?_⟩;(repeat' first|exact trivial|rfl|exact Nat.one_pos|apply aA);all_goals first | exact hrow.symm | exact hpl
     have hpl:gK l i (k+1)↔(l.getD k mem0).1=10:=platP_succ.trans ⟨fun q=>(q.resolve_left hp2).2.2,fun q=>.inr ⟨hki,hR,q⟩⟩;(repeat'((conv=>whnf);first|refine Zg fun _=>?_|refine Zn ?_|refine Zj ?_|apply pI|apply pJ|refine Zl ?_|refine Zy ?_|refine Zm ?_|fail));refine ⟨(k+1:Nat),hmu,⟨hkl,hx⟩,?_⟩;(repeat' first|exact trivial|rfl|exact Nat.one_pos|apply aA);all_goals first | exact hrow.symm | exact hpl.symm
    have hrow:rowR l i (k+1)=rowR l i k:=aC fun q=>hR q.2;have hpl:gK l i (k+1)↔gK l i k:=platP_succ.trans ⟨fun q=>q.resolve_right fun q=>hR q.2.1,.inl⟩;(repeat'((conv=>whnf);first|refine Zg fun _=>?_|refine Zn ?_|refine Zj ?_|apply pI|apply pJ|refine Zy ?_|refine Zm ?_|fail));refine ⟨(k+1:Nat),hmu,⟨hkl,hx⟩,?_⟩;(repeat' first|exact trivial|rfl|exact Nat.one_pos|apply aA);all_goals first | exact hrow.symm | exact hpl.symm
   have e1:errR l i l.length 0=rstE (et (l.getD i mem0)) (et (l.getD k mem0)):=hke.trans (Wu hkl ⟨hki,hE⟩);have e2:errS l l.length 0=rstE (et (l.getD i mem0)) (et (l.getD k mem0)):=by rw[he,Ww hlt (by rw[e1];exact hE),e1]
   have w1:(ofR ls l).1= []:=by rw[e,e2,aD hE]
   have w2:(ofR ls l).2=rstE (et (l.getD i mem0)) (et (l.getD k mem0)):=by rw[e,e2,aD hE]
   rw[w1,w2];(repeat'((conv=>whnf);first|refine Zg fun _=>?_|refine Zn ?_|refine Zj ?_|apply pI|apply pJ|refine Zy ?_|refine Zm ?_|fail));exact ZF
  have hkk:k=l.length:=om;subst hkk;have he2:errS l l.length 0=errS l (l.length-(i+1)) (i+1):=he.trans (aC2 hlt (hke.trans Wv));have hpw:okLs ls/\okS ((l.getD i mem0).2.2.2.1.1,(l.getD i mem0).2.2.2.1.2.1,(l.getD i mem0).2.2.2.1.2.2)/\okS ((l.getD i mem0).2.2.2.2.1.1,(l.getD i mem0).2.2.2.2.1.2.1,(l.getD i mem0).2.2.2.2.1.2.2):=⟨hlin,(gY hmi).2.1,(gY hmi).2.2.1⟩;have hmu:l.length-(i+1)<l.length-i:=om;by_cases hw:walP ls (et (l.getD i mem0)) (gK l i l.length)
  ·have ho:=Iv (ls:=ls) (l:=l) (i:=i) hw;(repeat'((conv=>whnf);first|refine Zg fun _=>?_|refine Zn ?_|refine Zj ?_|apply pI|apply pJ|refine Zl ?_|refine Zy ?_|refine Zm ?_|fail));refine ⟨(i+1:Nat),hmu,⟨hlt,he2⟩,?_⟩;exact ZEx ho.symm
  have ho:=Iw (ls:=ls) (l:=l) (i:=i) hw;(repeat'((conv=>whnf);first|refine Zg fun _=>?_|refine Zn ?_|refine Zj ?_|apply pI|apply pJ|refine Zm ?_|fail));refine ⟨(i+1:Nat),hmu,⟨hlt,he2⟩,?_⟩;exact ZEx ho.symm
 have hil:i=l.length:=om;subst hil;have e2:errS l l.length 0=0:=he.trans Wx;by_cases hlen:4096<(outR ls l l.length).length
 ·have w1:(ofR ls l).1= []:=by rw[e,e2,aC (bI rfl),aD hlen]
  have w2:(ofR ls l).2=4:=by rw[e,e2,aC (bI rfl),aD hlen]
  rw[w1,w2];exact ZRF
 have w1:(ofR ls l).1=outR ls l l.length:=by rw[e,e2,aC (bI rfl),aC hlen]
 have w2:(ofR ls l).2=0:=by rw[e,e2,aC (bI rfl),aC hlen]
 rw[w1,w2];exact ZRF
def Tl:Con:=aR 15 true fun args K=>match args with | [.agg [.any,.any,.any,.seq (.pair (.int .i64) (.pair (.pair .str (.pair .str .str)) (.pair (.pair .str (.pair .str .str)) (.pair (.int .i64) (.int .i64))))) ls],.seq (.pair (.int .i64) (.pair (.int .i64) (.pair (.int .i64) (.pair (.pair .str (.pair .str .str)) (.pair (.pair .str (.pair .str .str)) (.pair (.int .i64) (.int .i64))))))) l]=>K (.tup [.seq tRr (ofR ls l).1,I (ofR ls l).2]) | _=>False
theorem aFx:aO Tp Tl:=by
 refine kO func15 fun args K h=>?_;simp only[Tl] at h;split at h
 ·rename_i ls l;exact ⟨_,h,triB func15 ntmps15 (by simp[k3050,aFo,k3052,k3053]) (b3015 ls l)⟩
 cases h
end RB
end
section
open Go Go.Proofs Go.Eng Go.Shelf Tryz
namespace EB
structure BI (on:List (List Int)) (n i:Int) (k:Nat) (x:List Bool × List Int):Prop where
 len:x.1.length=on.length
 pos:0<x.2.length
 td0:x.2.getD 0 0=i
 rng:∀q,q<x.2.length->0<=x.2.getD q 0/\x.2.getD q 0<n
 mrk:∀v:Nat,x.1.getD v false=true->Way on i v/\(v:Int)∈x.2.drop 1
 tdm:∀v∈x.2.drop 1,x.1.getD v.toNat false=true
 nd:(x.2.drop 1).Nodup
 dn:∀q,q<k->∀v,Edge on (x.2.getD q 0) v->x.1.getD v.toNat false=true
theorem BI.size {on:List (List Int)} {n i:Int} (hn:Rows2 on n) {k:Nat} {x:List Bool × List Int} (h:BI on n i k x):x.2.length<=n.toNat+1:=by
 have:=Ns (n:=n) (by have:=hn.1;omega) h.nd fun v hv=>by
  obtain ⟨q,hq,rfl⟩:=dD (kW hv);have:=h.rng q hq;rw[aB,aM hq] at this;exact this
 rw[bB] at this;omega
theorem BI.turn {on:List (List Int)} {n i:Int} (hn:Rows2 on n) {k:Nat} {x:List Bool × List Int} (h:BI on n i k x) {v:Int} (hk:k<x.2.length) (he:Edge on (x.2.getD k 0) v) (hv:¬x.1.getD v.toNat false=true):BI on n i k (x.1.set v.toNat true,x.2++ [v]):=by
 have hvn:=hn.2 _ _ he;have hl:v.toNat<x.1.length:=by rw[h.len];have:=hn.1;omega
 have hs:∀q,(x.1.set v.toNat true).getD q false=if q=v.toNat then true else x.1.getD q false:=fun q=>by
  rw[vW];by_cases e:q=v.toNat
  ·rw[aD ⟨e,by rw[e];exact hl⟩,aD e]
  rw[aC fun h=>e h.1,aC e]
 have hp:=h.pos;have hd:(x.2++ [v]).drop 1=x.2.drop 1++ [v]:=by rw[dY om]
 have hq:∀q,q<x.2.length->(x.2++ [v]).getD q 0=x.2.getD q 0:=fun q hq=>by
  rw[aB,aB,bU hq]
 have hw:Way on i v:=by
  by_cases e:k=0
  ·subst e;rw[h.td0] at he;exact .one _ _ he
  have hm:x.2.getD k 0∈x.2.drop 1:=by
   rw[aB,aM hk];refine nW.2 ⟨k-1,by rw[bB];omega,?_⟩;rw[nE];congr 1
   omega
  have h1:=h.tdm _ hm;have h2:=(h.mrk _ h1).1;rw[bF (h.rng k hk).1] at h2;exact h2.snoc he
 refine ⟨by rw[dN];exact h.len,si,by rw[hq 0 hp];exact h.td0,fun q hq'=>?_,fun u hu=>?_,fun u hu=>?_,?_,fun q hqk u hu=>?_⟩
 ·by_cases e:q<x.2.length
  ·rw[hq q e];exact h.rng q e
  have:q=x.2.length:=by simp at hq';omega
  subst this;rw[aB,cS (aN _)];simpa using hvn
 ·rw[hd];rw[hs] at hu;by_cases e:u=v.toNat
  ·have e2:(u:Int)=v:=om;rw[e2];exact ⟨hw,cE.2 (.inr (bO.2 rfl))⟩
  rw[aC e] at hu;obtain ⟨h1,h2⟩:=h.mrk u hu;exact ⟨h1,cE.2 (.inl h2)⟩
 ·rw[hd] at hu;rw[hs];rcases cE.1 hu with hu | hu
  ·have:=h.tdm u hu;split
   ·rfl
   exact this
  rw[bO.1 hu,aD rfl]
 ·rw[hd,List.nodup_append];refine ⟨h.nd,si,fun a ha b hb e=>?_⟩;rw[bO.1 hb] at e;subst e;exact hv (h.tdm a ha)
 have hqq:q<x.2.length:=om;rw[hq q hqq] at hu;have:=h.dn q hqk u hu;rw[hs];split
 ·rfl
 exact this
theorem BI.next {on:List (List Int)} {n i:Int} {k:Nat} {x:List Bool × List Int} (h:BI on n i k x) (hd:∀v,Edge on (x.2.getD k 0) v->x.1.getD v.toNat false=true):BI on n i (k+1) x:=
 ⟨h.len,h.pos,h.td0,h.rng,h.mrk,h.tdm,h.nd,fun q hq v hv=>by
  by_cases e:q=k
  ·subst e;exact hd v hv
  exact h.dn q om v hv⟩
def LV (on:List (List Int)) (tg:Int) (d:Int) (out:List Int):Prop:=out.length=on.length/\∀u:Nat,u<on.length->(0<=jI on tg u/\jI on tg u<=d->out.getD u 0=jI on tg u)/\(¬(0<=jI on tg u/\jI on tg u<=d)->out.getD u 0= -1)
def LM (on:List (List Int)) (tg:Int) (d:Int) (done:Int->Int->Prop) (out:List Int):Prop:=out.length=on.length/\∀u:Nat,u<on.length->(0<=jI on tg u/\jI on tg u<=d->out.getD u 0=jI on tg u)/\(¬(0<=jI on tg u/\jI on tg u<=d)->(out.getD u 0= -1/\∀v,done u v->¬jI on tg v=d)\/(out.getD u 0=d+1/\jI on tg u=d+1))
theorem LV.start {on:List (List Int)} {tg d:Int} {out:List Int} (h:LV on tg d out):LM on tg d (fun _ _=>False) out:=
 ⟨h.1,fun u hu=>⟨(h.2 u hu).1,fun h1=>.inl ⟨(h.2 u hu).2 h1,fun _ h=>h.elim⟩⟩⟩
theorem LM.is {on:List (List Int)} {n tg d:Int} (hn:Rows2 on n) (hd:0<=d) {done:Int->Int->Prop} {out:List Int} (h:LM on tg d done out) {v:Int} (hv:0<=v/\v<n):out.getD v.toNat 0=d↔jI on tg v=d:=by
 have h1:=h.2 v.toNat (by have:=hn.1;omega);rw[bF hv.1] at h1;by_cases hc:0<=jI on tg v/\jI on tg v<=d
 ·rw[h1.1 hc]
 rcases h1.2 hc with ⟨e,_⟩ | ⟨e,_⟩<;>rw[e]<;>constructor<;>intro<;>omega
theorem aEl {on:List (List Int)} {tg u v:Int} (he:Edge on u v) (h:0<=jI on tg v):0<=jI on tg u/\jI on tg u<=jI on tg v+1:=by
 rcases Tq (on:=on) tg v with h1 | ⟨d,h1,hw⟩
 ·omega
 obtain ⟨e,h2,_,h3⟩:=To (WayN.cons d u v tg he hw);omega
theorem aEm {on:List (List Int)} {tg u:Int} {d:Int} (hd:0<=d) (h:jI on tg u=d+1):∃v,Edge on u v/\jI on tg v=d:=by
 rcases Tq (on:=on) tg u with h1 | ⟨e,h1,hw⟩
 ·omega
 obtain ⟨q,hq⟩:=Tn (p:=fun m=>WayN on m u tg) hw;have e2:=Jb hq;obtain ⟨k,rfl⟩:∃k,q=k+1:=⟨q-1,om⟩;obtain ⟨v,he,hv⟩:=Xy hq;exact ⟨v,he,by rw[Jb hv];omega⟩
theorem LM.turn {on:List (List Int)} {n tg d:Int} (hn:Rows2 on n) (hd:0<=d) {done:Int->Int->Prop} {out:List Int} (h:LM on tg d done out) {u v:Int} (hu:0<=u/\u<n) (he:Edge on u v) (h1:out.getD v.toNat 0=d) (h2:out.getD u.toNat 0<0):
  LM on tg d (fun a b=>done a b\/a=u/\b=v) (out.set u.toNat (d+1)):=by
 have hv:=hn.2 u v he;have hl:u.toNat<out.length:=by rw[h.1];have:=hn.1;omega
 have hs:∀q,(out.set u.toNat (d+1)).getD q 0=if q=u.toNat then d+1 else out.getD q 0:=fun q=>by
  rw[vW];by_cases e:q=u.toNat
  ·rw[aD ⟨e,by rw[e];exact hl⟩,aD e]
  rw[aC fun h=>e h.1,aC e]
 have dv:=(h.is hn hd hv).1 h1;have hu2:=h.2 u.toNat (by have:=hn.1;omega);rw[bF hu.1] at hu2;have hnot:¬(0<=jI on tg u/\jI on tg u<=d):=fun hc=>by
  have:=hu2.1 hc;omega
 have hde:=aEl he (tg:=tg) om;refine ⟨by rw[dN];exact h.1,fun q hq=>?_⟩;rw[hs];by_cases e:q=u.toNat
 ·rw[aD e,e,bF hu.1];exact ⟨fun hc=>absurd hc hnot,fun _=>.inr ⟨rfl,om⟩⟩
 rw[aC e];refine ⟨(h.2 q hq).1,fun hc=>?_⟩;rcases (h.2 q hq).2 hc with ⟨e1,e2⟩ | h3
 ·refine .inl ⟨e1,fun w hw=>?_⟩;rcases hw with hw | ⟨ha,_⟩
  ·exact e2 w hw
  omega
 exact .inr h3
theorem LM.skip {on:List (List Int)} {n tg d:Int} (hn:Rows2 on n) (hd:0<=d) {done:Int->Int->Prop} {out:List Int} (h:LM on tg d done out) {u v:Int} (hu:0<=u/\u<n) (he:Edge on u v) (hc:¬(out.getD v.toNat 0=d/\out.getD u.toNat 0<0)):
  LM on tg d (fun a b=>done a b\/a=u/\b=v) out:=by
 have hv:=hn.2 u v he;have dv:=h.is hn hd hv;refine ⟨h.1,fun q hq=>⟨(h.2 q hq).1,fun hc2=>?_⟩⟩;rcases (h.2 q hq).2 hc2 with ⟨e1,e2⟩ | h3
 ·refine .inl ⟨e1,fun w hw=>?_⟩;rcases hw with hw | ⟨ha,rfl⟩
  ·exact e2 w hw
  intro hdw;refine hc ⟨dv.2 hdw,?_⟩;rw[show u.toNat=q by omega,e1];omega
 exact .inr h3
theorem LM.next {on:List (List Int)} {tg d:Int} (hd:0<=d) {done:Int->Int->Prop} {out:List Int} (h:LM on tg d done out) (hall:∀u v,0<=u->Edge on u v->done u v):LV on tg (d+1) out:=by
 refine ⟨h.1,fun u hu=>?_⟩;obtain ⟨h1,h2⟩:=h.2 u hu;by_cases hc:0<=jI on tg u/\jI on tg u<=d
 ·exact ⟨fun _=>h1 hc,fun h3=>absurd ⟨hc.1,om⟩ h3⟩
 rcases h2 hc with ⟨e1,e2⟩ | ⟨e1,e2⟩
 ·refine ⟨fun h3=>?_,fun _=>e1⟩;exfalso;obtain ⟨v,he,hv⟩:=aEm (on:=on) (tg:=tg) (u:=u) hd om;exact e2 v (hall u v om he) hv
 exact ⟨fun _=>by rw[e1,e2],fun h3=>absurd ⟨om,om⟩ h3⟩
end EB
end
section
open Go Go.Proofs Go.Eng Go.Shelf EB Tryz
namespace SB
def dnR (on:List (List Int)) (i:Nat) (u v:Int):Prop:=0<=u/\u.toNat<i/\EB.Edge on u v
def dnQ (on:List (List Int)) (i q:Nat) (u v:Int):Prop:=dnR on i u v\/(u=(i:Int)/\∃p,p<q/\v=(on.getD i []).getD p 0)
theorem aFj {on:List (List Int)} {i:Nat} {u v:Int} (h:dnQ on i 0 u v):dnR on i u v:=h.resolve_right fun ⟨_,p,hp,_⟩=>absurd hp (bV _)
theorem Sy {on:List (List Int)} {i q:Nat} {u v:Int} (h:dnQ on i (q+1) u v):dnQ on i q u v\/u=(i:Int)/\v=(on.getD i []).getD q 0:=by
 rcases h with h | ⟨h1,p,hp,h2⟩
 ·exact .inl (.inl h)
 by_cases e:p=q
 ·subst e;exact .inr ⟨h1,h2⟩
 exact .inl (.inr ⟨h1,p,om,h2⟩)
theorem aFk {on:List (List Int)} {i:Nat} {u v:Int} (h:dnR on (i+1) u v):dnQ on i (on.getD i []).length u v:=by
 obtain ⟨h1,h2,h3⟩:=h;by_cases e:u.toNat<i
 ·exact .inl ⟨h1,e,h3⟩
 have hu:u=(i:Int):=om;refine .inr ⟨hu,?_⟩;unfold EB.Edge at h3;rw[hu,aJ] at h3;obtain ⟨p,hp,rfl⟩:=dD h3;exact ⟨p,hp,by rw[aB (l:=on.getD i []),aM hp];rfl⟩
theorem aJd {on:List (List Int)} {n:Int} (hn:Rows2 on n) {u v:Int} (h:0<=u) (he:EB.Edge on u v):dnR on on.length u v:=by
 refine ⟨h,edge_out he,he⟩
def c3018:Con:=aR 18 true fun | [.val (.int .i64 n),.seq (.pair (.int .i64) (.int .i64)) l],K=>K (.tup [Ls (rkR n l),I (rkE n l)]) | _,_=>False
theorem k3018:aO Tp c3018:=by
 refine kQ { asks:=[(0,[]),(2,[]),(4,[])] } func18 ntmps18 (kc EB.k43 (kc EB.k69 kn)) fun _ _ h=>?_;split at h;case h_2=>cases h
 rename_i n l;change List (Int × Int) at l;refine kb h ?_;by_cases h:supE n l=0;case neg=>
  obtain ⟨e1,e2⟩:=aNq h;rw[e1,e2];exact ZRF
 have hro:=supE_rests h;obtain ⟨r1,r2,r3,r4⟩:=id hro;have hrw:=onL_rows hro;have hol:=onL_len n l;have hrl:∀u,((onL n l).getD u []).length<=4096:=fun u=>by
  by_cases hu:u<n.toNat
  ·have e:(onL n l).getD u []=rowOf l l.length u:=onN_get _ _ _ _ hu;rw[e];exact bL (rowOf_len _ _ _) r1
  rw[aB,cG om];exact aK _
 obtain ⟨on,hon⟩:∃on,on=onL n l:=⟨_,rfl⟩;(repeat refine ZR ?_);refine Ask.mk ⟨{ X:=Nat × List Int,pre:=fun x=>x.1<=n.toNat+1/\RK (onL n l) ((x.1:Int)*2097152) x.2/\LowR (onL n l) x.1 x.2,mod:=fun x _=>[(8,I x.1)],heap:=fun x _=>[.vec 1 (.int .i64) [] 3,.vec 1 (.int .i64) x.2 3],mu:=fun x=>n.toNat+2-x.1 },rfl,?_⟩;(repeat refine ZG ?_);refine ⟨⟨((0:Nat),List.replicate n.toNat (0:Int)),⟨aK _,?_⟩,?_⟩,fun (x:Nat × List Int) hx=>?_⟩
 ·have:=aKb (onL n l);rw[hol] at this;exact ⟨this.1.mono (by show (0:Int)<=((0:Nat):Int)*2097152;omega),this.2⟩
 ·exact ZE
 obtain ⟨x1,x2,x3⟩:=hx;have x1:x.1<=n.toNat+1:=x1;(repeat'((conv=>whnf);first|refine Zg fun _=>?_|fail));refine Ask.mk ⟨{ X:=(List Int × Bool) × Nat,pre:=fun y=>y.2<=(onL n l).length/\RP (onL n l) x.1 ((x.1:Int)*2097152+(y.2:Int)*4096) x.2 (dnR (onL n l) y.2) y.1,mod:=fun y _=>[(9,.bl (y.1.2=true) inferInstance),(26,I y.2)],heap:=fun y _=>[.vec 1 (.int .i64) [] 3,.vec 1 (.int .i64) y.1.1 3],mu:=fun y=>(onL n l).length-y.2 },rfl,?_⟩;(repeat refine ZG ?_);refine ⟨⟨((x.2,false),(0:Nat)),⟨aK _,(RP.start x2 x3).mono om fun u v hd=>absurd hd.2.1 (bV _)⟩,?_⟩,fun (y:(List Int × Bool) × Nat) hy=>?_⟩
 ·(repeat' first|exact trivial|rfl|apply aA);intro h;exact nomatch h
 obtain ⟨y1,y2⟩:=hy;have y1:y.2<=(onL n l).length:=y1;(apply Br.mk<;>intro)
 ·have hlt:y.2<(onL n l).length:=om;have hrow:=hrl y.2;(repeat' first|refine ZG ?_|refine Zg fun _=>?_);refine Ask.mk ⟨{ X:=(List Int × Bool) × Nat,pre:=fun z=>z.2<=((onL n l).getD y.2 []).length/\RP (onL n l) x.1 ((x.1:Int)*2097152+(y.2:Int)*4096+z.2) x.2 (dnQ (onL n l) y.2 z.2) z.1,mod:=fun z _=>[(9,.bl (z.1.2=true) inferInstance),(34,I z.2)],heap:=fun z _=>[.vec 1 (.int .i64) [] 3,.vec 1 (.int .i64) z.1.1 3],mu:=fun z=>((onL n l).getD y.2 []).length-z.2 },rfl,?_⟩;(repeat refine ZG ?_);refine ⟨⟨(y.1,(0:Nat)),⟨aK _,y2.mono om fun u v hd=>aFj hd⟩,?_⟩,fun (z:(List Int × Bool) × Nat) hz=>?_⟩
  ·exact ZE
  obtain ⟨z1,z2⟩:=hz;have z1:z.2<=((onL n l).getD y.2 []).length:=z1;have hzl:=z2.rk.len;(apply Br.mk<;>intro)
  ·have hzt:z.2<((onL n l).getD y.2 []).length:=om;have he:EB.Edge (onL n l) y.2 (((onL n l).getD y.2 []).getD z.2 0):=by
    unfold EB.Edge;rw[aJ,aB (l:=(onL n l).getD y.2 []),aM hzt];exact cT _
   obtain ⟨k0,k1⟩:=hrw.2 _ _ he;have htop:=z2.rk.top (((onL n l).getD y.2 []).getD z.2 0).toNat;have hlow:=(z2.rk.run (((onL n l).getD y.2 []).getD z.2 0).toNat om).1;have hyn:(0:Int)<=(y.2:Int)/\(y.2:Int)<n:=om;(repeat'((conv=>whnf);first|refine Zg fun _=>?_|refine Zn ?_|refine Zj ?_|apply pI|apply pJ|fail));refine eS (((onL n l).getD y.2 []).getD z.2 0).toNat om ?_;(repeat'((conv=>whnf);first|refine Zg fun _=>?_|apply pI|apply pJ|fail));(apply Br.mk<;>intro)
   ·rename_i hc;have hst:=(z2.turn hrw hyn he (by rw[aJ];exact hc)).mono (C:=(x.1:Int)*2097152+(y.2:Int)*4096+((z.2+1:Nat):Int)) (e:=dnQ (onL n l) y.2 (z.2+1)) om fun u v hd=>Sy hd;rw[aJ] at hst;(repeat refine ZG ?_);refine eS (((onL n l).getD y.2 []).getD z.2 0).toNat om ?_;(repeat' first|refine ZG ?_|refine Zg fun _=>?_);refine ⟨((z.1.1.set y.2 (z.1.1.getD (((onL n l).getD y.2 []).getD z.2 0).toNat 0+1),true),(z.2+1:Nat)),by show ((onL n l).getD y.2 []).length-(z.2+1)<((onL n l).getD y.2 []).length-z.2;omega,⟨hzt,hst⟩,?_⟩;exact ZE
   rename_i hc;have hst:=(z2.skip hrw hyn he (by rw[aJ];exact hc)).mono (C:=(x.1:Int)*2097152+(y.2:Int)*4096+((z.2+1:Nat):Int)) (e:=dnQ (onL n l) y.2 (z.2+1)) om fun u v hd=>Sy hd;(repeat refine ZG ?_);refine ⟨(z.1,(z.2+1:Nat)),by show ((onL n l).getD y.2 []).length-(z.2+1)<((onL n l).getD y.2 []).length-z.2;omega,⟨hzt,hst⟩,?_⟩;exact ZE
  have hze:z.2=((onL n l).getD y.2 []).length:=om;(repeat refine ZG ?_);refine ⟨(z.1,(y.2+1:Nat)),by show (onL n l).length-(y.2+1)<(onL n l).length-y.2;omega,⟨hlt,z2.mono om fun u v hd=>by rw[hze];exact aFk hd⟩,?_⟩;exact ZE
 have hye:y.2=(onL n l).length:=om;have hall:∀u v,0<=u->EB.Edge (onL n l) u v->dnR (onL n l) y.2 u v:=fun u v hu he=>by rw[hye];exact aJd hrw hu he
 (apply Br.mk<;>intro)
 ·rename_i hch;obtain ⟨w1,w2⟩:=rk_fine h (y2.stay hall (by cases hq:y.1.2 with | true=>exact absurd hq hch | false=>rfl));rw[w1,w2];exact ZF
 rename_i hch;have hch:y.1.2=true:=bC.1 hch;(apply Br.mk<;>intro)
 ·rename_i hr;obtain ⟨w1,w2⟩:=aKd h (y2.late hrw x2 x3 om hch);rw[w1,w2];exact ZF
 rename_i hr;(repeat refine ZG ?_);refine ⟨((x.1+1:Nat),y.1.1),by show n.toNat+2-(x.1+1)<n.toNat+2-x.1;omega,⟨by show x.1+1<=n.toNat+1;omega,y2.rk.mono (by show (x.1:Int)*2097152+(y.2:Int)*4096<=((x.1+1:Nat):Int)*2097152;omega),y2.more hall⟩,?_⟩;exact ZE
end SB
end
section
open Go Go.Proofs Go.Eng Go.Shelf IB Go.Lib Go.RowKit Tryz
namespace RB
def exM:List Mem:=[(2,0, -1,([51],[48],[48]),([51],[51],[51]),60,180),(6,3,0,([48],[48],[48]),([53],[53],[53]),60,180),(10,0, -1,([49],[49],[49]),([57],[49],[49]),60,180)]
theorem Lr {s:Bx} (q:Rat) (h:numS q=s) (h1:q.num.natAbs<10^40) (h2:q.den<10^40) (h3:dK 12 q):valQ s=q/\chkQ s=0/\dK 12 q:=by
 subst h;exact ⟨gM q,aIz h1 h2,h3⟩
theorem exd0:valQ [48]=0/\chkQ [48]=0/\dK 12 0:=Lr 0 (by decide+kernel) (by decide+kernel) (by decide+kernel) (by decide+kernel)
theorem exd1:valQ [49]=1/\chkQ [49]=0/\dK 12 1:=Lr 1 (by decide+kernel) (by decide+kernel) (by decide+kernel) (by decide+kernel)
theorem exd3:valQ [51]=3/\chkQ [51]=0/\dK 12 3:=Lr 3 (by decide+kernel) (by decide+kernel) (by decide+kernel) (by decide+kernel)
theorem exd5:valQ [53]=5/\chkQ [53]=0/\dK 12 5:=Lr 5 (by decide+kernel) (by decide+kernel) (by decide+kernel) (by decide+kernel)
theorem exd9:valQ [57]=9/\chkQ [57]=0/\dK 12 9:=Lr 9 (by decide+kernel) (by decide+kernel) (by decide+kernel) (by decide+kernel)
theorem Se {k m:Nat} {q:Rat} (h:dK k q) (hk:k<=m):dK m q:=⟨bL h.1 hk,bL h.2 hk⟩
theorem gG {a b c:Bx} {p q r:Rat} (h1:valQ a=p/\chkQ a=0/\dK 12 p) (h2:valQ b=q/\chkQ b=0/\dK 12 q) (h3:valQ c=r/\chkQ c=0/\dK 12 r):vS (a,b,c)=(p,q,r)/\okS (a,b,c)/\dS 12 (a,b,c):=by
 obtain ⟨rfl,a2,a3⟩:=h1;obtain ⟨rfl,b2,b3⟩:=h2;obtain ⟨rfl,c2,c3⟩:=h3;exact ⟨rfl,⟨qR.2 ⟨a2,b2,c2⟩,Se a3 de,Se b3 de,Se c3 de⟩,a3,b3,c3⟩
theorem Lu {m:Mem} (hk:1<=m.1/\m.1<=12) (hf:0<=m.2.1/\ -1<=m.2.2.1) (hw:(1<=m.2.2.2.2.2.1/\m.2.2.2.2.2.1<=1000)/\1<=m.2.2.2.2.2.2/\m.2.2.2.2.2.2<=1000) (h1:okS m.2.2.2.1) (h2:okS m.2.2.2.2.1) (hne:m.2.2.2.1≠m.2.2.2.2.1):memE m=0:=by
 unfold memE;rw[aC om,aC om,aC om,aC (bI h1.1),aC (bI h2.1),aC (fun q=>q.elim (fun q=>q h1.2) fun q=>q h2.2),aC hne]
abbrev exA:Mem:=(2,0, -1,([51],[48],[48]),([51],[51],[51]),60,180)
abbrev exB:Mem:=(6,3,0,([48],[48],[48]),([53],[53],[53]),60,180)
abbrev exC:Mem:=(10,0, -1,([49],[49],[49]),([57],[49],[49]),60,180)
theorem aHx:memE exA=0:=Lu de de de (gG exd3 exd0 exd0).2.1 (gG exd3 exd3 exd3).2.1 de
theorem aHy:memE exB=0:=Lu de de de (gG exd0 exd0 exd0).2.1 (gG exd5 exd5 exd5).2.1 de
theorem aAh:memE exC=0:=Lu de de de (gG exd1 exd1 exd1).2.1 (gG exd9 exd1 exd1).2.1 de
theorem aHz {m n:Mem} (h1:memE m=0) (h2:memE n=0) (d1:dS 12 m.2.2.2.1) (d2:dS 12 m.2.2.2.2.1) (d3:dS 12 n.2.2.2.1) (d4:dS 12 n.2.2.2.2.1):crE m n=0:=by
 unfold crE;rw[aC (fun q=>q.elim (fun q=>q h1) fun q=>q h2),aC];rintro (((q | q) | q) | q)
 ·exact q d1
 ·exact q d2
 ·exact q d3
 exact q d4
theorem aH0:crE exA exC=0:=aHz aHx aAh (gG exd3 exd0 exd0).2.2 (gG exd3 exd3 exd3).2.2 (gG exd1 exd1 exd1).2.2 (gG exd9 exd1 exd1).2.2
theorem aH1:crE exB exC=0:=aHz aHy aAh (gG exd0 exd0 exd0).2.2 (gG exd5 exd5 exd5).2.2 (gG exd1 exd1 exd1).2.2 (gG exd9 exd1 exd1).2.2
instance (F u G v w:V3):Decidable (crG F u G v w):=by unfold crG;exact inferInstance
instance (d v:V3):Decidable (parR d v):=by unfold parR;exact inferInstance
theorem aNv:crP exA exC:=by
 unfold crP;show crG (vS ([51],[48],[48])) (sub3 (vS ([51],[51],[51])) (vS ([51],[48],[48]))) (vS ([49],[49],[49])) (sub3 (vS ([57],[49],[49])) (vS ([49],[49],[49]))) (sub3 (vS ([49],[49],[49])) (vS ([51],[48],[48])));rw[(gG exd3 exd0 exd0).1,(gG exd3 exd3 exd3).1,(gG exd1 exd1 exd1).1,(gG exd9 exd1 exd1).1];unfold crG crAt Ct;decide+kernel
theorem aNw:crP exB exC:=by
 unfold crP;show crG (vS ([48],[48],[48])) (sub3 (vS ([53],[53],[53])) (vS ([48],[48],[48]))) (vS ([49],[49],[49])) (sub3 (vS ([57],[49],[49])) (vS ([49],[49],[49]))) (sub3 (vS ([49],[49],[49])) (vS ([48],[48],[48])));rw[(gG exd0 exd0 exd0).1,(gG exd5 exd5 exd5).1,(gG exd1 exd1 exd1).1,(gG exd9 exd1 exd1).1];unfold crG crAt Ct;decide+kernel
theorem aNx:tchP exA exB:=by
 right
 unfold metP mtO parR;show _/\ _;have e1:vS exB.2.2.2.1=(0,0,0):=(gG exd0 exd0 exd0).1;have e2:vS exB.2.2.2.2.1=(5,5,5):=(gG exd5 exd5 exd5).1;have e3:vS exA.2.2.2.2.1=(3,3,3):=(gG exd3 exd3 exd3).1;rw[e1,e2,e3];decide+kernel
theorem ex01:rstP exA exB:=aNx
theorem ex02:rstP exA exC:=⟨rfl,aH0,aNv⟩
theorem ex12:rstP exB exC:=⟨aH1,aNw⟩
theorem aKj:rowR exM 0 3= [(0,1),(0,2)]:=by
 have h:rowR exM 0 1= []:=aC fun h=>h.1 rfl;have h2:rowR exM 0 2=rowR exM 0 1++ [(0,1)]:=aD ⟨de,ex01⟩;have h3:rowR exM 0 3=rowR exM 0 2++ [(0,2)]:=aD ⟨de,ex02⟩;rw[h3,h2,h];rfl
theorem aKk:rowR exM 1 3= [(1,2)]:=by
 have h:rowR exM 1 1= []:=aC fun h=>(id h.2:False);have h2:rowR exM 1 2=rowR exM 1 1:=aC fun h=>h.1 rfl;have h3:rowR exM 1 3=rowR exM 1 2++ [(1,2)]:=aD ⟨de,ex12⟩;rw[h3,h2,h];rfl
theorem aKl:rowR exM 2 3= []:=by
 have h:rowR exM 2 1= []:=aC fun h=>(id h.2:False);have h2:rowR exM 2 2=rowR exM 2 1:=aC fun h=>(id h.2:False);have h3:rowR exM 2 3=rowR exM 2 2:=aC fun h=>h.1 rfl;rw[h3,h2,h]
theorem aH2:gK exM 0 3:=⟨2,de,de,ex02,rfl⟩
theorem aH3:gK exM 1 3:=⟨2,de,de,ex12,rfl⟩
def exL:List (Int × Int):=[(0,1),(0,2),(1,2),(2, -1)]
theorem aNy:outR [] exM 3=exL:=by
 have w0:¬walP [] exA (gK exM 0 3):=fun h=>(id h:¬gK exM 0 3/\ _).1 aH2;have w1:¬walP [] exB (gK exM 1 3):=fun h=>(id h:¬gK exM 1 3/\ _).1 aH3;have w2:walP [] exC (gK exM 2 3):=trivial;have h1:outR [] exM 1=(if walP [] exA (gK exM 0 3) then ([]:List (Int × Int))++ [((0:Int),(-1:Int))] else [])++rowR exM 0 3:=rfl;have h2:outR [] exM 2=(if walP [] exB (gK exM 1 3) then outR [] exM 1++ [((1:Int),(-1:Int))] else outR [] exM 1)++rowR exM 1 3:=rfl;have h3:outR [] exM 3=(if walP [] exC (gK exM 2 3) then outR [] exM 2++ [((2:Int),(-1:Int))] else outR [] exM 2)++rowR exM 2 3:=rfl;rw[h3,aD w2,h2,aC w1,h1,aC w0,aKj,aKk,aKl];rfl
theorem aNz:errS exM 3 0=0:=by
 refine (Az 3 0).2 fun i _ hi=>(Ay 3 0).2 fun j _ hj hne=>?_;have e02:rstE exA exC=0:=by show (if (0:Int)=0 then crE exA exC else 0)=0;rw[aD rfl];exact aH0
 match i,j,hi,hj,hne with
 | 0,0,_,_,h=>exact absurd rfl h
 | 0,1,_,_,_=>rfl
 | 0,2,_,_,_=>exact e02
 | 1,0,_,_,_=>rfl
 | 1,1,_,_,h=>exact absurd rfl h
 | 1,2,_,_,_=>exact aH1
 | 2,0,_,_,_=>rfl
 | 2,1,_,_,_=>rfl
 | 2,2,_,_,h=>exact absurd rfl h
 | i+3,_,h,_,_=>omega
 | 0,j+3,_,h,_=>exact absurd h (by show ¬j+3<0+3;omega)
 | 1,j+3,_,h,_=>exact absurd h (by show ¬j+3<0+3;omega)
 | 2,j+3,_,h,_=>exact absurd h (by show ¬j+3<0+3;omega)
theorem Oy:ofR [] exM=(exL,0):=by
 have hb:¬badL []:=fun ⟨j,h,_⟩=>absurd h (bV _);have hm:¬badM exM:=by
  rintro ⟨j,h,hj⟩
  match j,h with
  | 0,_=>exact hj aHx
  | 1,_=>exact hj aHy
  | 2,_=>exact hj aAh
  | j+3,h=>exact absurd h (by show ¬j+3<3;omega)
 have he:errS exM exM.length 0=0:=aNz;have ho:outR [] exM exM.length=exL:=aNy;unfold ofR;rw[aC de,aC hb,aC hm,aC (bI he),ho,aC de]
theorem aN0:EB.supE 3 exL=0:=by have:=aAf (ls:=[]) (l:=exM) (by rw[Oy]);rw[Oy] at this;exact this
theorem aC4:EB.rkE 3 exL=0/\EB.rkR 3 exL= [2,1,0]:=by
 refine EB.rk_fine aN0 ?_;have e:EB.onL 3 exL= [[1,2],[2],[]]:=by decide+kernel
 rw[e];have e01:EB.Edge [[1,2],[2],[]] 0 1:=by show (1:Int)∈ [(1:Int),2];decide
 have e12:EB.Edge [[1,2],[2],[]] 1 2:=by show (2:Int)∈ [(2:Int)];decide
 refine ⟨rfl,fun i hi=>?_,fun u v hu he=>?_⟩
 ·match i,hi with
  | 0,_=>exact ⟨de,.cons e01 (.cons e12 (.zero _ _))⟩
  | 1,_=>exact ⟨de,.cons e12 (.zero _ _)⟩
  | 2,_=>exact ⟨de,.zero _ _⟩
  | i+3,h=>exact absurd h (by show ¬i+3<3;omega)
 obtain ⟨u,rfl⟩:=bT hu
 match u with
 | 0=>
  have:v∈ [(1:Int),2]:=he;simp only[bH,iJ,or_false] at this;rcases this with rfl | rfl<;>decide
 | 1=>
  have:v∈ [(2:Int)]:=he;simp only[bH,iJ,or_false] at this;subst this;decide
 | 2=>exact absurd (show v∈([]:List Int) from he) (iJ)
 | u+3=>exact absurd (show v∈([]:List Int) from he) (iJ)
theorem Ab (x:SV):ent x .any:=by
 cases x with
 | val v=>cases v<;>trivial
 | _=>trivial
theorem aJe:ent.entL qVs qVs:=by
 (repeat' ((conv=>whnf);first | exact trivial | (refine aA ?_ ?_)));all_goals rfl
theorem Ja (t:Ty) (xs:List t.T):ent (.seq t xs) (.seq t xs):=by
 show Bj t t xs xs;unfold Bj;rw[dif_pos rfl];rfl
theorem t14 (ls:List Lin) (l:List Mem):Tri Tp true 14 [.agg [.any,.any,.any,.seq tLin ls],.seq tMem l] (.tup [.seq tRr (ofR ls l).1,I (ofR ls l).2]):=by
 by_cases h:(512<l.length\/4096<ls.length)\/badL ls\/badM l
 ·exact triB func14 ntmps14 (by simp[aFb,aL5,aLu,aL7,aL6,aLs,aE5,aE4,aLr,aL4]) (b14e ls l h)
 exact triB func14 ntmps14 (by simp[aFb,aL5,aLu,aL7,aL6,aLs,aE5,aE4,aLr,aL4]) (b14m ls l (fun q=>h (.inl q)) (fun q=>h (.inr (.inl q))) (fun q=>h (.inr (.inr q))) aLt aJe)
def Ta:Con:=aR 14 true fun args K=>match args with
 | [.agg [x,y,z,.val (.slice none 0 0)],.seq (.pair (.int .i64) (.pair (.int .i64) (.pair (.int .i64) (.pair (.pair .str (.pair .str .str)) (.pair (.pair .str (.pair .str .str)) (.pair (.int .i64) (.int .i64))))))) l]=>K (.tup [.seq tRr (ofR [] l).1,I (ofR [] l).2])
 | [.agg [x,y,z,.seq (.pair (.int .i64) (.pair (.pair .str (.pair .str .str)) (.pair (.pair .str (.pair .str .str)) (.pair (.int .i64) (.int .i64))))) ls],.seq (.pair (.int .i64) (.pair (.int .i64) (.pair (.int .i64) (.pair (.pair .str (.pair .str .str)) (.pair (.pair .str (.pair .str .str)) (.pair (.int .i64) (.int .i64))))))) l]=>K (.tup [.seq tRr (ofR ls l).1,I (ofR ls l).2])
 | _=>False
theorem aA7:aO Tp Ta:=by
 refine kO func14 fun args K h=>?_;simp only[Ta] at h;split at h
 ·rename_i x y z l;refine ⟨_,h,?_⟩;show Tri Tp true 14 _ _;intro ok w vs hgw hok hr;exact t14 [] l ok w vs hgw hok (iY (l:=[.agg [x,y,z,.val (.slice none 0 0)],.seq tMem l]) (l':=[.agg [.any,.any,.any,.seq tLin []],.seq tMem l]) ⟨⟨Ab x,Ab y,Ab z,(rfl:([]:List tLin.T)= []),trivial⟩,Ja tMem l,trivial⟩ hr)
 ·rename_i x y z ls l;refine ⟨_,h,?_⟩;show Tri Tp true 14 _ _;intro ok w vs hgw hok hr;exact t14 ls l ok w vs hgw hok (iY (l:=[.agg [x,y,z,.seq tLin ls],.seq tMem l]) (l':=[.agg [.any,.any,.any,.seq tLin ls],.seq tMem l]) ⟨⟨Ab x,Ab y,Ab z,Ja tLin ls,trivial⟩,Ja tMem l,trivial⟩ hr)
 cases h
def c3069:Con:=aR 69 true fun | [.str a,.str b,.str c],K=>K (.agg [S a,S b,S c]) | _,_=>False
theorem k3069:aO Tp c3069:=by
 refine kQ {} func69 ntmps69 kn fun _ _ h=>?_;split at h;case h_2=>cases h
 refine kb h ?_;exact ZF
def c3040:Con:=aR 40 true fun | [],K=>K (.seq tMem exM) | _,_=>False
theorem k3040:aO Tp c3040:=by
 refine kQ {} func40 ntmps40 (kc k3069 kn) fun _ _ h=>?_;split at h;case h_2=>cases h
 refine kb h ?_;(conv=>whnf);refine Own.r ?_;(conv=>whnf);exact ZE
def aL8:Con:=aR 16 true fun | [.seq (.pair (.int .i64) (.int .i64)) a,.seq (.pair (.int .i64) (.int .i64)) b],K=>K (.bl (a=b) Cp) | _,_=>False
theorem aL9:aO Tp aL8:=by
 refine kQ { asks:=[(0,[])] } func16 ntmps16 kn fun _ _ h=>?_;split at h;case h_2=>cases h
 rename_i a b;change List (Int × Int) at a;change List (Int × Int) at b;refine kb h ?_;by_cases hl:a.length=b.length;case neg=>
  have hn:¬a=b:=fun e=>hl (by rw[e]);generalize (a=b)=M at hn ⊢;(repeat' first|refine ZR ?_|refine Zg fun _=>?_);(conv=>whnf);all_goals exact hn
 generalize hM:(a=b)=M;(repeat' first|refine ZR ?_|refine Zg fun _=>?_);refine Ask.mk ⟨{ X:=Nat,pre:=fun i=>i<=a.length/\∀j,j<i->a.getD j (0,0)=b.getD j (0,0),mod:=fun i _=>[(5,I i)],heap:=fun i H=>H,mu:=fun i=>a.length-i },rfl,?_⟩;(repeat refine ZG ?_);refine ⟨⟨(0:Nat),⟨aK _,fun j hj=>absurd hj (bV _)⟩,ZE⟩,fun (i:Nat) hi=>?_⟩;obtain ⟨hi,hp⟩:=hi;by_cases hlt:i<a.length
 ·by_cases he:a.getD i (0,0)=b.getD i (0,0)
  ·have hq:(a.getD i (0,0)).1=(b.getD i (0,0)).1/\(a.getD i (0,0)).2=(b.getD i (0,0)).2:=by rw[he];exact ⟨rfl,rfl⟩
   (repeat'((conv=>whnf);first|refine Zg fun _=>?_|refine Zn ?_|refine Zj ?_|apply pI|apply pJ|refine Zy ?_|refine Zm ?_|fail));refine ⟨(i+1:Nat),by show a.length-(i+1)<a.length-i;omega,⟨hlt,fun j hj=>?_⟩,ZE⟩;by_cases e:j=i
   ·subst e;exact he
   exact hp j om
  have hq:¬((a.getD i (0,0)).1=(b.getD i (0,0)).1/\(a.getD i (0,0)).2=(b.getD i (0,0)).2):=fun q=>he (eC q.1 q.2);have hn:¬M:=by rw[<- hM];exact fun q=>he (by rw[q])
  (repeat'((conv=>whnf);first|refine Zg fun _=>?_|refine Zn ?_|refine Zj ?_|apply pI|apply pJ|refine Zy ?_|fail));(conv=>whnf);all_goals exact hn
 have e:a=b:=by
  refine jQ hl fun j h1 h2=>?_;have:=hp j om;rwa [aB,aB,aM h1,aM h2] at this
 rw[hM] at e;(repeat' first|refine ZR ?_|refine Zg fun _=>?_);(conv=>whnf);all_goals exact e
def c3036:Con:=aR 36 true fun | [.seq (.int .i64) a,.seq (.int .i64) b],K=>K (.bl (a=b) Cp) | _,_=>False
theorem k3036:aO Tp c3036:=by
 refine kQ { asks:=[(0,[])] } func36 ntmps36 kn fun _ _ h=>?_;split at h;case h_2=>cases h
 rename_i a b;refine kb h ?_;by_cases hl:a.length=b.length;case neg=>
  have hn:¬a=b:=fun e=>hl (by rw[e]);generalize (a=b)=M at hn ⊢;(repeat' first|refine ZR ?_|refine Zg fun _=>?_);(conv=>whnf);all_goals exact hn
 generalize hM:(a=b)=M;(repeat' first|refine ZR ?_|refine Zg fun _=>?_);refine Ask.mk ⟨{ X:=Nat,pre:=fun i=>i<=a.length/\∀j,j<i->a.getD j 0=b.getD j 0,mod:=fun i _=>[(13,I i)],heap:=fun i H=>H,mu:=fun i=>a.length-i },rfl,?_⟩;(repeat refine ZG ?_);refine ⟨⟨(0:Nat),⟨aK _,fun j hj=>absurd hj (bV _)⟩,ZE⟩,fun (i:Nat) hi=>?_⟩;obtain ⟨hi,hp⟩:=hi;by_cases hlt:i<a.length
 ·by_cases he:a.getD i 0=b.getD i 0
  ·(repeat'((conv=>whnf);first|refine Zg fun _=>?_|refine Zn ?_|refine Zj ?_|apply pI|apply pJ|refine Zy ?_|refine Zm ?_|fail));refine ⟨(i+1:Nat),by show a.length-(i+1)<a.length-i;omega,⟨hlt,fun j hj=>?_⟩,ZE⟩;by_cases e:j=i
   ·subst e;exact he
   exact hp j om
  have hn:¬M:=by rw[<- hM];exact fun q=>he (by rw[q])
  (repeat'((conv=>whnf);first|refine Zg fun _=>?_|refine Zn ?_|refine Zj ?_|apply pI|apply pJ|refine Zy ?_|fail));(conv=>whnf);all_goals exact hn
 have e:a=b:=by
  refine jQ hl fun j h1 h2=>?_;have:=hp j om;rwa [aB,aB,aM h1,aM h2] at this
 rw[hM] at e;(repeat refine ZR ?_);(conv=>whnf);all_goals exact e
def aA8:Con:=aR 13 true fun | [],K=>K (.val (.bool true)) | _,_=>False
theorem aFl:aO Tp aA8:=by
 refine kQ {} func13 ntmps13 (kc k3040 (kc aA7 (kc SB.k3018 (kc aL9 (kc k3036 kn))))) fun _ _ h=>?_;split at h;case h_2=>cases h
 refine kb h ?_;have f1:(ofR [] exM).2=0:=by rw[Oy]
 have f2:EB.rkE 3 (ofR [] exM).1=0:=by rw[Oy];exact aC4.1
 have f3:(ofR [] exM).1= [(0,1),(0,2),(1,2),(2, -1)]:=by rw[Oy];rfl
 have f4:EB.rkR 3 (ofR [] exM).1= [2,1,0]:=by rw[Oy];exact aC4.2
 (repeat refine ZR ?_);(conv=>whnf);all_goals exact ⟨fun _=>rfl,fun _=>f4⟩
def isR (a b:Int) (r:Int × Int):Prop:=(a,b)=r
def c3056:Con:=aR 56 true fun | [.seq (.pair (.int .i64) (.int .i64)) l,.agg [.val (.int .i64 a),.val (.int .i64 b)]],K=>K (I (ixG (isR a b) l)) | _,_=>False
theorem k3056:aO Tp c3056:=by
 refine kQ { asks:=[(0,[])] } func56 ntmps56 kn fun _ _ h=>?_;split at h;case h_2=>cases h
 rename_i l a b;change List (Int × Int) at l;refine kb h ?_;(repeat'((conv=>whnf);first|refine Zg fun _=>?_|fail));refine Ask.mk ⟨{ X:=Nat,pre:=fun j=>j<=l.length/\∀q,q<j->¬isR a b (l.getD q (0,0)),mod:=fun j _=>[(8,I j)],heap:=fun _ H=>H,mu:=fun j=>l.length-j },rfl,?_⟩;(repeat refine ZG ?_);refine ⟨⟨(0:Nat),⟨aK _,fun q hq=>absurd hq (bV _)⟩,ZE⟩,fun (j:Nat) hj=>?_⟩;obtain ⟨hj,hp⟩:=hj;by_cases hlt:j<l.length
 ·by_cases hb:isR a b (l.getD j (0,0))
  ·have hq:a=(l.getD j (0,0)).1/\b=(l.getD j (0,0)).2:=by unfold isR at hb;rw[<- hb];exact ⟨rfl,rfl⟩
   have e:=Bz (isR a b) ((0,0):Int × Int) hlt hb hp;rw[e];(repeat'((conv=>whnf);first|refine Zg fun _=>?_|refine Zn ?_|refine Zj ?_|apply pI|apply pJ|refine Zy ?_|fail));exact ZF
  have hq:¬(a=(l.getD j (0,0)).1/\b=(l.getD j (0,0)).2):=fun q=>hb (eC q.1 q.2);(repeat'((conv=>whnf);first|refine Zg fun _=>?_|refine Zn ?_|refine Zj ?_|apply pI|apply pJ|refine Zy ?_|refine Zm ?_|fail));refine ⟨(j+1:Nat),by show l.length-(j+1)<l.length-j;omega,⟨hlt,fun q hq=>?_⟩,ZE⟩;by_cases e:q=j
  ·subst e;exact hb
  exact hp q om
 have e:j=l.length:=om;subst e;rw[Ca (isR a b) ((0,0):Int × Int) hp];exact ZRF
theorem aM6 (l:List (Int × Int)) (a b:Int):0<=ixG (isR a b) l↔(a,b)∈l:=by
 rw[vA (isR a b) l ((0,0):Int × Int)];constructor
 ·rintro ⟨j,hj,h⟩;unfold isR at h;rw[h,aB,aM hj];exact cT hj
 intro hr;obtain ⟨j,hj,e⟩:=dD hr;refine ⟨j,hj,?_⟩;unfold isR;rw[aB,aM hj];exact e.symm
def aMa:Con:=aR 20 true fun | [.seq (.pair (.int .i64) (.int .i64)) l,.agg [.val (.int .i64 a),.val (.int .i64 b)]],K=>K (.bl ((a,b)∈l) Cp) | _,_=>False
theorem k3020:aO Tp aMa:=by
 refine kQ {} func20 ntmps20 (kc k3056 kn) fun _ _ h=>?_;split at h;case h_2=>cases h
 rename_i l a b;change List (Int × Int) at l;refine kb h ?_;have e:=aM6 l a b;generalize ((a,b)∈l)=M at e ⊢;(conv=>whnf);all_goals exact e
def grS (s:Sp):Prop:=30<s.1.length\/30<s.2.1.length\/30<s.2.2.length
def c3039:Con:=aR 39 true fun | [.agg [.str a,.str b,.str c]],K=>K (.bl (grS (a,b,c)) Cp) | _,_=>False
theorem aMm:aO Tp c3039:=by
 refine kQ {} func39 ntmps39 kn fun _ _ h=>?_;split at h;case h_2=>cases h
 rename_i a b c;refine kb h ?_;have e:grS (a,b,c)↔30<a.length\/30<b.length\/30<c.length:=gQ;generalize grS (a,b,c)=M at e ⊢;by_cases h1:30<a.length
 ·(repeat' first|refine ZR ?_|refine Zg fun _=>?_);(conv=>whnf);all_goals exact e.2 (.inl h1)
 by_cases h2:30<b.length
 ·(repeat' first|refine ZR ?_|refine Zg fun _=>?_);(conv=>whnf);all_goals exact e.2 (.inr (.inl h2))
 (repeat' first|refine ZR ?_|refine Zg fun _=>?_);(conv=>whnf);all_goals exact ⟨fun q=>e.2 (.inr (.inr om)),fun q=>by rcases e.1 q with q | q | q<;>omega⟩
def grL (ls:List Lin):Prop:=60<ls.length\/∃j,j<ls.length/\(grS (ls.getD j lin0).2.1\/grS (ls.getD j lin0).2.2.1)
def grM (l:List Mem):Prop:=12<l.length\/∃j,j<l.length/\(grS (l.getD j mem0).2.2.2.1\/grS (l.getD j mem0).2.2.2.2.1)
def c3038:Con:=aR 38 true fun | [.seq (.pair (.int .i64) (.pair (.pair .str (.pair .str .str)) (.pair (.pair .str (.pair .str .str)) (.pair (.int .i64) (.int .i64))))) ls],K=>K (.bl (grL ls) Cp) | _,_=>False
theorem k3038:aO Tp c3038:=by
 refine kQ { asks:=[(0,[])] } func38 ntmps38 (kc aMm kn) fun _ _ h=>?_;split at h;case h_2=>cases h
 rename_i ls;change List Lin at ls;refine kb h ?_;have hM:grL ls↔60<ls.length\/∃j,j<ls.length/\(grS (ls.getD j lin0).2.1\/grS (ls.getD j lin0).2.2.1):=gQ;generalize grL ls=M at hM ⊢;refine Ask.mk ⟨{ X:=Nat,pre:=fun i=>i<=ls.length/\∀j,j<i->¬(grS (ls.getD j lin0).2.1\/grS (ls.getD j lin0).2.2.1),mod:=fun i _=>[(3,I i)],heap:=fun i H=>H,mu:=fun i=>ls.length-i },rfl,?_⟩;(repeat refine ZG ?_);refine ⟨⟨(0:Nat),⟨aK _,fun j hj=>absurd hj (bV _)⟩,ZE⟩,fun (i:Nat) hi=>?_⟩;obtain ⟨hi,hp⟩:=hi;by_cases h60:60<ls.length
 ·have hm:M:=hM.2 (.inl h60);by_cases hlt:i<ls.length
  ·(repeat' first|refine ZR ?_|refine Zg fun _=>?_);(conv=>whnf);all_goals first | exact hm | exact ⟨fun _=>hm,fun _=>om⟩
  (repeat' first|refine ZR ?_|refine Zg fun _=>?_);(conv=>whnf);all_goals first | exact hm | exact ⟨fun _=>hm,fun _=>om⟩
 by_cases hlt:i<ls.length
 ·by_cases k1:grS ((ls.getD i lin0).2.1.1,(ls.getD i lin0).2.1.2.1,(ls.getD i lin0).2.1.2.2)
  ·have hm:M:=hM.2 (.inr ⟨i,hlt,.inl k1⟩);(repeat' first|refine ZR ?_|refine Zg fun _=>?_);(conv=>whnf);all_goals exact hm
  by_cases k2:grS ((ls.getD i lin0).2.2.1.1,(ls.getD i lin0).2.2.1.2.1,(ls.getD i lin0).2.2.1.2.2)
  ·have hm:M:=hM.2 (.inr ⟨i,hlt,.inr k2⟩);(repeat' first|refine ZR ?_|refine Zg fun _=>?_);(conv=>whnf);all_goals exact hm
  (repeat' first|refine ZR ?_|refine Zg fun _=>?_);refine ⟨(i+1:Nat),by show ls.length-(i+1)<ls.length-i;omega,⟨hlt,fun j hj=>?_⟩,ZE⟩;by_cases e:j=i
  ·subst e;exact fun q=>q.elim k1 k2
  exact hp j om
 have hm:¬M:=fun q=>(hM.1 q).elim h60 fun ⟨j,hj,q⟩=>hp j om q;(repeat' first|refine ZR ?_|refine Zg fun _=>?_);(conv=>whnf);all_goals first | exact hm | exact ⟨fun _=>om,fun q=>absurd q hm⟩
def aBf:Con:=aR 12 true fun | [.seq (.pair (.int .i64) (.pair (.int .i64) (.pair (.int .i64) (.pair (.pair .str (.pair .str .str)) (.pair (.pair .str (.pair .str .str)) (.pair (.int .i64) (.int .i64))))))) l],K=>K (.bl (grM l) Cp) | _,_=>False
theorem aFy:aO Tp aBf:=by
 refine kQ { asks:=[(0,[])] } func12 ntmps12 (kc aMm kn) fun _ _ h=>?_;split at h;case h_2=>cases h
 rename_i l;change List Mem at l;refine kb h ?_;have hM:grM l↔12<l.length\/∃j,j<l.length/\(grS (l.getD j mem0).2.2.2.1\/grS (l.getD j mem0).2.2.2.2.1):=gQ;generalize grM l=M at hM ⊢;refine Ask.mk ⟨{ X:=Nat,pre:=fun i=>i<=l.length/\∀j,j<i->¬(grS (l.getD j mem0).2.2.2.1\/grS (l.getD j mem0).2.2.2.2.1),mod:=fun i _=>[(3,I i)],heap:=fun i H=>H,mu:=fun i=>l.length-i },rfl,?_⟩;(repeat refine ZG ?_);refine ⟨⟨(0:Nat),⟨aK _,fun j hj=>absurd hj (bV _)⟩,ZE⟩,fun (i:Nat) hi=>?_⟩;obtain ⟨hi,hp⟩:=hi;by_cases h12:12<l.length
 ·have hm:M:=hM.2 (.inl h12);by_cases hlt:i<l.length
  ·(repeat' first|refine ZR ?_|refine Zg fun _=>?_);(conv=>whnf);all_goals first | exact hm | exact ⟨fun _=>hm,fun _=>om⟩
  (repeat' first|refine ZR ?_|refine Zg fun _=>?_);(conv=>whnf);all_goals first | exact hm | exact ⟨fun _=>hm,fun _=>om⟩
 by_cases hlt:i<l.length
 ·by_cases k1:grS ((l.getD i mem0).2.2.2.1.1,(l.getD i mem0).2.2.2.1.2.1,(l.getD i mem0).2.2.2.1.2.2)
  ·have hm:M:=hM.2 (.inr ⟨i,hlt,.inl k1⟩);(repeat' first|refine ZR ?_|refine Zg fun _=>?_);(conv=>whnf);all_goals exact hm
  by_cases k2:grS ((l.getD i mem0).2.2.2.2.1.1,(l.getD i mem0).2.2.2.2.1.2.1,(l.getD i mem0).2.2.2.2.1.2.2)
  ·have hm:M:=hM.2 (.inr ⟨i,hlt,.inr k2⟩);(repeat' first|refine ZR ?_|refine Zg fun _=>?_);(conv=>whnf);all_goals exact hm
  (repeat' first|refine ZR ?_|refine Zg fun _=>?_);refine ⟨(i+1:Nat),by show l.length-(i+1)<l.length-i;omega,⟨hlt,fun j hj=>?_⟩,ZE⟩;by_cases e:j=i
  ·subst e;exact fun q=>q.elim k1 k2
  exact hp j om
 have hm:¬M:=fun q=>(hM.1 q).elim h12 fun ⟨j,hj,q⟩=>hp j om q;(repeat' first|refine ZR ?_|refine Zg fun _=>?_);(conv=>whnf);all_goals first | exact hm | exact ⟨fun _=>om,fun q=>absurd q hm⟩
def aBg:Con:=aR 11 true fun | [.agg [.any,.any,.any,.seq (.pair (.int .i64) (.pair (.pair .str (.pair .str .str)) (.pair (.pair .str (.pair .str .str)) (.pair (.int .i64) (.int .i64))))) ls]],K=>K (.bl (grL ls) Cp) | _,_=>False
theorem aFz:aO Tp aBg:=by
 refine kQ {} func11 ntmps11 (kc k3038 kn) fun _ _ h=>?_;split at h;case h_2=>cases h
 refine kb h ?_;(conv=>whnf)
theorem b3003 (ls:List Lin) (l:List Mem):body Tp [aBg,aBf,aA8,Ta,Tl,aL8] {} true f3 [.agg [.any,.any,.any,.seq tLin ls],.seq tMem l] (.val (.bool true)):=by
 by_cases hg:grL ls
 ·(repeat refine ZR ?_);(conv=>whnf)
 by_cases hm:grM l
 ·(repeat refine ZR ?_);(conv=>whnf)
 have e1:(ofR ls l).1=(ofR ls l).1:=rfl;have e2:(ofR ls l).2=(ofR ls l).2:=rfl;(repeat refine ZR ?_);(conv=>whnf)
theorem t3003 (ls:List Lin) (l:List Mem) (_:Okd (.slice tMem) l):Tri Tp true 3 [.agg [.any,.any,.any,.seq tLin ls],.seq tMem l] (.val (.bool true)):=
 triB func3 ntmps3 (by simp[aFz,aFy,aFl,aA7,aFx,aL9]) (b3003 ls l)
def aF0:Con:=aR 27 true fun | [.val (.int .i64 n),.seq (.pair (.int .i64) (.int .i64)) l],K=>Need (EB.supE n l=0/\¬EB.Loops (EB.onL n l) n) (K (.tup [.seq (.int .i64) [],.val (.bool false),I 0])) | _,_=>False
theorem aNe:aO Tp aF0:=by
 refine kQ { asks:=[(0,[])] } func27 ntmps27 (kc EB.k43 (kc EB.k69 (kc EB.k70 kn))) fun _ _ h=>?_;split at h;case h_2=>cases h
 rename_i n l;change List (Int × Int) at l;have h0:=h.ok;refine kb h.go ?_;obtain ⟨h,hlo⟩:=h0;have hno:∀i:Nat,i<n.toNat->¬EB.Way (EB.onL n l) i i:=fun i hi hw=>hlo ⟨i,⟨om,om⟩,hw⟩;have hro:=EB.supE_rests h;obtain ⟨r1,r2,r3,r4⟩:=id hro;have hrw:=EB.onL_rows hro;have hol:=EB.onL_len n l;have hrl:∀u,((EB.onL n l).getD u []).length<=4096:=fun u=>by
  by_cases hu:u<n.toNat
  ·have e:(EB.onL n l).getD u []=EB.rowOf l l.length u:=EB.onN_get _ _ _ _ hu;rw[e];exact bL (EB.rowOf_len _ _ _) r1
  rw[aB,cG om];exact aK _
 (repeat' first|refine ZR ?_|refine Zg fun _=>?_);refine Ask.mk ⟨{ X:=Nat,pre:=fun i=>i<=n.toNat,mod:=fun i _=>[(8,I (-1)),(23,I i)],heap:=fun i _=>[.vec 1 (.int .i64) [] 3,.vec 1 (.slice (.int .i64)) [] 41,.cells [.seq (.slice (.int .i64)) (EB.onL n l)] 90],mu:=fun i=>n.toNat-i },rfl,?_⟩;(repeat refine ZG ?_);refine ⟨⟨(0:Nat),aK _,ZE⟩,fun (i:Nat) (hi:i<=n.toNat)=>?_⟩;by_cases hlt:i<n.toNat
 ·have hrg:=EB.reach_get (on:=EB.onL n l) i (k:=i) om;have hpre:∃n',EB.Rows2 (EB.onL n l) n'/\(0<=(i:Int)/\(i:Int)<n')/\(∀u,((EB.onL n l).getD u []).length<=4096)/\n'<=512:=⟨n,hrw,⟨om,om⟩,hrl,r3⟩;have hrl2:=EB.reachL_len (EB.onL n l) i;have hw:¬(EB.reachL (EB.onL n l) i).getD i false=true:=by rw[hrg,EB.wayB_iff];exact hno i hlt
  (repeat refine ZR ?_);refine ⟨(i+1:Nat),by show n.toNat-(i+1)<n.toNat-i;omega,hlt,?_⟩;exact ZE
 exact ZRF
theorem b3007 (ls:List Lin) (l:List Mem):body Tp [aBg,aBf,aA8,Ta,Tl,SB.c3018,aF0,EB.c43] {} true f7 [.agg [.any,.any,.any,.seq tLin ls],.seq tMem l] (.val (.bool true)):=by
 by_cases hg:grL ls
 ·(repeat refine ZR ?_);(conv=>whnf)
 by_cases hm:grM l
 ·(repeat refine ZR ?_);(conv=>whnf)
 by_cases he:(ofR ls l).2=0;case neg=>
  (repeat refine ZR ?_);(conv=>whnf)
 have hs:=aAf he;have hno:=aEn he;obtain ⟨w1,w2⟩:=EB.rk_len hs hno;have hpre:EB.supE l.length (ofR ls l).1=0/\¬EB.Loops (EB.onL l.length (ofR ls l).1) l.length:=⟨hs,hno⟩;have w3:((EB.rkR l.length (ofR ls l).1).length:Int)=l.length:=by rw[w2];omega
 (repeat' first|refine ZR ?_|refine Zg fun _=>?_);refine Br.mkY rfl ?_;(conv=>whnf)
theorem t3007 (ls:List Lin) (l:List Mem) (_:Okd (.slice tMem) l):Tri Tp true 7 [.agg [.any,.any,.any,.seq tLin ls],.seq tMem l] (.val (.bool true)):=
 triB func7 ntmps7 (by simp[aFz,aFy,aFl,aA7,aFx,SB.k3018,aNe,EB.k43]) (b3007 ls l)
theorem b3055 (n:Int) (h:0<=n/\n<=1000000):Uk Tp [] {} f55 [.val (.slice none 0 0),I n] (.ref 0 1) tMem [] 51:=by
 (apply Br.mk<;>intro)
 ·omega
 (repeat refine ZG ?_);(apply Br.mk<;>intro)
 ·exact ZGF
 skip;exact ZF
def aMn:Con:=Qb 55 fun args K=>match args with | [.val (.slice none 0 0),.val (.int .i64 n)]=>Need (0<=n/\n<=1000000) (K (.ref 0 1) (.vec 1 ((.pair (.int .i64) (.pair (.int .i64) (.pair (.int .i64) (.pair (.pair .str (.pair .str .str)) (.pair (.pair .str (.pair .str .str)) (.pair (.int .i64) (.int .i64)))))))) ([]) 51)) | _=>False
theorem k3055:aO Tp aMn:=by
 refine Kg (enters_of func55 kr rfl) ?_;intro args K h;split at h
 ·rename_i n;exact ⟨_,_,_,_,_,h.go,fun hfl=>tG si func55 (by simp[ntmps55]) hfl (b3055 n h.ok)⟩
 cases h
theorem b3019 (xss:List (List Mem)) (r:List Mem) (h:r=xss.flatten/\xss.flatten.length<=1000000/\xss.length=2):body Tp [aMn] {} true f19 [.seq (.slice tMem) xss] (.seq tMem r):=by
 obtain ⟨rfl,h,h2⟩:=h
 match xss,h2 with
 | [a,b],_=>
 have hl:([a,b]:List (List Mem)).length=2:=rfl;have e: [a,b].flatten=a++b:=by simp
 rw[e,aS] at h;rw[e];have h0:(([a,b]:List (List Mem)).getD 0 []).length=a.length:=rfl;have h1:(([a,b]:List (List Mem)).getD 1 []).length=b.length:=rfl;(repeat' first|refine ZR ?_|refine Zg fun _=>?_);all_goals rfl
def aF1:Con:=aR 19 true fun args K=>match args with | [.seq (.slice (.pair (.int .i64) (.pair (.int .i64) (.pair (.int .i64) (.pair (.pair .str (.pair .str .str)) (.pair (.pair .str (.pair .str .str)) (.pair (.int .i64) (.int .i64)))))))) xss]=>Alt (Has (fun r:List Mem=>r=xss.flatten/\xss.flatten.length<=1000000/\xss.length=2) fun r=>K (.seq tMem r)) False | _=>False
theorem k3019:aO Tp aF1:=by
 refine kO func19 fun args K h=>?_;simp only[aF1] at h;split at h
 ·rename_i xss;rcases h.or with h | h
  ·obtain ⟨r,hp,hK⟩:=h.ex;exact ⟨_,hK,triB func19 ntmps19 (by simp[k3055]) (b3019 xss r hp)⟩
  cases h
 cases h
theorem flat2 (a b:List Mem): [a,b].flatten=a++b:=by simp
theorem aNf {n k:Nat} {x:Int × Int} (h0:0<=x.1) (hn:0<n):oldP n k x=(((x.1+k)%n:Int),if 0<=x.2 then ((x.2+k)%n:Int) else x.2):=by
 unfold oldP;refine eC ?_ ?_
 ·show (((x.1.toNat+k)%n:Nat):Int)=(x.1+k)%n;have:((x.1.toNat:Nat):Int)=x.1:=bF h0;rw[<- this];simp
 dsimp only;split
 ·rename_i h2;show (((x.2.toNat+k)%n:Nat):Int)=(x.2+k)%n;have:((x.2.toNat:Nat):Int)=x.2:=bF h2;rw[<- this];simp
 rfl
theorem b3005 (ls:List Lin) (l:List Mem) (by':Int) (hby:0<=by'/\by'<=255):body Tp [aBg,aBf,aA8,Ta,Tl,aF1,aMa] { asks:=[(0,[])] } true f5 [.agg [.any,.any,.any,.seq tLin ls],.seq tMem l,.val (.int .u8 by')] (.val (.bool true)):=by
 by_cases hg:grL ls
 ·(repeat refine ZR ?_);(conv=>whnf)
 by_cases hm:grM l
 ·(repeat refine ZR ?_);(conv=>whnf)
 by_cases h0:(l.length:Int)=0
 ·(repeat' first|refine ZR ?_|refine Zg fun _=>?_);(conv=>whnf)
 by_cases he:(ofR ls l).2=0;case neg=>
  (repeat' first|refine ZR ?_|refine Zg fun _=>?_);(conv=>whnf)
 have hlp:0<(l.length:Int):=om;have hk1:0<=by'% (l.length:Int):=jA _ h0;have hk2:by'% (l.length:Int)<l.length:=fQ _ hlp;obtain ⟨k,hk⟩:=bT hk1;have hkl:k<=l.length:=om;have hfl:rotL l k=([l.drop k,l.take k]:List (List Mem)).flatten/\([l.drop k,l.take k]:List (List Mem)).flatten.length<=1000000/\([l.drop k,l.take k]:List (List Mem)).length=2:=by
  have e:([l.drop k,l.take k]:List (List Mem)).flatten=rotL l k:=flat2 _ _;rw[e,oY l hkl];have:¬12<l.length:=fun q=>hm (.inl q);exact ⟨rfl,om,rfl⟩
 have hro:=aNu (ls:=ls) hkl he;have hA:=(Sc he).2.2.2.2.2;have hB:(ofR ls (rotL l k)).1=outR ls (rotL l k) l.length:=by rw[hro]
 have hB2:(ofR ls (rotL l k)).2=0:=by rw[hro]
 have hlen:(ofR ls l).1.length=(ofR ls (rotL l k)).1.length:=by rw[hA,hB];exact (Wz hkl).symm
 have hin:∀x∈(ofR ls (rotL l k)).1,(0<=x.1/\x.1<l.length/\ -1<=x.2/\x.2<l.length)/\(((x.1+k)%l.length:Int),if 0<=x.2 then ((x.2+k)%l.length:Int) else x.2)∈(ofR ls l).1:=fun x hx=>by
  rw[hB] at hx;have h1:0<=x.1/\x.1<l.length/\ -1<=x.2/\x.2<l.length:=by
   have h2:=hx;rw[<- oY l hkl] at h2;obtain ⟨q1,q2,q3,q4,_⟩:=Sd h2;rw[oY l hkl] at q2 q4;exact ⟨q1,q2,q3,q4⟩
  have:=aC3 hkl hx;rw[aNf h1.1 om,<- hA] at this;exact ⟨h1,this⟩
 (repeat'((conv=>whnf);first|refine Zg fun _=>?_|refine Za ?_|refine Zn ?_|apply pI|apply pJ|refine Zm ?_|fail));refine eS k om ?_;(repeat'((conv=>whnf);first|refine Zn ?_|apply pI|apply pJ|fail));refine eS k om ?_;(repeat'((conv=>whnf);first|refine .h ?_|refine Zg fun _=>?_|apply pI|apply pJ|refine Zl ?_|refine Zm ?_|fail));refine Ask.mk ⟨{ X:=Nat,pre:=fun i=>i<=(ofR ls (rotL l k)).1.length,mod:=fun i _=>[(77,I i)],heap:=fun i H=>H,mu:=fun i=>(ofR ls (rotL l k)).1.length-i },rfl,?_⟩;(repeat refine ZG ?_);refine ⟨⟨(0:Nat),aK _,ZE⟩,fun (i:Nat) hi=>?_⟩;have hi:i<=(ofR ls (rotL l k)).1.length:=hi;by_cases hlt:i<(ofR ls (rotL l k)).1.length
 ·have hmem:(ofR ls (rotL l k)).1.getD i (0,0)∈(ofR ls (rotL l k)).1:=by rw[aB,aM hlt];exact cT hlt
  obtain ⟨⟨w1,w2,w3,w4⟩,w5⟩:=hin _ hmem;by_cases hx2:0<=((ofR ls (rotL l k)).1.getD i (0,0)).2
  ·rw[aD hx2,<- hk] at w5;(repeat'((conv=>whnf);first|refine Zg fun _=>?_|refine Za ?_|refine Zn ?_|refine Zj ?_|apply pI|apply pJ|exact Zf|refine Zc ?_ ?_|refine Zy ?_|refine Zm ?_|fail));refine ⟨(i+1:Nat),by show (ofR ls (rotL l k)).1.length-(i+1)<(ofR ls (rotL l k)).1.length-i;omega,hlt,?_⟩;exact ZE
  rw[aC hx2,<- hk] at w5;(repeat'((conv=>whnf);first|refine Zg fun _=>?_|refine Za ?_|refine Zn ?_|refine Zj ?_|apply pI|apply pJ|exact Zf|refine Zc ?_ ?_|refine Zy ?_|refine Zm ?_|fail));refine ⟨(i+1:Nat),by show (ofR ls (rotL l k)).1.length-(i+1)<(ofR ls (rotL l k)).1.length-i;omega,hlt,?_⟩;exact ZE
 have e:i=(ofR ls (rotL l k)).1.length:=om;subst e;(repeat refine ZH ?_);(conv=>whnf)
theorem t3005 (ls:List Lin) (l:List Mem) (b:Int) (_:Okd (.slice tMem) l) (hb:inK .u8 b):Tri Tp true 5 [.agg [.any,.any,.any,.seq tLin ls],.seq tMem l,.val (.int .u8 b)] (.val (.bool true)):=
 triB func5 ntmps5 (by simp[aFz,aFy,aFl,aA7,aFx,k3019,k3020]) (b3005 ls l b hb)
end RB
end

/-
  Part 2: a symbolic executor over the model, contracts of functions and plain laws.
-/
import Derived.Test.YtocimheacfaimaaGreatDoorP1
import Derived.Lib.AppendZeros
import Derived.Lib.AppendStr
import Derived.Laws.Cover3
import Derived.Laws.Strings
import Derived.Laws.IdiomCopy
import Derived.Laws.AppendOwn
import Derived.Maps.RangeRun
import Derived.MapKept
import Derived.DeepKeys3
import Derived.Laws.IdiomStrings
set_option linter.unusedVariables false
set_option linter.unusedSimpArgs false
set_option maxRecDepth 10000
set_option maxHeartbeats 80000000
open List (length getD)
noncomputable section
section
namespace Go.Eng
open Go.RowKit
theorem Reads.flatJ {w:World}{ok ok':Nat->Prop}{t:Ty}{x:t.T}{cs:List Value}(c:t.flat=true)(h:Reads w ok t x cs):Reads w ok' t x cs:=by
 induction t generalizing cs with
 | int k=>exact h
 | bool=>exact h
 | str=>exact h
 | pair a b iha ihb=>
  simp only[Ty.flat,aG] at c;obtain ⟨f,g,e,m,n⟩:=h;exact ⟨f,g,e,iha c.1 m,ihb c.2 n⟩
 | slice t _=>cases c
theorem Md {w:World}{ok:Nat->Prop}{t:Ty}{xs:List t.T}{b off:Nat}:∀(n:Nat),(∀i,i<n->∃es,es.length=t.size/\w.rangeAt b (off+i*t.size) es/\Reads w ok t (xs.getD i t.dflt) es)->
  ∃news:List Value,news.length=n*t.size/\w.rangeAt b off news/\∀i,i<n->Reads w ok t (xs.getD i t.dflt) ((news.drop (i*t.size)).take t.size)
 | 0,_=>⟨[],si,fun j v f=>by simp at f,fun i hi=>absurd hi (aT _)⟩
 | n+1,h=>by
  obtain ⟨news,m,o,s⟩:=Md n fun i hi=>h i om;obtain ⟨es,u,x,y⟩:=h n om;refine ⟨news++es,by simp[m,u,bI],?_,?_⟩
  ·intro j v f;rcases Nat.lt_or_ge j news.length with c | g
   ·rw[bN c] at f;exact o j v f
   rw[cN g] at f;have:=x _ v f;have e:off+n*t.size+(j-news.length)=off+j:=om;rwa [e] at this
  intro i hi;by_cases e:i=n
  ·subst e;have:(news++es).drop (i*t.size)=es:=by
    rw[<- m,List.drop_left]
   rw[this,cZ om];exact y
  have c:i<n:=om;have z:i*t.size+t.size<=n*t.size:=by
   have:(i+1)*t.size<=n*t.size:=aN _ c;rwa [bI,cX] at this
  have:((news++es).drop (i*t.size)).take t.size=(news.drop (i*t.size)).take t.size:=by
   rw[eW om,cE (by simp;omega)]
  rw[this];exact s i c
section
variable {P:Program} {G:Ctx} {H:List HO} {loc:Nat->Loc} {ver:Nat->Nat} {w:World}
structure Src (w:World) (ok:Nat->Prop) (t:Ty) (ys:List t.T) (x:Value) (a:Option Addr) (c:Nat) (news:List Value):Prop where
 val:x= .slice a ys.length c
 none:a=none->ys.length=0
 len:news.length=ys.length*t.size
 cell:∀ad,a=some ad->∀j u,news[j]? =some u->w.cell? (ad.add j)=some u
 rd:∀i,i<ys.length->Reads w ok t (ys.getD i t.dflt) ((news.drop (i*t.size)).take t.size)
theorem tK {ok:Nat->Prop}{t:Ty}{ys:List t.T}{x:Value}(h:Reads w ok (.slice t) ys [x]):∃a c news,Src w ok t ys x a c news:=by
 obtain ⟨a,n,c,e,C,F,J,f⟩:=h;cases e;have o:n=ys.length:=C;subst o;by_cases y:0<ys.length
 ·obtain ⟨b,E,rfl,D,g⟩:=f y;obtain ⟨news,z,A,B⟩:=Md (xs:=ys) ys.length g;exact ⟨_,c,news,rfl,(fun e=>by cases e),z,(fun s e j u m=>by cases e;rw[Addr.add_mid];exact A j u m),B⟩
 have:ys.length=0:=om;exact ⟨a,c,[],rfl,fun _=>this,by simp[this],(fun s e j u m=>by simp at m),fun i hi=>om⟩
theorem Me (Y:Inv G H loc ver w){t:Ty}{s:SV}{x:Value}{ys:List t.T}(h:Lf H t s=some ys)(hs:Rel (envOf G H loc ver w) s x):∃a c news,Src w (qW G H loc w) t ys x a c news:=by
 have y:∀ {s':SV} {C:Ty} {K:List C.T},s'= .seq C K->(∀o (D:List o.T),s'= .seq o D->∃a c news,Src w (qW G H loc w) o D x a c news)->(match s' with
   | .seq C ys=>if h:C=t then some (h ▸ ys:List t.T) else none
   | .val (.slice none 0 0)=>some []
   | _=>none)=some ys->∃a c news,Src w (qW G H loc w) t ys x a c news:=by
  intro s' C K e f h;subst e;simp only at h;split at h
  ·rename_i e;subst e;cases h;exact f _ _ rfl
  cases h
 unfold Lf at h;cases hs with
 | seq C xs _ hr=>exact y (s':=.seq C xs) rfl (fun o D e=>by cases e;exact tK hr) h
 | val v hw=>
  simp only[eU] at h;split at h
  ·rename_i A;cases A
  ·rename_i A;cases A;cases h;exact ⟨none,0,[],rfl,fun _=>rfl,si,(fun ad e=>by cases e),fun i hi=>by simp at hi⟩
  cases h
 | ref nm k _ hn h0 hk hv=>
  simp only[eU] at h;cases ho:bX H nm with
  | vec j ty xs e=>
   rw[ho] at h;simp only[mW] at h;cases hb:Nat.beq j k with
   | false=>rw[hb] at h;simp at h
   | true=>
    rw[hb] at h;obtain rfl:=bM.1 hb;have F:=Y.objs nm _ (bB ho si);have B:ver nm=j:=F.1;have:=hv B.symm;subst this;refine y (s':=.seq ty xs) rfl (fun o D e=>?_) h;cases e;obtain ⟨_,_,J,a1,vs,z,Z⟩:=F;have m:(loc nm).len=xs.length:=J;rcases cW z with ⟨e1,e2,e3,e4⟩ | ⟨g,cur,e1,e2,e3,e4,e5,e6,e7⟩
    ·have E:length (α:=ty.T) xs=0:=om;refine ⟨none,0,[],?_,fun _=>E,by simp[E],(fun ad e=>by cases e),fun i hi=>om⟩;show (loc nm).head= _;simp only[Core.head,e1,e2,e3,Option.map_none];rw[<- m,e3]
    refine ⟨some ⟨g,0,none⟩,(loc nm).cap,vs,?_,(fun e=>by cases e),?_,?_,?_⟩
    ·show (loc nm).head= _;simp only[Core.head,e1,mR,m]
    ·rw[<- m];exact z.1
    ·intro ad e j u W;cases e;rw[Addr.add_mid];rw[<- e7,aL] at W;split at W
     ·have X:w.heap[g]? =some (.cells cur _ (0,0)):=e3;simp only[World.cell?,X];simpa using W
     cases W
    intro i hi;exact Z i (by show i<(loc nm).len;omega)
  | fro j ty xs=>
   rw[ho] at h;simp only at h;cases hb:Nat.beq j k with
   | false=>rw[hb] at h;simp at h
   | true=>
    rw[hb] at h;obtain rfl:=bM.1 hb;have F:=Y.objs nm _ (bB ho si);have B:ver nm=j:=F.1;have:=hv B.symm;subst this;exact y (s':=.seq ty xs) rfl (fun o D e=>by cases e;exact tK F.2.2) h
  | dead=>rw[ho] at h;simp at h
  | cells l e=>rw[ho] at h;simp at h
  | frc l=>rw[ho] at h;simp at h
  | gone=>rw[ho] at h;simp at h
  | qm a b=>rw[ho] at h;simp at h
  | frm a b=>rw[ho] at h;simp at h
  | lnt a b c=>rw[ho] at h;simp at h
  | yst a b c=>rw[ho] at h;simp at h
  | map a b c=>rw[ho] at h;simp at h
  | mit a b c d=>rw[ho] at h;simp at h
  | res=>rw[ho] at h;simp at h
  | vv=>rw[ho] at h;simp at h
 | ptr nm off _ hn hh=>
  simp only[eU] at h;cases ho:bX H nm with
  | frc l=>rw[ho] at h;rcases DX l off with ⟨n,e,_,_⟩ | e<;>simp only[e] at h<;>cases h
  | _=>rw[ho] at h;simp at h
 | mp nm _ hn hh=>
  simp only[eU] at h;cases ho:bX H nm with
  | _=>rw[ho] at h;simp at h
 | subp nm k i _ hn h0 hk hs' hv=>
  simp only[eU] at h;cases ho:bX H nm with
  | lnt j ty xs=>
   rw[ho] at h;simp only[mW] at h;cases hc:(ty.flat&&(Nat.beq j k&&Nat.beq i 0)) with
   | false=>rw[hc] at h;simp at h
   | true=>
    rw[hc] at h;simp only[aG] at hc;obtain ⟨a0,h1,h2⟩:=hc;have e1:j=k:=by simpa using h1
    have e2:i=0:=by simpa using h2
    subst e1;subst e2;obtain ⟨q1,q2,q3,q4,q5⟩:=Y.objs nm _ (bB ho si);have:=hv q1.symm q3.symm;subst this;refine y (s':=.seq ty xs) rfl (fun o D e=>?_) h;cases e;obtain ⟨a,c,news,f⟩:=tK q5;exact ⟨a,c,news,f.val,f.none,f.len,f.cell,fun i hi=>Reads.flatJ a0 (f.rd i hi)⟩
  | _=>rw[ho] at h;simp at h
 | _=>simp[eU] at h
theorem qD {t ty e:TypeId}{i:TypeInfo}{z:Value}{tt:Ty}(ht:P.underlying t=some (.slice e))(hi:P.info? e=some i)(hz:i.zero=some z)(J:i.size=tt.size)(b2:z.cells.size=tt.size){L:Loc}{n:Nat}{xs:List Value}(m:w.ownsR 0 e tt.size L.head n xs){ok:Nat->Prop}{ys:List tt.T}{x:Value}{a:Option Addr}{c:Nat}{news:List Value}(f:Src w ok tt ys x a c news)(F:(n+ys.length)*i.bytes<=140737488355328)(hm:n+ys.length<=maxL):
  ∃(W:Loc) (w':World),(Builtin.append_ #[t,t] ty #[L.head,x]).run P w= .ok W.head w'/\w'.ownsR 0 e tt.size W.head (n+ys.length) (xs++news)/\w.grownBy w' (L.blk.map (·.1))/\(∀b,W.blk.map (·.1)=some b->L.blk.map (·.1)=some b\/w.heap.size<=b):=by
 have b1:=tt.size_pos;have a':n+ys.length<=140737488355328:=hm;have h1:∀u∈news,u.oneCell'=true:=by
  intro u hu;obtain ⟨j,X,rfl⟩:=fV hu;have a9:j<ys.length*tt.size:=by rw[<- f.len];exact X
  have a0:j/tt.size<ys.length:=Nat.div_lt_of_lt_mul (by rw[dY];exact a9);refine (f.rd (j/tt.size) a0).one _ ?_;have a3:=gP j b1;have a7:=Nat.div_add_mod j tt.size;have:((news.drop (j/tt.size*tt.size)).take tt.size)[j%tt.size]? =some news[j]:=by
   rw[aL,aE a3,aX,dY,a7,aY X]
  exact kT this
 have a5:ys.length=0->∃(W:Loc) (w':World),(Builtin.append_ #[t,t] ty #[L.head,x]).run P w= .ok W.head w'/\w'.ownsR 0 e tt.size W.head (n+ys.length) (xs++news)/\w.grownBy w' (L.blk.map (·.1))/\(∀b,W.blk.map (·.1)=some b->L.blk.map (·.1)=some b\/w.heap.size<=b):=by
  intro Z;have hn:news= []:=cK (by rw[f.len,Z,qL]);refine ⟨L,w,?_,by rw[hn,Z];simpa using m,⟨rfl,rfl,rfl,aI _,fun _ _ _=>rfl⟩,fun b F=>.inl F⟩;rw[f.val,Z];have a2:L.len<=L.cap:=by
   rcases cW m with ⟨_,e2,e3,_⟩ | ⟨g,cur,_,e2,_,e4,_⟩<;>omega
  cases hbk:L.blk with
  | none=>cases a<;>simp[Core.head,hbk,Builtin.append_,run_underlying ht,sizeOf,typeInfo,hi,Builtin.lenOf,Builtin.firstCells,loadCells,loadCellsFrom,a2,storeCells]
  | some p=>cases a<;>simp[Core.head,hbk,Builtin.append_,run_underlying ht,sizeOf,typeInfo,hi,Builtin.lenOf,Builtin.firstCells,loadCells,loadCellsFrom,a2,storeCells]
 by_cases Z:ys.length=0
 ·exact a5 Z
 obtain ⟨K,rfl⟩:∃K,a=some K:=by
  cases a with
  | none=>exact absurd (f.none rfl) Z
  | some K=>exact ⟨K,rfl⟩
 have E:news.length=ys.length*i.size:=by rw[J];exact f.len
 have A:=f.cell K rfl;rw[f.val];have o:(xs++news).length=(n+ys.length)*i.size:=by rw[aO,m.1,E,J,bI]
 have y:∀(s:Nat),s<n+ys.length->∀(a4:Option Nat),
   (w.drew.alloc (.cells (xs.toArray++news.toArray++Builtin.zeroCells z.cells (grownCap w (n+ys.length) s e-(n+ys.length))) e)).ownsR 0 e tt.size (Core.head (zT (some (w.heap.size,0)) (n+ys.length) (grownCap w (n+ys.length) s e)).toCore) (n+ys.length) (xs++news)/\
   w.grownBy (w.drew.alloc (.cells (xs.toArray++news.toArray++Builtin.zeroCells z.cells (grownCap w (n+ys.length) s e-(n+ys.length))) e)) a4:=by
  intro s ho a4;have a8:=grownCap_ge w (n+ys.length) s e;have a6:grownCap w (n+ys.length) s e<=maxLen:=grownCap_le_maxLen w (n+ys.length) s e (by simp[maxLen];omega);refine ⟨⟨by rw[<- J];exact o,.inr ⟨w.heap.size,_,_,rfl,aF _,mT w.drew _,a8,a6,?_,?_⟩⟩,⟨rfl,rfl,rfl,si,fun k hk _=>Below.heap_alloc w.drew _ k hk⟩⟩
  ·have:xs.length+news.length=(n+ys.length)*tt.size:=by rw[<- aO,o,J]
   simp only[vN,gY,size_zeroCells,b2,this,<- bI];exact aN _ om
  simp only[Array.toList_append];rw[<- J,<- o];exact tD rfl
 rcases cW m with ⟨e1,e2,e3,e4⟩ | ⟨g,cur,e1,e2,e3,e4,e5,e6,e7⟩
 ·have hx:xs= []:=cK (by rw[m.1,e4,qL]);subst hx e4;simp only[eS] at F a' y ⊢;have hr:=run_append_nil (P:=P) w t ty e i z ht hi hz K ys.length c news E A om om om;have C:=y 0 om (L.blk.map (·.1));refine ⟨(zT (some (w.heap.size,0)) (ys.length) (_)),_,?_,C.1,C.2,fun b F=>.inr (by simp at F;omega)⟩;simpa [Core.head,e1,e2,e3] using hr
 have D:L.head= .slice (some ⟨g,0,none⟩) n L.cap:=by simp[Core.head,e1,e2]
 by_cases B:n+ys.length<=L.cap
 ·have a1:n*i.size+news.length<=cur.size:=by rw[E,J,<- bI];exact bA (aN _ B) e6
  have hr:=run_append_room (P:=P) w t ty e i ht hi g n L.cap cur e3 K ys.length c news E A h1 B a1;refine ⟨zT (some (g,0)) (n+ys.length) L.cap,_,by rw[D];exact hr,⟨by rw[<- J];exact o,.inr ⟨g,L.cap,_,rfl,aF _,setRow_heap w g cur _ e _ e3,B,e5,?_,?_⟩⟩,⟨rfl,rfl,rfl,si,fun k _ hk=>setRow_other w g k _ (fun e=>hk (by simp[e1,e]))⟩,fun b F=>.inl (by simpa [e1] using F)⟩
  ·simp only[gY,aO,aW,bT,jM];omega
  rw[J] at*;rw[e7];rw[<- o];exact tD rfl
 have Y:∀j u,xs[j]? =some u->w.cell? ((⟨g,0,none⟩:Addr).add j)=some u:=by
  intro j u X;rw[Addr.add_mid];rw[<- e7,aL] at X;split at X
  ·simp only[World.cell?,e3];simpa using X
  cases X
 have hr:=run_append_grow (P:=P) w t ty e i z ht hi hz ⟨g,0,none⟩ n L.cap xs (by rw[J];exact m.1) Y K ys.length c news E A om om (growslice_fits om F);have C:=y L.cap om (L.blk.map (·.1));exact ⟨(zT (some (w.heap.size,0)) (n+ys.length) (_)),_,by rw[D];exact hr,C.1,C.2,fun b F=>.inr (by simp at F;omega)⟩
end
end Go.Eng
end
section
namespace Go.Eng
open Go.RowKit
section
variable {P:Program} {G:Ctx} {H:List HO} {loc:Nat->Loc} {ver:Nat->Nat} {w:World}
theorem sH (c:Inv G H loc ver w){nm k:Nat}{v:Value}{t:Ty}{xs:List t.T}{e:TypeId}(m:Rel (envOf G H loc ver w) (.ref nm k) v)(g:bX H nm= .vec k t xs e):v=(loc nm).head/\nm<H.length:=by
 cases m with
 | ref _ _ _ hn h0 hk hv=>
  have f:=c.objs nm _ (bB g si);exact ⟨hv f.1.symm,iN hn⟩
theorem qE {w':World}{ok ok':Nat->Prop}{t:Ty}{xs ys:List t.T}{vs news:List Value}(g:vs.length=xs.length*t.size)(e:∀i,i<xs.length->Reads w' ok t (xs.getD i t.dflt) ((vs.drop (i*t.size)).take t.size))(n:news.length=ys.length*t.size)(f:∀i,i<ys.length->Reads w' ok t (ys.getD i t.dflt) ((news.drop (i*t.size)).take t.size)):
  ∀i,i<xs.length+ys.length->Reads w' ok t ((xs++ys).getD i t.dflt) (((vs++news).drop (i*t.size)).take t.size):=by
 intro i hi;by_cases c:i<xs.length
 ·have m:i*t.size+t.size<=xs.length*t.size:=by
   have:(i+1)*t.size<=xs.length*t.size:=aN _ c;rwa [bI,cX] at this
  have e1:((vs++news).drop (i*t.size)).take t.size=(vs.drop (i*t.size)).take t.size:=by
   rw[eW om,cE (by simp;omega)]
  have e2:(xs++ys).getD i t.dflt=xs.getD i t.dflt:=by
   rw[aB,bN c,<- aB]
  rw[e1,e2];exact e i c
 obtain ⟨k,rfl⟩:∃k,i=xs.length+k:=⟨i-xs.length,om⟩;have e1:(xs.length+k)*t.size=xs.length*t.size+k*t.size:=bI ..;have e2:(xs++ys).getD (xs.length+k) t.dflt=ys.getD k t.dflt:=by
  rw[aB,cN om,aB];congr 2;omega
 rw[e1,Ma _ _ _ _ g,e2];exact f k om
theorem Mf (hI:Inv G H loc ver w){t ty:TypeId}{s x:SV}{p q:Value}{K:SV->List HO->Prop}(h:Eh P t H s x K)(hs:Rel (envOf G H loc ver w) s p)(hx:Rel (envOf G H loc ver w) x q):
  ∃v w',(Builtin.append_ #[t,t] ty #[p,q]).run P w= .ok v w'/\Res G (envOf G H loc ver w) K v w':=by
 unfold Eh at h;split at h;case h_2=>cases h
 rename_i e he;have hu:=fS he;split at h;case h_2=>cases h
 rename_i tt i b3 hi;have h':=bD h;clear h;obtain ⟨A,h⟩:=h';simp only[aG,bM] at A;obtain ⟨⟨a3,a8⟩,J⟩:=A;have a4:0<i.bytes:=by simpa using a8
 obtain ⟨z,hz,a6⟩:∃z,i.zero=some z/\z.cells.size=tt.size:=by
  cases hz:i.zero with
  | none=>rw[hz] at J;cases J
  | some z=>rw[hz] at J;exact ⟨z,rfl,bM.1 J⟩
 have B:∀n:Nat,n*i.bytes<=140737488355328->n<=maxL:=fun n X=>bA (eA n a4) X;split at h;case h_2=>cases h
 rename_i ys b1;obtain ⟨a,c,a0,m⟩:=Me hI b1 hx;split at h
 ·cases hs;obtain ⟨X,W⟩:=h;rw[cD] at W;obtain ⟨L',w',hr,f,hg,a1⟩:=qD (P:=P) (w:=w) (t:=t) (ty:=ty) (tt:=tt) (L:=zT none 0 0) (n:=0) (xs:=[]) hu hi hz a3 a6 ⟨si,.inl ⟨rfl,rfl⟩⟩ m (by simpa using X) (by have:=B _ X;omega);simp only[eS,jI] at f;obtain ⟨h1,h2,h3,h4,h5⟩:=hg;have Z:L'.len=ys.length:=by
   rcases cW f with ⟨_,_,e3,e4⟩ | ⟨g,cur,_,e2,_⟩<;>omega
  have hf:=hI.fresh (w':=w') (.vec 1 tt ys e) L' 1 h4 h1 h2 h3 (fun b A=>h5 b A si) (by
    intro b A;rcases a1 b A with h | h
    ·simp at h
    exact h)
   (fun y=>⟨rfl,Nat.one_pos,Z,by rw[Z];exact B _ X,a0,by rw[Z];exact f,fun i hi=>(m.rd i om).mono y.cell y.ok⟩)
  refine ⟨_,_,hr,_,_,_,_,W,hf.1,?_,hf.2⟩;refine .ref _ _ _ (by exact nI rfl) Nat.one_pos (by simp[envOf,bF]) fun _=>?_;simp[envOf,bF]
 ·rename_i o k;split at h;case h_2=>cases h
  rename_i v F xs e' ho;have h':=bD h;clear h;obtain ⟨A,h⟩:=h';simp only[aG,bM] at A;obtain ⟨e1,e2⟩:=A;subst e1 e2;split at h;case isFalse=>cases h
  rename_i a7;subst a7;obtain ⟨X,W⟩:=h;rw[cD] at W;obtain ⟨hp,u⟩:=sH hI hs ho;subst hp;have Y:=bB ho si;obtain ⟨hv,b4,a5,b2,vs,f,a9⟩:=hI.objs o _ Y;have a2:(loc o).len=xs.length:=a5;have D:w.ownsR 0 e F.size (loc o).head xs.length vs:=by rw[<- a2];exact f
  obtain ⟨L',w',hr,E,hg,a1⟩:=qD (P:=P) (w:=w) (t:=t) (ty:=ty) hu hi hz a3 a6 D m X (B _ X);obtain ⟨h1,h2,h3,h4,h5⟩:=hg;have Z:L'.len=xs.length+ys.length:=by
   rcases cW E with ⟨_,_,e3,e4⟩ | ⟨g,cur,_,e2,_⟩<;>omega
  have b5:ver o=v:=hv;have ht:=hI.turn (w':=w') (H':=cA H o (.vec (v+1) F (List.append xs ys) e)) (loc':=sV loc o L') (ver':=sV ver o (v+1)) o (by simp[cA]) (fun k W=>⟨bS W,dJ _ _ _ W,dJ _ _ _ W⟩)
   (fun _=>eJ (aP u) rfl) (fun _=>.inr ⟨om,by rw[bF];omega⟩) h4 h1 h2 h3 (by rw[Y];intro h;cases h) (fun _=>by first | rw[show cA H o _=H.set o _ from rfl,aP u];intro h;cases h | rw[show cA H 0 _=H.set 0 _ from rfl,aP u];intro h;cases h) (fun st n it b h=>by rw[show cA H o (.vec (v+1) F (List.append xs ys) e)=H.set o _ from rfl,aP u] at h;cases h) (fun b A a'=>h5 b A (by
    intro e
    exact a' _ Y (by simp only[Owns];exact e.symm)))
   (by
    intro o' b C A;rw[show cA H o (.vec (v+1) F (List.append xs ys) e)=H.set o _ from rfl,aP u] at C;cases C;rw[bF] at A;rcases a1 b A with h | h
    ·exact .inl ⟨_,Y,h⟩
    exact .inr h)
   (by
    intro y o' C;rw[show cA H o (.vec (v+1) F (List.append xs ys) e)=H.set o _ from rfl,aP u] at C;cases C;rw[bF,bF];refine ⟨rfl,iP _,by rw[Z];simp,by rw[Z];exact B _ X,vs++a0,by rw[Z];exact E,fun i hi=>?_⟩;rw[Z] at hi;refine qE (ok':=fun _=>True) ?_ (fun i hi=>(a9 i (by show i<(loc o).len;omega)).mono y.cell y.ok) m.len (fun i hi=>(m.rd i hi).mono y.cell y.ok) i hi
    exact D.1)
  refine ⟨_,_,hr,_,_,_,_,W,ht.1,?_,ht.2⟩;refine .ref _ _ _ (by exact eJ (aP u) rfl) (iP _) (by simp[envOf,bF]) fun _=>?_;simp[envOf,bF]
 cases h
theorem Eu (hI:Inv G H loc ver w){t u ty:TypeId}{s x:SV}{p q:Value}{K:SV->List HO->Prop}(h:zI P t u H s x K)(hs:Rel (envOf G H loc ver w) s p)(hx:Rel (envOf G H loc ver w) x q):
  ∃v w',(Builtin.append_ #[t,u] ty #[p,q]).run P w= .ok v w'/\Res G (envOf G H loc ver w) K v w':=by
 unfold zI at h;split at h;case h_2=>cases h
 rename_i ku kn n E;split at h;case h_2=>cases h
 rename_i e he;have hu:=fS he;split at h;case h_2=>cases h
 rename_i X i a3 hi;have h':=bD h;clear h;obtain ⟨f,h⟩:=h';simp only[aG,bM] at f;obtain ⟨⟨⟨a0,A⟩,B⟩,c⟩:=f;have Y:0<i.bytes:=by simpa using A
 have g:=fI B;obtain ⟨z,y,W⟩:∃z,i.zero=some z/\z.cells.size=X.size:=by
  cases y:i.zero with
  | none=>rw[y] at c;cases c
  | some z=>rw[y] at c;exact ⟨z,rfl,bM.1 c⟩
 obtain ⟨hn,hk⟩:=h;rw[cD] at hk;cases hs;cases hx;obtain ⟨m,rfl⟩:∃m:Nat,n=m:=⟨n.toNat,om⟩;have F:0<m:=om;have J:m<=137438953472:=om;have a2:=X.size_pos;have a1:m*i.bytes<=137438953472*1024:=eK J g;have o:=Lib.run_append_nil_zeros (P:=P) w t u ty e i z kn ku hu E hi y m F om om om;have D:=grownCap_ge w m 0 e;have C:grownCap w m 0 e<=maxLen:=grownCap_le_maxLen w m 0 e (by simp[maxLen];omega);have Z:=hI.fresh (w':=w.drew.alloc (.cells (Builtin.zeroCells z.cells m++Builtin.zeroCells z.cells (grownCap w m 0 e-m)) e)) (.vec 1 X [] e) (zT (some (w.heap.size,0)) 0 (grownCap w m 0 e)) 1
  si rfl rfl rfl (fun b f=>Below.heap_alloc w.drew _ b f) (by
   intro b f;simp[Owns] at f
   omega)
  (fun _=>⟨rfl,Nat.one_pos,rfl,aF _,[],⟨si,.inr ⟨w.heap.size,_,_,rfl,aF _,mT w.drew _,aF _,C,by
   simp only[vN,size_zeroCells,W,<- bI]
   exact aN _ om,si⟩⟩,fun i hi=>absurd hi (aT _)⟩)
 refine ⟨_,_,o,_,_,_,_,hk,Z.1,?_,Z.2⟩;refine .wide _ _ _ (by exact nI rfl) Nat.one_pos (by simp[envOf,bF]) fun _=>⟨m,?_,?_⟩
 ·simpa [envOf,bF] using D
 simp[envOf,bF]
theorem Ii {e:TypeId}{z:List SV}{i:TypeInfo}(c:rA P e=some z)(hi:P.info? e=some i):∃f:Value,i.zero=some f/\z=f.cells.toList.map HY:=by
 unfold rA at c;rw[hi] at c;simp only at c;cases h:i.zero with
 | none=>rw[h] at c;cases c
 | some v=>rw[h] at c;exact ⟨v,rfl,by simpa using c.symm⟩
theorem Ct (z:Array Value)(n:Nat)(h:0<z.size)(j:Nat)(e:j<n):(madeCells z n).toList[j]? =some (z.toList.getD (j%z.size) undef):=by
 have c:j%z.size<z.size:=gP _ h;simp[madeCells,e,c]
theorem Tn (Y:Inv G H loc ver w){t:TypeId}{n c:SV}{p q:Value}{K:SV->List HO->Prop}(h:BD P t H n c K)(hn:Rel (envOf G H loc ver w) n p)(Z:Rel (envOf G H loc ver w) c q):
  ∃v w',(Instr.makeSlice t p q).run P w= .ok v w'/\Res G (envOf G H loc ver w) K v w':=by
 unfold BD at h;split at h;case h_2=>cases h
 rename_i e kn g kc m he;have hu:=fS he;obtain ⟨rfl,_⟩:=hn.int_inv;obtain ⟨rfl,_⟩:=Z.int_inv;split at h;case h_2=>cases h
 rename_i f i z a2 hi hz;have X:=bD h;clear h;obtain ⟨s,h⟩:=X;simp only[aG,bM] at s;obtain ⟨⟨u,C⟩,D⟩:=s;split at h;case h_2=>cases h
 rename_i A hd;obtain ⟨⟨n1,n2,n3,n4⟩,J⟩:=h;rw[cD] at J;obtain ⟨o,E,rfl⟩:=Ii hz hi;have y:o.cells.size=f.size:=by simpa using D
 have W:=f.size_pos;have hr:=run_make (P:=P) w t e i o hu hi E kn kc g m n1 n2 (by rw[bU];omega) om;have F:=Y.fresh (w':=w.alloc (.cells (madeCells o.cells (m.toNat*i.size)) e)) (.vec 1 f (List.replicate g.toNat A) e) (zT (some (w.heap.size,0)) (g.toNat) (m.toNat)) 1 si rfl rfl rfl (fun b s=>Below.heap_alloc w _ b s) (by intro b s;simp[Owns] at s;omega)
  (fun hx=>by
   have hm:g.toNat*f.size<=m.toNat*i.size:=by rw[u];exact aN _ om
   refine ⟨rfl,Nat.one_pos,si,by show g.toNat<=140737488355328;omega,(madeCells o.cells (m.toNat*i.size)).toList.take (g.toNat*f.size),⟨by show (List.take _ _).length=g.toNat*f.size;rw[aW,jM,size_madeCells];exact dB hm,.inr ⟨w.heap.size,m.toNat,madeCells o.cells (m.toNat*i.size),rfl,aF _,mT w _,by show g.toNat<=m.toNat;omega,by simp[maxLen];omega,by rw[size_madeCells,u];exact aI _,rfl⟩⟩,fun j hj=>?_⟩;have x:j<g.toNat:=hj;have a0:j*f.size+f.size<=g.toNat*f.size:=by
    have:(j+1)*f.size<=g.toNat*f.size:=aN _ x;rwa [bI,cX] at this
   have e1:(List.replicate g.toNat A).getD j f.dflt=A:=by
    rw[aB];have:(List.replicate g.toNat A)[j]? =some A:=by simp[x]
    rw[this];rfl
   have e2:((((madeCells o.cells (m.toNat*i.size)).toList.take (g.toNat*f.size)).drop (j*f.size)).take f.size)=o.cells.toList:=by
    apply eL;intro q;rw[aL];by_cases B:q<f.size
    ·rw[aE B,aX,aL,aE om,Ct _ _ om _ om];have:(j*f.size+q)%o.cells.size=q:=by rw[y,dY,Nat.mul_add_mod];exact fT B
     rw[this];have a1:q<o.cells.toList.length:=by simp;omega
     simp[y,B]
    rw[aD B,cO (by simp;omega)]
   rw[e1,e2]
   exact wI (sE _ _) hd C)
 refine ⟨_,_,hr,_,_,_,_,J,F.1,?_,F.2⟩;refine .ref _ _ _ (by exact nI rfl) Nat.one_pos (by simp[envOf,bF]) fun _=>?_;simp[envOf,bF,Core.head]
theorem OG (s:Bx):(⟨s.toArray⟩:ByteArray).size=s.length:=by simp[ByteArray.size]
theorem Ij (Z:Inv G H loc ver w){s:SV}{x:Value}{K:SV->Prop}(h:DE H s K)(C:Rel (envOf G H loc ver w) s x):(∃a n c s',x= .slice a n c/\K s'/\Rel (envOf G H loc ver w) s' (.int .i64 n))\/(∃l s',s= .str l/\x= .string ⟨List.toArray l⟩/\K s'/\Rel (envOf G H loc ver w) s' (.int .i64 l.length)):=by
 have D:∀n:Nat,n<=maxL->inK .i64 n:=fun n B=>by
  have:n<=140737488355328:=B;constructor<;>simp only[lo,hi]<;>omega
 have hR:∀(t:Ty) (u:List t.T) (x:Value),Reads w (qW G H loc w) (.slice t) u [x]->Giv (u.length<=140737488355328) (K (.val (.int .i64 u.length)))->∃a n c s',x= .slice a n c/\K s'/\Rel (envOf G H loc ver w) s' (.int .i64 n):=by
  intro t u x hr h;obtain ⟨a,n,c,e,B,_,hm,_⟩:=hr;cases e;have a3:n=u.length:=B;subst a3;exact ⟨a,_,c,_,rfl,h.go hm,.val _ (D _ hm)⟩
 unfold DE at h;split at h
 ·rename_i t u;cases C with
  | seq _ _ _ hr=>exact .inl (hR t u x hr h)
 ·rename_i l;cases C with
  | str _ E=>exact .inr ⟨l,_,rfl,rfl,h.go E,.val _ (D l.length E)⟩
 ·rename_i es l;obtain ⟨A,f⟩:=bD h;have A:=fI A;cases hs1:Nat.beq es 1 with
  | true=>
   rw[hs1] at f;simp only[bP] at f;obtain rfl:=bM.1 hs1;rw[Sd,tV] at f;cases C with
   | lit _ n b off _ vs E B hok hr=>
    have e:l.length=n:=by rw[E.length,B];omega
    have a2:K (.val (.int .i64 (n:Int))):=by rw[<- e];exact f
    exact .inl ⟨_,_,_,_,rfl,a2,.val _ (D n (by rw[<- e];exact bA A (by simp[maxL])))⟩
  | false=>
   rw[hs1] at f;simp only[cM] at f;obtain ⟨X,f⟩:=bD f;have X:0<es:=by simpa using X
   cases C with
   | lit _ n b off _ vs E B hok hr=>
    have e:l.length=n*es:=by rw[E.length,B]
    rw[Se X l 0 n 0 _ om X,tV] at f;refine .inl ⟨_,_,_,_,rfl,f,.val _ (D n ?_)⟩;have h1:=eA n X;exact bA (bA h1 (by rw[<- e];exact A)) (by simp[maxL])
 ·cases C;exact .inl ⟨none,0,0,_,rfl,h,.val _ (D 0 (aF _))⟩
 ·split at h;case h_2=>cases h
  rename_i k m it J;cases C with
  | sft _ _ hon Y=>
   obtain ⟨E,hm,_⟩:=Ly Z J Y.1;have a5:x=G.itr.sf.head:=Y.2;exact .inl ⟨_,_,_,_,a5,h.go hm,by rw[E];exact .val _ (D _ hm)⟩
 ·rename_i W k i j z;split at h
  ·rename_i v t u e J;obtain ⟨y,f⟩:=bD h;have y:=bM.1 y;subst y;obtain ⟨Y,a4,F,o,vs,a0,a1⟩:=Z.objs W _ (bB J si);cases C with
   | part _ _ _ _ _ _ B X hkk hq=>
    obtain ⟨h1,h2,rfl⟩:=hq Y.symm;have h2:j<=(loc W).len:=h2;exact .inl ⟨_,_,_,_,rfl,f,.val _ (D _ (by have:(loc W).len<=maxL:=o;omega))⟩
  cases h
 ·rename_i W k;split at h
  ·rename_i v t u e J;obtain ⟨y,f⟩:=bD h;have y:=bM.1 y;subst y;obtain ⟨rfl,_⟩:=sH Z C J;obtain ⟨Y,a4,F,o,vs,a0,a1⟩:=Z.objs W _ (bB J si);have g:(loc W).len=u.length:=F;exact .inl ⟨_,_,_,_,rfl,f.go (by rw[<- g];exact o),by rw[g];exact .val _ (D _ (by rw[<- g];exact o))⟩
  ·rename_i v t u J;obtain ⟨y,f⟩:=bD h;have y:=bM.1 y;subst y;cases C with
   | ref _ _ _ B X hkk Y=>
    have hO:=Z.objs W _ (bB J si);have a6:ver W=v:=hO.1;have:=Y a6.symm;subst this;exact .inl (hR t u _ hO.2.2 f)
  cases h
 cases h
end
end Go.Eng
end
section
namespace Go.Eng
open Go.RowKit Go.Lib
section
variable {P:Program} {G:Ctx} {H:List HO} {loc:Nat->Loc} {ver:Nat->Nat} {w:World}
theorem gF (s:Bx):(cP s).length=s.length:=by simp[cP]
theorem Ib (s:Bx):strCells ⟨s.toArray⟩=(cP s).map fun n=>Value.int .u8 n:=by simp[strCells,cP]
theorem I4 (s:Bx)(i:Nat)(hi:i<s.length)(w':World)(ok:Nat->Prop):Reads w' ok (.int .u8) ((cP s).getD i 0) ((strCells ⟨s.toArray⟩).drop (i*1) |>.take 1):=by
 have e:((strCells ⟨s.toArray⟩).drop (i*1) |>.take 1)= [Value.int .u8 ((cP s).getD i 0)]:=by
  rw[Ib,pX];have c:i<(cP s).length:=by rw[gF];exact hi
  rw[<- List.map_drop,<- List.map_take,kH c,List.take_succ_cons,List.take_zero];simp[aB,c]
 rw[e];refine ⟨rfl,?_⟩;have f:(cP s).getD i 0=(s[i].toNat:Int):=by simp[cP,aB,hi]
 have g:=s[i].toNat_lt;show (0:Int)<=(cP s).getD i 0/\(cP s).getD i 0<=255;rw[f];omega
theorem Lr {t u ty e:TypeId}{i:TypeInfo}(X:P.underlying t=some (.slice e))(Y:P.underlying u=some .string)(hi:P.info? e=some i)(hz:i.zero=some (.int .u8 0))(o:i.size=1)(J:i.bytes=1){L:Loc}{n:Nat}{xs:List Value}(A:w.ownsR 0 e 1 L.head n xs)(s:Bx)(D:n+s.length<=140737488355328):
  ∃(Z:Loc) (w':World),(Builtin.append_ #[t,u] ty #[L.head,.string ⟨s.toArray⟩]).run P w= .ok Z.head w'/\w'.ownsR 0 e 1 Z.head (n+s.length) (xs++strCells ⟨s.toArray⟩)/\w.grownBy w' (L.blk.map (·.1))/\(∀b,Z.blk.map (·.1)=some b->L.blk.map (·.1)=some b\/w.heap.size<=b):=by
 have f:(⟨s.toArray⟩:ByteArray).size=s.length:=by simp[ByteArray.size]
 have C:xs.length=n:=by simpa using A.1
 have x:(xs++strCells ⟨s.toArray⟩).length=(n+s.length)*1:=by rw[aO,C,strCells_length,f,pX]
 have z:∀(m:Nat),m<n+s.length->∀(K:Option Nat),
   (w.drew.alloc (.cells (xs.toArray++(strCells ⟨s.toArray⟩).toArray++Builtin.zeroCells (Value.int .u8 0).cells (grownCap w (n+s.length) m e-(n+s.length))) e)).ownsR 0 e 1 (Core.head (zT (some (w.heap.size,0)) (n+s.length) (grownCap w (n+s.length) m e)).toCore) (n+s.length) (xs++strCells ⟨s.toArray⟩)/\
   w.grownBy (w.drew.alloc (.cells (xs.toArray++(strCells ⟨s.toArray⟩).toArray++Builtin.zeroCells (Value.int .u8 0).cells (grownCap w (n+s.length) m e-(n+s.length))) e)) K:=by
  intro m ho K;have a2:=grownCap_ge w (n+s.length) m e;have a1:grownCap w (n+s.length) m e<=maxLen:=grownCap_le_maxLen w (n+s.length) m e (by simp[maxLen];omega);refine ⟨⟨x,.inr ⟨w.heap.size,_,_,rfl,aF _,mT w.drew _,a2,a1,?_,?_⟩⟩,⟨rfl,rfl,rfl,si,fun k hk _=>Below.heap_alloc w.drew _ k hk⟩⟩
  ·have a4:(Value.int IntKind.u8 0).cells.size=1:=rfl;simp only[vN,gY,size_zeroCells,a4,C,strCells_length,f];omega
  simp only[Array.toList_append,bW];rw[<- bW,<- x];exact List.take_left
 rcases cW A with ⟨e1,e2,e3,e4⟩ | ⟨g,cur,e1,e2,e3,e4,e5,e6,e7⟩
 ·have hx:xs= []:=cK (by rw[C,e4]);subst hx e4;have c:L.head= .slice none 0 0:=by simp[Core.head,e1,e2,e3]
  by_cases hm:s.length=0
  ·have hs:s= []:=cK hm;subst hs;refine ⟨L,w,?_,by simpa [strCells] using A,⟨rfl,rfl,rfl,aI _,fun _ _ _=>rfl⟩,fun b D=>.inl D⟩;have hf:=run_firstCells_string (P:=P) w 1 ⟨#[]⟩;have h0:(⟨#[]⟩:ByteArray).size=0:=rfl;rw[h0] at hf;rw[c];simp[Builtin.append_,run_underlying X,run_underlying Y,sizeOf,typeInfo,hi,o,Builtin.lenOf,h0,hf]
  have E:=run_append_nil_string (P:=P) w t u ty e i (.int .u8 0) X Y hi hz ⟨s.toArray⟩ om om (by rw[J];omega);have y:=z 0 om (L.blk.map (·.1));simp only[eS,jI,Array.empty_append] at y ⊢;have a0:((⟨s.toArray⟩:ByteArray).data.map fun b=>Value.int .u8 b.toNat)=(strCells ⟨s.toArray⟩).toArray:=by
   apply fJ;simp[strCells]
  rw[a0,f] at E;refine ⟨zT (some (w.heap.size,0)) s.length (grownCap w s.length 0 e),_,?_,y.1,y.2,fun b D=>.inr (by simp at D;omega)⟩;rw[c];simpa [Core.head] using E
 have c:L.head= .slice (some ⟨g,0,none⟩) n L.cap:=by simp[Core.head,e1,e2]
 have a5:L.cap<=cur.size:=by simpa using e6
 by_cases B:n+s.length<=L.cap
 ·have E:=run_append_room_string (P:=P) w t u ty e i X Y hi o g n L.cap cur e3 ⟨s.toArray⟩ (by rw[f];exact B) (by rw[f];omega);rw[f] at E;refine ⟨zT (some (g,0)) (n+s.length) L.cap,_,by rw[c];exact E,⟨x,.inr ⟨g,L.cap,_,rfl,aF _,setRow_heap w g cur _ e _ e3,B,e5,?_,?_⟩⟩,⟨rfl,rfl,rfl,si,fun k _ hk=>setRow_other w g k _ (fun e=>hk (by simp[e1,e]))⟩,fun b D=>.inl (by simpa [e1] using D)⟩
  ·simp only[gY,aO,aW,bT,jM,strCells_length,f];omega
  have a3:cur.toList.take n=xs:=by simpa using e7
  rw[a3,<- x];exact List.take_left
 have F:∀j u,xs[j]? =some u->w.cell? ((⟨g,0,none⟩:Addr).add j)=some u:=by
  intro j u W;rw[Addr.add_mid];rw[<- e7,aL] at W;split at W
  ·simp only[World.cell?,e3];simpa using W
  cases W
 have E:=run_append_grow_string (P:=P) w t u ty e i (.int .u8 0) X Y hi hz ⟨g,0,none⟩ n L.cap xs (by rw[o];simpa using C) F ⟨s.toArray⟩ (by rw[f];omega) (by rw[f];omega) (by rw[J,f];exact growslice_fits om om);rw[f] at E;have y:=z L.cap om (L.blk.map (·.1));exact ⟨(zT (some (w.heap.size,0)) (n+s.length) (_)),_,by rw[c];exact E,y.1,y.2,fun b D=>.inr (by simp at D;omega)⟩
theorem Pg (Z:Inv G H loc ver w){t u ty:TypeId}{s x:SV}{p q:Value}{K:SV->List HO->Prop}(h:Sl P t u H s x K)(hs:Rel (envOf G H loc ver w) s p)(hx:Rel (envOf G H loc ver w) x q):
  ∃v w',(Builtin.append_ #[t,u] ty #[p,q]).run P w= .ok v w'/\Res G (envOf G H loc ver w) K v w':=by
 unfold Sl at h;split at h;case h_2=>cases h
 rename_i y k A hu;split at h;case h_2=>cases h
 rename_i e he;have ht:=fS he;split at h;case h_2=>cases h
 rename_i i j xs e' hi ho;obtain ⟨B,hm⟩:=bD h;clear h;simp only[aG,bM] at B;obtain ⟨⟨⟨⟨a5,a2⟩,a0⟩,a1⟩,C⟩:=B;subst a5 a2;have hz:i.zero=some (.int .u8 0):=by
  split at C
  ·rename_i h0;rw[h0];have:=fM C;rw[this]
  cases C
 obtain ⟨hn,E⟩:=hm;rw[cD] at E;obtain ⟨hp,a6⟩:=sH Z hs ho;subst hp;cases hx with
 | str _ hl=>
 have z:=bB ho si;obtain ⟨hv,a9,F,a8,vs,J,a3⟩:=Z.objs y _ z;have D:(loc y).len=length (α:=Int) xs:=F;have m:w.ownsR 0 e 1 (loc y).head (length (α:=Int) xs) vs:=by rw[<- D];exact J
 obtain ⟨L',w',hr,o,hg,a4⟩:=Lr (P:=P) (w:=w) (t:=t) (u:=u) (ty:=ty) ht hu hi hz a0 a1 m A hn;obtain ⟨h1,h2,h3,h4,h5⟩:=hg;have Y:L'.len=length (α:=Int) xs+A.length:=by
  rcases cW o with ⟨_,_,e3,e4⟩ | ⟨g,cur,_,e2,_⟩<;>omega
 have a':ver y=j:=hv;have c:(Eng.cA H y (.vec (j+1) (.int .u8) (List.append (α:=Int) xs (cP A)) e))[y]? =some (.vec (j+1) (.int .u8) (List.append (α:=Int) xs (cP A)) e):=aP a6;have W:=Z.turn (w':=w') (H':=cA H y (.vec (j+1) (.int .u8) (List.append (α:=Int) xs (cP A)) e)) (loc':=sV loc y L') (ver':=sV ver y (j+1)) y (by simp[Eng.cA]) (fun k E=>⟨bS E,dJ _ _ _ E,dJ _ _ _ E⟩)
  (fun _=>eJ c rfl) (fun _=>.inr ⟨om,by rw[bF];omega⟩) h4 h1 h2 h3 (by rw[z];intro h;cases h) (fun _=>by rw[c];intro h;cases h) (fun st n it b h=>by rw[c] at h;cases h) (fun b B a7=>h5 b B (by
   intro e
   exact a7 _ z (by simp only[Owns];exact e.symm)))
  (by
   intro o' b f B;rw[c] at f;cases f;rw[bF] at B;rcases a4 b B with h | h
   ·exact .inl ⟨_,z,h⟩
   exact .inr h)
  (by
   intro X o' f;rw[c] at f;cases f;rw[bF,bF];refine ⟨rfl,iP _,by rw[Y];simp[gF],by rw[Y];exact hn,vs++strCells ⟨A.toArray⟩,by rw[Y];exact o,fun i hi=>?_⟩;rw[Y] at hi
   exact qE (t:=.int .u8) (ok':=fun _=>True) (xs:=xs) (ys:=cP A) m.1 (fun i hi=>(a3 i (by show i<(loc y).len;omega)).mono X.cell X.ok) (by rw[Ib];simp[Ty.size]) (fun i hi=>I4 A i (by rw[<- gF];exact hi) _ _) i (by rw[gF];exact hi))
 refine ⟨_,_,hr,_,_,_,_,E,W.1,?_,W.2⟩;refine .ref _ _ _ (by exact eJ c rfl) (iP _) (by simp[envOf,bF]) fun _=>?_;simp[envOf,bF]
end
end Go.Eng
end
section
namespace Go.Eng
open Go.RowKit
mutual
theorem Rel.bare {E E':Env}(m:KeepC E E')(u:∀b,E.ok b->E'.ok b){s:SV}{v:Value}(h:Rel E s v)(g:Eng.bare s=true):Rel E' s v:=by
 cases h with
 | any=>exact .any v
 | val _ h=>exact .val v h
 | bl p d=>exact .bl p d
 | str s h=>exact .str s h
 | seq t xs _ h=>exact .seq t xs v (h.mono m.cell u)
 | lit es n b off l vs hl hn hok hr=>exact .lit es n b off l vs (hl.bare m u (by simpa [Eng.bare] using g)) hn (u _ hok) (fun j v x=>m.cell _ v hok (hr j v x))
 | elem t xs i o b off es hi hok hr h=>exact .elem t xs i o b off es hi (u _ hok) (fun j v x=>m.cell _ v hok (hr j v x)) (h.mono m.cell u)
 | lelem l i b off vs hl hok hr=>exact .lelem l i b off vs (hl.bare m u (by simpa [Eng.bare] using g)) (u _ hok) (fun j v x=>m.cell _ v hok (hr j v x))
 | ptr=>simp[Eng.bare] at g
 | ref=>simp[Eng.bare] at g
 | vptr=>simp[Eng.bare] at g
 | wide=>simp[Eng.bare] at g
 | agg l vs hl=>exact .agg l vs (hl.bare m u (by simpa [Eng.bare] using g))
 | tup l vs hl=>exact .tup l vs (hl.bare m u (by simpa [Eng.bare] using g))
 | clo f a b va vb ha hb'=>
  simp only[Eng.bare,aG] at g;exact .clo f a b va vb (ha.bare m u g.1) (hb'.bare m u g.2)
 | yld=>simp[Eng.bare] at g
 | sft=>simp[Eng.bare] at g
 | mp=>simp[Eng.bare] at g
 | sub=>simp[Eng.bare] at g
 | subp=>simp[Eng.bare] at g
 | part=>simp[Eng.bare] at g
 | lim=>simp[Eng.bare] at g
 | ifc _ h=>exact .ifc v h
 | num k n h=>exact .num k n h
 | wcel n b e hw hok hr=>exact .wcel n b e hw (u _ hok) (m _ _ hok hr rfl)
 | fmp ks l b c es hok hb' hk' hl=>exact .fmp ks l b c es (u _ hok) (m _ _ hok hb' rfl) hk' (hl.bare m u (by simpa [Eng.bare] using g))
theorem RelL.bare {E E':Env}(e:KeepC E E')(f:∀b,E.ok b->E'.ok b){l:List SV}{vs:List Value}(h:RelL E l vs)(c:Eng.bare.bareL l=true):RelL E' l vs:=by
 cases h with
 | nil=>exact .nil
 | cons s v l vs h hl=>
  simp only[Eng.bare.bareL,aG] at c;exact .cons s v l vs (h.bare e f c.1) (hl.bare e f c.2)
end
def xO (P:Program)(f:FuncId):Prop:=∀args w,(callFunc f args).run P w= .ok (.enter f args) w
def iD (w:World)(ok:Nat->Prop):Env:=⟨w,ok,fun _=>false,fun _=>zT none 0 0,fun _=>0,fun _ _=>False,fun _=>False,OA⟩
def gnames:List String:=["internal/strconv.uint64pow10","strconv.ErrRange","strconv.ErrSyntax"]
structure GV (n:String) (cs:Array Value):Prop where
 pow:n= "internal/strconv.uint64pow10" →cs=(((List.range 20).map fun i=>((10^i:Nat):Int)).map fun z=>Value.int .u64 z).toArray
 err:n= "strconv.ErrRange" ∨n= "strconv.ErrSyntax" →∃tp p,cs= #[.iface tp p]
def GW (P:Program)(ok:Nat->Prop)(w:World):Prop:=∀n∈gnames,∀g,P.globalNamed n=some g->ok g/\∃cs e f,w.heap[g]? =some (.cells cs e f)/\GV n cs
theorem GW.move {P:Program}{ok ok':Nat->Prop}{w w':World}(h:GW P ok w)(x:∀b,ok b->b<w.heap.size->ok' b)(s:∀b,ok b->w'.heap[b]? =w.heap[b]?):GW P ok' w':=fun n y g u=>by
 obtain ⟨c,cs,e,f,m,o⟩:=h n y g u;exact ⟨x g c (aH.1 m).1,cs,e,f,(s g c).trans m,o⟩
theorem GW.var {P:Program}{ok:Nat->Prop}{w:World}(h:GW P ok w){n:String}(s:n∈gnames){g:Nat}(c:P.globalNamed n=some g):∃cs,w.var? P n=some cs/\GV n cs:=by
 obtain ⟨_,cs,e,f,m,o⟩:=h n s g c;exact ⟨cs,by simp only[World.var?,c,oD,m],o⟩
def Tri (P:Program)(fresh:Bool)(f:FuncId)(args:List SV)(r:SV):Prop:=
 ∀(ok:Nat->Prop) (w:World) (vs:List Value),GW P ok w->(∀b,ok b->b<w.heap.size)->RelL (iD w ok) args vs->
  Calls P f ⟨vs⟩ w fun e w'=>∃v,e= .returned v/\Below w.heap.size w w'/\Rel (iD w' fun b=>(fresh=false/\ok b)\/(w.heap.size<=b/\b<w'.heap.size)) r v
structure Kept (S:Nat->Prop) (w w':World):Prop where
 os:w'.os=w.os
 tape:w'.tape=w.tape
 output:w'.output=w.output
 size:w.heap.size<=w'.heap.size
 blk:∀b,S b->b<w.heap.size->w'.heap[b]? =w.heap[b]?
def QR (w:World)(ok:Nat->Prop)(soft:Bool)(sf:Core)(args:List SV)(vs:List Value):Prop:=
 match soft with
 | false=>RelL (iD w ok) args vs
 | true=>args= [.lelem [.sft none] 0]/\∃c o,ok c/\w.cell? ⟨c,o,none⟩=some sf.head/\vs= [.pointer (some ⟨c,o,none⟩)]
def I7 (P:Program)(f:FuncId)(args:List SV)(n:Nat)(items:Nat->List SV):Prop:=
 ∀(ok:Nat->Prop) (w:World) (vs:List Value) (l:Nat) (J:Option Nat->(Nat->Prop)->World->Prop) (soft:Bool) (sf:Core),GW P ok w->(∀b,ok b->b<w.heap.size)->QR w ok soft sf args vs->(soft=true->∀k M W,J (some k) M W->softC n sf W)->
  (∀st M W W',J st M W->W'.os=W.os->W'.tape=W.tape->W'.output=W.output->W.heap.size<=W'.heap.size->
   (∀b,b<W.heap.size->¬M b->W'.heap[b]? =W.heap[b]?)->J st (fun b=>M b\/(W.heap.size<=b/\b<W'.heap.size)) W')->
  (∀k M W us,k<n->J (some k) M W->RelL (iD W M) (items k) us->
   YieldAt Fence.wide 0 P l ⟨us⟩ W fun e W'=>∃b,e= .returned (.bool b)/\J (if b=true then some (k+1) else none) M W'/\Kept (fun c=>ok c\/M c) W W')->
  J (some 0) (fun _=>False) w->
  Calls P f ⟨.func (.yield l) #[] #[]::vs⟩ w fun e w'=>(∃v,e= .returned v)/\∃M,J (some n) M w'\/J none M w'
def Tris (P:Program)(fresh:Bool)(f:FuncId)(args:List SV)(r:SV):Prop:=
 match r with
 | .itr n items=>I7 P f args n items
 | r=>Tri P fresh f args r
def F6 (w:World)(ok:Nat->Prop)(L:Loc)(t:Ty)(xs:List t.T)(e:TypeId):Prop:=
 L.len=length (α:=t.T) xs/\L.len<=maxL/\∃vs,w.ownsR 0 e t.size L.head L.len vs/\∀i,i<L.len->Reads w ok t (getD (α:=t.T) xs i t.dflt) ((vs.drop (i*t.size)).take t.size)
def S3 (P:Program)(f:FuncId)(pos:Nat)(same:Bool)(args:List SV)(t:Ty)(xs:List t.T)(e:TypeId)(r:SV)(ys:List t.T):Prop:=
 ∀(ok:Nat->Prop) (w:World) (vs:List Value) (L:Loc),GW P ok w->(∀b,ok b->b<w.heap.size/\L.blk.map (·.1)≠some b)->(∀b,L.blk.map (·.1)=some b->b<w.heap.size)->F6 w ok L t xs e->RelL (iD w ok) args vs->vs[pos]? =some L.head->
  Calls P f ⟨vs⟩ w fun en w'=>∃v L',en= .returned v/\(w'.os=w.os/\w'.tape=w.tape/\w'.output=w.output/\w.heap.size<=w'.heap.size/\∀b,b<w.heap.size->L.blk.map (·.1)≠some b->w'.heap[b]? =w.heap[b]?)/\
   (same=true->L'=L)/\(∀b,L'.blk.map (·.1)=some b->L.blk.map (·.1)=some b\/w.heap.size<=b)/\F6 w' (fun b=>(ok b\/L.blk.map (·.1)=some b\/w.heap.size<=b)/\b<w'.heap.size/\L'.blk.map (·.1)≠some b) L' t ys e/\((r= .ref 0 1/\v=L'.head)\/(plain r=true/\Rel (iD w' fun _=>False) r v))
def D1 (P:Program)(f:FuncId)(pos:Nat)(same:Bool)(cl:List SV->HO->(SV->HO->Prop)->Prop):Prop:=
 ∀args t xs e K,true=true->cl args (.vec 1 t xs e) K->∃r ys,K r (.vec 1 t ys e)/\S3 P f pos same args t xs e r ys
def Pq (w:World)(L:Loc):Env:=⟨w,fun _=>False,fun n=>Nat.beq n 0,fun _=>L,fun _=>1,fun _ _=>False,fun _=>False,OA⟩
def S4 (P:Program)(f:FuncId)(args:List SV)(r:SV)(t:Ty)(ys:List t.T)(e:TypeId):Prop:=
 ∀(ok:Nat->Prop) (w:World) (vs:List Value),GW P ok w->(∀b,ok b->b<w.heap.size)->RelL (iD w ok) args vs->
  Calls P f ⟨vs⟩ w fun en w'=>∃v L',en= .returned v/\Below w.heap.size w w'/\(∀b,L'.blk.map (·.1)=some b->w.heap.size<=b)/\F6 w' (fun b=>(ok b\/w.heap.size<=b)/\b<w'.heap.size/\L'.blk.map (·.1)≠some b) L' t ys e/\Rel (Pq w' L') r v
def I8 (P:Program)(f:FuncId)(cl:List SV->(SV->HO->Prop)->Prop):Prop:=
 ∀args K,cl args K->∃r k t ys e,K r (.vec k t ys e)/\(true=true->S4 P f args r t ys e)
def YOK (P:Program)(t:Itr):Prop:=∀k M W us,k<t.n->t.J (some k) M W->RelL (iD W M) (t.items k) us->
 YieldAt Fence.wide 0 P t.l ⟨us⟩ W fun e W'=>∃b,e= .returned (.bool b)/\t.J (if b=true then some (k+1) else none) M W'/\Kept (fun c=>t.ok c\/M c) W W'
def COK (P:Program)(G:Ctx):Prop:=YOK P G.itr/\GW P G.ok0 G.w0
theorem COK.now {P:Program}{G:Ctx}{H:List HO}{loc:Nat->Loc}{ver:Nat->Nat}{w:World}(h:COK P G)(e:Inv G H loc ver w):GW P (qW G H loc w) w:=
 h.2.move (fun b c f=>⟨.inl c,bE f e.size,fun m=>by
  rcases e.own b m with g | g
  ·exact G.apart b c g
  omega⟩) fun b c=>e.frame b (G.below b c) (G.apart b c)
def F7 (P:Program)(f:FuncId)(args:List SV)(H:List HO)(R:SV->List HO->Prop):Prop:=
 ∀(G:Ctx) (loc:Nat->Loc) (ver:Nat->Nat) (w:World) (vs:List Value),COK P G->Inv G H loc ver w->RelL (envOf G H loc ver w) args vs->
  Calls P f ⟨vs⟩ w fun e w'=>∃v,e= .returned v/\Res G (envOf G H loc ver w) R v w'
def VM (P:Program)(f:FuncId)(cl:List SV->List HO->(SV->List HO->Prop)->Prop):Prop:=
 ∀args H K,cl args H K->∃R,(∀s H',R s H'->K s H')/\F7 P f args H R
def aM (P:Program)(c:Con):Prop:=xO P c.f/\(∀args K,c.cl args K->∃r,K r/\Tris P c.fresh c.f args r)/\(∀pos same cl,c.lin=some (pos,same,cl)->D1 P c.f pos same cl)/\(∀cl,c.own=some cl->I8 P c.f cl)/\∀cl,c.hp=some cl->VM P c.f cl
theorem Xp {P:Program}{c:Con}(g:(c.lin,c.own,c.hp)=(none,none,none))(m:xO P c.f)(h:∀args K,c.cl args K->∃r,K r/\Tris P c.fresh c.f args r):aM P c:=
 ⟨m,h,(fun _ _ _ e=>by rw[(vO g).1] at e;cases e),(fun _ e=>by rw[(vO (vO g).2).1] at e;cases e),(fun _ e=>by rw[(vO (vO g).2).2] at e;cases e)⟩
theorem mK {P:Program}{f:FuncId}{g:Nat}{c:Bool}{m:List SV->HO->(SV->HO->Prop)->Prop}(n:xO P f)(h:D1 P f g c m):aM P (rB f g c m):=
 ⟨n,fun _ _ h=>h.elim,(fun _ _ _ e=>by cases e;exact h),(fun _ e=>by cases e),(fun _ e=>by cases e)⟩
theorem I9 {P:Program}{f:FuncId}{fresh:Bool}{m:Nat}{c:Bool}{g:List SV->HO->(SV->HO->Prop)->Prop}{n:List SV->(SV->Prop)->Prop}(s:xO P f)(h:D1 P f m c g)(o:∀args K,n args K->∃r,K r/\Tris P fresh f args r):aM P (H7 f fresh m c g n):=
 ⟨s,o,(fun _ _ _ e=>by cases e;exact h),(fun _ e=>by cases e),(fun _ e=>by cases e)⟩
theorem nJ {P:Program}{f:FuncId}{c:List SV->(SV->HO->Prop)->Prop}(g:xO P f)(h:I8 P f c):aM P (sU f c):=
 ⟨g,fun _ _ h=>h.elim,(fun _ _ _ e=>by cases e),(fun _ e=>by cases e;exact h),(fun _ e=>by cases e)⟩
theorem Bo {P:Program}{f:FuncId}{c:List SV->List HO->(SV->List HO->Prop)->Prop}(g:xO P f)(h:VM P f c):aM P (Kx f c):=
 ⟨g,fun _ _ h=>h.elim,(fun _ _ _ e=>by cases e),(fun _ e=>by cases e),(fun _ e=>by cases e;exact h)⟩
theorem Tris.tri {P:Program}{fresh:Bool}{f:FuncId}{args:List SV}{r:SV}(h:Tris P fresh f args r)(c:Eng.bare r=true):Tri P fresh f args r:=by
 cases r with
 | itr n i=>simp[Eng.bare] at c
 | _=>exact h
section
variable {P:Program} {G:Ctx} {H:List HO} {loc:Nat->Loc} {ver:Nat->Nat} {w:World}
def OH (G:Ctx)(H:List HO)(loc:Nat->Loc)(ver:Nat->Nat)(w:World):Env:=⟨w,fun b=>b<w.heap.size,lE H,loc,ver,BL H loc,Jl H loc,G.itr⟩
theorem Ev:Ext (envOf G H loc ver w) (OH G H loc ver w):=⟨⟨fun _ _=>rfl,fun _ h=>h.2.1,fun _ h=>h,fun _ _=>.inl ⟨rfl,rfl⟩,rfl,rfl,rfl,aI _,fun _ h=>.inl h,rfl,fun _ _ _=>.inl rfl⟩,fun _ _ _ h _=>h,fun _ _ h=>⟨h,rfl⟩,fun _ _ _ h=>h⟩
theorem Bp {E:Env}{ok:Nat->Prop}{L:Loc}{v k:Nat}{t:Ty}{xs:List t.T}{e:TypeId}(h:OSat E L v (.vec k t xs e))(x:∀b,E.ok b->ok b)(u:∀b,L.blk.map (·.1)=some b->ok b):Reads E.w ok (.slice t) xs [L.head]:=by
 obtain ⟨_,_,m,n,vs,o,f⟩:=h;rcases cW o with ⟨e1,e2,e3,e4⟩ | ⟨g,cur,e1,e2,e3,e4,e5,e6,s⟩
 ·exact ⟨none,0,0,by simp[Core.head,e1,e2,e3],om,aI _,aF _,fun h=>absurd h (iQ _)⟩
 refine ⟨some ⟨g,0,none⟩,L.len,L.cap,by simp[Core.head,e1],m,e4,n,fun y=>⟨g,0,rfl,u g (by simp[e1]),fun i hi=>⟨_,(f i hi).length,?_,(f i hi).mono (fun _ _ _ h=>h) x⟩⟩⟩;intro j v c;rw[aL] at c;split at c
 ·rw[aX,<- s,aL] at c;split at c
  ·simp only[World.cell?,e3];simpa using c
  cases c
 cases c
theorem jR (m:Inv G H loc ver w){nm k:Nat}{v:Value}(h:Rel (envOf G H loc ver w) (.ref nm k) v):Rel (OH G H loc ver w) (eU true H (.ref nm k)) v:=by
 have n:=h;simp only[eU];cases h with
 | ref _ _ _ hn hk0 hk hv=>
  cases ho:bX H nm with
  | vec j t xs e=>
   simp only[mW];cases c:Nat.beq j k with
   | false=>exact .any v
   | true=>
    obtain rfl:=bM.1 c;have f:=m.objs nm _ (bB ho si);have:=hv f.1.symm;subst this;have g:=Bp (E:=envOf G H loc ver w) (ok:=fun b=>b<w.heap.size) f (fun b c=>c.2.1) fun b c=>f.block (b:=b) c;exact .seq t xs _ g
  | fro j t xs=>
   simp only;cases c:Nat.beq j k with
   | false=>exact .any v
   | true=>
    obtain rfl:=bM.1 c;have f:=m.objs nm _ (bB ho si);have:=hv f.1.symm;subst this;exact .seq t xs _ (f.2.2.mono (fun _ _ _ h=>h) fun b c=>c.2.1)
  | _=>exact .any v
theorem lZ (f:Inv G H loc ver w){nm k:Nat}{v:Value}(h:Rel (envOf G H loc ver w) (.ref nm k) v):Rel (envOf G H loc ver w) (eU false H (.ref nm k)) v:=by
 simp only[eU];cases h with
 | ref _ _ _ hn hk0 hk hv=>
  cases ho:bX H nm with
  | vec j t xs e=>exact .any v
  | fro j t xs=>
   simp only;cases hb:Nat.beq j k with
   | false=>exact .any v
   | true=>
    obtain rfl:=bM.1 hb;have c:=f.objs nm _ (bB ho si);have:=hv c.1.symm;subst this;exact .seq t xs _ c.2.2
  | _=>exact .any v
theorem mU {E:Env}(nm k i:Nat)(v:Value):Rel E (eU false H (.subp nm k i)) v:=by
 simp only[eU];split<;>exact .any v
theorem nK (o:Inv G H loc ver w){E':Env}(u:E'.w=w){H2:List HO}{nm k i:Nat}{v:Value}(h:Rel (envOf G H loc ver w) (.subp nm k i) v)(c:bX H2 nm=bX H nm\/bX H2 nm= .dead)(s:∀b k t xs,bX H nm= .lnt k t xs->Owns (loc nm) (.lnt k t xs) b->E'.ok b):Rel E' (eU true H2 (.subp nm k i)) v:=by
 simp only[eU];rcases c with c | c
 ·rw[c];split
  ·rename_i j t xs g;cases hc:(true&&(t.flat&&(Nat.beq j k&&Nat.beq i 0))) with
   | false=>exact .any v
   | true=>
    simp only[mW,aG] at hc;obtain ⟨_,m,n⟩:=hc;have e1:j=k:=by simpa using m
    have e2:i=0:=by simpa using n
    subst e1;subst e2;obtain ⟨x,A,y,B,z⟩:=o.objs nm _ (bB g si);cases h with
    | subp _ _ _ _ hn h0 hk hs' f=>
     have:=f x.symm y.symm;subst this;exact .seq t xs _ (z.mono (fun a v _ f=>by rw[u];exact f) fun b e=>s b _ t xs g e)
  exact .any v
 rw[c];exact .any v
theorem F8 {E E':Env}(x:Ext E E')(c:∀nm k v,Rel E (.ref nm k) v->Rel E' (eU true H (.ref nm k)) v){s:SV}{v:Value}(h:Rel E s v):Rel E' (DA H s) v:=by
 cases s with
 | ref nm k=>
  have:=c nm k v h;simp only[eU,mW] at this;exact this
 | _=>exact h.ext x
theorem Mg {E E':Env}(x:Ext E E')(c:∀nm k v,Rel E (.ref nm k) v->Rel E' (eU true H (.ref nm k)) v):∀ {l:List SV} {vs:List Value},RelL E l vs->RelL E' (l.map (DA H)) vs
 | _,_,.nil=>.nil
 | _,_,.cons _ _ _ _ h hl=>.cons _ _ _ _ (F8 x c h) (Mg x c hl)
theorem rY (B:Inv G H loc ver w){E':Env}(x:Ext (envOf G H loc ver w) E')(W:E'.w=w){H2:List HO}{nm off:Nat}{v:Value}(h:Rel (envOf G H loc ver w) (.ptr nm off) v)(K:bX H2 nm=bX H nm)(D:∀b l e,bX H nm= .cells l e->(loc nm).blk.map (·.1)=some b->E'.ok b)(A:∀nm k v,Rel (envOf G H loc ver w) (.ref nm k) v->Rel E' (eU true H2 (.ref nm k)) v):Rel E' (eU true H2 (.ptr nm off)) v:=by
 simp only[eU,K];split
 ·rename_i l g;obtain ⟨n,b,vs,X,f,o,y,C⟩:=B.objs nm _ (bB g si);cases h with
  | ptr _ _ _ hn A=>
   obtain ⟨m,z,rfl⟩:=A n;have c:(loc nm).blk=some (m,0):=z;rw[f] at c;cases c;exact (Xb C o y).ext x
 ·rename_i l e g;simp only[bP];obtain ⟨n,b,vs,f,o,y⟩:=B.objs nm _ (bB g si);cases h with
  | ptr _ _ _ hn hvp=>
   obtain ⟨m,z,rfl⟩:=hvp n;have c:(loc nm).blk=some (m,0):=z;rw[f] at c;cases c;have J:E'.w.rangeAt b 0 vs:=by
    intro j u F;rw[W];have s:w.heap[b]? =some (.cells ⟨vs⟩ e (0,0)):=o;simp only[World.cell?,s];simpa using F
   have:=Rel.lelem (E:=E') (l.map (DA H2)) off b 0 vs (Mg x A y) (D b l e g (by rw[f];rfl)) J;rwa [eS] at this
 exact h.ext x
theorem wO (u:Inv G H loc ver w){nm off:Nat}{v:Value}(h:Rel (envOf G H loc ver w) (.ptr nm off) v):Rel (envOf G H loc ver w) (eU false H (.ptr nm off)) v:=by
 simp only[eU];split
 ·rename_i l x;obtain ⟨f,b,vs,y,g,m,n,o⟩:=u.objs nm _ (bB x si);cases h with
  | ptr _ _ _ hn hv=>
   obtain ⟨e,s,rfl⟩:=hv f;have c:(loc nm).blk=some (e,0):=s;rw[g] at c;cases c;exact Xb o m n
 ·exact h
 exact h
theorem rZ (B:Inv G H loc ver w){E':Env}(x:Ext (envOf G H loc ver w) E'){lend:Bool}{H2:List HO}{nm:Nat}{v:Value}(f:bX H2 nm=bX H nm\/bX H2 nm= .dead)(h:Rel (envOf G H loc ver w) (.mp nm) v):Rel E' (eU lend H2 (.mp nm)) v:=by
 simp only[eU];rcases f with f | f
 ·rw[f];split
  ·rename_i E l D;obtain ⟨n,C,b,m,c,o,s,u,y,z⟩:=B.objs nm _ (bB D si);cases h with
   | mp _ _ hn hv=>
    obtain ⟨g,A,rfl⟩:=hv n;have e:(loc nm).blk=some (g,0):=A;rw[o] at e;cases e;exact (Rel.fmp E l b c m s u y z).ext x
  exact h.ext x
 rw[f];exact h.ext x
theorem Ew {E E':Env}{lend:Bool}(x:Ext E E')(e:∀nm k v,Rel E (.ptr nm k) v->Rel E' (eU lend H (.ptr nm k)) v)(g:∀nm k v,Rel E (.ref nm k) v->Rel E' (eU lend H (.ref nm k)) v)(f:∀nm k i v,Rel E (.subp nm k i) v->Rel E' (eU lend H (.subp nm k i)) v)(c:∀nm v,Rel E (.mp nm) v->Rel E' (eU lend H (.mp nm)) v){s:SV}{v:Value}(h:Rel E s v):Rel E' (eU lend H s) v:=by
 cases s with
 | ref nm k=>exact g nm k v h
 | ptr nm k=>exact e nm k v h
 | subp nm k i=>exact f nm k i v h
 | mp nm=>exact c nm v h
 | _=>exact h.ext x
theorem pH {E E':Env}{lend:Bool}(x:Ext E E')(e:∀nm k v,Rel E (.ptr nm k) v->Rel E' (eU lend H (.ptr nm k)) v)(g:∀nm k v,Rel E (.ref nm k) v->Rel E' (eU lend H (.ref nm k)) v)(f:∀nm k i v,Rel E (.subp nm k i) v->Rel E' (eU lend H (.subp nm k i)) v)(c:∀nm v,Rel E (.mp nm) v->Rel E' (eU lend H (.mp nm)) v):∀ {l:List SV} {vs:List Value},RelL E l vs->RelL E' (l.map (eU lend H)) vs
 | _,_,.nil=>.nil
 | _,_,.cons _ _ _ _ h hl=>.cons _ _ _ _ (Ew x e g f c h) (pH x e g f c hl)
theorem Ql {E E':Env}{lend:Bool}(x:Ext E E')(e:∀nm k v,Rel E (.ptr nm k) v->Rel E' (eU lend H (.ptr nm k)) v)(g:∀nm k v,Rel E (.ref nm k) v->Rel E' (eU lend H (.ref nm k)) v)(f:∀nm k i v,Rel E (.subp nm k i) v->Rel E' (eU lend H (.subp nm k i)) v)(c:∀nm v,Rel E (.mp nm) v->Rel E' (eU lend H (.mp nm)) v):∀ {l:List SV} {vs:List Value},RelL E l vs->
  RelL E' (l.map fun s=>match s with
   | .agg l=>.agg (l.map (eU lend H))
   | s=>eU lend H s) vs
 | _,_,.nil=>.nil
 | _,_,.cons s v l vs h hl=>by
  refine .cons _ _ _ _ ?_ (Ql x e g f c hl);cases s with
  | agg l=>cases h with
   | agg _ vs hl=>exact .agg _ _ (pH x e g f c hl)
  | _=>exact Ew x e g f c h
theorem Qm {E E':Env}{lend:Bool}(x:Ext E E')(u:∀nm k v,Rel E (.ptr nm k) v->Rel E' (eU lend H (.ptr nm k)) v)(g:∀nm k v,Rel E (.ref nm k) v->Rel E' (eU lend H (.ref nm k)) v)(y:∀nm k i v,Rel E (.subp nm k i) v->Rel E' (eU lend H (.subp nm k i)) v)(m:∀nm v,Rel E (.mp nm) v->Rel E' (eU lend H (.mp nm)) v){s:SV}{v:Value}(h:Rel E s v):Rel E' (yP lend H s) v:=by
 cases h with
 | ref nm k v hn h0 hk h=>exact g nm k v (.ref nm k v hn h0 hk h)
 | ptr nm off v hn h=>exact u nm off v (.ptr nm off v hn h)
 | agg l vs hl=>exact .agg _ _ (pH x u g y m hl)
 | tup l vs hl=>exact .tup _ _ (Ql x u g y m hl)
 | any=>exact .any v
 | val _ h=>exact .val v h
 | bl p d=>exact .bl p d
 | str s h=>exact .str s h
 | seq t xs v h=>exact (Rel.seq t xs v h).ext x
 | lit es n b off l vs hl hn hok hr=>exact (Rel.lit es n b off l vs hl hn hok hr).ext x
 | elem t xs i o b off es hi hok hr h=>exact (Rel.elem t xs i o b off es hi hok hr h).ext x
 | lelem l i b off vs hl hok hr=>exact (Rel.lelem l i b off vs hl hok hr).ext x
 | wcel n b e hw hok hr=>exact (Rel.wcel n b e hw hok hr).ext x
 | fmp ks l b c es hok hb hk hl=>exact (Rel.fmp ks l b c es hok hb hk hl).ext x
 | vptr nm k i z o v hn h0 hk h=>exact (Rel.vptr nm k i z o v hn h0 hk h).ext x
 | wide nm k v hn h0 hk h=>exact (Rel.wide nm k v hn h0 hk h).ext x
 | clo f a b va vb ha hb=>exact .clo f _ _ _ _ (pH x u g y m ha) (pH x u g y m hb)
 | yld l h=>rw[<- x.itr] at h ⊢;exact .yld l h
 | sft i _ h g=>exact (Rel.sft i v h g).ext x
 | mp nm v hn h=>exact m nm v (.mp nm v hn h)
 | sub nm k s i v hn h0 hk hs h=>exact (Rel.sub nm k s i v hn h0 hk hs h).ext x
 | subp nm k s v hn h0 hk hs h=>exact y nm k s v (.subp nm k s v hn h0 hk hs h)
 | part nm k i j z v hn h0 hk h=>exact (Rel.part nm k i j z v hn h0 hk h).ext x
 | lim nm k i z v hn h0 hk h=>exact (Rel.lim nm k i z v hn h0 hk h).ext x
 | ifc v h=>exact .ifc v h
 | num k n h=>exact .num k n h
theorem uL {E E':Env}{lend:Bool}(x:Ext E E')(e:∀nm k v,Rel E (.ptr nm k) v->Rel E' (eU lend H (.ptr nm k)) v)(g:∀nm k v,Rel E (.ref nm k) v->Rel E' (eU lend H (.ref nm k)) v)(f:∀nm k i v,Rel E (.subp nm k i) v->Rel E' (eU lend H (.subp nm k i)) v)(c:∀nm v,Rel E (.mp nm) v->Rel E' (eU lend H (.mp nm)) v):∀ {l:List SV} {vs:List Value},RelL E l vs->RelL E' (l.map (yP lend H)) vs
 | _,_,.nil=>.nil
 | _,_,.cons _ _ _ _ h hl=>.cons _ _ _ _ (Qm x e g f c h) (uL x e g f c hl)
theorem D2 (x:Inv G H loc ver w){nm v:Nat}{t:Ty}{xs:List t.T}{e:TypeId}(A:bX H nm= .vec v t xs e):
  Inv G (cA H nm (.fro v t xs)) loc ver w/\Ext (envOf G H loc ver w) (envOf G (cA H nm (.fro v t xs)) loc ver w):=by
 have f:=bB A si;have c:nm<H.length:=(aK.1 f).1;refine x.turn nm (by simp[cA]) (fun k m=>⟨bS m,rfl,rfl⟩) (fun _=>eJ (aP c) rfl) (fun _=>.inl ⟨rfl,rfl,.inl rfl⟩) (aI _) rfl rfl rfl (by rw[f];intro h;cases h) (fun _=>by first | rw[show cA H nm _=H.set nm _ from rfl,aP c];intro h;cases h | rw[show cA H 0 _=H.set 0 _ from rfl,aP c];intro h;cases h)
  (fun st n D b h=>by rw[show cA H nm (.fro v t xs)=H.set nm _ from rfl,aP c] at h;cases h) (fun _ _ _=>rfl) ?_ ?_
 ·intro C b g s;rw[show cA H nm (.fro v t xs)=H.set nm _ from rfl,aP c] at g;cases g;cases s
 intro B C g;rw[show cA H nm (.fro v t xs)=H.set nm _ from rfl,aP c] at g;cases g;have y:=x.objs nm _ f;refine ⟨y.1,y.2.1,Bp (E:=envOf G H loc ver w) (ok:=qW G (cA H nm (.fro v t xs)) loc w) y B.ok fun b s=>?_⟩;have u:Owned H loc b:=⟨nm,_,f,s⟩;refine ⟨?_,y.block (b:=b) s,?_⟩
 ·rcases x.own b u with h | h
  ·exact .inr (.inl h)
  exact .inr (.inr h)
 rintro ⟨k,o,m,hbk⟩;by_cases z:k=nm
 ·subst z;rw[show cA H k (.fro v t xs)=H.set k _ from rfl,aP c] at m;cases m;cases hbk
 rw[show cA H nm (.fro v t xs)=H.set nm _ from rfl,bS z] at m;exact z (x.sep _ _ _ _ b m f hbk s)
theorem Ext.trans {A B C:Env}(h:Ext A B)(k:Ext B C):Ext A C:=by
 refine ⟨⟨fun b u=>(k.blk b (h.ok b u)).trans (h.blk b u),fun b g=>k.ok b (h.ok b g),fun c e=>k.num c (h.num c e),fun c e=>?_,k.os.trans h.os,k.tape.trans h.tape,k.output.trans h.output,bA h.size k.size,
  fun b g=>?_,k.itr.trans h.itr,fun c e E=>?_⟩,fun i o s hi u=>k.keep i o (fun g=>?_) (h.keep i o s hi u) u,fun c b g=>?_,fun c b e g=>h.gho' c b e (k.gho' c b (h.num c e) g)⟩
 ·rcases h.ver c e with ⟨e1,e2⟩ | ⟨e1,e2⟩
  ·rcases k.ver c (h.num c e) with ⟨e3,e4⟩ | ⟨e3,e4⟩
   ·exact .inl ⟨e3.trans e1,e4.trans e2⟩
   exact .inr ⟨om,om⟩
  rcases k.ver c (h.num c e) with ⟨e3,e4⟩ | ⟨e3,e4⟩
  ·exact .inr ⟨e1,om⟩
  exact .inr ⟨e1,om⟩
 ·rcases k.ali b g with f | f
  ·exact h.ali b f
  exact .inr (bA h.size f)
 ·have f:=h.ver c e;have x:=k.ver c (h.num c e);have e1:B.ver c=A.ver c:=by
   rcases f with ⟨n,_⟩ | ⟨n,m⟩
   ·exact n
   rcases x with ⟨D,_⟩ | ⟨D,F⟩<;>omega
  rcases h.sub c e e1 with n | n
  ·rcases k.sub c (h.num c e) om with m | m
   ·exact .inl (m.trans n)
   rw[n] at m;exact .inr m
  rcases k.sub c (h.num c e) om with m | m
  ·rw[m];exact .inr n
  exact .inr (oF n m)
 ·rcases h.ali i g with f | f
  ·exact s f
  have:=(aH.1 hi).1;omega
 obtain ⟨f,x⟩:=h.gho c b g;obtain ⟨y,z⟩:=k.gho c b f;exact ⟨y,z.trans x⟩
theorem rH:∀(l:List SV) {H:List HO},Inv G H loc ver w->Inv G (sS H l) loc ver w/\Ext (envOf G H loc ver w) (envOf G (sS H l) loc ver w)
 | [],H,hI=>⟨hI,Ext.refl _⟩
 | s::r,H,hI=>by
  cases s with
  | ref nm k=>
   simp only[sS];cases ho:bX H nm with
   | vec j t xs e=>
    simp only;cases Nat.beq j k with
    | false=>exact rH r hI
    | true=>
     obtain ⟨c,f⟩:=D2 hI ho;obtain ⟨g,m⟩:=rH r c;exact ⟨g,f.trans m⟩
   | _=>exact rH r hI
  | _=>exact rH r hI
theorem rI:∀(l:List SV) (H:List HO) {nm:Nat} {c:List SV} {e:TypeId},bX H nm= .cells c e->bX (sS H l) nm= .cells c e
 | [],H,nm,c,e,h=>h
 | s::r,H,nm,c,e,h=>by
  cases s with
  | ref m k=>
   simp only[sS];cases ho:bX H m with
   | vec j t xs e'=>
    simp only;cases Nat.beq j k with
    | false=>exact rI r H h
    | true=>
     refine rI r _ ?_;have f:nm≠m:=by rintro rfl;rw[h] at ho;cases ho
     simp only[bX,cA,aB] at h ⊢;rw[fY];rw[aD (Ne.symm f)];exact h
   | _=>exact rI r H h
  | _=>exact rI r H h
theorem OI (x:Inv G H loc ver w){nm:Nat}{l m:List SV}{e:TypeId}(J:bX H nm= .cells l e)(F:∀vs,RelL (envOf G H loc ver w) l vs->RelL (envOf G H loc ver w) m vs)(B:bare.bareL m=true):
  Inv G (cA H nm (.frc m)) loc ver w/\Ext (envOf G H loc ver w) (envOf G (cA H nm (.frc m)) loc ver w):=by
 have f:=bB J si;have c:nm<H.length:=(aK.1 f).1;refine x.turn nm (by simp[cA]) (fun k s=>⟨bS s,rfl,rfl⟩) (fun _=>eJ (aP c) rfl) (fun _=>.inl ⟨rfl,rfl,.inl rfl⟩) (aI _) rfl rfl rfl (by rw[f];intro h;cases h) (fun _=>by first | rw[show cA H nm _=H.set nm _ from rfl,aP c];intro h;cases h | rw[show cA H 0 _=H.set 0 _ from rfl,aP c];intro h;cases h)
  (fun st n X b h=>by rw[show cA H nm (.frc m)=H.set nm _ from rfl,aP c] at h;cases h) (fun _ _ _=>rfl) ?_ ?_
 ·intro W b g B;rw[show cA H nm (.frc m)=H.set nm _ from rfl,aP c] at g;cases g;cases B
 intro K W g;rw[show cA H nm (.frc m)=H.set nm _ from rfl,aP c] at g;cases g;have E:=x.objs nm _ f;obtain ⟨C,b,vs,z,A,D⟩:=E;have u:Owns (loc nm) (.cells l e) b:=by simp[Owns,z]
 refine ⟨C,b,vs,e,z,⟨?_,(aH.1 A).1,?_⟩,A,(F vs D).ext K⟩
 ·rcases x.own b ⟨nm,_,f,u⟩ with h | h
  ·exact .inr (.inl h)
  exact .inr (.inr h)
 rintro ⟨k,o,s,hbk⟩;by_cases y:k=nm
 ·subst y;rw[show cA H k (.frc m)=H.set k _ from rfl,aP c] at s;cases s;cases hbk
 rw[show cA H nm (.frc m)=H.set nm _ from rfl,bS y] at s;exact y (x.sep _ _ _ _ b s f hbk u)
theorem OJ (x:Inv G H loc ver w){nm:Nat}{m:List (Int × Int)}{l:List SV}(X:bX H nm= .qm m l):
  Inv G (cA H nm (.frm m l)) loc ver w/\Ext (envOf G H loc ver w) (envOf G (cA H nm (.frm m l)) loc ver w):=by
 have f:=bB X si;have e:nm<H.length:=(aK.1 f).1;refine x.turn nm (by simp[cA]) (fun k s=>⟨bS s,rfl,rfl⟩) (fun _=>eJ (aP e) rfl) (fun _=>.inl ⟨rfl,rfl,.inl rfl⟩) (aI _) rfl rfl rfl (by rw[f];intro h;cases h) (fun _=>by rw[show cA H nm _=H.set nm _ from rfl,aP e];intro h;cases h)
  (fun st n it b h=>by rw[show cA H nm (.frm m l)=H.set nm _ from rfl,aP e] at h;cases h) (fun _ _ _=>rfl) ?_ ?_
 ·intro Z b g K;rw[show cA H nm (.frm m l)=H.set nm _ from rfl,aP e] at g;cases g;cases K
 intro Y Z g;rw[show cA H nm (.frm m l)=H.set nm _ from rfl,aP e] at g;cases g;have J:=x.objs nm _ f;obtain ⟨D,W,z,b,C,c,A,B,E,F⟩:=J;have u:Owns (loc nm) (.qm m l) b:=by simp[Owns,A]
 refine ⟨D,z,b,C,c,A,⟨?_,(aH.1 B).1,?_⟩,B,E.keys,F.ext Y⟩
 ·rcases x.own b ⟨nm,_,f,u⟩ with h | h
  ·exact .inr (.inl h)
  exact .inr (.inr h)
 rintro ⟨k,o,s,hbk⟩;by_cases y:k=nm
 ·subst y;rw[show cA H k (.frm m l)=H.set k _ from rfl,aP e] at s;cases s;cases hbk
 rw[show cA H nm (.frm m l)=H.set nm _ from rfl,bS y] at s;exact y (x.sep _ _ _ _ b s f hbk u)
theorem Dj (s:SV)(c:Inv G H loc ver w):Inv G (Pd H s) loc ver w/\Ext (envOf G H loc ver w) (envOf G (Pd H s) loc ver w):=by
 cases s with
 | ref f k=>
  simp only[Pd];cases ho:bX H f with
  | vec j t xs e=>
   simp only;cases Nat.beq j k with
   | false=>exact ⟨c,Ext.refl _⟩
   | true=>exact D2 c ho
  | _=>exact ⟨c,Ext.refl _⟩
 | ptr f k=>
  simp only[Pd];cases ho:bX H f with
  | cells l e=>
   simp only;cases hb:bare.bareL (l.map (eU false (sS H l))) with
   | false=>exact ⟨c,Ext.refl _⟩
   | true=>
    obtain ⟨g,m⟩:=rH l c;obtain ⟨n,o⟩:=OI g (rI l H ho) (fun vs h=>pH (Ext.refl _) (fun _ _ _ h=>wO g h) (fun f k v h=>lZ g h) (fun f k i v _=>mU f k i v) (fun f v h=>rZ g (Ext.refl _) (.inl rfl) h) h) hb;exact ⟨n,m.trans o⟩
  | _=>exact ⟨c,Ext.refl _⟩
 | mp f=>
  simp only[Pd];cases ho:bX H f with
  | qm ks l=>exact OJ c ho
  | _=>exact ⟨c,Ext.refl _⟩
 | _=>exact ⟨c,Ext.refl _⟩
theorem tZ:∀(l:List SV) {H:List HO},Inv G H loc ver w->Inv G (FT H l) loc ver w/\Ext (envOf G H loc ver w) (envOf G (FT H l) loc ver w)
 | [],H,hI=>⟨hI,Ext.refl _⟩
 | s::r,H,hI=>by
  obtain ⟨c,e⟩:=Dj s hI;obtain ⟨f,g⟩:=tZ r c;exact ⟨f,e.trans g⟩
theorem sA:∀(l:List SV) {H:List HO},Inv G H loc ver w->Inv G (jO H l) loc ver w/\Ext (envOf G H loc ver w) (envOf G (jO H l) loc ver w)
 | [],H,hI=>⟨hI,Ext.refl _⟩
 | s::r,H,hI=>by
  have c:∀ {e:List HO},Inv G e loc ver w/\Ext (envOf G H loc ver w) (envOf G e loc ver w)->Inv G (jO e r) loc ver w/\Ext (envOf G H loc ver w) (envOf G (jO e r) loc ver w):=fun ⟨g,m⟩=>
   let ⟨n,o⟩:=sA r g
   ⟨n,m.trans o⟩
  cases s with
  | agg l=>exact c (tZ l hI)
  | tup l=>exact c (tZ l hI)
  | clo f a b=>
   obtain ⟨g,m⟩:=tZ a hI;obtain ⟨n,o⟩:=tZ b g;exact c ⟨n,m.trans o⟩
  | _=>exact c (Dj _ hI)
theorem Gi {Γ:List Con}{f:FuncId}{c:Con}(h:Ef Γ f=some c):c∈Γ/\c.f=f:=by
 induction Γ with
 | nil=>cases h
 | cons x r ih=>
  simp only[Ef] at h;cases hb:Nat.beq x.f f with
  | true=>rw[hb] at h;cases h;exact ⟨cQ ..,bM.1 hb⟩
  | false=>rw[hb] at h;obtain ⟨e,g⟩:=ih h;exact ⟨cC _ e,g⟩
def JA (G:Ctx)(H:List HO)(loc:Nat->Loc)(ver:Nat->Nat)(w:World)(L:Loc):Env:=⟨w,fun b=>b<w.heap.size/\L.blk.map (·.1)≠some b,lE H,loc,ver,BL H loc,Jl H loc,G.itr⟩
mutual
theorem Rel.plain {E E':Env}{s:SV}{v:Value}(h:Rel E s v)(c:Eng.plain s=true):Rel E' s v:=by
 cases h with
 | val _ h=>exact .val v h
 | bl p d=>exact .bl p d
 | str s h=>exact .str s h
 | ifc _ h=>exact .ifc v h
 | num k n h=>exact .num k n h
 | agg l vs hl=>exact .agg l vs (hl.plain (by simpa [Eng.plain] using c))
 | tup l vs hl=>exact .tup l vs (hl.plain (by simpa [Eng.plain] using c))
 | _=>simp[Eng.plain] at c
theorem RelL.plain {E E':Env}{l:List SV}{vs:List Value}(h:RelL E l vs)(c:Eng.plain.plainL l=true):RelL E' l vs:=by
 cases h with
 | nil=>exact .nil
 | cons s v l vs h hl=>
  simp only[Eng.plain.plainL,aG] at c;exact .cons s v l vs (h.plain c.1) (hl.plain c.2)
end
theorem BN {lend:Bool}{H:List HO}{s:SV}(h:bare s=true):yP lend H s=s:=by
 have e:∀s,bare s=true->eU lend H s=s:=fun s h=>by cases s<;>first | rfl | (simp[bare] at h)
 have c:∀l:List SV,bare.bareL l=true->l.map (eU lend H)=l:=fun l=>by
  induction l with
  | nil=>intro _;rfl
  | cons x r ih=>
   intro h;simp only[bare.bareL,aG] at h;rw[jT,e x h.1,ih h.2]
 have g:∀l:List SV,bare.bareL l=true->(l.map fun s=>match s with
   | .agg l=>.agg (l.map (eU lend H))
   | s=>eU lend H s)=l:=fun l=>by
  induction l with
  | nil=>intro _;rfl
  | cons x r ih=>
   intro h;simp only[bare.bareL,aG] at h;rw[jT,ih h.2];congr 1
   cases x with
   | agg l=>exact aR _ (c l (by simpa [bare] using h.1))
   | _=>exact e _ h.1
 cases s with
 | clo f a b=>
  simp only[bare,aG] at h;simp only[yP,c a h.1,c b h.2]
 | agg l=>exact aR _ (c l (by simpa [bare] using h))
 | tup l=>exact aR _ (g l (by simpa [bare] using h))
 | ref=>simp[bare] at h
 | ptr=>simp[bare] at h
 | subp=>simp[bare] at h
 | mp=>simp[bare] at h
 | _=>rfl
theorem Aa {lend:Bool}{H:List HO}:∀ {l:List SV},bare.bareL l=true->l.map (yP lend H)=l
 | [],_=>rfl
 | x::r,h=>by
  simp only[bare.bareL,aG] at h;rw[jT,BN h.1,Aa h.2]
theorem To {H':List HO}{loc':Nat->Loc}{w':World}(m:Inv G H loc ver w)(nm:Nat)(f:∀k,k≠nm->H'[k]? =H[k]? /\loc' k=loc k){b:Nat}(c:qW G H loc w b\/(∃o,H[nm]? =some o/\Owns (loc nm) o b)\/w.heap.size<=b)(u:b<w'.heap.size)(x:∀o',H'[nm]? =some o'->¬Owns (loc' nm) o' b):qW G H' loc' w' b:=by
 have g:¬Owned H' loc' b:=by
  rintro ⟨k,o,hk,ho⟩;by_cases e:k=nm
  ·subst e;exact x o hk ho
  rw[(f k e).1] at hk;rw[(f k e).2] at ho;rcases c with c | ⟨y,n,s⟩ | c
  ·exact c.2.2 ⟨k,o,hk,ho⟩
  ·exact e (m.sep k nm o y b hk n ho s)
  have:b<w.heap.size:=(m.objs k o hk).block ho;omega
 refine ⟨?_,u,g⟩;rcases c with c | ⟨y,n,s⟩ | c
 ·exact c.1
 ·exact .inr (m.own b ⟨nm,y,n,s⟩)
 exact .inr (.inr (bA m.size c))
theorem Xq (hY:COK P G)(A:Inv G H loc ver w){f:FuncId}{o:Nat}{s:Bool}{cl:List SV->HO->(SV->HO->Prop)->Prop}{args:List SV}{vs:List Value}{K:SV->List HO->Prop}(hc:D1 P f o s cl)(h:IF o s cl args H K)(hr:RelL (envOf G H loc ver w) args vs):Calls P f ⟨vs⟩ w fun e w'=>∃v,e= .returned v/\Res G (envOf G H loc ver w) K v w':=by
 unfold IF at h;split at h;case h_2=>cases h
 rename_i c k X;split at h;case h_2=>cases h
 rename_i j t xs e ho;have h':=bD h;clear h;obtain ⟨g,h⟩:=h';simp only[aG,bM] at g;obtain ⟨rfl,c3⟩:=g;simp only[lW] at h;have h':=bD h;clear h;obtain ⟨a6,h⟩:=h';obtain ⟨r,ys,B,b6⟩:=hc _ t xs e _ rfl h;rw[kF] at B;simp only[iF,bP,dite_true] at B;rw[pZ] at B;simp only[cD] at B;have W:=bB ho si;have y:c<H.length:=(aK.1 W).1;have hO:=A.objs c _ W;have b8:=hO;obtain ⟨hv,c6,a1,a2,rs,a3,b2⟩:=hO;have hv:ver c=j:=hv
 -- the argument that is turned
 have a4:o<args.length:=aS fun hc=>by
  rw[aB,cO om] at X;cases X
 have a9:=hr.get o a4;rw[X] at a9;have b7:vs.getD o undef=(loc c).head:=by
  generalize vs.getD o undef=q at a9;cases a9 with
  | ref _ _ _ _ _ _ hh=>exact hh hv.symm
 have J:o<vs.length:=by rw[<- hr.length];exact a4
 have c5:vs[o]? =some (loc c).head:=by
  rw[aB,aY J,lK] at b7;rw[aY J,b7]
 -- the others, as they are lent
 have Z:RelL (envOf G H loc ver w) (args.set o .any) vs:=by
  have:=hr.set o (.any (vs.getD o undef))
  rwa [show vs.set o (vs.getD o undef)=vs from by
   rw[aB,aY J,lK];exact qZ J] at this
 have a7:∀b,(loc c).blk.map (·.1)=some b->b<w.heap.size:=fun b g=>b8.block (b:=b) g;have D:∀b,qW G H loc w b->b<w.heap.size/\(loc c).blk.map (·.1)≠some b:=fun b g=>⟨g.2.1,fun e1=>g.2.2 ⟨c,_,W,e1⟩⟩;have xX:Ext (envOf G H loc ver w) (JA G H loc ver w (loc c)):=⟨⟨fun _ _=>rfl,D,fun _ h=>h,fun _ _=>.inl ⟨rfl,rfl⟩,rfl,rfl,rfl,aI _,fun _ h=>.inl h,rfl,fun _ _ _=>.inl rfl⟩,fun _ _ _ h _=>h,fun _ _ h=>⟨h,rfl⟩,fun _ _ _ h=>h⟩;have x:bX (cA H c .dead) c= .dead:=by simp[bX,cA,aB,y]
 have F:∀m,m≠c->bX (cA H c .dead) m=bX H m:=fun m hm=>by
  simp only[bX,cA,aB];rw[bS hm]
 have Y:∀m k v,Rel (envOf G H loc ver w) (.ref m k) v->Rel (JA G H loc ver w (loc c)) (eU true (cA H c .dead) (.ref m k)) v:=by
  intro m k v hm;by_cases C:m=c
  ·subst C;simp only[eU,x];exact .any v
  simp only[eU,F m C];cases hm with
  | ref _ _ _ hn' hk0 b3 hv'=>
   cases u:bX H m with
   | vec j' t' xs' e'=>
    simp only[mW];cases g:Nat.beq j' k with
    | false=>exact .any v
    | true=>
     obtain rfl:=bM.1 g;have z:=bB u si;have hO₁:=A.objs m _ z;have:=hv' hO₁.1.symm;subst this;refine .seq t' xs' _ (Bp (E:=envOf G H loc ver w) (ok:=fun b=>b<w.heap.size/\(loc c).blk.map (·.1)≠some b) hO₁ D fun b g=>⟨hO₁.block (b:=b) g,fun e1=>C (A.sep _ _ _ _ b z W g e1)⟩)
   | fro j' t' xs'=>
    simp only;cases g:Nat.beq j' k with
    | false=>exact .any v
    | true=>
     obtain rfl:=bM.1 g;have hO₁:=A.objs m _ (bB u si);have:=hv' hO₁.1.symm;subst this;exact .seq t' xs' _ (hO₁.2.2.mono (fun _ _ _ h=>h) D)
   | _=>exact .any v
 have a8:∀m k v,Rel (envOf G H loc ver w) (.ptr m k) v->Rel (JA G H loc ver w (loc c)) (eU true (cA H c .dead) (.ptr m k)) v:=by
  intro m k v hm;by_cases C:m=c
  ·subst C;simp only[eU,x];exact hm.ext xX
  exact rY A xX rfl hm (F m C) (fun b l e' u g=>by
   have z:=bB u si
   exact ⟨(A.objs m _ z).block (b:=b) g,fun e1=>C (A.sep _ _ _ _ b z W g e1)⟩) Y
 have a':∀m k i v,Rel (envOf G H loc ver w) (.subp m k i) v->Rel (JA G H loc ver w (loc c)) (eU true (cA H c .dead) (.subp m k i)) v:=by
  intro m k i v hm;by_cases C:m=c
  ·subst C;exact nK A rfl hm (.inr x) fun b k t xs ho _=>by
    have:=bB ho si;rw[W] at this;cases this
  exact nK A rfl hm (.inl (F m C)) fun b k t xs ho g=>by
   have z:=bB ho si;exact ⟨(A.objs m _ z).block (b:=b) g,fun e1=>C (A.sep _ _ _ _ b z W g e1)⟩
 have a5:=uL (H:=cA H c .dead) (lend:=true) xX a8 Y a' (fun m v h=>rZ A xX (by by_cases C:m=c;(· subst C;exact .inr x);exact .inl (F m C)) h) Z;have a0:=RelL.bare (E:=JA G H loc ver w (loc c)) (E':=iD w fun b=>b<w.heap.size/\(loc c).blk.map (·.1)≠some b) (fun _ _ _ h _=>h) (fun _ h=>h) a5 a6;have b5:∃O:Nat->Prop,GW P O w/\(∀b,O b->b<w.heap.size/\(loc c).blk.map (·.1)≠some b)/\RelL (iD w O) ((args.set o .any).map (yP true (cA H c .dead))) vs/\F6 w O (loc c) t xs e/\(t.flat=true\/∀b,O b->qW G H loc w b):=by
  cases hf:t.flat with
  | true=>exact ⟨_,(hY.now A).move (fun b g _=>⟨g.2.1,fun e=>g.2.2 ⟨_,_,W,e⟩⟩) fun _ _=>rfl,fun _ h=>h,a0,⟨a1,a2,rs,a3,fun i hi=>Reads.flatJ hf (b2 i hi)⟩,.inl rfl⟩
  | false=>
   have b1:bare.bareL (args.set o .any)=true:=by simpa [hf] using c3
   refine ⟨qW G H loc w,hY.now A,D,?_,⟨a1,a2,rs,a3,b2⟩,.inr fun _ h=>h⟩;rw[Aa b1];exact RelL.bare (E:=envOf G H loc ver w) (E':=iD w (qW G H loc w)) (fun _ _ _ h _=>h) (fun _ h=>h) Z b1
 obtain ⟨O,b9,b',c0,c1,c2⟩:=b5;refine (b6 O w vs (loc c) b9 b' a7 c1 c0 c5).mono ?_;rintro en w' ⟨v,L',rfl,⟨p1,p2,p3,p4,p5⟩,p6,p7,⟨q1,q2,rs',q3,q4⟩,q5⟩;have ht:=A.turn (w':=w') (H':=cA H c (.vec (bif s then j else j+1) t ys e)) (loc':=sV loc c L') (ver':=sV ver c (bif s then j else j+1)) c (by simp[cA]) (fun k B=>⟨bS B,dJ _ _ _ B,dJ _ _ _ B⟩)
  (fun _=>eJ (aP y) rfl) (fun _=>by
   rw[bF,bF];cases s with
   | true=>exact .inl ⟨hv.symm,aR _ (p6 rfl),.inl (aR _ (p6 rfl))⟩
   | false=>exact .inr ⟨om,by simp only[cM];omega⟩)
  p4 p1 p2 p3 (by rw[W];intro h;cases h) (fun _=>by rw[show cA H c _=H.set c _ from rfl,aP y];intro h;cases h)
  (fun st n it b h=>by rw[show cA H c _=H.set c _ from rfl,aP y] at h;cases h)
  (fun b g c4=>p5 b g fun e1=>c4 _ W e1)
  (by
   intro o' b u g;rw[show cA H c _=H.set c _ from rfl,aP y] at u;cases u;rw[bF] at g;rcases p7 b g with h | h
   ·exact .inl ⟨_,W,h⟩
   exact .inr h)
  (by
   intro c7 o' u;rw[show cA H c _=H.set c _ from rfl,aP y] at u;cases u;rw[bF,bF];refine ⟨rfl,by cases s<;>simp only[bP,cM]<;>omega,q1,q2,rs',q3,fun i hi=>?_⟩;rcases c2 with hf | hf
   ·exact Reads.flatJ hf (q4 i hi)
   refine (q4 i hi).mono (fun _ _ _ h=>h) fun b g=>To A c (fun k B=>⟨bS B,dJ _ _ _ B⟩) ?_ g.2.1 ?_
   ·rcases g.1 with h | h | h
    ·exact .inl (hf b h)
    ·exact .inr (.inl ⟨_,W,h⟩)
    exact .inr (.inr h)
   intro o2 h1 h2
   first
    | rw[aP y] at h1
    | rw[show cA H c _=H.set c _ from rfl,aP y] at h1
   cases h1;rw[bF] at h2
   exact g.2.2 h2)
 refine ⟨v,rfl,?_⟩;rcases q5 with ⟨rfl,rfl⟩ | ⟨hp,b4⟩
 ·refine ⟨_,_,_,_,B,ht.1,?_,ht.2⟩;refine .ref _ _ _ (by exact eJ (aP y) rfl) (by cases s<;>simp only[bP,cM]<;>omega) (by simp[envOf,bF]) fun _=>?_;simp[envOf,bF]
 have b3:K r (cA H c (.vec (bif s then j else j+1) t ys e)):=by
  cases r with
  | ref a b=>simp[Eng.plain] at hp
  | _=>first | (simp[Eng.plain] at hp;done) | (simp only[hp,bP] at B;exact B) | exact B
 exact ⟨r,_,_,_,b3,ht.1,b4.plain hp,ht.2⟩
theorem Qn {w:World}{L:Loc}{E:Env}{n:Nat}(m:E.has n=true)(o:E.ver n=1)(g:E.loc n=L){s:SV}{v:Value}(h:Rel (Pq w L) s v)(c:FV s=true):Rel E (DG n s) v:=by
 cases s with
 | ref a b=>
  have e:a=0/\b=1:=by
   unfold FV at c;split at c
   ·rename_i f;cases f;exact ⟨rfl,rfl⟩
   simp[Eng.plain] at c
  obtain ⟨rfl,rfl⟩:=e;cases h with
  | ref _ _ _ _ _ _ hh=>exact .ref n 1 v m Nat.one_pos om fun _=>by rw[g];exact hh rfl
 | _=>exact h.plain (by simpa [FV] using c)
theorem Qo {w:World}{L:Loc}{E:Env}{n:Nat}(e:E.has n=true)(f:E.ver n=1)(c:E.loc n=L):∀ {l:List SV} {vs:List Value},RelL (Pq w L) l vs->l.all FV=true->RelL E (l.map (DG n)) vs
 | _,_,.nil,_=>.nil
 | _,_,.cons _ _ _ _ h hr,ho=>by
  simp only[List.all_cons,aG] at ho;exact .cons _ _ _ _ (Qn e f c h ho.1) (Qo e f c hr ho.2)
theorem Xr {w:World}{L:Loc}{E:Env}{n:Nat}(e:E.has n=true)(g:E.ver n=1)(c:E.loc n=L){s:SV}{v:Value}(h:Rel (Pq w L) s v)(f:Ei s=true):Rel E (SZ n s) v:=by
 cases s with
 | tup l=>
  cases h with
  | tup _ vs hr=>exact .tup _ _ (Qo e g c hr (by simpa [Ei] using f))
 | _=>exact Qn e g c h (by simpa [Ei] using f)
theorem Xs (hY:COK P G)(g:Inv G H loc ver w){f:FuncId}{X:List SV->(SV->HO->Prop)->Prop}{args:List SV}{vs:List Value}{K:SV->List HO->Prop}(hc:I8 P f X)(h:IG X args H K)(hr:RelL (envOf G H loc ver w) args vs):Calls P f ⟨vs⟩ w fun e w'=>∃v,e= .returned v/\Res G (envOf G H loc ver w) K v w':=by
 unfold IG at h;simp only[lW] at h;have h':=bD h;clear h;obtain ⟨c,h⟩:=h';obtain ⟨r,k,t,ys,e,s,m⟩:=hc _ _ h;simp only[kF,cD] at s;have F:=bD s;clear s;obtain ⟨x,s⟩:=F;simp only[aG] at x;have m:=m rfl;have u:=uL (H:=H) (lend:=true) (Ev (G:=G)) (fun _ _ _ h=>rY g Ev rfl h rfl (fun b l e J c=>(g.objs _ _ (bB J si)).block (b:=b) c) fun W k v h=>jR g h) (fun W k v h=>jR g h) (fun W k i v h=>nK g rfl h (.inl rfl) fun b k t xs J c=>(g.objs _ _ (bB J si)).block (b:=b) c) (fun W v h=>rZ g Ev (.inl rfl) h) hr;have n:=RelL.bare (E:=OH G H loc ver w) (E':=iD w fun b=>b<w.heap.size) (fun _ _ _ h _=>h) (fun _ h=>h) u c;have z:∃O:Nat->Prop,GW P O w/\(∀b,O b->b<w.heap.size)/\RelL (iD w O) (args.map (yP true H)) vs/\(t.flat=true\/∀b,O b->qW G H loc w b):=by
  cases o:t.flat with
  | true=>exact ⟨_,(hY.now g).move (fun b c _=>c.2.1) fun _ _=>rfl,fun _ h=>h,n,.inl rfl⟩
  | false=>
   have y:bare.bareL args=true:=by simpa [o] using x.1
   refine ⟨qW G H loc w,hY.now g,fun _ h=>h.2.1,?_,.inr fun _ h=>h⟩;rw[Aa y];exact RelL.bare (E:=envOf G H loc ver w) (E':=iD w (qW G H loc w)) (fun _ _ _ h _=>h) (fun _ h=>h) hr y
 obtain ⟨O,A,B,C,D⟩:=z;refine (m O w vs A B C).mono ?_;rintro en w' ⟨v,L',rfl,hbel,hblk,⟨q1,q2,rs,q3,q4⟩,hrel⟩;have o:=g.fresh (w':=w') (.vec 1 t ys e) L' 1 hbel.size hbel.os hbel.tape hbel.output (fun b c=>hbel.block b c) (fun b c=>hblk b c)
  (fun hx=>⟨rfl,Nat.one_pos,q1,q2,rs,q3,fun i hi=>by
   rcases D with o | o
   ·exact Reads.flatJ o (q4 i hi)
   refine (q4 i hi).mono (fun _ _ _ h=>h) fun b c=>To g H.length (fun k s=>⟨gU s,dJ _ _ _ s⟩) ?_ c.2.1 ?_
   ·rcases c.1 with h | h
    ·exact .inl (o b h)
    exact .inr (.inr h)
   intro o2 Y Z;rw[gG] at Y;cases Y;rw[bF] at Z
   exact c.2.2 Z⟩)
 exact ⟨v,rfl,_,_,_,_,s,o.1,Xr (by exact nI rfl) (by simp[envOf,bF]) (by simp[envOf,bF]) hrel x.2,o.2⟩
theorem Ex (Y:COK P G){c:Con}(F:∀args K,c.cl args K->∃r,K r/\Tris P c.fresh c.f args r)(s:Inv G H loc ver w){args:List SV}{vs:List Value}{K:SV->List HO->Prop}(h:Sq c.fresh c.cl args H K)(Z:RelL (envOf G H loc ver w) args vs):Calls P c.f ⟨vs⟩ w fun e w'=>∃v,e= .returned v/\Res G (envOf G H loc ver w) K v w':=by
 unfold Sq at h;cases hfr:c.fresh with
 | true=>
  rw[hfr] at h;simp only[bP,lW] at h;obtain ⟨x,h⟩:=bD h;obtain ⟨r,A,g⟩:=F _ _ h;rw[kF] at A;obtain ⟨y,A⟩:=bD A;have g:=g.tri y;have n:=uL (H:=H) (lend:=true) (Ev (G:=G)) (fun _ _ _ h=>rY s Ev rfl h rfl (fun b l e D x=>(s.objs _ _ (bB D si)).block (b:=b) x) fun z k v h=>jR s h) (fun z k v h=>jR s h) (fun z k i v h=>nK s rfl h (.inl rfl) fun b k t xs D x=>(s.objs _ _ (bB D si)).block (b:=b) x) (fun z v h=>rZ s Ev (.inl rfl) h) Z;have m:=RelL.bare (E:=OH G H loc ver w) (E':=iD w fun b=>b<w.heap.size) (fun _ _ _ h _=>h) (fun _ h=>h) n x;refine ((g _ w vs ((Y.now s).move (fun b x _=>x.2.1) fun _ _=>rfl) (fun _ h=>h) m).mono ?_);rintro e w' ⟨v,rfl,hbel,hrel⟩;obtain ⟨C,W⟩:=s.grow hbel;refine ⟨v,rfl,_,_,_,_,A,C,Rel.bare (E:=iD w' _) (E':=envOf G H loc ver w') (fun _ _ _ h _=>h) (fun b x=>?_) hrel y,W⟩;rcases x with ⟨B,_⟩ | ⟨B,X⟩
  ·rw[hfr] at B;cases B
  refine ⟨.inr (.inr (bA s.size B)),X,?_⟩;rintro ⟨z,o,D,hbo⟩;have:=(s.objs z o D).block hbo;have:b<w.heap.size:=this;omega
 | false=>
  rw[hfr] at h;simp only[cM,cD,lW] at h;obtain ⟨x,h⟩:=bD h;obtain ⟨r,A,g⟩:=F _ _ h;rw[kF] at A;obtain ⟨y,A⟩:=bD A;have g:=g.tri y;obtain ⟨u,J⟩:=sA args s;have n:=uL (H:=jO H args) (lend:=false) (Ext.refl _) (fun _ _ _ h=>wO u h) (fun z k v h=>lZ u h) (fun z k i v _=>mU z k i v) (fun z v h=>rZ u (Ext.refl _) (.inl rfl) h) (Z.ext J);have m:=RelL.bare (E:=envOf G (jO H args) loc ver w) (E':=iD w (qW G (jO H args) loc w)) (fun _ _ _ h _=>h) (fun _ h=>h) n x;refine ((g _ w vs (Y.now u) (fun _ h=>h.2.1) m).mono ?_);rintro e w' ⟨v,rfl,hbel,hrel⟩;obtain ⟨C,W⟩:=u.grow hbel;refine ⟨v,rfl,_,_,_,_,A,C,Rel.bare (E:=iD w' _) (E':=envOf G (jO H args) loc ver w') (fun _ _ _ h _=>h) (fun b x=>?_) hrel y,J.trans W⟩;rcases x with ⟨_,B⟩ | ⟨B,X⟩
  ·exact W.ok b B
  refine ⟨.inr (.inr (bA s.size B)),X,?_⟩;rintro ⟨z,o,D,hbo⟩;have:=(u.objs z o D).block hbo;have:b<w.heap.size:=this;omega
theorem Tq (u:COK P G){Γ:List Con}(hΓ:∀c∈Γ,aM P c){F:Fence}(hF:Opn F)(o:Inv G H loc ver w){f:FuncId}{args:List SV}{vs:List Value}{K:SV->List HO->Prop}(h:BE Γ f args H K)(C:RelL (envOf G H loc ver w) args vs):
  xO P f/\∀n,CallsIn F n P f ⟨vs⟩ w fun e w'=>∃v,e= .returned v/\Res G (envOf G H loc ver w) K v w':=by
 unfold BE at h;split at h;case h_2=>cases h
 rename_i c hc;obtain ⟨A,rfl⟩:=Gi hc;obtain ⟨y,x,z,B,X⟩:=hΓ c A;refine ⟨y,fun n=>?_⟩;have g:∀ {R:Ending->World->Prop},Calls P c.f ⟨vs⟩ w R->CallsIn F n P c.f ⟨vs⟩ w R:=hF.calls;split at h
 ·rename_i m W;obtain ⟨R,hR,D⟩:=X m W _ _ _ h;refine g ((D G loc ver w vs u o C).mono ?_);rintro e w' ⟨v,he,s,H',loc',ver',h1,h2⟩;have Z:=hR s H' h1;rw[kF,cD] at Z;exact ⟨v,he,s,H',loc',ver',Z,h2⟩
 ·rename_i E J m _ W;cases hb:QM (args.getD E .any) with
  | true=>rw[hb] at h;exact g (Xq u o (z E J m W) h C)
  | false=>rw[hb] at h;exact g (Ex u x o h C)
 ·rename_i m _ W Y;exact g (Xs u o (B m Y) h C)
 exact g (Ex u x o h C)
end
end Go.Eng
end
section
namespace Go.Eng
open Go.RowKit
section
variable {P:Program} {G:Ctx} {H:List HO} {loc:Nat->Loc} {ver:Nat->Nat} {w:World}
theorem xT (s:Bx):(⟨s.toArray⟩:ByteArray).toList=s:=by rw[ByteArray.toList_eq]
def RelO (E:Env):Option SV->Option Value->Prop
 | none,none=>True
 | some s,some v=>Rel E s v
 | _,_=>False
theorem Fd {E:Env}{N:Nat}{l:List (Nat × SV)}{a:Act}(c:TRel E N l a)(o:Option Operand):RelO E (o.map (ev l)) (o.map a.eval):=by
 cases o with
 | none=>trivial
 | some x=>exact oZ c x
theorem lG {k:IntKind}{i:Int}{y:Nat}(c:BoundsCode)(h:0<=i/\i<=y):(Instr.sliceBound (.int k i) y c).run P w= .ok i.toNat w:=by
 simp[Instr.sliceBound,asIntOf,h.1,h.2,go_sem]
structure Cut (n:Nat) (lo hi:Option Value) (i j:Nat):Prop where
 lo:(lo=none/\i=0)\/∃k:IntKind,lo=some (.int k (i:Int))
 hi:(hi=none/\j=n)\/∃k:IntKind,hi=some (.int k (j:Int))
 le:i<=j
 len:j<=n
theorem Na {b:Bool}{n c:Nat}{lo hi:Option Value}{i j:Nat}(h:Cut n lo hi i j)(s:n<=c):(Instr.sliceBounds b n c lo hi none).run P w= .ok (i,j,c) w:=by
 obtain ⟨f,g,m,o⟩:=h;rcases f with ⟨rfl,rfl⟩ | ⟨k,rfl⟩<;>rcases g with ⟨rfl,rfl⟩ | ⟨e,rfl⟩
 ·simp[Instr.sliceBounds,go_sem]
 ·simp[Instr.sliceBounds,go_sem,lG (P:=P) (w:=w) (k:=e) (i:=(j:Int)) (y:=c) _ ⟨om,om⟩]
 ·simp[Instr.sliceBounds,go_sem,lG (P:=P) (w:=w) (k:=k) (i:=(i:Int)) (y:=j) _ ⟨om,om⟩]
 simp[Instr.sliceBounds,go_sem,lG (P:=P) (w:=w) (k:=e) (i:=(j:Int)) (y:=c) _ ⟨om,om⟩,lG (P:=P) (w:=w) (k:=k) (i:=(i:Int)) (y:=j) _ ⟨om,om⟩]
theorem wR {t e:TypeId}{g:Nat}(s:P.underlying t=some (.slice e))(f:jQ P e=some g){a:Option Addr}{n c:Nat}{lo hi:Option Value}{i j:Nat}(h:Cut n lo hi i j)(o:n<=c):
  (Instr.sliceAt t (.slice a n c) lo hi none).run P w= .ok (.slice (if c=i then a else a.map (·.add (i*g))) (j-i) (c-i)) w:=by
 have u:∀m,(sizeOf e).run P m= .ok g m:=by
  intro m;unfold jQ at f;cases hi:P.info? e with
  | none=>rw[hi] at f;cases f
  | some inf=>
   rw[hi] at f;cases f;simp[sizeOf,typeInfo,go_sem,hi]
 simp[Instr.sliceAt,Instr.slice,run_underlying s,Na (P:=P) (w:=w) h o,u,go_sem]
theorem GK {ok:Nat->Prop}{t:Ty}{xs:List t.T}{a:Option Addr}{n c i j:Nat}(h:Reads w ok (.slice t) xs [.slice a n c])(F:i<=j)(J:j<=n):
  Reads w ok (.slice t) ((xs.take j).drop i) [.slice (if c=i then a else a.map (·.add (i*t.size))) (j-i) (c-i)]:=by
 obtain ⟨C,X,D,e,u,y,K,g⟩:=h;cases e;have u:n=List.length xs:=u;refine ⟨_,j-i,c-i,rfl,?_,om,om,fun E=>?_⟩
 ·show j-i=((xs.take j).drop i).length;simp;omega
 have o:c≠i:=om;rw[aD o];obtain ⟨b,f,rfl,s,m⟩:=g om;refine ⟨b,f+i*t.size,?_,s,fun q W=>?_⟩
 ·simp only[mR];congr 1
  unfold Addr.add;split<;>simp_all
 obtain ⟨x,z,A,B⟩:=m (i+q) om;refine ⟨x,z,?_,?_⟩
 ·have e1:f+i*t.size+q*t.size=f+(i+q)*t.size:=by rw[bI];omega
  rw[e1];exact A
 have e2:getD (α:=t.T) ((xs.take j).drop i) q t.dflt=getD (α:=t.T) xs (i+q) t.dflt:=by
  have:i+q<j:=om;simp[aB,aX,aL,this]
 have:getD (α:=t.T) (List.drop i (List.take j xs)) q t.dflt=getD (α:=t.T) xs (i+q) t.dflt:=e2;rw[this];exact B
theorem RelO.none {E:Env}{v:Option Value}(h:RelO E none v):v=Option.none:=by cases v with
 | none=>rfl
 | some v=>cases h
theorem RelO.int {E:Env}{k:IntKind}{n:Int}{v:Option Value}(h:RelO E (some (.val (.int k n))) v):v=some (.int k n):=by cases v with
 | none=>cases h
 | some v=>cases (show Rel E _ v from h);rfl
theorem Nb {E:Env}{t:Ty}{xs:List t.T}{lo hi:Option SV}{g f:Option Value}{K:SV->Prop}(h:wD t xs lo hi K)(n:RelO E lo g)(m:RelO E hi f):
  ∃i j,Cut xs.length g f i j/\K (.seq t ((xs.take j).drop i)):=by
 unfold wD at h;split at h
 ·exact ⟨0,xs.length,⟨.inl ⟨n.none,rfl⟩,.inl ⟨m.none,rfl⟩,aF _,aI _⟩,by simpa using h⟩
 ·rename_i k i;have e1:=n.int;have e2:=m.none;have c:=h.ok;have e:=h.go.use c.1;refine ⟨i.toNat,xs.length,⟨.inr ⟨k,?_⟩,.inl ⟨e2,rfl⟩,om,aI _⟩,by simpa using e⟩;rw[e1,dS c.1]
 ·rename_i k j;have e1:=n.none;have e2:=m.int;have c:=h.ok;have e:=h.go.use c.1;refine ⟨0,j.toNat,⟨.inl ⟨e1,rfl⟩,.inr ⟨k,?_⟩,aF _,om⟩,by simpa using e⟩;rw[e2,dS c.1]
 ·rename_i k i o j;have e1:=n.int;have e2:=m.int;have c:=h.ok;have e:=(h.go.use c.1).use om;refine ⟨i.toNat,j.toNat,⟨.inr ⟨k,?_⟩,.inr ⟨o,?_⟩,om,om⟩,e⟩
  ·rw[e1,dS c.1]
  rw[e2,dS om]
 cases h
theorem Nc {E:Env}{s:Bx}{lo hi:Option SV}{g f:Option Value}{K:SV->Prop}(h:Lh s lo hi K)(n:RelO E lo g)(m:RelO E hi f):
  ∃i j,Cut s.length g f i j/\K (.str ((s.take j).drop i)):=by
 unfold Lh at h;split at h
 ·exact ⟨0,s.length,⟨.inl ⟨n.none,rfl⟩,.inl ⟨m.none,rfl⟩,aF _,aI _⟩,by simpa using h⟩
 ·rename_i k i;have e1:=n.int;have e2:=m.none;have c:=h.ok;have e:=h.go.use c.1;refine ⟨i.toNat,s.length,⟨.inr ⟨k,?_⟩,.inl ⟨e2,rfl⟩,om,aI _⟩,by simpa using e⟩;rw[e1,dS c.1]
 ·rename_i k j;have e1:=n.none;have e2:=m.int;have c:=h.ok;have e:=h.go.use c.1;refine ⟨0,j.toNat,⟨.inl ⟨e1,rfl⟩,.inr ⟨k,?_⟩,aF _,om⟩,by simpa using e⟩;rw[e2,dS c.1]
 ·rename_i k i o j;have e1:=n.int;have e2:=m.int;have c:=h.ok;have e:=(h.go.use c.1).use om;refine ⟨i.toNat,j.toNat,⟨.inr ⟨k,?_⟩,.inr ⟨o,?_⟩,om,om⟩,e⟩
  ·rw[e1,dS c.1]
  rw[e2,dS om]
 cases h
theorem Tz {t e:TypeId}(J:P.underlying t=some (.slice e)){A:Nat}(F:jQ P e=some A){E:Env}{ty:Ty}{xs:List ty.T}{x:Value}(W:Rel E (.seq ty xs) x)(z:A=ty.size){lo hi:Option SV}{g f:Option Value}{K:SV->Prop}(h:wD ty xs lo hi K)(D:RelO E lo g)(B:RelO E hi f):∃v s,(Instr.sliceAt t x g f none).run P w= .ok v w/\K s/\Rel E s v:=by
 cases W with
 | seq _ _ _ hr=>
  obtain ⟨i,j,m,C⟩:=Nb h D B;have y:=hr;obtain ⟨a,n,c,e,o,u,X,_⟩:=y;cases e;have o:n=List.length xs:=o;rw[<- o] at m;refine ⟨_,_,wR J F m u,C,.seq _ _ _ ?_⟩;rw[z];exact GK hr m.le m.len
theorem Nd (W:Inv G H loc ver w){nm v:Nat}{ty:Ty}{xs:List ty.T}{f:TypeId}(z:H[nm]? =some (.vec v ty xs f))(c:nm<H.length){j:Nat}(s:j<=(loc nm).len):
  Inv G (cA H nm (.vec (v+1) ty (xs.take j) f)) (sV loc nm ⟨⟨(loc nm).blk,j,(loc nm).cap⟩,(loc nm).al,(loc nm).sub⟩) (sV ver nm (v+1)) w/\
  Ext (envOf G H loc ver w) (envOf G (cA H nm (.vec (v+1) ty (xs.take j) f)) (sV loc nm ⟨⟨(loc nm).blk,j,(loc nm).cap⟩,(loc nm).al,(loc nm).sub⟩) (sV ver nm (v+1)) w):=by
  have hO:=W.objs nm _ z;obtain ⟨hv,a1,x,y,vs,m,C⟩:=hO;have E:(loc nm).len=length (α:=ty.T) xs:=x;have u:H[nm]? =some (.vec v ty xs f):=z;have a0:∀o,H[nm]? =some o->o= .vec v ty xs f:=fun o Y=>by rw[u] at Y;cases Y;rfl
  exact W.turn (w':=w) (H':=cA H nm (.vec (v+1) ty (xs.take j) f)) (loc':=sV loc nm ⟨⟨(loc nm).blk,j,(loc nm).cap⟩,(loc nm).al,(loc nm).sub⟩) (ver':=sV ver nm (v+1)) nm (by simp[cA]) (fun k D=>⟨bS D,dJ _ _ _ D,dJ _ _ _ D⟩)
   (fun _=>eJ (aP c) rfl) (fun _=>.inr ⟨om,by rw[bF];omega⟩) (aI _) rfl rfl rfl (by rw[u];intro h;cases h) (fun _=>by rw[show cA H nm _=H.set nm _ from rfl,aP c];intro h;cases h)
   (by
    intro st n it b Z
    rw[show cA H nm _=H.set nm _ from rfl,aP c] at Z;cases Z)
   (fun _ _ _=>rfl)
   (by
    intro o' b e X;rw[show cA H nm (.vec (v+1) ty (xs.take j) f)=H.set nm _ from rfl,aP c] at e;cases e;rw[bF] at X
    exact .inl ⟨_,u,X⟩)
   (by
    intro A o' e;rw[show cA H nm (.vec (v+1) ty (xs.take j) f)=H.set nm _ from rfl,aP c] at e;cases e;rw[bF,bF];refine ⟨rfl,iP _,?_,bA s y,vs.take (j*ty.size),?_,fun i hi=>?_⟩
    ·show j=(xs.take j).length;rw[aW];omega
    ·refine ⟨?_,?_⟩
     ·show (vs.take (j*ty.size)).length=j*ty.size;rw[aW,m.1];exact dB (aN _ s)
     rcases cW m with ⟨B,J,K,_⟩ | ⟨g,cur,B,J,K,c4,c5,c6,c7⟩
     ·left
      have:j=0:=om;subst this;simp[Core.head,B,J]
     right
     refine ⟨g,(loc nm).cap,cur,by simp[Core.head,B],aF _,K,by show j<= _;omega,c5,c6,?_⟩;show cur.toList.take (j*ty.size)= _;rw[<- c7,fP];congr 1
     exact (dB (aN _ s)).symm
    have hi:i<j:=hi;have e1:getD (α:=ty.T) (xs.take j) i ty.dflt=getD (α:=ty.T) xs i ty.dflt:=by
     simp[aB,aL,hi]
    have e2:((vs.take (j*ty.size)).drop (i*ty.size)).take ty.size=(vs.drop (i*ty.size)).take ty.size:=by
     have hm:i*ty.size+ty.size<=j*ty.size:=by
      have:(i+1)*ty.size<=j*ty.size:=aN _ hi;rwa [bI,cX] at this
     rw[nU,fP];congr 1
     omega
    have F:=(C i (by show i<(loc nm).len;omega)).mono A.cell A.ok;show Reads _ _ ty (getD (α:=ty.T) (List.take j xs) i ty.dflt) _;rw[show getD (α:=ty.T) (List.take j xs) i ty.dflt=getD (α:=ty.T) xs i ty.dflt from e1,e2]
    exact F)
theorem Ua (W:Inv G H loc ver w){t e:TypeId}(hu:P.underlying t=some (.slice e)){F:Nat}(hs:jQ P e=some F){nm k:Nat}{x:Value}{lo hi:Option SV}{C B:Option Value}{K:SV->List HO->Prop}(h:match lo,hi with
     | none,some (.val (.int _ j))=>(match bX H nm with
      | .vec v ty xs J=>bif Nat.beq v k&&Nat.beq F ty.size then Need (0<=j/\j<=xs.length) (Ix j fun j=>dQ (cA H nm (.vec (v+1) ty (xs.take j) J)) fun H'=>K (.ref nm (v+1)) H') else False
      | _=>False)
     | _,_=>False)(A:Rel (envOf G H loc ver w) (.ref nm k) x)(hl:RelO (envOf G H loc ver w) lo C)(hh:RelO (envOf G H loc ver w) hi B):
  ∃v,(Instr.sliceAt t x C B none).run P w= .ok v w/\Res G (envOf G H loc ver w) K v w:=by
 split at h;case h_2=>cases h
 rename_i k' j;have e1:=hl.none;have e2:=hh.int;subst e1 e2;split at h;case h_2=>cases h
 rename_i v ty xs J ho;have h':=bD h;clear h;obtain ⟨X,h⟩:=h';simp only[aG,bM] at X;obtain ⟨D,a0⟩:=X;subst D;obtain ⟨⟨j0,j1⟩,h⟩:=h;have h:=h.use j0;rw[cD] at h;obtain ⟨j,rfl⟩:=bL j0;rw[aU] at h;have z:=bB ho si;have hO:=W.objs nm _ z;obtain ⟨hv,a2,s,Z,vs,y,a1⟩:=hO;have E:(loc nm).len=xs.length:=s;have o:j<=(loc nm).len:=om;cases A with
 | ref _ _ _ hn h0 hk A=>
  have A:=A hv.symm;subst A;have m:(loc nm).len<=(loc nm).cap:=by
   rcases cW y with ⟨_,c1,c2,_⟩ | ⟨g,cur,_,_,_,c3,_⟩<;>omega
  have f:=wR (P:=P) (w:=w) hu hs (a:=(loc nm).blk.map fun p=>(⟨p.1,p.2,none⟩:Addr)) (n:=(loc nm).len) (c:=(loc nm).cap) (lo:=none) (hi:=some (.int k' (j:Int))) (i:=0) (j:=j) ⟨.inl ⟨rfl,rfl⟩,.inr ⟨k',rfl⟩,aF _,o⟩ m;have ea:(if (loc nm).cap=0 then ((loc nm).blk.map fun p=>(⟨p.1,p.2,none⟩:Addr)) else ((loc nm).blk.map fun p=>(⟨p.1,p.2,none⟩:Addr)).map (·.add (0*F)))=(loc nm).blk.map fun p=>(⟨p.1,p.2,none⟩:Addr):=by
   cases (loc nm).blk<;>simp[Addr.add]
  rw[ea] at f;have u:nm<H.length:=iN hn;have Y:=Nd W z u o;refine ⟨.slice ((loc nm).blk.map fun p=>(⟨p.1,p.2,none⟩:Addr)) j (loc nm).cap,by simpa [Core.head,envOf] using f,_,_,_,_,h,Y.1,?_,Y.2⟩;refine .ref _ _ _ (by exact eJ (aP u) rfl) (iP _) (by simp[envOf,bF]) fun _=>?_;simp[envOf,bF,Core.head]
theorem Yl {E:Env}{n:Nat}{lo hi:Option SV}{g f:Option Value}{K:Nat->Nat->Prop}(h:DH n lo hi K)(o:RelO E lo g)(m:RelO E hi f):
  ∃i j,Cut n g f i j/\K i j:=by
 unfold DH at h;split at h
 ·exact ⟨0,n,⟨.inl ⟨o.none,rfl⟩,.inl ⟨m.none,rfl⟩,aF _,aI _⟩,h⟩
 ·rename_i k i;have e1:=o.int;have e2:=m.none;have c:=h.ok;have e:=h.go.use c.1;refine ⟨i.toNat,n,⟨.inr ⟨k,?_⟩,.inl ⟨e2,rfl⟩,om,aI _⟩,e⟩;rw[e1,dS c.1]
 ·rename_i k j;have e1:=o.none;have e2:=m.int;have c:=h.ok;have e:=h.go.use c.1;refine ⟨0,j.toNat,⟨.inl ⟨e1,rfl⟩,.inr ⟨k,?_⟩,aF _,om⟩,e⟩;rw[e2,dS c.1]
 ·rename_i k i s j;have e1:=o.int;have e2:=m.int;have c:=h.ok;have e:=(h.go.use c.1).use om;refine ⟨i.toNat,j.toNat,⟨.inr ⟨k,?_⟩,.inr ⟨s,?_⟩,om,om⟩,e⟩
  ·rw[e1,dS c.1]
  rw[e2,dS om]
 cases h
theorem BZ (E:Inv G H loc ver w){t e:TypeId}(hu:P.underlying t=some (.slice e)){D:Nat}(hs:jQ P e=some D){nm k:Nat}{x:Value}{lo hi:Option SV}{A z:Option Value}{K:SV->List HO->Prop}(h:match bX H nm with
      | .vec v ty xs _=>bif Nat.beq v k&&Nat.beq D ty.size then DH xs.length lo hi fun i j=>K (.part nm v i j D) H else False
      | _=>False)(y:Rel (envOf G H loc ver w) (.ref nm k) x)(hl:RelO (envOf G H loc ver w) lo A)(hh:RelO (envOf G H loc ver w) hi z):
  ∃v,(Instr.sliceAt t x A z none).run P w= .ok v w/\Res G (envOf G H loc ver w) K v w:=by
 split at h;case h_2=>cases h
 rename_i v ty xs e' ho;have W:=bD h;clear h;obtain ⟨F,h⟩:=W;simp only[aG,bM] at F;obtain ⟨C,Z⟩:=F;subst C;have Y:=E.objs nm _ (bB ho si);obtain ⟨hv,a1,o,J,vs,s,a0⟩:=Y;have f:(loc nm).len=xs.length:=o;cases y with
 | ref _ _ _ hn h0 hk y=>
  have y:=y hv.symm;subst y;have m:(loc nm).len<=(loc nm).cap:=by
   rcases cW s with ⟨_,c1,c2,_⟩ | ⟨g,cur,_,_,_,c3,_⟩<;>omega
  obtain ⟨i,j,B,X⟩:=Yl h hl hh;rw[<- f] at B;have u:=wR (P:=P) (w:=w) hu hs (a:=(loc nm).blk.map fun p=>(⟨p.1,p.2,none⟩:Addr)) (n:=(loc nm).len) (c:=(loc nm).cap) B m;exact ⟨_,u,_,H,loc,ver,X,E,.part _ _ _ _ _ _ hn h0 hk fun _=>⟨B.le,B.len,rfl⟩,Ext.refl _⟩
theorem Ym {n c:Nat}{k k':IntKind}{a b:Nat}(e:a<=b)(f:b<=c):(Instr.sliceBounds true n c (some (.int k (a:Int))) (some (.int k' (b:Int))) none).run P w= .ok (a,b,c) w:=by
 simp[Instr.sliceBounds,go_sem,lG (P:=P) (w:=w) (k:=k') (i:=(b:Int)) (y:=c) _ ⟨om,om⟩,lG (P:=P) (w:=w) (k:=k) (i:=(a:Int)) (y:=b) _ ⟨om,om⟩]
theorem B0 {t e:TypeId}{f:Nat}(s:P.underlying t=some (.slice e))(o:jQ P e=some f){ad:Option Addr}{n c:Nat}{k k':IntKind}{a b:Nat}(g:a<=b)(m:b<=c):
  (Instr.sliceAt t (.slice ad n c) (some (.int k (a:Int))) (some (.int k' (b:Int))) none).run P w= .ok (.slice (if c=a then ad else ad.map (·.add (a*f))) (b-a) (c-a)) w:=by
 simp[Instr.sliceAt,Instr.slice,run_underlying s,Ym (P:=P) (w:=w) g m,iI o,go_sem]
theorem B1 {t e:TypeId}{f:Nat}(s:P.underlying t=some (.slice e))(o:jQ P e=some f){ad:Option Addr}{n c:Nat}{k k' k'':IntKind}{a b m:Nat}(u:a<=b)(x:b<=m)(z:m<=c):
  ∃v,(Instr.sliceAt t (.slice ad n c) (some (.int k (a:Int))) (some (.int k' (b:Int))) (some (.int k'' (m:Int)))).run P w= .ok v w:=by
 have g:(Instr.sliceBounds true n c (some (.int k (a:Int))) (some (.int k' (b:Int))) (some (.int k'' (m:Int)))).run P w= .ok (a,b,m) w:=by
  simp[Instr.sliceBounds,go_sem,lG (P:=P) (w:=w) (k:=k'') (i:=(m:Int)) (y:=c) _ ⟨om,om⟩,lG (P:=P) (w:=w) (k:=k') (i:=(b:Int)) (y:=m) _ ⟨om,om⟩,lG (P:=P) (w:=w) (k:=k) (i:=(a:Int)) (y:=b) _ ⟨om,om⟩]
 refine ⟨.slice (if m=a then ad else ad.map (·.add (a*f))) (b-a) (m-a),?_⟩;simp[Instr.sliceAt,Instr.slice,run_underlying s,g,iI o,go_sem]
theorem Yn {t e:TypeId}{f:Nat}(o:P.underlying t=some (.slice e))(m:jQ P e=some f){ad:Option Addr}{n c:Nat}{k' k'':IntKind}{b:Nat}(s:b<=c):
  (Instr.sliceAt t (.slice ad n c) none (some (.int k' (b:Int))) (some (.int k'' (b:Int)))).run P w= .ok (.slice (if b=0 then ad else ad.map (·.add (0*f))) (b-0) (b-0)) w:=by
 have g:(Instr.sliceBounds true n c none (some (.int k' (b:Int))) (some (.int k'' (b:Int)))).run P w= .ok (0,b,b) w:=by
  simp[Instr.sliceBounds,go_sem,lG (P:=P) (w:=w) (k:=k'') (i:=(b:Int)) (y:=c) _ ⟨om,om⟩,lG (P:=P) (w:=w) (k:=k') (i:=(b:Int)) (y:=b) _ ⟨om,om⟩]
 simp[Instr.sliceAt,Instr.slice,run_underlying o,g,iI m,go_sem]
theorem Nf (z:Inv G H loc ver w){t:TypeId}{s:SV}{x:Value}{lo hi mx:Option SV}{W J vmx:Option Value}{K:SV->List HO->Prop}(h:Li P t H s lo hi mx K)(hx:Rel (envOf G H loc ver w) s x)(hl:RelO (envOf G H loc ver w) lo W)(hh:RelO (envOf G H loc ver w) hi J)(hm:RelO (envOf G H loc ver w) mx vmx):
  ∃v,(Instr.sliceAt t x W J vmx).run P w= .ok v w/\Res G (envOf G H loc ver w) K v w:=by
 unfold Li at h;split at h;case h_3=>cases h
 ·rename_i e f k k1 a k2 b k3 c Z;have hu:=fS Z;split at h;case h_2=>cases h
  rename_i sz v ty xs e' hs D;have X:=bD h;clear h;obtain ⟨Y,h⟩:=X;obtain rfl:=bM.1 Y;obtain ⟨⟨q1,q2,q3,q4⟩,A⟩:=h;have e1:=hl.int;have e2:=hh.int;have e3:=hm.int;subst e1 e2 e3;obtain ⟨rfl,_⟩:=sH z hx D;obtain ⟨hv,F,o,C,vs,u,a0⟩:=z.objs f _ (bB D si);have y:(loc f).len=length (α:=ty.T) xs:=o;have B:(loc f).len<=(loc f).cap:=by
   rcases cW u with ⟨_,c1,c2,_⟩ | ⟨g,cur,_,_,_,c3,_⟩<;>omega
  obtain ⟨a,rfl⟩:=bL q1;obtain ⟨b,rfl⟩:=bL (show 0<=b by omega);obtain ⟨c,rfl⟩:=bL (show 0<=c by omega);obtain ⟨v',hr⟩:=B1 (P:=P) (w:=w) hu hs (ad:=(loc f).blk.map fun p=>(⟨p.1,p.2,none⟩:Addr)) (n:=(loc f).len) (c:=(loc f).cap) (k:=k1) (k':=k2) (k'':=k3) (a:=a) (b:=b) (m:=c) om om om;exact ⟨v',by simpa [Core.head] using hr,Res.pure z A (.any _)⟩
 rename_i e f k k2 a k3 b Z;have hu:=fS Z;split at h;case h_2=>cases h
 rename_i sz v ty xs e' hs D;have X:=bD h;clear h;obtain ⟨Y,h⟩:=X;obtain rfl:=bM.1 Y;obtain ⟨⟨q1,rfl,q3⟩,A⟩:=h;obtain ⟨i,rfl⟩:=bL q1;have A:=A.go i rfl;have e1:=hl.none;have e2:=hh.int;have e3:=hm.int;subst e1 e2 e3;have hn:lE H f=true:=by
  cases hx with
  | ref _ _ _ hn h0 hk hv=>exact hn
 obtain ⟨rfl,_⟩:=sH z hx D;obtain ⟨hv,F,o,C,vs,u,a0⟩:=z.objs f _ (bB D si);have y:(loc f).len=length (α:=ty.T) xs:=o;have B:(loc f).len<=(loc f).cap:=by
  rcases cW u with ⟨_,c1,c2,_⟩ | ⟨g,cur,_,_,_,c3,_⟩<;>omega
 have hr:=Yn (P:=P) (w:=w) hu hs (ad:=(loc f).blk.map fun p=>(⟨p.1,p.2,none⟩:Addr)) (n:=(loc f).len) (c:=(loc f).cap) (k':=k2) (k'':=k3) (b:=i) om;refine ⟨_,by simpa [Core.head] using hr,_,_,_,_,A,z,?_,Ext.refl _⟩
 exact Rel.lim (E:=envOf G H loc ver w) f v i sz _ hn F (kU hv.symm) fun _=>⟨by show i<=(loc f).len;omega,by
  show _=Value.slice ((loc f).blk.map fun p=>(⟨p.1,p.2,none⟩:Addr)) i i
  cases hbk:(loc f).blk<;>simp[Addr.add]⟩
theorem Pt (m:Inv G H loc ver w){t:TypeId}{s:SV}{x:Value}{lo hi:Option SV}{W J:Option Value}{K:SV->List HO->Prop}(h:Sr P t H s lo hi K)(D:Rel (envOf G H loc ver w) s x)(B:RelO (envOf G H loc ver w) lo W)(A:RelO (envOf G H loc ver w) hi J):
  ∃v,(Instr.sliceAt t x W J none).run P w= .ok v w/\Res G (envOf G H loc ver w) K v w:=by
 unfold Sr at h;split at h
 ·rename_i e C;split at h
  ·rename_i sz Z;split at h
   ·rename_i ty xs;obtain ⟨o,h⟩:=bD h;obtain ⟨v,s',h1,h2,h3⟩:=Tz (P:=P) (w:=w) C Z D (bM.1 o) h B A;exact ⟨v,h1,s',H,loc,ver,h2,m,h3,Ext.refl _⟩
   ·have e:x= .slice none 0 0:=by cases D;rfl
    subst e;split at h
    ·rename_i k j;have e1:=B.none;have e2:=A.int;subst e1 e2;have hj:j=0:=by have:=h.ok;omega
     subst hj;refine ⟨.slice none 0 0,?_,_,H,loc,ver,h.go,m,.val _ (by trivial),Ext.refl _⟩;have:=wR (P:=P) (w:=w) C Z (a:=none) (n:=0) (c:=0) (lo:=none) (hi:=some (.int k ((0:Nat):Int))) (i:=0) (j:=0) ⟨.inl ⟨rfl,rfl⟩,.inr ⟨k,rfl⟩,aI _,aI _⟩ (aI _);simpa using this
    split at h
    ·rename_i ty b1;obtain ⟨o,h⟩:=bD h;obtain ⟨v,s',h1,h2,h3⟩:=Tz (P:=P) (w:=w) C Z (E:=envOf G H loc ver w) (xs:=([]:List ty.T)) (.seq _ _ _ (Bl _ _ _)) (bM.1 o) h B A;exact ⟨v,h1,s',H,loc,ver,h2,m,h3,Ext.refl _⟩
    cases h
   ·rename_i f k j z;split at h;case h_2=>cases h
    rename_i v ty xs e' ho;have h':=bD h;clear h;obtain ⟨o,h⟩:=h';simp only[aG,bM] at o;obtain ⟨rfl,a2,rfl⟩:=o;unfold DI at h;split at h;case h_2=>cases h
    rename_i k1 a k2 b;have e1:=B.int;have e2:=A.int;subst e1 e2;obtain ⟨⟨q1,q2,q3⟩,hK⟩:=h;have hK:=(hK.use q1).use om;obtain ⟨a,rfl⟩:=bL q1;obtain ⟨b,rfl⟩:=bL (show 0<=b by omega);simp only[aU] at hK;obtain ⟨hv,a8,u,a3,vs,X,a5⟩:=m.objs f _ (bB ho si);have y:(loc f).len=length (α:=ty.T) xs:=u;have a':(loc f).len<=(loc f).cap:=by
     rcases cW X with ⟨_,c1,c2,_⟩ | ⟨g,cur,_,_,_,c3,_⟩<;>omega
    cases D with
    | part _ _ _ _ _ _ hn h0 hk hq=>
     obtain ⟨_,hj,rfl⟩:=hq hv.symm;have e0:(if ((envOf G H loc ver w).loc f).cap=0 then ((envOf G H loc ver w).loc f).blk.map (fun p=>(⟨p.1,p.2,none⟩:Addr)) else (((envOf G H loc ver w).loc f).blk.map fun p=>(⟨p.1,p.2,none⟩:Addr)).map (·.add (0*ty.size)))=(loc f).blk.map fun p=>(⟨p.1,p.2,none⟩:Addr):=by
      show (if (loc f).cap=0 then _ else _)= _;cases h:(loc f).blk<;>simp[envOf,h,Addr.add]
     rw[e0];have hr:=B0 (P:=P) (w:=w) C Z (ad:=(loc f).blk.map fun p=>(⟨p.1,p.2,none⟩:Addr)) (n:=j-0) (c:=(loc f).cap-0) (k:=k1) (k':=k2) (a:=a) (b:=b) om om;refine ⟨_,hr,_,H,loc,ver,hK,m,.part _ _ _ _ _ _ hn h0 hk fun _=>⟨om,by show b<=(loc f).len;omega,?_⟩,Ext.refl _⟩;rw[jP,a2];exact rfl
   ·rename_i f k;split at h
    ·rename_i k' j;have e1:=B.none;have e2:=A.int;subst e1 e2;split at h
     ·rename_i v ty e' ho;obtain ⟨o,h⟩:=bD h;simp only[aG,bM] at o;obtain ⟨a4,a2⟩:=o;subst a4;have hj:j=0:=by have:=h.ok;omega
      subst hj;have hO:=m.objs f _ (bB ho si);obtain ⟨hv,a8,u,a3,vs,X,a5⟩:=hO;have y:(loc f).len=0:=u;cases D with
      | wide _ _ _ hn h0 hk h=>
       obtain ⟨n,a0,D⟩:=h hv.symm;subst D;have a0:n<=(loc f).cap:=a0;have Y:=wR (P:=P) (w:=w) C Z (a:=(loc f).blk.map fun p=>(⟨p.1,p.2,none⟩:Addr)) (n:=n) (c:=(loc f).cap) (lo:=none) (hi:=some (.int k' ((0:Nat):Int))) (i:=0) (j:=0) ⟨.inl ⟨rfl,rfl⟩,.inr ⟨k',rfl⟩,aI _,aF _⟩ a0;refine ⟨(loc f).head,?_,_,H,loc,ver,(show K (.ref f v) H from ‹Need _ _›.go),m,.ref _ _ _ hn h0 hk fun _=>rfl,Ext.refl _⟩;have e1:(if (loc f).cap=0 then ((loc f).blk.map fun p=>(⟨p.1,p.2,none⟩:Addr)) else ((loc f).blk.map fun p=>(⟨p.1,p.2,none⟩:Addr)).map (·.add (0*sz)))=(loc f).blk.map fun p=>(⟨p.1,p.2,none⟩:Addr):=by
        cases (loc f).blk<;>simp[Addr.add]
       rw[e1] at Y;simpa [Core.head,y,envOf] using Y
     cases h
    cases h
   ·rename_i f k;rcases h.or with h | h;case inr=>exact BZ m C Z h D B A
    rcases h.or with h | h;case inr=>exact Ua m C Z h D B A
    rw[cD] at h;obtain ⟨a1,F⟩:=Dj (.ref f k) m;have hv:=lZ a1 (D.ext F);split at h
    ·rename_i ty xs a9;rw[a9] at hv;obtain ⟨o,h⟩:=bD h;have a7:RelO (envOf G (Pd H (.ref f k)) loc ver w) lo W:=by
      cases lo<;>cases W<;>first | trivial | exact B.elim | exact (show Rel _ _ _ from B).ext F
     have a6:RelO (envOf G (Pd H (.ref f k)) loc ver w) hi J:=by
      cases hi<;>cases J<;>first | trivial | exact A.elim | exact (show Rel _ _ _ from A).ext F
     obtain ⟨v,s',h1,h2,h3⟩:=Tz (P:=P) (w:=w) C Z hv (bM.1 o) h a7 a6;exact ⟨v,h1,s',_,loc,ver,h2,a1,h3,F⟩
    cases h
   cases h
  cases h
 ·rename_i C;split at h
  ·rename_i s;obtain ⟨i,j,hc,hk⟩:=Nc h B A;cases D with
   | str _ hm=>
    refine ⟨.string ⟨((s.take j).drop i).toArray⟩,?_,_,H,loc,ver,hk,m,.str _ ?_,Ext.refl _⟩
    ·have e1:(⟨s.toArray⟩:ByteArray).size=s.length:=by simp[ByteArray.size]
     have e2:(⟨s.toArray⟩:ByteArray).extract i j= ⟨((s.take j).drop i).toArray⟩:=by
      apply WideShapes.bytes_inj;simp[ByteArray.data_extract,nU]
     simp only[Instr.sliceAt,Instr.slice];simp[run_underlying C,e1,Na (P:=P) (w:=w) hc (aI _),go_sem,e2]
    simp;omega
  cases h
 cases h
end
end Go.Eng
end
section
namespace Go.Eng
open Go.RowKit
section
variable {P:Program} {G:Ctx} {H:List HO} {loc:Nat->Loc} {ver:Nat->Nat} {w:World}
theorem mJ {α:Type}(xs c:List α)(i:Nat)(h:i+c.length<=xs.length):(jK xs i c).length=xs.length:=by
 simp[jK];omega
theorem zW {α:Type}(xs c:List α)(i:Nat)(h:i+c.length<=xs.length)(q:Nat):(jK xs i c)[q]? =if i<=q/\q<i+c.length then c[q-i]? else xs[q]? :=by
 unfold jK;by_cases e:q<i
 ·rw[bN (by simp;omega),aL,aE e,aD om]
 rw[cN (by simp;omega),aW,dB om];by_cases f:q<i+c.length
 ·rw[bN om,aE ⟨om,f⟩]
 rw[cN om,aD om,aX];congr 1;omega
theorem Th (c:Inv G H loc ver w){t u ty0:TypeId}{x y:SV}{p q:Value}{K:SV->List HO->Prop}(h:IH P t H x y K)(e:Rel (envOf G H loc ver w) x p)(f:Rel (envOf G H loc ver w) y q):
  ∃v w',(Builtin.copy_ #[t,u] ty0 #[p,q]).run P w= .ok v w'/\Res G (envOf G H loc ver w) K v w':=False.elim h
end
end Go.Eng
end
section
namespace Go.Eng
open Go.RowKit
section
variable {P:Program} {G:Ctx} {H:List HO} {loc:Nat->Loc} {ver:Nat->Nat} {w:World}
theorem Ti (m:Inv G H loc ver w){s:SV}{x:Value}{K:SV->List HO->Prop}(h:BB H s K)(o:Rel (envOf G H loc ver w) s x):Res G (envOf G H loc ver w) K x w:=by
 unfold BB at h;split at h;case h_2=>exact Res.pure m h o
 rename_i c k j z;have u:=h.or;clear h;rcases u with h | h
 ·exact Res.pure m h o
 split at h;case h_2=>cases h
 rename_i v F J e D;have C:=bD h;clear h;obtain ⟨y,h⟩:=C;simp only[aG,bM] at y;obtain ⟨rfl,rfl⟩:=y;rw[cD] at h;have g:=bB D si;have E:=(m.objs c _ g).1;cases o with
 | part _ _ _ _ _ _ hn u hk hq=>
  obtain ⟨_,n,rfl⟩:=hq E.symm;have n:j<=(loc c).len:=n;have f:c<H.length:=iN hn;have A:=Nd m g f n;refine ⟨_,_,_,_,h,A.1,?_,A.2⟩;refine .ref _ _ _ (by exact eJ (aP f) rfl) (iP _) (by simp[envOf,bF]) fun _=>?_;have B:(if ((envOf G H loc ver w).loc c).cap=0 then ((envOf G H loc ver w).loc c).blk.map (fun p=>(⟨p.1,p.2,none⟩:Addr)) else (((envOf G H loc ver w).loc c).blk.map fun p=>(⟨p.1,p.2,none⟩:Addr)).map (·.add (0*F.size)))=(loc c).blk.map fun p=>(⟨p.1,p.2,none⟩:Addr):=by
   show (if (loc c).cap=0 then _ else _)= _;cases h:(loc c).blk<;>simp[envOf,h,Addr.add]
  rw[B];simp[envOf,bF,Core.head]
theorem Xf (hI:Inv G H loc ver w){t:Ty}{s:SV}{q:Value}{K:List t.T->Prop}(h:N4 H t s K)(hs:Rel (envOf G H loc ver w) s q):∃ys,K ys/\∃a c news,Src w (qW G H loc w) t ys q a c news:=by
 have A:Wj H t s K->∃ys,K ys/\∃a c news,Src w (qW G H loc w) t ys q a c news:=fun h=>by
  obtain ⟨ys,h2,h3⟩:=Qe h;exact ⟨ys,h3,Me hI h2 hs⟩
 unfold N4 at h;split at h;case h_2=>exact A h
 rename_i n k i j z;split at h;case h_2=>cases h
 rename_i v f C e' ho;have h':=bD h;clear h;obtain ⟨hb,h⟩:=h';simp only[aG,bM] at hb;obtain ⟨rfl,rfl⟩:=hb;by_cases e1:f=t;case neg=>rw[Gb e1] at h;cases h
 subst e1;simp only[dite_true] at h;rw[pZ] at h;have hO:=hI.objs n _ (bB ho si);obtain ⟨hv,a6,E,a3,vs,y,W⟩:=hO;have Y:(loc n).len=length (α:=f.T) C:=E;cases hs with
 | part _ _ _ _ _ _ hn h0 hk hq=>
  obtain ⟨X,D,rfl⟩:=hq hv.symm;have D:j<=(loc n).len:=D;have x:((C.take j).drop i).length=j-i:=by simp;omega
  have a4:=f.size_pos;by_cases B:j-i=0
  ·have e0:(C.take j).drop i= []:=cK (by rw[x];exact B);refine ⟨_,h,_,_,[],by rw[x],fun _=>by rw[x];exact B,by rw[x,B];simp,(fun ad e j u D=>by simp at D),fun q hq=>by rw[x] at hq;omega⟩
  rcases cW y with ⟨_,c1,c2,_⟩ | ⟨g,cur,c1,c2,c3,c4,c5,c6,c7⟩
  ·omega
  have a1:¬(loc n).cap=i:=om;have a2:vs.length=(loc n).len*f.size:=y.1;have a5:i*f.size<=j*f.size:=aN _ X;have Z:j*f.size<=(loc n).len*f.size:=aN _ D;have F:(j-i)*f.size=j*f.size-i*f.size:=Nat.sub_mul _ _ _;have ha:(if ((envOf G H loc ver w).loc n).cap=i then ((envOf G H loc ver w).loc n).blk.map (fun p=>(⟨p.1,p.2,none⟩:Addr)) else (((envOf G H loc ver w).loc n).blk.map fun p=>(⟨p.1,p.2,none⟩:Addr)).map (·.add (i*f.size)))=some ⟨g,i*f.size,none⟩:=by
   show (if (loc n).cap=i then _ else _)= _;rw[aD a1];show (((loc n).blk.map _).map _)= _;rw[c1];simp[Addr.add_mid]
  rw[ha];refine ⟨_,h,some ⟨g,i*f.size,none⟩,((envOf G H loc ver w).loc n).cap-i,(vs.take (j*f.size)).drop (i*f.size),by rw[x],(fun e=>by cases e),?_,fun ad e m u o=>?_,fun m o=>?_⟩
  ·rw[x,bT,aW,a2,F,dB Z]
  ·cases e;rw[Addr.add_mid];rw[aX,aL] at o;split at o
   ·rw[<- c7,aL] at o;split at o
    ·have J:w.heap[g]? =some (.cells cur _ (0,0)):=c3;simp only[World.cell?,J];simpa using o
    cases o
   cases o
  rw[x] at o;have e1:getD (α:=f.T) ((C.take j).drop i) m f.dflt=getD (α:=f.T) C (i+m) f.dflt:=by
   have:i+m<j:=om;simp[aB,aX,aL,this]
  have e2:(((vs.take (j*f.size)).drop (i*f.size)).drop (m*f.size)).take f.size=(vs.drop ((i+m)*f.size)).take f.size:=by
   have a0:(i+m+1)*f.size<=j*f.size:=aN _ om;rw[bI,cX] at a0;rw[dW,<- bI,nU,fP];congr 1;omega
  have hr:=W (i+m) (by show i+m<(loc n).len;omega);rw[e2];exact (show getD (α:=f.T) (List.drop i (List.take j C)) m f.dflt= _ from e1) ▸ hr
theorem F1 {vs news:List Value}{z i m q:Nat}(s:0<z)(n:news.length=m*z)(g:i*z+news.length<=vs.length):((jK vs (i*z) news).drop (q*z)).take z=if i<=q/\q<i+m then (news.drop ((q-i)*z)).take z else (vs.drop (q*z)).take z:=by
 apply eL;intro p;rw[aL];by_cases c:p<z
 ·rw[aE c,aX,zW _ _ _ g,n];by_cases h:i<=q/\q<i+m
  ·have f:i*z<=q*z:=aN _ h.1;have e:(q+1)*z<=(i+m)*z:=aN _ om;have o:(q-i)*z=q*z-i*z:=Nat.sub_mul _ _ _;rw[bI,cX,bI] at e;rw[aE h,aE ⟨om,om⟩,aL,aE c,aX];congr 1;omega
  rw[aD h,aL,aE c,aX];rw[aD];rintro ⟨f,e⟩;by_cases hi:i<=q
  ·have:(i+m)*z<=q*z:=aN _ om;rw[bI] at this;omega
  have:(q+1)*z<=i*z:=aN _ om;rw[bI,cX] at this;omega
 rw[aD c];split
 ·rw[aL,aD c]
 rw[aL,aD c]
theorem DY (hI:Inv G H loc ver w){nm v:Nat}{ty:Ty}{xs ys:List ty.T}{C:TypeId}(y:H[nm]? =some (.vec v ty xs C))(f:nm<H.length){i g:Nat}{cur:Array Value}{news:List Value}(Z:(loc nm).blk=some (g,0))(hg:w.heap[g]? =some (.cells cur C (0,0)))(hn:news.length=ys.length*ty.size)(c:i+ys.length<=xs.length)(a5:∀m,m<ys.length->Reads w (qW G H loc w) ty (getD (α:=ty.T) ys m ty.dflt) ((news.drop (m*ty.size)).take ty.size)):
  Inv G (cA H nm (.vec v ty (jK xs i ys) C)) loc ver (w.setRow g (jK cur.toList (i*ty.size) news).toArray)/\Ext (envOf G H loc ver w) (envOf G (cA H nm (.vec v ty (jK xs i ys) C)) loc ver (w.setRow g (jK cur.toList (i*ty.size) news).toArray)):=by
 have hO:=hI.objs nm _ y;obtain ⟨hv,a6,A,X,vs,B,a1⟩:=hO;have a2:(loc nm).len=length (α:=ty.T) xs:=A;have Y:=ty.size_pos;rcases cW B with ⟨E,_,_,_⟩ | ⟨g',J,E,c2,c3,c4,c5,c6,c7⟩
 ·rw[Z] at E;cases E
 rw[Z] at E;cases E;have F:w.heap[g]? =some (.cells J C (0,0)):=c3;rw[hg] at F;cases F;have D:vs.length=(loc nm).len*ty.size:=B.1;have a7:(i+ys.length)*ty.size<=(loc nm).len*ty.size:=aN _ om;have a8:(loc nm).len*ty.size<=(loc nm).cap*ty.size:=aN _ c4;have a9:=bI i ys.length ty.size;have s:i*ty.size+news.length<=vs.length:=by rw[hn,D];omega
 have a0:(loc nm).cap*ty.size<=cur.toList.length:=by simpa using c6
 have W:i*ty.size+news.length<=cur.toList.length:=by rw[hn];omega
 refine hI.turn (w':=w.setRow g (jK cur.toList (i*ty.size) news).toArray) (H':=cA H nm (.vec v ty (jK xs i ys) C)) (loc':=loc) (ver':=ver) nm (by simp[cA]) (fun m u=>⟨bS u,rfl,rfl⟩)
  (fun _=>eJ (aP f) rfl) (fun _=>.inl ⟨rfl,rfl,.inl rfl⟩) (by simp[World.setRow]) rfl rfl rfl (by rw[y];intro h;cases h) (fun _=>by rw[show cA H nm _=H.set nm _ from rfl,aP f];intro h;cases h)
  (by
   intro st n it b hq
   rw[show cA H nm _=H.set nm _ from rfl,aP f] at hq;cases hq)
  (fun b K a4=>setRow_other w g b _ (fun e=>a4 _ y (by simp[Owns,Z,e])))
  (by
   intro o' b o K;rw[show cA H nm _=H.set nm _ from rfl,aP f] at o;cases o
   exact .inl ⟨_,y,K⟩)
  (by
   intro z o' o;rw[show cA H nm _=H.set nm _ from rfl,aP f] at o;cases o;have a3:=mJ xs ys i c;refine ⟨hv,a6,by rw[a3];exact A,X,jK vs (i*ty.size) news,?_,fun m u=>?_⟩
   ·refine ⟨?_,.inr ⟨g,(loc nm).cap,(jK cur.toList (i*ty.size) news).toArray,?_,aF _,setRow_heap w g cur _ C _ hg,?_,c5,?_,?_⟩⟩
    ·rw[mJ _ _ _ s];exact D
    ·simp[Core.head,Z]
    ·show (loc nm).len<= _;omega
    ·rw[gY,mJ _ _ _ W];exact a0
    apply eL;intro m;rw[zW _ _ _ s,aL];show (if m<(loc nm).len*ty.size then (jK cur.toList (i*ty.size) news)[m]? else none)= _;rw[zW _ _ _ W,<- c7];by_cases u:i*ty.size<=m/\m<i*ty.size+news.length
    ·rw[aE u,aE u,aE (by rw[D] at s;omega)]
    rw[aD u,aD u,aL]
   have u:m<(loc nm).len:=u;rw[F1 (m:=ys.length) Y hn s];by_cases x:i<=m/\m<i+ys.length
   ·rw[aE x];have e1:getD (α:=ty.T) (jK xs i ys) m ty.dflt=getD (α:=ty.T) ys (m-i) ty.dflt:=by
     rw[aB,aB,zW _ _ _ c,aE x]
    exact (show getD (α:=ty.T) (jK xs i ys) m ty.dflt= _ from e1) ▸ (a5 (m-i) om).mono z.cell z.ok
   rw[aD x];have e1:getD (α:=ty.T) (jK xs i ys) m ty.dflt=getD (α:=ty.T) xs m ty.dflt:=by
    rw[aB,aB,zW _ _ _ c,aD x]
   exact (show getD (α:=ty.T) (jK xs i ys) m ty.dflt= _ from e1) ▸ (a1 m (by show m<(loc nm).len;omega)).mono z.cell z.ok)
theorem Xg {α:Type}(xs:List α)(i:Nat):jK xs i []=xs:=by simp[jK]
theorem Qi {nm:Nat}{o:HO}(h:H[nm]? =some o):cA H nm o=H:=by
 unfold cA;apply eL;intro m;rw[fY];split
 ·rename_i c;subst c;split
  ·exact h.symm
  rename_i e;rw[cO om]
 rfl
theorem Jm {t ty e:TypeId}{i:TypeInfo}(o:P.underlying t=some (.slice e))(hi:P.info? e=some i)(A:Option Addr){n c:Nat}(m:n<=c)(a:Option Addr)(f:Nat):
  (Builtin.append_ #[t,t] ty #[.slice A n c,.slice a 0 f]).run P w= .ok (.slice A n c) w:=by
 have g:(Builtin.firstCells i.size 0 (.slice a 0 f)).run P w= .ok #[] w:=by
  cases a with
  | none=>simp[Builtin.firstCells]
  | some ad=>simpa using run_firstCells_some (P:=P) w i.size 0 ad 0 f [] si (fun j v h=>by simp at h)
 cases A<;>simp[Builtin.append_,run_underlying o,sizeOf,typeInfo,hi,Builtin.lenOf,m,g,storeCells]
theorem F2 {i z g c:Nat}(e:i<c):(if c=i then (some (g,0):Option (Nat × Nat)).map (fun p=>(⟨p.1,p.2,none⟩:Addr)) else ((some (g,0):Option (Nat × Nat)).map fun p=>(⟨p.1,p.2,none⟩:Addr)).map (·.add (i*z)))=some ⟨g,i*z,none⟩:=by
 rw[aD om];simp[Addr.add_mid]
theorem Lv {z g c:Nat}:(if c=0 then (some (g,0):Option (Nat × Nat)).map (fun p=>(⟨p.1,p.2,none⟩:Addr)) else ((some (g,0):Option (Nat × Nat)).map fun p=>(⟨p.1,p.2,none⟩:Addr)).map (·.add (0*z)))=some ⟨g,0,none⟩:=by
 split<;>simp[Addr.add]
theorem Lw {ok:Nat->Prop}{t:Ty}{ys:List t.T}{news:List Value}(n:news.length=ys.length*t.size)(h:∀m,m<ys.length->Reads w ok t (getD (α:=t.T) ys m t.dflt) ((news.drop (m*t.size)).take t.size)):∀u∈news,u.oneCell'=true:=by
 intro u s;obtain ⟨j,f,rfl⟩:=fV s;have c:=t.size_pos;have g:j/t.size<ys.length:=by rw[Nat.div_lt_iff_lt_mul c,<- n];exact f
 have e:=Nat.div_add_mod j t.size;have o:=gP j c;rw[dY] at e;refine (h _ g).one _ ?_;apply kT (i:=j%t.size);rw[aL,aE o,aX,e,aY f]
theorem Pj (hI:Inv G H loc ver w){t ty0 e:TypeId}(hu:P.underlying t=some (.slice e)){nm k i z:Nat}{x:SV}{p q:Value}{K:SV->List HO->Prop}(h:Sm P H e nm k i z x K)(hs:Rel (envOf G H loc ver w) (.lim nm k i z) p)(hx:Rel (envOf G H loc ver w) x q):
  ∃v w',(Builtin.append_ #[t,t] ty0 #[p,q]).run P w= .ok v w'/\Res G (envOf G H loc ver w) K v w':=by
 unfold Sm at h;split at h;case h_2=>cases h
 rename_i E v ty xs e' hi ho;have h':=bD h;clear h;obtain ⟨Y,h⟩:=h';simp only[aG,bM] at Y;obtain ⟨⟨⟨rfl,rfl⟩,rfl⟩,⟨a3,a4⟩,A⟩:=Y;have a0:0<E.bytes:=by simpa using a4
 obtain ⟨zv,hz,b1⟩:∃z,E.zero=some z/\z.cells.size=ty.size:=by
  cases hz:E.zero with
  | none=>rw[hz] at A;cases A
  | some z=>rw[hz] at A;exact ⟨z,rfl,bM.1 A⟩
 have F:∀n:Nat,n*E.bytes<=140737488355328->n<=maxL:=fun n hn=>bA (eA n a0) hn;obtain ⟨ys,⟨hn,hk⟩,a,c,a2,y⟩:=Xf hI h hx;rw[cD] at hk;have B:=bB ho si;obtain ⟨hv,b3,a1,b2,vs,X,a5⟩:=hI.objs nm _ B;have a7:(loc nm).len=length (α:=ty.T) xs:=a1;cases hs with
 | lim _ _ _ _ _ hnm h0 hkk hq=>
  obtain ⟨Z,rfl⟩:=hq hv.symm;have Z:i<=(loc nm).len:=Z;have f:nm<H.length:=iN hnm;have W:i*ty.size<=(loc nm).len*ty.size:=aN _ Z;have a':vs.length=(loc nm).len*ty.size:=X.1;have hp:Value.slice (((envOf G H loc ver w).loc nm).blk.map fun p=>(⟨p.1,p.2,none⟩:Addr)) i i=(zT (loc nm).blk i i).head:=rfl;rw[hp];have s:w.ownsR 0 e ty.size (zT (loc nm).blk i i).head i (vs.take (i*ty.size)):=by
   refine ⟨by rw[aW,a'];exact dB W,?_⟩;rcases cW X with ⟨c1,c2,c3,_⟩ | ⟨g,cur,c1,c2,c3,c4,c5,c6,c7⟩
   ·left
    have:i=0:=om;subst this;simp[Core.head,c1]
   right
   refine ⟨g,i,cur,by simp[Core.head,c1],aF _,c3,aI _,om,bA (aN _ om) c6,?_⟩;rw[<- c7,fP];congr 1
   exact (dB W).symm
  obtain ⟨L',w',hr,u,hg,a6⟩:=qD (P:=P) (w:=w) (t:=t) (ty:=ty0) hu hi hz a3 b1 s y hn (F _ hn);obtain ⟨h1,h2,h3,h4,h5⟩:=hg;have hL:L'.len=i+ys.length:=by
   rcases cW u with ⟨_,_,e3,e4⟩ | ⟨g,cur,_,e2,_⟩<;>omega
  have b4:ver nm=v:=hv;have C:(xs.take i).length=i:=by rw[aW];omega
  have ht:=hI.turn (w':=w') (H':=cA H nm (.vec (v+1) ty (xs.take i++ys) e)) (loc':=sV loc nm L') (ver':=sV ver nm (v+1)) nm (by simp[cA]) (fun k hk=>⟨bS hk,dJ _ _ _ hk,dJ _ _ _ hk⟩)
   (fun _=>eJ (aP f) rfl) (fun _=>.inr ⟨om,by rw[bF];omega⟩) h4 h1 h2 h3 (by rw[B];intro h;cases h) (fun _=>by rw[show cA H nm _=H.set nm _ from rfl,aP f];intro h;cases h) (fun st n it b h=>by rw[show cA H nm (.vec (v+1) ty (xs.take i++ys) e)=H.set nm _ from rfl,aP f] at h;cases h) (fun b Y a9=>h5 b Y (by
    intro e
    exact a9 _ B (by simp only[Owns];exact e.symm)))
   (by
    intro o' b o Y;rw[show cA H nm (.vec (v+1) ty (xs.take i++ys) e)=H.set nm _ from rfl,aP f] at o;cases o;rw[bF] at Y;rcases a6 b Y with h | h
    ·exact .inl ⟨_,B,h⟩
    exact .inr h)
   (by
    intro D o' o;rw[show cA H nm (.vec (v+1) ty (xs.take i++ys) e)=H.set nm _ from rfl,aP f] at o;cases o;rw[bF,bF];refine ⟨rfl,iP _,by rw[hL,aO,C],by rw[hL];exact F _ hn,vs.take (i*ty.size)++a2,by rw[hL];exact u,fun m J=>?_⟩;rw[hL] at J;refine qE (t:=ty) (xs:=xs.take i) (ys:=ys) (ok':=fun _=>True) ?_ (fun m J=>?_) y.len (fun m J=>(y.rd m J).mono D.cell D.ok) m (by rw[C];exact J)
    ·rw[C];exact s.1
    rw[C] at J;have a8:(m+1)*ty.size<=i*ty.size:=aN _ J;rw[bI,cX] at a8;have e1:getD (α:=ty.T) (xs.take i) m ty.dflt=getD (α:=ty.T) xs m ty.dflt:=by
     simp[aB,aL,J]
    have e2:((vs.take (i*ty.size)).drop (m*ty.size)).take ty.size=(vs.drop (m*ty.size)).take ty.size:=by
     rw[nU,fP];congr 1;omega
    rw[e2]
    exact (show getD (α:=ty.T) (xs.take i) m ty.dflt= _ from e1) ▸ (a5 m (by show m<(loc nm).len;omega)).mono D.cell D.ok)
  refine ⟨_,_,hr,_,_,_,_,hk,ht.1,?_,ht.2⟩;refine .ref _ _ _ (by exact eJ (aP f) rfl) (iP _) (by simp[envOf,bF]) fun _=>?_;simp[envOf,bF]
theorem Pk (E:Inv G H loc ver w){t ty0:TypeId}{s x:SV}{p q:Value}{K:SV->List HO->Prop}(h:Sn P t H s x K)(hs:Rel (envOf G H loc ver w) s p)(hx:Rel (envOf G H loc ver w) x q):
  ∃v w',(Builtin.append_ #[t,t] ty0 #[p,q]).run P w= .ok v w'/\Res G (envOf G H loc ver w) K v w':=by
 unfold Sn at h;split at h;case h_2=>
  rename_i e m k i z he;exact Pj E (fS he) h hs hx
 case h_3=>cases h
 rename_i e m k i z he;have hu:=fS he;split at h;case h_2=>cases h
 rename_i y v C xs e' hi ho;have h':=bD h;clear h;obtain ⟨hb,h⟩:=h';simp only[aG,bM] at hb;obtain ⟨⟨rfl,rfl⟩,u,rfl⟩:=hb;obtain ⟨ys,⟨J,hk⟩,a,c,news,f⟩:=Xf E h hx;rw[cD] at hk;have o:=bB ho si;have hO:=E.objs m _ o;obtain ⟨hv,a6,W,a2,vs,n,a3⟩:=hO;have a0:(loc m).len=length (α:=C.T) xs:=W;cases hs with
 | part _ _ _ _ _ _ hn h0 hkk hq=>
  obtain ⟨_,hj,rfl⟩:=hq hv.symm;have hj:i<=(loc m).len:=hj;have X:m<H.length:=iN hn;have Z:=f.val;subst Z;have a1:(loc m).len<=(loc m).cap:=by
   rcases cW n with ⟨_,B,c2,_⟩ | ⟨g,cur,B,c2,c3,c4,c5,c6,c7⟩
   ·omega
   exact c4
  by_cases hz:ys.length=0
  ·have e0:ys= []:=cK hz;subst e0;rw[Xg,Qi o] at hk;refine ⟨_,w,Jm (P:=P) hu hi _ (by show i-0<=(loc m).cap-0;omega) a c,Res.pure E hk ?_⟩;exact .part m v 0 (i+0) _ _ hn h0 hkk fun _=>⟨aF _,hj,rfl⟩
  rcases cW n with ⟨_,B,c2,_⟩ | ⟨g,cur,B,c2,c3,c4,c5,c6,c7⟩
  ·omega
  obtain ⟨A,rfl⟩:∃A,a=some A:=by
   cases a with
   | none=>exact absurd (f.none rfl) hz
   | some A=>exact ⟨A,rfl⟩
  have D:w.heap[g]? =some (.cells cur e (0,0)):=c3;have a4:(i+ys.length)*C.size<=(loc m).cap*C.size:=aN _ om;have a5:=bI i ys.length C.size;have F:(if ((envOf G H loc ver w).loc m).cap=0 then ((envOf G H loc ver w).loc m).blk.map (fun p=>(⟨p.1,p.2,none⟩:Addr)) else (((envOf G H loc ver w).loc m).blk.map fun p=>(⟨p.1,p.2,none⟩:Addr)).map (·.add (0*C.size)))=some ⟨g,0,none⟩:=by
   show (if (loc m).cap=0 then (loc m).blk.map _ else ((loc m).blk.map _).map _)= _;rw[B];exact Lv
  have Y:=run_append_room (P:=P) w t ty0 e y hu hi g (i-0) ((loc m).cap-0) cur D A ys.length c news (by rw[u];exact f.len) (f.cell A rfl) (Lw f.len f.rd) om (by rw[u,f.len,jP];omega);rw[F];refine ⟨_,_,Y,?_⟩;have hf:=DY E o X (i:=i) (ys:=ys) (news:=news) B D f.len J f.rd;have ew:(cur.toList.take ((i-0)*y.size)++news++cur.toList.drop ((i-0)*y.size+news.length)).toArray=(jK cur.toList (i*C.size) news).toArray:=by
   rw[u,jP];simp[jK]
  rw[ew];refine ⟨_,_,_,_,hk,hf.1,?_,hf.2⟩;refine .part m v 0 (i+ys.length) _ _ (by exact eJ (aP X) rfl) h0 hkk fun _=>⟨aF _,?_,?_⟩
  ·show i+ys.length<=(loc m).len;omega
  show _=Value.slice (if (loc m).cap=0 then (loc m).blk.map _ else ((loc m).blk.map _).map _) _ _;rw[B,Lv];simp only[jP];rfl
theorem Pl {z:Array Value}{n j:Nat}(f:0<z.size)(e:j<n*z.size):(Builtin.zeroCells z n).toList[j]? =z.toList[j%z.size]? :=by
 have c:=gP j f;simp[Builtin.zeroCells,e,c]
theorem Lx {z:Array Value}{n m:Nat}(g:0<z.size)(f:m<n):((Builtin.zeroCells z n).toList.drop (m*z.size)).take z.size=z.toList:=by
 apply eL;intro q;rw[aL];by_cases c:q<z.size
 ·have e:(m+1)*z.size<=n*z.size:=aN _ f;rw[bI,cX] at e;rw[aE c,aX,Pl g om,dY,Nat.mul_add_mod,fT c]
 rw[aD c,cO (by simpa using c)]
theorem Pm (hI:Inv G H loc ver w){t ty0:TypeId}{x:SV}{p:Value}{K:List HO->Prop}(h:Sp P t H x K)(hx:Rel (envOf G H loc ver w) x p):
  ∃w',(Builtin.clear_ #[t] ty0 #[p]).run P w= .ok (.tuple #[]) w'/\∃H' loc' ver',K H'/\Inv G H' loc' ver' w'/\Ext (envOf G H loc ver w) (envOf G H' loc' ver' w'):=by
 unfold Sp at h;split at h;case h_2=>cases h
 rename_i e f k i j z he;have hu:=fS he;split at h;case h_2=>cases h
 rename_i b4 zz v c Y e' hi a5 ho;have h':=bD h;clear h;obtain ⟨hb,h⟩:=h';simp only[aG,bM] at hb;obtain ⟨⟨rfl,rfl⟩,b2,rfl,a0,a3⟩:=hb;split at h;case h_2=>cases h
 rename_i n hd;rw[cD] at h;have s:=bB ho si;have hO:=hI.objs f _ s;obtain ⟨hv,b3,F,a6,vs,J,a8⟩:=hO;have a1:(loc f).len=length (α:=c.T) Y:=F;obtain ⟨y,a4,rfl⟩:=rG a5 w;have X:y.cells.size=c.size:=by simpa using a3
 have a7:=c.size_pos;cases hx with
 | part _ _ _ _ _ _ hn h0 hkk hq=>
  obtain ⟨a9,hj,rfl⟩:=hq hv.symm;have hj:j<=(loc f).len:=hj;have a2:f<H.length:=iN hn;by_cases hz:j-i=0
  ·rw[hz];rw[hz] at h;have e0:jK Y i (List.replicate 0 n)=Y:=Xg Y i;rw[e0,Qi s] at h;refine ⟨w,?_,_,_,_,h,hI,Ext.refl _⟩;generalize (if ((envOf G H loc ver w).loc f).cap=i then _ else _)=A;cases A<;>simp[Builtin.clear_,run_underlying hu]
  rcases cW J with ⟨_,Z,c2,_⟩ | ⟨g,cur,Z,c2,c3,c4,c5,c6,c7⟩
  ·omega
  have B:w.heap[g]? =some (.cells cur e (0,0)):=c3;have C:(if ((envOf G H loc ver w).loc f).cap=i then ((envOf G H loc ver w).loc f).blk.map (fun p=>(⟨p.1,p.2,none⟩:Addr)) else (((envOf G H loc ver w).loc f).blk.map fun p=>(⟨p.1,p.2,none⟩:Addr)).map (·.add (i*c.size)))=some ⟨g,i*c.size,none⟩:=by
   show (if (loc f).cap=i then (loc f).blk.map _ else ((loc f).blk.map _).map _)= _;rw[Z];exact F2 om
  rw[C];have o:(Builtin.zeroCells y.cells (j-i)).toList.length=(List.replicate (j-i) n).length*c.size:=by
   rw[dZ,jM,size_zeroCells,X]
  have D:i+(List.replicate (j-i) n).length<=Y.length:=by rw[dZ];omega
  have W:∀m,m<(List.replicate (j-i) n).length->Reads w (qW G H loc w) c (getD (α:=c.T) (List.replicate (j-i) n) m c.dflt) (((Builtin.zeroCells y.cells (j-i)).toList.drop (m*c.size)).take c.size):=by
   intro m hm;rw[dZ] at hm;have e1:getD (α:=c.T) (List.replicate (j-i) n) m c.dflt=n:=by
    rw[aB,fO,aE hm];rfl
   rw[e1,<- X,Lx om hm];exact wI (E:=envOf G H loc ver w) (sE _ _) hd a0
  have a':(i+(List.replicate (j-i) n).length)*c.size<=(loc f).cap*c.size:=aN _ om;have b1:=bI i (List.replicate (j-i) n).length c.size;have u:=run_storeCells_at P g (i*c.size) e (Builtin.zeroCells y.cells (j-i)).toList 0 cur w B (by rw[o];omega) (Lw o W);have ew:(cur.toList.take (i*c.size+0)++(Builtin.zeroCells y.cells (j-i)).toList++cur.toList.drop (i*c.size+0+(Builtin.zeroCells y.cells (j-i)).toList.length)).toArray=(jK cur.toList (i*c.size) (Builtin.zeroCells y.cells (j-i)).toList).toArray:=by simp only[Nat.add_zero,jK,bW]
  rw[ew] at u;have hf:=DY hI s a2 (i:=i) (ys:=List.replicate (j-i) n) Z B o D W;refine ⟨_,?_,_,_,_,h,hf.1,hf.2⟩;obtain ⟨r,hr⟩:∃r,j-i=r+1:=⟨j-i-1,om⟩;rw[hr] at u ⊢;simp[Builtin.clear_,run_underlying hu,a4,u]
end
end Go.Eng
end
section
namespace Go.Eng
open Go.RowKit Go.MapKept
open Go.ChangeMaps (setBlock)
theorem EntsR.length {w:World}{ok:Nat->Prop}{k:IntKind}{t:Ty}:∀ {xs:List (Nat × Int × t.T)} {es:List MapEntry},EntsR w ok k t xs es->xs.length=es.length
 | [],[],_=>rfl
 | _:: _,_:: _,h=>by simp[EntsR.length h.2]
theorem EntsR.append {w:World}{ok:Nat->Prop}{k:IntKind}{t:Ty}:∀ {xs:List (Nat × Int × t.T)} {es:List MapEntry},EntsR w ok k t xs es->∀ {ys fs},EntsR w ok k t ys fs->EntsR w ok k t (xs++ys) (es++fs)
 | [],[],_,_,_,h=>h
 | _:: _,_:: _,h,_,_,h'=>⟨h.1,h.2.append h'⟩
theorem EntsR.mem {w:World}{ok:Nat->Prop}{k:IntKind}{t:Ty}:∀ {xs:List (Nat × Int × t.T)} {es:List MapEntry},EntsR w ok k t xs es->∀e∈es,∃x∈xs,e.born=x.1/\e.key= .int k x.2.1/\inK k x.2.1/\Reads w ok t x.2.2 [e.val]
 | [],[],_,e,c=>by simp at c
 | x::r,e₀::r',h,e,c=>by
  rcases bY.1 c with rfl | c
  ·exact ⟨x,si,h.1⟩
  obtain ⟨y,f,g⟩:=h.2.mem e c;exact ⟨y,by simp[f],g⟩
theorem EntsR.get {w:World}{ok:Nat->Prop}{k:IntKind}{t:Ty}:∀ {xs:List (Nat × Int × t.T)} {es:List MapEntry},EntsR w ok k t xs es->∀ {j:Nat} {x:Nat × Int × t.T} {e:MapEntry},xs[j]? =some x->es[j]? =some e->e.born=x.1/\e.key= .int k x.2.1/\inK k x.2.1/\Reads w ok t x.2.2 [e.val]
 | _:: _,_:: _,h,0,_,_,h1,h2=>by simp at h1 h2;subst h1;subst h2;exact h.1
 | _:: _,_:: _,h,j+1,_,_,h1,h2=>h.2.get (by simpa using h1) (by simpa using h2)
theorem EntsR.set {w:World}{ok:Nat->Prop}{k:IntKind}{t:Ty}:∀ {xs:List (Nat × Int × t.T)} {es:List MapEntry},EntsR w ok k t xs es->∀(j:Nat) {x:Nat × Int × t.T} {e:MapEntry},(e.born=x.1/\e.key= .int k x.2.1/\inK k x.2.1/\Reads w ok t x.2.2 [e.val])->EntsR w ok k t (xs.set j x) (es.set j e)
 | [],[],_,_,_,_,_=>trivial
 | _:: _,_:: _,h,0,_,_,h'=>⟨h',h.2⟩
 | _:: _,_:: _,h,j+1,_,_,h'=>⟨h.1,h.2.set j h'⟩
section
variable {α:Type}
theorem B3 {xs:List (Nat × Int × α)}{n:Int}(h:Qc xs n=none):∀e∈xs,e.2.1≠n:=by
 induction xs with
 | nil=>intro e c;simp at c
 | cons x r ih=>
  intro e c;simp only[Qc] at h;split at h
  ·cases h
  rename_i f;rcases bY.1 c with rfl | c
  ·exact f
  exact ih h e c
theorem JK (xs:List (Nat × Int × α))(n:Int)(x:α):(FS xs n x).map (·.1)=xs.map (·.1)/\(FS xs n x).map (·.2.1)=xs.map (·.2.1):=by
 induction xs with
 | nil=>exact ⟨rfl,rfl⟩
 | cons e r ih=>
  simp only[FS];split
  ·rename_i h;simp[h]
  simp[ih]
theorem MapS.Wf.put {m:MapS α}(h:m.Wf)(n:Int)(x:α):(m.put n x).Wf:=by
 unfold MapS.put;cases hf:Qc m.es n with
 | some y=>
  obtain ⟨e1,e2⟩:=JK m.es n x;refine ⟨fun e c=>?_,?_,?_⟩
  ·have:e.1∈(FS m.es n x).map (·.1):=qN.2 ⟨e,c,rfl⟩;rw[e1] at this;obtain ⟨y,o,s⟩:=qN.1 this;rw[<- s];exact h.born y o
  ·have:=qP.2 h.times;rw[<- e1] at this;exact qP.1 this
  have:=qP.2 h.keys;rw[<- e2] at this;exact qP.1 this
 | none=>
  refine ⟨fun e c=>?_,?_,?_⟩
  ·simp only[eT,mG] at c;rcases c with c | rfl
   ·exact nB (h.born e c)
   exact iK _
  ·refine Ba.2 ⟨h.times,si,fun a g b f=>?_⟩;simp only[mG] at f;subst f;exact tW (h.born a g)
  refine Ba.2 ⟨h.keys,si,fun a g b f=>?_⟩;simp only[mG] at f;subst f;exact B3 hf a g
end
section
variable {P:Program} {G:Ctx} {H:List HO} {loc:Nat->Loc} {ver:Nat->Nat} {w:World}
theorem Ud (e:Inv G H loc ver w){t:TypeId}{ts:Array TypeId}{ty':TypeId}{x i:SV}{p q:Value}{K:List HO->Prop}(h:Wl P t H x i K)(c:ts[0]? =some t)(f:Rel (envOf G H loc ver w) x p)(hi:Rel (envOf G H loc ver w) i q):
  ∃H' w',(Builtin.delete_ ts ty' #[p,q]).run P w= .ok (.tuple #[]) w'/\K H'/\Inv G H' loc ver w'/\Ext (envOf G H loc ver w) (envOf G H' loc ver w'):=False.elim h
theorem Ue (c:Inv G H loc ver w){t:TypeId}{x:SV}{p:Value}{K:SV->List HO->Prop}(h:DN P t H x K)(e:Rel (envOf G H loc ver w) x p):
  ∃v w',(Instr.range t p).run P w= .ok v w'/\Res G (envOf G H loc ver w) K v w':=False.elim h
theorem B4 (c:Inv G H loc ver w){ty':TypeId}{x:SV}{p:Value}{K:SV->List HO->Prop}(h:IL H x K)(e:Rel (envOf G H loc ver w) x p):
  ∃v w',(Instr.next p false ty').run P w= .ok v w'/\Res G (envOf G H loc ver w) K v w':=False.elim h
theorem Yq (c:Inv G H loc ver w){x:SV}{p:Value}{K:SV->Prop}(h:DO H x K)(e:Rel (envOf G H loc ver w) x p):
  ∃v s,(Instr.entry p).run P w= .ok v w/\K s/\Rel (envOf G H loc ver w) s v:=False.elim h
theorem Uf (f:Inv G H loc ver w){x:SV}{p:Value}{K:SV->Prop}(h:Wm H x K)(m:Rel (envOf G H loc ver w) x p){t k e:TypeId}(g:P.underlying t=some (.map k e)){ts:Array TypeId}{ty':TypeId}(c:ts[0]? =some t):
  ∃v s,(Builtin.len_ ts ty' #[p]).run P w= .ok v w/\K s/\Rel (envOf G H loc ver w) s v:=False.elim h
theorem KeysR.get {f:List (Int × Int)}{es:List MapEntry}(h:KeysR f es){j:Nat}{e:MapEntry}(n:es[j]? =some e):∃k,f[j]? =some k/\e.key=keyV k:=by
 have c:(es.map (·.key))[j]? =some e.key:=by simp[n]
 rw[h.eq] at c;simp only[vQ,Option.map_eq_some_iff] at c;obtain ⟨k,g,m⟩:=c;exact ⟨k,g,m.symm⟩
theorem KeysR.len {c:List (Int × Int)}{es:List MapEntry}(h:KeysR c es):es.length=c.length:=by
 have:=aR List.length h.eq;simpa using this
theorem Pv (c:Inv G H loc ver w){t:TypeId}{K:SV->List HO->Prop}(h:Qf P t H K):∃v w',(Instr.makeMap t none).run P w= .ok v w'/\Res G (envOf G H loc ver w) K v w':=False.elim h
theorem Ug (c:Inv G H loc ver w){t:TypeId}{ok:Bool}{x i:SV}{p q:Value}{K:SV->Prop}(h:Wk P t ok H x i K)(e:Rel (envOf G H loc ver w) x p)(hi:Rel (envOf G H loc ver w) i q):
  ∃v s,(Instr.lookup t p q ok).run P w= .ok v w/\K s/\Rel (envOf G H loc ver w) s v:=False.elim h
theorem set_getElem_self {α:Type}{l:List α}{j:Nat}{x:α}(h:l[j]? =some x):l.set j x=l:=by
 apply eL;intro m;rw[fY];by_cases e:j=m
 ·subst e;rw[aE rfl,h];rw[aE (aK.1 h).1]
 rw[aD e]
theorem Jp (c:Inv G H loc ver w){t:TypeId}{x i y:SV}{p q r:Value}{K:List HO->Prop}(h:Hw P t H x i y K)(e:Rel (envOf G H loc ver w) x p)(hi:Rel (envOf G H loc ver w) i q)(f:Rel (envOf G H loc ver w) y r):
  ∃H' w',(Instr.mapUpdate t p q r).run P w= .ok () w'/\K H'/\Inv G H' loc ver w'/\Ext (envOf G H loc ver w) (envOf G H' loc ver w'):=False.elim h
theorem Ng (c:Inv G H loc ver w){t:TypeId}{x i:SV}{p q:Value}{K:SV->List HO->Prop}(h:Lj P t H x i K)(e:Rel (envOf G H loc ver w) x p)(hi:Rel (envOf G H loc ver w) i q):
  ∃v w',(Instr.mapEntry t p q).run P w= .ok v w'/\Res G (envOf G H loc ver w) K v w':=False.elim h
theorem Gq (c:Inv G H loc ver w){t:TypeId}{x s y:SV}{p q r:Value}{K:List HO->Prop}(h:Ej H x s y K)(e:Rel (envOf G H loc ver w) x p)(hi:Rel (envOf G H loc ver w) s q)(f:Rel (envOf G H loc ver w) y r):
  ∃H' w',(Instr.entryStore t p q r).run P w= .ok () w'/\K H'/\Inv G H' loc ver w'/\Ext (envOf G H loc ver w) (envOf G H' loc ver w'):=False.elim h
end
end Go.Eng
end
section
namespace Go.Eng
open Go.RowKit
section
variable {P:Program} {G:Ctx} {H:List HO} {loc:Nat->Loc} {ver:Nat->Nat} {w:World}
theorem Yo (g:Inv G H loc ver w){t:TypeId}{n c:SV}{p q:Value}{K:SV->List HO->Prop}(h:DK P t n c fun n ty e f=>dQ (H++ [.vv 1 0 ty (List.replicate n.toNat []) none e f]) fun H'=>K (.ref H.length 1) H')(o:Rel (envOf G H loc ver w) n p)(m:Rel (envOf G H loc ver w) c q):
  ∃v w',(Instr.makeSlice t p q).run P w= .ok v w'/\Res G (envOf G H loc ver w) K v w':=False.elim h
theorem Ub (c:Inv G H loc ver w){t:TypeId}{x i:SV}{p q:Value}{K:SV->Prop}(h:II P t H x i K)(e:Rel (envOf G H loc ver w) x p)(hi:Rel (envOf G H loc ver w) i q):
  ∃v s,(Instr.indexAt t p q).run P w= .ok v w/\K s/\Rel (envOf G H loc ver w) s v:=False.elim h
theorem Yp (c:Inv G H loc ver w){t:TypeId}{x:SV}{p:Value}{K:SV->Prop}(h:QN P t H x K)(e:Rel (envOf G H loc ver w) x p):
  ∃v s,(Instr.loadAt t p).run P w= .ok v w/\K s/\Rel (envOf G H loc ver w) s v:=False.elim h
theorem B2 (e:Inv G H loc ver w){x:SV}{p:Value}{K:SV->Prop}(h:VJ H x K)(f:Rel (envOf G H loc ver w) x p):∃a n c s,p= .slice a n c/\K s/\Rel (envOf G H loc ver w) s (.int .i64 n):=False.elim h
theorem Pu (c:Inv G H loc ver w){t ty':TypeId}{x y:SV}{p q:Value}{K:SV->List HO->Prop}(h:DM P t H x y K)(e:Rel (envOf G H loc ver w) x p)(f:Rel (envOf G H loc ver w) y q):
  ∃v w',(Builtin.append_ #[t,t] ty' #[p,q]).run P w= .ok v w'/\Res G (envOf G H loc ver w) K v w':=False.elim h
theorem Uc (c:Inv G H loc ver w){t:TypeId}{x y:SV}{p q:Value}{K:List HO->Prop}(h:IJ P t H x y K)(e:Rel (envOf G H loc ver w) x p)(f:Rel (envOf G H loc ver w) y q):
  ∃H' loc' w',(Instr.storeAt t p q).run P w= .ok () w'/\K H'/\Inv G H' loc' ver w'/\Ext (envOf G H loc ver w) (envOf G H' loc' ver w'):=False.elim h
end
end Go.Eng
end
section
namespace Go.Eng
open Go.RowKit
theorem rJ {t c:Ty}{xs:List t.T}{ys:List c.T}(h:yQ t c xs ys):SV.seq t xs= .seq c ys:=by
 unfold yQ at h;split at h
 ·rename_i e;subst e;rw[pZ] at h;simp only at h;rw[h]
 cases h
mutual
theorem lF {E:Env}:∀ {a b:SV},ent a b->∀ {v:Value},Rel E a v->Rel E b v
 | a,b,h,v,hr=>by
  unfold ent at h;split at h
  ·exact .any v
  ·obtain ⟨rfl,rfl⟩:=h;exact hr
  ·subst h;exact hr
  ·rename_i q d;cases hr;have:(Value.bool true)= .bool (@decide q d):=by simp[h]
   rw[this];exact .bl _ _
  ·rename_i q d;cases hr;have:(Value.bool false)= .bool (@decide q d):=by simp[h]
   rw[this];exact .bl _ _
  ·rename_i p m q o;cases hr;have:(Value.bool (@decide p m))= .bool (@decide q o):=by
    congr 1
    exact decide_eq_decide.2 h
   rw[this];exact .bl _ _
  ·rename_i p d b;cases hr;have:(Value.bool (@decide p d))= .bool b:=by
    congr 1
    cases b
    ·simp at h;simp[h]
    simp at h;simp[h]
   rw[this];exact .val _ trivial
  ·subst h;exact hr
  ·subst h;exact hr
  ·rw[<- rJ h];exact hr
  ·subst h;cases hr;exact .seq _ _ _ (Bl _ _ _)
  ·obtain ⟨rfl,rfl⟩:=h;exact hr
  ·obtain ⟨rfl,rfl⟩:=h;exact hr
  ·subst h;exact hr
  ·subst h;exact hr
  ·subst h;exact hr
  ·subst h;exact hr
  ·cases hr with
   | fmp _ _ b c es hok hb hk hl=>
    obtain ⟨rfl,f⟩:=h;exact .fmp _ _ b c es hok hb hk (jH f hl)
  ·cases hr with
   | agg _ vs hl=>exact .agg _ _ (jH h hl)
  ·cases hr with
   | tup _ vs hl=>exact .tup _ _ (jH h hl)
  ·cases hr with
   | clo _ _ _ va vb ha hb=>
    obtain ⟨rfl,e,f⟩:=h;exact .clo _ _ _ _ _ (jH e ha) (jH f hb)
  ·cases hr with
   | lit _ n b off _ vs hl g hok hr=>
    obtain ⟨rfl,e⟩:=h;exact .lit _ n b off _ vs (jH e hl) g hok hr
  ·cases hr with
   | lelem _ i b off vs hl hok hr=>
    obtain ⟨rfl,e⟩:=h;exact .lelem _ _ b off vs (jH e hl) hok hr
  ·exact hr
  ·subst h;exact hr
  ·subst h;obtain ⟨rfl,g⟩:=hr.int_inv;exact .num _ _ g
  ·cases hr;exact .ifc _ (.inl rfl)
  cases h
theorem jH {E:Env}:∀ {l c:List SV},ent.entL l c->∀ {vs:List Value},RelL E l vs->RelL E c vs
 | [],[],_,_,.nil=>.nil
 | x::r,y::r',h,_,.cons _ _ _ _ h1 h2=>.cons _ _ _ _ (lF h.1 h1) (jH h.2 h2)
end
section
variable {P:Program} {G:Ctx} {H:List HO} {loc:Nat->Loc} {ver:Nat->Nat} {w:World}
theorem dU (c:Inv G H loc ver w){F:Fence}{o:Oper}{a:Act}{K:SV->List HO->Prop}{v:Value}{s:SV}(f:(execOp a.eval o).run P w= .ok (.value v) w)(e:K s H)(g:Rel (envOf G H loc ver w) s v):
  OpOK P F o a w (Res G (envOf G H loc ver w) K):=.value _ _ f (.pure c e g)
theorem Xt {E:Env}{xs:List Int}{a:Option Addr}{n c:Nat}(h:Reads E.w E.ok (.slice (.int .u8)) xs [.slice a n c]):(Conv.bytesToString (.slice a n c)).run P E.w= .ok (.string ⟨(gD xs).toArray⟩) E.w/\(gD xs).length<=maxL:=by
 obtain ⟨a',n',c',e,X,hc,W,Z⟩:=h;cases e;have f:(gD xs).length=n:=by simp[gD,X]
 refine ⟨?_,by rw[f];exact W⟩;by_cases D:0<n
 ·obtain ⟨b,g,rfl,Y,z⟩:=Z D;have s:∀j (o:j<(gD xs).length),E.w.cell? ((⟨b,g,none⟩:Addr).add j)=some (.int .u8 ((gD xs)[j].toNat:Int)):=by
   intro j o;have m:j<n:=by rw[<- f];exact o
   obtain ⟨es,h1,F,J,K⟩:=z j m;subst J;have:=F 0 _ rfl;simp only[Ty.size,pX,Nat.add_zero] at this;have B:(getD (α:=Int) xs j 0)=xs[j]'(by omega):=by
    simp[aB,show j<xs.length by omega]
   have x:(0:Int)<=getD (α:=Int) xs j 0/\getD (α:=Int) xs j 0<=255:=K;have e2:((gD xs)[j].toNat:Int)=getD (α:=Int) xs j 0:=by
    rw[B] at x ⊢;simp only[gD,List.getElem_map,mE];omega
   rw[e2];have C:(⟨b,g,none⟩:Addr).add j= ⟨b,g+j,none⟩:=by unfold Addr.add;split<;>simp_all
   rw[C];exact this
  have u:=run_loadCells_list (P:=P) E.w ⟨b,g,none⟩ (((gD xs).map (fun b=>(b.toNat:Int))).map (Value.int .u8)) (fun j v o=>by
   have m:j<(gD xs).length:=by
    have:=(aK.1 o).1;simpa using this
   rw[s j m];simp[aY m] at o
   rw[<- o])
  simp only[kL] at u;rw[f] at u;rw[run_bytesToString E.w ⟨b,g,none⟩ n c _ u,foldl_push_byteCells];have y:ByteArray.empty.data= #[]:=rfl;rw[y];simp
 have B:xs= []:=cK om;have A:n=0:=om;subst B A;cases a with
 | none=>rfl
 | some a=>
  have u:=run_loadCells_list (P:=P) E.w a [] (fun j v o=>by simp at o);exact run_bytesToString E.w a 0 c [] (by simpa using u)
theorem BO (f:Inv G H loc ver w){s d:TypeId}{D:SV}{v:Value}{K:SV->Prop}(h:BA P H s d D K)(A:Rel (envOf G H loc ver w) D v):∃E s',(convert s d v).run P w= .ok E w/\K s'/\Rel (envOf G H loc ver w) s' E:=by
 unfold BA at h;split at h
 ·rename_i X W k n m g;obtain ⟨rfl,_⟩:=A.int_inv;obtain ⟨o,u⟩:=Bd h;exact ⟨_,_,by simp[convert,run_underlying m,run_underlying g,Conv.intToInt,xN o],u,.val _ o⟩
 ·rename_i l m g;cases A with
  | str _ hl=>exact ⟨_,_,by simp[convert,run_underlying m,run_underlying g],h,.str _ hl⟩
 ·rename_i e m g;have C:=Ew (H:=H) (lend:=true) (Ev (G:=G)) (fun _ _ _ h=>rY f Ev rfl h rfl (fun b l e y x=>(f.objs _ _ (bB y si)).block (b:=b) x) fun B k v h=>jR f h) (fun B k v h=>jR f h) (fun B k i v h=>nK f rfl h (.inl rfl) fun b k t J y x=>(f.objs _ _ (bB y si)).block (b:=b) x) (fun B v h=>rZ f Ev (.inl rfl) h) A;split at h
  ·rename_i J F z;rw[z] at C;cases C with
   | seq _ _ _ hr=>
    obtain ⟨a,n,c,e1,_⟩:=id hr;cases e1;obtain ⟨o,u⟩:=Xt (P:=P) hr;exact ⟨_,_,(run_convert_bytes_string w s d e a n c m F g).trans o,h,.str _ u⟩
  cases h
 cases h
theorem BP {E:Env}{a b c:SV}{o u x:Value}{K:SV->Prop}(h:A0 a b c K)(m:Rel E a o)(n:Rel E b u)(f:Rel E c x):∃g s,(asBool x).run P w= .ok g w/\K s/\Rel E s (if g then o else u):=by
 unfold A0 at h;split at h
 ·cases f.bool_inv;rw[kF] at h;exact ⟨true,_,rfl,h,m⟩
 ·cases f.bool_inv;rw[kF] at h;exact ⟨false,_,rfl,h,n⟩
 ·rename_i p d;cases f;simp only[kF] at h;by_cases e:p
  ·exact ⟨true,_,by simp[asBool,e],h.yes e,m⟩
  exact ⟨false,_,by simp[asBool,e],h.no e,n⟩
 cases h
theorem Ik {a:Act}{c:Call}{f:Operand}{t:TypeId}{g:FuncId}{m n:List Value}(o:c.callee= .value f)(s:a.eval f= .func (.func g) ⟨m⟩ ⟨n⟩):
  ((do let d <- resolve a.eval c t;invoke d.target d.args):Sem Next).run P w=(callFunc g ⟨m++c.args.toList.map a.eval++n⟩).run P w:=by
 have e:(⟨m⟩++c.args.map a.eval++ ⟨n⟩:Array Value)= ⟨m++c.args.toList.map a.eval++n⟩:=by
  apply fJ;simp
 simp only[resolve,o,s,Deferred.ofValue,Sem.run_bind,Sem.run_pure,Result.andThen_ok,invoke];rw[<- e]
theorem jS {a:Act}{c:Call}{b:Builtin}{t:TypeId}(e:c.callee= .builtin b):
  ∃cs:Array Bool,((do let d <- resolve a.eval c t;invoke d.target d.args):Sem Next).run P w=(builtin b c.argTypes t cs (c.args.map a.eval)).run P w:=by
 refine ⟨c.args.map fun | .const _=>true | _=>false,?_⟩;simp only[resolve,e,Sem.run_bind,Sem.run_pure,Result.andThen_ok,invoke];rfl
theorem wP {c:Call}{a:Act}{x:Operand}(h:c.args.toList= [x]):c.args.map a.eval= #[a.eval x]:=by
 apply fJ;simp[h]
theorem Ey {c:Call}{a:Act}{x y:Operand}(h:c.args.toList= [x,y]):c.args.map a.eval= #[a.eval x,a.eval y]:=by
 apply fJ;simp[h]
theorem Qp {E E':Env}{s:SV}{v:Value}(h:Rel E s v):Rel E' (DB s) v:=by
 cases h with
 | val _ h=>exact .val v h
 | bl p d=>exact .bl p d
 | str s h=>exact .str s h
 | _=>exact .any _
theorem Mh {E E':Env}:∀ {l:List SV} {vs:List Value},RelL E l vs->RelL E' (l.map DB) vs
 | _,_,.nil=>.nil
 | _,_,.cons _ _ _ _ h hl=>.cons _ _ _ _ (Qp h) (Mh hl)
theorem Qq {E E':Env}{s:SV}{v:Value}(h:Rel E s v):Rel E' (Wg s) v:=by
 cases s with
 | agg l=>cases h with
  | agg _ vs hl=>exact .agg _ _ (Mh hl)
 | _=>exact Qp h
theorem JB (o:Inv G H loc ver w){st:Option Nat}{n:Nat}{c:Nat->List SV}(m:H[0]? =some (.yst st n c)){s:SV}{v:Value}(h:Rel (envOf G H loc ver w) s v):
  Rel (iD w fun b=>G.itr.n0<=b/\b<w.heap.size/\¬(loc 0).al b) (N3 H s) v:=by
 cases s with
 | ref nm k=>
  simp only[N3];split
  ·rename_i j t X e B;cases hc:(Nat.beq j k&&t.flat) with
   | false=>exact .any v
   | true=>
    simp only[aG] at hc;obtain rfl:=bM.1 hc.1;have g:=bB B si;have u:=o.objs nm _ g;cases h with
    | ref _ _ _ _ _ _ hv=>
     have:=hv u.1.symm;subst this;have f:∀b,(loc nm).blk.map (·.1)=some b->G.itr.n0<=b/\b<w.heap.size/\¬(loc 0).al b:=fun b x=>by
      have y:¬(loc 0).al b:=fun A=>by
       have:=o.sep nm 0 _ _ b g m x A;subst this;rw[g] at m;cases m
      refine ⟨aS fun z=>?_,u.block (b:=b) x,y⟩;obtain ⟨_,_,_,_,_,C,_⟩:=o.objs 0 _ m;exact (C b (xF z) y).2.2.2 ⟨nm,_,g,x⟩
     obtain ⟨Y,D,F,J,vs,K,W⟩:=u;exact .seq t X _ (Bp (E:=iD w fun _=>False) (v:=j) (k:=j) (e:=e) ⟨rfl,D,F,J,vs,K,fun i hi=>Reads.flatJ hc.2 (W i hi)⟩ (fun _ h=>h.elim) f)
  exact .any v
 | _=>exact Qq h
theorem Qr (e:Inv G H loc ver w){st:Option Nat}{n:Nat}{c:Nat->List SV}(g:H[0]? =some (.yst st n c)){N:Nat}{l:List (Nat × SV)}{a:Act}(f:TRel (envOf G H loc ver w) N l a):∀xs:List Operand,
  RelL (iD w fun b=>G.itr.n0<=b/\b<w.heap.size/\¬(loc 0).al b) (xs.map fun x=>N3 H (Eng.ev l x)) (xs.map a.eval)
 | []=>.nil
 | x::xs=>.cons _ _ _ _ (JB e g (oZ f x)) (Qr e g f xs)
theorem Xu (hY:COK P G)(hI:Inv G H loc ver w){k n:Nat}{c:Nat->List SV}{us:List Value}(ho:bX H 0= .yst (some k) n c)(D:k<n)(hu:RelL (iD w fun b=>G.itr.n0<=b/\b<w.heap.size/\¬(loc 0).al b) (c k) us){K:SV->List HO->Prop}(X:K (.val (.bool true)) (cA H 0 (.yst (some (k+1)) n c)))(Y:K (.val (.bool false)) (cA H 0 (.yst none n c))):
  YieldAt Fence.wide 0 P G.itr.l ⟨us⟩ w fun e w'=>∃v,e= .returned v/\Res G (envOf G H loc ver w) K v w':=by
 have o:=bB ho si;have m:0<H.length:=(aK.1 o).1;obtain ⟨hv,Z,E,hn,a0,F,hJ⟩:=hI.objs 0 _ o;have a4:G.itr.n0<=w.heap.size:=E;have a1:n=G.itr.n:=hn;have C:c=G.itr.items:=a0;subst a1;subst C;refine (hY.1 k _ w us D hJ hu).mono ?_;rintro e w' ⟨b,rfl,hJ',hK⟩;refine ⟨_,rfl,?_⟩;have W:∀st,G.itr.J st (fun b=>G.itr.n0<=b/\b<w.heap.size/\¬(loc 0).al b) w'->
   ∃f g,Inv G (cA H 0 (.yst st G.itr.n G.itr.items)) f g w'/\Ext (envOf G H loc ver w) (envOf G (cA H 0 (.yst st G.itr.n G.itr.items)) f g w'):=by
  intro st a3;refine ⟨sV loc 0 { loc 0 with al:=fun b=>(loc 0).al b\/(w.heap.size<=b/\b<w'.heap.size) },sV ver 0 (ver 0+1),?_⟩;refine hI.turn 0 (by simp[cA]) (fun k D=>⟨bS D,dJ _ _ _ D,dJ _ _ _ D⟩) (fun _=>eJ (aP m) rfl) (fun _=>.inr ⟨hv,by rw[bF];omega⟩) hK.size hK.os hK.tape hK.output
   (by rw[o];intro h;cases h) (fun _=>by first | rw[show cA H nm _=H.set nm _ from rfl,aP m];intro h;cases h | rw[show cA H 0 _=H.set 0 _ from rfl,aP m];intro h;cases h) ?_ ?_ ?_ ?_
  ·intro a6 n' a5 b y B;rw[bF] at B;rcases B with h | h
   ·exact .inl ⟨_,_,_,o,h⟩
   exact .inr h.1
  ·intro b y a2;have u:¬(loc 0).al b:=a2 _ o;refine hK.blk b ?_ y;by_cases m:b<G.itr.n0
   ·exact .inl (F b m u).1
   exact .inr ⟨fF m,y,u⟩
  ·intro o' b s y;rw[show cA H 0 _=H.set 0 _ from rfl,aP m] at s;cases s;rw[bF] at y;rcases y with h | h
   ·exact .inl ⟨_,o,h⟩
   exact .inr h.1
  intro hx o' s;rw[show cA H 0 (.yst st G.itr.n G.itr.items)=H.set 0 _ from rfl,aP m] at s;cases s;rw[bF,bF];refine ⟨iP _,?_,bA E hK.size,rfl,rfl,fun b y u=>?_,?_⟩
  ·rintro b (h | h)
   ·exact bE (Z b h) hK.size
   exact h.2
  ·obtain ⟨X,Y⟩:=F b y (fun h=>u (.inl h));exact ⟨X,hx.ok b Y⟩
  refine cast (aR (fun M=>G.itr.J st M w') (funext fun b=>propext ⟨?_,?_⟩)) a3
  ·rintro ⟨z,x,h5⟩;have A:b<w.heap.size:=x;exact ⟨z,bE x hK.size,fun h=>h.elim h5 fun h=>by have:=h.1;omega⟩
  rintro ⟨z,x,h5⟩;have A:b<w'.heap.size:=x;by_cases h6:b<w.heap.size
  ·exact ⟨z,h6,fun h=>h5 (.inl h)⟩
  exact (h5 (.inr ⟨om,A⟩)).elim
 cases b with
 | true=>
  obtain ⟨f,g,z,x⟩:=W _ hJ';exact ⟨_,_,f,g,X,z,.val _ trivial,x⟩
 | false=>
  obtain ⟨f,g,z,x⟩:=W _ hJ';exact ⟨_,_,f,g,Y,z,.val _ trivial,x⟩
theorem Pr {a:Act}{c:Call}{f:Operand}{t:TypeId}{l:Nat}(g:c.callee= .value f)(m:a.eval f= .func (.yield l) #[] #[]):
  ((do let d <- resolve a.eval c t;invoke d.target d.args):Sem Next).run P w=(Instr.yield l ⟨c.args.toList.map a.eval⟩).run P w:=by
 have e:(#[]++c.args.map a.eval++ #[]:Array Value)= ⟨c.args.toList.map a.eval⟩:=by
  apply fJ;simp
 simp only[resolve,g,m,Deferred.ofValue,Sem.run_bind,Sem.run_pure,Result.andThen_ok,invoke];rw[<- e,Array.append_empty]
theorem Rel.seq_inv {E:Env}{t:Ty}{xs:List t.T}{v:Value}(h:Rel E (.seq t xs) v):∃a n c,v= .slice a n c/\(a=none->xs= []):=by
 cases h with
 | seq _ _ _ hr=>
  obtain ⟨a,n,c,e,s,_,_,f⟩:=hr;cases e;refine ⟨a,n,c,rfl,fun o=>?_⟩;have u:n=List.length xs:=s;by_cases m:0<n
  ·obtain ⟨b,x,g,_⟩:=f m;rw[o] at g;cases g
  exact cK om
theorem Rel.nil_inv {E:Env}{v:Value}(h:Rel E (.val (.slice none 0 0)) v):v= .slice none 0 0:=by cases h;rfl
theorem Rel.str_inv {E:Env}{s:Bx}{v:Value}(h:Rel E (.str s) v):v= .string ⟨s.toArray⟩:=by cases h;rfl
def JC:SV->Prop->Prop
 | .val (.bool b),p=>p↔b=true
 | .bl q _,p=>p↔q
 | _,_=>False
theorem Rel.bool_is {E:Env}{s:SV}{v:Value}(h:Rel E s v){p:Prop}(c:JC s p):∃b:Bool,v= .bool b/\(p↔b=true):=by
 cases h with
 | val v hv=>cases v<;>first | exact ⟨_,rfl,c⟩ | exact c.elim
 | bl q d=>exact ⟨_,rfl,by simpa [JC] using c⟩
 | _=>cases c
theorem mZ (g:BinOp)(t:TypeId)(x y:Operand)(a b:Option Addr)(n c f e:Nat):(eqGuard g t x y (.slice a n c) (.slice b f e)).run P w= .ok () w:=by
 unfold eqGuard;split<;>rfl
theorem Jo (c:BinOp)(t:TypeId)(x y:Operand)(a b:ByteArray):(eqGuard c t x y (.string a) (.string b)).run P w= .ok () w:=by
 unfold eqGuard;split<;>rfl
theorem Gj (c:BinOp)(t:TypeId)(x y:Operand)(a b:Bool):(eqGuard c t x y (.bool a) (.bool b)).run P w= .ok () w:=by
 unfold eqGuard;split<;>rfl
theorem vH {E:Env}{x:BinOp}{t:TypeId}{a:Option Addr}{n c:Nat}{p:Prop}{K:SV->Prop}(f:Be P t=true)(h:Eg x p K)(m:a=none->p):
  ∃v s,(binOp x t (.slice a n c) (.slice none 0 0)).run P w= .ok v w/\K s/\Rel E s v:=by
 unfold Be at f;split at f
 ·rename_i e u;have g:∀q:Prop,∀b:Bool,(q↔b=true)->Rel E (.bl q (Classical.propDecidable q)) (.bool b):=fun q b o=>by
   have:b= @decide q (Classical.propDecidable q):=by cases b<;>simp_all
   rw[this];exact .bl _ _
  unfold Eg at h;split at h
  ·refine ⟨.bool a.isNone,_,?_,h (a=none) m,g _ _ (by cases a<;>simp)⟩;simp only[binOp];simp[run_equal_slice_nil w t e a n c u]
  ·refine ⟨.bool (!a.isNone),_,?_,h (¬a=none) (fun o=>m (bG.1 o)),g _ _ (by cases a<;>simp)⟩;simp only[binOp];simp[run_equal_slice_nil w t e a n c u]
  cases h
 cases f
theorem Xv {E:Env}{c:BinOp}(t:TypeId){s s':Bx}{K:SV->Prop}(h:IC c s s' K):
  ∃v u,(binOp c t (.string ⟨s.toArray⟩) (.string ⟨s'.toArray⟩)).run P w= .ok v w/\K u/\Rel E u v:=by
 unfold IC at h;split at h
 ·refine ⟨.bool (decide (s=s')),_,?_,h,.bl _ _⟩;simp[binOp,Op.stringOp,xT];exact kM.2 si
 ·refine ⟨.bool (decide (¬s=s')),_,?_,h,.bl _ _⟩;simp[binOp,Op.stringOp,xT];exact kM.2 si
 ·obtain ⟨e,f⟩:=h;refine ⟨.string ⟨(s++s').toArray⟩,_,?_,f,.str _ (by simpa using e)⟩;have e1:(⟨s.toArray⟩:ByteArray).size=s.length:=by simp[ByteArray.size]
  have e2:(⟨s'.toArray⟩:ByteArray).size=s'.length:=by simp[ByteArray.size]
  have e3:(⟨s.toArray⟩:ByteArray)++ ⟨s'.toArray⟩= ⟨(s++s').toArray⟩:=by
   apply WideShapes.bytes_inj;simp[ByteArray.data_append]
  have e4:¬(IntKind.i64.max<((s.length+s'.length:Nat):Int)):=by
   simp[IntKind.max,IntKind.bits,IntKind.signed];omega
  simp only[binOp,Op.stringOp,e1,e2,e3];rw[aD e4];simp
 ·refine ⟨.bool (decide (Op.bytesLess s s'=true)),_,?_,h,.bl _ _⟩;simp[binOp,Op.stringOp,xT]
 ·refine ⟨.bool (decide (¬Op.bytesLess s s'=true/\¬s=s')),_,?_,h,.bl _ _⟩;simp[binOp,Op.stringOp,xT];exact kM.2 si
 cases h
theorem Rel.nilI_inv {E:Env}{v:Value}(h:Rel E (.val .nilIface) v):v= .nilIface:=by cases h;rfl
theorem Xw {y:Operand}(h:Kb y=true):∃c,y= .const c:=by cases y<;>first | exact ⟨_,rfl⟩ | cases h
theorem yS (e:BinOp)(t:TypeId)(x y:Operand)(g:Kb y=true){v:Value}(f:v= .nilIface\/∃d z,v= .iface d z):(eqGuard e t x y v .nilIface).run P w= .ok () w:=by
 obtain ⟨c,rfl⟩:=Xw g;rcases f with rfl | ⟨d,z,rfl⟩
 ·cases e<;>cases x<;>rfl
 cases e<;>rfl
theorem Xx {t:TypeId}(h:xJ P t=true):∃c,P.underlying t=some (.interface c):=by
 unfold xJ at h;split at h
 ·rename_i c e;exact ⟨c,e⟩
 cases h
theorem Cu {t:TypeId}(e:xJ P t=true){v:Value}(f:v= .nilIface\/∃d z,v= .iface d z):∃b:Bool,(Op.equal t v .nilIface).run P w= .ok b w/\(v= .nilIface->b=true):=by
 obtain ⟨g,c⟩:=Xx e;rcases f with rfl | ⟨d,z,rfl⟩
 ·refine ⟨true,?_,fun _=>rfl⟩;have h:∀n:Nat,(Op.equalIn (n+1) t .nilIface .nilIface).run P w= .ok true w:=fun n=>by simp[Op.equalIn,run_underlying c]
  exact h 9999
 refine ⟨false,?_,fun h=>by cases h⟩;have h:∀n:Nat,(Op.equalIn (n+1) t (.iface d z) .nilIface).run P w= .ok false w:=fun n=>by simp[Op.equalIn,run_underlying c]
 exact h 9999
theorem Xy {E:Env}{g:BinOp}{t:TypeId}{v:Value}{K:SV->Prop}(m:xJ P t=true)(c:v= .nilIface\/∃d z,v= .iface d z)(h:Eg g True K):
  ∃u s,(binOp g t v .nilIface).run P w= .ok u w/\K s/\Rel E s u:=by
 have f:∀q:Prop,∀b:Bool,(q↔b=true)->Rel E (.bl q (Classical.propDecidable q)) (.bool b):=fun q b n=>by
  have:b= @decide q (Classical.propDecidable q):=by cases b<;>simp_all
  rw[this];exact .bl _ _
 obtain ⟨b,e,_⟩:=Cu (P:=P) (w:=w) m c;unfold Eg at h;split at h
 ·refine ⟨.bool b,_,?_,h (b=true) (fun _=>trivial),f _ _ cJ⟩;rcases c with rfl | ⟨d,z,rfl⟩<;>simp only[binOp]<;>simp[e]
 ·refine ⟨.bool (!b),_,?_,h (¬b=true) (fun _=>trivial),f _ _ (by cases b<;>simp)⟩;rcases c with rfl | ⟨d,z,rfl⟩<;>simp only[binOp]<;>simp[e]
 cases h
theorem BQ {E:Env}{f:BinOp}{t:TypeId}{K:SV->Prop}(g:xJ P t=true)(h:SX f K):
  ∃u s,(binOp f t .nilIface .nilIface).run P w= .ok u w/\K s/\Rel E s u:=by
 obtain ⟨b,e,c⟩:=Cu (P:=P) (w:=w) g (.inl rfl);obtain rfl:=c rfl;unfold SX at h;split at h
 ·exact ⟨.bool true,_,by simp only[binOp];simp[e],h,.val _ trivial⟩
 ·exact ⟨.bool false,_,by simp only[binOp];simp[e],h,.val _ trivial⟩
 cases h
theorem Tr {E:Env}{n:BinOp}{t:TypeId}{p q:Prop}{a b:Bool}{K:SV->Prop}(e:rC P t=true)(h:Gd n p q K)(g:p↔a=true)(c:q↔b=true):
  ∃v s,(binOp n t (.bool a) (.bool b)).run P w= .ok v w/\K s/\Rel E s v:=by
 unfold rC at e;split at e
 ·rename_i m;have f:∀q:Prop,∀b:Bool,(q↔b=true)->Rel E (.bl q (Classical.propDecidable q)) (.bool b):=fun q b c=>by
   have:b= @decide q (Classical.propDecidable q):=by cases b<;>simp_all
   rw[this];exact .bl _ _
  unfold Gd at h;split at h
  ·exact ⟨.bool (a==b),_,run_eql_bool w t a b m,h,f _ _ (by rw[g,c];cases a<;>cases b<;>simp)⟩
  ·exact ⟨.bool (!(a==b)),_,run_neq_bool w t a b m,h,f _ _ (by rw[g,c];cases a<;>cases b<;>simp)⟩
  cases h
 cases e
theorem Mi {E:Env}{k:IntKind}:∀ {r:List SV} {vs:List Value} {p:Int} {K:SV->Prop},Ky k p r K->inK k p->RelL E r vs->
  ∃v s,(vs.foldlM Builtin.max2 (.int k p):Sem Value).run P w= .ok v w/\K s/\Rel E s v
 | [],_,p,K,h,hp,.nil=>⟨_,_,si,h,.val _ hp⟩
 | s::r,_,p,K,h,hp,.cons _ v _ vs hv hl=>by
  unfold Ky at h;split at h
  ·rename_i e;cases e
  ·rename_i k' q x e;cases e;obtain ⟨c,n⟩:=bD h;have c:=fM c;subst c;obtain ⟨e1,o⟩:=hv.int_inv;obtain ⟨u,s',f,g,m⟩:=Mi n (OC hp o) hl;refine ⟨u,s',?_,g,m⟩;rw[e1,List.foldlM_cons];have e2:(Builtin.max2 (.int k p) (.int k q)).run P w= .ok (.int k (max p q)) w:=by
    simp only[Builtin.max2,Sem.run_pure];congr 2
    split<;>omega
   simp only[Sem.run_bind,e2,Result.andThen_ok];exact f
  cases h
theorem Ts {E:Env}{k:IntKind}{p:Int}{r:List SV}{vs:List Value}{K:SV->Prop}(ts:Array TypeId)(t:TypeId)(h:Ky k p r K)(e:RelL E (.val (.int k p)::r) vs):
  ∃v s,(Builtin.max_ ts t ⟨vs⟩).run P w= .ok v w/\K s/\Rel E s v:=by
 cases e with
 | cons _ v _ vs hv hl=>
  obtain ⟨rfl,c⟩:=hv.int_inv;exact Mi h c hl
theorem Mj {E:Env}{k:IntKind}:∀ {r:List SV} {vs:List Value} {p:Int} {K:SV->Prop},Kz k p r K->inK k p->RelL E r vs->
  ∃v s,(vs.foldlM Builtin.min2 (.int k p):Sem Value).run P w= .ok v w/\K s/\Rel E s v
 | [],_,p,K,h,hp,.nil=>⟨_,_,si,h,.val _ hp⟩
 | s::r,_,p,K,h,hp,.cons _ v _ vs hv hl=>by
  unfold Kz at h;split at h
  ·rename_i e;cases e
  ·rename_i k' q x e;cases e;obtain ⟨c,n⟩:=bD h;have c:=fM c;subst c;obtain ⟨e1,o⟩:=hv.int_inv;obtain ⟨u,s',f,g,m⟩:=Mj n (OE hp o) hl;refine ⟨u,s',?_,g,m⟩;rw[e1,List.foldlM_cons];have e2:(Builtin.min2 (.int k p) (.int k q)).run P w= .ok (.int k (min p q)) w:=by
    simp only[Builtin.min2,Sem.run_pure];congr 2
    split<;>omega
   simp only[Sem.run_bind,e2,Result.andThen_ok];exact f
  cases h
theorem Tt {E:Env}{k:IntKind}{p:Int}{r:List SV}{vs:List Value}{K:SV->Prop}(ts:Array TypeId)(t:TypeId)(h:Kz k p r K)(e:RelL E (.val (.int k p)::r) vs):
  ∃v s,(Builtin.min_ ts t ⟨vs⟩).run P w= .ok v w/\K s/\Rel E s v:=by
 cases e with
 | cons _ v _ vs hv hl=>
  obtain ⟨rfl,c⟩:=hv.int_inv;exact Mj h c hl
theorem Mk {f:Field}{off:Nat}{k:IntKind}(h:IK P f off k=true):f.offset=off/\P.underlying f.type=some (.int k):=by
 unfold IK at h;rw[aG] at h;obtain ⟨e,c⟩:=h;refine ⟨bM.1 e,?_⟩;split at c
 ·rename_i q g;rw[g,fM c]
 cases c
theorem oB {e:TypeId}{q:IntKind}(c:P.underlying e=some (.int q)){xs:Array Value}{off:Nat}{v:Value}(f:xs[off]? =some v):(part e xs off).run P w= .ok v w:=by
 simp[part,isAgg,run_underlying c,f]
theorem Tu {t:TypeId}{o:BinOp}{k k':IntKind}{a b c d:Int}{K:SV->Prop}(h:Lk P t o k k' a b c d K)(E:Env)(x y:Operand):
  (eqGuard o t x y (.agg #[.int k a,.int k' b]) (.agg #[.int k c,.int k' d])).run P w= .ok () w/\∃v s,(binOp o t (.agg #[.int k a,.int k' b]) (.agg #[.int k c,.int k' d])).run P w= .ok v w/\K s/\Rel E s v:=by
 unfold Lk at h;split at h;case h_2=>cases h
 rename_i J F;split at h;case h_2=>cases h
 rename_i f g n;obtain ⟨W,⟨⟨n1,n2,n3⟩,D⟩⟩:=bD h;rw[aG] at W;obtain ⟨A,B⟩:=W;obtain ⟨X,u⟩:=Mk A;obtain ⟨Y,z⟩:=Mk B;have m:P.fieldsOf t=J:=by unfold Program.fieldsOf;rw[F]
 have C:J= #[f,g]:=by apply fJ;simpa using n
 have Z:P.eqGuardType P.depth t=false:=by
  unfold Program.depth;rw[show 2*(P.types.size+Made.depth)+2=(2*(P.types.size+Made.depth)+1)+1 from rfl];simp only[Program.eqGuardType,F,C];simp[Program.eqGuardType,u,z]
 refine ⟨run_eqGuard_agg w o t x y _ _ Z,?_⟩;have e:(Op.equalIn 10000 t (.agg #[.int k a,.int k' b]) (.agg #[.int k c,.int k' d])).run P w= .ok (decide (a=c)&&decide (b=d)) w:=by
  rw[show (10000:Nat)=9999+1 from rfl,run_equalIn_struct w 9999 t _ _ (by rw[m];exact F) n3,m,n];have p1:∀w:World,(part f.type #[.int k a,.int k' b] f.offset).run P w= .ok (.int k a) w:=fun w=>oB u (by rw[X];rfl);have p2:∀w:World,(part f.type #[.int k c,.int k' d] f.offset).run P w= .ok (.int k c) w:=fun w=>oB u (by rw[X];rfl);have p3:∀w:World,(part g.type #[.int k a,.int k' b] g.offset).run P w= .ok (.int k' b) w:=fun w=>oB z (by rw[Y];rfl);have p4:∀w:World,(part g.type #[.int k c,.int k' d] g.offset).run P w= .ok (.int k' d) w:=fun w=>oB z (by rw[Y];rfl);have q1:∀w:World,(Op.equalIn 9999 f.type (.int k a) (.int k c)).run P w= .ok (a==c) w:=fun w=>run_equalIn_int w 9998 f.type k k a c u;have q2:∀w:World,(Op.equalIn 9999 g.type (.int k' b) (.int k' d)).run P w= .ok (b==d) w:=fun w=>run_equalIn_int w 9998 g.type k' k' b d z;simp only[Op.eqFields,n1,n2,ne_eq,not_false_eq_true,if_true,Sem.run_bind,p1,p2,p3,p4,q1,q2,Result.andThen_ok,Sem.run_ite];by_cases e1:a=c
  ·by_cases e2:b=d
   ·simp[e1,e2]
   simp[e1,e2]
  simp[e1]
 cases o<;>simp only at D;case eql=>exact ⟨_,_,by rw[run_eql_struct,e];rfl,D,by rw[<- Bool.decide_and];exact .bl _ _⟩
 case neq=>exact ⟨_,_,by rw[run_neq_struct,e];rfl,D,by rw[<- Bool.decide_and,<- decide_not];exact .bl _ _⟩
theorem Ml:∀ {l:List SV} {K:List (Bx)->Prop},IM l K->∃xs,l=xs.map SV.str/\K xs
 | [],_,h=>⟨[],rfl,h⟩
 | s::r,K,h=>by
  unfold IM at h;split at h
  ·rename_i e;cases e
  ·rename_i s' f e;cases e;obtain ⟨xs,rfl,c⟩:=Ml h;exact ⟨s'::xs,rfl,c⟩
  cases h
theorem Mm {E:Env}:∀ {xs:List (Bx)} {vs:List Value},RelL E (xs.map SV.str) vs->vs=xs.map fun s=>.string ⟨s.toArray⟩
 | [],_,h=>by cases h;rfl
 | x::xs,_,h=>by
  cases h with
  | cons _ v _ vs hv hl=>rw[hv.str_inv,Mm hl];rfl
theorem Dk {t:TypeId}(h:Su P t=true):P.underlying t=some .string:=by
 unfold Su at h;split at h
 ·assumption
 cases h
theorem tL {e:TypeId}(c:P.underlying e=some .string){xs:Array Value}{off:Nat}{v:Value}(f:xs[off]? =some v)(w:World):(part e xs off).run P w= .ok v w:=by
 simp[part,isAgg,run_underlying c,f]
theorem Il {d:Nat}:∀ {e:List Field} {off:Nat},Qg P e off=true->∀f∈e,P.eqGuardType d f.type=true->d=0
 | [],_,_,f,c,_=>by cases c
 | g::r,off,h,f,c,hd=>by
  unfold Qg at h;simp only[aG] at h;rcases bY.1 c with rfl | c
  ·cases d with
   | zero=>rfl
   | succ d=>simp[Program.eqGuardType,Dk h.1.2] at hd
  exact Il h.2 f c hd
theorem Mn {d:Nat}{t:TypeId}{c:Array Field}(e:P.underlying t=some (.struct c)):P.eqGuardType (d+1) t=c.any fun f=>f.name != "_" &&P.eqGuardType d f.type:=by
 simp only[Program.eqGuardType,e]
theorem Cv (w:World)(d:Nat)(A B:List Value):∀(c:List Field) (off:Nat) (xs ys:List (Bx)),Qg P c off=true->Wn c->c.length=xs.length->c.length=ys.length->
  A.drop off=(xs.map fun s=>Value.string ⟨s.toArray⟩)->B.drop off=(ys.map fun s=>Value.string ⟨s.toArray⟩)->(Op.eqFields (d+1) ⟨A⟩ ⟨B⟩ c).run P w= .ok (decide (xs=ys)) w
 | [],off,xs,ys,_,_,h1,h2,_,_=>by
  cases xs<;>cases ys<;>simp_all [Op.eqFields]
 | f::c,off,x::xs,y::ys,e,hn,h1,h2,ha,hb=>by
  unfold Qg at e;simp only[aG] at e;obtain ⟨⟨m,g⟩,e⟩:=e;have m:f.offset=off:=bM.1 m;have g:=Dk g;have z:A[off]? =some (Value.string ⟨x.toArray⟩):=by
   have:=aR (fun l=>l[0]?) ha;simpa [aX] using this
  have C:B[off]? =some (Value.string ⟨y.toArray⟩):=by
   have:=aR (fun l=>l[0]?) hb;simpa [aX] using this
  have F:=tL (P:=P) g (xs:=⟨A⟩) (off:=f.offset) (v:=.string ⟨x.toArray⟩) (by rw[m];simpa using z);have J:=tL (P:=P) g (xs:=⟨B⟩) (off:=f.offset) (v:=.string ⟨y.toArray⟩) (by rw[m];simpa using C);have K:=run_equalIn_string w d f.type ⟨x.toArray⟩ ⟨y.toArray⟩ g;have n:A.drop (off+1)=(xs.map fun s=>Value.string ⟨s.toArray⟩):=by
   rw[<- dW,ha];rfl
  have o:B.drop (off+1)=(ys.map fun s=>Value.string ⟨s.toArray⟩):=by
   rw[<- dW,hb];rfl
  have D:=Cv w d A B c (off+1) xs ys e hn.2 (by simpa using h1) (by simpa using h2) n o;have E:f.name≠ "_" :=hn.1
  have u:((⟨x.toArray⟩:ByteArray).toList==(⟨y.toArray⟩:ByteArray).toList)=decide (x=y):=by
   rw[ByteArray.toList_eq,ByteArray.toList_eq];exact kM.2 si
  simp only[Op.eqFields,E,ne_eq,not_false_eq_true,if_true,Sem.run_bind,F,J,K,u,Result.andThen_ok,Sem.run_ite];by_cases e1:x=y
  ·simp[e1,D]
  simp[e1]
theorem Xz {t:TypeId}{A:BinOp}{l m:List SV}{K:SV->Prop}(h:Sv P t A l m K)(E:Env)(x y:Operand){u v:Value}(hu:Rel E (.agg l) u)(hv:Rel E (.agg m) v):
  (eqGuard A t x y u v).run P w= .ok () w/\∃r s,(binOp A t u v).run P w= .ok r w/\K s/\Rel E s r:=by
 unfold Sv at h;split at h;case h_2=>cases h
 rename_i W D;obtain ⟨F,ex,Z⟩:=Ml h;obtain ⟨J,Y,B⟩:=Ml Z;subst ex Y;obtain ⟨X,⟨⟨n1,n3⟩,C⟩⟩:=bD B;simp only[aG] at X;obtain ⟨⟨g,c⟩,e⟩:=X;have c:=bM.1 c;have e:=bM.1 e;cases hu with
 | agg _ us hl=>
 cases hv with
 | agg _ vs hm=>
 obtain rfl:=Mm hl;obtain rfl:=Mm hm;have z:P.fieldsOf t=W:=by unfold Program.fieldsOf;rw[D]
 have hg:P.eqGuardType P.depth t=false:=by
  unfold Program.depth;rw[show 2*(P.types.size+Made.depth)+2=(2*(P.types.size+Made.depth)+1)+1 from rfl,Mn D];rw[vP];intro n;rw[Array.any_eq_true'] at n;obtain ⟨f,hf,n⟩:=n;simp only[aG] at n;exact absurd (Il g f (by simpa using hf) n.2) om
 refine ⟨run_eqGuard_agg w A t x y _ _ hg,?_⟩;have o:(Op.equalIn 10000 t (.agg ⟨F.map fun s=>.string ⟨s.toArray⟩⟩) (.agg ⟨J.map fun s=>.string ⟨s.toArray⟩⟩)).run P w= .ok (decide (F=J)) w:=by
  rw[show (10000:Nat)=9999+1 from rfl,run_equalIn_struct w 9999 t _ _ (by rw[z];exact D) n3,z];exact Cv w 9998 _ _ W.toList 0 F J g n1 c e rfl rfl
 cases A<;>simp only at C;case eql=>exact ⟨_,_,by rw[run_eql_struct,o];rfl,C,.bl _ _⟩
 case neq=>exact ⟨_,_,by rw[run_neq_struct,o];rfl,C,by rw[<- decide_not];exact .bl _ _⟩
theorem Cw {e:TypeId}(c:P.underlying e=some .bool){xs:Array Value}{off:Nat}{v:Value}(f:xs[off]? =some v)(w:World):(part e xs off).run P w= .ok v w:=by
 simp[part,isAgg,run_underlying c,f]
theorem BR {t:TypeId}(h:rC P t=true):P.underlying t=some .bool:=by
 unfold rC at h;split at h
 ·assumption
 cases h
def JD (P:Program)(f:Field)(off:Nat)(u v:Value)(p:Prop)(d:Decidable p):Prop:=
 f.offset=off/\(∀n,P.eqGuardType n f.type=true->n=0)/\(∀(xs:Array Value) (w:World),xs[off]? =some u->(part f.type xs f.offset).run P w= .ok u w)/\(∀(xs:Array Value) (w:World),xs[off]? =some v->(part f.type xs f.offset).run P w= .ok v w)/\∀(D:Nat) (w:World),(Op.equalIn (D+1) f.type u v).run P w= .ok (@decide p d) w
theorem vI {f:Field}{off:Nat}{a b:Bool}{p:Prop}{d:Decidable p}(e:(Nat.beq f.offset off&&rC P f.type)=true)(s:(a=b)↔p):JD P f off (.bool a) (.bool b) p d:=by
 rw[aG] at e;have m:=bM.1 e.1;have c:=BR e.2;refine ⟨m,fun n o=>?_,fun u w g=>Cw c (by rw[m];exact g) w,fun u w g=>Cw c (by rw[m];exact g) w,fun D w=>?_⟩
 ·cases n with
  | zero=>rfl
  | succ n=>simp[Program.eqGuardType,c] at o
 rw[run_equalIn_bool w D f.type a b c];congr 1
 exact kM.2 (by simp[s])
theorem BS {E:Env}{f:Field}{off:Nat}{a b:SV}{K:(p:Prop)->Decidable p->Prop}(h:Sw P f off a b K){u v:Value}(A:Rel E a u)(B:Rel E b v):∃p d,K p d/\JD P f off u v p d:=by
 unfold Sw at h;split at h
 ·rename_i k x Z y;obtain ⟨c,e⟩:=bD h;rw[aG] at c;obtain ⟨X,Y⟩:=c;obtain rfl:=fM X;obtain ⟨z,g⟩:=Mk Y;obtain ⟨rfl,_⟩:=A.int_inv;obtain ⟨rfl,_⟩:=B.int_inv;refine ⟨_,_,e,z,fun n C=>?_,fun W w s=>oB g (by rw[z];exact s),fun W w s=>oB g (by rw[z];exact s),fun D w=>run_equalIn_int w D f.type k k x y g⟩;cases n with
  | zero=>rfl
  | succ n=>simp[Program.eqGuardType,g] at C
 ·rename_i x y;obtain ⟨c,e⟩:=bD h;rw[aG] at c;have z:=bM.1 c.1;have g:=Dk c.2;obtain rfl:=A.str_inv;obtain rfl:=B.str_inv;refine ⟨_,_,e,z,fun n C=>?_,fun W w s=>tL g (by rw[z];exact s) w,fun W w s=>tL g (by rw[z];exact s) w,fun D w=>?_⟩
  ·cases n with
   | zero=>rfl
   | succ n=>simp[Program.eqGuardType,g] at C
  rw[run_equalIn_string w D f.type ⟨x.toArray⟩ ⟨y.toArray⟩ g];congr 1
  rw[ByteArray.toList_eq,ByteArray.toList_eq];exact kM.2 si
 ·obtain ⟨c,e⟩:=bD h;obtain ⟨m,rfl,F⟩:=A.bool_is cJ;obtain ⟨o,rfl,J⟩:=B.bool_is cJ;refine ⟨_,_,e,vI c ?_⟩;rename_i x y;cases m<;>cases o<;>cases x<;>cases y<;>simp_all
 ·obtain ⟨c,e⟩:=bD h;obtain ⟨m,rfl,F⟩:=A.bool_is cJ;obtain ⟨o,rfl,J⟩:=B.bool_is cJ;refine ⟨_,_,e,vI c ?_⟩;cases m<;>cases o<;>simp_all
 ·obtain ⟨c,e⟩:=bD h;obtain ⟨m,rfl,F⟩:=A.bool_is cJ;obtain ⟨o,rfl,J⟩:=B.bool_is cJ;refine ⟨_,_,e,vI c ?_⟩;rename_i p d y;cases m<;>cases o<;>cases y<;>simp_all
 ·obtain ⟨c,e⟩:=bD h;obtain ⟨m,rfl,F⟩:=A.bool_is cJ;obtain ⟨o,rfl,J⟩:=B.bool_is cJ;refine ⟨_,_,e,vI c ?_⟩;rename_i x q d;cases m<;>cases o<;>cases x<;>simp_all
 cases h
theorem Im {E:Env}(w:World)(D:Nat)(A B:List Value):∀(c:List Field) (off:Nat) (l m:List SV) (K:(p:Prop)->Decidable p->Prop) (us vs:List Value),xL P c off l m K->RelL E l us->RelL E m vs->A.drop off=us->B.drop off=vs->
  ∃p d,K p d/\(∀f∈c,∀n,P.eqGuardType n f.type=true->n=0)/\(Wn c->(Op.eqFields (D+1) ⟨A⟩ ⟨B⟩ c).run P w= .ok (@decide p d) w)
 | [],off,[],[],K,us,vs,h,_,_,_,_=>⟨_,_,h,fun f X=>(by cases X),fun _=>by simp[Op.eqFields]⟩
 | [],_,_:: _,_,_,_,_,h,_,_,_,_=>by simp[xL] at h
 | [],_,[],_:: _,_,_,_,h,_,_,_,_=>by simp[xL] at h
 | _:: _,_,[],_,_,_,_,h,_,_,_,_=>by simp[xL] at h
 | _:: _,_,_:: _,[],_,_,_,h,_,_,_,_=>by simp[xL] at h
 | f::c,off,a::l',b::m',K,us,vs,h,hl,hm,ha,hb=>by
   change Sw P f off a b _ at h;cases hl with
   | cons _ u _ us hu hl=>
   cases hm with
   | cons _ v _ vs hv hm=>
   obtain ⟨p,d,J,o1,C,p1,p2,q1⟩:=BS h hu hv;have s:A[off]? =some u:=by
    have:=aR (fun l=>l[0]?) ha;simpa [aX] using this
   have y:B[off]? =some v:=by
    have:=aR (fun l=>l[0]?) hb;simpa [aX] using this
   have x:A.drop (off+1)=us:=by rw[<- dW,ha];rfl
   have z:B.drop (off+1)=vs:=by rw[<- dW,hb];rfl
   obtain ⟨q,d',W,F,e2⟩:=Im w D A B c (off+1) l' m' _ us vs J hl hm x z;refine ⟨_,_,W,fun g e=>?_,fun o=>?_⟩
   ·rcases bY.1 e with rfl | e
    ·exact C
    exact F g e
   have Z:f.name≠ "_" :=o.1
   have Y:=e2 o.2;have r1:=p1 ⟨A⟩ w (by simpa using s);have r2:=p2 ⟨B⟩ w (by simpa using y);simp only[Op.eqFields,Z,ne_eq,not_false_eq_true,if_true,Sem.run_bind,r1,r2,q1,Result.andThen_ok,Sem.run_ite];by_cases e1:p
   ·simp[e1,Y]
   simp[e1]
theorem Ya {t:TypeId}{n:BinOp}{l m:List SV}{K:SV->Prop}(h:Sx P t n l m K)(E:Env)(x y:Operand){u v:Value}(J:Rel E (.agg l) u)(W:Rel E (.agg m) v):
  (eqGuard n t x y u v).run P w= .ok () w/\∃r s,(binOp n t u v).run P w= .ok r w/\K s/\Rel E s r:=by
 unfold Sx at h;split at h;case h_2=>cases h
 rename_i B A;cases J with
 | agg _ us hl=>
 cases W with
 | agg _ vs hm=>
 obtain ⟨p,d,⟨⟨X,Y⟩,z⟩,o,C⟩:=Im w 9998 us vs B.toList 0 l m _ us vs h hl hm rfl rfl;have g:P.fieldsOf t=B:=by unfold Program.fieldsOf;rw[A]
 have F:P.eqGuardType P.depth t=false:=by
  unfold Program.depth;rw[show 2*(P.types.size+Made.depth)+2=(2*(P.types.size+Made.depth)+1)+1 from rfl,Mn A];rw[vP];intro c;rw[Array.any_eq_true'] at c;obtain ⟨f,D,c⟩:=c;simp only[aG] at c;exact absurd (o f (by simpa using D) _ c.2) om
 refine ⟨run_eqGuard_agg w n t x y _ _ F,?_⟩;have e:(Op.equalIn 10000 t (.agg ⟨us⟩) (.agg ⟨vs⟩)).run P w= .ok (@decide p d) w:=by
  rw[show (10000:Nat)=9999+1 from rfl,run_equalIn_struct w 9999 t _ _ (by rw[g];exact A) Y,g];exact C X
 cases n<;>simp only at z;case eql=>exact ⟨_,_,by rw[run_eql_struct,e];rfl,z,.bl _ _⟩
 case neq=>exact ⟨_,_,by rw[run_neq_struct,e];rfl,z,by rw[<- decide_not];exact .bl _ _⟩
theorem OK {u:Value}(h:SV.val (.slice none 0 0)=HY u):u= .slice none 0 0:=by
 unfold HY at h;split at h
 ·rename_i k n;cases hq:(decide (lo k<=n)&&decide (n<=hi k)) with
  | true=>rw[hq] at h;cases h
  | false=>rw[hq] at h;cases h
 ·rename_i s;cases hq:Nat.ble s.data.toList.length 140737488355328 with
  | true=>rw[hq] at h;cases h
  | false=>rw[hq] at h;cases h
 injection h with h;exact h.symm
theorem xP (F:Inv G H loc ver w){nm off:Nat}{t:Ty}{e:TypeId}{K:List HO->Prop}(h:nilRef H nm off t e K):
  ∃H' loc' ver',K H'/\Inv G H' loc' ver' w/\Ext (envOf G H loc ver w) (envOf G H' loc' ver' w):=by
 unfold nilRef at h;cases ho:bX H nm with
 | cells l ce=>
  rw[ho] at h;simp only at h;split at h;case h_2=>cases h
  rename_i X;obtain ⟨g,h⟩:=bD h;rw[cD,cD] at h;have g:off<l.length:=by simpa using g
  have D:=bB ho si;have y:nm<H.length:=(aK.1 D).1;have x:=F.fresh (w':=w) (.vec 1 t [] e) (zT none 0 0) 1 (aI _) rfl rfl rfl (fun _ _=>rfl) (fun b u=>by simp[Owns] at u)
   (fun E=>⟨rfl,Nat.one_pos,rfl,aF _,[],⟨si,.inl ⟨rfl,rfl⟩⟩,fun i hi=>absurd hi (aT _)⟩)
  have m:(H++ [HO.vec 1 t [] e])[nm]? =some (.cells l ce):=by rw[bN y];exact D
  have c:nm<(H++ [HO.vec 1 t [] e]).length:=by simp;omega
  have B:=x.1.turn nm (H':=cA (H++ [HO.vec 1 t [] e]) nm (.cells (l.set off (.ref H.length 1)) ce)) (loc':=sV loc H.length (zT none 0 0)) (ver':=sV ver H.length 1) (w':=w) (by simp[cA]) (fun k J=>⟨bS J,rfl,rfl⟩) (fun _=>eJ (aP c) rfl) (fun _=>.inl ⟨rfl,rfl,.inl rfl⟩) (aI _) rfl rfl rfl
   (by rw[m];intro h;cases h) (fun _=>by rw[show cA (H++ [HO.vec 1 t [] e]) nm _=(H++ [HO.vec 1 t [] e]).set nm _ from rfl,aP c];intro h;cases h)
   (fun st n it b h=>by rw[show cA (H++ [HO.vec 1 t [] e]) nm _=(H++ [HO.vec 1 t [] e]).set nm _ from rfl,aP c] at h;cases h) (fun _ _ _=>rfl)
   (fun Y b f u=>by
    rw[show cA (H++ [HO.vec 1 t [] e]) nm _=(H++ [HO.vec 1 t [] e]).set nm _ from rfl,aP c] at f;cases f
    exact .inl ⟨_,m,u⟩)
   (fun E Y f=>by
    rw[show cA (H++ [HO.vec 1 t [] e]) nm _=(H++ [HO.vec 1 t [] e]).set nm _ from rfl,aP c] at f;cases f;obtain ⟨Z,b,vs,q2,q3,A⟩:=x.1.objs nm _ m;refine ⟨Z,b,vs,q2,q3,?_⟩;have C:=A.get off g;rw[X] at C;have z:=C.nil_inv;have W:Rel (envOf G (cA (H++ [HO.vec 1 t [] e]) nm (.cells (l.set off (.ref H.length 1)) ce)) (sV loc H.length (zT none 0 0)) (sV ver H.length 1) w) (.ref H.length 1) (vs.getD off undef):=by
     refine .ref _ _ _ (by
      refine eJ (o:=HO.vec 1 t [] e) ?_ rfl;rw[show cA (H++ [HO.vec 1 t [] e]) nm _=(H++ [HO.vec 1 t [] e]).set nm _ from rfl,bS om]
      exact gG) Nat.one_pos (by simp[envOf,bF]) fun _=>?_
     simp only[envOf,bF];rw[z];rfl
    have:=(A.ext E).set off W;have s:off<vs.length:=by rw[<- A.length];exact g
    rwa [show vs.set off (vs.getD off undef)=vs from by
     rw[aB,aY s,lK];exact qZ s] at this)
  exact ⟨_,_,_,h,B.1,x.2.trans B.2⟩
 | _=>rw[ho] at h;cases h
theorem rK (hY:COK P G){Γ:List Con}(hΓ:∀c∈Γ,aM P c){F:Fence}(hF:Opn F)(C:Inv G H loc ver w){N:Nat}{l:List (Nat × SV)}{a:Act}(hT:TRel (envOf G H loc ver w) N l a){o:Oper}{K:SV->List HO->Prop}(h:op1 P Γ o l H K):(∀c,o.op≠ .defer c)/\OpOK P F o a w (Res G (envOf G H loc ver w) K):=by
 have ev:=fun x=>oZ hT x;unfold op1 at h;cases ho:o.op with
 | move x=>
  simp only[ho,kF] at h;exact ⟨si,dU C (by simp[execOp,ho]) h (ev x)⟩
 | assign x=>
  simp only[ho] at h;refine ⟨si,?_⟩;cases hn:DJ P o.type x with
  | none=>
   rw[hn] at h;simp only[kF] at h;cases hp:So (Eng.ev l x) with
   | true=>
    rw[hp,bP] at h;exact .value (a.eval x) w (by simp[execOp,ho]) (Ti C h (ev x))
   | false=>
    rw[hp,cM] at h;exact dU C (by simp[execOp,ho]) h (ev x)
  | some p=>
   obtain ⟨ty,e⟩:=p;rw[hn] at h;simp only[cD] at h;have X:x= .const (.slice none 0 0):=by
    unfold DJ at hn;split at hn
    ·rfl
    cases hn
   subst X;have hf:=C.fresh (w':=w) (.vec 1 ty [] e) (zT none 0 0) 1 (aI _) rfl rfl rfl (fun _ _=>rfl) (by intro b J;simp[Owns] at J)
    (fun X=>⟨rfl,Nat.one_pos,rfl,aF _,[],⟨si,.inl ⟨rfl,rfl⟩⟩,fun i hi=>absurd hi (aT _)⟩)
   refine .value (.slice none 0 0) w (by simp[execOp,ho,Act.eval]) ⟨_,_,_,_,h,hf.1,?_,hf.2⟩;refine .ref _ _ _ (by exact nI rfl) Nat.one_pos (by simp[envOf,bF]) fun _=>?_;simp[envOf,bF,Core.head]
 | pick c x y=>
  simp only[ho] at h;obtain ⟨b,s,A,B,D⟩:=BP (P:=P) (w:=w) h (ev x) (ev y) (ev c);exact ⟨si,dU C (by simp[execOp,ho,A]) B D⟩
 | binOp op t x y yt=>
  simp only[ho] at h;have e1:=ev x;have e2:=ev y;split at h
  ·rename_i k p k' q A B;rw[A] at e1;rw[B] at e2;obtain ⟨e3,hp⟩:=e1.int_inv;obtain ⟨e4,hq⟩:=e2.int_inv;cases hsh:DC op with
   | true=>
    rw[hsh] at h;simp only[bP] at h;obtain ⟨v,s,D,Y,h5⟩:=Pn (P:=P) (w:=w) (E:=envOf G H loc ver w) (k':=k') h hp t;exact ⟨si,dU C (by simp[execOp,ho,e3,e4,sW,D]) Y h5⟩
   | false=>
   rw[hsh] at h;simp only[cM] at h;obtain ⟨J,hK⟩:=bD h;have J:=fM J;subst J;obtain ⟨v,s,D,Y,h5⟩:=Xi (P:=P) (w:=w) (E:=envOf G H loc ver w) hK hp hq t;exact ⟨si,dU C (by simp[execOp,ho,e3,e4,sW,D]) Y h5⟩
  ·rename_i ty xs A B;obtain ⟨J,hK⟩:=bD h;rw[A] at e1;rw[B] at e2;obtain ⟨a0,n,c,e3,X⟩:=e1.seq_inv;have e4:=e2.nil_inv;obtain ⟨v,s,D,Y,h5⟩:=vH (P:=P) (w:=w) (E:=envOf G H loc ver w) (t:=t) (a:=a0) (n:=n) (c:=c) J hK X;exact ⟨si,dU C (by simp[execOp,ho,e3,e4,mZ,D]) Y h5⟩
  ·rename_i nm k A B;have c4:∀(ty:Ty) (xs:List ty.T),Rel (envOf G H loc ver w) (.seq ty xs) (a.eval x)->∃a0 n c,a.eval x= .slice a0 n c/\(a0=none->xs= []):=fun ty xs hr=>hr.seq_inv;rw[A] at e1;rw[B] at e2;have e4:=e2.nil_inv;split at h
   ·rename_i v ty xs e c3;obtain ⟨J,hK⟩:=bD h;obtain ⟨J,W⟩:_=true/\ _=true:=by simpa only[aG] using J
    have e5:=jR C e1;simp only[eU,c3,W,mW,bP] at e5;obtain ⟨a0,n,c,e3,X⟩:=e5.seq_inv;obtain ⟨v,s,D,Y,h5⟩:=vH (P:=P) (w:=w) (E:=envOf G H loc ver w) (t:=t) (a:=a0) (n:=n) (c:=c) J hK X;exact ⟨si,dU C (by simp[execOp,ho,e3,e4,mZ,D]) Y h5⟩
   ·rename_i v ty xs c3;obtain ⟨J,hK⟩:=bD h;obtain ⟨J,W⟩:_=true/\ _=true:=by simpa only[aG] using J
    have e5:=jR C e1;simp only[eU,c3,W,bP] at e5;obtain ⟨a0,n,c,e3,X⟩:=e5.seq_inv;obtain ⟨v,s,D,Y,h5⟩:=vH (P:=P) (w:=w) (E:=envOf G H loc ver w) (t:=t) (a:=a0) (n:=n) (c:=c) J hK X;exact ⟨si,dU C (by simp[execOp,ho,e3,e4,mZ,D]) Y h5⟩
   cases h
  ·rename_i A B;obtain ⟨J,hK⟩:=bD h;rw[A] at e1;rw[B] at e2;have e3:=e1.nil_inv;have e4:=e2.nil_inv;obtain ⟨v,s,D,Y,h5⟩:=vH (P:=P) (w:=w) (E:=envOf G H loc ver w) (t:=t) (a:=none) (n:=0) (c:=0) J hK (fun _=>trivial);exact ⟨si,dU C (by simp[execOp,ho,e3,e4,mZ,D]) Y h5⟩
  ·rename_i s1 s2 A B;rw[A] at e1;rw[B] at e2;have e3:=e1.str_inv;have e4:=e2.str_inv;obtain ⟨v,s,D,Y,h5⟩:=Xv (P:=P) (w:=w) (E:=envOf G H loc ver w) t h;exact ⟨si,dU C (by simp[execOp,ho,e3,e4,Jo,D]) Y h5⟩
  all_goals (try exact h.elim)
  rotate_left 4
  ·rename_i k a1 k' b1 j c1 j' d1 A B;obtain ⟨J,hK⟩:=bD h;rw[aG] at J;obtain ⟨a7,a8⟩:=J;have a7:=fM a7;have a8:=fM a8;subst a7 a8;rw[A] at e1;rw[B] at e2;have d0:∀ {k k':IntKind} {a1 b1:Int} {v:Value},Rel (envOf G H loc ver w) (.agg [.val (.int k a1),.val (.int k' b1)]) v->v= .agg #[.int k a1,.int k' b1]:=fun hr=>by
    cases hr with
    | agg _ vs hl=>
     cases hl with
     | cons _ _ _ _ r1 hl=>
      cases hl with
      | cons _ _ _ _ r2 hl=>
       cases hl;obtain ⟨rfl,_⟩:=r1.int_inv;obtain ⟨rfl,_⟩:=r2.int_inv;rfl
   have e3:=d0 e1;have e4:=d0 e2;obtain ⟨g1,v,s,D,Y,h5⟩:=Tu (P:=P) (w:=w) hK (envOf G H loc ver w) x y;exact ⟨si,dU C (by simp[execOp,ho,e3,e4,g1,D]) Y h5⟩
  ·rename_i a1 l1 b1 l2 A B;rw[A] at e1;rw[B] at e2;obtain ⟨g1,v,s,D,Y,h5⟩:=Xz (P:=P) (w:=w) h (envOf G H loc ver w) x y e1 e2;exact ⟨si,dU C (by simp[execOp,ho,g1,D]) Y h5⟩
  ·rename_i A B;obtain ⟨J,hK⟩:=bD h;obtain ⟨a7,a8⟩:_=true/\ _=true:=by simpa only[aG] using J
   rw[A] at e1;rw[B] at e2;have e4:=e2.nilI_inv;generalize W:a.eval x=v0 at e1;cases e1 with
   | ifc _ hi=>
   obtain ⟨v,s,D,Y,h5⟩:=Xy (P:=P) (w:=w) (E:=envOf G H loc ver w) a7 hi hK;exact ⟨si,dU C (by simp[execOp,ho,W,e4,yS op t x y a8 hi,D]) Y h5⟩
  ·rename_i A B;obtain ⟨J,hK⟩:=bD h;obtain ⟨a7,a8⟩:_=true/\ _=true:=by simpa only[aG] using J
   rw[A] at e1;rw[B] at e2;have e3:=e1.nilI_inv;have e4:=e2.nilI_inv;obtain ⟨v,s,D,Y,h5⟩:=BQ (P:=P) (w:=w) (E:=envOf G H loc ver w) a7 hK;exact ⟨si,dU C (by simp[execOp,ho,e3,e4,yS op t x y a8 (.inl rfl),D]) Y h5⟩
  ·rename_i k k' q A B;obtain ⟨J,hK⟩:=bD h;have J:=fM J;subst J;rw[A] at e1;rw[B] at e2;obtain ⟨e4,hq⟩:=e2.int_inv;generalize W:a.eval x=v0 at e1;cases e1 with
   | num _ p hp=>
   obtain ⟨v,s,D,Y,h5⟩:=Xh (P:=P) (w:=w) (E:=envOf G H loc ver w) (a:=p) (b:=q) hK t;exact ⟨si,dU C (by simp[execOp,ho,W,e4,sW,D]) Y h5⟩
  ·rename_i l1 l2 _ _ A B;rw[A] at e1;rw[B] at e2;obtain ⟨g1,v,s,D,Y,h5⟩:=Ya (P:=P) (w:=w) h (envOf G H loc ver w) x y e1 e2;exact ⟨si,dU C (by simp[execOp,ho,g1,D]) Y h5⟩
  all_goals
   rename_i A B;obtain ⟨J,hK⟩:=bD h;rw[A] at e1;rw[B] at e2;obtain ⟨b1,e3,q1⟩:=e1.bool_is cJ;obtain ⟨b2,e4,q2⟩:=e2.bool_is cJ;obtain ⟨v,s,D,Y,h5⟩:=Tr (P:=P) (w:=w) (E:=envOf G H loc ver w) (t:=t) J hK q1 q2;exact ⟨si,dU C (by simp[execOp,ho,e3,e4,Gj,D]) Y h5⟩
 | unOp op t x=>
  have e1:=ev x;cases op with
  | not=>
   simp only[ho] at h;split at h
   ·rename_i A;rw[A] at e1;exact ⟨si,dU C (by simp[execOp,ho,e1.bool_inv,Op.unary]) h (.val _ trivial)⟩
   ·rename_i A;rw[A] at e1;exact ⟨si,dU C (by simp[execOp,ho,e1.bool_inv,Op.unary]) h (.val _ trivial)⟩
   ·rename_i p d A;rw[A] at e1;generalize W:a.eval x=v at e1;cases e1;refine ⟨si,dU C (v:=.bool (decide (¬p))) (by simp[execOp,ho,W,Op.unary]) h (.bl _ _)⟩
   cases h
  | neg=>
   simp only[ho] at h;split at h
   ·rename_i k n A;rw[A] at e1;obtain ⟨e2,hn⟩:=e1.int_inv;obtain ⟨B,D⟩:=Bd h;exact ⟨si,dU C (by simp[execOp,ho,e2,Op.unary,Op.intArith,xN B]) D (.val _ B)⟩
   cases h
  | _=>simp only[ho] at h
 | convert s d x=>
  simp only[ho] at h;obtain ⟨v,s',A,B,D⟩:=BO (P:=P) (w:=w) C h (ev x);exact ⟨si,dU C (by simp[execOp,ho,A]) B D⟩
 | alloc t=>
  simp only[ho] at h;split at h
  ·rename_i ty e hn;simp only[cD] at h;have hz:rA P t=some [.val (.slice none 0 0)]:=by
    unfold Wo at hn;split at hn
    ·assumption
    cases hn
   obtain ⟨v,W,b7⟩:=rG hz w;have d6:v.cells.toList= [.slice none 0 0]:=by
    cases hl:v.cells.toList with
    | nil=>rw[hl] at b7;cases b7
    | cons u r=>
     rw[hl] at b7;simp only[jT,List.cons.injEq] at b7;obtain ⟨A,B⟩:=b7;have hr:r= []:=by
      cases r with
      | nil=>rfl
      | cons _ _=>cases B
     subst hr;rw[OK A]
   have hf:=C.fresh (w':=w) (.vec 1 ty [] e) (zT none 0 0) 1 (aI _) rfl rfl rfl (fun _ _=>rfl) (by intro b J;simp[Owns] at J)
    (fun X=>⟨rfl,Nat.one_pos,rfl,aF _,[],⟨si,.inl ⟨rfl,rfl⟩⟩,fun i hi=>absurd hi (aT _)⟩)
   obtain ⟨s,H',a3,a4,r1,r2,r3,r4⟩:=zZ (vs:=[.slice none 0 0]) hf.1 (.cons _ _ _ _ (.ref _ _ _ (by exact nI rfl) Nat.one_pos (by simp[envOf,bF]) fun _=>by simp[envOf,bF,Core.head]) .nil) t h
   refine ⟨si,.value _ _ (by
    have hc:v.cells=(⟨[.slice none 0 0]⟩:Array Value):=by apply fJ;simpa using d6
    have c8:=Bn (P:=P) W;rw[hc] at c8
    simp[execOp,ho,c8]) ⟨s,H',a3,a4,r1,r2,r3,hf.2.trans r4⟩⟩
  split at h
  ·rename_i z hz;rw[cD] at h;obtain ⟨v,W,rfl⟩:=rG hz w;cases hn:Sy (.agg (v.cells.toList.map HY)) with
   | false=>
    rw[hn,cM] at h;exact ⟨si,.value _ _ (by simp[execOp,ho,Bn W]) (zZ C (sE _ _) t h)⟩
   | true=>
    rw[hn,bP] at h;have b5:Res G (envOf G H loc ver w) K (.pointer (some ⟨w.heap.size,0,none⟩)) (w.alloc (.cells ⟨v.cells.toList⟩ t)):=by
     obtain ⟨s,H',a3,a4,r1,r2,r3,r4⟩:=zZ C (sE (envOf G H loc ver w) v.cells.toList) t h;rcases r1.or with r1 | ⟨a2,t',e,r1⟩
     ·exact ⟨s,H',a3,a4,r1,r2,r3,r4⟩
     obtain ⟨b8,a5,a6,k1,k2,k3⟩:=xP r2 r1;exact ⟨s,b8,a5,a6,k1,k2,r3.ext k3,r4.trans k3⟩
    exact ⟨si,.value _ _ (by simp[execOp,ho,Bn W]) b5⟩
  cases h
 | nilCheck x=>
  simp only[ho] at h;have e1:=ev x;split at h
  ·rename_i nm a2 X;obtain ⟨J,h⟩:=bD h;rw[X] at e1;obtain ⟨b,_,e2⟩:=wM C e1 J;rw[e2] at e1;exact ⟨si,dU C (v:=.pointer (some ⟨b,a2,none⟩)) (by simp[execOp,ho,e2]) h e1⟩
  ·rename_i n X;rw[X] at e1;generalize W:a.eval x=v at e1;cases e1 with
   | wcel _ b e hw hok hr=>
    exact ⟨si,dU C (v:=.pointer (some ⟨b,0,none⟩)) (by simp[execOp,ho,W]) h (.wcel n b e hw hok hr)⟩
  cases h
 | box t x=>
  simp only[ho] at h;obtain ⟨J,h⟩:=bD h;rw[cD] at h;cases hn:IN (Eng.ev l x) with
  | false=>
   rw[hn,cM] at h;exact ⟨si,.value _ _ (by simp[execOp,ho,D0]) (zZ C (tY C (ev x) J) t h)⟩
  | true=>
   rw[hn,bP] at h;have b5:Res G (envOf G H loc ver w) K (.pointer (some ⟨w.heap.size,0,none⟩)) (w.alloc (.cells (a.eval x).cells t)):=by
    obtain ⟨s,H',a3,a4,r1,r2,r3,r4⟩:=zZ C (tY C (ev x) J) t h;rcases r1.or with r1 | ⟨a2,t',e,r1⟩
    ·exact ⟨s,H',a3,a4,r1,r2,r3,r4⟩
    obtain ⟨b8,a5,a6,k1,k2,k3⟩:=xP r2 r1;exact ⟨s,b8,a5,a6,k1,k2,r3.ext k3,r4.trans k3⟩
   exact ⟨si,.value _ _ (by simp[execOp,ho,D0]) b5⟩
 | build t ps=>
  simp only[ho] at h;obtain ⟨J,h⟩:=bD h;have hp:=Qj C hT ps.toList J;obtain ⟨v,s,A,B,D⟩:∃v s,(Instr.build t (ps.toList.map fun p=>(p.1,a.eval p.2)).toArray).run P w= .ok v w/\K s H/\Rel (envOf G H loc ver w) s v:=by
   cases har:DF P t with
   | true=>rw[har,bP] at h;exact Tm (P:=P) (w:=w) rfl (K:=fun v=>K v H) h hp
   | false=>rw[har,cM] at h;exact Pp (P:=P) (w:=w) rfl (K:=fun v=>K v H) h hp
  have e:ps.map (fun p=>(p.1,a.eval p.2))=(ps.toList.map fun p=>(p.1,a.eval p.2)).toArray:=by apply fJ;simp
  exact ⟨si,dU C (v:=v) (by
   simp only[execOp,ho];rw[show (ps.map fun (x:Nat × Operand)=>match x with | (i,x)=>(i,a.eval x))=(ps.toList.map fun p=>(p.1,a.eval p.2)).toArray from e]
   simp[A]) B D⟩
 | buildSlice t n ps=>
  simp only[ho] at h;cases c4:BF (ps.toList.map fun p=>(p.1,Eng.ev l p.2)) with
  | true=>
  rw[c4,bP,cD] at h;obtain ⟨J,h⟩:=bD h;obtain ⟨b4,c'⟩:=tZ (ps.toList.map fun p=>Eng.ev l p.2) C;have d4:=hT.ext c';have hp:∀qs:List (Nat × Operand),vG (FT H (ps.toList.map fun p=>Eng.ev l p.2)) (qs.map fun p=>(p.1,eU false (FT H (ps.toList.map fun p=>Eng.ev l p.2)) (Eng.ev l p.2)))=true->
    RelP (envOf G (FT H (ps.toList.map fun p=>Eng.ev l p.2)) loc ver w) (qs.map fun p=>(p.1,eU false (FT H (ps.toList.map fun p=>Eng.ev l p.2)) (Eng.ev l p.2))) (qs.map fun p=>(p.1,a.eval p.2)):=by
   intro qs
   induction qs with
   | nil=>exact fun _=>.nil
   | cons p r ih=>
    intro hc;simp only[jT,vG,aG] at hc;have hr:=Ew (H:=FT H (ps.toList.map fun p=>Eng.ev l p.2)) (lend:=false) (Ext.refl _) (fun _ _ _ h=>wO b4 h) (fun nm k v h=>lZ b4 h) (fun nm k i v _=>mU nm k i v) (fun nm v h=>rZ b4 (Ext.refl _) (.inl rfl) h) (oZ d4 p.2);exact .cons _ _ _ _ _ (tY b4 hr hc.1) hr (ih hc.2)
  obtain ⟨v,w',A,s,H2,d2,d3,k1,k2,k3,k4⟩:=wN (P:=P) b4 h (hp ps.toList J);have e:ps.map (fun p=>(p.1,a.eval p.2))=(ps.toList.map fun p=>(p.1,a.eval p.2)).toArray:=by apply fJ;simp
  exact ⟨si,.value v w' (by
   simp only[execOp,ho];rw[show (ps.map fun (x:Nat × Operand)=>match x with | (i,x)=>(i,a.eval x))=(ps.toList.map fun p=>(p.1,a.eval p.2)).toArray from e]
   simp[A]) ⟨s,H2,d2,d3,k1,k2,k3,c'.trans k4⟩⟩
  | false=>
  rw[c4,cM] at h;obtain ⟨J,h⟩:=bD h;have hp:=Qj C hT ps.toList J;obtain ⟨v,w',A,B⟩:=wN (P:=P) C h hp;have e:ps.map (fun p=>(p.1,a.eval p.2))=(ps.toList.map fun p=>(p.1,a.eval p.2)).toArray:=by apply fJ;simp
  exact ⟨si,.value v w' (by
   simp only[execOp,ho];rw[show (ps.map fun (x:Nat × Operand)=>match x with | (i,x)=>(i,a.eval x))=(ps.toList.map fun p=>(p.1,a.eval p.2)).toArray from e]
   simp[A]) B⟩
 | load t x=>
  simp only[ho] at h;cases W:Pe H (Eng.ev l x) with
  | true=>
   rw[W,bP] at h;obtain ⟨v,s,A,B,D⟩:=Yp (P:=P) C h (ev x);exact ⟨si,dU C (by simp[execOp,ho,A]) B D⟩
  | false=>
   rw[W,cM] at h;obtain ⟨v,s,A,B,D⟩:=Tj (P:=P) C h (ev x);exact ⟨si,dU C (by simp[execOp,ho,A]) B D⟩
 | store t x y=>
  simp only[ho] at h;cases W:Pe H (Eng.ev l x) with
  | true=>
   rw[W,bP] at h;obtain ⟨H',a3,w',A,B,D,Y⟩:=Uc (P:=P) C h (ev x) (ev y);exact ⟨si,.skip w' (by simp[execOp,ho,A]) ⟨_,_,_,_,B,D,.any _,Y⟩⟩
  | false=>
   rw[W,cM] at h;cases hn:Sy (Eng.ev l y) with
   | false=>
    rw[hn,cM] at h;obtain ⟨H',w',A,B,D,Y⟩:=Cs (P:=P) C h (ev x) (ev y);exact ⟨si,.skip w' (by simp[execOp,ho,A]) ⟨_,_,_,_,B,D,.any _,Y⟩⟩
   | true=>
    rw[hn,bP] at h;obtain ⟨H',w',A,B,D,Y⟩:=Cs (P:=P) C h (ev x) (ev y);rcases B.or with B | ⟨a2,t',e,B⟩
    ·exact ⟨si,.skip w' (by simp[execOp,ho,A]) ⟨_,_,_,_,B,D,.any _,Y⟩⟩
    obtain ⟨b8,a5,a6,k1,k2,k3⟩:=xP D B;exact ⟨si,.skip w' (by simp[execOp,ho,A]) ⟨_,_,_,_,k1,k2,.any _,Y.trans k3⟩⟩
 | fieldAddr t x f=>
  simp only[ho] at h;have e1:=ev x;split at h
  ·rename_i s fo sz ag hf;obtain ⟨J,h⟩:=bD h;simp only[aG] at J;have b6:0<sz:=by simpa using J.2
   split at h
   ·rename_i nm a2 X;rw[X] at e1 J;obtain ⟨b,b',e2⟩:=wM C e1 J.1;refine ⟨si,dU C (v:=.pointer (some ⟨b,a2+fo,none⟩)) (by simp[execOp,ho,e2,sF (P:=P) (w:=w) hf b6]) h ?_⟩;generalize a.eval x=v at e1 e2;cases e1 with
    | ptr _ _ _ hn _=>exact .ptr _ _ _ hn fun _=>⟨b,b',rfl⟩
   ·rename_i ty xs i a2 X;rw[X] at e1;generalize W:a.eval x=v at e1;cases e1 with
    | elem _ _ _ _ b o es hi hok hr hrd=>
     refine ⟨si,dU C (v:=.pointer (some ⟨b,o+a2+fo,none⟩)) (by simp[execOp,ho,W,sF (P:=P) (w:=w) hf b6]) h ?_⟩;rw[iS];exact .elem ty xs i (a2+fo) b o es hi hok hr hrd
   ·rename_i nm k i z a2 X;rw[X] at e1 J;generalize W:a.eval x=v at e1;cases e1 with
    | vptr _ _ _ _ _ _ hn h0 hk hp=>
     have hl:=J.1;simp only[Kw] at hl;cases hg:bX H nm with
     | vec j t' xs e=>
      rw[hg] at hl;obtain rfl:=bM.1 hl;have hO:=C.objs nm _ (bB hg si);obtain ⟨a9,b,o,b',rfl⟩:=hp hO.1.symm;refine ⟨si,dU C (v:=.pointer (some ⟨b,o+i*z+a2+fo,none⟩)) (by simp[execOp,ho,W,sF (P:=P) (w:=w) hf b6]) h ?_⟩;exact .vptr nm j i z (a2+fo) _ hn h0 hk fun _=>⟨a9,b,o,b',by simp[iS]⟩
     | _=>rw[hg] at hl;cases hl
   ·rename_i l' a2 X;rw[X] at e1;generalize W:a.eval x=v at e1;cases e1 with
    | lelem _ _ b o vs hl hok hr=>
     refine ⟨si,dU C (v:=.pointer (some ⟨b,o+a2+fo,none⟩)) (by simp[execOp,ho,W,sF (P:=P) (w:=w) hf b6]) h ?_⟩;rw[iS];exact .lelem l' (a2+fo) b o vs hl hok hr
   ·rename_i n X;obtain ⟨c2,h⟩:=bD h;have c2:=bM.1 c2;subst c2;rw[X] at e1;generalize W:a.eval x=v at e1;cases e1 with
    | wcel _ b e hw hok hr=>
     exact ⟨si,dU C (v:=.pointer (some ⟨b,0+0,none⟩)) (by simp[execOp,ho,W,sF (P:=P) (w:=w) hf b6]) h (.wcel n b e hw hok hr)⟩
   cases h
  cases h
 | field t x f=>
  simp only[ho] at h;have e1:=ev x;split at h
  ·rename_i cs fo sz ag X hf;rw[X] at e1;generalize W:a.eval x=v at e1;cases e1 with
   | agg _ vs hl=>
    obtain ⟨v',s,A,B,D⟩:=F4 (P:=P) (w:=w) hf hl h;exact ⟨si,dU C (by simp[execOp,ho,W,A]) B D⟩
  cases h
 | indexAddr t x i=>
  simp only[ho] at h;cases W:Pe H (Eng.ev l x) with
  | true=>
   rw[W,bP] at h;obtain ⟨v,s,A,B,D⟩:=Ub (P:=P) C h (ev x) (ev i);exact ⟨si,dU C (by simp[execOp,ho,A]) B D⟩
  | false=>
   rw[W,cM] at h;cases har:DF P t with
   | true=>
    rw[har,bP] at h;obtain ⟨v,s,A,B,D⟩:=Tl (P:=P) C h (ev x) (ev i);exact ⟨si,dU C (by simp[execOp,ho,A]) B D⟩
   | false=>
   rw[har,cM] at h;obtain ⟨v,s,A,B,D⟩:=Po (P:=P) C h (ev x) (ev i);exact ⟨si,dU C (by simp[execOp,ho,A]) B D⟩
 | slice t x lo hi mx=>
  cases mx with
  | some m=>
   simp only[ho] at h;obtain ⟨v,A,B⟩:=Nf (P:=P) C h (ev x) (Fd hT lo) (Fd hT hi) (vmx:=some (a.eval m)) (Fd hT (some m));exact ⟨si,.value v w (by simp[execOp,ho,A]) B⟩
  | none=>
   simp only[ho] at h;obtain ⟨v,A,B⟩:=Pt (P:=P) C h (ev x) (Fd hT lo) (Fd hT hi);exact ⟨si,.value v w (by simp[execOp,ho,A]) B⟩
 | index t x i=>
  simp only[ho] at h;have e1:=ev x;have e2:=ev i;split at h
  ·rename_i n e cs kn j hu A B;rw[A] at e1;rw[B] at e2;obtain ⟨e4,_⟩:=e2.int_inv;split at h
   ·rename_i ag sz ha hs;have J:=h.ok;have hk:=h.go.use J.1;generalize W:a.eval x=v at e1;cases e1 with
    | agg _ vs hl=>
     obtain ⟨v',s,A,B,D⟩:=F5 (P:=P) (w:=w) (kk:=kn) hu ha hs J hl hk;exact ⟨si,dU C (by simp[execOp,ho,W,e4,A]) B D⟩
   cases h
  ·rename_i s kn n hu A B;rw[A] at e1;rw[B] at e2;have e3:=e1.str_inv;obtain ⟨e4,_⟩:=e2.int_inv;have J:=h.ok;have hk:=h.go.use J.1;have a9:n.toNat<s.length:=om;have c6:0<=bJ s n.toNat/\bJ s n.toNat<=255:=by
    unfold bJ;have:=(s.getD n.toNat 0).toNat_lt;omega
   refine ⟨si,dU C (v:=.int .u8 (bJ s n.toNat)) ?_ (hk.go c6) (.val _ c6)⟩;simp only[execOp,ho,e3,e4];have hg:(⟨s.toArray⟩:ByteArray)[n.toNat]? =some (s.getD n.toNat 0):=by
    have:n.toNat<(⟨s.toArray⟩:ByteArray).size:=by simpa [ByteArray.size] using a9
    rw[getElem?_pos (⟨s.toArray⟩:ByteArray) n.toNat this];congr 1
    simp[ByteArray.getElem_eq_getElem_data,aB,a9]
   simp[Instr.index,asIntOf,run_underlying hu,J.1,hg,bJ,go_sem]
  cases h
 | extract x i=>
  simp only[ho] at h;have e1:=ev x;split at h
  ·rename_i vs X;obtain ⟨J,h⟩:=bD h;rw[kF] at h;rw[X] at e1;generalize W:a.eval x=v at e1;cases e1 with
   | tup _ us hl=>
    have a9:i<vs.length:=by simpa using J
    have c7:i<us.length:=by rw[<- hl.length];exact a9
    exact ⟨si,dU C (v:=us.getD i undef) (by simp[execOp,ho,W,Instr.extract,c7]) h (hl.get i a9)⟩
  cases h
 | makeFunc fn p q=>
  cases fn with
  | func f=>
   simp only[ho,lW] at h;have e:p.map a.eval= ⟨p.toList.map a.eval⟩:=by apply fJ;simp
   have e':q.map a.eval= ⟨q.toList.map a.eval⟩:=by apply fJ;simp
   exact ⟨si,dU C (by simp only[execOp,ho,Instr.makeFunc,e,e'];rfl) h (.clo _ _ _ _ _ (Bm hT _) (Bm hT _))⟩
  | _=>simp only[ho] at h
 | makeSlice t n c=>
  simp only[ho] at h;cases W:Ss P t with
  | true=>
   rw[W,bP] at h;obtain ⟨v,w',A,B⟩:=Yo (P:=P) C h (ev n) (ev c);exact ⟨si,.value v w' (by simp[execOp,ho,A]) B⟩
  | false=>
   rw[W,cM] at h;obtain ⟨v,w',A,B⟩:=Tn (P:=P) C h (ev n) (ev c);exact ⟨si,.value v w' (by simp[execOp,ho,A]) B⟩
 | call c=>
  simp only[ho] at h;refine ⟨si,?_⟩;split at h
  ·
   rename_i hc;split at h
   ·rename_i x X;split at h
    ·rename_i t ht;have hr:∀(n:Nat),(∀cs,(builtin .len c.argTypes o.type cs (c.args.map a.eval)).run P w= .ok (.value (.int .i64 n)) w)->(execOp a.eval o).run P w= .ok (.value (.int .i64 n)) w:=by
      intro n hn;simp only[execOp,ho];obtain ⟨cs,Z⟩:=jS (P:=P) (w:=w) (a:=a) (t:=o.type) hc;rw[Z,hn]
     split at h
     ·rename_i e s hu b3;split at h
      ·cases h
      rename_i d5;cases W:Pe H (Eng.ev l x) with
      | true=>
       rw[W,bP] at h;obtain ⟨a',n,m,s',A,B,D⟩:=B2 C h (ev x);refine dU C (hr n fun cs=>?_) B D;rw[wP X,A];simp[builtin,Builtin.len_,ht,run_underlying b3,goInt]
      | false=>
      rw[W,cM] at h;rcases Ij C h (ev x) with ⟨p,n,m,s',A,B,D⟩ | ⟨l',s',h0,A,B,D⟩
      ·refine dU C (hr n fun cs=>?_) B D;rw[wP X,A];simp[builtin,Builtin.len_,ht,run_underlying b3,goInt]
      exact (d5 _ h0).elim
     ·rename_i s hu b3;have e1:=ev x;rw[b3] at e1;rcases Ij C h e1 with ⟨p,n,m,s',A,B,D⟩ | ⟨l',s',_,A,B,D⟩
      ·exfalso;rw[A] at e1;cases e1
      refine dU C (hr l'.length fun cs=>?_) B D;rw[wP X,A];simp[builtin,Builtin.len_,ht,run_underlying hu,goInt,OG]
     ·rename_i kt et s hu;obtain ⟨v,s',A,B,D⟩:=Uf (P:=P) (ty':=o.type) C h (ev x) hu ht;refine dU C (v:=v) ?_ B D;simp only[execOp,ho];obtain ⟨cs,Z⟩:=jS (P:=P) (w:=w) (a:=a) (t:=o.type) hc;rw[Z,wP X];simp[builtin,A]
     cases h
    cases h
   cases h
  ·
   rename_i hc;split at h
   ·rename_i x X;split at h
    ·rename_i t ht;split at h
     ·rename_i e hu b3;have e1:=ev x;rw[b3] at e1;have e2:a.eval x= .slice none 0 0:=by
       generalize a.eval x=y at e1;cases e1;rfl
      refine dU C (v:=.int .i64 0) ?_ h (.val _ (by first | trivial | simp[WV]));simp only[execOp,ho];obtain ⟨cs,Z⟩:=jS (P:=P) (w:=w) (a:=a) (t:=o.type) hc;rw[Z,wP X,e2];simp[builtin,Builtin.cap_,ht,run_underlying hu,goInt]
     cases h
    cases h
   cases h
  ·
   rename_i hc;split at h
   ·rename_i s x t u X ht;cases J:Nat.beq t u with
    | true=>
     rw[J] at h;have hK:=h;have J:=bM.1 J;subst J;obtain ⟨v,w',A,B⟩:∃v w',(Builtin.append_ #[t,t] o.type #[a.eval s,a.eval x]).run P w= .ok v w'/\Res G (envOf G H loc ver w) K v w':=by
      cases W:Pe H (Eng.ev l s) with
      | true=>rw[W,bP] at hK;exact Pu (P:=P) (ty':=o.type) C hK (ev s) (ev x)
      | false=>
       rw[W,cM] at hK;cases hp:So (Eng.ev l s) with
       | true=>rw[hp,bP] at hK;exact Pk (P:=P) (ty0:=o.type) C hK (ev s) (ev x)
       | false=>rw[hp,cM] at hK;exact Mf (P:=P) (ty:=o.type) C (BC hK) (ev s) (ev x)
     refine .value v w' ?_ B;simp only[execOp,ho];obtain ⟨cs,Z⟩:=jS (P:=P) (w:=w) (a:=a) (t:=o.type) hc;rw[Z,Ey X,show c.argTypes= #[t,t] from by apply fJ;simpa using ht];simp[builtin,A]
    | false=>
     rw[J] at h;obtain ⟨v,w',A,B⟩:∃v w',(Builtin.append_ #[t,u] o.type #[a.eval s,a.eval x]).run P w= .ok v w'/\Res G (envOf G H loc ver w) K v w':=by
      cases hq:QL (Eng.ev l x) with
      | true=>rw[hq] at h;exact Pg (P:=P) (ty:=o.type) C h (ev s) (ev x)
      | false=>rw[hq] at h;exact Eu (P:=P) (ty:=o.type) C h (ev s) (ev x)
     refine .value v w' ?_ B;simp only[execOp,ho];obtain ⟨cs,Z⟩:=jS (P:=P) (w:=w) (a:=a) (t:=o.type) hc;rw[Z,Ey X,show c.argTypes= #[t,u] from by apply fJ;simpa using ht];simp[builtin,A]
   cases h
  ·
   rename_i hc;split at h
   ·rename_i s x t u X ht;obtain ⟨v,w',A,B⟩:=Th (P:=P) (u:=u) (ty0:=o.type) C h (ev s) (ev x);refine .value v w' ?_ B;simp only[execOp,ho];obtain ⟨cs,Z⟩:=jS (P:=P) (w:=w) (a:=a) (t:=o.type) hc;rw[Z,Ey X,show c.argTypes= #[t,u] from by apply fJ;simpa using ht];simp[builtin,A]
   cases h
  ·
   rename_i hc;split at h
   ·rename_i x t X ht;obtain ⟨w',A,H',a3,a4,B,D,Y⟩:=Pm (P:=P) (ty0:=o.type) C h (ev x);refine .value (.tuple #[]) w' ?_ ⟨_,_,_,_,B,D,.tup [] [] .nil,Y⟩;simp only[execOp,ho];obtain ⟨cs,Z⟩:=jS (P:=P) (w:=w) (a:=a) (t:=o.type) hc;rw[Z,wP X,show c.argTypes= #[t] from by apply fJ;simpa using ht];simp[builtin,A]
   cases h
  ·
   rename_i hc;split at h
   ·rename_i x y t X ht;obtain ⟨H',w',A,B,D,Y⟩:=Ud (P:=P) (ty':=o.type) C h ht (ev x) (ev y);refine .value (.tuple #[]) w' ?_ ⟨_,_,_,_,B,D,.tup [] [] .nil,Y⟩;simp only[execOp,ho];obtain ⟨cs,Z⟩:=jS (P:=P) (w:=w) (a:=a) (t:=o.type) hc;rw[Z,Ey X];simp[builtin,A]
   cases h
  ·
   rename_i hc;have ea:=Bm hT c.args.toList;split at h
   ·rename_i k p r X;rw[X] at ea;obtain ⟨v,s,A,B,D⟩:=Ts (P:=P) (w:=w) c.argTypes o.type h ea;refine dU C (v:=v) ?_ B D;simp only[execOp,ho];obtain ⟨cs,Z⟩:=jS (P:=P) (w:=w) (a:=a) (t:=o.type) hc;rw[Z];simp only[builtin,Sem.run_bind];rw[show c.args.map a.eval= ⟨c.args.toList.map a.eval⟩ from by apply fJ;simp];rw[A];rfl
   cases h
  ·
   rename_i hc;have ea:=Bm hT c.args.toList;split at h
   ·rename_i k p r X;rw[X] at ea;obtain ⟨v,s,A,B,D⟩:=Tt (P:=P) (w:=w) c.argTypes o.type h ea;refine dU C (v:=v) ?_ B D;simp only[execOp,ho];obtain ⟨cs,Z⟩:=jS (P:=P) (w:=w) (a:=a) (t:=o.type) hc;rw[Z];simp only[builtin,Sem.run_bind];rw[show c.args.map a.eval= ⟨c.args.toList.map a.eval⟩ from by apply fJ;simp];rw[A];rfl
   cases h
  ·
   rename_i f hc;split at h
   ·rename_i l₀ hf;have e1:=ev f;rw[hf] at e1;generalize W:a.eval f=v at e1;cases e1;split at h
    ·rename_i k n d7 hg;rw[lW] at h;have hu:=ent.entL;refine .yield G.itr.l ⟨c.args.toList.map a.eval⟩ ?_ (Xu hY C hg h.ok (jH h.go.ok (Qr C (bB hg si) hT _)) h.go.go.one h.go.go.two);simp only[execOp,ho];rw[Pr hc W];rfl
    cases h
   ·rename_i g first d8 hf;have e1:=ev f;rw[hf] at e1;generalize W:a.eval f=v at e1;cases e1 with
    | clo _ _ _ va vb ha J=>
     have b9:=(ha.append (Bm hT c.args.toList)).append J;obtain ⟨c5,c0⟩:=Tq hY hΓ hF C h b9;refine .call g ⟨va++c.args.toList.map a.eval++vb⟩ ?_ c0;simp only[execOp,ho];rw[Ik hc W];exact c5 _ _
   cases h
  cases h
 | makeMap t r=>
  cases r with
  | some _=>simp only[ho] at h
  | none=>
   simp only[ho] at h;obtain ⟨v,w',A,B⟩:=Pv (P:=P) C h;exact ⟨si,.value v w' (by simp[execOp,ho,A]) B⟩
 | lookup t m x ok=>
  simp only[ho] at h;obtain ⟨v,s,A,B,D⟩:=Ug (P:=P) C h (ev m) (ev x);exact ⟨si,dU C (by simp[execOp,ho,A]) B D⟩
 | mapUpdate t m x y=>
  simp only[ho] at h;obtain ⟨H',w',A,B,D,Y⟩:=Jp (P:=P) C h (ev m) (ev x) (ev y);exact ⟨si,.skip w' (by simp[execOp,ho,A]) ⟨_,_,_,_,B,D,.any _,Y⟩⟩
 | mapEntry t m x=>
  simp only[ho] at h;obtain ⟨v,w',A,B⟩:=Ng (P:=P) C h (ev m) (ev x);exact ⟨si,.value v w' (by simp[execOp,ho,A]) B⟩
 | entryStore t m s y=>
  simp only[ho] at h;obtain ⟨H',w',A,B,D,Y⟩:=Gq (P:=P) (t:=t) C h (ev m) (ev s) (ev y);exact ⟨si,.skip w' (by simp[execOp,ho,A]) ⟨_,_,_,_,B,D,.any _,Y⟩⟩
 | range t x=>
  simp only[ho] at h;obtain ⟨v,w',A,B⟩:=Ue (P:=P) C h (ev x);exact ⟨si,.value v w' (by simp[execOp,ho,A]) B⟩
 | next x b=>
  cases b with
  | true=>simp only[ho] at h
  | false=>
   simp only[ho] at h;obtain ⟨v,w',A,B⟩:=B4 (P:=P) (ty':=o.type) C h (ev x);exact ⟨si,.value v w' (by simp[execOp,ho,A]) B⟩
 | entry x=>
  simp only[ho] at h;obtain ⟨v,s,A,B,D⟩:=Yq (P:=P) C h (ev x);exact ⟨si,dU C (by simp[execOp,ho,A]) B D⟩
 | _=>simp only[ho] at h
end
end Go.Eng
end

/-
  Part 2: a symbolic executor over the model, contracts of functions and plain laws.
-/
import Derived.Test.YtenkehnacommfaaGreatDoorP1
import Derived.Lib.AppendZeros
import Derived.Lib.AppendStr
import Derived.Laws.Cover3
import Derived.Laws.Strings
import Derived.Laws.IdiomCopy
import Derived.Laws.AppendOwn
import Derived.Maps.RangeRun
import Derived.MapKept
import Derived.DeepKeys3
import Derived.Laws.IdiomStrings
set_option linter.unusedVariables false
set_option linter.unusedSimpArgs false
set_option maxRecDepth 10000
set_option maxHeartbeats 80000000
noncomputable section
section
namespace Go.Eng
open Go.RowKit
theorem Reads.flatJ {w:World} {ok ok':Nat->Prop} {t:Ty} {x:t.T} {cs:List Value} (ht:t.flat=true) (h:Reads w ok t x cs):Reads w ok' t x cs:=by
 induction t generalizing cs with
 | int k=>exact h
 | bool=>exact h
 | str=>exact h
 | pair a b iha ihb=>
  simp only[Ty.flat,aE] at ht;obtain ⟨c1,c2,e,h1,h2⟩:=h;exact ⟨c1,c2,e,iha ht.1 h1,ihb ht.2 h2⟩
 | slice t _=>cases ht
theorem Kd {w:World} {ok:Nat->Prop} {t:Ty} {xs:List t.T} {b off:Nat}:∀(n:Nat),(∀i,i<n->∃es,es.length=t.size/\w.rangeAt b (off+i*t.size) es/\Reads w ok t (xs.getD i t.dflt) es)->
  ∃news:List Value,news.length=n*t.size/\w.rangeAt b off news/\∀i,i<n->Reads w ok t (xs.getD i t.dflt) ((news.drop (i*t.size)).take t.size)
 | 0,_=>⟨[],si,fun j v hj=>by simp at hj,fun i hi=>absurd hi (bV _)⟩
 | n+1,h=>by
  obtain ⟨news,h1,h2,h3⟩:=Kd n fun i hi=>h i om;obtain ⟨es,h4,h5,h6⟩:=h n om;refine ⟨news++es,by simp[h1,h4,cL],?_,?_⟩
  ·intro j v hj;rcases Nat.lt_or_ge j news.length with hlt | hge
   ·rw[bU hlt] at hj;exact h2 j v hj
   rw[cS hge] at hj;have:=h5 _ v hj;have e:off+n*t.size+(j-news.length)=off+j:=om;rwa [e] at this
  intro i hi;by_cases e:i=n
  ·subst e;have:(news++es).drop (i*t.size)=es:=by
    rw[<- h1,List.drop_left]
   rw[this,mD om];exact h6
  have hlt:i<n:=om;have hm:i*t.size+t.size<=n*t.size:=by
   have:(i+1)*t.size<=n*t.size:=bQ _ hlt;rwa [cL,iC] at this
  have:((news++es).drop (i*t.size)).take t.size=(news.drop (i*t.size)).take t.size:=by
   rw[dY om,sM (by simp;omega)]
  rw[this];exact h3 i hlt
section
variable {P:Program} {G:Ctx} {H:List HO} {loc:Nat->Loc} {ver:Nat->Nat} {w:World}
structure Src (w:World) (ok:Nat->Prop) (t:Ty) (ys:List t.T) (x:Value) (a:Option Addr) (c:Nat) (news:List Value):Prop where
 val:x= .slice a ys.length c
 none:a=none->ys.length=0
 len:news.length=ys.length*t.size
 cell:∀ad,a=some ad->∀j u,news[j]? =some u->w.cell? (ad.add j)=some u
 rd:∀i,i<ys.length->Reads w ok t (ys.getD i t.dflt) ((news.drop (i*t.size)).take t.size)
theorem xF {ok:Nat->Prop} {t:Ty} {ys:List t.T} {x:Value} (h:Reads w ok (.slice t) ys [x]):∃a c news,Src w ok t ys x a c news:=by
 obtain ⟨a,n,c,e,hn,hc,hm,hall⟩:=h;cases e;have hn':n=ys.length:=hn;subst hn';by_cases h0:0<ys.length
 ·obtain ⟨b,off,rfl,hok,hel⟩:=hall h0;obtain ⟨news,h1,h2,h3⟩:=Kd (xs:=ys) ys.length hel;exact ⟨_,c,news,rfl,(fun e=>by cases e),h1,(fun ad e j u hj=>by cases e;rw[Addr.add_mid];exact h2 j u hj),h3⟩
 have:ys.length=0:=om;exact ⟨a,c,[],rfl,fun _=>this,by simp[this],(fun ad e j u hj=>by simp at hj),fun i hi=>om⟩
theorem Ke (hI:Inv G H loc ver w) {t:Ty} {s:SV} {x:Value} {ys:List t.T} (h:Jm H t s=some ys) (hs:Rel (envOf G H loc ver w) s x):∃a c news,Src w (okN G H loc w) t ys x a c news:=by
 have hseq:∀ {s':SV} {t':Ty} {ys':List t'.T},s'= .seq t' ys'->(∀t'' (zs:List t''.T),s'= .seq t'' zs->∃a c news,Src w (okN G H loc w) t'' zs x a c news)->(match s' with
   | .seq t' ys=>if h:t'=t then some (h ▸ ys:List t.T) else none
   | .val (.slice none 0 0)=>some []
   | _=>none)=some ys->∃a c news,Src w (okN G H loc w) t ys x a c news:=by
  intro s' t' ys' e hsrc h;subst e;simp only at h;split at h
  ·rename_i e;subst e;cases h;exact hsrc _ _ rfl
  cases h
 unfold Jm at h;cases hs with
 | seq t' xs _ hr=>exact hseq (s':=.seq t' xs) rfl (fun t'' zs e=>by cases e;exact xF hr) h
 | val v hw=>
  simp only[view] at h;split at h
  ·rename_i heq;cases heq
  ·rename_i heq;cases heq;cases h;exact ⟨none,0,[],rfl,fun _=>rfl,si,(fun ad e=>by cases e),fun i hi=>by simp at hi⟩
  cases h
 | ref nm k _ hn h0 hk hv=>
  simp only[view] at h;cases ho:hget H nm with
  | vec j ty xs e=>
   rw[ho] at h;simp only[mX] at h;cases hb:Nat.beq j k with
   | false=>rw[hb] at h;simp at h
   | true=>
    rw[hb] at h;obtain rfl:=bK.1 hb;have hO:=hI.objs nm _ (aX ho si);have hvj:ver nm=j:=hO.1;have:=hv hvj.symm;subst this;refine hseq (s':=.seq ty xs) rfl (fun t'' zs e=>?_) h;cases e;obtain ⟨_,_,hlen,hmax,vs,hown,hel⟩:=hO;have hlen':(loc nm).len=xs.length:=hlen;rcases dJ hown with ⟨e1,e2,e3,e4⟩ | ⟨g,cur,e1,e2,e3,e4,e5,e6,e7⟩
    ·have h00:List.length (α:=ty.T) xs=0:=om;refine ⟨none,0,[],?_,fun _=>h00,by simp[h00],(fun ad e=>by cases e),fun i hi=>om⟩;show (loc nm).head= _;simp only[Core.head,e1,e2,e3,Option.map_none];rw[<- hlen',e3]
    refine ⟨some ⟨g,0,none⟩,(loc nm).cap,vs,?_,(fun e=>by cases e),?_,?_,?_⟩
    ·show (loc nm).head= _;simp only[Core.head,e1,jC,hlen']
    ·rw[<- hlen'];exact hown.1
    ·intro ad e j u hj;cases e;rw[Addr.add_mid];rw[<- e7,aU] at hj;split at hj
     ·have e3':w.heap[g]? =some (.cells cur _ (0,0)):=e3;simp only[World.cell?,e3'];simpa using hj
     cases hj
    intro i hi;exact hel i (by show i<(loc nm).len;omega)
  | fro j ty xs=>
   rw[ho] at h;simp only at h;cases hb:Nat.beq j k with
   | false=>rw[hb] at h;simp at h
   | true=>
    rw[hb] at h;obtain rfl:=bK.1 hb;have hO:=hI.objs nm _ (aX ho si);have hvj:ver nm=j:=hO.1;have:=hv hvj.symm;subst this;exact hseq (s':=.seq ty xs) rfl (fun t'' zs e=>by cases e;exact xF hO.2.2) h
  | dead=>rw[ho] at h;simp at h
  | cells l e=>rw[ho] at h;simp at h
  | frc l=>rw[ho] at h;simp at h
  | gone=>rw[ho] at h;simp at h
  | qm a b=>rw[ho] at h;simp at h
  | frm a b=>rw[ho] at h;simp at h
  | lnt a b c=>rw[ho] at h;simp at h
  | yst a b c=>rw[ho] at h;simp at h
  | map a b c=>rw[ho] at h;simp at h
  | mit a b c d=>rw[ho] at h;simp at h
  | res=>rw[ho] at h;simp at h
  | vv=>rw[ho] at h;simp at h
 | ptr nm off _ hn hh=>
  simp only[view] at h;cases ho:hget H nm with
  | frc l=>rw[ho] at h;rcases aB8 l off with ⟨n,e,_,_⟩ | e<;>simp only[e] at h<;>cases h
  | _=>rw[ho] at h;simp at h
 | mp nm _ hn hh=>
  simp only[view] at h;cases ho:hget H nm with
  | _=>rw[ho] at h;simp at h
 | subp nm k i _ hn h0 hk hs' hv=>
  simp only[view] at h;cases ho:hget H nm with
  | lnt j ty xs=>
   rw[ho] at h;simp only[mX] at h;cases hc:(ty.flat&&(Nat.beq j k&&Nat.beq i 0)) with
   | false=>rw[hc] at h;simp at h
   | true=>
    rw[hc] at h;simp only[aE] at hc;obtain ⟨hfl,h1,h2⟩:=hc;have e1:j=k:=by simpa using h1
    have e2:i=0:=by simpa using h2
    subst e1;subst e2;obtain ⟨q1,q2,q3,q4,q5⟩:=hI.objs nm _ (aX ho si);have:=hv q1.symm q3.symm;subst this;refine hseq (s':=.seq ty xs) rfl (fun t'' zs e=>?_) h;cases e;obtain ⟨a,c,news,hsrc⟩:=xF q5;exact ⟨a,c,news,hsrc.val,hsrc.none,hsrc.len,hsrc.cell,fun i hi=>Reads.flatJ hfl (hsrc.rd i hi)⟩
  | _=>rw[ho] at h;simp at h
 | _=>simp[view] at h
theorem uI {t ty e:TypeId} {i:TypeInfo} {z:Value} {tt:Ty} (ht:P.underlying t=some (.slice e)) (hi:P.info? e=some i) (hz:i.zero=some z) (hs:i.size=tt.size) (hzs:z.cells.size=tt.size)
  {L:Loc} {n:Nat} {xs:List Value} (hown:w.ownsR 0 e tt.size L.head n xs) {ok:Nat->Prop} {ys:List tt.T} {x:Value} {a:Option Addr} {c:Nat} {news:List Value} (hsrc:Src w ok tt ys x a c news)
  (hb:(n+ys.length)*i.bytes<=140737488355328) (hm:n+ys.length<=maxL):
  ∃(L':Loc) (w':World),(Builtin.append_ #[t,t] ty #[L.head,x]).run P w= .ok L'.head w'/\w'.ownsR 0 e tt.size L'.head (n+ys.length) (xs++news)/\w.grownBy w' (L.blk.map (·.1))/\(∀b,L'.blk.map (·.1)=some b->L.blk.map (·.1)=some b\/w.heap.size<=b):=by
 have hsz:=tt.size_pos;have hm':n+ys.length<=140737488355328:=hm;have h1:∀u∈news,u.oneCell'=true:=by
  intro u hu;obtain ⟨j,hj,rfl⟩:=dD hu;have hj':j<ys.length*tt.size:=by rw[<- hsrc.len];exact hj
  have hdiv:j/tt.size<ys.length:=Nat.div_lt_of_lt_mul (by rw[fL];exact hj');refine (hsrc.rd (j/tt.size) hdiv).one _ ?_;have hmod:=dO j hsz;have hdm:=Nat.div_add_mod j tt.size;have:((news.drop (j/tt.size*tt.size)).take tt.size)[j%tt.size]? =some news[j]:=by
   rw[aU,aD hmod,bD,fL,hdm,aM hj]
  exact kU this
 have same:ys.length=0->∃(L':Loc) (w':World),(Builtin.append_ #[t,t] ty #[L.head,x]).run P w= .ok L'.head w'/\w'.ownsR 0 e tt.size L'.head (n+ys.length) (xs++news)/\w.grownBy w' (L.blk.map (·.1))/\(∀b,L'.blk.map (·.1)=some b->L.blk.map (·.1)=some b\/w.heap.size<=b):=by
  intro h0;have hn:news= []:=cF (by rw[hsrc.len,h0,yG]);refine ⟨L,w,?_,by rw[hn,h0];simpa using hown,⟨rfl,rfl,rfl,aN _,fun _ _ _=>rfl⟩,fun b hb=>.inl hb⟩;rw[hsrc.val,h0];have hle:L.len<=L.cap:=by
   rcases dJ hown with ⟨_,e2,e3,_⟩ | ⟨g,cur,_,e2,_,e4,_⟩<;>omega
  cases hbk:L.blk with
  | none=>cases a<;>simp[Core.head,hbk,Builtin.append_,run_underlying ht,sizeOf,typeInfo,hi,Builtin.lenOf,Builtin.firstCells,loadCells,loadCellsFrom,hle,storeCells]
  | some p=>cases a<;>simp[Core.head,hbk,Builtin.append_,run_underlying ht,sizeOf,typeInfo,hi,Builtin.lenOf,Builtin.firstCells,loadCells,loadCellsFrom,hle,storeCells]
 by_cases h0:ys.length=0
 ·exact same h0
 obtain ⟨ad,rfl⟩:∃ad,a=some ad:=by
  cases a with
  | none=>exact absurd (hsrc.none rfl) h0
  | some ad=>exact ⟨ad,rfl⟩
 have hnl:news.length=ys.length*i.size:=by rw[hs];exact hsrc.len
 have hnews:=hsrc.cell ad rfl;rw[hsrc.val];have hlen:(xs++news).length=(n+ys.length)*i.size:=by rw[aS,hown.1,hnl,hs,cL]
 have grown:∀(old:Nat),old<n+ys.length->∀(row:Option Nat),
   (w.drew.alloc (.cells (xs.toArray++news.toArray++Builtin.zeroCells z.cells (grownCap w (n+ys.length) old e-(n+ys.length))) e)).ownsR 0 e tt.size (Core.head (mkL (some (w.heap.size,0)) (n+ys.length) (grownCap w (n+ys.length) old e)).toCore) (n+ys.length) (xs++news)/\
   w.grownBy (w.drew.alloc (.cells (xs.toArray++news.toArray++Builtin.zeroCells z.cells (grownCap w (n+ys.length) old e-(n+ys.length))) e)) row:=by
  intro old ho row;have hge:=grownCap_ge w (n+ys.length) old e;have hcm:grownCap w (n+ys.length) old e<=maxLen:=grownCap_le_maxLen w (n+ys.length) old e (by simp[maxLen];omega);refine ⟨⟨by rw[<- hs];exact hlen,.inr ⟨w.heap.size,_,_,rfl,aK _,kG w.drew _,hge,hcm,?_,?_⟩⟩,⟨rfl,rfl,rfl,si,fun k hk _=>Below.heap_alloc w.drew _ k hk⟩⟩
  ·have:xs.length+news.length=(n+ys.length)*tt.size:=by rw[<- aS,hlen,hs]
   simp only[vJ,gZ,size_zeroCells,hzs,this,<- cL];exact bQ _ om
  simp only[Array.toList_append];rw[<- hs,<- hlen];exact sX rfl
 rcases dJ hown with ⟨e1,e2,e3,e4⟩ | ⟨g,cur,e1,e2,e3,e4,e5,e6,e7⟩
 ·have hx:xs= []:=cF (by rw[hown.1,e4,yG]);subst hx e4;simp only[eJ] at hb hm' grown ⊢;have hr:=run_append_nil (P:=P) w t ty e i z ht hi hz ad ys.length c news hnl hnews om om om;have hgr:=grown 0 om (L.blk.map (·.1));refine ⟨(mkL (some (w.heap.size,0)) (ys.length) (_)),_,?_,hgr.1,hgr.2,fun b hb=>.inr (by simp at hb;omega)⟩;simpa [Core.head,e1,e2,e3] using hr
 have hhead:L.head= .slice (some ⟨g,0,none⟩) n L.cap:=by simp[Core.head,e1,e2]
 by_cases hroom:n+ys.length<=L.cap
 ·have hfit:n*i.size+news.length<=cur.size:=by rw[hnl,hs,<- cL];exact bL (bQ _ hroom) e6
  have hr:=run_append_room (P:=P) w t ty e i ht hi g n L.cap cur e3 ad ys.length c news hnl hnews h1 hroom hfit;refine ⟨mkL (some (g,0)) (n+ys.length) L.cap,_,by rw[hhead];exact hr,⟨by rw[<- hs];exact hlen,.inr ⟨g,L.cap,_,rfl,aK _,setRow_heap w g cur _ e _ e3,hroom,e5,?_,?_⟩⟩,⟨rfl,rfl,rfl,si,fun k _ hk=>setRow_other w g k _ (fun e=>hk (by simp[e1,e]))⟩,fun b hb=>.inl (by simpa [e1] using hb)⟩
  ·simp only[gZ,aS,aY,bB,jE];omega
  rw[hs] at*;rw[e7];rw[<- hlen];exact sX rfl
 have holds:∀j u,xs[j]? =some u->w.cell? ((⟨g,0,none⟩:Addr).add j)=some u:=by
  intro j u hj;rw[Addr.add_mid];rw[<- e7,aU] at hj;split at hj
  ·simp only[World.cell?,e3];simpa using hj
  cases hj
 have hr:=run_append_grow (P:=P) w t ty e i z ht hi hz ⟨g,0,none⟩ n L.cap xs (by rw[hs];exact hown.1) holds ad ys.length c news hnl hnews om om (growslice_fits om hb);have hgr:=grown L.cap om (L.blk.map (·.1));exact ⟨(mkL (some (w.heap.size,0)) (n+ys.length) (_)),_,by rw[hhead];exact hr,hgr.1,hgr.2,fun b hb=>.inr (by simp at hb;omega)⟩
end
end Go.Eng
end
section
namespace Go.Eng
open Go.RowKit
section
variable {P:Program} {G:Ctx} {H:List HO} {loc:Nat->Loc} {ver:Nat->Nat} {w:World}
theorem wG (hI:Inv G H loc ver w) {nm k:Nat} {v:Value} {t:Ty} {xs:List t.T} {e:TypeId} (hr:Rel (envOf G H loc ver w) (.ref nm k) v) (ho:hget H nm= .vec k t xs e):v=(loc nm).head/\nm<H.length:=by
 cases hr with
 | ref _ _ _ hn h0 hk hv=>
  have hO:=hI.objs nm _ (aX ho si);exact ⟨hv hO.1.symm,kM hn⟩
theorem xG {w':World} {ok ok':Nat->Prop} {t:Ty} {xs ys:List t.T} {vs news:List Value} (hx:vs.length=xs.length*t.size) (h1:∀i,i<xs.length->Reads w' ok t (xs.getD i t.dflt) ((vs.drop (i*t.size)).take t.size))
  (hn:news.length=ys.length*t.size) (h2:∀i,i<ys.length->Reads w' ok t (ys.getD i t.dflt) ((news.drop (i*t.size)).take t.size)):
  ∀i,i<xs.length+ys.length->Reads w' ok t ((xs++ys).getD i t.dflt) (((vs++news).drop (i*t.size)).take t.size):=by
 intro i hi;by_cases hlt:i<xs.length
 ·have hm:i*t.size+t.size<=xs.length*t.size:=by
   have:(i+1)*t.size<=xs.length*t.size:=bQ _ hlt;rwa [cL,iC] at this
  have e1:((vs++news).drop (i*t.size)).take t.size=(vs.drop (i*t.size)).take t.size:=by
   rw[dY om,sM (by simp;omega)]
  have e2:(xs++ys).getD i t.dflt=xs.getD i t.dflt:=by
   rw[aB,bU hlt,<- aB]
  rw[e1,e2];exact h1 i hlt
 obtain ⟨k,rfl⟩:∃k,i=xs.length+k:=⟨i-xs.length,om⟩;have e1:(xs.length+k)*t.size=xs.length*t.size+k*t.size:=cL ..;have e2:(xs++ys).getD (xs.length+k) t.dflt=ys.getD k t.dflt:=by
  rw[aB,cS om,aB];congr 2;omega
 rw[e1,Ka _ _ _ _ hx,e2];exact h2 k om
theorem Kf (hI:Inv G H loc ver w) {t ty:TypeId} {s x:SV} {p q:Value} {K:SV->List HO->Prop} (h:De P t H s x K) (hs:Rel (envOf G H loc ver w) s p) (hx:Rel (envOf G H loc ver w) x q):
  ∃v w',(Builtin.append_ #[t,t] ty #[p,q]).run P w= .ok v w'/\Res G (envOf G H loc ver w) K v w':=by
 unfold De at h;split at h;case h_2=>cases h
 rename_i e he;have hu:=iL he;split at h;case h_2=>cases h
 rename_i tt i htt hi;have h':=bA h;clear h;obtain ⟨hb,h⟩:=h';simp only[aE,bK] at hb;obtain ⟨⟨hb1,hb2⟩,hb3⟩:=hb;have hb2':0<i.bytes:=by simpa using hb2
 obtain ⟨z,hz,hzs⟩:∃z,i.zero=some z/\z.cells.size=tt.size:=by
  cases hz:i.zero with
  | none=>rw[hz] at hb3;cases hb3
  | some z=>rw[hz] at hb3;exact ⟨z,rfl,bK.1 hb3⟩
 have hfit:∀n:Nat,n*i.bytes<=140737488355328->n<=maxL:=fun n hn=>bL (qJ n hb2') hn;split at h;case h_2=>cases h
 rename_i ys hys;obtain ⟨a,c,news,hsrc⟩:=Ke hI hys hx;split at h
 ·cases hs;obtain ⟨hn,hk⟩:=h;rw[bY] at hk;obtain ⟨L',w',hr,hown,hg,hfr⟩:=uI (P:=P) (w:=w) (t:=t) (ty:=ty) (tt:=tt) (L:=mkL none 0 0) (n:=0) (xs:=[]) hu hi hz hb1 hzs ⟨si,.inl ⟨rfl,rfl⟩⟩ hsrc (by simpa using hn) (by have:=hfit _ hn;omega);simp only[eJ,kJ] at hown;obtain ⟨h1,h2,h3,h4,h5⟩:=hg;have hL:L'.len=ys.length:=by
   rcases dJ hown with ⟨_,_,e3,e4⟩ | ⟨g,cur,_,e2,_⟩<;>omega
  have hf:=hI.fresh (w':=w') (.vec 1 tt ys e) L' 1 h4 h1 h2 h3 (fun b hb=>h5 b hb si) (by
    intro b hb;rcases hfr b hb with h | h
    ·simp at h
    exact h)
   (fun hx'=>⟨rfl,Nat.one_pos,hL,by rw[hL];exact hfit _ hn,news,by rw[hL];exact hown,fun i hi=>(hsrc.rd i om).mono hx'.cell hx'.ok⟩)
  refine ⟨_,_,hr,_,_,_,_,hk,hf.1,?_,hf.2⟩;refine .ref _ _ _ (by exact lD rfl) Nat.one_pos (by simp[envOf,aW]) fun _=>?_;simp[envOf,aW]
 ·rename_i nm k;split at h;case h_2=>cases h
  rename_i v ty' xs e' ho;have h':=bA h;clear h;obtain ⟨hb,h⟩:=h';simp only[aE,bK] at hb;obtain ⟨e1,e2⟩:=hb;subst e1 e2;split at h;case isFalse=>cases h
  rename_i ety;subst ety;obtain ⟨hn,hk⟩:=h;rw[bY] at hk;obtain ⟨hp,hlt⟩:=wG hI hs ho;subst hp;have hn':=aX ho si;obtain ⟨hv,hv0,hlen,hmax,vs,hown,hel⟩:=hI.objs nm _ hn';have hlen':(loc nm).len=xs.length:=hlen;have hown':w.ownsR 0 e ty'.size (loc nm).head xs.length vs:=by rw[<- hlen'];exact hown
  obtain ⟨L',w',hr,hown2,hg,hfr⟩:=uI (P:=P) (w:=w) (t:=t) (ty:=ty) hu hi hz hb1 hzs hown' hsrc hn (hfit _ hn);obtain ⟨h1,h2,h3,h4,h5⟩:=hg;have hL:L'.len=xs.length+ys.length:=by
   rcases dJ hown2 with ⟨_,_,e3,e4⟩ | ⟨g,cur,_,e2,_⟩<;>omega
  have hvj:ver nm=v:=hv;have ht:=hI.turn (w':=w') (H':=hset H nm (.vec (v+1) ty' (List.append xs ys) e)) (loc':=upd loc nm L') (ver':=upd ver nm (v+1)) nm (by simp[hset]) (fun k hk=>⟨bZ hk,cW _ _ _ hk,cW _ _ _ hk⟩)
   (fun _=>eM (aQ hlt) rfl) (fun _=>.inr ⟨om,by rw[aW];omega⟩) h4 h1 h2 h3 (by rw[hn'];intro h;cases h) (fun _=>by first | rw[show hset H nm _=H.set nm _ from rfl,aQ hlt];intro h;cases h | rw[show hset H 0 _=H.set 0 _ from rfl,aQ hlt];intro h;cases h) (fun st n it b h=>by rw[show hset H nm (.vec (v+1) ty' (List.append xs ys) e)=H.set nm _ from rfl,aQ hlt] at h;cases h) (fun b hb hne=>h5 b hb (by
    intro e
    exact hne _ hn' (by simp only[Owns];exact e.symm)))
   (by
    intro o' b ho' hb;rw[show hset H nm (.vec (v+1) ty' (List.append xs ys) e)=H.set nm _ from rfl,aQ hlt] at ho';cases ho';rw[aW] at hb;rcases hfr b hb with h | h
    ·exact .inl ⟨_,hn',h⟩
    exact .inr h)
   (by
    intro hx' o' ho';rw[show hset H nm (.vec (v+1) ty' (List.append xs ys) e)=H.set nm _ from rfl,aQ hlt] at ho';cases ho';rw[aW,aW];refine ⟨rfl,mC _,by rw[hL];simp,by rw[hL];exact hfit _ hn,vs++news,by rw[hL];exact hown2,fun i hi=>?_⟩;rw[hL] at hi;refine xG (ok':=fun _=>True) ?_ (fun i hi=>(hel i (by show i<(loc nm).len;omega)).mono hx'.cell hx'.ok) hsrc.len (fun i hi=>(hsrc.rd i hi).mono hx'.cell hx'.ok) i hi
    exact hown'.1)
  refine ⟨_,_,hr,_,_,_,_,hk,ht.1,?_,ht.2⟩;refine .ref _ _ _ (by exact eM (aQ hlt) rfl) (mC _) (by simp[envOf,aW]) fun _=>?_;simp[envOf,aW]
 cases h
theorem Dn (hI:Inv G H loc ver w) {t u ty:TypeId} {s x:SV} {p q:Value} {K:SV->List HO->Prop} (h:yT P t u H s x K) (hs:Rel (envOf G H loc ver w) s p) (hx:Rel (envOf G H loc ver w) x q):
  ∃v w',(Builtin.append_ #[t,u] ty #[p,q]).run P w= .ok v w'/\Res G (envOf G H loc ver w) K v w':=by
 unfold yT at h;split at h;case h_2=>cases h
 rename_i ku kn n hku;split at h;case h_2=>cases h
 rename_i e he;have hu:=iL he;split at h;case h_2=>cases h
 rename_i tt i htt hi;have h':=bA h;clear h;obtain ⟨hb,h⟩:=h';simp only[aE,bK] at hb;obtain ⟨⟨⟨hb1,hb2⟩,hb4⟩,hb3⟩:=hb;have hb2':0<i.bytes:=by simpa using hb2
 have hb4':=fF hb4;obtain ⟨z,hz,hzs⟩:∃z,i.zero=some z/\z.cells.size=tt.size:=by
  cases hz:i.zero with
  | none=>rw[hz] at hb3;cases hb3
  | some z=>rw[hz] at hb3;exact ⟨z,rfl,bK.1 hb3⟩
 obtain ⟨hn,hk⟩:=h;rw[bY] at hk;cases hs;cases hx;obtain ⟨m,rfl⟩:∃m:Nat,n=m:=⟨n.toNat,om⟩;have hm1:0<m:=om;have hm2:m<=137438953472:=om;have hsz:=tt.size_pos;have hm3:m*i.bytes<=137438953472*1024:=jY hm2 hb4';have hrun:=Lib.run_append_nil_zeros (P:=P) w t u ty e i z kn ku hu hku hi hz m hm1 om om om;have hge:=grownCap_ge w m 0 e;have hcm:grownCap w m 0 e<=maxLen:=grownCap_le_maxLen w m 0 e (by simp[maxLen];omega);have hf:=hI.fresh (w':=w.drew.alloc (.cells (Builtin.zeroCells z.cells m++Builtin.zeroCells z.cells (grownCap w m 0 e-m)) e)) (.vec 1 tt [] e) (mkL (some (w.heap.size,0)) 0 (grownCap w m 0 e)) 1
  si rfl rfl rfl (fun b hb=>Below.heap_alloc w.drew _ b hb) (by
   intro b hb;simp[Owns] at hb
   omega)
  (fun _=>⟨rfl,Nat.one_pos,rfl,aK _,[],⟨si,.inr ⟨w.heap.size,_,_,rfl,aK _,kG w.drew _,aK _,hcm,by
   simp only[vJ,size_zeroCells,hzs,<- cL]
   exact bQ _ om,si⟩⟩,fun i hi=>absurd hi (bV _)⟩)
 refine ⟨_,_,hrun,_,_,_,_,hk,hf.1,?_,hf.2⟩;refine .wide _ _ _ (by exact lD rfl) Nat.one_pos (by simp[envOf,aW]) fun _=>⟨m,?_,?_⟩
 ·simpa [envOf,aW] using hge
 simp[envOf,aW]
theorem Hg {e:TypeId} {z:List SV} {i:TypeInfo} (hz:sV P e=some z) (hi:P.info? e=some i):∃zv:Value,i.zero=some zv/\z=zv.cells.toList.map cst:=by
 unfold sV at hz;rw[hi] at hz;simp only at hz;cases h:i.zero with
 | none=>rw[h] at hz;cases hz
 | some v=>rw[h] at hz;exact ⟨v,rfl,by simpa using hz.symm⟩
theorem vR (z:Array Value) (n:Nat) (h:0<z.size) (j:Nat) (hj:j<n):(madeCells z n).toList[j]? =some (z.toList.getD (j%z.size) undef):=by
 have h2:j%z.size<z.size:=dO _ h;simp[madeCells,hj,h2]
theorem Rf (hI:Inv G H loc ver w) {t:TypeId} {n c:SV} {p q:Value} {K:SV->List HO->Prop} (h:Yk P t H n c K) (hn:Rel (envOf G H loc ver w) n p) (hc:Rel (envOf G H loc ver w) c q):
  ∃v w',(Instr.makeSlice t p q).run P w= .ok v w'/\Res G (envOf G H loc ver w) K v w':=by
 unfold Yk at h;split at h;case h_2=>cases h
 rename_i e kn nn kc nc he;have hu:=iL he;obtain ⟨rfl,_⟩:=hn.int_inv;obtain ⟨rfl,_⟩:=hc.int_inv;split at h;case h_2=>cases h
 rename_i tt i z htt hi hz;have h':=bA h;clear h;obtain ⟨hb,h⟩:=h';simp only[aE,bK] at hb;obtain ⟨⟨hb1,hb2⟩,hb3⟩:=hb;split at h;case h_2=>cases h
 rename_i x0 hd;obtain ⟨⟨n1,n2,n3,n4⟩,hk⟩:=h;rw[bY] at hk;obtain ⟨zv,hzv,rfl⟩:=Hg hz hi;have hzl:zv.cells.size=tt.size:=by simpa using hb3
 have hpos:=tt.size_pos;have hr:=run_make (P:=P) w t e i zv hu hi hzv kn kc nn nc n1 n2 (by rw[bJ];omega) om;have hf:=hI.fresh (w':=w.alloc (.cells (madeCells zv.cells (nc.toNat*i.size)) e)) (.vec 1 tt (List.replicate nn.toNat x0) e) (mkL (some (w.heap.size,0)) (nn.toNat) (nc.toNat)) 1 si rfl rfl rfl (fun b hb=>Below.heap_alloc w _ b hb) (by intro b hb;simp[Owns] at hb;omega)
  (fun hx=>by
   have hm:nn.toNat*tt.size<=nc.toNat*i.size:=by rw[hb1];exact bQ _ om
   refine ⟨rfl,Nat.one_pos,si,by show nn.toNat<=140737488355328;omega,(madeCells zv.cells (nc.toNat*i.size)).toList.take (nn.toNat*tt.size),⟨by show (List.take _ _).length=nn.toNat*tt.size;rw[aY,jE,size_madeCells];exact eY hm,.inr ⟨w.heap.size,nc.toNat,madeCells zv.cells (nc.toNat*i.size),rfl,aK _,kG w _,by show nn.toNat<=nc.toNat;omega,by simp[maxLen];omega,by rw[size_madeCells,hb1];exact aN _,rfl⟩⟩,fun j hj=>?_⟩;have hj':j<nn.toNat:=hj;have hjm:j*tt.size+tt.size<=nn.toNat*tt.size:=by
    have:(j+1)*tt.size<=nn.toNat*tt.size:=bQ _ hj';rwa [cL,iC] at this
   have e1:(List.replicate nn.toNat x0).getD j tt.dflt=x0:=by
    rw[aB];have:(List.replicate nn.toNat x0)[j]? =some x0:=by simp[hj']
    rw[this];rfl
   have e2:((((madeCells zv.cells (nc.toNat*i.size)).toList.take (nn.toNat*tt.size)).drop (j*tt.size)).take tt.size)=zv.cells.toList:=by
    apply fY;intro q;rw[aU];by_cases hq:q<tt.size
    ·rw[aD hq,bD,aU,aD om,vR _ _ om _ om];have:(j*tt.size+q)%zv.cells.size=q:=by rw[hzl,fL,Nat.mul_add_mod];exact eB hq
     rw[this];have hq2:q<zv.cells.toList.length:=by simp;omega
     simp[hzl,hq]
    rw[aC hq,cG (by simp;omega)]
   rw[e1,e2]
   exact Ak (uH _ _) hd hb2)
 refine ⟨_,_,hr,_,_,_,_,hk,hf.1,?_,hf.2⟩;refine .ref _ _ _ (by exact lD rfl) Nat.one_pos (by simp[envOf,aW]) fun _=>?_;simp[envOf,aW,Core.head]
theorem aJs (s:Bx):(⟨s.toArray⟩:ByteArray).size=s.length:=by simp[ByteArray.size]
theorem Hh (hI:Inv G H loc ver w) {s:SV} {x:Value} {K:SV->Prop} (h:aBo H s K) (hs:Rel (envOf G H loc ver w) s x):(∃a n c s',x= .slice a n c/\K s'/\Rel (envOf G H loc ver w) s' (.int .i64 n))\/(∃l s',s= .str l/\x= .string ⟨List.toArray l⟩/\K s'/\Rel (envOf G H loc ver w) s' (.int .i64 l.length)):=by
 have hK:∀n:Nat,n<=maxL->inK .i64 n:=fun n hn=>by
  have:n<=140737488355328:=hn;constructor<;>simp only[lo,hi]<;>omega
 have hR:∀(t:Ty) (xs:List t.T) (x:Value),Reads w (okN G H loc w) (.slice t) xs [x]->Giv (xs.length<=140737488355328) (K (.val (.int .i64 xs.length)))->∃a n c s',x= .slice a n c/\K s'/\Rel (envOf G H loc ver w) s' (.int .i64 n):=by
  intro t xs x hr h;obtain ⟨a,n,c,e,hn,_,hm,_⟩:=hr;cases e;have hn':n=xs.length:=hn;subst hn';exact ⟨a,_,c,_,rfl,h.go hm,.val _ (hK _ hm)⟩
 unfold aBo at h;split at h
 ·rename_i t xs;cases hs with
  | seq _ _ _ hr=>exact .inl (hR t xs x hr h)
 ·rename_i l;cases hs with
  | str _ hl=>exact .inr ⟨l,_,rfl,rfl,h.go hl,.val _ (hK l.length hl)⟩
 ·rename_i es l;obtain ⟨hb2,hk⟩:=bA h;have hb2:=fF hb2;cases hs1:Nat.beq es 1 with
  | true=>
   rw[hs1] at hk;simp only[bR] at hk;obtain rfl:=bK.1 hs1;rw[Qd,tN] at hk;cases hs with
   | lit _ n b off _ vs hl hn hok hr=>
    have e:l.length=n:=by rw[hl.length,hn];omega
    have hk':K (.val (.int .i64 (n:Int))):=by rw[<- e];exact hk
    exact .inl ⟨_,_,_,_,rfl,hk',.val _ (hK n (by rw[<- e];exact bL hb2 (by simp[maxL])))⟩
  | false=>
   rw[hs1] at hk;simp only[cD] at hk;obtain ⟨h0,hk⟩:=bA hk;have h0:0<es:=by simpa using h0
   cases hs with
   | lit _ n b off _ vs hl hn hok hr=>
    have e:l.length=n*es:=by rw[hl.length,hn]
    rw[Qe h0 l 0 n 0 _ om h0,tN] at hk;refine .inl ⟨_,_,_,_,rfl,hk,.val _ (hK n ?_)⟩;have h1:=qJ n h0;exact bL (bL h1 (by rw[<- e];exact hb2)) (by simp[maxL])
 ·cases hs;exact .inl ⟨none,0,0,_,rfl,h,.val _ (hK 0 (aK _))⟩
 ·split at h;case h_2=>cases h
  rename_i k m it ho;cases hs with
  | sft _ _ hon hv=>
   obtain ⟨hl,hm,_⟩:=Jy hI ho hv.1;have hv2:x=G.itr.sf.head:=hv.2;exact .inl ⟨_,_,_,_,hv2,h.go hm,by rw[hl];exact .val _ (hK _ hm)⟩
 ·rename_i nm k i j z;split at h
  ·rename_i v t xs e ho;obtain ⟨hb,hk⟩:=bA h;have hb:=bK.1 hb;subst hb;obtain ⟨hv,hv0,hlen,hmax,vs,hown,hel⟩:=hI.objs nm _ (aX ho si);cases hs with
   | part _ _ _ _ _ _ hn h0 hkk hq=>
    obtain ⟨h1,h2,rfl⟩:=hq hv.symm;have h2:j<=(loc nm).len:=h2;exact .inl ⟨_,_,_,_,rfl,hk,.val _ (hK _ (by have:(loc nm).len<=maxL:=hmax;omega))⟩
  cases h
 ·rename_i nm k;split at h
  ·rename_i v t xs e ho;obtain ⟨hb,hk⟩:=bA h;have hb:=bK.1 hb;subst hb;obtain ⟨rfl,_⟩:=wG hI hs ho;obtain ⟨hv,hv0,hlen,hmax,vs,hown,hel⟩:=hI.objs nm _ (aX ho si);have hlen':(loc nm).len=xs.length:=hlen;exact .inl ⟨_,_,_,_,rfl,hk.go (by rw[<- hlen'];exact hmax),by rw[hlen'];exact .val _ (hK _ (by rw[<- hlen'];exact hmax))⟩
  ·rename_i v t xs ho;obtain ⟨hb,hk⟩:=bA h;have hb:=bK.1 hb;subst hb;cases hs with
   | ref _ _ _ hn h0 hkk hv=>
    have hO:=hI.objs nm _ (aX ho si);have hvj:ver nm=v:=hO.1;have:=hv hvj.symm;subst this;exact .inl (hR t xs _ hO.2.2 hk)
  cases h
 cases h
end
end Go.Eng
end
section
namespace Go.Eng
open Go.RowKit Go.Lib
section
variable {P:Program} {G:Ctx} {H:List HO} {loc:Nat->Loc} {ver:Nat->Nat} {w:World}
theorem gD (s:Bx):(cJ s).length=s.length:=by simp[cJ]
theorem Gz (s:Bx):strCells ⟨s.toArray⟩=(cJ s).map fun n=>Value.int .u8 n:=by simp[strCells,cJ]
theorem aGz (s:Bx) (i:Nat) (hi:i<s.length) (w':World) (ok:Nat->Prop):Reads w' ok (.int .u8) ((cJ s).getD i 0) ((strCells ⟨s.toArray⟩).drop (i*1) |>.take 1):=by
 have e:((strCells ⟨s.toArray⟩).drop (i*1) |>.take 1)= [Value.int .u8 ((cJ s).getD i 0)]:=by
  rw[Gz,vI];have hi':i<(cJ s).length:=by rw[gD];exact hi
  rw[<- List.map_drop,<- List.map_take,kE hi',List.take_succ_cons,List.take_zero];simp[aB,hi']
 rw[e];refine ⟨rfl,?_⟩;have hg:(cJ s).getD i 0=(s[i].toNat:Int):=by simp[cJ,aB,hi]
 have h2:=s[i].toNat_lt;show (0:Int)<=(cJ s).getD i 0/\(cJ s).getD i 0<=255;rw[hg];omega
theorem Jw {t u ty e:TypeId} {i:TypeInfo} (ht:P.underlying t=some (.slice e)) (hu:P.underlying u=some .string) (hi:P.info? e=some i) (hz:i.zero=some (.int .u8 0)) (hsize:i.size=1) (hby:i.bytes=1)
  {L:Loc} {n:Nat} {xs:List Value} (hown:w.ownsR 0 e 1 L.head n xs) (s:Bx) (hb:n+s.length<=140737488355328):
  ∃(L':Loc) (w':World),(Builtin.append_ #[t,u] ty #[L.head,.string ⟨s.toArray⟩]).run P w= .ok L'.head w'/\w'.ownsR 0 e 1 L'.head (n+s.length) (xs++strCells ⟨s.toArray⟩)/\w.grownBy w' (L.blk.map (·.1))/\(∀b,L'.blk.map (·.1)=some b->L.blk.map (·.1)=some b\/w.heap.size<=b):=by
 have hsz:(⟨s.toArray⟩:ByteArray).size=s.length:=by simp[ByteArray.size]
 have hxl:xs.length=n:=by simpa using hown.1
 have hlen:(xs++strCells ⟨s.toArray⟩).length=(n+s.length)*1:=by rw[aS,hxl,strCells_length,hsz,vI]
 have grown:∀(old:Nat),old<n+s.length->∀(row:Option Nat),
   (w.drew.alloc (.cells (xs.toArray++(strCells ⟨s.toArray⟩).toArray++Builtin.zeroCells (Value.int .u8 0).cells (grownCap w (n+s.length) old e-(n+s.length))) e)).ownsR 0 e 1 (Core.head (mkL (some (w.heap.size,0)) (n+s.length) (grownCap w (n+s.length) old e)).toCore) (n+s.length) (xs++strCells ⟨s.toArray⟩)/\
   w.grownBy (w.drew.alloc (.cells (xs.toArray++(strCells ⟨s.toArray⟩).toArray++Builtin.zeroCells (Value.int .u8 0).cells (grownCap w (n+s.length) old e-(n+s.length))) e)) row:=by
  intro old ho row;have hge:=grownCap_ge w (n+s.length) old e;have hcm:grownCap w (n+s.length) old e<=maxLen:=grownCap_le_maxLen w (n+s.length) old e (by simp[maxLen];omega);refine ⟨⟨hlen,.inr ⟨w.heap.size,_,_,rfl,aK _,kG w.drew _,hge,hcm,?_,?_⟩⟩,⟨rfl,rfl,rfl,si,fun k hk _=>Below.heap_alloc w.drew _ k hk⟩⟩
  ·have hz1:(Value.int IntKind.u8 0).cells.size=1:=rfl;simp only[vJ,gZ,size_zeroCells,hz1,hxl,strCells_length,hsz];omega
  simp only[Array.toList_append,cC];rw[<- cC,<- hlen];exact List.take_left
 rcases dJ hown with ⟨e1,e2,e3,e4⟩ | ⟨g,cur,e1,e2,e3,e4,e5,e6,e7⟩
 ·have hx:xs= []:=cF (by rw[hxl,e4]);subst hx e4;have hhead:L.head= .slice none 0 0:=by simp[Core.head,e1,e2,e3]
  by_cases hm:s.length=0
  ·have hs:s= []:=cF hm;subst hs;refine ⟨L,w,?_,by simpa [strCells] using hown,⟨rfl,rfl,rfl,aN _,fun _ _ _=>rfl⟩,fun b hb=>.inl hb⟩;have hf:=run_firstCells_string (P:=P) w 1 ⟨#[]⟩;have h0:(⟨#[]⟩:ByteArray).size=0:=rfl;rw[h0] at hf;rw[hhead];simp[Builtin.append_,run_underlying ht,run_underlying hu,sizeOf,typeInfo,hi,hsize,Builtin.lenOf,h0,hf]
  have hr:=run_append_nil_string (P:=P) w t u ty e i (.int .u8 0) ht hu hi hz ⟨s.toArray⟩ om om (by rw[hby];omega);have hgr:=grown 0 om (L.blk.map (·.1));simp only[eJ,kJ,Array.empty_append] at hgr ⊢;have e1':((⟨s.toArray⟩:ByteArray).data.map fun b=>Value.int .u8 b.toNat)=(strCells ⟨s.toArray⟩).toArray:=by
   apply fG;simp[strCells]
  rw[e1',hsz] at hr;refine ⟨mkL (some (w.heap.size,0)) s.length (grownCap w s.length 0 e),_,?_,hgr.1,hgr.2,fun b hb=>.inr (by simp at hb;omega)⟩;rw[hhead];simpa [Core.head] using hr
 have hhead:L.head= .slice (some ⟨g,0,none⟩) n L.cap:=by simp[Core.head,e1,e2]
 have e6':L.cap<=cur.size:=by simpa using e6
 by_cases hroom:n+s.length<=L.cap
 ·have hr:=run_append_room_string (P:=P) w t u ty e i ht hu hi hsize g n L.cap cur e3 ⟨s.toArray⟩ (by rw[hsz];exact hroom) (by rw[hsz];omega);rw[hsz] at hr;refine ⟨mkL (some (g,0)) (n+s.length) L.cap,_,by rw[hhead];exact hr,⟨hlen,.inr ⟨g,L.cap,_,rfl,aK _,setRow_heap w g cur _ e _ e3,hroom,e5,?_,?_⟩⟩,⟨rfl,rfl,rfl,si,fun k _ hk=>setRow_other w g k _ (fun e=>hk (by simp[e1,e]))⟩,fun b hb=>.inl (by simpa [e1] using hb)⟩
  ·simp only[gZ,aS,aY,bB,jE,strCells_length,hsz];omega
  have ht':cur.toList.take n=xs:=by simpa using e7
  rw[ht',<- hlen];exact List.take_left
 have holds:∀j u,xs[j]? =some u->w.cell? ((⟨g,0,none⟩:Addr).add j)=some u:=by
  intro j u hj;rw[Addr.add_mid];rw[<- e7,aU] at hj;split at hj
  ·simp only[World.cell?,e3];simpa using hj
  cases hj
 have hr:=run_append_grow_string (P:=P) w t u ty e i (.int .u8 0) ht hu hi hz ⟨g,0,none⟩ n L.cap xs (by rw[hsize];simpa using hxl) holds ⟨s.toArray⟩ (by rw[hsz];omega) (by rw[hsz];omega) (by rw[hby,hsz];exact growslice_fits om om);rw[hsz] at hr;have hgr:=grown L.cap om (L.blk.map (·.1));exact ⟨(mkL (some (w.heap.size,0)) (n+s.length) (_)),_,by rw[hhead];exact hr,hgr.1,hgr.2,fun b hb=>.inr (by simp at hb;omega)⟩
theorem Mr (hI:Inv G H loc ver w) {t u ty:TypeId} {s x:SV} {p q:Value} {K:SV->List HO->Prop} (h:Qj P t u H s x K) (hs:Rel (envOf G H loc ver w) s p) (hx:Rel (envOf G H loc ver w) x q):
  ∃v w',(Builtin.append_ #[t,u] ty #[p,q]).run P w= .ok v w'/\Res G (envOf G H loc ver w) K v w':=by
 unfold Qj at h;split at h;case h_2=>cases h
 rename_i nm k bs hu;split at h;case h_2=>cases h
 rename_i e he;have ht:=iL he;split at h;case h_2=>cases h
 rename_i i j xs e' hi ho;obtain ⟨hb,hm⟩:=bA h;clear h;simp only[aE,bK] at hb;obtain ⟨⟨⟨⟨hjk,hee⟩,hb1⟩,hb2⟩,hb3⟩:=hb;subst hjk hee;have hz:i.zero=some (.int .u8 0):=by
  split at hb3
  ·rename_i h0;rw[h0];have:=eO hb3;rw[this]
  cases hb3
 obtain ⟨hn,hk⟩:=hm;rw[bY] at hk;obtain ⟨hp,hlt⟩:=wG hI hs ho;subst hp;cases hx with
 | str _ hl=>
 have hn':=aX ho si;obtain ⟨hv,hv0,hlen,hmax,vs,hown,hel⟩:=hI.objs nm _ hn';have hlen':(loc nm).len=List.length (α:=Int) xs:=hlen;have hown':w.ownsR 0 e 1 (loc nm).head (List.length (α:=Int) xs) vs:=by rw[<- hlen'];exact hown
 obtain ⟨L',w',hr,hown2,hg,hfr⟩:=Jw (P:=P) (w:=w) (t:=t) (u:=u) (ty:=ty) ht hu hi hz hb1 hb2 hown' bs hn;obtain ⟨h1,h2,h3,h4,h5⟩:=hg;have hL:L'.len=List.length (α:=Int) xs+bs.length:=by
  rcases dJ hown2 with ⟨_,_,e3,e4⟩ | ⟨g,cur,_,e2,_⟩<;>omega
 have hvj:ver nm=j:=hv;have hst:(Eng.hset H nm (.vec (j+1) (.int .u8) (List.append (α:=Int) xs (cJ bs)) e))[nm]? =some (.vec (j+1) (.int .u8) (List.append (α:=Int) xs (cJ bs)) e):=aQ hlt;have ht2:=hI.turn (w':=w') (H':=hset H nm (.vec (j+1) (.int .u8) (List.append (α:=Int) xs (cJ bs)) e)) (loc':=upd loc nm L') (ver':=upd ver nm (j+1)) nm (by simp[Eng.hset]) (fun k hk=>⟨bZ hk,cW _ _ _ hk,cW _ _ _ hk⟩)
  (fun _=>eM hst rfl) (fun _=>.inr ⟨om,by rw[aW];omega⟩) h4 h1 h2 h3 (by rw[hn'];intro h;cases h) (fun _=>by rw[hst];intro h;cases h) (fun st n it b h=>by rw[hst] at h;cases h) (fun b hb hne=>h5 b hb (by
   intro e
   exact hne _ hn' (by simp only[Owns];exact e.symm)))
  (by
   intro o' b ho' hb;rw[hst] at ho';cases ho';rw[aW] at hb;rcases hfr b hb with h | h
   ·exact .inl ⟨_,hn',h⟩
   exact .inr h)
  (by
   intro hx' o' ho';rw[hst] at ho';cases ho';rw[aW,aW];refine ⟨rfl,mC _,by rw[hL];simp[gD],by rw[hL];exact hn,vs++strCells ⟨bs.toArray⟩,by rw[hL];exact hown2,fun i hi=>?_⟩;rw[hL] at hi
   exact xG (t:=.int .u8) (ok':=fun _=>True) (xs:=xs) (ys:=cJ bs) hown'.1 (fun i hi=>(hel i (by show i<(loc nm).len;omega)).mono hx'.cell hx'.ok) (by rw[Gz];simp[Ty.size]) (fun i hi=>aGz bs i (by rw[<- gD];exact hi) _ _) i (by rw[gD];exact hi))
 refine ⟨_,_,hr,_,_,_,_,hk,ht2.1,?_,ht2.2⟩;refine .ref _ _ _ (by exact eM hst rfl) (mC _) (by simp[envOf,aW]) fun _=>?_;simp[envOf,aW]
end
end Go.Eng
end
section
namespace Go.Eng
open Go.RowKit
mutual
theorem Rel.bare {E E':Env} (hC:KeepC E E') (hk:∀b,E.ok b->E'.ok b) {s:SV} {v:Value} (h:Rel E s v) (hb:Eng.bare s=true):Rel E' s v:=by
 cases h with
 | any=>exact .any v
 | val _ h=>exact .val v h
 | bl p d=>exact .bl p d
 | str s h=>exact .str s h
 | seq t xs _ h=>exact .seq t xs v (h.mono hC.cell hk)
 | lit es n b off l vs hl hn hok hr=>exact .lit es n b off l vs (hl.bare hC hk (by simpa [Eng.bare] using hb)) hn (hk _ hok) (fun j v hj=>hC.cell _ v hok (hr j v hj))
 | elem t xs i o b off es hi hok hr h=>exact .elem t xs i o b off es hi (hk _ hok) (fun j v hj=>hC.cell _ v hok (hr j v hj)) (h.mono hC.cell hk)
 | lelem l i b off vs hl hok hr=>exact .lelem l i b off vs (hl.bare hC hk (by simpa [Eng.bare] using hb)) (hk _ hok) (fun j v hj=>hC.cell _ v hok (hr j v hj))
 | ptr=>simp[Eng.bare] at hb
 | ref=>simp[Eng.bare] at hb
 | vptr=>simp[Eng.bare] at hb
 | wide=>simp[Eng.bare] at hb
 | agg l vs hl=>exact .agg l vs (hl.bare hC hk (by simpa [Eng.bare] using hb))
 | tup l vs hl=>exact .tup l vs (hl.bare hC hk (by simpa [Eng.bare] using hb))
 | clo f a b va vb ha hb'=>
  simp only[Eng.bare,aE] at hb;exact .clo f a b va vb (ha.bare hC hk hb.1) (hb'.bare hC hk hb.2)
 | yld=>simp[Eng.bare] at hb
 | sft=>simp[Eng.bare] at hb
 | mp=>simp[Eng.bare] at hb
 | sub=>simp[Eng.bare] at hb
 | subp=>simp[Eng.bare] at hb
 | part=>simp[Eng.bare] at hb
 | lim=>simp[Eng.bare] at hb
 | ifc _ h=>exact .ifc v h
 | wcel n b e hw hok hr=>exact .wcel n b e hw (hk _ hok) (hC _ _ hok hr rfl)
 | fmp ks l b c es hok hb' hk' hl=>exact .fmp ks l b c es (hk _ hok) (hC _ _ hok hb' rfl) hk' (hl.bare hC hk (by simpa [Eng.bare] using hb))
theorem RelL.bare {E E':Env} (hC:KeepC E E') (hk:∀b,E.ok b->E'.ok b) {l:List SV} {vs:List Value} (h:RelL E l vs) (hb:Eng.bare.bareL l=true):RelL E' l vs:=by
 cases h with
 | nil=>exact .nil
 | cons s v l vs h hl=>
  simp only[Eng.bare.bareL,aE] at hb;exact .cons s v l vs (h.bare hC hk hb.1) (hl.bare hC hk hb.2)
end
def xH (P:Program) (f:FuncId):Prop:=∀args w,(callFunc f args).run P w= .ok (.enter f args) w
def env0 (w:World) (ok:Nat->Prop):Env:=⟨w,ok,fun _=>false,fun _=>mkL none 0 0,fun _=>0,fun _ _=>False,fun _=>False,itr0⟩
def gnames:List String:=["internal/strconv.uint64pow10","strconv.ErrRange","strconv.ErrSyntax"]
structure GV (n:String) (cs:Array Value):Prop where
 pow:n= "internal/strconv.uint64pow10" →cs=(((List.range 20).map fun i=>((10^i:Nat):Int)).map fun z=>Value.int .u64 z).toArray
 err:n= "strconv.ErrRange" ∨n= "strconv.ErrSyntax" →∃tp p,cs= #[.iface tp p]
def GW (P:Program) (ok:Nat->Prop) (w:World):Prop:=∀n∈gnames,∀g,P.globalNamed n=some g->ok g/\∃cs e f,w.heap[g]? =some (.cells cs e f)/\GV n cs
theorem GW.move {P:Program} {ok ok':Nat->Prop} {w w':World} (h:GW P ok w) (hk:∀b,ok b->b<w.heap.size->ok' b) (hb:∀b,ok b->w'.heap[b]? =w.heap[b]?):GW P ok' w':=fun n hn g hg=>by
 obtain ⟨h1,cs,e,f,h2,h3⟩:=h n hn g hg;exact ⟨hk g h1 (aF.1 h2).1,cs,e,f,(hb g h1).trans h2,h3⟩
theorem GW.var {P:Program} {ok:Nat->Prop} {w:World} (h:GW P ok w) {n:String} (hn:n∈gnames) {g:Nat} (hg:P.globalNamed n=some g):∃cs,w.var? P n=some cs/\GV n cs:=by
 obtain ⟨_,cs,e,f,h2,h3⟩:=h n hn g hg;exact ⟨cs,by simp only[World.var?,hg,oI,h2],h3⟩
def Tri (P:Program) (fresh:Bool) (f:FuncId) (args:List SV) (r:SV):Prop:=
 ∀(ok:Nat->Prop) (w:World) (vs:List Value),GW P ok w->(∀b,ok b->b<w.heap.size)->RelL (env0 w ok) args vs->
  Calls P f ⟨vs⟩ w fun e w'=>∃v,e= .returned v/\Below w.heap.size w w'/\Rel (env0 w' fun b=>(fresh=false/\ok b)\/(w.heap.size<=b/\b<w'.heap.size)) r v
structure Kept (S:Nat->Prop) (w w':World):Prop where
 os:w'.os=w.os
 tape:w'.tape=w.tape
 output:w'.output=w.output
 size:w.heap.size<=w'.heap.size
 blk:∀b,S b->b<w.heap.size->w'.heap[b]? =w.heap[b]?
def aMw (w:World) (ok:Nat->Prop) (soft:Bool) (sf:Core) (args:List SV) (vs:List Value):Prop:=
 match soft with
 | false=>RelL (env0 w ok) args vs
 | true=>args= [.lelem [.sft none] 0]/\∃c o,ok c/\w.cell? ⟨c,o,none⟩=some sf.head/\vs= [.pointer (some ⟨c,o,none⟩)]
def TriI (P:Program) (f:FuncId) (args:List SV) (n:Nat) (items:Nat->List SV):Prop:=
 ∀(ok:Nat->Prop) (w:World) (vs:List Value) (l:Nat) (J:Option Nat->(Nat->Prop)->World->Prop) (soft:Bool) (sf:Core),GW P ok w->(∀b,ok b->b<w.heap.size)->aMw w ok soft sf args vs->(soft=true->∀k M W,J (some k) M W->softC n sf W)->
  (∀st M W W',J st M W->W'.os=W.os->W'.tape=W.tape->W'.output=W.output->W.heap.size<=W'.heap.size->
   (∀b,b<W.heap.size->¬M b->W'.heap[b]? =W.heap[b]?)->J st (fun b=>M b\/(W.heap.size<=b/\b<W'.heap.size)) W')->
  (∀k M W us,k<n->J (some k) M W->RelL (env0 W M) (items k) us->
   YieldAt Fence.wide 0 P l ⟨us⟩ W fun e W'=>∃b,e= .returned (.bool b)/\J (if b=true then some (k+1) else none) M W'/\Kept (fun c=>ok c\/M c) W W')->
  J (some 0) (fun _=>False) w->
  Calls P f ⟨.func (.yield l) #[] #[]::vs⟩ w fun e w'=>(∃v,e= .returned v)/\∃M,J (some n) M w'\/J none M w'
def Tris (P:Program) (fresh:Bool) (f:FuncId) (args:List SV) (r:SV):Prop:=
 match r with
 | .itr n items=>TriI P f args n items
 | r=>Tri P fresh f args r
def RowS (w:World) (L:Loc) (t:Ty) (xs:List t.T) (e:TypeId):Prop:=
 L.len=List.length (α:=t.T) xs/\L.len<=maxL/\∃vs,w.ownsR 0 e t.size L.head L.len vs/\∀i,i<L.len->Reads w (fun _=>False) t (List.getD (α:=t.T) xs i t.dflt) ((vs.drop (i*t.size)).take t.size)
def LTri (P:Program) (f:FuncId) (pos:Nat) (same:Bool) (args:List SV) (t:Ty) (xs:List t.T) (e:TypeId) (r:SV) (ys:List t.T):Prop:=
 ∀(ok:Nat->Prop) (w:World) (vs:List Value) (L:Loc),GW P ok w->(∀b,ok b->b<w.heap.size/\L.blk.map (·.1)≠some b)->(∀b,L.blk.map (·.1)=some b->b<w.heap.size)->RowS w L t xs e->RelL (env0 w ok) args vs->vs[pos]? =some L.head->
  Calls P f ⟨vs⟩ w fun en w'=>∃v L',en= .returned v/\(w'.os=w.os/\w'.tape=w.tape/\w'.output=w.output/\w.heap.size<=w'.heap.size/\∀b,b<w.heap.size->L.blk.map (·.1)≠some b->w'.heap[b]? =w.heap[b]?)/\
   (same=true->L'=L)/\(∀b,L'.blk.map (·.1)=some b->L.blk.map (·.1)=some b\/w.heap.size<=b)/\RowS w' L' t ys e/\((r= .ref 0 1/\v=L'.head)\/(plain r=true/\Rel (env0 w' fun _=>False) r v))
def aCb (P:Program) (f:FuncId) (pos:Nat) (same:Bool) (cl:List SV->HO->(SV->HO->Prop)->Prop):Prop:=
 ∀args t xs e K,t.flat=true->cl args (.vec 1 t xs e) K->∃r ys,K r (.vec 1 t ys e)/\LTri P f pos same args t xs e r ys
def envO (w:World) (L:Loc):Env:=⟨w,fun _=>False,fun n=>Nat.beq n 0,fun _=>L,fun _=>1,fun _ _=>False,fun _=>False,itr0⟩
def OTri (P:Program) (f:FuncId) (args:List SV) (r:SV) (t:Ty) (ys:List t.T) (e:TypeId):Prop:=
 ∀(ok:Nat->Prop) (w:World) (vs:List Value),GW P ok w->(∀b,ok b->b<w.heap.size)->RelL (env0 w ok) args vs->
  Calls P f ⟨vs⟩ w fun en w'=>∃v L',en= .returned v/\Below w.heap.size w w'/\(∀b,L'.blk.map (·.1)=some b->w.heap.size<=b)/\RowS w' L' t ys e/\Rel (envO w' L') r v
def aG2 (P:Program) (f:FuncId) (cl:List SV->(SV->HO->Prop)->Prop):Prop:=
 ∀args K,cl args K->∃r k t ys e,K r (.vec k t ys e)/\(t.flat=true->OTri P f args r t ys e)
def YOK (P:Program) (t:Itr):Prop:=∀k M W us,k<t.n->t.J (some k) M W->RelL (env0 W M) (t.items k) us->
 YieldAt Fence.wide 0 P t.l ⟨us⟩ W fun e W'=>∃b,e= .returned (.bool b)/\t.J (if b=true then some (k+1) else none) M W'/\Kept (fun c=>t.ok c\/M c) W W'
def COK (P:Program) (G:Ctx):Prop:=YOK P G.itr/\GW P G.ok0 G.w0
theorem COK.now {P:Program} {G:Ctx} {H:List HO} {loc:Nat->Loc} {ver:Nat->Nat} {w:World} (h:COK P G) (hI:Inv G H loc ver w):GW P (okN G H loc w) w:=
 h.2.move (fun b hb hlt=>⟨.inl hb,aZ hlt hI.size,fun ho=>by
  rcases hI.own b ho with h1 | h1
  ·exact G.apart b hb h1
  omega⟩) fun b hb=>hI.frame b (G.below b hb) (G.apart b hb)
def HTri (P:Program) (f:FuncId) (args:List SV) (H:List HO) (R:SV->List HO->Prop):Prop:=
 ∀(G:Ctx) (loc:Nat->Loc) (ver:Nat->Nat) (w:World) (vs:List Value),COK P G->Inv G H loc ver w->RelL (envOf G H loc ver w) args vs->
  Calls P f ⟨vs⟩ w fun e w'=>∃v,e= .returned v/\Res G (envOf G H loc ver w) R v w'
def HpOK (P:Program) (f:FuncId) (cl:List SV->List HO->(SV->List HO->Prop)->Prop):Prop:=
 ∀args H K,cl args H K->∃R,(∀s H',R s H'->K s H')/\HTri P f args H R
def aO (P:Program) (c:Con):Prop:=xH P c.f/\(∀args K,c.cl args K->∃r,K r/\Tris P c.fresh c.f args r)/\(∀pos same cl,c.lin=some (pos,same,cl)->aCb P c.f pos same cl)/\(∀cl,c.own=some cl->aG2 P c.f cl)/\∀cl,c.hp=some cl->HpOK P c.f cl
theorem Uv {P:Program} {c:Con} (hl:(c.lin,c.own,c.hp)=(none,none,none)) (he:xH P c.f) (h:∀args K,c.cl args K->∃r,K r/\Tris P c.fresh c.f args r):aO P c:=
 ⟨he,h,(fun _ _ _ e=>by rw[(fP hl).1] at e;cases e),(fun _ e=>by rw[(fP (fP hl).2).1] at e;cases e),(fun _ e=>by rw[(fP (fP hl).2).2] at e;cases e)⟩
theorem Uw {P:Program} {f:FuncId} {pos:Nat} {same:Bool} {cl:List SV->HO->(SV->HO->Prop)->Prop} (he:xH P f) (h:aCb P f pos same cl):aO P (Xz f pos same cl):=
 ⟨he,fun _ _ h=>h.elim,(fun _ _ _ e=>by cases e;exact h),(fun _ e=>by cases e),(fun _ e=>by cases e)⟩
theorem aG3 {P:Program} {f:FuncId} {fresh:Bool} {pos:Nat} {same:Bool} {lin:List SV->HO->(SV->HO->Prop)->Prop} {cl:List SV->(SV->Prop)->Prop} (he:xH P f) (h:aCb P f pos same lin) (hc:∀args K,cl args K->∃r,K r/\Tris P fresh f args r):aO P (aGb f fresh pos same lin cl):=
 ⟨he,hc,(fun _ _ _ e=>by cases e;exact h),(fun _ e=>by cases e),(fun _ e=>by cases e)⟩
theorem Kg {P:Program} {f:FuncId} {cl:List SV->(SV->HO->Prop)->Prop} (he:xH P f) (h:aG2 P f cl):aO P (Qb f cl):=
 ⟨he,fun _ _ h=>h.elim,(fun _ _ _ e=>by cases e),(fun _ e=>by cases e;exact h),(fun _ e=>by cases e)⟩
theorem An {P:Program} {f:FuncId} {cl:List SV->List HO->(SV->List HO->Prop)->Prop} (he:xH P f) (h:HpOK P f cl):aO P (Jf f cl):=
 ⟨he,fun _ _ h=>h.elim,(fun _ _ _ e=>by cases e),(fun _ e=>by cases e),(fun _ e=>by cases e;exact h)⟩
theorem Tris.tri {P:Program} {fresh:Bool} {f:FuncId} {args:List SV} {r:SV} (h:Tris P fresh f args r) (hb:Eng.bare r=true):Tri P fresh f args r:=by
 cases r with
 | itr n i=>simp[Eng.bare] at hb
 | _=>exact h
section
variable {P:Program} {G:Ctx} {H:List HO} {loc:Nat->Loc} {ver:Nat->Nat} {w:World}
def envL (G:Ctx) (H:List HO) (loc:Nat->Loc) (ver:Nat->Nat) (w:World):Env:=⟨w,fun b=>b<w.heap.size,hasB H,loc,ver,ghoN H loc,aliN H loc,G.itr⟩
theorem Dp:Ext (envOf G H loc ver w) (envL G H loc ver w):=⟨⟨fun _ _=>rfl,fun _ h=>h.2.1,fun _ h=>h,fun _ _=>.inl ⟨rfl,rfl⟩,rfl,rfl,rfl,aN _,fun _ h=>.inl h,rfl,fun _ _ _=>.inl rfl⟩,fun _ _ _ h _=>h,fun _ _ h=>⟨h,rfl⟩,fun _ _ _ h=>h⟩
theorem Ao {E:Env} {ok:Nat->Prop} {L:Loc} {v k:Nat} {t:Ty} {xs:List t.T} {e:TypeId} (h:OSat E L v (.vec k t xs e)) (hk:∀b,E.ok b->ok b) (hb:∀b,L.blk.map (·.1)=some b->ok b):Reads E.w ok (.slice t) xs [L.head]:=by
 obtain ⟨_,_,hlen,hmax,vs,hown,hel⟩:=h;rcases dJ hown with ⟨e1,e2,e3,e4⟩ | ⟨g,cur,e1,e2,e3,e4,e5,e6,e7⟩
 ·exact ⟨none,0,0,by simp[Core.head,e1,e2,e3],om,aN _,aK _,fun h=>absurd h (gR _)⟩
 refine ⟨some ⟨g,0,none⟩,L.len,L.cap,by simp[Core.head,e1],hlen,e4,hmax,fun h0=>⟨g,0,rfl,hb g (by simp[e1]),fun i hi=>⟨_,(hel i hi).length,?_,(hel i hi).mono (fun _ _ _ h=>h) hk⟩⟩⟩;intro j v hj;rw[aU] at hj;split at hj
 ·rw[bD,<- e7,aU] at hj;split at hj
  ·simp only[World.cell?,e3];simpa using hj
  cases hj
 cases hj
theorem jJ (hI:Inv G H loc ver w) {nm k:Nat} {v:Value} (h:Rel (envOf G H loc ver w) (.ref nm k) v):Rel (envL G H loc ver w) (view true H (.ref nm k)) v:=by
 have h0:=h;simp only[view];cases h with
 | ref _ _ _ hn hk0 hk hv=>
  cases ho:hget H nm with
  | vec j t xs e=>
   simp only[mX];cases hb:Nat.beq j k with
   | false=>exact .any v
   | true=>
    obtain rfl:=bK.1 hb;have hO:=hI.objs nm _ (aX ho si);have:=hv hO.1.symm;subst this;have hrd:=Ao (E:=envOf G H loc ver w) (ok:=fun b=>b<w.heap.size) hO (fun b hb=>hb.2.1) fun b hb=>hO.block (b:=b) hb;exact .seq t xs _ hrd
  | fro j t xs=>
   simp only;cases hb:Nat.beq j k with
   | false=>exact .any v
   | true=>
    obtain rfl:=bK.1 hb;have hO:=hI.objs nm _ (aX ho si);have:=hv hO.1.symm;subst this;exact .seq t xs _ (hO.2.2.mono (fun _ _ _ h=>h) fun b hb=>hb.2.1)
  | _=>exact .any v
theorem nZ (hI:Inv G H loc ver w) {nm k:Nat} {v:Value} (h:Rel (envOf G H loc ver w) (.ref nm k) v):Rel (envOf G H loc ver w) (view false H (.ref nm k)) v:=by
 simp only[view];cases h with
 | ref _ _ _ hn hk0 hk hv=>
  cases ho:hget H nm with
  | vec j t xs e=>exact .any v
  | fro j t xs=>
   simp only;cases hb:Nat.beq j k with
   | false=>exact .any v
   | true=>
    obtain rfl:=bK.1 hb;have hO:=hI.objs nm _ (aX ho si);have:=hv hO.1.symm;subst this;exact .seq t xs _ hO.2.2
  | _=>exact .any v
theorem oW {E:Env} (nm k i:Nat) (v:Value):Rel E (view false H (.subp nm k i)) v:=by
 simp only[view];split<;>exact .any v
theorem nJ (hI:Inv G H loc ver w) {E':Env} (hw:E'.w=w) {H2:List HO} {nm k i:Nat} {v:Value} (h:Rel (envOf G H loc ver w) (.subp nm k i) v) (hs:hget H2 nm=hget H nm\/hget H2 nm= .dead)
  (hb:∀b k t xs,hget H nm= .lnt k t xs->Owns (loc nm) (.lnt k t xs) b->E'.ok b):Rel E' (view true H2 (.subp nm k i)) v:=by
 simp only[view];rcases hs with hs | hs
 ·rw[hs];split
  ·rename_i j t xs ho;cases hc:(true&&(t.flat&&(Nat.beq j k&&Nat.beq i 0))) with
   | false=>exact .any v
   | true=>
    simp only[mX,aE] at hc;obtain ⟨_,h1,h2⟩:=hc;have e1:j=k:=by simpa using h1
    have e2:i=0:=by simpa using h2
    subst e1;subst e2;obtain ⟨q1,q2,q3,q4,q5⟩:=hI.objs nm _ (aX ho si);cases h with
    | subp _ _ _ _ hn h0 hk hs' hv=>
     have:=hv q1.symm q3.symm;subst this;exact .seq t xs _ (q5.mono (fun a v _ hv=>by rw[hw];exact hv) fun b hb'=>hb b _ t xs ho hb')
  exact .any v
 rw[hs];exact .any v
theorem aDz {E E':Env} (x:Ext E E') (hv:∀nm k v,Rel E (.ref nm k) v->Rel E' (view true H (.ref nm k)) v) {s:SV} {v:Value} (h:Rel E s v):Rel E' (aBk H s) v:=by
 cases s with
 | ref nm k=>
  have:=hv nm k v h;simp only[view,mX] at this;exact this
 | _=>exact h.ext x
theorem Kh {E E':Env} (x:Ext E E') (hv:∀nm k v,Rel E (.ref nm k) v->Rel E' (view true H (.ref nm k)) v):∀ {l:List SV} {vs:List Value},RelL E l vs->RelL E' (l.map (aBk H)) vs
 | _,_,.nil=>.nil
 | _,_,.cons _ _ _ _ h hl=>.cons _ _ _ _ (aDz x hv h) (Kh x hv hl)
theorem sE (hI:Inv G H loc ver w) {E':Env} (x:Ext (envOf G H loc ver w) E') (hw:E'.w=w) {H2:List HO} {nm off:Nat} {v:Value} (h:Rel (envOf G H loc ver w) (.ptr nm off) v) (hs:hget H2 nm=hget H nm)
  (hb:∀b l e,hget H nm= .cells l e->(loc nm).blk.map (·.1)=some b->E'.ok b) (hv:∀nm k v,Rel (envOf G H loc ver w) (.ref nm k) v->Rel E' (view true H2 (.ref nm k)) v):Rel E' (view true H2 (.ptr nm off)) v:=by
 simp only[view,hs];split
 ·rename_i l ho;obtain ⟨h0,b,vs,e0,h1,h2,h3,h4⟩:=hI.objs nm _ (aX ho si);cases h with
  | ptr _ _ _ hn hv=>
   obtain ⟨b',h5,rfl⟩:=hv h0;have h5':(loc nm).blk=some (b',0):=h5;rw[h1] at h5';cases h5';exact (Ul h4 h2 h3).ext x
 ·rename_i l e ho;simp only[bR];obtain ⟨h0,b,vs,h1,h2,h3⟩:=hI.objs nm _ (aX ho si);cases h with
  | ptr _ _ _ hn hvp=>
   obtain ⟨b',h5,rfl⟩:=hvp h0;have h5':(loc nm).blk=some (b',0):=h5;rw[h1] at h5';cases h5';have hr:E'.w.rangeAt b 0 vs:=by
    intro j u hj;rw[hw];have h2':w.heap[b]? =some (.cells ⟨vs⟩ e (0,0)):=h2;simp only[World.cell?,h2'];simpa using hj
   have:=Rel.lelem (E:=E') (l.map (aBk H2)) off b 0 vs (Kh x hv h3) (hb b l e ho (by rw[h1];rfl)) hr;rwa [eJ] at this
 exact h.ext x
theorem zD (hI:Inv G H loc ver w) {nm off:Nat} {v:Value} (h:Rel (envOf G H loc ver w) (.ptr nm off) v):Rel (envOf G H loc ver w) (view false H (.ptr nm off)) v:=by
 simp only[view];split
 ·rename_i l ho;obtain ⟨h0,b,vs,e0,h1,h2,h3,h4⟩:=hI.objs nm _ (aX ho si);cases h with
  | ptr _ _ _ hn hv=>
   obtain ⟨b',h5,rfl⟩:=hv h0;have h5':(loc nm).blk=some (b',0):=h5;rw[h1] at h5';cases h5';exact Ul h4 h2 h3
 ·exact h
 exact h
theorem tD (hI:Inv G H loc ver w) {E':Env} (x:Ext (envOf G H loc ver w) E') {lend:Bool} {H2:List HO} {nm:Nat} {v:Value} (hs:hget H2 nm=hget H nm\/hget H2 nm= .dead) (h:Rel (envOf G H loc ver w) (.mp nm) v):Rel E' (view lend H2 (.mp nm)) v:=by
 simp only[view];rcases hs with hs | hs
 ·rw[hs];split
  ·rename_i ks l ho;obtain ⟨h0,hbr,b,es,c,h1,h2,h3,h4,h5⟩:=hI.objs nm _ (aX ho si);cases h with
   | mp _ _ hn hv=>
    obtain ⟨b',h6,rfl⟩:=hv h0;have h6':(loc nm).blk=some (b',0):=h6;rw[h1] at h6';cases h6';exact (Rel.fmp ks l b c es h2 h3 h4 h5).ext x
  exact h.ext x
 rw[hs];exact h.ext x
theorem Dq {E E':Env} {lend:Bool} (x:Ext E E') (hp:∀nm k v,Rel E (.ptr nm k) v->Rel E' (view lend H (.ptr nm k)) v) (hv:∀nm k v,Rel E (.ref nm k) v->Rel E' (view lend H (.ref nm k)) v) (hu:∀nm k i v,Rel E (.subp nm k i) v->Rel E' (view lend H (.subp nm k i)) v) (hm:∀nm v,Rel E (.mp nm) v->Rel E' (view lend H (.mp nm)) v) {s:SV} {v:Value} (h:Rel E s v):Rel E' (view lend H s) v:=by
 cases s with
 | ref nm k=>exact hv nm k v h
 | ptr nm k=>exact hp nm k v h
 | subp nm k i=>exact hu nm k i v h
 | mp nm=>exact hm nm v h
 | _=>exact h.ext x
theorem rL {E E':Env} {lend:Bool} (x:Ext E E') (hp:∀nm k v,Rel E (.ptr nm k) v->Rel E' (view lend H (.ptr nm k)) v) (hv:∀nm k v,Rel E (.ref nm k) v->Rel E' (view lend H (.ref nm k)) v) (hu:∀nm k i v,Rel E (.subp nm k i) v->Rel E' (view lend H (.subp nm k i)) v) (hm:∀nm v,Rel E (.mp nm) v->Rel E' (view lend H (.mp nm)) v):∀ {l:List SV} {vs:List Value},RelL E l vs->RelL E' (l.map (view lend H)) vs
 | _,_,.nil=>.nil
 | _,_,.cons _ _ _ _ h hl=>.cons _ _ _ _ (Dq x hp hv hu hm h) (rL x hp hv hu hm hl)
theorem Ny {E E':Env} {lend:Bool} (x:Ext E E') (hp:∀nm k v,Rel E (.ptr nm k) v->Rel E' (view lend H (.ptr nm k)) v) (hv:∀nm k v,Rel E (.ref nm k) v->Rel E' (view lend H (.ref nm k)) v) (hu:∀nm k i v,Rel E (.subp nm k i) v->Rel E' (view lend H (.subp nm k i)) v) (hm:∀nm v,Rel E (.mp nm) v->Rel E' (view lend H (.mp nm)) v):∀ {l:List SV} {vs:List Value},RelL E l vs->
  RelL E' (l.map fun s=>match s with
   | .agg l=>.agg (l.map (view lend H))
   | s=>view lend H s) vs
 | _,_,.nil=>.nil
 | _,_,.cons s v l vs h hl=>by
  refine .cons _ _ _ _ ?_ (Ny x hp hv hu hm hl);cases s with
  | agg l=>cases h with
   | agg _ vs hl=>exact .agg _ _ (rL x hp hv hu hm hl)
  | _=>exact Dq x hp hv hu hm h
theorem Nz {E E':Env} {lend:Bool} (x:Ext E E') (hp:∀nm k v,Rel E (.ptr nm k) v->Rel E' (view lend H (.ptr nm k)) v) (hv:∀nm k v,Rel E (.ref nm k) v->Rel E' (view lend H (.ref nm k)) v) (hu:∀nm k i v,Rel E (.subp nm k i) v->Rel E' (view lend H (.subp nm k i)) v) (hm:∀nm v,Rel E (.mp nm) v->Rel E' (view lend H (.mp nm)) v) {s:SV} {v:Value} (h:Rel E s v):Rel E' (Je lend H s) v:=by
 cases h with
 | ref nm k v hn h0 hk h=>exact hv nm k v (.ref nm k v hn h0 hk h)
 | ptr nm off v hn h=>exact hp nm off v (.ptr nm off v hn h)
 | agg l vs hl=>exact .agg _ _ (rL x hp hv hu hm hl)
 | tup l vs hl=>exact .tup _ _ (Ny x hp hv hu hm hl)
 | any=>exact .any v
 | val _ h=>exact .val v h
 | bl p d=>exact .bl p d
 | str s h=>exact .str s h
 | seq t xs v h=>exact (Rel.seq t xs v h).ext x
 | lit es n b off l vs hl hn hok hr=>exact (Rel.lit es n b off l vs hl hn hok hr).ext x
 | elem t xs i o b off es hi hok hr h=>exact (Rel.elem t xs i o b off es hi hok hr h).ext x
 | lelem l i b off vs hl hok hr=>exact (Rel.lelem l i b off vs hl hok hr).ext x
 | wcel n b e hw hok hr=>exact (Rel.wcel n b e hw hok hr).ext x
 | fmp ks l b c es hok hb hk hl=>exact (Rel.fmp ks l b c es hok hb hk hl).ext x
 | vptr nm k i z o v hn h0 hk h=>exact (Rel.vptr nm k i z o v hn h0 hk h).ext x
 | wide nm k v hn h0 hk h=>exact (Rel.wide nm k v hn h0 hk h).ext x
 | clo f a b va vb ha hb=>exact .clo f _ _ _ _ (rL x hp hv hu hm ha) (rL x hp hv hu hm hb)
 | yld l h=>rw[<- x.itr] at h ⊢;exact .yld l h
 | sft i _ h hv=>exact (Rel.sft i v h hv).ext x
 | mp nm v hn h=>exact hm nm v (.mp nm v hn h)
 | sub nm k s i v hn h0 hk hs h=>exact (Rel.sub nm k s i v hn h0 hk hs h).ext x
 | subp nm k s v hn h0 hk hs h=>exact hu nm k s v (.subp nm k s v hn h0 hk hs h)
 | part nm k i j z v hn h0 hk h=>exact (Rel.part nm k i j z v hn h0 hk h).ext x
 | lim nm k i z v hn h0 hk h=>exact (Rel.lim nm k i z v hn h0 hk h).ext x
 | ifc v h=>exact .ifc v h
theorem uJ {E E':Env} {lend:Bool} (x:Ext E E') (hp:∀nm k v,Rel E (.ptr nm k) v->Rel E' (view lend H (.ptr nm k)) v) (hv:∀nm k v,Rel E (.ref nm k) v->Rel E' (view lend H (.ref nm k)) v) (hu:∀nm k i v,Rel E (.subp nm k i) v->Rel E' (view lend H (.subp nm k i)) v) (hm:∀nm v,Rel E (.mp nm) v->Rel E' (view lend H (.mp nm)) v):∀ {l:List SV} {vs:List Value},RelL E l vs->RelL E' (l.map (Je lend H)) vs
 | _,_,.nil=>.nil
 | _,_,.cons _ _ _ _ h hl=>.cons _ _ _ _ (Nz x hp hv hu hm h) (uJ x hp hv hu hm hl)
theorem aCc (hI:Inv G H loc ver w) {nm v:Nat} {t:Ty} {xs:List t.T} {e:TypeId} (ho:hget H nm= .vec v t xs e):
  Inv G (hset H nm (.fro v t xs)) loc ver w/\Ext (envOf G H loc ver w) (envOf G (hset H nm (.fro v t xs)) loc ver w):=by
 have hn':=aX ho si;have hlt:nm<H.length:=(aL.1 hn').1;refine hI.turn nm (by simp[hset]) (fun k hk=>⟨bZ hk,rfl,rfl⟩) (fun _=>eM (aQ hlt) rfl) (fun _=>.inl ⟨rfl,rfl,.inl rfl⟩) (aN _) rfl rfl rfl (by rw[hn'];intro h;cases h) (fun _=>by first | rw[show hset H nm _=H.set nm _ from rfl,aQ hlt];intro h;cases h | rw[show hset H 0 _=H.set 0 _ from rfl,aQ hlt];intro h;cases h)
  (fun st n it b h=>by rw[show hset H nm (.fro v t xs)=H.set nm _ from rfl,aQ hlt] at h;cases h) (fun _ _ _=>rfl) ?_ ?_
 ·intro o' b ho' hb;rw[show hset H nm (.fro v t xs)=H.set nm _ from rfl,aQ hlt] at ho';cases ho';cases hb
 intro hx o' ho';rw[show hset H nm (.fro v t xs)=H.set nm _ from rfl,aQ hlt] at ho';cases ho';have hO:=hI.objs nm _ hn';refine ⟨hO.1,hO.2.1,Ao (E:=envOf G H loc ver w) (ok:=okN G (hset H nm (.fro v t xs)) loc w) hO hx.ok fun b hb=>?_⟩;have hown:Owned H loc b:=⟨nm,_,hn',hb⟩;refine ⟨?_,hO.block (b:=b) hb,?_⟩
 ·rcases hI.own b hown with h | h
  ·exact .inr (.inl h)
  exact .inr (.inr h)
 rintro ⟨k,o,hk,hbk⟩;by_cases ek:k=nm
 ·subst ek;rw[show hset H k (.fro v t xs)=H.set k _ from rfl,aQ hlt] at hk;cases hk;cases hbk
 rw[show hset H nm (.fro v t xs)=H.set nm _ from rfl,bZ ek] at hk;exact ek (hI.sep _ _ _ _ b hk hn' hbk hb)
theorem Ext.trans {A B C:Env} (h:Ext A B) (k:Ext B C):Ext A C:=by
 refine ⟨⟨fun b ho=>(k.blk b (h.ok b ho)).trans (h.blk b ho),fun b hb=>k.ok b (h.ok b hb),fun nm hn=>k.num nm (h.num nm hn),fun nm hn=>?_,k.os.trans h.os,k.tape.trans h.tape,k.output.trans h.output,bL h.size k.size,
  fun b hb=>?_,k.itr.trans h.itr,fun nm hn he=>?_⟩,fun i o hna hi ho=>k.keep i o (fun hb=>?_) (h.keep i o hna hi ho) ho,fun nm b hb=>?_,fun nm b hn hb=>h.gho' nm b hn (k.gho' nm b (h.num nm hn) hb)⟩
 ·rcases h.ver nm hn with ⟨e1,e2⟩ | ⟨e1,e2⟩
  ·rcases k.ver nm (h.num nm hn) with ⟨e3,e4⟩ | ⟨e3,e4⟩
   ·exact .inl ⟨e3.trans e1,e4.trans e2⟩
   exact .inr ⟨om,om⟩
  rcases k.ver nm (h.num nm hn) with ⟨e3,e4⟩ | ⟨e3,e4⟩
  ·exact .inr ⟨e1,om⟩
  exact .inr ⟨e1,om⟩
 ·rcases k.ali b hb with h1 | h1
  ·exact h.ali b h1
  exact .inr (bL h.size h1)
 ·have h1:=h.ver nm hn;have h2:=k.ver nm (h.num nm hn);have e1:B.ver nm=A.ver nm:=by
   rcases h1 with ⟨q1,_⟩ | ⟨q1,q2⟩
   ·exact q1
   rcases h2 with ⟨q3,_⟩ | ⟨q3,q4⟩<;>omega
  rcases h.sub nm hn e1 with q1 | q1
  ·rcases k.sub nm (h.num nm hn) om with q2 | q2
   ·exact .inl (q2.trans q1)
   rw[q1] at q2;exact .inr q2
  rcases k.sub nm (h.num nm hn) om with q2 | q2
  ·rw[q2];exact .inr q1
  exact .inr (fM q1 q2)
 ·rcases h.ali i hb with h1 | h1
  ·exact hna h1
  have:=(aF.1 hi).1;omega
 obtain ⟨h1,h2⟩:=h.gho nm b hb;obtain ⟨h3,h4⟩:=k.gho nm b h1;exact ⟨h3,h4.trans h2⟩
theorem uK:∀(l:List SV) {H:List HO},Inv G H loc ver w->Inv G (frzR H l) loc ver w/\Ext (envOf G H loc ver w) (envOf G (frzR H l) loc ver w)
 | [],H,hI=>⟨hI,Ext.refl _⟩
 | s::r,H,hI=>by
  cases s with
  | ref nm k=>
   simp only[frzR];cases ho:hget H nm with
   | vec j t xs e=>
    simp only;cases Nat.beq j k with
    | false=>exact uK r hI
    | true=>
     obtain ⟨h1,h2⟩:=aCc hI ho;obtain ⟨h3,h4⟩:=uK r h1;exact ⟨h3,h2.trans h4⟩
   | _=>exact uK r hI
  | _=>exact uK r hI
theorem uL:∀(l:List SV) (H:List HO) {nm:Nat} {c:List SV} {e:TypeId},hget H nm= .cells c e->hget (frzR H l) nm= .cells c e
 | [],H,nm,c,e,h=>h
 | s::r,H,nm,c,e,h=>by
  cases s with
  | ref m k=>
   simp only[frzR];cases ho:hget H m with
   | vec j t xs e'=>
    simp only;cases Nat.beq j k with
    | false=>exact uL r H h
    | true=>
     refine uL r _ ?_;have hne:nm≠m:=by rintro rfl;rw[h] at ho;cases ho
     simp only[hget,hset,aB] at h ⊢;rw[eP];rw[aC (Ne.symm hne)];exact h
   | _=>exact uL r H h
  | _=>exact uL r H h
theorem aJt (hI:Inv G H loc ver w) {nm:Nat} {l l':List SV} {e:TypeId} (ho:hget H nm= .cells l e) (hl:∀vs,RelL (envOf G H loc ver w) l vs->RelL (envOf G H loc ver w) l' vs) (hb:bare.bareL l'=true):
  Inv G (hset H nm (.frc l')) loc ver w/\Ext (envOf G H loc ver w) (envOf G (hset H nm (.frc l')) loc ver w):=by
 have hn':=aX ho si;have hlt:nm<H.length:=(aL.1 hn').1;refine hI.turn nm (by simp[hset]) (fun k hk=>⟨bZ hk,rfl,rfl⟩) (fun _=>eM (aQ hlt) rfl) (fun _=>.inl ⟨rfl,rfl,.inl rfl⟩) (aN _) rfl rfl rfl (by rw[hn'];intro h;cases h) (fun _=>by first | rw[show hset H nm _=H.set nm _ from rfl,aQ hlt];intro h;cases h | rw[show hset H 0 _=H.set 0 _ from rfl,aQ hlt];intro h;cases h)
  (fun st n it b h=>by rw[show hset H nm (.frc l')=H.set nm _ from rfl,aQ hlt] at h;cases h) (fun _ _ _=>rfl) ?_ ?_
 ·intro o' b ho' hb;rw[show hset H nm (.frc l')=H.set nm _ from rfl,aQ hlt] at ho';cases ho';cases hb
 intro hx o' ho';rw[show hset H nm (.frc l')=H.set nm _ from rfl,aQ hlt] at ho';cases ho';have hO:=hI.objs nm _ hn';obtain ⟨h0,b,vs,h1,h2,h3⟩:=hO;have hbo:Owns (loc nm) (.cells l e) b:=by simp[Owns,h1]
 refine ⟨h0,b,vs,e,h1,⟨?_,(aF.1 h2).1,?_⟩,h2,(hl vs h3).ext hx⟩
 ·rcases hI.own b ⟨nm,_,hn',hbo⟩ with h | h
  ·exact .inr (.inl h)
  exact .inr (.inr h)
 rintro ⟨k,o,hk,hbk⟩;by_cases ek:k=nm
 ·subst ek;rw[show hset H k (.frc l')=H.set k _ from rfl,aQ hlt] at hk;cases hk;cases hbk
 rw[show hset H nm (.frc l')=H.set nm _ from rfl,bZ ek] at hk;exact ek (hI.sep _ _ _ _ b hk hn' hbk hbo)
theorem aJu (hI:Inv G H loc ver w) {nm:Nat} {ks:List (Int × Int)} {l:List SV} (ho:hget H nm= .qm ks l):
  Inv G (hset H nm (.frm ks l)) loc ver w/\Ext (envOf G H loc ver w) (envOf G (hset H nm (.frm ks l)) loc ver w):=by
 have hn':=aX ho si;have hlt:nm<H.length:=(aL.1 hn').1;refine hI.turn nm (by simp[hset]) (fun k hk=>⟨bZ hk,rfl,rfl⟩) (fun _=>eM (aQ hlt) rfl) (fun _=>.inl ⟨rfl,rfl,.inl rfl⟩) (aN _) rfl rfl rfl (by rw[hn'];intro h;cases h) (fun _=>by rw[show hset H nm _=H.set nm _ from rfl,aQ hlt];intro h;cases h)
  (fun st n it b h=>by rw[show hset H nm (.frm ks l)=H.set nm _ from rfl,aQ hlt] at h;cases h) (fun _ _ _=>rfl) ?_ ?_
 ·intro o' b ho' hb;rw[show hset H nm (.frm ks l)=H.set nm _ from rfl,aQ hlt] at ho';cases ho';cases hb
 intro hx o' ho';rw[show hset H nm (.frm ks l)=H.set nm _ from rfl,aQ hlt] at ho';cases ho';have hO:=hI.objs nm _ hn';obtain ⟨h0,hmx,hbr,b,es,c,h1,h2,h3,h4⟩:=hO;have hbo:Owns (loc nm) (.qm ks l) b:=by simp[Owns,h1]
 refine ⟨h0,hbr,b,es,c,h1,⟨?_,(aF.1 h2).1,?_⟩,h2,h3.keys,h4.ext hx⟩
 ·rcases hI.own b ⟨nm,_,hn',hbo⟩ with h | h
  ·exact .inr (.inl h)
  exact .inr (.inr h)
 rintro ⟨k,o,hk,hbk⟩;by_cases ek:k=nm
 ·subst ek;rw[show hset H k (.frm ks l)=H.set k _ from rfl,aQ hlt] at hk;cases hk;cases hbk
 rw[show hset H nm (.frm ks l)=H.set nm _ from rfl,bZ ek] at hk;exact ek (hI.sep _ _ _ _ b hk hn' hbk hbo)
theorem Ck (s:SV) (hI:Inv G H loc ver w):Inv G (frz1 H s) loc ver w/\Ext (envOf G H loc ver w) (envOf G (frz1 H s) loc ver w):=by
 cases s with
 | ref nm k=>
  simp only[frz1];cases ho:hget H nm with
  | vec j t xs e=>
   simp only;cases Nat.beq j k with
   | false=>exact ⟨hI,Ext.refl _⟩
   | true=>exact aCc hI ho
  | _=>exact ⟨hI,Ext.refl _⟩
 | ptr nm k=>
  simp only[frz1];cases ho:hget H nm with
  | cells l e=>
   simp only;cases hb:bare.bareL (l.map (view false (frzR H l))) with
   | false=>exact ⟨hI,Ext.refl _⟩
   | true=>
    obtain ⟨h1,h2⟩:=uK l hI;obtain ⟨h3,h4⟩:=aJt h1 (uL l H ho) (fun vs h=>rL (Ext.refl _) (fun _ _ _ h=>zD h1 h) (fun nm k v h=>nZ h1 h) (fun nm k i v _=>oW nm k i v) (fun nm v h=>tD h1 (Ext.refl _) (.inl rfl) h) h) hb;exact ⟨h3,h2.trans h4⟩
  | _=>exact ⟨hI,Ext.refl _⟩
 | mp nm=>
  simp only[frz1];cases ho:hget H nm with
  | qm ks l=>exact aJu hI ho
  | _=>exact ⟨hI,Ext.refl _⟩
 | _=>exact ⟨hI,Ext.refl _⟩
theorem tS:∀(l:List SV) {H:List HO},Inv G H loc ver w->Inv G (frz H l) loc ver w/\Ext (envOf G H loc ver w) (envOf G (frz H l) loc ver w)
 | [],H,hI=>⟨hI,Ext.refl _⟩
 | s::r,H,hI=>by
  obtain ⟨h1,h2⟩:=Ck s hI;obtain ⟨h3,h4⟩:=tS r h1;exact ⟨h3,h2.trans h4⟩
theorem sF:∀(l:List SV) {H:List HO},Inv G H loc ver w->Inv G (jF H l) loc ver w/\Ext (envOf G H loc ver w) (envOf G (jF H l) loc ver w)
 | [],H,hI=>⟨hI,Ext.refl _⟩
 | s::r,H,hI=>by
  have gen:∀ {H1:List HO},Inv G H1 loc ver w/\Ext (envOf G H loc ver w) (envOf G H1 loc ver w)->Inv G (jF H1 r) loc ver w/\Ext (envOf G H loc ver w) (envOf G (jF H1 r) loc ver w):=fun ⟨h1,h2⟩=>
   let ⟨h3,h4⟩:=sF r h1
   ⟨h3,h2.trans h4⟩
  cases s with
  | agg l=>exact gen (tS l hI)
  | tup l=>exact gen (tS l hI)
  | clo f a b=>
   obtain ⟨h1,h2⟩:=tS a hI;obtain ⟨h3,h4⟩:=tS b h1;exact gen ⟨h3,h2.trans h4⟩
  | _=>exact gen (Ck _ hI)
theorem Fk {Γ:List Con} {f:FuncId} {c:Con} (h:Db Γ f=some c):c∈Γ/\c.f=f:=by
 induction Γ with
 | nil=>cases h
 | cons x r ih=>
  simp only[Db] at h;cases hb:Nat.beq x.f f with
  | true=>rw[hb] at h;cases h;exact ⟨bW ..,bK.1 hb⟩
  | false=>rw[hb] at h;obtain ⟨h1,h2⟩:=ih h;exact ⟨bP _ h1,h2⟩
def envX (G:Ctx) (H:List HO) (loc:Nat->Loc) (ver:Nat->Nat) (w:World) (L:Loc):Env:=⟨w,fun b=>b<w.heap.size/\L.blk.map (·.1)≠some b,hasB H,loc,ver,ghoN H loc,aliN H loc,G.itr⟩
mutual
theorem Rel.plain {E E':Env} {s:SV} {v:Value} (h:Rel E s v) (hp:Eng.plain s=true):Rel E' s v:=by
 cases h with
 | val _ h=>exact .val v h
 | bl p d=>exact .bl p d
 | str s h=>exact .str s h
 | ifc _ h=>exact .ifc v h
 | agg l vs hl=>exact .agg l vs (hl.plain (by simpa [Eng.plain] using hp))
 | tup l vs hl=>exact .tup l vs (hl.plain (by simpa [Eng.plain] using hp))
 | _=>simp[Eng.plain] at hp
theorem RelL.plain {E E':Env} {l:List SV} {vs:List Value} (h:RelL E l vs) (hp:Eng.plain.plainL l=true):RelL E' l vs:=by
 cases h with
 | nil=>exact .nil
 | cons s v l vs h hl=>
  simp only[Eng.plain.plainL,aE] at hp;exact .cons s v l vs (h.plain hp.1) (hl.plain hp.2)
end
theorem Ux (hY:COK P G) (hI:Inv G H loc ver w) {f:FuncId} {pos:Nat} {same:Bool} {cl:List SV->HO->(SV->HO->Prop)->Prop} {args:List SV} {vs:List Value} {K:SV->List HO->Prop} (hc:aCb P f pos same cl)
  (h:aGg pos same cl args H K) (hr:RelL (envOf G H loc ver w) args vs):Calls P f ⟨vs⟩ w fun e w'=>∃v,e= .returned v/\Res G (envOf G H loc ver w) K v w':=by
 unfold aGg at h;split at h;case h_2=>cases h
 rename_i nm k hpos;split at h;case h_2=>cases h
 rename_i j t xs e ho;have h':=bA h;clear h;obtain ⟨hb,h⟩:=h';simp only[aE,bK] at hb;obtain ⟨rfl,hfl⟩:=hb;simp only[lU] at h;have h':=bA h;clear h;obtain ⟨hbare,h⟩:=h';obtain ⟨r,ys,hk,htri⟩:=hc _ t xs e _ hfl h;rw[jR] at hk;simp only[gU,bR,dite_true] at hk;rw[Dc] at hk;simp only[bY] at hk;have hn:=aX ho si;have hlt:nm<H.length:=(aL.1 hn).1;have hO:=hI.objs nm _ hn;have hO':=hO;obtain ⟨hv,hj0,hlen,hmax,rs,hown,hel⟩:=hO;have hv:ver nm=j:=hv
 -- the argument that is turned
 have hplt:pos<args.length:=aH fun hc=>by
  rw[aB,cG om] at hpos;cases hpos
 have hrp:=hr.get pos hplt;rw[hpos] at hrp;have hvp:vs.getD pos undef=(loc nm).head:=by
  generalize vs.getD pos undef=q at hrp;cases hrp with
  | ref _ _ _ _ _ _ hh=>exact hh hv.symm
 have hvlt:pos<vs.length:=by rw[<- hr.length];exact hplt
 have hvs:vs[pos]? =some (loc nm).head:=by
  rw[aB,aM hvlt,oJ] at hvp;rw[aM hvlt,hvp]
 -- the others, as they are lent
 have hsetA:RelL (envOf G H loc ver w) (args.set pos .any) vs:=by
  have:=hr.set pos (.any (vs.getD pos undef))
  rwa [show vs.set pos (vs.getD pos undef)=vs from by
   rw[aB,aM hvlt,oJ];exact rG hvlt] at this
 have hblk0:∀b,(loc nm).blk.map (·.1)=some b->b<w.heap.size:=fun b hb=>hO'.block (b:=b) hb;have hokX:∀b,okN G H loc w b->b<w.heap.size/\(loc nm).blk.map (·.1)≠some b:=fun b hb=>⟨hb.2.1,fun e1=>hb.2.2 ⟨nm,_,hn,e1⟩⟩;have xX:Ext (envOf G H loc ver w) (envX G H loc ver w (loc nm)):=⟨⟨fun _ _=>rfl,hokX,fun _ h=>h,fun _ _=>.inl ⟨rfl,rfl⟩,rfl,rfl,rfl,aN _,fun _ h=>.inl h,rfl,fun _ _ _=>.inl rfl⟩,fun _ _ _ h _=>h,fun _ _ h=>⟨h,rfl⟩,fun _ _ _ h=>h⟩;have hdead:hget (hset H nm .dead) nm= .dead:=by simp[hget,hset,aB,hlt]
 have hoth:∀m,m≠nm->hget (hset H nm .dead) m=hget H m:=fun m hm=>by
  simp only[hget,hset,aB];rw[bZ hm]
 have hrefX:∀m k v,Rel (envOf G H loc ver w) (.ref m k) v->Rel (envX G H loc ver w (loc nm)) (view true (hset H nm .dead) (.ref m k)) v:=by
  intro m k v hm;by_cases em:m=nm
  ·subst em;simp only[view,hdead];exact .any v
  simp only[view,hoth m em];cases hm with
  | ref _ _ _ hn' hk0 hk' hv'=>
   cases ho':hget H m with
   | vec j' t' xs' e'=>
    simp only[mX];cases hb:Nat.beq j' k with
    | false=>exact .any v
    | true=>
     obtain rfl:=bK.1 hb;have hm':=aX ho' si;have hO₁:=hI.objs m _ hm';have:=hv' hO₁.1.symm;subst this;refine .seq t' xs' _ (Ao (E:=envOf G H loc ver w) (ok:=fun b=>b<w.heap.size/\(loc nm).blk.map (·.1)≠some b) hO₁ hokX fun b hb=>⟨hO₁.block (b:=b) hb,fun e1=>em (hI.sep _ _ _ _ b hm' hn hb e1)⟩)
   | fro j' t' xs'=>
    simp only;cases hb:Nat.beq j' k with
    | false=>exact .any v
    | true=>
     obtain rfl:=bK.1 hb;have hO₁:=hI.objs m _ (aX ho' si);have:=hv' hO₁.1.symm;subst this;exact .seq t' xs' _ (hO₁.2.2.mono (fun _ _ _ h=>h) hokX)
   | _=>exact .any v
 have hptrX:∀m k v,Rel (envOf G H loc ver w) (.ptr m k) v->Rel (envX G H loc ver w (loc nm)) (view true (hset H nm .dead) (.ptr m k)) v:=by
  intro m k v hm;by_cases em:m=nm
  ·subst em;simp only[view,hdead];exact hm.ext xX
  exact sE hI xX rfl hm (hoth m em) (fun b l e' ho' hb=>by
   have hm':=aX ho' si
   exact ⟨(hI.objs m _ hm').block (b:=b) hb,fun e1=>em (hI.sep _ _ _ _ b hm' hn hb e1)⟩) hrefX
 have hsubX:∀m k i v,Rel (envOf G H loc ver w) (.subp m k i) v->Rel (envX G H loc ver w (loc nm)) (view true (hset H nm .dead) (.subp m k i)) v:=by
  intro m k i v hm;by_cases em:m=nm
  ·subst em;exact nJ hI rfl hm (.inr hdead) fun b k t xs ho _=>by
    have:=aX ho si;rw[hn] at this;cases this
  exact nJ hI rfl hm (.inl (hoth m em)) fun b k t xs ho hb=>by
   have hm':=aX ho si;exact ⟨(hI.objs m _ hm').block (b:=b) hb,fun e1=>em (hI.sep _ _ _ _ b hm' hn hb e1)⟩
 have hargs:=uJ (H:=hset H nm .dead) (lend:=true) xX hptrX hrefX hsubX (fun m v h=>tD hI xX (by by_cases em:m=nm;(· subst em;exact .inr hdead);exact .inl (hoth m em)) h) hsetA;have hargs0:=RelL.bare (E:=envX G H loc ver w (loc nm)) (E':=env0 w fun b=>b<w.heap.size/\(loc nm).blk.map (·.1)≠some b) (fun _ _ _ h _=>h) (fun _ h=>h) hargs hbare;refine (htri _ w vs (loc nm) ((hY.now hI).move (fun b hb _=>⟨hb.2.1,fun e=>hb.2.2 ⟨_,_,hn,e⟩⟩) fun _ _=>rfl) (fun _ h=>h) hblk0 ⟨hlen,hmax,rs,hown,fun i hi=>Reads.flatJ hfl (hel i hi)⟩ hargs0 hvs).mono ?_;rintro en w' ⟨v,L',rfl,⟨p1,p2,p3,p4,p5⟩,p6,p7,⟨q1,q2,rs',q3,q4⟩,q5⟩;have ht:=hI.turn (w':=w') (H':=hset H nm (.vec (bif same then j else j+1) t ys e)) (loc':=upd loc nm L') (ver':=upd ver nm (bif same then j else j+1)) nm (by simp[hset]) (fun k hk=>⟨bZ hk,cW _ _ _ hk,cW _ _ _ hk⟩)
  (fun _=>eM (aQ hlt) rfl) (fun _=>by
   rw[aW,aW];cases same with
   | true=>exact .inl ⟨hv.symm,aP _ (p6 rfl),.inl (aP _ (p6 rfl))⟩
   | false=>exact .inr ⟨om,by simp only[cD];omega⟩)
  p4 p1 p2 p3 (by rw[hn];intro h;cases h) (fun _=>by rw[show hset H nm _=H.set nm _ from rfl,aQ hlt];intro h;cases h)
  (fun st n it b h=>by rw[show hset H nm _=H.set nm _ from rfl,aQ hlt] at h;cases h)
  (fun b hb hne=>p5 b hb fun e1=>hne _ hn e1)
  (by
   intro o' b ho' hb;rw[show hset H nm _=H.set nm _ from rfl,aQ hlt] at ho';cases ho';rw[aW] at hb;rcases p7 b hb with h | h
   ·exact .inl ⟨_,hn,h⟩
   exact .inr h)
  (by
   intro hx' o' ho';rw[show hset H nm _=H.set nm _ from rfl,aQ hlt] at ho';cases ho';rw[aW,aW]
   exact ⟨rfl,by cases same<;>simp only[bR,cD]<;>omega,q1,q2,rs',q3,fun i hi=>Reads.flatJ hfl (q4 i hi)⟩)
 refine ⟨v,rfl,?_⟩;rcases q5 with ⟨rfl,rfl⟩ | ⟨hp,hrel⟩
 ·refine ⟨_,_,_,_,hk,ht.1,?_,ht.2⟩;refine .ref _ _ _ (by exact eM (aQ hlt) rfl) (by cases same<;>simp only[bR,cD]<;>omega) (by simp[envOf,aW]) fun _=>?_;simp[envOf,aW]
 have hk':K r (hset H nm (.vec (bif same then j else j+1) t ys e)):=by
  cases r with
  | ref a b=>simp[Eng.plain] at hp
  | _=>first | (simp[Eng.plain] at hp;done) | (simp only[hp,bR] at hk;exact hk) | exact hk
 exact ⟨r,_,_,_,hk',ht.1,hrel.plain hp,ht.2⟩
theorem Oa {w:World} {L:Loc} {E:Env} {n:Nat} (hn:E.has n=true) (hv:E.ver n=1) (hl:E.loc n=L) {s:SV} {v:Value} (h:Rel (envO w L) s v) (ho:okR1 s=true):Rel E (aBt n s) v:=by
 cases s with
 | ref a b=>
  have hab:a=0/\b=1:=by
   unfold okR1 at ho;split at ho
   ·rename_i heq;cases heq;exact ⟨rfl,rfl⟩
   simp[Eng.plain] at ho
  obtain ⟨rfl,rfl⟩:=hab;cases h with
  | ref _ _ _ _ _ _ hh=>exact .ref n 1 v hn Nat.one_pos om fun _=>by rw[hl];exact hh rfl
 | _=>exact h.plain (by simpa [okR1] using ho)
theorem Ob {w:World} {L:Loc} {E:Env} {n:Nat} (hn:E.has n=true) (hv:E.ver n=1) (hl:E.loc n=L):∀ {l:List SV} {vs:List Value},RelL (envO w L) l vs->l.all okR1=true->RelL E (l.map (aBt n)) vs
 | _,_,.nil,_=>.nil
 | _,_,.cons _ _ _ _ h hr,ho=>by
  simp only[List.all_cons,aE] at ho;exact .cons _ _ _ _ (Oa hn hv hl h ho.1) (Ob hn hv hl hr ho.2)
theorem Uy {w:World} {L:Loc} {E:Env} {n:Nat} (hn:E.has n=true) (hv:E.ver n=1) (hl:E.loc n=L) {s:SV} {v:Value} (h:Rel (envO w L) s v) (ho:okR s=true):Rel E (renm n s) v:=by
 cases s with
 | tup l=>
  cases h with
  | tup _ vs hr=>exact .tup _ _ (Ob hn hv hl hr (by simpa [okR] using ho))
 | _=>exact Oa hn hv hl h (by simpa [okR] using ho)
theorem Uz (hY:COK P G) (hI:Inv G H loc ver w) {f:FuncId} {cl:List SV->(SV->HO->Prop)->Prop} {args:List SV} {vs:List Value} {K:SV->List HO->Prop} (hc:aG2 P f cl)
  (h:aGh cl args H K) (hr:RelL (envOf G H loc ver w) args vs):Calls P f ⟨vs⟩ w fun e w'=>∃v,e= .returned v/\Res G (envOf G H loc ver w) K v w':=by
 unfold aGh at h;simp only[lU] at h;have h':=bA h;clear h;obtain ⟨hb,h⟩:=h';obtain ⟨r,k,t,ys,e,hk,htri⟩:=hc _ _ h;simp only[jR,bY] at hk;have hk':=bA hk;clear hk;obtain ⟨hb2,hk⟩:=hk';simp only[aE] at hb2;have htri:=htri hb2.1;have hargs:=uJ (H:=H) (lend:=true) (Dp (G:=G)) (fun _ _ _ h=>sE hI Dp rfl h rfl (fun b l e ho hb=>(hI.objs _ _ (aX ho si)).block (b:=b) hb) fun nm k v h=>jJ hI h) (fun nm k v h=>jJ hI h) (fun nm k i v h=>nJ hI rfl h (.inl rfl) fun b k t xs ho hb=>(hI.objs _ _ (aX ho si)).block (b:=b) hb) (fun nm v h=>tD hI Dp (.inl rfl) h) hr;have hargs0:=RelL.bare (E:=envL G H loc ver w) (E':=env0 w fun b=>b<w.heap.size) (fun _ _ _ h _=>h) (fun _ h=>h) hargs hb;refine (htri _ w vs ((hY.now hI).move (fun b hb _=>hb.2.1) fun _ _=>rfl) (fun _ h=>h) hargs0).mono ?_;rintro en w' ⟨v,L',rfl,hbel,hblk,⟨q1,q2,rs,q3,q4⟩,hrel⟩;have hf:=hI.fresh (w':=w') (.vec 1 t ys e) L' 1 hbel.size hbel.os hbel.tape hbel.output (fun b hb=>hbel.block b hb) (fun b hb=>hblk b hb)
  (fun hx=>⟨rfl,Nat.one_pos,q1,q2,rs,q3,fun i hi=>Reads.flatJ hb2.1 (q4 i hi)⟩)
 exact ⟨v,rfl,_,_,_,_,hk,hf.1,Uy (by exact lD rfl) (by simp[envOf,aW]) (by simp[envOf,aW]) hrel hb2.2,hf.2⟩
theorem Dr (hY:COK P G) {c:Con} (hcl:∀args K,c.cl args K->∃r,K r/\Tris P c.fresh c.f args r) (hI:Inv G H loc ver w) {args:List SV} {vs:List Value} {K:SV->List HO->Prop}
  (h:Ql c.fresh c.cl args H K) (hr:RelL (envOf G H loc ver w) args vs):Calls P c.f ⟨vs⟩ w fun e w'=>∃v,e= .returned v/\Res G (envOf G H loc ver w) K v w':=by
 unfold Ql at h;cases hfr:c.fresh with
 | true=>
  rw[hfr] at h;simp only[bR,lU] at h;obtain ⟨hb,h⟩:=bA h;obtain ⟨r,hk,htri⟩:=hcl _ _ h;rw[jR] at hk;obtain ⟨hbr,hk⟩:=bA hk;have htri:=htri.tri hbr;have hargs:=uJ (H:=H) (lend:=true) (Dp (G:=G)) (fun _ _ _ h=>sE hI Dp rfl h rfl (fun b l e ho hb=>(hI.objs _ _ (aX ho si)).block (b:=b) hb) fun nm k v h=>jJ hI h) (fun nm k v h=>jJ hI h) (fun nm k i v h=>nJ hI rfl h (.inl rfl) fun b k t xs ho hb=>(hI.objs _ _ (aX ho si)).block (b:=b) hb) (fun nm v h=>tD hI Dp (.inl rfl) h) hr;have hargs0:=RelL.bare (E:=envL G H loc ver w) (E':=env0 w fun b=>b<w.heap.size) (fun _ _ _ h _=>h) (fun _ h=>h) hargs hb;refine ((htri _ w vs ((hY.now hI).move (fun b hb _=>hb.2.1) fun _ _=>rfl) (fun _ h=>h) hargs0).mono ?_);rintro e w' ⟨v,rfl,hbel,hrel⟩;obtain ⟨hI',hx⟩:=hI.grow hbel;refine ⟨v,rfl,_,_,_,_,hk,hI',Rel.bare (E:=env0 w' _) (E':=envOf G H loc ver w') (fun _ _ _ h _=>h) (fun b hb=>?_) hrel hbr,hx⟩;rcases hb with ⟨h1,_⟩ | ⟨h1,h2⟩
  ·rw[hfr] at h1;cases h1
  refine ⟨.inr (.inr (bL hI.size h1)),h2,?_⟩;rintro ⟨nm,o,ho,hbo⟩;have:=(hI.objs nm o ho).block hbo;have:b<w.heap.size:=this;omega
 | false=>
  rw[hfr] at h;simp only[cD,bY,lU] at h;obtain ⟨hb,h⟩:=bA h;obtain ⟨r,hk,htri⟩:=hcl _ _ h;rw[jR] at hk;obtain ⟨hbr,hk⟩:=bA hk;have htri:=htri.tri hbr;obtain ⟨hI1,hx1⟩:=sF args hI;have hargs:=uJ (H:=jF H args) (lend:=false) (Ext.refl _) (fun _ _ _ h=>zD hI1 h) (fun nm k v h=>nZ hI1 h) (fun nm k i v _=>oW nm k i v) (fun nm v h=>tD hI1 (Ext.refl _) (.inl rfl) h) (hr.ext hx1);have hargs0:=RelL.bare (E:=envOf G (jF H args) loc ver w) (E':=env0 w (okN G (jF H args) loc w)) (fun _ _ _ h _=>h) (fun _ h=>h) hargs hb;refine ((htri _ w vs (hY.now hI1) (fun _ h=>h.2.1) hargs0).mono ?_);rintro e w' ⟨v,rfl,hbel,hrel⟩;obtain ⟨hI',hx⟩:=hI1.grow hbel;refine ⟨v,rfl,_,_,_,_,hk,hI',Rel.bare (E:=env0 w' _) (E':=envOf G (jF H args) loc ver w') (fun _ _ _ h _=>h) (fun b hb=>?_) hrel hbr,hx1.trans hx⟩;rcases hb with ⟨_,h1⟩ | ⟨h1,h2⟩
  ·exact hx.ok b h1
  refine ⟨.inr (.inr (bL hI.size h1)),h2,?_⟩;rintro ⟨nm,o,ho,hbo⟩;have:=(hI1.objs nm o ho).block hbo;have:b<w.heap.size:=this;omega
theorem Rg (hY:COK P G) {Γ:List Con} (hΓ:∀c∈Γ,aO P c) {F:Fence} (hF:Opn F) (hI:Inv G H loc ver w) {f:FuncId} {args:List SV} {vs:List Value} {K:SV->List HO->Prop}
  (h:Yl Γ f args H K) (hr:RelL (envOf G H loc ver w) args vs):
  xH P f/\∀n,CallsIn F n P f ⟨vs⟩ w fun e w'=>∃v,e= .returned v/\Res G (envOf G H loc ver w) K v w':=by
 unfold Yl at h;split at h;case h_2=>cases h
 rename_i c hc;obtain ⟨hmem,rfl⟩:=Fk hc;obtain ⟨hent,hcl,hlin,hown,hhp⟩:=hΓ c hmem;refine ⟨hent,fun n=>?_⟩;have wide:∀ {R:Ending->World->Prop},Calls P c.f ⟨vs⟩ w R->CallsIn F n P c.f ⟨vs⟩ w R:=hF.calls;split at h
 ·rename_i cl hl;obtain ⟨R,hR,htri⟩:=hhp cl hl _ _ _ h;refine wide ((htri G loc ver w vs hY hI hr).mono ?_);rintro e w' ⟨v,he,s,H',loc',ver',h1,h2⟩;have h3:=hR s H' h1;rw[jR,bY] at h3;exact ⟨v,he,s,H',loc',ver',h3,h2⟩
 ·rename_i pos same cl _ hl;cases hb:aMs (args.getD pos .any) with
  | true=>rw[hb] at h;exact wide (Ux hY hI (hlin pos same cl hl) h hr)
  | false=>rw[hb] at h;exact wide (Dr hY hcl hI h hr)
 ·rename_i cl _ hl hl2;exact wide (Uz hY hI (hown cl hl2) h hr)
 exact wide (Dr hY hcl hI h hr)
end
end Go.Eng
end
section
namespace Go.Eng
open Go.RowKit
section
variable {P:Program} {G:Ctx} {H:List HO} {loc:Nat->Loc} {ver:Nat->Nat} {w:World}
theorem xN (s:Bx):(⟨s.toArray⟩:ByteArray).toList=s:=by rw[ByteArray.toList_eq]
def RelO (E:Env):Option SV->Option Value->Prop
 | none,none=>True
 | some s,some v=>Rel E s v
 | _,_=>False
theorem Dy {E:Env} {N:Nat} {l:List (Nat × SV)} {a:Act} (hT:TRel E N l a) (o:Option Operand):RelO E (o.map (ev l)) (o.map a.eval):=by
 cases o with
 | none=>trivial
 | some x=>exact nI hT x
theorem tU {k:IntKind} {i:Int} {y:Nat} (code:BoundsCode) (h:0<=i/\i<=y):(Instr.sliceBound (.int k i) y code).run P w= .ok i.toNat w:=by
 simp[Instr.sliceBound,asIntOf,h.1,h.2,go_sem]
structure Cut (n:Nat) (lo hi:Option Value) (i j:Nat):Prop where
 lo:(lo=none/\i=0)\/∃k:IntKind,lo=some (.int k (i:Int))
 hi:(hi=none/\j=n)\/∃k:IntKind,hi=some (.int k (j:Int))
 le:i<=j
 len:j<=n
theorem Kz {b:Bool} {n c:Nat} {lo hi:Option Value} {i j:Nat} (h:Cut n lo hi i j) (hc:n<=c):(Instr.sliceBounds b n c lo hi none).run P w= .ok (i,j,c) w:=by
 obtain ⟨h1,h2,h3,h4⟩:=h;rcases h1 with ⟨rfl,rfl⟩ | ⟨k,rfl⟩<;>rcases h2 with ⟨rfl,rfl⟩ | ⟨k',rfl⟩
 ·simp[Instr.sliceBounds,go_sem]
 ·simp[Instr.sliceBounds,go_sem,tU (P:=P) (w:=w) (k:=k') (i:=(j:Int)) (y:=c) _ ⟨om,om⟩]
 ·simp[Instr.sliceBounds,go_sem,tU (P:=P) (w:=w) (k:=k) (i:=(i:Int)) (y:=j) _ ⟨om,om⟩]
 simp[Instr.sliceBounds,go_sem,tU (P:=P) (w:=w) (k:=k') (i:=(j:Int)) (y:=c) _ ⟨om,om⟩,tU (P:=P) (w:=w) (k:=k) (i:=(i:Int)) (y:=j) _ ⟨om,om⟩]
theorem wK {t e:TypeId} {sz:Nat} (hu:P.underlying t=some (.slice e)) (hs:jS P e=some sz) {a:Option Addr} {n c:Nat} {lo hi:Option Value} {i j:Nat} (h:Cut n lo hi i j) (hc:n<=c):
  (Instr.sliceAt t (.slice a n c) lo hi none).run P w= .ok (.slice (if c=i then a else a.map (·.add (i*sz))) (j-i) (c-i)) w:=by
 have hz:∀w',(sizeOf e).run P w'= .ok sz w':=by
  intro w';unfold jS at hs;cases hi:P.info? e with
  | none=>rw[hi] at hs;cases hs
  | some inf=>
   rw[hi] at hs;cases hs;simp[sizeOf,typeInfo,go_sem,hi]
 simp[Instr.sliceAt,Instr.slice,run_underlying hu,Kz (P:=P) (w:=w) h hc,hz,go_sem]
theorem aD9 {ok:Nat->Prop} {t:Ty} {xs:List t.T} {a:Option Addr} {n c i j:Nat} (h:Reads w ok (.slice t) xs [.slice a n c]) (h1:i<=j) (h2:j<=n):
  Reads w ok (.slice t) ((xs.take j).drop i) [.slice (if c=i then a else a.map (·.add (i*t.size))) (j-i) (c-i)]:=by
 obtain ⟨a',n',c',e,hn,hnc,hm,hall⟩:=h;cases e;have hn:n=List.length xs:=hn;refine ⟨_,j-i,c-i,rfl,?_,om,om,fun h0=>?_⟩
 ·show j-i=((xs.take j).drop i).length;simp;omega
 have hne:c≠i:=om;rw[aC hne];obtain ⟨b,off,rfl,hok,hel⟩:=hall om;refine ⟨b,off+i*t.size,?_,hok,fun q hq=>?_⟩
 ·simp only[jC];congr 1
  unfold Addr.add;split<;>simp_all
 obtain ⟨es,q1,q2,q3⟩:=hel (i+q) om;refine ⟨es,q1,?_,?_⟩
 ·have e1:off+i*t.size+q*t.size=off+(i+q)*t.size:=by rw[cL];omega
  rw[e1];exact q2
 have e2:List.getD (α:=t.T) ((xs.take j).drop i) q t.dflt=List.getD (α:=t.T) xs (i+q) t.dflt:=by
  have:i+q<j:=om;simp[aB,bD,aU,this]
 have:List.getD (α:=t.T) (List.drop i (List.take j xs)) q t.dflt=List.getD (α:=t.T) xs (i+q) t.dflt:=e2;rw[this];exact q3
theorem RelO.none {E:Env} {v:Option Value} (h:RelO E none v):v=Option.none:=by cases v with
 | none=>rfl
 | some v=>cases h
theorem RelO.int {E:Env} {k:IntKind} {n:Int} {v:Option Value} (h:RelO E (some (.val (.int k n))) v):v=some (.int k n):=by cases v with
 | none=>cases h
 | some v=>cases (show Rel E _ v from h);rfl
theorem La {E:Env} {t:Ty} {xs:List t.T} {lo hi:Option SV} {vlo vhi:Option Value} {K:SV->Prop} (h:vY t xs lo hi K) (hl:RelO E lo vlo) (hh:RelO E hi vhi):
  ∃i j,Cut xs.length vlo vhi i j/\K (.seq t ((xs.take j).drop i)):=by
 unfold vY at h;split at h
 ·exact ⟨0,xs.length,⟨.inl ⟨hl.none,rfl⟩,.inl ⟨hh.none,rfl⟩,aK _,aN _⟩,by simpa using h⟩
 ·rename_i k i;have e1:=hl.int;have e2:=hh.none;have hb:=h.ok;have hk:=h.go.use hb.1;refine ⟨i.toNat,xs.length,⟨.inr ⟨k,?_⟩,.inl ⟨e2,rfl⟩,om,aN _⟩,by simpa using hk⟩;rw[e1,bF hb.1]
 ·rename_i k j;have e1:=hl.none;have e2:=hh.int;have hb:=h.ok;have hk:=h.go.use hb.1;refine ⟨0,j.toNat,⟨.inl ⟨e1,rfl⟩,.inr ⟨k,?_⟩,aK _,om⟩,by simpa using hk⟩;rw[e2,bF hb.1]
 ·rename_i k i k' j;have e1:=hl.int;have e2:=hh.int;have hb:=h.ok;have hk:=(h.go.use hb.1).use om;refine ⟨i.toNat,j.toNat,⟨.inr ⟨k,?_⟩,.inr ⟨k',?_⟩,om,om⟩,hk⟩
  ·rw[e1,bF hb.1]
  rw[e2,bF om]
 cases h
theorem Lb {E:Env} {s:Bx} {lo hi:Option SV} {vlo vhi:Option Value} {K:SV->Prop} (h:Jo s lo hi K) (hl:RelO E lo vlo) (hh:RelO E hi vhi):
  ∃i j,Cut s.length vlo vhi i j/\K (.str ((s.take j).drop i)):=by
 unfold Jo at h;split at h
 ·exact ⟨0,s.length,⟨.inl ⟨hl.none,rfl⟩,.inl ⟨hh.none,rfl⟩,aK _,aN _⟩,by simpa using h⟩
 ·rename_i k i;have e1:=hl.int;have e2:=hh.none;have hb:=h.ok;have hk:=h.go.use hb.1;refine ⟨i.toNat,s.length,⟨.inr ⟨k,?_⟩,.inl ⟨e2,rfl⟩,om,aN _⟩,by simpa using hk⟩;rw[e1,bF hb.1]
 ·rename_i k j;have e1:=hl.none;have e2:=hh.int;have hb:=h.ok;have hk:=h.go.use hb.1;refine ⟨0,j.toNat,⟨.inl ⟨e1,rfl⟩,.inr ⟨k,?_⟩,aK _,om⟩,by simpa using hk⟩;rw[e2,bF hb.1]
 ·rename_i k i k' j;have e1:=hl.int;have e2:=hh.int;have hb:=h.ok;have hk:=(h.go.use hb.1).use om;refine ⟨i.toNat,j.toNat,⟨.inr ⟨k,?_⟩,.inr ⟨k',?_⟩,om,om⟩,hk⟩
  ·rw[e1,bF hb.1]
  rw[e2,bF om]
 cases h
theorem Rn {t e:TypeId} (hu:P.underlying t=some (.slice e)) {sz:Nat} (hs:jS P e=some sz) {E:Env} {ty:Ty} {xs:List ty.T} {x:Value} (hx:Rel E (.seq ty xs) x) (hsz:sz=ty.size) {lo hi:Option SV} {vlo vhi:Option Value} {K:SV->Prop}
  (h:vY ty xs lo hi K) (hl:RelO E lo vlo) (hh:RelO E hi vhi):∃v s,(Instr.sliceAt t x vlo vhi none).run P w= .ok v w/\K s/\Rel E s v:=by
 cases hx with
 | seq _ _ _ hr=>
  obtain ⟨i,j,hc,hk⟩:=La h hl hh;have hr':=hr;obtain ⟨a,n,c,e,hn,hnc,hm,_⟩:=hr';cases e;have hn:n=List.length xs:=hn;rw[<- hn] at hc;refine ⟨_,_,wK hu hs hc hnc,hk,.seq _ _ _ ?_⟩;rw[hsz];exact aD9 hr hc.le hc.len
theorem Zq (hI:Inv G H loc ver w) {nm v:Nat} {ty:Ty} {xs:List ty.T} {e':TypeId} (hso:H[nm]? =some (.vec v ty xs e')) (hlt:nm<H.length) {j:Nat} (hjl:j<=(loc nm).len):
  Inv G (hset H nm (.vec (v+1) ty (xs.take j) e')) (upd loc nm ⟨⟨(loc nm).blk,j,(loc nm).cap⟩,(loc nm).al,(loc nm).sub⟩) (upd ver nm (v+1)) w/\
  Ext (envOf G H loc ver w) (envOf G (hset H nm (.vec (v+1) ty (xs.take j) e')) (upd loc nm ⟨⟨(loc nm).blk,j,(loc nm).cap⟩,(loc nm).al,(loc nm).sub⟩) (upd ver nm (v+1)) w):=by
  have hO:=hI.objs nm _ hso;obtain ⟨hv,hv0,hlen,hmax,vs,hown,hel⟩:=hO;have hlen':(loc nm).len=List.length (α:=ty.T) xs:=hlen;have hn':H[nm]? =some (.vec v ty xs e'):=hso;have hne:∀o,H[nm]? =some o->o= .vec v ty xs e':=fun o ho=>by rw[hn'] at ho;cases ho;rfl
  exact hI.turn (w':=w) (H':=hset H nm (.vec (v+1) ty (xs.take j) e')) (loc':=upd loc nm ⟨⟨(loc nm).blk,j,(loc nm).cap⟩,(loc nm).al,(loc nm).sub⟩) (ver':=upd ver nm (v+1)) nm (by simp[hset]) (fun k hk=>⟨bZ hk,cW _ _ _ hk,cW _ _ _ hk⟩)
   (fun _=>eM (aQ hlt) rfl) (fun _=>.inr ⟨om,by rw[aW];omega⟩) (aN _) rfl rfl rfl (by rw[hn'];intro h;cases h) (fun _=>by rw[show hset H nm _=H.set nm _ from rfl,aQ hlt];intro h;cases h)
   (by
    intro st n it b hq
    rw[show hset H nm _=H.set nm _ from rfl,aQ hlt] at hq;cases hq)
   (fun _ _ _=>rfl)
   (by
    intro o' b ho' hb;rw[show hset H nm (.vec (v+1) ty (xs.take j) e')=H.set nm _ from rfl,aQ hlt] at ho';cases ho';rw[aW] at hb
    exact .inl ⟨_,hn',hb⟩)
   (by
    intro hx' o' ho';rw[show hset H nm (.vec (v+1) ty (xs.take j) e')=H.set nm _ from rfl,aQ hlt] at ho';cases ho';rw[aW,aW];refine ⟨rfl,mC _,?_,bL hjl hmax,vs.take (j*ty.size),?_,fun i hi=>?_⟩
    ·show j=(xs.take j).length;rw[aY];omega
    ·refine ⟨?_,?_⟩
     ·show (vs.take (j*ty.size)).length=j*ty.size;rw[aY,hown.1];exact eY (bQ _ hjl)
     rcases dJ hown with ⟨c1,c2,c3,_⟩ | ⟨g,cur,c1,c2,c3,c4,c5,c6,c7⟩
     ·left
      have:j=0:=om;subst this;simp[Core.head,c1,c2]
     right
     refine ⟨g,(loc nm).cap,cur,by simp[Core.head,c1],aK _,c3,by show j<= _;omega,c5,c6,?_⟩;show cur.toList.take (j*ty.size)= _;rw[<- c7,uY];congr 1
     exact (eY (bQ _ hjl)).symm
    have hi:i<j:=hi;have e1:List.getD (α:=ty.T) (xs.take j) i ty.dflt=List.getD (α:=ty.T) xs i ty.dflt:=by
     simp[aB,aU,hi]
    have e2:((vs.take (j*ty.size)).drop (i*ty.size)).take ty.size=(vs.drop (i*ty.size)).take ty.size:=by
     have hm:i*ty.size+ty.size<=j*ty.size:=by
      have:(i+1)*ty.size<=j*ty.size:=bQ _ hi;rwa [cL,iC] at this
     rw[zV,uY];congr 1
     omega
    have hrd:=(hel i (by show i<(loc nm).len;omega)).mono hx'.cell hx'.ok;show Reads _ _ ty (List.getD (α:=ty.T) (List.take j xs) i ty.dflt) _;rw[show List.getD (α:=ty.T) (List.take j xs) i ty.dflt=List.getD (α:=ty.T) xs i ty.dflt from e1,e2]
    exact hrd)
theorem Ro (hI:Inv G H loc ver w) {t e:TypeId} (hu:P.underlying t=some (.slice e)) {sz:Nat} (hs:jS P e=some sz) {nm k:Nat} {x:Value} {lo hi:Option SV} {vlo vhi:Option Value} {K:SV->List HO->Prop}
  (h:match lo,hi with
     | none,some (.val (.int _ j))=>(match hget H nm with
      | .vec v ty xs e'=>bif Nat.beq v k&&Nat.beq sz ty.size then Need (0<=j/\j<=xs.length) (Ix j fun j=>dA (hset H nm (.vec (v+1) ty (xs.take j) e')) fun H'=>K (.ref nm (v+1)) H') else False
      | _=>False)
     | _,_=>False)
  (hx:Rel (envOf G H loc ver w) (.ref nm k) x) (hl:RelO (envOf G H loc ver w) lo vlo) (hh:RelO (envOf G H loc ver w) hi vhi):
  ∃v,(Instr.sliceAt t x vlo vhi none).run P w= .ok v w/\Res G (envOf G H loc ver w) K v w:=by
 split at h;case h_2=>cases h
 rename_i k' j;have e1:=hl.none;have e2:=hh.int;subst e1 e2;split at h;case h_2=>cases h
 rename_i v ty xs e' ho;have h':=bA h;clear h;obtain ⟨hb,h⟩:=h';simp only[aE,bK] at hb;obtain ⟨hb1,hb2⟩:=hb;subst hb1;obtain ⟨⟨j0,j1⟩,h⟩:=h;have h:=h.use j0;rw[bY] at h;obtain ⟨j,rfl⟩:=bT j0;rw[aJ] at h;have hso:=aX ho si;have hO:=hI.objs nm _ hso;obtain ⟨hv,hv0,hlen,hmax,vs,hown,hel⟩:=hO;have hlen':(loc nm).len=xs.length:=hlen;have hjl:j<=(loc nm).len:=om;cases hx with
 | ref _ _ _ hn h0 hk hx=>
  have hx:=hx hv.symm;subst hx;have hcap:(loc nm).len<=(loc nm).cap:=by
   rcases dJ hown with ⟨_,c1,c2,_⟩ | ⟨g,cur,_,_,_,c3,_⟩<;>omega
  have hrun:=wK (P:=P) (w:=w) hu hs (a:=(loc nm).blk.map fun p=>(⟨p.1,p.2,none⟩:Addr)) (n:=(loc nm).len) (c:=(loc nm).cap) (lo:=none) (hi:=some (.int k' (j:Int))) (i:=0) (j:=j) ⟨.inl ⟨rfl,rfl⟩,.inr ⟨k',rfl⟩,aK _,hjl⟩ hcap;have ea:(if (loc nm).cap=0 then ((loc nm).blk.map fun p=>(⟨p.1,p.2,none⟩:Addr)) else ((loc nm).blk.map fun p=>(⟨p.1,p.2,none⟩:Addr)).map (·.add (0*sz)))=(loc nm).blk.map fun p=>(⟨p.1,p.2,none⟩:Addr):=by
   cases (loc nm).blk<;>simp[Addr.add]
  rw[ea] at hrun;have hlt:nm<H.length:=kM hn;have hf:=Zq hI hso hlt hjl;refine ⟨.slice ((loc nm).blk.map fun p=>(⟨p.1,p.2,none⟩:Addr)) j (loc nm).cap,by simpa [Core.head,envOf] using hrun,_,_,_,_,h,hf.1,?_,hf.2⟩;refine .ref _ _ _ (by exact eM (aQ hlt) rfl) (mC _) (by simp[envOf,aW]) fun _=>?_;simp[envOf,aW,Core.head]
theorem Vq {E:Env} {n:Nat} {lo hi:Option SV} {vlo vhi:Option Value} {K:Nat->Nat->Prop} (h:aBu n lo hi K) (hl:RelO E lo vlo) (hh:RelO E hi vhi):
  ∃i j,Cut n vlo vhi i j/\K i j:=by
 unfold aBu at h;split at h
 ·exact ⟨0,n,⟨.inl ⟨hl.none,rfl⟩,.inl ⟨hh.none,rfl⟩,aK _,aN _⟩,h⟩
 ·rename_i k i;have e1:=hl.int;have e2:=hh.none;have hb:=h.ok;have hk:=h.go.use hb.1;refine ⟨i.toNat,n,⟨.inr ⟨k,?_⟩,.inl ⟨e2,rfl⟩,om,aN _⟩,hk⟩;rw[e1,bF hb.1]
 ·rename_i k j;have e1:=hl.none;have e2:=hh.int;have hb:=h.ok;have hk:=h.go.use hb.1;refine ⟨0,j.toNat,⟨.inl ⟨e1,rfl⟩,.inr ⟨k,?_⟩,aK _,om⟩,hk⟩;rw[e2,bF hb.1]
 ·rename_i k i k' j;have e1:=hl.int;have e2:=hh.int;have hb:=h.ok;have hk:=(h.go.use hb.1).use om;refine ⟨i.toNat,j.toNat,⟨.inr ⟨k,?_⟩,.inr ⟨k',?_⟩,om,om⟩,hk⟩
  ·rw[e1,bF hb.1]
  rw[e2,bF om]
 cases h
theorem Zs (hI:Inv G H loc ver w) {t e:TypeId} (hu:P.underlying t=some (.slice e)) {sz:Nat} (hs:jS P e=some sz) {nm k:Nat} {x:Value} {lo hi:Option SV} {vlo vhi:Option Value} {K:SV->List HO->Prop}
  (h:match hget H nm with
      | .vec v ty xs _=>bif Nat.beq v k&&Nat.beq sz ty.size then aBu xs.length lo hi fun i j=>K (.part nm v i j sz) H else False
      | _=>False)
  (hx:Rel (envOf G H loc ver w) (.ref nm k) x) (hl:RelO (envOf G H loc ver w) lo vlo) (hh:RelO (envOf G H loc ver w) hi vhi):
  ∃v,(Instr.sliceAt t x vlo vhi none).run P w= .ok v w/\Res G (envOf G H loc ver w) K v w:=by
 split at h;case h_2=>cases h
 rename_i v ty xs e' ho;have h':=bA h;clear h;obtain ⟨hb,h⟩:=h';simp only[aE,bK] at hb;obtain ⟨hb1,hb2⟩:=hb;subst hb1;have hO:=hI.objs nm _ (aX ho si);obtain ⟨hv,hv0,hlen,hmax,vs,hown,hel⟩:=hO;have hlen':(loc nm).len=xs.length:=hlen;cases hx with
 | ref _ _ _ hn h0 hk hx=>
  have hx:=hx hv.symm;subst hx;have hcap:(loc nm).len<=(loc nm).cap:=by
   rcases dJ hown with ⟨_,c1,c2,_⟩ | ⟨g,cur,_,_,_,c3,_⟩<;>omega
  obtain ⟨i,j,hc,hK⟩:=Vq h hl hh;rw[<- hlen'] at hc;have hrun:=wK (P:=P) (w:=w) hu hs (a:=(loc nm).blk.map fun p=>(⟨p.1,p.2,none⟩:Addr)) (n:=(loc nm).len) (c:=(loc nm).cap) hc hcap;exact ⟨_,hrun,_,H,loc,ver,hK,hI,.part _ _ _ _ _ _ hn h0 hk fun _=>⟨hc.le,hc.len,rfl⟩,Ext.refl _⟩
theorem Vr {n c:Nat} {k k':IntKind} {a b:Nat} (h1:a<=b) (h2:b<=c):(Instr.sliceBounds true n c (some (.int k (a:Int))) (some (.int k' (b:Int))) none).run P w= .ok (a,b,c) w:=by
 simp[Instr.sliceBounds,go_sem,tU (P:=P) (w:=w) (k:=k') (i:=(b:Int)) (y:=c) _ ⟨om,om⟩,tU (P:=P) (w:=w) (k:=k) (i:=(a:Int)) (y:=b) _ ⟨om,om⟩]
theorem Zt {t e:TypeId} {sz:Nat} (hu:P.underlying t=some (.slice e)) (hs:jS P e=some sz) {ad:Option Addr} {n c:Nat} {k k':IntKind} {a b:Nat} (h1:a<=b) (h2:b<=c):
  (Instr.sliceAt t (.slice ad n c) (some (.int k (a:Int))) (some (.int k' (b:Int))) none).run P w= .ok (.slice (if c=a then ad else ad.map (·.add (a*sz))) (b-a) (c-a)) w:=by
 simp[Instr.sliceAt,Instr.slice,run_underlying hu,Vr (P:=P) (w:=w) h1 h2,jV hs,go_sem]
theorem Lc (hI:Inv G H loc ver w) {t:TypeId} {s:SV} {x:Value} {lo hi mx:Option SV} {vlo vhi vmx:Option Value} {K:SV->List HO->Prop} (h:Tw P t H s lo hi mx K) (hx:Rel (envOf G H loc ver w) s x)
  (hl:RelO (envOf G H loc ver w) lo vlo) (hh:RelO (envOf G H loc ver w) hi vhi) (hm:RelO (envOf G H loc ver w) mx vmx):
  ∃v,(Instr.sliceAt t x vlo vhi vmx).run P w= .ok v w/\Res G (envOf G H loc ver w) K v w:=False.elim h
theorem Na (hI:Inv G H loc ver w) {t:TypeId} {s:SV} {x:Value} {lo hi:Option SV} {vlo vhi:Option Value} {K:SV->List HO->Prop} (h:Qm P t H s lo hi K) (hx:Rel (envOf G H loc ver w) s x)
  (hl:RelO (envOf G H loc ver w) lo vlo) (hh:RelO (envOf G H loc ver w) hi vhi):
  ∃v,(Instr.sliceAt t x vlo vhi none).run P w= .ok v w/\Res G (envOf G H loc ver w) K v w:=by
 unfold Qm at h;split at h
 ·rename_i e hu;split at h
  ·rename_i sz hs;split at h
   ·rename_i ty xs;obtain ⟨hb,h⟩:=bA h;obtain ⟨v,s',h1,h2,h3⟩:=Rn (P:=P) (w:=w) hu hs hx (bK.1 hb) h hl hh;exact ⟨v,h1,s',H,loc,ver,h2,hI,h3,Ext.refl _⟩
   ·have e:x= .slice none 0 0:=by cases hx;rfl
    subst e;split at h
    ·rename_i k j;have e1:=hl.none;have e2:=hh.int;subst e1 e2;have hj:j=0:=by have:=h.ok;omega
     subst hj;refine ⟨.slice none 0 0,?_,_,H,loc,ver,h.go,hI,.val _ (by trivial),Ext.refl _⟩;have:=wK (P:=P) (w:=w) hu hs (a:=none) (n:=0) (c:=0) (lo:=none) (hi:=some (.int k ((0:Nat):Int))) (i:=0) (j:=0) ⟨.inl ⟨rfl,rfl⟩,.inr ⟨k,rfl⟩,aN _,aN _⟩ (aN _);simpa using this
    split at h
    ·rename_i ty hty;obtain ⟨hb,h⟩:=bA h;obtain ⟨v,s',h1,h2,h3⟩:=Rn (P:=P) (w:=w) hu hs (E:=envOf G H loc ver w) (xs:=([]:List ty.T)) (.seq _ _ _ (Aj _ _ _)) (bK.1 hb) h hl hh;exact ⟨v,h1,s',H,loc,ver,h2,hI,h3,Ext.refl _⟩
    cases h
   ·rename_i nm k j z;split at h;case h_2=>cases h
    rename_i v ty xs e' ho;have h':=bA h;clear h;obtain ⟨hb,h⟩:=h';simp only[aE,bK] at hb;obtain ⟨rfl,hb2,rfl⟩:=hb;unfold aBv at h;split at h;case h_2=>cases h
    rename_i k1 a k2 b;have e1:=hl.int;have e2:=hh.int;subst e1 e2;obtain ⟨⟨q1,q2,q3⟩,hK⟩:=h;have hK:=(hK.use q1).use om;obtain ⟨a,rfl⟩:=bT q1;obtain ⟨b,rfl⟩:=bT (show 0<=b by omega);simp only[aJ] at hK;obtain ⟨hv,hv0,hlen,hmax,vs,hown,hel⟩:=hI.objs nm _ (aX ho si);have hlen':(loc nm).len=List.length (α:=ty.T) xs:=hlen;have hcap:(loc nm).len<=(loc nm).cap:=by
     rcases dJ hown with ⟨_,c1,c2,_⟩ | ⟨g,cur,_,_,_,c3,_⟩<;>omega
    cases hx with
    | part _ _ _ _ _ _ hn h0 hk hq=>
     obtain ⟨_,hj,rfl⟩:=hq hv.symm;have e0:(if ((envOf G H loc ver w).loc nm).cap=0 then ((envOf G H loc ver w).loc nm).blk.map (fun p=>(⟨p.1,p.2,none⟩:Addr)) else (((envOf G H loc ver w).loc nm).blk.map fun p=>(⟨p.1,p.2,none⟩:Addr)).map (·.add (0*ty.size)))=(loc nm).blk.map fun p=>(⟨p.1,p.2,none⟩:Addr):=by
      show (if (loc nm).cap=0 then _ else _)= _;cases h:(loc nm).blk<;>simp[envOf,h,Addr.add]
     rw[e0];have hr:=Zt (P:=P) (w:=w) hu hs (ad:=(loc nm).blk.map fun p=>(⟨p.1,p.2,none⟩:Addr)) (n:=j-0) (c:=(loc nm).cap-0) (k:=k1) (k':=k2) (a:=a) (b:=b) om om;refine ⟨_,hr,_,H,loc,ver,hK,hI,.part _ _ _ _ _ _ hn h0 hk fun _=>⟨om,by show b<=(loc nm).len;omega,?_⟩,Ext.refl _⟩;rw[qZ,hb2];exact rfl
   ·rename_i nm k;split at h
    ·rename_i k' j;have e1:=hl.none;have e2:=hh.int;subst e1 e2;split at h
     ·rename_i v ty e' ho;obtain ⟨hb,h⟩:=bA h;simp only[aE,bK] at hb;obtain ⟨hb1,hb2⟩:=hb;subst hb1;have hj:j=0:=by have:=h.ok;omega
      subst hj;have hO:=hI.objs nm _ (aX ho si);obtain ⟨hv,hv0,hlen,hmax,vs,hown,hel⟩:=hO;have hlen':(loc nm).len=0:=hlen;cases hx with
      | wide _ _ _ hn h0 hk h=>
       obtain ⟨n,hnc,hx⟩:=h hv.symm;subst hx;have hnc:n<=(loc nm).cap:=hnc;have hrun:=wK (P:=P) (w:=w) hu hs (a:=(loc nm).blk.map fun p=>(⟨p.1,p.2,none⟩:Addr)) (n:=n) (c:=(loc nm).cap) (lo:=none) (hi:=some (.int k' ((0:Nat):Int))) (i:=0) (j:=0) ⟨.inl ⟨rfl,rfl⟩,.inr ⟨k',rfl⟩,aN _,aK _⟩ hnc;refine ⟨(loc nm).head,?_,_,H,loc,ver,(show K (.ref nm v) H from ‹Need _ _›.go),hI,.ref _ _ _ hn h0 hk fun _=>rfl,Ext.refl _⟩;have e1:(if (loc nm).cap=0 then ((loc nm).blk.map fun p=>(⟨p.1,p.2,none⟩:Addr)) else ((loc nm).blk.map fun p=>(⟨p.1,p.2,none⟩:Addr)).map (·.add (0*sz)))=(loc nm).blk.map fun p=>(⟨p.1,p.2,none⟩:Addr):=by
        cases (loc nm).blk<;>simp[Addr.add]
       rw[e1] at hrun;simpa [Core.head,hlen',envOf] using hrun
     cases h
    cases h
   ·rename_i nm k;rcases h.or with h | h;case inr=>exact Zs hI hu hs h hx hl hh
    rcases h.or with h | h;case inr=>exact Ro hI hu hs h hx hl hh
    rw[bY] at h;obtain ⟨hI',hx'⟩:=Ck (.ref nm k) hI;have hv:=nZ hI' (hx.ext hx');split at h
    ·rename_i ty xs hvw;rw[hvw] at hv;obtain ⟨hb,h⟩:=bA h;have hl':RelO (envOf G (frz1 H (.ref nm k)) loc ver w) lo vlo:=by
      cases lo<;>cases vlo<;>first | trivial | exact hl.elim | exact (show Rel _ _ _ from hl).ext hx'
     have hh':RelO (envOf G (frz1 H (.ref nm k)) loc ver w) hi vhi:=by
      cases hi<;>cases vhi<;>first | trivial | exact hh.elim | exact (show Rel _ _ _ from hh).ext hx'
     obtain ⟨v,s',h1,h2,h3⟩:=Rn (P:=P) (w:=w) hu hs hv (bK.1 hb) h hl' hh';exact ⟨v,h1,s',_,loc,ver,h2,hI',h3,hx'⟩
    cases h
   cases h
  cases h
 ·rename_i hu;split at h
  ·rename_i s;obtain ⟨i,j,hc,hk⟩:=Lb h hl hh;cases hx with
   | str _ hm=>
    refine ⟨.string ⟨((s.take j).drop i).toArray⟩,?_,_,H,loc,ver,hk,hI,.str _ ?_,Ext.refl _⟩
    ·have e1:(⟨s.toArray⟩:ByteArray).size=s.length:=by simp[ByteArray.size]
     have e2:(⟨s.toArray⟩:ByteArray).extract i j= ⟨((s.take j).drop i).toArray⟩:=by
      apply WideShapes.bytes_inj;simp[ByteArray.data_extract,zV]
     simp only[Instr.sliceAt,Instr.slice];simp[run_underlying hu,e1,Kz (P:=P) (w:=w) hc (aN _),go_sem,e2]
    simp;omega
  cases h
 cases h
end
end Go.Eng
end
section
namespace Go.Eng
open Go.RowKit
section
variable {P:Program} {G:Ctx} {H:List HO} {loc:Nat->Loc} {ver:Nat->Nat} {w:World}
theorem Qy (hI:Inv G H loc ver w) {t u ty0:TypeId} {x y:SV} {p q:Value} {K:SV->List HO->Prop} (h:aGi P t H x y K) (hx:Rel (envOf G H loc ver w) x p) (hy:Rel (envOf G H loc ver w) y q):
  ∃v w',(Builtin.copy_ #[t,u] ty0 #[p,q]).run P w= .ok v w'/\Res G (envOf G H loc ver w) K v w':=False.elim h
end
end Go.Eng
end
section
namespace Go.Eng
open Go.RowKit
section
variable {P:Program} {G:Ctx} {H:List HO} {loc:Nat->Loc} {ver:Nat->Nat} {w:World}
theorem Qz (hI:Inv G H loc ver w) {s:SV} {x:Value} {K:SV->List HO->Prop} (h:aGf H s K) (hx:Rel (envOf G H loc ver w) s x):Res G (envOf G H loc ver w) K x w:=False.elim h
theorem Ms (hI:Inv G H loc ver w) {t ty0:TypeId} {s x:SV} {p q:Value} {K:SV->List HO->Prop} (h:aBr P t H s x K) (hs:Rel (envOf G H loc ver w) s p) (hx:Rel (envOf G H loc ver w) x q):
  ∃v w',(Builtin.append_ #[t,t] ty0 #[p,q]).run P w= .ok v w'/\Res G (envOf G H loc ver w) K v w':=False.elim h
theorem Mt (hI:Inv G H loc ver w) {t ty0:TypeId} {x:SV} {p:Value} {K:List HO->Prop} (h:aBs P t H x K) (hx:Rel (envOf G H loc ver w) x p):
  ∃w',(Builtin.clear_ #[t] ty0 #[p]).run P w= .ok (.tuple #[]) w'/\∃H' loc' ver',K H'/\Inv G H' loc' ver' w'/\Ext (envOf G H loc ver w) (envOf G H' loc' ver' w'):=False.elim h
end
end Go.Eng
end
section
namespace Go.Eng
open Go.RowKit Go.MapKept
open Go.ChangeMaps (setBlock)
theorem EntsR.length {w:World} {ok:Nat->Prop} {k:IntKind} {t:Ty}:∀ {xs:List (Nat × Int × t.T)} {es:List MapEntry},EntsR w ok k t xs es->xs.length=es.length
 | [],[],_=>rfl
 | _:: _,_:: _,h=>by simp[EntsR.length h.2]
theorem EntsR.append {w:World} {ok:Nat->Prop} {k:IntKind} {t:Ty}:∀ {xs:List (Nat × Int × t.T)} {es:List MapEntry},EntsR w ok k t xs es->∀ {ys fs},EntsR w ok k t ys fs->EntsR w ok k t (xs++ys) (es++fs)
 | [],[],_,_,_,h=>h
 | _:: _,_:: _,h,_,_,h'=>⟨h.1,h.2.append h'⟩
theorem EntsR.mem {w:World} {ok:Nat->Prop} {k:IntKind} {t:Ty}:∀ {xs:List (Nat × Int × t.T)} {es:List MapEntry},EntsR w ok k t xs es->∀e∈es,∃x∈xs,e.born=x.1/\e.key= .int k x.2.1/\inK k x.2.1/\Reads w ok t x.2.2 [e.val]
 | [],[],_,e,he=>by simp at he
 | x::r,e₀::r',h,e,he=>by
  rcases bH.1 he with rfl | he
  ·exact ⟨x,si,h.1⟩
  obtain ⟨y,h1,h2⟩:=h.2.mem e he;exact ⟨y,by simp[h1],h2⟩
theorem EntsR.find {w:World} {ok:Nat->Prop} {k:IntKind} {t:Ty} {n:Int}:∀ {xs:List (Nat × Int × t.T)} {es:List MapEntry},EntsR w ok k t xs es->∀i,
  (vX xs n=none/\Instr.findNow (.int k) (.int k n) es i=some none/\delK xs n=xs)\/
  ∃j x e,vX xs n=some x.2.2/\Instr.findNow (.int k) (.int k n) es i=some (some (i+j,e.val))/\xs[j]? =some x/\es[j]? =some e/\x.2.1=n/\(∀y,setK xs n y=xs.set j (x.1,n,y))/\delK xs n=xs.eraseIdx j
 | [],[],_,i=>.inl ⟨rfl,rfl,rfl⟩
 | x::r,e::r',h,i=>by
  obtain ⟨⟨h1,h2,h3,h4⟩,h5⟩:=h;by_cases hn:x.2.1=n
  ·refine .inr ⟨0,x,e,by simp[vX,hn],?_,rfl,rfl,hn,fun y=>by simp[setK,hn],by simp[delK,hn]⟩;simp[Instr.findNow,h2,Instr.sameNow,hn]
  have hs:Instr.sameNow (.int k) (.int k n) e.key=some false:=by simp[h2,Instr.sameNow];exact fun e=>hn e.symm
  rcases h5.find (n:=n) (i+1) with ⟨g1,g2,g3⟩ | ⟨j,y,f,g1,g2,g3,g4,g5,g6,g7⟩
  ·exact .inl ⟨by simp[vX,hn,g1],by simp[Instr.findNow,hs,g2],by simp[delK,hn,g3]⟩
  exact .inr ⟨j+1,y,f,by simp[vX,hn,g1],by simp[Instr.findNow,hs,g2];omega,by simpa using g3,by simpa using g4,g5,fun z=>by simp[setK,hn,g6],by simp[delK,hn,g7]⟩
theorem EntsR.get {w:World} {ok:Nat->Prop} {k:IntKind} {t:Ty}:∀ {xs:List (Nat × Int × t.T)} {es:List MapEntry},EntsR w ok k t xs es->∀ {j:Nat} {x:Nat × Int × t.T} {e:MapEntry},xs[j]? =some x->es[j]? =some e->e.born=x.1/\e.key= .int k x.2.1/\inK k x.2.1/\Reads w ok t x.2.2 [e.val]
 | _:: _,_:: _,h,0,_,_,h1,h2=>by simp at h1 h2;subst h1;subst h2;exact h.1
 | _:: _,_:: _,h,j+1,_,_,h1,h2=>h.2.get (by simpa using h1) (by simpa using h2)
theorem EntsR.set {w:World} {ok:Nat->Prop} {k:IntKind} {t:Ty}:∀ {xs:List (Nat × Int × t.T)} {es:List MapEntry},EntsR w ok k t xs es->∀(j:Nat) {x:Nat × Int × t.T} {e:MapEntry},(e.born=x.1/\e.key= .int k x.2.1/\inK k x.2.1/\Reads w ok t x.2.2 [e.val])->EntsR w ok k t (xs.set j x) (es.set j e)
 | [],[],_,_,_,_,_=>trivial
 | _:: _,_:: _,h,0,_,_,h'=>⟨h',h.2⟩
 | _:: _,_:: _,h,j+1,_,_,h'=>⟨h.1,h.2.set j h'⟩
theorem EntsR.erase {w:World} {ok:Nat->Prop} {k:IntKind} {t:Ty}:∀ {xs:List (Nat × Int × t.T)} {es:List MapEntry},EntsR w ok k t xs es->∀(j:Nat),EntsR w ok k t (xs.eraseIdx j) (es.eraseIdx j)
 | [],[],_,_=>trivial
 | _:: _,_:: _,h,0=>h.2
 | _:: _,_:: _,h,j+1=>⟨h.1,h.2.erase j⟩
section
variable {α:Type}
theorem Ce {xs:List (Nat × Int × α)} {n:Int} (h:vX xs n=none):∀e∈xs,e.2.1≠n:=by
 induction xs with
 | nil=>intro e he;simp at he
 | cons x r ih=>
  intro e he;simp only[vX] at h;split at h
  ·cases h
  rename_i hne;rcases bH.1 he with rfl | he
  ·exact hne
  exact ih h e he
theorem aHd (xs:List (Nat × Int × α)) (n:Int) (x:α):(setK xs n x).map (·.1)=xs.map (·.1)/\(setK xs n x).map (·.2.1)=xs.map (·.2.1):=by
 induction xs with
 | nil=>exact ⟨rfl,rfl⟩
 | cons e r ih=>
  simp only[setK];split
  ·rename_i h;simp[h]
  simp[ih]
theorem MapS.Wf.put {m:MapS α} (h:m.Wf) (n:Int) (x:α):(m.put n x).Wf:=by
 unfold MapS.put;cases hf:vX m.es n with
 | some y=>
  obtain ⟨e1,e2⟩:=aHd m.es n x;refine ⟨fun e he=>?_,?_,?_⟩
  ·have:e.1∈(setK m.es n x).map (·.1):=mB.2 ⟨e,he,rfl⟩;rw[e1] at this;obtain ⟨y,hy,hz⟩:=mB.1 this;rw[<- hz];exact h.born y hy
  ·have:=kS.2 h.times;rw[<- e1] at this;exact kS.1 this
  have:=kS.2 h.keys;rw[<- e2] at this;exact kS.1 this
 | none=>
  refine ⟨fun e he=>?_,?_,?_⟩
  ·simp only[cE,bO] at he;rcases he with he | rfl
   ·exact nD (h.born e he)
   exact dT _
  ·refine gO.2 ⟨h.times,si,fun a ha b hb=>?_⟩;simp only[bO] at hb;subst hb;exact tO (h.born a ha)
  refine gO.2 ⟨h.keys,si,fun a ha b hb=>?_⟩;simp only[bO] at hb;subst hb;exact Ce hf a ha
end
section
variable {P:Program} {G:Ctx} {H:List HO} {loc:Nat->Loc} {ver:Nat->Nat} {w:World}
theorem Ld (hI:Inv G H loc ver w) {t:TypeId} {K:SV->List HO->Prop} (h:Tx P t H K):∃v w',(Instr.makeMap t none).run P w= .ok v w'/\Res G (envOf G H loc ver w) K v w':=False.elim h
theorem aCk {s:SV} {K:SV->Prop} (h:hnf s K):K s:=by rwa [jR] at h
theorem Nc (hI:Inv G H loc ver w) {t:TypeId} {ok:Bool} {x i:SV} {p q:Value} {K:SV->Prop} (h:aBz P t ok H x i K) (hx:Rel (envOf G H loc ver w) x p) (hi:Rel (envOf G H loc ver w) i q):
  ∃v s,(Instr.lookup t p q ok).run P w= .ok v w/\K s/\Rel (envOf G H loc ver w) s v:=False.elim h
theorem Fq (hI:Inv G H loc ver w) {t:TypeId} {x i y:SV} {p q r:Value} {K:List HO->Prop} (h:Jq P t H x i y K) (hx:Rel (envOf G H loc ver w) x p) (hi:Rel (envOf G H loc ver w) i q) (hy:Rel (envOf G H loc ver w) y r):
  ∃H' w',(Instr.mapUpdate t p q r).run P w= .ok () w'/\K H'/\Inv G H' loc ver w'/\Ext (envOf G H loc ver w) (envOf G H' loc ver w'):=False.elim h
theorem Rr (hI:Inv G H loc ver w) {t:TypeId} {ts:Array TypeId} {ty':TypeId} {x i:SV} {p q:Value} {K:List HO->Prop} (h:Tz P t H x i K) (hts:ts[0]? =some t) (hx:Rel (envOf G H loc ver w) x p) (hi:Rel (envOf G H loc ver w) i q):
  ∃H' w',(Builtin.delete_ ts ty' #[p,q]).run P w= .ok (.tuple #[]) w'/\K H'/\Inv G H' loc ver w'/\Ext (envOf G H loc ver w) (envOf G H' loc ver w'):=False.elim h
theorem Rt (hI:Inv G H loc ver w) {t:TypeId} {x:SV} {p:Value} {K:SV->List HO->Prop} (h:aB0 P t H x K) (hx:Rel (envOf G H loc ver w) x p):
  ∃v w',(Instr.range t p).run P w= .ok v w'/\Res G (envOf G H loc ver w) K v w':=False.elim h
theorem Zw (hI:Inv G H loc ver w) {ty':TypeId} {x:SV} {p:Value} {K:SV->List HO->Prop} (h:aGk H x K) (hx:Rel (envOf G H loc ver w) x p):
  ∃v w',(Instr.next p false ty').run P w= .ok v w'/\Res G (envOf G H loc ver w) K v w':=False.elim h
theorem Vv (hI:Inv G H loc ver w) {x:SV} {p:Value} {K:SV->Prop} (h:aB1 H x K) (hx:Rel (envOf G H loc ver w) x p):
  ∃v s,(Instr.entry p).run P w= .ok v w/\K s/\Rel (envOf G H loc ver w) s v:=False.elim h
theorem Ru (hI:Inv G H loc ver w) {x:SV} {p:Value} {K:SV->Prop} (h:Ua H x K) (hx:Rel (envOf G H loc ver w) x p) {t:TypeId} {k e:TypeId} (hu:P.underlying t=some (.map k e)) {ts:Array TypeId} {ty':TypeId} (hts:ts[0]? =some t):
  ∃v s,(Builtin.len_ ts ty' #[p]).run P w= .ok v w/\K s/\Rel (envOf G H loc ver w) s v:=False.elim h
theorem uO {t kt:TypeId} (h:xB P t=some kt):∃et fs f g z,P.underlying t=some (.map kt et)/\P.underlying kt=some (.struct fs)/\fs.toList= [f,g]/\aBy P et=some z/\intF P f 0 .i64=true/\intF P g 1 .i64=true:=by
 unfold xB at h;split at h
 ·rename_i kt' et hu;split at h
  ·rename_i fs _ _ _ hs hf;split at h
   ·rename_i f g z hfs hz;cases hb:(intF P f 0 .i64&&intF P g 1 .i64) with
    | false=>rw[hb] at h;cases h
    | true=>
     rw[hb] at h;cases h;simp only[aE] at hb;exact ⟨et,fs,f,g,z,hu,hs,hfs,hz,hb.1,hb.2⟩
   cases h
  cases h
 cases h
theorem Vw {f:Field} {off:Nat} (h:intF P f off .i64=true):f.offset=off/\P.underlying f.type=some (.int .i64):=by
 unfold intF at h;simp only[aE] at h;obtain ⟨h1,h2⟩:=h;refine ⟨by simpa using h1,?_⟩;split at h2
 ·rename_i q hq;rw[hq,eO h2]
 cases h2
theorem aCl {n:Int} (h:inK .i64 n):(Lit.int .i64 n).wf=true:=by
 obtain ⟨h1,h2⟩:=h;have h1: -9223372036854775808<=n:=h1;have h2:n<=9223372036854775807:=h2;simp only[Lit.wf,aE,vL];exact ⟨h1,h2⟩
theorem uP {t kt:TypeId} (h:xB P t=some kt) (hk:KeyOK P kt) {k:Int × Int} (h1:inK .i64 k.1/\inK .i64 k.2):∃l,keyOf P kt (keyV k)=some l:=by
 obtain ⟨et,fs,f,g,z,_,hs,hfs,_,hf,hg⟩:=uO h;obtain ⟨f1,f2⟩:=Vw hf;obtain ⟨g1,g2⟩:=Vw hg;obtain ⟨i,hi⟩:=info_of_underlying f2;have hall:∀x∈fs.toList,x.name≠ "_" :=fun x hx=>by
  have:=hk.key;rw[show (2:Nat)=1+1 from rfl] at this;unfold Program.keyTypeAt at this;rw[hs] at this;simp only[aE] at this;have:=rA.1 this.1.1 x (Array.mem_toList_iff.1 hx);simp only[aE,bne_iff_ne,ne_eq] at this;exact this.1
 have hsz:P.cellsOf f.type=1/\P.cellsOf g.type=1:=by
  have:=hk.tile;rw[show (2:Nat)=1+1 from rfl] at this;unfold Program.tiled at this;rw[hs] at this;simp only[aE,hfs,Program.runs] at this;have h2:=this.1;rw[hk.cells] at h2;rw[aD f1,eJ] at h2;split at h2
  ·rename_i h3;rw[g1] at h3;simp at h2;omega
  simp at h2
 obtain ⟨m,hm⟩:∃m,P.types.size=m+1:=⟨P.types.size-1,by have:=hk.types;omega⟩;unfold keyOf;rw[hs];simp only[keyV];rw[hk.typ];simp only[Value.formed,hs,hk.cells,gZ,bS,pL,beq_self_eq_true,Bool.and_self,if_true];rw[hm];simp only[Program.keyLits,hs,Value.cells]
 rw[aD ⟨by simp[hk.cells],by
  rw[rA];intro x hx
  simpa using hall x (Array.mem_toList_iff.2 hx)⟩]
 rw[hfs];simp only[uX,List.mapM_nil,f1,g1,hsz.1,hsz.2,f2,g2];simp[aCl h1.1,aCl h1.2]
theorem aHe {a b:Int × Int} (h:keyV a=keyV b):a=b:=by
 simp only[keyV,Value.agg.injEq,Array.mk.injEq,List.cons.injEq,Value.int.injEq,true_and,and_true] at h;exact eC h.1 h.2
theorem Lf {t kt:TypeId} (h:xB P t=some kt) (hk:KeyOK P kt):WideMaps.KeyLaw P kt:=by
 obtain ⟨et,fs,f,g,z,_,hs,_⟩:=uO h;exact deep_law (m:=2) de hk.key hk.tile (by rw[hs])
theorem KeysR.get {ks:List (Int × Int)} {es:List MapEntry} (h:KeysR ks es) {j:Nat} {e:MapEntry} (he:es[j]? =some e):∃k,ks[j]? =some k/\e.key=keyV k:=by
 have h1:(es.map (·.key))[j]? =some e.key:=by simp[he]
 rw[h.eq] at h1;simp only[nA,Option.map_eq_some_iff] at h1;obtain ⟨k,h2,h3⟩:=h1;exact ⟨k,h2,h3.symm⟩
theorem KeysR.len {ks:List (Int × Int)} {es:List MapEntry} (h:KeysR ks es):es.length=ks.length:=by
 have:=aP List.length h.eq;simpa using this
theorem Vx {a b:Int}:∀ {ks:List (Int × Int)} {vs:List SV} {j:Nat},ks.Pairwise (· ≠ ·)->ks[j]? =some (a,b)->j<vs.length->findP ks vs a b=some (vs.getD j .any)/\hasP ks a b=true/\∀y,setP ks vs a b y=vs.set j y
 | k::r,v::r',0,_,hk,_=>by
  simp only[iV,kT] at hk;subst hk;simp[findP,hasP,setP]
 | k::r,v::r',j+1,hp,hk,hl=>by
  obtain ⟨p1,p2⟩:=mG.1 hp;have hm:(a,b)∈r:=kU (by simpa using hk);have hne:=p1 _ hm;have hn:¬(k.1=a/\k.2=b):=fun h=>hne (eC h.1 h.2);obtain ⟨q1,q2,q3⟩:=Vx (vs:=r') p2 (by simpa using hk) (by simpa using hl);have hb:(decide (k.1=a)&&decide (k.2=b))=false:=by
   rw[<- sY];exact decide_eq_false hn
  refine ⟨by simp only[findP];rw[aC hn,q1];rfl,by simp only[hasP,hb,q2,Bool.false_or],fun y=>by simp only[setP,hb,cD,q3 y];rfl⟩
theorem Lg {a b:Int}:∀ {ks:List (Int × Int)} {vs:List SV},(∀k∈ks,k≠(a,b))->findP ks vs a b=none/\hasP ks a b=false
 | [],vs,_=>by cases vs<;>simp[findP,hasP]
 | k::r,vs,h=>by
  have hne:=h k bW;have hn:¬(k.1=a/\k.2=b):=fun h=>hne (eC h.1 h.2);have hb:(decide (k.1=a)&&decide (k.2=b))=false:=by
   rw[<- sY];exact decide_eq_false hn
  have ih:=fun vs=>Lg (a:=a) (b:=b) (ks:=r) (vs:=vs) fun k hk=>h k (bP _ hk);refine ⟨?_,by simp only[hasP,hb,(ih []).2,Bool.or_self]⟩;cases vs with
  | nil=>rfl
  | cons v r'=>simp only[findP];rw[aC hn];exact (ih r').1
theorem Fr {t kt:TypeId} (ht:xB P t=some kt) (hk:KeyOK P kt) {ks:List (Int × Int)} {vs:List SV} {es:List MapEntry} (h:KeysR ks es) (hl:vs.length=es.length) {a b:Int} (ha:inK .i64 a) (hb:inK .i64 b) (w:World):
  ((Instr.findKey kt (keyV (a,b)) es).run P w= .ok none w/\findP ks vs a b=none/\hasP ks a b=false/\∀k∈ks,k≠(a,b))\/
  ∃j e,(Instr.findKey kt (keyV (a,b)) es).run P w= .ok (some (j,e.val)) w/\es[j]? =some e/\ks[j]? =some (a,b)/\e.key=keyV (a,b)/\findP ks vs a b=some (vs.getD j .any)/\hasP ks a b=true/\∀y,setP ks vs a b y=vs.set j y:=by
 obtain ⟨lx,hx⟩:=uP ht hk (k:=(a,b)) ⟨ha,hb⟩;have hall:∀e∈es,∃l,keyOf P kt e.key=some l:=fun e he=>by
  obtain ⟨j,hj,rfl⟩:=dD he;obtain ⟨k,k1,k2⟩:=h.get (aM hj);rw[k2];exact uP ht hk (h.rng k (kU k1))
 rcases (Lf ht hk).find w hx es hall with ⟨h1,h2⟩ | ⟨j,e,h1,h2,h3⟩
 ·refine .inl ⟨h1,?_⟩;have hne:∀k∈ks,k≠(a,b):=fun k hk' e=>by
   subst e;obtain ⟨j,hj,e1⟩:=dD hk';have hj2:j<es.length:=by rw[h.len];exact hj
   obtain ⟨k,k1,k2⟩:=h.get (aM hj2);rw[aM hj,e1] at k1;cases k1;exact h2 _ (cT hj2) k2
  obtain ⟨f1,f2⟩:=Lg (vs:=vs) hne;exact ⟨f1,f2,hne⟩
 refine .inr ⟨j,e,h1,h2,?_⟩;obtain ⟨k,k1,k2⟩:=h.get h2;rw[h3] at k2;have:=aHe k2;subst this;have hj:=(aL.1 h2).1;obtain ⟨q1,q2,q3⟩:=Vx (vs:=vs) h.nd k1 om;exact ⟨k1,h3,q1,q2,q3⟩
theorem Lh {E:Env} {a b:Int} {q:Value} (h:Rel E (.agg [.val (.int .i64 a),.val (.int .i64 b)]) q):q=keyV (a,b)/\inK .i64 a/\inK .i64 b:=by
 cases h with
 | agg _ vs hl=>
  cases hl with
  | cons _ _ _ _ h1 h2=>
   cases h2 with
   | cons _ _ _ _ h3 h4=>
    cases h4;obtain ⟨rfl,k1⟩:=h1.int_inv;obtain ⟨rfl,k2⟩:=h3.int_inv;exact ⟨rfl,k1,k2⟩
theorem Oo {et:TypeId} {z:SV} (hz:aBy P et=some z) (w:World):∃v,(zeroValue et).run P w= .ok v w:=by
 unfold aBy at hz;split at hz
 ·rename_i i hi;split at hz
  ·cases hz
  ·rename_i v hv hna;exact ⟨v,by simp[zeroValue,typeInfo,hi,hna]⟩
  cases hz
 cases hz
theorem Nd (hI:Inv G H loc ver w) {t:TypeId} {K:SV->List HO->Prop} (h:Fg P t H K):∃v w',(Instr.makeMap t none).run P w= .ok v w'/\Res G (envOf G H loc ver w) K v w':=by
 unfold Fg at h;split at h
 ·rw[bY] at h;refine ⟨.map (some w.heap.size),w.alloc (.map #[] 0),by simp[Instr.makeMap,Result.andThen],?_⟩;have hf:=hI.fresh (w':=w.alloc (.map #[] 0)) (.qm [] []) (mkL (some (w.heap.size,0)) 0 0) 0 si rfl rfl rfl (fun b hb=>(heap_alloc w _).2 b hb)
   (fun b hb=>by simp[Owns] at hb;omega) (fun _=>⟨rfl,aK _,rfl,w.heap.size,[],0,rfl,(heap_alloc w _).1,⟨⟨rfl,fun k hk=>(by cases hk),List.Pairwise.nil⟩,rfl,rfl⟩,.nil⟩)
  exact ⟨_,_,_,_,h,hf.1,.mp _ _ (by exact lD rfl) fun _=>⟨w.heap.size,by simp[envOf,aW],rfl⟩,hf.2⟩
 exact Ld hI h
theorem Rv (hI:Inv G H loc ver w) {t:TypeId} {ok:Bool} {x i:SV} {p q:Value} {K:SV->Prop} (h:Jp P t ok H x i K) (hx:Rel (envOf G H loc ver w) x p) (hi:Rel (envOf G H loc ver w) i q):
  ∃v s,(Instr.lookup t p q ok).run P w= .ok v w/\K s/\Rel (envOf G H loc ver w) s v:=by
 unfold Jp at h;split at h
 ·rename_i ks vs a b;split at h
  ·rename_i kt ht;obtain ⟨hk,h⟩:=h;obtain ⟨rfl,ha,hb⟩:=Lh hi;obtain ⟨et,fs,f,g,z,hu,_,_,hz,_⟩:=uO ht;obtain ⟨zv,hzv⟩:=Oo hz w;cases hx with
   | fmp _ _ b' c es hok hheap hkr hl=>
    have hheap:w.heap[b']? =some (.map ⟨es⟩ c):=hheap;obtain ⟨lx,hkx⟩:=uP ht hk (k:=(a,b)) ⟨ha,hb⟩;have hck:=(Lf ht hk).check w es.isEmpty hkx;have hll:vs.length=es.length:=by have:=hl.length;simpa using this
    unfold aMt at h;rcases Fr ht hk hkr (vs:=vs) hll ha hb w with ⟨f1,f2,_⟩ | ⟨j,e,f1,f2,f3,f4,f5,_⟩
    ·rcases h.or with h | h
     ·cases ok with
      | false=>exact ⟨zv,.any,by simp[Instr.lookup,run_underlying hu,MapKept.run_getObj_map hheap,hck,f1,hzv,Result.andThen],h.go,.any _⟩
      | true=>exact ⟨.tuple #[zv,.bool false],.tup [.any,.val (.bool false)],by simp[Instr.lookup,run_underlying hu,MapKept.run_getObj_map hheap,hck,f1,hzv,Result.andThen],h.go,.tup _ _ (.cons _ _ _ _ (.any _) (.cons _ _ _ _ (.val _ trivial) .nil))⟩
     obtain ⟨v,hv,_⟩:=h.ex;rw[f2] at hv;cases hv
    rcases h.or with h | h
    ·have:=h.ok;rw[f5] at this;cases this
    obtain ⟨v,hv,hK⟩:=h.ex;rw[f5] at hv;cases hv;have hj:=(aL.1 f2).1;have hr:=hl.get j om;have he:((es.map (·.val)).getD j undef)=e.val:=by simp[aB,f2]
    rw[he] at hr;cases ok with
    | false=>exact ⟨e.val,vs.getD j .any,by simp[Instr.lookup,run_underlying hu,MapKept.run_getObj_map hheap,hck,f1,Result.andThen],aCk hK,hr⟩
    | true=>exact ⟨.tuple #[e.val,.bool true],.tup [vs.getD j .any,.val (.bool true)],by simp[Instr.lookup,run_underlying hu,MapKept.run_getObj_map hheap,hck,f1,Result.andThen],aCk (K:=fun v=>K (.tup [v,.val (.bool true)])) hK,.tup _ _ (.cons _ _ _ _ hr (.cons _ _ _ _ (.val _ trivial) .nil))⟩
  cases h
 exact Nc hI h hx hi
theorem aHf (hI:Inv G H loc ver w) {nm:Nat} {ks:List (Int × Int)} {l:List SV} (ho:hget H nm= .qm ks l) {v:Value} (hv:Rel (envOf G H loc ver w) (.mp nm) v):
  ver nm=0/\ks.length<=maxL/\bare.bareL l=true/\∃b es c,(loc nm).blk=some (b,0)/\v= .map (some b)/\w.heap[b]? =some (.map ⟨es⟩ c)/\QmR ks es c/\RelL (envOf G H loc ver w) l (es.map (·.val)):=by
 obtain ⟨h0,h1,h2,b,es,c,h3,h4,h5,h6⟩:=hI.objs nm _ (aX ho si);cases hv with
 | mp _ _ hn hp=>
  obtain ⟨b',h7,h8⟩:=hp h0;have h7:(loc nm).blk=some (b',0):=h7;rw[h3] at h7;cases h7;exact ⟨h0,h1,h2,b,es,c,h3,h8,h4,h5,h6⟩
theorem set_getElem_self {α:Type} {l:List α} {j:Nat} {x:α} (h:l[j]? =some x):l.set j x=l:=by
 apply fY;intro m;rw[eP];by_cases e:j=m
 ·subst e;rw[aD rfl,h];rw[aD (aL.1 h).1]
 rw[aC e]
theorem Fs {y:SV} (hy:bare y=true):∀ {l:List SV} (j:Nat),bare.bareL l=true->bare.bareL (l.set j y)=true
 | [],_,_=>rfl
 | x::r,0,h=>by
  simp only[List.set_cons_zero,bare.bareL,aE] at h ⊢;exact ⟨hy,h.2⟩
 | x::r,j+1,h=>by
  simp only[List.set_cons_succ,bare.bareL,aE] at h ⊢;exact ⟨h.1,Fs hy j h.2⟩
theorem Ft {y:SV} (hy:bare y=true):∀ {l:List SV},bare.bareL l=true->bare.bareL (l++ [y])=true
 | [],_=>by simp[bare.bareL,hy]
 | x::r,h=>by
  simp only[gN,bare.bareL,aE] at h ⊢;exact ⟨h.1,Ft hy h.2⟩
theorem Ij (hI:Inv G H loc ver w) {nm:Nat} {ks ks':List (Int × Int)} {l l':List SV} (ho:hget H nm= .qm ks l) {b:Nat} {es es':List MapEntry} {c c':Nat} (hblk:(loc nm).blk=some (b,0)) (hheap:w.heap[b]? =some (.map ⟨es⟩ c))
  (hlen:ks'.length<=maxL) (hbr:bare.bareL l'=true) (hk:QmR ks' es' c') (hl:RelL (envOf G H loc ver w) l' (es'.map (·.val))):
  Inv G (hset H nm (.qm ks' l')) loc ver (setBlock w b (.map ⟨es'⟩ c'))/\Ext (envOf G H loc ver w) (envOf G (hset H nm (.qm ks' l')) loc ver (setBlock w b (.map ⟨es'⟩ c'))):=by
 have hset:=heap_set (o':=.map ⟨es'⟩ c') hheap;refine hI.inPlace (aX ho si) (b:=b) (by simp[Owns,hblk]) (fun b' hb'=>hb') (by simp[setBlock]) rfl rfl rfl (fun b' hb'=>hset.2 b' hb') fun hx=>?_;have hv:=(hI.objs nm _ (aX ho si)).1;exact ⟨hv,hlen,hbr,b,es',c',hblk,hset.1,hk,hl.ext hx⟩
theorem Ia (hI:Inv G H loc ver w) {t:TypeId} {x i y:SV} {p q r:Value} {K:List HO->Prop} (h:yU P t H x i y K) (hx:Rel (envOf G H loc ver w) x p) (hi:Rel (envOf G H loc ver w) i q) (hy:Rel (envOf G H loc ver w) y r):
  ∃H' w',(Instr.mapUpdate t p q r).run P w= .ok () w'/\K H'/\Inv G H' loc ver w'/\Ext (envOf G H loc ver w) (envOf G H' loc ver w'):=by
 unfold yU at h;split at h
 ·rename_i nm a b;split at h
  ·rename_i kt ks l ht ho;obtain ⟨hbr,hN⟩:=bA h;clear h;obtain ⟨hk,h⟩:=hN;obtain ⟨rfl,ha,hb⟩:=Lh hi;obtain ⟨et,fs,f,g,z,hu,_⟩:=uO ht;obtain ⟨h0,h1,h2,blk,es,c,hblk,rfl,hheap,hq,hl⟩:=aHf hI ho hx;obtain ⟨hkr,hborn,rfl⟩:=hq;obtain ⟨lx,hkx⟩:=uP ht hk (k:=(a,b)) ⟨ha,hb⟩;have hck:=(Lf ht hk).check w false hkx;have hst:=(Lf ht hk).stays w hkx;have hll:l.length=es.length:=by have:=hl.length;simpa using this
   rcases Fr ht hk hkr (vs:=l) hll ha hb w with ⟨f1,_,f3,f4⟩ | ⟨j,e,f1,f2,f3,f4,_,f6,f7⟩
   ·rw[f3] at h;simp only[cD,bY] at h;obtain ⟨hroom,h⟩:=h
    have hkr':KeysR (ks++ [(a,b)]) (es++ [⟨keyV (a,b),r,es.length⟩]):=⟨by rw[jB,jB,hkr.eq];rfl,fun k hk'=>by
      rcases cE.1 hk' with hk' | hk'
      ·exact hkr.rng k hk'
      rw[bO.1 hk'];exact ⟨ha,hb⟩,gO.2 ⟨hkr.nd,si,fun x hx y hy=>by rw[bO.1 hy];exact f4 x hx⟩⟩
    have ht':=Ij hI ho hblk hheap (c':=es.length+1) (ks':=ks++ [(a,b)]) (l':=l++ [y]) (es':=es++ [⟨keyV (a,b),r,es.length⟩]) (by simp only[aS,cU];show ks.length+1<=140737488355328;omega) (Ft hbr h2) ⟨hkr',by simp[hborn,List.range_succ],si⟩ (by rw[jB];exact hl.append (.cons _ _ _ _ hy .nil));refine ⟨_,_,?_,h,ht'⟩;simp[Instr.mapUpdate,run_underlying hu,MapKept.run_getObj_map hheap,hck,f1,MapKept.run_setObj_map _ hheap,Result.andThen,setBlock]
   rw[f6] at h;simp only[bR,bY] at h;rw[f7] at h;have hj:(⟨es⟩:Array MapEntry)[j]? =some e:=by simpa using f2
   have hjl:=(aL.1 f2).1
   have hkr':KeysR ks (es.set j { e with key:=keyV (a,b),val:=r }):=⟨by
     rw[rB];have:(es.map (·.key)).set j (keyV (a,b))=es.map (·.key):=by
      rw[<- f4];apply fY;intro m;rw[eP];by_cases em:j=m
      ·subst em;rw[aD rfl,aD (by simpa using hjl)];simp[f2]
      rw[aC em]
     rw[this];exact hkr.eq,hkr.rng,hkr.nd⟩
   have ht':=Ij hI ho hblk hheap (c':=es.length) (ks':=ks) (l':=l.set j y) (es':=es.set j { e with key:=keyV (a,b),val:=r }) h1 (Fs hbr j h2) ⟨hkr',by rw[rB,dN,<- hborn,set_getElem_self (by simp[f2])],si⟩ (by rw[rB];exact hl.set j hy);refine ⟨_,_,?_,h,ht'⟩;have hmod:=ChangeMaps.modify_eq_set (fun e:MapEntry=>{ e with key:=keyV (a,b),val:=r }) es j e f2;simp[Instr.mapUpdate,run_underlying hu,MapKept.run_getObj_map hheap,hck,f1,hj,f2,f4,hst,MapKept.run_setObj_map _ hheap,Result.andThen,setBlock,hmod]
  cases h
 exact Fq hI h hx hi hy
theorem Li (hI:Inv G H loc ver w) {t:TypeId} {x i:SV} {p q:Value} {K:SV->List HO->Prop} (h:Cg P t H x i K) (hx:Rel (envOf G H loc ver w) x p) (hi:Rel (envOf G H loc ver w) i q):
  ∃v w',(Instr.mapEntry t p q).run P w= .ok v w'/\Res G (envOf G H loc ver w) K v w':=by
 unfold Cg at h;split at h
 ·rename_i nm a b;split at h
  ·rename_i kt ks l ht ho;obtain ⟨hk,h⟩:=h;obtain ⟨rfl,ha,hb⟩:=Lh hi;obtain ⟨et,fs,f,g,z,hu,_,_,hz,_⟩:=uO ht;obtain ⟨zv,hzv⟩:=Oo hz w;obtain ⟨h0,h1,h2,blk,es,c,hblk,rfl,hheap,hq,hl⟩:=aHf hI ho hx;obtain ⟨hkr,hborn,rfl⟩:=hq;obtain ⟨lx,hkx⟩:=uP ht hk (k:=(a,b)) ⟨ha,hb⟩;have hck:=(Lf ht hk).check w false hkx;have hll:l.length=es.length:=by have:=hl.length;simpa using this
   rcases Fr ht hk hkr (vs:=l) hll ha hb w with ⟨f1,_,f3,f4⟩ | ⟨j,e,f1,f2,f3,f4,_,f6,f7⟩
   ·rw[f3] at h;simp only[cD,bY,Ff] at h;obtain ⟨hroom,h⟩:=h
    have hkr':KeysR (ks++ [(a,b)]) (es++ [⟨keyV (a,b),zv,es.length⟩]):=⟨by rw[jB,jB,hkr.eq];rfl,fun k hk'=>by
      rcases cE.1 hk' with hk' | hk'
      ·exact hkr.rng k hk'
      rw[bO.1 hk'];exact ⟨ha,hb⟩,gO.2 ⟨hkr.nd,si,fun x hx y hy=>by rw[bO.1 hy];exact f4 x hx⟩⟩
    have ht':=Ij hI ho hblk hheap (c':=es.length+1) (ks':=ks++ [(a,b)]) (l':=l++ [.any]) (es':=es++ [⟨keyV (a,b),zv,es.length⟩]) (by simp only[aS,cU];show ks.length+1<=140737488355328;omega) (Ft rfl h2) ⟨hkr',by simp[hborn,List.range_succ],si⟩ (by rw[jB];exact hl.append (.cons _ _ _ _ (.any _) .nil));refine ⟨.tuple #[zv,goInt es.length],_,?_,_,_,_,_,h,ht'.1,.tup _ _ (.cons _ _ _ _ (.any _) (.cons _ _ _ _ ?_ .nil)),ht'.2⟩
    ·simp[Instr.mapEntry,run_underlying hu,MapKept.run_getObj_map hheap,hck,f1,hzv,MapKept.run_setObj_map _ hheap,Result.andThen,setBlock]
    rw[hkr.len];refine .val (.int .i64 (Int.ofNat ks.length)) ⟨?_,?_⟩
    ·show (-9223372036854775808:Int)<=(ks.length:Int);omega
    show (ks.length:Int)<=9223372036854775807;omega
   rw[f6] at h;cases h
  cases h
 cases h
theorem Fu (hI:Inv G H loc ver w) {t:TypeId} {x s y:SV} {p q r:Value} {K:List HO->Prop} (h:xC H x s y K) (hx:Rel (envOf G H loc ver w) x p) (hi:Rel (envOf G H loc ver w) s q) (hy:Rel (envOf G H loc ver w) y r):
  ∃H' w',(Instr.entryStore t p q r).run P w= .ok () w'/\K H'/\Inv G H' loc ver w'/\Ext (envOf G H loc ver w) (envOf G H' loc ver w'):=by
 unfold xC at h;split at h
 ·rename_i nm n;split at h
  ·rename_i ks l ho;obtain ⟨hc,h⟩:=bA h;simp only[aE] at hc;obtain ⟨hbr,hlt⟩:=hc;have hlt:n<l.length:=by simpa using hlt
   simp only[bY] at h;obtain ⟨rfl,_⟩:=hi.int_inv;obtain ⟨h0,h1,h2,blk,es,c,hblk,rfl,hheap,hq,hl⟩:=aHf hI ho hx;obtain ⟨hkr,hborn,rfl⟩:=hq;have hll:l.length=es.length:=by have:=hl.length;simpa using this
   have hnl:n<es.length:=om;have he:es[n]? =some es[n]:=aM hnl;have hb:∀m (hm:m<es.length),es[m].born=m:=fun m hm=>by
    have:(es.map (·.born))[m]? =some es[m].born:=by simp[hm]
    rw[hborn,List.getElem?_range hm] at this;exact (yM this).symm
   have hfi:es.findIdx? (fun e=>(e.born:Int)==(n:Int))=some n:=by
    rw[kD];refine ⟨hnl,?_,fun j hj=>?_⟩
    ·have:=hb n hnl;simp[this]
    have:=hb j om;simp[this];omega
   have hkr':KeysR ks (es.set n { es[n] with val:=r }):=⟨by
     rw[rB]
     rw[set_getElem_self (by simp[hnl])];exact hkr.eq,hkr.rng,hkr.nd⟩
   have ht':=Ij hI ho hblk hheap (c':=es.length) (ks':=ks) (l':=l.set n y) (es':=es.set n { es[n] with val:=r }) h1 (Fs hbr n h2) ⟨hkr',by rw[rB,dN,<- hborn,set_getElem_self (by simp[hnl])],si⟩ (by rw[rB];exact hl.set n hy);refine ⟨_,_,?_,h,ht'⟩;have hmod:=ChangeMaps.modify_eq_set (fun e:MapEntry=>{ e with val:=r }) es n es[n] he;simp[Instr.entryStore,MapKept.run_getObj_map hheap,asInt,asIntOf,hfi,MapKept.run_setObj_map _ hheap,Result.andThen,setBlock,hmod]
  cases h
 cases h
end
end Go.Eng
end
section
namespace Go.Eng
open Go.RowKit
section
variable {P:Program} {G:Ctx} {H:List HO} {loc:Nat->Loc} {ver:Nat->Nat} {w:World}
theorem jL {L:Core} {b:Nat}:L.head.ownBlock=some b↔L.blk.map (·.1)=some b:=by
 simp only[Core.head];cases h:L.blk with
 | none=>simp[Value.ownBlock]
 | some p=>simp[Value.ownBlock]
theorem Zu {e ei:TypeId} {t:Ty} (h:aBx P e=some (t,ei)):t.flat=true:=by
 unfold aBx at h;split at h
 ·split at h
  ·rename_i t' _;cases hf:t'.flat with
   | true=>rw[hf] at h;cases h;exact hf
   | false=>rw[hf] at h;cases h
  cases h
 cases h
theorem aEa {e:TypeId} (h:nilZ P e=true):∃i,P.info? e=some i/\i.zero=some (.slice none 0 0)/\i.size=1:=by
 unfold nilZ at h;split at h
 ·rename_i i hi;split at h
  ·rename_i hz;exact ⟨i,hi,hz,bK.1 h⟩
  cases h
 cases h
theorem Om {G:Ctx} {H':List HO} {loc':Nat->Loc} {ver':Nat->Nat} {w':World} {ty:Ty} {e ei:TypeId} {n c b:Nat} (hfl:ty.flat=true) (hnc:n<=c) (hc:c<=140737488355328) (hb:w'.heap[b]? =some (.cells (madeCells (Value.slice none 0 0).cells (c*1)) e (0,0))):
  OSat (envOf G H' loc' ver' w') (mkL (some (b,0)) n c) 1 (.vv 1 0 ty (List.replicate n []) none e ei):=by
 have hz:(Value.slice none 0 0).cells= #[.slice none 0 0]:=rfl;refine ⟨rfl,Nat.one_pos,rfl,si,by show n<=140737488355328;omega,⟨(madeCells (Value.slice none 0 0).cells (c*1)).toList.take (n*1),⟨?_,.inr ⟨b,c,madeCells (Value.slice none 0 0).cells (c*1),rfl,aK _,hb,hnc,by simp[maxLen];omega,by rw[size_madeCells];exact aN _,rfl⟩⟩,fun i hi=>?_⟩,fun b hb=>hb.elim,⟨hfl,fun i hi _=>?_,fun i j hi hj _ _ b hb=>by simp[sub0,Value.ownBlock] at hb,(fun j ys hp=>by cases hp),fun i hi=>?_⟩⟩
 ·rw[aY,jE,size_madeCells];show min (n*1) (c*1)=n*1;omega
 ·have hi:i<n:=hi;rw[aU,aD om,vR _ _ (by rw[hz];simp) _ om];have:(Value.slice none 0 0).cells.size=1:=by rw[hz];rfl
  rw[this,Nat.mod_one,hz];rfl
 ·have hi:i<n:=by simpa using hi
  have e1:(List.replicate n ([]:List ty.T)).getD i []= []:=by rw[aB,cZ,aD hi];rfl
  rw[e1];exact ⟨[],⟨si,.inl ⟨rfl,rfl⟩⟩,fun b hb=>by simp[sub0,Value.ownBlock] at hb,fun i hi=>absurd hi (bV _)⟩
 have hi:i<n:=by simpa using hi
 have e1:(List.replicate n ([]:List ty.T)).getD i []= []:=by rw[aB,cZ,aD hi];rfl
 rw[e1];exact aK _
theorem On {t:TypeId} {n c:SV} {p q:Value} {K:Int->Ty->TypeId->TypeId->Prop} {E:Env} (h:Gv P t n c K) (hn:Rel E n p) (hc:Rel E c q):
  ∃(nn:Int) (cc:Nat) (ty:Ty) (e ei:TypeId),K nn ty e ei/\ty.flat=true/\nn.toNat<=cc/\cc<=140737488355328/\∀w,(Instr.makeSlice t p q).run P w= .ok (.slice (some ⟨w.heap.size,0,none⟩) nn.toNat cc) (w.alloc (.cells (madeCells (Value.slice none 0 0).cells (cc*1)) e)):=by
 unfold Gv at h;split at h;case h_2=>cases h
 rename_i e kn nn kc nc he;obtain ⟨rfl,_⟩:=hn.int_inv;obtain ⟨rfl,_⟩:=hc.int_inv;split at h;case h_2=>cases h
 rename_i ty ei i hr hi;obtain ⟨hz,⟨⟨n1,n2,n3,n4⟩,hk⟩⟩:=bA h;obtain ⟨i',hi',hz1,hz2⟩:=aEa hz;rw[hi] at hi';cases hi';refine ⟨nn,nc.toNat,ty,e,ei,hk,Zu hr,om,om,fun w=>?_⟩;have:=run_make (P:=P) w t e i _ (iL he) hi hz1 kn kc nn nc n1 n2 (by rw[bJ];omega) om;rw[hz2] at this;exact this
theorem Vt (hI:Inv G H loc ver w) {t:TypeId} {n c:SV} {p q:Value} {K:SV->List HO->Prop} (h:Gv P t n c fun n ty e ei=>dA (H++ [.vv 1 0 ty (List.replicate n.toNat []) none e ei]) fun H'=>K (.ref H.length 1) H') (hn:Rel (envOf G H loc ver w) n p) (hc:Rel (envOf G H loc ver w) c q):
  ∃v w',(Instr.makeSlice t p q).run P w= .ok v w'/\Res G (envOf G H loc ver w) K v w':=by
 obtain ⟨nn,cc,ty,e,ei,hk,hfl,h1,h2,hr⟩:=On h hn hc;rw[bY] at hk;have hf:=hI.fresh (w':=w.alloc (.cells (madeCells (Value.slice none 0 0).cells (cc*1)) e)) (.vv 1 0 ty (List.replicate nn.toNat []) none e ei) (mkL (some (w.heap.size,0)) nn.toNat cc) 1 si rfl rfl rfl (fun b hb=>Below.heap_alloc w _ b hb)
  (by intro b hb;rcases hb with hb | hb; · simp at hb;omega
      ·exact hb.elim) (fun _=>Om hfl h1 h2 (kG w _))
 refine ⟨_,_,hr w,_,_,_,_,hk,hf.1,?_,hf.2⟩;refine .ref _ _ _ (by exact lD rfl) Nat.one_pos (by simp[envOf,aW]) fun _=>?_;simp[envOf,aW,Core.head]
theorem aCj (hI:Inv G H loc ver w) {nm k v s:Nat} {t:Ty} {xss:List (List t.T)} {pd:Option (Nat × List t.T)} {eo ei:TypeId} (ho:hget H nm= .vv v s t xss pd eo ei) (hb:Nat.beq v k=true) {x:Value} (hx:Rel (envOf G H loc ver w) (.ref nm k) x):x=(loc nm).head:=by
 obtain rfl:=bK.1 hb;obtain ⟨h1,_⟩:=hI.objs nm _ (aX ho si);cases hx with
 | ref _ _ _ hn h0 hk hv=>exact hv h1.symm
theorem Rp (hI:Inv G H loc ver w) {t:TypeId} {x i:SV} {p q:Value} {K:SV->Prop} (h:Ym P t H x i K) (hx:Rel (envOf G H loc ver w) x p) (hi:Rel (envOf G H loc ver w) i q):
  ∃v s,(Instr.indexAt t p q).run P w= .ok v w/\K s/\Rel (envOf G H loc ver w) s v:=by
 unfold Ym at h;split at h
 ·rename_i e nm k kn n he;split at h
  ·rename_i sz v s ty xss pd eo ei hs ho;obtain ⟨hb,hq⟩:=bA h;clear h;simp only[aE,bK] at hb;obtain ⟨rfl,rfl⟩:=hb;have hp:=aCj hI ho (gU _) hx;subst hp;obtain ⟨rfl,_⟩:=hi.int_inv;obtain ⟨hn,hk⟩:=hq;obtain ⟨g1,g2,g3,g4,g5,⟨vs,g6,g7⟩,g8,g9⟩:=hI.objs nm _ (aX ho si);have hlt:n.toNat<(loc nm).len:=by rw[g4];omega
   have hK:=hk.use hn.1;rcases dJ g6 with ⟨_,_,e3,_⟩ | ⟨g,cur,e1,_⟩
   ·omega
   cases hx with
   | ref _ _ _ hhas h0 hkk hv=>
    have hr:=qC (P:=P) (w:=w) (b:=g) (off:=0) (n:=(loc nm).len) (c:=(loc nm).cap) (k:=kn) (i:=n) he hs ⟨hn.1,om⟩;refine ⟨_,_,?_,hK,.vptr nm v n.toNat 1 0 _ hhas h0 hkk fun _=>⟨hlt,g,0,e1,rfl⟩⟩;have:(loc nm).head= .slice (some ⟨g,0,none⟩) (loc nm).len (loc nm).cap:=by simp[Core.head,e1]
    rw[this];simpa using hr
  cases h
 cases h
theorem Vu (hI:Inv G H loc ver w) {t:TypeId} {x:SV} {p:Value} {K:SV->Prop} (h:aGj P t H x K) (hx:Rel (envOf G H loc ver w) x p):
  ∃v s,(Instr.loadAt t p).run P w= .ok v w/\K s/\Rel (envOf G H loc ver w) s v:=by
 unfold aGj at h;split at h
 ·rename_i nm k i;split at h
  ·rename_i v s ty xss eo ei sz ho ha hs;obtain ⟨hb,hK⟩:=bA h;simp only[aE,bK] at hb;obtain ⟨rfl,rfl⟩:=hb;obtain ⟨g1,g2,g3,g4,g5,⟨vs,g6,g7⟩,g8,g9⟩:=hI.objs nm _ (aX ho si);cases hx with
   | vptr _ _ _ _ _ _ hn h0 hk hp=>
    obtain ⟨hlt,b,off,hbk,rfl⟩:=hp g1.symm;rcases dJ g6 with ⟨e0,_⟩ | ⟨g,cur,e1,e2,e3,e4,e5,e6,e7⟩
    ·rw[show (loc nm).blk=some (b,off) from hbk] at e0;cases e0
    have hbk:(loc nm).blk=some (b,off):=hbk;rw[hbk] at e1;cases e1;have hc:w.cell? ⟨b,0+i*1+0,none⟩=some ((loc nm).sub.rows i):=by
     have h7:=g7 i hlt;rw[<- e7,aU] at h7;split at h7
     ·have e3':w.heap[b]? =some (.cells cur _ (0,0)):=e3;simp only[World.cell?,e3'];simpa using h7
     cases h7
    refine ⟨_,_,vQ ha hc,hK,.sub nm v s i _ hn h0 hk (fun _=>qY g3.symm) fun _ _=>rfl⟩
  cases h
 cases h
theorem Zv (hI:Inv G H loc ver w) {x:SV} {p:Value} {K:SV->Prop} (h:lenV H x K) (hx:Rel (envOf G H loc ver w) x p):∃a n c s,p= .slice a n c/\K s/\Rel (envOf G H loc ver w) s (.int .i64 n):=by
 unfold lenV at h;split at h
 ·rename_i nm k;split at h
  ·rename_i v s ty xss pd eo ei ho;obtain ⟨hb,hK⟩:=bA h;have hp:=aCj hI ho hb hx;obtain ⟨g1,g2,g3,g4,g5,_⟩:=hI.objs nm _ (aX ho si);have g5:(loc nm).len<=140737488355328:=g5;refine ⟨_,(loc nm).len,_,_,hp,hK.go om,?_⟩;rw[g4];exact .val _ ⟨by simp[lo]<;>omega,by simp[hi]<;>omega⟩
  cases h
 cases h
theorem aHc {inf:TypeInfo} {n:Nat} (h:(match inf.zero with | some z=>Nat.beq z.cells.size n | none=>false)=true):∃z,inf.zero=some z/\z.cells.size=n:=by
 split at h
 ·rename_i z hz;exact ⟨z,hz,bK.1 h⟩
 cases h
theorem Nb (hI:Inv G H loc ver w) {t ty':TypeId} {x y:SV} {p q:Value} {K:SV->List HO->Prop} (h:Qo P t H x y K) (hx:Rel (envOf G H loc ver w) x p) (hy:Rel (envOf G H loc ver w) y q):
  ∃v w',(Builtin.append_ #[t,t] ty' #[p,q]).run P w= .ok v w'/\Res G (envOf G H loc ver w) K v w':=by
 unfold Qo at h;split at h;case h_2=>cases h
 rename_i e nm k s i he;split at h;case h_2=>cases h
 rename_i v s' ty xss eo ei inf ho hinf;obtain ⟨hb,hq⟩:=bA h;clear h;simp only[aE,bK] at hb;obtain ⟨⟨⟨⟨rfl,rfl⟩,hb4⟩,hb5⟩,hb6⟩:=hb;have hb5:0<inf.bytes:=by simpa using hb5
 obtain ⟨z,hz,hzs⟩:=aHc hb6;obtain ⟨⟨hi,rfl⟩,hq⟩:=hq;obtain ⟨ys,hys,hq⟩:=Nt hq;obtain ⟨hroom,hK⟩:=Cf hq;rw[bY] at hK;have hn':=aX ho si;have hlt:nm<H.length:=(aL.1 hn').1;obtain ⟨g1,g2,g3,g4,g5,⟨vs,g6,g7⟩,g8,g9⟩:=hI.objs nm _ hn';have hp:p=(loc nm).sub.rows i:=by
  cases hx with
  | sub _ _ _ _ _ hn h0 hk hs hv=>exact hv g1.symm g3.symm
 subst hp;obtain ⟨rs,r1,r2,r3⟩:=g9.row i hi (fun j ys hp=>by cases hp);obtain ⟨L0,hL0,hL0n⟩:=aG1 r1;rw[<- hL0] at r1;obtain ⟨a,c,news,hsrc⟩:=Ke hI hys hy;have hmax:(xss.getD i []).length+ys.length<=maxL:=by
  have h1:((xss.getD i []).length+ys.length)*1<=((xss.getD i []).length+ys.length)*inf.bytes:=oS _ hb5;show _<=140737488355328;omega
 obtain ⟨L',w',hr,hown2,⟨q1,q2,q3,q4,q5⟩,hfr⟩:=uI (P:=P) (w:=w) (t:=t) (ty:=ty') (tt:=ty) (iL he) hinf hz hb4 hzs r1 hsrc hroom hmax;rw[hL0] at hr;obtain ⟨Lx,hLx⟩:∃Lx:Loc,Lx= ⟨(loc nm).toCore,fun b=>((loc nm).al b/\L0.blk.map (·.1)≠some b)\/L'.head.ownBlock=some b,⟨s+1,(loc nm).sub.rows,L'.head,fun _=>none⟩⟩:=⟨_,rfl⟩;have hver:ver nm=v:=g1;have hrow0:∀b,L0.blk.map (·.1)=some b->(loc nm).al b:=fun b hb=>r2 b (by rw[<- hL0];exact jL.2 hb);have hne:∀b,(loc nm).blk.map (·.1)=some b->w'.heap[b]? =w.heap[b]? :=fun b hb=>by
  have hbl:=(hI.objs nm _ hn').block (b:=b) (.inl hb);exact q5 b hbl fun e=>(g8 b (hrow0 b e.symm)).2.1 hb
 have htn:=hI.turn (w':=w') (H':=hset H nm (.vv v (s+1) ty xss (some (i,xss.getD i []++ys)) eo e)) (loc':=upd loc nm Lx) (ver':=ver) nm (by simp[hset]) (fun k hk=>⟨bZ hk,cW _ _ _ hk,rfl⟩)
  (fun _=>eM (aQ hlt) rfl) (fun _=>.inl ⟨rfl,by rw[aW,hLx],.inr (by rw[aW,hLx];show (loc nm).sub.v<s+1;rw[g3];exact dT _)⟩) q4 q1 q2 q3 (by rw[hn'];intro h;cases h) (fun _=>by rw[show hset H nm _=H.set nm _ from rfl,aQ hlt];intro h;cases h)
  (fun st n it b h=>by rw[show hset H nm (.vv v (s+1) ty xss (some (i,xss.getD i []++ys)) eo e)=H.set nm _ from rfl,aQ hlt] at h;cases h)
  (fun b hb hno=>q5 b hb fun e=>hno _ hn' (.inr (hrow0 b e.symm)))
  (by
   intro o' b ho' hb;rw[show hset H nm (.vv v (s+1) ty xss (some (i,xss.getD i []++ys)) eo e)=H.set nm _ from rfl,aQ hlt] at ho';cases ho';rw[aW,hLx] at hb;rcases hb with hb | hb | hb
   ·exact .inl ⟨_,hn',.inl hb⟩
   ·exact .inl ⟨_,hn',.inr hb.1⟩
   rcases hfr b (jL.1 hb) with h | h
   ·exact .inl ⟨_,hn',.inr (hrow0 b h)⟩
   exact .inr h)
  (by
   intro hx' o' ho';rw[show hset H nm (.vv v (s+1) ty xss (some (i,xss.getD i []++ys)) eo e)=H.set nm _ from rfl,aQ hlt] at ho';cases ho';rw[aW];subst hLx;have hother:∀j,j<xss.length->j≠i->∀b,((loc nm).sub.rows j).ownBlock=some b->w'.heap[b]? =w.heap[b]? :=fun j hj hji b hb=>by
    obtain ⟨_,_,hal,_⟩:=g9.row j hj (fun j ys hp=>by cases hp);refine q5 b (g8 b (hal b hb)).1 fun e=>?_;have e1:L0.head.ownBlock=some b:=jL.2 e.symm;rw[hL0] at e1;exact g9.apart j i hj hi (fun k ys hp=>by cases hp) hji b hb e1
   refine ⟨g1,g2,rfl,g4,g5,⟨vs,xD g6 fun b hb=>hne b (jL.1 hb),g7⟩,fun b hb=>?_,⟨g9.flat,fun j hj hp=>?_,fun j1 j2 h1 h2 hp h3=>g9.apart j1 j2 h1 h2 (fun k ys hp=>by cases hp) h3,fun j zs hp=>?_,g9.short⟩⟩
   ·have hw':(envOf G (hset H nm (.vv v (s+1) ty xss (some (i,xss.getD i []++ys)) eo e)) (upd loc nm ⟨(loc nm).toCore,fun b=>((loc nm).al b/\L0.blk.map (·.1)≠some b)\/L'.head.ownBlock=some b,⟨s+1,(loc nm).sub.rows,L'.head,fun _=>none⟩⟩) ver w').w=w':=rfl;rw[hw'];rcases hb with ⟨hb,hb1⟩ | hb
    ·obtain ⟨m1,m2,c,e',m3⟩:=g8 b hb;exact ⟨aZ m1 q4,m2,c,e',(q5 b m1 fun e=>hb1 e.symm).trans m3⟩
    have hb0:=jL.1 hb;rcases dJ hown2 with ⟨f1,_⟩ | ⟨g,cur,f1,f2,f3,_⟩
    ·rw[f1] at hb0;cases hb0
    rw[f1] at hb0;have hgb:g=b:=by simpa using hb0
    subst hgb;refine ⟨(aF.1 f3).1,fun e0=>?_,cur,_,f3⟩;rcases hfr g (by rw[f1];rfl) with h | h
    ·exact (g8 g (hrow0 g h)).2.1 e0
    have:=(hI.objs nm _ hn').block (b:=g) (.inl e0);exact absurd (show g<w.heap.size from this) om
   ·have hji:j≠i:=hp i _ rfl;obtain ⟨rs',m1,m2,m3⟩:=g9.row j hj (fun j ys hp=>by cases hp);refine ⟨rs',xD m1 fun b hb=>hother j hj hji b hb,fun b hb=>.inl ⟨m2 b hb,fun e=>?_⟩,fun i hi=>(m3 i hi).mono hx'.cell hx'.ok⟩;have e1:L0.head.ownBlock=some b:=jL.2 e;rw[hL0] at e1;exact g9.apart j i hj hi (fun k ys hp=>by cases hp) hji b hb e1
   cases hp;refine ⟨hi,⟨rs++news,by rw[aS];exact hown2,fun b hb=>.inr hb,fun j hj=>?_⟩,fun j hj hji b hb=>?_⟩
   ·rw[aS] at hj;exact xG (ok':=fun _=>True) r1.1 (fun i hi=>(r3 i hi).mono hx'.cell hx'.ok) hsrc.len (fun i hi=>(hsrc.rd i hi).mono hx'.cell hx'.ok) j hj
   intro hb2;rcases hfr b (jL.1 hb) with h | h
   ·have e1:L0.head.ownBlock=some b:=jL.2 h;rw[hL0] at e1;exact g9.apart j i hj hi (fun k ys hp=>by cases hp) hji b hb2 e1
   obtain ⟨_,_,hal,_⟩:=g9.row j hj (fun j ys hp=>by cases hp);have:=(g8 b (hal b hb2)).1
   exact absurd (show b<w.heap.size from this) om)
 refine ⟨_,_,hr,_,_,_,_,hK,htn.1,?_,htn.2⟩;refine .subp nm v (s+1) _ (eM (aQ hlt) rfl) g2 (qY g1.symm) (fun _=>by show s+1<=(upd loc nm Lx nm).sub.v;rw[aW,hLx];exact aN _) fun _ _=>?_;show L'.head=(upd loc nm Lx nm).sub.pnd;rw[aW,hLx]
theorem Rq (hI:Inv G H loc ver w) {t:TypeId} {x y:SV} {p q:Value} {K:List HO->Prop} (h:Yn P t H x y K) (hx:Rel (envOf G H loc ver w) x p) (hy:Rel (envOf G H loc ver w) y q):
  ∃H' loc' w',(Instr.storeAt t p q).run P w= .ok () w'/\K H'/\Inv G H' loc' ver w'/\Ext (envOf G H loc ver w) (envOf G H' loc' ver w'):=by
 unfold Yn at h;split at h;case h_2=>cases h
 rename_i nm k i nm' k' s';split at h;case h_2=>cases h
 rename_i v s ty xss j ys eo ei sz ho hs;obtain ⟨hb,hq⟩:=bA h;clear h;simp only[aE,bK] at hb;obtain ⟨⟨⟨rfl,rfl⟩,rfl⟩,rfl⟩:=hb;obtain ⟨⟨rfl,rfl⟩,⟨hys,hK⟩⟩:=hq;rw[bY] at hK;have hn':=aX ho si;have hlt:nm<H.length:=(aL.1 hn').1;obtain ⟨g1,g2,g3,g4,g5,⟨vs,g6,g7⟩,g8,g9⟩:=hI.objs nm _ hn';have hver:ver nm=v:=g1;have hp:q=(loc nm).sub.pnd:=by
  cases hy with
  | subp _ _ _ _ hn h0 hk hs hv=>exact hv g1.symm g3.symm
 subst hp;obtain ⟨hj,⟨rs,r1,r2,r3⟩,r4⟩:=g9.grown j ys rfl;have hone:(loc nm).sub.pnd.oneCell'=true/\(loc nm).sub.pnd.cells.toList= [(loc nm).sub.pnd]:=by
  rcases r1.2 with ⟨e,_⟩ | ⟨g,cap,cur,e,_⟩<;>rw[e]<;>exact ⟨rfl,rfl⟩
 cases hx with
 | vptr _ _ _ _ _ _ hn h0 hk hpp=>
  obtain ⟨hlt2,b,off,hbk,rfl⟩:=hpp g1.symm;have hbk:(loc nm).blk=some (b,off):=hbk;have hlt2:j<(loc nm).len:=hlt2;rcases dJ g6 with ⟨e1,_⟩ | ⟨g,cur,e1,e2,e3,e4,e5,e6,e7⟩
  ·rw[hbk] at e1;cases e1
  rw[hbk] at e1;cases e1;have hcur:w.heap[b]? =some (.cells ⟨cur.toList⟩ eo (0,0)):=e3;have hcurl:(loc nm).cap<=cur.toList.length:=by simpa using e6
  have hrun:=vE (P:=P) (w:=w) (v:=(loc nm).sub.pnd) (off:=0+j*1+0) hs hcur (by rw[hone.2];rfl) (fun u hu=>by rw[hone.2] at hu;rw[bO.1 hu];exact hone.1) om;rw[hone.2] at hrun;obtain ⟨w',hw'⟩:∃w',w'=w.setRow b ⟨kC cur.toList (0+j*1+0) [(loc nm).sub.pnd]⟩:=⟨_,rfl⟩;rw[<- hw'] at hrun;have hwb:w'.heap[b]? =some (.cells ⟨kC cur.toList (0+j*1+0) [(loc nm).sub.pnd]⟩ eo (0,0)):=by rw[hw'];exact setRow_heap w b _ _ eo _ hcur
  have hwo:∀b',b'≠b->w'.heap[b']? =w.heap[b']? :=fun b' hb'=>by rw[hw'];exact setRow_other w b b' _ hb'
  obtain ⟨Lx,hLx⟩:∃Lx:Loc,Lx= ⟨(loc nm).toCore,(loc nm).al,⟨s+1,upd (loc nm).sub.rows j (loc nm).sub.pnd,(loc nm).sub.pnd,fun _=>none⟩⟩:=⟨_,rfl⟩;have hwal:∀b',(loc nm).al b'->w'.heap[b']? =w.heap[b']? :=fun b' hb'=>hwo b' fun e=>(g8 b' hb').2.1 (by rw[hbk,e];rfl);have htn:=hI.turn (w':=w') (H':=hset H nm (.vv v (s+1) ty (xss.set j ys) none eo ei)) (loc':=upd loc nm Lx) (ver':=ver) nm (by simp[hset]) (fun k hk=>⟨bZ hk,cW _ _ _ hk,rfl⟩)
   (fun _=>eM (aQ hlt) rfl) (fun _=>.inl ⟨rfl,by rw[aW,hLx],.inr (by rw[aW,hLx];show (loc nm).sub.v<s+1;rw[g3];exact dT _)⟩) (by rw[hw'];simp) (by rw[hw'];rfl) (by rw[hw'];rfl) (by rw[hw'];rfl) (by rw[hn'];intro h;cases h) (fun _=>by rw[show hset H nm _=H.set nm _ from rfl,aQ hlt];intro h;cases h)
   (fun st n it b h=>by rw[show hset H nm (.vv v (s+1) ty (xss.set j ys) none eo ei)=H.set nm _ from rfl,aQ hlt] at h;cases h)
   (fun b' hb hno=>hwo b' fun e=>hno _ hn' (.inl (by rw[hbk,e];rfl)))
   (by
    intro o' b' ho' hb;rw[show hset H nm (.vv v (s+1) ty (xss.set j ys) none eo ei)=H.set nm _ from rfl,aQ hlt] at ho';cases ho';rw[aW,hLx] at hb
    exact .inl ⟨_,hn',hb⟩)
   (by
    intro hx' o' ho';rw[show hset H nm (.vv v (s+1) ty (xss.set j ys) none eo ei)=H.set nm _ from rfl,aQ hlt] at ho';cases ho';rw[aW];subst hLx;have hkeep:∀ {h:Value} {xs:List ty.T},RowAt (envOf G H loc ver w) (loc nm).al ty ei h xs->RowAt (envOf G (hset H nm (.vv v (s+1) ty (xss.set j ys) none eo ei)) (upd loc nm ⟨(loc nm).toCore,(loc nm).al,⟨s+1,upd (loc nm).sub.rows j (loc nm).sub.pnd,(loc nm).sub.pnd,fun _=>none⟩⟩) ver w') (loc nm).al ty ei h xs:=fun hr=>hr.ext hx'.toExt0 hwal;have hrow:∀m,m<xss.length->(xss.set j ys).getD m []=if m=j then ys else xss.getD m []:=fun m hm=>by
     rw[aB,eP];by_cases e:m=j
     ·subst e;simp[hm]
     rw[aC (fun h=>e h.symm),aC e,aB]
    refine ⟨g1,g2,rfl,by simpa using g4,g5,⟨(kC cur.toList (0+j*1+0) [(loc nm).sub.pnd]).take ((loc nm).len*1),⟨by rw[aY,qN];show min ((loc nm).len*1) cur.toList.length=(loc nm).len*1;omega,.inr ⟨b,(loc nm).cap,_,by simp[Core.head,hbk],aK _,hwb,e4,e5,by show _<=(kC cur.toList _ _).length;rw[qN];omega,rfl⟩⟩,fun m hm=>?_⟩,fun b' hb'=>?_,⟨g9.flat,fun m hm _=>?_,fun m1 m2 h1 h2 _ h3 b' hb1 hb2=>?_,(fun j ys hp=>by cases hp),fun m hm=>?_⟩⟩
    ·have hm:m<(loc nm).len:=hm;rw[aU,aD om,wB _ _ _ _ (by simp;omega)];show _=some (upd (loc nm).sub.rows j (loc nm).sub.pnd m);by_cases e:m=j
     ·subst e;rw[aW,aD si];have:m-(0+m*1+0)=0:=om;rw[this];rfl
     rw[cW _ _ _ e,aC (by simp;omega)];have:=g7 m hm;rw[<- e7,aU,aD om] at this;exact this
    ·obtain ⟨m1,m2,c,e',m3⟩:=g8 b' hb';exact ⟨by show b'<w'.heap.size;rw[hw'];simpa using (show b'<w.heap.size from m1),m2,c,e',(hwal b' hb').trans m3⟩
    ·have hm:m<xss.length:=by simpa using hm
     rw[hrow m hm];show RowAt _ _ _ _ (upd (loc nm).sub.rows j (loc nm).sub.pnd m) _;by_cases e:m=j
     ·subst e;rw[aW,aD rfl];exact hkeep ⟨rs,r1,r2,r3⟩
     rw[cW _ _ _ e,aC e];exact hkeep (g9.row m hm fun k ys hp=>by cases hp;exact e)
    ·have k1:m1<xss.length:=by simpa using h1
     have k2:m2<xss.length:=by simpa using h2
     have kb1:(upd (loc nm).sub.rows j (loc nm).sub.pnd m1).ownBlock=some b':=hb1;have kb2:(upd (loc nm).sub.rows j (loc nm).sub.pnd m2).ownBlock=some b':=hb2;by_cases q1:m1=j
     ·subst q1;have q2:m2≠m1:=fun e=>h3 e.symm;rw[aW] at kb1;rw[cW _ _ _ q2] at kb2;exact r4 m2 k2 q2 b' kb1 kb2
     rw[cW _ _ _ q1] at kb1;by_cases q2:m2=j
     ·subst q2;rw[aW] at kb2;exact r4 m1 k1 q1 b' kb2 kb1
     rw[cW _ _ _ q2] at kb2;exact g9.apart m1 m2 k1 k2 (fun k ys hp=>by cases hp;exact ⟨q1,q2⟩) h3 b' kb1 kb2
    have hm:m<xss.length:=by simpa using hm
    rw[hrow m hm];split
    ·exact hys
    exact g9.short m hm)
  exact ⟨_,_,_,hrun,hK,htn.1,htn.2⟩
end
end Go.Eng
end
section
namespace Go.Eng
open Go.RowKit
theorem rM {t t':Ty} {xs:List t.T} {ys:List t'.T} (h:Bj t t' xs ys):SV.seq t xs= .seq t' ys:=by
 unfold Bj at h;split at h
 ·rename_i e;subst e;rw[Dc] at h;simp only at h;rw[h]
 cases h
mutual
theorem mS {E:Env}:∀ {a b:SV},ent a b->∀ {v:Value},Rel E a v->Rel E b v
 | a,b,h,v,hr=>by
  unfold ent at h;split at h
  ·exact .any v
  ·obtain ⟨rfl,rfl⟩:=h;exact hr
  ·subst h;exact hr
  ·rename_i q d;cases hr;have:(Value.bool true)= .bool (@decide q d):=by simp[h]
   rw[this];exact .bl _ _
  ·rename_i q d;cases hr;have:(Value.bool false)= .bool (@decide q d):=by simp[h]
   rw[this];exact .bl _ _
  ·rename_i p d1 q d2;cases hr;have:(Value.bool (@decide p d1))= .bool (@decide q d2):=by
    congr 1
    exact decide_eq_decide.2 h
   rw[this];exact .bl _ _
  ·rename_i p d b;cases hr;have:(Value.bool (@decide p d))= .bool b:=by
    congr 1
    cases b
    ·simp at h;simp[h]
    simp at h;simp[h]
   rw[this];exact .val _ trivial
  ·subst h;exact hr
  ·subst h;exact hr
  ·rw[<- rM h];exact hr
  ·subst h;cases hr;exact .seq _ _ _ (Aj _ _ _)
  ·obtain ⟨rfl,rfl⟩:=h;exact hr
  ·obtain ⟨rfl,rfl⟩:=h;exact hr
  ·subst h;exact hr
  ·subst h;exact hr
  ·subst h;exact hr
  ·subst h;exact hr
  ·cases hr with
   | fmp _ _ b c es hok hb hk hl=>
    obtain ⟨rfl,h2⟩:=h;exact .fmp _ _ b c es hok hb hk (iY h2 hl)
  ·cases hr with
   | agg _ vs hl=>exact .agg _ _ (iY h hl)
  ·cases hr with
   | tup _ vs hl=>exact .tup _ _ (iY h hl)
  ·cases hr with
   | clo _ _ _ va vb ha hb=>
    obtain ⟨rfl,h1,h2⟩:=h;exact .clo _ _ _ _ _ (iY h1 ha) (iY h2 hb)
  ·cases hr with
   | lit _ n b off _ vs hl hn hok hr=>
    obtain ⟨rfl,h1⟩:=h;exact .lit _ n b off _ vs (iY h1 hl) hn hok hr
  ·cases hr with
   | lelem _ i b off vs hl hok hr=>
    obtain ⟨rfl,h1⟩:=h;exact .lelem _ _ b off vs (iY h1 hl) hok hr
  ·exact hr
  ·cases hr;exact .ifc _ (.inl rfl)
  cases h
theorem iY {E:Env}:∀ {l l':List SV},ent.entL l l'->∀ {vs:List Value},RelL E l vs->RelL E l' vs
 | [],[],_,_,.nil=>.nil
 | x::r,y::r',h,_,.cons _ _ _ _ h1 h2=>.cons _ _ _ _ (mS h.1 h1) (iY h.2 h2)
end
section
variable {P:Program} {G:Ctx} {H:List HO} {loc:Nat->Loc} {ver:Nat->Nat} {w:World}
theorem dV (hI:Inv G H loc ver w) {F:Fence} {o:Oper} {a:Act} {K:SV->List HO->Prop} {v:Value} {s:SV} (hr:(execOp a.eval o).run P w= .ok (.value v) w) (hk:K s H) (hs:Rel (envOf G H loc ver w) s v):
  OpOK P F o a w (Res G (envOf G H loc ver w) K):=.value _ _ hr (.pure hI hk hs)
theorem Va {E:Env} {xs:List Int} {a:Option Addr} {n c:Nat} (h:Reads E.w E.ok (.slice (.int .u8)) xs [.slice a n c]):(Conv.bytesToString (.slice a n c)).run P E.w= .ok (.string ⟨(fE xs).toArray⟩) E.w/\(fE xs).length<=maxL:=by
 obtain ⟨a',n',c',e,hn,hc,hm,hr⟩:=h;cases e;have hlen:(fE xs).length=n:=by simp[fE,hn]
 refine ⟨?_,by rw[hlen];exact hm⟩;by_cases h0:0<n
 ·obtain ⟨b,off,rfl,hok,hel⟩:=hr h0;have hcell:∀j (hj:j<(fE xs).length),E.w.cell? ((⟨b,off,none⟩:Addr).add j)=some (.int .u8 ((fE xs)[j].toNat:Int)):=by
   intro j hj;have hj':j<n:=by rw[<- hlen];exact hj
   obtain ⟨es,h1,h2,h3,h4⟩:=hel j hj';subst h3;have:=h2 0 _ rfl;simp only[Ty.size,vI,Nat.add_zero] at this;have hx:(List.getD (α:=Int) xs j 0)=xs[j]'(by omega):=by
    simp[aB,show j<xs.length by omega]
   have h4':(0:Int)<=List.getD (α:=Int) xs j 0/\List.getD (α:=Int) xs j 0<=255:=h4;have e2:((fE xs)[j].toNat:Int)=List.getD (α:=Int) xs j 0:=by
    rw[hx] at h4' ⊢;simp only[fE,List.getElem_map,mE];omega
   rw[e2];have ea:(⟨b,off,none⟩:Addr).add j= ⟨b,off+j,none⟩:=by unfold Addr.add;split<;>simp_all
   rw[ea];exact this
  have hl:=run_loadCells_list (P:=P) E.w ⟨b,off,none⟩ (((fE xs).map (fun b=>(b.toNat:Int))).map (Value.int .u8)) (fun j v hj=>by
   have hj':j<(fE xs).length:=by
    have:=(aL.1 hj).1;simpa using this
   rw[hcell j hj'];simp[aM hj'] at hj
   rw[<- hj])
  simp only[iB] at hl;rw[hlen] at hl;rw[run_bytesToString E.w ⟨b,off,none⟩ n c _ hl,foldl_push_byteCells];have he0:ByteArray.empty.data= #[]:=rfl;rw[he0];simp
 have hx:xs= []:=cF om;have hn0:n=0:=om;subst hx hn0;cases a with
 | none=>rfl
 | some a=>
  have hl:=run_loadCells_list (P:=P) E.w a [] (fun j v hj=>by simp at hj);exact run_bytesToString E.w a 0 c [] (by simpa using hl)
theorem Yw (hI:Inv G H loc ver w) {s d:TypeId} {s0:SV} {v:Value} {K:SV->Prop} (h:Yi P H s d s0 K) (hx:Rel (envOf G H loc ver w) s0 v):∃v' s',(convert s d v).run P w= .ok v' w/\K s'/\Rel (envOf G H loc ver w) s' v':=by
 unfold Yi at h;split at h
 ·rename_i ks kd k n hs hd;obtain ⟨rfl,_⟩:=hx.int_inv;obtain ⟨h1,h2⟩:=Ac h;exact ⟨_,_,by simp[convert,run_underlying hs,run_underlying hd,Conv.intToInt,xE h1],h2,.val _ h1⟩
 ·rename_i l hs hd;cases hx with
  | str _ hl=>exact ⟨_,_,by simp[convert,run_underlying hs,run_underlying hd],h,.str _ hl⟩
 ·rename_i e hs hd;have hv:=Dq (H:=H) (lend:=true) (Dp (G:=G)) (fun _ _ _ h=>sE hI Dp rfl h rfl (fun b l e ho hb=>(hI.objs _ _ (aX ho si)).block (b:=b) hb) fun nm k v h=>jJ hI h) (fun nm k v h=>jJ hI h) (fun nm k i v h=>nJ hI rfl h (.inl rfl) fun b k t xs ho hb=>(hI.objs _ _ (aX ho si)).block (b:=b) hb) (fun nm v h=>tD hI Dp (.inl rfl) h) hx;split at h
  ·rename_i xs he hvw;rw[hvw] at hv;cases hv with
   | seq _ _ _ hr=>
    obtain ⟨a,n,c,e1,_⟩:=id hr;cases e1;obtain ⟨h1,h2⟩:=Va (P:=P) hr;exact ⟨_,_,(run_convert_bytes_string w s d e a n c hs he hd).trans h1,h,.str _ h2⟩
  cases h
 cases h
theorem Yx {E:Env} {a b c:SV} {va vb vc:Value} {K:SV->Prop} (h:Ya a b c K) (ha:Rel E a va) (hb:Rel E b vb) (hc:Rel E c vc):∃bb s,(asBool vc).run P w= .ok bb w/\K s/\Rel E s (if bb then va else vb):=by
 unfold Ya at h;split at h
 ·cases hc.bool_inv;rw[jR] at h;exact ⟨true,_,rfl,h,ha⟩
 ·cases hc.bool_inv;rw[jR] at h;exact ⟨false,_,rfl,h,hb⟩
 ·rename_i p d;cases hc;simp only[jR] at h;by_cases hp:p
  ·exact ⟨true,_,by simp[asBool,hp],h.yes hp,ha⟩
  exact ⟨false,_,by simp[asBool,hp],h.no hp,hb⟩
 cases h
theorem Hi {a:Act} {c:Call} {f:Operand} {t:TypeId} {g:FuncId} {va vb:List Value} (hc:c.callee= .value f) (hf:a.eval f= .func (.func g) ⟨va⟩ ⟨vb⟩):
  ((do let d <- resolve a.eval c t;invoke d.target d.args):Sem Next).run P w=(callFunc g ⟨va++c.args.toList.map a.eval++vb⟩).run P w:=by
 have e:(⟨va⟩++c.args.map a.eval++ ⟨vb⟩:Array Value)= ⟨va++c.args.toList.map a.eval++vb⟩:=by
  apply fG;simp
 simp only[resolve,hc,hf,Deferred.ofValue,Sem.run_bind,Sem.run_pure,Result.andThen_ok,invoke];rw[<- e]
theorem jK {a:Act} {c:Call} {b:Builtin} {t:TypeId} (hc:c.callee= .builtin b):
  ∃cs:Array Bool,((do let d <- resolve a.eval c t;invoke d.target d.args):Sem Next).run P w=(builtin b c.argTypes t cs (c.args.map a.eval)).run P w:=by
 refine ⟨c.args.map fun | .const _=>true | _=>false,?_⟩;simp only[resolve,hc,Sem.run_bind,Sem.run_pure,Result.andThen_ok,invoke];rfl
theorem wH {c:Call} {a:Act} {x:Operand} (h:c.args.toList= [x]):c.args.map a.eval= #[a.eval x]:=by
 apply fG;simp[h]
theorem Dt {c:Call} {a:Act} {x y:Operand} (h:c.args.toList= [x,y]):c.args.map a.eval= #[a.eval x,a.eval y]:=by
 apply fG;simp[h]
theorem Oc {E E':Env} {s:SV} {v:Value} (h:Rel E s v):Rel E' (aBl s) v:=by
 cases h with
 | val _ h=>exact .val v h
 | bl p d=>exact .bl p d
 | str s h=>exact .str s h
 | _=>exact .any _
theorem Ki {E E':Env}:∀ {l:List SV} {vs:List Value},RelL E l vs->RelL E' (l.map aBl) vs
 | _,_,.nil=>.nil
 | _,_,.cons _ _ _ _ h hl=>.cons _ _ _ _ (Oc h) (Ki hl)
theorem Od {E E':Env} {s:SV} {v:Value} (h:Rel E s v):Rel E' (Tu s) v:=by
 cases s with
 | agg l=>cases h with
  | agg _ vs hl=>exact .agg _ _ (Ki hl)
 | _=>exact Oc h
theorem aG4 (hI:Inv G H loc ver w) {st:Option Nat} {n:Nat} {items:Nat->List SV} (ho:H[0]? =some (.yst st n items)) {s:SV} {v:Value} (h:Rel (envOf G H loc ver w) s v):
  Rel (env0 w fun b=>G.itr.n0<=b/\b<w.heap.size/\¬(loc 0).al b) (yldV H s) v:=by
 cases s with
 | ref nm k=>
  simp only[yldV];split
  ·rename_i j t xs e hg;cases hc:(Nat.beq j k&&t.flat) with
   | false=>exact .any v
   | true=>
    simp only[aE] at hc;obtain rfl:=bK.1 hc.1;have hn:=aX hg si;have hO:=hI.objs nm _ hn;cases h with
    | ref _ _ _ _ _ _ hv=>
     have:=hv hO.1.symm;subst this;have hblk:∀b,(loc nm).blk.map (·.1)=some b->G.itr.n0<=b/\b<w.heap.size/\¬(loc 0).al b:=fun b hb=>by
      have h1:¬(loc 0).al b:=fun ha=>by
       have:=hI.sep nm 0 _ _ b hn ho hb ha;subst this;rw[hn] at ho;cases ho
      refine ⟨aH fun h2=>?_,hO.block (b:=b) hb,h1⟩;obtain ⟨_,_,_,_,_,hk,_⟩:=hI.objs 0 _ ho;exact (hk b (wS h2) h1).2.2.2 ⟨nm,_,hn,hb⟩
     obtain ⟨o1,o2,o3,o4,vs,o5,o6⟩:=hO;exact .seq t xs _ (Ao (E:=env0 w fun _=>False) (v:=j) (k:=j) (e:=e) ⟨rfl,o2,o3,o4,vs,o5,fun i hi=>Reads.flatJ hc.2 (o6 i hi)⟩ (fun _ h=>h.elim) hblk)
  exact .any v
 | _=>exact Od h
theorem Oe (hI:Inv G H loc ver w) {st:Option Nat} {n:Nat} {items:Nat->List SV} (ho:H[0]? =some (.yst st n items)) {N:Nat} {l:List (Nat × SV)} {a:Act} (hT:TRel (envOf G H loc ver w) N l a):∀xs:List Operand,
  RelL (env0 w fun b=>G.itr.n0<=b/\b<w.heap.size/\¬(loc 0).al b) (xs.map fun x=>yldV H (Eng.ev l x)) (xs.map a.eval)
 | []=>.nil
 | x::xs=>.cons _ _ _ _ (aG4 hI ho (nI hT x)) (Oe hI ho hT xs)
theorem Vb (hY:COK P G) (hI:Inv G H loc ver w) {k n:Nat} {items:Nat->List SV} {us:List Value} (ho:hget H 0= .yst (some k) n items) (hk:k<n) (hu:RelL (env0 w fun b=>G.itr.n0<=b/\b<w.heap.size/\¬(loc 0).al b) (items k) us)
  {K:SV->List HO->Prop} (h1:K (.val (.bool true)) (hset H 0 (.yst (some (k+1)) n items))) (h2:K (.val (.bool false)) (hset H 0 (.yst none n items))):
  YieldAt Fence.wide 0 P G.itr.l ⟨us⟩ w fun e w'=>∃v,e= .returned v/\Res G (envOf G H loc ver w) K v w':=by
 have hn':=aX ho si;have hlt:0<H.length:=(aL.1 hn').1;obtain ⟨hv,hal,hn0,hn,hit,hok,hJ⟩:=hI.objs 0 _ hn';have hn0':G.itr.n0<=w.heap.size:=hn0;have hn2:n=G.itr.n:=hn;have hit2:items=G.itr.items:=hit;subst hn2;subst hit2;refine (hY.1 k _ w us hk hJ hu).mono ?_;rintro e w' ⟨b,rfl,hJ',hK⟩;refine ⟨_,rfl,?_⟩;have key:∀st,G.itr.J st (fun b=>G.itr.n0<=b/\b<w.heap.size/\¬(loc 0).al b) w'->
   ∃loc' ver',Inv G (hset H 0 (.yst st G.itr.n G.itr.items)) loc' ver' w'/\Ext (envOf G H loc ver w) (envOf G (hset H 0 (.yst st G.itr.n G.itr.items)) loc' ver' w'):=by
  intro st hst;refine ⟨upd loc 0 { loc 0 with al:=fun b=>(loc 0).al b\/(w.heap.size<=b/\b<w'.heap.size) },upd ver 0 (ver 0+1),?_⟩;refine hI.turn 0 (by simp[hset]) (fun k hk=>⟨bZ hk,cW _ _ _ hk,cW _ _ _ hk⟩) (fun _=>eM (aQ hlt) rfl) (fun _=>.inr ⟨hv,by rw[aW];omega⟩) hK.size hK.os hK.tape hK.output
   (by rw[hn'];intro h;cases h) (fun _=>by first | rw[show hset H nm _=H.set nm _ from rfl,aQ hlt];intro h;cases h | rw[show hset H 0 _=H.set 0 _ from rfl,aQ hlt];intro h;cases h) ?_ ?_ ?_ ?_
  ·intro st' n' it' b hb hb2;rw[aW] at hb2;rcases hb2 with h | h
   ·exact .inl ⟨_,_,_,hn',h⟩
   exact .inr h.1
  ·intro b hb hno;have hna:¬(loc 0).al b:=hno _ hn';refine hK.blk b ?_ hb;by_cases hlt:b<G.itr.n0
   ·exact .inl (hok b hlt hna).1
   exact .inr ⟨oK hlt,hb,hna⟩
  ·intro o' b ho' hb;rw[show hset H 0 _=H.set 0 _ from rfl,aQ hlt] at ho';cases ho';rw[aW] at hb;rcases hb with h | h
   ·exact .inl ⟨_,hn',h⟩
   exact .inr h.1
  intro hx o' ho';rw[show hset H 0 (.yst st G.itr.n G.itr.items)=H.set 0 _ from rfl,aQ hlt] at ho';cases ho';rw[aW,aW];refine ⟨mC _,?_,bL hn0 hK.size,rfl,rfl,fun b hb hna=>?_,?_⟩
  ·rintro b (h | h)
   ·exact aZ (hal b h) hK.size
   exact h.2
  ·obtain ⟨h1,h2⟩:=hok b hb (fun h=>hna (.inl h));exact ⟨h1,hx.ok b h2⟩
  refine cast (aP (fun M=>G.itr.J st M w') (funext fun b=>propext ⟨?_,?_⟩)) hst
  ·rintro ⟨h3,h4,h5⟩;have h4':b<w.heap.size:=h4;exact ⟨h3,aZ h4 hK.size,fun h=>h.elim h5 fun h=>by have:=h.1;omega⟩
  rintro ⟨h3,h4,h5⟩;have h4':b<w'.heap.size:=h4;by_cases h6:b<w.heap.size
  ·exact ⟨h3,h6,fun h=>h5 (.inl h)⟩
  exact (h5 (.inr ⟨om,h4'⟩)).elim
 cases b with
 | true=>
  obtain ⟨loc',ver',h3,h4⟩:=key _ hJ';exact ⟨_,_,loc',ver',h1,h3,.val _ trivial,h4⟩
 | false=>
  obtain ⟨loc',ver',h3,h4⟩:=key _ hJ';exact ⟨_,_,loc',ver',h2,h3,.val _ trivial,h4⟩
theorem My {a:Act} {c:Call} {f:Operand} {t:TypeId} {l:Nat} (hc:c.callee= .value f) (hf:a.eval f= .func (.yield l) #[] #[]):
  ((do let d <- resolve a.eval c t;invoke d.target d.args):Sem Next).run P w=(Instr.yield l ⟨c.args.toList.map a.eval⟩).run P w:=by
 have e:(#[]++c.args.map a.eval++ #[]:Array Value)= ⟨c.args.toList.map a.eval⟩:=by
  apply fG;simp
 simp only[resolve,hc,hf,Deferred.ofValue,Sem.run_bind,Sem.run_pure,Result.andThen_ok,invoke];rw[<- e,Array.append_empty]
theorem Rel.seq_inv {E:Env} {t:Ty} {xs:List t.T} {v:Value} (h:Rel E (.seq t xs) v):∃a n c,v= .slice a n c/\(a=none->xs= []):=by
 cases h with
 | seq _ _ _ hr=>
  obtain ⟨a,n,c,e,hn,_,_,hall⟩:=hr;cases e;refine ⟨a,n,c,rfl,fun ha=>?_⟩;have hn':n=List.length xs:=hn;by_cases h0:0<n
  ·obtain ⟨b,off,hb,_⟩:=hall h0;rw[ha] at hb;cases hb
  exact cF om
theorem Rel.nil_inv {E:Env} {v:Value} (h:Rel E (.val (.slice none 0 0)) v):v= .slice none 0 0:=by cases h;rfl
theorem Rel.str_inv {E:Env} {s:Bx} {v:Value} (h:Rel E (.str s) v):v= .string ⟨s.toArray⟩:=by cases h;rfl
def aG5:SV->Prop->Prop
 | .val (.bool b),p=>p↔b=true
 | .bl q _,p=>p↔q
 | _,_=>False
theorem Rel.bool_is {E:Env} {s:SV} {v:Value} (h:Rel E s v) {p:Prop} (hs:aG5 s p):∃b:Bool,v= .bool b/\(p↔b=true):=by
 cases h with
 | val v hv=>cases v<;>first | exact ⟨_,rfl,hs⟩ | exact hs.elim
 | bl q d=>exact ⟨_,rfl,by simpa [aG5] using hs⟩
 | _=>cases hs
theorem mY (op:BinOp) (t:TypeId) (x y:Operand) (a b:Option Addr) (n c n' c':Nat):(eqGuard op t x y (.slice a n c) (.slice b n' c')).run P w= .ok () w:=by
 unfold eqGuard;split<;>rfl
theorem Hz (op:BinOp) (t:TypeId) (x y:Operand) (a b:ByteArray):(eqGuard op t x y (.string a) (.string b)).run P w= .ok () w:=by
 unfold eqGuard;split<;>rfl
theorem Fl (op:BinOp) (t:TypeId) (x y:Operand) (a b:Bool):(eqGuard op t x y (.bool a) (.bool b)).run P w= .ok () w:=by
 unfold eqGuard;split<;>rfl
theorem vF {E:Env} {op:BinOp} {t:TypeId} {a:Option Addr} {n c:Nat} {p:Prop} {K:SV->Prop} (ht:Ad P t=true) (h:Dd op p K) (hp:a=none->p):
  ∃v s,(binOp op t (.slice a n c) (.slice none 0 0)).run P w= .ok v w/\K s/\Rel E s v:=by
 unfold Ad at ht;split at ht
 ·rename_i e hu;have hd:∀q:Prop,∀b:Bool,(q↔b=true)->Rel E (.bl q (Classical.propDecidable q)) (.bool b):=fun q b hq=>by
   have:b= @decide q (Classical.propDecidable q):=by cases b<;>simp_all
   rw[this];exact .bl _ _
  unfold Dd at h;split at h
  ·refine ⟨.bool a.isNone,_,?_,h (a=none) hp,hd _ _ (by cases a<;>simp)⟩;simp only[binOp];simp[run_equal_slice_nil w t e a n c hu]
  ·refine ⟨.bool (!a.isNone),_,?_,h (¬a=none) (fun hq=>hp (bC.1 hq)),hd _ _ (by cases a<;>simp)⟩;simp only[binOp];simp[run_equal_slice_nil w t e a n c hu]
  cases h
 cases ht
theorem Vc {E:Env} {op:BinOp} (t:TypeId) {s s':Bx} {K:SV->Prop} (h:aGd op s s' K):
  ∃v u,(binOp op t (.string ⟨s.toArray⟩) (.string ⟨s'.toArray⟩)).run P w= .ok v w/\K u/\Rel E u v:=by
 unfold aGd at h;split at h
 ·refine ⟨.bool (decide (s=s')),_,?_,h,.bl _ _⟩;simp[binOp,Op.stringOp,xN];exact mQ.2 si
 ·refine ⟨.bool (decide (¬s=s')),_,?_,h,.bl _ _⟩;simp[binOp,Op.stringOp,xN];exact mQ.2 si
 ·obtain ⟨h1,h2⟩:=h;refine ⟨.string ⟨(s++s').toArray⟩,_,?_,h2,.str _ (by simpa using h1)⟩;have e1:(⟨s.toArray⟩:ByteArray).size=s.length:=by simp[ByteArray.size]
  have e2:(⟨s'.toArray⟩:ByteArray).size=s'.length:=by simp[ByteArray.size]
  have e3:(⟨s.toArray⟩:ByteArray)++ ⟨s'.toArray⟩= ⟨(s++s').toArray⟩:=by
   apply WideShapes.bytes_inj;simp[ByteArray.data_append]
  have e4:¬(IntKind.i64.max<((s.length+s'.length:Nat):Int)):=by
   simp[IntKind.max,IntKind.bits,IntKind.signed];omega
  simp only[binOp,Op.stringOp,e1,e2,e3];rw[aC e4];simp
 ·refine ⟨.bool (decide (Op.bytesLess s s'=true)),_,?_,h,.bl _ _⟩;simp[binOp,Op.stringOp,xN]
 ·refine ⟨.bool (decide (¬Op.bytesLess s s'=true/\¬s=s')),_,?_,h,.bl _ _⟩;simp[binOp,Op.stringOp,xN];exact mQ.2 si
 cases h
theorem Rel.nilI_inv {E:Env} {v:Value} (h:Rel E (.val .nilIface) v):v= .nilIface:=by cases h;rfl
theorem Vd {y:Operand} (h:Ih y=true):∃c,y= .const c:=by cases y<;>first | exact ⟨_,rfl⟩ | cases h
theorem yK (op:BinOp) (t:TypeId) (x y:Operand) (hy:Ih y=true) {v:Value} (hv:v= .nilIface\/∃d z,v= .iface d z):(eqGuard op t x y v .nilIface).run P w= .ok () w:=by
 obtain ⟨c,rfl⟩:=Vd hy;rcases hv with rfl | ⟨d,z,rfl⟩
 ·cases op<;>cases x<;>rfl
 cases op<;>rfl
theorem Ve {t:TypeId} (h:wZ P t=true):∃ms,P.underlying t=some (.interface ms):=by
 unfold wZ at h;split at h
 ·rename_i ms hu;exact ⟨ms,hu⟩
 cases h
theorem Bn {t:TypeId} (ht:wZ P t=true) {v:Value} (hv:v= .nilIface\/∃d z,v= .iface d z):∃b:Bool,(Op.equal t v .nilIface).run P w= .ok b w/\(v= .nilIface->b=true):=by
 obtain ⟨ms,hu⟩:=Ve ht;rcases hv with rfl | ⟨d,z,rfl⟩
 ·refine ⟨true,?_,fun _=>rfl⟩;have h:∀n:Nat,(Op.equalIn (n+1) t .nilIface .nilIface).run P w= .ok true w:=fun n=>by simp[Op.equalIn,run_underlying hu]
  exact h 9999
 refine ⟨false,?_,fun h=>by cases h⟩;have h:∀n:Nat,(Op.equalIn (n+1) t (.iface d z) .nilIface).run P w= .ok false w:=fun n=>by simp[Op.equalIn,run_underlying hu]
 exact h 9999
theorem Vf {E:Env} {op:BinOp} {t:TypeId} {v:Value} {K:SV->Prop} (ht:wZ P t=true) (hv:v= .nilIface\/∃d z,v= .iface d z) (h:Dd op True K):
  ∃u s,(binOp op t v .nilIface).run P w= .ok u w/\K s/\Rel E s u:=by
 have hd:∀q:Prop,∀b:Bool,(q↔b=true)->Rel E (.bl q (Classical.propDecidable q)) (.bool b):=fun q b hq=>by
  have:b= @decide q (Classical.propDecidable q):=by cases b<;>simp_all
  rw[this];exact .bl _ _
 obtain ⟨b,hb,_⟩:=Bn (P:=P) (w:=w) ht hv;unfold Dd at h;split at h
 ·refine ⟨.bool b,_,?_,h (b=true) (fun _=>trivial),hd _ _ gQ⟩;rcases hv with rfl | ⟨d,z,rfl⟩<;>simp only[binOp]<;>simp[hb]
 ·refine ⟨.bool (!b),_,?_,h (¬b=true) (fun _=>trivial),hd _ _ (by cases b<;>simp)⟩;rcases hv with rfl | ⟨d,z,rfl⟩<;>simp only[binOp]<;>simp[hb]
 cases h
theorem Yy {E:Env} {op:BinOp} {t:TypeId} {K:SV->Prop} (ht:wZ P t=true) (h:nilT op K):
  ∃u s,(binOp op t .nilIface .nilIface).run P w= .ok u w/\K s/\Rel E s u:=by
 obtain ⟨b,hb,hb1⟩:=Bn (P:=P) (w:=w) ht (.inl rfl);obtain rfl:=hb1 rfl;unfold nilT at h;split at h
 ·exact ⟨.bool true,_,by simp only[binOp];simp[hb],h,.val _ trivial⟩
 ·exact ⟨.bool false,_,by simp only[binOp];simp[hb],h,.val _ trivial⟩
 cases h
theorem Rh {E:Env} {op:BinOp} {t:TypeId} {p q:Prop} {a b:Bool} {K:SV->Prop} (ht:Fc P t=true) (h:Fd op p q K) (hp:p↔a=true) (hq:q↔b=true):
  ∃v s,(binOp op t (.bool a) (.bool b)).run P w= .ok v w/\K s/\Rel E s v:=by
 unfold Fc at ht;split at ht
 ·rename_i hu;have hd:∀q:Prop,∀b:Bool,(q↔b=true)->Rel E (.bl q (Classical.propDecidable q)) (.bool b):=fun q b hq=>by
   have:b= @decide q (Classical.propDecidable q):=by cases b<;>simp_all
   rw[this];exact .bl _ _
  unfold Fd at h;split at h
  ·exact ⟨.bool (a==b),_,run_eql_bool w t a b hu,h,hd _ _ (by rw[hp,hq];cases a<;>cases b<;>simp)⟩
  ·exact ⟨.bool (!(a==b)),_,run_neq_bool w t a b hu,h,hd _ _ (by rw[hp,hq];cases a<;>cases b<;>simp)⟩
  cases h
 cases ht
theorem Kj {E:Env} {k:IntKind}:∀ {r:List SV} {vs:List Value} {p:Int} {K:SV->Prop},Jg k p r K->inK k p->RelL E r vs->
  ∃v s,(vs.foldlM Builtin.max2 (.int k p):Sem Value).run P w= .ok v w/\K s/\Rel E s v
 | [],_,p,K,h,hp,.nil=>⟨_,_,si,h,.val _ hp⟩
 | s::r,_,p,K,h,hp,.cons _ v _ vs hv hl=>by
  unfold Jg at h;split at h
  ·rename_i e;cases e
  ·rename_i k' q r' e;cases e;obtain ⟨hb,hK⟩:=bA h;have hb:=eO hb;subst hb;obtain ⟨e1,hq⟩:=hv.int_inv;obtain ⟨v',s',h1,h2,h3⟩:=Kj hK (aJp hp hq) hl;refine ⟨v',s',?_,h2,h3⟩;rw[e1,List.foldlM_cons];have e2:(Builtin.max2 (.int k p) (.int k q)).run P w= .ok (.int k (max p q)) w:=by
    simp only[Builtin.max2,Sem.run_pure];congr 2
    split<;>omega
   simp only[Sem.run_bind,e2,Result.andThen_ok];exact h1
  cases h
theorem Ri {E:Env} {k:IntKind} {p:Int} {r:List SV} {vs:List Value} {K:SV->Prop} (ts:Array TypeId) (t:TypeId) (h:Jg k p r K) (hr:RelL E (.val (.int k p)::r) vs):
  ∃v s,(Builtin.max_ ts t ⟨vs⟩).run P w= .ok v w/\K s/\Rel E s v:=by
 cases hr with
 | cons _ v _ vs hv hl=>
  obtain ⟨rfl,hp⟩:=hv.int_inv;exact Kj h hp hl
theorem Kk {E:Env} {k:IntKind}:∀ {r:List SV} {vs:List Value} {p:Int} {K:SV->Prop},Jh k p r K->inK k p->RelL E r vs->
  ∃v s,(vs.foldlM Builtin.min2 (.int k p):Sem Value).run P w= .ok v w/\K s/\Rel E s v
 | [],_,p,K,h,hp,.nil=>⟨_,_,si,h,.val _ hp⟩
 | s::r,_,p,K,h,hp,.cons _ v _ vs hv hl=>by
  unfold Jh at h;split at h
  ·rename_i e;cases e
  ·rename_i k' q r' e;cases e;obtain ⟨hb,hK⟩:=bA h;have hb:=eO hb;subst hb;obtain ⟨e1,hq⟩:=hv.int_inv;obtain ⟨v',s',h1,h2,h3⟩:=Kk hK (aJq hp hq) hl;refine ⟨v',s',?_,h2,h3⟩;rw[e1,List.foldlM_cons];have e2:(Builtin.min2 (.int k p) (.int k q)).run P w= .ok (.int k (min p q)) w:=by
    simp only[Builtin.min2,Sem.run_pure];congr 2
    split<;>omega
   simp only[Sem.run_bind,e2,Result.andThen_ok];exact h1
  cases h
theorem Rj {E:Env} {k:IntKind} {p:Int} {r:List SV} {vs:List Value} {K:SV->Prop} (ts:Array TypeId) (t:TypeId) (h:Jh k p r K) (hr:RelL E (.val (.int k p)::r) vs):
  ∃v s,(Builtin.min_ ts t ⟨vs⟩).run P w= .ok v w/\K s/\Rel E s v:=by
 cases hr with
 | cons _ v _ vs hv hl=>
  obtain ⟨rfl,hp⟩:=hv.int_inv;exact Kk h hp hl
theorem Vg {f:Field} {off:Nat} {k:IntKind} (h:intF P f off k=true):f.offset=off/\P.underlying f.type=some (.int k):=by
 unfold intF at h;rw[aE] at h;obtain ⟨h1,h2⟩:=h;refine ⟨bK.1 h1,?_⟩;split at h2
 ·rename_i q hq;rw[hq,eO h2]
 cases h2
theorem tE {e:TypeId} {q:IntKind} (hu:P.underlying e=some (.int q)) {xs:Array Value} {off:Nat} {v:Value} (hx:xs[off]? =some v):(part e xs off).run P w= .ok v w:=by
 simp[part,isAgg,run_underlying hu,hx]
theorem Rk {t:TypeId} {op:BinOp} {k k':IntKind} {a b c d:Int} {K:SV->Prop} (h:Jr P t op k k' a b c d K) (E:Env) (x y:Operand):
  (eqGuard op t x y (.agg #[.int k a,.int k' b]) (.agg #[.int k c,.int k' d])).run P w= .ok () w/\∃v s,(binOp op t (.agg #[.int k a,.int k' b]) (.agg #[.int k c,.int k' d])).run P w= .ok v w/\K s/\Rel E s v:=by
 unfold Jr at h;split at h;case h_2=>cases h
 rename_i fs hu;split at h;case h_2=>cases h
 rename_i f g hfs;obtain ⟨hb,⟨⟨n1,n2,n3⟩,hk⟩⟩:=bA h;rw[aE] at hb;obtain ⟨hb1,hb2⟩:=hb;obtain ⟨o1,u1⟩:=Vg hb1;obtain ⟨o2,u2⟩:=Vg hb2;have hfo:P.fieldsOf t=fs:=by unfold Program.fieldsOf;rw[hu]
 have hfa:fs= #[f,g]:=by apply fG;simpa using hfs
 have hg:P.eqGuardType P.depth t=false:=by
  unfold Program.depth;rw[show 2*(P.types.size+Made.depth)+2=(2*(P.types.size+Made.depth)+1)+1 from rfl];simp only[Program.eqGuardType,hu,hfa];simp[Program.eqGuardType,u1,u2]
 refine ⟨run_eqGuard_agg w op t x y _ _ hg,?_⟩;have heq:(Op.equalIn 10000 t (.agg #[.int k a,.int k' b]) (.agg #[.int k c,.int k' d])).run P w= .ok (decide (a=c)&&decide (b=d)) w:=by
  rw[show (10000:Nat)=9999+1 from rfl,run_equalIn_struct w 9999 t _ _ (by rw[hfo];exact hu) n3,hfo,hfs];have p1:∀w:World,(part f.type #[.int k a,.int k' b] f.offset).run P w= .ok (.int k a) w:=fun w=>tE u1 (by rw[o1];rfl);have p2:∀w:World,(part f.type #[.int k c,.int k' d] f.offset).run P w= .ok (.int k c) w:=fun w=>tE u1 (by rw[o1];rfl);have p3:∀w:World,(part g.type #[.int k a,.int k' b] g.offset).run P w= .ok (.int k' b) w:=fun w=>tE u2 (by rw[o2];rfl);have p4:∀w:World,(part g.type #[.int k c,.int k' d] g.offset).run P w= .ok (.int k' d) w:=fun w=>tE u2 (by rw[o2];rfl);have q1:∀w:World,(Op.equalIn 9999 f.type (.int k a) (.int k c)).run P w= .ok (a==c) w:=fun w=>run_equalIn_int w 9998 f.type k k a c u1;have q2:∀w:World,(Op.equalIn 9999 g.type (.int k' b) (.int k' d)).run P w= .ok (b==d) w:=fun w=>run_equalIn_int w 9998 g.type k' k' b d u2;simp only[Op.eqFields,n1,n2,ne_eq,not_false_eq_true,if_true,Sem.run_bind,p1,p2,p3,p4,q1,q2,Result.andThen_ok,Sem.run_ite];by_cases e1:a=c
  ·by_cases e2:b=d
   ·simp[e1,e2]
   simp[e1,e2]
  simp[e1]
 cases op<;>simp only at hk;case eql=>exact ⟨_,_,by rw[run_eql_struct,heq];rfl,hk,by rw[<- sY];exact .bl _ _⟩
 case neq=>exact ⟨_,_,by rw[run_neq_struct,heq];rfl,hk,by rw[<- sY,<- decide_not];exact .bl _ _⟩
theorem Kl:∀ {l:List SV} {K:List (Bx)->Prop},strs l K->∃xs,l=xs.map SV.str/\K xs
 | [],_,h=>⟨[],rfl,h⟩
 | s::r,K,h=>by
  unfold strs at h;split at h
  ·rename_i e;cases e
  ·rename_i s' r' e;cases e;obtain ⟨xs,rfl,hk⟩:=Kl h;exact ⟨s'::xs,rfl,hk⟩
  cases h
theorem Km {E:Env}:∀ {xs:List (Bx)} {vs:List Value},RelL E (xs.map SV.str) vs->vs=xs.map fun s=>.string ⟨s.toArray⟩
 | [],_,h=>by cases h;rfl
 | x::xs,_,h=>by
  cases h with
  | cons _ v _ vs hv hl=>rw[hv.str_inv,Km hl];rfl
theorem Kn {t:TypeId} (h:Yo P t=true):P.underlying t=some .string:=by
 unfold Yo at h;split at h
 ·assumption
 cases h
theorem Du {e:TypeId} (hu:P.underlying e=some .string) {xs:Array Value} {off:Nat} {v:Value} (hx:xs[off]? =some v) (w:World):(part e xs off).run P w= .ok v w:=by
 simp[part,isAgg,run_underlying hu,hx]
theorem Hj {d:Nat}:∀ {fs:List Field} {off:Nat},Nv P fs off=true->∀f∈fs,P.eqGuardType d f.type=true->d=0
 | [],_,_,f,hf,_=>by cases hf
 | g::r,off,h,f,hf,hd=>by
  unfold Nv at h;simp only[aE] at h;rcases bH.1 hf with rfl | hf
  ·cases d with
   | zero=>rfl
   | succ d=>simp[Program.eqGuardType,Kn h.1.2] at hd
  exact Hj h.2 f hf hd
theorem Yz {d:Nat} {t:TypeId} {fs:Array Field} (hs:P.underlying t=some (.struct fs)):P.eqGuardType (d+1) t=fs.any fun f=>f.name != "_" &&P.eqGuardType d f.type:=by
 simp only[Program.eqGuardType,hs]
theorem Bo (w:World) (d:Nat) (A B:List Value):∀(fs:List Field) (off:Nat) (xs ys:List (Bx)),Nv P fs off=true->aGl fs->fs.length=xs.length->fs.length=ys.length->
  A.drop off=(xs.map fun s=>Value.string ⟨s.toArray⟩)->B.drop off=(ys.map fun s=>Value.string ⟨s.toArray⟩)->(Op.eqFields (d+1) ⟨A⟩ ⟨B⟩ fs).run P w= .ok (decide (xs=ys)) w
 | [],off,xs,ys,_,_,h1,h2,_,_=>by
  cases xs<;>cases ys<;>simp_all [Op.eqFields]
 | f::fs,off,x::xs,y::ys,hf,hn,h1,h2,ha,hb=>by
  unfold Nv at hf;simp only[aE] at hf;obtain ⟨⟨o1,u1⟩,hf⟩:=hf;have o1:f.offset=off:=bK.1 o1;have u1:=Kn u1;have g1:A[off]? =some (Value.string ⟨x.toArray⟩):=by
   have:=aP (fun l=>l[0]?) ha;simpa [bD] using this
  have g2:B[off]? =some (Value.string ⟨y.toArray⟩):=by
   have:=aP (fun l=>l[0]?) hb;simpa [bD] using this
  have p1:=Du (P:=P) u1 (xs:=⟨A⟩) (off:=f.offset) (v:=.string ⟨x.toArray⟩) (by rw[o1];simpa using g1);have p2:=Du (P:=P) u1 (xs:=⟨B⟩) (off:=f.offset) (v:=.string ⟨y.toArray⟩) (by rw[o1];simpa using g2);have q1:=run_equalIn_string w d f.type ⟨x.toArray⟩ ⟨y.toArray⟩ u1;have a2:A.drop (off+1)=(xs.map fun s=>Value.string ⟨s.toArray⟩):=by
   rw[<- gE,ha];rfl
  have b2:B.drop (off+1)=(ys.map fun s=>Value.string ⟨s.toArray⟩):=by
   rw[<- gE,hb];rfl
  have ih:=Bo w d A B fs (off+1) xs ys hf hn.2 (by simpa using h1) (by simpa using h2) a2 b2;have n1:f.name≠ "_" :=hn.1
  have e0:((⟨x.toArray⟩:ByteArray).toList==(⟨y.toArray⟩:ByteArray).toList)=decide (x=y):=by
   rw[ByteArray.toList_eq,ByteArray.toList_eq];exact mQ.2 si
  simp only[Op.eqFields,n1,ne_eq,not_false_eq_true,if_true,Sem.run_bind,p1,p2,q1,e0,Result.andThen_ok,Sem.run_ite];by_cases e1:x=y
  ·simp[e1,ih]
  simp[e1]
theorem Vh {t:TypeId} {op:BinOp} {l m:List SV} {K:SV->Prop} (h:Qp P t op l m K) (E:Env) (x y:Operand) {u v:Value} (hu:Rel E (.agg l) u) (hv:Rel E (.agg m) v):
  (eqGuard op t x y u v).run P w= .ok () w/\∃r s,(binOp op t u v).run P w= .ok r w/\K s/\Rel E s r:=by
 unfold Qp at h;split at h;case h_2=>cases h
 rename_i fs hs;obtain ⟨xs,ex,h'⟩:=Kl h;obtain ⟨ys,ey,h''⟩:=Kl h';subst ex ey;obtain ⟨hb,⟨⟨n1,n3⟩,hk⟩⟩:=bA h'';simp only[aE] at hb;obtain ⟨⟨hb1,hb2⟩,hb3⟩:=hb;have hb2:=bK.1 hb2;have hb3:=bK.1 hb3;cases hu with
 | agg _ us hl=>
 cases hv with
 | agg _ vs hm=>
 obtain rfl:=Km hl;obtain rfl:=Km hm;have hfo:P.fieldsOf t=fs:=by unfold Program.fieldsOf;rw[hs]
 have hg:P.eqGuardType P.depth t=false:=by
  unfold Program.depth;rw[show 2*(P.types.size+Made.depth)+2=(2*(P.types.size+Made.depth)+1)+1 from rfl,Yz hs];rw[qX];intro hc;rw[Array.any_eq_true'] at hc;obtain ⟨f,hf,hc⟩:=hc;simp only[aE] at hc;exact absurd (Hj hb1 f (by simpa using hf) hc.2) om
 refine ⟨run_eqGuard_agg w op t x y _ _ hg,?_⟩;have heq:(Op.equalIn 10000 t (.agg ⟨xs.map fun s=>.string ⟨s.toArray⟩⟩) (.agg ⟨ys.map fun s=>.string ⟨s.toArray⟩⟩)).run P w= .ok (decide (xs=ys)) w:=by
  rw[show (10000:Nat)=9999+1 from rfl,run_equalIn_struct w 9999 t _ _ (by rw[hfo];exact hs) n3,hfo];exact Bo w 9998 _ _ fs.toList 0 xs ys hb1 n1 hb2 hb3 rfl rfl
 cases op<;>simp only at hk;case eql=>exact ⟨_,_,by rw[run_eql_struct,heq];rfl,hk,.bl _ _⟩
 case neq=>exact ⟨_,_,by rw[run_neq_struct,heq];rfl,hk,by rw[<- decide_not];exact .bl _ _⟩
theorem aJv {u:Value} (h:SV.val (.slice none 0 0)=cst u):u= .slice none 0 0:=by
 unfold cst at h;split at h
 ·rename_i k n;cases hq:(decide (lo k<=n)&&decide (n<=hi k)) with
  | true=>rw[hq] at h;cases h
  | false=>rw[hq] at h;cases h
 ·rename_i s;cases hq:Nat.ble s.data.toList.length 140737488355328 with
  | true=>rw[hq] at h;cases h
  | false=>rw[hq] at h;cases h
 injection h with h;exact h.symm
theorem xI (hI:Inv G H loc ver w) {nm off:Nat} {t:Ty} {e:TypeId} {K:List HO->Prop} (h:nilRef H nm off t e K):
  ∃H' loc' ver',K H'/\Inv G H' loc' ver' w/\Ext (envOf G H loc ver w) (envOf G H' loc' ver' w):=by
 unfold nilRef at h;cases ho:hget H nm with
 | cells l ce=>
  rw[ho] at h;simp only at h;split at h;case h_2=>cases h
  rename_i hv;obtain ⟨hlt,h⟩:=bA h;rw[bY,bY] at h;have hlt:off<l.length:=by simpa using hlt
  have hn:=aX ho si;have hnl:nm<H.length:=(aL.1 hn).1;have hf:=hI.fresh (w':=w) (.vec 1 t [] e) (mkL none 0 0) 1 (aN _) rfl rfl rfl (fun _ _=>rfl) (fun b hb=>by simp[Owns] at hb)
   (fun hx=>⟨rfl,Nat.one_pos,rfl,aK _,[],⟨si,.inl ⟨rfl,rfl⟩⟩,fun i hi=>absurd hi (bV _)⟩)
  have hn1:(H++ [HO.vec 1 t [] e])[nm]? =some (.cells l ce):=by rw[bU hnl];exact hn
  have hlt1:nm<(H++ [HO.vec 1 t [] e]).length:=by simp;omega
  have h2:=hf.1.turn nm (H':=hset (H++ [HO.vec 1 t [] e]) nm (.cells (l.set off (.ref H.length 1)) ce)) (loc':=upd loc H.length (mkL none 0 0)) (ver':=upd ver H.length 1) (w':=w) (by simp[hset]) (fun k hk=>⟨bZ hk,rfl,rfl⟩) (fun _=>eM (aQ hlt1) rfl) (fun _=>.inl ⟨rfl,rfl,.inl rfl⟩) (aN _) rfl rfl rfl
   (by rw[hn1];intro h;cases h) (fun _=>by rw[show hset (H++ [HO.vec 1 t [] e]) nm _=(H++ [HO.vec 1 t [] e]).set nm _ from rfl,aQ hlt1];intro h;cases h)
   (fun st n it b h=>by rw[show hset (H++ [HO.vec 1 t [] e]) nm _=(H++ [HO.vec 1 t [] e]).set nm _ from rfl,aQ hlt1] at h;cases h) (fun _ _ _=>rfl)
   (fun o' b ho' hb=>by
    rw[show hset (H++ [HO.vec 1 t [] e]) nm _=(H++ [HO.vec 1 t [] e]).set nm _ from rfl,aQ hlt1] at ho';cases ho'
    exact .inl ⟨_,hn1,hb⟩)
   (fun hx o' ho'=>by
    rw[show hset (H++ [HO.vec 1 t [] e]) nm _=(H++ [HO.vec 1 t [] e]).set nm _ from rfl,aQ hlt1] at ho';cases ho';obtain ⟨q1,b,vs,q2,q3,q4⟩:=hf.1.objs nm _ hn1;refine ⟨q1,b,vs,q2,q3,?_⟩;have hg:=q4.get off hlt;rw[hv] at hg;have hvn:=hg.nil_inv;have hr:Rel (envOf G (hset (H++ [HO.vec 1 t [] e]) nm (.cells (l.set off (.ref H.length 1)) ce)) (upd loc H.length (mkL none 0 0)) (upd ver H.length 1) w) (.ref H.length 1) (vs.getD off undef):=by
     refine .ref _ _ _ (by
      refine eM (o:=HO.vec 1 t [] e) ?_ rfl;rw[show hset (H++ [HO.vec 1 t [] e]) nm _=(H++ [HO.vec 1 t [] e]).set nm _ from rfl,bZ om]
      exact gT) Nat.one_pos (by simp[envOf,aW]) fun _=>?_
     simp only[envOf,aW];rw[hvn];rfl
    have:=(q4.ext hx).set off hr;have hvl:off<vs.length:=by rw[<- q4.length];exact hlt
    rwa [show vs.set off (vs.getD off undef)=vs from by
     rw[aB,aM hvl,oJ];exact rG hvl] at this)
  exact ⟨_,_,_,h,h2.1,hf.2.trans h2.2⟩
 | _=>rw[ho] at h;cases h
theorem rN (hY:COK P G) {Γ:List Con} (hΓ:∀c∈Γ,aO P c) {F:Fence} (hF:Opn F) (hI:Inv G H loc ver w) {N:Nat} {l:List (Nat × SV)} {a:Act} (hT:TRel (envOf G H loc ver w) N l a) {o:Oper} {K:SV->List HO->Prop}
  (h:op1 P Γ o l H K):(∀c,o.op≠ .defer c)/\OpOK P F o a w (Res G (envOf G H loc ver w) K):=by
 have ev:=fun x=>nI hT x;unfold op1 at h;cases ho:o.op with
 | move x=>
  simp only[ho,jR] at h;exact ⟨si,dV hI (by simp[execOp,ho]) h (ev x)⟩
 | assign x=>
  simp only[ho] at h;refine ⟨si,?_⟩;cases hn:aBw P o.type x with
  | none=>
   rw[hn] at h;simp only[jR] at h;cases hp:Qk (Eng.ev l x) with
   | true=>
    rw[hp,bR] at h;exact .value (a.eval x) w (by simp[execOp,ho]) (Qz hI h (ev x))
   | false=>
    rw[hp,cD] at h;exact dV hI (by simp[execOp,ho]) h (ev x)
  | some p=>
   obtain ⟨ty,e⟩:=p;rw[hn] at h;simp only[bY] at h;have hx:x= .const (.slice none 0 0):=by
    unfold aBw at hn;split at hn
    ·rfl
    cases hn
   subst hx;have hf:=hI.fresh (w':=w) (.vec 1 ty [] e) (mkL none 0 0) 1 (aN _) rfl rfl rfl (fun _ _=>rfl) (by intro b hb;simp[Owns] at hb)
    (fun hx=>⟨rfl,Nat.one_pos,rfl,aK _,[],⟨si,.inl ⟨rfl,rfl⟩⟩,fun i hi=>absurd hi (bV _)⟩)
   refine .value (.slice none 0 0) w (by simp[execOp,ho,Act.eval]) ⟨_,_,_,_,h,hf.1,?_,hf.2⟩;refine .ref _ _ _ (by exact lD rfl) Nat.one_pos (by simp[envOf,aW]) fun _=>?_;simp[envOf,aW,Core.head]
 | pick c x y=>
  simp only[ho] at h;obtain ⟨b,s,h1,h2,h3⟩:=Yx (P:=P) (w:=w) h (ev x) (ev y) (ev c);exact ⟨si,dV hI (by simp[execOp,ho,h1]) h2 h3⟩
 | binOp op t x y yt=>
  simp only[ho] at h;have e1:=ev x;have e2:=ev y;split at h
  ·rename_i k p k' q h1 h2;rw[h1] at e1;rw[h2] at e2;obtain ⟨e3,hp⟩:=e1.int_inv;obtain ⟨e4,hq⟩:=e2.int_inv;cases hsh:aBm op with
   | true=>
    rw[hsh] at h;simp only[bR] at h;obtain ⟨v,s,h3,h4,h5⟩:=Mv (P:=P) (w:=w) (E:=envOf G H loc ver w) (k':=k') h hp t;exact ⟨si,dV hI (by simp[execOp,ho,e3,e4,yJ,h3]) h4 h5⟩
   | false=>
   rw[hsh] at h;simp only[cD] at h;obtain ⟨hb,hK⟩:=bA h;have hb:=eO hb;subst hb;obtain ⟨v,s,h3,h4,h5⟩:=Up (P:=P) (w:=w) (E:=envOf G H loc ver w) hK hp hq t;exact ⟨si,dV hI (by simp[execOp,ho,e3,e4,yJ,h3]) h4 h5⟩
  ·rename_i ty xs h1 h2;obtain ⟨hb,hK⟩:=bA h;rw[h1] at e1;rw[h2] at e2;obtain ⟨a0,n,c,e3,hx⟩:=e1.seq_inv;have e4:=e2.nil_inv;obtain ⟨v,s,h3,h4,h5⟩:=vF (P:=P) (w:=w) (E:=envOf G H loc ver w) (t:=t) (a:=a0) (n:=n) (c:=c) hb hK hx;exact ⟨si,dV hI (by simp[execOp,ho,e3,e4,mY,h3]) h4 h5⟩
  ·rename_i nm k h1 h2;have hrf:∀(ty:Ty) (xs:List ty.T),Rel (envOf G H loc ver w) (.seq ty xs) (a.eval x)->∃a0 n c,a.eval x= .slice a0 n c/\(a0=none->xs= []):=fun ty xs hr=>hr.seq_inv;rw[h1] at e1;rw[h2] at e2;have e4:=e2.nil_inv;split at h
   ·rename_i v ty xs e ho';obtain ⟨hb,hK⟩:=bA h;obtain ⟨hb,hv⟩:_=true/\ _=true:=by simpa only[aE] using hb
    have e5:=jJ hI e1;simp only[view,ho',hv,mX,bR] at e5;obtain ⟨a0,n,c,e3,hx⟩:=e5.seq_inv;obtain ⟨v,s,h3,h4,h5⟩:=vF (P:=P) (w:=w) (E:=envOf G H loc ver w) (t:=t) (a:=a0) (n:=n) (c:=c) hb hK hx;exact ⟨si,dV hI (by simp[execOp,ho,e3,e4,mY,h3]) h4 h5⟩
   ·rename_i v ty xs ho';obtain ⟨hb,hK⟩:=bA h;obtain ⟨hb,hv⟩:_=true/\ _=true:=by simpa only[aE] using hb
    have e5:=jJ hI e1;simp only[view,ho',hv,bR] at e5;obtain ⟨a0,n,c,e3,hx⟩:=e5.seq_inv;obtain ⟨v,s,h3,h4,h5⟩:=vF (P:=P) (w:=w) (E:=envOf G H loc ver w) (t:=t) (a:=a0) (n:=n) (c:=c) hb hK hx;exact ⟨si,dV hI (by simp[execOp,ho,e3,e4,mY,h3]) h4 h5⟩
   cases h
  ·rename_i h1 h2;obtain ⟨hb,hK⟩:=bA h;rw[h1] at e1;rw[h2] at e2;have e3:=e1.nil_inv;have e4:=e2.nil_inv;obtain ⟨v,s,h3,h4,h5⟩:=vF (P:=P) (w:=w) (E:=envOf G H loc ver w) (t:=t) (a:=none) (n:=0) (c:=0) hb hK (fun _=>trivial);exact ⟨si,dV hI (by simp[execOp,ho,e3,e4,mY,h3]) h4 h5⟩
  ·rename_i s1 s2 h1 h2;rw[h1] at e1;rw[h2] at e2;have e3:=e1.str_inv;have e4:=e2.str_inv;obtain ⟨v,s,h3,h4,h5⟩:=Vc (P:=P) (w:=w) (E:=envOf G H loc ver w) t h;exact ⟨si,dV hI (by simp[execOp,ho,e3,e4,Hz,h3]) h4 h5⟩
  all_goals (try exact h.elim)
  rotate_left 4
  ·rename_i k a1 k' b1 j c1 j' d1 h1 h2;obtain ⟨hb,hK⟩:=bA h;rw[aE] at hb;obtain ⟨hb1,hb2⟩:=hb;have hb1:=eO hb1;have hb2:=eO hb2;subst hb1 hb2;rw[h1] at e1;rw[h2] at e2;have inv:∀ {k k':IntKind} {a1 b1:Int} {v:Value},Rel (envOf G H loc ver w) (.agg [.val (.int k a1),.val (.int k' b1)]) v->v= .agg #[.int k a1,.int k' b1]:=fun hr=>by
    cases hr with
    | agg _ vs hl=>
     cases hl with
     | cons _ _ _ _ r1 hl=>
      cases hl with
      | cons _ _ _ _ r2 hl=>
       cases hl;obtain ⟨rfl,_⟩:=r1.int_inv;obtain ⟨rfl,_⟩:=r2.int_inv;rfl
   have e3:=inv e1;have e4:=inv e2;obtain ⟨g1,v,s,h3,h4,h5⟩:=Rk (P:=P) (w:=w) hK (envOf G H loc ver w) x y;exact ⟨si,dV hI (by simp[execOp,ho,e3,e4,g1,h3]) h4 h5⟩
  ·rename_i a1 l1 b1 l2 h1 h2;rw[h1] at e1;rw[h2] at e2;obtain ⟨g1,v,s,h3,h4,h5⟩:=Vh (P:=P) (w:=w) h (envOf G H loc ver w) x y e1 e2;exact ⟨si,dV hI (by simp[execOp,ho,g1,h3]) h4 h5⟩
  ·rename_i h1 h2;obtain ⟨hb,hK⟩:=bA h;obtain ⟨hb1,hb2⟩:_=true/\ _=true:=by simpa only[aE] using hb
   rw[h1] at e1;rw[h2] at e2;have e4:=e2.nilI_inv;generalize hv:a.eval x=v0 at e1;cases e1 with
   | ifc _ hi=>
   obtain ⟨v,s,h3,h4,h5⟩:=Vf (P:=P) (w:=w) (E:=envOf G H loc ver w) hb1 hi hK;exact ⟨si,dV hI (by simp[execOp,ho,hv,e4,yK op t x y hb2 hi,h3]) h4 h5⟩
  ·rename_i h1 h2;obtain ⟨hb,hK⟩:=bA h;obtain ⟨hb1,hb2⟩:_=true/\ _=true:=by simpa only[aE] using hb
   rw[h1] at e1;rw[h2] at e2;have e3:=e1.nilI_inv;have e4:=e2.nilI_inv;obtain ⟨v,s,h3,h4,h5⟩:=Yy (P:=P) (w:=w) (E:=envOf G H loc ver w) hb1 hK;exact ⟨si,dV hI (by simp[execOp,ho,e3,e4,yK op t x y hb2 (.inl rfl),h3]) h4 h5⟩
  all_goals
   rename_i h1 h2;obtain ⟨hb,hK⟩:=bA h;rw[h1] at e1;rw[h2] at e2;obtain ⟨b1,e3,q1⟩:=e1.bool_is gQ;obtain ⟨b2,e4,q2⟩:=e2.bool_is gQ;obtain ⟨v,s,h3,h4,h5⟩:=Rh (P:=P) (w:=w) (E:=envOf G H loc ver w) (t:=t) hb hK q1 q2;exact ⟨si,dV hI (by simp[execOp,ho,e3,e4,Fl,h3]) h4 h5⟩
 | unOp op t x=>
  have e1:=ev x;cases op with
  | not=>
   simp only[ho] at h;split at h
   ·rename_i h1;rw[h1] at e1;exact ⟨si,dV hI (by simp[execOp,ho,e1.bool_inv,Op.unary]) h (.val _ trivial)⟩
   ·rename_i h1;rw[h1] at e1;exact ⟨si,dV hI (by simp[execOp,ho,e1.bool_inv,Op.unary]) h (.val _ trivial)⟩
   ·rename_i p d h1;rw[h1] at e1;generalize hv:a.eval x=v at e1;cases e1;refine ⟨si,dV hI (v:=.bool (decide (¬p))) (by simp[execOp,ho,hv,Op.unary]) h (.bl _ _)⟩
   cases h
  | neg=>
   simp only[ho] at h;split at h
   ·rename_i k n h1;rw[h1] at e1;obtain ⟨e2,hn⟩:=e1.int_inv;obtain ⟨h2,h3⟩:=Ac h;exact ⟨si,dV hI (by simp[execOp,ho,e2,Op.unary,Op.intArith,xE h2]) h3 (.val _ h2)⟩
   cases h
  | _=>simp only[ho] at h
 | convert s d x=>
  simp only[ho] at h;obtain ⟨v,s',h1,h2,h3⟩:=Yw (P:=P) (w:=w) hI h (ev x);exact ⟨si,dV hI (by simp[execOp,ho,h1]) h2 h3⟩
 | alloc t=>
  simp only[ho] at h;split at h
  ·rename_i ty e hn;simp only[bY] at h;have hz:sV P t=some [.val (.slice none 0 0)]:=by
    unfold Ub at hn;split at hn
    ·assumption
    cases hn
   obtain ⟨v,hv,hz'⟩:=uG hz w;have hv1:v.cells.toList= [.slice none 0 0]:=by
    cases hl:v.cells.toList with
    | nil=>rw[hl] at hz';cases hz'
    | cons u r=>
     rw[hl] at hz';simp only[mW,List.cons.injEq] at hz';obtain ⟨h1,h2⟩:=hz';have hr:r= []:=by
      cases r with
      | nil=>rfl
      | cons _ _=>cases h2
     subst hr;rw[aJv h1]
   have hf:=hI.fresh (w':=w) (.vec 1 ty [] e) (mkL none 0 0) 1 (aN _) rfl rfl rfl (fun _ _=>rfl) (by intro b hb;simp[Owns] at hb)
    (fun hx=>⟨rfl,Nat.one_pos,rfl,aK _,[],⟨si,.inl ⟨rfl,rfl⟩⟩,fun i hi=>absurd hi (bV _)⟩)
   obtain ⟨s,H',loc',ver',r1,r2,r3,r4⟩:=zC (vs:=[.slice none 0 0]) hf.1 (.cons _ _ _ _ (.ref _ _ _ (by exact lD rfl) Nat.one_pos (by simp[envOf,aW]) fun _=>by simp[envOf,aW,Core.head]) .nil) t h
   refine ⟨si,.value _ _ (by
    have hc:v.cells=(⟨[.slice none 0 0]⟩:Array Value):=by apply fG;simpa using hv1
    have hra:=Am (P:=P) hv;rw[hc] at hra
    simp[execOp,ho,hra]) ⟨s,H',loc',ver',r1,r2,r3,hf.2.trans r4⟩⟩
  split at h
  ·rename_i z hz;rw[bY] at h;obtain ⟨v,hv,rfl⟩:=uG hz w;cases hn:Qq (.agg (v.cells.toList.map cst)) with
   | false=>
    rw[hn,cD] at h;exact ⟨si,.value _ _ (by simp[execOp,ho,Am hv]) (zC hI (uH _ _) t h)⟩
   | true=>
    rw[hn,bR] at h;have hres:Res G (envOf G H loc ver w) K (.pointer (some ⟨w.heap.size,0,none⟩)) (w.alloc (.cells ⟨v.cells.toList⟩ t)):=by
     obtain ⟨s,H',loc',ver',r1,r2,r3,r4⟩:=zC hI (uH (envOf G H loc ver w) v.cells.toList) t h;rcases r1.or with r1 | ⟨off,t',e,r1⟩
     ·exact ⟨s,H',loc',ver',r1,r2,r3,r4⟩
     obtain ⟨H'',loc'',ver'',k1,k2,k3⟩:=xI r2 r1;exact ⟨s,H'',loc'',ver'',k1,k2,r3.ext k3,r4.trans k3⟩
    exact ⟨si,.value _ _ (by simp[execOp,ho,Am hv]) hres⟩
  cases h
 | nilCheck x=>
  simp only[ho] at h;have e1:=ev x;split at h
  ·rename_i nm off hx;obtain ⟨hb,h⟩:=bA h;rw[hx] at e1;obtain ⟨b,_,e2⟩:=wD hI e1 hb;rw[e2] at e1;exact ⟨si,dV hI (v:=.pointer (some ⟨b,off,none⟩)) (by simp[execOp,ho,e2]) h e1⟩
  ·rename_i n hx;rw[hx] at e1;generalize hv:a.eval x=v at e1;cases e1 with
   | wcel _ b e hw hok hr=>
    exact ⟨si,dV hI (v:=.pointer (some ⟨b,0,none⟩)) (by simp[execOp,ho,hv]) h (.wcel n b e hw hok hr)⟩
  cases h
 | box t x=>
  simp only[ho] at h;obtain ⟨hb,h⟩:=bA h;rw[bY] at h;cases hn:aGm (Eng.ev l x) with
  | false=>
   rw[hn,cD] at h;exact ⟨si,.value _ _ (by simp[execOp,ho,aCa]) (zC hI (tR hI (ev x) hb) t h)⟩
  | true=>
   rw[hn,bR] at h;have hres:Res G (envOf G H loc ver w) K (.pointer (some ⟨w.heap.size,0,none⟩)) (w.alloc (.cells (a.eval x).cells t)):=by
    obtain ⟨s,H',loc',ver',r1,r2,r3,r4⟩:=zC hI (tR hI (ev x) hb) t h;rcases r1.or with r1 | ⟨off,t',e,r1⟩
    ·exact ⟨s,H',loc',ver',r1,r2,r3,r4⟩
    obtain ⟨H'',loc'',ver'',k1,k2,k3⟩:=xI r2 r1;exact ⟨s,H'',loc'',ver'',k1,k2,r3.ext k3,r4.trans k3⟩
   exact ⟨si,.value _ _ (by simp[execOp,ho,aCa]) hres⟩
 | build t ps=>
  simp only[ho] at h;obtain ⟨hb,h⟩:=bA h;have hp:=Nw hI hT ps.toList hb;obtain ⟨v,s,h1,h2,h3⟩:∃v s,(Instr.build t (ps.toList.map fun p=>(p.1,a.eval p.2)).toArray).run P w= .ok v w/\K s H/\Rel (envOf G H loc ver w) s v:=by
   cases har:aBp P t with
   | true=>rw[har,bR] at h;exact Re (P:=P) (w:=w) rfl (K:=fun v=>K v H) h hp
   | false=>rw[har,cD] at h;exact Mx (P:=P) (w:=w) rfl (K:=fun v=>K v H) h hp
  have e:ps.map (fun p=>(p.1,a.eval p.2))=(ps.toList.map fun p=>(p.1,a.eval p.2)).toArray:=by apply fG;simp
  exact ⟨si,dV hI (v:=v) (by
   simp only[execOp,ho];rw[show (ps.map fun (x:Nat × Operand)=>match x with | (i,x)=>(i,a.eval x))=(ps.toList.map fun p=>(p.1,a.eval p.2)).toArray from e]
   simp[h1]) h2 h3⟩
 | buildSlice t n ps=>
  simp only[ho] at h;cases hrf:Yp (ps.toList.map fun p=>(p.1,Eng.ev l p.2)) with
  | true=>
  rw[hrf,bR,bY] at h;obtain ⟨hb,h⟩:=bA h;obtain ⟨hI1,hx1⟩:=tS (ps.toList.map fun p=>Eng.ev l p.2) hI;have hT1:=hT.ext hx1;have hp:∀qs:List (Nat × Operand),vD (frz H (ps.toList.map fun p=>Eng.ev l p.2)) (qs.map fun p=>(p.1,view false (frz H (ps.toList.map fun p=>Eng.ev l p.2)) (Eng.ev l p.2)))=true->
    RelP (envOf G (frz H (ps.toList.map fun p=>Eng.ev l p.2)) loc ver w) (qs.map fun p=>(p.1,view false (frz H (ps.toList.map fun p=>Eng.ev l p.2)) (Eng.ev l p.2))) (qs.map fun p=>(p.1,a.eval p.2)):=by
   intro qs
   induction qs with
   | nil=>exact fun _=>.nil
   | cons p r ih=>
    intro hc;simp only[mW,vD,aE] at hc;have hr:=Dq (H:=frz H (ps.toList.map fun p=>Eng.ev l p.2)) (lend:=false) (Ext.refl _) (fun _ _ _ h=>zD hI1 h) (fun nm k v h=>nZ hI1 h) (fun nm k i v _=>oW nm k i v) (fun nm v h=>tD hI1 (Ext.refl _) (.inl rfl) h) (nI hT1 p.2);exact .cons _ _ _ _ _ (tR hI1 hr hc.1) hr (ih hc.2)
  obtain ⟨v,w',h1,s,H2,loc2,ver2,k1,k2,k3,k4⟩:=wE (P:=P) hI1 h (hp ps.toList hb);have e:ps.map (fun p=>(p.1,a.eval p.2))=(ps.toList.map fun p=>(p.1,a.eval p.2)).toArray:=by apply fG;simp
  exact ⟨si,.value v w' (by
   simp only[execOp,ho];rw[show (ps.map fun (x:Nat × Operand)=>match x with | (i,x)=>(i,a.eval x))=(ps.toList.map fun p=>(p.1,a.eval p.2)).toArray from e]
   simp[h1]) ⟨s,H2,loc2,ver2,k1,k2,k3,hx1.trans k4⟩⟩
  | false=>
  rw[hrf,cD] at h;obtain ⟨hb,h⟩:=bA h;have hp:=Nw hI hT ps.toList hb;obtain ⟨v,w',h1,h2⟩:=wE (P:=P) hI h hp;have e:ps.map (fun p=>(p.1,a.eval p.2))=(ps.toList.map fun p=>(p.1,a.eval p.2)).toArray:=by apply fG;simp
  exact ⟨si,.value v w' (by
   simp only[execOp,ho];rw[show (ps.map fun (x:Nat × Operand)=>match x with | (i,x)=>(i,a.eval x))=(ps.toList.map fun p=>(p.1,a.eval p.2)).toArray from e]
   simp[h1]) h2⟩
 | load t x=>
  simp only[ho] at h;cases hv:isVV H (Eng.ev l x) with
  | true=>
   rw[hv,bR] at h;obtain ⟨v,s,h1,h2,h3⟩:=Vu (P:=P) hI h (ev x);exact ⟨si,dV hI (by simp[execOp,ho,h1]) h2 h3⟩
  | false=>
   rw[hv,cD] at h;obtain ⟨v,s,h1,h2,h3⟩:=Ra (P:=P) hI h (ev x);exact ⟨si,dV hI (by simp[execOp,ho,h1]) h2 h3⟩
 | store t x y=>
  simp only[ho] at h;cases hv:isVV H (Eng.ev l x) with
  | true=>
   rw[hv,bR] at h;obtain ⟨H',loc',w',h1,h2,h3,h4⟩:=Rq (P:=P) hI h (ev x) (ev y);exact ⟨si,.skip w' (by simp[execOp,ho,h1]) ⟨_,_,_,_,h2,h3,.any _,h4⟩⟩
  | false=>
   rw[hv,cD] at h;cases hn:Qq (Eng.ev l y) with
   | false=>
    rw[hn,cD] at h;obtain ⟨H',w',h1,h2,h3,h4⟩:=Bm (P:=P) hI h (ev x) (ev y);exact ⟨si,.skip w' (by simp[execOp,ho,h1]) ⟨_,_,_,_,h2,h3,.any _,h4⟩⟩
   | true=>
    rw[hn,bR] at h;obtain ⟨H',w',h1,h2,h3,h4⟩:=Bm (P:=P) hI h (ev x) (ev y);rcases h2.or with h2 | ⟨off,t',e,h2⟩
    ·exact ⟨si,.skip w' (by simp[execOp,ho,h1]) ⟨_,_,_,_,h2,h3,.any _,h4⟩⟩
    obtain ⟨H'',loc'',ver'',k1,k2,k3⟩:=xI h3 h2;exact ⟨si,.skip w' (by simp[execOp,ho,h1]) ⟨_,_,_,_,k1,k2,.any _,h4.trans k3⟩⟩
 | fieldAddr t x f=>
  simp only[ho] at h;have e1:=ev x;split at h
  ·rename_i s fo sz ag hf;obtain ⟨hb,h⟩:=bA h;simp only[aE] at hb;have hsz:0<sz:=by simpa using hb.2
   split at h
   ·rename_i nm off hx;rw[hx] at e1 hb;obtain ⟨b,hbk,e2⟩:=wD hI e1 hb.1;refine ⟨si,dV hI (v:=.pointer (some ⟨b,off+fo,none⟩)) (by simp[execOp,ho,e2,sI (P:=P) (w:=w) hf hsz]) h ?_⟩;generalize a.eval x=v at e1 e2;cases e1 with
    | ptr _ _ _ hn _=>exact .ptr _ _ _ hn fun _=>⟨b,hbk,rfl⟩
   ·rename_i ty xs i off hx;rw[hx] at e1;generalize hv:a.eval x=v at e1;cases e1 with
    | elem _ _ _ _ b o es hi hok hr hrd=>
     refine ⟨si,dV hI (v:=.pointer (some ⟨b,o+off+fo,none⟩)) (by simp[execOp,ho,hv,sI (P:=P) (w:=w) hf hsz]) h ?_⟩;rw[jN];exact .elem ty xs i (off+fo) b o es hi hok hr hrd
   ·rename_i nm k i z off hx;rw[hx] at e1 hb;generalize hv:a.eval x=v at e1;cases e1 with
    | vptr _ _ _ _ _ _ hn h0 hk hp=>
     have hl:=hb.1;simp only[live] at hl;cases hg:hget H nm with
     | vec j t' xs e=>
      rw[hg] at hl;obtain rfl:=bK.1 hl;have hO:=hI.objs nm _ (aX hg si);obtain ⟨hlt,b,o,hbk,rfl⟩:=hp hO.1.symm;refine ⟨si,dV hI (v:=.pointer (some ⟨b,o+i*z+off+fo,none⟩)) (by simp[execOp,ho,hv,sI (P:=P) (w:=w) hf hsz]) h ?_⟩;exact .vptr nm j i z (off+fo) _ hn h0 hk fun _=>⟨hlt,b,o,hbk,by simp[jN]⟩
     | _=>rw[hg] at hl;cases hl
   ·rename_i l' off hx;rw[hx] at e1;generalize hv:a.eval x=v at e1;cases e1 with
    | lelem _ _ b o vs hl hok hr=>
     refine ⟨si,dV hI (v:=.pointer (some ⟨b,o+off+fo,none⟩)) (by simp[execOp,ho,hv,sI (P:=P) (w:=w) hf hsz]) h ?_⟩;rw[jN];exact .lelem l' (off+fo) b o vs hl hok hr
   ·rename_i n hx;obtain ⟨hf0,h⟩:=bA h;have hf0:=bK.1 hf0;subst hf0;rw[hx] at e1;generalize hv:a.eval x=v at e1;cases e1 with
    | wcel _ b e hw hok hr=>
     exact ⟨si,dV hI (v:=.pointer (some ⟨b,0+0,none⟩)) (by simp[execOp,ho,hv,sI (P:=P) (w:=w) hf hsz]) h (.wcel n b e hw hok hr)⟩
   cases h
  cases h
 | field t x f=>
  simp only[ho] at h;have e1:=ev x;split at h
  ·rename_i cs fo sz ag hx hf;rw[hx] at e1;generalize hv:a.eval x=v at e1;cases e1 with
   | agg _ vs hl=>
    obtain ⟨v',s,h1,h2,h3⟩:=aDx (P:=P) (w:=w) hf hl h;exact ⟨si,dV hI (by simp[execOp,ho,hv,h1]) h2 h3⟩
  cases h
 | indexAddr t x i=>
  simp only[ho] at h;cases hv:isVV H (Eng.ev l x) with
  | true=>
   rw[hv,bR] at h;obtain ⟨v,s,h1,h2,h3⟩:=Rp (P:=P) hI h (ev x) (ev i);exact ⟨si,dV hI (by simp[execOp,ho,h1]) h2 h3⟩
  | false=>
   rw[hv,cD] at h;cases har:aBp P t with
   | true=>
    rw[har,bR] at h;obtain ⟨v,s,h1,h2,h3⟩:=Rd (P:=P) hI h (ev x) (ev i);exact ⟨si,dV hI (by simp[execOp,ho,h1]) h2 h3⟩
   | false=>
   rw[har,cD] at h;obtain ⟨v,s,h1,h2,h3⟩:=Mw (P:=P) hI h (ev x) (ev i);exact ⟨si,dV hI (by simp[execOp,ho,h1]) h2 h3⟩
 | slice t x lo hi mx=>
  cases mx with
  | some m=>
   simp only[ho] at h;obtain ⟨v,h1,h2⟩:=Lc (P:=P) hI h (ev x) (Dy hT lo) (Dy hT hi) (vmx:=some (a.eval m)) (Dy hT (some m));exact ⟨si,.value v w (by simp[execOp,ho,h1]) h2⟩
  | none=>
   simp only[ho] at h;obtain ⟨v,h1,h2⟩:=Na (P:=P) hI h (ev x) (Dy hT lo) (Dy hT hi);exact ⟨si,.value v w (by simp[execOp,ho,h1]) h2⟩
 | index t x i=>
  simp only[ho] at h;have e1:=ev x;have e2:=ev i;split at h
  ·rename_i n e cs kn j hu h1 h2;rw[h1] at e1;rw[h2] at e2;obtain ⟨e4,_⟩:=e2.int_inv;split at h
   ·rename_i ag sz ha hs;have hb:=h.ok;have hk:=h.go.use hb.1;generalize hv:a.eval x=v at e1;cases e1 with
    | agg _ vs hl=>
     obtain ⟨v',s,h1,h2,h3⟩:=aDy (P:=P) (w:=w) (kk:=kn) hu ha hs hb hl hk;exact ⟨si,dV hI (by simp[execOp,ho,hv,e4,h1]) h2 h3⟩
   cases h
  ·rename_i s kn n hu h1 h2;rw[h1] at e1;rw[h2] at e2;have e3:=e1.str_inv;obtain ⟨e4,_⟩:=e2.int_inv;have hb:=h.ok;have hk:=h.go.use hb.1;have hlt:n.toNat<s.length:=om;have hin:0<=bE s n.toNat/\bE s n.toNat<=255:=by
    unfold bE;have:=(s.getD n.toNat 0).toNat_lt;omega
   refine ⟨si,dV hI (v:=.int .u8 (bE s n.toNat)) ?_ (hk.go hin) (.val _ hin)⟩;simp only[execOp,ho,e3,e4];have hg:(⟨s.toArray⟩:ByteArray)[n.toNat]? =some (s.getD n.toNat 0):=by
    have:n.toNat<(⟨s.toArray⟩:ByteArray).size:=by simpa [ByteArray.size] using hlt
    rw[getElem?_pos (⟨s.toArray⟩:ByteArray) n.toNat this];congr 1
    simp[ByteArray.getElem_eq_getElem_data,aB,hlt]
   simp[Instr.index,asIntOf,run_underlying hu,hb.1,hg,bE,go_sem]
  cases h
 | extract x i=>
  simp only[ho] at h;have e1:=ev x;split at h
  ·rename_i vs hx;obtain ⟨hb,h⟩:=bA h;rw[jR] at h;rw[hx] at e1;generalize hv:a.eval x=v at e1;cases e1 with
   | tup _ us hl=>
    have hlt:i<vs.length:=by simpa using hb
    have hlt':i<us.length:=by rw[<- hl.length];exact hlt
    exact ⟨si,dV hI (v:=us.getD i undef) (by simp[execOp,ho,hv,Instr.extract,hlt']) h (hl.get i hlt)⟩
  cases h
 | makeFunc fn p q=>
  cases fn with
  | func f=>
   simp only[ho,lU] at h;have e:p.map a.eval= ⟨p.toList.map a.eval⟩:=by apply fG;simp
   have e':q.map a.eval= ⟨q.toList.map a.eval⟩:=by apply fG;simp
   exact ⟨si,dV hI (by simp only[execOp,ho,Instr.makeFunc,e,e'];rfl) h (.clo _ _ _ _ _ (Al hT _) (Al hT _))⟩
  | _=>simp only[ho] at h
 | makeSlice t n c=>
  simp only[ho] at h;cases hv:Qn P t with
  | true=>
   rw[hv,bR] at h;obtain ⟨v,w',h1,h2⟩:=Vt (P:=P) hI h (ev n) (ev c);exact ⟨si,.value v w' (by simp[execOp,ho,h1]) h2⟩
  | false=>
   rw[hv,cD] at h;obtain ⟨v,w',h1,h2⟩:=Rf (P:=P) hI h (ev n) (ev c);exact ⟨si,.value v w' (by simp[execOp,ho,h1]) h2⟩
 | call c=>
  simp only[ho] at h;refine ⟨si,?_⟩;split at h
  ·-- len
   rename_i hc;split at h
   ·rename_i x hx;split at h
    ·rename_i t ht;have hr:∀(n:Nat),(∀cs,(builtin .len c.argTypes o.type cs (c.args.map a.eval)).run P w= .ok (.value (.int .i64 n)) w)->(execOp a.eval o).run P w= .ok (.value (.int .i64 n)) w:=by
      intro n hn;simp only[execOp,ho];obtain ⟨cs,hcs⟩:=jK (P:=P) (w:=w) (a:=a) (t:=o.type) hc;rw[hcs,hn]
     split at h
     ·rename_i e s hu hs';split at h
      ·cases h
      rename_i hns;cases hv:isVV H (Eng.ev l x) with
      | true=>
       rw[hv,bR] at h;obtain ⟨a',n,m,s',h1,h2,h3⟩:=Zv hI h (ev x);refine dV hI (hr n fun cs=>?_) h2 h3;rw[wH hx,h1];simp[builtin,Builtin.len_,ht,run_underlying hs',goInt]
      | false=>
      rw[hv,cD] at h;rcases Hh hI h (ev x) with ⟨p,n,m,s',h1,h2,h3⟩ | ⟨l',s',h0,h1,h2,h3⟩
      ·refine dV hI (hr n fun cs=>?_) h2 h3;rw[wH hx,h1];simp[builtin,Builtin.len_,ht,run_underlying hs',goInt]
      exact (hns _ h0).elim
     ·rename_i s hu hs';have e1:=ev x;rw[hs'] at e1;rcases Hh hI h e1 with ⟨p,n,m,s',h1,h2,h3⟩ | ⟨l',s',_,h1,h2,h3⟩
      ·exfalso;rw[h1] at e1;cases e1
      refine dV hI (hr l'.length fun cs=>?_) h2 h3;rw[wH hx,h1];simp[builtin,Builtin.len_,ht,run_underlying hu,goInt,aJs]
     ·rename_i kt et s hu;obtain ⟨v,s',h1,h2,h3⟩:=Ru (P:=P) (ty':=o.type) hI h (ev x) hu ht;refine dV hI (v:=v) ?_ h2 h3;simp only[execOp,ho];obtain ⟨cs,hcs⟩:=jK (P:=P) (w:=w) (a:=a) (t:=o.type) hc;rw[hcs,wH hx];simp[builtin,h1]
     cases h
    cases h
   cases h
  ·-- cap
   rename_i hc;split at h
   ·rename_i x hx;split at h
    ·rename_i t ht;split at h
     ·rename_i e hu hs';have e1:=ev x;rw[hs'] at e1;have e2:a.eval x= .slice none 0 0:=by
       generalize a.eval x=y at e1;cases e1;rfl
      refine dV hI (v:=.int .i64 0) ?_ h (.val _ (by first | trivial | simp[WV]));simp only[execOp,ho];obtain ⟨cs,hcs⟩:=jK (P:=P) (w:=w) (a:=a) (t:=o.type) hc;rw[hcs,wH hx,e2];simp[builtin,Builtin.cap_,ht,run_underlying hu,goInt]
     cases h
    cases h
   cases h
  ·-- append
   rename_i hc;split at h
   ·rename_i s x t u hx ht;cases hb:Nat.beq t u with
    | true=>
     rw[hb] at h;have hK:=h;have hb:=bK.1 hb;subst hb;obtain ⟨v,w',h1,h2⟩:∃v w',(Builtin.append_ #[t,t] o.type #[a.eval s,a.eval x]).run P w= .ok v w'/\Res G (envOf G H loc ver w) K v w':=by
      cases hv:isVV H (Eng.ev l s) with
      | true=>rw[hv,bR] at hK;exact Nb (P:=P) (ty':=o.type) hI hK (ev s) (ev x)
      | false=>
       rw[hv,cD] at hK;cases hp:Qk (Eng.ev l s) with
       | true=>rw[hp,bR] at hK;exact Ms (P:=P) (ty0:=o.type) hI hK (ev s) (ev x)
       | false=>rw[hp,cD] at hK;exact Kf (P:=P) (ty:=o.type) hI (Yj hK) (ev s) (ev x)
     refine .value v w' ?_ h2;simp only[execOp,ho];obtain ⟨cs,hcs⟩:=jK (P:=P) (w:=w) (a:=a) (t:=o.type) hc;rw[hcs,Dt hx,show c.argTypes= #[t,t] from by apply fG;simpa using ht];simp[builtin,h1]
    | false=>
     rw[hb] at h;obtain ⟨v,w',h1,h2⟩:∃v w',(Builtin.append_ #[t,u] o.type #[a.eval s,a.eval x]).run P w= .ok v w'/\Res G (envOf G H loc ver w) K v w':=by
      cases hq:aMr (Eng.ev l x) with
      | true=>rw[hq] at h;exact Mr (P:=P) (ty:=o.type) hI h (ev s) (ev x)
      | false=>rw[hq] at h;exact Dn (P:=P) (ty:=o.type) hI h (ev s) (ev x)
     refine .value v w' ?_ h2;simp only[execOp,ho];obtain ⟨cs,hcs⟩:=jK (P:=P) (w:=w) (a:=a) (t:=o.type) hc;rw[hcs,Dt hx,show c.argTypes= #[t,u] from by apply fG;simpa using ht];simp[builtin,h1]
   cases h
  ·-- copy
   rename_i hc;split at h
   ·rename_i s x t u hx ht;obtain ⟨v,w',h1,h2⟩:=Qy (P:=P) (u:=u) (ty0:=o.type) hI h (ev s) (ev x);refine .value v w' ?_ h2;simp only[execOp,ho];obtain ⟨cs,hcs⟩:=jK (P:=P) (w:=w) (a:=a) (t:=o.type) hc;rw[hcs,Dt hx,show c.argTypes= #[t,u] from by apply fG;simpa using ht];simp[builtin,h1]
   cases h
  ·-- clear
   rename_i hc;split at h
   ·rename_i x t hx ht;obtain ⟨w',h1,H',loc',ver',h2,h3,h4⟩:=Mt (P:=P) (ty0:=o.type) hI h (ev x);refine .value (.tuple #[]) w' ?_ ⟨_,_,_,_,h2,h3,.tup [] [] .nil,h4⟩;simp only[execOp,ho];obtain ⟨cs,hcs⟩:=jK (P:=P) (w:=w) (a:=a) (t:=o.type) hc;rw[hcs,wH hx,show c.argTypes= #[t] from by apply fG;simpa using ht];simp[builtin,h1]
   cases h
  ·-- delete
   rename_i hc;split at h
   ·rename_i x y t hx ht;obtain ⟨H',w',h1,h2,h3,h4⟩:=Rr (P:=P) (ty':=o.type) hI h ht (ev x) (ev y);refine .value (.tuple #[]) w' ?_ ⟨_,_,_,_,h2,h3,.tup [] [] .nil,h4⟩;simp only[execOp,ho];obtain ⟨cs,hcs⟩:=jK (P:=P) (w:=w) (a:=a) (t:=o.type) hc;rw[hcs,Dt hx];simp[builtin,h1]
   cases h
  ·-- max
   rename_i hc;have ea:=Al hT c.args.toList;split at h
   ·rename_i k p r hx;rw[hx] at ea;obtain ⟨v,s,h1,h2,h3⟩:=Ri (P:=P) (w:=w) c.argTypes o.type h ea;refine dV hI (v:=v) ?_ h2 h3;simp only[execOp,ho];obtain ⟨cs,hcs⟩:=jK (P:=P) (w:=w) (a:=a) (t:=o.type) hc;rw[hcs];simp only[builtin,Sem.run_bind];rw[show c.args.map a.eval= ⟨c.args.toList.map a.eval⟩ from by apply fG;simp];rw[h1];rfl
   cases h
  ·-- min
   rename_i hc;have ea:=Al hT c.args.toList;split at h
   ·rename_i k p r hx;rw[hx] at ea;obtain ⟨v,s,h1,h2,h3⟩:=Rj (P:=P) (w:=w) c.argTypes o.type h ea;refine dV hI (v:=v) ?_ h2 h3;simp only[execOp,ho];obtain ⟨cs,hcs⟩:=jK (P:=P) (w:=w) (a:=a) (t:=o.type) hc;rw[hcs];simp only[builtin,Sem.run_bind];rw[show c.args.map a.eval= ⟨c.args.toList.map a.eval⟩ from by apply fG;simp];rw[h1];rfl
   cases h
  ·-- a function
   rename_i f hc;split at h
   ·rename_i l₀ hf;have e1:=ev f;rw[hf] at e1;generalize hv:a.eval f=v at e1;cases e1;split at h
    ·rename_i k n items hg;rw[lU] at h;have hu:=ent.entL;refine .yield G.itr.l ⟨c.args.toList.map a.eval⟩ ?_ (Vb hY hI hg h.ok (iY h.go.ok (Oe hI (aX hg si) hT _)) h.go.go.one h.go.go.two);simp only[execOp,ho];rw[My hc hv];rfl
    cases h
   ·rename_i g first caps hf;have e1:=ev f;rw[hf] at e1;generalize hv:a.eval f=v at e1;cases e1 with
    | clo _ _ _ va vb ha hb=>
     have hargs:=(ha.append (Al hT c.args.toList)).append hb;obtain ⟨hent,hcall⟩:=Rg hY hΓ hF hI h hargs;refine .call g ⟨va++c.args.toList.map a.eval++vb⟩ ?_ hcall;simp only[execOp,ho];rw[Hi hc hv];exact hent _ _
   cases h
  cases h
 | makeMap t r=>
  cases r with
  | some _=>simp only[ho] at h
  | none=>
   simp only[ho] at h;obtain ⟨v,w',h1,h2⟩:=Nd (P:=P) hI h;exact ⟨si,.value v w' (by simp[execOp,ho,h1]) h2⟩
 | lookup t m x ok=>
  simp only[ho] at h;obtain ⟨v,s,h1,h2,h3⟩:=Rv (P:=P) hI h (ev m) (ev x);exact ⟨si,dV hI (by simp[execOp,ho,h1]) h2 h3⟩
 | mapUpdate t m x y=>
  simp only[ho] at h;obtain ⟨H',w',h1,h2,h3,h4⟩:=Ia (P:=P) hI h (ev m) (ev x) (ev y);exact ⟨si,.skip w' (by simp[execOp,ho,h1]) ⟨_,_,_,_,h2,h3,.any _,h4⟩⟩
 | mapEntry t m x=>
  simp only[ho] at h;obtain ⟨v,w',h1,h2⟩:=Li (P:=P) hI h (ev m) (ev x);exact ⟨si,.value v w' (by simp[execOp,ho,h1]) h2⟩
 | entryStore t m s y=>
  simp only[ho] at h;obtain ⟨H',w',h1,h2,h3,h4⟩:=Fu (P:=P) (t:=t) hI h (ev m) (ev s) (ev y);exact ⟨si,.skip w' (by simp[execOp,ho,h1]) ⟨_,_,_,_,h2,h3,.any _,h4⟩⟩
 | range t x=>
  simp only[ho] at h;obtain ⟨v,w',h1,h2⟩:=Rt (P:=P) hI h (ev x);exact ⟨si,.value v w' (by simp[execOp,ho,h1]) h2⟩
 | next x b=>
  cases b with
  | true=>simp only[ho] at h
  | false=>
   simp only[ho] at h;obtain ⟨v,w',h1,h2⟩:=Zw (P:=P) (ty':=o.type) hI h (ev x);exact ⟨si,.value v w' (by simp[execOp,ho,h1]) h2⟩
 | entry x=>
  simp only[ho] at h;obtain ⟨v,s,h1,h2,h3⟩:=Vv (P:=P) hI h (ev x);exact ⟨si,dV hI (by simp[execOp,ho,h1]) h2 h3⟩
 | _=>simp only[ho] at h
end
end Go.Eng
end

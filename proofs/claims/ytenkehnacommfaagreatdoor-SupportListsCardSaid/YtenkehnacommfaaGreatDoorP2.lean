/-
  Part 2: a symbolic executor over the model, contracts of functions and plain laws.
-/
import Derived.Test.YtenkehnacommfaaGreatDoorP1
import Derived.Lib.AppendZeros
import Derived.Lib.AppendStr
import Derived.Laws.Cover3
import Derived.Laws.Strings
import Derived.Laws.IdiomCopy
import Derived.Laws.AppendOwn
import Derived.Maps.RangeRun
import Derived.MapKept
import Derived.DeepKeys3
set_option linter.unusedVariables false
set_option linter.unusedSimpArgs false
set_option maxRecDepth 10000
set_option maxHeartbeats 80000000
section
namespace Go.Eng
open Go.RowKit
theorem Reads.flatJ {w:World} {ok ok':Nat->Prop} {t:Ty} {x:t.T} {cs:List Value} (ht:t.flat=true) (h:Reads w ok t x cs):Reads w ok' t x cs:=by
 induction t generalizing cs with
 | int k=>exact h
 | bool=>exact h
 | str=>exact h
 | pair a b iha ihb=>
  simp only[Ty.flat,aE] at ht
  obtain ⟨c1,c2,e,h1,h2⟩:=h
  exact ⟨c1,c2,e,iha ht.1 h1,ihb ht.2 h2⟩
 | slice t _=>cases ht
theorem aEd {w:World} {ok:Nat->Prop} {t:Ty} {xs:List t.T} {b off:Nat}:∀(n:Nat),(∀i,i<n->∃es,es.length=t.size/\w.rangeAt b (off+i*t.size) es/\Reads w ok t (xs.getD i t.dflt) es)->
  ∃news:List Value,news.length=n*t.size/\w.rangeAt b off news/\∀i,i<n->Reads w ok t (xs.getD i t.dflt) ((news.drop (i*t.size)).take t.size)
 | 0,_=>⟨[],by simp,fun j v hj=>by simp at hj,fun i hi=>absurd hi (bG _)⟩
 | n+1,h=>by
  obtain ⟨news,h1,h2,h3⟩:=aEd n fun i hi=>h i (by omega)
  obtain ⟨es,h4,h5,h6⟩:=h n (by omega)
  refine ⟨news++es,by simp[h1,h4,bU],?_,?_⟩
  ·intro j v hj
   rcases Nat.lt_or_ge j news.length with hlt | hge
   ·rw[bF hlt] at hj;exact h2 j v hj
   rw[bX hge] at hj
   have:=h5 _ v hj
   have e:off+n*t.size+(j-news.length)=off+j:=by omega
   rwa [e] at this
  intro i hi
  by_cases e:i=n
  ·subst e
   have:(news++es).drop (i*t.size)=es:=by
    rw[<- h1,List.drop_left]
   rw[this,iM (by omega)]
   exact h6
  have hlt:i<n:=by omega
  have hm:i*t.size+t.size<=n*t.size:=by
   have:(i+1)*t.size<=n*t.size:=aU _ hlt
   rwa [bU,dV] at this
  have:((news++es).drop (i*t.size)).take t.size=(news.drop (i*t.size)).take t.size:=by
   rw[kJ (by omega),fD (by simp;omega)]
  rw[this]
  exact h3 i hlt
section
variable {P:Program} {G:Ctx} {H:List HO} {loc:Nat->Loc} {ver:Nat->Nat} {w:World}
structure Src (w:World) (ok:Nat->Prop) (t:Ty) (ys:List t.T) (x:Value) (a:Option Addr) (c:Nat) (news:List Value):Prop where
 val:x= .slice a ys.length c
 none:a=none->ys.length=0
 len:news.length=ys.length*t.size
 cell:∀ad,a=some ad->∀j u,news[j]? =some u->w.cell? (ad.add j)=some u
 rd:∀i,i<ys.length->Reads w ok t (ys.getD i t.dflt) ((news.drop (i*t.size)).take t.size)
theorem tT {ok:Nat->Prop} {t:Ty} {ys:List t.T} {x:Value} (h:Reads w ok (.slice t) ys [x]):∃a c news,Src w ok t ys x a c news:=by
 obtain ⟨a,n,c,e,hn,hc,hm,hall⟩:=h
 cases e
 have hn':n=ys.length:=hn
 subst hn'
 by_cases h0:0<ys.length
 ·obtain ⟨b,off,rfl,hok,hel⟩:=hall h0
  obtain ⟨news,h1,h2,h3⟩:=aEd (xs:=ys) ys.length hel
  exact ⟨_,c,news,rfl,(fun e=>by cases e),h1,(fun ad e j u hj=>by cases e;rw[Addr.add_mid];exact h2 j u hj),h3⟩
 have:ys.length=0:=by omega
 exact ⟨a,c,[],rfl,fun _=>this,by simp[this],(fun ad e j u hj=>by simp at hj),fun i hi=>by omega⟩
theorem tU (hI:Inv G H loc ver w) {t:Ty} {s:SV} {x:Value} {ys:List t.T} (h:aDq H t s=some ys) (hs:Rel (envOf G H loc ver w) s x):∃a c news,Src w (okN G H loc w) t ys x a c news:=by
 have hseq:∀ {s':SV} {t':Ty} {ys':List t'.T},s'= .seq t' ys'->(∀t'' (zs:List t''.T),s'= .seq t'' zs->∃a c news,Src w (okN G H loc w) t'' zs x a c news)->(match s' with
   | .seq t' ys=>if h:t'=t then some (h ▸ ys:List t.T) else none
   | .val (.slice none 0 0)=>some []
   | _=>none)=some ys->∃a c news,Src w (okN G H loc w) t ys x a c news:=by
  intro s' t' ys' e hsrc h
  subst e
  simp only at h
  split at h
  ·rename_i e
   subst e
   cases h
   exact hsrc _ _ rfl
  cases h
 unfold aDq at h
 cases hs with
 | seq t' xs _ hr=>exact hseq (s':=.seq t' xs) rfl (fun t'' zs e=>by cases e;exact tT hr) h
 | val v hw=>
  simp only[view] at h
  split at h
  ·rename_i heq;cases heq
  ·rename_i heq
   cases heq
   cases h
   exact ⟨none,0,[],rfl,fun _=>rfl,by simp,(fun ad e=>by cases e),fun i hi=>by simp at hi⟩
  cases h
 | ref nm k _ hn h0 hk hv=>
  simp only[view] at h
  cases ho:hget H nm with
  | vec j ty xs e=>
   rw[ho] at h
   simp only[lD] at h
   cases hb:Nat.beq j k with
   | false=>rw[hb] at h;simp at h
   | true=>
    rw[hb] at h
    obtain rfl:=bH.1 hb
    have hO:=hI.objs nm _ (aR ho (by simp))
    have hvj:ver nm=j:=hO.1
    have:=hv hvj.symm
    subst this
    refine hseq (s':=.seq ty xs) rfl (fun t'' zs e=>?_) h
    cases e
    obtain ⟨_,_,hlen,hmax,vs,hown,hel⟩:=hO
    have hlen':(loc nm).len=xs.length:=hlen
    rcases cE hown with ⟨e1,e2,e3,e4⟩ | ⟨g,cur,e1,e2,e3,e4,e5,e6,e7⟩
    ·have h00:List.length (α:=ty.T) xs=0:=by omega
     refine ⟨none,0,[],?_,fun _=>h00,by simp[h00],(fun ad e=>by cases e),fun i hi=>by omega⟩
     show (loc nm).head= _
     simp only[Core.head,e1,e2,e3,Option.map_none]
     rw[<- hlen',e3]
    refine ⟨some ⟨g,0,none⟩,(loc nm).cap,vs,?_,(fun e=>by cases e),?_,?_,?_⟩
    ·show (loc nm).head= _
     simp only[Core.head,e1,fM,hlen']
    ·rw[<- hlen'];exact hown.1
    ·intro ad e j u hj
     cases e
     rw[Addr.add_mid]
     rw[<- e7,aJ] at hj
     split at hj
     ·have e3':w.heap[g]? =some (.cells cur _ (0,0)):=e3
      simp only[World.cell?,e3']
      simpa using hj
     cases hj
    intro i hi
    exact hel i (by show i<(loc nm).len;omega)
  | fro j ty xs=>
   rw[ho] at h
   simp only at h
   cases hb:Nat.beq j k with
   | false=>rw[hb] at h;simp at h
   | true=>
    rw[hb] at h
    obtain rfl:=bH.1 hb
    have hO:=hI.objs nm _ (aR ho (by simp))
    have hvj:ver nm=j:=hO.1
    have:=hv hvj.symm
    subst this
    exact hseq (s':=.seq ty xs) rfl (fun t'' zs e=>by cases e;exact tT hO.2.2) h
  | dead=>rw[ho] at h;simp at h
  | cells l e=>rw[ho] at h;simp at h
  | frc l=>rw[ho] at h;simp at h
  | gone=>rw[ho] at h;simp at h
  | qm a b=>rw[ho] at h;simp at h
  | frm a b=>rw[ho] at h;simp at h
  | lnt a b c=>rw[ho] at h;simp at h
  | yst a b c=>rw[ho] at h;simp at h
  | map a b c=>rw[ho] at h;simp at h
  | mit a b c d=>rw[ho] at h;simp at h
  | res=>rw[ho] at h;simp at h
  | vv=>rw[ho] at h;simp at h
 | ptr nm off _ hn hh=>
  simp only[view] at h
  cases ho:hget H nm with
  | frc l=>rw[ho] at h;rcases aPc l off with ⟨n,e,_,_⟩ | e<;>simp only[e] at h<;>cases h
  | _=>rw[ho] at h;simp at h
 | mp nm _ hn hh=>
  simp only[view] at h
  cases ho:hget H nm with
  | _=>rw[ho] at h;simp at h
 | subp nm k i _ hn h0 hk hs' hv=>
  simp only[view] at h
  cases ho:hget H nm with
  | lnt j ty xs=>
   rw[ho] at h
   simp only[lD] at h
   cases hc:(ty.flat&&(Nat.beq j k&&Nat.beq i 0)) with
   | false=>rw[hc] at h;simp at h
   | true=>
    rw[hc] at h
    simp only[aE] at hc
    obtain ⟨hfl,h1,h2⟩:=hc
    have e1:j=k:=by simpa using h1
    have e2:i=0:=by simpa using h2
    subst e1;subst e2
    obtain ⟨q1,q2,q3,q4,q5⟩:=hI.objs nm _ (aR ho (by simp))
    have:=hv q1.symm q3.symm
    subst this
    refine hseq (s':=.seq ty xs) rfl (fun t'' zs e=>?_) h
    cases e
    obtain ⟨a,c,news,hsrc⟩:=tT q5
    exact ⟨a,c,news,hsrc.val,hsrc.none,hsrc.len,hsrc.cell,fun i hi=>Reads.flatJ hfl (hsrc.rd i hi)⟩
  | _=>rw[ho] at h;simp at h
 | _=>simp[view] at h
theorem nN {t ty e:TypeId} {i:TypeInfo} {z:Value} {tt:Ty} (ht:P.underlying t=some (.slice e)) (hi:P.info? e=some i) (hz:i.zero=some z) (hs:i.size=tt.size) (hzs:z.cells.size=tt.size)
  {L:Loc} {n:Nat} {xs:List Value} (hown:w.ownsR 0 e tt.size L.head n xs) {ok:Nat->Prop} {ys:List tt.T} {x:Value} {a:Option Addr} {c:Nat} {news:List Value} (hsrc:Src w ok tt ys x a c news)
  (hb:(n+ys.length)*i.bytes<=140737488355328) (hm:n+ys.length<=maxL):
  ∃(L':Loc) (w':World),(Builtin.append_ #[t,t] ty #[L.head,x]).run P w= .ok L'.head w'/\w'.ownsR 0 e tt.size L'.head (n+ys.length) (xs++news)/\w.grownBy w' (L.blk.map (·.1))/\(∀b,L'.blk.map (·.1)=some b->L.blk.map (·.1)=some b\/w.heap.size<=b):=by
 have hsz:=tt.size_pos
 have hm':n+ys.length<=140737488355328:=hm
 have h1:∀u∈news,u.oneCell'=true:=by
  intro u hu
  obtain ⟨j,hj,rfl⟩:=bV hu
  have hj':j<ys.length*tt.size:=by rw[<- hsrc.len];exact hj
  have hdiv:j/tt.size<ys.length:=Nat.div_lt_of_lt_mul (by rw[gB];exact hj')
  refine (hsrc.rd (j/tt.size) hdiv).one _ ?_
  have hmod:=eT j hsz
  have hdm:=Nat.div_add_mod j tt.size
  have:((news.drop (j/tt.size*tt.size)).take tt.size)[j%tt.size]? =some news[j]:=by
   rw[aJ,aD hmod,aT,gB,hdm,aH hj]
  exact gV this
 have same:ys.length=0->∃(L':Loc) (w':World),(Builtin.append_ #[t,t] ty #[L.head,x]).run P w= .ok L'.head w'/\w'.ownsR 0 e tt.size L'.head (n+ys.length) (xs++news)/\w.grownBy w' (L.blk.map (·.1))/\(∀b,L'.blk.map (·.1)=some b->L.blk.map (·.1)=some b\/w.heap.size<=b):=by
  intro h0
  have hn:news= []:=bW (by rw[hsrc.len,h0,uO])
  refine ⟨L,w,?_,by rw[hn,h0];simpa using hown,⟨rfl,rfl,rfl,aM _,fun _ _ _=>rfl⟩,fun b hb=>.inl hb⟩
  rw[hsrc.val,h0]
  have hle:L.len<=L.cap:=by
   rcases cE hown with ⟨_,e2,e3,_⟩ | ⟨g,cur,_,e2,_,e4,_⟩<;>omega
  cases hbk:L.blk with
  | none=>cases a<;>simp[Core.head,hbk,Builtin.append_,run_underlying ht,sizeOf,typeInfo,hi,Builtin.lenOf,Builtin.firstCells,loadCells,loadCellsFrom,hle,storeCells]
  | some p=>cases a<;>simp[Core.head,hbk,Builtin.append_,run_underlying ht,sizeOf,typeInfo,hi,Builtin.lenOf,Builtin.firstCells,loadCells,loadCellsFrom,hle,storeCells]
 by_cases h0:ys.length=0
 ·exact same h0
 obtain ⟨ad,rfl⟩:∃ad,a=some ad:=by
  cases a with
  | none=>exact absurd (hsrc.none rfl) h0
  | some ad=>exact ⟨ad,rfl⟩
 have hnl:news.length=ys.length*i.size:=by rw[hs];exact hsrc.len
 have hnews:=hsrc.cell ad rfl
 rw[hsrc.val]
 have hlen:(xs++news).length=(n+ys.length)*i.size:=by rw[aQ,hown.1,hnl,hs,bU]
 have grown:∀(old:Nat),old<n+ys.length->∀(row:Option Nat),
   (w.drew.alloc (.cells (xs.toArray++news.toArray++Builtin.zeroCells z.cells (grownCap w (n+ys.length) old e-(n+ys.length))) e)).ownsR 0 e tt.size (Core.head (mkL (some (w.heap.size,0)) (n+ys.length) (grownCap w (n+ys.length) old e)).toCore) (n+ys.length) (xs++news)/\
   w.grownBy (w.drew.alloc (.cells (xs.toArray++news.toArray++Builtin.zeroCells z.cells (grownCap w (n+ys.length) old e-(n+ys.length))) e)) row:=by
  intro old ho row
  have hge:=grownCap_ge w (n+ys.length) old e
  have hcm:grownCap w (n+ys.length) old e<=maxLen:=grownCap_le_maxLen w (n+ys.length) old e (by simp[maxLen];omega)
  refine ⟨⟨by rw[<- hs];exact hlen,.inr ⟨w.heap.size,_,_,rfl,aI _,jG w.drew _,hge,hcm,?_,?_⟩⟩,⟨rfl,rfl,rfl,by simp,fun k hk _=>Below.heap_alloc w.drew _ k hk⟩⟩
  ·have:xs.length+news.length=(n+ys.length)*tt.size:=by rw[<- aQ,hlen,hs]
   simp only[rY,eN,size_zeroCells,hzs,this,<- bU]
   exact aU _ (by omega)
  simp only[Array.toList_append]
  rw[<- hs,<- hlen]
  exact kV rfl
 rcases cE hown with ⟨e1,e2,e3,e4⟩ | ⟨g,cur,e1,e2,e3,e4,e5,e6,e7⟩
 ·have hx:xs= []:=bW (by rw[hown.1,e4,uO])
  subst hx e4
  simp only[dB] at hb hm' grown ⊢
  have hr:=run_append_nil (P:=P) w t ty e i z ht hi hz ad ys.length c news hnl hnews (by omega) (by omega) (by omega)
  have hgr:=grown 0 (by omega) (L.blk.map (·.1))
  refine ⟨(mkL (some (w.heap.size,0)) (ys.length) (_)),_,?_,hgr.1,hgr.2,fun b hb=>.inr (by simp at hb;omega)⟩
  simpa [Core.head,e1,e2,e3] using hr
 have hhead:L.head= .slice (some ⟨g,0,none⟩) n L.cap:=by simp[Core.head,e1,e2]
 by_cases hroom:n+ys.length<=L.cap
 ·have hfit:n*i.size+news.length<=cur.size:=by rw[hnl,hs,<- bU];exact bI (aU _ hroom) e6
  have hr:=run_append_room (P:=P) w t ty e i ht hi g n L.cap cur e3 ad ys.length c news hnl hnews h1 hroom hfit
  refine ⟨mkL (some (g,0)) (n+ys.length) L.cap,_,by rw[hhead];exact hr,⟨by rw[<- hs];exact hlen,.inr ⟨g,L.cap,_,rfl,aI _,setRow_heap w g cur _ e _ e3,hroom,e5,?_,?_⟩⟩,⟨rfl,rfl,rfl,by simp,fun k _ hk=>setRow_other w g k _ (fun e=>hk (by simp[e1,e]))⟩,fun b hb=>.inl (by simpa [e1] using hb)⟩
  ·simp only[eN,aQ,bA,dR,fA]
   omega
  rw[hs] at*
  rw[e7]
  rw[<- hlen]
  exact kV rfl
 have holds:∀j u,xs[j]? =some u->w.cell? ((⟨g,0,none⟩:Addr).add j)=some u:=by
  intro j u hj
  rw[Addr.add_mid]
  rw[<- e7,aJ] at hj
  split at hj
  ·simp only[World.cell?,e3]
   simpa using hj
  cases hj
 have hr:=run_append_grow (P:=P) w t ty e i z ht hi hz ⟨g,0,none⟩ n L.cap xs (by rw[hs];exact hown.1) holds ad ys.length c news hnl hnews (by omega) (by omega) (growslice_fits (by omega) hb)
 have hgr:=grown L.cap (by omega) (L.blk.map (·.1))
 exact ⟨(mkL (some (w.heap.size,0)) (n+ys.length) (_)),_,by rw[hhead];exact hr,hgr.1,hgr.2,fun b hb=>.inr (by simp at hb;omega)⟩
end
end Go.Eng
end
section
namespace Go.Eng
open Go.RowKit
section
variable {P:Program} {G:Ctx} {H:List HO} {loc:Nat->Loc} {ver:Nat->Nat} {w:World}
theorem pF (hI:Inv G H loc ver w) {nm k:Nat} {v:Value} {t:Ty} {xs:List t.T} {e:TypeId} (hr:Rel (envOf G H loc ver w) (.ref nm k) v) (ho:hget H nm= .vec k t xs e):v=(loc nm).head/\nm<H.length:=by
 cases hr with
 | ref _ _ _ hn h0 hk hv=>
  have hO:=hI.objs nm _ (aR ho (by simp))
  exact ⟨hv hO.1.symm,fU hn⟩
theorem pX {w':World} {ok ok':Nat->Prop} {t:Ty} {xs ys:List t.T} {vs news:List Value} (hx:vs.length=xs.length*t.size) (h1:∀i,i<xs.length->Reads w' ok t (xs.getD i t.dflt) ((vs.drop (i*t.size)).take t.size))
  (hn:news.length=ys.length*t.size) (h2:∀i,i<ys.length->Reads w' ok t (ys.getD i t.dflt) ((news.drop (i*t.size)).take t.size)):
  ∀i,i<xs.length+ys.length->Reads w' ok t ((xs++ys).getD i t.dflt) (((vs++news).drop (i*t.size)).take t.size):=by
 intro i hi
 by_cases hlt:i<xs.length
 ·have hm:i*t.size+t.size<=xs.length*t.size:=by
   have:(i+1)*t.size<=xs.length*t.size:=aU _ hlt
   rwa [bU,dV] at this
  have e1:((vs++news).drop (i*t.size)).take t.size=(vs.drop (i*t.size)).take t.size:=by
   rw[kJ (by omega),fD (by simp;omega)]
  have e2:(xs++ys).getD i t.dflt=xs.getD i t.dflt:=by
   rw[aB,bF hlt,<- aB]
  rw[e1,e2];exact h1 i hlt
 obtain ⟨k,rfl⟩:∃k,i=xs.length+k:=⟨i-xs.length,by omega⟩
 have e1:(xs.length+k)*t.size=xs.length*t.size+k*t.size:=bU ..
 have e2:(xs++ys).getD (xs.length+k) t.dflt=ys.getD k t.dflt:=by
  rw[aB,bX (by omega),aB]
  congr 2;omega
 rw[e1,aEa _ _ _ _ hx,e2];exact h2 k (by omega)
theorem aEe (hI:Inv G H loc ver w) {t ty:TypeId} {s x:SV} {p q:Value} {K:SV->List HO->Prop} (h:zH P t H s x K) (hs:Rel (envOf G H loc ver w) s p) (hx:Rel (envOf G H loc ver w) x q):
  ∃v w',(Builtin.append_ #[t,t] ty #[p,q]).run P w= .ok v w'/\Res G (envOf G H loc ver w) K v w':=by
 unfold zH at h
 split at h
 case h_2=>exact h.elim
 rename_i e he
 have hu:=dM he
 split at h
 case h_2=>exact h.elim
 rename_i tt i htt hi
 have h':=aW h
 clear h
 obtain ⟨hb,h⟩:=h'
 simp only[aE,bH] at hb
 obtain ⟨⟨hb1,hb2⟩,hb3⟩:=hb
 have hb2':0<i.bytes:=by simpa using hb2
 obtain ⟨z,hz,hzs⟩:∃z,i.zero=some z/\z.cells.size=tt.size:=by
  cases hz:i.zero with
  | none=>rw[hz] at hb3;cases hb3
  | some z=>rw[hz] at hb3;exact ⟨z,rfl,bH.1 hb3⟩
 have hfit:∀n:Nat,n*i.bytes<=140737488355328->n<=maxL:=fun n hn=>bI (kB n hb2') hn
 split at h
 case h_2=>exact h.elim
 rename_i ys hys
 obtain ⟨a,c,news,hsrc⟩:=tU hI hys hx
 split at h
 ·cases hs
  obtain ⟨hn,hk⟩:=h
  rw[bQ] at hk
  obtain ⟨L',w',hr,hown,hg,hfr⟩:=nN (P:=P) (w:=w) (t:=t) (ty:=ty) (tt:=tt) (L:=mkL none 0 0) (n:=0) (xs:=[]) hu hi hz hb1 hzs ⟨by simp,.inl ⟨rfl,rfl⟩⟩ hsrc (by simpa using hn) (by have:=hfit _ hn;omega)
  simp only[dB,iE] at hown
  obtain ⟨h1,h2,h3,h4,h5⟩:=hg
  have hL:L'.len=ys.length:=by
   rcases cE hown with ⟨_,_,e3,e4⟩ | ⟨g,cur,_,e2,_⟩<;>omega
  have hf:=hI.fresh (w':=w') (.vec 1 tt ys e) L' 1 h4 h1 h2 h3 (fun b hb=>h5 b hb (by simp)) (by
    intro b hb
    rcases hfr b hb with h | h
    ·simp at h
    exact h)
   (fun hx'=>⟨rfl,Nat.one_pos,hL,by rw[hL];exact hfit _ hn,news,by rw[hL];exact hown,fun i hi=>(hsrc.rd i (by omega)).mono hx'.cell hx'.ok⟩)
  refine ⟨_,_,hr,_,_,_,_,hk,hf.1,?_,hf.2⟩
  refine .ref _ _ _ (by exact jM rfl) Nat.one_pos (by simp[envOf,aV]) fun _=>?_
  simp[envOf,aV]
 ·rename_i nm k
  split at h
  case h_2=>exact h.elim
  rename_i v ty' xs e' ho
  have h':=aW h
  clear h
  obtain ⟨hb,h⟩:=h'
  simp only[aE,bH] at hb
  obtain ⟨e1,e2⟩:=hb
  subst e1 e2
  split at h
  case isFalse=>exact h.elim
  rename_i ety
  subst ety
  obtain ⟨hn,hk⟩:=h
  rw[bQ] at hk
  obtain ⟨hp,hlt⟩:=pF hI hs ho
  subst hp
  have hn':=aR ho (by simp)
  obtain ⟨hv,hv0,hlen,hmax,vs,hown,hel⟩:=hI.objs nm _ hn'
  have hlen':(loc nm).len=xs.length:=hlen
  have hown':w.ownsR 0 e ty'.size (loc nm).head xs.length vs:=by rw[<- hlen'];exact hown
  obtain ⟨L',w',hr,hown2,hg,hfr⟩:=nN (P:=P) (w:=w) (t:=t) (ty:=ty) hu hi hz hb1 hzs hown' hsrc hn (hfit _ hn)
  obtain ⟨h1,h2,h3,h4,h5⟩:=hg
  have hL:L'.len=xs.length+ys.length:=by
   rcases cE hown2 with ⟨_,_,e3,e4⟩ | ⟨g,cur,_,e2,_⟩<;>omega
  have hvj:ver nm=v:=hv
  have ht:=hI.turn (w':=w') (H':=hset H nm (.vec (v+1) ty' (List.append xs ys) e)) (loc':=upd loc nm L') (ver':=upd ver nm (v+1)) nm (by simp[hset]) (fun k hk=>⟨bS hk,cR _ _ _ hk,cR _ _ _ hk⟩)
   (fun _=>dF (aN hlt) rfl) (fun _=>.inr ⟨by omega,by rw[aV];omega⟩) h4 h1 h2 h3 (by rw[hn'];intro h;cases h) (fun _=>by first | rw[show hset H nm _=H.set nm _ from rfl,aN hlt];intro h;cases h | rw[show hset H 0 _=H.set 0 _ from rfl,aN hlt];intro h;cases h) (fun st n it b h=>by rw[show hset H nm (.vec (v+1) ty' (List.append xs ys) e)=H.set nm _ from rfl,aN hlt] at h;cases h) (fun b hb hne=>h5 b hb (by
    intro e
    exact hne _ hn' (by simp only[Owns];exact e.symm)))
   (by
    intro o' b ho' hb
    rw[show hset H nm (.vec (v+1) ty' (List.append xs ys) e)=H.set nm _ from rfl,aN hlt] at ho';cases ho'
    rw[aV] at hb
    rcases hfr b hb with h | h
    ·exact .inl ⟨_,hn',h⟩
    exact .inr h)
   (by
    intro hx' o' ho'
    rw[show hset H nm (.vec (v+1) ty' (List.append xs ys) e)=H.set nm _ from rfl,aN hlt] at ho';cases ho'
    rw[aV,aV]
    refine ⟨rfl,gP _,by rw[hL];simp,by rw[hL];exact hfit _ hn,vs++news,by rw[hL];exact hown2,fun i hi=>?_⟩
    rw[hL] at hi
    refine pX (ok':=fun _=>True) ?_ (fun i hi=>(hel i (by show i<(loc nm).len;omega)).mono hx'.cell hx'.ok) hsrc.len (fun i hi=>(hsrc.rd i hi).mono hx'.cell hx'.ok) i hi
    exact hown'.1)
  refine ⟨_,_,hr,_,_,_,_,hk,ht.1,?_,ht.2⟩
  refine .ref _ _ _ (by exact dF (aN hlt) rfl) (gP _) (by simp[envOf,aV]) fun _=>?_
  simp[envOf,aV]
 exact h.elim
theorem zR (hI:Inv G H loc ver w) {t u ty:TypeId} {s x:SV} {p q:Value} {K:SV->List HO->Prop} (h:vF P t u H s x K) (hs:Rel (envOf G H loc ver w) s p) (hx:Rel (envOf G H loc ver w) x q):
  ∃v w',(Builtin.append_ #[t,u] ty #[p,q]).run P w= .ok v w'/\Res G (envOf G H loc ver w) K v w':=by
 unfold vF at h
 split at h
 case h_2=>exact h.elim
 rename_i ku kn n hku
 split at h
 case h_2=>exact h.elim
 rename_i e he
 have hu:=dM he
 split at h
 case h_2=>exact h.elim
 rename_i tt i htt hi
 have h':=aW h
 clear h
 obtain ⟨hb,h⟩:=h'
 simp only[aE,bH] at hb
 obtain ⟨⟨⟨hb1,hb2⟩,hb4⟩,hb3⟩:=hb
 have hb2':0<i.bytes:=by simpa using hb2
 have hb4':=eK hb4
 obtain ⟨z,hz,hzs⟩:∃z,i.zero=some z/\z.cells.size=tt.size:=by
  cases hz:i.zero with
  | none=>rw[hz] at hb3;cases hb3
  | some z=>rw[hz] at hb3;exact ⟨z,rfl,bH.1 hb3⟩
 obtain ⟨hn,hk⟩:=h
 rw[bQ] at hk
 cases hs
 cases hx
 obtain ⟨m,rfl⟩:∃m:Nat,n=m:=⟨n.toNat,by omega⟩
 have hm1:0<m:=by omega
 have hm2:m<=137438953472:=by omega
 have hsz:=tt.size_pos
 have hm3:m*i.bytes<=137438953472*1024:=jZ hm2 hb4'
 have hrun:=Lib.run_append_nil_zeros (P:=P) w t u ty e i z kn ku hu hku hi hz m hm1 (by omega) (by omega) (by omega)
 have hge:=grownCap_ge w m 0 e
 have hcm:grownCap w m 0 e<=maxLen:=grownCap_le_maxLen w m 0 e (by simp[maxLen];omega)
 have hf:=hI.fresh (w':=w.drew.alloc (.cells (Builtin.zeroCells z.cells m++Builtin.zeroCells z.cells (grownCap w m 0 e-m)) e)) (.vec 1 tt [] e) (mkL (some (w.heap.size,0)) 0 (grownCap w m 0 e)) 1
  (by simp) rfl rfl rfl (fun b hb=>Below.heap_alloc w.drew _ b hb) (by
   intro b hb
   simp[Owns] at hb
   omega)
  (fun _=>⟨rfl,Nat.one_pos,rfl,aI _,[],⟨by simp,.inr ⟨w.heap.size,_,_,rfl,aI _,jG w.drew _,aI _,hcm,by
   simp only[rY,size_zeroCells,hzs,<- bU]
   exact aU _ (by omega),by simp⟩⟩,fun i hi=>absurd hi (bG _)⟩)
 refine ⟨_,_,hrun,_,_,_,_,hk,hf.1,?_,hf.2⟩
 refine .wide _ _ _ (by exact jM rfl) Nat.one_pos (by simp[envOf,aV]) fun _=>⟨m,?_,?_⟩
 ·simpa [envOf,aV] using hge
 simp[envOf,aV]
theorem aB4 {e:TypeId} {z:List SV} {i:TypeInfo} (hz:oA P e=some z) (hi:P.info? e=some i):∃zv:Value,i.zero=some zv/\z=zv.cells.toList.map cst:=by
 unfold oA at hz
 rw[hi] at hz
 simp only at hz
 cases h:i.zero with
 | none=>rw[h] at hz;cases hz
 | some v=>rw[h] at hz;exact ⟨v,rfl,by simpa using hz.symm⟩
theorem sH (z:Array Value) (n:Nat) (h:0<z.size) (j:Nat) (hj:j<n):(madeCells z n).toList[j]? =some (z.toList.getD (j%z.size) undef):=by
 have h2:j%z.size<z.size:=eT _ h
 simp[madeCells,hj,h2]
theorem aIy (hI:Inv G H loc ver w) {t:TypeId} {n c:SV} {p q:Value} {K:SV->List HO->Prop} (h:aMw P t H n c K) (hn:Rel (envOf G H loc ver w) n p) (hc:Rel (envOf G H loc ver w) c q):
  ∃v w',(Instr.makeSlice t p q).run P w= .ok v w'/\Res G (envOf G H loc ver w) K v w':=by
 unfold aMw at h
 split at h
 case h_2=>exact h.elim
 rename_i e kn nn kc nc he
 have hu:=dM he
 obtain ⟨rfl,_⟩:=hn.int_inv
 obtain ⟨rfl,_⟩:=hc.int_inv
 split at h
 case h_2=>exact h.elim
 rename_i tt i z htt hi hz
 have h':=aW h
 clear h
 obtain ⟨hb,h⟩:=h'
 simp only[aE,bH] at hb
 obtain ⟨⟨hb1,hb2⟩,hb3⟩:=hb
 split at h
 case h_2=>exact h.elim
 rename_i x0 hd
 obtain ⟨⟨n1,n2,n3,n4⟩,hk⟩:=h
 rw[bQ] at hk
 obtain ⟨zv,hzv,rfl⟩:=aB4 hz hi
 have hzl:zv.cells.size=tt.size:=by simpa using hb3
 have hpos:=tt.size_pos
 have hr:=run_make (P:=P) w t e i zv hu hi hzv kn kc nn nc n1 n2 (by rw[cB];omega) (by omega)
 have hf:=hI.fresh (w':=w.alloc (.cells (madeCells zv.cells (nc.toNat*i.size)) e)) (.vec 1 tt (List.replicate nn.toNat x0) e) (mkL (some (w.heap.size,0)) (nn.toNat) (nc.toNat)) 1 (by simp) rfl rfl rfl (fun b hb=>Below.heap_alloc w _ b hb) (by intro b hb;simp[Owns] at hb;omega)
  (fun hx=>by
   have hm:nn.toNat*tt.size<=nc.toNat*i.size:=by rw[hb1];exact aU _ (by omega)
   refine ⟨rfl,Nat.one_pos,by simp,by show nn.toNat<=140737488355328;omega,(madeCells zv.cells (nc.toNat*i.size)).toList.take (nn.toNat*tt.size),⟨by show (List.take _ _).length=nn.toNat*tt.size;rw[bA,fA,size_madeCells];exact cI hm,.inr ⟨w.heap.size,nc.toNat,madeCells zv.cells (nc.toNat*i.size),rfl,aI _,jG w _,by show nn.toNat<=nc.toNat;omega,by simp[maxLen];omega,by rw[size_madeCells,hb1];exact aM _,rfl⟩⟩,fun j hj=>?_⟩
   have hj':j<nn.toNat:=hj
   have hjm:j*tt.size+tt.size<=nn.toNat*tt.size:=by
    have:(j+1)*tt.size<=nn.toNat*tt.size:=aU _ hj'
    rwa [bU,dV] at this
   have e1:(List.replicate nn.toNat x0).getD j tt.dflt=x0:=by
    rw[aB]
    have:(List.replicate nn.toNat x0)[j]? =some x0:=by simp[hj']
    rw[this];rfl
   have e2:((((madeCells zv.cells (nc.toNat*i.size)).toList.take (nn.toNat*tt.size)).drop (j*tt.size)).take tt.size)=zv.cells.toList:=by
    apply cK
    intro q
    rw[aJ]
    by_cases hq:q<tt.size
    ·rw[aD hq,aT,aJ,aD (by omega),sH _ _ (by omega) _ (by omega)]
     have:(j*tt.size+q)%zv.cells.size=q:=by rw[hzl,gB,Nat.mul_add_mod];exact fQ hq
     rw[this]
     have hq2:q<zv.cells.toList.length:=by simp;omega
     simp[hzl,hq]
    rw[aC hq,bN (by simp;omega)]
   rw[e1,e2]
   exact oF (pD _ _) hd hb2)
 refine ⟨_,_,hr,_,_,_,_,hk,hf.1,?_,hf.2⟩
 refine .ref _ _ _ (by exact jM rfl) Nat.one_pos (by simp[envOf,aV]) fun _=>?_
 simp[envOf,aV,Core.head]
theorem aWd (s:Bx):(⟨s.toArray⟩:ByteArray).size=s.length:=by simp[ByteArray.size]
theorem aB5 (hI:Inv G H loc ver w) {s:SV} {x:Value} {K:SV->Prop} (h:aOx H s K) (hs:Rel (envOf G H loc ver w) s x):(∃a n c s',x= .slice a n c/\K s'/\Rel (envOf G H loc ver w) s' (.int .i64 n))\/(∃l s',s= .str l/\x= .string ⟨List.toArray l⟩/\K s'/\Rel (envOf G H loc ver w) s' (.int .i64 l.length)):=by
 have hK:∀n:Nat,n<=maxL->inK .i64 n:=fun n hn=>by
  have:n<=140737488355328:=hn
  constructor<;>simp only[lo,hi]<;>omega
 have hR:∀(t:Ty) (xs:List t.T) (x:Value),Reads w (okN G H loc w) (.slice t) xs [x]->Giv (xs.length<=140737488355328) (K (.val (.int .i64 xs.length)))->∃a n c s',x= .slice a n c/\K s'/\Rel (envOf G H loc ver w) s' (.int .i64 n):=by
  intro t xs x hr h
  obtain ⟨a,n,c,e,hn,_,hm,_⟩:=hr
  cases e
  have hn':n=xs.length:=hn
  subst hn'
  exact ⟨a,_,c,_,rfl,h.go hm,.val _ (hK _ hm)⟩
 unfold aOx at h
 split at h
 ·rename_i t xs
  cases hs with
  | seq _ _ _ hr=>exact .inl (hR t xs x hr h)
 ·rename_i l
  cases hs with
  | str _ hl=>exact .inr ⟨l,_,rfl,rfl,h.go hl,.val _ (hK l.length hl)⟩
 ·rename_i es l
  obtain ⟨hb2,hk⟩:=aW h
  have hb2:=eK hb2
  cases hs1:Nat.beq es 1 with
  | true=>
   rw[hs1] at hk
   simp only[bP] at hk
   obtain rfl:=bH.1 hs1
   rw[aH1,uP] at hk
   cases hs with
   | lit _ n b off _ vs hl hn hok hr=>
    have e:l.length=n:=by rw[hl.length,hn];omega
    have hk':K (.val (.int .i64 (n:Int))):=by rw[<- e];exact hk
    exact .inl ⟨_,_,_,_,rfl,hk',.val _ (hK n (by rw[<- e];exact bI hb2 (by simp[maxL])))⟩
  | false=>
   rw[hs1] at hk
   simp only[cA] at hk
   obtain ⟨h0,hk⟩:=aW hk
   have h0:0<es:=by simpa using h0
   cases hs with
   | lit _ n b off _ vs hl hn hok hr=>
    have e:l.length=n*es:=by rw[hl.length,hn]
    rw[aH2 h0 l 0 n 0 _ (by omega) h0,uP] at hk
    refine .inl ⟨_,_,_,_,rfl,hk,.val _ (hK n ?_)⟩
    have h1:=kB n h0
    exact bI (bI h1 (by rw[<- e];exact hb2)) (by simp[maxL])
 ·cases hs
  exact .inl ⟨none,0,0,_,rfl,h,.val _ (hK 0 (aI _))⟩
 ·split at h
  case h_2=>exact h.elim
  rename_i k m it ho
  cases hs with
  | sft _ _ hon hv=>
   obtain ⟨hl,hm,_⟩:=aD8 hI ho hv.1
   have hv2:x=G.itr.sf.head:=hv.2
   exact .inl ⟨_,_,_,_,hv2,h.go hm,by rw[hl];exact .val _ (hK _ hm)⟩
 ·rename_i nm k i j z
  split at h
  ·rename_i v t xs e ho
   obtain ⟨hb,hk⟩:=aW h
   have hb:=bH.1 hb
   subst hb
   obtain ⟨hv,hv0,hlen,hmax,vs,hown,hel⟩:=hI.objs nm _ (aR ho (by simp))
   cases hs with
   | part _ _ _ _ _ _ hn h0 hkk hq=>
    obtain ⟨h1,h2,rfl⟩:=hq hv.symm
    have h2:j<=(loc nm).len:=h2
    exact .inl ⟨_,_,_,_,rfl,hk,.val _ (hK _ (by have:(loc nm).len<=maxL:=hmax;omega))⟩
  exact h.elim
 ·rename_i nm k
  split at h
  ·rename_i v t xs e ho
   obtain ⟨hb,hk⟩:=aW h
   have hb:=bH.1 hb
   subst hb
   obtain ⟨rfl,_⟩:=pF hI hs ho
   obtain ⟨hv,hv0,hlen,hmax,vs,hown,hel⟩:=hI.objs nm _ (aR ho (by simp))
   have hlen':(loc nm).len=xs.length:=hlen
   exact .inl ⟨_,_,_,_,rfl,hk.go (by rw[<- hlen'];exact hmax),by rw[hlen'];exact .val _ (hK _ (by rw[<- hlen'];exact hmax))⟩
  ·rename_i v t xs ho
   obtain ⟨hb,hk⟩:=aW h
   have hb:=bH.1 hb
   subst hb
   cases hs with
   | ref _ _ _ hn h0 hkk hv=>
    have hO:=hI.objs nm _ (aR ho (by simp))
    have hvj:ver nm=v:=hO.1
    have:=hv hvj.symm
    subst this
    exact .inl (hR t xs _ hO.2.2 hk)
  exact h.elim
 exact h.elim
end
end Go.Eng
end
section
namespace Go.Eng
open Go.RowKit Go.Lib
section
variable {P:Program} {G:Ctx} {H:List HO} {loc:Nat->Loc} {ver:Nat->Nat} {w:World}
theorem fH (s:Bx):(eG s).length=s.length:=by simp[eG]
theorem aBz (s:Bx):strCells ⟨s.toArray⟩=(eG s).map fun n=>Value.int .u8 n:=by simp[strCells,eG]
theorem aTx (s:Bx) (i:Nat) (hi:i<s.length) (w':World) (ok:Nat->Prop):Reads w' ok (.int .u8) ((eG s).getD i 0) ((strCells ⟨s.toArray⟩).drop (i*1) |>.take 1):=by
 have e:((strCells ⟨s.toArray⟩).drop (i*1) |>.take 1)= [Value.int .u8 ((eG s).getD i 0)]:=by
  rw[aBz,dU]
  have hi':i<(eG s).length:=by rw[fH];exact hi
  rw[<- List.map_drop,<- List.map_take,jE hi',List.take_succ_cons,List.take_zero]
  simp[aB,hi']
 rw[e]
 refine ⟨rfl,?_⟩
 have hg:(eG s).getD i 0=(s[i].toNat:Int):=by simp[eG,aB,hi]
 have h2:=s[i].toNat_lt
 show (0:Int)<=(eG s).getD i 0/\(eG s).getD i 0<=255
 rw[hg]
 omega
theorem aD3 {t u ty e:TypeId} {i:TypeInfo} (ht:P.underlying t=some (.slice e)) (hu:P.underlying u=some .string) (hi:P.info? e=some i) (hz:i.zero=some (.int .u8 0)) (hsize:i.size=1) (hby:i.bytes=1)
  {L:Loc} {n:Nat} {xs:List Value} (hown:w.ownsR 0 e 1 L.head n xs) (s:Bx) (hb:n+s.length<=140737488355328):
  ∃(L':Loc) (w':World),(Builtin.append_ #[t,u] ty #[L.head,.string ⟨s.toArray⟩]).run P w= .ok L'.head w'/\w'.ownsR 0 e 1 L'.head (n+s.length) (xs++strCells ⟨s.toArray⟩)/\w.grownBy w' (L.blk.map (·.1))/\(∀b,L'.blk.map (·.1)=some b->L.blk.map (·.1)=some b\/w.heap.size<=b):=by
 have hsz:(⟨s.toArray⟩:ByteArray).size=s.length:=by simp[ByteArray.size]
 have hxl:xs.length=n:=by simpa using hown.1
 have hlen:(xs++strCells ⟨s.toArray⟩).length=(n+s.length)*1:=by rw[aQ,hxl,strCells_length,hsz,dU]
 have grown:∀(old:Nat),old<n+s.length->∀(row:Option Nat),
   (w.drew.alloc (.cells (xs.toArray++(strCells ⟨s.toArray⟩).toArray++Builtin.zeroCells (Value.int .u8 0).cells (grownCap w (n+s.length) old e-(n+s.length))) e)).ownsR 0 e 1 (Core.head (mkL (some (w.heap.size,0)) (n+s.length) (grownCap w (n+s.length) old e)).toCore) (n+s.length) (xs++strCells ⟨s.toArray⟩)/\
   w.grownBy (w.drew.alloc (.cells (xs.toArray++(strCells ⟨s.toArray⟩).toArray++Builtin.zeroCells (Value.int .u8 0).cells (grownCap w (n+s.length) old e-(n+s.length))) e)) row:=by
  intro old ho row
  have hge:=grownCap_ge w (n+s.length) old e
  have hcm:grownCap w (n+s.length) old e<=maxLen:=grownCap_le_maxLen w (n+s.length) old e (by simp[maxLen];omega)
  refine ⟨⟨hlen,.inr ⟨w.heap.size,_,_,rfl,aI _,jG w.drew _,hge,hcm,?_,?_⟩⟩,⟨rfl,rfl,rfl,by simp,fun k hk _=>Below.heap_alloc w.drew _ k hk⟩⟩
  ·have hz1:(Value.int IntKind.u8 0).cells.size=1:=rfl
   simp only[rY,eN,size_zeroCells,hz1,hxl,strCells_length,hsz]
   omega
  simp only[Array.toList_append,bZ]
  rw[<- bZ,<- hlen]
  exact List.take_left
 rcases cE hown with ⟨e1,e2,e3,e4⟩ | ⟨g,cur,e1,e2,e3,e4,e5,e6,e7⟩
 ·have hx:xs= []:=bW (by rw[hxl,e4])
  subst hx e4
  have hhead:L.head= .slice none 0 0:=by simp[Core.head,e1,e2,e3]
  by_cases hm:s.length=0
  ·have hs:s= []:=bW hm
   subst hs
   refine ⟨L,w,?_,by simpa [strCells] using hown,⟨rfl,rfl,rfl,aM _,fun _ _ _=>rfl⟩,fun b hb=>.inl hb⟩
   have hf:=run_firstCells_string (P:=P) w 1 ⟨#[]⟩
   have h0:(⟨#[]⟩:ByteArray).size=0:=rfl
   rw[h0] at hf
   rw[hhead]
   simp[Builtin.append_,run_underlying ht,run_underlying hu,sizeOf,typeInfo,hi,hsize,Builtin.lenOf,h0,hf]
  have hr:=run_append_nil_string (P:=P) w t u ty e i (.int .u8 0) ht hu hi hz ⟨s.toArray⟩ (by omega) (by omega) (by rw[hby];omega)
  have hgr:=grown 0 (by omega) (L.blk.map (·.1))
  simp only[dB,iE,Array.empty_append] at hgr ⊢
  have e1':((⟨s.toArray⟩:ByteArray).data.map fun b=>Value.int .u8 b.toNat)=(strCells ⟨s.toArray⟩).toArray:=by
   apply eL
   simp[strCells]
  rw[e1',hsz] at hr
  refine ⟨mkL (some (w.heap.size,0)) s.length (grownCap w s.length 0 e),_,?_,hgr.1,hgr.2,fun b hb=>.inr (by simp at hb;omega)⟩
  rw[hhead]
  simpa [Core.head] using hr
 have hhead:L.head= .slice (some ⟨g,0,none⟩) n L.cap:=by simp[Core.head,e1,e2]
 have e6':L.cap<=cur.size:=by simpa using e6
 by_cases hroom:n+s.length<=L.cap
 ·have hr:=run_append_room_string (P:=P) w t u ty e i ht hu hi hsize g n L.cap cur e3 ⟨s.toArray⟩ (by rw[hsz];exact hroom) (by rw[hsz];omega)
  rw[hsz] at hr
  refine ⟨mkL (some (g,0)) (n+s.length) L.cap,_,by rw[hhead];exact hr,⟨hlen,.inr ⟨g,L.cap,_,rfl,aI _,setRow_heap w g cur _ e _ e3,hroom,e5,?_,?_⟩⟩,⟨rfl,rfl,rfl,by simp,fun k _ hk=>setRow_other w g k _ (fun e=>hk (by simp[e1,e]))⟩,fun b hb=>.inl (by simpa [e1] using hb)⟩
  ·simp only[eN,aQ,bA,dR,fA,strCells_length,hsz]
   omega
  have ht':cur.toList.take n=xs:=by simpa using e7
  rw[ht',<- hlen]
  exact List.take_left
 have holds:∀j u,xs[j]? =some u->w.cell? ((⟨g,0,none⟩:Addr).add j)=some u:=by
  intro j u hj
  rw[Addr.add_mid]
  rw[<- e7,aJ] at hj
  split at hj
  ·simp only[World.cell?,e3]
   simpa using hj
  cases hj
 have hr:=run_append_grow_string (P:=P) w t u ty e i (.int .u8 0) ht hu hi hz ⟨g,0,none⟩ n L.cap xs (by rw[hsize];simpa using hxl) holds ⟨s.toArray⟩ (by rw[hsz];omega) (by rw[hsz];omega) (by rw[hby,hsz];exact growslice_fits (by omega) (by omega))
 rw[hsz] at hr
 have hgr:=grown L.cap (by omega) (L.blk.map (·.1))
 exact ⟨(mkL (some (w.heap.size,0)) (n+s.length) (_)),_,by rw[hhead];exact hr,hgr.1,hgr.2,fun b hb=>.inr (by simp at hb;omega)⟩
theorem aFs (hI:Inv G H loc ver w) {t u ty:TypeId} {s x:SV} {p q:Value} {K:SV->List HO->Prop} (h:aH7 P t u H s x K) (hs:Rel (envOf G H loc ver w) s p) (hx:Rel (envOf G H loc ver w) x q):
  ∃v w',(Builtin.append_ #[t,u] ty #[p,q]).run P w= .ok v w'/\Res G (envOf G H loc ver w) K v w':=by
 unfold aH7 at h
 split at h
 case h_2=>exact h.elim
 rename_i nm k bs hu
 split at h
 case h_2=>exact h.elim
 rename_i e he
 have ht:=dM he
 split at h
 case h_2=>exact h.elim
 rename_i i j xs e' hi ho
 obtain ⟨hb,hm⟩:=aW h
 clear h
 simp only[aE,bH] at hb
 obtain ⟨⟨⟨⟨hjk,hee⟩,hb1⟩,hb2⟩,hb3⟩:=hb
 subst hjk hee
 have hz:i.zero=some (.int .u8 0):=by
  split at hb3
  ·rename_i h0;rw[h0]
   have:=dI hb3
   rw[this]
  cases hb3
 obtain ⟨hn,hk⟩:=hm
 rw[bQ] at hk
 obtain ⟨hp,hlt⟩:=pF hI hs ho
 subst hp
 cases hx with
 | str _ hl=>
 have hn':=aR ho (by simp)
 obtain ⟨hv,hv0,hlen,hmax,vs,hown,hel⟩:=hI.objs nm _ hn'
 have hlen':(loc nm).len=List.length (α:=Int) xs:=hlen
 have hown':w.ownsR 0 e 1 (loc nm).head (List.length (α:=Int) xs) vs:=by rw[<- hlen'];exact hown
 obtain ⟨L',w',hr,hown2,hg,hfr⟩:=aD3 (P:=P) (w:=w) (t:=t) (u:=u) (ty:=ty) ht hu hi hz hb1 hb2 hown' bs hn
 obtain ⟨h1,h2,h3,h4,h5⟩:=hg
 have hL:L'.len=List.length (α:=Int) xs+bs.length:=by
  rcases cE hown2 with ⟨_,_,e3,e4⟩ | ⟨g,cur,_,e2,_⟩<;>omega
 have hvj:ver nm=j:=hv
 have hst:(Eng.hset H nm (.vec (j+1) (.int .u8) (List.append (α:=Int) xs (eG bs)) e))[nm]? =some (.vec (j+1) (.int .u8) (List.append (α:=Int) xs (eG bs)) e):=aN hlt
 have ht2:=hI.turn (w':=w') (H':=hset H nm (.vec (j+1) (.int .u8) (List.append (α:=Int) xs (eG bs)) e)) (loc':=upd loc nm L') (ver':=upd ver nm (j+1)) nm (by simp[Eng.hset]) (fun k hk=>⟨bS hk,cR _ _ _ hk,cR _ _ _ hk⟩)
  (fun _=>dF hst rfl) (fun _=>.inr ⟨by omega,by rw[aV];omega⟩) h4 h1 h2 h3 (by rw[hn'];intro h;cases h) (fun _=>by rw[hst];intro h;cases h) (fun st n it b h=>by rw[hst] at h;cases h) (fun b hb hne=>h5 b hb (by
   intro e
   exact hne _ hn' (by simp only[Owns];exact e.symm)))
  (by
   intro o' b ho' hb
   rw[hst] at ho';cases ho'
   rw[aV] at hb
   rcases hfr b hb with h | h
   ·exact .inl ⟨_,hn',h⟩
   exact .inr h)
  (by
   intro hx' o' ho'
   rw[hst] at ho';cases ho'
   rw[aV,aV]
   refine ⟨rfl,gP _,by rw[hL];simp[fH],by rw[hL];exact hn,vs++strCells ⟨bs.toArray⟩,by rw[hL];exact hown2,fun i hi=>?_⟩
   rw[hL] at hi
   exact pX (t:=.int .u8) (ok':=fun _=>True) (xs:=xs) (ys:=eG bs) hown'.1 (fun i hi=>(hel i (by show i<(loc nm).len;omega)).mono hx'.cell hx'.ok) (by rw[aBz];simp[Ty.size]) (fun i hi=>aTx bs i (by rw[<- fH];exact hi) _ _) i (by rw[fH];exact hi))
 refine ⟨_,_,hr,_,_,_,_,hk,ht2.1,?_,ht2.2⟩
 refine .ref _ _ _ (by exact dF hst rfl) (gP _) (by simp[envOf,aV]) fun _=>?_
 simp[envOf,aV]
end
end Go.Eng
end
section
namespace Go.Eng
open Go.RowKit
mutual
theorem Rel.bare {E E':Env} (hC:KeepC E E') (hk:∀b,E.ok b->E'.ok b) {s:SV} {v:Value} (h:Rel E s v) (hb:Eng.bare s=true):Rel E' s v:=by
 cases h with
 | any=>exact .any v
 | val _ h=>exact .val v h
 | bl p d=>exact .bl p d
 | str s h=>exact .str s h
 | seq t xs _ h=>exact .seq t xs v (h.mono hC.cell hk)
 | lit es n b off l vs hl hn hok hr=>exact .lit es n b off l vs (hl.bare hC hk (by simpa [Eng.bare] using hb)) hn (hk _ hok) (fun j v hj=>hC.cell _ v hok (hr j v hj))
 | elem t xs i o b off es hi hok hr h=>exact .elem t xs i o b off es hi (hk _ hok) (fun j v hj=>hC.cell _ v hok (hr j v hj)) (h.mono hC.cell hk)
 | lelem l i b off vs hl hok hr=>exact .lelem l i b off vs (hl.bare hC hk (by simpa [Eng.bare] using hb)) (hk _ hok) (fun j v hj=>hC.cell _ v hok (hr j v hj))
 | ptr=>simp[Eng.bare] at hb
 | ref=>simp[Eng.bare] at hb
 | vptr=>simp[Eng.bare] at hb
 | wide=>simp[Eng.bare] at hb
 | agg l vs hl=>exact .agg l vs (hl.bare hC hk (by simpa [Eng.bare] using hb))
 | tup l vs hl=>exact .tup l vs (hl.bare hC hk (by simpa [Eng.bare] using hb))
 | clo f a b va vb ha hb'=>
  simp only[Eng.bare,aE] at hb
  exact .clo f a b va vb (ha.bare hC hk hb.1) (hb'.bare hC hk hb.2)
 | yld=>simp[Eng.bare] at hb
 | sft=>simp[Eng.bare] at hb
 | mp=>simp[Eng.bare] at hb
 | sub=>simp[Eng.bare] at hb
 | subp=>simp[Eng.bare] at hb
 | part=>simp[Eng.bare] at hb
 | lim=>simp[Eng.bare] at hb
 | ifc _ h=>exact .ifc v h
 | wcel n b e hw hok hr=>exact .wcel n b e hw (hk _ hok) (hC _ _ hok hr rfl)
 | fmp ks l b c es hok hb' hk' hl=>exact .fmp ks l b c es (hk _ hok) (hC _ _ hok hb' rfl) hk' (hl.bare hC hk (by simpa [Eng.bare] using hb))
theorem RelL.bare {E E':Env} (hC:KeepC E E') (hk:∀b,E.ok b->E'.ok b) {l:List SV} {vs:List Value} (h:RelL E l vs) (hb:Eng.bare.bareL l=true):RelL E' l vs:=by
 cases h with
 | nil=>exact .nil
 | cons s v l vs h hl=>
  simp only[Eng.bare.bareL,aE] at hb
  exact .cons s v l vs (h.bare hC hk hb.1) (hl.bare hC hk hb.2)
end
def tV (P:Program) (f:FuncId):Prop:=∀args w,(callFunc f args).run P w= .ok (.enter f args) w
def env0 (w:World) (ok:Nat->Prop):Env:=⟨w,ok,fun _=>false,fun _=>mkL none 0 0,fun _=>0,fun _ _=>False,fun _=>False,itr0⟩
def gnames:List String:=["internal/strconv.uint64pow10","strconv.ErrRange","strconv.ErrSyntax"]
structure GV (n:String) (cs:Array Value):Prop where
 pow:n= "internal/strconv.uint64pow10" →cs=(((List.range 20).map fun i=>((10^i:Nat):Int)).map fun z=>Value.int .u64 z).toArray
 err:n= "strconv.ErrRange" ∨n= "strconv.ErrSyntax" →∃tp p,cs= #[.iface tp p]
def GW (P:Program) (ok:Nat->Prop) (w:World):Prop:=∀n∈gnames,∀g,P.globalNamed n=some g->ok g/\∃cs e f,w.heap[g]? =some (.cells cs e f)/\GV n cs
theorem GW.move {P:Program} {ok ok':Nat->Prop} {w w':World} (h:GW P ok w) (hk:∀b,ok b->b<w.heap.size->ok' b) (hb:∀b,ok b->w'.heap[b]? =w.heap[b]?):GW P ok' w':=fun n hn g hg=>by
 obtain ⟨h1,cs,e,f,h2,h3⟩:=h n hn g hg
 exact ⟨hk g h1 (aG.1 h2).1,cs,e,f,(hb g h1).trans h2,h3⟩
theorem GW.var {P:Program} {ok:Nat->Prop} {w:World} (h:GW P ok w) {n:String} (hn:n∈gnames) {g:Nat} (hg:P.globalNamed n=some g):∃cs,w.var? P n=some cs/\GV n cs:=by
 obtain ⟨_,cs,e,f,h2,h3⟩:=h n hn g hg
 exact ⟨cs,by simp only[World.var?,hg,mL,h2],h3⟩
def Tri (P:Program) (fresh:Bool) (f:FuncId) (args:List SV) (r:SV):Prop:=
 ∀(ok:Nat->Prop) (w:World) (vs:List Value),GW P ok w->(∀b,ok b->b<w.heap.size)->RelL (env0 w ok) args vs->
  Calls P f ⟨vs⟩ w fun e w'=>∃v,e= .returned v/\Below w.heap.size w w'/\Rel (env0 w' fun b=>(fresh=false/\ok b)\/(w.heap.size<=b/\b<w'.heap.size)) r v
structure Kept (S:Nat->Prop) (w w':World):Prop where
 os:w'.os=w.os
 tape:w'.tape=w.tape
 output:w'.output=w.output
 size:w.heap.size<=w'.heap.size
 blk:∀b,S b->b<w.heap.size->w'.heap[b]? =w.heap[b]?
def aYw (w:World) (ok:Nat->Prop) (soft:Bool) (sf:Core) (args:List SV) (vs:List Value):Prop:=
 match soft with
 | false=>RelL (env0 w ok) args vs
 | true=>args= [.lelem [.sft none] 0]/\∃c o,ok c/\w.cell? ⟨c,o,none⟩=some sf.head/\vs= [.pointer (some ⟨c,o,none⟩)]
def TriI (P:Program) (f:FuncId) (args:List SV) (n:Nat) (items:Nat->List SV):Prop:=
 ∀(ok:Nat->Prop) (w:World) (vs:List Value) (l:Nat) (J:Option Nat->(Nat->Prop)->World->Prop) (soft:Bool) (sf:Core),GW P ok w->(∀b,ok b->b<w.heap.size)->aYw w ok soft sf args vs->(soft=true->∀k M W,J (some k) M W->softC n sf W)->
  (∀st M W W',J st M W->W'.os=W.os->W'.tape=W.tape->W'.output=W.output->W.heap.size<=W'.heap.size->
   (∀b,b<W.heap.size->¬M b->W'.heap[b]? =W.heap[b]?)->J st (fun b=>M b\/(W.heap.size<=b/\b<W'.heap.size)) W')->
  (∀k M W us,k<n->J (some k) M W->RelL (env0 W M) (items k) us->
   YieldAt Fence.wide 0 P l ⟨us⟩ W fun e W'=>∃b,e= .returned (.bool b)/\J (if b=true then some (k+1) else none) M W'/\Kept (fun c=>ok c\/M c) W W')->
  J (some 0) (fun _=>False) w->
  Calls P f ⟨.func (.yield l) #[] #[]::vs⟩ w fun e w'=>(∃v,e= .returned v)/\∃M,J (some n) M w'\/J none M w'
def Tris (P:Program) (fresh:Bool) (f:FuncId) (args:List SV) (r:SV):Prop:=
 match r with
 | .itr n items=>TriI P f args n items
 | r=>Tri P fresh f args r
def RowS (w:World) (L:Loc) (t:Ty) (xs:List t.T) (e:TypeId):Prop:=
 L.len=List.length (α:=t.T) xs/\L.len<=maxL/\∃vs,w.ownsR 0 e t.size L.head L.len vs/\∀i,i<L.len->Reads w (fun _=>False) t (List.getD (α:=t.T) xs i t.dflt) ((vs.drop (i*t.size)).take t.size)
def LTri (P:Program) (f:FuncId) (pos:Nat) (same:Bool) (args:List SV) (t:Ty) (xs:List t.T) (e:TypeId) (r:SV) (ys:List t.T):Prop:=
 ∀(ok:Nat->Prop) (w:World) (vs:List Value) (L:Loc),GW P ok w->(∀b,ok b->b<w.heap.size/\L.blk.map (·.1)≠some b)->(∀b,L.blk.map (·.1)=some b->b<w.heap.size)->RowS w L t xs e->RelL (env0 w ok) args vs->vs[pos]? =some L.head->
  Calls P f ⟨vs⟩ w fun en w'=>∃v L',en= .returned v/\(w'.os=w.os/\w'.tape=w.tape/\w'.output=w.output/\w.heap.size<=w'.heap.size/\∀b,b<w.heap.size->L.blk.map (·.1)≠some b->w'.heap[b]? =w.heap[b]?)/\
   (same=true->L'=L)/\(∀b,L'.blk.map (·.1)=some b->L.blk.map (·.1)=some b\/w.heap.size<=b)/\RowS w' L' t ys e/\((r= .ref 0 1/\v=L'.head)\/(plain r=true/\Rel (env0 w' fun _=>False) r v))
def aPf (P:Program) (f:FuncId) (pos:Nat) (same:Bool) (cl:List SV->HO->(SV->HO->Prop)->Prop):Prop:=
 ∀args t xs e K,t.flat=true->cl args (.vec 1 t xs e) K->∃r ys,K r (.vec 1 t ys e)/\LTri P f pos same args t xs e r ys
def envO (w:World) (L:Loc):Env:=⟨w,fun _=>False,fun n=>Nat.beq n 0,fun _=>L,fun _=>1,fun _ _=>False,fun _=>False,itr0⟩
def OTri (P:Program) (f:FuncId) (args:List SV) (r:SV) (t:Ty) (ys:List t.T) (e:TypeId):Prop:=
 ∀(ok:Nat->Prop) (w:World) (vs:List Value),GW P ok w->(∀b,ok b->b<w.heap.size)->RelL (env0 w ok) args vs->
  Calls P f ⟨vs⟩ w fun en w'=>∃v L',en= .returned v/\Below w.heap.size w w'/\(∀b,L'.blk.map (·.1)=some b->w.heap.size<=b)/\RowS w' L' t ys e/\Rel (envO w' L') r v
def aT0 (P:Program) (f:FuncId) (cl:List SV->(SV->HO->Prop)->Prop):Prop:=
 ∀args K,cl args K->∃r k t ys e,K r (.vec k t ys e)/\(t.flat=true->OTri P f args r t ys e)
def YOK (P:Program) (t:Itr):Prop:=∀k M W us,k<t.n->t.J (some k) M W->RelL (env0 W M) (t.items k) us->
 YieldAt Fence.wide 0 P t.l ⟨us⟩ W fun e W'=>∃b,e= .returned (.bool b)/\t.J (if b=true then some (k+1) else none) M W'/\Kept (fun c=>t.ok c\/M c) W W'
def COK (P:Program) (G:Ctx):Prop:=YOK P G.itr/\GW P G.ok0 G.w0
theorem COK.now {P:Program} {G:Ctx} {H:List HO} {loc:Nat->Loc} {ver:Nat->Nat} {w:World} (h:COK P G) (hI:Inv G H loc ver w):GW P (okN G H loc w) w:=
 h.2.move (fun b hb hlt=>⟨.inl hb,bJ hlt hI.size,fun ho=>by
  rcases hI.own b ho with h1 | h1
  ·exact G.apart b hb h1
  omega⟩) fun b hb=>hI.frame b (G.below b hb) (G.apart b hb)
def HTri (P:Program) (f:FuncId) (args:List SV) (H:List HO) (R:SV->List HO->Prop):Prop:=
 ∀(G:Ctx) (loc:Nat->Loc) (ver:Nat->Nat) (w:World) (vs:List Value),COK P G->Inv G H loc ver w->RelL (envOf G H loc ver w) args vs->
  Calls P f ⟨vs⟩ w fun e w'=>∃v,e= .returned v/\Res G (envOf G H loc ver w) R v w'
def HpOK (P:Program) (f:FuncId) (cl:List SV->List HO->(SV->List HO->Prop)->Prop):Prop:=
 ∀args H K,cl args H K->∃R,(∀s H',R s H'->K s H')/\HTri P f args H R
def aS (P:Program) (c:Con):Prop:=tV P c.f/\(∀args K,c.cl args K->∃r,K r/\Tris P c.fresh c.f args r)/\(∀pos same cl,c.lin=some (pos,same,cl)->aPf P c.f pos same cl)/\(∀cl,c.own=some cl->aT0 P c.f cl)/\∀cl,c.hp=some cl->HpOK P c.f cl
theorem aKp {P:Program} {c:Con} (hl:(c.lin,c.own,c.hp)=(none,none,none)) (he:tV P c.f) (h:∀args K,c.cl args K->∃r,K r/\Tris P c.fresh c.f args r):aS P c:=
 ⟨he,h,(fun _ _ _ e=>by rw[(kH hl).1] at e;cases e),(fun _ e=>by rw[(kH (kH hl).2).1] at e;cases e),(fun _ e=>by rw[(kH (kH hl).2).2] at e;cases e)⟩
theorem zS {P:Program} {f:FuncId} {pos:Nat} {same:Bool} {cl:List SV->HO->(SV->HO->Prop)->Prop} (he:tV P f) (h:aPf P f pos same cl):aS P (aDi f pos same cl):=
 ⟨he,fun _ _ h=>h.elim,(fun _ _ _ e=>by cases e;exact h),(fun _ e=>by cases e),(fun _ e=>by cases e)⟩
theorem aT1 {P:Program} {f:FuncId} {fresh:Bool} {pos:Nat} {same:Bool} {lin:List SV->HO->(SV->HO->Prop)->Prop} {cl:List SV->(SV->Prop)->Prop} (he:tV P f) (h:aPf P f pos same lin) (hc:∀args K,cl args K->∃r,K r/\Tris P fresh f args r):aS P (aTb f fresh pos same lin cl):=
 ⟨he,hc,(fun _ _ _ e=>by cases e;exact h),(fun _ e=>by cases e),(fun _ e=>by cases e)⟩
theorem aEf {P:Program} {f:FuncId} {cl:List SV->(SV->HO->Prop)->Prop} (he:tV P f) (h:aT0 P f cl):aS P (aHz f cl):=
 ⟨he,fun _ _ h=>h.elim,(fun _ _ _ e=>by cases e),(fun _ e=>by cases e;exact h),(fun _ e=>by cases e)⟩
theorem wY {P:Program} {f:FuncId} {cl:List SV->List HO->(SV->List HO->Prop)->Prop} (he:tV P f) (h:HpOK P f cl):aS P (aDj f cl):=
 ⟨he,fun _ _ h=>h.elim,(fun _ _ _ e=>by cases e),(fun _ e=>by cases e),(fun _ e=>by cases e;exact h)⟩
theorem Tris.tri {P:Program} {fresh:Bool} {f:FuncId} {args:List SV} {r:SV} (h:Tris P fresh f args r) (hb:Eng.bare r=true):Tri P fresh f args r:=by
 cases r with
 | itr n i=>simp[Eng.bare] at hb
 | _=>exact h
section
variable {P:Program} {G:Ctx} {H:List HO} {loc:Nat->Loc} {ver:Nat->Nat} {w:World}
def envL (G:Ctx) (H:List HO) (loc:Nat->Loc) (ver:Nat->Nat) (w:World):Env:=⟨w,fun b=>b<w.heap.size,hasB H,loc,ver,ghoN H loc,aliN H loc,G.itr⟩
theorem zT:Ext (envOf G H loc ver w) (envL G H loc ver w):=⟨⟨fun _ _=>rfl,fun _ h=>h.2.1,fun _ h=>h,fun _ _=>.inl ⟨rfl,rfl⟩,rfl,rfl,rfl,aM _,fun _ h=>.inl h,rfl,fun _ _ _=>.inl rfl⟩,fun _ _ _ h _=>h,fun _ _ h=>⟨h,rfl⟩,fun _ _ _ h=>h⟩
theorem wZ {E:Env} {ok:Nat->Prop} {L:Loc} {v k:Nat} {t:Ty} {xs:List t.T} {e:TypeId} (h:OSat E L v (.vec k t xs e)) (hk:∀b,E.ok b->ok b) (hb:∀b,L.blk.map (·.1)=some b->ok b):Reads E.w ok (.slice t) xs [L.head]:=by
 obtain ⟨_,_,hlen,hmax,vs,hown,hel⟩:=h
 rcases cE hown with ⟨e1,e2,e3,e4⟩ | ⟨g,cur,e1,e2,e3,e4,e5,e6,e7⟩
 ·exact ⟨none,0,0,by simp[Core.head,e1,e2,e3],by omega,aM _,aI _,fun h=>absurd h (fJ _)⟩
 refine ⟨some ⟨g,0,none⟩,L.len,L.cap,by simp[Core.head,e1],hlen,e4,hmax,fun h0=>⟨g,0,rfl,hb g (by simp[e1]),fun i hi=>⟨_,(hel i hi).length,?_,(hel i hi).mono (fun _ _ _ h=>h) hk⟩⟩⟩
 intro j v hj
 rw[aJ] at hj
 split at hj
 ·rw[aT,<- e7,aJ] at hj
  split at hj
  ·simp only[World.cell?,e3]
   simpa using hj
  cases hj
 cases hj
theorem iN (hI:Inv G H loc ver w) {nm k:Nat} {v:Value} (h:Rel (envOf G H loc ver w) (.ref nm k) v):Rel (envL G H loc ver w) (view true H (.ref nm k)) v:=by
 have h0:=h
 simp only[view]
 cases h with
 | ref _ _ _ hn hk0 hk hv=>
  cases ho:hget H nm with
  | vec j t xs e=>
   simp only[lD]
   cases hb:Nat.beq j k with
   | false=>exact .any v
   | true=>
    obtain rfl:=bH.1 hb
    have hO:=hI.objs nm _ (aR ho (by simp))
    have:=hv hO.1.symm
    subst this
    have hrd:=wZ (E:=envOf G H loc ver w) (ok:=fun b=>b<w.heap.size) hO (fun b hb=>hb.2.1) fun b hb=>hO.block (b:=b) hb
    exact .seq t xs _ hrd
  | fro j t xs=>
   simp only
   cases hb:Nat.beq j k with
   | false=>exact .any v
   | true=>
    obtain rfl:=bH.1 hb
    have hO:=hI.objs nm _ (aR ho (by simp))
    have:=hv hO.1.symm
    subst this
    exact .seq t xs _ (hO.2.2.mono (fun _ _ _ h=>h) fun b hb=>hb.2.1)
  | _=>exact .any v
theorem mI (hI:Inv G H loc ver w) {nm k:Nat} {v:Value} (h:Rel (envOf G H loc ver w) (.ref nm k) v):Rel (envOf G H loc ver w) (view false H (.ref nm k)) v:=by
 simp only[view]
 cases h with
 | ref _ _ _ hn hk0 hk hv=>
  cases ho:hget H nm with
  | vec j t xs e=>exact .any v
  | fro j t xs=>
   simp only
   cases hb:Nat.beq j k with
   | false=>exact .any v
   | true=>
    obtain rfl:=bH.1 hb
    have hO:=hI.objs nm _ (aR ho (by simp))
    have:=hv hO.1.symm
    subst this
    exact .seq t xs _ hO.2.2
  | _=>exact .any v
theorem mO {E:Env} (nm k i:Nat) (v:Value):Rel E (view false H (.subp nm k i)) v:=by
 simp only[view]
 split<;>exact .any v
theorem lW (hI:Inv G H loc ver w) {E':Env} (hw:E'.w=w) {H2:List HO} {nm k i:Nat} {v:Value} (h:Rel (envOf G H loc ver w) (.subp nm k i) v) (hs:hget H2 nm=hget H nm\/hget H2 nm= .dead)
  (hb:∀b k t xs,hget H nm= .lnt k t xs->Owns (loc nm) (.lnt k t xs) b->E'.ok b):Rel E' (view true H2 (.subp nm k i)) v:=by
 simp only[view]
 rcases hs with hs | hs
 ·rw[hs]
  split
  ·rename_i j t xs ho
   cases hc:(true&&(t.flat&&(Nat.beq j k&&Nat.beq i 0))) with
   | false=>exact .any v
   | true=>
    simp only[lD,aE] at hc
    obtain ⟨_,h1,h2⟩:=hc
    have e1:j=k:=by simpa using h1
    have e2:i=0:=by simpa using h2
    subst e1;subst e2
    obtain ⟨q1,q2,q3,q4,q5⟩:=hI.objs nm _ (aR ho (by simp))
    cases h with
    | subp _ _ _ _ hn h0 hk hs' hv=>
     have:=hv q1.symm q3.symm
     subst this
     exact .seq t xs _ (q5.mono (fun a v _ hv=>by rw[hw];exact hv) fun b hb'=>hb b _ t xs ho hb')
  exact .any v
 rw[hs];exact .any v
theorem aQu {E E':Env} (x:Ext E E') (hv:∀nm k v,Rel E (.ref nm k) v->Rel E' (view true H (.ref nm k)) v) {s:SV} {v:Value} (h:Rel E s v):Rel E' (aOt H s) v:=by
 cases s with
 | ref nm k=>
  have:=hv nm k v h
  simp only[view,lD] at this
  exact this
 | _=>exact h.ext x
theorem aEg {E E':Env} (x:Ext E E') (hv:∀nm k v,Rel E (.ref nm k) v->Rel E' (view true H (.ref nm k)) v):∀ {l:List SV} {vs:List Value},RelL E l vs->RelL E' (l.map (aOt H)) vs
 | _,_,.nil=>.nil
 | _,_,.cons _ _ _ _ h hl=>.cons _ _ _ _ (aQu x hv h) (aEg x hv hl)
theorem oW (hI:Inv G H loc ver w) {E':Env} (x:Ext (envOf G H loc ver w) E') (hw:E'.w=w) {H2:List HO} {nm off:Nat} {v:Value} (h:Rel (envOf G H loc ver w) (.ptr nm off) v) (hs:hget H2 nm=hget H nm)
  (hb:∀b l e,hget H nm= .cells l e->(loc nm).blk.map (·.1)=some b->E'.ok b) (hv:∀nm k v,Rel (envOf G H loc ver w) (.ref nm k) v->Rel E' (view true H2 (.ref nm k)) v):Rel E' (view true H2 (.ptr nm off)) v:=by
 simp only[view,hs]
 split
 ·rename_i l ho
  obtain ⟨h0,b,vs,e0,h1,h2,h3,h4⟩:=hI.objs nm _ (aR ho (by simp))
  cases h with
  | ptr _ _ _ hn hv=>
   obtain ⟨b',h5,rfl⟩:=hv h0
   have h5':(loc nm).blk=some (b',0):=h5
   rw[h1] at h5';cases h5'
   exact (aKd h4 h2 h3).ext x
 ·rename_i l e ho
  simp only[bP]
  obtain ⟨h0,b,vs,h1,h2,h3⟩:=hI.objs nm _ (aR ho (by simp))
  cases h with
  | ptr _ _ _ hn hvp=>
   obtain ⟨b',h5,rfl⟩:=hvp h0
   have h5':(loc nm).blk=some (b',0):=h5
   rw[h1] at h5';cases h5'
   have hr:E'.w.rangeAt b 0 vs:=by
    intro j u hj
    rw[hw]
    have h2':w.heap[b]? =some (.cells ⟨vs⟩ e (0,0)):=h2
    simp only[World.cell?,h2']
    simpa using hj
   have:=Rel.lelem (E:=E') (l.map (aOt H2)) off b 0 vs (aEg x hv h3) (hb b l e ho (by rw[h1];rfl)) hr
   rwa [dB] at this
 exact h.ext x
theorem vN (hI:Inv G H loc ver w) {nm off:Nat} {v:Value} (h:Rel (envOf G H loc ver w) (.ptr nm off) v):Rel (envOf G H loc ver w) (view false H (.ptr nm off)) v:=by
 simp only[view]
 split
 ·rename_i l ho
  obtain ⟨h0,b,vs,e0,h1,h2,h3,h4⟩:=hI.objs nm _ (aR ho (by simp))
  cases h with
  | ptr _ _ _ hn hv=>
   obtain ⟨b',h5,rfl⟩:=hv h0
   have h5':(loc nm).blk=some (b',0):=h5
   rw[h1] at h5';cases h5'
   exact aKd h4 h2 h3
 ·exact h
 exact h
theorem pY (hI:Inv G H loc ver w) {E':Env} (x:Ext (envOf G H loc ver w) E') {lend:Bool} {H2:List HO} {nm:Nat} {v:Value} (hs:hget H2 nm=hget H nm\/hget H2 nm= .dead) (h:Rel (envOf G H loc ver w) (.mp nm) v):Rel E' (view lend H2 (.mp nm)) v:=by
 simp only[view]
 rcases hs with hs | hs
 ·rw[hs]
  split
  ·rename_i ks l ho
   obtain ⟨h0,hbr,b,es,c,h1,h2,h3,h4,h5⟩:=hI.objs nm _ (aR ho (by simp))
   cases h with
   | mp _ _ hn hv=>
    obtain ⟨b',h6,rfl⟩:=hv h0
    have h6':(loc nm).blk=some (b',0):=h6
    rw[h1] at h6';cases h6'
    exact (Rel.fmp ks l b c es h2 h3 h4 h5).ext x
  exact h.ext x
 rw[hs];exact h.ext x
theorem zU {E E':Env} {lend:Bool} (x:Ext E E') (hp:∀nm k v,Rel E (.ptr nm k) v->Rel E' (view lend H (.ptr nm k)) v) (hv:∀nm k v,Rel E (.ref nm k) v->Rel E' (view lend H (.ref nm k)) v) (hu:∀nm k i v,Rel E (.subp nm k i) v->Rel E' (view lend H (.subp nm k i)) v) (hm:∀nm v,Rel E (.mp nm) v->Rel E' (view lend H (.mp nm)) v) {s:SV} {v:Value} (h:Rel E s v):Rel E' (view lend H s) v:=by
 cases s with
 | ref nm k=>exact hv nm k v h
 | ptr nm k=>exact hp nm k v h
 | subp nm k i=>exact hu nm k i v h
 | mp nm=>exact hm nm v h
 | _=>exact h.ext x
theorem oH {E E':Env} {lend:Bool} (x:Ext E E') (hp:∀nm k v,Rel E (.ptr nm k) v->Rel E' (view lend H (.ptr nm k)) v) (hv:∀nm k v,Rel E (.ref nm k) v->Rel E' (view lend H (.ref nm k)) v) (hu:∀nm k i v,Rel E (.subp nm k i) v->Rel E' (view lend H (.subp nm k i)) v) (hm:∀nm v,Rel E (.mp nm) v->Rel E' (view lend H (.mp nm)) v):∀ {l:List SV} {vs:List Value},RelL E l vs->RelL E' (l.map (view lend H)) vs
 | _,_,.nil=>.nil
 | _,_,.cons _ _ _ _ h hl=>.cons _ _ _ _ (zU x hp hv hu hm h) (oH x hp hv hu hm hl)
theorem aGn {E E':Env} {lend:Bool} (x:Ext E E') (hp:∀nm k v,Rel E (.ptr nm k) v->Rel E' (view lend H (.ptr nm k)) v) (hv:∀nm k v,Rel E (.ref nm k) v->Rel E' (view lend H (.ref nm k)) v) (hu:∀nm k i v,Rel E (.subp nm k i) v->Rel E' (view lend H (.subp nm k i)) v) (hm:∀nm v,Rel E (.mp nm) v->Rel E' (view lend H (.mp nm)) v):∀ {l:List SV} {vs:List Value},RelL E l vs->
  RelL E' (l.map fun s=>match s with
   | .agg l=>.agg (l.map (view lend H))
   | s=>view lend H s) vs
 | _,_,.nil=>.nil
 | _,_,.cons s v l vs h hl=>by
  refine .cons _ _ _ _ ?_ (aGn x hp hv hu hm hl)
  cases s with
  | agg l=>cases h with
   | agg _ vs hl=>exact .agg _ _ (oH x hp hv hu hm hl)
  | _=>exact zU x hp hv hu hm h
theorem aGo {E E':Env} {lend:Bool} (x:Ext E E') (hp:∀nm k v,Rel E (.ptr nm k) v->Rel E' (view lend H (.ptr nm k)) v) (hv:∀nm k v,Rel E (.ref nm k) v->Rel E' (view lend H (.ref nm k)) v) (hu:∀nm k i v,Rel E (.subp nm k i) v->Rel E' (view lend H (.subp nm k i)) v) (hm:∀nm v,Rel E (.mp nm) v->Rel E' (view lend H (.mp nm)) v) {s:SV} {v:Value} (h:Rel E s v):Rel E' (aDh lend H s) v:=by
 cases h with
 | ref nm k v hn h0 hk h=>exact hv nm k v (.ref nm k v hn h0 hk h)
 | ptr nm off v hn h=>exact hp nm off v (.ptr nm off v hn h)
 | agg l vs hl=>exact .agg _ _ (oH x hp hv hu hm hl)
 | tup l vs hl=>exact .tup _ _ (aGn x hp hv hu hm hl)
 | any=>exact .any v
 | val _ h=>exact .val v h
 | bl p d=>exact .bl p d
 | str s h=>exact .str s h
 | seq t xs v h=>exact (Rel.seq t xs v h).ext x
 | lit es n b off l vs hl hn hok hr=>exact (Rel.lit es n b off l vs hl hn hok hr).ext x
 | elem t xs i o b off es hi hok hr h=>exact (Rel.elem t xs i o b off es hi hok hr h).ext x
 | lelem l i b off vs hl hok hr=>exact (Rel.lelem l i b off vs hl hok hr).ext x
 | wcel n b e hw hok hr=>exact (Rel.wcel n b e hw hok hr).ext x
 | fmp ks l b c es hok hb hk hl=>exact (Rel.fmp ks l b c es hok hb hk hl).ext x
 | vptr nm k i z o v hn h0 hk h=>exact (Rel.vptr nm k i z o v hn h0 hk h).ext x
 | wide nm k v hn h0 hk h=>exact (Rel.wide nm k v hn h0 hk h).ext x
 | clo f a b va vb ha hb=>exact .clo f _ _ _ _ (oH x hp hv hu hm ha) (oH x hp hv hu hm hb)
 | yld l h=>rw[<- x.itr] at h ⊢;exact .yld l h
 | sft i _ h hv=>exact (Rel.sft i v h hv).ext x
 | mp nm v hn h=>exact hm nm v (.mp nm v hn h)
 | sub nm k s i v hn h0 hk hs h=>exact (Rel.sub nm k s i v hn h0 hk hs h).ext x
 | subp nm k s v hn h0 hk hs h=>exact hu nm k s v (.subp nm k s v hn h0 hk hs h)
 | part nm k i j z v hn h0 hk h=>exact (Rel.part nm k i j z v hn h0 hk h).ext x
 | lim nm k i z v hn h0 hk h=>exact (Rel.lim nm k i z v hn h0 hk h).ext x
 | ifc v h=>exact .ifc v h
theorem qZ {E E':Env} {lend:Bool} (x:Ext E E') (hp:∀nm k v,Rel E (.ptr nm k) v->Rel E' (view lend H (.ptr nm k)) v) (hv:∀nm k v,Rel E (.ref nm k) v->Rel E' (view lend H (.ref nm k)) v) (hu:∀nm k i v,Rel E (.subp nm k i) v->Rel E' (view lend H (.subp nm k i)) v) (hm:∀nm v,Rel E (.mp nm) v->Rel E' (view lend H (.mp nm)) v):∀ {l:List SV} {vs:List Value},RelL E l vs->RelL E' (l.map (aDh lend H)) vs
 | _,_,.nil=>.nil
 | _,_,.cons _ _ _ _ h hl=>.cons _ _ _ _ (aGo x hp hv hu hm h) (qZ x hp hv hu hm hl)
theorem aPg (hI:Inv G H loc ver w) {nm v:Nat} {t:Ty} {xs:List t.T} {e:TypeId} (ho:hget H nm= .vec v t xs e):
  Inv G (hset H nm (.fro v t xs)) loc ver w/\Ext (envOf G H loc ver w) (envOf G (hset H nm (.fro v t xs)) loc ver w):=by
 have hn':=aR ho (by simp)
 have hlt:nm<H.length:=(aK.1 hn').1
 refine hI.turn nm (by simp[hset]) (fun k hk=>⟨bS hk,rfl,rfl⟩) (fun _=>dF (aN hlt) rfl) (fun _=>.inl ⟨rfl,rfl,.inl rfl⟩) (aM _) rfl rfl rfl (by rw[hn'];intro h;cases h) (fun _=>by first | rw[show hset H nm _=H.set nm _ from rfl,aN hlt];intro h;cases h | rw[show hset H 0 _=H.set 0 _ from rfl,aN hlt];intro h;cases h)
  (fun st n it b h=>by rw[show hset H nm (.fro v t xs)=H.set nm _ from rfl,aN hlt] at h;cases h) (fun _ _ _=>rfl) ?_ ?_
 ·intro o' b ho' hb
  rw[show hset H nm (.fro v t xs)=H.set nm _ from rfl,aN hlt] at ho';cases ho'
  cases hb
 intro hx o' ho'
 rw[show hset H nm (.fro v t xs)=H.set nm _ from rfl,aN hlt] at ho';cases ho'
 have hO:=hI.objs nm _ hn'
 refine ⟨hO.1,hO.2.1,wZ (E:=envOf G H loc ver w) (ok:=okN G (hset H nm (.fro v t xs)) loc w) hO hx.ok fun b hb=>?_⟩
 have hown:Owned H loc b:=⟨nm,_,hn',hb⟩
 refine ⟨?_,hO.block (b:=b) hb,?_⟩
 ·rcases hI.own b hown with h | h
  ·exact .inr (.inl h)
  exact .inr (.inr h)
 rintro ⟨k,o,hk,hbk⟩
 by_cases ek:k=nm
 ·subst ek
  rw[show hset H k (.fro v t xs)=H.set k _ from rfl,aN hlt] at hk;cases hk
  cases hbk
 rw[show hset H nm (.fro v t xs)=H.set nm _ from rfl,bS ek] at hk
 exact ek (hI.sep _ _ _ _ b hk hn' hbk hb)
theorem Ext.trans {A B C:Env} (h:Ext A B) (k:Ext B C):Ext A C:=by
 refine ⟨⟨fun b ho=>(k.blk b (h.ok b ho)).trans (h.blk b ho),fun b hb=>k.ok b (h.ok b hb),fun nm hn=>k.num nm (h.num nm hn),fun nm hn=>?_,k.os.trans h.os,k.tape.trans h.tape,k.output.trans h.output,bI h.size k.size,
  fun b hb=>?_,k.itr.trans h.itr,fun nm hn he=>?_⟩,fun i o hna hi ho=>k.keep i o (fun hb=>?_) (h.keep i o hna hi ho) ho,fun nm b hb=>?_,fun nm b hn hb=>h.gho' nm b hn (k.gho' nm b (h.num nm hn) hb)⟩
 ·rcases h.ver nm hn with ⟨e1,e2⟩ | ⟨e1,e2⟩
  ·rcases k.ver nm (h.num nm hn) with ⟨e3,e4⟩ | ⟨e3,e4⟩
   ·exact .inl ⟨e3.trans e1,e4.trans e2⟩
   exact .inr ⟨by omega,by omega⟩
  rcases k.ver nm (h.num nm hn) with ⟨e3,e4⟩ | ⟨e3,e4⟩
  ·exact .inr ⟨e1,by omega⟩
  exact .inr ⟨e1,by omega⟩
 ·rcases k.ali b hb with h1 | h1
  ·exact h.ali b h1
  exact .inr (bI h.size h1)
 ·have h1:=h.ver nm hn
  have h2:=k.ver nm (h.num nm hn)
  have e1:B.ver nm=A.ver nm:=by
   rcases h1 with ⟨q1,_⟩ | ⟨q1,q2⟩
   ·exact q1
   rcases h2 with ⟨q3,_⟩ | ⟨q3,q4⟩<;>omega
  rcases h.sub nm hn e1 with q1 | q1
  ·rcases k.sub nm (h.num nm hn) (by omega) with q2 | q2
   ·exact .inl (q2.trans q1)
   rw[q1] at q2;exact .inr q2
  rcases k.sub nm (h.num nm hn) (by omega) with q2 | q2
  ·rw[q2];exact .inr q1
  exact .inr (eV q1 q2)
 ·rcases h.ali i hb with h1 | h1
  ·exact hna h1
  have:=(aG.1 hi).1;omega
 obtain ⟨h1,h2⟩:=h.gho nm b hb
 obtain ⟨h3,h4⟩:=k.gho nm b h1
 exact ⟨h3,h4.trans h2⟩
theorem rA:∀(l:List SV) {H:List HO},Inv G H loc ver w->Inv G (frzR H l) loc ver w/\Ext (envOf G H loc ver w) (envOf G (frzR H l) loc ver w)
 | [],H,hI=>⟨hI,Ext.refl _⟩
 | s::r,H,hI=>by
  cases s with
  | ref nm k=>
   simp only[frzR]
   cases ho:hget H nm with
   | vec j t xs e=>
    simp only
    cases Nat.beq j k with
    | false=>exact rA r hI
    | true=>
     obtain ⟨h1,h2⟩:=aPg hI ho
     obtain ⟨h3,h4⟩:=rA r h1
     exact ⟨h3,h2.trans h4⟩
   | _=>exact rA r hI
  | _=>exact rA r hI
theorem rB:∀(l:List SV) (H:List HO) {nm:Nat} {c:List SV} {e:TypeId},hget H nm= .cells c e->hget (frzR H l) nm= .cells c e
 | [],H,nm,c,e,h=>h
 | s::r,H,nm,c,e,h=>by
  cases s with
  | ref m k=>
   simp only[frzR]
   cases ho:hget H m with
   | vec j t xs e'=>
    simp only
    cases Nat.beq j k with
    | false=>exact rB r H h
    | true=>
     refine rB r _ ?_
     have hne:nm≠m:=by rintro rfl;rw[h] at ho;cases ho
     simp only[hget,hset,aB] at h ⊢
     rw[cZ]
     rw[aC (Ne.symm hne)]
     exact h
   | _=>exact rB r H h
  | _=>exact rB r H h
theorem aWe (hI:Inv G H loc ver w) {nm:Nat} {l l':List SV} {e:TypeId} (ho:hget H nm= .cells l e) (hl:∀vs,RelL (envOf G H loc ver w) l vs->RelL (envOf G H loc ver w) l' vs) (hb:bare.bareL l'=true):
  Inv G (hset H nm (.frc l')) loc ver w/\Ext (envOf G H loc ver w) (envOf G (hset H nm (.frc l')) loc ver w):=by
 have hn':=aR ho (by simp)
 have hlt:nm<H.length:=(aK.1 hn').1
 refine hI.turn nm (by simp[hset]) (fun k hk=>⟨bS hk,rfl,rfl⟩) (fun _=>dF (aN hlt) rfl) (fun _=>.inl ⟨rfl,rfl,.inl rfl⟩) (aM _) rfl rfl rfl (by rw[hn'];intro h;cases h) (fun _=>by first | rw[show hset H nm _=H.set nm _ from rfl,aN hlt];intro h;cases h | rw[show hset H 0 _=H.set 0 _ from rfl,aN hlt];intro h;cases h)
  (fun st n it b h=>by rw[show hset H nm (.frc l')=H.set nm _ from rfl,aN hlt] at h;cases h) (fun _ _ _=>rfl) ?_ ?_
 ·intro o' b ho' hb
  rw[show hset H nm (.frc l')=H.set nm _ from rfl,aN hlt] at ho';cases ho'
  cases hb
 intro hx o' ho'
 rw[show hset H nm (.frc l')=H.set nm _ from rfl,aN hlt] at ho';cases ho'
 have hO:=hI.objs nm _ hn'
 obtain ⟨h0,b,vs,h1,h2,h3⟩:=hO
 have hbo:Owns (loc nm) (.cells l e) b:=by simp[Owns,h1]
 refine ⟨h0,b,vs,e,h1,⟨?_,(aG.1 h2).1,?_⟩,h2,(hl vs h3).ext hx⟩
 ·rcases hI.own b ⟨nm,_,hn',hbo⟩ with h | h
  ·exact .inr (.inl h)
  exact .inr (.inr h)
 rintro ⟨k,o,hk,hbk⟩
 by_cases ek:k=nm
 ·subst ek
  rw[show hset H k (.frc l')=H.set k _ from rfl,aN hlt] at hk;cases hk
  cases hbk
 rw[show hset H nm (.frc l')=H.set nm _ from rfl,bS ek] at hk
 exact ek (hI.sep _ _ _ _ b hk hn' hbk hbo)
theorem aWf (hI:Inv G H loc ver w) {nm:Nat} {ks:List (Int × Int)} {l:List SV} (ho:hget H nm= .qm ks l):
  Inv G (hset H nm (.frm ks l)) loc ver w/\Ext (envOf G H loc ver w) (envOf G (hset H nm (.frm ks l)) loc ver w):=by
 have hn':=aR ho (by simp)
 have hlt:nm<H.length:=(aK.1 hn').1
 refine hI.turn nm (by simp[hset]) (fun k hk=>⟨bS hk,rfl,rfl⟩) (fun _=>dF (aN hlt) rfl) (fun _=>.inl ⟨rfl,rfl,.inl rfl⟩) (aM _) rfl rfl rfl (by rw[hn'];intro h;cases h) (fun _=>by rw[show hset H nm _=H.set nm _ from rfl,aN hlt];intro h;cases h)
  (fun st n it b h=>by rw[show hset H nm (.frm ks l)=H.set nm _ from rfl,aN hlt] at h;cases h) (fun _ _ _=>rfl) ?_ ?_
 ·intro o' b ho' hb
  rw[show hset H nm (.frm ks l)=H.set nm _ from rfl,aN hlt] at ho';cases ho'
  cases hb
 intro hx o' ho'
 rw[show hset H nm (.frm ks l)=H.set nm _ from rfl,aN hlt] at ho';cases ho'
 have hO:=hI.objs nm _ hn'
 obtain ⟨h0,hmx,hbr,b,es,c,h1,h2,h3,h4⟩:=hO
 have hbo:Owns (loc nm) (.qm ks l) b:=by simp[Owns,h1]
 refine ⟨h0,hbr,b,es,c,h1,⟨?_,(aG.1 h2).1,?_⟩,h2,h3.keys,h4.ext hx⟩
 ·rcases hI.own b ⟨nm,_,hn',hbo⟩ with h | h
  ·exact .inr (.inl h)
  exact .inr (.inr h)
 rintro ⟨k,o,hk,hbk⟩
 by_cases ek:k=nm
 ·subst ek
  rw[show hset H k (.frm ks l)=H.set k _ from rfl,aN hlt] at hk;cases hk
  cases hbk
 rw[show hset H nm (.frm ks l)=H.set nm _ from rfl,bS ek] at hk
 exact ek (hI.sep _ _ _ _ b hk hn' hbk hbo)
theorem yN (s:SV) (hI:Inv G H loc ver w):Inv G (frz1 H s) loc ver w/\Ext (envOf G H loc ver w) (envOf G (frz1 H s) loc ver w):=by
 cases s with
 | ref nm k=>
  simp only[frz1]
  cases ho:hget H nm with
  | vec j t xs e=>
   simp only
   cases Nat.beq j k with
   | false=>exact ⟨hI,Ext.refl _⟩
   | true=>exact aPg hI ho
  | _=>exact ⟨hI,Ext.refl _⟩
 | ptr nm k=>
  simp only[frz1]
  cases ho:hget H nm with
  | cells l e=>
   simp only
   cases hb:bare.bareL (l.map (view false (frzR H l))) with
   | false=>exact ⟨hI,Ext.refl _⟩
   | true=>
    obtain ⟨h1,h2⟩:=rA l hI
    obtain ⟨h3,h4⟩:=aWe h1 (rB l H ho) (fun vs h=>oH (Ext.refl _) (fun _ _ _ h=>vN h1 h) (fun nm k v h=>mI h1 h) (fun nm k i v _=>mO nm k i v) (fun nm v h=>pY h1 (Ext.refl _) (.inl rfl) h) h) hb
    exact ⟨h3,h2.trans h4⟩
  | _=>exact ⟨hI,Ext.refl _⟩
 | mp nm=>
  simp only[frz1]
  cases ho:hget H nm with
  | qm ks l=>exact aWf hI ho
  | _=>exact ⟨hI,Ext.refl _⟩
 | _=>exact ⟨hI,Ext.refl _⟩
theorem qL:∀(l:List SV) {H:List HO},Inv G H loc ver w->Inv G (frz H l) loc ver w/\Ext (envOf G H loc ver w) (envOf G (frz H l) loc ver w)
 | [],H,hI=>⟨hI,Ext.refl _⟩
 | s::r,H,hI=>by
  obtain ⟨h1,h2⟩:=yN s hI
  obtain ⟨h3,h4⟩:=qL r h1
  exact ⟨h3,h2.trans h4⟩
theorem oX:∀(l:List SV) {H:List HO},Inv G H loc ver w->Inv G (iK H l) loc ver w/\Ext (envOf G H loc ver w) (envOf G (iK H l) loc ver w)
 | [],H,hI=>⟨hI,Ext.refl _⟩
 | s::r,H,hI=>by
  have gen:∀ {H1:List HO},Inv G H1 loc ver w/\Ext (envOf G H loc ver w) (envOf G H1 loc ver w)->Inv G (iK H1 r) loc ver w/\Ext (envOf G H loc ver w) (envOf G (iK H1 r) loc ver w):=fun ⟨h1,h2⟩=>
   let ⟨h3,h4⟩:=oX r h1
   ⟨h3,h2.trans h4⟩
  cases s with
  | agg l=>exact gen (qL l hI)
  | tup l=>exact gen (qL l hI)
  | clo f a b=>
   obtain ⟨h1,h2⟩:=qL a hI
   obtain ⟨h3,h4⟩:=qL b h1
   exact gen ⟨h3,h2.trans h4⟩
  | _=>exact gen (yN _ hI)
theorem aA6 {Γ:List Con} {f:FuncId} {c:Con} (h:zF Γ f=some c):c∈Γ/\c.f=f:=by
 induction Γ with
 | nil=>cases h
 | cons x r ih=>
  simp only[zF] at h
  cases hb:Nat.beq x.f f with
  | true=>rw[hb] at h;cases h;exact ⟨bO ..,bH.1 hb⟩
  | false=>rw[hb] at h;obtain ⟨h1,h2⟩:=ih h;exact ⟨bT _ h1,h2⟩
def envX (G:Ctx) (H:List HO) (loc:Nat->Loc) (ver:Nat->Nat) (w:World) (L:Loc):Env:=⟨w,fun b=>b<w.heap.size/\L.blk.map (·.1)≠some b,hasB H,loc,ver,ghoN H loc,aliN H loc,G.itr⟩
mutual
theorem Rel.plain {E E':Env} {s:SV} {v:Value} (h:Rel E s v) (hp:Eng.plain s=true):Rel E' s v:=by
 cases h with
 | val _ h=>exact .val v h
 | bl p d=>exact .bl p d
 | str s h=>exact .str s h
 | ifc _ h=>exact .ifc v h
 | agg l vs hl=>exact .agg l vs (hl.plain (by simpa [Eng.plain] using hp))
 | tup l vs hl=>exact .tup l vs (hl.plain (by simpa [Eng.plain] using hp))
 | _=>simp[Eng.plain] at hp
theorem RelL.plain {E E':Env} {l:List SV} {vs:List Value} (h:RelL E l vs) (hp:Eng.plain.plainL l=true):RelL E' l vs:=by
 cases h with
 | nil=>exact .nil
 | cons s v l vs h hl=>
  simp only[Eng.plain.plainL,aE] at hp
  exact .cons s v l vs (h.plain hp.1) (hl.plain hp.2)
end
theorem aKq (hY:COK P G) (hI:Inv G H loc ver w) {f:FuncId} {pos:Nat} {same:Bool} {cl:List SV->HO->(SV->HO->Prop)->Prop} {args:List SV} {vs:List Value} {K:SV->List HO->Prop} (hc:aPf P f pos same cl)
  (h:aTf pos same cl args H K) (hr:RelL (envOf G H loc ver w) args vs):Calls P f ⟨vs⟩ w fun e w'=>∃v,e= .returned v/\Res G (envOf G H loc ver w) K v w':=by
 unfold aTf at h
 split at h
 case h_2=>exact h.elim
 rename_i nm k hpos
 split at h
 case h_2=>exact h.elim
 rename_i j t xs e ho
 have h':=aW h
 clear h
 obtain ⟨hb,h⟩:=h'
 simp only[aE,bH] at hb
 obtain ⟨rfl,hfl⟩:=hb
 simp only[kK] at h
 have h':=aW h
 clear h
 obtain ⟨hbare,h⟩:=h'
 obtain ⟨r,ys,hk,htri⟩:=hc _ t xs e _ hfl h
 rw[iU] at hk
 simp only[fW,bP,dite_true] at hk
 rw[sO] at hk
 simp only[bQ] at hk
 have hn:=aR ho (by simp)
 have hlt:nm<H.length:=(aK.1 hn).1
 have hO:=hI.objs nm _ hn
 have hO':=hO
 obtain ⟨hv,hj0,hlen,hmax,rs,hown,hel⟩:=hO
 have hv:ver nm=j:=hv
 -- the argument that is turned
 have hplt:pos<args.length:=aL fun hc=>by
  rw[aB,bN (by omega)] at hpos
  cases hpos
 have hrp:=hr.get pos hplt
 rw[hpos] at hrp
 have hvp:vs.getD pos undef=(loc nm).head:=by
  generalize vs.getD pos undef=q at hrp
  cases hrp with
  | ref _ _ _ _ _ _ hh=>exact hh hv.symm
 have hvlt:pos<vs.length:=by rw[<- hr.length];exact hplt
 have hvs:vs[pos]? =some (loc nm).head:=by
  rw[aB,aH hvlt,kC] at hvp
  rw[aH hvlt,hvp]
 -- the others, as they are lent
 have hsetA:RelL (envOf G H loc ver w) (args.set pos .any) vs:=by
  have:=hr.set pos (.any (vs.getD pos undef))
  rwa [show vs.set pos (vs.getD pos undef)=vs from by
   rw[aB,aH hvlt,kC];exact nZ hvlt] at this
 have hblk0:∀b,(loc nm).blk.map (·.1)=some b->b<w.heap.size:=fun b hb=>hO'.block (b:=b) hb
 have hokX:∀b,okN G H loc w b->b<w.heap.size/\(loc nm).blk.map (·.1)≠some b:=fun b hb=>⟨hb.2.1,fun e1=>hb.2.2 ⟨nm,_,hn,e1⟩⟩
 have xX:Ext (envOf G H loc ver w) (envX G H loc ver w (loc nm)):=⟨⟨fun _ _=>rfl,hokX,fun _ h=>h,fun _ _=>.inl ⟨rfl,rfl⟩,rfl,rfl,rfl,aM _,fun _ h=>.inl h,rfl,fun _ _ _=>.inl rfl⟩,fun _ _ _ h _=>h,fun _ _ h=>⟨h,rfl⟩,fun _ _ _ h=>h⟩
 have hdead:hget (hset H nm .dead) nm= .dead:=by simp[hget,hset,aB,hlt]
 have hoth:∀m,m≠nm->hget (hset H nm .dead) m=hget H m:=fun m hm=>by
  simp only[hget,hset,aB]
  rw[bS hm]
 have hrefX:∀m k v,Rel (envOf G H loc ver w) (.ref m k) v->Rel (envX G H loc ver w (loc nm)) (view true (hset H nm .dead) (.ref m k)) v:=by
  intro m k v hm
  by_cases em:m=nm
  ·subst em;simp only[view,hdead];exact .any v
  simp only[view,hoth m em]
  cases hm with
  | ref _ _ _ hn' hk0 hk' hv'=>
   cases ho':hget H m with
   | vec j' t' xs' e'=>
    simp only[lD]
    cases hb:Nat.beq j' k with
    | false=>exact .any v
    | true=>
     obtain rfl:=bH.1 hb
     have hm':=aR ho' (by simp)
     have hO₁:=hI.objs m _ hm'
     have:=hv' hO₁.1.symm
     subst this
     refine .seq t' xs' _ (wZ (E:=envOf G H loc ver w) (ok:=fun b=>b<w.heap.size/\(loc nm).blk.map (·.1)≠some b) hO₁ hokX fun b hb=>⟨hO₁.block (b:=b) hb,fun e1=>em (hI.sep _ _ _ _ b hm' hn hb e1)⟩)
   | fro j' t' xs'=>
    simp only
    cases hb:Nat.beq j' k with
    | false=>exact .any v
    | true=>
     obtain rfl:=bH.1 hb
     have hO₁:=hI.objs m _ (aR ho' (by simp))
     have:=hv' hO₁.1.symm
     subst this
     exact .seq t' xs' _ (hO₁.2.2.mono (fun _ _ _ h=>h) hokX)
   | _=>exact .any v
 have hptrX:∀m k v,Rel (envOf G H loc ver w) (.ptr m k) v->Rel (envX G H loc ver w (loc nm)) (view true (hset H nm .dead) (.ptr m k)) v:=by
  intro m k v hm
  by_cases em:m=nm
  ·subst em;simp only[view,hdead];exact hm.ext xX
  exact oW hI xX rfl hm (hoth m em) (fun b l e' ho' hb=>by
   have hm':=aR ho' (by simp)
   exact ⟨(hI.objs m _ hm').block (b:=b) hb,fun e1=>em (hI.sep _ _ _ _ b hm' hn hb e1)⟩) hrefX
 have hsubX:∀m k i v,Rel (envOf G H loc ver w) (.subp m k i) v->Rel (envX G H loc ver w (loc nm)) (view true (hset H nm .dead) (.subp m k i)) v:=by
  intro m k i v hm
  by_cases em:m=nm
  ·subst em;exact lW hI rfl hm (.inr hdead) fun b k t xs ho _=>by
    have:=aR ho (by simp)
    rw[hn] at this;cases this
  exact lW hI rfl hm (.inl (hoth m em)) fun b k t xs ho hb=>by
   have hm':=aR ho (by simp)
   exact ⟨(hI.objs m _ hm').block (b:=b) hb,fun e1=>em (hI.sep _ _ _ _ b hm' hn hb e1)⟩
 have hargs:=qZ (H:=hset H nm .dead) (lend:=true) xX hptrX hrefX hsubX (fun m v h=>pY hI xX (by by_cases em:m=nm;(· subst em;exact .inr hdead);exact .inl (hoth m em)) h) hsetA
 have hargs0:=RelL.bare (E:=envX G H loc ver w (loc nm)) (E':=env0 w fun b=>b<w.heap.size/\(loc nm).blk.map (·.1)≠some b) (fun _ _ _ h _=>h) (fun _ h=>h) hargs hbare
 refine (htri _ w vs (loc nm) ((hY.now hI).move (fun b hb _=>⟨hb.2.1,fun e=>hb.2.2 ⟨_,_,hn,e⟩⟩) fun _ _=>rfl) (fun _ h=>h) hblk0 ⟨hlen,hmax,rs,hown,fun i hi=>Reads.flatJ hfl (hel i hi)⟩ hargs0 hvs).mono ?_
 rintro en w' ⟨v,L',rfl,⟨p1,p2,p3,p4,p5⟩,p6,p7,⟨q1,q2,rs',q3,q4⟩,q5⟩
 have ht:=hI.turn (w':=w') (H':=hset H nm (.vec (bif same then j else j+1) t ys e)) (loc':=upd loc nm L') (ver':=upd ver nm (bif same then j else j+1)) nm (by simp[hset]) (fun k hk=>⟨bS hk,cR _ _ _ hk,cR _ _ _ hk⟩)
  (fun _=>dF (aN hlt) rfl) (fun _=>by
   rw[aV,aV]
   cases same with
   | true=>exact .inl ⟨hv.symm,aO _ (p6 rfl),.inl (aO _ (p6 rfl))⟩
   | false=>exact .inr ⟨by omega,by simp only[cA];omega⟩)
  p4 p1 p2 p3 (by rw[hn];intro h;cases h) (fun _=>by rw[show hset H nm _=H.set nm _ from rfl,aN hlt];intro h;cases h)
  (fun st n it b h=>by rw[show hset H nm _=H.set nm _ from rfl,aN hlt] at h;cases h)
  (fun b hb hne=>p5 b hb fun e1=>hne _ hn e1)
  (by
   intro o' b ho' hb
   rw[show hset H nm _=H.set nm _ from rfl,aN hlt] at ho';cases ho'
   rw[aV] at hb
   rcases p7 b hb with h | h
   ·exact .inl ⟨_,hn,h⟩
   exact .inr h)
  (by
   intro hx' o' ho'
   rw[show hset H nm _=H.set nm _ from rfl,aN hlt] at ho';cases ho'
   rw[aV,aV]
   exact ⟨rfl,by cases same<;>simp only[bP,cA]<;>omega,q1,q2,rs',q3,fun i hi=>Reads.flatJ hfl (q4 i hi)⟩)
 refine ⟨v,rfl,?_⟩
 rcases q5 with ⟨rfl,rfl⟩ | ⟨hp,hrel⟩
 ·refine ⟨_,_,_,_,hk,ht.1,?_,ht.2⟩
  refine .ref _ _ _ (by exact dF (aN hlt) rfl) (by cases same<;>simp only[bP,cA]<;>omega) (by simp[envOf,aV]) fun _=>?_
  simp[envOf,aV]
 have hk':K r (hset H nm (.vec (bif same then j else j+1) t ys e)):=by
  cases r with
  | ref a b=>simp[Eng.plain] at hp
  | _=>first | (simp[Eng.plain] at hp;done) | (simp only[hp,bP] at hk;exact hk) | exact hk
 exact ⟨r,_,_,_,hk',ht.1,hrel.plain hp,ht.2⟩
theorem aGp {w:World} {L:Loc} {E:Env} {n:Nat} (hn:E.has n=true) (hv:E.ver n=1) (hl:E.loc n=L) {s:SV} {v:Value} (h:Rel (envO w L) s v) (ho:okR1 s=true):Rel E (aOz n s) v:=by
 cases s with
 | ref a b=>
  have hab:a=0/\b=1:=by
   unfold okR1 at ho
   split at ho
   ·rename_i heq;cases heq;exact ⟨rfl,rfl⟩
   simp[Eng.plain] at ho
  obtain ⟨rfl,rfl⟩:=hab
  cases h with
  | ref _ _ _ _ _ _ hh=>exact .ref n 1 v hn Nat.one_pos (by omega) fun _=>by rw[hl];exact hh rfl
 | _=>exact h.plain (by simpa [okR1] using ho)
theorem aGq {w:World} {L:Loc} {E:Env} {n:Nat} (hn:E.has n=true) (hv:E.ver n=1) (hl:E.loc n=L):∀ {l:List SV} {vs:List Value},RelL (envO w L) l vs->l.all okR1=true->RelL E (l.map (aOz n)) vs
 | _,_,.nil,_=>.nil
 | _,_,.cons _ _ _ _ h hr,ho=>by
  simp only[List.all_cons,aE] at ho
  exact .cons _ _ _ _ (aGp hn hv hl h ho.1) (aGq hn hv hl hr ho.2)
theorem aKr {w:World} {L:Loc} {E:Env} {n:Nat} (hn:E.has n=true) (hv:E.ver n=1) (hl:E.loc n=L) {s:SV} {v:Value} (h:Rel (envO w L) s v) (ho:okR s=true):Rel E (renm n s) v:=by
 cases s with
 | tup l=>
  cases h with
  | tup _ vs hr=>exact .tup _ _ (aGq hn hv hl hr (by simpa [okR] using ho))
 | _=>exact aGp hn hv hl h (by simpa [okR] using ho)
theorem aKs (hY:COK P G) (hI:Inv G H loc ver w) {f:FuncId} {cl:List SV->(SV->HO->Prop)->Prop} {args:List SV} {vs:List Value} {K:SV->List HO->Prop} (hc:aT0 P f cl)
  (h:aTg cl args H K) (hr:RelL (envOf G H loc ver w) args vs):Calls P f ⟨vs⟩ w fun e w'=>∃v,e= .returned v/\Res G (envOf G H loc ver w) K v w':=by
 unfold aTg at h
 simp only[kK] at h
 have h':=aW h
 clear h
 obtain ⟨hb,h⟩:=h'
 obtain ⟨r,k,t,ys,e,hk,htri⟩:=hc _ _ h
 simp only[iU,bQ] at hk
 have hk':=aW hk
 clear hk
 obtain ⟨hb2,hk⟩:=hk'
 simp only[aE] at hb2
 have htri:=htri hb2.1
 have hargs:=qZ (H:=H) (lend:=true) (zT (G:=G)) (fun _ _ _ h=>oW hI zT rfl h rfl (fun b l e ho hb=>(hI.objs _ _ (aR ho (by simp))).block (b:=b) hb) fun nm k v h=>iN hI h) (fun nm k v h=>iN hI h) (fun nm k i v h=>lW hI rfl h (.inl rfl) fun b k t xs ho hb=>(hI.objs _ _ (aR ho (by simp))).block (b:=b) hb) (fun nm v h=>pY hI zT (.inl rfl) h) hr
 have hargs0:=RelL.bare (E:=envL G H loc ver w) (E':=env0 w fun b=>b<w.heap.size) (fun _ _ _ h _=>h) (fun _ h=>h) hargs hb
 refine (htri _ w vs ((hY.now hI).move (fun b hb _=>hb.2.1) fun _ _=>rfl) (fun _ h=>h) hargs0).mono ?_
 rintro en w' ⟨v,L',rfl,hbel,hblk,⟨q1,q2,rs,q3,q4⟩,hrel⟩
 have hf:=hI.fresh (w':=w') (.vec 1 t ys e) L' 1 hbel.size hbel.os hbel.tape hbel.output (fun b hb=>hbel.block b hb) (fun b hb=>hblk b hb)
  (fun hx=>⟨rfl,Nat.one_pos,q1,q2,rs,q3,fun i hi=>Reads.flatJ hb2.1 (q4 i hi)⟩)
 exact ⟨v,rfl,_,_,_,_,hk,hf.1,aKr (by exact jM rfl) (by simp[envOf,aV]) (by simp[envOf,aV]) hrel hb2.2,hf.2⟩
theorem zV (hY:COK P G) {c:Con} (hcl:∀args K,c.cl args K->∃r,K r/\Tris P c.fresh c.f args r) (hI:Inv G H loc ver w) {args:List SV} {vs:List Value} {K:SV->List HO->Prop}
  (h:aIc c.fresh c.cl args H K) (hr:RelL (envOf G H loc ver w) args vs):Calls P c.f ⟨vs⟩ w fun e w'=>∃v,e= .returned v/\Res G (envOf G H loc ver w) K v w':=by
 unfold aIc at h
 cases hfr:c.fresh with
 | true=>
  rw[hfr] at h
  simp only[bP,kK] at h
  obtain ⟨hb,h⟩:=aW h
  obtain ⟨r,hk,htri⟩:=hcl _ _ h
  rw[iU] at hk
  obtain ⟨hbr,hk⟩:=aW hk
  have htri:=htri.tri hbr
  have hargs:=qZ (H:=H) (lend:=true) (zT (G:=G)) (fun _ _ _ h=>oW hI zT rfl h rfl (fun b l e ho hb=>(hI.objs _ _ (aR ho (by simp))).block (b:=b) hb) fun nm k v h=>iN hI h) (fun nm k v h=>iN hI h) (fun nm k i v h=>lW hI rfl h (.inl rfl) fun b k t xs ho hb=>(hI.objs _ _ (aR ho (by simp))).block (b:=b) hb) (fun nm v h=>pY hI zT (.inl rfl) h) hr
  have hargs0:=RelL.bare (E:=envL G H loc ver w) (E':=env0 w fun b=>b<w.heap.size) (fun _ _ _ h _=>h) (fun _ h=>h) hargs hb
  refine ((htri _ w vs ((hY.now hI).move (fun b hb _=>hb.2.1) fun _ _=>rfl) (fun _ h=>h) hargs0).mono ?_)
  rintro e w' ⟨v,rfl,hbel,hrel⟩
  obtain ⟨hI',hx⟩:=hI.grow hbel
  refine ⟨v,rfl,_,_,_,_,hk,hI',Rel.bare (E:=env0 w' _) (E':=envOf G H loc ver w') (fun _ _ _ h _=>h) (fun b hb=>?_) hrel hbr,hx⟩
  rcases hb with ⟨h1,_⟩ | ⟨h1,h2⟩
  ·rw[hfr] at h1;cases h1
  refine ⟨.inr (.inr (bI hI.size h1)),h2,?_⟩
  rintro ⟨nm,o,ho,hbo⟩
  have:=(hI.objs nm o ho).block hbo
  have:b<w.heap.size:=this
  omega
 | false=>
  rw[hfr] at h
  simp only[cA,bQ,kK] at h
  obtain ⟨hb,h⟩:=aW h
  obtain ⟨r,hk,htri⟩:=hcl _ _ h
  rw[iU] at hk
  obtain ⟨hbr,hk⟩:=aW hk
  have htri:=htri.tri hbr
  obtain ⟨hI1,hx1⟩:=oX args hI
  have hargs:=qZ (H:=iK H args) (lend:=false) (Ext.refl _) (fun _ _ _ h=>vN hI1 h) (fun nm k v h=>mI hI1 h) (fun nm k i v _=>mO nm k i v) (fun nm v h=>pY hI1 (Ext.refl _) (.inl rfl) h) (hr.ext hx1)
  have hargs0:=RelL.bare (E:=envOf G (iK H args) loc ver w) (E':=env0 w (okN G (iK H args) loc w)) (fun _ _ _ h _=>h) (fun _ h=>h) hargs hb
  refine ((htri _ w vs (hY.now hI1) (fun _ h=>h.2.1) hargs0).mono ?_)
  rintro e w' ⟨v,rfl,hbel,hrel⟩
  obtain ⟨hI',hx⟩:=hI1.grow hbel
  refine ⟨v,rfl,_,_,_,_,hk,hI',Rel.bare (E:=env0 w' _) (E':=envOf G (iK H args) loc ver w') (fun _ _ _ h _=>h) (fun b hb=>?_) hrel hbr,hx1.trans hx⟩
  rcases hb with ⟨_,h1⟩ | ⟨h1,h2⟩
  ·exact hx.ok b h1
  refine ⟨.inr (.inr (bI hI.size h1)),h2,?_⟩
  rintro ⟨nm,o,ho,hbo⟩
  have:=(hI1.objs nm o ho).block hbo
  have:b<w.heap.size:=this
  omega
theorem aIz (hY:COK P G) {Γ:List Con} (hΓ:∀c∈Γ,aS P c) {F:Fence} (hF:Opn F) (hI:Inv G H loc ver w) {f:FuncId} {args:List SV} {vs:List Value} {K:SV->List HO->Prop}
  (h:aMx Γ f args H K) (hr:RelL (envOf G H loc ver w) args vs):
  tV P f/\∀n,CallsIn F n P f ⟨vs⟩ w fun e w'=>∃v,e= .returned v/\Res G (envOf G H loc ver w) K v w':=by
 unfold aMx at h
 split at h
 case h_2=>exact h.elim
 rename_i c hc
 obtain ⟨hmem,rfl⟩:=aA6 hc
 obtain ⟨hent,hcl,hlin,hown,hhp⟩:=hΓ c hmem
 refine ⟨hent,fun n=>?_⟩
 have wide:∀ {R:Ending->World->Prop},Calls P c.f ⟨vs⟩ w R->CallsIn F n P c.f ⟨vs⟩ w R:=hF.calls
 split at h
 ·rename_i cl hl
  obtain ⟨R,hR,htri⟩:=hhp cl hl _ _ _ h
  refine wide ((htri G loc ver w vs hY hI hr).mono ?_)
  rintro e w' ⟨v,he,s,H',loc',ver',h1,h2⟩
  have h3:=hR s H' h1
  rw[iU,bQ] at h3
  exact ⟨v,he,s,H',loc',ver',h3,h2⟩
 ·rename_i pos same cl _ hl
  cases hb:aYs (args.getD pos .any) with
  | true=>rw[hb] at h;exact wide (aKq hY hI (hlin pos same cl hl) h hr)
  | false=>rw[hb] at h;exact wide (zV hY hcl hI h hr)
 ·rename_i cl _ hl hl2
  exact wide (aKs hY hI (hown cl hl2) h hr)
 exact wide (zV hY hcl hI h hr)
end
end Go.Eng
end
section
namespace Go.Eng
open Go.RowKit
section
variable {P:Program} {G:Ctx} {H:List HO} {loc:Nat->Loc} {ver:Nat->Nat} {w:World}
theorem uB (s:Bx):(⟨s.toArray⟩:ByteArray).toList=s:=by rw[ByteArray.toList_eq]
def RelO (E:Env):Option SV->Option Value->Prop
 | none,none=>True
 | some s,some v=>Rel E s v
 | _,_=>False
theorem aAb {E:Env} {N:Nat} {l:List (Nat × SV)} {a:Act} (hT:TRel E N l a) (o:Option Operand):RelO E (o.map (ev l)) (o.map a.eval):=by
 cases o with
 | none=>trivial
 | some x=>exact lV hT x
theorem jW {k:IntKind} {i:Int} {y:Nat} (code:BoundsCode) (h:0<=i/\i<=y):(Instr.sliceBound (.int k i) y code).run P w= .ok i.toNat w:=by
 simp[Instr.sliceBound,asIntOf,h.1,h.2,go_sem]
structure Cut (n:Nat) (lo hi:Option Value) (i j:Nat):Prop where
 lo:(lo=none/\i=0)\/∃k:IntKind,lo=some (.int k (i:Int))
 hi:(hi=none/\j=n)\/∃k:IntKind,hi=some (.int k (j:Int))
 le:i<=j
 len:j<=n
theorem aEy {b:Bool} {n c:Nat} {lo hi:Option Value} {i j:Nat} (h:Cut n lo hi i j) (hc:n<=c):(Instr.sliceBounds b n c lo hi none).run P w= .ok (i,j,c) w:=by
 obtain ⟨h1,h2,h3,h4⟩:=h
 rcases h1 with ⟨rfl,rfl⟩ | ⟨k,rfl⟩<;>rcases h2 with ⟨rfl,rfl⟩ | ⟨k',rfl⟩
 ·simp[Instr.sliceBounds,go_sem]
 ·simp[Instr.sliceBounds,go_sem,jW (P:=P) (w:=w) (k:=k') (i:=(j:Int)) (y:=c) _ ⟨by omega,by omega⟩]
 ·simp[Instr.sliceBounds,go_sem,jW (P:=P) (w:=w) (k:=k) (i:=(i:Int)) (y:=j) _ ⟨by omega,by omega⟩]
 simp[Instr.sliceBounds,go_sem,jW (P:=P) (w:=w) (k:=k') (i:=(j:Int)) (y:=c) _ ⟨by omega,by omega⟩,jW (P:=P) (w:=w) (k:=k) (i:=(i:Int)) (y:=j) _ ⟨by omega,by omega⟩]
theorem sZ {t e:TypeId} {sz:Nat} (hu:P.underlying t=some (.slice e)) (hs:gH P e=some sz) {a:Option Addr} {n c:Nat} {lo hi:Option Value} {i j:Nat} (h:Cut n lo hi i j) (hc:n<=c):
  (Instr.sliceAt t (.slice a n c) lo hi none).run P w= .ok (.slice (if c=i then a else a.map (·.add (i*sz))) (j-i) (c-i)) w:=by
 have hz:∀w',(sizeOf e).run P w'= .ok sz w':=by
  intro w'
  unfold gH at hs
  cases hi:P.info? e with
  | none=>rw[hi] at hs;cases hs
  | some inf=>
   rw[hi] at hs
   cases hs
   simp[sizeOf,typeInfo,go_sem,hi]
 simp[Instr.sliceAt,Instr.slice,run_underlying hu,aEy (P:=P) (w:=w) h hc,hz,go_sem]
theorem aQ4 {ok:Nat->Prop} {t:Ty} {xs:List t.T} {a:Option Addr} {n c i j:Nat} (h:Reads w ok (.slice t) xs [.slice a n c]) (h1:i<=j) (h2:j<=n):
  Reads w ok (.slice t) ((xs.take j).drop i) [.slice (if c=i then a else a.map (·.add (i*t.size))) (j-i) (c-i)]:=by
 obtain ⟨a',n',c',e,hn,hnc,hm,hall⟩:=h
 cases e
 have hn:n=List.length xs:=hn
 refine ⟨_,j-i,c-i,rfl,?_,by omega,by omega,fun h0=>?_⟩
 ·show j-i=((xs.take j).drop i).length
  simp;omega
 have hne:c≠i:=by omega
 rw[aC hne]
 obtain ⟨b,off,rfl,hok,hel⟩:=hall (by omega)
 refine ⟨b,off+i*t.size,?_,hok,fun q hq=>?_⟩
 ·simp only[fM]
  congr 1
  unfold Addr.add
  split<;>simp_all
 obtain ⟨es,q1,q2,q3⟩:=hel (i+q) (by omega)
 refine ⟨es,q1,?_,?_⟩
 ·have e1:off+i*t.size+q*t.size=off+(i+q)*t.size:=by rw[bU];omega
  rw[e1];exact q2
 have e2:List.getD (α:=t.T) ((xs.take j).drop i) q t.dflt=List.getD (α:=t.T) xs (i+q) t.dflt:=by
  have:i+q<j:=by omega
  simp[aB,aT,aJ,this]
 have:List.getD (α:=t.T) (List.drop i (List.take j xs)) q t.dflt=List.getD (α:=t.T) xs (i+q) t.dflt:=e2
 rw[this];exact q3
theorem RelO.none {E:Env} {v:Option Value} (h:RelO E none v):v=Option.none:=by cases v with
 | none=>rfl
 | some v=>exact h.elim
theorem RelO.int {E:Env} {k:IntKind} {n:Int} {v:Option Value} (h:RelO E (some (.val (.int k n))) v):v=some (.int k n):=by cases v with
 | none=>exact h.elim
 | some v=>cases (show Rel E _ v from h);rfl
theorem aEz {E:Env} {t:Ty} {xs:List t.T} {lo hi:Option SV} {vlo vhi:Option Value} {K:SV->Prop} (h:sP t xs lo hi K) (hl:RelO E lo vlo) (hh:RelO E hi vhi):
  ∃i j,Cut xs.length vlo vhi i j/\K (.seq t ((xs.take j).drop i)):=by
 unfold sP at h
 split at h
 ·exact ⟨0,xs.length,⟨.inl ⟨hl.none,rfl⟩,.inl ⟨hh.none,rfl⟩,aI _,aM _⟩,by simpa using h⟩
 ·rename_i k i
  have e1:=hl.int
  have e2:=hh.none
  have hb:=h.ok
  have hk:=h.go.use hb.1
  refine ⟨i.toNat,xs.length,⟨.inr ⟨k,?_⟩,.inl ⟨e2,rfl⟩,by omega,aM _⟩,by simpa using hk⟩
  rw[e1,aX hb.1]
 ·rename_i k j
  have e1:=hl.none
  have e2:=hh.int
  have hb:=h.ok
  have hk:=h.go.use hb.1
  refine ⟨0,j.toNat,⟨.inl ⟨e1,rfl⟩,.inr ⟨k,?_⟩,aI _,by omega⟩,by simpa using hk⟩
  rw[e2,aX hb.1]
 ·rename_i k i k' j
  have e1:=hl.int
  have e2:=hh.int
  have hb:=h.ok
  have hk:=(h.go.use hb.1).use (by omega)
  refine ⟨i.toNat,j.toNat,⟨.inr ⟨k,?_⟩,.inr ⟨k',?_⟩,by omega,by omega⟩,hk⟩
  ·rw[e1,aX hb.1]
  rw[e2,aX (by omega)]
 exact h.elim
theorem aE0 {E:Env} {s:Bx} {lo hi:Option SV} {vlo vhi:Option Value} {K:SV->Prop} (h:aDt s lo hi K) (hl:RelO E lo vlo) (hh:RelO E hi vhi):
  ∃i j,Cut s.length vlo vhi i j/\K (.str ((s.take j).drop i)):=by
 unfold aDt at h
 split at h
 ·exact ⟨0,s.length,⟨.inl ⟨hl.none,rfl⟩,.inl ⟨hh.none,rfl⟩,aI _,aM _⟩,by simpa using h⟩
 ·rename_i k i
  have e1:=hl.int
  have e2:=hh.none
  have hb:=h.ok
  have hk:=h.go.use hb.1
  refine ⟨i.toNat,s.length,⟨.inr ⟨k,?_⟩,.inl ⟨e2,rfl⟩,by omega,aM _⟩,by simpa using hk⟩
  rw[e1,aX hb.1]
 ·rename_i k j
  have e1:=hl.none
  have e2:=hh.int
  have hb:=h.ok
  have hk:=h.go.use hb.1
  refine ⟨0,j.toNat,⟨.inl ⟨e1,rfl⟩,.inr ⟨k,?_⟩,aI _,by omega⟩,by simpa using hk⟩
  rw[e2,aX hb.1]
 ·rename_i k i k' j
  have e1:=hl.int
  have e2:=hh.int
  have hb:=h.ok
  have hk:=(h.go.use hb.1).use (by omega)
  refine ⟨i.toNat,j.toNat,⟨.inr ⟨k,?_⟩,.inr ⟨k',?_⟩,by omega,by omega⟩,hk⟩
  ·rw[e1,aX hb.1]
  rw[e2,aX (by omega)]
 exact h.elim
theorem aI6 {t e:TypeId} (hu:P.underlying t=some (.slice e)) {sz:Nat} (hs:gH P e=some sz) {E:Env} {ty:Ty} {xs:List ty.T} {x:Value} (hx:Rel E (.seq ty xs) x) (hsz:sz=ty.size) {lo hi:Option SV} {vlo vhi:Option Value} {K:SV->Prop}
  (h:sP ty xs lo hi K) (hl:RelO E lo vlo) (hh:RelO E hi vhi):∃v s,(Instr.sliceAt t x vlo vhi none).run P w= .ok v w/\K s/\Rel E s v:=by
 cases hx with
 | seq _ _ _ hr=>
  obtain ⟨i,j,hc,hk⟩:=aEz h hl hh
  have hr':=hr
  obtain ⟨a,n,c,e,hn,hnc,hm,_⟩:=hr'
  cases e
  have hn:n=List.length xs:=hn
  rw[<- hn] at hc
  refine ⟨_,_,sZ hu hs hc hnc,hk,.seq _ _ _ ?_⟩
  rw[hsz]
  exact aQ4 hr hc.le hc.len
theorem aE1 (hI:Inv G H loc ver w) {nm v:Nat} {ty:Ty} {xs:List ty.T} {e':TypeId} (hso:H[nm]? =some (.vec v ty xs e')) (hlt:nm<H.length) {j:Nat} (hjl:j<=(loc nm).len):
  Inv G (hset H nm (.vec (v+1) ty (xs.take j) e')) (upd loc nm ⟨⟨(loc nm).blk,j,(loc nm).cap⟩,(loc nm).al,(loc nm).sub⟩) (upd ver nm (v+1)) w/\
  Ext (envOf G H loc ver w) (envOf G (hset H nm (.vec (v+1) ty (xs.take j) e')) (upd loc nm ⟨⟨(loc nm).blk,j,(loc nm).cap⟩,(loc nm).al,(loc nm).sub⟩) (upd ver nm (v+1)) w):=by
  have hO:=hI.objs nm _ hso
  obtain ⟨hv,hv0,hlen,hmax,vs,hown,hel⟩:=hO
  have hlen':(loc nm).len=List.length (α:=ty.T) xs:=hlen
  have hn':H[nm]? =some (.vec v ty xs e'):=hso
  have hne:∀o,H[nm]? =some o->o= .vec v ty xs e':=fun o ho=>by rw[hn'] at ho;cases ho;rfl
  exact hI.turn (w':=w) (H':=hset H nm (.vec (v+1) ty (xs.take j) e')) (loc':=upd loc nm ⟨⟨(loc nm).blk,j,(loc nm).cap⟩,(loc nm).al,(loc nm).sub⟩) (ver':=upd ver nm (v+1)) nm (by simp[hset]) (fun k hk=>⟨bS hk,cR _ _ _ hk,cR _ _ _ hk⟩)
   (fun _=>dF (aN hlt) rfl) (fun _=>.inr ⟨by omega,by rw[aV];omega⟩) (aM _) rfl rfl rfl (by rw[hn'];intro h;cases h) (fun _=>by rw[show hset H nm _=H.set nm _ from rfl,aN hlt];intro h;cases h)
   (by
    intro st n it b hq
    rw[show hset H nm _=H.set nm _ from rfl,aN hlt] at hq;cases hq)
   (fun _ _ _=>rfl)
   (by
    intro o' b ho' hb
    rw[show hset H nm (.vec (v+1) ty (xs.take j) e')=H.set nm _ from rfl,aN hlt] at ho';cases ho'
    rw[aV] at hb
    exact .inl ⟨_,hn',hb⟩)
   (by
    intro hx' o' ho'
    rw[show hset H nm (.vec (v+1) ty (xs.take j) e')=H.set nm _ from rfl,aN hlt] at ho';cases ho'
    rw[aV,aV]
    refine ⟨rfl,gP _,?_,bI hjl hmax,vs.take (j*ty.size),?_,fun i hi=>?_⟩
    ·show j=(xs.take j).length
     rw[bA];omega
    ·refine ⟨?_,?_⟩
     ·show (vs.take (j*ty.size)).length=j*ty.size
      rw[bA,hown.1]
      exact cI (aU _ hjl)
     rcases cE hown with ⟨c1,c2,c3,_⟩ | ⟨g,cur,c1,c2,c3,c4,c5,c6,c7⟩
     ·left
      have:j=0:=by omega
      subst this
      simp[Core.head,c1,c2]
     right
     refine ⟨g,(loc nm).cap,cur,by simp[Core.head,c1],aI _,c3,by show j<= _;omega,c5,c6,?_⟩
     show cur.toList.take (j*ty.size)= _
     rw[<- c7,gA]
     congr 1
     exact (cI (aU _ hjl)).symm
    have hi:i<j:=hi
    have e1:List.getD (α:=ty.T) (xs.take j) i ty.dflt=List.getD (α:=ty.T) xs i ty.dflt:=by
     simp[aB,aJ,hi]
    have e2:((vs.take (j*ty.size)).drop (i*ty.size)).take ty.size=(vs.drop (i*ty.size)).take ty.size:=by
     have hm:i*ty.size+ty.size<=j*ty.size:=by
      have:(i+1)*ty.size<=j*ty.size:=aU _ hi
      rwa [bU,dV] at this
     rw[nT,gA]
     congr 1
     omega
    have hrd:=(hel i (by show i<(loc nm).len;omega)).mono hx'.cell hx'.ok
    show Reads _ _ ty (List.getD (α:=ty.T) (List.take j xs) i ty.dflt) _
    rw[show List.getD (α:=ty.T) (List.take j xs) i ty.dflt=List.getD (α:=ty.T) xs i ty.dflt from e1,e2]
    exact hrd)
theorem aI7 (hI:Inv G H loc ver w) {t e:TypeId} (hu:P.underlying t=some (.slice e)) {sz:Nat} (hs:gH P e=some sz) {nm k:Nat} {x:Value} {lo hi:Option SV} {vlo vhi:Option Value} {K:SV->List HO->Prop}
  (h:match lo,hi with
     | none,some (.val (.int _ j))=>(match hget H nm with
      | .vec v ty xs e'=>bif Nat.beq v k&&Nat.beq sz ty.size then Need (0<=j/\j<=xs.length) (Ix j fun j=>cT (hset H nm (.vec (v+1) ty (xs.take j) e')) fun H'=>K (.ref nm (v+1)) H') else False
      | _=>False)
     | _,_=>False)
  (hx:Rel (envOf G H loc ver w) (.ref nm k) x) (hl:RelO (envOf G H loc ver w) lo vlo) (hh:RelO (envOf G H loc ver w) hi vhi):
  ∃v,(Instr.sliceAt t x vlo vhi none).run P w= .ok v w/\Res G (envOf G H loc ver w) K v w:=by
 split at h
 case h_2=>exact h.elim
 rename_i k' j
 have e1:=hl.none
 have e2:=hh.int
 subst e1 e2
 split at h
 case h_2=>exact h.elim
 rename_i v ty xs e' ho
 have h':=aW h
 clear h
 obtain ⟨hb,h⟩:=h'
 simp only[aE,bH] at hb
 obtain ⟨hb1,hb2⟩:=hb
 subst hb1
 obtain ⟨⟨j0,j1⟩,h⟩:=h
 have h:=h.use j0
 rw[bQ] at h
 obtain ⟨j,rfl⟩:=bM j0
 rw[aP] at h
 have hso:=aR ho (by simp)
 have hO:=hI.objs nm _ hso
 obtain ⟨hv,hv0,hlen,hmax,vs,hown,hel⟩:=hO
 have hlen':(loc nm).len=xs.length:=hlen
 have hjl:j<=(loc nm).len:=by omega
 cases hx with
 | ref _ _ _ hn h0 hk hx=>
  have hx:=hx hv.symm
  subst hx
  have hcap:(loc nm).len<=(loc nm).cap:=by
   rcases cE hown with ⟨_,c1,c2,_⟩ | ⟨g,cur,_,_,_,c3,_⟩<;>omega
  have hrun:=sZ (P:=P) (w:=w) hu hs (a:=(loc nm).blk.map fun p=>(⟨p.1,p.2,none⟩:Addr)) (n:=(loc nm).len) (c:=(loc nm).cap) (lo:=none) (hi:=some (.int k' (j:Int))) (i:=0) (j:=j) ⟨.inl ⟨rfl,rfl⟩,.inr ⟨k',rfl⟩,aI _,hjl⟩ hcap
  have ea:(if (loc nm).cap=0 then ((loc nm).blk.map fun p=>(⟨p.1,p.2,none⟩:Addr)) else ((loc nm).blk.map fun p=>(⟨p.1,p.2,none⟩:Addr)).map (·.add (0*sz)))=(loc nm).blk.map fun p=>(⟨p.1,p.2,none⟩:Addr):=by
   cases (loc nm).blk<;>simp[Addr.add]
  rw[ea] at hrun
  have hlt:nm<H.length:=fU hn
  have hf:=aE1 hI hso hlt hjl
  refine ⟨.slice ((loc nm).blk.map fun p=>(⟨p.1,p.2,none⟩:Addr)) j (loc nm).cap,by simpa [Core.head,envOf] using hrun,_,_,_,_,h,hf.1,?_,hf.2⟩
  refine .ref _ _ _ (by exact dF (aN hlt) rfl) (gP _) (by simp[envOf,aV]) fun _=>?_
  simp[envOf,aV,Core.head]
theorem aK9 {E:Env} {n:Nat} {lo hi:Option SV} {vlo vhi:Option Value} {K:Nat->Nat->Prop} (h:aO0 n lo hi K) (hl:RelO E lo vlo) (hh:RelO E hi vhi):
  ∃i j,Cut n vlo vhi i j/\K i j:=by
 unfold aO0 at h
 split at h
 ·exact ⟨0,n,⟨.inl ⟨hl.none,rfl⟩,.inl ⟨hh.none,rfl⟩,aI _,aM _⟩,h⟩
 ·rename_i k i
  have e1:=hl.int
  have e2:=hh.none
  have hb:=h.ok
  have hk:=h.go.use hb.1
  refine ⟨i.toNat,n,⟨.inr ⟨k,?_⟩,.inl ⟨e2,rfl⟩,by omega,aM _⟩,hk⟩
  rw[e1,aX hb.1]
 ·rename_i k j
  have e1:=hl.none
  have e2:=hh.int
  have hb:=h.ok
  have hk:=h.go.use hb.1
  refine ⟨0,j.toNat,⟨.inl ⟨e1,rfl⟩,.inr ⟨k,?_⟩,aI _,by omega⟩,hk⟩
  rw[e2,aX hb.1]
 ·rename_i k i k' j
  have e1:=hl.int
  have e2:=hh.int
  have hb:=h.ok
  have hk:=(h.go.use hb.1).use (by omega)
  refine ⟨i.toNat,j.toNat,⟨.inr ⟨k,?_⟩,.inr ⟨k',?_⟩,by omega,by omega⟩,hk⟩
  ·rw[e1,aX hb.1]
  rw[e2,aX (by omega)]
 exact h.elim
theorem aNk (hI:Inv G H loc ver w) {t e:TypeId} (hu:P.underlying t=some (.slice e)) {sz:Nat} (hs:gH P e=some sz) {nm k:Nat} {x:Value} {lo hi:Option SV} {vlo vhi:Option Value} {K:SV->List HO->Prop}
  (h:match hget H nm with
      | .vec v ty xs _=>bif Nat.beq v k&&Nat.beq sz ty.size then aO0 xs.length lo hi fun i j=>K (.part nm v i j sz) H else False
      | _=>False)
  (hx:Rel (envOf G H loc ver w) (.ref nm k) x) (hl:RelO (envOf G H loc ver w) lo vlo) (hh:RelO (envOf G H loc ver w) hi vhi):
  ∃v,(Instr.sliceAt t x vlo vhi none).run P w= .ok v w/\Res G (envOf G H loc ver w) K v w:=by
 split at h
 case h_2=>exact h.elim
 rename_i v ty xs e' ho
 have h':=aW h
 clear h
 obtain ⟨hb,h⟩:=h'
 simp only[aE,bH] at hb
 obtain ⟨hb1,hb2⟩:=hb
 subst hb1
 have hO:=hI.objs nm _ (aR ho (by simp))
 obtain ⟨hv,hv0,hlen,hmax,vs,hown,hel⟩:=hO
 have hlen':(loc nm).len=xs.length:=hlen
 cases hx with
 | ref _ _ _ hn h0 hk hx=>
  have hx:=hx hv.symm
  subst hx
  have hcap:(loc nm).len<=(loc nm).cap:=by
   rcases cE hown with ⟨_,c1,c2,_⟩ | ⟨g,cur,_,_,_,c3,_⟩<;>omega
  obtain ⟨i,j,hc,hK⟩:=aK9 h hl hh
  rw[<- hlen'] at hc
  have hrun:=sZ (P:=P) (w:=w) hu hs (a:=(loc nm).blk.map fun p=>(⟨p.1,p.2,none⟩:Addr)) (n:=(loc nm).len) (c:=(loc nm).cap) hc hcap
  exact ⟨_,hrun,_,H,loc,ver,hK,hI,.part _ _ _ _ _ _ hn h0 hk fun _=>⟨hc.le,hc.len,rfl⟩,Ext.refl _⟩
theorem aLa {n c:Nat} {k k':IntKind} {a b:Nat} (h1:a<=b) (h2:b<=c):(Instr.sliceBounds true n c (some (.int k (a:Int))) (some (.int k' (b:Int))) none).run P w= .ok (a,b,c) w:=by
 simp[Instr.sliceBounds,go_sem,jW (P:=P) (w:=w) (k:=k') (i:=(b:Int)) (y:=c) _ ⟨by omega,by omega⟩,jW (P:=P) (w:=w) (k:=k) (i:=(a:Int)) (y:=b) _ ⟨by omega,by omega⟩]
theorem aNl {t e:TypeId} {sz:Nat} (hu:P.underlying t=some (.slice e)) (hs:gH P e=some sz) {ad:Option Addr} {n c:Nat} {k k':IntKind} {a b:Nat} (h1:a<=b) (h2:b<=c):
  (Instr.sliceAt t (.slice ad n c) (some (.int k (a:Int))) (some (.int k' (b:Int))) none).run P w= .ok (.slice (if c=a then ad else ad.map (·.add (a*sz))) (b-a) (c-a)) w:=by
 simp[Instr.sliceAt,Instr.slice,run_underlying hu,aLa (P:=P) (w:=w) h1 h2,gL hs,go_sem]
theorem aNm {t e:TypeId} {sz:Nat} (hu:P.underlying t=some (.slice e)) (hs:gH P e=some sz) {ad:Option Addr} {n c:Nat} {k k' k'':IntKind} {a b m:Nat} (h1:a<=b) (h2:b<=m) (h3:m<=c):
  ∃v,(Instr.sliceAt t (.slice ad n c) (some (.int k (a:Int))) (some (.int k' (b:Int))) (some (.int k'' (m:Int)))).run P w= .ok v w:=by
 have hb:(Instr.sliceBounds true n c (some (.int k (a:Int))) (some (.int k' (b:Int))) (some (.int k'' (m:Int)))).run P w= .ok (a,b,m) w:=by
  simp[Instr.sliceBounds,go_sem,jW (P:=P) (w:=w) (k:=k'') (i:=(m:Int)) (y:=c) _ ⟨by omega,by omega⟩,jW (P:=P) (w:=w) (k:=k') (i:=(b:Int)) (y:=m) _ ⟨by omega,by omega⟩,jW (P:=P) (w:=w) (k:=k) (i:=(a:Int)) (y:=b) _ ⟨by omega,by omega⟩]
 refine ⟨.slice (if m=a then ad else ad.map (·.add (a*sz))) (b-a) (m-a),?_⟩
 simp[Instr.sliceAt,Instr.slice,run_underlying hu,hb,gL hs,go_sem]
theorem aLb {t e:TypeId} {sz:Nat} (hu:P.underlying t=some (.slice e)) (hs:gH P e=some sz) {ad:Option Addr} {n c:Nat} {k' k'':IntKind} {b:Nat} (h3:b<=c):
  (Instr.sliceAt t (.slice ad n c) none (some (.int k' (b:Int))) (some (.int k'' (b:Int)))).run P w= .ok (.slice (if b=0 then ad else ad.map (·.add (0*sz))) (b-0) (b-0)) w:=by
 have hb:(Instr.sliceBounds true n c none (some (.int k' (b:Int))) (some (.int k'' (b:Int)))).run P w= .ok (0,b,b) w:=by
  simp[Instr.sliceBounds,go_sem,jW (P:=P) (w:=w) (k:=k'') (i:=(b:Int)) (y:=c) _ ⟨by omega,by omega⟩,jW (P:=P) (w:=w) (k:=k') (i:=(b:Int)) (y:=b) _ ⟨by omega,by omega⟩]
 simp[Instr.sliceAt,Instr.slice,run_underlying hu,hb,gL hs,go_sem]
theorem aE2 (hI:Inv G H loc ver w) {t:TypeId} {s:SV} {x:Value} {lo hi mx:Option SV} {vlo vhi vmx:Option Value} {K:SV->List HO->Prop} (h:aDu P t H s lo hi mx K) (hx:Rel (envOf G H loc ver w) s x)
  (hl:RelO (envOf G H loc ver w) lo vlo) (hh:RelO (envOf G H loc ver w) hi vhi) (hm:RelO (envOf G H loc ver w) mx vmx):
  ∃v,(Instr.sliceAt t x vlo vhi vmx).run P w= .ok v w/\Res G (envOf G H loc ver w) K v w:=by
 unfold aDu at h
 split at h
 case h_3=>exact h.elim
 ·rename_i e nm k k1 a k2 b k3 c he
  have hu:=dM he
  split at h
  case h_2=>exact h.elim
  rename_i sz v ty xs e' hs ho
  have h':=aW h
  clear h
  obtain ⟨hb,h⟩:=h'
  obtain rfl:=bH.1 hb
  obtain ⟨⟨q1,q2,q3,q4⟩,hK⟩:=h
  have e1:=hl.int
  have e2:=hh.int
  have e3:=hm.int
  subst e1 e2 e3
  obtain ⟨rfl,_⟩:=pF hI hx ho
  obtain ⟨hv,hv0,hlen,hmax,vs,hown,hel⟩:=hI.objs nm _ (aR ho (by simp))
  have hlen':(loc nm).len=List.length (α:=ty.T) xs:=hlen
  have hcap:(loc nm).len<=(loc nm).cap:=by
   rcases cE hown with ⟨_,c1,c2,_⟩ | ⟨g,cur,_,_,_,c3,_⟩<;>omega
  obtain ⟨a,rfl⟩:=bM q1
  obtain ⟨b,rfl⟩:=bM (show 0<=b by omega)
  obtain ⟨c,rfl⟩:=bM (show 0<=c by omega)
  obtain ⟨v',hr⟩:=aNm (P:=P) (w:=w) hu hs (ad:=(loc nm).blk.map fun p=>(⟨p.1,p.2,none⟩:Addr)) (n:=(loc nm).len) (c:=(loc nm).cap) (k:=k1) (k':=k2) (k'':=k3) (a:=a) (b:=b) (m:=c) (by omega) (by omega) (by omega)
  exact ⟨v',by simpa [Core.head] using hr,Res.pure hI hK (.any _)⟩
 rename_i e nm k k2 a k3 b he
 have hu:=dM he
 split at h
 case h_2=>exact h.elim
 rename_i sz v ty xs e' hs ho
 have h':=aW h
 clear h
 obtain ⟨hb,h⟩:=h'
 obtain rfl:=bH.1 hb
 obtain ⟨⟨q1,rfl,q3⟩,hK⟩:=h
 obtain ⟨i,rfl⟩:=bM q1
 have hK:=hK.go i rfl
 have e1:=hl.none
 have e2:=hh.int
 have e3:=hm.int
 subst e1 e2 e3
 have hn:hasB H nm=true:=by
  cases hx with
  | ref _ _ _ hn h0 hk hv=>exact hn
 obtain ⟨rfl,_⟩:=pF hI hx ho
 obtain ⟨hv,hv0,hlen,hmax,vs,hown,hel⟩:=hI.objs nm _ (aR ho (by simp))
 have hlen':(loc nm).len=List.length (α:=ty.T) xs:=hlen
 have hcap:(loc nm).len<=(loc nm).cap:=by
  rcases cE hown with ⟨_,c1,c2,_⟩ | ⟨g,cur,_,_,_,c3,_⟩<;>omega
 have hr:=aLb (P:=P) (w:=w) hu hs (ad:=(loc nm).blk.map fun p=>(⟨p.1,p.2,none⟩:Addr)) (n:=(loc nm).len) (c:=(loc nm).cap) (k':=k2) (k'':=k3) (b:=i) (by omega)
 refine ⟨_,by simpa [Core.head] using hr,_,_,_,_,hK,hI,?_,Ext.refl _⟩
 exact Rel.lim (E:=envOf G H loc ver w) nm v i sz _ hn hv0 (mK hv.symm) fun _=>⟨by show i<=(loc nm).len;omega,by
  show _=Value.slice ((loc nm).blk.map fun p=>(⟨p.1,p.2,none⟩:Addr)) i i
  cases hbk:(loc nm).blk<;>simp[Addr.add]⟩
theorem aF3 (hI:Inv G H loc ver w) {t:TypeId} {s:SV} {x:Value} {lo hi:Option SV} {vlo vhi:Option Value} {K:SV->List HO->Prop} (h:aIe P t H s lo hi K) (hx:Rel (envOf G H loc ver w) s x)
  (hl:RelO (envOf G H loc ver w) lo vlo) (hh:RelO (envOf G H loc ver w) hi vhi):
  ∃v,(Instr.sliceAt t x vlo vhi none).run P w= .ok v w/\Res G (envOf G H loc ver w) K v w:=by
 unfold aIe at h
 split at h
 ·rename_i e hu
  split at h
  ·rename_i sz hs
   split at h
   ·rename_i ty xs
    obtain ⟨hb,h⟩:=aW h
    obtain ⟨v,s',h1,h2,h3⟩:=aI6 (P:=P) (w:=w) hu hs hx (bH.1 hb) h hl hh
    exact ⟨v,h1,s',H,loc,ver,h2,hI,h3,Ext.refl _⟩
   ·have e:x= .slice none 0 0:=by cases hx;rfl
    subst e
    split at h
    ·rename_i k j
     have e1:=hl.none
     have e2:=hh.int
     subst e1 e2
     have hj:j=0:=by have:=h.ok;omega
     subst hj
     refine ⟨.slice none 0 0,?_,_,H,loc,ver,h.go,hI,.val _ (by trivial),Ext.refl _⟩
     have:=sZ (P:=P) (w:=w) hu hs (a:=none) (n:=0) (c:=0) (lo:=none) (hi:=some (.int k ((0:Nat):Int))) (i:=0) (j:=0) ⟨.inl ⟨rfl,rfl⟩,.inr ⟨k,rfl⟩,aM _,aM _⟩ (aM _)
     simpa using this
    split at h
    ·rename_i ty hty
     obtain ⟨hb,h⟩:=aW h
     obtain ⟨v,s',h1,h2,h3⟩:=aI6 (P:=P) (w:=w) hu hs (E:=envOf G H loc ver w) (xs:=([]:List ty.T)) (.seq _ _ _ (wV _ _ _)) (bH.1 hb) h hl hh
     exact ⟨v,h1,s',H,loc,ver,h2,hI,h3,Ext.refl _⟩
    exact h.elim
   ·rename_i nm k j z
    split at h
    case h_2=>exact h.elim
    rename_i v ty xs e' ho
    have h':=aW h
    clear h
    obtain ⟨hb,h⟩:=h'
    simp only[aE,bH] at hb
    obtain ⟨rfl,hb2,rfl⟩:=hb
    unfold aO1 at h
    split at h
    case h_2=>exact h.elim
    rename_i k1 a k2 b
    have e1:=hl.int
    have e2:=hh.int
    subst e1 e2
    obtain ⟨⟨q1,q2,q3⟩,hK⟩:=h
    have hK:=(hK.use q1).use (by omega)
    obtain ⟨a,rfl⟩:=bM q1
    obtain ⟨b,rfl⟩:=bM (show 0<=b by omega)
    simp only[aP] at hK
    obtain ⟨hv,hv0,hlen,hmax,vs,hown,hel⟩:=hI.objs nm _ (aR ho (by simp))
    have hlen':(loc nm).len=List.length (α:=ty.T) xs:=hlen
    have hcap:(loc nm).len<=(loc nm).cap:=by
     rcases cE hown with ⟨_,c1,c2,_⟩ | ⟨g,cur,_,_,_,c3,_⟩<;>omega
    cases hx with
    | part _ _ _ _ _ _ hn h0 hk hq=>
     obtain ⟨_,hj,rfl⟩:=hq hv.symm
     have e0:(if ((envOf G H loc ver w).loc nm).cap=0 then ((envOf G H loc ver w).loc nm).blk.map (fun p=>(⟨p.1,p.2,none⟩:Addr)) else (((envOf G H loc ver w).loc nm).blk.map fun p=>(⟨p.1,p.2,none⟩:Addr)).map (·.add (0*ty.size)))=(loc nm).blk.map fun p=>(⟨p.1,p.2,none⟩:Addr):=by
      show (if (loc nm).cap=0 then _ else _)= _
      cases h:(loc nm).blk<;>simp[envOf,h,Addr.add]
     rw[e0]
     have hr:=aNl (P:=P) (w:=w) hu hs (ad:=(loc nm).blk.map fun p=>(⟨p.1,p.2,none⟩:Addr)) (n:=j-0) (c:=(loc nm).cap-0) (k:=k1) (k':=k2) (a:=a) (b:=b) (by omega) (by omega)
     refine ⟨_,hr,_,H,loc,ver,hK,hI,.part _ _ _ _ _ _ hn h0 hk fun _=>⟨by omega,by show b<=(loc nm).len;omega,?_⟩,Ext.refl _⟩
     rw[jO,hb2]
     exact rfl
   ·rename_i nm k
    split at h
    ·rename_i k' j
     have e1:=hl.none
     have e2:=hh.int
     subst e1 e2
     split at h
     ·rename_i v ty e' ho
      obtain ⟨hb,h⟩:=aW h
      simp only[aE,bH] at hb
      obtain ⟨hb1,hb2⟩:=hb
      subst hb1
      have hj:j=0:=by have:=h.ok;omega
      subst hj
      have hO:=hI.objs nm _ (aR ho (by simp))
      obtain ⟨hv,hv0,hlen,hmax,vs,hown,hel⟩:=hO
      have hlen':(loc nm).len=0:=hlen
      cases hx with
      | wide _ _ _ hn h0 hk h=>
       obtain ⟨n,hnc,hx⟩:=h hv.symm
       subst hx
       have hnc:n<=(loc nm).cap:=hnc
       have hrun:=sZ (P:=P) (w:=w) hu hs (a:=(loc nm).blk.map fun p=>(⟨p.1,p.2,none⟩:Addr)) (n:=n) (c:=(loc nm).cap) (lo:=none) (hi:=some (.int k' ((0:Nat):Int))) (i:=0) (j:=0) ⟨.inl ⟨rfl,rfl⟩,.inr ⟨k',rfl⟩,aM _,aI _⟩ hnc
       refine ⟨(loc nm).head,?_,_,H,loc,ver,(show K (.ref nm v) H from ‹Need _ _›.go),hI,.ref _ _ _ hn h0 hk fun _=>rfl,Ext.refl _⟩
       have e1:(if (loc nm).cap=0 then ((loc nm).blk.map fun p=>(⟨p.1,p.2,none⟩:Addr)) else ((loc nm).blk.map fun p=>(⟨p.1,p.2,none⟩:Addr)).map (·.add (0*sz)))=(loc nm).blk.map fun p=>(⟨p.1,p.2,none⟩:Addr):=by
        cases (loc nm).blk<;>simp[Addr.add]
       rw[e1] at hrun
       simpa [Core.head,hlen',envOf] using hrun
     exact h.elim
    exact h.elim
   ·rename_i nm k
    rcases h.or with h | h
    case inr=>exact aNk hI hu hs h hx hl hh
    rcases h.or with h | h
    case inr=>exact aI7 hI hu hs h hx hl hh
    rw[bQ] at h
    obtain ⟨hI',hx'⟩:=yN (.ref nm k) hI
    have hv:=mI hI' (hx.ext hx')
    split at h
    ·rename_i ty xs hvw
     rw[hvw] at hv
     obtain ⟨hb,h⟩:=aW h
     have hl':RelO (envOf G (frz1 H (.ref nm k)) loc ver w) lo vlo:=by
      cases lo<;>cases vlo<;>first | trivial | exact hl.elim | exact (show Rel _ _ _ from hl).ext hx'
     have hh':RelO (envOf G (frz1 H (.ref nm k)) loc ver w) hi vhi:=by
      cases hi<;>cases vhi<;>first | trivial | exact hh.elim | exact (show Rel _ _ _ from hh).ext hx'
     obtain ⟨v,s',h1,h2,h3⟩:=aI6 (P:=P) (w:=w) hu hs hv (bH.1 hb) h hl' hh'
     exact ⟨v,h1,s',_,loc,ver,h2,hI',h3,hx'⟩
    exact h.elim
   exact h.elim
  exact h.elim
 ·rename_i hu
  split at h
  ·rename_i s
   obtain ⟨i,j,hc,hk⟩:=aE0 h hl hh
   cases hx with
   | str _ hm=>
    refine ⟨.string ⟨((s.take j).drop i).toArray⟩,?_,_,H,loc,ver,hk,hI,.str _ ?_,Ext.refl _⟩
    ·have e1:(⟨s.toArray⟩:ByteArray).size=s.length:=by simp[ByteArray.size]
     have e2:(⟨s.toArray⟩:ByteArray).extract i j= ⟨((s.take j).drop i).toArray⟩:=by
      apply WideShapes.bytes_inj
      simp[ByteArray.data_extract,nT]
     simp only[Instr.sliceAt,Instr.slice]
     simp[run_underlying hu,e1,aEy (P:=P) (w:=w) hc (aM _),go_sem,e2]
    simp;omega
  exact h.elim
 exact h.elim
end
end Go.Eng
end
section
namespace Go.Eng
open Go.RowKit
section
variable {P:Program} {G:Ctx} {H:List HO} {loc:Nat->Loc} {ver:Nat->Nat} {w:World}
def SrcC (w:World) (ok:Nat->Prop) (t:Ty) (ys:List t.T) (q:Value):Prop:=
 ∃a c,q= .slice a ys.length c/\(0<ys.length->∃(ad:Addr) (cs:List Value),a=some ad/\cs.length=ys.length/\(∀m v,cs[m]? =some v->w.cell? (ad.add m)=some v)/\∀m,m<ys.length->Reads w ok t (List.getD (α:=t.T) ys m t.dflt) ((cs.drop m).take 1))
theorem aV9 {t:Ty} (h1:t.size=1) {ys:List t.T} {q:Value} {a:Option Addr} {c:Nat} {news:List Value} (h:Src w (okN G H loc w) t ys q a c news):SrcC w (okN G H loc w) t ys q:=by
 refine ⟨a,c,h.val,fun h0=>?_⟩
 cases ha:a with
 | none=>exact absurd (h.none ha) (by omega)
 | some ad=>
  refine ⟨ad,news,rfl,by rw[h.len,h1,dU],h.cell ad ha,fun m hm=>?_⟩
  have:=h.rd m hm
  rwa [h1,dU] at this
theorem aFt {α:Type} {xs:List α} {m:Nat} {v:α} (h:(xs.drop m).take 1= [v]):xs[m]? =some v:=by
 have:((xs.drop m).take 1)[0]? =some v:=by rw[h];rfl
 simpa [aJ,aT] using this
theorem aM9 (hI:Inv G H loc ver w) {t:Ty} (h1:t.size=1) {s:SV} {q:Value} {K:List t.T->Prop} (h:srcK H t s K) (hs:Rel (envOf G H loc ver w) s q):∃ys,K ys/\SrcC w (okN G H loc w) t ys q:=by
 have hdata:aDs H t s K->∃ys,K ys/\SrcC w (okN G H loc w) t ys q:=fun h=>by
  obtain ⟨ys,h2,h3⟩:=wR h
  obtain ⟨a,c,news,h4⟩:=tU hI h2 hs
  exact ⟨ys,h3,aV9 h1 h4⟩
 unfold srcK at h
 split at h
 case h_2=>exact hdata h
 rename_i nm k i j z
 split at h
 case h_2=>exact h.elim
 rename_i v t' xs e' ho
 have h':=aW h
 clear h
 obtain ⟨hb,h⟩:=h'
 simp only[aE,bH] at hb
 obtain ⟨rfl,hbz⟩:=hb
 rw[h1] at hbz
 subst hbz
 by_cases e1:t'=t
 case neg=>rw[xH e1] at h;exact h.elim
 subst e1
 simp only[dite_true] at h
 rw[sO] at h
 have hO:=hI.objs nm _ (aR ho (by simp))
 obtain ⟨hv,hv0,hlen,hmax,vs,hown,hel⟩:=hO
 have hlen':(loc nm).len=List.length (α:=t'.T) xs:=hlen
 cases hs with
 | part _ _ _ _ _ _ hn h0 hk hq=>
  obtain ⟨hij,hj,rfl⟩:=hq hv.symm
  have hj:j<=(loc nm).len:=hj
  have hl:((xs.take j).drop i).length=j-i:=by simp;omega
  refine ⟨_,h,_,_,by rw[hl],fun hpos=>?_⟩
  rw[hl] at hpos ⊢
  rcases cE hown with ⟨_,c1,c2,_⟩ | ⟨g,cur,c1,c2,c3,c4,c5,c6,c7⟩
  ·omega
  have hne:¬(loc nm).cap=i:=by omega
  have hvl:vs.length=(loc nm).len:=by have:=hown.1;rw[h1,dU] at this;exact this
  refine ⟨⟨g,i,none⟩,(vs.take j).drop i,?_,by simp;omega,fun m v hm=>?_,fun m hm=>?_⟩
  ·show (if (loc nm).cap=i then _ else _)= _
   rw[aC hne]
   show (((loc nm).blk.map _).map _)= _
   rw[c1];simp[Addr.add_mid]
  ·rw[Addr.add_mid]
   rw[aT,aJ] at hm
   split at hm
   ·rw[<- c7,aJ] at hm
    split at hm
    ·have c3':w.heap[g]? =some (.cells cur _ (0,0)):=c3
     simp only[World.cell?,c3']
     simpa using hm
    cases hm
   cases hm
  have e1:List.getD (α:=t'.T) ((xs.take j).drop i) m t'.dflt=List.getD (α:=t'.T) xs (i+m) t'.dflt:=by
   have:i+m<j:=by omega
   simp[aB,aT,aJ,this]
  have e2:(((vs.take j).drop i).drop m).take 1=(vs.drop (i+m)).take 1:=by
   rw[dJ,nT,gA]
   congr 1;omega
  have hr:=hel (i+m) (by show i+m<(loc nm).len;omega)
  rw[h1,dU] at hr
  rw[e2]
  exact (show List.getD (α:=t'.T) (List.drop i (List.take j xs)) m t'.dflt= _ from e1) ▸ hr
theorem qY {α:Type} (xs zs:List α) (i:Nat) (h:i+zs.length<=xs.length):(layL xs i zs).length=xs.length:=by
 simp[layL];omega
theorem lU {α:Type} (xs zs:List α) (i:Nat) (h:i+zs.length<=xs.length) (q:Nat):(layL xs i zs)[q]? =if i<=q/\q<i+zs.length then zs[q-i]? else xs[q]? :=by
 unfold layL
 by_cases h1:q<i
 ·rw[bF (by simp;omega),aJ,aD h1,aC (by omega)]
 rw[bX (by simp;omega),bA,cI (by omega)]
 by_cases h2:q<i+zs.length
 ·rw[bF (by omega),aD ⟨by omega,h2⟩]
 rw[bX (by omega),aC (by omega),aT]
 congr 1;omega
theorem aQo {ok:Nat->Prop} {t:Ty} {x:t.T} {cs:List Value} (h1:t.size=1) (h:Reads w ok t x cs):∃v,cs= [v]/\v.oneCell'=true:=by
 have hl:=h.length
 rw[h1] at hl
 match cs,hl with
 | [v],_=>exact ⟨v,rfl,h.one v (by simp)⟩
theorem zP (hI:Inv G H loc ver w) {t u ty0:TypeId} {nm k i j:Nat} {y:SV} {p q:Value} {K:SV->List HO->Prop} (h:aId P t H nm k i j y K)
  (hn:hasB H nm=true) (hx:k=ver nm->i<=j/\j<=(loc nm).len/\p= .slice (if (loc nm).cap=i then (loc nm).blk.map (fun p=>(⟨p.1,p.2,none⟩:Addr)) else ((loc nm).blk.map fun p=>(⟨p.1,p.2,none⟩:Addr)).map (·.add (i*1))) (j-i) ((loc nm).cap-i)) (hy:Rel (envOf G H loc ver w) y q):
  ∃v w',(Builtin.copy_ #[t,u] ty0 #[p,q]).run P w= .ok v w'/\Res G (envOf G H loc ver w) K v w':=by
 unfold aId at h
 split at h
 case h_2=>exact h.elim
 rename_i e he
 have hu:=dM he
 split at h
 case h_2=>exact h.elim
 rename_i v ty xs e' hs ho
 have h':=aW h
 clear h
 obtain ⟨hb,h⟩:=h'
 simp only[aE,bH] at hb
 obtain ⟨rfl,h1⟩:=hb
 obtain ⟨ys,hK,a,c,rfl,hsrc⟩:=aM9 hI h1 h hy
 rw[bQ] at hK
 have hso:=aR ho (by simp)
 have hO:=hI.objs nm _ hso
 obtain ⟨hv,hv0,hlen,hmax,vs,hown,hel⟩:=hO
 have hlen':(loc nm).len=List.length (α:=ty.T) xs:=hlen
 obtain ⟨hij,hj,rfl⟩:=hx hv.symm
 have hzl:(ys.take (j-i)).length=Nat.min ys.length (j-i):=by simp[Nat.min_comm]
 have hs1:(P.info? e).map (·.size)=some 1:=by
  unfold gH at hs
  cases hi:P.info? e with
  | none=>rw[hi] at hs;cases hs
  | some inf=>rw[hi] at hs;simpa using hs
 have hmx:(loc nm).len<=140737488355328:=hmax
 have hwv:WV (.int .i64 ((ys.take (j-i)).length:Nat)):=by
  have:(ys.take (j-i)).length<=j-i:=by simp;omega
  constructor<;>simp only[lo,hi]<;>omega
 by_cases hz:(ys.take (j-i)).length=0
 ·have e0:ys.take (j-i)= []:=bW hz
  have ex:layL xs i (ys.take (j-i))=xs:=by rw[e0];simp[layL]
  rw[ex] at hK
  have eH:hset H nm (.vec v ty xs e')=H:=by
   unfold hset
   apply cK
   intro m
   rw[cZ]
   split
   ·rename_i em;subst em
    rw[aD (fU hn),hso]
   rfl
  rw[eH] at hK
  refine ⟨_,w,run_copy_none (P:=P) w t u ty0 e _ a (j-i) _ ys.length c hu hs1 (by rw[<- hzl];exact hz),?_⟩
  rw[hz] at hK hwv
  exact Res.pure hI hK (.val _ hwv)
 have hpos:0<ys.length:=by
  have:=List.length_take_le' (j-i) ys
  omega
 obtain ⟨ad,cs,rfl,hcl,hcell,hrd⟩:=hsrc hpos
 have hfit:i+(ys.take (j-i)).length<=xs.length:=by
  have:(ys.take (j-i)).length<=j-i:=by simp;omega
  omega
 rcases cE hown with ⟨_,c1,c2,_⟩ | ⟨g,cur,c1,c2,c3,c4,c5,c6,c7⟩
 ·omega
 have hne:¬(loc nm).cap=i:=by omega
 have hvl:vs.length=(loc nm).len:=by have:=hown.1;rw[h1,dU] at this;exact this
 rw[h1,dU] at c6 c7
 have hnew:(cs.take (j-i)).length=(ys.take (j-i)).length:=by rw[bA,bA,hcl]
 have hone:∀m,m<ys.length->∃v,cs[m]? =some v/\v.oneCell'=true/\Reads w (okN G H loc w) ty (List.getD (α:=ty.T) ys m ty.dflt) [v]:=fun m hm=>by
  have hr:=hrd m hm
  obtain ⟨v,e1,e2⟩:=aQo h1 hr
  exact ⟨v,aFt e1,e2,by rw[<- e1];exact hr⟩
 have hcur:(cur.toList.take i++cs.take (j-i)++cur.toList.drop (i+(cs.take (j-i)).length))=layL cur.toList i (cs.take (j-i)):=by simp[layL]
 have c3':w.heap[g]? =some (.cells cur e' (0,0)):=c3
 have hrun:=run_copy_row (P:=P) w t u ty0 e g i (j-i) ((loc nm).cap-i) ad ys.length c cur e' (cs.take (j-i)) hu hs1 c3' (by rw[hnew,hzl]) (fun m v hm=>by
   rw[aJ] at hm
   split at hm
   ·exact hcell m v hm
   ·cases hm) (by rw[hnew];omega) (fun v hm=>by
   obtain ⟨m,hm1,rfl⟩:=bV hm
   rw[bA] at hm1
   obtain ⟨v,q1,q2,_⟩:=hone m (by omega)
   rw[List.getElem_take]
   rw[aH (by omega)] at q1
   cases q1;exact q2)
 rw[hcur] at hrun
 have hadr:(if (loc nm).cap=i then (loc nm).blk.map (fun p=>(⟨p.1,p.2,none⟩:Addr)) else ((loc nm).blk.map fun p=>(⟨p.1,p.2,none⟩:Addr)).map (·.add (i*1)))=some ⟨g,i,none⟩:=by
  rw[aC hne,c1];simp[Addr.add_mid]
 rw[hadr]
 have hfv:i+(cs.take (j-i)).length<=vs.length:=by rw[hnew,hvl,hlen'];exact hfit
 refine ⟨_,_,hrun,?_⟩
 have hlt:nm<H.length:=fU hn
 have hn':H[nm]? =some (.vec v ty xs e'):=hso
 have hcl2:i+(cs.take (j-i)).length<=cur.toList.length:=by
  have e:(loc nm).cap<=cur.toList.length:=by simpa using c6
  rw[hnew];exact bI hfit (by rw[<- hlen'];exact bI c4 e)
 have hf:=hI.turn (w':=w.setRow g (layL cur.toList i (cs.take (j-i))).toArray) (H':=hset H nm (.vec v ty (layL xs i (ys.take (j-i))) e')) (loc':=loc) (ver':=ver) nm (by simp[hset]) (fun m hm=>⟨bS hm,rfl,rfl⟩)
  (fun _=>dF (aN hlt) rfl) (fun _=>.inl ⟨rfl,rfl,.inl rfl⟩) (by simp[World.setRow]) rfl rfl rfl (by rw[hn'];intro h;cases h) (fun _=>by rw[show hset H nm _=H.set nm _ from rfl,aN hlt];intro h;cases h)
  (by
   intro st n it b hq
   rw[show hset H nm _=H.set nm _ from rfl,aN hlt] at hq;cases hq)
  (fun b hb hne=>setRow_other w g b _ (fun e=>hne _ hn' (by simp[Owns,c1,e])))
  (by
   intro o' b ho' hb
   rw[show hset H nm _=H.set nm _ from rfl,aN hlt] at ho';cases ho'
   exact .inl ⟨_,hn',hb⟩)
  (by
   intro hx' o' ho'
   rw[show hset H nm _=H.set nm _ from rfl,aN hlt] at ho';cases ho'
   have hll:=qY xs (ys.take (j-i)) i hfit
   refine ⟨hv,hv0,by rw[hll];exact hlen,hmax,layL vs i (cs.take (j-i)),?_,fun m hm=>?_⟩
   ·refine ⟨?_,.inr ⟨g,(loc nm).cap,(layL cur.toList i (cs.take (j-i))).toArray,?_,aI _,setRow_heap w g cur _ e' _ c3',?_,c5,?_,?_⟩⟩
    ·rw[qY _ _ _ hfv,hvl,h1,dU]
    ·simp[Core.head,c1]
    ·show (loc nm).len<= _;omega
    ·rw[eN,qY _ _ _ hcl2,fA,h1,dU];exact c6
    rw[h1,dU]
    apply cK
    intro m
    rw[lU _ _ _ hfv,aJ]
    show (if m<(loc nm).len then (layL cur.toList i (cs.take (j-i)))[m]? else none)= _
    rw[lU _ _ _ hcl2,<- c7]
    by_cases hm:i<=m/\m<i+(cs.take (j-i)).length
    ·rw[aD hm,aD hm,aD (by omega)]
    rw[aC hm,aC hm,aJ]
   have hm:m<(loc nm).len:=hm
   rw[h1,dU]
   by_cases hmi:i<=m/\m<i+(ys.take (j-i)).length
   ·have hmy:m-i<ys.length:=by
     have:=List.length_take_le' (j-i) ys
     omega
    have hmj:m-i<j-i:=by
     have:=List.length_take_le (j-i) ys
     omega
    obtain ⟨u',q1,q2,q3⟩:=hone (m-i) hmy
    have e1:List.getD (α:=ty.T) (layL xs i (ys.take (j-i))) m ty.dflt=List.getD (α:=ty.T) ys (m-i) ty.dflt:=by
     rw[aB,aB,lU _ _ _ hfit,aD hmi,aJ,aD hmj]
    have e2:((layL vs i (cs.take (j-i))).drop m).take 1= [u']:=by
     have:(layL vs i (cs.take (j-i)))[m]? =some u':=by
      rw[lU _ _ _ hfv,aD (by rw[hnew];exact hmi),aJ,aD hmj,q1]
     rw[List.take_one,uV,this];rfl
    rw[e2]
    exact (show List.getD (α:=ty.T) (layL xs i (List.take (j-i) ys)) m ty.dflt= _ from e1) ▸ q3.mono hx'.cell hx'.ok
   have e1:List.getD (α:=ty.T) (layL xs i (ys.take (j-i))) m ty.dflt=List.getD (α:=ty.T) xs m ty.dflt:=by
    rw[aB,aB,lU _ _ _ hfit,aC hmi]
   have e2:((layL vs i (cs.take (j-i))).drop m).take 1=(vs.drop m).take 1:=by
    rw[List.take_one,uV,List.take_one,uV,lU _ _ _ hfv,aC (by rw[hnew];exact hmi)]
   have hr:=hel m (by show m<(loc nm).len;omega)
   rw[h1,dU] at hr
   rw[e2]
   exact (show List.getD (α:=ty.T) (layL xs i (List.take (j-i) ys)) m ty.dflt= _ from e1) ▸ hr.mono hx'.cell hx'.ok)
 refine ⟨_,_,_,_,hK,hf.1,?_,hf.2⟩
 rw[hnew]
 exact .val _ hwv
theorem aIr (hI:Inv G H loc ver w) {t u ty0:TypeId} {x y:SV} {p q:Value} {K:SV->List HO->Prop} (h:aMy P t H x y K) (hx:Rel (envOf G H loc ver w) x p) (hy:Rel (envOf G H loc ver w) y q):
  ∃v w',(Builtin.copy_ #[t,u] ty0 #[p,q]).run P w= .ok v w'/\Res G (envOf G H loc ver w) K v w':=by
 unfold aMy at h
 split at h
 ·rename_i nm k
  split at h
  ·rename_i v ty xs e' ho
   cases hx with
   | ref _ _ _ hn h0 hk hv=>
    refine zP hI h hn (fun e=>?_) hy
    have hO:=hI.objs nm _ (aR ho (by simp))
    obtain ⟨hvv,hv0,hlen,hmax,vs,hown,hel⟩:=hO
    have hlen':(loc nm).len=List.length (α:=ty.T) xs:=hlen
    refine ⟨aI _,by omega,?_⟩
    rw[hv e,<- hlen']
    have hb:(if (loc nm).cap=0 then (loc nm).blk.map (fun p=>(⟨p.1,p.2,none⟩:Addr)) else ((loc nm).blk.map fun p=>(⟨p.1,p.2,none⟩:Addr)).map (·.add (0*1)))=(loc nm).blk.map fun p=>(⟨p.1,p.2,none⟩:Addr):=by
     cases (loc nm).blk<;>simp[Addr.add]
    rw[hb]
    simp[Core.head,envOf]
  exact h.elim
 ·cases hx with
  | part _ _ _ _ _ _ hn h0 hk hv=>exact zP hI h hn hv hy
 exact h.elim
end
end Go.Eng
end
section
namespace Go.Eng
open Go.RowKit
section
variable {P:Program} {G:Ctx} {H:List HO} {loc:Nat->Loc} {ver:Nat->Nat} {w:World}
theorem aIs (hI:Inv G H loc ver w) {s:SV} {x:Value} {K:SV->List HO->Prop} (h:aMu H s K) (hx:Rel (envOf G H loc ver w) s x):Res G (envOf G H loc ver w) K x w:=by
 unfold aMu at h
 split at h
 case h_2=>exact Res.pure hI h hx
 rename_i nm k j z
 have h0:=h.or
 clear h
 rcases h0 with h | h
 ·exact Res.pure hI h hx
 split at h
 case h_2=>exact h.elim
 rename_i v ty xs e ho
 have h':=aW h
 clear h
 obtain ⟨hb,h⟩:=h'
 simp only[aE,bH] at hb
 obtain ⟨rfl,rfl⟩:=hb
 rw[bQ] at h
 have hso:=aR ho (by simp)
 have hv:=(hI.objs nm _ hso).1
 cases hx with
 | part _ _ _ _ _ _ hn h0 hk hq=>
  obtain ⟨_,hj,rfl⟩:=hq hv.symm
  have hj:j<=(loc nm).len:=hj
  have hlt:nm<H.length:=fU hn
  have hf:=aE1 hI hso hlt hj
  refine ⟨_,_,_,_,h,hf.1,?_,hf.2⟩
  refine .ref _ _ _ (by exact dF (aN hlt) rfl) (gP _) (by simp[envOf,aV]) fun _=>?_
  have e0:(if ((envOf G H loc ver w).loc nm).cap=0 then ((envOf G H loc ver w).loc nm).blk.map (fun p=>(⟨p.1,p.2,none⟩:Addr)) else (((envOf G H loc ver w).loc nm).blk.map fun p=>(⟨p.1,p.2,none⟩:Addr)).map (·.add (0*ty.size)))=(loc nm).blk.map fun p=>(⟨p.1,p.2,none⟩:Addr):=by
   show (if (loc nm).cap=0 then _ else _)= _
   cases h:(loc nm).blk<;>simp[envOf,h,Addr.add]
  rw[e0]
  simp[envOf,aV,Core.head]
theorem aKh (hI:Inv G H loc ver w) {t:Ty} {s:SV} {q:Value} {K:List t.T->Prop} (h:srcK H t s K) (hs:Rel (envOf G H loc ver w) s q):∃ys,K ys/\∃a c news,Src w (okN G H loc w) t ys q a c news:=by
 have hdata:aDs H t s K->∃ys,K ys/\∃a c news,Src w (okN G H loc w) t ys q a c news:=fun h=>by
  obtain ⟨ys,h2,h3⟩:=wR h
  exact ⟨ys,h3,tU hI h2 hs⟩
 unfold srcK at h
 split at h
 case h_2=>exact hdata h
 rename_i nm k i j z
 split at h
 case h_2=>exact h.elim
 rename_i v t' xs e' ho
 have h':=aW h
 clear h
 obtain ⟨hb,h⟩:=h'
 simp only[aE,bH] at hb
 obtain ⟨rfl,rfl⟩:=hb
 by_cases e1:t'=t
 case neg=>rw[xH e1] at h;exact h.elim
 subst e1
 simp only[dite_true] at h
 rw[sO] at h
 have hO:=hI.objs nm _ (aR ho (by simp))
 obtain ⟨hv,hv0,hlen,hmax,vs,hown,hel⟩:=hO
 have hlen':(loc nm).len=List.length (α:=t'.T) xs:=hlen
 cases hs with
 | part _ _ _ _ _ _ hn h0 hk hq=>
  obtain ⟨hij,hj,rfl⟩:=hq hv.symm
  have hj:j<=(loc nm).len:=hj
  have hl:((xs.take j).drop i).length=j-i:=by simp;omega
  have hpos:=t'.size_pos
  by_cases hji:j-i=0
  ·have e0:(xs.take j).drop i= []:=bW (by rw[hl];exact hji)
   refine ⟨_,h,_,_,[],by rw[hl],fun _=>by rw[hl];exact hji,by rw[hl,hji];simp,(fun ad e j u hj=>by simp at hj),fun q hq=>by rw[hl] at hq;omega⟩
  rcases cE hown with ⟨_,c1,c2,_⟩ | ⟨g,cur,c1,c2,c3,c4,c5,c6,c7⟩
  ·omega
  have hne:¬(loc nm).cap=i:=by omega
  have hvl:vs.length=(loc nm).len*t'.size:=hown.1
  have hm1:i*t'.size<=j*t'.size:=aU _ hij
  have hm2:j*t'.size<=(loc nm).len*t'.size:=aU _ hj
  have hsub:(j-i)*t'.size=j*t'.size-i*t'.size:=Nat.sub_mul _ _ _
  have ha:(if ((envOf G H loc ver w).loc nm).cap=i then ((envOf G H loc ver w).loc nm).blk.map (fun p=>(⟨p.1,p.2,none⟩:Addr)) else (((envOf G H loc ver w).loc nm).blk.map fun p=>(⟨p.1,p.2,none⟩:Addr)).map (·.add (i*t'.size)))=some ⟨g,i*t'.size,none⟩:=by
   show (if (loc nm).cap=i then _ else _)= _
   rw[aC hne]
   show (((loc nm).blk.map _).map _)= _
   rw[c1];simp[Addr.add_mid]
  rw[ha]
  refine ⟨_,h,some ⟨g,i*t'.size,none⟩,((envOf G H loc ver w).loc nm).cap-i,(vs.take (j*t'.size)).drop (i*t'.size),by rw[hl],(fun e=>by cases e),?_,fun ad e m u hm=>?_,fun m hm=>?_⟩
  ·rw[hl,dR,bA,hvl,hsub,cI hm2]
  ·cases e
   rw[Addr.add_mid]
   rw[aT,aJ] at hm
   split at hm
   ·rw[<- c7,aJ] at hm
    split at hm
    ·have c3':w.heap[g]? =some (.cells cur _ (0,0)):=c3
     simp only[World.cell?,c3']
     simpa using hm
    cases hm
   cases hm
  rw[hl] at hm
  have e1:List.getD (α:=t'.T) ((xs.take j).drop i) m t'.dflt=List.getD (α:=t'.T) xs (i+m) t'.dflt:=by
   have:i+m<j:=by omega
   simp[aB,aT,aJ,this]
  have e2:(((vs.take (j*t'.size)).drop (i*t'.size)).drop (m*t'.size)).take t'.size=(vs.drop ((i+m)*t'.size)).take t'.size:=by
   have hm3:(i+m+1)*t'.size<=j*t'.size:=aU _ (by omega)
   rw[bU,dV] at hm3
   rw[dJ,<- bU,nT,gA]
   congr 1;omega
  have hr:=hel (i+m) (by show i+m<(loc nm).len;omega)
  rw[e2]
  exact (show List.getD (α:=t'.T) (List.drop i (List.take j xs)) m t'.dflt= _ from e1) ▸ hr
theorem aQp {vs news:List Value} {z i m q:Nat} (hz:0<z) (hn:news.length=m*z) (hf:i*z+news.length<=vs.length):((layL vs (i*z) news).drop (q*z)).take z=if i<=q/\q<i+m then (news.drop ((q-i)*z)).take z else (vs.drop (q*z)).take z:=by
 apply cK
 intro p
 rw[aJ]
 by_cases hp:p<z
 ·rw[aD hp,aT,lU _ _ _ hf,hn]
  by_cases h:i<=q/\q<i+m
  ·have h1:i*z<=q*z:=aU _ h.1
   have h2:(q+1)*z<=(i+m)*z:=aU _ (by omega)
   have h3:(q-i)*z=q*z-i*z:=Nat.sub_mul _ _ _
   rw[bU,dV,bU] at h2
   rw[aD h,aD ⟨by omega,by omega⟩,aJ,aD hp,aT]
   congr 1;omega
  rw[aC h,aJ,aD hp,aT]
  rw[aC]
  rintro ⟨h1,h2⟩
  by_cases hi:i<=q
  ·have:(i+m)*z<=q*z:=aU _ (by omega)
   rw[bU] at this
   omega
  have:(q+1)*z<=i*z:=aU _ (by omega)
  rw[bU,dV] at this
  omega
 rw[aC hp]
 split
 ·rw[aJ,aC hp]
 rw[aJ,aC hp]
theorem aPd (hI:Inv G H loc ver w) {nm v:Nat} {ty:Ty} {xs ys:List ty.T} {e':TypeId} (hso:H[nm]? =some (.vec v ty xs e')) (hlt:nm<H.length) {i g:Nat} {cur:Array Value} {news:List Value}
  (hb:(loc nm).blk=some (g,0)) (hg:w.heap[g]? =some (.cells cur e' (0,0))) (hn:news.length=ys.length*ty.size) (hfit:i+ys.length<=xs.length) (hrd:∀m,m<ys.length->Reads w (okN G H loc w) ty (List.getD (α:=ty.T) ys m ty.dflt) ((news.drop (m*ty.size)).take ty.size)):
  Inv G (hset H nm (.vec v ty (layL xs i ys) e')) loc ver (w.setRow g (layL cur.toList (i*ty.size) news).toArray)/\Ext (envOf G H loc ver w) (envOf G (hset H nm (.vec v ty (layL xs i ys) e')) loc ver (w.setRow g (layL cur.toList (i*ty.size) news).toArray)):=by
 have hO:=hI.objs nm _ hso
 obtain ⟨hv,hv0,hlen,hmax,vs,hown,hel⟩:=hO
 have hlen':(loc nm).len=List.length (α:=ty.T) xs:=hlen
 have hpos:=ty.size_pos
 rcases cE hown with ⟨c1,_,_,_⟩ | ⟨g',cur',c1,c2,c3,c4,c5,c6,c7⟩
 ·rw[hb] at c1;cases c1
 rw[hb] at c1
 cases c1
 have c3':w.heap[g]? =some (.cells cur' e' (0,0)):=c3
 rw[hg] at c3'
 cases c3'
 have hvl:vs.length=(loc nm).len*ty.size:=hown.1
 have hm1:(i+ys.length)*ty.size<=(loc nm).len*ty.size:=aU _ (by omega)
 have hm2:(loc nm).len*ty.size<=(loc nm).cap*ty.size:=aU _ c4
 have hm3:=bU i ys.length ty.size
 have hf1:i*ty.size+news.length<=vs.length:=by rw[hn,hvl];omega
 have hcl:(loc nm).cap*ty.size<=cur.toList.length:=by simpa using c6
 have hf2:i*ty.size+news.length<=cur.toList.length:=by rw[hn];omega
 refine hI.turn (w':=w.setRow g (layL cur.toList (i*ty.size) news).toArray) (H':=hset H nm (.vec v ty (layL xs i ys) e')) (loc':=loc) (ver':=ver) nm (by simp[hset]) (fun m hm=>⟨bS hm,rfl,rfl⟩)
  (fun _=>dF (aN hlt) rfl) (fun _=>.inl ⟨rfl,rfl,.inl rfl⟩) (by simp[World.setRow]) rfl rfl rfl (by rw[hso];intro h;cases h) (fun _=>by rw[show hset H nm _=H.set nm _ from rfl,aN hlt];intro h;cases h)
  (by
   intro st n it b hq
   rw[show hset H nm _=H.set nm _ from rfl,aN hlt] at hq;cases hq)
  (fun b hb' hne=>setRow_other w g b _ (fun e=>hne _ hso (by simp[Owns,hb,e])))
  (by
   intro o' b ho' hb'
   rw[show hset H nm _=H.set nm _ from rfl,aN hlt] at ho';cases ho'
   exact .inl ⟨_,hso,hb'⟩)
  (by
   intro hx' o' ho'
   rw[show hset H nm _=H.set nm _ from rfl,aN hlt] at ho';cases ho'
   have hll:=qY xs ys i hfit
   refine ⟨hv,hv0,by rw[hll];exact hlen,hmax,layL vs (i*ty.size) news,?_,fun m hm=>?_⟩
   ·refine ⟨?_,.inr ⟨g,(loc nm).cap,(layL cur.toList (i*ty.size) news).toArray,?_,aI _,setRow_heap w g cur _ e' _ hg,?_,c5,?_,?_⟩⟩
    ·rw[qY _ _ _ hf1];exact hvl
    ·simp[Core.head,hb]
    ·show (loc nm).len<= _;omega
    ·rw[eN,qY _ _ _ hf2];exact hcl
    apply cK
    intro m
    rw[lU _ _ _ hf1,aJ]
    show (if m<(loc nm).len*ty.size then (layL cur.toList (i*ty.size) news)[m]? else none)= _
    rw[lU _ _ _ hf2,<- c7]
    by_cases hm:i*ty.size<=m/\m<i*ty.size+news.length
    ·rw[aD hm,aD hm,aD (by rw[hvl] at hf1;omega)]
    rw[aC hm,aC hm,aJ]
   have hm:m<(loc nm).len:=hm
   rw[aQp (m:=ys.length) hpos hn hf1]
   by_cases hmi:i<=m/\m<i+ys.length
   ·rw[aD hmi]
    have e1:List.getD (α:=ty.T) (layL xs i ys) m ty.dflt=List.getD (α:=ty.T) ys (m-i) ty.dflt:=by
     rw[aB,aB,lU _ _ _ hfit,aD hmi]
    exact (show List.getD (α:=ty.T) (layL xs i ys) m ty.dflt= _ from e1) ▸ (hrd (m-i) (by omega)).mono hx'.cell hx'.ok
   rw[aC hmi]
   have e1:List.getD (α:=ty.T) (layL xs i ys) m ty.dflt=List.getD (α:=ty.T) xs m ty.dflt:=by
    rw[aB,aB,lU _ _ _ hfit,aC hmi]
   exact (show List.getD (α:=ty.T) (layL xs i ys) m ty.dflt= _ from e1) ▸ (hel m (by show m<(loc nm).len;omega)).mono hx'.cell hx'.ok)
theorem aKi {α:Type} (xs:List α) (i:Nat):layL xs i []=xs:=by simp[layL]
theorem aGk {nm:Nat} {o:HO} (h:H[nm]? =some o):hset H nm o=H:=by
 unfold hset
 apply cK
 intro m
 rw[cZ]
 split
 ·rename_i em;subst em
  split
  ·exact h.symm
  rename_i hl
  rw[bN (by omega)]
 rfl
theorem aCl {t ty e:TypeId} {i:TypeInfo} (ht:P.underlying t=some (.slice e)) (hi:P.info? e=some i) (A:Option Addr) {n c:Nat} (hn:n<=c) (a:Option Addr) (c':Nat):
  (Builtin.append_ #[t,t] ty #[.slice A n c,.slice a 0 c']).run P w= .ok (.slice A n c) w:=by
 have hf:(Builtin.firstCells i.size 0 (.slice a 0 c')).run P w= .ok #[] w:=by
  cases a with
  | none=>simp[Builtin.firstCells]
  | some ad=>simpa using run_firstCells_some (P:=P) w i.size 0 ad 0 c' [] (by simp) (fun j v h=>by simp at h)
 cases A<;>simp[Builtin.append_,run_underlying ht,sizeOf,typeInfo,hi,Builtin.lenOf,hn,hf,storeCells]
theorem aQq {i z g c:Nat} (hc:i<c):(if c=i then (some (g,0):Option (Nat × Nat)).map (fun p=>(⟨p.1,p.2,none⟩:Addr)) else ((some (g,0):Option (Nat × Nat)).map fun p=>(⟨p.1,p.2,none⟩:Addr)).map (·.add (i*z)))=some ⟨g,i*z,none⟩:=by
 rw[aC (by omega)]
 simp[Addr.add_mid]
theorem aD5 {z g c:Nat}:(if c=0 then (some (g,0):Option (Nat × Nat)).map (fun p=>(⟨p.1,p.2,none⟩:Addr)) else ((some (g,0):Option (Nat × Nat)).map fun p=>(⟨p.1,p.2,none⟩:Addr)).map (·.add (0*z)))=some ⟨g,0,none⟩:=by
 split<;>simp[Addr.add]
theorem aD6 {ok:Nat->Prop} {t:Ty} {ys:List t.T} {news:List Value} (hn:news.length=ys.length*t.size) (h:∀m,m<ys.length->Reads w ok t (List.getD (α:=t.T) ys m t.dflt) ((news.drop (m*t.size)).take t.size)):∀u∈news,u.oneCell'=true:=by
 intro u hu
 obtain ⟨j,hj,rfl⟩:=bV hu
 have hpos:=t.size_pos
 have hm:j/t.size<ys.length:=by rw[Nat.div_lt_iff_lt_mul hpos,<- hn];exact hj
 have hd:=Nat.div_add_mod j t.size
 have hr:=eT j hpos
 rw[gB] at hd
 refine (h _ hm).one _ ?_
 apply gV (i:=j%t.size)
 rw[aJ,aD hr,aT,hd,aH hj]
theorem aFu (hI:Inv G H loc ver w) {t ty0 e:TypeId} (hu:P.underlying t=some (.slice e)) {nm k i z:Nat} {x:SV} {p q:Value} {K:SV->List HO->Prop} (h:aH8 P H e nm k i z x K) (hs:Rel (envOf G H loc ver w) (.lim nm k i z) p) (hx:Rel (envOf G H loc ver w) x q):
  ∃v w',(Builtin.append_ #[t,t] ty0 #[p,q]).run P w= .ok v w'/\Res G (envOf G H loc ver w) K v w':=by
 unfold aH8 at h
 split at h
 case h_2=>exact h.elim
 rename_i inf v ty xs e' hi ho
 have h':=aW h
 clear h
 obtain ⟨hb,h⟩:=h'
 simp only[aE,bH] at hb
 obtain ⟨⟨⟨rfl,rfl⟩,rfl⟩,⟨hb1,hb2⟩,hb3⟩:=hb
 have hb2':0<inf.bytes:=by simpa using hb2
 obtain ⟨zv,hz,hzs⟩:∃z,inf.zero=some z/\z.cells.size=ty.size:=by
  cases hz:inf.zero with
  | none=>rw[hz] at hb3;cases hb3
  | some z=>rw[hz] at hb3;exact ⟨z,rfl,bH.1 hb3⟩
 have hfit:∀n:Nat,n*inf.bytes<=140737488355328->n<=maxL:=fun n hn=>bI (kB n hb2') hn
 obtain ⟨ys,⟨hn,hk⟩,a,c,news,hsrc⟩:=aKh hI h hx
 rw[bQ] at hk
 have hn':=aR ho (by simp)
 obtain ⟨hv,hv0,hlen,hmax,vs,hown,hel⟩:=hI.objs nm _ hn'
 have hlen':(loc nm).len=List.length (α:=ty.T) xs:=hlen
 cases hs with
 | lim _ _ _ _ _ hnm h0 hkk hq=>
  obtain ⟨hil,rfl⟩:=hq hv.symm
  have hil:i<=(loc nm).len:=hil
  have hlt:nm<H.length:=fU hnm
  have hmul:i*ty.size<=(loc nm).len*ty.size:=aU _ hil
  have hvl:vs.length=(loc nm).len*ty.size:=hown.1
  have hp:Value.slice (((envOf G H loc ver w).loc nm).blk.map fun p=>(⟨p.1,p.2,none⟩:Addr)) i i=(mkL (loc nm).blk i i).head:=rfl
  rw[hp]
  have hown':w.ownsR 0 e ty.size (mkL (loc nm).blk i i).head i (vs.take (i*ty.size)):=by
   refine ⟨by rw[bA,hvl];exact cI hmul,?_⟩
   rcases cE hown with ⟨c1,c2,c3,_⟩ | ⟨g,cur,c1,c2,c3,c4,c5,c6,c7⟩
   ·left
    have:i=0:=by omega
    subst this
    simp[Core.head,c1]
   right
   refine ⟨g,i,cur,by simp[Core.head,c1],aI _,c3,aM _,by omega,bI (aU _ (by omega)) c6,?_⟩
   rw[<- c7,gA]
   congr 1
   exact (cI hmul).symm
  obtain ⟨L',w',hr,hown2,hg,hfr⟩:=nN (P:=P) (w:=w) (t:=t) (ty:=ty0) hu hi hz hb1 hzs hown' hsrc hn (hfit _ hn)
  obtain ⟨h1,h2,h3,h4,h5⟩:=hg
  have hL:L'.len=i+ys.length:=by
   rcases cE hown2 with ⟨_,_,e3,e4⟩ | ⟨g,cur,_,e2,_⟩<;>omega
  have hvj:ver nm=v:=hv
  have htl:(xs.take i).length=i:=by rw[bA];omega
  have ht:=hI.turn (w':=w') (H':=hset H nm (.vec (v+1) ty (xs.take i++ys) e)) (loc':=upd loc nm L') (ver':=upd ver nm (v+1)) nm (by simp[hset]) (fun k hk=>⟨bS hk,cR _ _ _ hk,cR _ _ _ hk⟩)
   (fun _=>dF (aN hlt) rfl) (fun _=>.inr ⟨by omega,by rw[aV];omega⟩) h4 h1 h2 h3 (by rw[hn'];intro h;cases h) (fun _=>by rw[show hset H nm _=H.set nm _ from rfl,aN hlt];intro h;cases h) (fun st n it b h=>by rw[show hset H nm (.vec (v+1) ty (xs.take i++ys) e)=H.set nm _ from rfl,aN hlt] at h;cases h) (fun b hb hne=>h5 b hb (by
    intro e
    exact hne _ hn' (by simp only[Owns];exact e.symm)))
   (by
    intro o' b ho' hb
    rw[show hset H nm (.vec (v+1) ty (xs.take i++ys) e)=H.set nm _ from rfl,aN hlt] at ho';cases ho'
    rw[aV] at hb
    rcases hfr b hb with h | h
    ·exact .inl ⟨_,hn',h⟩
    exact .inr h)
   (by
    intro hx' o' ho'
    rw[show hset H nm (.vec (v+1) ty (xs.take i++ys) e)=H.set nm _ from rfl,aN hlt] at ho';cases ho'
    rw[aV,aV]
    refine ⟨rfl,gP _,by rw[hL,aQ,htl],by rw[hL];exact hfit _ hn,vs.take (i*ty.size)++news,by rw[hL];exact hown2,fun m hm=>?_⟩
    rw[hL] at hm
    refine pX (t:=ty) (xs:=xs.take i) (ys:=ys) (ok':=fun _=>True) ?_ (fun m hm=>?_) hsrc.len (fun m hm=>(hsrc.rd m hm).mono hx'.cell hx'.ok) m (by rw[htl];exact hm)
    ·rw[htl];exact hown'.1
    rw[htl] at hm
    have hm1:(m+1)*ty.size<=i*ty.size:=aU _ hm
    rw[bU,dV] at hm1
    have e1:List.getD (α:=ty.T) (xs.take i) m ty.dflt=List.getD (α:=ty.T) xs m ty.dflt:=by
     simp[aB,aJ,hm]
    have e2:((vs.take (i*ty.size)).drop (m*ty.size)).take ty.size=(vs.drop (m*ty.size)).take ty.size:=by
     rw[nT,gA]
     congr 1;omega
    rw[e2]
    exact (show List.getD (α:=ty.T) (xs.take i) m ty.dflt= _ from e1) ▸ (hel m (by show m<(loc nm).len;omega)).mono hx'.cell hx'.ok)
  refine ⟨_,_,hr,_,_,_,_,hk,ht.1,?_,ht.2⟩
  refine .ref _ _ _ (by exact dF (aN hlt) rfl) (gP _) (by simp[envOf,aV]) fun _=>?_
  simp[envOf,aV]
theorem aFv (hI:Inv G H loc ver w) {t ty0:TypeId} {s x:SV} {p q:Value} {K:SV->List HO->Prop} (h:aH9 P t H s x K) (hs:Rel (envOf G H loc ver w) s p) (hx:Rel (envOf G H loc ver w) x q):
  ∃v w',(Builtin.append_ #[t,t] ty0 #[p,q]).run P w= .ok v w'/\Res G (envOf G H loc ver w) K v w':=by
 unfold aH9 at h
 split at h
 case h_2=>
  rename_i e nm k i z he
  exact aFu hI (dM he) h hs hx
 case h_3=>exact h.elim
 rename_i e nm k i z he
 have hu:=dM he
 split at h
 case h_2=>exact h.elim
 rename_i inf v ty xs e' hi ho
 have h':=aW h
 clear h
 obtain ⟨hb,h⟩:=h'
 simp only[aE,bH] at hb
 obtain ⟨⟨rfl,rfl⟩,hsz,rfl⟩:=hb
 obtain ⟨ys,⟨hfit,hk⟩,a,c,news,hsrc⟩:=aKh hI h hx
 rw[bQ] at hk
 have hso:=aR ho (by simp)
 have hO:=hI.objs nm _ hso
 obtain ⟨hv,hv0,hlen,hmax,vs,hown,hel⟩:=hO
 have hlen':(loc nm).len=List.length (α:=ty.T) xs:=hlen
 cases hs with
 | part _ _ _ _ _ _ hn h0 hkk hq=>
  obtain ⟨_,hj,rfl⟩:=hq hv.symm
  have hj:i<=(loc nm).len:=hj
  have hlt:nm<H.length:=fU hn
  have hval:=hsrc.val
  subst hval
  have hcap:(loc nm).len<=(loc nm).cap:=by
   rcases cE hown with ⟨_,c1,c2,_⟩ | ⟨g,cur,c1,c2,c3,c4,c5,c6,c7⟩
   ·omega
   exact c4
  by_cases hz:ys.length=0
  ·have e0:ys= []:=bW hz
   subst e0
   rw[aKi,aGk hso] at hk
   refine ⟨_,w,aCl (P:=P) hu hi _ (by show i-0<=(loc nm).cap-0;omega) a c,Res.pure hI hk ?_⟩
   exact .part nm v 0 (i+0) _ _ hn h0 hkk fun _=>⟨aI _,hj,rfl⟩
  rcases cE hown with ⟨_,c1,c2,_⟩ | ⟨g,cur,c1,c2,c3,c4,c5,c6,c7⟩
  ·omega
  obtain ⟨ad,rfl⟩:∃ad,a=some ad:=by
   cases a with
   | none=>exact absurd (hsrc.none rfl) hz
   | some ad=>exact ⟨ad,rfl⟩
  have c3':w.heap[g]? =some (.cells cur e (0,0)):=c3
  have hm1:(i+ys.length)*ty.size<=(loc nm).cap*ty.size:=aU _ (by omega)
  have hm2:=bU i ys.length ty.size
  have hadr:(if ((envOf G H loc ver w).loc nm).cap=0 then ((envOf G H loc ver w).loc nm).blk.map (fun p=>(⟨p.1,p.2,none⟩:Addr)) else (((envOf G H loc ver w).loc nm).blk.map fun p=>(⟨p.1,p.2,none⟩:Addr)).map (·.add (0*ty.size)))=some ⟨g,0,none⟩:=by
   show (if (loc nm).cap=0 then (loc nm).blk.map _ else ((loc nm).blk.map _).map _)= _
   rw[c1]
   exact aD5
  have hrun:=run_append_room (P:=P) w t ty0 e inf hu hi g (i-0) ((loc nm).cap-0) cur c3' ad ys.length c news (by rw[hsz];exact hsrc.len) (hsrc.cell ad rfl) (aD6 hsrc.len hsrc.rd) (by omega) (by rw[hsz,hsrc.len,jO];omega)
  rw[hadr]
  refine ⟨_,_,hrun,?_⟩
  have hf:=aPd hI hso hlt (i:=i) (ys:=ys) (news:=news) c1 c3' hsrc.len hfit hsrc.rd
  have ew:(cur.toList.take ((i-0)*inf.size)++news++cur.toList.drop ((i-0)*inf.size+news.length)).toArray=(layL cur.toList (i*ty.size) news).toArray:=by
   rw[hsz,jO];simp[layL]
  rw[ew]
  refine ⟨_,_,_,_,hk,hf.1,?_,hf.2⟩
  refine .part nm v 0 (i+ys.length) _ _ (by exact dF (aN hlt) rfl) h0 hkk fun _=>⟨aI _,?_,?_⟩
  ·show i+ys.length<=(loc nm).len;omega
  show _=Value.slice (if (loc nm).cap=0 then (loc nm).blk.map _ else ((loc nm).blk.map _).map _) _ _
  rw[c1,aD5]
  simp only[jO]
  rfl
theorem aFw {z:Array Value} {n j:Nat} (hz:0<z.size) (hj:j<n*z.size):(Builtin.zeroCells z n).toList[j]? =z.toList[j%z.size]? :=by
 have h2:=eT j hz
 simp[Builtin.zeroCells,hj,h2]
theorem aD7 {z:Array Value} {n m:Nat} (hz:0<z.size) (hm:m<n):((Builtin.zeroCells z n).toList.drop (m*z.size)).take z.size=z.toList:=by
 apply cK
 intro q
 rw[aJ]
 by_cases hq:q<z.size
 ·have h1:(m+1)*z.size<=n*z.size:=aU _ hm
  rw[bU,dV] at h1
  rw[aD hq,aT,aFw hz (by omega),gB,Nat.mul_add_mod,fQ hq]
 rw[aC hq,bN (by simpa using hq)]
theorem aFx (hI:Inv G H loc ver w) {t ty0:TypeId} {x:SV} {p:Value} {K:List HO->Prop} (h:aIb P t H x K) (hx:Rel (envOf G H loc ver w) x p):
  ∃w',(Builtin.clear_ #[t] ty0 #[p]).run P w= .ok (.tuple #[]) w'/\∃H' loc' ver',K H'/\Inv G H' loc' ver' w'/\Ext (envOf G H loc ver w) (envOf G H' loc' ver' w'):=by
 unfold aIb at h
 split at h
 case h_2=>exact h.elim
 rename_i e nm k i j z he
 have hu:=dM he
 split at h
 case h_2=>exact h.elim
 rename_i inf zz v ty xs e' hi hzz ho
 have h':=aW h
 clear h
 obtain ⟨hb,h⟩:=h'
 simp only[aE,bH] at hb
 obtain ⟨⟨rfl,rfl⟩,hsz,rfl,hko,hzl⟩:=hb
 split at h
 case h_2=>exact h.elim
 rename_i x0 hd
 rw[bQ] at h
 have hso:=aR ho (by simp)
 have hO:=hI.objs nm _ hso
 obtain ⟨hv,hv0,hlen,hmax,vs,hown,hel⟩:=hO
 have hlen':(loc nm).len=List.length (α:=ty.T) xs:=hlen
 obtain ⟨zv,hzr,rfl⟩:=oG hzz w
 have hzs:zv.cells.size=ty.size:=by simpa using hzl
 have hpos:=ty.size_pos
 cases hx with
 | part _ _ _ _ _ _ hn h0 hkk hq=>
  obtain ⟨hij,hj,rfl⟩:=hq hv.symm
  have hj:j<=(loc nm).len:=hj
  have hlt:nm<H.length:=fU hn
  by_cases hz:j-i=0
  ·rw[hz]
   rw[hz] at h
   have e0:layL xs i (List.replicate 0 x0)=xs:=aKi xs i
   rw[e0,aGk hso] at h
   refine ⟨w,?_,_,_,_,h,hI,Ext.refl _⟩
   generalize (if ((envOf G H loc ver w).loc nm).cap=i then _ else _)=A
   cases A<;>simp[Builtin.clear_,run_underlying hu]
  rcases cE hown with ⟨_,c1,c2,_⟩ | ⟨g,cur,c1,c2,c3,c4,c5,c6,c7⟩
  ·omega
  have c3':w.heap[g]? =some (.cells cur e (0,0)):=c3
  have hadr:(if ((envOf G H loc ver w).loc nm).cap=i then ((envOf G H loc ver w).loc nm).blk.map (fun p=>(⟨p.1,p.2,none⟩:Addr)) else (((envOf G H loc ver w).loc nm).blk.map fun p=>(⟨p.1,p.2,none⟩:Addr)).map (·.add (i*ty.size)))=some ⟨g,i*ty.size,none⟩:=by
   show (if (loc nm).cap=i then (loc nm).blk.map _ else ((loc nm).blk.map _).map _)= _
   rw[c1]
   exact aQq (by omega)
  rw[hadr]
  have hnl:(Builtin.zeroCells zv.cells (j-i)).toList.length=(List.replicate (j-i) x0).length*ty.size:=by
   rw[cC,fA,size_zeroCells,hzs]
  have hfit:i+(List.replicate (j-i) x0).length<=xs.length:=by rw[cC];omega
  have hrd:∀m,m<(List.replicate (j-i) x0).length->Reads w (okN G H loc w) ty (List.getD (α:=ty.T) (List.replicate (j-i) x0) m ty.dflt) (((Builtin.zeroCells zv.cells (j-i)).toList.drop (m*ty.size)).take ty.size):=by
   intro m hm
   rw[cC] at hm
   have e1:List.getD (α:=ty.T) (List.replicate (j-i) x0) m ty.dflt=x0:=by
    rw[aB,bR,aD hm];rfl
   rw[e1,<- hzs,aD7 (by omega) hm]
   exact oF (E:=envOf G H loc ver w) (pD _ _) hd hko
  have hm1:(i+(List.replicate (j-i) x0).length)*ty.size<=(loc nm).cap*ty.size:=aU _ (by omega)
  have hm2:=bU i (List.replicate (j-i) x0).length ty.size
  have hst:=run_storeCells_at P g (i*ty.size) e (Builtin.zeroCells zv.cells (j-i)).toList 0 cur w c3' (by rw[hnl];omega) (aD6 hnl hrd)
  have ew:(cur.toList.take (i*ty.size+0)++(Builtin.zeroCells zv.cells (j-i)).toList++cur.toList.drop (i*ty.size+0+(Builtin.zeroCells zv.cells (j-i)).toList.length)).toArray=(layL cur.toList (i*ty.size) (Builtin.zeroCells zv.cells (j-i)).toList).toArray:=by simp only[Nat.add_zero,layL,bZ]
  rw[ew] at hst
  have hf:=aPd hI hso hlt (i:=i) (ys:=List.replicate (j-i) x0) c1 c3' hnl hfit hrd
  refine ⟨_,?_,_,_,_,h,hf.1,hf.2⟩
  obtain ⟨r,hr⟩:∃r,j-i=r+1:=⟨j-i-1,by omega⟩
  rw[hr] at hst ⊢
  simp[Builtin.clear_,run_underlying hu,hzr,hst]
end
end Go.Eng
end
section
namespace Go.Eng
open Go.RowKit Go.MapKept
open Go.ChangeMaps (setBlock)
theorem EntsR.length {w:World} {ok:Nat->Prop} {k:IntKind} {t:Ty}:∀ {xs:List (Nat × Int × t.T)} {es:List MapEntry},EntsR w ok k t xs es->xs.length=es.length
 | [],[],_=>rfl
 | _:: _,_:: _,h=>by simp[EntsR.length h.2]
theorem EntsR.append {w:World} {ok:Nat->Prop} {k:IntKind} {t:Ty}:∀ {xs:List (Nat × Int × t.T)} {es:List MapEntry},EntsR w ok k t xs es->∀ {ys fs},EntsR w ok k t ys fs->EntsR w ok k t (xs++ys) (es++fs)
 | [],[],_,_,_,h=>h
 | _:: _,_:: _,h,_,_,h'=>⟨h.1,h.2.append h'⟩
theorem EntsR.mem {w:World} {ok:Nat->Prop} {k:IntKind} {t:Ty}:∀ {xs:List (Nat × Int × t.T)} {es:List MapEntry},EntsR w ok k t xs es->∀e∈es,∃x∈xs,e.born=x.1/\e.key= .int k x.2.1/\inK k x.2.1/\Reads w ok t x.2.2 [e.val]
 | [],[],_,e,he=>by simp at he
 | x::r,e₀::r',h,e,he=>by
  rcases bE.1 he with rfl | he
  ·exact ⟨x,by simp,h.1⟩
  obtain ⟨y,h1,h2⟩:=h.2.mem e he;exact ⟨y,by simp[h1],h2⟩
theorem EntsR.find {w:World} {ok:Nat->Prop} {k:IntKind} {t:Ty} {n:Int}:∀ {xs:List (Nat × Int × t.T)} {es:List MapEntry},EntsR w ok k t xs es->∀i,
  (sN xs n=none/\Instr.findNow (.int k) (.int k n) es i=some none/\delK xs n=xs)\/
  ∃j x e,sN xs n=some x.2.2/\Instr.findNow (.int k) (.int k n) es i=some (some (i+j,e.val))/\xs[j]? =some x/\es[j]? =some e/\x.2.1=n/\(∀y,setK xs n y=xs.set j (x.1,n,y))/\delK xs n=xs.eraseIdx j
 | [],[],_,i=>.inl ⟨rfl,rfl,rfl⟩
 | x::r,e::r',h,i=>by
  obtain ⟨⟨h1,h2,h3,h4⟩,h5⟩:=h
  by_cases hn:x.2.1=n
  ·refine .inr ⟨0,x,e,by simp[sN,hn],?_,rfl,rfl,hn,fun y=>by simp[setK,hn],by simp[delK,hn]⟩
   simp[Instr.findNow,h2,Instr.sameNow,hn]
  have hs:Instr.sameNow (.int k) (.int k n) e.key=some false:=by simp[h2,Instr.sameNow];exact fun e=>hn e.symm
  rcases h5.find (n:=n) (i+1) with ⟨g1,g2,g3⟩ | ⟨j,y,f,g1,g2,g3,g4,g5,g6,g7⟩
  ·exact .inl ⟨by simp[sN,hn,g1],by simp[Instr.findNow,hs,g2],by simp[delK,hn,g3]⟩
  exact .inr ⟨j+1,y,f,by simp[sN,hn,g1],by simp[Instr.findNow,hs,g2];omega,by simpa using g3,by simpa using g4,g5,fun z=>by simp[setK,hn,g6],by simp[delK,hn,g7]⟩
theorem EntsR.get {w:World} {ok:Nat->Prop} {k:IntKind} {t:Ty}:∀ {xs:List (Nat × Int × t.T)} {es:List MapEntry},EntsR w ok k t xs es->∀ {j:Nat} {x:Nat × Int × t.T} {e:MapEntry},xs[j]? =some x->es[j]? =some e->e.born=x.1/\e.key= .int k x.2.1/\inK k x.2.1/\Reads w ok t x.2.2 [e.val]
 | _:: _,_:: _,h,0,_,_,h1,h2=>by simp at h1 h2;subst h1;subst h2;exact h.1
 | _:: _,_:: _,h,j+1,_,_,h1,h2=>h.2.get (by simpa using h1) (by simpa using h2)
theorem EntsR.set {w:World} {ok:Nat->Prop} {k:IntKind} {t:Ty}:∀ {xs:List (Nat × Int × t.T)} {es:List MapEntry},EntsR w ok k t xs es->∀(j:Nat) {x:Nat × Int × t.T} {e:MapEntry},(e.born=x.1/\e.key= .int k x.2.1/\inK k x.2.1/\Reads w ok t x.2.2 [e.val])->EntsR w ok k t (xs.set j x) (es.set j e)
 | [],[],_,_,_,_,_=>trivial
 | _:: _,_:: _,h,0,_,_,h'=>⟨h',h.2⟩
 | _:: _,_:: _,h,j+1,_,_,h'=>⟨h.1,h.2.set j h'⟩
theorem EntsR.erase {w:World} {ok:Nat->Prop} {k:IntKind} {t:Ty}:∀ {xs:List (Nat × Int × t.T)} {es:List MapEntry},EntsR w ok k t xs es->∀(j:Nat),EntsR w ok k t (xs.eraseIdx j) (es.eraseIdx j)
 | [],[],_,_=>trivial
 | _:: _,_:: _,h,0=>h.2
 | _:: _,_:: _,h,j+1=>⟨h.1,h.2.erase j⟩
section
variable {α:Type}
theorem yF {xs:List (Nat × Int × α)} {n:Int} (h:sN xs n=none):∀e∈xs,e.2.1≠n:=by
 induction xs with
 | nil=>intro e he;simp at he
 | cons x r ih=>
  intro e he
  simp only[sN] at h
  split at h
  ·cases h
  rename_i hne
  rcases bE.1 he with rfl | he
  ·exact hne
  exact ih h e he
theorem aLe (xs:List (Nat × Int × α)) (n:Int) (x:α):(setK xs n x).map (·.1)=xs.map (·.1)/\(setK xs n x).map (·.2.1)=xs.map (·.2.1):=by
 induction xs with
 | nil=>exact ⟨rfl,rfl⟩
 | cons e r ih=>
  simp only[setK]
  split
  ·rename_i h;simp[h]
  simp[ih]
theorem aLf (xs:List (Nat × Int × α)) (n:Int) (x:α):(setK xs n x).length=xs.length:=by
 have:=aO List.length (aLe xs n x).1
 simpa using this
theorem MapS.Wf.new:(MapS.new:MapS α).Wf:=⟨by simp[MapS.new],by simp[MapS.new],by simp[MapS.new]⟩
theorem MapS.Wf.put {m:MapS α} (h:m.Wf) (n:Int) (x:α):(m.put n x).Wf:=by
 unfold MapS.put
 cases hf:sN m.es n with
 | some y=>
  obtain ⟨e1,e2⟩:=aLe m.es n x
  refine ⟨fun e he=>?_,?_,?_⟩
  ·have:e.1∈(setK m.es n x).map (·.1):=jN.2 ⟨e,he,rfl⟩
   rw[e1] at this
   obtain ⟨y,hy,hz⟩:=jN.1 this
   rw[<- hz];exact h.born y hy
  ·have:=jP.2 h.times
   rw[<- e1] at this
   exact jP.1 this
  have:=jP.2 h.keys
  rw[<- e2] at this
  exact jP.1 this
 | none=>
  refine ⟨fun e he=>?_,?_,?_⟩
  ·simp only[bK,bC] at he
   rcases he with he | rfl
   ·exact lM (h.born e he)
   exact cS _
  ·refine fR.2 ⟨h.times,by simp,fun a ha b hb=>?_⟩
   simp only[bC] at hb
   subst hb
   exact qH (h.born a ha)
  refine fR.2 ⟨h.keys,by simp,fun a ha b hb=>?_⟩
  simp only[bC] at hb
  subst hb
  exact yF hf a ha
theorem MapS.put_length (m:MapS α) (n:Int) (x:α):(m.put n x).es.length<=m.es.length+1:=by
 unfold MapS.put
 split
 ·simp[aLf]
 simp
end
section
variable {P:Program} {G:Ctx} {H:List HO} {loc:Nat->Loc} {ver:Nat->Nat} {w:World}
theorem aG3 {t et:TypeId} {k:IntKind} (h:aJ1 P t=some (k,et)):∃kt,P.underlying t=some (.map kt et)/\P.underlying kt=some (.int k):=by
 unfold aJ1 at h
 split at h
 ·rename_i kt et' hu
  split at h
  ·rename_i k' hk
   cases h
   exact ⟨kt,hu,hk⟩
  cases h
 cases h
theorem aUb (hI:Inv G H loc ver w) {nm:Nat} {k:IntKind} {t:Ty} {m:MapS t.T} (ho:hget H nm= .map k t m) {v:Value} (hv:Rel (envOf G H loc ver w) (.mp nm) v):
  m.Wf/\m.es.length<=maxL/\∃b es,(loc nm).blk=some (b,0)/\v= .map (some b)/\w.heap[b]? =some (.map ⟨es⟩ m.clock)/\EntsR w (okN G H loc w) k t m.es es:=by
 obtain ⟨h0,h1,h2,b,es,h3,h4,h5⟩:=hI.objs nm _ (aR ho (by simp))
 cases hv with
 | mp _ _ hn hp=>
  obtain ⟨b',h6,h7⟩:=hp h0
  have h6:(loc nm).blk=some (b',0):=h6
  rw[h3] at h6;cases h6
  exact ⟨h1,h2,b,es,h3,h7,h4,h5⟩
theorem aWj {E:Env} {t:Ty} (ht:∃v:Value,True) {x:t.T} {v:Value} (h:Reads E.w E.ok t x [v]):Rel E (one (enc t x)) v:=by
 have hl:=h.length
 have he:=aM7 t x
 have hr:=h.enc
 cases hc:enc t x with
 | nil=>rw[hc] at hr;cases hr
 | cons s r=>
  rw[hc] at hr he
  cases r with
  | nil=>exact (by simpa [one] using (by obtain ⟨u,e,hu⟩:=hr.one;cases e;exact hu))
  | cons s' r'=>cases hr with
   | cons _ _ _ _ _ h2=>cases h2
theorem aNp {E:Env} {et:TypeId} {z:SV} {t:Ty} {d:t.T} (hz:aDv P et=some z) (hd:dec t [z]=some d) (hk:mG t [z]=true):∃v:Value,(zeroValue et).run P w= .ok v w/\Reads E.w E.ok t d [v]:=by
 unfold aDv at hz
 split at hz
 ·rename_i i hi
  split at hz
  ·cases hz
  ·rename_i v hv hna
   cases hz
   exact ⟨v,by simp[zeroValue,typeInfo,hi,hna],oF (.cons _ _ _ _ (aIt E v) .nil) hd hk⟩
  cases hz
 cases hz
theorem aE3 (hI:Inv G H loc ver w) {t:TypeId} {K:SV->List HO->Prop} (h:aDw P t H K):∃v w',(Instr.makeMap t none).run P w= .ok v w'/\Res G (envOf G H loc ver w) K v w':=by
 unfold aDw at h
 split at h
 ·rename_i k et ht
  split at h
  ·rename_i ty hty
   obtain ⟨h1,hK⟩:=aW h
   rw[bQ] at hK
   refine ⟨.map (some w.heap.size),w.alloc (.map #[] 0),by simp[Instr.makeMap,Result.andThen],?_⟩
   have hf:=hI.fresh (w':=w.alloc (.map #[] 0)) (.map k ty .new) (mkL (some (w.heap.size,0)) 0 0) 0 (by simp) rfl rfl rfl (fun b hb=>(heap_alloc w _).2 b hb)
    (fun b hb=>by simp[Owns] at hb;omega) (fun _=>⟨rfl,MapS.Wf.new,aI _,w.heap.size,[],rfl,(heap_alloc w _).1,trivial⟩)
   exact ⟨_,_,_,_,hK,hf.1,.mp _ _ (by exact jM rfl) fun _=>⟨w.heap.size,by simp[envOf,aV],rfl⟩,hf.2⟩
  exact h.elim
 exact h.elim
theorem aCt {s:SV} {K:SV->Prop} (h:hnf s K):K s:=by rwa [iU] at h
theorem aF5 (hI:Inv G H loc ver w) {t:TypeId} {ok:Bool} {x i:SV} {p q:Value} {K:SV->Prop} (h:aIh P t ok H x i K) (hx:Rel (envOf G H loc ver w) x p) (hi:Rel (envOf G H loc ver w) i q):
  ∃v s,(Instr.lookup t p q ok).run P w= .ok v w/\K s/\Rel (envOf G H loc ver w) s v:=by
 unfold aIh at h
 split at h
 ·rename_i nm k n k' et hm
  split at h
  ·rename_i k'' ty m z ho hz
   obtain ⟨hb,hq⟩:=aW h
   clear h
   simp only[aE,lL] at hb
   obtain ⟨⟨⟨rfl,rfl⟩,h1⟩,hko⟩:=hb
   split at hq
   ·rename_i d hd
    obtain ⟨rfl,hk⟩:=hi.int_inv
    obtain ⟨hwf,hlen,b,es,hblk,rfl,hheap,hE⟩:=aUb hI ho hx
    obtain ⟨kt,hu,huk⟩:=aG3 hm
    have hck:(Instr.checkKey es.isEmpty 10000 kt (.int k n)).run P w= .ok () w:=run_checkKey (w:=w) huk (show IsKey (.int k) (.int k n) from rfl) es.isEmpty 9999
    have key:∃v,(Instr.lookup t (.map (some b)) (.int k n) ok).run P w= .ok (if ok then .tuple #[v,.bool (m.get n).isSome] else v) w/\Reads w (okN G H loc w) ty ((m.get n).getD d) [v]:=by
     rcases hE.find (n:=n) 0 with ⟨g1,g2,g3⟩ | ⟨j,y,f,g1,g2,g3,g4,g5,g6,g7⟩<;>(try rw[dB] at g2)
     ·obtain ⟨v,hv,hr⟩:=aNp (w:=w) (E:=envOf G H loc ver w) hz hd hko
      refine ⟨v,?_,by simp only[MapS.get,g1];exact hr⟩
      have hfk:=run_findKey (w:=w) (l:=es) huk g2
      cases ok<;>simp[Instr.lookup,run_underlying hu,MapKept.run_getObj_map hheap,hck,hfk,hv,MapS.get,g1,Result.andThen]
     refine ⟨f.val,?_,by simp only[MapS.get,g1];exact (hE.get g3 g4).2.2.2⟩
     have hfk:=run_findKey (w:=w) (l:=es) huk g2
     cases ok<;>simp[Instr.lookup,run_underlying hu,MapKept.run_getObj_map hheap,hck,hfk,MapS.get,g1,Result.andThen]
    obtain ⟨v,hrun,hr⟩:=key
    have h:=hr.giv hq
    have h9:Rel (envOf G H loc ver w) (one (enc ty ((m.get n).getD d))) v:=aWj ⟨v,trivial⟩ hr
    cases ok with
    | false=>exact ⟨v,_,by simpa using hrun,aCt h,h9⟩
    | true=>
     have h8:=aCt (K:=fun v=>K (.tup [v,.bl ((m.get n).isSome=true) inferInstance])) h
     refine ⟨_,_,by simpa using hrun,h8,.tup _ _ (.cons _ _ _ _ h9 (.cons _ _ _ _ ?_ .nil))⟩
     have:(Value.bool (m.get n).isSome)= .bool (decide ((m.get n).isSome=true)):=by simp
     rw[this];exact .bl _ _
   exact hq.elim
  exact h.elim
 exact h.elim
theorem aLg (hI:Inv G H loc ver w) {nm:Nat} {k:IntKind} {t:Ty} {m m':MapS t.T} (ho:hget H nm= .map k t m) {b:Nat} {es es':List MapEntry} (hblk:(loc nm).blk=some (b,0)) (hheap:w.heap[b]? =some (.map ⟨es⟩ m.clock))
  (hwf:m'.Wf) (hlen:m'.es.length<=maxL) (hE:EntsR w (okN G H loc w) k t m'.es es'):
  Inv G (hset H nm (.map k t m')) loc ver (setBlock w b (.map ⟨es'⟩ m'.clock))/\Ext (envOf G H loc ver w) (envOf G (hset H nm (.map k t m')) loc ver (setBlock w b (.map ⟨es'⟩ m'.clock))):=by
 have hset:=heap_set (o':=.map ⟨es'⟩ m'.clock) hheap
 refine hI.inPlace (aR ho (by simp)) (b:=b) (by simp[Owns,hblk]) (fun b' hb'=>hb') (by simp[setBlock]) rfl rfl rfl (fun b' hb'=>hset.2 b' hb') fun hx=>?_
 have hv:=(hI.objs nm _ (aR ho (by simp))).1
 exact ⟨hv,hwf,hlen,b,es',hblk,hset.1,hE.mono hx.cell hx.ok⟩
theorem aBc (hI:Inv G H loc ver w) {t:TypeId} {x i y:SV} {p q r:Value} {K:List HO->Prop} (h:yI P t H x i y K) (hx:Rel (envOf G H loc ver w) x p) (hi:Rel (envOf G H loc ver w) i q) (hy:Rel (envOf G H loc ver w) y r):
  ∃H' w',(Instr.mapUpdate t p q r).run P w= .ok () w'/\K H'/\Inv G H' loc ver w'/\Ext (envOf G H loc ver w) (envOf G H' loc ver w'):=by
 unfold yI at h
 split at h
 ·rename_i nm k n k' et hm
  split at h
  ·rename_i k'' ty m ho
   obtain ⟨hb,hq⟩:=aW h
   clear h
   simp only[aE,lL] at hb
   obtain ⟨⟨⟨rfl,rfl⟩,h1⟩,hko⟩:=hb
   split at hq
   ·rename_i d hd
    obtain ⟨hroom,hK⟩:=hq
    rw[bQ] at hK
    obtain ⟨rfl,hk⟩:=hi.int_inv
    obtain ⟨hwf,hlen,b,es,hblk,rfl,hheap,hE⟩:=aUb hI ho hx
    obtain ⟨kt,hu,huk⟩:=aG3 hm
    have hck:(Instr.checkKey false 10000 kt (.int k n)).run P w= .ok () w:=run_checkKey (w:=w) huk (show IsKey (.int k) (.int k n) from rfl) false 9999
    have hr:Reads w (okN G H loc w) ty d [r]:=oF (E:=envOf G H loc ver w) (.cons _ _ _ _ hy .nil) hd hko
    have hlen':(m.put n d).es.length<=maxL:=bI (m.put_length n d) hroom
    rcases hE.find (n:=n) 0 with ⟨g1,g2,g3⟩ | ⟨j,z,f,g1,g2,g3,g4,g5,g6,g7⟩<;>(try rw[dB] at g2)
    ·have e:m.put n d= ⟨m.es++ [(m.clock,n,d)],m.clock+1⟩:=by simp[MapS.put,g1]
     have hfk:=run_findKey (w:=w) (l:=es) huk g2
     have ht:=aLg hI ho hblk hheap (es':=es++ [⟨.int k n,r,m.clock⟩]) (hwf.put n d) hlen' (by rw[e];exact hE.append ⟨⟨rfl,rfl,hk,hr⟩,trivial⟩)
     refine ⟨_,_,?_,hK,ht⟩
     simp[Instr.mapUpdate,run_underlying hu,MapKept.run_getObj_map hheap,hck,hfk,MapKept.run_setObj_map _ hheap,Result.andThen,setBlock,e]
    have e:m.put n d= ⟨m.es.set j (z.1,n,d),m.clock⟩:=by simp[MapS.put,g1,g6]
    have hfk:=run_findKey (w:=w) (l:=es) huk g2
    obtain ⟨q1,q2,q3,q4⟩:=hE.get g3 g4
    have hj:(⟨es⟩:Array MapEntry)[j]? =some f:=by simpa using g4
    have hfn:f.key= .int k n:=by rw[q2,g5]
    have ht:=aLg hI ho hblk hheap (es':=es.set j { f with key:=.int k n,val:=r }) (hwf.put n d) hlen' (by rw[e];exact hE.set j ⟨q1,rfl,hk,hr⟩)
    refine ⟨_,_,?_,hK,ht⟩
    have hmod:=ChangeMaps.modify_eq_set (fun e:MapEntry=>{ e with key:=Value.int k n,val:=r }) es j f g4
    have hst:=run_keyThatStays (P:=P) (w:=w) (d:=.int k) (k:=.int k n) rfl
    simp[Instr.mapUpdate,run_underlying hu,MapKept.run_getObj_map hheap,hck,hfk,hj,g4,hfn,hst,MapKept.run_setObj_map _ hheap,Result.andThen,setBlock,e,hmod]
   exact hq.elim
  exact h.elim
 exact h.elim
theorem aJa (hI:Inv G H loc ver w) {t:TypeId} {ts:Array TypeId} {ty':TypeId} {x i:SV} {p q:Value} {K:List HO->Prop} (h:aJ2 P t H x i K) (hts:ts[0]? =some t) (hx:Rel (envOf G H loc ver w) x p) (hi:Rel (envOf G H loc ver w) i q):
  ∃H' w',(Builtin.delete_ ts ty' #[p,q]).run P w= .ok (.tuple #[]) w'/\K H'/\Inv G H' loc ver w'/\Ext (envOf G H loc ver w) (envOf G H' loc ver w'):=False.elim h
theorem aJb (hI:Inv G H loc ver w) {t:TypeId} {x:SV} {p:Value} {K:SV->List HO->Prop} (h:aO4 P t H x K) (hx:Rel (envOf G H loc ver w) x p):
  ∃v w',(Instr.range t p).run P w= .ok v w'/\Res G (envOf G H loc ver w) K v w':=False.elim h
theorem aNq (hI:Inv G H loc ver w) {ty':TypeId} {x:SV} {p:Value} {K:SV->List HO->Prop} (h:aTi H x K) (hx:Rel (envOf G H loc ver w) x p):
  ∃v w',(Instr.next p false ty').run P w= .ok v w'/\Res G (envOf G H loc ver w) K v w':=False.elim h
theorem aLh (hI:Inv G H loc ver w) {x:SV} {p:Value} {K:SV->Prop} (h:aO5 H x K) (hx:Rel (envOf G H loc ver w) x p):
  ∃v s,(Instr.entry p).run P w= .ok v w/\K s/\Rel (envOf G H loc ver w) s v:=False.elim h
theorem aJc (hI:Inv G H loc ver w) {x:SV} {p:Value} {K:SV->Prop} (h:aJ3 H x K) (hx:Rel (envOf G H loc ver w) x p) {t:TypeId} {k e:TypeId} (hu:P.underlying t=some (.map k e)) {ts:Array TypeId} {ty':TypeId} (hts:ts[0]? =some t):
  ∃v s,(Builtin.len_ ts ty' #[p]).run P w= .ok v w/\K s/\Rel (envOf G H loc ver w) s v:=False.elim h
theorem rE {t kt:TypeId} (h:tP P t=some kt):∃et fs f g z,P.underlying t=some (.map kt et)/\P.underlying kt=some (.struct fs)/\fs.toList= [f,g]/\aDv P et=some z/\intF P f 0 .i64=true/\intF P g 1 .i64=true:=by
 unfold tP at h
 split at h
 ·rename_i kt' et hu
  split at h
  ·rename_i fs _ _ _ hs hf
   split at h
   ·rename_i f g z hfs hz
    cases hb:(intF P f 0 .i64&&intF P g 1 .i64) with
    | false=>rw[hb] at h;cases h
    | true=>
     rw[hb] at h
     cases h
     simp only[aE] at hb
     exact ⟨et,fs,f,g,z,hu,hs,hfs,hz,hb.1,hb.2⟩
   cases h
  cases h
 cases h
theorem aLi {f:Field} {off:Nat} (h:intF P f off .i64=true):f.offset=off/\P.underlying f.type=some (.int .i64):=by
 unfold intF at h
 simp only[aE] at h
 obtain ⟨h1,h2⟩:=h
 refine ⟨by simpa using h1,?_⟩
 split at h2
 ·rename_i q hq
  rw[hq,dI h2]
 cases h2
theorem aPo {n:Int} (h:inK .i64 n):(Lit.int .i64 n).wf=true:=by
 obtain ⟨h1,h2⟩:=h
 have h1: -9223372036854775808<=n:=h1
 have h2:n<=9223372036854775807:=h2
 simp only[Lit.wf,aE,lL]
 exact ⟨h1,h2⟩
theorem rF {t kt:TypeId} (h:tP P t=some kt) (hk:KeyOK P kt) {k:Int × Int} (h1:inK .i64 k.1/\inK .i64 k.2):∃l,keyOf P kt (keyV k)=some l:=by
 obtain ⟨et,fs,f,g,z,_,hs,hfs,_,hf,hg⟩:=rE h
 obtain ⟨f1,f2⟩:=aLi hf
 obtain ⟨g1,g2⟩:=aLi hg
 obtain ⟨i,hi⟩:=info_of_underlying f2
 have hall:∀x∈fs.toList,x.name≠ "_" :=fun x hx=>by
  have:=hk.key
  rw[show (2:Nat)=1+1 from rfl] at this
  unfold Program.keyTypeAt at this
  rw[hs] at this
  simp only[aE] at this
  have:=nU.1 this.1.1 x (Array.mem_toList_iff.1 hx)
  simp only[aE,bne_iff_ne,ne_eq] at this
  exact this.1
 have hsz:P.cellsOf f.type=1/\P.cellsOf g.type=1:=by
  have:=hk.tile
  rw[show (2:Nat)=1+1 from rfl] at this
  unfold Program.tiled at this
  rw[hs] at this
  simp only[aE,hfs,Program.runs] at this
  have h2:=this.1
  rw[hk.cells] at h2
  rw[aD f1,dB] at h2
  split at h2
  ·rename_i h3
   rw[g1] at h3
   simp at h2
   omega
  simp at h2
 obtain ⟨m,hm⟩:∃m,P.types.size=m+1:=⟨P.types.size-1,by have:=hk.types;omega⟩
 unfold keyOf
 rw[hs]
 simp only[keyV]
 rw[hk.typ]
 simp only[Value.formed,hs,hk.cells,eN,cW,mU,beq_self_eq_true,Bool.and_self,if_true]
 rw[hm]
 simp only[Program.keyLits,hs,Value.cells]
 rw[aD ⟨by simp[hk.cells],by
  rw[nU]
  intro x hx
  simpa using hall x (Array.mem_toList_iff.2 hx)⟩]
 rw[hfs]
 simp only[rO,List.mapM_nil,f1,g1,hsz.1,hsz.2,f2,g2]
 simp[aPo h1.1,aPo h1.2]
theorem aUc {a b:Int × Int} (h:keyV a=keyV b):a=b:=by
 simp only[keyV,Value.agg.injEq,Array.mk.injEq,List.cons.injEq,Value.int.injEq,true_and,and_true] at h
 exact gI h.1 h.2
theorem aE4 {t kt:TypeId} (h:tP P t=some kt) (hk:KeyOK P kt):WideMaps.KeyLaw P kt:=by
 obtain ⟨et,fs,f,g,z,_,hs,_⟩:=rE h
 exact deep_law (m:=2) (by decide) hk.key hk.tile (by rw[hs])
theorem KeysR.get {ks:List (Int × Int)} {es:List MapEntry} (h:KeysR ks es) {j:Nat} {e:MapEntry} (he:es[j]? =some e):∃k,ks[j]? =some k/\e.key=keyV k:=by
 have h1:(es.map (·.key))[j]? =some e.key:=by simp[he]
 rw[h.eq] at h1
 simp only[gZ,Option.map_eq_some_iff] at h1
 obtain ⟨k,h2,h3⟩:=h1
 exact ⟨k,h2,h3.symm⟩
theorem KeysR.len {ks:List (Int × Int)} {es:List MapEntry} (h:KeysR ks es):es.length=ks.length:=by
 have:=aO List.length h.eq
 simpa using this
theorem aLj {a b:Int}:∀ {ks:List (Int × Int)} {vs:List SV} {j:Nat},ks.Pairwise (· ≠ ·)->ks[j]? =some (a,b)->j<vs.length->findP ks vs a b=some (vs.getD j .any)/\hasP ks a b=true/\∀y,setP ks vs a b y=vs.set j y
 | k::r,v::r',0,_,hk,_=>by
  simp only[iA,jQ] at hk
  subst hk
  simp[findP,hasP,setP]
 | k::r,v::r',j+1,hp,hk,hl=>by
  obtain ⟨p1,p2⟩:=dY.1 hp
  have hm:(a,b)∈r:=gV (by simpa using hk)
  have hne:=p1 _ hm
  have hn:¬(k.1=a/\k.2=b):=fun h=>hne (gI h.1 h.2)
  obtain ⟨q1,q2,q3⟩:=aLj (vs:=r') p2 (by simpa using hk) (by simpa using hl)
  have hb:(decide (k.1=a)&&decide (k.2=b))=false:=by
   rw[<- pS];exact decide_eq_false hn
  refine ⟨by simp only[findP];rw[aC hn,q1];rfl,by simp only[hasP,hb,q2,Bool.false_or],fun y=>by simp only[setP,hb,cA,q3 y];rfl⟩
theorem aE5 {a b:Int}:∀ {ks:List (Int × Int)} {vs:List SV},(∀k∈ks,k≠(a,b))->findP ks vs a b=none/\hasP ks a b=false
 | [],vs,_=>by cases vs<;>simp[findP,hasP]
 | k::r,vs,h=>by
  have hne:=h k bO
  have hn:¬(k.1=a/\k.2=b):=fun h=>hne (gI h.1 h.2)
  have hb:(decide (k.1=a)&&decide (k.2=b))=false:=by
   rw[<- pS];exact decide_eq_false hn
  have ih:=fun vs=>aE5 (a:=a) (b:=b) (ks:=r) (vs:=vs) fun k hk=>h k (bT _ hk)
  refine ⟨?_,by simp only[hasP,hb,(ih []).2,Bool.or_self]⟩
  cases vs with
  | nil=>rfl
  | cons v r'=>simp only[findP];rw[aC hn];exact (ih r').1
theorem aBd {t kt:TypeId} (ht:tP P t=some kt) (hk:KeyOK P kt) {ks:List (Int × Int)} {vs:List SV} {es:List MapEntry} (h:KeysR ks es) (hl:vs.length=es.length) {a b:Int} (ha:inK .i64 a) (hb:inK .i64 b) (w:World):
  ((Instr.findKey kt (keyV (a,b)) es).run P w= .ok none w/\findP ks vs a b=none/\hasP ks a b=false/\∀k∈ks,k≠(a,b))\/
  ∃j e,(Instr.findKey kt (keyV (a,b)) es).run P w= .ok (some (j,e.val)) w/\es[j]? =some e/\ks[j]? =some (a,b)/\e.key=keyV (a,b)/\findP ks vs a b=some (vs.getD j .any)/\hasP ks a b=true/\∀y,setP ks vs a b y=vs.set j y:=by
 obtain ⟨lx,hx⟩:=rF ht hk (k:=(a,b)) ⟨ha,hb⟩
 have hall:∀e∈es,∃l,keyOf P kt e.key=some l:=fun e he=>by
  obtain ⟨j,hj,rfl⟩:=bV he
  obtain ⟨k,k1,k2⟩:=h.get (aH hj)
  rw[k2]
  exact rF ht hk (h.rng k (gV k1))
 rcases (aE4 ht hk).find w hx es hall with ⟨h1,h2⟩ | ⟨j,e,h1,h2,h3⟩
 ·refine .inl ⟨h1,?_⟩
  have hne:∀k∈ks,k≠(a,b):=fun k hk' e=>by
   subst e
   obtain ⟨j,hj,e1⟩:=bV hk'
   have hj2:j<es.length:=by rw[h.len];exact hj
   obtain ⟨k,k1,k2⟩:=h.get (aH hj2)
   rw[aH hj,e1] at k1
   cases k1
   exact h2 _ (cU hj2) k2
  obtain ⟨f1,f2⟩:=aE5 (vs:=vs) hne
  exact ⟨f1,f2,hne⟩
 refine .inr ⟨j,e,h1,h2,?_⟩
 obtain ⟨k,k1,k2⟩:=h.get h2
 rw[h3] at k2
 have:=aUc k2
 subst this
 have hj:=(aK.1 h2).1
 obtain ⟨q1,q2,q3⟩:=aLj (vs:=vs) h.nd k1 (by omega)
 exact ⟨k1,h3,q1,q2,q3⟩
theorem aE6 {E:Env} {a b:Int} {q:Value} (h:Rel E (.agg [.val (.int .i64 a),.val (.int .i64 b)]) q):q=keyV (a,b)/\inK .i64 a/\inK .i64 b:=by
 cases h with
 | agg _ vs hl=>
  cases hl with
  | cons _ _ _ _ h1 h2=>
   cases h2 with
   | cons _ _ _ _ h3 h4=>
    cases h4
    obtain ⟨rfl,k1⟩:=h1.int_inv
    obtain ⟨rfl,k2⟩:=h3.int_inv
    exact ⟨rfl,k1,k2⟩
theorem aG4 {et:TypeId} {z:SV} (hz:aDv P et=some z) (w:World):∃v,(zeroValue et).run P w= .ok v w:=by
 unfold aDv at hz
 split at hz
 ·rename_i i hi
  split at hz
  ·cases hz
  ·rename_i v hv hna
   exact ⟨v,by simp[zeroValue,typeInfo,hi,hna]⟩
  cases hz
 cases hz
theorem aF6 (hI:Inv G H loc ver w) {t:TypeId} {K:SV->List HO->Prop} (h:aA2 P t H K):∃v w',(Instr.makeMap t none).run P w= .ok v w'/\Res G (envOf G H loc ver w) K v w':=by
 unfold aA2 at h
 split at h
 ·rw[bQ] at h
  refine ⟨.map (some w.heap.size),w.alloc (.map #[] 0),by simp[Instr.makeMap,Result.andThen],?_⟩
  have hf:=hI.fresh (w':=w.alloc (.map #[] 0)) (.qm [] []) (mkL (some (w.heap.size,0)) 0 0) 0 (by simp) rfl rfl rfl (fun b hb=>(heap_alloc w _).2 b hb)
   (fun b hb=>by simp[Owns] at hb;omega) (fun _=>⟨rfl,aI _,rfl,w.heap.size,[],0,rfl,(heap_alloc w _).1,⟨⟨rfl,fun k hk=>(by cases hk),List.Pairwise.nil⟩,rfl,rfl⟩,.nil⟩)
  exact ⟨_,_,_,_,h,hf.1,.mp _ _ (by exact jM rfl) fun _=>⟨w.heap.size,by simp[envOf,aV],rfl⟩,hf.2⟩
 exact aE3 hI h
theorem aJd (hI:Inv G H loc ver w) {t:TypeId} {ok:Bool} {x i:SV} {p q:Value} {K:SV->Prop} (h:aDx P t ok H x i K) (hx:Rel (envOf G H loc ver w) x p) (hi:Rel (envOf G H loc ver w) i q):
  ∃v s,(Instr.lookup t p q ok).run P w= .ok v w/\K s/\Rel (envOf G H loc ver w) s v:=by
 unfold aDx at h
 split at h
 ·rename_i ks vs a b
  split at h
  ·rename_i kt ht
   obtain ⟨hk,h⟩:=h
   obtain ⟨rfl,ha,hb⟩:=aE6 hi
   obtain ⟨et,fs,f,g,z,hu,_,_,hz,_⟩:=rE ht
   obtain ⟨zv,hzv⟩:=aG4 hz w
   cases hx with
   | fmp _ _ b' c es hok hheap hkr hl=>
    have hheap:w.heap[b']? =some (.map ⟨es⟩ c):=hheap
    obtain ⟨lx,hkx⟩:=rF ht hk (k:=(a,b)) ⟨ha,hb⟩
    have hck:=(aE4 ht hk).check w es.isEmpty hkx
    have hll:vs.length=es.length:=by have:=hl.length;simpa using this
    unfold aYt at h
    rcases aBd ht hk hkr (vs:=vs) hll ha hb w with ⟨f1,f2,_⟩ | ⟨j,e,f1,f2,f3,f4,f5,_⟩
    ·rcases h.or with h | h
     ·cases ok with
      | false=>exact ⟨zv,.any,by simp[Instr.lookup,run_underlying hu,MapKept.run_getObj_map hheap,hck,f1,hzv,Result.andThen],h.go,.any _⟩
      | true=>exact ⟨.tuple #[zv,.bool false],.tup [.any,.val (.bool false)],by simp[Instr.lookup,run_underlying hu,MapKept.run_getObj_map hheap,hck,f1,hzv,Result.andThen],h.go,.tup _ _ (.cons _ _ _ _ (.any _) (.cons _ _ _ _ (.val _ trivial) .nil))⟩
     obtain ⟨v,hv,_⟩:=h.ex
     rw[f2] at hv;cases hv
    rcases h.or with h | h
    ·have:=h.ok
     rw[f5] at this;cases this
    obtain ⟨v,hv,hK⟩:=h.ex
    rw[f5] at hv
    cases hv
    have hj:=(aK.1 f2).1
    have hr:=hl.get j (by omega)
    have he:((es.map (·.val)).getD j undef)=e.val:=by simp[aB,f2]
    rw[he] at hr
    cases ok with
    | false=>exact ⟨e.val,vs.getD j .any,by simp[Instr.lookup,run_underlying hu,MapKept.run_getObj_map hheap,hck,f1,Result.andThen],aCt hK,hr⟩
    | true=>exact ⟨.tuple #[e.val,.bool true],.tup [vs.getD j .any,.val (.bool true)],by simp[Instr.lookup,run_underlying hu,MapKept.run_getObj_map hheap,hck,f1,Result.andThen],aCt (K:=fun v=>K (.tup [v,.val (.bool true)])) hK,.tup _ _ (.cons _ _ _ _ hr (.cons _ _ _ _ (.val _ trivial) .nil))⟩
  exact h.elim
 exact aF5 hI h hx hi
theorem aUd (hI:Inv G H loc ver w) {nm:Nat} {ks:List (Int × Int)} {l:List SV} (ho:hget H nm= .qm ks l) {v:Value} (hv:Rel (envOf G H loc ver w) (.mp nm) v):
  ver nm=0/\ks.length<=maxL/\bare.bareL l=true/\∃b es c,(loc nm).blk=some (b,0)/\v= .map (some b)/\w.heap[b]? =some (.map ⟨es⟩ c)/\QmR ks es c/\RelL (envOf G H loc ver w) l (es.map (·.val)):=by
 obtain ⟨h0,h1,h2,b,es,c,h3,h4,h5,h6⟩:=hI.objs nm _ (aR ho (by simp))
 cases hv with
 | mp _ _ hn hp=>
  obtain ⟨b',h7,h8⟩:=hp h0
  have h7:(loc nm).blk=some (b',0):=h7
  rw[h3] at h7;cases h7
  exact ⟨h0,h1,h2,b,es,c,h3,h8,h4,h5,h6⟩
theorem set_getElem_self {α:Type} {l:List α} {j:Nat} {x:α} (h:l[j]? =some x):l.set j x=l:=by
 apply cK
 intro m
 rw[cZ]
 by_cases e:j=m
 ·subst e
  rw[aD rfl,h]
  rw[aD (aK.1 h).1]
 rw[aC e]
theorem aBe {y:SV} (hy:bare y=true):∀ {l:List SV} (j:Nat),bare.bareL l=true->bare.bareL (l.set j y)=true
 | [],_,_=>rfl
 | x::r,0,h=>by
  simp only[List.set_cons_zero,bare.bareL,aE] at h ⊢
  exact ⟨hy,h.2⟩
 | x::r,j+1,h=>by
  simp only[List.set_cons_succ,bare.bareL,aE] at h ⊢
  exact ⟨h.1,aBe hy j h.2⟩
theorem aBf {y:SV} (hy:bare y=true):∀ {l:List SV},bare.bareL l=true->bare.bareL (l++ [y])=true
 | [],_=>by simp[bare.bareL,hy]
 | x::r,h=>by
  simp only[gN,bare.bareL,aE] at h ⊢
  exact ⟨h.1,aBf hy h.2⟩
theorem aCu (hI:Inv G H loc ver w) {nm:Nat} {ks ks':List (Int × Int)} {l l':List SV} (ho:hget H nm= .qm ks l) {b:Nat} {es es':List MapEntry} {c c':Nat} (hblk:(loc nm).blk=some (b,0)) (hheap:w.heap[b]? =some (.map ⟨es⟩ c))
  (hlen:ks'.length<=maxL) (hbr:bare.bareL l'=true) (hk:QmR ks' es' c') (hl:RelL (envOf G H loc ver w) l' (es'.map (·.val))):
  Inv G (hset H nm (.qm ks' l')) loc ver (setBlock w b (.map ⟨es'⟩ c'))/\Ext (envOf G H loc ver w) (envOf G (hset H nm (.qm ks' l')) loc ver (setBlock w b (.map ⟨es'⟩ c'))):=by
 have hset:=heap_set (o':=.map ⟨es'⟩ c') hheap
 refine hI.inPlace (aR ho (by simp)) (b:=b) (by simp[Owns,hblk]) (fun b' hb'=>hb') (by simp[setBlock]) rfl rfl rfl (fun b' hb'=>hset.2 b' hb') fun hx=>?_
 have hv:=(hI.objs nm _ (aR ho (by simp))).1
 exact ⟨hv,hlen,hbr,b,es',c',hblk,hset.1,hk,hl.ext hx⟩
theorem aCo (hI:Inv G H loc ver w) {t:TypeId} {x i y:SV} {p q r:Value} {K:List HO->Prop} (h:vG P t H x i y K) (hx:Rel (envOf G H loc ver w) x p) (hi:Rel (envOf G H loc ver w) i q) (hy:Rel (envOf G H loc ver w) y r):
  ∃H' w',(Instr.mapUpdate t p q r).run P w= .ok () w'/\K H'/\Inv G H' loc ver w'/\Ext (envOf G H loc ver w) (envOf G H' loc ver w'):=by
 unfold vG at h
 split at h
 ·rename_i nm a b
  split at h
  ·rename_i kt ks l ht ho
   obtain ⟨hbr,hN⟩:=aW h
   clear h
   obtain ⟨hk,h⟩:=hN
   obtain ⟨rfl,ha,hb⟩:=aE6 hi
   obtain ⟨et,fs,f,g,z,hu,_⟩:=rE ht
   obtain ⟨h0,h1,h2,blk,es,c,hblk,rfl,hheap,hq,hl⟩:=aUd hI ho hx
   obtain ⟨hkr,hborn,rfl⟩:=hq
   obtain ⟨lx,hkx⟩:=rF ht hk (k:=(a,b)) ⟨ha,hb⟩
   have hck:=(aE4 ht hk).check w false hkx
   have hst:=(aE4 ht hk).stays w hkx
   have hll:l.length=es.length:=by have:=hl.length;simpa using this
   rcases aBd ht hk hkr (vs:=l) hll ha hb w with ⟨f1,_,f3,f4⟩ | ⟨j,e,f1,f2,f3,f4,_,f6,f7⟩
   ·rw[f3] at h
    simp only[cA,bQ] at h
    obtain ⟨hroom,h⟩:=h
    have hkr':KeysR (ks++ [(a,b)]) (es++ [⟨keyV (a,b),r,es.length⟩]):=⟨by rw[iF,iF,hkr.eq];rfl,fun k hk'=>by
      rcases bK.1 hk' with hk' | hk'
      ·exact hkr.rng k hk'
      rw[bC.1 hk'];exact ⟨ha,hb⟩,fR.2 ⟨hkr.nd,by simp,fun x hx y hy=>by rw[bC.1 hy];exact f4 x hx⟩⟩
    have ht':=aCu hI ho hblk hheap (c':=es.length+1) (ks':=ks++ [(a,b)]) (l':=l++ [y]) (es':=es++ [⟨keyV (a,b),r,es.length⟩]) (by simp only[aQ,cG];show ks.length+1<=140737488355328;omega) (aBf hbr h2) ⟨hkr',by simp[hborn,List.range_succ],by simp⟩ (by rw[iF];exact hl.append (.cons _ _ _ _ hy .nil))
    refine ⟨_,_,?_,h,ht'⟩
    simp[Instr.mapUpdate,run_underlying hu,MapKept.run_getObj_map hheap,hck,f1,MapKept.run_setObj_map _ hheap,Result.andThen,setBlock]
   rw[f6] at h
   simp only[bP,bQ] at h
   rw[f7] at h
   have hj:(⟨es⟩:Array MapEntry)[j]? =some e:=by simpa using f2
   have hjl:=(aK.1 f2).1
   have hkr':KeysR ks (es.set j { e with key:=keyV (a,b),val:=r }):=⟨by
     rw[nV]
     have:(es.map (·.key)).set j (keyV (a,b))=es.map (·.key):=by
      rw[<- f4]
      apply cK
      intro m
      rw[cZ]
      by_cases em:j=m
      ·subst em
       rw[aD rfl,aD (by simpa using hjl)]
       simp[f2]
      rw[aC em]
     rw[this];exact hkr.eq,hkr.rng,hkr.nd⟩
   have ht':=aCu hI ho hblk hheap (c':=es.length) (ks':=ks) (l':=l.set j y) (es':=es.set j { e with key:=keyV (a,b),val:=r }) h1 (aBe hbr j h2) ⟨hkr',by rw[nV,cV,<- hborn,set_getElem_self (by simp[f2])],by simp⟩ (by rw[nV];exact hl.set j hy)
   refine ⟨_,_,?_,h,ht'⟩
   have hmod:=ChangeMaps.modify_eq_set (fun e:MapEntry=>{ e with key:=keyV (a,b),val:=r }) es j e f2
   simp[Instr.mapUpdate,run_underlying hu,MapKept.run_getObj_map hheap,hck,f1,hj,f2,f4,hst,MapKept.run_setObj_map _ hheap,Result.andThen,setBlock,hmod]
  exact h.elim
 exact aBc hI h hx hi hy
theorem aE7 (hI:Inv G H loc ver w) {t:TypeId} {x i:SV} {p q:Value} {K:SV->List HO->Prop} (h:yJ P t H x i K) (hx:Rel (envOf G H loc ver w) x p) (hi:Rel (envOf G H loc ver w) i q):
  ∃v w',(Instr.mapEntry t p q).run P w= .ok v w'/\Res G (envOf G H loc ver w) K v w':=by
 unfold yJ at h
 split at h
 ·rename_i nm a b
  split at h
  ·rename_i kt ks l ht ho
   obtain ⟨hk,h⟩:=h
   obtain ⟨rfl,ha,hb⟩:=aE6 hi
   obtain ⟨et,fs,f,g,z,hu,_,_,hz,_⟩:=rE ht
   obtain ⟨zv,hzv⟩:=aG4 hz w
   obtain ⟨h0,h1,h2,blk,es,c,hblk,rfl,hheap,hq,hl⟩:=aUd hI ho hx
   obtain ⟨hkr,hborn,rfl⟩:=hq
   obtain ⟨lx,hkx⟩:=rF ht hk (k:=(a,b)) ⟨ha,hb⟩
   have hck:=(aE4 ht hk).check w false hkx
   have hll:l.length=es.length:=by have:=hl.length;simpa using this
   rcases aBd ht hk hkr (vs:=l) hll ha hb w with ⟨f1,_,f3,f4⟩ | ⟨j,e,f1,f2,f3,f4,_,f6,f7⟩
   ·rw[f3] at h
    simp only[cA,bQ,aA1] at h
    obtain ⟨hroom,h⟩:=h
    have hkr':KeysR (ks++ [(a,b)]) (es++ [⟨keyV (a,b),zv,es.length⟩]):=⟨by rw[iF,iF,hkr.eq];rfl,fun k hk'=>by
      rcases bK.1 hk' with hk' | hk'
      ·exact hkr.rng k hk'
      rw[bC.1 hk'];exact ⟨ha,hb⟩,fR.2 ⟨hkr.nd,by simp,fun x hx y hy=>by rw[bC.1 hy];exact f4 x hx⟩⟩
    have ht':=aCu hI ho hblk hheap (c':=es.length+1) (ks':=ks++ [(a,b)]) (l':=l++ [.any]) (es':=es++ [⟨keyV (a,b),zv,es.length⟩]) (by simp only[aQ,cG];show ks.length+1<=140737488355328;omega) (aBf rfl h2) ⟨hkr',by simp[hborn,List.range_succ],by simp⟩ (by rw[iF];exact hl.append (.cons _ _ _ _ (.any _) .nil))
    refine ⟨.tuple #[zv,goInt es.length],_,?_,_,_,_,_,h,ht'.1,.tup _ _ (.cons _ _ _ _ (.any _) (.cons _ _ _ _ ?_ .nil)),ht'.2⟩
    ·simp[Instr.mapEntry,run_underlying hu,MapKept.run_getObj_map hheap,hck,f1,hzv,MapKept.run_setObj_map _ hheap,Result.andThen,setBlock]
    rw[hkr.len]
    refine .val (.int .i64 (Int.ofNat ks.length)) ⟨?_,?_⟩
    ·show (-9223372036854775808:Int)<=(ks.length:Int);omega
    show (ks.length:Int)<=9223372036854775807;omega
   rw[f6] at h
   exact h.elim
  exact h.elim
 exact h.elim
theorem aBg (hI:Inv G H loc ver w) {t:TypeId} {x s y:SV} {p q r:Value} {K:List HO->Prop} (h:tQ H x s y K) (hx:Rel (envOf G H loc ver w) x p) (hi:Rel (envOf G H loc ver w) s q) (hy:Rel (envOf G H loc ver w) y r):
  ∃H' w',(Instr.entryStore t p q r).run P w= .ok () w'/\K H'/\Inv G H' loc ver w'/\Ext (envOf G H loc ver w) (envOf G H' loc ver w'):=by
 unfold tQ at h
 split at h
 ·rename_i nm n
  split at h
  ·rename_i ks l ho
   obtain ⟨hc,h⟩:=aW h
   simp only[aE] at hc
   obtain ⟨hbr,hlt⟩:=hc
   have hlt:n<l.length:=by simpa using hlt
   simp only[bQ] at h
   obtain ⟨rfl,_⟩:=hi.int_inv
   obtain ⟨h0,h1,h2,blk,es,c,hblk,rfl,hheap,hq,hl⟩:=aUd hI ho hx
   obtain ⟨hkr,hborn,rfl⟩:=hq
   have hll:l.length=es.length:=by have:=hl.length;simpa using this
   have hnl:n<es.length:=by omega
   have he:es[n]? =some es[n]:=aH hnl
   have hb:∀m (hm:m<es.length),es[m].born=m:=fun m hm=>by
    have:(es.map (·.born))[m]? =some es[m].born:=by simp[hm]
    rw[hborn,List.getElem?_range hm] at this
    exact (uX this).symm
   have hfi:es.findIdx? (fun e=>(e.born:Int)==(n:Int))=some n:=by
    rw[jD]
    refine ⟨hnl,?_,fun j hj=>?_⟩
    ·have:=hb n hnl
     simp[this]
    have:=hb j (by omega)
    simp[this];omega
   have hkr':KeysR ks (es.set n { es[n] with val:=r }):=⟨by
     rw[nV]
     rw[set_getElem_self (by simp[hnl])];exact hkr.eq,hkr.rng,hkr.nd⟩
   have ht':=aCu hI ho hblk hheap (c':=es.length) (ks':=ks) (l':=l.set n y) (es':=es.set n { es[n] with val:=r }) h1 (aBe hbr n h2) ⟨hkr',by rw[nV,cV,<- hborn,set_getElem_self (by simp[hnl])],by simp⟩ (by rw[nV];exact hl.set n hy)
   refine ⟨_,_,?_,h,ht'⟩
   have hmod:=ChangeMaps.modify_eq_set (fun e:MapEntry=>{ e with val:=r }) es n es[n] he
   simp[Instr.entryStore,MapKept.run_getObj_map hheap,asInt,asIntOf,hfi,MapKept.run_setObj_map _ hheap,Result.andThen,setBlock,hmod]
  exact h.elim
 exact h.elim
end
end Go.Eng
end
section
namespace Go.Eng
open Go.RowKit
section
variable {P:Program} {G:Ctx} {H:List HO} {loc:Nat->Loc} {ver:Nat->Nat} {w:World}
theorem iP {L:Core} {b:Nat}:L.head.ownBlock=some b↔L.blk.map (·.1)=some b:=by
 simp only[Core.head]
 cases h:L.blk with
 | none=>simp[Value.ownBlock]
 | some p=>simp[Value.ownBlock]
theorem aNn {e ei:TypeId} {t:Ty} (h:aO3 P e=some (t,ei)):t.flat=true:=by
 unfold aO3 at h
 split at h
 ·split at h
  ·rename_i t' _
   cases hf:t'.flat with
   | true=>rw[hf] at h;cases h;exact hf
   | false=>rw[hf] at h;cases h
  cases h
 cases h
theorem aQ5 {e:TypeId} (h:nilZ P e=true):∃i,P.info? e=some i/\i.zero=some (.slice none 0 0)/\i.size=1:=by
 unfold nilZ at h
 split at h
 ·rename_i i hi
  split at h
  ·rename_i hz;exact ⟨i,hi,hz,bH.1 h⟩
  cases h
 cases h
theorem aG1 {G:Ctx} {H':List HO} {loc':Nat->Loc} {ver':Nat->Nat} {w':World} {ty:Ty} {e ei:TypeId} {n c b:Nat} (hfl:ty.flat=true) (hnc:n<=c) (hc:c<=140737488355328) (hb:w'.heap[b]? =some (.cells (madeCells (Value.slice none 0 0).cells (c*1)) e (0,0))):
  OSat (envOf G H' loc' ver' w') (mkL (some (b,0)) n c) 1 (.vv 1 0 ty (List.replicate n []) none e ei):=by
 have hz:(Value.slice none 0 0).cells= #[.slice none 0 0]:=rfl
 refine ⟨rfl,Nat.one_pos,rfl,by simp,by show n<=140737488355328;omega,⟨(madeCells (Value.slice none 0 0).cells (c*1)).toList.take (n*1),⟨?_,.inr ⟨b,c,madeCells (Value.slice none 0 0).cells (c*1),rfl,aI _,hb,hnc,by simp[maxLen];omega,by rw[size_madeCells];exact aM _,rfl⟩⟩,fun i hi=>?_⟩,fun b hb=>hb.elim,⟨hfl,fun i hi _=>?_,fun i j hi hj _ _ b hb=>by simp[sub0,Value.ownBlock] at hb,(fun j ys hp=>by cases hp),fun i hi=>?_⟩⟩
 ·rw[bA,fA,size_madeCells];show min (n*1) (c*1)=n*1;omega
 ·have hi:i<n:=hi
  rw[aJ,aD (by omega),sH _ _ (by rw[hz];simp) _ (by omega)]
  have:(Value.slice none 0 0).cells.size=1:=by rw[hz];rfl
  rw[this,Nat.mod_one,hz]
  rfl
 ·have hi:i<n:=by simpa using hi
  have e1:(List.replicate n ([]:List ty.T)).getD i []= []:=by rw[aB,bR,aD hi];rfl
  rw[e1]
  exact ⟨[],⟨by simp,.inl ⟨rfl,rfl⟩⟩,fun b hb=>by simp[sub0,Value.ownBlock] at hb,fun i hi=>absurd hi (bG _)⟩
 have hi:i<n:=by simpa using hi
 have e1:(List.replicate n ([]:List ty.T)).getD i []= []:=by rw[aB,bR,aD hi];rfl
 rw[e1];exact aI _
theorem aG2 {t:TypeId} {n c:SV} {p q:Value} {K:Int->Ty->TypeId->TypeId->Prop} {E:Env} (h:aBv P t n c K) (hn:Rel E n p) (hc:Rel E c q):
  ∃(nn:Int) (cc:Nat) (ty:Ty) (e ei:TypeId),K nn ty e ei/\ty.flat=true/\nn.toNat<=cc/\cc<=140737488355328/\∀w,(Instr.makeSlice t p q).run P w= .ok (.slice (some ⟨w.heap.size,0,none⟩) nn.toNat cc) (w.alloc (.cells (madeCells (Value.slice none 0 0).cells (cc*1)) e)):=by
 unfold aBv at h
 split at h
 case h_2=>exact h.elim
 rename_i e kn nn kc nc he
 obtain ⟨rfl,_⟩:=hn.int_inv
 obtain ⟨rfl,_⟩:=hc.int_inv
 split at h
 case h_2=>exact h.elim
 rename_i ty ei i hr hi
 obtain ⟨hz,⟨⟨n1,n2,n3,n4⟩,hk⟩⟩:=aW h
 obtain ⟨i',hi',hz1,hz2⟩:=aQ5 hz
 rw[hi] at hi';cases hi'
 refine ⟨nn,nc.toNat,ty,e,ei,hk,aNn hr,by omega,by omega,fun w=>?_⟩
 have:=run_make (P:=P) w t e i _ (dM he) hi hz1 kn kc nn nc n1 n2 (by rw[cB];omega) (by omega)
 rw[hz2] at this
 exact this
theorem aLc (hI:Inv G H loc ver w) {t:TypeId} {n c:SV} {p q:Value} {K:SV->List HO->Prop} (h:aBv P t n c fun n ty e ei=>cT (H++ [.vv 1 0 ty (List.replicate n.toNat []) none e ei]) fun H'=>K (.ref H.length 1) H') (hn:Rel (envOf G H loc ver w) n p) (hc:Rel (envOf G H loc ver w) c q):
  ∃v w',(Instr.makeSlice t p q).run P w= .ok v w'/\Res G (envOf G H loc ver w) K v w':=by
 obtain ⟨nn,cc,ty,e,ei,hk,hfl,h1,h2,hr⟩:=aG2 h hn hc
 rw[bQ] at hk
 have hf:=hI.fresh (w':=w.alloc (.cells (madeCells (Value.slice none 0 0).cells (cc*1)) e)) (.vv 1 0 ty (List.replicate nn.toNat []) none e ei) (mkL (some (w.heap.size,0)) nn.toNat cc) 1 (by simp) rfl rfl rfl (fun b hb=>Below.heap_alloc w _ b hb)
  (by intro b hb;rcases hb with hb | hb; · simp at hb;omega
      ·exact hb.elim) (fun _=>aG1 hfl h1 h2 (jG w _))
 refine ⟨_,_,hr w,_,_,_,_,hk,hf.1,?_,hf.2⟩
 refine .ref _ _ _ (by exact jM rfl) Nat.one_pos (by simp[envOf,aV]) fun _=>?_
 simp[envOf,aV,Core.head]
theorem aPn (hI:Inv G H loc ver w) {nm k v s:Nat} {t:Ty} {xss:List (List t.T)} {pd:Option (Nat × List t.T)} {eo ei:TypeId} (ho:hget H nm= .vv v s t xss pd eo ei) (hb:Nat.beq v k=true) {x:Value} (hx:Rel (envOf G H loc ver w) (.ref nm k) x):x=(loc nm).head:=by
 obtain rfl:=bH.1 hb
 obtain ⟨h1,_⟩:=hI.objs nm _ (aR ho (by simp))
 cases hx with
 | ref _ _ _ hn h0 hk hv=>exact hv h1.symm
theorem aI8 (hI:Inv G H loc ver w) {t:TypeId} {x i:SV} {p q:Value} {K:SV->Prop} (h:aMz P t H x i K) (hx:Rel (envOf G H loc ver w) x p) (hi:Rel (envOf G H loc ver w) i q):
  ∃v s,(Instr.indexAt t p q).run P w= .ok v w/\K s/\Rel (envOf G H loc ver w) s v:=by
 unfold aMz at h
 split at h
 ·rename_i e nm k kn n he
  split at h
  ·rename_i sz v s ty xss pd eo ei hs ho
   obtain ⟨hb,hq⟩:=aW h
   clear h
   simp only[aE,bH] at hb
   obtain ⟨rfl,rfl⟩:=hb
   have hp:=aPn hI ho (fW _) hx
   subst hp
   obtain ⟨rfl,_⟩:=hi.int_inv
   obtain ⟨hn,hk⟩:=hq
   obtain ⟨g1,g2,g3,g4,g5,⟨vs,g6,g7⟩,g8,g9⟩:=hI.objs nm _ (aR ho (by simp))
   have hlt:n.toNat<(loc nm).len:=by rw[g4];omega
   have hK:=hk.use hn.1
   rcases cE g6 with ⟨_,_,e3,_⟩ | ⟨g,cur,e1,_⟩
   ·omega
   cases hx with
   | ref _ _ _ hhas h0 hkk hv=>
    have hr:=nD (P:=P) (w:=w) (b:=g) (off:=0) (n:=(loc nm).len) (c:=(loc nm).cap) (k:=kn) (i:=n) he hs ⟨hn.1,by omega⟩
    refine ⟨_,_,?_,hK,.vptr nm v n.toNat 1 0 _ hhas h0 hkk fun _=>⟨hlt,g,0,e1,rfl⟩⟩
    have:(loc nm).head= .slice (some ⟨g,0,none⟩) (loc nm).len (loc nm).cap:=by simp[Core.head,e1]
    rw[this]
    simpa using hr
  exact h.elim
 exact h.elim
theorem aLd (hI:Inv G H loc ver w) {t:TypeId} {x:SV} {p:Value} {K:SV->Prop} (h:aTh P t H x K) (hx:Rel (envOf G H loc ver w) x p):
  ∃v s,(Instr.loadAt t p).run P w= .ok v w/\K s/\Rel (envOf G H loc ver w) s v:=by
 unfold aTh at h
 split at h
 ·rename_i nm k i
  split at h
  ·rename_i v s ty xss eo ei sz ho ha hs
   obtain ⟨hb,hK⟩:=aW h
   simp only[aE,bH] at hb
   obtain ⟨rfl,rfl⟩:=hb
   obtain ⟨g1,g2,g3,g4,g5,⟨vs,g6,g7⟩,g8,g9⟩:=hI.objs nm _ (aR ho (by simp))
   cases hx with
   | vptr _ _ _ _ _ _ hn h0 hk hp=>
    obtain ⟨hlt,b,off,hbk,rfl⟩:=hp g1.symm
    rcases cE g6 with ⟨e0,_⟩ | ⟨g,cur,e1,e2,e3,e4,e5,e6,e7⟩
    ·rw[show (loc nm).blk=some (b,off) from hbk] at e0;cases e0
    have hbk:(loc nm).blk=some (b,off):=hbk
    rw[hbk] at e1;cases e1
    have hc:w.cell? ⟨b,0+i*1+0,none⟩=some ((loc nm).sub.rows i):=by
     have h7:=g7 i hlt
     rw[<- e7,aJ] at h7
     split at h7
     ·have e3':w.heap[b]? =some (.cells cur _ (0,0)):=e3
      simp only[World.cell?,e3']
      simpa using h7
     cases h7
    refine ⟨_,_,sG ha hc,hK,.sub nm v s i _ hn h0 hk (fun _=>mK g3.symm) fun _ _=>rfl⟩
  exact h.elim
 exact h.elim
theorem aNo (hI:Inv G H loc ver w) {x:SV} {p:Value} {K:SV->Prop} (h:lenV H x K) (hx:Rel (envOf G H loc ver w) x p):∃a n c s,p= .slice a n c/\K s/\Rel (envOf G H loc ver w) s (.int .i64 n):=by
 unfold lenV at h
 split at h
 ·rename_i nm k
  split at h
  ·rename_i v s ty xss pd eo ei ho
   obtain ⟨hb,hK⟩:=aW h
   have hp:=aPn hI ho hb hx
   obtain ⟨g1,g2,g3,g4,g5,_⟩:=hI.objs nm _ (aR ho (by simp))
   have g5:(loc nm).len<=140737488355328:=g5
   refine ⟨_,(loc nm).len,_,_,hp,hK.go (by omega),?_⟩
   rw[g4]
   exact .val _ ⟨by simp[lo]<;>omega,by simp[hi]<;>omega⟩
  exact h.elim
 exact h.elim
theorem aUa {inf:TypeInfo} {n:Nat} (h:(match inf.zero with | some z=>Nat.beq z.cells.size n | none=>false)=true):∃z,inf.zero=some z/\z.cells.size=n:=by
 split at h
 ·rename_i z hz;exact ⟨z,hz,bH.1 h⟩
 cases h
theorem aF4 (hI:Inv G H loc ver w) {t ty':TypeId} {x y:SV} {p q:Value} {K:SV->List HO->Prop} (h:aIg P t H x y K) (hx:Rel (envOf G H loc ver w) x p) (hy:Rel (envOf G H loc ver w) y q):
  ∃v w',(Builtin.append_ #[t,t] ty' #[p,q]).run P w= .ok v w'/\Res G (envOf G H loc ver w) K v w':=by
 unfold aIg at h
 split at h
 case h_2=>exact h.elim
 rename_i e nm k s i he
 split at h
 case h_2=>exact h.elim
 rename_i v s' ty xss eo ei inf ho hinf
 obtain ⟨hb,hq⟩:=aW h
 clear h
 simp only[aE,bH] at hb
 obtain ⟨⟨⟨⟨rfl,rfl⟩,hb4⟩,hb5⟩,hb6⟩:=hb
 have hb5:0<inf.bytes:=by simpa using hb5
 obtain ⟨z,hz,hzs⟩:=aUa hb6
 obtain ⟨⟨hi,rfl⟩,hq⟩:=hq
 obtain ⟨ys,hys,hq⟩:=wR hq
 obtain ⟨hroom,hK⟩:=yH hq
 rw[bQ] at hK
 have hn':=aR ho (by simp)
 have hlt:nm<H.length:=(aK.1 hn').1
 obtain ⟨g1,g2,g3,g4,g5,⟨vs,g6,g7⟩,g8,g9⟩:=hI.objs nm _ hn'
 have hp:p=(loc nm).sub.rows i:=by
  cases hx with
  | sub _ _ _ _ _ hn h0 hk hs hv=>exact hv g1.symm g3.symm
 subst hp
 obtain ⟨rs,r1,r2,r3⟩:=g9.row i hi (fun j ys hp=>by cases hp)
 obtain ⟨L0,hL0,hL0n⟩:=aTz r1
 rw[<- hL0] at r1
 obtain ⟨a,c,news,hsrc⟩:=tU hI hys hy
 have hmax:(xss.getD i []).length+ys.length<=maxL:=by
  have h1:((xss.getD i []).length+ys.length)*1<=((xss.getD i []).length+ys.length)*inf.bytes:=pV _ hb5
  show _<=140737488355328
  omega
 obtain ⟨L',w',hr,hown2,⟨q1,q2,q3,q4,q5⟩,hfr⟩:=nN (P:=P) (w:=w) (t:=t) (ty:=ty') (tt:=ty) (dM he) hinf hz hb4 hzs r1 hsrc hroom hmax
 rw[hL0] at hr
 obtain ⟨Lx,hLx⟩:∃Lx:Loc,Lx= ⟨(loc nm).toCore,fun b=>((loc nm).al b/\L0.blk.map (·.1)≠some b)\/L'.head.ownBlock=some b,⟨s+1,(loc nm).sub.rows,L'.head,fun _=>none⟩⟩:=⟨_,rfl⟩
 have hver:ver nm=v:=g1
 have hrow0:∀b,L0.blk.map (·.1)=some b->(loc nm).al b:=fun b hb=>r2 b (by rw[<- hL0];exact iP.2 hb)
 have hne:∀b,(loc nm).blk.map (·.1)=some b->w'.heap[b]? =w.heap[b]? :=fun b hb=>by
  have hbl:=(hI.objs nm _ hn').block (b:=b) (.inl hb)
  exact q5 b hbl fun e=>(g8 b (hrow0 b e.symm)).2.1 hb
 have htn:=hI.turn (w':=w') (H':=hset H nm (.vv v (s+1) ty xss (some (i,xss.getD i []++ys)) eo e)) (loc':=upd loc nm Lx) (ver':=ver) nm (by simp[hset]) (fun k hk=>⟨bS hk,cR _ _ _ hk,rfl⟩)
  (fun _=>dF (aN hlt) rfl) (fun _=>.inl ⟨rfl,by rw[aV,hLx],.inr (by rw[aV,hLx];show (loc nm).sub.v<s+1;rw[g3];exact cS _)⟩) q4 q1 q2 q3 (by rw[hn'];intro h;cases h) (fun _=>by rw[show hset H nm _=H.set nm _ from rfl,aN hlt];intro h;cases h)
  (fun st n it b h=>by rw[show hset H nm (.vv v (s+1) ty xss (some (i,xss.getD i []++ys)) eo e)=H.set nm _ from rfl,aN hlt] at h;cases h)
  (fun b hb hno=>q5 b hb fun e=>hno _ hn' (.inr (hrow0 b e.symm)))
  (by
   intro o' b ho' hb
   rw[show hset H nm (.vv v (s+1) ty xss (some (i,xss.getD i []++ys)) eo e)=H.set nm _ from rfl,aN hlt] at ho';cases ho'
   rw[aV,hLx] at hb
   rcases hb with hb | hb | hb
   ·exact .inl ⟨_,hn',.inl hb⟩
   ·exact .inl ⟨_,hn',.inr hb.1⟩
   rcases hfr b (iP.1 hb) with h | h
   ·exact .inl ⟨_,hn',.inr (hrow0 b h)⟩
   exact .inr h)
  (by
   intro hx' o' ho'
   rw[show hset H nm (.vv v (s+1) ty xss (some (i,xss.getD i []++ys)) eo e)=H.set nm _ from rfl,aN hlt] at ho';cases ho'
   rw[aV]
   subst hLx
   have hother:∀j,j<xss.length->j≠i->∀b,((loc nm).sub.rows j).ownBlock=some b->w'.heap[b]? =w.heap[b]? :=fun j hj hji b hb=>by
    obtain ⟨_,_,hal,_⟩:=g9.row j hj (fun j ys hp=>by cases hp)
    refine q5 b (g8 b (hal b hb)).1 fun e=>?_
    have e1:L0.head.ownBlock=some b:=iP.2 e.symm
    rw[hL0] at e1
    exact g9.apart j i hj hi (fun k ys hp=>by cases hp) hji b hb e1
   refine ⟨g1,g2,rfl,g4,g5,⟨vs,tR g6 fun b hb=>hne b (iP.1 hb),g7⟩,fun b hb=>?_,⟨g9.flat,fun j hj hp=>?_,fun j1 j2 h1 h2 hp h3=>g9.apart j1 j2 h1 h2 (fun k ys hp=>by cases hp) h3,fun j zs hp=>?_,g9.short⟩⟩
   ·have hw':(envOf G (hset H nm (.vv v (s+1) ty xss (some (i,xss.getD i []++ys)) eo e)) (upd loc nm ⟨(loc nm).toCore,fun b=>((loc nm).al b/\L0.blk.map (·.1)≠some b)\/L'.head.ownBlock=some b,⟨s+1,(loc nm).sub.rows,L'.head,fun _=>none⟩⟩) ver w').w=w':=rfl
    rw[hw']
    rcases hb with ⟨hb,hb1⟩ | hb
    ·obtain ⟨m1,m2,c,e',m3⟩:=g8 b hb
     exact ⟨bJ m1 q4,m2,c,e',(q5 b m1 fun e=>hb1 e.symm).trans m3⟩
    have hb0:=iP.1 hb
    rcases cE hown2 with ⟨f1,_⟩ | ⟨g,cur,f1,f2,f3,_⟩
    ·rw[f1] at hb0;cases hb0
    rw[f1] at hb0
    have hgb:g=b:=by simpa using hb0
    subst hgb
    refine ⟨(aG.1 f3).1,fun e0=>?_,cur,_,f3⟩
    rcases hfr g (by rw[f1];rfl) with h | h
    ·exact (g8 g (hrow0 g h)).2.1 e0
    have:=(hI.objs nm _ hn').block (b:=g) (.inl e0)
    exact absurd (show g<w.heap.size from this) (by omega)
   ·have hji:j≠i:=hp i _ rfl
    obtain ⟨rs',m1,m2,m3⟩:=g9.row j hj (fun j ys hp=>by cases hp)
    refine ⟨rs',tR m1 fun b hb=>hother j hj hji b hb,fun b hb=>.inl ⟨m2 b hb,fun e=>?_⟩,fun i hi=>(m3 i hi).mono hx'.cell hx'.ok⟩
    have e1:L0.head.ownBlock=some b:=iP.2 e
    rw[hL0] at e1
    exact g9.apart j i hj hi (fun k ys hp=>by cases hp) hji b hb e1
   cases hp
   refine ⟨hi,⟨rs++news,by rw[aQ];exact hown2,fun b hb=>.inr hb,fun j hj=>?_⟩,fun j hj hji b hb=>?_⟩
   ·rw[aQ] at hj
    exact pX (ok':=fun _=>True) r1.1 (fun i hi=>(r3 i hi).mono hx'.cell hx'.ok) hsrc.len (fun i hi=>(hsrc.rd i hi).mono hx'.cell hx'.ok) j hj
   intro hb2
   rcases hfr b (iP.1 hb) with h | h
   ·have e1:L0.head.ownBlock=some b:=iP.2 h
    rw[hL0] at e1
    exact g9.apart j i hj hi (fun k ys hp=>by cases hp) hji b hb2 e1
   obtain ⟨_,_,hal,_⟩:=g9.row j hj (fun j ys hp=>by cases hp)
   have:=(g8 b (hal b hb2)).1
   exact absurd (show b<w.heap.size from this) (by omega))
 refine ⟨_,_,hr,_,_,_,_,hK,htn.1,?_,htn.2⟩
 refine .subp nm v (s+1) _ (dF (aN hlt) rfl) g2 (mK g1.symm) (fun _=>by show s+1<=(upd loc nm Lx nm).sub.v;rw[aV,hLx];exact aM _) fun _ _=>?_
 show L'.head=(upd loc nm Lx nm).sub.pnd
 rw[aV,hLx]
theorem aI9 (hI:Inv G H loc ver w) {t:TypeId} {x y:SV} {p q:Value} {K:List HO->Prop} (h:aM0 P t H x y K) (hx:Rel (envOf G H loc ver w) x p) (hy:Rel (envOf G H loc ver w) y q):
  ∃H' loc' w',(Instr.storeAt t p q).run P w= .ok () w'/\K H'/\Inv G H' loc' ver w'/\Ext (envOf G H loc ver w) (envOf G H' loc' ver w'):=by
 unfold aM0 at h
 split at h
 case h_2=>exact h.elim
 rename_i nm k i nm' k' s'
 split at h
 case h_2=>exact h.elim
 rename_i v s ty xss j ys eo ei sz ho hs
 obtain ⟨hb,hq⟩:=aW h
 clear h
 simp only[aE,bH] at hb
 obtain ⟨⟨⟨rfl,rfl⟩,rfl⟩,rfl⟩:=hb
 obtain ⟨⟨rfl,rfl⟩,⟨hys,hK⟩⟩:=hq
 rw[bQ] at hK
 have hn':=aR ho (by simp)
 have hlt:nm<H.length:=(aK.1 hn').1
 obtain ⟨g1,g2,g3,g4,g5,⟨vs,g6,g7⟩,g8,g9⟩:=hI.objs nm _ hn'
 have hver:ver nm=v:=g1
 have hp:q=(loc nm).sub.pnd:=by
  cases hy with
  | subp _ _ _ _ hn h0 hk hs hv=>exact hv g1.symm g3.symm
 subst hp
 obtain ⟨hj,⟨rs,r1,r2,r3⟩,r4⟩:=g9.grown j ys rfl
 have hone:(loc nm).sub.pnd.oneCell'=true/\(loc nm).sub.pnd.cells.toList= [(loc nm).sub.pnd]:=by
  rcases r1.2 with ⟨e,_⟩ | ⟨g,cap,cur,e,_⟩<;>rw[e]<;>exact ⟨rfl,rfl⟩
 cases hx with
 | vptr _ _ _ _ _ _ hn h0 hk hpp=>
  obtain ⟨hlt2,b,off,hbk,rfl⟩:=hpp g1.symm
  have hbk:(loc nm).blk=some (b,off):=hbk
  have hlt2:j<(loc nm).len:=hlt2
  rcases cE g6 with ⟨e1,_⟩ | ⟨g,cur,e1,e2,e3,e4,e5,e6,e7⟩
  ·rw[hbk] at e1;cases e1
  rw[hbk] at e1;cases e1
  have hcur:w.heap[b]? =some (.cells ⟨cur.toList⟩ eo (0,0)):=e3
  have hcurl:(loc nm).cap<=cur.toList.length:=by simpa using e6
  have hrun:=rS (P:=P) (w:=w) (v:=(loc nm).sub.pnd) (off:=0+j*1+0) hs hcur (by rw[hone.2];rfl) (fun u hu=>by rw[hone.2] at hu;rw[bC.1 hu];exact hone.1) (by omega)
  rw[hone.2] at hrun
  obtain ⟨w',hw'⟩:∃w',w'=w.setRow b ⟨jB cur.toList (0+j*1+0) [(loc nm).sub.pnd]⟩:=⟨_,rfl⟩
  rw[<- hw'] at hrun
  have hwb:w'.heap[b]? =some (.cells ⟨jB cur.toList (0+j*1+0) [(loc nm).sub.pnd]⟩ eo (0,0)):=by rw[hw'];exact setRow_heap w b _ _ eo _ hcur
  have hwo:∀b',b'≠b->w'.heap[b']? =w.heap[b']? :=fun b' hb'=>by rw[hw'];exact setRow_other w b b' _ hb'
  obtain ⟨Lx,hLx⟩:∃Lx:Loc,Lx= ⟨(loc nm).toCore,(loc nm).al,⟨s+1,upd (loc nm).sub.rows j (loc nm).sub.pnd,(loc nm).sub.pnd,fun _=>none⟩⟩:=⟨_,rfl⟩
  have hwal:∀b',(loc nm).al b'->w'.heap[b']? =w.heap[b']? :=fun b' hb'=>hwo b' fun e=>(g8 b' hb').2.1 (by rw[hbk,e];rfl)
  have htn:=hI.turn (w':=w') (H':=hset H nm (.vv v (s+1) ty (xss.set j ys) none eo ei)) (loc':=upd loc nm Lx) (ver':=ver) nm (by simp[hset]) (fun k hk=>⟨bS hk,cR _ _ _ hk,rfl⟩)
   (fun _=>dF (aN hlt) rfl) (fun _=>.inl ⟨rfl,by rw[aV,hLx],.inr (by rw[aV,hLx];show (loc nm).sub.v<s+1;rw[g3];exact cS _)⟩) (by rw[hw'];simp) (by rw[hw'];rfl) (by rw[hw'];rfl) (by rw[hw'];rfl) (by rw[hn'];intro h;cases h) (fun _=>by rw[show hset H nm _=H.set nm _ from rfl,aN hlt];intro h;cases h)
   (fun st n it b h=>by rw[show hset H nm (.vv v (s+1) ty (xss.set j ys) none eo ei)=H.set nm _ from rfl,aN hlt] at h;cases h)
   (fun b' hb hno=>hwo b' fun e=>hno _ hn' (.inl (by rw[hbk,e];rfl)))
   (by
    intro o' b' ho' hb
    rw[show hset H nm (.vv v (s+1) ty (xss.set j ys) none eo ei)=H.set nm _ from rfl,aN hlt] at ho';cases ho'
    rw[aV,hLx] at hb
    exact .inl ⟨_,hn',hb⟩)
   (by
    intro hx' o' ho'
    rw[show hset H nm (.vv v (s+1) ty (xss.set j ys) none eo ei)=H.set nm _ from rfl,aN hlt] at ho';cases ho'
    rw[aV]
    subst hLx
    have hkeep:∀ {h:Value} {xs:List ty.T},RowAt (envOf G H loc ver w) (loc nm).al ty ei h xs->RowAt (envOf G (hset H nm (.vv v (s+1) ty (xss.set j ys) none eo ei)) (upd loc nm ⟨(loc nm).toCore,(loc nm).al,⟨s+1,upd (loc nm).sub.rows j (loc nm).sub.pnd,(loc nm).sub.pnd,fun _=>none⟩⟩) ver w') (loc nm).al ty ei h xs:=fun hr=>hr.ext hx'.toExt0 hwal
    have hrow:∀m,m<xss.length->(xss.set j ys).getD m []=if m=j then ys else xss.getD m []:=fun m hm=>by
     rw[aB,cZ]
     by_cases e:m=j
     ·subst e;simp[hm]
     rw[aC (fun h=>e h.symm),aC e,aB]
    refine ⟨g1,g2,rfl,by simpa using g4,g5,⟨(jB cur.toList (0+j*1+0) [(loc nm).sub.pnd]).take ((loc nm).len*1),⟨by rw[bA,nK];show min ((loc nm).len*1) cur.toList.length=(loc nm).len*1;omega,.inr ⟨b,(loc nm).cap,_,by simp[Core.head,hbk],aI _,hwb,e4,e5,by show _<=(jB cur.toList _ _).length;rw[nK];omega,rfl⟩⟩,fun m hm=>?_⟩,fun b' hb'=>?_,⟨g9.flat,fun m hm _=>?_,fun m1 m2 h1 h2 _ h3 b' hb1 hb2=>?_,(fun j ys hp=>by cases hp),fun m hm=>?_⟩⟩
    ·have hm:m<(loc nm).len:=hm
     rw[aJ,aD (by omega),sS _ _ _ _ (by simp;omega)]
     show _=some (upd (loc nm).sub.rows j (loc nm).sub.pnd m)
     by_cases e:m=j
     ·subst e
      rw[aV,aD (by simp)]
      have:m-(0+m*1+0)=0:=by omega
      rw[this];rfl
     rw[cR _ _ _ e,aC (by simp;omega)]
     have:=g7 m hm
     rw[<- e7,aJ,aD (by omega)] at this
     exact this
    ·obtain ⟨m1,m2,c,e',m3⟩:=g8 b' hb'
     exact ⟨by show b'<w'.heap.size;rw[hw'];simpa using (show b'<w.heap.size from m1),m2,c,e',(hwal b' hb').trans m3⟩
    ·have hm:m<xss.length:=by simpa using hm
     rw[hrow m hm]
     show RowAt _ _ _ _ (upd (loc nm).sub.rows j (loc nm).sub.pnd m) _
     by_cases e:m=j
     ·subst e
      rw[aV,aD rfl]
      exact hkeep ⟨rs,r1,r2,r3⟩
     rw[cR _ _ _ e,aC e]
     exact hkeep (g9.row m hm fun k ys hp=>by cases hp;exact e)
    ·have k1:m1<xss.length:=by simpa using h1
     have k2:m2<xss.length:=by simpa using h2
     have kb1:(upd (loc nm).sub.rows j (loc nm).sub.pnd m1).ownBlock=some b':=hb1
     have kb2:(upd (loc nm).sub.rows j (loc nm).sub.pnd m2).ownBlock=some b':=hb2
     by_cases q1:m1=j
     ·subst q1
      have q2:m2≠m1:=fun e=>h3 e.symm
      rw[aV] at kb1
      rw[cR _ _ _ q2] at kb2
      exact r4 m2 k2 q2 b' kb1 kb2
     rw[cR _ _ _ q1] at kb1
     by_cases q2:m2=j
     ·subst q2
      rw[aV] at kb2
      exact r4 m1 k1 q1 b' kb2 kb1
     rw[cR _ _ _ q2] at kb2
     exact g9.apart m1 m2 k1 k2 (fun k ys hp=>by cases hp;exact ⟨q1,q2⟩) h3 b' kb1 kb2
    have hm:m<xss.length:=by simpa using hm
    rw[hrow m hm]
    split
    ·exact hys
    exact g9.short m hm)
  exact ⟨_,_,_,hrun,hK,htn.1,htn.2⟩
end
end Go.Eng
end

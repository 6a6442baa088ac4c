/-
  Part 4: a symbolic executor over the model, contracts of functions and plain laws.
-/
import Derived.Test.YtenkehnacommfaaGreatDoorP3
import Derived.RangeFuncLeaves
import Derived.SizedLaws
import Derived.OpenShut
import Derived.DataReads
import Derived.Below
import Derived.Shelf.Abstract
import Derived.Lib.ItoaNum
import Derived.Test.YtenkehnacommfaaGreatDoorProg
import Derived.Shelf.Strconv.Itoa3
import Derived.Shelf.Strconv.AtoiAll
import Derived.Shelf.Strings.Repeat
import Derived.Shelf.Strings.SlTrimAscii
import Derived.Shelf.Strings.Search3
import Derived.Shelf.Strings.Builder1
import Derived.Lib.SmallJoins
import Derived.Lib.AtoiAllCases
import Derived.Lib.AppendIntMem
set_option linter.unusedVariables false
set_option linter.unusedSimpArgs false
set_option maxRecDepth 10000
set_option maxHeartbeats 80000000
noncomputable abbrev Tp:=Go.Proofs.Tryz.prog
noncomputable section
section
namespace Go.Eng
open Go.RowKit
section
variable {P:Program} {G:Ctx} {H:List HO} {loc:Nat->Loc} {ver:Nat->Nat} {w:World} {N:Nat}
theorem Ks:∀(args:List SV) (n t:Nat),look (Bl args n) t=if n<=t then args.getD (t-n) .any else .any
 | [],n,t=>by simp[Bl,look]
 | x::r,n,t=>by
  simp only[Bl,look];by_cases e:n=t
  ·subst e;simp[gU]
  rw[lV e];simp only[cD];rw[Ks r (n+1) t];by_cases h:n<=t
  ·rw[aD h,aD om];obtain ⟨k,rfl⟩:∃k,t=n+1+k:=⟨t-(n+1),om⟩;rw[show n+1+k-(n+1)=k by omega,show n+1+k-n=k+1 by omega];rfl
  rw[aC h,aC om]
theorem wI {E:Env} {args:List SV} {vs:List Value} (h:RelL E args vs) (hn:args.length<=N):TRel E N (Bl args 0) { tmps:=⟨vs⟩++Array.replicate (N-(⟨vs⟩:Array Value).size) undef,defers:=[] }:=by
 have hl:=h.length;refine ⟨by simp;omega,fun t=>?_⟩;rw[Ks,aD (aK _),qZ];by_cases ht:t<args.length
 ·have:=h.get t ht;have e:(⟨vs⟩++Array.replicate (N-(⟨vs⟩:Array Value).size) undef:Array Value).getD t undef=vs.getD t undef:=by
   rw[bM,Array.getElem?_append_left (by simp;omega),aB];simp
  rw[e];exact this
 have:args.getD t .any= .any:=by simp[aB,cG (oK ht)]
 rw[this];exact .any _
def ctx0 (w:World) (ok:Nat->Prop) (hok:∀b,ok b->b<w.heap.size):Ctx:=⟨w,ok,fun _=>False,fun _ _ h=>h,hok,itr0,aK _⟩
theorem Oh (ok:Nat->Prop) (hok:∀b,ok b->b<w.heap.size):Inv (ctx0 w ok hok) [] (fun _=>mkL none 0 0) (fun _=>0) w:=by
 refine ⟨aN _,rfl,rfl,rfl,fun _ _ _=>rfl,fun nm o h=>by simp at h,fun b hb=>?_,fun nm nm' o o' b h=>by simp at h⟩;obtain ⟨nm,o,h,_⟩:=hb;simp at h
theorem Inv.book (hI:Inv G H loc ver w) {D:Nat} {o:Obj} {ds:Option (List Deferred)} (hD:w.heap[D]? =some (.deferred ds)) (h0:G.w0.heap.size<=D) (hn0:G.itr.n0<=D) (hal:¬aliN H loc D):Inv G H loc ver (w.putObj D o)/\∀s v,Rel (envOf G H loc ver w) s v->Rel (envOf G H loc ver (w.putObj D o)) s v:=by
 have hoth:∀b,b≠D->(w.putObj D o).heap[b]? =w.heap[b]? :=fun b hb=>World.putObj_heap_other hb;have hcell:∀(a:Addr) (v:Value),w.cell? a=some v->(w.putObj D o).cell? a=some v:=by
  intro a v hv;by_cases e:a.block=D
  ·rw[World.cell?,e,hD] at hv;cases hv
  exact (World.cell?_of_block (hoth _ e)).trans hv
 have hok:∀b,okN G H loc w b->okN G H loc (w.putObj D o) b:=fun b hb=>⟨hb.1,by simpa using hb.2.1,hb.2.2⟩;have hcm:∀ {b:Nat} {x:Obj},w.heap[b]? =some x->isCM x=true->(w.putObj D o).heap[b]? =some x:=fun {b x} h hm=>
  (hoth b (fun e'=>by subst e';rw[hD] at h;cases h;cases hm)).trans h
 have hcs:∀ {b:Nat} {c:Array Value} {e:TypeId} {f:Nat × Nat},w.heap[b]? =some (.cells c e f)->(w.putObj D o).heap[b]? =some (.cells c e f):=fun {b c e f} h=>hcm h rfl;have hmv:∀ {l:List SV} {vs:List Value},RelL (envOf G H loc ver w) l vs->RelL (envOf G H loc ver (w.putObj D o)) l vs:=fun h=>
  RelL.move (E:=envOf G H loc ver w) (E':=envOf G H loc ver (w.putObj D o)) (p:=hasB H) (fun nm _ hn=>⟨hn,.inl ⟨rfl,rfl⟩⟩) (fun _ _ _ _=>.inl rfl) (fun _=>rfl) (fun b _ _ h hm=>hcm h hm) hok h h.under
 refine ⟨?_,fun s v h=>Rel.move (E:=envOf G H loc ver w) (E':=envOf G H loc ver (w.putObj D o)) (p:=hasB H) (fun nm _ hn=>⟨hn,.inl ⟨rfl,rfl⟩⟩) (fun _ _ _ _=>.inl rfl) (fun _=>rfl) (fun b _ _ h hm=>hcm h hm) hok h h.under⟩;refine ⟨by simpa using hI.size,hI.os,hI.tape,hI.output,fun b hb hm=>(hoth b om).trans (hI.frame b hb hm),fun nm x hx=>?_,hI.own,hI.sep⟩;have hO:=hI.objs nm x hx;cases x with
 | dead=>trivial
 | res=>trivial
 | fro k t xs=>obtain ⟨h1,h2,h3⟩:=hO;exact ⟨h1,h2,h3.mono (fun a v _ hv=>hcell a v hv) hok⟩
 | frc l=>obtain ⟨h1,b,vs,e,h2,h3,h4,h5⟩:=hO;exact ⟨h1,b,vs,e,h2,hok b h3,hcs h4,hmv h5⟩
 | cells l e=>obtain ⟨h1,b,vs,h2,h3,h4⟩:=hO;exact ⟨h1,b,vs,h2,hcs h3,hmv h4⟩
 | qm ks l=>obtain ⟨h1,h2,hbr,b,es,c,h3,h4,h5,h6⟩:=hO;exact ⟨h1,h2,hbr,b,es,c,h3,hcm h4 rfl,h5,hmv h6⟩
 | frm ks l=>obtain ⟨h1,hbr,b,es,c,h3,h4,h5,h6,h7⟩:=hO;exact ⟨h1,hbr,b,es,c,h3,hok b h4,hcm h5 rfl,h6,hmv h7⟩
 | vec k t xs e=>
  obtain ⟨h1,h2,h3,h4,vs,h5,h6⟩:=hO;refine ⟨h1,h2,h3,h4,vs,⟨h5.1,?_⟩,fun i hi=>(h6 i hi).mono (fun a v _ hv=>hcell a v hv) hok⟩;rcases h5.2 with h7 | ⟨g,cap,cur,h7,h8,h9,h10⟩
  ·exact .inl h7
  exact .inr ⟨g,cap,cur,h7,h8,hcs h9,h10⟩
 | gone=>exact ⟨hO.1,fun b hb=>by simpa [envOf] using hO.2 b hb⟩
 | lnt k t xs=>
  obtain ⟨h1,h2,h3,h4,h5⟩:=hO;refine ⟨h1,h2,h3,fun b x hb=>⟨(h4 b x hb).1,(hoth b fun e'=>?_).trans (h4 b x hb).2⟩,h5.mono (fun a v _ hv=>hcell a v hv) fun _ h=>h⟩;obtain ⟨k1,k2⟩:=h4 b x hb;subst e';have k2:w.heap[b]? =some x:=k2;rw[hD] at k2;cases k2;cases k1
 | map k t m=>
  obtain ⟨h1,h2,h3,b,es,h4,h5,h6⟩:=hO;exact ⟨h1,h2,h3,b,es,h4,(hoth b (fun e'=>by subst e';have h5:w.heap[b]? = _:=h5;rw[hD] at h5;cases h5)).trans h5,h6.mono (fun a v _ hv=>hcell a v hv) hok⟩
 | vv k s t xss pend eo ei=>
  obtain ⟨h1,h2,h3,h4,h5,⟨vs,h6,h7⟩,h8,h9⟩:=hO;have hnD:∀b,(b=D)->∀ {c:Array Value} {e:TypeId},w.heap[b]? ≠some (.cells c e (0,0)):=fun b e' c e h=>by subst e';rw[hD] at h;cases h
  have hkeep:∀ {base:Nat} {e:TypeId} {size n:Nat} {v:Value} {vs:List Value},w.ownsR base e size v n vs->(w.putObj D o).ownsR base e size v n vs:=fun {base e size n v vs} h=>by
   refine ⟨h.1,?_⟩;rcases h.2 with h5 | ⟨g,cap,cur,h5,h6,h7,h8⟩
   ·exact .inl h5
   exact .inr ⟨g,cap,cur,h5,h6,hcs h7,h8⟩
  have hrow:∀ {al:Nat->Prop} {h:Value} {xs:List t.T},RowAt (envOf G H loc ver w) al t ei h xs->RowAt (envOf G H loc ver (w.putObj D o)) al t ei h xs:=fun ⟨vs,q1,q2,q3⟩=>⟨vs,hkeep q1,q2,fun i hi=>(q3 i hi).mono (fun a v _ hv=>hcell a v hv) hok⟩;refine ⟨h1,h2,h3,h4,h5,⟨vs,hkeep h6,h7⟩,fun b hb=>?_,⟨h9.flat,fun i hi hp=>hrow (h9.row i hi hp),h9.apart,fun j ys hp=>by obtain ⟨q1,q2,q3⟩:=h9.grown j ys hp;exact ⟨q1,hrow q2,q3⟩,h9.short⟩⟩;obtain ⟨q1,q2,c,e,q3⟩:=h8 b hb;exact ⟨by simpa [envOf] using q1,q2,c,e,hcs q3⟩
 | mit m s l c=>
  obtain ⟨h1,h2,r,bm,h3,h4,h5⟩:=hO;exact ⟨h1,h2,r,bm,h3,(hoth r (fun e'=>by subst e';have h4:w.heap[r]? = _:=h4;rw[hD] at h4;cases h4)).trans h4,h5⟩
 | yst st n it=>
  obtain ⟨h1,h2,h3,h4,h5,h6,h7⟩:=hO;have hnal:¬(loc nm).al D:=fun h=>hal ⟨nm,_,_,_,hx,h⟩;have hDs:=(aF.1 hD).1;refine ⟨h1,fun b hb=>by simpa [envOf] using h2 b hb,by simpa [envOf] using h3,h4,h5,fun b hb hl=>⟨(h6 b hb hl).1,hok b (h6 b hb hl).2⟩,?_⟩;have:=G.itr.abides st _ w (w.putObj D o) h7 rfl rfl rfl si fun b hb hm=>hoth b fun e=>hm (by subst e;exact ⟨hn0,hDs,hnal⟩);refine cast (aP (fun M=>G.itr.J st M (w.putObj D o)) (funext fun b=>propext ⟨?_,?_⟩)) this
  ·rintro (⟨h8,h9,h10⟩ | ⟨h8,h9⟩)
   ·exact ⟨h8,by simpa [envOf] using h9,h10⟩
   exfalso;simp at h9;omega
  rintro ⟨h8,h9,h10⟩;exact .inl ⟨h8,by simpa [envOf] using h9,h10⟩
def Fn (a:Act):ResultVar->Sem Value
 | .tmp t=>pure (a.tmps.getD t undef)
 | .cell c t=>do loadVar t (<- asAddr (a.tmps.getD c undef))
theorem zH (hI:Inv G H loc ver w) {l:List (Nat × SV)} {a:Act} (hT:TRel (envOf G H loc ver w) N l a):∀ {rs:List ResultVar} {vs:List SV},yW P l H rs=some vs->
  ∃us:List Value,(rs.mapM (Fn a)).run P w= .ok us w/\RelL (envOf G H loc ver w) vs us
 | [],vs,h=>by simp[yW] at h;subst h;exact ⟨[],by simp[List.mapM_nil],.nil⟩
 | .tmp t::r,vs,h=>by
  simp only[yW] at h;split at h
  ·rename_i vs' h';cases h;obtain ⟨us,h1,h2⟩:=zH hI hT h';refine ⟨a.tmps.getD t undef::us,?_,.cons _ _ _ _ (hT.rel t) h2⟩;rw[uX];simp only[Fn,Sem.run_bind,Sem.run_pure,Result.andThen_ok,h1]
  cases h
 | .cell c t::r,vs,h=>by
  simp only[yW] at h;split at h
  ·rename_i nm off ag sz vs' hl ha hz h';obtain ⟨us,h1,h2⟩:=zH hI hT h';have hr:=hT.rel c;rw[hl] at hr;cases ho:hget H nm with
   | cells cs e=>
    rw[ho] at h;simp only at h;obtain ⟨b,hb,hv⟩:=wD hI hr (by simp[live,ho]);obtain ⟨h0,b',ws,h3,h4,h5⟩:=hI.objs nm _ (aX ho si);rw[hb] at h3;cases h3;have h4':w.heap[b]? =some (.cells ⟨ws⟩ e (0,0)):=h4;have key:∀s,oP ag off sz cs (fun x=>x=s)->∃u,(loadVar t ⟨b,off,none⟩).run P w= .ok u w/\Rel (envOf G H loc ver w) s u:=by
     intro s hs;obtain ⟨u,s',h6,h7,h8⟩:=nY (P:=P) (E:=envOf G H loc ver w) (base:=0) (b:=b) hs ha hz h5 (fun j v hj=>by simp[envOf,World.cell?,h4',hj]);subst h7;refine ⟨u,?_,h8⟩;have h6':(Instr.loadAt t (.pointer (some ⟨b,0+off,none⟩))).run P w= .ok u w:=h6;simpa [Instr.loadAt,Instr.sureAddr] using h6'
    have fin:∀s,oP ag off sz cs (fun x=>x=s)->vs=s::vs'->∃us:List Value,((ResultVar.cell c t::r).mapM (Fn a)).run P w= .ok us w/\RelL (envOf G H loc ver w) vs us:=by
     intro s hs e;subst e;obtain ⟨u,h6,h7⟩:=key s hs;refine ⟨u::us,?_,.cons _ _ _ _ h7 h2⟩;rw[uX];simp only[Fn,Sem.run_bind,hv,asAddr,Sem.run_pure,Result.andThen_ok,h6,h1]
    cases ag with
    | true=>
     simp only at h;cases hb2:Nat.ble (off+sz) cs.length with
     | true=>
      rw[hb2] at h;simp only[bR] at h;cases h;exact fin _ (by simp[oP,hb2,bY]) rfl
     | false=>rw[hb2] at h;cases h
    | false=>
     simp only at h;cases hb2:Nat.blt off cs.length with
     | true=>
      rw[hb2] at h;simp only[bR] at h;cases h;exact fin _ (by simp[oP,hb2,jR]) rfl
     | false=>rw[hb2] at h;cases h
   | _=>rw[ho] at h;cases h
  cases h
theorem aD2 {E:Env} {vs:List SV} {us:List Value} (h:RelL E vs us):Rel E (Bk vs) (if h:(us.toArray).size=1 then us.toArray[0] else .tuple us.toArray):=by
 cases h with
 | nil=>exact .tup _ _ .nil
 | cons s v l us h hl=>
  cases hl with
  | nil=>exact h
  | cons s' v' l' us' h' hl'=>
   have:¬((v::v'::us').toArray.size=1):=by simp
   rw[Ex this];exact .tup _ _ (.cons _ _ _ _ h (.cons _ _ _ _ h' hl'))
theorem mT (hI:Inv G H loc ver w) {l:List (Nat × SV)} {a:Act} (hT:TRel (envOf G H loc ver w) N l a) {fn:Func} {vs:List SV} (h:yW P l H fn.results.toList=some vs):
  ∃v,(results fn a.tmps).run P w= .ok v w/\Rel (envOf G H loc ver w) (Bk vs) v:=by
 obtain ⟨us,h1,h2⟩:=zH (P:=P) hI hT h;refine ⟨_,?_,aD2 h2⟩;have hm:(fn.results.mapM (Fn a)).run P w= .ok us.toArray w:=by
  rw[Array.mapM_eq_mapM_toList];simp only[Sem.run_map,h1,Result.andThen_ok]
 have e:results fn a.tmps=(do
   let vs <- fn.results.mapM (Fn a)
   pure (if h:vs.size=1 then vs[0] else .tuple vs)):=by
  unfold results;congr 1
 rw[e,Sem.run_bind,hm];rfl
theorem Reads.flat {w:World} {ok ok':Nat->Prop} {t:Ty} (ht:t.flat=true) {x:t.T} {cs:List Value} (h:Reads w ok t x cs):Reads w ok' t x cs:=by
 induction t generalizing cs with
 | int k=>exact h
 | bool=>exact h
 | str=>exact h
 | slice t _=>cases ht
 | pair a b iha ihb=>
  simp only[Ty.flat,aE] at ht;obtain ⟨c1,c2,e,h1,h2⟩:=h;exact ⟨c1,c2,e,iha ht.1 h1,ihb ht.2 h2⟩
theorem Fo (hG:∀b,¬G.mine b) (hI:Inv G H loc ver w) {s:SV} {v:Value} (h:Rel (envOf G H loc ver w) s v):Rel (env0 w fun b=>G.w0.heap.size<=b/\b<w.heap.size) (Dj H s) v:=by
 cases h with
 | ref nm k v hn h0 hk hv=>
  simp only[Dj];cases ho:hget H nm with
  | vec j t xs e=>
   simp only;cases hb:(Nat.beq j k&&t.flat) with
   | false=>exact .any v
   | true=>
    obtain ⟨h1,h2⟩:=and2 hb;obtain rfl:=bK.1 h1;have hn':=aX ho si;have hO:=hI.objs nm _ hn';have:=hv hO.1.symm;subst this;obtain ⟨_,_,hlen,hmax,vs,hown,hel⟩:=hO;refine .seq t xs _ ?_;rcases dJ hown with ⟨e1,e2,e3,e4⟩ | ⟨g,cur,e1,e2,e3,e4,e5,e6,e7⟩
    ·exact ⟨none,0,0,by simp[Core.head,envOf,e1,e2,e3],om,aN _,aK _,fun h=>absurd h (gR _)⟩
    have hgg:Owned H loc g:=⟨nm,_,hn',by simp[Owns,e1]⟩;have hg1:G.w0.heap.size<=g:=by
     rcases hI.own g hgg with h | h
     ·exact (hG g h).elim
     exact h
    have hg2:g<w.heap.size:=(aF.1 e3).1;refine ⟨some ⟨g,0,none⟩,(loc nm).len,(loc nm).cap,by simp[Core.head,envOf,e1],hlen,e4,hmax,fun h0=>⟨g,0,rfl,⟨hg1,hg2⟩,fun i hi=>⟨_,(hel i hi).length,?_,(hel i hi).flat h2⟩⟩⟩;intro j v hj;rw[aU] at hj;split at hj
    ·rw[bD,<- e7,aU] at hj;split at hj
     ·have e3':w.heap[g]? =some (.cells cur _ (0,0)):=e3;simp only[env0,World.cell?,e3'];simpa using hj
     cases hj
    cases hj
  | vv j s t xss pd eo ei=>
   cases pd with
   | some p=>exact .any v
   | none=>
   cases hb:Nat.beq j k with
   | false=>simp only[hb,cD];exact .any v
   | true=>
    simp only[hb,bR];obtain rfl:=bK.1 hb;have hn':=aX ho si;have hO:=hI.objs nm _ hn';have:=hv hO.1.symm;subst this;obtain ⟨_,_,_,hlen,hmax,⟨vs,hown,hel⟩,hal,hrows⟩:=hO;have hge:∀b,Owns (loc nm) (.vv j s t xss none eo ei) b->G.w0.heap.size<=b:=fun b hb=>by
     rcases hI.own b ⟨nm,_,hn',hb⟩ with h | h
     ·exact (hG b h).elim
     exact h
    refine .seq (.slice t) xss _ ?_;rcases dJ hown with ⟨e1,e2,e3,e4⟩ | ⟨g,cur,e1,e2,e3,e4,e5,e6,e7⟩
    ·exact ⟨none,0,0,by simp[Core.head,envOf,e1,e2,e3],om,aN _,aK _,fun h=>absurd h (gR _)⟩
    have hg1:G.w0.heap.size<=g:=hge g (.inl (by simp[e1]));have hg2:g<w.heap.size:=(aF.1 e3).1;refine ⟨some ⟨g,0,none⟩,(loc nm).len,(loc nm).cap,by simp[Core.head,envOf,e1],hlen,e4,hmax,fun h0=>⟨g,0,rfl,⟨hg1,hg2⟩,fun i hi=>⟨[(loc nm).sub.rows i],rfl,?_,?_⟩⟩⟩
    ·intro q v hq;have hq0:q=0:=by
      have:=(aL.1 hq).1;simpa using this
     subst hq0;have h1:=hel i hi;rw[<- e7,aU] at h1;split at h1
     ·have e3':w.heap[g]? =some (.cells cur _ (0,0)):=e3;simp only[env0,World.cell?,e3'];simp only[iV,kT] at hq;subst hq;simpa [Ty.size] using h1
     cases h1
    have hi':i<xss.length:=by rw[<- hlen];exact hi
    obtain ⟨rs,r1,r2,r3⟩:=hrows.row i hi' (fun _ _ hp=>by cases hp);have hsh:=hrows.short i hi';show Reads w _ (.slice t) (xss.getD i []) _;rcases r1.2 with ⟨f1,f2⟩ | ⟨g',cap,cur',f1,_,f3,f4,f5,f6,f7⟩
    ·have hl0:(xss.getD i []).length=0:=f2;exact ⟨none,0,0,by rw[f1],hl0.symm,aN _,aK _,fun h=>absurd h (gR _)⟩
    have hgo:(loc nm).al g':=r2 g' (by rw[f1];rfl);have hg1':G.w0.heap.size<=g':=hge g' (.inr hgo);have f3:w.heap[g']? =some (.cells cur' ei (0,0)):=f3;have hg2':g'<w.heap.size:=(aF.1 f3).1;refine ⟨some ⟨g',0,none⟩,(xss.getD i []).length,cap,by rw[f1],rfl,f4,hsh,fun h0=>⟨g',0,rfl,⟨hg1',hg2'⟩,fun m hm=>⟨_,(r3 m hm).length,?_,(r3 m hm).flat hrows.flat⟩⟩⟩;intro q v hq;rw[aU] at hq;split at hq
    ·rw[bD,<- f7,aU] at hq;split at hq
     ·simp only[env0,World.cell?,f3];simpa using hq
     cases hq
    cases hq
  | _=>exact .any v
 | val _ h=>exact .val v h
 | bl p d=>exact .bl p d
 | str s h=>exact .str s h
 | ifc _ h=>exact .ifc v h
 | _=>exact .any _
theorem Cm (hG:∀b,¬G.mine b) (hI:Inv G H loc ver w):∀ {l:List SV} {vs:List Value},RelL (envOf G H loc ver w) l vs->RelL (env0 w fun b=>G.w0.heap.size<=b/\b<w.heap.size) (l.map (Dj H)) vs
 | _,_,.nil=>.nil
 | _,_,.cons _ _ _ _ h hl=>.cons _ _ _ _ (Fo hG hI h) (Cm hG hI hl)
theorem Kt (hG:∀b,¬G.mine b) (hI:Inv G H loc ver w):∀ {l:List SV} {vs:List Value},RelL (envOf G H loc ver w) l vs->RelL (env0 w fun b=>G.w0.heap.size<=b/\b<w.heap.size) (l.map fun s=>match s with
   | .agg l=>.agg (l.map (Dj H))
   | s=>Dj H s) vs
 | _,_,.nil=>.nil
 | _,_,.cons s _ _ _ h hl=>by
  refine .cons _ _ _ _ ?_ (Kt hG hI hl);cases s with
  | agg l=>cases h with
   | agg _ vs hl=>exact .agg _ _ (Cm hG hI hl)
  | _=>exact Fo hG hI h
theorem Ze (hG:∀b,¬G.mine b) (hI:Inv G H loc ver w) {s:SV} {v:Value} (h:Rel (envOf G H loc ver w) s v):Rel (env0 w fun b=>G.w0.heap.size<=b/\b<w.heap.size) (aGy H s) v:=by
 cases s with
 | agg l=>cases h with
  | agg _ vs hl=>exact .agg _ _ (Cm hG hI hl)
 | tup l=>cases h with
  | tup _ vs hl=>exact .tup _ _ (Kt hG hI hl)
 | _=>exact Fo hG hI h
end
section
variable {P:Program}
theorem sJ {G:Ctx} {fn:Func} {tmps:Array Value} {R:Ending->World->Prop} {H:List HO} {loc:Nat->Loc} {ver:Nat->Nat}:∀(Ds:List Nat) {w:World},Inv G H loc ver w->Ds.Nodup->
  (∀D∈Ds,G.w0.heap.size<=D/\G.itr.n0<=D/\¬aliN H loc D/\w.heap[D]? =some (.deferred (some [])))->
  (∀w',Inv G H loc ver w'->(∀s v,Rel (envOf G H loc ver w) s v->Rel (envOf G H loc ver w') s v)->∃v,(results fn tmps).run P w'= .ok v w'/\R (.returned v) w')->LeavesInM Fence.wide 0 P fn tmps R (Ds.map Cl) .returning w
 | [],w,hI,_,_,hR=>by
  obtain ⟨v,h1,h2⟩:=hR w hI fun _ _ h=>h;exact ⟨v,h1,h2⟩
 | D::Ds,w,hI,hnd,hD,hR=>by
  obtain ⟨h1,h2,h3,h4⟩:=hD D (bW ..);refine ⟨si,.inl ⟨D,_,rfl,run_takeDeferred h4,?_⟩⟩;have hnd':=List.nodup_cons.1 hnd;have hbk:=hI.book (o:=.deferred none) h4 h1 h2 h3;refine sJ Ds hbk.1 hnd'.2 (fun D' hD'=>?_) fun w' h5 h6=>hR w' h5 fun s v h=>h6 s v (hbk.2 s v h);obtain ⟨k1,k2,k3,k4⟩:=hD D' (bP _ hD');exact ⟨k1,k2,k3,(World.putObj_heap_other (fun e=>hnd'.1 (by rw[<- e];exact hD'))).trans k4⟩
theorem Dx {G:Ctx} {fn:Func} {tmps:Array Value} {R:Ending->World->Prop} {H:List HO} {loc:Nat->Loc} {ver:Nat->Nat}:∀(Ds:List Nat) {w:World},Inv G H loc ver w->Ds.Nodup->
  (∀D∈Ds,G.w0.heap.size<=D/\G.itr.n0<=D/\¬aliN H loc D/\w.heap[D]? =some (.deferred (some [])))->
  (∀w',Inv G H loc ver w'->(∀s v,Rel (envOf G H loc ver w) s v->Rel (envOf G H loc ver w') s v)->w'.heap.size=w.heap.size->(∀b,¬b∈Ds->w'.heap[b]? =w.heap[b]?)->∃v,(results fn tmps).run P w'= .ok v w'/\R (.returned v) w')->LeavesInM Fence.wide 0 P fn tmps R (Ds.map Cl) .returning w
 | [],w,hI,_,_,hR=>by
  obtain ⟨v,h1,h2⟩:=hR w hI (fun _ _ h=>h) rfl fun _ _=>rfl;exact ⟨v,h1,h2⟩
 | D::Ds,w,hI,hnd,hD,hR=>by
  obtain ⟨h1,h2,h3,h4⟩:=hD D (bW ..);refine ⟨si,.inl ⟨D,_,rfl,run_takeDeferred h4,?_⟩⟩;have hnd':=List.nodup_cons.1 hnd;have hbk:=hI.book (o:=.deferred none) h4 h1 h2 h3;refine Dx Ds hbk.1 hnd'.2 (fun D' hD'=>?_) fun w' h5 h6 h7 h8=>hR w' h5 (fun s v h=>h6 s v (hbk.2 s v h)) (by rw[h7];simp) fun b hb=>?_
  ·obtain ⟨k1,k2,k3,k4⟩:=hD D' (bP _ hD');exact ⟨k1,k2,k3,(World.putObj_heap_other (fun e=>hnd'.1 (by rw[<- e];exact hD'))).trans k4⟩
  exact (h8 b fun h=>hb (bP _ h)).trans (World.putObj_heap_other fun e=>hb (by subst e;exact bW ..))
theorem ExtO.late {G:Ctx} {D:List Nat} {H0 H:List HO} {loc0 loc:Nat->Loc} {ver0 ver:Nat->Nat} {w0 w w':World} (hI0:Inv G H0 loc0 ver0 w0) (hx:ExtO D (envOf G H0 loc0 ver0 w0) (envOf G H loc ver w)) (hs:w'.heap.size=w.heap.size)
  (hb:∀b,b<w0.heap.size->w'.heap[b]? =w.heap[b]?):ExtO D (envOf G H0 loc0 ver0 w0) (envOf G H loc ver w'):=by
 refine ⟨fun b ho=>(hb b ho.2.1).trans (hx.blk b ho),fun b ho=>?_,hx.num,hx.ver,by have:=hx.size;show w0.heap.size<=w'.heap.size;rw[hs];exact this,fun k o hna hk ho=>(hb k (aF.1 hk).1).trans (hx.keep k o hna hk ho),fun nm b hg=>?_,hx.gho',hx.ali,hx.itr,hx.sub⟩
 ·obtain ⟨h1,h2,h3⟩:=hx.ok b ho;exact ⟨h1,by have h2':b<w.heap.size:=h2;show b<w'.heap.size;omega,h3⟩
 obtain ⟨h1,h2⟩:=hx.gho nm b hg;exact ⟨h1,(hb b ((hI0.objs nm _ hg.1).2 b hg.2)).trans h2⟩
theorem ExtO.ext {D:List Nat} {G:Ctx} {H0 H:List HO} {loc0 loc:Nat->Loc} {ver0 ver:Nat->Nat} {w0 w:World} (hI0:Inv G H0 loc0 ver0 w0) (hI:Inv G H loc ver w) (hx:ExtO D (envOf G H0 loc0 ver0 w0) (envOf G H loc ver w)) (hD:∀nm,hasB H0 nm=true->mem nm D=false):Ext (envOf G H0 loc0 ver0 w0) (envOf G H loc ver w):=
 ⟨⟨hx.blk,hx.ok,hx.num,fun nm hn=>hx.ver nm hn (hD nm hn),hI.os.trans hI0.os.symm,hI.tape.trans hI0.tape.symm,hI.output.trans hI0.output.symm,hx.size,hx.ali,hx.itr,fun nm hn he=>hx.sub nm hn (hD nm hn) he⟩,hx.keep,hx.gho,hx.gho'⟩
theorem gV {Γ:List Con} (hΓ:∀c∈Γ,aO P c) {A:Anns} {f:FuncId} {fn:Func} (hf:P.funcs[f]? =some fn) {args:List SV} {H:List HO} {R:SV->List HO->Prop} (hn:args.length<=fn.ntmps) (h:wA P Γ A fn args H R):HTri P f args H R:=by
 intro G loc ver w vs hY hI hr;unfold wA at h;cases hc:fn.body with
 | none=>rw[hc] at h;cases h
 | some c=>
  rw[hc] at h;obtain ⟨hwi,h⟩:=h;refine (callsIn_wide (n:=0)).1 (callsIn_of_wp_marks hf hc trivial ?_);have hT:=wI (N:=fn.ntmps) hr hn;refine wpIn_mono (uN hY hΓ c 0 (F:=Fence.wide) (n:=0) ⟨none,rfl⟩ hI hT (fun l hl=>by cases hl) h) ?_;rintro e a' w' ⟨l',H',loc',ver',h1,h2,h3,h4,h5,Ds,h6,h7,h8⟩;have hend:finH.endH P fn.results.toList R H l' H'->LeavesInM Fence.wide 0 P fn a'.tmps (fun e w'=>∃v,e= .returned v/\Res G (envOf G H loc ver w) R v w') a'.defers .returning w':=by
   intro he;rw[h6,eZ];refine Dx Ds h2 h7 (fun D hD=>⟨bL hI.size (h8 D hD).1,bL (bL G.low hI.size) (h8 D hD).1,(h8 D hD).2.1,(h8 D hD).2.2⟩) fun w2 h9 h10 h11 h12=>?_;unfold finH.endH at he;split at he;case h_2=>cases he
   rename_i us hu;obtain ⟨s,H2,hR,hp,hent,hlen,hgo,hH⟩:=he;have hT2:TRel (envOf G H' loc' ver' w2) fn.ntmps l' a':=⟨h3.size,fun t=>h10 _ _ (h3.rel t)⟩;obtain ⟨v,k1,k2⟩:=mT (P:=P) h9 hT2 hu;have hS:EntS [] H' H2 H.length:=qE hH;obtain ⟨hI2,hok2⟩:=xJ h9 om hS;have hxl:=ExtO.late hI h4 h11 fun b hb=>h12 b fun hm=>by have h13:w.heap.size<=b:=(h8 b hm).1;omega
   have hx2:=xK hxl om (fun nm hnm=>uM hgo hnm) hwi hS hok2;refine ⟨v,k1,v,rfl,s,H2,loc',_,hR,hI2,?_,ExtO.ext hI hI2 hx2 fun _ _=>rfl⟩;exact Rel.plain (mS hent k2) hp
  cases e with
  | normal=>exact hend h1
  | ret=>exact hend h1
  | _=>cases h1
theorem Ku {ok:Nat->Prop} {w0:World} {hok:∀b,ok b->b<w0.heap.size} {H:List HO} {loc:Nat->Loc} {ver:Nat->Nat} {w:World} {N:Nat} {l:List (Nat × SV)} {a:Act} {fn:Func} {fresh:Bool} {r:SV}
  (hI:Inv (ctx0 w0 ok hok) H loc ver w) (hT:TRel (envOf (ctx0 w0 ok hok) H loc ver w) N l a) (hb:bare r=true) (h:finV P fresh fn.results.toList r l H):
  ∃v,(results fn a.tmps).run P w= .ok v w/\Below w0.heap.size w0 w/\Rel (env0 w fun b=>(fresh=false/\ok b)\/(w0.heap.size<=b/\b<w.heap.size)) r v:=by
 have hbel:Below w0.heap.size w0 w:=⟨hI.os,hI.tape,hI.output,hI.size,fun b hb=>hI.frame b hb fun h=>h⟩;unfold finV at h;split at h;case h_2=>cases h
 rename_i vs hv;obtain ⟨v,hr,hrel⟩:=mT (P:=P) hI hT hv;refine ⟨v,hr,hbel,?_⟩;cases fresh with
 | true=>
  simp only[bR] at h;have h1:=mS h (Ze (fun _ h=>h) hI hrel);exact Rel.bare (E:=env0 w fun b=>w0.heap.size<=b/\b<w.heap.size) (E':=env0 w fun b=>(true=false/\ok b)\/(w0.heap.size<=b/\b<w.heap.size)) (fun _ _ _ h _=>h) (fun b hb=>Or.inr hb) h1 hb
 | false=>
  simp only[cD,bY] at h;obtain ⟨hI1,hx1⟩:=sF vs hI;have h1:=Nz (H:=jF H vs) (lend:=false) (Ext.refl _) (fun _ _ _ h=>zD hI1 h) (fun nm k v h=>nZ hI1 h) (fun nm k i v _=>oW nm k i v) (fun nm v h=>tD hI1 (Ext.refl _) (.inl rfl) h) (hrel.ext hx1);have h2:=mS h h1;refine Rel.bare (E:=envOf _ (jF H vs) loc ver w) (E':=env0 w _) (fun _ _ _ h _=>h) (fun b hb=>?_) h2 hb;rcases hb.1 with h3 | h3 | h3
  ·exact .inl ⟨rfl,h3⟩
  ·cases h3
  exact .inr ⟨h3,hb.2.1⟩
theorem Hn {Γ:List Con} (hΓ:∀c∈Γ,aO P c) {A:Anns} {fresh:Bool} {f:FuncId} {fn:Func} (hf:P.funcs[f]? =some fn) {args:List SV} {r:SV} (hn:args.length<=fn.ntmps) (hb:bare r=true) (h:body P Γ A fresh fn args r):Tri P fresh f args r:=by
 intro ok w vs hgw hok hr;unfold body at h;cases hc:fn.body with
 | none=>rw[hc] at h;cases h
 | some c=>
  rw[hc] at h;refine (callsIn_wide (n:=0)).1 (callsIn_of_wp_marks hf hc trivial ?_);have hI:=Oh ok hok;have hr':RelL (envOf (ctx0 w ok hok) [] (fun _=>mkL none 0 0) (fun _=>0) w) args vs:=by
   refine RelL.move (E:=env0 w ok) (E':=envOf (ctx0 w ok hok) [] (fun _=>mkL none 0 0) (fun _=>0) w) (p:=fun m=>Nat.blt m 0) (fun nm hp _=>by simp at hp) (fun nm hp=>by simp at hp) (fun h=>by cases h) (fun _ _ _ h _=>h) (fun b hb=>⟨.inl hb,hok b hb,fun ⟨nm,o,h,_⟩=>by simp at h⟩) hr hr.under
  have hT:=wI (N:=fn.ntmps) hr' hn;have hY:COK P (ctx0 w ok hok):=⟨(fun k M W us hk=>by cases hk),hgw⟩;refine wpIn_mono (uN hY hΓ c 0 (F:=Fence.wide) (n:=0) ⟨none,rfl⟩ hI hT (fun l hl=>by cases hl) h) ?_;rintro e a' w' ⟨l',H',loc',ver',h1,h2,h3,h4,h5,Ds,h6,h7,h8⟩;have hend:∀ {R:Ending->World->Prop},(∀w2,Inv (ctx0 w ok hok) H' loc' ver' w2->TRel (envOf (ctx0 w ok hok) H' loc' ver' w2) fn.ntmps l' a'->∃v,(results fn a'.tmps).run P w2= .ok v w2/\R (.returned v) w2)->LeavesInM Fence.wide 0 P fn a'.tmps R a'.defers .returning w':=by
   intro R hR;rw[h6,eZ];exact sJ Ds h2 h7 (fun D hD=>⟨(h8 D hD).1,aK _,(h8 D hD).2.1,(h8 D hD).2.2⟩) fun w2 h9 h10=>hR w2 h9 ⟨h3.size,fun t=>h10 _ _ (h3.rel t)⟩
  cases e with
  | normal=>
   refine hend fun w2 h9 h10=>?_;obtain ⟨v,k7,k8,k9⟩:=Ku h9 h10 hb h1;exact ⟨v,k7,v,rfl,k8,k9⟩
  | ret=>
   refine hend fun w2 h9 h10=>?_;obtain ⟨v,k7,k8,k9⟩:=Ku h9 h10 hb h1;exact ⟨v,k7,v,rfl,k8,k9⟩
  | _=>cases h1
theorem oA {Γ:List Con} (hΓ:∀c∈Γ,aO P c) {A:Anns} {f:FuncId} {fn:Func} (hf:P.funcs[f]? =some fn) {pos:Nat} {same:Bool} {args:List SV} {t:Ty} {xs:List t.T} {e:TypeId} {r:SV} {ys:List t.T} (hn:args.length<=fn.ntmps) (hfl:t.flat=true)
  (h:Ui P Γ A fn pos same args t xs e r ys):LTri P f pos same args t xs e r ys:=by
 intro ok w vs L hgw hok hblk hrow hr hpos;unfold Ui at h;cases hc:fn.body with
 | none=>rw[hc] at h;cases h
 | some c=>
  rw[hc] at h;refine (callsIn_wide (n:=0)).1 (callsIn_of_wp_marks hf hc trivial ?_);obtain ⟨G,hG⟩:∃G:Ctx,G= ⟨w,ok,fun b=>L.blk.map (·.1)=some b,fun b h1 h2=>(hok b h1).2 h2,fun b hb=>(hok b hb).1,itr0,aK _⟩:=⟨_,rfl⟩;obtain ⟨r1,r2,rs,r3,r4⟩:=hrow;have hown:∀b,Owned [HO.vec 1 t xs e] (fun _=>L) b->L.blk.map (·.1)=some b:=by
   rintro b ⟨nm,o,h1,h2⟩;cases nm with
   | zero=>simp at h1;subst h1;exact h2
   | succ k=>simp at h1
  have hokn:∀b,ok b->okN G [HO.vec 1 t xs e] (fun _=>L) w b:=fun b hb=>⟨.inl (by rw[hG];exact hb),(hok b hb).1,fun ho=>(hok b hb).2 (hown b ho)⟩;have hI:Inv G [HO.vec 1 t xs e] (fun _=>L) (fun _=>1) w:=by
   refine ⟨by rw[hG];exact aN _,by rw[hG],by rw[hG],by rw[hG],fun b _ _=>by rw[hG],fun nm o ho=>?_,fun b hb=>.inl (by rw[hG];exact hown b hb),fun nm nm' o o' b h1 h2 _ _=>?_⟩
   ·cases nm with
    | zero=>
     simp at ho;subst ho;exact ⟨rfl,Nat.one_pos,r1,r2,rs,r3,fun i hi=>Reads.flatJ hfl (r4 i hi)⟩
    | succ k=>simp at ho
   cases nm with
   | zero=>cases nm' with
    | zero=>rfl
    | succ k=>simp at h2
   | succ k=>simp at h1
  have hr':RelL (envOf G [HO.vec 1 t xs e] (fun _=>L) (fun _=>1) w) args vs:=
   RelL.move (E:=env0 w ok) (E':=envOf G [HO.vec 1 t xs e] (fun _=>L) (fun _=>1) w) (p:=fun m=>Nat.blt m 0) (fun nm hp _=>by simp at hp) (fun nm hp=>by simp at hp) (fun h=>by cases h) (fun _ _ _ h _=>h) hokn hr hr.under
  have hrs:RelL (envOf G [HO.vec 1 t xs e] (fun _=>L) (fun _=>1) w) (args.set pos (.ref 0 1)) vs:=by
   have hh:Rel (envOf G [HO.vec 1 t xs e] (fun _=>L) (fun _=>1) w) (.ref 0 1) L.head:=.ref 0 1 _ (by rfl) Nat.one_pos (aN _) fun _=>rfl;have:=hr'.set pos hh;obtain ⟨hlt,he⟩:=aL.1 hpos;rwa [show vs.set pos L.head=vs from by rw[<- he];exact rG hlt] at this
  have hT:=wI (N:=fn.ntmps) hrs (by simpa using hn);have hY:COK P G:=by rw[hG];exact ⟨(fun k M W us hk=>by cases hk),hgw⟩
  have hRo:RoundOK Fence.wide (envOf G [HO.vec 1 t xs e] (fun _=>L) (fun _=>1) w):=fun l hl=>by cases hl
  refine wpIn_mono (uN hY hΓ c 0 (F:=Fence.wide) (n:=0) ⟨none,rfl⟩ hI hT hRo h) ?_;rintro en a' w' ⟨l',H',loc',ver',h1,h2,h3,h4,h5,Ds,h6,h7,h8⟩;have h0s:G.w0.heap.size=w.heap.size:=by rw[hG]
  have h0n:G.itr.n0=0:=by rw[hG];rfl
  have hend:finL.endL P A c same fn.results.toList r t ys e l' H'->LeavesInM Fence.wide 0 P fn a'.tmps (fun en w'=>∃v L',en= .returned v/\(w'.os=w.os/\w'.tape=w.tape/\w'.output=w.output/\w.heap.size<=w'.heap.size/\∀b,b<w.heap.size->L.blk.map (·.1)≠some b->w'.heap[b]? =w.heap[b]?)/\
   (same=true->L'=L)/\(∀b,L'.blk.map (·.1)=some b->L.blk.map (·.1)=some b\/w.heap.size<=b)/\RowS w' L' t ys e/\((r= .ref 0 1/\v=L'.head)\/(plain r=true/\Rel (env0 w' fun _=>False) r v))) a'.defers .returning w':=by
   intro he;rw[h6,eZ];refine sJ Ds h2 h7 (fun D hD=>⟨by rw[h0s];exact (h8 D hD).1,by rw[h0n];exact aK _,(h8 D hD).2.1,(h8 D hD).2.2⟩) fun w2 h9 h10=>?_;unfold finL.endL at he;split at he;case h_2=>cases he
   rename_i us k t' zs e' hu ho;obtain ⟨q1,rfl,q2,q3⟩:=he;have hT2:TRel (envOf G H' loc' ver' w2) fn.ntmps l' a':=⟨h3.size,fun t=>h10 _ _ (h3.rel t)⟩;obtain ⟨v,k7,k8⟩:=mT (P:=P) h9 hT2 hu;have hq:=rM q2;cases hq;have hn0:=aX ho si;obtain ⟨o1,o2,o3,o4,rs',o5,o6⟩:=h9.objs 0 _ hn0;have o1:ver' 0=k:=o1;refine ⟨v,k7,v,⟨(loc' 0).toCore,L.al,L.sub⟩,rfl,⟨?_,?_,?_,?_,?_⟩,?_,?_,⟨o3,o4,rs',o5,fun i hi=>Reads.flatJ hfl (o6 i hi)⟩,?_⟩
   ·have:=h9.os;rw[hG] at this;exact this
   ·have:=h9.tape;rw[hG] at this;exact this
   ·have:=h9.output;rw[hG] at this;exact this
   ·have:=h9.size;rw[hG] at this;exact this
   ·intro b hb hne;have:=h9.frame b (by rw[h0s];exact hb) (by rw[hG];exact hne);rw[hG] at this;exact this
   ·intro hs;rw[hs] at q1;simp only[bR,aE,bK,nC] at q1;rcases h4.ver 0 (by rfl) q1.2 with ⟨_,e2⟩ | ⟨_,e2⟩
    ·have e2:(loc' 0).toCore=L.toCore:=e2;rw[e2]
    have e2:1<ver' 0:=e2;omega
   ·intro b hb;rcases h9.own b ⟨0,_,hn0,hb⟩ with h | h
    ·rw[hG] at h;exact .inl h
    rw[hG] at h;exact .inr h
   split at q3
   ·split at q3
    ·rename_i k' hk;subst q3;rw[hk] at k8;refine .inl ⟨rfl,?_⟩;generalize v=u at k8;cases k8 with
     | ref _ _ _ _ _ _ hh=>exact hh o1.symm
    cases q3
   obtain ⟨q4,q5⟩:=q3;exact .inr ⟨q4,(mS q5 k8).plain q4⟩
  cases en with
  | normal=>exact hend h1
  | ret=>exact hend h1
  | _=>cases h1
theorem RelL.mapTo {E E':Env} {g:SV->SV} (hg:∀s x,Rel E s x->Rel E' (g s) x):∀ {l:List SV} {vs:List Value},RelL E l vs->RelL E' (l.map g) vs
 | _,_,.nil=>.nil
 | _,_,.cons _ _ _ _ h hl=>.cons _ _ _ _ (hg _ _ h) (RelL.mapTo hg hl)
theorem aD3 {E E':Env} {g:SV->SV} (hg:∀s x,Rel E s x->Rel E' (g s) x) {l:List SV} {v:Value} (h:Rel E (Bk l) v):Rel E' (Bk (l.map g)) v:=by
 match l with
 | []=>cases h with
  | tup _ vs hl=>exact .tup _ _ (by simpa using RelL.mapTo hg hl)
 | [a]=>exact hg _ _ h
 | a::b::l=>cases h with
  | tup _ vs hl=>exact .tup _ _ (by simpa using RelL.mapTo hg hl)
theorem aG8 {E:Env} {nm k:Nat} {w:World} (hv:E.ver nm=k) {s:SV} {x:Value} (h:Rel E s x):Rel (envO w (E.loc nm)) (renb nm k s) x:=by
 cases s with
 | ref n j=>
  simp only[renb];cases hb:(Nat.beq n nm&&Nat.beq j k) with
  | false=>exact .any x
  | true=>
   simp only[aE,bK] at hb;obtain ⟨rfl,rfl⟩:=hb;cases h with
   | ref _ _ _ _ _ _ hh=>
    have:=hh hv.symm;exact .ref 0 1 x (by simp[envO]) Nat.one_pos (aN _) fun _=>this
 | _=>
  simp only[renb]
  first
  | (split<;>first | exact .any x | exact h.plain (by assumption))
  | (cases hp:plain _ with
   | true=>exact h.plain hp
   | false=>exact .any x)
theorem tG {Γ:List Con} (hΓ:∀c∈Γ,aO P c) {A:Anns} {f:FuncId} {fn:Func} (hf:P.funcs[f]? =some fn) {args:List SV} {r:SV} {t:Ty} {ys:List t.T} {e:TypeId} (hn:args.length<=fn.ntmps) (hfl:t.flat=true)
  (h:Uk P Γ A fn args r t ys e):OTri P f args r t ys e:=by
 intro ok w vs hgw hok hr;unfold Uk at h;cases hc:fn.body with
 | none=>rw[hc] at h;cases h
 | some c=>
  rw[hc] at h;refine (callsIn_wide (n:=0)).1 (callsIn_of_wp_marks hf hc trivial ?_);have hI:=Oh ok hok;have hr':RelL (envOf (ctx0 w ok hok) [] (fun _=>mkL none 0 0) (fun _=>0) w) args vs:=by
   refine RelL.move (E:=env0 w ok) (E':=envOf (ctx0 w ok hok) [] (fun _=>mkL none 0 0) (fun _=>0) w) (p:=fun m=>Nat.blt m 0) (fun nm hp _=>by simp at hp) (fun nm hp=>by simp at hp) (fun h=>by cases h) (fun _ _ _ h _=>h) (fun b hb=>⟨.inl hb,hok b hb,fun ⟨nm,o,h,_⟩=>by simp at h⟩) hr hr.under
  have hT:=wI (N:=fn.ntmps) hr' hn;have hY:COK P (ctx0 w ok hok):=⟨(fun k M W us hk=>by cases hk),hgw⟩;refine wpIn_mono (uN hY hΓ c 0 (F:=Fence.wide) (n:=0) ⟨none,rfl⟩ hI hT (fun l hl=>by cases hl) h) ?_;rintro en a' w' ⟨l',H',loc',ver',h1,h2,h3,h4,h5,Ds,h6,h7,h8⟩;have hend:finO.endO P fn.results.toList r t ys e l' H'->LeavesInM Fence.wide 0 P fn a'.tmps (fun en w'=>∃v L',en= .returned v/\Below w.heap.size w w'/\(∀b,L'.blk.map (·.1)=some b->w.heap.size<=b)/\RowS w' L' t ys e/\Rel (envO w' L') r v) a'.defers .returning w':=by
   intro he;rw[h6,eZ];refine sJ Ds h2 h7 (fun D hD=>⟨(h8 D hD).1,aK _,(h8 D hD).2.1,(h8 D hD).2.2⟩) fun w2 h9 h10=>?_;unfold finO.endO at he;split at he;case h_2=>cases he
   rename_i us hu;split at he;case h_2=>
    split at he;case h_2=>cases he
    obtain ⟨hr0,hy0⟩:=he;have hT2:TRel (envOf (ctx0 w ok hok) H' loc' ver' w2) fn.ntmps l' a':=⟨h3.size,fun t=>h10 _ _ (h3.rel t)⟩;obtain ⟨v,k7,k8⟩:=mT (P:=P) h9 hT2 hu;have hv:v= .slice none 0 0:=by
     have k8:Rel _ (.val (.slice none 0 0)) v:=k8;cases k8;rfl
    subst hr0;refine ⟨v,k7,v,mkL none 0 0,rfl,⟨h9.os,h9.tape,h9.output,h9.size,fun b hb=>h9.frame b hb fun h=>h⟩,fun b hb=>(by simp at hb),⟨hy0.symm,aK _,[],⟨si,.inl ⟨rfl,rfl⟩⟩,fun i hi=>absurd hi (bV _)⟩,?_⟩;exact .ref 0 1 v (by simp[envO]) Nat.one_pos (aN _) fun _=>by rw[hv];rfl
   rename_i nm k hfr;split at he;case h_2=>cases he
   rename_i k' t' zs e' ho;obtain ⟨rfl,rfl,q2,q3⟩:=he;have hT2:TRel (envOf (ctx0 w ok hok) H' loc' ver' w2) fn.ntmps l' a':=⟨h3.size,fun t=>h10 _ _ (h3.rel t)⟩;obtain ⟨v,k7,k8⟩:=mT (P:=P) h9 hT2 hu;have hq:=rM q2;cases hq;have hn0:=aX ho si;obtain ⟨o1,o2,o3,o4,rs',o5,o6⟩:=h9.objs nm _ hn0;refine ⟨v,k7,v,loc' nm,rfl,⟨h9.os,h9.tape,h9.output,h9.size,fun b hb=>h9.frame b hb fun h=>h⟩,?_,⟨o3,o4,rs',o5,fun i hi=>Reads.flatJ hfl (o6 i hi)⟩,?_⟩
   ·intro b hb;rcases h9.own b ⟨nm,_,hn0,hb⟩ with h | h
    ·cases h
    exact h
   exact mS q3 (aD3 (fun s x hs=>aG8 (E:=envOf (ctx0 w ok hok) H' loc' ver' w2) o1 hs) k8)
  cases en with
  | normal=>exact hend h1
  | ret=>exact hend h1
  | _=>cases h1
theorem tH {Γ:List Con} (hΓ:∀c∈Γ,aO P c) {A:Anns} {f:FuncId} {fn:Func} (hf:P.funcs[f]? =some fn) {args:List SV} {n:Nat} {items:Nat->List SV} (hn:args.length+1<=fn.ntmps) (h:Jv P Γ A fn args n items):TriI P f args n items:=by
 intro ok w vs l J soft sf hgw hok hr hsf hab hy hJ0;unfold Jv at h;cases hc:fn.body with
 | none=>rw[hc] at h;cases h
 | some c=>
  rw[hc] at h;refine (callsIn_wide (n:=0)).1 (callsIn_of_wp_marks hf hc trivial ?_);obtain ⟨G,hG⟩:∃G:Ctx,G= ⟨w,ok,fun b=>b<w.heap.size/\¬ok b,fun b h1 h2=>h2.2 h1,hok,⟨true,l,w.heap.size,ok,n,items,J,hab,soft,sf,hsf⟩,aN _⟩:=⟨_,rfl⟩;have hown:∀b,Owned [HO.yst (some 0) n items] (fun _=>(⟨⟨none,0,0⟩,fun b=>b<w.heap.size/\¬ok b,sub0⟩:Loc)) b->b<w.heap.size/\¬ok b:=by
   rintro b ⟨nm,o,h1,h2⟩;cases nm with
   | zero=>simp at h1;subst h1;exact h2
   | succ k=>simp at h1
  have hokn:∀b,ok b->okN G [HO.yst (some 0) n items] (fun _=>(⟨⟨none,0,0⟩,fun b=>b<w.heap.size/\¬ok b,sub0⟩:Loc)) w b:=fun b hb=>⟨.inl (by rw[hG];exact hb),hok b hb,fun ho=>(hown b ho).2 hb⟩;have hI:Inv G [HO.yst (some 0) n items] (fun _=>(⟨⟨none,0,0⟩,fun b=>b<w.heap.size/\¬ok b,sub0⟩:Loc)) (fun _=>1) w:=by
   refine ⟨by rw[hG];exact aN _,by rw[hG],by rw[hG],by rw[hG],fun b _ _=>by rw[hG],fun nm o ho=>?_,fun b hb=>.inl (by rw[hG];exact hown b hb),fun nm nm' o o' b h1 h2 _ _=>?_⟩
   ·cases nm with
    | zero=>
     simp at ho;subst ho;refine ⟨Nat.one_pos,fun b hb=>hb.1,by rw[hG];exact aN _,by rw[hG];rfl,by rw[hG];rfl,fun b hb hl=>?_,?_⟩
     ·have hb':b<w.heap.size:=by rw[hG] at hb;exact hb
      have hob:ok b:=aH fun hno=>hl ⟨hb',hno⟩;exact ⟨by rw[hG];exact hob,hokn b hob⟩
     rw[hG];refine cast (aP (fun M=>J (some 0) M w) (funext fun b=>propext ⟨fun h=>h.elim,?_⟩)) hJ0;rintro ⟨h8,h9,_⟩;have h8':w.heap.size<=b:=h8;have h9':b<w.heap.size:=h9;omega
    | succ k=>simp at ho
   cases nm with
   | zero=>cases nm' with
    | zero=>rfl
    | succ k=>simp at h2
   | succ k=>simp at h1
  have hr':RelL (envOf G [HO.yst (some 0) n items] (fun _=>(⟨⟨none,0,0⟩,fun b=>b<w.heap.size/\¬ok b,sub0⟩:Loc)) (fun _=>1) w) args vs:=
   by
    cases soft with
    | false=>
     exact RelL.move (E:=env0 w ok) (E':=envOf G [HO.yst (some 0) n items] (fun _=>(⟨⟨none,0,0⟩,fun b=>b<w.heap.size/\¬ok b,sub0⟩:Loc)) (fun _=>1) w) (p:=fun m=>Nat.blt m 0) (fun nm hp _=>by simp at hp) (fun nm hp=>by simp at hp) (fun h=>by cases h) (fun _ _ _ h _=>h) hokn hr hr.under
    | true=>
     obtain ⟨rfl,c,o,hc1,hc2,rfl⟩:=hr;refine .cons _ _ _ _ (.lelem _ 0 c o [sf.head] (.cons _ _ _ _ (.sft none _ (by rw[hG];rfl) (by rw[hG];exact ⟨rfl,rfl⟩)) .nil) (hokn c hc1) ?_) .nil;intro j u hj;cases j with
     | zero=>simp at hj;subst hj;exact hc2
     | succ j=>simp at hj
  have hyl:Rel (envOf G [HO.yst (some 0) n items] (fun _=>(⟨⟨none,0,0⟩,fun b=>b<w.heap.size/\¬ok b,sub0⟩:Loc)) (fun _=>1) w) (.yld 0) (.func (.yield l) #[] #[]):=by
   have:=Rel.yld (E:=envOf G [HO.yst (some 0) n items] (fun _=>(⟨⟨none,0,0⟩,fun b=>b<w.heap.size/\¬ok b,sub0⟩:Loc)) (fun _=>1) w) 0 (by rw[hG];rfl);rw[hG] at this ⊢;exact this
  have hT:=wI (N:=fn.ntmps) (RelL.cons _ _ _ _ hyl hr') (by simpa using hn);have hY:COK P G:=by rw[hG];exact ⟨hy,hgw⟩
  have hRo:RoundOK Fence.wide (envOf G [HO.yst (some 0) n items] (fun _=>(⟨⟨none,0,0⟩,fun b=>b<w.heap.size/\¬ok b,sub0⟩:Loc)) (fun _=>1) w):=fun l hl=>by cases hl
  refine wpIn_mono (uN hY hΓ c 0 (F:=Fence.wide) (n:=0) ⟨none,rfl⟩ hI hT hRo h) ?_;rintro e a' w' ⟨l',H',loc',ver',h1,h2,h3,h4,h5,Ds,h6,h7,h8⟩;have h0s:G.w0.heap.size=w.heap.size:=by rw[hG]
  have h0n:G.itr.n0=w.heap.size:=by rw[hG]
  have hend:finI.endI fn.results.toList l' H'->LeavesInM Fence.wide 0 P fn a'.tmps (fun e w'=>(∃v,e= .returned v)/\∃M,J (some n) M w'\/J none M w') a'.defers .returning w':=by
   intro he;rw[h6,eZ];refine sJ Ds h2 h7 (fun D hD=>⟨by rw[h0s];exact (h8 D hD).1,by rw[h0n];exact (h8 D hD).1,(h8 D hD).2.1,(h8 D hD).2.2⟩) fun w2 h9 h10=>?_;unfold finI.endI at he;have hres:∀k,fn.results.toList= []->k->∃v,(results fn a'.tmps).run P w2= .ok v w2/\k:=by
    intro k hrs hk;obtain ⟨v,h11,_⟩:=mT (P:=P) (fn:=fn) (vs:=[]) h9 (⟨h3.size,fun t=>h10 _ _ (h3.rel t)⟩:TRel (envOf G H' loc' ver' w2) fn.ntmps l' a') (by rw[hrs];rfl);exact ⟨v,h11,hk⟩
   split at he
   ·rename_i k n' it hrs ho;obtain ⟨v,h11,_⟩:=hres True hrs trivial;obtain ⟨_,_,_,hn',_,_,hJ⟩:=h9.objs 0 _ (aX ho si);refine ⟨v,h11,⟨v,rfl⟩,fun b=>w.heap.size<=b/\b<w2.heap.size/\¬(loc' 0).al b,.inl ?_⟩;have e1:n'=n:=by rw[hG] at hn';exact hn'
    rw[hG] at hJ;have e2:k=n:=he.trans e1;rw[e2] at hJ;exact hJ
   ·rename_i n' it hrs ho;obtain ⟨v,h11,_⟩:=hres True hrs trivial;obtain ⟨_,_,_,hn',_,_,hJ⟩:=h9.objs 0 _ (aX ho si);refine ⟨v,h11,⟨v,rfl⟩,fun b=>w.heap.size<=b/\b<w2.heap.size/\¬(loc' 0).al b,.inr ?_⟩;rw[hG] at hJ;exact hJ
   cases he
  cases e with
  | normal=>exact hend h1
  | ret=>exact hend h1
  | _=>cases h1
end
end Go.Eng
end
section
namespace Go.Eng
theorem aCi {k:IntKind} {n:Int} (h:(Lit.int k n).wf=true):inK k n:=by
 cases k<;>simp[Lit.wf,IntKind.min,IntKind.max,IntKind.bits,IntKind.signed] at h<;>simp only[inK,lo,hi]<;>omega
theorem aJx {E:Env} {k:IntKind} {n:Int} (h:(Lit.int k n).wf=true):Rel E (.val (.int k n)) (.int k n):=.val _ (aCi h)
theorem aHa {E:Env} (b:Bool):Rel E (.val (.bool b)) (.bool b):=.val _ trivial
theorem zI {H:Type} {P:Program} {e:TypeId}:∀ {l:List (DataW H)} {d:DataW H},d∈l->∀n∈d.weights P e,n∈DataW.weightsAll P e l
 | [],_,h,_,_=>by cases h
 | x::l,d,h,n,hn=>by
  simp only[DataW.weightsAll,cE];rcases bH.1 h with rfl | h
  ·exact .inl hn
  exact .inr (zI h n hn)
def okTy (P:Program):Nat->TypeId->Bool
 | 0,_=>false
 | n+1,t=>match P.underlying t with
  | some (.int _)=>true
  | some .bool=>true
  | some .string=>true
  | some (.slice e)=>(match tyOf P n e with
   | some ty=>Nat.beq (P.cellsOf e) ty.size&&(Nat.blt 0 ty.size&&(Nat.blt 0 (P.bytesOf e)&&okTy P n e))
   | none=>false)
  | some (.struct fs)=>okF P n fs.toList 0&&(match tyOf.flds P n fs.toList with
   | some ty=>Nat.beq (P.cellsOf t) ty.size
   | none=>false)
  | _=>false
where okF (P:Program):Nat->List Field->Nat->Bool
 | 0,_,_=>false
 | _+1,[],_=>false
 | n+1,f::r,o=>Nat.beq f.offset o&&((match tyOf P n f.type with
   | some ty=>Nat.beq (P.cellsOf f.type) ty.size
   | none=>false)&&(okTy P n f.type&&(match r with
    | []=>true
    | g::r=>okF P n (g::r) (o+P.cellsOf f.type))))
theorem Vo (b o k:Nat):(⟨b,o,none⟩:Addr).add k= ⟨b,o+k,none⟩:=by unfold Addr.add;split<;>simp_all
section
variable {H:Type} {enc:TypeId × Value->H} {P:Program} {w:World} {base:Nat} {spare:Nat->Bool} {held:Bool}
def RD (H:Type) (enc:TypeId × Value->H) (P:Program) (w:World) (base:Nat) (spare:Nat->Bool) (held:Bool) (n:Nat):Prop:=∀(t:TypeId) (ty:Ty),tyOf P n t=some ty->okTy P n t=true->∀(fuel:Nat) (cs:List Value) (x:DataW H × List MemPlace),
 DataW.trod enc P w base spare held fuel t cs=some x->(∀m∈x.1.weights P t,m<=reachBytes)->∃v:ty.T,Reads w (fun b=>b<w.heap.size) ty v cs
theorem Ho (n:Nat) (ih:∀k,k<n->RD H enc P w base spare held k):∀(k:Nat),k<=n->∀(l:List Field) (o:Nat) (ty:Ty),tyOf.flds P k l=some ty->okTy.okF P k l o=true->∀(fuel:Nat) (cs:List Value) (ys:List (DataW H × List MemPlace)),
  (∀(i:Nat) (f:Field),l[i]? =some f->∃y,ys[i]? =some y/\DataW.trod enc P w base spare held fuel f.type ((cs.drop f.offset).take (P.cellsOf f.type))=some y/\∀m∈y.1.weights P f.type,m<=reachBytes)->
  ∃v:ty.T,Reads w (fun b=>b<w.heap.size) ty v ((cs.drop o).take ty.size)
 | 0,_,l,o,ty,h1,_,_,_,_,_=>by cases l<;>simp[tyOf.flds] at h1
 | k+1,hk,[],o,ty,h1,_,_,_,_,_=>by simp[tyOf.flds] at h1
 | k+1,hk,[f],o,ty,h1,h2,fuel,cs,ys,h3=>by
  simp only[tyOf.flds] at h1;simp only[okTy.okF,h1,aE,bK] at h2;obtain ⟨rfl,e2,e3,_⟩:=h2;obtain ⟨y,_,h4,h5⟩:=h3 0 f rfl;rw[<- e2];exact ih k om _ _ h1 e3 fuel _ y h4 h5
 | k+1,hk,f::g::r,o,ty,h1,h2,fuel,cs,ys,h3=>by
  simp only[tyOf.flds] at h1;split at h1
  ·rename_i a b ha hb;cases h1;simp only[okTy.okF,ha,aE,bK] at h2;obtain ⟨rfl,e2,e3,e4⟩:=h2;obtain ⟨y,_,h4,h5⟩:=h3 0 f rfl;obtain ⟨v1,hv1⟩:=ih k om _ _ ha e3 fuel _ y h4 h5
   obtain ⟨v2,hv2⟩:=Ho n ih k om (g::r) (f.offset+P.cellsOf f.type) b hb e4 fuel cs ys.tail (fun i f' hf=>by
    obtain ⟨y,q1,q2⟩:=h3 (i+1) f' (by simpa using hf)
    exact ⟨y,by rw[List.getElem?_tail];exact q1,q2⟩)
   rw[e2] at hv1 hv2;refine ⟨(v1,v2),(cs.drop f.offset).take a.size,(cs.drop (f.offset+a.size)).take b.size,?_,hv1,hv2⟩;simp only[Ty.size];rw[List.take_add,gE]
  cases h1
theorem Kw:∀n,RD H enc P w base spare held n
 | 0=>fun t ty h=>by simp[tyOf] at h
 | n+1=>by
  have ih:∀k,k<n+1->RD H enc P w base spare held k:=fun k hk=>Kw k;intro t ty h1 h2 fuel cs x h3 h4;simp only[tyOf] at h1;simp only[okTy] at h2;split at h1
  ·rename_i k hu;cases h1;obtain ⟨m,rfl,_,hw⟩:=DataW.trod_int hu h3;exact ⟨m,rfl,aCi hw⟩
  ·rename_i hu;cases h1;obtain ⟨b,rfl,_⟩:=DataW.trod_bool hu h3;exact ⟨b,rfl⟩
  ·rename_i hu;cases h1;obtain ⟨s,rfl,rfl,_⟩:=DataW.trod_string hu h3;refine ⟨s.data.toList,si,?_⟩;have:=h4 s.data.toList.length (by simp[DataW.weights]);exact bL this de
  ·rename_i e hu;rw[hu] at h2;simp only at h2;cases hE:tyOf P n e with
   | none=>rw[hE] at h1;simp at h1
   | some te=>
   rw[hE] at h1 h2;simp only[jC,kT] at h1;subst h1;simp only[aE,bK] at h2;obtain ⟨e1,e2,e3,e4⟩:=h2;have e2:0<te.size:=by simpa using e2
   have e3:0<P.bytesOf e:=by simpa using e3
   rcases DataW.trod_slice hu h3 with ⟨rfl,_⟩ | ⟨a,len,cap,elems,rest,m,rfl,rfl,rfl,hb,hl,hm,hlen,hel,hsp,hns⟩
   ·exact ⟨([]:List te.T),Aj _ _ _⟩
   have hbig:=h4 ((elems.length+rest.length)*P.bytesOf e) (by simp[DataW.weights,hu]);have hlen':len<=maxL:=by
    have h5:elems.length+rest.length<=(elems.length+rest.length)*P.bytesOf e:=qJ _ e3;have h6:reachBytes<=maxL:=de;omega
   have each:∀i:Nat,∃v:te.T,i<len->∃es,w.cells? base (a.add (i*P.cellsOf e)) (P.cellsOf e)=some es/\Reads w (fun b=>b<w.heap.size) te v es:=by
    intro i;by_cases hi:i<len
    ·have h5:=hel i hi;obtain ⟨y,hy⟩:∃y,elems[i]? =some y:=⟨elems[i]'(by omega),by simp[hlen,hi]⟩;rw[hy] at h5;cases hc:w.cells? base (a.add (i*P.cellsOf e)) (P.cellsOf e) with
     | none=>rw[hc] at h5;simp at h5
     | some es=>
      rw[hc] at h5;simp only[oI] at h5
      obtain ⟨v,hv⟩:=ih n (dT n) e te hE e4 m es y h5 (fun q hq=>h4 q (by
       simp only[DataW.weights,hu,bH,cE]
       exact .inr (.inl (zI (mB.2 ⟨y,kU hy,rfl⟩) q hq))))
      exact ⟨v,fun _=>⟨es,rfl,hv⟩⟩
    exact ⟨te.dflt,fun h=>absurd h hi⟩
   refine ⟨(List.range len).map fun i=>(each i).choose,some a,len,cap,rfl,si,hl,hlen',fun h0=>?_⟩;obtain ⟨es0,hc0,hr0⟩:=(each 0).choose_spec h0;have hlt:a.block<w.heap.size:=by
    have:=World.cells?_block hc0 om;simpa [Addr.add] using this
   have hspot:a.spot=none:=by
    obtain ⟨_,_,hg⟩:=World.cells?_some hc0;have h6:=hg 0 om;obtain ⟨v0,hv0⟩:∃v0,es0[0]? =some v0:=by
     cases es0 with
     | nil=>have:=hr0.length;simp at this;omega
     | cons v _=>exact ⟨v,rfl⟩
    rw[hv0] at h6;have:=World.cell?_spot h6;simpa [Addr.add] using this
   obtain ⟨b,off,spot⟩:=a;simp only at hspot hlt;subst hspot;refine ⟨b,off,rfl,hlt,fun i hi=>?_⟩;obtain ⟨es,hc,hr⟩:=(each i).choose_spec hi;obtain ⟨_,hlen2,hg⟩:=World.cells?_some hc;refine ⟨es,by rw[hr.length],fun j v hj=>?_,?_⟩
   ·have hj':j<es.length:=(aL.1 hj).1;have h6:=hg j om;rw[hj] at h6;rw[Vo,Vo] at h6;rw[<- e1];exact h6
   have:List.getD (α:=te.T) ((List.range len).map fun i=>(each i).choose) i te.dflt=(each i).choose:=by
    simp[aB,hi]
   rw[this];exact hr
  ·rename_i fs hu;rw[hu] at h2;simp only[aE] at h2;obtain ⟨e1,e2⟩:=h2;rw[h1] at e2;have e2:=bK.1 e2;obtain ⟨xs,m,rfl,rfl,hlen,hxl,hall⟩:=DataW.trod_struct hu h3
   obtain ⟨v,hv⟩:=Ho n (fun k hk=>ih k om) n (aN _) fs.toList 0 ty h1 e1 m cs xs (fun i f hf=>by
    have hf':fs[i]? =some f:=by simpa using hf
    have h5:=hall i f hf';have hi:i<xs.length:=by rw[hxl];exact (aF.1 hf').1
    refine ⟨xs[i],by simp[hi],by rw[h5];simp[hi],fun q hq=>h4 q ?_⟩;simp only[DataW.weights,hu]
    exact DataW.weights_mem_each (j:=i) (t:=f.type) (d:=xs[i].1) (by simp[hf']) (by simp[hi]) q hq)
   refine ⟨v,?_⟩;rw[eX,mD om] at hv;exact hv
  cases h1
end
def Okd:(t:Ty)->t.T->Prop
 | .int k,n=>inK k n
 | .bool,_=>True
 | .str,s=>List.length (α:=UInt8) s<=maxL
 | .pair a b,x=>Okd a x.1/\Okd b x.2
 | .slice t,xs=>List.length (α:=t.T) xs<=maxL/\∀i,i<List.length (α:=t.T) xs->Okd t (List.getD (α:=t.T) xs i t.dflt)
theorem Reads.okd {w:World} {ok:Nat->Prop} {t:Ty} {x:t.T} {cs:List Value} (h:Reads w ok t x cs):Okd t x:=by
 induction t generalizing cs with
 | int k=>exact h.2
 | bool=>trivial
 | str=>exact h.2
 | pair a b iha ihb=>obtain ⟨c1,c2,rfl,h1,h2⟩:=h;exact ⟨iha h1,ihb h2⟩
 | slice t ih=>
  obtain ⟨a,n,c,rfl,hn,_,hm,hall⟩:=h;have hn':n=List.length (α:=t.T) x:=hn;refine ⟨om,fun i hi=>?_⟩;obtain ⟨b,off,_,_,hel⟩:=hall om;obtain ⟨es,_,_,hr⟩:=hel i om;exact ih hr
section
variable {H:Type} {enc:TypeId × Value->H} {P:Program} {w:World} {base b0:Nat} {spare:Nat->Bool} {held:Bool} {r:Reach} {t:TypeId} {v:Value} {d:DataW H} {ps:List MemPlace}
theorem arg_int {k:IntKind} (ht:P.underlying t=some (.int k)) (hval:Value.okWide P w r b0 t v) (hd:DataW.Trod enc P w base spare held t v d ps):∃n:Int,inK k n/\Rel (env0 w fun b=>b<w.heap.size) (.val (.int k n)) v:=by
 obtain ⟨n,rfl,_,_,hw⟩:=ChangeShapes.open_int ht hval hd;exact ⟨n,aCi hw,aJx hw⟩
theorem arg_bool (ht:P.underlying t=some .bool) (hval:Value.okWide P w r b0 t v) (hd:DataW.Trod enc P w base spare held t v d ps):∃b:Bool,Rel (env0 w fun b=>b<w.heap.size) (.val (.bool b)) v:=by
 obtain ⟨b,rfl,_⟩:=RowKit.open_bool ht hval hd;exact ⟨b,aHa b⟩
theorem arg_str (ht:P.underlying t=some .string) (hval:Value.okWide P w r b0 t v) (hd:DataW.Trod enc P w base spare held t v d ps) (hw:∀m∈d.weights P t,m<=reachBytes):∃s:Bx,s.length<=maxL/\Rel (env0 w fun b=>b<w.heap.size) (.str s) v:=by
 obtain ⟨s,rfl,rfl,_,hs⟩:=ChangeMaps.open_string ht hval hd;have h1:s.data.toList.length<=maxL:=bL (hw s.data.toList.length (by simp[DataW.weights])) de;refine ⟨s.data.toList,h1,?_⟩;have:=Rel.str (E:=env0 w fun b=>b<w.heap.size) s.data.toList h1;simpa using this
theorem arg_slice {e:TypeId} {n:Nat} {ty:Ty} (ht:P.underlying t=some (.slice e)) (hval:Value.okWide P w r b0 t v) (hd:DataW.Trod enc P w base spare held t v d ps) (h1:tyOf P n t=some (.slice ty)) (h2:okTy P n t=true)
  (hw:∀m∈d.weights P t,m<=reachBytes):∃xs:List ty.T,Okd (.slice ty) xs/\Rel (env0 w fun b=>b<w.heap.size) (.seq ty xs) v:=by
 obtain ⟨a,len,cap,rfl⟩:=WideShapes.okWide_slice ht hval;obtain ⟨fuel,hf⟩:=hd;obtain ⟨xs,hx⟩:=Kw n t _ h1 h2 fuel _ _ hf hw;refine ⟨xs,hx.okd,.seq _ _ _ ?_⟩;have e:(Value.slice a len cap).cells.toList= [.slice a len cap]:=by simp[Value.cells]
 rw[e] at hx;exact hx
theorem weight_of {ts:List TypeId} {ds:List (DataW H)} (h:(DataW.weightsEach P ts ds).all (· <=reachBytes)=true) (j:Nat) (ht:ts[j]? =some t) (hd:ds[j]? =some d):∀m∈d.weights P t,m<=reachBytes:=
 fun m hm=>by simpa using fC.1 h m (DataW.weights_mem_each ht hd m hm)
end
open Go.RowKit in
theorem law_calls {P:Program} {fresh:Bool} {f:FuncId} {args:List SV} (h:Tri P fresh f args (.val (.bool true))) (w:World) (vs:List Value) (hgw:GW P (fun b=>b<w.heap.size) w) (hr:RelL (env0 w fun b=>b<w.heap.size) args vs):
  Calls P f ⟨vs⟩ w fun e w'=>e= .returned (.bool true)/\Below w.heap.size w w':=by
 refine (h (fun b=>b<w.heap.size) w vs hgw (fun _ h=>h) hr).mono ?_;rintro e w' ⟨v,rfl,hb,hv⟩;cases hv;exact ⟨rfl,hb⟩
end Go.Eng
end
section
namespace Go.Eng
open Go.RowKit
def plainC:SV->Bool
 | .seq _ _=>true
 | .clo _ [] []=>true
 | s=>plain s
def Dk:List SV->Bool
 | []=>true
 | x::r=>plainC x&&Dk r
theorem Rel.plainC {E E':Env} (hw:E'.w=E.w) (hok:∀b,E.ok b->E'.ok b) {s:SV} {v:Value} (h:Rel E s v) (hp:Eng.plainC s=true):Rel E' s v:=by
 cases s with
 | seq t xs=>
  cases h with
  | seq _ _ _ h=>exact .seq t xs v (by rw[hw];exact h.mono (fun _ _ _ h=>h) hok)
 | clo f a b=>
  cases a with
  | nil=>
   cases b with
   | nil=>
    cases h with
    | clo _ _ _ va vb ha hb=>
     cases ha;cases hb;exact .clo f [] [] [] [] .nil .nil
   | cons y ys=>exact absurd hp (by simp[Eng.plainC,Eng.plain])
  | cons y ys=>exact absurd hp (by simp[Eng.plainC,Eng.plain])
 | _=>exact h.plain hp
theorem RelL.plainC {E E':Env} (hw:E'.w=E.w) (hok:∀b,E.ok b->E'.ok b):∀ {l:List SV} {vs:List Value},RelL E l vs->Dk l=true->RelL E' l vs
 | _,_,.nil,_=>.nil
 | _,_,.cons s v l vs h hl,hp=>by
  simp only[Dk,aE] at hp;exact .cons s v l vs (h.plainC hw hok hp.1) (RelL.plainC hw hok hl hp.2)
section
variable {P:Program}
theorem Yu {f:FuncId} {e0 e1:Int} {t:TypeId} {args:List SV} {r:SV} (hp:Dk args=true) (hr:plain r=true)
  (h:HTri P f (.ptr 0 0::args) [.cells [.val (.int .i64 e0)] t] (fun s H'=>s=r/\H'= [.cells [.val (.int .i64 e1)] t]))
  {H:List HO} {nm:Nat} (hn:H[nm]? =some (.cells [.val (.int .i64 e0)] t)):
  HTri P f (.ptr nm 0::args) H (fun s H'=>s=r/\H'=hset H nm (.cells [.val (.int .i64 e1)] t)):=by
 intro G loc ver w vs hY hI hrel;have hlt:nm<H.length:=(aL.1 hn).1;obtain ⟨hv,b,cs,hb,hheap,hcs⟩:=hI.objs nm _ hn;cases hrel with
 | cons _ v0 _ vs hp0 hrel=>
 cases hp0 with
 | ptr _ _ _ hhas hptr=>
 obtain ⟨b',hb',hv0⟩:=hptr hv;have hob:Owned H loc b:=⟨nm,_,hn,by show (loc nm).blk.map (·.1)=some b;rw[hb];rfl⟩
 let G':Ctx:=⟨w,okN G H loc w,fun c=>(loc nm).blk.map (·.1)=some c,fun c hc hm=>hc.2.2 ⟨nm,_,hn,hm⟩,fun c hc=>hc.2.1,G.itr,bL G.low hI.size⟩
 have hI':Inv G' [.cells [.val (.int .i64 e0)] t] (fun _=>loc nm) (fun _=>ver nm) w:=by
  refine ⟨aN _,rfl,rfl,rfl,fun _ _ _=>rfl,fun k o hk=>?_,fun c hc=>?_,fun k k' o o' c hk hk' _ _=>?_⟩
  ·have:k=0:=by have:=(aL.1 hk).1;simp at this;exact this
   subst this;simp only[iV,kT] at hk;subst hk;exact ⟨hv,b,cs,hb,hheap,hcs.plain rfl⟩
  ·obtain ⟨k,o,hk,ho⟩:=hc;have:k=0:=by have:=(aL.1 hk).1;simp at this;exact this
   subst this;simp only[iV,kT] at hk;subst hk;exact .inl ho
  have h1:=(aL.1 hk).1;have h2:=(aL.1 hk').1;simp at h1 h2;rw[h1,h2]
 have hok:∀c,okN G H loc w c->okN G' [.cells [.val (.int .i64 e0)] t] (fun _=>loc nm) w c:=fun c hc=>⟨.inl hc,hc.2.1,by
  rintro ⟨k,o,hk,ho⟩;have:k=0:=by have:=(aL.1 hk).1;simp at this;exact this
  subst this;simp only[iV,kT] at hk;subst hk
  exact hc.2.2 ⟨nm,_,hn,ho⟩⟩
 have hargs:RelL (envOf G' [.cells [.val (.int .i64 e0)] t] (fun _=>loc nm) (fun _=>ver nm) w) (.ptr 0 0::args) (v0::vs):=
  .cons _ _ _ _ (.ptr 0 0 v0 rfl fun _=>⟨b',hb',hv0⟩) (RelL.plainC (E:=envOf G H loc ver w) (E':=envOf G' [.cells [.val (.int .i64 e0)] t] (fun _=>loc nm) (fun _=>ver nm) w) rfl hok hrel hp)
 refine (h G' _ _ w _ ⟨hY.1,hY.now hI⟩ hI' hargs).mono ?_;rintro e w' ⟨v,rfl,s,H1,loc1,ver1,⟨rfl,rfl⟩,hI1,hr1,hx1⟩;refine ⟨v,rfl,s,hset H nm (.cells [.val (.int .i64 e1)] t),loc,ver,⟨rfl,rfl⟩,?_⟩;have hcore:(loc1 0).toCore=(loc nm).toCore:=by
  rcases hx1.ver 0 rfl with h1 | h1
  ·exact h1.2
  have h2:0<ver nm:=h1.1;omega
 have hblk1:(loc1 0).blk=(loc nm).blk:=aP Core.blk hcore;obtain ⟨_,c,cs1,hc,hheap1,hcs1⟩:=hI1.objs 0 _ rfl;have key:=hI.turn (H':=H.set nm (.cells [.val (.int .i64 e1)] t)) (loc':=loc) (ver':=ver) (w':=w') nm si (fun k hk=>⟨bZ hk,rfl,rfl⟩) (fun _=>eM (aQ hlt) rfl) (fun _=>.inl ⟨rfl,rfl,.inl rfl⟩)
  hI1.size hI1.os hI1.tape hI1.output (by rw[hn];intro h;cases h) (fun _=>by rw[aQ hlt];intro h;cases h) (fun st n it b h=>by rw[aQ hlt] at h;cases h)
  (fun d hd hno=>hI1.frame d hd fun hm=>hno _ hn hm) (fun o' d ho' hd=>by
   rw[aQ hlt] at ho';cases ho';exact .inl ⟨_,hn,hd⟩) (fun _ o' ho'=>by
   rw[aQ hlt] at ho';cases ho'
   exact ⟨hv,c,cs1,by rw[<- hblk1];exact hc,hheap1,hcs1.plain rfl⟩)
 exact ⟨key.1,hr1.plain hr,key.2⟩
def Jx (f:FuncId) (t:TypeId) (cl:List SV->Int->(SV->Int->Prop)->Prop):Con:=Jf f fun args H K=>match args with
 | .ptr nm 0::r=>(match hget H nm with
  | .cells [.val (.int .i64 e0)] t'=>bif Nat.beq t' t&&Dk r then cl r e0 fun s e1=>K s (hset H nm (.cells [.val (.int .i64 e1)] t)) else False
  | _=>False)
 | _=>False
theorem Dl {f:FuncId} {t:TypeId} {cl:List SV->Int->(SV->Int->Prop)->Prop} (he:xH P f)
  (h:∀r e0 K,cl r e0 K->∃s e1,K s e1/\plain s=true/\HTri P f (.ptr 0 0::r) [.cells [.val (.int .i64 e0)] t] (fun s' H'=>s'=s/\H'= [.cells [.val (.int .i64 e1)] t])):aO P (Jx f t cl):=by
 refine An he ?_;intro args H K hk;split at hk
 ·rename_i nm r;split at hk
  ·rename_i e0 t' hg;obtain ⟨hb,hk⟩:=bA hk;rw[aE] at hb;obtain rfl:=bK.1 hb.1;obtain ⟨s,e1,h1,h2,h3⟩:=h _ _ _ hk;refine ⟨_,?_,Yu hb.2 h2 h3 (aX hg (by intro h;cases h))⟩;rintro s' H' ⟨rfl,rfl⟩;exact h1
  cases hk
 cases hk
end
end Go.Eng
end
section
namespace Go.Eng
section
variable {H:Type} {enc:TypeId × Value->H} {P:Program} {w:World} {base b0:Nat} {spare:Nat->Bool} {held:Bool} {r:Reach} {t:TypeId} {v:Value} {d:DataW H} {ps:List MemPlace}
theorem arg_struct {fs:Array Field} {n:Nat} {ty:Ty} (ht:P.underlying t=some (.struct fs)) (hval:Value.okWide P w r b0 t v) (hd:DataW.Trod enc P w base spare held t v d ps) (h1:tyOf P n t=some ty) (h2:okTy P n t=true)
  (hw:∀m∈d.weights P t,m<=reachBytes):∃x:ty.T,Okd ty x/\∃cs,v= .agg ⟨cs⟩/\Reads w (fun b=>b<w.heap.size) ty x cs:=by
 obtain ⟨cs,rfl,_⟩:=WideShapes.okWide_struct ht hval;obtain ⟨fuel,hf⟩:=hd;obtain ⟨x,hx⟩:=Kw n t _ h1 h2 fuel _ _ hf hw;refine ⟨x,hx.okd,cs.toList,rfl,?_⟩;have e:(Value.agg cs).cells.toList=cs.toList:=by simp[Value.cells]
 rw[e] at hx;exact hx
theorem agg_str2 {ok:Nat->Prop} {x:Bx × Bx} {cs:List Value} (h:Reads w ok (.pair .str .str) x cs):Rel (env0 w ok) (.agg [.str x.1,.str x.2]) (.agg ⟨cs⟩):=by
 obtain ⟨c1,c2,rfl,⟨rfl,l1⟩,⟨rfl,l2⟩⟩:=h;exact .agg _ _ (.cons _ _ _ _ (.str _ l1) (.cons _ _ _ _ (.str _ l2) .nil))
theorem agg_str3 {ok:Nat->Prop} {x:Bx × Bx × Bx} {cs:List Value} (h:Reads w ok (.pair .str (.pair .str .str)) x cs):Rel (env0 w ok) (.agg [.str x.1,.str x.2.1,.str x.2.2]) (.agg ⟨cs⟩):=by
 obtain ⟨c1,c2,rfl,⟨rfl,l1⟩,⟨c3,c4,rfl,⟨rfl,l2⟩,⟨rfl,l3⟩⟩⟩:=h;exact .agg _ _ (.cons _ _ _ _ (.str _ l1) (.cons _ _ _ _ (.str _ l2) (.cons _ _ _ _ (.str _ l3) .nil)))
theorem agg_roof {ok:Nat->Prop} {a b c d:Ty} {x:(Ty.pair (.slice a) (.pair (.slice b) (.pair (.slice c) (.slice d)))).T} {cs:List Value} (h:Reads w ok (.pair (.slice a) (.pair (.slice b) (.pair (.slice c) (.slice d)))) x cs):Rel (env0 w ok) (.agg [.any,.any,.any,.seq d x.2.2.2]) (.agg ⟨cs⟩):=by
 obtain ⟨c1,c2,rfl,⟨_,_,_,rfl,_⟩,⟨c3,c4,rfl,⟨_,_,_,rfl,_⟩,⟨c5,c6,rfl,⟨_,_,_,rfl,_⟩,h4⟩⟩⟩:=h;have h5:=h4;obtain ⟨_,_,_,rfl,_⟩:=h5;exact .agg _ _ (.cons _ _ _ _ (.any _) (.cons _ _ _ _ (.any _) (.cons _ _ _ _ (.any _) (.cons _ _ _ _ (.seq _ _ _ h4) .nil))))
theorem arg_arr3 {k:IntKind} {e:TypeId} (ht:P.underlying t=some (.array 3 e)) (he:P.underlying e=some (.int k)) (hc:P.cellsOf e=1) (hct:P.cellsOf t=3) (hd:DataW.Trod enc P w base spare held t v d ps):
  ∃x y z:Int,(inK k x/\inK k y/\inK k z)/\Rel (env0 w fun b=>b<w.heap.size) (.agg [.val (.int k x),.val (.int k y),.val (.int k z)]) v:=by
 obtain ⟨fuel,hf⟩:=hd;obtain ⟨xs,m,rfl,ex,hlen,hl,hel⟩:=DataW.trod_array ht hf;rw[hct] at hlen;obtain ⟨cs,rfl⟩:∃cs,v= .agg cs:=by cases v<;>first | exact ⟨_,rfl⟩ | (simp[Value.cells] at hlen)
 have e0:(Value.agg cs).cells.toList=cs.toList:=by simp[Value.cells]
 rw[e0] at hlen hel;rw[hc] at hel;have one:∀i,i<3->∃n,(cs.toList.drop (i*1)).take 1= [.int k n]/\inK k n:=fun i hi=>by
  have h:=hel i hi;rw[aM om] at h;obtain ⟨n,h1,_,h2⟩:=DataW.trod_int he h;exact ⟨n,h1,aCi h2⟩
 obtain ⟨x,hx,kx⟩:=one 0 de;obtain ⟨y,hy,ky⟩:=one 1 de;obtain ⟨z,hz,kz⟩:=one 2 de;refine ⟨x,y,z,⟨kx,ky,kz⟩,?_⟩;obtain ⟨l⟩:=cs;simp only at hlen hx hy hz
 match l,hlen with
 | [a,b,c],_=>
  simp at hx hy hz;subst hx hy hz;exact .agg _ _ (.cons _ _ _ _ (.val _ kx) (.cons _ _ _ _ (.val _ ky) (.cons _ _ _ _ (.val _ kz) .nil)))
end
end Go.Eng
end
section
namespace Go.Eng
open Go.Shelf
theorem kO {P:Program} {c:Con} {fn:Func} (hf:P.funcs[c.f]? =some fn) (h:∀args K,c.cl args K→∃r,K r∧Tris P c.fresh c.f args r) (hn:(fn.name== "runtime.NumGoroutine")=false:=by kernel_rfl) (hb:fn.body.isSome=true:=by rfl) (hl:(c.lin,c.own,c.hp)=(none,none,none):=by rfl):aO P c:=by
 obtain ⟨b,hb⟩:=Option.isSome_iff_exists.1 hb;exact Uv hl (Go.Proofs.enters_of hf hn hb) h
theorem triB {P:Program} {Γ:List Con} {A:Anns} {fresh:Bool} {f:FuncId} {fn:Func} {args:List SV} {r:SV} {n:Nat} (hf:P.funcs[f]? =some fn) (hm:fn.ntmps=n) (hΓ:∀c∈Γ,aO P c) (h:body P Γ A fresh fn args r) (hn:Nat.ble args.length n=true:=by rfl) (hb:bare r=true:=by rfl):Tri P fresh f args r:=
 Hn hΓ hf (by rw[hm];exact fF hn) hb h
structure KB (P:Program) (Γ:List Con) (A:Anns) (fresh:Bool) (f:FuncId) (fn:Func) (n:Nat) (args:List SV) (K:SV->Prop):Prop where
 ex:(∀r,body P Γ A fresh fn args r->Nat.ble args.length n=true->bare r=true->Tri P fresh f args r)->∃r,K r/\Tris P fresh f args r
theorem kb {P:Program} {Γ:List Con} {A:Anns} {fresh:Bool} {f:FuncId} {fn:Func} {n:Nat} {args:List SV} {K:SV->Prop} {r:SV} (hK:K r) (h:body P Γ A fresh fn args r) (hn:Nat.ble args.length n=true:=by rfl) (hb:bare r=true:=by rfl) (ht:Tri P fresh f args r->Tris P fresh f args r:=by exact id):KB P Γ A fresh f fn n args K:=⟨fun T=>⟨r,hK,ht (T r h hn hb)⟩⟩
theorem kQ {P:Program} {Γ:List Con} {f:FuncId} {fresh:Bool} {cl:List SV→(SV→Prop)→Prop} {fn:Func} {n:Nat} (A:Anns) (hf:P.funcs[f]? =some fn) (hm:fn.ntmps=n) (hΓ:∀c∈Γ,aO P c) (h:∀args K,cl args K→KB P Γ A fresh f fn n args K) (hn:(fn.name== "runtime.NumGoroutine")=false:=by kernel_rfl) (hb:fn.body.isSome=true:=by rfl):aO P (aR f fresh cl):=
 kO (c:=aR f fresh cl) hf (fun args K hc=>(h args K hc).ex fun r h2 h3 h4=>triB hf hm hΓ h2 h3 h4) hn hb
theorem kn {P:Program}:∀c∈([]:List Con),aO P c:=fun _ h=>absurd h iJ
theorem kc {P:Program} {c:Con} {Γ:List Con} (h:aO P c) (hs:∀x∈Γ,aO P x):∀x∈c::Γ,aO P x:=fun x hx=>(bH.1 hx).elim (fun e=>e ▸ h) (hs x)
theorem pI {p:SV->Prop} {s:SV} (h:p s):Pin p:=⟨⟨s,h⟩⟩
theorem pJ {x:SV} {u:List HO} {C:Prop} (h:C):Pinned (x=x) (u=u) C:=.mk rfl rfl h
theorem ZF {p:Prop} (h:p:=by ((conv=>whnf);(repeat' first | exact trivial | rfl | apply aA))):p:=h
theorem ZE {p:Prop} (h:p:=by (repeat' first | exact trivial | rfl | exact Nat.one_pos | (refine aA ?_ ?_) | omega | ((conv=>whnf);(refine aA ?_ ?_)) | ((conv=>whnf);exact trivial))):p:=h
theorem ZEx {p q:Prop} (x:q) (h:q->p:=by (intro x;(repeat' first | exact trivial | rfl | exact Nat.one_pos | exact x | (refine aA ?_ ?_) | omega | ((conv=>whnf);(refine aA ?_ ?_)) | ((conv=>whnf);exact trivial)))):p:=h x
theorem ZRF {p:Prop} (h:p:=by ((repeat' first | refine ZR ?_ | refine Zg fun _=>?_);(conv=>whnf);(repeat' first | exact trivial | rfl | apply aA))):p:=h
theorem ZGF {p:Prop} (h:p:=by ((repeat' first | refine ZG ?_ | refine Zg fun _=>?_);(conv=>whnf);(repeat' first | exact trivial | rfl | apply aA))):p:=h
theorem ZHF {p:Prop} (h:p:=by ((repeat' first | refine ZH ?_ | refine Zg fun _=>?_);(conv=>whnf);(repeat' first | exact trivial | rfl | apply aA))):p:=h
theorem ZPF {p:Prop} (h:p:=by ((repeat' first | refine ZP ?_ | refine Zg fun _=>?_);(conv=>whnf);(repeat' first | exact trivial | rfl | apply aA))):p:=h
theorem ZNF {p:Prop} (h:p:=by ((repeat' first | refine ZN ?_ | refine Zg fun _=>?_);(conv=>whnf);(repeat' first | exact trivial | rfl | apply aA))):p:=h
theorem ZXF {p:Prop} (h:p:=by ((repeat' first | refine ZX ?_ | refine Zg fun _=>?_);(conv=>whnf);(repeat' first | exact trivial | rfl | apply aA))):p:=h
theorem ZFx {p q:Prop} (x:q) (h:q->p:=by (intro x;(conv=>whnf);(repeat' first | exact trivial | rfl | exact x | apply aA))):p:=h x
theorem ZRx {p q:Prop} (x:q) (h:q->p:=by (intro x;(repeat' first | refine ZR ?_ | refine Zg fun _=>?_);(conv=>whnf);(repeat' first | exact trivial | rfl | exact x | apply aA))):p:=h x
theorem ZGx {p q:Prop} (x:q) (h:q->p:=by (intro x;(repeat' first | refine ZG ?_ | refine Zg fun _=>?_);(conv=>whnf);(repeat' first | exact trivial | rfl | exact x | apply aA))):p:=h x
theorem ZHx {p q:Prop} (x:q) (h:q->p:=by (intro x;(repeat' first | refine ZH ?_ | refine Zg fun _=>?_);(conv=>whnf);(repeat' first | exact trivial | rfl | exact x | apply aA))):p:=h x
end Go.Eng
end
section
namespace IB
def valB (B:Nat):List Int->Int
 | []=>0
 | x::r=>x+B*valB B r
def InB (B:Nat) (l:List Int):Prop:=∀x∈l,0<=x/\x<B
theorem InB.nil {B:Nat}:InB B []:=fun x h=>by simp at h
theorem InB.cons {B:Nat} {x:Int} {l:List Int}:InB B (x::l)↔(0<=x/\x<B)/\InB B l:=by
 unfold InB;simp
theorem InB.append {B:Nat} {l m:List Int}:InB B (l++m)↔InB B l/\InB B m:=by
 unfold InB;constructor
 ·intro h;exact ⟨fun x hx=>h x (sP _ hx),fun x hx=>h x (List.mem_append_right _ hx)⟩
 rintro ⟨h1,h2⟩ x hx;rcases cE.1 hx with h | h
 ·exact h1 x h
 exact h2 x h
theorem InB.get {B:Nat} {l:List Int} (h:InB B l) {i:Nat} (hi:i<l.length):0<=l.getD i 0/\l.getD i 0<B:=by
 have e:l.getD i 0=l[i]:=by simp[aB,hi]
 rw[e];exact h _ (cT hi)
theorem InB.getD0 {B:Nat} (hB:0<B) {l:List Int} (h:InB B l) (i:Nat):0<=l.getD i 0/\l.getD i 0<B:=by
 by_cases hi:i<l.length
 ·exact h.get hi
 have e:l.getD i 0=0:=by rw[aB,cG om];rfl
 rw[e];omega
theorem dZ {B:Nat}:∀ {l:List Int},InB B l->0<=valB B l
 | [],_=>fX _
 | x::r,h=>by
  obtain ⟨h1,h2⟩:=InB.cons.1 h;have:=dZ h2;have:0<=(B:Int)*valB B r:=dH om this;simp only[valB];omega
theorem vT {B:Nat}:∀ {l:List Int},InB B l->valB B l<(B:Int)^l.length
 | [],_=>by simp[valB]
 | x::r,h=>by
  obtain ⟨h1,h2⟩:=InB.cons.1 h;have h3:=vT h2;have h4:(B:Int)*(valB B r+1)<=B*B^r.length:=aV om om;rw[cO,eT] at h4;simp only[valB,bS];rw[gH,bJ (_ ^ _)];omega
theorem pW {B:Nat} (m:List Int):∀l:List Int,valB B (l++m)=valB B l+(B:Int)^l.length*valB B m
 | []=>by simp[valB]
 | x::r=>by
  simp only[gN,valB,bS];rw[pW m r,cO,gH,bJ (_ ^ _) (B:Int),cP];omega
theorem uQ {B:Nat} (l:List Int) (x:Int):valB B (l++ [x])=valB B l+(B:Int)^l.length*x:=by
 rw[pW];simp[valB]
theorem wL {B:Nat} (n:Nat):valB B (List.replicate n 0)=0:=by
 induction n with
 | zero=>rfl
 | succ n ih=>rw[List.replicate_succ];simp[valB,ih]
def aI (B:Nat) (n:Nat):List Int:=if h:2<=B/\0<n then ((n%B:Nat):Int)::aI B (n/B) else []
termination_by n
decreasing_by exact yN h.2 om
theorem dM (B:Nat):aI B 0= []:=by rw[aI,Ex om]
theorem Fv {B n:Nat} (hB:2<=B) (hn:0<n):aI B n=((n%B:Nat):Int)::aI B (n/B):=by rw[aI,dif_pos ⟨hB,hn⟩]
theorem cR {B:Nat} (hB:2<=B):∀n:Nat,InB B (aI B n):=by
 intro n
 induction n using Nat.strongRecOn with
 | _ n ih=>
  by_cases hn:0<n
  ·rw[Fv hB hn,InB.cons];have:=dO n (show 0<B by omega);exact ⟨⟨om,om⟩,ih _ (yN hn om)⟩
  obtain rfl:n=0:=om;rw[dM];exact InB.nil
theorem iT {B:Nat} (hB:2<=B):∀n:Nat,valB B (aI B n)=n:=by
 intro n
 induction n using Nat.strongRecOn with
 | _ n ih=>
  by_cases hn:0<n
  ·rw[Fv hB hn];simp only[valB];rw[ih _ (yN hn om)];have:=Nat.mod_add_div n B;exact_mod_cast this
  obtain rfl:n=0:=om;rw[dM];rfl
theorem rP {B n:Nat} (hB:2<=B):aI B n= []↔n=0:=by
 constructor
 ·intro h;have:=iT hB n;rw[h] at this;simp[valB] at this;omega
 rintro rfl;exact dM B
theorem Lj {B:Nat} (hB:2<=B):∀ {l:List Int},InB B l->(∀h:l≠ [],l.getLast h≠0)->l=aI B (valB B l).toNat
 | [],_,_=>by simp[valB,dM]
 | x::r,h,hl=>by
  obtain ⟨h1,h2⟩:=InB.cons.1 h;obtain ⟨a,rfl⟩:=bT h1.1;have ha:a<B:=om;have hv:=dZ h2;obtain ⟨b,hb⟩:=bT hv;have e:(valB B ((a:Int)::r)).toNat=a+B*b:=by
   simp only[valB];rw[hb];have:(a:Int)+(B:Int)*(b:Int)=((a+B*b:Nat):Int):=by simp
   show ((a:Int)+(B:Int)*(b:Int)).toNat= _;rw[this];exact aJ _
  rw[e];have hpos:0<a+B*b:=by
   cases r with
   | nil=>
    have:=hl si;simp at this;omega
   | cons y s=>
    have ih:=Lj hB h2 (fun hne=>by have:=hl si;simpa using this);have:b≠0:=fun h0=>by
     subst h0;rw[hb] at ih;rw[aJ,dM] at ih;cases ih
    have:=vK (show 0<B by omega) (dP this);omega
  rw[Fv hB hpos];have e1:(a+B*b)%B=a:=by rw[Nat.add_mul_mod_self_left,eB ha]
  have e2:(a+B*b)/B=b:=by rw[Nat.add_mul_div_left _ _ om,wT ha,eJ]
  rw[e1,e2]
  have ih:=Lj hB h2 (fun hne=>by
   have:=hl si;rw[List.getLast_cons hne] at this
   exact this)
  rw[hb] at ih;rw[aJ] at ih;rw[<- ih]
def gW (l:List Int):List Int:=(l.reverse.dropWhile (· ==0)).reverse
theorem lE (l:List Int):gW (l++ [0])=gW l:=by simp[gW]
theorem tV (l:List Int) (x:Int) (h:x≠0):gW (l++ [x])=l++ [x]:=by simp[gW,h]
theorem Fw (P:List Int->Prop) (h0:P []) (h1:∀l x,P l->P (l++ [x])) (l:List Int):P l:=by
 have:∀n (l:List Int),l.length=n->P l:=by
  intro n
  induction n with
  | zero=>intro l hl;rw[cI.1 hl];exact h0
  | succ n ih=>
   intro l hl;have hne:l≠ []:=fun e=>by rw[e] at hl;simp at hl
   rw[<- gI hne];exact h1 _ _ (ih _ (by simp[hl]))
 exact this _ l rfl
theorem aJz {B:Nat} {l:List Int}:InB B l->InB B (gW l):=by
 refine Fw (fun l=>InB B l->InB B (gW l)) (fun h=>h) (fun l x ih h=>?_) l;obtain ⟨h1,h2⟩:=InB.append.1 h;by_cases e:x=0
 ·subst e;rw[lE];exact ih h1
 rw[tV _ _ e];exact h
theorem aHj {B:Nat} (l:List Int):valB B (gW l)=valB B l:=by
 refine Fw (fun l=>valB B (gW l)=valB B l) rfl (fun l x ih=>?_) l;by_cases e:x=0
 ·subst e;rw[lE,uQ,ih];simp
 rw[tV _ _ e]
theorem Ot (l:List Int):∀h:gW l≠ [],(gW l).getLast h≠0:=by
 refine Fw (fun l=>∀h:gW l≠ [],(gW l).getLast h≠0) (fun h=>(h rfl).elim) (fun l x ih=>?_) l;by_cases e:x=0
 ·subst e;simp only[lE];exact ih
 intro h;simp only[tV _ _ e];simp[e]
theorem iI {B:Nat} (hB:2<=B) {l:List Int} (h:InB B l):gW l=aI B (valB B l).toNat:=by
 rw[<- aHj l];exact Lj hB (aJz h) (Ot l)
theorem xQ {B:Nat} (hB:2<=B) (n:Nat):∀h:aI B n≠ [],(aI B n).getLast h≠0:=by
 have h1:=iI hB (cR hB n);rw[iT hB,aJ] at h1;rw[<- h1];exact Ot _
def valN (B:Nat) (l:List Int):Nat->Int
 | 0=>0
 | k+1=>valN B l k+(B:Int)^k*l.getD k 0
theorem tW (B:Nat) (l:List Int):∀k,k<=l.length->valN B l k=valB B (l.take k)
 | 0,_=>by simp[valN,valB]
 | k+1,h=>by
  have e:l.getD k 0=l[k]:=by simp[aB,show k<l.length by omega]
  rw[valN,tW B l k om,cV (show k<l.length by omega),uQ,e,aY,eY om]
theorem lF (B:Nat) (l:List Int):∀k,l.length<=k->valN B l k=valB B l
 | 0,h=>by
  have:l= []:=cI.1 om;subst this;rfl
 | k+1,h=>by
  by_cases e:l.length=k+1
  ·rw[tW B l (k+1) om,mD om]
  have e2:l.getD k 0=0:=by rw[aB,cG om];rfl
  rw[valN,e2,lF B l k om];simp
def addK (B:Nat) (a b:List Int):Nat->List Int × Int
 | 0=>([],0)
 | k+1=>((addK B a b k).1++ [(a.getD k 0+b.getD k 0+(addK B a b k).2)%B],(a.getD k 0+b.getD k 0+(addK B a b k).2)/B)
def subK (B:Nat) (a b:List Int):Nat->List Int × Int
 | 0=>([],0)
 | k+1=>((subK B a b k).1++ [if 0<=a.getD k 0-b.getD k 0-(subK B a b k).2 then a.getD k 0-b.getD k 0-(subK B a b k).2 else a.getD k 0-b.getD k 0-(subK B a b k).2+B],
   if 0<=a.getD k 0-b.getD k 0-(subK B a b k).2 then 0 else 1)
theorem kN {B:Nat} (hB:2<=B) (k:Nat):0<(B:Int)^k:=zU om
theorem tX {B:Nat} (hB:2<=B) {a b:List Int} (ha:InB B a) (hb:InB B b):∀k,(addK B a b k).1.length=k/\InB B (addK B a b k).1/\(0<=(addK B a b k).2/\(addK B a b k).2<=1)/\
  valB B (addK B a b k).1+(B:Int)^k*(addK B a b k).2=valN B a k+valN B b k
 | 0=>⟨rfl,InB.nil,by simp[addK],by simp[addK,valB,valN]⟩
 | k+1=>by
  obtain ⟨h1,h2,h3,h4⟩:=tX hB ha hb k;have g1:=ha.getD0 om k;have g2:=hb.getD0 om k;simp only[addK];generalize (addK B a b k).1=o at h1 h2 h4 ⊢;generalize (addK B a b k).2=c at h3 h4 ⊢;have hm:=jA (a.getD k 0+b.getD k 0+c) (show (B:Int)≠0 by omega);have hm2:=fQ (a.getD k 0+b.getD k 0+c) (show 0<(B:Int) by omega);have hd:=iH (a.getD k 0+b.getD k 0+c) B;have hd0:0<=(a.getD k 0+b.getD k 0+c)/B:=dU om om;have hd1:(a.getD k 0+b.getD k 0+c)/B<2:=fI om om;refine ⟨by simp[h1],InB.append.2 ⟨h2,InB.cons.2 ⟨⟨hm,hm2⟩,InB.nil⟩⟩,⟨hd0,om⟩,?_⟩;rw[uQ,h1,valN,valN,gH,cP];have e:(B:Int)^k*((a.getD k 0+b.getD k 0+c)%B)+(B:Int)^k*((B:Int)*((a.getD k 0+b.getD k 0+c)/B))=(B:Int)^k*a.getD k 0+(B:Int)^k*b.getD k 0+(B:Int)^k*c:=by
   rw[<- cO,hd,cO,cO]
  omega
theorem Au {B:Nat} (hB:2<=B) {a b:List Int} (ha:InB B a) (hb:InB B b):∀k,(subK B a b k).1.length=k/\InB B (subK B a b k).1/\(0<=(subK B a b k).2/\(subK B a b k).2<=1)/\
  valB B (subK B a b k).1-(B:Int)^k*(subK B a b k).2=valN B a k-valN B b k
 | 0=>⟨rfl,InB.nil,by simp[subK],by simp[subK,valB,valN]⟩
 | k+1=>by
  obtain ⟨h1,h2,h3,h4⟩:=Au hB ha hb k;have g1:=ha.getD0 om k;have g2:=hb.getD0 om k;simp only[subK];generalize (subK B a b k).1=o at h1 h2 h4 ⊢;generalize (subK B a b k).2=c at h3 h4 ⊢;by_cases hn:0<=a.getD k 0-b.getD k 0-c
  ·rw[aD hn,aD hn];refine ⟨by simp[h1],InB.append.2 ⟨h2,InB.cons.2 ⟨⟨hn,om⟩,InB.nil⟩⟩,om,?_⟩;rw[uQ,h1,valN,valN,gP,gP];omega
  rw[aC hn,aC hn];refine ⟨by simp[h1],InB.append.2 ⟨h2,InB.cons.2 ⟨⟨om,om⟩,InB.nil⟩⟩,om,?_⟩;rw[uQ,h1,valN,valN,cO,gP,gP,gH];omega
theorem mM {B:Nat} (hB:2<=B) {m n:Nat} (h:m<=n):(B:Int)^m<=(B:Int)^n:=by
 have:B^m<=B^n:=bG om h;exact_mod_cast this
theorem nM {B:Nat} (hB:2<=B) {l:List Int} (h:InB B l) {n:Nat} (hn:l.length<=n):valB B l<(B:Int)^n:=Int.lt_of_lt_of_le (vT h) (mM hB hn)
theorem aHl {B:Nat} (hB:2<=B) {a b:List Int} (ha:InB B a) (hb:InB B b) {n:Nat} (h1:a.length<=n) (h2:b.length<=n):gW (addK B a b (n+1)).1=aI B (valB B a+valB B b).toNat:=by
 obtain ⟨l1,l2,l3,l4⟩:=tX hB ha hb (n+1);rw[lF _ _ _ om,lF _ _ _ om] at l4;have v1:=nM hB ha h1;have v2:=nM hB hb h2;have v3:=dZ l2;have hc:(addK B a b (n+1)).2=0:=by
  by_cases e:(addK B a b (n+1)).2=0
  ·exact e
  have e1:(addK B a b (n+1)).2=1:=om;rw[e1,eT,gH] at l4;have:(B:Int)^n*2<=(B:Int)^n*B:=aV om (dW (kN hB n));omega
 rw[hc,dL,eV] at l4;rw[iI hB l2,l4]
theorem Wg {B:Nat} (hB:2<=B) {a b:List Int} (ha:InB B a) (hb:InB B b) {n:Nat} (h1:a.length<=n) (h2:b.length<=n) (hle:valB B b<=valB B a):gW (subK B a b n).1=aI B (valB B a-valB B b).toNat/\(subK B a b n).2=0:=by
 obtain ⟨l1,l2,l3,l4⟩:=Au hB ha hb n;rw[lF _ _ _ h1,lF _ _ _ h2] at l4;have v3:=vT l2;rw[l1] at v3;have hc:(subK B a b n).2=0:=by
  by_cases e:(subK B a b n).2=0
  ·exact e
  have e1:(subK B a b n).2=1:=om;rw[e1,eT] at l4;omega
 rw[hc,dL,Int.sub_zero] at l4;exact ⟨by rw[iI hB l2,l4],hc⟩
theorem Ee {B:Nat} (y:Int):∀(l:List Int) (j:Nat),j<l.length->valB B (l.set j y)=valB B l+(B:Int)^j*(y-l.getD j 0)
 | [],j,h=>by simp at h
 | x::r,0,h=>by simp only[List.set_cons_zero,valB,List.getD_cons_zero,Int.pow_zero,iP];omega
 | x::r,j+1,h=>by
  simp only[List.set_cons_succ,valB,List.getD_cons_succ];rw[Ee y r j (by simpa using h),cO,gH,bJ (_ ^ _) (B:Int),cP];omega
theorem mL (l:List Int) (k:Nat) (x:Int) (h:k<l.length) (i:Nat):(l.set k x).getD i 0=if i=k then x else l.getD i 0:=by
 rw[aB,eP];by_cases e:i=k
 ·subst e;simp[h]
 rw[aC (fun e'=>e e'.symm),aC e,aB]
theorem Gc {B:Nat} {l:List Int} (h:InB B l) (k:Nat) {x:Int} (hx:0<=x/\x<B):InB B (l.set k x):=fun y hy=>by
 rcases List.mem_or_eq_of_mem_set hy with h1 | h1
 ·exact h y h1
 rw[h1];exact hx
theorem mN (l:List Int) (i:Nat) (h:l.length<=i):l.getD i 0=0:=by rw[aB,cG h];rfl
def mulK (B:Nat) (x:Int) (b:List Int) (i:Nat) (out:List Int):Nat->List Int × Int
 | 0=>(out,0)
 | k+1=>((mulK B x b i out k).1.set (i+k) (((mulK B x b i out k).1.getD (i+k) 0+x*b.getD k 0+(mulK B x b i out k).2)%B),((mulK B x b i out k).1.getD (i+k) 0+x*b.getD k 0+(mulK B x b i out k).2)/B)
def mulR (B:Nat) (a b out:List Int):Nat->List Int
 | 0=>out
 | i+1=>(mulK B (a.getD i 0) b i (mulR B a b out i) (b.length+1)).1
theorem rR {B:Nat} (hB:2<=B) {x:Int} (hx:0<=x/\x<B) {b:List Int} (hb:InB B b) {i:Nat} {out:List Int} (ho:InB B out):∀k,i+k<=out.length->(mulK B x b i out k).1.length=out.length/\InB B (mulK B x b i out k).1/\
  (0<=(mulK B x b i out k).2/\(mulK B x b i out k).2<B)/\valB B (mulK B x b i out k).1+(B:Int)^ (i+k)*(mulK B x b i out k).2=valB B out+(B:Int)^i*(x*valN B b k)/\
  (∀j,i+k<=j->(mulK B x b i out k).1.getD j 0=out.getD j 0)/\∀j,j<i->(mulK B x b i out k).1.getD j 0=out.getD j 0
 | 0,_=>⟨rfl,ho,by simp only[mulK];omega,by simp[mulK,valN],fun _ _=>rfl,fun _ _=>rfl⟩
 | k+1,hk=>by
  obtain ⟨h1,h2,h3,h4,h5,h6⟩:=rR hB hx hb (i:=i) ho k om;have g1:=hb.getD0 om k;have g2:=h2.getD0 om (i+k);simp only[mulK];generalize (mulK B x b i out k).1=o at h1 h2 h4 h5 h6 g2 ⊢;generalize (mulK B x b i out k).2=c at h3 h4 ⊢;have hp0:0<=x*b.getD k 0:=dH hx.1 g1.1;have hp1:x*b.getD k 0<=((B:Int)-1)*((B:Int)-1):=Int.mul_le_mul om om g1.1 om;have hsq:((B:Int)-1)*((B:Int)-1)=(B:Int)*B-B-B+1:=by rw[zW,gP,eT,iP];omega
  rw[hsq] at hp1;have hm:=jA (o.getD (i+k) 0+x*b.getD k 0+c) (show (B:Int)≠0 by omega);have hm2:=fQ (o.getD (i+k) 0+x*b.getD k 0+c) (show 0<(B:Int) by omega);have hd:=iH (o.getD (i+k) 0+x*b.getD k 0+c) B;have hd0:0<=(o.getD (i+k) 0+x*b.getD k 0+c)/B:=dU om om;have hd1:(o.getD (i+k) 0+x*b.getD k 0+c)/B<B:=fI om om;generalize (o.getD (i+k) 0+x*b.getD k 0+c)%B=m at hm hm2 hd ⊢;generalize (o.getD (i+k) 0+x*b.getD k 0+c)/B=d at hd hd0 hd1 ⊢;refine ⟨by rw[dN,h1],Gc h2 _ ⟨hm,hm2⟩,⟨hd0,hd1⟩,?_,fun j hj=>?_,fun j hj=>?_⟩
  ·rw[Ee _ _ _ om,valN,<- jN,gH];have e1:x*(valN B b k+(B:Int)^k*b.getD k 0)=x*valN B b k+(B:Int)^k*(x*b.getD k 0):=by
    rw[cO,<- cP,<- cP,bJ x ((B:Int)^k)]
   have e2:(B:Int)^i*((B:Int)^k*(x*b.getD k 0))=(B:Int)^ (i+k)*(x*b.getD k 0):=by rw[<- cP,vM]
   rw[e1,cO,e2,cP];have e3:(B:Int)^ (i+k)*(m-o.getD (i+k) 0)+(B:Int)^ (i+k)*((B:Int)*d)=(B:Int)^ (i+k)*(x*b.getD k 0)+(B:Int)^ (i+k)*c:=by
    rw[<- cO,<- cO];congr 1
    omega
   omega
  ·rw[mL _ _ _ om,aC om,h5 j om]
  rw[mL _ _ _ om,aC om,h6 j hj]
theorem Wh {B:Nat} (hB:2<=B) {x:Int} (hx:0<=x/\x<B) {b:List Int} (hb:InB B b) {i:Nat} {out:List Int} (ho:InB B out) (hl:i+b.length+1<=out.length) (hz:out.getD (i+b.length) 0=0):
  (mulK B x b i out (b.length+1)).2=0/\valB B (mulK B x b i out (b.length+1)).1=valB B out+(B:Int)^i*(x*valB B b):=by
 obtain ⟨h1,h2,h3,h4,h5,h6⟩:=rR hB hx hb (i:=i) ho b.length om;obtain ⟨g1,g2,g3,g4,g5,g6⟩:=rR hB hx hb (i:=i) ho (b.length+1) om;have hc:(mulK B x b i out (b.length+1)).2=0:=by
  simp only[mulK];rw[h5 _ (aN _),hz,mN b b.length (aN _),dL,tN,tN];exact Int.ediv_eq_zero_of_lt h3.1 h3.2
 rw[hc,dL,eV,lF _ _ _ om] at g4;exact ⟨hc,g4⟩
theorem Av {B:Nat} (hB:2<=B) {a b:List Int} (ha:InB B a) (hb:InB B b) {n:Nat} (hn:a.length+b.length+1<=n):∀i,i<=a.length->(mulR B a b (List.replicate n 0) i).length=n/\InB B (mulR B a b (List.replicate n 0) i)/\
  valB B (mulR B a b (List.replicate n 0) i)=valN B a i*valB B b/\∀j,i+b.length<=j->(mulR B a b (List.replicate n 0) i).getD j 0=0
 | 0,_=>by
  refine ⟨by simp[mulR],fun x hx=>?_,by simp[mulR,wL,valN],fun j hj=>?_⟩
  ·rw[(mH.1 hx).2];omega
  simp only[mulR];rw[aB,cZ];split<;>rfl
 | i+1,hi=>by
  obtain ⟨h1,h2,h3,h4⟩:=Av hB ha hb hn i om;have hx:=ha.get (show i<a.length by omega);simp only[mulR];generalize mulR B a b (List.replicate n 0) i=o at h1 h2 h3 h4 ⊢;obtain ⟨g1,g2,g3,g4,g5,g6⟩:=rR hB hx hb (i:=i) h2 (b.length+1) om;obtain ⟨r1,r2⟩:=Wh hB hx hb (i:=i) h2 om (h4 _ (aN _));refine ⟨by rw[g1,h1],g2,?_,fun j hj=>by rw[g5 j om];exact h4 j om⟩;rw[r2,h3,valN,jO,cP]
theorem Wi {B:Nat} (hB:2<=B) {a b:List Int} (ha:InB B a) (hb:InB B b) {n:Nat} (hn:a.length+b.length+1<=n):gW (mulR B a b (List.replicate n 0) a.length)=aI B (valB B a*valB B b).toNat:=by
 obtain ⟨h1,h2,h3,h4⟩:=Av hB ha hb hn a.length (aN _);rw[iI hB h2,h3,lF _ _ _ (aN _)]
def divK (B:Nat) (d:Int) (a:List Int):Nat->List Int × Int
 | 0=>(List.replicate a.length 0,0)
 | m+1=>((divK B d a m).1.set (a.length-1-m) ((a.getD (a.length-1-m) 0+(divK B d a m).2*B)/d),(a.getD (a.length-1-m) 0+(divK B d a m).2*B)%d)
theorem eU (l:List Int) (i:Nat) (h:i<l.length):l.drop i=l.getD i 0::l.drop (i+1):=by
 rw[kE h];congr 1
 simp[aB,h]
theorem tY {B:Nat} (hB:2<=B) {d:Int} (hd:0<d) {a:List Int} (ha:InB B a):∀m,m<=a.length->(divK B d a m).1.length=a.length/\InB B (divK B d a m).1/\(0<=(divK B d a m).2/\(divK B d a m).2<d)/\
  valB B ((divK B d a m).1.drop (a.length-m))*d+(divK B d a m).2=valB B (a.drop (a.length-m))
 | 0,_=>by
  refine ⟨by simp[divK],fun x hx=>?_,by simp only[divK];omega,?_⟩
  ·rw[(mH.1 hx).2];omega
  simp only[divK];rw[dF si,dF om];simp[valB]
 | m+1,hm=>by
  obtain ⟨h1,h2,h3,h4⟩:=tY hB hd ha m om;obtain ⟨i,hi⟩:∃i,a.length-1-m=i:=⟨_,rfl⟩;have e1:a.length-m=i+1:=om;have e2:a.length-(m+1)=i:=om;have g1:=ha.get (show i<a.length by omega);simp only[divK];rw[hi,e2];rw[e1] at h4;generalize (divK B d a m).1=q at h1 h2 h4 ⊢;generalize (divK B d a m).2=r at h3 h4 ⊢;have hn0:0<=r*B:=dH h3.1 om;have hn1:r*B<=(d-1)*B:=bN om om;rw[zW,iP] at hn1;have hm0:=jA (a.getD i 0+r*B) (show d≠0 by omega);have hm1:=fQ (a.getD i 0+r*B) hd;have hdv:=iH (a.getD i 0+r*B) d;have hq0:0<=(a.getD i 0+r*B)/d:=dU om om;have hq1:(a.getD i 0+r*B)/d<B:=fI hd (by rw[bJ (B:Int) d];omega);generalize (a.getD i 0+r*B)/d=y at hdv hq0 hq1 ⊢;generalize (a.getD i 0+r*B)%d=z at hdv hm0 hm1 ⊢;refine ⟨by rw[dN,h1],Gc h2 _ ⟨hq0,hq1⟩,⟨hm0,hm1⟩,?_⟩;have e3:(q.set i y).drop i=y::q.drop (i+1):=by
   rw[eU _ _ (by rw[dN];omega),mL _ _ _ om,aD rfl,List.drop_set_of_lt om]
  rw[e3,eU a i om];simp only[valB];rw[<- h4,jO,cO,cP,bJ y d,bJ (B:Int) r];omega
theorem Wj {B:Nat} (hB:2<=B) {d:Int} (hd:0<d) (hdB:d<B) {a:List Int} (ha:InB B a):
  gW (divK B d a a.length).1=aI B (valB B a/d).toNat/\(divK B d a a.length).2=valB B a%d/\gW [(divK B d a a.length).2]=aI B (valB B a%d).toNat:=by
 obtain ⟨h1,h2,h3,h4⟩:=tY hB hd ha a.length (aN _);rw[kV,eX,eX] at h4;have h5:valB B a/d=valB B (divK B d a a.length).1/\valB B a%d=(divK B d a a.length).2:=by
  rw[sT hd];exact ⟨by rw[iM,bJ];exact h4,h3.1,h3.2⟩
 refine ⟨by rw[iI hB h2,h5.1],h5.2.symm,?_⟩;rw[iI hB (InB.cons.2 ⟨⟨h3.1,om⟩,InB.nil⟩),h5.2];simp[valB]
theorem kH {B:Nat} (hB:2<=B) {n:Nat} (hn:0<n):(B:Int)^ ((aI B n).length-1)<=n/\(n:Int)<(B:Int)^ (aI B n).length/\0<(aI B n).length:=by
 have h1:=vT (cR hB n);have hne:aI B n≠ []:=fun e=>by have:=(rP hB).1 e;omega
 have hl:=xQ hB n hne;have hpos:0<(aI B n).length:=cB.2 hne;have h2:=iT hB n;rw[h2] at h1;refine ⟨?_,h1,hpos⟩;have hin:=cR hB n;rw[<- gI hne] at h2 hin;obtain ⟨i1,i2⟩:=InB.append.1 hin;obtain ⟨i3,_⟩:=InB.cons.1 i2;rw[uQ,List.length_dropLast] at h2;have h3:=dZ i1;have h4:(B:Int)^ ((aI B n).length-1)*1<=(B:Int)^ ((aI B n).length-1)*(aI B n).getLast hne:=aV om (dW (kN hB _));omega
theorem qH {B:Nat} (hB:2<=B) {m n:Nat} (h:(aI B m).length<(aI B n).length):m<n:=by
 have hn:0<n:=by
  rcases dB n with e | e
  ·subst e;rw[dM] at h;simp at h
  exact e
 obtain ⟨h1,h2,h3⟩:=kH hB hn;rcases dB m with e | e
 ·omega
 obtain ⟨g1,g2,g3⟩:=kH hB e;have:=mM hB (show (aI B m).length<=(aI B n).length-1 by omega);omega
theorem Il {B:Nat} (hB:2<=B) {a b:List Int} (ha:InB B a) (hb:InB B b) (hl:a.length=b.length) {i:Nat} (hi:i<a.length) (heq:∀j,i<j->j<a.length->a.getD j 0=b.getD j 0) (hlt:a.getD i 0<b.getD i 0):valB B a<valB B b:=by
 have e1:valB B a=valN B a i+(B:Int)^i*valB B (a.drop i):=by
  rw[tW B a i om];have:=pW (B:=B) (a.drop i) (a.take i);rw[fH,aY,eY om] at this;exact this
 have e2:valB B b=valN B b i+(B:Int)^i*valB B (b.drop i):=by
  rw[tW B b i om];have:=pW (B:=B) (b.drop i) (b.take i);rw[fH,aY,eY om] at this;exact this
 have e3:a.drop (i+1)=b.drop (i+1):=by
  refine jQ (by simp[hl]) fun j h1 h2=>?_;rw[nE,nE];rw[bB] at h1;have:=heq (i+1+j) om om;simpa [aB,show i+1+j<a.length by omega,show i+1+j<b.length by omega] using this
 rw[eU a i hi] at e1;rw[eU b i om,<- e3] at e2;simp only[valB] at e1 e2;have v1:valN B a i<(B:Int)^i:=by
  rw[tW B a i om];have:=vT (B:=B) (l:=a.take i) (fun x hx=>ha x (dG hx));rwa [aY,eY om] at this
 have v2:0<=valN B b i:=by
  rw[tW B b i om];exact dZ (fun x hx=>hb x (dG hx))
 have h1:(B:Int)^i*(a.getD i 0+1)<=(B:Int)^i*b.getD i 0:=aV om (dW (kN hB i));rw[cO,eT] at h1;rw[cO] at e1 e2;omega
theorem rS {a b:List Int} (hl:a.length=b.length) (h:∀j,j<a.length->a.getD j 0=b.getD j 0):a=b:=by
 refine jQ hl fun j h1 h2=>?_;have:=h j h1;simpa [aB,h1,h2] using this
def fO (B:Nat) (u v:List Int) (j:Nat) (q:Int):Nat->List Int × Int
 | 0=>(u,0)
 | k+1=>
  let n:=(fO B u v j q k).1.getD (j+k) 0-(fO B u v j q k).2-q*v.getD k 0
  let c:=if n<0 then (-n+B-1)/B else 0
  ((fO B u v j q k).1.set (j+k) (n+c*B),c)
theorem rT {B:Nat} (hB:2<=B) {u v:List Int} (hu:InB B u) (hv:InB B v) {j:Nat} {q:Int} (hq:0<=q):∀k,j+k<=u.length->(fO B u v j q k).1.length=u.length/\InB B (fO B u v j q k).1/\
  (0<=(fO B u v j q k).2/\(fO B u v j q k).2<=q+1)/\valB B (fO B u v j q k).1-(B:Int)^ (j+k)*(fO B u v j q k).2=valB B u-(B:Int)^j*(q*valN B v k)/\
  (∀i,j+k<=i->(fO B u v j q k).1.getD i 0=u.getD i 0)/\∀i,i<j->(fO B u v j q k).1.getD i 0=u.getD i 0
 | 0,_=>⟨rfl,hu,by simp only[fO];omega,by simp[fO,valN],fun _ _=>rfl,fun _ _=>rfl⟩
 | k+1,hk=>by
  obtain ⟨h1,h2,h3,h4,h5,h6⟩:=rT hB hu hv (j:=j) hq k om;have g1:=hv.getD0 om k;have g2:=h2.getD0 om (j+k);simp only[fO];generalize (fO B u v j q k).1=o at h1 h2 h4 h5 h6 g2 ⊢;generalize (fO B u v j q k).2=c at h3 h4 ⊢;have hp0:0<=q*v.getD k 0:=dH hq g1.1;have hp1:q*v.getD k 0<=q*((B:Int)-1):=aV om hq;rw[gP,eT] at hp1;obtain ⟨n,hn⟩:∃n,o.getD (j+k) 0-c-q*v.getD k 0=n:=⟨_,rfl⟩;rw[hn];obtain ⟨d,hd⟩:∃d,(if n<0 then (-n+(B:Int)-1)/B else 0)=d:=⟨_,rfl⟩;rw[hd];have hdd:0<=d/\d<=q+1/\0<=n+d*B/\n+d*B<B:=by
   by_cases hneg:n<0
   ·rw[aD hneg] at hd;have e1:=iH (-n+(B:Int)-1) B;have e2:=jA (-n+(B:Int)-1) (show (B:Int)≠0 by omega);have e3:=fQ (-n+(B:Int)-1) (show 0<(B:Int) by omega);have e4:0<=(-n+(B:Int)-1)/B:=dU om om;have e5:(-n+(B:Int)-1)/B<q+2:=fI om (by rw[jO];omega);rw[hd] at e1 e4 e5;rw[bJ] at e1;exact ⟨e4,om,om,om⟩
   rw[aC hneg] at hd;subst hd;rw[tM];omega
  refine ⟨by rw[dN,h1],Gc h2 _ hdd.2.2,⟨hdd.1,hdd.2.1⟩,?_,fun i hi=>?_,fun i hi=>?_⟩
  ·rw[Ee _ _ _ om,valN,<- jN,gH];have e1:q*(valN B v k+(B:Int)^k*v.getD k 0)=q*valN B v k+(B:Int)^k*(q*v.getD k 0):=by
    rw[cO,<- cP,<- cP,bJ q ((B:Int)^k)]
   have e2:(B:Int)^j*((B:Int)^k*(q*v.getD k 0))=(B:Int)^ (j+k)*(q*v.getD k 0):=by rw[<- cP,vM]
   rw[e1,cO,e2,cP];have e3:(B:Int)^ (j+k)*(n+d*B-o.getD (j+k) 0)-(B:Int)^ (j+k)*((B:Int)*d)= -((B:Int)^ (j+k)*(q*v.getD k 0))-(B:Int)^ (j+k)*c:=by
    rw[<- gP,<- sS,<- gP];congr 1
    rw[bJ d];omega
   omega
  ·rw[mL _ _ _ om,aC om,h5 i om]
  rw[mL _ _ _ om,aC om,h6 i hi]
theorem aCu {B:Nat} (hB:2<=B):∀ {a b:List Int},InB B a->InB B b->a.length=b.length->valB B a=valB B b->a=b
 | [],[],_,_,_,_=>rfl
 | x::r,y::s,ha,hb,hl,hv=>by
  obtain ⟨a1,a2⟩:=InB.cons.1 ha;obtain ⟨b1,b2⟩:=InB.cons.1 hb;simp only[valB] at hv;have e1:x=y:=by
   have h1:(x+(B:Int)*valB B r)%B=x:=by rw[Int.add_mul_emod_self_left,Int.emod_eq_of_lt a1.1 a1.2]
   have h2:(y+(B:Int)*valB B s)%B=y:=by rw[Int.add_mul_emod_self_left,Int.emod_eq_of_lt b1.1 b1.2]
   rw[<- h1,<- h2,hv]
  subst e1;have e2:valB B r=valB B s:=by
   have:(B:Int)*valB B r=B*valB B s:=om;exact Int.eq_of_mul_eq_mul_left om this
  rw[aCu hB a2 b2 (by simpa using hl) e2]
 | [],_:: _,_,_,hl,_=>by simp at hl
 | _:: _,[],_,_,hl,_=>by simp at hl
theorem aEe {B V W v1 top P Q:Int} (hP:0<P) (hv1:0<v1) (hV:v1*P<=V) (hW:W<(top+1)*P) (hQ0:0<=Q) (hQ:Q*V<=W):Q<=top/v1:=by
 rw[hZ hv1];have h1:Q*(v1*P)<=Q*V:=aV hV hQ0;rw[<- cP] at h1;have h2:(Q*v1)*P<(top+1)*P:=om;have:=nU h2 (dW hP);omega
theorem aHm {B V W v1 v2 u2 top q r P Q:Int} (hP:0<P) (hq:0<=q) (hB:0<=B) (hV:(v1*B+v2)*P<=V) (hV0:0<=V) (hW:W<(top*B+u2+1)*P) (htop:top=q*v1+r) (hbig:r*B+u2<q*v2) (hQ:Q*V<=W):Q<=q-1:=by
 apply aH;intro hn;have hle:q<=Q:=om;have h1:q*V<=Q*V:=bN hle hV0;have h2:q*((v1*B+v2)*P)<=q*V:=aV hV hq;rw[<- cP] at h2;have h3:(q*(v1*B+v2))*P<(top*B+u2+1)*P:=om;have h4:=nU h3 (dW hP);rw[cO,<- cP,htop,jO] at h4;omega
theorem Gd {B:Nat} (hB:2<=B) {x:Int} (hx:0<=x) {b:List Int} (hb:InB B b) {i:Nat} {out:List Int} (ho:InB B out):∀k,i+k<=out.length->(mulK B x b i out k).1.length=out.length/\InB B (mulK B x b i out k).1/\
  (0<=(mulK B x b i out k).2/\(mulK B x b i out k).2<=x)/\valB B (mulK B x b i out k).1+(B:Int)^ (i+k)*(mulK B x b i out k).2=valB B out+(B:Int)^i*(x*valN B b k)/\
  (∀j,i+k<=j->(mulK B x b i out k).1.getD j 0=out.getD j 0)/\∀j,j<i->(mulK B x b i out k).1.getD j 0=out.getD j 0
 | 0,_=>⟨rfl,ho,by simp only[mulK];omega,by simp[mulK,valN],fun _ _=>rfl,fun _ _=>rfl⟩
 | k+1,hk=>by
  obtain ⟨h1,h2,h3,h4,h5,h6⟩:=Gd hB hx hb (i:=i) ho k om;have g1:=hb.getD0 om k;have g2:=h2.getD0 om (i+k);simp only[mulK];generalize (mulK B x b i out k).1=o at h1 h2 h4 h5 h6 g2 ⊢;generalize (mulK B x b i out k).2=c at h3 h4 ⊢;have hp0:0<=x*b.getD k 0:=dH hx g1.1;have hp1:x*b.getD k 0<=x*((B:Int)-1):=aV om hx;rw[gP,eT] at hp1;have hm:=jA (o.getD (i+k) 0+x*b.getD k 0+c) (show (B:Int)≠0 by omega);have hm2:=fQ (o.getD (i+k) 0+x*b.getD k 0+c) (show 0<(B:Int) by omega);have hd:=iH (o.getD (i+k) 0+x*b.getD k 0+c) B;have hd0:0<=(o.getD (i+k) 0+x*b.getD k 0+c)/B:=dU om om;have hd1:(o.getD (i+k) 0+x*b.getD k 0+c)/B<x+1:=fI om (by rw[jO];omega);generalize (o.getD (i+k) 0+x*b.getD k 0+c)%B=m at hm hm2 hd ⊢;generalize (o.getD (i+k) 0+x*b.getD k 0+c)/B=d at hd hd0 hd1 ⊢;refine ⟨by rw[dN,h1],Gc h2 _ ⟨hm,hm2⟩,⟨hd0,om⟩,?_,fun j hj=>?_,fun j hj=>?_⟩
  ·rw[Ee _ _ _ om,valN,<- jN,gH];have e1:x*(valN B b k+(B:Int)^k*b.getD k 0)=x*valN B b k+(B:Int)^k*(x*b.getD k 0):=by
    rw[cO,<- cP,<- cP,bJ x ((B:Int)^k)]
   have e2:(B:Int)^i*((B:Int)^k*(x*b.getD k 0))=(B:Int)^ (i+k)*(x*b.getD k 0):=by rw[<- cP,vM]
   rw[e1,cO,e2,cP];have e3:(B:Int)^ (i+k)*(m-o.getD (i+k) 0)+(B:Int)^ (i+k)*((B:Int)*d)=(B:Int)^ (i+k)*(x*b.getD k 0)+(B:Int)^ (i+k)*c:=by
    rw[<- cO,<- cO];congr 1
    omega
   omega
  ·rw[mL _ _ _ om,aC om,h5 j om]
  rw[mL _ _ _ om,aC om,h6 j hj]
theorem aAa {B:Nat} (hB:2<=B) {u v:List Int} (hu:InB B u) (hv:InB B v) {j:Nat} {q:Int} (hq:0<=q) {k:Nat} (hk:j+k<=u.length):(mulK B q v j (fO B u v j q k).1 k).1=u:=by
 obtain ⟨h1,h2,h3,h4,h5,h6⟩:=rT hB hu hv (j:=j) hq k hk;generalize (fO B u v j q k).2=c at h3 h4;obtain ⟨g1,g2,g3,g4,g5,g6⟩:=Gd hB hq hv (i:=j) h2 k om;generalize (mulK B q v j (fO B u v j q k).1 k).2=c' at g3 g4;generalize (mulK B q v j (fO B u v j q k).1 k).1=w at g1 g2 g4 g5 g6 ⊢;generalize (fO B u v j q k).1=u1 at h1 h2 h4 h5 h6 g1 g4 g5 g6
 -- outside the window nothing has changed; within it the values agree but for a multiple
 have e0:valB B w+(B:Int)^ (j+k)*c'=valB B u+(B:Int)^ (j+k)*c:=om;have sp:∀l:List Int,l.length=u.length->valB B l=valB B (l.take (j+k))+(B:Int)^ (j+k)*valB B (l.drop (j+k)):=fun l hl=>by
  have:=pW (B:=B) (l.drop (j+k)) (l.take (j+k));rw[fH,aY,eY om] at this;exact this
 have ed:w.drop (j+k)=u.drop (j+k):=by
  refine rS (by simp[g1,h1]) fun i hi=>?_;have:=g5 (j+k+i) om;rw[h5 _ om] at this;simpa [aB,bD] using this
 have s1:=sp w om;have s2:=sp u rfl;rw[ed] at s1;have b1:=vT (B:=B) (l:=w.take (j+k)) (fun x hx=>g2 x (dG hx));have b2:=vT (B:=B) (l:=u.take (j+k)) (fun x hx=>hu x (dG hx));have b3:=dZ (B:=B) (l:=w.take (j+k)) (fun x hx=>g2 x (dG hx));have b4:=dZ (B:=B) (l:=u.take (j+k)) (fun x hx=>hu x (dG hx));rw[aY,eY om] at b1 b2;have hP:=kN hB (j+k);have ec:c'=c:=by
  rcases Int.lt_trichotomy c' c with h | h | h
  ·have:(B:Int)^ (j+k)*(c'+1)<=(B:Int)^ (j+k)*c:=aV om (dW hP);rw[cO,eT] at this;omega
  ·exact h
  have:(B:Int)^ (j+k)*(c+1)<=(B:Int)^ (j+k)*c':=aV om (dW hP);rw[cO,eT] at this;omega
 subst ec;exact aCu hB g2 hu om om
theorem mU {B:Nat} (l:List Int) (j:Nat) (hj:j<=l.length):valB B l=valB B (l.take j)+(B:Int)^j*valB B (l.drop j):=by
 have:=pW (B:=B) (l.drop j) (l.take j);rw[fH,aY,eY hj] at this;exact this
theorem tI {B:Nat} {l:List Int} (h:InB B l) (j:Nat):InB B (l.take j):=fun x hx=>h x (dG hx)
theorem pF {B:Nat} {l:List Int} (h:InB B l) (j:Nat):InB B (l.drop j):=fun x hx=>h x (kW hx)
theorem Ou {B:Nat} (hB:2<=B) {l:List Int} (h:InB B l) {n:Nat} (hv:valB B l<(B:Int)^n) (i:Nat) (hi:n<=i):l.getD i 0=0:=by
 by_cases hil:i<l.length
 ·have e1:=mU (B:=B) l i om;rw[eU l i hil] at e1;simp only[valB] at e1;have a1:=dZ (tI h i);have a2:=dZ (pF h (i+1));have a3:=(h.get hil).1;have a4:0<=(B:Int)*valB B (l.drop (i+1)):=dH om a2;have hp:=mM hB hi;apply aH;intro hne;have:(B:Int)^i*1<=(B:Int)^i*(l.getD i 0+(B:Int)*valB B (l.drop (i+1))):=aV om (dW (kN hB i));omega
 exact mN l i om
theorem aCv {B:Nat} (hB:2<=B) {l:List Int} (h:InB B l) {n:Nat} (hz:∀i,n<=i->l.getD i 0=0):valB B l<(B:Int)^n:=by
 by_cases hn:n<=l.length
 ·have e1:=mU (B:=B) l n hn;have e2:valB B (l.drop n)=0:=by
   have:l.drop n=List.replicate (l.length-n) 0:=by
    refine rS si fun j hj=>?_;have:=hz (n+j) om;rw[bB] at hj;have hj':n+j<l.length:=om;simpa [aB,bD,cZ,hj,hj'] using this
   rw[this,wL]
  rw[e2,dL,eV] at e1;rw[e1];have:=vT (tI h n);rwa [aY,eY hn] at this
 exact nM hB h om
theorem Ef (l:List Int) (j i:Nat):(l.drop j).getD i 0=l.getD (j+i) 0:=by simp[aB,bD]
theorem Wk {B:Nat} (hB:2<=B) {u v:List Int} (hu:InB B u) (hv:InB B v) {j:Nat} {q:Int} (hq:0<=q) (hk:j+(v.length+1)<=u.length) (hz:∀i,j+(v.length+1)<=i->u.getD i 0=0):
  ((fO B u v j q (v.length+1)).2=0↔q*valB B v<=valB B (u.drop j))/\
  ((fO B u v j q (v.length+1)).2=0->valB B ((fO B u v j q (v.length+1)).1.drop j)=valB B (u.drop j)-q*valB B v):=by
 obtain ⟨h1,h2,h3,h4,h5,h6⟩:=rT hB hu hv (j:=j) hq (v.length+1) hk;rw[lF _ _ _ om] at h4;generalize (fO B u v j q (v.length+1)).2=c at h3 h4 ⊢;generalize (fO B u v j q (v.length+1)).1=w at h1 h2 h4 h5 h6 ⊢;have s1:=mU (B:=B) w j om;have s2:=mU (B:=B) u j om;have et:w.take j=u.take j:=by
  refine rS (by simp[h1]) fun i hi=>?_;rw[aY] at hi;have:=h6 i om;simpa [aB,show i<j by omega,aU] using this
 rw[et] at s1;have hP:=kN hB j;have key:valB B (w.drop j)-(B:Int)^ (v.length+1)*c=valB B (u.drop j)-q*valB B v:=by
  have e:(B:Int)^j*(valB B (w.drop j)-(B:Int)^ (v.length+1)*c)=(B:Int)^j*(valB B (u.drop j)-q*valB B v):=by
   rw[gP,gP,<- cP,<- vM];omega
  exact Int.eq_of_mul_eq_mul_left om e
 have b1:=dZ (pF h2 j);have b2:valB B (w.drop j)<(B:Int)^ (v.length+1):=aCv hB (pF h2 j) fun i hi=>by
  rw[Ef,h5 _ om,hz _ om]
 have hP2:=kN hB (v.length+1);refine ⟨⟨fun hc=>?_,fun hle=>?_⟩,fun hc=>?_⟩
 ·rw[hc,dL] at key;omega
 ·apply aH;intro hne;have:(B:Int)^ (v.length+1)*1<=(B:Int)^ (v.length+1)*c:=aV om (dW hP2);omega
 rw[hc,dL] at key;omega
def gX (B:Nat) (u v:List Int) (m:Nat):Nat->List Int × List Int
 | 0=>(u,List.replicate m 0)
 | s+1=>((fO B (gX B u v m s).1 v (m-1-s) (valB B ((gX B u v m s).1.drop (m-1-s))/valB B v) (v.length+1)).1,(gX B u v m s).2.set (m-1-s) (valB B ((gX B u v m s).1.drop (m-1-s))/valB B v))
theorem xR {B:Nat} (hB:2<=B) {u v:List Int} (hu:InB B u) (hv:InB B v) (hV:0<valB B v) {m:Nat} (hm:m+v.length=u.length) (h0:valB B (u.drop m)<valB B v):∀s,s<=m->
  (gX B u v m s).1.length=u.length/\InB B (gX B u v m s).1/\(gX B u v m s).2.length=m/\InB B (gX B u v m s).2/\valB B ((gX B u v m s).1.drop (m-s))<valB B v/\
  valB B u=valB B (gX B u v m s).1+(B:Int)^ (m-s)*(valB B v*valB B ((gX B u v m s).2.drop (m-s)))
 | 0,_=>by
  refine ⟨rfl,hu,by simp[gX],fun x hx=>?_,h0,?_⟩
  ·rw[(mH.1 hx).2];omega
  simp only[gX];rw[@dF _ (List.replicate m (0:Int)) _ si];simp[valB]
 | s+1,hs=>by
  obtain ⟨h1,h2,h3,h4,h5,h6⟩:=xR hB hu hv hV hm h0 s om;obtain ⟨j,hj⟩:∃j,m-1-s=j:=⟨_,rfl⟩;have e1:m-s=j+1:=om;have e2:m-(s+1)=j:=om;simp only[gX];rw[hj,e2];rw[e1] at h5 h6;generalize (gX B u v m s).1=w at h1 h2 h5 h6 ⊢;generalize (gX B u v m s).2=p at h3 h4 h6 ⊢;have hw:valB B (w.drop j)=w.getD j 0+(B:Int)*valB B (w.drop (j+1)):=by rw[eU w j om];rfl
  have g1:=h2.get (show j<w.length by omega);have hVB:=vT hv;have hz:∀i,j+(v.length+1)<=i->w.getD i 0=0:=fun i hi=>by
   have:=Ou hB (pF h2 (j+1)) (n:=v.length) om (i-(j+1)) om;rw[Ef] at this;rwa [show j+1+(i-(j+1))=i by omega] at this
  have hW0:=dZ (pF h2 j);obtain ⟨W,hW⟩:∃W,valB B (w.drop j)=W:=⟨_,rfl⟩;obtain ⟨Q,hQ⟩:∃Q,W/valB B v=Q:=⟨_,rfl⟩;have hQ0:0<=Q:=by rw[<- hQ];exact dU om om
  have hQV:Q*valB B v<=W:=by rw[<- hQ];exact sZ _ om
  have hWB:W<(B:Int)*valB B v:=by
   have:(B:Int)*(valB B (w.drop (j+1))+1)<=B*valB B v:=aV om om;rw[cO,eT] at this;omega
  have hQB:Q<B:=by rw[<- hQ];exact fI hV hWB
  have hWm:=iH W (valB B v);have hWm0:=fQ W hV;rw[hQ,bJ] at hWm;rw[hW,hQ];obtain ⟨t1,t2,t3,t4,t5,t6⟩:=rT hB h2 hv (j:=j) hQ0 (v.length+1) om;obtain ⟨i1,i2⟩:=Wk hB h2 hv (j:=j) hQ0 om hz;rw[hW] at i1 i2;have hc:=i1.2 hQV;have hr:=i2 hc;rw[hc,dL,Int.sub_zero,lF _ _ _ om] at t4;refine ⟨by rw[t1,h1],t2,by rw[dN,h3],Gc h4 _ ⟨hQ0,hQB⟩,om,?_⟩;have e3:(p.set j Q).drop j=Q::p.drop (j+1):=by
   rw[eU _ _ (by rw[dN];omega),mL _ _ _ om,aD rfl,List.drop_set_of_lt om]
  rw[e3,h6,t4];simp only[valB];rw[cO (valB B v),cO,gH,bJ (valB B v) Q,cP ((B:Int)^j) (B:Int),Int.mul_left_comm (valB B v) (B:Int)];omega
theorem aEf {B:Nat} (hB:2<=B) {u v:List Int} (hu:InB B u) (hv:InB B v) (hV:0<valB B v) {m:Nat} (hm:m+v.length=u.length) (h0:valB B (u.drop m)<valB B v):
  gW (gX B u v m m).2=aI B (valB B u/valB B v).toNat/\gW (gX B u v m m).1=aI B (valB B u%valB B v).toNat:=by
 obtain ⟨h1,h2,h3,h4,h5,h6⟩:=xR hB hu hv hV hm h0 m (aN _);rw[kV,eX] at h5 h6;rw[Int.pow_zero,iP] at h6;have h7:valB B u/valB B v=valB B (gX B u v m m).2/\valB B u%valB B v=valB B (gX B u v m m).1:=by
  rw[sT hV];exact ⟨h6.symm,dZ h2,h5⟩
 exact ⟨by rw[iI hB h4,h7.1],by rw[iI hB h2,h7.2]⟩
def estF (B v1 v2 u2:Int):Nat->Int->Int->Int
 | 0,q,_=>q
 | f+1,q,r=>if B<=q\/(r<B/\r*B+u2<q*v2) then (if B<=r+v1 then q-1 else estF B v1 v2 u2 f (q-1) (r+v1)) else q
theorem aCw {B V W v1 v2 u2 top P Q:Int} (hP:0<P) (hB:0<=B) (hV:(v1*B+v2)*P<=V) (hV0:0<=V) (hW:W<(top*B+u2+1)*P) (hQB:Q<B) (hQ0:0<=Q) (hQ:Q*V<=W):∀(f:Nat) (q r:Int),top=q*v1+r->Q<=q->Q<=estF B v1 v2 u2 f q r/\estF B v1 v2 u2 f q r<=q
 | 0,q,r,_,hq=>⟨hq,fX _⟩
 | f+1,q,r,ht,hq=>by
  simp only[estF];by_cases hc:B<=q\/(r<B/\r*B+u2<q*v2)
  ·rw[aD hc];have hq1:Q<=q-1:=by
    rcases hc with h | ⟨_,h⟩
    ·omega
    exact aHm hP om hB hV hV0 hW ht h hQ
   by_cases h2:B<=r+v1
   ·rw[aD h2];exact ⟨hq1,om⟩
   rw[aC h2];obtain ⟨g1,g2⟩:=aCw hP hB hV hV0 hW hQB hQ0 hQ f (q-1) (r+v1) (by rw[zW,iP];omega) hq1;exact ⟨g1,om⟩
  rw[aC hc];exact ⟨hq,fX _⟩
theorem aJ8 {V R t3 top P:Int} (hP:0<P) (ht:0<=top) (hV:V<=(top+1)*P) (hV0:0<V) (hR:t3*P<=R) (h0:0<=t3):0<=t3/(top+1)/\t3/(top+1)<=R/V:=by
 have h1:0<=t3/(top+1):=dU h0 om;refine ⟨h1,?_⟩;rw[hZ hV0];have h2:t3/(top+1)*(top+1)<=t3:=sZ _ om;have h3:t3/(top+1)*V<=t3/(top+1)*((top+1)*P):=aV hV h1;rw[<- cP] at h3;have h4:t3/(top+1)*(top+1)*P<=t3*P:=bN h2 (dW hP);omega
theorem aAb {B t f:Int} (ht:1<=t) (htB:t<B) (hf:f=B/(t+1)):1<=f/\f*(t+1)<=B/\B<=4*(f*t):=by
 have h1:f*(t+1)<=B:=by rw[hf];exact sZ _ om
 have h2:B<(f+1)*(t+1):=by rw[hf];exact Int.lt_ediv_add_one_mul_self _ om
 have h3:1<=f:=by rw[hf,hZ om];omega
 refine ⟨h3,h1,?_⟩;rw[cO,eT] at h1;rw[jO,iP,cO,eT] at h2
 -- B < f t + f + t + 1 and f, t >= 1, so that f + t <= f t + 1
 have h4:0<=(f-1)*(t-1):=dH om om;rw[zW,gP,eT,iP] at h4;have h5:1*1<=f*t:=Int.mul_le_mul h3 ht om om;omega
open Go.Lib
def cY (c:UInt8):Prop:=48<=c.toNat/\c.toNat<=57
instance (c:UInt8):Decidable (cY c):=by unfold cY;exact inferInstance
def aT (s:Bx):Nat:=s.foldl (fun n c=>10*n+(c.toNat-48)) 0
theorem jW (s:Bx) (c:UInt8):aT (s++ [c])=10*aT s+(c.toNat-48):=by simp[aT]
theorem lO {d:Nat} (h:d<10):(UInt8.ofNat (48+d)).toNat=48+d:=by
 rw[mE];omega
theorem Wl {c:UInt8} (h:cY c):UInt8.ofNat (48+(c.toNat-48))=c:=by
 obtain ⟨h1,h2⟩:=h;rw[show 48+(c.toNat-48)=c.toNat by omega];simp
theorem jG {n:Nat} (h:n<10):decDigits n= [UInt8.ofNat (48+n)]:=decDigits_one h
theorem xS {n:Nat} (h:¬n<10):decDigits n=decDigits (n/10)++ [UInt8.ofNat (48+n%10)]:=by rw[decDigits,Ex h]
theorem iA:∀n:Nat,aT (decDigits n)=n:=by
 intro n
 induction n using Nat.strongRecOn with
 | _ n ih=>
  by_cases h:n<10
  ·rw[jG h];show aT ([]++ [_])=n;rw[jW,lO h];simp[aT]
  rw[xS h,jW,ih _ om,lO om];omega
theorem oE:∀(n:Nat) (c:UInt8),c∈decDigits n->cY c:=by
 intro n
 induction n using Nat.strongRecOn with
 | _ n ih=>
  intro c hc;by_cases h:n<10
  ·rw[jG h] at hc;have:=bO.1 hc;subst this;unfold cY;rw[lO h];omega
  rw[xS h] at hc;rcases cE.1 hc with hc | hc
  ·exact ih _ om c hc
  have:=bO.1 hc;subst this;unfold cY;rw[lO om];omega
theorem zL (n:Nat):decDigits n≠ []:=by
 by_cases h:n<10
 ·rw[jG h];simp
 rw[xS h];simp
theorem zM:∀n:Nat,0<n->(decDigits n).headD 0≠48:=by
 intro n
 induction n using Nat.strongRecOn with
 | _ n ih=>
  intro hn;by_cases h:n<10
  ·rw[jG h];intro e;have:=aP UInt8.toNat e;simp only[yO] at this;rw[lO h] at this;have e2:(48:UInt8).toNat=48:=rfl;omega
  rw[xS h];have:=ih (n/10) om om;cases hd:decDigits (n/10) with
  | nil=>exact (zL _ hd).elim
  | cons x r=>rw[hd] at this;exact this
theorem wM:∀(k:Nat) (s:Bx),s.length=k->s≠ []->(∀c∈s,cY c)->(s.length=1\/s.headD 0≠48)->decDigits (aT s)=s:=by
 intro k
 induction k with
 | zero=>intro s h1 h2;exact (h2 (cI.1 h1)).elim
 | succ k ih=>
  intro s h1 h2 h3 h4;obtain ⟨t,c,rfl⟩:∃t c,s=t++ [c]:=⟨s.dropLast,s.getLast h2,(gI h2).symm⟩;have hc:=h3 c si;have hc':=hc;obtain ⟨c1,c2⟩:=hc';rw[jW];by_cases ht:t= []
  ·subst ht;have e:aT []=0:=rfl;rw[e,jG om,Nat.mul_zero,eJ,Wl hc];rfl
  have hlen:t.length=k:=by simpa using h1
  have hpos:0<t.length:=cB.2 ht;have hhd:t.headD 0≠48:=by
   rcases h4 with h | h
   ·simp at h;exact (ht h).elim
   cases t with
   | nil=>exact (ht rfl).elim
   | cons x r=>exact h
  have e:=ih t hlen ht (fun c hc=>h3 c (sP _ hc)) (.inr hhd);have hm:0<aT t:=by
   rcases dB (aT t) with h | h
   ·rw[h,jG om] at e;rw[<- e] at hhd;exact (hhd rfl).elim
   exact h
  rw[xS om,show (10*aT t+(c.toNat-48))/10=aT t by omega,e,show (10*aT t+(c.toNat-48))%10=c.toNat-48 by omega,Wl hc]
theorem aCx {m n:Nat} (h:decDigits m=decDigits n):m=n:=by rw[<- iA m,h,iA]
theorem sL {m n:Int} (h:itoa m=itoa n):m=n:=by
 have key:∀(a b:Nat),45::decDigits a≠decDigits b:=fun a b e=>by
  have:=oE b 45 (by rw[<- e];simp);have e2:(45:UInt8).toNat=45:=rfl;unfold cY at this;omega
 unfold itoa at h;split at h
 ·split at h
  ·have:=aCx (List.cons.inj h).2;omega
  exact (key _ _ h).elim
 split at h
 ·exact (key _ _ h.symm).elim
 have:=aCx h;omega
open Go.Lib
def digs (s:Bx):Bx:=if s.headD 0=45 then s.tail else s
def valI (s:Bx):Int:=if s.headD 0=45 then -(aT s.tail:Int) else aT s
def form (s:Bx):Prop:=digs s≠ []/\((digs s).headD 0≠48\/s= [48])/\∀c∈digs s,cY c
instance (s:Bx):Decidable (form s):=Cp
def chkI (s:Bx):Int:=if form s then (if 300<(digs s).length then 4 else 0) else 11
theorem rQ (n:Int):(itoa n).headD 0=45↔n<0:=by
 unfold itoa;split
 ·rename_i h;exact ⟨fun _=>h,fun _=>rfl⟩
 rename_i h;refine ⟨fun e=>?_,fun h'=>(h h').elim⟩;exfalso;cases hd:decDigits n.toNat with
 | nil=>exact zL _ hd
 | cons x r=>
  rw[hd] at e;have:=oE n.toNat x (by rw[hd];simp);simp only[yO] at e;subst e;have e2:(45:UInt8).toNat=45:=rfl;unfold cY at this;omega
theorem fN (n:Int):digs (itoa n)=decDigits n.natAbs:=by
 unfold digs;by_cases h:n<0
 ·rw[aD ((rQ n).2 h)];unfold itoa;rw[aD h];rfl
 rw[aC (fun e=>h ((rQ n).1 e))];unfold itoa;rw[aC h];congr 1;omega
theorem cH (n:Int):valI (itoa n)=n:=by
 unfold valI;by_cases h:n<0
 ·rw[aD ((rQ n).2 h)];unfold itoa;rw[aD h];simp only[List.tail_cons];rw[iA];omega
 rw[aC (fun e=>h ((rQ n).1 e))];unfold itoa;rw[aC h,iA];omega
theorem oB (n:Int):form (itoa n):=by
 refine ⟨by rw[fN];exact zL _,?_,fun c hc=>by rw[fN] at hc;exact oE _ c hc⟩;rw[fN];by_cases h:n=0
 ·right;subst h;exact jG om
 left;exact zM _ om
theorem As {s:Bx} (h:form s):s=itoa (valI s):=by
 obtain ⟨h1,h2,h3⟩:=h;unfold digs at h1 h2 h3;unfold valI;by_cases hm:s.headD 0=45
 ·rw[aD hm] at h1 h2 h3 ⊢;have hs:s=45::s.tail:=by
   cases s with
   | nil=>exact (h1 rfl).elim
   | cons x r=>simp only[yO] at hm;subst hm;rfl
  have hne:¬s= [48]:=fun e=>by rw[e] at hm;cases hm
  have hh:s.tail.headD 0≠48:=by
   rcases h2 with h | h
   ·exact h
   exact (hne h).elim
  have hd:=wM _ s.tail rfl h1 h3 (.inr hh);have hpos:0<aT s.tail:=by
   rcases dB (aT s.tail) with h | h
   ·rw[h] at hd;rw[<- hd] at hh;exact (hh (by rw[jG om];rfl)).elim
   exact h
  unfold itoa;rw[aD om,show (-(aT s.tail:Int)).natAbs=aT s.tail by omega,hd];exact hs
 rw[aC hm] at h1 h2 h3 ⊢
 have hd:=wM _ s rfl h1 h3 (by
  rcases h2 with h | h
  ·exact .inr h
  left;rw[h];rfl)
 unfold itoa;rw[aC om,aJ,hd]
theorem Lk {s:Bx}:form s↔s=itoa (valI s):=⟨As,fun h=>by rw[h];exact oB _⟩
theorem aCn (q:Nat) (hq:0<q):∀(k r:Nat),r<10^ (k+1)->decDigits (q*10^ (k+1)+r)=decDigits q++(List.replicate (k+1-(decDigits r).length) 48++decDigits r)
 | 0,r,hr=>by
  have hr:r<10:=by simpa using hr
  rw[xS (by simp;omega),jG hr];simp only[eJ,Nat.pow_one,cU,kV,List.replicate_zero,kJ];rw[show (q*10+r)/10=q by omega,show (q*10+r)%10=r by omega]
 | k+1,r,hr=>by
  have hp:0<10^ (k+1):=sQ om;have hb:q*10^ (k+1+1)=q*10^ (k+1)*10:=by rw[eD,pD]
  have h1:q*10^ (k+1+1)+r=10*(q*10^ (k+1)+r/10)+r%10:=om;have hm:0<q*10^ (k+1):=vK hq hp;rw[eD] at hr;rw[xS om,show (q*10^ (k+1+1)+r)/10=q*10^ (k+1)+r/10 by omega,show (q*10^ (k+1+1)+r)%10=r%10 by omega,aCn q hq k (r/10) om];by_cases h:r<10
  ·rw[jG h,show r/10=0 by omega,jG (show 0<10 by omega),eB h];simp only[cU,cC];congr 1
   rw[show k+1+1-1=k+1-1+1 by omega,sR];simp
  rw[xS (n:=r) h];simp only[aS,cU,cC];rw[show k+1+1-((decDigits (r/10)).length+1)=k+1-(decDigits (r/10)).length by omega]
open Go.Lib
theorem oC:∀(k n:Nat),n<10^ (k+1)->(decDigits n).length<=k+1
 | 0,n,h=>by rw[jG (by simpa using h)];simp
 | k+1,n,h=>by
  by_cases h10:n<10
  ·rw[jG h10];simp
  rw[eD] at h;rw[xS h10];have:=oC k (n/10) om;simp only[aS,cU];omega
def wrK (l:List Int):Nat->Bx
 | 0=>[]
 | m+1=>wrK l m++((if 0<m then List.replicate (9-(itoa (l.getD (l.length-1-m) 0)).length) 48 else [])++itoa (l.getD (l.length-1-m) 0))
theorem Wd {l:List Int} (h:InB (10^9) l) (hne:l≠ []) (hl:l.getLast hne≠0):∀m,m<l.length->0<valB (10^9) (l.drop (l.length-1-m))/\wrK l (m+1)=decDigits (valB (10^9) (l.drop (l.length-1-m))).toNat
 | 0,hm=>by
  have e1:l.getD (l.length-1) 0=l.getLast hne:=by
   rw[List.getLast_eq_getElem,aB,aM om];rfl
  have e2:l.drop (l.length-1)= [l.getLast hne]:=by
   rw[eU l _ om,e1,dF om]
  have g:=h.get (show l.length-1<l.length by omega);rw[e1] at g;rw[qZ,e2];simp only[valB,dL,eV,wrK,gR,if_false,kJ,qZ];rw[e1];refine ⟨om,?_⟩;unfold itoa;rw[aC om]
 | m+1,hm=>by
  obtain ⟨h1,h2⟩:=Wd h hne hl m om;obtain ⟨i,hi⟩:∃i,l.length-1-(m+1)=i:=⟨_,rfl⟩;have e1:l.length-1-m=i+1:=om;rw[e1] at h1 h2;rw[hi];have g:=h.get (show i<l.length by omega);have e2:l.drop i=l.getD i 0::l.drop (i+1):=eU l i om;rw[e2];simp only[valB];obtain ⟨v,hv⟩:=bT (dW h1);obtain ⟨x,hx⟩:=bT g.1;rw[hv] at h1 h2 ⊢;rw[hx] at g ⊢;have hx9:x<10^ (8+1):=by have:=g.2;omega
  have hv0:0<v:=om;have e3:((x:Int)+((10^9:Nat):Int)*(v:Int))=((v*10^ (8+1)+x:Nat):Int):=by
   rw[mR,dE,bJ,iM]
  refine ⟨by rw[e3];omega,?_⟩;rw[e3,aJ,aCn v hv0 8 x hx9];rw[aJ] at h2;have e4:itoa (x:Int)=decDigits x:=by unfold itoa;rw[aC om,aJ]
  rw[show wrK l (m+1+1)=wrK l (m+1)++((if 0<m+1 then List.replicate (9-(itoa (l.getD (l.length-1-(m+1)) 0)).length) 48 else [])++itoa (l.getD (l.length-1-(m+1)) 0)) from rfl,hi,hx,e4,h2,aD om]
theorem We (s:Bx):aT (48::s)=aT s:=by
 have e:(48:UInt8).toNat=48:=rfl;simp[aT,e]
theorem strip (s:Bx) (h:∀c∈s,cY c) (hp:0<aT s):s.dropWhile (· ==48)=decDigits (aT s):=by
 induction s with
 | nil=>simp[aT] at hp
 | cons c r ih=>
  by_cases e:c=48
  ·subst e;rw[We] at hp ⊢;rw[nS si];exact ih (fun c hc=>h c (bP _ hc)) hp
  rw[nT (by simpa using e)];exact (wM _ _ rfl si h (.inr (by simpa using e))).symm
open Go.Lib
theorem nat10_cons (c:UInt8) (s:Bx):aT (c::s)=(c.toNat-48)*10^s.length+aT s:=by
 refine list_snocU (fun s=>aT (c::s)=(c.toNat-48)*10^s.length+aT s) (by simp[aT]) (fun l x ih=>?_) s;rw[<- gN,jW,jW,ih,aS,cU,eD,Nat.mul_add,fL 10 (_* _),pD];omega
where
 list_snocU (P:Bx->Prop) (h0:P []) (h1:∀l x,P l->P (l++ [x])) (l:Bx):P l:=by
  have:∀n (l:Bx),l.length=n->P l:=by
   intro n
   induction n with
   | zero=>intro l hl;rw[cI.1 hl];exact h0
   | succ n ih=>
    intro l hl;have hne:l≠ []:=fun e=>by rw[e] at hl;simp at hl
    rw[<- gI hne];exact h1 _ _ (ih _ (by simp[hl]))
  exact this _ l rfl
def dgt (s:Bx) (i:Nat):Int:=((s.getD (s.length-1-i) 48).toNat:Int)-48
def rdK (s:Bx) (n:Nat):Nat->List Int
 | 0=>List.replicate n 0
 | i+1=>(rdK s n i).set (i/9) ((rdK s n i).getD (i/9) 0+dgt s i*10^ (i%9))
theorem aCo {s:Bx} (h:∀c∈s,cY c) {i:Nat} (hi:i<s.length):0<=dgt s i/\dgt s i<=9/\dgt s i=(((s.getD (s.length-1-i) 48).toNat-48:Nat):Int):=by
 have e:s.getD (s.length-1-i) 48=s[s.length-1-i]:=by rw[aB,aM om];rfl
 have:=h _ (cT (show s.length-1-i<s.length by omega));unfold dgt;rw[e];unfold cY at this;omega
theorem Zz {s:Bx} {i:Nat} (hi:i<s.length):aT (s.drop (s.length-(i+1)))=((s.getD (s.length-1-i) 48).toNat-48)*10^i+aT (s.drop (s.length-i)):=by
 have e1:s.length-(i+1)=s.length-1-i:=om;have e:s.getD (s.length-1-i) 48=s[s.length-1-i]:=by rw[aB,aM om];rfl
 rw[e1,kE om,nat10_cons,e,show s.length-1-i+1=s.length-i by omega,bB,show s.length-(s.length-i)=i by omega]
theorem Ll {s:Bx} (h:∀c∈s,cY c) {n:Nat} (hn:s.length<=9*n):∀i,i<=s.length->(rdK s n i).length=n/\InB (10^9) (rdK s n i)/\valB (10^9) (rdK s n i)=aT (s.drop (s.length-i))/\
  (∀t,i<=9*t->(rdK s n i).getD t 0=0)/\(rdK s n i).getD (i/9) 0<10^ (i%9)
 | 0,_=>by
  have hz:∀t,(List.replicate n (0:Int)).getD t 0=0:=fun t=>by rw[aB,cZ];split<;>rfl
  refine ⟨by simp[rdK],fun x hx=>?_,?_,fun t _=>hz t,?_⟩
  ·rw[(mH.1 hx).2];omega
  ·simp only[rdK];rw[wL,qZ,oL];rfl
  simp only[rdK];rw[hz];decide
 | i+1,hi=>by
  obtain ⟨h1,h2,h3,h4,h5⟩:=Ll h hn i om;obtain ⟨d1,d2,d3⟩:=aCo h (show i<s.length by omega);have hi9:i/9<n:=om;have g:=h2.get (show i/9<(rdK s n i).length by omega);simp only[rdK];generalize rdK s n i=l at h1 h2 h3 h4 h5 g ⊢;have hp:(0:Int)<10^ (i%9):=zU om;have hm:dgt s i*10^ (i%9)<=9*10^ (i%9):=bN d2 (dW hp);have hm0:0<=dgt s i*10^ (i%9):=dH d1 (dW hp);have hp1:(10:Int)^ (i%9+1)=10*10^ (i%9):=by rw[gH,bJ]
  have hlt:l.getD (i/9) 0+dgt s i*10^ (i%9)<10^ (i%9+1):=om;have hle:(10:Int)^ (i%9+1)<=((10^9:Nat):Int):=by
   have:10^ (i%9+1)<=10^9:=bG om om;exact_mod_cast this
  refine ⟨by rw[dN,h1],Gc h2 _ ⟨om,om⟩,?_,fun t ht=>?_,?_⟩
  ·rw[Ee _ _ _ om,h3,Zz om];have e1:((10^9:Nat):Int)^ (i/9)*(dgt s i*10^ (i%9))=dgt s i*10^i:=by
    have e2:((10^9:Nat):Int)^ (i/9)=(10:Int)^ (9*(i/9)):=by
     rw[Int.pow_mul];rfl
    rw[e2,Int.mul_left_comm,<- vM,show 9*(i/9)+i%9=i by omega]
   rw[show l.getD (i/9) 0+dgt s i*10^ (i%9)-l.getD (i/9) 0=dgt s i*10^ (i%9) by omega,e1,d3];generalize (s.getD (s.length-1-i) 48).toNat-48=e;rw[mR,dE,Int.natCast_pow,iM];rfl
  ·rw[mL _ _ _ om,aC om,h4 t om]
  rw[mL _ _ _ om];by_cases e:(i+1)/9=i/9
  ·rw[aD e,show (i+1)%9=i%9+1 by omega];exact hlt
  rw[aC e,h4 _ om];exact zU om
theorem aJ0 {s:Bx} (h:∀c∈s,cY c) {n:Nat} (hn:s.length<=9*n):gW (rdK s n s.length)=aI (10^9) (aT s):=by
 obtain ⟨h1,h2,h3,h4,h5⟩:=Ll h hn s.length (aN _);rw[kV,eX] at h3;rw[iI de h2,h3,aJ]
open Go.Lib
theorem Ea (a:Bx):∀b:Bx,aT (a++b)=aT a*10^b.length+aT b:=by
 intro b;refine nat10_cons.list_snocU (fun b=>aT (a++b)=aT a*10^b.length+aT b) (by simp[aT]) (fun l x ih=>?_) b;rw[<- cC,jW,jW,ih,aS,cU,eD,Nat.mul_add,fL 10 (_* _),pD];omega
theorem iE (s:Bx) (h:∀c∈s,cY c):aT s<10^s.length:=by
 revert h
 refine nat10_cons.list_snocU (fun s=>(∀c∈s,cY c)->aT s<10^s.length) (fun _=>by simp[aT]) (fun l x ih h=>?_) s;have h1:=ih fun c hc=>h c (sP _ hc);have h2:=h x si;unfold cY at h2;rw[jW,aS,cU,eD];omega
def grp (s:Bx) (k:Nat):Bx:=(s.take (s.length-6*k)).drop (s.length-6*(k+1))
def rdG (s:Bx):Nat->List Int
 | 0=>[]
 | k+1=>rdG s k++ [(aT (grp s k):Int)]
theorem aJ1 (s:Bx) (k:Nat):s.drop (s.length-6*(k+1))=grp s k++s.drop (s.length-6*k):=by
 unfold grp;have e:=dY (l₁:=s.take (s.length-6*k)) (l₂:=s.drop (s.length-6*k)) (i:=s.length-6*(k+1)) (by rw[aY];omega);rw[fH] at e;exact e
theorem aJ2 (s:Bx) (k:Nat):(grp s k).length<=6:=by
 unfold grp;rw[bB,aY];omega
theorem aJ3 {s:Bx} (h:∀c∈s,cY c) (k:Nat):∀c∈grp s k,cY c:=fun c hc=>h c (dG (kW hc))
theorem Eb {s:Bx} (h:∀c∈s,cY c):∀k,6*k<s.length+6->(rdG s k).length=k/\InB (10^6) (rdG s k)/\valB (10^6) (rdG s k)=aT (s.drop (s.length-6*k))
 | 0,_=>⟨rfl,InB.nil,by simp only[rdG];rw[Nat.mul_zero,qZ,oL];rfl⟩
 | k+1,hk=>by
  obtain ⟨h1,h2,h3⟩:=Eb h k om;have hg:=iE _ (aJ3 h k);have hg6:10^ (grp s k).length<=10^6:=bG om (aJ2 s k);refine ⟨by simp[rdG,h1],InB.append.2 ⟨h2,InB.cons.2 ⟨⟨om,om⟩,InB.nil⟩⟩,?_⟩;simp only[rdG];rw[uQ,h1,h3,aJ1,Ea,bB,show s.length-(s.length-6*k)=6*k by omega];have e:((10^6:Nat):Int)^k=(((10:Nat)^ (6*k):Nat):Int):=by
   rw[Nat.pow_mul];exact (Int.natCast_pow _ _).symm
  rw[e,mR,dE,bJ,iM]
theorem aCp {s:Bx} (h:∀c∈s,cY c) {k:Nat} (hk:6*k<s.length+6) (hl:s.length<=6*k):gW (rdG s k)=aI (10^6) (aT s):=by
 obtain ⟨h1,h2,h3⟩:=Eb h k hk;rw[show s.length-6*k=0 by omega,eX] at h3;rw[iI de h2,h3,aJ]
def six (x:Nat):Bx:=[UInt8.ofNat (48+x/100000%10),UInt8.ofNat (48+x/10000%10),UInt8.ofNat (48+x/1000%10),UInt8.ofNat (48+x/100%10),UInt8.ofNat (48+x/10%10),UInt8.ofNat (48+x%10)]
theorem aJ4 {x:Nat} (h:x<1000000):aT (six x)=x:=by
 have d:∀n,(UInt8.ofNat (48+n%10)).toNat=48+n%10:=fun n=>lO om;simp only[aT,six,pK,List.foldl_nil,d];omega
theorem aJ5 (x:Nat):∀c∈six x,cY c:=by
 have d:∀n,cY (UInt8.ofNat (48+n%10)):=fun n=>by unfold cY;rw[lO om];omega
 intro c hc;simp only[six,bH,iJ,or_false] at hc;rcases hc with rfl | rfl | rfl | rfl | rfl | rfl<;>exact d _
def wrG:List Int->Bx
 | []=>[]
 | x::r=>wrG r++six x.toNat
theorem Rx:∀l:List Int,(wrG l).length=6*l.length
 | []=>rfl
 | x::r=>by simp only[wrG,aS,Rx r,bS];simp[six];omega
theorem aCq:∀l:List Int,∀c∈wrG l,cY c
 | [],c,hc=>by simp[wrG] at hc
 | x::r,c,hc=>by
  simp only[wrG] at hc;rcases cE.1 hc with h | h
  ·exact aCq r c h
  exact aJ5 _ c h
theorem aCr:∀l:List Int,InB (10^6) l->(aT (wrG l):Int)=valB (10^6) l
 | [],_=>rfl
 | x::r,h=>by
  obtain ⟨h1,h2⟩:=InB.cons.1 h;have ih:=aCr r h2;have h6:(six x.toNat).length=6:=rfl;simp only[wrG,valB];rw[Ea,h6,aJ4 om,mR,dE,ih,bJ,iM];congr 1
  omega
theorem aJ6 {l:List Int} (h:InB (10^6) l) (hp:0<valB (10^6) l):(wrG l).dropWhile (· ==48)=decDigits (valB (10^6) l).toNat:=by
 have:=aCr l h;rw[strip _ (aCq l) om,<- this,aJ]
open Go.Lib
def numS (q:Rat):Bx:=if q.den=1 then itoa q.num else itoa q.num++47::decDigits q.den
def topS (s:Bx):Bx:=s.takeWhile (· != 47)
def botS (s:Bx):Bx:=s.dropWhile (· != 47)
theorem aCs (n:Int):∀c∈itoa n,c≠47:=by
 intro c hc e;subst e;have key:∀m:Nat,(47:UInt8) ∉ decDigits m:=fun m h=>by
  have:=oE m 47 h;have e2:(47:UInt8).toNat=47:=rfl;unfold cY at this;omega
 unfold itoa at hc;split at hc
 ·rcases bH.1 hc with h | h
  ·cases h
  exact key _ h
 exact key _ hc
theorem Bu {p:UInt8->Bool} {a b:Bx} (h:∀c∈a,p c=true):(a++b).takeWhile p=a++b.takeWhile p:=by
 induction a with
 | nil=>rfl
 | cons x r ih=>
  rw[gN,List.takeWhile_cons_of_pos (h x si),ih fun c hc=>h c (bP _ hc)];rfl
theorem Bv {p:UInt8->Bool} {a b:Bx} (h:∀c∈a,p c=true):(a++b).dropWhile p=b.dropWhile p:=by
 induction a with
 | nil=>rfl
 | cons x r ih=>
  rw[gN,nS (h x si),ih fun c hc=>h c (bP _ hc)]
theorem oX (q:Rat):topS (numS q)=itoa q.num:=by
 have hno:∀c∈itoa q.num,(c != 47)=true:=fun c hc=>by simpa using aCs _ c hc
 unfold topS numS;split
 ·have:=Bu (b:=[]) hno;simpa using this
 rw[Bu hno,List.takeWhile_cons_of_neg si];simp
theorem sK (q:Rat):botS (numS q)=if q.den=1 then [] else 47::decDigits q.den:=by
 have hno:∀c∈itoa q.num,(c != 47)=true:=fun c hc=>by simpa using aCs _ c hc
 unfold botS numS;split
 ·have:=Bv (b:=[]) hno;simpa using this
 rw[Bv hno,nT si]
def denS (s:Bx):Nat:=if botS s= [] then 1 else aT (botS s).tail
def valQ (s:Bx):Rat:=mkRat (valI (topS s)) (denS s)
def tA (s:Bx):Prop:=form (topS s)/\(botS s= []\/((botS s).tail=decDigits (denS s)/\2<=denS s))
theorem Ec (q:Rat):denS (numS q)=q.den:=by
 unfold denS;rw[sK];by_cases h:q.den=1
 ·rw[aD h,aD rfl,h]
 rw[aC h,aC si,List.tail_cons,iA]
theorem gM (q:Rat):valQ (numS q)=q:=by
 unfold valQ;rw[oX,cH,Ec,Rat.mkRat_self]
theorem aHk {p q:Rat} (h:numS p=numS q):p=q:=by rw[<- gM p,h,gM]
theorem Cr (q:Rat):tA (numS q):=by
 refine ⟨by rw[oX];exact oB _,?_⟩;rw[sK,Ec];by_cases h:q.den=1
 ·left;rw[aD h]
 right;rw[aC h]
 have:=q.den_nz;exact ⟨rfl,om⟩
theorem Ry (q:Rat):(valI (topS (numS q))).natAbs.gcd (denS (numS q))=1:=by
 rw[oX,cH,Ec];exact q.reduced
theorem aCt {s:Bx} (h:tA s) (hg:(valI (topS s)).natAbs.gcd (denS s)=1):s=numS (valQ s):=by
 obtain ⟨h1,h2⟩:=h;have hs:topS s++botS s=s:=rD;have hd0:denS s≠0:=by
  rcases h2 with h | ⟨_,h⟩
  ·unfold denS;rw[aD h];decide
  omega
 have hq:valQ s= ⟨valI (topS s),denS s,hd0,hg⟩:=by unfold valQ;rw[<- Rat.mk_eq_mkRat]
 have e1:(valQ s).num=valI (topS s):=by rw[hq]
 have e2:(valQ s).den=denS s:=by rw[hq]
 unfold numS;rw[e1,e2,<- As h1];rcases h2 with h | ⟨h3,h4⟩
 ·have:denS s=1:=by unfold denS;rw[aD h]
  rw[aD this];rw[h,eZ] at hs;exact hs.symm
 rw[aC om,<- h3];have hb:botS s=47::(botS s).tail:=by
  cases hb:botS s with
  | nil=>
   have:denS s=1:=by unfold denS;rw[aD hb]
   omega
  | cons x r=>
   have hx:x=47:=by
    have hd:=List.head?_dropWhile_not (p:=(· != (47:UInt8))) (l:=s);have hb':s.dropWhile (· != 47)=x::r:=hb;rw[hb'] at hd;simpa using hd
   subst hx;rfl
 rw[<- hb,hs]
open Go.Lib
theorem Ik (n:Int) (d:Nat) (hd:d≠0):numS (mkRat n d)=if d/d.gcd n.natAbs=1 then itoa (n/(d.gcd n.natAbs:Nat)) else itoa (n/(d.gcd n.natAbs:Nat))++47::decDigits (d/d.gcd n.natAbs):=by
 unfold numS;rw[Rat.num_mkRat,Rat.den_mkRat,aC hd,aC hd]
theorem Fy (p q:Rat):p+q=mkRat (p.num*q.den+q.num*p.den) (p.den*q.den):=Rat.add_def' p q
theorem Fz (p q:Rat):p-q=mkRat (p.num*q.den-q.num*p.den) (p.den*q.den):=Rat.sub_def' p q
theorem Ga (p q:Rat):p*q=mkRat (p.num*q.num) (p.den*q.den):=Rat.mul_def' p q
theorem Cs (n:Int) (d:Int) (hd:d<0):Rat.divInt n d=mkRat (-n) (-d).toNat:=by
 rw[<- mI];have: -d=((-d).toNat:Int):=om;rw[this];exact sC _ _
theorem lY (n:Int) (d:Int) (hd:0<d):Rat.divInt n d=mkRat n d.toNat:=by
 have:d=(d.toNat:Int):=om
 conv=>lhs;rw[this]
 exact sC _ _
theorem Gb (p q:Rat) (hq:q≠0):p/q=Rat.divInt (p.num*q.den) (p.den*q.num):=by
 rw[Rat.div_def,Rat.inv_def]
 conv=>lhs;lhs;rw[<- Rat.num_divInt_den p]
 rw[Rat.divInt_mul_divInt]
open Go.Lib
def sgn (b:Bool) (m:Nat):Int:=if b then -(m:Int) else m
def wrM (b:Bool) (m:Nat):Bx:=if m=0 then [48] else if b then 45::decDigits m else decDigits m
theorem aNn (b:Bool) (m:Nat):wrM b m=itoa (sgn b m):=by
 unfold wrM sgn itoa;by_cases h:m=0
 ·subst h;rw[aD rfl];cases b<;>exact (jG (show 0<10 by omega)).symm
 rw[aC h];cases b
 ·show decDigits m=if (m:Int)<0 then 45::decDigits (m:Int).natAbs else decDigits (m:Int).toNat;rw[aC om,aJ]
 show 45::decDigits m=if -(m:Int)<0 then 45::decDigits (-(m:Int)).natAbs else decDigits (-(m:Int)).toNat;rw[aD om,show (-(m:Int)).natAbs=m by omega]
theorem aEd (x y:Int) (hy:y≠0):(if x.tmod y≠0/\¬(x.tmod y<0↔y<0) then (x.tdiv y-1,x.tmod y+y) else (x.tdiv y,x.tmod y))=(x.fdiv y,x.fmod y):=by
 have h1:=Int.tmod_add_mul_tdiv x y;have hlt:(x.tmod y).natAbs<y.natAbs:=by rw[iD];exact dO _ om
 rcases mJ hy with hn | hp
 ·split
  ·rename_i h;have:=(kB (a:=x) (r:=x.tmod y+y) (q:=x.tdiv y-1) hn).2 ⟨by rw[gP,eT];omega,om,om⟩;rw[this.1,this.2]
  rename_i h;have:=(kB (a:=x) (r:=x.tmod y) (q:=x.tdiv y) hn).2 ⟨h1,om,om⟩;rw[this.1,this.2]
 split
 ·rename_i h;have:=(kX (a:=x) (r:=x.tmod y+y) (q:=x.tdiv y-1) hp).2 ⟨by rw[gP,eT];omega,om,om⟩;rw[this.1,this.2]
 rename_i h;have:=(kX (a:=x) (r:=x.tmod y) (q:=x.tdiv y) hp).2 ⟨h1,om,om⟩;rw[this.1,this.2]
theorem aJ7 (b:Bool) (m:Nat) (c:Bool) (n:Nat) (hn:0<n):
  (sgn (b != c) (if b≠c/\0<m%n then m/n+1 else m/n),sgn c (if b≠c/\0<m%n then n-m%n else m%n))=((sgn b m).fdiv (sgn c n),(sgn b m).fmod (sgn c n)):=by
 have h1:=Nat.mod_add_div m n;have h2:=dO m hn;have h1':((m%n:Nat):Int)+(n:Int)*((m/n:Nat):Int)=m:=by exact_mod_cast h1
 generalize m%n=r at h1 h1' h2 ⊢;generalize m/n=q at h1 h1' ⊢;cases b<;>cases c<;>simp only[sgn,bne_self_eq_false,Bool.false_eq_true,if_false,if_true,ne_eq,not_true_eq_false,false_and,reduceCtorEq,not_false_eq_true,true_and,Bool.bne_true,Bool.bne_false,Bool.not_false]
 ·have:=(kX (a:=(m:Int)) (b:=(n:Int)) (r:=(r:Int)) (q:=(q:Int)) om).2 ⟨h1',om,om⟩;rw[this.1,this.2]
 ·by_cases h:0<r
  ·have:=(kB (a:=(m:Int)) (b:= -(n:Int)) (r:= -((n-r:Nat):Int)) (q:= -((q+1:Nat):Int)) om).2 ⟨by rw[Int.neg_mul_neg];simp only[mR,cO];omega,om,om⟩;rw[aD h,aD h,this.1,this.2]
  have:=(kB (a:=(m:Int)) (b:= -(n:Int)) (r:= -(r:Int)) (q:= -(q:Int)) om).2 ⟨by rw[Int.neg_mul_neg];omega,om,om⟩;rw[aC h,aC h,this.1,this.2]
 ·by_cases h:0<r
  ·have:=(kX (a:= -(m:Int)) (b:=(n:Int)) (r:=((n-r:Nat):Int)) (q:= -((q+1:Nat):Int)) om).2 ⟨by rw[sS];simp only[mR,cO];omega,om,om⟩;rw[aD h,aD h,this.1,this.2]
  have:=(kX (a:= -(m:Int)) (b:=(n:Int)) (r:=(r:Int)) (q:= -(q:Int)) om).2 ⟨by rw[sS];omega,om,om⟩;rw[aC h,aC h,this.1,this.2]
 have:=(kB (a:= -(m:Int)) (b:= -(n:Int)) (r:= -(r:Int)) (q:=(q:Int)) om).2 ⟨by rw[Int.neg_mul];omega,om,om⟩;rw[this.1,this.2]
open Go.Lib
instance (s:Bx):Decidable (tA s):=Cp
def chkQ (s:Bx):Int:=if tA s then (if 300<(digs (topS s)).length\/300<(botS s).tail.length then 4 else if (valI (topS s)).natAbs.gcd (denS s)=1 then 0 else 11) else 11
theorem Ed {s:Bx} (h:chkQ s=0):s=numS (valQ s)/\(digs (topS s)).length<=300/\(botS s).tail.length<=300:=by
 unfold chkQ at h;split at h
 ·rename_i hf;split at h
  ·cases h
  rename_i hl;split at h
  ·rename_i hg;exact ⟨aCt hf hg,om,om⟩
  cases h
 cases h
def lim (n:Int):Bool:=decide (300<(decDigits n.natAbs).length)
def iK (a b:Bx) (f:Rat->Rat->Bx × Int):Bx × Int:=if chkQ a≠0 then ([],chkQ a) else if chkQ b≠0 then ([],chkQ b) else f (valQ a) (valQ b)
def addQ (a b:Bx):Bx × Int:=iK a b fun p q=>if lim (p.num*q.den) || lim (q.num*p.den) || lim (p.num*q.den+q.num*p.den) || lim (p.den*q.den) then ([],4) else (numS (p+q),0)
def subQ (a b:Bx):Bx × Int:=iK a b fun p q=>if lim (p.num*q.den) || lim (q.num*p.den) || lim (p.num*q.den-q.num*p.den) || lim (p.den*q.den) then ([],4) else (numS (p-q),0)
def mulQ (a b:Bx):Bx × Int:=iK a b fun p q=>if lim (p.num*q.num) || lim (p.den*q.den) then ([],4) else (numS (p*q),0)
def divQ (a b:Bx):Bx × Int:=iK a b fun p q=>if q=0 then ([],12) else if lim (p.num*q.den) || lim (q.num*p.den) then ([],4) else (numS (p/q),0)
end IB
end
section
open Go Go.Proofs Go.Eng Go.Shelf IB Tryz
namespace RB
abbrev I (n:Int):SV:=.val (.int .i64 n)
abbrev Ls (xs:List Int):SV:=.seq (.int .i64) xs
abbrev S (s:Bx):SV:=.str s
abbrev B9:Nat:=1000000000
theorem eS {n:Int} {C:Nat->Prop} (j:Nat) (e:n=(j:Int)) (h:C j):Ix n C:=by
 refine ⟨fun i e'=>?_⟩;have:j=i:=om;subst this;exact h
theorem get9 {l:List Int} (h:InB B9 l) (i:Nat):0<=l.getD i 0/\l.getD i 0<1000000000:=h.getD0 de i
theorem wO (xs:List Int) (k:Nat) (h:k<xs.length):xs.take (k+1)=xs.take k++ [xs.getD k 0]:=by
 rw[cV h];simp[aB,h]
theorem Ba (xs:List Int) (k i:Nat) (h:i<k):(xs.take k).getD i 0=xs.getD i 0:=by
 simp[aB,aU,h]
abbrev V (xs:List Int):HO:=.vec 1 (.int .i64) xs 3
theorem b131 (xs:List Int):Ui Tp [] { asks:=[(0,[0])] } f233 0 false [.any] (.int .i64) xs 3 (.ref 0 1) (gW xs):=by
 refine Ask.mk ⟨{ X:=Nat,pre:=fun i=>i<=xs.length/\gW (xs.take i)=gW xs,mod:=fun i _=>[(0,.ref 0 1)],heap:=fun i _=>[V (xs.take i),V []],mu:=fun i=>i,objs:=[0] },rfl,?_⟩;(repeat refine ZG ?_);refine ⟨⟨xs.length,⟨aN _,by rw[eA]⟩,?_⟩,fun (i:Nat) hi=>?_⟩
 ·(repeat' first|exact trivial|rfl|exact Nat.one_pos|apply aA);exact (eA).symm
 obtain ⟨hi1,hi2⟩:=hi;have hl:(xs.take i).length=i:=by rw[aY];omega
 (repeat'((conv=>whnf);first|refine Zg fun _=>?_|fail));(apply Br.mk<;>intro)
 ·rename_i h1;have h0:0<i:=om;obtain ⟨k,rfl⟩:∃k,i=k+1:=⟨i-1,om⟩;(repeat' first|refine ZN ?_|refine Zg fun _=>?_);refine eS k om ?_;(repeat'((conv=>whnf);first|refine Zg fun _=>?_|fail));(apply Br.mk<;>intro)
  ·rename_i hz;rw[Ba _ _ _ om] at hz;(repeat' first|refine ZN ?_|refine Zg fun _=>?_);refine Own.l (Own.r ?_);(repeat refine ZN ?_);refine eS k om ?_;refine ⟨(k:Nat),by show k<k+1;omega,⟨om,?_⟩,?_⟩
   ·rw[<- hi2,wO _ _ om,hz,lE]
   (repeat' first|exact trivial|rfl|exact Nat.one_pos|apply aA);rw[uY];congr 1;omega
  rename_i hz;rw[Ba _ _ _ om] at hz;(conv=>whnf);(repeat' first|rfl|apply aA);rw[<- hi2,wO _ _ om];exact (tV _ _ hz).symm
 have:i=0:=om;subst this;(conv=>whnf);(repeat' first|rfl|apply aA);rw[<- hi2];rfl
theorem b131s (xs:List Int):body Tp [] { asks:=[(0,[])] } false f233 [Ls xs] (Ls (gW xs)):=by
 refine Ask.mk ⟨{ X:=Nat,pre:=fun i=>i<=xs.length/\gW (xs.take i)=gW xs,mod:=fun i _=>[(0,Ls (xs.take i))],heap:=fun i _=>[V []],mu:=fun i=>i },rfl,?_⟩;(repeat refine ZG ?_);refine ⟨⟨xs.length,⟨aN _,by rw[eA]⟩,?_⟩,fun (i:Nat) hi=>?_⟩
 ·(repeat' first|exact trivial|rfl|apply aA);exact (eA).symm
 obtain ⟨hi1,hi2⟩:=hi;have hl:(xs.take i).length=i:=by rw[aY];omega
 (repeat'((conv=>whnf);first|refine Zg fun _=>?_|fail));(apply Br.mk<;>intro)
 ·rename_i h1;have h0:0<i:=om;obtain ⟨k,rfl⟩:∃k,i=k+1:=⟨i-1,om⟩;(repeat' first|refine ZG ?_|refine Zg fun _=>?_);refine eS k om ?_;(repeat'((conv=>whnf);first|refine Zg fun _=>?_|fail));(apply Br.mk<;>intro)
  ·rename_i hz;rw[Ba _ _ _ om] at hz;(repeat' first|refine ZG ?_|refine Zg fun _=>?_);refine eS k om ?_;refine ⟨(k:Nat),by show k<k+1;omega,⟨om,?_⟩,?_⟩
   ·rw[<- hi2,wO _ _ om,hz,lE]
   (repeat' first|exact trivial|rfl|apply aA);rw[uY];congr 1;omega
  rename_i hz;rw[Ba _ _ _ om] at hz;(conv=>whnf);rw[<- hi2,wO _ _ om];exact (tV _ _ hz).symm
 have:i=0:=om;subst this;(conv=>whnf);rw[<- hi2];rfl
def c131:Con:=aGb 233 false 0 false (fun args o K=>match args,o with | [.any],.vec 1 (.int .i64) xs 3=>K (.ref 0 1) (.vec 1 (.int .i64) (gW xs) 3) | _,_=>False)
 (fun args K=>match args with | [.seq (.int .i64) xs]=>K (Ls (gW xs)) | _=>False)
theorem k131:aO Tp c131:=by
 refine aG3 (enters_of func233 kr rfl) ?_ ?_
 ·intro args t xs e K hfl h;split at h
  ·rename_i zs heq;cases heq
   first | exact ⟨_,_,h,oA si func233 (by simp[ntmps233]) rfl (b131 zs)⟩ | exact ⟨_,_,h,oA si func233 (by simp[ntmps233]) rfl (b131 xs)⟩
  cases h
 intro args K h;split at h
 ·rename_i xs;exact ⟨_,h,triB func233 ntmps233 si (b131s xs)⟩
 cases h
theorem b132 (l:List Int) (i:Int) (h:0<=i):body Tp [] {} true f283 [Ls l,I i] (I (l.getD i.toNat 0)):=by
 (repeat'((conv=>whnf);first|refine Zg fun _=>?_|fail));(apply Br.mk<;>intro)
 ·(repeat refine ZG ?_);refine eS i.toNat om ?_;(repeat'((conv=>whnf);first|refine Zg fun _=>?_|fail));exact ZF
 rename_i h1;have:l.getD i.toNat 0=0:=mN _ _ om;(conv=>whnf);rw[this];exact ZE
def c132:Con:=aR 283 true fun args K=>match args with | [.seq (.int .i64) l,.val (.int .i64 i)]=>Need (0<=i) (Ix i fun j=>K (I (l.getD j 0))) | _=>False
theorem k132:aO Tp c132:=by
 refine kO func283 fun args K h=>?_;simp only[c132] at h;split at h
 ·rename_i l i;exact ⟨_,h.go.use h.ok,triB func283 ntmps283 si (b132 l i h.ok)⟩
 cases h
def c108:Con:=aR 292 true fun | [.val (.int .i64 x),.val (.int .i64 y),.val (.int .i64 c)],K=>Need ((0<=x/\x<1000000000)/\(0<=y/\y<1000000000)/\(0<=c/\c<=1)) (K (.tup [I ((x+y+c)%1000000000),I ((x+y+c)/1000000000)])) | _,_=>False
theorem k108:aO Tp c108:=by
 refine kQ {} func292 ntmps292 kn fun _ _ h=>?_;split at h;case h_2=>cases h
 refine kb h.go ?_;replace h:=h.ok;exact ZGF
abbrev mn (x y c:Int):Int:=if 0<=x-y-c then x-y-c else x-y-c+1000000000
abbrev mc (x y c:Int):Int:=if 0<=x-y-c then 0 else 1
def c109:Con:=aR 293 true fun | [.val (.int .i64 x),.val (.int .i64 y),.val (.int .i64 c)],K=>Need ((0<=x/\x<1000000000)/\(0<=y/\y<1000000000)/\(0<=c/\c<=1)) (K (.tup [I (mn x y c),I (mc x y c)])) | _,_=>False
theorem k109:aO Tp c109:=by
 refine kQ {} func293 ntmps293 kn fun _ _ h=>?_;split at h;case h_2=>cases h
 refine kb h.go ?_;replace h:=h.ok;unfold mn mc;(repeat refine ZG ?_);(apply Br.mk<;>intro)
 ·rename_i hb;(conv=>whnf);rw[aD hb,aD hb];exact ZE
 rename_i hb;(repeat refine ZG ?_);(conv=>whnf);rw[aC hb,aC hb];exact ZE
theorem b107p (a b:List Int) (h:InB B9 a/\InB B9 b/\a.length<=100000/\b.length<=100000):body Tp [c132,c108,c131] { asks:=[(0,[1])] } true f291 [Ls a,Ls b,.clo 292 [] []] (Ls (aI B9 (valB B9 a+valB B9 b).toNat)):=by
 obtain ⟨ha,hb,hla,hlb⟩:=h;(repeat' first|refine ZG ?_|refine Zg fun _=>?_);refine Ask.mk ⟨{ X:=Nat,pre:=fun i=>i<=max a.length b.length+1,mod:=fun i _=>[(7,.ref 1 1),(8,I (addK B9 a b i).2),(18,I i)],heap:=fun i _=>[V [],V (addK B9 a b i).1],mu:=fun i=>max a.length b.length+1-i,objs:=[1] },rfl,?_⟩;(repeat refine ZG ?_);refine ⟨⟨(0:Nat),aK _,ZE⟩,fun (i:Nat) (hi:i<=max a.length b.length+1)=>?_⟩;obtain ⟨g1,g2,g3,_⟩:=tX (B:=B9) de ha hb i;have ga:=get9 ha i;have gb:=get9 hb i;(apply Br.mk<;>intro)
 ·have hlt:i<max a.length b.length+1:=om;(repeat refine ZG ?_);refine ⟨(i+1:Nat),by show max a.length b.length+1-(i+1)<max a.length b.length+1-i;omega,hlt,?_⟩;exact ZE
 have e:i=max a.length b.length+1:=om;subst e;(conv=>whnf);rw[<- aHl (B:=B9) de ha hb (Nat.le_max_left _ _) (Nat.le_max_right _ _)]
theorem b107m (a b:List Int) (h:InB B9 a/\InB B9 b/\valB B9 b<=valB B9 a/\a.length<=100000/\b.length<=100000):body Tp [c132,c109,c131] { asks:=[(0,[1])] } true f291 [Ls a,Ls b,.clo 293 [] []] (Ls (aI B9 (valB B9 a-valB B9 b).toNat)):=by
 obtain ⟨ha,hb,hle,hla,hlb⟩:=h;(repeat' first|refine ZG ?_|refine Zg fun _=>?_);refine Ask.mk ⟨{ X:=Nat,pre:=fun i=>i<=max a.length b.length+1,mod:=fun i _=>[(7,.ref 1 1),(8,I (subK B9 a b i).2),(18,I i)],heap:=fun i _=>[V [],V (subK B9 a b i).1],mu:=fun i=>max a.length b.length+1-i,objs:=[1] },rfl,?_⟩;(repeat refine ZG ?_);refine ⟨⟨(0:Nat),aK _,ZE⟩,fun (i:Nat) (hi:i<=max a.length b.length+1)=>?_⟩;obtain ⟨g1,g2,g3,_⟩:=Au (B:=B9) de ha hb i;have ga:=get9 ha i;have gb:=get9 hb i;(apply Br.mk<;>intro)
 ·have hlt:i<max a.length b.length+1:=om;(repeat refine ZG ?_);refine ⟨(i+1:Nat),by show max a.length b.length+1-(i+1)<max a.length b.length+1-i;omega,hlt,?_⟩;exact ZE
 have e:i=max a.length b.length+1:=om;subst e;(conv=>whnf);rw[<- (Wg (B:=B9) de ha hb (n:=max a.length b.length+1) om om hle).1]
def c107:Con:=aR 291 true fun args K=>match args with
 | [.seq (.int .i64) a,.seq (.int .i64) b,.clo 292 [] []]=>Need (InB B9 a/\InB B9 b/\a.length<=100000/\b.length<=100000) (K (Ls (aI B9 (valB B9 a+valB B9 b).toNat)))
 | [.seq (.int .i64) a,.seq (.int .i64) b,.clo 293 [] []]=>Need (InB B9 a/\InB B9 b/\valB B9 b<=valB B9 a/\a.length<=100000/\b.length<=100000) (K (Ls (aI B9 (valB B9 a-valB B9 b).toNat)))
 | _=>False
theorem k107:aO Tp c107:=by
 refine kO func291 fun args K h=>?_;simp only[c107] at h;split at h
 ·rename_i a b;exact ⟨_,h.go,triB func291 ntmps291 (by simp[k132,k108,k131]) (b107p a b h.ok)⟩
 ·rename_i a b;exact ⟨_,h.go,triB func291 ntmps291 (by simp[k132,k109,k131]) (b107m a b h.ok)⟩
 cases h
theorem c9:((B9:Nat):Int)=1000000000:=rfl
theorem aEp {x y B:Int} (hx:0<=x/\x<B) (hy:0<=y/\y<B):0<=x*y/\x*y<=(B-1)*(B-1):=by
 refine ⟨dH hx.1 hy.1,?_⟩
 calc x*y<=(B-1)*y:=bN om hy.1
  _<=(B-1)*(B-1):=aV om om
theorem b99 (a b:List Int) (h:InB B9 a/\InB B9 b/\a.length<=100000/\b.length<=100000):Uk Tp [c132,c131] { asks:=[(0,[]),(2,[])] } f236 [Ls a,Ls b] (.ref 0 1) (.int .i64) (aI B9 (valB B9 a*valB B9 b).toNat) 3:=by
 obtain ⟨ha,hb,hla,hlb⟩:=h;obtain ⟨n,hn⟩:∃n,n=a.length+b.length+1:=⟨_,rfl⟩;(repeat' first|refine ZG ?_|refine Zg fun _=>?_);refine Ask.mk ⟨{ X:=Nat,pre:=fun i=>i<=a.length,mod:=fun i _=>[(20,I i)],heap:=fun i _=>[V [],V (mulR B9 a b (List.replicate n 0) i)],mu:=fun i=>a.length-i },rfl,?_⟩;(repeat refine ZG ?_);refine ⟨⟨(0:Nat),aK _,?_⟩,fun (i:Nat) (hi:i<=a.length)=>?_⟩
 ·(repeat' first|exact trivial|rfl|apply aA);show List.replicate _ _=List.replicate _ _;congr 1;omega
 obtain ⟨g1,g2,g3⟩:=Av (B:=B9) de ha hb (n:=n) om i hi;have ga:=get9 ha i;(apply Br.mk<;>intro)
 ·have hlt:i<a.length:=om;(repeat' first|refine ZG ?_|refine Zg fun _=>?_);refine Ask.mk ⟨{ X:=Nat,pre:=fun k=>k<=b.length+1,mod:=fun k _=>[(28,I k),(8,I (mulK B9 (a.getD i 0) b i (mulR B9 a b (List.replicate n 0) i) k).2)],heap:=fun k _=>[V [],V (mulK B9 (a.getD i 0) b i (mulR B9 a b (List.replicate n 0) i) k).1],mu:=fun k=>b.length+1-k },rfl,?_⟩;(repeat refine ZG ?_);refine ⟨⟨(0:Nat),aK _,ZE⟩,fun (k:Nat) (hk:k<=b.length+1)=>?_⟩;obtain ⟨m1,m2,m3,_⟩:=rR (B:=B9) de (x:=a.getD i 0) ⟨ga.1,by rw[c9];exact ga.2⟩ hb (i:=i) g2 k om;have m3:0<=(mulK B9 (a.getD i 0) b i (mulR B9 a b (List.replicate n 0) i) k).2/\(mulK B9 (a.getD i 0) b i (mulR B9 a b (List.replicate n 0) i) k).2<1000000000:=m3;have gb:=get9 hb k;have gm:=get9 m2 (i+k);have hm:=aEp ga gb;(apply Br.mk<;>intro)
  ·have hlt:k<b.length+1:=om;(repeat'((conv=>whnf);first|refine Zg fun _=>?_|refine Za ?_|refine Zn ?_|refine Zj ?_|apply pI|apply pJ|fail));refine ⟨(k+1:Nat),by show b.length+1-(k+1)<b.length+1-k;omega,hlt,?_⟩;exact ZE
  have e:k=b.length+1:=om;subst e;(repeat refine ZG ?_);refine ⟨(i+1:Nat),by show a.length-(i+1)<a.length-i;omega,hlt,?_⟩;exact ZE
 have e:i=a.length:=om;subst e;(conv=>whnf);(repeat' first|rfl|apply aA);exact Wi (B:=B9) de ha hb om
def c99:Con:=Qb 236 fun args K=>match args with | [.seq (.int .i64) a,.seq (.int .i64) b]=>Need (InB B9 a/\InB B9 b/\a.length<=100000/\b.length<=100000) (K (.ref 0 1) (.vec 1 (.int .i64) (aI B9 (valB B9 a*valB B9 b).toNat) 3)) | _=>False
theorem k99:aO Tp c99:=by
 refine Kg (enters_of func236 kr rfl) ?_;intro args K h;split at h
 ·rename_i a b;exact ⟨_,_,_,_,_,h.go,fun hfl=>tG (by simp[k132,k131]) func236 (by simp[ntmps236]) hfl (b99 a b h.ok)⟩
 cases h
abbrev itB (xs:List Int) (k:Nat):List SV:=[I ((xs.length-1-k:Nat)),I (xs.getD (xs.length-1-k) 0)]
def c135:Con:=aR 237 false fun | [.seq (.int .i64) xs],K=>K (.clo 284 [] [.lelem [Ls xs] 0]) | _,_=>False
theorem k135:aO Tp c135:=by
 refine kQ {} func237 ntmps237 kn fun _ _ h=>?_;split at h;case h_2=>cases h
 refine kb h ?_;exact ZF
theorem b166 (xs:List Int):Jv Tp [] { asks:=[(0,[])] } f284 [.lelem [Ls xs] 0] xs.length (itB xs):=by
 (repeat' first|refine ZG ?_|refine Zg fun _=>?_);refine Ask.mk ⟨{ X:=Nat,pre:=fun i=>i<=xs.length,mod:=fun i _=>[(3,I ((xs.length:Int)-1-i))],heap:=fun i _=>[.yst (some i) xs.length (itB xs)],mu:=fun i=>xs.length-i },rfl,?_⟩;(repeat refine ZG ?_);refine ⟨⟨(0:Nat),aK _,ZE⟩,fun (i:Nat) (hi:i<=xs.length)=>?_⟩;(apply Br.mk<;>intro)
 ·have hlt:i<xs.length:=om;have e:((xs.length:Int)-1-i)=((xs.length-1-i:Nat):Int):=om;(repeat refine ZG ?_);refine eS (xs.length-1-i) om ?_;(repeat'((conv=>whnf);first|refine Zg fun _=>?_|refine Zn ?_|fail));refine Need.mk (by (repeat' first|exact trivial|rfl|apply aA);exact e) ?_;refine Two.mk ?_ ?_
  ·(repeat refine ZG ?_);refine ⟨(i+1:Nat),by show xs.length-(i+1)<xs.length-i;omega,hlt,?_⟩;exact ZE
  (conv=>whnf)
  trivial
 (conv=>whnf);omega
def c166:Con:=aR 284 false fun args K=>match args with | [.lelem [.seq (.int .i64) xs] 0]=>K (.itr xs.length (itB xs)) | _=>False
theorem k166:aO Tp c166:=by
 refine kO func284 fun args K h=>?_;simp only[c166] at h;split at h
 ·rename_i xs;exact ⟨_,h,tH si func284 (by simp[ntmps284]) (b166 xs)⟩
 cases h
def nQ (a b:List Int):Nat->Int
 | 0=>0
 | m+1=>if a.getD m 0=b.getD m 0 then nQ a b m else a.getD m 0-b.getD m 0
def cmpL (a b:List Int):Int:=if a.length=b.length then nQ a b a.length else (a.length:Int)-b.length
def c129:Con:=aR 234 true fun | [.seq (.int .i64) a,.seq (.int .i64) b],K=>Need (InB B9 a/\InB B9 b) (K (I (cmpL a b))) | _,_=>False
theorem k129:aO Tp c129:=by
 refine kQ { asks:=[(0,[])] } func234 ntmps234 (kc k135 (kc k166 kn)) fun _ _ h=>?_;split at h;case h_2=>cases h
 rename_i a b;refine kb h.go ?_;replace h:=h.ok;obtain ⟨ha,hb⟩:=h;unfold cmpL;(repeat'((conv=>whnf);first|refine Zg fun _=>?_|fail));(apply Br.mk<;>intro)
 ·rename_i h1;rw[aC om];exact ZGF
 rename_i h1;rw[aD om];have hl:a.length=b.length:=om;refine Ask.mk ⟨{ X:=Nat,pre:=fun i=>i<=a.length/\nQ a b a.length=nQ a b (a.length-i),mod:=fun _ _=>[],heap:=fun _ _=>[.cells [Ls b] 41,.cells [I 0] 3],mu:=fun i=>i },rfl,?_⟩;(repeat refine ZG ?_);refine ⟨⟨(0:Nat),rfl,⟨aK _,rfl⟩,ZE⟩,fun (i:Nat) hi (hlt:i<a.length)=>?_,fun (i:Nat) hi (he:i=a.length)=>?_⟩
 ·obtain ⟨hi1,hi2⟩:=hi;obtain ⟨m,hm⟩:∃m,a.length-i=m+1:=⟨a.length-i-1,om⟩;have e1:a.length-1-i=m:=om;have e2:a.length-(i+1)=m:=om;have ga:=get9 ha m;have gb:=get9 hb m;rw[hm,nQ] at hi2;have eI:itB a i= [I m,I (a.getD m 0)]:=by rw[itB,e1]
  show hnfL (itB a i) _;rw[eI];(repeat' first|refine ZG ?_|refine Zg fun _=>?_);(apply Br.mk<;>intro)
  ·rename_i hne;rw[aC hne] at hi2;(repeat' first|refine ZG ?_|refine Zg fun _=>?_);(conv=>whnf);(repeat' first|rfl|apply aA);exact hi2.symm
  rename_i heq;rw[aD (bC.1 heq)] at hi2;refine ⟨(i+1:Nat),rfl,⟨om,by rw[e2];exact hi2⟩,ZE⟩
 obtain ⟨hi1,hi2⟩:=hi;subst he;rw[kV] at hi2;(conv=>whnf);(repeat' first|rfl|apply aA);exact hi2.symm
theorem Ht {a b:List Int} (ha:InB B9 a) (hb:InB B9 b) (hl:a.length=b.length):∀m,m<=a.length->(∀j,m<=j->j<a.length->a.getD j 0=b.getD j 0)->
  (nQ a b m<0↔valB B9 a<valB B9 b)/\(nQ a b m=0↔valB B9 a=valB B9 b)
 | 0,_,h=>by
  have:a=b:=rS hl fun j hj=>h j (aK _) hj;subst this;simp[nQ]
 | m+1,hm,h=>by
  simp only[nQ];by_cases e:a.getD m 0=b.getD m 0
  ·rw[aD e];refine Ht ha hb hl m om fun j h1 h2=>?_;by_cases e2:j=m
   ·rw[e2];exact e
   exact h j om h2
  rw[aC e];rcases mJ e with h1 | h1
  ·have:=Il (B:=B9) de ha hb hl om (fun j h2 h3=>h j om h3) h1;omega
  have:=Il (B:=B9) de hb ha hl.symm om (fun j h2 h3=>(h j om om).symm) h1;omega
theorem Me (m n:Nat):(cmpL (aI B9 m) (aI B9 n)<0↔m<n)/\(cmpL (aI B9 m) (aI B9 n)=0↔m=n):=by
 unfold cmpL;split
 ·rename_i hl;have:=Ht (cR (B:=B9) de m) (cR (B:=B9) de n) hl _ (aN _) fun j h1 h2=>om;rw[iT de,iT de] at this;omega
 rename_i hl;rcases Nat.lt_or_ge (aI B9 m).length (aI B9 n).length with h | h
 ·have:=qH (B:=B9) de h;omega
 have:=qH (B:=B9) de (show (aI B9 n).length<(aI B9 m).length by omega);omega
def c134:Con:=aR 235 false fun | [.seq (.int .i64) a,.val (.int .i64 d)],K=>Need (InB B9 a/\(0<d/\d<1000000000)/\a.length<=100000) (K (.tup [Ls (aI B9 (valB B9 a/d).toNat),Ls (aI B9 (valB B9 a%d).toNat)])) | _,_=>False
theorem k134:aO Tp c134:=by
 refine kQ { asks:=[(0,[])] } func235 ntmps235 (kc k135 (kc k166 (kc k131 kn))) fun _ _ h=>?_;split at h;case h_2=>cases h
 rename_i a d;refine kb h.go ?_;replace h:=h.ok;obtain ⟨ha,hd,hla⟩:=h;obtain ⟨q1,q2,q3⟩:=Wj (B:=B9) de hd.1 hd.2 ha;(repeat' first|refine ZG ?_|refine Zg fun _=>?_);refine Ask.mk ⟨{ X:=Nat,pre:=fun i=>i<=a.length,mod:=fun _ _=>[],heap:=fun i _=>[.cells [I d] 3,V [],.cells [.ref 4 1] 41,V [],V (divK B9 d a i).1,.cells [I (divK B9 d a i).2] 3],mu:=fun i=>i },rfl,?_⟩;(repeat refine ZG ?_);refine ⟨⟨(0:Nat),rfl,aK _,?_⟩,fun (i:Nat) hi (hlt:i<a.length)=>?_,fun (i:Nat) hi (he:i=a.length)=>?_⟩
 ·exact ZE
 ·obtain ⟨g1,g2,g3,_⟩:=tY (B:=B9) de hd.1 ha i om;have ga:=get9 ha (a.length-1-i);have hm:=bN (show (divK B9 d a i).2<=999999998 by omega) (show (0:Int)<=1000000000 by omega);have hm0:=dH g3.1 (show (0:Int)<=1000000000 by omega);show hnfL (itB a i) _;(repeat'((conv=>whnf);first|refine Zg fun _=>?_|refine Za ?_|refine Zn ?_|refine Zj ?_|apply pI|apply pJ|(apply PinH.mk;apply aG;apply aG)|exact Zf|refine Zc ?_ ?_|fail));refine ⟨(i+1:Nat),rfl,hlt,ZE⟩
 subst he;(repeat'((conv=>whnf);first|apply pI|apply pJ|(apply PinH.mk;apply aG;apply aG)|exact Zf|refine Zc ?_ ?_|refine Zl ?_|fail));(conv=>whnf);(repeat' first|exact trivial|apply aA)
 ·exact q1
 exact q3
theorem b137 (v:List Int) (j q:Int) (u:List Int) (h:InB B9 u/\InB B9 v/\0<=j/\(0<=q/\q<=8000000000)/\j+v.length+1<=u.length/\u.length<=300000):Ui Tp [c132] { asks:=[(0,[])] } f239 0 true [.any,Ls v,I j,I q] (.int .i64) u 3 (.bl (0<(fO B9 u v j.toNat q (v.length+1)).2) inferInstance) (fO B9 u v j.toNat q (v.length+1)).1:=by
 obtain ⟨hu,hv,hj,hq,hl,hlu⟩:=h;obtain ⟨j,rfl⟩:∃k:Nat,j=k:=⟨j.toNat,om⟩;rw[aJ];(repeat' first|refine ZG ?_|refine Zg fun _=>?_);refine Ask.mk ⟨{ X:=Nat,pre:=fun k=>k<=v.length+1,mod:=fun k _=>[(15,I k),(9,I (fO B9 u v j q k).2)],heap:=fun k _=>[V (fO B9 u v j q k).1],mu:=fun k=>v.length+1-k },rfl,?_⟩;(repeat refine ZG ?_);refine ⟨⟨(0:Nat),aK _,ZE⟩,fun (k:Nat) (hk:k<=v.length+1)=>?_⟩;obtain ⟨m1,m2,m3,_⟩:=rT (B:=B9) de hu hv (j:=j) hq.1 k om;have gv:=get9 hv k;have gm:=get9 m2 (j+k);have hm:0<=q*v.getD k 0/\q*v.getD k 0<=8000000000*999999999:=⟨dH hq.1 gv.1,eW (bN hq.2 gv.1) (aV om om)⟩;(apply Br.mk<;>intro)
 ·have hlt:k<v.length+1:=om;(repeat'((conv=>whnf);first|refine Zg fun _=>?_|refine Zn ?_|refine Zj ?_|apply pI|apply pJ|fail));(apply Br.mk<;>intro)
  ·rename_i hneg;have ht:fO B9 u v j q (k+1)=((fO B9 u v j q k).1.set (j+k) ((fO B9 u v j q k).1.getD (j+k) 0-(fO B9 u v j q k).2-q*v.getD k 0+(-((fO B9 u v j q k).1.getD (j+k) 0-(fO B9 u v j q k).2-q*v.getD k 0)+1000000000-1)/1000000000*1000000000),(-((fO B9 u v j q k).1.getD (j+k) 0-(fO B9 u v j q k).2-q*v.getD k 0)+1000000000-1)/1000000000):=by
    simp only[fO];rw[aD hneg];rfl
   (repeat refine ZG ?_);refine ⟨(k+1:Nat),by show v.length+1-(k+1)<v.length+1-k;omega,hlt,?_⟩;(repeat' first|exact trivial|rfl|apply aA);all_goals first | exact (aP Prod.fst ht).symm | exact (aP Prod.snd ht).symm
  rename_i hneg;have ht:fO B9 u v j q (k+1)=((fO B9 u v j q k).1.set (j+k) ((fO B9 u v j q k).1.getD (j+k) 0-(fO B9 u v j q k).2-q*v.getD k 0+0*1000000000),0):=by
   simp only[fO];rw[aC hneg];rfl
  (repeat refine ZG ?_);refine ⟨(k+1:Nat),by show v.length+1-(k+1)<v.length+1-k;omega,hlt,?_⟩;(repeat' first|exact trivial|rfl|apply aA);all_goals first | exact (aP Prod.fst ht).symm | exact (aP Prod.snd ht).symm
 have e:k=v.length+1:=om;subst e;exact ZF
def c137:Con:=Xz 239 0 true fun args o K=>match args,o with | [.any,.seq (.int .i64) v,.val (.int .i64 j),.val (.int .i64 q)],.vec 1 (.int .i64) u 3=>Need (InB B9 u/\InB B9 v/\0<=j/\(0<=q/\q<=8000000000)/\j+v.length+1<=u.length/\u.length<=300000) (K (.bl (0<(fO B9 u v j.toNat q (v.length+1)).2) inferInstance) (.vec 1 (.int .i64) ((fO B9 u v j.toNat q (v.length+1)).1) 3)) | _,_=>False
theorem k137:aO Tp c137:=by
 refine Uw (enters_of func239 kr rfl) ?_;intro args t xs e K hfl h;split at h
 ·rename_i v j q zs heq;cases heq
  first | exact ⟨_,_,h.go,oA (by simp[k132]) func239 (by simp[ntmps239]) rfl (b137 v j q zs h.ok)⟩ | exact ⟨_,_,h.go,oA (by simp[k132]) func239 (by simp[ntmps239]) rfl (b137 v j q xs h.ok)⟩
 cases h
theorem b138 (v:List Int) (j q:Int) (u:List Int) (h:InB B9 u/\InB B9 v/\0<=j/\(0<=q/\q<=8000000000)/\j+v.length+1<=u.length/\u.length<=300000):Ui Tp [c132] { asks:=[(0,[])] } f240 0 true [.any,Ls v,I j,I q] (.int .i64) u 3 (.ref 0 1) (mulK B9 q v j.toNat u (v.length+1)).1:=by
 obtain ⟨hu,hv,hj,hq,hl,hlu⟩:=h;obtain ⟨j,rfl⟩:∃k:Nat,j=k:=⟨j.toNat,om⟩;rw[aJ];(repeat' first|refine ZG ?_|refine Zg fun _=>?_);refine Ask.mk ⟨{ X:=Nat,pre:=fun k=>k<=v.length+1,mod:=fun k _=>[(15,I k),(9,I (mulK B9 q v j u k).2)],heap:=fun k _=>[V (mulK B9 q v j u k).1,V []],mu:=fun k=>v.length+1-k },rfl,?_⟩;(repeat refine ZG ?_);refine ⟨⟨(0:Nat),aK _,ZE⟩,fun (k:Nat) (hk:k<=v.length+1)=>?_⟩;obtain ⟨m1,m2,m3,_⟩:=Gd (B:=B9) de (x:=q) hq.1 hv (i:=j) hu k om;have gv:=get9 hv k;have gm:=get9 m2 (j+k);have hm:0<=q*v.getD k 0/\q*v.getD k 0<=8000000000*999999999:=⟨dH hq.1 gv.1,eW (bN hq.2 gv.1) (aV om om)⟩;(apply Br.mk<;>intro)
 ·have hlt:k<v.length+1:=om;(repeat'((conv=>whnf);first|refine Zg fun _=>?_|refine Za ?_|refine Zn ?_|refine Zj ?_|apply pI|apply pJ|fail));refine ⟨(k+1:Nat),by show v.length+1-(k+1)<v.length+1-k;omega,hlt,?_⟩;exact ZE
 have e:k=v.length+1:=om;subst e;exact ZF
def c138:Con:=Xz 240 0 true fun args o K=>match args,o with | [.any,.seq (.int .i64) v,.val (.int .i64 j),.val (.int .i64 q)],.vec 1 (.int .i64) u 3=>Need (InB B9 u/\InB B9 v/\0<=j/\(0<=q/\q<=8000000000)/\j+v.length+1<=u.length/\u.length<=300000) (K (.ref 0 1) (.vec 1 (.int .i64) ((mulK B9 q v j.toNat u (v.length+1)).1) 3)) | _,_=>False
theorem k138:aO Tp c138:=by
 refine Uw (enters_of func240 kr rfl) ?_;intro args t xs e K hfl h;split at h
 ·rename_i v j q zs heq;cases heq
  first | exact ⟨_,_,h.go,oA (by simp[k132]) func240 (by simp[ntmps240]) rfl (b138 v j q zs h.ok)⟩ | exact ⟨_,_,h.go,oA (by simp[k132]) func240 (by simp[ntmps240]) rfl (b138 v j q xs h.ok)⟩
 cases h
abbrev top2 (u v:List Int) (j:Nat):Int:=u.getD (j+v.length) 0*1000000000+u.getD (j+v.length-1) 0
abbrev estL (u v:List Int) (j:Nat):Int:=estF 1000000000 (v.getD (v.length-1) 0) (v.getD (v.length-2) 0) (u.getD (j+v.length-2) 0) 8 (top2 u v j/v.getD (v.length-1) 0) (top2 u v j%v.getD (v.length-1) 0)
def eQ (u v:List Int) (j i:Nat):Int:=top2 u v j/v.getD (v.length-1) 0-i
def eR (u v:List Int) (j i:Nat):Int:=top2 u v j%v.getD (v.length-1) 0+i*v.getD (v.length-1) 0
theorem tK (u v:List Int) (j i:Nat):eR u v j (i+1)=eR u v j i+v.getD (v.length-1) 0:=by
 unfold eR;have:((i+1:Nat):Int)*v.getD (v.length-1) 0=i*v.getD (v.length-1) 0+v.getD (v.length-1) 0:=by rw[Int.natCast_succ,jO,iP]
 omega
theorem Ep (u v:List Int) (j i:Nat):eQ u v j (i+1)=eQ u v j i-1:=by unfold eQ;omega
theorem b136 (u v:List Int) (j:Int) (h:InB B9 u/\InB B9 v/\0<=j/\2<=v.length/\250000000<=v.getD (v.length-1) 0/\j+v.length+1<=u.length/\u.length<=300000):body Tp [] { asks:=[(0,[])] } true f238 [Ls u,Ls v,I j] (I (estL u v j.toNat)):=by
 obtain ⟨hu,hv,hj,hn,hv1,hl,hlu⟩:=h;obtain ⟨j,rfl⟩:∃k:Nat,j=k:=⟨j.toNat,om⟩;rw[aJ];have g0:=get9 hu (j+v.length);have g1:=get9 hu (j+v.length-1);have g2:=get9 hu (j+v.length-2);have w1:=get9 hv (v.length-1);have w2:=get9 hv (v.length-2);(repeat'((conv=>whnf);first|refine Zg fun _=>?_|refine Zn ?_|refine Zj ?_|apply pI|apply pJ|fail));refine eS (j+v.length-1) om ?_;(repeat'((conv=>whnf);first|refine Zg fun _=>?_|refine Zn ?_|apply pI|apply pJ|fail));refine eS (v.length-1) om ?_;(repeat'((conv=>whnf);first|refine Zg fun _=>?_|refine Za ?_|refine Zn ?_|apply pI|apply pJ|fail));refine eS (v.length-1) om ?_;(repeat'((conv=>whnf);first|refine Zg fun _=>?_|refine Za ?_|apply pI|apply pJ|fail));have hT:0<=top2 u v j/\top2 u v j<1000000000000000000:=by unfold top2;omega
 have hr:0<=top2 u v j%v.getD (v.length-1) 0/\top2 u v j%v.getD (v.length-1) 0<v.getD (v.length-1) 0:=⟨jA _ om,fQ _ om⟩;have hq:0<=top2 u v j/v.getD (v.length-1) 0/\top2 u v j/v.getD (v.length-1) 0<=4000000000:=by
  refine ⟨dU hT.1 om,?_⟩;refine eW (wU om (show top2 u v j<=4000000000*v.getD (v.length-1) 0 by omega)) ?_;rw[Int.mul_ediv_cancel _ om];exact fX _
 refine Ask.mk ⟨{ X:=Nat,pre:=fun i=>eR u v j i<1000000000/\estL u v j=estF 1000000000 (v.getD (v.length-1) 0) (v.getD (v.length-2) 0) (u.getD (j+v.length-2) 0) (8-i) (eQ u v j i) (eR u v j i),mod:=fun i _=>[(9,I (eQ u v j i)),(10,I (eR u v j i))],heap:=fun _ _=>[],mu:=fun i=>8-i },rfl,?_⟩;(repeat refine ZG ?_);refine ⟨⟨(0:Nat),⟨by unfold eR;omega,by simp only[estL,eQ,eR];congr 1<;>omega⟩,?_⟩,fun (i:Nat) hi=>?_⟩
 ·(repeat' first|exact trivial|rfl|apply aA)
  ·show top2 u v j/ _= _;unfold eQ;omega
  show top2 u v j% _= _;unfold eR;omega
 obtain ⟨hi1,hi2⟩:=hi;have hi4:(i:Int)*250000000<=i*v.getD (v.length-1) 0:=aV hv1 om;have hi3:i<=3:=by unfold eR at hi1;omega
 have hR:0<=eR u v j i:=by unfold eR;omega
 have hQ: -3<=eQ u v j i/\eQ u v j i<=4000000000:=by unfold eQ;omega
 have hQv: -3*999999999<=eQ u v j i*v.getD (v.length-2) 0/\eQ u v j i*v.getD (v.length-2) 0<=4000000000*999999999:=by
  refine ⟨eW (lQ om (show v.getD (v.length-2) 0<=999999999 by omega)) (bN hQ.1 w2.1),eW (bN hQ.2 w2.1) (aV om om)⟩
 obtain ⟨f,hf⟩:∃f,8-i=f+1:=⟨7-i,om⟩;have hf1:8-(i+1)=f:=om;rw[hf,estF,<- tK,<- Ep] at hi2;(repeat'((conv=>whnf);first|apply pI|apply pJ|fail));(apply Br.mk<;>intro)
 ·rename_i hq1;rw[aD (.inl hq1)] at hi2;(repeat'((conv=>whnf);first|refine Zn ?_|apply pI|apply pJ|fail));refine eS (v.length-1) om ?_;(repeat'((conv=>whnf);first|refine Zg fun _=>?_|refine Zn ?_|apply pI|apply pJ|fail));(apply Br.mk<;>intro)
  ·rename_i hb;rw[tK,aD hb,Ep] at hi2;(conv=>whnf);(repeat' first|rfl|apply aA);exact hi2.symm
  rename_i hb;rw[aC (by rw[tK];exact hb)] at hi2;refine ⟨(i+1:Nat),by show 8-(i+1)<8-i;omega,⟨by rw[tK];omega,by rw[hi2,hf1]⟩,?_⟩;(repeat' first|exact trivial|rfl|apply aA)
  ·exact (Ep u v j i).symm
  exact (tK u v j i).symm
 rename_i hq1;(repeat'((conv=>whnf);first|apply pI|apply pJ|fail));(apply Br.mk<;>intro)
 ·rename_i hr1;(repeat'((conv=>whnf);first|refine Zn ?_|apply pI|apply pJ|fail));refine eS (v.length-2) om ?_;(repeat'((conv=>whnf);first|refine Zg fun _=>?_|refine Zn ?_|apply pI|apply pJ|fail));refine eS (j+v.length-2) om ?_;(repeat'((conv=>whnf);first|refine Zg fun _=>?_|refine Zn ?_|apply pI|apply pJ|fail));(apply Br.mk<;>intro)
  ·rename_i hgt;rw[aD (.inr ⟨hr1,hgt⟩)] at hi2;(repeat'((conv=>whnf);first|refine Zn ?_|apply pI|apply pJ|fail));refine eS (v.length-1) om ?_;(repeat'((conv=>whnf);first|refine Zg fun _=>?_|refine Zn ?_|apply pI|apply pJ|fail));(apply Br.mk<;>intro)
   ·rename_i hb;rw[tK,aD hb,Ep] at hi2;(conv=>whnf);(repeat' first|rfl|apply aA);exact hi2.symm
   rename_i hb;rw[aC (by rw[tK];exact hb)] at hi2;refine ⟨(i+1:Nat),by show 8-(i+1)<8-i;omega,⟨by rw[tK];omega,by rw[hi2,hf1]⟩,?_⟩;(repeat' first|exact trivial|rfl|apply aA)
   ·exact (Ep u v j i).symm
   exact (tK u v j i).symm
  rename_i hgt;rw[aC om] at hi2;(conv=>whnf);(repeat' first|rfl|apply aA);exact hi2.symm
 omega
def c136:Con:=aR 238 true fun args K=>match args with | [.seq (.int .i64) u,.seq (.int .i64) v,.val (.int .i64 j)]=>Need (InB B9 u/\InB B9 v/\0<=j/\2<=v.length/\250000000<=v.getD (v.length-1) 0/\j+v.length+1<=u.length/\u.length<=300000) (K (I (estL u v j.toNat))) | _=>False
theorem k136:aO Tp c136:=by
 refine kO func238 fun args K h=>?_;simp only[c136] at h;split at h
 ·rename_i u v j;exact ⟨_,h.go,triB func238 ntmps238 si (b136 u v j h.ok)⟩
 cases h
end RB
end
section
set_option maxRecDepth 100000
namespace Go.Proofs
open Go.Shelf
def RL.lI_ren:Go.Shelf.Ren:=⟨fun | 171=>188 | 243=>231 | 246=>281 | 283=>316 | 284=>317 | 285=>318 | 286=>319 | 129=>111 | 317=>332 | 318=>333 | 319=>334 | 320=>335 | 337=>343 | 338=>344 | n=>n,fun | 3=>3 | 9=>9 | 2=>2 | 4=>4 | 171=>316 | 0=>0 | 53=>142 | 37=>284 | 5=>5 | 173=>318 | 212=>334 | 51=>140 | 20=>20 | 213=>335 | 46=>108 | 232=>349 | 233=>350 | n=>n,fun | 17=>3 | 18=>6 | 19=>7 | n=>n⟩
theorem RL.lI:Go.Proofs.LaysM.n171 Tp RL.lI_ren where
 mixed:=kr
 f129:=Tryz.func111.trans (aP some kr)
 f171:=Tryz.func188.trans (aP some kr)
 f243:=Tryz.func231.trans (aP some kr)
 f246:=Tryz.func281.trans (aP some kr)
 f283:=Tryz.func316.trans (aP some kr)
 f284:=Tryz.func317.trans (aP some kr)
 f285:=Tryz.func318.trans (aP some kr)
 f286:=Tryz.func319.trans (aP some kr)
 f317:=Tryz.func332.trans (aP some kr)
 f318:=Tryz.func333.trans (aP some kr)
 f319:=Tryz.func334.trans (aP some kr)
 f320:=Tryz.func335.trans (aP some kr)
 f337:=Tryz.func343.trans (aP some kr)
 f338:=Tryz.func344.trans (aP some kr)
 t0:=Tryz.underlying0
 a0:=Tryz.isAgg0
 z0:=Tryz.sizeOf0
 v0:=Tryz.zeroValue0
 t2:=Tryz.underlying2
 a2:=Tryz.isAgg2
 z2:=Tryz.sizeOf2
 v2:=Tryz.zeroValue2
 t3:=Tryz.underlying3
 a3:=Tryz.isAgg3
 z3:=Tryz.sizeOf3
 v3:=Tryz.zeroValue3
 t4:=Tryz.underlying4
 a4:=Tryz.isAgg4
 z4:=Tryz.sizeOf4
 v4:=Tryz.zeroValue4
 t5:=Tryz.underlying5
 a5:=Tryz.isAgg5
 z5:=Tryz.sizeOf5
 v5:=Tryz.zeroValue5
 t9:=Tryz.underlying9
 a9:=Tryz.isAgg9
 z9:=Tryz.sizeOf9
 v9:=Tryz.zeroValue9
 t20:=Tryz.underlying20
 a20:=Tryz.isAgg20
 z20:=Tryz.sizeOf20
 v20:=Tryz.zeroValue20
 t37:=Tryz.underlying284
 a37:=Tryz.isAgg284
 z37:=Tryz.sizeOf284
 v37:=Tryz.zeroValue284
 t46:=Tryz.underlying108
 a46:=Tryz.isAgg108
 z46:=Tryz.sizeOf108
 v46:=Tryz.zeroValue108
 t51:=Tryz.underlying140
 a51:=Tryz.isAgg140
 z51:=Tryz.sizeOf140
 v51:=Tryz.zeroValue140
 t53:=Tryz.underlying142
 a53:=Tryz.isAgg142
 z53:=Tryz.sizeOf142
 v53:=Tryz.zeroValue142
 t171:=Tryz.underlying316
 a171:=Tryz.isAgg316
 z171:=Tryz.sizeOf316
 v171:=Tryz.zeroValue316
 t173:=Tryz.underlying318
 a173:=Tryz.isAgg318
 z173:=Tryz.sizeOf318
 v173:=Tryz.zeroValue318
 t212:=Tryz.underlying334
 a212:=Tryz.isAgg334
 z212:=Tryz.sizeOf334
 v212:=Tryz.zeroValue334
 t213:=Tryz.underlying335
 a213:=Tryz.isAgg335
 z213:=Tryz.sizeOf335
 t232:=Tryz.underlying349
 a232:=Tryz.isAgg349
 z232:=Tryz.sizeOf349
 v232:=Tryz.zeroValue349
 t233:=Tryz.underlying350
 a233:=Tryz.isAgg350
 z233:=Tryz.sizeOf350
 v233:=Tryz.zeroValue350
 g17:=kr
 g18:=kr
 g19:=kr
 i0:=kr
 i2:=kr
 i3:=kr
 i4:=kr
 i5:=kr
 i9:=kr
 i20:=kr
 i37:=kr
 i46:=kr
 i51:=kr
 i53:=kr
 i171:=kr
 i173:=kr
 i212:=kr
 i232:=kr
 i233:=kr
 m17:=kr
 m18:=kr
 m19:=kr
def RL.lA_ren:Go.Shelf.Ren:=⟨fun | 172=>230 | 244=>279 | 245=>280 | 247=>311 | 279=>312 | 280=>313 | 281=>314 | 282=>315 | 287=>329 | 316=>330 | 171=>188 | 205=>331 | 321=>341 | 322=>342 | 243=>231 | 246=>281 | 283=>316 | 284=>317 | 285=>318 | 286=>319 | 129=>111 | 317=>332 | 318=>333 | 319=>334 | 320=>335 | 337=>343 | 338=>344 | n=>n,fun | 9=>9 | 3=>3 | 75=>263 | 76=>264 | 4=>4 | 5=>5 | 167=>310 | 37=>284 | 0=>0 | 85=>311 | 2=>2 | 168=>313 | 53=>142 | 175=>328 | 46=>108 | 210=>331 | 127=>322 | 145=>342 | 143=>340 | 21=>21 | 171=>316 | 173=>318 | 212=>334 | 51=>140 | 20=>20 | 213=>335 | 232=>349 | 233=>350 | 80=>295 | n=>n,fun | 15=>1 | 16=>2 | 17=>3 | 18=>6 | 19=>7 | n=>n⟩
theorem RL.lA:Go.Proofs.LaysC.n172 Tp RL.lA_ren where
 mixed:=kr
 f129:=Tryz.func111.trans (aP some kr)
 f171:=Tryz.func188.trans (aP some kr)
 f172:=Tryz.func230.trans (aP some kr)
 f205:=Tryz.func331.trans (aP some kr)
 f243:=Tryz.func231.trans (aP some kr)
 f244:=Tryz.func279.trans (aP some kr)
 f245:=Tryz.func280.trans (aP some kr)
 f246:=Tryz.func281.trans (aP some kr)
 f247:=Tryz.func311.trans (aP some kr)
 f279:=Tryz.func312.trans (aP some kr)
 f280:=Tryz.func313.trans (aP some kr)
 f281:=Tryz.func314.trans (aP some kr)
 f282:=Tryz.func315.trans (aP some kr)
 f283:=Tryz.func316.trans (aP some kr)
 f284:=Tryz.func317.trans (aP some kr)
 f285:=Tryz.func318.trans (aP some kr)
 f286:=Tryz.func319.trans (aP some kr)
 f287:=Tryz.func329.trans (aP some kr)
 f316:=Tryz.func330.trans (aP some kr)
 f317:=Tryz.func332.trans (aP some kr)
 f318:=Tryz.func333.trans (aP some kr)
 f319:=Tryz.func334.trans (aP some kr)
 f320:=Tryz.func335.trans (aP some kr)
 f321:=Tryz.func341.trans (aP some kr)
 f322:=Tryz.func342.trans (aP some kr)
 f337:=Tryz.func343.trans (aP some kr)
 f338:=Tryz.func344.trans (aP some kr)
 t0:=Tryz.underlying0
 a0:=Tryz.isAgg0
 z0:=Tryz.sizeOf0
 v0:=Tryz.zeroValue0
 t2:=Tryz.underlying2
 a2:=Tryz.isAgg2
 z2:=Tryz.sizeOf2
 v2:=Tryz.zeroValue2
 t3:=Tryz.underlying3
 a3:=Tryz.isAgg3
 z3:=Tryz.sizeOf3
 v3:=Tryz.zeroValue3
 t4:=Tryz.underlying4
 a4:=Tryz.isAgg4
 z4:=Tryz.sizeOf4
 v4:=Tryz.zeroValue4
 t5:=Tryz.underlying5
 a5:=Tryz.isAgg5
 z5:=Tryz.sizeOf5
 v5:=Tryz.zeroValue5
 t9:=Tryz.underlying9
 a9:=Tryz.isAgg9
 z9:=Tryz.sizeOf9
 v9:=Tryz.zeroValue9
 t20:=Tryz.underlying20
 a20:=Tryz.isAgg20
 z20:=Tryz.sizeOf20
 v20:=Tryz.zeroValue20
 t21:=Tryz.underlying21
 a21:=Tryz.isAgg21
 z21:=Tryz.sizeOf21
 v21:=Tryz.zeroValue21
 t37:=Tryz.underlying284
 a37:=Tryz.isAgg284
 z37:=Tryz.sizeOf284
 v37:=Tryz.zeroValue284
 t46:=Tryz.underlying108
 a46:=Tryz.isAgg108
 z46:=Tryz.sizeOf108
 v46:=Tryz.zeroValue108
 t51:=Tryz.underlying140
 a51:=Tryz.isAgg140
 z51:=Tryz.sizeOf140
 v51:=Tryz.zeroValue140
 t53:=Tryz.underlying142
 a53:=Tryz.isAgg142
 z53:=Tryz.sizeOf142
 v53:=Tryz.zeroValue142
 t75:=Tryz.underlying263
 a75:=Tryz.isAgg263
 z75:=Tryz.sizeOf263
 v75:=Tryz.zeroValue263
 t76:=Tryz.underlying264
 a76:=Tryz.isAgg264
 z76:=Tryz.sizeOf264
 v76:=Tryz.zeroValue264
 t85:=Tryz.underlying311
 a85:=Tryz.isAgg311
 z85:=Tryz.sizeOf311
 v85:=Tryz.zeroValue311
 t127:=Tryz.underlying322
 a127:=Tryz.isAgg322
 z127:=Tryz.sizeOf322
 v127:=Tryz.zeroValue322
 t143:=Tryz.underlying340
 a143:=Tryz.isAgg340
 z143:=Tryz.sizeOf340
 v143:=Tryz.zeroValue340
 t145:=Tryz.underlying342
 a145:=Tryz.isAgg342
 z145:=Tryz.sizeOf342
 v145:=Tryz.zeroValue342
 t167:=Tryz.underlying310
 a167:=Tryz.isAgg310
 z167:=Tryz.sizeOf310
 v167:=Tryz.zeroValue310
 t168:=Tryz.underlying313
 a168:=Tryz.isAgg313
 z168:=Tryz.sizeOf313
 v168:=Tryz.zeroValue313
 t171:=Tryz.underlying316
 a171:=Tryz.isAgg316
 z171:=Tryz.sizeOf316
 v171:=Tryz.zeroValue316
 t173:=Tryz.underlying318
 a173:=Tryz.isAgg318
 z173:=Tryz.sizeOf318
 v173:=Tryz.zeroValue318
 t175:=Tryz.underlying328
 a175:=Tryz.isAgg328
 z175:=Tryz.sizeOf328
 v175:=Tryz.zeroValue328
 t210:=Tryz.underlying331
 a210:=Tryz.isAgg331
 z210:=Tryz.sizeOf331
 v210:=Tryz.zeroValue331
 t212:=Tryz.underlying334
 a212:=Tryz.isAgg334
 z212:=Tryz.sizeOf334
 v212:=Tryz.zeroValue334
 t213:=Tryz.underlying335
 a213:=Tryz.isAgg335
 z213:=Tryz.sizeOf335
 t232:=Tryz.underlying349
 a232:=Tryz.isAgg349
 z232:=Tryz.sizeOf349
 v232:=Tryz.zeroValue349
 t233:=Tryz.underlying350
 a233:=Tryz.isAgg350
 z233:=Tryz.sizeOf350
 v233:=Tryz.zeroValue350
 g15:=kr
 g16:=kr
 g17:=kr
 g18:=kr
 g19:=kr
 t80:=Tryz.underlying295
 a80:=Tryz.isAgg295
 z80:=Tryz.sizeOf295
 v80:=Tryz.zeroValue295
 i0:=kr
 i2:=kr
 i3:=kr
 i4:=kr
 i5:=kr
 i9:=kr
 i20:=kr
 i21:=kr
 i37:=kr
 i46:=kr
 i51:=kr
 i53:=kr
 i75:=kr
 i76:=kr
 i80:=kr
 i85:=kr
 i127:=kr
 i143:=kr
 i145:=kr
 i167:=kr
 i168:=kr
 i171:=kr
 i173:=kr
 i175:=kr
 i210:=kr
 i212:=kr
 i232:=kr
 i233:=kr
 m15:=kr
 m16:=kr
 m17:=kr
 m18:=kr
 m19:=kr
 c0:=kr
 c2:=kr
 c3:=kr
 c4:=kr
 c5:=kr
 c9:=kr
 c20:=kr
 c21:=kr
 c37:=kr
 c46:=kr
 c51:=kr
 c53:=kr
 c75:=kr
 c76:=kr
 c80:=kr
 c85:=kr
 c127:=kr
 c143:=kr
 c145:=kr
 c167:=kr
 c168:=kr
 c171:=kr
 c173:=kr
 c175:=kr
 c210:=kr
 c212:=kr
 c213:=kr
 c232:=kr
 c233:=kr
def RL.lR_ren:Go.Shelf.Ren:=⟨fun | 105=>287 | 212=>136 | 99=>249 | 165=>321 | 166=>286 | 170=>322 | 169=>288 | 263=>178 | 264=>179 | 206=>145 | 240=>320 | 241=>337 | 276=>336 | 277=>345 | n=>n,fun | 9=>9 | 3=>3 | 4=>4 | 20=>20 | 0=>0 | 46=>108 | 109=>169 | 5=>5 | 72=>292 | 76=>264 | 51=>140 | 146=>216 | 53=>142 | 148=>218 | 70=>290 | 37=>284 | 75=>263 | 127=>322 | 164=>336 | 80=>295 | n=>n,fun | n=>n⟩
theorem RL.lR:Go.Proofs.Lays.n105 Tp RL.lR_ren where
 mixed:=kr
 f99:=Tryz.func249.trans (aP some kr)
 f105:=Tryz.func287.trans (aP some kr)
 f165:=Tryz.func321.trans (aP some kr)
 f166:=Tryz.func286.trans (aP some kr)
 f169:=Tryz.func288.trans (aP some kr)
 f170:=Tryz.func322.trans (aP some kr)
 f206:=Tryz.func145.trans (aP some kr)
 f212:=Tryz.func136.trans (aP some kr)
 f240:=Tryz.func320.trans (aP some kr)
 f241:=Tryz.func337.trans (aP some kr)
 f263:=Tryz.func178.trans (aP some kr)
 f264:=Tryz.func179.trans (aP some kr)
 f276:=Tryz.func336.trans (aP some kr)
 f277:=Tryz.func345.trans (aP some kr)
 t0:=Tryz.underlying0
 a0:=Tryz.isAgg0
 z0:=Tryz.sizeOf0
 v0:=Tryz.zeroValue0
 t3:=Tryz.underlying3
 a3:=Tryz.isAgg3
 z3:=Tryz.sizeOf3
 v3:=Tryz.zeroValue3
 t4:=Tryz.underlying4
 a4:=Tryz.isAgg4
 z4:=Tryz.sizeOf4
 v4:=Tryz.zeroValue4
 t5:=Tryz.underlying5
 a5:=Tryz.isAgg5
 z5:=Tryz.sizeOf5
 v5:=Tryz.zeroValue5
 t9:=Tryz.underlying9
 a9:=Tryz.isAgg9
 z9:=Tryz.sizeOf9
 v9:=Tryz.zeroValue9
 t20:=Tryz.underlying20
 a20:=Tryz.isAgg20
 z20:=Tryz.sizeOf20
 v20:=Tryz.zeroValue20
 t37:=Tryz.underlying284
 a37:=Tryz.isAgg284
 z37:=Tryz.sizeOf284
 v37:=Tryz.zeroValue284
 t46:=Tryz.underlying108
 a46:=Tryz.isAgg108
 z46:=Tryz.sizeOf108
 v46:=Tryz.zeroValue108
 t51:=Tryz.underlying140
 a51:=Tryz.isAgg140
 z51:=Tryz.sizeOf140
 v51:=Tryz.zeroValue140
 t53:=Tryz.underlying142
 a53:=Tryz.isAgg142
 z53:=Tryz.sizeOf142
 v53:=Tryz.zeroValue142
 t70:=Tryz.underlying290
 a70:=Tryz.isAgg290
 z70:=Tryz.sizeOf290
 v70:=Tryz.zeroValue290
 t72:=Tryz.underlying292
 a72:=Tryz.isAgg292
 z72:=Tryz.sizeOf292
 v72:=Tryz.zeroValue292
 t75:=Tryz.underlying263
 a75:=Tryz.isAgg263
 z75:=Tryz.sizeOf263
 v75:=Tryz.zeroValue263
 t76:=Tryz.underlying264
 a76:=Tryz.isAgg264
 z76:=Tryz.sizeOf264
 v76:=Tryz.zeroValue264
 t109:=Tryz.underlying169
 a109:=Tryz.isAgg169
 z109:=Tryz.sizeOf169
 v109:=Tryz.zeroValue169
 t127:=Tryz.underlying322
 a127:=Tryz.isAgg322
 z127:=Tryz.sizeOf322
 v127:=Tryz.zeroValue322
 t146:=Tryz.underlying216
 a146:=Tryz.isAgg216
 z146:=Tryz.sizeOf216
 v146:=Tryz.zeroValue216
 t148:=Tryz.underlying218
 a148:=Tryz.isAgg218
 z148:=Tryz.sizeOf218
 v148:=Tryz.zeroValue218
 t164:=Tryz.underlying336
 a164:=Tryz.isAgg336
 z164:=Tryz.sizeOf336
 v164:=Tryz.zeroValue336
def RL.lT_ren:Go.Shelf.Ren:=⟨fun | 160=>278 | 232=>305 | 231=>304 | 227=>306 | 234=>308 | 233=>307 | 236=>310 | 235=>309 | 228=>325 | 271=>328 | 151=>327 | 197=>326 | 120=>340 | 152=>339 | 260=>338 | 137=>346 | 119=>347 | 224=>302 | 225=>301 | 217=>300 | 266=>323 | n=>n,fun | 9=>9 | 4=>4 | 3=>3 | 5=>5 | 117=>306 | 116=>305 | 0=>0 | 124=>309 | 21=>21 | 105=>325 | 46=>108 | 119=>344 | 139=>347 | 138=>346 | n=>n,fun | 3=>4 | 4=>5 | n=>n⟩
theorem RL.lT:Go.Proofs.Lays.n160 Tp RL.lT_ren where
 mixed:=kr
 f119:=Tryz.func347.trans (aP some kr)
 f120:=Tryz.func340.trans (aP some kr)
 f137:=Tryz.func346.trans (aP some kr)
 f151:=Tryz.func327.trans (aP some kr)
 f152:=Tryz.func339.trans (aP some kr)
 f160:=Tryz.func278.trans (aP some kr)
 f197:=Tryz.func326.trans (aP some kr)
 f217:=Tryz.func300.trans (aP some kr)
 f224:=Tryz.func302.trans (aP some kr)
 f225:=Tryz.func301.trans (aP some kr)
 f227:=Tryz.func306.trans (aP some kr)
 f228:=Tryz.func325.trans (aP some kr)
 f231:=Tryz.func304.trans (aP some kr)
 f232:=Tryz.func305.trans (aP some kr)
 f233:=Tryz.func307.trans (aP some kr)
 f234:=Tryz.func308.trans (aP some kr)
 f235:=Tryz.func309.trans (aP some kr)
 f236:=Tryz.func310.trans (aP some kr)
 f260:=Tryz.func338.trans (aP some kr)
 f266:=Tryz.func323.trans (aP some kr)
 f271:=Tryz.func328.trans (aP some kr)
 t0:=Tryz.underlying0
 a0:=Tryz.isAgg0
 z0:=Tryz.sizeOf0
 v0:=Tryz.zeroValue0
 t3:=Tryz.underlying3
 a3:=Tryz.isAgg3
 z3:=Tryz.sizeOf3
 v3:=Tryz.zeroValue3
 t4:=Tryz.underlying4
 a4:=Tryz.isAgg4
 z4:=Tryz.sizeOf4
 v4:=Tryz.zeroValue4
 t5:=Tryz.underlying5
 a5:=Tryz.isAgg5
 z5:=Tryz.sizeOf5
 v5:=Tryz.zeroValue5
 t9:=Tryz.underlying9
 a9:=Tryz.isAgg9
 z9:=Tryz.sizeOf9
 v9:=Tryz.zeroValue9
 t21:=Tryz.underlying21
 a21:=Tryz.isAgg21
 z21:=Tryz.sizeOf21
 v21:=Tryz.zeroValue21
 t46:=Tryz.underlying108
 a46:=Tryz.isAgg108
 z46:=Tryz.sizeOf108
 v46:=Tryz.zeroValue108
 t105:=Tryz.underlying325
 a105:=Tryz.isAgg325
 z105:=Tryz.sizeOf325
 v105:=Tryz.zeroValue325
 t116:=Tryz.underlying305
 a116:=Tryz.isAgg305
 z116:=Tryz.sizeOf305
 t117:=Tryz.underlying306
 a117:=Tryz.isAgg306
 z117:=Tryz.sizeOf306
 v117:=Tryz.zeroValue306
 t119:=Tryz.underlying344
 a119:=Tryz.isAgg344
 z119:=Tryz.sizeOf344
 t124:=Tryz.underlying309
 a124:=Tryz.isAgg309
 z124:=Tryz.sizeOf309
 v124:=Tryz.zeroValue309
 t138:=Tryz.underlying346
 a138:=Tryz.isAgg346
 z138:=Tryz.sizeOf346
 v138:=Tryz.zeroValue346
 t139:=Tryz.underlying347
 a139:=Tryz.isAgg347
 z139:=Tryz.sizeOf347
 v139:=Tryz.zeroValue347
 g3:=kr
 g4:=kr
def RL.lX_ren:Go.Shelf.Ren:=⟨fun | 219=>277 | 217=>300 | 225=>301 | 224=>302 | 267=>303 | 266=>323 | 314=>324 | n=>n,fun | 9=>9 | 3=>3 | 4=>4 | 5=>5 | 46=>108 | 146=>216 | 51=>140 | n=>n,fun | 1=>0 | n=>n⟩
theorem RL.lX:Go.Proofs.Lays.n219 Tp RL.lX_ren where
 mixed:=kr
 f217:=Tryz.func300.trans (aP some kr)
 f219:=Tryz.func277.trans (aP some kr)
 f224:=Tryz.func302.trans (aP some kr)
 f225:=Tryz.func301.trans (aP some kr)
 f266:=Tryz.func323.trans (aP some kr)
 f267:=Tryz.func303.trans (aP some kr)
 f314:=Tryz.func324.trans (aP some kr)
 t3:=Tryz.underlying3
 a3:=Tryz.isAgg3
 z3:=Tryz.sizeOf3
 v3:=Tryz.zeroValue3
 t4:=Tryz.underlying4
 a4:=Tryz.isAgg4
 z4:=Tryz.sizeOf4
 v4:=Tryz.zeroValue4
 t5:=Tryz.underlying5
 a5:=Tryz.isAgg5
 z5:=Tryz.sizeOf5
 v5:=Tryz.zeroValue5
 t9:=Tryz.underlying9
 a9:=Tryz.isAgg9
 z9:=Tryz.sizeOf9
 v9:=Tryz.zeroValue9
 t46:=Tryz.underlying108
 a46:=Tryz.isAgg108
 z46:=Tryz.sizeOf108
 v46:=Tryz.zeroValue108
 t51:=Tryz.underlying140
 a51:=Tryz.isAgg140
 z51:=Tryz.sizeOf140
 v51:=Tryz.zeroValue140
 t146:=Tryz.underlying216
 a146:=Tryz.isAgg216
 z146:=Tryz.sizeOf216
 v146:=Tryz.zeroValue216
 g1:=kr
def RL.lC_ren:Go.Shelf.Ren:=⟨fun | 240=>320 | 276=>336 | n=>n,fun | 70=>290 | 0=>0 | 72=>292 | 4=>4 | 164=>336 | 37=>284 | 5=>5 | n=>n,fun | n=>n⟩
theorem RL.lC:Go.Proofs.Lays.n240 Tp RL.lC_ren where
 mixed:=kr
 f240:=Tryz.func320.trans (aP some kr)
 f276:=Tryz.func336.trans (aP some kr)
 t0:=Tryz.underlying0
 a0:=Tryz.isAgg0
 z0:=Tryz.sizeOf0
 v0:=Tryz.zeroValue0
 t4:=Tryz.underlying4
 a4:=Tryz.isAgg4
 z4:=Tryz.sizeOf4
 v4:=Tryz.zeroValue4
 t9:=Tryz.underlying9
 a9:=Tryz.isAgg9
 z9:=Tryz.sizeOf9
 v9:=Tryz.zeroValue9
 t20:=Tryz.underlying20
 a20:=Tryz.isAgg20
 z20:=Tryz.sizeOf20
 v20:=Tryz.zeroValue20
 t70:=Tryz.underlying290
 a70:=Tryz.isAgg290
 z70:=Tryz.sizeOf290
 v70:=Tryz.zeroValue290
 t72:=Tryz.underlying292
 a72:=Tryz.isAgg292
 z72:=Tryz.sizeOf292
 v72:=Tryz.zeroValue292
 t164:=Tryz.underlying336
 a164:=Tryz.isAgg336
 z164:=Tryz.sizeOf336
 v164:=Tryz.zeroValue336
def RL.lS_ren:Go.Shelf.Ren:=⟨fun | 169=>288 | n=>n,fun | 70=>290 | 9=>9 | 0=>0 | 72=>292 | 37=>284 | 127=>322 | 3=>3 | 5=>5 | n=>n,fun | n=>n⟩
theorem RL.lS:Go.Proofs.Lays.n169 Tp RL.lS_ren where
 mixed:=kr
 f169:=Tryz.func288.trans (aP some kr)
 t0:=Tryz.underlying0
 a0:=Tryz.isAgg0
 z0:=Tryz.sizeOf0
 v0:=Tryz.zeroValue0
 t3:=Tryz.underlying3
 a3:=Tryz.isAgg3
 z3:=Tryz.sizeOf3
 v3:=Tryz.zeroValue3
 t9:=Tryz.underlying9
 a9:=Tryz.isAgg9
 z9:=Tryz.sizeOf9
 v9:=Tryz.zeroValue9
 t37:=Tryz.underlying284
 a37:=Tryz.isAgg284
 z37:=Tryz.sizeOf284
 v37:=Tryz.zeroValue284
 t70:=Tryz.underlying290
 a70:=Tryz.isAgg290
 z70:=Tryz.sizeOf290
 v70:=Tryz.zeroValue290
 t72:=Tryz.underlying292
 a72:=Tryz.isAgg292
 z72:=Tryz.sizeOf292
 v72:=Tryz.zeroValue292
 t127:=Tryz.underlying322
 a127:=Tryz.isAgg322
 z127:=Tryz.sizeOf322
 v127:=Tryz.zeroValue322
end Go.Proofs
end
section
open Go Go.Proofs Go.Eng Go.Shelf IB Go.Lib Go.RowKit Tryz
namespace RB
def hasP (s p:Bx):Prop:=p.length<=s.length/\s.take p.length=p
instance (s p:Bx):Decidable (hasP s p):=by unfold hasP;infer_instance
def Pf (s p:Bx):Bx:=if hasP s p then s.drop p.length else s
theorem xZ (s:Bx):hasP s [45]↔s.headD 0=45:=by
 cases s with
 | nil=>simp[hasP]
 | cons c r=>simp[hasP]
theorem Hu (s:Bx):Pf s [45]=digs s:=by
 unfold Pf digs;by_cases h:s.headD 0=45
 ·rw[aD h,aD ((xZ s).2 h)];cases s<;>rfl
 rw[aC h,aC (fun e=>h ((xZ s).1 e))]
def c126:Con:=aR 145 true fun | [.str s,.str p],K=>K (.bl (hasP s p) inferInstance) | _,_=>False
theorem k126:aO Tp c126:=by
 refine kQ {} func145 ntmps145 kn fun _ _ h=>?_;split at h;case h_2=>cases h
 refine kb h ?_;(repeat'((conv=>whnf);first|refine Zg fun _=>?_|fail));(apply Br.mk<;>intro)
 ·rename_i h;(repeat' first|refine ZG ?_|refine Zg fun _=>?_);(conv=>whnf);unfold hasP;exact ⟨fun e=>⟨om,e⟩,fun e=>e.2⟩
 rename_i h;(conv=>whnf);intro e;exact h (by have:=e.1;omega)
theorem b91 (s:Bx):body Tp [c126] {} true f249 [S s,S [45]] (.bl (s.headD 0=45) inferInstance):=by
 (conv=>whnf);exact xZ s
def c91:Con:=aR 249 true fun args K=>match args with | [.str s,.str p]=>Need (p= [45]) (K (.bl (s.headD 0=45) inferInstance)) | _=>False
theorem k91:aO Tp c91:=by
 refine kO func249 fun args K h=>?_;simp only[c91] at h;split at h
 ·rename_i s p;obtain ⟨rfl,h⟩:=h;exact ⟨_,h,triB func249 ntmps249 (by simp[k126]) (b91 s)⟩
 cases h
def c125:Con:=aR 116 true fun | [.str s,.str p],K=>K (.str (Pf s p)) | _,_=>False
theorem k125:aO Tp c125:=by
 refine kQ {} func116 ntmps116 (kc k126 kn) fun _ _ h=>?_;split at h;case h_2=>cases h
 refine kb h ?_;unfold Pf;(apply Br.mk<;>intro)
 ·rename_i h;rw[aD h];have:=h.1;(repeat' first|refine ZG ?_|refine Zg fun _=>?_);(conv=>whnf)
 rename_i h;rw[aC h];(conv=>whnf)
theorem b88 (s:Bx):body Tp [c125] {} true f75 [S s,S [45]] (S (digs s)):=by
 rw[<- Hu];(conv=>whnf)
def c88:Con:=aR 75 true fun args K=>match args with | [.str s,.str p]=>Need (p= [45]) (K (S (digs s))) | _=>False
theorem k88:aO Tp c88:=by
 refine kO func75 fun args K h=>?_;simp only[c88] at h;split at h
 ·rename_i s p;obtain ⟨rfl,h⟩:=h;exact ⟨_,h,triB func75 ntmps75 (by simp[k125]) (b88 s)⟩
 cases h
def c155:Con:=aR 228 true fun | [.str s,.str p],K=>K (.tup [S (Pf s p),.bl (hasP s p) inferInstance]) | _,_=>False
theorem k155:aO Tp c155:=by
 refine kQ {} func228 ntmps228 (kc k126 kn) fun _ _ h=>?_;split at h;case h_2=>cases h
 refine kb h ?_;unfold Pf;(apply Br.mk<;>intro)
 ·rename_i h;rw[aC h];(conv=>whnf);(repeat' first|exact trivial|rfl|apply aA);exact h
 rename_i h;have h:=bC.1 h;rw[aD h];have:=h.1;(repeat' first|refine ZG ?_|refine Zg fun _=>?_);(conv=>whnf);(repeat' first|exact trivial|rfl|apply aA);all_goals first | exact h | exact h.1 | exact h.2
theorem b123 (s:Bx):body Tp [c155] {} true f182 [S s,S [45]] (.tup [S (digs s),.bl (s.headD 0=45) inferInstance]):=by
 rw[<- Hu];(conv=>whnf);(repeat' first|exact trivial|rfl|apply aA);exact xZ s
def c123:Con:=aR 182 true fun args K=>match args with | [.str s,.str p]=>Need (p= [45]) (K (.tup [S (digs s),.bl (s.headD 0=45) inferInstance])) | _=>False
theorem k123:aO Tp c123:=by
 refine kO func182 fun args K h=>?_;simp only[c123] at h;split at h
 ·rename_i s p;obtain ⟨rfl,h⟩:=h;exact ⟨_,h,triB func182 ntmps182 (by simp[k155]) (b123 s)⟩
 cases h
theorem Er {E:Env} {s:Bx} {vs:List Value} (h:RelL E [.str s] vs):vs= [.string ⟨s.toArray⟩]/\s.length<=maxL:=by
 obtain ⟨v,rfl,h1⟩:=h.one;cases h1 with
 | str _ hl=>exact ⟨rfl,hl⟩
theorem Xc {E:Env} {k:IntKind} {n:Int} {vs:List Value} (h:RelL E [.val (.int k n)] vs):vs= [.int k n]/\inK k n:=by
 obtain ⟨v,rfl,h1⟩:=h.one;obtain ⟨rfl,h2⟩:=h1.int_inv;exact ⟨rfl,h2⟩
theorem aIe {ok:Nat→Prop} {w:World} (h:GW Tp ok w):Lib.TabIs Tp w "internal/strconv.uint64pow10" .u64 Lib.pow10Tab:=by
 obtain ⟨cs,h1,h2⟩:=h.var (n:= "internal/strconv.uint64pow10") (by simp[gnames]) (g:=3) kr
 unfold Lib.TabIs;rw[h1,h2.pow rfl];rfl
theorem aAn (n:Nat) (h:n<=9223372036854775808):(decDigits n).length<=20:=IB.oC 19 n om
theorem aIf (n:Int) (h:inK .i64 n):(itoa n).length<=maxL:=by
 have h: -9223372036854775808<=n/\n<=9223372036854775807:=h;have h1:=aAn n.natAbs om;rw[<- fN] at h1;have h2:(itoa n).length<=(digs (itoa n)).length+1:=by
  unfold digs;split
  ·rw[List.length_tail];omega
  omega
 show _<=140737488355328;omega
theorem t61 (n:Int):Tri Tp true 188 [I n] (S (itoa n)):=by
 intro ok w vs hg hok hr;obtain ⟨rfl,hn⟩:=Xc hr;have hn': -9223372036854775808<=n/\n<=9223372036854775807:=hn;refine (Any.strconv_Itoa RL.lI n hn'.1 hn'.2 w (aIe hg)).mono ?_;rintro e w' ⟨rfl,k,os,rfl⟩;exact ⟨_,rfl,Lib.below_grow _ _ (aN _) _ _,.str _ (aIf n hn)⟩
def c61:Con:=aR 188 true fun args K=>match args with | [.val (.int .i64 n)]=>K (S (itoa n)) | _=>False
theorem k61:aO Tp c61:=by
 refine kO func188 fun args K h=>?_;simp only[c61] at h;split at h
 ·exact ⟨_,h,t61 _⟩
 cases h
abbrev fitI (n:Int):Prop:= -9223372036854775808<=n/\n<=9223372036854775807
def zQ (acc:Nat) (l:Bx):Nat:=l.foldl (fun n c=>10*n+(c.toNat-48)) acc
theorem Pg:∀(l:Bx) (acc:Nat),acc<=zQ acc l
 | [],acc=>aN _
 | c::r,acc=>by
  have:=Pg r (10*acc+(c.toNat-48));simp only[zQ,pK] at this ⊢;omega
theorem Et:∀(l:Bx) (acc:Nat),(∀c∈l,cY c)->acc<18446744073709551616->parseUint10 acc l=if zQ acc l<18446744073709551616 then .ok (zQ acc l) else .range
 | [],acc,_,h=>by simp[parseUint10,zQ,h]
 | c::r,acc,hd,h=>by
  have hc:=hd c si;have ih:=Et r (acc*10+(c.toNat-48)) fun x hx=>hd x (by simp[hx]);have hg:=Pg r (10*acc+(c.toNat-48));have e:zQ acc (c::r)=zQ (acc*10+(c.toNat-48)) r:=by simp only[zQ,pK];rw[fL]
  rw[fL] at hg;simp only[parseUint10];have hc:48<=c.toNat/\c.toNat<=57:=hc;rw[aD hc,e];by_cases h1:1844674407370955162<=acc
  ·rw[aD h1,aC om]
  rw[aC h1];by_cases h2:18446744073709551616<=acc*10+(c.toNat-48)
  ·rw[aD h2,aC om]
  rw[aC h2,ih om]
theorem Ph {l:Bx} (h:∀c∈l,cY c) (hne:l≠ []):parseMag l=if aT l<18446744073709551616 then .ok (aT l) else .range:=by
 unfold parseMag;rw[aC hne,Et l 0 h om];rfl
theorem aOe {c:UInt8} (h:cY c):c.toNat≠43/\c.toNat≠45:=by unfold cY at h;omega
theorem Pj {s:Bx} (h:form s):atoiAll s=(if fitI (valI s) then .ok (valI s) else .range)/\(¬fitI (valI s)->(9223372036854775807<valI s/\atoiSat s=9223372036854775807)\/(valI s < -9223372036854775808/\atoiSat s= -9223372036854775808)):=by
 obtain ⟨h1,h2,h3⟩:=h;cases s with
 | nil=>simp[digs] at h1
 | cons c r=>
  by_cases hc:c=45
  ·subst hc;have e1:digs (45::r)=r:=rfl;have e2:valI (45::r)= -(aT r:Int):=rfl;rw[e1] at h1 h3;rw[e2];unfold fitI;rw[atoiAll_minus,Ph h3 h1,atoiSat_minus];refine ⟨?_,fun hn=>.inr ⟨om,rfl⟩⟩;by_cases h4:aT r<18446744073709551616
   ·rw[aD h4];simp only[signed];by_cases h5:9223372036854775808<aT r
    ·rw[aD h5,aC om]
    rw[aC h5,aD om]
   rw[aC h4,aC om];rfl
  have e1:digs (c::r)=c::r:=by simp[digs,hc]
  have e2:valI (c::r)=aT (c::r):=by simp[valI,hc]
  rw[e1] at h1 h3;obtain ⟨g1,g2⟩:=aOe (h3 c si);rw[e2];unfold fitI;rw[atoiAll_plain c r g1 g2,Ph h3 h1,atoiSat_other c r g2];refine ⟨?_,fun hn=>.inl ⟨om,rfl⟩⟩;by_cases h4:aT (c::r)<18446744073709551616
  ·rw[aD h4];simp only[signless];by_cases h5:9223372036854775808<=aT (c::r)
   ·rw[aD h5,aC om]
   rw[aC h5,aD om]
  rw[aC h4,aC om];rfl
theorem t72ok (s:Bx) (hf:form s) (hv:fitI (valI s)):Tri Tp true 230 [S s] (.tup [I (valI s),.val .nilIface]):=by
 intro ok w vs hg hok hr;obtain ⟨rfl,hl⟩:=Er hr;have hl':s.length<=140737488355328:=hl;have ha:=(Pj hf).1;rw[aD hv] at ha;refine (Any.strconv_Atoi_ok RL.lA ⟨s.toArray⟩ (by show s.toArray.size<= _;rw[gZ];omega) (valI s) (by simpa using ha) w).mono ?_;rintro e w' ⟨rfl,hw⟩;refine ⟨_,rfl,?_,.tup _ _ (.cons _ _ _ _ (.val _ hv) (.cons _ _ _ _ (.val _ trivial) .nil))⟩;rcases hw with rfl | ⟨t,rfl⟩
 ·exact Below.refl _ _
 exact Go.Joins.below_bytesWorld _ _ _ _ (aN _)
theorem aIg {ok:Nat->Prop} {w:World} (h:GW Tp ok w):∃ev,w.cell? ⟨(RL.lA_ren).g 16,0,none⟩=some ev/\∃te pe,ev= .iface te pe:=by
 obtain ⟨hk,cs,e,f,h2,h3⟩:=h "strconv.ErrRange" (by simp[gnames]) ((RL.lA_ren).g 16) kr
 obtain ⟨tp,p,hc⟩:=h3.err (.inl rfl);refine ⟨_,?_,tp,p,rfl⟩;rw[World.cell?,h2,hc];rfl
theorem aOf (s:Bx) (hf:form s) (hv:¬fitI (valI s)) (hl:s.length<=281474976710656):Tri Tp true 230 [S s] (.tup [I (atoiSat s),.ifc]):=by
 intro ok w vs hg hok hr;obtain ⟨rfl,_⟩:=Er hr;have ha:=(Pj hf).1;rw[aC hv] at ha;obtain ⟨ev,h1,h2⟩:=aIg hg;refine (Any.strconv_Atoi_range RL.lA ⟨s.toArray⟩ (by show s.toArray.size<= _;rw[gZ];omega) (by simpa using ha) ev w h1 (.inr h2)).mono ?_;rintro e w' ⟨N,rfl,_,_,hb⟩;refine ⟨_,rfl,hb,.tup _ _ (.cons _ _ _ _ ?_ (.cons _ _ _ _ (.ifc _ (.inr ⟨_,_,rfl⟩)) .nil))⟩;exact .val _ (atoiSat_bounds _)
def c72:Con:=aR 230 true fun args K=>match args with
 | [.str s]=>Need (form s/\s.length<=1000) (Br (fitI (valI s)) (K (.tup [I (valI s),.val .nilIface])) (K (.tup [I (atoiSat s),.ifc])))
 | _=>False
theorem k72:aO Tp c72:=by
 refine kO func230 fun args K h=>?_;simp only[c72] at h;split at h
 ·rename_i s;obtain ⟨⟨hf,hl⟩,h⟩:=h;by_cases hv:fitI (valI s)
  ·exact ⟨_,h.yes hv,t72ok s hf hv⟩
  exact ⟨_,h.no hv,aOf s hf hv om⟩
 cases h
abbrev digitsS:Bx:=[48,49,50,51,52,53,54,55,56,57]
theorem Mf (c:UInt8):digitsS.contains c=true↔cY c:=by
 have h:∀n:Fin 256,(digitsS.contains (UInt8.ofNat n.val)=true)↔(48<=n.val/\n.val<=57):=de;have h1:=h ⟨c.toNat,c.toNat_lt⟩;simp only[UInt8.ofNat_toNat] at h1;exact h1
theorem Pk (s cs:Bx):trimS s cs= []↔∀c∈s,cs.contains c=true:=by
 have hd:∀l:Bx,l.dropWhile (cs.contains ·)= []↔∀c∈l,cs.contains c=true:=by
  intro l
  induction l with
  | nil=>simp
  | cons x r ih=>
   simp only[oU,bH,forall_eq_or_imp];by_cases h:cs.contains x=true
   ·rw[aD h,ih];simp only[h,true_and]
   rw[aC h];exact ⟨(fun e=>by cases e),(fun e=>(h e.1).elim)⟩
 have hmem:∀l:Bx,(∀c∈l.dropWhile (cs.contains ·),cs.contains c=true)↔∀c∈l,cs.contains c=true:=by
  intro l
  induction l with
  | nil=>simp
  | cons x r ih=>
   simp only[oU];by_cases h:cs.contains x=true
   ·rw[aD h,ih];simp only[bH,forall_eq_or_imp,h,true_and]
   rw[aC h]
 unfold trimS trimLeftS trimRightS;rw[hd];have:=hmem s.reverse;simp only[List.mem_reverse] at this ⊢;exact this
theorem aEq (s cs:Bx):(trimS s cs).length<=s.length:=by
 have h:∀l:Bx,(l.dropWhile (cs.contains ·)).length<=l.length:=fun l=>(List.dropWhile_sublist _).length_le;unfold trimS trimLeftS trimRightS;have h1:=h (s.reverse.dropWhile (cs.contains ·)).reverse;have h2:=h s.reverse;simp only[List.length_reverse] at h1 h2;omega
theorem t156 (s:Bx):Tri Tp true 278 [S s,S digitsS] (S (trimS s digitsS)):=by
 intro ok w vs hg hok hr;cases hr with
 | cons _ v1 _ vs1 h1 hr=>
 cases h1 with
 | str _ hl=>
 obtain ⟨rfl,_⟩:=Er hr;have hl':s.length<=140737488355328:=hl;refine (Any.strings_Trim_laid RL.lT kr ⟨s.toArray⟩ ⟨digitsS.toArray⟩ w (by show s.toArray.size<= _;rw[gZ];omega) de (ascii_of_all de)).mono ?_;rintro e w' ⟨rfl,hb⟩;exact ⟨_,rfl,hb,.str _ (by have:=aEq s digitsS;show _<=140737488355328;omega)⟩
def c156:Con:=aR 278 true fun args K=>match args with | [.str s,.str cs]=>Need (cs=digitsS) (K (S (trimS s digitsS))) | _=>False
theorem k156:aO Tp c156:=by
 refine kO func278 fun args K h=>?_;simp only[c156] at h;split at h
 ·rename_i s cs;obtain ⟨rfl,h⟩:=h;exact ⟨_,h,t156 _⟩
 cases h
theorem ex9:Builder.Extra Tp RL.lR_ren where
 sizeBuilder:=kr
 liesBuilder:=kr
 t5:=Tryz.underlying5
 a5:=Tryz.isAgg5
 z5:=Tryz.sizeOf5
 v5:=Tryz.zeroValue5
 infoByte:=kr
 cellsByte:=kr
 sizeByte:=kr
 neB5:=de
theorem Cv (c:UInt8):∀n,repeatL [c] n=List.replicate n c
 | 0=>rfl
 | n+1=>by rw[repeatL,Cv c n];rfl
theorem t159 (c:UInt8) (n:Int) (hn:0<=n/\n<=1000):Tri Tp true 287 [S [c],I n] (S (List.replicate n.toNat c)):=by
 intro ok w vs hg hok hr;cases hr with
 | cons _ v1 _ vs1 h1 hr=>
 cases h1 with
 | str _ hl=>
 obtain ⟨rfl,_⟩:=Xc hr;obtain ⟨k,rfl⟩:∃k:Nat,n=k:=⟨n.toNat,om⟩;refine (Any.strings_Repeat RL.lR ex9 ⟨[c].toArray⟩ k w om (by show 1*k<= _;omega)).mono ?_;rintro e w' ⟨rfl,hb⟩;rw[aJ,<- Cv];exact ⟨_,rfl,hb,.str _ (by rw[Cv,fJ];show _<=140737488355328;omega)⟩
def c159:Con:=aR 287 true fun args K=>match args with | [.str [c],.val (.int .i64 n)]=>Need (0<=n/\n<=1000) (K (S (List.replicate n.toNat c))) | _=>False
theorem k159:aO Tp c159:=by
 refine kO func287 fun args K h=>?_;simp only[c159] at h;split at h
 ·exact ⟨_,h.go,t159 _ _ h.ok⟩
 cases h
theorem yA {s:Bx} (h:digs s= []\/((digs s).headD 0=48/\s≠ [48])\/trimS (digs s) digitsS≠ []):chkI s=11:=by
 unfold chkI;rw[aC];rintro ⟨h1,h2,h3⟩;rcases h with h | h | h
 ·exact h1 h
 ·rcases h2 with h2 | h2
  ·exact h2 h.1
  exact h.2 h2
 exact h ((Pk _ _).2 fun c hc=>(Mf c).2 (h3 c hc))
theorem aKx {s:Bx} (h1:digs s≠ []) (h2:(digs s).headD 0=48->s= [48]) (h3:trimS (digs s) digitsS= []):form s:=
 ⟨h1,(Classical.em ((digs s).headD 0=48)).elim (fun e=>.inr (h2 e)) .inl,fun c hc=>(Mf c).1 ((Pk _ _).1 h3 c hc)⟩
theorem qS {s:Bx} (h:form s):chkI s=if 300<(digs s).length then 4 else 0:=by unfold chkI;rw[aD h]
def c127:Con:=aR 229 true fun | [.str s],K=>K (I (chkI s)) | _,_=>False
theorem k127:aO Tp c127:=by
 refine kQ {} func229 ntmps229 (kc k88 (kc k156 kn)) fun _ _ h=>?_;split at h;case h_2=>cases h
 rename_i s;refine kb h ?_;(repeat refine ZG ?_);(apply Br.mk<;>intro)
 ·rename_i h;rw[yA (.inl h)];exact ZF
 rename_i h;have hpos:0<(digs s).length:=cB.2 h;have hb:bE (digs s) 0=48↔(digs s).headD 0=48:=by
  unfold bE;cases hd:digs s with
  | nil=>rw[hd] at hpos;simp at hpos
  | cons c r=>
   show (c.toNat:Int)=48↔c=48;constructor
   ·intro e;have:c.toNat=(48:UInt8).toNat:=by show c.toNat=48;omega
    exact pP this
   rintro rfl;rfl
 (repeat'((conv=>whnf);first|refine Zg fun _=>?_|refine Zn ?_|refine Z0 ?_|refine Zr (fun _=>?_) fun _=>?_|fail));all_goals (skip;(conv=>whnf);(repeat' first|rfl|apply aA))
 all_goals first
  | exact (yA (.inr (.inl ⟨hb.1 (by assumption),by assumption⟩))).symm
  | exact (yA (.inr (.inr (by assumption)))).symm
  | (have hf:form s:=aKx h (fun e=>by first | exact bC.1 (by assumption) | exact absurd (hb.2 e) (by assumption)) (by exact bC.1 (by assumption))
     rw[qS hf]
     first | (rw[aD om]) | (rw[aC om])
     done)
def chk2 (a b:Bx):Int:=if chkI a≠0 then chkI a else chkI b
def c94:Con:=aR 186 true fun | [.str a,.str b],K=>K (I (chk2 a b)) | _,_=>False
theorem k94:aO Tp c94:=by
 refine kQ {} func186 ntmps186 (kc k127 kn) fun _ _ h=>?_;split at h;case h_2=>cases h
 refine kb h ?_;unfold chk2;(apply Br.mk<;>intro)
 ·rename_i h;rw[aD h];exact ZF
 rename_i h;rw[aC h];exact ZF
theorem eK {s:Bx} (h:chkI s=0):form s/\(digs s).length<=300:=by
 unfold chkI at h;split at h
 ·rename_i hf;split at h
  ·cases h
  exact ⟨hf,om⟩
 cases h
theorem uT (s:Bx):(digs s).length<=s.length/\s.length<=(digs s).length+1:=by
 unfold digs;split
 ·rw[List.length_tail];omega
 omega
theorem lH {s:Bx} (h:form s) (hl:s.length<=18): -1000000000000000000<valI s/\valI s<1000000000000000000:=by
 obtain ⟨h1,h2,h3⟩:=h;have hb:=iE (digs s) h3;have hp:(10:Nat)^ (digs s).length<=10^18:=bG om (by have:=uT s;omega);have h18:(10:Nat)^18=1000000000000000000:=de;have hv:valI s=aT (digs s)\/valI s= -(aT (digs s):Int):=by
  unfold valI digs;split
  ·exact .inr rfl
  exact .inl rfl
 omega
theorem b95y (a b:Bx) (ha:form a) (hb:form b) (hs:a.length<=18/\b.length<=18):body Tp [c72] {} true f187 [S a,S b,I 18] (.tup [I (valI a),I (valI b),.val (.bool true)]):=by
 have h1:=lH ha hs.1;have h2:=lH hb hs.2;have f1:fitI (valI a):=by unfold fitI;omega
 have f2:fitI (valI b):=by unfold fitI;omega
 (repeat'((conv=>whnf);first|refine Zg fun _=>?_|refine Zm ?_|fail));refine Need.mk ⟨ha,om⟩ ?_;refine Br.mkY f1 ?_;refine Need.mk ⟨hb,om⟩ ?_;refine Br.mkY f2 ?_;(repeat'((conv=>whnf);first|apply pI|apply pJ|fail));exact ZF
theorem b95n (a b:Bx) (hs:¬(a.length<=18/\b.length<=18)):body Tp [c72] {} true f187 [S a,S b,I 18] (.tup [I 0,I 0,.val (.bool false)]):=by
 (repeat'((conv=>whnf);first|refine Zg fun _=>?_|refine Zy ?_|refine Zr (fun _=>?_) fun _=>?_|fail));all_goals first | (exfalso;omega) | skip
 all_goals (skip;(conv=>whnf);(repeat' first|exact trivial|rfl|apply aA))
def c95:Con:=aR 187 true fun args K=>match args with
 | [.str a,.str b,.val (.int .i64 m)]=>Need (m=18/\form a/\form b) (Br (a.length<=18/\b.length<=18) (K (.tup [I (valI a),I (valI b),.val (.bool true)])) (K (.tup [I 0,I 0,.val (.bool false)])))
 | _=>False
theorem k95:aO Tp c95:=by
 refine kO func187 fun args K h=>?_;simp only[c95] at h;split at h
 ·rename_i a b m;obtain ⟨⟨rfl,ha,hb⟩,h⟩:=h;by_cases hs:a.length<=18/\b.length<=18
  ·exact ⟨_,h.yes hs,triB func187 ntmps187 (by simp[k72]) (b95y a b ha hb hs)⟩
  exact ⟨_,h.no hs,triB func187 ntmps187 (by simp[k72]) (b95n a b hs)⟩
 cases h
abbrev itD (s:Bx) (i:Nat):List SV:=[I i,I (dgt s i)]
def c130:Con:=aR 232 false fun | [.str s],K=>K (.clo 282 [] [.lelem [S s] 0]) | _,_=>False
theorem k130:aO Tp c130:=by
 refine kQ {} func232 ntmps232 kn fun _ _ h=>?_;split at h;case h_2=>cases h
 refine kb h ?_;exact ZF
theorem aIh {s:Bx} (h:∀c∈s,cY c) {i:Nat} (hi:i<s.length):bE s (s.length-1-i)-48=dgt s i/\48<=bE s (s.length-1-i)/\bE s (s.length-1-i)<=57:=by
 have hj:s.length-1-i<s.length:=om;have e:∀d:UInt8,s.getD (s.length-1-i) d=s[s.length-1-i]:=fun d=>by simp[aB,hj]
 have hd:cY s[s.length-1-i]:=h _ (cT hj);unfold bE dgt;rw[e,e];unfold cY at hd;omega
theorem b161 (s:Bx) (h:∀c∈s,cY c):Jv Tp [] { asks:=[(0,[])] } f282 [.lelem [S s] 0] s.length (itD s):=by
 (repeat'((conv=>whnf);first|refine Zg fun _=>?_|fail));refine Ask.mk ⟨{ X:=Nat,pre:=fun i=>i<=s.length,mod:=fun i _=>[(6,I i)],heap:=fun i _=>[.yst (some i) s.length (itD s)],mu:=fun i=>s.length-i },rfl,?_⟩;(repeat refine ZG ?_);refine ⟨⟨(0:Nat),aK _,ZE⟩,fun (i:Nat) (hi:i<=s.length)=>?_⟩;(apply Br.mk<;>intro)
 ·have hlt:i<s.length:=om;obtain ⟨e1,e2,e3⟩:=aIh h hlt;(repeat' first|refine ZG ?_|refine Zg fun _=>?_);refine eS (s.length-1-i) om ?_;(repeat'((conv=>whnf);first|refine Zg fun _=>?_|refine Zn ?_|fail));refine Need.mk (by (repeat' first|exact trivial|rfl|apply aA);exact e1) ?_;refine Two.mk ?_ ?_
  ·(repeat refine ZG ?_);refine ⟨(i+1:Nat),by show s.length-(i+1)<s.length-i;omega,hlt,?_⟩;exact ZE
  (conv=>whnf)
  trivial
 (conv=>whnf);omega
def c161:Con:=aR 282 false fun args K=>match args with | [.lelem [.str s] 0]=>Need (∀c∈s,cY c) (K (.itr s.length (itD s))) | _=>False
theorem k161:aO Tp c161:=by
 refine kO func282 fun args K h=>?_;simp only[c161] at h;split at h
 ·rename_i s;exact ⟨_,h.go,tH si func282 (by simp[ntmps282]) (b161 s h.ok)⟩
 cases h
abbrev Mg (i:Nat):Int:=if i=0 then 1 else 10^ ((i-1)%9+1)
theorem aKy (i:Nat) (h:i%9≠0):Mg i=10^ (i%9):=by
 unfold Mg;rw[aC om];congr 1
 omega
theorem aEr (i:Nat):Mg (i+1)=10^ (i%9)*10:=by
 unfold Mg;rw[aC om,Nat.add_sub_cancel,gH]
theorem aIi (i:Nat):1<=(10:Int)^ (i%9)/\(10:Int)^ (i%9)<=100000000:=by
 have:i%9<9:=dO _ om;generalize i%9=k at this
 match k,this with
 | 0,_ | 1,_ | 2,_ | 3,_ | 4,_ | 5,_ | 6,_ | 7,_ | 8,_=>decide
abbrev nL (s:Bx):Nat:=(s.length+8)/9
def c98:Con:=aR 189 true fun | [.str s],K=>Need (form s/\(digs s).length<=600) (K (.agg [.bl (s.headD 0=45) inferInstance,Ls (aI B9 (aT (digs s)))])) | _,_=>False
theorem k98:aO Tp c98:=by
 refine kQ { asks:=[(0,[])] } func189 ntmps189 (kc k123 (kc k130 (kc k161 (kc k131 kn)))) fun _ _ h=>?_;split at h;case h_2=>cases h
 rename_i s;refine kb h.go ?_;replace h:=h.ok;obtain ⟨hf,hl⟩:=h;have hd:=hf.2.2;have hn:(digs s).length<=9*nL (digs s):=by unfold nL;omega
 have e9:(10:Nat)^9=B9:=de;(repeat' first|refine ZG ?_|refine Zg fun _=>?_);refine Ask.mk ⟨{ X:=Nat,pre:=fun i=>i<=(digs s).length,mod:=fun _ _=>[],heap:=fun i H=>[hget H 0,V (rdK (digs s) (nL (digs s)) i),hget H 2,.cells [I (Mg i)] 3],mu:=fun i=>i },rfl,?_⟩;(repeat refine ZG ?_);refine ⟨⟨(0:Nat),rfl,aK _,?_⟩,fun (i:Nat) hi (hlt:i<(digs s).length)=>?_,fun (i:Nat) hi (he:i=(digs s).length)=>?_⟩
 ·(repeat' first|exact trivial|rfl|apply aA);(conv=>whnf);show List.replicate _ _=List.replicate _ _;congr 1;unfold nL;omega
 ·obtain ⟨g1,g2,g3,g4,g5⟩:=Ll hd hn i om;have gd:=aCo hd hlt;have gi:=get9 g2 (i/9);have gu:=aIi i;have hi9:i/9<nL (digs s):=by unfold nL;omega
  have g5:(rdK (digs s) (nL (digs s)) i).getD (i/9) 0<(10:Int)^ (i%9):=g5;have hm:0<=dgt (digs s) i*10^ (i%9)/\dgt (digs s) i*10^ (i%9)<=9*100000000:=⟨dH gd.1 om,eW (bN gd.2.1 om) (aV gu.2 om)⟩;have hst:rdK (digs s) (nL (digs s)) (i+1)=(rdK (digs s) (nL (digs s)) i).set (i/9) ((rdK (digs s) (nL (digs s)) i).getD (i/9) 0+dgt (digs s) i*10^ (i%9)):=rfl;have hun:=aEr i;show hnfL (itD (digs s) i) _;(repeat' first|refine ZG ?_|refine Zg fun _=>?_);(apply Br.mk<;>intro)
  ·rename_i hz;have hz:i%9=0:=om;rw[hz] at hm hst hun;(repeat'((conv=>whnf);first|refine Zg fun _=>?_|refine Za ?_|refine Zn ?_|refine Zj ?_|apply pI|apply pJ|fail));refine Need.mk (show -9223372036854775808<=(rdK (digs s) (nL (digs s)) i).getD (i/9) 0+dgt (digs s) i*1/\(rdK (digs s) (nL (digs s)) i).getD (i/9) 0+dgt (digs s) i*1<=9223372036854775807 by omega) ?_;(repeat refine ZG ?_);refine ⟨(i+1:Nat),rfl,hlt,?_⟩;(repeat' first|exact trivial|rfl|apply aA|omega);exact hst.symm
  rename_i hz;have hz:i%9≠0:=om;rw[<- aKy i hz] at hm hst hun gu;(repeat'((conv=>whnf);first|refine Zg fun _=>?_|refine Za ?_|refine Zn ?_|refine Zj ?_|apply pI|apply pJ|fail));refine Need.mk (show -9223372036854775808<=(rdK (digs s) (nL (digs s)) i).getD (i/9) 0+dgt (digs s) i*Mg i/\(rdK (digs s) (nL (digs s)) i).getD (i/9) 0+dgt (digs s) i*Mg i<=9223372036854775807 by omega) ?_;(repeat refine ZG ?_);refine ⟨(i+1:Nat),rfl,hlt,?_⟩;(repeat' first|exact trivial|rfl|apply aA|omega);exact hst.symm
 subst he;(conv=>whnf);(repeat' first|exact trivial|rfl|apply aA);have:=aJ0 hd hn;rw[e9] at this;exact this
theorem aM0:Builder.X72 Tp RL.lC_ren where
 sizeBuilder:=kr
 liesBuilder:=kr
theorem ex160:Builder.Extra Tp RL.lS_ren where
 sizeBuilder:=kr
 liesBuilder:=kr
 t5:=Tryz.underlying5
 a5:=Tryz.isAgg5
 z5:=Tryz.sizeOf5
 v5:=Tryz.zeroValue5
 infoByte:=kr
 cellsByte:=kr
 sizeByte:=kr
 neB5:=de
def Pl (nm:Nat) (A:SV):Prop:=A= .val (.pointer none)\/A= .ptr nm 0
def c178:Con:=Jf 320 fun args H K=>match args with
 | [.ptr nm 0]=>(match hget H nm with
  | .cells [A,x] e=>Need (Pl nm A/\e=292) <| K (.tup []) (hset H nm (.cells [.ptr nm 0,x] 292))
  | _=>False)
 | _=>False
theorem k178:aO Tp c178:=by
 refine An (enters_of func320 kr rfl) ?_;intro args H K h;split at h;case h_2=>cases h
 rename_i nm;split at h;case h_2=>cases h
 rename_i A x e ho;obtain ⟨⟨hA,rfl⟩,hK⟩:=h;refine ⟨fun s H'=>s= .tup []/\H'=hset H nm (.cells [.ptr nm 0,x] 292),fun s H' e=>by rw[e.1,e.2];exact hK,?_⟩;intro G loc ver w vs hC hI hr;cases hr with
 | cons _ v1 _ vs1 h1 hr=>
 cases hr;obtain ⟨b,hbk,rfl⟩:=wD hI h1 (by simp only[live,ho]);have hn:=aX ho si;obtain ⟨h0,b',vals,g1,g2,g3⟩:=hI.objs nm _ hn;rw[hbk] at g1;cases g1;replace g2:w.heap[b]? =some (.cells ⟨vals⟩ 292 (0,0)):=g2;cases g3 with
 | cons _ u _ us r1 r2=>
 cases r2 with
 | cons _ u2 _ us2 r2 r3=>
 cases r3;have hfin:∀w':World,w'.heap.size=w.heap.size->w'.os=w.os->w'.tape=w.tape->w'.output=w.output->(∀k,k≠b->w'.heap[k]? =w.heap[k]?)->w'.heap[b]? =some (.cells #[.pointer (some ⟨b,0,none⟩),u2] 292 (0,0))->Res G (envOf G H loc ver w) (fun s H'=>s= .tup []/\H'=hset H nm (.cells [.ptr nm 0,x] 292)) (.tuple #[]) w':=by
  intro w' q1 q2 q3 q4 q5 q6;have hin:=hI.inPlace (w':=w') (o':=.cells [.ptr nm 0,x] 292) hn (b:=b) (by simp[Owns,hbk]) (fun _ h=>h) q1 q2 q3 q4 q5
   (fun hx'=>⟨h0,b,[.pointer (some ⟨b,0,none⟩),u2],hbk,q6,.cons _ _ _ _ (h1.ext hx') (.cons _ _ _ _ (r2.ext hx') .nil)⟩)
  exact ⟨_,_,_,_,⟨rfl,rfl⟩,hin.1,.tup [] [] .nil,hin.2⟩
 rcases hA with rfl | rfl
 ·cases r1;refine (Any.Builder_copyCheck_fresh RL.lC aM0 b w (by rw[Lib.cell_of_heap g2];rfl) (by unfold World.shape?;rw[g2];rfl) (Lib.frozen_of_heap g2 0)).mono ?_;rintro e w' ⟨rfl,rfl⟩;exact ⟨_,rfl,hfin _ (by simp[World.setCell]) rfl rfl rfl (fun k hk=>Below.heap_setCell w _ _ k hk) (by unfold World.setCell;rw[rF];simp[g2])⟩
 obtain ⟨b2,hb2,rfl⟩:=wD hI r1 (by simp only[live,ho]);rw[hbk] at hb2;cases hb2;refine (Any.Builder_copyCheck_used RL.lC aM0 b w (by rw[Lib.cell_of_heap g2];rfl)).mono ?_;rintro e w' ⟨rfl,rfl⟩;exact ⟨_,rfl,hfin _ rfl rfl rfl rfl (fun _ _=>rfl) g2⟩
abbrev H3 (p:Prop) (hp:Decidable p) (a:List Int) (A:SV) (k:Nat) (bs:List Int):List HO:=[.cells [.bl p hp,Ls a] 233,.cells [A,.ref 2 k] 292,.vec k (.int .u8) bs 5]
theorem b157 (p:Prop) (hp:Decidable p) (a:List Int) (A:SV) (hA:Pl 1 A) (bs:List Int) (hl:bs.length<=1000000):
  wA Tp [c178] {} f285 [.ptr 1 0,.val (.int .u8 45)] (H3 p hp a A 1 bs) (fun s H'=>s= .val .nilIface/\H'=H3 p hp a (.ptr 1 0) 2 (List.append (α:=Int) bs [45])):=by
 (conv=>whnf);refine Need.mk rfl ?_;(repeat refine ZG ?_);(conv=>whnf);refine ⟨_,_,⟨rfl,rfl⟩,rfl,rfl,rfl,rfl,?_⟩;exact ZE
theorem b158 (p:Prop) (hp:Decidable p) (a:List Int) (A:SV) (hA:Pl 1 A) (k:Nat) (hk:k=1\/k=2) (bs:List Int) (s:Bx) (hl:bs.length+s.length<=1000000):
  wA Tp [c178] {} f286 [.ptr 1 0,S s] (H3 p hp a A k bs++ [.gone]) (fun r H'=>r= .tup [I s.length,.val .nilIface]/\H'=H3 p hp a (.ptr 1 0) (k+1) (List.append (α:=Int) bs (cJ s))++ [.gone]):=by
 rcases hk with rfl | rfl
 ·(conv=>whnf);refine Need.mk rfl ?_;(repeat' first|refine ZG ?_|refine Zg fun _=>?_);(conv=>whnf);refine ⟨_,_,⟨rfl,rfl⟩,rfl,?_,rfl,rfl,?_⟩;all_goals (repeat' first|exact trivial|rfl|apply aA)
 (conv=>whnf);refine Need.mk rfl ?_;(repeat' first|refine ZG ?_|refine Zg fun _=>?_);(conv=>whnf);refine ⟨_,_,⟨rfl,rfl⟩,rfl,?_,rfl,rfl,?_⟩;all_goals (repeat' first|exact trivial|rfl|apply aA)
def c157:Con:=Jf 285 fun args H K=>match args,H with
 | [.ptr 1 0,.val (.int .u8 45)],[.cells [.bl p hp,.seq (.int .i64) a] e1,.cells [A,.ref 2 1] e2,.vec 1 (.int .u8) bs e3]=>
  Need (Pl 1 A/\e1=233/\e2=292/\e3=5/\List.length (α:=Int) bs<=1000000) (K (.val .nilIface) (H3 p hp a (.ptr 1 0) 2 (List.append (α:=Int) bs [45])))
 | _,_=>False
theorem k157:aO Tp c157:=by
 refine An (enters_of func285 kr rfl) ?_;intro args H K h;split at h
 ·obtain ⟨⟨hA,rfl,rfl,rfl,hl⟩,hK⟩:=h;refine ⟨_,?_,gV (by simp[k178]) func285 (by simp[ntmps285]) (b157 _ _ _ _ hA _ hl)⟩;rintro s H' ⟨rfl,rfl⟩;exact hK
 cases h
def c158:Con:=Jf 286 fun args H K=>match args,H with
 | [.ptr 1 0,.str s],[.cells [.bl p hp,.seq (.int .i64) a] e1,.cells [A,.ref 2 k] e2,.vec k' (.int .u8) bs e3,.gone]=>
  Need (Pl 1 A/\k'=k/\(k=1\/k=2)/\e1=233/\e2=292/\e3=5/\List.length (α:=Int) bs+s.length<=1000000) (K (.tup [I s.length,.val .nilIface]) (H3 p hp a (.ptr 1 0) (k+1) (List.append (α:=Int) bs (cJ s))++ [.gone]))
 | _,_=>False
theorem k158:aO Tp c158:=by
 refine An (enters_of func286 kr rfl) ?_;intro args H K h;split at h
 ·obtain ⟨⟨hA,rfl,hk,rfl,rfl,rfl,hl⟩,hK⟩:=h;refine ⟨_,?_,gV (by simp[k178]) func286 (by simp[ntmps286]) (b158 _ _ _ _ hA _ hk _ _ hl)⟩;rintro s H' ⟨rfl,rfl⟩;exact hK
 cases h
set_option maxRecDepth 100000 in
theorem aEs {P:Program} {ρ:Ren} (L:Lays.n169 P ρ) (X:Builder.Extra P ρ) (b g cap:Nat) (p:Value) (cur:Array Value) (l:Bx) (w:World) (h0:l≠ []) (hbk:w.heap[b]? =some (.cells #[p,.slice (some ⟨g,0,none⟩) l.length cap] (ρ.t 72) (0,0)))
  (hg:w.heap[g]? =some (.cells cur (ρ.t 5) (0,0))) (hnc:l.length<=cap) (hcm:cap<=maxLen) (hcs:cap<=cur.size) (hcell:∀(j:Nat) (x:UInt8),l[j]? =some x->cur[j]? =some (Value.int .u8 x.toNat)):
  Calls P (ρ.f 169) #[.pointer (some ⟨b,0,none⟩)] w fun e w'=>e= .returned (.string ⟨l.toArray⟩)/\w'=w.drew.freeze ⟨g,0,none⟩ l.length:=by
 have hl0:l.length≠0:=by simpa using h0
 have c1:w.drew.cell? ⟨b,1,none⟩=some (.slice (some ⟨g,0,none⟩) l.length cap):=by
  have:w.drew.heap[b]? =some (.cells #[p,.slice (some ⟨g,0,none⟩) l.length cap] (ρ.t 72) (0,0)):=hbk;rw[Lib.cell_of_heap this];rfl
 have hSD:(Builtin.unsafeSliceData_ #[(ρ.t 37)] (ρ.t 127) #[.slice (some ⟨g,0,none⟩) l.length cap]).run P w.drew= .ok (.pointer (some ⟨g,0,none⟩)) w.drew:=
  Lib.run_unsafeSliceData_row _ _ _ _ _ _ om
 have hUS:(Builtin.unsafeString_ #[(ρ.t 127),(ρ.t 3)] (ρ.t 9) #[.pointer (some ⟨g,0,none⟩),.int .i64 l.length]).run P w.drew= .ok (.string ⟨l.toArray⟩) (w.drew.freeze ⟨g,0,none⟩ l.length):=by
  refine Lib.run_unsafeString_row w.drew (ρ.t 127) (ρ.t 3) (ρ.t 9) (ρ.t 5) L.t127 X.cellsByte g cur.size (by have hg':w.drew.heap[g]? =some (.cells cur (ρ.t 5) (0,0)):=hg;simp[World.shape?,hg']) l h0 om (by unfold maxLen at hcm;omega) ?_;intro j x hx;have hg':w.drew.heap[g]? =some (.cells cur (ρ.t 5) (0,0)):=hg;rw[Addr.add_mid,Lib.cell_of_heap hg',eJ];exact hcell j x hx
 have mixed:=L.mixed;have t72:=L.t72;have a72:=L.a72;have z72:=L.z72;have v72:=L.v72;have u72:=run_underlying L.t72;have t70:=L.t70;have a70:=L.a70;have z70:=L.z70;have v70:=L.v70;have u70:=run_underlying L.t70;have t37:=L.t37;have a37:=L.a37;have z37:=L.z37;have v37:=L.v37;have u37:=run_underlying L.t37;have t127:=L.t127;have a127:=L.a127;have z127:=L.z127;have v127:=L.v127;have u127:=run_underlying L.t127;have t3:=L.t3;have a3:=L.a3;have z3:=L.z3;have v3:=L.v3;have u3:=run_underlying L.t3;have t9:=L.t9;have a9:=L.a9;have z9:=L.z9;have v9:=L.v9;have u9:=run_underlying L.t9;have t5:=X.t5;have a5:=X.a5;have z5:=X.z5;have v5:=X.v5;have u5:=run_underlying X.t5
 go_enter L.f169,Body.n169_ntmps ρ
 go_wp2
 go_region_o
 all_goals (go_wp2;go_ret;exact ⟨rfl,rfl⟩)
def ofI (bs:List Int):Bx:=bs.map fun n=>UInt8.ofNat n.toNat
theorem Mh (l:Bx):ofI (cJ l)=l:=by
 unfold ofI cJ;rw[List.map_map]
 conv=>rhs;rw[<- List.map_id l]
 refine oR fun x _=>?_;simp
def c160:Con:=Jf 288 fun args H K=>match args with
 | [.ptr nm 0]=>(match hget H nm with
  | .cells [A,.ref nm2 k] e=>(match hget H nm2 with
   | .vec k' (.int .u8) bs e'=>Need (Pl nm A/\k'=k/\e=292/\e'=5/\0<List.length (α:=Int) bs/\nm≠nm2) (K (.str (ofI bs)) (hset H nm2 .dead))
   | _=>False)
  | _=>False)
 | _=>False
theorem k160:aO Tp c160:=by
 refine An (enters_of func288 kr rfl) ?_;intro args H K h;split at h;case h_2=>cases h
 rename_i nm;split at h;case h_2=>cases h
 rename_i A nm2 k e ho;split at h;case h_2=>cases h
 rename_i k' bs e' ho2;obtain ⟨⟨hA,hkk,rfl,rfl,hpos,hne⟩,hK⟩:=h;subst hkk;refine ⟨fun s H'=>s= .str (ofI bs)/\H'=hset H nm2 .dead,fun s H' e=>by rw[e.1,e.2];exact hK,?_⟩;intro G loc ver w vs hC hI hr;cases hr with
 | cons _ v1 _ vs1 h1 hr=>
 cases hr;obtain ⟨b,hbk,rfl⟩:=wD hI h1 (by simp only[live,ho]);have hn:=aX ho si;have hn2:=aX ho2 si;obtain ⟨h0,b',vals,g1,g2,g3⟩:=hI.objs nm _ hn;rw[hbk] at g1;cases g1;replace g2:w.heap[b]? =some (.cells ⟨vals⟩ 292 (0,0)):=g2;cases g3 with
 | cons _ u _ us r1 r2=>
 cases r2 with
 | cons _ u2 _ us2 r2 r3=>
 cases r3;obtain ⟨hu2,hlt2⟩:=wG hI r2 ho2;subst hu2;obtain ⟨q1,q2,hlen,hmax,vs2,hown,hel⟩:=hI.objs nm2 _ hn2;have hlen':(loc nm2).len=List.length (α:=Int) bs:=hlen;have hmax':(loc nm2).len<=140737488355328:=hmax;have hel':∀i,i<(loc nm2).len->Reads w (okN G H loc w) (.int .u8) (List.getD (α:=Int) bs i 0) ((vs2.drop (i*1)).take 1):=hel;rcases dJ hown with ⟨_,_,_,e4⟩ | ⟨g,cur,e1,e2,e3,e4,e5,e6,e7⟩
 ·omega
 have e3':w.heap[g]? =some (.cells cur 5 (0,0)):=e3;have hol:(ofI bs).length=List.length (α:=Int) bs:=by simp[ofI]
 have e7':cur.toList.take (List.length (α:=Int) bs)=vs2:=by rw[<- hlen'];simpa [Ty.size] using e7
 have hcell:∀(j:Nat) (x:UInt8),(ofI bs)[j]? =some x->cur[j]? =some (Value.int .u8 x.toNat):=by
  intro j x hj;have hjl:j<List.length (α:=Int) bs:=by rw[<- hol];exact (aL.1 hj).1
  have hR:=hel' j om;have hg1:List.getD (α:=Int) bs j 0=bs[j]:=by simp[aB,hjl]
  have hx:x=UInt8.ofNat (bs[j]:Int).toNat:=by
   simp[ofI,hjl] at hj;exact hj.symm
  obtain ⟨hR1,hR2⟩:=hR;have hR2:(0:Int)<=List.getD (α:=Int) bs j 0/\List.getD (α:=Int) bs j 0<=255:=hR2;have hjc:(cur.toList.take (List.length (α:=Int) bs))[j]? =some (Value.int .u8 (List.getD (α:=Int) bs j 0)):=by
   rw[e7'];have h1:((vs2.drop (j*1)).take 1)[0]? =some (Value.int .u8 (List.getD (α:=Int) bs j 0)):=by rw[hR1];rfl
   simpa using h1
  rw[aU,aD hjl] at hjc;rw[<- iF,hjc,hx];rw[hg1] at hR2 ⊢;congr 2
  simp only[mE];omega
 have hhead:(loc nm2).head= .slice (some ⟨g,0,none⟩) (ofI bs).length (loc nm2).cap:=by simp[Core.head,e1,e2,hlen',hol]
 have hb3:w.heap[b]? =some (.cells #[u,.slice (some ⟨g,0,none⟩) (ofI bs).length (loc nm2).cap] 292 (0,0)):=by rw[<- hhead];exact g2
 refine (aEs RL.lS ex160 b g (loc nm2).cap u cur (ofI bs) w (by intro e;rw[e] at hol;simp at hol;omega) hb3 e3' om e5 (by simpa [Ty.size] using e6) hcell).mono ?_;rintro e w' ⟨rfl,rfl⟩;refine ⟨_,rfl,?_⟩;have hfr:∀c,c≠g->(w.drew.freeze ⟨g,0,none⟩ (ofI bs).length).heap[c]? =w.heap[c]? :=by
  intro c hc;unfold World.freeze;split
  ·rfl
  show (w.heap.modify _ _)[c]? = _;rw[rF,aC (fun e=>hc e.symm)]
 have hsz:(w.drew.freeze ⟨g,0,none⟩ (ofI bs).length).heap.size=w.heap.size:=by
  unfold World.freeze;split
  ·rfl
  simp
 have hin:=hI.inPlace (w':=w.drew.freeze ⟨g,0,none⟩ (ofI bs).length) (o':=.dead) hn2 (b:=g) (by simp[Owns,e1]) (fun _ h=>h.elim) hsz (by unfold World.freeze;split<;>rfl) (by unfold World.freeze;split<;>rfl) (by unfold World.freeze;split<;>rfl) hfr (fun _=>trivial);exact ⟨_,_,_,_,⟨rfl,rfl⟩,hin.1,.str _ (by show (ofI bs).length<=140737488355328;omega),hin.2⟩
end RB
end

/-
  Part 4: a symbolic executor over the model, contracts of functions and plain laws.
-/
import Derived.Test.YtocimheacfaimaaGreatDoorP3
import Derived.RangeFuncLeaves
import Derived.SizedLaws
import Derived.OpenShut
import Derived.DataReads
import Derived.Below
import Derived.Shelf.Abstract
import Derived.Lib.ItoaNum
import Derived.Test.YtocimheacfaimaaGreatDoorProg
import Derived.Shelf.Strconv.Itoa3
import Derived.Shelf.Strconv.AtoiAll
import Derived.Shelf.Strings.Repeat
import Derived.Shelf.Strings.SlTrimAscii
import Derived.Shelf.Strings.Search3
import Derived.Shelf.Strings.Builder1
import Derived.Lib.SmallJoins
import Derived.Lib.AtoiAllCases
import Derived.Lib.AppendIntMem
set_option linter.unusedVariables false
set_option linter.unusedSimpArgs false
set_option maxRecDepth 10000
set_option maxHeartbeats 80000000
open List (length getD)
noncomputable abbrev Tp:=Go.Proofs.Tryz.prog
noncomputable section
section
namespace Go.Eng
open Go.RowKit
section
variable {P:Program} {G:Ctx} {H:List HO} {loc:Nat->Loc} {ver:Nat->Nat} {w:World} {N:Nat}
theorem Ms:∀(args:List SV) (n t:Nat),look (zR args n) t=if n<=t then args.getD (t-n) .any else .any
 | [],n,t=>by simp[zR,look]
 | x::r,n,t=>by
  simp only[zR,look];by_cases e:n=t
  ·subst e;simp[iF]
  rw[lY e];simp only[cM];rw[Ms r (n+1) t];by_cases h:n<=t
  ·rw[aE h,aE om];obtain ⟨k,rfl⟩:∃k,t=n+1+k:=⟨t-(n+1),om⟩;rw[show n+1+k-(n+1)=k by omega,show n+1+k-n=k+1 by omega];rfl
  rw[aD h,aD om]
theorem uA {E:Env}{args:List SV}{vs:List Value}(h:RelL E args vs)(g:args.length<=N):TRel E N (zR args 0) { tmps:=⟨vs⟩++Array.replicate (N-(⟨vs⟩:Array Value).size) undef,defers:=[] }:=by
 have f:=h.length;refine ⟨by simp;omega,fun t=>?_⟩;rw[Ms,aE (aF _),jP];by_cases c:t<args.length
 ·have:=h.get t c;have e:(⟨vs⟩++Array.replicate (N-(⟨vs⟩:Array Value).size) undef:Array Value).getD t undef=vs.getD t undef:=by
   rw[bQ,Array.getElem?_append_left (by simp;omega),aB];simp
  rw[e];exact this
 have:args.getD t .any= .any:=by simp[aB,cO (fF c)]
 rw[this];exact .any _
def Fb (w:World)(ok:Nat->Prop)(hok:∀b,ok b->b<w.heap.size):Ctx:=⟨w,ok,fun _=>False,fun _ _ h=>h,hok,OA,aF _⟩
theorem Qu (ok:Nat->Prop)(c:∀b,ok b->b<w.heap.size):Inv (Fb w ok c) [] (fun _=>zT none 0 0) (fun _=>0) w:=by
 refine ⟨aI _,rfl,rfl,rfl,fun _ _ _=>rfl,fun e o h=>by simp at h,fun b f=>?_,fun e g o m b h=>by simp at h⟩;obtain ⟨e,o,h,_⟩:=f;simp at h
theorem Inv.book (hI:Inv G H loc ver w){D:Nat}{o:Obj}{ds:Option (List Deferred)}(hD:w.heap[D]? =some (.deferred ds))(h0:G.w0.heap.size<=D)(b1:G.itr.n0<=D)(a':¬Jl H loc D):Inv G H loc ver (w.putObj D o)/\∀s v,Rel (envOf G H loc ver w) s v->Rel (envOf G H loc ver (w.putObj D o)) s v:=by
 have A:∀b,b≠D->(w.putObj D o).heap[b]? =w.heap[b]? :=fun b F=>World.putObj_heap_other F;have z:∀(a:Addr) (v:Value),w.cell? a=some v->(w.putObj D o).cell? a=some v:=by
  intro a v hv;by_cases e:a.block=D
  ·rw[World.cell?,e,hD] at hv;cases hv
  exact (World.cell?_of_block (A _ e)).trans hv
 have W:∀b,qW G H loc w b->qW G H loc (w.putObj D o) b:=fun b F=>⟨F.1,by simpa using F.2.1,F.2.2⟩;have a1:∀ {b:Nat} {x:Obj},w.heap[b]? =some x->VL x=true->(w.putObj D o).heap[b]? =some x:=fun {b x} h hm=>
  (A b (fun e'=>by subst e';rw[hD] at h;cases h;cases hm)).trans h
 have a2:∀ {b:Nat} {c:Array Value} {e:TypeId} {f:Nat × Nat},w.heap[b]? =some (.cells c e f)->(w.putObj D o).heap[b]? =some (.cells c e f):=fun {b c e f} h=>a1 h rfl;have a4:∀ {l:List SV} {vs:List Value},RelL (envOf G H loc ver w) l vs->RelL (envOf G H loc ver (w.putObj D o)) l vs:=fun h=>
  RelL.move (E:=envOf G H loc ver w) (E':=envOf G H loc ver (w.putObj D o)) (p:=lE H) (fun nm _ hn=>⟨hn,.inl ⟨rfl,rfl⟩⟩) (fun _ _ _ _=>.inl rfl) (fun _=>rfl) (fun b _ _ h hm=>a1 h hm) W h h.under
 refine ⟨?_,fun s v h=>Rel.move (E:=envOf G H loc ver w) (E':=envOf G H loc ver (w.putObj D o)) (p:=lE H) (fun nm _ hn=>⟨hn,.inl ⟨rfl,rfl⟩⟩) (fun _ _ _ _=>.inl rfl) (fun _=>rfl) (fun b _ _ h hm=>a1 h hm) W h h.under⟩;refine ⟨by simpa using hI.size,hI.os,hI.tape,hI.output,fun b F hm=>(A b om).trans (hI.frame b F hm),fun nm x hx=>?_,hI.own,hI.sep⟩;have Z:=hI.objs nm x hx;cases x with
 | dead=>trivial
 | res=>trivial
 | fro k t xs=>obtain ⟨B,K,C⟩:=Z;exact ⟨B,K,C.mono (fun a v _ hv=>z a v hv) W⟩
 | frc l=>obtain ⟨B,b,vs,e,K,C,y,u⟩:=Z;exact ⟨B,b,vs,e,K,W b C,a2 y,a4 u⟩
 | cells l e=>obtain ⟨B,b,vs,K,C,y⟩:=Z;exact ⟨B,b,vs,K,a2 C,a4 y⟩
 | qm ks l=>obtain ⟨B,K,a7,b,es,c,C,y,u,X⟩:=Z;exact ⟨B,K,a7,b,es,c,C,a1 y rfl,u,a4 X⟩
 | frm ks l=>obtain ⟨B,a7,b,es,c,C,y,u,X,h7⟩:=Z;exact ⟨B,a7,b,es,c,C,W b y,a1 u rfl,X,a4 h7⟩
 | vec k t xs e=>
  obtain ⟨B,K,C,y,vs,u,X⟩:=Z;refine ⟨B,K,C,y,vs,⟨u.1,?_⟩,fun i hi=>(X i hi).mono (fun a v _ hv=>z a v hv) W⟩;rcases u.2 with h7 | ⟨g,a6,cur,h7,h8,Y,a0⟩
  ·exact .inl h7
  exact .inr ⟨g,a6,cur,h7,h8,a2 Y,a0⟩
 | gone=>exact ⟨Z.1,fun b F=>by simpa [envOf] using Z.2 b F⟩
 | lnt k t xs=>
  obtain ⟨B,K,C,y,u⟩:=Z;refine ⟨B,K,C,fun b x F=>⟨(y b x F).1,(A b fun e'=>?_).trans (y b x F).2⟩,u.mono (fun a v _ hv=>z a v hv) fun _ h=>h⟩;obtain ⟨k1,k2⟩:=y b x F;subst e';have k2:w.heap[b]? =some x:=k2;rw[hD] at k2;cases k2;cases k1
 | map k t m=>
  obtain ⟨B,K,C,b,es,y,u,X⟩:=Z;exact ⟨B,K,C,b,es,y,(A b (fun e'=>by subst e';have u:w.heap[b]? = _:=u;rw[hD] at u;cases u)).trans u,X.mono (fun a v _ hv=>z a v hv) W⟩
 | vv k s t xss pend eo ei=>
  obtain ⟨B,K,C,y,u,⟨vs,X,h7⟩,h8,Y⟩:=Z;have b2:∀b,(b=D)->∀ {c:Array Value} {e:TypeId},w.heap[b]? ≠some (.cells c e (0,0)):=fun b e' c e h=>by subst e';rw[hD] at h;cases h
  have a3:∀ {base:Nat} {e:TypeId} {size n:Nat} {v:Value} {vs:List Value},w.ownsR base e size v n vs->(w.putObj D o).ownsR base e size v n vs:=fun {base e size n v vs} h=>by
   refine ⟨h.1,?_⟩;rcases h.2 with u | ⟨g,a6,cur,u,X,h7,h8⟩
   ·exact .inl u
   exact .inr ⟨g,a6,cur,u,X,a2 h7,h8⟩
  have a5:∀ {al:Nat->Prop} {h:Value} {xs:List t.T},RowAt (envOf G H loc ver w) al t ei h xs->RowAt (envOf G H loc ver (w.putObj D o)) al t ei h xs:=fun ⟨vs,q1,q2,q3⟩=>⟨vs,a3 q1,q2,fun i hi=>(q3 i hi).mono (fun a v _ hv=>z a v hv) W⟩;refine ⟨B,K,C,y,u,⟨vs,a3 X,h7⟩,fun b F=>?_,⟨Y.flat,fun i hi hp=>a5 (Y.row i hi hp),Y.apart,fun j ys hp=>by obtain ⟨q1,q2,q3⟩:=Y.grown j ys hp;exact ⟨q1,a5 q2,q3⟩,Y.short⟩⟩;obtain ⟨q1,q2,c,e,q3⟩:=h8 b F;exact ⟨by simpa [envOf] using q1,q2,c,e,a2 q3⟩
 | mit m s l c=>
  obtain ⟨B,K,r,bm,C,y,u⟩:=Z;exact ⟨B,K,r,bm,C,(A r (fun e'=>by subst e';have y:w.heap[r]? = _:=y;rw[hD] at y;cases y)).trans y,u⟩
 | yst st n it=>
  obtain ⟨B,K,C,y,u,X,h7⟩:=Z;have a8:¬(loc nm).al D:=fun h=>a' ⟨nm,_,_,_,hx,h⟩;have a9:=(aH.1 hD).1;refine ⟨B,fun b F=>by simpa [envOf] using K b F,by simpa [envOf] using C,y,u,fun b F hl=>⟨(X b F hl).1,W b (X b F hl).2⟩,?_⟩;have:=G.itr.abides st _ w (w.putObj D o) h7 rfl rfl rfl si fun b F hm=>A b fun e=>hm (by subst e;exact ⟨b1,a9,a8⟩);refine cast (aR (fun M=>G.itr.J st M (w.putObj D o)) (funext fun b=>propext ⟨?_,?_⟩)) this
  ·rintro (⟨h8,Y,a0⟩ | ⟨h8,Y⟩)
   ·exact ⟨h8,by simpa [envOf] using Y,a0⟩
   exfalso;simp at Y;omega
  rintro ⟨h8,Y,a0⟩;exact .inl ⟨h8,by simpa [envOf] using Y,a0⟩
def Gl (a:Act):ResultVar->Sem Value
 | .tmp t=>pure (a.tmps.getD t undef)
 | .cell c t=>do loadVar t (<- asAddr (a.tmps.getD c undef))
theorem Ae (g:Inv G H loc ver w){l:List (Nat × SV)}{a:Act}(m:TRel (envOf G H loc ver w) N l a):∀ {rs:List ResultVar} {vs:List SV},yR P l H rs=some vs->
  ∃us:List Value,(rs.mapM (Gl a)).run P w= .ok us w/\RelL (envOf G H loc ver w) vs us
 | [],vs,h=>by simp[yR] at h;subst h;exact ⟨[],by simp[List.mapM_nil],.nil⟩
 | .tmp t::r,vs,h=>by
  simp only[yR] at h;split at h
  ·rename_i f n;cases h;obtain ⟨us,o,y⟩:=Ae g m n;refine ⟨a.tmps.getD t undef::us,?_,.cons _ _ _ _ (m.rel t) y⟩;rw[Az];simp only[Gl,Sem.run_bind,Sem.run_pure,Result.andThen_ok,o]
  cases h
 | .cell c t::r,vs,h=>by
  simp only[yR] at h;split at h
  ·rename_i nm off ag J f hl ha hz n;obtain ⟨us,o,y⟩:=Ae g m n;have W:=m.rel c;rw[hl] at W;cases ho:bX H nm with
   | cells cs e=>
    rw[ho] at h;simp only at h;obtain ⟨b,hb,hv⟩:=wM g W (by simp[Kw,ho]);obtain ⟨h0,b',ws,K,X,Y⟩:=g.objs nm _ (bB ho si);rw[hb] at K;cases K;have z:w.heap[b]? =some (.cells ⟨ws⟩ e (0,0)):=X;have F:∀s,oI ag off J cs (fun x=>x=s)->∃u,(loadVar t ⟨b,off,none⟩).run P w= .ok u w/\Rel (envOf G H loc ver w) s u:=by
     intro s D;obtain ⟨u,s',A,C,Z⟩:=oA (P:=P) (E:=envOf G H loc ver w) (base:=0) (b:=b) D ha hz Y (fun j v hj=>by simp[envOf,World.cell?,z,hj]);subst C;refine ⟨u,?_,Z⟩;have B:(Instr.loadAt t (.pointer (some ⟨b,0+off,none⟩))).run P w= .ok u w:=A;simpa [Instr.loadAt,Instr.sureAddr] using B
    have fin:∀s,oI ag off J cs (fun x=>x=s)->vs=s::f->∃us:List Value,((ResultVar.cell c t::r).mapM (Gl a)).run P w= .ok us w/\RelL (envOf G H loc ver w) vs us:=by
     intro s D e;subst e;obtain ⟨u,A,C⟩:=F s D;refine ⟨u::us,?_,.cons _ _ _ _ C y⟩;rw[Az];simp only[Gl,Sem.run_bind,hv,asAddr,Sem.run_pure,Result.andThen_ok,A,o]
    cases ag with
    | true=>
     simp only at h;cases hb2:Nat.ble (off+J) cs.length with
     | true=>
      rw[hb2] at h;simp only[bP] at h;cases h;exact fin _ (by simp[oI,hb2,cD]) rfl
     | false=>rw[hb2] at h;cases h
    | false=>
     simp only at h;cases hb2:Nat.blt off cs.length with
     | true=>
      rw[hb2] at h;simp only[bP] at h;cases h;exact fin _ (by simp[oI,hb2,kF]) rfl
     | false=>rw[hb2] at h;cases h
   | _=>rw[ho] at h;cases h
  cases h
theorem GB {E:Env}{vs:List SV}{us:List Value}(h:RelL E vs us):Rel E (zN vs) (if h:(us.toArray).size=1 then us.toArray[0] else .tuple us.toArray):=by
 cases h with
 | nil=>exact .tup _ _ .nil
 | cons s v l us h hl=>
  cases hl with
  | nil=>exact h
  | cons s' v' l' us' h' hl'=>
   have:¬((v::v'::us').toArray.size=1):=by simp
   rw[Gb this];exact .tup _ _ (.cons _ _ _ _ h (.cons _ _ _ _ h' hl'))
theorem kY (g:Inv G H loc ver w){l:List (Nat × SV)}{a:Act}(m:TRel (envOf G H loc ver w) N l a){fn:Func}{vs:List SV}(h:yR P l H fn.results.toList=some vs):
  ∃v,(results fn a.tmps).run P w= .ok v w/\Rel (envOf G H loc ver w) (zN vs) v:=by
 obtain ⟨o,c,f⟩:=Ae (P:=P) g m h;refine ⟨_,?_,GB f⟩;have n:(fn.results.mapM (Gl a)).run P w= .ok o.toArray w:=by
  rw[Array.mapM_eq_mapM_toList];simp only[Sem.run_map,c,Result.andThen_ok]
 have e:results fn a.tmps=(do
   let vs <- fn.results.mapM (Gl a)
   pure (if h:vs.size=1 then vs[0] else .tuple vs)):=by
  unfold results;congr 1
 rw[e,Sem.run_bind,n];rfl
theorem Reads.flat {w:World}{ok ok':Nat->Prop}{t:Ty}(c:t.flat=true){x:t.T}{cs:List Value}(h:Reads w ok t x cs):Reads w ok' t x cs:=by
 induction t generalizing cs with
 | int k=>exact h
 | bool=>exact h
 | str=>exact h
 | slice t _=>cases c
 | pair a b iha ihb=>
  simp only[Ty.flat,aG] at c;obtain ⟨f,g,e,m,n⟩:=h;exact ⟨f,g,e,iha c.1 m,ihb c.2 n⟩
theorem Gm (hG:∀b,¬G.mine b)(hI:Inv G H loc ver w){s:SV}{v:Value}(h:Rel (envOf G H loc ver w) s v):Rel (iD w fun b=>G.w0.heap.size<=b/\b<w.heap.size) (Ep H s) v:=by
 cases h with
 | ref nm k v hn h0 hk hv=>
  simp only[Ep];cases ho:bX H nm with
  | vec j t xs e=>
   simp only;cases C:(Nat.beq j k&&t.flat) with
   | false=>exact .any v
   | true=>
    obtain ⟨J,h2⟩:=and2 C;obtain rfl:=bM.1 J;have u:=bB ho si;have W:=hI.objs nm _ u;have:=hv W.1.symm;subst this;obtain ⟨_,_,f,o,vs,x,z⟩:=W;refine .seq t xs _ ?_;rcases cW x with ⟨e1,e2,e3,e4⟩ | ⟨g,cur,e1,e2,e3,e4,e5,e6,e7⟩
    ·exact ⟨none,0,0,by simp[Core.head,envOf,e1,e2,e3],om,aI _,aF _,fun h=>absurd h (iQ _)⟩
    have a2:Owned H loc g:=⟨nm,_,u,by simp[Owns,e1]⟩;have D:G.w0.heap.size<=g:=by
     rcases hI.own g a2 with h | h
     ·exact (hG g h).elim
     exact h
    have E:g<w.heap.size:=(aH.1 e3).1;refine ⟨some ⟨g,0,none⟩,(loc nm).len,(loc nm).cap,by simp[Core.head,envOf,e1],f,e4,o,fun h0=>⟨g,0,rfl,⟨D,E⟩,fun i hi=>⟨_,(z i hi).length,?_,(z i hi).flat h2⟩⟩⟩;intro j v F;rw[aL] at F;split at F
    ·rw[aX,<- e7,aL] at F;split at F
     ·have B:w.heap[g]? =some (.cells cur _ (0,0)):=e3;simp only[iD,World.cell?,B];simpa using F
     cases F
    cases F
  | vv j s t xss pd eo ei=>
   cases pd with
   | some p=>exact .any v
   | none=>
   cases C:Nat.beq j k with
   | false=>simp only[C,cM];exact .any v
   | true=>
    simp only[C,bP];obtain rfl:=bM.1 C;have u:=bB ho si;have W:=hI.objs nm _ u;have:=hv W.1.symm;subst this;obtain ⟨_,_,_,f,o,⟨vs,x,z⟩,a7,c⟩:=W;have Z:∀b,Owns (loc nm) (.vv j s t xss none eo ei) b->G.w0.heap.size<=b:=fun b C=>by
     rcases hI.own b ⟨nm,_,u,C⟩ with h | h
     ·exact (hG b h).elim
     exact h
    refine .seq (.slice t) xss _ ?_;rcases cW x with ⟨e1,e2,e3,e4⟩ | ⟨g,cur,e1,e2,e3,e4,e5,e6,e7⟩
    ·exact ⟨none,0,0,by simp[Core.head,envOf,e1,e2,e3],om,aI _,aF _,fun h=>absurd h (iQ _)⟩
    have D:G.w0.heap.size<=g:=Z g (.inl (by simp[e1]));have E:g<w.heap.size:=(aH.1 e3).1;refine ⟨some ⟨g,0,none⟩,(loc nm).len,(loc nm).cap,by simp[Core.head,envOf,e1],f,e4,o,fun h0=>⟨g,0,rfl,⟨D,E⟩,fun i hi=>⟨[(loc nm).sub.rows i],rfl,?_,?_⟩⟩⟩
    ·intro q v y;have a5:q=0:=by
      have:=(aK.1 y).1;simpa using this
     subst a5;have J:=z i hi;rw[<- e7,aL] at J;split at J
     ·have B:w.heap[g]? =some (.cells cur _ (0,0)):=e3;simp only[iD,World.cell?,B];simp only[jG,jE] at y;subst y;simpa [Ty.size] using J
     cases J
    have a0:i<xss.length:=by rw[<- f];exact hi
    obtain ⟨rs,r1,r2,r3⟩:=c.row i a0 (fun _ _ hp=>by cases hp);have a6:=c.short i a0;show Reads w _ (.slice t) (xss.getD i []) _;rcases r1.2 with ⟨f1,f2⟩ | ⟨A,a1,K,f1,_,f3,f4,f5,f6,f7⟩
    ·have a4:(xss.getD i []).length=0:=f2;exact ⟨none,0,0,by rw[f1],a4.symm,aI _,aF _,fun h=>absurd h (iQ _)⟩
    have a3:(loc nm).al A:=r2 A (by rw[f1];rfl);have X:G.w0.heap.size<=A:=Z A (.inr a3);have f3:w.heap[A]? =some (.cells K ei (0,0)):=f3;have Y:A<w.heap.size:=(aH.1 f3).1;refine ⟨some ⟨A,0,none⟩,(xss.getD i []).length,a1,by rw[f1],rfl,f4,a6,fun h0=>⟨A,0,rfl,⟨X,Y⟩,fun m hm=>⟨_,(r3 m hm).length,?_,(r3 m hm).flat c.flat⟩⟩⟩;intro q v y;rw[aL] at y;split at y
    ·rw[aX,<- f7,aL] at y;split at y
     ·simp only[iD,World.cell?,f3];simpa using y
     cases y
    cases y
  | _=>exact .any v
 | val _ h=>exact .val v h
 | bl p d=>exact .bl p d
 | str s h=>exact .str s h
 | ifc _ h=>exact .ifc v h
 | num k n h=>exact .num k n h
 | _=>exact .any _
theorem Dm (c:∀b,¬G.mine b)(e:Inv G H loc ver w):∀ {l:List SV} {vs:List Value},RelL (envOf G H loc ver w) l vs->RelL (iD w fun b=>G.w0.heap.size<=b/\b<w.heap.size) (l.map (Ep H)) vs
 | _,_,.nil=>.nil
 | _,_,.cons _ _ _ _ h hl=>.cons _ _ _ _ (Gm c e h) (Dm c e hl)
theorem Mt (c:∀b,¬G.mine b)(e:Inv G H loc ver w):∀ {l:List SV} {vs:List Value},RelL (envOf G H loc ver w) l vs->RelL (iD w fun b=>G.w0.heap.size<=b/\b<w.heap.size) (l.map fun s=>match s with
   | .agg l=>.agg (l.map (Ep H))
   | s=>Ep H s) vs
 | _,_,.nil=>.nil
 | _,_,.cons s _ _ _ h hl=>by
  refine .cons _ _ _ _ ?_ (Mt c e hl);cases s with
  | agg l=>cases h with
   | agg _ vs hl=>exact .agg _ _ (Dm c e hl)
  | _=>exact Gm c e h
theorem BU (c:∀b,¬G.mine b)(e:Inv G H loc ver w){s:SV}{v:Value}(h:Rel (envOf G H loc ver w) s v):Rel (iD w fun b=>G.w0.heap.size<=b/\b<w.heap.size) (I3 H s) v:=by
 cases s with
 | agg l=>cases h with
  | agg _ vs hl=>exact .agg _ _ (Dm c e hl)
 | tup l=>cases h with
  | tup _ vs hl=>exact .tup _ _ (Mt c e hl)
 | _=>exact Gm c e h
end
section
variable {P:Program}
theorem sI {G:Ctx}{fn:Func}{tmps:Array Value}{R:Ending->World->Prop}{H:List HO}{loc:Nat->Loc}{ver:Nat->Nat}:∀(f:List Nat) {w:World},Inv G H loc ver w->f.Nodup->
  (∀D∈f,G.w0.heap.size<=D/\G.itr.n0<=D/\¬Jl H loc D/\w.heap[D]? =some (.deferred (some [])))->
  (∀w',Inv G H loc ver w'->(∀s v,Rel (envOf G H loc ver w) s v->Rel (envOf G H loc ver w') s v)->∃v,(results fn tmps).run P w'= .ok v w'/\R (.returned v) w')->LeavesInM Fence.wide 0 P fn tmps R (f.map Dl) .returning w
 | [],w,hI,_,_,hR=>by
  obtain ⟨v,n,u⟩:=hR w hI fun _ _ h=>h;exact ⟨v,n,u⟩
 | D::f,w,hI,hnd,hD,hR=>by
  obtain ⟨n,u,z,x⟩:=hD D (cQ ..);refine ⟨si,.inl ⟨D,_,rfl,run_takeDeferred x,?_⟩⟩;have c:=List.nodup_cons.1 hnd;have m:=hI.book (o:=.deferred none) x n u z;refine sI f m.1 c.2 (fun y g=>?_) fun w' A B=>hR w' A fun s v h=>B s v (m.2 s v h);obtain ⟨C,E,F,J⟩:=hD y (cC _ g);exact ⟨C,E,F,(World.putObj_heap_other (fun e=>c.1 (by rw[<- e];exact g))).trans J⟩
theorem xQ {G:Ctx}{fn:Func}{tmps:Array Value}{R:Ending->World->Prop}{H:List HO}{loc:Nat->Loc}{ver:Nat->Nat}:∀(f:List Nat) {w:World},Inv G H loc ver w->f.Nodup->
  (∀D∈f,G.w0.heap.size<=D/\G.itr.n0<=D/\¬Jl H loc D/\w.heap[D]? =some (.deferred (some [])))->
  (∀w',Inv G H loc ver w'->(∀s v,Rel (envOf G H loc ver w) s v->Rel (envOf G H loc ver w') s v)->w'.heap.size=w.heap.size->(∀b,¬b∈f->w'.heap[b]? =w.heap[b]?)->∃v,(results fn tmps).run P w'= .ok v w'/\R (.returned v) w')->LeavesInM Fence.wide 0 P fn tmps R (f.map Dl) .returning w
 | [],w,hI,_,_,hR=>by
  obtain ⟨v,n,u⟩:=hR w hI (fun _ _ h=>h) rfl fun _ _=>rfl;exact ⟨v,n,u⟩
 | D::f,w,hI,hnd,hD,hR=>by
  obtain ⟨n,u,A,x⟩:=hD D (cQ ..);refine ⟨si,.inl ⟨D,_,rfl,run_takeDeferred x,?_⟩⟩;have c:=List.nodup_cons.1 hnd;have m:=hI.book (o:=.deferred none) x n u A;refine xQ f m.1 c.2 (fun z g=>?_) fun w' B C E F=>hR w' B (fun s v h=>C s v (m.2 s v h)) (by rw[E];simp) fun b y=>?_
  ·obtain ⟨J,K,W,X⟩:=hD z (cC _ g);exact ⟨J,K,W,(World.putObj_heap_other (fun e=>c.1 (by rw[<- e];exact g))).trans X⟩
  exact (F b fun h=>y (cC _ h)).trans (World.putObj_heap_other fun e=>y (by subst e;exact cQ ..))
theorem ExtO.late {G:Ctx}{D:List Nat}{n H:List HO}{e loc:Nat->Loc}{f ver:Nat->Nat}{m w w':World}(x:Inv G n e f m)(c:ExtO D (envOf G n e f m) (envOf G H loc ver w))(J:w'.heap.size=w.heap.size)(y:∀b,b<m.heap.size->w'.heap[b]? =w.heap[b]?):ExtO D (envOf G n e f m) (envOf G H loc ver w'):=by
 refine ⟨fun b g=>(y b g.2.1).trans (c.blk b g),fun b g=>?_,c.num,c.ver,by have:=c.size;show m.heap.size<=w'.heap.size;rw[J];exact this,fun k o A B g=>(y k (aH.1 B).1).trans (c.keep k o A B g),fun C b z=>?_,c.gho',c.ali,c.itr,c.sub⟩
 ·obtain ⟨s,u,F⟩:=c.ok b g;exact ⟨s,by have E:b<w.heap.size:=u;show b<w'.heap.size;omega,F⟩
 obtain ⟨s,u⟩:=c.gho C b z;exact ⟨s,(y b ((x.objs C _ z.1).2 b z.2)).trans u⟩
theorem ExtO.ext {D:List Nat}{G:Ctx}{n H:List HO}{e loc:Nat->Loc}{f ver:Nat->Nat}{s w:World}(g:Inv G n e f s)(o:Inv G H loc ver w)(c:ExtO D (envOf G n e f s) (envOf G H loc ver w))(u:∀nm,lE n nm=true->mem nm D=false):Ext (envOf G n e f s) (envOf G H loc ver w):=
 ⟨⟨c.blk,c.ok,c.num,fun nm m=>c.ver nm m (u nm m),o.os.trans g.os.symm,o.tape.trans g.tape.symm,o.output.trans g.output.symm,c.size,c.ali,c.itr,fun nm m x=>c.sub nm m (u nm m) x⟩,c.keep,c.gho,c.gho'⟩
theorem Fc {Γ:List Con}(hΓ:∀c∈Γ,aM P c){A:Anns}{f:FuncId}{fn:Func}(hf:P.funcs[f]? =some fn){args:List SV}{H:List HO}{R:SV->List HO->Prop}(hn:args.length<=fn.ntmps)(h:DW P Γ A fn args H R):F7 P f args H R:=by
 intro G loc ver w vs hY m hr;unfold DW at h;cases hc:fn.body with
 | none=>rw[hc] at h;cases h
 | some c=>
  rw[hc] at h;obtain ⟨X,h⟩:=h;refine (callsIn_wide (n:=0)).1 (callsIn_of_wp_marks hf hc trivial ?_);have hT:=uA (N:=fn.ntmps) hr hn;refine wpIn_mono (rN hY hΓ c 0 (F:=Fence.wide) (n:=0) ⟨none,rfl⟩ m hT (fun l hl=>by cases hl) h) ?_;rintro e a' w' ⟨l',H',loc',ver',h1,h2,h3,h4,h5,Ds,h6,h7,h8⟩;have g:finH.endH P fn.results.toList R H l' H'->LeavesInM Fence.wide 0 P fn a'.tmps (fun e w'=>∃v,e= .returned v/\Res G (envOf G H loc ver w) R v w') a'.defers .returning w':=by
   intro z;rw[h6,eH];refine xQ Ds h2 h7 (fun D y=>⟨bA m.size (h8 D y).1,bA (bA G.low m.size) (h8 D y).1,(h8 D y).2.1,(h8 D y).2.2⟩) fun w2 h9 B C E=>?_;unfold finH.endH at z;split at z;case h_2=>cases z
   rename_i us hu;obtain ⟨s,H2,hR,hp,u,a0,K,hH⟩:=z;have J:TRel (envOf G H' loc' ver' w2) fn.ntmps l' a':=⟨h3.size,fun t=>B _ _ (h3.rel t)⟩;obtain ⟨v,k1,k2⟩:=kY (P:=P) h9 J hu;have hS:EntS [] H' H2 H.length:=pL hH;obtain ⟨o,x⟩:=uM h9 om hS;have Z:=ExtO.late m h4 C fun b hb=>E b fun hm=>by have a1:w.heap.size<=b:=(h8 b hm).1;omega
   have Y:=uO Z om (fun nm W=>uN K W) X hS x;refine ⟨v,k1,v,rfl,s,H2,loc',_,hR,o,?_,ExtO.ext m o Y fun _ _=>rfl⟩;exact Rel.plain (lF u k2) hp
  cases e with
  | normal=>exact g h1
  | ret=>exact g h1
  | _=>cases h1
theorem Mv {ok:Nat->Prop}{c:World}{s:∀b,ok b->b<c.heap.size}{H:List HO}{loc:Nat->Loc}{ver:Nat->Nat}{w:World}{N:Nat}{l:List (Nat × SV)}{a:Act}{fn:Func}{fresh:Bool}{r:SV}(f:Inv (Fb c ok s) H loc ver w)(A:TRel (envOf (Fb c ok s) H loc ver w) N l a)(e:bare r=true)(h:N8 P fresh fn.results.toList r l H):
  ∃v,(results fn a.tmps).run P w= .ok v w/\Below c.heap.size c w/\Rel (iD w fun b=>(fresh=false/\ok b)\/(c.heap.size<=b/\b<w.heap.size)) r v:=by
 have o:Below c.heap.size c w:=⟨f.os,f.tape,f.output,f.size,fun b e=>f.frame b e fun h=>h⟩;unfold N8 at h;split at h;case h_2=>cases h
 rename_i vs C;obtain ⟨v,B,g⟩:=kY (P:=P) f A C;refine ⟨v,B,o,?_⟩;cases fresh with
 | true=>
  simp only[bP] at h;have u:=lF h (BU (fun _ h=>h) f g);exact Rel.bare (E:=iD w fun b=>c.heap.size<=b/\b<w.heap.size) (E':=iD w fun b=>(true=false/\ok b)\/(c.heap.size<=b/\b<w.heap.size)) (fun _ _ _ h _=>h) (fun b e=>Or.inr e) u e
 | false=>
  simp only[cM,cD] at h;obtain ⟨m,x⟩:=sA vs f;have u:=Qm (H:=jO H vs) (lend:=false) (Ext.refl _) (fun _ _ _ h=>wO m h) (fun y k v h=>lZ m h) (fun y k i v _=>mU y k i v) (fun y v h=>rZ m (Ext.refl _) (.inl rfl) h) (g.ext x);have z:=lF h u;refine Rel.bare (E:=envOf _ (jO H vs) loc ver w) (E':=iD w _) (fun _ _ _ h _=>h) (fun b e=>?_) z e;rcases e.1 with n | n | n
  ·exact .inl ⟨rfl,n⟩
  ·cases n
  exact .inr ⟨n,e.2.1⟩
theorem Ir {Γ:List Con}(hΓ:∀c∈Γ,aM P c){A:Anns}{fresh:Bool}{f:FuncId}{fn:Func}(hf:P.funcs[f]? =some fn){args:List SV}{r:SV}(hn:args.length<=fn.ntmps)(B:bare r=true)(h:body P Γ A fresh fn args r):Tri P fresh f args r:=by
 intro y w vs J g hr;unfold body at h;cases hc:fn.body with
 | none=>rw[hc] at h;cases h
 | some c=>
  rw[hc] at h;refine (callsIn_wide (n:=0)).1 (callsIn_of_wp_marks hf hc trivial ?_);have hI:=Qu y g;have X:RelL (envOf (Fb w y g) [] (fun _=>zT none 0 0) (fun _=>0) w) args vs:=by
   refine RelL.move (E:=iD w y) (E':=envOf (Fb w y g) [] (fun _=>zT none 0 0) (fun _=>0) w) (p:=fun m=>Nat.blt m 0) (fun nm K _=>by simp at K) (fun nm K=>by simp at K) (fun h=>by cases h) (fun _ _ _ h _=>h) (fun b B=>⟨.inl B,g b B,fun ⟨nm,o,h,_⟩=>by simp at h⟩) hr hr.under
  have hT:=uA (N:=fn.ntmps) X hn;have hY:COK P (Fb w y g):=⟨(fun k M W us hk=>by cases hk),J⟩;refine wpIn_mono (rN hY hΓ c 0 (F:=Fence.wide) (n:=0) ⟨none,rfl⟩ hI hT (fun l hl=>by cases hl) h) ?_;rintro e a' w' ⟨l',H',loc',ver',h1,h2,h3,h4,h5,Ds,h6,h7,h8⟩;have x:∀ {R:Ending->World->Prop},(∀u,Inv (Fb w y g) H' loc' ver' u->TRel (envOf (Fb w y g) H' loc' ver' u) fn.ntmps l' a'->∃v,(results fn a'.tmps).run P u= .ok v u/\R (.returned v) u)->LeavesInM Fence.wide 0 P fn a'.tmps R a'.defers .returning w':=by
   intro R hR;rw[h6,eH];exact sI Ds h2 h7 (fun D C=>⟨(h8 D C).1,aF _,(h8 D C).2.1,(h8 D C).2.2⟩) fun u z s=>hR u z ⟨h3.size,fun t=>s _ _ (h3.rel t)⟩
  cases e with
  | normal=>
   refine x fun u z s=>?_;obtain ⟨v,Y,Z,k9⟩:=Mv z s B h1;exact ⟨v,Y,v,rfl,Z,k9⟩
  | ret=>
   refine x fun u z s=>?_;obtain ⟨v,Y,Z,k9⟩:=Mv z s B h1;exact ⟨v,Y,v,rfl,Z,k9⟩
  | _=>cases h1
theorem dH {Γ:List Con}(hΓ:∀c∈Γ,aM P c){A:Anns}{f:FuncId}{fn:Func}(hf:P.funcs[f]? =some fn){z:Nat}{x:Bool}{args:List SV}{t:Ty}{xs:List t.T}{e:TypeId}{r:SV}{ys:List t.T}(hn:args.length<=fn.ntmps)(b8:true=true)(h:wF P Γ A fn z x args t xs e r ys):S3 P f z x args t xs e r ys:=by
 intro ok w vs L a9 C b7 a4 hr a3;unfold wF at h;cases hc:fn.body with
 | none=>rw[hc] at h;cases h
 | some c=>
  rw[hc] at h;refine (callsIn_wide (n:=0)).1 (callsIn_of_wp_marks hf hc trivial ?_);obtain ⟨G,g⟩:∃G:Ctx,G= ⟨w,ok,fun b=>L.blk.map (·.1)=some b,fun b y Z=>(C b y).2 Z,fun b s=>(C b s).1,OA,aF _⟩:=⟨_,rfl⟩;obtain ⟨r1,r2,rs,r3,r4⟩:=a4;have Y:∀b,Owned [HO.vec 1 t xs e] (fun _=>L) b->L.blk.map (·.1)=some b:=by
   rintro b ⟨nm,o,y,Z⟩;cases nm with
   | zero=>simp at y;subst y;exact Z
   | succ k=>simp at y
  have X:∀b,ok b->qW G [HO.vec 1 t xs e] (fun _=>L) w b:=fun b s=>⟨.inl (by rw[g];exact s),(C b s).1,fun ho=>(C b s).2 (Y b ho)⟩;have hI:Inv G [HO.vec 1 t xs e] (fun _=>L) (fun _=>1) w:=by
   refine ⟨by rw[g];exact aI _,by rw[g],by rw[g],by rw[g],fun b _ _=>by rw[g],fun nm o ho=>?_,fun b s=>.inl (by rw[g];exact Y b s),fun nm b5 o o' b y Z _ _=>?_⟩
   ·cases nm with
    | zero=>
     simp at ho;subst ho;exact ⟨rfl,Nat.one_pos,r1,r2,rs,r3,fun i hi=>(r4 i hi).mono (fun _ _ _ h=>h) X⟩
    | succ k=>simp at ho
   cases nm with
   | zero=>cases b5 with
    | zero=>rfl
    | succ k=>simp at Z
   | succ k=>simp at y
  have b3:RelL (envOf G [HO.vec 1 t xs e] (fun _=>L) (fun _=>1) w) args vs:=
   RelL.move (E:=iD w ok) (E':=envOf G [HO.vec 1 t xs e] (fun _=>L) (fun _=>1) w) (p:=fun m=>Nat.blt m 0) (fun nm hp _=>by simp at hp) (fun nm hp=>by simp at hp) (fun h=>by cases h) (fun _ _ _ h _=>h) X hr hr.under
  have b4:RelL (envOf G [HO.vec 1 t xs e] (fun _=>L) (fun _=>1) w) (args.set z (.ref 0 1)) vs:=by
   have hh:Rel (envOf G [HO.vec 1 t xs e] (fun _=>L) (fun _=>1) w) (.ref 0 1) L.head:=.ref 0 1 _ (by rfl) Nat.one_pos (aI _) fun _=>rfl;have:=b3.set z hh;obtain ⟨b1,he⟩:=aK.1 a3;rwa [show vs.set z L.head=vs from by rw[<- he];exact qZ b1] at this
  have hT:=uA (N:=fn.ntmps) b4 (by simpa using hn);have hY:COK P G:=by rw[g];exact ⟨(fun k M W us hk=>by cases hk),a9⟩
  have a7:RoundOK Fence.wide (envOf G [HO.vec 1 t xs e] (fun _=>L) (fun _=>1) w):=fun l hl=>by cases hl
  refine wpIn_mono (rN hY hΓ c 0 (F:=Fence.wide) (n:=0) ⟨none,rfl⟩ hI hT a7 h) ?_;rintro en a' B ⟨l',H',loc',ver',y,Z,h3,h4,h5,Ds,h6,h7,h8⟩;have a1:G.w0.heap.size=w.heap.size:=by rw[g]
  have a5:G.itr.n0=0:=by rw[g];rfl
  have K:finL.endL P A c x fn.results.toList r t ys e l' H'->LeavesInM Fence.wide 0 P fn a'.tmps (fun en B=>∃v L',en= .returned v/\(B.os=w.os/\B.tape=w.tape/\B.output=w.output/\w.heap.size<=B.heap.size/\∀b,b<w.heap.size->L.blk.map (·.1)≠some b->B.heap[b]? =w.heap[b]?)/\
   (x=true->L'=L)/\(∀b,L'.blk.map (·.1)=some b->L.blk.map (·.1)=some b\/w.heap.size<=b)/\F6 B (fun b=>(ok b\/L.blk.map (·.1)=some b\/w.heap.size<=b)/\b<B.heap.size/\L'.blk.map (·.1)≠some b) L' t ys e/\((r= .ref 0 1/\v=L'.head)\/(plain r=true/\Rel (iD B fun _=>False) r v))) a'.defers .returning B:=by
   intro he;rw[h6,eH];refine sI Ds Z h7 (fun D hD=>⟨by rw[a1];exact (h8 D hD).1,by rw[a5];exact aF _,(h8 D hD).2.1,(h8 D hD).2.2⟩) fun w2 J a6=>?_;unfold finL.endL at he;split at he;case h_2=>cases he
   rename_i us k t' zs e' hu ho;obtain ⟨q1,rfl,q2,q3⟩:=he;have a8:TRel (envOf G H' loc' ver' w2) fn.ntmps l' a':=⟨h3.size,fun t=>a6 _ _ (h3.rel t)⟩;obtain ⟨v,k7,k8⟩:=kY (P:=P) J a8 hu;have hq:=rJ q2;cases hq;have a0:=bB ho si;obtain ⟨o1,o2,o3,o4,b6,o5,o6⟩:=J.objs 0 _ a0;have o1:ver' 0=k:=o1;refine ⟨v,k7,v,⟨(loc' 0).toCore,L.al,L.sub⟩,rfl,⟨?_,?_,?_,?_,?_⟩,?_,?_,⟨o3,o4,b6,o5,fun i hi=>(o6 i hi).mono (fun _ _ _ h=>h) fun b s=>⟨by have a2:G.ok0 b\/G.mine b\/G.w0.heap.size<=b:=s.1;rw[g] at a2;exact a2,s.2.1,fun e1=>s.2.2 ⟨0,_,a0,e1⟩⟩⟩,?_⟩
   ·have:=J.os;rw[g] at this;exact this
   ·have:=J.tape;rw[g] at this;exact this
   ·have:=J.output;rw[g] at this;exact this
   ·have:=J.size;rw[g] at this;exact this
   ·intro b s b2;have:=J.frame b (by rw[a1];exact s) (by rw[g];exact b2);rw[g] at this;exact this
   ·intro hs;rw[hs] at q1;simp only[bP,aG,bM,nA] at q1;rcases h4.ver 0 (by rfl) q1.2 with ⟨_,e2⟩ | ⟨_,e2⟩
    ·have e2:(loc' 0).toCore=L.toCore:=e2;rw[e2]
    have e2:1<ver' 0:=e2;omega
   ·intro b s;rcases J.own b ⟨0,_,a0,s⟩ with h | h
    ·rw[g] at h;exact .inl h
    rw[g] at h;exact .inr h
   split at q3
   ·split at q3
    ·rename_i k' hk;subst q3;rw[hk] at k8;refine .inl ⟨rfl,?_⟩;generalize v=u at k8;cases k8 with
     | ref _ _ _ _ _ _ hh=>exact hh o1.symm
    cases q3
   obtain ⟨q4,q5⟩:=q3;exact .inr ⟨q4,(lF q5 k8).plain q4⟩
  cases en with
  | normal=>exact K y
  | ret=>exact K y
  | _=>cases y
theorem RelL.mapTo {E E':Env}{g:SV->SV}(c:∀s x,Rel E s x->Rel E' (g s) x):∀ {l:List SV} {vs:List Value},RelL E l vs->RelL E' (l.map g) vs
 | _,_,.nil=>.nil
 | _,_,.cons _ _ _ _ h hl=>.cons _ _ _ _ (c _ _ h) (RelL.mapTo c hl)
theorem GC {E E':Env}{g:SV->SV}(c:∀s x,Rel E s x->Rel E' (g s) x){l:List SV}{v:Value}(h:Rel E (zN l) v):Rel E' (zN (l.map g)) v:=by
 match l with
 | []=>cases h with
  | tup _ vs hl=>exact .tup _ _ (by simpa using RelL.mapTo c hl)
 | [a]=>exact c _ _ h
 | a::b::l=>cases h with
  | tup _ vs hl=>exact .tup _ _ (by simpa using RelL.mapTo c hl)
theorem JG {E:Env}{nm k:Nat}{w:World}(e:E.ver nm=k){s:SV}{x:Value}(h:Rel E s x):Rel (Pq w (E.loc nm)) (N9 nm k s) x:=by
 cases s with
 | ref n j=>
  simp only[N9];cases hb:(Nat.beq n nm&&Nat.beq j k) with
  | false=>exact .any x
  | true=>
   simp only[aG,bM] at hb;obtain ⟨rfl,rfl⟩:=hb;cases h with
   | ref _ _ _ _ _ _ hh=>
    have:=hh e.symm;exact .ref 0 1 x (by simp[Pq]) Nat.one_pos (aI _) fun _=>this
 | _=>
  simp only[N9]
  first
  | (split<;>first | exact .any x | exact h.plain (by assumption))
  | (cases c:plain _ with
   | true=>exact h.plain c
   | false=>exact .any x)
theorem gJ {Γ:List Con}(hΓ:∀c∈Γ,aM P c){A:Anns}{f:FuncId}{fn:Func}(hf:P.funcs[f]? =some fn){args:List SV}{r:SV}{t:Ty}{ys:List t.T}{e:TypeId}(hn:args.length<=fn.ntmps)(a5:true=true)(h:wG P Γ A fn args r t ys e):S4 P f args r t ys e:=by
 intro B w vs a0 g hr;unfold wG at h;cases hc:fn.body with
 | none=>rw[hc] at h;cases h
 | some c=>
  rw[hc] at h;refine (callsIn_wide (n:=0)).1 (callsIn_of_wp_marks hf hc trivial ?_);have hI:=Qu B g;have a1:RelL (envOf (Fb w B g) [] (fun _=>zT none 0 0) (fun _=>0) w) args vs:=by
   refine RelL.move (E:=iD w B) (E':=envOf (Fb w B g) [] (fun _=>zT none 0 0) (fun _=>0) w) (p:=fun m=>Nat.blt m 0) (fun X hp _=>by simp at hp) (fun X hp=>by simp at hp) (fun h=>by cases h) (fun _ _ _ h _=>h) (fun b y=>⟨.inl y,g b y,fun ⟨X,o,h,_⟩=>by simp at h⟩) hr hr.under
  have hT:=uA (N:=fn.ntmps) a1 hn;have hY:COK P (Fb w B g):=⟨(fun k M W us hk=>by cases hk),a0⟩;refine wpIn_mono (rN hY hΓ c 0 (F:=Fence.wide) (n:=0) ⟨none,rfl⟩ hI hT (fun l hl=>by cases hl) h) ?_;rintro en a' Y ⟨l',H',loc',ver',h1,h2,h3,h4,h5,Ds,h6,h7,h8⟩;have C:finO.endO P fn.results.toList r t ys e l' H'->LeavesInM Fence.wide 0 P fn a'.tmps (fun en Y=>∃v L',en= .returned v/\Below w.heap.size w Y/\(∀b,L'.blk.map (·.1)=some b->w.heap.size<=b)/\F6 Y (fun b=>(B b\/w.heap.size<=b)/\b<Y.heap.size/\L'.blk.map (·.1)≠some b) L' t ys e/\Rel (Pq Y L') r v) a'.defers .returning Y:=by
   intro z;rw[h6,eH];refine sI Ds h2 h7 (fun D hD=>⟨(h8 D hD).1,aF _,(h8 D hD).2.1,(h8 D hD).2.2⟩) fun w2 u Z=>?_;unfold finO.endO at z;split at z;case h_2=>cases z
   rename_i us hu;split at z;case h_2=>
    split at z;case h_2=>cases z
    obtain ⟨a2,a3⟩:=z;have J:TRel (envOf (Fb w B g) H' loc' ver' w2) fn.ntmps l' a':=⟨h3.size,fun t=>Z _ _ (h3.rel t)⟩;obtain ⟨v,k7,k8⟩:=kY (P:=P) u J hu;have hv:v= .slice none 0 0:=by
     have k8:Rel _ (.val (.slice none 0 0)) v:=k8;cases k8;rfl
    subst a2;refine ⟨v,k7,v,zT none 0 0,rfl,⟨u.os,u.tape,u.output,u.size,fun b y=>u.frame b y fun h=>h⟩,fun b y=>(by simp at y),⟨a3.symm,aF _,[],⟨si,.inl ⟨rfl,rfl⟩⟩,fun i hi=>absurd hi (aT _)⟩,?_⟩;exact .ref 0 1 v (by simp[Pq]) Nat.one_pos (aI _) fun _=>by rw[hv];rfl
   rename_i X k a6;split at z;case h_2=>cases z
   rename_i k' t' zs e' ho;obtain ⟨rfl,rfl,q2,q3⟩:=z;have J:TRel (envOf (Fb w B g) H' loc' ver' w2) fn.ntmps l' a':=⟨h3.size,fun t=>Z _ _ (h3.rel t)⟩;obtain ⟨v,k7,k8⟩:=kY (P:=P) u J hu;have hq:=rJ q2;cases hq;have K:=bB ho si;obtain ⟨o1,o2,o3,o4,a4,o5,o6⟩:=u.objs X _ K;refine ⟨v,k7,v,loc' X,rfl,⟨u.os,u.tape,u.output,u.size,fun b y=>u.frame b y fun h=>h⟩,?_,⟨o3,o4,a4,o5,fun i hi=>(o6 i hi).mono (fun _ _ _ h=>h) fun b y=>⟨by rcases y.1 with h | h | h;(· exact .inl h);(· exact h.elim);(· exact .inr h),y.2.1,fun e1=>y.2.2 ⟨X,_,K,e1⟩⟩⟩,?_⟩
   ·intro b y;rcases u.own b ⟨X,_,K,y⟩ with h | h
    ·cases h
    exact h
   exact lF q3 (GC (fun s x hs=>JG (E:=envOf (Fb w B g) H' loc' ver' w2) o1 hs) k8)
  cases en with
  | normal=>exact C h1
  | ret=>exact C h1
  | _=>cases h1
theorem tN {Γ:List Con}(hΓ:∀c∈Γ,aM P c){A:Anns}{f:FuncId}{fn:Func}(hf:P.funcs[f]? =some fn){args:List SV}{n:Nat}{g:Nat->List SV}(hn:args.length+1<=fn.ntmps)(h:Qh P Γ A fn args n g):I7 P f args n g:=by
 intro x w vs l J a0 sf b4 a3 hr b7 a9 hy a7;unfold Qh at h;cases hc:fn.body with
 | none=>rw[hc] at h;cases h
 | some c=>
  rw[hc] at h;refine (callsIn_wide (n:=0)).1 (callsIn_of_wp_marks hf hc trivial ?_);obtain ⟨G,s⟩:∃G:Ctx,G= ⟨w,x,fun b=>b<w.heap.size/\¬x b,fun b y h2=>h2.2 y,a3,⟨true,l,w.heap.size,x,n,g,J,a9,a0,sf,b7⟩,aI _⟩:=⟨_,rfl⟩;have Y:∀b,Owned [HO.yst (some 0) n g] (fun _=>(⟨⟨none,0,0⟩,fun b=>b<w.heap.size/\¬x b,Ph⟩:Loc)) b->b<w.heap.size/\¬x b:=by
   rintro b ⟨nm,o,y,h2⟩;cases nm with
   | zero=>simp at y;subst y;exact h2
   | succ k=>simp at y
  have B:∀b,x b->qW G [HO.yst (some 0) n g] (fun _=>(⟨⟨none,0,0⟩,fun b=>b<w.heap.size/\¬x b,Ph⟩:Loc)) w b:=fun b K=>⟨.inl (by rw[s];exact K),a3 b K,fun W=>(Y b W).2 K⟩;have hI:Inv G [HO.yst (some 0) n g] (fun _=>(⟨⟨none,0,0⟩,fun b=>b<w.heap.size/\¬x b,Ph⟩:Loc)) (fun _=>1) w:=by
   refine ⟨by rw[s];exact aI _,by rw[s],by rw[s],by rw[s],fun b _ _=>by rw[s],fun nm o W=>?_,fun b K=>.inl (by rw[s];exact Y b K),fun nm b9 o o' b y h2 _ _=>?_⟩
   ·cases nm with
    | zero=>
     simp at W;subst W;refine ⟨Nat.one_pos,fun b K=>K.1,by rw[s];exact aI _,by rw[s];rfl,by rw[s];rfl,fun b K hl=>?_,?_⟩
     ·have b1:b<w.heap.size:=by rw[s] at K;exact K
      have a2:x b:=aS fun b5=>hl ⟨b1,b5⟩;exact ⟨by rw[s];exact a2,B b a2⟩
     rw[s];refine cast (aR (fun M=>J (some 0) M w) (funext fun b=>propext ⟨fun h=>h.elim,?_⟩)) a7;rintro ⟨h8,h9,_⟩;have b':w.heap.size<=b:=h8;have c0:b<w.heap.size:=h9;omega
    | succ k=>simp at W
   cases nm with
   | zero=>cases b9 with
    | zero=>rfl
    | succ k=>simp at h2
   | succ k=>simp at y
  have b6:RelL (envOf G [HO.yst (some 0) n g] (fun _=>(⟨⟨none,0,0⟩,fun b=>b<w.heap.size/\¬x b,Ph⟩:Loc)) (fun _=>1) w) args vs:=
   by
    cases a0 with
    | false=>
     exact RelL.move (E:=iD w x) (E':=envOf G [HO.yst (some 0) n g] (fun _=>(⟨⟨none,0,0⟩,fun b=>b<w.heap.size/\¬x b,Ph⟩:Loc)) (fun _=>1) w) (p:=fun m=>Nat.blt m 0) (fun nm hp _=>by simp at hp) (fun nm hp=>by simp at hp) (fun h=>by cases h) (fun _ _ _ h _=>h) B hr hr.under
    | true=>
     obtain ⟨rfl,c,o,b2,b3,rfl⟩:=hr;refine .cons _ _ _ _ (.lelem _ 0 c o [sf.head] (.cons _ _ _ _ (.sft none _ (by rw[s];rfl) (by rw[s];exact ⟨rfl,rfl⟩)) .nil) (B c b2) ?_) .nil;intro j u hj;cases j with
     | zero=>simp at hj;subst hj;exact b3
     | succ j=>simp at hj
  have b8:Rel (envOf G [HO.yst (some 0) n g] (fun _=>(⟨⟨none,0,0⟩,fun b=>b<w.heap.size/\¬x b,Ph⟩:Loc)) (fun _=>1) w) (.yld 0) (.func (.yield l) #[] #[]):=by
   have:=Rel.yld (E:=envOf G [HO.yst (some 0) n g] (fun _=>(⟨⟨none,0,0⟩,fun b=>b<w.heap.size/\¬x b,Ph⟩:Loc)) (fun _=>1) w) 0 (by rw[s];rfl);rw[s] at this ⊢;exact this
  have hT:=uA (N:=fn.ntmps) (RelL.cons _ _ _ _ b8 b6) (by simpa using hn);have hY:COK P G:=by rw[s];exact ⟨hy,b4⟩
  have a8:RoundOK Fence.wide (envOf G [HO.yst (some 0) n g] (fun _=>(⟨⟨none,0,0⟩,fun b=>b<w.heap.size/\¬x b,Ph⟩:Loc)) (fun _=>1) w):=fun l hl=>by cases hl
  refine wpIn_mono (rN hY hΓ c 0 (F:=Fence.wide) (n:=0) ⟨none,rfl⟩ hI hT a8 h) ?_;rintro e a' w' ⟨l',H',loc',ver',y,h2,h3,h4,h5,Ds,h6,h7,h8⟩;have a5:G.w0.heap.size=w.heap.size:=by rw[s]
  have a4:G.itr.n0=w.heap.size:=by rw[s]
  have X:finI.endI fn.results.toList l' H'->LeavesInM Fence.wide 0 P fn a'.tmps (fun e w'=>(∃v,e= .returned v)/\∃M,J (some n) M w'\/J none M w') a'.defers .returning w':=by
   intro he;rw[h6,eH];refine sI Ds h2 h7 (fun D hD=>⟨by rw[a5];exact (h8 D hD).1,by rw[a4];exact (h8 D hD).1,(h8 D hD).2.1,(h8 D hD).2.2⟩) fun w2 h9 a6=>?_;unfold finI.endI at he;have Z:∀k,fn.results.toList= []->k->∃v,(results fn a'.tmps).run P w2= .ok v w2/\k:=by
    intro k C hk;obtain ⟨v,z,_⟩:=kY (P:=P) (fn:=fn) (vs:=[]) h9 (⟨h3.size,fun t=>a6 _ _ (h3.rel t)⟩:TRel (envOf G H' loc' ver' w2) fn.ntmps l' a') (by rw[C];rfl);exact ⟨v,z,hk⟩
   split at he
   ·rename_i k n' it C W;obtain ⟨v,z,_⟩:=Z True C trivial;obtain ⟨_,_,_,a1,_,_,hJ⟩:=h9.objs 0 _ (bB W si);refine ⟨v,z,⟨v,rfl⟩,fun b=>w.heap.size<=b/\b<w2.heap.size/\¬(loc' 0).al b,.inl ?_⟩;have e1:n'=n:=by rw[s] at a1;exact a1
    rw[s] at hJ;have e2:k=n:=he.trans e1;rw[e2] at hJ;exact hJ
   ·rename_i n' it C W;obtain ⟨v,z,_⟩:=Z True C trivial;obtain ⟨_,_,_,a1,_,_,hJ⟩:=h9.objs 0 _ (bB W si);refine ⟨v,z,⟨v,rfl⟩,fun b=>w.heap.size<=b/\b<w2.heap.size/\¬(loc' 0).al b,.inr ?_⟩;rw[s] at hJ;exact hJ
   cases he
  cases e with
  | normal=>exact X y
  | ret=>exact X y
  | _=>cases y
end
end Go.Eng
end
section
namespace Go.Eng
theorem D8 {k:IntKind}{n:Int}(h:(Lit.int k n).wf=true):inK k n:=by
 cases k<;>simp[Lit.wf,IntKind.min,IntKind.max,IntKind.bits,IntKind.signed] at h<;>simp only[inK,lo,hi]<;>omega
theorem OM {E:Env}{k:IntKind}{n:Int}(h:(Lit.int k n).wf=true):Rel E (.val (.int k n)) (.int k n):=.val _ (D8 h)
theorem JI {E:Env}(b:Bool):Rel E (.val (.bool b)) (.bool b):=.val _ trivial
theorem Af {H:Type}{P:Program}{e:TypeId}:∀ {l:List (DataW H)} {d:DataW H},d∈l->∀n∈d.weights P e,n∈DataW.weightsAll P e l
 | [],_,h,_,_=>by cases h
 | x::l,d,h,n,hn=>by
  simp only[DataW.weightsAll,eT];rcases bY.1 h with rfl | h
  ·exact .inl hn
  exact .inr (Af h n hn)
def okTy (P:Program):Nat->TypeId->Bool
 | 0,_=>false
 | n+1,t=>match P.underlying t with
  | some (.int _)=>true
  | some .bool=>true
  | some .string=>true
  | some (.slice e)=>(match tyOf P n e with
   | some ty=>Nat.beq (P.cellsOf e) ty.size&&(Nat.blt 0 ty.size&&(Nat.blt 0 (P.bytesOf e)&&okTy P n e))
   | none=>false)
  | some (.struct fs)=>okF P n fs.toList 0&&(match tyOf.flds P n fs.toList with
   | some ty=>Nat.beq (P.cellsOf t) ty.size
   | none=>false)
  | _=>false
where okF (P:Program):Nat->List Field->Nat->Bool
 | 0,_,_=>false
 | _+1,[],_=>false
 | n+1,f::r,o=>Nat.beq f.offset o&&((match tyOf P n f.type with
   | some ty=>Nat.beq (P.cellsOf f.type) ty.size
   | none=>false)&&(okTy P n f.type&&(match r with
    | []=>true
    | g::r=>okF P n (g::r) (o+P.cellsOf f.type))))
theorem Yj (b o k:Nat):(⟨b,o,none⟩:Addr).add k= ⟨b,o+k,none⟩:=by unfold Addr.add;split<;>simp_all
section
variable {H:Type} {enc:TypeId × Value->H} {P:Program} {w:World} {base:Nat} {spare:Nat->Bool} {held:Bool}
def RD (H:Type)(enc:TypeId × Value->H)(P:Program)(w:World)(base:Nat)(spare:Nat->Bool)(held:Bool)(n:Nat):Prop:=∀(t:TypeId) (ty:Ty),tyOf P n t=some ty->okTy P n t=true->∀(fuel:Nat) (cs:List Value) (x:DataW H × List MemPlace),
 DataW.trod enc P w base spare held fuel t cs=some x->(∀m∈x.1.weights P t,m<=reachBytes)->∃v:ty.T,Reads w (fun b=>b<w.heap.size) ty v cs
theorem Iw (n:Nat)(z:∀k,k<n->RD H enc P w base spare held k):∀(k:Nat),k<=n->∀(l:List Field) (o:Nat) (ty:Ty),tyOf.flds P k l=some ty->okTy.okF P k l o=true->∀(c:Nat) (cs:List Value) (ys:List (DataW H × List MemPlace)),
  (∀(i:Nat) (f:Field),l[i]? =some f->∃y,ys[i]? =some y/\DataW.trod enc P w base spare held c f.type ((cs.drop f.offset).take (P.cellsOf f.type))=some y/\∀m∈y.1.weights P f.type,m<=reachBytes)->
  ∃v:ty.T,Reads w (fun b=>b<w.heap.size) ty v ((cs.drop o).take ty.size)
 | 0,_,l,o,ty,h1,_,_,_,_,_=>by cases l<;>simp[tyOf.flds] at h1
 | k+1,hk,[],o,ty,h1,_,_,_,_,_=>by simp[tyOf.flds] at h1
 | k+1,hk,[f],o,ty,h1,h2,c,cs,ys,h3=>by
  simp only[tyOf.flds] at h1;simp only[okTy.okF,h1,aG,bM] at h2;obtain ⟨rfl,e2,e3,_⟩:=h2;obtain ⟨y,_,u,x⟩:=h3 0 f rfl;rw[<- e2];exact z k om _ _ h1 e3 c _ y u x
 | k+1,hk,f::g::r,o,ty,h1,h2,c,cs,ys,h3=>by
  simp only[tyOf.flds] at h1;split at h1
  ·rename_i a b A C;cases h1;simp only[okTy.okF,A,aG,bM] at h2;obtain ⟨rfl,e2,e3,e4⟩:=h2;obtain ⟨y,_,u,x⟩:=h3 0 f rfl;obtain ⟨J,e⟩:=z k om _ _ A e3 c _ y u x
   obtain ⟨K,s⟩:=Iw n z k om (g::r) (f.offset+P.cellsOf f.type) b C e4 c cs ys.tail (fun i B D=>by
    obtain ⟨y,E,F⟩:=h3 (i+1) B (by simpa using D)
    exact ⟨y,by rw[List.getElem?_tail];exact E,F⟩)
   rw[e2] at e s;refine ⟨(J,K),(cs.drop f.offset).take a.size,(cs.drop (f.offset+a.size)).take b.size,?_,e,s⟩;simp only[Ty.size];rw[List.take_add,dW]
  cases h1
theorem Mx:∀n,RD H enc P w base spare held n
 | 0=>fun t ty h=>by simp[tyOf] at h
 | n+1=>by
  have ih:∀k,k<n+1->RD H enc P w base spare held k:=fun k hk=>Mx k;intro t ty u B a8 cs x X h4;simp only[tyOf] at u;simp only[okTy] at B;split at u
  ·rename_i k o;cases u;obtain ⟨m,rfl,_,hw⟩:=DataW.trod_int o X;exact ⟨m,rfl,D8 hw⟩
  ·rename_i o;cases u;obtain ⟨b,rfl,_⟩:=DataW.trod_bool o X;exact ⟨b,rfl⟩
  ·rename_i o;cases u;obtain ⟨s,rfl,rfl,_⟩:=DataW.trod_string o X;refine ⟨s.data.toList,si,?_⟩;have:=h4 s.data.toList.length (by simp[DataW.weights]);exact bA this de
  ·rename_i e o;rw[o] at B;simp only at B;cases hE:tyOf P n e with
   | none=>rw[hE] at u;simp at u
   | some te=>
   rw[hE] at u B;simp only[mR,jE] at u;subst u;simp only[aG,bM] at B;obtain ⟨e1,e2,e3,e4⟩:=B;have e2:0<te.size:=by simpa using e2
   have e3:0<P.bytesOf e:=by simpa using e3
   rcases DataW.trod_slice o X with ⟨rfl,_⟩ | ⟨a,len,a1,c,A,m,rfl,rfl,rfl,hb,hl,hm,E,a2,b3,b2⟩
   ·exact ⟨([]:List te.T),Bl _ _ _⟩
   have a9:=h4 ((c.length+A.length)*P.bytesOf e) (by simp[DataW.weights,o]);have K:len<=maxL:=by
    have C:c.length+A.length<=(c.length+A.length)*P.bytesOf e:=eA _ e3;have F:reachBytes<=maxL:=de;omega
   have g:∀i:Nat,∃v:te.T,i<len->∃D,w.cells? base (a.add (i*P.cellsOf e)) (P.cellsOf e)=some D/\Reads w (fun b=>b<w.heap.size) te v D:=by
    intro i;by_cases hi:i<len
    ·have C:=a2 i hi;obtain ⟨y,hy⟩:∃y,c[i]? =some y:=⟨c[i]'(by omega),by simp[E,hi]⟩;rw[hy] at C;cases hc:w.cells? base (a.add (i*P.cellsOf e)) (P.cellsOf e) with
     | none=>rw[hc] at C;simp at C
     | some D=>
      rw[hc] at C;simp only[oD] at C
      obtain ⟨v,hv⟩:=ih n (iK n) e te hE e4 m D y C (fun q hq=>h4 q (by
       simp only[DataW.weights,o,bY,eT]
       exact .inr (.inl (Af (qN.2 ⟨y,kT hy,rfl⟩) q hq))))
      exact ⟨v,fun _=>⟨D,rfl,hv⟩⟩
    exact ⟨te.dflt,fun h=>absurd h hi⟩
   refine ⟨(List.range len).map fun i=>(g i).choose,some a,len,a1,rfl,si,hl,K,fun h0=>?_⟩;obtain ⟨W,Z,a4⟩:=(g 0).choose_spec h0;have a0:a.block<w.heap.size:=by
    have:=World.cells?_block Z om;simpa [Addr.add] using this
   have z:a.spot=none:=by
    obtain ⟨_,_,hg⟩:=World.cells?_some Z;have F:=hg 0 om;obtain ⟨v0,a5⟩:∃v0,W[0]? =some v0:=by
     cases W with
     | nil=>have:=a4.length;simp at this;omega
     | cons v _=>exact ⟨v,rfl⟩
    rw[a5] at F;have:=World.cell?_spot F;simpa [Addr.add] using this
   obtain ⟨b,a7,a'⟩:=a;simp only at z a0;subst z;refine ⟨b,a7,rfl,a0,fun i hi=>?_⟩;obtain ⟨D,hc,hr⟩:=(g i).choose_spec hi;obtain ⟨_,a3,hg⟩:=World.cells?_some hc;refine ⟨D,by rw[hr.length],fun j v hj=>?_,?_⟩
   ·have b1:j<D.length:=(aK.1 hj).1;have F:=hg j om;rw[hj] at F;rw[Yj,Yj] at F;rw[<- e1];exact F
   have:getD (α:=te.T) ((List.range len).map fun i=>(g i).choose) i te.dflt=(g i).choose:=by
    simp[aB,hi]
   rw[this];exact hr
  ·rename_i fs o;rw[o] at B;simp only[aG] at B;obtain ⟨e1,e2⟩:=B;rw[u] at e2;have e2:=bM.1 e2;obtain ⟨xs,m,rfl,rfl,E,a6,Y⟩:=DataW.trod_struct o X
   obtain ⟨v,hv⟩:=Iw n (fun k hk=>ih k om) n (aI _) fs.toList 0 ty u e1 m cs xs (fun i f hf=>by
    have J:fs[i]? =some f:=by simpa using hf
    have C:=Y i f J;have hi:i<xs.length:=by rw[a6];exact (aH.1 J).1
    refine ⟨xs[i],by simp[hi],by rw[C];simp[hi],fun q hq=>h4 q ?_⟩;simp only[DataW.weights,o]
    exact DataW.weights_mem_each (j:=i) (t:=f.type) (d:=xs[i].1) (by simp[J]) (by simp[hi]) q hq)
   refine ⟨v,?_⟩;rw[eN,cZ om] at hv;exact hv
  cases u
end
def U8:(t:Ty)->t.T->Prop
 | .int k,n=>inK k n
 | .bool,_=>True
 | .str,s=>length (α:=UInt8) s<=maxL
 | .pair a b,x=>U8 a x.1/\U8 b x.2
 | .slice t,xs=>length (α:=t.T) xs<=maxL/\∀i,i<length (α:=t.T) xs->U8 t (getD (α:=t.T) xs i t.dflt)
theorem Reads.okd {w:World}{ok:Nat->Prop}{t:Ty}{x:t.T}{cs:List Value}(h:Reads w ok t x cs):U8 t x:=by
 induction t generalizing cs with
 | int k=>exact h.2
 | bool=>trivial
 | str=>exact h.2
 | pair a b iha ihb=>obtain ⟨z,A,rfl,g,m⟩:=h;exact ⟨iha g,ihb m⟩
 | slice t ih=>
  obtain ⟨a,n,c,rfl,o,_,C,e⟩:=h;have s:n=List.length (α:=t.T) x:=o;refine ⟨om,fun i hi=>?_⟩;obtain ⟨b,y,_,_,f⟩:=e om;obtain ⟨B,_,_,u⟩:=f i om;exact ih u
section
variable {H:Type} {enc:TypeId × Value->H} {P:Program} {w:World} {base b0:Nat} {spare:Nat->Bool} {held:Bool} {r:Reach} {t:TypeId} {v:Value} {d:DataW H} {ps:List MemPlace}
theorem arg_int {k:IntKind}(g:P.underlying t=some (.int k))(c:Value.okWide P w r b0 t v)(f:DataW.Trod enc P w base spare held t v d ps):∃n:Int,inK k n/\Rel (iD w fun b=>b<w.heap.size) (.val (.int k n)) v:=by
 obtain ⟨n,rfl,_,_,e⟩:=ChangeShapes.open_int g c f;exact ⟨n,D8 e,OM e⟩
theorem arg_bool (f:P.underlying t=some .bool)(c:Value.okWide P w r b0 t v)(e:DataW.Trod enc P w base spare held t v d ps):∃b:Bool,Rel (iD w fun b=>b<w.heap.size) (.val (.bool b)) v:=by
 obtain ⟨b,rfl,_⟩:=RowKit.open_bool f c e;exact ⟨b,JI b⟩
theorem arg_str (g:P.underlying t=some .string)(c:Value.okWide P w r b0 t v)(f:DataW.Trod enc P w base spare held t v d ps)(n:∀m∈d.weights P t,m<=reachBytes):∃s:Bx,s.length<=maxL/\Rel (iD w fun b=>b<w.heap.size) (.str s) v:=by
 obtain ⟨s,rfl,rfl,_,o⟩:=ChangeMaps.open_string g c f;have e:s.data.toList.length<=maxL:=bA (n s.data.toList.length (by simp[DataW.weights])) de;refine ⟨s.data.toList,e,?_⟩;have:=Rel.str (E:=iD w fun b=>b<w.heap.size) s.data.toList e;simpa using this
theorem arg_slice {e:TypeId}{n:Nat}{ty:Ty}(z:P.underlying t=some (.slice e))(g:Value.okWide P w r b0 t v)(x:DataW.Trod enc P w base spare held t v d ps)(s:tyOf P n t=some (.slice ty))(u:okTy P n t=true)(A:∀m∈d.weights P t,m<=reachBytes):∃xs:List ty.T,U8 (.slice ty) xs/\Rel (iD w fun b=>b<w.heap.size) (.seq ty xs) v:=by
 obtain ⟨a,len,c,rfl⟩:=WideShapes.okWide_slice z g;obtain ⟨f,y⟩:=x;obtain ⟨xs,o⟩:=Mx n t _ s u f _ _ y A;refine ⟨xs,o.okd,.seq _ _ _ ?_⟩;have e:(Value.slice a len c).cells.toList= [.slice a len c]:=by simp[Value.cells]
 rw[e] at o;exact o
theorem weight_of {ts:List TypeId}{ds:List (DataW H)}(h:(DataW.weightsEach P ts ds).all (· <=reachBytes)=true)(j:Nat)(f:ts[j]? =some t)(c:ds[j]? =some d):∀m∈d.weights P t,m<=reachBytes:=
 fun m e=>by simpa using fG.1 h m (DataW.weights_mem_each f c m e)
end
open Go.RowKit in
theorem law_calls {P:Program}{fresh:Bool}{f:FuncId}{args:List SV}(h:Tri P fresh f args (.val (.bool true)))(w:World)(vs:List Value)(c:GW P (fun b=>b<w.heap.size) w)(g:RelL (iD w fun b=>b<w.heap.size) args vs):
  Calls P f ⟨vs⟩ w fun e w'=>e= .returned (.bool true)/\Below w.heap.size w w':=by
 refine (h (fun b=>b<w.heap.size) w vs c (fun _ h=>h) g).mono ?_;rintro e w' ⟨v,rfl,hb,hv⟩;cases hv;exact ⟨rfl,hb⟩
end Go.Eng
end
section
namespace Go.Eng
open Go.RowKit
def plainC:SV->Bool
 | .seq _ _=>true
 | .clo _ [] []=>true
 | s=>plain s
def Er:List SV->Bool
 | []=>true
 | x::r=>plainC x&&Er r
theorem Rel.plainC {E E':Env}(g:E'.w=E.w)(c:∀b,E.ok b->E'.ok b){s:SV}{v:Value}(h:Rel E s v)(e:Eng.plainC s=true):Rel E' s v:=by
 cases s with
 | seq t xs=>
  cases h with
  | seq _ _ _ h=>exact .seq t xs v (by rw[g];exact h.mono (fun _ _ _ h=>h) c)
 | clo f a b=>
  cases a with
  | nil=>
   cases b with
   | nil=>
    cases h with
    | clo _ _ _ va vb ha hb=>
     cases ha;cases hb;exact .clo f [] [] [] [] .nil .nil
   | cons y ys=>exact absurd e (by simp[Eng.plainC,Eng.plain])
  | cons y ys=>exact absurd e (by simp[Eng.plainC,Eng.plain])
 | _=>exact h.plain e
theorem RelL.plainC {E E':Env}(e:E'.w=E.w)(c:∀b,E.ok b->E'.ok b):∀ {l:List SV} {vs:List Value},RelL E l vs->Er l=true->RelL E' l vs
 | _,_,.nil,_=>.nil
 | _,_,.cons s v l vs h hl,hp=>by
  simp only[Er,aG] at hp;exact .cons s v l vs (h.plainC e c hp.1) (RelL.plainC e c hl hp.2)
section
variable {P:Program}
end
end Go.Eng
end
section
namespace Go.Eng
open Go.RowKit
def Iu:SV->Bool
 | .val (.int _ _)=>true
 | .val (.bool _)=>true
 | .bl _ _=>true
 | .str _=>true
 | .seq _ _=>true
 | _=>false
def uP:List SV->Bool
 | []=>true
 | x::r=>Iu x&&uP r
def argE:SV->Bool
 | .agg l=>uP l
 | s=>Iu s
def Ye:List SV->Bool
 | []=>true
 | x::r=>argE x&&Ye r
theorem Tw {s:SV}(h:Iu s=true):plainC s=true:=by
 cases s with
 | val v=>rfl
 | bl p d=>rfl
 | str s=>rfl
 | seq t xs=>rfl
 | _=>exact absurd h (by simp[Iu])
theorem nM:∀ {l:List SV},uP l=true->Er l=true
 | [],_=>rfl
 | x::r,h=>by
  simp only[uP,aG] at h;simp only[Er,aG];exact ⟨Tw h.1,nM h.2⟩
theorem Rel.argE {E E':Env}(e:E'.w=E.w)(c:∀b,E.ok b->E'.ok b){s:SV}{v:Value}(h:Rel E s v)(f:Eng.argE s=true):Rel E' s v:=by
 cases s with
 | agg l=>
  cases h with
  | agg _ _ hl=>exact .agg _ _ (RelL.plainC e c hl (nM f))
 | val v=>exact h.plainC e c rfl
 | bl p d=>exact h.plainC e c rfl
 | str s=>exact h.plainC e c rfl
 | seq t xs=>exact h.plainC e c rfl
 | _=>exact absurd f (by simp[Eng.argE,Iu])
theorem RelL.argE {E E':Env}(e:E'.w=E.w)(c:∀b,E.ok b->E'.ok b):∀ {l:List SV} {vs:List Value},RelL E l vs->Ye l=true->RelL E' l vs
 | _,_,.nil,_=>.nil
 | _,_,.cons s v l vs h hl,hp=>by
  simp only[Ye,aG] at hp;exact .cons s v l vs (h.argE e c hp.1) (RelL.argE e c hl hp.2)
theorem BV {n:Nat}{A B:List HO}{s:SV}(h:Iu s=true):(bif under n s&&under n s then ent (NV [] A B s) s else ent .any s):=by
 cases s with
 | val v=>
  cases v with
  | int k m=>exact ⟨rfl,rfl⟩
  | bool b=>exact rfl
  | _=>exact absurd h (by simp[Iu])
 | bl p d=>exact cJ
 | str s=>exact rfl
 | seq t xs=>
  show yQ t t xs xs;unfold yQ;rw[dif_pos rfl,pZ]
 | _=>exact absurd h (by simp[Iu])
theorem Iv {n:Nat}{A B:List HO}:∀ {l:List SV},uP l=true->zK [] A B n l l
 | [],_=>trivial
 | x::r,h=>by
  simp only[uP,aG] at h;exact ⟨BV h.1,Iv h.2⟩
section
variable {P:Program}
theorem GD {f:FuncId}{W F:List SV}(a9:uP W=true)(a':uP F=true){t:TypeId}{args:List SV}{r:SV}(hp:Ye args=true)(hr:plain r=true)(h:F7 P f (.ptr 0 0::args) [.cells W t] (fun s H'=>s=r/\H'= [.cells F t])){H:List HO}{nm:Nat}(K:H[nm]? =some (.cells W t)):
  F7 P f (.ptr nm 0::args) H (fun s H'=>s=r/\H'=cA H nm (.cells F t)):=by
 intro G loc ver w vs hY hI B;have u:nm<H.length:=(aK.1 K).1;obtain ⟨hv,b,cs,hb,a0,a7⟩:=hI.objs nm _ K;cases B with
 | cons _ v0 _ vs hp0 B=>
 cases hp0 with
 | ptr _ _ _ hhas hptr=>
 obtain ⟨b',a6,b2⟩:=hptr hv;have b3:Owned H loc b:=⟨nm,_,K,by show (loc nm).blk.map (·.1)=some b;rw[hb];rfl⟩
 let J:Ctx:=⟨w,qW G H loc w,fun c=>(loc nm).blk.map (·.1)=some c,fun c y hm=>y.2.2 ⟨nm,_,K,hm⟩,fun c y=>y.2.1,G.itr,bA G.low hI.size⟩
 have a2:∀c,qW G H loc w c->qW J [.cells W t] (fun _=>loc nm) w c:=fun c y=>⟨.inl y,y.2.1,by
  rintro ⟨k,o,m,D⟩;have:k=0:=by have:=(aK.1 m).1;simp at this;exact this
  subst this;simp only[jG,jE] at m;subst m
  exact y.2.2 ⟨nm,_,K,D⟩⟩
 have a5:Inv J [.cells W t] (fun _=>loc nm) (fun _=>ver nm) w:=by
  refine ⟨aI _,rfl,rfl,rfl,fun _ _ _=>rfl,fun k o m=>?_,fun c y=>?_,fun k k' o o' c m a8 _ _=>?_⟩
  ·have:k=0:=by have:=(aK.1 m).1;simp at this;exact this
   subst this;simp only[jG,jE] at m;subst m;exact ⟨hv,b,cs,hb,a0,RelL.plainC (E:=envOf G H loc ver w) (E':=envOf J [.cells W t] (fun _=>loc nm) (fun _=>ver nm) w) rfl a2 a7 (nM a9)⟩
  ·obtain ⟨k,o,m,D⟩:=y;have:k=0:=by have:=(aK.1 m).1;simp at this;exact this
   subst this;simp only[jG,jE] at m;subst m;exact .inl D
  have g:=(aK.1 m).1;have h2:=(aK.1 a8).1;simp at g h2;rw[g,h2]
 have X:RelL (envOf J [.cells W t] (fun _=>loc nm) (fun _=>ver nm) w) (.ptr 0 0::args) (v0::vs):=
  .cons _ _ _ _ (.ptr 0 0 v0 rfl fun _=>⟨b',a6,b2⟩) (RelL.argE (E:=envOf G H loc ver w) (E':=envOf J [.cells W t] (fun _=>loc nm) (fun _=>ver nm) w) rfl a2 B hp)
 refine (h J _ _ w _ ⟨hY.1,hY.now hI⟩ a5 X).mono ?_;rintro e w' ⟨v,rfl,s,H1,loc1,ver1,⟨rfl,rfl⟩,hI1,hr1,hx1⟩;refine ⟨v,rfl,s,cA H nm (.cells F t),loc,ver,⟨rfl,rfl⟩,?_⟩;have Z:(loc1 0).toCore=(loc nm).toCore:=by
  rcases hx1.ver 0 rfl with g | g
  ·exact g.2
  have h2:0<ver nm:=g.1;omega
 have x:(loc1 0).blk=(loc nm).blk:=aR Core.blk Z;obtain ⟨_,c,a4,y,C,a1⟩:=hI1.objs 0 _ rfl;have Y:∀d,qW J [.cells F t] loc1 w' d->qW G (H.set nm (.cells F t)) loc w' d:=by
  rintro d ⟨g,h2,h3⟩;have z:(loc nm).blk.map (·.1)≠some d:=fun hm=>h3 ⟨0,_,rfl,by show (loc1 0).blk.map (·.1)=some d;rw[x];exact hm⟩;have b1:∀k o,k≠nm->H[k]? =some o->Owns (loc k) o d->False:=by
   intro k o m D hd;rcases g with g | g | g
   ·exact g.2.2 ⟨k,o,D,hd⟩
   ·exact z g
   have:=(hI.objs k o D).block hd;have h4:d<w.heap.size:=this;have g:w.heap.size<=d:=g;omega
  refine ⟨?_,h2,?_⟩
  ·rcases g with g | g | g
   ·exact g.1
   ·exact absurd g z
   exact .inr (.inr (bA hI.size g))
  rintro ⟨k,o,m,D⟩;by_cases e:k=nm
  ·subst e;rw[aP u] at m;cases m;exact z D
  rw[bS e] at m;exact b1 k o e m D
 have a3:=hI.turn (H':=H.set nm (.cells F t)) (loc':=loc) (ver':=ver) (w':=w') nm si (fun k m=>⟨bS m,rfl,rfl⟩) (fun _=>eJ (aP u) rfl) (fun _=>.inl ⟨rfl,rfl,.inl rfl⟩)
  hI1.size hI1.os hI1.tape hI1.output (by rw[K];intro h;cases h) (fun _=>by rw[aP u];intro h;cases h) (fun st n it b h=>by rw[aP u] at h;cases h)
  (fun d hd z=>hI1.frame d hd fun hm=>z _ K hm) (fun o' d A hd=>by
   rw[aP u] at A;cases A;exact .inl ⟨_,K,hd⟩) (fun _ o' A=>by
   rw[aP u] at A;cases A
   exact ⟨hv,c,a4,by rw[<- x];exact y,C,RelL.plainC (E:=envOf J [.cells F t] loc1 ver1 w') (E':=envOf G (H.set nm (.cells F t)) loc ver w') rfl Y a1 (nM a')⟩)
 exact ⟨a3.1,hr1.plain hr,a3.2⟩
def rL (f:FuncId)(t:TypeId)(cl:List SV->List SV->(SV->List SV->Prop)->Prop):Con:=Kx f fun args H K=>match args with
 | .ptr nm 0::r=>(match bX H nm with
  | .cells k0 t'=>bif Nat.beq t' t&&(uP k0&&Ye r) then cl r k0 fun s k1=>dQ k1 fun k1=>K s (cA H nm (.cells k1 t)) else False
  | _=>False)
 | _=>False
theorem mL {f:FuncId}{t:TypeId}{o:List SV->List SV->(SV->List SV->Prop)->Prop}(A:xO P f)(h:∀r m K,o r m K->∃s g,K s g/\plain s=true/\uP g=true/\F7 P f (.ptr 0 0::r) [.cells m t] (fun s' H'=>s'=s/\H'= [.cells g t])):aM P (rL f t o):=by
 refine Bo A ?_;intro n H K c;split at c
 ·rename_i C r;split at c
  ·rename_i m D B;obtain ⟨e,c⟩:=bD c;rw[aG,aG] at e;obtain rfl:=bM.1 e.1;obtain ⟨s,g,u,x,y,z⟩:=h _ _ _ c;rw[cD] at u;refine ⟨_,?_,GD e.2.1 y e.2.2 x z (bB B (by intro h;cases h))⟩;rintro s' H' ⟨rfl,rfl⟩;exact u
  cases c
 cases c
def finJ (P:Program)(rs:List ResultVar)(s:SV)(k1:List SV)(t:TypeId):Exit->List (Nat × SV)->List HO->Prop
 | .normal,l,H=>endJ l H
 | .ret,l,H=>endJ l H
 | _,_,_=>False
where endJ (l:List (Nat × SV)) (H:List HO):Prop:=match yR P l H rs,bX H 0 with
 | some vs,.cells l1 t'=>t'=t/\plain s=true/\ent (zN vs) s/\uP k1=true/\dQ (sS H l1) fun H1=>ent.entL (l1.map (eU false H1)) k1
 | _,_=>False
def vJ (P:Program)(Γ:List Con)(A:Anns)(fn:Func)(args k0:List SV)(t:TypeId)(s:SV)(k1:List SV):Prop:=
 match fn.body with
 | some c=>Need (qA [] 1 (dL A 0 c)=true) (nE P Γ fn.ntmps A 0 c (zR (.ptr 0 0::args) 0) [.cells k0 t] (finJ P fn.results.toList s k1 t))
 | none=>False
theorem gK {Γ:List Con}(hΓ:∀c∈Γ,aM P c){A:Anns}{f:FuncId}{fn:Func}(hf:P.funcs[f]? =some fn){args k0:List SV}{t:TypeId}{s:SV}{u:List SV}(hn:args.length+1<=fn.ntmps)(h:vJ P Γ A fn args k0 t s u):
  F7 P f (.ptr 0 0::args) [.cells k0 t] (fun s' H'=>s'=s/\H'= [.cells u t]):=by
 intro G loc ver w vs hY K hr;unfold vJ at h;cases hc:fn.body with
 | none=>rw[hc] at h;cases h
 | some c=>
  rw[hc] at h;obtain ⟨b3,h⟩:=h;refine (callsIn_wide (n:=0)).1 (callsIn_of_wp_marks hf hc trivial ?_);have hT:=uA (N:=fn.ntmps) hr (by simpa using hn);refine wpIn_mono (rN hY hΓ c 0 (F:=Fence.wide) (n:=0) ⟨none,rfl⟩ K hT (fun l hl=>by cases hl) h) ?_;rintro e a' w' ⟨l',H',loc',ver',h1,h2,h3,h4,h5,Ds,h6,h7,h8⟩;have B:finJ.endJ P fn.results.toList s u t l' H'->LeavesInM Fence.wide 0 P fn a'.tmps (fun e w'=>∃v,e= .returned v/\Res G (envOf G [.cells k0 t] loc ver w) (fun s' H'=>s'=s/\H'= [.cells u t]) v w') a'.defers .returning w':=by
   intro he;rw[h6,eH];refine xQ Ds h2 h7 (fun D hD=>⟨bA K.size (h8 D hD).1,bA (bA G.low K.size) (h8 D hD).1,(h8 D hD).2.1,(h8 D hD).2.2⟩) fun J h9 a4 a5 a6=>?_;unfold finJ.endJ at he;split at he;case h_2=>cases he
   rename_i us m z hu ho;obtain ⟨rfl,hp,Z,a0,Y⟩:=he;rw[cD] at Y;have a7:TRel (envOf G H' loc' ver' J) fn.ntmps l' a':=⟨h3.size,fun t=>a4 _ _ (h3.rel t)⟩;obtain ⟨v,q1,q2⟩:=kY (P:=P) h9 a7 hu;have hv:Rel (envOf G H' loc' ver' J) s v:=lF Z q2
   -- freeze
   obtain ⟨x,b6⟩:=rH m h9;have b1:bX (sS H' m) 0= .cells m z:=rI m H' ho;have Co:=bB b1 (by intro h;cases h);have g:0<(sS H' m).length:=(aK.1 Co).1;obtain ⟨b2,b,cs,hb,C,a8⟩:=x.objs 0 _ Co;have X:RelL (envOf G (sS H' m) loc' ver' J) u cs:=jH Y (pH (H:=sS H' m) (lend:=false) (Ext.refl _) (fun _ _ _ h=>wO x h) (fun nm k v h=>lZ x h) (fun nm k i v _=>mU nm k i v) (fun nm v h=>rZ x (Ext.refl _) (.inl rfl) h) a8)
   -- the cells are spelt anew
   have a3:=x.turn (H':=(sS H' m).set 0 (.cells u z)) (loc':=loc') (ver':=ver') (w':=J) 0 si (fun k hk=>⟨bS hk,rfl,rfl⟩) (fun _=>eJ (aP g) rfl) (fun _=>.inl ⟨rfl,rfl,.inl rfl⟩)
    (aI _) rfl rfl rfl (by rw[Co];intro h;cases h) (fun _=>by rw[aP g];intro h;cases h) (fun st n it b h=>by rw[aP g] at h;cases h)
    (fun d hd b9=>rfl) (fun o' d y hd=>by
     rw[aP g] at y;cases y;exact .inl ⟨_,Co,hd⟩) (fun hx o' y=>by
     rw[aP g] at y;cases y
     exact ⟨b2,b,cs,hb,C,RelL.plainC (E:=envOf G (sS H' m) loc' ver' J) (E':=envOf G ((sS H' m).set 0 (.cells u z)) loc' ver' J) rfl hx.ok X (nM a0)⟩)
   have a9:((sS H' m).set 0 (.cells u z)).length=(sS H' m).length:=by simp
   have hS:EntS [] ((sS H' m).set 0 (.cells u z)) [.cells u z] 1:=by
    refine ⟨by simp;omega,fun i o hi=>?_⟩;have:i=0:=by have:=(aK.1 hi).1;simp at this;exact this
    subst this;simp only[jG,jE] at hi;subst hi;exact ⟨_,aP g,rfl,Iv a0⟩
   obtain ⟨W,a2⟩:=uM (T:=[.cells u z]) a3.1 si hS;have b7:=ExtO.late K h4 a5 fun b hb=>a6 b fun hm=>by have b8:w.heap.size<=b:=(h8 b hm).1;omega
   have b5:ExtO (dL A 0 c) (envOf G [.cells k0 z] loc ver w) (envOf G ((sS H' m).set 0 (.cells u z)) loc' ver' J):=b7.trans ((b6.trans a3.2).toO _)
   have b4:=uO b5 si (fun nm a1=>by
    have:nm=0:=by have:=(aK.1 a1).1;simp at this;exact this
    subst this
    simp at a1) b3 hS a2
   refine ⟨v,q1,v,rfl,s,[.cells u z],loc',_,⟨rfl,rfl⟩,W,Rel.plain hv hp,ExtO.ext K W b4 fun _ _=>rfl⟩
  cases e with
  | normal=>exact B h1
  | ret=>exact B h1
  | _=>cases h1
end
end Go.Eng
end
section
namespace Go.Eng
section
variable {H:Type} {enc:TypeId × Value->H} {P:Program} {w:World} {base b0:Nat} {spare:Nat->Bool} {held:Bool} {r:Reach} {t:TypeId} {v:Value} {d:DataW H} {ps:List MemPlace}
theorem arg_struct {o:Array Field}{n:Nat}{ty:Ty}(A:P.underlying t=some (.struct o))(f:Value.okWide P w r b0 t v)(y:DataW.Trod enc P w base spare held t v d ps)(s:tyOf P n t=some ty)(u:okTy P n t=true)(B:∀m∈d.weights P t,m<=reachBytes):∃x:ty.T,U8 ty x/\∃cs,v= .agg ⟨cs⟩/\Reads w (fun b=>b<w.heap.size) ty x cs:=by
 obtain ⟨cs,rfl,_⟩:=WideShapes.okWide_struct A f;obtain ⟨c,z⟩:=y;obtain ⟨x,g⟩:=Mx n t _ s u c _ _ z B;refine ⟨x,g.okd,cs.toList,rfl,?_⟩;have e:(Value.agg cs).cells.toList=cs.toList:=by simp[Value.cells]
 rw[e] at g;exact g
theorem agg_str2 {ok:Nat->Prop}{x:Bx × Bx}{cs:List Value}(h:Reads w ok (.pair .str .str) x cs):Rel (iD w ok) (.agg [.str x.1,.str x.2]) (.agg ⟨cs⟩):=by
 obtain ⟨f,g,rfl,⟨rfl,c⟩,⟨rfl,e⟩⟩:=h;exact .agg _ _ (.cons _ _ _ _ (.str _ c) (.cons _ _ _ _ (.str _ e) .nil))
theorem agg_str3 {ok:Nat->Prop}{x:Bx × Bx × Bx}{cs:List Value}(h:Reads w ok qk x cs):Rel (iD w ok) (.agg [.str x.1,.str x.2.1,.str x.2.2]) (.agg ⟨cs⟩):=by
 obtain ⟨g,m,rfl,⟨rfl,c⟩,⟨n,o,rfl,⟨rfl,e⟩,⟨rfl,f⟩⟩⟩:=h;exact .agg _ _ (.cons _ _ _ _ (.str _ c) (.cons _ _ _ _ (.str _ e) (.cons _ _ _ _ (.str _ f) .nil)))
theorem agg_roof {ok:Nat->Prop}{a b c d:Ty}{x:(Ty.pair (.slice a) (.pair (.slice b) (.pair (.slice c) (.slice d)))).T}{cs:List Value}(h:Reads w ok (.pair (.slice a) (.pair (.slice b) (.pair (.slice c) (.slice d)))) x cs):Rel (iD w ok) (.agg [.any,.any,.any,.seq d x.2.2.2]) (.agg ⟨cs⟩):=by
 obtain ⟨g,m,rfl,⟨_,_,_,rfl,_⟩,⟨n,o,rfl,⟨_,_,_,rfl,_⟩,⟨s,u,rfl,⟨_,_,_,rfl,_⟩,e⟩⟩⟩:=h;have f:=e;obtain ⟨_,_,_,rfl,_⟩:=f;exact .agg _ _ (.cons _ _ _ _ (.any _) (.cons _ _ _ _ (.any _) (.cons _ _ _ _ (.any _) (.cons _ _ _ _ (.seq _ _ _ e) .nil))))
theorem agg_enc {ok:Nat->Prop}{ty:Ty}{x:ty.T}{cs:List Value}(h:Reads w ok ty x cs):Rel (iD w ok) (.agg (Go.Eng.enc ty x)) (.agg ⟨cs⟩):=.agg _ _ (Reads.enc (E:=iD w ok) h)
theorem agg_one {ok:Nat->Prop}{a:Ty}{x:(Ty.slice a).T}{cs:List Value}(h:Reads w ok (.slice a) x cs):Rel (iD w ok) (.agg [.seq a x]) (.agg ⟨cs⟩):=by
 have c:=h;obtain ⟨_,_,_,rfl,_⟩:=c;exact .agg _ _ (.cons _ _ _ _ (.seq _ _ _ h) .nil)
theorem agg_beam {ok:Nat->Prop}{a b:Ty}{x:(Ty.pair .str (.pair .str (.pair .str (.pair (.slice a) (.slice b))))).T}{cs:List Value}(h:Reads w ok (.pair .str (.pair .str (.pair .str (.pair (.slice a) (.slice b))))) x cs):Rel (iD w ok) (.agg [.str x.1,.str x.2.1,.str x.2.2.1,.seq a x.2.2.2.1,.seq b x.2.2.2.2]) (.agg ⟨cs⟩):=by
 obtain ⟨s,u,rfl,⟨rfl,m⟩,⟨y,z,rfl,⟨rfl,n⟩,⟨A,B,rfl,⟨rfl,o⟩,⟨C,D,rfl,c,e⟩⟩⟩⟩:=h;have f:=c;have g:=e;obtain ⟨_,_,_,rfl,_⟩:=f;obtain ⟨_,_,_,rfl,_⟩:=g;exact .agg _ _ (.cons _ _ _ _ (.str _ m) (.cons _ _ _ _ (.str _ n) (.cons _ _ _ _ (.str _ o) (.cons _ _ _ _ (.seq _ _ _ c) (.cons _ _ _ _ (.seq _ _ _ e) .nil)))))
theorem arg_arr3 {k:IntKind}{e:TypeId}(ht:P.underlying t=some (.array 3 e))(Z:P.underlying e=some (.int k))(X:P.cellsOf e=1)(s:P.cellsOf t=3)(Y:DataW.Trod enc P w base spare held t v d ps):
  ∃x y z:Int,(inK k x/\inK k y/\inK k z)/\Rel (iD w fun b=>b<w.heap.size) (.agg [.val (.int k x),.val (.int k y),.val (.int k z)]) v:=by
 obtain ⟨C,hf⟩:=Y;obtain ⟨xs,m,rfl,ex,f,hl,g⟩:=DataW.trod_array ht hf;rw[s] at f;obtain ⟨o,rfl⟩:∃o,v= .agg o:=by cases v<;>first | exact ⟨_,rfl⟩ | (simp[Value.cells] at f)
 have J:(Value.agg o).cells.toList=o.toList:=by simp[Value.cells]
 rw[J] at f g;rw[X] at g;have one:∀i,i<3->∃n,(o.toList.drop (i*1)).take 1= [.int k n]/\inK k n:=fun i hi=>by
  have h:=g i hi;rw[aY om] at h;obtain ⟨n,K,_,W⟩:=DataW.trod_int Z h;exact ⟨n,K,D8 W⟩
 obtain ⟨x,u,D⟩:=one 0 de;obtain ⟨y,A,E⟩:=one 1 de;obtain ⟨z,B,F⟩:=one 2 de;refine ⟨x,y,z,⟨D,E,F⟩,?_⟩;obtain ⟨l⟩:=o;simp only at f u A B
 match l,f with
 | [a,b,c],_=>
  simp at u A B;subst u A B;exact .agg _ _ (.cons _ _ _ _ (.val _ D) (.cons _ _ _ _ (.val _ E) (.cons _ _ _ _ (.val _ F) .nil)))
end
end Go.Eng
end
section
namespace Go.Eng
open Go.Shelf
theorem kO {P:Program}{c:Con}{fn:Func}(g:P.funcs[c.f]? =some fn)(h:∀args K,c.cl args K→∃r,K r∧Tris P c.fresh c.f args r)(n:(fn.name== "runtime.NumGoroutine")=false:=by kernel_rfl)(e:fn.body.isSome=true:=by rfl)(m:(c.lin,c.own,c.hp)=(none,none,none):=by rfl):aM P c:=by
 obtain ⟨b,e⟩:=Option.isSome_iff_exists.1 e;exact Xp m (Go.Proofs.enters_of g n e) h
theorem gH {P:Program}{Γ:List Con}{A:Anns}{fresh:Bool}{f:FuncId}{fn:Func}{args:List SV}{r:SV}{n:Nat}(g:P.funcs[f]? =some fn)(m:fn.ntmps=n)(hΓ:∀c∈Γ,aM P c)(h:body P Γ A fresh fn args r)(o:Nat.ble args.length n=true:=by rfl)(e:bare r=true:=by rfl):Tri P fresh f args r:=
 Ir hΓ g (by rw[m];exact fI o) e h
structure KB (P:Program) (Γ:List Con) (A:Anns) (fresh:Bool) (f:FuncId) (fn:Func) (n:Nat) (args:List SV) (K:SV->Prop):Prop where
 ex:(∀r,body P Γ A fresh fn args r->Nat.ble args.length n=true->bare r=true->Tri P fresh f args r)->∃r,K r/\Tris P fresh f args r
theorem kb {P:Program}{Γ:List Con}{A:Anns}{fresh:Bool}{f:FuncId}{fn:Func}{n:Nat}{args:List SV}{K:SV->Prop}{r:SV}(c:K r)(h:body P Γ A fresh fn args r)(g:Nat.ble args.length n=true:=by rfl)(e:bare r=true:=by rfl)(m:Tri P fresh f args r->Tris P fresh f args r:=by exact id):KB P Γ A fresh f fn n args K:=⟨fun T=>⟨r,c,m (T r h g e)⟩⟩
theorem kQ {P:Program}{Γ:List Con}{f:FuncId}{fresh:Bool}{e:List SV→(SV→Prop)→Prop}{fn:Func}{n:Nat}(A:Anns)(g:P.funcs[f]? =some fn)(y:fn.ntmps=n)(hΓ:∀c∈Γ,aM P c)(h:∀args K,e args K→KB P Γ A fresh f fn n args K)(z:(fn.name== "runtime.NumGoroutine")=false:=by kernel_rfl)(u:fn.body.isSome=true:=by rfl):aM P (aV f fresh e):=
 kO (c:=aV f fresh e) g (fun args K x=>(h args K x).ex fun r m o s=>gH g y hΓ m o s) z u
theorem kn {P:Program}:∀c∈([]:List Con),aM P c:=fun _ h=>absurd h List.not_mem_nil
theorem kc {P:Program}{c:Con}{Γ:List Con}(h:aM P c)(f:∀x∈Γ,aM P x):∀x∈c::Γ,aM P x:=fun x g=>(bY.1 g).elim (fun e=>e ▸ h) (f x)
theorem pI {p:SV->Prop}{s:SV}(h:p s):Pin p:=⟨⟨s,h⟩⟩
theorem pJ {x:SV}{u:List HO}{C:Prop}(h:C):Pinned (x=x) (u=u) C:=.mk rfl rfl h
theorem ZF {p:Prop}(h:p:=by ((conv=>whnf);(repeat' first | exact trivial | rfl | apply aA))):p:=h
theorem ZE {p:Prop}(h:p:=by (repeat' first | exact trivial | rfl | exact Nat.one_pos | (refine aA ?_ ?_) | omega | ((conv=>whnf);(refine aA ?_ ?_)) | ((conv=>whnf);exact trivial))):p:=h
theorem ZEx {p q:Prop}(x:q)(h:q->p:=by (intro x;(repeat' first | exact trivial | rfl | exact Nat.one_pos | exact x | (refine aA ?_ ?_) | omega | ((conv=>whnf);(refine aA ?_ ?_)) | ((conv=>whnf);exact trivial)))):p:=h x
theorem ZRF {p:Prop}(h:p:=by ((repeat' first | refine ZR ?_ | refine Zg fun _=>?_);(conv=>whnf);(repeat' first | exact trivial | rfl | apply aA))):p:=h
theorem ZGF {p:Prop}(h:p:=by ((repeat' first | refine ZG ?_ | refine Zg fun _=>?_);(conv=>whnf);(repeat' first | exact trivial | rfl | apply aA))):p:=h
theorem ZHF {p:Prop}(h:p:=by ((repeat' first | refine ZH ?_ | refine Zg fun _=>?_);(conv=>whnf);(repeat' first | exact trivial | rfl | apply aA))):p:=h
theorem ZPF {p:Prop}(h:p:=by ((repeat' first | refine ZP ?_ | refine Zg fun _=>?_);(conv=>whnf);(repeat' first | exact trivial | rfl | apply aA))):p:=h
theorem ZNF {p:Prop}(h:p:=by ((repeat' first | refine ZN ?_ | refine Zg fun _=>?_);(conv=>whnf);(repeat' first | exact trivial | rfl | apply aA))):p:=h
theorem ZXF {p:Prop}(h:p:=by ((repeat' first | refine ZX ?_ | refine Zg fun _=>?_);(conv=>whnf);(repeat' first | exact trivial | rfl | apply aA))):p:=h
theorem ZFx {p q:Prop}(x:q)(h:q->p:=by (intro x;(conv=>whnf);(repeat' first | exact trivial | rfl | exact x | apply aA))):p:=h x
theorem ZRx {p q:Prop}(x:q)(h:q->p:=by (intro x;(repeat' first | refine ZR ?_ | refine Zg fun _=>?_);(conv=>whnf);(repeat' first | exact trivial | rfl | exact x | apply aA))):p:=h x
theorem ZGx {p q:Prop}(x:q)(h:q->p:=by (intro x;(repeat' first | refine ZG ?_ | refine Zg fun _=>?_);(conv=>whnf);(repeat' first | exact trivial | rfl | exact x | apply aA))):p:=h x
theorem ZHx {p q:Prop}(x:q)(h:q->p:=by (intro x;(repeat' first | refine ZH ?_ | refine Zg fun _=>?_);(conv=>whnf);(repeat' first | exact trivial | rfl | exact x | apply aA))):p:=h x
end Go.Eng
end
section
namespace IB
def aQ (B:Nat):List Int->Int
 | []=>0
 | x::r=>x+B*aQ B r
def InB (B:Nat)(l:List Int):Prop:=∀x∈l,0<=x/\x<B
theorem InB.nil {B:Nat}:InB B []:=fun x h=>by simp at h
theorem InB.cons {B:Nat}{x:Int}{l:List Int}:InB B (x::l)↔(0<=x/\x<B)/\InB B l:=by
 unfold InB;simp
theorem InB.append {B:Nat}{l m:List Int}:InB B (l++m)↔InB B l/\InB B m:=by
 unfold InB;constructor
 ·intro h;exact ⟨fun x c=>h x (sP _ c),fun x c=>h x (List.mem_append_right _ c)⟩
 rintro ⟨h1,h2⟩ x c;rcases eT.1 c with h | h
 ·exact h1 x h
 exact h2 x h
theorem InB.get {B:Nat}{l:List Int}(h:InB B l){i:Nat}(hi:i<l.length):0<=l.getD i 0/\l.getD i 0<B:=by
 have e:l.getD i 0=l[i]:=by simp[aB,hi]
 rw[e];exact h _ (iL hi)
theorem InB.getD0 {B:Nat}(c:0<B){l:List Int}(h:InB B l)(i:Nat):0<=l.getD i 0/\l.getD i 0<B:=by
 by_cases hi:i<l.length
 ·exact h.get hi
 have e:l.getD i 0=0:=by rw[aB,cO om];rfl
 rw[e];omega
theorem eB {B:Nat}:∀ {l:List Int},InB B l->0<=aQ B l
 | [],_=>vR _
 | x::r,h=>by
  obtain ⟨e,c⟩:=InB.cons.1 h;have:=eB c;have:0<=(B:Int)*aQ B r:=cU om this;simp only[aQ];omega
theorem vX {B:Nat}:∀ {l:List Int},InB B l->aQ B l<(B:Int)^l.length
 | [],_=>by simp[aQ]
 | x::r,h=>by
  obtain ⟨f,c⟩:=InB.cons.1 h;have g:=vX c;have e:(B:Int)*(aQ B r+1)<=B*B^r.length:=aZ om om;rw[cY,fR] at e;simp only[aQ,cF];rw[gN,bU (_ ^ _)];omega
theorem pC {B:Nat}(m:List Int):∀l:List Int,aQ B (l++m)=aQ B l+(B:Int)^l.length*aQ B m
 | []=>by simp[aQ]
 | x::r=>by
  simp only[jV,aQ,cF];rw[pC m r,cY,gN,bU (_ ^ _) (B:Int),cV];omega
theorem uU {B:Nat}(l:List Int)(x:Int):aQ B (l++ [x])=aQ B l+(B:Int)^l.length*x:=by
 rw[pC];simp[aQ]
theorem wY {B:Nat}(n:Nat):aQ B (List.replicate n 0)=0:=by
 induction n with
 | zero=>rfl
 | succ n ih=>rw[List.replicate_succ];simp[aQ,ih]
def aJ (B n:Nat):List Int:=if h:2<=B/\0<n then ((n%B:Nat):Int)::aJ B (n/B) else []
termination_by n
decreasing_by exact yW h.2 om
theorem eC (B:Nat):aJ B 0= []:=by rw[aJ,Gb om]
theorem Gw {B n:Nat}(c:2<=B)(e:0<n):aJ B n=((n%B:Nat):Int)::aJ B (n/B):=by rw[aJ,dif_pos ⟨c,e⟩]
theorem dE {B:Nat}(e:2<=B):∀n:Nat,InB B (aJ B n):=by
 intro n
 induction n using Nat.strongRecOn with
 | _ n ih=>
  by_cases c:0<n
  ·rw[Gw e c,InB.cons];have:=gP n (show 0<B by omega);exact ⟨⟨om,om⟩,ih _ (yW c om)⟩
  obtain rfl:n=0:=om;rw[eC];exact InB.nil
theorem jC {B:Nat}(e:2<=B):∀n:Nat,aQ B (aJ B n)=n:=by
 intro n
 induction n using Nat.strongRecOn with
 | _ n ih=>
  by_cases c:0<n
  ·rw[Gw e c];simp only[aQ];rw[ih _ (yW c om)];have:=Nat.mod_add_div n B;exact_mod_cast this
  obtain rfl:n=0:=om;rw[eC];rfl
theorem wZ {B n:Nat}(c:2<=B):aJ B n= []↔n=0:=by
 constructor
 ·intro h;have:=jC c n;rw[h] at this;simp[aQ] at this;omega
 rintro rfl;exact eC B
theorem Nq {B:Nat}(n:2<=B):∀ {l:List Int},InB B l->(∀h:l≠ [],l.getLast h≠0)->l=aJ B (aQ B l).toNat
 | [],_,_=>by simp[aQ,eC]
 | x::r,h,hl=>by
  obtain ⟨A,m⟩:=InB.cons.1 h;obtain ⟨a,rfl⟩:=bL A.1;have u:a<B:=om;have C:=eB m;obtain ⟨b,o⟩:=bL C;have e:(aQ B ((a:Int)::r)).toNat=a+B*b:=by
   simp only[aQ];rw[o];have:(a:Int)+(B:Int)*(b:Int)=((a+B*b:Nat):Int):=by simp
   show ((a:Int)+(B:Int)*(b:Int)).toNat= _;rw[this];exact aU _
  rw[e];have g:0<a+B*b:=by
   cases r with
   | nil=>
    have:=hl si;simp at this;omega
   | cons y s=>
    have c:=Nq n m (fun f=>by have:=hl si;simpa using this);have:b≠0:=fun z=>by
     subst z;rw[o] at c;rw[aU,eC] at c;cases c
    have:=sM (show 0<B by omega) (dX this);omega
  rw[Gw n g];have e1:(a+B*b)%B=a:=by rw[Nat.add_mul_mod_self_left,fT u]
  have e2:(a+B*b)/B=b:=by rw[Nat.add_mul_div_left _ _ om,Nat.div_eq_of_lt u,eS]
  rw[e1,e2]
  have c:=Nq n m (fun f=>by
   have:=hl si;rw[List.getLast_cons f] at this
   exact this)
  rw[o] at c;rw[aU] at c;rw[<- c]
def gV (l:List Int):List Int:=(l.reverse.dropWhile (· ==0)).reverse
theorem lH (l:List Int):gV (l++ [0])=gV l:=by simp[gV]
theorem uC (l:List Int)(x:Int)(h:x≠0):gV (l++ [x])=l++ [x]:=by simp[gV,h]
theorem Gx (P:List Int->Prop)(g:P [])(m:∀l x,P l->P (l++ [x]))(l:List Int):P l:=by
 have:∀n (l:List Int),l.length=n->P l:=by
  intro n
  induction n with
  | zero=>intro l c;rw[cL.1 c];exact g
  | succ n ih=>
   intro l c;have f:l≠ []:=fun e=>by rw[e] at c;simp at c
   rw[<- gO f];exact m _ _ (ih _ (by simp[c]))
 exact this _ l rfl
theorem PB {B:Nat}{l:List Int}:InB B l->InB B (gV l):=by
 refine Gx (fun l=>InB B l->InB B (gV l)) (fun h=>h) (fun l x f h=>?_) l;obtain ⟨c,g⟩:=InB.append.1 h;by_cases e:x=0
 ·subst e;rw[lH];exact f c
 rw[uC _ _ e];exact h
theorem LS {B:Nat}(l:List Int):aQ B (gV l)=aQ B l:=by
 refine Gx (fun l=>aQ B (gV l)=aQ B l) rfl (fun l x c=>?_) l;by_cases e:x=0
 ·subst e;rw[lH,uU,c];simp
 rw[uC _ _ e]
theorem Rj (l:List Int):∀h:gV l≠ [],(gV l).getLast h≠0:=by
 refine Gx (fun l=>∀h:gV l≠ [],(gV l).getLast h≠0) (fun h=>(h rfl).elim) (fun l x c=>?_) l;by_cases e:x=0
 ·subst e;simp only[lH];exact c
 intro h;simp only[uC _ _ e];simp[e]
theorem iJ {B:Nat}(c:2<=B){l:List Int}(h:InB B l):gV l=aJ B (aQ B l).toNat:=by
 rw[<- LS l];exact Nq c (PB h) (Rj l)
theorem yB {B:Nat}(c:2<=B)(n:Nat):∀h:aJ B n≠ [],(aJ B n).getLast h≠0:=by
 have e:=iJ c (dE c n);rw[jC c,aU] at e;rw[<- e];exact Rj _
def lO (B:Nat)(l:List Int):Nat->Int
 | 0=>0
 | k+1=>lO B l k+(B:Int)^k*l.getD k 0
theorem uE (B:Nat)(l:List Int):∀k,k<=l.length->lO B l k=aQ B (l.take k)
 | 0,_=>by simp[lO,aQ]
 | k+1,h=>by
  have e:l.getD k 0=l[k]:=by simp[aB,show k<l.length by omega]
  rw[lO,uE B l k om,cI (show k<l.length by omega),uU,e,aW,dB om]
theorem lJ (B:Nat)(l:List Int):∀k,l.length<=k->lO B l k=aQ B l
 | 0,h=>by
  have:l= []:=cL.1 om;subst this;rfl
 | k+1,h=>by
  by_cases e:l.length=k+1
  ·rw[uE B l (k+1) om,cZ om]
  have e2:l.getD k 0=0:=by rw[aB,cO om];rfl
  rw[lO,e2,lJ B l k om];simp
def mM (B:Nat)(a b:List Int):Nat->List Int × Int
 | 0=>([],0)
 | k+1=>((mM B a b k).1++ [(a.getD k 0+b.getD k 0+(mM B a b k).2)%B],(a.getD k 0+b.getD k 0+(mM B a b k).2)/B)
def mY (B:Nat)(a b:List Int):Nat->List Int × Int
 | 0=>([],0)
 | k+1=>((mY B a b k).1++ [if 0<=a.getD k 0-b.getD k 0-(mY B a b k).2 then a.getD k 0-b.getD k 0-(mY B a b k).2 else a.getD k 0-b.getD k 0-(mY B a b k).2+B],
   if 0<=a.getD k 0-b.getD k 0-(mY B a b k).2 then 0 else 1)
theorem kR {B:Nat}(c:2<=B)(k:Nat):0<(B:Int)^k:=Ay om
theorem uF {B:Nat}(z:2<=B){a b:List Int}(u:InB B a)(x:InB B b):∀k,(mM B a b k).1.length=k/\InB B (mM B a b k).1/\(0<=(mM B a b k).2/\(mM B a b k).2<=1)/\
  aQ B (mM B a b k).1+(B:Int)^k*(mM B a b k).2=lO B a k+lO B b k
 | 0=>⟨rfl,InB.nil,by simp[mM],by simp[mM,aQ,lO]⟩
 | k+1=>by
  obtain ⟨f,n,y,s⟩:=uF z u x k;have E:=u.getD0 om k;have F:=x.getD0 om k;simp only[mM];generalize (mM B a b k).1=o at f n s ⊢;generalize (mM B a b k).2=c at y s ⊢;have D:=jJ (a.getD k 0+b.getD k 0+c) (show (B:Int)≠0 by omega);have m:=fQ (a.getD k 0+b.getD k 0+c) (show 0<(B:Int) by omega);have A:=iH (a.getD k 0+b.getD k 0+c) B;have g:0<=(a.getD k 0+b.getD k 0+c)/B:=eF om om;have C:(a.getD k 0+b.getD k 0+c)/B<2:=fK om om;refine ⟨by simp[f],InB.append.2 ⟨n,InB.cons.2 ⟨⟨D,m⟩,InB.nil⟩⟩,⟨g,om⟩,?_⟩;rw[uU,f,lO,lO,gN,cV];have e:(B:Int)^k*((a.getD k 0+b.getD k 0+c)%B)+(B:Int)^k*((B:Int)*((a.getD k 0+b.getD k 0+c)/B))=(B:Int)^k*a.getD k 0+(B:Int)^k*b.getD k 0+(B:Int)^k*c:=by
   rw[<- cY,A,cY,cY]
  omega
theorem Bz {B:Nat}(x:2<=B){a b:List Int}(n:InB B a)(s:InB B b):∀k,(mY B a b k).1.length=k/\InB B (mY B a b k).1/\(0<=(mY B a b k).2/\(mY B a b k).2<=1)/\
  aQ B (mY B a b k).1-(B:Int)^k*(mY B a b k).2=lO B a k-lO B b k
 | 0=>⟨rfl,InB.nil,by simp[mY],by simp[mY,aQ,lO]⟩
 | k+1=>by
  obtain ⟨e,g,u,m⟩:=Bz x n s k;have y:=n.getD0 om k;have z:=s.getD0 om k;simp only[mY];generalize (mY B a b k).1=o at e g m ⊢;generalize (mY B a b k).2=c at u m ⊢;by_cases f:0<=a.getD k 0-b.getD k 0-c
  ·rw[aE f,aE f];refine ⟨by simp[e],InB.append.2 ⟨g,InB.cons.2 ⟨⟨f,om⟩,InB.nil⟩⟩,om,?_⟩;rw[uU,e,lO,lO,iY,iY];omega
  rw[aD f,aD f];refine ⟨by simp[e],InB.append.2 ⟨g,InB.cons.2 ⟨⟨om,om⟩,InB.nil⟩⟩,om,?_⟩;rw[uU,e,lO,lO,cY,iY,iY,gN];omega
theorem nP {B:Nat}(c:2<=B){m n:Nat}(h:m<=n):(B:Int)^m<=(B:Int)^n:=by
 have:B^m<=B^n:=bO om h;exact_mod_cast this
theorem nQ {B:Nat}(c:2<=B){l:List Int}(h:InB B l){n:Nat}(e:l.length<=n):aQ B l<(B:Int)^n:=Int.lt_of_lt_of_le (vX h) (nP c e)
theorem LW {B:Nat}(c:2<=B){a b:List Int}(g:InB B a)(m:InB B b){n:Nat}(s:a.length<=n)(u:b.length<=n):gV (mM B a b (n+1)).1=aJ B (aQ B a+aQ B b).toNat:=by
 obtain ⟨y,o,z,f⟩:=uF c g m (n+1);rw[lJ _ _ _ om,lJ _ _ _ om] at f;have A:=nQ c g s;have C:=nQ c m u;have D:=eB o;have x:(mM B a b (n+1)).2=0:=by
  by_cases e:(mM B a b (n+1)).2=0
  ·exact e
  have e1:(mM B a b (n+1)).2=1:=om;rw[e1,fR,gN] at f;have:(B:Int)^n*2<=(B:Int)^n*B:=aZ om (eM (kR c n));omega
 rw[x,dO,fD] at f;rw[iJ c o,f]
theorem Zz {B:Nat}(f:2<=B){a b:List Int}(u:InB B a)(x:InB B b){n:Nat}(o:a.length<=n)(s:b.length<=n)(y:aQ B b<=aQ B a):gV (mY B a b n).1=aJ B (aQ B a-aQ B b).toNat/\(mY B a b n).2=0:=by
 obtain ⟨z,m,C,c⟩:=Bz f u x n;rw[lJ _ _ _ o,lJ _ _ _ s] at c;have A:=vX m;rw[z] at A;have g:(mY B a b n).2=0:=by
  by_cases e:(mY B a b n).2=0
  ·exact e
  have e1:(mY B a b n).2=1:=om;rw[e1,fR] at c;omega
 rw[g,dO,Int.sub_zero] at c;exact ⟨by rw[iJ f m,c],g⟩
theorem Fq {B:Nat}(y:Int):∀(l:List Int) (j:Nat),j<l.length->aQ B (l.set j y)=aQ B l+(B:Int)^j*(y-l.getD j 0)
 | [],j,h=>by simp at h
 | x::r,0,h=>by simp only[List.set_cons_zero,aQ,List.getD_cons_zero,Int.pow_zero,iZ];omega
 | x::r,j+1,h=>by
  simp only[List.set_cons_succ,aQ,List.getD_cons_succ];rw[Fq y r j (by simpa using h),cY,gN,bU (_ ^ _) (B:Int),cV];omega
theorem nR (l:List Int)(k:Nat)(x:Int)(h:k<l.length)(i:Nat):(l.set k x).getD i 0=if i=k then x else l.getD i 0:=by
 rw[aB,fY];by_cases e:i=k
 ·subst e;simp[h]
 rw[aD (fun c=>e c.symm),aD e,aB]
theorem Gy {B:Nat}{l:List Int}(h:InB B l)(k:Nat){x:Int}(e:0<=x/\x<B):InB B (l.set k x):=fun y f=>by
 rcases List.mem_or_eq_of_mem_set f with c | c
 ·exact h y c
 rw[c];exact e
theorem mN (l:List Int)(i:Nat)(h:l.length<=i):l.getD i 0=0:=by rw[aB,cO h];rfl
def iB (B:Nat)(x:Int)(b:List Int)(i:Nat)(out:List Int):Nat->List Int × Int
 | 0=>(out,0)
 | k+1=>((iB B x b i out k).1.set (i+k) (((iB B x b i out k).1.getD (i+k) 0+x*b.getD k 0+(iB B x b i out k).2)%B),((iB B x b i out k).1.getD (i+k) 0+x*b.getD k 0+(iB B x b i out k).2)/B)
def sY (B:Nat)(a b out:List Int):Nat->List Int
 | 0=>out
 | i+1=>(iB B (a.getD i 0) b i (sY B a b out i) (b.length+1)).1
theorem rQ {B:Nat}(hB:2<=B){x:Int}(Y:0<=x/\x<B){b:List Int}(F:InB B b){i:Nat}{e:List Int}(X:InB B e):∀k,i+k<=e.length->(iB B x b i e k).1.length=e.length/\InB B (iB B x b i e k).1/\
  (0<=(iB B x b i e k).2/\(iB B x b i e k).2<B)/\aQ B (iB B x b i e k).1+(B:Int)^ (i+k)*(iB B x b i e k).2=aQ B e+(B:Int)^i*(x*lO B b k)/\
  (∀j,i+k<=j->(iB B x b i e k).1.getD j 0=e.getD j 0)/\∀j,j<i->(iB B x b i e k).1.getD j 0=e.getD j 0
 | 0,_=>⟨rfl,X,by simp only[iB];omega,by simp[iB,lO],fun _ _=>rfl,fun _ _=>rfl⟩
 | k+1,hk=>by
  obtain ⟨A,s,h3,C,D,E⟩:=rQ hB Y F (i:=i) X k om;have z:=F.getD0 om k;have Z:=s.getD0 om (i+k);simp only[iB];generalize (iB B x b i e k).1=o at A s C D E Z ⊢;generalize (iB B x b i e k).2=c at h3 C ⊢;have a0:0<=x*b.getD k 0:=cU Y.1 z.1;have u:x*b.getD k 0<=((B:Int)-1)*((B:Int)-1):=Int.mul_le_mul om om z.1 om;have y:((B:Int)-1)*((B:Int)-1)=(B:Int)*B-B-B+1:=by rw[Bb,iY,fR,iZ];omega
  rw[y] at u;have W:=jJ (o.getD (i+k) 0+x*b.getD k 0+c) (show (B:Int)≠0 by omega);have n:=fQ (o.getD (i+k) 0+x*b.getD k 0+c) (show 0<(B:Int) by omega);have J:=iH (o.getD (i+k) 0+x*b.getD k 0+c) B;have f:0<=(o.getD (i+k) 0+x*b.getD k 0+c)/B:=eF om om;have g:(o.getD (i+k) 0+x*b.getD k 0+c)/B<B:=fK om om;generalize (o.getD (i+k) 0+x*b.getD k 0+c)%B=m at W n J ⊢;generalize (o.getD (i+k) 0+x*b.getD k 0+c)/B=d at J f g ⊢;refine ⟨by rw[fE,A],Gy s _ ⟨W,n⟩,⟨f,g⟩,?_,fun j K=>?_,fun j K=>?_⟩
  ·rw[Fq _ _ _ om,lO,<- iS,gN];have e1:x*(lO B b k+(B:Int)^k*b.getD k 0)=x*lO B b k+(B:Int)^k*(x*b.getD k 0):=by
    rw[cY,<- cV,<- cV,bU x ((B:Int)^k)]
   have e2:(B:Int)^i*((B:Int)^k*(x*b.getD k 0))=(B:Int)^ (i+k)*(x*b.getD k 0):=by rw[<- cV,vS]
   rw[e1,cY,e2,cV];have e3:(B:Int)^ (i+k)*(m-o.getD (i+k) 0)+(B:Int)^ (i+k)*((B:Int)*d)=(B:Int)^ (i+k)*(x*b.getD k 0)+(B:Int)^ (i+k)*c:=by
    rw[<- cY,<- cY];congr 1
    omega
   omega
  ·rw[nR _ _ _ om,aD om,D j om]
  rw[nR _ _ _ om,aD om,E j K]
theorem AA {B:Nat}(g:2<=B){x:Int}(s:0<=x/\x<B){b:List Int}(m:InB B b){i:Nat}{c:List Int}(o:InB B c)(X:i+b.length+1<=c.length)(y:c.getD (i+b.length) 0=0):
  (iB B x b i c (b.length+1)).2=0/\aQ B (iB B x b i c (b.length+1)).1=aQ B c+(B:Int)^i*(x*aQ B b):=by
 obtain ⟨F,J,f,K,u,W⟩:=rQ g s m (i:=i) o b.length om;obtain ⟨z,A,C,e,D,E⟩:=rQ g s m (i:=i) o (b.length+1) om;have n:(iB B x b i c (b.length+1)).2=0:=by
  simp only[iB];rw[u _ (aI _),y,mN b b.length (aI _),dO,tV,tV];exact Int.ediv_eq_zero_of_lt f.1 f.2
 rw[n,dO,fD,lJ _ _ _ om] at e;exact ⟨n,e⟩
theorem Ca {B:Nat}(g:2<=B){a b:List Int}(y:InB B a)(m:InB B b){n:Nat}(E:a.length+b.length+1<=n):∀i,i<=a.length->(sY B a b (List.replicate n 0) i).length=n/\InB B (sY B a b (List.replicate n 0) i)/\
  aQ B (sY B a b (List.replicate n 0) i)=lO B a i*aQ B b/\∀j,i+b.length<=j->(sY B a b (List.replicate n 0) i).getD j 0=0
 | 0,_=>by
  refine ⟨by simp[sY],fun x c=>?_,by simp[sY,wY,lO],fun j D=>?_⟩
  ·rw[(mI.1 c).2];omega
  simp only[sY];rw[aB,fO];split<;>rfl
 | i+1,hi=>by
  obtain ⟨s,e,u,f⟩:=Ca g y m E i om;have c:=y.get (show i<a.length by omega);simp only[sY];generalize sY B a b (List.replicate n 0) i=o at s e u f ⊢;obtain ⟨z,A,F,J,C,K⟩:=rQ g c m (i:=i) e (b.length+1) om;obtain ⟨r1,r2⟩:=AA g c m (i:=i) e om (f _ (aI _));refine ⟨by rw[z,s],A,?_,fun j D=>by rw[C j om];exact f j om⟩;rw[r2,u,lO,jU,cV]
theorem AB {B:Nat}(c:2<=B){a b:List Int}(g:InB B a)(m:InB B b){n:Nat}(o:a.length+b.length+1<=n):gV (sY B a b (List.replicate n 0) a.length)=aJ B (aQ B a*aQ B b).toNat:=by
 obtain ⟨s,e,f,u⟩:=Ca c g m o a.length (aI _);rw[iJ c e,f,lJ _ _ _ (aI _)]
def jZ (B:Nat)(d:Int)(a:List Int):Nat->List Int × Int
 | 0=>(List.replicate a.length 0,0)
 | m+1=>((jZ B d a m).1.set (a.length-1-m) ((a.getD (a.length-1-m) 0+(jZ B d a m).2*B)/d),(a.getD (a.length-1-m) 0+(jZ B d a m).2*B)%d)
theorem fA (l:List Int)(i:Nat)(h:i<l.length):l.drop i=l.getD i 0::l.drop (i+1):=by
 rw[kH h];congr 1
 simp[aB,h]
theorem uG {B:Nat}(F:2<=B){d:Int}(s:0<d){a:List Int}(E:InB B a):∀m,m<=a.length->(jZ B d a m).1.length=a.length/\InB B (jZ B d a m).1/\(0<=(jZ B d a m).2/\(jZ B d a m).2<d)/\
  aQ B ((jZ B d a m).1.drop (a.length-m))*d+(jZ B d a m).2=aQ B (a.drop (a.length-m))
 | 0,_=>by
  refine ⟨by simp[jZ],fun x K=>?_,by simp only[jZ];omega,?_⟩
  ·rw[(mI.1 K).2];omega
  simp only[jZ];rw[dK si,dK om];simp[aQ]
 | m+1,hm=>by
  obtain ⟨A,C,D,o⟩:=uG F s E m om;obtain ⟨i,hi⟩:∃i,a.length-1-m=i:=⟨_,rfl⟩;have e1:a.length-m=i+1:=om;have e2:a.length-(m+1)=i:=om;have W:=E.get (show i<a.length by omega);simp only[jZ];rw[hi,e2];rw[e1] at o;generalize (jZ B d a m).1=q at A C o ⊢;generalize (jZ B d a m).2=r at D o ⊢;have J:0<=r*B:=cU D.1 om;have u:r*B<=(d-1)*B:=bR om om;rw[Bb,iZ] at u;have e:=jJ (a.getD i 0+r*B) (show d≠0 by omega);have f:=fQ (a.getD i 0+r*B) s;have c:=iH (a.getD i 0+r*B) d;have g:0<=(a.getD i 0+r*B)/d:=eF om om;have n:(a.getD i 0+r*B)/d<B:=fK s (by rw[bU (B:Int) d];omega);generalize (a.getD i 0+r*B)/d=y at c g n ⊢;generalize (a.getD i 0+r*B)%d=z at c e f ⊢;refine ⟨by rw[fE,A],Gy C _ ⟨g,n⟩,⟨e,f⟩,?_⟩;have e3:(q.set i y).drop i=y::q.drop (i+1):=by
   rw[fA _ _ (by rw[fE];omega),nR _ _ _ om,aE rfl,List.drop_set_of_lt om]
  rw[e3,fA a i om];simp only[aQ];rw[<- o,jU,cY,cV,bU y d,bU (B:Int) r];omega
theorem AC {B:Nat}(f:2<=B){d:Int}(m:0<d)(s:d<B){a:List Int}(o:InB B a):
  gV (jZ B d a a.length).1=aJ B (aQ B a/d).toNat/\(jZ B d a a.length).2=aQ B a%d/\gV [(jZ B d a a.length).2]=aJ B (aQ B a%d).toNat:=by
 obtain ⟨u,n,c,g⟩:=uG f m o a.length (aI _);rw[kW,eN,eN] at g;have e:aQ B a/d=aQ B (jZ B d a a.length).1/\aQ B a%d=(jZ B d a a.length).2:=by
  rw[sR m];exact ⟨by rw[iT,bU];exact g,c.1,c.2⟩
 refine ⟨by rw[iJ f n,e.1],e.2.symm,?_⟩;rw[iJ f (InB.cons.2 ⟨⟨c.1,om⟩,InB.nil⟩),e.2];simp[aQ]
theorem kI {B:Nat}(f:2<=B){n:Nat}(C:0<n):(B:Int)^ ((aJ B n).length-1)<=n/\(n:Int)<(B:Int)^ (aJ B n).length/\0<(aJ B n).length:=by
 have s:=vX (dE f n);have c:aJ B n≠ []:=fun e=>by have:=(wZ f).1 e;omega
 have A:=yB f n c;have m:0<(aJ B n).length:=cB.2 c;have o:=jC f n;rw[o] at s;refine ⟨?_,s,m⟩;have g:=dE f n;rw[<- gO c] at o g;obtain ⟨u,x⟩:=InB.append.1 g;obtain ⟨D,_⟩:=InB.cons.1 x;rw[uU,List.length_dropLast] at o;have y:=eB u;have z:(B:Int)^ ((aJ B n).length-1)*1<=(B:Int)^ ((aJ B n).length-1)*(aJ B n).getLast c:=aZ om (eM (kR f _));omega
theorem pV {B:Nat}(c:2<=B){m n:Nat}(h:(aJ B m).length<(aJ B n).length):m<n:=by
 have f:0<n:=by
  rcases dF n with e | e
  ·subst e;rw[eC] at h;simp at h
  exact e
 obtain ⟨u,x,y⟩:=kI c f;rcases dF m with e | e
 ·omega
 obtain ⟨g,o,s⟩:=kI c e;have:=nP c (show (aJ B m).length<=(aJ B n).length-1 by omega);omega
theorem Kj {B:Nat}(g:2<=B){a b:List Int}(m:InB B a)(n:InB B b)(o:a.length=b.length){i:Nat}(hi:i<a.length)(e:∀j,i<j->j<a.length->a.getD j 0=b.getD j 0)(s:a.getD i 0<b.getD i 0):aQ B a<aQ B b:=by
 have e1:aQ B a=lO B a i+(B:Int)^i*aQ B (a.drop i):=by
  rw[uE B a i om];have:=pC (B:=B) (a.drop i) (a.take i);rw[gC,aW,dB om] at this;exact this
 have e2:aQ B b=lO B b i+(B:Int)^i*aQ B (b.drop i):=by
  rw[uE B b i om];have:=pC (B:=B) (b.drop i) (b.take i);rw[gC,aW,dB om] at this;exact this
 have e3:a.drop (i+1)=b.drop (i+1):=by
  refine xH (by simp[o]) fun j c u=>?_;rw[qR,qR];rw[bT] at c;have:=e (i+1+j) om om;simpa [aB,show i+1+j<a.length by omega,show i+1+j<b.length by omega] using this
 rw[fA a i hi] at e1;rw[fA b i om,<- e3] at e2;simp only[aQ] at e1 e2;have y:lO B a i<(B:Int)^i:=by
  rw[uE B a i om];have:=vX (B:=B) (l:=a.take i) (fun x f=>m x (dV f));rwa [aW,dB om] at this
 have z:0<=lO B b i:=by
  rw[uE B b i om];exact eB (fun x f=>n x (dV f))
 have c:(B:Int)^i*(a.getD i 0+1)<=(B:Int)^i*b.getD i 0:=aZ om (eM (kR g i));rw[cY,fR] at c;rw[cY] at e1 e2;omega
theorem rR {a b:List Int}(f:a.length=b.length)(h:∀j,j<a.length->a.getD j 0=b.getD j 0):a=b:=by
 refine xH f fun j c e=>?_;have:=h j c;simpa [aB,c,e] using this
def fN (B:Nat)(u v:List Int)(j:Nat)(q:Int):Nat->List Int × Int
 | 0=>(u,0)
 | k+1=>
  let n:=(fN B u v j q k).1.getD (j+k) 0-(fN B u v j q k).2-q*v.getD k 0
  let c:=if n<0 then (-n+B-1)/B else 0
  ((fN B u v j q k).1.set (j+k) (n+c*B),c)
theorem rS {B:Nat}(W:2<=B){u v:List Int}(D:InB B u)(E:InB B v){j:Nat}{q:Int}(x:0<=q):∀k,j+k<=u.length->(fN B u v j q k).1.length=u.length/\InB B (fN B u v j q k).1/\
  (0<=(fN B u v j q k).2/\(fN B u v j q k).2<=q+1)/\aQ B (fN B u v j q k).1-(B:Int)^ (j+k)*(fN B u v j q k).2=aQ B u-(B:Int)^j*(q*lO B v k)/\
  (∀i,j+k<=i->(fN B u v j q k).1.getD i 0=u.getD i 0)/\∀i,i<j->(fN B u v j q k).1.getD i 0=u.getD i 0
 | 0,_=>⟨rfl,D,by simp only[fN];omega,by simp[fN,lO],fun _ _=>rfl,fun _ _=>rfl⟩
 | k+1,hk=>by
  obtain ⟨y,m,K,z,A,C⟩:=rS W D E (j:=j) x k om;have F:=E.getD0 om k;have J:=m.getD0 om (j+k);simp only[fN];generalize (fN B u v j q k).1=o at y m z A C J ⊢;generalize (fN B u v j q k).2=c at K z ⊢;have Y:0<=q*v.getD k 0:=cU x F.1;have s:q*v.getD k 0<=q*((B:Int)-1):=aZ om x;rw[iY,fR] at s;obtain ⟨n,X⟩:∃n,o.getD (j+k) 0-c-q*v.getD k 0=n:=⟨_,rfl⟩;rw[X];obtain ⟨d,g⟩:∃d,(if n<0 then (-n+(B:Int)-1)/B else 0)=d:=⟨_,rfl⟩;rw[g];have f:0<=d/\d<=q+1/\0<=n+d*B/\n+d*B<B:=by
   by_cases e:n<0
   ·rw[aE e] at g;have e1:=iH (-n+(B:Int)-1) B;have e2:=jJ (-n+(B:Int)-1) (show (B:Int)≠0 by omega);have e3:=fQ (-n+(B:Int)-1) (show 0<(B:Int) by omega);have e4:0<=(-n+(B:Int)-1)/B:=eF om om;have e5:(-n+(B:Int)-1)/B<q+2:=fK om (by rw[jU];omega);rw[g] at e1 e4 e5;rw[bU] at e1;exact ⟨e4,om,om,om⟩
   rw[aD e] at g;subst g;rw[tX];omega
  refine ⟨by rw[fE,y],Gy m _ f.2.2,⟨f.1,f.2.1⟩,?_,fun i hi=>?_,fun i hi=>?_⟩
  ·rw[Fq _ _ _ om,lO,<- iS,gN];have e1:q*(lO B v k+(B:Int)^k*v.getD k 0)=q*lO B v k+(B:Int)^k*(q*v.getD k 0):=by
    rw[cY,<- cV,<- cV,bU q ((B:Int)^k)]
   have e2:(B:Int)^j*((B:Int)^k*(q*v.getD k 0))=(B:Int)^ (j+k)*(q*v.getD k 0):=by rw[<- cV,vS]
   rw[e1,cY,e2,cV];have e3:(B:Int)^ (j+k)*(n+d*B-o.getD (j+k) 0)-(B:Int)^ (j+k)*((B:Int)*d)= -((B:Int)^ (j+k)*(q*v.getD k 0))-(B:Int)^ (j+k)*c:=by
    rw[<- iY,<- Int.mul_neg,<- iY];congr 1
    rw[bU d];omega
   omega
  ·rw[nR _ _ _ om,aD om,A i om]
  rw[nR _ _ _ om,aD om,C i hi]
theorem E3 {B:Nat}(o:2<=B):∀ {a b:List Int},InB B a->InB B b->a.length=b.length->aQ B a=aQ B b->a=b
 | [],[],_,_,_,_=>rfl
 | x::r,y::s,ha,hb,hl,hv=>by
  obtain ⟨c,f⟩:=InB.cons.1 ha;obtain ⟨e,g⟩:=InB.cons.1 hb;simp only[aQ] at hv;have e1:x=y:=by
   have m:(x+(B:Int)*aQ B r)%B=x:=by rw[Int.add_mul_emod_self_left,Int.emod_eq_of_lt c.1 c.2]
   have n:(y+(B:Int)*aQ B s)%B=y:=by rw[Int.add_mul_emod_self_left,Int.emod_eq_of_lt e.1 e.2]
   rw[<- m,<- n,hv]
  subst e1;have e2:aQ B r=aQ B s:=by
   have:(B:Int)*aQ B r=B*aQ B s:=om;exact Int.eq_of_mul_eq_mul_left om this
  rw[E3 o f g (by simpa using hl) e2]
 | [],_:: _,_,_,hl,_=>by simp at hl
 | _:: _,[],_,_,hl,_=>by simp at hl
theorem G6 {B V W c top P Q:Int}(n:0<P)(f:0<c)(o:c*P<=V)(u:W<(top+1)*P)(e:0<=Q)(s:Q*V<=W):Q<=top/c:=by
 rw[iA f];have g:Q*(c*P)<=Q*V:=aZ o e;rw[<- cV] at g;have m:(Q*c)*P<(top+1)*P:=om;have:=nY m (eM n);omega
theorem LX {B V W e f n top q r P Q:Int}(y:0<P)(A:0<=q)(D:0<=B)(z:(e*B+f)*P<=V)(g:0<=V)(F:W<(top*B+n+1)*P)(c:top=q*e+r)(o:r*B+n<q*f)(E:Q*V<=W):Q<=q-1:=by
 apply aS;intro J;have m:q<=Q:=om;have C:q*V<=Q*V:=bR m g;have s:q*((e*B+f)*P)<=q*V:=aZ z A;rw[<- cV] at s;have u:(q*(e*B+f))*P<(top*B+n+1)*P:=om;have x:=nY u (eM y);rw[cY,<- cV,c,jU] at x;omega
theorem Gz {B:Nat}(hB:2<=B){x:Int}(y:0<=x){b:List Int}(E:InB B b){i:Nat}{e:List Int}(W:InB B e):∀k,i+k<=e.length->(iB B x b i e k).1.length=e.length/\InB B (iB B x b i e k).1/\
  (0<=(iB B x b i e k).2/\(iB B x b i e k).2<=x)/\aQ B (iB B x b i e k).1+(B:Int)^ (i+k)*(iB B x b i e k).2=aQ B e+(B:Int)^i*(x*lO B b k)/\
  (∀j,i+k<=j->(iB B x b i e k).1.getD j 0=e.getD j 0)/\∀j,j<i->(iB B x b i e k).1.getD j 0=e.getD j 0
 | 0,_=>⟨rfl,W,by simp only[iB];omega,by simp[iB,lO],fun _ _=>rfl,fun _ _=>rfl⟩
 | k+1,hk=>by
  obtain ⟨z,n,Z,A,C,D⟩:=Gz hB y E (i:=i) W k om;have X:=E.getD0 om k;have Y:=n.getD0 om (i+k);simp only[iB];generalize (iB B x b i e k).1=o at z n A C D Y ⊢;generalize (iB B x b i e k).2=c at Z A ⊢;have a0:0<=x*b.getD k 0:=cU y X.1;have u:x*b.getD k 0<=x*((B:Int)-1):=aZ om y;rw[iY,fR] at u;have K:=jJ (o.getD (i+k) 0+x*b.getD k 0+c) (show (B:Int)≠0 by omega);have g:=fQ (o.getD (i+k) 0+x*b.getD k 0+c) (show 0<(B:Int) by omega);have F:=iH (o.getD (i+k) 0+x*b.getD k 0+c) B;have f:0<=(o.getD (i+k) 0+x*b.getD k 0+c)/B:=eF om om;have s:(o.getD (i+k) 0+x*b.getD k 0+c)/B<x+1:=fK om (by rw[jU];omega);generalize (o.getD (i+k) 0+x*b.getD k 0+c)%B=m at K g F ⊢;generalize (o.getD (i+k) 0+x*b.getD k 0+c)/B=d at F f s ⊢;refine ⟨by rw[fE,z],Gy n _ ⟨K,g⟩,⟨f,om⟩,?_,fun j J=>?_,fun j J=>?_⟩
  ·rw[Fq _ _ _ om,lO,<- iS,gN];have e1:x*(lO B b k+(B:Int)^k*b.getD k 0)=x*lO B b k+(B:Int)^k*(x*b.getD k 0):=by
    rw[cY,<- cV,<- cV,bU x ((B:Int)^k)]
   have e2:(B:Int)^i*((B:Int)^k*(x*b.getD k 0))=(B:Int)^ (i+k)*(x*b.getD k 0):=by rw[<- cV,vS]
   rw[e1,cY,e2,cV];have e3:(B:Int)^ (i+k)*(m-o.getD (i+k) 0)+(B:Int)^ (i+k)*((B:Int)*d)=(B:Int)^ (i+k)*(x*b.getD k 0)+(B:Int)^ (i+k)*c:=by
    rw[<- cY,<- cY];congr 1
    omega
   omega
  ·rw[nR _ _ _ om,aD om,C j om]
  rw[nR _ _ _ om,aD om,D j J]
theorem CL {B:Nat}(g:2<=B){u v:List Int}(m:InB B u)(J:InB B v){j:Nat}{q:Int}(F:0<=q){k:Nat}(hk:j+k<=u.length):(iB B q v j (fN B u v j q k).1 k).1=u:=by
 obtain ⟨z,A,h3,C,D,h6⟩:=rS g m J (j:=j) F k hk;generalize (fN B u v j q k).2=c at h3 C;obtain ⟨n,f,g3,o,s,y⟩:=Gz g F J (i:=j) A k om;generalize (iB B q v j (fN B u v j q k).1 k).2=c' at g3 o;generalize (iB B q v j (fN B u v j q k).1 k).1=w at n f o s y ⊢;generalize (fN B u v j q k).1=u1 at z A C D h6 n o s y
 -- outside the window nothing has changed; within it the values agree but for a multiple
 have e0:aQ B w+(B:Int)^ (j+k)*c'=aQ B u+(B:Int)^ (j+k)*c:=om;have K:∀l:List Int,l.length=u.length->aQ B l=aQ B (l.take (j+k))+(B:Int)^ (j+k)*aQ B (l.drop (j+k)):=fun l hl=>by
  have:=pC (B:=B) (l.drop (j+k)) (l.take (j+k));rw[gC,aW,dB om] at this;exact this
 have Z:w.drop (j+k)=u.drop (j+k):=by
  refine rR (by simp[n,z]) fun i hi=>?_;have:=s (j+k+i) om;rw[D _ om] at this;simpa [aB,aX] using this
 have s1:=K w om;have s2:=K u rfl;rw[Z] at s1;have W:=vX (B:=B) (l:=w.take (j+k)) (fun x e=>f x (dV e));have X:=vX (B:=B) (l:=u.take (j+k)) (fun x e=>m x (dV e));have b3:=eB (B:=B) (l:=w.take (j+k)) (fun x e=>f x (dV e));have b4:=eB (B:=B) (l:=u.take (j+k)) (fun x e=>m x (dV e));rw[aW,dB om] at W X;have E:=kR g (j+k);have Y:c'=c:=by
  rcases Int.lt_trichotomy c' c with h | h | h
  ·have:(B:Int)^ (j+k)*(c'+1)<=(B:Int)^ (j+k)*c:=aZ om (eM E);rw[cY,fR] at this;omega
  ·exact h
  have:(B:Int)^ (j+k)*(c+1)<=(B:Int)^ (j+k)*c':=aZ om (eM E);rw[cY,fR] at this;omega
 subst Y;exact E3 g f m om om
theorem mV {B:Nat}(l:List Int)(j:Nat)(c:j<=l.length):aQ B l=aQ B (l.take j)+(B:Int)^j*aQ B (l.drop j):=by
 have:=pC (B:=B) (l.drop j) (l.take j);rw[gC,aW,dB c] at this;exact this
theorem tQ {B:Nat}{l:List Int}(h:InB B l)(j:Nat):InB B (l.take j):=fun x c=>h x (dV c)
theorem oR {B:Nat}{l:List Int}(h:InB B l)(j:Nat):InB B (l.drop j):=fun x c=>h x (gR c)
theorem Rn {B:Nat}(e:2<=B){l:List Int}(h:InB B l){n:Nat}(x:aQ B l<(B:Int)^n)(i:Nat)(hi:n<=i):l.getD i 0=0:=by
 by_cases c:i<l.length
 ·have e1:=mV (B:=B) l i om;rw[fA l i c] at e1;simp only[aQ] at e1;have m:=eB (tQ h i);have f:=eB (oR h (i+1));have o:=(h.get c).1;have s:0<=(B:Int)*aQ B (l.drop (i+1)):=cU om f;have u:=nP e hi;apply aS;intro g;have:(B:Int)^i*1<=(B:Int)^i*(l.getD i 0+(B:Int)*aQ B (l.drop (i+1))):=aZ om (eM (kR e i));omega
 exact mN l i om
theorem E4 {B:Nat}(g:2<=B){l:List Int}(h:InB B l){n:Nat}(m:∀i,n<=i->l.getD i 0=0):aQ B l<(B:Int)^n:=by
 by_cases f:n<=l.length
 ·have e1:=mV (B:=B) l n f;have e2:aQ B (l.drop n)=0:=by
   have:l.drop n=List.replicate (l.length-n) 0:=by
    refine rR si fun j e=>?_;have:=m (n+j) om;rw[bT] at e;have c:n+j<l.length:=om;simpa [aB,aX,fO,e,c] using this
   rw[this,wY]
  rw[e2,dO,fD] at e1;rw[e1];have:=vX (tQ h n);rwa [aW,dB f] at this
 exact nQ g h om
theorem Fr (l:List Int)(j i:Nat):(l.drop j).getD i 0=l.getD (j+i) 0:=by simp[aB,aX]
theorem AD {B:Nat}(g:2<=B){u v:List Int}(K:InB B u)(W:InB B v){j:Nat}{q:Int}(J:0<=q)(D:j+(v.length+1)<=u.length)(X:∀i,j+(v.length+1)<=i->u.getD i 0=0):
  ((fN B u v j q (v.length+1)).2=0↔q*aQ B v<=aQ B (u.drop j))/\
  ((fN B u v j q (v.length+1)).2=0->aQ B ((fN B u v j q (v.length+1)).1.drop j)=aQ B (u.drop j)-q*aQ B v):=by
 obtain ⟨x,m,C,n,y,z⟩:=rS g K W (j:=j) J (v.length+1) D;rw[lJ _ _ _ om] at n;generalize (fN B u v j q (v.length+1)).2=c at C n ⊢;generalize (fN B u v j q (v.length+1)).1=w at x m n y z ⊢;have Y:=mV (B:=B) w j om;have s2:=mV (B:=B) u j om;have A:w.take j=u.take j:=by
  refine rR (by simp[x]) fun i hi=>?_;rw[aW] at hi;have:=z i om;simpa [aB,show i<j by omega,aL] using this
 rw[A] at Y;have hP:=kR g j;have f:aQ B (w.drop j)-(B:Int)^ (v.length+1)*c=aQ B (u.drop j)-q*aQ B v:=by
  have e:(B:Int)^j*(aQ B (w.drop j)-(B:Int)^ (v.length+1)*c)=(B:Int)^j*(aQ B (u.drop j)-q*aQ B v):=by
   rw[iY,iY,<- cV,<- vS];omega
  exact Int.eq_of_mul_eq_mul_left om e
 have Z:=eB (oR m j);have b2:aQ B (w.drop j)<(B:Int)^ (v.length+1):=E4 g (oR m j) fun i hi=>by
  rw[Fr,y _ om,X _ om]
 have o:=kR g (v.length+1);refine ⟨⟨fun s=>?_,fun E=>?_⟩,fun s=>?_⟩
 ·rw[s,dO] at f;omega
 ·apply aS;intro F;have:(B:Int)^ (v.length+1)*1<=(B:Int)^ (v.length+1)*c:=aZ om (eM o);omega
 rw[s,dO] at f;omega
def gX (B:Nat)(u v:List Int)(m:Nat):Nat->List Int × List Int
 | 0=>(u,List.replicate m 0)
 | s+1=>((fN B (gX B u v m s).1 v (m-1-s) (aQ B ((gX B u v m s).1.drop (m-1-s))/aQ B v) (v.length+1)).1,(gX B u v m s).2.set (m-1-s) (aQ B ((gX B u v m s).1.drop (m-1-s))/aQ B v))
theorem yC {B:Nat}(o:2<=B){u v:List Int}(hu:InB B u)(y:InB B v)(C:0<aQ B v){m:Nat}(hm:m+v.length=u.length)(F:aQ B (u.drop m)<aQ B v):∀s,s<=m->
  (gX B u v m s).1.length=u.length/\InB B (gX B u v m s).1/\(gX B u v m s).2.length=m/\InB B (gX B u v m s).2/\aQ B ((gX B u v m s).1.drop (m-s))<aQ B v/\
  aQ B u=aQ B (gX B u v m s).1+(B:Int)^ (m-s)*(aQ B v*aQ B ((gX B u v m s).2.drop (m-s)))
 | 0,_=>by
  refine ⟨rfl,hu,by simp[gX],fun x hx=>?_,F,?_⟩
  ·rw[(mI.1 hx).2];omega
  simp only[gX];rw[@dK _ (List.replicate m (0:Int)) _ si];simp[aQ]
 | s+1,hs=>by
  obtain ⟨J,e,K,X,Y,g⟩:=yC o hu y C hm F s om;obtain ⟨j,hj⟩:∃j,m-1-s=j:=⟨_,rfl⟩;have e1:m-s=j+1:=om;have e2:m-(s+1)=j:=om;simp only[gX];rw[hj,e2];rw[e1] at Y g;generalize (gX B u v m s).1=w at J e Y g ⊢;generalize (gX B u v m s).2=p at K X g ⊢;have hw:aQ B (w.drop j)=w.getD j 0+(B:Int)*aQ B (w.drop (j+1)):=by rw[fA w j om];rfl
  have g1:=e.get (show j<w.length by omega);have a1:=vX y;have hz:∀i,j+(v.length+1)<=i->w.getD i 0=0:=fun i hi=>by
   have:=Rn o (oR e (j+1)) (n:=v.length) om (i-(j+1)) om;rw[Fr] at this;rwa [show j+1+(i-(j+1))=i by omega] at this
  have a2:=eB (oR e j);obtain ⟨W,Z⟩:∃W,aQ B (w.drop j)=W:=⟨_,rfl⟩;obtain ⟨Q,f⟩:∃Q,W/aQ B v=Q:=⟨_,rfl⟩;have c:0<=Q:=by rw[<- f];exact eF om om
  have A:Q*aQ B v<=W:=by rw[<- f];exact oU _ om
  have D:W<(B:Int)*aQ B v:=by
   have:(B:Int)*(aQ B (w.drop (j+1))+1)<=B*aQ B v:=aZ om om;rw[cY,fR] at this;omega
  have z:Q<B:=by rw[<- f];exact fK C D
  have E:=iH W (aQ B v);have a0:=fQ W C;rw[f,bU] at E;rw[Z,f];obtain ⟨t1,t2,t3,t4,t5,t6⟩:=rS o e y (j:=j) c (v.length+1) om;obtain ⟨i1,i2⟩:=AD o e y (j:=j) c om hz;rw[Z] at i1 i2;have hc:=i1.2 A;have hr:=i2 hc;rw[hc,dO,Int.sub_zero,lJ _ _ _ om] at t4;refine ⟨by rw[t1,J],t2,by rw[fE,K],Gy X _ ⟨c,z⟩,om,?_⟩;have e3:(p.set j Q).drop j=Q::p.drop (j+1):=by
   rw[fA _ _ (by rw[fE];omega),nR _ _ _ om,aE rfl,List.drop_set_of_lt om]
  rw[e3,g,t4];simp only[aQ];rw[cY (aQ B v),cY,gN,bU (aQ B v) Q,cV ((B:Int)^j) (B:Int),Int.mul_left_comm (aQ B v) (B:Int)];omega
theorem G7 {B:Nat}(e:2<=B){u v:List Int}(z:InB B u)(A:InB B v)(o:0<aQ B v){m:Nat}(y:m+v.length=u.length)(s:aQ B (u.drop m)<aQ B v):
  gV (gX B u v m m).2=aJ B (aQ B u/aQ B v).toNat/\gV (gX B u v m m).1=aJ B (aQ B u%aQ B v).toNat:=by
 obtain ⟨C,f,D,x,g,c⟩:=yC e z A o y s m (aI _);rw[kW,eN] at g c;rw[Int.pow_zero,iZ] at c;have n:aQ B u/aQ B v=aQ B (gX B u v m m).2/\aQ B u%aQ B v=aQ B (gX B u v m m).1:=by
  rw[sR o];exact ⟨c.symm,eB f,g⟩
 exact ⟨by rw[iJ e x,n.1],by rw[iJ e f,n.2]⟩
def Vg (B v1 v2 u2:Int):Nat->Int->Int->Int
 | 0,q,_=>q
 | f+1,q,r=>if B<=q\/(r<B/\r*B+u2<q*v2) then (if B<=r+v1 then q-1 else Vg B v1 v2 u2 f (q-1) (r+v1)) else q
theorem E5 {B V W c n m top P Q:Int}(z:0<P)(y:0<=B)(C:(c*B+n)*P<=V)(e:0<=V)(D:W<(top*B+m+1)*P)(s:Q<B)(o:0<=Q)(A:Q*V<=W):∀(f:Nat) (q r:Int),top=q*c+r->Q<=q->Q<=Vg B c n m f q r/\Vg B c n m f q r<=q
 | 0,q,r,_,hq=>⟨hq,vR _⟩
 | f+1,q,r,ht,hq=>by
  simp only[Vg];by_cases u:B<=q\/(r<B/\r*B+m<q*n)
  ·rw[aE u];have g:Q<=q-1:=by
    rcases u with h | ⟨_,h⟩
    ·omega
    exact LX z om y C e D ht h A
   by_cases x:B<=r+c
   ·rw[aE x];exact ⟨g,om⟩
   rw[aD x];obtain ⟨E,F⟩:=E5 z y C e D s o A f (q-1) (r+c) (by rw[Bb,iZ];omega) g;exact ⟨E,om⟩
  rw[aD u];exact ⟨hq,vR _⟩
theorem PK {V R t3 top P:Int}(n:0<P)(x:0<=top)(o:V<=(top+1)*P)(c:0<V)(u:t3*P<=R)(f:0<=t3):0<=t3/(top+1)/\t3/(top+1)<=R/V:=by
 have e:0<=t3/(top+1):=eF f om;refine ⟨e,?_⟩;rw[iA c];have g:t3/(top+1)*(top+1)<=t3:=oU _ om;have m:t3/(top+1)*V<=t3/(top+1)*((top+1)*P):=aZ o e;rw[<- cV] at m;have s:t3/(top+1)*(top+1)*P<=t3*P:=bR g (eM n);omega
theorem CM {B t f:Int}(o:1<=t)(s:t<B)(c:f=B/(t+1)):1<=f/\f*(t+1)<=B/\B<=4*(f*t):=by
 have e:f*(t+1)<=B:=by rw[c];exact oU _ om
 have m:B<(f+1)*(t+1):=by rw[c];exact Int.lt_ediv_add_one_mul_self _ om
 have g:1<=f:=by rw[c,iA om];omega
 refine ⟨g,e,?_⟩;rw[cY,fR] at e;rw[jU,iZ,cY,fR] at m
 -- B < f t + f + t + 1 and f, t >= 1, so that f + t <= f t + 1
 have n:0<=(f-1)*(t-1):=cU om om;rw[Bb,iY,fR,iZ] at n;have u:1*1<=f*t:=Int.mul_le_mul g o om om;omega
open Go.Lib
def dN (c:UInt8):Prop:=48<=c.toNat/\c.toNat<=57
instance (c:UInt8):Decidable (dN c):=by unfold dN;exact inferInstance
def bH (s:Bx):Nat:=s.foldl (fun n c=>10*n+(c.toNat-48)) 0
theorem kC (s:Bx)(c:UInt8):bH (s++ [c])=10*bH s+(c.toNat-48):=by simp[bH]
theorem lU {d:Nat}(h:d<10):(UInt8.ofNat (48+d)).toNat=48+d:=by
 rw[mE];omega
theorem AE {c:UInt8}(h:dN c):UInt8.ofNat (48+(c.toNat-48))=c:=by
 obtain ⟨e,f⟩:=h;rw[show 48+(c.toNat-48)=c.toNat by omega];simp
theorem kZ {n:Nat}(h:n<10):decDigits n= [UInt8.ofNat (48+n)]:=decDigits_one h
theorem yD {n:Nat}(h:¬n<10):decDigits n=decDigits (n/10)++ [UInt8.ofNat (48+n%10)]:=by rw[decDigits,Gb h]
theorem kJ:∀n:Nat,bH (decDigits n)=n:=by
 intro n
 induction n using Nat.strongRecOn with
 | _ n ih=>
  by_cases h:n<10
  ·rw[kZ h];show bH ([]++ [_])=n;rw[kC,lU h];simp[bH]
  rw[yD h,kC,ih _ om,lU om];omega
theorem sB:∀(n:Nat) (c:UInt8),c∈decDigits n->dN c:=by
 intro n
 induction n using Nat.strongRecOn with
 | _ n ih=>
  intro c e;by_cases h:n<10
  ·rw[kZ h] at e;have:=mG.1 e;subst this;unfold dN;rw[lU h];omega
  rw[yD h] at e;rcases eT.1 e with e | e
  ·exact ih _ om c e
  have:=mG.1 e;subst this;unfold dN;rw[lU om];omega
theorem Ao (n:Nat):decDigits n≠ []:=by
 by_cases h:n<10
 ·rw[kZ h];simp
 rw[yD h];simp
theorem Fs:∀n:Nat,0<n->(decDigits n).headD 0≠48:=by
 intro n
 induction n using Nat.strongRecOn with
 | _ n ih=>
  intro c;by_cases h:n<10
  ·rw[kZ h];intro e;have:=aR UInt8.toNat e;simp only[yX] at this;rw[lU h] at this;have e2:(48:UInt8).toNat=48:=rfl;omega
  rw[yD h];have:=ih (n/10) om om;cases hd:decDigits (n/10) with
  | nil=>exact (Ao _ hd).elim
  | cons x r=>rw[hd] at this;exact this
theorem xA:∀(k:Nat) (s:Bx),s.length=k->s≠ []->(∀c∈s,dN c)->(s.length=1\/s.headD 0≠48)->decDigits (bH s)=s:=by
 intro k
 induction k with
 | zero=>intro s u o;exact (o (cL.1 u)).elim
 | succ k ih=>
  intro s u o z B;obtain ⟨t,c,rfl⟩:∃t c,s=t++ [c]:=⟨s.dropLast,s.getLast o,(gO o).symm⟩;have g:=z c si;have y:=g;obtain ⟨C,D⟩:=y;rw[kC];by_cases n:t= []
  ·subst n;have e:bH []=0:=rfl;rw[e,kZ om,Nat.mul_zero,eS,AE g];rfl
  have m:t.length=k:=by simpa using u
  have A:0<t.length:=cB.2 n;have f:t.headD 0≠48:=by
   rcases B with h | h
   ·simp at h;exact (n h).elim
   cases t with
   | nil=>exact (n rfl).elim
   | cons x r=>exact h
  have e:=ih t m n (fun c g=>z c (sP _ g)) (.inr f);have E:0<bH t:=by
   rcases dF (bH t) with h | h
   ·rw[h,kZ om] at e;rw[<- e] at f;exact (f rfl).elim
   exact h
  rw[yD om,show (10*bH t+(c.toNat-48))/10=bH t by omega,e,show (10*bH t+(c.toNat-48))%10=c.toNat-48 by omega,AE g]
theorem E6 {m n:Nat}(h:decDigits m=decDigits n):m=n:=by rw[<- kJ m,h,kJ]
theorem LY {m n:Int}(h:itoa m=itoa n):m=n:=by
 have c:∀(a b:Nat),45::decDigits a≠decDigits b:=fun a b e=>by
  have:=sB b 45 (by rw[<- e];simp);have e2:(45:UInt8).toNat=45:=rfl;unfold dN at this;omega
 unfold itoa at h;split at h
 ·split at h
  ·have:=E6 (List.cons.inj h).2;omega
  exact (c _ _ h).elim
 split at h
 ·exact (c _ _ h.symm).elim
 have:=E6 h;omega
open Go.Lib
def digs (s:Bx):Bx:=if s.headD 0=45 then s.tail else s
def bK (s:Bx):Int:=if s.headD 0=45 then -(bH s.tail:Int) else bH s
def gW (s:Bx):Prop:=digs s≠ []/\((digs s).headD 0≠48\/s= [48])/\∀c∈digs s,dN c
instance (s:Bx):Decidable (gW s):=Cp
def iO (s:Bx):Int:=if gW s then (if 300<(digs s).length then 4 else 0) else 11
theorem Bw (n:Int):(itoa n).headD 0=45↔n<0:=by
 unfold itoa;split
 ·rename_i h;exact ⟨fun _=>h,fun _=>rfl⟩
 rename_i h;refine ⟨fun e=>?_,fun c=>(h c).elim⟩;exfalso;cases hd:decDigits n.toNat with
 | nil=>exact Ao _ hd
 | cons x r=>
  rw[hd] at e;have:=sB n.toNat x (by rw[hd];simp);simp only[yX] at e;subst e;have e2:(45:UInt8).toNat=45:=rfl;unfold dN at this;omega
theorem gA (n:Int):digs (itoa n)=decDigits n.natAbs:=by
 unfold digs;by_cases h:n<0
 ·rw[aE ((Bw n).2 h)];unfold itoa;rw[aE h];rfl
 rw[aD (fun e=>h ((Bw n).1 e))];unfold itoa;rw[aD h];congr 1;omega
theorem pT (n:Int):bK (itoa n)=n:=by
 unfold bK;by_cases h:n<0
 ·rw[aE ((Bw n).2 h)];unfold itoa;rw[aE h];simp only[List.tail_cons];rw[kJ];omega
 rw[aD (fun e=>h ((Bw n).1 e))];unfold itoa;rw[aD h,kJ];omega
theorem uD (n:Int):gW (itoa n):=by
 refine ⟨by rw[gA];exact Ao _,?_,fun c e=>by rw[gA] at e;exact sB _ c e⟩;rw[gA];by_cases h:n=0
 ·right;subst h;exact kZ om
 left;exact Fs _ om
theorem ET {s:Bx}(h:gW s):s=itoa (bK s):=by
 obtain ⟨c,g,m⟩:=h;unfold digs at c g m;unfold bK;by_cases f:s.headD 0=45
 ·rw[aE f] at c g m ⊢;have z:s=45::s.tail:=by
   cases s with
   | nil=>exact (c rfl).elim
   | cons x r=>simp only[yX] at f;subst f;rfl
  have u:¬s= [48]:=fun e=>by rw[e] at f;cases f
  have o:s.tail.headD 0≠48:=by
   rcases g with h | h
   ·exact h
   exact (u h).elim
  have n:=xA _ s.tail rfl c m (.inr o);have y:0<bH s.tail:=by
   rcases dF (bH s.tail) with h | h
   ·rw[h] at n;rw[<- n] at o;exact (o (by rw[kZ om];rfl)).elim
   exact h
  unfold itoa;rw[aE om,show (-(bH s.tail:Int)).natAbs=bH s.tail by omega,n];exact z
 rw[aD f] at c g m ⊢
 have n:=xA _ s rfl c m (by
  rcases g with h | h
  ·exact .inr h
  left;rw[h];rfl)
 unfold itoa;rw[aD om,aU,n]
theorem LU {s:Bx}:gW s↔s=itoa (bK s):=⟨ET,fun h=>by rw[h];exact uD _⟩
theorem EU (q:Nat)(e:0<q):∀(k r:Nat),r<10^ (k+1)->decDigits (q*10^ (k+1)+r)=decDigits q++(List.replicate (k+1-(decDigits r).length) 48++decDigits r)
 | 0,r,c=>by
  have c:r<10:=by simpa using c
  rw[yD (by simp;omega),kZ c];simp only[eS,Nat.pow_one,dP,kW,List.replicate_zero,jI];rw[show (q*10+r)/10=q by omega,show (q*10+r)%10=r by omega]
 | k+1,r,c=>by
  have f:0<10^ (k+1):=Nat.pow_pos om;have m:q*10^ (k+1+1)=q*10^ (k+1)*10:=by rw[hU,gT]
  have g:q*10^ (k+1+1)+r=10*(q*10^ (k+1)+r/10)+r%10:=om;have o:0<q*10^ (k+1):=sM e f;rw[hU] at c;rw[yD om,show (q*10^ (k+1+1)+r)/10=q*10^ (k+1)+r/10 by omega,show (q*10^ (k+1+1)+r)%10=r%10 by omega,EU q e k (r/10) om];by_cases h:r<10
  ·rw[kZ h,show r/10=0 by omega,kZ (show 0<10 by omega),fT h];simp only[dP,bW];congr 1
   rw[show k+1+1-1=k+1-1+1 by omega,sQ];simp
  rw[yD (n:=r) h];simp only[aO,dP,bW];rw[show k+1+1-((decDigits (r/10)).length+1)=k+1-(decDigits (r/10)).length by omega]
open Go.Lib
theorem qG:∀(k n:Nat),n<10^ (k+1)->(decDigits n).length<=k+1
 | 0,n,h=>by rw[kZ (by simpa using h)];simp
 | k+1,n,h=>by
  by_cases c:n<10
  ·rw[kZ c];simp
  rw[hU] at h;rw[yD c];have:=qG k (n/10) om;simp only[aO,dP];omega
def Kh (l:List Int):Nat->Bx
 | 0=>[]
 | m+1=>Kh l m++((if 0<m then List.replicate (9-(itoa (l.getD (l.length-1-m) 0)).length) 48 else [])++itoa (l.getD (l.length-1-m) 0))
theorem Zw {l:List Int}(h:InB (10^9) l)(c:l≠ [])(u:l.getLast c≠0):∀m,m<l.length->0<aQ (10^9) (l.drop (l.length-1-m))/\Kh l (m+1)=decDigits (aQ (10^9) (l.drop (l.length-1-m))).toNat
 | 0,hm=>by
  have e1:l.getD (l.length-1) 0=l.getLast c:=by
   rw[List.getLast_eq_getElem,aB,aY om];rfl
  have e2:l.drop (l.length-1)= [l.getLast c]:=by
   rw[fA l _ om,e1,dK om]
  have g:=h.get (show l.length-1<l.length by omega);rw[e1] at g;rw[jP,e2];simp only[aQ,dO,fD,Kh,iQ,if_false,jI,jP];rw[e1];refine ⟨om,?_⟩;unfold itoa;rw[aD om]
 | m+1,hm=>by
  obtain ⟨f,e⟩:=Zw h c u m om;obtain ⟨i,hi⟩:∃i,l.length-1-(m+1)=i:=⟨_,rfl⟩;have e1:l.length-1-m=i+1:=om;rw[e1] at f e;rw[hi];have g:=h.get (show i<l.length by omega);have e2:l.drop i=l.getD i 0::l.drop (i+1):=fA l i om;rw[e2];simp only[aQ];obtain ⟨v,y⟩:=bL (eM f);obtain ⟨x,s⟩:=bL g.1;rw[y] at f e ⊢;rw[s] at g ⊢;have o:x<10^ (8+1):=by have:=g.2;omega
  have n:0<v:=om;have e3:((x:Int)+((10^9:Nat):Int)*(v:Int))=((v*10^ (8+1)+x:Nat):Int):=by
   rw[tE,dG,bU,iT]
  refine ⟨by rw[e3];omega,?_⟩;rw[e3,aU,EU v n 8 x o];rw[aU] at e;have e4:itoa (x:Int)=decDigits x:=by unfold itoa;rw[aD om,aU]
  rw[show Kh l (m+1+1)=Kh l (m+1)++((if 0<m+1 then List.replicate (9-(itoa (l.getD (l.length-1-(m+1)) 0)).length) 48 else [])++itoa (l.getD (l.length-1-(m+1)) 0)) from rfl,hi,s,e4,e,aE om]
theorem Zx (s:Bx):bH (48::s)=bH s:=by
 have e:(48:UInt8).toNat=48:=rfl;simp[bH,e]
theorem strip (s:Bx)(h:∀c∈s,dN c)(f:0<bH s):s.dropWhile (· ==48)=decDigits (bH s):=by
 induction s with
 | nil=>simp[bH] at f
 | cons c r ih=>
  by_cases e:c=48
  ·subst e;rw[Zx] at f ⊢;rw[nW si];exact ih (fun c g=>h c (cC _ g)) f
  rw[nX (by simpa using e)];exact (xA _ _ rfl si h (.inr (by simpa using e))).symm
open Go.Lib
theorem nat10_cons (c:UInt8)(s:Bx):bH (c::s)=(c.toNat-48)*10^s.length+bH s:=by
 refine list_snocU (fun s=>bH (c::s)=(c.toNat-48)*10^s.length+bH s) (by simp[bH]) (fun l x m=>?_) s;rw[<- jV,kC,kC,m,aO,dP,hU,Nat.mul_add,dY 10 (_* _),gT];omega
where
 list_snocU (P:Bx->Prop) (o:P []) (u:∀l x,P l->P (l++ [x])) (l:Bx):P l:=by
  have:∀n (l:Bx),l.length=n->P l:=by
   intro n
   induction n with
   | zero=>intro l f;rw[cL.1 f];exact o
   | succ n m=>
    intro l f;have g:l≠ []:=fun e=>by rw[e] at f;simp at f
    rw[<- gO g];exact u _ _ (m _ (by simp[f]))
  exact this _ l rfl
def Pb (s:Bx)(i:Nat):Int:=((s.getD (s.length-1-i) 48).toNat:Int)-48
def Nr (s:Bx)(n:Nat):Nat->List Int
 | 0=>List.replicate n 0
 | i+1=>(Nr s n i).set (i/9) ((Nr s n i).getD (i/9) 0+Pb s i*10^ (i%9))
theorem EV {s:Bx}(h:∀c∈s,dN c){i:Nat}(hi:i<s.length):0<=Pb s i/\Pb s i<=9/\Pb s i=(((s.getD (s.length-1-i) 48).toNat-48:Nat):Int):=by
 have e:s.getD (s.length-1-i) 48=s[s.length-1-i]:=by rw[aB,aY om];rfl
 have:=h _ (iL (show s.length-1-i<s.length by omega));unfold Pb;rw[e];unfold dN at this;omega
theorem CI {s:Bx}{i:Nat}(hi:i<s.length):bH (s.drop (s.length-(i+1)))=((s.getD (s.length-1-i) 48).toNat-48)*10^i+bH (s.drop (s.length-i)):=by
 have e1:s.length-(i+1)=s.length-1-i:=om;have e:s.getD (s.length-1-i) 48=s[s.length-1-i]:=by rw[aB,aY om];rfl
 rw[e1,kH om,nat10_cons,e,show s.length-1-i+1=s.length-i by omega,bT,show s.length-(s.length-i)=i by omega]
theorem Ns {s:Bx}(h:∀c∈s,dN c){n:Nat}(W:s.length<=9*n):∀i,i<=s.length->(Nr s n i).length=n/\InB (10^9) (Nr s n i)/\aQ (10^9) (Nr s n i)=bH (s.drop (s.length-i))/\
  (∀t,i<=9*t->(Nr s n i).getD t 0=0)/\(Nr s n i).getD (i/9) 0<10^ (i%9)
 | 0,_=>by
  have A:∀t,(List.replicate n (0:Int)).getD t 0=0:=fun t=>by rw[aB,fO];split<;>rfl
  refine ⟨by simp[Nr],fun x Y=>?_,?_,fun t _=>A t,?_⟩
  ·rw[(mI.1 Y).2];omega
  ·simp only[Nr];rw[wY,jP,lM];rfl
  simp only[Nr];rw[A];decide
 | i+1,hi=>by
  obtain ⟨u,f,y,m,E⟩:=Ns h W i om;obtain ⟨B,C,D⟩:=EV h (show i<s.length by omega);have F:i/9<n:=om;have g:=f.get (show i/9<(Nr s n i).length by omega);simp only[Nr];generalize Nr s n i=l at u f y m E g ⊢;have z:(0:Int)<10^ (i%9):=Ay om;have Z:Pb s i*10^ (i%9)<=9*10^ (i%9):=bR C (eM z);have K:0<=Pb s i*10^ (i%9):=cU B (eM z);have X:(10:Int)^ (i%9+1)=10*10^ (i%9):=by rw[gN,bU]
  have o:l.getD (i/9) 0+Pb s i*10^ (i%9)<10^ (i%9+1):=om;have J:(10:Int)^ (i%9+1)<=((10^9:Nat):Int):=by
   have:10^ (i%9+1)<=10^9:=bO om om;exact_mod_cast this
  refine ⟨by rw[fE,u],Gy f _ ⟨om,om⟩,?_,fun t ht=>?_,?_⟩
  ·rw[Fq _ _ _ om,y,CI om];have e1:((10^9:Nat):Int)^ (i/9)*(Pb s i*10^ (i%9))=Pb s i*10^i:=by
    have e2:((10^9:Nat):Int)^ (i/9)=(10:Int)^ (9*(i/9)):=by
     rw[Int.pow_mul];rfl
    rw[e2,Int.mul_left_comm,<- vS,show 9*(i/9)+i%9=i by omega]
   rw[show l.getD (i/9) 0+Pb s i*10^ (i%9)-l.getD (i/9) 0=Pb s i*10^ (i%9) by omega,e1,D];generalize (s.getD (s.length-1-i) 48).toNat-48=e;rw[tE,dG,Int.natCast_pow,iT];rfl
  ·rw[nR _ _ _ om,aD om,m t om]
  rw[nR _ _ _ om];by_cases e:(i+1)/9=i/9
  ·rw[aE e,show (i+1)%9=i%9+1 by omega];exact o
  rw[aD e,m _ om];exact Ay om
theorem PC {s:Bx}(h:∀c∈s,dN c){n:Nat}(g:s.length<=9*n):gV (Nr s n s.length)=aJ (10^9) (bH s):=by
 obtain ⟨m,f,e,o,u⟩:=Ns h g s.length (aI _);rw[kW,eN] at e;rw[iJ de f,e,aU]
open Go.Lib
theorem Fm (a:Bx):∀b:Bx,bH (a++b)=bH a*10^b.length+bH b:=by
 intro b;refine nat10_cons.list_snocU (fun b=>bH (a++b)=bH a*10^b.length+bH b) (by simp[bH]) (fun l x c=>?_) b;rw[<- bW,kC,kC,c,aO,dP,hU,Nat.mul_add,dY 10 (_* _),gT];omega
theorem iV (s:Bx)(h:∀c∈s,dN c):bH s<10^s.length:=by
 revert h
 refine nat10_cons.list_snocU (fun s=>(∀c∈s,dN c)->bH s<10^s.length) (fun _=>by simp[bH]) (fun l x g h=>?_) s;have m:=g fun c f=>h c (sP _ f);have e:=h x si;unfold dN at e;rw[kC,aO,dP,hU];omega
def LV (s:Bx)(k:Nat):Bx:=(s.take (s.length-6*k)).drop (s.length-6*(k+1))
def Wa (s:Bx):Nat->List Int
 | 0=>[]
 | k+1=>Wa s k++ [(bH (LV s k):Int)]
theorem PD (s:Bx)(k:Nat):s.drop (s.length-6*(k+1))=LV s k++s.drop (s.length-6*k):=by
 unfold LV;have e:=eW (l₁:=s.take (s.length-6*k)) (l₂:=s.drop (s.length-6*k)) (i:=s.length-6*(k+1)) (by rw[aW];omega);rw[gC] at e;exact e
theorem PE (s:Bx)(k:Nat):(LV s k).length<=6:=by
 unfold LV;rw[bT,aW];omega
theorem PF {s:Bx}(h:∀c∈s,dN c)(k:Nat):∀c∈LV s k,dN c:=fun c e=>h c (dV (gR e))
theorem Fn {s:Bx}(h:∀c∈s,dN c):∀k,6*k<s.length+6->(Wa s k).length=k/\InB (10^6) (Wa s k)/\aQ (10^6) (Wa s k)=bH (s.drop (s.length-6*k))
 | 0,_=>⟨rfl,InB.nil,by simp only[Wa];rw[Nat.mul_zero,jP,lM];rfl⟩
 | k+1,hk=>by
  obtain ⟨f,g,m⟩:=Fn h k om;have o:=iV _ (PF h k);have n:10^ (LV s k).length<=10^6:=bO om (PE s k);refine ⟨by simp[Wa,f],InB.append.2 ⟨g,InB.cons.2 ⟨⟨om,om⟩,InB.nil⟩⟩,?_⟩;simp only[Wa];rw[uU,f,m,PD,Fm,bT,show s.length-(s.length-6*k)=6*k by omega];have e:((10^6:Nat):Int)^k=(((10:Nat)^ (6*k):Nat):Int):=by
   rw[Nat.pow_mul];exact (Int.natCast_pow _ _).symm
  rw[e,tE,dG,bU,iT]
theorem EW {s:Bx}(h:∀c∈s,dN c){k:Nat}(g:6*k<s.length+6)(n:s.length<=6*k):gV (Wa s k)=aJ (10^6) (bH s):=by
 obtain ⟨m,f,e⟩:=Fn h k g;rw[show s.length-6*k=0 by omega,eN] at e;rw[iJ de f,e,aU]
def EX (x:Nat):Bx:=[UInt8.ofNat (48+x/100000%10),UInt8.ofNat (48+x/10000%10),UInt8.ofNat (48+x/1000%10),UInt8.ofNat (48+x/100%10),UInt8.ofNat (48+x/10%10),UInt8.ofNat (48+x%10)]
theorem PG {x:Nat}(h:x<1000000):bH (EX x)=x:=by
 have d:∀n,(UInt8.ofNat (48+n%10)).toNat=48+n%10:=fun n=>lU om;simp only[bH,EX,oS,List.foldl_nil,d];omega
theorem PH (x:Nat):∀c∈EX x,dN c:=by
 have d:∀n,dN (UInt8.ofNat (48+n%10)):=fun n=>by unfold dN;rw[lU om];omega
 intro c e;simp only[EX,bY,List.not_mem_nil,or_false] at e;rcases e with rfl | rfl | rfl | rfl | rfl | rfl<;>exact d _
def Ki:List Int->Bx
 | []=>[]
 | x::r=>Ki r++EX x.toNat
theorem Vd:∀l:List Int,(Ki l).length=6*l.length
 | []=>rfl
 | x::r=>by simp only[Ki,aO,Vd r,cF];simp[EX];omega
theorem EY:∀l:List Int,∀c∈Ki l,dN c
 | [],c,hc=>by simp[Ki] at hc
 | x::r,c,hc=>by
  simp only[Ki] at hc;rcases eT.1 hc with h | h
  ·exact EY r c h
  exact PH _ c h
theorem EZ:∀l:List Int,InB (10^6) l->(bH (Ki l):Int)=aQ (10^6) l
 | [],_=>rfl
 | x::r,h=>by
  obtain ⟨g,c⟩:=InB.cons.1 h;have f:=EZ r c;have e:(EX x.toNat).length=6:=rfl;simp only[Ki,aQ];rw[Fm,e,PG om,tE,dG,f,bU,iT];congr 1
  omega
theorem PI {l:List Int}(h:InB (10^6) l)(c:0<aQ (10^6) l):(Ki l).dropWhile (· ==48)=decDigits (aQ (10^6) l).toNat:=by
 have:=EZ l h;rw[strip _ (EY l) om,<- this,aU]
open Go.Lib
def cT (q:Rat):Bx:=if q.den=1 then itoa q.num else itoa q.num++47::decDigits q.den
def dM (s:Bx):Bx:=s.takeWhile (· != 47)
def dI (s:Bx):Bx:=s.dropWhile (· != 47)
theorem E1 (n:Int):∀c∈itoa n,c≠47:=by
 intro c g e;subst e;have f:∀m:Nat,(47:UInt8) ∉ decDigits m:=fun m h=>by
  have:=sB m 47 h;have e2:(47:UInt8).toNat=47:=rfl;unfold dN at this;omega
 unfold itoa at g;split at g
 ·rcases bY.1 g with h | h
  ·cases h
  exact f _ h
 exact f _ g
theorem Db {p:UInt8->Bool}{a b:Bx}(h:∀c∈a,p c=true):(a++b).takeWhile p=a++b.takeWhile p:=by
 induction a with
 | nil=>rfl
 | cons x r ih=>
  rw[jV,List.takeWhile_cons_of_pos (h x si),ih fun c e=>h c (cC _ e)];rfl
theorem Dc {p:UInt8->Bool}{a b:Bx}(h:∀c∈a,p c=true):(a++b).dropWhile p=b.dropWhile p:=by
 induction a with
 | nil=>rfl
 | cons x r ih=>
  rw[jV,nW (h x si),ih fun c e=>h c (cC _ e)]
theorem oO (q:Rat):dM (cT q)=itoa q.num:=by
 have e:∀c∈itoa q.num,(c != 47)=true:=fun c f=>by simpa using E1 _ c f
 unfold dM cT;split
 ·have:=Db (b:=[]) e;simpa using this
 rw[Db e,List.takeWhile_cons_of_neg si];simp
theorem sK (q:Rat):dI (cT q)=if q.den=1 then [] else 47::decDigits q.den:=by
 have e:∀c∈itoa q.num,(c != 47)=true:=fun c f=>by simpa using E1 _ c f
 unfold dI cT;split
 ·have:=Dc (b:=[]) e;simpa using this
 rw[Dc e,nX si]
def jY (s:Bx):Nat:=if dI s= [] then 1 else bH (dI s).tail
def cH (s:Bx):Rat:=mkRat (bK (dM s)) (jY s)
def tH (s:Bx):Prop:=gW (dM s)/\(dI s= []\/((dI s).tail=decDigits (jY s)/\2<=jY s))
theorem Fo (q:Rat):jY (cT q)=q.den:=by
 unfold jY;rw[sK];by_cases h:q.den=1
 ·rw[aE h,aE rfl,h]
 rw[aD h,aD si,List.tail_cons,kJ]
theorem pU (q:Rat):cH (cT q)=q:=by
 unfold cH;rw[oO,pT,Fo,Rat.mkRat_self]
theorem Dw (q:Rat):tH (cT q):=by
 refine ⟨by rw[oO];exact uD _,?_⟩;rw[sK,Fo];by_cases h:q.den=1
 ·left;rw[aE h]
 right;rw[aD h]
 have:=q.den_nz;exact ⟨rfl,om⟩
theorem Ve (q:Rat):(bK (dM (cT q))).natAbs.gcd (jY (cT q))=1:=by
 rw[oO,pT,Fo];exact q.reduced
theorem E2 {s:Bx}(h:tH s)(z:(bK (dM s)).natAbs.gcd (jY s)=1):s=cT (cH s):=by
 obtain ⟨u,m⟩:=h;have g:dM s++dI s=s:=qV;have f:jY s≠0:=by
  rcases m with h | ⟨_,h⟩
  ·unfold jY;rw[aE h];decide
  omega
 have o:cH s= ⟨bK (dM s),jY s,f,z⟩:=by unfold cH;rw[<- Rat.mk_eq_mkRat]
 have e1:(cH s).num=bK (dM s):=by rw[o]
 have e2:(cH s).den=jY s:=by rw[o]
 unfold cT;rw[e1,e2,<- ET u];rcases m with h | ⟨y,B⟩
 ·have:jY s=1:=by unfold jY;rw[aE h]
  rw[aE this];rw[h,eH] at g;exact g.symm
 rw[aD om,<- y];have c:dI s=47::(dI s).tail:=by
  cases c:dI s with
  | nil=>
   have:jY s=1:=by unfold jY;rw[aE c]
   omega
  | cons x r=>
   have A:x=47:=by
    have n:=List.head?_dropWhile_not (p:=(· != (47:UInt8))) (l:=s);have e:s.dropWhile (· != 47)=x::r:=c;rw[e] at n;simpa using n
   subst A;rfl
 rw[<- c,g]
open Go.Lib
theorem PJ (n:Int)(d:Nat)(c:d≠0):cT (mkRat n d)=if d/d.gcd n.natAbs=1 then itoa (n/(d.gcd n.natAbs:Nat)) else itoa (n/(d.gcd n.natAbs:Nat))++47::decDigits (d/d.gcd n.natAbs):=by
 unfold cT;rw[Rat.num_mkRat,Rat.den_mkRat,aD c,aD c]
theorem G3 (p q:Rat):p+q=mkRat (p.num*q.den+q.num*p.den) (p.den*q.den):=Rat.add_def' p q
theorem Rk (p q:Rat):p-q=mkRat (p.num*q.den-q.num*p.den) (p.den*q.den):=Rat.sub_def' p q
theorem Rl (p q:Rat):p*q=mkRat (p.num*q.num) (p.den*q.den):=Rat.mul_def' p q
theorem CJ (n d:Int)(c:d<0):Rat.divInt n d=mkRat (-n) (-d).toNat:=by
 rw[<- Rat.neg_divInt_neg];have: -d=((-d).toNat:Int):=om;rw[this];exact Rat.divInt_ofNat _ _
theorem Nt (n d:Int)(c:0<d):Rat.divInt n d=mkRat n d.toNat:=by
 have:d=(d.toNat:Int):=om
 conv=>lhs;rw[this]
 exact Rat.divInt_ofNat _ _
theorem G4 (p q:Rat)(c:q≠0):p/q=Rat.divInt (p.num*q.den) (p.den*q.num):=by
 rw[Rat.div_def,Rat.inv_def]
 conv=>lhs;lhs;rw[<- Rat.num_divInt_den p]
 rw[Rat.divInt_mul_divInt]
open Go.Lib
def XQ (b:Bool)(m:Nat):Int:=if b then -(m:Int) else m
def X6 (b:Bool)(m:Nat):Bx:=if m=0 then [48] else if b then 45::decDigits m else decDigits m
theorem TY (b:Bool)(m:Nat):X6 b m=itoa (XQ b m):=by
 unfold X6 XQ itoa;by_cases h:m=0
 ·subst h;rw[aE rfl];cases b<;>exact (kZ (show 0<10 by omega)).symm
 rw[aD h];cases b
 ·show decDigits m=if (m:Int)<0 then 45::decDigits (m:Int).natAbs else decDigits (m:Int).toNat;rw[aD om,aU]
 show 45::decDigits m=if -(m:Int)<0 then 45::decDigits (-(m:Int)).natAbs else decDigits (-(m:Int)).toNat;rw[aE om,show (-(m:Int)).natAbs=m by omega]
open Go.Lib
instance (s:Bx):Decidable (tH s):=Cp
def dD (s:Bx):Int:=if tH s then (if 300<(digs (dM s)).length\/300<(dI s).tail.length then 4 else if (bK (dM s)).natAbs.gcd (jY s)=1 then 0 else 11) else 11
theorem Vf {s:Bx}(h:dD s=0):s=cT (cH s)/\(digs (dM s)).length<=300/\(dI s).tail.length<=300:=by
 unfold dD at h;split at h
 ·rename_i c;split at h
  ·cases h
  rename_i f;split at h
  ·rename_i e;exact ⟨E2 c e,om,om⟩
  cases h
 cases h
def lim (n:Int):Bool:=decide (300<(decDigits n.natAbs).length)
def Rm (a b:Bx)(f:Rat->Rat->Bx × Int):Bx × Int:=if dD a≠0 then ([],dD a) else if dD b≠0 then ([],dD b) else f (cH a) (cH b)
def G5 (a b:Bx):Bx × Int:=Rm a b fun p q=>if lim (p.num*q.den) || lim (q.num*p.den) || lim (p.num*q.den+q.num*p.den) || lim (p.den*q.den) then ([],4) else (cT (p+q),0)
def Fp (a b:Bx):Bx × Int:=Rm a b fun p q=>if lim (p.num*q.den) || lim (q.num*p.den) || lim (p.num*q.den-q.num*p.den) || lim (p.den*q.den) then ([],4) else (cT (p-q),0)
def CK (a b:Bx):Bx × Int:=Rm a b fun p q=>if lim (p.num*q.num) || lim (p.den*q.den) then ([],4) else (cT (p*q),0)
def Jw (a b:Bx):Bx × Int:=Rm a b fun p q=>if q=0 then ([],12) else if lim (p.num*q.den) || lim (q.num*p.den) then ([],4) else (cT (p/q),0)
end IB
end
section
open Go Go.Proofs Go.Eng Go.Shelf IB Tryz
namespace RB
abbrev I (n:Int):SV:=.val (.int .i64 n)
abbrev Ls (xs:List Int):SV:=.seq (.int .i64) xs
abbrev S (s:Bx):SV:=.str s
abbrev B9:Nat:=1000000000
theorem iW {n:Int}{C:Nat->Prop}(j:Nat)(e:n=(j:Int))(h:C j):Ix n C:=by
 refine ⟨fun i c=>?_⟩;have:j=i:=om;subst this;exact h
theorem qU {l:List Int}(h:InB B9 l)(i:Nat):0<=l.getD i 0/\l.getD i 0<1000000000:=h.getD0 de i
theorem xB (xs:List Int)(k:Nat)(h:k<xs.length):xs.take (k+1)=xs.take k++ [xs.getD k 0]:=by
 rw[cI h];simp[aB,h]
theorem Cc (xs:List Int)(k i:Nat)(h:i<k):(xs.take k).getD i 0=xs.getD i 0:=by
 simp[aB,aL,h]
abbrev V (xs:List Int):HO:=.vec 1 (.int .i64) xs 3
theorem VX (xs:List Int):wF Tp [] { asks:=[(0,[0])] } f259 0 false [.any] (.int .i64) xs 3 (.ref 0 1) (gV xs):=by
 refine Ask.mk ⟨{ X:=Nat,pre:=fun i=>i<=xs.length/\gV (xs.take i)=gV xs,mod:=fun i _=>[(0,.ref 0 1)],heap:=fun i _=>[V (xs.take i),V []],mu:=fun i=>i,objs:=[0] },rfl,?_⟩;(repeat refine ZG ?_);refine ⟨⟨xs.length,⟨aI _,by rw[cG]⟩,?_⟩,fun (i:Nat) hi=>?_⟩
 ·(repeat' first|exact trivial|rfl|exact Nat.one_pos|apply aA);exact (cG).symm
 obtain ⟨f,c⟩:=hi;have n:(xs.take i).length=i:=by rw[aW];omega
 (repeat'((conv=>whnf);first|refine Zg fun _=>?_|fail));(apply Br.mk<;>intro)
 ·rename_i m;have g:0<i:=om;obtain ⟨k,rfl⟩:∃k,i=k+1:=⟨i-1,om⟩;(repeat' first|refine ZN ?_|refine Zg fun _=>?_);refine iW k om ?_;(repeat'((conv=>whnf);first|refine Zg fun _=>?_|fail));(apply Br.mk<;>intro)
  ·rename_i e;rw[Cc _ _ _ om] at e;(repeat' first|refine ZN ?_|refine Zg fun _=>?_);refine Own.l (Own.r ?_);(repeat refine ZN ?_);refine iW k om ?_;refine ⟨(k:Nat),by show k<k+1;omega,⟨om,?_⟩,?_⟩
   ·rw[<- c,xB _ _ om,e,lH]
   (repeat' first|exact trivial|rfl|exact Nat.one_pos|apply aA);rw[fP];congr 1;omega
  rename_i e;rw[Cc _ _ _ om] at e;(conv=>whnf);(repeat' first|rfl|apply aA);rw[<- c,xB _ _ om];exact (uC _ _ e).symm
 have:i=0:=om;subst this;(conv=>whnf);(repeat' first|rfl|apply aA);rw[<- c];rfl
theorem b131s (xs:List Int):body Tp [] { asks:=[(0,[])] } false f259 [Ls xs] (Ls (gV xs)):=by
 refine Ask.mk ⟨{ X:=Nat,pre:=fun i=>i<=xs.length/\gV (xs.take i)=gV xs,mod:=fun i _=>[(0,Ls (xs.take i))],heap:=fun i _=>[V []],mu:=fun i=>i },rfl,?_⟩;(repeat refine ZG ?_);refine ⟨⟨xs.length,⟨aI _,by rw[cG]⟩,?_⟩,fun (i:Nat) hi=>?_⟩
 ·(repeat' first|exact trivial|rfl|apply aA);exact (cG).symm
 obtain ⟨f,c⟩:=hi;have n:(xs.take i).length=i:=by rw[aW];omega
 (repeat'((conv=>whnf);first|refine Zg fun _=>?_|fail));(apply Br.mk<;>intro)
 ·rename_i m;have g:0<i:=om;obtain ⟨k,rfl⟩:∃k,i=k+1:=⟨i-1,om⟩;(repeat' first|refine ZG ?_|refine Zg fun _=>?_);refine iW k om ?_;(repeat'((conv=>whnf);first|refine Zg fun _=>?_|fail));(apply Br.mk<;>intro)
  ·rename_i e;rw[Cc _ _ _ om] at e;(repeat' first|refine ZG ?_|refine Zg fun _=>?_);refine iW k om ?_;refine ⟨(k:Nat),by show k<k+1;omega,⟨om,?_⟩,?_⟩
   ·rw[<- c,xB _ _ om,e,lH]
   (repeat' first|exact trivial|rfl|apply aA);rw[fP];congr 1;omega
  rename_i e;rw[Cc _ _ _ om] at e;(conv=>whnf);rw[<- c,xB _ _ om];exact (uC _ _ e).symm
 have:i=0:=om;subst this;(conv=>whnf);rw[<- c];rfl
def MM:Con:=H7 259 false 0 false (fun args o K=>match args,o with | [.any],.vec 1 (.int .i64) xs 3=>K (.ref 0 1) (.vec 1 (.int .i64) (gV xs) 3) | _,_=>False)
 (fun args K=>match args with | [.seq (.int .i64) xs]=>K (Ls (gV xs)) | _=>False)
theorem CU:aM Tp MM:=by
 refine I9 (enters_of func259 kr rfl) ?_ ?_
 ·intro c t g e K m h;split at h
  ·rename_i n f;cases f
   first | exact ⟨_,_,h,dH si func259 (by simp[ntmps259]) rfl (VX n)⟩ | exact ⟨_,_,h,dH si func259 (by simp[ntmps259]) rfl (VX g)⟩
  cases h
 intro c K h;split at h
 ·rename_i g;exact ⟨_,h,gH func259 ntmps259 si (b131s g)⟩
 cases h
theorem b132 (l:List Int)(i:Int)(h:0<=i):body Tp [] {} true f280 [Ls l,I i] (I (l.getD i.toNat 0)):=by
 (repeat'((conv=>whnf);first|refine Zg fun _=>?_|fail));(apply Br.mk<;>intro)
 ·(repeat refine ZG ?_);refine iW i.toNat om ?_;(repeat'((conv=>whnf);first|refine Zg fun _=>?_|fail));exact ZF
 rename_i c;have:l.getD i.toNat 0=0:=mN _ _ om;(conv=>whnf);rw[this];exact ZE
def CV:Con:=aV 280 true fun args K=>match args with | [.seq (.int .i64) l,.val (.int .i64 i)]=>Need (0<=i) (Ix i fun j=>K (I (l.getD j 0))) | _=>False
theorem AK:aM Tp CV:=by
 refine kO func280 fun c K h=>?_;simp only[CV] at h;split at h
 ·rename_i l i;exact ⟨_,h.go.use h.ok,gH func280 ntmps280 si (b132 l i h.ok)⟩
 cases h
def VY:Con:=aV 273 true fun | [.val (.int .i64 x),.val (.int .i64 y),.val (.int .i64 c)],K=>Need ((0<=x/\x<1000000000)/\(0<=y/\y<1000000000)/\(0<=c/\c<=1)) (K (.tup [I ((x+y+c)%1000000000),I ((x+y+c)/1000000000)])) | _,_=>False
theorem k108:aM Tp VY:=by
 refine kQ {} func273 ntmps273 kn fun _ _ h=>?_;split at h;case h_2=>cases h
 refine kb h.go ?_;replace h:=h.ok;exact ZGF
abbrev mn (x y c:Int):Int:=if 0<=x-y-c then x-y-c else x-y-c+1000000000
abbrev mc (x y c:Int):Int:=if 0<=x-y-c then 0 else 1
def VZ:Con:=aV 274 true fun | [.val (.int .i64 x),.val (.int .i64 y),.val (.int .i64 c)],K=>Need ((0<=x/\x<1000000000)/\(0<=y/\y<1000000000)/\(0<=c/\c<=1)) (K (.tup [I (mn x y c),I (mc x y c)])) | _,_=>False
theorem k109:aM Tp VZ:=by
 refine kQ {} func274 ntmps274 kn fun _ _ h=>?_;split at h;case h_2=>cases h
 refine kb h.go ?_;replace h:=h.ok;unfold mn mc;(repeat refine ZG ?_);(apply Br.mk<;>intro)
 ·rename_i c;(conv=>whnf);rw[aE c,aE c];exact ZE
 rename_i c;(repeat refine ZG ?_);(conv=>whnf);rw[aD c,aD c];exact ZE
theorem b107p (a b:List Int)(h:InB B9 a/\InB B9 b/\a.length<=100000/\b.length<=100000):body Tp [CV,VY,MM] { asks:=[(0,[1])] } true f272 [Ls a,Ls b,.clo 273 [] []] (Ls (aJ B9 (aQ B9 a+aQ B9 b).toNat)):=by
 obtain ⟨c,f,m,n⟩:=h;(repeat' first|refine ZG ?_|refine Zg fun _=>?_);refine Ask.mk ⟨{ X:=Nat,pre:=fun i=>i<=max a.length b.length+1,mod:=fun i _=>[(7,.ref 1 1),(8,I (mM B9 a b i).2),(18,I i)],heap:=fun i _=>[V [],V (mM B9 a b i).1],mu:=fun i=>max a.length b.length+1-i,objs:=[1] },rfl,?_⟩;(repeat refine ZG ?_);refine ⟨⟨(0:Nat),aF _,ZE⟩,fun (i:Nat) (hi:i<=max a.length b.length+1)=>?_⟩;obtain ⟨o,s,u,_⟩:=uF (B:=B9) de c f i;have x:=qU c i;have gb:=qU f i;(apply Br.mk<;>intro)
 ·have g:i<max a.length b.length+1:=om;(repeat refine ZG ?_);refine ⟨(i+1:Nat),by show max a.length b.length+1-(i+1)<max a.length b.length+1-i;omega,g,?_⟩;exact ZE
 have e:i=max a.length b.length+1:=om;subst e;(conv=>whnf);rw[<- LW (B:=B9) de c f (Nat.le_max_left _ _) (Nat.le_max_right _ _)]
theorem b107m (a b:List Int)(h:InB B9 a/\InB B9 b/\aQ B9 b<=aQ B9 a/\a.length<=100000/\b.length<=100000):body Tp [CV,VZ,MM] { asks:=[(0,[1])] } true f272 [Ls a,Ls b,.clo 274 [] []] (Ls (aJ B9 (aQ B9 a-aQ B9 b).toNat)):=by
 obtain ⟨c,f,g,o,s⟩:=h;(repeat' first|refine ZG ?_|refine Zg fun _=>?_);refine Ask.mk ⟨{ X:=Nat,pre:=fun i=>i<=max a.length b.length+1,mod:=fun i _=>[(7,.ref 1 1),(8,I (mY B9 a b i).2),(18,I i)],heap:=fun i _=>[V [],V (mY B9 a b i).1],mu:=fun i=>max a.length b.length+1-i,objs:=[1] },rfl,?_⟩;(repeat refine ZG ?_);refine ⟨⟨(0:Nat),aF _,ZE⟩,fun (i:Nat) (hi:i<=max a.length b.length+1)=>?_⟩;obtain ⟨u,x,y,_⟩:=Bz (B:=B9) de c f i;have z:=qU c i;have gb:=qU f i;(apply Br.mk<;>intro)
 ·have m:i<max a.length b.length+1:=om;(repeat refine ZG ?_);refine ⟨(i+1:Nat),by show max a.length b.length+1-(i+1)<max a.length b.length+1-i;omega,m,?_⟩;exact ZE
 have e:i=max a.length b.length+1:=om;subst e;(conv=>whnf);rw[<- (Zz (B:=B9) de c f (n:=max a.length b.length+1) om om g).1]
def T2:Con:=aV 272 true fun args K=>match args with
 | [.seq (.int .i64) a,.seq (.int .i64) b,.clo 273 [] []]=>Need (InB B9 a/\InB B9 b/\a.length<=100000/\b.length<=100000) (K (Ls (aJ B9 (aQ B9 a+aQ B9 b).toNat)))
 | [.seq (.int .i64) a,.seq (.int .i64) b,.clo 274 [] []]=>Need (InB B9 a/\InB B9 b/\aQ B9 b<=aQ B9 a/\a.length<=100000/\b.length<=100000) (K (Ls (aJ B9 (aQ B9 a-aQ B9 b).toNat)))
 | _=>False
theorem k107:aM Tp T2:=by
 refine kO func272 fun c K h=>?_;simp only[T2] at h;split at h
 ·rename_i a b;exact ⟨_,h.go,gH func272 ntmps272 (by simp[AK,k108,CU]) (b107p a b h.ok)⟩
 ·rename_i a b;exact ⟨_,h.go,gH func272 ntmps272 (by simp[AK,k109,CU]) (b107m a b h.ok)⟩
 cases h
theorem c9:((B9:Nat):Int)=1000000000:=rfl
theorem HL {x y B:Int}(e:0<=x/\x<B)(c:0<=y/\y<B):0<=x*y/\x*y<=(B-1)*(B-1):=by
 refine ⟨cU e.1 c.1,?_⟩
 calc x*y<=(B-1)*y:=bR om c.1
  _<=(B-1)*(B-1):=aZ om om
theorem b99 (a b:List Int)(h:InB B9 a/\InB B9 b/\a.length<=100000/\b.length<=100000):wG Tp [CV,MM] { asks:=[(0,[]),(2,[])] } f262 [Ls a,Ls b] (.ref 0 1) (.int .i64) (aJ B9 (aQ B9 a*aQ B9 b).toNat) 3:=by
 obtain ⟨m,f,u,y⟩:=h;obtain ⟨n,J⟩:∃n,n=a.length+b.length+1:=⟨_,rfl⟩;(repeat' first|refine ZG ?_|refine Zg fun _=>?_);refine Ask.mk ⟨{ X:=Nat,pre:=fun i=>i<=a.length,mod:=fun i _=>[(20,I i)],heap:=fun i _=>[V [],V (sY B9 a b (List.replicate n 0) i)],mu:=fun i=>a.length-i },rfl,?_⟩;(repeat refine ZG ?_);refine ⟨⟨(0:Nat),aF _,?_⟩,fun (i:Nat) (hi:i<=a.length)=>?_⟩
 ·(repeat' first|exact trivial|rfl|apply aA);show List.replicate _ _=List.replicate _ _;congr 1;omega
 obtain ⟨A,s,C⟩:=Ca (B:=B9) de m f (n:=n) om i hi;have g:=qU m i;(apply Br.mk<;>intro)
 ·have c:i<a.length:=om;(repeat' first|refine ZG ?_|refine Zg fun _=>?_);refine Ask.mk ⟨{ X:=Nat,pre:=fun k=>k<=b.length+1,mod:=fun k _=>[(28,I k),(8,I (iB B9 (a.getD i 0) b i (sY B9 a b (List.replicate n 0) i) k).2)],heap:=fun k _=>[V [],V (iB B9 (a.getD i 0) b i (sY B9 a b (List.replicate n 0) i) k).1],mu:=fun k=>b.length+1-k },rfl,?_⟩;(repeat refine ZG ?_);refine ⟨⟨(0:Nat),aF _,ZE⟩,fun (k:Nat) (E:k<=b.length+1)=>?_⟩;obtain ⟨K,z,o,_⟩:=rQ (B:=B9) de (x:=a.getD i 0) ⟨g.1,by rw[c9];exact g.2⟩ f (i:=i) s k om;have o:0<=(iB B9 (a.getD i 0) b i (sY B9 a b (List.replicate n 0) i) k).2/\(iB B9 (a.getD i 0) b i (sY B9 a b (List.replicate n 0) i) k).2<1000000000:=o;have gb:=qU f k;have D:=qU z (i+k);have F:=HL g gb;(apply Br.mk<;>intro)
  ·have c:k<b.length+1:=om;(repeat'((conv=>whnf);first|refine Zg fun _=>?_|refine Za ?_|refine Zn ?_|refine Zj ?_|apply pI|apply pJ|fail));refine ⟨(k+1:Nat),by show b.length+1-(k+1)<b.length+1-k;omega,c,?_⟩;exact ZE
  have e:k=b.length+1:=om;subst e;(repeat refine ZG ?_);refine ⟨(i+1:Nat),by show a.length-(i+1)<a.length-i;omega,c,?_⟩;exact ZE
 have e:i=a.length:=om;subst e;(conv=>whnf);(repeat' first|rfl|apply aA);exact AB (B:=B9) de m f om
def c99:Con:=sU 262 fun args K=>match args with | [.seq (.int .i64) a,.seq (.int .i64) b]=>Need (InB B9 a/\InB B9 b/\a.length<=100000/\b.length<=100000) (K (.ref 0 1) (.vec 1 (.int .i64) (aJ B9 (aQ B9 a*aQ B9 b).toNat) 3)) | _=>False
theorem k99:aM Tp c99:=by
 refine nJ (enters_of func262 kr rfl) ?_;intro e K h;split at h
 ·rename_i a b;exact ⟨_,_,_,_,_,h.go,fun c=>gJ (by simp[AK,CU]) func262 (by simp[ntmps262]) c (b99 a b h.ok)⟩
 cases h
abbrev N1 (xs:List Int)(k:Nat):List SV:=[I ((xs.length-1-k:Nat)),I (xs.getD (xs.length-1-k) 0)]
def V6:Con:=aV 263 false fun | [.seq (.int .i64) xs],K=>K (.clo 281 [] [.lelem [Ls xs] 0]) | _,_=>False
theorem UB:aM Tp V6:=by
 refine kQ {} func263 ntmps263 kn fun _ _ h=>?_;split at h;case h_2=>cases h
 refine kb h ?_;exact ZF
theorem b166 (xs:List Int):Qh Tp [] { asks:=[(0,[])] } f281 [.lelem [Ls xs] 0] xs.length (N1 xs):=by
 (repeat' first|refine ZG ?_|refine Zg fun _=>?_);refine Ask.mk ⟨{ X:=Nat,pre:=fun i=>i<=xs.length,mod:=fun i _=>[(3,I ((xs.length:Int)-1-i))],heap:=fun i _=>[.yst (some i) xs.length (N1 xs)],mu:=fun i=>xs.length-i },rfl,?_⟩;(repeat refine ZG ?_);refine ⟨⟨(0:Nat),aF _,ZE⟩,fun (i:Nat) (hi:i<=xs.length)=>?_⟩;(apply Br.mk<;>intro)
 ·have c:i<xs.length:=om;have e:((xs.length:Int)-1-i)=((xs.length-1-i:Nat):Int):=om;(repeat refine ZG ?_);refine iW (xs.length-1-i) om ?_;(repeat'((conv=>whnf);first|refine Zg fun _=>?_|refine Zn ?_|fail));refine Need.mk (by (repeat' first|exact trivial|rfl|apply aA);exact e) ?_;refine Two.mk ?_ ?_
  ·(repeat refine ZG ?_);refine ⟨(i+1:Nat),by show xs.length-(i+1)<xs.length-i;omega,c,?_⟩;exact ZE
  (conv=>whnf)
  trivial
 (conv=>whnf);omega
def UC:Con:=aV 281 false fun args K=>match args with | [.lelem [.seq (.int .i64) xs] 0]=>K (.itr xs.length (N1 xs)) | _=>False
theorem UD:aM Tp UC:=by
 refine kO func281 fun c K h=>?_;simp only[UC] at h;split at h
 ·rename_i e;exact ⟨_,h,tN si func281 (by simp[ntmps281]) (b166 e)⟩
 cases h
def nS (a b:List Int):Nat->Int
 | 0=>0
 | m+1=>if a.getD m 0=b.getD m 0 then nS a b m else a.getD m 0-b.getD m 0
def Hn (a b:List Int):Int:=if a.length=b.length then nS a b a.length else (a.length:Int)-b.length
def UE:Con:=aV 260 true fun | [.seq (.int .i64) a,.seq (.int .i64) b],K=>Need (InB B9 a/\InB B9 b) (K (I (Hn a b))) | _,_=>False
theorem V7:aM Tp UE:=by
 refine kQ { asks:=[(0,[])] } func260 ntmps260 (kc UB (kc UD kn)) fun _ _ h=>?_;split at h;case h_2=>cases h
 rename_i a b;refine kb h.go ?_;replace h:=h.ok;obtain ⟨s,u⟩:=h;unfold Hn;(repeat'((conv=>whnf);first|refine Zg fun _=>?_|fail));(apply Br.mk<;>intro)
 ·rename_i o;rw[aD om];exact ZGF
 rename_i o;rw[aE om];have B:a.length=b.length:=om;refine Ask.mk ⟨{ X:=Nat,pre:=fun i=>i<=a.length/\nS a b a.length=nS a b (a.length-i),mod:=fun _ _=>[],heap:=fun _ _=>[.cells [Ls b] 25,.cells [I 0] 3],mu:=fun i=>i },rfl,?_⟩;(repeat refine ZG ?_);refine ⟨⟨(0:Nat),rfl,⟨aF _,rfl⟩,ZE⟩,fun (i:Nat) hi (y:i<a.length)=>?_,fun (i:Nat) hi (x:i=a.length)=>?_⟩
 ·obtain ⟨f,c⟩:=hi;obtain ⟨m,z⟩:∃m,a.length-i=m+1:=⟨a.length-i-1,om⟩;have e1:a.length-1-i=m:=om;have e2:a.length-(i+1)=m:=om;have A:=qU s m;have gb:=qU u m;rw[z,nS] at c;have n:N1 a i= [I m,I (a.getD m 0)]:=by rw[N1,e1]
  show nD (N1 a i) _;rw[n];(repeat' first|refine ZG ?_|refine Zg fun _=>?_);(apply Br.mk<;>intro)
  ·rename_i g;rw[aD g] at c;(repeat' first|refine ZG ?_|refine Zg fun _=>?_);(conv=>whnf);(repeat' first|rfl|apply aA);exact c.symm
  rename_i e;rw[aE (bG.1 e)] at c;refine ⟨(i+1:Nat),rfl,⟨om,by rw[e2];exact c⟩,ZE⟩
 obtain ⟨f,c⟩:=hi;subst x;rw[kW] at c;(conv=>whnf);(repeat' first|rfl|apply aA);exact c.symm
theorem Jd {a b:List Int}(n:InB B9 a)(o:InB B9 b)(f:a.length=b.length):∀m,m<=a.length->(∀j,m<=j->j<a.length->a.getD j 0=b.getD j 0)->
  (nS a b m<0↔aQ B9 a<aQ B9 b)/\(nS a b m=0↔aQ B9 a=aQ B9 b)
 | 0,_,h=>by
  have:a=b:=rR f fun j u=>h j (aF _) u;subst this;simp[nS]
 | m+1,hm,h=>by
  simp only[nS];by_cases e:a.getD m 0=b.getD m 0
  ·rw[aE e];refine Jd n o f m om fun j c g=>?_;by_cases e2:j=m
   ·rw[e2];exact e
   exact h j om g
  rw[aD e];rcases Int.lt_or_gt_of_ne e with c | c
  ·have:=Kj (B:=B9) de n o f om (fun j g s=>h j om s) c;omega
  have:=Kj (B:=B9) de o n f.symm om (fun j g s=>(h j om om).symm) c;omega
theorem Oh (m n:Nat):(Hn (aJ B9 m) (aJ B9 n)<0↔m<n)/\(Hn (aJ B9 m) (aJ B9 n)=0↔m=n):=by
 unfold Hn;split
 ·rename_i c;have:=Jd (dE (B:=B9) de m) (dE (B:=B9) de n) c _ (aI _) fun j e f=>om;rw[jC de,jC de] at this;omega
 rename_i c;rcases Nat.lt_or_ge (aJ B9 m).length (aJ B9 n).length with h | h
 ·have:=pV (B:=B9) de h;omega
 have:=pV (B:=B9) de (show (aJ B9 n).length<(aJ B9 m).length by omega);omega
end RB
end
section
open Go Go.Proofs Go.Eng Go.Shelf IB Go.Lib Go.RowKit Tryz
namespace RB
abbrev Sid:=Int × Int × Int × Int × Bool × Int × Int
abbrev Hd:Ty:=.pair (.int .i64) (.pair (.int .i64) (.pair (.int .i64) (.pair (.int .i64) (.pair .bool qj))))
abbrev qX:Sid:=(0,0,0,0,false,0,0)
def Dy (x y a b:Int)(p:Prop)(u v:Int):Prop:=((p->a=0/\b=0)/\(¬p->(1<=a/\a<=48)/\1<=b/\b<=48))/\(0<=x/\x<=65536)/\(0<=y/\y<=65536)/\(0<=u/\u<=65536)/\0<=v/\v<=65536
instance (x y a b:Int) (p:Prop) [Decidable p] (u v:Int):Decidable (Dy x y a b p u v):=by unfold Dy;exact inferInstance
def Dz (s:Sid):Prop:=Dy s.1 s.2.1 s.2.2.1 s.2.2.2.1 (s.2.2.2.2.1=true) s.2.2.2.2.2.1 s.2.2.2.2.2.2
instance (s:Sid):Decidable (Dz s):=by unfold Dz;exact inferInstance
theorem Kk {n:Int}{C:Nat->Prop}(j:Nat)(e:n=j)(h:C j):Ix n C:=⟨fun i c=>by
 have:j=i:=om
 subst this;exact h⟩
def Wb (n i:Nat):Nat:=if i=0 then n-1 else i-1
def L6 (n i:Nat):Nat:=if i+1=n then 0 else i+1
theorem He {n i:Nat}(h:i<n):Wb n i<n:=by unfold Wb;split<;>omega
theorem Hg {n i:Nat}(h:i<n):L6 n i<n:=by unfold L6;split<;>omega
theorem E9 {n i:Nat}(h:i<n):(i+n-1)%n=Wb n i:=by
 unfold Wb;split
 ·rename_i e;subst e;rw[fT om];omega
 rw[show i+n-1=(i-1)+n by omega,Nat.add_mod_right,fT om]
theorem Vi {n i:Nat}(h:i<n):(i+1)%n=L6 n i:=by
 unfold L6;split
 ·rename_i e;rw[e,Nat.mod_self]
 rw[fT om]
def Dd (r:List Sid)(i:Nat):Sid:=r.getD (Wb r.length i) qX
def kE (r:List Sid)(i:Nat):Sid:=r.getD i qX
def jD (r:List Sid)(i:Nat):Sid:=r.getD (L6 r.length i) qX
def CP (r:List Sid)(i:Nat):Prop:=(((jD r i).1-(kE r i).1=0)↔¬((jD r i).2.1-(kE r i).2.1=0))/\(((kE r i).1-(Dd r i).1=0)↔¬((jD r i).1-(kE r i).1=0))
instance (r:List Sid) (i:Nat):Decidable (CP r i):=by unfold CP;exact inferInstance
def Ea (r:List Sid):Prop:=4<=r.length/\∀i,i<r.length->CP r i
instance (r:List Sid):Decidable (Ea r):=by unfold Ea;exact inferInstance
abbrev YM:=(Int × Int) × (Int × Int)
abbrev tBx:Ty:=.pair qj qj
abbrev PO:YM:=((0,0),(0,0))
def L7 (p q:Sid):YM:=((min p.1 q.1,min p.2.1 q.2.1),(max p.1 q.1,max p.2.1 q.2.1))
def zG (a b:YM):Prop:=a.1.1<=b.2.1/\b.1.1<=a.2.1/\a.1.2<=b.2.2/\b.1.2<=a.2.2
instance (a b:YM):Decidable (zG a b):=by unfold zG;exact inferInstance
def NY (r:List Sid)(i:Nat):List YM:=(List.range i).map fun k=>L7 (kE r k) (jD r k)
def L8 (m i:Nat):List (Int × Int):=(List.range i).map fun (k:Nat)=>((m:Int),(k:Int))
def Wc (R:List (List Sid)):Nat->List YM
 | 0=>[]
 | m+1=>Wc R m++NY (R.getD m []) (R.getD m []).length
def Kl (R:List (List Sid)):Nat->List (Int × Int)
 | 0=>[]
 | m+1=>Kl R m++L8 m (R.getD m []).length
theorem L9 (r:List Sid)(i:Nat):NY r (i+1)=NY r i++ [L7 (kE r i) (jD r i)]:=by simp[NY,List.range_succ]
theorem MA (m i:Nat):L8 m (i+1)=L8 m i++ [((m:Int),(i:Int))]:=by simp[L8,List.range_succ]
theorem Vj (r:List Sid)(i:Nat):(NY r i).length=i:=by simp[NY]
theorem Vk (m i:Nat):(L8 m i).length=i:=by simp[L8]
def fU (R:List (List Sid)):Nat->Nat
 | 0=>0
 | m+1=>fU R m+(R.getD m []).length
theorem yE (R:List (List Sid)):∀m,(Wc R m).length=fU R m
 | 0=>rfl
 | m+1=>by rw[Wc,fU,aO,yE R m,Vj]
theorem yF (R:List (List Sid)):∀m,(Kl R m).length=fU R m
 | 0=>rfl
 | m+1=>by rw[Kl,fU,aO,yF R m,Vk]
theorem Ap (R:List (List Sid)){m n:Nat}(h:m<=n):fU R m<=fU R n:=by
 induction n with
 | zero=>rw[show m=0 by omega];exact aI _
 | succ n ih=>
  by_cases e:m=n+1
  ·rw[e];exact aI _
  have:=ih om;rw[fU];omega
theorem Vl (R:List (List Sid)):∀m,∀p∈Kl R m,∃a b:Nat,p=((a:Int),(b:Int))/\a<m/\b<(R.getD a []).length
 | 0,p,h=>absurd h (by simp[Kl])
 | m+1,p,h=>by
  rw[Kl,eT] at h;rcases h with h | h
  ·obtain ⟨a,b,e,g,c⟩:=Vl R m p h;exact ⟨a,b,e,om,c⟩
  simp only[L8,qN,lL] at h;obtain ⟨k,f,e⟩:=h;exact ⟨m,k,e.symm,om,f⟩
def XR (n:Int)(p q:Int × Int):Prop:=p.1=q.1/\(p.2-q.2=1\/p.2-q.2=n-1)
instance (n:Int) (p q:Int × Int):Decidable (XR n p q):=by unfold XR;exact inferInstance
def HE (R:List (List Sid))(i k:Nat):Prop:=¬XR ((R.getD ((Kl R R.length).getD i (0,0)).1.toNat []).length:Int) ((Kl R R.length).getD i (0,0)) ((Kl R R.length).getD k (0,0))/\zG ((Wc R R.length).getD i PO) ((Wc R R.length).getD k PO)
instance (R:List (List Sid)) (i k:Nat):Decidable (HE R i k):=by unfold HE;exact inferInstance
def NZ (R:List (List Sid)):Prop:=¬ ∀i,i<fU R R.length->∀k,k<i->¬HE R i k
instance (R:List (List Sid)):Decidable (NZ R):=by unfold NZ;exact inferInstance
def VE (p q:Sid):Int:=p.1*q.2.1-p.2.1*q.1
def Hh (r:List Sid):Nat->Int
 | 0=>0
 | i+1=>Hh r i+VE (kE r i) (jD r i)
def N0 (r:List Sid)(x y:Int)(i:Nat):Prop:=(jD r i).1-(kE r i).1=0/\x<(kE r i).1/\¬((y<(kE r i).2.1)↔(y<(jD r i).2.1))
instance (r:List Sid) (x y:Int) (i:Nat):Decidable (N0 r x y i):=by unfold N0;exact inferInstance
def pD (r:List Sid)(x y:Int):Nat->Bool
 | 0=>false
 | i+1=>if N0 r x y i then !(pD r x y i) else pD r x y i
def VF (R:List (List Sid))(i:Nat):Prop:=((0<Hh (R.getD i []) (R.getD i []).length)↔i=0)/\(i=0\/∀k,k<R.length->k=i\/((pD (R.getD k []) ((R.getD i []).getD 0 qX).1 ((R.getD i []).getD 0 qX).2.1 (R.getD k []).length=true)↔k=0))
instance (R:List (List Sid)) (i:Nat):Decidable (VF R i):=by unfold VF;exact inferInstance
def Vm (R:List (List Sid)):Prop:=∀i,i<R.length->VF R i
instance (R:List (List Sid)):Decidable (Vm R):=by unfold Vm;exact inferInstance
def Jy (r:List Sid)(i:Nat):Prop:=0<((kE r i).1-(Dd r i).1)*((jD r i).2.1-(kE r i).2.1)-((kE r i).2.1-(Dd r i).2.1)*((jD r i).1-(kE r i).1)
instance (r:List Sid) (i:Nat):Decidable (Jy r i):=by unfold Jy;exact inferInstance
def FA (r:List Sid)(i:Nat):Prop:=¬Jy r i/\((kE r i).2.2.2.2.1=true\/(Dd r i).2.2.2.2.1=true\/¬(kE r i).2.2.2.2.2.1=(Dd r i).2.2.2.2.2.1)
instance (r:List Sid) (i:Nat):Decidable (FA r i):=by unfold FA;exact inferInstance
def PP (R:List (List Sid)):Prop:=∀m,m<R.length->∀i,i<(R.getD m []).length->¬FA (R.getD m []) i
instance (R:List (List Sid)):Decidable (PP R):=by unfold PP;exact inferInstance
def Wd (R:List (List Sid)):Prop:=¬ ∀m,m<R.length->∀i,i<(R.getD m []).length->(kE (R.getD m []) i).2.2.2.2.1=true
instance (R:List (List Sid)):Decidable (Wd R):=by unfold Wd;exact inferInstance
def planE (R:List (List Sid)):Int:=
 if ∃r∈R,r.length=0 then 5
 else if fU R R.length=0 then 5
 else if 24<fU R R.length then 4
 else if ∃s∈R.flatten,¬Dz s then 2
 else if ∃r∈R,¬Ea r then 14
 else if NZ R then 15
 else if ¬Vm R\/¬PP R\/¬Wd R then 14 else 0
theorem Aq {R:List (List Sid)}(h:planE R=0):(∀r∈R,0<r.length)/\0<fU R R.length/\fU R R.length<=24/\(∀r∈R,∀s∈r,Dz s)/\∀r∈R,Ea r:=by
 unfold planE at h;split at h
 ·exact absurd h de
 rename_i f;split at h
 ·exact absurd h de
 rename_i o;split at h
 ·exact absurd h de
 rename_i u;split at h
 ·exact absurd h de
 rename_i g;split at h
 ·exact absurd h de
 rename_i m;refine ⟨fun r c=>?_,om,om,fun r c s n=>?_,fun r c=>?_⟩
 ·rcases dF r.length with e | e
  ·exact absurd ⟨r,c,e⟩ f
  exact e
 ·exact Decidable.byContradiction fun e=>g ⟨s,List.mem_flatten.2 ⟨r,c,n⟩,e⟩
 exact Decidable.byContradiction fun e=>m ⟨r,c,e⟩
end RB
end
section
open Go Go.Proofs Go.Eng Go.Shelf IB Tryz
namespace RB
def WD:Con:=aV 261 false fun | [.seq (.int .i64) a,.val (.int .i64 d)],K=>Need (InB B9 a/\(0<d/\d<1000000000)/\a.length<=100000) (K (.tup [Ls (aJ B9 (aQ B9 a/d).toNat),Ls (aJ B9 (aQ B9 a%d).toNat)])) | _,_=>False
theorem k134:aM Tp WD:=by
 refine kQ { asks:=[(0,[])] } func261 ntmps261 (kc UB (kc UD (kc CU kn))) fun _ _ h=>?_;split at h;case h_2=>cases h
 rename_i a d;refine kb h.go ?_;replace h:=h.ok;obtain ⟨c,e,n⟩:=h;obtain ⟨s,C,u⟩:=AC (B:=B9) de e.1 e.2 c;(repeat' first|refine ZG ?_|refine Zg fun _=>?_);refine Ask.mk ⟨{ X:=Nat,pre:=fun i=>i<=a.length,mod:=fun _ _=>[],heap:=fun i _=>[.cells [I d] 3,V [],.cells [.ref 4 1] 25,V [],V (jZ B9 d a i).1,.cells [I (jZ B9 d a i).2] 3],mu:=fun i=>i },rfl,?_⟩;(repeat refine ZG ?_);refine ⟨⟨(0:Nat),rfl,aF _,?_⟩,fun (i:Nat) hi (f:i<a.length)=>?_,fun (i:Nat) hi (m:i=a.length)=>?_⟩
 ·exact ZE
 ·obtain ⟨x,y,g,_⟩:=uG (B:=B9) de e.1 c i om;have z:=qU c (a.length-1-i);have A:=bR (show (jZ B9 d a i).2<=999999998 by omega) (show (0:Int)<=1000000000 by omega);have o:=cU g.1 (show (0:Int)<=1000000000 by omega);show nD (N1 a i) _;(repeat'((conv=>whnf);first|refine Zg fun _=>?_|refine Za ?_|refine Zn ?_|refine Zj ?_|apply pI|apply pJ|(apply PinH.mk;apply aC;apply aC)|exact Zf|refine Zc ?_ ?_|fail));refine ⟨(i+1:Nat),rfl,f,ZE⟩
 subst m;(repeat'((conv=>whnf);first|apply pI|apply pJ|(apply PinH.mk;apply aC;apply aC)|exact Zf|refine Zc ?_ ?_|refine Zl ?_|fail));(conv=>whnf);(repeat' first|exact trivial|apply aA)
 ·exact s
 exact u
theorem WE (v:List Int)(j q:Int)(u:List Int)(h:InB B9 u/\InB B9 v/\0<=j/\(0<=q/\q<=8000000000)/\j+v.length+1<=u.length/\u.length<=300000):wF Tp [CV] { asks:=[(0,[])] } f265 0 true [.any,Ls v,I j,I q] (.int .i64) u 3 (.bl (0<(fN B9 u v j.toNat q (v.length+1)).2) inferInstance) (fN B9 u v j.toNat q (v.length+1)).1:=by
 obtain ⟨x,o,A,m,D,s⟩:=h;obtain ⟨j,rfl⟩:∃k:Nat,j=k:=⟨j.toNat,om⟩;rw[aU];(repeat' first|refine ZG ?_|refine Zg fun _=>?_);refine Ask.mk ⟨{ X:=Nat,pre:=fun k=>k<=v.length+1,mod:=fun k _=>[(15,I k),(9,I (fN B9 u v j q k).2)],heap:=fun k _=>[V (fN B9 u v j q k).1],mu:=fun k=>v.length+1-k },rfl,?_⟩;(repeat refine ZG ?_);refine ⟨⟨(0:Nat),aF _,ZE⟩,fun (k:Nat) (C:k<=v.length+1)=>?_⟩;obtain ⟨F,y,J,_⟩:=rS (B:=B9) de x o (j:=j) m.1 k om;have n:=qU o k;have z:=qU y (j+k);have E:0<=q*v.getD k 0/\q*v.getD k 0<=8000000000*999999999:=⟨cU m.1 n.1,kX (bR m.2 n.1) (aZ om om)⟩;(apply Br.mk<;>intro)
 ·have f:k<v.length+1:=om;(repeat'((conv=>whnf);first|refine Zg fun _=>?_|refine Zn ?_|refine Zj ?_|apply pI|apply pJ|fail));(apply Br.mk<;>intro)
  ·rename_i c;have g:fN B9 u v j q (k+1)=((fN B9 u v j q k).1.set (j+k) ((fN B9 u v j q k).1.getD (j+k) 0-(fN B9 u v j q k).2-q*v.getD k 0+(-((fN B9 u v j q k).1.getD (j+k) 0-(fN B9 u v j q k).2-q*v.getD k 0)+1000000000-1)/1000000000*1000000000),(-((fN B9 u v j q k).1.getD (j+k) 0-(fN B9 u v j q k).2-q*v.getD k 0)+1000000000-1)/1000000000):=by
    simp only[fN];rw[aE c];rfl
   (repeat refine ZG ?_);refine ⟨(k+1:Nat),by show v.length+1-(k+1)<v.length+1-k;omega,f,?_⟩;(repeat' first|exact trivial|rfl|apply aA);all_goals first | exact (aR Prod.fst g).symm | exact (aR Prod.snd g).symm
  rename_i c;have g:fN B9 u v j q (k+1)=((fN B9 u v j q k).1.set (j+k) ((fN B9 u v j q k).1.getD (j+k) 0-(fN B9 u v j q k).2-q*v.getD k 0+0*1000000000),0):=by
   simp only[fN];rw[aD c];rfl
  (repeat refine ZG ?_);refine ⟨(k+1:Nat),by show v.length+1-(k+1)<v.length+1-k;omega,f,?_⟩;(repeat' first|exact trivial|rfl|apply aA);all_goals first | exact (aR Prod.fst g).symm | exact (aR Prod.snd g).symm
 have e:k=v.length+1:=om;subst e;exact ZF
def WF:Con:=rB 265 0 true fun args o K=>match args,o with | [.any,.seq (.int .i64) v,.val (.int .i64 j),.val (.int .i64 q)],.vec 1 (.int .i64) u 3=>Need (InB B9 u/\InB B9 v/\0<=j/\(0<=q/\q<=8000000000)/\j+v.length+1<=u.length/\u.length<=300000) (K (.bl (0<(fN B9 u v j.toNat q (v.length+1)).2) inferInstance) (.vec 1 (.int .i64) ((fN B9 u v j.toNat q (v.length+1)).1) 3)) | _,_=>False
theorem k137:aM Tp WF:=by
 refine mK (enters_of func265 kr rfl) ?_;intro f t m e K g h;split at h
 ·rename_i v j q n c;cases c
  first | exact ⟨_,_,h.go,dH (by simp[AK]) func265 (by simp[ntmps265]) rfl (WE v j q n h.ok)⟩ | exact ⟨_,_,h.go,dH (by simp[AK]) func265 (by simp[ntmps265]) rfl (WE v j q m h.ok)⟩
 cases h
theorem WG (v:List Int)(j q:Int)(u:List Int)(h:InB B9 u/\InB B9 v/\0<=j/\(0<=q/\q<=8000000000)/\j+v.length+1<=u.length/\u.length<=300000):wF Tp [CV] { asks:=[(0,[])] } f266 0 true [.any,Ls v,I j,I q] (.int .i64) u 3 (.ref 0 1) (iB B9 q v j.toNat u (v.length+1)).1:=by
 obtain ⟨o,m,z,f,C,n⟩:=h;obtain ⟨j,rfl⟩:∃k:Nat,j=k:=⟨j.toNat,om⟩;rw[aU];(repeat' first|refine ZG ?_|refine Zg fun _=>?_);refine Ask.mk ⟨{ X:=Nat,pre:=fun k=>k<=v.length+1,mod:=fun k _=>[(15,I k),(9,I (iB B9 q v j u k).2)],heap:=fun k _=>[V (iB B9 q v j u k).1,V []],mu:=fun k=>v.length+1-k },rfl,?_⟩;(repeat refine ZG ?_);refine ⟨⟨(0:Nat),aF _,ZE⟩,fun (k:Nat) (A:k<=v.length+1)=>?_⟩;obtain ⟨E,s,F,_⟩:=Gz (B:=B9) de (x:=q) f.1 m (i:=j) o k om;have g:=qU m k;have y:=qU s (j+k);have D:0<=q*v.getD k 0/\q*v.getD k 0<=8000000000*999999999:=⟨cU f.1 g.1,kX (bR f.2 g.1) (aZ om om)⟩;(apply Br.mk<;>intro)
 ·have c:k<v.length+1:=om;(repeat'((conv=>whnf);first|refine Zg fun _=>?_|refine Za ?_|refine Zn ?_|refine Zj ?_|apply pI|apply pJ|fail));refine ⟨(k+1:Nat),by show v.length+1-(k+1)<v.length+1-k;omega,c,?_⟩;exact ZE
 have e:k=v.length+1:=om;subst e;exact ZF
def WH:Con:=rB 266 0 true fun args o K=>match args,o with | [.any,.seq (.int .i64) v,.val (.int .i64 j),.val (.int .i64 q)],.vec 1 (.int .i64) u 3=>Need (InB B9 u/\InB B9 v/\0<=j/\(0<=q/\q<=8000000000)/\j+v.length+1<=u.length/\u.length<=300000) (K (.ref 0 1) (.vec 1 (.int .i64) ((iB B9 q v j.toNat u (v.length+1)).1) 3)) | _,_=>False
theorem k138:aM Tp WH:=by
 refine mK (enters_of func266 kr rfl) ?_;intro f t m e K g h;split at h
 ·rename_i v j q n c;cases c
  first | exact ⟨_,_,h.go,dH (by simp[AK]) func266 (by simp[ntmps266]) rfl (WG v j q n h.ok)⟩ | exact ⟨_,_,h.go,dH (by simp[AK]) func266 (by simp[ntmps266]) rfl (WG v j q m h.ok)⟩
 cases h
abbrev wA (u v:List Int)(j:Nat):Int:=u.getD (j+v.length) 0*1000000000+u.getD (j+v.length-1) 0
abbrev CY (u v:List Int)(j:Nat):Int:=Vg 1000000000 (v.getD (v.length-1) 0) (v.getD (v.length-2) 0) (u.getD (j+v.length-2) 0) 8 (wA u v j/v.getD (v.length-1) 0) (wA u v j%v.getD (v.length-1) 0)
def eQ (u v:List Int)(j i:Nat):Int:=wA u v j/v.getD (v.length-1) 0-i
def eR (u v:List Int)(j i:Nat):Int:=wA u v j%v.getD (v.length-1) 0+i*v.getD (v.length-1) 0
theorem tT (u v:List Int)(j i:Nat):eR u v j (i+1)=eR u v j i+v.getD (v.length-1) 0:=by
 unfold eR;have:((i+1:Nat):Int)*v.getD (v.length-1) 0=i*v.getD (v.length-1) 0+v.getD (v.length-1) 0:=by rw[Int.natCast_succ,jU,iZ]
 omega
theorem Fy (u v:List Int)(j i:Nat):eQ u v j (i+1)=eQ u v j i-1:=by unfold eQ;omega
theorem b136 (u v:List Int)(j:Int)(h:InB B9 u/\InB B9 v/\0<=j/\2<=v.length/\250000000<=v.getD (v.length-1) 0/\j+v.length+1<=u.length/\u.length<=300000):body Tp [] { asks:=[(0,[])] } true f264 [Ls u,Ls v,I j] (I (CY u v j.toNat)):=by
 obtain ⟨s,z,hj,hn,x,hl,J⟩:=h;obtain ⟨j,rfl⟩:∃k:Nat,j=k:=⟨j.toNat,om⟩;rw[aU];have K:=qU s (j+v.length);have W:=qU s (j+v.length-1);have Y:=qU s (j+v.length-2);have w1:=qU z (v.length-1);have A:=qU z (v.length-2);(repeat'((conv=>whnf);first|refine Zg fun _=>?_|refine Zn ?_|refine Zj ?_|apply pI|apply pJ|fail));refine iW (j+v.length-1) om ?_;(repeat'((conv=>whnf);first|refine Zg fun _=>?_|refine Zn ?_|apply pI|apply pJ|fail));refine iW (v.length-1) om ?_;(repeat'((conv=>whnf);first|refine Zg fun _=>?_|refine Za ?_|refine Zn ?_|apply pI|apply pJ|fail));refine iW (v.length-1) om ?_;(repeat'((conv=>whnf);first|refine Zg fun _=>?_|refine Za ?_|apply pI|apply pJ|fail));have C:0<=wA u v j/\wA u v j<1000000000000000000:=by unfold wA;omega
 have hr:0<=wA u v j%v.getD (v.length-1) 0/\wA u v j%v.getD (v.length-1) 0<v.getD (v.length-1) 0:=⟨jJ _ om,fQ _ om⟩;have hq:0<=wA u v j/v.getD (v.length-1) 0/\wA u v j/v.getD (v.length-1) 0<=4000000000:=by
  refine ⟨eF C.1 om,?_⟩;refine kX (xI om (show wA u v j<=4000000000*v.getD (v.length-1) 0 by omega)) ?_;rw[Int.mul_ediv_cancel _ om];exact vR _
 refine Ask.mk ⟨{ X:=Nat,pre:=fun i=>eR u v j i<1000000000/\CY u v j=Vg 1000000000 (v.getD (v.length-1) 0) (v.getD (v.length-2) 0) (u.getD (j+v.length-2) 0) (8-i) (eQ u v j i) (eR u v j i),mod:=fun i _=>[(9,I (eQ u v j i)),(10,I (eR u v j i))],heap:=fun _ _=>[],mu:=fun i=>8-i },rfl,?_⟩;(repeat refine ZG ?_);refine ⟨⟨(0:Nat),⟨by unfold eR;omega,by simp only[CY,eQ,eR];congr 1<;>omega⟩,?_⟩,fun (i:Nat) hi=>?_⟩
 ·(repeat' first|exact trivial|rfl|apply aA)
  ·show wA u v j/ _= _;unfold eQ;omega
  show wA u v j% _= _;unfold eR;omega
 obtain ⟨n,c⟩:=hi;have F:(i:Int)*250000000<=i*v.getD (v.length-1) 0:=aZ x om;have E:i<=3:=by unfold eR at n;omega
 have Z:0<=eR u v j i:=by unfold eR;omega
 have y: -3<=eQ u v j i/\eQ u v j i<=4000000000:=by unfold eQ;omega
 have B: -3*999999999<=eQ u v j i*v.getD (v.length-2) 0/\eQ u v j i*v.getD (v.length-2) 0<=4000000000*999999999:=by
  refine ⟨kX (lV om (show v.getD (v.length-2) 0<=999999999 by omega)) (bR y.1 A.1),kX (bR y.2 A.1) (aZ om om)⟩
 obtain ⟨f,D⟩:∃f,8-i=f+1:=⟨7-i,om⟩;have g:8-(i+1)=f:=om;rw[D,Vg,<- tT,<- Fy] at c;(repeat'((conv=>whnf);first|apply pI|apply pJ|fail));(apply Br.mk<;>intro)
 ·rename_i m;rw[aE (.inl m)] at c;(repeat'((conv=>whnf);first|refine Zn ?_|apply pI|apply pJ|fail));refine iW (v.length-1) om ?_;(repeat'((conv=>whnf);first|refine Zg fun _=>?_|refine Zn ?_|apply pI|apply pJ|fail));(apply Br.mk<;>intro)
  ·rename_i e;rw[tT,aE e,Fy] at c;(conv=>whnf);(repeat' first|rfl|apply aA);exact c.symm
  rename_i e;rw[aD (by rw[tT];exact e)] at c;refine ⟨(i+1:Nat),by show 8-(i+1)<8-i;omega,⟨by rw[tT];omega,by rw[c,g]⟩,?_⟩;(repeat' first|exact trivial|rfl|apply aA)
  ·exact (Fy u v j i).symm
  exact (tT u v j i).symm
 rename_i m;(repeat'((conv=>whnf);first|apply pI|apply pJ|fail));(apply Br.mk<;>intro)
 ·rename_i o;(repeat'((conv=>whnf);first|refine Zn ?_|apply pI|apply pJ|fail));refine iW (v.length-2) om ?_;(repeat'((conv=>whnf);first|refine Zg fun _=>?_|refine Zn ?_|apply pI|apply pJ|fail));refine iW (j+v.length-2) om ?_;(repeat'((conv=>whnf);first|refine Zg fun _=>?_|refine Zn ?_|apply pI|apply pJ|fail));(apply Br.mk<;>intro)
  ·rename_i VD;rw[aE (.inr ⟨o,VD⟩)] at c;(repeat'((conv=>whnf);first|refine Zn ?_|apply pI|apply pJ|fail));refine iW (v.length-1) om ?_;(repeat'((conv=>whnf);first|refine Zg fun _=>?_|refine Zn ?_|apply pI|apply pJ|fail));(apply Br.mk<;>intro)
   ·rename_i e;rw[tT,aE e,Fy] at c;(conv=>whnf);(repeat' first|rfl|apply aA);exact c.symm
   rename_i e;rw[aD (by rw[tT];exact e)] at c;refine ⟨(i+1:Nat),by show 8-(i+1)<8-i;omega,⟨by rw[tT];omega,by rw[c,g]⟩,?_⟩;(repeat' first|exact trivial|rfl|apply aA)
   ·exact (Fy u v j i).symm
   exact (tT u v j i).symm
  rename_i VD;rw[aD om] at c;(conv=>whnf);(repeat' first|rfl|apply aA);exact c.symm
 omega
def UF:Con:=aV 264 true fun args K=>match args with | [.seq (.int .i64) u,.seq (.int .i64) v,.val (.int .i64 j)]=>Need (InB B9 u/\InB B9 v/\0<=j/\2<=v.length/\250000000<=v.getD (v.length-1) 0/\j+v.length+1<=u.length/\u.length<=300000) (K (I (CY u v j.toNat))) | _=>False
theorem k136:aM Tp UF:=by
 refine kO func264 fun c K h=>?_;simp only[UF] at h;split at h
 ·rename_i u v j;exact ⟨_,h.go,gH func264 ntmps264 si (b136 u v j h.ok)⟩
 cases h
end RB
end
section
set_option maxRecDepth 100000
namespace Go.Proofs
open Go.Shelf
def RL.lI_ren:Go.Shelf.Ren:=⟨fun | 171=>224 | 243=>245 | 246=>271 | 283=>286 | 284=>287 | 285=>288 | 286=>289 | 129=>311 | 317=>310 | 318=>312 | 319=>313 | 320=>314 | 337=>328 | 338=>329 | n=>n,fun | 3=>3 | 9=>9 | 2=>2 | 4=>4 | 171=>304 | 0=>0 | 53=>305 | 37=>278 | 5=>5 | 173=>308 | 212=>330 | 51=>331 | 20=>20 | 213=>332 | 46=>202 | 232=>358 | 233=>359 | n=>n,fun | 17=>1 | 18=>4 | 19=>5 | n=>n⟩
theorem RL.lI:Go.Proofs.LaysM.n171 Tp RL.lI_ren where
 mixed:=kr
 f129:=Tryz.func311.trans (aR some kr)
 f171:=Tryz.func224.trans (aR some kr)
 f243:=Tryz.func245.trans (aR some kr)
 f246:=Tryz.func271.trans (aR some kr)
 f283:=Tryz.func286.trans (aR some kr)
 f284:=Tryz.func287.trans (aR some kr)
 f285:=Tryz.func288.trans (aR some kr)
 f286:=Tryz.func289.trans (aR some kr)
 f317:=Tryz.func310.trans (aR some kr)
 f318:=Tryz.func312.trans (aR some kr)
 f319:=Tryz.func313.trans (aR some kr)
 f320:=Tryz.func314.trans (aR some kr)
 f337:=Tryz.func328.trans (aR some kr)
 f338:=Tryz.func329.trans (aR some kr)
 t0:=Tryz.underlying0
 a0:=Tryz.isAgg0
 z0:=Tryz.sizeOf0
 v0:=Tryz.zeroValue0
 t2:=Tryz.underlying2
 a2:=Tryz.isAgg2
 z2:=Tryz.sizeOf2
 v2:=Tryz.zeroValue2
 t3:=Tryz.underlying3
 a3:=Tryz.isAgg3
 z3:=Tryz.sizeOf3
 v3:=Tryz.zeroValue3
 t4:=Tryz.underlying4
 a4:=Tryz.isAgg4
 z4:=Tryz.sizeOf4
 v4:=Tryz.zeroValue4
 t5:=Tryz.underlying5
 a5:=Tryz.isAgg5
 z5:=Tryz.sizeOf5
 v5:=Tryz.zeroValue5
 t9:=Tryz.underlying9
 a9:=Tryz.isAgg9
 z9:=Tryz.sizeOf9
 v9:=Tryz.zeroValue9
 t20:=Tryz.underlying20
 a20:=Tryz.isAgg20
 z20:=Tryz.sizeOf20
 v20:=Tryz.zeroValue20
 t37:=Tryz.underlying278
 a37:=Tryz.isAgg278
 z37:=Tryz.sizeOf278
 v37:=Tryz.zeroValue278
 t46:=Tryz.underlying202
 a46:=Tryz.isAgg202
 z46:=Tryz.sizeOf202
 v46:=Tryz.zeroValue202
 t51:=Tryz.underlying331
 a51:=Tryz.isAgg331
 z51:=Tryz.sizeOf331
 v51:=Tryz.zeroValue331
 t53:=Tryz.underlying305
 a53:=Tryz.isAgg305
 z53:=Tryz.sizeOf305
 v53:=Tryz.zeroValue305
 t171:=Tryz.underlying304
 a171:=Tryz.isAgg304
 z171:=Tryz.sizeOf304
 v171:=Tryz.zeroValue304
 t173:=Tryz.underlying308
 a173:=Tryz.isAgg308
 z173:=Tryz.sizeOf308
 v173:=Tryz.zeroValue308
 t212:=Tryz.underlying330
 a212:=Tryz.isAgg330
 z212:=Tryz.sizeOf330
 v212:=Tryz.zeroValue330
 t213:=Tryz.underlying332
 a213:=Tryz.isAgg332
 z213:=Tryz.sizeOf332
 t232:=Tryz.underlying358
 a232:=Tryz.isAgg358
 z232:=Tryz.sizeOf358
 v232:=Tryz.zeroValue358
 t233:=Tryz.underlying359
 a233:=Tryz.isAgg359
 z233:=Tryz.sizeOf359
 v233:=Tryz.zeroValue359
 g17:=kr
 g18:=kr
 g19:=kr
 i0:=kr
 i2:=kr
 i3:=kr
 i4:=kr
 i5:=kr
 i9:=kr
 i20:=kr
 i37:=kr
 i46:=kr
 i51:=kr
 i53:=kr
 i171:=kr
 i173:=kr
 i212:=kr
 i232:=kr
 i233:=kr
 m17:=kr
 m18:=kr
 m19:=kr
def RL.lA_ren:Go.Shelf.Ren:=⟨fun | 172=>257 | 244=>277 | 245=>278 | 247=>301 | 279=>302 | 280=>303 | 281=>304 | 282=>305 | 287=>321 | 316=>322 | 171=>224 | 205=>323 | 321=>333 | 322=>334 | 243=>245 | 246=>271 | 283=>286 | 284=>287 | 285=>288 | 286=>289 | 129=>311 | 317=>310 | 318=>312 | 319=>313 | 320=>314 | 337=>328 | 338=>329 | n=>n,fun | 9=>9 | 3=>3 | 75=>281 | 76=>282 | 4=>4 | 5=>5 | 167=>318 | 37=>278 | 0=>0 | 85=>319 | 2=>2 | 168=>321 | 53=>305 | 175=>340 | 46=>202 | 210=>344 | 127=>328 | 145=>356 | 143=>354 | 21=>21 | 171=>304 | 173=>308 | 212=>330 | 51=>331 | 20=>20 | 213=>332 | 232=>358 | 233=>359 | 80=>303 | n=>n,fun | 15=>2 | 16=>3 | 17=>1 | 18=>4 | 19=>5 | n=>n⟩
theorem RL.lA:Go.Proofs.LaysC.n172 Tp RL.lA_ren where
 mixed:=kr
 f129:=Tryz.func311.trans (aR some kr)
 f171:=Tryz.func224.trans (aR some kr)
 f172:=Tryz.func257.trans (aR some kr)
 f205:=Tryz.func323.trans (aR some kr)
 f243:=Tryz.func245.trans (aR some kr)
 f244:=Tryz.func277.trans (aR some kr)
 f245:=Tryz.func278.trans (aR some kr)
 f246:=Tryz.func271.trans (aR some kr)
 f247:=Tryz.func301.trans (aR some kr)
 f279:=Tryz.func302.trans (aR some kr)
 f280:=Tryz.func303.trans (aR some kr)
 f281:=Tryz.func304.trans (aR some kr)
 f282:=Tryz.func305.trans (aR some kr)
 f283:=Tryz.func286.trans (aR some kr)
 f284:=Tryz.func287.trans (aR some kr)
 f285:=Tryz.func288.trans (aR some kr)
 f286:=Tryz.func289.trans (aR some kr)
 f287:=Tryz.func321.trans (aR some kr)
 f316:=Tryz.func322.trans (aR some kr)
 f317:=Tryz.func310.trans (aR some kr)
 f318:=Tryz.func312.trans (aR some kr)
 f319:=Tryz.func313.trans (aR some kr)
 f320:=Tryz.func314.trans (aR some kr)
 f321:=Tryz.func333.trans (aR some kr)
 f322:=Tryz.func334.trans (aR some kr)
 f337:=Tryz.func328.trans (aR some kr)
 f338:=Tryz.func329.trans (aR some kr)
 t0:=Tryz.underlying0
 a0:=Tryz.isAgg0
 z0:=Tryz.sizeOf0
 v0:=Tryz.zeroValue0
 t2:=Tryz.underlying2
 a2:=Tryz.isAgg2
 z2:=Tryz.sizeOf2
 v2:=Tryz.zeroValue2
 t3:=Tryz.underlying3
 a3:=Tryz.isAgg3
 z3:=Tryz.sizeOf3
 v3:=Tryz.zeroValue3
 t4:=Tryz.underlying4
 a4:=Tryz.isAgg4
 z4:=Tryz.sizeOf4
 v4:=Tryz.zeroValue4
 t5:=Tryz.underlying5
 a5:=Tryz.isAgg5
 z5:=Tryz.sizeOf5
 v5:=Tryz.zeroValue5
 t9:=Tryz.underlying9
 a9:=Tryz.isAgg9
 z9:=Tryz.sizeOf9
 v9:=Tryz.zeroValue9
 t20:=Tryz.underlying20
 a20:=Tryz.isAgg20
 z20:=Tryz.sizeOf20
 v20:=Tryz.zeroValue20
 t21:=Tryz.underlying21
 a21:=Tryz.isAgg21
 z21:=Tryz.sizeOf21
 v21:=Tryz.zeroValue21
 t37:=Tryz.underlying278
 a37:=Tryz.isAgg278
 z37:=Tryz.sizeOf278
 v37:=Tryz.zeroValue278
 t46:=Tryz.underlying202
 a46:=Tryz.isAgg202
 z46:=Tryz.sizeOf202
 v46:=Tryz.zeroValue202
 t51:=Tryz.underlying331
 a51:=Tryz.isAgg331
 z51:=Tryz.sizeOf331
 v51:=Tryz.zeroValue331
 t53:=Tryz.underlying305
 a53:=Tryz.isAgg305
 z53:=Tryz.sizeOf305
 v53:=Tryz.zeroValue305
 t75:=Tryz.underlying281
 a75:=Tryz.isAgg281
 z75:=Tryz.sizeOf281
 v75:=Tryz.zeroValue281
 t76:=Tryz.underlying282
 a76:=Tryz.isAgg282
 z76:=Tryz.sizeOf282
 v76:=Tryz.zeroValue282
 t85:=Tryz.underlying319
 a85:=Tryz.isAgg319
 z85:=Tryz.sizeOf319
 v85:=Tryz.zeroValue319
 t127:=Tryz.underlying328
 a127:=Tryz.isAgg328
 z127:=Tryz.sizeOf328
 v127:=Tryz.zeroValue328
 t143:=Tryz.underlying354
 a143:=Tryz.isAgg354
 z143:=Tryz.sizeOf354
 v143:=Tryz.zeroValue354
 t145:=Tryz.underlying356
 a145:=Tryz.isAgg356
 z145:=Tryz.sizeOf356
 v145:=Tryz.zeroValue356
 t167:=Tryz.underlying318
 a167:=Tryz.isAgg318
 z167:=Tryz.sizeOf318
 v167:=Tryz.zeroValue318
 t168:=Tryz.underlying321
 a168:=Tryz.isAgg321
 z168:=Tryz.sizeOf321
 v168:=Tryz.zeroValue321
 t171:=Tryz.underlying304
 a171:=Tryz.isAgg304
 z171:=Tryz.sizeOf304
 v171:=Tryz.zeroValue304
 t173:=Tryz.underlying308
 a173:=Tryz.isAgg308
 z173:=Tryz.sizeOf308
 v173:=Tryz.zeroValue308
 t175:=Tryz.underlying340
 a175:=Tryz.isAgg340
 z175:=Tryz.sizeOf340
 v175:=Tryz.zeroValue340
 t210:=Tryz.underlying344
 a210:=Tryz.isAgg344
 z210:=Tryz.sizeOf344
 v210:=Tryz.zeroValue344
 t212:=Tryz.underlying330
 a212:=Tryz.isAgg330
 z212:=Tryz.sizeOf330
 v212:=Tryz.zeroValue330
 t213:=Tryz.underlying332
 a213:=Tryz.isAgg332
 z213:=Tryz.sizeOf332
 t232:=Tryz.underlying358
 a232:=Tryz.isAgg358
 z232:=Tryz.sizeOf358
 v232:=Tryz.zeroValue358
 t233:=Tryz.underlying359
 a233:=Tryz.isAgg359
 z233:=Tryz.sizeOf359
 v233:=Tryz.zeroValue359
 g15:=kr
 g16:=kr
 g17:=kr
 g18:=kr
 g19:=kr
 t80:=Tryz.underlying303
 a80:=Tryz.isAgg303
 z80:=Tryz.sizeOf303
 v80:=Tryz.zeroValue303
 i0:=kr
 i2:=kr
 i3:=kr
 i4:=kr
 i5:=kr
 i9:=kr
 i20:=kr
 i21:=kr
 i37:=kr
 i46:=kr
 i51:=kr
 i53:=kr
 i75:=kr
 i76:=kr
 i80:=kr
 i85:=kr
 i127:=kr
 i143:=kr
 i145:=kr
 i167:=kr
 i168:=kr
 i171:=kr
 i173:=kr
 i175:=kr
 i210:=kr
 i212:=kr
 i232:=kr
 i233:=kr
 m15:=kr
 m16:=kr
 m17:=kr
 m18:=kr
 m19:=kr
 c0:=kr
 c2:=kr
 c3:=kr
 c4:=kr
 c5:=kr
 c9:=kr
 c20:=kr
 c21:=kr
 c37:=kr
 c46:=kr
 c51:=kr
 c53:=kr
 c75:=kr
 c76:=kr
 c80:=kr
 c85:=kr
 c127:=kr
 c143:=kr
 c145:=kr
 c167:=kr
 c168:=kr
 c171:=kr
 c173:=kr
 c175:=kr
 c210:=kr
 c212:=kr
 c213:=kr
 c232:=kr
 c233:=kr
def RL.lR_ren:Go.Shelf.Ren:=⟨fun | 105=>284 | 212=>307 | 99=>168 | 165=>308 | 166=>283 | 170=>309 | 169=>285 | 263=>325 | 264=>326 | 206=>198 | 240=>306 | 241=>327 | 276=>324 | 277=>335 | n=>n,fun | 9=>9 | 3=>3 | 4=>4 | 20=>20 | 0=>0 | 46=>202 | 109=>324 | 5=>5 | 72=>300 | 76=>282 | 51=>331 | 146=>334 | 53=>305 | 148=>349 | 70=>298 | 37=>278 | 75=>281 | 127=>328 | 164=>346 | 80=>303 | n=>n,fun | n=>n⟩
theorem RL.lR:Go.Proofs.Lays.n105 Tp RL.lR_ren where
 mixed:=kr
 f99:=Tryz.func168.trans (aR some kr)
 f105:=Tryz.func284.trans (aR some kr)
 f165:=Tryz.func308.trans (aR some kr)
 f166:=Tryz.func283.trans (aR some kr)
 f169:=Tryz.func285.trans (aR some kr)
 f170:=Tryz.func309.trans (aR some kr)
 f206:=Tryz.func198.trans (aR some kr)
 f212:=Tryz.func307.trans (aR some kr)
 f240:=Tryz.func306.trans (aR some kr)
 f241:=Tryz.func327.trans (aR some kr)
 f263:=Tryz.func325.trans (aR some kr)
 f264:=Tryz.func326.trans (aR some kr)
 f276:=Tryz.func324.trans (aR some kr)
 f277:=Tryz.func335.trans (aR some kr)
 t0:=Tryz.underlying0
 a0:=Tryz.isAgg0
 z0:=Tryz.sizeOf0
 v0:=Tryz.zeroValue0
 t3:=Tryz.underlying3
 a3:=Tryz.isAgg3
 z3:=Tryz.sizeOf3
 v3:=Tryz.zeroValue3
 t4:=Tryz.underlying4
 a4:=Tryz.isAgg4
 z4:=Tryz.sizeOf4
 v4:=Tryz.zeroValue4
 t5:=Tryz.underlying5
 a5:=Tryz.isAgg5
 z5:=Tryz.sizeOf5
 v5:=Tryz.zeroValue5
 t9:=Tryz.underlying9
 a9:=Tryz.isAgg9
 z9:=Tryz.sizeOf9
 v9:=Tryz.zeroValue9
 t20:=Tryz.underlying20
 a20:=Tryz.isAgg20
 z20:=Tryz.sizeOf20
 v20:=Tryz.zeroValue20
 t37:=Tryz.underlying278
 a37:=Tryz.isAgg278
 z37:=Tryz.sizeOf278
 v37:=Tryz.zeroValue278
 t46:=Tryz.underlying202
 a46:=Tryz.isAgg202
 z46:=Tryz.sizeOf202
 v46:=Tryz.zeroValue202
 t51:=Tryz.underlying331
 a51:=Tryz.isAgg331
 z51:=Tryz.sizeOf331
 v51:=Tryz.zeroValue331
 t53:=Tryz.underlying305
 a53:=Tryz.isAgg305
 z53:=Tryz.sizeOf305
 v53:=Tryz.zeroValue305
 t70:=Tryz.underlying298
 a70:=Tryz.isAgg298
 z70:=Tryz.sizeOf298
 v70:=Tryz.zeroValue298
 t72:=Tryz.underlying300
 a72:=Tryz.isAgg300
 z72:=Tryz.sizeOf300
 v72:=Tryz.zeroValue300
 t75:=Tryz.underlying281
 a75:=Tryz.isAgg281
 z75:=Tryz.sizeOf281
 v75:=Tryz.zeroValue281
 t76:=Tryz.underlying282
 a76:=Tryz.isAgg282
 z76:=Tryz.sizeOf282
 v76:=Tryz.zeroValue282
 t109:=Tryz.underlying324
 a109:=Tryz.isAgg324
 z109:=Tryz.sizeOf324
 v109:=Tryz.zeroValue324
 t127:=Tryz.underlying328
 a127:=Tryz.isAgg328
 z127:=Tryz.sizeOf328
 v127:=Tryz.zeroValue328
 t146:=Tryz.underlying334
 a146:=Tryz.isAgg334
 z146:=Tryz.sizeOf334
 v146:=Tryz.zeroValue334
 t148:=Tryz.underlying349
 a148:=Tryz.isAgg349
 z148:=Tryz.sizeOf349
 v148:=Tryz.zeroValue349
 t164:=Tryz.underlying346
 a164:=Tryz.isAgg346
 z164:=Tryz.sizeOf346
 v164:=Tryz.zeroValue346
def RL.lT_ren:Go.Shelf.Ren:=⟨fun | 160=>276 | 232=>295 | 231=>294 | 227=>296 | 234=>298 | 233=>297 | 236=>300 | 235=>299 | 228=>317 | 271=>320 | 151=>319 | 197=>318 | 120=>332 | 152=>331 | 260=>330 | 137=>336 | 119=>337 | 224=>292 | 225=>291 | 217=>290 | 266=>315 | n=>n,fun | 9=>9 | 4=>4 | 3=>3 | 5=>5 | 117=>314 | 116=>313 | 0=>0 | 124=>317 | 21=>21 | 105=>337 | 46=>202 | 119=>360 | 139=>363 | 138=>362 | n=>n,fun | 3=>6 | 4=>7 | n=>n⟩
theorem RL.lT:Go.Proofs.Lays.n160 Tp RL.lT_ren where
 mixed:=kr
 f119:=Tryz.func337.trans (aR some kr)
 f120:=Tryz.func332.trans (aR some kr)
 f137:=Tryz.func336.trans (aR some kr)
 f151:=Tryz.func319.trans (aR some kr)
 f152:=Tryz.func331.trans (aR some kr)
 f160:=Tryz.func276.trans (aR some kr)
 f197:=Tryz.func318.trans (aR some kr)
 f217:=Tryz.func290.trans (aR some kr)
 f224:=Tryz.func292.trans (aR some kr)
 f225:=Tryz.func291.trans (aR some kr)
 f227:=Tryz.func296.trans (aR some kr)
 f228:=Tryz.func317.trans (aR some kr)
 f231:=Tryz.func294.trans (aR some kr)
 f232:=Tryz.func295.trans (aR some kr)
 f233:=Tryz.func297.trans (aR some kr)
 f234:=Tryz.func298.trans (aR some kr)
 f235:=Tryz.func299.trans (aR some kr)
 f236:=Tryz.func300.trans (aR some kr)
 f260:=Tryz.func330.trans (aR some kr)
 f266:=Tryz.func315.trans (aR some kr)
 f271:=Tryz.func320.trans (aR some kr)
 t0:=Tryz.underlying0
 a0:=Tryz.isAgg0
 z0:=Tryz.sizeOf0
 v0:=Tryz.zeroValue0
 t3:=Tryz.underlying3
 a3:=Tryz.isAgg3
 z3:=Tryz.sizeOf3
 v3:=Tryz.zeroValue3
 t4:=Tryz.underlying4
 a4:=Tryz.isAgg4
 z4:=Tryz.sizeOf4
 v4:=Tryz.zeroValue4
 t5:=Tryz.underlying5
 a5:=Tryz.isAgg5
 z5:=Tryz.sizeOf5
 v5:=Tryz.zeroValue5
 t9:=Tryz.underlying9
 a9:=Tryz.isAgg9
 z9:=Tryz.sizeOf9
 v9:=Tryz.zeroValue9
 t21:=Tryz.underlying21
 a21:=Tryz.isAgg21
 z21:=Tryz.sizeOf21
 v21:=Tryz.zeroValue21
 t46:=Tryz.underlying202
 a46:=Tryz.isAgg202
 z46:=Tryz.sizeOf202
 v46:=Tryz.zeroValue202
 t105:=Tryz.underlying337
 a105:=Tryz.isAgg337
 z105:=Tryz.sizeOf337
 v105:=Tryz.zeroValue337
 t116:=Tryz.underlying313
 a116:=Tryz.isAgg313
 z116:=Tryz.sizeOf313
 t117:=Tryz.underlying314
 a117:=Tryz.isAgg314
 z117:=Tryz.sizeOf314
 v117:=Tryz.zeroValue314
 t119:=Tryz.underlying360
 a119:=Tryz.isAgg360
 z119:=Tryz.sizeOf360
 t124:=Tryz.underlying317
 a124:=Tryz.isAgg317
 z124:=Tryz.sizeOf317
 v124:=Tryz.zeroValue317
 t138:=Tryz.underlying362
 a138:=Tryz.isAgg362
 z138:=Tryz.sizeOf362
 v138:=Tryz.zeroValue362
 t139:=Tryz.underlying363
 a139:=Tryz.isAgg363
 z139:=Tryz.sizeOf363
 v139:=Tryz.zeroValue363
 g3:=kr
 g4:=kr
def RL.lX_ren:Go.Shelf.Ren:=⟨fun | 219=>275 | 217=>290 | 225=>291 | 224=>292 | 267=>293 | 266=>315 | 314=>316 | n=>n,fun | 9=>9 | 3=>3 | 4=>4 | 5=>5 | 46=>202 | 146=>334 | 51=>331 | n=>n,fun | 1=>0 | n=>n⟩
theorem RL.lX:Go.Proofs.Lays.n219 Tp RL.lX_ren where
 mixed:=kr
 f217:=Tryz.func290.trans (aR some kr)
 f219:=Tryz.func275.trans (aR some kr)
 f224:=Tryz.func292.trans (aR some kr)
 f225:=Tryz.func291.trans (aR some kr)
 f266:=Tryz.func315.trans (aR some kr)
 f267:=Tryz.func293.trans (aR some kr)
 f314:=Tryz.func316.trans (aR some kr)
 t3:=Tryz.underlying3
 a3:=Tryz.isAgg3
 z3:=Tryz.sizeOf3
 v3:=Tryz.zeroValue3
 t4:=Tryz.underlying4
 a4:=Tryz.isAgg4
 z4:=Tryz.sizeOf4
 v4:=Tryz.zeroValue4
 t5:=Tryz.underlying5
 a5:=Tryz.isAgg5
 z5:=Tryz.sizeOf5
 v5:=Tryz.zeroValue5
 t9:=Tryz.underlying9
 a9:=Tryz.isAgg9
 z9:=Tryz.sizeOf9
 v9:=Tryz.zeroValue9
 t46:=Tryz.underlying202
 a46:=Tryz.isAgg202
 z46:=Tryz.sizeOf202
 v46:=Tryz.zeroValue202
 t51:=Tryz.underlying331
 a51:=Tryz.isAgg331
 z51:=Tryz.sizeOf331
 v51:=Tryz.zeroValue331
 t146:=Tryz.underlying334
 a146:=Tryz.isAgg334
 z146:=Tryz.sizeOf334
 v146:=Tryz.zeroValue334
 g1:=kr
def RL.lC_ren:Go.Shelf.Ren:=⟨fun | 240=>306 | 276=>324 | n=>n,fun | 70=>298 | 0=>0 | 72=>300 | 4=>4 | 164=>346 | 37=>278 | 5=>5 | n=>n,fun | n=>n⟩
theorem RL.lC:Go.Proofs.Lays.n240 Tp RL.lC_ren where
 mixed:=kr
 f240:=Tryz.func306.trans (aR some kr)
 f276:=Tryz.func324.trans (aR some kr)
 t0:=Tryz.underlying0
 a0:=Tryz.isAgg0
 z0:=Tryz.sizeOf0
 v0:=Tryz.zeroValue0
 t4:=Tryz.underlying4
 a4:=Tryz.isAgg4
 z4:=Tryz.sizeOf4
 v4:=Tryz.zeroValue4
 t9:=Tryz.underlying9
 a9:=Tryz.isAgg9
 z9:=Tryz.sizeOf9
 v9:=Tryz.zeroValue9
 t20:=Tryz.underlying20
 a20:=Tryz.isAgg20
 z20:=Tryz.sizeOf20
 v20:=Tryz.zeroValue20
 t70:=Tryz.underlying298
 a70:=Tryz.isAgg298
 z70:=Tryz.sizeOf298
 v70:=Tryz.zeroValue298
 t72:=Tryz.underlying300
 a72:=Tryz.isAgg300
 z72:=Tryz.sizeOf300
 v72:=Tryz.zeroValue300
 t164:=Tryz.underlying346
 a164:=Tryz.isAgg346
 z164:=Tryz.sizeOf346
 v164:=Tryz.zeroValue346
def RL.lS_ren:Go.Shelf.Ren:=⟨fun | 169=>285 | n=>n,fun | 70=>298 | 9=>9 | 0=>0 | 72=>300 | 37=>278 | 127=>328 | 3=>3 | 5=>5 | n=>n,fun | n=>n⟩
theorem RL.lS:Go.Proofs.Lays.n169 Tp RL.lS_ren where
 mixed:=kr
 f169:=Tryz.func285.trans (aR some kr)
 t0:=Tryz.underlying0
 a0:=Tryz.isAgg0
 z0:=Tryz.sizeOf0
 v0:=Tryz.zeroValue0
 t3:=Tryz.underlying3
 a3:=Tryz.isAgg3
 z3:=Tryz.sizeOf3
 v3:=Tryz.zeroValue3
 t9:=Tryz.underlying9
 a9:=Tryz.isAgg9
 z9:=Tryz.sizeOf9
 v9:=Tryz.zeroValue9
 t37:=Tryz.underlying278
 a37:=Tryz.isAgg278
 z37:=Tryz.sizeOf278
 v37:=Tryz.zeroValue278
 t70:=Tryz.underlying298
 a70:=Tryz.isAgg298
 z70:=Tryz.sizeOf298
 v70:=Tryz.zeroValue298
 t72:=Tryz.underlying300
 a72:=Tryz.isAgg300
 z72:=Tryz.sizeOf300
 v72:=Tryz.zeroValue300
 t127:=Tryz.underlying328
 a127:=Tryz.isAgg328
 z127:=Tryz.sizeOf328
 v127:=Tryz.zeroValue328
end Go.Proofs
end
section
open Go Go.Proofs Go.Eng Go.Shelf IB Go.Lib Go.RowKit Tryz
namespace RB
def Vq (s p:Bx):Prop:=p.length<=s.length/\s.take p.length=p
instance (s p:Bx):Decidable (Vq s p):=by unfold Vq;infer_instance
def Rs (s p:Bx):Bx:=if Vq s p then s.drop p.length else s
theorem yH (s:Bx):Vq s [45]↔s.headD 0=45:=by
 cases s with
 | nil=>simp[Vq]
 | cons c r=>simp[Vq]
theorem Je (s:Bx):Rs s [45]=digs s:=by
 unfold Rs digs;by_cases h:s.headD 0=45
 ·rw[aE h,aE ((yH s).2 h)];cases s<;>rfl
 rw[aD h,aD (fun e=>h ((yH s).1 e))]
def WI:Con:=aV 198 true fun | [.str s,.str p],K=>K (.bl (Vq s p) inferInstance) | _,_=>False
theorem UG:aM Tp WI:=by
 refine kQ {} func198 ntmps198 kn fun _ _ h=>?_;split at h;case h_2=>cases h
 refine kb h ?_;(repeat'((conv=>whnf);first|refine Zg fun _=>?_|fail));(apply Br.mk<;>intro)
 ·rename_i h;(repeat' first|refine ZG ?_|refine Zg fun _=>?_);(conv=>whnf);unfold Vq;exact ⟨fun e=>⟨om,e⟩,fun e=>e.2⟩
 rename_i h;(conv=>whnf);intro e;exact h (by have:=e.1;omega)
theorem b91 (s:Bx):body Tp [WI] {} true f168 [S s,S [45]] (.bl (s.headD 0=45) inferInstance):=by
 (conv=>whnf);exact yH s
def c91:Con:=aV 168 true fun args K=>match args with | [.str s,.str p]=>Need (p= [45]) (K (.bl (s.headD 0=45) inferInstance)) | _=>False
theorem k91:aM Tp c91:=by
 refine kO func168 fun c K h=>?_;simp only[c91] at h;split at h
 ·rename_i s p;obtain ⟨rfl,h⟩:=h;exact ⟨_,h,gH func168 ntmps168 (by simp[UG]) (b91 s)⟩
 cases h
def WJ:Con:=aV 215 true fun | [.str s,.str p],K=>K (.str (Rs s p)) | _,_=>False
theorem k125:aM Tp WJ:=by
 refine kQ {} func215 ntmps215 (kc UG kn) fun _ _ h=>?_;split at h;case h_2=>cases h
 refine kb h ?_;unfold Rs;(apply Br.mk<;>intro)
 ·rename_i h;rw[aE h];have:=h.1;(repeat' first|refine ZG ?_|refine Zg fun _=>?_);(conv=>whnf)
 rename_i h;rw[aD h];(conv=>whnf)
theorem b88 (s:Bx):body Tp [WJ] {} true f197 [S s,S [45]] (S (digs s)):=by
 rw[<- Je];(conv=>whnf)
def WK:Con:=aV 197 true fun args K=>match args with | [.str s,.str p]=>Need (p= [45]) (K (S (digs s))) | _=>False
theorem VH:aM Tp WK:=by
 refine kO func197 fun c K h=>?_;simp only[WK] at h;split at h
 ·rename_i s p;obtain ⟨rfl,h⟩:=h;exact ⟨_,h,gH func197 ntmps197 (by simp[k125]) (b88 s)⟩
 cases h
def WL:Con:=aV 255 true fun | [.str s,.str p],K=>K (.tup [S (Rs s p),.bl (Vq s p) inferInstance]) | _,_=>False
theorem k155:aM Tp WL:=by
 refine kQ {} func255 ntmps255 (kc UG kn) fun _ _ h=>?_;split at h;case h_2=>cases h
 refine kb h ?_;unfold Rs;(apply Br.mk<;>intro)
 ·rename_i h;rw[aD h];(conv=>whnf);(repeat' first|exact trivial|rfl|apply aA);exact h
 rename_i h;have h:=bG.1 h;rw[aE h];have:=h.1;(repeat' first|refine ZG ?_|refine Zg fun _=>?_);(conv=>whnf);(repeat' first|exact trivial|rfl|apply aA);all_goals first | exact h | exact h.1 | exact h.2
theorem b123 (s:Bx):body Tp [WL] {} true f231 [S s,S [45]] (.tup [S (digs s),.bl (s.headD 0=45) inferInstance]):=by
 rw[<- Je];(conv=>whnf);(repeat' first|exact trivial|rfl|apply aA);exact yH s
def PX:Con:=aV 231 true fun args K=>match args with | [.str s,.str p]=>Need (p= [45]) (K (.tup [S (digs s),.bl (s.headD 0=45) inferInstance])) | _=>False
theorem UH:aM Tp PX:=by
 refine kO func231 fun c K h=>?_;simp only[PX] at h;split at h
 ·rename_i s p;obtain ⟨rfl,h⟩:=h;exact ⟨_,h,gH func231 ntmps231 (by simp[k155]) (b123 s)⟩
 cases h
theorem Fz {E:Env}{s:Bx}{vs:List Value}(h:RelL E [.str s] vs):vs= [.string ⟨s.toArray⟩]/\s.length<=maxL:=by
 obtain ⟨v,rfl,c⟩:=h.one;cases c with
 | str _ hl=>exact ⟨rfl,hl⟩
theorem AM {E:Env}{k:IntKind}{n:Int}{vs:List Value}(h:RelL E [.val (.int k n)] vs):vs= [.int k n]/\inK k n:=by
 obtain ⟨v,rfl,c⟩:=h.one;obtain ⟨rfl,e⟩:=c.int_inv;exact ⟨rfl,e⟩
theorem MW {ok:Nat→Prop}{w:World}(h:GW Tp ok w):Lib.TabIs Tp w "internal/strconv.uint64pow10" .u64 Lib.pow10Tab:=by
 obtain ⟨f,c,e⟩:=h.var (n:= "internal/strconv.uint64pow10") (by simp[gnames]) (g:=1) kr
 unfold Lib.TabIs;rw[c,e.pow rfl];rfl
theorem CZ (n:Nat)(h:n<=9223372036854775808):(decDigits n).length<=20:=IB.qG 19 n om
theorem MX (n:Int)(h:inK .i64 n):(itoa n).length<=maxL:=by
 have h: -9223372036854775808<=n/\n<=9223372036854775807:=h;have c:=CZ n.natAbs om;rw[<- gA] at c;have e:(itoa n).length<=(digs (itoa n)).length+1:=by
  unfold digs;split
  ·rw[List.length_tail];omega
  omega
 show _<=140737488355328;omega
theorem t61 (n:Int):Tri Tp true 224 [I n] (S (itoa n)):=by
 intro s w vs g m o;obtain ⟨rfl,f⟩:=AM o;have c: -9223372036854775808<=n/\n<=9223372036854775807:=f;refine (Any.strconv_Itoa RL.lI n c.1 c.2 w (MW g)).mono ?_;rintro e w' ⟨rfl,k,os,rfl⟩;exact ⟨_,rfl,Lib.below_grow _ _ (aI _) _ _,.str _ (MX n f)⟩
def WM:Con:=aV 224 true fun args K=>match args with | [.val (.int .i64 n)]=>K (S (itoa n)) | _=>False
theorem WN:aM Tp WM:=by
 refine kO func224 fun c K h=>?_;simp only[WM] at h;split at h
 ·exact ⟨_,h,t61 _⟩
 cases h
abbrev Jz (n:Int):Prop:= -9223372036854775808<=n/\n<=9223372036854775807
def Au (acc:Nat)(l:Bx):Nat:=l.foldl (fun n c=>10*n+(c.toNat-48)) acc
theorem Rt:∀(l:Bx) (e:Nat),e<=Au e l
 | [],e=>aI _
 | c::r,e=>by
  have:=Rt r (10*e+(c.toNat-48));simp only[Au,oS] at this ⊢;omega
theorem Ga:∀(l:Bx) (f:Nat),(∀c∈l,dN c)->f<18446744073709551616->parseUint10 f l=if Au f l<18446744073709551616 then .ok (Au f l) else .range
 | [],f,_,h=>by simp[parseUint10,Au,h]
 | c::r,f,hd,h=>by
  have g:=hd c si;have u:=Ga r (f*10+(c.toNat-48)) fun x s=>hd x (by simp[s]);have o:=Rt r (10*f+(c.toNat-48));have e:Au f (c::r)=Au (f*10+(c.toNat-48)) r:=by simp only[Au,oS];rw[dY]
  rw[dY] at o;simp only[parseUint10];have g:48<=c.toNat/\c.toNat<=57:=g;rw[aE g,e];by_cases m:1844674407370955162<=f
  ·rw[aE m,aD om]
  rw[aD m];by_cases n:18446744073709551616<=f*10+(c.toNat-48)
  ·rw[aE n,aD om]
  rw[aD n,u om]
theorem Ru {l:Bx}(h:∀c∈l,dN c)(e:l≠ []):parseMag l=if bH l<18446744073709551616 then .ok (bH l) else .range:=by
 unfold parseMag;rw[aD e,Ga l 0 h om];rfl
theorem UI {c:UInt8}(h:dN c):c.toNat≠43/\c.toNat≠45:=by unfold dN at h;omega
theorem Rv {s:Bx}(h:gW s):atoiAll s=(if Jz (bK s) then .ok (bK s) else .range)/\(¬Jz (bK s)->(9223372036854775807<bK s/\atoiSat s=9223372036854775807)\/(bK s < -9223372036854775808/\atoiSat s= -9223372036854775808)):=by
 obtain ⟨e,y,f⟩:=h;cases s with
 | nil=>simp[digs] at e
 | cons c r=>
  by_cases n:c=45
  ·subst n;have e1:digs (45::r)=r:=rfl;have e2:bK (45::r)= -(bH r:Int):=rfl;rw[e1] at e f;rw[e2];unfold Jz;rw[atoiAll_minus,Ru f e,atoiSat_minus];refine ⟨?_,fun x=>.inr ⟨om,rfl⟩⟩;by_cases g:bH r<18446744073709551616
   ·rw[aE g];simp only[signed];by_cases m:9223372036854775808<bH r
    ·rw[aE m,aD om]
    rw[aD m,aE om]
   rw[aD g,aD om];rfl
  have e1:digs (c::r)=c::r:=by simp[digs,n]
  have e2:bK (c::r)=bH (c::r):=by simp[bK,n]
  rw[e1] at e f;obtain ⟨u,o⟩:=UI (f c si);rw[e2];unfold Jz;rw[atoiAll_plain c r u o,Ru f e,atoiSat_other c r o];refine ⟨?_,fun x=>.inl ⟨om,rfl⟩⟩;by_cases g:bH (c::r)<18446744073709551616
  ·rw[aE g];simp only[signless];by_cases m:9223372036854775808<=bH (c::r)
   ·rw[aE m,aD om]
   rw[aD m,aE om]
  rw[aD g,aD om];rfl
theorem t72ok (s:Bx)(g:gW s)(f:Jz (bK s)):Tri Tp true 257 [S s] (.tup [I (bK s),.val .nilIface]):=by
 intro y w vs x o u;obtain ⟨rfl,m⟩:=Fz u;have n:s.length<=140737488355328:=m;have c:=(Rv g).1;rw[aE f] at c;refine (Any.strconv_Atoi_ok RL.lA ⟨s.toArray⟩ (by show s.toArray.size<= _;rw[gY];omega) (bK s) (by simpa using c) w).mono ?_;rintro e w' ⟨rfl,hw⟩;refine ⟨_,rfl,?_,.tup _ _ (.cons _ _ _ _ (.val _ f) (.cons _ _ _ _ (.val _ trivial) .nil))⟩;rcases hw with rfl | ⟨t,rfl⟩
 ·exact Below.refl _ _
 exact Go.Joins.below_bytesWorld _ _ _ _ (aI _)
theorem MY {ok:Nat->Prop}{w:World}(h:GW Tp ok w):∃ev,w.cell? ⟨(RL.lA_ren).g 16,0,none⟩=some ev/\∃te o,ev= .iface te o:=by
 obtain ⟨x,u,e,f,c,m⟩:=h "strconv.ErrRange" (by simp[gnames]) ((RL.lA_ren).g 16) kr
 obtain ⟨s,p,n⟩:=m.err (.inl rfl);refine ⟨_,?_,s,p,rfl⟩;rw[World.cell?,c,n];rfl
theorem UJ (s:Bx)(m:gW s)(x:¬Jz (bK s))(y:s.length<=281474976710656):Tri Tp true 257 [S s] (.tup [I (atoiSat s),.ifc]):=by
 intro z w vs n o u;obtain ⟨rfl,_⟩:=Fz u;have c:=(Rv m).1;rw[aD x] at c;obtain ⟨ev,f,g⟩:=MY n;refine (Any.strconv_Atoi_range RL.lA ⟨s.toArray⟩ (by show s.toArray.size<= _;rw[gY];omega) (by simpa using c) ev w f (.inr g)).mono ?_;rintro e w' ⟨N,rfl,_,_,hb⟩;refine ⟨_,rfl,hb,.tup _ _ (.cons _ _ _ _ ?_ (.cons _ _ _ _ (.ifc _ (.inr ⟨_,_,rfl⟩)) .nil))⟩;exact .val _ (atoiSat_bounds _)
def XV:Con:=aV 257 true fun args K=>match args with
 | [.str s]=>Need (gW s/\s.length<=1000) (Br (Jz (bK s)) (K (.tup [I (bK s),.val .nilIface])) (K (.tup [I (atoiSat s),.ifc])))
 | _=>False
theorem k72:aM Tp XV:=by
 refine kO func257 fun e K h=>?_;simp only[XV] at h;split at h
 ·rename_i s;obtain ⟨⟨f,g⟩,h⟩:=h;by_cases c:Jz (bK s)
  ·exact ⟨_,h.yes c,t72ok s f c⟩
  exact ⟨_,h.no c,UJ s f c om⟩
 cases h
abbrev digitsS:Bx:=[48,49,50,51,52,53,54,55,56,57]
theorem Ok (c:UInt8):digitsS.contains c=true↔dN c:=by
 have h:∀n:Fin 256,(digitsS.contains (UInt8.ofNat n.val)=true)↔(48<=n.val/\n.val<=57):=de;have e:=h ⟨c.toNat,c.toNat_lt⟩;simp only[UInt8.ofNat_toNat] at e;exact e
theorem Rw (s cs:Bx):trimS s cs= []↔∀c∈s,cs.contains c=true:=by
 have g:∀l:Bx,l.dropWhile (cs.contains ·)= []↔∀c∈l,cs.contains c=true:=by
  intro l
  induction l with
  | nil=>simp
  | cons x r ih=>
   simp only[oL,bY,forall_eq_or_imp];by_cases h:cs.contains x=true
   ·rw[aE h,ih];simp only[h,true_and]
   rw[aD h];exact ⟨(fun e=>by cases e),(fun e=>(h e.1).elim)⟩
 have f:∀l:Bx,(∀c∈l.dropWhile (cs.contains ·),cs.contains c=true)↔∀c∈l,cs.contains c=true:=by
  intro l
  induction l with
  | nil=>simp
  | cons x r ih=>
   simp only[oL];by_cases h:cs.contains x=true
   ·rw[aE h,ih];simp only[bY,forall_eq_or_imp,h,true_and]
   rw[aD h]
 unfold trimS trimLeftS trimRightS;rw[g];have:=f s.reverse;simp only[List.mem_reverse] at this ⊢;exact this
theorem HM (s cs:Bx):(trimS s cs).length<=s.length:=by
 have h:∀l:Bx,(l.dropWhile (cs.contains ·)).length<=l.length:=fun l=>(List.dropWhile_sublist _).length_le;unfold trimS trimLeftS trimRightS;have c:=h (s.reverse.dropWhile (cs.contains ·)).reverse;have e:=h s.reverse;simp only[List.length_reverse] at c e;omega
theorem t156 (s:Bx):Tri Tp true 276 [S s,S digitsS] (S (trimS s digitsS)):=by
 intro n w vs m g c;cases c with
 | cons _ v1 _ vs1 h1 c=>
 cases h1 with
 | str _ hl=>
 obtain ⟨rfl,_⟩:=Fz c;have f:s.length<=140737488355328:=hl;refine (Any.strings_Trim_laid RL.lT kr ⟨s.toArray⟩ ⟨digitsS.toArray⟩ w (by show s.toArray.size<= _;rw[gY];omega) de (ascii_of_all de)).mono ?_;rintro e w' ⟨rfl,hb⟩;exact ⟨_,rfl,hb,.str _ (by have:=HM s digitsS;show _<=140737488355328;omega)⟩
def WO:Con:=aV 276 true fun args K=>match args with | [.str s,.str cs]=>Need (cs=digitsS) (K (S (trimS s digitsS))) | _=>False
theorem k156:aM Tp WO:=by
 refine kO func276 fun c K h=>?_;simp only[WO] at h;split at h
 ·rename_i s e;obtain ⟨rfl,h⟩:=h;exact ⟨_,h,t156 _⟩
 cases h
theorem ex9:Builder.Extra Tp RL.lR_ren where
 sizeBuilder:=kr
 liesBuilder:=kr
 t5:=Tryz.underlying5
 a5:=Tryz.isAgg5
 z5:=Tryz.sizeOf5
 v5:=Tryz.zeroValue5
 infoByte:=kr
 cellsByte:=kr
 sizeByte:=kr
 neB5:=de
theorem Ec (c:UInt8):∀n,repeatL [c] n=List.replicate n c
 | 0=>rfl
 | n+1=>by rw[repeatL,Ec c n];rfl
theorem t159 (c:UInt8)(n:Int)(o:0<=n/\n<=1000):Tri Tp true 284 [S [c],I n] (S (List.replicate n.toNat c)):=by
 intro s w vs m g f;cases f with
 | cons _ v1 _ vs1 h1 f=>
 cases h1 with
 | str _ hl=>
 obtain ⟨rfl,_⟩:=AM f;obtain ⟨k,rfl⟩:∃k:Nat,n=k:=⟨n.toNat,om⟩;refine (Any.strings_Repeat RL.lR ex9 ⟨[c].toArray⟩ k w om (by show 1*k<= _;omega)).mono ?_;rintro e w' ⟨rfl,hb⟩;rw[aU,<- Ec];exact ⟨_,rfl,hb,.str _ (by rw[Ec,dZ];show _<=140737488355328;omega)⟩
def UK:Con:=aV 284 true fun args K=>match args with | [.str [c],.val (.int .i64 n)]=>Need (0<=n/\n<=1000) (K (S (List.replicate n.toNat c))) | _=>False
theorem k159:aM Tp UK:=by
 refine kO func284 fun c K h=>?_;simp only[UK] at h;split at h
 ·exact ⟨_,h.go,t159 _ _ h.ok⟩
 cases h
theorem yI {s:Bx}(h:digs s= []\/((digs s).headD 0=48/\s≠ [48])\/trimS (digs s) digitsS≠ []):iO s=11:=by
 unfold iO;rw[aD];rintro ⟨h1,e,h3⟩;rcases h with h | h | h
 ·exact h1 h
 ·rcases e with e | e
  ·exact e h.1
  exact h.2 e
 exact h ((Rw _ _).2 fun c f=>(Ok c).2 (h3 c f))
theorem PY {s:Bx}(f:digs s≠ [])(g:(digs s).headD 0=48->s= [48])(m:trimS (digs s) digitsS= []):gW s:=
 ⟨f,(Classical.em ((digs s).headD 0=48)).elim (fun e=>.inr (g e)) .inl,fun c n=>(Ok c).1 ((Rw _ _).1 m c n)⟩
theorem sL {s:Bx}(h:gW s):iO s=if 300<(digs s).length then 4 else 0:=by unfold iO;rw[aE h]
def c127:Con:=aV 256 true fun | [.str s],K=>K (I (iO s)) | _,_=>False
theorem k127:aM Tp c127:=by
 refine kQ {} func256 ntmps256 (kc VH (kc k156 kn)) fun _ _ h=>?_;split at h;case h_2=>cases h
 rename_i s;refine kb h ?_;(repeat refine ZG ?_);(apply Br.mk<;>intro)
 ·rename_i h;rw[yI (.inl h)];exact ZF
 rename_i h;have f:0<(digs s).length:=cB.2 h;have g:bJ (digs s) 0=48↔(digs s).headD 0=48:=by
  unfold bJ;cases hd:digs s with
  | nil=>rw[hd] at f;simp at f
  | cons c r=>
   show (c.toNat:Int)=48↔c=48;constructor
   ·intro e;have:c.toNat=(48:UInt8).toNat:=by show c.toNat=48;omega
    exact oV this
   rintro rfl;rfl
 (repeat'((conv=>whnf);first|refine Zg fun _=>?_|refine Zn ?_|refine Z0 ?_|refine Zr (fun _=>?_) fun _=>?_|fail));all_goals (skip;(conv=>whnf);(repeat' first|rfl|apply aA))
 all_goals first
  | exact (yI (.inr (.inl ⟨g.1 (by assumption),by assumption⟩))).symm
  | exact (yI (.inr (.inr (by assumption)))).symm
  | (have m:gW s:=PY h (fun e=>by first | exact bG.1 (by assumption) | exact absurd (g.2 e) (by assumption)) (by exact bG.1 (by assumption))
     rw[sL m]
     first | (rw[aE om]) | (rw[aD om])
     done)
def Av (a b:Bx):Int:=if iO a≠0 then iO a else iO b
def YB:Con:=aV 235 true fun | [.str a,.str b],K=>K (I (Av a b)) | _,_=>False
theorem YC:aM Tp YB:=by
 refine kQ {} func235 ntmps235 (kc k127 kn) fun _ _ h=>?_;split at h;case h_2=>cases h
 refine kb h ?_;unfold Av;(apply Br.mk<;>intro)
 ·rename_i h;rw[aE h];exact ZF
 rename_i h;rw[aD h];exact ZF
theorem mO {s:Bx}(h:iO s=0):gW s/\(digs s).length<=300:=by
 unfold iO at h;split at h
 ·rename_i c;split at h
  ·cases h
  exact ⟨c,om⟩
 cases h
theorem xC (s:Bx):(digs s).length<=s.length/\s.length<=(digs s).length+1:=by
 unfold digs;split
 ·rw[List.length_tail];omega
 omega
theorem xD {s:Bx}(h:gW s)(n:s.length<=18): -1000000000000000000<bK s/\bK s<1000000000000000000:=by
 obtain ⟨f,g,e⟩:=h;have m:=iV (digs s) e;have o:(10:Nat)^ (digs s).length<=10^18:=bO om (by have:=xC s;omega);have c:(10:Nat)^18=1000000000000000000:=de;have u:bK s=bH (digs s)\/bK s= -(bH (digs s):Int):=by
  unfold bK digs;split
  ·exact .inr rfl
  exact .inl rfl
 omega
theorem b95y (a b:Bx)(c:gW a)(e:gW b)(f:a.length<=18/\b.length<=18):body Tp [XV] {} true f236 [S a,S b,I 18] (.tup [I (bK a),I (bK b),.val (.bool true)]):=by
 have g:=xD c f.1;have m:=xD e f.2;have f1:Jz (bK a):=by unfold Jz;omega
 have f2:Jz (bK b):=by unfold Jz;omega
 (repeat'((conv=>whnf);first|refine Zg fun _=>?_|refine Zm ?_|fail));refine Need.mk ⟨c,om⟩ ?_;refine Br.mkY f1 ?_;refine Need.mk ⟨e,om⟩ ?_;refine Br.mkY f2 ?_;(repeat'((conv=>whnf);first|apply pI|apply pJ|fail));exact ZF
theorem b95n (a b:Bx)(c:¬(a.length<=18/\b.length<=18)):body Tp [XV] {} true f236 [S a,S b,I 18] (.tup [I 0,I 0,.val (.bool false)]):=by
 (repeat'((conv=>whnf);first|refine Zg fun _=>?_|refine Zy ?_|refine Zr (fun _=>?_) fun _=>?_|fail));all_goals first | (exfalso;omega) | skip
 all_goals (skip;(conv=>whnf);(repeat' first|exact trivial|rfl|apply aA))
def XW:Con:=aV 236 true fun args K=>match args with
 | [.str a,.str b,.val (.int .i64 m)]=>Need (m=18/\gW a/\gW b) (Br (a.length<=18/\b.length<=18) (K (.tup [I (bK a),I (bK b),.val (.bool true)])) (K (.tup [I 0,I 0,.val (.bool false)])))
 | _=>False
theorem YD:aM Tp XW:=by
 refine kO func236 fun e K h=>?_;simp only[XW] at h;split at h
 ·rename_i a b m;obtain ⟨⟨rfl,f,g⟩,h⟩:=h;by_cases c:a.length<=18/\b.length<=18
  ·exact ⟨_,h.yes c,gH func236 ntmps236 (by simp[k72]) (b95y a b f g c)⟩
  exact ⟨_,h.no c,gH func236 ntmps236 (by simp[k72]) (b95n a b c)⟩
 cases h
end RB
end

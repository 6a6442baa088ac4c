/-
  Part 3: a symbolic executor over the model, contracts of functions and plain laws.
-/
import Derived.Test.YtocimheacfaimaaGreatDoorP2
import Derived.RangeFuncNested
import Derived.OrdersIn
set_option linter.unusedVariables false
set_option linter.unusedSimpArgs false
set_option maxRecDepth 10000
set_option maxHeartbeats 80000000
open List (length getD)
noncomputable section
section
namespace Go.Eng
open Go.RowKit
theorem and2 {a b:Bool}(h:(a&&b)=true):a=true/\b=true:=by simpa using h
mutual
theorem Rel.move {E E':Env}{p:Nat->Bool}(A:∀nm,p nm=true->E.has nm=true->E'.has nm=true/\((E'.ver nm=E.ver nm/\(E'.loc nm).toCore=(E.loc nm).toCore)\/(0<E.ver nm/\E.ver nm<E'.ver nm)))(x:∀nm,p nm=true->E.has nm=true->E'.ver nm=E.ver nm->(E'.loc nm).sub=(E.loc nm).sub\/(E.loc nm).sub.v<(E'.loc nm).sub.v)(F:E.itr.on=true->E'.itr=E.itr)(B:KeepC E E')(C:∀b,E.ok b->E'.ok b){s:SV}{v:Value}(h:Rel E s v)(u:allN p s=true):Rel E' s v:=by
 cases h with
 | any=>exact .any v
 | val _ h=>exact .val v h
 | bl p d=>exact .bl p d
 | str s h=>exact .str s h
 | seq t xs _ h=>exact .seq t xs v (h.mono B.cell C)
 | lit es n b off l vs hl hn hok hr=>exact .lit es n b off l vs (hl.move A x F B C (by simpa [allN] using u)) hn (C _ hok) (fun j v J=>B.cell _ v hok (hr j v J))
 | elem t xs i o b off es hi hok hr h=>exact .elem t xs i o b off es hi (C _ hok) (fun j v J=>B.cell _ v hok (hr j v J)) (h.mono B.cell C)
 | lelem l i b off vs hl hok hr=>exact .lelem l i b off vs (hl.move A x F B C (by simpa [allN] using u)) (C _ hok) (fun j v J=>B.cell _ v hok (hr j v J))
 | ptr nm off _ hn h=>
  obtain ⟨m,y⟩:=A nm (by simpa [allN] using u) hn;refine .ptr nm off v m fun g=>?_;rcases y with ⟨e1,e2⟩ | ⟨e1,e2⟩
  ·rw[e1] at g;obtain ⟨b,u,K⟩:=h g;exact ⟨b,by rw[e2];exact u,K⟩
  omega
 | ref nm k _ hn g hk' h=>
  obtain ⟨m,y⟩:=A nm (by simpa [allN] using u) hn;rcases y with ⟨e1,e2⟩ | ⟨e1,e2⟩
  ·exact .ref nm k v m g om fun e=>by rw[e2];exact h om
  exact .ref nm k v m g om fun e=>om
 | vptr nm k i z o _ hn g hk' h=>
  obtain ⟨m,y⟩:=A nm (by simpa [allN] using u) hn;rcases y with ⟨e1,e2⟩ | ⟨e1,e2⟩
  ·exact .vptr nm k i z o v m g om fun e=>by rw[e2];exact h om
  exact .vptr nm k i z o v m g om fun e=>om
 | wide nm k _ hn g hk' h=>
  obtain ⟨m,y⟩:=A nm (by simpa [allN] using u) hn;rcases y with ⟨e1,e2⟩ | ⟨e1,e2⟩
  ·exact .wide nm k v m g om fun e=>by rw[e2];exact h om
  exact .wide nm k v m g om fun e=>om
 | agg l vs hl=>exact .agg l vs (hl.move A x F B C (by simpa [allN] using u))
 | tup l vs hl=>exact .tup l vs (hl.move A x F B C (by simpa [allN] using u))
 | clo f a b va vb ha hb'=>
  simp only[allN,aG] at u;exact .clo f a b va vb (ha.move A x F B C u.1) (hb'.move A x F B C u.2)
 | yld l h=>rw[<- F h];exact .yld l (by rw[F h];exact h)
 | sft i _ h K=>exact .sft i v (by rw[F h];exact h) (by rw[F h];exact K)
 | mp nm _ hn h=>
  obtain ⟨m,y⟩:=A nm (by simpa [allN] using u) hn;refine .mp nm v m fun g=>?_;rcases y with ⟨e1,e2⟩ | ⟨e1,e2⟩
  ·rw[e1] at g;obtain ⟨b,u,K⟩:=h g;exact ⟨b,by rw[e2];exact u,K⟩
  omega
 | sub nm k s i _ hn g hk' hs h=>
  have D:p nm=true:=by simpa [allN] using u
  obtain ⟨m,y⟩:=A nm D hn;rcases y with ⟨e1,e2⟩ | ⟨e1,e2⟩
  ·have e3:=x nm D hn e1;refine .sub nm k s i v m g om (fun e=>?_) (fun e e4=>?_)
   ·have:=hs om;rcases e3 with e3 | e3
    ·rw[e3];exact this
    omega
   have W:=hs om;rcases e3 with e3 | e3
   ·rw[e3] at e4 ⊢;exact h om e4
   omega
  exact .sub nm k s i v m g om (fun e=>om) (fun e=>om)
 | part nm k i j z _ hn g hk' h=>
  obtain ⟨m,y⟩:=A nm (by simpa [allN] using u) hn;rcases y with ⟨e1,e2⟩ | ⟨e1,e2⟩
  ·exact .part nm k i j z v m g om fun e=>by rw[e2];exact h om
  exact .part nm k i j z v m g om fun e=>om
 | lim nm k i z _ hn g hk' h=>
  obtain ⟨m,y⟩:=A nm (by simpa [allN] using u) hn;rcases y with ⟨e1,e2⟩ | ⟨e1,e2⟩
  ·exact .lim nm k i z v m g om fun e=>by rw[e2];exact h om
  exact .lim nm k i z v m g om fun e=>om
 | ifc _ h=>exact .ifc v h
 | num k n h=>exact .num k n h
 | wcel n b e hw hok hr=>exact .wcel n b e hw (C _ hok) (B _ _ hok hr rfl)
 | fmp ks l b c es hok hb' hk' hl=>exact .fmp ks l b c es (C _ hok) (B _ _ hok hb' rfl) hk' (hl.move A x F B C (by simpa [allN] using u))
 | subp nm k s _ hn g hk' hs h=>
  have D:p nm=true:=by simpa [allN] using u
  obtain ⟨m,y⟩:=A nm D hn;rcases y with ⟨e1,e2⟩ | ⟨e1,e2⟩
  ·have e3:=x nm D hn e1;refine .subp nm k s v m g om (fun e=>?_) (fun e e4=>?_)
   ·have:=hs om;rcases e3 with e3 | e3
    ·rw[e3];exact this
    omega
   have W:=hs om;rcases e3 with e3 | e3
   ·rw[e3] at e4 ⊢;exact h om e4
   omega
  exact .subp nm k s v m g om (fun e=>om) (fun e=>om)
theorem RelL.move {E E':Env}{p:Nat->Bool}(m:∀nm,p nm=true->E.has nm=true->E'.has nm=true/\((E'.ver nm=E.ver nm/\(E'.loc nm).toCore=(E.loc nm).toCore)\/(0<E.ver nm/\E.ver nm<E'.ver nm)))(c:∀nm,p nm=true->E.has nm=true->E'.ver nm=E.ver nm->(E'.loc nm).sub=(E.loc nm).sub\/(E.loc nm).sub.v<(E'.loc nm).sub.v)(n:E.itr.on=true->E'.itr=E.itr)(f:KeepC E E')(g:∀b,E.ok b->E'.ok b){l:List SV}{vs:List Value}(h:RelL E l vs)(e:allN.allNL p l=true):RelL E' l vs:=by
 cases h with
 | nil=>exact .nil
 | cons s v l vs h hl=>
  simp only[allN.allNL,aG] at e;exact .cons s v l vs (h.move m c n f g e.1) (hl.move m c n f g e.2)
end
mutual
theorem Rel.under {E:Env}{s:SV}{v:Value}(h:Rel E s v):allN E.has s=true:=by
 cases h with
 | ptr nm off _ hn h=>simpa [allN] using hn
 | mp nm _ hn h=>simpa [allN] using hn
 | sub nm k s i _ hn h0 hk hs h=>simpa [allN] using hn
 | subp nm k s _ hn h0 hk hs h=>simpa [allN] using hn
 | part nm k i j z _ hn h0 hk h=>simpa [allN] using hn
 | lim nm k i z _ hn h0 hk h=>simpa [allN] using hn
 | ref nm k _ hn h0 hk' h=>simpa [allN] using hn
 | vptr nm k i z o _ hn h0 hk' h=>simpa [allN] using hn
 | wide nm k _ hn h0 hk' h=>simpa [allN] using hn
 | lit es n b off l vs hl hn hok hr=>exact hl.under
 | lelem l i b off vs hl hok hr=>exact hl.under
 | fmp ks l b c es hok hb hk hl=>exact hl.under
 | agg l vs hl=>exact hl.under
 | tup l vs hl=>exact hl.under
 | clo f a b va vb ha hb'=>simp only[allN,aG];exact ⟨ha.under,hb'.under⟩
 | _=>rfl
theorem RelL.under {E:Env}{l:List SV}{vs:List Value}(h:RelL E l vs):allN.allNL E.has l=true:=by
 cases h with
 | nil=>rfl
 | cons s v l vs h hl=>simp only[allN.allNL,aG];exact ⟨h.under,hl.under⟩
end
mutual
theorem Yb {p q r:Nat->Bool}(h:∀n,p n=true->q n=true->r n=true):∀(s:SV),allN p s=true->allN q s=true->allN r s=true
 | .ref nm _,h1,h2=>h nm h1 h2
 | .vptr nm _ _ _ _,h1,h2=>h nm h1 h2
 | .wide nm _,h1,h2=>h nm h1 h2
 | .ptr nm _,h1,h2=>h nm h1 h2
 | .mp nm,h1,h2=>h nm h1 h2
 | .sub nm _ _ _,h1,h2=>h nm h1 h2
 | .subp nm _ _,h1,h2=>h nm h1 h2
 | .part nm _ _ _ _,h1,h2=>h nm h1 h2
 | .lim nm _ _ _,h1,h2=>h nm h1 h2
 | .lit _ l,h1,h2=>pK h l h1 h2
 | .lelem l _,h1,h2=>pK h l h1 h2
 | .fmp _ l,h1,h2=>pK h l h1 h2
 | .agg l,h1,h2=>pK h l h1 h2
 | .tup l,h1,h2=>pK h l h1 h2
 | .clo _ a b,h1,h2=>by
  simp only[allN,aG] at h1 h2 ⊢;exact ⟨pK h a h1.1 h2.1,pK h b h1.2 h2.2⟩
 | .any,_,_=>rfl
 | .val _,_,_=>rfl
 | .bl _ _,_,_=>rfl
 | .str _,_,_=>rfl
 | .ifc,_,_=>rfl
 | .num _,_,_=>rfl
 | .seq _ _,_,_=>rfl
 | .elem _ _ _ _,_,_=>rfl
 | .yld _,_,_=>rfl
 | .sft _,_,_=>rfl
 | .wcel _,_,_=>rfl
 | .itr _ _,_,_=>rfl
theorem pK {p q r:Nat->Bool}(h:∀n,p n=true->q n=true->r n=true):∀(l:List SV),allN.allNL p l=true->allN.allNL q l=true->allN.allNL r l=true
 | [],_,_=>rfl
 | x::l,h1,h2=>by
  simp only[allN.allNL,aG] at h1 h2 ⊢;exact ⟨Yb h x h1.1 h2.1,pK h l h1.2 h2.2⟩
end
open Go.RowKit
structure ExtO (D:List Nat) (E E':Env):Prop where
 blk:∀b,E.ok b->E'.w.heap[b]? =E.w.heap[b]?
 ok:∀b,E.ok b->E'.ok b
 num:∀nm,E.has nm=true->E'.has nm=true
 ver:∀nm,E.has nm=true->mem nm D=false->(E'.ver nm=E.ver nm/\(E'.loc nm).toCore=(E.loc nm).toCore)\/(0<E.ver nm/\E.ver nm<E'.ver nm)
 size:E.w.heap.size<=E'.w.heap.size
 keep:∀(k:Nat) (o:Obj),¬E.ali k->E.w.heap[k]? =some o->isBook o=true->E'.w.heap[k]? =some o
 gho:∀nm b,E.gho nm b->E'.gho nm b/\E'.w.heap[b]? =E.w.heap[b]?
 gho':∀nm b,E.has nm=true->E'.gho nm b->E.gho nm b
 ali:∀b,E'.ali b->E.ali b\/E.w.heap.size<=b
 itr:E'.itr=E.itr
 sub:∀nm,E.has nm=true->mem nm D=false->E'.ver nm=E.ver nm->(E'.loc nm).sub=(E.loc nm).sub\/(E.loc nm).sub.v<(E'.loc nm).sub.v
theorem ExtO.keepC {D:List Nat}{E E':Env}(x:ExtO D E E'):KeepC E E':=fun b _ c h _=>(x.blk b c).trans h
theorem ExtO.cell {D:List Nat}{E E':Env}(x:ExtO D E E'):∀a v,E.ok a.block->E.w.cell? a=some v->E'.w.cell? a=some v:=
 fun a v e c=>(World.cell?_of_block (x.blk _ e)).trans c
theorem Ext.toO {E E':Env}(x:Ext E E')(D:List Nat):ExtO D E E':=⟨x.blk,x.ok,x.num,fun nm h _=>x.ver nm h,x.size,x.keep,x.gho,x.gho',x.ali,x.itr,fun nm h _ e=>x.sub nm h e⟩
theorem mem_append (n:Nat)(a b:List Nat):mem n (a++b)=(mem n a || mem n b):=by
 induction a with
 | nil=>rfl
 | cons x r ih=>simp only[jV,mem,ih,Bool.or_assoc]
theorem ExtO.refl (D:List Nat)(E:Env):ExtO D E E:=(Ext.refl E).toO D
theorem ExtO.trans {D:List Nat}{A B C:Env}(h:ExtO D A B)(k:ExtO D B C):ExtO D A C:=by
 refine ⟨fun b x=>(k.blk b (h.ok b x)).trans (h.blk b x),fun b g=>k.ok b (h.ok b g),fun c e=>k.num c (h.num c e),fun c e m=>?_,bA h.size k.size,
  fun i o u hi x=>k.keep i o (fun g=>?_) (h.keep i o u hi x) x,fun c b g=>?_,fun c b e g=>h.gho' c b e (k.gho' c b (h.num c e) g),fun b g=>?_,k.itr.trans h.itr,fun c e m J=>?_⟩
 ·rcases h.ver c e m with ⟨e1,e2⟩ | ⟨e1,e2⟩
  ·rcases k.ver c (h.num c e) m with ⟨e3,e4⟩ | ⟨e3,e4⟩
   ·exact .inl ⟨e3.trans e1,e4.trans e2⟩
   exact .inr ⟨om,om⟩
  rcases k.ver c (h.num c e) m with ⟨e3,e4⟩ | ⟨e3,e4⟩
  ·exact .inr ⟨e1,om⟩
  exact .inr ⟨e1,om⟩
 ·rcases h.ali i g with f | f
  ·exact u f
  have:=(aH.1 hi).1;omega
 ·obtain ⟨f,y⟩:=h.gho c b g;obtain ⟨z,E⟩:=k.gho c b f;exact ⟨z,E.trans y⟩
 ·rcases k.ali b g with f | f
  ·exact h.ali b f
  exact .inr (bA h.size f)
 have f:=h.ver c e m;have y:=k.ver c (h.num c e) m;have e1:B.ver c=A.ver c:=by
  rcases f with ⟨s,_⟩ | ⟨s,n⟩
  ·exact s
  rcases y with ⟨F,_⟩ | ⟨F,K⟩<;>omega
 rcases h.sub c e m e1 with s | s
 ·rcases k.sub c (h.num c e) m om with n | n
  ·exact .inl (n.trans s)
  rw[s] at n;exact .inr n
 rcases k.sub c (h.num c e) m om with n | n
 ·rw[n];exact .inr s
 exact .inr (oF s n)
theorem ExtO.mono {D g:List Nat}{E E':Env}(h:ExtO D E E')(m:∀n,mem n D=true->mem n g=true):ExtO g E E':=
 ⟨h.blk,h.ok,h.num,fun nm f c=>h.ver nm f (by
  cases e:mem nm D with
  | false=>rfl
  | true=>rw[m nm e] at c;cases c),h.size,h.keep,h.gho,h.gho',h.ali,h.itr,fun nm f c=>h.sub nm f (by
  cases e:mem nm D with
  | false=>rfl
  | true=>rw[m nm e] at c;cases c)⟩
def Same (ws:List Nat)(a a':Act):Prop:=∀t,mem t ws=false->a'.tmps.getD t undef=a.tmps.getD t undef
theorem Same.refl (ws:List Nat)(a:Act):Same ws a a:=fun _ _=>rfl
theorem Same.trans {ws:List Nat}{a b c:Act}(h:Same ws a b)(k:Same ws b c):Same ws a c:=fun t e=>(k t e).trans (h t e)
theorem Same.mono {ws c:List Nat}{a b:Act}(h:Same ws a b)(g:∀n,mem n ws=true->mem n c=true):Same c a b:=fun t f=>h t (by
 cases e:mem t ws with
 | false=>rfl
 | true=>rw[g t e] at f;cases f)
theorem Same.put {ws:List Nat}(a:Act)(d:Option Nat)(v:Value)(h:∀t,d=some t->mem t ws=true):Same ws a (a.put d v):=by
 intro t c;cases d with
 | none=>rfl
 | some u=>
  simp only[Act.put,bQ,cS];have:¬u=t:=fun e=>by rw[<- e,h u rfl] at c;cases c
  simp[this]
theorem Mo {p:Nat->Prop}:∀n,p n->∃m,p m/\∀k,p k->m<=k:=by
 intro n
 induction n using Nat.strongRecOn with
 | _ n ih=>
  intro o;by_cases h:∃k,k<n/\p k
  ·obtain ⟨k,e,f⟩:=h;exact ih k e f
  exact ⟨n,o,fun k g=>fF fun c=>h ⟨k,c,g⟩⟩
def Mp (p:Nat->Prop):Nat:=Classical.epsilon fun m=>p m/\∀k,p k->m<=k
theorem Io {p:Nat->Prop}(h:∃n,p n):p (Mp p)/\∀k,p k->Mp p<=k:=by
 obtain ⟨n,c⟩:=h;exact Classical.epsilon_spec (Mo n c)
theorem Mq {F:Fence}{n:Nat}{P:Program}{Q:Exit->Act->World->Prop}{a:Act}{w:World}{c:Code}(I:Nat->Act->World->Prop)(h₀:∃k,I k a w)(g:∀k a w,I k a w->c.wpIn F n P (Exit.then (fun o w'=>∃k',k'<k/\I k' o w') Q) a w):(Code.loop c).wpIn F n P Q a w:=by
 refine wpIn_loop (fun a w=>∃k,I k a w) (fun a w=>Mp fun k=>I k a w) h₀ ?_;intro a w u;refine wpIn_mono (g _ a w (Io u).1) ?_;intro e o w' m;cases e with
 | normal=>
  obtain ⟨k',s,f⟩:=m;exact show (∃k,I k o w')/\(Mp fun k=>I k o w')<Mp (fun k=>I k a w) from ⟨⟨k',f⟩,bV ((Io ⟨k',f⟩).2 k' f) s⟩
 | exit id=>exact m
 | goto l=>exact m
 | ret=>exact m
 | panic ch=>exact m
 | outgrown=>exact m
section
variable {P:Program} {G:Ctx} {N:Nat}
theorem Qs {E:Env}{a:Act}:∀(m l:List (Nat × SV)),(∀t,Rel E (look l t) (a.tmps.getD t undef))->(∀p∈m,Rel E p.2 (a.tmps.getD p.1 undef))->∀t,Rel E (look (N7 m l) t) (a.tmps.getD t undef)
 | [],l,h,_,t=>h t
 | (u,s)::r,l,h,hm,t=>by
  simp only[N7];refine Qs r (put l u s) (fun t=>?_) (fun p c=>hm p (cC _ c)) t;rw[qB];by_cases e:t=u
  ·rw[aE e,e];exact hm (u,s) (cQ ..)
  rw[aD e];exact h t
theorem Gk (ws objs:List Nat):∀(l:List (Nat × SV)) (t:Nat),look (base ws objs l) t= .any\/(look (base ws objs l) t=look l t/\mem t ws=false/\names objs (look l t)=false)
 | [],t=>.inl rfl
 | (u,s)::r,t=>by
  simp only[base,look];by_cases e:u=t
  ·subst e;rw[iF];simp only[bP];cases h:(mem u ws || names objs s) with
   | true=>left;rfl
   | false=>right;simp only[Bool.or_eq_false_iff] at h;exact ⟨rfl,h.1,h.2⟩
  rw[lY e];simp only[cM];exact Gk ws objs r t
theorem pL {objs:List Nat}{A B:List HO}{n:Nat}:∀ {k:Nat} {c e:List HO},F0 objs A B n k c e->e.length<=c.length/\∀i o,e[i]? =some o->∃o',c[i]? =some o'/\FZ objs A B n (k+i) o' o
 | k,c,[],_=>⟨aF _,fun i o h=>by simp at h⟩
 | k,o'::r',o::r,h=>by
  obtain ⟨g,m⟩:=h;obtain ⟨z,s⟩:=pL m;refine ⟨by simp;omega,fun i x f=>?_⟩;cases i with
  | zero=>simp at f;subst f;exact ⟨o',rfl,g⟩
  | succ i=>
   obtain ⟨o₁,u,y⟩:=s i x (by simpa using f);exact ⟨o₁,by simpa using u,by rw[show k+(i+1)=k+1+i by omega];exact y⟩
 | k,[],_:: _,h=>h.elim
variable {H' T:List HO} {loc:Nat->Loc} {ver:Nat->Nat} {w:World}
def jA (objs:List Nat)(T:List HO)(ver:Nat->Nat):Nat->Nat:=fun nm=>if mem nm objs=true then iU T nm else ver nm
theorem Bq {objs:List Nat}{s:SV}(h:names objs s=false):allN (fun n=> !mem n objs) s=true:=by simpa [names] using h
theorem F9 (c:Inv G H' loc ver w){nm:Nat}(h:0<iU H' nm):ver nm=iU H' nm:=by
 unfold iU at h ⊢;cases ho:bX H' nm with
 | vec v t xs e=>rw[ho] at h;exact (c.objs nm _ (bB ho si)).1
 | fro v t xs=>rw[ho] at h;exact (c.objs nm _ (bB ho si)).1
 | _=>rw[ho] at h;exact absurd h (iQ _)
theorem D3 (B:Inv G H' loc ver w){objs:List Nat}{n:Nat}(o:∀m,m<n->lE T m=true)(x:∀b,qW G H' loc w b->qW G T loc w b){s:SV}{v:Value}(h:Rel (envOf G H' loc ver w) s v)(z:under n s=true):
  Rel (envOf G T loc (jA objs T ver) w) (NV objs H' T s) v:=by
 have drop:names objs s=false->Rel (envOf G T loc (jA objs T ver) w) s v:=by
  intro u;refine Rel.move (E:=envOf G H' loc ver w) (E':=envOf G T loc (jA objs T ver) w) (p:=fun m=>Nat.blt m n&& !mem m objs) (fun nm y c=>?_) (fun _ _ _ _=>.inl rfl) (fun _=>rfl) (fun _ _ _ h _=>h) x h ?_
  ·simp only[aG] at y;have g:nm<n:=by simpa using y.1
   have f:mem nm objs=false:=by simpa using y.2
   exact ⟨o nm g,.inl ⟨by simp[envOf,jA,f],rfl⟩⟩
  exact Yb (fun m g f=>by simp[g,f]) s z (Bq u)
 cases s with
 | ref nm k=>
  simp only[NV];cases hm:mem nm objs with
  | false=>exact drop (by simp[names,allN,hm])
  | true=>
   simp only[bP];cases hb:(Nat.beq k (iU H' nm)&&Nat.blt 0 (iU T nm)) with
   | false=>exact .any v
   | true=>
    simp only[bP];obtain ⟨g,f⟩:=and2 hb;have g:=bM.1 g;have f:0<iU T nm:=by simpa using f
    cases h with
    | ref _ _ _ u h0 hk hv=>
     have C:=F9 B (nm:=nm) om;have c:nm<n:=by simpa [under,allN] using z
     refine .ref nm _ v (o nm c) f (by simp[envOf,jA,hm]) fun _=>?_;exact hv (by simp only[envOf];omega)
 | ptr nm off=>
  simp only[NV];cases hm:mem nm objs with
  | false=>exact drop (by simp[names,allN,hm])
  | true=>
   simp only[bP];cases hb:fL (bX H' nm) with
   | false=>exact .any v
   | true=>
    simp only[bP];have c:nm<n:=by simpa [under,allN] using z
    have A:ver nm=0:=by
     cases ho:bX H' nm with
     | cells l e=>exact (B.objs nm _ (bB ho si)).1
     | _=>rw[ho] at hb;cases hb
    cases h with
    | ptr _ _ _ u hv=>exact .ptr nm off v (o nm c) fun _=>hv A
 | _=>
  simp only[NV];generalize hc:names objs _=b at drop ⊢;cases b with
  | true=>exact .any v
  | false=>exact drop rfl
theorem Mr (f:Inv G H' loc ver w){objs:List Nat}{n:Nat}(g:∀m,m<n->lE T m=true)(c:∀b,qW G H' loc w b->qW G T loc w b):∀ {l o:List SV},zK objs H' T n l o->∀ {vs:List Value},RelL (envOf G H' loc ver w) l vs->RelL (envOf G T loc (jA objs T ver) w) o vs
 | [],[],_,_,.nil=>.nil
 | x::r,y::r',h,_,.cons _ v _ _ h1 h2=>by
  obtain ⟨e,s⟩:=h;refine .cons _ _ _ _ ?_ (Mr f g c s h2);cases hb:(under n y&&under n x) with
  | true=>rw[hb] at e;exact lF e (D3 f g c h1 (and2 hb).2)
  | false=>rw[hb] at e;exact lF e (.any v)
def EntS (objs:List Nat)(A T:List HO)(n:Nat):Prop:=T.length<=A.length/\∀i o,T[i]? =some o->∃o',A[i]? =some o'/\FZ objs A T n (0+i) o' o
theorem GA {t g:Ty}{c:List (List t.T)}{f:List (List g.T)}(h:S2 t g c f):∃e:t=g,e ▸ c=f:=by
 unfold S2 at h;split at h
 ·rename_i e;subst e;rw[FY] at h;exact ⟨rfl,h⟩
 cases h
theorem BT {t c:Ty}{m:MapS t.T}{f:MapS c.T}(h:IZ t c m f):∃e:t=c,e ▸ m=f:=by
 unfold IZ at h;split at h
 ·rename_i e;rw[IY] at h;exact ⟨e,h⟩
 cases h
theorem EntS.has {objs:List Nat}{A T:List HO}{n:Nat}(h:EntS objs A T n)(m:Nat)(e:m<T.length):lE T m=true:=by
 obtain ⟨f,_,c⟩:=h.2 m T[m] (aY e);refine eJ (aY e) ?_;generalize T[m]=o at c;cases o with
 | res=>cases f<;>cases c
 | _=>rfl
theorem uM (hI:Inv G H' loc ver w){objs:List Nat}{n:Nat}(hT:n<=T.length)(hH:EntS objs H' T n):Inv G T loc (jA objs T ver) w/\(∀b,qW G H' loc w b->qW G T loc w b):=by
 have a2:∀m,m<n->lE T m=true:=fun m A=>hH.has m om;obtain ⟨b3,D⟩:=hH;have Z:∀B o g b,T[B]? =some o->H'[B]? =some g->FZ objs H' T n (0+B) g o->Owns (loc B) o b->Owns (loc B) g b:=by
  intro B o g b F X x f;cases o with
  | dead=>cases f
  | res=>cases f
  | fro=>cases f
  | frc=>cases f
  | frm=>cases f
  | qm ks l=>cases g with
   | qm ks' l'=>exact f
   | _=>cases x
  | gone=>cases g with
   | gone=>exact f
   | _=>cases x
  | lnt k t xs=>cases g with
   | lnt k' t' xs'=>exact f
   | _=>cases x
  | yst st m it=>cases g with
   | yst st' m' it'=>exact f
   | _=>cases x
  | cells l e=>cases g with
   | cells l' e'=>exact f
   | _=>cases x
  | map k t m=>cases g with
   | map k' t' m'=>exact f
   | _=>cases x
  | mit m s l c=>cases g with
   | mit m' s' l' c'=>exact f
   | _=>cases x
  | vv k s t xss pend eo ei=>cases g with
   | vv k' s' t' xss' pend' eo' ei'=>exact f
   | _=>cases x
  | vec v t xs e=>cases g with
   | vec v' t' xs' e'=>exact f
   | _=>cases x
 have a1:∀b,Owned T loc b->Owned H' loc b:=by
  rintro b ⟨B,o,F,X⟩;obtain ⟨g,x,f⟩:=D B o F;exact ⟨B,g,x,Z B o g b F x f X⟩
 have u:∀b,qW G H' loc w b->qW G T loc w b:=fun b hb=>⟨hb.1,hb.2.1,fun ho=>hb.2.2 (a1 b ho)⟩;refine ⟨⟨hI.size,hI.os,hI.tape,hI.output,hI.frame,fun B o ho=>?_,fun b hb=>hI.own b (a1 b hb),fun k k' o g b hk a3 hb a8=>?_⟩,u⟩
 ·obtain ⟨g,x,f⟩:=D B o ho;have W:=hI.objs B g x;rw[eS] at f;cases o with
  | dead=>trivial
  | res=>trivial
  | frc l=>cases g with
   | frc l'=>
    obtain ⟨h0,b,vs,e0,z,C,K,Y⟩:=W;refine ⟨?_,b,vs,e0,z,u b C,K,Mr hI a2 u f Y⟩;simp only[jA];split
    ·have:bX T B= .frc l:=by simp[bX,aB,ho]
     simp[iU,this]
    exact h0
   | _=>cases f
  | qm ks l=>cases g with
   | qm ks' l'=>
    obtain ⟨A,rfl,rfl⟩:=f;obtain ⟨F,X,a0,b,es,c,z,C,K,Y⟩:=W;exact ⟨by simp only[jA];rw[aD (by rw[A];simp)];exact F,X,a0,b,es,c,z,C,K,RelL.bare (E:=envOf G H' loc ver w) (E':=envOf G T loc (jA objs T ver) w) (fun _ _ _ h _=>h) u Y a0⟩
   | _=>cases f
  | frm ks l=>cases g with
   | frm ks' l'=>
    obtain ⟨A,rfl,rfl⟩:=f;obtain ⟨F,a0,b,es,c,z,C,K,Y,y⟩:=W;exact ⟨by simp only[jA];rw[aD (by rw[A];simp)];exact F,a0,b,es,c,z,u b C,K,Y,RelL.bare (E:=envOf G H' loc ver w) (E':=envOf G T loc (jA objs T ver) w) (fun _ _ _ h _=>h) u y a0⟩
   | _=>cases f
  | gone=>cases g with
   | gone=>exact ⟨by simp only[jA];rw[aD (by rw[show mem B objs=false from f];simp)];exact W.1,W.2⟩
   | _=>cases f
  | lnt k t xs=>cases g with
   | lnt k' t' xs'=>
    obtain ⟨A,rfl,z⟩:=f;have C:=rJ z;cases C;exact ⟨by simp only[jA];rw[aD (by rw[A];simp)];exact W.1,W.2⟩
   | _=>cases f
  | yst st m it=>cases g with
   | yst st' m' it'=>
    obtain ⟨A,rfl,rfl,rfl⟩:=f;obtain ⟨F,X,J,z,C,K,Y⟩:=W;exact ⟨by simp only[jA];rw[aD (by rw[A];simp)];exact F,X,J,z,C,fun b hb hl=>⟨(K b hb hl).1,u b (K b hb hl).2⟩,Y⟩
   | _=>cases f
  | map k t m=>cases g with
   | map k' t' m'=>
    obtain ⟨A,rfl,J⟩:=f;obtain ⟨rfl,rfl⟩:=BT J;obtain ⟨F,X,x,b,es,z,C,K⟩:=W;exact ⟨by simp only[jA];rw[aD (by rw[A];simp)];exact F,X,x,b,es,z,C,K.mono (fun _ _ _ h=>h) u⟩
   | _=>cases f
  | vv k s t xss pend eo ei=>cases g with
   | vv k' s' t' xss' pend' eo' ei'=>
    obtain ⟨A,rfl,rfl,J,rfl,rfl,b1,b2⟩:=f;obtain ⟨rfl,rfl⟩:=GA J;cases pend with
    | some _=>cases b2
    | none=>
    cases pend' with
    | some _=>cases b1
    | none=>
    obtain ⟨F,X,x,z,C,K,Y,y⟩:=W;refine ⟨by simp only[jA];rw[aD (by rw[A];simp)];exact F,X,x,z,C,K,Y,⟨y.flat,fun i hi hp=>?_,y.apart,(fun j ys hp=>by cases hp),y.short⟩⟩;obtain ⟨vs,q1,q2,q3⟩:=y.row i hi (fun j ys hp=>by cases hp);exact ⟨vs,q1,q2,fun i hi=>(q3 i hi).mono (fun _ _ _ h=>h) u⟩
   | _=>cases f
  | mit m s l c=>cases g with
   | mit m' s' l' c'=>
    obtain ⟨A,⟨a',a9⟩,rfl,rfl,rfl,rfl⟩:=f;obtain ⟨F,X,r,bm,x,J,z⟩:=W;refine ⟨by simp only[jA];rw[aD (by rw[A];simp)];exact F,?_,r,bm,x,J,fun e=>?_⟩
    ·have a4:m'<n:=by simpa using a9
     exact a2 _ a4
    simp only[envOf,jA] at e;rw[aD (by rw[a'];simp)] at e;exact z e
   | _=>cases f
  | cells l e=>cases g with
   | cells l' e'=>
    obtain ⟨rfl,J⟩:=f;obtain ⟨h0,b,vs,z,C,K⟩:=W;refine ⟨?_,b,vs,z,C,Mr hI a2 u J K⟩;simp only[jA];split
    ·rename_i A;have:bX T B= .cells l e':=by simp[bX,aB,ho]
     simp[iU,this]
    exact h0
   | _=>cases f
  | vec v t xs e=>cases g with
   | vec v' t' xs' e'=>
    obtain ⟨rfl,J,z⟩:=f;have C:=rJ z;cases C;obtain ⟨K,Y,y,a5,vs,a6,a7⟩:=W;have hg:bX T B= .vec v t xs e':=by simp[bX,aB,ho]
    refine ⟨?_,?_,y,a5,vs,a6,fun i hi=>(a7 i hi).mono (fun _ _ _ h=>h) u⟩
    ·simp only[jA];cases A:mem B objs with
     | true=>simp[iU,hg]
     | false=>rw[A] at J;simp only[cM] at J;rw[aD si];rw[<- J];exact K
    cases A:mem B objs with
    | true=>rw[A] at J;exact J
    | false=>rw[A] at J;simp only[cM] at J;rw[<- J];exact Y
   | _=>cases f
  | fro v t xs=>cases g with
   | fro v' t' xs'=>
    obtain ⟨rfl,z⟩:=f;have C:=rJ z;cases C;obtain ⟨K,Y,y⟩:=W;have hg:bX T B= .fro v' t xs:=by simp[bX,aB,ho]
    refine ⟨?_,Y,y.mono (fun _ _ _ h=>h) u⟩;simp only[jA];split
    ·simp[iU,hg]
    exact K
   | _=>cases f
 obtain ⟨o₁,F,X⟩:=D k o hk;obtain ⟨o₂,x,f⟩:=D k' g a3;exact hI.sep k k' o₁ o₂ b F x (Z k o o₁ b hk F X hb) (Z k' g o₂ b a3 x f a8)
theorem Yc (u:Inv G H' loc ver w){objs:List Nat}{n:Nat}(x:∀m,m<n->lE T m=true)(e:∀b,qW G H' loc w b->qW G T loc w b){a:Act}{o:List (Nat × SV)}(c:TRel (envOf G H' loc ver w) N o a):
  ∀ {m:List (Nat × SV)},S1 objs H' T n o m->∀p∈m,Rel (envOf G T loc (jA objs T ver) w) p.2 (a.tmps.getD p.1 undef)
 | [],_,p,f=>by simp at f
 | (t,s)::r,h,p,f=>by
  obtain ⟨g,y⟩:=h;rcases bY.1 f with rfl | f
  ·cases hb:(under n s&&under n (look o t)) with
   | true=>rw[hb] at g;exact lF g (D3 u x e (c.rel t) (and2 hb).2)
   | false=>rw[hb] at g;exact lF g (.any _)
  exact Yc u x e c y p f
theorem Ab {objs:List Nat}{n:Nat}:∀ {D:List Nat},qA objs n D=true->∀m,mem m D=true->mem m objs=true\/n<=m
 | x::r,h,m,c=>by
  simp only[qA,aG,dA,yM] at h;simp only[mem,dA] at c;rcases c with c | c
  ·have:=bM.1 c;subst this;exact h.1
  exact Ab h.2 m c
theorem uN:∀ {H T:List HO} {nm:Nat},Ia H T=true->H[nm]? =some .gone->T[nm]? =some .gone
 | [],_,nm,_,h=>by simp at h
 | o::r,o'::r',nm,hg,h=>by
  simp only[Ia,aG] at hg;cases nm with
  | zero=>
   simp at h;subst h;have:=hg.1;cases o'<;>simp[Tg] at this ⊢
  | succ n=>simpa using uN hg.2 (by simpa using h)
 | _:: _,[],nm,hg,h=>by simp[Ia] at hg
theorem uO {H:List HO}{s:Nat->Loc}{u:Nat->Nat}{X:World}{objs D:List Nat}(f:ExtO D (envOf G H s u X) (envOf G H' loc ver w))(y:H.length<=T.length)(C:∀nm:Nat,H[nm]? =some HO.gone->T[nm]? =some HO.gone)(W:qA objs H.length D=true)(E:EntS objs H' T H.length)(J:∀b,qW G H' loc w b->qW G T loc w b):ExtO objs (envOf G H s u X) (envOf G T loc (jA objs T ver) w):=by
 refine ⟨f.blk,fun b n=>J b (f.ok b n),fun nm o=>EntS.has E nm (bE (iN o) y),fun nm o c=>?_,f.size,f.keep,fun nm b n=>?_,fun nm b o n=>?_,fun b n=>?_,f.itr,fun nm o c Y=>?_⟩
 ·have x:mem nm D=false:=by
   cases e:mem nm D with
   | false=>rfl
   | true=>
    have F:nm<H.length:=iN o;rcases Ab W nm e with g | g
    ·rw[g] at c;cases c
    omega
  have:=f.ver nm o x;simpa [envOf,jA,c] using this
 ·obtain ⟨g,z⟩:=f.gho nm b n;exact ⟨⟨C nm n.1,g.2⟩,z⟩
 ·obtain ⟨K,A,B⟩:=E.2 nm _ n.1;cases K with
  | gone=>exact f.gho' nm b o ⟨A,n.2⟩
  | _=>cases B
 ·obtain ⟨nm,st,m,Z,g,z⟩:=n;obtain ⟨K,A,B⟩:=E.2 nm _ g;cases K with
  | yst st' m' it'=>exact f.ali b ⟨nm,_,_,_,A,z⟩
  | _=>cases B
 have x:mem nm D=false:=by
  cases e:mem nm D with
  | false=>rfl
  | true=>
   have F:nm<H.length:=iN o;rcases Ab W nm e with g | g
   ·rw[g] at c;cases c
   omega
 refine f.sub nm o x ?_;simpa [envOf,jA,c] using Y
theorem Ip (a b:Nat):∀(l:List (Nat × SV)) (t:Nat),look (l.map (X3 a b)) t=NW a b (look l t)
 | [],t=>by simp[look,NW,names,allN]
 | (u,s)::r,t=>by
  simp only[jT,X3,look];cases Nat.beq u t with
  | true=>rfl
  | false=>exact Ip a b r t
def Vz (a b:Nat)(loc:Nat->Loc):Nat->Loc:=fun n=>if n=a then loc b else loc n
section
variable {H:List HO} {a b:Nat}
theorem Tv (e:a≠b)(c:a<H.length){nm:Nat}{o:HO}(h:(Lo a b H)[nm]? =some o):
  (nm=b/\o= .dead)\/(nm=a/\o=DS a b (bX H b))\/(nm≠a/\nm≠b/\∃o',H[nm]? =some o'/\o=DS a b o'):=by
 unfold Lo cA at h;by_cases e1:nm=b
 ·subst e1
  left
  have f:=(aK.1 h).1;rw[mF (by simpa using f)] at h;cases h;exact ⟨rfl,rfl⟩
 rw[bS e1] at h;by_cases e2:nm=a
 ·subst e2
  right;left
  rw[mF (by simpa using c)] at h;cases h;exact ⟨rfl,rfl⟩
 rw[bS e2] at h
 right;right
 rw[vQ] at h;cases ho:H[nm]? with
 | none=>rw[ho] at h;cases h
 | some o'=>rw[ho] at h;simp at h;exact ⟨e2,e1,o',rfl,h.symm⟩
theorem D4 {o:HO}(h:Cq o=false):Cq (DS a b o)=false:=by
 cases o with
 | mit m s l c=>simp only[DS];cases Nat.beq m a<;>rfl
 | res=>cases h
 | _=>rfl
theorem Yd {o:HO}(h:DS a b o= .gone):o= .gone:=by
 cases o with
 | mit m s l c=>simp only[DS] at h;cases he:Nat.beq m a<;>rw[he] at h<;>cases h
 | gone=>rfl
 | _=>cases h
theorem D5 {o:HO}{st:Option Nat}{m:Nat}{e:Nat->List SV}(h:DS a b o= .yst st m e):o= .yst st m e:=by
 cases o with
 | mit m s l c=>simp only[DS] at h;cases he:Nat.beq m a<;>rw[he] at h<;>cases h
 | yst=>exact h
 | _=>cases h
theorem D6 (f:b<H.length){nm:Nat}(c:nm≠a)(e:nm≠b){o:HO}(h:H[nm]? =some o):(Lo a b H)[nm]? =some (DS a b o):=by
 unfold Lo cA;rw[bS e,bS c,vQ,h];rfl
theorem D7 (n:a<H.length)(g:b<H.length)(s:a≠b)(c:fL (bX H b)=true){nm:Nat}(h:lE H nm=true):lE (Lo a b H) nm=true:=by
 have e:=iN h;by_cases e1:nm=b
 ·subst e1;refine eJ (o:=.dead) ?_ rfl;unfold Lo cA;rw[mF (by simpa using g)]
 by_cases e2:nm=a
 ·subst e2;refine eJ (o:=DS nm b (bX H b)) ?_ ?_
  ·unfold Lo cA;rw[bS e1,mF (by simpa using n)]
  refine D4 ?_;cases ho:bX H b with
  | cells=>rfl
  | _=>rw[ho] at c;cases c
 refine eJ (D6 g e2 e1 (aY e)) (D4 ?_);have m:bX H nm=H[nm]:=by simp[bX,aB,aY e]
 have f:=(and2 (show (Nat.blt nm H.length&& !Cq (bX H nm))=true from h)).2;rw[m] at f;simpa using f
theorem Ac (h:fL (bX H a)=true):∃l e,H[a]? =some (.cells l e)/\bX H a= .cells l e:=by
 cases ho:bX H a with
 | cells l e=>exact ⟨l,e,bB ho si,rfl⟩
 | _=>rw[ho] at h;cases h
theorem JE {loc:Nat->Loc}{ver:Nat->Nat}{w:World}(Z:Inv G H loc ver w)(a3:a≠b)(b8:fL (bX H a)=true)(b4:fL (bX H b)=true):
  Inv G (Lo a b H) (Vz a b loc) ver w/\(∀c,qW G H loc w c->qW G (Lo a b H) (Vz a b loc) w c)/\
   (∀ {s v},Rel (envOf G H loc ver w) s v->Rel (envOf G (Lo a b H) (Vz a b loc) ver w) (NW a b s) v):=by
 obtain ⟨la,ea,b2,c2⟩:=Ac b8;obtain ⟨lb,eb,a4,a5⟩:=Ac b4;have b1:a<H.length:=(aK.1 b2).1;have b6:b<H.length:=(aK.1 a4).1;have c0:ver a=0:=(Z.objs a _ b2).1;have c1:ver b=0:=(Z.objs b _ a4).1;have a2:∀f,f≠a->Vz a b loc f=loc f:=fun f h=>aD h;have b3:Vz a b loc a=loc b:=aE rfl;have C:∀f o c,(Lo a b H)[f]? =some o->Owns (Vz a b loc f) o c->∃m X,H[m]? =some X/\Owns (loc m) X c/\(m=if f=a then b else f)/\f≠b:=by
  intro f o c y g;rcases Tv a3 b1 y with ⟨_,rfl⟩ | ⟨rfl,rfl⟩ | ⟨K,Y,X,F,rfl⟩
  ·cases g
  ·rw[b3,a5] at g;exact ⟨b,_,a4,g,by rw[aE rfl],a3⟩
  rw[a2 f K] at g;refine ⟨f,X,F,?_,by rw[aD K],Y⟩;cases X with
  | mit m s l c=>simp only[DS] at g;cases he:Nat.beq m a<;>rw[he] at g<;>first | exact g | cases g
  | frc=>cases g
  | frm=>cases g
  | _=>exact g
 have a7:∀c,Owned (Lo a b H) (Vz a b loc) c->Owned H loc c:=by
  rintro c ⟨f,o,y,g⟩;obtain ⟨m,X,F,h4,_⟩:=C f o c y g;exact ⟨m,X,F,h4⟩
 have n:∀c,qW G H loc w c->qW G (Lo a b H) (Vz a b loc) w c:=fun c hc=>⟨hc.1,hc.2.1,fun ho=>hc.2.2 (a7 c ho)⟩;have a1:∀f,lE H f=true->lE (Lo a b H) f=true:=fun f h=>D7 b1 b6 a3 b4 h;have a6:∀f,(!mem f [a,b])=true->f≠a/\f≠b:=by
  intro f h;have h:mem f [a,b]=false:=by simpa using h
  constructor
  ·intro e;rw[e] at h;simp[mem,iF] at h
  intro e;rw[e] at h;simp[mem,iF] at h
 have a8:∀ {s v},Rel (envOf G H loc ver w) s v->Rel (envOf G (Lo a b H) (Vz a b loc) ver w) (NW a b s) v:=by
  intro s v h;have drop:names [a,b] s=false->Rel (envOf G (Lo a b H) (Vz a b loc) ver w) s v:=by
   intro hn;refine Rel.move (E:=envOf G H loc ver w) (E':=envOf G (Lo a b H) (Vz a b loc) ver w) (p:=fun m=> !mem m [a,b]) (fun f hp b'=>?_) (fun f hp _ _=>?_) (fun _=>rfl) (fun _ _ _ h _=>h) n h (Bq hn)
   ·exact ⟨a1 f b',.inl ⟨rfl,by simp only[envOf];rw[a2 f (a6 f hp).1]⟩⟩
   left;simp only[envOf];rw[a2 f (a6 f hp).1]
  cases s with
  | ptr f off=>
   simp only[NW];by_cases e1:f=b
   ·subst e1;rw[iF];simp only[bP];cases h with
    | ptr _ _ _ hn hv=>
     refine .ptr a off v (a1 a (eJ b2 rfl)) fun _=>?_;obtain ⟨c,y,g⟩:=hv c1;exact ⟨c,by simp only[envOf];rw[b3];exact y,g⟩
   rw[lY e1];simp only[cM];by_cases e2:f=a
   ·subst e2;rw[iF];exact .any v
   rw[lY e2];simp only[cM];refine drop ?_;simp only[names,allN,mem,Bool.or_false,Bool.not_not];rw[lY (fun e=>e2 e.symm),lY (fun e=>e1 e.symm)];rfl
  | _=>
   simp only[NW];generalize hc:names [a,b] _=q at drop ⊢;cases q with
   | true=>exact .any v
   | false=>exact drop rfl
 have D:∀ {l:List SV} {vs:List Value},RelL (envOf G H loc ver w) l vs->RelL (envOf G (Lo a b H) (Vz a b loc) ver w) (l.map (NW a b)) vs:=by
  intro l
  induction l with
  | nil=>intro vs h;cases h;exact .nil
  | cons x r ih=>intro vs h;cases h with
   | cons _ _ _ _ y g=>exact .cons _ _ _ _ (a8 y) (ih g)
 refine ⟨⟨Z.size,Z.os,Z.tape,Z.output,Z.frame,fun f o ho=>?_,fun c hc=>Z.own c (a7 c hc),fun k k' o X c hk b9 hc b7=>?_⟩,n,a8⟩
 ·rcases Tv a3 b1 ho with ⟨_,rfl⟩ | ⟨rfl,rfl⟩ | ⟨K,Y,X,F,rfl⟩
  ·trivial
  ·rw[a5,b3];obtain ⟨h0,c,vs,A,B,z⟩:=Z.objs b _ a4;exact ⟨c0,c,vs,A,B,D z⟩
  have W:=Z.objs f X F;rw[a2 f K];cases X with
  | dead=>trivial
  | res=>trivial
  | frc l=>
   obtain ⟨h0,c,vs,e0,A,B,z,J⟩:=W;exact ⟨h0,c,vs,e0,A,n c B,z,D J⟩
  | qm ks l=>
   obtain ⟨y,g,a0,c,es,ck,A,B,z,J⟩:=W;exact ⟨y,g,a0,c,es,ck,A,B,z,RelL.bare (E:=envOf G H loc ver w) (E':=envOf G (Lo a b H) (Vz a b loc) ver w) (fun _ _ _ h _=>h) n J a0⟩
  | frm ks l=>
   obtain ⟨y,a0,c,es,ck,A,B,z,J,u⟩:=W;exact ⟨y,a0,c,es,ck,A,n c B,z,J,RelL.bare (E:=envOf G H loc ver w) (E':=envOf G (Lo a b H) (Vz a b loc) ver w) (fun _ _ _ h _=>h) n u a0⟩
  | gone=>exact W
  | lnt k t xs=>exact W
  | yst st m it=>
   obtain ⟨y,g,h5,A,B,z,J⟩:=W;exact ⟨y,g,h5,A,B,fun c hc hl=>⟨(z c hc hl).1,n c (z c hc hl).2⟩,J⟩
  | map k t m=>
   obtain ⟨y,g,F,c,es,A,B,z⟩:=W;exact ⟨y,g,F,c,es,A,B,z.mono (fun _ _ _ h=>h) n⟩
  | vv k s t xss pend eo ei=>
   obtain ⟨y,g,F,A,B,z,J,u⟩:=W;refine ⟨y,g,F,A,B,z,J,⟨u.flat,fun i hi hp=>?_,u.apart,(fun j ys hp=>?_),u.short⟩⟩
   ·obtain ⟨vs,K,Y,q3⟩:=u.row i hi hp;exact ⟨vs,K,Y,fun i hi=>(q3 i hi).mono (fun _ _ _ h=>h) n⟩
   obtain ⟨a9,⟨vs,K,Y,q3⟩,a'⟩:=u.grown j ys hp;exact ⟨a9,⟨vs,K,Y,fun i hi=>(q3 i hi).mono (fun _ _ _ h=>h) n⟩,a'⟩
  | mit m s l c=>
   simp only[DS];by_cases e:m=a
   ·rw[e,iF];trivial
   rw[lY e];obtain ⟨y,g,r,bm,F,h5,A⟩:=W;refine ⟨y,a1 m g,r,bm,F,h5,fun e1=>?_⟩;simp only[envOf];rw[a2 m e];exact A e1
  | cells l e=>
   obtain ⟨h0,c,vs,A,B,z⟩:=W;exact ⟨h0,c,vs,A,B,D z⟩
  | vec v t xs e=>
   obtain ⟨z,J,u,a9,vs,a',b5⟩:=W;exact ⟨z,J,u,a9,vs,a',fun i hi=>(b5 i hi).mono (fun _ _ _ h=>h) n⟩
  | fro v t xs=>
   obtain ⟨z,J,u⟩:=W;exact ⟨z,J,u.mono (fun _ _ _ h=>h) n⟩
 obtain ⟨m,o₁,y,g,e1,e2⟩:=C k o c hk hc;obtain ⟨m',o₂,F,h4,e3,e4⟩:=C k' X c b9 b7;have:=Z.sep m m' o₁ o₂ c y F g h4;rw[e1,e3] at this;by_cases K:k=a
 ·by_cases Y:k'=a
  ·rw[K,Y]
  rw[aE K,aD Y] at this;exact absurd this.symm e4
 by_cases Y:k'=a
 ·rw[aD K,aE Y] at this;exact absurd this e2
 rw[aD K,aD Y] at this;exact this
theorem JF {loc:Nat->Loc}(g:a≠b)(x:a<H.length){c:Nat}(f:fL (bX H b)=true)(h:Jl (Lo a b H) (Vz a b loc) c):Jl H loc c:=by
 obtain ⟨m,st,n,y,s,o⟩:=h;rcases Tv g x s with ⟨_,e⟩ | ⟨rfl,e⟩ | ⟨z,B,A,u,e⟩
 ·cases e
 ·have:=D5 e.symm;rw[this] at f;cases f
 have:=D5 e.symm;subst this;rw[show Vz a b loc m=loc m from aD z] at o;exact ⟨m,st,n,y,u,o⟩
theorem S5 {K:Env}{D:List Nat}{loc:Nat->Loc}{ver:Nat->Nat}{w:World}(hI:Inv G H loc ver w)(m:a≠b)(A:fL (bX H a)=true)(f:fL (bX H b)=true)(hD:mem a D=true)(a1:∀nm,K.has nm=true->nm≠b)(g:ExtO D K (envOf G H loc ver w)):ExtO D K (envOf G (Lo a b H) (Vz a b loc) ver w):=by
 obtain ⟨a0,W,Z⟩:=JE hI m A f;obtain ⟨la,ea,B,X⟩:=Ac A;obtain ⟨lb,eb,C,Y⟩:=Ac f;have o:a<H.length:=(aK.1 B).1;have z:b<H.length:=(aK.1 C).1;have n:∀nm,nm≠a->Vz a b loc nm=loc nm:=fun nm h=>aD h;have F:∀nm,mem nm D=false->nm≠a:=fun nm h e=>by subst e;rw[hD] at h;cases h
 refine ⟨g.blk,fun c s=>W c (g.ok c s),fun nm u=>D7 o z m f (g.num nm u),fun nm u E=>?_,g.size,g.keep,fun nm c s=>?_,fun nm c u s=>?_,fun c s=>g.ali c (JF m o f s),g.itr,fun nm u E he=>?_⟩
 ·have:=g.ver nm u E;simp only[envOf] at this ⊢;rw[n nm (F nm E)];exact this
 ·obtain ⟨y,J⟩:=g.gho nm c s;refine ⟨?_,J⟩;have x:H[nm]? =some .gone:=y.1;have e1:nm≠a:=fun e=>by rw[e,B] at x;cases x
  have e2:nm≠b:=fun e=>by rw[e,C] at x;cases x
  exact ⟨D6 z e1 e2 y.1,by rw[n nm e1];exact y.2⟩
 ·refine g.gho' nm c u ?_;obtain ⟨y,J⟩:=s;rcases Tv m o y with ⟨_,e⟩ | ⟨rfl,e⟩ | ⟨q1,q2,o',x,e⟩
  ·cases e
  ·have:=Yd e.symm;rw[this] at f;cases f
  have:=Yd e.symm;subst this;rw[n nm q1] at J;exact ⟨x,J⟩
 have:=g.sub nm u E;simp only[envOf] at this ⊢;rw[n nm (F nm E)];exact this he
end
theorem Cx {objs:List Nat}{n:Nat}:∀ {D:List Nat},qA objs n D=true->qA objs n (D++objs)=true:=by
 intro D
 induction D with
 | nil=>
  intro _;have:∀(O:List Nat),(∀m,mem m O=true->mem m objs=true)->qA objs n O=true:=by
   intro O
   induction O with
   | nil=>intro _;rfl
   | cons y r ih2=>
    intro c;simp only[qA,aG,dA];exact ⟨.inl (c y (by simp[mem,iF])),ih2 fun m e=>c m (by simp[mem,e])⟩
  exact this objs fun _ h=>h
 | cons y r ih2=>
  intro c;simp only[jV,qA,aG] at c ⊢;exact ⟨c.1,ih2 c.2⟩
theorem Ez {H:List HO}{g:Nat->Loc}{n:Nat->Nat}{B:World}{l l':List (Nat × SV)}{W a:Act}{c:Ann}{x:c.X}{ws D:List Nat}(a1:Inv G H g n B)(E:TRel (envOf G H g n B) N l W)(Y:Inv G H' loc ver w)(u:TRel (envOf G H' loc ver w) N l' a)(hx:ExtO D (envOf G H g n B) (envOf G H' loc ver w))(hs:Same ws W a)(o:(c.heap x H).length=H.length)(F:Ia H (c.heap x H)=true)(hD:qA c.objs H.length D=true)(h:vV c x H l' H'):
  Inv G (c.heap x H) loc (jA c.objs (c.heap x H) ver) w/\TRel (envOf G (c.heap x H) loc (jA c.objs (c.heap x H) ver) w) N (Wu c x ws l H) a/\
   ExtO c.objs (envOf G H g n B) (envOf G (c.heap x H) loc (jA c.objs (c.heap x H) ver) w):=by
 obtain ⟨Z,y⟩:=h.ent;have y:=pL y;obtain ⟨C,A⟩:=uM Y (kU o.symm) y;have f:=uO hx (kU o.symm) (fun s J=>uN F J) hD y A;refine ⟨C,⟨u.size,?_⟩,f⟩;refine Qs _ _ (fun t=>?_) (Yc Y (fun m Z=>EntS.has y m om) A u Z);rcases Gk ws c.objs l t with e | ⟨e1,e2,e3⟩
 ·rw[e];exact .any _
 rw[e1,hs t e2];have h0:=E.rel t;refine h0.move (E':=envOf G (c.heap x H) loc (jA c.objs (c.heap x H) ver) w) (p:=fun m=> !mem m c.objs) (fun s K z=>?_) (fun s K J he=>f.sub s J (by simpa using K) he) (fun _=>f.itr) f.keepC f.ok (Bq e3);have h2:mem s c.objs=false:=by simpa using K
 exact ⟨f.num s z,f.ver s z h2⟩
end
end Go.Eng
end
section
namespace Go.Eng
open Go.RowKit
section
variable {P:Program} {G:Ctx} {N:Nat}
theorem tM {c:Array Oper}{a:Act}{j t:Nat}(e:(c[j]?).bind (·.dst)=some t){b:Bool}(h:a.tmps.getD t undef= .bool b):yielded c a.tmps j=some b:=by
 unfold yielded;rw[e];simp only[oD];rw[bQ] at h;cases ht:a.tmps[t]? with
 | none=>rw[ht] at h;cases h
 | some v=>rw[ht] at h;simp at h;rw[h]
theorem Cy {c:Array Oper}{a:Act}{j t:Nat}(e:(c[j]?).bind (·.dst)=some t)(h:a.tmps.getD t undef= .tuple ⟨[]⟩):yielded c a.tmps j=none:=by
 unfold yielded;rw[e,oD];cases he:a.tmps[t]? with
 | none=>rfl
 | some v=>
  rw[bQ,he] at h;simp only[lK] at h;rw[h]
theorem TRel.learn {E:Env}{l:List (Nat × SV)}{a:Act}(h:TRel E N l a){t:Nat}{s:SV}(c:Rel E s (a.tmps.getD t undef)):TRel E N (Eng.put l t s) a:=by
 refine ⟨h.size,fun u=>?_⟩;rw[qB];by_cases e:u=t
 ·rw[aE e,e];exact c
 rw[aD e];exact h.rel u
theorem Fa {E:Env}{s:Array Oper}{l:List (Nat × SV)}{a:Act}(m:TRel E N l a){o:Oper}{z B:List (Nat × SV)->Prop}(h:vT s.toList l o.guard z B):
  ∃A,TRel E N A a/\((Region.wanted o (yielded s a.tmps)=true/\z A)\/(Region.wanted o (yielded s a.tmps)=false/\B A)):=by
 unfold vT at h;cases hg:o.guard with
 | none=>rw[hg] at h;exact ⟨l,m,.inl ⟨by simp[Region.wanted,hg],h⟩⟩
 | some p=>
  obtain ⟨j,e⟩:=p;rw[hg] at h;simp only at h;split at h
  ·cases h
  rename_i t C;have n:(s[j]?).bind (·.dst)=some t:=by simpa using C
  have f:=m.rel t;split at h
  ·rename_i u;rw[u] at f;have g:=tM n f.bool_inv;cases e with
   | true=>exact ⟨l,m,.inl ⟨by simp[Region.wanted,hg,g],h⟩⟩
   | false=>exact ⟨l,m,.inr ⟨by simp[Region.wanted,hg,g],h⟩⟩
  ·rename_i u;rw[u] at f;have g:=tM n f.bool_inv;cases e with
   | true=>exact ⟨l,m,.inr ⟨by simp[Region.wanted,hg,g],h⟩⟩
   | false=>exact ⟨l,m,.inl ⟨by simp[Region.wanted,hg,g],h⟩⟩
  ·rename_i p d u;rw[u] at f;generalize hv:a.tmps.getD t undef=v at f;cases f;have g:=tM n hv;have y:p->TRel E N (put l t (.val (.bool true))) a:=fun c=>m.learn (by rw[hv];simp[c];exact .val _ trivial);have x:¬p->TRel E N (put l t (.val (.bool false))) a:=fun c=>m.learn (by rw[hv];simp[c];exact .val _ trivial);by_cases c:p
   ·cases e with
    | true=>exact ⟨_,y c,.inl ⟨by simp[Region.wanted,hg,g,c],by have:=h.yes c;rwa [cD] at this⟩⟩
    | false=>exact ⟨_,y c,.inr ⟨by simp[Region.wanted,hg,g,c],by have:=h.yes c;rwa [cD] at this⟩⟩
   cases e with
   | true=>exact ⟨_,x c,.inr ⟨by simp[Region.wanted,hg,g,c],by have:=h.no c;rwa [cD] at this⟩⟩
   | false=>exact ⟨_,x c,.inl ⟨by simp[Region.wanted,hg,g,c],by have:=h.no c;rwa [cD] at this⟩⟩
  ·rename_i u;rw[u] at f;generalize hv:a.tmps.getD t undef=v at f;cases f with
   | tup _ vs hl'=>cases hl';exact ⟨l,m,.inr ⟨by simp[Region.wanted,hg,Cy n hv],h⟩⟩
  cases h
theorem Ad {c:List Oper}{o:Oper}(e:o∈c){t:Nat}(f:o.dst=some t):mem t (c.filterMap (·.dst))=true:=by
 induction c with
 | nil=>simp at e
 | cons x r ih=>
  rcases bY.1 e with rfl | e
  ·simp[List.filterMap_cons,f,mem,iF]
  have:=ih e;simp only[List.filterMap_cons];split
  ·exact this
  simp[mem,this]
theorem Ps (hY:COK P G){Γ:List Con}(hΓ:∀c∈Γ,aM P c){F:Fence}(hF:Opn F){n:Nat}{e:Array Oper}:∀(g:List Oper) (k:Nat),e.toList.drop k=g->
  ∀ {H:List HO} {loc:Nat->Loc} {ver:Nat->Nat} {w:World} {l:List (Nat × SV)} {a:Act} {K:List (Nat × SV)->List HO->Prop} {Q:Exit->Act->World->Prop},
  Inv G H loc ver w->TRel (envOf G H loc ver w) N l a->oQ P Γ N e.toList g l H K->
  (∀l' H' loc' ver' Y w',K l' H'->Inv G H' loc' ver' w'->TRel (envOf G H' loc' ver' w') N l' Y->Ext (envOf G H loc ver w) (envOf G H' loc' ver' w')->Same (e.toList.filterMap (·.dst)) a Y->Y.defers=a.defers->Q .normal Y w')->
  wpOpsIn F n P e Q (List.range' k g.length) a w:=by
 intro g
 induction g with
 | nil=>
  intro k hk H loc ver w l a K Q Z hT h hQ;exact hQ l H loc ver a w h Z hT (Ext.refl _) (Same.refl _ _) rfl
 | cons o r ih=>
  intro k hk H loc ver w l a K Q Z hT h hQ;have W:e[k]? =some o:=by
   have:(e.toList.drop k)[0]? =some o:=by rw[hk];rfl
   rw[aX] at this;simpa using this
  have z:o∈e.toList:=by
   have:=aH.1 W;obtain ⟨a4,rfl⟩:=this;simp
  have X:e.toList.drop (k+1)=r:=by
   rw[<- dW,hk];rfl
  simp only[cF,List.range'_succ,wpOpsIn,W];simp only[Ek] at h;obtain ⟨l',B,⟨hw,h⟩ | ⟨hw,h⟩⟩:=Fa hT h
  ·rw[aE hw];obtain ⟨a0,a1⟩:=rK hY hΓ hF Z B h;refine a1.wpIn hF a0 ?_;rintro v w' ⟨s,H',loc',ver',hk',hI',hr',hx'⟩;obtain ⟨a2,u,m⟩:=(B.ext hx').any o.dst hk' hr';refine ih (k+1) X hI' m u ?_;intro l3 H3 x y a3 w3 h3 A C J E D;refine hQ l3 H3 x y a3 w3 h3 A C (hx'.trans J) ((Same.put a o.dst v fun t ht=>Ad z ht).trans E) (D.trans ?_);cases o.dst<;>rfl
  rw[aD (by rw[hw];simp)];refine ⟨fun f _=>hF.fn f,?_⟩;obtain ⟨a2,u,m⟩:=B.any o.dst h (.tup [] [] .nil);refine ih (k+1) X Z m u ?_;intro l3 H3 x y a3 w3 h3 A C J E D;refine hQ l3 H3 x y a3 w3 h3 A C J ((Same.put a o.dst undef fun t ht=>Ad z ht).trans E) (D.trans ?_);cases o.dst<;>rfl
def Dl (D:Nat):Deferred:={ target:=.collected D,args:= #[] }
def Marked (E E':Env)(ds ds':List Deferred):Prop:=
 ∃Ds:List Nat,ds'=Ds.map Dl++ds/\Ds.Nodup/\∀D∈Ds,E.w.heap.size<=D/\¬E'.ali D/\E'.w.heap[D]? =some (.deferred (some []))
theorem Marked.refl (E E':Env)(ds:List Deferred):Marked E E' ds ds:=⟨[],rfl,List.nodup_nil,fun _ h=>by cases h⟩
theorem Marked.ext {O:List Nat}{E E' c:Env}{ds e:List Deferred}(h:Marked E E' ds e)(x:ExtO O E' c):Marked E c ds e:=by
 obtain ⟨n,o,s,u⟩:=h;refine ⟨n,o,s,fun D z=>?_⟩;obtain ⟨y,f,g⟩:=u D z;refine ⟨y,fun h=>?_,x.keep D _ f g rfl⟩;rcases x.ali D h with m | m
 ·exact f m
 have:=(aH.1 g).1;omega
theorem Marked.trans {O:List Nat}{E E' f:Env}{ds m c:List Deferred}(h:Marked E E' ds m)(X:E.w.heap.size<=E'.w.heap.size)(x:ExtO O E' f)(k:Marked E' f m c):Marked E f ds c:=by
 obtain ⟨F,Z,k2,B⟩:=k;obtain ⟨u,J,y,s⟩:=h;have Y:=Marked.ext ⟨u,rfl,y,s⟩ x (ds:=ds);obtain ⟨C,e1,e2,e3⟩:=Y;refine ⟨F++u,by rw[Z,J];simp,?_,fun D n=>?_⟩
 ·rw[List.nodup_append];refine ⟨k2,y,fun a K b W e=>?_⟩;subst e;have o:=(B a K).1;have g:=(s a W).2.2;have:=(aH.1 g).1;omega
 rcases eT.1 n with n | n
 ·obtain ⟨o,g⟩:=B D n;exact ⟨bA X o,g⟩
 obtain ⟨o,g,z⟩:=s D n;refine ⟨o,fun h=>?_,x.keep D _ g z rfl⟩;rcases x.ali D h with A | A
 ·exact g A
 have:=(aH.1 z).1;omega
theorem Marked.of_eq {E E':Env}{ds c:List Deferred}(h:c=ds):Marked E E' ds c:=by subst h;exact .refl _ _ _
def RoundOK (F:Fence)(E:Env):Prop:=∀l,F.round=some l->¬E.ali l/\∃r,E.w.heap[l]? =some (.loop r)
theorem RoundOK.ext {F:Fence}{O:List Nat}{E E':Env}(h:RoundOK F E)(x:ExtO O E E'):RoundOK F E':=fun l g=>by
 obtain ⟨c,r,e⟩:=h l g;refine ⟨fun h=>?_,r,x.keep l _ c e rfl⟩;rcases x.ali l h with f | f
 ·exact c f
 have:=(aH.1 e).1;omega
def After (G:Ctx)(N:Nat)(ws D:List Nat)(K:Exit->List (Nat × SV)->List HO->Prop)(E:Env)(a:Act)(e:Exit)(a':Act)(w':World):Prop:=
 ∃l' H' loc' ver',K e l' H'/\Inv G H' loc' ver' w'/\TRel (envOf G H' loc' ver' w') N l' a'/\ExtO D E (envOf G H' loc' ver' w')/\Same ws a a'/\Marked E (envOf G H' loc' ver' w') a.defers a'.defers
theorem After.mono {ws c D f:List Nat}{K g:Exit->List (Nat × SV)->List HO->Prop}{E:Env}{a:Act}{e:Exit}{m:Act}{w':World}(h:After G N ws D K E a e m w')(u:∀n,mem n ws=true->mem n c=true)(o:∀n,mem n D=true->mem n f=true)(s:∀l H,K e l H->g e l H):After G N c f g E a e m w':=
 let ⟨l',H',loc',ver',h1,h2,h3,h4,h5,h6⟩:=h
 ⟨l',H',loc',ver',s _ _ h1,h2,h3,h4.mono o,h5.mono u,h6⟩
theorem After.trans {ws D:List Nat}{K:Exit->List (Nat × SV)->List HO->Prop}{E E':Env}{a g c:Act}{e:Exit}{f:World}(m:ExtO D E E')(o:Same ws a g)(n:Marked E E' a.defers g.defers)(h:After G N ws D K E' g e c f):After G N ws D K E a e c f:=
 let ⟨l',H',loc',ver',h1,h2,h3,h4,h5,h6⟩:=h
 ⟨l',H',loc',ver',h1,h2,h3,m.trans h4,o.trans h5,n.trans m.size h4 h6⟩
def Qt (P:Program)(G:Ctx)(N:Nat)(Γ:List Con)(A:Anns)(key:Nat)(c:Code):Prop:=
 ∀ {F:Fence} {n:Nat},Opn F->∀ {H:List HO} {loc:Nat->Loc} {ver:Nat->Nat} {w:World} {l:List (Nat × SV)} {a:Act} {K:Exit->List (Nat × SV)->List HO->Prop},
  Inv G H loc ver w->TRel (envOf G H loc ver w) N l a->RoundOK F (envOf G H loc ver w)->nE P Γ N A key c l H K->c.wpIn F n P (After G N (gE c) (dL A key c) K (envOf G H loc ver w) a) a w
theorem yT (a b:List Nat)(n:Nat)(h:mem n a=true):mem n (a++b)=true:=by rw[mem_append,h];rfl
theorem Iq (a b:List Nat)(n:Nat)(h:mem n b=true):mem n (a++b)=true:=by rw[mem_append,h];simp
end
end Go.Eng
end
section
namespace Go.Eng
open Go.RowKit
section
variable {P:Program} {G:Ctx} {N:Nat} {H:List HO} {loc:Nat->Loc} {ver:Nat->Nat} {w:World}
theorem alien (B:Inv G H loc ver w){h:Nat}(m:H[h]? =some .gone){w':World}(z:w'.os=w.os)(A:w'.tape=w.tape)(u:w'.output=w.output)(x:w.heap.size<=w'.heap.size)(e:Nat->Prop)(o:∀b,e b->(loc h).al b\/(w.heap.size<=b/\b<w'.heap.size))(s:∀b,b<w.heap.size->¬(loc h).al b->w'.heap[b]? =w.heap[b]?):
  Inv G H (sV loc h { loc h with al:=e }) (sV ver h (ver h+1)) w'/\Ext0 (envOf G H loc ver w) (envOf G H (sV loc h { loc h with al:=e }) (sV ver h (ver h+1)) w'):=by
 have C:=B.objs h _ m;refine B.turn0 h (aI _) (fun k D=>⟨rfl,dJ _ _ _ D,dJ _ _ _ D⟩) (fun h=>h) (fun _=>.inr ⟨C.1,by rw[bF];omega⟩) x z A u (fun b g y=>s b g (y _ m)) ?_ ?_ ?_
 ·intro F b c g;rw[m] at c;cases c;rw[bF] at g;rcases o b g with f | f
  ·exact .inl ⟨_,m,f⟩
  exact .inr f.1
 ·intro st n K b E;rw[m] at E;cases E
 intro J F c;rw[m] at c;cases c;rw[bF,bF];refine ⟨iP _,fun b g=>?_⟩;rcases o b g with f | f
 ·exact bE (C.2 b f) x
 exact f.2
theorem ExtO.alien {O:List Nat}{s:Env}{H2:List HO}{loc':Nat->Loc}{ver':Nat->Nat}{w':World}{h:Nat}(e:ExtO O s (envOf G H loc ver w))(c:Ext0 (envOf G H loc ver w) (envOf G H2 loc' ver' w'))(f:∀nm,s.has nm=true->nm<h)(x:∀b,b<s.w.heap.size->w'.heap[b]? =w.heap[b]?)(D:∀nm b,s.gho nm b->s.has nm=true/\b<s.w.heap.size)(g:∀nm,nm<h->H2[nm]? =H[nm]? /\loc' nm=loc nm):ExtO O s (envOf G H2 loc' ver' w'):=by
 refine ⟨fun b B=>(c.blk b (e.ok b B)).trans (e.blk b B),fun b m=>c.ok b (e.ok b m),fun nm f=>c.num nm (e.num nm f),fun nm f A=>?_,bA e.size c.size,fun k o E J B=>?_,fun nm b m=>?_,fun nm b z m=>?_,fun b m=>?_,c.itr.trans e.itr,fun nm f A X=>?_⟩
 ·rcases e.ver nm f A with ⟨e1,e2⟩ | ⟨e1,e2⟩
  ·rcases c.ver nm (e.num nm f) with ⟨e3,e4⟩ | ⟨e3,e4⟩
   ·exact .inl ⟨e3.trans e1,e4.trans e2⟩
   exact .inr ⟨om,om⟩
  rcases c.ver nm (e.num nm f) with ⟨e3,e4⟩ | ⟨e3,e4⟩
  ·exact .inr ⟨e1,om⟩
  exact .inr ⟨e1,om⟩
 ·exact (x k (aH.1 J).1).trans (e.keep k o E J B)
 ·obtain ⟨u,C⟩:=e.gho nm b m;obtain ⟨F,K⟩:=D nm b m;exact ⟨⟨by rw[(g nm (f nm F)).1];exact u.1,by rw[(g nm (f nm F)).2];exact u.2⟩,(x b K).trans C⟩
 ·exact e.gho' nm b z ⟨by rw[<- (g nm (f nm z)).1];exact m.1,by rw[<- (g nm (f nm z)).2];exact m.2⟩
 ·rcases c.ali b m with u | u
  ·exact e.ali b u
  exact .inr (bA e.size u)
 have u:=e.ver nm f A;have C:=c.ver nm (e.num nm f);have e1:(envOf G H loc ver w).ver nm=s.ver nm:=by
  rcases u with ⟨y,_⟩ | ⟨y,n⟩
  ·exact y
  rcases C with ⟨W,_⟩ | ⟨W,Y⟩<;>omega
 rcases e.sub nm f A e1 with y | y
 ·rcases c.sub nm (e.num nm f) om with n | n
  ·exact .inl (n.trans y)
  rw[y] at n;exact .inr n
 rcases c.sub nm (e.num nm f) om with n | n
 ·rw[n];exact .inr y
 exact .inr (oF y n)
theorem Reads.cells {w:World}{M:Nat->Prop}{t:Ty}{x:t.T}{cs:List Value}(h:Reads w M t x cs):Reads w (fun b=>M b/\∃c e f,w.heap[b]? =some (.cells c e f)) t x cs:=by
 induction t generalizing cs with
 | int k=>exact h
 | bool=>exact h
 | str=>exact h
 | pair a b iha ihb=>obtain ⟨D,E,e,s,g⟩:=h;exact ⟨D,E,e,iha s,ihb g⟩
 | slice t ih=>
  obtain ⟨a,n,c,e,W,A,K,m⟩:=h;refine ⟨a,n,c,e,W,A,K,fun C=>?_⟩;obtain ⟨b,B,F,J,hi⟩:=m C;refine ⟨b,B,F,⟨J,?_⟩,fun i z=>?_⟩
  ·obtain ⟨o,s,g,_⟩:=hi 0 C;have Y:=t.size_pos;have u:o[0]? =some (o.getD 0 undef):=by
    rw[aB,aY om];rfl
   have y:=g 0 _ u;unfold World.cell? at y;split at y
   ·rename_i c e f X;exact ⟨_,_,_,X⟩
   cases y
  obtain ⟨o,s,g,u⟩:=hi i z;exact ⟨o,s,g,ih u⟩
theorem Inv.recast (m:Inv G H loc ver w){H2:List HO}{loc2:Nat->Loc}{ver2:Nat->Nat}(e:∀b,Owned H2 loc2 b↔Owned H loc b)(x:∀nm g o o' b,H2[nm]? =some o->H2[g]? =some o'->Owns (loc2 nm) o b->Owns (loc2 g) o' b->nm=g)(u:∀nm o,H2[nm]? =some o->OSat (envOf G H loc ver w) (loc2 nm) (ver2 nm) o)(s:∀nm,lE H nm=true->lE H2 nm=true)(c:∀nm,lE H nm=true->ver2 nm=ver nm/\(loc2 nm).toCore=(loc nm).toCore/\(loc2 nm).sub=(loc nm).sub)(n:∀b,Jl H2 loc2 b->Jl H loc b):
  Inv G H2 loc2 ver2 w/\Ext0 (envOf G H loc ver w) (envOf G H2 loc2 ver2 w):=by
 have z:Ext0 (envOf G H loc ver w) (envOf G H2 loc2 ver2 w):=
  ⟨fun _ _=>rfl,fun b f=>⟨f.1,f.2.1,fun h=>f.2.2 ((e b).1 h)⟩,s,fun nm y=>.inl ⟨(c nm y).1,(c nm y).2.1⟩,rfl,rfl,rfl,aI _,fun b f=>.inl (n b f),rfl,fun nm y _=>.inl (c nm y).2.2⟩
 exact ⟨⟨m.size,m.os,m.tape,m.output,m.frame,fun nm o A=>(u nm o A).ext z fun _ _=>rfl,fun b f=>m.own b ((e b).1 f),x⟩,z⟩
structure Vs (m:Nat) (E E':Env):Prop where
 has:E.has m=true->E'.has m=true
 ver:E.has m=true->(E'.ver m=E.ver m/\((E'.loc m).sub=(E.loc m).sub\/(E.loc m).sub.v<(E'.loc m).sub.v))\/E.ver m<E'.ver m
theorem Vs.trans {m:Nat}{A B C:Env}(h:Vs m A B)(k:Vs m B C):Vs m A C:=by
 refine ⟨fun f=>k.has (h.has f),fun f=>?_⟩;rcases h.ver f with ⟨g,c⟩ | g<;>rcases k.ver (h.has f) with ⟨n,e⟩ | n
 ·refine .inl ⟨n.trans g,?_⟩;rcases c with c | c
  ·rw[<- c];exact e
  rcases e with e | e
  ·rw[e];exact .inr c
  exact .inr (oF c e)
 ·exact .inr om
 ·exact .inr om
 exact .inr om
theorem Ext0.vs {E E':Env}(x:Ext0 E E')(m:Nat):Vs m E E':=⟨x.num m,fun e=>by
 rcases x.ver m e with ⟨c,_⟩ | ⟨_,c⟩
 ·exact .inl ⟨c,x.sub m e c⟩
 exact .inr c⟩
theorem ExtO.vs {D:List Nat}{E E':Env}(x:ExtO D E E'){m:Nat}(e:mem m D=false):Vs m E E':=⟨x.num m,fun f=>by
 rcases x.ver m f e with ⟨c,_⟩ | ⟨_,c⟩
 ·exact .inl ⟨c,x.sub m f e c⟩
 exact .inr c⟩
theorem Qv {E E':Env}:∀ {l:List SV} {vs:List Value},RelL E l vs->RelL E' (l.map Wg) vs
 | _,_,.nil=>.nil
 | _,_,.cons _ _ _ _ h hl=>.cons _ _ _ _ (Qq h) (Qv hl)
theorem BW (hI:Inv G H loc ver w){h:Nat}(hg:H[h]? =some .gone)(hh:H.length=h+1){M:Nat->Prop}(hM:∀b,M b->(loc h).al b){vs:List SV}{us:List Value}(hu:RelL (iD w M) vs us):
  ∃(S:Nat->Option Obj) (y:Nat->Loc) (a4:Nat->Nat),Inv G (H++Lq vs) y a4 w/\Ext0 (envOf G H loc ver w) (envOf G (H++Lq vs) y a4 w)/\RelL (envOf G (H++Lq vs) y a4 w) (I2 (h+1) vs) us/\(H++Lq vs)[h]? =some .gone/\
   (∀nm,nm<h->(H++Lq vs)[nm]? =H[nm]? /\y nm=loc nm)/\(∀b,(loc h).al b->S b=none->(y h).al b)/\(∀b,(y h).al b->(loc h).al b)/\(∀b o,S b=some o->M b/\w.heap[b]? =some o)/\
   ∀(D:List Nat) (H3:List HO) (s:Nat->Loc) (B:Nat->Nat) (w3:World),Inv G H3 s B w3->H3[h]? =some .gone->DV vs (h+1) D H3=true->
    (mem (h+1) D=false->Vs (h+1) (envOf G (H++Lq vs) y a4 w) (envOf G H3 s B w3))->
    ∃z,Inv G (yZ vs (h+1) H3) z B w3/\Ext0 (envOf G H3 s B w3) (envOf G (yZ vs (h+1) H3) z B w3)/\(yZ vs (h+1) H3)[h]? =some .gone/\(∀nm,nm<h->(yZ vs (h+1) H3)[nm]? =H3[nm]? /\z nm=s nm)/\
     (∀b,(s h).al b->(z h).al b)/\(∀b o,S b=some o->(z h).al b/\w3.heap[b]? =some o)/\(∀b,(z h).al b->(s h).al b\/M b):=by
 have b4:(∀t F,vs≠ [.seq t F])->Lq vs= []/\(∀n,I2 n vs=vs.map Wg)/\∀n H,yZ vs n H=H:=by
  intro a1;refine ⟨?_,fun n=>?_,fun n H=>?_⟩
  ·unfold Lq;split
   ·rename_i t F;exact (a1 t F rfl).elim
   rfl
  ·unfold I2;split
   ·rename_i t F;exact (a1 t F rfl).elim
   rfl
  unfold yZ;split
  ·rename_i t F;exact (a1 t F rfl).elim
  rfl
 by_cases hs:∃t F,vs= [.seq t F];case neg=>
  obtain ⟨e1,e2,e3⟩:=b4 fun t F e=>hs ⟨t,F,e⟩;refine ⟨fun _=>none,loc,ver,?_⟩;rw[e1,e2,eH];refine ⟨hI,(Ext.refl _).toExt0,Qv hu,hg,fun nm _=>⟨rfl,rfl⟩,fun b g _=>g,fun b g=>g,(fun b o g=>by cases g),fun D H3 s B w3 K E _ _=>?_⟩;rw[e3];exact ⟨s,K,(Ext.refl _).toExt0,E,fun nm _=>⟨rfl,rfl⟩,fun b g=>g,(fun b o g=>by cases g),fun b g=>.inl g⟩
 obtain ⟨t,F,rfl⟩:=hs;obtain ⟨u,rfl,c6⟩:∃u,us= [u]/\Rel (iD w M) (.seq t F) u:=by
  cases hu with
  | cons _ u _ _ C J=>cases J;exact ⟨u,rfl,C⟩
 have c5:Reads w M (.slice t) F [u]:=by
  cases c6 with
  | seq _ _ _ hr=>exact hr
 obtain ⟨S,hS⟩:∃S:Nat->Option Obj,∀b,(∀o,S b=some o->M b/\isBook o=false/\w.heap[b]? =some o)/\(M b->(∃c e f,w.heap[b]? =some (.cells c e f))->∃o,S b=some o):=by
  classical
  refine ⟨fun b=>if M b/\∃c e f,w.heap[b]? =some (.cells c e f) then w.heap[b]? else none,fun b=>⟨fun o m=>?_,fun C J=>?_⟩⟩
  ·dsimp only at m;split at m
   ·rename_i C;obtain ⟨J,c,e,f,h3⟩:=C;rw[h3] at m;cases m;exact ⟨J,rfl,h3⟩
   cases m
  obtain ⟨c,e,f,h3⟩:=J;exact ⟨_,(aE ⟨C,c,e,f,h3⟩).trans h3⟩
 have hO:=hI.objs h _ hg;have a1:h≠H.length:=om;have b6:Lq [.seq t F]= [.lnt 1 t F]:=rfl;obtain ⟨y,a0⟩:∃y:Nat->Loc,y=sV (sV loc h { loc h with al:=fun b=>(loc h).al b/\S b=none }) H.length ⟨⟨none,0,0⟩,fun _=>False,⟨0,fun _=>.slice none 0 0,u,S⟩⟩:=⟨_,rfl⟩;have l1:y H.length= ⟨⟨none,0,0⟩,fun _=>False,⟨0,fun _=>.slice none 0 0,u,S⟩⟩:=by rw[a0,bF]
 have l2:y h= { loc h with al:=fun b=>(loc h).al b/\S b=none }:=by rw[a0,dJ _ _ _ a1,bF]
 have l3:∀nm,nm≠H.length->nm≠h->y nm=loc nm:=fun nm C J=>by rw[a0,dJ _ _ _ C,dJ _ _ _ J]
 have Z:∀ {nm:Nat} {o:HO},(H++ [.lnt 1 t F])[nm]? =some o->(nm=H.length/\o= .lnt 1 t F)\/(nm≠H.length/\H[nm]? =some o):=by
  intro nm o m;by_cases e:nm=H.length
  ·subst e;rw[gG] at m;cases m;exact .inl ⟨rfl,rfl⟩
  rw[gU e] at m;exact .inr ⟨e,m⟩
 have a9:∀ {nm:Nat} {o:HO} {b:Nat},nm≠H.length->H[nm]? =some o->Owns (y nm) o b->Owns (loc nm) o b/\(nm=h->S b=none):=by
  intro nm o b e m g;by_cases e2:nm=h
  ·subst e2;rw[hg] at m;cases m;rw[l2] at g;exact ⟨g.1,fun _=>g.2⟩
  rw[l3 nm e e2] at g;exact ⟨g,fun e=>(e2 e).elim⟩
 have hr:=hI.recast (H2:=H++ [.lnt 1 t F]) (loc2:=y) (ver2:=sV ver H.length 1) (fun b=>⟨?_,?_⟩) ?_ ?_ ?_ ?_ ?_
 ·obtain ⟨c1,c7⟩:=hr;refine ⟨S,y,sV ver H.length 1,?_⟩;rw[b6];refine ⟨c1,c7,.cons _ _ _ _ ?_ .nil,by rw[gU a1];exact hg,fun nm c3=>⟨gU om,l3 nm om om⟩,fun b C J=>by rw[l2];exact ⟨C,J⟩,fun b g=>by rw[l2] at g;exact g.1,fun b o g=>⟨((hS b).1 o g).1,((hS b).1 o g).2.2⟩,?_⟩
  ·rw[<- hh];exact .subp _ _ _ _ (by exact nI rfl) Nat.one_pos (by simp[envOf,bF]) (fun _=>aF _) fun _ _=>by simp only[envOf];rw[l1]
  intro D H3 s B w3 K E b8 c0;rw[<- hh] at b8 c0 ⊢;have a6:(Wx (bX H3 H.length)&& !mem H.length D)=true:=b8;simp only[aG] at a6;have c4:mem H.length D=false:=by simpa using a6.2
  obtain ⟨t',ys,c2⟩:∃t' ys,bX H3 H.length= .lnt 1 t' ys:=by
   have C:=a6.1;unfold Wx at C;split at C
   ·rename_i t' ys e;exact ⟨t',ys,e⟩
   cases C
  have Y:=bB c2 si;obtain ⟨q1,q2,q3,q4,q5⟩:=K.objs _ _ Y;have b':(s H.length).sub=(y H.length).sub:=by
   rcases (c0 c4).ver (by exact nI rfl) with ⟨C,J⟩ | C
   ·rcases J with J | J
    ·exact J
    have h3:(y H.length).sub.v<(s H.length).sub.v:=J;omega
   have h3:(sV ver H.length 1) H.length<B H.length:=C;rw[bF] at h3;omega
  have X:(s H.length).sub.snap=S:=by rw[b',l1]
  have b7:h≠H.length:=a1;obtain ⟨z,a5⟩:∃z:Nat->Loc,z=sV s h { s h with al:=fun b=>(s h).al b\/∃o,S b=some o }:=⟨_,rfl⟩;have k1:z h= { s h with al:=fun b=>(s h).al b\/∃o,S b=some o }:=by rw[a5,bF]
  have k2:∀nm,nm≠h->z nm=s nm:=fun nm e=>by rw[a5,dJ _ _ _ e]
  have a':H.length<H3.length:=(aK.1 Y).1;have hX:yZ [.seq t F] H.length H3=H3.set H.length .dead:=rfl;have b2:(H3.set H.length .dead)[h]? =some .gone:=by rw[bS b7];exact E
  have b5:∀b o,S b=some o->w3.heap[b]? =some o:=fun b o g=>(q4 b o (by rw[X];exact g)).2;have a3:=K.objs h _ E;have W:∀ {nm:Nat} {o:HO},(H3.set H.length .dead)[nm]? =some o->(nm=H.length/\o= .dead)\/(nm≠H.length/\H3[nm]? =some o):=by
   intro nm o m;by_cases e:nm=H.length
   ·subst e;rw[aP a'] at m;cases m;exact .inl ⟨rfl,rfl⟩
   rw[bS e] at m;exact .inr ⟨e,m⟩
  have b9:=K.recast (H2:=H3.set H.length .dead) (loc2:=z) (ver2:=B) (fun b=>⟨?_,?_⟩) ?_ ?_ ?_ ?_ ?_
  ·rw[hX];refine ⟨z,b9.1,b9.2,b2,fun nm c3=>⟨bS om,k2 nm om⟩,fun b g=>by rw[k1];exact .inl g,fun b o g=>⟨by rw[k1];exact .inr ⟨o,g⟩,b5 b o g⟩,fun b g=>?_⟩;rw[k1] at g;rcases g with g | ⟨o,g⟩
   ·exact .inl g
   exact .inr ((hS b).1 o g).1
  ·rintro ⟨nm,o,m,g⟩;rcases W m with ⟨rfl,rfl⟩ | ⟨e,m⟩
   ·cases g
   by_cases e2:nm=h
   ·subst e2;rw[E] at m;cases m;rw[k1] at g;rcases g with g | ⟨x,g⟩
    ·exact ⟨_,_,E,g⟩
    exact ⟨H.length,_,Y,⟨x,by rw[X];exact g⟩⟩
   rw[k2 nm e2] at g;exact ⟨nm,o,m,g⟩
  ·rintro ⟨nm,o,m,g⟩;by_cases e:nm=H.length
   ·subst e;rw[Y] at m;cases m;obtain ⟨x,g⟩:=g;rw[X] at g;exact ⟨h,_,b2,by rw[k1];exact .inr ⟨x,g⟩⟩
   by_cases e2:nm=h
   ·subst e2;rw[E] at m;cases m;exact ⟨nm,_,b2,by rw[k1];exact .inl g⟩
   exact ⟨nm,o,by rw[bS e];exact m,by rw[k2 nm e2];exact g⟩
  ·have a8:∀ {nm o b},(H3.set H.length .dead)[nm]? =some o->Owns (z nm) o b->(nm≠h/\H3[nm]? =some o/\Owns (s nm) o b/\nm≠H.length)\/(nm=h/\((s h).al b\/∃x,S b=some x)):=by
    intro nm o b m g;rcases W m with ⟨rfl,rfl⟩ | ⟨e,m⟩
    ·cases g
    by_cases e2:nm=h
    ·subst e2;rw[E] at m;cases m;rw[k1] at g;exact .inr ⟨rfl,g⟩
    rw[k2 nm e2] at g;exact .inl ⟨e2,m,g,e⟩
   have b1:∀ {nm o b},nm≠h->H3[nm]? =some o->Owns (s nm) o b->nm≠H.length->((s h).al b\/∃x,S b=some x)->False:=by
    intro nm o b e1 m g e2 a7;rcases a7 with a7 | ⟨x,a7⟩
    ·exact e1 (K.sep nm h _ _ b m E g a7)
    exact e2 (K.sep nm H.length _ _ b m Y g ⟨x,by rw[X];exact a7⟩)
   intro nm b3 o o' b m a2 g A;rcases a8 m g with ⟨e1,C,J,h3⟩ | ⟨e1,C⟩<;>rcases a8 a2 A with ⟨e2,h4,h5,h6⟩ | ⟨e2,h4⟩
   ·exact K.sep nm b3 _ _ b C h4 J h5
   ·exact (b1 e1 C J h3 h4).elim
   ·exact (b1 e2 h4 h5 h6 C).elim
   rw[e1,e2]
  ·intro nm o m;rcases W m with ⟨rfl,rfl⟩ | ⟨e,m⟩
   ·trivial
   by_cases e2:nm=h
   ·subst e2;rw[E] at m;cases m;rw[k1];refine ⟨a3.1,fun b g=>?_⟩;rcases g with g | ⟨x,g⟩
    ·exact a3.2 b g
    exact (aH.1 (b5 b x g)).1
   rw[k2 nm e2];exact K.objs nm o m
  ·intro nm hn;by_cases e:nm=H.length
   ·subst e;exact eJ (aP a') rfl
   exact Dg (bS e) hn
  ·intro nm hn;by_cases e:nm=h
   ·subst e;rw[k1];exact ⟨rfl,rfl,rfl⟩
   rw[k2 nm e];exact ⟨rfl,rfl,rfl⟩
  rintro b ⟨nm,st,n,it,m,g⟩;rcases W m with ⟨rfl,e⟩ | ⟨e,m⟩
  ·cases e
  have e2:nm≠h:=fun e2=>by subst e2;rw[E] at m;cases m
  rw[k2 nm e2] at g;exact ⟨nm,st,n,it,m,g⟩
 ·rintro ⟨nm,o,m,g⟩;rcases Z m with ⟨rfl,rfl⟩ | ⟨e,m⟩
  ·obtain ⟨x,g⟩:=g;rw[l1] at g;exact ⟨h,_,hg,hM b ((hS b).1 x g).1⟩
  exact ⟨nm,o,m,(a9 e m g).1⟩
 ·rintro ⟨nm,o,m,g⟩;have e:nm≠H.length:=fun e=>by have:=(aK.1 m).1;omega
  by_cases e2:nm=h
  ·subst e2;rw[hg] at m;cases m;cases hs:S b with
   | none=>exact ⟨nm,_,by rw[gU e];exact hg,by rw[l2];exact ⟨g,hs⟩⟩
   | some x=>exact ⟨H.length,_,gG,⟨x,by rw[l1];exact hs⟩⟩
  exact ⟨nm,o,by rw[gU e];exact m,by rw[l3 nm e e2];exact g⟩
 ·have a8:∀ {nm o b},nm≠H.length->H[nm]? =some o->Owns (y nm) o b->Owns (y H.length) (.lnt 1 t F) b->False:=by
   intro nm o b e m g A;obtain ⟨x,A⟩:=A;rw[l1] at A;have A:S b=some x:=A;obtain ⟨C,J⟩:=a9 e m g;have h3:=hI.sep nm h _ _ b m hg C (hM b ((hS b).1 x A).1);rw[J h3] at A;cases A
  intro nm b3 o o' b m a2 g A;rcases Z m with ⟨rfl,rfl⟩ | ⟨e,m⟩<;>rcases Z a2 with ⟨rfl,rfl⟩ | ⟨e',a2⟩
  ·rfl
  ·exact (a8 e' a2 A g).elim
  ·exact (a8 e m g A).elim
  exact hI.sep nm b3 _ _ b m a2 (a9 e m g).1 (a9 e' a2 A).1
 ·intro nm o m;rcases Z m with ⟨rfl,rfl⟩ | ⟨e,m⟩
  ·rw[l1,bF];refine ⟨rfl,Nat.one_pos,rfl,fun b o g=>((hS b).1 o g).2,c5.cells.mono (fun _ _ _ h=>h) fun b g=>(hS b).2 g.1 g.2⟩
  rw[dJ _ _ _ e];by_cases e2:nm=h
  ·subst e2;rw[hg] at m;cases m;rw[l2];exact ⟨hO.1,fun b g=>hO.2 b g.1⟩
  rw[l3 nm e e2];exact hI.objs nm o m
 ·intro nm hn;have:=iN hn;exact Dg (gU om) hn
 ·intro nm hn;have:=iN hn;rw[dJ _ _ _ om];by_cases e2:nm=h
  ·subst e2;rw[l2];exact ⟨rfl,rfl,rfl⟩
  rw[l3 nm om e2];exact ⟨rfl,rfl,rfl⟩
 rintro b ⟨nm,st,n,it,m,g⟩;rcases Z m with ⟨rfl,e⟩ | ⟨e,m⟩
 ·cases e
 have e2:nm≠h:=fun e2=>by subst e2;rw[hg] at m;cases m
 rw[l3 nm e e2] at g;exact ⟨nm,st,n,it,m,g⟩
theorem Dn (T:List HO)(nm:Nat):iU (T++ [.gone]) nm=iU T nm/\fL (bX (T++ [.gone]) nm)=fL (bX T nm):=by
 have:bX (T++ [.gone]) nm=bX T nm\/(bX (T++ [.gone]) nm= .gone/\bX T nm= .dead):=by
  simp only[bX,aB];rcases qM nm T.length with h | h | h
  ·left;rw[bN h]
  ·right;subst h;simp
  left;rw[cO (by simp;omega),cO om]
 rcases this with h | ⟨c,e⟩
 ·simp only[iU,h,and_self]
 simp only[iU,c,e,fL,and_self]
theorem GF {objs:List Nat}{A c B e:List HO}(f:∀nm,iU c nm=iU A nm/\fL (bX c nm)=fL (bX A nm))(g:∀nm,iU e nm=iU B nm/\fL (bX e nm)=fL (bX B nm))(s:SV):NV objs c e s=NV objs A B s:=by
 cases s<;>simp[NV,fun nm=>(f nm).1,fun nm=>(f nm).2,fun nm=>(g nm).1]
theorem Dp {objs:List Nat}{A c B e:List HO}{n:Nat}(f:∀nm,iU c nm=iU A nm/\fL (bX c nm)=fL (bX A nm))(g:∀nm,iU e nm=iU B nm/\fL (bX e nm)=fL (bX B nm)):∀ {l m:List SV},zK objs A B n l m->zK objs c e n l m
 | [],[],_=>trivial
 | x::r,y::r',h=>⟨by rw[GF f g];exact h.1,Dp f g h.2⟩
theorem Dq {objs:List Nat}{A g B m:List HO}{n nm:Nat}(s:∀nm,iU g nm=iU A nm/\fL (bX g nm)=fL (bX A nm))(u:∀nm,iU m nm=iU B nm/\fL (bX m nm)=fL (bX B nm)){o o':HO}(h:FZ objs A B n nm o o'):FZ objs g m n nm o o':=by
 cases o' with
 | dead=>cases o<;>trivial
 | cells l e=>cases o with
  | cells l' e'=>exact ⟨h.1,Dp s u h.2⟩
  | _=>cases h
 | frc l=>cases o with
  | frc l'=>exact Dp s u h
  | _=>cases h
 | vec v t xs e=>cases o with
  | vec v' t' xs' e'=>exact h
  | _=>cases h
 | fro v t xs=>cases o with
  | fro v' t' xs'=>exact h
  | _=>cases h
 | gone=>cases o with
  | gone=>exact h
  | _=>cases h
 | qm a b=>cases o with
  | qm a' b'=>exact h
  | _=>cases h
 | frm a b=>cases o with
  | frm a' b'=>exact h
  | _=>cases h
 | yst a b c=>cases o with
  | yst a' b' c'=>exact h
  | _=>cases h
 | lnt a b c=>cases o with
  | lnt a' b' c'=>exact h
  | _=>cases h
 | map a b c=>cases o with
  | map a' b' c'=>exact h
  | _=>cases h
 | mit a b c d=>cases o with
  | mit a' b' c' d'=>exact h
  | _=>cases h
 | res=>cases o<;>cases h
 | vv a b c d p e f=>cases o with
  | vv a' b' c' d' p' e' f'=>exact h
  | _=>cases h
theorem GG {objs:List Nat}{A B:List HO}{n:Nat}(h:F0 objs A B n 0 A B)(e:A[B.length]? =some .gone)(s:mem B.length objs=false):EntS objs A (B++ [.gone]) n:=by
 obtain ⟨x,f⟩:=pL h;refine ⟨by have:=(aK.1 e).1;simp;omega,fun i o c=>?_⟩;rcases qM i B.length with hi | hi | hi
 ·rw[bN hi] at c;obtain ⟨u,g,m⟩:=f i o c;exact ⟨u,g,Dq (fun _=>⟨rfl,rfl⟩) (Dn B) m⟩
 ·subst hi;simp at c;subst c;exact ⟨.gone,e,by rw[eS];exact s⟩
 rw[cO (by simp;omega)] at c;cases c
theorem GH {objs:List Nat}{A B:List HO}{n:Nat}(h:F0 objs A B n 0 A B)(m:B.length=A.length)(s:mem B.length objs=false):EntS objs (A++ [.gone]) (B++ [.gone]) n:=by
 obtain ⟨x,e⟩:=pL h;refine ⟨by simp;omega,fun i o c=>?_⟩;rcases qM i B.length with hi | hi | hi
 ·rw[bN hi] at c;obtain ⟨u,f,g⟩:=e i o c;exact ⟨u,by rw[bN om];exact f,Dq (Dn A) (Dn B) g⟩
 ·subst hi;simp at c;subst c;exact ⟨.gone,by rw[m];simp,by rw[eS];exact s⟩
 rw[cO (by simp;omega)] at c;cases c
theorem Qw {E:Env}:∀ {ps:List Nat} {vs:List SV} {us:List Value} {l:List (Nat × SV)} {t:Array Value},t.size=N->(∀k,Rel E (look l k) (t.getD k undef))->RelL E vs us->(∀p∈ps,p<N)->ps.length=vs.length->
  ((ps.zip us).foldl (fun f (p:Nat × Value)=>f.setIfInBounds p.1 p.2) t).size=N/\∀k,Rel E (look (Wz ps vs l) k) (((ps.zip us).foldl (fun f (p:Nat × Value)=>f.setIfInBounds p.1 p.2) t).getD k undef)
 | [],[],_,l,t,hs,hr,.nil,_,_=>⟨hs,hr⟩
 | p::ps,v::vs,_,l,t,hs,hr,.cons _ u _ us h hl,hp,hlen=>by
  simp only[List.zip_cons_cons,oS,Wz];refine Qw (by simp[hs]) (fun k=>?_) hl (fun q g=>hp q (cC _ g)) (by simpa using hlen);rw[qB];have c:p<t.size:=by rw[hs];exact hp p (cQ ..)
  rw[bQ,cS];by_cases e:k=p
  ·subst e;simp[c];exact h
  rw[aD e,aD (fun h=>e h.symm),<- bQ];exact hr k
theorem Gn {E:Env}:∀ {vs:List SV} {us:List Value} {C:Prop},RelL E vs us->Wy vs C->C
 | [],_,_,_,h=>h
 | v::vs,_,C,.cons _ u _ us hv hl,h=>by
  unfold Wy at h;split at h
  ·rename_i c;cases c
  ·rename_i k n r c;cases c;obtain ⟨_,e⟩:=hv.int_inv;exact Gn hl (C8 h e)
  rename_i c;cases c;exact Gn hl h
def Qx (fn:FuncId)(tmps:Array Value)(ps:Array Tmp)(x y:Code)(d:Nat)(st:LoopState)(pe:Option Code):Loop:={ state:=st,pending:=pe,fn,tmps,params:=ps,assign:=x,body:=y,defers:=d }
theorem BX {F:Fence}{E:Env}(n:RoundOK F E)(m:E.w=w)(fn:FuncId)(tmps:Array Value)(ps:Array Tmp)(x y:Code):
  ∃(l:Nat) (e:List Nat) (c:World) (d:Nat),(Instr.enterLoop fn tmps ps x y F.round).run P w= .ok (l,e.map Dl) c/\c.heap[l]? =some (.loop (Qx fn tmps ps x y d .ready none))/\Below w.heap.size w c/\w.heap.size<=l/\e.Nodup/\
   ∀D∈e,w.heap.size<=D/\D≠l/\c.heap[D]? =some (.deferred (some [])):=by
 subst m;cases hF:F.round with
 | none=>
  refine ⟨E.w.heap.size+1,[E.w.heap.size],_,E.w.heap.size,run_enterLoop_outer _ _ _ _ _,?_,?_,om,si,?_⟩
  ·have:=World.alloc_heap_new (E.w.alloc (.deferred (some []))) (.loop (Qx fn tmps ps x y E.w.heap.size .ready none));rwa [World.size_alloc] at this
  ·exact ((Below.refl _ E.w).alloc (aI _) _).alloc si _
  intro D f;simp at f;subst f;exact ⟨aI _,om,(Below.heap_alloc _ _ _ si).trans (World.alloc_heap_new E.w _)⟩
 | some l0=>
  obtain ⟨_,o,g⟩:=n l0 hF;refine ⟨E.w.heap.size,[],_,o.defers,run_enterLoop_inner g _ _ _ _ _,?_,?_,aI _,List.nodup_nil,fun _ h=>by cases h⟩
  ·exact World.alloc_heap_new E.w _
  exact (Below.refl _ E.w).alloc (aI _) _
end
end Go.Eng
end
section
namespace Go.Eng
open Go.RowKit
section
variable {P:Program} {G:Ctx} {N:Nat}
def Yf:Exit->Option Code
 | .ret=>some .ret
 | .exit n=>some (.exit n)
 | _=>none
theorem Yg {O ws:List Nat}{E E':Env}{l:List (Nat × SV)}{a:Act}(o:TRel E N l a)(c:ExtO O E E'):TRel E' N (base ws O l) a:=by
 refine ⟨o.size,fun t=>?_⟩;rcases Gk ws O l t with e | ⟨e1,e2,e3⟩
 ·rw[e];exact .any _
 rw[e1];refine (o.rel t).move (p:=fun m=> !mem m O) (fun g n f=>?_) (fun g n x u=>c.sub g x (by simpa using n) u) (fun _=>c.itr) c.keepC c.ok (Bq e3);have s:mem g O=false:=by simpa using n
 exact ⟨c.num g f,c.ver g f s⟩
theorem xR {H:List HO}{loc:Nat->Loc}{ver:Nat->Nat}{w:World}(e:Inv G H loc ver w){h b:Nat}(c:H[h]? =some .gone)(f:(loc h).al b):¬Jl H loc b:=by
 rintro ⟨nm,st,n,it,h1,h2⟩;have:=e.sep nm h _ _ b h1 c h2 f;subst this;rw[c] at h1;cases h1
theorem GI {vs:List SV}{n:Nat}{D:List Nat}{H:List HO}(h:DV vs n D H=true):(∀nm,nm<n->(yZ vs n H)[nm]? =H[nm]?)/\(∀nm,iU (yZ vs n H) nm=iU H nm/\fL (bX (yZ vs n H) nm)=fL (bX H nm))/\(yZ vs n H).length=H.length:=by
 unfold yZ;split
 ·refine ⟨fun nm s=>bS om,fun nm=>?_,by simp[cA]⟩;have g:Wx (bX H n)=true:=(and2 h).1;by_cases e:nm=n
  ·subst e;have c:∃t f,bX H nm= .lnt 1 t f:=by
    unfold Wx at g;split at g
    ·rename_i t f e;exact ⟨t,f,e⟩
    cases g
   obtain ⟨t,f,c⟩:=c;have o:=bB c si;have m:bX (cA H nm .dead) nm= .dead:=by simp[bX,cA,aB,(aK.1 o).1]
   simp only[iU,c,m,fL,and_self]
  have m:bX (cA H n .dead) nm=bX H nm:=by
   simp only[bX,cA,aB];rw[bS e]
  simp only[iU,m,and_self]
 exact ⟨fun _ _=>rfl,fun _=>⟨rfl,rfl⟩,rfl⟩
theorem GJ {vs:List SV}{n:Nat}{D:List Nat}{H T:List HO}{objs:List Nat}{m:Nat}(h:DV vs n D H=true)(hS:EntS objs H T m)(y:T.length<=n):EntS objs (yZ vs n H) T m:=by
 obtain ⟨f,g,s⟩:=GI h;refine ⟨by rw[s];exact hS.1,fun i o e=>?_⟩;obtain ⟨z,u,x⟩:=hS.2 i o e;have c:i<n:=bE (aK.1 e).1 y;exact ⟨z,by rw[f i c];exact u,Dq g (fun _=>⟨rfl,rfl⟩) x⟩
def RJ (G:Ctx)(K:Exit->List (Nat × SV)->List HO->Prop)(an:Ann)(OD:List Nat)(H1:List HO)(loc1:Nat->Loc)(ver1:Nat->Nat)(w w1:World)(l:List (Nat × SV))(lr:Nat)(Ds:List Nat)(rec:LoopState->Option Code->Loop)(st:Option Nat)(M:Nat->Prop)(W:World):Prop:=
 (∀b,M b->w1.heap.size<=b)/\(∀D∈Ds,W.heap[D]? =some (.deferred (some [])))/\w1.heap.size<=W.heap.size/\
 ∃H' loc' ver',Inv G H' loc' ver' W/\H'[H1.length]? =some .gone/\(∀b,(w.heap.size<=b/\b<w1.heap.size)\/M b->(loc' H1.length).al b)/\(∀b,(loc' H1.length).al b->w.heap.size<=b)/\
  ExtO OD (envOf G H1 loc1 ver1 w) (envOf G H' loc' ver' W)/\
  (match st with
   | some k=>∃z,an.mu z=k/\an.pre z/\H'=an.heap z H1++ [.gone]/\ExtO an.objs (envOf G H1 loc1 ver1 w) (envOf G H' loc' ver' W)/\W.heap[lr]? =some (.loop (rec .ready none))
   | none=>∃e cj,Yf e=some cj/\K e (base [] OD l) H'/\W.heap[lr]? =some (.loop (rec .done (some cj))))
theorem RJ.abides {K:Exit->List (Nat × SV)->List HO->Prop}{an:Ann}{OD:List Nat}{n:List HO}{f:Nat->Loc}{g:Nat->Nat}{w y:World}{l:List (Nat × SV)}{lr:Nat}{Ds:List Nat}{Z:LoopState->Option Code->Loop}(a3:Inv G n f g w)(C:Below w.heap.size w y)(E:lr<y.heap.size)(A:∀D∈Ds,D<y.heap.size){st:Option Nat}{M:Nat->Prop}{W W':World}(h:RJ G K an OD n f g w y l lr Ds Z st M W)(a7:W'.os=W.os)(a8:W'.tape=W.tape)(F:W'.output=W.output)(X:W.heap.size<=W'.heap.size)(o:∀b,b<W.heap.size->¬M b->W'.heap[b]? =W.heap[b]?):
  RJ G K an OD n f g w y l lr Ds Z st (fun b=>M b\/(W.heap.size<=b/\b<W'.heap.size)) W':=by
 obtain ⟨hM,a1,a9,H',s,a0,hI,hg,u,B,hx,J⟩:=h;have m:∀b,b<y.heap.size->W'.heap[b]? =W.heap[b]? :=fun b c=>o b om fun hm=>by have:=hM b hm;omega
 obtain ⟨a2,a'⟩:=alien hI hg a7 a8 F X (fun b=>(s n.length).al b\/(W.heap.size<=b/\b<W'.heap.size)) (fun b c=>c) (fun b c a5=>o b c fun hm=>a5 (u b (.inr hm)));have a4:∀x b,(envOf G n f g w).gho x b->(envOf G n f g w).has x=true/\b<(envOf G n f g w).w.heap.size:=fun x b c=>
  ⟨eJ c.1 rfl,(a3.objs x _ c.1).2 b c.2⟩
 have Y:∀O,ExtO O (envOf G n f g w) (envOf G H' s a0 W)->ExtO O (envOf G n f g w) (envOf G H' _ _ W'):=fun O hx=>
  ExtO.alien hx a' (fun x hn=>iN hn) (fun b c=>m b (by have:=C.size;have b1:b<w.heap.size:=c;omega)) a4 (fun x a6=>⟨rfl,dJ _ _ _ (tW a6)⟩)
 refine ⟨fun b c=>?_,fun D hD=>(m D (A D hD)).trans (a1 D hD),bA a9 X,H',_,_,a2,hg,fun b c=>?_,fun b c=>?_,Y OD hx,?_⟩
 ·rcases c with c | c
  ·exact hM b c
  omega
 ·rw[bF];rcases c with c | c | c
  ·exact .inl (u b (.inl c))
  ·exact .inl (u b (.inr c))
  exact .inr c
 ·rw[bF] at c;rcases c with c | c
  ·exact B b c
  have:=C.size;omega
 cases st with
 | some k=>
  obtain ⟨z,h1,h2,h3,h4,h5⟩:=J;exact ⟨z,h1,h2,h3,Y _ h4,(m lr E).trans h5⟩
 | none=>
  obtain ⟨e,cj,h1,h2,h3⟩:=J;exact ⟨e,cj,h1,h2,(m lr E).trans h3⟩
theorem OL {C H' Z:List HO}{loc loc':Nat->Loc}{ver ver':Nat->Nat}{w W:World}{nm k n:Nat}{O:List Nat}(E:Inv G C loc ver w)(D:Inv G H' loc' ver' W)(K:mem nm O=false)(z:Eo nm k n C)(A:Eo nm k n Z)(hH:H'=Z++ [.gone])(hx:ExtO O (envOf G C loc ver w) (envOf G H' loc' ver' W)):softC n (loc nm).toCore W:=by
 unfold Eo at z A;split at z;case h_2=>cases z
 rename_i j t xs e Y;obtain ⟨rfl,a3,hl⟩:=z;split at A;case h_2=>cases A
 rename_i j2 t2 y e2 a0;obtain ⟨a1,u,a2⟩:=A;have m:=bB Y si;have o:=bB a0 si;have X:H'[nm]? =some (.vec j2 t2 y e2):=by rw[hH,bN (aK.1 o).1];exact o
 have a4:ver nm=j:=(E.objs nm _ m).1;obtain ⟨x,_,c,f,vs,s,_⟩:=D.objs nm _ X;have x:ver' nm=j2:=x;have F:(loc' nm).len=length (α:=t2.T) y:=c;have J:(loc' nm).len<=maxL:=f;rcases hx.ver nm (eJ m rfl) K with ⟨_,e2⟩ | ⟨_,e2⟩
 ·have e2:(loc' nm).toCore=(loc nm).toCore:=e2;rw[<- e2];refine ⟨by show (loc' nm).len=n;omega,om,?_⟩;rcases cW s with ⟨_,_,B,_⟩ | ⟨g,cur,B,q2,q3,q4,_,q5,_⟩
  ·have B:(loc' nm).len=0:=B;exact .inl om
  rw[u,pX] at q5;refine .inr ⟨g,cur,_,_,B,?_,q3,?_⟩
  ·show n<=(loc' nm).cap;omega
  have q5:(loc' nm).cap<=cur.size:=q5;omega
 have e2:ver nm<ver' nm:=e2;omega
theorem Mw (hY:COK P G){Γ:List Con}{A:Anns}{g:Operand}{ps:Array Tmp}{x y:Code}(p7:∀B,Qt P G N Γ A B x)(p8:∀B,Qt P G N Γ A B y)(B:Nat){F:Fence}{n:Nat}(hF:Opn F){H u:List HO}{loc:Nat->Loc}{ver:Nat->Nat}{w:World}{l:List (Nat × SV)}{a:Act}{K:Exit->List (Nat × SV)->List HO->Prop}(e8:Inv G u loc ver w)(p4:Ext (envOf G H loc ver w) (envOf G u loc ver w))(l2:TRel (envOf G u loc ver w) N l a)(o2:RoundOK F (envOf G H loc ver w)){an:Ann}(hA:Lp A B=an.objs){f:FuncId}{vb:List Value}(j9:a.eval g= .func (.func f) ⟨[]⟩ ⟨vb⟩)(l8:xO P f){as:List SV}{nn:Nat}{a0:Nat->List SV}(m8:I7 P f as nn a0)(h0:Bool)(sf:Core)(j3:∀w1,Below w.heap.size w w1->QR w1 (qW G u loc w) h0 sf as vb)(p3:h0=true->∃nm k,mem nm an.objs=false/\sf=(loc nm).toCore/\Eo nm k nn u/\∀z,an.pre z->Eo nm k nn (an.heap z u))(hk:Gh N A B ps x y an nn a0 l u (nE P Γ N A B x) (nE P Γ N A B y) K):(Code.rangeFunc g ps x y).wpIn F n P (After G N (gE (.rangeFunc g ps x y)) (dL A B (.rangeFunc g ps x y)) K (envOf G H loc ver w) a) a w:=by
 unfold Gh at hk;obtain ⟨h9,hk⟩:=bD hk;obtain ⟨k2,i1⟩:=hk;have h9:mem u.length an.objs=false:=by simpa using h9
 obtain ⟨OD,c7⟩:∃OD,(dL A B x++dL A B y)++an.objs=OD:=⟨_,rfl⟩;have k6:dL A B (.rangeFunc g ps x y)=OD:=by simp only[dL,hA];exact c7
 have k7:∀m,mem m (dL A B x)=true->mem m OD=true:=fun m hm=>by rw[<- c7];exact yT _ _ m (yT _ _ m hm)
 have k8:∀m,mem m (dL A B y)=true->mem m OD=true:=fun m hm=>by rw[<- c7];exact yT _ _ m (Iq _ _ m hm)
 have e9:∀m,mem m an.objs=true->mem m OD=true:=fun m hm=>by rw[<- c7];exact Iq _ _ m hm
 have m':qA an.objs u.length OD=true:=by
  rw[<- c7];obtain ⟨z,_,_⟩:=i1.init;exact Cx (and2 (and2 (k2 z)).1).2
 have c2:∀z,(an.heap z u).length=u.length/\Ia u (an.heap z u)=true:=fun z=>
  ⟨bM.1 (and2 (and2 (and2 (k2 z)).1).1).2,(and2 (k2 z)).2⟩
 refine wpIn_rangeFunc ?_;intro fn q1;obtain ⟨C,Ds,w1,d,j6,g6,X,m1,o',d'⟩:=BX (P:=P) (w:=w) o2 rfl fn a.tmps ps x y;obtain ⟨a2,E⟩:∃a2,Qx fn a.tmps ps x y d=a2:=⟨_,rfl⟩;rw[E] at g6;have d6:C<w1.heap.size:=(aH.1 g6).1;have d3:∀D∈Ds,D<w1.heap.size:=fun D hD=>(aH.1 (d' D hD).2.2).1
 -- the iterator's blocks: the loop's own tg begin with
 have hf:=e8.fresh (w':=w1) .gone ⟨⟨none,0,0⟩,fun b=>w.heap.size<=b/\b<w1.heap.size,Ph⟩ 1 X.size X.os X.tape X.output (fun b s=>X.block b s) (fun b s=>s.1) (fun _=>by rw[show (1:Nat)=1 from rfl];exact ⟨Nat.one_pos,fun b s=>s.2⟩);obtain ⟨o0,p5⟩:=hf;have d8:∀nm b,(envOf G u loc ver w).gho nm b->(envOf G u loc ver w).has nm=true/\b<(envOf G u loc ver w).w.heap.size:=fun nm b s=>
  ⟨eJ s.1 rfl,(e8.objs nm _ s.1).2 b s.2⟩
 have o4:(#[Value.func (.yield C) #[] #[]]++(⟨vb⟩:Array Value))= ⟨Value.func (.yield C) #[] #[]::vb⟩:=by apply fJ;simp
 refine ⟨C,Ds.map Dl,w1,{ target:=.fn (.func f) ⟨vb⟩,args:= #[.func (.yield C) #[] #[]] },w1,f, #[Value.func (.yield C) #[] #[]]++(⟨vb⟩:Array Value),w1,j6,?_,fun f' _=>hF.fn f',?_,fun hs=>(by rw[hF.depth] at hs;cases hs),?_⟩
 ·simp only[resolve,j9];simp[go_sem]
 ·have e:=l8 (#[Value.func (.yield C) #[] #[]]++(⟨vb⟩:Array Value)) w1;simpa [invoke,go_sem] using e
 rw[o4];have j5:∀(e:Ending) (w':World),((∃v,e= .returned v)/\∃M,RJ G K an OD u loc ver w w1 l C Ds a2 (some nn) M w'\/RJ G K an OD u loc ver w w1 l C Ds a2 none M w')->
   rangePost F n P C (After G N (gE (.rangeFunc g ps x y)) (dL A B (.rangeFunc g ps x y)) K (envOf G H loc ver w) a) { a with defers:=Ds.map Dl++a.defers } e w':=by
  rintro e W ⟨⟨v,rfl⟩,M,hJ⟩;rw[k6];have fin:∀ {H':List HO} {Z:Nat->Loc} {b3:Nat->Nat} {W':World} {e:Exit} {O:List Nat},Inv G H' Z b3 W->H'[u.length]? =some .gone->(∀b,(w.heap.size<=b/\b<w1.heap.size)\/M b->(Z u.length).al b)->(∀b,(Z u.length).al b->w.heap.size<=b)->
    ExtO O (envOf G u loc ver w) (envOf G H' Z b3 W)->(∀m,mem m O=true->mem m OD=true)->(∀D∈Ds,W.heap[D]? =some (.deferred (some [])))->K e (base [] O l) H'->∀o,C<W.heap.size->W'=W.putObj C o->
    After G N (gE (.rangeFunc g ps x y)) OD K (envOf G H loc ver w) a e { a with defers:=Ds.map Dl++a.defers } W':=by
   intro H' Z b3 W' e O a5 hg a7 b4 hx hO hD hK o q2 hW;subst hW;obtain ⟨h7,b1⟩:=alien a5 hg (w':=W.putObj C o) rfl rfl rfl si (Z u.length).al (fun b s=>.inl s) (fun b s g2=>World.putObj_heap_other (fun e=>g2 (by subst e;exact a7 b (.inl ⟨m1,d6⟩))));have b':ExtO O (envOf G u loc ver w) (envOf G H' _ _ (W.putObj C o)):=ExtO.alien hx b1 (fun nm hn=>iN hn) (fun b s=>World.putObj_heap_other (fun e=>by have l6:b<w.heap.size:=s;omega)) d8 (fun nm g3=>⟨rfl,dJ _ _ _ (tW g3)⟩);refine ⟨_,H',_,_,hK,h7,?_,(p4.toO OD).trans (b'.mono hO),.refl _ _,Ds,rfl,o',fun D b7=>?_⟩
   ·have:=Yg (ws:=[]) l2 b';exact ⟨this.size,this.rel⟩
   obtain ⟨h1,h2,h3⟩:=d' D b7;refine ⟨h1,xR h7 hg (by rw[bF];exact a7 D (.inl ⟨h1,d3 D b7⟩)),?_⟩;exact (World.putObj_heap_other h2).trans (hD D b7)
  rcases hJ with ⟨hM,hD,n0,H',Z,b3,a5,hg,a7,b4,hx,z,hz,c4,d7,g9,hr⟩ | ⟨hM,hD,n0,H',Z,b3,a5,hg,a7,b4,hx,e,cj,hj,hK,hr⟩
  ·have m7:=i1.stop z c4 hz;rw[nZ,pG] at m7;refine ⟨none,_,by have:=run_endLoop (P:=P) hr (by rw[<- E];simp[Qx]);rw[<- E] at this;exact this,?_⟩;subst d7;exact fin a5 hg a7 b4 g9 e9 hD m7 _ om rfl
  refine ⟨some cj,_,by have:=run_endLoop (P:=P) hr (by rw[<- E];simp[Qx]);rw[<- E] at this;exact this,?_⟩;have i6:=fun o=>fin (W':=W.putObj C o) a5 hg a7 b4 hx (fun _ h=>h) hD hK o om rfl;cases e with
  | ret=>cases hj;exact wpIn_ret (i6 _)
  | exit id=>cases hj;exact wpIn_exit (i6 _)
  | _=>cases hj
 refine CallsIn.mono (hF.calls (m8 (qW G u loc w) w1 vb C (RJ G K an OD u loc ver w w1 l C Ds a2) h0 sf ((hY.now e8).move (fun b s _=>s) fun b s=>X.block b s.2.1) (fun b s=>bE s.2.1 X.size)
  (j3 w1 X) (fun hs k M W hJ=>by
   obtain ⟨nm,kk,o9,rfl,p1,p2⟩:=p3 hs;obtain ⟨_,_,_,H',Z,b3,a5,_,_,_,_,z,hz,c4,d7,g9,_⟩:=hJ
   exact OL e8 a5 o9 p1 (p2 z c4) d7 g9)
  (fun st M W W' hJ h1 h2 h3 h4 h5=>hJ.abides e8 X d6 d3 h1 h2 h3 h4 h5) ?_ ?_)) j5
 ·
  rintro k M W us hk ⟨hM,hD,n0,H',Z,b3,a5,hg,a7,b4,hxD,z,hz,c4,d7,g9,hr⟩ hu;subst hz;have b9:=i1.round z c4 hk;rw[lW] at b9;obtain ⟨j4,b9⟩:=bD b9;obtain ⟨g0,l7⟩:=and2 j4;have g0:=bM.1 g0;have b9:=Gn hu b9;rw[lW,nZ,pG] at b9;rw[<- d7] at b9;have k0:H'.length=u.length+1:=by rw[d7];simp[(c2 z).1]
  obtain ⟨S,a4,c5,e7,g7,k3,a8,d2,d5,j0,hS,f8⟩:=BW a5 hg k0 (fun b s=>a7 b (.inr s)) hu;obtain ⟨H0,n'⟩:∃H0,H'++Lq (a0 (an.mu z))=H0:=⟨_,rfl⟩;rw[n'] at b9 e7 g7 k3 a8 d2 f8;have i8:ExtO OD (envOf G u loc ver w) (envOf G H0 a4 c5 W):=ExtO.alien hxD g7 (fun nm hn=>iN hn) (fun _ _=>rfl) d8 d2;have n8:ExtO an.objs (envOf G u loc ver w) (envOf G H0 a4 c5 W):=ExtO.alien g9 g7 (fun nm hn=>iN hn) (fun _ _=>rfl) d8 d2;have l1:∀b,b<w1.heap.size->S b=none:=fun b s=>by
   cases hs:S b with
   | none=>rfl
   | some x=>have:=hM b (hS b x hs).1;omega
  have m9:us.length=ps.size:=by rw[<- hu.length];exact g0
  have hy:=run_yield (P:=P) (args:=⟨us⟩) hr (by rw[<- E];simpa [Qx] using m9);rw[<- E] at hy;refine ⟨_,_,_,_,hy,roundIn_of_wpIn (F:=Fence.wide) trivial ?_⟩;rw[E] at hy
  -- the assignment tg the loop's left sides
  have b5:(a4 u.length).al C:=d5 C (a7 C (.inl ⟨m1,d6⟩)) (l1 C d6);have l4:=Yg (ws:=[]) l2 n8;have o3:TRel (envOf G H0 a4 c5 W) N (Wz ps.toList (I2 (u.length+1) (a0 (an.mu z))) (base [] an.objs l)) { tmps:=(ps.zip ⟨us⟩).foldl (fun tmps (t,a)=>tmps.setIfInBounds t a) a.tmps,defers:=[] }:=by
   obtain ⟨h1,h2⟩:=Qw (N:=N) (ps:=ps.toList) l4.size l4.rel k3 (fun p hp=>by
    have:=fG.1 l7 p hp
    simpa using this) (by rw[k3.length,m9];simp)
   have e:(ps.zip ⟨us⟩).foldl (fun tmps (t,a)=>tmps.setIfInBounds t a) a.tmps=(ps.toList.zip us).foldl (fun tm (p:Nat × Value)=>tm.setIfInBounds p.1 p.2) a.tmps:=by
    rw[<- Array.foldl_toList];simp only[Array.toList_zip]
   exact ⟨by rw[e];exact h1,fun t=>by rw[e];exact h2 t⟩
  have k9:RoundOK (Fence.wide.inRound C) (envOf G H0 a4 c5 W):=fun l' j'=>by
   have:C=l':=by simpa [Fence.inRound] using j'
   subst this;exact ⟨xR e7 a8 b5,_,hr⟩
  refine wpIn_mono (p7 B (F:=Fence.wide.inRound C) (n:=0) ⟨some C,rfl⟩ e7 o3 k9 b9) ?_;rintro e a1 W1 ⟨l',Hx,locx,verx,hK,hIx,hTx,hxx,hsx,hmx⟩;cases e with
  | normal=>
   have m4:W1.heap[C]? =some (.loop (a2 .ready none)):=hxx.keep C _ (xR e7 a8 b5) hr rfl;have c3:=fun b s=>hxx.gho u.length b ⟨a8,s⟩;have d1:Hx[u.length]? =some .gone:=(c3 C b5).1.1;have p9:u.length<H0.length:=(aK.1 a8).1;have l9:∀b,(locx u.length).al b->(a4 u.length).al b:=fun b s=>(hxx.gho' u.length b (eJ a8 rfl) ⟨d1,s⟩).2;refine ⟨_,run_beginRound m4 (by rw[<- E];rfl),?_⟩;obtain ⟨W2,c8⟩:∃W2,W1.putObj C (.loop { a2 .ready none with state:=.busy })=W2:=⟨_,rfl⟩;rw[c8];have m2:C<W1.heap.size:=(aH.1 m4).1;have m5:W2.heap[C]? =some (.loop { a2 .ready none with state:=.busy }):=by rw[<- c8];exact World.putObj_heap_same m2
   have b8:∀b,b≠C->W2.heap[b]? =W1.heap[b]? :=fun b s=>by rw[<- c8];exact World.putObj_heap_other s
   obtain ⟨d4,a'⟩:=alien hIx d1 (w':=W2) (by rw[<- c8];rfl) (by rw[<- c8];rfl) (by rw[<- c8];rfl) (by rw[<- c8];simp) (locx u.length).al (fun b s=>.inl s) (fun b s g2=>b8 b (fun e=>g2 (by subst e;exact (c3 b b5).1.2)));have n2:=i8.trans (hxx.mono k7);have n3:=ExtO.alien n2 a' (fun nm hn=>iN hn) (fun b s=>b8 b (fun e=>by have l6:b<w.heap.size:=s;omega)) d8 (fun nm g3=>⟨rfl,dJ _ _ _ (tW g3)⟩);have k':RoundOK (Fence.wide.inRound C) (envOf G Hx (sV locx u.length { locx u.length with al:=(locx u.length).al }) (sV verx u.length (verx u.length+1)) W2):=fun l' j'=>by
    have:C=l':=by simpa [Fence.inRound] using j'
    subst this;exact ⟨xR d4 d1 (by rw[bF];exact (c3 _ b5).1.2),_,m5⟩
   refine wpIn_mono (p8 B (F:=Fence.wide.inRound C) (n:=0) ⟨some C,rfl⟩ d4 (hTx.ext0 a') k' hK) ?_;rintro e a3 W3 ⟨l3,H3,loc3,ver3,a6,h7,hT3,b1,hs3,hm3⟩;obtain ⟨o5,a6⟩:=bD a6;have i7:=(and2 o5).2;have e':(sV locx u.length { locx u.length with al:=(locx u.length).al } u.length).al=(locx u.length).al:=by rw[bF]
   have h8:=fun b (s:(locx u.length).al b)=>b1.gho u.length b ⟨d1,by rw[e'];exact s⟩;have d0:(locx u.length).al C:=(c3 C b5).1.2;have j7:H3[u.length]? =some .gone:=(h8 C d0).1.1;have m0:∀b,(loc3 u.length).al b->(locx u.length).al b:=fun b s=>by
    have:=(b1.gho' u.length b (eJ d1 rfl) ⟨j7,s⟩).2;rwa [e'] at this
   have m6:W3.heap[C]? =some (.loop { a2 .ready none with state:=.busy }):=b1.keep C _ (xR d4 d1 (by rw[bF];exact d0)) m5 rfl;have m3:C<W3.heap.size:=(aH.1 m6).1;have n5:=n3.trans (b1.mono k8)
   -- what was lent is handed back
   obtain ⟨b6,k5,k4,j8,g1,i5,l0,j1⟩:=f8 (dL A B x++dL A B y) H3 loc3 ver3 W3 h7 j7 i7 (fun hm=>by
    rw[mem_append] at hm;have o7:mem (u.length+1) (dL A B x)=false:=by
     cases e:mem (u.length+1) (dL A B x) with
     | false=>rfl
     | true=>rw[e] at hm;cases hm
    have o8:mem (u.length+1) (dL A B y)=false:=by
     cases e:mem (u.length+1) (dL A B y) with
     | false=>rfl
     | true=>rw[e] at hm;simp at hm
    exact ((hxx.vs o7).trans (a'.vs _)).trans (b1.vs o8))
   obtain ⟨Hb,h6⟩:∃Hb,yZ (a0 (an.mu z)) (u.length+1) H3=Hb:=⟨_,rfl⟩;rw[h6] at k5 k4 j8 g1;have j2:(b6 u.length).al C:=i5 C (h8 C d0).1.2;have n7:ExtO OD (envOf G u loc ver w) (envOf G Hb b6 ver3 W3):=ExtO.alien n5 k4 (fun nm hn=>iN hn) (fun _ _=>rfl) d8 g1
   -- the end of a round, by whatever way
   have fin:∀(Y:Option Code) (b:Bool),Y.isNone=b->
     (∀b2 c6 W4,Inv G Hb b2 c6 W4->ExtO OD (envOf G u loc ver w) (envOf G Hb b2 c6 W4)->W4.heap[C]? =some (.loop (a2 (if Y.isNone then .ready else .done) Y))->(b2 u.length).al=(b6 u.length).al->
      (∀D∈Ds,W4.heap[D]? =some (.deferred (some [])))->w1.heap.size<=W4.heap.size->RJ G K an OD u loc ver w w1 l C Ds a2 (if b=true then some (an.mu z+1) else none) M W4)->
     ∃v w',(Instr.endRound C Y).run P W3= .ok v w'/\∃b,Ending.returned v= .returned (.bool b)/\RJ G K an OD u loc ver w w1 l C Ds a2 (if b=true then some (an.mu z+1) else none) M w'/\Kept (fun c=>qW G u loc w c\/M c) W w':=by
    intro Y b o6 hJ;have p0:=run_endRound (P:=P) Y m6;refine ⟨_,_,p0,b,by rw[o6],?_⟩;obtain ⟨W4,c'⟩:∃W4,W3.putObj C (.loop { { a2 .ready none with state:=.busy } with state:=if Y.isNone then .ready else .done,pending:=Y })=W4:=⟨_,rfl⟩;rw[c'];have g5:W4.heap[C]? =some (.loop (a2 (if Y.isNone then .ready else .done) Y)):=by
     rw[<- c',World.putObj_heap_same m3,<- E];rfl
    have a9:∀b,b≠C->W4.heap[b]? =W3.heap[b]? :=fun b s=>by rw[<- c'];exact World.putObj_heap_other s
    have h':W4.heap.size=W3.heap.size:=by rw[<- c'];simp
    obtain ⟨c0,b'⟩:=alien k5 j8 (w':=W4) (by rw[<- c'];rfl) (by rw[<- c'];rfl) (by rw[<- c'];rfl) om (b6 u.length).al (fun b s=>.inl s) (fun b s g2=>a9 b (fun e=>g2 (by subst e;exact j2)));have n6:=ExtO.alien n7 b' (fun nm hn=>iN hn) (fun b s=>a9 b (fun e=>by have l6:b<w.heap.size:=s;omega)) d8 (fun nm g3=>⟨rfl,dJ _ _ _ (tW g3)⟩);have p':W.heap.size<=W3.heap.size:=by
     have h1:W.heap.size<=W1.heap.size:=hxx.size;have h2:W1.heap.size<=W2.heap.size:=a'.size;have h3:W2.heap.size<=W3.heap.size:=b1.size;omega
    have n9:∀D∈Ds,W4.heap[D]? =some (.deferred (some [])):=fun D b7=>by
     have d9:=(d' D b7).2.1;have i4:(a4 u.length).al D:=d5 D (a7 D (.inl ⟨(d' D b7).1,d3 D b7⟩)) (l1 D (d3 D b7));have h1:=hxx.keep D _ (xR e7 a8 i4) (hD D b7) rfl;have h2:=(b8 D d9).trans h1;have h3:=b1.keep D _ (xR d4 d1 (by rw[bF];exact (c3 D i4).1.2)) h2 rfl;exact (a9 D d9).trans h3
    refine ⟨hJ _ _ W4 c0 n6 g5 (by rw[bF]) n9 om,c0.os.trans a5.os.symm,c0.tape.trans a5.tape.symm,c0.output.trans a5.output.symm,om,fun b s q0=>?_⟩;rcases s with s | s
    ·have e0:(envOf G H0 a4 c5 W).ok b:=i8.ok b s;have e1:=hxx.blk b e0;have e2:=a'.blk b (hxx.ok b e0);have e3:=b1.blk b (a'.ok b (hxx.ok b e0));have e4:=b'.blk b (k4.ok b (b1.ok b (a'.ok b (hxx.ok b e0))));exact ((e4.trans e3).trans e2).trans e1
    have d9:b≠C:=fun e=>by have:=hM b s;omega
    cases hs:S b with
    | some x=>
     have h1:=(l0 b x hs).2;have h2:=(hS b x hs).2;exact ((a9 b d9).trans h1).trans h2.symm
    | none=>
     have l5:=d5 b (a7 b (.inr s)) hs;have e1:=(c3 b l5).2;have e3:=(h8 b (c3 b l5).1.2).2;exact (((a9 b d9).trans e3).trans (b8 b d9)).trans e1
   have i2:∀b,(w.heap.size<=b/\b<w1.heap.size)\/M b->(b6 u.length).al b:=fun b s=>by
    cases hs:S b with
    | some x=>exact (l0 b x hs).1
    | none=>exact i5 b (h8 b (c3 b (d5 b (a7 b s) hs)).1.2).1.2
   have i3:∀b,(b6 u.length).al b->w.heap.size<=b:=fun b s=>by
    rcases j1 b s with s | s
    ·exact b4 b (j0 b (l9 b (m0 b s)))
    have:=hM b s;have:=X.size;omega
   have g':∀(e:Exit) (cj:Code),Yf e=some cj->K e (base [] OD l) Hb->∃v w',(Instr.endRound C (some cj)).run P W3= .ok v w'/\∃b,Ending.returned v= .returned (.bool b)/\RJ G K an OD u loc ver w w1 l C Ds a2 (if b=true then some (an.mu z+1) else none) M w'/\Kept (fun c=>qW G u loc w c\/M c) W w':=by
    intro e cj hj o1;refine fin (some cj) false rfl fun b2 c6 W4 c0 b' g5 c1 i9 h'=>?_;exact ⟨hM,i9,h',Hb,b2,c6,c0,j8,fun b s=>by rw[c1];exact i2 b s,fun b s=>i3 b (by rw[<- c1];exact s),b',e,cj,hj,o1,g5⟩
   cases e with
   | normal=>
    obtain ⟨z',p6,f0⟩:=a6;refine fin none true rfl fun b2 c6 W4 c0 b' g5 c1 i9 h'=>?_;have J:=(c2 z').1;have hS:=GJ i7 (GG f0.ent.2 (by rw[J];exact j7) (by rw[J];exact h9)) (by simp[J]);rw[h6] at hS;obtain ⟨i',g4⟩:=uM c0 (by simp;omega) hS
    have g8:=uO b' (by simp;omega) (fun nm k1=>by
     have h1:=uN (c2 z').2 k1
     rw[bN (aK.1 h1).1];exact h1) m' hS g4
    exact ⟨hM,i9,h',_,b2,_,i',by rw[<- J];simp,fun b s=>by rw[c1];exact i2 b s,fun b s=>i3 b (by rw[<- c1];exact s),g8.mono e9,z',p6,f0.pre,rfl,g8,g5⟩
   | ret=>
    have a6:nG (base [] ((dL A B x++dL A B y)++an.objs) l) fun l'=>dQ (yZ (a0 (an.mu z)) (u.length+1) H3) fun H3=>K .ret l' H3:=a6;rw[c7,nZ,cD,h6] at a6;exact g' .ret _ rfl a6
   | exit id=>
    have a6:nG (base [] ((dL A B x++dL A B y)++an.objs) l) fun l'=>dQ (yZ (a0 (an.mu z)) (u.length+1) H3) fun H3=>K (.exit id) l' H3:=a6;rw[c7,nZ,cD,h6] at a6;exact g' (.exit id) _ rfl a6
   | _=>cases a6
  | _=>cases hK
 -- ahead of the first round
 obtain ⟨z,hz,f0⟩:=i1.init;have J:=(c2 z).1;have hS:=GH f0.ent.2 J (by rw[J];exact h9);obtain ⟨i',g4⟩:=uM o0 (by simp;omega) hS;have n1:=p5.toO OD
 have g8:=uO n1 (by simp;omega) (fun nm k1=>by
  have h1:=uN (c2 z).2 k1
  rw[bN (aK.1 h1).1];exact h1) m' hS g4
 exact ⟨fun b s=>s.elim,fun D hD=>(d' D hD).2.2,aI _,_,_,_,i',by rw[<- J];simp,fun b s=>by
   rw[bF];rcases s with s | s
   ·exact s
   exact s.elim,fun b s=>by rw[bF] at s;exact s.1,g8.mono e9,z,hz,f0.pre,rfl,g8,g6⟩
theorem Yh (hY:COK P G){Γ:List Con}(hΓ:∀c∈Γ,aM P c){A:Anns}{g:Operand}{ps:Array Tmp}{x y:Code}(a9:∀B,Qt P G N Γ A B x)(a':∀B,Qt P G N Γ A B y)(B:Nat):Qt P G N Γ A B (.rangeFunc g ps x y):=by
 intro F n hF H loc ver w l a K hI hT a3 h;simp only[nH,rD,uK,rE,oY,rF,jX] at h;split at h;case h_2=>cases h
 rename_i f Y a6;rcases Hz h with ⟨an,hA,h⟩ | h;case inr=>cases h
 split at h
 ·cases h
 rename_i c hc;obtain ⟨a7,rfl⟩:=Gi hc;obtain ⟨Z,a5,_,_⟩:=hΓ c a7;split at h
 ·
  rename_i nk o;obtain ⟨r,W,m⟩:=a5 _ _ h;rw[kF] at W;split at W;case h_2=>cases W
  rename_i nn z;obtain ⟨a0,b1⟩:=bD W;obtain ⟨a8,b2⟩:=b1;have a0:mem nk.1 an.objs=false:=by simpa using a0
  have m:I7 P c.f _ nn z:=m;obtain ⟨nm,k⟩:=nk;unfold BK at o;split at o;case h_2=>cases o
  rename_i b4 k';split at o;case h_2=>cases o
  rename_i j t xs e ho;cases J:Nat.beq j k' with
  | false=>rw[J] at o;cases o
  | true=>
  rw[J] at o;cases o;have J:=bM.1 J;subst J;have s:=oZ hT g;rw[a6] at s;generalize hgval:a.eval g=gv at s;cases s with
  | clo _ _ _ va vb ha hcaps=>
  cases ha;cases hcaps with
  | cons _ v1 _ vs1 h1 h2=>
  cases h2;cases h1 with
  | lelem _ _ b off vs hl hokb hr=>
  cases hl with
  | cons _ u _ us h3 h4=>
  cases h4;obtain ⟨hu,_⟩:=sH hI h3 ho;subst hu;have b3:=hr 0 _ rfl;refine Mw hY a9 a' B hF hI (Ext.refl _) hT a3 hA hgval Z m true (loc nm).toCore (fun w1 D=>⟨rfl,b,off,hokb,?_,rfl⟩) (fun _=>⟨nm,j,a0,rfl,a8⟩) b2;exact (World.cell?_of_block (D.block _ hokb.2.1)).trans b3
 rw[cD,lW] at h;obtain ⟨hb,h⟩:=bD h;obtain ⟨r,W,m⟩:=a5 _ _ h;rw[kF] at W;split at W;case h_2=>cases W
 rename_i nn z;have m:I7 P c.f _ nn z:=m
 -- the state behind the freezing of what the iterator has captured
 obtain ⟨H1,a2⟩:∃H1,jO H [.clo c.f [] Y]=H1:=⟨_,rfl⟩;rw[a2] at hb W m;obtain ⟨C,a1⟩:=sA [.clo c.f [] Y] hI;rw[a2] at C a1;have a4:=hT.ext a1;have s:=oZ a4 g;rw[a6] at s;generalize hgval:a.eval g=gv at s;cases s with
 | clo _ _ _ va vb ha hcaps=>
 cases ha;have X:=pH (H:=H1) (lend:=false) (Ext.refl (envOf G H1 loc ver w)) (fun _ _ _ h=>wO C h) (fun nm k v h=>lZ C h) (fun nm k i v _=>mU nm k i v) (fun nm v h=>rZ C (Ext.refl _) (.inl rfl) h) hcaps;exact Mw hY a9 a' B hF C a1 a4 a3 hA hgval Z m false ⟨none,0,0⟩ (fun w1 D=>RelL.bare (E:=envOf G H1 loc ver w) (E':=iD w1 (qW G H1 loc w)) (fun b _ hb h _=>(D.block _ hb.2.1).trans h) (fun _ h=>h) X hb) (fun h=>by cases h) W
end
end Go.Eng
end
section
namespace Go.Eng
open Go.RowKit
section
variable {P:Program} {G:Ctx} {N:Nat} {H:List HO} {Γ:List Con}
def lk (ops:Array Oper)(o:Oper)(t:Nat):Prop:=Operand.tmp t∈o.op.operands.toList\/∃j b,o.guard=some (j,b)/\(ops[j]?).bind (·.dst)=some t
theorem rM (l:List (Nat × SV)):∀(xs:List Operand) (t:Nat),look (kN l xs) t= .any\/(Operand.tmp t∈xs/\look (kN l xs) t=look l t)
 | [],t=>.inl rfl
 | x::xs,t=>by
  cases x with
  | tmp u=>
   simp only[kN,look];by_cases e:u=t
   ·subst e;rw[iF];right;exact ⟨cQ ..,rfl⟩
   rw[lY e];simp only[cM];rcases rM l xs t with h | ⟨c,f⟩
   ·exact .inl h
   exact .inr ⟨cC _ c,f⟩
  | _=>
   simp only[kN];rcases rM l xs t with h | ⟨c,f⟩
   ·exact .inl h
   exact .inr ⟨cC _ c,f⟩
theorem JH {g:Array Oper}{l:List (Nat × SV)}{o:Oper}{C K:List (Nat × SV)->Prop}(h:vT g.toList l o.guard C K):
  ∃J b,((b=true/\C J)\/(b=false/\K J))/\(∀(E:Env) (t:Nat) (v:Value),Rel E (look l t) v->Rel E (look J t) v)/\
   (∀(E:Env) (a:Act),(∀t,lk g o t->Rel E (look l t) (a.tmps.getD t undef))->Region.wanted o (yielded g a.tmps)=b):=by
 unfold vT at h;cases hg:o.guard with
 | none=>rw[hg] at h;exact ⟨l,true,.inl ⟨rfl,h⟩,fun _ _ _ h=>h,fun _ _ _=>by simp[Region.wanted,hg]⟩
 | some p=>
  obtain ⟨j,c⟩:=p;rw[hg] at h;simp only at h;split at h
  ·cases h
  rename_i t W;have A:(g[j]?).bind (·.dst)=some t:=by simpa using W
  have x:lk g o t:=.inr ⟨j,c,hg,A⟩;have D:∀(b:Bool) (a:Act),a.tmps.getD t undef= .bool b->Region.wanted o (yielded g a.tmps)=(c==b):=by
   intro b a F;have X:=tM A F;cases c<;>cases b<;>simp[Region.wanted,hg,X]
  split at h
  ·rename_i y;refine ⟨l,c,?_,fun _ _ _ h=>h,fun E a f=>?_⟩
   ·cases c with
    | true=>exact .inl ⟨rfl,h⟩
    | false=>exact .inr ⟨rfl,h⟩
   have n:=f t x;rw[y] at n;rw[D true a n.bool_inv];cases c<;>rfl
  ·rename_i y;refine ⟨l, !c,?_,fun _ _ _ h=>h,fun E a f=>?_⟩
   ·cases c with
    | true=>exact .inr ⟨rfl,h⟩
    | false=>exact .inl ⟨rfl,h⟩
   have n:=f t x;rw[y] at n;rw[D false a n.bool_inv];cases c<;>rfl
  ·rename_i p d y;have m:∀(b:Bool),@decide p d=b->∀(E:Env) (u:Nat) (v:Value),Rel E (look l u) v->Rel E (look (put l t (.val (.bool b))) u) v:=by
    intro b F E u v f;rw[qB];by_cases e:u=t
    ·rw[aE e];rw[e,y] at f;cases f;rw[F];exact .val _ trivial
    rw[aD e];exact f
   have z:∀(E:Env) (a:Act),(∀t,lk g o t->Rel E (look l t) (a.tmps.getD t undef))->a.tmps.getD t undef= .bool (@decide p d):=by
    intro E a f;have n:=f t x;rw[y] at n;generalize a.tmps.getD t undef=v at n;cases n;rfl
   by_cases B:p
   ·have s:@decide p d=true:=by simp[B]
    refine ⟨put l t (.val (.bool true)),c,?_,m true s,fun E a f=>?_⟩
    ·cases c with
     | true=>exact .inl ⟨rfl,by have:=h.yes B;rwa [cD] at this⟩
     | false=>exact .inr ⟨rfl,by have:=h.yes B;rwa [cD] at this⟩
    rw[D _ a (z E a f),s];cases c<;>rfl
   have s:@decide p d=false:=by simp[B]
   refine ⟨put l t (.val (.bool false)), !c,?_,m false s,fun E a f=>?_⟩
   ·cases c with
    | true=>exact .inr ⟨rfl,by have:=h.no B;rwa [cD] at this⟩
    | false=>exact .inl ⟨rfl,by have:=h.no B;rwa [cD] at this⟩
   rw[D _ a (z E a f),s];cases c<;>rfl
  ·rename_i y;refine ⟨l,false,.inr ⟨rfl,h⟩,fun _ _ _ h=>h,fun E a f=>?_⟩;have n:=f t x;rw[y] at n;generalize hv:a.tmps.getD t undef=v at n;cases n with
   | tup _ vs hl'=>cases hl';simp[Region.wanted,hg,Cy A hv]
  cases h
theorem OpOK.ex {o:Oper}{a:Act}{w:World}{R:Value->World->Prop}(h:OpOK P Fence.wide o a w R):∃v w',R v w':=by
 cases h with
 | value v w' _ h=>exact ⟨v,w',h⟩
 | skip w' _ h=>exact ⟨_,w',h⟩
 | call f args _ h=>
  obtain ⟨e,w',_,⟨v,_,h⟩,_⟩:=(h 0).2 [] (fun d h=>by cases h);exact ⟨v,w',h⟩
 | yield l args _ h=>
  obtain ⟨_,_,_,_,_,c⟩:=h;obtain ⟨e,w',⟨v,_,h⟩,_⟩:=c.2 default [] (fun d h=>by cases h);exact ⟨v,w',h⟩
theorem pA {o:Oper}{j:Nat}(h:waits o j=true):∃e∈o.after,Region.binds .any e=true/\e.on=j:=by
 obtain ⟨e,c,f⟩:=xG.1 h;obtain ⟨g,m⟩:=and2 f;exact ⟨e,by simpa using c,g,bM.1 m⟩
theorem uB {o:Oper}{i:Nat}(h:Wq i o=true):∀e∈o.after,Region.binds .any e=true->e.on<i:=by
 intro e f c;have:=fG.1 h e (by simpa using f);simpa [c] using this
def late (ops:Array Oper)(m i t:Nat):Prop:=∃j o',j<m/\ops[j]? =some o'/\o'.dst=some t/\waits o' i=true
open Classical in
def Yi (ops:Array Oper)(m:Nat)(wr0 wr:Nat->SV)(i t:Nat):SV:=if late ops m i t then wr0 t else wr t
structure QP (P:Program) (Γ:List Con) (ops:Array Oper) (H:List HO) (N:Nat) (wr:Nat->SV) (sv:SV) (wn:Bool) (o:Oper):Prop where
 want:∀(E:Env) (a:Act),(∀t,lk ops o t->Rel E (wr t) (a.tmps.getD t undef))->Region.wanted o (yielded ops a.tmps)=wn
 run:wn=true->∃lr X,op1 P Γ o lr H (fun s' H'=>Pinned (s'=sv) (H'=H) X)/\∀(t:Nat) (E:Env) (v:Value),(lk ops o t->Rel E (wr t) v)->Rel E (look lr t) v
 skip:wn=false->sv= .tup []
 dst:∀t,o.dst=some t->t<N
theorem Bs {o:Oper}{t:Nat}:Ll o t=true↔o.dst=some t:=by
 unfold Ll;cases o.dst with
 | none=>simp
 | some u=>simp
theorem pO {c:Array Oper}{m i:Nat}{o:Oper}{t:Nat}(h:Ta c.toList m i o t=true){j:Nat}{o':Oper}(f:j<m)(g:c[j]? =some o')(e:o'.dst=some t):(waits o j=true/\j<i)\/waits o' i=true:=by
 have:=fG.1 h j (lL.2 f);simp only[eO,g] at this;rw[Bs.2 e] at this;simpa using this
theorem xS {c:Array Oper}{m i:Nat}{o:Oper}(h:Pf c.toList m i o=true){t:Nat}(f:lk c o t):Ta c.toList m i o t=true:=by
 simp only[Pf,aG] at h;rcases f with f | ⟨j,b,g,n⟩
 ·have:=fG.1 h.1 _ f;exact this
 have:=h.2.1;rw[g] at this;simp only[DP] at this;have e:(c.toList[j]?).bind (·.dst)=some t:=by simpa using n
 rw[e] at this;exact this
theorem wQ {c:Array Oper}{m i:Nat}{o:Oper}(h:Pf c.toList m i o=true){t:Nat}(f:o.dst=some t){j:Nat}{o':Oper}(g:j<m)(n:c[j]? =some o')(e:o'.dst=some t):j=i:=by
 simp only[Pf,aG] at h;have:=h.2.2;rw[f] at this;have:=fG.1 this j (lL.2 g);simp only[eO,n] at this;rw[Bs.2 e] at this;simpa using this
theorem virt (hY:COK P G)(hΓ:∀c∈Γ,aM P c){f:Array Oper}{m:Nat}(hq:∀i o,i<m->f[i]? =some o->Pf f.toList m i o=true)(b1:∀i o,f[i]? =some o->Wq i o=true)(a2:Nat->SV){K:List (Nat × SV)->Prop}:∀(J:List Oper) (k:Nat),(f.toList.take m).drop k=J->
  ∀ {loc:Nat->Loc} {ver:Nat->Nat} {w:World} {l:List (Nat × SV)} {a:Act} {wr:Nat->SV},Inv G H loc ver w->TRel (envOf G H loc ver w) N l a->(∀(E:Env) (t:Nat) (v:Value),Rel E (wr t) v->Rel E (look l t) v)->
  (∀t,(∀j o,j<k->f[j]? =some o->o.dst≠some t)->wr t=a2 t)->
  Hy P Γ N f.toList J l H K->
  ∃(g:Nat->SV) (sv:Nat->SV) (wn:Nat->Bool) (lf:List (Nat × SV)),K lf/\(∀(E:Env) (t:Nat) (v:Value),Rel E (g t) v->Rel E (look lf t) v)/\
   (∀t,(∀j o,k<=j->j<m->f[j]? =some o->o.dst≠some t)->g t=wr t)/\
   (∀j o,k<=j->j<m->f[j]? =some o->(∀t,o.dst=some t->g t=sv j)/\QP P Γ f H N (Yi f m a2 g j) (sv j) (wn j) o):=by
 intro J
 induction J with
 | nil=>
  intro k hk loc ver w l a wr hI hT C b2 h;refine ⟨wr,fun _=>.any,fun _=>false,l,h,C,fun _ _=>rfl,fun j o h1 h2 h3=>?_⟩;have:(f.toList.take m).length<=k:=sN.1 hk;have hj:=(aH.1 h3).1;simp at this;omega
 | cons o r ih=>
  intro k hk loc ver w l a wr hI hT C b2 h;have a1:(f.toList.take m)[k]? =some o:=by
   have:((f.toList.take m).drop k)[0]? =some o:=by rw[hk];rfl
   rw[aX] at this;simpa using this
  have a0:k<m:=by
   rw[aL] at a1;split at a1
   ·assumption
   cases a1
  have Y:f[k]? =some o:=by
   rw[aL,aE a0] at a1;simpa using a1
  have c7:(f.toList.take m).drop (k+1)=r:=by rw[<- dW,hk];rfl
  have b8:=hq k o a0 Y;simp only[BG] at h;obtain ⟨l',b,d1,D,b3⟩:=JH h;have a8:TRel (envOf G H loc ver w) N l' a:=⟨hT.size,fun t=>D _ t _ (hT.rel t)⟩;have A:∀(E:Env) (t:Nat) (v:Value),Rel E (wr t) v->Rel E (look l' t) v:=fun E t v h=>D E t v (C E t v h)
  -- behind this operation, whatever it has left
  have a6:∀ {y:Nat->Loc} {z:Nat->Nat} {w':World} {s:SV} {v:Value},Inv G H y z w'->Ext (envOf G H loc ver w) (envOf G H y z w')->Rel (envOf G H y z w') s v->
    wC N l' o.dst s (fun Z=>Hy P Γ N f.toList r Z H K)->(b=false->s= .tup [])->
    (b=true->∃X,op1 P Γ o (kN l' o.op.operands.toList) H (fun s' H'=>Pinned (s'=s) (H'=H) X))->
    ∃(g:Nat->SV) (sv:Nat->SV) (wn:Nat->Bool) (lf:List (Nat × SV)),K lf/\(∀(E:Env) (t:Nat) (v:Value),Rel E (g t) v->Rel E (look lf t) v)/\
     (∀t,(∀j o,k<=j->j<m->f[j]? =some o->o.dst≠some t)->g t=wr t)/\
     (∀j o,k<=j->j<m->f[j]? =some o->(∀t,o.dst=some t->g t=sv j)/\QP P Γ f H N (Yi f m a2 g j) (sv j) (wn j) o):=by
   intro y z w' s v a7 a4 c' cA a' c0;obtain ⟨a5,x⟩:∃a5:Nat->SV,a5=fun t=>if o.dst=some t then s else wr t:=⟨_,rfl⟩;have a9:∃Z,Hy P Γ N f.toList r Z H K/\TRel (envOf G H y z w') N Z (a.put o.dst v)/\(∀(E:Env) (t:Nat) (v:Value),Rel E (a5 t) v->Rel E (look Z t) v)/\∀t,o.dst=some t->t<N:=by
    cases B:o.dst with
    | none=>
     rw[B] at cA;refine ⟨l',cA,a8.ext a4,fun E t v h=>?_,fun t h=>by cases h⟩;rw[x] at h;simp only[B] at h;exact A E t v (by simpa using h)
    | some u=>
     rw[B] at cA;obtain ⟨hu,cA⟩:=bD cA;rw[cD] at cA;have c1:u<N:=by simpa using hu
     refine ⟨_,cA,?_,fun E t v h=>?_,fun t h=>by cases h;exact c1⟩
     ·refine ⟨by simp[Act.put];exact hT.size,fun t=>?_⟩;rw[qB,zX a u t v (by rw[hT.size];exact c1)];by_cases e:t=u
      ·rw[aE e,aE e];exact c'
      rw[aD e,aD e];exact (a8.ext a4).rel t
     rw[x] at h;simp only[B] at h;rw[qB];by_cases e:t=u
     ·rw[aE e];rw[aE (by rw[e])] at h;exact h
     rw[aD e];rw[aD (fun e'=>e (by cases e';rfl))] at h;exact A E t v h
   obtain ⟨Z,he,b4,a3,c5⟩:=a9;have d0:∀t,(∀j o,j<k+1->f[j]? =some o->o.dst≠some t)->a5 t=a2 t:=fun t ht=>by
    rw[x];simp only[aD (ht k o (iK k) Y)];exact b2 t fun j o' hj=>ht j o' om
   obtain ⟨g,sv,wn,lf,h1,h2,h3,h4⟩:=ih (k+1) c7 a7 b4 a3 d0 he;have c2:∀t,lk f o t->Yi f m a2 g k t=wr t:=by
    intro t ht;have b':=xS b8 ht;unfold Yi;by_cases hl:late f m k t
    ·rw[aE hl];obtain ⟨j0,o0,g1,g2,g3,g4⟩:=hl;obtain ⟨e,he,hb,d4⟩:=pA g4;have d3:=uB (b1 j0 o0 g2) e he hb;refine (b2 t fun j o' hj n B=>?_).symm;have:=wQ (hq j0 o0 g1 g2) g3 (show j<m by omega) n B;omega
    rw[aD hl];have h5:=h3 t fun j o' b5 W n B=>by
     rcases pO b' W n B with h6 | h6
     ·have:=h6.2;omega
     exact hl ⟨j,o',W,n,B,h6⟩
    rw[h5,x];have:o.dst≠some t:=fun B=>by
     rcases pO b' a0 Y B with h6 | h6
     ·have:=h6.2;omega
     exact hl ⟨k,o,a0,Y,B,h6⟩
    simp only[aD this]
   refine ⟨g,fun j=>if j=k then s else sv j,fun j=>if j=k then b else wn j,lf,h1,h2,fun t ht=>?_,fun j o' b5 W n=>?_⟩
   ·rw[h3 t fun j o' b5 W n=>ht j o' om W n,x];simp only[aD (ht k o (aI _) a0 Y)]
   by_cases e:j=k
   ·subst e;rw[Y] at n;cases n;simp only[if_true];refine ⟨fun t B=>?_,⟨fun E a hr=>b3 E a fun t ht=>C E t _ (by rw[<- c2 t ht];exact hr t ht),fun hb=>?_,a',c5⟩⟩
    ·rw[h3 t fun j' o' d2 b6 b7 c4=>by have:=wQ b8 B b6 b7 c4;omega,x];simp only[aE B]
    obtain ⟨X,hX⟩:=c0 hb;refine ⟨_,X,hX,fun t E v hr=>?_⟩;rcases rM l' o.op.operands.toList t with h5 | ⟨h5,h6⟩
    ·rw[h5];exact .any v
    rw[h6];have hl:lk f o t:=.inl h5;exact A E t v (by rw[<- c2 t hl];exact hr hl)
   simp only[aD e];exact h4 j o' om W n
  rcases d1 with ⟨rfl,hy⟩ | ⟨rfl,hn⟩
  ·obtain ⟨s,hs⟩:=hy.ex;rw[cD] at hs
   have c3:TRel (envOf G H loc ver w) N (kN l' o.op.operands.toList) a:=⟨hT.size,fun t=>by
    rcases rM l' o.op.operands.toList t with h5 | ⟨h5,h6⟩
    ·rw[h5];exact .any _
    rw[h6];exact a8.rel t⟩
   obtain ⟨_,b9⟩:=rK (F:=Fence.wide) hY hΓ ⟨none,rfl⟩ hI c3 hs;obtain ⟨v,w',s',H',y,z,hp,a7,c8,a4⟩:=b9.ex;obtain ⟨rfl,rfl,c6⟩:=hp;exact a6 a7 a4 c8 c6 (fun h=>by cases h) (fun _=>⟨_,hs⟩)
  exact a6 hI (Ext.refl _) (.tup [] [] .nil) hn (fun _=>rfl) (fun h=>by cases h)
end
end Go.Eng
end
section
namespace Go.Eng
section
variable {P:Program}
theorem GL {F:Fence}{n:Nat}{o:Oper}{a u:Act}{K y:Act->World->Prop}{Q:Exit->Act->World->Prop}(m:∀e a w,Q e a w->e= .normal)(s:∀v w,y (u.put o.dst v) w->K (a.put o.dst v) w)(z:∀d v w,y ({ u with defers:=d::u.defers }.put o.dst v) w->K ({ a with defers:=d::a.defers }.put o.dst v) w){r:Result Next}(f:o.uponIn F n P u y Q r):o.uponIn F n P a K Q r:=by
 cases r with
 | ok x w'=>
  cases x<;>simp only[Oper.uponIn] at f ⊢;case value=>exact s _ _ f
  case skip=>exact s _ _ f
  case defer=>exact z _ _ _ f
  case enter=>exact ⟨f.1,CallsIn.mono f.2 (fun e A g=>by
   cases e with
   | returned v=>exact s _ _ g
   | panicked c=>exact absurd (m _ _ _ g) si
   | outgrown=>exact g)⟩
  case row=>exact ⟨f.1,RowsIn.mono f.2 (fun _ _ g=>s _ _ g)⟩
  case round=>exact ⟨f.1,RoundIn.mono f.2 (fun e A g=>by
   cases e with
   | returned v=>exact s _ _ g
   | panicked c=>exact absurd (m _ _ _ g) si
   | outgrown=>exact g)⟩
  all_goals exact f
 | halt x w'=>
  cases x<;>simp only[Oper.uponIn] at f ⊢;case panic=>exact absurd (m _ _ _ f) si
  all_goals exact f
theorem B5 {F:Fence}{n:Nat}{o:Oper}{a:Act}{K z:Act->World->Prop}{Q u:Exit->Act->World->Prop}(s:∀e a w,Q e a w->u e a w)(m:∀a w,K a w->z a w){r:Result Next}(f:o.uponIn F n P a K Q r):o.uponIn F n P a z u r:=by
 have A:LetsOut Q->LetsOut u:=fun ⟨a,w,h⟩=>⟨a,w,s _ _ _ h⟩;cases r with
 | ok x w'=>
  cases x<;>simp only[Oper.uponIn] at f ⊢;case value=>exact m _ _ f
  case skip=>exact m _ _ f
  case defer=>exact m _ _ f
  case enter=>exact ⟨f.1,CallsIn.mono f.2 (fun e y g=>by
   cases e with
   | returned v=>exact m _ _ g
   | panicked c=>exact s _ _ _ g
   | outgrown=>exact A g)⟩
  case row=>exact ⟨f.1,RowsIn.mono f.2 (fun _ _ g=>m _ _ g)⟩
  case round=>exact ⟨f.1,RoundIn.mono f.2 (fun e y g=>by
   cases e with
   | returned v=>exact m _ _ g
   | panicked c=>exact s _ _ _ g
   | outgrown=>exact A g)⟩
  all_goals exact f
 | halt x w'=>
  cases x<;>simp only[Oper.uponIn] at f ⊢;case panic=>exact s _ _ _ f
  all_goals exact f
theorem Bt {F:Fence}{n:Nat}{m:Array Oper}{Q x:Exit->Act->World->Prop}(s:∀e a w,Q e a w->x e a w):∀(g:Nat) (c:Array Bool) (a:Act) (w:World),wpAnyIn F n P .any m Q g c a w->wpAnyIn F n P .any m x g c a w
 | 0,_,_,_,h=>⟨h.1,s _ _ _ h.2⟩
 | f+1,c,a,w,h=>by
  refine ⟨fun y=>s _ _ _ (h.1 y),fun i hi=>?_⟩;have:=h.2 i hi;unfold wpOpIn at this ⊢;cases ho:m[i]? with
  | none=>rw[ho] at this;exact Bt s f _ _ _ this
  | some o=>
   rw[ho] at this;simp only at this ⊢;split
   ·rename_i u;rw[aE u] at this;exact ⟨this.1,B5 s (fun a w h=>Bt s f _ _ _ h) this.2⟩
   rename_i u;rw[aD u] at this;exact ⟨this.1,Bt s f _ _ _ this.2⟩
theorem D9 {a:Act}{t:Nat}{v:Value}{u:Nat}(h:u≠t):(a.put (some t) v).tmps.getD u undef=a.tmps.getD u undef:=by
 simp only[Act.put,bQ,cS];rw[aD (Ne.symm h)]
theorem JL {a:Act}{t:Nat}{v:Value}{d:Option Nat}{u:Value}(h:d≠some t):(a.put (some t) v).put d u=(a.put d u).put (some t) v:=by
 cases d with
 | none=>rfl
 | some d=>
  have f:d≠t:=fun e=>h (by rw[e]);simp only[Act.put];congr 1
  apply vA;intro i;simp only[cS,Array.size_setIfInBounds];by_cases c:d=i
  ·subst c;simp[Ne.symm f]
  by_cases g:t=i
  ·subst g;simp[c]
  simp[c,g]
theorem Yr {l:Array Bool}{i j:Nat}:(l.setIfInBounds i true).setIfInBounds j true=(l.setIfInBounds j true).setIfInBounds i true:=by
 apply vA;intro k;simp only[cS,Array.size_setIfInBounds];by_cases c:i=k<;>by_cases e:j=k<;>simp[c,e]
theorem nN {c:Array Bool}{i:Nat}(hi:c.getD i true=false):(c.setIfInBounds i true).getD i false=true:=by
 rw[bQ] at hi ⊢;rw[cS];by_cases h:i<c.size
 ·simp[h]
 rw[Array.getElem?_eq_none om] at hi;simp at hi
structure Free (ops:Array Oper) (i:Nat) (o:Oper) (x:Operand) (t:Nat):Prop where
 at_:ops[i]? =some o
 op:pureArg o.op=some x
 guard:o.guard=none
 dst:o.dst=some t
 only:∀(j:Nat) (o':Oper),j≠i->ops[j]? =some o'->o'.dst≠some t
 src:∀(j:Nat) (o':Oper),ops[j]? =some o'->waits o j=true\/∀u,x= .tmp u->o'.dst≠some u
 readers:∀(j:Nat) (o':Oper),j≠i->ops[j]? =some o'->lk ops o' t->waits o' i=true
 nosel:∀(j:Nat) (o':Oper),ops[j]? =some o'->(∀cs b,o'.op≠ .select cs b)/\∀c,o'.op≠ .defer c
theorem Cz {o:Oper}{x:Operand}(h:pureArg o.op=some x):∀c,o.op≠ .defer c:=fun c e=>by rw[e] at h;cases h
theorem QS {F:Fence}(hF:∀f,F.fn f){n:Nat}{m:Array Oper}{Q:Exit->Act->World->Prop}(a7:∀e a w,Q e a w->e= .normal){i:Nat}{o:Oper}{x:Operand}{t:Nat}(B:Free m i o x t){vx v0:Value}(H0:∀(ρ:Operand->Value) (w:World),ρ x=vx->(execOp ρ o).run P w= .ok (.value v0) w):
  ∀(E:Nat) (c:Array Bool) (a:Act) (w:World),c.size=m.size->c.getD i true=false->(∀e∈o.after,Region.binds .any e=true->c.getD e.on false=true)->a.eval x=vx->wpAnyIn F n P .any m Q E (c.setIfInBounds i true) (a.put (some t) v0) w->wpAnyIn F n P .any m Q (E+1) c a w:=by
 intro E
 induction E with
 | zero=>
  intro c a w Z hi C K h;have W:i∈Region.ready .any m c:=mem_ready.2 ⟨hi,o,B.at_,C⟩;refine ⟨fun hr=>(by rw[hr] at W;cases W),fun j hj=>?_⟩;by_cases D:j=i
  ·subst D;unfold wpOpIn;simp only[B.at_];rw[aE (by simp[Region.wanted,B.guard])];refine ⟨fun f _=>hF f,?_⟩;have e1:(o.semAt F.round a.eval).run P w= .ok (.value v0) w:=by
    rw[Oper.semAt_eq _ _ _ (Cz B.op)];exact H0 a.eval w K
   rw[e1,Oper.uponIn_value,B.dst];exact h
  obtain ⟨X,z,A,h2⟩:=mem_ready.1 hj;exfalso
  have:j∈Region.ready .any m (c.setIfInBounds i true):=mem_ready.2 ⟨by rw[getD_set_ne true (Ne.symm D)];exact X,z,A,fun e J hb=>by
   by_cases s:e.on=i
   ·rw[s];have Y:=(aH.1 B.at_).1;simp[bQ,cS,Z,Y]
   rw[getD_set_ne false (Ne.symm s)];exact h2 e J hb⟩
  rw[h.1] at this;cases this
 | succ f ih=>
  intro c a w Z hi C K h;have W:i∈Region.ready .any m c:=mem_ready.2 ⟨hi,o,B.at_,C⟩;refine ⟨fun hr=>(by rw[hr] at W;cases W),fun j hj=>?_⟩;by_cases D:j=i
  ·subst D;unfold wpOpIn;simp only[B.at_];rw[aE (by simp[Region.wanted,B.guard])];refine ⟨fun f _=>hF f,?_⟩;have e1:(o.semAt F.round a.eval).run P w= .ok (.value v0) w:=by
    rw[Oper.semAt_eq _ _ _ (Cz B.op)];exact H0 a.eval w K
   rw[e1,Oper.uponIn_value,B.dst];exact h
  obtain ⟨X,z,A,h2⟩:=mem_ready.1 hj
  have b1:j∈Region.ready .any m (c.setIfInBounds i true):=mem_ready.2 ⟨by rw[getD_set_ne true (Ne.symm D)];exact X,z,A,fun e J hb=>by
   by_cases s:e.on=i
   ·rw[s];have Y:=(aH.1 B.at_).1;simp[bQ,cS,Z,Y]
   rw[getD_set_ne false (Ne.symm s)];exact h2 e J hb⟩
  have g:=h.2 j b1;have Y:=(aH.1 B.at_).1
  -- it does not read what the move writes
  have a3:¬lk m z t:=fun hl=>by
   obtain ⟨e,J⟩:=xG.1 (B.readers j z D A hl);obtain ⟨a0,s⟩:=J;simp only[aG] at s;have:=h2 e (by simpa using a0) s.1;rw[Nat.eq_of_beq_eq_true s.2] at this;rw[bQ] at this hi;rw[oH om] at this hi;simp at this hi;rw[this] at hi;cases hi
  have a':z.dst≠some t:=B.only j z D A;have a5:∀u,x= .tmp u->z.dst≠some u:=(B.src j z A).resolve_left fun hw=>by
   obtain ⟨e,J⟩:=xG.1 hw;obtain ⟨a0,s⟩:=J;simp only[aG] at s;have:=C e (by simpa using a0) s.1;rw[Nat.eq_of_beq_eq_true s.2] at this;rw[bQ] at this X;have b4:=(aH.1 A).1;rw[oH om] at this X;simp at this X;rw[this] at X;cases X
  have hv:∀d u,(∀e,x= .tmp e->d≠some e)->∀a:Act,(a.put d u).eval x=a.eval x:=by
   intro d u hd a;cases x with
   | tmp e=>
    cases d with
    | none=>rfl
    | some d=>exact D9 (a:=a) (t:=d) (v:=u) (u:=e) fun J=>hd e rfl (by rw[J])
   | _=>cases d<;>rfl
  have b2:∀y∈z.op.operands,(a.put (some t) v0).eval y=a.eval y:=by
   intro y hy;cases y with
   | tmp e=>exact D9 fun J=>a3 (.inl (by subst J;simpa using hy))
   | _=>rfl
  have a1:Region.wanted z (yielded m (a.put (some t) v0).tmps)=Region.wanted z (yielded m a.tmps):=by
   unfold Region.wanted;cases hg:z.guard with
   | none=>rfl
   | some p=>
    obtain ⟨q,a6⟩:=p;simp only;congr 1
    unfold yielded;cases hq:(m[q]?).bind (·.dst) with
    | none=>rfl
    | some u=>
     have b3:u≠t:=fun e=>a3 (.inr ⟨q,a6,hg,by rw[hq,e]⟩);simp only[oD,Act.put,cS];rw[aD (Ne.symm b3)]
  have next:∀(b:Act) (u:Value) (w:World),b.eval x=vx->wpAnyIn F n P .any m Q f ((c.setIfInBounds i true).setIfInBounds j true) ((b.put (some t) v0).put z.dst u) w->wpAnyIn F n P .any m Q (f+1) (c.setIfInBounds j true) (b.put z.dst u) w:=by
   intro b u w a8 hb;refine ih (c.setIfInBounds j true) (b.put z.dst u) w (by simpa using Z) (by rw[getD_set_ne true D];exact hi) (fun e J a9=>?_) (by rw[hv z.dst u a5 b,a8]) ?_
   ·by_cases a2:e.on=j
    ·rw[a2];exact nN X
    rw[getD_set_ne false (Ne.symm a2)];exact C e J a9
   rw[<- JL a',<- Yr];exact hb
  unfold wpOpIn at g ⊢;simp only[A] at g ⊢;rw[a1] at g;split
  ·rename_i hw;rw[aE hw] at g;refine ⟨fun f _=>hF f,?_⟩;have a4:=g.2;have e1:∀ρ,z.semAt F.round ρ=execOp ρ z:=fun ρ=>Oper.semAt_eq _ _ _ (B.nosel j z A).2;rw[e1,execOp_congr z (B.nosel j z A).1 b2] at a4;rw[e1]
   exact GL a7 (fun v w hk=>next a v w K hk) (fun d v w hk=>by
    have:=next { a with defers:=d::a.defers } v w K;refine this ?_
    exact hk) a4
  rename_i hw;rw[aD hw] at g;exact ⟨fun f _=>hF f,next a undef w K g.2⟩
end
end Go.Eng
end
section
namespace Go.Eng
open Go.RowKit
section
variable {P:Program} {G:Ctx} {N:Nat} {Γ:List Con}
theorem pP {c:Array Oper}{p:Nat->Oper->Bool}{n:Nat}(h:Te c.toList p n=true){i:Nat}{o:Oper}(hi:i<n)(e:c[i]? =some o):p i o=true:=by
 have:=fG.1 h i (lL.2 hi);simpa [eO,e] using this
def AV (listed:Array Bool):Nat->Nat
 | 0=>0
 | n+1=>AV listed n+(if listed.getD n true=false then 1 else 0)
theorem Tx {c:Array Bool}{i:Nat}(hi:c.getD i true=false):∀n,AV (c.setIfInBounds i true) n+(if i<n then 1 else 0)=AV c n
 | 0=>rfl
 | n+1=>by
  have g:=Tx hi n;simp only[AV];by_cases e:i=n
  ·subst e;have:(c.setIfInBounds i true).getD i true=true:=by
    rw[bQ,cS];simp;split<;>rfl
   rw[this,hi];simp at g ⊢;omega
  rw[getD_set_ne true e];have:(if i<n+1 then 1 else 0)=(if i<n then 1 else 0):=by
   by_cases h:i<n
   ·simp[h];omega
   have f:¬i<n+1:=om;simp[h,f]
  omega
theorem jB {c:Array Bool}{i:Nat}(h:i<c.size):c.getD i true=c.getD i false:=by
 simp[bQ,oH h]
theorem Qy {o:List Nat}{j:Nat}:∀(l:List Edge) (c:Nat),Nat.testBit (l.foldl (fun c e=>bif Region.binds .any e then Nat.lor (Nat.lor c (Nat.shiftLeft 1 e.on)) (o.getD e.on 0) else c) c) j=true->
  Nat.testBit c j=true\/∃e∈l,Region.binds .any e=true/\(e.on=j\/Nat.testBit (o.getD e.on 0) j=true)
 | [],c,h=>.inl h
 | e::l,c,h=>by
  rcases Qy l _ h with g | ⟨s,g,f,n⟩
  ·cases hb:Region.binds .any e with
   | false=>simp only[hb,cM] at g;exact .inl g
   | true=>
    simp only[hb,bP] at g;have m:Nat.testBit ((c ||| (1 <<<e.on)) ||| (o.getD e.on 0)) j=true:=g;simp only[Nat.testBit_or,dA] at m;rcases m with (f | f) | f
    ·exact .inl f
    ·refine .inr ⟨e,cQ,hb,.inl ?_⟩;rw[Nat.testBit_shiftLeft] at f;simp only[aG,qO] at f;have n:=f.2;by_cases x:j-e.on=0
     ·omega
     obtain ⟨q,u⟩:=Nat.exists_eq_succ_of_ne_zero x;rw[u] at n;simp[Nat.testBit_succ] at n
    exact .inr ⟨e,cQ,hb,.inr f⟩
  exact .inr ⟨s,cC _ g,f,n⟩
theorem JJ {f:List Nat}{o:Oper}{j:Nat}(h:Nat.testBit (zJ f o) j=true):∃e∈o.after,Region.binds .any e=true/\(e.on=j\/Nat.testBit (f.getD e.on 0) j=true):=by
 rcases Qy _ _ h with c | ⟨e,c,g⟩
 ·simp at c
 exact ⟨e,by simpa using c,g⟩
def Closed (ops:Array Oper)(L:Nat->Prop):Prop:=∀(i:Nat) (o:Oper),ops[i]? =some o->L i->∀e∈o.after,Region.binds .any e=true->L e.on
theorem My {f:Array Oper}{L:Nat->Prop}(B:Closed f L):∀(g:List Oper) (c:List Nat),f.toList.drop c.length=g->
  (∀i j,Nat.testBit (c.getD i 0) j=true->(∀o,f[i]? =some o->∀e∈o.after,Region.binds .any e=true->L e.on)->L j)->
  (∀i j,Nat.testBit ((oW g c).getD i 0) j=true->(∀o,f[i]? =some o->∀e∈o.after,Region.binds .any e=true->L e.on)->L j)
 | [],c,_,h=>h
 | o::r,c,hd,h=>by
  have D:f[c.length]? =some o:=by
   have:(f.toList.drop c.length)[0]? =some o:=by rw[hd];rfl
   rw[aX] at this;simpa using this
  refine My B r (c++ [zJ c o]) (by rw[aO,dP,<- dW,hd];rfl) ?_;intro i j m A;by_cases hi:i<c.length
  ·have e1:(c++ [zJ c o]).getD i 0=c.getD i 0:=by simp[aB,bN hi]
   rw[e1] at m;exact h i j m A
  by_cases y:i=c.length
  ·subst y;have e1:(c++ [zJ c o]).getD c.length 0=zJ c o:=by simp[aB]
   rw[e1] at m;obtain ⟨e,C,n,s | s⟩:=JJ m
   ·rw[<- s];exact A o D e C n
   exact h e.on j s fun F z E x u=>B e.on F z (A o D e C n) E x u
  have e1:(c++ [zJ c o]).getD i 0=0:=by
   rw[aB,cO (by simp;omega)];rfl
  rw[e1] at m;simp at m
theorem vK {c:Array Oper}{L:Nat->Prop}(m:Closed c L){i j:Nat}{o:Oper}(n:c[i]? =some o)(h:oJ (oW c.toList []) i j=true)(s:∀e∈o.after,Region.binds .any e=true->L e.on):L j:=
 My m c.toList [] rfl (fun i j g=>by simp at g) i j h fun o' f=>by rw[n] at f;cases f;exact s
theorem Mz (hY:COK P G)(hΓ:∀c∈Γ,aM P c){F:Fence}(hF:Opn F){n:Nat}{u:Array Oper}(W:∀i o,u[i]? =some o->Wq i o=true){m:Nat}(a4:∀i o,m<=i->u[i]? =some o->∀j,m<=j->j<i->oJ (oW u.toList []) i j=true):
  ∀(y:List Oper) (k:Nat),u.toList.drop k=y->m<=k->∀(x:Nat) (g:Array Bool),g.size=u.size->y.length<=x->(∀j,j<k->g.getD j false=true)->(∀j,k<=j->j<u.size->g.getD j true=false)->
  ∀ {H:List HO} {loc:Nat->Loc} {ver:Nat->Nat} {w:World} {l:List (Nat × SV)} {a:Act} {K:List (Nat × SV)->List HO->Prop} {Q:Exit->Act->World->Prop},
  Inv G H loc ver w->TRel (envOf G H loc ver w) N l a->oQ P Γ N u.toList y l H K->
  (∀l' H' loc' ver' a' w',K l' H'->Inv G H' loc' ver' w'->TRel (envOf G H' loc' ver' w') N l' a'->Ext (envOf G H loc ver w) (envOf G H' loc' ver' w')->Same (u.toList.filterMap (·.dst)) a a'->a'.defers=a.defers->Q .normal a' w')->
  wpAnyIn F n P .any u Q x g a w:=by
 intro y
 induction y with
 | nil=>
  intro k hk a8 x g a5 a0 z E H loc ver w l a K Q hI hT h hQ;have hq:Q .normal a w:=hQ l H loc ver a w h hI hT (Ext.refl _) (Same.refl _ _) rfl;have a1:u.size<=k:=by simpa using sN.1 hk
  have hr:Region.ready .any u g= []:=by
   apply List.eq_nil_iff_forall_not_mem.2;intro j hj;obtain ⟨h1,o,ho,_⟩:=mem_ready.1 hj;have X:=(aH.1 ho).1;rw[jB om,z j om] at h1;cases h1
  cases x with
  | zero=>exact ⟨hr,hq⟩
  | succ f=>exact ⟨fun _=>hq,fun i hi=>by rw[hr] at hi;cases hi⟩
 | cons o r ih=>
  intro k hk a8 x g a5 a0 z E H loc ver w l a K Q hI hT h hQ;have D:u[k]? =some o:=by
   have:(u.toList.drop k)[0]? =some o:=by rw[hk];rfl
   rw[aX] at this;simpa using this
  have a1:=(aH.1 D).1;have b9:u.toList.drop (k+1)=r:=by rw[<- dW,hk];rfl
  have a7:o∈u.toList:=by
   obtain ⟨a6,rfl⟩:=aH.1 D;simp
  cases x with
  | zero=>simp at a0
  | succ f=>
   have b1:k∈Region.ready .any u g:=mem_ready.2 ⟨E k (aI _) a1,o,D,fun e he hb=>z _ (uB (W k o D) e he hb)⟩;refine ⟨fun hr=>(by rw[hr] at b1;cases b1),fun i hi=>?_⟩;obtain ⟨h1,oi,a2,h2⟩:=mem_ready.1 hi;have c4:=(aH.1 a2).1;have b8:i=k:=by
    rcases qM i k with a6 | he | VD
    ·rw[jB om,z i a6] at h1;cases h1
    ·exact he
    have b6:Closed u (fun j=>g.getD j false=true):=fun j oj a9 hj e he hb=>by
     have X:=(aH.1 a9).1;have c5:j<k:=aS fun hn=>by
      have:=E j om X;rw[jB om,hj] at this;cases this
     exact z _ (by have:=uB (W j oj a9) e he hb;omega)
    have:=vK b6 a2 (a4 i oi om a2 k a8 VD) (fun e he hb=>h2 e he hb);rw[<- jB om,E k (aI _) a1] at this;cases this
   subst b8;simp only[Ek] at h;unfold wpOpIn;simp only[D];have J:∀ {H':List HO} {loc':Nat->Loc} {ver':Nat->Nat} {w':World} {l':List (Nat × SV)} {v:Value},Inv G H' loc' ver' w'->TRel (envOf G H' loc' ver' w') N l' (a.put o.dst v)->Ext (envOf G H loc ver w) (envOf G H' loc' ver' w')->
     oQ P Γ N u.toList r l' H' K->wpAnyIn F n P .any u Q f (g.setIfInBounds i true) (a.put o.dst v) w':=by
    intro H' loc' ver' w' l' v Z A Y h';refine ih (i+1) b9 om f _ (by simp[a5]) (by simpa using a0) (fun j hj=>?_) (fun j hj X=>?_) Z A h' ?_
    ·by_cases e:i=j
     ·subst e;exact nN h1
     rw[getD_set_ne false e];exact z j om
    ·rw[getD_set_ne true om];exact E j om X
    intro l3 H3 b2 b3 a3 w3 h3 b4 b5 c2 c1 b7;refine hQ l3 H3 b2 b3 a3 w3 h3 b4 b5 (Y.trans c2) ((Same.put a o.dst v fun t ht=>Ad a7 ht).trans c1) (b7.trans ?_);cases o.dst<;>rfl
   obtain ⟨l',A,⟨hw,h⟩ | ⟨hw,h⟩⟩:=Fa hT h
   ·rw[aE hw];obtain ⟨b',c0⟩:=rK hY hΓ hF hI A h;refine c0.wpIn hF b' ?_;rintro v w' ⟨s,H',loc',ver',hk',Z,hr',Y⟩;obtain ⟨c3,C,B⟩:=(A.ext Y).any o.dst hk' hr';exact J Z B Y C
   rw[aD (by rw[hw];simp)];refine ⟨fun f _=>hF.fn f,?_⟩;obtain ⟨c3,C,B⟩:=A.any o.dst h (.tup [] [] .nil);exact J hI B (Ext.refl _) C
theorem Iy {n:Array Oper}{i:Nat}{o:Oper}(z:n[i]? =some o)(h:vU n.toList i=true):∃x t,Free n i o x t:=by
 unfold vU Tb at h;simp only[eO,z] at h;split at h
 ·rename_i x t A B C;rw[aG] at h;have D:=h.2;have m:∀(j:Nat) (g:Oper),n[j]? =some g->(j=i\/g.dst≠some t)/\(IQ x g=false\/waits o j=true)/\(j=i\/BH n.toList g t=false\/waits g i=true)/\IR g=true:=by
   intro j g f;have s:=(aH.1 f).1;have:=fG.1 D j (lL.2 (by simpa using s));simp only[eO,f,aG,dA,bM,nA] at this;obtain ⟨K,W,X,Y⟩:=this;refine ⟨K.imp id fun h e=>?_,W,X,Y⟩;have:=Bs.2 e;rw[this] at h;cases h
  refine ⟨x,t,z,A,B,C,fun j g s f=>((m j g f).1.resolve_left s),fun j g f=>?_,fun j g s f y=>?_,fun j g f=>?_⟩
  ·rcases (m j g f).2.1 with h | h
   ·refine .inr fun u J=>?_;subst J;simp only[IQ] at h;intro e;rw[Bs.2 e] at h;cases h
   exact .inl h
  ·rcases (m j g f).2.2.1.resolve_left s with h | h
   ·exfalso;unfold BH at h;simp only[Bool.or_eq_false_iff] at h;obtain ⟨r1,r2⟩:=h;rcases y with y | ⟨q,b,F,E⟩
    ·have:=List.any_eq_false.1 r1 _ y;simp at this
    rw[F] at r2;simp only[DP] at r2;have e:(n.toList[q]?).bind (·.dst)=some t:=by simpa using E
    rw[e] at r2;simp at r2
   exact h
  have:=(m j g f).2.2.2;unfold IR at this;constructor
  ·intro Z b e;rw[e] at this;cases this
  intro c e;rw[e] at this;cases this
 cases h
theorem Yk {E:Env}{o:Oper}{x:Operand}(c:pureArg o.op=some x){lr:List (Nat × SV)}{H:List HO}{K:SV->List HO->Prop}{v:Value}(e:op1 P Γ o lr H K)(m:Rel E (ev lr x) v):
  ∃s n,K s H/\Rel E s n/\∀(ρ:Operand->Value) (w:World),ρ x=v->(execOp ρ o).run P w= .ok (.value n) w:=by
 unfold op1 at e;cases ho:o.op with
 | move y=>
  rw[ho] at c e;cases c;simp only[kF] at e;exact ⟨_,v,e,m,fun ρ w h=>by simp[execOp,ho,h]⟩
 | extract y k=>
  rw[ho] at c e;cases c;simp only at e;split at e
  ·rename_i vs z;obtain ⟨u,e⟩:=bD e;rw[kF] at e;rw[z] at m;cases m with
   | tup _ us hl=>
    have f:k<vs.length:=by simpa using u
    have g:k<us.length:=by rw[<- hl.length];exact f
    exact ⟨_,us.getD k undef,e,hl.get k f,fun ρ w h=>by simp[execOp,ho,h,Instr.extract,g]⟩
  cases e
 | _=>rw[ho] at c;cases c
theorem BY (hY:COK P G)(hΓ:∀c∈Γ,aM P c){F:Fence}(hF:Opn F){n:Nat}{y:Array Oper}{m:Nat}(d':Bi y.toList m=true){H:List HO}{loc:Nat->Loc}{ver:Nat->Nat}{w:World}{l:List (Nat × SV)}{a:Act}{K:List (Nat × SV)->List HO->Prop}{Q:Exit->Act->World->Prop}(f0:∀e a w,Q e a w->e= .normal)(hI:Inv G H loc ver w)(hT:TRel (envOf G H loc ver w) N l a)(h:Hy P Γ N y.toList (y.toList.take m) l H fun l'=>oQ P Γ N y.toList (y.toList.drop m) l' H K)(hQ:∀l' H' loc' ver' a' w',K l' H'->Inv G H' loc' ver' w'->TRel (envOf G H' loc' ver' w') N l' a'->Ext (envOf G H loc ver w) (envOf G H' loc' ver' w')->Same (y.toList.filterMap (·.dst)) a a'->a'.defers=a.defers->Q .normal a' w'):
  wpAnyIn F n P .any y Q y.size (Array.replicate y.size false) a w:=by
 simp only[Bi,aG] at d';obtain ⟨g',h0,h7,e8⟩:=d';have i2:m<=y.size:=by simpa using g'
 have hq:∀i o,i<m->y[i]? =some o->Pf y.toList m i o=true:=fun i o hi B=>pP h0 hi B;have b1:∀i o,y[i]? =some o->Wq i o=true:=fun i o B=>pP h7 (by simpa using (aH.1 B).1) B;have b2:∀i o,m<=i->y[i]? =some o->∀j,j<i->oJ (oW y.toList []) i j=true\/(j<m/\vU y.toList j=true):=by
  intro i o hi B j E;rw[Bh] at e8;have:=pP e8 (by simpa using (aH.1 B).1) B;simp only[dA] at this;rcases this with Y | Y
  ·have:i<m:=by simpa using Y
   omega
  have:=fG.1 Y j (lL.2 E);simpa using this
 have d3:∀i o,m<=i->y[i]? =some o->∀j,m<=j->j<i->oJ (oW y.toList []) i j=true:=by
  intro i o hi B j hm E;rcases b2 i o hi B j E with h | h
  ·exact h
  omega
 obtain ⟨wr,sv,wn,lf,g5,d5,e',c6⟩:=virt hY hΓ hq b1 (look l) (y.toList.take m) 0 si (wr:=look l) hI hT (fun _ _ _ h=>h) (fun _ _=>rfl) h
 -- some of the first operations have h9 up
 suffices key:∀(D:Nat) (g:Array Bool) (b:Act) (w1:World) (z:Nat->Loc) (A:Nat->Nat),g.size=y.size->AV g m+(y.size-m)<=D->(∀j,m<=j->j<y.size->g.getD j true=false)->Closed y (fun j=>g.getD j false=true)->
   Inv G H z A w1->Ext (envOf G H loc ver w) (envOf G H z A w1)->b.tmps.size=N->b.defers=a.defers->Same (y.toList.filterMap (·.dst)) a b->
   (∀t j o,j<m->y[j]? =some o->o.dst=some t->g.getD j false=true->Rel (envOf G H z A w1) (wr t) (b.tmps.getD t undef))->
   (∀t,(∀j o,j<m->y[j]? =some o->o.dst=some t->g.getD j false=false)->b.tmps.getD t undef=a.tmps.getD t undef)->
   wpAnyIn F n P .any y Q D g b w1 by
  refine key _ _ a w loc ver si ?_ (fun j _ E=>by simp[E]) (fun j o B E=>by have:=(aH.1 B).1;simp[this] at E) hI (Ext.refl _) hT.size rfl (Same.refl _ _) (fun t j o _ B _ hl=>?_) (fun _ _=>rfl)
  ·have:∀k,AV (Array.replicate y.size false) k<=k:=by
    intro k
    induction k with
    | zero=>exact aI _
    | succ k ih=>simp only[AV];split<;>omega
   have h2:∀k,AV (Array.replicate y.size false) (y.size+k)<=y.size:=by
    intro k
    induction k with
    | zero=>exact this _
    | succ k ih=>
     rw[Nat.add_succ];simp only[AV];have:(Array.replicate y.size false).getD (y.size+k) true=true:=by simp
     rw[this];simpa using ih
   rcases Nat.le_total m y.size with h3 | h3
   ·have:=this m;omega
   have:=h2 (m-y.size);rw[show y.size+(m-y.size)=m by omega] at this;omega
  have E:=(aH.1 B).1;simp[E] at hl
 have done:∀(D:Nat) (g:Array Bool) (b:Act) (w1:World) (z:Nat->Loc) (A:Nat->Nat),g.size=y.size->y.size-m<=D->(∀j,m<=j->j<y.size->g.getD j true=false)->(∀j,j<m->g.getD j false=true)->
   Inv G H z A w1->Ext (envOf G H loc ver w) (envOf G H z A w1)->b.tmps.size=N->b.defers=a.defers->Same (y.toList.filterMap (·.dst)) a b->
   (∀t j o,j<m->y[j]? =some o->o.dst=some t->g.getD j false=true->Rel (envOf G H z A w1) (wr t) (b.tmps.getD t undef))->
   (∀t,(∀j o,j<m->y[j]? =some o->o.dst=some t->g.getD j false=false)->b.tmps.getD t undef=a.tmps.getD t undef)->
   wpAnyIn F n P .any y Q D g b w1:=by
  intro D g b w1 z A a8 c7 b6 a5 a4 a3 a2 b3 J a7 a6
  have f8:TRel (envOf G H z A w1) N lf b:=⟨a2,fun t=>d5 _ t _ (by
   by_cases hw:∃j o,j<m/\y[j]? =some o/\o.dst=some t
   ·obtain ⟨j,o,Y,h2,h3⟩:=hw;exact a7 t j o Y h2 h3 (a5 j Y)
   rw[e' t fun j o _ Y h2 h3=>hw ⟨j,o,Y,h2,h3⟩,a6 t fun j o Y h2 h3=>(hw ⟨j,o,Y,h2,h3⟩).elim]
   exact (hT.rel t).ext a3)⟩
  exact Mz hY hΓ hF b1 d3 _ m rfl (aI _) D g a8 (by simpa using c7) a5 b6 a4 f8 g5
   (fun l' H' loc' ver' a' w' Y h2 h3 h4 h5 h6=>hQ l' H' loc' ver' a' w' Y h2 h3 (a3.trans h4) (J.trans h5) (h6.trans b3))
 intro D
 induction D with
 | zero=>
  intro g b w1 z A a8 c7 b6 b' a4 a3 a2 b3 J a7 a6;refine done 0 g b w1 z A a8 om b6 (fun j E=>?_) a4 a3 a2 b3 J a7 a6;have:∀k,AV g k=0->∀j,j<k->g.getD j true=true:=by
   intro k
   induction k with
   | zero=>intro _ j E;omega
   | succ k ih=>
    intro hk j E;simp only[AV] at hk;by_cases e:j=k
    ·subst e;cases hc:g.getD j true with
     | true=>rfl
     | false=>rw[hc] at hk;simp at hk
    exact ih om j om
  rw[<- jB om];exact this m om j E
 | succ f ih=>
  intro g b w1 z A a8 c7 b6 b' a4 a3 a2 b3 J a7 a6;by_cases a5:∀j,j<m->g.getD j false=true
  ·exact done (f+1) g b w1 z A a8 om b6 a5 a4 a3 a2 b3 J a7 a6
  -- what is known of an operation among the first
  have one:∀(i:Nat) (o:Oper),i<m->y[i]? =some o->g.getD i true=false->(∀e∈o.after,Region.binds .any e=true->g.getD e.on false=true)->
    (∀t,lk y o t->Rel (envOf G H z A w1) (Yi y m (look l) wr i t) (b.tmps.getD t undef))/\
    (∀ {loc':Nat->Loc} {ver':Nat->Nat} {w':World} {v:Value},Inv G H loc' ver' w'->Ext (envOf G H z A w1) (envOf G H loc' ver' w')->Rel (envOf G H loc' ver' w') (sv i) v->
     wpAnyIn F n P .any y Q f (g.setIfInBounds i true) (b.put o.dst v) w'):=by
   intro i o a0 B Y h2;obtain ⟨d4,Z⟩:=c6 i o (aF _) a0 B;have e0:=hq i o a0 B;have C:∀t,lk y o t->Rel (envOf G H z A w1) (Yi y m (look l) wr i t) (b.tmps.getD t undef):=by
    intro t ht;unfold Yi;by_cases hl:late y m i t
    ·rw[aE hl];obtain ⟨j0,o0,g1,g2,g3,g4⟩:=hl;obtain ⟨e,he,hb,d1⟩:=pA g4;have g9:g.getD j0 false=false:=by
      cases hc:g.getD j0 false with
      | false=>rfl
      | true=>
       have:=b' j0 o0 g2 hc e he hb;rw[d1] at this;rw[<- jB om,Y] at this;cases this
     rw[a6 t fun j o' h3 h4 h5=>by
      have:=wQ (hq j0 o0 g1 g2) g3 h3 h4 h5
      rw[this];exact g9]
     exact (hT.rel t).ext a3
    rw[aD hl];by_cases hw:∃j o,j<m/\y[j]? =some o/\o.dst=some t
    ·obtain ⟨j,o',h3,h4,h5⟩:=hw;rcases pO (xS e0 ht) h3 h4 h5 with h6 | h6
     ·obtain ⟨e,he,hb,d1⟩:=pA h6.1;exact a7 t j o' h3 h4 h5 (by rw[<- d1];exact h2 e he hb)
     exact (hl ⟨j,o',h3,h4,h5,h6⟩).elim
    rw[e' t fun j o _ Y h2 h3=>hw ⟨j,o,Y,h2,h3⟩,a6 t fun j o Y h2 h3=>(hw ⟨j,o,Y,h2,h3⟩).elim];exact (hT.rel t).ext a3
   have d7:o∈y.toList:=by
    obtain ⟨g7,rfl⟩:=aH.1 B;simp
   have c4:∀(v:Value) (t:Nat),(b.put o.dst v).tmps.getD t undef=if o.dst=some t then v else b.tmps.getD t undef:=by
    intro v t;cases hd:o.dst with
    | none=>simp[Act.put]
    | some u=>
     rw[zX b u t v (by rw[a2];exact Z.dst u hd)];by_cases e:t=u
     ·subst e;simp
     rw[aD e,aD (fun h=>e (by cases h;rfl))]
   have next:∀ {loc':Nat->Loc} {ver':Nat->Nat} {w':World} {v:Value},Inv G H loc' ver' w'->Ext (envOf G H z A w1) (envOf G H loc' ver' w')->Rel (envOf G H loc' ver' w') (sv i) v->
     wpAnyIn F n P .any y Q f (g.setIfInBounds i true) (b.put o.dst v) w':=by
    intro loc' ver' w' v c5 c2 d2;have hu:=Tx Y m;rw[aE a0] at hu
    refine ih (g.setIfInBounds i true) (b.put o.dst v) w' loc' ver' (by simp[a8]) om (fun j E g0=>by rw[getD_set_ne true om];exact b6 j E g0) (fun j oj d0 E e he hb=>by
      show (g.setIfInBounds i true).getD e.on false=true;have E:(g.setIfInBounds i true).getD j false=true:=E;by_cases d6:e.on=i
      ·rw[d6];exact nN Y
      rw[getD_set_ne false (Ne.symm d6)];by_cases b5:j=i
      ·subst b5;rw[B] at d0;cases d0;exact h2 e he hb
      rw[getD_set_ne false (Ne.symm b5)] at E;exact b' j oj d0 E e he hb) c5 (a3.trans c2) ?_ ?_
     (J.trans (Same.put b o.dst v fun t ht=>Ad d7 ht)) (fun t j o' E a9 hd hl=>?_) (fun t hn=>?_)
    ·cases o.dst<;>simp[Act.put,a2]
    ·refine Eq.trans ?_ b3;cases o.dst<;>rfl
    ·rw[c4 v t];by_cases a1:o.dst=some t
     ·rw[aE a1,d4 t a1];exact d2
     rw[aD a1];have b5:j≠i:=fun e=>by subst e;rw[B] at a9;cases a9;exact a1 hd
     rw[getD_set_ne false (Ne.symm b5)] at hl;exact (a7 t j o' E a9 hd hl).ext c2
    have a1:o.dst≠some t:=fun a1=>by
     have:=hn i o a0 B a1;rw[nN Y] at this;cases this
    rw[c4 v t,aD a1];refine a6 t fun j o' E a9 hd=>?_;have b5:j≠i:=fun e=>by subst e;rw[B] at a9;cases a9;exact a1 hd
    have:=hn j o' E a9 hd;rwa [getD_set_ne false (Ne.symm b5)] at this
   exact ⟨C,next⟩
  by_cases b8:∃i,i<m/\vU y.toList i=true/\g.getD i false=false/\∀o,y[i]? =some o->∀e∈o.after,Region.binds .any e=true->g.getD e.on false=true
  ·obtain ⟨i,a0,f',g6,c3⟩:=b8;obtain ⟨o,B⟩:∃o,y[i]? =some o:=⟨y[i]'(by omega),by simp[show i<y.size by omega]⟩;obtain ⟨x,t,b4⟩:=Iy B f';obtain ⟨d4,Z⟩:=c6 i o (aF _) a0 B;have Y:g.getD i true=false:=by rw[jB om];exact g6
   obtain ⟨C,next⟩:=one i o a0 B Y (c3 o B);have W:=Z.want (envOf G H z A w1) b C;have c1:wn i=true:=by rw[<- W];simp[Region.wanted,b4.guard]
   rw[c1] at Z;obtain ⟨lr,X,hX,c8⟩:=Z.run rfl;obtain ⟨s,v0,⟨rfl,_,_⟩,h8,H0⟩:=Yk b4.op hX (oZ (N:=N) ⟨a2,fun t=>c8 t _ _ (C t)⟩ x);refine QS (fun f=>hF.fn f) f0 b4 H0 f g b w1 a8 Y (c3 o B) rfl ?_;have c':=next (v:=v0) a4 (Ext.refl _) h8;rwa [b4.dst] at c'
  obtain ⟨i0,c0,d8⟩:∃i0,(i0<m/\g.getD i0 false=false)/\∀k,(k<m/\g.getD k false=false)->i0<=k:=by
   have:∃j,j<m/\g.getD j false=false:=by
    apply aS;intro hn;exact a5 fun j E=>by
     cases hc:g.getD j false with
     | true=>rfl
     | false=>exact (hn ⟨j,E,hc⟩).elim
   obtain ⟨j,E⟩:=this;exact Mo j E
  have b9:i0<y.size:=om;have b7:∀e∈(y[i0]).after,Region.binds .any e=true->g.getD e.on false=true:=fun e he hb=>by
   have g7:=uB (b1 i0 y[i0] (by simp[b9])) e he hb;cases hc:g.getD e.on false with
   | true=>rfl
   | false=>have:=d8 e.on ⟨om,hc⟩;omega
  have e9:i0∈Region.ready .any y g:=mem_ready.2 ⟨by rw[jB om];exact c0.2,y[i0],by simp[b9],b7⟩
  have d9:vU y.toList i0=true->False:=fun h=>b8 ⟨i0,c0.1,h,c0.2,fun o B=>by
   have e:o=y[i0]:=by
    have:y[i0]? =some y[i0]:=by simp[b9]
    rw[B] at this;exact Option.some.inj this
   subst e;exact b7⟩
  refine ⟨fun hr=>(by rw[hr] at e9;cases e9),fun i hi=>?_⟩;obtain ⟨Y,o,B,h2⟩:=mem_ready.1 hi;have i1:=(aH.1 B).1;have a0:i<m:=by
   apply aS;intro h';have:=vK b' B ((b2 i o om B i0 om).resolve_right fun b4=>d9 b4.2) h2;rw[c0.2] at this;cases this
  obtain ⟨d4,Z⟩:=c6 i o (aF _) a0 B;obtain ⟨C,next⟩:=one i o a0 B Y h2;have W:=Z.want (envOf G H z A w1) b C;unfold wpOpIn;simp only[B];cases c1:wn i with
  | true=>
   rw[c1] at W Z;rw[aE W];obtain ⟨lr,X,hX,c8⟩:=Z.run rfl;obtain ⟨g8,e7⟩:=rK hY hΓ hF a4 (N:=N) ⟨a2,fun t=>c8 t _ _ (C t)⟩ hX;refine e7.wpIn hF g8 ?_;rintro v w' ⟨s,H',loc',ver',⟨rfl,rfl,_⟩,c5,d2,c2⟩;exact next c5 c2 d2
  | false=>
   rw[c1] at W Z;rw[aD (by rw[W];simp)];refine ⟨fun f _=>hF.fn f,next a4 (Ext.refl _) ?_⟩;rw[Z.skip rfl];exact (.tup [] [] .nil)
end
end Go.Eng
end
section
namespace Go.Eng
open Go.RowKit
section
variable {P:Program} {G:Ctx} {N:Nat} {Γ:List Con}
def addS (S:Nat->Bool)(i:Nat):Nat->Bool:=fun j=>S j || Nat.beq j i
structure Adm (ops:Array Oper) (m:Nat) (S:Nat->Bool) (i:Nat) (o:Oper):Prop where
 not:S i=false
 lt:∀j,S j=true->j<m
 own:∀e∈o.after,Region.binds .any e=true->S e.on=true
 closed:Closed ops (fun j=>S j=true)
structure QG (P:Program) (G:Ctx) (ops:Array Oper) (m:Nat) (hS:(Nat->Bool)->List HO) (N:Nat) (wr:Nat->SV) (sv:SV) (wn:Bool) (i:Nat) (o:Oper):Prop where
 want:∀(E:Env) (a:Act),(∀t,lk ops o t->Rel E (wr t) (a.tmps.getD t undef))->Region.wanted o (yielded ops a.tmps)=wn
 run:wn=true->∀ {F:Fence},Opn F->∀S,Adm ops m S i o->∀ {loc:Nat->Loc} {ver:Nat->Nat} {w:World} {a:Act},Inv G (hS S) loc ver w->a.tmps.size=N->
  (∀t,lk ops o t->Rel (envOf G (hS S) loc ver w) (wr t) (a.tmps.getD t undef))->
  (∀c,o.op≠ .defer c)/\OpOK P F o a w fun v w'=>∃loc' ver',Inv G (hS (addS S i)) loc' ver' w'/\Rel (envOf G (hS (addS S i)) loc' ver' w') sv v/\Ext (envOf G (hS S) loc ver w) (envOf G (hS (addS S i)) loc' ver' w')
 skip:wn=false->sv= .tup []/\∀S,hS (addS S i)=hS S
 dst:∀t,o.dst=some t->t<N
 move:∀x,pureArg o.op=some x->o.guard=none->(∀(E:Env) (a:Act),a.tmps.size=N->(∀t,lk ops o t->Rel E (wr t) (a.tmps.getD t undef))->∃v0,Rel E sv v0/\∀(ρ:Operand->Value) (w:World),ρ x=a.eval x->(execOp ρ o).run P w= .ok (.value v0) w)/\∀S,hS (addS S i)=hS S
def Fe (m:Nat)(listed:Array Bool):Nat->Bool:=fun j=>decide (j<m)&&listed.getD j false
theorem ON {m:Nat}{c:Array Bool}{i:Nat}(hi:i<m)(h:c.getD i true=false):Fe m (c.setIfInBounds i true)=addS (Fe m c) i:=by
 funext j
 unfold Fe addS;by_cases e:j=i
 ·subst e;rw[nN h,iF];simp[hi]
 rw[getD_set_ne false (Ne.symm e),lY e];simp
theorem Ys (hY:COK P G)(hΓ:∀c∈Γ,aM P c){F:Fence}(hF:Opn F){n:Nat}{s:Array Oper}{m:Nat}(i2:m<=s.size)(hq:∀i o,i<m->s[i]? =some o->Pf s.toList m i o=true)(c1:∀i o,s[i]? =some o->Wq i o=true)(b2:∀i o,m<=i->s[i]? =some o->∀j,j<i->oJ (oW s.toList []) i j=true\/(j<m/\vU s.toList j=true)){hS:(Nat->Bool)->List HO}{wr sv:Nat->SV}{wn:Nat->Bool}{lf l:List (Nat × SV)}(d6:∀(E:Env) (t:Nat) (v:Value),Rel E (wr t) v->Rel E (look lf t) v)(f0:∀t,(∀j o,j<m->s[j]? =some o->o.dst≠some t)->wr t=look l t)(c':∀j o,j<m->s[j]? =some o->(∀t,o.dst=some t->wr t=sv j)/\QG P G s m hS N (Yi s m (look l) wr j) (sv j) (wn j) j o){loc:Nat->Loc}{ver:Nat->Nat}{w:World}{a:Act}{K:List (Nat × SV)->List HO->Prop}{Q:Exit->Act->World->Prop}(f':∀e a w,Q e a w->e= .normal)(hI:Inv G (hS fun _=>false) loc ver w)(hT:TRel (envOf G (hS fun _=>false) loc ver w) N l a)(g6:oQ P Γ N s.toList (s.toList.drop m) lf (hS fun j=>decide (j<m)) K)(hQ:∀l' H' loc' ver' a' w',K l' H'->Inv G H' loc' ver' w'->TRel (envOf G H' loc' ver' w') N l' a'->Ext (envOf G (hS fun _=>false) loc ver w) (envOf G H' loc' ver' w')->Same (s.toList.filterMap (·.dst)) a a'->a'.defers=a.defers->Q .normal a' w'):
  wpAnyIn F n P .any s Q s.size (Array.replicate s.size false) a w:=by
 have d4:∀i o,m<=i->s[i]? =some o->∀j,m<=j->j<i->oJ (oW s.toList []) i j=true:=by
  intro i o hi B j hm A;rcases b2 i o hi B j A with h | h
  ·exact h
  omega
 -- some of the first operations have h9 up
 suffices key:∀(C:Nat) (g:Array Bool) (b:Act) (Z:World) (y:Nat->Loc) (z:Nat->Nat),g.size=s.size->AV g m+(s.size-m)<=C->(∀j,m<=j->j<s.size->g.getD j true=false)->Closed s (fun j=>g.getD j false=true)->
   Inv G (hS (Fe m g)) y z Z->Ext (envOf G (hS fun _=>false) loc ver w) (envOf G (hS (Fe m g)) y z Z)->b.tmps.size=N->b.defers=a.defers->Same (s.toList.filterMap (·.dst)) a b->
   (∀t j o,j<m->s[j]? =some o->o.dst=some t->g.getD j false=true->Rel (envOf G (hS (Fe m g)) y z Z) (wr t) (b.tmps.getD t undef))->
   (∀t,(∀j o,j<m->s[j]? =some o->o.dst=some t->g.getD j false=false)->b.tmps.getD t undef=a.tmps.getD t undef)->
   wpAnyIn F n P .any s Q C g b Z by
  have c8:Fe m (Array.replicate s.size false)=fun _=>false:=by
   funext j
   unfold Fe;have:(Array.replicate s.size false).getD j false=false:=by
    rw[bQ,Array.getElem?_replicate];split<;>rfl
   rw[this,Bool.and_false]
  refine key _ _ a w loc ver si ?_ (fun j _ A=>by simp[A]) (fun j o B A=>by have:=(aH.1 B).1;simp[this] at A) (by rw[c8];exact hI) (by rw[c8];exact Ext.refl _) hT.size rfl (Same.refl _ _) (fun t j o _ B _ hl=>?_) (fun _ _=>rfl)
  ·have:∀k,AV (Array.replicate s.size false) k<=k:=by
    intro k
    induction k with
    | zero=>exact aI _
    | succ k ih=>simp only[AV];split<;>omega
   have:=this m;omega
  have A:=(aH.1 B).1;simp[A] at hl
 have done:∀(C:Nat) (g:Array Bool) (b:Act) (Z:World) (y:Nat->Loc) (z:Nat->Nat),g.size=s.size->s.size-m<=C->(∀j,m<=j->j<s.size->g.getD j true=false)->(∀j,j<m->g.getD j false=true)->
   Inv G (hS (Fe m g)) y z Z->Ext (envOf G (hS fun _=>false) loc ver w) (envOf G (hS (Fe m g)) y z Z)->b.tmps.size=N->b.defers=a.defers->Same (s.toList.filterMap (·.dst)) a b->
   (∀t j o,j<m->s[j]? =some o->o.dst=some t->g.getD j false=true->Rel (envOf G (hS (Fe m g)) y z Z) (wr t) (b.tmps.getD t undef))->
   (∀t,(∀j o,j<m->s[j]? =some o->o.dst=some t->g.getD j false=false)->b.tmps.getD t undef=a.tmps.getD t undef)->
   wpAnyIn F n P .any s Q C g b Z:=by
  intro C g b Z y z a7 d0 b1 a0 a1 Y a4 b3 X a6 a8;have e':Fe m g=fun j=>decide (j<m):=by
   funext j
   unfold Fe;by_cases A:j<m
   ·simp[A,a0 j A]
   simp[A]
  rw[e'] at a1 Y a6
  have g0:TRel (envOf G (hS fun j=>decide (j<m)) y z Z) N lf b:=⟨a4,fun t=>d6 _ t _ (by
   by_cases hw:∃j o,j<m/\s[j]? =some o/\o.dst=some t
   ·obtain ⟨j,o,D,h2,h3⟩:=hw;exact a6 t j o D h2 h3 (a0 j D)
   rw[f0 t fun j o D h2 h3=>hw ⟨j,o,D,h2,h3⟩,a8 t fun j o D h2 h3=>(hw ⟨j,o,D,h2,h3⟩).elim]
   exact (hT.rel t).ext Y)⟩
  exact Mz hY hΓ hF c1 d4 _ m rfl (aI _) C g a7 (by simpa using d0) a0 b1 a1 g0 g6
   (fun l' H' loc' ver' a' w' D h2 h3 h4 h5 h6=>hQ l' H' loc' ver' a' w' D h2 h3 (Y.trans h4) (X.trans h5) (h6.trans b3))
 intro C
 induction C with
 | zero=>
  intro g b Z y z a7 d0 b1 b7 a1 Y a4 b3 X a6 a8;refine done 0 g b Z y z a7 om b1 (fun j A=>?_) a1 Y a4 b3 X a6 a8;have:∀k,AV g k=0->∀j,j<k->g.getD j true=true:=by
   intro k
   induction k with
   | zero=>intro _ j A;omega
   | succ k ih=>
    intro hk j A;simp only[AV] at hk;by_cases e:j=k
    ·subst e;cases hc:g.getD j true with
     | true=>rfl
     | false=>rw[hc] at hk;simp at hk
    exact ih om j om
  rw[<- jB om];exact this m om j A
 | succ f ih=>
  intro g b Z y z a7 d0 b1 b7 a1 Y a4 b3 X a6 a8;by_cases a0:∀j,j<m->g.getD j false=true
  ·exact done (f+1) g b Z y z a7 om b1 a0 a1 Y a4 b3 X a6 a8
  have f8:∀(i:Nat) (o:Oper),i<m->s[i]? =some o->g.getD i true=false->(∀e∈o.after,Region.binds .any e=true->g.getD e.on false=true)->Adm s m (Fe m g) i o:=by
   intro i o J B D h2;have d8:∀j,g.getD j false=true->Fe m g j=true:=by
    intro j A;have d1:j<s.size:=by
     rw[<- a7];apply aS;intro hn;rw[bQ,Array.getElem?_eq_none om] at A;cases A
    have:j<m:=aS fun hn=>by
     have:=b1 j om d1;rw[jB om,A] at this;cases this
    simp[Fe,this,A]
   refine ⟨?_,fun j A=>?_,fun e he hb=>d8 _ (h2 e he hb),fun j oj c0 A e he hb=>d8 _ (b7 j oj c0 ?_ e he hb)⟩
   ·rw[jB om] at D;simp[Fe,D]
   ·simp only[Fe,aG,qO] at A;exact A.1
   simp only[Fe,aG] at A;exact A.2
  -- what is known of an operation among the first
  have one:∀(i:Nat) (o:Oper),i<m->s[i]? =some o->g.getD i true=false->(∀e∈o.after,Region.binds .any e=true->g.getD e.on false=true)->
    (∀t,lk s o t->Rel (envOf G (hS (Fe m g)) y z Z) (Yi s m (look l) wr i t) (b.tmps.getD t undef))/\
    (∀ {loc':Nat->Loc} {ver':Nat->Nat} {w':World} {v:Value},Inv G (hS (addS (Fe m g) i)) loc' ver' w'->Ext (envOf G (hS (Fe m g)) y z Z) (envOf G (hS (addS (Fe m g) i)) loc' ver' w')->Rel (envOf G (hS (addS (Fe m g) i)) loc' ver' w') (sv i) v->
     wpAnyIn F n P .any s Q f (g.setIfInBounds i true) (b.put o.dst v) w'):=by
   intro i o J B D h2;obtain ⟨d5,a3⟩:=c' i o J B;have e7:=hq i o J B;have W:∀t,lk s o t->Rel (envOf G (hS (Fe m g)) y z Z) (Yi s m (look l) wr i t) (b.tmps.getD t undef):=by
    intro t ht;unfold Yi;by_cases hl:late s m i t
    ·rw[aE hl];obtain ⟨j0,o0,g1,g2,g3,g4⟩:=hl;obtain ⟨e,he,hb,d3⟩:=pA g4;have h0:g.getD j0 false=false:=by
      cases hc:g.getD j0 false with
      | false=>rfl
      | true=>
       have:=b7 j0 o0 g2 hc e he hb;rw[d3] at this;rw[<- jB om,D] at this;cases this
     rw[a8 t fun j o' h3 h4 h5=>by
      have:=wQ (hq j0 o0 g1 g2) g3 h3 h4 h5
      rw[this];exact h0]
     exact (hT.rel t).ext Y
    rw[aD hl];by_cases hw:∃j o,j<m/\s[j]? =some o/\o.dst=some t
    ·obtain ⟨j,o',h3,h4,h5⟩:=hw;rcases pO (xS e7 ht) h3 h4 h5 with h6 | h6
     ·obtain ⟨e,he,hb,d3⟩:=pA h6.1;exact a6 t j o' h3 h4 h5 (by rw[<- d3];exact h2 e he hb)
     exact (hl ⟨j,o',h3,h4,h5,h6⟩).elim
    rw[f0 t fun j o D h2 h3=>hw ⟨j,o,D,h2,h3⟩,a8 t fun j o D h2 h3=>(hw ⟨j,o,D,h2,h3⟩).elim];exact (hT.rel t).ext Y
   have d9:o∈s.toList:=by
    obtain ⟨g8,rfl⟩:=aH.1 B;simp
   have c7:∀(v:Value) (t:Nat),(b.put o.dst v).tmps.getD t undef=if o.dst=some t then v else b.tmps.getD t undef:=by
    intro v t;cases hd:o.dst with
    | none=>simp[Act.put]
    | some u=>
     rw[zX b u t v (by rw[a4];exact a3.dst u hd)];by_cases e:t=u
     ·subst e;simp
     rw[aD e,aD (fun h=>e (by cases h;rfl))]
   have next:∀ {loc':Nat->Loc} {ver':Nat->Nat} {w':World} {v:Value},Inv G (hS (addS (Fe m g) i)) loc' ver' w'->Ext (envOf G (hS (Fe m g)) y z Z) (envOf G (hS (addS (Fe m g) i)) loc' ver' w')->Rel (envOf G (hS (addS (Fe m g) i)) loc' ver' w') (sv i) v->
     wpAnyIn F n P .any s Q f (g.setIfInBounds i true) (b.put o.dst v) w':=by
    intro loc' ver' w' v c3 c2 c5;have hu:=Tx D m;rw[aE J] at hu;have h8:=ON J D;rw[<- h8] at c3 c2 c5
    refine ih (g.setIfInBounds i true) (b.put o.dst v) w' loc' ver' (by simp[a7]) om (fun j A d1=>by rw[getD_set_ne true om];exact b1 j A d1) (fun j oj c0 A e he hb=>by
      show (g.setIfInBounds i true).getD e.on false=true;have A:(g.setIfInBounds i true).getD j false=true:=A;by_cases d7:e.on=i
      ·rw[d7];exact nN D
      rw[getD_set_ne false (Ne.symm d7)];by_cases b5:j=i
      ·subst b5;rw[B] at c0;cases c0;exact h2 e he hb
      rw[getD_set_ne false (Ne.symm b5)] at A;exact b7 j oj c0 A e he hb) c3 (Y.trans c2) ?_ ?_
     (X.trans (Same.put b o.dst v fun t ht=>Ad d9 ht)) (fun t j o' A a9 hd hl=>?_) (fun t hn=>?_)
    ·cases o.dst<;>simp[Act.put,a4]
    ·refine Eq.trans ?_ b3;cases o.dst<;>rfl
    ·rw[c7 v t];by_cases a2:o.dst=some t
     ·rw[aE a2,d5 t a2];exact c5
     rw[aD a2];have b5:j≠i:=fun e=>by subst e;rw[B] at a9;cases a9;exact a2 hd
     rw[getD_set_ne false (Ne.symm b5)] at hl;exact (a6 t j o' A a9 hd hl).ext c2
    have a2:o.dst≠some t:=fun a2=>by
     have:=hn i o J B a2;rw[nN D] at this;cases this
    rw[c7 v t,aD a2];refine a8 t fun j o' A a9 hd=>?_;have b5:j≠i:=fun e=>by subst e;rw[B] at a9;cases a9;exact a2 hd
    have:=hn j o' A a9 hd;rwa [getD_set_ne false (Ne.symm b5)] at this
   exact ⟨W,next⟩
  by_cases b9:∃i,i<m/\vU s.toList i=true/\g.getD i false=false/\∀o,s[i]? =some o->∀e∈o.after,Region.binds .any e=true->g.getD e.on false=true
  ·obtain ⟨i,J,g5,g7,c6⟩:=b9;obtain ⟨o,B⟩:∃o,s[i]? =some o:=⟨s[i]'(by omega),by simp[show i<s.size by omega]⟩;obtain ⟨x,t,b4⟩:=Iy B g5;obtain ⟨d5,a3⟩:=c' i o J B;have D:g.getD i true=false:=by rw[jB om];exact g7
   obtain ⟨W,next⟩:=one i o J B D (c6 o B);obtain ⟨g9,b6⟩:=a3.move x b4.op b4.guard;obtain ⟨v0,h7,H0⟩:=g9 _ b a4 W;refine QS (fun f=>hF.fn f) f' b4 H0 f g b Z a7 D (c6 o B) rfl ?_;have d2:=next (loc':=y) (ver':=z) (w':=Z) (v:=v0) (by rw[b6];exact a1) (by rw[b6];exact Ext.refl _) (by rw[b6];exact h7);rwa [b4.dst] at d2
  obtain ⟨i0,c4,d'⟩:∃i0,(i0<m/\g.getD i0 false=false)/\∀k,(k<m/\g.getD k false=false)->i0<=k:=by
   have:∃j,j<m/\g.getD j false=false:=by
    apply aS;intro hn;exact a0 fun j A=>by
     cases hc:g.getD j false with
     | true=>rfl
     | false=>exact (hn ⟨j,A,hc⟩).elim
   obtain ⟨j,A⟩:=this;exact Mo j A
  have b':i0<s.size:=om;have b8:∀e∈(s[i0]).after,Region.binds .any e=true->g.getD e.on false=true:=fun e he hb=>by
   have g8:=uB (c1 i0 s[i0] (by simp[b'])) e he hb;cases hc:g.getD e.on false with
   | true=>rfl
   | false=>have:=d' e.on ⟨om,hc⟩;omega
  have e9:i0∈Region.ready .any s g:=mem_ready.2 ⟨by rw[jB om];exact c4.2,s[i0],by simp[b'],b8⟩
  have e0:vU s.toList i0=true->False:=fun h=>b9 ⟨i0,c4.1,h,c4.2,fun o B=>by
   have e:o=s[i0]:=by
    have:s[i0]? =some s[i0]:=by simp[b']
    rw[B] at this;exact Option.some.inj this
   subst e;exact b8⟩
  refine ⟨fun hr=>(by rw[hr] at e9;cases e9),fun i hi=>?_⟩;obtain ⟨D,o,B,h2⟩:=mem_ready.1 hi;have i1:=(aH.1 B).1;have J:i<m:=by
   apply aS;intro h';have:=vK b7 B ((b2 i o om B i0 om).resolve_right fun b4=>e0 b4.2) h2;rw[c4.2] at this;cases this
  obtain ⟨d5,a3⟩:=c' i o J B;obtain ⟨W,next⟩:=one i o J B D h2;have a5:=a3.want _ b W;unfold wpOpIn;simp only[B];cases hwn:wn i with
  | true=>
   rw[hwn] at a5 a3;rw[aE a5];obtain ⟨g',e8⟩:=a3.run rfl hF _ (f8 i o J B D h2) a1 a4 W;refine e8.wpIn hF g' ?_;rintro v w' ⟨loc',ver',c3,c5,c2⟩;exact next c3 c2 c5
  | false=>
   rw[hwn] at a5 a3;obtain ⟨hs,b6⟩:=a3.skip rfl;rw[aD (by rw[a5];simp)];refine ⟨fun f _=>hF.fn f,next (loc':=y) (ver':=z) (by rw[b6];exact a1) (by rw[b6];exact Ext.refl _) ?_⟩;rw[hs];exact (.tup [] [] .nil)
end
end Go.Eng
end
section
namespace Go.Eng
open Go.RowKit
section
variable {P:Program} {G:Ctx} {N:Nat} {Γ:List Con} {H:List HO} {loc:Nat->Loc} {ver:Nat->Nat} {w:World}
theorem xU (B:List HO):∀(fx:List Fx) (S:Nat->Bool),(jW B fx S).length=B.length
 | [],_=>rfl
 | f::r,S=>by
  simp only[oX];cases S f.p with
  | true=>simp only[bP,cA,fE];exact xU B r S
  | false=>exact xU B r S
theorem lQ (B:List HO){S c:Nat->Bool}:∀(fx:List Fx),(∀f∈fx,S f.p=c f.p)->jW B fx S=jW B fx c
 | [],_=>rfl
 | f::r,h=>by
  simp only[oX];rw[h f cQ,lQ B r fun g e=>h g (cC _ e)]
theorem xV (B:List HO):∀(fx:List Fx),jW B fx (fun _=>false)=B
 | []=>rfl
 | f::r=>by simp only[jW,cM];exact xV B r
theorem Qz (B:List HO){i:Nat}:∀(fx:List Fx) {f:Fx} {S:Nat->Bool},f∈fx->f.p=i->S i=false->fx.Pairwise (fun a b=>a.p≠b.p)->(∀g∈fx,g.p≠i->S g.p=true->g.n≠f.n)->jW B fx (addS S i)=cA (jW B fx S) f.n f.o
 | g::r,f,S,hf,hp,hS,hd,hn=>by
  obtain ⟨m,u⟩:=vB.1 hd;by_cases s:g.p=i
  ·have c:f ∉ r:=fun h=>m f h (by rw[s,hp]);have x:f=g:=by
    rcases bY.1 hf with h | h
    ·exact h
    exact absurd h c
   subst x;simp only[oX];rw[hp,hS,show addS S i i=true from by simp[addS],bP,cM];congr 1
   refine lQ B r fun q z=>?_;have y:q.p≠i:=fun e=>m q z (by rw[hp,e]);simp[addS,lY y]
  have c:f∈r:=by
   rcases bY.1 hf with h | h
   ·exact absurd (h ▸ hp) s
   exact h
  have A:=Qz B r c hp hS u fun q z=>hn q (cC _ z);simp only[oX];rw[show addS S i g.p=S g.p from by simp[addS,lY s],A];cases hSg:S g.p with
  | false=>rfl
  | true=>
   simp only[bP,cA];exact List.set_comm _ _ (fun e=>hn g cQ s hSg e.symm)
theorem Ag (B:List HO){n:Nat}:∀(fx:List Fx) {S:Nat->Bool},(∀g∈fx,S g.p=true->g.n≠n)->(jW B fx S)[n]? =B[n]?
 | [],_,_=>rfl
 | g::r,S,h=>by
  have c:=Ag B r fun q f=>h q (cC _ f);simp only[oX];cases hS:S g.p with
  | false=>exact c
  | true=>
   simp only[bP,cA];rw[bS (fun e=>h g cQ hS e.symm)];exact c
theorem Inv.keep (e:Inv G H loc ver w):Inv G (H++ [.res]) loc ver w/\Ext (envOf G H loc ver w) (envOf G (H++ [.res]) loc ver w):=by
 refine e.turn H.length si (fun k g=>⟨gU g,rfl,rfl⟩) (fun h=>by rw[sD] at h;cases h) (fun h=>by rw[sD] at h;cases h) (aI _) rfl rfl rfl si (fun h=>by rw[sD] at h;cases h)
  (fun st n s b h=>by rw[gG] at h;cases h) (fun _ _ _=>rfl) ?_ ?_
 ·intro m b c f;rw[gG] at c;cases c;cases f
 intro o m c;rw[gG] at c;cases c
 trivial
theorem Inv.keeps (q:Nat):∀ {H:List HO},Inv G H loc ver w->Inv G (H++List.replicate q .res) loc ver w/\Ext (envOf G H loc ver w) (envOf G (H++List.replicate q .res) loc ver w):=by
 induction q with
 | zero=>intro H c;rw[List.replicate_zero,eH];exact ⟨c,Ext.refl _⟩
 | succ q ih=>
  intro H c;obtain ⟨e,f⟩:=c.keep;obtain ⟨g,m⟩:=ih e;rw[List.replicate_succ,show H++HO.res::List.replicate q .res=H++ [.res]++List.replicate q .res by simp];exact ⟨g,f.trans m⟩
theorem Inv.atRes (F:Inv G H loc ver w){n:Nat}(z:H[n]? =some .res){w':World}(o:HO)(L:Loc)(v:Nat)(C:w.heap.size<=w'.heap.size)(B:w'.os=w.os)(D:w'.tape=w.tape)(s:w'.output=w.output)(g:∀b,b<w.heap.size->w'.heap[b]? =w.heap[b]?)(x:∀b,Owns L o b->w.heap.size<=b)(m:Ext (envOf G H loc ver w) (envOf G (cA H n o) (sV loc n L) (sV ver n v) w')->OSat (envOf G (cA H n o) (sV loc n L) (sV ver n v) w') L v o)(A:∀st n E,o≠ .yst st n E:=by intro _ _ _ h;cases h):
  Inv G (cA H n o) (sV loc n L) (sV ver n v) w'/\Ext (envOf G H loc ver w) (envOf G (cA H n o) (sV loc n L) (sV ver n v) w'):=by
 have e:n<H.length:=(aK.1 z).1;have f:lE H n=false:=by
  unfold lE bX;rw[aB,z];simp[Cq]
 refine F.turn n (by simp[cA]) (fun k y=>⟨bS y,dJ _ _ _ y,dJ _ _ _ y⟩) (fun h=>by rw[f] at h;cases h) (fun h=>by rw[f] at h;cases h) C B D s (by rw[z];simp) (fun h=>by rw[f] at h;cases h)
  (fun st W E b h=>by rw[show cA H n o=H.set n o from rfl,aP e] at h;cases h;exact (A _ _ _ rfl).elim) (fun b u _=>g b u) ?_ ?_
 ·intro K b c u;rw[show cA H n o=H.set n o from rfl,aP e] at c;cases c;rw[bF] at u;exact .inr (x b u)
 intro J K c;rw[show cA H n o=H.set n o from rfl,aP e] at c;cases c;rw[bF,bF];exact m J
def AllocOK (P:Program)(G:Ctx)(N:Nat)(o:Oper)(lr:List (Nat × SV))(n:Nat)(s:SV)(ob:HO):Prop:=
 Cq ob=false/\∀ {F:Fence},Opn F->∀ {H:List HO} {loc:Nat->Loc} {ver:Nat->Nat} {w:World} {a:Act},Inv G H loc ver w->H[n]? =some .res->TRel (envOf G H loc ver w) N lr a->
  (∀c,o.op≠ .defer c)/\OpOK P F o a w fun v w'=>∃loc' ver',Inv G (cA H n ob) loc' ver' w'/\Rel (envOf G (cA H n ob) loc' ver' w') s v/\Ext (envOf G H loc ver w) (envOf G (cA H n ob) loc' ver' w')
theorem Nh {H:List HO}{n:Nat}{o:HO}(h:n<H.length)(c:Cq o=false):lE (cA H n o) n=true:=eJ (aP h) c
theorem Yt {o:Oper}{l lr:List (Nat × SV)}{n:Nat}{t:TypeId}{pn f:Operand}{K:SV->HO->Prop}(h:DK P t (ev l pn) (ev l f) fun m ty e g=>K (.ref n 1) (.vv 1 0 ty (List.replicate m.toNat []) none e g))(y:o.op= .makeSlice t pn f)(u:∀x∈o.op.operands,ev lr x=ev l x):∃s c,K s c/\AllocOK P G N o lr n s c:=False.elim h
theorem Uh (hY:COK P G)(hΓ:∀c∈Γ,aM P c){o:Oper}{l lr:List (Nat × SV)}{n:Nat}{K:SV->HO->Prop}(h:Tf P Γ o l n K)(Z:∀x∈o.op.operands,ev lr x=ev l x):∃s ob,K s ob/\AllocOK P G N o lr n s ob:=by
 unfold Tf at h;split at h
 ·rename_i t pn pc u;cases hvv:Ss P t with
  | true=>
   rw[hvv] at h;obtain ⟨s,ob,D,b3⟩:=Yt (lr:=lr) h u Z;exact ⟨s,ob,D,b3⟩
  | false=>
  rw[hvv] at h;replace h:IV P t n (ev l pn) (ev l pc) K:=h;unfold IV at h;split at h;case h_2=>cases h
  rename_i e kn C kc X he b1 a';split at h;case h_2=>cases h
  rename_i A i z b9 hi hz;obtain ⟨y,h1⟩:=bD h;clear h;split at h1;case h_2=>cases h1
  rename_i x0 hd;obtain ⟨⟨n1,n2,n3,n4⟩,D⟩:=h1;refine ⟨_,_,D,rfl,?_⟩;intro F hF H loc ver w a hI hn hT;refine ⟨by simp[u],?_⟩;have hu:=fS he;have e1:=oZ hT pn;have e2:=oZ hT pc;rw[Z pn (by rw[u];simp[Op.operands]),b1] at e1;rw[Z pc (by rw[u];simp[Op.operands]),a'] at e2;obtain ⟨e3,_⟩:=e1.int_inv;obtain ⟨e4,_⟩:=e2.int_inv;simp only[aG,bM] at y;obtain ⟨⟨a1,a0⟩,a9⟩:=y;obtain ⟨zv,b5,rfl⟩:=Ii hz hi;have a8:zv.cells.size=A.size:=by simpa using a9
  have b6:=A.size_pos;have hr:=run_make (P:=P) w t e i zv hu hi b5 kn kc C X n1 n2 (by rw[bU];omega) om;have B:n<H.length:=(aK.1 hn).1;have hf:=hI.atRes hn (w':=w.alloc (.cells (madeCells zv.cells (X.toNat*i.size)) e)) (.vec 1 A (List.replicate C.toNat x0) e) (zT (some (w.heap.size,0)) (C.toNat) (X.toNat)) 1 si rfl rfl rfl (fun b y=>Below.heap_alloc w _ b y) (by intro b y;simp[Owns] at y;omega)
   (fun hx=>by
    have hm:C.toNat*A.size<=X.toNat*i.size:=by rw[a1];exact aN _ om
    refine ⟨rfl,Nat.one_pos,si,by show C.toNat<=140737488355328;omega,(madeCells zv.cells (X.toNat*i.size)).toList.take (C.toNat*A.size),⟨by show (List.take _ _).length=C.toNat*A.size;rw[aW,jM,size_madeCells];exact dB hm,.inr ⟨w.heap.size,X.toNat,madeCells zv.cells (X.toNat*i.size),rfl,aF _,mT w _,by show C.toNat<=X.toNat;omega,by simp[maxLen];omega,by rw[size_madeCells,a1];exact aI _,rfl⟩⟩,fun j hj=>?_⟩;have a4:j<C.toNat:=hj;have b7:j*A.size+A.size<=C.toNat*A.size:=by
     have:(j+1)*A.size<=C.toNat*A.size:=aN _ a4;rwa [bI,cX] at this
    have e1:(List.replicate C.toNat x0).getD j A.dflt=x0:=by
     rw[aB];have:(List.replicate C.toNat x0)[j]? =some x0:=by simp[a4]
     rw[this];rfl
    have e2:((((madeCells zv.cells (X.toNat*i.size)).toList.take (C.toNat*A.size)).drop (j*A.size)).take A.size)=zv.cells.toList:=by
     apply eL;intro q;rw[aL];by_cases hq:q<A.size
     ·rw[aE hq,aX,aL,aE om,Ct _ _ om _ om];have:(j*A.size+q)%zv.cells.size=q:=by rw[a8,dY,Nat.mul_add_mod];exact fT hq
      rw[this];have b8:q<zv.cells.toList.length:=by simp;omega
      simp[a8,hq]
     rw[aD hq,cO (by simp;omega)]
    rw[e1,e2]
    exact wI (sE _ _) hd a0)
  refine .value (.slice (some ⟨w.heap.size,0,none⟩) C.toNat X.toNat) _ (by simp[execOp,u,e3,e4,hr]) ⟨_,_,hf.1,?_,hf.2⟩;refine .ref _ _ _ (Nh B rfl) Nat.one_pos (by simp[envOf,bF]) fun _=>?_;simp[envOf,bF,Core.head]
 ·rename_i t u;split at h;case h_2=>cases h
  rename_i z hz;rw[cD] at h;refine ⟨_,_,h,rfl,?_⟩;intro F hF H loc ver w a hI hn hT;refine ⟨by simp[u],?_⟩;obtain ⟨v,hv,rfl⟩:=rG hz w;have B:n<H.length:=(aK.1 hn).1;have hf:=hI.atRes hn (w':=w.alloc (.cells v.cells t)) (.cells (v.cells.toList.map HY) t) (zT (some (w.heap.size,0)) 0 0) 0 si rfl rfl rfl (fun b y=>Below.heap_alloc w _ b y) (by intro b y;simp[Owns] at y;omega)
   (fun hx=>⟨rfl,w.heap.size,v.cells.toList,rfl,mT w _,sE _ _⟩)
  refine .value (.pointer (some ⟨w.heap.size,0,none⟩)) _ (by simp[execOp,u,Bn hv]) ⟨_,_,hf.1,?_,hf.2⟩;refine .ptr _ _ _ (Nh B rfl) fun _=>⟨w.heap.size,by simp[envOf,bF],rfl⟩
 ·rename_i c u;split at h;case h_2=>cases h
  rename_i g hc;split at h;case h_2=>cases h
  rename_i d a2;split at h;case h_2=>cases h
  rename_i cl _ _ a7;obtain ⟨a6,rfl⟩:=Gi a2;obtain ⟨a3,_,_,b4,_⟩:=hΓ d a6;unfold VK at h;simp only[lW] at h;have h':=bD h;clear h;obtain ⟨y,h⟩:=h';obtain ⟨r,k,t,ys,e,D,W⟩:=b4 cl a7 _ _ h;simp only[kF] at D;have b2:=bD D;clear D;obtain ⟨a0,D⟩:=b2;have W:=W rfl;refine ⟨_,_,D,rfl,?_⟩;intro F hF H loc ver w a hI hn hT;refine ⟨by simp[u],?_⟩;have B:n<H.length:=(aK.1 hn).1;have J:=Bm hT c.args.toList;have a5:c.args.toList.map (ev lr)=c.args.toList.map (ev l):=tI fun x hx=>Z x (by rw[u];simp only[Op.operands,Call.operands];simp;first | exact .inr (by simpa using hx) | exact .inl (by simpa using hx) | simp_all);rw[a5] at J;have Y:=RelL.bare (E:=envOf G H loc ver w) (E':=iD w (qW G H loc w)) (fun _ _ _ h _=>h) (fun _ h=>h) J y;have e1:=oZ hT (.func d.f);simp only[ev] at e1;generalize hv:a.eval (.func d.f)=v at e1;cases e1 with
  | clo _ _ _ va vb ha hb'=>
   cases ha;cases hb';refine .call d.f ⟨[]++c.args.toList.map a.eval++ []⟩ ?_ fun m=>hF.calls ?_
   ·simp only[execOp,u];rw[Ik hc hv];exact a3 _ _
   rw[jI,eH];refine (W _ w _ (hY.now hI) (fun _ h=>h.2.1) Y).mono ?_;rintro en w' ⟨v,L',rfl,hbel,hblk,⟨q1,q2,rs,q3,q4⟩,hrel⟩;have hf:=hI.atRes hn (w':=w') (.vec 1 t ys e) L' 1 hbel.size hbel.os hbel.tape hbel.output (fun b y=>hbel.block b y) (fun b y=>hblk b y)
    (fun hx=>⟨rfl,Nat.one_pos,q1,q2,rs,q3,fun i hi=>by
     refine (q4 i hi).mono (fun _ _ _ h=>h) fun b y=>To hI n (fun k D=>⟨bS D,dJ _ _ _ D⟩) ?_ y.2.1 ?_
     ·rcases y.1 with h | h
      ·exact .inl h
      exact .inr (.inr h)
     intro o2 h1 h2
     first
      | rw[aP B] at h1
      | rw[show cA H n _=H.set n _ from rfl,aP B] at h1
     cases h1;rw[bF] at h2
     exact y.2.2 h2⟩) (by intro _ _ _ h;cases h)
   exact ⟨v,rfl,_,_,hf.1,Xr (by exact Nh B rfl) (by simp[envOf,bF]) (by simp[envOf,bF]) hrel a0,hf.2⟩
 cases h
structure FxOk (ops:Array Oper) (n0 na k:Nat) (fx:List Fx):Prop where
 lt:∀f∈fx,f.p<k
 apart:fx.Pairwise fun a b=>a.p≠b.p
 names:∀f∈fx,f.n<n0+na
 own:∀f∈fx,n0<=f.n->∀g∈fx,f.p<g.p->g.n=f.n->∃o,ops[g.p]? =some o/\waits o f.p=true
structure OneG (P:Program) (G:Ctx) (Γ:List Con) (ops:Array Oper) (n0 na:Nat) (N:Nat) (fx:List Fx) (rs:List Rc) (wr:Nat->SV) (sv:SV) (wn:Bool) (j:Nat) (o:Oper):Prop where
 want:∀(E:Env) (a:Act),(∀t,lk ops o t->Rel E (wr t) (a.tmps.getD t undef))->Region.wanted o (yielded ops a.tmps)=wn
 skip:wn=false->sv= .tup []/\∀f∈fx,f.p≠j
 dst:∀t,o.dst=some t->t<N
 plain:o.guard=none->wn=true
 run:wn=true->(isA Γ o=true/\∃f lr,f∈fx/\f.p=j/\n0<=f.n/\(∀g∈fx,g.p≠j->g.n=f.n->j<g.p)/\AllocOK P G N o lr f.n sv f.o/\∀(t:Nat) (E:Env) (v:Value),(lk ops o t->Rel E (wr t) v)->Rel E (look lr t) v)\/
  (isA Γ o=false/\∃lr H0 H1 X,⟨j,o,lr,sv⟩∈rs/\op1 P Γ o lr H0 (fun s' H'=>Pinned (s'=sv) (H'=H1) X)/\(isL Γ o=false->∀f∈fx,f.p≠j)/\∀(t:Nat) (E:Env) (v:Value),(lk ops o t->Rel E (wr t) v)->Rel E (look lr t) v)
theorem JM (l:List (Nat × SV)){xs:List Operand}{x:Operand}(h:x∈xs):ev (kN l xs) x=ev l x:=by
 cases x with
 | tmp t=>
  simp only[ev]
  induction xs with
  | nil=>cases h
  | cons y ys ih=>
   cases y with
   | tmp u=>
    simp only[kN,look];by_cases e:u=t
    ·subst e;rw[iF];rfl
    rw[lY e];simp only[cM];refine ih ?_;rcases bY.1 h with c | c
    ·cases c;exact absurd rfl e
    exact c
   | _=>
    simp only[kN];refine ih ?_;rcases bY.1 h with c | c
    ·cases c
    exact c
 | _=>rfl
theorem virtG (hY:COK P G)(hΓ:∀c∈Γ,aM P c){y:Array Oper}{m:Nat}(hq:∀i o,i<m->y[i]? =some o->Pf y.toList m i o=true)(d3:∀i o,y[i]? =some o->Wq i o=true)(c1:Nat->SV){Z:Nat}{B:List HO}{K:List (Nat × SV)->List HO->List Fx->List Rc->Prop}(hB:∀n,Z<=n->n<B.length->B[n]? =some .res):
  ∀(a7:List Oper) (k:Nat),(y.toList.take m).drop k=a7->
  ∀ {H:List HO} {fx:List Fx} {rs:List Rc} {na:Nat} {loc:Nat->Loc} {ver:Nat->Nat} {w:World} {l:List (Nat × SV)} {a:Act} {wr:Nat->SV},Inv G H loc ver w->TRel (envOf G H loc ver w) N l a->(∀(E:Env) (t:Nat) (v:Value),Rel E (wr t) v->Rel E (look l t) v)->
  H=jW B fx (fun j=>decide (j<k))->FxOk y Z na k fx->Z+na+yY Γ a7<=B.length->
  (∀t,(∀j o,j<k->y[j]? =some o->o.dst≠some t)->wr t=c1 t)->
  El P Γ N y.toList Z a7 k l H fx rs na K->
  ∃(W:Nat->SV) (sv:Nat->SV) (wn:Nat->Bool) (lf:List (Nat × SV)) (Hf:List HO) (C:List Fx) (a4:List Rc) (a3:Nat),K lf Hf C a4/\(∀(E:Env) (t:Nat) (v:Value),Rel E (W t) v->Rel E (look lf t) v)/\
   (∀t,(∀j o,k<=j->j<m->y[j]? =some o->o.dst≠some t)->W t=wr t)/\Hf=jW B C (fun j=>decide (j<max k m))/\FxOk y Z a3 (max k m) C/\Z+a3<=B.length/\
   (∃p,C=p++fx/\∀f∈p,k<=f.p)/\(∀r∈rs,r∈a4)/\
   (∀j o,k<=j->j<m->y[j]? =some o->(∀t,o.dst=some t->W t=sv j)/\OneG P G Γ y Z a3 N C a4 (Yi y m c1 W j) (sv j) (wn j) j o):=by
 intro a7
 induction a7 with
 | nil=>
  intro k hk H fx rs na loc ver w l a wr hI hT b1 hH z f0 d4 h;have e7:(y.toList.take m).length<=k:=sN.1 hk;have h':jW B fx (fun j=>decide (j<k))=jW B fx (fun j=>decide (j<max k m)):=lQ B fx fun f A=>by
   have:=z.lt f A;have h2:f.p<max k m:=om;simp[this,h2]
  refine ⟨wr,fun _=>.any,fun _=>false,l,H,fx,rs,na,h,b1,fun _ _=>rfl,hH.trans h',⟨fun f A=>by have:=z.lt f A;omega,z.apart,z.names,z.own⟩,by simpa [yY] using f0,⟨[],rfl,si⟩,fun _ h=>h,fun j o h1 h2 h3=>?_⟩;have hj:=(aH.1 h3).1;simp at e7;omega
 | cons o r ih=>
  intro k hk H fx rs na loc ver w l a wr hI hT b1 hH z f0 d4 h;have b8:(y.toList.take m)[k]? =some o:=by
   have:((y.toList.take m).drop k)[0]? =some o:=by rw[hk];rfl
   rw[aX] at this;simpa using this
  have b7:k<m:=by
   rw[aL] at b8;split at b8
   ·assumption
   cases b8
  have a':y[k]? =some o:=by
   rw[aL,aE b7] at b8;simpa using b8
  have i3:(y.toList.take m).drop (k+1)=r:=by rw[<- dW,hk];rfl
  have f':=hq k o b7 a';have i4:H.length=B.length:=by rw[hH,xU]
  simp only[BI] at h;obtain ⟨l',b,i8,b2,c0⟩:=JH h;have c7:TRel (envOf G H loc ver w) N l' a:=⟨hT.size,fun t=>b2 _ t _ (hT.rel t)⟩;have a9:∀(E:Env) (t:Nat) (v:Value),Rel E (wr t) v->Rel E (look l' t) v:=fun E t v h=>b2 E t v (b1 E t v h)
  -- behind this operation, whatever it has left
  have b3:∀ {H':List HO} {fx1:List Fx} {rs1:List Rc} {na1:Nat} {Y:Nat->Loc} {a0:Nat->Nat} {w':World} {s:SV} {v:Value},Inv G H' Y a0 w'->Ext (envOf G H loc ver w) (envOf G H' Y a0 w')->Rel (envOf G H' Y a0 w') s v->
    H'=jW B fx1 (fun j=>decide (j<k+1))->FxOk y Z na1 (k+1) fx1->Z+na1+yY Γ r<=B.length->(∃p,fx1=p++fx/\∀f∈p,f.p=k)->(∀r∈rs,r∈rs1)->
    wC N l' o.dst s (fun b6=>El P Γ N y.toList Z r (k+1) b6 H' fx1 rs1 na1 K)->
    (b=false->s= .tup []/\fx1=fx)->
    (b=true->(isA Γ o=true/\∃f lr,f∈fx1/\f.p=k/\Z<=f.n/\(∀g∈fx1,g.p≠k->g.n≠f.n)/\AllocOK P G N o lr f.n s f.o/\lr=kN l' o.op.operands.toList)\/
     (isA Γ o=false/\∃lr H0 H1 X,⟨k,o,lr,s⟩∈rs1/\op1 P Γ o lr H0 (fun s' H'=>Pinned (s'=s) (H'=H1) X)/\(isL Γ o=false->fx1=fx)/\lr=kN l' o.op.operands.toList))->
    ∃(W:Nat->SV) (sv:Nat->SV) (wn:Nat->Bool) (lf:List (Nat × SV)) (Hf:List HO) (C:List Fx) (a4:List Rc) (a3:Nat),K lf Hf C a4/\(∀(E:Env) (t:Nat) (v:Value),Rel E (W t) v->Rel E (look lf t) v)/\
     (∀t,(∀j o,k<=j->j<m->y[j]? =some o->o.dst≠some t)->W t=wr t)/\Hf=jW B C (fun j=>decide (j<max k m))/\FxOk y Z a3 (max k m) C/\Z+a3<=B.length/\
     (∃p,C=p++fx/\∀f∈p,k<=f.p)/\(∀r∈rs,r∈a4)/\
     (∀j o,k<=j->j<m->y[j]? =some o->(∀t,o.dst=some t->W t=sv j)/\OneG P G Γ y Z a3 N C a4 (Yi y m c1 W j) (sv j) (wn j) j o):=by
   intro H' fx1 rs1 na1 Y a0 w' s v a8 a6 i7 g' d8 f8 g5 d1 cA d2 g7;obtain ⟨p1,i6,g0⟩:=g5;obtain ⟨d5,a2⟩:∃d5:Nat->SV,d5=fun t=>if o.dst=some t then s else wr t:=⟨_,rfl⟩;have d0:∃b6,El P Γ N y.toList Z r (k+1) b6 H' fx1 rs1 na1 K/\TRel (envOf G H' Y a0 w') N b6 (a.put o.dst v)/\(∀(E:Env) (t:Nat) (v:Value),Rel E (d5 t) v->Rel E (look b6 t) v)/\∀t,o.dst=some t->t<N:=by
    cases hd:o.dst with
    | none=>
     rw[hd] at cA;refine ⟨l',cA,c7.ext a6,fun E t v h=>?_,fun t h=>by cases h⟩;rw[a2] at h;simp only[hd] at h;exact a9 E t v (by simpa using h)
    | some u=>
     rw[hd] at cA;obtain ⟨hu,cA⟩:=bD cA;rw[cD] at cA;have g8:u<N:=by simpa using hu
     refine ⟨_,cA,?_,fun E t v h=>?_,fun t h=>by cases h;exact g8⟩
     ·refine ⟨by simp[Act.put];exact hT.size,fun t=>?_⟩;rw[qB,zX a u t v (by rw[hT.size];exact g8)];by_cases e:t=u
      ·rw[aE e,aE e];exact i7
      rw[aD e,aD e];exact (c7.ext a6).rel t
     rw[a2] at h;simp only[hd] at h;rw[qB];by_cases e:t=u
     ·rw[aE e];rw[aE (by rw[e])] at h;exact h
     rw[aD e];rw[aD (fun e'=>e (by cases e';rfl))] at h;exact a9 E t v h
   obtain ⟨b6,he,d6,c3,i2⟩:=d0
   obtain ⟨W,sv,wn,lf,Hf,C,a4,a3,h1,h2,h3,h6,h7,h8,⟨p2,c4,b9⟩,h9,h4⟩:=ih (k+1) i3 a8 d6 c3 g' d8 f8 (fun t ht=>by
    rw[a2];simp only[aD (ht k o (iK k) a')]
    exact d4 t fun j o' hj=>ht j o' om) he
   have e9:max (k+1) m=max k m:=om;rw[e9] at h6 h7;have g9:∀t,lk y o t->Yi y m c1 W k t=wr t:=by
    intro t ht;have g6:=xS f' ht;unfold Yi;by_cases hl:late y m k t
    ·rw[aE hl];obtain ⟨j0,o0,g1,g2,g3,g4⟩:=hl;obtain ⟨e,he,hb,j2⟩:=pA g4;have j1:=uB (d3 j0 o0 g2) e he hb;refine (d4 t fun j o' hj a1 hd=>?_).symm;have:=wQ (hq j0 o0 g1 g2) g3 (show j<m by omega) a1 hd;omega
    rw[aD hl];have h5:=h3 t fun j o' d9 b5 a1 hd=>by
     rcases pO g6 b5 a1 hd with h6 | h6
     ·have:=h6.2;omega
     exact hl ⟨j,o',b5,a1,hd,h6⟩
    rw[h5,a2];have:o.dst≠some t:=fun hd=>by
     rcases pO g6 b7 a' hd with h6 | h6
     ·have:=h6.2;omega
     exact hl ⟨k,o,b7,a',hd,h6⟩
    simp only[aD this]
   have e8:∀(t:Nat) (E:Env) (v:Value),(lk y o t->Rel E (Yi y m c1 W k t) v)->Rel E (look (kN l' o.op.operands.toList) t) v:=by
    intro t E v hr;rcases rM l' o.op.operands.toList t with h5 | ⟨h5,h6⟩
    ·rw[h5];exact .any v
    rw[h6];have hl:lk y o t:=.inl h5;exact a9 E t v (by rw[<- g9 t hl];exact hr hl)
   have c6:fx1=fx->∀f∈C,f.p≠k:=by
    intro e f A;rw[c4,e] at A;rcases eT.1 A with h | h
    ·have:=b9 f h;omega
    have:=z.lt f h;omega
   refine ⟨W,fun j=>if j=k then s else sv j,fun j=>if j=k then b else wn j,lf,Hf,C,a4,a3,h1,h2,fun t ht=>?_,h6,h7,h8,⟨p2++p1,by rw[c4,i6,bW],fun f A=>?_⟩,fun q hq=>h9 q (d1 q hq),fun j o' d9 b5 a1=>?_⟩
   ·rw[h3 t fun j o' d9 b5 a1=>ht j o' om b5 a1,a2];simp only[aD (ht k o (aI _) b7 a')]
   ·rcases eT.1 A with h | h
    ·have:=b9 f h;omega
    have:=g0 f h;omega
   by_cases e:j=k
   ·subst e;rw[a'] at a1;cases a1;simp only[if_true];refine ⟨fun t hd=>?_,⟨fun E a hr=>c0 E a fun t ht=>b1 E t _ (by rw[<- g9 t ht];exact hr t ht),fun hb=>?_,i2,?_,fun hb=>?_⟩⟩
    ·rw[h3 t fun j' o' i' d' e0 i1=>by have:=wQ f' hd d' e0 i1;omega,a2];simp only[aE hd]
    ·obtain ⟨q1,q2⟩:=d2 hb;exact ⟨q1,c6 q2⟩
    ·intro hg;rw[<- c0 (envOf G H loc ver w) a fun t _=>hT.rel t];simp[Region.wanted,hg]
    rcases g7 hb with ⟨q1,f,lr,q2,q3,q4,q6,q5,rfl⟩ | ⟨q1,lr,H0,H1,X,q2,q3,q4,rfl⟩
    ·refine .inl ⟨q1,f,_,by rw[c4];exact List.mem_append_right _ q2,q3,q4,fun g hg J D=>?_,q5,e8⟩;rw[c4] at hg;rcases eT.1 hg with h | h
     ·have:=b9 g h;omega
     exact absurd D (q6 g h J)
    exact .inr ⟨q1,_,H0,H1,X,h9 _ q2,q3,fun hl=>c6 (q4 hl),e8⟩
   simp only[aD e];exact h4 j o' om b5 a1
  have c8:TRel (envOf G H loc ver w) N (kN l' o.op.operands.toList) a:=⟨hT.size,fun t=>by
   rcases rM l' o.op.operands.toList t with h5 | ⟨h5,h6⟩
   ·rw[h5];exact .any _
   rw[h6];exact c7.rel t⟩
  have c2:∀C,(∀f∈C,f.p<k)->jW B C (fun j=>decide (j<k))=jW B C (fun j=>decide (j<k+1)):=fun C h=>lQ B C fun f A=>by
   have:=h f A;simp[this,nB this]
  have c5:FxOk y Z na (k+1) fx:=⟨fun f A=>nB (z.lt f A),z.apart,z.names,z.own⟩;have i9:yY Γ r<=yY Γ (o::r):=by
   simp only[yY];cases isA Γ o<;>simp
  rcases i8 with ⟨rfl,hy⟩ | ⟨rfl,hn⟩
  ·cases hA:isA Γ o with
   | true=>
    rw[hA] at hy;simp only at hy;have h0:yY Γ (o::r)=yY Γ r+1:=by simp[yY,hA]
    obtain ⟨s,ob,hs,d7⟩:=Uh hY hΓ (G:=G) (N:=N) (lr:=kN l' o.op.operands.toList) hy fun x hx=>JM l' (by simpa using hx);have i5:H[Z+na]? =some .res:=by
     rw[hH,Ag B fx fun g hg _=>by have:=z.names g hg;omega];exact hB _ om om
    obtain ⟨_,a5⟩:=d7.2 (F:=Fence.wide) ⟨none,rfl⟩ hI i5 c8;obtain ⟨v,w',Y,a0,a8,b',a6⟩:=a5.ex;refine b3 (fx1:=⟨k,Z+na,ob⟩::fx) (rs1:=rs) (na1:=na+1) a8 a6 b' ?_ ⟨fun f A=>?_,vB.2 ⟨fun f A=>?_,z.apart⟩,fun f A=>?_,fun f A hn g hg J D=>?_⟩ om ⟨[⟨k,Z+na,ob⟩],rfl,si⟩ (fun _ h=>h) ?_ (fun h=>by cases h) (fun _=>.inl ⟨hA,_,_,cQ,rfl,Nat.le_add_right _ _,fun g hg J D=>?_,d7,rfl⟩)
    ·simp only[oX];rw[show decide (k<k+1)=true by simp,bP,<- c2 fx z.lt,<- hH]
    ·rcases bY.1 A with rfl | A
     ·exact iK _
     exact nB (z.lt f A)
    ·have:=z.lt f A;show k≠f.p;omega
    ·rcases bY.1 A with rfl | A
     ·show Z+na<Z+(na+1);omega
     have:=z.names f A;omega
    ·rcases bY.1 A with rfl | A
     ·rcases bY.1 hg with rfl | hg
      ·exact absurd J (iQ _)
      have:=z.lt g hg;have J:k<g.p:=J;omega
     rcases bY.1 hg with rfl | hg
     ·have:=z.names f A;have D:Z+na=f.n:=D;omega
     exact z.own f A hn g hg J D
    ·simp only[cD] at hs;exact hs
    rcases bY.1 hg with rfl | hg
    ·exact absurd rfl J
    have:=z.names g hg;have D:g.n=Z+na:=D;omega
   | false=>
    rw[hA] at hy;simp only at hy;have h0:yY Γ (o::r)=yY Γ r:=by simp[yY,hA]
    cases hL:isL Γ o with
    | true=>
     rw[hL] at hy;simp only at hy;obtain ⟨s,ob,hs⟩:=hy.ex;rw[cD] at hs;obtain ⟨_,a5⟩:=rK (F:=Fence.wide) hY hΓ ⟨none,rfl⟩ hI c8 hs;obtain ⟨v,w',s',H',Y,a0,hp,a8,b',a6⟩:=a5.ex;obtain ⟨rfl,rfl,b4⟩:=hp;obtain ⟨c',b4⟩:=bD b4;have c':Vy (kN l' o.op.operands.toList) o<Z\/(Vy (kN l' o.op.operands.toList) o<Z+na/\U7 o (Vy (kN l' o.op.operands.toList) o) fx=true):=by
      simpa only[dA,aG,Nat.blt_eq] using c'
     refine b3 (fx1:=⟨k,Vy (kN l' o.op.operands.toList) o,ob⟩::fx) (rs1:=⟨k,o,kN l' o.op.operands.toList,s'⟩::rs) (na1:=na) a8 a6 b' ?_ ⟨fun f A=>?_,vB.2 ⟨fun f A=>?_,z.apart⟩,fun f A=>?_,fun f A hn g hg J D=>?_⟩ om ⟨[⟨k,_,ob⟩],rfl,si⟩ (fun _ h=>cC _ h) ?_ (fun h=>by cases h) (fun _=>.inr ⟨hA,_,H,_,_,cQ,hs,(fun h=>by rw[hL] at h;cases h),rfl⟩)
     ·simp only[oX];rw[show decide (k<k+1)=true by simp,bP,<- c2 fx z.lt,<- hH]
     ·rcases bY.1 A with rfl | A
      ·exact iK _
      exact nB (z.lt f A)
     ·have:=z.lt f A;show k≠f.p;omega
     ·rcases bY.1 A with rfl | A
      ·show Vy _ o<Z+na;omega
      exact z.names f A
     ·rcases bY.1 A with rfl | A
      ·rcases bY.1 hg with rfl | hg
       ·exact absurd J (iQ _)
       have:=z.lt g hg;have J:k<g.p:=J;omega
      rcases bY.1 hg with rfl | hg
      ·have D:Vy (kN l' o.op.operands.toList) o=f.n:=D;rcases c' with h1 | ⟨_,h1⟩
       ·omega
       exact ⟨o,a',Wr h1 f A D.symm⟩
      exact z.own f A hn g hg J D
     simp only[cD] at b4;exact b4
    | false=>
     rw[hL] at hy;simp only at hy;obtain ⟨s,hs⟩:=hy.ex;rw[cD] at hs;obtain ⟨_,a5⟩:=rK (F:=Fence.wide) hY hΓ ⟨none,rfl⟩ hI c8 hs;obtain ⟨v,w',s',H',Y,a0,hp,a8,b',a6⟩:=a5.ex;obtain ⟨rfl,rfl,b4⟩:=hp;exact b3 (fx1:=fx) (rs1:=⟨k,o,kN l' o.op.operands.toList,s'⟩::rs) (na1:=na) a8 a6 b' (by rw[<- c2 fx z.lt];exact hH) c5 om ⟨[],rfl,si⟩ (fun _ h=>cC _ h) b4 (fun h=>by cases h) (fun _=>.inr ⟨hA,_,_,_,_,cQ,hs,(fun _=>rfl),rfl⟩)
  exact b3 (fx1:=fx) (rs1:=rs) (na1:=na) hI (Ext.refl _) (.tup [] [] .nil) (by rw[<- c2 fx z.lt];exact hH) c5 om ⟨[],rfl,si⟩ (fun _ h=>h) hn (fun _=>⟨rfl,rfl⟩) (fun h=>by cases h)
theorem Ah {n:Nat}:∀ {l:List Nat},Em n l=true↔n∈l
 | []=>by simp[Em]
 | x::r=>by
  simp only[Em,dA,bM,bY,Ah (l:=r)];exact ⟨fun h=>h.imp Eq.symm id,fun h=>h.imp Eq.symm id⟩
theorem Iz (S:Nat->Bool):∀ps:List Nat,ps.filter S∈Ws ps
 | []=>by simp[Ws]
 | p::r=>by
  have c:=Iz S r;simp only[Ws,eT,qN,List.filter_cons];cases S p with
  | true=>exact .inr ⟨_,c,rfl⟩
  | false=>exact .inl c
theorem JN {f ps:List Nat}{B:List HO}{fx:List Fx}{rs:List Rc}(h:N6 P Γ f ps B fx rs)(r:Rc)(c:r∈rs):BJ P Γ f ps B fx r.i r.o r.l r.s (Ws ps):=by
 induction rs with
 | nil=>cases c
 | cons q rs ih=>
  rw[FX] at h;rcases bY.1 c with e | c
  ·rw[e];exact h.chk
  exact ih h.go c
theorem Yu {e ps:List Nat}{B:List HO}{fx:List Fx}{r:Rc}:∀ {f:List (List Nat)},BJ P Γ e ps B fx r.i r.o r.l r.s f->∀sub∈f,IW e ps r.i sub=true->
  op1 P Γ r.o r.l (jW B fx fun j=>Em j sub) fun s' H'=>Pinned (s'=r.s) (H'=jW B fx fun j=>Em j sub || Nat.beq j r.i) Fin0
 | q::f,h,sub,c,ha=>by
  rw[FW] at h;rcases bY.1 c with rfl | c
  ·rw[ha] at h;have:=h.chk;unfold S0 at this;rwa [pG] at this
  refine Yu ?_ sub c ha;cases hc:IW e ps r.i q with
  | true=>rw[hc] at h;exact h.go
  | false=>rw[hc] at h;exact h
theorem Yv (hY:COK P G)(hΓ:∀c∈Γ,aM P c){F:Fence}(hF:Opn F){n:Nat}{u:Array Oper}{m:Nat}(a9:Bi u.toList m=true){l:List (Nat × SV)}{a:Act}{K:List (Nat × SV)->List HO->Prop}{Q:Exit->Act->World->Prop}(b8:∀e a w,Q e a w->e= .normal)(hI:Inv G H loc ver w)(hT:TRel (envOf G H loc ver w) N l a)(h:DR P Γ N u.toList m l H K)(hQ:∀l' H' loc' ver' a' w',K l' H'->Inv G H' loc' ver' w'->TRel (envOf G H' loc' ver' w') N l' a'->Ext (envOf G H loc ver w) (envOf G H' loc' ver' w')->Same (u.toList.filterMap (·.dst)) a a'->a'.defers=a.defers->Q .normal a' w'):
  wpAnyIn F n P .any u Q u.size (Array.replicate u.size false) a w:=by
 unfold DR at h;cases hl:IX Γ (u.toList.take m) with
 | false=>
  rw[hl] at h;exact BY hY hΓ hF a9 b8 hI hT h hQ
 | true=>
 rw[hl] at h;simp only[bP,cD,DQ,eS] at h;simp only[Bi,aG] at a9;obtain ⟨d9,d',e0,c7⟩:=a9;have d4:m<=u.size:=by simpa using d9
 have hq:∀i o,i<m->u[i]? =some o->Pf u.toList m i o=true:=fun i o hi A=>pP d' hi A;have a1:∀i o,u[i]? =some o->Wq i o=true:=fun i o A=>pP e0 (by simpa using (aH.1 A).1) A;have a4:∀i o,m<=i->u[i]? =some o->∀j,j<i->oJ (oW u.toList []) i j=true\/(j<m/\vU u.toList j=true):=by
  intro i o hi A j hj;rw[Bh] at c7;have:=pP c7 (by simpa using (aH.1 A).1) A;simp only[dA] at this;rcases this with Z | Z
  ·have:i<m:=by simpa using Z
   omega
  have:=fG.1 Z j (lL.2 hj);simpa using this
 obtain ⟨B,a2⟩:∃B,B=H++List.replicate (yY Γ (u.toList.take m)) HO.res:=⟨_,rfl⟩;rw[<- a2] at h;have e9:B.length=H.length+yY Γ (u.toList.take m):=by rw[a2];simp
 have hB:∀q,H.length<=q->q<B.length->B[q]? =some .res:=by
  intro q Z h2;rw[a2,cN Z,fO,aE om]
 obtain ⟨a7,b4⟩:=hI.keeps (yY Γ (u.toList.take m));rw[<- a2] at a7 b4;have c0:=hT.ext b4;obtain ⟨wr,sv,wn,lf,Hf,fx,rs,na,⟨a5,d3⟩,b9,e8,b6,a3,e',_,_,d0⟩:=virtG (N:=N) hY hΓ hq a1 (look l) hB (u.toList.take m) 0 si (fx:=[]) (rs:=[]) (na:=0) (wr:=look l) a7 c0 (fun _ _ _ h=>h) rfl ⟨si,.nil,si,si⟩ om (fun _ _=>rfl) h;rw[Nat.zero_max] at b6 a3;rw[Bh,IU] at a5;have c3:∀f∈fx,f.p∈fx.map (·.p):=fun f J=>qN.2 ⟨f,J,rfl⟩;refine Ys (N:=N) (hS:=jW B fx) (wr:=wr) (sv:=sv) (wn:=wn) (lf:=lf) (l:=l) hY hΓ hF d4 hq a1 a4 b9 (fun t ht=>e8 t fun j o _ h2 h3=>ht j o h2 h3) (fun j o hj A=>?_) b8 (by rw[xV];exact a7) (by rw[xV];exact c0) (by rw[<- b6];exact d3)
  (fun l' H' loc' ver' a' w' Z h2 h3 h4 h5 h6=>hQ l' H' loc' ver' a' w' Z h2 h3 (b4.trans (by rw[xV] at h4;exact h4)) h5 h6)
 obtain ⟨hd,y⟩:=d0 j o (aF _) hj A;refine ⟨hd,y.want,fun hb=>?_,fun hb=>?_,y.dst,fun x hx hg=>?_⟩
 ·intro F' b5 S hS loc' ver' w' a' b7 b2 b1;have c1:∀ {lr:List (Nat × SV)},(∀(t:Nat) (E:Env) (v:Value),(lk u o t->Rel E (Yi u m (look l) wr j t) v)->Rel E (look lr t) v)->TRel (envOf G (jW B fx S) loc' ver' w') N lr a':=fun D=>⟨b2,fun t=>D t _ _ (b1 t)⟩;rcases y.run hb with ⟨_,f,lr,J,Y,hn,a8,d1,D⟩ | ⟨_,lr,H0,H1,X,hr,_,_,D⟩
  ·have c4:∀g∈fx,S g.p=true->g.n≠f.n:=fun g hg C c2=>by
    by_cases c5:g.p=j
    ·rw[c5,hS.not] at C;cases C
    have hl:=a8 g hg c5 c2;obtain ⟨W,z,hw⟩:=a3.own f J hn g hg (by rw[Y];exact hl) c2;obtain ⟨e,he,d2,d6⟩:=pA hw;have:=hS.closed g.p W z C e he d2;rw[d6,Y,hS.not] at this;cases this
   rw[Qz B fx J Y hS.not a3.apart fun g hg _ C=>c4 g hg C];refine d1.2 b5 b7 ?_ (c1 D);rw[Ag B fx fun g hg C=>c4 g hg C];exact hB _ hn (by have:=a3.names f J;omega)
  have b':∀f∈fx,Em f.p ((fx.map (·.p)).filter S)=S f.p:=fun f J=>by
   rw[kM,Ah,mS];exact ⟨fun h=>h.2,fun h=>⟨c3 f J,h⟩⟩
  have hc:=Yu (JN a5 _ hr) _ (Iz S (fx.map (·.p))) ?_
  ·have e1:(jW B fx fun q=>Em q ((fx.map (·.p)).filter S))=jW B fx S:=lQ B fx b';have e2:(jW B fx fun q=>Em q ((fx.map (·.p)).filter S) || Nat.beq q j)=jW B fx (addS S j):=lQ B fx fun f J=>by simp only[addS,b' f J]
   rw[e1,e2] at hc;obtain ⟨d5,c6⟩:=rK hY hΓ b5 b7 (c1 D) hc;refine ⟨d5,c6.mono ?_⟩;rintro v w2 ⟨s',H',loc2,ver2,⟨rfl,rfl,_⟩,Z,h2,h3⟩;exact ⟨loc2,ver2,Z,h2,h3⟩
  have b3:∀i p W,u[i]? =some W->oJ (oW u.toList []) i p=true->(∀e∈W.after,Region.binds .any e=true->S e.on=true)->S p=true:=fun i p W z hw Y=>vK (L:=fun j=>S j=true) hS.closed z hw Y;have a6:∀p,S p=true->∃W,u[p]? =some W:=fun p Y=>by
   have:=hS.lt p Y;exact ⟨u[p]'(by omega),by simp[show p<u.size by omega]⟩
  simp only[IW,aG,nA,fG,dA];refine ⟨?_,fun p Y=>?_,fun p Y=>⟨?_,fun q d8=>?_⟩⟩
  ·rw[vP,Ne,Ah,mS];rintro ⟨_,h2⟩;rw[hS.not] at h2;cases h2
  ·cases hw:oJ (oW u.toList []) j p with
   | false=>exact .inl rfl
   | true=>exact .inr (Ah.2 (mS.2 ⟨Y,b3 j p o A hw hS.own⟩))
  ·have a0:=(mS.1 Y).2;cases hw:oJ (oW u.toList []) p j with
   | false=>rfl
   | true=>
    obtain ⟨W,z⟩:=a6 p a0;have:=b3 p j W z hw (hS.closed p W z a0);rw[hS.not] at this;cases this
  have a0:=(mS.1 Y).2;cases hw:oJ (oW u.toList []) p q with
  | false=>exact .inl rfl
  | true=>
   obtain ⟨W,z⟩:=a6 p a0;exact .inr (Ah.2 (mS.2 ⟨d8,b3 p q W z hw (hS.closed p W z a0)⟩))
 ·obtain ⟨Z,h2⟩:=y.skip hb;refine ⟨Z,fun S=>lQ B fx fun f J=>?_⟩;simp[addS,lY (h2 f J)]
 have e7:=y.plain hg;rcases y.run e7 with ⟨hA,_⟩ | ⟨_,lr,H0,H1,X,hr,d7,Co,D⟩
 ·cases A:o.op<;>rw[A] at hx<;>first | (simp[isA,A] at hA;done) | cases hx
 have Co:=Co (by cases A:o.op<;>rw[A] at hx<;>first | (simp[isL,A];done) | cases hx);refine ⟨fun E a b2 b1=>?_,fun S=>lQ B fx fun f J=>by simp[addS,lY (Co f J)]⟩;obtain ⟨s,v0,hk,c8,c'⟩:=Yk hx d7 (oZ (E:=E) (a:=a) (N:=N) ⟨b2,fun t=>D t _ _ (b1 t)⟩ x);rw[hk.val] at c8;exact ⟨v0,c8,c'⟩
end
end Go.Eng
end
section
namespace Go.Eng
open Go.RowKit
section
variable {P:Program} {G:Ctx} {N:Nat}
theorem rN (hY:COK P G){Γ:List Con}(hΓ:∀c∈Γ,aM P c){A:Anns}(c:Code):∀u,Qt P G N Γ A u c:=by
 induction c with
 | skip=>
  intro u F n hF H loc ver w l a K hI hT E h;exact wpIn_skip ⟨l,H,loc,ver,h,hI,hT,.refl _ _,.refl _ _,.refl _ _ _⟩
 | label n=>
  intro u F n hF H loc ver w l a K hI hT E h;exact wpIn_label ⟨l,H,loc,ver,h,hI,hT,.refl _ _,.refl _ _,.refl _ _ _⟩
 | ret=>
  intro u F n hF H loc ver w l a K hI hT E h;exact wpIn_ret ⟨l,H,loc,ver,h,hI,hT,.refl _ _,.refl _ _,.refl _ _ _⟩
 | exit id=>
  intro u F n hF H loc ver w l a K hI hT E h;exact wpIn_exit ⟨l,H,loc,ver,h,hI,hT,.refl _ _,.refl _ _,.refl _ _ _⟩
 | region id ops draw=>
  intro u F n hF H loc ver w l a K hI hT E h;cases draw with
  | true=>
   simp only[nH,rD,uK,rE,oY,rF,jX] at h;obtain ⟨hc,h⟩:=bD h;obtain ⟨hm,hq⟩:=and2 hc;refine wpIn_region_any hm ?_;have hg:=hI.grow (w':={ w with drawn:=w.drawn+1 }) ⟨rfl,rfl,rfl,aI _,fun _ _=>rfl⟩;refine Bt (Q:=fun e B w'=>e= .normal/\After G N (gE (.region id ops true)) (dL A u (.region id ops true)) K (envOf G H loc ver w) a .normal B w') (fun e B w' h=>by obtain ⟨rfl,h⟩:=h;exact h) _ _ _ _ ?_;refine Yv hY hΓ hF hq (fun e B w' h=>h.1) hg.1 (hT.ext hg.2) h ?_;intro W H' g o B w' Y h2 h3 Z J h6;exact ⟨rfl,W,H',g,o,Y,h2,h3,(hg.2.trans Z).toO _,J,.of_eq h6⟩
  | false=>
   simp only[nH,rD,uK,rE,oY,rF,jX] at h;refine wpIn_region ?_;have:=Ps (N:=N) (n:=n) hY hΓ hF ops.toList 0 si (Q:=After G N (gE (.region id ops false)) (dL A u (.region id ops false)) K (envOf G H loc ver w) a) hI hT h
    (fun W H' g o B w' Y h2 h3 Z J h6=>⟨W,H',g,o,Y,h2,h3,Z.toO _,J,.of_eq h6⟩)
   rw[List.range_eq_range'];simpa using this
 | seq x y ihx ihy=>
  intro u F n hF H loc ver w l a K hI hT E h;refine wpIn_seq ?_;have a5:∀ {H':List HO} {g:Nat->Loc} {o:Nat->Nat} {w':World} {W:List (Nat × SV)} {B:Act},Inv G H' g o w'->TRel (envOf G H' g o w') N W B->nE P Γ N A u y W H' K->
    ExtO (dL A u (.seq x y)) (envOf G H loc ver w) (envOf G H' g o w')->Same (gE (.seq x y)) a B->Marked (envOf G H loc ver w) (envOf G H' g o w') a.defers B.defers->
    y.wpIn F n P (After G N (gE (.seq x y)) (dL A u (.seq x y)) K (envOf G H loc ver w) a) B w':=by
   intro H' g o w' W B c' d1 h' hx hs hd;refine wpIn_mono (ihy u hF c' d1 (E.ext hx) h') ?_;intro e d6 d9 c8;refine After.trans hx hs hd (c8.mono (Iq _ _) (fun m hm=>?_) fun _ _ h=>h);simp only[dL];rw[mem_append,mem_append,hm];simp
  simp only[nH,rD,uK,rE,oY,rF,jX] at h;cases hc:DU A y with
  | none=>
   rw[hc] at h;refine wpIn_mono (ihx u hF hI hT E h) ?_;rintro e B w' ⟨W,H',g,o,Y,h2,h3,Z,J,h6⟩;have hD:∀m,mem m (dL A u x)=true->mem m (dL A u (.seq x y))=true:=by
    intro m hm;simp only[dL];rw[mem_append,mem_append,hm];simp
   cases e with
   | normal=>exact a5 h2 h3 Y (Z.mono hD) (J.mono (yT _ _)) h6
   | _=>exact ⟨W,H',g,o,Y,h2,h3,Z.mono hD,J.mono (yT _ _),h6⟩
  | some C=>
   rw[hc] at h;obtain ⟨b6,a6⟩:=h;obtain ⟨_,hx⟩:=a6.init;have hD:∀m,mem m (dL A u x)=true->mem m (dL A u (.seq x y))=true:=by
    intro m hm;simp only[dL];rw[mem_append,mem_append,hm];simp
   have hO:∀m,mem m C.objs=true->mem m (dL A u (.seq x y))=true:=by
    intro m hm;simp only[dL,hc];rw[mem_append,hm];simp
   refine wpIn_mono (ihx u hF hI hT E hx) ?_;rintro e B w' ⟨W,H',g,o,Y,h2,h3,Z,J,h6⟩;cases e with
   | normal=>
    obtain ⟨z,hz⟩:=Y;have a7:=and2 (b6 z);have a8:=and2 a7.1;have b7:=and2 a8.1;obtain ⟨b3,b4,b1⟩:=Ez hI hT h2 h3 Z J (bM.1 b7.2) a7.2 a8.2 hz;have hr:=a6.round () z hz.pre;rw[nZ,pG] at hr;refine a5 b3 b4 hr (b1.mono hO) (J.mono (yT _ _)) ?_;obtain ⟨Ds,m1,m2,m3⟩:=h6;refine ⟨Ds,m1,m2,fun D hD=>?_⟩;obtain ⟨q1,q2,q3⟩:=m3 D hD;refine ⟨q1,?_,q3⟩;intro hq;rcases b1.ali D hq with q4 | q4
    ·obtain ⟨nm,st,k,it,e1,e2⟩:=hq;obtain ⟨o',e3,e4⟩:=(pL hz.ent.2).2 nm _ e1;cases o' with
     | yst=>exact q2 ⟨nm,_,_,_,e3,e2⟩
     | _=>cases e4
    obtain ⟨nm,st,k,it,e1,e2⟩:=hq;obtain ⟨o',e3,e4⟩:=(pL hz.ent.2).2 nm _ e1;cases o' with
    | yst=>exact q2 ⟨nm,_,_,_,e3,e2⟩
    | _=>cases e4
   | _=>exact ⟨W,H',g,o,Y,h2,h3,Z.mono hD,J.mono (yT _ _),h6⟩
 | cond c x y ihx ihy=>
  intro u F n hF H loc ver w l a K hI hT E h;have hr:=oZ hT c;have hX:nE P Γ N A u x l H K->x.wpIn F n P (After G N (gE (.cond c x y)) (dL A u (.cond c x y)) K (envOf G H loc ver w) a) a w:=fun h=>
   wpIn_mono (ihx u hF hI hT E h) fun e B w' h'=>h'.mono (yT _ _) (yT _ _) fun _ _ h=>h
  have b9:nE P Γ N A u y l H K->y.wpIn F n P (After G N (gE (.cond c x y)) (dL A u (.cond c x y)) K (envOf G H loc ver w) a) a w:=fun h=>
   wpIn_mono (ihy u hF hI hT E h) fun e B w' h'=>h'.mono (Iq _ _) (Iq _ _) fun _ _ h=>h
  simp only[nH,rD,uK,rE,oY,rF,jX] at h;split at h
  ·rename_i hl;rw[hl] at hr;exact wpIn_cond_true hr.bool_inv (hX h)
  ·rename_i hl;rw[hl] at hr;exact wpIn_cond_false hr.bool_inv (b9 h)
  ·rename_i p d hl;rw[hl] at hr;generalize hv:a.eval c=v at hr;cases hr;by_cases hp:p
   ·exact wpIn_cond_true (by rw[hv];simp[hp]) (hX (h.yes hp))
   exact wpIn_cond_false (by rw[hv];simp[hp]) (b9 (h.no hp))
  cases h
 | block id c ih=>
  intro u F n hF H loc ver w l a K hI hT E h;simp only[nH,rD,uK,rE,oY,rF,jX] at h;refine wpIn_block (wpIn_mono (ih id hF hI hT E h) ?_);rintro e B w' ⟨W,H',g,o,Y,h2,h3,Z,J,h6⟩;cases e with
  | exit m=>
   simp only at Y;simp only[Exit.inBlock];by_cases hm:m=id
   ·subst hm;rw[iF] at Y;simp only[bP] at Y;rw[aE rfl];exact ⟨W,H',g,o,Y,h2,h3,Z,J,h6⟩
   rw[lY hm] at Y;simp only[cM] at Y;rw[aD hm];exact ⟨W,H',g,o,Y,h2,h3,Z,J,h6⟩
  | _=>exact ⟨W,H',g,o,Y,h2,h3,Z,J,h6⟩
 | loop c ih=>
  intro u F n hF H loc ver w l a K hI hT E h;simp only[nH,rD,uK,rE,oY,rF,jX] at h;rcases Hz h with ⟨C,hA,h⟩ | h;case inr=>
   have hD:∀m,mem m (dL A u c)=true->mem m (dL A u (.loop c))=true:=by
    intro m hm;simp only[dL];exact yT _ _ m hm
   refine Mq (fun k B w'=>∃W H' g o,Gg (nE P Γ N A u c) k W H' K/\Inv G H' g o w'/\TRel (envOf G H' g o w') N W B/\ExtO (dL A u (.loop c)) (envOf G H loc ver w) (envOf G H' g o w')/\Same (gE (.loop c)) a B/\
     Marked (envOf G H loc ver w) (envOf G H' g o w') a.defers B.defers)
    ⟨_,l,H,loc,ver,h,hI,hT,.refl _ _,.refl _ _,.refl _ _ _⟩ ?_
   rintro k a1 w1 ⟨l1,H1,loc1,ver1,hu,hI1,hT1,hx1,hs1,hd1⟩;cases k with
   | zero=>cases hu
   | succ k=>
    simp only[Wv] at hu;refine wpIn_mono (ih u hF hI1 hT1 (E.ext hx1) hu) ?_;rintro e B w' ⟨W,H',g,o,Y,h2,h3,Z,J,h6⟩;cases e with
    | normal=>
     have Y:nG W (fun W=>pY H' fun H'=>Gg (nE P Γ N A u c) k W H' K):=Y;rw[nZ,pG] at Y;exact ⟨k,iK k,W,H',g,o,Y,h2,h3,hx1.trans (Z.mono hD),hs1.trans J,hd1.trans hx1.size Z h6⟩
    | _=>exact ⟨W,H',g,o,Y,h2,h3,hx1.trans (Z.mono hD),hs1.trans J,hd1.trans hx1.size Z h6⟩
  case inl=>
   obtain ⟨b6,a6⟩:=h;obtain ⟨x0,c6⟩:=a6.init;have hD:∀m,mem m (dL A u c)=true->mem m (dL A u (.loop c))=true:=by
    intro m hm;simp only[dL];exact yT _ _ m hm
   have hO:∀m,mem m C.objs=true->mem m (dL A u (.loop c))=true:=by
    intro m hm;simp only[dL,hA];exact Iq _ _ m hm
   have b2:∀ {x:C.X} {W:List (Nat × SV)} {H':List HO} {g:Nat->Loc} {o:Nat->Nat} {B:Act} {w':World},Inv G H' g o w'->TRel (envOf G H' g o w') N W B->ExtO (dL A u c++C.objs) (envOf G H loc ver w) (envOf G H' g o w')->Same (gE c) a B->
     Marked (envOf G H loc ver w) (envOf G H' g o w') a.defers B.defers->
     vV C x H W H'->Inv G (C.heap x H) g (jA C.objs (C.heap x H) o) w'/\TRel (envOf G (C.heap x H) g (jA C.objs (C.heap x H) o) w') N (Wu C x (gE c) l H) B/\
      ExtO C.objs (envOf G H loc ver w) (envOf G (C.heap x H) g (jA C.objs (C.heap x H) o) w')/\Marked (envOf G H loc ver w) (envOf G (C.heap x H) g (jA C.objs (C.heap x H) o) w') a.defers B.defers:=by
    intro x W H' g o B w' Y h2 h3 Z a9 J;have a7:=and2 (b6 x);have a8:=and2 a7.1;have b7:=and2 a8.1;obtain ⟨r1,r2,r3⟩:=Ez hI hT Y h2 h3 Z (bM.1 b7.2) a7.2 (Cx a8.2) J;refine ⟨r1,r2,r3,?_⟩;obtain ⟨Ds,m1,m2,m3⟩:=a9;refine ⟨Ds,m1,m2,fun D hD=>?_⟩;obtain ⟨q1,q2,q3⟩:=m3 D hD;refine ⟨q1,?_,q3⟩;rintro ⟨nm,st,k,it,e1,e2⟩;obtain ⟨o',e3,e4⟩:=(pL J.ent.2).2 nm _ e1;cases o' with
    | yst=>exact q2 ⟨nm,_,_,_,e3,e2⟩
    | _=>cases e4
   obtain ⟨d0,d2,c7,b'⟩:=b2 hI hT (.refl _ _) (.refl _ _) (.refl _ _ _) c6;have b8:∀ {x:C.X} {W:List (Nat × SV)} {H':List HO} {g:Nat->Loc} {o:Nat->Nat} {B:Act} {w':World},Inv G H' g o w'->TRel (envOf G H' g o w') N W B->ExtO (dL A u c++C.objs) (envOf G H loc ver w) (envOf G H' g o w')->Same (gE c) a B->
     Marked (envOf G H loc ver w) (envOf G H' g o w') a.defers B.defers->
     En C x H W H'->∃a3 a4,Inv G (C.heap x H) a3 a4 w'/\TRel (envOf G (C.heap x H) a3 a4 w') N (Wu C x (gE c) l H) B/\
      ExtO C.objs (envOf G H loc ver w) (envOf G (C.heap x H) a3 a4 w')/\Marked (envOf G H loc ver w) (envOf G (C.heap x H) a3 a4 w') a.defers B.defers:=by
    intro x W H' g o B w' Y h2 h3 Z a9 J;unfold En at J;split at J
    ·exact ⟨_,_,b2 Y h2 h3 Z a9 J⟩
    rename_i t0 a0 d8;split at J
    ·rename_i b0 d7;obtain ⟨hc,J⟩:=bD J;obtain ⟨c1,hc⟩:=and2 hc;obtain ⟨c2,hc⟩:=and2 hc;obtain ⟨c3,hc⟩:=and2 hc;obtain ⟨c4,c5⟩:=and2 hc;rw[nZ,pG] at J;have c2:H.length<=b0:=by simpa using c2
     have c3:a0<H.length:=by simpa using c3
     have b5:a0≠b0:=om;obtain ⟨i1,i2,i3⟩:=JE Y b5 c4 c5;have hD:mem a0 (dL A u c++C.objs)=true:=Iq _ _ _ c1;have a2:=S5 Y b5 c4 c5 hD (fun nm hn e=>by have:=iN (show lE H nm=true from hn);omega) h3;refine ⟨_,_,b2 i1 ⟨h2.size,fun t=>by rw[Ip];exact i3 (h2.rel t)⟩ a2 Z ?_ J⟩;obtain ⟨Ds,m1,m2,m3⟩:=a9;refine ⟨Ds,m1,m2,fun D hD=>?_⟩;obtain ⟨q1,q2,q3⟩:=m3 D hD;obtain ⟨la,ea,d3,_⟩:=Ac c4;exact ⟨q1,fun hq=>q2 (JF b5 (aK.1 d3).1 c5 hq),q3⟩
    cases J
   refine Mq (fun k B w'=>∃x g o,C.mu x=k/\C.pre x/\Inv G (C.heap x H) g o w'/\TRel (envOf G (C.heap x H) g o w') N (Wu C x (gE c) l H) B/\
     ExtO C.objs (envOf G H loc ver w) (envOf G (C.heap x H) g o w')/\Same (gE c) a B/\Marked (envOf G H loc ver w) (envOf G (C.heap x H) g o w') a.defers B.defers)
    ⟨_,x0,_,_,rfl,c6.pre,d0,d2,c7,.refl _ _,b'⟩ ?_
   rintro k a1 w1 ⟨x,loc1,ver1,rfl,hp,hI1,hT1,hx1,hs1,hd1⟩;have hr:=a6.round x hp;rw[nZ,pG] at hr;refine wpIn_mono (ih u hF hI1 hT1 (E.ext hx1) hr) ?_;rintro e B w' ⟨W,H',g,o,Y,h2,h3,Z,J,h6⟩;cases e with
   | normal=>
    obtain ⟨x',d4,a2⟩:=Y;obtain ⟨a3,a4,b3,b4,b1,d5⟩:=b8 h2 h3 ((hx1.mono (Iq _ _)).trans (Z.mono (yT _ _))) (hs1.trans J) (hd1.trans hx1.size Z h6) a2;have c0:C.pre x':=by
     unfold En at a2;split at a2
     ·exact a2.pre
     split at a2
     ·obtain ⟨_,a2⟩:=bD a2;rw[nZ,pG] at a2;exact a2.pre
     cases a2
    exact ⟨C.mu x',d4,x',a3,a4,rfl,c0,b3,b4,b1,hs1.trans J,d5⟩
   | _=>exact ⟨W,H',g,o,Y,h2,h3,(hx1.mono hO).trans (Z.mono hD),hs1.trans J,hd1.trans hx1.size Z h6⟩
 | rangeFunc f ps x y ihx ihy=>exact fun u=>Yh hY hΓ ihx ihy u
 | scope c ih=>intro u F n hF H loc ver w l a K hI hT E h;cases h
 | goto m=>intro u F n hF H loc ver w l a K hI hT E h;cases h
 | refuse s=>intro u F n hF H loc ver w l a K hI hT E h;cases h
end
end Go.Eng
end

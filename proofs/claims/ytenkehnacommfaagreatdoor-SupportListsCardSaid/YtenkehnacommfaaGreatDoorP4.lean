/-
  Part 4: a symbolic executor over the model, contracts of functions and plain laws.
-/
import Derived.Test.YtenkehnacommfaaGreatDoorP3
import Derived.RangeFuncLeaves
import Derived.SizedLaws
import Derived.OpenShut
import Derived.DataReads
import Derived.Below
import Derived.Shelf.Abstract
import Derived.Lib.ItoaNum
import Derived.Test.YtenkehnacommfaaGreatDoorProg
set_option linter.unusedVariables false
set_option linter.unusedSimpArgs false
set_option maxRecDepth 10000
set_option maxHeartbeats 80000000
section
namespace Go.Eng
open Go.RowKit
section
variable {P:Program} {G:Ctx} {N:Nat} {Γ:List Con}
def addS (S:Nat->Bool) (i:Nat):Nat->Bool:=fun j=>S j || Nat.beq j i
structure Adm (ops:Array Oper) (m:Nat) (S:Nat->Bool) (i:Nat) (o:Oper):Prop where
 not:S i=false
 lt:∀j,S j=true->j<m
 own:∀e∈o.after,Region.binds .any e=true->S e.on=true
 closed:Closed ops (fun j=>S j=true)
structure QG (P:Program) (G:Ctx) (ops:Array Oper) (m:Nat) (hS:(Nat->Bool)->List HO) (N:Nat) (wr:Nat->SV) (sv:SV) (wn:Bool) (i:Nat) (o:Oper):Prop where
 want:∀(E:Env) (a:Act),(∀t,lk ops o t->Rel E (wr t) (a.tmps.getD t undef))->Region.wanted o (yielded ops a.tmps)=wn
 run:wn=true->∀ {F:Fence},Opn F->∀S,Adm ops m S i o->∀ {loc:Nat->Loc} {ver:Nat->Nat} {w:World} {a:Act},Inv G (hS S) loc ver w->a.tmps.size=N->
  (∀t,lk ops o t->Rel (envOf G (hS S) loc ver w) (wr t) (a.tmps.getD t undef))->
  (∀c,o.op≠ .defer c)/\OpOK P F o a w fun v w'=>∃loc' ver',Inv G (hS (addS S i)) loc' ver' w'/\Rel (envOf G (hS (addS S i)) loc' ver' w') sv v/\Ext (envOf G (hS S) loc ver w) (envOf G (hS (addS S i)) loc' ver' w')
 skip:wn=false->sv= .tup []/\∀S,hS (addS S i)=hS S
 dst:∀t,o.dst=some t->t<N
 move:∀x,pureArg o.op=some x->o.guard=none->(∀(E:Env) (a:Act),a.tmps.size=N->(∀t,lk ops o t->Rel E (wr t) (a.tmps.getD t undef))->∃v0,Rel E sv v0/\∀(ρ:Operand->Value) (w:World),ρ x=a.eval x->(execOp ρ o).run P w= .ok (.value v0) w)/\∀S,hS (addS S i)=hS S
def upS (m:Nat) (listed:Array Bool):Nat->Bool:=fun j=>decide (j<m)&&listed.getD j false
theorem aWk {m:Nat} {listed:Array Bool} {i:Nat} (hi:i<m) (h:listed.getD i true=false):upS m (listed.setIfInBounds i true)=addS (upS m listed) i:=by
 funext j
 unfold upS addS
 by_cases e:j=i
 ·subst e
  rw[lY h,fW]
  simp[hi]
 rw[getD_set_ne false (Ne.symm e),kL e]
 simp
theorem aLl (hY:COK P G) (hΓ:∀c∈Γ,aS P c) {F:Fence} (hF:Opn F) {n:Nat} {ops:Array Oper} {m:Nat} (hms:m<=ops.size)
  (hq:∀i o,i<m->ops[i]? =some o->opOk ops.toList m i o=true) (htopo:∀i o,ops[i]? =some o->topo i o=true)
  (htail0:∀i o,m<=i->ops[i]? =some o->∀j,j<i->mN (mV ops.toList []) i j=true\/(j<m/\sE ops.toList j=true))
  {hS:(Nat->Bool)->List HO} {wr sv:Nat->SV} {wn:Nat->Bool} {lf l:List (Nat × SV)}
  (hRef:∀(E:Env) (t:Nat) (v:Value),Rel E (wr t) v->Rel E (look lf t) v) (hwr:∀t,(∀j o,j<m->ops[j]? =some o->o.dst≠some t)->wr t=look l t)
  (hQP:∀j o,j<m->ops[j]? =some o->(∀t,o.dst=some t->wr t=sv j)/\QG P G ops m hS N (rdM ops m (look l) wr j) (sv j) (wn j) j o)
  {loc:Nat->Loc} {ver:Nat->Nat} {w:World} {a:Act} {K:List (Nat × SV)->List HO->Prop} {Q:Exit->Act->World->Prop} (hQn:∀e a w,Q e a w->e= .normal)
  (hI:Inv G (hS fun _=>false) loc ver w) (hT:TRel (envOf G (hS fun _=>false) loc ver w) N l a)
  (hlf:mS P Γ N ops.toList (ops.toList.drop m) lf (hS fun j=>decide (j<m)) K)
  (hQ:∀l' H' loc' ver' a' w',K l' H'->Inv G H' loc' ver' w'->TRel (envOf G H' loc' ver' w') N l' a'->Ext (envOf G (hS fun _=>false) loc ver w) (envOf G H' loc' ver' w')->Same (ops.toList.filterMap (·.dst)) a a'->a'.defers=a.defers->Q .normal a' w'):
  wpAnyIn F n P .any ops Q ops.size (Array.replicate ops.size false) a w:=by
 have htail:∀i o,m<=i->ops[i]? =some o->∀j,m<=j->j<i->mN (mV ops.toList []) i j=true:=by
  intro i o hi ho j hm hj
  rcases htail0 i o hi ho j hj with h | h
  ·exact h
  omega
 -- some of the first operations have come up
 suffices key:∀(fuel:Nat) (listed:Array Bool) (b:Act) (w1:World) (loc1:Nat->Loc) (ver1:Nat->Nat),listed.size=ops.size->unl listed m+(ops.size-m)<=fuel->(∀j,m<=j->j<ops.size->listed.getD j true=false)->Closed ops (fun j=>listed.getD j false=true)->
   Inv G (hS (upS m listed)) loc1 ver1 w1->Ext (envOf G (hS fun _=>false) loc ver w) (envOf G (hS (upS m listed)) loc1 ver1 w1)->b.tmps.size=N->b.defers=a.defers->Same (ops.toList.filterMap (·.dst)) a b->
   (∀t j o,j<m->ops[j]? =some o->o.dst=some t->listed.getD j false=true->Rel (envOf G (hS (upS m listed)) loc1 ver1 w1) (wr t) (b.tmps.getD t undef))->
   (∀t,(∀j o,j<m->ops[j]? =some o->o.dst=some t->listed.getD j false=false)->b.tmps.getD t undef=a.tmps.getD t undef)->
   wpAnyIn F n P .any ops Q fuel listed b w1 by
  have hup0:upS m (Array.replicate ops.size false)=fun _=>false:=by
   funext j
   unfold upS
   have:(Array.replicate ops.size false).getD j false=false:=by
    rw[bL,Array.getElem?_replicate];split<;>rfl
   rw[this,Bool.and_false]
  refine key _ _ a w loc ver (by simp) ?_ (fun j _ hj=>by simp[hj]) (fun j o ho hj=>by have:=(aG.1 ho).1;simp[this] at hj) (by rw[hup0];exact hI) (by rw[hup0];exact Ext.refl _) hT.size rfl (Same.refl _ _) (fun t j o _ ho _ hl=>?_) (fun _ _=>rfl)
  ·have:∀k,unl (Array.replicate ops.size false) k<=k:=by
    intro k
    induction k with
    | zero=>exact aM _
    | succ k ih=>simp only[unl];split<;>omega
   have:=this m
   omega
  have hj:=(aG.1 ho).1
  simp[hj] at hl
 have done:∀(fuel:Nat) (listed:Array Bool) (b:Act) (w1:World) (loc1:Nat->Loc) (ver1:Nat->Nat),listed.size=ops.size->ops.size-m<=fuel->(∀j,m<=j->j<ops.size->listed.getD j true=false)->(∀j,j<m->listed.getD j false=true)->
   Inv G (hS (upS m listed)) loc1 ver1 w1->Ext (envOf G (hS fun _=>false) loc ver w) (envOf G (hS (upS m listed)) loc1 ver1 w1)->b.tmps.size=N->b.defers=a.defers->Same (ops.toList.filterMap (·.dst)) a b->
   (∀t j o,j<m->ops[j]? =some o->o.dst=some t->listed.getD j false=true->Rel (envOf G (hS (upS m listed)) loc1 ver1 w1) (wr t) (b.tmps.getD t undef))->
   (∀t,(∀j o,j<m->ops[j]? =some o->o.dst=some t->listed.getD j false=false)->b.tmps.getD t undef=a.tmps.getD t undef)->
   wpAnyIn F n P .any ops Q fuel listed b w1:=by
  intro fuel listed b w1 loc1 ver1 hls hfu hun hall hI1 hx1 hs1 hd1 hsame hex hno
  have hupf:upS m listed=fun j=>decide (j<m):=by
   funext j
   unfold upS
   by_cases hj:j<m
   ·simp[hj,hall j hj]
   simp[hj]
  rw[hupf] at hI1 hx1 hex
  have hTf:TRel (envOf G (hS fun j=>decide (j<m)) loc1 ver1 w1) N lf b:=⟨hs1,fun t=>hRef _ t _ (by
   by_cases hw:∃j o,j<m/\ops[j]? =some o/\o.dst=some t
   ·obtain ⟨j,o,h1,h2,h3⟩:=hw
    exact hex t j o h1 h2 h3 (hall j h1)
   rw[hwr t fun j o h1 h2 h3=>hw ⟨j,o,h1,h2,h3⟩,hno t fun j o h1 h2 h3=>(hw ⟨j,o,h1,h2,h3⟩).elim]
   exact (hT.rel t).ext hx1)⟩
  exact aEx hY hΓ hF htopo htail _ m rfl (aM _) fuel listed hls (by simpa using hfu) hall hun hI1 hTf hlf
   (fun l' H' loc' ver' a' w' h1 h2 h3 h4 h5 h6=>hQ l' H' loc' ver' a' w' h1 h2 h3 (hx1.trans h4) (hsame.trans h5) (h6.trans hd1))
 intro fuel
 induction fuel with
 | zero=>
  intro listed b w1 loc1 ver1 hls hfu hun hcl hI1 hx1 hs1 hd1 hsame hex hno
  refine done 0 listed b w1 loc1 ver1 hls (by omega) hun (fun j hj=>?_) hI1 hx1 hs1 hd1 hsame hex hno
  have:∀k,unl listed k=0->∀j,j<k->listed.getD j true=true:=by
   intro k
   induction k with
   | zero=>intro _ j hj;omega
   | succ k ih=>
    intro hk j hj
    simp only[unl] at hk
    by_cases e:j=k
    ·subst e
     cases hc:listed.getD j true with
     | true=>rfl
     | false=>rw[hc] at hk;simp at hk
    exact ih (by omega) j (by omega)
  rw[<- gX (by omega)]
  exact this m (by omega) j hj
 | succ f ih=>
  intro listed b w1 loc1 ver1 hls hfu hun hcl hI1 hx1 hs1 hd1 hsame hex hno
  by_cases hall:∀j,j<m->listed.getD j false=true
  ·exact done (f+1) listed b w1 loc1 ver1 hls (by omega) hun hall hI1 hx1 hs1 hd1 hsame hex hno
  have adm:∀(i:Nat) (o:Oper),i<m->ops[i]? =some o->listed.getD i true=false->(∀e∈o.after,Region.binds .any e=true->listed.getD e.on false=true)->Adm ops m (upS m listed) i o:=by
   intro i o him ho h1 h2
   have hlo:∀j,listed.getD j false=true->upS m listed j=true:=by
    intro j hj
    have hjs:j<ops.size:=by
     rw[<- hls]
     apply aL
     intro hn
     rw[bL,Array.getElem?_eq_none (by omega)] at hj
     cases hj
    have:j<m:=aL fun hn=>by
     have:=hun j (by omega) hjs
     rw[gX (by omega),hj] at this;cases this
    simp[upS,this,hj]
   refine ⟨?_,fun j hj=>?_,fun e he hb=>hlo _ (h2 e he hb),fun j oj hoj hj e he hb=>hlo _ (hcl j oj hoj ?_ e he hb)⟩
   ·rw[gX (by omega)] at h1
    simp[upS,h1]
   ·simp only[upS,aE,lL] at hj;exact hj.1
   simp only[upS,aE] at hj;exact hj.2
  -- what is known of an operation among the first
  have one:∀(i:Nat) (o:Oper),i<m->ops[i]? =some o->listed.getD i true=false->(∀e∈o.after,Region.binds .any e=true->listed.getD e.on false=true)->
    (∀t,lk ops o t->Rel (envOf G (hS (upS m listed)) loc1 ver1 w1) (rdM ops m (look l) wr i t) (b.tmps.getD t undef))/\
    (∀ {loc':Nat->Loc} {ver':Nat->Nat} {w':World} {v:Value},Inv G (hS (addS (upS m listed) i)) loc' ver' w'->Ext (envOf G (hS (upS m listed)) loc1 ver1 w1) (envOf G (hS (addS (upS m listed) i)) loc' ver' w')->Rel (envOf G (hS (addS (upS m listed) i)) loc' ver' w') (sv i) v->
     wpAnyIn F n P .any ops Q f (listed.setIfInBounds i true) (b.put o.dst v) w'):=by
   intro i o him ho h1 h2
   obtain ⟨hwi,hqp⟩:=hQP i o him ho
   have hoki:=hq i o him ho
   have hread:∀t,lk ops o t->Rel (envOf G (hS (upS m listed)) loc1 ver1 w1) (rdM ops m (look l) wr i t) (b.tmps.getD t undef):=by
    intro t ht
    unfold rdM
    by_cases hl:late ops m i t
    ·rw[aD hl]
     obtain ⟨j0,o0,g1,g2,g3,g4⟩:=hl
     obtain ⟨e,he,hb,hon⟩:=mY g4
     have hnl:listed.getD j0 false=false:=by
      cases hc:listed.getD j0 false with
      | false=>rfl
      | true=>
       have:=hcl j0 o0 g2 hc e he hb
       rw[hon] at this
       rw[<- gX (by omega),h1] at this
       cases this
     rw[hno t fun j o' h3 h4 h5=>by
      have:=sY (hq j0 o0 g1 g2) g3 h3 h4 h5
      rw[this];exact hnl]
     exact (hT.rel t).ext hx1
    rw[aC hl]
    by_cases hw:∃j o,j<m/\ops[j]? =some o/\o.dst=some t
    ·obtain ⟨j,o',h3,h4,h5⟩:=hw
     rcases nG (uA hoki ht) h3 h4 h5 with h6 | h6
     ·obtain ⟨e,he,hb,hon⟩:=mY h6.1
      exact hex t j o' h3 h4 h5 (by rw[<- hon];exact h2 e he hb)
     exact (hl ⟨j,o',h3,h4,h5,h6⟩).elim
    rw[hwr t fun j o h1 h2 h3=>hw ⟨j,o,h1,h2,h3⟩,hno t fun j o h1 h2 h3=>(hw ⟨j,o,h1,h2,h3⟩).elim]
    exact (hT.rel t).ext hx1
   have hmem:o∈ops.toList:=by
    obtain ⟨hlt,rfl⟩:=aG.1 ho
    simp
   have hput:∀(v:Value) (t:Nat),(b.put o.dst v).tmps.getD t undef=if o.dst=some t then v else b.tmps.getD t undef:=by
    intro v t
    cases hd:o.dst with
    | none=>simp[Act.put]
    | some u=>
     rw[vK b u t v (by rw[hs1];exact hqp.dst u hd)]
     by_cases e:t=u
     ·subst e;simp
     rw[aC e,aC (fun h=>e (by cases h;rfl))]
   have next:∀ {loc':Nat->Loc} {ver':Nat->Nat} {w':World} {v:Value},Inv G (hS (addS (upS m listed) i)) loc' ver' w'->Ext (envOf G (hS (upS m listed)) loc1 ver1 w1) (envOf G (hS (addS (upS m listed) i)) loc' ver' w')->Rel (envOf G (hS (addS (upS m listed) i)) loc' ver' w') (sv i) v->
     wpAnyIn F n P .any ops Q f (listed.setIfInBounds i true) (b.put o.dst v) w':=by
    intro loc' ver' w' v hI' hx' hr'
    have hu:=aI5 h1 m
    rw[aD him] at hu
    have hup:=aWk him h1
    rw[<- hup] at hI' hx' hr'
    refine ih (listed.setIfInBounds i true) (b.put o.dst v) w' loc' ver' (by simp[hls]) (by omega) (fun j hj hjs=>by rw[getD_set_ne true (by omega)];exact hun j hj hjs) (fun j oj hoj hj e he hb=>by
      show (listed.setIfInBounds i true).getD e.on false=true
      have hj:(listed.setIfInBounds i true).getD j false=true:=hj
      by_cases hie:e.on=i
      ·rw[hie];exact lY h1
      rw[getD_set_ne false (Ne.symm hie)]
      by_cases hji:j=i
      ·subst hji;rw[ho] at hoj;cases hoj;exact h2 e he hb
      rw[getD_set_ne false (Ne.symm hji)] at hj;exact hcl j oj hoj hj e he hb) hI' (hx1.trans hx') ?_ ?_
     (hsame.trans (Same.put b o.dst v fun t ht=>vQ hmem ht)) (fun t j o' hj ho' hd hl=>?_) (fun t hn=>?_)
    ·cases o.dst<;>simp[Act.put,hs1]
    ·refine Eq.trans ?_ hd1
     cases o.dst<;>rfl
    ·rw[hput v t]
     by_cases hdt:o.dst=some t
     ·rw[aD hdt,hwi t hdt];exact hr'
     rw[aC hdt]
     have hji:j≠i:=fun e=>by subst e;rw[ho] at ho';cases ho';exact hdt hd
     rw[getD_set_ne false (Ne.symm hji)] at hl
     exact (hex t j o' hj ho' hd hl).ext hx'
    have hdt:o.dst≠some t:=fun hdt=>by
     have:=hn i o him ho hdt
     rw[lY h1] at this;cases this
    rw[hput v t,aC hdt]
    refine hno t fun j o' hj ho' hd=>?_
    have hji:j≠i:=fun e=>by subst e;rw[ho] at ho';cases ho';exact hdt hd
    have:=hn j o' hj ho' hd
    rwa [getD_set_ne false (Ne.symm hji)] at this
   exact ⟨hread,next⟩
  by_cases hfree:∃i,i<m/\sE ops.toList i=true/\listed.getD i false=false/\∀o,ops[i]? =some o->∀e∈o.after,Region.binds .any e=true->listed.getD e.on false=true
  ·obtain ⟨i,him,hfi,hli,hdep⟩:=hfree
   obtain ⟨o,ho⟩:∃o,ops[i]? =some o:=⟨ops[i]'(by omega),by simp[show i<ops.size by omega]⟩
   obtain ⟨x,t,hfr⟩:=aCd ho hfi
   obtain ⟨hwi,hqp⟩:=hQP i o him ho
   have h1:listed.getD i true=false:=by rw[gX (by omega)];exact hli
   obtain ⟨hread,next⟩:=one i o him ho h1 (hdep o ho)
   obtain ⟨hmv,hsm⟩:=hqp.move x hfr.op hfr.guard
   obtain ⟨v0,hrs,H0⟩:=hmv _ b hs1 hread
   refine aYx (fun f=>hF.fn f) hQn hfr H0 f listed b w1 hls h1 (hdep o ho) rfl ?_
   have hnext:=next (loc':=loc1) (ver':=ver1) (w':=w1) (v:=v0) (by rw[hsm];exact hI1) (by rw[hsm];exact Ext.refl _) (by rw[hsm];exact hrs)
   rwa [hfr.dst] at hnext
  obtain ⟨i0,hi0,hmin⟩:∃i0,(i0<m/\listed.getD i0 false=false)/\∀k,(k<m/\listed.getD k false=false)->i0<=k:=by
   have:∃j,j<m/\listed.getD j false=false:=by
    apply aL
    intro hn
    exact hall fun j hj=>by
     cases hc:listed.getD j false with
     | true=>rfl
     | false=>exact (hn ⟨j,hj,hc⟩).elim
   obtain ⟨j,hj⟩:=this
   exact aEn j hj
  have hi0s:i0<ops.size:=by omega
  have hdep0:∀e∈(ops[i0]).after,Region.binds .any e=true->listed.getD e.on false=true:=fun e he hb=>by
   have hlt:=qM (htopo i0 ops[i0] (by simp[hi0s])) e he hb
   cases hc:listed.getD e.on false with
   | true=>rfl
   | false=>have:=hmin e.on ⟨by omega,hc⟩;omega
  have hr0:i0∈Region.ready .any ops listed:=mem_ready.2 ⟨by rw[gX (by omega)];exact hi0.2,ops[i0],by simp[hi0s],hdep0⟩
  have hnf0:sE ops.toList i0=true->False:=fun h=>hfree ⟨i0,hi0.1,h,hi0.2,fun o ho=>by
   have e:o=ops[i0]:=by
    have:ops[i0]? =some ops[i0]:=by simp[hi0s]
    rw[ho] at this;exact uX this
   subst e;exact hdep0⟩
  refine ⟨fun hr=>(by rw[hr] at hr0;cases hr0),fun i hi=>?_⟩
  obtain ⟨h1,o,ho,h2⟩:=mem_ready.1 hi
  have his:=(aG.1 ho).1
  have him:i<m:=by
   apply aL
   intro hge
   have:=rU hcl ho ((htail0 i o (by omega) ho i0 (by omega)).resolve_right fun hfr=>hnf0 hfr.2) h2
   rw[hi0.2] at this
   cases this
  obtain ⟨hwi,hqp⟩:=hQP i o him ho
  obtain ⟨hread,next⟩:=one i o him ho h1 h2
  have hwant:=hqp.want _ b hread
  unfold wpOpIn
  simp only[ho]
  cases hwn:wn i with
  | true=>
   rw[hwn] at hwant hqp
   rw[aD hwant]
   obtain ⟨hnd,hopk⟩:=hqp.run rfl hF _ (adm i o him ho h1 h2) hI1 hs1 hread
   refine hopk.wpIn hF hnd ?_
   rintro v w' ⟨loc',ver',hI',hr',hx'⟩
   exact next hI' hx' hr'
  | false=>
   rw[hwn] at hwant hqp
   obtain ⟨hs,hsm⟩:=hqp.skip rfl
   rw[aC (by rw[hwant];simp)]
   refine ⟨fun f _=>hF.fn f,next (loc':=loc1) (ver':=ver1) (by rw[hsm];exact hI1) (by rw[hsm];exact Ext.refl _) ?_⟩
   rw[hs];exact (.tup [] [] .nil)
end
end Go.Eng
end
section
namespace Go.Eng
open Go.RowKit
section
variable {P:Program} {G:Ctx} {N:Nat} {Γ:List Con} {H:List HO} {loc:Nat->Loc} {ver:Nat->Nat} {w:World}
theorem uC (B:List HO):∀(fx:List Fx) (S:Nat->Bool),(iV B fx S).length=B.length
 | [],_=>rfl
 | f::r,S=>by
  simp only[mW]
  cases S f.p with
  | true=>simp only[bP,hset,cV];exact uC B r S
  | false=>exact uC B r S
theorem kG (B:List HO) {S S':Nat->Bool}:∀(fx:List Fx),(∀f∈fx,S f.p=S' f.p)->iV B fx S=iV B fx S'
 | [],_=>rfl
 | f::r,h=>by
  simp only[mW]
  rw[h f bO,kG B r fun g hg=>h g (bT _ hg)]
theorem uD (B:List HO):∀(fx:List Fx),iV B fx (fun _=>false)=B
 | []=>rfl
 | f::r=>by simp only[iV,cA];exact uD B r
theorem aG5 (B:List HO) {i:Nat}:∀(fx:List Fx) {f:Fx} {S:Nat->Bool},f∈fx->f.p=i->S i=false->fx.Pairwise (fun a b=>a.p≠b.p)->(∀g∈fx,g.p≠i->S g.p=true->g.n≠f.n)->iV B fx (addS S i)=hset (iV B fx S) f.n f.o
 | g::r,f,S,hf,hp,hS,hd,hn=>by
  obtain ⟨hd1,hd2⟩:=dY.1 hd
  by_cases hg:g.p=i
  ·have hfr:f ∉ r:=fun h=>hd1 f h (by rw[hg,hp])
   have hfg:f=g:=by
    rcases bE.1 hf with h | h
    ·exact h
    exact absurd h hfr
   subst hfg
   simp only[mW]
   rw[hp,hS,show addS S i i=true from by simp[addS],bP,cA]
   congr 1
   refine kG B r fun q hq=>?_
   have hne:q.p≠i:=fun e=>hd1 q hq (by rw[hp,e])
   simp[addS,kL hne]
  have hfr:f∈r:=by
   rcases bE.1 hf with h | h
   ·exact absurd (h ▸ hp) hg
   exact h
  have ih:=aG5 B r hfr hp hS hd2 fun q hq=>hn q (bT _ hq)
  simp only[mW]
  rw[show addS S i g.p=S g.p from by simp[addS,kL hg],ih]
  cases hSg:S g.p with
  | false=>rfl
  | true=>
   simp only[bP,hset]
   exact List.set_comm _ _ (fun e=>hn g bO hg hSg e.symm)
theorem vU (B:List HO) {n:Nat}:∀(fx:List Fx) {S:Nat->Bool},(∀g∈fx,S g.p=true->g.n≠n)->(iV B fx S)[n]? =B[n]?
 | [],_,_=>rfl
 | g::r,S,h=>by
  have ih:=vU B r fun q hq=>h q (bT _ hq)
  simp only[mW]
  cases hS:S g.p with
  | false=>exact ih
  | true=>
   simp only[bP,hset]
   rw[bS (fun e=>h g bO hS e.symm)]
   exact ih
theorem Inv.keep (hI:Inv G H loc ver w):Inv G (H++ [.res]) loc ver w/\Ext (envOf G H loc ver w) (envOf G (H++ [.res]) loc ver w):=by
 refine hI.turn H.length (by simp) (fun k hk=>⟨gS hk,rfl,rfl⟩) (fun h=>by rw[pC] at h;cases h) (fun h=>by rw[pC] at h;cases h) (aM _) rfl rfl rfl (by simp) (fun h=>by rw[pC] at h;cases h)
  (fun st n it b h=>by rw[fV] at h;cases h) (fun _ _ _=>rfl) ?_ ?_
 ·intro o' b ho' hb
  rw[fV] at ho';cases ho'
  exact hb.elim
 intro hx o' ho'
 rw[fV] at ho';cases ho'
 trivial
theorem Inv.keeps (q:Nat):∀ {H:List HO},Inv G H loc ver w->Inv G (H++List.replicate q .res) loc ver w/\Ext (envOf G H loc ver w) (envOf G (H++List.replicate q .res) loc ver w):=by
 induction q with
 | zero=>intro H hI;rw[List.replicate_zero,eB];exact ⟨hI,Ext.refl _⟩
 | succ q ih=>
  intro H hI
  obtain ⟨h1,h2⟩:=hI.keep
  obtain ⟨h3,h4⟩:=ih h1
  rw[List.replicate_succ,show H++HO.res::List.replicate q .res=H++ [.res]++List.replicate q .res by simp]
  exact ⟨h3,h2.trans h4⟩
theorem Inv.atRes (hI:Inv G H loc ver w) {n:Nat} (hn:H[n]? =some .res) {w':World} (o:HO) (L:Loc) (v:Nat)
  (hsz:w.heap.size<=w'.heap.size) (hos:w'.os=w.os) (htp:w'.tape=w.tape) (hout:w'.output=w.output)
  (hblk:∀b,b<w.heap.size->w'.heap[b]? =w.heap[b]?) (hfr:∀b,Owns L o b->w.heap.size<=b)
  (hnew:Ext (envOf G H loc ver w) (envOf G (hset H n o) (upd loc n L) (upd ver n v) w')->OSat (envOf G (hset H n o) (upd loc n L) (upd ver n v) w') L v o)
  (hny:∀st n it,o≠ .yst st n it:=by intro _ _ _ h;cases h):
  Inv G (hset H n o) (upd loc n L) (upd ver n v) w'/\Ext (envOf G H loc ver w) (envOf G (hset H n o) (upd loc n L) (upd ver n v) w'):=by
 have hlt:n<H.length:=(aK.1 hn).1
 have hno:hasB H n=false:=by
  unfold hasB hget
  rw[aB,hn]
  simp[xO]
 refine hI.turn n (by simp[hset]) (fun k hk=>⟨bS hk,cR _ _ _ hk,cR _ _ _ hk⟩) (fun h=>by rw[hno] at h;cases h) (fun h=>by rw[hno] at h;cases h) hsz hos htp hout (by rw[hn];simp) (fun h=>by rw[hno] at h;cases h)
  (fun st n' it b h=>by rw[show hset H n o=H.set n o from rfl,aN hlt] at h;cases h;exact (hny _ _ _ rfl).elim) (fun b hb _=>hblk b hb) ?_ ?_
 ·intro o' b ho' hb
  rw[show hset H n o=H.set n o from rfl,aN hlt] at ho';cases ho'
  rw[aV] at hb
  exact .inr (hfr b hb)
 intro hx o' ho'
 rw[show hset H n o=H.set n o from rfl,aN hlt] at ho';cases ho'
 rw[aV,aV]
 exact hnew hx
def AllocOK (P:Program) (G:Ctx) (N:Nat) (o:Oper) (lr:List (Nat × SV)) (n:Nat) (s:SV) (ob:HO):Prop:=
 xO ob=false/\∀ {F:Fence},Opn F->∀ {H:List HO} {loc:Nat->Loc} {ver:Nat->Nat} {w:World} {a:Act},Inv G H loc ver w->H[n]? =some .res->TRel (envOf G H loc ver w) N lr a->
  (∀c,o.op≠ .defer c)/\OpOK P F o a w fun v w'=>∃loc' ver',Inv G (hset H n ob) loc' ver' w'/\Rel (envOf G (hset H n ob) loc' ver' w') s v/\Ext (envOf G H loc ver w) (envOf G (hset H n ob) loc' ver' w')
theorem aAc {H:List HO} {n:Nat} {o:HO} (h:n<H.length) (ho:xO o=false):hasB (hset H n o) n=true:=dF (aN h) ho
theorem aLm {o:Oper} {l lr:List (Nat × SV)} {n:Nat} {t:TypeId} {pn pc:Operand} {K:SV->HO->Prop} (h:aBv P t (ev l pn) (ev l pc) fun m ty e ei=>K (.ref n 1) (.vv 1 0 ty (List.replicate m.toNat []) none e ei)) (hop:o.op= .makeSlice t pn pc) (hlr:∀x∈o.op.operands,ev lr x=ev l x):∃s ob,K s ob/\AllocOK P G N o lr n s ob:=by
 unfold aBv at h
 split at h
 case h_2=>exact h.elim
 rename_i e kn nn kc nc he hen hec
 split at h
 case h_2=>exact h.elim
 rename_i ty ei i hr hi
 obtain ⟨hz,⟨⟨n1,n2,n3,n4⟩,hk⟩⟩:=aW h
 refine ⟨_,_,hk,rfl,?_⟩
 intro F hF H loc ver w a hI hn hT
 refine ⟨by simp[hop],?_⟩
 have e1:=lV hT pn
 have e2:=lV hT pc
 rw[hlr pn (by rw[hop];simp[Op.operands])] at e1
 rw[hlr pc (by rw[hop];simp[Op.operands])] at e2
 obtain ⟨nn',cc,ty',e',ei',hk',hfl,m1,m2,hrun⟩:=aG2 (P:=P) (K:=fun m t1 e1 ei1=>m=nn/\(⟨t1,ei1⟩:Ty × TypeId)=(ty,ei)/\e1=e) (t:=t) (by
  unfold aBv
  rw[hen,hec,he]
  simp only[hr,hi,hz,bP]
  exact ⟨⟨n1,n2,n3,n4⟩,by trivial⟩) e1 e2
 obtain ⟨rfl,hkk,rfl⟩:=hk'
 cases hkk
 have hlt:n<H.length:=(aK.1 hn).1
 have hf:=hI.atRes hn (w':=w.alloc (.cells (madeCells (Value.slice none 0 0).cells (cc*1)) e')) (.vv 1 0 ty (List.replicate nn'.toNat []) none e' ei) (mkL (some (w.heap.size,0)) nn'.toNat cc) 1 (by simp) rfl rfl rfl (fun b hb=>Below.heap_alloc w _ b hb)
  (by intro b hb;rcases hb with hb | hb; · simp at hb;omega
      ·exact hb.elim) (fun _=>aG1 hfl m1 m2 (jG w _))
 refine .value (.slice (some ⟨w.heap.size,0,none⟩) nn'.toNat cc) _ (by simp[execOp,hop,hrun w]) ⟨_,_,hf.1,?_,hf.2⟩
 refine .ref _ _ _ (by exact aAc hlt rfl) Nat.one_pos (by simp[envOf,aV]) fun _=>?_
 simp[envOf,aV,Core.head]
theorem aJe (hY:COK P G) (hΓ:∀c∈Γ,aS P c) {o:Oper} {l lr:List (Nat × SV)} {n:Nat} {K:SV->HO->Prop} (h:aIp P Γ o l n K) (hlr:∀x∈o.op.operands,ev lr x=ev l x):∃s ob,K s ob/\AllocOK P G N o lr n s ob:=by
 unfold aIp at h
 split at h
 ·rename_i t pn pc hop
  cases hvv:aIf P t with
  | true=>
   rw[hvv] at h
   obtain ⟨s,ob,hk,hob⟩:=aLm (lr:=lr) h hop hlr
   exact ⟨s,ob,hk,hob⟩
  | false=>
  rw[hvv] at h
  replace h:aTq P t n (ev l pn) (ev l pc) K:=h
  unfold aTq at h
  split at h
  case h_2=>exact h.elim
  rename_i e kn nn kc nc he hen hec
  split at h
  case h_2=>exact h.elim
  rename_i tt i z htt hi hz
  obtain ⟨hb,h1⟩:=aW h
  clear h
  split at h1
  case h_2=>exact h1.elim
  rename_i x0 hd
  obtain ⟨⟨n1,n2,n3,n4⟩,hk⟩:=h1
  refine ⟨_,_,hk,rfl,?_⟩
  intro F hF H loc ver w a hI hn hT
  refine ⟨by simp[hop],?_⟩
  have hu:=dM he
  have e1:=lV hT pn
  have e2:=lV hT pc
  rw[hlr pn (by rw[hop];simp[Op.operands]),hen] at e1
  rw[hlr pc (by rw[hop];simp[Op.operands]),hec] at e2
  obtain ⟨e3,_⟩:=e1.int_inv
  obtain ⟨e4,_⟩:=e2.int_inv
  simp only[aE,bH] at hb
  obtain ⟨⟨hb1,hb2⟩,hb3⟩:=hb
  obtain ⟨zv,hzv,rfl⟩:=aB4 hz hi
  have hzl:zv.cells.size=tt.size:=by simpa using hb3
  have hpos:=tt.size_pos
  have hr:=run_make (P:=P) w t e i zv hu hi hzv kn kc nn nc n1 n2 (by rw[cB];omega) (by omega)
  have hlt:n<H.length:=(aK.1 hn).1
  have hf:=hI.atRes hn (w':=w.alloc (.cells (madeCells zv.cells (nc.toNat*i.size)) e)) (.vec 1 tt (List.replicate nn.toNat x0) e) (mkL (some (w.heap.size,0)) (nn.toNat) (nc.toNat)) 1 (by simp) rfl rfl rfl (fun b hb=>Below.heap_alloc w _ b hb) (by intro b hb;simp[Owns] at hb;omega)
   (fun hx=>by
    have hm:nn.toNat*tt.size<=nc.toNat*i.size:=by rw[hb1];exact aU _ (by omega)
    refine ⟨rfl,Nat.one_pos,by simp,by show nn.toNat<=140737488355328;omega,(madeCells zv.cells (nc.toNat*i.size)).toList.take (nn.toNat*tt.size),⟨by show (List.take _ _).length=nn.toNat*tt.size;rw[bA,fA,size_madeCells];exact cI hm,.inr ⟨w.heap.size,nc.toNat,madeCells zv.cells (nc.toNat*i.size),rfl,aI _,jG w _,by show nn.toNat<=nc.toNat;omega,by simp[maxLen];omega,by rw[size_madeCells,hb1];exact aM _,rfl⟩⟩,fun j hj=>?_⟩
    have hj':j<nn.toNat:=hj
    have hjm:j*tt.size+tt.size<=nn.toNat*tt.size:=by
     have:(j+1)*tt.size<=nn.toNat*tt.size:=aU _ hj'
     rwa [bU,dV] at this
    have e1:(List.replicate nn.toNat x0).getD j tt.dflt=x0:=by
     rw[aB]
     have:(List.replicate nn.toNat x0)[j]? =some x0:=by simp[hj']
     rw[this];rfl
    have e2:((((madeCells zv.cells (nc.toNat*i.size)).toList.take (nn.toNat*tt.size)).drop (j*tt.size)).take tt.size)=zv.cells.toList:=by
     apply cK
     intro q
     rw[aJ]
     by_cases hq:q<tt.size
     ·rw[aD hq,aT,aJ,aD (by omega),sH _ _ (by omega) _ (by omega)]
      have:(j*tt.size+q)%zv.cells.size=q:=by rw[hzl,gB,Nat.mul_add_mod];exact fQ hq
      rw[this]
      have hq2:q<zv.cells.toList.length:=by simp;omega
      simp[hzl,hq]
     rw[aC hq,bN (by simp;omega)]
    rw[e1,e2]
    exact oF (pD _ _) hd hb2)
  refine .value (.slice (some ⟨w.heap.size,0,none⟩) nn.toNat nc.toNat) _ (by simp[execOp,hop,e3,e4,hr]) ⟨_,_,hf.1,?_,hf.2⟩
  refine .ref _ _ _ (aAc hlt rfl) Nat.one_pos (by simp[envOf,aV]) fun _=>?_
  simp[envOf,aV,Core.head]
 ·rename_i t hop
  split at h
  case h_2=>exact h.elim
  rename_i z hz
  rw[bQ] at h
  refine ⟨_,_,h,rfl,?_⟩
  intro F hF H loc ver w a hI hn hT
  refine ⟨by simp[hop],?_⟩
  obtain ⟨v,hv,rfl⟩:=oG hz w
  have hlt:n<H.length:=(aK.1 hn).1
  have hf:=hI.atRes hn (w':=w.alloc (.cells v.cells t)) (.cells (v.cells.toList.map cst) t) (mkL (some (w.heap.size,0)) 0 0) 0 (by simp) rfl rfl rfl (fun b hb=>Below.heap_alloc w _ b hb) (by intro b hb;simp[Owns] at hb;omega)
   (fun hx=>⟨rfl,w.heap.size,v.cells.toList,rfl,jG w _,pD _ _⟩)
  refine .value (.pointer (some ⟨w.heap.size,0,none⟩)) _ (by simp[execOp,hop,wX hv]) ⟨_,_,hf.1,?_,hf.2⟩
  refine .ptr _ _ _ (aAc hlt rfl) fun _=>⟨w.heap.size,by simp[envOf,aV],rfl⟩
 ·rename_i c hop
  split at h
  case h_2=>exact h.elim
  rename_i g hc
  split at h
  case h_2=>exact h.elim
  rename_i d hcon
  split at h
  case h_2=>exact h.elim
  rename_i cl _ _ hown
  obtain ⟨hmem,rfl⟩:=aA6 hcon
  obtain ⟨hent,_,_,hso,_⟩:=hΓ d hmem
  unfold ownD at h
  simp only[kK] at h
  have h':=aW h
  clear h
  obtain ⟨hb,h⟩:=h'
  obtain ⟨r,k,t,ys,e,hk,htri⟩:=hso cl hown _ _ h
  simp only[iU] at hk
  have hk':=aW hk
  clear hk
  obtain ⟨hb2,hk⟩:=hk'
  simp only[aE] at hb2
  have htri:=htri hb2.1
  refine ⟨_,_,hk,rfl,?_⟩
  intro F hF H loc ver w a hI hn hT
  refine ⟨by simp[hop],?_⟩
  have hlt:n<H.length:=(aK.1 hn).1
  have hargs:=wW hT c.args.toList
  have hmap:c.args.toList.map (ev lr)=c.args.toList.map (ev l):=pU fun x hx=>hlr x (by rw[hop];simp only[Op.operands,Call.operands];simp;first | exact .inr (by simpa using hx) | exact .inl (by simpa using hx) | simp_all)
  rw[hmap] at hargs
  have hargs0:=RelL.bare (E:=envOf G H loc ver w) (E':=env0 w (okN G H loc w)) (fun _ _ _ h _=>h) (fun _ h=>h) hargs hb
  have e1:=lV hT (.func d.f)
  simp only[ev] at e1
  generalize hv:a.eval (.func d.f)=v at e1
  cases e1 with
  | clo _ _ _ va vb ha hb'=>
   cases ha
   cases hb'
   refine .call d.f ⟨[]++c.args.toList.map a.eval++ []⟩ ?_ fun m=>hF.calls ?_
   ·simp only[execOp,hop]
    rw[aB6 hc hv]
    exact hent _ _
   rw[iE,eB]
   refine (htri _ w _ (hY.now hI) (fun _ h=>h.2.1) hargs0).mono ?_
   rintro en w' ⟨v,L',rfl,hbel,hblk,⟨q1,q2,rs,q3,q4⟩,hrel⟩
   have hf:=hI.atRes hn (w':=w') (.vec 1 t ys e) L' 1 hbel.size hbel.os hbel.tape hbel.output (fun b hb=>hbel.block b hb) (fun b hb=>hblk b hb)
    (fun hx=>⟨rfl,Nat.one_pos,q1,q2,rs,q3,fun i hi=>Reads.flatJ hb2.1 (q4 i hi)⟩) (by intro _ _ _ h;cases h)
   exact ⟨v,rfl,_,_,hf.1,aKr (by exact aAc hlt rfl) (by simp[envOf,aV]) (by simp[envOf,aV]) hrel hb2.2,hf.2⟩
 exact h.elim
structure FxOk (ops:Array Oper) (n0 na k:Nat) (fx:List Fx):Prop where
 lt:∀f∈fx,f.p<k
 apart:fx.Pairwise fun a b=>a.p≠b.p
 names:∀f∈fx,f.n<n0+na
 own:∀f∈fx,n0<=f.n->∀g∈fx,f.p<g.p->g.n=f.n->∃o,ops[g.p]? =some o/\waits o f.p=true
structure OneG (P:Program) (G:Ctx) (Γ:List Con) (ops:Array Oper) (n0 na:Nat) (N:Nat) (fx:List Fx) (rs:List Rc) (wr:Nat->SV) (sv:SV) (wn:Bool) (j:Nat) (o:Oper):Prop where
 want:∀(E:Env) (a:Act),(∀t,lk ops o t->Rel E (wr t) (a.tmps.getD t undef))->Region.wanted o (yielded ops a.tmps)=wn
 skip:wn=false->sv= .tup []/\∀f∈fx,f.p≠j
 dst:∀t,o.dst=some t->t<N
 plain:o.guard=none->wn=true
 run:wn=true->(isA Γ o=true/\∃f lr,f∈fx/\f.p=j/\n0<=f.n/\(∀g∈fx,g.p≠j->g.n=f.n->j<g.p)/\AllocOK P G N o lr f.n sv f.o/\∀(t:Nat) (E:Env) (v:Value),(lk ops o t->Rel E (wr t) v)->Rel E (look lr t) v)\/
  (isA Γ o=false/\∃lr H0 H1 X,⟨j,o,lr,sv⟩∈rs/\op1 P Γ o lr H0 (fun s' H'=>Pinned (s'=sv) (H'=H1) X)/\(isL Γ o=false->∀f∈fx,f.p≠j)/\∀(t:Nat) (E:Env) (v:Value),(lk ops o t->Rel E (wr t) v)->Rel E (look lr t) v)
theorem aUf (l:List (Nat × SV)) {xs:List Operand} {x:Operand} (h:x∈xs):ev (jL l xs) x=ev l x:=by
 cases x with
 | tmp t=>
  simp only[ev]
  induction xs with
  | nil=>cases h
  | cons y ys ih=>
   cases y with
   | tmp u=>
    simp only[jL,look]
    by_cases e:u=t
    ·subst e;rw[fW];rfl
    rw[kL e]
    simp only[cA]
    refine ih ?_
    rcases bE.1 h with h1 | h1
    ·cases h1;exact absurd rfl e
    exact h1
   | _=>
    simp only[jL]
    refine ih ?_
    rcases bE.1 h with h1 | h1
    ·cases h1
    exact h1
 | _=>rfl
theorem virtG (hY:COK P G) (hΓ:∀c∈Γ,aS P c) {ops:Array Oper} {m:Nat} (hq:∀i o,i<m->ops[i]? =some o->opOk ops.toList m i o=true) (htopo:∀i o,ops[i]? =some o->topo i o=true) (wr0:Nat->SV) {n0:Nat} {B:List HO} {K:List (Nat × SV)->List HO->List Fx->List Rc->Prop}
  (hB:∀n,n0<=n->n<B.length->B[n]? =some .res):
  ∀(rest:List Oper) (k:Nat),(ops.toList.take m).drop k=rest->
  ∀ {H:List HO} {fx:List Fx} {rs:List Rc} {na:Nat} {loc:Nat->Loc} {ver:Nat->Nat} {w:World} {l:List (Nat × SV)} {a:Act} {wr:Nat->SV},Inv G H loc ver w->TRel (envOf G H loc ver w) N l a->(∀(E:Env) (t:Nat) (v:Value),Rel E (wr t) v->Rel E (look l t) v)->
  H=iV B fx (fun j=>decide (j<k))->FxOk ops n0 na k fx->n0+na+cntA Γ rest<=B.length->
  (∀t,(∀j o,j<k->ops[j]? =some o->o.dst≠some t)->wr t=wr0 t)->
  zJ P Γ N ops.toList n0 rest k l H fx rs na K->
  ∃(wr':Nat->SV) (sv:Nat->SV) (wn:Nat->Bool) (lf:List (Nat × SV)) (Hf:List HO) (fx':List Fx) (rs':List Rc) (na':Nat),K lf Hf fx' rs'/\(∀(E:Env) (t:Nat) (v:Value),Rel E (wr' t) v->Rel E (look lf t) v)/\
   (∀t,(∀j o,k<=j->j<m->ops[j]? =some o->o.dst≠some t)->wr' t=wr t)/\Hf=iV B fx' (fun j=>decide (j<max k m))/\FxOk ops n0 na' (max k m) fx'/\n0+na'<=B.length/\
   (∃p,fx'=p++fx/\∀f∈p,k<=f.p)/\(∀r∈rs,r∈rs')/\
   (∀j o,k<=j->j<m->ops[j]? =some o->(∀t,o.dst=some t->wr' t=sv j)/\OneG P G Γ ops n0 na' N fx' rs' (rdM ops m wr0 wr' j) (sv j) (wn j) j o):=by
 intro rest
 induction rest with
 | nil=>
  intro k hk H fx rs na loc ver w l a wr hI hT hRef hH hfx hna hw0 h
  have hlen:(ops.toList.take m).length<=k:=pK.1 hk
  have hcg:iV B fx (fun j=>decide (j<k))=iV B fx (fun j=>decide (j<max k m)):=kG B fx fun f hf=>by
   have:=hfx.lt f hf
   have h2:f.p<max k m:=by omega
   simp[this,h2]
  refine ⟨wr,fun _=>.any,fun _=>false,l,H,fx,rs,na,h,hRef,fun _ _=>rfl,hH.trans hcg,⟨fun f hf=>by have:=hfx.lt f hf;omega,hfx.apart,hfx.names,hfx.own⟩,by simpa [cntA] using hna,⟨[],rfl,by simp⟩,fun _ h=>h,fun j o h1 h2 h3=>?_⟩
  have hj:=(aG.1 h3).1
  simp at hlen
  omega
 | cons o r ih=>
  intro k hk H fx rs na loc ver w l a wr hI hT hRef hH hfx hna hw0 h
  have hko:(ops.toList.take m)[k]? =some o:=by
   have:((ops.toList.take m).drop k)[0]? =some o:=by rw[hk];rfl
   rw[aT] at this
   simpa using this
  have hkm:k<m:=by
   rw[aJ] at hko
   split at hko
   ·assumption
   cases hko
  have hop:ops[k]? =some o:=by
   rw[aJ,aD hkm] at hko
   simpa using hko
  have hkr:(ops.toList.take m).drop (k+1)=r:=by rw[<- dJ,hk];rfl
  have hok:=hq k o hkm hop
  have hlenH:H.length=B.length:=by rw[hH,uC]
  simp only[aM5] at h
  obtain ⟨l',b,hyn,hlearn,hwant⟩:=aT7 h
  have hT':TRel (envOf G H loc ver w) N l' a:=⟨hT.size,fun t=>hlearn _ t _ (hT.rel t)⟩
  have hRef':∀(E:Env) (t:Nat) (v:Value),Rel E (wr t) v->Rel E (look l' t) v:=fun E t v h=>hlearn E t v (hRef E t v h)
  -- behind this operation, whatever it has left
  have step:∀ {H':List HO} {fx1:List Fx} {rs1:List Rc} {na1:Nat} {loc':Nat->Loc} {ver':Nat->Nat} {w':World} {s:SV} {v:Value},Inv G H' loc' ver' w'->Ext (envOf G H loc ver w) (envOf G H' loc' ver' w')->Rel (envOf G H' loc' ver' w') s v->
    H'=iV B fx1 (fun j=>decide (j<k+1))->FxOk ops n0 na1 (k+1) fx1->n0+na1+cntA Γ r<=B.length->(∃p,fx1=p++fx/\∀f∈p,f.p=k)->(∀r∈rs,r∈rs1)->
    setT N l' o.dst s (fun l''=>zJ P Γ N ops.toList n0 r (k+1) l'' H' fx1 rs1 na1 K)->
    (b=false->s= .tup []/\fx1=fx)->
    (b=true->(isA Γ o=true/\∃f lr,f∈fx1/\f.p=k/\n0<=f.n/\(∀g∈fx1,g.p≠k->g.n≠f.n)/\AllocOK P G N o lr f.n s f.o/\lr=jL l' o.op.operands.toList)\/
     (isA Γ o=false/\∃lr H0 H1 X,⟨k,o,lr,s⟩∈rs1/\op1 P Γ o lr H0 (fun s' H'=>Pinned (s'=s) (H'=H1) X)/\(isL Γ o=false->fx1=fx)/\lr=jL l' o.op.operands.toList))->
    ∃(wr':Nat->SV) (sv:Nat->SV) (wn:Nat->Bool) (lf:List (Nat × SV)) (Hf:List HO) (fx':List Fx) (rs':List Rc) (na':Nat),K lf Hf fx' rs'/\(∀(E:Env) (t:Nat) (v:Value),Rel E (wr' t) v->Rel E (look lf t) v)/\
     (∀t,(∀j o,k<=j->j<m->ops[j]? =some o->o.dst≠some t)->wr' t=wr t)/\Hf=iV B fx' (fun j=>decide (j<max k m))/\FxOk ops n0 na' (max k m) fx'/\n0+na'<=B.length/\
     (∃p,fx'=p++fx/\∀f∈p,k<=f.p)/\(∀r∈rs,r∈rs')/\
     (∀j o,k<=j->j<m->ops[j]? =some o->(∀t,o.dst=some t->wr' t=sv j)/\OneG P G Γ ops n0 na' N fx' rs' (rdM ops m wr0 wr' j) (sv j) (wn j) j o):=by
   intro H' fx1 rs1 na1 loc' ver' w' s v hI' hx' hrs hH1 hfx1 hna1 hpre hrsub hset hskip hrun
   obtain ⟨p1,hp1,hp1k⟩:=hpre
   obtain ⟨wr1,hwr1⟩:∃wr1:Nat->SV,wr1=fun t=>if o.dst=some t then s else wr t:=⟨_,rfl⟩
   have hnext:∃l'',zJ P Γ N ops.toList n0 r (k+1) l'' H' fx1 rs1 na1 K/\TRel (envOf G H' loc' ver' w') N l'' (a.put o.dst v)/\(∀(E:Env) (t:Nat) (v:Value),Rel E (wr1 t) v->Rel E (look l'' t) v)/\∀t,o.dst=some t->t<N:=by
    cases hd:o.dst with
    | none=>
     rw[hd] at hset
     refine ⟨l',hset,hT'.ext hx',fun E t v h=>?_,fun t h=>by cases h⟩
     rw[hwr1] at h
     simp only[hd] at h
     exact hRef' E t v (by simpa using h)
    | some u=>
     rw[hd] at hset
     obtain ⟨hu,hset⟩:=aW hset
     rw[bQ] at hset
     have hu':u<N:=by simpa using hu
     refine ⟨_,hset,?_,fun E t v h=>?_,fun t h=>by cases h;exact hu'⟩
     ·refine ⟨by simp[Act.put];exact hT.size,fun t=>?_⟩
      rw[nM,vK a u t v (by rw[hT.size];exact hu')]
      by_cases e:t=u
      ·rw[aD e,aD e];exact hrs
      rw[aC e,aC e];exact (hT'.ext hx').rel t
     rw[hwr1] at h
     simp only[hd] at h
     rw[nM]
     by_cases e:t=u
     ·rw[aD e];rw[aD (by rw[e])] at h;exact h
     rw[aC e];rw[aC (fun e'=>e (by cases e';rfl))] at h;exact hRef' E t v h
   obtain ⟨l'',he,hT'',hRef'',hdN⟩:=hnext
   obtain ⟨wr',sv,wn,lf,Hf,fx',rs',na',h1,h2,h3,h6,h7,h8,⟨p2,hp2,hp2k⟩,h9,h4⟩:=ih (k+1) hkr hI' hT'' hRef'' hH1 hfx1 hna1 (fun t ht=>by
    rw[hwr1]
    simp only[aC (ht k o (cS k) hop)]
    exact hw0 t fun j o' hj=>ht j o' (by omega)) he
   have hmax:max (k+1) m=max k m:=by omega
   rw[hmax] at h6 h7
   have hwr:∀t,lk ops o t->rdM ops m wr0 wr' k t=wr t:=by
    intro t ht
    have hro:=uA hok ht
    unfold rdM
    by_cases hl:late ops m k t
    ·rw[aD hl]
     obtain ⟨j0,o0,g1,g2,g3,g4⟩:=hl
     obtain ⟨e,he,hb,hon⟩:=mY g4
     have hk0:=qM (htopo j0 o0 g2) e he hb
     refine (hw0 t fun j o' hj hj3 hd=>?_).symm
     have:=sY (hq j0 o0 g1 g2) g3 (show j<m by omega) hj3 hd
     omega
    rw[aC hl]
    have h5:=h3 t fun j o' hj1 hj2 hj3 hd=>by
     rcases nG hro hj2 hj3 hd with h6 | h6
     ·have:=h6.2;omega
     exact hl ⟨j,o',hj2,hj3,hd,h6⟩
    rw[h5,hwr1]
    have:o.dst≠some t:=fun hd=>by
     rcases nG hro hkm hop hd with h6 | h6
     ·have:=h6.2;omega
     exact hl ⟨k,o,hkm,hop,hd,h6⟩
    simp only[aC this]
   have hlr:∀(t:Nat) (E:Env) (v:Value),(lk ops o t->Rel E (rdM ops m wr0 wr' k t) v)->Rel E (look (jL l' o.op.operands.toList) t) v:=by
    intro t E v hr
    rcases oK l' o.op.operands.toList t with h5 | ⟨h5,h6⟩
    ·rw[h5];exact .any v
    rw[h6]
    have hl:lk ops o t:=.inl h5
    exact hRef' E t v (by rw[<- hwr t hl];exact hr hl)
   have hnot:fx1=fx->∀f∈fx',f.p≠k:=by
    intro e f hf
    rw[hp2,e] at hf
    rcases bK.1 hf with h | h
    ·have:=hp2k f h;omega
    have:=hfx.lt f h;omega
   refine ⟨wr',fun j=>if j=k then s else sv j,fun j=>if j=k then b else wn j,lf,Hf,fx',rs',na',h1,h2,fun t ht=>?_,h6,h7,h8,⟨p2++p1,by rw[hp2,hp1,bZ],fun f hf=>?_⟩,fun q hq=>h9 q (hrsub q hq),fun j o' hj1 hj2 hj3=>?_⟩
   ·rw[h3 t fun j o' hj1 hj2 hj3=>ht j o' (by omega) hj2 hj3,hwr1]
    simp only[aC (ht k o (aM _) hkm hop)]
   ·rcases bK.1 hf with h | h
    ·have:=hp2k f h;omega
    have:=hp1k f h;omega
   by_cases e:j=k
   ·subst e
    rw[hop] at hj3;cases hj3
    simp only[if_true]
    refine ⟨fun t hd=>?_,⟨fun E a hr=>hwant E a fun t ht=>hRef E t _ (by rw[<- hwr t ht];exact hr t ht),fun hb=>?_,hdN,?_,fun hb=>?_⟩⟩
    ·rw[h3 t fun j' o' hj1' hj2' hj3' hd'=>by have:=sY hok hd hj2' hj3' hd';omega,hwr1]
     simp only[aD hd]
    ·obtain ⟨q1,q2⟩:=hskip hb
     exact ⟨q1,hnot q2⟩
    ·intro hg
     rw[<- hwant (envOf G H loc ver w) a fun t _=>hT.rel t]
     simp[Region.wanted,hg]
    rcases hrun hb with ⟨q1,f,lr,q2,q3,q4,q6,q5,rfl⟩ | ⟨q1,lr,H0,H1,X,q2,q3,q4,rfl⟩
    ·refine .inl ⟨q1,f,_,by rw[hp2];exact List.mem_append_right _ q2,q3,q4,fun g hg hne hgn=>?_,q5,hlr⟩
     rw[hp2] at hg
     rcases bK.1 hg with h | h
     ·have:=hp2k g h;omega
     exact absurd hgn (q6 g h hne)
    exact .inr ⟨q1,_,H0,H1,X,h9 _ q2,q3,fun hl=>hnot (q4 hl),hlr⟩
   simp only[aC e]
   exact h4 j o' (by omega) hj2 hj3
  have hTr:TRel (envOf G H loc ver w) N (jL l' o.op.operands.toList) a:=⟨hT.size,fun t=>by
   rcases oK l' o.op.operands.toList t with h5 | ⟨h5,h6⟩
   ·rw[h5];exact .any _
   rw[h6];exact hT'.rel t⟩
  have hHk:∀fx',(∀f∈fx',f.p<k)->iV B fx' (fun j=>decide (j<k))=iV B fx' (fun j=>decide (j<k+1)):=fun fx' h=>kG B fx' fun f hf=>by
   have:=h f hf
   simp[this,lM this]
  have hfx':FxOk ops n0 na (k+1) fx:=⟨fun f hf=>lM (hfx.lt f hf),hfx.apart,hfx.names,hfx.own⟩
  have hcnt:cntA Γ r<=cntA Γ (o::r):=by
   simp only[cntA]
   cases isA Γ o<;>simp
  rcases hyn with ⟨rfl,hy⟩ | ⟨rfl,hn⟩
  ·cases hA:isA Γ o with
   | true=>
    rw[hA] at hy
    simp only at hy
    have hcA:cntA Γ (o::r)=cntA Γ r+1:=by simp[cntA,hA]
    obtain ⟨s,ob,hs,hal⟩:=aJe hY hΓ (G:=G) (N:=N) (lr:=jL l' o.op.operands.toList) hy fun x hx=>aUf l' (by simpa using hx)
    have hnr:H[n0+na]? =some .res:=by
     rw[hH,vU B fx fun g hg _=>by have:=hfx.names g hg;omega]
     exact hB _ (by omega) (by omega)
    obtain ⟨_,hopk⟩:=hal.2 (F:=Fence.wide) ⟨none,rfl⟩ hI hnr hTr
    obtain ⟨v,w',loc',ver',hI',hr',hx'⟩:=hopk.ex
    refine step (fx1:=⟨k,n0+na,ob⟩::fx) (rs1:=rs) (na1:=na+1) hI' hx' hr' ?_ ⟨fun f hf=>?_,dY.2 ⟨fun f hf=>?_,hfx.apart⟩,fun f hf=>?_,fun f hf hn g hg hne hgn=>?_⟩ (by omega) ⟨[⟨k,n0+na,ob⟩],rfl,by simp⟩ (fun _ h=>h) ?_ (fun h=>by cases h) (fun _=>.inl ⟨hA,_,_,bO,rfl,Nat.le_add_right _ _,fun g hg hne hgn=>?_,hal,rfl⟩)
    ·simp only[mW]
     rw[show decide (k<k+1)=true by simp,bP,<- hHk fx hfx.lt,<- hH]
    ·rcases bE.1 hf with rfl | hf
     ·exact cS _
     exact lM (hfx.lt f hf)
    ·have:=hfx.lt f hf
     show k≠f.p
     omega
    ·rcases bE.1 hf with rfl | hf
     ·show n0+na<n0+(na+1);omega
     have:=hfx.names f hf;omega
    ·rcases bE.1 hf with rfl | hf
     ·rcases bE.1 hg with rfl | hg
      ·exact absurd hne (fJ _)
      have:=hfx.lt g hg
      have hne:k<g.p:=hne
      omega
     rcases bE.1 hg with rfl | hg
     ·have:=hfx.names f hf
      have hgn:n0+na=f.n:=hgn
      omega
     exact hfx.own f hf hn g hg hne hgn
    ·simp only[bQ] at hs
     exact hs
    rcases bE.1 hg with rfl | hg
    ·exact absurd rfl hne
    have:=hfx.names g hg
    have hgn:g.n=n0+na:=hgn
    omega
   | false=>
    rw[hA] at hy
    simp only at hy
    have hcA:cntA Γ (o::r)=cntA Γ r:=by simp[cntA,hA]
    cases hL:isL Γ o with
    | true=>
     rw[hL] at hy
     simp only at hy
     obtain ⟨s,ob,hs⟩:=hy.ex
     rw[bQ] at hs
     obtain ⟨_,hopk⟩:=oJ (F:=Fence.wide) hY hΓ ⟨none,rfl⟩ hI hTr hs
     obtain ⟨v,w',s',H',loc',ver',hp,hI',hr',hx'⟩:=hopk.ex
     obtain ⟨rfl,rfl,hgo⟩:=hp
     obtain ⟨hlt,hgo⟩:=aW hgo
     have hlt:tgt (jL l' o.op.operands.toList) o<n0\/(tgt (jL l' o.op.operands.toList) o<n0+na/\fxW o (tgt (jL l' o.op.operands.toList) o) fx=true):=by
      simpa only[cJ,aE,Nat.blt_eq] using hlt
     refine step (fx1:=⟨k,tgt (jL l' o.op.operands.toList) o,ob⟩::fx) (rs1:=⟨k,o,jL l' o.op.operands.toList,s'⟩::rs) (na1:=na) hI' hx' hr' ?_ ⟨fun f hf=>?_,dY.2 ⟨fun f hf=>?_,hfx.apart⟩,fun f hf=>?_,fun f hf hn g hg hne hgn=>?_⟩ (by omega) ⟨[⟨k,_,ob⟩],rfl,by simp⟩ (fun _ h=>bT _ h) ?_ (fun h=>by cases h) (fun _=>.inr ⟨hA,_,H,_,_,bO,hs,(fun h=>by rw[hL] at h;cases h),rfl⟩)
     ·simp only[mW]
      rw[show decide (k<k+1)=true by simp,bP,<- hHk fx hfx.lt,<- hH]
     ·rcases bE.1 hf with rfl | hf
      ·exact cS _
      exact lM (hfx.lt f hf)
     ·have:=hfx.lt f hf
      show k≠f.p
      omega
     ·rcases bE.1 hf with rfl | hf
      ·show tgt _ o<n0+na;omega
      exact hfx.names f hf
     ·rcases bE.1 hf with rfl | hf
      ·rcases bE.1 hg with rfl | hg
       ·exact absurd hne (fJ _)
       have:=hfx.lt g hg
       have hne:k<g.p:=hne
       omega
      rcases bE.1 hg with rfl | hg
      ·have hgn:tgt (jL l' o.op.operands.toList) o=f.n:=hgn
       rcases hlt with h1 | ⟨_,h1⟩
       ·omega
       exact ⟨o,hop,aJ5 h1 f hf hgn.symm⟩
      exact hfx.own f hf hn g hg hne hgn
     simp only[bQ] at hgo
     exact hgo
    | false=>
     rw[hL] at hy
     simp only at hy
     obtain ⟨s,hs⟩:=hy.ex
     rw[bQ] at hs
     obtain ⟨_,hopk⟩:=oJ (F:=Fence.wide) hY hΓ ⟨none,rfl⟩ hI hTr hs
     obtain ⟨v,w',s',H',loc',ver',hp,hI',hr',hx'⟩:=hopk.ex
     obtain ⟨rfl,rfl,hgo⟩:=hp
     exact step (fx1:=fx) (rs1:=⟨k,o,jL l' o.op.operands.toList,s'⟩::rs) (na1:=na) hI' hx' hr' (by rw[<- hHk fx hfx.lt];exact hH) hfx' (by omega) ⟨[],rfl,by simp⟩ (fun _ h=>bT _ h) hgo (fun h=>by cases h) (fun _=>.inr ⟨hA,_,_,_,_,bO,hs,(fun _=>rfl),rfl⟩)
  exact step (fx1:=fx) (rs1:=rs) (na1:=na) hI (Ext.refl _) (.tup [] [] .nil) (by rw[<- hHk fx hfx.lt];exact hH) hfx' (by omega) ⟨[],rfl,by simp⟩ (fun _ h=>h) hn (fun _=>⟨rfl,rfl⟩) (fun h=>by cases h)
theorem vV {n:Nat}:∀ {l:List Nat},memN n l=true↔n∈l
 | []=>by simp[memN]
 | x::r=>by
  simp only[memN,cJ,bH,bE,vV (l:=r)]
  exact ⟨fun h=>h.imp Eq.symm id,fun h=>h.imp Eq.symm id⟩
theorem aCe (S:Nat->Bool):∀ps:List Nat,ps.filter S∈subs ps
 | []=>by simp[subs]
 | p::r=>by
  have ih:=aCe S r
  simp only[subs,bK,jN,tG]
  cases S p with
  | true=>exact .inr ⟨_,ih,rfl⟩
  | false=>exact .inl ih
theorem aUg {ms ps:List Nat} {B:List HO} {fx:List Fx} {rs:List Rc} (h:chkR P Γ ms ps B fx rs) (r:Rc) (hr:r∈rs):chkS P Γ ms ps B fx r.i r.o r.l r.s (subs ps):=by
 induction rs with
 | nil=>cases hr
 | cons q rs ih=>
  rw[aQm] at h
  rcases bE.1 hr with e | hr
  ·rw[e];exact h.chk
  exact ih h.go hr
theorem aLn {ms ps:List Nat} {B:List HO} {fx:List Fx} {r:Rc}:∀ {sl:List (List Nat)},chkS P Γ ms ps B fx r.i r.o r.l r.s sl->∀sub∈sl,admB ms ps r.i sub=true->
  op1 P Γ r.o r.l (iV B fx fun j=>memN j sub) fun s' H'=>Pinned (s'=r.s) (H'=iV B fx fun j=>memN j sub || Nat.beq j r.i) Fin0
 | q::sl,h,sub,hs,ha=>by
  rw[aQl] at h
  rcases bE.1 hs with rfl | hs
  ·rw[ha] at h
   have:=h.chk
   unfold chk1 at this
   rwa [nC] at this
  refine aLn ?_ sub hs ha
  cases hc:admB ms ps r.i q with
  | true=>rw[hc] at h;exact h.go
  | false=>rw[hc] at h;exact h
theorem aLo (hY:COK P G) (hΓ:∀c∈Γ,aS P c) {F:Fence} (hF:Opn F) {n:Nat} {ops:Array Oper} {m:Nat} (hok:wT ops.toList m=true)
  {l:List (Nat × SV)} {a:Act} {K:List (Nat × SV)->List HO->Prop} {Q:Exit->Act->World->Prop} (hQn:∀e a w,Q e a w->e= .normal) (hI:Inv G H loc ver w) (hT:TRel (envOf G H loc ver w) N l a)
  (h:aO8 P Γ N ops.toList m l H K)
  (hQ:∀l' H' loc' ver' a' w',K l' H'->Inv G H' loc' ver' w'->TRel (envOf G H' loc' ver' w') N l' a'->Ext (envOf G H loc ver w) (envOf G H' loc' ver' w')->Same (ops.toList.filterMap (·.dst)) a a'->a'.defers=a.defers->Q .normal a' w'):
  wpAnyIn F n P .any ops Q ops.size (Array.replicate ops.size false) a w:=by
 unfold aO8 at h
 cases hl:aTr Γ (ops.toList.take m) with
 | false=>
  rw[hl] at h
  exact aNj hY hΓ hF hok hQn hI hT h hQ
 | true=>
 rw[hl] at h
 simp only[bP,bQ,aO7,dB] at h
 simp only[wT,aE] at hok
 obtain ⟨hq0,hq1,hq2,hq3⟩:=hok
 have hms:m<=ops.size:=by simpa using hq0
 have hq:∀i o,i<m->ops[i]? =some o->opOk ops.toList m i o=true:=fun i o hi ho=>nH hq1 hi ho
 have htopo:∀i o,ops[i]? =some o->topo i o=true:=fun i o ho=>nH hq2 (by simpa using (aG.1 ho).1) ho
 have htail0:∀i o,m<=i->ops[i]? =some o->∀j,j<i->mN (mV ops.toList []) i j=true\/(j<m/\sE ops.toList j=true):=by
  intro i o hi ho j hj
  rw[wS] at hq3
  have:=nH hq3 (by simpa using (aG.1 ho).1) ho
  simp only[cJ] at this
  rcases this with h1 | h1
  ·have:i<m:=by simpa using h1
   omega
  have:=eE.1 h1 j (gU.2 hj)
  simpa using this
 obtain ⟨B,hBd⟩:∃B,B=H++List.replicate (cntA Γ (ops.toList.take m)) HO.res:=⟨_,rfl⟩
 rw[<- hBd] at h
 have hBl:B.length=H.length+cntA Γ (ops.toList.take m):=by rw[hBd];simp
 have hB:∀q,H.length<=q->q<B.length->B[q]? =some .res:=by
  intro q h1 h2
  rw[hBd,bX h1,bR,aD (by omega)]
 obtain ⟨hI0,hx0⟩:=hI.keeps (cntA Γ (ops.toList.take m))
 rw[<- hBd] at hI0 hx0
 have hT0:=hT.ext hx0
 obtain ⟨wr,sv,wn,lf,Hf,fx,rs,na,⟨hchk,hlf⟩,hRef,hwr,hHf,hfx,hna,_,_,hQP⟩:=virtG (N:=N) hY hΓ hq htopo (look l) hB (ops.toList.take m) 0 (by simp) (fx:=[]) (rs:=[]) (na:=0) (wr:=look l) hI0 hT0 (fun _ _ _ h=>h) rfl ⟨by simp,.nil,by simp,by simp⟩ (by omega) (fun _ _=>rfl) h
 rw[Nat.zero_max] at hHf hfx
 rw[wS,aTp] at hchk
 have hmem:∀f∈fx,f.p∈fx.map (·.p):=fun f hf=>jN.2 ⟨f,hf,rfl⟩
 refine aLl (N:=N) (hS:=iV B fx) (wr:=wr) (sv:=sv) (wn:=wn) (lf:=lf) (l:=l) hY hΓ hF hms hq htopo htail0 hRef (fun t ht=>hwr t fun j o _ h2 h3=>ht j o h2 h3) (fun j o hj ho=>?_) hQn (by rw[uD];exact hI0) (by rw[uD];exact hT0) (by rw[<- hHf];exact hlf)
  (fun l' H' loc' ver' a' w' h1 h2 h3 h4 h5 h6=>hQ l' H' loc' ver' a' w' h1 h2 h3 (hx0.trans (by rw[uD] at h4;exact h4)) h5 h6)
 obtain ⟨hd,hone⟩:=hQP j o (aI _) hj ho
 refine ⟨hd,hone.want,fun hb=>?_,fun hb=>?_,hone.dst,fun x hx hg=>?_⟩
 ·intro F' hF' S hS loc' ver' w' a' hI' hsz hrd
  have hTr:∀ {lr:List (Nat × SV)},(∀(t:Nat) (E:Env) (v:Value),(lk ops o t->Rel E (rdM ops m (look l) wr j t) v)->Rel E (look lr t) v)->TRel (envOf G (iV B fx S) loc' ver' w') N lr a':=fun hlr=>⟨hsz,fun t=>hlr t _ _ (hrd t)⟩
  rcases hone.run hb with ⟨_,f,lr,hf,hp,hn,hlate,hal,hlr⟩ | ⟨_,lr,H0,H1,X,hr,_,_,hlr⟩
  ·have hn2:∀g∈fx,S g.p=true->g.n≠f.n:=fun g hg hSg hgn=>by
    by_cases hne:g.p=j
    ·rw[hne,hS.not] at hSg;cases hSg
    have hl:=hlate g hg hne hgn
    obtain ⟨o',ho',hw⟩:=hfx.own f hf hn g hg (by rw[hp];exact hl) hgn
    obtain ⟨e,he,hbd,hon⟩:=mY hw
    have:=hS.closed g.p o' ho' hSg e he hbd
    rw[hon,hp,hS.not] at this;cases this
   rw[aG5 B fx hf hp hS.not hfx.apart fun g hg _ hSg=>hn2 g hg hSg]
   refine hal.2 hF' hI' ?_ (hTr hlr)
   rw[vU B fx fun g hg hSg=>hn2 g hg hSg]
   exact hB _ hn (by have:=hfx.names f hf;omega)
  have hS1:∀f∈fx,memN f.p ((fx.map (·.p)).filter S)=S f.p:=fun f hf=>by
   rw[jI,vV,fL]
   exact ⟨fun h=>h.2,fun h=>⟨hmem f hf,h⟩⟩
  have hc:=aLn (aUg hchk _ hr) _ (aCe S (fx.map (·.p))) ?_
  ·have e1:(iV B fx fun q=>memN q ((fx.map (·.p)).filter S))=iV B fx S:=kG B fx hS1
   have e2:(iV B fx fun q=>memN q ((fx.map (·.p)).filter S) || Nat.beq q j)=iV B fx (addS S j):=kG B fx fun f hf=>by simp only[addS,hS1 f hf]
   rw[e1,e2] at hc
   obtain ⟨hnd,hopk⟩:=oJ hY hΓ hF' hI' (hTr hlr) hc
   refine ⟨hnd,hopk.mono ?_⟩
   rintro v w2 ⟨s',H',loc2,ver2,⟨rfl,rfl,_⟩,h1,h2,h3⟩
   exact ⟨loc2,ver2,h1,h2,h3⟩
  have hwm:∀i p o',ops[i]? =some o'->mN (mV ops.toList []) i p=true->(∀e∈o'.after,Region.binds .any e=true->S e.on=true)->S p=true:=fun i p o' ho' hw hp=>rU (L:=fun j=>S j=true) hS.closed ho' hw hp
  have hopS:∀p,S p=true->∃o',ops[p]? =some o':=fun p hp=>by
   have:=hS.lt p hp
   exact ⟨ops[p]'(by omega),by simp[show p<ops.size by omega]⟩
  simp only[admB,aE,lK,eE,cJ]
  refine ⟨?_,fun p hp=>?_,fun p hp=>⟨?_,fun q hq'=>?_⟩⟩
  ·rw[hZ,Ne,vV,fL]
   rintro ⟨_,h2⟩
   rw[hS.not] at h2;cases h2
  ·cases hw:mN (mV ops.toList []) j p with
   | false=>exact .inl rfl
   | true=>exact .inr (vV.2 (fL.2 ⟨hp,hwm j p o ho hw hS.own⟩))
  ·have hSp:=(fL.1 hp).2
   cases hw:mN (mV ops.toList []) p j with
   | false=>rfl
   | true=>
    obtain ⟨o',ho'⟩:=hopS p hSp
    have:=hwm p j o' ho' hw (hS.closed p o' ho' hSp)
    rw[hS.not] at this;cases this
  have hSp:=(fL.1 hp).2
  cases hw:mN (mV ops.toList []) p q with
  | false=>exact .inl rfl
  | true=>
   obtain ⟨o',ho'⟩:=hopS p hSp
   exact .inr (vV.2 (fL.2 ⟨hq',hwm p q o' ho' hw (hS.closed p o' ho' hSp)⟩))
 ·obtain ⟨h1,h2⟩:=hone.skip hb
  refine ⟨h1,fun S=>kG B fx fun f hf=>?_⟩
  simp[addS,kL (h2 f hf)]
 have hwn:=hone.plain hg
 rcases hone.run hwn with ⟨hA,_⟩ | ⟨_,lr,H0,H1,X,hr,hop,hnf,hlr⟩
 ·cases ho:o.op<;>rw[ho] at hx<;>first | (simp[isA,ho] at hA;done) | cases hx
 have hnf:=hnf (by cases ho:o.op<;>rw[ho] at hx<;>first | (simp[isL,ho];done) | cases hx)
 refine ⟨fun E a hsz hrd=>?_,fun S=>kG B fx fun f hf=>by simp[addS,kL (hnf f hf)]⟩
 obtain ⟨s,v0,hk,hrs,hrun⟩:=aK8 hx hop (lV (E:=E) (a:=a) (N:=N) ⟨hsz,fun t=>hlr t _ _ (hrd t)⟩ x)
 rw[hk.val] at hrs
 exact ⟨v0,hrs,hrun⟩
end
end Go.Eng
end
section
namespace Go.Eng
open Go.RowKit
section
variable {P:Program} {G:Ctx} {N:Nat}
theorem rD (hY:COK P G) {Γ:List Con} (hΓ:∀c∈Γ,aS P c) {A:Anns} (c:Code):∀key,aGv P G N Γ A key c:=by
 induction c with
 | skip=>
  intro key F n hF H loc ver w l a K hI hT hRo h
  exact wpIn_skip ⟨l,H,loc,ver,h,hI,hT,.refl _ _,.refl _ _,.refl _ _ _⟩
 | label n=>
  intro key F n hF H loc ver w l a K hI hT hRo h
  exact wpIn_label ⟨l,H,loc,ver,h,hI,hT,.refl _ _,.refl _ _,.refl _ _ _⟩
 | ret=>
  intro key F n hF H loc ver w l a K hI hT hRo h
  exact wpIn_ret ⟨l,H,loc,ver,h,hI,hT,.refl _ _,.refl _ _,.refl _ _ _⟩
 | exit id=>
  intro key F n hF H loc ver w l a K hI hT hRo h
  exact wpIn_exit ⟨l,H,loc,ver,h,hI,hT,.refl _ _,.refl _ _,.refl _ _ _⟩
 | region id ops draw=>
  intro key F n hF H loc ver w l a K hI hT hRo h
  cases draw with
  | true=>
   simp only[lQ,oC,qX,oD,mX,oE,iW] at h
   obtain ⟨hc,h⟩:=aW h
   obtain ⟨hm,hq⟩:=and2 hc
   refine wpIn_region_any hm ?_
   have hg:=hI.grow (w':={ w with drawn:=w.drawn+1 }) ⟨rfl,rfl,rfl,aM _,fun _ _=>rfl⟩
   refine xC (Q:=fun e a' w'=>e= .normal/\After G N (fG (.region id ops true)) (cY A key (.region id ops true)) K (envOf G H loc ver w) a .normal a' w') (fun e a' w' h=>by obtain ⟨rfl,h⟩:=h;exact h) _ _ _ _ ?_
   refine aLo hY hΓ hF hq (fun e a' w' h=>h.1) hg.1 (hT.ext hg.2) h ?_
   intro l' H' loc' ver' a' w' h1 h2 h3 h4 h5 h6
   exact ⟨rfl,l',H',loc',ver',h1,h2,h3,(hg.2.trans h4).toO _,h5,.of_eq h6⟩
  | false=>
   simp only[lQ,oC,qX,oD,mX,oE,iW] at h
   refine wpIn_region ?_
   have:=aF2 (N:=N) (n:=n) hY hΓ hF ops.toList 0 (by simp) (Q:=After G N (fG (.region id ops false)) (cY A key (.region id ops false)) K (envOf G H loc ver w) a) hI hT h
    (fun l' H' loc' ver' a' w' h1 h2 h3 h4 h5 h6=>⟨l',H',loc',ver',h1,h2,h3,h4.toO _,h5,.of_eq h6⟩)
   rw[List.range_eq_range']
   simpa using this
 | seq x y ihx ihy=>
  intro key F n hF H loc ver w l a K hI hT hRo h
  refine wpIn_seq ?_
  have behind:∀ {H':List HO} {loc':Nat->Loc} {ver':Nat->Nat} {w':World} {l':List (Nat × SV)} {a':Act},Inv G H' loc' ver' w'->TRel (envOf G H' loc' ver' w') N l' a'->exec P Γ N A key y l' H' K->
    ExtO (cY A key (.seq x y)) (envOf G H loc ver w) (envOf G H' loc' ver' w')->Same (fG (.seq x y)) a a'->Marked (envOf G H loc ver w) (envOf G H' loc' ver' w') a.defers a'.defers->
    y.wpIn F n P (After G N (fG (.seq x y)) (cY A key (.seq x y)) K (envOf G H loc ver w) a) a' w':=by
   intro H' loc' ver' w' l' a' hI' hT' h' hx hs hd
   refine wpIn_mono (ihy key hF hI' hT' (hRo.ext hx) h') ?_
   intro e a'' w'' h''
   refine After.trans hx hs hd (h''.mono (aCa _ _) (fun m hm=>?_) fun _ _ h=>h)
   simp only[cY]
   rw[mem_append,mem_append,hm];simp
  simp only[lQ,oC,qX,oD,mX,oE,iW] at h
  cases hc:aPa A y with
  | none=>
   rw[hc] at h
   refine wpIn_mono (ihx key hF hI hT hRo h) ?_
   rintro e a' w' ⟨l',H',loc',ver',h1,h2,h3,h4,h5,h6⟩
   have hD:∀m,mem m (cY A key x)=true->mem m (cY A key (.seq x y))=true:=by
    intro m hm;simp only[cY];rw[mem_append,mem_append,hm];simp
   cases e with
   | normal=>exact behind h2 h3 h1 (h4.mono hD) (h5.mono (uU _ _)) h6
   | _=>exact ⟨l',H',loc',ver',h1,h2,h3,h4.mono hD,h5.mono (uU _ _),h6⟩
  | some an=>
   rw[hc] at h
   obtain ⟨hok,hvc⟩:=h
   obtain ⟨_,hx⟩:=hvc.init
   have hD:∀m,mem m (cY A key x)=true->mem m (cY A key (.seq x y))=true:=by
    intro m hm;simp only[cY];rw[mem_append,mem_append,hm];simp
   have hO:∀m,mem m an.objs=true->mem m (cY A key (.seq x y))=true:=by
    intro m hm;simp only[cY,hc];rw[mem_append,hm];simp
   refine wpIn_mono (ihx key hF hI hT hRo hx) ?_
   rintro e a' w' ⟨l',H',loc',ver',h1,h2,h3,h4,h5,h6⟩
   cases e with
   | normal=>
    obtain ⟨z,hz⟩:=h1
    have hz1:=and2 (hok z)
    have hz2:=and2 hz1.1
    have hz3:=and2 hz2.1
    obtain ⟨hI2,hT2,hx2⟩:=zY hI hT h2 h3 h4 h5 (bH.1 hz3.2) hz1.2 hz2.2 hz
    have hr:=hvc.round () z hz.pre
    rw[mF,nC] at hr
    refine behind hI2 hT2 hr (hx2.mono hO) (h5.mono (uU _ _)) ?_
    obtain ⟨Ds,m1,m2,m3⟩:=h6
    refine ⟨Ds,m1,m2,fun D hD=>?_⟩
    obtain ⟨q1,q2,q3⟩:=m3 D hD
    refine ⟨q1,?_,q3⟩
    intro hq
    rcases hx2.ali D hq with q4 | q4
    ·obtain ⟨nm,st,k,it,e1,e2⟩:=hq
     obtain ⟨o',e3,e4⟩:=(nF hz.ent.2).2 nm _ e1
     cases o' with
     | yst=>exact q2 ⟨nm,_,_,_,e3,e2⟩
     | _=>exact e4.elim
    obtain ⟨nm,st,k,it,e1,e2⟩:=hq
    obtain ⟨o',e3,e4⟩:=(nF hz.ent.2).2 nm _ e1
    cases o' with
    | yst=>exact q2 ⟨nm,_,_,_,e3,e2⟩
    | _=>exact e4.elim
   | _=>exact ⟨l',H',loc',ver',h1,h2,h3,h4.mono hD,h5.mono (uU _ _),h6⟩
 | cond c x y ihx ihy=>
  intro key F n hF H loc ver w l a K hI hT hRo h
  have hr:=lV hT c
  have hX:exec P Γ N A key x l H K->x.wpIn F n P (After G N (fG (.cond c x y)) (cY A key (.cond c x y)) K (envOf G H loc ver w) a) a w:=fun h=>
   wpIn_mono (ihx key hF hI hT hRo h) fun e a' w' h'=>h'.mono (uU _ _) (uU _ _) fun _ _ h=>h
  have hY':exec P Γ N A key y l H K->y.wpIn F n P (After G N (fG (.cond c x y)) (cY A key (.cond c x y)) K (envOf G H loc ver w) a) a w:=fun h=>
   wpIn_mono (ihy key hF hI hT hRo h) fun e a' w' h'=>h'.mono (aCa _ _) (aCa _ _) fun _ _ h=>h
  simp only[lQ,oC,qX,oD,mX,oE,iW] at h
  split at h
  ·rename_i hl;rw[hl] at hr
   exact wpIn_cond_true hr.bool_inv (hX h)
  ·rename_i hl;rw[hl] at hr
   exact wpIn_cond_false hr.bool_inv (hY' h)
  ·rename_i p d hl
   rw[hl] at hr
   generalize hv:a.eval c=v at hr
   cases hr
   by_cases hp:p
   ·exact wpIn_cond_true (by rw[hv];simp[hp]) (hX (h.yes hp))
   exact wpIn_cond_false (by rw[hv];simp[hp]) (hY' (h.no hp))
  exact h.elim
 | block id c ih=>
  intro key F n hF H loc ver w l a K hI hT hRo h
  simp only[lQ,oC,qX,oD,mX,oE,iW] at h
  refine wpIn_block (wpIn_mono (ih id hF hI hT hRo h) ?_)
  rintro e a' w' ⟨l',H',loc',ver',h1,h2,h3,h4,h5,h6⟩
  cases e with
  | exit m=>
   simp only at h1
   simp only[Exit.inBlock]
   by_cases hm:m=id
   ·subst hm
    rw[fW] at h1
    simp only[bP] at h1
    rw[aD rfl]
    exact ⟨l',H',loc',ver',h1,h2,h3,h4,h5,h6⟩
   rw[kL hm] at h1
   simp only[cA] at h1
   rw[aC hm]
   exact ⟨l',H',loc',ver',h1,h2,h3,h4,h5,h6⟩
  | _=>exact ⟨l',H',loc',ver',h1,h2,h3,h4,h5,h6⟩
 | loop c ih=>
  intro key F n hF H loc ver w l a K hI hT hRo h
  simp only[lQ,oC,qX,oD,mX,oE,iW] at h
  rcases aBx h with ⟨an,hA,h⟩ | h
  case inr=>
   have hD:∀m,mem m (cY A key c)=true->mem m (cY A key (.loop c))=true:=by
    intro m hm;simp only[cY];exact uU _ _ m hm
   refine aEp (fun k a' w'=>∃l' H' loc' ver',aA4 (exec P Γ N A key c) k l' H' K/\Inv G H' loc' ver' w'/\TRel (envOf G H' loc' ver' w') N l' a'/\ExtO (cY A key (.loop c)) (envOf G H loc ver w) (envOf G H' loc' ver' w')/\Same (fG (.loop c)) a a'/\
     Marked (envOf G H loc ver w) (envOf G H' loc' ver' w') a.defers a'.defers)
    ⟨_,l,H,loc,ver,h,hI,hT,.refl _ _,.refl _ _,.refl _ _ _⟩ ?_
   rintro k a1 w1 ⟨l1,H1,loc1,ver1,hu,hI1,hT1,hx1,hs1,hd1⟩
   cases k with
   | zero=>exact hu.elim
   | succ k=>
    simp only[aJ6] at hu
    refine wpIn_mono (ih key hF hI1 hT1 (hRo.ext hx1) hu) ?_
    rintro e a' w' ⟨l',H',loc',ver',h1,h2,h3,h4,h5,h6⟩
    cases e with
    | normal=>
     have h1:lO l' (fun l'=>nJ H' fun H'=>aA4 (exec P Γ N A key c) k l' H' K):=h1
     rw[mF,nC] at h1
     exact ⟨k,cS k,l',H',loc',ver',h1,h2,h3,hx1.trans (h4.mono hD),hs1.trans h5,hd1.trans hx1.size h4 h6⟩
    | _=>exact ⟨l',H',loc',ver',h1,h2,h3,hx1.trans (h4.mono hD),hs1.trans h5,hd1.trans hx1.size h4 h6⟩
  case inl=>
   obtain ⟨hok,hvc⟩:=h
   obtain ⟨x0,hx0⟩:=hvc.init
   have hD:∀m,mem m (cY A key c)=true->mem m (cY A key (.loop c))=true:=by
    intro m hm;simp only[cY];exact uU _ _ m hm
   have hO:∀m,mem m an.objs=true->mem m (cY A key (.loop c))=true:=by
    intro m hm;simp only[cY,hA];exact aCa _ _ m hm
   have arr:∀ {x:an.X} {l':List (Nat × SV)} {H':List HO} {loc':Nat->Loc} {ver':Nat->Nat} {a':Act} {w':World},Inv G H' loc' ver' w'->TRel (envOf G H' loc' ver' w') N l' a'->ExtO (cY A key c++an.objs) (envOf G H loc ver w) (envOf G H' loc' ver' w')->Same (fG c) a a'->
     Marked (envOf G H loc ver w) (envOf G H' loc' ver' w') a.defers a'.defers->
     sF an x H l' H'->Inv G (an.heap x H) loc' (gW an.objs (an.heap x H) ver') w'/\TRel (envOf G (an.heap x H) loc' (gW an.objs (an.heap x H) ver') w') N (annL an x (fG c) l H) a'/\
      ExtO an.objs (envOf G H loc ver w) (envOf G (an.heap x H) loc' (gW an.objs (an.heap x H) ver') w')/\Marked (envOf G H loc ver w) (envOf G (an.heap x H) loc' (gW an.objs (an.heap x H) ver') w') a.defers a'.defers:=by
    intro x l' H' loc' ver' a' w' h1 h2 h3 h4 hmk h5
    have hz1:=and2 (hok x)
    have hz2:=and2 hz1.1
    have hz3:=and2 hz2.1
    obtain ⟨r1,r2,r3⟩:=zY hI hT h1 h2 h3 h4 (bH.1 hz3.2) hz1.2 (xV hz2.2) h5
    refine ⟨r1,r2,r3,?_⟩
    obtain ⟨Ds,m1,m2,m3⟩:=hmk
    refine ⟨Ds,m1,m2,fun D hD=>?_⟩
    obtain ⟨q1,q2,q3⟩:=m3 D hD
    refine ⟨q1,?_,q3⟩
    rintro ⟨nm,st,k,it,e1,e2⟩
    obtain ⟨o',e3,e4⟩:=(nF h5.ent.2).2 nm _ e1
    cases o' with
    | yst=>exact q2 ⟨nm,_,_,_,e3,e2⟩
    | _=>exact e4.elim
   obtain ⟨hI0,hT0,hx00,hm00⟩:=arr hI hT (.refl _ _) (.refl _ _) (.refl _ _ _) hx0
   have arrS:∀ {x:an.X} {l':List (Nat × SV)} {H':List HO} {loc':Nat->Loc} {ver':Nat->Nat} {a':Act} {w':World},Inv G H' loc' ver' w'->TRel (envOf G H' loc' ver' w') N l' a'->ExtO (cY A key c++an.objs) (envOf G H loc ver w) (envOf G H' loc' ver' w')->Same (fG c) a a'->
     Marked (envOf G H loc ver w) (envOf G H' loc' ver' w') a.defers a'.defers->
     zK an x H l' H'->∃loc2 ver2,Inv G (an.heap x H) loc2 ver2 w'/\TRel (envOf G (an.heap x H) loc2 ver2 w') N (annL an x (fG c) l H) a'/\
      ExtO an.objs (envOf G H loc ver w) (envOf G (an.heap x H) loc2 ver2 w')/\Marked (envOf G H loc ver w) (envOf G (an.heap x H) loc2 ver2 w') a.defers a'.defers:=by
    intro x l' H' loc' ver' a' w' h1 h2 h3 h4 hmk h5
    unfold zK at h5
    split at h5
    ·exact ⟨_,_,arr h1 h2 h3 h4 hmk h5⟩
    rename_i t0 a0 hsw
    split at h5
    ·rename_i b0 hl0
     obtain ⟨hc,h5⟩:=aW h5
     obtain ⟨c1,hc⟩:=and2 hc
     obtain ⟨c2,hc⟩:=and2 hc
     obtain ⟨c3,hc⟩:=and2 hc
     obtain ⟨c4,c5⟩:=and2 hc
     rw[mF,nC] at h5
     have c2:H.length<=b0:=by simpa using c2
     have c3:a0<H.length:=by simpa using c3
     have hab:a0≠b0:=by omega
     obtain ⟨i1,i2,i3⟩:=aT4 h1 hab c4 c5
     have hD:mem a0 (cY A key c++an.objs)=true:=aCa _ _ _ c1
     have hx':=aZc h1 hab c4 c5 hD (fun nm hn e=>by have:=fU (show hasB H nm=true from hn);omega) h3
     refine ⟨_,_,arr i1 ⟨h2.size,fun t=>by rw[aB9];exact i3 (h2.rel t)⟩ hx' h4 ?_ h5⟩
     obtain ⟨Ds,m1,m2,m3⟩:=hmk
     refine ⟨Ds,m1,m2,fun D hD=>?_⟩
     obtain ⟨q1,q2,q3⟩:=m3 D hD
     obtain ⟨la,ea,hga,_⟩:=vP c4
     exact ⟨q1,fun hq=>q2 (aT5 hab (aK.1 hga).1 c5 hq),q3⟩
    exact h5.elim
   refine aEp (fun k a' w'=>∃x loc' ver',an.mu x=k/\an.pre x/\Inv G (an.heap x H) loc' ver' w'/\TRel (envOf G (an.heap x H) loc' ver' w') N (annL an x (fG c) l H) a'/\
     ExtO an.objs (envOf G H loc ver w) (envOf G (an.heap x H) loc' ver' w')/\Same (fG c) a a'/\Marked (envOf G H loc ver w) (envOf G (an.heap x H) loc' ver' w') a.defers a'.defers)
    ⟨_,x0,_,_,rfl,hx0.pre,hI0,hT0,hx00,.refl _ _,hm00⟩ ?_
   rintro k a1 w1 ⟨x,loc1,ver1,rfl,hp,hI1,hT1,hx1,hs1,hd1⟩
   have hr:=hvc.round x hp
   rw[mF,nC] at hr
   refine wpIn_mono (ih key hF hI1 hT1 (hRo.ext hx1) hr) ?_
   rintro e a' w' ⟨l',H',loc',ver',h1,h2,h3,h4,h5,h6⟩
   cases e with
   | normal=>
    obtain ⟨x',hlt,hx'⟩:=h1
    obtain ⟨loc2,ver2,hI2,hT2,hx2,hm2⟩:=arrS h2 h3 ((hx1.mono (aCa _ _)).trans (h4.mono (uU _ _))) (hs1.trans h5) (hd1.trans hx1.size h4 h6) hx'
    have hpre:an.pre x':=by
     unfold zK at hx'
     split at hx'
     ·exact hx'.pre
     split at hx'
     ·obtain ⟨_,hx'⟩:=aW hx'
      rw[mF,nC] at hx'
      exact hx'.pre
     exact hx'.elim
    exact ⟨an.mu x',hlt,x',loc2,ver2,rfl,hpre,hI2,hT2,hx2,hs1.trans h5,hm2⟩
   | _=>exact ⟨l',H',loc',ver',h1,h2,h3,(hx1.mono hO).trans (h4.mono hD),hs1.trans h5,hd1.trans hx1.size h4 h6⟩
 | rangeFunc f ps x y ihx ihy=>exact fun key=>aK6 hY hΓ ihx ihy key
 | scope c ih=>intro key F n hF H loc ver w l a K hI hT hRo h;exact h.elim
 | goto m=>intro key F n hF H loc ver w l a K hI hT hRo h;exact h.elim
 | refuse s=>intro key F n hF H loc ver w l a K hI hT hRo h;exact h.elim
end
end Go.Eng
end
section
namespace Go.Eng
open Go.RowKit
section
variable {P:Program} {G:Ctx} {H:List HO} {loc:Nat->Loc} {ver:Nat->Nat} {w:World} {N:Nat}
theorem aEr:∀(args:List SV) (n t:Nat),look (xR args n) t=if n<=t then args.getD (t-n) .any else .any
 | [],n,t=>by simp[xR,look]
 | x::r,n,t=>by
  simp only[xR,look]
  by_cases e:n=t
  ·subst e;simp[fW]
  rw[kL e]
  simp only[cA]
  rw[aEr r (n+1) t]
  by_cases h:n<=t
  ·rw[aD h,aD (by omega)]
   obtain ⟨k,rfl⟩:∃k,t=n+1+k:=⟨t-(n+1),by omega⟩
   rw[show n+1+k-(n+1)=k by omega,show n+1+k-n=k+1 by omega]
   rfl
  rw[aC h,aC (by omega)]
theorem sX {E:Env} {args:List SV} {vs:List Value} (h:RelL E args vs) (hn:args.length<=N):TRel E N (xR args 0) { tmps:=⟨vs⟩++Array.replicate (N-(⟨vs⟩:Array Value).size) undef,defers:=[] }:=by
 have hl:=h.length
 refine ⟨by simp;omega,fun t=>?_⟩
 rw[aEr,aD (aI _),jO]
 by_cases ht:t<args.length
 ·have:=h.get t ht
  have e:(⟨vs⟩++Array.replicate (N-(⟨vs⟩:Array Value).size) undef:Array Value).getD t undef=vs.getD t undef:=by
   rw[bL,Array.getElem?_append_left (by simp;omega),aB]
   simp
  rw[e];exact this
 have:args.getD t .any= .any:=by simp[aB,bN (tI ht)]
 rw[this];exact .any _
def ctx0 (w:World) (ok:Nat->Prop) (hok:∀b,ok b->b<w.heap.size):Ctx:=⟨w,ok,fun _=>False,fun _ _ h=>h,hok,itr0,aI _⟩
theorem aGw (ok:Nat->Prop) (hok:∀b,ok b->b<w.heap.size):Inv (ctx0 w ok hok) [] (fun _=>mkL none 0 0) (fun _=>0) w:=by
 refine ⟨aM _,rfl,rfl,rfl,fun _ _ _=>rfl,fun nm o h=>by simp at h,fun b hb=>?_,fun nm nm' o o' b h=>by simp at h⟩
 obtain ⟨nm,o,h,_⟩:=hb
 simp at h
theorem Inv.book (hI:Inv G H loc ver w) {D:Nat} {o:Obj} {ds:Option (List Deferred)} (hD:w.heap[D]? =some (.deferred ds)) (h0:G.w0.heap.size<=D) (hn0:G.itr.n0<=D) (hal:¬aliN H loc D):Inv G H loc ver (w.putObj D o)/\∀s v,Rel (envOf G H loc ver w) s v->Rel (envOf G H loc ver (w.putObj D o)) s v:=by
 have hoth:∀b,b≠D->(w.putObj D o).heap[b]? =w.heap[b]? :=fun b hb=>World.putObj_heap_other hb
 have hcell:∀(a:Addr) (v:Value),w.cell? a=some v->(w.putObj D o).cell? a=some v:=by
  intro a v hv
  by_cases e:a.block=D
  ·rw[World.cell?,e,hD] at hv;cases hv
  exact (World.cell?_of_block (hoth _ e)).trans hv
 have hok:∀b,okN G H loc w b->okN G H loc (w.putObj D o) b:=fun b hb=>⟨hb.1,by simpa using hb.2.1,hb.2.2⟩
 have hcm:∀ {b:Nat} {x:Obj},w.heap[b]? =some x->isCM x=true->(w.putObj D o).heap[b]? =some x:=fun {b x} h hm=>
  (hoth b (fun e'=>by subst e';rw[hD] at h;cases h;cases hm)).trans h
 have hcs:∀ {b:Nat} {c:Array Value} {e:TypeId} {f:Nat × Nat},w.heap[b]? =some (.cells c e f)->(w.putObj D o).heap[b]? =some (.cells c e f):=fun {b c e f} h=>hcm h rfl
 have hmv:∀ {l:List SV} {vs:List Value},RelL (envOf G H loc ver w) l vs->RelL (envOf G H loc ver (w.putObj D o)) l vs:=fun h=>
  RelL.move (E:=envOf G H loc ver w) (E':=envOf G H loc ver (w.putObj D o)) (p:=hasB H) (fun nm _ hn=>⟨hn,.inl ⟨rfl,rfl⟩⟩) (fun _ _ _ _=>.inl rfl) (fun _=>rfl) (fun b _ _ h hm=>hcm h hm) hok h h.under
 refine ⟨?_,fun s v h=>Rel.move (E:=envOf G H loc ver w) (E':=envOf G H loc ver (w.putObj D o)) (p:=hasB H) (fun nm _ hn=>⟨hn,.inl ⟨rfl,rfl⟩⟩) (fun _ _ _ _=>.inl rfl) (fun _=>rfl) (fun b _ _ h hm=>hcm h hm) hok h h.under⟩
 refine ⟨by simpa using hI.size,hI.os,hI.tape,hI.output,fun b hb hm=>(hoth b (by omega)).trans (hI.frame b hb hm),fun nm x hx=>?_,hI.own,hI.sep⟩
 have hO:=hI.objs nm x hx
 cases x with
 | dead=>trivial
 | res=>trivial
 | fro k t xs=>obtain ⟨h1,h2,h3⟩:=hO;exact ⟨h1,h2,h3.mono (fun a v _ hv=>hcell a v hv) hok⟩
 | frc l=>obtain ⟨h1,b,vs,e,h2,h3,h4,h5⟩:=hO;exact ⟨h1,b,vs,e,h2,hok b h3,hcs h4,hmv h5⟩
 | cells l e=>obtain ⟨h1,b,vs,h2,h3,h4⟩:=hO;exact ⟨h1,b,vs,h2,hcs h3,hmv h4⟩
 | qm ks l=>obtain ⟨h1,h2,hbr,b,es,c,h3,h4,h5,h6⟩:=hO;exact ⟨h1,h2,hbr,b,es,c,h3,hcm h4 rfl,h5,hmv h6⟩
 | frm ks l=>obtain ⟨h1,hbr,b,es,c,h3,h4,h5,h6,h7⟩:=hO;exact ⟨h1,hbr,b,es,c,h3,hok b h4,hcm h5 rfl,h6,hmv h7⟩
 | vec k t xs e=>
  obtain ⟨h1,h2,h3,h4,vs,h5,h6⟩:=hO
  refine ⟨h1,h2,h3,h4,vs,⟨h5.1,?_⟩,fun i hi=>(h6 i hi).mono (fun a v _ hv=>hcell a v hv) hok⟩
  rcases h5.2 with h7 | ⟨g,cap,cur,h7,h8,h9,h10⟩
  ·exact .inl h7
  exact .inr ⟨g,cap,cur,h7,h8,hcs h9,h10⟩
 | gone=>exact ⟨hO.1,fun b hb=>by simpa [envOf] using hO.2 b hb⟩
 | lnt k t xs=>
  obtain ⟨h1,h2,h3,h4,h5⟩:=hO
  refine ⟨h1,h2,h3,fun b x hb=>⟨(h4 b x hb).1,(hoth b fun e'=>?_).trans (h4 b x hb).2⟩,h5.mono (fun a v _ hv=>hcell a v hv) fun _ h=>h⟩
  obtain ⟨k1,k2⟩:=h4 b x hb
  subst e'
  have k2:w.heap[b]? =some x:=k2
  rw[hD] at k2;cases k2
  cases k1
 | map k t m=>
  obtain ⟨h1,h2,h3,b,es,h4,h5,h6⟩:=hO
  exact ⟨h1,h2,h3,b,es,h4,(hoth b (fun e'=>by subst e';have h5:w.heap[b]? = _:=h5;rw[hD] at h5;cases h5)).trans h5,h6.mono (fun a v _ hv=>hcell a v hv) hok⟩
 | vv k s t xss pend eo ei=>
  obtain ⟨h1,h2,h3,h4,h5,⟨vs,h6,h7⟩,h8,h9⟩:=hO
  have hnD:∀b,(b=D)->∀ {c:Array Value} {e:TypeId},w.heap[b]? ≠some (.cells c e (0,0)):=fun b e' c e h=>by subst e';rw[hD] at h;cases h
  have hkeep:∀ {base:Nat} {e:TypeId} {size n:Nat} {v:Value} {vs:List Value},w.ownsR base e size v n vs->(w.putObj D o).ownsR base e size v n vs:=fun {base e size n v vs} h=>by
   refine ⟨h.1,?_⟩
   rcases h.2 with h5 | ⟨g,cap,cur,h5,h6,h7,h8⟩
   ·exact .inl h5
   exact .inr ⟨g,cap,cur,h5,h6,hcs h7,h8⟩
  have hrow:∀ {al:Nat->Prop} {h:Value} {xs:List t.T},RowAt (envOf G H loc ver w) al t ei h xs->RowAt (envOf G H loc ver (w.putObj D o)) al t ei h xs:=fun ⟨vs,q1,q2,q3⟩=>⟨vs,hkeep q1,q2,fun i hi=>(q3 i hi).mono (fun a v _ hv=>hcell a v hv) hok⟩
  refine ⟨h1,h2,h3,h4,h5,⟨vs,hkeep h6,h7⟩,fun b hb=>?_,⟨h9.flat,fun i hi hp=>hrow (h9.row i hi hp),h9.apart,fun j ys hp=>by obtain ⟨q1,q2,q3⟩:=h9.grown j ys hp;exact ⟨q1,hrow q2,q3⟩,h9.short⟩⟩
  obtain ⟨q1,q2,c,e,q3⟩:=h8 b hb
  exact ⟨by simpa [envOf] using q1,q2,c,e,hcs q3⟩
 | mit m s l c=>
  obtain ⟨h1,h2,r,bm,h3,h4,h5⟩:=hO
  exact ⟨h1,h2,r,bm,h3,(hoth r (fun e'=>by subst e';have h4:w.heap[r]? = _:=h4;rw[hD] at h4;cases h4)).trans h4,h5⟩
 | yst st n it=>
  obtain ⟨h1,h2,h3,h4,h5,h6,h7⟩:=hO
  have hnal:¬(loc nm).al D:=fun h=>hal ⟨nm,_,_,_,hx,h⟩
  have hDs:=(aG.1 hD).1
  refine ⟨h1,fun b hb=>by simpa [envOf] using h2 b hb,by simpa [envOf] using h3,h4,h5,fun b hb hl=>⟨(h6 b hb hl).1,hok b (h6 b hb hl).2⟩,?_⟩
  have:=G.itr.abides st _ w (w.putObj D o) h7 rfl rfl rfl (by simp) fun b hb hm=>hoth b fun e=>hm (by subst e;exact ⟨hn0,hDs,hnal⟩)
  refine cast (aO (fun M=>G.itr.J st M (w.putObj D o)) (funext fun b=>propext ⟨?_,?_⟩)) this
  ·rintro (⟨h8,h9,h10⟩ | ⟨h8,h9⟩)
   ·exact ⟨h8,by simpa [envOf] using h9,h10⟩
   exfalso;simp at h9;omega
  rintro ⟨h8,h9,h10⟩
  exact .inl ⟨h8,by simpa [envOf] using h9,h10⟩
def aA9 (a:Act):ResultVar->Sem Value
 | .tmp t=>pure (a.tmps.getD t undef)
 | .cell c t=>do loadVar t (<- asAddr (a.tmps.getD c undef))
theorem vR (hI:Inv G H loc ver w) {l:List (Nat × SV)} {a:Act} (hT:TRel (envOf G H loc ver w) N l a):∀ {rs:List ResultVar} {vs:List SV},vI P l H rs=some vs->
  ∃us:List Value,(rs.mapM (aA9 a)).run P w= .ok us w/\RelL (envOf G H loc ver w) vs us
 | [],vs,h=>by simp[vI] at h;subst h;exact ⟨[],by simp[List.mapM_nil],.nil⟩
 | .tmp t::r,vs,h=>by
  simp only[vI] at h
  split at h
  ·rename_i vs' h'
   cases h
   obtain ⟨us,h1,h2⟩:=vR hI hT h'
   refine ⟨a.tmps.getD t undef::us,?_,.cons _ _ _ _ (hT.rel t) h2⟩
   rw[rO]
   simp only[aA9,Sem.run_bind,Sem.run_pure,Result.andThen_ok,h1]
  cases h
 | .cell c t::r,vs,h=>by
  simp only[vI] at h
  split at h
  ·rename_i nm off ag sz vs' hl ha hz h'
   obtain ⟨us,h1,h2⟩:=vR hI hT h'
   have hr:=hT.rel c
   rw[hl] at hr
   cases ho:hget H nm with
   | cells cs e=>
    rw[ho] at h
    simp only at h
    obtain ⟨b,hb,hv⟩:=sU hI hr (by simp[live,ho])
    obtain ⟨h0,b',ws,h3,h4,h5⟩:=hI.objs nm _ (aR ho (by simp))
    rw[hb] at h3;cases h3
    have h4':w.heap[b]? =some (.cells ⟨ws⟩ e (0,0)):=h4
    have key:∀s,mM ag off sz cs (fun x=>x=s)->∃u,(loadVar t ⟨b,off,none⟩).run P w= .ok u w/\Rel (envOf G H loc ver w) s u:=by
     intro s hs
     obtain ⟨u,s',h6,h7,h8⟩:=mH (P:=P) (E:=envOf G H loc ver w) (base:=0) (b:=b) hs ha hz h5 (fun j v hj=>by simp[envOf,World.cell?,h4',hj])
     subst h7
     refine ⟨u,?_,h8⟩
     have h6':(Instr.loadAt t (.pointer (some ⟨b,0+off,none⟩))).run P w= .ok u w:=h6
     simpa [Instr.loadAt,Instr.sureAddr] using h6'
    have fin:∀s,mM ag off sz cs (fun x=>x=s)->vs=s::vs'->∃us:List Value,((ResultVar.cell c t::r).mapM (aA9 a)).run P w= .ok us w/\RelL (envOf G H loc ver w) vs us:=by
     intro s hs e
     subst e
     obtain ⟨u,h6,h7⟩:=key s hs
     refine ⟨u::us,?_,.cons _ _ _ _ h7 h2⟩
     rw[rO]
     simp only[aA9,Sem.run_bind,hv,asAddr,Sem.run_pure,Result.andThen_ok,h6,h1]
    cases ag with
    | true=>
     simp only at h
     cases hb2:Nat.ble (off+sz) cs.length with
     | true=>
      rw[hb2] at h
      simp only[bP] at h
      cases h
      exact fin _ (by simp[mM,hb2,bQ]) rfl
     | false=>rw[hb2] at h;cases h
    | false=>
     simp only at h
     cases hb2:Nat.blt off cs.length with
     | true=>
      rw[hb2] at h
      simp only[bP] at h
      cases h
      exact fin _ (by simp[mM,hb2,iU]) rfl
     | false=>rw[hb2] at h;cases h
   | _=>rw[ho] at h;cases h
  cases h
theorem aQx {E:Env} {vs:List SV} {us:List Value} (h:RelL E vs us):Rel E (xQ vs) (if h:(us.toArray).size=1 then us.toArray[0] else .tuple us.toArray):=by
 cases h with
 | nil=>exact .tup _ _ .nil
 | cons s v l us h hl=>
  cases hl with
  | nil=>exact h
  | cons s' v' l' us' h' hl'=>
   have:¬((v::v'::us').toArray.size=1):=by simp
   rw[xH this]
   exact .tup _ _ (.cons _ _ _ _ h (.cons _ _ _ _ h' hl'))
theorem kX (hI:Inv G H loc ver w) {l:List (Nat × SV)} {a:Act} (hT:TRel (envOf G H loc ver w) N l a) {fn:Func} {vs:List SV} (h:vI P l H fn.results.toList=some vs):
  ∃v,(results fn a.tmps).run P w= .ok v w/\Rel (envOf G H loc ver w) (xQ vs) v:=by
 obtain ⟨us,h1,h2⟩:=vR (P:=P) hI hT h
 refine ⟨_,?_,aQx h2⟩
 have hm:(fn.results.mapM (aA9 a)).run P w= .ok us.toArray w:=by
  rw[Array.mapM_eq_mapM_toList]
  simp only[Sem.run_map,h1,Result.andThen_ok]
 have e:results fn a.tmps=(do
   let vs <- fn.results.mapM (aA9 a)
   pure (if h:vs.size=1 then vs[0] else .tuple vs)):=by
  unfold results
  congr 1
 rw[e,Sem.run_bind,hm]
 rfl
theorem Reads.flat {w:World} {ok ok':Nat->Prop} {t:Ty} (ht:t.flat=true) {x:t.T} {cs:List Value} (h:Reads w ok t x cs):Reads w ok' t x cs:=by
 induction t generalizing cs with
 | int k=>exact h
 | bool=>exact h
 | str=>exact h
 | slice t _=>cases ht
 | pair a b iha ihb=>
  simp only[Ty.flat,aE] at ht
  obtain ⟨c1,c2,e,h1,h2⟩:=h
  exact ⟨c1,c2,e,iha ht.1 h1,ihb ht.2 h2⟩
theorem aBa (hG:∀b,¬G.mine b) (hI:Inv G H loc ver w) {s:SV} {v:Value} (h:Rel (envOf G H loc ver w) s v):Rel (env0 w fun b=>G.w0.heap.size<=b/\b<w.heap.size) (zM H s) v:=by
 cases h with
 | ref nm k v hn h0 hk hv=>
  simp only[zM]
  cases ho:hget H nm with
  | vec j t xs e=>
   simp only
   cases hb:(Nat.beq j k&&t.flat) with
   | false=>exact .any v
   | true=>
    obtain ⟨h1,h2⟩:=and2 hb
    obtain rfl:=bH.1 h1
    have hn':=aR ho (by simp)
    have hO:=hI.objs nm _ hn'
    have:=hv hO.1.symm
    subst this
    obtain ⟨_,_,hlen,hmax,vs,hown,hel⟩:=hO
    refine .seq t xs _ ?_
    rcases cE hown with ⟨e1,e2,e3,e4⟩ | ⟨g,cur,e1,e2,e3,e4,e5,e6,e7⟩
    ·exact ⟨none,0,0,by simp[Core.head,envOf,e1,e2,e3],by omega,aM _,aI _,fun h=>absurd h (fJ _)⟩
    have hgg:Owned H loc g:=⟨nm,_,hn',by simp[Owns,e1]⟩
    have hg1:G.w0.heap.size<=g:=by
     rcases hI.own g hgg with h | h
     ·exact (hG g h).elim
     exact h
    have hg2:g<w.heap.size:=(aG.1 e3).1
    refine ⟨some ⟨g,0,none⟩,(loc nm).len,(loc nm).cap,by simp[Core.head,envOf,e1],hlen,e4,hmax,fun h0=>⟨g,0,rfl,⟨hg1,hg2⟩,fun i hi=>⟨_,(hel i hi).length,?_,(hel i hi).flat h2⟩⟩⟩
    intro j v hj
    rw[aJ] at hj
    split at hj
    ·rw[aT,<- e7,aJ] at hj
     split at hj
     ·have e3':w.heap[g]? =some (.cells cur _ (0,0)):=e3
      simp only[env0,World.cell?,e3']
      simpa using hj
     cases hj
    cases hj
  | vv j s t xss pd eo ei=>
   cases pd with
   | some p=>exact .any v
   | none=>
   cases hb:Nat.beq j k with
   | false=>simp only[hb,cA];exact .any v
   | true=>
    simp only[hb,bP]
    obtain rfl:=bH.1 hb
    have hn':=aR ho (by simp)
    have hO:=hI.objs nm _ hn'
    have:=hv hO.1.symm
    subst this
    obtain ⟨_,_,_,hlen,hmax,⟨vs,hown,hel⟩,hal,hrows⟩:=hO
    have hge:∀b,Owns (loc nm) (.vv j s t xss none eo ei) b->G.w0.heap.size<=b:=fun b hb=>by
     rcases hI.own b ⟨nm,_,hn',hb⟩ with h | h
     ·exact (hG b h).elim
     exact h
    refine .seq (.slice t) xss _ ?_
    rcases cE hown with ⟨e1,e2,e3,e4⟩ | ⟨g,cur,e1,e2,e3,e4,e5,e6,e7⟩
    ·exact ⟨none,0,0,by simp[Core.head,envOf,e1,e2,e3],by omega,aM _,aI _,fun h=>absurd h (fJ _)⟩
    have hg1:G.w0.heap.size<=g:=hge g (.inl (by simp[e1]))
    have hg2:g<w.heap.size:=(aG.1 e3).1
    refine ⟨some ⟨g,0,none⟩,(loc nm).len,(loc nm).cap,by simp[Core.head,envOf,e1],hlen,e4,hmax,fun h0=>⟨g,0,rfl,⟨hg1,hg2⟩,fun i hi=>⟨[(loc nm).sub.rows i],rfl,?_,?_⟩⟩⟩
    ·intro q v hq
     have hq0:q=0:=by
      have:=(aK.1 hq).1
      simpa using this
     subst hq0
     have h1:=hel i hi
     rw[<- e7,aJ] at h1
     split at h1
     ·have e3':w.heap[g]? =some (.cells cur _ (0,0)):=e3
      simp only[env0,World.cell?,e3']
      simp only[iA,jQ] at hq
      subst hq
      simpa [Ty.size] using h1
     cases h1
    have hi':i<xss.length:=by rw[<- hlen];exact hi
    obtain ⟨rs,r1,r2,r3⟩:=hrows.row i hi' (fun _ _ hp=>by cases hp)
    have hsh:=hrows.short i hi'
    show Reads w _ (.slice t) (xss.getD i []) _
    rcases r1.2 with ⟨f1,f2⟩ | ⟨g',cap,cur',f1,_,f3,f4,f5,f6,f7⟩
    ·have hl0:(xss.getD i []).length=0:=f2
     exact ⟨none,0,0,by rw[f1],hl0.symm,aM _,aI _,fun h=>absurd h (fJ _)⟩
    have hgo:(loc nm).al g':=r2 g' (by rw[f1];rfl)
    have hg1':G.w0.heap.size<=g':=hge g' (.inr hgo)
    have f3:w.heap[g']? =some (.cells cur' ei (0,0)):=f3
    have hg2':g'<w.heap.size:=(aG.1 f3).1
    refine ⟨some ⟨g',0,none⟩,(xss.getD i []).length,cap,by rw[f1],rfl,f4,hsh,fun h0=>⟨g',0,rfl,⟨hg1',hg2'⟩,fun m hm=>⟨_,(r3 m hm).length,?_,(r3 m hm).flat hrows.flat⟩⟩⟩
    intro q v hq
    rw[aJ] at hq
    split at hq
    ·rw[aT,<- f7,aJ] at hq
     split at hq
     ·simp only[env0,World.cell?,f3]
      simpa using hq
     cases hq
    cases hq
  | _=>exact .any v
 | val _ h=>exact .val v h
 | bl p d=>exact .bl p d
 | str s h=>exact .str s h
 | ifc _ h=>exact .ifc v h
 | _=>exact .any _
theorem yP (hG:∀b,¬G.mine b) (hI:Inv G H loc ver w):∀ {l:List SV} {vs:List Value},RelL (envOf G H loc ver w) l vs->RelL (env0 w fun b=>G.w0.heap.size<=b/\b<w.heap.size) (l.map (zM H)) vs
 | _,_,.nil=>.nil
 | _,_,.cons _ _ _ _ h hl=>.cons _ _ _ _ (aBa hG hI h) (yP hG hI hl)
theorem aEs (hG:∀b,¬G.mine b) (hI:Inv G H loc ver w):∀ {l:List SV} {vs:List Value},RelL (envOf G H loc ver w) l vs->RelL (env0 w fun b=>G.w0.heap.size<=b/\b<w.heap.size) (l.map fun s=>match s with
   | .agg l=>.agg (l.map (zM H))
   | s=>zM H s) vs
 | _,_,.nil=>.nil
 | _,_,.cons s _ _ _ h hl=>by
  refine .cons _ _ _ _ ?_ (aEs hG hI hl)
  cases s with
  | agg l=>cases h with
   | agg _ vs hl=>exact .agg _ _ (yP hG hI hl)
  | _=>exact aBa hG hI h
theorem aNg (hG:∀b,¬G.mine b) (hI:Inv G H loc ver w) {s:SV} {v:Value} (h:Rel (envOf G H loc ver w) s v):Rel (env0 w fun b=>G.w0.heap.size<=b/\b<w.heap.size) (aTw H s) v:=by
 cases s with
 | agg l=>cases h with
  | agg _ vs hl=>exact .agg _ _ (yP hG hI hl)
 | tup l=>cases h with
  | tup _ vs hl=>exact .tup _ _ (aEs hG hI hl)
 | _=>exact aBa hG hI h
end
section
variable {P:Program}
theorem pG {G:Ctx} {fn:Func} {tmps:Array Value} {R:Ending->World->Prop} {H:List HO} {loc:Nat->Loc} {ver:Nat->Nat}:∀(Ds:List Nat) {w:World},Inv G H loc ver w->Ds.Nodup->
  (∀D∈Ds,G.w0.heap.size<=D/\G.itr.n0<=D/\¬aliN H loc D/\w.heap[D]? =some (.deferred (some [])))->
  (∀w',Inv G H loc ver w'->(∀s v,Rel (envOf G H loc ver w) s v->Rel (envOf G H loc ver w') s v)->∃v,(results fn tmps).run P w'= .ok v w'/\R (.returned v) w')->LeavesInM Fence.wide 0 P fn tmps R (Ds.map yO) .returning w
 | [],w,hI,_,_,hR=>by
  obtain ⟨v,h1,h2⟩:=hR w hI fun _ _ h=>h
  exact ⟨v,h1,h2⟩
 | D::Ds,w,hI,hnd,hD,hR=>by
  obtain ⟨h1,h2,h3,h4⟩:=hD D (bO ..)
  refine ⟨by simp,.inl ⟨D,_,rfl,run_takeDeferred h4,?_⟩⟩
  have hnd':=List.nodup_cons.1 hnd
  have hbk:=hI.book (o:=.deferred none) h4 h1 h2 h3
  refine pG Ds hbk.1 hnd'.2 (fun D' hD'=>?_) fun w' h5 h6=>hR w' h5 fun s v h=>h6 s v (hbk.2 s v h)
  obtain ⟨k1,k2,k3,k4⟩:=hD D' (bT _ hD')
  exact ⟨k1,k2,k3,(World.putObj_heap_other (fun e=>hnd'.1 (by rw[<- e];exact hD'))).trans k4⟩
theorem aAa {G:Ctx} {fn:Func} {tmps:Array Value} {R:Ending->World->Prop} {H:List HO} {loc:Nat->Loc} {ver:Nat->Nat}:∀(Ds:List Nat) {w:World},Inv G H loc ver w->Ds.Nodup->
  (∀D∈Ds,G.w0.heap.size<=D/\G.itr.n0<=D/\¬aliN H loc D/\w.heap[D]? =some (.deferred (some [])))->
  (∀w',Inv G H loc ver w'->(∀s v,Rel (envOf G H loc ver w) s v->Rel (envOf G H loc ver w') s v)->w'.heap.size=w.heap.size->(∀b,¬b∈Ds->w'.heap[b]? =w.heap[b]?)->∃v,(results fn tmps).run P w'= .ok v w'/\R (.returned v) w')->LeavesInM Fence.wide 0 P fn tmps R (Ds.map yO) .returning w
 | [],w,hI,_,_,hR=>by
  obtain ⟨v,h1,h2⟩:=hR w hI (fun _ _ h=>h) rfl fun _ _=>rfl
  exact ⟨v,h1,h2⟩
 | D::Ds,w,hI,hnd,hD,hR=>by
  obtain ⟨h1,h2,h3,h4⟩:=hD D (bO ..)
  refine ⟨by simp,.inl ⟨D,_,rfl,run_takeDeferred h4,?_⟩⟩
  have hnd':=List.nodup_cons.1 hnd
  have hbk:=hI.book (o:=.deferred none) h4 h1 h2 h3
  refine aAa Ds hbk.1 hnd'.2 (fun D' hD'=>?_) fun w' h5 h6 h7 h8=>hR w' h5 (fun s v h=>h6 s v (hbk.2 s v h)) (by rw[h7];simp) fun b hb=>?_
  ·obtain ⟨k1,k2,k3,k4⟩:=hD D' (bT _ hD')
   exact ⟨k1,k2,k3,(World.putObj_heap_other (fun e=>hnd'.1 (by rw[<- e];exact hD'))).trans k4⟩
  exact (h8 b fun h=>hb (bT _ h)).trans (World.putObj_heap_other fun e=>hb (by subst e;exact bO ..))
theorem ExtO.late {G:Ctx} {D:List Nat} {H0 H:List HO} {loc0 loc:Nat->Loc} {ver0 ver:Nat->Nat} {w0 w w':World} (hI0:Inv G H0 loc0 ver0 w0) (hx:ExtO D (envOf G H0 loc0 ver0 w0) (envOf G H loc ver w)) (hs:w'.heap.size=w.heap.size)
  (hb:∀b,b<w0.heap.size->w'.heap[b]? =w.heap[b]?):ExtO D (envOf G H0 loc0 ver0 w0) (envOf G H loc ver w'):=by
 refine ⟨fun b ho=>(hb b ho.2.1).trans (hx.blk b ho),fun b ho=>?_,hx.num,hx.ver,by have:=hx.size;show w0.heap.size<=w'.heap.size;rw[hs];exact this,fun k o hna hk ho=>(hb k (aG.1 hk).1).trans (hx.keep k o hna hk ho),fun nm b hg=>?_,hx.gho',hx.ali,hx.itr,hx.sub⟩
 ·obtain ⟨h1,h2,h3⟩:=hx.ok b ho
  exact ⟨h1,by have h2':b<w.heap.size:=h2;show b<w'.heap.size;omega,h3⟩
 obtain ⟨h1,h2⟩:=hx.gho nm b hg
 exact ⟨h1,(hb b ((hI0.objs nm _ hg.1).2 b hg.2)).trans h2⟩
theorem ExtO.ext {D:List Nat} {G:Ctx} {H0 H:List HO} {loc0 loc:Nat->Loc} {ver0 ver:Nat->Nat} {w0 w:World} (hI0:Inv G H0 loc0 ver0 w0) (hI:Inv G H loc ver w) (hx:ExtO D (envOf G H0 loc0 ver0 w0) (envOf G H loc ver w)) (hD:∀nm,hasB H0 nm=true->mem nm D=false):Ext (envOf G H0 loc0 ver0 w0) (envOf G H loc ver w):=
 ⟨⟨hx.blk,hx.ok,hx.num,fun nm hn=>hx.ver nm hn (hD nm hn),hI.os.trans hI0.os.symm,hI.tape.trans hI0.tape.symm,hI.output.trans hI0.output.symm,hx.size,hx.ali,hx.itr,fun nm hn he=>hx.sub nm hn (hD nm hn) he⟩,hx.keep,hx.gho,hx.gho'⟩
theorem fX {Γ:List Con} (hΓ:∀c∈Γ,aS P c) {A:Anns} {f:FuncId} {fn:Func} (hf:P.funcs[f]? =some fn) {args:List SV} {H:List HO} {R:SV->List HO->Prop} (hn:args.length<=fn.ntmps) (h:sR P Γ A fn args H R):HTri P f args H R:=by
 intro G loc ver w vs hY hI hr
 unfold sR at h
 cases hc:fn.body with
 | none=>rw[hc] at h;exact h.elim
 | some c=>
  rw[hc] at h
  obtain ⟨hwi,h⟩:=h
  refine (callsIn_wide (n:=0)).1 (callsIn_of_wp_marks hf hc trivial ?_)
  have hT:=sX (N:=fn.ntmps) hr hn
  refine wpIn_mono (rD hY hΓ c 0 (F:=Fence.wide) (n:=0) ⟨none,rfl⟩ hI hT (fun l hl=>by cases hl) h) ?_
  rintro e a' w' ⟨l',H',loc',ver',h1,h2,h3,h4,h5,Ds,h6,h7,h8⟩
  have hend:finH.endH P fn.results.toList R H l' H'->LeavesInM Fence.wide 0 P fn a'.tmps (fun e w'=>∃v,e= .returned v/\Res G (envOf G H loc ver w) R v w') a'.defers .returning w':=by
   intro he
   rw[h6,eB]
   refine aAa Ds h2 h7 (fun D hD=>⟨bI hI.size (h8 D hD).1,bI (bI G.low hI.size) (h8 D hD).1,(h8 D hD).2.1,(h8 D hD).2.2⟩) fun w2 h9 h10 h11 h12=>?_
   unfold finH.endH at he
   split at he
   case h_2=>exact he.elim
   rename_i us hu
   obtain ⟨s,H2,hR,hp,hent,hlen,hgo,hH⟩:=he
   have hT2:TRel (envOf G H' loc' ver' w2) fn.ntmps l' a':=⟨h3.size,fun t=>h10 _ _ (h3.rel t)⟩
   obtain ⟨v,k1,k2⟩:=kX (P:=P) h9 hT2 hu
   have hS:EntS [] H' H2 H.length:=nF hH
   obtain ⟨hI2,hok2⟩:=tX h9 (by omega) hS
   have hxl:=ExtO.late hI h4 h11 fun b hb=>h12 b fun hm=>by have h13:w.heap.size<=b:=(h8 b hm).1;omega
   have hx2:=tY hxl (by omega) (fun nm hnm=>rC hgo hnm) hwi hS hok2
   refine ⟨v,k1,v,rfl,s,H2,loc',_,hR,hI2,?_,ExtO.ext hI hI2 hx2 fun _ _=>rfl⟩
   exact Rel.plain (kW hent k2) hp
  cases e with
  | normal=>exact hend h1
  | ret=>exact hend h1
  | _=>exact h1.elim
theorem aEt {ok:Nat->Prop} {w0:World} {hok:∀b,ok b->b<w0.heap.size} {H:List HO} {loc:Nat->Loc} {ver:Nat->Nat} {w:World} {N:Nat} {l:List (Nat × SV)} {a:Act} {fn:Func} {fresh:Bool} {r:SV}
  (hI:Inv (ctx0 w0 ok hok) H loc ver w) (hT:TRel (envOf (ctx0 w0 ok hok) H loc ver w) N l a) (hb:bare r=true) (h:finV P fresh fn.results.toList r l H):
  ∃v,(results fn a.tmps).run P w= .ok v w/\Below w0.heap.size w0 w/\Rel (env0 w fun b=>(fresh=false/\ok b)\/(w0.heap.size<=b/\b<w.heap.size)) r v:=by
 have hbel:Below w0.heap.size w0 w:=⟨hI.os,hI.tape,hI.output,hI.size,fun b hb=>hI.frame b hb fun h=>h⟩
 unfold finV at h
 split at h
 case h_2=>exact h.elim
 rename_i vs hv
 obtain ⟨v,hr,hrel⟩:=kX (P:=P) hI hT hv
 refine ⟨v,hr,hbel,?_⟩
 cases fresh with
 | true=>
  simp only[bP] at h
  have h1:=kW h (aNg (fun _ h=>h) hI hrel)
  exact Rel.bare (E:=env0 w fun b=>w0.heap.size<=b/\b<w.heap.size) (E':=env0 w fun b=>(true=false/\ok b)\/(w0.heap.size<=b/\b<w.heap.size)) (fun _ _ _ h _=>h) (fun b hb=>Or.inr hb) h1 hb
 | false=>
  simp only[cA,bQ] at h
  obtain ⟨hI1,hx1⟩:=oX vs hI
  have h1:=aGo (H:=iK H vs) (lend:=false) (Ext.refl _) (fun _ _ _ h=>vN hI1 h) (fun nm k v h=>mI hI1 h) (fun nm k i v _=>mO nm k i v) (fun nm v h=>pY hI1 (Ext.refl _) (.inl rfl) h) (hrel.ext hx1)
  have h2:=kW h h1
  refine Rel.bare (E:=envOf _ (iK H vs) loc ver w) (E':=env0 w _) (fun _ _ _ h _=>h) (fun b hb=>?_) h2 hb
  rcases hb.1 with h3 | h3 | h3
  ·exact .inl ⟨rfl,h3⟩
  ·exact h3.elim
  exact .inr ⟨h3,hb.2.1⟩
theorem aCb {Γ:List Con} (hΓ:∀c∈Γ,aS P c) {A:Anns} {fresh:Bool} {f:FuncId} {fn:Func} (hf:P.funcs[f]? =some fn) {args:List SV} {r:SV} (hn:args.length<=fn.ntmps) (hb:bare r=true) (h:body P Γ A fresh fn args r):Tri P fresh f args r:=by
 intro ok w vs hgw hok hr
 unfold body at h
 cases hc:fn.body with
 | none=>rw[hc] at h;exact h.elim
 | some c=>
  rw[hc] at h
  refine (callsIn_wide (n:=0)).1 (callsIn_of_wp_marks hf hc trivial ?_)
  have hI:=aGw ok hok
  have hr':RelL (envOf (ctx0 w ok hok) [] (fun _=>mkL none 0 0) (fun _=>0) w) args vs:=by
   refine RelL.move (E:=env0 w ok) (E':=envOf (ctx0 w ok hok) [] (fun _=>mkL none 0 0) (fun _=>0) w) (p:=fun m=>Nat.blt m 0) (fun nm hp _=>by simp at hp) (fun nm hp=>by simp at hp) (fun h=>by cases h) (fun _ _ _ h _=>h) (fun b hb=>⟨.inl hb,hok b hb,fun ⟨nm,o,h,_⟩=>by simp at h⟩) hr hr.under
  have hT:=sX (N:=fn.ntmps) hr' hn
  have hY:COK P (ctx0 w ok hok):=⟨(fun k M W us hk=>by cases hk),hgw⟩
  refine wpIn_mono (rD hY hΓ c 0 (F:=Fence.wide) (n:=0) ⟨none,rfl⟩ hI hT (fun l hl=>by cases hl) h) ?_
  rintro e a' w' ⟨l',H',loc',ver',h1,h2,h3,h4,h5,Ds,h6,h7,h8⟩
  have hend:∀ {R:Ending->World->Prop},(∀w2,Inv (ctx0 w ok hok) H' loc' ver' w2->TRel (envOf (ctx0 w ok hok) H' loc' ver' w2) fn.ntmps l' a'->∃v,(results fn a'.tmps).run P w2= .ok v w2/\R (.returned v) w2)->LeavesInM Fence.wide 0 P fn a'.tmps R a'.defers .returning w':=by
   intro R hR
   rw[h6,eB]
   exact pG Ds h2 h7 (fun D hD=>⟨(h8 D hD).1,aI _,(h8 D hD).2.1,(h8 D hD).2.2⟩) fun w2 h9 h10=>hR w2 h9 ⟨h3.size,fun t=>h10 _ _ (h3.rel t)⟩
  cases e with
  | normal=>
   refine hend fun w2 h9 h10=>?_
   obtain ⟨v,k7,k8,k9⟩:=aEt h9 h10 hb h1
   exact ⟨v,k7,v,rfl,k8,k9⟩
  | ret=>
   refine hend fun w2 h9 h10=>?_
   obtain ⟨v,k7,k8,k9⟩:=aEt h9 h10 hb h1
   exact ⟨v,k7,v,rfl,k8,k9⟩
  | _=>exact h1.elim
theorem kM {Γ:List Con} (hΓ:∀c∈Γ,aS P c) {A:Anns} {f:FuncId} {fn:Func} (hf:P.funcs[f]? =some fn) {pos:Nat} {same:Bool} {args:List SV} {t:Ty} {xs:List t.T} {e:TypeId} {r:SV} {ys:List t.T} (hn:args.length<=fn.ntmps) (hfl:t.flat=true)
  (h:aGj P Γ A fn pos same args t xs e r ys):LTri P f pos same args t xs e r ys:=by
 intro ok w vs L hgw hok hblk hrow hr hpos
 unfold aGj at h
 cases hc:fn.body with
 | none=>rw[hc] at h;exact h.elim
 | some c=>
  rw[hc] at h
  refine (callsIn_wide (n:=0)).1 (callsIn_of_wp_marks hf hc trivial ?_)
  obtain ⟨G,hG⟩:∃G:Ctx,G= ⟨w,ok,fun b=>L.blk.map (·.1)=some b,fun b h1 h2=>(hok b h1).2 h2,fun b hb=>(hok b hb).1,itr0,aI _⟩:=⟨_,rfl⟩
  obtain ⟨r1,r2,rs,r3,r4⟩:=hrow
  have hown:∀b,Owned [HO.vec 1 t xs e] (fun _=>L) b->L.blk.map (·.1)=some b:=by
   rintro b ⟨nm,o,h1,h2⟩
   cases nm with
   | zero=>simp at h1;subst h1;exact h2
   | succ k=>simp at h1
  have hokn:∀b,ok b->okN G [HO.vec 1 t xs e] (fun _=>L) w b:=fun b hb=>⟨.inl (by rw[hG];exact hb),(hok b hb).1,fun ho=>(hok b hb).2 (hown b ho)⟩
  have hI:Inv G [HO.vec 1 t xs e] (fun _=>L) (fun _=>1) w:=by
   refine ⟨by rw[hG];exact aM _,by rw[hG],by rw[hG],by rw[hG],fun b _ _=>by rw[hG],fun nm o ho=>?_,fun b hb=>.inl (by rw[hG];exact hown b hb),fun nm nm' o o' b h1 h2 _ _=>?_⟩
   ·cases nm with
    | zero=>
     simp at ho;subst ho
     exact ⟨rfl,Nat.one_pos,r1,r2,rs,r3,fun i hi=>Reads.flatJ hfl (r4 i hi)⟩
    | succ k=>simp at ho
   cases nm with
   | zero=>cases nm' with
    | zero=>rfl
    | succ k=>simp at h2
   | succ k=>simp at h1
  have hr':RelL (envOf G [HO.vec 1 t xs e] (fun _=>L) (fun _=>1) w) args vs:=
   RelL.move (E:=env0 w ok) (E':=envOf G [HO.vec 1 t xs e] (fun _=>L) (fun _=>1) w) (p:=fun m=>Nat.blt m 0) (fun nm hp _=>by simp at hp) (fun nm hp=>by simp at hp) (fun h=>by cases h) (fun _ _ _ h _=>h) hokn hr hr.under
  have hrs:RelL (envOf G [HO.vec 1 t xs e] (fun _=>L) (fun _=>1) w) (args.set pos (.ref 0 1)) vs:=by
   have hh:Rel (envOf G [HO.vec 1 t xs e] (fun _=>L) (fun _=>1) w) (.ref 0 1) L.head:=.ref 0 1 _ (by rfl) Nat.one_pos (aM _) fun _=>rfl
   have:=hr'.set pos hh
   obtain ⟨hlt,he⟩:=aK.1 hpos
   rwa [show vs.set pos L.head=vs from by rw[<- he];exact nZ hlt] at this
  have hT:=sX (N:=fn.ntmps) hrs (by simpa using hn)
  have hY:COK P G:=by rw[hG];exact ⟨(fun k M W us hk=>by cases hk),hgw⟩
  have hRo:RoundOK Fence.wide (envOf G [HO.vec 1 t xs e] (fun _=>L) (fun _=>1) w):=fun l hl=>by cases hl
  refine wpIn_mono (rD hY hΓ c 0 (F:=Fence.wide) (n:=0) ⟨none,rfl⟩ hI hT hRo h) ?_
  rintro en a' w' ⟨l',H',loc',ver',h1,h2,h3,h4,h5,Ds,h6,h7,h8⟩
  have h0s:G.w0.heap.size=w.heap.size:=by rw[hG]
  have h0n:G.itr.n0=0:=by rw[hG];rfl
  have hend:finL.endL P A c same fn.results.toList r t ys e l' H'->LeavesInM Fence.wide 0 P fn a'.tmps (fun en w'=>∃v L',en= .returned v/\(w'.os=w.os/\w'.tape=w.tape/\w'.output=w.output/\w.heap.size<=w'.heap.size/\∀b,b<w.heap.size->L.blk.map (·.1)≠some b->w'.heap[b]? =w.heap[b]?)/\
   (same=true->L'=L)/\(∀b,L'.blk.map (·.1)=some b->L.blk.map (·.1)=some b\/w.heap.size<=b)/\RowS w' L' t ys e/\((r= .ref 0 1/\v=L'.head)\/(plain r=true/\Rel (env0 w' fun _=>False) r v))) a'.defers .returning w':=by
   intro he
   rw[h6,eB]
   refine pG Ds h2 h7 (fun D hD=>⟨by rw[h0s];exact (h8 D hD).1,by rw[h0n];exact aI _,(h8 D hD).2.1,(h8 D hD).2.2⟩) fun w2 h9 h10=>?_
   unfold finL.endL at he
   split at he
   case h_2=>exact he.elim
   rename_i us k t' zs e' hu ho
   obtain ⟨q1,rfl,q2,q3⟩:=he
   have hT2:TRel (envOf G H' loc' ver' w2) fn.ntmps l' a':=⟨h3.size,fun t=>h10 _ _ (h3.rel t)⟩
   obtain ⟨v,k7,k8⟩:=kX (P:=P) h9 hT2 hu
   have hq:=oI q2
   cases hq
   have hn0:=aR ho (by simp)
   obtain ⟨o1,o2,o3,o4,rs',o5,o6⟩:=h9.objs 0 _ hn0
   have o1:ver' 0=k:=o1
   refine ⟨v,k7,v,⟨(loc' 0).toCore,L.al,L.sub⟩,rfl,⟨?_,?_,?_,?_,?_⟩,?_,?_,⟨o3,o4,rs',o5,fun i hi=>Reads.flatJ hfl (o6 i hi)⟩,?_⟩
   ·have:=h9.os;rw[hG] at this;exact this
   ·have:=h9.tape;rw[hG] at this;exact this
   ·have:=h9.output;rw[hG] at this;exact this
   ·have:=h9.size;rw[hG] at this;exact this
   ·intro b hb hne
    have:=h9.frame b (by rw[h0s];exact hb) (by rw[hG];exact hne)
    rw[hG] at this;exact this
   ·intro hs
    rw[hs] at q1
    simp only[bP,aE,bH,lK] at q1
    rcases h4.ver 0 (by rfl) q1.2 with ⟨_,e2⟩ | ⟨_,e2⟩
    ·have e2:(loc' 0).toCore=L.toCore:=e2
     rw[e2]
    have e2:1<ver' 0:=e2
    omega
   ·intro b hb
    rcases h9.own b ⟨0,_,hn0,hb⟩ with h | h
    ·rw[hG] at h;exact .inl h
    rw[hG] at h;exact .inr h
   split at q3
   ·split at q3
    ·rename_i k' hk
     subst q3
     rw[hk] at k8
     refine .inl ⟨rfl,?_⟩
     generalize v=u at k8
     cases k8 with
     | ref _ _ _ _ _ _ hh=>exact hh o1.symm
    exact q3.elim
   obtain ⟨q4,q5⟩:=q3
   exact .inr ⟨q4,(kW q5 k8).plain q4⟩
  cases en with
  | normal=>exact hend h1
  | ret=>exact hend h1
  | _=>exact h1.elim
theorem RelL.mapTo {E E':Env} {g:SV->SV} (hg:∀s x,Rel E s x->Rel E' (g s) x):∀ {l:List SV} {vs:List Value},RelL E l vs->RelL E' (l.map g) vs
 | _,_,.nil=>.nil
 | _,_,.cons _ _ _ _ h hl=>.cons _ _ _ _ (hg _ _ h) (RelL.mapTo hg hl)
theorem aQy {E E':Env} {g:SV->SV} (hg:∀s x,Rel E s x->Rel E' (g s) x) {l:List SV} {v:Value} (h:Rel E (xQ l) v):Rel E' (xQ (l.map g)) v:=by
 match l with
 | []=>cases h with
  | tup _ vs hl=>exact .tup _ _ (by simpa using RelL.mapTo hg hl)
 | [a]=>exact hg _ _ h
 | a::b::l=>cases h with
  | tup _ vs hl=>exact .tup _ _ (by simpa using RelL.mapTo hg hl)
theorem aT6 {E:Env} {nm k:Nat} {w:World} (hv:E.ver nm=k) {s:SV} {x:Value} (h:Rel E s x):Rel (envO w (E.loc nm)) (renb nm k s) x:=by
 cases s with
 | ref n j=>
  simp only[renb]
  cases hb:(Nat.beq n nm&&Nat.beq j k) with
  | false=>exact .any x
  | true=>
   simp only[aE,bH] at hb
   obtain ⟨rfl,rfl⟩:=hb
   cases h with
   | ref _ _ _ _ _ _ hh=>
    have:=hh hv.symm
    exact .ref 0 1 x (by simp[envO]) Nat.one_pos (aM _) fun _=>this
 | _=>
  simp only[renb]
  first
  | (split<;>first | exact .any x | exact h.plain (by assumption))
  | (cases hp:plain _ with
   | true=>exact h.plain hp
   | false=>exact .any x)
theorem qB {Γ:List Con} (hΓ:∀c∈Γ,aS P c) {A:Anns} {f:FuncId} {fn:Func} (hf:P.funcs[f]? =some fn) {args:List SV} {r:SV} {t:Ty} {ys:List t.T} {e:TypeId} (hn:args.length<=fn.ntmps) (hfl:t.flat=true)
  (h:aKc P Γ A fn args r t ys e):OTri P f args r t ys e:=by
 intro ok w vs hgw hok hr
 unfold aKc at h
 cases hc:fn.body with
 | none=>rw[hc] at h;exact h.elim
 | some c=>
  rw[hc] at h
  refine (callsIn_wide (n:=0)).1 (callsIn_of_wp_marks hf hc trivial ?_)
  have hI:=aGw ok hok
  have hr':RelL (envOf (ctx0 w ok hok) [] (fun _=>mkL none 0 0) (fun _=>0) w) args vs:=by
   refine RelL.move (E:=env0 w ok) (E':=envOf (ctx0 w ok hok) [] (fun _=>mkL none 0 0) (fun _=>0) w) (p:=fun m=>Nat.blt m 0) (fun nm hp _=>by simp at hp) (fun nm hp=>by simp at hp) (fun h=>by cases h) (fun _ _ _ h _=>h) (fun b hb=>⟨.inl hb,hok b hb,fun ⟨nm,o,h,_⟩=>by simp at h⟩) hr hr.under
  have hT:=sX (N:=fn.ntmps) hr' hn
  have hY:COK P (ctx0 w ok hok):=⟨(fun k M W us hk=>by cases hk),hgw⟩
  refine wpIn_mono (rD hY hΓ c 0 (F:=Fence.wide) (n:=0) ⟨none,rfl⟩ hI hT (fun l hl=>by cases hl) h) ?_
  rintro en a' w' ⟨l',H',loc',ver',h1,h2,h3,h4,h5,Ds,h6,h7,h8⟩
  have hend:finO.endO P fn.results.toList r t ys e l' H'->LeavesInM Fence.wide 0 P fn a'.tmps (fun en w'=>∃v L',en= .returned v/\Below w.heap.size w w'/\(∀b,L'.blk.map (·.1)=some b->w.heap.size<=b)/\RowS w' L' t ys e/\Rel (envO w' L') r v) a'.defers .returning w':=by
   intro he
   rw[h6,eB]
   refine pG Ds h2 h7 (fun D hD=>⟨(h8 D hD).1,aI _,(h8 D hD).2.1,(h8 D hD).2.2⟩) fun w2 h9 h10=>?_
   unfold finO.endO at he
   split at he
   case h_2=>exact he.elim
   rename_i us hu
   split at he
   case h_2=>
    split at he
    case h_2=>exact he.elim
    obtain ⟨hr0,hy0⟩:=he
    have hT2:TRel (envOf (ctx0 w ok hok) H' loc' ver' w2) fn.ntmps l' a':=⟨h3.size,fun t=>h10 _ _ (h3.rel t)⟩
    obtain ⟨v,k7,k8⟩:=kX (P:=P) h9 hT2 hu
    have hv:v= .slice none 0 0:=by
     have k8:Rel _ (.val (.slice none 0 0)) v:=k8
     cases k8;rfl
    subst hr0
    refine ⟨v,k7,v,mkL none 0 0,rfl,⟨h9.os,h9.tape,h9.output,h9.size,fun b hb=>h9.frame b hb fun h=>h⟩,fun b hb=>(by simp at hb),⟨hy0.symm,aI _,[],⟨by simp,.inl ⟨rfl,rfl⟩⟩,fun i hi=>absurd hi (bG _)⟩,?_⟩
    exact .ref 0 1 v (by simp[envO]) Nat.one_pos (aM _) fun _=>by rw[hv];rfl
   rename_i nm k hfr
   split at he
   case h_2=>exact he.elim
   rename_i k' t' zs e' ho
   obtain ⟨rfl,rfl,q2,q3⟩:=he
   have hT2:TRel (envOf (ctx0 w ok hok) H' loc' ver' w2) fn.ntmps l' a':=⟨h3.size,fun t=>h10 _ _ (h3.rel t)⟩
   obtain ⟨v,k7,k8⟩:=kX (P:=P) h9 hT2 hu
   have hq:=oI q2
   cases hq
   have hn0:=aR ho (by simp)
   obtain ⟨o1,o2,o3,o4,rs',o5,o6⟩:=h9.objs nm _ hn0
   refine ⟨v,k7,v,loc' nm,rfl,⟨h9.os,h9.tape,h9.output,h9.size,fun b hb=>h9.frame b hb fun h=>h⟩,?_,⟨o3,o4,rs',o5,fun i hi=>Reads.flatJ hfl (o6 i hi)⟩,?_⟩
   ·intro b hb
    rcases h9.own b ⟨nm,_,hn0,hb⟩ with h | h
    ·exact h.elim
    exact h
   exact kW q3 (aQy (fun s x hs=>aT6 (E:=envOf (ctx0 w ok hok) H' loc' ver' w2) o1 hs) k8)
  cases en with
  | normal=>exact hend h1
  | ret=>exact hend h1
  | _=>exact h1.elim
theorem qC {Γ:List Con} (hΓ:∀c∈Γ,aS P c) {A:Anns} {f:FuncId} {fn:Func} (hf:P.funcs[f]? =some fn) {args:List SV} {n:Nat} {items:Nat->List SV} (hn:args.length+1<=fn.ntmps) (h:aD2 P Γ A fn args n items):TriI P f args n items:=by
 intro ok w vs l J soft sf hgw hok hr hsf hab hy hJ0
 unfold aD2 at h
 cases hc:fn.body with
 | none=>rw[hc] at h;exact h.elim
 | some c=>
  rw[hc] at h
  refine (callsIn_wide (n:=0)).1 (callsIn_of_wp_marks hf hc trivial ?_)
  obtain ⟨G,hG⟩:∃G:Ctx,G= ⟨w,ok,fun b=>b<w.heap.size/\¬ok b,fun b h1 h2=>h2.2 h1,hok,⟨true,l,w.heap.size,ok,n,items,J,hab,soft,sf,hsf⟩,aM _⟩:=⟨_,rfl⟩
  have hown:∀b,Owned [HO.yst (some 0) n items] (fun _=>(⟨⟨none,0,0⟩,fun b=>b<w.heap.size/\¬ok b,sub0⟩:Loc)) b->b<w.heap.size/\¬ok b:=by
   rintro b ⟨nm,o,h1,h2⟩
   cases nm with
   | zero=>simp at h1;subst h1;exact h2
   | succ k=>simp at h1
  have hokn:∀b,ok b->okN G [HO.yst (some 0) n items] (fun _=>(⟨⟨none,0,0⟩,fun b=>b<w.heap.size/\¬ok b,sub0⟩:Loc)) w b:=fun b hb=>⟨.inl (by rw[hG];exact hb),hok b hb,fun ho=>(hown b ho).2 hb⟩
  have hI:Inv G [HO.yst (some 0) n items] (fun _=>(⟨⟨none,0,0⟩,fun b=>b<w.heap.size/\¬ok b,sub0⟩:Loc)) (fun _=>1) w:=by
   refine ⟨by rw[hG];exact aM _,by rw[hG],by rw[hG],by rw[hG],fun b _ _=>by rw[hG],fun nm o ho=>?_,fun b hb=>.inl (by rw[hG];exact hown b hb),fun nm nm' o o' b h1 h2 _ _=>?_⟩
   ·cases nm with
    | zero=>
     simp at ho;subst ho
     refine ⟨Nat.one_pos,fun b hb=>hb.1,by rw[hG];exact aM _,by rw[hG];rfl,by rw[hG];rfl,fun b hb hl=>?_,?_⟩
     ·have hb':b<w.heap.size:=by rw[hG] at hb;exact hb
      have hob:ok b:=aL fun hno=>hl ⟨hb',hno⟩
      exact ⟨by rw[hG];exact hob,hokn b hob⟩
     rw[hG]
     refine cast (aO (fun M=>J (some 0) M w) (funext fun b=>propext ⟨fun h=>h.elim,?_⟩)) hJ0
     rintro ⟨h8,h9,_⟩
     have h8':w.heap.size<=b:=h8
     have h9':b<w.heap.size:=h9
     omega
    | succ k=>simp at ho
   cases nm with
   | zero=>cases nm' with
    | zero=>rfl
    | succ k=>simp at h2
   | succ k=>simp at h1
  have hr':RelL (envOf G [HO.yst (some 0) n items] (fun _=>(⟨⟨none,0,0⟩,fun b=>b<w.heap.size/\¬ok b,sub0⟩:Loc)) (fun _=>1) w) args vs:=
   by
    cases soft with
    | false=>
     exact RelL.move (E:=env0 w ok) (E':=envOf G [HO.yst (some 0) n items] (fun _=>(⟨⟨none,0,0⟩,fun b=>b<w.heap.size/\¬ok b,sub0⟩:Loc)) (fun _=>1) w) (p:=fun m=>Nat.blt m 0) (fun nm hp _=>by simp at hp) (fun nm hp=>by simp at hp) (fun h=>by cases h) (fun _ _ _ h _=>h) hokn hr hr.under
    | true=>
     obtain ⟨rfl,c,o,hc1,hc2,rfl⟩:=hr
     refine .cons _ _ _ _ (.lelem _ 0 c o [sf.head] (.cons _ _ _ _ (.sft none _ (by rw[hG];rfl) (by rw[hG];exact ⟨rfl,rfl⟩)) .nil) (hokn c hc1) ?_) .nil
     intro j u hj
     cases j with
     | zero=>simp at hj;subst hj;exact hc2
     | succ j=>simp at hj
  have hyl:Rel (envOf G [HO.yst (some 0) n items] (fun _=>(⟨⟨none,0,0⟩,fun b=>b<w.heap.size/\¬ok b,sub0⟩:Loc)) (fun _=>1) w) (.yld 0) (.func (.yield l) #[] #[]):=by
   have:=Rel.yld (E:=envOf G [HO.yst (some 0) n items] (fun _=>(⟨⟨none,0,0⟩,fun b=>b<w.heap.size/\¬ok b,sub0⟩:Loc)) (fun _=>1) w) 0 (by rw[hG];rfl)
   rw[hG] at this ⊢
   exact this
  have hT:=sX (N:=fn.ntmps) (RelL.cons _ _ _ _ hyl hr') (by simpa using hn)
  have hY:COK P G:=by rw[hG];exact ⟨hy,hgw⟩
  have hRo:RoundOK Fence.wide (envOf G [HO.yst (some 0) n items] (fun _=>(⟨⟨none,0,0⟩,fun b=>b<w.heap.size/\¬ok b,sub0⟩:Loc)) (fun _=>1) w):=fun l hl=>by cases hl
  refine wpIn_mono (rD hY hΓ c 0 (F:=Fence.wide) (n:=0) ⟨none,rfl⟩ hI hT hRo h) ?_
  rintro e a' w' ⟨l',H',loc',ver',h1,h2,h3,h4,h5,Ds,h6,h7,h8⟩
  have h0s:G.w0.heap.size=w.heap.size:=by rw[hG]
  have h0n:G.itr.n0=w.heap.size:=by rw[hG]
  have hend:finI.endI fn.results.toList l' H'->LeavesInM Fence.wide 0 P fn a'.tmps (fun e w'=>(∃v,e= .returned v)/\∃M,J (some n) M w'\/J none M w') a'.defers .returning w':=by
   intro he
   rw[h6,eB]
   refine pG Ds h2 h7 (fun D hD=>⟨by rw[h0s];exact (h8 D hD).1,by rw[h0n];exact (h8 D hD).1,(h8 D hD).2.1,(h8 D hD).2.2⟩) fun w2 h9 h10=>?_
   unfold finI.endI at he
   have hres:∀k,fn.results.toList= []->k->∃v,(results fn a'.tmps).run P w2= .ok v w2/\k:=by
    intro k hrs hk
    obtain ⟨v,h11,_⟩:=kX (P:=P) (fn:=fn) (vs:=[]) h9 (⟨h3.size,fun t=>h10 _ _ (h3.rel t)⟩:TRel (envOf G H' loc' ver' w2) fn.ntmps l' a') (by rw[hrs];rfl)
    exact ⟨v,h11,hk⟩
   split at he
   ·rename_i k n' it hrs ho
    obtain ⟨v,h11,_⟩:=hres True hrs trivial
    obtain ⟨_,_,_,hn',_,_,hJ⟩:=h9.objs 0 _ (aR ho (by simp))
    refine ⟨v,h11,⟨v,rfl⟩,fun b=>w.heap.size<=b/\b<w2.heap.size/\¬(loc' 0).al b,.inl ?_⟩
    have e1:n'=n:=by rw[hG] at hn';exact hn'
    rw[hG] at hJ
    have e2:k=n:=he.trans e1
    rw[e2] at hJ
    exact hJ
   ·rename_i n' it hrs ho
    obtain ⟨v,h11,_⟩:=hres True hrs trivial
    obtain ⟨_,_,_,hn',_,_,hJ⟩:=h9.objs 0 _ (aR ho (by simp))
    refine ⟨v,h11,⟨v,rfl⟩,fun b=>w.heap.size<=b/\b<w2.heap.size/\¬(loc' 0).al b,.inr ?_⟩
    rw[hG] at hJ
    exact hJ
   exact he.elim
  cases e with
  | normal=>exact hend h1
  | ret=>exact hend h1
  | _=>exact h1.elim
end
end Go.Eng
end
section
namespace Go.Eng
theorem aPm {k:IntKind} {n:Int} (h:(Lit.int k n).wf=true):inK k n:=by
 cases k<;>simp[Lit.wf,IntKind.min,IntKind.max,IntKind.bits,IntKind.signed] at h<;>simp only[inK,lo,hi]<;>omega
theorem aWi {E:Env} {k:IntKind} {n:Int} (h:(Lit.int k n).wf=true):Rel E (.val (.int k n)) (.int k n):=.val _ (aPm h)
theorem aT8 {E:Env} (b:Bool):Rel E (.val (.bool b)) (.bool b):=.val _ trivial
theorem vT {H:Type} {P:Program} {e:TypeId}:∀ {l:List (DataW H)} {d:DataW H},d∈l->∀n∈d.weights P e,n∈DataW.weightsAll P e l
 | [],_,h,_,_=>by cases h
 | x::l,d,h,n,hn=>by
  simp only[DataW.weightsAll,bK]
  rcases bE.1 h with rfl | h
  ·exact .inl hn
  exact .inr (vT h n hn)
def okTy (P:Program):Nat->TypeId->Bool
 | 0,_=>false
 | n+1,t=>match P.underlying t with
  | some (.int _)=>true
  | some .bool=>true
  | some .string=>true
  | some (.slice e)=>(match tyOf P n e with
   | some ty=>Nat.beq (P.cellsOf e) ty.size&&(Nat.blt 0 ty.size&&(Nat.blt 0 (P.bytesOf e)&&okTy P n e))
   | none=>false)
  | some (.struct fs)=>okF P n fs.toList 0&&(match tyOf.flds P n fs.toList with
   | some ty=>Nat.beq (P.cellsOf t) ty.size
   | none=>false)
  | _=>false
where okF (P:Program):Nat->List Field->Nat->Bool
 | 0,_,_=>false
 | _+1,[],_=>false
 | n+1,f::r,o=>Nat.beq f.offset o&&((match tyOf P n f.type with
   | some ty=>Nat.beq (P.cellsOf f.type) ty.size
   | none=>false)&&(okTy P n f.type&&(match r with
    | []=>true
    | g::r=>okF P n (g::r) (o+P.cellsOf f.type))))
theorem aK7 (b o k:Nat):(⟨b,o,none⟩:Addr).add k= ⟨b,o+k,none⟩:=by unfold Addr.add;split<;>simp_all
section
variable {H:Type} {enc:TypeId × Value->H} {P:Program} {w:World} {base:Nat} {spare:Nat->Bool} {held:Bool}
def RD (H:Type) (enc:TypeId × Value->H) (P:Program) (w:World) (base:Nat) (spare:Nat->Bool) (held:Bool) (n:Nat):Prop:=∀(t:TypeId) (ty:Ty),tyOf P n t=some ty->okTy P n t=true->∀(fuel:Nat) (cs:List Value) (x:DataW H × List MemPlace),
 DataW.trod enc P w base spare held fuel t cs=some x->(∀m∈x.1.weights P t,m<=reachBytes)->∃v:ty.T,Reads w (fun b=>b<w.heap.size) ty v cs
theorem aCc (n:Nat) (ih:∀k,k<n->RD H enc P w base spare held k):∀(k:Nat),k<=n->∀(l:List Field) (o:Nat) (ty:Ty),tyOf.flds P k l=some ty->okTy.okF P k l o=true->∀(fuel:Nat) (cs:List Value) (ys:List (DataW H × List MemPlace)),
  (∀(i:Nat) (f:Field),l[i]? =some f->∃y,ys[i]? =some y/\DataW.trod enc P w base spare held fuel f.type ((cs.drop f.offset).take (P.cellsOf f.type))=some y/\∀m∈y.1.weights P f.type,m<=reachBytes)->
  ∃v:ty.T,Reads w (fun b=>b<w.heap.size) ty v ((cs.drop o).take ty.size)
 | 0,_,l,o,ty,h1,_,_,_,_,_=>by cases l<;>simp[tyOf.flds] at h1
 | k+1,hk,[],o,ty,h1,_,_,_,_,_=>by simp[tyOf.flds] at h1
 | k+1,hk,[f],o,ty,h1,h2,fuel,cs,ys,h3=>by
  simp only[tyOf.flds] at h1
  simp only[okTy.okF,h1,aE,bH] at h2
  obtain ⟨rfl,e2,e3,_⟩:=h2
  obtain ⟨y,_,h4,h5⟩:=h3 0 f rfl
  rw[<- e2]
  exact ih k (by omega) _ _ h1 e3 fuel _ y h4 h5
 | k+1,hk,f::g::r,o,ty,h1,h2,fuel,cs,ys,h3=>by
  simp only[tyOf.flds] at h1
  split at h1
  ·rename_i a b ha hb
   cases h1
   simp only[okTy.okF,ha,aE,bH] at h2
   obtain ⟨rfl,e2,e3,e4⟩:=h2
   obtain ⟨y,_,h4,h5⟩:=h3 0 f rfl
   obtain ⟨v1,hv1⟩:=ih k (by omega) _ _ ha e3 fuel _ y h4 h5
   obtain ⟨v2,hv2⟩:=aCc n ih k (by omega) (g::r) (f.offset+P.cellsOf f.type) b hb e4 fuel cs ys.tail (fun i f' hf=>by
    obtain ⟨y,q1,q2⟩:=h3 (i+1) f' (by simpa using hf)
    exact ⟨y,by rw[List.getElem?_tail];exact q1,q2⟩)
   rw[e2] at hv1 hv2
   refine ⟨(v1,v2),(cs.drop f.offset).take a.size,(cs.drop (f.offset+a.size)).take b.size,?_,hv1,hv2⟩
   simp only[Ty.size]
   rw[List.take_add,dJ]
  cases h1
theorem aEv:∀n,RD H enc P w base spare held n
 | 0=>fun t ty h=>by simp[tyOf] at h
 | n+1=>by
  have ih:∀k,k<n+1->RD H enc P w base spare held k:=fun k hk=>aEv k
  intro t ty h1 h2 fuel cs x h3 h4
  simp only[tyOf] at h1
  simp only[okTy] at h2
  split at h1
  ·rename_i k hu
   cases h1
   obtain ⟨m,rfl,_,hw⟩:=DataW.trod_int hu h3
   exact ⟨m,rfl,aPm hw⟩
  ·rename_i hu
   cases h1
   obtain ⟨b,rfl,_⟩:=DataW.trod_bool hu h3
   exact ⟨b,rfl⟩
  ·rename_i hu
   cases h1
   obtain ⟨s,rfl,rfl,_⟩:=DataW.trod_string hu h3
   refine ⟨s.data.toList,by simp,?_⟩
   have:=h4 s.data.toList.length (by simp[DataW.weights])
   exact bI this (by decide)
  ·rename_i e hu
   rw[hu] at h2
   simp only at h2
   cases hE:tyOf P n e with
   | none=>rw[hE] at h1;simp at h1
   | some te=>
   rw[hE] at h1 h2
   simp only[fM,jQ] at h1
   subst h1
   simp only[aE,bH] at h2
   obtain ⟨e1,e2,e3,e4⟩:=h2
   have e2:0<te.size:=by simpa using e2
   have e3:0<P.bytesOf e:=by simpa using e3
   rcases DataW.trod_slice hu h3 with ⟨rfl,_⟩ | ⟨a,len,cap,elems,rest,m,rfl,rfl,rfl,hb,hl,hm,hlen,hel,hsp,hns⟩
   ·exact ⟨([]:List te.T),wV _ _ _⟩
   have hbig:=h4 ((elems.length+rest.length)*P.bytesOf e) (by simp[DataW.weights,hu])
   have hlen':len<=maxL:=by
    have h5:elems.length+rest.length<=(elems.length+rest.length)*P.bytesOf e:=kB _ e3
    have h6:reachBytes<=maxL:=by decide
    omega
   have each:∀i:Nat,∃v:te.T,i<len->∃es,w.cells? base (a.add (i*P.cellsOf e)) (P.cellsOf e)=some es/\Reads w (fun b=>b<w.heap.size) te v es:=by
    intro i
    by_cases hi:i<len
    ·have h5:=hel i hi
     obtain ⟨y,hy⟩:∃y,elems[i]? =some y:=⟨elems[i]'(by omega),by simp[hlen,hi]⟩
     rw[hy] at h5
     cases hc:w.cells? base (a.add (i*P.cellsOf e)) (P.cellsOf e) with
     | none=>rw[hc] at h5;simp at h5
     | some es=>
      rw[hc] at h5
      simp only[mL] at h5
      obtain ⟨v,hv⟩:=ih n (cS n) e te hE e4 m es y h5 (fun q hq=>h4 q (by
       simp only[DataW.weights,hu,bE,bK]
       exact .inr (.inl (vT (jN.2 ⟨y,gV hy,rfl⟩) q hq))))
      exact ⟨v,fun _=>⟨es,rfl,hv⟩⟩
    exact ⟨te.dflt,fun h=>absurd h hi⟩
   refine ⟨(List.range len).map fun i=>(each i).choose,some a,len,cap,rfl,by simp,hl,hlen',fun h0=>?_⟩
   obtain ⟨es0,hc0,hr0⟩:=(each 0).choose_spec h0
   have hlt:a.block<w.heap.size:=by
    have:=World.cells?_block hc0 (by omega)
    simpa [Addr.add] using this
   have hspot:a.spot=none:=by
    obtain ⟨_,_,hg⟩:=World.cells?_some hc0
    have h6:=hg 0 (by omega)
    obtain ⟨v0,hv0⟩:∃v0,es0[0]? =some v0:=by
     cases es0 with
     | nil=>have:=hr0.length;simp at this;omega
     | cons v _=>exact ⟨v,rfl⟩
    rw[hv0] at h6
    have:=World.cell?_spot h6
    simpa [Addr.add] using this
   obtain ⟨b,off,spot⟩:=a
   simp only at hspot hlt
   subst hspot
   refine ⟨b,off,rfl,hlt,fun i hi=>?_⟩
   obtain ⟨es,hc,hr⟩:=(each i).choose_spec hi
   obtain ⟨_,hlen2,hg⟩:=World.cells?_some hc
   refine ⟨es,by rw[hr.length],fun j v hj=>?_,?_⟩
   ·have hj':j<es.length:=(aK.1 hj).1
    have h6:=hg j (by omega)
    rw[hj] at h6
    rw[aK7,aK7] at h6
    rw[<- e1]
    exact h6
   have:List.getD (α:=te.T) ((List.range len).map fun i=>(each i).choose) i te.dflt=(each i).choose:=by
    simp[aB,hi]
   rw[this];exact hr
  ·rename_i fs hu
   rw[hu] at h2
   simp only[aE] at h2
   obtain ⟨e1,e2⟩:=h2
   rw[h1] at e2
   have e2:=bH.1 e2
   obtain ⟨xs,m,rfl,rfl,hlen,hxl,hall⟩:=DataW.trod_struct hu h3
   obtain ⟨v,hv⟩:=aCc n (fun k hk=>ih k (by omega)) n (aM _) fs.toList 0 ty h1 e1 m cs xs (fun i f hf=>by
    have hf':fs[i]? =some f:=by simpa using hf
    have h5:=hall i f hf'
    have hi:i<xs.length:=by rw[hxl];exact (aG.1 hf').1
    refine ⟨xs[i],by simp[hi],by rw[h5];simp[hi],fun q hq=>h4 q ?_⟩
    simp only[DataW.weights,hu]
    exact DataW.weights_mem_each (j:=i) (t:=f.type) (d:=xs[i].1) (by simp[hf']) (by simp[hi]) q hq)
   refine ⟨v,?_⟩
   rw[iZ,iM (by omega)] at hv
   exact hv
  cases h1
end
def Okd:(t:Ty)->t.T->Prop
 | .int k,n=>inK k n
 | .bool,_=>True
 | .str,s=>List.length (α:=UInt8) s<=maxL
 | .pair a b,x=>Okd a x.1/\Okd b x.2
 | .slice t,xs=>List.length (α:=t.T) xs<=maxL/\∀i,i<List.length (α:=t.T) xs->Okd t (List.getD (α:=t.T) xs i t.dflt)
theorem Reads.okd {w:World} {ok:Nat->Prop} {t:Ty} {x:t.T} {cs:List Value} (h:Reads w ok t x cs):Okd t x:=by
 induction t generalizing cs with
 | int k=>exact h.2
 | bool=>trivial
 | str=>exact h.2
 | pair a b iha ihb=>obtain ⟨c1,c2,rfl,h1,h2⟩:=h;exact ⟨iha h1,ihb h2⟩
 | slice t ih=>
  obtain ⟨a,n,c,rfl,hn,_,hm,hall⟩:=h
  have hn':n=List.length (α:=t.T) x:=hn
  refine ⟨by omega,fun i hi=>?_⟩
  obtain ⟨b,off,_,_,hel⟩:=hall (by omega)
  obtain ⟨es,_,_,hr⟩:=hel i (by omega)
  exact ih hr
section
variable {H:Type} {enc:TypeId × Value->H} {P:Program} {w:World} {base b0:Nat} {spare:Nat->Bool} {held:Bool} {r:Reach} {t:TypeId} {v:Value} {d:DataW H} {ps:List MemPlace}
theorem arg_int {k:IntKind} (ht:P.underlying t=some (.int k)) (hval:Value.okWide P w r b0 t v) (hd:DataW.Trod enc P w base spare held t v d ps):∃n:Int,inK k n/\Rel (env0 w fun b=>b<w.heap.size) (.val (.int k n)) v:=by
 obtain ⟨n,rfl,_,_,hw⟩:=ChangeShapes.open_int ht hval hd
 exact ⟨n,aPm hw,aWi hw⟩
theorem arg_bool (ht:P.underlying t=some .bool) (hval:Value.okWide P w r b0 t v) (hd:DataW.Trod enc P w base spare held t v d ps):∃b:Bool,Rel (env0 w fun b=>b<w.heap.size) (.val (.bool b)) v:=by
 obtain ⟨b,rfl,_⟩:=RowKit.open_bool ht hval hd
 exact ⟨b,aT8 b⟩
theorem arg_str (ht:P.underlying t=some .string) (hval:Value.okWide P w r b0 t v) (hd:DataW.Trod enc P w base spare held t v d ps) (hw:∀m∈d.weights P t,m<=reachBytes):∃s:Bx,s.length<=maxL/\Rel (env0 w fun b=>b<w.heap.size) (.str s) v:=by
 obtain ⟨s,rfl,rfl,_,hs⟩:=ChangeMaps.open_string ht hval hd
 have h1:s.data.toList.length<=maxL:=bI (hw s.data.toList.length (by simp[DataW.weights])) (by decide)
 refine ⟨s.data.toList,h1,?_⟩
 have:=Rel.str (E:=env0 w fun b=>b<w.heap.size) s.data.toList h1
 simpa using this
theorem arg_slice {e:TypeId} {n:Nat} {ty:Ty} (ht:P.underlying t=some (.slice e)) (hval:Value.okWide P w r b0 t v) (hd:DataW.Trod enc P w base spare held t v d ps) (h1:tyOf P n t=some (.slice ty)) (h2:okTy P n t=true)
  (hw:∀m∈d.weights P t,m<=reachBytes):∃xs:List ty.T,Okd (.slice ty) xs/\Rel (env0 w fun b=>b<w.heap.size) (.seq ty xs) v:=by
 obtain ⟨a,len,cap,rfl⟩:=WideShapes.okWide_slice ht hval
 obtain ⟨fuel,hf⟩:=hd
 obtain ⟨xs,hx⟩:=aEv n t _ h1 h2 fuel _ _ hf hw
 refine ⟨xs,hx.okd,.seq _ _ _ ?_⟩
 have e:(Value.slice a len cap).cells.toList= [.slice a len cap]:=by simp[Value.cells]
 rw[e] at hx
 exact hx
theorem weight_of {ts:List TypeId} {ds:List (DataW H)} (h:(DataW.weightsEach P ts ds).all (· <=reachBytes)=true) (j:Nat) (ht:ts[j]? =some t) (hd:ds[j]? =some d):∀m∈d.weights P t,m<=reachBytes:=
 fun m hm=>by simpa using eE.1 h m (DataW.weights_mem_each ht hd m hm)
end
open Go.RowKit in
theorem law_calls {P:Program} {fresh:Bool} {f:FuncId} {args:List SV} (h:Tri P fresh f args (.val (.bool true))) (w:World) (vs:List Value) (hgw:GW P (fun b=>b<w.heap.size) w) (hr:RelL (env0 w fun b=>b<w.heap.size) args vs):
  Calls P f ⟨vs⟩ w fun e w'=>e= .returned (.bool true)/\Below w.heap.size w w':=by
 refine (h (fun b=>b<w.heap.size) w vs hgw (fun _ h=>h) hr).mono ?_
 rintro e w' ⟨v,rfl,hb,hv⟩
 cases hv
 exact ⟨rfl,hb⟩
end Go.Eng
end
section
namespace Go.Eng
open Go.RowKit
def plainC:SV->Bool
 | .seq _ _=>true
 | .clo _ [] []=>true
 | s=>plain s
def zN:List SV->Bool
 | []=>true
 | x::r=>plainC x&&zN r
theorem Rel.plainC {E E':Env} (hw:E'.w=E.w) (hok:∀b,E.ok b->E'.ok b) {s:SV} {v:Value} (h:Rel E s v) (hp:Eng.plainC s=true):Rel E' s v:=by
 cases s with
 | seq t xs=>
  cases h with
  | seq _ _ _ h=>exact .seq t xs v (by rw[hw];exact h.mono (fun _ _ _ h=>h) hok)
 | clo f a b=>
  cases a with
  | nil=>
   cases b with
   | nil=>
    cases h with
    | clo _ _ _ va vb ha hb=>
     cases ha
     cases hb
     exact .clo f [] [] [] [] .nil .nil
   | cons y ys=>exact absurd hp (by simp[Eng.plainC,Eng.plain])
  | cons y ys=>exact absurd hp (by simp[Eng.plainC,Eng.plain])
 | _=>exact h.plain hp
theorem RelL.plainC {E E':Env} (hw:E'.w=E.w) (hok:∀b,E.ok b->E'.ok b):∀ {l:List SV} {vs:List Value},RelL E l vs->zN l=true->RelL E' l vs
 | _,_,.nil,_=>.nil
 | _,_,.cons s v l vs h hl,hp=>by
  simp only[zN,aE] at hp
  exact .cons s v l vs (h.plainC hw hok hp.1) (RelL.plainC hw hok hl hp.2)
section
variable {P:Program}
theorem aM8 {f:FuncId} {e0 e1:Int} {t:TypeId} {args:List SV} {r:SV} (hp:zN args=true) (hr:plain r=true)
  (h:HTri P f (.ptr 0 0::args) [.cells [.val (.int .i64 e0)] t] (fun s H'=>s=r/\H'= [.cells [.val (.int .i64 e1)] t]))
  {H:List HO} {nm:Nat} (hn:H[nm]? =some (.cells [.val (.int .i64 e0)] t)):
  HTri P f (.ptr nm 0::args) H (fun s H'=>s=r/\H'=hset H nm (.cells [.val (.int .i64 e1)] t)):=by
 intro G loc ver w vs hY hI hrel
 have hlt:nm<H.length:=(aK.1 hn).1
 obtain ⟨hv,b,cs,hb,hheap,hcs⟩:=hI.objs nm _ hn
 cases hrel with
 | cons _ v0 _ vs hp0 hrel=>
 cases hp0 with
 | ptr _ _ _ hhas hptr=>
 obtain ⟨b',hb',hv0⟩:=hptr hv
 have hob:Owned H loc b:=⟨nm,_,hn,by show (loc nm).blk.map (·.1)=some b;rw[hb];rfl⟩
 let G':Ctx:=⟨w,okN G H loc w,fun c=>(loc nm).blk.map (·.1)=some c,fun c hc hm=>hc.2.2 ⟨nm,_,hn,hm⟩,fun c hc=>hc.2.1,G.itr,bI G.low hI.size⟩
 have hI':Inv G' [.cells [.val (.int .i64 e0)] t] (fun _=>loc nm) (fun _=>ver nm) w:=by
  refine ⟨aM _,rfl,rfl,rfl,fun _ _ _=>rfl,fun k o hk=>?_,fun c hc=>?_,fun k k' o o' c hk hk' _ _=>?_⟩
  ·have:k=0:=by have:=(aK.1 hk).1;simp at this;exact this
   subst this
   simp only[iA,jQ] at hk
   subst hk
   exact ⟨hv,b,cs,hb,hheap,hcs.plain rfl⟩
  ·obtain ⟨k,o,hk,ho⟩:=hc
   have:k=0:=by have:=(aK.1 hk).1;simp at this;exact this
   subst this
   simp only[iA,jQ] at hk
   subst hk
   exact .inl ho
  have h1:=(aK.1 hk).1
  have h2:=(aK.1 hk').1
  simp at h1 h2
  rw[h1,h2]
 have hok:∀c,okN G H loc w c->okN G' [.cells [.val (.int .i64 e0)] t] (fun _=>loc nm) w c:=fun c hc=>⟨.inl hc,hc.2.1,by
  rintro ⟨k,o,hk,ho⟩
  have:k=0:=by have:=(aK.1 hk).1;simp at this;exact this
  subst this
  simp only[iA,jQ] at hk
  subst hk
  exact hc.2.2 ⟨nm,_,hn,ho⟩⟩
 have hargs:RelL (envOf G' [.cells [.val (.int .i64 e0)] t] (fun _=>loc nm) (fun _=>ver nm) w) (.ptr 0 0::args) (v0::vs):=
  .cons _ _ _ _ (.ptr 0 0 v0 rfl fun _=>⟨b',hb',hv0⟩) (RelL.plainC (E:=envOf G H loc ver w) (E':=envOf G' [.cells [.val (.int .i64 e0)] t] (fun _=>loc nm) (fun _=>ver nm) w) rfl hok hrel hp)
 refine (h G' _ _ w _ ⟨hY.1,hY.now hI⟩ hI' hargs).mono ?_
 rintro e w' ⟨v,rfl,s,H1,loc1,ver1,⟨rfl,rfl⟩,hI1,hr1,hx1⟩
 refine ⟨v,rfl,s,hset H nm (.cells [.val (.int .i64 e1)] t),loc,ver,⟨rfl,rfl⟩,?_⟩
 have hcore:(loc1 0).toCore=(loc nm).toCore:=by
  rcases hx1.ver 0 rfl with h1 | h1
  ·exact h1.2
  have h2:0<ver nm:=h1.1
  omega
 have hblk1:(loc1 0).blk=(loc nm).blk:=aO Core.blk hcore
 obtain ⟨_,c,cs1,hc,hheap1,hcs1⟩:=hI1.objs 0 _ rfl
 have key:=hI.turn (H':=H.set nm (.cells [.val (.int .i64 e1)] t)) (loc':=loc) (ver':=ver) (w':=w') nm (by simp) (fun k hk=>⟨bS hk,rfl,rfl⟩) (fun _=>dF (aN hlt) rfl) (fun _=>.inl ⟨rfl,rfl,.inl rfl⟩)
  hI1.size hI1.os hI1.tape hI1.output (by rw[hn];intro h;cases h) (fun _=>by rw[aN hlt];intro h;cases h) (fun st n it b h=>by rw[aN hlt] at h;cases h)
  (fun d hd hno=>hI1.frame d hd fun hm=>hno _ hn hm) (fun o' d ho' hd=>by
   rw[aN hlt] at ho';cases ho'
   exact .inl ⟨_,hn,hd⟩) (fun _ o' ho'=>by
   rw[aN hlt] at ho';cases ho'
   exact ⟨hv,c,cs1,by rw[<- hblk1];exact hc,hheap1,hcs1.plain rfl⟩)
 exact ⟨key.1,hr1.plain hr,key.2⟩
def aD4 (f:FuncId) (t:TypeId) (cl:List SV->Int->(SV->Int->Prop)->Prop):Con:=aDj f fun args H K=>match args with
 | .ptr nm 0::r=>(match hget H nm with
  | .cells [.val (.int .i64 e0)] t'=>bif Nat.beq t' t&&zN r then cl r e0 fun s e1=>K s (hset H nm (.cells [.val (.int .i64 e1)] t)) else False
  | _=>False)
 | _=>False
theorem zO {f:FuncId} {t:TypeId} {cl:List SV->Int->(SV->Int->Prop)->Prop} (he:tV P f)
  (h:∀r e0 K,cl r e0 K->∃s e1,K s e1/\plain s=true/\HTri P f (.ptr 0 0::r) [.cells [.val (.int .i64 e0)] t] (fun s' H'=>s'=s/\H'= [.cells [.val (.int .i64 e1)] t])):aS P (aD4 f t cl):=by
 refine wY he ?_
 intro args H K hk
 split at hk
 ·rename_i nm r
  split at hk
  ·rename_i e0 t' hg
   obtain ⟨hb,hk⟩:=aW hk
   rw[aE] at hb
   obtain rfl:=bH.1 hb.1
   obtain ⟨s,e1,h1,h2,h3⟩:=h _ _ _ hk
   refine ⟨_,?_,aM8 hb.2 h2 h3 (aR hg (by intro h;cases h))⟩
   rintro s' H' ⟨rfl,rfl⟩
   exact h1
  exact hk.elim
 exact hk.elim
end
end Go.Eng
end
section
namespace Go.Eng
section
variable {H:Type} {enc:TypeId × Value->H} {P:Program} {w:World} {base b0:Nat} {spare:Nat->Bool} {held:Bool} {r:Reach} {t:TypeId} {v:Value} {d:DataW H} {ps:List MemPlace}
theorem arg_struct {fs:Array Field} {n:Nat} {ty:Ty} (ht:P.underlying t=some (.struct fs)) (hval:Value.okWide P w r b0 t v) (hd:DataW.Trod enc P w base spare held t v d ps) (h1:tyOf P n t=some ty) (h2:okTy P n t=true)
  (hw:∀m∈d.weights P t,m<=reachBytes):∃x:ty.T,Okd ty x/\∃cs,v= .agg ⟨cs⟩/\Reads w (fun b=>b<w.heap.size) ty x cs:=by
 obtain ⟨cs,rfl,_⟩:=WideShapes.okWide_struct ht hval
 obtain ⟨fuel,hf⟩:=hd
 obtain ⟨x,hx⟩:=aEv n t _ h1 h2 fuel _ _ hf hw
 refine ⟨x,hx.okd,cs.toList,rfl,?_⟩
 have e:(Value.agg cs).cells.toList=cs.toList:=by simp[Value.cells]
 rw[e] at hx
 exact hx
theorem agg_str2 {ok:Nat->Prop} {x:Bx × Bx} {cs:List Value} (h:Reads w ok (.pair .str .str) x cs):Rel (env0 w ok) (.agg [.str x.1,.str x.2]) (.agg ⟨cs⟩):=by
 obtain ⟨c1,c2,rfl,⟨rfl,l1⟩,⟨rfl,l2⟩⟩:=h
 exact .agg _ _ (.cons _ _ _ _ (.str _ l1) (.cons _ _ _ _ (.str _ l2) .nil))
theorem agg_str3 {ok:Nat->Prop} {x:Bx × Bx × Bx} {cs:List Value} (h:Reads w ok (.pair .str (.pair .str .str)) x cs):Rel (env0 w ok) (.agg [.str x.1,.str x.2.1,.str x.2.2]) (.agg ⟨cs⟩):=by
 obtain ⟨c1,c2,rfl,⟨rfl,l1⟩,⟨c3,c4,rfl,⟨rfl,l2⟩,⟨rfl,l3⟩⟩⟩:=h
 exact .agg _ _ (.cons _ _ _ _ (.str _ l1) (.cons _ _ _ _ (.str _ l2) (.cons _ _ _ _ (.str _ l3) .nil)))
theorem agg_roof {ok:Nat->Prop} {a b c d:Ty} {x:(Ty.pair (.slice a) (.pair (.slice b) (.pair (.slice c) (.slice d)))).T} {cs:List Value} (h:Reads w ok (.pair (.slice a) (.pair (.slice b) (.pair (.slice c) (.slice d)))) x cs):Rel (env0 w ok) (.agg [.any,.any,.any,.seq d x.2.2.2]) (.agg ⟨cs⟩):=by
 obtain ⟨c1,c2,rfl,⟨_,_,_,rfl,_⟩,⟨c3,c4,rfl,⟨_,_,_,rfl,_⟩,⟨c5,c6,rfl,⟨_,_,_,rfl,_⟩,h4⟩⟩⟩:=h
 have h5:=h4
 obtain ⟨_,_,_,rfl,_⟩:=h5
 exact .agg _ _ (.cons _ _ _ _ (.any _) (.cons _ _ _ _ (.any _) (.cons _ _ _ _ (.any _) (.cons _ _ _ _ (.seq _ _ _ h4) .nil))))
theorem arg_arr3 {k:IntKind} {e:TypeId} (ht:P.underlying t=some (.array 3 e)) (he:P.underlying e=some (.int k)) (hc:P.cellsOf e=1) (hct:P.cellsOf t=3) (hd:DataW.Trod enc P w base spare held t v d ps):
  ∃x y z:Int,(inK k x/\inK k y/\inK k z)/\Rel (env0 w fun b=>b<w.heap.size) (.agg [.val (.int k x),.val (.int k y),.val (.int k z)]) v:=by
 obtain ⟨fuel,hf⟩:=hd
 obtain ⟨xs,m,rfl,ex,hlen,hl,hel⟩:=DataW.trod_array ht hf
 rw[hct] at hlen
 obtain ⟨cs,rfl⟩:∃cs,v= .agg cs:=by cases v<;>first | exact ⟨_,rfl⟩ | (simp[Value.cells] at hlen)
 have e0:(Value.agg cs).cells.toList=cs.toList:=by simp[Value.cells]
 rw[e0] at hlen hel
 rw[hc] at hel
 have one:∀i,i<3->∃n,(cs.toList.drop (i*1)).take 1= [.int k n]/\inK k n:=fun i hi=>by
  have h:=hel i hi
  rw[aH (by omega)] at h
  obtain ⟨n,h1,_,h2⟩:=DataW.trod_int he h
  exact ⟨n,h1,aPm h2⟩
 obtain ⟨x,hx,kx⟩:=one 0 (by decide)
 obtain ⟨y,hy,ky⟩:=one 1 (by decide)
 obtain ⟨z,hz,kz⟩:=one 2 (by decide)
 refine ⟨x,y,z,⟨kx,ky,kz⟩,?_⟩
 obtain ⟨l⟩:=cs
 simp only at hlen hx hy hz
 match l,hlen with
 | [a,b,c],_=>
  simp at hx hy hz
  subst hx hy hz
  exact .agg _ _ (.cons _ _ _ _ (.val _ kx) (.cons _ _ _ _ (.val _ ky) (.cons _ _ _ _ (.val _ kz) .nil)))
end
end Go.Eng
end
section
namespace Go.Eng
open Go.Shelf
theorem kO {P:Program} {c:Con} {fn:Func} (hf:P.funcs[c.f]? =some fn) (h:∀args K,c.cl args K→∃r,K r∧Tris P c.fresh c.f args r) (hn:(fn.name== "runtime.NumGoroutine")=false:=by kernel_rfl) (hb:fn.body.isSome=true:=by rfl) (hl:(c.lin,c.own,c.hp)=(none,none,none):=by rfl):aS P c:=by
 obtain ⟨b,hb⟩:=Option.isSome_iff_exists.1 hb
 exact aKp hl (Go.Proofs.enters_of hf hn hb) h
theorem triB {P:Program} {Γ:List Con} {A:Anns} {fresh:Bool} {f:FuncId} {fn:Func} {args:List SV} {r:SV} {n:Nat} (hf:P.funcs[f]? =some fn) (hm:fn.ntmps=n) (hΓ:∀c∈Γ,aS P c) (h:body P Γ A fresh fn args r) (hn:Nat.ble args.length n=true:=by rfl) (hb:bare r=true:=by rfl):Tri P fresh f args r:=
 aCb hΓ hf (by rw[hm];exact eK hn) hb h
structure KB (P:Program) (Γ:List Con) (A:Anns) (fresh:Bool) (f:FuncId) (fn:Func) (n:Nat) (args:List SV) (K:SV->Prop):Prop where
 ex:(∀r,body P Γ A fresh fn args r->Nat.ble args.length n=true->bare r=true->Tri P fresh f args r)->∃r,K r/\Tris P fresh f args r
theorem kb {P:Program} {Γ:List Con} {A:Anns} {fresh:Bool} {f:FuncId} {fn:Func} {n:Nat} {args:List SV} {K:SV->Prop} {r:SV} (hK:K r) (h:body P Γ A fresh fn args r) (hn:Nat.ble args.length n=true:=by rfl) (hb:bare r=true:=by rfl) (ht:Tri P fresh f args r->Tris P fresh f args r:=by exact id):KB P Γ A fresh f fn n args K:=⟨fun T=>⟨r,hK,ht (T r h hn hb)⟩⟩
theorem kQ {P:Program} {Γ:List Con} {f:FuncId} {fresh:Bool} {cl:List SV→(SV→Prop)→Prop} {fn:Func} {n:Nat} (A:Anns) (hf:P.funcs[f]? =some fn) (hm:fn.ntmps=n) (hΓ:∀c∈Γ,aS P c) (h:∀args K,cl args K→KB P Γ A fresh f fn n args K) (hn:(fn.name== "runtime.NumGoroutine")=false:=by kernel_rfl) (hb:fn.body.isSome=true:=by rfl):aS P (bB f fresh cl):=
 kO (c:=bB f fresh cl) hf (fun args K hc=>(h args K hc).ex fun r h2 h3 h4=>triB hf hm hΓ h2 h3 h4) hn hb
theorem kn {P:Program}:∀c∈([]:List Con),aS P c:=fun _ h=>absurd h jY
theorem kc {P:Program} {c:Con} {Γ:List Con} (h:aS P c) (hs:∀x∈Γ,aS P x):∀x∈c::Γ,aS P x:=fun x hx=>(bE.1 hx).elim (fun e=>e ▸ h) (hs x)
theorem pI {p:SV->Prop} {s:SV} (h:p s):Pin p:=⟨⟨s,h⟩⟩
theorem pJ {x:SV} {u:List HO} {C:Prop} (h:C):Pinned (x=x) (u=u) C:=.mk rfl rfl h
theorem ZF {p:Prop} (h:p:=by ((conv=>whnf);(repeat' first | exact trivial | rfl | apply aA))):p:=h
theorem ZE {p:Prop} (h:p:=by (repeat' first | exact trivial | rfl | exact Nat.one_pos | (refine aA ?_ ?_) | omega | ((conv=>whnf);(refine aA ?_ ?_)) | ((conv=>whnf);exact trivial))):p:=h
theorem ZEx {p q:Prop} (x:q) (h:q->p:=by (intro x;(repeat' first | exact trivial | rfl | exact Nat.one_pos | exact x | (refine aA ?_ ?_) | omega | ((conv=>whnf);(refine aA ?_ ?_)) | ((conv=>whnf);exact trivial)))):p:=h x
theorem ZRF {p:Prop} (h:p:=by ((repeat' first | refine ZR ?_ | refine Zg fun _=>?_);(conv=>whnf);(repeat' first | exact trivial | rfl | apply aA))):p:=h
theorem ZGF {p:Prop} (h:p:=by ((repeat' first | refine ZG ?_ | refine Zg fun _=>?_);(conv=>whnf);(repeat' first | exact trivial | rfl | apply aA))):p:=h
theorem ZHF {p:Prop} (h:p:=by ((repeat' first | refine ZH ?_ | refine Zg fun _=>?_);(conv=>whnf);(repeat' first | exact trivial | rfl | apply aA))):p:=h
theorem ZPF {p:Prop} (h:p:=by ((repeat' first | refine ZP ?_ | refine Zg fun _=>?_);(conv=>whnf);(repeat' first | exact trivial | rfl | apply aA))):p:=h
theorem ZNF {p:Prop} (h:p:=by ((repeat' first | refine ZN ?_ | refine Zg fun _=>?_);(conv=>whnf);(repeat' first | exact trivial | rfl | apply aA))):p:=h
theorem ZXF {p:Prop} (h:p:=by ((repeat' first | refine ZX ?_ | refine Zg fun _=>?_);(conv=>whnf);(repeat' first | exact trivial | rfl | apply aA))):p:=h
theorem ZFx {p q:Prop} (x:q) (h:q->p:=by (intro x;(conv=>whnf);(repeat' first | exact trivial | rfl | exact x | apply aA))):p:=h x
theorem ZRx {p q:Prop} (x:q) (h:q->p:=by (intro x;(repeat' first | refine ZR ?_ | refine Zg fun _=>?_);(conv=>whnf);(repeat' first | exact trivial | rfl | exact x | apply aA))):p:=h x
theorem ZGx {p q:Prop} (x:q) (h:q->p:=by (intro x;(repeat' first | refine ZG ?_ | refine Zg fun _=>?_);(conv=>whnf);(repeat' first | exact trivial | rfl | exact x | apply aA))):p:=h x
theorem ZHx {p q:Prop} (x:q) (h:q->p:=by (intro x;(repeat' first | refine ZH ?_ | refine Zg fun _=>?_);(conv=>whnf);(repeat' first | exact trivial | rfl | exact x | apply aA))):p:=h x
end Go.Eng
end
section
namespace IB
def valB (B:Nat):List Int->Int
 | []=>0
 | x::r=>x+B*valB B r
def InB (B:Nat) (l:List Int):Prop:=∀x∈l,0<=x/\x<B
theorem InB.nil {B:Nat}:InB B []:=fun x h=>by simp at h
theorem InB.cons {B:Nat} {x:Int} {l:List Int}:InB B (x::l)↔(0<=x/\x<B)/\InB B l:=by
 unfold InB;simp
theorem InB.append {B:Nat} {l m:List Int}:InB B (l++m)↔InB B l/\InB B m:=by
 unfold InB
 constructor
 ·intro h;exact ⟨fun x hx=>h x (pL _ hx),fun x hx=>h x (List.mem_append_right _ hx)⟩
 rintro ⟨h1,h2⟩ x hx
 rcases bK.1 hx with h | h
 ·exact h1 x h
 exact h2 x h
theorem InB.get {B:Nat} {l:List Int} (h:InB B l) {i:Nat} (hi:i<l.length):0<=l.getD i 0/\l.getD i 0<B:=by
 have e:l.getD i 0=l[i]:=by simp[aB,hi]
 rw[e];exact h _ (cU hi)
theorem InB.getD0 {B:Nat} (hB:0<B) {l:List Int} (h:InB B l) (i:Nat):0<=l.getD i 0/\l.getD i 0<B:=by
 by_cases hi:i<l.length
 ·exact h.get hi
 have e:l.getD i 0=0:=by rw[aB,bN (by omega)];rfl
 rw[e];omega
theorem eZ {B:Nat}:∀ {l:List Int},InB B l->0<=valB B l
 | [],_=>gT _
 | x::r,h=>by
  obtain ⟨h1,h2⟩:=InB.cons.1 h
  have:=eZ h2
  have:0<=(B:Int)*valB B r:=eC (by omega) this
  simp only[valB];omega
theorem sI {B:Nat}:∀ {l:List Int},InB B l->valB B l<(B:Int)^l.length
 | [],_=>by simp[valB]
 | x::r,h=>by
  obtain ⟨h1,h2⟩:=InB.cons.1 h
  have h3:=sI h2
  have h4:(B:Int)*(valB B r+1)<=B*B^r.length:=aY (by omega) (by omega)
  rw[cH,eF] at h4
  simp only[valB,cW]
  rw[gC,cB (_ ^ _)]
  omega
theorem mZ {B:Nat} (m:List Int):∀l:List Int,valB B (l++m)=valB B l+(B:Int)^l.length*valB B m
 | []=>by simp[valB]
 | x::r=>by
  simp only[gN,valB,cW]
  rw[mZ m r,cH,gC,cB (_ ^ _) (B:Int),cO]
  omega
theorem tA {B:Nat} (l:List Int) (x:Int):valB B (l++ [x])=valB B l+(B:Int)^l.length*x:=by
 rw[mZ];simp[valB]
theorem tB {B:Nat} (n:Nat):valB B (List.replicate n 0)=0:=by
 induction n with
 | zero=>rfl
 | succ n ih=>rw[List.replicate_succ];simp[valB,ih]
def aZ (B:Nat) (n:Nat):List Int:=if h:2<=B/\0<n then ((n%B:Nat):Int)::aZ B (n/B) else []
termination_by n
decreasing_by exact uY h.2 (by omega)
theorem fY (B:Nat):aZ B 0= []:=by rw[aZ,xH (by omega)]
theorem aBh {B n:Nat} (hB:2<=B) (hn:0<n):aZ B n=((n%B:Nat):Int)::aZ B (n/B):=by rw[aZ,dif_pos ⟨hB,hn⟩]
theorem fI {B:Nat} (hB:2<=B):∀n:Nat,InB B (aZ B n):=by
 intro n
 induction n using Nat.strongRecOn with
 | _ n ih=>
  by_cases hn:0<n
  ·rw[aBh hB hn,InB.cons]
   have:=eT n (show 0<B by omega)
   exact ⟨⟨by omega,by omega⟩,ih _ (uY hn (by omega))⟩
  obtain rfl:n=0:=by omega
  rw[fY];exact InB.nil
theorem kY {B:Nat} (hB:2<=B):∀n:Nat,valB B (aZ B n)=n:=by
 intro n
 induction n using Nat.strongRecOn with
 | _ n ih=>
  by_cases hn:0<n
  ·rw[aBh hB hn]
   simp only[valB]
   rw[ih _ (uY hn (by omega))]
   have:=Nat.mod_add_div n B
   exact_mod_cast this
  obtain rfl:n=0:=by omega
  rw[fY];rfl
theorem qN {B n:Nat} (hB:2<=B):aZ B n= []↔n=0:=by
 constructor
 ·intro h
  have:=kY hB n
  rw[h] at this
  simp[valB] at this
  omega
 rintro rfl;exact fY B
theorem aE8 {B:Nat} (hB:2<=B):∀ {l:List Int},InB B l->(∀h:l≠ [],l.getLast h≠0)->l=aZ B (valB B l).toNat
 | [],_,_=>by simp[valB,fY]
 | x::r,h,hl=>by
  obtain ⟨h1,h2⟩:=InB.cons.1 h
  obtain ⟨a,rfl⟩:=bM h1.1
  have ha:a<B:=by omega
  have hv:=eZ h2
  obtain ⟨b,hb⟩:=bM hv
  have e:(valB B ((a:Int)::r)).toNat=a+B*b:=by
   simp only[valB];rw[hb]
   have:(a:Int)+(B:Int)*(b:Int)=((a+B*b:Nat):Int):=by simp
   show ((a:Int)+(B:Int)*(b:Int)).toNat= _
   rw[this];exact aP _
  rw[e]
  have hpos:0<a+B*b:=by
   cases r with
   | nil=>
    have:=hl (by simp)
    simp at this
    omega
   | cons y s=>
    have ih:=aE8 hB h2 (fun hne=>by have:=hl (by simp);simpa using this)
    have:b≠0:=fun h0=>by
     subst h0
     rw[hb] at ih
     rw[aP,fY] at ih;cases ih
    have:=rZ (show 0<B by omega) (kS this)
    omega
  rw[aBh hB hpos]
  have e1:(a+B*b)%B=a:=by rw[Nat.add_mul_mod_self_left,fQ ha]
  have e2:(a+B*b)/B=b:=by rw[Nat.add_mul_div_left _ _ (by omega),Nat.div_eq_of_lt ha,dB]
  rw[e1,e2]
  have ih:=aE8 hB h2 (fun hne=>by
   have:=hl (by simp)
   rw[List.getLast_cons hne] at this
   exact this)
  rw[hb] at ih
  rw[aP] at ih
  rw[<- ih]
def jC (l:List Int):List Int:=(l.reverse.dropWhile (· ==0)).reverse
theorem lZ (l:List Int):jC (l++ [0])=jC l:=by simp[jC]
theorem tC (l:List Int) (x:Int) (h:x≠0):jC (l++ [x])=l++ [x]:=by simp[jC,h]
theorem aBi (P:List Int->Prop) (h0:P []) (h1:∀l x,P l->P (l++ [x])) (l:List Int):P l:=by
 have:∀n (l:List Int),l.length=n->P l:=by
  intro n
  induction n with
  | zero=>intro l hl;rw[iC.1 hl];exact h0
  | succ n ih=>
   intro l hl
   have hne:l≠ []:=fun e=>by rw[e] at hl;simp at hl
   rw[<- iG hne]
   exact h1 _ _ (ih _ (by simp[hl]))
 exact this _ l rfl
theorem aWl {B:Nat} {l:List Int}:InB B l->InB B (jC l):=by
 refine aBi (fun l=>InB B l->InB B (jC l)) (fun h=>h) (fun l x ih h=>?_) l
 obtain ⟨h1,h2⟩:=InB.append.1 h
 by_cases e:x=0
 ·subst e;rw[lZ];exact ih h1
 rw[tC _ _ e];exact h
theorem aUh {B:Nat} (l:List Int):valB B (jC l)=valB B l:=by
 refine aBi (fun l=>valB B (jC l)=valB B l) rfl (fun l x ih=>?_) l
 by_cases e:x=0
 ·subst e;rw[lZ,tA,ih];simp
 rw[tC _ _ e]
theorem aG6 (l:List Int):∀h:jC l≠ [],(jC l).getLast h≠0:=by
 refine aBi (fun l=>∀h:jC l≠ [],(jC l).getLast h≠0) (fun h=>(h rfl).elim) (fun l x ih=>?_) l
 by_cases e:x=0
 ·subst e;simp only[lZ];exact ih
 intro h;simp only[tC _ _ e];simp[e]
theorem kN {B:Nat} (hB:2<=B) {l:List Int} (h:InB B l):jC l=aZ B (valB B l).toNat:=by
 rw[<- aUh l]
 exact aE8 hB (aWl h) (aG6 l)
theorem yT {B:Nat} (hB:2<=B) (n:Nat):∀h:aZ B n≠ [],(aZ B n).getLast h≠0:=by
 have h1:=kN hB (fI hB n)
 rw[kY hB,aP] at h1
 rw[<- h1];exact aG6 _
end IB
end
section
namespace IB
def valN (B:Nat) (l:List Int):Nat->Int
 | 0=>0
 | k+1=>valN B l k+(B:Int)^k*l.getD k 0
theorem qO (B:Nat) (l:List Int):∀k,k<=l.length->valN B l k=valB B (l.take k)
 | 0,_=>by simp[valN,valB]
 | k+1,h=>by
  have e:l.getD k 0=l[k]:=by simp[aB,show k<l.length by omega]
  rw[valN,qO B l k (by omega),dA (show k<l.length by omega),tA,e,bA,cI (by omega)]
theorem nQ (B:Nat) (l:List Int):∀k,l.length<=k->valN B l k=valB B l
 | 0,h=>by
  have:l= []:=iC.1 (by omega)
  subst this;rfl
 | k+1,h=>by
  by_cases e:l.length=k+1
  ·rw[qO B l (k+1) (by omega),iM (by omega)]
  have e2:l.getD k 0=0:=by rw[aB,bN (by omega)];rfl
  rw[valN,e2,nQ B l k (by omega)];simp
def addK (B:Nat) (a b:List Int):Nat->List Int × Int
 | 0=>([],0)
 | k+1=>((addK B a b k).1++ [(a.getD k 0+b.getD k 0+(addK B a b k).2)%B],(a.getD k 0+b.getD k 0+(addK B a b k).2)/B)
def subK (B:Nat) (a b:List Int):Nat->List Int × Int
 | 0=>([],0)
 | k+1=>((subK B a b k).1++ [if 0<=a.getD k 0-b.getD k 0-(subK B a b k).2 then a.getD k 0-b.getD k 0-(subK B a b k).2 else a.getD k 0-b.getD k 0-(subK B a b k).2+B],
   if 0<=a.getD k 0-b.getD k 0-(subK B a b k).2 then 0 else 1)
theorem mA {B:Nat} (hB:2<=B) (k:Nat):0<(B:Int)^k:=wE (by omega)
theorem aBk {B:Nat} (hB:2<=B) {a b:List Int} (ha:InB B a) (hb:InB B b):∀k,(addK B a b k).1.length=k/\InB B (addK B a b k).1/\(0<=(addK B a b k).2/\(addK B a b k).2<=1)/\
  valB B (addK B a b k).1+(B:Int)^k*(addK B a b k).2=valN B a k+valN B b k
 | 0=>⟨rfl,InB.nil,by simp[addK],by simp[addK,valB,valN]⟩
 | k+1=>by
  obtain ⟨h1,h2,h3,h4⟩:=aBk hB ha hb k
  have g1:=ha.getD0 (by omega) k
  have g2:=hb.getD0 (by omega) k
  simp only[addK]
  generalize (addK B a b k).1=o at h1 h2 h4 ⊢
  generalize (addK B a b k).2=c at h3 h4 ⊢
  have hm:=gE (a.getD k 0+b.getD k 0+c) (show (B:Int)≠0 by omega)
  have hm2:=dX (a.getD k 0+b.getD k 0+c) (show 0<(B:Int) by omega)
  have hd:=gJ (a.getD k 0+b.getD k 0+c) B
  have hd0:0<=(a.getD k 0+b.getD k 0+c)/B:=eA (by omega) (by omega)
  have hd1:(a.getD k 0+b.getD k 0+c)/B<2:=fF (by omega) (by omega)
  refine ⟨by simp[h1],InB.append.2 ⟨h2,InB.cons.2 ⟨⟨hm,hm2⟩,InB.nil⟩⟩,⟨hd0,by omega⟩,?_⟩
  rw[tA,h1,valN,valN,gC,cO]
  have e:(B:Int)^k*((a.getD k 0+b.getD k 0+c)%B)+(B:Int)^k*((B:Int)*((a.getD k 0+b.getD k 0+c)/B))=(B:Int)^k*a.getD k 0+(B:Int)^k*b.getD k 0+(B:Int)^k*c:=by
   rw[<- cH,hd,cH,cH]
  omega
theorem aBl {B:Nat} (hB:2<=B) {a b:List Int} (ha:InB B a) (hb:InB B b):∀k,(subK B a b k).1.length=k/\InB B (subK B a b k).1/\(0<=(subK B a b k).2/\(subK B a b k).2<=1)/\
  valB B (subK B a b k).1-(B:Int)^k*(subK B a b k).2=valN B a k-valN B b k
 | 0=>⟨rfl,InB.nil,by simp[subK],by simp[subK,valB,valN]⟩
 | k+1=>by
  obtain ⟨h1,h2,h3,h4⟩:=aBl hB ha hb k
  have g1:=ha.getD0 (by omega) k
  have g2:=hb.getD0 (by omega) k
  simp only[subK]
  generalize (subK B a b k).1=o at h1 h2 h4 ⊢
  generalize (subK B a b k).2=c at h3 h4 ⊢
  by_cases hn:0<=a.getD k 0-b.getD k 0-c
  ·rw[aD hn,aD hn]
   refine ⟨by simp[h1],InB.append.2 ⟨h2,InB.cons.2 ⟨⟨hn,by omega⟩,InB.nil⟩⟩,by omega,?_⟩
   rw[tA,h1,valN,valN,fS,fS]
   omega
  rw[aC hn,aC hn]
  refine ⟨by simp[h1],InB.append.2 ⟨h2,InB.cons.2 ⟨⟨by omega,by omega⟩,InB.nil⟩⟩,by omega,?_⟩
  rw[tA,h1,valN,valN,cH,fS,fS,gC]
  omega
theorem nR {B:Nat} (hB:2<=B) {m n:Nat} (h:m<=n):(B:Int)^m<=(B:Int)^n:=by
 have:B^m<=B^n:=cL (by omega) h
 exact_mod_cast this
theorem rJ {B:Nat} (hB:2<=B) {l:List Int} (h:InB B l) {n:Nat} (hn:l.length<=n):valB B l<(B:Int)^n:=Int.lt_of_lt_of_le (sI h) (nR hB hn)
theorem aUi {B:Nat} (hB:2<=B) {a b:List Int} (ha:InB B a) (hb:InB B b) {n:Nat} (h1:a.length<=n) (h2:b.length<=n):jC (addK B a b (n+1)).1=aZ B (valB B a+valB B b).toNat:=by
 obtain ⟨l1,l2,l3,l4⟩:=aBk hB ha hb (n+1)
 rw[nQ _ _ _ (by omega),nQ _ _ _ (by omega)] at l4
 have v1:=rJ hB ha h1
 have v2:=rJ hB hb h2
 have v3:=eZ l2
 have hc:(addK B a b (n+1)).2=0:=by
  by_cases e:(addK B a b (n+1)).2=0
  ·exact e
  have e1:(addK B a b (n+1)).2=1:=by omega
  rw[e1,eF,gC] at l4
  have:(B:Int)^n*2<=(B:Int)^n*B:=aY (by omega) (dQ (mA hB n))
  omega
 rw[hc,eO,gO] at l4
 rw[kN hB l2,l4]
theorem aUj {B:Nat} (hB:2<=B) {a b:List Int} (ha:InB B a) (hb:InB B b) {n:Nat} (h1:a.length<=n) (h2:b.length<=n) (hle:valB B b<=valB B a):jC (subK B a b n).1=aZ B (valB B a-valB B b).toNat/\(subK B a b n).2=0:=by
 obtain ⟨l1,l2,l3,l4⟩:=aBl hB ha hb n
 rw[nQ _ _ _ h1,nQ _ _ _ h2] at l4
 have v3:=sI l2
 rw[l1] at v3
 have hc:(subK B a b n).2=0:=by
  by_cases e:(subK B a b n).2=0
  ·exact e
  have e1:(subK B a b n).2=1:=by omega
  rw[e1,eF] at l4
  omega
 rw[hc,eO,Int.sub_zero] at l4
 exact ⟨by rw[kN hB l2,l4],hc⟩
end IB
end
section
namespace IB
theorem aAf {B:Nat} (y:Int):∀(l:List Int) (j:Nat),j<l.length->valB B (l.set j y)=valB B l+(B:Int)^j*(y-l.getD j 0)
 | [],j,h=>by simp at h
 | x::r,0,h=>by simp only[List.set_cons_zero,valB,List.getD_cons_zero,Int.pow_zero,gF];omega
 | x::r,j+1,h=>by
  simp only[List.set_cons_succ,valB,List.getD_cons_succ]
  rw[aAf y r j (by simpa using h),cH,gC,cB (_ ^ _) (B:Int),cO]
  omega
theorem mP (l:List Int) (k:Nat) (x:Int) (h:k<l.length) (i:Nat):(l.set k x).getD i 0=if i=k then x else l.getD i 0:=by
 rw[aB,cZ]
 by_cases e:i=k
 ·subst e;simp[h]
 rw[aC (fun e'=>e e'.symm),aC e,aB]
theorem aBm {B:Nat} {l:List Int} (h:InB B l) (k:Nat) {x:Int} (hx:0<=x/\x<B):InB B (l.set k x):=fun y hy=>by
 rcases List.mem_or_eq_of_mem_set hy with h1 | h1
 ·exact h y h1
 rw[h1];exact hx
theorem aAg (l:List Int) (i:Nat) (h:l.length<=i):l.getD i 0=0:=by rw[aB,bN h];rfl
def mulK (B:Nat) (x:Int) (b:List Int) (i:Nat) (out:List Int):Nat->List Int × Int
 | 0=>(out,0)
 | k+1=>((mulK B x b i out k).1.set (i+k) (((mulK B x b i out k).1.getD (i+k) 0+x*b.getD k 0+(mulK B x b i out k).2)%B),((mulK B x b i out k).1.getD (i+k) 0+x*b.getD k 0+(mulK B x b i out k).2)/B)
def mulR (B:Nat) (a b out:List Int):Nat->List Int
 | 0=>out
 | i+1=>(mulK B (a.getD i 0) b i (mulR B a b out i) (b.length+1)).1
theorem tD {B:Nat} (hB:2<=B) {x:Int} (hx:0<=x/\x<B) {b:List Int} (hb:InB B b) {i:Nat} {out:List Int} (ho:InB B out):∀k,i+k<=out.length->(mulK B x b i out k).1.length=out.length/\InB B (mulK B x b i out k).1/\
  (0<=(mulK B x b i out k).2/\(mulK B x b i out k).2<B)/\valB B (mulK B x b i out k).1+(B:Int)^ (i+k)*(mulK B x b i out k).2=valB B out+(B:Int)^i*(x*valN B b k)/\
  (∀j,i+k<=j->(mulK B x b i out k).1.getD j 0=out.getD j 0)/\∀j,j<i->(mulK B x b i out k).1.getD j 0=out.getD j 0
 | 0,_=>⟨rfl,ho,by simp only[mulK];omega,by simp[mulK,valN],fun _ _=>rfl,fun _ _=>rfl⟩
 | k+1,hk=>by
  obtain ⟨h1,h2,h3,h4,h5,h6⟩:=tD hB hx hb (i:=i) ho k (by omega)
  have g1:=hb.getD0 (by omega) k
  have g2:=h2.getD0 (by omega) (i+k)
  simp only[mulK]
  generalize (mulK B x b i out k).1=o at h1 h2 h4 h5 h6 g2 ⊢
  generalize (mulK B x b i out k).2=c at h3 h4 ⊢
  have hp0:0<=x*b.getD k 0:=eC hx.1 g1.1
  have hp1:x*b.getD k 0<=((B:Int)-1)*((B:Int)-1):=Int.mul_le_mul (by omega) (by omega) g1.1 (by omega)
  have hsq:((B:Int)-1)*((B:Int)-1)=(B:Int)*B-B-B+1:=by rw[wI,fS,eF,gF];omega
  rw[hsq] at hp1
  have hm:=gE (o.getD (i+k) 0+x*b.getD k 0+c) (show (B:Int)≠0 by omega)
  have hm2:=dX (o.getD (i+k) 0+x*b.getD k 0+c) (show 0<(B:Int) by omega)
  have hd:=gJ (o.getD (i+k) 0+x*b.getD k 0+c) B
  have hd0:0<=(o.getD (i+k) 0+x*b.getD k 0+c)/B:=eA (by omega) (by omega)
  have hd1:(o.getD (i+k) 0+x*b.getD k 0+c)/B<B:=fF (by omega) (by omega)
  generalize (o.getD (i+k) 0+x*b.getD k 0+c)%B=m at hm hm2 hd ⊢
  generalize (o.getD (i+k) 0+x*b.getD k 0+c)/B=d at hd hd0 hd1 ⊢
  refine ⟨by rw[cV,h1],aBm h2 _ ⟨hm,hm2⟩,⟨hd0,hd1⟩,?_,fun j hj=>?_,fun j hj=>?_⟩
  ·rw[aAf _ _ _ (by omega),valN,<- iS,gC]
   have e1:x*(valN B b k+(B:Int)^k*b.getD k 0)=x*valN B b k+(B:Int)^k*(x*b.getD k 0):=by
    rw[cH,<- cO,<- cO,cB x ((B:Int)^k)]
   have e2:(B:Int)^i*((B:Int)^k*(x*b.getD k 0))=(B:Int)^ (i+k)*(x*b.getD k 0):=by rw[<- cO,sB]
   rw[e1,cH,e2,cO]
   have e3:(B:Int)^ (i+k)*(m-o.getD (i+k) 0)+(B:Int)^ (i+k)*((B:Int)*d)=(B:Int)^ (i+k)*(x*b.getD k 0)+(B:Int)^ (i+k)*c:=by
    rw[<- cH,<- cH]
    congr 1
    omega
   omega
  ·rw[mP _ _ _ (by omega),aC (by omega),h5 j (by omega)]
  rw[mP _ _ _ (by omega),aC (by omega),h6 j hj]
theorem aUk {B:Nat} (hB:2<=B) {x:Int} (hx:0<=x/\x<B) {b:List Int} (hb:InB B b) {i:Nat} {out:List Int} (ho:InB B out) (hl:i+b.length+1<=out.length) (hz:out.getD (i+b.length) 0=0):
  (mulK B x b i out (b.length+1)).2=0/\valB B (mulK B x b i out (b.length+1)).1=valB B out+(B:Int)^i*(x*valB B b):=by
 obtain ⟨h1,h2,h3,h4,h5,h6⟩:=tD hB hx hb (i:=i) ho b.length (by omega)
 obtain ⟨g1,g2,g3,g4,g5,g6⟩:=tD hB hx hb (i:=i) ho (b.length+1) (by omega)
 have hc:(mulK B x b i out (b.length+1)).2=0:=by
  simp only[mulK]
  rw[h5 _ (aM _),hz,aAg b b.length (aM _),eO,uP,uP]
  exact Int.ediv_eq_zero_of_lt h3.1 h3.2
 rw[hc,eO,gO,nQ _ _ _ (by omega)] at g4
 exact ⟨hc,g4⟩
theorem aBn {B:Nat} (hB:2<=B) {a b:List Int} (ha:InB B a) (hb:InB B b) {n:Nat} (hn:a.length+b.length+1<=n):∀i,i<=a.length->(mulR B a b (List.replicate n 0) i).length=n/\InB B (mulR B a b (List.replicate n 0) i)/\
  valB B (mulR B a b (List.replicate n 0) i)=valN B a i*valB B b/\∀j,i+b.length<=j->(mulR B a b (List.replicate n 0) i).getD j 0=0
 | 0,_=>by
  refine ⟨by simp[mulR],fun x hx=>?_,by simp[mulR,tB,valN],fun j hj=>?_⟩
  ·rw[(kT.1 hx).2];omega
  simp only[mulR];rw[aB,bR];split<;>rfl
 | i+1,hi=>by
  obtain ⟨h1,h2,h3,h4⟩:=aBn hB ha hb hn i (by omega)
  have hx:=ha.get (show i<a.length by omega)
  simp only[mulR]
  generalize mulR B a b (List.replicate n 0) i=o at h1 h2 h3 h4 ⊢
  obtain ⟨g1,g2,g3,g4,g5,g6⟩:=tD hB hx hb (i:=i) h2 (b.length+1) (by omega)
  obtain ⟨r1,r2⟩:=aUk hB hx hb (i:=i) h2 (by omega) (h4 _ (aM _))
  refine ⟨by rw[g1,h1],g2,?_,fun j hj=>by rw[g5 j (by omega)];exact h4 j (by omega)⟩
  rw[r2,h3,valN,jT,cO]
theorem aUl {B:Nat} (hB:2<=B) {a b:List Int} (ha:InB B a) (hb:InB B b) {n:Nat} (hn:a.length+b.length+1<=n):jC (mulR B a b (List.replicate n 0) a.length)=aZ B (valB B a*valB B b).toNat:=by
 obtain ⟨h1,h2,h3,h4⟩:=aBn hB ha hb hn a.length (aM _)
 rw[kN hB h2,h3,nQ _ _ _ (aM _)]
end IB
end
section
namespace IB
def divK (B:Nat) (d:Int) (a:List Int):Nat->List Int × Int
 | 0=>(List.replicate a.length 0,0)
 | m+1=>((divK B d a m).1.set (a.length-1-m) ((a.getD (a.length-1-m) 0+(divK B d a m).2*B)/d),(a.getD (a.length-1-m) 0+(divK B d a m).2*B)%d)
theorem fO (l:List Int) (i:Nat) (h:i<l.length):l.drop i=l.getD i 0::l.drop (i+1):=by
 rw[jE h]
 congr 1
 simp[aB,h]
theorem aBo {B:Nat} (hB:2<=B) {d:Int} (hd:0<d) {a:List Int} (ha:InB B a):∀m,m<=a.length->(divK B d a m).1.length=a.length/\InB B (divK B d a m).1/\(0<=(divK B d a m).2/\(divK B d a m).2<d)/\
  valB B ((divK B d a m).1.drop (a.length-m))*d+(divK B d a m).2=valB B (a.drop (a.length-m))
 | 0,_=>by
  refine ⟨by simp[divK],fun x hx=>?_,by simp only[divK];omega,?_⟩
  ·rw[(kT.1 hx).2];omega
  simp only[divK]
  rw[eX (by simp),eX (by omega)];simp[valB]
 | m+1,hm=>by
  obtain ⟨h1,h2,h3,h4⟩:=aBo hB hd ha m (by omega)
  obtain ⟨i,hi⟩:∃i,a.length-1-m=i:=⟨_,rfl⟩
  have e1:a.length-m=i+1:=by omega
  have e2:a.length-(m+1)=i:=by omega
  have g1:=ha.get (show i<a.length by omega)
  simp only[divK]
  rw[hi,e2]
  rw[e1] at h4
  generalize (divK B d a m).1=q at h1 h2 h4 ⊢
  generalize (divK B d a m).2=r at h3 h4 ⊢
  have hn0:0<=r*B:=eC h3.1 (by omega)
  have hn1:r*B<=(d-1)*B:=bY (by omega) (by omega)
  rw[wI,gF] at hn1
  have hm0:=gE (a.getD i 0+r*B) (show d≠0 by omega)
  have hm1:=dX (a.getD i 0+r*B) hd
  have hdv:=gJ (a.getD i 0+r*B) d
  have hq0:0<=(a.getD i 0+r*B)/d:=eA (by omega) (by omega)
  have hq1:(a.getD i 0+r*B)/d<B:=fF hd (by rw[cB (B:Int) d];omega)
  generalize (a.getD i 0+r*B)/d=y at hdv hq0 hq1 ⊢
  generalize (a.getD i 0+r*B)%d=z at hdv hm0 hm1 ⊢
  refine ⟨by rw[cV,h1],aBm h2 _ ⟨hq0,hq1⟩,⟨hm0,hm1⟩,?_⟩
  have e3:(q.set i y).drop i=y::q.drop (i+1):=by
   rw[fO _ _ (by rw[cV];omega),mP _ _ _ (by omega),aD rfl,List.drop_set_of_lt (by omega)]
  rw[e3,fO a i (by omega)]
  simp only[valB]
  rw[<- h4,jT,cH,cO,cB y d,cB (B:Int) r]
  omega
theorem aUm {B:Nat} (hB:2<=B) {d:Int} (hd:0<d) (hdB:d<B) {a:List Int} (ha:InB B a):
  jC (divK B d a a.length).1=aZ B (valB B a/d).toNat/\(divK B d a a.length).2=valB B a%d/\jC [(divK B d a a.length).2]=aZ B (valB B a%d).toNat:=by
 obtain ⟨h1,h2,h3,h4⟩:=aBo hB hd ha a.length (aM _)
 rw[kP,iZ,iZ] at h4
 have h5:valB B a/d=valB B (divK B d a a.length).1/\valB B a%d=(divK B d a a.length).2:=by
  rw[wJ hd]
  exact ⟨by rw[nW,cB];exact h4,h3.1,h3.2⟩
 refine ⟨by rw[kN hB h2,h5.1],h5.2.symm,?_⟩
 rw[kN hB (InB.cons.2 ⟨⟨h3.1,by omega⟩,InB.nil⟩),h5.2]
 simp[valB]
theorem mJ {B:Nat} (hB:2<=B) {n:Nat} (hn:0<n):(B:Int)^ ((aZ B n).length-1)<=n/\(n:Int)<(B:Int)^ (aZ B n).length/\0<(aZ B n).length:=by
 have h1:=sI (fI hB n)
 have hne:aZ B n≠ []:=fun e=>by have:=(qN hB).1 e;omega
 have hl:=yT hB n hne
 have hpos:0<(aZ B n).length:=cQ.2 hne
 have h2:=kY hB n
 rw[h2] at h1
 refine ⟨?_,h1,hpos⟩
 have hin:=fI hB n
 rw[<- iG hne] at h2 hin
 obtain ⟨i1,i2⟩:=InB.append.1 hin
 obtain ⟨i3,_⟩:=InB.cons.1 i2
 rw[tA,List.length_dropLast] at h2
 have h3:=eZ i1
 have h4:(B:Int)^ ((aZ B n).length-1)*1<=(B:Int)^ ((aZ B n).length-1)*(aZ B n).getLast hne:=aY (by omega) (dQ (mA hB _))
 omega
theorem vX {B:Nat} (hB:2<=B) {m n:Nat} (h:(aZ B m).length<(aZ B n).length):m<n:=by
 have hn:0<n:=by
  rcases dN n with e | e
  ·subst e;rw[fY] at h;simp at h
  exact e
 obtain ⟨h1,h2,h3⟩:=mJ hB hn
 rcases dN m with e | e
 ·omega
 obtain ⟨g1,g2,g3⟩:=mJ hB e
 have:=nR hB (show (aZ B m).length<=(aZ B n).length-1 by omega)
 omega
theorem aPu {B:Nat} (hB:2<=B) {a b:List Int} (ha:InB B a) (hb:InB B b) (hl:a.length=b.length) {i:Nat} (hi:i<a.length) (heq:∀j,i<j->j<a.length->a.getD j 0=b.getD j 0) (hlt:a.getD i 0<b.getD i 0):valB B a<valB B b:=by
 have e1:valB B a=valN B a i+(B:Int)^i*valB B (a.drop i):=by
  rw[qO B a i (by omega)]
  have:=mZ (B:=B) (a.drop i) (a.take i)
  rw[gK,bA,cI (by omega)] at this
  exact this
 have e2:valB B b=valN B b i+(B:Int)^i*valB B (b.drop i):=by
  rw[qO B b i (by omega)]
  have:=mZ (B:=B) (b.drop i) (b.take i)
  rw[gK,bA,cI (by omega)] at this
  exact this
 have e3:a.drop (i+1)=b.drop (i+1):=by
  refine eD (by simp[hl]) fun j h1 h2=>?_
  rw[sC,sC]
  rw[dR] at h1
  have:=heq (i+1+j) (by omega) (by omega)
  simpa [aB,show i+1+j<a.length by omega,show i+1+j<b.length by omega] using this
 rw[fO a i hi] at e1
 rw[fO b i (by omega),<- e3] at e2
 simp only[valB] at e1 e2
 have v1:valN B a i<(B:Int)^i:=by
  rw[qO B a i (by omega)]
  have:=sI (B:=B) (l:=a.take i) (fun x hx=>ha x (dD hx))
  rwa [bA,cI (by omega)] at this
 have v2:0<=valN B b i:=by
  rw[qO B b i (by omega)]
  exact eZ (fun x hx=>hb x (dD hx))
 have h1:(B:Int)^i*(a.getD i 0+1)<=(B:Int)^i*b.getD i 0:=aY (by omega) (dQ (mA hB i))
 rw[cH,eF] at h1
 rw[cH] at e1 e2
 omega
theorem tE {a b:List Int} (hl:a.length=b.length) (h:∀j,j<a.length->a.getD j 0=b.getD j 0):a=b:=by
 refine eD hl fun j h1 h2=>?_
 have:=h j h1
 simpa [aB,h1,h2] using this
end IB
end
section
namespace IB
def eP (B:Nat) (u v:List Int) (j:Nat) (q:Int):Nat->List Int × Int
 | 0=>(u,0)
 | k+1=>
  let n:=(eP B u v j q k).1.getD (j+k) 0-(eP B u v j q k).2-q*v.getD k 0
  let c:=if n<0 then (-n+B-1)/B else 0
  ((eP B u v j q k).1.set (j+k) (n+c*B),c)
theorem oO {B:Nat} (hB:2<=B) {u v:List Int} (hu:InB B u) (hv:InB B v) {j:Nat} {q:Int} (hq:0<=q):∀k,j+k<=u.length->(eP B u v j q k).1.length=u.length/\InB B (eP B u v j q k).1/\
  (0<=(eP B u v j q k).2/\(eP B u v j q k).2<=q+1)/\valB B (eP B u v j q k).1-(B:Int)^ (j+k)*(eP B u v j q k).2=valB B u-(B:Int)^j*(q*valN B v k)/\
  (∀i,j+k<=i->(eP B u v j q k).1.getD i 0=u.getD i 0)/\∀i,i<j->(eP B u v j q k).1.getD i 0=u.getD i 0
 | 0,_=>⟨rfl,hu,by simp only[eP];omega,by simp[eP,valN],fun _ _=>rfl,fun _ _=>rfl⟩
 | k+1,hk=>by
  obtain ⟨h1,h2,h3,h4,h5,h6⟩:=oO hB hu hv (j:=j) hq k (by omega)
  have g1:=hv.getD0 (by omega) k
  have g2:=h2.getD0 (by omega) (j+k)
  simp only[eP]
  generalize (eP B u v j q k).1=o at h1 h2 h4 h5 h6 g2 ⊢
  generalize (eP B u v j q k).2=c at h3 h4 ⊢
  have hp0:0<=q*v.getD k 0:=eC hq g1.1
  have hp1:q*v.getD k 0<=q*((B:Int)-1):=aY (by omega) hq
  rw[fS,eF] at hp1
  obtain ⟨n,hn⟩:∃n,o.getD (j+k) 0-c-q*v.getD k 0=n:=⟨_,rfl⟩
  rw[hn]
  obtain ⟨d,hd⟩:∃d,(if n<0 then (-n+(B:Int)-1)/B else 0)=d:=⟨_,rfl⟩
  rw[hd]
  have hdd:0<=d/\d<=q+1/\0<=n+d*B/\n+d*B<B:=by
   by_cases hneg:n<0
   ·rw[aD hneg] at hd
    have e1:=gJ (-n+(B:Int)-1) B
    have e2:=gE (-n+(B:Int)-1) (show (B:Int)≠0 by omega)
    have e3:=dX (-n+(B:Int)-1) (show 0<(B:Int) by omega)
    have e4:0<=(-n+(B:Int)-1)/B:=eA (by omega) (by omega)
    have e5:(-n+(B:Int)-1)/B<q+2:=fF (by omega) (by rw[jT];omega)
    rw[hd] at e1 e4 e5
    rw[cB] at e1
    exact ⟨e4,by omega,by omega,by omega⟩
   rw[aC hneg] at hd
   subst hd
   rw[Int.zero_mul]
   omega
  refine ⟨by rw[cV,h1],aBm h2 _ hdd.2.2,⟨hdd.1,hdd.2.1⟩,?_,fun i hi=>?_,fun i hi=>?_⟩
  ·rw[aAf _ _ _ (by omega),valN,<- iS,gC]
   have e1:q*(valN B v k+(B:Int)^k*v.getD k 0)=q*valN B v k+(B:Int)^k*(q*v.getD k 0):=by
    rw[cH,<- cO,<- cO,cB q ((B:Int)^k)]
   have e2:(B:Int)^j*((B:Int)^k*(q*v.getD k 0))=(B:Int)^ (j+k)*(q*v.getD k 0):=by rw[<- cO,sB]
   rw[e1,cH,e2,cO]
   have e3:(B:Int)^ (j+k)*(n+d*B-o.getD (j+k) 0)-(B:Int)^ (j+k)*((B:Int)*d)= -((B:Int)^ (j+k)*(q*v.getD k 0))-(B:Int)^ (j+k)*c:=by
    rw[<- fS,<- wH,<- fS]
    congr 1
    rw[cB d]
    omega
   omega
  ·rw[mP _ _ _ (by omega),aC (by omega),h5 i (by omega)]
  rw[mP _ _ _ (by omega),aC (by omega),h6 i hi]
theorem aPv {B:Nat} (hB:2<=B):∀ {a b:List Int},InB B a->InB B b->a.length=b.length->valB B a=valB B b->a=b
 | [],[],_,_,_,_=>rfl
 | x::r,y::s,ha,hb,hl,hv=>by
  obtain ⟨a1,a2⟩:=InB.cons.1 ha
  obtain ⟨b1,b2⟩:=InB.cons.1 hb
  simp only[valB] at hv
  have e1:x=y:=by
   have h1:(x+(B:Int)*valB B r)%B=x:=by rw[Int.add_mul_emod_self_left,Int.emod_eq_of_lt a1.1 a1.2]
   have h2:(y+(B:Int)*valB B s)%B=y:=by rw[Int.add_mul_emod_self_left,Int.emod_eq_of_lt b1.1 b1.2]
   rw[<- h1,<- h2,hv]
  subst e1
  have e2:valB B r=valB B s:=by
   have:(B:Int)*valB B r=B*valB B s:=by omega
   exact Int.eq_of_mul_eq_mul_left (by omega) this
  rw[aPv hB a2 b2 (by simpa using hl) e2]
 | [],_:: _,_,_,hl,_=>by simp at hl
 | _:: _,[],_,_,hl,_=>by simp at hl
theorem aQ9 {B V W v1 top P Q:Int} (hP:0<P) (hv1:0<v1) (hV:v1*P<=V) (hW:W<(top+1)*P) (hQ0:0<=Q) (hQ:Q*V<=W):Q<=top/v1:=by
 rw[kU hv1]
 have h1:Q*(v1*P)<=Q*V:=aY hV hQ0
 rw[<- cO] at h1
 have h2:(Q*v1)*P<(top+1)*P:=by omega
 have:=mD h2 (dQ hP)
 omega
theorem aUn {B V W v1 v2 u2 top q r P Q:Int} (hP:0<P) (hq:0<=q) (hB:0<=B) (hV:(v1*B+v2)*P<=V) (hV0:0<=V) (hW:W<(top*B+u2+1)*P) (htop:top=q*v1+r) (hbig:r*B+u2<q*v2) (hQ:Q*V<=W):Q<=q-1:=by
 apply aL
 intro hn
 have hle:q<=Q:=by omega
 have h1:q*V<=Q*V:=bY hle hV0
 have h2:q*((v1*B+v2)*P)<=q*V:=aY hV hq
 rw[<- cO] at h2
 have h3:(q*(v1*B+v2))*P<(top*B+u2+1)*P:=by omega
 have h4:=mD h3 (dQ hP)
 rw[cH,<- cO,htop,jT] at h4
 omega
end IB
end
section
namespace IB
theorem aBp {B:Nat} (hB:2<=B) {x:Int} (hx:0<=x) {b:List Int} (hb:InB B b) {i:Nat} {out:List Int} (ho:InB B out):∀k,i+k<=out.length->(mulK B x b i out k).1.length=out.length/\InB B (mulK B x b i out k).1/\
  (0<=(mulK B x b i out k).2/\(mulK B x b i out k).2<=x)/\valB B (mulK B x b i out k).1+(B:Int)^ (i+k)*(mulK B x b i out k).2=valB B out+(B:Int)^i*(x*valN B b k)/\
  (∀j,i+k<=j->(mulK B x b i out k).1.getD j 0=out.getD j 0)/\∀j,j<i->(mulK B x b i out k).1.getD j 0=out.getD j 0
 | 0,_=>⟨rfl,ho,by simp only[mulK];omega,by simp[mulK,valN],fun _ _=>rfl,fun _ _=>rfl⟩
 | k+1,hk=>by
  obtain ⟨h1,h2,h3,h4,h5,h6⟩:=aBp hB hx hb (i:=i) ho k (by omega)
  have g1:=hb.getD0 (by omega) k
  have g2:=h2.getD0 (by omega) (i+k)
  simp only[mulK]
  generalize (mulK B x b i out k).1=o at h1 h2 h4 h5 h6 g2 ⊢
  generalize (mulK B x b i out k).2=c at h3 h4 ⊢
  have hp0:0<=x*b.getD k 0:=eC hx g1.1
  have hp1:x*b.getD k 0<=x*((B:Int)-1):=aY (by omega) hx
  rw[fS,eF] at hp1
  have hm:=gE (o.getD (i+k) 0+x*b.getD k 0+c) (show (B:Int)≠0 by omega)
  have hm2:=dX (o.getD (i+k) 0+x*b.getD k 0+c) (show 0<(B:Int) by omega)
  have hd:=gJ (o.getD (i+k) 0+x*b.getD k 0+c) B
  have hd0:0<=(o.getD (i+k) 0+x*b.getD k 0+c)/B:=eA (by omega) (by omega)
  have hd1:(o.getD (i+k) 0+x*b.getD k 0+c)/B<x+1:=fF (by omega) (by rw[jT];omega)
  generalize (o.getD (i+k) 0+x*b.getD k 0+c)%B=m at hm hm2 hd ⊢
  generalize (o.getD (i+k) 0+x*b.getD k 0+c)/B=d at hd hd0 hd1 ⊢
  refine ⟨by rw[cV,h1],aBm h2 _ ⟨hm,hm2⟩,⟨hd0,by omega⟩,?_,fun j hj=>?_,fun j hj=>?_⟩
  ·rw[aAf _ _ _ (by omega),valN,<- iS,gC]
   have e1:x*(valN B b k+(B:Int)^k*b.getD k 0)=x*valN B b k+(B:Int)^k*(x*b.getD k 0):=by
    rw[cH,<- cO,<- cO,cB x ((B:Int)^k)]
   have e2:(B:Int)^i*((B:Int)^k*(x*b.getD k 0))=(B:Int)^ (i+k)*(x*b.getD k 0):=by rw[<- cO,sB]
   rw[e1,cH,e2,cO]
   have e3:(B:Int)^ (i+k)*(m-o.getD (i+k) 0)+(B:Int)^ (i+k)*((B:Int)*d)=(B:Int)^ (i+k)*(x*b.getD k 0)+(B:Int)^ (i+k)*c:=by
    rw[<- cH,<- cH]
    congr 1
    omega
   omega
  ·rw[mP _ _ _ (by omega),aC (by omega),h5 j (by omega)]
  rw[mP _ _ _ (by omega),aC (by omega),h6 j hj]
theorem aNt {B:Nat} (hB:2<=B) {u v:List Int} (hu:InB B u) (hv:InB B v) {j:Nat} {q:Int} (hq:0<=q) {k:Nat} (hk:j+k<=u.length):(mulK B q v j (eP B u v j q k).1 k).1=u:=by
 obtain ⟨h1,h2,h3,h4,h5,h6⟩:=oO hB hu hv (j:=j) hq k hk
 generalize (eP B u v j q k).2=c at h3 h4
 obtain ⟨g1,g2,g3,g4,g5,g6⟩:=aBp hB hq hv (i:=j) h2 k (by omega)
 generalize (mulK B q v j (eP B u v j q k).1 k).2=c' at g3 g4
 generalize (mulK B q v j (eP B u v j q k).1 k).1=w at g1 g2 g4 g5 g6 ⊢
 generalize (eP B u v j q k).1=u1 at h1 h2 h4 h5 h6 g1 g4 g5 g6
 -- outside the window nothing has changed; within it the values agree but for a multiple
 have e0:valB B w+(B:Int)^ (j+k)*c'=valB B u+(B:Int)^ (j+k)*c:=by omega
 have sp:∀l:List Int,l.length=u.length->valB B l=valB B (l.take (j+k))+(B:Int)^ (j+k)*valB B (l.drop (j+k)):=fun l hl=>by
  have:=mZ (B:=B) (l.drop (j+k)) (l.take (j+k))
  rw[gK,bA,cI (by omega)] at this
  exact this
 have ed:w.drop (j+k)=u.drop (j+k):=by
  refine tE (by simp[g1,h1]) fun i hi=>?_
  have:=g5 (j+k+i) (by omega)
  rw[h5 _ (by omega)] at this
  simpa [aB,aT] using this
 have s1:=sp w (by omega)
 have s2:=sp u rfl
 rw[ed] at s1
 have b1:=sI (B:=B) (l:=w.take (j+k)) (fun x hx=>g2 x (dD hx))
 have b2:=sI (B:=B) (l:=u.take (j+k)) (fun x hx=>hu x (dD hx))
 have b3:=eZ (B:=B) (l:=w.take (j+k)) (fun x hx=>g2 x (dD hx))
 have b4:=eZ (B:=B) (l:=u.take (j+k)) (fun x hx=>hu x (dD hx))
 rw[bA,cI (by omega)] at b1 b2
 have hP:=mA hB (j+k)
 have ec:c'=c:=by
  rcases Int.lt_trichotomy c' c with h | h | h
  ·have:(B:Int)^ (j+k)*(c'+1)<=(B:Int)^ (j+k)*c:=aY (by omega) (dQ hP)
   rw[cH,eF] at this
   omega
  ·exact h
  have:(B:Int)^ (j+k)*(c+1)<=(B:Int)^ (j+k)*c':=aY (by omega) (dQ hP)
  rw[cH,eF] at this
  omega
 subst ec
 exact aPv hB g2 hu (by omega) (by omega)
end IB
end
section
namespace IB
theorem nI {B:Nat} (l:List Int) (j:Nat) (hj:j<=l.length):valB B l=valB B (l.take j)+(B:Int)^j*valB B (l.drop j):=by
 have:=mZ (B:=B) (l.drop j) (l.take j)
 rw[gK,bA,cI hj] at this
 exact this
theorem uE {B:Nat} {l:List Int} (h:InB B l) (j:Nat):InB B (l.take j):=fun x hx=>h x (dD hx)
theorem qD {B:Nat} {l:List Int} (h:InB B l) (j:Nat):InB B (l.drop j):=fun x hx=>h x (pO hx)
theorem aHa {B:Nat} (hB:2<=B) {l:List Int} (h:InB B l) {n:Nat} (hv:valB B l<(B:Int)^n) (i:Nat) (hi:n<=i):l.getD i 0=0:=by
 by_cases hil:i<l.length
 ·have e1:=nI (B:=B) l i (by omega)
  rw[fO l i hil] at e1
  simp only[valB] at e1
  have a1:=eZ (uE h i)
  have a2:=eZ (qD h (i+1))
  have a3:=(h.get hil).1
  have a4:0<=(B:Int)*valB B (l.drop (i+1)):=eC (by omega) a2
  have hp:=nR hB hi
  apply aL
  intro hne
  have:(B:Int)^i*1<=(B:Int)^i*(l.getD i 0+(B:Int)*valB B (l.drop (i+1))):=aY (by omega) (dQ (mA hB i))
  omega
 exact aAg l i (by omega)
theorem aPw {B:Nat} (hB:2<=B) {l:List Int} (h:InB B l) {n:Nat} (hz:∀i,n<=i->l.getD i 0=0):valB B l<(B:Int)^n:=by
 by_cases hn:n<=l.length
 ·have e1:=nI (B:=B) l n hn
  have e2:valB B (l.drop n)=0:=by
   have:l.drop n=List.replicate (l.length-n) 0:=by
    refine tE (by simp) fun j hj=>?_
    have:=hz (n+j) (by omega)
    rw[dR] at hj
    have hj':n+j<l.length:=by omega
    simpa [aB,aT,bR,hj,hj'] using this
   rw[this,tB]
  rw[e2,eO,gO] at e1
  rw[e1]
  have:=sI (uE h n)
  rwa [bA,cI hn] at this
 exact rJ hB h (by omega)
theorem aAh (l:List Int) (j i:Nat):(l.drop j).getD i 0=l.getD (j+i) 0:=by simp[aB,aT]
theorem aLq {B:Nat} (hB:2<=B) {u v:List Int} (hu:InB B u) (hv:InB B v) {j:Nat} {q:Int} (hq:0<=q) (hk:j+(v.length+1)<=u.length) (hz:∀i,j+(v.length+1)<=i->u.getD i 0=0):
  ((eP B u v j q (v.length+1)).2=0↔q*valB B v<=valB B (u.drop j))/\
  ((eP B u v j q (v.length+1)).2=0->valB B ((eP B u v j q (v.length+1)).1.drop j)=valB B (u.drop j)-q*valB B v):=by
 obtain ⟨h1,h2,h3,h4,h5,h6⟩:=oO hB hu hv (j:=j) hq (v.length+1) hk
 rw[nQ _ _ _ (by omega)] at h4
 generalize (eP B u v j q (v.length+1)).2=c at h3 h4 ⊢
 generalize (eP B u v j q (v.length+1)).1=w at h1 h2 h4 h5 h6 ⊢
 have s1:=nI (B:=B) w j (by omega)
 have s2:=nI (B:=B) u j (by omega)
 have et:w.take j=u.take j:=by
  refine tE (by simp[h1]) fun i hi=>?_
  rw[bA] at hi
  have:=h6 i (by omega)
  simpa [aB,show i<j by omega,aJ] using this
 rw[et] at s1
 have hP:=mA hB j
 have key:valB B (w.drop j)-(B:Int)^ (v.length+1)*c=valB B (u.drop j)-q*valB B v:=by
  have e:(B:Int)^j*(valB B (w.drop j)-(B:Int)^ (v.length+1)*c)=(B:Int)^j*(valB B (u.drop j)-q*valB B v):=by
   rw[fS,fS,<- cO,<- sB]
   omega
  exact Int.eq_of_mul_eq_mul_left (by omega) e
 have b1:=eZ (qD h2 j)
 have b2:valB B (w.drop j)<(B:Int)^ (v.length+1):=aPw hB (qD h2 j) fun i hi=>by
  rw[aAh,h5 _ (by omega),hz _ (by omega)]
 have hP2:=mA hB (v.length+1)
 refine ⟨⟨fun hc=>?_,fun hle=>?_⟩,fun hc=>?_⟩
 ·rw[hc,eO] at key;omega
 ·apply aL
  intro hne
  have:(B:Int)^ (v.length+1)*1<=(B:Int)^ (v.length+1)*c:=aY (by omega) (dQ hP2)
  omega
 rw[hc,eO] at key;omega
def fZ (B:Nat) (u v:List Int) (m:Nat):Nat->List Int × List Int
 | 0=>(u,List.replicate m 0)
 | s+1=>((eP B (fZ B u v m s).1 v (m-1-s) (valB B ((fZ B u v m s).1.drop (m-1-s))/valB B v) (v.length+1)).1,(fZ B u v m s).2.set (m-1-s) (valB B ((fZ B u v m s).1.drop (m-1-s))/valB B v))
theorem uF {B:Nat} (hB:2<=B) {u v:List Int} (hu:InB B u) (hv:InB B v) (hV:0<valB B v) {m:Nat} (hm:m+v.length=u.length) (h0:valB B (u.drop m)<valB B v):∀s,s<=m->
  (fZ B u v m s).1.length=u.length/\InB B (fZ B u v m s).1/\(fZ B u v m s).2.length=m/\InB B (fZ B u v m s).2/\valB B ((fZ B u v m s).1.drop (m-s))<valB B v/\
  valB B u=valB B (fZ B u v m s).1+(B:Int)^ (m-s)*(valB B v*valB B ((fZ B u v m s).2.drop (m-s)))
 | 0,_=>by
  refine ⟨rfl,hu,by simp[fZ],fun x hx=>?_,h0,?_⟩
  ·rw[(kT.1 hx).2];omega
  simp only[fZ]
  rw[@eX _ (List.replicate m (0:Int)) _ (by simp)];simp[valB]
 | s+1,hs=>by
  obtain ⟨h1,h2,h3,h4,h5,h6⟩:=uF hB hu hv hV hm h0 s (by omega)
  obtain ⟨j,hj⟩:∃j,m-1-s=j:=⟨_,rfl⟩
  have e1:m-s=j+1:=by omega
  have e2:m-(s+1)=j:=by omega
  simp only[fZ]
  rw[hj,e2]
  rw[e1] at h5 h6
  generalize (fZ B u v m s).1=w at h1 h2 h5 h6 ⊢
  generalize (fZ B u v m s).2=p at h3 h4 h6 ⊢
  have hw:valB B (w.drop j)=w.getD j 0+(B:Int)*valB B (w.drop (j+1)):=by rw[fO w j (by omega)];rfl
  have g1:=h2.get (show j<w.length by omega)
  have hVB:=sI hv
  have hz:∀i,j+(v.length+1)<=i->w.getD i 0=0:=fun i hi=>by
   have:=aHa hB (qD h2 (j+1)) (n:=v.length) (by omega) (i-(j+1)) (by omega)
   rw[aAh] at this
   rwa [show j+1+(i-(j+1))=i by omega] at this
  have hW0:=eZ (qD h2 j)
  obtain ⟨W,hW⟩:∃W,valB B (w.drop j)=W:=⟨_,rfl⟩
  obtain ⟨Q,hQ⟩:∃Q,W/valB B v=Q:=⟨_,rfl⟩
  have hQ0:0<=Q:=by rw[<- hQ];exact eA (by omega) (by omega)
  have hQV:Q*valB B v<=W:=by rw[<- hQ];exact vA _ (by omega)
  have hWB:W<(B:Int)*valB B v:=by
   have:(B:Int)*(valB B (w.drop (j+1))+1)<=B*valB B v:=aY (by omega) (by omega)
   rw[cH,eF] at this
   omega
  have hQB:Q<B:=by rw[<- hQ];exact fF hV hWB
  have hWm:=gJ W (valB B v)
  have hWm0:=dX W hV
  rw[hQ,cB] at hWm
  rw[hW,hQ]
  obtain ⟨t1,t2,t3,t4,t5,t6⟩:=oO hB h2 hv (j:=j) hQ0 (v.length+1) (by omega)
  obtain ⟨i1,i2⟩:=aLq hB h2 hv (j:=j) hQ0 (by omega) hz
  rw[hW] at i1 i2
  have hc:=i1.2 hQV
  have hr:=i2 hc
  rw[hc,eO,Int.sub_zero,nQ _ _ _ (by omega)] at t4
  refine ⟨by rw[t1,h1],t2,by rw[cV,h3],aBm h4 _ ⟨hQ0,hQB⟩,by omega,?_⟩
  have e3:(p.set j Q).drop j=Q::p.drop (j+1):=by
   rw[fO _ _ (by rw[cV];omega),mP _ _ _ (by omega),aD rfl,List.drop_set_of_lt (by omega)]
  rw[e3,h6,t4]
  simp only[valB]
  rw[cH (valB B v),cH,gC,cB (valB B v) Q,cO ((B:Int)^j) (B:Int),Int.mul_left_comm (valB B v) (B:Int)]
  omega
theorem aRa {B:Nat} (hB:2<=B) {u v:List Int} (hu:InB B u) (hv:InB B v) (hV:0<valB B v) {m:Nat} (hm:m+v.length=u.length) (h0:valB B (u.drop m)<valB B v):
  jC (fZ B u v m m).2=aZ B (valB B u/valB B v).toNat/\jC (fZ B u v m m).1=aZ B (valB B u%valB B v).toNat:=by
 obtain ⟨h1,h2,h3,h4,h5,h6⟩:=uF hB hu hv hV hm h0 m (aM _)
 rw[kP,iZ] at h5 h6
 rw[Int.pow_zero,gF] at h6
 have h7:valB B u/valB B v=valB B (fZ B u v m m).2/\valB B u%valB B v=valB B (fZ B u v m m).1:=by
  rw[wJ hV]
  exact ⟨h6.symm,eZ h2,h5⟩
 exact ⟨by rw[kN hB h4,h7.1],by rw[kN hB h2,h7.2]⟩
end IB
end
section
namespace IB
def estF (B v1 v2 u2:Int):Nat->Int->Int->Int
 | 0,q,_=>q
 | f+1,q,r=>if B<=q\/(r<B/\r*B+u2<q*v2) then (if B<=r+v1 then q-1 else estF B v1 v2 u2 f (q-1) (r+v1)) else q
theorem aPx {B V W v1 v2 u2 top P Q:Int} (hP:0<P) (hB:0<=B) (hV:(v1*B+v2)*P<=V) (hV0:0<=V) (hW:W<(top*B+u2+1)*P) (hQB:Q<B) (hQ0:0<=Q) (hQ:Q*V<=W):∀(f:Nat) (q r:Int),top=q*v1+r->Q<=q->Q<=estF B v1 v2 u2 f q r/\estF B v1 v2 u2 f q r<=q
 | 0,q,r,_,hq=>⟨hq,gT _⟩
 | f+1,q,r,ht,hq=>by
  simp only[estF]
  by_cases hc:B<=q\/(r<B/\r*B+u2<q*v2)
  ·rw[aD hc]
   have hq1:Q<=q-1:=by
    rcases hc with h | ⟨_,h⟩
    ·omega
    exact aUn hP (by omega) hB hV hV0 hW ht h hQ
   by_cases h2:B<=r+v1
   ·rw[aD h2];exact ⟨hq1,by omega⟩
   rw[aC h2]
   obtain ⟨g1,g2⟩:=aPx hP hB hV hV0 hW hQB hQ0 hQ f (q-1) (r+v1) (by rw[wI,gF];omega) hq1
   exact ⟨g1,by omega⟩
  rw[aC hc];exact ⟨hq,gT _⟩
theorem aNu {B t f:Int} (ht:1<=t) (htB:t<B) (hf:f=B/(t+1)):1<=f/\f*(t+1)<=B/\B<=4*(f*t):=by
 have h1:f*(t+1)<=B:=by rw[hf];exact vA _ (by omega)
 have h2:B<(f+1)*(t+1):=by rw[hf];exact Int.lt_ediv_add_one_mul_self _ (by omega)
 have h3:1<=f:=by rw[hf,kU (by omega)];omega
 refine ⟨h3,h1,?_⟩
 rw[cH,eF] at h1
 rw[jT,gF,cH,eF] at h2
 -- B < f t + f + t + 1 and f, t >= 1, so that f + t <= f t + 1
 have h4:0<=(f-1)*(t-1):=eC (by omega) (by omega)
 rw[wI,fS,eF,gF] at h4
 have h5:1*1<=f*t:=Int.mul_le_mul h3 ht (by omega) (by omega)
 omega
end IB
end
section
namespace IB
open Go.Lib
def eU (c:UInt8):Prop:=48<=c.toNat/\c.toNat<=57
instance (c:UInt8):Decidable (eU c):=by unfold eU;exact inferInstance
def cD (s:Bx):Nat:=s.foldl (fun n c=>10*n+(c.toNat-48)) 0
theorem nA (s:Bx) (c:UInt8):cD (s++ [c])=10*cD s+(c.toNat-48):=by simp[cD]
theorem pH {d:Nat} (h:d<10):(UInt8.ofNat (48+d)).toNat=48+d:=by
 rw[rP];omega
theorem aLr {c:UInt8} (h:eU c):UInt8.ofNat (48+(c.toNat-48))=c:=by
 obtain ⟨h1,h2⟩:=h
 rw[show 48+(c.toNat-48)=c.toNat by omega]
 simp
theorem iL {n:Nat} (h:n<10):decDigits n= [UInt8.ofNat (48+n)]:=decDigits_one h
theorem uG {n:Nat} (h:¬n<10):decDigits n=decDigits (n/10)++ [UInt8.ofNat (48+n%10)]:=by rw[decDigits,xH h]
theorem kZ:∀n:Nat,cD (decDigits n)=n:=by
 intro n
 induction n using Nat.strongRecOn with
 | _ n ih=>
  by_cases h:n<10
  ·rw[iL h]
   show cD ([]++ [_])=n
   rw[nA,pH h];simp[cD]
  rw[uG h,nA,ih _ (by omega),pH (by omega)];omega
theorem uH:∀(n:Nat) (c:UInt8),c∈decDigits n->eU c:=by
 intro n
 induction n using Nat.strongRecOn with
 | _ n ih=>
  intro c hc
  by_cases h:n<10
  ·rw[iL h] at hc
   have:=bC.1 hc
   subst this
   unfold eU
   rw[pH h];omega
  rw[uG h] at hc
  rcases bK.1 hc with hc | hc
  ·exact ih _ (by omega) c hc
  have:=bC.1 hc
  subst this
  unfold eU
  rw[pH (by omega)];omega
theorem aJg (n:Nat):decDigits n≠ []:=by
 by_cases h:n<10
 ·rw[iL h];simp
 rw[uG h];simp
theorem aLs:∀n:Nat,0<n->(decDigits n).headD 0≠48:=by
 intro n
 induction n using Nat.strongRecOn with
 | _ n ih=>
  intro hn
  by_cases h:n<10
  ·rw[iL h]
   intro e
   have:=aO UInt8.toNat e
   simp only[uZ] at this
   rw[pH h] at this
   have e2:(48:UInt8).toNat=48:=rfl
   omega
  rw[uG h]
  have:=ih (n/10) (by omega) (by omega)
  cases hd:decDigits (n/10) with
  | nil=>exact (aJg _ hd).elim
  | cons x r=>rw[hd] at this;exact this
theorem xD:∀(k:Nat) (s:Bx),s.length=k->s≠ []->(∀c∈s,eU c)->(s.length=1\/s.headD 0≠48)->decDigits (cD s)=s:=by
 intro k
 induction k with
 | zero=>intro s h1 h2;exact (h2 (iC.1 h1)).elim
 | succ k ih=>
  intro s h1 h2 h3 h4
  obtain ⟨t,c,rfl⟩:∃t c,s=t++ [c]:=⟨s.dropLast,s.getLast h2,(iG h2).symm⟩
  have hc:=h3 c (by simp)
  have hc':=hc
  obtain ⟨c1,c2⟩:=hc'
  rw[nA]
  by_cases ht:t= []
  ·subst ht
   have e:cD []=0:=rfl
   rw[e,iL (by omega),Nat.mul_zero,dB,aLr hc];rfl
  have hlen:t.length=k:=by simpa using h1
  have hpos:0<t.length:=cQ.2 ht
  have hhd:t.headD 0≠48:=by
   rcases h4 with h | h
   ·simp at h;exact (ht h).elim
   cases t with
   | nil=>exact (ht rfl).elim
   | cons x r=>exact h
  have e:=ih t hlen ht (fun c hc=>h3 c (pL _ hc)) (.inr hhd)
  have hm:0<cD t:=by
   rcases dN (cD t) with h | h
   ·rw[h,iL (by omega)] at e
    rw[<- e] at hhd
    exact (hhd rfl).elim
   exact h
  rw[uG (by omega),show (10*cD t+(c.toNat-48))/10=cD t by omega,e,show (10*cD t+(c.toNat-48))%10=c.toNat-48 by omega,aLr hc]
theorem aPy {m n:Nat} (h:decDigits m=decDigits n):m=n:=by rw[<- kZ m,h,kZ]
theorem rK {m n:Int} (h:itoa m=itoa n):m=n:=by
 have key:∀(a b:Nat),45::decDigits a≠decDigits b:=fun a b e=>by
  have:=uH b 45 (by rw[<- e];simp)
  have e2:(45:UInt8).toNat=45:=rfl
  unfold eU at this
  omega
 unfold itoa at h
 split at h
 ·split at h
  ·have:=aPy (List.cons.inj h).2;omega
  exact (key _ _ h).elim
 split at h
 ·exact (key _ _ h.symm).elim
 have:=aPy h;omega
end IB
end
section
namespace IB
open Go.Lib
def digs (s:Bx):Bx:=if s.headD 0=45 then s.tail else s
def valI (s:Bx):Int:=if s.headD 0=45 then -(cD s.tail:Int) else cD s
def form (s:Bx):Prop:=digs s≠ []/\((digs s).headD 0≠48\/s= [48])/\∀c∈digs s,eU c
noncomputable instance (s:Bx):Decidable (form s):=Cp
noncomputable def chkI (s:Bx):Int:=if form s then (if 300<(digs s).length then 4 else 0) else 11
theorem oL (n:Int):(itoa n).headD 0=45↔n<0:=by
 unfold itoa
 split
 ·rename_i h;exact ⟨fun _=>h,fun _=>rfl⟩
 rename_i h
 refine ⟨fun e=>?_,fun h'=>(h h').elim⟩
 exfalso
 cases hd:decDigits n.toNat with
 | nil=>exact aJg _ hd
 | cons x r=>
  rw[hd] at e
  have:=uH n.toNat x (by rw[hd];simp)
  simp only[uZ] at e
  subst e
  have e2:(45:UInt8).toNat=45:=rfl
  unfold eU at this
  omega
theorem gM (n:Int):digs (itoa n)=decDigits n.natAbs:=by
 unfold digs
 by_cases h:n<0
 ·rw[aD ((oL n).2 h)];unfold itoa;rw[aD h];rfl
 rw[aC (fun e=>h ((oL n).1 e))];unfold itoa;rw[aC h];congr 1;omega
theorem dP (n:Int):valI (itoa n)=n:=by
 unfold valI
 by_cases h:n<0
 ·rw[aD ((oL n).2 h)];unfold itoa;rw[aD h]
  simp only[List.tail_cons]
  rw[kZ];omega
 rw[aC (fun e=>h ((oL n).1 e))];unfold itoa;rw[aC h,kZ];omega
theorem oM (n:Int):form (itoa n):=by
 refine ⟨by rw[gM];exact aJg _,?_,fun c hc=>by rw[gM] at hc;exact uH _ c hc⟩
 rw[gM]
 by_cases h:n=0
 ·right;subst h;exact iL (by omega)
 left;exact aLs _ (by omega)
theorem aAd {s:Bx} (h:form s):s=itoa (valI s):=by
 obtain ⟨h1,h2,h3⟩:=h
 unfold digs at h1 h2 h3
 unfold valI
 by_cases hm:s.headD 0=45
 ·rw[aD hm] at h1 h2 h3 ⊢
  have hs:s=45::s.tail:=by
   cases s with
   | nil=>exact (h1 rfl).elim
   | cons x r=>simp only[uZ] at hm;subst hm;rfl
  have hne:¬s= [48]:=fun e=>by rw[e] at hm;cases hm
  have hh:s.tail.headD 0≠48:=by
   rcases h2 with h | h
   ·exact h
   exact (hne h).elim
  have hd:=xD _ s.tail rfl h1 h3 (.inr hh)
  have hpos:0<cD s.tail:=by
   rcases dN (cD s.tail) with h | h
   ·rw[h] at hd
    rw[<- hd] at hh
    exact (hh (by rw[iL (by omega)];rfl)).elim
   exact h
  unfold itoa
  rw[aD (by omega),show (-(cD s.tail:Int)).natAbs=cD s.tail by omega,hd]
  exact hs
 rw[aC hm] at h1 h2 h3 ⊢
 have hd:=xD _ s rfl h1 h3 (by
  rcases h2 with h | h
  ·exact .inr h
  left;rw[h];rfl)
 unfold itoa
 rw[aC (by omega),aP,hd]
theorem aPq (q:Nat) (hq:0<q):∀(k r:Nat),r<10^ (k+1)->decDigits (q*10^ (k+1)+r)=decDigits q++(List.replicate (k+1-(decDigits r).length) 48++decDigits r)
 | 0,r,hr=>by
  have hr:r<10:=by simpa using hr
  rw[uG (by simp;omega),iL hr]
  simp only[dB,Nat.pow_one,cG,kP,List.replicate_zero,iE]
  rw[show (q*10+r)/10=q by omega,show (q*10+r)%10=r by omega]
 | k+1,r,hr=>by
  have hp:0<10^ (k+1):=Nat.pow_pos (by omega)
  have hb:q*10^ (k+1+1)=q*10^ (k+1)*10:=by rw[jR,pB]
  have h1:q*10^ (k+1+1)+r=10*(q*10^ (k+1)+r/10)+r%10:=by omega
  have hm:0<q*10^ (k+1):=rZ hq hp
  rw[jR] at hr
  rw[uG (by omega),show (q*10^ (k+1+1)+r)/10=q*10^ (k+1)+r/10 by omega,show (q*10^ (k+1+1)+r)%10=r%10 by omega,aPq q hq k (r/10) (by omega)]
  by_cases h:r<10
  ·rw[iL h,show r/10=0 by omega,iL (show 0<10 by omega),fQ h]
   simp only[cG,bZ]
   congr 1
   rw[show k+1+1-1=k+1-1+1 by omega,wG]
   simp
  rw[uG (n:=r) h]
  simp only[aQ,cG,bZ]
  rw[show k+1+1-((decDigits (r/10)).length+1)=k+1-(decDigits (r/10)).length by omega]
end IB
end
section
namespace IB
open Go.Lib
theorem nO:∀(k n:Nat),n<10^ (k+1)->(decDigits n).length<=k+1
 | 0,n,h=>by rw[iL (by simpa using h)];simp
 | k+1,n,h=>by
  by_cases h10:n<10
  ·rw[iL h10];simp
  rw[jR] at h
  rw[uG h10]
  have:=nO k (n/10) (by omega)
  simp only[aQ,cG];omega
def wrK (l:List Int):Nat->Bx
 | 0=>[]
 | m+1=>wrK l m++((if 0<m then List.replicate (9-(itoa (l.getD (l.length-1-m) 0)).length) 48 else [])++itoa (l.getD (l.length-1-m) 0))
theorem aLp {l:List Int} (h:InB (10^9) l) (hne:l≠ []) (hl:l.getLast hne≠0):∀m,m<l.length->0<valB (10^9) (l.drop (l.length-1-m))/\wrK l (m+1)=decDigits (valB (10^9) (l.drop (l.length-1-m))).toNat
 | 0,hm=>by
  have e1:l.getD (l.length-1) 0=l.getLast hne:=by
   rw[List.getLast_eq_getElem,aB,aH (by omega)];rfl
  have e2:l.drop (l.length-1)= [l.getLast hne]:=by
   rw[fO l _ (by omega),e1,eX (by omega)]
  have g:=h.get (show l.length-1<l.length by omega)
  rw[e1] at g
  rw[jO,e2]
  simp only[valB,eO,gO,wrK,fJ,if_false,iE,jO]
  rw[e1]
  refine ⟨by omega,?_⟩
  unfold itoa
  rw[aC (by omega)]
 | m+1,hm=>by
  obtain ⟨h1,h2⟩:=aLp h hne hl m (by omega)
  obtain ⟨i,hi⟩:∃i,l.length-1-(m+1)=i:=⟨_,rfl⟩
  have e1:l.length-1-m=i+1:=by omega
  rw[e1] at h1 h2
  rw[hi]
  have g:=h.get (show i<l.length by omega)
  have e2:l.drop i=l.getD i 0::l.drop (i+1):=fO l i (by omega)
  rw[e2]
  simp only[valB]
  obtain ⟨v,hv⟩:=bM (dQ h1)
  obtain ⟨x,hx⟩:=bM g.1
  rw[hv] at h1 h2 ⊢
  rw[hx] at g ⊢
  have hx9:x<10^ (8+1):=by have:=g.2;omega
  have hv0:0<v:=by omega
  have e3:((x:Int)+((10^9:Nat):Int)*(v:Int))=((v*10^ (8+1)+x:Nat):Int):=by
   rw[pT,gG,cB,nW]
  refine ⟨by rw[e3];omega,?_⟩
  rw[e3,aP,aPq v hv0 8 x hx9]
  rw[aP] at h2
  have e4:itoa (x:Int)=decDigits x:=by unfold itoa;rw[aC (by omega),aP]
  rw[show wrK l (m+1+1)=wrK l (m+1)++((if 0<m+1 then List.replicate (9-(itoa (l.getD (l.length-1-(m+1)) 0)).length) 48 else [])++itoa (l.getD (l.length-1-(m+1)) 0)) from rfl,hi,hx,e4,h2,aD (by omega)]
end IB
end
section
namespace IB
open Go.Lib
theorem nat10_cons (c:UInt8) (s:Bx):cD (c::s)=(c.toNat-48)*10^s.length+cD s:=by
 refine list_snocU (fun s=>cD (c::s)=(c.toNat-48)*10^s.length+cD s) (by simp[cD]) (fun l x ih=>?_) s
 rw[<- gN,nA,nA,ih,aQ,cG,jR,Nat.mul_add,gB 10 (_* _),pB]
 omega
where
 list_snocU (P:Bx->Prop) (h0:P []) (h1:∀l x,P l->P (l++ [x])) (l:Bx):P l:=by
  have:∀n (l:Bx),l.length=n->P l:=by
   intro n
   induction n with
   | zero=>intro l hl;rw[iC.1 hl];exact h0
   | succ n ih=>
    intro l hl
    have hne:l≠ []:=fun e=>by rw[e] at hl;simp at hl
    rw[<- iG hne]
    exact h1 _ _ (ih _ (by simp[hl]))
  exact this _ l rfl
def dgt (s:Bx) (i:Nat):Int:=((s.getD (s.length-1-i) 48).toNat:Int)-48
def rdK (s:Bx) (n:Nat):Nat->List Int
 | 0=>List.replicate n 0
 | i+1=>(rdK s n i).set (i/9) ((rdK s n i).getD (i/9) 0+dgt s i*10^ (i%9))
theorem aPr {s:Bx} (h:∀c∈s,eU c) {i:Nat} (hi:i<s.length):0<=dgt s i/\dgt s i<=9/\dgt s i=(((s.getD (s.length-1-i) 48).toNat-48:Nat):Int):=by
 have e:s.getD (s.length-1-i) 48=s[s.length-1-i]:=by rw[aB,aH (by omega)];rfl
 have:=h _ (cU (show s.length-1-i<s.length by omega))
 unfold dgt
 rw[e]
 unfold eU at this
 omega
theorem aNs {s:Bx} {i:Nat} (hi:i<s.length):cD (s.drop (s.length-(i+1)))=((s.getD (s.length-1-i) 48).toNat-48)*10^i+cD (s.drop (s.length-i)):=by
 have e1:s.length-(i+1)=s.length-1-i:=by omega
 have e:s.getD (s.length-1-i) 48=s[s.length-1-i]:=by rw[aB,aH (by omega)];rfl
 rw[e1,jE (by omega),nat10_cons,e,show s.length-1-i+1=s.length-i by omega,dR,show s.length-(s.length-i)=i by omega]
theorem aE9 {s:Bx} (h:∀c∈s,eU c) {n:Nat} (hn:s.length<=9*n):∀i,i<=s.length->(rdK s n i).length=n/\InB (10^9) (rdK s n i)/\valB (10^9) (rdK s n i)=cD (s.drop (s.length-i))/\
  (∀t,i<=9*t->(rdK s n i).getD t 0=0)/\(rdK s n i).getD (i/9) 0<10^ (i%9)
 | 0,_=>by
  have hz:∀t,(List.replicate n (0:Int)).getD t 0=0:=fun t=>by rw[aB,bR];split<;>rfl
  refine ⟨by simp[rdK],fun x hx=>?_,?_,fun t _=>hz t,?_⟩
  ·rw[(kT.1 hx).2];omega
  ·simp only[rdK];rw[tB,jO,List.drop_length];rfl
  simp only[rdK];rw[hz];decide
 | i+1,hi=>by
  obtain ⟨h1,h2,h3,h4,h5⟩:=aE9 h hn i (by omega)
  obtain ⟨d1,d2,d3⟩:=aPr h (show i<s.length by omega)
  have hi9:i/9<n:=by omega
  have g:=h2.get (show i/9<(rdK s n i).length by omega)
  simp only[rdK]
  generalize rdK s n i=l at h1 h2 h3 h4 h5 g ⊢
  have hp:(0:Int)<10^ (i%9):=wE (by omega)
  have hm:dgt s i*10^ (i%9)<=9*10^ (i%9):=bY d2 (dQ hp)
  have hm0:0<=dgt s i*10^ (i%9):=eC d1 (dQ hp)
  have hp1:(10:Int)^ (i%9+1)=10*10^ (i%9):=by rw[gC,cB]
  have hlt:l.getD (i/9) 0+dgt s i*10^ (i%9)<10^ (i%9+1):=by omega
  have hle:(10:Int)^ (i%9+1)<=((10^9:Nat):Int):=by
   have:10^ (i%9+1)<=10^9:=cL (by omega) (by omega)
   exact_mod_cast this
  refine ⟨by rw[cV,h1],aBm h2 _ ⟨by omega,by omega⟩,?_,fun t ht=>?_,?_⟩
  ·rw[aAf _ _ _ (by omega),h3,aNs (by omega)]
   have e1:((10^9:Nat):Int)^ (i/9)*(dgt s i*10^ (i%9))=dgt s i*10^i:=by
    have e2:((10^9:Nat):Int)^ (i/9)=(10:Int)^ (9*(i/9)):=by
     rw[Int.pow_mul];rfl
    rw[e2,Int.mul_left_comm,<- sB,show 9*(i/9)+i%9=i by omega]
   rw[show l.getD (i/9) 0+dgt s i*10^ (i%9)-l.getD (i/9) 0=dgt s i*10^ (i%9) by omega,e1,d3]
   generalize (s.getD (s.length-1-i) 48).toNat-48=e
   rw[pT,gG,Int.natCast_pow,nW]
   rfl
  ·rw[mP _ _ _ (by omega),aC (by omega),h4 t (by omega)]
  rw[mP _ _ _ (by omega)]
  by_cases e:(i+1)/9=i/9
  ·rw[aD e,show (i+1)%9=i%9+1 by omega];exact hlt
  rw[aC e,h4 _ (by omega)]
  exact wE (by omega)
theorem aWm {s:Bx} (h:∀c∈s,eU c) {n:Nat} (hn:s.length<=9*n):jC (rdK s n s.length)=aZ (10^9) (cD s):=by
 obtain ⟨h1,h2,h3,h4,h5⟩:=aE9 h hn s.length (aM _)
 rw[kP,iZ] at h3
 rw[kN (by decide) h2,h3,aP]
end IB
end
section
namespace IB
open Go.Lib
theorem rH (s:Bx) (h:∀c∈s,eU c):cD s<10^s.length:=by
 revert h
 refine nat10_cons.list_snocU (fun s=>(∀c∈s,eU c)->cD s<10^s.length) (fun _=>by simp[cD]) (fun l x ih h=>?_) s
 have h1:=ih fun c hc=>h c (pL _ hc)
 have h2:=h x (by simp)
 unfold eU at h2
 rw[nA,aQ,cG,jR]
 omega
end IB
end
section
namespace IB
open Go.Lib
def numS (q:Rat):Bx:=if q.den=1 then itoa q.num else itoa q.num++47::decDigits q.den
def topS (s:Bx):Bx:=s.takeWhile (· != 47)
def botS (s:Bx):Bx:=s.dropWhile (· != 47)
theorem aPs (n:Int):∀c∈itoa n,c≠47:=by
 intro c hc e
 subst e
 have key:∀m:Nat,(47:UInt8) ∉ decDigits m:=fun m h=>by
  have:=uH m 47 h
  have e2:(47:UInt8).toNat=47:=rfl
  unfold eU at this
  omega
 unfold itoa at hc
 split at hc
 ·rcases bE.1 hc with h | h
  ·cases h
  exact key _ h
 exact key _ hc
theorem xZ {p:UInt8->Bool} {a b:Bx} (h:∀c∈a,p c=true):(a++b).takeWhile p=a++b.takeWhile p:=by
 induction a with
 | nil=>rfl
 | cons x r ih=>
  rw[gN,List.takeWhile_cons_of_pos (h x (by simp)),ih fun c hc=>h c (bT _ hc)];rfl
theorem yA {p:UInt8->Bool} {a b:Bx} (h:∀c∈a,p c=true):(a++b).dropWhile p=b.dropWhile p:=by
 induction a with
 | nil=>rfl
 | cons x r ih=>
  rw[gN,List.dropWhile_cons_of_pos (h x (by simp)),ih fun c hc=>h c (bT _ hc)]
theorem rI (q:Rat):topS (numS q)=itoa q.num:=by
 have hno:∀c∈itoa q.num,(c != 47)=true:=fun c hc=>by simpa using aPs _ c hc
 unfold topS numS
 split
 ·have:=xZ (b:=[]) hno;simpa using this
 rw[xZ hno,List.takeWhile_cons_of_neg (by simp)];simp
theorem vW (q:Rat):botS (numS q)=if q.den=1 then [] else 47::decDigits q.den:=by
 have hno:∀c∈itoa q.num,(c != 47)=true:=fun c hc=>by simpa using aPs _ c hc
 unfold botS numS
 split
 ·have:=yA (b:=[]) hno;simpa using this
 rw[yA hno,List.dropWhile_cons_of_neg (by simp)]
def denS (s:Bx):Nat:=if botS s= [] then 1 else cD (botS s).tail
noncomputable def valQ (s:Bx):Rat:=mkRat (valI (topS s)) (denS s)
def rV (s:Bx):Prop:=form (topS s)/\(botS s= []\/((botS s).tail=decDigits (denS s)/\2<=denS s))
theorem aAe (q:Rat):denS (numS q)=q.den:=by
 unfold denS
 rw[vW]
 by_cases h:q.den=1
 ·rw[aD h,aD rfl,h]
 rw[aC h,aC (by simp),List.tail_cons,kZ]
theorem jH (q:Rat):valQ (numS q)=q:=by
 unfold valQ
 rw[rI,dP,aAe,Rat.mkRat_self]
theorem yU (q:Rat):rV (numS q):=by
 refine ⟨by rw[rI];exact oM _,?_⟩
 rw[vW,aAe]
 by_cases h:q.den=1
 ·left;rw[aD h]
 right;rw[aC h]
 have:=q.den_nz
 exact ⟨rfl,by omega⟩
theorem aJf (q:Rat):(valI (topS (numS q))).natAbs.gcd (denS (numS q))=1:=by
 rw[rI,dP,aAe];exact q.reduced
theorem aPt {s:Bx} (h:rV s) (hg:(valI (topS s)).natAbs.gcd (denS s)=1):s=numS (valQ s):=by
 obtain ⟨h1,h2⟩:=h
 have hs:topS s++botS s=s:=nY
 have hd0:denS s≠0:=by
  rcases h2 with h | ⟨_,h⟩
  ·unfold denS;rw[aD h];decide
  omega
 have hq:valQ s= ⟨valI (topS s),denS s,hd0,hg⟩:=by unfold valQ;rw[<- Rat.mk_eq_mkRat]
 have e1:(valQ s).num=valI (topS s):=by rw[hq]
 have e2:(valQ s).den=denS s:=by rw[hq]
 unfold numS
 rw[e1,e2,<- aAd h1]
 rcases h2 with h | ⟨h3,h4⟩
 ·have:denS s=1:=by unfold denS;rw[aD h]
  rw[aD this]
  rw[h,eB] at hs
  exact hs.symm
 rw[aC (by omega),<- h3]
 have hb:botS s=47::(botS s).tail:=by
  cases hb:botS s with
  | nil=>
   have:denS s=1:=by unfold denS;rw[aD hb]
   omega
  | cons x r=>
   have hx:x=47:=by
    have hd:=List.head?_dropWhile_not (p:=(· != (47:UInt8))) (l:=s)
    have hb':s.dropWhile (· != 47)=x::r:=hb
    rw[hb'] at hd
    simpa using hd
   subst hx;rfl
 rw[<- hb,hs]
end IB
end
section
namespace IB
open Go.Lib
theorem aWn (n:Int) (d:Nat) (hd:d≠0):numS (mkRat n d)=if d/d.gcd n.natAbs=1 then itoa (n/(d.gcd n.natAbs:Nat)) else itoa (n/(d.gcd n.natAbs:Nat))++47::decDigits (d/d.gcd n.natAbs):=by
 unfold numS
 rw[Rat.num_mkRat,Rat.den_mkRat,aC hd,aC hd]
theorem aG7 (p q:Rat):p+q=mkRat (p.num*q.den+q.num*p.den) (p.den*q.den):=Rat.add_def' p q
theorem aBj (p q:Rat):p-q=mkRat (p.num*q.den-q.num*p.den) (p.den*q.den):=Rat.sub_def' p q
theorem aG8 (p q:Rat):p*q=mkRat (p.num*q.num) (p.den*q.den):=Rat.mul_def' p q
theorem yV (n:Int) (d:Int) (hd:d<0):Rat.divInt n d=mkRat (-n) (-d).toNat:=by
 rw[<- Rat.neg_divInt_neg]
 have: -d=((-d).toNat:Int):=by omega
 rw[this]
 exact Rat.divInt_ofNat _ _
theorem oN (n:Int) (d:Int) (hd:0<d):Rat.divInt n d=mkRat n d.toNat:=by
 have:d=(d.toNat:Int):=by omega
 conv=>lhs;rw[this]
 exact Rat.divInt_ofNat _ _
theorem aG9 (p q:Rat) (hq:q≠0):p/q=Rat.divInt (p.num*q.den) (p.den*q.num):=by
 rw[Rat.div_def,Rat.inv_def]
 conv=>lhs;lhs;rw[<- Rat.num_divInt_den p]
 rw[Rat.divInt_mul_divInt]
end IB
end
section
namespace IB
open Go.Lib
def sgn (b:Bool) (m:Nat):Int:=if b then -(m:Int) else m
def wrM (b:Bool) (m:Nat):Bx:=if m=0 then [48] else if b then 45::decDigits m else decDigits m
theorem aZe (b:Bool) (m:Nat):wrM b m=itoa (sgn b m):=by
 unfold wrM sgn itoa
 by_cases h:m=0
 ·subst h
  rw[aD rfl]
  cases b<;>exact (iL (show 0<10 by omega)).symm
 rw[aC h]
 cases b
 ·show decDigits m=if (m:Int)<0 then 45::decDigits (m:Int).natAbs else decDigits (m:Int).toNat
  rw[aC (by omega),aP]
 show 45::decDigits m=if -(m:Int)<0 then 45::decDigits (-(m:Int)).natAbs else decDigits (-(m:Int)).toNat
 rw[aD (by omega),show (-(m:Int)).natAbs=m by omega]
theorem aQ8 (x y:Int) (hy:y≠0):(if x.tmod y≠0/\¬(x.tmod y<0↔y<0) then (x.tdiv y-1,x.tmod y+y) else (x.tdiv y,x.tmod y))=(x.fdiv y,x.fmod y):=by
 have h1:=Int.tmod_add_mul_tdiv x y
 have hlt:(x.tmod y).natAbs<y.natAbs:=by rw[jJ];exact eT _ (by omega)
 rcases nB hy with hn | hp
 ·split
  ·rename_i h
   have:=(jA (a:=x) (r:=x.tmod y+y) (q:=x.tdiv y-1) hn).2 ⟨by rw[fS,eF];omega,by omega,by omega⟩
   rw[this.1,this.2]
  rename_i h
  have:=(jA (a:=x) (r:=x.tmod y) (q:=x.tdiv y) hn).2 ⟨h1,by omega,by omega⟩
  rw[this.1,this.2]
 split
 ·rename_i h
  have:=(jS (a:=x) (r:=x.tmod y+y) (q:=x.tdiv y-1) hp).2 ⟨by rw[fS,eF];omega,by omega,by omega⟩
  rw[this.1,this.2]
 rename_i h
 have:=(jS (a:=x) (r:=x.tmod y) (q:=x.tdiv y) hp).2 ⟨h1,by omega,by omega⟩
 rw[this.1,this.2]
theorem aWo (b:Bool) (m:Nat) (c:Bool) (n:Nat) (hn:0<n):
  (sgn (b != c) (if b≠c/\0<m%n then m/n+1 else m/n),sgn c (if b≠c/\0<m%n then n-m%n else m%n))=((sgn b m).fdiv (sgn c n),(sgn b m).fmod (sgn c n)):=by
 have h1:=Nat.mod_add_div m n
 have h2:=eT m hn
 have h1':((m%n:Nat):Int)+(n:Int)*((m/n:Nat):Int)=m:=by exact_mod_cast h1
 generalize m%n=r at h1 h1' h2 ⊢
 generalize m/n=q at h1 h1' ⊢
 cases b<;>cases c<;>simp only[sgn,bne_self_eq_false,Bool.false_eq_true,if_false,if_true,ne_eq,not_true_eq_false,false_and,reduceCtorEq,not_false_eq_true,true_and,Bool.bne_true,Bool.bne_false,Bool.not_false]
 ·have:=(jS (a:=(m:Int)) (b:=(n:Int)) (r:=(r:Int)) (q:=(q:Int)) (by omega)).2 ⟨h1',by omega,by omega⟩
  rw[this.1,this.2]
 ·by_cases h:0<r
  ·have:=(jA (a:=(m:Int)) (b:= -(n:Int)) (r:= -((n-r:Nat):Int)) (q:= -((q+1:Nat):Int)) (by omega)).2 ⟨by rw[Int.neg_mul_neg];simp only[pT,cH];omega,by omega,by omega⟩
   rw[aD h,aD h,this.1,this.2]
  have:=(jA (a:=(m:Int)) (b:= -(n:Int)) (r:= -(r:Int)) (q:= -(q:Int)) (by omega)).2 ⟨by rw[Int.neg_mul_neg];omega,by omega,by omega⟩
  rw[aC h,aC h,this.1,this.2]
 ·by_cases h:0<r
  ·have:=(jS (a:= -(m:Int)) (b:=(n:Int)) (r:=((n-r:Nat):Int)) (q:= -((q+1:Nat):Int)) (by omega)).2 ⟨by rw[wH];simp only[pT,cH];omega,by omega,by omega⟩
   rw[aD h,aD h,this.1,this.2]
  have:=(jS (a:= -(m:Int)) (b:=(n:Int)) (r:=(r:Int)) (q:= -(q:Int)) (by omega)).2 ⟨by rw[wH];omega,by omega,by omega⟩
  rw[aC h,aC h,this.1,this.2]
 have:=(jA (a:= -(m:Int)) (b:= -(n:Int)) (r:= -(r:Int)) (q:=(q:Int)) (by omega)).2 ⟨by rw[Int.neg_mul];omega,by omega,by omega⟩
 rw[this.1,this.2]
end IB
end
section
namespace IB
open Go.Lib
noncomputable instance (s:Bx):Decidable (rV s):=Cp
noncomputable def chkQ (s:Bx):Int:=if rV s then (if 300<(digs (topS s)).length\/300<(botS s).tail.length then 4 else if (valI (topS s)).natAbs.gcd (denS s)=1 then 0 else 11) else 11
theorem aCv {s:Bx} (h:chkQ s=0):s=numS (valQ s)/\(digs (topS s)).length<=300/\(botS s).tail.length<=300:=by
 unfold chkQ at h
 split at h
 ·rename_i hf
  split at h
  ·cases h
  rename_i hl
  split at h
  ·rename_i hg
   exact ⟨aPt hf hg,by omega,by omega⟩
  cases h
 cases h
def lim (n:Int):Bool:=decide (300<(decDigits n.natAbs).length)
noncomputable def iQ (a b:Bx) (f:Rat->Rat->Bx × Int):Bx × Int:=if chkQ a≠0 then ([],chkQ a) else if chkQ b≠0 then ([],chkQ b) else f (valQ a) (valQ b)
noncomputable def addQ (a b:Bx):Bx × Int:=iQ a b fun p q=>if lim (p.num*q.den) || lim (q.num*p.den) || lim (p.num*q.den+q.num*p.den) || lim (p.den*q.den) then ([],4) else (numS (p+q),0)
noncomputable def subQ (a b:Bx):Bx × Int:=iQ a b fun p q=>if lim (p.num*q.den) || lim (q.num*p.den) || lim (p.num*q.den-q.num*p.den) || lim (p.den*q.den) then ([],4) else (numS (p-q),0)
noncomputable def mulQ (a b:Bx):Bx × Int:=iQ a b fun p q=>if lim (p.num*q.num) || lim (p.den*q.den) then ([],4) else (numS (p*q),0)
noncomputable def divQ (a b:Bx):Bx × Int:=iQ a b fun p q=>if q=0 then ([],12) else if lim (p.num*q.den) || lim (q.num*p.den) then ([],4) else (numS (p/q),0)
end IB
end
section
open Go Go.Proofs Go.Eng Go.Shelf IB
namespace RB
abbrev I (n:Int):SV:=.val (.int .i64 n)
abbrev Ls (xs:List Int):SV:=.seq (.int .i64) xs
abbrev S (s:Bx):SV:=.str s
abbrev B9:Nat:=1000000000
theorem cX {n:Int} {C:Nat->Prop} (j:Nat) (e:n=(j:Int)) (h:C j):Ix n C:=by
 refine ⟨fun i e'=>?_⟩
 have:j=i:=by omega
 subst this;exact h
theorem get9 {l:List Int} (h:InB B9 l) (i:Nat):0<=l.getD i 0/\l.getD i 0<1000000000:=h.getD0 (by decide) i
theorem aAl (xs:List Int) (k:Nat) (h:k<xs.length):xs.take (k+1)=xs.take k++ [xs.getD k 0]:=by
 rw[dA h]
 simp[aB,h]
theorem xE (xs:List Int) (k i:Nat) (h:i<k):(xs.take k).getD i 0=xs.getD i 0:=by
 simp[aB,aJ,h]
abbrev V (xs:List Int):HO:=.vec 1 (.int .i64) xs 3
theorem b131 (xs:List Int):aGj Tryz.prog [] { asks:=[(0,[0])] } Tryz.f233 0 false [.any] (.int .i64) xs 3 (.ref 0 1) (jC xs):=by
 refine Ask.mk ⟨{ X:=Nat,pre:=fun i=>i<=xs.length/\jC (xs.take i)=jC xs,mod:=fun i _=>[(0,.ref 0 1)],heap:=fun i _=>[V (xs.take i),V []],mu:=fun i=>i,objs:=[0] },rfl,?_⟩
 (repeat refine ZG ?_)
 refine ⟨⟨xs.length,⟨aM _,by rw[fP]⟩,?_⟩,fun (i:Nat) hi=>?_⟩
 ·(repeat' first|exact trivial|rfl|exact Nat.one_pos|apply aA)
  exact (fP).symm
 obtain ⟨hi1,hi2⟩:=hi
 have hl:(xs.take i).length=i:=by rw[bA];omega
 (repeat'((conv=>whnf);first|refine Zg fun _=>?_|fail))
 (apply Br.mk<;>intro)
 ·rename_i h1
  have h0:0<i:=by omega
  obtain ⟨k,rfl⟩:∃k,i=k+1:=⟨i-1,by omega⟩
  (repeat' first|refine ZN ?_|refine Zg fun _=>?_)
  refine cX k (by omega) ?_
  (repeat'((conv=>whnf);first|refine Zg fun _=>?_|fail))
  (apply Br.mk<;>intro)
  ·rename_i hz
   rw[xE _ _ _ (by omega)] at hz
   (repeat' first|refine ZN ?_|refine Zg fun _=>?_)
   refine Own.l (Own.r ?_)
   (repeat refine ZN ?_)
   refine cX k (by omega) ?_
   refine ⟨(k:Nat),by show k<k+1;omega,⟨by omega,?_⟩,?_⟩
   ·rw[<- hi2,aAl _ _ (by omega),hz,lZ]
   (repeat' first|exact trivial|rfl|exact Nat.one_pos|apply aA)
   rw[gA];congr 1;omega
  rename_i hz
  rw[xE _ _ _ (by omega)] at hz
  (conv=>whnf)
  (repeat' first|rfl|apply aA)
  rw[<- hi2,aAl _ _ (by omega)]
  exact (tC _ _ hz).symm
 have:i=0:=by omega
 subst this
 (conv=>whnf)
 (repeat' first|rfl|apply aA)
 rw[<- hi2];rfl
theorem b131s (xs:List Int):body Tryz.prog [] { asks:=[(0,[])] } false Tryz.f233 [Ls xs] (Ls (jC xs)):=by
 refine Ask.mk ⟨{ X:=Nat,pre:=fun i=>i<=xs.length/\jC (xs.take i)=jC xs,mod:=fun i _=>[(0,Ls (xs.take i))],heap:=fun i _=>[V []],mu:=fun i=>i },rfl,?_⟩
 (repeat refine ZG ?_)
 refine ⟨⟨xs.length,⟨aM _,by rw[fP]⟩,?_⟩,fun (i:Nat) hi=>?_⟩
 ·(repeat' first|exact trivial|rfl|apply aA)
  exact (fP).symm
 obtain ⟨hi1,hi2⟩:=hi
 have hl:(xs.take i).length=i:=by rw[bA];omega
 (repeat'((conv=>whnf);first|refine Zg fun _=>?_|fail))
 (apply Br.mk<;>intro)
 ·rename_i h1
  have h0:0<i:=by omega
  obtain ⟨k,rfl⟩:∃k,i=k+1:=⟨i-1,by omega⟩
  (repeat' first|refine ZG ?_|refine Zg fun _=>?_)
  refine cX k (by omega) ?_
  (repeat'((conv=>whnf);first|refine Zg fun _=>?_|fail))
  (apply Br.mk<;>intro)
  ·rename_i hz
   rw[xE _ _ _ (by omega)] at hz
   (repeat' first|refine ZG ?_|refine Zg fun _=>?_)
   refine cX k (by omega) ?_
   refine ⟨(k:Nat),by show k<k+1;omega,⟨by omega,?_⟩,?_⟩
   ·rw[<- hi2,aAl _ _ (by omega),hz,lZ]
   (repeat' first|exact trivial|rfl|apply aA)
   rw[gA];congr 1;omega
  rename_i hz
  rw[xE _ _ _ (by omega)] at hz
  (conv=>whnf)
  rw[<- hi2,aAl _ _ (by omega)]
  exact (tC _ _ hz).symm
 have:i=0:=by omega
 subst this
 (conv=>whnf)
 rw[<- hi2];rfl
def c131:Con:=aTb 233 false 0 false (fun args o K=>match args,o with | [.any],.vec 1 (.int .i64) xs 3=>K (.ref 0 1) (.vec 1 (.int .i64) (jC xs) 3) | _,_=>False)
 (fun args K=>match args with | [.seq (.int .i64) xs]=>K (Ls (jC xs)) | _=>False)
theorem k131:aS Tryz.prog c131:=by
 refine aT1 (enters_of Tryz.func233 (by kernel_rfl) rfl) ?_ ?_
 ·intro args t xs e K hfl h
  split at h
  ·rename_i zs heq
   cases heq
   first | exact ⟨_,_,h,kM (by simp) Tryz.func233 (by simp[Tryz.ntmps233]) rfl (b131 zs)⟩ | exact ⟨_,_,h,kM (by simp) Tryz.func233 (by simp[Tryz.ntmps233]) rfl (b131 xs)⟩
  exact h.elim
 intro args K h
 split at h
 ·rename_i xs
  exact ⟨_,h,triB Tryz.func233 Tryz.ntmps233 (by simp) (b131s xs)⟩
 exact h.elim
theorem b132 (l:List Int) (i:Int) (h:0<=i):body Tryz.prog [] {} true Tryz.f283 [Ls l,I i] (I (l.getD i.toNat 0)):=by
 (repeat'((conv=>whnf);first|refine Zg fun _=>?_|fail))
 (apply Br.mk<;>intro)
 ·(repeat refine ZG ?_)
  refine cX i.toNat (by omega) ?_
  (repeat'((conv=>whnf);first|refine Zg fun _=>?_|fail))
  exact ZF
 rename_i h1
 have:l.getD i.toNat 0=0:=aAg _ _ (by omega)
 (conv=>whnf)
 rw[this]
 exact ZE
def c132:Con:=bB 283 true fun args K=>match args with | [.seq (.int .i64) l,.val (.int .i64 i)]=>Need (0<=i) (Ix i fun j=>K (I (l.getD j 0))) | _=>False
theorem k132:aS Tryz.prog c132:=by
 refine kO Tryz.func283 fun args K h=>?_
 simp only[c132] at h;split at h
 ·rename_i l i
  exact ⟨_,h.go.use h.ok,triB Tryz.func283 Tryz.ntmps283 (by simp) (b132 l i h.ok)⟩
 exact h.elim
def c108:Con:=bB 292 true fun args K=>match args with | [.val (.int .i64 x),.val (.int .i64 y),.val (.int .i64 c)]=>Need ((0<=x/\x<1000000000)/\(0<=y/\y<1000000000)/\(0<=c/\c<=1)) (K (.tup [I ((x+y+c)%1000000000),I ((x+y+c)/1000000000)])) | _=>False
theorem k108:aS Tryz.prog c108:=by
 refine kQ {} Tryz.func292 Tryz.ntmps292 kn fun _ _ h=>?_
 split at h
 case h_2=>exact h.elim
 refine kb h.go ?_
 replace h:=h.ok
 exact ZGF
abbrev mn (x y c:Int):Int:=if 0<=x-y-c then x-y-c else x-y-c+1000000000
abbrev mc (x y c:Int):Int:=if 0<=x-y-c then 0 else 1
def c109:Con:=bB 293 true fun args K=>match args with | [.val (.int .i64 x),.val (.int .i64 y),.val (.int .i64 c)]=>Need ((0<=x/\x<1000000000)/\(0<=y/\y<1000000000)/\(0<=c/\c<=1)) (K (.tup [I (mn x y c),I (mc x y c)])) | _=>False
theorem k109:aS Tryz.prog c109:=by
 refine kQ {} Tryz.func293 Tryz.ntmps293 kn fun _ _ h=>?_
 split at h
 case h_2=>exact h.elim
 refine kb h.go ?_
 replace h:=h.ok
 unfold mn mc
 (repeat refine ZG ?_)
 (apply Br.mk<;>intro)
 ·rename_i hb
  (conv=>whnf)
  rw[aD hb,aD hb]
  exact ZE
 rename_i hb
 (repeat refine ZG ?_)
 (conv=>whnf)
 rw[aC hb,aC hb]
 exact ZE
theorem b107p (a b:List Int) (h:InB B9 a/\InB B9 b/\a.length<=100000/\b.length<=100000):body Tryz.prog [c132,c108,c131] { asks:=[(0,[1])] } true Tryz.f291 [Ls a,Ls b,.clo 292 [] []] (Ls (aZ B9 (valB B9 a+valB B9 b).toNat)):=by
 obtain ⟨ha,hb,hla,hlb⟩:=h
 (repeat' first|refine ZG ?_|refine Zg fun _=>?_)
 refine Ask.mk ⟨{ X:=Nat,pre:=fun i=>i<=max a.length b.length+1,mod:=fun i _=>[(7,.ref 1 1),(8,I (addK B9 a b i).2),(18,I i)],heap:=fun i _=>[V [],V (addK B9 a b i).1],mu:=fun i=>max a.length b.length+1-i,objs:=[1] },rfl,?_⟩
 (repeat refine ZG ?_)
 refine ⟨⟨(0:Nat),aI _,ZE⟩,fun (i:Nat) (hi:i<=max a.length b.length+1)=>?_⟩
 obtain ⟨g1,g2,g3,_⟩:=aBk (B:=B9) (by decide) ha hb i
 have ga:=get9 ha i
 have gb:=get9 hb i
 (apply Br.mk<;>intro)
 ·have hlt:i<max a.length b.length+1:=by omega
  (repeat refine ZG ?_)
  refine ⟨(i+1:Nat),by show max a.length b.length+1-(i+1)<max a.length b.length+1-i;omega,hlt,?_⟩
  exact ZE
 have e:i=max a.length b.length+1:=by omega
 subst e
 (conv=>whnf)
 rw[<- aUi (B:=B9) (by decide) ha hb (Nat.le_max_left _ _) (Nat.le_max_right _ _)]
theorem b107m (a b:List Int) (h:InB B9 a/\InB B9 b/\valB B9 b<=valB B9 a/\a.length<=100000/\b.length<=100000):body Tryz.prog [c132,c109,c131] { asks:=[(0,[1])] } true Tryz.f291 [Ls a,Ls b,.clo 293 [] []] (Ls (aZ B9 (valB B9 a-valB B9 b).toNat)):=by
 obtain ⟨ha,hb,hle,hla,hlb⟩:=h
 (repeat' first|refine ZG ?_|refine Zg fun _=>?_)
 refine Ask.mk ⟨{ X:=Nat,pre:=fun i=>i<=max a.length b.length+1,mod:=fun i _=>[(7,.ref 1 1),(8,I (subK B9 a b i).2),(18,I i)],heap:=fun i _=>[V [],V (subK B9 a b i).1],mu:=fun i=>max a.length b.length+1-i,objs:=[1] },rfl,?_⟩
 (repeat refine ZG ?_)
 refine ⟨⟨(0:Nat),aI _,ZE⟩,fun (i:Nat) (hi:i<=max a.length b.length+1)=>?_⟩
 obtain ⟨g1,g2,g3,_⟩:=aBl (B:=B9) (by decide) ha hb i
 have ga:=get9 ha i
 have gb:=get9 hb i
 (apply Br.mk<;>intro)
 ·have hlt:i<max a.length b.length+1:=by omega
  (repeat refine ZG ?_)
  refine ⟨(i+1:Nat),by show max a.length b.length+1-(i+1)<max a.length b.length+1-i;omega,hlt,?_⟩
  exact ZE
 have e:i=max a.length b.length+1:=by omega
 subst e
 (conv=>whnf)
 rw[<- (aUj (B:=B9) (by decide) ha hb (n:=max a.length b.length+1) (by omega) (by omega) hle).1]
def c107:Con:=bB 291 true fun args K=>match args with
 | [.seq (.int .i64) a,.seq (.int .i64) b,.clo 292 [] []]=>Need (InB B9 a/\InB B9 b/\a.length<=100000/\b.length<=100000) (K (Ls (aZ B9 (valB B9 a+valB B9 b).toNat)))
 | [.seq (.int .i64) a,.seq (.int .i64) b,.clo 293 [] []]=>Need (InB B9 a/\InB B9 b/\valB B9 b<=valB B9 a/\a.length<=100000/\b.length<=100000) (K (Ls (aZ B9 (valB B9 a-valB B9 b).toNat)))
 | _=>False
theorem k107:aS Tryz.prog c107:=by
 refine kO Tryz.func291 fun args K h=>?_
 simp only[c107] at h;split at h
 ·rename_i a b
  exact ⟨_,h.go,triB Tryz.func291 Tryz.ntmps291 (by simp[k132,k108,k131]) (b107p a b h.ok)⟩
 ·rename_i a b
  exact ⟨_,h.go,triB Tryz.func291 Tryz.ntmps291 (by simp[k132,k109,k131]) (b107m a b h.ok)⟩
 exact h.elim
theorem c9:((B9:Nat):Int)=1000000000:=rfl
theorem aRn {x y B:Int} (hx:0<=x/\x<B) (hy:0<=y/\y<B):0<=x*y/\x*y<=(B-1)*(B-1):=by
 refine ⟨eC hx.1 hy.1,?_⟩
 calc x*y<=(B-1)*y:=bY (by omega) hy.1
  _<=(B-1)*(B-1):=aY (by omega) (by omega)
theorem b99 (a b:List Int) (h:InB B9 a/\InB B9 b/\a.length<=100000/\b.length<=100000):aKc Tryz.prog [c132,c131] { asks:=[(0,[]),(2,[])] } Tryz.f236 [Ls a,Ls b] (.ref 0 1) (.int .i64) (aZ B9 (valB B9 a*valB B9 b).toNat) 3:=by
 obtain ⟨ha,hb,hla,hlb⟩:=h
 obtain ⟨n,hn⟩:∃n,n=a.length+b.length+1:=⟨_,rfl⟩
 (repeat' first|refine ZG ?_|refine Zg fun _=>?_)
 refine Ask.mk ⟨{ X:=Nat,pre:=fun i=>i<=a.length,mod:=fun i _=>[(20,I i)],heap:=fun i _=>[V [],V (mulR B9 a b (List.replicate n 0) i)],mu:=fun i=>a.length-i },rfl,?_⟩
 (repeat refine ZG ?_)
 refine ⟨⟨(0:Nat),aI _,?_⟩,fun (i:Nat) (hi:i<=a.length)=>?_⟩
 ·(repeat' first|exact trivial|rfl|apply aA)
  show List.replicate _ _=List.replicate _ _
  congr 1;omega
 obtain ⟨g1,g2,g3⟩:=aBn (B:=B9) (by decide) ha hb (n:=n) (by omega) i hi
 have ga:=get9 ha i
 (apply Br.mk<;>intro)
 ·have hlt:i<a.length:=by omega
  (repeat' first|refine ZG ?_|refine Zg fun _=>?_)
  refine Ask.mk ⟨{ X:=Nat,pre:=fun k=>k<=b.length+1,mod:=fun k _=>[(28,I k),(8,I (mulK B9 (a.getD i 0) b i (mulR B9 a b (List.replicate n 0) i) k).2)],heap:=fun k _=>[V [],V (mulK B9 (a.getD i 0) b i (mulR B9 a b (List.replicate n 0) i) k).1],mu:=fun k=>b.length+1-k },rfl,?_⟩
  (repeat refine ZG ?_)
  refine ⟨⟨(0:Nat),aI _,ZE⟩,fun (k:Nat) (hk:k<=b.length+1)=>?_⟩
  obtain ⟨m1,m2,m3,_⟩:=tD (B:=B9) (by decide) (x:=a.getD i 0) ⟨ga.1,by rw[c9];exact ga.2⟩ hb (i:=i) g2 k (by omega)
  have m3:0<=(mulK B9 (a.getD i 0) b i (mulR B9 a b (List.replicate n 0) i) k).2/\(mulK B9 (a.getD i 0) b i (mulR B9 a b (List.replicate n 0) i) k).2<1000000000:=m3
  have gb:=get9 hb k
  have gm:=get9 m2 (i+k)
  have hm:=aRn ga gb
  (apply Br.mk<;>intro)
  ·have hlt:k<b.length+1:=by omega
   (repeat'((conv=>whnf);first|refine Zg fun _=>?_|refine Za ?_|refine Zn ?_|refine Zj ?_|apply pI|apply pJ|fail))
   refine ⟨(k+1:Nat),by show b.length+1-(k+1)<b.length+1-k;omega,hlt,?_⟩
   exact ZE
  have e:k=b.length+1:=by omega
  subst e
  (repeat refine ZG ?_)
  refine ⟨(i+1:Nat),by show a.length-(i+1)<a.length-i;omega,hlt,?_⟩
  exact ZE
 have e:i=a.length:=by omega
 subst e
 (conv=>whnf)
 (repeat' first|rfl|apply aA)
 exact aUl (B:=B9) (by decide) ha hb (by omega)
def c99:Con:=aHz 236 fun args K=>match args with | [.seq (.int .i64) a,.seq (.int .i64) b]=>Need (InB B9 a/\InB B9 b/\a.length<=100000/\b.length<=100000) (K (.ref 0 1) (.vec 1 (.int .i64) (aZ B9 (valB B9 a*valB B9 b).toNat) 3)) | _=>False
theorem k99:aS Tryz.prog c99:=by
 refine aEf (enters_of Tryz.func236 (by kernel_rfl) rfl) ?_
 intro args K h
 split at h
 ·rename_i a b;exact ⟨_,_,_,_,_,h.go,fun hfl=>qB (by simp[k132,k131]) Tryz.func236 (by simp[Tryz.ntmps236]) hfl (b99 a b h.ok)⟩
 exact h.elim
abbrev itB (xs:List Int) (k:Nat):List SV:=[I ((xs.length-1-k:Nat)),I (xs.getD (xs.length-1-k) 0)]
def c135:Con:=bB 237 false fun args K=>match args with | [.seq (.int .i64) xs]=>K (.clo 284 [] [.lelem [Ls xs] 0]) | _=>False
theorem k135:aS Tryz.prog c135:=by
 refine kQ {} Tryz.func237 Tryz.ntmps237 kn fun _ _ h=>?_
 split at h
 case h_2=>exact h.elim
 refine kb h ?_
 exact ZF
theorem b166 (xs:List Int):aD2 Tryz.prog [] { asks:=[(0,[])] } Tryz.f284 [.lelem [Ls xs] 0] xs.length (itB xs):=by
 (repeat' first|refine ZG ?_|refine Zg fun _=>?_)
 refine Ask.mk ⟨{ X:=Nat,pre:=fun i=>i<=xs.length,mod:=fun i _=>[(3,I ((xs.length:Int)-1-i))],heap:=fun i _=>[.yst (some i) xs.length (itB xs)],mu:=fun i=>xs.length-i },rfl,?_⟩
 (repeat refine ZG ?_)
 refine ⟨⟨(0:Nat),aI _,ZE⟩,fun (i:Nat) (hi:i<=xs.length)=>?_⟩
 (apply Br.mk<;>intro)
 ·have hlt:i<xs.length:=by omega
  have e:((xs.length:Int)-1-i)=((xs.length-1-i:Nat):Int):=by omega
  (repeat refine ZG ?_)
  refine cX (xs.length-1-i) (by omega) ?_
  (repeat'((conv=>whnf);first|refine Zg fun _=>?_|refine Zn ?_|fail))
  refine Need.mk (by (repeat' first|exact trivial|rfl|apply aA);exact e) ?_
  refine Two.mk ?_ ?_
  ·(repeat refine ZG ?_)
   refine ⟨(i+1:Nat),by show xs.length-(i+1)<xs.length-i;omega,hlt,?_⟩
   exact ZE
  (conv=>whnf)
  trivial
 (conv=>whnf)
 omega
def c166:Con:=bB 284 false fun args K=>match args with | [.lelem [.seq (.int .i64) xs] 0]=>K (.itr xs.length (itB xs)) | _=>False
theorem k166:aS Tryz.prog c166:=by
 refine kO Tryz.func284 fun args K h=>?_
 simp only[c166] at h;split at h
 ·rename_i xs;exact ⟨_,h,qC (by simp) Tryz.func284 (by simp[Tryz.ntmps284]) (b166 xs)⟩
 exact h.elim
def uI (a b:List Int):Nat->Int
 | 0=>0
 | m+1=>if a.getD m 0=b.getD m 0 then uI a b m else a.getD m 0-b.getD m 0
def cmpL (a b:List Int):Int:=if a.length=b.length then uI a b a.length else (a.length:Int)-b.length
def c129:Con:=bB 234 true fun args K=>match args with | [.seq (.int .i64) a,.seq (.int .i64) b]=>Need (InB B9 a/\InB B9 b) (K (I (cmpL a b))) | _=>False
theorem k129:aS Tryz.prog c129:=by
 refine kQ { asks:=[(0,[])] } Tryz.func234 Tryz.ntmps234 (kc k135 (kc k166 kn)) fun _ _ h=>?_
 split at h
 case h_2=>exact h.elim
 rename_i a b
 refine kb h.go ?_
 replace h:=h.ok
 obtain ⟨ha,hb⟩:=h
 unfold cmpL
 (repeat'((conv=>whnf);first|refine Zg fun _=>?_|fail))
 (apply Br.mk<;>intro)
 ·rename_i h1
  rw[aC (by omega)]
  exact ZGF
 rename_i h1
 rw[aD (by omega)]
 have hl:a.length=b.length:=by omega
 refine Ask.mk ⟨{ X:=Nat,pre:=fun i=>i<=a.length/\uI a b a.length=uI a b (a.length-i),mod:=fun _ _=>[],heap:=fun _ _=>[.cells [Ls b] 41,.cells [I 0] 3],mu:=fun i=>i },rfl,?_⟩
 (repeat refine ZG ?_)
 refine ⟨⟨(0:Nat),rfl,⟨aI _,rfl⟩,ZE⟩,fun (i:Nat) hi (hlt:i<a.length)=>?_,fun (i:Nat) hi (he:i=a.length)=>?_⟩
 ·obtain ⟨hi1,hi2⟩:=hi
  obtain ⟨m,hm⟩:∃m,a.length-i=m+1:=⟨a.length-i-1,by omega⟩
  have e1:a.length-1-i=m:=by omega
  have e2:a.length-(i+1)=m:=by omega
  have ga:=get9 ha m
  have gb:=get9 hb m
  rw[hm,uI] at hi2
  have eI:itB a i= [I m,I (a.getD m 0)]:=by rw[itB,e1]
  show hnfL (itB a i) _
  rw[eI]
  (repeat' first|refine ZG ?_|refine Zg fun _=>?_)
  (apply Br.mk<;>intro)
  ·rename_i hne
   rw[aC hne] at hi2
   (repeat' first|refine ZG ?_|refine Zg fun _=>?_)
   (conv=>whnf)
   (repeat' first|rfl|apply aA)
   exact hi2.symm
  rename_i heq
  rw[aD (bD.1 heq)] at hi2
  refine ⟨(i+1:Nat),rfl,⟨by omega,by rw[e2];exact hi2⟩,ZE⟩
 obtain ⟨hi1,hi2⟩:=hi
 subst he
 rw[kP] at hi2
 (conv=>whnf)
 (repeat' first|rfl|apply aA)
 exact hi2.symm
theorem aCh {a b:List Int} (ha:InB B9 a) (hb:InB B9 b) (hl:a.length=b.length):∀m,m<=a.length->(∀j,m<=j->j<a.length->a.getD j 0=b.getD j 0)->
  (uI a b m<0↔valB B9 a<valB B9 b)/\(uI a b m=0↔valB B9 a=valB B9 b)
 | 0,_,h=>by
  have:a=b:=tE hl fun j hj=>h j (aI _) hj
  subst this
  simp[uI]
 | m+1,hm,h=>by
  simp only[uI]
  by_cases e:a.getD m 0=b.getD m 0
  ·rw[aD e]
   refine aCh ha hb hl m (by omega) fun j h1 h2=>?_
   by_cases e2:j=m
   ·rw[e2];exact e
   exact h j (by omega) h2
  rw[aC e]
  rcases nB e with h1 | h1
  ·have:=aPu (B:=B9) (by decide) ha hb hl (by omega) (fun j h2 h3=>h j (by omega) h3) h1
   omega
  have:=aPu (B:=B9) (by decide) hb ha hl.symm (by omega) (fun j h2 h3=>(h j (by omega) (by omega)).symm) h1
  omega
theorem aFn (m n:Nat):(cmpL (aZ B9 m) (aZ B9 n)<0↔m<n)/\(cmpL (aZ B9 m) (aZ B9 n)=0↔m=n):=by
 unfold cmpL
 split
 ·rename_i hl
  have:=aCh (fI (B:=B9) (by decide) m) (fI (B:=B9) (by decide) n) hl _ (aM _) fun j h1 h2=>by omega
  rw[kY (by decide),kY (by decide)] at this
  omega
 rename_i hl
 rcases Nat.lt_or_ge (aZ B9 m).length (aZ B9 n).length with h | h
 ·have:=vX (B:=B9) (by decide) h
  omega
 have:=vX (B:=B9) (by decide) (show (aZ B9 n).length<(aZ B9 m).length by omega)
 omega
end RB
end

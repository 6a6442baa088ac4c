/-
  Part 3: a symbolic executor over the model, contracts of functions and plain laws.
-/
import Derived.Test.YtenkehnacommfaaGreatDoorP2
import Derived.RangeFuncNested
import Derived.OrdersIn
set_option linter.unusedVariables false
set_option linter.unusedSimpArgs false
set_option maxRecDepth 10000
set_option maxHeartbeats 80000000
noncomputable section
section
namespace Go.Eng
open Go.RowKit
theorem and2 {a b:Bool} (h:(a&&b)=true):a=true/\b=true:=by simpa using h
mutual
theorem Rel.move {E E':Env} {p:Nat->Bool} (hp:∀nm,p nm=true->E.has nm=true->E'.has nm=true/\((E'.ver nm=E.ver nm/\(E'.loc nm).toCore=(E.loc nm).toCore)\/(0<E.ver nm/\E.ver nm<E'.ver nm)))
  (hsb:∀nm,p nm=true->E.has nm=true->E'.ver nm=E.ver nm->(E'.loc nm).sub=(E.loc nm).sub\/(E.loc nm).sub.v<(E'.loc nm).sub.v) (hy:E.itr.on=true->E'.itr=E.itr) (hC:KeepC E E') (hk:∀b,E.ok b->E'.ok b) {s:SV} {v:Value} (h:Rel E s v) (hb:allN p s=true):Rel E' s v:=by
 cases h with
 | any=>exact .any v
 | val _ h=>exact .val v h
 | bl p d=>exact .bl p d
 | str s h=>exact .str s h
 | seq t xs _ h=>exact .seq t xs v (h.mono hC.cell hk)
 | lit es n b off l vs hl hn hok hr=>exact .lit es n b off l vs (hl.move hp hsb hy hC hk (by simpa [allN] using hb)) hn (hk _ hok) (fun j v hj=>hC.cell _ v hok (hr j v hj))
 | elem t xs i o b off es hi hok hr h=>exact .elem t xs i o b off es hi (hk _ hok) (fun j v hj=>hC.cell _ v hok (hr j v hj)) (h.mono hC.cell hk)
 | lelem l i b off vs hl hok hr=>exact .lelem l i b off vs (hl.move hp hsb hy hC hk (by simpa [allN] using hb)) (hk _ hok) (fun j v hj=>hC.cell _ v hok (hr j v hj))
 | ptr nm off _ hn h=>
  obtain ⟨h1,h2⟩:=hp nm (by simpa [allN] using hb) hn;refine .ptr nm off v h1 fun h0=>?_;rcases h2 with ⟨e1,e2⟩ | ⟨e1,e2⟩
  ·rw[e1] at h0;obtain ⟨b,hb,hv⟩:=h h0;exact ⟨b,by rw[e2];exact hb,hv⟩
  omega
 | ref nm k _ hn h0 hk' h=>
  obtain ⟨h1,h2⟩:=hp nm (by simpa [allN] using hb) hn;rcases h2 with ⟨e1,e2⟩ | ⟨e1,e2⟩
  ·exact .ref nm k v h1 h0 om fun e=>by rw[e2];exact h om
  exact .ref nm k v h1 h0 om fun e=>om
 | vptr nm k i z o _ hn h0 hk' h=>
  obtain ⟨h1,h2⟩:=hp nm (by simpa [allN] using hb) hn;rcases h2 with ⟨e1,e2⟩ | ⟨e1,e2⟩
  ·exact .vptr nm k i z o v h1 h0 om fun e=>by rw[e2];exact h om
  exact .vptr nm k i z o v h1 h0 om fun e=>om
 | wide nm k _ hn h0 hk' h=>
  obtain ⟨h1,h2⟩:=hp nm (by simpa [allN] using hb) hn;rcases h2 with ⟨e1,e2⟩ | ⟨e1,e2⟩
  ·exact .wide nm k v h1 h0 om fun e=>by rw[e2];exact h om
  exact .wide nm k v h1 h0 om fun e=>om
 | agg l vs hl=>exact .agg l vs (hl.move hp hsb hy hC hk (by simpa [allN] using hb))
 | tup l vs hl=>exact .tup l vs (hl.move hp hsb hy hC hk (by simpa [allN] using hb))
 | clo f a b va vb ha hb'=>
  simp only[allN,aE] at hb;exact .clo f a b va vb (ha.move hp hsb hy hC hk hb.1) (hb'.move hp hsb hy hC hk hb.2)
 | yld l h=>rw[<- hy h];exact .yld l (by rw[hy h];exact h)
 | sft i _ h hv=>exact .sft i v (by rw[hy h];exact h) (by rw[hy h];exact hv)
 | mp nm _ hn h=>
  obtain ⟨h1,h2⟩:=hp nm (by simpa [allN] using hb) hn;refine .mp nm v h1 fun h0=>?_;rcases h2 with ⟨e1,e2⟩ | ⟨e1,e2⟩
  ·rw[e1] at h0;obtain ⟨b,hb,hv⟩:=h h0;exact ⟨b,by rw[e2];exact hb,hv⟩
  omega
 | sub nm k s i _ hn h0 hk' hs h=>
  have hpn:p nm=true:=by simpa [allN] using hb
  obtain ⟨h1,h2⟩:=hp nm hpn hn;rcases h2 with ⟨e1,e2⟩ | ⟨e1,e2⟩
  ·have e3:=hsb nm hpn hn e1;refine .sub nm k s i v h1 h0 om (fun e=>?_) (fun e e4=>?_)
   ·have:=hs om;rcases e3 with e3 | e3
    ·rw[e3];exact this
    omega
   have h5:=hs om;rcases e3 with e3 | e3
   ·rw[e3] at e4 ⊢;exact h om e4
   omega
  exact .sub nm k s i v h1 h0 om (fun e=>om) (fun e=>om)
 | part nm k i j z _ hn h0 hk' h=>
  obtain ⟨h1,h2⟩:=hp nm (by simpa [allN] using hb) hn;rcases h2 with ⟨e1,e2⟩ | ⟨e1,e2⟩
  ·exact .part nm k i j z v h1 h0 om fun e=>by rw[e2];exact h om
  exact .part nm k i j z v h1 h0 om fun e=>om
 | lim nm k i z _ hn h0 hk' h=>
  obtain ⟨h1,h2⟩:=hp nm (by simpa [allN] using hb) hn;rcases h2 with ⟨e1,e2⟩ | ⟨e1,e2⟩
  ·exact .lim nm k i z v h1 h0 om fun e=>by rw[e2];exact h om
  exact .lim nm k i z v h1 h0 om fun e=>om
 | ifc _ h=>exact .ifc v h
 | wcel n b e hw hok hr=>exact .wcel n b e hw (hk _ hok) (hC _ _ hok hr rfl)
 | fmp ks l b c es hok hb' hk' hl=>exact .fmp ks l b c es (hk _ hok) (hC _ _ hok hb' rfl) hk' (hl.move hp hsb hy hC hk (by simpa [allN] using hb))
 | subp nm k s _ hn h0 hk' hs h=>
  have hpn:p nm=true:=by simpa [allN] using hb
  obtain ⟨h1,h2⟩:=hp nm hpn hn;rcases h2 with ⟨e1,e2⟩ | ⟨e1,e2⟩
  ·have e3:=hsb nm hpn hn e1;refine .subp nm k s v h1 h0 om (fun e=>?_) (fun e e4=>?_)
   ·have:=hs om;rcases e3 with e3 | e3
    ·rw[e3];exact this
    omega
   have h5:=hs om;rcases e3 with e3 | e3
   ·rw[e3] at e4 ⊢;exact h om e4
   omega
  exact .subp nm k s v h1 h0 om (fun e=>om) (fun e=>om)
theorem RelL.move {E E':Env} {p:Nat->Bool} (hp:∀nm,p nm=true->E.has nm=true->E'.has nm=true/\((E'.ver nm=E.ver nm/\(E'.loc nm).toCore=(E.loc nm).toCore)\/(0<E.ver nm/\E.ver nm<E'.ver nm)))
  (hsb:∀nm,p nm=true->E.has nm=true->E'.ver nm=E.ver nm->(E'.loc nm).sub=(E.loc nm).sub\/(E.loc nm).sub.v<(E'.loc nm).sub.v) (hy:E.itr.on=true->E'.itr=E.itr) (hC:KeepC E E') (hk:∀b,E.ok b->E'.ok b) {l:List SV} {vs:List Value} (h:RelL E l vs) (hb:allN.allNL p l=true):RelL E' l vs:=by
 cases h with
 | nil=>exact .nil
 | cons s v l vs h hl=>
  simp only[allN.allNL,aE] at hb;exact .cons s v l vs (h.move hp hsb hy hC hk hb.1) (hl.move hp hsb hy hC hk hb.2)
end
mutual
theorem Rel.under {E:Env} {s:SV} {v:Value} (h:Rel E s v):allN E.has s=true:=by
 cases h with
 | ptr nm off _ hn h=>simpa [allN] using hn
 | mp nm _ hn h=>simpa [allN] using hn
 | sub nm k s i _ hn h0 hk hs h=>simpa [allN] using hn
 | subp nm k s _ hn h0 hk hs h=>simpa [allN] using hn
 | part nm k i j z _ hn h0 hk h=>simpa [allN] using hn
 | lim nm k i z _ hn h0 hk h=>simpa [allN] using hn
 | ref nm k _ hn h0 hk' h=>simpa [allN] using hn
 | vptr nm k i z o _ hn h0 hk' h=>simpa [allN] using hn
 | wide nm k _ hn h0 hk' h=>simpa [allN] using hn
 | lit es n b off l vs hl hn hok hr=>exact hl.under
 | lelem l i b off vs hl hok hr=>exact hl.under
 | fmp ks l b c es hok hb hk hl=>exact hl.under
 | agg l vs hl=>exact hl.under
 | tup l vs hl=>exact hl.under
 | clo f a b va vb ha hb'=>simp only[allN,aE];exact ⟨ha.under,hb'.under⟩
 | _=>rfl
theorem RelL.under {E:Env} {l:List SV} {vs:List Value} (h:RelL E l vs):allN.allNL E.has l=true:=by
 cases h with
 | nil=>rfl
 | cons s v l vs h hl=>simp only[allN.allNL,aE];exact ⟨h.under,hl.under⟩
end
mutual
theorem Vi {p q r:Nat->Bool} (h:∀n,p n=true->q n=true->r n=true):∀(s:SV),allN p s=true->allN q s=true->allN r s=true
 | .ref nm _,h1,h2=>h nm h1 h2
 | .vptr nm _ _ _ _,h1,h2=>h nm h1 h2
 | .wide nm _,h1,h2=>h nm h1 h2
 | .ptr nm _,h1,h2=>h nm h1 h2
 | .mp nm,h1,h2=>h nm h1 h2
 | .sub nm _ _ _,h1,h2=>h nm h1 h2
 | .subp nm _ _,h1,h2=>h nm h1 h2
 | .part nm _ _ _ _,h1,h2=>h nm h1 h2
 | .lim nm _ _ _,h1,h2=>h nm h1 h2
 | .lit _ l,h1,h2=>qD h l h1 h2
 | .lelem l _,h1,h2=>qD h l h1 h2
 | .fmp _ l,h1,h2=>qD h l h1 h2
 | .agg l,h1,h2=>qD h l h1 h2
 | .tup l,h1,h2=>qD h l h1 h2
 | .clo _ a b,h1,h2=>by
  simp only[allN,aE] at h1 h2 ⊢;exact ⟨qD h a h1.1 h2.1,qD h b h1.2 h2.2⟩
 | .any,_,_=>rfl
 | .val _,_,_=>rfl
 | .bl _ _,_,_=>rfl
 | .str _,_,_=>rfl
 | .ifc,_,_=>rfl
 | .seq _ _,_,_=>rfl
 | .elem _ _ _ _,_,_=>rfl
 | .yld _,_,_=>rfl
 | .sft _,_,_=>rfl
 | .wcel _,_,_=>rfl
 | .itr _ _,_,_=>rfl
theorem qD {p q r:Nat->Bool} (h:∀n,p n=true->q n=true->r n=true):∀(l:List SV),allN.allNL p l=true->allN.allNL q l=true->allN.allNL r l=true
 | [],_,_=>rfl
 | x::l,h1,h2=>by
  simp only[allN.allNL,aE] at h1 h2 ⊢;exact ⟨Vi h x h1.1 h2.1,qD h l h1.2 h2.2⟩
end
open Go.RowKit
structure ExtO (D:List Nat) (E E':Env):Prop where
 blk:∀b,E.ok b->E'.w.heap[b]? =E.w.heap[b]?
 ok:∀b,E.ok b->E'.ok b
 num:∀nm,E.has nm=true->E'.has nm=true
 ver:∀nm,E.has nm=true->mem nm D=false->(E'.ver nm=E.ver nm/\(E'.loc nm).toCore=(E.loc nm).toCore)\/(0<E.ver nm/\E.ver nm<E'.ver nm)
 size:E.w.heap.size<=E'.w.heap.size
 keep:∀(k:Nat) (o:Obj),¬E.ali k->E.w.heap[k]? =some o->isBook o=true->E'.w.heap[k]? =some o
 gho:∀nm b,E.gho nm b->E'.gho nm b/\E'.w.heap[b]? =E.w.heap[b]?
 gho':∀nm b,E.has nm=true->E'.gho nm b->E.gho nm b
 ali:∀b,E'.ali b->E.ali b\/E.w.heap.size<=b
 itr:E'.itr=E.itr
 sub:∀nm,E.has nm=true->mem nm D=false->E'.ver nm=E.ver nm->(E'.loc nm).sub=(E.loc nm).sub\/(E.loc nm).sub.v<(E'.loc nm).sub.v
theorem ExtO.keepC {D:List Nat} {E E':Env} (x:ExtO D E E'):KeepC E E':=fun b _ hb h _=>(x.blk b hb).trans h
theorem ExtO.cell {D:List Nat} {E E':Env} (x:ExtO D E E'):∀a v,E.ok a.block->E.w.cell? a=some v->E'.w.cell? a=some v:=
 fun a v ho hc=>(World.cell?_of_block (x.blk _ ho)).trans hc
theorem Ext.toO {E E':Env} (x:Ext E E') (D:List Nat):ExtO D E E':=⟨x.blk,x.ok,x.num,fun nm h _=>x.ver nm h,x.size,x.keep,x.gho,x.gho',x.ali,x.itr,fun nm h _ e=>x.sub nm h e⟩
theorem mem_append (n:Nat) (a b:List Nat):mem n (a++b)=(mem n a || mem n b):=by
 induction a with
 | nil=>rfl
 | cons x r ih=>simp only[gN,mem,ih,Bool.or_assoc]
theorem ExtO.refl (D:List Nat) (E:Env):ExtO D E E:=(Ext.refl E).toO D
theorem ExtO.trans {D:List Nat} {A B C:Env} (h:ExtO D A B) (k:ExtO D B C):ExtO D A C:=by
 refine ⟨fun b ho=>(k.blk b (h.ok b ho)).trans (h.blk b ho),fun b hb=>k.ok b (h.ok b hb),fun nm hn=>k.num nm (h.num nm hn),fun nm hn hm=>?_,bL h.size k.size,
  fun i o hna hi ho=>k.keep i o (fun hb=>?_) (h.keep i o hna hi ho) ho,fun nm b hb=>?_,fun nm b hn hb=>h.gho' nm b hn (k.gho' nm b (h.num nm hn) hb),fun b hb=>?_,k.itr.trans h.itr,fun nm hn hm he=>?_⟩
 ·rcases h.ver nm hn hm with ⟨e1,e2⟩ | ⟨e1,e2⟩
  ·rcases k.ver nm (h.num nm hn) hm with ⟨e3,e4⟩ | ⟨e3,e4⟩
   ·exact .inl ⟨e3.trans e1,e4.trans e2⟩
   exact .inr ⟨om,om⟩
  rcases k.ver nm (h.num nm hn) hm with ⟨e3,e4⟩ | ⟨e3,e4⟩
  ·exact .inr ⟨e1,om⟩
  exact .inr ⟨e1,om⟩
 ·rcases h.ali i hb with h1 | h1
  ·exact hna h1
  have:=(aF.1 hi).1;omega
 ·obtain ⟨h1,h2⟩:=h.gho nm b hb;obtain ⟨h3,h4⟩:=k.gho nm b h1;exact ⟨h3,h4.trans h2⟩
 ·rcases k.ali b hb with h1 | h1
  ·exact h.ali b h1
  exact .inr (bL h.size h1)
 have h1:=h.ver nm hn hm;have h2:=k.ver nm (h.num nm hn) hm;have e1:B.ver nm=A.ver nm:=by
  rcases h1 with ⟨q1,_⟩ | ⟨q1,q2⟩
  ·exact q1
  rcases h2 with ⟨q3,_⟩ | ⟨q3,q4⟩<;>omega
 rcases h.sub nm hn hm e1 with q1 | q1
 ·rcases k.sub nm (h.num nm hn) hm om with q2 | q2
  ·exact .inl (q2.trans q1)
  rw[q1] at q2;exact .inr q2
 rcases k.sub nm (h.num nm hn) hm om with q2 | q2
 ·rw[q2];exact .inr q1
 exact .inr (fM q1 q2)
theorem ExtO.mono {D D':List Nat} {E E':Env} (h:ExtO D E E') (hd:∀n,mem n D=true->mem n D'=true):ExtO D' E E':=
 ⟨h.blk,h.ok,h.num,fun nm hn hm=>h.ver nm hn (by
  cases e:mem nm D with
  | false=>rfl
  | true=>rw[hd nm e] at hm;cases hm),h.size,h.keep,h.gho,h.gho',h.ali,h.itr,fun nm hn hm=>h.sub nm hn (by
  cases e:mem nm D with
  | false=>rfl
  | true=>rw[hd nm e] at hm;cases hm)⟩
def Same (ws:List Nat) (a a':Act):Prop:=∀t,mem t ws=false->a'.tmps.getD t undef=a.tmps.getD t undef
theorem Same.refl (ws:List Nat) (a:Act):Same ws a a:=fun _ _=>rfl
theorem Same.trans {ws:List Nat} {a b c:Act} (h:Same ws a b) (k:Same ws b c):Same ws a c:=fun t ht=>(k t ht).trans (h t ht)
theorem Same.mono {ws ws':List Nat} {a b:Act} (h:Same ws a b) (hw:∀n,mem n ws=true->mem n ws'=true):Same ws' a b:=fun t ht=>h t (by
 cases e:mem t ws with
 | false=>rfl
 | true=>rw[hw t e] at ht;cases ht)
theorem Same.put {ws:List Nat} (a:Act) (d:Option Nat) (v:Value) (h:∀t,d=some t->mem t ws=true):Same ws a (a.put d v):=by
 intro t ht;cases d with
 | none=>rfl
 | some u=>
  simp only[Act.put,bM,cK];have:¬u=t:=fun e=>by rw[<- e,h u rfl] at ht;cases ht
  simp[this]
theorem Ko {p:Nat->Prop}:∀n,p n->∃m,p m/\∀k,p k->m<=k:=by
 intro n
 induction n using Nat.strongRecOn with
 | _ n ih=>
  intro hn;by_cases h:∃k,k<n/\p k
  ·obtain ⟨k,h1,h2⟩:=h;exact ih k h1 h2
  exact ⟨n,hn,fun k hk=>oK fun hlt=>h ⟨k,hlt,hk⟩⟩
def Kp (p:Nat->Prop):Nat:=Classical.epsilon fun m=>p m/\∀k,p k->m<=k
theorem Hk {p:Nat->Prop} (h:∃n,p n):p (Kp p)/\∀k,p k->Kp p<=k:=by
 obtain ⟨n,hn⟩:=h;exact qW (Ko n hn)
theorem Kq {F:Fence} {n:Nat} {P:Program} {Q:Exit->Act->World->Prop} {a:Act} {w:World} {c:Code} (I:Nat->Act->World->Prop) (h₀:∃k,I k a w)
  (round:∀k a w,I k a w->c.wpIn F n P (Exit.then (fun a' w'=>∃k',k'<k/\I k' a' w') Q) a w):(Code.loop c).wpIn F n P Q a w:=by
 refine wpIn_loop (fun a w=>∃k,I k a w) (fun a w=>Kp fun k=>I k a w) h₀ ?_;intro a w hI;refine wpIn_mono (round _ a w (Hk hI).1) ?_;intro e a' w' hq;cases e with
 | normal=>
  obtain ⟨k',hlt,hI'⟩:=hq;exact show (∃k,I k a' w')/\(Kp fun k=>I k a' w')<Kp (fun k=>I k a w) from ⟨⟨k',hI'⟩,bX ((Hk ⟨k',hI'⟩).2 k' hI') hlt⟩
 | exit id=>exact hq
 | goto l=>exact hq
 | ret=>exact hq
 | panic ch=>exact hq
 | outgrown=>exact hq
section
variable {P:Program} {G:Ctx} {N:Nat}
theorem Of {E:Env} {a:Act}:∀(m l:List (Nat × SV)),(∀t,Rel E (look l t) (a.tmps.getD t undef))->(∀p∈m,Rel E p.2 (a.tmps.getD p.1 undef))->∀t,Rel E (look (puts m l) t) (a.tmps.getD t undef)
 | [],l,h,_,t=>h t
 | (u,s)::r,l,h,hm,t=>by
  simp only[puts];refine Of r (put l u s) (fun t=>?_) (fun p hp=>hm p (bP _ hp)) t;rw[qO];by_cases e:t=u
  ·rw[aD e,e];exact hm (u,s) (bW ..)
  rw[aC e];exact h t
theorem Fm (ws objs:List Nat):∀(l:List (Nat × SV)) (t:Nat),look (base ws objs l) t= .any\/(look (base ws objs l) t=look l t/\mem t ws=false/\names objs (look l t)=false)
 | [],t=>.inl rfl
 | (u,s)::r,t=>by
  simp only[base,look];by_cases e:u=t
  ·subst e;rw[gU];simp only[bR];cases h:(mem u ws || names objs s) with
   | true=>left;rfl
   | false=>right;simp only[Bool.or_eq_false_iff] at h;exact ⟨rfl,h.1,h.2⟩
  rw[lV e];simp only[cD];exact Fm ws objs r t
theorem qE {objs:List Nat} {A B:List HO} {n:Nat}:∀ {k:Nat} {as bs:List HO},entH objs A B n k as bs->bs.length<=as.length/\∀i o,bs[i]? =some o->∃o',as[i]? =some o'/\entO objs A B n (k+i) o' o
 | k,as,[],_=>⟨aK _,fun i o h=>by simp at h⟩
 | k,o'::r',o::r,h=>by
  obtain ⟨h1,h2⟩:=h;obtain ⟨h3,h4⟩:=qE h2;refine ⟨by simp;omega,fun i x hx=>?_⟩;cases i with
  | zero=>simp at hx;subst hx;exact ⟨o',rfl,h1⟩
  | succ i=>
   obtain ⟨o₁,h5,h6⟩:=h4 i x (by simpa using hx);exact ⟨o₁,by simpa using h5,by rw[show k+(i+1)=k+1+i by omega];exact h6⟩
 | k,[],_:: _,h=>h.elim
variable {H' T:List HO} {loc:Nat->Loc} {ver:Nat->Nat} {w:World}
def iQ (objs:List Nat) (T:List HO) (ver:Nat->Nat):Nat->Nat:=fun nm=>if mem nm objs=true then iN T nm else ver nm
theorem Ap {objs:List Nat} {s:SV} (h:names objs s=false):allN (fun n=> !mem n objs) s=true:=by simpa [names] using h
theorem aD0 (hI:Inv G H' loc ver w) {nm:Nat} (h:0<iN H' nm):ver nm=iN H' nm:=by
 unfold iN at h ⊢;cases ho:hget H' nm with
 | vec v t xs e=>rw[ho] at h;exact (hI.objs nm _ (aX ho si)).1
 | fro v t xs=>rw[ho] at h;exact (hI.objs nm _ (aX ho si)).1
 | _=>rw[ho] at h;exact absurd h (gR _)
theorem aCd (hI:Inv G H' loc ver w) {objs:List Nat} {n:Nat} (hT:∀m,m<n->hasB T m=true) (hok:∀b,okN G H' loc w b->okN G T loc w b) {s:SV} {v:Value} (h:Rel (envOf G H' loc ver w) s v) (hu:under n s=true):
  Rel (envOf G T loc (iQ objs T ver) w) (reV objs H' T s) v:=by
 have drop:names objs s=false->Rel (envOf G T loc (iQ objs T ver) w) s v:=by
  intro hn;refine Rel.move (E:=envOf G H' loc ver w) (E':=envOf G T loc (iQ objs T ver) w) (p:=fun m=>Nat.blt m n&& !mem m objs) (fun nm hp hlt=>?_) (fun _ _ _ _=>.inl rfl) (fun _=>rfl) (fun _ _ _ h _=>h) hok h ?_
  ·simp only[aE] at hp;have h1:nm<n:=by simpa using hp.1
   have h2:mem nm objs=false:=by simpa using hp.2
   exact ⟨hT nm h1,.inl ⟨by simp[envOf,iQ,h2],rfl⟩⟩
  exact Vi (fun m h1 h2=>by simp[h1,h2]) s hu (Ap hn)
 cases s with
 | ref nm k=>
  simp only[reV];cases hm:mem nm objs with
  | false=>exact drop (by simp[names,allN,hm])
  | true=>
   simp only[bR];cases hb:(Nat.beq k (iN H' nm)&&Nat.blt 0 (iN T nm)) with
   | false=>exact .any v
   | true=>
    simp only[bR];obtain ⟨h1,h2⟩:=and2 hb;have h1:=bK.1 h1;have h2:0<iN T nm:=by simpa using h2
    cases h with
    | ref _ _ _ hn h0 hk hv=>
     have hve:=aD0 hI (nm:=nm) om;have hlt:nm<n:=by simpa [under,allN] using hu
     refine .ref nm _ v (hT nm hlt) h2 (by simp[envOf,iQ,hm]) fun _=>?_;exact hv (by simp only[envOf];omega)
 | ptr nm off=>
  simp only[reV];cases hm:mem nm objs with
  | false=>exact drop (by simp[names,allN,hm])
  | true=>
   simp only[bR];cases hb:fK (hget H' nm) with
   | false=>exact .any v
   | true=>
    simp only[bR];have hlt:nm<n:=by simpa [under,allN] using hu
    have hv0:ver nm=0:=by
     cases ho:hget H' nm with
     | cells l e=>exact (hI.objs nm _ (aX ho si)).1
     | _=>rw[ho] at hb;cases hb
    cases h with
    | ptr _ _ _ hn hv=>exact .ptr nm off v (hT nm hlt) fun _=>hv hv0
 | _=>
  simp only[reV];generalize hc:names objs _=b at drop ⊢;cases b with
  | true=>exact .any v
  | false=>exact drop rfl
theorem Kr (hI:Inv G H' loc ver w) {objs:List Nat} {n:Nat} (hT:∀m,m<n->hasB T m=true) (hok:∀b,okN G H' loc w b->okN G T loc w b):∀ {l l':List SV},entC objs H' T n l l'->∀ {vs:List Value},RelL (envOf G H' loc ver w) l vs->RelL (envOf G T loc (iQ objs T ver) w) l' vs
 | [],[],_,_,.nil=>.nil
 | x::r,y::r',h,_,.cons _ v _ _ h1 h2=>by
  obtain ⟨h3,h4⟩:=h;refine .cons _ _ _ _ ?_ (Kr hI hT hok h4 h2);cases hb:(under n y&&under n x) with
  | true=>rw[hb] at h3;exact mS h3 (aCd hI hT hok h1 (and2 hb).2)
  | false=>rw[hb] at h3;exact mS h3 (.any v)
def EntS (objs:List Nat) (A T:List HO) (n:Nat):Prop:=T.length<=A.length/\∀i o,T[i]? =some o->∃o',A[i]? =some o'/\entO objs A T n (0+i) o' o
theorem aD1 {t t':Ty} {xss:List (List t.T)} {yss:List (List t'.T)} (h:vvEq t t' xss yss):∃e:t=t',e ▸ xss=yss:=by
 unfold vvEq at h;split at h
 ·rename_i e;subst e;rw[aDv] at h;exact ⟨rfl,h⟩
 cases h
theorem Zd {t t':Ty} {m:MapS t.T} {m':MapS t'.T} (h:aGv t t' m m'):∃e:t=t',e ▸ m=m':=by
 unfold aGv at h;split at h
 ·rename_i e;rw[aGu] at h;exact ⟨e,h⟩
 cases h
theorem EntS.has {objs:List Nat} {A T:List HO} {n:Nat} (h:EntS objs A T n) (m:Nat) (hm:m<T.length):hasB T m=true:=by
 obtain ⟨o',_,h2⟩:=h.2 m T[m] (aM hm);refine eM (aM hm) ?_;generalize T[m]=o at h2;cases o with
 | res=>cases o'<;>cases h2
 | _=>rfl
theorem xJ (hI:Inv G H' loc ver w) {objs:List Nat} {n:Nat} (hT:n<=T.length) (hH:EntS objs H' T n):Inv G T loc (iQ objs T ver) w/\(∀b,okN G H' loc w b->okN G T loc w b):=by
 have hT':∀m,m<n->hasB T m=true:=fun m hm=>hH.has m om;obtain ⟨hlen,hspec⟩:=hH;have hblk:∀nm o o' b,T[nm]? =some o->H'[nm]? =some o'->entO objs H' T n (0+nm) o' o->Owns (loc nm) o b->Owns (loc nm) o' b:=by
  intro nm o o' b h1 h2 h3 h4;cases o with
  | dead=>cases h4
  | res=>cases h4
  | fro=>cases h4
  | frc=>cases h4
  | frm=>cases h4
  | qm ks l=>cases o' with
   | qm ks' l'=>exact h4
   | _=>cases h3
  | gone=>cases o' with
   | gone=>exact h4
   | _=>cases h3
  | lnt k t xs=>cases o' with
   | lnt k' t' xs'=>exact h4
   | _=>cases h3
  | yst st m it=>cases o' with
   | yst st' m' it'=>exact h4
   | _=>cases h3
  | cells l e=>cases o' with
   | cells l' e'=>exact h4
   | _=>cases h3
  | map k t m=>cases o' with
   | map k' t' m'=>exact h4
   | _=>cases h3
  | mit m s l c=>cases o' with
   | mit m' s' l' c'=>exact h4
   | _=>cases h3
  | vv k s t xss pend eo ei=>cases o' with
   | vv k' s' t' xss' pend' eo' ei'=>exact h4
   | _=>cases h3
  | vec v t xs e=>cases o' with
   | vec v' t' xs' e'=>exact h4
   | _=>cases h3
 have hown:∀b,Owned T loc b->Owned H' loc b:=by
  rintro b ⟨nm,o,h1,h2⟩;obtain ⟨o',h3,h4⟩:=hspec nm o h1;exact ⟨nm,o',h3,hblk nm o o' b h1 h3 h4 h2⟩
 have hok:∀b,okN G H' loc w b->okN G T loc w b:=fun b hb=>⟨hb.1,hb.2.1,fun ho=>hb.2.2 (hown b ho)⟩;refine ⟨⟨hI.size,hI.os,hI.tape,hI.output,hI.frame,fun nm o ho=>?_,fun b hb=>hI.own b (hown b hb),fun k k' o o' b hk hk' hb hb'=>?_⟩,hok⟩
 ·obtain ⟨o',h3,h4⟩:=hspec nm o ho;have hO:=hI.objs nm o' h3;rw[eJ] at h4;cases o with
  | dead=>trivial
  | res=>trivial
  | frc l=>cases o' with
   | frc l'=>
    obtain ⟨h0,b,vs,e0,h6,h7,h8,h9⟩:=hO;refine ⟨?_,b,vs,e0,h6,hok b h7,h8,Kr hI hT' hok h4 h9⟩;simp only[iQ];split
    ·have:hget T nm= .frc l:=by simp[hget,aB,ho]
     simp[iN,this]
    exact h0
   | _=>cases h4
  | qm ks l=>cases o' with
   | qm ks' l'=>
    obtain ⟨hm,rfl,rfl⟩:=h4;obtain ⟨h1,h2,hbr,b,es,c,h6,h7,h8,h9⟩:=hO;exact ⟨by simp only[iQ];rw[aC (by rw[hm];simp)];exact h1,h2,hbr,b,es,c,h6,h7,h8,RelL.bare (E:=envOf G H' loc ver w) (E':=envOf G T loc (iQ objs T ver) w) (fun _ _ _ h _=>h) hok h9 hbr⟩
   | _=>cases h4
  | frm ks l=>cases o' with
   | frm ks' l'=>
    obtain ⟨hm,rfl,rfl⟩:=h4;obtain ⟨h1,hbr,b,es,c,h6,h7,h8,h9,h10⟩:=hO;exact ⟨by simp only[iQ];rw[aC (by rw[hm];simp)];exact h1,hbr,b,es,c,h6,hok b h7,h8,h9,RelL.bare (E:=envOf G H' loc ver w) (E':=envOf G T loc (iQ objs T ver) w) (fun _ _ _ h _=>h) hok h10 hbr⟩
   | _=>cases h4
  | gone=>cases o' with
   | gone=>exact ⟨by simp only[iQ];rw[aC (by rw[show mem nm objs=false from h4];simp)];exact hO.1,hO.2⟩
   | _=>cases h4
  | lnt k t xs=>cases o' with
   | lnt k' t' xs'=>
    obtain ⟨hm,rfl,h6⟩:=h4;have h7:=rM h6;cases h7;exact ⟨by simp only[iQ];rw[aC (by rw[hm];simp)];exact hO.1,hO.2⟩
   | _=>cases h4
  | yst st m it=>cases o' with
   | yst st' m' it'=>
    obtain ⟨hm,rfl,rfl,rfl⟩:=h4;obtain ⟨h1,h2,h5,h6,h7,h8,h9⟩:=hO;exact ⟨by simp only[iQ];rw[aC (by rw[hm];simp)];exact h1,h2,h5,h6,h7,fun b hb hl=>⟨(h8 b hb hl).1,hok b (h8 b hb hl).2⟩,h9⟩
   | _=>cases h4
  | map k t m=>cases o' with
   | map k' t' m'=>
    obtain ⟨hm,rfl,h5⟩:=h4;obtain ⟨rfl,rfl⟩:=Zd h5;obtain ⟨h1,h2,h3,b,es,h6,h7,h8⟩:=hO;exact ⟨by simp only[iQ];rw[aC (by rw[hm];simp)];exact h1,h2,h3,b,es,h6,h7,h8.mono (fun _ _ _ h=>h) hok⟩
   | _=>cases h4
  | vv k s t xss pend eo ei=>cases o' with
   | vv k' s' t' xss' pend' eo' ei'=>
    obtain ⟨hm,rfl,rfl,h5,rfl,rfl,hp1,hp2⟩:=h4;obtain ⟨rfl,rfl⟩:=aD1 h5;cases pend with
    | some _=>cases hp2
    | none=>
    cases pend' with
    | some _=>cases hp1
    | none=>
    obtain ⟨h1,h2,h3,h6,h7,h8,h9,h10⟩:=hO;refine ⟨by simp only[iQ];rw[aC (by rw[hm];simp)];exact h1,h2,h3,h6,h7,h8,h9,⟨h10.flat,fun i hi hp=>?_,h10.apart,(fun j ys hp=>by cases hp),h10.short⟩⟩;obtain ⟨vs,q1,q2,q3⟩:=h10.row i hi (fun j ys hp=>by cases hp);exact ⟨vs,q1,q2,fun i hi=>(q3 i hi).mono (fun _ _ _ h=>h) hok⟩
   | _=>cases h4
  | mit m s l c=>cases o' with
   | mit m' s' l' c'=>
    obtain ⟨hm,⟨hm',hlt⟩,rfl,rfl,rfl,rfl⟩:=h4;obtain ⟨h1,h2,r,bm,h3,h5,h6⟩:=hO;refine ⟨by simp only[iQ];rw[aC (by rw[hm];simp)];exact h1,?_,r,bm,h3,h5,fun e=>?_⟩
    ·have hlt':m'<n:=by simpa using hlt
     exact hT' _ hlt'
    simp only[envOf,iQ] at e;rw[aC (by rw[hm'];simp)] at e;exact h6 e
   | _=>cases h4
  | cells l e=>cases o' with
   | cells l' e'=>
    obtain ⟨rfl,h5⟩:=h4;obtain ⟨h0,b,vs,h6,h7,h8⟩:=hO;refine ⟨?_,b,vs,h6,h7,Kr hI hT' hok h5 h8⟩;simp only[iQ];split
    ·rename_i hm;have:hget T nm= .cells l e':=by simp[hget,aB,ho]
     simp[iN,this]
    exact h0
   | _=>cases h4
  | vec v t xs e=>cases o' with
   | vec v' t' xs' e'=>
    obtain ⟨rfl,h5,h6⟩:=h4;have h7:=rM h6;cases h7;obtain ⟨h8,h9,h10,h11,vs,h12,h13⟩:=hO;have hg:hget T nm= .vec v t xs e':=by simp[hget,aB,ho]
    refine ⟨?_,?_,h10,h11,vs,h12,fun i hi=>(h13 i hi).mono (fun _ _ _ h=>h) hok⟩
    ·simp only[iQ];cases hm:mem nm objs with
     | true=>simp[iN,hg]
     | false=>rw[hm] at h5;simp only[cD] at h5;rw[aC si];rw[<- h5];exact h8
    cases hm:mem nm objs with
    | true=>rw[hm] at h5;exact h5
    | false=>rw[hm] at h5;simp only[cD] at h5;rw[<- h5];exact h9
   | _=>cases h4
  | fro v t xs=>cases o' with
   | fro v' t' xs'=>
    obtain ⟨rfl,h6⟩:=h4;have h7:=rM h6;cases h7;obtain ⟨h8,h9,h10⟩:=hO;have hg:hget T nm= .fro v' t xs:=by simp[hget,aB,ho]
    refine ⟨?_,h9,h10.mono (fun _ _ _ h=>h) hok⟩;simp only[iQ];split
    ·simp[iN,hg]
    exact h8
   | _=>cases h4
 obtain ⟨o₁,h1,h2⟩:=hspec k o hk;obtain ⟨o₂,h3,h4⟩:=hspec k' o' hk';exact hI.sep k k' o₁ o₂ b h1 h3 (hblk k o o₁ b hk h1 h2 hb) (hblk k' o' o₂ b hk' h3 h4 hb')
theorem Vj (hI:Inv G H' loc ver w) {objs:List Nat} {n:Nat} (hT:∀m,m<n->hasB T m=true) (hok:∀b,okN G H' loc w b->okN G T loc w b) {a:Act} {l':List (Nat × SV)} (hTR:TRel (envOf G H' loc ver w) N l' a):
  ∀ {m:List (Nat × SV)},entM objs H' T n l' m->∀p∈m,Rel (envOf G T loc (iQ objs T ver) w) p.2 (a.tmps.getD p.1 undef)
 | [],_,p,hp=>by simp at hp
 | (t,s)::r,h,p,hp=>by
  obtain ⟨h3,h4⟩:=h;rcases bH.1 hp with rfl | hp
  ·cases hb:(under n s&&under n (look l' t)) with
   | true=>rw[hb] at h3;exact mS h3 (aCd hI hT hok (hTR.rel t) (and2 hb).2)
   | false=>rw[hb] at h3;exact mS h3 (.any _)
  exact Vj hI hT hok hTR h4 p hp
theorem zE {objs:List Nat} {n:Nat}:∀ {D:List Nat},rH objs n D=true->∀m,mem m D=true->mem m objs=true\/n<=m
 | x::r,h,m,hm=>by
  simp only[rH,aE,cQ,yF] at h;simp only[mem,cQ] at hm;rcases hm with hm | hm
  ·have:=bK.1 hm;subst this;exact h.1
  exact zE h.2 m hm
theorem uM:∀ {H T:List HO} {nm:Nat},Gy H T=true->H[nm]? =some .gone->T[nm]? =some .gone
 | [],_,nm,_,h=>by simp at h
 | o::r,o'::r',nm,hg,h=>by
  simp only[Gy,aE] at hg;cases nm with
  | zero=>
   simp at h;subst h;have:=hg.1;cases o'<;>simp[Qx] at this ⊢
  | succ n=>simpa using uM hg.2 (by simpa using h)
 | _:: _,[],nm,hg,h=>by simp[Gy] at hg
theorem xK {H:List HO} {loc0:Nat->Loc} {ver0:Nat->Nat} {w0:World} {objs D:List Nat}
  (hx:ExtO D (envOf G H loc0 ver0 w0) (envOf G H' loc ver w)) (hlen:H.length<=T.length) (hgs:∀nm:Nat,H[nm]? =some HO.gone->T[nm]? =some HO.gone) (hD:rH objs H.length D=true) (hh:EntS objs H' T H.length)
  (hok:∀b,okN G H' loc w b->okN G T loc w b):ExtO objs (envOf G H loc0 ver0 w0) (envOf G T loc (iQ objs T ver) w):=by
 refine ⟨hx.blk,fun b hb=>hok b (hx.ok b hb),fun nm hn=>EntS.has hh nm (aZ (kM hn) hlen),fun nm hn hmm=>?_,hx.size,hx.keep,fun nm b hb=>?_,fun nm b hn hb=>?_,fun b hb=>?_,hx.itr,fun nm hn hmm he=>?_⟩
 ·have hnD:mem nm D=false:=by
   cases e:mem nm D with
   | false=>rfl
   | true=>
    have hn':nm<H.length:=kM hn;rcases zE hD nm e with h1 | h1
    ·rw[h1] at hmm;cases hmm
    omega
  have:=hx.ver nm hn hnD;simpa [envOf,iQ,hmm] using this
 ·obtain ⟨h1,h2⟩:=hx.gho nm b hb;exact ⟨⟨hgs nm hb.1,h1.2⟩,h2⟩
 ·obtain ⟨o',h3,h4⟩:=hh.2 nm _ hb.1;cases o' with
  | gone=>exact hx.gho' nm b hn ⟨h3,hb.2⟩
  | _=>cases h4
 ·obtain ⟨nm,st,m,it,h1,h2⟩:=hb;obtain ⟨o',h3,h4⟩:=hh.2 nm _ h1;cases o' with
  | yst st' m' it'=>exact hx.ali b ⟨nm,_,_,_,h3,h2⟩
  | _=>cases h4
 have hnD:mem nm D=false:=by
  cases e:mem nm D with
  | false=>rfl
  | true=>
   have hn':nm<H.length:=kM hn;rcases zE hD nm e with h1 | h1
   ·rw[h1] at hmm;cases hmm
   omega
 refine hx.sub nm hn hnD ?_;simpa [envOf,iQ,hmm] using he
theorem Hl (a b:Nat):∀(l:List (Nat × SV)) (t:Nat),look (l.map (swT a b)) t=swV a b (look l t)
 | [],t=>by simp[look,swV,names,allN]
 | (u,s)::r,t=>by
  simp only[mW,swT,look];cases Nat.beq u t with
  | true=>rfl
  | false=>exact Hl a b r t
def swL (a b:Nat) (loc:Nat->Loc):Nat->Loc:=fun n=>if n=a then loc b else loc n
section
variable {H:List HO} {a b:Nat}
theorem Rl (hab:a≠b) (ha:a<H.length) {nm:Nat} {o:HO} (h:(swH a b H)[nm]? =some o):
  (nm=b/\o= .dead)\/(nm=a/\o=swO a b (hget H b))\/(nm≠a/\nm≠b/\∃o',H[nm]? =some o'/\o=swO a b o'):=by
 unfold swH hset at h;by_cases e1:nm=b
 ·subst e1
  left
  have hl:=(aL.1 h).1;rw[mF (by simpa using hl)] at h;cases h;exact ⟨rfl,rfl⟩
 rw[bZ e1] at h;by_cases e2:nm=a
 ·subst e2
  right;left
  rw[mF (by simpa using ha)] at h;cases h;exact ⟨rfl,rfl⟩
 rw[bZ e2] at h
 right;right
 rw[nA] at h;cases ho:H[nm]? with
 | none=>rw[ho] at h;cases h
 | some o'=>rw[ho] at h;simp at h;exact ⟨e2,e1,o',rfl,h.symm⟩
theorem aCe {o:HO} (h:Bi o=false):Bi (swO a b o)=false:=by
 cases o with
 | mit m s l c=>simp only[swO];cases Nat.beq m a<;>rfl
 | res=>cases h
 | _=>rfl
theorem Vk {o:HO} (h:swO a b o= .gone):o= .gone:=by
 cases o with
 | mit m s l c=>simp only[swO] at h;cases he:Nat.beq m a<;>rw[he] at h<;>cases h
 | gone=>rfl
 | _=>cases h
theorem aCf {o:HO} {st:Option Nat} {m:Nat} {it:Nat->List SV} (h:swO a b o= .yst st m it):o= .yst st m it:=by
 cases o with
 | mit m s l c=>simp only[swO] at h;cases he:Nat.beq m a<;>rw[he] at h<;>cases h
 | yst=>exact h
 | _=>cases h
theorem aCg (hb:b<H.length) {nm:Nat} (h1:nm≠a) (h2:nm≠b) {o:HO} (h:H[nm]? =some o):(swH a b H)[nm]? =some (swO a b o):=by
 unfold swH hset;rw[bZ h2,bZ h1,nA,h];rfl
theorem aCh (ha:a<H.length) (hb:b<H.length) (hab:a≠b) (hcb:fK (hget H b)=true) {nm:Nat} (h:hasB H nm=true):hasB (swH a b H) nm=true:=by
 have hlt:=kM h;by_cases e1:nm=b
 ·subst e1;refine eM (o:=.dead) ?_ rfl;unfold swH hset;rw[mF (by simpa using hb)]
 by_cases e2:nm=a
 ·subst e2;refine eM (o:=swO nm b (hget H b)) ?_ ?_
  ·unfold swH hset;rw[bZ e1,mF (by simpa using ha)]
  refine aCe ?_;cases ho:hget H b with
  | cells=>rfl
  | _=>rw[ho] at hcb;cases hcb
 refine eM (aCg hb e2 e1 (aM hlt)) (aCe ?_);have h3:hget H nm=H[nm]:=by simp[hget,aB,aM hlt]
 have h4:=(and2 (show (Nat.blt nm H.length&& !Bi (hget H nm))=true from h)).2;rw[h3] at h4;simpa using h4
theorem zF (h:fK (hget H a)=true):∃l e,H[a]? =some (.cells l e)/\hget H a= .cells l e:=by
 cases ho:hget H a with
 | cells l e=>exact ⟨l,e,aX ho si,rfl⟩
 | _=>rw[ho] at h;cases h
theorem aG6 {loc:Nat->Loc} {ver:Nat->Nat} {w:World} (hI:Inv G H loc ver w) (hab:a≠b) (hca:fK (hget H a)=true) (hcb:fK (hget H b)=true):
  Inv G (swH a b H) (swL a b loc) ver w/\(∀c,okN G H loc w c->okN G (swH a b H) (swL a b loc) w c)/\
   (∀ {s v},Rel (envOf G H loc ver w) s v->Rel (envOf G (swH a b H) (swL a b loc) ver w) (swV a b s) v):=by
 obtain ⟨la,ea,hga,hga'⟩:=zF hca;obtain ⟨lb,eb,hgb,hgb'⟩:=zF hcb;have hal:a<H.length:=(aL.1 hga).1;have hbl:b<H.length:=(aL.1 hgb).1;have hva:ver a=0:=(hI.objs a _ hga).1;have hvb:ver b=0:=(hI.objs b _ hgb).1;have hlo:∀nm,nm≠a->swL a b loc nm=loc nm:=fun nm h=>aC h;have hla:swL a b loc a=loc b:=aD rfl;have hown1:∀nm o c,(swH a b H)[nm]? =some o->Owns (swL a b loc nm) o c->∃m o',H[m]? =some o'/\Owns (loc m) o' c/\(m=if nm=a then b else nm)/\nm≠b:=by
  intro nm o c h1 h2;rcases Rl hab hal h1 with ⟨_,rfl⟩ | ⟨rfl,rfl⟩ | ⟨q1,q2,o',h3,rfl⟩
  ·cases h2
  ·rw[hla,hgb'] at h2;exact ⟨b,_,hgb,h2,by rw[aD rfl],hab⟩
  rw[hlo nm q1] at h2;refine ⟨nm,o',h3,?_,by rw[aC q1],q2⟩;cases o' with
  | mit m s l c=>simp only[swO] at h2;cases he:Nat.beq m a<;>rw[he] at h2<;>first | exact h2 | cases h2
  | frc=>cases h2
  | frm=>cases h2
  | _=>exact h2
 have hown:∀c,Owned (swH a b H) (swL a b loc) c->Owned H loc c:=by
  rintro c ⟨nm,o,h1,h2⟩;obtain ⟨m,o',h3,h4,_⟩:=hown1 nm o c h1 h2;exact ⟨m,o',h3,h4⟩
 have hok:∀c,okN G H loc w c->okN G (swH a b H) (swL a b loc) w c:=fun c hc=>⟨hc.1,hc.2.1,fun ho=>hc.2.2 (hown c ho)⟩;have hhas:∀nm,hasB H nm=true->hasB (swH a b H) nm=true:=fun nm h=>aCh hal hbl hab hcb h;have hmem:∀nm,(!mem nm [a,b])=true->nm≠a/\nm≠b:=by
  intro nm h;have h:mem nm [a,b]=false:=by simpa using h
  constructor
  ·intro e;rw[e] at h;simp[mem,gU] at h
  intro e;rw[e] at h;simp[mem,gU] at h
 have hrel:∀ {s v},Rel (envOf G H loc ver w) s v->Rel (envOf G (swH a b H) (swL a b loc) ver w) (swV a b s) v:=by
  intro s v h;have drop:names [a,b] s=false->Rel (envOf G (swH a b H) (swL a b loc) ver w) s v:=by
   intro hn;refine Rel.move (E:=envOf G H loc ver w) (E':=envOf G (swH a b H) (swL a b loc) ver w) (p:=fun m=> !mem m [a,b]) (fun nm hp hlt=>?_) (fun nm hp _ _=>?_) (fun _=>rfl) (fun _ _ _ h _=>h) hok h (Ap hn)
   ·exact ⟨hhas nm hlt,.inl ⟨rfl,by simp only[envOf];rw[hlo nm (hmem nm hp).1]⟩⟩
   left;simp only[envOf];rw[hlo nm (hmem nm hp).1]
  cases s with
  | ptr nm off=>
   simp only[swV];by_cases e1:nm=b
   ·subst e1;rw[gU];simp only[bR];cases h with
    | ptr _ _ _ hn hv=>
     refine .ptr a off v (hhas a (eM hga rfl)) fun _=>?_;obtain ⟨c,h1,h2⟩:=hv hvb;exact ⟨c,by simp only[envOf];rw[hla];exact h1,h2⟩
   rw[lV e1];simp only[cD];by_cases e2:nm=a
   ·subst e2;rw[gU];exact .any v
   rw[lV e2];simp only[cD];refine drop ?_;simp only[names,allN,mem,Bool.or_false,Bool.not_not];rw[lV (fun e=>e2 e.symm),lV (fun e=>e1 e.symm)];rfl
  | _=>
   simp only[swV];generalize hc:names [a,b] _=q at drop ⊢;cases q with
   | true=>exact .any v
   | false=>exact drop rfl
 have hrelL:∀ {l:List SV} {vs:List Value},RelL (envOf G H loc ver w) l vs->RelL (envOf G (swH a b H) (swL a b loc) ver w) (l.map (swV a b)) vs:=by
  intro l
  induction l with
  | nil=>intro vs h;cases h;exact .nil
  | cons x r ih=>intro vs h;cases h with
   | cons _ _ _ _ h1 h2=>exact .cons _ _ _ _ (hrel h1) (ih h2)
 refine ⟨⟨hI.size,hI.os,hI.tape,hI.output,hI.frame,fun nm o ho=>?_,fun c hc=>hI.own c (hown c hc),fun k k' o o' c hk hk' hc hc'=>?_⟩,hok,hrel⟩
 ·rcases Rl hab hal ho with ⟨_,rfl⟩ | ⟨rfl,rfl⟩ | ⟨q1,q2,o',h3,rfl⟩
  ·trivial
  ·rw[hgb',hla];obtain ⟨h0,c,vs,h6,h7,h8⟩:=hI.objs b _ hgb;exact ⟨hva,c,vs,h6,h7,hrelL h8⟩
  have hO:=hI.objs nm o' h3;rw[hlo nm q1];cases o' with
  | dead=>trivial
  | res=>trivial
  | frc l=>
   obtain ⟨h0,c,vs,e0,h6,h7,h8,h9⟩:=hO;exact ⟨h0,c,vs,e0,h6,hok c h7,h8,hrelL h9⟩
  | qm ks l=>
   obtain ⟨h1,h2,hbr,c,es,ck,h6,h7,h8,h9⟩:=hO;exact ⟨h1,h2,hbr,c,es,ck,h6,h7,h8,RelL.bare (E:=envOf G H loc ver w) (E':=envOf G (swH a b H) (swL a b loc) ver w) (fun _ _ _ h _=>h) hok h9 hbr⟩
  | frm ks l=>
   obtain ⟨h1,hbr,c,es,ck,h6,h7,h8,h9,h10⟩:=hO;exact ⟨h1,hbr,c,es,ck,h6,hok c h7,h8,h9,RelL.bare (E:=envOf G H loc ver w) (E':=envOf G (swH a b H) (swL a b loc) ver w) (fun _ _ _ h _=>h) hok h10 hbr⟩
  | gone=>exact hO
  | lnt k t xs=>exact hO
  | yst st m it=>
   obtain ⟨h1,h2,h5,h6,h7,h8,h9⟩:=hO;exact ⟨h1,h2,h5,h6,h7,fun c hc hl=>⟨(h8 c hc hl).1,hok c (h8 c hc hl).2⟩,h9⟩
  | map k t m=>
   obtain ⟨h1,h2,h3,c,es,h6,h7,h8⟩:=hO;exact ⟨h1,h2,h3,c,es,h6,h7,h8.mono (fun _ _ _ h=>h) hok⟩
  | vv k s t xss pend eo ei=>
   obtain ⟨h1,h2,h3,h6,h7,h8,h9,h10⟩:=hO;refine ⟨h1,h2,h3,h6,h7,h8,h9,⟨h10.flat,fun i hi hp=>?_,h10.apart,(fun j ys hp=>?_),h10.short⟩⟩
   ·obtain ⟨vs,q1,q2,q3⟩:=h10.row i hi hp;exact ⟨vs,q1,q2,fun i hi=>(q3 i hi).mono (fun _ _ _ h=>h) hok⟩
   obtain ⟨h11,⟨vs,q1,q2,q3⟩,h12⟩:=h10.grown j ys hp;exact ⟨h11,⟨vs,q1,q2,fun i hi=>(q3 i hi).mono (fun _ _ _ h=>h) hok⟩,h12⟩
  | mit m s l c=>
   simp only[swO];by_cases e:m=a
   ·rw[e,gU];trivial
   rw[lV e];obtain ⟨h1,h2,r,bm,h3,h5,h6⟩:=hO;refine ⟨h1,hhas m h2,r,bm,h3,h5,fun e1=>?_⟩;simp only[envOf];rw[hlo m e];exact h6 e1
  | cells l e=>
   obtain ⟨h0,c,vs,h6,h7,h8⟩:=hO;exact ⟨h0,c,vs,h6,h7,hrelL h8⟩
  | vec v t xs e=>
   obtain ⟨h8,h9,h10,h11,vs,h12,h13⟩:=hO;exact ⟨h8,h9,h10,h11,vs,h12,fun i hi=>(h13 i hi).mono (fun _ _ _ h=>h) hok⟩
  | fro v t xs=>
   obtain ⟨h8,h9,h10⟩:=hO;exact ⟨h8,h9,h10.mono (fun _ _ _ h=>h) hok⟩
 obtain ⟨m,o₁,h1,h2,e1,e2⟩:=hown1 k o c hk hc;obtain ⟨m',o₂,h3,h4,e3,e4⟩:=hown1 k' o' c hk' hc';have:=hI.sep m m' o₁ o₂ c h1 h3 h2 h4;rw[e1,e3] at this;by_cases q1:k=a
 ·by_cases q2:k'=a
  ·rw[q1,q2]
  rw[aD q1,aC q2] at this;exact absurd this.symm e4
 by_cases q2:k'=a
 ·rw[aC q1,aD q2] at this;exact absurd this e2
 rw[aC q1,aC q2] at this;exact this
theorem aG7 {loc:Nat->Loc} (hab:a≠b) (ha:a<H.length) {c:Nat} (hcb:fK (hget H b)=true) (h:aliN (swH a b H) (swL a b loc) c):aliN H loc c:=by
 obtain ⟨nm,st,n,it,h1,h2⟩:=h;rcases Rl hab ha h1 with ⟨_,e⟩ | ⟨rfl,e⟩ | ⟨q1,q2,o',h3,e⟩
 ·cases e
 ·have:=aCf e.symm;rw[this] at hcb;cases hcb
 have:=aCf e.symm;subst this;rw[show swL a b loc nm=loc nm from aC q1] at h2;exact ⟨nm,st,n,it,h3,h2⟩
theorem aNl {E0:Env} {D:List Nat} {loc:Nat->Loc} {ver:Nat->Nat} {w:World} (hI:Inv G H loc ver w) (hab:a≠b) (hca:fK (hget H a)=true) (hcb:fK (hget H b)=true) (hD:mem a D=true) (hb0:∀nm,E0.has nm=true->nm≠b)
  (hx:ExtO D E0 (envOf G H loc ver w)):ExtO D E0 (envOf G (swH a b H) (swL a b loc) ver w):=by
 obtain ⟨hI2,hok,hrel⟩:=aG6 hI hab hca hcb;obtain ⟨la,ea,hga,hga'⟩:=zF hca;obtain ⟨lb,eb,hgb,hgb'⟩:=zF hcb;have hal:a<H.length:=(aL.1 hga).1;have hbl:b<H.length:=(aL.1 hgb).1;have hlo:∀nm,nm≠a->swL a b loc nm=loc nm:=fun nm h=>aC h;have hna:∀nm,mem nm D=false->nm≠a:=fun nm h e=>by subst e;rw[hD] at h;cases h
 refine ⟨hx.blk,fun c hc=>hok c (hx.ok c hc),fun nm hn=>aCh hal hbl hab hcb (hx.num nm hn),fun nm hn hm=>?_,hx.size,hx.keep,fun nm c hc=>?_,fun nm c hn hc=>?_,fun c hc=>hx.ali c (aG7 hab hal hcb hc),hx.itr,fun nm hn hm he=>?_⟩
 ·have:=hx.ver nm hn hm;simp only[envOf] at this ⊢;rw[hlo nm (hna nm hm)];exact this
 ·obtain ⟨h1,h2⟩:=hx.gho nm c hc;refine ⟨?_,h2⟩;have h3:H[nm]? =some .gone:=h1.1;have e1:nm≠a:=fun e=>by rw[e,hga] at h3;cases h3
  have e2:nm≠b:=fun e=>by rw[e,hgb] at h3;cases h3
  exact ⟨aCg hbl e1 e2 h1.1,by rw[hlo nm e1];exact h1.2⟩
 ·refine hx.gho' nm c hn ?_;obtain ⟨h1,h2⟩:=hc;rcases Rl hab hal h1 with ⟨_,e⟩ | ⟨rfl,e⟩ | ⟨q1,q2,o',h3,e⟩
  ·cases e
  ·have:=Vk e.symm;rw[this] at hcb;cases hcb
  have:=Vk e.symm;subst this;rw[hlo nm q1] at h2;exact ⟨h3,h2⟩
 have:=hx.sub nm hn hm;simp only[envOf] at this ⊢;rw[hlo nm (hna nm hm)];exact this he
end
theorem Bp {objs:List Nat} {n:Nat}:∀ {D:List Nat},rH objs n D=true->rH objs n (D++objs)=true:=by
 intro D
 induction D with
 | nil=>
  intro _;have:∀(O:List Nat),(∀m,mem m O=true->mem m objs=true)->rH objs n O=true:=by
   intro O
   induction O with
   | nil=>intro _;rfl
   | cons y r ih2=>
    intro hy;simp only[rH,aE,cQ];exact ⟨.inl (hy y (by simp[mem,gU])),ih2 fun m hm=>hy m (by simp[mem,hm])⟩
  exact this objs fun _ h=>h
 | cons y r ih2=>
  intro hy;simp only[gN,rH,aE] at hy ⊢;exact ⟨hy.1,ih2 hy.2⟩
theorem Dv {H:List HO} {loc0:Nat->Loc} {ver0:Nat->Nat} {w0:World} {l l':List (Nat × SV)} {a0 a:Act} {an:Ann} {x:an.X} {ws D:List Nat}
  (hI0:Inv G H loc0 ver0 w0) (hT0:TRel (envOf G H loc0 ver0 w0) N l a0) (hI:Inv G H' loc ver w) (hTR:TRel (envOf G H' loc ver w) N l' a) (hx:ExtO D (envOf G H loc0 ver0 w0) (envOf G H' loc ver w)) (hs:Same ws a0 a)
  (hlen:(an.heap x H).length=H.length) (hgs:Gy H (an.heap x H)=true) (hD:rH an.objs H.length D=true) (h:vP an x H l' H'):
  Inv G (an.heap x H) loc (iQ an.objs (an.heap x H) ver) w/\TRel (envOf G (an.heap x H) loc (iQ an.objs (an.heap x H) ver) w) N (annL an x ws l H) a/\
   ExtO an.objs (envOf G H loc0 ver0 w0) (envOf G (an.heap x H) loc (iQ an.objs (an.heap x H) ver) w):=by
 obtain ⟨hm,hh⟩:=h.ent;have hh:=qE hh;obtain ⟨hI2,hok⟩:=xJ hI (qY hlen.symm) hh;have hxx:=xK hx (qY hlen.symm) (fun nm hn=>uM hgs hn) hD hh hok;refine ⟨hI2,⟨hTR.size,?_⟩,hxx⟩;refine Of _ _ (fun t=>?_) (Vj hI (fun m hm=>EntS.has hh m om) hok hTR hm);rcases Fm ws an.objs l t with e | ⟨e1,e2,e3⟩
 ·rw[e];exact .any _
 rw[e1,hs t e2];have h0:=hT0.rel t;refine h0.move (E':=envOf G (an.heap x H) loc (iQ an.objs (an.heap x H) ver) w) (p:=fun m=> !mem m an.objs) (fun nm hp hlt=>?_) (fun nm hp hn he=>hxx.sub nm hn (by simpa using hp) he) (fun _=>hxx.itr) hxx.keepC hxx.ok (Ap e3);have h2:mem nm an.objs=false:=by simpa using hp
 exact ⟨hxx.num nm hlt,hxx.ver nm hlt h2⟩
end
end Go.Eng
end
section
namespace Go.Eng
open Go.RowKit
section
variable {P:Program} {G:Ctx} {N:Nat}
theorem tF {ops:Array Oper} {a:Act} {j t:Nat} (hd:(ops[j]?).bind (·.dst)=some t) {b:Bool} (h:a.tmps.getD t undef= .bool b):yielded ops a.tmps j=some b:=by
 unfold yielded;rw[hd];simp only[oI];rw[bM] at h;cases ht:a.tmps[t]? with
 | none=>rw[ht] at h;cases h
 | some v=>rw[ht] at h;simp at h;rw[h]
theorem Bq {ops:Array Oper} {a:Act} {j t:Nat} (hd:(ops[j]?).bind (·.dst)=some t) (h:a.tmps.getD t undef= .tuple ⟨[]⟩):yielded ops a.tmps j=none:=by
 unfold yielded;rw[hd,oI];cases he:a.tmps[t]? with
 | none=>rfl
 | some v=>
  rw[bM,he] at h;simp only[oJ] at h;rw[h]
theorem TRel.learn {E:Env} {l:List (Nat × SV)} {a:Act} (h:TRel E N l a) {t:Nat} {s:SV} (hs:Rel E s (a.tmps.getD t undef)):TRel E N (Eng.put l t s) a:=by
 refine ⟨h.size,fun u=>?_⟩;rw[qO];by_cases e:u=t
 ·rw[aD e,e];exact hs
 rw[aC e];exact h.rel u
theorem Dw {E:Env} {ops:Array Oper} {l:List (Nat × SV)} {a:Act} (hT:TRel E N l a) {o:Oper} {yes no:List (Nat × SV)->Prop} (h:vN ops.toList l o.guard yes no):
  ∃l',TRel E N l' a/\((Region.wanted o (yielded ops a.tmps)=true/\yes l')\/(Region.wanted o (yielded ops a.tmps)=false/\no l')):=by
 unfold vN at h;cases hg:o.guard with
 | none=>rw[hg] at h;exact ⟨l,hT,.inl ⟨by simp[Region.wanted,hg],h⟩⟩
 | some p=>
  obtain ⟨j,want⟩:=p;rw[hg] at h;simp only at h;split at h
  ·cases h
  rename_i t hd;have hd':(ops[j]?).bind (·.dst)=some t:=by simpa using hd
  have hr:=hT.rel t;split at h
  ·rename_i hl;rw[hl] at hr;have hy:=tF hd' hr.bool_inv;cases want with
   | true=>exact ⟨l,hT,.inl ⟨by simp[Region.wanted,hg,hy],h⟩⟩
   | false=>exact ⟨l,hT,.inr ⟨by simp[Region.wanted,hg,hy],h⟩⟩
  ·rename_i hl;rw[hl] at hr;have hy:=tF hd' hr.bool_inv;cases want with
   | true=>exact ⟨l,hT,.inr ⟨by simp[Region.wanted,hg,hy],h⟩⟩
   | false=>exact ⟨l,hT,.inl ⟨by simp[Region.wanted,hg,hy],h⟩⟩
  ·rename_i p d hl;rw[hl] at hr;generalize hv:a.tmps.getD t undef=v at hr;cases hr;have hy:=tF hd' hv;have hT1:p->TRel E N (put l t (.val (.bool true))) a:=fun hp=>hT.learn (by rw[hv];simp[hp];exact .val _ trivial);have hT0:¬p->TRel E N (put l t (.val (.bool false))) a:=fun hp=>hT.learn (by rw[hv];simp[hp];exact .val _ trivial);by_cases hp:p
   ·cases want with
    | true=>exact ⟨_,hT1 hp,.inl ⟨by simp[Region.wanted,hg,hy,hp],by have:=h.yes hp;rwa [bY] at this⟩⟩
    | false=>exact ⟨_,hT1 hp,.inr ⟨by simp[Region.wanted,hg,hy,hp],by have:=h.yes hp;rwa [bY] at this⟩⟩
   cases want with
   | true=>exact ⟨_,hT0 hp,.inr ⟨by simp[Region.wanted,hg,hy,hp],by have:=h.no hp;rwa [bY] at this⟩⟩
   | false=>exact ⟨_,hT0 hp,.inl ⟨by simp[Region.wanted,hg,hy,hp],by have:=h.no hp;rwa [bY] at this⟩⟩
  ·rename_i hl;rw[hl] at hr;generalize hv:a.tmps.getD t undef=v at hr;cases hr with
   | tup _ vs hl'=>cases hl';exact ⟨l,hT,.inr ⟨by simp[Region.wanted,hg,Bq hd' hv],h⟩⟩
  cases h
theorem zG {ops:List Oper} {o:Oper} (ho:o∈ops) {t:Nat} (ht:o.dst=some t):mem t (ops.filterMap (·.dst))=true:=by
 induction ops with
 | nil=>simp at ho
 | cons x r ih=>
  rcases bH.1 ho with rfl | ho
  ·simp[List.filterMap_cons,ht,mem,gU]
  have:=ih ho;simp only[List.filterMap_cons];split
  ·exact this
  simp[mem,this]
theorem Mz (hY:COK P G) {Γ:List Con} (hΓ:∀c∈Γ,aO P c) {F:Fence} (hF:Opn F) {n:Nat} {ops:Array Oper}:∀(rest:List Oper) (k:Nat),ops.toList.drop k=rest->
  ∀ {H:List HO} {loc:Nat->Loc} {ver:Nat->Nat} {w:World} {l:List (Nat × SV)} {a:Act} {K:List (Nat × SV)->List HO->Prop} {Q:Exit->Act->World->Prop},
  Inv G H loc ver w->TRel (envOf G H loc ver w) N l a->pE P Γ N ops.toList rest l H K->
  (∀l' H' loc' ver' a' w',K l' H'->Inv G H' loc' ver' w'->TRel (envOf G H' loc' ver' w') N l' a'->Ext (envOf G H loc ver w) (envOf G H' loc' ver' w')->Same (ops.toList.filterMap (·.dst)) a a'->a'.defers=a.defers->Q .normal a' w')->
  wpOpsIn F n P ops Q (List.range' k rest.length) a w:=by
 intro rest
 induction rest with
 | nil=>
  intro k hk H loc ver w l a K Q hI hT h hQ;exact hQ l H loc ver a w h hI hT (Ext.refl _) (Same.refl _ _) rfl
 | cons o r ih=>
  intro k hk H loc ver w l a K Q hI hT h hQ;have hko:ops[k]? =some o:=by
   have:(ops.toList.drop k)[0]? =some o:=by rw[hk];rfl
   rw[bD] at this;simpa using this
  have hmem:o∈ops.toList:=by
   have:=aF.1 hko;obtain ⟨hlt,rfl⟩:=this;simp
  have hkr:ops.toList.drop (k+1)=r:=by
   rw[<- gE,hk];rfl
  simp only[bS,List.range'_succ,wpOpsIn,hko];simp only[Df] at h;obtain ⟨l',hT',⟨hw,h⟩ | ⟨hw,h⟩⟩:=Dw hT h
  ·rw[aD hw];obtain ⟨hnd,hok⟩:=rN hY hΓ hF hI hT' h;refine hok.wpIn hF hnd ?_;rintro v w' ⟨s,H',loc',ver',hk',hI',hr',hx'⟩;obtain ⟨l'',hk'',hT''⟩:=(hT'.ext hx').any o.dst hk' hr';refine ih (k+1) hkr hI' hT'' hk'' ?_;intro l3 H3 loc3 ver3 a3 w3 h3 hI3 hT3 hx3 hs3 hd3;refine hQ l3 H3 loc3 ver3 a3 w3 h3 hI3 hT3 (hx'.trans hx3) ((Same.put a o.dst v fun t ht=>zG hmem ht).trans hs3) (hd3.trans ?_);cases o.dst<;>rfl
  rw[aC (by rw[hw];simp)];refine ⟨fun f _=>hF.fn f,?_⟩;obtain ⟨l'',hk'',hT''⟩:=hT'.any o.dst h (.tup [] [] .nil);refine ih (k+1) hkr hI hT'' hk'' ?_;intro l3 H3 loc3 ver3 a3 w3 h3 hI3 hT3 hx3 hs3 hd3;refine hQ l3 H3 loc3 ver3 a3 w3 h3 hI3 hT3 hx3 ((Same.put a o.dst undef fun t ht=>zG hmem ht).trans hs3) (hd3.trans ?_);cases o.dst<;>rfl
def Cl (D:Nat):Deferred:={ target:=.collected D,args:= #[] }
def Marked (E E':Env) (ds ds':List Deferred):Prop:=
 ∃Ds:List Nat,ds'=Ds.map Cl++ds/\Ds.Nodup/\∀D∈Ds,E.w.heap.size<=D/\¬E'.ali D/\E'.w.heap[D]? =some (.deferred (some []))
theorem Marked.refl (E E':Env) (ds:List Deferred):Marked E E' ds ds:=⟨[],rfl,List.nodup_nil,fun _ h=>by cases h⟩
theorem Marked.ext {O:List Nat} {E E' E'':Env} {ds ds':List Deferred} (h:Marked E E' ds ds') (x:ExtO O E' E''):Marked E E'' ds ds':=by
 obtain ⟨Ds,h1,h2,h3⟩:=h;refine ⟨Ds,h1,h2,fun D hD=>?_⟩;obtain ⟨h4,h5,h6⟩:=h3 D hD;refine ⟨h4,fun h=>?_,x.keep D _ h5 h6 rfl⟩;rcases x.ali D h with h7 | h7
 ·exact h5 h7
 have:=(aF.1 h6).1;omega
theorem Marked.trans {O:List Nat} {E E' E'':Env} {ds ds' ds'':List Deferred} (h:Marked E E' ds ds') (hs:E.w.heap.size<=E'.w.heap.size) (x:ExtO O E' E'') (k:Marked E' E'' ds' ds''):Marked E E'' ds ds'':=by
 obtain ⟨Es,k1,k2,k3⟩:=k;obtain ⟨Ds,h1,h2,h3⟩:=h;have hx:=Marked.ext ⟨Ds,rfl,h2,h3⟩ x (ds:=ds);obtain ⟨Ds',e1,e2,e3⟩:=hx;refine ⟨Es++Ds,by rw[k1,h1];simp,?_,fun D hD=>?_⟩
 ·rw[List.nodup_append];refine ⟨k2,h2,fun a ha b hb e=>?_⟩;subst e;have h4:=(k3 a ha).1;have h5:=(h3 a hb).2.2;have:=(aF.1 h5).1;omega
 rcases cE.1 hD with hD | hD
 ·obtain ⟨h4,h5⟩:=k3 D hD;exact ⟨bL hs h4,h5⟩
 obtain ⟨h4,h5,h6⟩:=h3 D hD;refine ⟨h4,fun h=>?_,x.keep D _ h5 h6 rfl⟩;rcases x.ali D h with h7 | h7
 ·exact h5 h7
 have:=(aF.1 h6).1;omega
theorem Marked.of_eq {E E':Env} {ds ds':List Deferred} (h:ds'=ds):Marked E E' ds ds':=by subst h;exact .refl _ _ _
def RoundOK (F:Fence) (E:Env):Prop:=∀l,F.round=some l->¬E.ali l/\∃r,E.w.heap[l]? =some (.loop r)
theorem RoundOK.ext {F:Fence} {O:List Nat} {E E':Env} (h:RoundOK F E) (x:ExtO O E E'):RoundOK F E':=fun l hl=>by
 obtain ⟨h1,r,h2⟩:=h l hl;refine ⟨fun h=>?_,r,x.keep l _ h1 h2 rfl⟩;rcases x.ali l h with h7 | h7
 ·exact h1 h7
 have:=(aF.1 h2).1;omega
def After (G:Ctx) (N:Nat) (ws D:List Nat) (K:Exit->List (Nat × SV)->List HO->Prop) (E:Env) (a:Act) (e:Exit) (a':Act) (w':World):Prop:=
 ∃l' H' loc' ver',K e l' H'/\Inv G H' loc' ver' w'/\TRel (envOf G H' loc' ver' w') N l' a'/\ExtO D E (envOf G H' loc' ver' w')/\Same ws a a'/\Marked E (envOf G H' loc' ver' w') a.defers a'.defers
theorem After.mono {ws ws' D D':List Nat} {K K':Exit->List (Nat × SV)->List HO->Prop} {E:Env} {a:Act} {e:Exit} {a':Act} {w':World} (h:After G N ws D K E a e a' w') (hw:∀n,mem n ws=true->mem n ws'=true) (hd:∀n,mem n D=true->mem n D'=true) (hk:∀l H,K e l H->K' e l H):After G N ws' D' K' E a e a' w':=
 let ⟨l',H',loc',ver',h1,h2,h3,h4,h5,h6⟩:=h
 ⟨l',H',loc',ver',hk _ _ h1,h2,h3,h4.mono hd,h5.mono hw,h6⟩
theorem After.trans {ws D:List Nat} {K:Exit->List (Nat × SV)->List HO->Prop} {E E':Env} {a a' a'':Act} {e:Exit} {w'':World} (hx:ExtO D E E') (hs:Same ws a a') (hd:Marked E E' a.defers a'.defers) (h:After G N ws D K E' a' e a'' w''):After G N ws D K E a e a'' w'':=
 let ⟨l',H',loc',ver',h1,h2,h3,h4,h5,h6⟩:=h
 ⟨l',H',loc',ver',h1,h2,h3,hx.trans h4,hs.trans h5,hd.trans hx.size h4 h6⟩
def Og (P:Program) (G:Ctx) (N:Nat) (Γ:List Con) (A:Anns) (key:Nat) (c:Code):Prop:=
 ∀ {F:Fence} {n:Nat},Opn F->∀ {H:List HO} {loc:Nat->Loc} {ver:Nat->Nat} {w:World} {l:List (Nat × SV)} {a:Act} {K:Exit->List (Nat × SV)->List HO->Prop},
  Inv G H loc ver w->TRel (envOf G H loc ver w) N l a->RoundOK F (envOf G H loc ver w)->exec P Γ N A key c l H K->c.wpIn F n P (After G N (gC c) (dI A key c) K (envOf G H loc ver w) a) a w
theorem yL (a b:List Nat) (n:Nat) (h:mem n a=true):mem n (a++b)=true:=by rw[mem_append,h];rfl
theorem Hm (a b:List Nat) (n:Nat) (h:mem n b=true):mem n (a++b)=true:=by rw[mem_append,h];simp
end
end Go.Eng
end
section
namespace Go.Eng
open Go.RowKit
section
variable {P:Program} {G:Ctx} {N:Nat} {H:List HO} {loc:Nat->Loc} {ver:Nat->Nat} {w:World}
theorem alien (hI:Inv G H loc ver w) {h:Nat} (hg:H[h]? =some .gone) {w':World} (hos:w'.os=w.os) (htp:w'.tape=w.tape) (hout:w'.output=w.output) (hsz:w.heap.size<=w'.heap.size) (al':Nat->Prop)
  (hal:∀b,al' b->(loc h).al b\/(w.heap.size<=b/\b<w'.heap.size)) (hblk:∀b,b<w.heap.size->¬(loc h).al b->w'.heap[b]? =w.heap[b]?):
  Inv G H (upd loc h { loc h with al:=al' }) (upd ver h (ver h+1)) w'/\Ext0 (envOf G H loc ver w) (envOf G H (upd loc h { loc h with al:=al' }) (upd ver h (ver h+1)) w'):=by
 have hO:=hI.objs h _ hg;refine hI.turn0 h (aN _) (fun k hk=>⟨rfl,cW _ _ _ hk,cW _ _ _ hk⟩) (fun h=>h) (fun _=>.inr ⟨hO.1,by rw[aW];omega⟩) hsz hos htp hout (fun b hb hno=>hblk b hb (hno _ hg)) ?_ ?_ ?_
 ·intro o' b ho' hb;rw[hg] at ho';cases ho';rw[aW] at hb;rcases hal b hb with h1 | h1
  ·exact .inl ⟨_,hg,h1⟩
  exact .inr h1.1
 ·intro st n it b hy;rw[hg] at hy;cases hy
 intro hx o' ho';rw[hg] at ho';cases ho';rw[aW,aW];refine ⟨mC _,fun b hb=>?_⟩;rcases hal b hb with h1 | h1
 ·exact aZ (hO.2 b h1) hsz
 exact h1.2
theorem ExtO.alien {O:List Nat} {E0:Env} {H2:List HO} {loc':Nat->Loc} {ver':Nat->Nat} {w':World} {h:Nat} (hx:ExtO O E0 (envOf G H loc ver w)) (hx0:Ext0 (envOf G H loc ver w) (envOf G H2 loc' ver' w')) (hn:∀nm,E0.has nm=true->nm<h)
  (hlow:∀b,b<E0.w.heap.size->w'.heap[b]? =w.heap[b]?) (hg0:∀nm b,E0.gho nm b->E0.has nm=true/\b<E0.w.heap.size) (hloc:∀nm,nm<h->H2[nm]? =H[nm]? /\loc' nm=loc nm):ExtO O E0 (envOf G H2 loc' ver' w'):=by
 refine ⟨fun b ho=>(hx0.blk b (hx.ok b ho)).trans (hx.blk b ho),fun b hb=>hx0.ok b (hx.ok b hb),fun nm hn=>hx0.num nm (hx.num nm hn),fun nm hn hm=>?_,bL hx.size hx0.size,fun k o hna hk ho=>?_,fun nm b hb=>?_,fun nm b hn' hb=>?_,fun b hb=>?_,hx0.itr.trans hx.itr,fun nm hn hm he=>?_⟩
 ·rcases hx.ver nm hn hm with ⟨e1,e2⟩ | ⟨e1,e2⟩
  ·rcases hx0.ver nm (hx.num nm hn) with ⟨e3,e4⟩ | ⟨e3,e4⟩
   ·exact .inl ⟨e3.trans e1,e4.trans e2⟩
   exact .inr ⟨om,om⟩
  rcases hx0.ver nm (hx.num nm hn) with ⟨e3,e4⟩ | ⟨e3,e4⟩
  ·exact .inr ⟨e1,om⟩
  exact .inr ⟨e1,om⟩
 ·exact (hlow k (aF.1 hk).1).trans (hx.keep k o hna hk ho)
 ·obtain ⟨h1,h2⟩:=hx.gho nm b hb;obtain ⟨h3,h4⟩:=hg0 nm b hb;exact ⟨⟨by rw[(hloc nm (hn nm h3)).1];exact h1.1,by rw[(hloc nm (hn nm h3)).2];exact h1.2⟩,(hlow b h4).trans h2⟩
 ·exact hx.gho' nm b hn' ⟨by rw[<- (hloc nm (hn nm hn')).1];exact hb.1,by rw[<- (hloc nm (hn nm hn')).2];exact hb.2⟩
 ·rcases hx0.ali b hb with h1 | h1
  ·exact hx.ali b h1
  exact .inr (bL hx.size h1)
 have h1:=hx.ver nm hn hm;have h2:=hx0.ver nm (hx.num nm hn);have e1:(envOf G H loc ver w).ver nm=E0.ver nm:=by
  rcases h1 with ⟨q1,_⟩ | ⟨q1,q2⟩
  ·exact q1
  rcases h2 with ⟨q3,_⟩ | ⟨q3,q4⟩<;>omega
 rcases hx.sub nm hn hm e1 with q1 | q1
 ·rcases hx0.sub nm (hx.num nm hn) om with q2 | q2
  ·exact .inl (q2.trans q1)
  rw[q1] at q2;exact .inr q2
 rcases hx0.sub nm (hx.num nm hn) om with q2 | q2
 ·rw[q2];exact .inr q1
 exact .inr (fM q1 q2)
theorem Reads.cells {w:World} {M:Nat->Prop} {t:Ty} {x:t.T} {cs:List Value} (h:Reads w M t x cs):Reads w (fun b=>M b/\∃c e f,w.heap[b]? =some (.cells c e f)) t x cs:=by
 induction t generalizing cs with
 | int k=>exact h
 | bool=>exact h
 | str=>exact h
 | pair a b iha ihb=>obtain ⟨c1,c2,e,h1,h2⟩:=h;exact ⟨c1,c2,e,iha h1,ihb h2⟩
 | slice t ih=>
  obtain ⟨a,n,c,e,hn,hnc,hm,hall⟩:=h;refine ⟨a,n,c,e,hn,hnc,hm,fun h0=>?_⟩;obtain ⟨b,off,ha,hb,hi⟩:=hall h0;refine ⟨b,off,ha,⟨hb,?_⟩,fun i hlt=>?_⟩
  ·obtain ⟨es,h1,h2,_⟩:=hi 0 h0;have hp:=t.size_pos;have h3:es[0]? =some (es.getD 0 undef):=by
    rw[aB,aM om];rfl
   have h4:=h2 0 _ h3;unfold World.cell? at h4;split at h4
   ·rename_i c e f hx;exact ⟨_,_,_,hx⟩
   cases h4
  obtain ⟨es,h1,h2,h3⟩:=hi i hlt;exact ⟨es,h1,h2,ih h3⟩
theorem Inv.recast (hI:Inv G H loc ver w) {H2:List HO} {loc2:Nat->Loc} {ver2:Nat->Nat}
  (hown:∀b,Owned H2 loc2 b↔Owned H loc b) (hsep:∀nm nm' o o' b,H2[nm]? =some o->H2[nm']? =some o'->Owns (loc2 nm) o b->Owns (loc2 nm') o' b->nm=nm')
  (hobj:∀nm o,H2[nm]? =some o->OSat (envOf G H loc ver w) (loc2 nm) (ver2 nm) o) (hhas:∀nm,hasB H nm=true->hasB H2 nm=true)
  (hver:∀nm,hasB H nm=true->ver2 nm=ver nm/\(loc2 nm).toCore=(loc nm).toCore/\(loc2 nm).sub=(loc nm).sub) (hali:∀b,aliN H2 loc2 b->aliN H loc b):
  Inv G H2 loc2 ver2 w/\Ext0 (envOf G H loc ver w) (envOf G H2 loc2 ver2 w):=by
 have hx:Ext0 (envOf G H loc ver w) (envOf G H2 loc2 ver2 w):=
  ⟨fun _ _=>rfl,fun b hb=>⟨hb.1,hb.2.1,fun h=>hb.2.2 ((hown b).1 h)⟩,hhas,fun nm hn=>.inl ⟨(hver nm hn).1,(hver nm hn).2.1⟩,rfl,rfl,rfl,aN _,fun b hb=>.inl (hali b hb),rfl,fun nm hn _=>.inl (hver nm hn).2.2⟩
 exact ⟨⟨hI.size,hI.os,hI.tape,hI.output,hI.frame,fun nm o ho=>(hobj nm o ho).ext hx fun _ _=>rfl,fun b hb=>hI.own b ((hown b).1 hb),hsep⟩,hx⟩
structure Vs (m:Nat) (E E':Env):Prop where
 has:E.has m=true->E'.has m=true
 ver:E.has m=true->(E'.ver m=E.ver m/\((E'.loc m).sub=(E.loc m).sub\/(E.loc m).sub.v<(E'.loc m).sub.v))\/E.ver m<E'.ver m
theorem Vs.trans {m:Nat} {A B C:Env} (h:Vs m A B) (k:Vs m B C):Vs m A C:=by
 refine ⟨fun hn=>k.has (h.has hn),fun hn=>?_⟩;rcases h.ver hn with ⟨h1,h2⟩ | h1<;>rcases k.ver (h.has hn) with ⟨h3,h4⟩ | h3
 ·refine .inl ⟨h3.trans h1,?_⟩;rcases h2 with h2 | h2
  ·rw[<- h2];exact h4
  rcases h4 with h4 | h4
  ·rw[h4];exact .inr h2
  exact .inr (fM h2 h4)
 ·exact .inr om
 ·exact .inr om
 exact .inr om
theorem Ext0.vs {E E':Env} (x:Ext0 E E') (m:Nat):Vs m E E':=⟨x.num m,fun hn=>by
 rcases x.ver m hn with ⟨h1,_⟩ | ⟨_,h1⟩
 ·exact .inl ⟨h1,x.sub m hn h1⟩
 exact .inr h1⟩
theorem ExtO.vs {D:List Nat} {E E':Env} (x:ExtO D E E') {m:Nat} (hm:mem m D=false):Vs m E E':=⟨x.num m,fun hn=>by
 rcases x.ver m hn hm with ⟨h1,_⟩ | ⟨_,h1⟩
 ·exact .inl ⟨h1,x.sub m hn hm h1⟩
 exact .inr h1⟩
theorem Oi {E E':Env}:∀ {l:List SV} {vs:List Value},RelL E l vs->RelL E' (l.map Tu) vs
 | _,_,.nil=>.nil
 | _,_,.cons _ _ _ _ h hl=>.cons _ _ _ _ (Od h) (Oi hl)
theorem Zh (hI:Inv G H loc ver w) {h:Nat} (hg:H[h]? =some .gone) (hh:H.length=h+1) {M:Nat->Prop} (hM:∀b,M b->(loc h).al b) {vs:List SV} {us:List Value} (hu:RelL (env0 w M) vs us):
  ∃(S:Nat->Option Obj) (loc0:Nat->Loc) (ver0:Nat->Nat),Inv G (H++lntH vs) loc0 ver0 w/\Ext0 (envOf G H loc ver w) (envOf G (H++lntH vs) loc0 ver0 w)/\RelL (envOf G (H++lntH vs) loc0 ver0 w) (lntV (h+1) vs) us/\(H++lntH vs)[h]? =some .gone/\
   (∀nm,nm<h->(H++lntH vs)[nm]? =H[nm]? /\loc0 nm=loc nm)/\(∀b,(loc h).al b->S b=none->(loc0 h).al b)/\(∀b,(loc0 h).al b->(loc h).al b)/\(∀b o,S b=some o->M b/\w.heap[b]? =some o)/\
   ∀(D:List Nat) (H3:List HO) (loc3:Nat->Loc) (ver3:Nat->Nat) (w3:World),Inv G H3 loc3 ver3 w3->H3[h]? =some .gone->aB7 vs (h+1) D H3=true->
    (mem (h+1) D=false->Vs (h+1) (envOf G (H++lntH vs) loc0 ver0 w) (envOf G H3 loc3 ver3 w3))->
    ∃loc4,Inv G (lntX vs (h+1) H3) loc4 ver3 w3/\Ext0 (envOf G H3 loc3 ver3 w3) (envOf G (lntX vs (h+1) H3) loc4 ver3 w3)/\(lntX vs (h+1) H3)[h]? =some .gone/\(∀nm,nm<h->(lntX vs (h+1) H3)[nm]? =H3[nm]? /\loc4 nm=loc3 nm)/\
     (∀b,(loc3 h).al b->(loc4 h).al b)/\(∀b o,S b=some o->(loc4 h).al b/\w3.heap[b]? =some o)/\(∀b,(loc4 h).al b->(loc3 h).al b\/M b):=by
 have other:(∀t xs,vs≠ [.seq t xs])->lntH vs= []/\(∀n,lntV n vs=vs.map Tu)/\∀n H,lntX vs n H=H:=by
  intro hne;refine ⟨?_,fun n=>?_,fun n H=>?_⟩
  ·unfold lntH;split
   ·rename_i t xs;exact (hne t xs rfl).elim
   rfl
  ·unfold lntV;split
   ·rename_i t xs;exact (hne t xs rfl).elim
   rfl
  unfold lntX;split
  ·rename_i t xs;exact (hne t xs rfl).elim
  rfl
 by_cases hs:∃t xs,vs= [.seq t xs];case neg=>
  obtain ⟨e1,e2,e3⟩:=other fun t xs e=>hs ⟨t,xs,e⟩;refine ⟨fun _=>none,loc,ver,?_⟩;rw[e1,e2,eZ];refine ⟨hI,(Ext.refl _).toExt0,Oi hu,hg,fun nm _=>⟨rfl,rfl⟩,fun b hb _=>hb,fun b hb=>hb,(fun b o hb=>by cases hb),fun D H3 loc3 ver3 w3 hI3 hg3 _ _=>?_⟩;rw[e3];exact ⟨loc3,hI3,(Ext.refl _).toExt0,hg3,fun nm _=>⟨rfl,rfl⟩,fun b hb=>hb,(fun b o hb=>by cases hb),fun b hb=>.inl hb⟩
 obtain ⟨t,xs,rfl⟩:=hs;obtain ⟨u,rfl,hu1⟩:∃u,us= [u]/\Rel (env0 w M) (.seq t xs) u:=by
  cases hu with
  | cons _ u _ _ h1 h2=>cases h2;exact ⟨u,rfl,h1⟩
 have hrd:Reads w M (.slice t) xs [u]:=by
  cases hu1 with
  | seq _ _ _ hr=>exact hr
 obtain ⟨S,hS⟩:∃S:Nat->Option Obj,∀b,(∀o,S b=some o->M b/\isBook o=false/\w.heap[b]? =some o)/\(M b->(∃c e f,w.heap[b]? =some (.cells c e f))->∃o,S b=some o):=by
  classical
  refine ⟨fun b=>if M b/\∃c e f,w.heap[b]? =some (.cells c e f) then w.heap[b]? else none,fun b=>⟨fun o ho=>?_,fun h1 h2=>?_⟩⟩
  ·dsimp only at ho;split at ho
   ·rename_i h1;obtain ⟨h2,c,e,f,h3⟩:=h1;rw[h3] at ho;cases ho;exact ⟨h2,rfl,h3⟩
   cases ho
  obtain ⟨c,e,f,h3⟩:=h2;exact ⟨_,(aD ⟨h1,c,e,f,h3⟩).trans h3⟩
 have hO:=hI.objs h _ hg;have hne:h≠H.length:=om;have hlnt:lntH [.seq t xs]= [.lnt 1 t xs]:=rfl;obtain ⟨loc0,hloc0⟩:∃loc0:Nat->Loc,loc0=upd (upd loc h { loc h with al:=fun b=>(loc h).al b/\S b=none }) H.length ⟨⟨none,0,0⟩,fun _=>False,⟨0,fun _=>.slice none 0 0,u,S⟩⟩:=⟨_,rfl⟩;have l1:loc0 H.length= ⟨⟨none,0,0⟩,fun _=>False,⟨0,fun _=>.slice none 0 0,u,S⟩⟩:=by rw[hloc0,aW]
 have l2:loc0 h= { loc h with al:=fun b=>(loc h).al b/\S b=none }:=by rw[hloc0,cW _ _ _ hne,aW]
 have l3:∀nm,nm≠H.length->nm≠h->loc0 nm=loc nm:=fun nm h1 h2=>by rw[hloc0,cW _ _ _ h1,cW _ _ _ h2]
 have hold:∀ {nm:Nat} {o:HO},(H++ [.lnt 1 t xs])[nm]? =some o->(nm=H.length/\o= .lnt 1 t xs)\/(nm≠H.length/\H[nm]? =some o):=by
  intro nm o ho;by_cases e:nm=H.length
  ·subst e;rw[gT] at ho;cases ho;exact .inl ⟨rfl,rfl⟩
  rw[iO e] at ho;exact .inr ⟨e,ho⟩
 have hto:∀ {nm:Nat} {o:HO} {b:Nat},nm≠H.length->H[nm]? =some o->Owns (loc0 nm) o b->Owns (loc nm) o b/\(nm=h->S b=none):=by
  intro nm o b e ho hb;by_cases e2:nm=h
  ·subst e2;rw[hg] at ho;cases ho;rw[l2] at hb;exact ⟨hb.1,fun _=>hb.2⟩
  rw[l3 nm e e2] at hb;exact ⟨hb,fun e=>(e2 e).elim⟩
 have hr:=hI.recast (H2:=H++ [.lnt 1 t xs]) (loc2:=loc0) (ver2:=upd ver H.length 1) (fun b=>⟨?_,?_⟩) ?_ ?_ ?_ ?_ ?_
 ·obtain ⟨hI0,hx0⟩:=hr;refine ⟨S,loc0,upd ver H.length 1,?_⟩;rw[hlnt];refine ⟨hI0,hx0,.cons _ _ _ _ ?_ .nil,by rw[iO hne];exact hg,fun nm hlt=>⟨iO om,l3 nm om om⟩,fun b h1 h2=>by rw[l2];exact ⟨h1,h2⟩,fun b hb=>by rw[l2] at hb;exact hb.1,fun b o hb=>⟨((hS b).1 o hb).1,((hS b).1 o hb).2.2⟩,?_⟩
  ·rw[<- hh];exact .subp _ _ _ _ (by exact lD rfl) Nat.one_pos (by simp[envOf,aW]) (fun _=>aK _) fun _ _=>by simp only[envOf];rw[l1]
  intro D H3 loc3 ver3 w3 hI3 hg3 hok hvs;rw[<- hh] at hok hvs ⊢;have hok':(Uf (hget H3 H.length)&& !mem H.length D)=true:=hok;simp only[aE] at hok';have hmD:mem H.length D=false:=by simpa using hok'.2
  obtain ⟨t',ys,hl3⟩:∃t' ys,hget H3 H.length= .lnt 1 t' ys:=by
   have h1:=hok'.1;unfold Uf at h1;split at h1
   ·rename_i t' ys e;exact ⟨t',ys,e⟩
   cases h1
  have hl3':=aX hl3 si;obtain ⟨q1,q2,q3,q4,q5⟩:=hI3.objs _ _ hl3';have hsub:(loc3 H.length).sub=(loc0 H.length).sub:=by
   rcases (hvs hmD).ver (by exact lD rfl) with ⟨h1,h2⟩ | h1
   ·rcases h2 with h2 | h2
    ·exact h2
    have h3:(loc0 H.length).sub.v<(loc3 H.length).sub.v:=h2;omega
   have h3:(upd ver H.length 1) H.length<ver3 H.length:=h1;rw[aW] at h3;omega
  have hsnap:(loc3 H.length).sub.snap=S:=by rw[hsub,l1]
  have hne3:h≠H.length:=hne;obtain ⟨loc4,hloc4⟩:∃loc4:Nat->Loc,loc4=upd loc3 h { loc3 h with al:=fun b=>(loc3 h).al b\/∃o,S b=some o }:=⟨_,rfl⟩;have k1:loc4 h= { loc3 h with al:=fun b=>(loc3 h).al b\/∃o,S b=some o }:=by rw[hloc4,aW]
  have k2:∀nm,nm≠h->loc4 nm=loc3 nm:=fun nm e=>by rw[hloc4,cW _ _ _ e]
  have hlt3:H.length<H3.length:=(aL.1 hl3').1;have hX:lntX [.seq t xs] H.length H3=H3.set H.length .dead:=rfl;have hg4:(H3.set H.length .dead)[h]? =some .gone:=by rw[bZ hne3];exact hg3
  have hS3:∀b o,S b=some o->w3.heap[b]? =some o:=fun b o hb=>(q4 b o (by rw[hsnap];exact hb)).2;have hgone3:=hI3.objs h _ hg3;have hold3:∀ {nm:Nat} {o:HO},(H3.set H.length .dead)[nm]? =some o->(nm=H.length/\o= .dead)\/(nm≠H.length/\H3[nm]? =some o):=by
   intro nm o ho;by_cases e:nm=H.length
   ·subst e;rw[aQ hlt3] at ho;cases ho;exact .inl ⟨rfl,rfl⟩
   rw[bZ e] at ho;exact .inr ⟨e,ho⟩
  have hr4:=hI3.recast (H2:=H3.set H.length .dead) (loc2:=loc4) (ver2:=ver3) (fun b=>⟨?_,?_⟩) ?_ ?_ ?_ ?_ ?_
  ·rw[hX];refine ⟨loc4,hr4.1,hr4.2,hg4,fun nm hlt=>⟨bZ om,k2 nm om⟩,fun b hb=>by rw[k1];exact .inl hb,fun b o hb=>⟨by rw[k1];exact .inr ⟨o,hb⟩,hS3 b o hb⟩,fun b hb=>?_⟩;rw[k1] at hb;rcases hb with hb | ⟨o,hb⟩
   ·exact .inl hb
   exact .inr ((hS b).1 o hb).1
  ·rintro ⟨nm,o,ho,hb⟩;rcases hold3 ho with ⟨rfl,rfl⟩ | ⟨e,ho⟩
   ·cases hb
   by_cases e2:nm=h
   ·subst e2;rw[hg3] at ho;cases ho;rw[k1] at hb;rcases hb with hb | ⟨x,hb⟩
    ·exact ⟨_,_,hg3,hb⟩
    exact ⟨H.length,_,hl3',⟨x,by rw[hsnap];exact hb⟩⟩
   rw[k2 nm e2] at hb;exact ⟨nm,o,ho,hb⟩
  ·rintro ⟨nm,o,ho,hb⟩;by_cases e:nm=H.length
   ·subst e;rw[hl3'] at ho;cases ho;obtain ⟨x,hb⟩:=hb;rw[hsnap] at hb;exact ⟨h,_,hg4,by rw[k1];exact .inr ⟨x,hb⟩⟩
   by_cases e2:nm=h
   ·subst e2;rw[hg3] at ho;cases ho;exact ⟨nm,_,hg4,by rw[k1];exact .inl hb⟩
   exact ⟨nm,o,by rw[bZ e];exact ho,by rw[k2 nm e2];exact hb⟩
  ·have key:∀ {nm o b},(H3.set H.length .dead)[nm]? =some o->Owns (loc4 nm) o b->(nm≠h/\H3[nm]? =some o/\Owns (loc3 nm) o b/\nm≠H.length)\/(nm=h/\((loc3 h).al b\/∃x,S b=some x)):=by
    intro nm o b ho hb;rcases hold3 ho with ⟨rfl,rfl⟩ | ⟨e,ho⟩
    ·cases hb
    by_cases e2:nm=h
    ·subst e2;rw[hg3] at ho;cases ho;rw[k1] at hb;exact .inr ⟨rfl,hb⟩
    rw[k2 nm e2] at hb;exact .inl ⟨e2,ho,hb,e⟩
   have key2:∀ {nm o b},nm≠h->H3[nm]? =some o->Owns (loc3 nm) o b->nm≠H.length->((loc3 h).al b\/∃x,S b=some x)->False:=by
    intro nm o b e1 ho hb e2 hor;rcases hor with hor | ⟨x,hor⟩
    ·exact e1 (hI3.sep nm h _ _ b ho hg3 hb hor)
    exact e2 (hI3.sep nm H.length _ _ b ho hl3' hb ⟨x,by rw[hsnap];exact hor⟩)
   intro nm nm' o o' b ho ho' hb hb';rcases key ho hb with ⟨e1,h1,h2,h3⟩ | ⟨e1,h1⟩<;>rcases key ho' hb' with ⟨e2,h4,h5,h6⟩ | ⟨e2,h4⟩
   ·exact hI3.sep nm nm' _ _ b h1 h4 h2 h5
   ·exact (key2 e1 h1 h2 h3 h4).elim
   ·exact (key2 e2 h4 h5 h6 h1).elim
   rw[e1,e2]
  ·intro nm o ho;rcases hold3 ho with ⟨rfl,rfl⟩ | ⟨e,ho⟩
   ·trivial
   by_cases e2:nm=h
   ·subst e2;rw[hg3] at ho;cases ho;rw[k1];refine ⟨hgone3.1,fun b hb=>?_⟩;rcases hb with hb | ⟨x,hb⟩
    ·exact hgone3.2 b hb
    exact (aF.1 (hS3 b x hb)).1
   rw[k2 nm e2];exact hI3.objs nm o ho
  ·intro nm hn;by_cases e:nm=H.length
   ·subst e;exact eM (aQ hlt3) rfl
   exact Ch (bZ e) hn
  ·intro nm hn;by_cases e:nm=h
   ·subst e;rw[k1];exact ⟨rfl,rfl,rfl⟩
   rw[k2 nm e];exact ⟨rfl,rfl,rfl⟩
  rintro b ⟨nm,st,n,it,ho,hb⟩;rcases hold3 ho with ⟨rfl,e⟩ | ⟨e,ho⟩
  ·cases e
  have e2:nm≠h:=fun e2=>by subst e2;rw[hg3] at ho;cases ho
  rw[k2 nm e2] at hb;exact ⟨nm,st,n,it,ho,hb⟩
 ·rintro ⟨nm,o,ho,hb⟩;rcases hold ho with ⟨rfl,rfl⟩ | ⟨e,ho⟩
  ·obtain ⟨x,hb⟩:=hb;rw[l1] at hb;exact ⟨h,_,hg,hM b ((hS b).1 x hb).1⟩
  exact ⟨nm,o,ho,(hto e ho hb).1⟩
 ·rintro ⟨nm,o,ho,hb⟩;have e:nm≠H.length:=fun e=>by have:=(aL.1 ho).1;omega
  by_cases e2:nm=h
  ·subst e2;rw[hg] at ho;cases ho;cases hs:S b with
   | none=>exact ⟨nm,_,by rw[iO e];exact hg,by rw[l2];exact ⟨hb,hs⟩⟩
   | some x=>exact ⟨H.length,_,gT,⟨x,by rw[l1];exact hs⟩⟩
  exact ⟨nm,o,by rw[iO e];exact ho,by rw[l3 nm e e2];exact hb⟩
 ·have key:∀ {nm o b},nm≠H.length->H[nm]? =some o->Owns (loc0 nm) o b->Owns (loc0 H.length) (.lnt 1 t xs) b->False:=by
   intro nm o b e ho hb hb';obtain ⟨x,hb'⟩:=hb';rw[l1] at hb';have hb':S b=some x:=hb';obtain ⟨h1,h2⟩:=hto e ho hb;have h3:=hI.sep nm h _ _ b ho hg h1 (hM b ((hS b).1 x hb').1);rw[h2 h3] at hb';cases hb'
  intro nm nm' o o' b ho ho' hb hb';rcases hold ho with ⟨rfl,rfl⟩ | ⟨e,ho⟩<;>rcases hold ho' with ⟨rfl,rfl⟩ | ⟨e',ho'⟩
  ·rfl
  ·exact (key e' ho' hb' hb).elim
  ·exact (key e ho hb hb').elim
  exact hI.sep nm nm' _ _ b ho ho' (hto e ho hb).1 (hto e' ho' hb').1
 ·intro nm o ho;rcases hold ho with ⟨rfl,rfl⟩ | ⟨e,ho⟩
  ·rw[l1,aW];refine ⟨rfl,Nat.one_pos,rfl,fun b o hb=>((hS b).1 o hb).2,hrd.cells.mono (fun _ _ _ h=>h) fun b hb=>(hS b).2 hb.1 hb.2⟩
  rw[cW _ _ _ e];by_cases e2:nm=h
  ·subst e2;rw[hg] at ho;cases ho;rw[l2];exact ⟨hO.1,fun b hb=>hO.2 b hb.1⟩
  rw[l3 nm e e2];exact hI.objs nm o ho
 ·intro nm hn;have:=kM hn;exact Ch (iO om) hn
 ·intro nm hn;have:=kM hn;rw[cW _ _ _ om];by_cases e2:nm=h
  ·subst e2;rw[l2];exact ⟨rfl,rfl,rfl⟩
  rw[l3 nm om e2];exact ⟨rfl,rfl,rfl⟩
 rintro b ⟨nm,st,n,it,ho,hb⟩;rcases hold ho with ⟨rfl,e⟩ | ⟨e,ho⟩
 ·cases e
 have e2:nm≠h:=fun e2=>by subst e2;rw[hg] at ho;cases ho
 rw[l3 nm e e2] at hb;exact ⟨nm,st,n,it,ho,hb⟩
theorem Cn (T:List HO) (nm:Nat):iN (T++ [.gone]) nm=iN T nm/\fK (hget (T++ [.gone]) nm)=fK (hget T nm):=by
 have:hget (T++ [.gone]) nm=hget T nm\/(hget (T++ [.gone]) nm= .gone/\hget T nm= .dead):=by
  simp only[hget,aB];rcases nB nm T.length with h | h | h
  ·left;rw[bU h]
  ·right;subst h;simp
  left;rw[cG (by simp;omega),cG om]
 rcases this with h | ⟨h1,h2⟩
 ·simp only[iN,h,and_self]
 simp only[iN,h1,h2,fK,and_self]
theorem aD4 {objs:List Nat} {A A' B B':List HO} (hA:∀nm,iN A' nm=iN A nm/\fK (hget A' nm)=fK (hget A nm)) (hB:∀nm,iN B' nm=iN B nm/\fK (hget B' nm)=fK (hget B nm)) (s:SV):reV objs A' B' s=reV objs A B s:=by
 cases s<;>simp[reV,fun nm=>(hA nm).1,fun nm=>(hA nm).2,fun nm=>(hB nm).1]
theorem Co {objs:List Nat} {A A' B B':List HO} {n:Nat} (hA:∀nm,iN A' nm=iN A nm/\fK (hget A' nm)=fK (hget A nm)) (hB:∀nm,iN B' nm=iN B nm/\fK (hget B' nm)=fK (hget B nm)):∀ {l l':List SV},entC objs A B n l l'->entC objs A' B' n l l'
 | [],[],_=>trivial
 | x::r,y::r',h=>⟨by rw[aD4 hA hB];exact h.1,Co hA hB h.2⟩
theorem Cq {objs:List Nat} {A A' B B':List HO} {n nm:Nat} (hA:∀nm,iN A' nm=iN A nm/\fK (hget A' nm)=fK (hget A nm)) (hB:∀nm,iN B' nm=iN B nm/\fK (hget B' nm)=fK (hget B nm)) {o o':HO} (h:entO objs A B n nm o o'):entO objs A' B' n nm o o':=by
 cases o' with
 | dead=>cases o<;>trivial
 | cells l e=>cases o with
  | cells l' e'=>exact ⟨h.1,Co hA hB h.2⟩
  | _=>cases h
 | frc l=>cases o with
  | frc l'=>exact Co hA hB h
  | _=>cases h
 | vec v t xs e=>cases o with
  | vec v' t' xs' e'=>exact h
  | _=>cases h
 | fro v t xs=>cases o with
  | fro v' t' xs'=>exact h
  | _=>cases h
 | gone=>cases o with
  | gone=>exact h
  | _=>cases h
 | qm a b=>cases o with
  | qm a' b'=>exact h
  | _=>cases h
 | frm a b=>cases o with
  | frm a' b'=>exact h
  | _=>cases h
 | yst a b c=>cases o with
  | yst a' b' c'=>exact h
  | _=>cases h
 | lnt a b c=>cases o with
  | lnt a' b' c'=>exact h
  | _=>cases h
 | map a b c=>cases o with
  | map a' b' c'=>exact h
  | _=>cases h
 | mit a b c d=>cases o with
  | mit a' b' c' d'=>exact h
  | _=>cases h
 | res=>cases o<;>cases h
 | vv a b c d p e f=>cases o with
  | vv a' b' c' d' p' e' f'=>exact h
  | _=>cases h
theorem aD5 {objs:List Nat} {A B:List HO} {n:Nat} (h:entH objs A B n 0 A B) (hA:A[B.length]? =some .gone) (hm:mem B.length objs=false):EntS objs A (B++ [.gone]) n:=by
 obtain ⟨h1,h2⟩:=qE h;refine ⟨by have:=(aL.1 hA).1;simp;omega,fun i o ho=>?_⟩;rcases nB i B.length with hi | hi | hi
 ·rw[bU hi] at ho;obtain ⟨o',h3,h4⟩:=h2 i o ho;exact ⟨o',h3,Cq (fun _=>⟨rfl,rfl⟩) (Cn B) h4⟩
 ·subst hi;simp at ho;subst ho;exact ⟨.gone,hA,by rw[eJ];exact hm⟩
 rw[cG (by simp;omega)] at ho;cases ho
theorem aD6 {objs:List Nat} {A B:List HO} {n:Nat} (h:entH objs A B n 0 A B) (hl:B.length=A.length) (hm:mem B.length objs=false):EntS objs (A++ [.gone]) (B++ [.gone]) n:=by
 obtain ⟨h1,h2⟩:=qE h;refine ⟨by simp;omega,fun i o ho=>?_⟩;rcases nB i B.length with hi | hi | hi
 ·rw[bU hi] at ho;obtain ⟨o',h3,h4⟩:=h2 i o ho;exact ⟨o',by rw[bU om];exact h3,Cq (Cn A) (Cn B) h4⟩
 ·subst hi;simp at ho;subst ho;exact ⟨.gone,by rw[hl];simp,by rw[eJ];exact hm⟩
 rw[cG (by simp;omega)] at ho;cases ho
theorem Oj {E:Env}:∀ {ps:List Nat} {vs:List SV} {us:List Value} {l:List (Nat × SV)} {t:Array Value},t.size=N->(∀k,Rel E (look l k) (t.getD k undef))->RelL E vs us->(∀p∈ps,p<N)->ps.length=vs.length->
  ((ps.zip us).foldl (fun tm (p:Nat × Value)=>tm.setIfInBounds p.1 p.2) t).size=N/\∀k,Rel E (look (Uh ps vs l) k) (((ps.zip us).foldl (fun tm (p:Nat × Value)=>tm.setIfInBounds p.1 p.2) t).getD k undef)
 | [],[],_,l,t,hs,hr,.nil,_,_=>⟨hs,hr⟩
 | p::ps,v::vs,_,l,t,hs,hr,.cons _ u _ us h hl,hp,hlen=>by
  simp only[List.zip_cons_cons,pK,Uh];refine Oj (by simp[hs]) (fun k=>?_) hl (fun q hq=>hp q (bP _ hq)) (by simpa using hlen);rw[qO];have hlt:p<t.size:=by rw[hs];exact hp p (bW ..)
  rw[bM,cK];by_cases e:k=p
  ·subst e;simp[hlt];exact h
  rw[aC e,aC (fun h=>e h.symm),<- bM];exact hr k
theorem Fp {E:Env}:∀ {vs:List SV} {us:List Value} {C:Prop},RelL E vs us->Ug vs C->C
 | [],_,_,_,h=>h
 | v::vs,_,C,.cons _ u _ us hv hl,h=>by
  unfold Ug at h;split at h
  ·rename_i heq;cases heq
  ·rename_i k n r heq;cases heq;obtain ⟨_,hk⟩:=hv.int_inv;exact Fp hl (aBi h hk)
  rename_i heq;cases heq;exact Fp hl h
def Ok (fn:FuncId) (tmps:Array Value) (ps:Array Tmp) (x y:Code) (d:Nat) (st:LoopState) (pe:Option Code):Loop:={ state:=st,pending:=pe,fn,tmps,params:=ps,assign:=x,body:=y,defers:=d }
theorem Zi {F:Fence} {E:Env} (hr:RoundOK F E) (hE:E.w=w) (fn:FuncId) (tmps:Array Value) (ps:Array Tmp) (x y:Code):
  ∃(l:Nat) (Ds:List Nat) (w1:World) (d:Nat),(Instr.enterLoop fn tmps ps x y F.round).run P w= .ok (l,Ds.map Cl) w1/\w1.heap[l]? =some (.loop (Ok fn tmps ps x y d .ready none))/\Below w.heap.size w w1/\w.heap.size<=l/\Ds.Nodup/\
   ∀D∈Ds,w.heap.size<=D/\D≠l/\w1.heap[D]? =some (.deferred (some [])):=by
 subst hE;cases hF:F.round with
 | none=>
  refine ⟨E.w.heap.size+1,[E.w.heap.size],_,E.w.heap.size,run_enterLoop_outer _ _ _ _ _,?_,?_,om,si,?_⟩
  ·have:=World.alloc_heap_new (E.w.alloc (.deferred (some []))) (.loop (Ok fn tmps ps x y E.w.heap.size .ready none));rwa [World.size_alloc] at this
  ·exact ((Below.refl _ E.w).alloc (aN _) _).alloc si _
  intro D hD;simp at hD;subst hD;exact ⟨aN _,om,(Below.heap_alloc _ _ _ si).trans (World.alloc_heap_new E.w _)⟩
 | some l0=>
  obtain ⟨_,r0,h0⟩:=hr l0 hF;refine ⟨E.w.heap.size,[],_,r0.defers,run_enterLoop_inner h0 _ _ _ _ _,?_,?_,aN _,List.nodup_nil,fun _ h=>by cases h⟩
  ·exact World.alloc_heap_new E.w _
  exact (Below.refl _ E.w).alloc (aN _) _
end
end Go.Eng
end
section
namespace Go.Eng
open Go.RowKit
section
variable {P:Program} {G:Ctx} {N:Nat}
def Vl:Exit->Option Code
 | .ret=>some .ret
 | .exit n=>some (.exit n)
 | _=>none
theorem Vm {O ws:List Nat} {E E':Env} {l:List (Nat × SV)} {a:Act} (hT:TRel E N l a) (hx:ExtO O E E'):TRel E' N (base ws O l) a:=by
 refine ⟨hT.size,fun t=>?_⟩;rcases Fm ws O l t with e | ⟨e1,e2,e3⟩
 ·rw[e];exact .any _
 rw[e1];refine (hT.rel t).move (p:=fun m=> !mem m O) (fun nm hp hlt=>?_) (fun nm hp hn he=>hx.sub nm hn (by simpa using hp) he) (fun _=>hx.itr) hx.keepC hx.ok (Ap e3);have h2:mem nm O=false:=by simpa using hp
 exact ⟨hx.num nm hlt,hx.ver nm hlt h2⟩
theorem xL {H:List HO} {loc:Nat->Loc} {ver:Nat->Nat} {w:World} (hI:Inv G H loc ver w) {h b:Nat} (hg:H[h]? =some .gone) (hb:(loc h).al b):¬aliN H loc b:=by
 rintro ⟨nm,st,n,it,h1,h2⟩;have:=hI.sep nm h _ _ b h1 hg h2 hb;subst this;rw[hg] at h1;cases h1
theorem aD7 {vs:List SV} {n:Nat} {D:List Nat} {H:List HO} (h:aB7 vs n D H=true):(∀nm,nm<n->(lntX vs n H)[nm]? =H[nm]?)/\(∀nm,iN (lntX vs n H) nm=iN H nm/\fK (hget (lntX vs n H) nm)=fK (hget H nm))/\(lntX vs n H).length=H.length:=by
 unfold lntX;split
 ·refine ⟨fun nm hlt=>bZ om,fun nm=>?_,by simp[hset]⟩;have h1:Uf (hget H n)=true:=(and2 h).1;by_cases e:nm=n
  ·subst e;have h2:∃t xs,hget H nm= .lnt 1 t xs:=by
    unfold Uf at h1;split at h1
    ·rename_i t xs e;exact ⟨t,xs,e⟩
    cases h1
   obtain ⟨t,xs,h2⟩:=h2;have h3:=aX h2 si;have h4:hget (hset H nm .dead) nm= .dead:=by simp[hget,hset,aB,(aL.1 h3).1]
   simp only[iN,h2,h4,fK,and_self]
  have h4:hget (hset H n .dead) nm=hget H nm:=by
   simp only[hget,hset,aB];rw[bZ e]
  simp only[iN,h4,and_self]
 exact ⟨fun _ _=>rfl,fun _=>⟨rfl,rfl⟩,rfl⟩
theorem aD8 {vs:List SV} {n:Nat} {D:List Nat} {H T:List HO} {objs:List Nat} {m:Nat} (h:aB7 vs n D H=true) (hS:EntS objs H T m) (hl:T.length<=n):EntS objs (lntX vs n H) T m:=by
 obtain ⟨h1,h2,h3⟩:=aD7 h;refine ⟨by rw[h3];exact hS.1,fun i o ho=>?_⟩;obtain ⟨o',h4,h5⟩:=hS.2 i o ho;have hlt:i<n:=aZ (aL.1 ho).1 hl;exact ⟨o',by rw[h1 i hlt];exact h4,Cq h2 (fun _=>⟨rfl,rfl⟩) h5⟩
def RJ (G:Ctx) (K:Exit->List (Nat × SV)->List HO->Prop) (an:Ann) (OD:List Nat) (H1:List HO) (loc1:Nat->Loc) (ver1:Nat->Nat) (w w1:World) (l:List (Nat × SV)) (lr:Nat) (Ds:List Nat) (rec:LoopState->Option Code->Loop)
  (st:Option Nat) (M:Nat->Prop) (W:World):Prop:=
 (∀b,M b->w1.heap.size<=b)/\(∀D∈Ds,W.heap[D]? =some (.deferred (some [])))/\w1.heap.size<=W.heap.size/\
 ∃H' loc' ver',Inv G H' loc' ver' W/\H'[H1.length]? =some .gone/\(∀b,(w.heap.size<=b/\b<w1.heap.size)\/M b->(loc' H1.length).al b)/\(∀b,(loc' H1.length).al b->w.heap.size<=b)/\
  ExtO OD (envOf G H1 loc1 ver1 w) (envOf G H' loc' ver' W)/\
  (match st with
   | some k=>∃z,an.mu z=k/\an.pre z/\H'=an.heap z H1++ [.gone]/\ExtO an.objs (envOf G H1 loc1 ver1 w) (envOf G H' loc' ver' W)/\W.heap[lr]? =some (.loop (rec .ready none))
   | none=>∃e cj,Vl e=some cj/\K e (base [] OD l) H'/\W.heap[lr]? =some (.loop (rec .done (some cj))))
theorem RJ.abides {K:Exit->List (Nat × SV)->List HO->Prop} {an:Ann} {OD:List Nat} {H1:List HO} {loc1:Nat->Loc} {ver1:Nat->Nat} {w w1:World} {l:List (Nat × SV)} {lr:Nat} {Ds:List Nat} {rec:LoopState->Option Code->Loop}
  (hI1:Inv G H1 loc1 ver1 w) (hb1:Below w.heap.size w w1) (hlr:lr<w1.heap.size) (hDs1:∀D∈Ds,D<w1.heap.size) {st:Option Nat} {M:Nat->Prop} {W W':World} (h:RJ G K an OD H1 loc1 ver1 w w1 l lr Ds rec st M W)
  (hos:W'.os=W.os) (htp:W'.tape=W.tape) (hout:W'.output=W.output) (hsz:W.heap.size<=W'.heap.size) (hblk:∀b,b<W.heap.size->¬M b->W'.heap[b]? =W.heap[b]?):
  RJ G K an OD H1 loc1 ver1 w w1 l lr Ds rec st (fun b=>M b\/(W.heap.size<=b/\b<W'.heap.size)) W':=by
 obtain ⟨hM,hDs,hws,H',loc',ver',hI,hg,hal,hal2,hx,hst⟩:=h;have hlow:∀b,b<w1.heap.size->W'.heap[b]? =W.heap[b]? :=fun b hb=>hblk b om fun hm=>by have:=hM b hm;omega
 obtain ⟨hI',hx0⟩:=alien hI hg hos htp hout hsz (fun b=>(loc' H1.length).al b\/(W.heap.size<=b/\b<W'.heap.size)) (fun b hb=>hb) (fun b hb hna=>hblk b hb fun hm=>hna (hal b (.inr hm)));have hg0:∀nm b,(envOf G H1 loc1 ver1 w).gho nm b->(envOf G H1 loc1 ver1 w).has nm=true/\b<(envOf G H1 loc1 ver1 w).w.heap.size:=fun nm b hb=>
  ⟨eM hb.1 rfl,(hI1.objs nm _ hb.1).2 b hb.2⟩
 have hxx:∀O,ExtO O (envOf G H1 loc1 ver1 w) (envOf G H' loc' ver' W)->ExtO O (envOf G H1 loc1 ver1 w) (envOf G H' _ _ W'):=fun O hx=>
  ExtO.alien hx hx0 (fun nm hn=>kM hn) (fun b hb=>hlow b (by have:=hb1.size;have hb':b<w.heap.size:=hb;omega)) hg0 (fun nm hne=>⟨rfl,cW _ _ _ (tO hne)⟩)
 refine ⟨fun b hb=>?_,fun D hD=>(hlow D (hDs1 D hD)).trans (hDs D hD),bL hws hsz,H',_,_,hI',hg,fun b hb=>?_,fun b hb=>?_,hxx OD hx,?_⟩
 ·rcases hb with hb | hb
  ·exact hM b hb
  omega
 ·rw[aW];rcases hb with hb | hb | hb
  ·exact .inl (hal b (.inl hb))
  ·exact .inl (hal b (.inr hb))
  exact .inr hb
 ·rw[aW] at hb;rcases hb with hb | hb
  ·exact hal2 b hb
  have:=hb1.size;omega
 cases st with
 | some k=>
  obtain ⟨z,h1,h2,h3,h4,h5⟩:=hst;exact ⟨z,h1,h2,h3,hxx _ h4,(hlow lr hlr).trans h5⟩
 | none=>
  obtain ⟨e,cj,h1,h2,h3⟩:=hst;exact ⟨e,cj,h1,h2,(hlow lr hlr).trans h3⟩
theorem aJw {H1 H' Z:List HO} {loc loc':Nat->Loc} {ver ver':Nat->Nat} {w W:World} {nm k n:Nat} {O:List Nat} (hI1:Inv G H1 loc ver w) (hI':Inv G H' loc' ver' W) (hmn:mem nm O=false) (h1:Di nm k n H1) (h2:Di nm k n Z) (hH:H'=Z++ [.gone])
  (hx:ExtO O (envOf G H1 loc ver w) (envOf G H' loc' ver' W)):softC n (loc nm).toCore W:=by
 unfold Di at h1 h2;split at h1;case h_2=>cases h1
 rename_i j t xs e ho1;obtain ⟨rfl,hts,hl⟩:=h1;split at h2;case h_2=>cases h2
 rename_i j2 t2 xs2 e2 ho2;obtain ⟨hj2,hts2,hl2⟩:=h2;have hn1:=aX ho1 si;have hn2:=aX ho2 si;have hn3:H'[nm]? =some (.vec j2 t2 xs2 e2):=by rw[hH,bU (aL.1 hn2).1];exact hn2
 have hv1:ver nm=j:=(hI1.objs nm _ hn1).1;obtain ⟨hv2,_,hlen,hmax,vs,hown,_⟩:=hI'.objs nm _ hn3;have hv2:ver' nm=j2:=hv2;have hlen':(loc' nm).len=List.length (α:=t2.T) xs2:=hlen;have hmax':(loc' nm).len<=maxL:=hmax;rcases hx.ver nm (eM hn1 rfl) hmn with ⟨_,e2⟩ | ⟨_,e2⟩
 ·have e2:(loc' nm).toCore=(loc nm).toCore:=e2;rw[<- e2];refine ⟨by show (loc' nm).len=n;omega,om,?_⟩;rcases dJ hown with ⟨_,_,q1,_⟩ | ⟨g,cur,q1,q2,q3,q4,_,q5,_⟩
  ·have q1:(loc' nm).len=0:=q1;exact .inl om
  rw[hts2,vI] at q5;refine .inr ⟨g,cur,_,_,q1,?_,q3,?_⟩
  ·show n<=(loc' nm).cap;omega
  have q5:(loc' nm).cap<=cur.size:=q5;omega
 have e2:ver nm<ver' nm:=e2;omega
theorem Kv (hY:COK P G) {Γ:List Con} {A:Anns} {g:Operand} {ps:Array Tmp} {x y:Code} (ihx:∀key,Og P G N Γ A key x) (ihy:∀key,Og P G N Γ A key y) (key:Nat) {F:Fence} {n:Nat} (hF:Opn F) {H H1:List HO} {loc:Nat->Loc} {ver:Nat->Nat} {w:World} {l:List (Nat × SV)} {a:Act} {K:Exit->List (Nat × SV)->List HO->Prop}
  (hI1:Inv G H1 loc ver w) (hx1:Ext (envOf G H loc ver w) (envOf G H1 loc ver w)) (hT1:TRel (envOf G H1 loc ver w) N l a) (hRo:RoundOK F (envOf G H loc ver w)) {an:Ann} (hA:Ju A key=an.objs) {f:FuncId} {vb:List Value} (hgval:a.eval g= .func (.func f) ⟨[]⟩ ⟨vb⟩) (hent:xH P f)
  {as:List SV} {nn:Nat} {items:Nat->List SV} (htri:TriI P f as nn items) (soft:Bool) (sf:Core) (hargs:∀w1,Below w.heap.size w w1->aMw w1 (okN G H1 loc w) soft sf as vb)
  (hsf:soft=true->∃nm k,mem nm an.objs=false/\sf=(loc nm).toCore/\Di nm k nn H1/\∀z,an.pre z->Di nm k nn (an.heap z H1))
  (hk:Fj N A key ps x y an nn items l H1 (exec P Γ N A key x) (exec P Γ N A key y) K):(Code.rangeFunc g ps x y).wpIn F n P (After G N (gC (.rangeFunc g ps x y)) (dI A key (.rangeFunc g ps x y)) K (envOf G H loc ver w) a) a w:=by
 unfold Fj at hk;obtain ⟨hmo,hk⟩:=bA hk;obtain ⟨hok,hvc⟩:=hk;have hmo:mem H1.length an.objs=false:=by simpa using hmo
 obtain ⟨OD,hOD⟩:∃OD,(dI A key x++dI A key y)++an.objs=OD:=⟨_,rfl⟩;have hODt:dI A key (.rangeFunc g ps x y)=OD:=by simp only[dI,hA];exact hOD
 have hODx:∀m,mem m (dI A key x)=true->mem m OD=true:=fun m hm=>by rw[<- hOD];exact yL _ _ m (yL _ _ m hm)
 have hODy:∀m,mem m (dI A key y)=true->mem m OD=true:=fun m hm=>by rw[<- hOD];exact yL _ _ m (Hm _ _ m hm)
 have hODo:∀m,mem m an.objs=true->mem m OD=true:=fun m hm=>by rw[<- hOD];exact Hm _ _ m hm
 have hwi:rH an.objs H1.length OD=true:=by
  rw[<- hOD];obtain ⟨z,_,_⟩:=hvc.init;exact Bp (and2 (and2 (hok z)).1).2
 have hann:∀z,(an.heap z H1).length=H1.length/\Gy H1 (an.heap z H1)=true:=fun z=>
  ⟨bK.1 (and2 (and2 (and2 (hok z)).1).1).2,(and2 (hok z)).2⟩
 refine wpIn_rangeFunc ?_;intro fn hfn;obtain ⟨lr,Ds,w1,d,hent1,hrec,hbel,hlr,hnd,hDs⟩:=Zi (P:=P) (w:=w) hRo rfl fn a.tmps ps x y;obtain ⟨rec,hrecd⟩:∃rec,Ok fn a.tmps ps x y d=rec:=⟨_,rfl⟩;rw[hrecd] at hrec;have hlr1:lr<w1.heap.size:=(aF.1 hrec).1;have hDs1:∀D∈Ds,D<w1.heap.size:=fun D hD=>(aF.1 (hDs D hD).2.2).1
 -- the iterator's blocks: the loop's own tg begin with
 have hf:=hI1.fresh (w':=w1) .gone ⟨⟨none,0,0⟩,fun b=>w.heap.size<=b/\b<w1.heap.size,sub0⟩ 1 hbel.size hbel.os hbel.tape hbel.output (fun b hb=>hbel.block b hb) (fun b hb=>hb.1) (fun _=>by rw[show (1:Nat)=1 from rfl];exact ⟨Nat.one_pos,fun b hb=>hb.2⟩);obtain ⟨hI2,hx2⟩:=hf;have hg0:∀nm b,(envOf G H1 loc ver w).gho nm b->(envOf G H1 loc ver w).has nm=true/\b<(envOf G H1 loc ver w).w.heap.size:=fun nm b hb=>
  ⟨eM hb.1 rfl,(hI1.objs nm _ hb.1).2 b hb.2⟩
 have heq:(#[Value.func (.yield lr) #[] #[]]++(⟨vb⟩:Array Value))= ⟨Value.func (.yield lr) #[] #[]::vb⟩:=by apply fG;simp
 refine ⟨lr,Ds.map Cl,w1,{ target:=.fn (.func f) ⟨vb⟩,args:= #[.func (.yield lr) #[] #[]] },w1,f, #[Value.func (.yield lr) #[] #[]]++(⟨vb⟩:Array Value),w1,hent1,?_,fun f' _=>hF.fn f',?_,fun hs=>(by rw[hF.depth] at hs;cases hs),?_⟩
 ·simp only[resolve,hgval];simp[go_sem]
 ·have e:=hent (#[Value.func (.yield lr) #[] #[]]++(⟨vb⟩:Array Value)) w1;simpa [invoke,go_sem] using e
 rw[heq];have hdone:∀(e:Ending) (w':World),((∃v,e= .returned v)/\∃M,RJ G K an OD H1 loc ver w w1 l lr Ds rec (some nn) M w'\/RJ G K an OD H1 loc ver w w1 l lr Ds rec none M w')->
   rangePost F n P lr (After G N (gC (.rangeFunc g ps x y)) (dI A key (.rangeFunc g ps x y)) K (envOf G H loc ver w) a) { a with defers:=Ds.map Cl++a.defers } e w':=by
  rintro e W ⟨⟨v,rfl⟩,M,hJ⟩;rw[hODt];have fin:∀ {H':List HO} {loc':Nat->Loc} {ver':Nat->Nat} {W':World} {e:Exit} {O:List Nat},Inv G H' loc' ver' W->H'[H1.length]? =some .gone->(∀b,(w.heap.size<=b/\b<w1.heap.size)\/M b->(loc' H1.length).al b)->(∀b,(loc' H1.length).al b->w.heap.size<=b)->
    ExtO O (envOf G H1 loc ver w) (envOf G H' loc' ver' W)->(∀m,mem m O=true->mem m OD=true)->(∀D∈Ds,W.heap[D]? =some (.deferred (some [])))->K e (base [] O l) H'->∀o,lr<W.heap.size->W'=W.putObj lr o->
    After G N (gC (.rangeFunc g ps x y)) OD K (envOf G H loc ver w) a e { a with defers:=Ds.map Cl++a.defers } W':=by
   intro H' loc' ver' W' e O hI' hg hal hal2 hx hO hD hK o hlt hW;subst hW;obtain ⟨hI3,hx3⟩:=alien hI' hg (w':=W.putObj lr o) rfl rfl rfl si (loc' H1.length).al (fun b hb=>.inl hb) (fun b hb hna=>World.putObj_heap_other (fun e=>hna (by subst e;exact hal b (.inl ⟨hlr,hlr1⟩))));have hx4:ExtO O (envOf G H1 loc ver w) (envOf G H' _ _ (W.putObj lr o)):=ExtO.alien hx hx3 (fun nm hn=>kM hn) (fun b hb=>World.putObj_heap_other (fun e=>by have hb':b<w.heap.size:=hb;omega)) hg0 (fun nm hne=>⟨rfl,cW _ _ _ (tO hne)⟩);refine ⟨_,H',_,_,hK,hI3,?_,(hx1.toO OD).trans (hx4.mono hO),.refl _ _,Ds,rfl,hnd,fun D hD'=>?_⟩
   ·have:=Vm (ws:=[]) hT1 hx4;exact ⟨this.size,this.rel⟩
   obtain ⟨h1,h2,h3⟩:=hDs D hD';refine ⟨h1,xL hI3 hg (by rw[aW];exact hal D (.inl ⟨h1,hDs1 D hD'⟩)),?_⟩;exact (World.putObj_heap_other h2).trans (hD D hD')
  rcases hJ with ⟨hM,hD,hws,H',loc',ver',hI',hg,hal,hal2,hx,z,hz,hpre,hH',hxo,hr⟩ | ⟨hM,hD,hws,H',loc',ver',hI',hg,hal,hal2,hx,e,cj,hj,hK,hr⟩
  ·have hst:=hvc.stop z hpre hz;rw[nX,qB] at hst;refine ⟨none,_,by have:=run_endLoop (P:=P) hr (by rw[<- hrecd];simp[Ok]);rw[<- hrecd] at this;exact this,?_⟩;subst hH';exact fin hI' hg hal hal2 hxo hODo hD hst _ om rfl
  refine ⟨some cj,_,by have:=run_endLoop (P:=P) hr (by rw[<- hrecd];simp[Ok]);rw[<- hrecd] at this;exact this,?_⟩;have hfin:=fun o=>fin (W':=W.putObj lr o) hI' hg hal hal2 hx (fun _ h=>h) hD hK o om rfl;cases e with
  | ret=>cases hj;exact wpIn_ret (hfin _)
  | exit id=>cases hj;exact wpIn_exit (hfin _)
  | _=>cases hj
 refine CallsIn.mono (hF.calls (htri (okN G H1 loc w) w1 vb lr (RJ G K an OD H1 loc ver w w1 l lr Ds rec) soft sf ((hY.now hI1).move (fun b hb _=>hb) fun b hb=>hbel.block b hb.2.1) (fun b hb=>aZ hb.2.1 hbel.size)
  (hargs w1 hbel) (fun hs k M W hJ=>by
   obtain ⟨nm,kk,hmn,rfl,hsA,hsZ⟩:=hsf hs;obtain ⟨_,_,_,H',loc',ver',hI',_,_,_,_,z,hz,hpre,hH',hxo,_⟩:=hJ
   exact aJw hI1 hI' hmn hsA (hsZ z hpre) hH' hxo)
  (fun st M W W' hJ h1 h2 h3 h4 h5=>hJ.abides hI1 hbel hlr1 hDs1 h1 h2 h3 h4 h5) ?_ ?_)) hdone
 ·-- a round
  rintro k M W us hk ⟨hM,hD,hws,H',loc',ver',hI',hg,hal,hal2,hxD,z,hz,hpre,hH',hxo,hr⟩ hu;subst hz;have hrd:=hvc.round z hpre hk;rw[lU] at hrd;obtain ⟨hcond,hrd⟩:=bA hrd;obtain ⟨hcl1,hcl2⟩:=and2 hcond;have hcl1:=bK.1 hcl1;have hrd:=Fp hu hrd;rw[lU,nX,qB] at hrd;rw[<- hH'] at hrd;have hlenH:H'.length=H1.length+1:=by rw[hH'];simp[(hann z).1]
  obtain ⟨S,loc0,ver0,hI0,hx00,hu0,hg00,hlow0,hal0,hal02,hS,hback⟩:=Zh hI' hg hlenH (fun b hb=>hal b (.inr hb)) hu;obtain ⟨H0,hH0⟩:∃H0,H'++lntH (items (an.mu z))=H0:=⟨_,rfl⟩;rw[hH0] at hrd hI0 hx00 hu0 hg00 hlow0 hback;have hxD0:ExtO OD (envOf G H1 loc ver w) (envOf G H0 loc0 ver0 W):=ExtO.alien hxD hx00 (fun nm hn=>kM hn) (fun _ _=>rfl) hg0 hlow0;have hxo0:ExtO an.objs (envOf G H1 loc ver w) (envOf G H0 loc0 ver0 W):=ExtO.alien hxo hx00 (fun nm hn=>kM hn) (fun _ _=>rfl) hg0 hlow0;have hSn:∀b,b<w1.heap.size->S b=none:=fun b hb=>by
   cases hs:S b with
   | none=>rfl
   | some x=>have:=hM b (hS b x hs).1;omega
  have hul:us.length=ps.size:=by rw[<- hu.length];exact hcl1
  have hy:=run_yield (P:=P) (args:=⟨us⟩) hr (by rw[<- hrecd];simpa [Ok] using hul);rw[<- hrecd] at hy;refine ⟨_,_,_,_,hy,roundIn_of_wpIn (F:=Fence.wide) trivial ?_⟩;rw[hrecd] at hy
  -- the assignment tg the loop's left sides
  have hall:(loc0 H1.length).al lr:=hal0 lr (hal lr (.inl ⟨hlr,hlr1⟩)) (hSn lr hlr1);have hTb:=Vm (ws:=[]) hT1 hxo0;have hT2:TRel (envOf G H0 loc0 ver0 W) N (Uh ps.toList (lntV (H1.length+1) (items (an.mu z))) (base [] an.objs l)) { tmps:=(ps.zip ⟨us⟩).foldl (fun tmps (t,a)=>tmps.setIfInBounds t a) a.tmps,defers:=[] }:=by
   obtain ⟨h1,h2⟩:=Oj (N:=N) (ps:=ps.toList) hTb.size hTb.rel hu0 (fun p hp=>by
    have:=fC.1 hcl2 p hp
    simpa using this) (by rw[hu0.length,hul];simp)
   have e:(ps.zip ⟨us⟩).foldl (fun tmps (t,a)=>tmps.setIfInBounds t a) a.tmps=(ps.toList.zip us).foldl (fun tm (p:Nat × Value)=>tm.setIfInBounds p.1 p.2) a.tmps:=by
    rw[<- Array.foldl_toList];simp only[Array.toList_zip]
   exact ⟨by rw[e];exact h1,fun t=>by rw[e];exact h2 t⟩
  have hRo1:RoundOK (Fence.wide.inRound lr) (envOf G H0 loc0 ver0 W):=fun l' hl'=>by
   have:lr=l':=by simpa [Fence.inRound] using hl'
   subst this;exact ⟨xL hI0 hg00 hall,_,hr⟩
  refine wpIn_mono (ihx key (F:=Fence.wide.inRound lr) (n:=0) ⟨some lr,rfl⟩ hI0 hT2 hRo1 hrd) ?_;rintro e a1 W1 ⟨l',Hx,locx,verx,hK,hIx,hTx,hxx,hsx,hmx⟩;cases e with
  | normal=>
   have hr1:W1.heap[lr]? =some (.loop (rec .ready none)):=hxx.keep lr _ (xL hI0 hg00 hall) hr rfl;have hgx:=fun b hb=>hxx.gho H1.length b ⟨hg00,hb⟩;have hg1:Hx[H1.length]? =some .gone:=(hgx lr hall).1.1;have hlt1:H1.length<H0.length:=(aL.1 hg00).1;have hgx':∀b,(locx H1.length).al b->(loc0 H1.length).al b:=fun b hb=>(hxx.gho' H1.length b (eM hg00 rfl) ⟨hg1,hb⟩).2;refine ⟨_,run_beginRound hr1 (by rw[<- hrecd];rfl),?_⟩;obtain ⟨W2,hW2⟩:∃W2,W1.putObj lr (.loop { rec .ready none with state:=.busy })=W2:=⟨_,rfl⟩;rw[hW2];have hlt2:lr<W1.heap.size:=(aF.1 hr1).1;have hr2:W2.heap[lr]? =some (.loop { rec .ready none with state:=.busy }):=by rw[<- hW2];exact World.putObj_heap_same hlt2
   have hoth2:∀b,b≠lr->W2.heap[b]? =W1.heap[b]? :=fun b hb=>by rw[<- hW2];exact World.putObj_heap_other hb
   obtain ⟨hI2',hx2'⟩:=alien hIx hg1 (w':=W2) (by rw[<- hW2];rfl) (by rw[<- hW2];rfl) (by rw[<- hW2];rfl) (by rw[<- hW2];simp) (locx H1.length).al (fun b hb=>.inl hb) (fun b hb hna=>hoth2 b (fun e=>hna (by subst e;exact (hgx b hall).1.2)));have hxE1:=hxD0.trans (hxx.mono hODx);have hxE2:=ExtO.alien hxE1 hx2' (fun nm hn=>kM hn) (fun b hb=>hoth2 b (fun e=>by have hb':b<w.heap.size:=hb;omega)) hg0 (fun nm hne=>⟨rfl,cW _ _ _ (tO hne)⟩);have hRo2:RoundOK (Fence.wide.inRound lr) (envOf G Hx (upd locx H1.length { locx H1.length with al:=(locx H1.length).al }) (upd verx H1.length (verx H1.length+1)) W2):=fun l' hl'=>by
    have:lr=l':=by simpa [Fence.inRound] using hl'
    subst this;exact ⟨xL hI2' hg1 (by rw[aW];exact (hgx _ hall).1.2),_,hr2⟩
   refine wpIn_mono (ihy key (F:=Fence.wide.inRound lr) (n:=0) ⟨some lr,rfl⟩ hI2' (hTx.ext0 hx2') hRo2 hK) ?_;rintro e a3 W3 ⟨l3,H3,loc3,ver3,hK3,hI3,hT3,hx3,hs3,hm3⟩;obtain ⟨hgl,hK3⟩:=bA hK3;have hlok:=(and2 hgl).2;have hal2x:(upd locx H1.length { locx H1.length with al:=(locx H1.length).al } H1.length).al=(locx H1.length).al:=by rw[aW]
   have hgy:=fun b (hb:(locx H1.length).al b)=>hx3.gho H1.length b ⟨hg1,by rw[hal2x];exact hb⟩;have hallx:(locx H1.length).al lr:=(hgx lr hall).1.2;have hg3:H3[H1.length]? =some .gone:=(hgy lr hallx).1.1;have hgy':∀b,(loc3 H1.length).al b->(locx H1.length).al b:=fun b hb=>by
    have:=(hx3.gho' H1.length b (eM hg1 rfl) ⟨hg3,hb⟩).2;rwa [hal2x] at this
   have hr3:W3.heap[lr]? =some (.loop { rec .ready none with state:=.busy }):=hx3.keep lr _ (xL hI2' hg1 (by rw[aW];exact hallx)) hr2 rfl;have hlt3:lr<W3.heap.size:=(aF.1 hr3).1;have hxE3:=hxE2.trans (hx3.mono hODy)
   -- what was lent is handed back
   obtain ⟨locb,hIb,hxb,hgb,hlowb,halb,hSb,halb2⟩:=hback (dI A key x++dI A key y) H3 loc3 ver3 W3 hI3 hg3 hlok (fun hm=>by
    rw[mem_append] at hm;have hm1:mem (H1.length+1) (dI A key x)=false:=by
     cases e:mem (H1.length+1) (dI A key x) with
     | false=>rfl
     | true=>rw[e] at hm;cases hm
    have hm2:mem (H1.length+1) (dI A key y)=false:=by
     cases e:mem (H1.length+1) (dI A key y) with
     | false=>rfl
     | true=>rw[e] at hm;simp at hm
    exact ((hxx.vs hm1).trans (hx2'.vs _)).trans (hx3.vs hm2))
   obtain ⟨Hb,hHb⟩:∃Hb,lntX (items (an.mu z)) (H1.length+1) H3=Hb:=⟨_,rfl⟩;rw[hHb] at hIb hxb hgb hlowb;have hallb:(locb H1.length).al lr:=halb lr (hgy lr hallx).1.2;have hxEb:ExtO OD (envOf G H1 loc ver w) (envOf G Hb locb ver3 W3):=ExtO.alien hxE3 hxb (fun nm hn=>kM hn) (fun _ _=>rfl) hg0 hlowb
   -- the end of a round, by whatever way
   have fin:∀(jump:Option Code) (b:Bool),jump.isNone=b->
     (∀loc4 ver4 W4,Inv G Hb loc4 ver4 W4->ExtO OD (envOf G H1 loc ver w) (envOf G Hb loc4 ver4 W4)->W4.heap[lr]? =some (.loop (rec (if jump.isNone then .ready else .done) jump))->(loc4 H1.length).al=(locb H1.length).al->
      (∀D∈Ds,W4.heap[D]? =some (.deferred (some [])))->w1.heap.size<=W4.heap.size->RJ G K an OD H1 loc ver w w1 l lr Ds rec (if b=true then some (an.mu z+1) else none) M W4)->
     ∃v w',(Instr.endRound lr jump).run P W3= .ok v w'/\∃b,Ending.returned v= .returned (.bool b)/\RJ G K an OD H1 loc ver w w1 l lr Ds rec (if b=true then some (an.mu z+1) else none) M w'/\Kept (fun c=>okN G H1 loc w c\/M c) W w':=by
    intro jump b hjb hJ;have hre:=run_endRound (P:=P) jump hr3;refine ⟨_,_,hre,b,by rw[hjb],?_⟩;obtain ⟨W4,hW4⟩:∃W4,W3.putObj lr (.loop { { rec .ready none with state:=.busy } with state:=if jump.isNone then .ready else .done,pending:=jump })=W4:=⟨_,rfl⟩;rw[hW4];have hr4:W4.heap[lr]? =some (.loop (rec (if jump.isNone then .ready else .done) jump)):=by
     rw[<- hW4,World.putObj_heap_same hlt3,<- hrecd];rfl
    have hoth4:∀b,b≠lr->W4.heap[b]? =W3.heap[b]? :=fun b hb=>by rw[<- hW4];exact World.putObj_heap_other hb
    have hs4:W4.heap.size=W3.heap.size:=by rw[<- hW4];simp
    obtain ⟨hI4,hx4⟩:=alien hIb hgb (w':=W4) (by rw[<- hW4];rfl) (by rw[<- hW4];rfl) (by rw[<- hW4];rfl) om (locb H1.length).al (fun b hb=>.inl hb) (fun b hb hna=>hoth4 b (fun e=>hna (by subst e;exact hallb)));have hxE4:=ExtO.alien hxEb hx4 (fun nm hn=>kM hn) (fun b hb=>hoth4 b (fun e=>by have hb':b<w.heap.size:=hb;omega)) hg0 (fun nm hne=>⟨rfl,cW _ _ _ (tO hne)⟩);have hsz1:W.heap.size<=W3.heap.size:=by
     have h1:W.heap.size<=W1.heap.size:=hxx.size;have h2:W1.heap.size<=W2.heap.size:=hx2'.size;have h3:W2.heap.size<=W3.heap.size:=hx3.size;omega
    have hDk:∀D∈Ds,W4.heap[D]? =some (.deferred (some [])):=fun D hD'=>by
     have hnl:=(hDs D hD').2.1;have halD:(loc0 H1.length).al D:=hal0 D (hal D (.inl ⟨(hDs D hD').1,hDs1 D hD'⟩)) (hSn D (hDs1 D hD'));have h1:=hxx.keep D _ (xL hI0 hg00 halD) (hD D hD') rfl;have h2:=(hoth2 D hnl).trans h1;have h3:=hx3.keep D _ (xL hI2' hg1 (by rw[aW];exact (hgx D halD).1.2)) h2 rfl;exact (hoth4 D hnl).trans h3
    refine ⟨hJ _ _ W4 hI4 hxE4 hr4 (by rw[aW]) hDk om,hI4.os.trans hI'.os.symm,hI4.tape.trans hI'.tape.symm,hI4.output.trans hI'.output.symm,om,fun b hb hbl=>?_⟩;rcases hb with hb | hb
    ·have e0:(envOf G H0 loc0 ver0 W).ok b:=hxD0.ok b hb;have e1:=hxx.blk b e0;have e2:=hx2'.blk b (hxx.ok b e0);have e3:=hx3.blk b (hx2'.ok b (hxx.ok b e0));have e4:=hx4.blk b (hxb.ok b (hx3.ok b (hx2'.ok b (hxx.ok b e0))));exact ((e4.trans e3).trans e2).trans e1
    have hnl:b≠lr:=fun e=>by have:=hM b hb;omega
    cases hs:S b with
    | some x=>
     have h1:=(hSb b x hs).2;have h2:=(hS b x hs).2;exact ((hoth4 b hnl).trans h1).trans h2.symm
    | none=>
     have hab:=hal0 b (hal b (.inr hb)) hs;have e1:=(hgx b hab).2;have e3:=(hgy b (hgx b hab).1.2).2;exact (((hoth4 b hnl).trans e3).trans (hoth2 b hnl)).trans e1
   have hal3:∀b,(w.heap.size<=b/\b<w1.heap.size)\/M b->(locb H1.length).al b:=fun b hb=>by
    cases hs:S b with
    | some x=>exact (hSb b x hs).1
    | none=>exact halb b (hgy b (hgx b (hal0 b (hal b hb) hs)).1.2).1.2
   have hal4:∀b,(locb H1.length).al b->w.heap.size<=b:=fun b hb=>by
    rcases halb2 b hb with hb | hb
    ·exact hal2 b (hal02 b (hgx' b (hgy' b hb)))
    have:=hM b hb;have:=hbel.size;omega
   have leave:∀(e:Exit) (cj:Code),Vl e=some cj->K e (base [] OD l) Hb->∃v w',(Instr.endRound lr (some cj)).run P W3= .ok v w'/\∃b,Ending.returned v= .returned (.bool b)/\RJ G K an OD H1 loc ver w w1 l lr Ds rec (if b=true then some (an.mu z+1) else none) M w'/\Kept (fun c=>okN G H1 loc w c\/M c) W w':=by
    intro e cj hj hKe;refine fin (some cj) false rfl fun loc4 ver4 W4 hI4 hx4 hr4 hal5 hD4 hs4=>?_;exact ⟨hM,hD4,hs4,Hb,loc4,ver4,hI4,hgb,fun b hb=>by rw[hal5];exact hal3 b hb,fun b hb=>hal4 b (by rw[<- hal5];exact hb),hx4,e,cj,hj,hKe,hr4⟩
   cases e with
   | normal=>
    obtain ⟨z',hz',har⟩:=hK3;refine fin none true rfl fun loc4 ver4 W4 hI4 hx4 hr4 hal5 hD4 hs4=>?_;have hlen':=(hann z').1;have hS:=aD8 hlok (aD5 har.ent.2 (by rw[hlen'];exact hg3) (by rw[hlen'];exact hmo)) (by simp[hlen']);rw[hHb] at hS;obtain ⟨hI5,hok5⟩:=xJ hI4 (by simp;omega) hS
    have hx5:=xK hx4 (by simp;omega) (fun nm hnm=>by
     have h1:=uM (hann z').2 hnm
     rw[bU (aL.1 h1).1];exact h1) hwi hS hok5
    exact ⟨hM,hD4,hs4,_,loc4,_,hI5,by rw[<- hlen'];simp,fun b hb=>by rw[hal5];exact hal3 b hb,fun b hb=>hal4 b (by rw[<- hal5];exact hb),hx5.mono hODo,z',hz',har.pre,rfl,hx5,hr4⟩
   | ret=>
    have hK3:nG (base [] ((dI A key x++dI A key y)++an.objs) l) fun l'=>dA (lntX (items (an.mu z)) (H1.length+1) H3) fun H3=>K .ret l' H3:=hK3;rw[hOD,nX,bY,hHb] at hK3;exact leave .ret _ rfl hK3
   | exit id=>
    have hK3:nG (base [] ((dI A key x++dI A key y)++an.objs) l) fun l'=>dA (lntX (items (an.mu z)) (H1.length+1) H3) fun H3=>K (.exit id) l' H3:=hK3;rw[hOD,nX,bY,hHb] at hK3;exact leave (.exit id) _ rfl hK3
   | _=>cases hK3
  | _=>cases hK
 -- ahead of the first round
 obtain ⟨z,hz,har⟩:=hvc.init;have hlen':=(hann z).1;have hS:=aD6 har.ent.2 hlen' (by rw[hlen'];exact hmo);obtain ⟨hI5,hok5⟩:=xJ hI2 (by simp;omega) hS;have hx12:=hx2.toO OD
 have hx5:=xK hx12 (by simp;omega) (fun nm hnm=>by
  have h1:=uM (hann z).2 hnm
  rw[bU (aL.1 h1).1];exact h1) hwi hS hok5
 exact ⟨fun b hb=>hb.elim,fun D hD=>(hDs D hD).2.2,aN _,_,_,_,hI5,by rw[<- hlen'];simp,fun b hb=>by
   rw[aW];rcases hb with hb | hb
   ·exact hb
   exact hb.elim,fun b hb=>by rw[aW] at hb;exact hb.1,hx5.mono hODo,z,hz,har.pre,rfl,hx5,hrec⟩
theorem Vn (hY:COK P G) {Γ:List Con} (hΓ:∀c∈Γ,aO P c) {A:Anns} {g:Operand} {ps:Array Tmp} {x y:Code} (ihx:∀key,Og P G N Γ A key x) (ihy:∀key,Og P G N Γ A key y) (key:Nat):Og P G N Γ A key (.rangeFunc g ps x y):=by
 intro F n hF H loc ver w l a K hI hT hRo h;simp only[nH,rI,uF,rJ,pU,rK,jU] at h;split at h;case h_2=>cases h
 rename_i f caps hgv;rcases Gx h with ⟨an,hA,h⟩ | h;case inr=>cases h
 split at h
 ·cases h
 rename_i c hc;obtain ⟨hmem,rfl⟩:=Fk hc;obtain ⟨hent,hcl,_,_⟩:=hΓ c hmem;split at h
 ·-- the iterator goes over a vector of ours
  rename_i nk hso;obtain ⟨r,hk,htri⟩:=hcl _ _ h;rw[jR] at hk;split at hk;case h_2=>cases hk
  rename_i nn items;obtain ⟨hmo,hk2⟩:=bA hk;obtain ⟨hso2,hk3⟩:=hk2;have hmo:mem nk.1 an.objs=false:=by simpa using hmo
  have htri:TriI P c.f _ nn items:=htri;obtain ⟨nm,k⟩:=nk;unfold Yt at hso;split at hso;case h_2=>cases hso
  rename_i nm' k';split at hso;case h_2=>cases hso
  rename_i j t xs e ho;cases hjk:Nat.beq j k' with
  | false=>rw[hjk] at hso;cases hso
  | true=>
  rw[hjk] at hso;cases hso;have hjk:=bK.1 hjk;subst hjk;have hgr:=nI hT g;rw[hgv] at hgr;generalize hgval:a.eval g=gv at hgr;cases hgr with
  | clo _ _ _ va vb ha hcaps=>
  cases ha;cases hcaps with
  | cons _ v1 _ vs1 h1 h2=>
  cases h2;cases h1 with
  | lelem _ _ b off vs hl hokb hr=>
  cases hl with
  | cons _ u _ us h3 h4=>
  cases h4;obtain ⟨hu,_⟩:=wG hI h3 ho;subst hu;have hr0:=hr 0 _ rfl;refine Kv hY ihx ihy key hF hI (Ext.refl _) hT hRo hA hgval hent htri true (loc nm).toCore (fun w1 hbel=>⟨rfl,b,off,hokb,?_,rfl⟩) (fun _=>⟨nm,j,hmo,rfl,hso2⟩) hk3;exact (World.cell?_of_block (hbel.block _ hokb.2.1)).trans hr0
 rw[bY,lU] at h;obtain ⟨hb,h⟩:=bA h;obtain ⟨r,hk,htri⟩:=hcl _ _ h;rw[jR] at hk;split at hk;case h_2=>cases hk
 rename_i nn items;have htri:TriI P c.f _ nn items:=htri
 -- the state behind the freezing of what the iterator has captured
 obtain ⟨H1,hH1⟩:∃H1,jF H [.clo c.f [] caps]=H1:=⟨_,rfl⟩;rw[hH1] at hb hk htri;obtain ⟨hI1,hx1⟩:=sF [.clo c.f [] caps] hI;rw[hH1] at hI1 hx1;have hT1:=hT.ext hx1;have hgr:=nI hT1 g;rw[hgv] at hgr;generalize hgval:a.eval g=gv at hgr;cases hgr with
 | clo _ _ _ va vb ha hcaps=>
 cases ha;have hviews:=rL (H:=H1) (lend:=false) (Ext.refl (envOf G H1 loc ver w)) (fun _ _ _ h=>zD hI1 h) (fun nm k v h=>nZ hI1 h) (fun nm k i v _=>oW nm k i v) (fun nm v h=>tD hI1 (Ext.refl _) (.inl rfl) h) hcaps;exact Kv hY ihx ihy key hF hI1 hx1 hT1 hRo hA hgval hent htri false ⟨none,0,0⟩ (fun w1 hbel=>RelL.bare (E:=envOf G H1 loc ver w) (E':=env0 w1 (okN G H1 loc w)) (fun b _ hb h _=>(hbel.block _ hb.2.1).trans h) (fun _ h=>h) hviews hb) (fun h=>by cases h) hk
end
end Go.Eng
end
section
namespace Go.Eng
open Go.RowKit
section
variable {P:Program} {G:Ctx} {N:Nat} {H:List HO} {Γ:List Con}
def lk (ops:Array Oper) (o:Oper) (t:Nat):Prop:=Operand.tmp t∈o.op.operands.toList\/∃j b,o.guard=some (j,b)/\(ops[j]?).bind (·.dst)=some t
theorem rO (l:List (Nat × SV)):∀(xs:List Operand) (t:Nat),look (kL l xs) t= .any\/(Operand.tmp t∈xs/\look (kL l xs) t=look l t)
 | [],t=>.inl rfl
 | x::xs,t=>by
  cases x with
  | tmp u=>
   simp only[kL,look];by_cases e:u=t
   ·subst e;rw[gU];right;exact ⟨bW ..,rfl⟩
   rw[lV e];simp only[cD];rcases rO l xs t with h | ⟨h1,h2⟩
   ·exact .inl h
   exact .inr ⟨bP _ h1,h2⟩
  | _=>
   simp only[kL];rcases rO l xs t with h | ⟨h1,h2⟩
   ·exact .inl h
   exact .inr ⟨bP _ h1,h2⟩
theorem aG9 {ops:Array Oper} {l:List (Nat × SV)} {o:Oper} {yes no:List (Nat × SV)->Prop} (h:vN ops.toList l o.guard yes no):
  ∃l' b,((b=true/\yes l')\/(b=false/\no l'))/\(∀(E:Env) (t:Nat) (v:Value),Rel E (look l t) v->Rel E (look l' t) v)/\
   (∀(E:Env) (a:Act),(∀t,lk ops o t->Rel E (look l t) (a.tmps.getD t undef))->Region.wanted o (yielded ops a.tmps)=b):=by
 unfold vN at h;cases hg:o.guard with
 | none=>rw[hg] at h;exact ⟨l,true,.inl ⟨rfl,h⟩,fun _ _ _ h=>h,fun _ _ _=>by simp[Region.wanted,hg]⟩
 | some p=>
  obtain ⟨j,want⟩:=p;rw[hg] at h;simp only at h;split at h
  ·cases h
  rename_i t hd;have hd':(ops[j]?).bind (·.dst)=some t:=by simpa using hd
  have hlk:lk ops o t:=.inr ⟨j,want,hg,hd'⟩;have hw:∀(b:Bool) (a:Act),a.tmps.getD t undef= .bool b->Region.wanted o (yielded ops a.tmps)=(want==b):=by
   intro b a hb;have hy:=tF hd' hb;cases want<;>cases b<;>simp[Region.wanted,hg,hy]
  split at h
  ·rename_i hl;refine ⟨l,want,?_,fun _ _ _ h=>h,fun E a hr=>?_⟩
   ·cases want with
    | true=>exact .inl ⟨rfl,h⟩
    | false=>exact .inr ⟨rfl,h⟩
   have h1:=hr t hlk;rw[hl] at h1;rw[hw true a h1.bool_inv];cases want<;>rfl
  ·rename_i hl;refine ⟨l, !want,?_,fun _ _ _ h=>h,fun E a hr=>?_⟩
   ·cases want with
    | true=>exact .inr ⟨rfl,h⟩
    | false=>exact .inl ⟨rfl,h⟩
   have h1:=hr t hlk;rw[hl] at h1;rw[hw false a h1.bool_inv];cases want<;>rfl
  ·rename_i p d hl;have hlearn:∀(b:Bool),@decide p d=b->∀(E:Env) (u:Nat) (v:Value),Rel E (look l u) v->Rel E (look (put l t (.val (.bool b))) u) v:=by
    intro b hb E u v hr;rw[qO];by_cases e:u=t
    ·rw[aD e];rw[e,hl] at hr;cases hr;rw[hb];exact .val _ trivial
    rw[aC e];exact hr
   have hval:∀(E:Env) (a:Act),(∀t,lk ops o t->Rel E (look l t) (a.tmps.getD t undef))->a.tmps.getD t undef= .bool (@decide p d):=by
    intro E a hr;have h1:=hr t hlk;rw[hl] at h1;generalize a.tmps.getD t undef=v at h1;cases h1;rfl
   by_cases hp:p
   ·have hdp:@decide p d=true:=by simp[hp]
    refine ⟨put l t (.val (.bool true)),want,?_,hlearn true hdp,fun E a hr=>?_⟩
    ·cases want with
     | true=>exact .inl ⟨rfl,by have:=h.yes hp;rwa [bY] at this⟩
     | false=>exact .inr ⟨rfl,by have:=h.yes hp;rwa [bY] at this⟩
    rw[hw _ a (hval E a hr),hdp];cases want<;>rfl
   have hdp:@decide p d=false:=by simp[hp]
   refine ⟨put l t (.val (.bool false)), !want,?_,hlearn false hdp,fun E a hr=>?_⟩
   ·cases want with
    | true=>exact .inr ⟨rfl,by have:=h.no hp;rwa [bY] at this⟩
    | false=>exact .inl ⟨rfl,by have:=h.no hp;rwa [bY] at this⟩
   rw[hw _ a (hval E a hr),hdp];cases want<;>rfl
  ·rename_i hl;refine ⟨l,false,.inr ⟨rfl,h⟩,fun _ _ _ h=>h,fun E a hr=>?_⟩;have h1:=hr t hlk;rw[hl] at h1;generalize hv:a.tmps.getD t undef=v at h1;cases h1 with
   | tup _ vs hl'=>cases hl';simp[Region.wanted,hg,Bq hd' hv]
  cases h
theorem OpOK.ex {o:Oper} {a:Act} {w:World} {R:Value->World->Prop} (h:OpOK P Fence.wide o a w R):∃v w',R v w':=by
 cases h with
 | value v w' _ h=>exact ⟨v,w',h⟩
 | skip w' _ h=>exact ⟨_,w',h⟩
 | call f args _ h=>
  obtain ⟨e,w',_,⟨v,_,h⟩,_⟩:=(h 0).2 [] (fun d h=>by cases h);exact ⟨v,w',h⟩
 | yield l args _ h=>
  obtain ⟨_,_,_,_,_,hR⟩:=h;obtain ⟨e,w',⟨v,_,h⟩,_⟩:=hR.2 default [] (fun d h=>by cases h);exact ⟨v,w',h⟩
theorem pV {o:Oper} {j:Nat} (h:waits o j=true):∃e∈o.after,Region.binds .any e=true/\e.on=j:=by
 obtain ⟨e,h1,h2⟩:=lK.1 h;obtain ⟨h3,h4⟩:=and2 h2;exact ⟨e,by simpa using h1,h3,bK.1 h4⟩
theorem tT {o:Oper} {i:Nat} (h:topo i o=true):∀e∈o.after,Region.binds .any e=true->e.on<i:=by
 intro e he hb;have:=fC.1 h e (by simpa using he);simpa [hb] using this
def late (ops:Array Oper) (m i t:Nat):Prop:=∃j o',j<m/\ops[j]? =some o'/\o'.dst=some t/\waits o' i=true
open Classical in
def rdM (ops:Array Oper) (m:Nat) (wr0 wr:Nat->SV) (i t:Nat):SV:=if late ops m i t then wr0 t else wr t
structure QP (P:Program) (Γ:List Con) (ops:Array Oper) (H:List HO) (N:Nat) (wr:Nat->SV) (sv:SV) (wn:Bool) (o:Oper):Prop where
 want:∀(E:Env) (a:Act),(∀t,lk ops o t->Rel E (wr t) (a.tmps.getD t undef))->Region.wanted o (yielded ops a.tmps)=wn
 run:wn=true->∃lr X,op1 P Γ o lr H (fun s' H'=>Pinned (s'=sv) (H'=H) X)/\∀(t:Nat) (E:Env) (v:Value),(lk ops o t->Rel E (wr t) v)->Rel E (look lr t) v
 skip:wn=false->sv= .tup []
 dst:∀t,o.dst=some t->t<N
theorem Aq {o:Oper} {t:Nat}:Js o t=true↔o.dst=some t:=by
 unfold Js;cases o.dst with
 | none=>simp
 | some u=>simp
theorem qF {ops:Array Oper} {m i:Nat} {o:Oper} {t:Nat} (h:Qr ops.toList m i o t=true) {j:Nat} {o':Oper} (hj:j<m) (ho:ops[j]? =some o') (hd:o'.dst=some t):(waits o j=true/\j<i)\/waits o' i=true:=by
 have:=fC.1 h j (jZ.2 hj);simp only[iF,ho] at this;rw[Aq.2 hd] at this;simpa using this
theorem xM {ops:Array Oper} {m i:Nat} {o:Oper} (h:opOk ops.toList m i o=true) {t:Nat} (hl:lk ops o t):Qr ops.toList m i o t=true:=by
 simp only[opOk,aE] at h;rcases hl with hl | ⟨j,b,h1,h2⟩
 ·have:=fC.1 h.1 _ hl;exact this
 have:=h.2.1;rw[h1] at this;simp only[aB2] at this;have h2':(ops.toList[j]?).bind (·.dst)=some t:=by simpa using h2
 rw[h2'] at this;exact this
theorem wJ {ops:Array Oper} {m i:Nat} {o:Oper} (h:opOk ops.toList m i o=true) {t:Nat} (hd:o.dst=some t) {j:Nat} {o':Oper} (hj:j<m) (ho:ops[j]? =some o') (hd':o'.dst=some t):j=i:=by
 simp only[opOk,aE] at h;have:=h.2.2;rw[hd] at this;have:=fC.1 this j (jZ.2 hj);simp only[iF,ho] at this;rw[Aq.2 hd'] at this;simpa using this
theorem virt (hY:COK P G) (hΓ:∀c∈Γ,aO P c) {ops:Array Oper} {m:Nat} (hq:∀i o,i<m->ops[i]? =some o->opOk ops.toList m i o=true) (htopo:∀i o,ops[i]? =some o->topo i o=true) (wr0:Nat->SV) {K:List (Nat × SV)->Prop}:∀(rest:List Oper) (k:Nat),(ops.toList.take m).drop k=rest->
  ∀ {loc:Nat->Loc} {ver:Nat->Nat} {w:World} {l:List (Nat × SV)} {a:Act} {wr:Nat->SV},Inv G H loc ver w->TRel (envOf G H loc ver w) N l a->(∀(E:Env) (t:Nat) (v:Value),Rel E (wr t) v->Rel E (look l t) v)->
  (∀t,(∀j o,j<k->ops[j]? =some o->o.dst≠some t)->wr t=wr0 t)->
  Gw P Γ N ops.toList rest l H K->
  ∃(wr':Nat->SV) (sv:Nat->SV) (wn:Nat->Bool) (lf:List (Nat × SV)),K lf/\(∀(E:Env) (t:Nat) (v:Value),Rel E (wr' t) v->Rel E (look lf t) v)/\
   (∀t,(∀j o,k<=j->j<m->ops[j]? =some o->o.dst≠some t)->wr' t=wr t)/\
   (∀j o,k<=j->j<m->ops[j]? =some o->(∀t,o.dst=some t->wr' t=sv j)/\QP P Γ ops H N (rdM ops m wr0 wr' j) (sv j) (wn j) o):=by
 intro rest
 induction rest with
 | nil=>
  intro k hk loc ver w l a wr hI hT hRef hw0 h;refine ⟨wr,fun _=>.any,fun _=>false,l,h,hRef,fun _ _=>rfl,fun j o h1 h2 h3=>?_⟩;have:(ops.toList.take m).length<=k:=sN.1 hk;have hj:=(aF.1 h3).1;simp at this;omega
 | cons o r ih=>
  intro k hk loc ver w l a wr hI hT hRef hw0 h;have hko:(ops.toList.take m)[k]? =some o:=by
   have:((ops.toList.take m).drop k)[0]? =some o:=by rw[hk];rfl
   rw[bD] at this;simpa using this
  have hkm:k<m:=by
   rw[aU] at hko;split at hko
   ·assumption
   cases hko
  have hop:ops[k]? =some o:=by
   rw[aU,aD hkm] at hko;simpa using hko
  have hkr:(ops.toList.take m).drop (k+1)=r:=by rw[<- gE,hk];rfl
  have hok:=hq k o hkm hop;simp only[Yq] at h;obtain ⟨l',b,hyn,hlearn,hwant⟩:=aG9 h;have hT':TRel (envOf G H loc ver w) N l' a:=⟨hT.size,fun t=>hlearn _ t _ (hT.rel t)⟩;have hRef':∀(E:Env) (t:Nat) (v:Value),Rel E (wr t) v->Rel E (look l' t) v:=fun E t v h=>hlearn E t v (hRef E t v h)
  -- behind this operation, whatever it has left
  have step:∀ {loc':Nat->Loc} {ver':Nat->Nat} {w':World} {s:SV} {v:Value},Inv G H loc' ver' w'->Ext (envOf G H loc ver w) (envOf G H loc' ver' w')->Rel (envOf G H loc' ver' w') s v->
    setT N l' o.dst s (fun l''=>Gw P Γ N ops.toList r l'' H K)->(b=false->s= .tup [])->
    (b=true->∃X,op1 P Γ o (kL l' o.op.operands.toList) H (fun s' H'=>Pinned (s'=s) (H'=H) X))->
    ∃(wr':Nat->SV) (sv:Nat->SV) (wn:Nat->Bool) (lf:List (Nat × SV)),K lf/\(∀(E:Env) (t:Nat) (v:Value),Rel E (wr' t) v->Rel E (look lf t) v)/\
     (∀t,(∀j o,k<=j->j<m->ops[j]? =some o->o.dst≠some t)->wr' t=wr t)/\
     (∀j o,k<=j->j<m->ops[j]? =some o->(∀t,o.dst=some t->wr' t=sv j)/\QP P Γ ops H N (rdM ops m wr0 wr' j) (sv j) (wn j) o):=by
   intro loc' ver' w' s v hI' hx' hrs hset hskip hrun;obtain ⟨wr1,hwr1⟩:∃wr1:Nat->SV,wr1=fun t=>if o.dst=some t then s else wr t:=⟨_,rfl⟩;have hnext:∃l'',Gw P Γ N ops.toList r l'' H K/\TRel (envOf G H loc' ver' w') N l'' (a.put o.dst v)/\(∀(E:Env) (t:Nat) (v:Value),Rel E (wr1 t) v->Rel E (look l'' t) v)/\∀t,o.dst=some t->t<N:=by
    cases hd:o.dst with
    | none=>
     rw[hd] at hset;refine ⟨l',hset,hT'.ext hx',fun E t v h=>?_,fun t h=>by cases h⟩;rw[hwr1] at h;simp only[hd] at h;exact hRef' E t v (by simpa using h)
    | some u=>
     rw[hd] at hset;obtain ⟨hu,hset⟩:=bA hset;rw[bY] at hset;have hu':u<N:=by simpa using hu
     refine ⟨_,hset,?_,fun E t v h=>?_,fun t h=>by cases h;exact hu'⟩
     ·refine ⟨by simp[Act.put];exact hT.size,fun t=>?_⟩;rw[qO,yY a u t v (by rw[hT.size];exact hu')];by_cases e:t=u
      ·rw[aD e,aD e];exact hrs
      rw[aC e,aC e];exact (hT'.ext hx').rel t
     rw[hwr1] at h;simp only[hd] at h;rw[qO];by_cases e:t=u
     ·rw[aD e];rw[aD (by rw[e])] at h;exact h
     rw[aC e];rw[aC (fun e'=>e (by cases e';rfl))] at h;exact hRef' E t v h
   obtain ⟨l'',he,hT'',hRef'',hdN⟩:=hnext;have hw1:∀t,(∀j o,j<k+1->ops[j]? =some o->o.dst≠some t)->wr1 t=wr0 t:=fun t ht=>by
    rw[hwr1];simp only[aC (ht k o (dT k) hop)];exact hw0 t fun j o' hj=>ht j o' om
   obtain ⟨wr',sv,wn,lf,h1,h2,h3,h4⟩:=ih (k+1) hkr hI' hT'' hRef'' hw1 he;have hwr:∀t,lk ops o t->rdM ops m wr0 wr' k t=wr t:=by
    intro t ht;have hro:=xM hok ht;unfold rdM;by_cases hl:late ops m k t
    ·rw[aD hl];obtain ⟨j0,o0,g1,g2,g3,g4⟩:=hl;obtain ⟨e,he,hb,hon⟩:=pV g4;have hk0:=tT (htopo j0 o0 g2) e he hb;refine (hw0 t fun j o' hj hj3 hd=>?_).symm;have:=wJ (hq j0 o0 g1 g2) g3 (show j<m by omega) hj3 hd;omega
    rw[aC hl];have h5:=h3 t fun j o' hj1 hj2 hj3 hd=>by
     rcases qF hro hj2 hj3 hd with h6 | h6
     ·have:=h6.2;omega
     exact hl ⟨j,o',hj2,hj3,hd,h6⟩
    rw[h5,hwr1];have:o.dst≠some t:=fun hd=>by
     rcases qF hro hkm hop hd with h6 | h6
     ·have:=h6.2;omega
     exact hl ⟨k,o,hkm,hop,hd,h6⟩
    simp only[aC this]
   refine ⟨wr',fun j=>if j=k then s else sv j,fun j=>if j=k then b else wn j,lf,h1,h2,fun t ht=>?_,fun j o' hj1 hj2 hj3=>?_⟩
   ·rw[h3 t fun j o' hj1 hj2 hj3=>ht j o' om hj2 hj3,hwr1];simp only[aC (ht k o (aN _) hkm hop)]
   by_cases e:j=k
   ·subst e;rw[hop] at hj3;cases hj3;simp only[if_true];refine ⟨fun t hd=>?_,⟨fun E a hr=>hwant E a fun t ht=>hRef E t _ (by rw[<- hwr t ht];exact hr t ht),fun hb=>?_,hskip,hdN⟩⟩
    ·rw[h3 t fun j' o' hj1' hj2' hj3' hd'=>by have:=wJ hok hd hj2' hj3' hd';omega,hwr1];simp only[aD hd]
    obtain ⟨X,hX⟩:=hrun hb;refine ⟨_,X,hX,fun t E v hr=>?_⟩;rcases rO l' o.op.operands.toList t with h5 | ⟨h5,h6⟩
    ·rw[h5];exact .any v
    rw[h6];have hl:lk ops o t:=.inl h5;exact hRef' E t v (by rw[<- hwr t hl];exact hr hl)
   simp only[aC e];exact h4 j o' om hj2 hj3
  rcases hyn with ⟨rfl,hy⟩ | ⟨rfl,hn⟩
  ·obtain ⟨s,hs⟩:=hy.ex;rw[bY] at hs
   have hTr:TRel (envOf G H loc ver w) N (kL l' o.op.operands.toList) a:=⟨hT.size,fun t=>by
    rcases rO l' o.op.operands.toList t with h5 | ⟨h5,h6⟩
    ·rw[h5];exact .any _
    rw[h6];exact hT'.rel t⟩
   obtain ⟨_,hopk⟩:=rN (F:=Fence.wide) hY hΓ ⟨none,rfl⟩ hI hTr hs;obtain ⟨v,w',s',H',loc',ver',hp,hI',hr',hx'⟩:=hopk.ex;obtain ⟨rfl,rfl,hgo⟩:=hp;exact step hI' hx' hr' hgo (fun h=>by cases h) (fun _=>⟨_,hs⟩)
  exact step hI (Ext.refl _) (.tup [] [] .nil) hn (fun _=>rfl) (fun h=>by cases h)
end
end Go.Eng
end
section
namespace Go.Eng
section
variable {P:Program}
theorem aEb {F:Fence} {n:Nat} {o:Oper} {a a':Act} {K K':Act->World->Prop} {Q:Exit->Act->World->Prop} (hQn:∀e a w,Q e a w->e= .normal)
  (hK:∀v w,K' (a'.put o.dst v) w->K (a.put o.dst v) w) (hKd:∀d v w,K' ({ a' with defers:=d::a'.defers }.put o.dst v) w->K ({ a with defers:=d::a.defers }.put o.dst v) w)
  {r:Result Next} (hh:o.uponIn F n P a' K' Q r):o.uponIn F n P a K Q r:=by
 cases r with
 | ok x w'=>
  cases x<;>simp only[Oper.uponIn] at hh ⊢;case value=>exact hK _ _ hh
  case skip=>exact hK _ _ hh
  case defer=>exact hKd _ _ _ hh
  case enter=>exact ⟨hh.1,CallsIn.mono hh.2 (fun e w'' he=>by
   cases e with
   | returned v=>exact hK _ _ he
   | panicked c=>exact absurd (hQn _ _ _ he) si
   | outgrown=>exact he)⟩
  case row=>exact ⟨hh.1,RowsIn.mono hh.2 (fun _ _ he=>hK _ _ he)⟩
  case round=>exact ⟨hh.1,RoundIn.mono hh.2 (fun e w'' he=>by
   cases e with
   | returned v=>exact hK _ _ he
   | panicked c=>exact absurd (hQn _ _ _ he) si
   | outgrown=>exact he)⟩
  all_goals exact hh
 | halt x w'=>
  cases x<;>simp only[Oper.uponIn] at hh ⊢;case panic=>exact absurd (hQn _ _ _ hh) si
  all_goals exact hh
theorem Zx {F:Fence} {n:Nat} {o:Oper} {a:Act} {K K':Act->World->Prop} {Q Q':Exit->Act->World->Prop} (hQ:∀e a w,Q e a w->Q' e a w) (hK:∀a w,K a w->K' a w)
  {r:Result Next} (hh:o.uponIn F n P a K Q r):o.uponIn F n P a K' Q' r:=by
 have hL:LetsOut Q->LetsOut Q':=fun ⟨a,w,h⟩=>⟨a,w,hQ _ _ _ h⟩;cases r with
 | ok x w'=>
  cases x<;>simp only[Oper.uponIn] at hh ⊢;case value=>exact hK _ _ hh
  case skip=>exact hK _ _ hh
  case defer=>exact hK _ _ hh
  case enter=>exact ⟨hh.1,CallsIn.mono hh.2 (fun e w'' he=>by
   cases e with
   | returned v=>exact hK _ _ he
   | panicked c=>exact hQ _ _ _ he
   | outgrown=>exact hL he)⟩
  case row=>exact ⟨hh.1,RowsIn.mono hh.2 (fun _ _ he=>hK _ _ he)⟩
  case round=>exact ⟨hh.1,RoundIn.mono hh.2 (fun e w'' he=>by
   cases e with
   | returned v=>exact hK _ _ he
   | panicked c=>exact hQ _ _ _ he
   | outgrown=>exact hL he)⟩
  all_goals exact hh
 | halt x w'=>
  cases x<;>simp only[Oper.uponIn] at hh ⊢;case panic=>exact hQ _ _ _ hh
  all_goals exact hh
theorem Ar {F:Fence} {n:Nat} {ops:Array Oper} {Q Q':Exit->Act->World->Prop} (hQ:∀e a w,Q e a w->Q' e a w):∀(fuel:Nat) (listed:Array Bool) (a:Act) (w:World),wpAnyIn F n P .any ops Q fuel listed a w->wpAnyIn F n P .any ops Q' fuel listed a w
 | 0,_,_,_,h=>⟨h.1,hQ _ _ _ h.2⟩
 | f+1,listed,a,w,h=>by
  refine ⟨fun hr=>hQ _ _ _ (h.1 hr),fun i hi=>?_⟩;have:=h.2 i hi;unfold wpOpIn at this ⊢;cases ho:ops[i]? with
  | none=>rw[ho] at this;exact Ar hQ f _ _ _ this
  | some o=>
   rw[ho] at this;simp only at this ⊢;split
   ·rename_i hw;rw[aD hw] at this;exact ⟨this.1,Zx hQ (fun a w h=>Ar hQ f _ _ _ h) this.2⟩
   rename_i hw;rw[aC hw] at this;exact ⟨this.1,Ar hQ f _ _ _ this.2⟩
theorem aCm {a:Act} {t:Nat} {v:Value} {u:Nat} (h:u≠t):(a.put (some t) v).tmps.getD u undef=a.tmps.getD u undef:=by
 simp only[Act.put,bM,cK];rw[aC (Ne.symm h)]
theorem aHg {a:Act} {t:Nat} {v:Value} {d:Option Nat} {u:Value} (h:d≠some t):(a.put (some t) v).put d u=(a.put d u).put (some t) v:=by
 cases d with
 | none=>rfl
 | some d=>
  have hne:d≠t:=fun e=>h (by rw[e]);simp only[Act.put];congr 1
  apply uW;intro i;simp only[cK,Array.size_setIfInBounds];by_cases h1:d=i
  ·subst h1;simp[Ne.symm hne]
  by_cases h2:t=i
  ·subst h2;simp[h1]
  simp[h1,h2]
theorem Vy {l:Array Bool} {i j:Nat}:(l.setIfInBounds i true).setIfInBounds j true=(l.setIfInBounds j true).setIfInBounds i true:=by
 apply uW;intro k;simp only[cK,Array.size_setIfInBounds];by_cases h1:i=k<;>by_cases h2:j=k<;>simp[h1,h2]
theorem nK {listed:Array Bool} {i:Nat} (hi:listed.getD i true=false):(listed.setIfInBounds i true).getD i false=true:=by
 rw[bM] at hi ⊢;rw[cK];by_cases h:i<listed.size
 ·simp[h]
 rw[Array.getElem?_eq_none om] at hi;simp at hi
structure Free (ops:Array Oper) (i:Nat) (o:Oper) (x:Operand) (t:Nat):Prop where
 at_:ops[i]? =some o
 op:pureArg o.op=some x
 guard:o.guard=none
 dst:o.dst=some t
 only:∀(j:Nat) (o':Oper),j≠i->ops[j]? =some o'->o'.dst≠some t
 src:∀(j:Nat) (o':Oper),ops[j]? =some o'->waits o j=true\/∀u,x= .tmp u->o'.dst≠some u
 readers:∀(j:Nat) (o':Oper),j≠i->ops[j]? =some o'->lk ops o' t->waits o' i=true
 nosel:∀(j:Nat) (o':Oper),ops[j]? =some o'->(∀cs b,o'.op≠ .select cs b)/\∀c,o'.op≠ .defer c
theorem Bt {o:Oper} {x:Operand} (h:pureArg o.op=some x):∀c,o.op≠ .defer c:=fun c e=>by rw[e] at h;cases h
theorem aMx {F:Fence} (hF:∀f,F.fn f) {n:Nat} {ops:Array Oper} {Q:Exit->Act->World->Prop} (hQn:∀e a w,Q e a w->e= .normal) {i:Nat} {o:Oper} {x:Operand} {t:Nat} (hf:Free ops i o x t) {vx v0:Value}
  (H0:∀(ρ:Operand->Value) (w:World),ρ x=vx->(execOp ρ o).run P w= .ok (.value v0) w):
  ∀(fuel:Nat) (listed:Array Bool) (a:Act) (w:World),listed.size=ops.size->listed.getD i true=false->(∀e∈o.after,Region.binds .any e=true->listed.getD e.on false=true)->a.eval x=vx->wpAnyIn F n P .any ops Q fuel (listed.setIfInBounds i true) (a.put (some t) v0) w->wpAnyIn F n P .any ops Q (fuel+1) listed a w:=by
 intro fuel
 induction fuel with
 | zero=>
  intro listed a w hls hi hdep hvx h;have hri:i∈Region.ready .any ops listed:=mem_ready.2 ⟨hi,o,hf.at_,hdep⟩;refine ⟨fun hr=>(by rw[hr] at hri;cases hri),fun j hj=>?_⟩;by_cases hji:j=i
  ·subst hji;unfold wpOpIn;simp only[hf.at_];rw[aD (by simp[Region.wanted,hf.guard])];refine ⟨fun f _=>hF f,?_⟩;have e1:(o.semAt F.round a.eval).run P w= .ok (.value v0) w:=by
    rw[Oper.semAt_eq _ _ _ (Bt hf.op)];exact H0 a.eval w hvx
   rw[e1,Oper.uponIn_value,hf.dst];exact h
  obtain ⟨h1,oj,hoj,h2⟩:=mem_ready.1 hj;exfalso
  have:j∈Region.ready .any ops (listed.setIfInBounds i true):=mem_ready.2 ⟨by rw[getD_set_ne true (Ne.symm hji)];exact h1,oj,hoj,fun e he hb=>by
   by_cases he2:e.on=i
   ·rw[he2];have his:=(aF.1 hf.at_).1;simp[bM,cK,hls,his]
   rw[getD_set_ne false (Ne.symm he2)];exact h2 e he hb⟩
  rw[h.1] at this;cases this
 | succ f ih=>
  intro listed a w hls hi hdep hvx h;have hri:i∈Region.ready .any ops listed:=mem_ready.2 ⟨hi,o,hf.at_,hdep⟩;refine ⟨fun hr=>(by rw[hr] at hri;cases hri),fun j hj=>?_⟩;by_cases hji:j=i
  ·subst hji;unfold wpOpIn;simp only[hf.at_];rw[aD (by simp[Region.wanted,hf.guard])];refine ⟨fun f _=>hF f,?_⟩;have e1:(o.semAt F.round a.eval).run P w= .ok (.value v0) w:=by
    rw[Oper.semAt_eq _ _ _ (Bt hf.op)];exact H0 a.eval w hvx
   rw[e1,Oper.uponIn_value,hf.dst];exact h
  obtain ⟨h1,oj,hoj,h2⟩:=mem_ready.1 hj
  have hjr:j∈Region.ready .any ops (listed.setIfInBounds i true):=mem_ready.2 ⟨by rw[getD_set_ne true (Ne.symm hji)];exact h1,oj,hoj,fun e he hb=>by
   by_cases he2:e.on=i
   ·rw[he2];have his:=(aF.1 hf.at_).1;simp[bM,cK,hls,his]
   rw[getD_set_ne false (Ne.symm he2)];exact h2 e he hb⟩
  have hstep:=h.2 j hjr;have his:=(aF.1 hf.at_).1
  -- it does not read what the move writes
  have hnr:¬lk ops oj t:=fun hl=>by
   obtain ⟨e,he⟩:=lK.1 (hf.readers j oj hji hoj hl);obtain ⟨he1,he2⟩:=he;simp only[aE] at he2;have:=h2 e (by simpa using he1) he2.1;rw[Nat.eq_of_beq_eq_true he2.2] at this;rw[bM] at this hi;rw[oO om] at this hi;simp at this hi;rw[this] at hi;cases hi
  have hdt:oj.dst≠some t:=hf.only j oj hji hoj;have hsrc:∀u,x= .tmp u->oj.dst≠some u:=(hf.src j oj hoj).resolve_left fun hw=>by
   obtain ⟨e,he⟩:=lK.1 hw;obtain ⟨he1,he2⟩:=he;simp only[aE] at he2;have:=hdep e (by simpa using he1) he2.1;rw[Nat.eq_of_beq_eq_true he2.2] at this;rw[bM] at this h1;have hjs:=(aF.1 hoj).1;rw[oO om] at this h1;simp at this h1;rw[this] at h1;cases h1
  have hv:∀d u,(∀e,x= .tmp e->d≠some e)->∀a:Act,(a.put d u).eval x=a.eval x:=by
   intro d u hd a;cases x with
   | tmp e=>
    cases d with
    | none=>rfl
    | some d=>exact aCm (a:=a) (t:=d) (v:=u) (u:=e) fun he=>hd e rfl (by rw[he])
   | _=>cases d<;>rfl
  have hop:∀y∈oj.op.operands,(a.put (some t) v0).eval y=a.eval y:=by
   intro y hy;cases y with
   | tmp e=>exact aCm fun he=>hnr (.inl (by subst he;simpa using hy))
   | _=>rfl
  have hwant:Region.wanted oj (yielded ops (a.put (some t) v0).tmps)=Region.wanted oj (yielded ops a.tmps):=by
   unfold Region.wanted;cases hg:oj.guard with
   | none=>rfl
   | some p=>
    obtain ⟨q,want⟩:=p;simp only;congr 1
    unfold yielded;cases hq:(ops[q]?).bind (·.dst) with
    | none=>rfl
    | some u=>
     have hut:u≠t:=fun e=>hnr (.inr ⟨q,want,hg,by rw[hq,e]⟩);simp only[oI,Act.put,cK];rw[aC (Ne.symm hut)]
  have next:∀(b:Act) (u:Value) (w:World),b.eval x=vx->wpAnyIn F n P .any ops Q f ((listed.setIfInBounds i true).setIfInBounds j true) ((b.put (some t) v0).put oj.dst u) w->wpAnyIn F n P .any ops Q (f+1) (listed.setIfInBounds j true) (b.put oj.dst u) w:=by
   intro b u w hb0 hb;refine ih (listed.setIfInBounds j true) (b.put oj.dst u) w (by simpa using hls) (by rw[getD_set_ne true hji];exact hi) (fun e he hbd=>?_) (by rw[hv oj.dst u hsrc b,hb0]) ?_
   ·by_cases hej:e.on=j
    ·rw[hej];exact nK h1
    rw[getD_set_ne false (Ne.symm hej)];exact hdep e he hbd
   rw[<- aHg hdt,<- Vy];exact hb
  unfold wpOpIn at hstep ⊢;simp only[hoj] at hstep ⊢;rw[hwant] at hstep;split
  ·rename_i hw;rw[aD hw] at hstep;refine ⟨fun f _=>hF f,?_⟩;have hs2:=hstep.2;have e1:∀ρ,oj.semAt F.round ρ=execOp ρ oj:=fun ρ=>Oper.semAt_eq _ _ _ (hf.nosel j oj hoj).2;rw[e1,execOp_congr oj (hf.nosel j oj hoj).1 hop] at hs2;rw[e1]
   exact aEb hQn (fun v w hk=>next a v w hvx hk) (fun d v w hk=>by
    have:=next { a with defers:=d::a.defers } v w hvx;refine this ?_
    exact hk) hs2
  rename_i hw;rw[aC hw] at hstep;exact ⟨fun f _=>hF f,next a undef w hvx hstep.2⟩
end
end Go.Eng
end
section
namespace Go.Eng
open Go.RowKit
section
variable {P:Program} {G:Ctx} {N:Nat} {Γ:List Con}
theorem qG {ops:Array Oper} {p:Nat->Oper->Bool} {n:Nat} (h:Qv ops.toList p n=true) {i:Nat} {o:Oper} (hi:i<n) (ho:ops[i]? =some o):p i o=true:=by
 have:=fC.1 h i (jZ.2 hi);simpa [iF,ho] using this
def unl (listed:Array Bool):Nat->Nat
 | 0=>0
 | n+1=>unl listed n+(if listed.getD n true=false then 1 else 0)
theorem Rm {listed:Array Bool} {i:Nat} (hi:listed.getD i true=false):∀n,unl (listed.setIfInBounds i true) n+(if i<n then 1 else 0)=unl listed n
 | 0=>rfl
 | n+1=>by
  have ih:=Rm hi n;simp only[unl];by_cases e:i=n
  ·subst e;have:(listed.setIfInBounds i true).getD i true=true:=by
    rw[bM,cK];simp;split<;>rfl
   rw[this,hi];simp at ih ⊢;omega
  rw[getD_set_ne true e];have:(if i<n+1 then 1 else 0)=(if i<n then 1 else 0):=by
   by_cases h:i<n
   ·simp[h];omega
   have h2:¬i<n+1:=om;simp[h,h2]
  omega
theorem iS {listed:Array Bool} {i:Nat} (h:i<listed.size):listed.getD i true=listed.getD i false:=by
 simp[bM,oO h]
theorem Ol {ms:List Nat} {j:Nat}:∀(l:List Edge) (acc:Nat),Nat.testBit (l.foldl (fun acc e=>bif Region.binds .any e then Nat.lor (Nat.lor acc (Nat.shiftLeft 1 e.on)) (ms.getD e.on 0) else acc) acc) j=true->
  Nat.testBit acc j=true\/∃e∈l,Region.binds .any e=true/\(e.on=j\/Nat.testBit (ms.getD e.on 0) j=true)
 | [],acc,h=>.inl h
 | e::l,acc,h=>by
  rcases Ol l _ h with h1 | ⟨e',h1,h2,h3⟩
  ·cases hb:Region.binds .any e with
   | false=>simp only[hb,cD] at h1;exact .inl h1
   | true=>
    simp only[hb,bR] at h1;have h1':Nat.testBit ((acc ||| (1 <<<e.on)) ||| (ms.getD e.on 0)) j=true:=h1;simp only[Nat.testBit_or,cQ] at h1';rcases h1' with (h2 | h2) | h2
    ·exact .inl h2
    ·refine .inr ⟨e,bW,hb,.inl ?_⟩;rw[Nat.testBit_shiftLeft] at h2;simp only[aE,vL] at h2;have h3:=h2.2;by_cases hz:j-e.on=0
     ·omega
     obtain ⟨q,hq⟩:=Nat.exists_eq_succ_of_ne_zero hz;rw[hq] at h3;simp[Nat.testBit_succ] at h3
    exact .inr ⟨e,bW,hb,.inr h2⟩
  exact .inr ⟨e',bP _ h1,h2,h3⟩
theorem aHb {ms:List Nat} {o:Oper} {j:Nat} (h:Nat.testBit (yV ms o) j=true):∃e∈o.after,Region.binds .any e=true/\(e.on=j\/Nat.testBit (ms.getD e.on 0) j=true):=by
 rcases Ol _ _ h with h1 | ⟨e,h1,h2⟩
 ·simp at h1
 exact ⟨e,by simpa using h1,h2⟩
def Closed (ops:Array Oper) (L:Nat->Prop):Prop:=∀(i:Nat) (o:Oper),ops[i]? =some o->L i->∀e∈o.after,Region.binds .any e=true->L e.on
theorem Kx {ops:Array Oper} {L:Nat->Prop} (hc:Closed ops L):∀(rest:List Oper) (ms:List Nat),ops.toList.drop ms.length=rest->
  (∀i j,Nat.testBit (ms.getD i 0) j=true->(∀o,ops[i]? =some o->∀e∈o.after,Region.binds .any e=true->L e.on)->L j)->
  (∀i j,Nat.testBit ((pS rest ms).getD i 0) j=true->(∀o,ops[i]? =some o->∀e∈o.after,Region.binds .any e=true->L e.on)->L j)
 | [],ms,_,h=>h
 | o::r,ms,hd,h=>by
  have ho:ops[ms.length]? =some o:=by
   have:(ops.toList.drop ms.length)[0]? =some o:=by rw[hd];rfl
   rw[bD] at this;simpa using this
  refine Kx hc r (ms++ [yV ms o]) (by rw[aS,cU,<- gE,hd];rfl) ?_;intro i j hb hp;by_cases hi:i<ms.length
  ·have e1:(ms++ [yV ms o]).getD i 0=ms.getD i 0:=by simp[aB,bU hi]
   rw[e1] at hb;exact h i j hb hp
  by_cases hi2:i=ms.length
  ·subst hi2;have e1:(ms++ [yV ms o]).getD ms.length 0=yV ms o:=by simp[aB]
   rw[e1] at hb;obtain ⟨e,he,hbd,h3 | h3⟩:=aHb hb
   ·rw[<- h3];exact hp o ho e he hbd
   exact h e.on j h3 fun o' ho' e' he' hb'=>hc e.on o' ho' (hp o ho e he hbd) e' he' hb'
  have e1:(ms++ [yV ms o]).getD i 0=0:=by
   rw[aB,cG (by simp;omega)];rfl
  rw[e1] at hb;simp at hb
theorem vG {ops:Array Oper} {L:Nat->Prop} (hc:Closed ops L) {i j:Nat} {o:Oper} (ho:ops[i]? =some o) (h:oQ (pS ops.toList []) i j=true) (hp:∀e∈o.after,Region.binds .any e=true->L e.on):L j:=
 Kx hc ops.toList [] rfl (fun i j hb=>by simp at hb) i j h fun o' ho'=>by rw[ho] at ho';cases ho';exact hp
theorem Ky (hY:COK P G) (hΓ:∀c∈Γ,aO P c) {F:Fence} (hF:Opn F) {n:Nat} {ops:Array Oper} (htopo:∀i o,ops[i]? =some o->topo i o=true) {m:Nat} (htail:∀i o,m<=i->ops[i]? =some o->∀j,m<=j->j<i->oQ (pS ops.toList []) i j=true):
  ∀(rest:List Oper) (k:Nat),ops.toList.drop k=rest->m<=k->∀(fuel:Nat) (listed:Array Bool),listed.size=ops.size->rest.length<=fuel->(∀j,j<k->listed.getD j false=true)->(∀j,k<=j->j<ops.size->listed.getD j true=false)->
  ∀ {H:List HO} {loc:Nat->Loc} {ver:Nat->Nat} {w:World} {l:List (Nat × SV)} {a:Act} {K:List (Nat × SV)->List HO->Prop} {Q:Exit->Act->World->Prop},
  Inv G H loc ver w->TRel (envOf G H loc ver w) N l a->pE P Γ N ops.toList rest l H K->
  (∀l' H' loc' ver' a' w',K l' H'->Inv G H' loc' ver' w'->TRel (envOf G H' loc' ver' w') N l' a'->Ext (envOf G H loc ver w) (envOf G H' loc' ver' w')->Same (ops.toList.filterMap (·.dst)) a a'->a'.defers=a.defers->Q .normal a' w')->
  wpAnyIn F n P .any ops Q fuel listed a w:=by
 intro rest
 induction rest with
 | nil=>
  intro k hk hmk fuel listed hls hfu hl1 hl2 H loc ver w l a K Q hI hT h hQ;have hq:Q .normal a w:=hQ l H loc ver a w h hI hT (Ext.refl _) (Same.refl _ _) rfl;have hks:ops.size<=k:=by simpa using sN.1 hk
  have hr:Region.ready .any ops listed= []:=by
   apply List.eq_nil_iff_forall_not_mem.2;intro j hj;obtain ⟨h1,o,ho,_⟩:=mem_ready.1 hj;have hjs:=(aF.1 ho).1;rw[iS om,hl1 j om] at h1;cases h1
  cases fuel with
  | zero=>exact ⟨hr,hq⟩
  | succ f=>exact ⟨fun _=>hq,fun i hi=>by rw[hr] at hi;cases hi⟩
 | cons o r ih=>
  intro k hk hmk fuel listed hls hfu hl1 hl2 H loc ver w l a K Q hI hT h hQ;have hko:ops[k]? =some o:=by
   have:(ops.toList.drop k)[0]? =some o:=by rw[hk];rfl
   rw[bD] at this;simpa using this
  have hks:=(aF.1 hko).1;have hkr:ops.toList.drop (k+1)=r:=by rw[<- gE,hk];rfl
  have hmem:o∈ops.toList:=by
   obtain ⟨hlt,rfl⟩:=aF.1 hko;simp
  cases fuel with
  | zero=>simp at hfu
  | succ f=>
   have hrk:k∈Region.ready .any ops listed:=mem_ready.2 ⟨hl2 k (aN _) hks,o,hko,fun e he hb=>hl1 _ (tT (htopo k o hko) e he hb)⟩;refine ⟨fun hr=>(by rw[hr] at hrk;cases hrk),fun i hi=>?_⟩;obtain ⟨h1,oi,hoi,h2⟩:=mem_ready.1 hi;have his:=(aF.1 hoi).1;have hik:i=k:=by
    rcases nB i k with hlt | he | hgt
    ·rw[iS om,hl1 i hlt] at h1;cases h1
    ·exact he
    have hcl:Closed ops (fun j=>listed.getD j false=true):=fun j oj hoj hj e he hb=>by
     have hjs:=(aF.1 hoj).1;have hjk:j<k:=aH fun hn=>by
      have:=hl2 j om hjs;rw[iS om,hj] at this;cases this
     exact hl1 _ (by have:=tT (htopo j oj hoj) e he hb;omega)
    have:=vG hcl hoi (htail i oi om hoi k hmk hgt) (fun e he hb=>h2 e he hb);rw[<- iS om,hl2 k (aN _) hks] at this;cases this
   subst hik;simp only[Df] at h;unfold wpOpIn;simp only[hko];have hrest:∀ {H':List HO} {loc':Nat->Loc} {ver':Nat->Nat} {w':World} {l':List (Nat × SV)} {v:Value},Inv G H' loc' ver' w'->TRel (envOf G H' loc' ver' w') N l' (a.put o.dst v)->Ext (envOf G H loc ver w) (envOf G H' loc' ver' w')->
     pE P Γ N ops.toList r l' H' K->wpAnyIn F n P .any ops Q f (listed.setIfInBounds i true) (a.put o.dst v) w':=by
    intro H' loc' ver' w' l' v hI' hT' hx' h';refine ih (i+1) hkr om f _ (by simp[hls]) (by simpa using hfu) (fun j hj=>?_) (fun j hj hjs=>?_) hI' hT' h' ?_
    ·by_cases e:i=j
     ·subst e;exact nK h1
     rw[getD_set_ne false e];exact hl1 j om
    ·rw[getD_set_ne true om];exact hl2 j om hjs
    intro l3 H3 loc3 ver3 a3 w3 h3 hI3 hT3 hx3 hs3 hd3;refine hQ l3 H3 loc3 ver3 a3 w3 h3 hI3 hT3 (hx'.trans hx3) ((Same.put a o.dst v fun t ht=>zG hmem ht).trans hs3) (hd3.trans ?_);cases o.dst<;>rfl
   obtain ⟨l',hT',⟨hw,h⟩ | ⟨hw,h⟩⟩:=Dw hT h
   ·rw[aD hw];obtain ⟨hnd,hok⟩:=rN hY hΓ hF hI hT' h;refine hok.wpIn hF hnd ?_;rintro v w' ⟨s,H',loc',ver',hk',hI',hr',hx'⟩;obtain ⟨l'',hk'',hT''⟩:=(hT'.ext hx').any o.dst hk' hr';exact hrest hI' hT'' hx' hk''
   rw[aC (by rw[hw];simp)];refine ⟨fun f _=>hF.fn f,?_⟩;obtain ⟨l'',hk'',hT''⟩:=hT'.any o.dst h (.tup [] [] .nil);exact hrest hI hT'' (Ext.refl _) hk''
theorem Hp {ops:Array Oper} {i:Nat} {o:Oper} (ho:ops[i]? =some o) (h:vO ops.toList i=true):∃x t,Free ops i o x t:=by
 unfold vO Qs at h;simp only[iF,ho] at h;split at h
 ·rename_i x t h1 h2 h3;rw[aE] at h;have h5:=h.2;have hall:∀(j:Nat) (o':Oper),ops[j]? =some o'->(j=i\/o'.dst≠some t)/\(aGo x o'=false\/waits o j=true)/\(j=i\/Yr ops.toList o' t=false\/waits o' i=true)/\aGp o'=true:=by
   intro j o' ho';have hj:=(aF.1 ho').1;have:=fC.1 h5 j (jZ.2 (by simpa using hj));simp only[iF,ho',aE,cQ,bK,nC] at this;obtain ⟨q1,q2,q3,q4⟩:=this;refine ⟨q1.imp id fun h e=>?_,q2,q3,q4⟩;have:=Aq.2 e;rw[this] at h;cases h
  refine ⟨x,t,ho,h1,h2,h3,fun j o' hj ho'=>((hall j o' ho').1.resolve_left hj),fun j o' ho'=>?_,fun j o' hj ho' hl=>?_,fun j o' ho'=>?_⟩
  ·rcases (hall j o' ho').2.1 with h | h
   ·refine .inr fun u hu=>?_;subst hu;simp only[aGo] at h;intro e;rw[Aq.2 e] at h;cases h
   exact .inl h
  ·rcases (hall j o' ho').2.2.1.resolve_left hj with h | h
   ·exfalso;unfold Yr at h;simp only[Bool.or_eq_false_iff] at h;obtain ⟨r1,r2⟩:=h;rcases hl with hl | ⟨q,b,hg,hd⟩
    ·have:=List.any_eq_false.1 r1 _ hl;simp at this
    rw[hg] at r2;simp only[aB2] at r2;have e:(ops.toList[q]?).bind (·.dst)=some t:=by simpa using hd
    rw[e] at r2;simp at r2
   exact h
  have:=(hall j o' ho').2.2.2;unfold aGp at this;constructor
  ·intro cs b e;rw[e] at this;cases this
  intro c e;rw[e] at this;cases this
 cases h
theorem Vp {E:Env} {o:Oper} {x:Operand} (hop:pureArg o.op=some x) {lr:List (Nat × SV)} {H:List HO} {K:SV->List HO->Prop} {v:Value} (hX:op1 P Γ o lr H K) (hr:Rel E (ev lr x) v):
  ∃s v0,K s H/\Rel E s v0/\∀(ρ:Operand->Value) (w:World),ρ x=v->(execOp ρ o).run P w= .ok (.value v0) w:=by
 unfold op1 at hX;cases ho:o.op with
 | move y=>
  rw[ho] at hop hX;cases hop;simp only[jR] at hX;exact ⟨_,v,hX,hr,fun ρ w h=>by simp[execOp,ho,h]⟩
 | extract y k=>
  rw[ho] at hop hX;cases hop;simp only at hX;split at hX
  ·rename_i vs hx;obtain ⟨hb,hX⟩:=bA hX;rw[jR] at hX;rw[hx] at hr;cases hr with
   | tup _ us hl=>
    have hlt:k<vs.length:=by simpa using hb
    have hlt':k<us.length:=by rw[<- hl.length];exact hlt
    exact ⟨_,us.getD k undef,hX,hl.get k hlt,fun ρ w h=>by simp[execOp,ho,h,Instr.extract,hlt']⟩
  cases hX
 | _=>rw[ho] at hop;cases hop
theorem Zp (hY:COK P G) (hΓ:∀c∈Γ,aO P c) {F:Fence} (hF:Opn F) {n:Nat} {ops:Array Oper} {m:Nat} (hok:Ah ops.toList m=true)
  {H:List HO} {loc:Nat->Loc} {ver:Nat->Nat} {w:World} {l:List (Nat × SV)} {a:Act} {K:List (Nat × SV)->List HO->Prop} {Q:Exit->Act->World->Prop} (hQn:∀e a w,Q e a w->e= .normal) (hI:Inv G H loc ver w) (hT:TRel (envOf G H loc ver w) N l a)
  (h:Gw P Γ N ops.toList (ops.toList.take m) l H fun l'=>pE P Γ N ops.toList (ops.toList.drop m) l' H K)
  (hQ:∀l' H' loc' ver' a' w',K l' H'->Inv G H' loc' ver' w'->TRel (envOf G H' loc' ver' w') N l' a'->Ext (envOf G H loc ver w) (envOf G H' loc' ver' w')->Same (ops.toList.filterMap (·.dst)) a a'->a'.defers=a.defers->Q .normal a' w'):
  wpAnyIn F n P .any ops Q ops.size (Array.replicate ops.size false) a w:=by
 simp only[Ah,aE] at hok;obtain ⟨hq0,hq1,hq2,hq3⟩:=hok;have hms:m<=ops.size:=by simpa using hq0
 have hq:∀i o,i<m->ops[i]? =some o->opOk ops.toList m i o=true:=fun i o hi ho=>qG hq1 hi ho;have htopo:∀i o,ops[i]? =some o->topo i o=true:=fun i o ho=>qG hq2 (by simpa using (aF.1 ho).1) ho;have htail0:∀i o,m<=i->ops[i]? =some o->∀j,j<i->oQ (pS ops.toList []) i j=true\/(j<m/\vO ops.toList j=true):=by
  intro i o hi ho j hj;rw[Ag] at hq3;have:=qG hq3 (by simpa using (aF.1 ho).1) ho;simp only[cQ] at this;rcases this with h1 | h1
  ·have:i<m:=by simpa using h1
   omega
  have:=fC.1 h1 j (jZ.2 hj);simpa using this
 have htail:∀i o,m<=i->ops[i]? =some o->∀j,m<=j->j<i->oQ (pS ops.toList []) i j=true:=by
  intro i o hi ho j hm hj;rcases htail0 i o hi ho j hj with h | h
  ·exact h
  omega
 obtain ⟨wr,sv,wn,lf,hlf,hRef,hwr,hQP⟩:=virt hY hΓ hq htopo (look l) (ops.toList.take m) 0 si (wr:=look l) hI hT (fun _ _ _ h=>h) (fun _ _=>rfl) h
 -- some of the first operations have come up
 suffices key:∀(fuel:Nat) (listed:Array Bool) (b:Act) (w1:World) (loc1:Nat->Loc) (ver1:Nat->Nat),listed.size=ops.size->unl listed m+(ops.size-m)<=fuel->(∀j,m<=j->j<ops.size->listed.getD j true=false)->Closed ops (fun j=>listed.getD j false=true)->
   Inv G H loc1 ver1 w1->Ext (envOf G H loc ver w) (envOf G H loc1 ver1 w1)->b.tmps.size=N->b.defers=a.defers->Same (ops.toList.filterMap (·.dst)) a b->
   (∀t j o,j<m->ops[j]? =some o->o.dst=some t->listed.getD j false=true->Rel (envOf G H loc1 ver1 w1) (wr t) (b.tmps.getD t undef))->
   (∀t,(∀j o,j<m->ops[j]? =some o->o.dst=some t->listed.getD j false=false)->b.tmps.getD t undef=a.tmps.getD t undef)->
   wpAnyIn F n P .any ops Q fuel listed b w1 by
  refine key _ _ a w loc ver si ?_ (fun j _ hj=>by simp[hj]) (fun j o ho hj=>by have:=(aF.1 ho).1;simp[this] at hj) hI (Ext.refl _) hT.size rfl (Same.refl _ _) (fun t j o _ ho _ hl=>?_) (fun _ _=>rfl)
  ·have:∀k,unl (Array.replicate ops.size false) k<=k:=by
    intro k
    induction k with
    | zero=>exact aN _
    | succ k ih=>simp only[unl];split<;>omega
   have h2:∀k,unl (Array.replicate ops.size false) (ops.size+k)<=ops.size:=by
    intro k
    induction k with
    | zero=>exact this _
    | succ k ih=>
     rw[Nat.add_succ];simp only[unl];have:(Array.replicate ops.size false).getD (ops.size+k) true=true:=by simp
     rw[this];simpa using ih
   rcases Nat.le_total m ops.size with h3 | h3
   ·have:=this m;omega
   have:=h2 (m-ops.size);rw[show ops.size+(m-ops.size)=m by omega] at this;omega
  have hj:=(aF.1 ho).1;simp[hj] at hl
 have done:∀(fuel:Nat) (listed:Array Bool) (b:Act) (w1:World) (loc1:Nat->Loc) (ver1:Nat->Nat),listed.size=ops.size->ops.size-m<=fuel->(∀j,m<=j->j<ops.size->listed.getD j true=false)->(∀j,j<m->listed.getD j false=true)->
   Inv G H loc1 ver1 w1->Ext (envOf G H loc ver w) (envOf G H loc1 ver1 w1)->b.tmps.size=N->b.defers=a.defers->Same (ops.toList.filterMap (·.dst)) a b->
   (∀t j o,j<m->ops[j]? =some o->o.dst=some t->listed.getD j false=true->Rel (envOf G H loc1 ver1 w1) (wr t) (b.tmps.getD t undef))->
   (∀t,(∀j o,j<m->ops[j]? =some o->o.dst=some t->listed.getD j false=false)->b.tmps.getD t undef=a.tmps.getD t undef)->
   wpAnyIn F n P .any ops Q fuel listed b w1:=by
  intro fuel listed b w1 loc1 ver1 hls hfu hun hall hI1 hx1 hs1 hd1 hsame hex hno
  have hTf:TRel (envOf G H loc1 ver1 w1) N lf b:=⟨hs1,fun t=>hRef _ t _ (by
   by_cases hw:∃j o,j<m/\ops[j]? =some o/\o.dst=some t
   ·obtain ⟨j,o,h1,h2,h3⟩:=hw;exact hex t j o h1 h2 h3 (hall j h1)
   rw[hwr t fun j o _ h1 h2 h3=>hw ⟨j,o,h1,h2,h3⟩,hno t fun j o h1 h2 h3=>(hw ⟨j,o,h1,h2,h3⟩).elim]
   exact (hT.rel t).ext hx1)⟩
  exact Ky hY hΓ hF htopo htail _ m rfl (aN _) fuel listed hls (by simpa using hfu) hall hun hI1 hTf hlf
   (fun l' H' loc' ver' a' w' h1 h2 h3 h4 h5 h6=>hQ l' H' loc' ver' a' w' h1 h2 h3 (hx1.trans h4) (hsame.trans h5) (h6.trans hd1))
 intro fuel
 induction fuel with
 | zero=>
  intro listed b w1 loc1 ver1 hls hfu hun hcl hI1 hx1 hs1 hd1 hsame hex hno;refine done 0 listed b w1 loc1 ver1 hls om hun (fun j hj=>?_) hI1 hx1 hs1 hd1 hsame hex hno;have:∀k,unl listed k=0->∀j,j<k->listed.getD j true=true:=by
   intro k
   induction k with
   | zero=>intro _ j hj;omega
   | succ k ih=>
    intro hk j hj;simp only[unl] at hk;by_cases e:j=k
    ·subst e;cases hc:listed.getD j true with
     | true=>rfl
     | false=>rw[hc] at hk;simp at hk
    exact ih om j om
  rw[<- iS om];exact this m om j hj
 | succ f ih=>
  intro listed b w1 loc1 ver1 hls hfu hun hcl hI1 hx1 hs1 hd1 hsame hex hno;by_cases hall:∀j,j<m->listed.getD j false=true
  ·exact done (f+1) listed b w1 loc1 ver1 hls om hun hall hI1 hx1 hs1 hd1 hsame hex hno
  -- what is known of an operation among the first
  have one:∀(i:Nat) (o:Oper),i<m->ops[i]? =some o->listed.getD i true=false->(∀e∈o.after,Region.binds .any e=true->listed.getD e.on false=true)->
    (∀t,lk ops o t->Rel (envOf G H loc1 ver1 w1) (rdM ops m (look l) wr i t) (b.tmps.getD t undef))/\
    (∀ {loc':Nat->Loc} {ver':Nat->Nat} {w':World} {v:Value},Inv G H loc' ver' w'->Ext (envOf G H loc1 ver1 w1) (envOf G H loc' ver' w')->Rel (envOf G H loc' ver' w') (sv i) v->
     wpAnyIn F n P .any ops Q f (listed.setIfInBounds i true) (b.put o.dst v) w'):=by
   intro i o him ho h1 h2;obtain ⟨hwi,hqp⟩:=hQP i o (aK _) him ho;have hoki:=hq i o him ho;have hread:∀t,lk ops o t->Rel (envOf G H loc1 ver1 w1) (rdM ops m (look l) wr i t) (b.tmps.getD t undef):=by
    intro t ht;unfold rdM;by_cases hl:late ops m i t
    ·rw[aD hl];obtain ⟨j0,o0,g1,g2,g3,g4⟩:=hl;obtain ⟨e,he,hb,hon⟩:=pV g4;have hnl:listed.getD j0 false=false:=by
      cases hc:listed.getD j0 false with
      | false=>rfl
      | true=>
       have:=hcl j0 o0 g2 hc e he hb;rw[hon] at this;rw[<- iS om,h1] at this;cases this
     rw[hno t fun j o' h3 h4 h5=>by
      have:=wJ (hq j0 o0 g1 g2) g3 h3 h4 h5
      rw[this];exact hnl]
     exact (hT.rel t).ext hx1
    rw[aC hl];by_cases hw:∃j o,j<m/\ops[j]? =some o/\o.dst=some t
    ·obtain ⟨j,o',h3,h4,h5⟩:=hw;rcases qF (xM hoki ht) h3 h4 h5 with h6 | h6
     ·obtain ⟨e,he,hb,hon⟩:=pV h6.1;exact hex t j o' h3 h4 h5 (by rw[<- hon];exact h2 e he hb)
     exact (hl ⟨j,o',h3,h4,h5,h6⟩).elim
    rw[hwr t fun j o _ h1 h2 h3=>hw ⟨j,o,h1,h2,h3⟩,hno t fun j o h1 h2 h3=>(hw ⟨j,o,h1,h2,h3⟩).elim];exact (hT.rel t).ext hx1
   have hmem:o∈ops.toList:=by
    obtain ⟨hlt,rfl⟩:=aF.1 ho;simp
   have hput:∀(v:Value) (t:Nat),(b.put o.dst v).tmps.getD t undef=if o.dst=some t then v else b.tmps.getD t undef:=by
    intro v t;cases hd:o.dst with
    | none=>simp[Act.put]
    | some u=>
     rw[yY b u t v (by rw[hs1];exact hqp.dst u hd)];by_cases e:t=u
     ·subst e;simp
     rw[aC e,aC (fun h=>e (by cases h;rfl))]
   have next:∀ {loc':Nat->Loc} {ver':Nat->Nat} {w':World} {v:Value},Inv G H loc' ver' w'->Ext (envOf G H loc1 ver1 w1) (envOf G H loc' ver' w')->Rel (envOf G H loc' ver' w') (sv i) v->
     wpAnyIn F n P .any ops Q f (listed.setIfInBounds i true) (b.put o.dst v) w':=by
    intro loc' ver' w' v hI' hx' hr';have hu:=Rm h1 m;rw[aD him] at hu
    refine ih (listed.setIfInBounds i true) (b.put o.dst v) w' loc' ver' (by simp[hls]) om (fun j hj hjs=>by rw[getD_set_ne true om];exact hun j hj hjs) (fun j oj hoj hj e he hb=>by
      show (listed.setIfInBounds i true).getD e.on false=true;have hj:(listed.setIfInBounds i true).getD j false=true:=hj;by_cases hie:e.on=i
      ·rw[hie];exact nK h1
      rw[getD_set_ne false (Ne.symm hie)];by_cases hji:j=i
      ·subst hji;rw[ho] at hoj;cases hoj;exact h2 e he hb
      rw[getD_set_ne false (Ne.symm hji)] at hj;exact hcl j oj hoj hj e he hb) hI' (hx1.trans hx') ?_ ?_
     (hsame.trans (Same.put b o.dst v fun t ht=>zG hmem ht)) (fun t j o' hj ho' hd hl=>?_) (fun t hn=>?_)
    ·cases o.dst<;>simp[Act.put,hs1]
    ·refine Eq.trans ?_ hd1;cases o.dst<;>rfl
    ·rw[hput v t];by_cases hdt:o.dst=some t
     ·rw[aD hdt,hwi t hdt];exact hr'
     rw[aC hdt];have hji:j≠i:=fun e=>by subst e;rw[ho] at ho';cases ho';exact hdt hd
     rw[getD_set_ne false (Ne.symm hji)] at hl;exact (hex t j o' hj ho' hd hl).ext hx'
    have hdt:o.dst≠some t:=fun hdt=>by
     have:=hn i o him ho hdt;rw[nK h1] at this;cases this
    rw[hput v t,aC hdt];refine hno t fun j o' hj ho' hd=>?_;have hji:j≠i:=fun e=>by subst e;rw[ho] at ho';cases ho';exact hdt hd
    have:=hn j o' hj ho' hd;rwa [getD_set_ne false (Ne.symm hji)] at this
   exact ⟨hread,next⟩
  by_cases hfree:∃i,i<m/\vO ops.toList i=true/\listed.getD i false=false/\∀o,ops[i]? =some o->∀e∈o.after,Region.binds .any e=true->listed.getD e.on false=true
  ·obtain ⟨i,him,hfi,hli,hdep⟩:=hfree;obtain ⟨o,ho⟩:∃o,ops[i]? =some o:=⟨ops[i]'(by omega),by simp[show i<ops.size by omega]⟩;obtain ⟨x,t,hfr⟩:=Hp ho hfi;obtain ⟨hwi,hqp⟩:=hQP i o (aK _) him ho;have h1:listed.getD i true=false:=by rw[iS om];exact hli
   obtain ⟨hread,next⟩:=one i o him ho h1 (hdep o ho);have hwant:=hqp.want (envOf G H loc1 ver1 w1) b hread;have hwn:wn i=true:=by rw[<- hwant];simp[Region.wanted,hfr.guard]
   rw[hwn] at hqp;obtain ⟨lr,X,hX,hlr⟩:=hqp.run rfl;obtain ⟨s,v0,⟨rfl,_,_⟩,hrs,H0⟩:=Vp hfr.op hX (nI (N:=N) ⟨hs1,fun t=>hlr t _ _ (hread t)⟩ x);refine aMx (fun f=>hF.fn f) hQn hfr H0 f listed b w1 hls h1 (hdep o ho) rfl ?_;have hnext:=next (v:=v0) hI1 (Ext.refl _) hrs;rwa [hfr.dst] at hnext
  obtain ⟨i0,hi0,hmin⟩:∃i0,(i0<m/\listed.getD i0 false=false)/\∀k,(k<m/\listed.getD k false=false)->i0<=k:=by
   have:∃j,j<m/\listed.getD j false=false:=by
    apply aH;intro hn;exact hall fun j hj=>by
     cases hc:listed.getD j false with
     | true=>rfl
     | false=>exact (hn ⟨j,hj,hc⟩).elim
   obtain ⟨j,hj⟩:=this;exact Ko j hj
  have hi0s:i0<ops.size:=om;have hdep0:∀e∈(ops[i0]).after,Region.binds .any e=true->listed.getD e.on false=true:=fun e he hb=>by
   have hlt:=tT (htopo i0 ops[i0] (by simp[hi0s])) e he hb;cases hc:listed.getD e.on false with
   | true=>rfl
   | false=>have:=hmin e.on ⟨om,hc⟩;omega
  have hr0:i0∈Region.ready .any ops listed:=mem_ready.2 ⟨by rw[iS om];exact hi0.2,ops[i0],by simp[hi0s],hdep0⟩
  have hnf0:vO ops.toList i0=true->False:=fun h=>hfree ⟨i0,hi0.1,h,hi0.2,fun o ho=>by
   have e:o=ops[i0]:=by
    have:ops[i0]? =some ops[i0]:=by simp[hi0s]
    rw[ho] at this;exact yM this
   subst e;exact hdep0⟩
  refine ⟨fun hr=>(by rw[hr] at hr0;cases hr0),fun i hi=>?_⟩;obtain ⟨h1,o,ho,h2⟩:=mem_ready.1 hi;have his:=(aF.1 ho).1;have him:i<m:=by
   apply aH;intro hge;have:=vG hcl ho ((htail0 i o om ho i0 om).resolve_right fun hfr=>hnf0 hfr.2) h2;rw[hi0.2] at this;cases this
  obtain ⟨hwi,hqp⟩:=hQP i o (aK _) him ho;obtain ⟨hread,next⟩:=one i o him ho h1 h2;have hwant:=hqp.want (envOf G H loc1 ver1 w1) b hread;unfold wpOpIn;simp only[ho];cases hwn:wn i with
  | true=>
   rw[hwn] at hwant hqp;rw[aD hwant];obtain ⟨lr,X,hX,hlr⟩:=hqp.run rfl;obtain ⟨hnd,hopk⟩:=rN hY hΓ hF hI1 (N:=N) ⟨hs1,fun t=>hlr t _ _ (hread t)⟩ hX;refine hopk.wpIn hF hnd ?_;rintro v w' ⟨s,H',loc',ver',⟨rfl,rfl,_⟩,hI',hr',hx'⟩;exact next hI' hx' hr'
  | false=>
   rw[hwn] at hwant hqp;rw[aC (by rw[hwant];simp)];refine ⟨fun f _=>hF.fn f,next hI1 (Ext.refl _) ?_⟩;rw[hqp.skip rfl];exact (.tup [] [] .nil)
end
end Go.Eng
end
section
namespace Go.Eng
open Go.RowKit
section
variable {P:Program} {G:Ctx} {N:Nat} {Γ:List Con}
def addS (S:Nat->Bool) (i:Nat):Nat->Bool:=fun j=>S j || Nat.beq j i
structure Adm (ops:Array Oper) (m:Nat) (S:Nat->Bool) (i:Nat) (o:Oper):Prop where
 not:S i=false
 lt:∀j,S j=true->j<m
 own:∀e∈o.after,Region.binds .any e=true->S e.on=true
 closed:Closed ops (fun j=>S j=true)
structure QG (P:Program) (G:Ctx) (ops:Array Oper) (m:Nat) (hS:(Nat->Bool)->List HO) (N:Nat) (wr:Nat->SV) (sv:SV) (wn:Bool) (i:Nat) (o:Oper):Prop where
 want:∀(E:Env) (a:Act),(∀t,lk ops o t->Rel E (wr t) (a.tmps.getD t undef))->Region.wanted o (yielded ops a.tmps)=wn
 run:wn=true->∀ {F:Fence},Opn F->∀S,Adm ops m S i o->∀ {loc:Nat->Loc} {ver:Nat->Nat} {w:World} {a:Act},Inv G (hS S) loc ver w->a.tmps.size=N->
  (∀t,lk ops o t->Rel (envOf G (hS S) loc ver w) (wr t) (a.tmps.getD t undef))->
  (∀c,o.op≠ .defer c)/\OpOK P F o a w fun v w'=>∃loc' ver',Inv G (hS (addS S i)) loc' ver' w'/\Rel (envOf G (hS (addS S i)) loc' ver' w') sv v/\Ext (envOf G (hS S) loc ver w) (envOf G (hS (addS S i)) loc' ver' w')
 skip:wn=false->sv= .tup []/\∀S,hS (addS S i)=hS S
 dst:∀t,o.dst=some t->t<N
 move:∀x,pureArg o.op=some x->o.guard=none->(∀(E:Env) (a:Act),a.tmps.size=N->(∀t,lk ops o t->Rel E (wr t) (a.tmps.getD t undef))->∃v0,Rel E sv v0/\∀(ρ:Operand->Value) (w:World),ρ x=a.eval x->(execOp ρ o).run P w= .ok (.value v0) w)/\∀S,hS (addS S i)=hS S
def upS (m:Nat) (listed:Array Bool):Nat->Bool:=fun j=>decide (j<m)&&listed.getD j false
theorem aJy {m:Nat} {listed:Array Bool} {i:Nat} (hi:i<m) (h:listed.getD i true=false):upS m (listed.setIfInBounds i true)=addS (upS m listed) i:=by
 funext j
 unfold upS addS;by_cases e:j=i
 ·subst e;rw[nK h,gU];simp[hi]
 rw[getD_set_ne false (Ne.symm e),lV e];simp
theorem Vz (hY:COK P G) (hΓ:∀c∈Γ,aO P c) {F:Fence} (hF:Opn F) {n:Nat} {ops:Array Oper} {m:Nat} (hms:m<=ops.size)
  (hq:∀i o,i<m->ops[i]? =some o->opOk ops.toList m i o=true) (htopo:∀i o,ops[i]? =some o->topo i o=true)
  (htail0:∀i o,m<=i->ops[i]? =some o->∀j,j<i->oQ (pS ops.toList []) i j=true\/(j<m/\vO ops.toList j=true))
  {hS:(Nat->Bool)->List HO} {wr sv:Nat->SV} {wn:Nat->Bool} {lf l:List (Nat × SV)}
  (hRef:∀(E:Env) (t:Nat) (v:Value),Rel E (wr t) v->Rel E (look lf t) v) (hwr:∀t,(∀j o,j<m->ops[j]? =some o->o.dst≠some t)->wr t=look l t)
  (hQP:∀j o,j<m->ops[j]? =some o->(∀t,o.dst=some t->wr t=sv j)/\QG P G ops m hS N (rdM ops m (look l) wr j) (sv j) (wn j) j o)
  {loc:Nat->Loc} {ver:Nat->Nat} {w:World} {a:Act} {K:List (Nat × SV)->List HO->Prop} {Q:Exit->Act->World->Prop} (hQn:∀e a w,Q e a w->e= .normal)
  (hI:Inv G (hS fun _=>false) loc ver w) (hT:TRel (envOf G (hS fun _=>false) loc ver w) N l a)
  (hlf:pE P Γ N ops.toList (ops.toList.drop m) lf (hS fun j=>decide (j<m)) K)
  (hQ:∀l' H' loc' ver' a' w',K l' H'->Inv G H' loc' ver' w'->TRel (envOf G H' loc' ver' w') N l' a'->Ext (envOf G (hS fun _=>false) loc ver w) (envOf G H' loc' ver' w')->Same (ops.toList.filterMap (·.dst)) a a'->a'.defers=a.defers->Q .normal a' w'):
  wpAnyIn F n P .any ops Q ops.size (Array.replicate ops.size false) a w:=by
 have htail:∀i o,m<=i->ops[i]? =some o->∀j,m<=j->j<i->oQ (pS ops.toList []) i j=true:=by
  intro i o hi ho j hm hj;rcases htail0 i o hi ho j hj with h | h
  ·exact h
  omega
 -- some of the first operations have come up
 suffices key:∀(fuel:Nat) (listed:Array Bool) (b:Act) (w1:World) (loc1:Nat->Loc) (ver1:Nat->Nat),listed.size=ops.size->unl listed m+(ops.size-m)<=fuel->(∀j,m<=j->j<ops.size->listed.getD j true=false)->Closed ops (fun j=>listed.getD j false=true)->
   Inv G (hS (upS m listed)) loc1 ver1 w1->Ext (envOf G (hS fun _=>false) loc ver w) (envOf G (hS (upS m listed)) loc1 ver1 w1)->b.tmps.size=N->b.defers=a.defers->Same (ops.toList.filterMap (·.dst)) a b->
   (∀t j o,j<m->ops[j]? =some o->o.dst=some t->listed.getD j false=true->Rel (envOf G (hS (upS m listed)) loc1 ver1 w1) (wr t) (b.tmps.getD t undef))->
   (∀t,(∀j o,j<m->ops[j]? =some o->o.dst=some t->listed.getD j false=false)->b.tmps.getD t undef=a.tmps.getD t undef)->
   wpAnyIn F n P .any ops Q fuel listed b w1 by
  have hup0:upS m (Array.replicate ops.size false)=fun _=>false:=by
   funext j
   unfold upS;have:(Array.replicate ops.size false).getD j false=false:=by
    rw[bM,Array.getElem?_replicate];split<;>rfl
   rw[this,Bool.and_false]
  refine key _ _ a w loc ver si ?_ (fun j _ hj=>by simp[hj]) (fun j o ho hj=>by have:=(aF.1 ho).1;simp[this] at hj) (by rw[hup0];exact hI) (by rw[hup0];exact Ext.refl _) hT.size rfl (Same.refl _ _) (fun t j o _ ho _ hl=>?_) (fun _ _=>rfl)
  ·have:∀k,unl (Array.replicate ops.size false) k<=k:=by
    intro k
    induction k with
    | zero=>exact aN _
    | succ k ih=>simp only[unl];split<;>omega
   have:=this m;omega
  have hj:=(aF.1 ho).1;simp[hj] at hl
 have done:∀(fuel:Nat) (listed:Array Bool) (b:Act) (w1:World) (loc1:Nat->Loc) (ver1:Nat->Nat),listed.size=ops.size->ops.size-m<=fuel->(∀j,m<=j->j<ops.size->listed.getD j true=false)->(∀j,j<m->listed.getD j false=true)->
   Inv G (hS (upS m listed)) loc1 ver1 w1->Ext (envOf G (hS fun _=>false) loc ver w) (envOf G (hS (upS m listed)) loc1 ver1 w1)->b.tmps.size=N->b.defers=a.defers->Same (ops.toList.filterMap (·.dst)) a b->
   (∀t j o,j<m->ops[j]? =some o->o.dst=some t->listed.getD j false=true->Rel (envOf G (hS (upS m listed)) loc1 ver1 w1) (wr t) (b.tmps.getD t undef))->
   (∀t,(∀j o,j<m->ops[j]? =some o->o.dst=some t->listed.getD j false=false)->b.tmps.getD t undef=a.tmps.getD t undef)->
   wpAnyIn F n P .any ops Q fuel listed b w1:=by
  intro fuel listed b w1 loc1 ver1 hls hfu hun hall hI1 hx1 hs1 hd1 hsame hex hno;have hupf:upS m listed=fun j=>decide (j<m):=by
   funext j
   unfold upS;by_cases hj:j<m
   ·simp[hj,hall j hj]
   simp[hj]
  rw[hupf] at hI1 hx1 hex
  have hTf:TRel (envOf G (hS fun j=>decide (j<m)) loc1 ver1 w1) N lf b:=⟨hs1,fun t=>hRef _ t _ (by
   by_cases hw:∃j o,j<m/\ops[j]? =some o/\o.dst=some t
   ·obtain ⟨j,o,h1,h2,h3⟩:=hw;exact hex t j o h1 h2 h3 (hall j h1)
   rw[hwr t fun j o h1 h2 h3=>hw ⟨j,o,h1,h2,h3⟩,hno t fun j o h1 h2 h3=>(hw ⟨j,o,h1,h2,h3⟩).elim]
   exact (hT.rel t).ext hx1)⟩
  exact Ky hY hΓ hF htopo htail _ m rfl (aN _) fuel listed hls (by simpa using hfu) hall hun hI1 hTf hlf
   (fun l' H' loc' ver' a' w' h1 h2 h3 h4 h5 h6=>hQ l' H' loc' ver' a' w' h1 h2 h3 (hx1.trans h4) (hsame.trans h5) (h6.trans hd1))
 intro fuel
 induction fuel with
 | zero=>
  intro listed b w1 loc1 ver1 hls hfu hun hcl hI1 hx1 hs1 hd1 hsame hex hno;refine done 0 listed b w1 loc1 ver1 hls om hun (fun j hj=>?_) hI1 hx1 hs1 hd1 hsame hex hno;have:∀k,unl listed k=0->∀j,j<k->listed.getD j true=true:=by
   intro k
   induction k with
   | zero=>intro _ j hj;omega
   | succ k ih=>
    intro hk j hj;simp only[unl] at hk;by_cases e:j=k
    ·subst e;cases hc:listed.getD j true with
     | true=>rfl
     | false=>rw[hc] at hk;simp at hk
    exact ih om j om
  rw[<- iS om];exact this m om j hj
 | succ f ih=>
  intro listed b w1 loc1 ver1 hls hfu hun hcl hI1 hx1 hs1 hd1 hsame hex hno;by_cases hall:∀j,j<m->listed.getD j false=true
  ·exact done (f+1) listed b w1 loc1 ver1 hls om hun hall hI1 hx1 hs1 hd1 hsame hex hno
  have adm:∀(i:Nat) (o:Oper),i<m->ops[i]? =some o->listed.getD i true=false->(∀e∈o.after,Region.binds .any e=true->listed.getD e.on false=true)->Adm ops m (upS m listed) i o:=by
   intro i o him ho h1 h2;have hlo:∀j,listed.getD j false=true->upS m listed j=true:=by
    intro j hj;have hjs:j<ops.size:=by
     rw[<- hls];apply aH;intro hn;rw[bM,Array.getElem?_eq_none om] at hj;cases hj
    have:j<m:=aH fun hn=>by
     have:=hun j om hjs;rw[iS om,hj] at this;cases this
    simp[upS,this,hj]
   refine ⟨?_,fun j hj=>?_,fun e he hb=>hlo _ (h2 e he hb),fun j oj hoj hj e he hb=>hlo _ (hcl j oj hoj ?_ e he hb)⟩
   ·rw[iS om] at h1;simp[upS,h1]
   ·simp only[upS,aE,vL] at hj;exact hj.1
   simp only[upS,aE] at hj;exact hj.2
  -- what is known of an operation among the first
  have one:∀(i:Nat) (o:Oper),i<m->ops[i]? =some o->listed.getD i true=false->(∀e∈o.after,Region.binds .any e=true->listed.getD e.on false=true)->
    (∀t,lk ops o t->Rel (envOf G (hS (upS m listed)) loc1 ver1 w1) (rdM ops m (look l) wr i t) (b.tmps.getD t undef))/\
    (∀ {loc':Nat->Loc} {ver':Nat->Nat} {w':World} {v:Value},Inv G (hS (addS (upS m listed) i)) loc' ver' w'->Ext (envOf G (hS (upS m listed)) loc1 ver1 w1) (envOf G (hS (addS (upS m listed) i)) loc' ver' w')->Rel (envOf G (hS (addS (upS m listed) i)) loc' ver' w') (sv i) v->
     wpAnyIn F n P .any ops Q f (listed.setIfInBounds i true) (b.put o.dst v) w'):=by
   intro i o him ho h1 h2;obtain ⟨hwi,hqp⟩:=hQP i o him ho;have hoki:=hq i o him ho;have hread:∀t,lk ops o t->Rel (envOf G (hS (upS m listed)) loc1 ver1 w1) (rdM ops m (look l) wr i t) (b.tmps.getD t undef):=by
    intro t ht;unfold rdM;by_cases hl:late ops m i t
    ·rw[aD hl];obtain ⟨j0,o0,g1,g2,g3,g4⟩:=hl;obtain ⟨e,he,hb,hon⟩:=pV g4;have hnl:listed.getD j0 false=false:=by
      cases hc:listed.getD j0 false with
      | false=>rfl
      | true=>
       have:=hcl j0 o0 g2 hc e he hb;rw[hon] at this;rw[<- iS om,h1] at this;cases this
     rw[hno t fun j o' h3 h4 h5=>by
      have:=wJ (hq j0 o0 g1 g2) g3 h3 h4 h5
      rw[this];exact hnl]
     exact (hT.rel t).ext hx1
    rw[aC hl];by_cases hw:∃j o,j<m/\ops[j]? =some o/\o.dst=some t
    ·obtain ⟨j,o',h3,h4,h5⟩:=hw;rcases qF (xM hoki ht) h3 h4 h5 with h6 | h6
     ·obtain ⟨e,he,hb,hon⟩:=pV h6.1;exact hex t j o' h3 h4 h5 (by rw[<- hon];exact h2 e he hb)
     exact (hl ⟨j,o',h3,h4,h5,h6⟩).elim
    rw[hwr t fun j o h1 h2 h3=>hw ⟨j,o,h1,h2,h3⟩,hno t fun j o h1 h2 h3=>(hw ⟨j,o,h1,h2,h3⟩).elim];exact (hT.rel t).ext hx1
   have hmem:o∈ops.toList:=by
    obtain ⟨hlt,rfl⟩:=aF.1 ho;simp
   have hput:∀(v:Value) (t:Nat),(b.put o.dst v).tmps.getD t undef=if o.dst=some t then v else b.tmps.getD t undef:=by
    intro v t;cases hd:o.dst with
    | none=>simp[Act.put]
    | some u=>
     rw[yY b u t v (by rw[hs1];exact hqp.dst u hd)];by_cases e:t=u
     ·subst e;simp
     rw[aC e,aC (fun h=>e (by cases h;rfl))]
   have next:∀ {loc':Nat->Loc} {ver':Nat->Nat} {w':World} {v:Value},Inv G (hS (addS (upS m listed) i)) loc' ver' w'->Ext (envOf G (hS (upS m listed)) loc1 ver1 w1) (envOf G (hS (addS (upS m listed) i)) loc' ver' w')->Rel (envOf G (hS (addS (upS m listed) i)) loc' ver' w') (sv i) v->
     wpAnyIn F n P .any ops Q f (listed.setIfInBounds i true) (b.put o.dst v) w':=by
    intro loc' ver' w' v hI' hx' hr';have hu:=Rm h1 m;rw[aD him] at hu;have hup:=aJy him h1;rw[<- hup] at hI' hx' hr'
    refine ih (listed.setIfInBounds i true) (b.put o.dst v) w' loc' ver' (by simp[hls]) om (fun j hj hjs=>by rw[getD_set_ne true om];exact hun j hj hjs) (fun j oj hoj hj e he hb=>by
      show (listed.setIfInBounds i true).getD e.on false=true;have hj:(listed.setIfInBounds i true).getD j false=true:=hj;by_cases hie:e.on=i
      ·rw[hie];exact nK h1
      rw[getD_set_ne false (Ne.symm hie)];by_cases hji:j=i
      ·subst hji;rw[ho] at hoj;cases hoj;exact h2 e he hb
      rw[getD_set_ne false (Ne.symm hji)] at hj;exact hcl j oj hoj hj e he hb) hI' (hx1.trans hx') ?_ ?_
     (hsame.trans (Same.put b o.dst v fun t ht=>zG hmem ht)) (fun t j o' hj ho' hd hl=>?_) (fun t hn=>?_)
    ·cases o.dst<;>simp[Act.put,hs1]
    ·refine Eq.trans ?_ hd1;cases o.dst<;>rfl
    ·rw[hput v t];by_cases hdt:o.dst=some t
     ·rw[aD hdt,hwi t hdt];exact hr'
     rw[aC hdt];have hji:j≠i:=fun e=>by subst e;rw[ho] at ho';cases ho';exact hdt hd
     rw[getD_set_ne false (Ne.symm hji)] at hl;exact (hex t j o' hj ho' hd hl).ext hx'
    have hdt:o.dst≠some t:=fun hdt=>by
     have:=hn i o him ho hdt;rw[nK h1] at this;cases this
    rw[hput v t,aC hdt];refine hno t fun j o' hj ho' hd=>?_;have hji:j≠i:=fun e=>by subst e;rw[ho] at ho';cases ho';exact hdt hd
    have:=hn j o' hj ho' hd;rwa [getD_set_ne false (Ne.symm hji)] at this
   exact ⟨hread,next⟩
  by_cases hfree:∃i,i<m/\vO ops.toList i=true/\listed.getD i false=false/\∀o,ops[i]? =some o->∀e∈o.after,Region.binds .any e=true->listed.getD e.on false=true
  ·obtain ⟨i,him,hfi,hli,hdep⟩:=hfree;obtain ⟨o,ho⟩:∃o,ops[i]? =some o:=⟨ops[i]'(by omega),by simp[show i<ops.size by omega]⟩;obtain ⟨x,t,hfr⟩:=Hp ho hfi;obtain ⟨hwi,hqp⟩:=hQP i o him ho;have h1:listed.getD i true=false:=by rw[iS om];exact hli
   obtain ⟨hread,next⟩:=one i o him ho h1 (hdep o ho);obtain ⟨hmv,hsm⟩:=hqp.move x hfr.op hfr.guard;obtain ⟨v0,hrs,H0⟩:=hmv _ b hs1 hread;refine aMx (fun f=>hF.fn f) hQn hfr H0 f listed b w1 hls h1 (hdep o ho) rfl ?_;have hnext:=next (loc':=loc1) (ver':=ver1) (w':=w1) (v:=v0) (by rw[hsm];exact hI1) (by rw[hsm];exact Ext.refl _) (by rw[hsm];exact hrs);rwa [hfr.dst] at hnext
  obtain ⟨i0,hi0,hmin⟩:∃i0,(i0<m/\listed.getD i0 false=false)/\∀k,(k<m/\listed.getD k false=false)->i0<=k:=by
   have:∃j,j<m/\listed.getD j false=false:=by
    apply aH;intro hn;exact hall fun j hj=>by
     cases hc:listed.getD j false with
     | true=>rfl
     | false=>exact (hn ⟨j,hj,hc⟩).elim
   obtain ⟨j,hj⟩:=this;exact Ko j hj
  have hi0s:i0<ops.size:=om;have hdep0:∀e∈(ops[i0]).after,Region.binds .any e=true->listed.getD e.on false=true:=fun e he hb=>by
   have hlt:=tT (htopo i0 ops[i0] (by simp[hi0s])) e he hb;cases hc:listed.getD e.on false with
   | true=>rfl
   | false=>have:=hmin e.on ⟨om,hc⟩;omega
  have hr0:i0∈Region.ready .any ops listed:=mem_ready.2 ⟨by rw[iS om];exact hi0.2,ops[i0],by simp[hi0s],hdep0⟩
  have hnf0:vO ops.toList i0=true->False:=fun h=>hfree ⟨i0,hi0.1,h,hi0.2,fun o ho=>by
   have e:o=ops[i0]:=by
    have:ops[i0]? =some ops[i0]:=by simp[hi0s]
    rw[ho] at this;exact yM this
   subst e;exact hdep0⟩
  refine ⟨fun hr=>(by rw[hr] at hr0;cases hr0),fun i hi=>?_⟩;obtain ⟨h1,o,ho,h2⟩:=mem_ready.1 hi;have his:=(aF.1 ho).1;have him:i<m:=by
   apply aH;intro hge;have:=vG hcl ho ((htail0 i o om ho i0 om).resolve_right fun hfr=>hnf0 hfr.2) h2;rw[hi0.2] at this;cases this
  obtain ⟨hwi,hqp⟩:=hQP i o him ho;obtain ⟨hread,next⟩:=one i o him ho h1 h2;have hwant:=hqp.want _ b hread;unfold wpOpIn;simp only[ho];cases hwn:wn i with
  | true=>
   rw[hwn] at hwant hqp;rw[aD hwant];obtain ⟨hnd,hopk⟩:=hqp.run rfl hF _ (adm i o him ho h1 h2) hI1 hs1 hread;refine hopk.wpIn hF hnd ?_;rintro v w' ⟨loc',ver',hI',hr',hx'⟩;exact next hI' hx' hr'
  | false=>
   rw[hwn] at hwant hqp;obtain ⟨hs,hsm⟩:=hqp.skip rfl;rw[aC (by rw[hwant];simp)];refine ⟨fun f _=>hF.fn f,next (loc':=loc1) (ver':=ver1) (by rw[hsm];exact hI1) (by rw[hsm];exact Ext.refl _) ?_⟩;rw[hs];exact (.tup [] [] .nil)
end
end Go.Eng
end
section
namespace Go.Eng
open Go.RowKit
section
variable {P:Program} {G:Ctx} {N:Nat} {Γ:List Con} {H:List HO} {loc:Nat->Loc} {ver:Nat->Nat} {w:World}
theorem xO (B:List HO):∀(fx:List Fx) (S:Nat->Bool),(jT B fx S).length=B.length
 | [],_=>rfl
 | f::r,S=>by
  simp only[pT];cases S f.p with
  | true=>simp only[bR,hset,dN];exact xO B r S
  | false=>exact xO B r S
theorem lM (B:List HO) {S S':Nat->Bool}:∀(fx:List Fx),(∀f∈fx,S f.p=S' f.p)->jT B fx S=jT B fx S'
 | [],_=>rfl
 | f::r,h=>by
  simp only[pT];rw[h f bW,lM B r fun g hg=>h g (bP _ hg)]
theorem xP (B:List HO):∀(fx:List Fx),jT B fx (fun _=>false)=B
 | []=>rfl
 | f::r=>by simp only[jT,cD];exact xP B r
theorem Oq (B:List HO) {i:Nat}:∀(fx:List Fx) {f:Fx} {S:Nat->Bool},f∈fx->f.p=i->S i=false->fx.Pairwise (fun a b=>a.p≠b.p)->(∀g∈fx,g.p≠i->S g.p=true->g.n≠f.n)->jT B fx (addS S i)=hset (jT B fx S) f.n f.o
 | g::r,f,S,hf,hp,hS,hd,hn=>by
  obtain ⟨hd1,hd2⟩:=mG.1 hd;by_cases hg:g.p=i
  ·have hfr:f ∉ r:=fun h=>hd1 f h (by rw[hg,hp]);have hfg:f=g:=by
    rcases bH.1 hf with h | h
    ·exact h
    exact absurd h hfr
   subst hfg;simp only[pT];rw[hp,hS,show addS S i i=true from by simp[addS],bR,cD];congr 1
   refine lM B r fun q hq=>?_;have hne:q.p≠i:=fun e=>hd1 q hq (by rw[hp,e]);simp[addS,lV hne]
  have hfr:f∈r:=by
   rcases bH.1 hf with h | h
   ·exact absurd (h ▸ hp) hg
   exact h
  have ih:=Oq B r hfr hp hS hd2 fun q hq=>hn q (bP _ hq);simp only[pT];rw[show addS S i g.p=S g.p from by simp[addS,lV hg],ih];cases hSg:S g.p with
  | false=>rfl
  | true=>
   simp only[bR,hset];exact List.set_comm _ _ (fun e=>hn g bW hg hSg e.symm)
theorem zJ (B:List HO) {n:Nat}:∀(fx:List Fx) {S:Nat->Bool},(∀g∈fx,S g.p=true->g.n≠n)->(jT B fx S)[n]? =B[n]?
 | [],_,_=>rfl
 | g::r,S,h=>by
  have ih:=zJ B r fun q hq=>h q (bP _ hq);simp only[pT];cases hS:S g.p with
  | false=>exact ih
  | true=>
   simp only[bR,hset];rw[bZ (fun e=>h g bW hS e.symm)];exact ih
theorem Inv.keep (hI:Inv G H loc ver w):Inv G (H++ [.res]) loc ver w/\Ext (envOf G H loc ver w) (envOf G (H++ [.res]) loc ver w):=by
 refine hI.turn H.length si (fun k hk=>⟨iO hk,rfl,rfl⟩) (fun h=>by rw[sH] at h;cases h) (fun h=>by rw[sH] at h;cases h) (aN _) rfl rfl rfl si (fun h=>by rw[sH] at h;cases h)
  (fun st n it b h=>by rw[gT] at h;cases h) (fun _ _ _=>rfl) ?_ ?_
 ·intro o' b ho' hb;rw[gT] at ho';cases ho';cases hb
 intro hx o' ho';rw[gT] at ho';cases ho'
 trivial
theorem Inv.keeps (q:Nat):∀ {H:List HO},Inv G H loc ver w->Inv G (H++List.replicate q .res) loc ver w/\Ext (envOf G H loc ver w) (envOf G (H++List.replicate q .res) loc ver w):=by
 induction q with
 | zero=>intro H hI;rw[List.replicate_zero,eZ];exact ⟨hI,Ext.refl _⟩
 | succ q ih=>
  intro H hI;obtain ⟨h1,h2⟩:=hI.keep;obtain ⟨h3,h4⟩:=ih h1;rw[List.replicate_succ,show H++HO.res::List.replicate q .res=H++ [.res]++List.replicate q .res by simp];exact ⟨h3,h2.trans h4⟩
theorem Inv.atRes (hI:Inv G H loc ver w) {n:Nat} (hn:H[n]? =some .res) {w':World} (o:HO) (L:Loc) (v:Nat)
  (hsz:w.heap.size<=w'.heap.size) (hos:w'.os=w.os) (htp:w'.tape=w.tape) (hout:w'.output=w.output)
  (hblk:∀b,b<w.heap.size->w'.heap[b]? =w.heap[b]?) (hfr:∀b,Owns L o b->w.heap.size<=b)
  (hnew:Ext (envOf G H loc ver w) (envOf G (hset H n o) (upd loc n L) (upd ver n v) w')->OSat (envOf G (hset H n o) (upd loc n L) (upd ver n v) w') L v o)
  (hny:∀st n it,o≠ .yst st n it:=by intro _ _ _ h;cases h):
  Inv G (hset H n o) (upd loc n L) (upd ver n v) w'/\Ext (envOf G H loc ver w) (envOf G (hset H n o) (upd loc n L) (upd ver n v) w'):=by
 have hlt:n<H.length:=(aL.1 hn).1;have hno:hasB H n=false:=by
  unfold hasB hget;rw[aB,hn];simp[Bi]
 refine hI.turn n (by simp[hset]) (fun k hk=>⟨bZ hk,cW _ _ _ hk,cW _ _ _ hk⟩) (fun h=>by rw[hno] at h;cases h) (fun h=>by rw[hno] at h;cases h) hsz hos htp hout (by rw[hn];simp) (fun h=>by rw[hno] at h;cases h)
  (fun st n' it b h=>by rw[show hset H n o=H.set n o from rfl,aQ hlt] at h;cases h;exact (hny _ _ _ rfl).elim) (fun b hb _=>hblk b hb) ?_ ?_
 ·intro o' b ho' hb;rw[show hset H n o=H.set n o from rfl,aQ hlt] at ho';cases ho';rw[aW] at hb;exact .inr (hfr b hb)
 intro hx o' ho';rw[show hset H n o=H.set n o from rfl,aQ hlt] at ho';cases ho';rw[aW,aW];exact hnew hx
def AllocOK (P:Program) (G:Ctx) (N:Nat) (o:Oper) (lr:List (Nat × SV)) (n:Nat) (s:SV) (ob:HO):Prop:=
 Bi ob=false/\∀ {F:Fence},Opn F->∀ {H:List HO} {loc:Nat->Loc} {ver:Nat->Nat} {w:World} {a:Act},Inv G H loc ver w->H[n]? =some .res->TRel (envOf G H loc ver w) N lr a->
  (∀c,o.op≠ .defer c)/\OpOK P F o a w fun v w'=>∃loc' ver',Inv G (hset H n ob) loc' ver' w'/\Rel (envOf G (hset H n ob) loc' ver' w') s v/\Ext (envOf G H loc ver w) (envOf G (hset H n ob) loc' ver' w')
theorem Dz {H:List HO} {n:Nat} {o:HO} (h:n<H.length) (ho:Bi o=false):hasB (hset H n o) n=true:=eM (aQ h) ho
theorem Wa {o:Oper} {l lr:List (Nat × SV)} {n:Nat} {t:TypeId} {pn pc:Operand} {K:SV->HO->Prop} (h:Gv P t (ev l pn) (ev l pc) fun m ty e ei=>K (.ref n 1) (.vv 1 0 ty (List.replicate m.toNat []) none e ei)) (hop:o.op= .makeSlice t pn pc) (hlr:∀x∈o.op.operands,ev lr x=ev l x):∃s ob,K s ob/\AllocOK P G N o lr n s ob:=by
 unfold Gv at h;split at h;case h_2=>cases h
 rename_i e kn nn kc nc he hen hec;split at h;case h_2=>cases h
 rename_i ty ei i hr hi;obtain ⟨hz,⟨⟨n1,n2,n3,n4⟩,hk⟩⟩:=bA h;refine ⟨_,_,hk,rfl,?_⟩;intro F hF H loc ver w a hI hn hT;refine ⟨by simp[hop],?_⟩;have e1:=nI hT pn;have e2:=nI hT pc;rw[hlr pn (by rw[hop];simp[Op.operands])] at e1;rw[hlr pc (by rw[hop];simp[Op.operands])] at e2
 obtain ⟨nn',cc,ty',e',ei',hk',hfl,m1,m2,hrun⟩:=On (P:=P) (K:=fun m t1 e1 ei1=>m=nn/\(⟨t1,ei1⟩:Ty × TypeId)=(ty,ei)/\e1=e) (t:=t) (by
  unfold Gv;rw[hen,hec,he];simp only[hr,hi,hz,bR]
  exact ⟨⟨n1,n2,n3,n4⟩,by trivial⟩) e1 e2
 obtain ⟨rfl,hkk,rfl⟩:=hk';cases hkk;have hlt:n<H.length:=(aL.1 hn).1;have hf:=hI.atRes hn (w':=w.alloc (.cells (madeCells (Value.slice none 0 0).cells (cc*1)) e')) (.vv 1 0 ty (List.replicate nn'.toNat []) none e' ei) (mkL (some (w.heap.size,0)) nn'.toNat cc) 1 si rfl rfl rfl (fun b hb=>Below.heap_alloc w _ b hb)
  (by intro b hb;rcases hb with hb | hb; · simp at hb;omega
      ·exact hb.elim) (fun _=>Om hfl m1 m2 (kG w _))
 refine .value (.slice (some ⟨w.heap.size,0,none⟩) nn'.toNat cc) _ (by simp[execOp,hop,hrun w]) ⟨_,_,hf.1,?_,hf.2⟩;refine .ref _ _ _ (by exact Dz hlt rfl) Nat.one_pos (by simp[envOf,aW]) fun _=>?_;simp[envOf,aW,Core.head]
theorem Rw (hY:COK P G) (hΓ:∀c∈Γ,aO P c) {o:Oper} {l lr:List (Nat × SV)} {n:Nat} {K:SV->HO->Prop} (h:Qw P Γ o l n K) (hlr:∀x∈o.op.operands,ev lr x=ev l x):∃s ob,K s ob/\AllocOK P G N o lr n s ob:=by
 unfold Qw at h;split at h
 ·rename_i t pn pc hop;cases hvv:Qn P t with
  | true=>
   rw[hvv] at h;obtain ⟨s,ob,hk,hob⟩:=Wa (lr:=lr) h hop hlr;exact ⟨s,ob,hk,hob⟩
  | false=>
  rw[hvv] at h;replace h:aGs P t n (ev l pn) (ev l pc) K:=h;unfold aGs at h;split at h;case h_2=>cases h
  rename_i e kn nn kc nc he hen hec;split at h;case h_2=>cases h
  rename_i tt i z htt hi hz;obtain ⟨hb,h1⟩:=bA h;clear h;split at h1;case h_2=>cases h1
  rename_i x0 hd;obtain ⟨⟨n1,n2,n3,n4⟩,hk⟩:=h1;refine ⟨_,_,hk,rfl,?_⟩;intro F hF H loc ver w a hI hn hT;refine ⟨by simp[hop],?_⟩;have hu:=iL he;have e1:=nI hT pn;have e2:=nI hT pc;rw[hlr pn (by rw[hop];simp[Op.operands]),hen] at e1;rw[hlr pc (by rw[hop];simp[Op.operands]),hec] at e2;obtain ⟨e3,_⟩:=e1.int_inv;obtain ⟨e4,_⟩:=e2.int_inv;simp only[aE,bK] at hb;obtain ⟨⟨hb1,hb2⟩,hb3⟩:=hb;obtain ⟨zv,hzv,rfl⟩:=Hg hz hi;have hzl:zv.cells.size=tt.size:=by simpa using hb3
  have hpos:=tt.size_pos;have hr:=run_make (P:=P) w t e i zv hu hi hzv kn kc nn nc n1 n2 (by rw[bJ];omega) om;have hlt:n<H.length:=(aL.1 hn).1;have hf:=hI.atRes hn (w':=w.alloc (.cells (madeCells zv.cells (nc.toNat*i.size)) e)) (.vec 1 tt (List.replicate nn.toNat x0) e) (mkL (some (w.heap.size,0)) (nn.toNat) (nc.toNat)) 1 si rfl rfl rfl (fun b hb=>Below.heap_alloc w _ b hb) (by intro b hb;simp[Owns] at hb;omega)
   (fun hx=>by
    have hm:nn.toNat*tt.size<=nc.toNat*i.size:=by rw[hb1];exact bQ _ om
    refine ⟨rfl,Nat.one_pos,si,by show nn.toNat<=140737488355328;omega,(madeCells zv.cells (nc.toNat*i.size)).toList.take (nn.toNat*tt.size),⟨by show (List.take _ _).length=nn.toNat*tt.size;rw[aY,jE,size_madeCells];exact eY hm,.inr ⟨w.heap.size,nc.toNat,madeCells zv.cells (nc.toNat*i.size),rfl,aK _,kG w _,by show nn.toNat<=nc.toNat;omega,by simp[maxLen];omega,by rw[size_madeCells,hb1];exact aN _,rfl⟩⟩,fun j hj=>?_⟩;have hj':j<nn.toNat:=hj;have hjm:j*tt.size+tt.size<=nn.toNat*tt.size:=by
     have:(j+1)*tt.size<=nn.toNat*tt.size:=bQ _ hj';rwa [cL,iC] at this
    have e1:(List.replicate nn.toNat x0).getD j tt.dflt=x0:=by
     rw[aB];have:(List.replicate nn.toNat x0)[j]? =some x0:=by simp[hj']
     rw[this];rfl
    have e2:((((madeCells zv.cells (nc.toNat*i.size)).toList.take (nn.toNat*tt.size)).drop (j*tt.size)).take tt.size)=zv.cells.toList:=by
     apply fY;intro q;rw[aU];by_cases hq:q<tt.size
     ·rw[aD hq,bD,aU,aD om,vR _ _ om _ om];have:(j*tt.size+q)%zv.cells.size=q:=by rw[hzl,fL,Nat.mul_add_mod];exact eB hq
      rw[this];have hq2:q<zv.cells.toList.length:=by simp;omega
      simp[hzl,hq]
     rw[aC hq,cG (by simp;omega)]
    rw[e1,e2]
    exact Ak (uH _ _) hd hb2)
  refine .value (.slice (some ⟨w.heap.size,0,none⟩) nn.toNat nc.toNat) _ (by simp[execOp,hop,e3,e4,hr]) ⟨_,_,hf.1,?_,hf.2⟩;refine .ref _ _ _ (Dz hlt rfl) Nat.one_pos (by simp[envOf,aW]) fun _=>?_;simp[envOf,aW,Core.head]
 ·rename_i t hop;split at h;case h_2=>cases h
  rename_i z hz;rw[bY] at h;refine ⟨_,_,h,rfl,?_⟩;intro F hF H loc ver w a hI hn hT;refine ⟨by simp[hop],?_⟩;obtain ⟨v,hv,rfl⟩:=uG hz w;have hlt:n<H.length:=(aL.1 hn).1;have hf:=hI.atRes hn (w':=w.alloc (.cells v.cells t)) (.cells (v.cells.toList.map cst) t) (mkL (some (w.heap.size,0)) 0 0) 0 si rfl rfl rfl (fun b hb=>Below.heap_alloc w _ b hb) (by intro b hb;simp[Owns] at hb;omega)
   (fun hx=>⟨rfl,w.heap.size,v.cells.toList,rfl,kG w _,uH _ _⟩)
  refine .value (.pointer (some ⟨w.heap.size,0,none⟩)) _ (by simp[execOp,hop,Am hv]) ⟨_,_,hf.1,?_,hf.2⟩;refine .ptr _ _ _ (Dz hlt rfl) fun _=>⟨w.heap.size,by simp[envOf,aW],rfl⟩
 ·rename_i c hop;split at h;case h_2=>cases h
  rename_i g hc;split at h;case h_2=>cases h
  rename_i d hcon;split at h;case h_2=>cases h
  rename_i cl _ _ hown;obtain ⟨hmem,rfl⟩:=Fk hcon;obtain ⟨hent,_,_,hso,_⟩:=hΓ d hmem;unfold ownD at h;simp only[lU] at h;have h':=bA h;clear h;obtain ⟨hb,h⟩:=h';obtain ⟨r,k,t,ys,e,hk,htri⟩:=hso cl hown _ _ h;simp only[jR] at hk;have hk':=bA hk;clear hk;obtain ⟨hb2,hk⟩:=hk';simp only[aE] at hb2;have htri:=htri hb2.1;refine ⟨_,_,hk,rfl,?_⟩;intro F hF H loc ver w a hI hn hT;refine ⟨by simp[hop],?_⟩;have hlt:n<H.length:=(aL.1 hn).1;have hargs:=Al hT c.args.toList;have hmap:c.args.toList.map (ev lr)=c.args.toList.map (ev l):=oR fun x hx=>hlr x (by rw[hop];simp only[Op.operands,Call.operands];simp;first | exact .inr (by simpa using hx) | exact .inl (by simpa using hx) | simp_all);rw[hmap] at hargs;have hargs0:=RelL.bare (E:=envOf G H loc ver w) (E':=env0 w (okN G H loc w)) (fun _ _ _ h _=>h) (fun _ h=>h) hargs hb;have e1:=nI hT (.func d.f);simp only[ev] at e1;generalize hv:a.eval (.func d.f)=v at e1;cases e1 with
  | clo _ _ _ va vb ha hb'=>
   cases ha;cases hb';refine .call d.f ⟨[]++c.args.toList.map a.eval++ []⟩ ?_ fun m=>hF.calls ?_
   ·simp only[execOp,hop];rw[Hi hc hv];exact hent _ _
   rw[kJ,eZ];refine (htri _ w _ (hY.now hI) (fun _ h=>h.2.1) hargs0).mono ?_;rintro en w' ⟨v,L',rfl,hbel,hblk,⟨q1,q2,rs,q3,q4⟩,hrel⟩;have hf:=hI.atRes hn (w':=w') (.vec 1 t ys e) L' 1 hbel.size hbel.os hbel.tape hbel.output (fun b hb=>hbel.block b hb) (fun b hb=>hblk b hb)
    (fun hx=>⟨rfl,Nat.one_pos,q1,q2,rs,q3,fun i hi=>Reads.flatJ hb2.1 (q4 i hi)⟩) (by intro _ _ _ h;cases h)
   exact ⟨v,rfl,_,_,hf.1,Uy (by exact Dz hlt rfl) (by simp[envOf,aW]) (by simp[envOf,aW]) hrel hb2.2,hf.2⟩
 cases h
structure FxOk (ops:Array Oper) (n0 na k:Nat) (fx:List Fx):Prop where
 lt:∀f∈fx,f.p<k
 apart:fx.Pairwise fun a b=>a.p≠b.p
 names:∀f∈fx,f.n<n0+na
 own:∀f∈fx,n0<=f.n->∀g∈fx,f.p<g.p->g.n=f.n->∃o,ops[g.p]? =some o/\waits o f.p=true
structure OneG (P:Program) (G:Ctx) (Γ:List Con) (ops:Array Oper) (n0 na:Nat) (N:Nat) (fx:List Fx) (rs:List Rc) (wr:Nat->SV) (sv:SV) (wn:Bool) (j:Nat) (o:Oper):Prop where
 want:∀(E:Env) (a:Act),(∀t,lk ops o t->Rel E (wr t) (a.tmps.getD t undef))->Region.wanted o (yielded ops a.tmps)=wn
 skip:wn=false->sv= .tup []/\∀f∈fx,f.p≠j
 dst:∀t,o.dst=some t->t<N
 plain:o.guard=none->wn=true
 run:wn=true->(isA Γ o=true/\∃f lr,f∈fx/\f.p=j/\n0<=f.n/\(∀g∈fx,g.p≠j->g.n=f.n->j<g.p)/\AllocOK P G N o lr f.n sv f.o/\∀(t:Nat) (E:Env) (v:Value),(lk ops o t->Rel E (wr t) v)->Rel E (look lr t) v)\/
  (isA Γ o=false/\∃lr H0 H1 X,⟨j,o,lr,sv⟩∈rs/\op1 P Γ o lr H0 (fun s' H'=>Pinned (s'=sv) (H'=H1) X)/\(isL Γ o=false->∀f∈fx,f.p≠j)/\∀(t:Nat) (E:Env) (v:Value),(lk ops o t->Rel E (wr t) v)->Rel E (look lr t) v)
theorem aHh (l:List (Nat × SV)) {xs:List Operand} {x:Operand} (h:x∈xs):ev (kL l xs) x=ev l x:=by
 cases x with
 | tmp t=>
  simp only[ev]
  induction xs with
  | nil=>cases h
  | cons y ys ih=>
   cases y with
   | tmp u=>
    simp only[kL,look];by_cases e:u=t
    ·subst e;rw[gU];rfl
    rw[lV e];simp only[cD];refine ih ?_;rcases bH.1 h with h1 | h1
    ·cases h1;exact absurd rfl e
    exact h1
   | _=>
    simp only[kL];refine ih ?_;rcases bH.1 h with h1 | h1
    ·cases h1
    exact h1
 | _=>rfl
theorem virtG (hY:COK P G) (hΓ:∀c∈Γ,aO P c) {ops:Array Oper} {m:Nat} (hq:∀i o,i<m->ops[i]? =some o->opOk ops.toList m i o=true) (htopo:∀i o,ops[i]? =some o->topo i o=true) (wr0:Nat->SV) {n0:Nat} {B:List HO} {K:List (Nat × SV)->List HO->List Fx->List Rc->Prop}
  (hB:∀n,n0<=n->n<B.length->B[n]? =some .res):
  ∀(rest:List Oper) (k:Nat),(ops.toList.take m).drop k=rest->
  ∀ {H:List HO} {fx:List Fx} {rs:List Rc} {na:Nat} {loc:Nat->Loc} {ver:Nat->Nat} {w:World} {l:List (Nat × SV)} {a:Act} {wr:Nat->SV},Inv G H loc ver w->TRel (envOf G H loc ver w) N l a->(∀(E:Env) (t:Nat) (v:Value),Rel E (wr t) v->Rel E (look l t) v)->
  H=jT B fx (fun j=>decide (j<k))->FxOk ops n0 na k fx->n0+na+cntA Γ rest<=B.length->
  (∀t,(∀j o,j<k->ops[j]? =some o->o.dst≠some t)->wr t=wr0 t)->
  Dg P Γ N ops.toList n0 rest k l H fx rs na K->
  ∃(wr':Nat->SV) (sv:Nat->SV) (wn:Nat->Bool) (lf:List (Nat × SV)) (Hf:List HO) (fx':List Fx) (rs':List Rc) (na':Nat),K lf Hf fx' rs'/\(∀(E:Env) (t:Nat) (v:Value),Rel E (wr' t) v->Rel E (look lf t) v)/\
   (∀t,(∀j o,k<=j->j<m->ops[j]? =some o->o.dst≠some t)->wr' t=wr t)/\Hf=jT B fx' (fun j=>decide (j<max k m))/\FxOk ops n0 na' (max k m) fx'/\n0+na'<=B.length/\
   (∃p,fx'=p++fx/\∀f∈p,k<=f.p)/\(∀r∈rs,r∈rs')/\
   (∀j o,k<=j->j<m->ops[j]? =some o->(∀t,o.dst=some t->wr' t=sv j)/\OneG P G Γ ops n0 na' N fx' rs' (rdM ops m wr0 wr' j) (sv j) (wn j) j o):=by
 intro rest
 induction rest with
 | nil=>
  intro k hk H fx rs na loc ver w l a wr hI hT hRef hH hfx hna hw0 h;have hlen:(ops.toList.take m).length<=k:=sN.1 hk;have hcg:jT B fx (fun j=>decide (j<k))=jT B fx (fun j=>decide (j<max k m)):=lM B fx fun f hf=>by
   have:=hfx.lt f hf;have h2:f.p<max k m:=om;simp[this,h2]
  refine ⟨wr,fun _=>.any,fun _=>false,l,H,fx,rs,na,h,hRef,fun _ _=>rfl,hH.trans hcg,⟨fun f hf=>by have:=hfx.lt f hf;omega,hfx.apart,hfx.names,hfx.own⟩,by simpa [cntA] using hna,⟨[],rfl,si⟩,fun _ h=>h,fun j o h1 h2 h3=>?_⟩;have hj:=(aF.1 h3).1;simp at hlen;omega
 | cons o r ih=>
  intro k hk H fx rs na loc ver w l a wr hI hT hRef hH hfx hna hw0 h;have hko:(ops.toList.take m)[k]? =some o:=by
   have:((ops.toList.take m).drop k)[0]? =some o:=by rw[hk];rfl
   rw[bD] at this;simpa using this
  have hkm:k<m:=by
   rw[aU] at hko;split at hko
   ·assumption
   cases hko
  have hop:ops[k]? =some o:=by
   rw[aU,aD hkm] at hko;simpa using hko
  have hkr:(ops.toList.take m).drop (k+1)=r:=by rw[<- gE,hk];rfl
  have hok:=hq k o hkm hop;have hlenH:H.length=B.length:=by rw[hH,xO]
  simp only[Ys] at h;obtain ⟨l',b,hyn,hlearn,hwant⟩:=aG9 h;have hT':TRel (envOf G H loc ver w) N l' a:=⟨hT.size,fun t=>hlearn _ t _ (hT.rel t)⟩;have hRef':∀(E:Env) (t:Nat) (v:Value),Rel E (wr t) v->Rel E (look l' t) v:=fun E t v h=>hlearn E t v (hRef E t v h)
  -- behind this operation, whatever it has left
  have step:∀ {H':List HO} {fx1:List Fx} {rs1:List Rc} {na1:Nat} {loc':Nat->Loc} {ver':Nat->Nat} {w':World} {s:SV} {v:Value},Inv G H' loc' ver' w'->Ext (envOf G H loc ver w) (envOf G H' loc' ver' w')->Rel (envOf G H' loc' ver' w') s v->
    H'=jT B fx1 (fun j=>decide (j<k+1))->FxOk ops n0 na1 (k+1) fx1->n0+na1+cntA Γ r<=B.length->(∃p,fx1=p++fx/\∀f∈p,f.p=k)->(∀r∈rs,r∈rs1)->
    setT N l' o.dst s (fun l''=>Dg P Γ N ops.toList n0 r (k+1) l'' H' fx1 rs1 na1 K)->
    (b=false->s= .tup []/\fx1=fx)->
    (b=true->(isA Γ o=true/\∃f lr,f∈fx1/\f.p=k/\n0<=f.n/\(∀g∈fx1,g.p≠k->g.n≠f.n)/\AllocOK P G N o lr f.n s f.o/\lr=kL l' o.op.operands.toList)\/
     (isA Γ o=false/\∃lr H0 H1 X,⟨k,o,lr,s⟩∈rs1/\op1 P Γ o lr H0 (fun s' H'=>Pinned (s'=s) (H'=H1) X)/\(isL Γ o=false->fx1=fx)/\lr=kL l' o.op.operands.toList))->
    ∃(wr':Nat->SV) (sv:Nat->SV) (wn:Nat->Bool) (lf:List (Nat × SV)) (Hf:List HO) (fx':List Fx) (rs':List Rc) (na':Nat),K lf Hf fx' rs'/\(∀(E:Env) (t:Nat) (v:Value),Rel E (wr' t) v->Rel E (look lf t) v)/\
     (∀t,(∀j o,k<=j->j<m->ops[j]? =some o->o.dst≠some t)->wr' t=wr t)/\Hf=jT B fx' (fun j=>decide (j<max k m))/\FxOk ops n0 na' (max k m) fx'/\n0+na'<=B.length/\
     (∃p,fx'=p++fx/\∀f∈p,k<=f.p)/\(∀r∈rs,r∈rs')/\
     (∀j o,k<=j->j<m->ops[j]? =some o->(∀t,o.dst=some t->wr' t=sv j)/\OneG P G Γ ops n0 na' N fx' rs' (rdM ops m wr0 wr' j) (sv j) (wn j) j o):=by
   intro H' fx1 rs1 na1 loc' ver' w' s v hI' hx' hrs hH1 hfx1 hna1 hpre hrsub hset hskip hrun;obtain ⟨p1,hp1,hp1k⟩:=hpre;obtain ⟨wr1,hwr1⟩:∃wr1:Nat->SV,wr1=fun t=>if o.dst=some t then s else wr t:=⟨_,rfl⟩;have hnext:∃l'',Dg P Γ N ops.toList n0 r (k+1) l'' H' fx1 rs1 na1 K/\TRel (envOf G H' loc' ver' w') N l'' (a.put o.dst v)/\(∀(E:Env) (t:Nat) (v:Value),Rel E (wr1 t) v->Rel E (look l'' t) v)/\∀t,o.dst=some t->t<N:=by
    cases hd:o.dst with
    | none=>
     rw[hd] at hset;refine ⟨l',hset,hT'.ext hx',fun E t v h=>?_,fun t h=>by cases h⟩;rw[hwr1] at h;simp only[hd] at h;exact hRef' E t v (by simpa using h)
    | some u=>
     rw[hd] at hset;obtain ⟨hu,hset⟩:=bA hset;rw[bY] at hset;have hu':u<N:=by simpa using hu
     refine ⟨_,hset,?_,fun E t v h=>?_,fun t h=>by cases h;exact hu'⟩
     ·refine ⟨by simp[Act.put];exact hT.size,fun t=>?_⟩;rw[qO,yY a u t v (by rw[hT.size];exact hu')];by_cases e:t=u
      ·rw[aD e,aD e];exact hrs
      rw[aC e,aC e];exact (hT'.ext hx').rel t
     rw[hwr1] at h;simp only[hd] at h;rw[qO];by_cases e:t=u
     ·rw[aD e];rw[aD (by rw[e])] at h;exact h
     rw[aC e];rw[aC (fun e'=>e (by cases e';rfl))] at h;exact hRef' E t v h
   obtain ⟨l'',he,hT'',hRef'',hdN⟩:=hnext
   obtain ⟨wr',sv,wn,lf,Hf,fx',rs',na',h1,h2,h3,h6,h7,h8,⟨p2,hp2,hp2k⟩,h9,h4⟩:=ih (k+1) hkr hI' hT'' hRef'' hH1 hfx1 hna1 (fun t ht=>by
    rw[hwr1];simp only[aC (ht k o (dT k) hop)]
    exact hw0 t fun j o' hj=>ht j o' om) he
   have hmax:max (k+1) m=max k m:=om;rw[hmax] at h6 h7;have hwr:∀t,lk ops o t->rdM ops m wr0 wr' k t=wr t:=by
    intro t ht;have hro:=xM hok ht;unfold rdM;by_cases hl:late ops m k t
    ·rw[aD hl];obtain ⟨j0,o0,g1,g2,g3,g4⟩:=hl;obtain ⟨e,he,hb,hon⟩:=pV g4;have hk0:=tT (htopo j0 o0 g2) e he hb;refine (hw0 t fun j o' hj hj3 hd=>?_).symm;have:=wJ (hq j0 o0 g1 g2) g3 (show j<m by omega) hj3 hd;omega
    rw[aC hl];have h5:=h3 t fun j o' hj1 hj2 hj3 hd=>by
     rcases qF hro hj2 hj3 hd with h6 | h6
     ·have:=h6.2;omega
     exact hl ⟨j,o',hj2,hj3,hd,h6⟩
    rw[h5,hwr1];have:o.dst≠some t:=fun hd=>by
     rcases qF hro hkm hop hd with h6 | h6
     ·have:=h6.2;omega
     exact hl ⟨k,o,hkm,hop,hd,h6⟩
    simp only[aC this]
   have hlr:∀(t:Nat) (E:Env) (v:Value),(lk ops o t->Rel E (rdM ops m wr0 wr' k t) v)->Rel E (look (kL l' o.op.operands.toList) t) v:=by
    intro t E v hr;rcases rO l' o.op.operands.toList t with h5 | ⟨h5,h6⟩
    ·rw[h5];exact .any v
    rw[h6];have hl:lk ops o t:=.inl h5;exact hRef' E t v (by rw[<- hwr t hl];exact hr hl)
   have hnot:fx1=fx->∀f∈fx',f.p≠k:=by
    intro e f hf;rw[hp2,e] at hf;rcases cE.1 hf with h | h
    ·have:=hp2k f h;omega
    have:=hfx.lt f h;omega
   refine ⟨wr',fun j=>if j=k then s else sv j,fun j=>if j=k then b else wn j,lf,Hf,fx',rs',na',h1,h2,fun t ht=>?_,h6,h7,h8,⟨p2++p1,by rw[hp2,hp1,cC],fun f hf=>?_⟩,fun q hq=>h9 q (hrsub q hq),fun j o' hj1 hj2 hj3=>?_⟩
   ·rw[h3 t fun j o' hj1 hj2 hj3=>ht j o' om hj2 hj3,hwr1];simp only[aC (ht k o (aN _) hkm hop)]
   ·rcases cE.1 hf with h | h
    ·have:=hp2k f h;omega
    have:=hp1k f h;omega
   by_cases e:j=k
   ·subst e;rw[hop] at hj3;cases hj3;simp only[if_true];refine ⟨fun t hd=>?_,⟨fun E a hr=>hwant E a fun t ht=>hRef E t _ (by rw[<- hwr t ht];exact hr t ht),fun hb=>?_,hdN,?_,fun hb=>?_⟩⟩
    ·rw[h3 t fun j' o' hj1' hj2' hj3' hd'=>by have:=wJ hok hd hj2' hj3' hd';omega,hwr1];simp only[aD hd]
    ·obtain ⟨q1,q2⟩:=hskip hb;exact ⟨q1,hnot q2⟩
    ·intro hg;rw[<- hwant (envOf G H loc ver w) a fun t _=>hT.rel t];simp[Region.wanted,hg]
    rcases hrun hb with ⟨q1,f,lr,q2,q3,q4,q6,q5,rfl⟩ | ⟨q1,lr,H0,H1,X,q2,q3,q4,rfl⟩
    ·refine .inl ⟨q1,f,_,by rw[hp2];exact List.mem_append_right _ q2,q3,q4,fun g hg hne hgn=>?_,q5,hlr⟩;rw[hp2] at hg;rcases cE.1 hg with h | h
     ·have:=hp2k g h;omega
     exact absurd hgn (q6 g h hne)
    exact .inr ⟨q1,_,H0,H1,X,h9 _ q2,q3,fun hl=>hnot (q4 hl),hlr⟩
   simp only[aC e];exact h4 j o' om hj2 hj3
  have hTr:TRel (envOf G H loc ver w) N (kL l' o.op.operands.toList) a:=⟨hT.size,fun t=>by
   rcases rO l' o.op.operands.toList t with h5 | ⟨h5,h6⟩
   ·rw[h5];exact .any _
   rw[h6];exact hT'.rel t⟩
  have hHk:∀fx',(∀f∈fx',f.p<k)->jT B fx' (fun j=>decide (j<k))=jT B fx' (fun j=>decide (j<k+1)):=fun fx' h=>lM B fx' fun f hf=>by
   have:=h f hf;simp[this,nD this]
  have hfx':FxOk ops n0 na (k+1) fx:=⟨fun f hf=>nD (hfx.lt f hf),hfx.apart,hfx.names,hfx.own⟩;have hcnt:cntA Γ r<=cntA Γ (o::r):=by
   simp only[cntA];cases isA Γ o<;>simp
  rcases hyn with ⟨rfl,hy⟩ | ⟨rfl,hn⟩
  ·cases hA:isA Γ o with
   | true=>
    rw[hA] at hy;simp only at hy;have hcA:cntA Γ (o::r)=cntA Γ r+1:=by simp[cntA,hA]
    obtain ⟨s,ob,hs,hal⟩:=Rw hY hΓ (G:=G) (N:=N) (lr:=kL l' o.op.operands.toList) hy fun x hx=>aHh l' (by simpa using hx);have hnr:H[n0+na]? =some .res:=by
     rw[hH,zJ B fx fun g hg _=>by have:=hfx.names g hg;omega];exact hB _ om om
    obtain ⟨_,hopk⟩:=hal.2 (F:=Fence.wide) ⟨none,rfl⟩ hI hnr hTr;obtain ⟨v,w',loc',ver',hI',hr',hx'⟩:=hopk.ex;refine step (fx1:=⟨k,n0+na,ob⟩::fx) (rs1:=rs) (na1:=na+1) hI' hx' hr' ?_ ⟨fun f hf=>?_,mG.2 ⟨fun f hf=>?_,hfx.apart⟩,fun f hf=>?_,fun f hf hn g hg hne hgn=>?_⟩ om ⟨[⟨k,n0+na,ob⟩],rfl,si⟩ (fun _ h=>h) ?_ (fun h=>by cases h) (fun _=>.inl ⟨hA,_,_,bW,rfl,Nat.le_add_right _ _,fun g hg hne hgn=>?_,hal,rfl⟩)
    ·simp only[pT];rw[show decide (k<k+1)=true by simp,bR,<- hHk fx hfx.lt,<- hH]
    ·rcases bH.1 hf with rfl | hf
     ·exact dT _
     exact nD (hfx.lt f hf)
    ·have:=hfx.lt f hf;show k≠f.p;omega
    ·rcases bH.1 hf with rfl | hf
     ·show n0+na<n0+(na+1);omega
     have:=hfx.names f hf;omega
    ·rcases bH.1 hf with rfl | hf
     ·rcases bH.1 hg with rfl | hg
      ·exact absurd hne (gR _)
      have:=hfx.lt g hg;have hne:k<g.p:=hne;omega
     rcases bH.1 hg with rfl | hg
     ·have:=hfx.names f hf;have hgn:n0+na=f.n:=hgn;omega
     exact hfx.own f hf hn g hg hne hgn
    ·simp only[bY] at hs;exact hs
    rcases bH.1 hg with rfl | hg
    ·exact absurd rfl hne
    have:=hfx.names g hg;have hgn:g.n=n0+na:=hgn;omega
   | false=>
    rw[hA] at hy;simp only at hy;have hcA:cntA Γ (o::r)=cntA Γ r:=by simp[cntA,hA]
    cases hL:isL Γ o with
    | true=>
     rw[hL] at hy;simp only at hy;obtain ⟨s,ob,hs⟩:=hy.ex;rw[bY] at hs;obtain ⟨_,hopk⟩:=rN (F:=Fence.wide) hY hΓ ⟨none,rfl⟩ hI hTr hs;obtain ⟨v,w',s',H',loc',ver',hp,hI',hr',hx'⟩:=hopk.ex;obtain ⟨rfl,rfl,hgo⟩:=hp;obtain ⟨hlt,hgo⟩:=bA hgo;have hlt:tgt (kL l' o.op.operands.toList) o<n0\/(tgt (kL l' o.op.operands.toList) o<n0+na/\fxW o (tgt (kL l' o.op.operands.toList) o) fx=true):=by
      simpa only[cQ,aE,Nat.blt_eq] using hlt
     refine step (fx1:=⟨k,tgt (kL l' o.op.operands.toList) o,ob⟩::fx) (rs1:=⟨k,o,kL l' o.op.operands.toList,s'⟩::rs) (na1:=na) hI' hx' hr' ?_ ⟨fun f hf=>?_,mG.2 ⟨fun f hf=>?_,hfx.apart⟩,fun f hf=>?_,fun f hf hn g hg hne hgn=>?_⟩ om ⟨[⟨k,_,ob⟩],rfl,si⟩ (fun _ h=>bP _ h) ?_ (fun h=>by cases h) (fun _=>.inr ⟨hA,_,H,_,_,bW,hs,(fun h=>by rw[hL] at h;cases h),rfl⟩)
     ·simp only[pT];rw[show decide (k<k+1)=true by simp,bR,<- hHk fx hfx.lt,<- hH]
     ·rcases bH.1 hf with rfl | hf
      ·exact dT _
      exact nD (hfx.lt f hf)
     ·have:=hfx.lt f hf;show k≠f.p;omega
     ·rcases bH.1 hf with rfl | hf
      ·show tgt _ o<n0+na;omega
      exact hfx.names f hf
     ·rcases bH.1 hf with rfl | hf
      ·rcases bH.1 hg with rfl | hg
       ·exact absurd hne (gR _)
       have:=hfx.lt g hg;have hne:k<g.p:=hne;omega
      rcases bH.1 hg with rfl | hg
      ·have hgn:tgt (kL l' o.op.operands.toList) o=f.n:=hgn;rcases hlt with h1 | ⟨_,h1⟩
       ·omega
       exact ⟨o,hop,Uc h1 f hf hgn.symm⟩
      exact hfx.own f hf hn g hg hne hgn
     simp only[bY] at hgo;exact hgo
    | false=>
     rw[hL] at hy;simp only at hy;obtain ⟨s,hs⟩:=hy.ex;rw[bY] at hs;obtain ⟨_,hopk⟩:=rN (F:=Fence.wide) hY hΓ ⟨none,rfl⟩ hI hTr hs;obtain ⟨v,w',s',H',loc',ver',hp,hI',hr',hx'⟩:=hopk.ex;obtain ⟨rfl,rfl,hgo⟩:=hp;exact step (fx1:=fx) (rs1:=⟨k,o,kL l' o.op.operands.toList,s'⟩::rs) (na1:=na) hI' hx' hr' (by rw[<- hHk fx hfx.lt];exact hH) hfx' om ⟨[],rfl,si⟩ (fun _ h=>bP _ h) hgo (fun h=>by cases h) (fun _=>.inr ⟨hA,_,_,_,_,bW,hs,(fun _=>rfl),rfl⟩)
  exact step (fx1:=fx) (rs1:=rs) (na1:=na) hI (Ext.refl _) (.tup [] [] .nil) (by rw[<- hHk fx hfx.lt];exact hH) hfx' om ⟨[],rfl,si⟩ (fun _ h=>h) hn (fun _=>⟨rfl,rfl⟩) (fun h=>by cases h)
theorem zK {n:Nat}:∀ {l:List Nat},memN n l=true↔n∈l
 | []=>by simp[memN]
 | x::r=>by
  simp only[memN,cQ,bK,bH,zK (l:=r)];exact ⟨fun h=>h.imp Eq.symm id,fun h=>h.imp Eq.symm id⟩
theorem Hq (S:Nat->Bool):∀ps:List Nat,ps.filter S∈subs ps
 | []=>by simp[subs]
 | p::r=>by
  have ih:=Hq S r;simp only[subs,cE,mB,wR];cases S p with
  | true=>exact .inr ⟨_,ih,rfl⟩
  | false=>exact .inl ih
theorem aHi {ms ps:List Nat} {B:List HO} {fx:List Fx} {rs:List Rc} (h:chkR P Γ ms ps B fx rs) (r:Rc) (hr:r∈rs):chkS P Γ ms ps B fx r.i r.o r.l r.s (subs ps):=by
 induction rs with
 | nil=>cases hr
 | cons q rs ih=>
  rw[aDu] at h;rcases bH.1 hr with e | hr
  ·rw[e];exact h.chk
  exact ih h.go hr
theorem Wb {ms ps:List Nat} {B:List HO} {fx:List Fx} {r:Rc}:∀ {sl:List (List Nat)},chkS P Γ ms ps B fx r.i r.o r.l r.s sl->∀sub∈sl,admB ms ps r.i sub=true->
  op1 P Γ r.o r.l (jT B fx fun j=>memN j sub) fun s' H'=>Pinned (s'=r.s) (H'=jT B fx fun j=>memN j sub || Nat.beq j r.i) Fin0
 | q::sl,h,sub,hs,ha=>by
  rw[aDt] at h;rcases bH.1 hs with rfl | hs
  ·rw[ha] at h;have:=h.chk;unfold chk1 at this;rwa [qB] at this
  refine Wb ?_ sub hs ha;cases hc:admB ms ps r.i q with
  | true=>rw[hc] at h;exact h.go
  | false=>rw[hc] at h;exact h
theorem Wc (hY:COK P G) (hΓ:∀c∈Γ,aO P c) {F:Fence} (hF:Opn F) {n:Nat} {ops:Array Oper} {m:Nat} (hok:Ah ops.toList m=true)
  {l:List (Nat × SV)} {a:Act} {K:List (Nat × SV)->List HO->Prop} {Q:Exit->Act->World->Prop} (hQn:∀e a w,Q e a w->e= .normal) (hI:Inv G H loc ver w) (hT:TRel (envOf G H loc ver w) N l a)
  (h:aB4 P Γ N ops.toList m l H K)
  (hQ:∀l' H' loc' ver' a' w',K l' H'->Inv G H' loc' ver' w'->TRel (envOf G H' loc' ver' w') N l' a'->Ext (envOf G H loc ver w) (envOf G H' loc' ver' w')->Same (ops.toList.filterMap (·.dst)) a a'->a'.defers=a.defers->Q .normal a' w'):
  wpAnyIn F n P .any ops Q ops.size (Array.replicate ops.size false) a w:=by
 unfold aB4 at h;cases hl:aGt Γ (ops.toList.take m) with
 | false=>
  rw[hl] at h;exact Zp hY hΓ hF hok hQn hI hT h hQ
 | true=>
 rw[hl] at h;simp only[bR,bY,aB3,eJ] at h;simp only[Ah,aE] at hok;obtain ⟨hq0,hq1,hq2,hq3⟩:=hok;have hms:m<=ops.size:=by simpa using hq0
 have hq:∀i o,i<m->ops[i]? =some o->opOk ops.toList m i o=true:=fun i o hi ho=>qG hq1 hi ho;have htopo:∀i o,ops[i]? =some o->topo i o=true:=fun i o ho=>qG hq2 (by simpa using (aF.1 ho).1) ho;have htail0:∀i o,m<=i->ops[i]? =some o->∀j,j<i->oQ (pS ops.toList []) i j=true\/(j<m/\vO ops.toList j=true):=by
  intro i o hi ho j hj;rw[Ag] at hq3;have:=qG hq3 (by simpa using (aF.1 ho).1) ho;simp only[cQ] at this;rcases this with h1 | h1
  ·have:i<m:=by simpa using h1
   omega
  have:=fC.1 h1 j (jZ.2 hj);simpa using this
 obtain ⟨B,hBd⟩:∃B,B=H++List.replicate (cntA Γ (ops.toList.take m)) HO.res:=⟨_,rfl⟩;rw[<- hBd] at h;have hBl:B.length=H.length+cntA Γ (ops.toList.take m):=by rw[hBd];simp
 have hB:∀q,H.length<=q->q<B.length->B[q]? =some .res:=by
  intro q h1 h2;rw[hBd,cS h1,cZ,aD om]
 obtain ⟨hI0,hx0⟩:=hI.keeps (cntA Γ (ops.toList.take m));rw[<- hBd] at hI0 hx0;have hT0:=hT.ext hx0;obtain ⟨wr,sv,wn,lf,Hf,fx,rs,na,⟨hchk,hlf⟩,hRef,hwr,hHf,hfx,hna,_,_,hQP⟩:=virtG (N:=N) hY hΓ hq htopo (look l) hB (ops.toList.take m) 0 si (fx:=[]) (rs:=[]) (na:=0) (wr:=look l) hI0 hT0 (fun _ _ _ h=>h) rfl ⟨si,.nil,si,si⟩ om (fun _ _=>rfl) h;rw[Nat.zero_max] at hHf hfx;rw[Ag,aGr] at hchk;have hmem:∀f∈fx,f.p∈fx.map (·.p):=fun f hf=>mB.2 ⟨f,hf,rfl⟩;refine Vz (N:=N) (hS:=jT B fx) (wr:=wr) (sv:=sv) (wn:=wn) (lf:=lf) (l:=l) hY hΓ hF hms hq htopo htail0 hRef (fun t ht=>hwr t fun j o _ h2 h3=>ht j o h2 h3) (fun j o hj ho=>?_) hQn (by rw[xP];exact hI0) (by rw[xP];exact hT0) (by rw[<- hHf];exact hlf)
  (fun l' H' loc' ver' a' w' h1 h2 h3 h4 h5 h6=>hQ l' H' loc' ver' a' w' h1 h2 h3 (hx0.trans (by rw[xP] at h4;exact h4)) h5 h6)
 obtain ⟨hd,hone⟩:=hQP j o (aK _) hj ho;refine ⟨hd,hone.want,fun hb=>?_,fun hb=>?_,hone.dst,fun x hx hg=>?_⟩
 ·intro F' hF' S hS loc' ver' w' a' hI' hsz hrd;have hTr:∀ {lr:List (Nat × SV)},(∀(t:Nat) (E:Env) (v:Value),(lk ops o t->Rel E (rdM ops m (look l) wr j t) v)->Rel E (look lr t) v)->TRel (envOf G (jT B fx S) loc' ver' w') N lr a':=fun hlr=>⟨hsz,fun t=>hlr t _ _ (hrd t)⟩;rcases hone.run hb with ⟨_,f,lr,hf,hp,hn,hlate,hal,hlr⟩ | ⟨_,lr,H0,H1,X,hr,_,_,hlr⟩
  ·have hn2:∀g∈fx,S g.p=true->g.n≠f.n:=fun g hg hSg hgn=>by
    by_cases hne:g.p=j
    ·rw[hne,hS.not] at hSg;cases hSg
    have hl:=hlate g hg hne hgn;obtain ⟨o',ho',hw⟩:=hfx.own f hf hn g hg (by rw[hp];exact hl) hgn;obtain ⟨e,he,hbd,hon⟩:=pV hw;have:=hS.closed g.p o' ho' hSg e he hbd;rw[hon,hp,hS.not] at this;cases this
   rw[Oq B fx hf hp hS.not hfx.apart fun g hg _ hSg=>hn2 g hg hSg];refine hal.2 hF' hI' ?_ (hTr hlr);rw[zJ B fx fun g hg hSg=>hn2 g hg hSg];exact hB _ hn (by have:=hfx.names f hf;omega)
  have hS1:∀f∈fx,memN f.p ((fx.map (·.p)).filter S)=S f.p:=fun f hf=>by
   rw[mQ,zK,jD];exact ⟨fun h=>h.2,fun h=>⟨hmem f hf,h⟩⟩
  have hc:=Wb (aHi hchk _ hr) _ (Hq S (fx.map (·.p))) ?_
  ·have e1:(jT B fx fun q=>memN q ((fx.map (·.p)).filter S))=jT B fx S:=lM B fx hS1;have e2:(jT B fx fun q=>memN q ((fx.map (·.p)).filter S) || Nat.beq q j)=jT B fx (addS S j):=lM B fx fun f hf=>by simp only[addS,hS1 f hf]
   rw[e1,e2] at hc;obtain ⟨hnd,hopk⟩:=rN hY hΓ hF' hI' (hTr hlr) hc;refine ⟨hnd,hopk.mono ?_⟩;rintro v w2 ⟨s',H',loc2,ver2,⟨rfl,rfl,_⟩,h1,h2,h3⟩;exact ⟨loc2,ver2,h1,h2,h3⟩
  have hwm:∀i p o',ops[i]? =some o'->oQ (pS ops.toList []) i p=true->(∀e∈o'.after,Region.binds .any e=true->S e.on=true)->S p=true:=fun i p o' ho' hw hp=>vG (L:=fun j=>S j=true) hS.closed ho' hw hp;have hopS:∀p,S p=true->∃o',ops[p]? =some o':=fun p hp=>by
   have:=hS.lt p hp;exact ⟨ops[p]'(by omega),by simp[show p<ops.size by omega]⟩
  simp only[admB,aE,nC,fC,cQ];refine ⟨?_,fun p hp=>?_,fun p hp=>⟨?_,fun q hq'=>?_⟩⟩
  ·rw[qX,Ne,zK,jD];rintro ⟨_,h2⟩;rw[hS.not] at h2;cases h2
  ·cases hw:oQ (pS ops.toList []) j p with
   | false=>exact .inl rfl
   | true=>exact .inr (zK.2 (jD.2 ⟨hp,hwm j p o ho hw hS.own⟩))
  ·have hSp:=(jD.1 hp).2;cases hw:oQ (pS ops.toList []) p j with
   | false=>rfl
   | true=>
    obtain ⟨o',ho'⟩:=hopS p hSp;have:=hwm p j o' ho' hw (hS.closed p o' ho' hSp);rw[hS.not] at this;cases this
  have hSp:=(jD.1 hp).2;cases hw:oQ (pS ops.toList []) p q with
  | false=>exact .inl rfl
  | true=>
   obtain ⟨o',ho'⟩:=hopS p hSp;exact .inr (zK.2 (jD.2 ⟨hq',hwm p q o' ho' hw (hS.closed p o' ho' hSp)⟩))
 ·obtain ⟨h1,h2⟩:=hone.skip hb;refine ⟨h1,fun S=>lM B fx fun f hf=>?_⟩;simp[addS,lV (h2 f hf)]
 have hwn:=hone.plain hg;rcases hone.run hwn with ⟨hA,_⟩ | ⟨_,lr,H0,H1,X,hr,hop,hnf,hlr⟩
 ·cases ho:o.op<;>rw[ho] at hx<;>first | (simp[isA,ho] at hA;done) | cases hx
 have hnf:=hnf (by cases ho:o.op<;>rw[ho] at hx<;>first | (simp[isL,ho];done) | cases hx);refine ⟨fun E a hsz hrd=>?_,fun S=>lM B fx fun f hf=>by simp[addS,lV (hnf f hf)]⟩;obtain ⟨s,v0,hk,hrs,hrun⟩:=Vp hx hop (nI (E:=E) (a:=a) (N:=N) ⟨hsz,fun t=>hlr t _ _ (hrd t)⟩ x);rw[hk.val] at hrs;exact ⟨v0,hrs,hrun⟩
end
end Go.Eng
end
section
namespace Go.Eng
open Go.RowKit
section
variable {P:Program} {G:Ctx} {N:Nat}
theorem uN (hY:COK P G) {Γ:List Con} (hΓ:∀c∈Γ,aO P c) {A:Anns} (c:Code):∀key,Og P G N Γ A key c:=by
 induction c with
 | skip=>
  intro key F n hF H loc ver w l a K hI hT hRo h;exact wpIn_skip ⟨l,H,loc,ver,h,hI,hT,.refl _ _,.refl _ _,.refl _ _ _⟩
 | label n=>
  intro key F n hF H loc ver w l a K hI hT hRo h;exact wpIn_label ⟨l,H,loc,ver,h,hI,hT,.refl _ _,.refl _ _,.refl _ _ _⟩
 | ret=>
  intro key F n hF H loc ver w l a K hI hT hRo h;exact wpIn_ret ⟨l,H,loc,ver,h,hI,hT,.refl _ _,.refl _ _,.refl _ _ _⟩
 | exit id=>
  intro key F n hF H loc ver w l a K hI hT hRo h;exact wpIn_exit ⟨l,H,loc,ver,h,hI,hT,.refl _ _,.refl _ _,.refl _ _ _⟩
 | region id ops draw=>
  intro key F n hF H loc ver w l a K hI hT hRo h;cases draw with
  | true=>
   simp only[nH,rI,uF,rJ,pU,rK,jU] at h;obtain ⟨hc,h⟩:=bA h;obtain ⟨hm,hq⟩:=and2 hc;refine wpIn_region_any hm ?_;have hg:=hI.grow (w':={ w with drawn:=w.drawn+1 }) ⟨rfl,rfl,rfl,aN _,fun _ _=>rfl⟩;refine Ar (Q:=fun e a' w'=>e= .normal/\After G N (gC (.region id ops true)) (dI A key (.region id ops true)) K (envOf G H loc ver w) a .normal a' w') (fun e a' w' h=>by obtain ⟨rfl,h⟩:=h;exact h) _ _ _ _ ?_;refine Wc hY hΓ hF hq (fun e a' w' h=>h.1) hg.1 (hT.ext hg.2) h ?_;intro l' H' loc' ver' a' w' h1 h2 h3 h4 h5 h6;exact ⟨rfl,l',H',loc',ver',h1,h2,h3,(hg.2.trans h4).toO _,h5,.of_eq h6⟩
  | false=>
   simp only[nH,rI,uF,rJ,pU,rK,jU] at h;refine wpIn_region ?_;have:=Mz (N:=N) (n:=n) hY hΓ hF ops.toList 0 si (Q:=After G N (gC (.region id ops false)) (dI A key (.region id ops false)) K (envOf G H loc ver w) a) hI hT h
    (fun l' H' loc' ver' a' w' h1 h2 h3 h4 h5 h6=>⟨l',H',loc',ver',h1,h2,h3,h4.toO _,h5,.of_eq h6⟩)
   rw[List.range_eq_range'];simpa using this
 | seq x y ihx ihy=>
  intro key F n hF H loc ver w l a K hI hT hRo h;refine wpIn_seq ?_;have behind:∀ {H':List HO} {loc':Nat->Loc} {ver':Nat->Nat} {w':World} {l':List (Nat × SV)} {a':Act},Inv G H' loc' ver' w'->TRel (envOf G H' loc' ver' w') N l' a'->exec P Γ N A key y l' H' K->
    ExtO (dI A key (.seq x y)) (envOf G H loc ver w) (envOf G H' loc' ver' w')->Same (gC (.seq x y)) a a'->Marked (envOf G H loc ver w) (envOf G H' loc' ver' w') a.defers a'.defers->
    y.wpIn F n P (After G N (gC (.seq x y)) (dI A key (.seq x y)) K (envOf G H loc ver w) a) a' w':=by
   intro H' loc' ver' w' l' a' hI' hT' h' hx hs hd;refine wpIn_mono (ihy key hF hI' hT' (hRo.ext hx) h') ?_;intro e a'' w'' h'';refine After.trans hx hs hd (h''.mono (Hm _ _) (fun m hm=>?_) fun _ _ h=>h);simp only[dI];rw[mem_append,mem_append,hm];simp
  simp only[nH,rI,uF,rJ,pU,rK,jU] at h;cases hc:aB6 A y with
  | none=>
   rw[hc] at h;refine wpIn_mono (ihx key hF hI hT hRo h) ?_;rintro e a' w' ⟨l',H',loc',ver',h1,h2,h3,h4,h5,h6⟩;have hD:∀m,mem m (dI A key x)=true->mem m (dI A key (.seq x y))=true:=by
    intro m hm;simp only[dI];rw[mem_append,mem_append,hm];simp
   cases e with
   | normal=>exact behind h2 h3 h1 (h4.mono hD) (h5.mono (yL _ _)) h6
   | _=>exact ⟨l',H',loc',ver',h1,h2,h3,h4.mono hD,h5.mono (yL _ _),h6⟩
  | some an=>
   rw[hc] at h;obtain ⟨hok,hvc⟩:=h;obtain ⟨_,hx⟩:=hvc.init;have hD:∀m,mem m (dI A key x)=true->mem m (dI A key (.seq x y))=true:=by
    intro m hm;simp only[dI];rw[mem_append,mem_append,hm];simp
   have hO:∀m,mem m an.objs=true->mem m (dI A key (.seq x y))=true:=by
    intro m hm;simp only[dI,hc];rw[mem_append,hm];simp
   refine wpIn_mono (ihx key hF hI hT hRo hx) ?_;rintro e a' w' ⟨l',H',loc',ver',h1,h2,h3,h4,h5,h6⟩;cases e with
   | normal=>
    obtain ⟨z,hz⟩:=h1;have hz1:=and2 (hok z);have hz2:=and2 hz1.1;have hz3:=and2 hz2.1;obtain ⟨hI2,hT2,hx2⟩:=Dv hI hT h2 h3 h4 h5 (bK.1 hz3.2) hz1.2 hz2.2 hz;have hr:=hvc.round () z hz.pre;rw[nX,qB] at hr;refine behind hI2 hT2 hr (hx2.mono hO) (h5.mono (yL _ _)) ?_;obtain ⟨Ds,m1,m2,m3⟩:=h6;refine ⟨Ds,m1,m2,fun D hD=>?_⟩;obtain ⟨q1,q2,q3⟩:=m3 D hD;refine ⟨q1,?_,q3⟩;intro hq;rcases hx2.ali D hq with q4 | q4
    ·obtain ⟨nm,st,k,it,e1,e2⟩:=hq;obtain ⟨o',e3,e4⟩:=(qE hz.ent.2).2 nm _ e1;cases o' with
     | yst=>exact q2 ⟨nm,_,_,_,e3,e2⟩
     | _=>cases e4
    obtain ⟨nm,st,k,it,e1,e2⟩:=hq;obtain ⟨o',e3,e4⟩:=(qE hz.ent.2).2 nm _ e1;cases o' with
    | yst=>exact q2 ⟨nm,_,_,_,e3,e2⟩
    | _=>cases e4
   | _=>exact ⟨l',H',loc',ver',h1,h2,h3,h4.mono hD,h5.mono (yL _ _),h6⟩
 | cond c x y ihx ihy=>
  intro key F n hF H loc ver w l a K hI hT hRo h;have hr:=nI hT c;have hX:exec P Γ N A key x l H K->x.wpIn F n P (After G N (gC (.cond c x y)) (dI A key (.cond c x y)) K (envOf G H loc ver w) a) a w:=fun h=>
   wpIn_mono (ihx key hF hI hT hRo h) fun e a' w' h'=>h'.mono (yL _ _) (yL _ _) fun _ _ h=>h
  have hY':exec P Γ N A key y l H K->y.wpIn F n P (After G N (gC (.cond c x y)) (dI A key (.cond c x y)) K (envOf G H loc ver w) a) a w:=fun h=>
   wpIn_mono (ihy key hF hI hT hRo h) fun e a' w' h'=>h'.mono (Hm _ _) (Hm _ _) fun _ _ h=>h
  simp only[nH,rI,uF,rJ,pU,rK,jU] at h;split at h
  ·rename_i hl;rw[hl] at hr;exact wpIn_cond_true hr.bool_inv (hX h)
  ·rename_i hl;rw[hl] at hr;exact wpIn_cond_false hr.bool_inv (hY' h)
  ·rename_i p d hl;rw[hl] at hr;generalize hv:a.eval c=v at hr;cases hr;by_cases hp:p
   ·exact wpIn_cond_true (by rw[hv];simp[hp]) (hX (h.yes hp))
   exact wpIn_cond_false (by rw[hv];simp[hp]) (hY' (h.no hp))
  cases h
 | block id c ih=>
  intro key F n hF H loc ver w l a K hI hT hRo h;simp only[nH,rI,uF,rJ,pU,rK,jU] at h;refine wpIn_block (wpIn_mono (ih id hF hI hT hRo h) ?_);rintro e a' w' ⟨l',H',loc',ver',h1,h2,h3,h4,h5,h6⟩;cases e with
  | exit m=>
   simp only at h1;simp only[Exit.inBlock];by_cases hm:m=id
   ·subst hm;rw[gU] at h1;simp only[bR] at h1;rw[aD rfl];exact ⟨l',H',loc',ver',h1,h2,h3,h4,h5,h6⟩
   rw[lV hm] at h1;simp only[cD] at h1;rw[aC hm];exact ⟨l',H',loc',ver',h1,h2,h3,h4,h5,h6⟩
  | _=>exact ⟨l',H',loc',ver',h1,h2,h3,h4,h5,h6⟩
 | loop c ih=>
  intro key F n hF H loc ver w l a K hI hT hRo h;simp only[nH,rI,uF,rJ,pU,rK,jU] at h;rcases Gx h with ⟨an,hA,h⟩ | h;case inr=>
   have hD:∀m,mem m (dI A key c)=true->mem m (dI A key (.loop c))=true:=by
    intro m hm;simp only[dI];exact yL _ _ m hm
   refine Kq (fun k a' w'=>∃l' H' loc' ver',Fi (exec P Γ N A key c) k l' H' K/\Inv G H' loc' ver' w'/\TRel (envOf G H' loc' ver' w') N l' a'/\ExtO (dI A key (.loop c)) (envOf G H loc ver w) (envOf G H' loc' ver' w')/\Same (gC (.loop c)) a a'/\
     Marked (envOf G H loc ver w) (envOf G H' loc' ver' w') a.defers a'.defers)
    ⟨_,l,H,loc,ver,h,hI,hT,.refl _ _,.refl _ _,.refl _ _ _⟩ ?_
   rintro k a1 w1 ⟨l1,H1,loc1,ver1,hu,hI1,hT1,hx1,hs1,hd1⟩;cases k with
   | zero=>cases hu
   | succ k=>
    simp only[Ud] at hu;refine wpIn_mono (ih key hF hI1 hT1 (hRo.ext hx1) hu) ?_;rintro e a' w' ⟨l',H',loc',ver',h1,h2,h3,h4,h5,h6⟩;cases e with
    | normal=>
     have h1:nG l' (fun l'=>qM H' fun H'=>Fi (exec P Γ N A key c) k l' H' K):=h1;rw[nX,qB] at h1;exact ⟨k,dT k,l',H',loc',ver',h1,h2,h3,hx1.trans (h4.mono hD),hs1.trans h5,hd1.trans hx1.size h4 h6⟩
    | _=>exact ⟨l',H',loc',ver',h1,h2,h3,hx1.trans (h4.mono hD),hs1.trans h5,hd1.trans hx1.size h4 h6⟩
  case inl=>
   obtain ⟨hok,hvc⟩:=h;obtain ⟨x0,hx0⟩:=hvc.init;have hD:∀m,mem m (dI A key c)=true->mem m (dI A key (.loop c))=true:=by
    intro m hm;simp only[dI];exact yL _ _ m hm
   have hO:∀m,mem m an.objs=true->mem m (dI A key (.loop c))=true:=by
    intro m hm;simp only[dI,hA];exact Hm _ _ m hm
   have arr:∀ {x:an.X} {l':List (Nat × SV)} {H':List HO} {loc':Nat->Loc} {ver':Nat->Nat} {a':Act} {w':World},Inv G H' loc' ver' w'->TRel (envOf G H' loc' ver' w') N l' a'->ExtO (dI A key c++an.objs) (envOf G H loc ver w) (envOf G H' loc' ver' w')->Same (gC c) a a'->
     Marked (envOf G H loc ver w) (envOf G H' loc' ver' w') a.defers a'.defers->
     vP an x H l' H'->Inv G (an.heap x H) loc' (iQ an.objs (an.heap x H) ver') w'/\TRel (envOf G (an.heap x H) loc' (iQ an.objs (an.heap x H) ver') w') N (annL an x (gC c) l H) a'/\
      ExtO an.objs (envOf G H loc ver w) (envOf G (an.heap x H) loc' (iQ an.objs (an.heap x H) ver') w')/\Marked (envOf G H loc ver w) (envOf G (an.heap x H) loc' (iQ an.objs (an.heap x H) ver') w') a.defers a'.defers:=by
    intro x l' H' loc' ver' a' w' h1 h2 h3 h4 hmk h5;have hz1:=and2 (hok x);have hz2:=and2 hz1.1;have hz3:=and2 hz2.1;obtain ⟨r1,r2,r3⟩:=Dv hI hT h1 h2 h3 h4 (bK.1 hz3.2) hz1.2 (Bp hz2.2) h5;refine ⟨r1,r2,r3,?_⟩;obtain ⟨Ds,m1,m2,m3⟩:=hmk;refine ⟨Ds,m1,m2,fun D hD=>?_⟩;obtain ⟨q1,q2,q3⟩:=m3 D hD;refine ⟨q1,?_,q3⟩;rintro ⟨nm,st,k,it,e1,e2⟩;obtain ⟨o',e3,e4⟩:=(qE h5.ent.2).2 nm _ e1;cases o' with
    | yst=>exact q2 ⟨nm,_,_,_,e3,e2⟩
    | _=>cases e4
   obtain ⟨hI0,hT0,hx00,hm00⟩:=arr hI hT (.refl _ _) (.refl _ _) (.refl _ _ _) hx0;have arrS:∀ {x:an.X} {l':List (Nat × SV)} {H':List HO} {loc':Nat->Loc} {ver':Nat->Nat} {a':Act} {w':World},Inv G H' loc' ver' w'->TRel (envOf G H' loc' ver' w') N l' a'->ExtO (dI A key c++an.objs) (envOf G H loc ver w) (envOf G H' loc' ver' w')->Same (gC c) a a'->
     Marked (envOf G H loc ver w) (envOf G H' loc' ver' w') a.defers a'.defers->
     Dh an x H l' H'->∃loc2 ver2,Inv G (an.heap x H) loc2 ver2 w'/\TRel (envOf G (an.heap x H) loc2 ver2 w') N (annL an x (gC c) l H) a'/\
      ExtO an.objs (envOf G H loc ver w) (envOf G (an.heap x H) loc2 ver2 w')/\Marked (envOf G H loc ver w) (envOf G (an.heap x H) loc2 ver2 w') a.defers a'.defers:=by
    intro x l' H' loc' ver' a' w' h1 h2 h3 h4 hmk h5;unfold Dh at h5;split at h5
    ·exact ⟨_,_,arr h1 h2 h3 h4 hmk h5⟩
    rename_i t0 a0 hsw;split at h5
    ·rename_i b0 hl0;obtain ⟨hc,h5⟩:=bA h5;obtain ⟨c1,hc⟩:=and2 hc;obtain ⟨c2,hc⟩:=and2 hc;obtain ⟨c3,hc⟩:=and2 hc;obtain ⟨c4,c5⟩:=and2 hc;rw[nX,qB] at h5;have c2:H.length<=b0:=by simpa using c2
     have c3:a0<H.length:=by simpa using c3
     have hab:a0≠b0:=om;obtain ⟨i1,i2,i3⟩:=aG6 h1 hab c4 c5;have hD:mem a0 (dI A key c++an.objs)=true:=Hm _ _ _ c1;have hx':=aNl h1 hab c4 c5 hD (fun nm hn e=>by have:=kM (show hasB H nm=true from hn);omega) h3;refine ⟨_,_,arr i1 ⟨h2.size,fun t=>by rw[Hl];exact i3 (h2.rel t)⟩ hx' h4 ?_ h5⟩;obtain ⟨Ds,m1,m2,m3⟩:=hmk;refine ⟨Ds,m1,m2,fun D hD=>?_⟩;obtain ⟨q1,q2,q3⟩:=m3 D hD;obtain ⟨la,ea,hga,_⟩:=zF c4;exact ⟨q1,fun hq=>q2 (aG7 hab (aL.1 hga).1 c5 hq),q3⟩
    cases h5
   refine Kq (fun k a' w'=>∃x loc' ver',an.mu x=k/\an.pre x/\Inv G (an.heap x H) loc' ver' w'/\TRel (envOf G (an.heap x H) loc' ver' w') N (annL an x (gC c) l H) a'/\
     ExtO an.objs (envOf G H loc ver w) (envOf G (an.heap x H) loc' ver' w')/\Same (gC c) a a'/\Marked (envOf G H loc ver w) (envOf G (an.heap x H) loc' ver' w') a.defers a'.defers)
    ⟨_,x0,_,_,rfl,hx0.pre,hI0,hT0,hx00,.refl _ _,hm00⟩ ?_
   rintro k a1 w1 ⟨x,loc1,ver1,rfl,hp,hI1,hT1,hx1,hs1,hd1⟩;have hr:=hvc.round x hp;rw[nX,qB] at hr;refine wpIn_mono (ih key hF hI1 hT1 (hRo.ext hx1) hr) ?_;rintro e a' w' ⟨l',H',loc',ver',h1,h2,h3,h4,h5,h6⟩;cases e with
   | normal=>
    obtain ⟨x',hlt,hx'⟩:=h1;obtain ⟨loc2,ver2,hI2,hT2,hx2,hm2⟩:=arrS h2 h3 ((hx1.mono (Hm _ _)).trans (h4.mono (yL _ _))) (hs1.trans h5) (hd1.trans hx1.size h4 h6) hx';have hpre:an.pre x':=by
     unfold Dh at hx';split at hx'
     ·exact hx'.pre
     split at hx'
     ·obtain ⟨_,hx'⟩:=bA hx';rw[nX,qB] at hx';exact hx'.pre
     cases hx'
    exact ⟨an.mu x',hlt,x',loc2,ver2,rfl,hpre,hI2,hT2,hx2,hs1.trans h5,hm2⟩
   | _=>exact ⟨l',H',loc',ver',h1,h2,h3,(hx1.mono hO).trans (h4.mono hD),hs1.trans h5,hd1.trans hx1.size h4 h6⟩
 | rangeFunc f ps x y ihx ihy=>exact fun key=>Vn hY hΓ ihx ihy key
 | scope c ih=>intro key F n hF H loc ver w l a K hI hT hRo h;cases h
 | goto m=>intro key F n hF H loc ver w l a K hI hT hRo h;cases h
 | refuse s=>intro key F n hF H loc ver w l a K hI hT hRo h;cases h
end
end Go.Eng
end

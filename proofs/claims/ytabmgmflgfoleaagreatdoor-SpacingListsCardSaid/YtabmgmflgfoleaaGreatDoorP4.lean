/-
  Part 4: a symbolic executor over the model, contracts of functions and plain laws.
-/
import Derived.Test.YtabmgmflgfoleaaGreatDoorP3
import Derived.RangeFuncLeaves
import Derived.SizedLaws
import Derived.OpenShut
import Derived.DataReads
import Derived.Below
import Derived.Lib.ItoaNum
import Derived.Test.YtabmgmflgfoleaaGreatDoorProg
import Derived.Shelf.Abstract
import Derived.Shelf.Strconv.Itoa3
import Derived.Shelf.Strconv.AtoiAll
import Derived.Shelf.Strings.Repeat
import Derived.Shelf.Strings.SlTrimAscii
import Derived.Shelf.Strings.Search3
import Derived.Shelf.Strings.Builder1
import Derived.Lib.SmallJoins
import Derived.Lib.AtoiAllCases
import Derived.Lib.AppendIntMem
section
set_option linter.unusedVariables false
set_option linter.unusedSimpArgs false
set_option linter.unusedVariables false
namespace Go.Eng
open Go.RowKit
section
variable {P:Program} {G:Ctx} {H:List HO} {loc:Nat→Loc} {ver:Nat→Nat} {w:World} {N:Nat}
theorem wP:∀(args:List SV) (n t:Nat),look (pD args n) t=if n≤t then args.getD (t-n) .any else .any
 | [],n,t=>by simp[pD,look]
 | x::r,n,t=>by
  simp only[pD,look]
  by_cases e:n=t
  ·subst e;simp[cC]
  ·rw[dV e]
   simp only[cond_false]
   rw[wP r (n+1) t]
   by_cases h:n≤t
   ·rw[if_pos h,if_pos (by omega)]
    obtain ⟨k,rfl⟩:∃k,t=n+1+k:=⟨t-(n+1),by omega⟩
    rw[show n+1+k-(n+1)=k by omega,show n+1+k-n=k+1 by omega]
    rfl
   ·rw[if_neg h,if_neg (by omega)]
theorem kW {E:Env} {args:List SV} {vs:List Value} (h:RelL E args vs) (hn:args.length≤N):TRel E N (pD args 0) { tmps:=⟨vs⟩++Array.replicate (N-(⟨vs⟩:Array Value).size) undef,defers:=[] }:=by
 have hl:=h.length
 refine ⟨by simp;omega,fun t=>?_⟩
 rw[wP,if_pos (Nat.zero_le _),Nat.sub_zero]
 by_cases ht:t<args.length
 ·have:=h.get t ht
  have e:(⟨vs⟩++Array.replicate (N-(⟨vs⟩:Array Value).size) undef:Array Value).getD t undef=vs.getD t undef:=by
   rw[Array.getD_eq_getD_getElem?,Array.getElem?_append_left (by simp;omega),List.getD_eq_getElem?_getD]
   simp
  rw[e];exact this
 ·have:args.getD t .any= .any:=by simp[List.getD_eq_getElem?_getD,List.getElem?_eq_none (Nat.le_of_not_lt ht)]
  rw[this];exact .any _
def ctx0 (w:World) (ok:Nat→Prop) (hok:∀b,ok b→b<w.heap.size):Ctx:=⟨w,ok,fun _=>False,fun _ _ h=>h,hok,itr0,Nat.zero_le _⟩
theorem aAa (ok:Nat→Prop) (hok:∀b,ok b→b<w.heap.size):Inv (ctx0 w ok hok) [] (fun _=>mkL none 0 0) (fun _=>0) w:=by
 refine ⟨Nat.le_refl _,rfl,rfl,rfl,fun _ _ _=>rfl,fun nm o h=>by simp at h,fun b hb=>?_,fun nm nm' o o' b h=>by simp at h⟩
 obtain ⟨nm,o,h,_⟩:=hb
 simp at h
theorem Inv.book (hI:Inv G H loc ver w) {D:Nat} {o:Obj} {ds:Option (List Deferred)} (hD:w.heap[D]? =some (.deferred ds)) (h0:G.w0.heap.size≤D) (hn0:G.itr.n0≤D) (hal:¬aliN H loc D):Inv G H loc ver (w.putObj D o)∧∀s v,Rel (envOf G H loc ver w) s v→Rel (envOf G H loc ver (w.putObj D o)) s v:=by
 have hoth:∀b,b≠D→(w.putObj D o).heap[b]? =w.heap[b]? :=fun b hb=>World.putObj_heap_other hb
 have hcell:∀(a:Addr) (v:Value),w.cell? a=some v→(w.putObj D o).cell? a=some v:=by
  intro a v hv
  by_cases e:a.block=D
  ·rw[World.cell?,e,hD] at hv;cases hv
  ·exact (World.cell?_of_block (hoth _ e)).trans hv
 have hok:∀b,okN G H loc w b→okN G H loc (w.putObj D o) b:=fun b hb=>⟨hb.1,by simpa using hb.2.1,hb.2.2⟩
 have hcs:∀ {b:Nat} {c:Array Value} {e:TypeId} {f:Nat × Nat},w.heap[b]? =some (.cells c e f)→(w.putObj D o).heap[b]? =some (.cells c e f):=fun {b c e f} h=>
  (hoth b (fun e'=>by subst e';rw[hD] at h;cases h)).trans h
 have hmv:∀ {l:List SV} {vs:List Value},RelL (envOf G H loc ver w) l vs→RelL (envOf G H loc ver (w.putObj D o)) l vs:=fun h=>
  RelL.move (E:=envOf G H loc ver w) (E':=envOf G H loc ver (w.putObj D o)) (p:=hasB H) (fun nm _ hn=>⟨hn,.inl ⟨rfl,rfl⟩⟩) (fun _ _ _ _=>.inl rfl) (fun _=>rfl) (fun b _ _ _ _ h=>hcs h) hok h h.under
 refine ⟨?_,fun s v h=>Rel.move (E:=envOf G H loc ver w) (E':=envOf G H loc ver (w.putObj D o)) (p:=hasB H) (fun nm _ hn=>⟨hn,.inl ⟨rfl,rfl⟩⟩) (fun _ _ _ _=>.inl rfl) (fun _=>rfl) (fun b _ _ _ _ h=>hcs h) hok h h.under⟩
 refine ⟨by simpa using hI.size,hI.os,hI.tape,hI.output,fun b hb hm=>(hoth b (by omega)).trans (hI.frame b hb hm),fun nm x hx=>?_,hI.own,hI.sep⟩
 have hO:=hI.objs nm x hx
 cases x with
 | dead=>trivial
 | res=>trivial
 | fro k t xs=>obtain ⟨h1,h2,h3⟩:=hO;exact ⟨h1,h2,h3.mono (fun a v _ hv=>hcell a v hv) hok⟩
 | frc l=>obtain ⟨h1,b,vs,e,h2,h3,h4,h5⟩:=hO;exact ⟨h1,b,vs,e,h2,hok b h3,hcs h4,hmv h5⟩
 | cells l e=>obtain ⟨h1,b,vs,h2,h3,h4⟩:=hO;exact ⟨h1,b,vs,h2,hcs h3,hmv h4⟩
 | vec k t xs e=>
  obtain ⟨h1,h2,h3,h4,vs,h5,h6⟩:=hO
  refine ⟨h1,h2,h3,h4,vs,⟨h5.1,?_⟩,fun i hi=>(h6 i hi).mono (fun a v _ hv=>hcell a v hv) hok⟩
  rcases h5.2 with h7 | ⟨g,cap,cur,h7,h8,h9,h10⟩
  ·exact .inl h7
  ·exact .inr ⟨g,cap,cur,h7,h8,hcs h9,h10⟩
 | gone=>exact ⟨hO.1,fun b hb=>by simpa [envOf] using hO.2 b hb⟩
 | lnt k t xs=>
  obtain ⟨h1,h2,h3,h4,h5⟩:=hO
  refine ⟨h1,h2,h3,fun b x hb=>⟨(h4 b x hb).1,(hoth b fun e'=>?_).trans (h4 b x hb).2⟩,h5.mono (fun a v _ hv=>hcell a v hv) fun _ h=>h⟩
  obtain ⟨k1,k2⟩:=h4 b x hb
  subst e'
  have k2:w.heap[b]? =some x:=k2
  rw[hD] at k2;cases k2
  cases k1
 | map k t m=>
  obtain ⟨h1,h2,h3,b,es,h4,h5,h6⟩:=hO
  exact ⟨h1,h2,h3,b,es,h4,(hoth b (fun e'=>by subst e';have h5:w.heap[b]? = _:=h5;rw[hD] at h5;cases h5)).trans h5,h6.mono (fun a v _ hv=>hcell a v hv) hok⟩
 | vv k s t xss pend eo ei=>
  obtain ⟨h1,h2,h3,h4,h5,⟨vs,h6,h7⟩,h8,h9⟩:=hO
  have hnD:∀b,(b=D)→∀ {c:Array Value} {e:TypeId},w.heap[b]? ≠some (.cells c e (0,0)):=fun b e' c e h=>by subst e';rw[hD] at h;cases h
  have hkeep:∀ {base:Nat} {e:TypeId} {size n:Nat} {v:Value} {vs:List Value},w.ownsR base e size v n vs→(w.putObj D o).ownsR base e size v n vs:=fun {base e size n v vs} h=>by
   refine ⟨h.1,?_⟩
   rcases h.2 with h5 | ⟨g,cap,cur,h5,h6,h7,h8⟩
   ·exact .inl h5
   ·exact .inr ⟨g,cap,cur,h5,h6,hcs h7,h8⟩
  have hrow:∀ {al:Nat→Prop} {h:Value} {xs:List t.T},RowAt (envOf G H loc ver w) al t ei h xs→RowAt (envOf G H loc ver (w.putObj D o)) al t ei h xs:=fun ⟨vs,q1,q2,q3⟩=>⟨vs,hkeep q1,q2,fun i hi=>(q3 i hi).mono (fun a v _ hv=>hcell a v hv) hok⟩
  refine ⟨h1,h2,h3,h4,h5,⟨vs,hkeep h6,h7⟩,fun b hb=>?_,⟨h9.flat,fun i hi hp=>hrow (h9.row i hi hp),h9.apart,fun j ys hp=>by obtain ⟨q1,q2,q3⟩:=h9.grown j ys hp;exact ⟨q1,hrow q2,q3⟩,h9.short⟩⟩
  obtain ⟨q1,q2,c,e,q3⟩:=h8 b hb
  exact ⟨by simpa [envOf] using q1,q2,c,e,hcs q3⟩
 | mit m s l c=>
  obtain ⟨h1,h2,r,bm,h3,h4,h5⟩:=hO
  exact ⟨h1,h2,r,bm,h3,(hoth r (fun e'=>by subst e';have h4:w.heap[r]? = _:=h4;rw[hD] at h4;cases h4)).trans h4,h5⟩
 | yst st n it=>
  obtain ⟨h1,h2,h3,h4,h5,h6,h7⟩:=hO
  have hnal:¬(loc nm).al D:=fun h=>hal ⟨nm,_,_,_,hx,h⟩
  have hDs:=(Array.getElem?_eq_some_iff.1 hD).1
  refine ⟨h1,fun b hb=>by simpa [envOf] using h2 b hb,by simpa [envOf] using h3,h4,h5,fun b hb hl=>⟨(h6 b hb hl).1,hok b (h6 b hb hl).2⟩,?_⟩
  have:=G.itr.abides st _ w (w.putObj D o) h7 rfl rfl rfl (by simp) fun b hb hm=>hoth b fun e=>hm (by subst e;exact ⟨hn0,hDs,hnal⟩)
  refine cast (congrArg (fun M=>G.itr.J st M (w.putObj D o)) (funext fun b=>propext ⟨?_,?_⟩)) this
  ·rintro (⟨h8,h9,h10⟩ | ⟨h8,h9⟩)
   ·exact ⟨h8,by simpa [envOf] using h9,h10⟩
   ·exfalso;simp at h9;omega
  ·rintro ⟨h8,h9,h10⟩
   exact .inl ⟨h8,by simpa [envOf] using h9,h10⟩
def sF (a:Act):ResultVar→Sem Value
 | .tmp t=>pure (a.tmps.getD t undef)
 | .cell c t=>do loadVar t (← asAddr (a.tmps.getD c undef))
theorem nJ (hI:Inv G H loc ver w) {l:List (Nat × SV)} {a:Act} (hT:TRel (envOf G H loc ver w) N l a):∀ {rs:List ResultVar} {vs:List SV},mY P l H rs=some vs→
  ∃us:List Value,(rs.mapM (sF a)).run P w= .ok us w∧RelL (envOf G H loc ver w) vs us
 | [],vs,h=>by simp[mY] at h;subst h;exact ⟨[],by simp[List.mapM_nil],.nil⟩
 | .tmp t::r,vs,h=>by
  simp only[mY] at h
  split at h
  ·rename_i vs' h'
   cases h
   obtain ⟨us,h1,h2⟩:=nJ hI hT h'
   refine ⟨a.tmps.getD t undef::us,?_,.cons _ _ _ _ (hT.rel t) h2⟩
   rw[List.mapM_cons]
   simp only[sF,Sem.run_bind,Sem.run_pure,Result.andThen_ok,h1]
  ·cases h
 | .cell c t::r,vs,h=>by
  simp only[mY] at h
  split at h
  ·rename_i nm off ag sz vs' hl ha hz h'
   obtain ⟨us,h1,h2⟩:=nJ hI hT h'
   have hr:=hT.rel c
   rw[hl] at hr
   cases ho:hget H nm with
   | cells cs e=>
    rw[ho] at h
    simp only at h
    obtain ⟨b,hb,hv⟩:=kT hI hr (by simp[live,ho])
    obtain ⟨h0,b',ws,h3,h4,h5⟩:=hI.objs nm _ (aG ho (by simp))
    rw[hb] at h3;cases h3
    have h4':w.heap[b]? =some (.cells ⟨ws⟩ e (0,0)):=h4
    have key:∀s,fI ag off sz cs (fun x=>x=s)→∃u,(loadVar t ⟨b,off,none⟩).run P w= .ok u w∧Rel (envOf G H loc ver w) s u:=by
     intro s hs
     obtain ⟨u,s',h6,h7,h8⟩:=fD (P:=P) (E:=envOf G H loc ver w) (base:=0) (b:=b) hs ha hz h5 (fun j v hj=>by simp[envOf,World.cell?,h4',hj])
     subst h7
     refine ⟨u,?_,h8⟩
     have h6':(Instr.loadAt t (.pointer (some ⟨b,0+off,none⟩))).run P w= .ok u w:=h6
     simpa [Instr.loadAt,Instr.sureAddr] using h6'
    have fin:∀s,fI ag off sz cs (fun x=>x=s)→vs=s::vs'→∃us:List Value,((ResultVar.cell c t::r).mapM (sF a)).run P w= .ok us w∧RelL (envOf G H loc ver w) vs us:=by
     intro s hs e
     subst e
     obtain ⟨u,h6,h7⟩:=key s hs
     refine ⟨u::us,?_,.cons _ _ _ _ h7 h2⟩
     rw[List.mapM_cons]
     simp only[sF,Sem.run_bind,hv,asAddr,Sem.run_pure,Result.andThen_ok,h6,h1]
    cases ag with
    | true=>
     simp only at h
     cases hb2:Nat.ble (off+sz) cs.length with
     | true=>
      rw[hb2] at h
      simp only[cond_true] at h
      cases h
      exact fin _ (by simp[fI,hb2,aN]) rfl
     | false=>rw[hb2] at h;cases h
    | false=>
     simp only at h
     cases hb2:Nat.blt off cs.length with
     | true=>
      rw[hb2] at h
      simp only[cond_true] at h
      cases h
      exact fin _ (by simp[fI,hb2,dF]) rfl
     | false=>rw[hb2] at h;cases h
   | _=>rw[ho] at h;cases h
  ·cases h
theorem aKo {E:Env} {vs:List SV} {us:List Value} (h:RelL E vs us):Rel E (pC vs) (if h:(us.toArray).size=1 then us.toArray[0] else .tuple us.toArray):=by
 cases h with
 | nil=>exact .tup _ _ .nil
 | cons s v l us h hl=>
  cases hl with
  | nil=>exact h
  | cons s' v' l' us' h' hl'=>
   have:¬((v::v'::us').toArray.size=1):=by simp
   rw[dif_neg this]
   exact .tup _ _ (.cons _ _ _ _ h (.cons _ _ _ _ h' hl'))
theorem eF (hI:Inv G H loc ver w) {l:List (Nat × SV)} {a:Act} (hT:TRel (envOf G H loc ver w) N l a) {fn:Func} {vs:List SV} (h:mY P l H fn.results.toList=some vs):
  ∃v,(results fn a.tmps).run P w= .ok v w∧Rel (envOf G H loc ver w) (pC vs) v:=by
 obtain ⟨us,h1,h2⟩:=nJ (P:=P) hI hT h
 refine ⟨_,?_,aKo h2⟩
 have hm:(fn.results.mapM (sF a)).run P w= .ok us.toArray w:=by
  rw[Array.mapM_eq_mapM_toList]
  simp only[Sem.run_map,h1,Result.andThen_ok]
 have e:results fn a.tmps=(do
   let vs ← fn.results.mapM (sF a)
   pure (if h:vs.size=1 then vs[0] else .tuple vs)):=by
  unfold results
  congr 1
 rw[e,Sem.run_bind,hm]
 rfl
theorem Reads.flat {w:World} {ok ok':Nat→Prop} {t:Ty} (ht:t.flat=true) {x:t.T} {cs:List Value} (h:Reads w ok t x cs):Reads w ok' t x cs:=by
 induction t generalizing cs with
 | int k=>exact h
 | bool=>exact h
 | str=>exact h
 | slice t _=>cases ht
 | pair a b iha ihb=>
  simp only[Ty.flat,Bool.and_eq_true] at ht
  obtain ⟨c1,c2,e,h1,h2⟩:=h
  exact ⟨c1,c2,e,iha ht.1 h1,ihb ht.2 h2⟩
theorem sG (hG:∀b,¬G.mine b) (hI:Inv G H loc ver w) {s:SV} {v:Value} (h:Rel (envOf G H loc ver w) s v):Rel (env0 w fun b=>G.w0.heap.size≤b∧b<w.heap.size) (qP H s) v:=by
 cases h with
 | ref nm k v hn h0 hk hv=>
  simp only[qP]
  cases ho:hget H nm with
  | vec j t xs e=>
   simp only
   cases hb:(Nat.beq j k&&t.flat) with
   | false=>exact .any v
   | true=>
    obtain ⟨h1,h2⟩:=and2 hb
    obtain rfl:=aL.1 h1
    have hn':=aG ho (by simp)
    have hO:=hI.objs nm _ hn'
    have:=hv hO.1.symm
    subst this
    obtain ⟨_,_,hlen,hmax,vs,hown,hel⟩:=hO
    refine .seq t xs _ ?_
    rcases aR hown with ⟨e1,e2,e3,e4⟩ | ⟨g,cur,e1,e2,e3,e4,e5,e6,e7⟩
    ·exact ⟨none,0,0,by simp[Core.head,envOf,e1,e2,e3],by omega,Nat.le_refl _,Nat.zero_le _,fun h=>absurd h (Nat.lt_irrefl _)⟩
    ·have hgg:Owned H loc g:=⟨nm,_,hn',by simp[Owns,e1]⟩
     have hg1:G.w0.heap.size≤g:=by
      rcases hI.own g hgg with h | h
      ·exact (hG g h).elim
      ·exact h
     have hg2:g<w.heap.size:=(Array.getElem?_eq_some_iff.1 e3).1
     refine ⟨some ⟨g,0,none⟩,(loc nm).len,(loc nm).cap,by simp[Core.head,envOf,e1],hlen,e4,hmax,fun h0=>⟨g,0,rfl,⟨hg1,hg2⟩,fun i hi=>⟨_,(hel i hi).length,?_,(hel i hi).flat h2⟩⟩⟩
     intro j v hj
     rw[List.getElem?_take] at hj
     split at hj
     ·rw[List.getElem?_drop,← e7,List.getElem?_take] at hj
      split at hj
      ·have e3':w.heap[g]? =some (.cells cur _ (0,0)):=e3
       simp only[env0,World.cell?,e3']
       simpa using hj
      ·cases hj
     ·cases hj
  | vv j s t xss pd eo ei=>
   cases pd with
   | some p=>exact .any v
   | none=>
   cases hb:Nat.beq j k with
   | false=>simp only[hb,cond_false];exact .any v
   | true=>
    simp only[hb,cond_true]
    obtain rfl:=aL.1 hb
    have hn':=aG ho (by simp)
    have hO:=hI.objs nm _ hn'
    have:=hv hO.1.symm
    subst this
    obtain ⟨_,_,_,hlen,hmax,⟨vs,hown,hel⟩,hal,hrows⟩:=hO
    have hge:∀b,Owns (loc nm) (.vv j s t xss none eo ei) b→G.w0.heap.size≤b:=fun b hb=>by
     rcases hI.own b ⟨nm,_,hn',hb⟩ with h | h
     ·exact (hG b h).elim
     ·exact h
    refine .seq (.slice t) xss _ ?_
    rcases aR hown with ⟨e1,e2,e3,e4⟩ | ⟨g,cur,e1,e2,e3,e4,e5,e6,e7⟩
    ·exact ⟨none,0,0,by simp[Core.head,envOf,e1,e2,e3],by omega,Nat.le_refl _,Nat.zero_le _,fun h=>absurd h (Nat.lt_irrefl _)⟩
    ·have hg1:G.w0.heap.size≤g:=hge g (.inl (by simp[e1]))
     have hg2:g<w.heap.size:=(Array.getElem?_eq_some_iff.1 e3).1
     refine ⟨some ⟨g,0,none⟩,(loc nm).len,(loc nm).cap,by simp[Core.head,envOf,e1],hlen,e4,hmax,fun h0=>⟨g,0,rfl,⟨hg1,hg2⟩,fun i hi=>⟨[(loc nm).sub.rows i],rfl,?_,?_⟩⟩⟩
     ·intro q v hq
      have hq0:q=0:=by
       have:=(List.getElem?_eq_some_iff.1 hq).1
       simpa using this
      subst hq0
      have h1:=hel i hi
      rw[← e7,List.getElem?_take] at h1
      split at h1
      ·have e3':w.heap[g]? =some (.cells cur _ (0,0)):=e3
       simp only[env0,World.cell?,e3']
       simp only[List.getElem?_cons_zero,Option.some.injEq] at hq
       subst hq
       simpa [Ty.size] using h1
      ·cases h1
     ·have hi':i<xss.length:=by rw[← hlen];exact hi
      obtain ⟨rs,r1,r2,r3⟩:=hrows.row i hi' (fun _ _ hp=>by cases hp)
      have hsh:=hrows.short i hi'
      show Reads w _ (.slice t) (xss.getD i []) _
      rcases r1.2 with ⟨f1,f2⟩ | ⟨g',cap,cur',f1,_,f3,f4,f5,f6,f7⟩
      ·have hl0:(xss.getD i []).length=0:=f2
       exact ⟨none,0,0,by rw[f1],hl0.symm,Nat.le_refl _,Nat.zero_le _,fun h=>absurd h (Nat.lt_irrefl _)⟩
      ·have hgo:(loc nm).al g':=r2 g' (by rw[f1];rfl)
       have hg1':G.w0.heap.size≤g':=hge g' (.inr hgo)
       have f3:w.heap[g']? =some (.cells cur' ei (0,0)):=f3
       have hg2':g'<w.heap.size:=(Array.getElem?_eq_some_iff.1 f3).1
       refine ⟨some ⟨g',0,none⟩,(xss.getD i []).length,cap,by rw[f1],rfl,f4,hsh,fun h0=>⟨g',0,rfl,⟨hg1',hg2'⟩,fun m hm=>⟨_,(r3 m hm).length,?_,(r3 m hm).flat hrows.flat⟩⟩⟩
       intro q v hq
       rw[List.getElem?_take] at hq
       split at hq
       ·rw[List.getElem?_drop,← f7,List.getElem?_take] at hq
        split at hq
        ·simp only[env0,World.cell?,f3]
         simpa using hq
        ·cases hq
       ·cases hq
  | _=>exact .any v
 | val _ h=>exact .val v h
 | bl p d=>exact .bl p d
 | str s h=>exact .str s h
 | ifc _ h=>exact .ifc v h
 | _=>exact .any _
theorem pX (hG:∀b,¬G.mine b) (hI:Inv G H loc ver w):∀ {l:List SV} {vs:List Value},RelL (envOf G H loc ver w) l vs→RelL (env0 w fun b=>G.w0.heap.size≤b∧b<w.heap.size) (l.map (qP H)) vs
 | _,_,.nil=>.nil
 | _,_,.cons _ _ _ _ h hl=>.cons _ _ _ _ (sG hG hI h) (pX hG hI hl)
theorem wQ (hG:∀b,¬G.mine b) (hI:Inv G H loc ver w):∀ {l:List SV} {vs:List Value},RelL (envOf G H loc ver w) l vs→RelL (env0 w fun b=>G.w0.heap.size≤b∧b<w.heap.size) (l.map fun s=>match s with
   | .agg l=>.agg (l.map (qP H))
   | s=>qP H s) vs
 | _,_,.nil=>.nil
 | _,_,.cons s _ _ _ h hl=>by
  refine .cons _ _ _ _ ?_ (wQ hG hI hl)
  cases s with
  | agg l=>cases h with
   | agg _ vs hl=>exact .agg _ _ (pX hG hI hl)
  | _=>exact sG hG hI h
theorem aGs (hG:∀b,¬G.mine b) (hI:Inv G H loc ver w) {s:SV} {v:Value} (h:Rel (envOf G H loc ver w) s v):Rel (env0 w fun b=>G.w0.heap.size≤b∧b<w.heap.size) (aL7 H s) v:=by
 cases s with
 | agg l=>cases h with
  | agg _ vs hl=>exact .agg _ _ (pX hG hI hl)
 | tup l=>cases h with
  | tup _ vs hl=>exact .tup _ _ (wQ hG hI hl)
 | _=>exact sG hG hI h
end
section
variable {P:Program}
theorem iY {G:Ctx} {fn:Func} {tmps:Array Value} {R:Ending→World→Prop} {H:List HO} {loc:Nat→Loc} {ver:Nat→Nat}:∀(Ds:List Nat) {w:World},Inv G H loc ver w→Ds.Nodup→
  (∀D∈Ds,G.w0.heap.size≤D∧G.itr.n0≤D∧¬aliN H loc D∧w.heap[D]? =some (.deferred (some [])))→
  (∀w',Inv G H loc ver w'→(∀s v,Rel (envOf G H loc ver w) s v→Rel (envOf G H loc ver w') s v)→∃v,(results fn tmps).run P w'= .ok v w'∧R (.returned v) w')→LeavesInM Fence.wide 0 P fn tmps R (Ds.map pW) .returning w
 | [],w,hI,_,_,hR=>by
  obtain ⟨v,h1,h2⟩:=hR w hI fun _ _ h=>h
  exact ⟨v,h1,h2⟩
 | D::Ds,w,hI,hnd,hD,hR=>by
  obtain ⟨h1,h2,h3,h4⟩:=hD D (List.mem_cons_self ..)
  refine ⟨by simp,.inl ⟨D,_,rfl,run_takeDeferred h4,?_⟩⟩
  have hnd':=List.nodup_cons.1 hnd
  have hbk:=hI.book (o:=.deferred none) h4 h1 h2 h3
  refine iY Ds hbk.1 hnd'.2 (fun D' hD'=>?_) fun w' h5 h6=>hR w' h5 fun s v h=>h6 s v (hbk.2 s v h)
  obtain ⟨k1,k2,k3,k4⟩:=hD D' (List.mem_cons_of_mem _ hD')
  exact ⟨k1,k2,k3,(World.putObj_heap_other (fun e=>hnd'.1 (by rw[← e];exact hD'))).trans k4⟩
theorem qZ {G:Ctx} {fn:Func} {tmps:Array Value} {R:Ending→World→Prop} {H:List HO} {loc:Nat→Loc} {ver:Nat→Nat}:∀(Ds:List Nat) {w:World},Inv G H loc ver w→Ds.Nodup→
  (∀D∈Ds,G.w0.heap.size≤D∧G.itr.n0≤D∧¬aliN H loc D∧w.heap[D]? =some (.deferred (some [])))→
  (∀w',Inv G H loc ver w'→(∀s v,Rel (envOf G H loc ver w) s v→Rel (envOf G H loc ver w') s v)→w'.heap.size=w.heap.size→(∀b,¬b∈Ds→w'.heap[b]? =w.heap[b]?)→∃v,(results fn tmps).run P w'= .ok v w'∧R (.returned v) w')→LeavesInM Fence.wide 0 P fn tmps R (Ds.map pW) .returning w
 | [],w,hI,_,_,hR=>by
  obtain ⟨v,h1,h2⟩:=hR w hI (fun _ _ h=>h) rfl fun _ _=>rfl
  exact ⟨v,h1,h2⟩
 | D::Ds,w,hI,hnd,hD,hR=>by
  obtain ⟨h1,h2,h3,h4⟩:=hD D (List.mem_cons_self ..)
  refine ⟨by simp,.inl ⟨D,_,rfl,run_takeDeferred h4,?_⟩⟩
  have hnd':=List.nodup_cons.1 hnd
  have hbk:=hI.book (o:=.deferred none) h4 h1 h2 h3
  refine qZ Ds hbk.1 hnd'.2 (fun D' hD'=>?_) fun w' h5 h6 h7 h8=>hR w' h5 (fun s v h=>h6 s v (hbk.2 s v h)) (by rw[h7];simp) fun b hb=>?_
  ·obtain ⟨k1,k2,k3,k4⟩:=hD D' (List.mem_cons_of_mem _ hD')
   exact ⟨k1,k2,k3,(World.putObj_heap_other (fun e=>hnd'.1 (by rw[← e];exact hD'))).trans k4⟩
  ·exact (h8 b fun h=>hb (List.mem_cons_of_mem _ h)).trans (World.putObj_heap_other fun e=>hb (by subst e;exact List.mem_cons_self ..))
theorem ExtO.late {G:Ctx} {D:List Nat} {H0 H:List HO} {loc0 loc:Nat→Loc} {ver0 ver:Nat→Nat} {w0 w w':World} (hI0:Inv G H0 loc0 ver0 w0) (hx:ExtO D (envOf G H0 loc0 ver0 w0) (envOf G H loc ver w)) (hs:w'.heap.size=w.heap.size)
  (hb:∀b,b<w0.heap.size→w'.heap[b]? =w.heap[b]?):ExtO D (envOf G H0 loc0 ver0 w0) (envOf G H loc ver w'):=by
 refine ⟨fun b ho=>(hb b ho.2.1).trans (hx.blk b ho),fun b ho=>?_,hx.num,hx.ver,by have:=hx.size;show w0.heap.size≤w'.heap.size;rw[hs];exact this,fun k o hna hk ho=>(hb k (Array.getElem?_eq_some_iff.1 hk).1).trans (hx.keep k o hna hk ho),fun nm b hg=>?_,hx.gho',hx.ali,hx.itr,hx.sub⟩
 ·obtain ⟨h1,h2,h3⟩:=hx.ok b ho
  exact ⟨h1,by have h2':b<w.heap.size:=h2;show b<w'.heap.size;omega,h3⟩
 ·obtain ⟨h1,h2⟩:=hx.gho nm b hg
  exact ⟨h1,(hb b ((hI0.objs nm _ hg.1).2 b hg.2)).trans h2⟩
theorem ExtO.ext {D:List Nat} {G:Ctx} {H0 H:List HO} {loc0 loc:Nat→Loc} {ver0 ver:Nat→Nat} {w0 w:World} (hI0:Inv G H0 loc0 ver0 w0) (hI:Inv G H loc ver w) (hx:ExtO D (envOf G H0 loc0 ver0 w0) (envOf G H loc ver w)) (hD:∀nm,hasB H0 nm=true→mem nm D=false):Ext (envOf G H0 loc0 ver0 w0) (envOf G H loc ver w):=
 ⟨⟨hx.blk,hx.ok,hx.num,fun nm hn=>hx.ver nm hn (hD nm hn),hI.os.trans hI0.os.symm,hI.tape.trans hI0.tape.symm,hI.output.trans hI0.output.symm,hx.size,hx.ali,hx.itr,fun nm hn he=>hx.sub nm hn (hD nm hn) he⟩,hx.keep,hx.gho,hx.gho'⟩
theorem lW {Γ:List Con} (hΓ:∀c∈Γ,aF P c) {A:Anns} {f:FuncId} {fn:Func} (hf:P.funcs[f]? =some fn) {args:List SV} {H:List HO} {R:SV→List HO→Prop} (hn:args.length≤fn.ntmps) (h:aDl P Γ A fn args H R):HTri P f args H R:=by
 intro G loc ver w vs hY hI hr
 unfold aDl at h
 cases hc:fn.body with
 | none=>rw[hc] at h;exact h.elim
 | some c=>
  rw[hc] at h
  obtain ⟨hwi,h⟩:=h
  refine (callsIn_wide (n:=0)).1 (callsIn_of_wp_marks hf hc trivial ?_)
  have hT:=kW (N:=fn.ntmps) hr hn
  refine wpIn_mono (jY hY hΓ c 0 (F:=Fence.wide) (n:=0) ⟨none,rfl⟩ hI hT (fun l hl=>by cases hl) h) ?_
  rintro e a' w' ⟨l',H',loc',ver',h1,h2,h3,h4,h5,Ds,h6,h7,h8⟩
  have hend:finH.endH P fn.results.toList R H l' H'→LeavesInM Fence.wide 0 P fn a'.tmps (fun e w'=>∃v,e= .returned v∧Res G (envOf G H loc ver w) R v w') a'.defers .returning w':=by
   intro he
   rw[h6,List.append_nil]
   refine qZ Ds h2 h7 (fun D hD=>⟨Nat.le_trans hI.size (h8 D hD).1,Nat.le_trans (Nat.le_trans G.low hI.size) (h8 D hD).1,(h8 D hD).2.1,(h8 D hD).2.2⟩) fun w2 h9 h10 h11 h12=>?_
   unfold finH.endH at he
   split at he
   case h_2=>exact he.elim
   rename_i us hu
   obtain ⟨s,H2,hR,hp,hent,hlen,hgo,hH⟩:=he
   have hT2:TRel (envOf G H' loc' ver' w2) fn.ntmps l' a':=⟨h3.size,fun t=>h10 _ _ (h3.rel t)⟩
   obtain ⟨v,k1,k2⟩:=eF (P:=P) h9 hT2 hu
   have hS:EntS [] H' H2 H.length:=gA hH
   obtain ⟨hI2,hok2⟩:=lU h9 (by omega) hS
   have hxl:=ExtO.late hI h4 h11 fun b hb=>h12 b fun hm=>by have h13:w.heap.size≤b:=(h8 b hm).1;omega
   have hx2:=lV hxl (by omega) (fun nm hnm=>jX hgo hnm) hwi hS hok2
   refine ⟨v,k1,v,rfl,s,H2,loc',_,hR,hI2,?_,ExtO.ext hI hI2 hx2 fun _ _=>rfl⟩
   exact Rel.plain (eE hent k2) hp
  cases e with
  | normal=>exact hend h1
  | ret=>exact hend h1
  | _=>exact h1.elim
theorem wR {ok:Nat→Prop} {w0:World} {hok:∀b,ok b→b<w0.heap.size} {H:List HO} {loc:Nat→Loc} {ver:Nat→Nat} {w:World} {N:Nat} {l:List (Nat × SV)} {a:Act} {fn:Func} {fresh:Bool} {r:SV}
  (hI:Inv (ctx0 w0 ok hok) H loc ver w) (hT:TRel (envOf (ctx0 w0 ok hok) H loc ver w) N l a) (hb:bare r=true) (h:finV P fresh fn.results.toList r l H):
  ∃v,(results fn a.tmps).run P w= .ok v w∧Below w0.heap.size w0 w∧Rel (env0 w fun b=>(fresh=false∧ok b)∨(w0.heap.size≤b∧b<w.heap.size)) r v:=by
 have hbel:Below w0.heap.size w0 w:=⟨hI.os,hI.tape,hI.output,hI.size,fun b hb=>hI.frame b hb fun h=>h⟩
 unfold finV at h
 split at h
 case h_2=>exact h.elim
 rename_i vs hv
 obtain ⟨v,hr,hrel⟩:=eF (P:=P) hI hT hv
 refine ⟨v,hr,hbel,?_⟩
 cases fresh with
 | true=>
  simp only[cond_true] at h
  have h1:=eE h (aGs (fun _ h=>h) hI hrel)
  exact Rel.bare (E:=env0 w fun b=>w0.heap.size≤b∧b<w.heap.size) (E':=env0 w fun b=>(true=false∧ok b)∨(w0.heap.size≤b∧b<w.heap.size)) (fun _ _ _ _ _ h=>h) (fun b hb=>Or.inr hb) h1 hb
 | false=>
  simp only[cond_false,aN] at h
  obtain ⟨hI1,hx1⟩:=iS vs hI
  have h1:=zR (H:=cR H vs) (lend:=false) (Ext.refl _) (fun _ _ _ h=>nF hI1 h) (fun nm k v h=>fE hI1 h) (fun nm k i v _=>fK nm k i v) (hrel.ext hx1)
  have h2:=eE h h1
  refine Rel.bare (E:=envOf _ (cR H vs) loc ver w) (E':=env0 w _) (fun _ _ _ _ _ h=>h) (fun b hb=>?_) h2 hb
  rcases hb.1 with h3 | h3 | h3
  ·exact .inl ⟨rfl,h3⟩
  ·exact h3.elim
  ·exact .inr ⟨h3,hb.2.1⟩
theorem aA {Γ:List Con} (hΓ:∀c∈Γ,aF P c) {A:Anns} {fresh:Bool} {f:FuncId} {fn:Func} (hf:P.funcs[f]? =some fn) {args:List SV} {r:SV} (hn:args.length≤fn.ntmps) (hb:bare r=true) (h:body P Γ A fresh fn args r):Tri P fresh f args r:=by
 intro ok w vs hgw hok hr
 unfold body at h
 cases hc:fn.body with
 | none=>rw[hc] at h;exact h.elim
 | some c=>
  rw[hc] at h
  refine (callsIn_wide (n:=0)).1 (callsIn_of_wp_marks hf hc trivial ?_)
  have hI:=aAa ok hok
  have hr':RelL (envOf (ctx0 w ok hok) [] (fun _=>mkL none 0 0) (fun _=>0) w) args vs:=by
   refine RelL.move (E:=env0 w ok) (E':=envOf (ctx0 w ok hok) [] (fun _=>mkL none 0 0) (fun _=>0) w) (p:=fun m=>Nat.blt m 0) (fun nm hp _=>by simp at hp) (fun nm hp=>by simp at hp) (fun h=>by cases h) (fun _ _ _ _ _ h=>h) (fun b hb=>⟨.inl hb,hok b hb,fun ⟨nm,o,h,_⟩=>by simp at h⟩) hr hr.under
  have hT:=kW (N:=fn.ntmps) hr' hn
  have hY:COK P (ctx0 w ok hok):=⟨(fun k M W us hk=>by cases hk),hgw⟩
  refine wpIn_mono (jY hY hΓ c 0 (F:=Fence.wide) (n:=0) ⟨none,rfl⟩ hI hT (fun l hl=>by cases hl) h) ?_
  rintro e a' w' ⟨l',H',loc',ver',h1,h2,h3,h4,h5,Ds,h6,h7,h8⟩
  have hend:∀ {R:Ending→World→Prop},(∀w2,Inv (ctx0 w ok hok) H' loc' ver' w2→TRel (envOf (ctx0 w ok hok) H' loc' ver' w2) fn.ntmps l' a'→∃v,(results fn a'.tmps).run P w2= .ok v w2∧R (.returned v) w2)→LeavesInM Fence.wide 0 P fn a'.tmps R a'.defers .returning w':=by
   intro R hR
   rw[h6,List.append_nil]
   exact iY Ds h2 h7 (fun D hD=>⟨(h8 D hD).1,Nat.zero_le _,(h8 D hD).2.1,(h8 D hD).2.2⟩) fun w2 h9 h10=>hR w2 h9 ⟨h3.size,fun t=>h10 _ _ (h3.rel t)⟩
  cases e with
  | normal=>
   refine hend fun w2 h9 h10=>?_
   obtain ⟨v,k7,k8,k9⟩:=wR h9 h10 hb h1
   exact ⟨v,k7,v,rfl,k8,k9⟩
  | ret=>
   refine hend fun w2 h9 h10=>?_
   obtain ⟨v,k7,k8,k9⟩:=wR h9 h10 hb h1
   exact ⟨v,k7,v,rfl,k8,k9⟩
  | _=>exact h1.elim
theorem fF {Γ:List Con} (hΓ:∀c∈Γ,aF P c) {A:Anns} {f:FuncId} {fn:Func} (hf:P.funcs[f]? =some fn) {pos:Nat} {same:Bool} {args:List SV} {t:Ty} {xs:List t.T} {e:TypeId} {r:SV} {ys:List t.T} (hn:args.length≤fn.ntmps) (hfl:t.flat=true)
  (h:aDj P Γ A fn pos same args t xs e r ys):LTri P f pos same args t xs e r ys:=by
 intro ok w vs L hgw hok hblk hrow hr hpos
 unfold aDj at h
 cases hc:fn.body with
 | none=>rw[hc] at h;exact h.elim
 | some c=>
  rw[hc] at h
  refine (callsIn_wide (n:=0)).1 (callsIn_of_wp_marks hf hc trivial ?_)
  obtain ⟨G,hG⟩:∃G:Ctx,G= ⟨w,ok,fun b=>L.blk.map (·.1)=some b,fun b h1 h2=>(hok b h1).2 h2,fun b hb=>(hok b hb).1,itr0,Nat.zero_le _⟩:=⟨_,rfl⟩
  obtain ⟨r1,r2,rs,r3,r4⟩:=hrow
  have hown:∀b,Owned [HO.vec 1 t xs e] (fun _=>L) b→L.blk.map (·.1)=some b:=by
   rintro b ⟨nm,o,h1,h2⟩
   cases nm with
   | zero=>simp at h1;subst h1;exact h2
   | succ k=>simp at h1
  have hokn:∀b,ok b→okN G [HO.vec 1 t xs e] (fun _=>L) w b:=fun b hb=>⟨.inl (by rw[hG];exact hb),(hok b hb).1,fun ho=>(hok b hb).2 (hown b ho)⟩
  have hI:Inv G [HO.vec 1 t xs e] (fun _=>L) (fun _=>1) w:=by
   refine ⟨by rw[hG];exact Nat.le_refl _,by rw[hG],by rw[hG],by rw[hG],fun b _ _=>by rw[hG],fun nm o ho=>?_,fun b hb=>.inl (by rw[hG];exact hown b hb),fun nm nm' o o' b h1 h2 _ _=>?_⟩
   ·cases nm with
    | zero=>
     simp at ho;subst ho
     exact ⟨rfl,Nat.one_pos,r1,r2,rs,r3,fun i hi=>Reads.flatJ hfl (r4 i hi)⟩
    | succ k=>simp at ho
   ·cases nm with
    | zero=>cases nm' with
     | zero=>rfl
     | succ k=>simp at h2
    | succ k=>simp at h1
  have hr':RelL (envOf G [HO.vec 1 t xs e] (fun _=>L) (fun _=>1) w) args vs:=
   RelL.move (E:=env0 w ok) (E':=envOf G [HO.vec 1 t xs e] (fun _=>L) (fun _=>1) w) (p:=fun m=>Nat.blt m 0) (fun nm hp _=>by simp at hp) (fun nm hp=>by simp at hp) (fun h=>by cases h) (fun _ _ _ _ _ h=>h) hokn hr hr.under
  have hrs:RelL (envOf G [HO.vec 1 t xs e] (fun _=>L) (fun _=>1) w) (args.set pos (.ref 0 1)) vs:=by
   have hh:Rel (envOf G [HO.vec 1 t xs e] (fun _=>L) (fun _=>1) w) (.ref 0 1) L.head:=.ref 0 1 _ (by rfl) Nat.one_pos (Nat.le_refl _) fun _=>rfl
   have:=hr'.set pos hh
   obtain ⟨hlt,he⟩:=List.getElem?_eq_some_iff.1 hpos
   rwa [show vs.set pos L.head=vs from by rw[← he];exact List.set_getElem_self hlt] at this
  have hT:=kW (N:=fn.ntmps) hrs (by simpa using hn)
  have hY:COK P G:=by rw[hG];exact ⟨(fun k M W us hk=>by cases hk),hgw⟩
  have hRo:RoundOK Fence.wide (envOf G [HO.vec 1 t xs e] (fun _=>L) (fun _=>1) w):=fun l hl=>by cases hl
  refine wpIn_mono (jY hY hΓ c 0 (F:=Fence.wide) (n:=0) ⟨none,rfl⟩ hI hT hRo h) ?_
  rintro en a' w' ⟨l',H',loc',ver',h1,h2,h3,h4,h5,Ds,h6,h7,h8⟩
  have h0s:G.w0.heap.size=w.heap.size:=by rw[hG]
  have h0n:G.itr.n0=0:=by rw[hG];rfl
  have hend:finL.endL P A c same fn.results.toList r t ys e l' H'→LeavesInM Fence.wide 0 P fn a'.tmps (fun en w'=>∃v L',en= .returned v∧(w'.os=w.os∧w'.tape=w.tape∧w'.output=w.output∧w.heap.size≤w'.heap.size∧∀b,b<w.heap.size→L.blk.map (·.1)≠some b→w'.heap[b]? =w.heap[b]?)∧
   (same=true→L'=L)∧(∀b,L'.blk.map (·.1)=some b→L.blk.map (·.1)=some b∨w.heap.size≤b)∧RowS w' L' t ys e∧((r= .ref 0 1∧v=L'.head)∨(plain r=true∧Rel (env0 w' fun _=>False) r v))) a'.defers .returning w':=by
   intro he
   rw[h6,List.append_nil]
   refine iY Ds h2 h7 (fun D hD=>⟨by rw[h0s];exact (h8 D hD).1,by rw[h0n];exact Nat.zero_le _,(h8 D hD).2.1,(h8 D hD).2.2⟩) fun w2 h9 h10=>?_
   unfold finL.endL at he
   split at he
   case h_2=>exact he.elim
   rename_i us k t' zs e' hu ho
   obtain ⟨q1,rfl,q2,q3⟩:=he
   have hT2:TRel (envOf G H' loc' ver' w2) fn.ntmps l' a':=⟨h3.size,fun t=>h10 _ _ (h3.rel t)⟩
   obtain ⟨v,k7,k8⟩:=eF (P:=P) h9 hT2 hu
   have hq:=gX q2
   cases hq
   have hn0:=aG ho (by simp)
   obtain ⟨o1,o2,o3,o4,rs',o5,o6⟩:=h9.objs 0 _ hn0
   have o1:ver' 0=k:=o1
   refine ⟨v,k7,v,⟨(loc' 0).toCore,L.al,L.sub⟩,rfl,⟨?_,?_,?_,?_,?_⟩,?_,?_,⟨o3,o4,rs',o5,fun i hi=>Reads.flatJ hfl (o6 i hi)⟩,?_⟩
   ·have:=h9.os;rw[hG] at this;exact this
   ·have:=h9.tape;rw[hG] at this;exact this
   ·have:=h9.output;rw[hG] at this;exact this
   ·have:=h9.size;rw[hG] at this;exact this
   ·intro b hb hne
    have:=h9.frame b (by rw[h0s];exact hb) (by rw[hG];exact hne)
    rw[hG] at this;exact this
   ·intro hs
    rw[hs] at q1
    simp only[cond_true,Bool.and_eq_true,aL,Bool.not_eq_true'] at q1
    rcases h4.ver 0 (by rfl) q1.2 with ⟨_,e2⟩ | ⟨_,e2⟩
    ·have e2:(loc' 0).toCore=L.toCore:=e2
     rw[e2]
    ·have e2:1<ver' 0:=e2
     omega
   ·intro b hb
    rcases h9.own b ⟨0,_,hn0,hb⟩ with h | h
    ·rw[hG] at h;exact .inl h
    ·rw[hG] at h;exact .inr h
   ·split at q3
    ·split at q3
     ·rename_i k' hk
      subst q3
      rw[hk] at k8
      refine .inl ⟨rfl,?_⟩
      generalize v=u at k8
      cases k8 with
      | ref _ _ _ _ _ _ hh=>exact hh o1.symm
     ·exact q3.elim
    ·obtain ⟨q4,q5⟩:=q3
     exact .inr ⟨q4,(eE q5 k8).plain q4⟩
  cases en with
  | normal=>exact hend h1
  | ret=>exact hend h1
  | _=>exact h1.elim
theorem RelL.mapTo {E E':Env} {g:SV→SV} (hg:∀s x,Rel E s x→Rel E' (g s) x):∀ {l:List SV} {vs:List Value},RelL E l vs→RelL E' (l.map g) vs
 | _,_,.nil=>.nil
 | _,_,.cons _ _ _ _ h hl=>.cons _ _ _ _ (hg _ _ h) (RelL.mapTo hg hl)
theorem aKp {E E':Env} {g:SV→SV} (hg:∀s x,Rel E s x→Rel E' (g s) x) {l:List SV} {v:Value} (h:Rel E (pC l) v):Rel E' (pC (l.map g)) v:=by
 match l with
 | []=>cases h with
  | tup _ vs hl=>exact .tup _ _ (by simpa using RelL.mapTo hg hl)
 | [a]=>exact hg _ _ h
 | a::b::l=>cases h with
  | tup _ vs hl=>exact .tup _ _ (by simpa using RelL.mapTo hg hl)
theorem aMk {E:Env} {nm k:Nat} {w:World} (hv:E.ver nm=k) {s:SV} {x:Value} (h:Rel E s x):Rel (envO w (E.loc nm)) (renb nm k s) x:=by
 cases s with
 | ref n j=>
  simp only[renb]
  cases hb:(Nat.beq n nm&&Nat.beq j k) with
  | false=>exact .any x
  | true=>
   simp only[Bool.and_eq_true,aL] at hb
   obtain ⟨rfl,rfl⟩:=hb
   cases h with
   | ref _ _ _ _ _ _ hh=>
    have:=hh hv.symm
    exact .ref 0 1 x (by simp[envO]) Nat.one_pos (Nat.le_refl _) fun _=>this
 | _=>
  simp only[renb]
  first
  | (split<;>first | exact .any x | exact h.plain (by assumption))
  | (cases hp:plain _ with
   | true=>exact h.plain hp
   | false=>exact .any x)
theorem rA {Γ:List Con} (hΓ:∀c∈Γ,aF P c) {A:Anns} {f:FuncId} {fn:Func} (hf:P.funcs[f]? =some fn) {args:List SV} {r:SV} {t:Ty} {ys:List t.T} {e:TypeId} (hn:args.length≤fn.ntmps) (hfl:t.flat=true)
  (h:aL8 P Γ A fn args r t ys e):OTri P f args r t ys e:=by
 intro ok w vs hgw hok hr
 unfold aL8 at h
 cases hc:fn.body with
 | none=>rw[hc] at h;exact h.elim
 | some c=>
  rw[hc] at h
  refine (callsIn_wide (n:=0)).1 (callsIn_of_wp_marks hf hc trivial ?_)
  have hI:=aAa ok hok
  have hr':RelL (envOf (ctx0 w ok hok) [] (fun _=>mkL none 0 0) (fun _=>0) w) args vs:=by
   refine RelL.move (E:=env0 w ok) (E':=envOf (ctx0 w ok hok) [] (fun _=>mkL none 0 0) (fun _=>0) w) (p:=fun m=>Nat.blt m 0) (fun nm hp _=>by simp at hp) (fun nm hp=>by simp at hp) (fun h=>by cases h) (fun _ _ _ _ _ h=>h) (fun b hb=>⟨.inl hb,hok b hb,fun ⟨nm,o,h,_⟩=>by simp at h⟩) hr hr.under
  have hT:=kW (N:=fn.ntmps) hr' hn
  have hY:COK P (ctx0 w ok hok):=⟨(fun k M W us hk=>by cases hk),hgw⟩
  refine wpIn_mono (jY hY hΓ c 0 (F:=Fence.wide) (n:=0) ⟨none,rfl⟩ hI hT (fun l hl=>by cases hl) h) ?_
  rintro en a' w' ⟨l',H',loc',ver',h1,h2,h3,h4,h5,Ds,h6,h7,h8⟩
  have hend:finO.endO P fn.results.toList r t ys e l' H'→LeavesInM Fence.wide 0 P fn a'.tmps (fun en w'=>∃v L',en= .returned v∧Below w.heap.size w w'∧(∀b,L'.blk.map (·.1)=some b→w.heap.size≤b)∧RowS w' L' t ys e∧Rel (envO w' L') r v) a'.defers .returning w':=by
   intro he
   rw[h6,List.append_nil]
   refine iY Ds h2 h7 (fun D hD=>⟨(h8 D hD).1,Nat.zero_le _,(h8 D hD).2.1,(h8 D hD).2.2⟩) fun w2 h9 h10=>?_
   unfold finO.endO at he
   split at he
   case h_2=>exact he.elim
   rename_i us hu
   split at he
   case h_2=>
    split at he
    case h_2=>exact he.elim
    obtain ⟨hr0,hy0⟩:=he
    have hT2:TRel (envOf (ctx0 w ok hok) H' loc' ver' w2) fn.ntmps l' a':=⟨h3.size,fun t=>h10 _ _ (h3.rel t)⟩
    obtain ⟨v,k7,k8⟩:=eF (P:=P) h9 hT2 hu
    have hv:v= .slice none 0 0:=by
     have k8:Rel _ (.val (.slice none 0 0)) v:=k8
     cases k8;rfl
    subst hr0
    refine ⟨v,k7,v,mkL none 0 0,rfl,⟨h9.os,h9.tape,h9.output,h9.size,fun b hb=>h9.frame b hb fun h=>h⟩,fun b hb=>(by simp at hb),⟨hy0.symm,Nat.zero_le _,[],⟨by simp,.inl ⟨rfl,rfl⟩⟩,fun i hi=>absurd hi (Nat.not_lt_zero _)⟩,?_⟩
    exact .ref 0 1 v (by simp[envO]) Nat.one_pos (Nat.le_refl _) fun _=>by rw[hv];rfl
   rename_i nm k hfr
   split at he
   case h_2=>exact he.elim
   rename_i k' t' zs e' ho
   obtain ⟨rfl,rfl,q2,q3⟩:=he
   have hT2:TRel (envOf (ctx0 w ok hok) H' loc' ver' w2) fn.ntmps l' a':=⟨h3.size,fun t=>h10 _ _ (h3.rel t)⟩
   obtain ⟨v,k7,k8⟩:=eF (P:=P) h9 hT2 hu
   have hq:=gX q2
   cases hq
   have hn0:=aG ho (by simp)
   obtain ⟨o1,o2,o3,o4,rs',o5,o6⟩:=h9.objs nm _ hn0
   refine ⟨v,k7,v,loc' nm,rfl,⟨h9.os,h9.tape,h9.output,h9.size,fun b hb=>h9.frame b hb fun h=>h⟩,?_,⟨o3,o4,rs',o5,fun i hi=>Reads.flatJ hfl (o6 i hi)⟩,?_⟩
   ·intro b hb
    rcases h9.own b ⟨nm,_,hn0,hb⟩ with h | h
    ·exact h.elim
    ·exact h
   ·exact eE q3 (aKp (fun s x hs=>aMk (E:=envOf (ctx0 w ok hok) H' loc' ver' w2) o1 hs) k8)
  cases en with
  | normal=>exact hend h1
  | ret=>exact hend h1
  | _=>exact h1.elim
theorem jE {Γ:List Con} (hΓ:∀c∈Γ,aF P c) {A:Anns} {f:FuncId} {fn:Func} (hf:P.funcs[f]? =some fn) {args:List SV} {n:Nat} {items:Nat→List SV} (hn:args.length+1≤fn.ntmps) (h:vN P Γ A fn args n items):TriI P f args n items:=by
 intro ok w vs l J soft sf hgw hok hr hsf hab hy hJ0
 unfold vN at h
 cases hc:fn.body with
 | none=>rw[hc] at h;exact h.elim
 | some c=>
  rw[hc] at h
  refine (callsIn_wide (n:=0)).1 (callsIn_of_wp_marks hf hc trivial ?_)
  obtain ⟨G,hG⟩:∃G:Ctx,G= ⟨w,ok,fun b=>b<w.heap.size∧¬ok b,fun b h1 h2=>h2.2 h1,hok,⟨true,l,w.heap.size,ok,n,items,J,hab,soft,sf,hsf⟩,Nat.le_refl _⟩:=⟨_,rfl⟩
  have hown:∀b,Owned [HO.yst (some 0) n items] (fun _=>(⟨⟨none,0,0⟩,fun b=>b<w.heap.size∧¬ok b,sub0⟩:Loc)) b→b<w.heap.size∧¬ok b:=by
   rintro b ⟨nm,o,h1,h2⟩
   cases nm with
   | zero=>simp at h1;subst h1;exact h2
   | succ k=>simp at h1
  have hokn:∀b,ok b→okN G [HO.yst (some 0) n items] (fun _=>(⟨⟨none,0,0⟩,fun b=>b<w.heap.size∧¬ok b,sub0⟩:Loc)) w b:=fun b hb=>⟨.inl (by rw[hG];exact hb),hok b hb,fun ho=>(hown b ho).2 hb⟩
  have hI:Inv G [HO.yst (some 0) n items] (fun _=>(⟨⟨none,0,0⟩,fun b=>b<w.heap.size∧¬ok b,sub0⟩:Loc)) (fun _=>1) w:=by
   refine ⟨by rw[hG];exact Nat.le_refl _,by rw[hG],by rw[hG],by rw[hG],fun b _ _=>by rw[hG],fun nm o ho=>?_,fun b hb=>.inl (by rw[hG];exact hown b hb),fun nm nm' o o' b h1 h2 _ _=>?_⟩
   ·cases nm with
    | zero=>
     simp at ho;subst ho
     refine ⟨Nat.one_pos,fun b hb=>hb.1,by rw[hG];exact Nat.le_refl _,by rw[hG];rfl,by rw[hG];rfl,fun b hb hl=>?_,?_⟩
     ·have hb':b<w.heap.size:=by rw[hG] at hb;exact hb
      have hob:ok b:=Classical.byContradiction fun hno=>hl ⟨hb',hno⟩
      exact ⟨by rw[hG];exact hob,hokn b hob⟩
     ·rw[hG]
      refine cast (congrArg (fun M=>J (some 0) M w) (funext fun b=>propext ⟨fun h=>h.elim,?_⟩)) hJ0
      rintro ⟨h8,h9,_⟩
      have h8':w.heap.size≤b:=h8
      have h9':b<w.heap.size:=h9
      omega
    | succ k=>simp at ho
   ·cases nm with
    | zero=>cases nm' with
     | zero=>rfl
     | succ k=>simp at h2
    | succ k=>simp at h1
  have hr':RelL (envOf G [HO.yst (some 0) n items] (fun _=>(⟨⟨none,0,0⟩,fun b=>b<w.heap.size∧¬ok b,sub0⟩:Loc)) (fun _=>1) w) args vs:=
   by
    cases soft with
    | false=>
     exact RelL.move (E:=env0 w ok) (E':=envOf G [HO.yst (some 0) n items] (fun _=>(⟨⟨none,0,0⟩,fun b=>b<w.heap.size∧¬ok b,sub0⟩:Loc)) (fun _=>1) w) (p:=fun m=>Nat.blt m 0) (fun nm hp _=>by simp at hp) (fun nm hp=>by simp at hp) (fun h=>by cases h) (fun _ _ _ _ _ h=>h) hokn hr hr.under
    | true=>
     obtain ⟨rfl,c,o,hc1,hc2,rfl⟩:=hr
     refine .cons _ _ _ _ (.lelem _ 0 c o [sf.head] (.cons _ _ _ _ (.sft none _ (by rw[hG];rfl) (by rw[hG];exact ⟨rfl,rfl⟩)) .nil) (hokn c hc1) ?_) .nil
     intro j u hj
     cases j with
     | zero=>simp at hj;subst hj;exact hc2
     | succ j=>simp at hj
  have hyl:Rel (envOf G [HO.yst (some 0) n items] (fun _=>(⟨⟨none,0,0⟩,fun b=>b<w.heap.size∧¬ok b,sub0⟩:Loc)) (fun _=>1) w) (.yld 0) (.func (.yield l) #[] #[]):=by
   have:=Rel.yld (E:=envOf G [HO.yst (some 0) n items] (fun _=>(⟨⟨none,0,0⟩,fun b=>b<w.heap.size∧¬ok b,sub0⟩:Loc)) (fun _=>1) w) 0 (by rw[hG];rfl)
   rw[hG] at this ⊢
   exact this
  have hT:=kW (N:=fn.ntmps) (RelL.cons _ _ _ _ hyl hr') (by simpa using hn)
  have hY:COK P G:=by rw[hG];exact ⟨hy,hgw⟩
  have hRo:RoundOK Fence.wide (envOf G [HO.yst (some 0) n items] (fun _=>(⟨⟨none,0,0⟩,fun b=>b<w.heap.size∧¬ok b,sub0⟩:Loc)) (fun _=>1) w):=fun l hl=>by cases hl
  refine wpIn_mono (jY hY hΓ c 0 (F:=Fence.wide) (n:=0) ⟨none,rfl⟩ hI hT hRo h) ?_
  rintro e a' w' ⟨l',H',loc',ver',h1,h2,h3,h4,h5,Ds,h6,h7,h8⟩
  have h0s:G.w0.heap.size=w.heap.size:=by rw[hG]
  have h0n:G.itr.n0=w.heap.size:=by rw[hG]
  have hend:finI.endI fn.results.toList l' H'→LeavesInM Fence.wide 0 P fn a'.tmps (fun e w'=>(∃v,e= .returned v)∧∃M,J (some n) M w'∨J none M w') a'.defers .returning w':=by
   intro he
   rw[h6,List.append_nil]
   refine iY Ds h2 h7 (fun D hD=>⟨by rw[h0s];exact (h8 D hD).1,by rw[h0n];exact (h8 D hD).1,(h8 D hD).2.1,(h8 D hD).2.2⟩) fun w2 h9 h10=>?_
   unfold finI.endI at he
   have hres:∀k,fn.results.toList= []→k→∃v,(results fn a'.tmps).run P w2= .ok v w2∧k:=by
    intro k hrs hk
    obtain ⟨v,h11,_⟩:=eF (P:=P) (fn:=fn) (vs:=[]) h9 (⟨h3.size,fun t=>h10 _ _ (h3.rel t)⟩:TRel (envOf G H' loc' ver' w2) fn.ntmps l' a') (by rw[hrs];rfl)
    exact ⟨v,h11,hk⟩
   split at he
   ·rename_i k n' it hrs ho
    obtain ⟨v,h11,_⟩:=hres True hrs trivial
    obtain ⟨_,_,_,hn',_,_,hJ⟩:=h9.objs 0 _ (aG ho (by simp))
    refine ⟨v,h11,⟨v,rfl⟩,fun b=>w.heap.size≤b∧b<w2.heap.size∧¬(loc' 0).al b,.inl ?_⟩
    have e1:n'=n:=by rw[hG] at hn';exact hn'
    rw[hG] at hJ
    have e2:k=n:=he.trans e1
    rw[e2] at hJ
    exact hJ
   ·rename_i n' it hrs ho
    obtain ⟨v,h11,_⟩:=hres True hrs trivial
    obtain ⟨_,_,_,hn',_,_,hJ⟩:=h9.objs 0 _ (aG ho (by simp))
    refine ⟨v,h11,⟨v,rfl⟩,fun b=>w.heap.size≤b∧b<w2.heap.size∧¬(loc' 0).al b,.inr ?_⟩
    rw[hG] at hJ
    exact hJ
   ·exact he.elim
  cases e with
  | normal=>exact hend h1
  | ret=>exact hend h1
  | _=>exact h1.elim
end
end Go.Eng
end
section
set_option linter.unusedVariables false
set_option linter.unusedVariables false
namespace Go.Eng
theorem aMm {k:IntKind} {n:Int} (h:(Lit.int k n).wf=true):inK k n:=by
 cases k<;>simp[Lit.wf,IntKind.min,IntKind.max,IntKind.bits,IntKind.signed] at h<;>simp only[inK,lo,hi]<;>omega
theorem aOv {E:Env} {k:IntKind} {n:Int} (h:(Lit.int k n).wf=true):Rel E (.val (.int k n)) (.int k n):=.val _ (aMm h)
theorem aMn {E:Env} (b:Bool):Rel E (.val (.bool b)) (.bool b):=.val _ trivial
theorem nK {H:Type} {P:Program} {e:TypeId}:∀ {l:List (DataW H)} {d:DataW H},d∈l→∀n∈d.weights P e,n∈DataW.weightsAll P e l
 | [],_,h,_,_=>by cases h
 | x::l,d,h,n,hn=>by
  simp only[DataW.weightsAll,List.mem_append]
  rcases List.mem_cons.1 h with rfl | h
  ·exact .inl hn
  ·exact .inr (nK h n hn)
def okTy (P:Program):Nat→TypeId→Bool
 | 0,_=>false
 | n+1,t=>match P.underlying t with
  | some (.int _)=>true
  | some .bool=>true
  | some .string=>true
  | some (.slice e)=>(match tyOf P n e with
   | some ty=>Nat.beq (P.cellsOf e) ty.size&&(Nat.blt 0 ty.size&&(Nat.blt 0 (P.bytesOf e)&&okTy P n e))
   | none=>false)
  | some (.struct fs)=>okF P n fs.toList 0&&(match tyOf.flds P n fs.toList with
   | some ty=>Nat.beq (P.cellsOf t) ty.size
   | none=>false)
  | _=>false
where okF (P:Program):Nat→List Field→Nat→Bool
 | 0,_,_=>false
 | _+1,[],_=>false
 | n+1,f::r,o=>Nat.beq f.offset o&&((match tyOf P n f.type with
   | some ty=>Nat.beq (P.cellsOf f.type) ty.size
   | none=>false)&&(okTy P n f.type&&(match r with
    | []=>true
    | g::r=>okF P n (g::r) (o+P.cellsOf f.type))))
theorem aEg (b o k:Nat):(⟨b,o,none⟩:Addr).add k= ⟨b,o+k,none⟩:=by unfold Addr.add;split<;>simp_all
section
variable {H:Type} {enc:TypeId × Value→H} {P:Program} {w:World} {base:Nat} {spare:Nat→Bool} {held:Bool}
def RD (H:Type) (enc:TypeId × Value→H) (P:Program) (w:World) (base:Nat) (spare:Nat→Bool) (held:Bool) (n:Nat):Prop:=∀(t:TypeId) (ty:Ty),tyOf P n t=some ty→okTy P n t=true→∀(fuel:Nat) (cs:List Value) (x:DataW H × List MemPlace),
 DataW.trod enc P w base spare held fuel t cs=some x→(∀m∈x.1.weights P t,m≤reachBytes)→∃v:ty.T,Reads w (fun b=>b<w.heap.size) ty v cs
theorem tS (n:Nat) (ih:∀k,k<n→RD H enc P w base spare held k):∀(k:Nat),k≤n→∀(l:List Field) (o:Nat) (ty:Ty),tyOf.flds P k l=some ty→okTy.okF P k l o=true→∀(fuel:Nat) (cs:List Value) (ys:List (DataW H × List MemPlace)),
  (∀(i:Nat) (f:Field),l[i]? =some f→∃y,ys[i]? =some y∧DataW.trod enc P w base spare held fuel f.type ((cs.drop f.offset).take (P.cellsOf f.type))=some y∧∀m∈y.1.weights P f.type,m≤reachBytes)→
  ∃v:ty.T,Reads w (fun b=>b<w.heap.size) ty v ((cs.drop o).take ty.size)
 | 0,_,l,o,ty,h1,_,_,_,_,_=>by cases l<;>simp[tyOf.flds] at h1
 | k+1,hk,[],o,ty,h1,_,_,_,_,_=>by simp[tyOf.flds] at h1
 | k+1,hk,[f],o,ty,h1,h2,fuel,cs,ys,h3=>by
  simp only[tyOf.flds] at h1
  simp only[okTy.okF,h1,Bool.and_eq_true,aL] at h2
  obtain ⟨rfl,e2,e3,_⟩:=h2
  obtain ⟨y,_,h4,h5⟩:=h3 0 f rfl
  rw[← e2]
  exact ih k (by omega) _ _ h1 e3 fuel _ y h4 h5
 | k+1,hk,f::g::r,o,ty,h1,h2,fuel,cs,ys,h3=>by
  simp only[tyOf.flds] at h1
  split at h1
  ·rename_i a b ha hb
   cases h1
   simp only[okTy.okF,ha,Bool.and_eq_true,aL] at h2
   obtain ⟨rfl,e2,e3,e4⟩:=h2
   obtain ⟨y,_,h4,h5⟩:=h3 0 f rfl
   obtain ⟨v1,hv1⟩:=ih k (by omega) _ _ ha e3 fuel _ y h4 h5
   obtain ⟨v2,hv2⟩:=tS n ih k (by omega) (g::r) (f.offset+P.cellsOf f.type) b hb e4 fuel cs ys.tail (fun i f' hf=>by
    obtain ⟨y,q1,q2⟩:=h3 (i+1) f' (by simpa using hf)
    exact ⟨y,by rw[List.getElem?_tail];exact q1,q2⟩)
   rw[e2] at hv1 hv2
   refine ⟨(v1,v2),(cs.drop f.offset).take a.size,(cs.drop (f.offset+a.size)).take b.size,?_,hv1,hv2⟩
   simp only[Ty.size]
   rw[List.take_add,List.drop_drop]
  ·cases h1
theorem wU:∀n,RD H enc P w base spare held n
 | 0=>fun t ty h=>by simp[tyOf] at h
 | n+1=>by
  have ih:∀k,k<n+1→RD H enc P w base spare held k:=fun k hk=>wU k
  intro t ty h1 h2 fuel cs x h3 h4
  simp only[tyOf] at h1
  simp only[okTy] at h2
  split at h1
  ·rename_i k hu
   cases h1
   obtain ⟨m,rfl,_,hw⟩:=DataW.trod_int hu h3
   exact ⟨m,rfl,aMm hw⟩
  ·rename_i hu
   cases h1
   obtain ⟨b,rfl,_⟩:=DataW.trod_bool hu h3
   exact ⟨b,rfl⟩
  ·rename_i hu
   cases h1
   obtain ⟨s,rfl,rfl,_⟩:=DataW.trod_string hu h3
   refine ⟨s.data.toList,by simp,?_⟩
   have:=h4 s.data.toList.length (by simp[DataW.weights])
   exact Nat.le_trans this (by decide)
  ·rename_i e hu
   rw[hu] at h2
   simp only at h2
   cases hE:tyOf P n e with
   | none=>rw[hE] at h1;simp at h1
   | some te=>
   rw[hE] at h1 h2
   simp only[Option.map_some,Option.some.injEq] at h1
   subst h1
   simp only[Bool.and_eq_true,aL] at h2
   obtain ⟨e1,e2,e3,e4⟩:=h2
   have e2:0<te.size:=by simpa using e2
   have e3:0<P.bytesOf e:=by simpa using e3
   rcases DataW.trod_slice hu h3 with ⟨rfl,_⟩ | ⟨a,len,cap,elems,rest,m,rfl,rfl,rfl,hb,hl,hm,hlen,hel,hsp,hns⟩
   ·exact ⟨([]:List te.T),oE _ _ _⟩
   ·have hbig:=h4 ((elems.length+rest.length)*P.bytesOf e) (by simp[DataW.weights,hu])
    have hlen':len≤maxL:=by
     have h5:elems.length+rest.length≤(elems.length+rest.length)*P.bytesOf e:=Nat.le_mul_of_pos_right _ e3
     have h6:reachBytes≤maxL:=by decide
     omega
    have each:∀i:Nat,∃v:te.T,i<len→∃es,w.cells? base (a.add (i*P.cellsOf e)) (P.cellsOf e)=some es∧Reads w (fun b=>b<w.heap.size) te v es:=by
     intro i
     by_cases hi:i<len
     ·have h5:=hel i hi
      obtain ⟨y,hy⟩:∃y,elems[i]? =some y:=⟨elems[i]'(by omega),by simp[hlen,hi]⟩
      rw[hy] at h5
      cases hc:w.cells? base (a.add (i*P.cellsOf e)) (P.cellsOf e) with
      | none=>rw[hc] at h5;simp at h5
      | some es=>
       rw[hc] at h5
       simp only[Option.bind_some] at h5
       obtain ⟨v,hv⟩:=ih n (Nat.lt_succ_self n) e te hE e4 m es y h5 (fun q hq=>h4 q (by
        simp only[DataW.weights,hu,List.mem_cons,List.mem_append]
        exact .inr (.inl (nK (List.mem_map.2 ⟨y,List.mem_of_getElem? hy,rfl⟩) q hq))))
       exact ⟨v,fun _=>⟨es,rfl,hv⟩⟩
     ·exact ⟨te.dflt,fun h=>absurd h hi⟩
    refine ⟨(List.range len).map fun i=>(each i).choose,some a,len,cap,rfl,by simp,hl,hlen',fun h0=>?_⟩
    obtain ⟨es0,hc0,hr0⟩:=(each 0).choose_spec h0
    have hlt:a.block<w.heap.size:=by
     have:=World.cells?_block hc0 (by omega)
     simpa [Addr.add] using this
    have hspot:a.spot=none:=by
     obtain ⟨_,_,hg⟩:=World.cells?_some hc0
     have h6:=hg 0 (by omega)
     obtain ⟨v0,hv0⟩:∃v0,es0[0]? =some v0:=by
      cases es0 with
      | nil=>have:=hr0.length;simp at this;omega
      | cons v _=>exact ⟨v,rfl⟩
     rw[hv0] at h6
     have:=World.cell?_spot h6
     simpa [Addr.add] using this
    obtain ⟨b,off,spot⟩:=a
    simp only at hspot hlt
    subst hspot
    refine ⟨b,off,rfl,hlt,fun i hi=>?_⟩
    obtain ⟨es,hc,hr⟩:=(each i).choose_spec hi
    obtain ⟨_,hlen2,hg⟩:=World.cells?_some hc
    refine ⟨es,by rw[hr.length],fun j v hj=>?_,?_⟩
    ·have hj':j<es.length:=(List.getElem?_eq_some_iff.1 hj).1
     have h6:=hg j (by omega)
     rw[hj] at h6
     rw[aEg,aEg] at h6
     rw[← e1]
     exact h6
    ·have:List.getD (α:=te.T) ((List.range len).map fun i=>(each i).choose) i te.dflt=(each i).choose:=by
      simp[List.getD_eq_getElem?_getD,hi]
     rw[this];exact hr
  ·rename_i fs hu
   rw[hu] at h2
   simp only[Bool.and_eq_true] at h2
   obtain ⟨e1,e2⟩:=h2
   rw[h1] at e2
   have e2:=aL.1 e2
   obtain ⟨xs,m,rfl,rfl,hlen,hxl,hall⟩:=DataW.trod_struct hu h3
   obtain ⟨v,hv⟩:=tS n (fun k hk=>ih k (by omega)) n (Nat.le_refl _) fs.toList 0 ty h1 e1 m cs xs (fun i f hf=>by
    have hf':fs[i]? =some f:=by simpa using hf
    have h5:=hall i f hf'
    have hi:i<xs.length:=by rw[hxl];exact (Array.getElem?_eq_some_iff.1 hf').1
    refine ⟨xs[i],by simp[hi],by rw[h5];simp[hi],fun q hq=>h4 q ?_⟩
    simp only[DataW.weights,hu]
    exact DataW.weights_mem_each (j:=i) (t:=f.type) (d:=xs[i].1) (by simp[hf']) (by simp[hi]) q hq)
   refine ⟨v,?_⟩
   rw[List.drop_zero,List.take_of_length_le (by omega)] at hv
   exact hv
  ·cases h1
end
def Okd:(t:Ty)→t.T→Prop
 | .int k,n=>inK k n
 | .bool,_=>True
 | .str,s=>List.length (α:=UInt8) s≤maxL
 | .pair a b,x=>Okd a x.1∧Okd b x.2
 | .slice t,xs=>List.length (α:=t.T) xs≤maxL∧∀i,i<List.length (α:=t.T) xs→Okd t (List.getD (α:=t.T) xs i t.dflt)
theorem Reads.okd {w:World} {ok:Nat→Prop} {t:Ty} {x:t.T} {cs:List Value} (h:Reads w ok t x cs):Okd t x:=by
 induction t generalizing cs with
 | int k=>exact h.2
 | bool=>trivial
 | str=>exact h.2
 | pair a b iha ihb=>obtain ⟨c1,c2,rfl,h1,h2⟩:=h;exact ⟨iha h1,ihb h2⟩
 | slice t ih=>
  obtain ⟨a,n,c,rfl,hn,_,hm,hall⟩:=h
  have hn':n=List.length (α:=t.T) x:=hn
  refine ⟨by omega,fun i hi=>?_⟩
  obtain ⟨b,off,_,_,hel⟩:=hall (by omega)
  obtain ⟨es,_,_,hr⟩:=hel i (by omega)
  exact ih hr
section
variable {H:Type} {enc:TypeId × Value→H} {P:Program} {w:World} {base b0:Nat} {spare:Nat→Bool} {held:Bool} {r:Reach} {t:TypeId} {v:Value} {d:DataW H} {ps:List MemPlace}
theorem arg_int {k:IntKind} (ht:P.underlying t=some (.int k)) (hval:Value.okWide P w r b0 t v) (hd:DataW.Trod enc P w base spare held t v d ps):∃n:Int,inK k n∧Rel (env0 w fun b=>b<w.heap.size) (.val (.int k n)) v:=by
 obtain ⟨n,rfl,_,_,hw⟩:=ChangeShapes.open_int ht hval hd
 exact ⟨n,aMm hw,aOv hw⟩
theorem arg_bool (ht:P.underlying t=some .bool) (hval:Value.okWide P w r b0 t v) (hd:DataW.Trod enc P w base spare held t v d ps):∃b:Bool,Rel (env0 w fun b=>b<w.heap.size) (.val (.bool b)) v:=by
 obtain ⟨b,rfl,_⟩:=RowKit.open_bool ht hval hd
 exact ⟨b,aMn b⟩
theorem arg_str (ht:P.underlying t=some .string) (hval:Value.okWide P w r b0 t v) (hd:DataW.Trod enc P w base spare held t v d ps) (hw:∀m∈d.weights P t,m≤reachBytes):∃s:List UInt8,s.length≤maxL∧Rel (env0 w fun b=>b<w.heap.size) (.str s) v:=by
 obtain ⟨s,rfl,rfl,_,hs⟩:=ChangeMaps.open_string ht hval hd
 have h1:s.data.toList.length≤maxL:=Nat.le_trans (hw s.data.toList.length (by simp[DataW.weights])) (by decide)
 refine ⟨s.data.toList,h1,?_⟩
 have:=Rel.str (E:=env0 w fun b=>b<w.heap.size) s.data.toList h1
 simpa using this
theorem arg_slice {e:TypeId} {n:Nat} {ty:Ty} (ht:P.underlying t=some (.slice e)) (hval:Value.okWide P w r b0 t v) (hd:DataW.Trod enc P w base spare held t v d ps) (h1:tyOf P n t=some (.slice ty)) (h2:okTy P n t=true)
  (hw:∀m∈d.weights P t,m≤reachBytes):∃xs:List ty.T,Okd (.slice ty) xs∧Rel (env0 w fun b=>b<w.heap.size) (.seq ty xs) v:=by
 obtain ⟨a,len,cap,rfl⟩:=WideShapes.okWide_slice ht hval
 obtain ⟨fuel,hf⟩:=hd
 obtain ⟨xs,hx⟩:=wU n t _ h1 h2 fuel _ _ hf hw
 refine ⟨xs,hx.okd,.seq _ _ _ ?_⟩
 have e:(Value.slice a len cap).cells.toList= [.slice a len cap]:=by simp[Value.cells]
 rw[e] at hx
 exact hx
theorem weight_of {ts:List TypeId} {ds:List (DataW H)} (h:(DataW.weightsEach P ts ds).all (· ≤reachBytes)=true) (j:Nat) (ht:ts[j]? =some t) (hd:ds[j]? =some d):∀m∈d.weights P t,m≤reachBytes:=
 fun m hm=>by simpa using List.all_eq_true.1 h m (DataW.weights_mem_each ht hd m hm)
end
open Go.RowKit in
theorem law_calls {P:Program} {fresh:Bool} {f:FuncId} {args:List SV} (h:Tri P fresh f args (.val (.bool true))) (w:World) (vs:List Value) (hgw:GW P (fun b=>b<w.heap.size) w) (hr:RelL (env0 w fun b=>b<w.heap.size) args vs):
  Calls P f ⟨vs⟩ w fun e w'=>e= .returned (.bool true)∧Below w.heap.size w w':=by
 refine (h (fun b=>b<w.heap.size) w vs hgw (fun _ h=>h) hr).mono ?_
 rintro e w' ⟨v,rfl,hb,hv⟩
 cases hv
 exact ⟨rfl,hb⟩
end Go.Eng
end
section
set_option linter.unusedVariables false
set_option linter.unusedVariables false
set_option linter.unusedSimpArgs false
namespace Go.Eng
open Go.RowKit
def plainC:SV→Bool
 | .seq _ _=>true
 | s=>plain s
def qQ:List SV→Bool
 | []=>true
 | x::r=>plainC x&&qQ r
theorem Rel.plainC {E E':Env} (hw:E'.w=E.w) (hok:∀b,E.ok b→E'.ok b) {s:SV} {v:Value} (h:Rel E s v) (hp:Eng.plainC s=true):Rel E' s v:=by
 cases s with
 | seq t xs=>
  cases h with
  | seq _ _ _ h=>exact .seq t xs v (by rw[hw];exact h.mono (fun _ _ _ h=>h) hok)
 | _=>exact h.plain hp
theorem RelL.plainC {E E':Env} (hw:E'.w=E.w) (hok:∀b,E.ok b→E'.ok b):∀ {l:List SV} {vs:List Value},RelL E l vs→qQ l=true→RelL E' l vs
 | _,_,.nil,_=>.nil
 | _,_,.cons s v l vs h hl,hp=>by
  simp only[qQ,Bool.and_eq_true] at hp
  exact .cons s v l vs (h.plainC hw hok hp.1) (RelL.plainC hw hok hl hp.2)
section
variable {P:Program}
theorem aGl {f:FuncId} {e0 e1:Int} {t:TypeId} {args:List SV} {r:SV} (hp:qQ args=true) (hr:plain r=true)
  (h:HTri P f (.ptr 0 0::args) [.cells [.val (.int .i64 e0)] t] (fun s H'=>s=r∧H'= [.cells [.val (.int .i64 e1)] t]))
  {H:List HO} {nm:Nat} (hn:H[nm]? =some (.cells [.val (.int .i64 e0)] t)):
  HTri P f (.ptr nm 0::args) H (fun s H'=>s=r∧H'=hset H nm (.cells [.val (.int .i64 e1)] t)):=by
 intro G loc ver w vs hY hI hrel
 have hlt:nm<H.length:=(List.getElem?_eq_some_iff.1 hn).1
 obtain ⟨hv,b,cs,hb,hheap,hcs⟩:=hI.objs nm _ hn
 cases hrel with
 | cons _ v0 _ vs hp0 hrel=>
 cases hp0 with
 | ptr _ _ _ hhas hptr=>
 obtain ⟨b',hb',hv0⟩:=hptr hv
 have hob:Owned H loc b:=⟨nm,_,hn,by show (loc nm).blk.map (·.1)=some b;rw[hb];rfl⟩
 let G':Ctx:=⟨w,okN G H loc w,fun c=>(loc nm).blk.map (·.1)=some c,fun c hc hm=>hc.2.2 ⟨nm,_,hn,hm⟩,fun c hc=>hc.2.1,G.itr,Nat.le_trans G.low hI.size⟩
 have hI':Inv G' [.cells [.val (.int .i64 e0)] t] (fun _=>loc nm) (fun _=>ver nm) w:=by
  refine ⟨Nat.le_refl _,rfl,rfl,rfl,fun _ _ _=>rfl,fun k o hk=>?_,fun c hc=>?_,fun k k' o o' c hk hk' _ _=>?_⟩
  ·have:k=0:=by have:=(List.getElem?_eq_some_iff.1 hk).1;simp at this;exact this
   subst this
   simp only[List.getElem?_cons_zero,Option.some.injEq] at hk
   subst hk
   exact ⟨hv,b,cs,hb,hheap,hcs.plain rfl⟩
  ·obtain ⟨k,o,hk,ho⟩:=hc
   have:k=0:=by have:=(List.getElem?_eq_some_iff.1 hk).1;simp at this;exact this
   subst this
   simp only[List.getElem?_cons_zero,Option.some.injEq] at hk
   subst hk
   exact .inl ho
  ·have h1:=(List.getElem?_eq_some_iff.1 hk).1
   have h2:=(List.getElem?_eq_some_iff.1 hk').1
   simp at h1 h2
   rw[h1,h2]
 have hok:∀c,okN G H loc w c→okN G' [.cells [.val (.int .i64 e0)] t] (fun _=>loc nm) w c:=fun c hc=>⟨.inl hc,hc.2.1,by
  rintro ⟨k,o,hk,ho⟩
  have:k=0:=by have:=(List.getElem?_eq_some_iff.1 hk).1;simp at this;exact this
  subst this
  simp only[List.getElem?_cons_zero,Option.some.injEq] at hk
  subst hk
  exact hc.2.2 ⟨nm,_,hn,ho⟩⟩
 have hargs:RelL (envOf G' [.cells [.val (.int .i64 e0)] t] (fun _=>loc nm) (fun _=>ver nm) w) (.ptr 0 0::args) (v0::vs):=
  .cons _ _ _ _ (.ptr 0 0 v0 rfl fun _=>⟨b',hb',hv0⟩) (RelL.plainC (E:=envOf G H loc ver w) (E':=envOf G' [.cells [.val (.int .i64 e0)] t] (fun _=>loc nm) (fun _=>ver nm) w) rfl hok hrel hp)
 refine (h G' _ _ w _ ⟨hY.1,hY.now hI⟩ hI' hargs).mono ?_
 rintro e w' ⟨v,rfl,s,H1,loc1,ver1,⟨rfl,rfl⟩,hI1,hr1,hx1⟩
 refine ⟨v,rfl,s,hset H nm (.cells [.val (.int .i64 e1)] t),loc,ver,⟨rfl,rfl⟩,?_⟩
 have hcore:(loc1 0).toCore=(loc nm).toCore:=by
  rcases hx1.ver 0 rfl with h1 | h1
  ·exact h1.2
  ·have h2:0<ver nm:=h1.1
   omega
 have hblk1:(loc1 0).blk=(loc nm).blk:=congrArg Core.blk hcore
 obtain ⟨_,c,cs1,hc,hheap1,hcs1⟩:=hI1.objs 0 _ rfl
 have key:=hI.turn (H':=H.set nm (.cells [.val (.int .i64 e1)] t)) (loc':=loc) (ver':=ver) (w':=w') nm (by simp) (fun k hk=>⟨aM hk,rfl,rfl⟩) (fun _=>bD (aE hlt) rfl) (fun _=>.inl ⟨rfl,rfl,.inl rfl⟩)
  hI1.size hI1.os hI1.tape hI1.output (by rw[hn];intro h;cases h) (fun _=>by rw[aE hlt];intro h;cases h) (fun st n it b h=>by rw[aE hlt] at h;cases h)
  (fun d hd hno=>hI1.frame d hd fun hm=>hno _ hn hm) (fun o' d ho' hd=>by
   rw[aE hlt] at ho';cases ho'
   exact .inl ⟨_,hn,hd⟩) (fun _ o' ho'=>by
   rw[aE hlt] at ho';cases ho'
   exact ⟨hv,c,cs1,by rw[← hblk1];exact hc,hheap1,hcs1.plain rfl⟩)
 exact ⟨key.1,hr1.plain hr,key.2⟩
def aMa (f:FuncId) (t:TypeId) (cl:List SV→Int→(SV→Int→Prop)→Prop):Con:=vA f fun args H K=>match args with
 | .ptr nm 0::r=>(match hget H nm with
  | .cells [.val (.int .i64 e0)] t'=>bif Nat.beq t' t&&qQ r then cl r e0 fun s e1=>K s (hset H nm (.cells [.val (.int .i64 e1)] t)) else False
  | _=>False)
 | _=>False
theorem aMb {f:FuncId} {t:TypeId} {cl:List SV→Int→(SV→Int→Prop)→Prop} (he:lP P f)
  (h:∀r e0 K,cl r e0 K→∃s e1,K s e1∧plain s=true∧HTri P f (.ptr 0 0::r) [.cells [.val (.int .i64 e0)] t] (fun s' H'=>s'=s∧H'= [.cells [.val (.int .i64 e1)] t])):aF P (aMa f t cl):=by
 refine oH he ?_
 intro args H K hk
 split at hk
 ·rename_i nm r
  split at hk
  ·rename_i e0 t' hg
   obtain ⟨hb,hk⟩:=aH hk
   rw[Bool.and_eq_true] at hb
   obtain rfl:=aL.1 hb.1
   obtain ⟨s,e1,h1,h2,h3⟩:=h _ _ _ hk
   refine ⟨_,?_,aGl hb.2 h2 h3 (aG hg (by intro h;cases h))⟩
   rintro s' H' ⟨rfl,rfl⟩
   exact h1
  ·exact hk.elim
 ·exact hk.elim
end
end Go.Eng
end
section
set_option linter.unusedVariables false
set_option linter.unusedVariables false
namespace Go.Eng
section
variable {H:Type} {enc:TypeId × Value→H} {P:Program} {w:World} {base b0:Nat} {spare:Nat→Bool} {held:Bool} {r:Reach} {t:TypeId} {v:Value} {d:DataW H} {ps:List MemPlace}
theorem arg_struct {fs:Array Field} {n:Nat} {ty:Ty} (ht:P.underlying t=some (.struct fs)) (hval:Value.okWide P w r b0 t v) (hd:DataW.Trod enc P w base spare held t v d ps) (h1:tyOf P n t=some ty) (h2:okTy P n t=true)
  (hw:∀m∈d.weights P t,m≤reachBytes):∃x:ty.T,Okd ty x∧∃cs,v= .agg ⟨cs⟩∧Reads w (fun b=>b<w.heap.size) ty x cs:=by
 obtain ⟨cs,rfl,_⟩:=WideShapes.okWide_struct ht hval
 obtain ⟨fuel,hf⟩:=hd
 obtain ⟨x,hx⟩:=wU n t _ h1 h2 fuel _ _ hf hw
 refine ⟨x,hx.okd,cs.toList,rfl,?_⟩
 have e:(Value.agg cs).cells.toList=cs.toList:=by simp[Value.cells]
 rw[e] at hx
 exact hx
theorem agg_str2 {ok:Nat→Prop} {x:List UInt8 × List UInt8} {cs:List Value} (h:Reads w ok (.pair .str .str) x cs):Rel (env0 w ok) (.agg [.str x.1,.str x.2]) (.agg ⟨cs⟩):=by
 obtain ⟨c1,c2,rfl,⟨rfl,l1⟩,⟨rfl,l2⟩⟩:=h
 exact .agg _ _ (.cons _ _ _ _ (.str _ l1) (.cons _ _ _ _ (.str _ l2) .nil))
theorem agg_str3 {ok:Nat→Prop} {x:List UInt8 × List UInt8 × List UInt8} {cs:List Value} (h:Reads w ok (.pair .str (.pair .str .str)) x cs):Rel (env0 w ok) (.agg [.str x.1,.str x.2.1,.str x.2.2]) (.agg ⟨cs⟩):=by
 obtain ⟨c1,c2,rfl,⟨rfl,l1⟩,⟨c3,c4,rfl,⟨rfl,l2⟩,⟨rfl,l3⟩⟩⟩:=h
 exact .agg _ _ (.cons _ _ _ _ (.str _ l1) (.cons _ _ _ _ (.str _ l2) (.cons _ _ _ _ (.str _ l3) .nil)))
end
end Go.Eng
end
section
set_option linter.unusedVariables false
set_option linter.unusedVariables false
namespace IB
def valB (B:Nat):List Int→Int
 | []=>0
 | x::r=>x+B*valB B r
def InB (B:Nat) (l:List Int):Prop:=∀x∈l,0≤x∧x<B
theorem InB.nil {B:Nat}:InB B []:=fun x h=>by simp at h
theorem InB.cons {B:Nat} {x:Int} {l:List Int}:InB B (x::l)↔(0≤x∧x<B)∧InB B l:=by
 unfold InB;simp
theorem InB.append {B:Nat} {l m:List Int}:InB B (l++m)↔InB B l∧InB B m:=by
 unfold InB
 constructor
 ·intro h;exact ⟨fun x hx=>h x (List.mem_append_left _ hx),fun x hx=>h x (List.mem_append_right _ hx)⟩
 ·rintro ⟨h1,h2⟩ x hx
  rcases List.mem_append.1 hx with h | h
  ·exact h1 x h
  ·exact h2 x h
theorem InB.get {B:Nat} {l:List Int} (h:InB B l) {i:Nat} (hi:i<l.length):0≤l.getD i 0∧l.getD i 0<B:=by
 have e:l.getD i 0=l[i]:=by simp[List.getD_eq_getElem?_getD,hi]
 rw[e];exact h _ (List.getElem_mem hi)
theorem InB.getD0 {B:Nat} (hB:0<B) {l:List Int} (h:InB B l) (i:Nat):0≤l.getD i 0∧l.getD i 0<B:=by
 by_cases hi:i<l.length
 ·exact h.get hi
 ·have e:l.getD i 0=0:=by rw[List.getD_eq_getElem?_getD,List.getElem?_eq_none (by omega)];rfl
  rw[e];omega
theorem bA {B:Nat}:∀ {l:List Int},InB B l→0≤valB B l
 | [],_=>Int.le_refl _
 | x::r,h=>by
  obtain ⟨h1,h2⟩:=InB.cons.1 h
  have:=bA h2
  have:0≤(B:Int)*valB B r:=Int.mul_nonneg (by omega) this
  simp only[valB];omega
theorem kK {B:Nat}:∀ {l:List Int},InB B l→valB B l<(B:Int)^l.length
 | [],_=>by simp[valB]
 | x::r,h=>by
  obtain ⟨h1,h2⟩:=InB.cons.1 h
  have h3:=kK h2
  have h4:(B:Int)*(valB B r+1)≤B*B^r.length:=Int.mul_le_mul_of_nonneg_left (by omega) (by omega)
  rw[Int.mul_add,Int.mul_one] at h4
  simp only[valB,List.length_cons]
  rw[Int.pow_succ,Int.mul_comm (_ ^ _)]
  omega
theorem fX {B:Nat} (m:List Int):∀l:List Int,valB B (l++m)=valB B l+(B:Int)^l.length*valB B m
 | []=>by simp[valB]
 | x::r=>by
  simp only[List.cons_append,valB,List.length_cons]
  rw[fX m r,Int.mul_add,Int.pow_succ,Int.mul_comm (_ ^ _) (B:Int),Int.mul_assoc]
  omega
theorem kA {B:Nat} (l:List Int) (x:Int):valB B (l++ [x])=valB B l+(B:Int)^l.length*x:=by
 rw[fX];simp[valB]
theorem kZ {B:Nat} (n:Nat):valB B (List.replicate n 0)=0:=by
 induction n with
 | zero=>rfl
 | succ n ih=>rw[List.replicate_succ];simp[valB,ih]
def aB (B:Nat) (n:Nat):List Int:=if h:2≤B∧0<n then ((n%B:Nat):Int)::aB B (n/B) else []
termination_by n
decreasing_by exact Nat.div_lt_self h.2 (by omega)
theorem aV (B:Nat):aB B 0= []:=by rw[aB,dif_neg (by omega)]
theorem sI {B n:Nat} (hB:2≤B) (hn:0<n):aB B n=((n%B:Nat):Int)::aB B (n/B):=by rw[aB,dif_pos ⟨hB,hn⟩]
theorem aQ {B:Nat} (hB:2≤B):∀n:Nat,InB B (aB B n):=by
 intro n
 induction n using Nat.strongRecOn with
 | _ n ih=>
  by_cases hn:0<n
  ·rw[sI hB hn,InB.cons]
   have:=Nat.mod_lt n (show 0<B by omega)
   exact ⟨⟨by omega,by omega⟩,ih _ (Nat.div_lt_self hn (by omega))⟩
  ·obtain rfl:n=0:=by omega
   rw[aV];exact InB.nil
theorem cP {B:Nat} (hB:2≤B):∀n:Nat,valB B (aB B n)=n:=by
 intro n
 induction n using Nat.strongRecOn with
 | _ n ih=>
  by_cases hn:0<n
  ·rw[sI hB hn]
   simp only[valB]
   rw[ih _ (Nat.div_lt_self hn (by omega))]
   have:=Nat.mod_add_div n B
   exact_mod_cast this
  ·obtain rfl:n=0:=by omega
   rw[aV];rfl
theorem iC {B n:Nat} (hB:2≤B):aB B n= []↔n=0:=by
 constructor
 ·intro h
  have:=cP hB n
  rw[h] at this
  simp[valB] at this
  omega
 ·rintro rfl;exact aV B
theorem xG {B:Nat} (hB:2≤B):∀ {l:List Int},InB B l→(∀h:l≠ [],l.getLast h≠0)→l=aB B (valB B l).toNat
 | [],_,_=>by simp[valB,aV]
 | x::r,h,hl=>by
  obtain ⟨h1,h2⟩:=InB.cons.1 h
  obtain ⟨a,rfl⟩:=Int.eq_ofNat_of_zero_le h1.1
  have ha:a<B:=by omega
  have hv:=bA h2
  obtain ⟨b,hb⟩:=Int.eq_ofNat_of_zero_le hv
  have e:(valB B ((a:Int)::r)).toNat=a+B*b:=by
   simp only[valB];rw[hb]
   have:(a:Int)+(B:Int)*(b:Int)=((a+B*b:Nat):Int):=by simp
   show ((a:Int)+(B:Int)*(b:Int)).toNat= _
   rw[this];exact Int.toNat_natCast _
  rw[e]
  have hpos:0<a+B*b:=by
   cases r with
   | nil=>
    have:=hl (by simp)
    simp at this
    omega
   | cons y s=>
    have ih:=xG hB h2 (fun hne=>by have:=hl (by simp);simpa using this)
    have:b≠0:=fun h0=>by
     subst h0
     rw[hb] at ih
     rw[Int.toNat_natCast,aV] at ih;cases ih
    have:=Nat.mul_pos (show 0<B by omega) (Nat.pos_of_ne_zero this)
    omega
  rw[sI hB hpos]
  have e1:(a+B*b)%B=a:=by rw[Nat.add_mul_mod_self_left,Nat.mod_eq_of_lt ha]
  have e2:(a+B*b)/B=b:=by rw[Nat.add_mul_div_left _ _ (by omega),Nat.div_eq_of_lt ha,Nat.zero_add]
  rw[e1,e2]
  have ih:=xG hB h2 (fun hne=>by
   have:=hl (by simp)
   rw[List.getLast_cons hne] at this
   exact this)
  rw[hb] at ih
  rw[Int.toNat_natCast] at ih
  rw[← ih]
def bX (l:List Int):List Int:=(l.reverse.dropWhile (· ==0)).reverse
theorem dM (l:List Int):bX (l++ [0])=bX l:=by simp[bX]
theorem jL (l:List Int) (x:Int) (h:x≠0):bX (l++ [x])=l++ [x]:=by simp[bX,h]
theorem sJ (P:List Int→Prop) (h0:P []) (h1:∀l x,P l→P (l++ [x])) (l:List Int):P l:=by
 have:∀n (l:List Int),l.length=n→P l:=by
  intro n
  induction n with
  | zero=>intro l hl;rw[List.length_eq_zero_iff.1 hl];exact h0
  | succ n ih=>
   intro l hl
   have hne:l≠ []:=fun e=>by rw[e] at hl;simp at hl
   rw[← List.dropLast_concat_getLast hne]
   exact h1 _ _ (ih _ (by simp[hl]))
 exact this _ l rfl
theorem aO2 {B:Nat} {l:List Int}:InB B l→InB B (bX l):=by
 refine sJ (fun l=>InB B l→InB B (bX l)) (fun h=>h) (fun l x ih h=>?_) l
 obtain ⟨h1,h2⟩:=InB.append.1 h
 by_cases e:x=0
 ·subst e;rw[dM];exact ih h1
 ·rw[jL _ _ e];exact h
theorem aM5 {B:Nat} (l:List Int):valB B (bX l)=valB B l:=by
 refine sJ (fun l=>valB B (bX l)=valB B l) rfl (fun l x ih=>?_) l
 by_cases e:x=0
 ·subst e;rw[dM,kA,ih];simp
 ·rw[jL _ _ e]
theorem aAh (l:List Int):∀h:bX l≠ [],(bX l).getLast h≠0:=by
 refine sJ (fun l=>∀h:bX l≠ [],(bX l).getLast h≠0) (fun h=>(h rfl).elim) (fun l x ih=>?_) l
 by_cases e:x=0
 ·subst e;simp only[dM];exact ih
 ·intro h;simp only[jL _ _ e];simp[e]
theorem cH {B:Nat} (hB:2≤B) {l:List Int} (h:InB B l):bX l=aB B (valB B l).toNat:=by
 rw[← aM5 l]
 exact xG hB (aO2 h) (aAh l)
theorem mH {B:Nat} (hB:2≤B) (n:Nat):∀h:aB B n≠ [],(aB B n).getLast h≠0:=by
 have h1:=cH hB (aQ hB n)
 rw[cP hB,Int.toNat_natCast] at h1
 rw[← h1];exact aAh _
end IB
end
section
set_option linter.unusedVariables false
set_option linter.unusedVariables false
namespace IB
def valN (B:Nat) (l:List Int):Nat→Int
 | 0=>0
 | k+1=>valN B l k+(B:Int)^k*l.getD k 0
theorem jM (B:Nat) (l:List Int):∀k,k≤l.length→valN B l k=valB B (l.take k)
 | 0,_=>by simp[valN,valB]
 | k+1,h=>by
  have e:l.getD k 0=l[k]:=by simp[List.getD_eq_getElem?_getD,show k<l.length by omega]
  rw[valN,jM B l k (by omega),List.take_succ_eq_append_getElem (show k<l.length by omega),kA,e,List.length_take,Nat.min_eq_left (by omega)]
theorem dN (B:Nat) (l:List Int):∀k,l.length≤k→valN B l k=valB B l
 | 0,h=>by
  have:l= []:=List.length_eq_zero_iff.1 (by omega)
  subst this;rfl
 | k+1,h=>by
  by_cases e:l.length=k+1
  ·rw[jM B l (k+1) (by omega),List.take_of_length_le (by omega)]
  ·have e2:l.getD k 0=0:=by rw[List.getD_eq_getElem?_getD,List.getElem?_eq_none (by omega)];rfl
   rw[valN,e2,dN B l k (by omega)];simp
def addK (B:Nat) (a b:List Int):Nat→List Int × Int
 | 0=>([],0)
 | k+1=>((addK B a b k).1++ [(a.getD k 0+b.getD k 0+(addK B a b k).2)%B],(a.getD k 0+b.getD k 0+(addK B a b k).2)/B)
def subK (B:Nat) (a b:List Int):Nat→List Int × Int
 | 0=>([],0)
 | k+1=>((subK B a b k).1++ [if 0≤a.getD k 0-b.getD k 0-(subK B a b k).2 then a.getD k 0-b.getD k 0-(subK B a b k).2 else a.getD k 0-b.getD k 0-(subK B a b k).2+B],
   if 0≤a.getD k 0-b.getD k 0-(subK B a b k).2 then 0 else 1)
theorem dI {B:Nat} (hB:2≤B) (k:Nat):0<(B:Int)^k:=Int.pow_pos (by omega)
theorem jN {B:Nat} (hB:2≤B) {a b:List Int} (ha:InB B a) (hb:InB B b):∀k,(addK B a b k).1.length=k∧InB B (addK B a b k).1∧(0≤(addK B a b k).2∧(addK B a b k).2≤1)∧
  valB B (addK B a b k).1+(B:Int)^k*(addK B a b k).2=valN B a k+valN B b k
 | 0=>⟨rfl,InB.nil,by simp[addK],by simp[addK,valB,valN]⟩
 | k+1=>by
  obtain ⟨h1,h2,h3,h4⟩:=jN hB ha hb k
  have g1:=ha.getD0 (by omega) k
  have g2:=hb.getD0 (by omega) k
  simp only[addK]
  generalize (addK B a b k).1=o at h1 h2 h4 ⊢
  generalize (addK B a b k).2=c at h3 h4 ⊢
  have hm:=Int.emod_nonneg (a.getD k 0+b.getD k 0+c) (show (B:Int)≠0 by omega)
  have hm2:=Int.emod_lt_of_pos (a.getD k 0+b.getD k 0+c) (show 0<(B:Int) by omega)
  have hd:=Int.emod_add_mul_ediv (a.getD k 0+b.getD k 0+c) B
  have hd0:0≤(a.getD k 0+b.getD k 0+c)/B:=Int.ediv_nonneg (by omega) (by omega)
  have hd1:(a.getD k 0+b.getD k 0+c)/B<2:=Int.ediv_lt_of_lt_mul (by omega) (by omega)
  refine ⟨by simp[h1],InB.append.2 ⟨h2,InB.cons.2 ⟨⟨hm,hm2⟩,InB.nil⟩⟩,⟨hd0,by omega⟩,?_⟩
  rw[kA,h1,valN,valN,Int.pow_succ,Int.mul_assoc]
  have e:(B:Int)^k*((a.getD k 0+b.getD k 0+c)%B)+(B:Int)^k*((B:Int)*((a.getD k 0+b.getD k 0+c)/B))=(B:Int)^k*a.getD k 0+(B:Int)^k*b.getD k 0+(B:Int)^k*c:=by
   rw[← Int.mul_add,hd,Int.mul_add,Int.mul_add]
  omega
theorem oQ {B:Nat} (hB:2≤B) {a b:List Int} (ha:InB B a) (hb:InB B b):∀k,(subK B a b k).1.length=k∧InB B (subK B a b k).1∧(0≤(subK B a b k).2∧(subK B a b k).2≤1)∧
  valB B (subK B a b k).1-(B:Int)^k*(subK B a b k).2=valN B a k-valN B b k
 | 0=>⟨rfl,InB.nil,by simp[subK],by simp[subK,valB,valN]⟩
 | k+1=>by
  obtain ⟨h1,h2,h3,h4⟩:=oQ hB ha hb k
  have g1:=ha.getD0 (by omega) k
  have g2:=hb.getD0 (by omega) k
  simp only[subK]
  generalize (subK B a b k).1=o at h1 h2 h4 ⊢
  generalize (subK B a b k).2=c at h3 h4 ⊢
  by_cases hn:0≤a.getD k 0-b.getD k 0-c
  ·rw[if_pos hn,if_pos hn]
   refine ⟨by simp[h1],InB.append.2 ⟨h2,InB.cons.2 ⟨⟨hn,by omega⟩,InB.nil⟩⟩,by omega,?_⟩
   rw[kA,h1,valN,valN,Int.mul_sub,Int.mul_sub]
   omega
  ·rw[if_neg hn,if_neg hn]
   refine ⟨by simp[h1],InB.append.2 ⟨h2,InB.cons.2 ⟨⟨by omega,by omega⟩,InB.nil⟩⟩,by omega,?_⟩
   rw[kA,h1,valN,valN,Int.mul_add,Int.mul_sub,Int.mul_sub,Int.pow_succ]
   omega
theorem dB {B:Nat} (hB:2≤B) {m n:Nat} (h:m≤n):(B:Int)^m≤(B:Int)^n:=by
 have:B^m≤B^n:=Nat.pow_le_pow_right (by omega) h
 exact_mod_cast this
theorem eU {B:Nat} (hB:2≤B) {l:List Int} (h:InB B l) {n:Nat} (hn:l.length≤n):valB B l<(B:Int)^n:=Int.lt_of_lt_of_le (kK h) (dB hB hn)
theorem aM6 {B:Nat} (hB:2≤B) {a b:List Int} (ha:InB B a) (hb:InB B b) {n:Nat} (h1:a.length≤n) (h2:b.length≤n):bX (addK B a b (n+1)).1=aB B (valB B a+valB B b).toNat:=by
 obtain ⟨l1,l2,l3,l4⟩:=jN hB ha hb (n+1)
 rw[dN _ _ _ (by omega),dN _ _ _ (by omega)] at l4
 have v1:=eU hB ha h1
 have v2:=eU hB hb h2
 have v3:=bA l2
 have hc:(addK B a b (n+1)).2=0:=by
  by_cases e:(addK B a b (n+1)).2=0
  ·exact e
  ·have e1:(addK B a b (n+1)).2=1:=by omega
   rw[e1,Int.mul_one,Int.pow_succ] at l4
   have:(B:Int)^n*2≤(B:Int)^n*B:=Int.mul_le_mul_of_nonneg_left (by omega) (Int.le_of_lt (dI hB n))
   omega
 rw[hc,Int.mul_zero,Int.add_zero] at l4
 rw[cH hB l2,l4]
theorem aE7 {B:Nat} (hB:2≤B) {a b:List Int} (ha:InB B a) (hb:InB B b) {n:Nat} (h1:a.length≤n) (h2:b.length≤n) (hle:valB B b≤valB B a):bX (subK B a b n).1=aB B (valB B a-valB B b).toNat∧(subK B a b n).2=0:=by
 obtain ⟨l1,l2,l3,l4⟩:=oQ hB ha hb n
 rw[dN _ _ _ h1,dN _ _ _ h2] at l4
 have v3:=kK l2
 rw[l1] at v3
 have hc:(subK B a b n).2=0:=by
  by_cases e:(subK B a b n).2=0
  ·exact e
  ·have e1:(subK B a b n).2=1:=by omega
   rw[e1,Int.mul_one] at l4
   omega
 rw[hc,Int.mul_zero,Int.sub_zero] at l4
 exact ⟨by rw[cH hB l2,l4],hc⟩
end IB
end
section
set_option linter.unusedVariables false
set_option linter.unusedVariables false
namespace IB
theorem rJ {B:Nat} (y:Int):∀(l:List Int) (j:Nat),j<l.length→valB B (l.set j y)=valB B l+(B:Int)^j*(y-l.getD j 0)
 | [],j,h=>by simp at h
 | x::r,0,h=>by simp only[List.set_cons_zero,valB,List.getD_cons_zero,Int.pow_zero,Int.one_mul];omega
 | x::r,j+1,h=>by
  simp only[List.set_cons_succ,valB,List.getD_cons_succ]
  rw[rJ y r j (by simpa using h),Int.mul_add,Int.pow_succ,Int.mul_comm (_ ^ _) (B:Int),Int.mul_assoc]
  omega
theorem eV (l:List Int) (k:Nat) (x:Int) (h:k<l.length) (i:Nat):(l.set k x).getD i 0=if i=k then x else l.getD i 0:=by
 rw[List.getD_eq_getElem?_getD,List.getElem?_set]
 by_cases e:i=k
 ·subst e;simp[h]
 ·rw[if_neg (fun e'=>e e'.symm),if_neg e,List.getD_eq_getElem?_getD]
theorem sL {B:Nat} {l:List Int} (h:InB B l) (k:Nat) {x:Int} (hx:0≤x∧x<B):InB B (l.set k x):=fun y hy=>by
 rcases List.mem_or_eq_of_mem_set hy with h1 | h1
 ·exact h y h1
 ·rw[h1];exact hx
theorem eA (l:List Int) (i:Nat) (h:l.length≤i):l.getD i 0=0:=by rw[List.getD_eq_getElem?_getD,List.getElem?_eq_none h];rfl
def mulK (B:Nat) (x:Int) (b:List Int) (i:Nat) (out:List Int):Nat→List Int × Int
 | 0=>(out,0)
 | k+1=>((mulK B x b i out k).1.set (i+k) (((mulK B x b i out k).1.getD (i+k) 0+x*b.getD k 0+(mulK B x b i out k).2)%B),((mulK B x b i out k).1.getD (i+k) 0+x*b.getD k 0+(mulK B x b i out k).2)/B)
def mulR (B:Nat) (a b out:List Int):Nat→List Int
 | 0=>out
 | i+1=>(mulK B (a.getD i 0) b i (mulR B a b out i) (b.length+1)).1
theorem iE {B:Nat} (hB:2≤B) {x:Int} (hx:0≤x∧x<B) {b:List Int} (hb:InB B b) {i:Nat} {out:List Int} (ho:InB B out):∀k,i+k≤out.length→(mulK B x b i out k).1.length=out.length∧InB B (mulK B x b i out k).1∧
  (0≤(mulK B x b i out k).2∧(mulK B x b i out k).2<B)∧valB B (mulK B x b i out k).1+(B:Int)^ (i+k)*(mulK B x b i out k).2=valB B out+(B:Int)^i*(x*valN B b k)∧
  (∀j,i+k≤j→(mulK B x b i out k).1.getD j 0=out.getD j 0)∧∀j,j<i→(mulK B x b i out k).1.getD j 0=out.getD j 0
 | 0,_=>⟨rfl,ho,by simp only[mulK];omega,by simp[mulK,valN],fun _ _=>rfl,fun _ _=>rfl⟩
 | k+1,hk=>by
  obtain ⟨h1,h2,h3,h4,h5,h6⟩:=iE hB hx hb (i:=i) ho k (by omega)
  have g1:=hb.getD0 (by omega) k
  have g2:=h2.getD0 (by omega) (i+k)
  simp only[mulK]
  generalize (mulK B x b i out k).1=o at h1 h2 h4 h5 h6 g2 ⊢
  generalize (mulK B x b i out k).2=c at h3 h4 ⊢
  have hp0:0≤x*b.getD k 0:=Int.mul_nonneg hx.1 g1.1
  have hp1:x*b.getD k 0≤((B:Int)-1)*((B:Int)-1):=Int.mul_le_mul (by omega) (by omega) g1.1 (by omega)
  have hsq:((B:Int)-1)*((B:Int)-1)=(B:Int)*B-B-B+1:=by rw[Int.sub_mul,Int.mul_sub,Int.mul_one,Int.one_mul];omega
  rw[hsq] at hp1
  have hm:=Int.emod_nonneg (o.getD (i+k) 0+x*b.getD k 0+c) (show (B:Int)≠0 by omega)
  have hm2:=Int.emod_lt_of_pos (o.getD (i+k) 0+x*b.getD k 0+c) (show 0<(B:Int) by omega)
  have hd:=Int.emod_add_mul_ediv (o.getD (i+k) 0+x*b.getD k 0+c) B
  have hd0:0≤(o.getD (i+k) 0+x*b.getD k 0+c)/B:=Int.ediv_nonneg (by omega) (by omega)
  have hd1:(o.getD (i+k) 0+x*b.getD k 0+c)/B<B:=Int.ediv_lt_of_lt_mul (by omega) (by omega)
  generalize (o.getD (i+k) 0+x*b.getD k 0+c)%B=m at hm hm2 hd ⊢
  generalize (o.getD (i+k) 0+x*b.getD k 0+c)/B=d at hd hd0 hd1 ⊢
  refine ⟨by rw[List.length_set,h1],sL h2 _ ⟨hm,hm2⟩,⟨hd0,hd1⟩,?_,fun j hj=>?_,fun j hj=>?_⟩
  ·rw[rJ _ _ _ (by omega),valN,← Nat.add_assoc,Int.pow_succ]
   have e1:x*(valN B b k+(B:Int)^k*b.getD k 0)=x*valN B b k+(B:Int)^k*(x*b.getD k 0):=by
    rw[Int.mul_add,← Int.mul_assoc,← Int.mul_assoc,Int.mul_comm x ((B:Int)^k)]
   have e2:(B:Int)^i*((B:Int)^k*(x*b.getD k 0))=(B:Int)^ (i+k)*(x*b.getD k 0):=by rw[← Int.mul_assoc,Int.pow_add]
   rw[e1,Int.mul_add,e2,Int.mul_assoc]
   have e3:(B:Int)^ (i+k)*(m-o.getD (i+k) 0)+(B:Int)^ (i+k)*((B:Int)*d)=(B:Int)^ (i+k)*(x*b.getD k 0)+(B:Int)^ (i+k)*c:=by
    rw[← Int.mul_add,← Int.mul_add]
    congr 1
    omega
   omega
  ·rw[eV _ _ _ (by omega),if_neg (by omega),h5 j (by omega)]
  ·rw[eV _ _ _ (by omega),if_neg (by omega),h6 j hj]
theorem aE8 {B:Nat} (hB:2≤B) {x:Int} (hx:0≤x∧x<B) {b:List Int} (hb:InB B b) {i:Nat} {out:List Int} (ho:InB B out) (hl:i+b.length+1≤out.length) (hz:out.getD (i+b.length) 0=0):
  (mulK B x b i out (b.length+1)).2=0∧valB B (mulK B x b i out (b.length+1)).1=valB B out+(B:Int)^i*(x*valB B b):=by
 obtain ⟨h1,h2,h3,h4,h5,h6⟩:=iE hB hx hb (i:=i) ho b.length (by omega)
 obtain ⟨g1,g2,g3,g4,g5,g6⟩:=iE hB hx hb (i:=i) ho (b.length+1) (by omega)
 have hc:(mulK B x b i out (b.length+1)).2=0:=by
  simp only[mulK]
  rw[h5 _ (Nat.le_refl _),hz,eA b b.length (Nat.le_refl _),Int.mul_zero,Int.zero_add,Int.zero_add]
  exact Int.ediv_eq_zero_of_lt h3.1 h3.2
 rw[hc,Int.mul_zero,Int.add_zero,dN _ _ _ (by omega)] at g4
 exact ⟨hc,g4⟩
theorem oR {B:Nat} (hB:2≤B) {a b:List Int} (ha:InB B a) (hb:InB B b) {n:Nat} (hn:a.length+b.length+1≤n):∀i,i≤a.length→(mulR B a b (List.replicate n 0) i).length=n∧InB B (mulR B a b (List.replicate n 0) i)∧
  valB B (mulR B a b (List.replicate n 0) i)=valN B a i*valB B b∧∀j,i+b.length≤j→(mulR B a b (List.replicate n 0) i).getD j 0=0
 | 0,_=>by
  refine ⟨by simp[mulR],fun x hx=>?_,by simp[mulR,kZ,valN],fun j hj=>?_⟩
  ·rw[(List.mem_replicate.1 hx).2];omega
  ·simp only[mulR];rw[List.getD_eq_getElem?_getD,List.getElem?_replicate];split<;>rfl
 | i+1,hi=>by
  obtain ⟨h1,h2,h3,h4⟩:=oR hB ha hb hn i (by omega)
  have hx:=ha.get (show i<a.length by omega)
  simp only[mulR]
  generalize mulR B a b (List.replicate n 0) i=o at h1 h2 h3 h4 ⊢
  obtain ⟨g1,g2,g3,g4,g5,g6⟩:=iE hB hx hb (i:=i) h2 (b.length+1) (by omega)
  obtain ⟨r1,r2⟩:=aE8 hB hx hb (i:=i) h2 (by omega) (h4 _ (Nat.le_refl _))
  refine ⟨by rw[g1,h1],g2,?_,fun j hj=>by rw[g5 j (by omega)];exact h4 j (by omega)⟩
  rw[r2,h3,valN,Int.add_mul,Int.mul_assoc]
theorem aE9 {B:Nat} (hB:2≤B) {a b:List Int} (ha:InB B a) (hb:InB B b) {n:Nat} (hn:a.length+b.length+1≤n):bX (mulR B a b (List.replicate n 0) a.length)=aB B (valB B a*valB B b).toNat:=by
 obtain ⟨h1,h2,h3,h4⟩:=oR hB ha hb hn a.length (Nat.le_refl _)
 rw[cH hB h2,h3,dN _ _ _ (Nat.le_refl _)]
end IB
end
section
set_option linter.unusedVariables false
set_option linter.unusedVariables false
namespace IB
def divK (B:Nat) (d:Int) (a:List Int):Nat→List Int × Int
 | 0=>(List.replicate a.length 0,0)
 | m+1=>((divK B d a m).1.set (a.length-1-m) ((a.getD (a.length-1-m) 0+(divK B d a m).2*B)/d),(a.getD (a.length-1-m) 0+(divK B d a m).2*B)%d)
theorem bF (l:List Int) (i:Nat) (h:i<l.length):l.drop i=l.getD i 0::l.drop (i+1):=by
 rw[List.drop_eq_getElem_cons h]
 congr 1
 simp[List.getD_eq_getElem?_getD,h]
theorem jO {B:Nat} (hB:2≤B) {d:Int} (hd:0<d) {a:List Int} (ha:InB B a):∀m,m≤a.length→(divK B d a m).1.length=a.length∧InB B (divK B d a m).1∧(0≤(divK B d a m).2∧(divK B d a m).2<d)∧
  valB B ((divK B d a m).1.drop (a.length-m))*d+(divK B d a m).2=valB B (a.drop (a.length-m))
 | 0,_=>by
  refine ⟨by simp[divK],fun x hx=>?_,by simp only[divK];omega,?_⟩
  ·rw[(List.mem_replicate.1 hx).2];omega
  ·simp only[divK]
   rw[List.drop_eq_nil_of_le (by simp),List.drop_eq_nil_of_le (by omega)];simp[valB]
 | m+1,hm=>by
  obtain ⟨h1,h2,h3,h4⟩:=jO hB hd ha m (by omega)
  obtain ⟨i,hi⟩:∃i,a.length-1-m=i:=⟨_,rfl⟩
  have e1:a.length-m=i+1:=by omega
  have e2:a.length-(m+1)=i:=by omega
  have g1:=ha.get (show i<a.length by omega)
  simp only[divK]
  rw[hi,e2]
  rw[e1] at h4
  generalize (divK B d a m).1=q at h1 h2 h4 ⊢
  generalize (divK B d a m).2=r at h3 h4 ⊢
  have hn0:0≤r*B:=Int.mul_nonneg h3.1 (by omega)
  have hn1:r*B≤(d-1)*B:=Int.mul_le_mul_of_nonneg_right (by omega) (by omega)
  rw[Int.sub_mul,Int.one_mul] at hn1
  have hm0:=Int.emod_nonneg (a.getD i 0+r*B) (show d≠0 by omega)
  have hm1:=Int.emod_lt_of_pos (a.getD i 0+r*B) hd
  have hdv:=Int.emod_add_mul_ediv (a.getD i 0+r*B) d
  have hq0:0≤(a.getD i 0+r*B)/d:=Int.ediv_nonneg (by omega) (by omega)
  have hq1:(a.getD i 0+r*B)/d<B:=Int.ediv_lt_of_lt_mul hd (by rw[Int.mul_comm (B:Int) d];omega)
  generalize (a.getD i 0+r*B)/d=y at hdv hq0 hq1 ⊢
  generalize (a.getD i 0+r*B)%d=z at hdv hm0 hm1 ⊢
  refine ⟨by rw[List.length_set,h1],sL h2 _ ⟨hq0,hq1⟩,⟨hm0,hm1⟩,?_⟩
  have e3:(q.set i y).drop i=y::q.drop (i+1):=by
   rw[bF _ _ (by rw[List.length_set];omega),eV _ _ _ (by omega),if_pos rfl,List.drop_set_of_lt (by omega)]
  rw[e3,bF a i (by omega)]
  simp only[valB]
  rw[← h4,Int.add_mul,Int.mul_add,Int.mul_assoc,Int.mul_comm y d,Int.mul_comm (B:Int) r]
  omega
theorem aFa {B:Nat} (hB:2≤B) {d:Int} (hd:0<d) (hdB:d<B) {a:List Int} (ha:InB B a):
  bX (divK B d a a.length).1=aB B (valB B a/d).toNat∧(divK B d a a.length).2=valB B a%d∧bX [(divK B d a a.length).2]=aB B (valB B a%d).toNat:=by
 obtain ⟨h1,h2,h3,h4⟩:=jO hB hd ha a.length (Nat.le_refl _)
 rw[Nat.sub_self,List.drop_zero,List.drop_zero] at h4
 have h5:valB B a/d=valB B (divK B d a a.length).1∧valB B a%d=(divK B d a a.length).2:=by
  rw[Int.ediv_emod_unique hd]
  exact ⟨by rw[Int.add_comm,Int.mul_comm];exact h4,h3.1,h3.2⟩
 refine ⟨by rw[cH hB h2,h5.1],h5.2.symm,?_⟩
 rw[cH hB (InB.cons.2 ⟨⟨h3.1,by omega⟩,InB.nil⟩),h5.2]
 simp[valB]
theorem dG {B:Nat} (hB:2≤B) {n:Nat} (hn:0<n):(B:Int)^ ((aB B n).length-1)≤n∧(n:Int)<(B:Int)^ (aB B n).length∧0<(aB B n).length:=by
 have h1:=kK (aQ hB n)
 have hne:aB B n≠ []:=fun e=>by have:=(iC hB).1 e;omega
 have hl:=mH hB n hne
 have hpos:0<(aB B n).length:=List.length_pos_iff.2 hne
 have h2:=cP hB n
 rw[h2] at h1
 refine ⟨?_,h1,hpos⟩
 have hin:=aQ hB n
 rw[← List.dropLast_concat_getLast hne] at h2 hin
 obtain ⟨i1,i2⟩:=InB.append.1 hin
 obtain ⟨i3,_⟩:=InB.cons.1 i2
 rw[kA,List.length_dropLast] at h2
 have h3:=bA i1
 have h4:(B:Int)^ ((aB B n).length-1)*1≤(B:Int)^ ((aB B n).length-1)*(aB B n).getLast hne:=Int.mul_le_mul_of_nonneg_left (by omega) (Int.le_of_lt (dI hB _))
 omega
theorem gF {B:Nat} (hB:2≤B) {m n:Nat} (h:(aB B m).length<(aB B n).length):m<n:=by
 have hn:0<n:=by
  rcases Nat.eq_zero_or_pos n with e | e
  ·subst e;rw[aV] at h;simp at h
  ·exact e
 obtain ⟨h1,h2,h3⟩:=dG hB hn
 rcases Nat.eq_zero_or_pos m with e | e
 ·omega
 ·obtain ⟨g1,g2,g3⟩:=dG hB e
  have:=dB hB (show (aB B m).length≤(aB B n).length-1 by omega)
  omega
theorem uR {B:Nat} (hB:2≤B) {a b:List Int} (ha:InB B a) (hb:InB B b) (hl:a.length=b.length) {i:Nat} (hi:i<a.length) (heq:∀j,i<j→j<a.length→a.getD j 0=b.getD j 0) (hlt:a.getD i 0<b.getD i 0):valB B a<valB B b:=by
 have e1:valB B a=valN B a i+(B:Int)^i*valB B (a.drop i):=by
  rw[jM B a i (by omega)]
  have:=fX (B:=B) (a.drop i) (a.take i)
  rw[List.take_append_drop,List.length_take,Nat.min_eq_left (by omega)] at this
  exact this
 have e2:valB B b=valN B b i+(B:Int)^i*valB B (b.drop i):=by
  rw[jM B b i (by omega)]
  have:=fX (B:=B) (b.drop i) (b.take i)
  rw[List.take_append_drop,List.length_take,Nat.min_eq_left (by omega)] at this
  exact this
 have e3:a.drop (i+1)=b.drop (i+1):=by
  refine List.ext_getElem (by simp[hl]) fun j h1 h2=>?_
  rw[List.getElem_drop,List.getElem_drop]
  rw[List.length_drop] at h1
  have:=heq (i+1+j) (by omega) (by omega)
  simpa [List.getD_eq_getElem?_getD,show i+1+j<a.length by omega,show i+1+j<b.length by omega] using this
 rw[bF a i hi] at e1
 rw[bF b i (by omega),← e3] at e2
 simp only[valB] at e1 e2
 have v1:valN B a i<(B:Int)^i:=by
  rw[jM B a i (by omega)]
  have:=kK (B:=B) (l:=a.take i) (fun x hx=>ha x (List.mem_of_mem_take hx))
  rwa [List.length_take,Nat.min_eq_left (by omega)] at this
 have v2:0≤valN B b i:=by
  rw[jM B b i (by omega)]
  exact bA (fun x hx=>hb x (List.mem_of_mem_take hx))
 have h1:(B:Int)^i*(a.getD i 0+1)≤(B:Int)^i*b.getD i 0:=Int.mul_le_mul_of_nonneg_left (by omega) (Int.le_of_lt (dI hB i))
 rw[Int.mul_add,Int.mul_one] at h1
 rw[Int.mul_add] at e1 e2
 omega
theorem iF {a b:List Int} (hl:a.length=b.length) (h:∀j,j<a.length→a.getD j 0=b.getD j 0):a=b:=by
 refine List.ext_getElem hl fun j h1 h2=>?_
 have:=h j h1
 simpa [List.getD_eq_getElem?_getD,h1,h2] using this
end IB
end
section
set_option linter.unusedVariables false
set_option linter.unusedVariables false
namespace IB
def bJ (B:Nat) (u v:List Int) (j:Nat) (q:Int):Nat→List Int × Int
 | 0=>(u,0)
 | k+1=>
  let n:=(bJ B u v j q k).1.getD (j+k) 0-(bJ B u v j q k).2-q*v.getD k 0
  let c:=if n<0 then (-n+B-1)/B else 0
  ((bJ B u v j q k).1.set (j+k) (n+c*B),c)
theorem iH {B:Nat} (hB:2≤B) {u v:List Int} (hu:InB B u) (hv:InB B v) {j:Nat} {q:Int} (hq:0≤q):∀k,j+k≤u.length→(bJ B u v j q k).1.length=u.length∧InB B (bJ B u v j q k).1∧
  (0≤(bJ B u v j q k).2∧(bJ B u v j q k).2≤q+1)∧valB B (bJ B u v j q k).1-(B:Int)^ (j+k)*(bJ B u v j q k).2=valB B u-(B:Int)^j*(q*valN B v k)∧
  (∀i,j+k≤i→(bJ B u v j q k).1.getD i 0=u.getD i 0)∧∀i,i<j→(bJ B u v j q k).1.getD i 0=u.getD i 0
 | 0,_=>⟨rfl,hu,by simp only[bJ];omega,by simp[bJ,valN],fun _ _=>rfl,fun _ _=>rfl⟩
 | k+1,hk=>by
  obtain ⟨h1,h2,h3,h4,h5,h6⟩:=iH hB hu hv (j:=j) hq k (by omega)
  have g1:=hv.getD0 (by omega) k
  have g2:=h2.getD0 (by omega) (j+k)
  simp only[bJ]
  generalize (bJ B u v j q k).1=o at h1 h2 h4 h5 h6 g2 ⊢
  generalize (bJ B u v j q k).2=c at h3 h4 ⊢
  have hp0:0≤q*v.getD k 0:=Int.mul_nonneg hq g1.1
  have hp1:q*v.getD k 0≤q*((B:Int)-1):=Int.mul_le_mul_of_nonneg_left (by omega) hq
  rw[Int.mul_sub,Int.mul_one] at hp1
  obtain ⟨n,hn⟩:∃n,o.getD (j+k) 0-c-q*v.getD k 0=n:=⟨_,rfl⟩
  rw[hn]
  obtain ⟨d,hd⟩:∃d,(if n<0 then (-n+(B:Int)-1)/B else 0)=d:=⟨_,rfl⟩
  rw[hd]
  have hdd:0≤d∧d≤q+1∧0≤n+d*B∧n+d*B<B:=by
   by_cases hneg:n<0
   ·rw[if_pos hneg] at hd
    have e1:=Int.emod_add_mul_ediv (-n+(B:Int)-1) B
    have e2:=Int.emod_nonneg (-n+(B:Int)-1) (show (B:Int)≠0 by omega)
    have e3:=Int.emod_lt_of_pos (-n+(B:Int)-1) (show 0<(B:Int) by omega)
    have e4:0≤(-n+(B:Int)-1)/B:=Int.ediv_nonneg (by omega) (by omega)
    have e5:(-n+(B:Int)-1)/B<q+2:=Int.ediv_lt_of_lt_mul (by omega) (by rw[Int.add_mul];omega)
    rw[hd] at e1 e4 e5
    rw[Int.mul_comm] at e1
    exact ⟨e4,by omega,by omega,by omega⟩
   ·rw[if_neg hneg] at hd
    subst hd
    rw[Int.zero_mul]
    omega
  refine ⟨by rw[List.length_set,h1],sL h2 _ hdd.2.2,⟨hdd.1,hdd.2.1⟩,?_,fun i hi=>?_,fun i hi=>?_⟩
  ·rw[rJ _ _ _ (by omega),valN,← Nat.add_assoc,Int.pow_succ]
   have e1:q*(valN B v k+(B:Int)^k*v.getD k 0)=q*valN B v k+(B:Int)^k*(q*v.getD k 0):=by
    rw[Int.mul_add,← Int.mul_assoc,← Int.mul_assoc,Int.mul_comm q ((B:Int)^k)]
   have e2:(B:Int)^j*((B:Int)^k*(q*v.getD k 0))=(B:Int)^ (j+k)*(q*v.getD k 0):=by rw[← Int.mul_assoc,Int.pow_add]
   rw[e1,Int.mul_add,e2,Int.mul_assoc]
   have e3:(B:Int)^ (j+k)*(n+d*B-o.getD (j+k) 0)-(B:Int)^ (j+k)*((B:Int)*d)= -((B:Int)^ (j+k)*(q*v.getD k 0))-(B:Int)^ (j+k)*c:=by
    rw[← Int.mul_sub,← Int.mul_neg,← Int.mul_sub]
    congr 1
    rw[Int.mul_comm d]
    omega
   omega
  ·rw[eV _ _ _ (by omega),if_neg (by omega),h5 i (by omega)]
  ·rw[eV _ _ _ (by omega),if_neg (by omega),h6 i hi]
theorem aI0 {B:Nat} (hB:2≤B):∀ {a b:List Int},InB B a→InB B b→a.length=b.length→valB B a=valB B b→a=b
 | [],[],_,_,_,_=>rfl
 | x::r,y::s,ha,hb,hl,hv=>by
  obtain ⟨a1,a2⟩:=InB.cons.1 ha
  obtain ⟨b1,b2⟩:=InB.cons.1 hb
  simp only[valB] at hv
  have e1:x=y:=by
   have h1:(x+(B:Int)*valB B r)%B=x:=by rw[Int.add_mul_emod_self_left,Int.emod_eq_of_lt a1.1 a1.2]
   have h2:(y+(B:Int)*valB B s)%B=y:=by rw[Int.add_mul_emod_self_left,Int.emod_eq_of_lt b1.1 b1.2]
   rw[← h1,← h2,hv]
  subst e1
  have e2:valB B r=valB B s:=by
   have:(B:Int)*valB B r=B*valB B s:=by omega
   exact Int.eq_of_mul_eq_mul_left (by omega) this
  rw[aI0 hB a2 b2 (by simpa using hl) e2]
 | [],_:: _,_,_,hl,_=>by simp at hl
 | _:: _,[],_,_,hl,_=>by simp at hl
theorem aKz {B V W v1 top P Q:Int} (hP:0<P) (hv1:0<v1) (hV:v1*P≤V) (hW:W<(top+1)*P) (hQ0:0≤Q) (hQ:Q*V≤W):Q≤top/v1:=by
 rw[Int.le_ediv_iff_mul_le hv1]
 have h1:Q*(v1*P)≤Q*V:=Int.mul_le_mul_of_nonneg_left hV hQ0
 rw[← Int.mul_assoc] at h1
 have h2:(Q*v1)*P<(top+1)*P:=by omega
 have:=Int.lt_of_mul_lt_mul_right h2 (Int.le_of_lt hP)
 omega
theorem aM7 {B V W v1 v2 u2 top q r P Q:Int} (hP:0<P) (hq:0≤q) (hB:0≤B) (hV:(v1*B+v2)*P≤V) (hV0:0≤V) (hW:W<(top*B+u2+1)*P) (htop:top=q*v1+r) (hbig:r*B+u2<q*v2) (hQ:Q*V≤W):Q≤q-1:=by
 apply Classical.byContradiction
 intro hn
 have hle:q≤Q:=by omega
 have h1:q*V≤Q*V:=Int.mul_le_mul_of_nonneg_right hle hV0
 have h2:q*((v1*B+v2)*P)≤q*V:=Int.mul_le_mul_of_nonneg_left hV hq
 rw[← Int.mul_assoc] at h2
 have h3:(q*(v1*B+v2))*P<(top*B+u2+1)*P:=by omega
 have h4:=Int.lt_of_mul_lt_mul_right h3 (Int.le_of_lt hP)
 rw[Int.mul_add,← Int.mul_assoc,htop,Int.add_mul] at h4
 omega
end IB
end
section
set_option linter.unusedVariables false
set_option linter.unusedVariables false
namespace IB
theorem sM {B:Nat} (hB:2≤B) {x:Int} (hx:0≤x) {b:List Int} (hb:InB B b) {i:Nat} {out:List Int} (ho:InB B out):∀k,i+k≤out.length→(mulK B x b i out k).1.length=out.length∧InB B (mulK B x b i out k).1∧
  (0≤(mulK B x b i out k).2∧(mulK B x b i out k).2≤x)∧valB B (mulK B x b i out k).1+(B:Int)^ (i+k)*(mulK B x b i out k).2=valB B out+(B:Int)^i*(x*valN B b k)∧
  (∀j,i+k≤j→(mulK B x b i out k).1.getD j 0=out.getD j 0)∧∀j,j<i→(mulK B x b i out k).1.getD j 0=out.getD j 0
 | 0,_=>⟨rfl,ho,by simp only[mulK];omega,by simp[mulK,valN],fun _ _=>rfl,fun _ _=>rfl⟩
 | k+1,hk=>by
  obtain ⟨h1,h2,h3,h4,h5,h6⟩:=sM hB hx hb (i:=i) ho k (by omega)
  have g1:=hb.getD0 (by omega) k
  have g2:=h2.getD0 (by omega) (i+k)
  simp only[mulK]
  generalize (mulK B x b i out k).1=o at h1 h2 h4 h5 h6 g2 ⊢
  generalize (mulK B x b i out k).2=c at h3 h4 ⊢
  have hp0:0≤x*b.getD k 0:=Int.mul_nonneg hx g1.1
  have hp1:x*b.getD k 0≤x*((B:Int)-1):=Int.mul_le_mul_of_nonneg_left (by omega) hx
  rw[Int.mul_sub,Int.mul_one] at hp1
  have hm:=Int.emod_nonneg (o.getD (i+k) 0+x*b.getD k 0+c) (show (B:Int)≠0 by omega)
  have hm2:=Int.emod_lt_of_pos (o.getD (i+k) 0+x*b.getD k 0+c) (show 0<(B:Int) by omega)
  have hd:=Int.emod_add_mul_ediv (o.getD (i+k) 0+x*b.getD k 0+c) B
  have hd0:0≤(o.getD (i+k) 0+x*b.getD k 0+c)/B:=Int.ediv_nonneg (by omega) (by omega)
  have hd1:(o.getD (i+k) 0+x*b.getD k 0+c)/B<x+1:=Int.ediv_lt_of_lt_mul (by omega) (by rw[Int.add_mul];omega)
  generalize (o.getD (i+k) 0+x*b.getD k 0+c)%B=m at hm hm2 hd ⊢
  generalize (o.getD (i+k) 0+x*b.getD k 0+c)/B=d at hd hd0 hd1 ⊢
  refine ⟨by rw[List.length_set,h1],sL h2 _ ⟨hm,hm2⟩,⟨hd0,by omega⟩,?_,fun j hj=>?_,fun j hj=>?_⟩
  ·rw[rJ _ _ _ (by omega),valN,← Nat.add_assoc,Int.pow_succ]
   have e1:x*(valN B b k+(B:Int)^k*b.getD k 0)=x*valN B b k+(B:Int)^k*(x*b.getD k 0):=by
    rw[Int.mul_add,← Int.mul_assoc,← Int.mul_assoc,Int.mul_comm x ((B:Int)^k)]
   have e2:(B:Int)^i*((B:Int)^k*(x*b.getD k 0))=(B:Int)^ (i+k)*(x*b.getD k 0):=by rw[← Int.mul_assoc,Int.pow_add]
   rw[e1,Int.mul_add,e2,Int.mul_assoc]
   have e3:(B:Int)^ (i+k)*(m-o.getD (i+k) 0)+(B:Int)^ (i+k)*((B:Int)*d)=(B:Int)^ (i+k)*(x*b.getD k 0)+(B:Int)^ (i+k)*c:=by
    rw[← Int.mul_add,← Int.mul_add]
    congr 1
    omega
   omega
  ·rw[eV _ _ _ (by omega),if_neg (by omega),h5 j (by omega)]
  ·rw[eV _ _ _ (by omega),if_neg (by omega),h6 j hj]
theorem aG6 {B:Nat} (hB:2≤B) {u v:List Int} (hu:InB B u) (hv:InB B v) {j:Nat} {q:Int} (hq:0≤q) {k:Nat} (hk:j+k≤u.length):(mulK B q v j (bJ B u v j q k).1 k).1=u:=by
 obtain ⟨h1,h2,h3,h4,h5,h6⟩:=iH hB hu hv (j:=j) hq k hk
 generalize (bJ B u v j q k).2=c at h3 h4
 obtain ⟨g1,g2,g3,g4,g5,g6⟩:=sM hB hq hv (i:=j) h2 k (by omega)
 generalize (mulK B q v j (bJ B u v j q k).1 k).2=c' at g3 g4
 generalize (mulK B q v j (bJ B u v j q k).1 k).1=w at g1 g2 g4 g5 g6 ⊢
 generalize (bJ B u v j q k).1=u1 at h1 h2 h4 h5 h6 g1 g4 g5 g6
 -- outside the window nothing has changed; within it the values agree but for a multiple
 have e0:valB B w+(B:Int)^ (j+k)*c'=valB B u+(B:Int)^ (j+k)*c:=by omega
 have sp:∀l:List Int,l.length=u.length→valB B l=valB B (l.take (j+k))+(B:Int)^ (j+k)*valB B (l.drop (j+k)):=fun l hl=>by
  have:=fX (B:=B) (l.drop (j+k)) (l.take (j+k))
  rw[List.take_append_drop,List.length_take,Nat.min_eq_left (by omega)] at this
  exact this
 have ed:w.drop (j+k)=u.drop (j+k):=by
  refine iF (by simp[g1,h1]) fun i hi=>?_
  have:=g5 (j+k+i) (by omega)
  rw[h5 _ (by omega)] at this
  simpa [List.getD_eq_getElem?_getD,List.getElem?_drop] using this
 have s1:=sp w (by omega)
 have s2:=sp u rfl
 rw[ed] at s1
 have b1:=kK (B:=B) (l:=w.take (j+k)) (fun x hx=>g2 x (List.mem_of_mem_take hx))
 have b2:=kK (B:=B) (l:=u.take (j+k)) (fun x hx=>hu x (List.mem_of_mem_take hx))
 have b3:=bA (B:=B) (l:=w.take (j+k)) (fun x hx=>g2 x (List.mem_of_mem_take hx))
 have b4:=bA (B:=B) (l:=u.take (j+k)) (fun x hx=>hu x (List.mem_of_mem_take hx))
 rw[List.length_take,Nat.min_eq_left (by omega)] at b1 b2
 have hP:=dI hB (j+k)
 have ec:c'=c:=by
  rcases Int.lt_trichotomy c' c with h | h | h
  ·have:(B:Int)^ (j+k)*(c'+1)≤(B:Int)^ (j+k)*c:=Int.mul_le_mul_of_nonneg_left (by omega) (Int.le_of_lt hP)
   rw[Int.mul_add,Int.mul_one] at this
   omega
  ·exact h
  ·have:(B:Int)^ (j+k)*(c+1)≤(B:Int)^ (j+k)*c':=Int.mul_le_mul_of_nonneg_left (by omega) (Int.le_of_lt hP)
   rw[Int.mul_add,Int.mul_one] at this
   omega
 subst ec
 exact aI0 hB g2 hu (by omega) (by omega)
end IB
end
section
set_option linter.unusedVariables false
set_option linter.unusedVariables false
namespace IB
theorem eJ {B:Nat} (l:List Int) (j:Nat) (hj:j≤l.length):valB B l=valB B (l.take j)+(B:Int)^j*valB B (l.drop j):=by
 have:=fX (B:=B) (l.drop j) (l.take j)
 rw[List.take_append_drop,List.length_take,Nat.min_eq_left hj] at this
 exact this
theorem jF {B:Nat} {l:List Int} (h:InB B l) (j:Nat):InB B (l.take j):=fun x hx=>h x (List.mem_of_mem_take hx)
theorem fQ {B:Nat} {l:List Int} (h:InB B l) (j:Nat):InB B (l.drop j):=fun x hx=>h x (List.mem_of_mem_drop hx)
theorem aAk {B:Nat} (hB:2≤B) {l:List Int} (h:InB B l) {n:Nat} (hv:valB B l<(B:Int)^n) (i:Nat) (hi:n≤i):l.getD i 0=0:=by
 by_cases hil:i<l.length
 ·have e1:=eJ (B:=B) l i (by omega)
  rw[bF l i hil] at e1
  simp only[valB] at e1
  have a1:=bA (jF h i)
  have a2:=bA (fQ h (i+1))
  have a3:=(h.get hil).1
  have a4:0≤(B:Int)*valB B (l.drop (i+1)):=Int.mul_nonneg (by omega) a2
  have hp:=dB hB hi
  apply Classical.byContradiction
  intro hne
  have:(B:Int)^i*1≤(B:Int)^i*(l.getD i 0+(B:Int)*valB B (l.drop (i+1))):=Int.mul_le_mul_of_nonneg_left (by omega) (Int.le_of_lt (dI hB i))
  omega
 ·exact eA l i (by omega)
theorem aI1 {B:Nat} (hB:2≤B) {l:List Int} (h:InB B l) {n:Nat} (hz:∀i,n≤i→l.getD i 0=0):valB B l<(B:Int)^n:=by
 by_cases hn:n≤l.length
 ·have e1:=eJ (B:=B) l n hn
  have e2:valB B (l.drop n)=0:=by
   have:l.drop n=List.replicate (l.length-n) 0:=by
    refine iF (by simp) fun j hj=>?_
    have:=hz (n+j) (by omega)
    rw[List.length_drop] at hj
    have hj':n+j<l.length:=by omega
    simpa [List.getD_eq_getElem?_getD,List.getElem?_drop,List.getElem?_replicate,hj,hj'] using this
   rw[this,kZ]
  rw[e2,Int.mul_zero,Int.add_zero] at e1
  rw[e1]
  have:=kK (jF h n)
  rwa [List.length_take,Nat.min_eq_left hn] at this
 ·exact eU hB h (by omega)
theorem nQ (l:List Int) (j i:Nat):(l.drop j).getD i 0=l.getD (j+i) 0:=by simp[List.getD_eq_getElem?_getD,List.getElem?_drop]
theorem aFb {B:Nat} (hB:2≤B) {u v:List Int} (hu:InB B u) (hv:InB B v) {j:Nat} {q:Int} (hq:0≤q) (hk:j+(v.length+1)≤u.length) (hz:∀i,j+(v.length+1)≤i→u.getD i 0=0):
  ((bJ B u v j q (v.length+1)).2=0↔q*valB B v≤valB B (u.drop j))∧
  ((bJ B u v j q (v.length+1)).2=0→valB B ((bJ B u v j q (v.length+1)).1.drop j)=valB B (u.drop j)-q*valB B v):=by
 obtain ⟨h1,h2,h3,h4,h5,h6⟩:=iH hB hu hv (j:=j) hq (v.length+1) hk
 rw[dN _ _ _ (by omega)] at h4
 generalize (bJ B u v j q (v.length+1)).2=c at h3 h4 ⊢
 generalize (bJ B u v j q (v.length+1)).1=w at h1 h2 h4 h5 h6 ⊢
 have s1:=eJ (B:=B) w j (by omega)
 have s2:=eJ (B:=B) u j (by omega)
 have et:w.take j=u.take j:=by
  refine iF (by simp[h1]) fun i hi=>?_
  rw[List.length_take] at hi
  have:=h6 i (by omega)
  simpa [List.getD_eq_getElem?_getD,show i<j by omega,List.getElem?_take] using this
 rw[et] at s1
 have hP:=dI hB j
 have key:valB B (w.drop j)-(B:Int)^ (v.length+1)*c=valB B (u.drop j)-q*valB B v:=by
  have e:(B:Int)^j*(valB B (w.drop j)-(B:Int)^ (v.length+1)*c)=(B:Int)^j*(valB B (u.drop j)-q*valB B v):=by
   rw[Int.mul_sub,Int.mul_sub,← Int.mul_assoc,← Int.pow_add]
   omega
  exact Int.eq_of_mul_eq_mul_left (by omega) e
 have b1:=bA (fQ h2 j)
 have b2:valB B (w.drop j)<(B:Int)^ (v.length+1):=aI1 hB (fQ h2 j) fun i hi=>by
  rw[nQ,h5 _ (by omega),hz _ (by omega)]
 have hP2:=dI hB (v.length+1)
 refine ⟨⟨fun hc=>?_,fun hle=>?_⟩,fun hc=>?_⟩
 ·rw[hc,Int.mul_zero] at key;omega
 ·apply Classical.byContradiction
  intro hne
  have:(B:Int)^ (v.length+1)*1≤(B:Int)^ (v.length+1)*c:=Int.mul_le_mul_of_nonneg_left (by omega) (Int.le_of_lt hP2)
  omega
 ·rw[hc,Int.mul_zero] at key;omega
def bZ (B:Nat) (u v:List Int) (m:Nat):Nat→List Int × List Int
 | 0=>(u,List.replicate m 0)
 | s+1=>((bJ B (bZ B u v m s).1 v (m-1-s) (valB B ((bZ B u v m s).1.drop (m-1-s))/valB B v) (v.length+1)).1,(bZ B u v m s).2.set (m-1-s) (valB B ((bZ B u v m s).1.drop (m-1-s))/valB B v))
theorem mJ {B:Nat} (hB:2≤B) {u v:List Int} (hu:InB B u) (hv:InB B v) (hV:0<valB B v) {m:Nat} (hm:m+v.length=u.length) (h0:valB B (u.drop m)<valB B v):∀s,s≤m→
  (bZ B u v m s).1.length=u.length∧InB B (bZ B u v m s).1∧(bZ B u v m s).2.length=m∧InB B (bZ B u v m s).2∧valB B ((bZ B u v m s).1.drop (m-s))<valB B v∧
  valB B u=valB B (bZ B u v m s).1+(B:Int)^ (m-s)*(valB B v*valB B ((bZ B u v m s).2.drop (m-s)))
 | 0,_=>by
  refine ⟨rfl,hu,by simp[bZ],fun x hx=>?_,h0,?_⟩
  ·rw[(List.mem_replicate.1 hx).2];omega
  ·simp only[bZ]
   rw[@List.drop_eq_nil_of_le _ (List.replicate m (0:Int)) _ (by simp)];simp[valB]
 | s+1,hs=>by
  obtain ⟨h1,h2,h3,h4,h5,h6⟩:=mJ hB hu hv hV hm h0 s (by omega)
  obtain ⟨j,hj⟩:∃j,m-1-s=j:=⟨_,rfl⟩
  have e1:m-s=j+1:=by omega
  have e2:m-(s+1)=j:=by omega
  simp only[bZ]
  rw[hj,e2]
  rw[e1] at h5 h6
  generalize (bZ B u v m s).1=w at h1 h2 h5 h6 ⊢
  generalize (bZ B u v m s).2=p at h3 h4 h6 ⊢
  have hw:valB B (w.drop j)=w.getD j 0+(B:Int)*valB B (w.drop (j+1)):=by rw[bF w j (by omega)];rfl
  have g1:=h2.get (show j<w.length by omega)
  have hVB:=kK hv
  have hz:∀i,j+(v.length+1)≤i→w.getD i 0=0:=fun i hi=>by
   have:=aAk hB (fQ h2 (j+1)) (n:=v.length) (by omega) (i-(j+1)) (by omega)
   rw[nQ] at this
   rwa [show j+1+(i-(j+1))=i by omega] at this
  have hW0:=bA (fQ h2 j)
  obtain ⟨W,hW⟩:∃W,valB B (w.drop j)=W:=⟨_,rfl⟩
  obtain ⟨Q,hQ⟩:∃Q,W/valB B v=Q:=⟨_,rfl⟩
  have hQ0:0≤Q:=by rw[← hQ];exact Int.ediv_nonneg (by omega) (by omega)
  have hQV:Q*valB B v≤W:=by rw[← hQ];exact Int.ediv_mul_le _ (by omega)
  have hWB:W<(B:Int)*valB B v:=by
   have:(B:Int)*(valB B (w.drop (j+1))+1)≤B*valB B v:=Int.mul_le_mul_of_nonneg_left (by omega) (by omega)
   rw[Int.mul_add,Int.mul_one] at this
   omega
  have hQB:Q<B:=by rw[← hQ];exact Int.ediv_lt_of_lt_mul hV hWB
  have hWm:=Int.emod_add_mul_ediv W (valB B v)
  have hWm0:=Int.emod_lt_of_pos W hV
  rw[hQ,Int.mul_comm] at hWm
  rw[hW,hQ]
  obtain ⟨t1,t2,t3,t4,t5,t6⟩:=iH hB h2 hv (j:=j) hQ0 (v.length+1) (by omega)
  obtain ⟨i1,i2⟩:=aFb hB h2 hv (j:=j) hQ0 (by omega) hz
  rw[hW] at i1 i2
  have hc:=i1.2 hQV
  have hr:=i2 hc
  rw[hc,Int.mul_zero,Int.sub_zero,dN _ _ _ (by omega)] at t4
  refine ⟨by rw[t1,h1],t2,by rw[List.length_set,h3],sL h4 _ ⟨hQ0,hQB⟩,by omega,?_⟩
  have e3:(p.set j Q).drop j=Q::p.drop (j+1):=by
   rw[bF _ _ (by rw[List.length_set];omega),eV _ _ _ (by omega),if_pos rfl,List.drop_set_of_lt (by omega)]
  rw[e3,h6,t4]
  simp only[valB]
  rw[Int.mul_add (valB B v),Int.mul_add,Int.pow_succ,Int.mul_comm (valB B v) Q,Int.mul_assoc ((B:Int)^j) (B:Int),Int.mul_left_comm (valB B v) (B:Int)]
  omega
theorem aK0 {B:Nat} (hB:2≤B) {u v:List Int} (hu:InB B u) (hv:InB B v) (hV:0<valB B v) {m:Nat} (hm:m+v.length=u.length) (h0:valB B (u.drop m)<valB B v):
  bX (bZ B u v m m).2=aB B (valB B u/valB B v).toNat∧bX (bZ B u v m m).1=aB B (valB B u%valB B v).toNat:=by
 obtain ⟨h1,h2,h3,h4,h5,h6⟩:=mJ hB hu hv hV hm h0 m (Nat.le_refl _)
 rw[Nat.sub_self,List.drop_zero] at h5 h6
 rw[Int.pow_zero,Int.one_mul] at h6
 have h7:valB B u/valB B v=valB B (bZ B u v m m).2∧valB B u%valB B v=valB B (bZ B u v m m).1:=by
  rw[Int.ediv_emod_unique hV]
  exact ⟨h6.symm,bA h2,h5⟩
 exact ⟨by rw[cH hB h4,h7.1],by rw[cH hB h2,h7.2]⟩
end IB
end
section
set_option linter.unusedVariables false
set_option linter.unusedVariables false
namespace IB
def estF (B v1 v2 u2:Int):Nat→Int→Int→Int
 | 0,q,_=>q
 | f+1,q,r=>if B≤q∨(r<B∧r*B+u2<q*v2) then (if B≤r+v1 then q-1 else estF B v1 v2 u2 f (q-1) (r+v1)) else q
theorem aI2 {B V W v1 v2 u2 top P Q:Int} (hP:0<P) (hB:0≤B) (hV:(v1*B+v2)*P≤V) (hV0:0≤V) (hW:W<(top*B+u2+1)*P) (hQB:Q<B) (hQ0:0≤Q) (hQ:Q*V≤W):∀(f:Nat) (q r:Int),top=q*v1+r→Q≤q→Q≤estF B v1 v2 u2 f q r∧estF B v1 v2 u2 f q r≤q
 | 0,q,r,_,hq=>⟨hq,Int.le_refl _⟩
 | f+1,q,r,ht,hq=>by
  simp only[estF]
  by_cases hc:B≤q∨(r<B∧r*B+u2<q*v2)
  ·rw[if_pos hc]
   have hq1:Q≤q-1:=by
    rcases hc with h | ⟨_,h⟩
    ·omega
    ·exact aM7 hP (by omega) hB hV hV0 hW ht h hQ
   by_cases h2:B≤r+v1
   ·rw[if_pos h2];exact ⟨hq1,by omega⟩
   ·rw[if_neg h2]
    obtain ⟨g1,g2⟩:=aI2 hP hB hV hV0 hW hQB hQ0 hQ f (q-1) (r+v1) (by rw[Int.sub_mul,Int.one_mul];omega) hq1
    exact ⟨g1,by omega⟩
  ·rw[if_neg hc];exact ⟨hq,Int.le_refl _⟩
theorem aPb {V R t3 top P:Int} (hP:0<P) (ht:0≤top) (hV:V≤(top+1)*P) (hV0:0<V) (hR:t3*P≤R) (h0:0≤t3):0≤t3/(top+1)∧t3/(top+1)≤R/V:=by
 have h1:0≤t3/(top+1):=Int.ediv_nonneg h0 (by omega)
 refine ⟨h1,?_⟩
 rw[Int.le_ediv_iff_mul_le hV0]
 have h2:t3/(top+1)*(top+1)≤t3:=Int.ediv_mul_le _ (by omega)
 have h3:t3/(top+1)*V≤t3/(top+1)*((top+1)*P):=Int.mul_le_mul_of_nonneg_left hV h1
 rw[← Int.mul_assoc] at h3
 have h4:t3/(top+1)*(top+1)*P≤t3*P:=Int.mul_le_mul_of_nonneg_right h2 (Int.le_of_lt hP)
 omega
theorem aG7 {B t f:Int} (ht:1≤t) (htB:t<B) (hf:f=B/(t+1)):1≤f∧f*(t+1)≤B∧B≤4*(f*t):=by
 have h1:f*(t+1)≤B:=by rw[hf];exact Int.ediv_mul_le _ (by omega)
 have h2:B<(f+1)*(t+1):=by rw[hf];exact Int.lt_ediv_add_one_mul_self _ (by omega)
 have h3:1≤f:=by rw[hf,Int.le_ediv_iff_mul_le (by omega)];omega
 refine ⟨h3,h1,?_⟩
 rw[Int.mul_add,Int.mul_one] at h1
 rw[Int.add_mul,Int.one_mul,Int.mul_add,Int.mul_one] at h2
 -- B < f t + f + t + 1 and f, t >= 1, so that f + t <= f t + 1
 have h4:0≤(f-1)*(t-1):=Int.mul_nonneg (by omega) (by omega)
 rw[Int.sub_mul,Int.mul_sub,Int.mul_one,Int.one_mul] at h4
 have h5:1*1≤f*t:=Int.mul_le_mul h3 ht (by omega) (by omega)
 omega
end IB
end
section
set_option linter.unusedVariables false
set_option linter.unusedVariables false
namespace IB
open Go.Lib
def aT (c:UInt8):Prop:=48≤c.toNat∧c.toNat≤57
instance (c:UInt8):Decidable (aT c):=by unfold aT;exact inferInstance
def aD (s:List UInt8):Nat:=s.foldl (fun n c=>10*n+(c.toNat-48)) 0
theorem dC (s:List UInt8) (c:UInt8):aD (s++ [c])=10*aD s+(c.toNat-48):=by simp[aD]
theorem dS {d:Nat} (h:d<10):(UInt8.ofNat (48+d)).toNat=48+d:=by
 rw[UInt8.toNat_ofNat'];omega
theorem aFc {c:UInt8} (h:aT c):UInt8.ofNat (48+(c.toNat-48))=c:=by
 obtain ⟨h1,h2⟩:=h
 rw[show 48+(c.toNat-48)=c.toNat by omega]
 simp
theorem cB {n:Nat} (h:n<10):decDigits n= [UInt8.ofNat (48+n)]:=decDigits_one h
theorem mK {n:Nat} (h:¬n<10):decDigits n=decDigits (n/10)++ [UInt8.ofNat (48+n%10)]:=by rw[decDigits,dif_neg h]
theorem bW:∀n:Nat,aD (decDigits n)=n:=by
 intro n
 induction n using Nat.strongRecOn with
 | _ n ih=>
  by_cases h:n<10
  ·rw[cB h]
   show aD ([]++ [_])=n
   rw[dC,dS h];simp[aD]
  ·rw[mK h,dC,ih _ (by omega),dS (by omega)];omega
theorem fR:∀(n:Nat) (c:UInt8),c∈decDigits n→aT c:=by
 intro n
 induction n using Nat.strongRecOn with
 | _ n ih=>
  intro c hc
  by_cases h:n<10
  ·rw[cB h] at hc
   have:=List.mem_singleton.1 hc
   subst this
   unfold aT
   rw[dS h];omega
  ·rw[mK h] at hc
   rcases List.mem_append.1 hc with hc | hc
   ·exact ih _ (by omega) c hc
   ·have:=List.mem_singleton.1 hc
    subst this
    unfold aT
    rw[dS (by omega)];omega
theorem xK (n:Nat):decDigits n≠ []:=by
 by_cases h:n<10
 ·rw[cB h];simp
 ·rw[mK h];simp
theorem nR:∀n:Nat,0<n→(decDigits n).headD 0≠48:=by
 intro n
 induction n using Nat.strongRecOn with
 | _ n ih=>
  intro hn
  by_cases h:n<10
  ·rw[cB h]
   intro e
   have:=congrArg UInt8.toNat e
   simp only[List.headD_cons] at this
   rw[dS h] at this
   have e2:(48:UInt8).toNat=48:=rfl
   omega
  ·rw[mK h]
   have:=ih (n/10) (by omega) (by omega)
   cases hd:decDigits (n/10) with
   | nil=>exact (xK _ hd).elim
   | cons x r=>rw[hd] at this;exact this
theorem lD:∀(k:Nat) (s:List UInt8),s.length=k→s≠ []→(∀c∈s,aT c)→(s.length=1∨s.headD 0≠48)→decDigits (aD s)=s:=by
 intro k
 induction k with
 | zero=>intro s h1 h2;exact (h2 (List.length_eq_zero_iff.1 h1)).elim
 | succ k ih=>
  intro s h1 h2 h3 h4
  obtain ⟨t,c,rfl⟩:∃t c,s=t++ [c]:=⟨s.dropLast,s.getLast h2,(List.dropLast_concat_getLast h2).symm⟩
  have hc:=h3 c (by simp)
  have hc':=hc
  obtain ⟨c1,c2⟩:=hc'
  rw[dC]
  by_cases ht:t= []
  ·subst ht
   have e:aD []=0:=rfl
   rw[e,cB (by omega),Nat.mul_zero,Nat.zero_add,aFc hc];rfl
  ·have hlen:t.length=k:=by simpa using h1
   have hpos:0<t.length:=List.length_pos_iff.2 ht
   have hhd:t.headD 0≠48:=by
    rcases h4 with h | h
    ·simp at h;exact (ht h).elim
    ·cases t with
     | nil=>exact (ht rfl).elim
     | cons x r=>exact h
   have e:=ih t hlen ht (fun c hc=>h3 c (List.mem_append_left _ hc)) (.inr hhd)
   have hm:0<aD t:=by
    rcases Nat.eq_zero_or_pos (aD t) with h | h
    ·rw[h,cB (by omega)] at e
     rw[← e] at hhd
     exact (hhd rfl).elim
    ·exact h
   rw[mK (by omega),show (10*aD t+(c.toNat-48))/10=aD t by omega,e,show (10*aD t+(c.toNat-48))%10=c.toNat-48 by omega,aFc hc]
theorem aI3 {m n:Nat} (h:decDigits m=decDigits n):m=n:=by rw[← bW m,h,bW]
theorem gL {m n:Int} (h:itoa m=itoa n):m=n:=by
 have key:∀(a b:Nat),45::decDigits a≠decDigits b:=fun a b e=>by
  have:=fR b 45 (by rw[← e];simp)
  have e2:(45:UInt8).toNat=45:=rfl
  unfold aT at this
  omega
 unfold itoa at h
 split at h
 ·split at h
  ·have:=aI3 (List.cons.inj h).2;omega
  ·exact (key _ _ h).elim
 ·split at h
  ·exact (key _ _ h.symm).elim
  ·have:=aI3 h;omega
end IB
end
section
set_option linter.unusedVariables false
set_option linter.unusedVariables false
namespace IB
open Go.Lib
def digs (s:List UInt8):List UInt8:=if s.headD 0=45 then s.tail else s
def valI (s:List UInt8):Int:=if s.headD 0=45 then -(aD s.tail:Int) else aD s
def form (s:List UInt8):Prop:=digs s≠ []∧((digs s).headD 0≠48∨s= [48])∧∀c∈digs s,aT c
noncomputable instance (s:List UInt8):Decidable (form s):=Classical.propDecidable _
noncomputable def chkI (s:List UInt8):Int:=if form s then (if 300<(digs s).length then 4 else 0) else 11
theorem iD (n:Int):(itoa n).headD 0=45↔n<0:=by
 unfold itoa
 split
 ·rename_i h;exact ⟨fun _=>h,fun _=>rfl⟩
 ·rename_i h
  refine ⟨fun e=>?_,fun h'=>(h h').elim⟩
  exfalso
  cases hd:decDigits n.toNat with
  | nil=>exact xK _ hd
  | cons x r=>
   rw[hd] at e
   have:=fR n.toNat x (by rw[hd];simp)
   simp only[List.headD_cons] at e
   subst e
   have e2:(45:UInt8).toNat=45:=rfl
   unfold aT at this
   omega
theorem bR (n:Int):digs (itoa n)=decDigits n.natAbs:=by
 unfold digs
 by_cases h:n<0
 ·rw[if_pos ((iD n).2 h)];unfold itoa;rw[if_pos h];rfl
 ·rw[if_neg (fun e=>h ((iD n).1 e))];unfold itoa;rw[if_neg h];congr 1;omega
theorem aO (n:Int):valI (itoa n)=n:=by
 unfold valI
 by_cases h:n<0
 ·rw[if_pos ((iD n).2 h)];unfold itoa;rw[if_pos h]
  simp only[List.tail_cons]
  rw[bW];omega
 ·rw[if_neg (fun e=>h ((iD n).1 e))];unfold itoa;rw[if_neg h,bW];omega
theorem eH (n:Int):form (itoa n):=by
 refine ⟨by rw[bR];exact xK _,?_,fun c hc=>by rw[bR] at hc;exact fR _ c hc⟩
 rw[bR]
 by_cases h:n=0
 ·right;subst h;exact cB (by omega)
 ·left;exact nR _ (by omega)
theorem oN {s:List UInt8} (h:form s):s=itoa (valI s):=by
 obtain ⟨h1,h2,h3⟩:=h
 unfold digs at h1 h2 h3
 unfold valI
 by_cases hm:s.headD 0=45
 ·rw[if_pos hm] at h1 h2 h3 ⊢
  have hs:s=45::s.tail:=by
   cases s with
   | nil=>exact (h1 rfl).elim
   | cons x r=>simp only[List.headD_cons] at hm;subst hm;rfl
  have hne:¬s= [48]:=fun e=>by rw[e] at hm;cases hm
  have hh:s.tail.headD 0≠48:=by
   rcases h2 with h | h
   ·exact h
   ·exact (hne h).elim
  have hd:=lD _ s.tail rfl h1 h3 (.inr hh)
  have hpos:0<aD s.tail:=by
   rcases Nat.eq_zero_or_pos (aD s.tail) with h | h
   ·rw[h] at hd
    rw[← hd] at hh
    exact (hh (by rw[cB (by omega)];rfl)).elim
   ·exact h
  unfold itoa
  rw[if_pos (by omega),show (-(aD s.tail:Int)).natAbs=aD s.tail by omega,hd]
  exact hs
 ·rw[if_neg hm] at h1 h2 h3 ⊢
  have hd:=lD _ s rfl h1 h3 (by
   rcases h2 with h | h
   ·exact .inr h
   ·left;rw[h];rfl)
  unfold itoa
  rw[if_neg (by omega),Int.toNat_natCast,hd]
theorem xH {s:List UInt8}:form s↔s=itoa (valI s):=⟨oN,fun h=>by rw[h];exact eH _⟩
theorem aIt (q:Nat) (hq:0<q):∀(k r:Nat),r<10^ (k+1)→decDigits (q*10^ (k+1)+r)=decDigits q++(List.replicate (k+1-(decDigits r).length) 48++decDigits r)
 | 0,r,hr=>by
  have hr:r<10:=by simpa using hr
  rw[mK (by simp;omega),cB hr]
  simp only[Nat.zero_add,Nat.pow_one,List.length_singleton,Nat.sub_self,List.replicate_zero,List.nil_append]
  rw[show (q*10+r)/10=q by omega,show (q*10+r)%10=r by omega]
 | k+1,r,hr=>by
  have hp:0<10^ (k+1):=Nat.pow_pos (by omega)
  have hb:q*10^ (k+1+1)=q*10^ (k+1)*10:=by rw[Nat.pow_succ,Nat.mul_assoc]
  have h1:q*10^ (k+1+1)+r=10*(q*10^ (k+1)+r/10)+r%10:=by omega
  have hm:0<q*10^ (k+1):=Nat.mul_pos hq hp
  rw[Nat.pow_succ] at hr
  rw[mK (by omega),show (q*10^ (k+1+1)+r)/10=q*10^ (k+1)+r/10 by omega,show (q*10^ (k+1+1)+r)%10=r%10 by omega,aIt q hq k (r/10) (by omega)]
  by_cases h:r<10
  ·rw[cB h,show r/10=0 by omega,cB (show 0<10 by omega),Nat.mod_eq_of_lt h]
   simp only[List.length_singleton,List.append_assoc]
   congr 1
   rw[show k+1+1-1=k+1-1+1 by omega,List.replicate_succ']
   simp
  ·rw[mK (n:=r) h]
   simp only[List.length_append,List.length_singleton,List.append_assoc]
   rw[show k+1+1-((decDigits (r/10)).length+1)=k+1-(decDigits (r/10)).length by omega]
end IB
end
section
set_option linter.unusedVariables false
set_option linter.unusedVariables false
namespace IB
open Go.Lib
theorem gK:∀(k n:Nat),n<10^ (k+1)→(decDigits n).length≤k+1
 | 0,n,h=>by rw[cB (by simpa using h)];simp
 | k+1,n,h=>by
  by_cases h10:n<10
  ·rw[cB h10];simp
  ·rw[Nat.pow_succ] at h
   rw[mK h10]
   have:=gK k (n/10) (by omega)
   simp only[List.length_append,List.length_singleton];omega
def wrK (l:List Int):Nat→List UInt8
 | 0=>[]
 | m+1=>wrK l m++((if 0<m then List.replicate (9-(itoa (l.getD (l.length-1-m) 0)).length) 48 else [])++itoa (l.getD (l.length-1-m) 0))
theorem aE5 {l:List Int} (h:InB (10^9) l) (hne:l≠ []) (hl:l.getLast hne≠0):∀m,m<l.length→0<valB (10^9) (l.drop (l.length-1-m))∧wrK l (m+1)=decDigits (valB (10^9) (l.drop (l.length-1-m))).toNat
 | 0,hm=>by
  have e1:l.getD (l.length-1) 0=l.getLast hne:=by
   rw[List.getLast_eq_getElem,List.getD_eq_getElem?_getD,List.getElem?_eq_getElem (by omega)];rfl
  have e2:l.drop (l.length-1)= [l.getLast hne]:=by
   rw[bF l _ (by omega),e1,List.drop_eq_nil_of_le (by omega)]
  have g:=h.get (show l.length-1<l.length by omega)
  rw[e1] at g
  rw[Nat.sub_zero,e2]
  simp only[valB,Int.mul_zero,Int.add_zero,wrK,Nat.lt_irrefl,if_false,List.nil_append,Nat.sub_zero]
  rw[e1]
  refine ⟨by omega,?_⟩
  unfold itoa
  rw[if_neg (by omega)]
 | m+1,hm=>by
  obtain ⟨h1,h2⟩:=aE5 h hne hl m (by omega)
  obtain ⟨i,hi⟩:∃i,l.length-1-(m+1)=i:=⟨_,rfl⟩
  have e1:l.length-1-m=i+1:=by omega
  rw[e1] at h1 h2
  rw[hi]
  have g:=h.get (show i<l.length by omega)
  have e2:l.drop i=l.getD i 0::l.drop (i+1):=bF l i (by omega)
  rw[e2]
  simp only[valB]
  obtain ⟨v,hv⟩:=Int.eq_ofNat_of_zero_le (Int.le_of_lt h1)
  obtain ⟨x,hx⟩:=Int.eq_ofNat_of_zero_le g.1
  rw[hv] at h1 h2 ⊢
  rw[hx] at g ⊢
  have hx9:x<10^ (8+1):=by have:=g.2;omega
  have hv0:0<v:=by omega
  have e3:((x:Int)+((10^9:Nat):Int)*(v:Int))=((v*10^ (8+1)+x:Nat):Int):=by
   rw[Int.natCast_add,Int.natCast_mul,Int.mul_comm,Int.add_comm]
  refine ⟨by rw[e3];omega,?_⟩
  rw[e3,Int.toNat_natCast,aIt v hv0 8 x hx9]
  rw[Int.toNat_natCast] at h2
  have e4:itoa (x:Int)=decDigits x:=by unfold itoa;rw[if_neg (by omega),Int.toNat_natCast]
  rw[show wrK l (m+1+1)=wrK l (m+1)++((if 0<m+1 then List.replicate (9-(itoa (l.getD (l.length-1-(m+1)) 0)).length) 48 else [])++itoa (l.getD (l.length-1-(m+1)) 0)) from rfl,hi,hx,e4,h2,if_pos (by omega)]
theorem aE6 (s:List UInt8):aD (48::s)=aD s:=by
 have e:(48:UInt8).toNat=48:=rfl
 simp[aD,e]
theorem strip (s:List UInt8) (h:∀c∈s,aT c) (hp:0<aD s):s.dropWhile (· ==48)=decDigits (aD s):=by
 induction s with
 | nil=>simp[aD] at hp
 | cons c r ih=>
  by_cases e:c=48
  ·subst e
   rw[aE6] at hp ⊢
   rw[List.dropWhile_cons_of_pos (by simp)]
   exact ih (fun c hc=>h c (List.mem_cons_of_mem _ hc)) hp
  ·rw[List.dropWhile_cons_of_neg (by simpa using e)]
   exact (lD _ _ rfl (by simp) h (.inr (by simpa using e))).symm
end IB
end
section
set_option linter.unusedVariables false
set_option linter.unusedVariables false
namespace IB
open Go.Lib
theorem nat10_cons (c:UInt8) (s:List UInt8):aD (c::s)=(c.toNat-48)*10^s.length+aD s:=by
 refine list_snocU (fun s=>aD (c::s)=(c.toNat-48)*10^s.length+aD s) (by simp[aD]) (fun l x ih=>?_) s
 rw[← List.cons_append,dC,dC,ih,List.length_append,List.length_singleton,Nat.pow_succ,Nat.mul_add,Nat.mul_comm 10 (_* _),Nat.mul_assoc]
 omega
where
 list_snocU (P:List UInt8→Prop) (h0:P []) (h1:∀l x,P l→P (l++ [x])) (l:List UInt8):P l:=by
  have:∀n (l:List UInt8),l.length=n→P l:=by
   intro n
   induction n with
   | zero=>intro l hl;rw[List.length_eq_zero_iff.1 hl];exact h0
   | succ n ih=>
    intro l hl
    have hne:l≠ []:=fun e=>by rw[e] at hl;simp at hl
    rw[← List.dropLast_concat_getLast hne]
    exact h1 _ _ (ih _ (by simp[hl]))
  exact this _ l rfl
def dgt (s:List UInt8) (i:Nat):Int:=((s.getD (s.length-1-i) 48).toNat:Int)-48
def rdK (s:List UInt8) (n:Nat):Nat→List Int
 | 0=>List.replicate n 0
 | i+1=>(rdK s n i).set (i/9) ((rdK s n i).getD (i/9) 0+dgt s i*10^ (i%9))
theorem aIu {s:List UInt8} (h:∀c∈s,aT c) {i:Nat} (hi:i<s.length):0≤dgt s i∧dgt s i≤9∧dgt s i=(((s.getD (s.length-1-i) 48).toNat-48:Nat):Int):=by
 have e:s.getD (s.length-1-i) 48=s[s.length-1-i]:=by rw[List.getD_eq_getElem?_getD,List.getElem?_eq_getElem (by omega)];rfl
 have:=h _ (List.getElem_mem (show s.length-1-i<s.length by omega))
 unfold dgt
 rw[e]
 unfold aT at this
 omega
theorem aG5 {s:List UInt8} {i:Nat} (hi:i<s.length):aD (s.drop (s.length-(i+1)))=((s.getD (s.length-1-i) 48).toNat-48)*10^i+aD (s.drop (s.length-i)):=by
 have e1:s.length-(i+1)=s.length-1-i:=by omega
 have e:s.getD (s.length-1-i) 48=s[s.length-1-i]:=by rw[List.getD_eq_getElem?_getD,List.getElem?_eq_getElem (by omega)];rfl
 rw[e1,List.drop_eq_getElem_cons (by omega),nat10_cons,e,show s.length-1-i+1=s.length-i by omega,List.length_drop,show s.length-(s.length-i)=i by omega]
theorem xI {s:List UInt8} (h:∀c∈s,aT c) {n:Nat} (hn:s.length≤9*n):∀i,i≤s.length→(rdK s n i).length=n∧InB (10^9) (rdK s n i)∧valB (10^9) (rdK s n i)=aD (s.drop (s.length-i))∧
  (∀t,i≤9*t→(rdK s n i).getD t 0=0)∧(rdK s n i).getD (i/9) 0<10^ (i%9)
 | 0,_=>by
  have hz:∀t,(List.replicate n (0:Int)).getD t 0=0:=fun t=>by rw[List.getD_eq_getElem?_getD,List.getElem?_replicate];split<;>rfl
  refine ⟨by simp[rdK],fun x hx=>?_,?_,fun t _=>hz t,?_⟩
  ·rw[(List.mem_replicate.1 hx).2];omega
  ·simp only[rdK];rw[kZ,Nat.sub_zero,List.drop_length];rfl
  ·simp only[rdK];rw[hz];decide
 | i+1,hi=>by
  obtain ⟨h1,h2,h3,h4,h5⟩:=xI h hn i (by omega)
  obtain ⟨d1,d2,d3⟩:=aIu h (show i<s.length by omega)
  have hi9:i/9<n:=by omega
  have g:=h2.get (show i/9<(rdK s n i).length by omega)
  simp only[rdK]
  generalize rdK s n i=l at h1 h2 h3 h4 h5 g ⊢
  have hp:(0:Int)<10^ (i%9):=Int.pow_pos (by omega)
  have hm:dgt s i*10^ (i%9)≤9*10^ (i%9):=Int.mul_le_mul_of_nonneg_right d2 (Int.le_of_lt hp)
  have hm0:0≤dgt s i*10^ (i%9):=Int.mul_nonneg d1 (Int.le_of_lt hp)
  have hp1:(10:Int)^ (i%9+1)=10*10^ (i%9):=by rw[Int.pow_succ,Int.mul_comm]
  have hlt:l.getD (i/9) 0+dgt s i*10^ (i%9)<10^ (i%9+1):=by omega
  have hle:(10:Int)^ (i%9+1)≤((10^9:Nat):Int):=by
   have:10^ (i%9+1)≤10^9:=Nat.pow_le_pow_right (by omega) (by omega)
   exact_mod_cast this
  refine ⟨by rw[List.length_set,h1],sL h2 _ ⟨by omega,by omega⟩,?_,fun t ht=>?_,?_⟩
  ·rw[rJ _ _ _ (by omega),h3,aG5 (by omega)]
   have e1:((10^9:Nat):Int)^ (i/9)*(dgt s i*10^ (i%9))=dgt s i*10^i:=by
    have e2:((10^9:Nat):Int)^ (i/9)=(10:Int)^ (9*(i/9)):=by
     rw[Int.pow_mul];rfl
    rw[e2,Int.mul_left_comm,← Int.pow_add,show 9*(i/9)+i%9=i by omega]
   rw[show l.getD (i/9) 0+dgt s i*10^ (i%9)-l.getD (i/9) 0=dgt s i*10^ (i%9) by omega,e1,d3]
   generalize (s.getD (s.length-1-i) 48).toNat-48=e
   rw[Int.natCast_add,Int.natCast_mul,Int.natCast_pow,Int.add_comm]
   rfl
  ·rw[eV _ _ _ (by omega),if_neg (by omega),h4 t (by omega)]
  ·rw[eV _ _ _ (by omega)]
   by_cases e:(i+1)/9=i/9
   ·rw[if_pos e,show (i+1)%9=i%9+1 by omega];exact hlt
   ·rw[if_neg e,h4 _ (by omega)]
    exact Int.pow_pos (by omega)
theorem aO3 {s:List UInt8} (h:∀c∈s,aT c) {n:Nat} (hn:s.length≤9*n):bX (rdK s n s.length)=aB (10^9) (aD s):=by
 obtain ⟨h1,h2,h3,h4,h5⟩:=xI h hn s.length (Nat.le_refl _)
 rw[Nat.sub_self,List.drop_zero] at h3
 rw[cH (by decide) h2,h3,Int.toNat_natCast]
end IB
end
section
set_option linter.unusedVariables false
set_option linter.unusedVariables false
namespace IB
open Go.Lib
theorem mI (a:List UInt8):∀b:List UInt8,aD (a++b)=aD a*10^b.length+aD b:=by
 intro b
 refine nat10_cons.list_snocU (fun b=>aD (a++b)=aD a*10^b.length+aD b) (by simp[aD]) (fun l x ih=>?_) b
 rw[← List.append_assoc,dC,dC,ih,List.length_append,List.length_singleton,Nat.pow_succ,Nat.mul_add,Nat.mul_comm 10 (_* _),Nat.mul_assoc]
 omega
theorem cD (s:List UInt8) (h:∀c∈s,aT c):aD s<10^s.length:=by
 revert h
 refine nat10_cons.list_snocU (fun s=>(∀c∈s,aT c)→aD s<10^s.length) (fun _=>by simp[aD]) (fun l x ih h=>?_) s
 have h1:=ih fun c hc=>h c (List.mem_append_left _ hc)
 have h2:=h x (by simp)
 unfold aT at h2
 rw[dC,List.length_append,List.length_singleton,Nat.pow_succ]
 omega
def grp (s:List UInt8) (k:Nat):List UInt8:=(s.take (s.length-6*k)).drop (s.length-6*(k+1))
def rdG (s:List UInt8):Nat→List Int
 | 0=>[]
 | k+1=>rdG s k++ [(aD (grp s k):Int)]
theorem aO4 (s:List UInt8) (k:Nat):s.drop (s.length-6*(k+1))=grp s k++s.drop (s.length-6*k):=by
 unfold grp
 have e:=List.drop_append_of_le_length (l₁:=s.take (s.length-6*k)) (l₂:=s.drop (s.length-6*k)) (i:=s.length-6*(k+1)) (by rw[List.length_take];omega)
 rw[List.take_append_drop] at e
 exact e
theorem aO5 (s:List UInt8) (k:Nat):(grp s k).length≤6:=by
 unfold grp;rw[List.length_drop,List.length_take];omega
theorem aO6 {s:List UInt8} (h:∀c∈s,aT c) (k:Nat):∀c∈grp s k,aT c:=fun c hc=>h c (List.mem_of_mem_take (List.mem_of_mem_drop hc))
theorem rG {s:List UInt8} (h:∀c∈s,aT c):∀k,6*k<s.length+6→(rdG s k).length=k∧InB (10^6) (rdG s k)∧valB (10^6) (rdG s k)=aD (s.drop (s.length-6*k))
 | 0,_=>⟨rfl,InB.nil,by simp only[rdG];rw[Nat.mul_zero,Nat.sub_zero,List.drop_length];rfl⟩
 | k+1,hk=>by
  obtain ⟨h1,h2,h3⟩:=rG h k (by omega)
  have hg:=cD _ (aO6 h k)
  have hg6:10^ (grp s k).length≤10^6:=Nat.pow_le_pow_right (by omega) (aO5 s k)
  refine ⟨by simp[rdG,h1],InB.append.2 ⟨h2,InB.cons.2 ⟨⟨by omega,by omega⟩,InB.nil⟩⟩,?_⟩
  simp only[rdG]
  rw[kA,h1,h3,aO4,mI,List.length_drop,show s.length-(s.length-6*k)=6*k by omega]
  have e:((10^6:Nat):Int)^k=(((10:Nat)^ (6*k):Nat):Int):=by
   rw[Nat.pow_mul];exact (Int.natCast_pow _ _).symm
  rw[e,Int.natCast_add,Int.natCast_mul,Int.mul_comm,Int.add_comm]
theorem aIv {s:List UInt8} (h:∀c∈s,aT c) {k:Nat} (hk:6*k<s.length+6) (hl:s.length≤6*k):bX (rdG s k)=aB (10^6) (aD s):=by
 obtain ⟨h1,h2,h3⟩:=rG h k hk
 rw[show s.length-6*k=0 by omega,List.drop_zero] at h3
 rw[cH (by decide) h2,h3,Int.toNat_natCast]
def six (x:Nat):List UInt8:=[UInt8.ofNat (48+x/100000%10),UInt8.ofNat (48+x/10000%10),UInt8.ofNat (48+x/1000%10),UInt8.ofNat (48+x/100%10),UInt8.ofNat (48+x/10%10),UInt8.ofNat (48+x%10)]
theorem aO7 {x:Nat} (h:x<1000000):aD (six x)=x:=by
 have d:∀n,(UInt8.ofNat (48+n%10)).toNat=48+n%10:=fun n=>dS (by omega)
 simp only[aD,six,List.foldl_cons,List.foldl_nil,d]
 omega
theorem aO8 (x:Nat):∀c∈six x,aT c:=by
 have d:∀n,aT (UInt8.ofNat (48+n%10)):=fun n=>by unfold aT;rw[dS (by omega)];omega
 intro c hc
 simp only[six,List.mem_cons,List.not_mem_nil,or_false] at hc
 rcases hc with rfl | rfl | rfl | rfl | rfl | rfl<;>exact d _
def wrG:List Int→List UInt8
 | []=>[]
 | x::r=>wrG r++six x.toNat
theorem aCp:∀l:List Int,(wrG l).length=6*l.length
 | []=>rfl
 | x::r=>by simp only[wrG,List.length_append,aCp r,List.length_cons];simp[six];omega
theorem aIw:∀l:List Int,∀c∈wrG l,aT c
 | [],c,hc=>by simp[wrG] at hc
 | x::r,c,hc=>by
  simp only[wrG] at hc
  rcases List.mem_append.1 hc with h | h
  ·exact aIw r c h
  ·exact aO8 _ c h
theorem aIx:∀l:List Int,InB (10^6) l→(aD (wrG l):Int)=valB (10^6) l
 | [],_=>rfl
 | x::r,h=>by
  obtain ⟨h1,h2⟩:=InB.cons.1 h
  have ih:=aIx r h2
  have h6:(six x.toNat).length=6:=rfl
  simp only[wrG,valB]
  rw[mI,h6,aO7 (by omega),Int.natCast_add,Int.natCast_mul,ih,Int.mul_comm,Int.add_comm]
  congr 1
  omega
theorem aO9 {l:List Int} (h:InB (10^6) l) (hp:0<valB (10^6) l):(wrG l).dropWhile (· ==48)=decDigits (valB (10^6) l).toNat:=by
 have:=aIx l h
 rw[strip _ (aIw l) (by omega),← this,Int.toNat_natCast]
end IB
end
section
set_option linter.unusedVariables false
set_option linter.unusedVariables false
namespace IB
open Go.Lib
def numS (q:Rat):List UInt8:=if q.den=1 then itoa q.num else itoa q.num++47::decDigits q.den
def topS (s:List UInt8):List UInt8:=s.takeWhile (· != 47)
def botS (s:List UInt8):List UInt8:=s.dropWhile (· != 47)
theorem aIy (n:Int):∀c∈itoa n,c≠47:=by
 intro c hc e
 subst e
 have key:∀m:Nat,(47:UInt8) ∉ decDigits m:=fun m h=>by
  have:=fR m 47 h
  have e2:(47:UInt8).toNat=47:=rfl
  unfold aT at this
  omega
 unfold itoa at hc
 split at hc
 ·rcases List.mem_cons.1 hc with h | h
  ·cases h
  ·exact key _ h
 ·exact key _ hc
theorem pO {p:UInt8→Bool} {a b:List UInt8} (h:∀c∈a,p c=true):(a++b).takeWhile p=a++b.takeWhile p:=by
 induction a with
 | nil=>rfl
 | cons x r ih=>
  rw[List.cons_append,List.takeWhile_cons_of_pos (h x (by simp)),ih fun c hc=>h c (List.mem_cons_of_mem _ hc)];rfl
theorem pP {p:UInt8→Bool} {a b:List UInt8} (h:∀c∈a,p c=true):(a++b).dropWhile p=b.dropWhile p:=by
 induction a with
 | nil=>rfl
 | cons x r ih=>
  rw[List.cons_append,List.dropWhile_cons_of_pos (h x (by simp)),ih fun c hc=>h c (List.mem_cons_of_mem _ hc)]
theorem fM (q:Rat):topS (numS q)=itoa q.num:=by
 have hno:∀c∈itoa q.num,(c != 47)=true:=fun c hc=>by simpa using aIy _ c hc
 unfold topS numS
 split
 ·have:=pO (b:=[]) hno;simpa using this
 ·rw[pO hno,List.takeWhile_cons_of_neg (by simp)];simp
theorem iZ (q:Rat):botS (numS q)=if q.den=1 then [] else 47::decDigits q.den:=by
 have hno:∀c∈itoa q.num,(c != 47)=true:=fun c hc=>by simpa using aIy _ c hc
 unfold botS numS
 split
 ·have:=pP (b:=[]) hno;simpa using this
 ·rw[pP hno,List.dropWhile_cons_of_neg (by simp)]
def denS (s:List UInt8):Nat:=if botS s= [] then 1 else aD (botS s).tail
noncomputable def valQ (s:List UInt8):Rat:=mkRat (valI (topS s)) (denS s)
def jA (s:List UInt8):Prop:=form (topS s)∧(botS s= []∨((botS s).tail=decDigits (denS s)∧2≤denS s))
theorem rH (q:Rat):denS (numS q)=q.den:=by
 unfold denS
 rw[iZ]
 by_cases h:q.den=1
 ·rw[if_pos h,if_pos rfl,h]
 ·rw[if_neg h,if_neg (by simp),List.tail_cons,bW]
theorem bV (q:Rat):valQ (numS q)=q:=by
 unfold valQ
 rw[fM,aO,rH,Rat.mkRat_self]
theorem xJ {p q:Rat} (h:numS p=numS q):p=q:=by rw[← bV p,h,bV]
theorem qC (q:Rat):jA (numS q):=by
 refine ⟨by rw[fM];exact eH _,?_⟩
 rw[iZ,rH]
 by_cases h:q.den=1
 ·left;rw[if_pos h]
 ·right;rw[if_neg h]
  have:=q.den_nz
  exact ⟨rfl,by omega⟩
theorem aCq (q:Rat):(valI (topS (numS q))).natAbs.gcd (denS (numS q))=1:=by
 rw[fM,aO,rH];exact q.reduced
theorem aIz {s:List UInt8} (h:jA s) (hg:(valI (topS s)).natAbs.gcd (denS s)=1):s=numS (valQ s):=by
 obtain ⟨h1,h2⟩:=h
 have hs:topS s++botS s=s:=List.takeWhile_append_dropWhile
 have hd0:denS s≠0:=by
  rcases h2 with h | ⟨_,h⟩
  ·unfold denS;rw[if_pos h];decide
  ·omega
 have hq:valQ s= ⟨valI (topS s),denS s,hd0,hg⟩:=by unfold valQ;rw[← Rat.mk_eq_mkRat]
 have e1:(valQ s).num=valI (topS s):=by rw[hq]
 have e2:(valQ s).den=denS s:=by rw[hq]
 unfold numS
 rw[e1,e2,← oN h1]
 rcases h2 with h | ⟨h3,h4⟩
 ·have:denS s=1:=by unfold denS;rw[if_pos h]
  rw[if_pos this]
  rw[h,List.append_nil] at hs
  exact hs.symm
 ·rw[if_neg (by omega),← h3]
  have hb:botS s=47::(botS s).tail:=by
   cases hb:botS s with
   | nil=>
    have:denS s=1:=by unfold denS;rw[if_pos hb]
    omega
   | cons x r=>
    have hx:x=47:=by
     have hd:=List.head?_dropWhile_not (p:=(· != (47:UInt8))) (l:=s)
     have hb':s.dropWhile (· != 47)=x::r:=hb
     rw[hb'] at hd
     simpa using hd
    subst hx;rfl
  rw[← hb,hs]
end IB
end
section
set_option linter.unusedVariables false
set_option linter.unusedVariables false
namespace IB
open Go.Lib
theorem uQ (n:Int) (d:Nat) (hd:d≠0):numS (mkRat n d)=if d/d.gcd n.natAbs=1 then itoa (n/(d.gcd n.natAbs:Nat)) else itoa (n/(d.gcd n.natAbs:Nat))++47::decDigits (d/d.gcd n.natAbs):=by
 unfold numS
 rw[Rat.num_mkRat,Rat.den_mkRat,if_neg hd,if_neg hd]
theorem sK (p q:Rat):p+q=mkRat (p.num*q.den+q.num*p.den) (p.den*q.den):=Rat.add_def' p q
theorem oO (p q:Rat):p-q=mkRat (p.num*q.den-q.num*p.den) (p.den*q.den):=Rat.sub_def' p q
theorem oP (p q:Rat):p*q=mkRat (p.num*q.num) (p.den*q.den):=Rat.mul_def' p q
theorem qD (n:Int) (d:Int) (hd:d<0):Rat.divInt n d=mkRat (-n) (-d).toNat:=by
 rw[← Rat.neg_divInt_neg]
 have: -d=((-d).toNat:Int):=by omega
 rw[this]
 exact Rat.divInt_ofNat _ _
theorem dX (n:Int) (d:Int) (hd:0<d):Rat.divInt n d=mkRat n d.toNat:=by
 have:d=(d.toNat:Int):=by omega
 conv=>lhs;rw[this]
 exact Rat.divInt_ofNat _ _
theorem aAi (p q:Rat) (hq:q≠0):p/q=Rat.divInt (p.num*q.den) (p.den*q.num):=by
 rw[Rat.div_def,Rat.inv_def]
 conv=>lhs;lhs;rw[← Rat.num_divInt_den p]
 rw[Rat.divInt_mul_divInt]
end IB
end
section
set_option linter.unusedVariables false
set_option linter.unusedVariables false
namespace IB
open Go.Lib
def sgn (b:Bool) (m:Nat):Int:=if b then -(m:Int) else m
def wrM (b:Bool) (m:Nat):List UInt8:=if m=0 then [48] else if b then 45::decDigits m else decDigits m
theorem aQ6 (b:Bool) (m:Nat):wrM b m=itoa (sgn b m):=by
 unfold wrM sgn itoa
 by_cases h:m=0
 ·subst h
  rw[if_pos rfl]
  cases b<;>exact (cB (show 0<10 by omega)).symm
 ·rw[if_neg h]
  cases b
  ·show decDigits m=if (m:Int)<0 then 45::decDigits (m:Int).natAbs else decDigits (m:Int).toNat
   rw[if_neg (by omega),Int.toNat_natCast]
  ·show 45::decDigits m=if -(m:Int)<0 then 45::decDigits (-(m:Int)).natAbs else decDigits (-(m:Int)).toNat
   rw[if_pos (by omega),show (-(m:Int)).natAbs=m by omega]
theorem aAj (x y:Int) (hy:y≠0):(if x.tmod y≠0∧¬(x.tmod y<0↔y<0) then (x.tdiv y-1,x.tmod y+y) else (x.tdiv y,x.tmod y))=(x.fdiv y,x.fmod y):=by
 have h1:=Int.tmod_add_mul_tdiv x y
 have hlt:(x.tmod y).natAbs<y.natAbs:=by rw[Int.natAbs_tmod];exact Nat.mod_lt _ (by omega)
 rcases Int.lt_or_gt_of_ne hy with hn | hp
 ·split
  ·rename_i h
   have:=(Int.fdiv_fmod_unique' (a:=x) (r:=x.tmod y+y) (q:=x.tdiv y-1) hn).2 ⟨by rw[Int.mul_sub,Int.mul_one];omega,by omega,by omega⟩
   rw[this.1,this.2]
  ·rename_i h
   have:=(Int.fdiv_fmod_unique' (a:=x) (r:=x.tmod y) (q:=x.tdiv y) hn).2 ⟨h1,by omega,by omega⟩
   rw[this.1,this.2]
 ·split
  ·rename_i h
   have:=(Int.fdiv_fmod_unique (a:=x) (r:=x.tmod y+y) (q:=x.tdiv y-1) hp).2 ⟨by rw[Int.mul_sub,Int.mul_one];omega,by omega,by omega⟩
   rw[this.1,this.2]
  ·rename_i h
   have:=(Int.fdiv_fmod_unique (a:=x) (r:=x.tmod y) (q:=x.tdiv y) hp).2 ⟨h1,by omega,by omega⟩
   rw[this.1,this.2]
theorem aPa (b:Bool) (m:Nat) (c:Bool) (n:Nat) (hn:0<n):
  (sgn (b != c) (if b≠c∧0<m%n then m/n+1 else m/n),sgn c (if b≠c∧0<m%n then n-m%n else m%n))=((sgn b m).fdiv (sgn c n),(sgn b m).fmod (sgn c n)):=by
 have h1:=Nat.mod_add_div m n
 have h2:=Nat.mod_lt m hn
 have h1':((m%n:Nat):Int)+(n:Int)*((m/n:Nat):Int)=m:=by exact_mod_cast h1
 generalize m%n=r at h1 h1' h2 ⊢
 generalize m/n=q at h1 h1' ⊢
 cases b<;>cases c<;>simp only[sgn,bne_self_eq_false,Bool.false_eq_true,if_false,if_true,ne_eq,not_true_eq_false,false_and,reduceCtorEq,not_false_eq_true,true_and,Bool.bne_true,Bool.bne_false,Bool.not_false]
 ·have:=(Int.fdiv_fmod_unique (a:=(m:Int)) (b:=(n:Int)) (r:=(r:Int)) (q:=(q:Int)) (by omega)).2 ⟨h1',by omega,by omega⟩
  rw[this.1,this.2]
 ·by_cases h:0<r
  ·have:=(Int.fdiv_fmod_unique' (a:=(m:Int)) (b:= -(n:Int)) (r:= -((n-r:Nat):Int)) (q:= -((q+1:Nat):Int)) (by omega)).2 ⟨by rw[Int.neg_mul_neg];simp only[Int.natCast_add,Int.mul_add];omega,by omega,by omega⟩
   rw[if_pos h,if_pos h,this.1,this.2]
  ·have:=(Int.fdiv_fmod_unique' (a:=(m:Int)) (b:= -(n:Int)) (r:= -(r:Int)) (q:= -(q:Int)) (by omega)).2 ⟨by rw[Int.neg_mul_neg];omega,by omega,by omega⟩
   rw[if_neg h,if_neg h,this.1,this.2]
 ·by_cases h:0<r
  ·have:=(Int.fdiv_fmod_unique (a:= -(m:Int)) (b:=(n:Int)) (r:=((n-r:Nat):Int)) (q:= -((q+1:Nat):Int)) (by omega)).2 ⟨by rw[Int.mul_neg];simp only[Int.natCast_add,Int.mul_add];omega,by omega,by omega⟩
   rw[if_pos h,if_pos h,this.1,this.2]
  ·have:=(Int.fdiv_fmod_unique (a:= -(m:Int)) (b:=(n:Int)) (r:=(r:Int)) (q:= -(q:Int)) (by omega)).2 ⟨by rw[Int.mul_neg];omega,by omega,by omega⟩
   rw[if_neg h,if_neg h,this.1,this.2]
 ·have:=(Int.fdiv_fmod_unique' (a:= -(m:Int)) (b:= -(n:Int)) (r:= -(r:Int)) (q:=(q:Int)) (by omega)).2 ⟨by rw[Int.neg_mul];omega,by omega,by omega⟩
  rw[this.1,this.2]
end IB
end
section
set_option linter.unusedVariables false
set_option linter.unusedVariables false
namespace IB
open Go.Lib
noncomputable instance (s:List UInt8):Decidable (jA s):=Classical.propDecidable _
noncomputable def chkQ (s:List UInt8):Int:=if jA s then (if 300<(digs (topS s)).length∨300<(botS s).tail.length then 4 else if (valI (topS s)).natAbs.gcd (denS s)=1 then 0 else 11) else 11
theorem rI {s:List UInt8} (h:chkQ s=0):s=numS (valQ s)∧(digs (topS s)).length≤300∧(botS s).tail.length≤300:=by
 unfold chkQ at h
 split at h
 ·rename_i hf
  split at h
  ·cases h
  ·rename_i hl
   split at h
   ·rename_i hg
    exact ⟨aIz hf hg,by omega,by omega⟩
   ·cases h
 ·cases h
def lim (n:Int):Bool:=decide (300<(decDigits n.natAbs).length)
noncomputable def cE (a b:List UInt8) (f:Rat→Rat→List UInt8 × Int):List UInt8 × Int:=if chkQ a≠0 then ([],chkQ a) else if chkQ b≠0 then ([],chkQ b) else f (valQ a) (valQ b)
noncomputable def addQ (a b:List UInt8):List UInt8 × Int:=cE a b fun p q=>if lim (p.num*q.den) || lim (q.num*p.den) || lim (p.num*q.den+q.num*p.den) || lim (p.den*q.den) then ([],4) else (numS (p+q),0)
noncomputable def subQ (a b:List UInt8):List UInt8 × Int:=cE a b fun p q=>if lim (p.num*q.den) || lim (q.num*p.den) || lim (p.num*q.den-q.num*p.den) || lim (p.den*q.den) then ([],4) else (numS (p-q),0)
noncomputable def mulQ (a b:List UInt8):List UInt8 × Int:=cE a b fun p q=>if lim (p.num*q.num) || lim (p.den*q.den) then ([],4) else (numS (p*q),0)
noncomputable def divQ (a b:List UInt8):List UInt8 × Int:=cE a b fun p q=>if q=0 then ([],12) else if lim (p.num*q.den) || lim (q.num*p.den) then ([],4) else (numS (p/q),0)
end IB
end
section
open Go Go.Proofs Go.Eng Go.Shelf IB
namespace RB
set_option maxRecDepth 10000
set_option linter.unusedVariables false
set_option linter.unusedSimpArgs false
abbrev I (n:Int):SV:=.val (.int .i64 n)
abbrev Ls (xs:List Int):SV:=.seq (.int .i64) xs
abbrev S (s:List UInt8):SV:=.str s
abbrev B9:Nat:=1000000000
set_option maxRecDepth 10000
set_option linter.unusedVariables false
theorem cF {n:Int} {C:Nat→Prop} (j:Nat) (e:n=(j:Int)) (h:C j):Ix n C:=by
 refine ⟨fun i e'=>?_⟩
 have:j=i:=by omega
 subst this;exact h
theorem get9 {l:List Int} (h:InB B9 l) (i:Nat):0≤l.getD i 0∧l.getD i 0<1000000000:=h.getD0 (by decide) i
theorem lE (xs:List Int) (k:Nat) (h:k<xs.length):xs.take (k+1)=xs.take k++ [xs.getD k 0]:=by
 rw[List.take_succ_eq_append_getElem h]
 simp[List.getD_eq_getElem?_getD,h]
theorem oS (xs:List Int) (k i:Nat) (h:i<k):(xs.take k).getD i 0=xs.getD i 0:=by
 simp[List.getD_eq_getElem?_getD,List.getElem?_take,h]
abbrev V (xs:List Int):HO:=.vec 1 (.int .i64) xs 3
theorem b131 (xs:List Int):aDj Tryz.prog [] { asks:=[(0,[0])] } Tryz.f192 0 false [.any] (.int .i64) xs 3 (.ref 0 1) (bX xs):=by
 skip
 refine Ask.mk ⟨{ X:=Nat,pre:=fun i=>i≤xs.length∧bX (xs.take i)=bX xs,mod:=fun i _=>[(0,.ref 0 1)],heap:=fun i _=>[V (xs.take i),V []],mu:=fun i=>i,objs:=[0] },rfl,?_⟩
 (repeat'((conv=>whnf);first|refine Zn ?_|fail))
 refine ⟨⟨xs.length,⟨Nat.le_refl _,by rw[List.take_length]⟩,?_⟩,fun (i:Nat) hi=>?_⟩
 ·(repeat'(first|exact trivial|rfl|exact Nat.one_pos|refine And.intro ?_ ?_|fail))
  exact (List.take_length).symm
 ·obtain ⟨hi1,hi2⟩:=hi
  have hl:(xs.take i).length=i:=by rw[List.length_take];omega
  (repeat'((conv=>whnf);first|refine Zg fun _=>?_|fail))
  (refine Br.mk (fun _=>?_) (fun _=>?_))
  ·rename_i h1
   have h0:0<i:=by omega
   obtain ⟨k,rfl⟩:∃k,i=k+1:=⟨i-1,by omega⟩
   (repeat'((conv=>whnf);first|refine Zg fun _=>?_|refine Zn ?_|fail))
   refine cF k (by omega) ?_
   (repeat'((conv=>whnf);first|refine Zg fun _=>?_|fail))
   (refine Br.mk (fun _=>?_) (fun _=>?_))
   ·rename_i hz
    rw[oS _ _ _ (by omega)] at hz
    (repeat'((conv=>whnf);first|refine Zg fun _=>?_|refine Zn ?_|fail))
    refine Own.l (Own.r ?_)
    (repeat'((conv=>whnf);first|refine Zn ?_|fail))
    refine cF k (by omega) ?_
    skip
    refine ⟨(k:Nat),by show k<k+1;omega,⟨by omega,?_⟩,?_⟩
    ·rw[← hi2,lE _ _ (by omega),hz,dM]
    ·(repeat'(first|exact trivial|rfl|exact Nat.one_pos|refine And.intro ?_ ?_|fail))
     rw[List.take_take];congr 1;omega
   ·rename_i hz
    rw[oS _ _ _ (by omega)] at hz
    skip
    (conv=>whnf)
    (repeat'(first|rfl|refine And.intro ?_ ?_|fail))
    rw[← hi2,lE _ _ (by omega)]
    exact (jL _ _ hz).symm
  ·have:i=0:=by omega
   subst this
   skip
   (conv=>whnf)
   (repeat'(first|rfl|refine And.intro ?_ ?_|fail))
   rw[← hi2];rfl
theorem b131s (xs:List Int):body Tryz.prog [] { asks:=[(0,[])] } false Tryz.f192 [Ls xs] (Ls (bX xs)):=by
 skip
 refine Ask.mk ⟨{ X:=Nat,pre:=fun i=>i≤xs.length∧bX (xs.take i)=bX xs,mod:=fun i _=>[(0,Ls (xs.take i))],heap:=fun i _=>[V []],mu:=fun i=>i },rfl,?_⟩
 (repeat'((conv=>whnf);first|refine Zn ?_|fail))
 refine ⟨⟨xs.length,⟨Nat.le_refl _,by rw[List.take_length]⟩,?_⟩,fun (i:Nat) hi=>?_⟩
 ·(repeat'(first|exact trivial|rfl|refine And.intro ?_ ?_|fail))
  exact (List.take_length).symm
 ·obtain ⟨hi1,hi2⟩:=hi
  have hl:(xs.take i).length=i:=by rw[List.length_take];omega
  (repeat'((conv=>whnf);first|refine Zg fun _=>?_|fail))
  (refine Br.mk (fun _=>?_) (fun _=>?_))
  ·rename_i h1
   have h0:0<i:=by omega
   obtain ⟨k,rfl⟩:∃k,i=k+1:=⟨i-1,by omega⟩
   (repeat'((conv=>whnf);first|refine Zg fun _=>?_|refine Zn ?_|fail))
   refine cF k (by omega) ?_
   (repeat'((conv=>whnf);first|refine Zg fun _=>?_|fail))
   (refine Br.mk (fun _=>?_) (fun _=>?_))
   ·rename_i hz
    rw[oS _ _ _ (by omega)] at hz
    (repeat'((conv=>whnf);first|refine Zg fun _=>?_|refine Zn ?_|fail))
    refine cF k (by omega) ?_
    skip
    refine ⟨(k:Nat),by show k<k+1;omega,⟨by omega,?_⟩,?_⟩
    ·rw[← hi2,lE _ _ (by omega),hz,dM]
    ·(repeat'(first|exact trivial|rfl|refine And.intro ?_ ?_|fail))
     rw[List.take_take];congr 1;omega
   ·rename_i hz
    rw[oS _ _ _ (by omega)] at hz
    skip
    (conv=>whnf)
    skip
    rw[← hi2,lE _ _ (by omega)]
    exact (jL _ _ hz).symm
  ·have:i=0:=by omega
   subst this
   skip
   (conv=>whnf)
   skip
   rw[← hi2];rfl
def c131:Con:=aLj 192 false 0 false (fun args o K=>match args,o with | [.any],.vec 1 (.int .i64) xs 3=>K (.ref 0 1) (.vec 1 (.int .i64) (bX xs) 3) | _,_=>False)
 (fun args K=>match args with | [.seq (.int .i64) xs]=>K (Ls (bX xs)) | _=>False)
theorem k131:aF Tryz.prog c131:=by
 refine aMe (enters_of Tryz.func192 (by kernel_rfl) rfl) ?_ ?_
 ·intro args t xs e K hfl h
  split at h
  ·rename_i zs heq
   cases heq
   first | exact ⟨_,_,h,fF (Γ:=[]) (by simp) Tryz.func192 (by simp[Tryz.ntmps192]) rfl (b131 zs)⟩ | exact ⟨_,_,h,fF (Γ:=[]) (by simp) Tryz.func192 (by simp[Tryz.ntmps192]) rfl (b131 xs)⟩
  ·exact h.elim
 ·intro args K h
  split at h
  ·rename_i xs
   exact ⟨_,h,aA (Γ:=[]) (by simp) Tryz.func192 (by simp[Tryz.ntmps192]) rfl (b131s xs)⟩
  ·exact h.elim
theorem b132 (l:List Int) (i:Int) (h:0≤i):body Tryz.prog [] {} true Tryz.f221 [Ls l,I i] (I (l.getD i.toNat 0)):=by
 (repeat'((conv=>whnf);first|refine Zg fun _=>?_|fail))
 (refine Br.mk (fun _=>?_) (fun _=>?_))
 ·(repeat'((conv=>whnf);first|refine Zn ?_|fail))
  refine cF i.toNat (by omega) ?_
  (repeat'((conv=>whnf);first|refine Zg fun _=>?_|fail))
  (conv=>whnf)
  (repeat'(first|rfl|refine And.intro ?_ ?_|fail))
 ·rename_i h1
  have:l.getD i.toNat 0=0:=eA _ _ (by omega)
  skip
  (conv=>whnf)
  rw[this]
  (repeat'(first|rfl|refine And.intro ?_ ?_|fail))
def c132:Con:=aJ 221 true fun args K=>match args with | [.seq (.int .i64) l,.val (.int .i64 i)]=>Need (0≤i) (Ix i fun j=>K (I (l.getD j 0))) | _=>False
theorem k132:aF Tryz.prog c132:=by
 refine aC rfl (enters_of Tryz.func221 (by kernel_rfl) rfl) ?_
 intro args K h
 simp only[c132] at h
 split at h
 ·rename_i l i
  exact ⟨_,h.go.use h.ok,aA (Γ:=[]) (by simp) Tryz.func221 (by simp[Tryz.ntmps221]) rfl (b132 l i h.ok)⟩
 ·exact h.elim
theorem b108 (x y c:Int) (h:(0≤x∧x<1000000000)∧(0≤y∧y<1000000000)∧(0≤c∧c≤1)):body Tryz.prog [] {} true Tryz.f183 [I x,I y,I c] (.tup [I ((x+y+c)%1000000000),I ((x+y+c)/1000000000)]):=by
 (repeat'((conv=>whnf);first|refine Za ?_|refine Zn ?_|fail))
 (conv=>whnf)
 (repeat'(first|exact trivial|rfl|refine And.intro ?_ ?_|fail))
def c108:Con:=aJ 183 true fun args K=>match args with | [.val (.int .i64 x),.val (.int .i64 y),.val (.int .i64 c)]=>Need ((0≤x∧x<1000000000)∧(0≤y∧y<1000000000)∧(0≤c∧c≤1)) (K (.tup [I ((x+y+c)%1000000000),I ((x+y+c)/1000000000)])) | _=>False
theorem k108:aF Tryz.prog c108:=by
 refine aC rfl (enters_of Tryz.func183 (by kernel_rfl) rfl) ?_
 intro args K h
 simp only[c108] at h
 split at h
 ·rename_i x y c;exact ⟨_,h.go,aA (Γ:=[]) (by simp) Tryz.func183 (by simp[Tryz.ntmps183]) rfl (b108 x y c h.ok)⟩
 ·exact h.elim
abbrev mn (x y c:Int):Int:=if 0≤x-y-c then x-y-c else x-y-c+1000000000
abbrev mc (x y c:Int):Int:=if 0≤x-y-c then 0 else 1
theorem b109 (x y c:Int) (h:(0≤x∧x<1000000000)∧(0≤y∧y<1000000000)∧(0≤c∧c≤1)):body Tryz.prog [] {} true Tryz.f184 [I x,I y,I c] (.tup [I (mn x y c),I (mc x y c)]):=by
 unfold mn mc
 (repeat'((conv=>whnf);first|refine Zn ?_|fail))
 (refine Br.mk (fun _=>?_) (fun _=>?_))
 ·rename_i hb
  skip
  (conv=>whnf)
  rw[if_pos hb,if_pos hb]
  (repeat'(first|exact trivial|rfl|refine And.intro ?_ ?_|fail))
 ·rename_i hb
  (repeat'((conv=>whnf);first|refine Zn ?_|fail))
  (conv=>whnf)
  rw[if_neg hb,if_neg hb]
  (repeat'(first|exact trivial|rfl|refine And.intro ?_ ?_|fail))
def c109:Con:=aJ 184 true fun args K=>match args with | [.val (.int .i64 x),.val (.int .i64 y),.val (.int .i64 c)]=>Need ((0≤x∧x<1000000000)∧(0≤y∧y<1000000000)∧(0≤c∧c≤1)) (K (.tup [I (mn x y c),I (mc x y c)])) | _=>False
theorem k109:aF Tryz.prog c109:=by
 refine aC rfl (enters_of Tryz.func184 (by kernel_rfl) rfl) ?_
 intro args K h
 simp only[c109] at h
 split at h
 ·rename_i x y c;exact ⟨_,h.go,aA (Γ:=[]) (by simp) Tryz.func184 (by simp[Tryz.ntmps184]) rfl (b109 x y c h.ok)⟩
 ·exact h.elim
theorem b107p (a b:List Int) (h:InB B9 a∧InB B9 b∧a.length≤100000∧b.length≤100000):body Tryz.prog [c132,c108,c131] { asks:=[(0,[1])] } true Tryz.f182 [Ls a,Ls b,.clo 183 [] []] (Ls (aB B9 (valB B9 a+valB B9 b).toNat)):=by
 obtain ⟨ha,hb,hla,hlb⟩:=h
 (repeat'((conv=>whnf);first|refine Zg fun _=>?_|refine Zn ?_|fail))
 refine Ask.mk ⟨{ X:=Nat,pre:=fun i=>i≤max a.length b.length+1,mod:=fun i _=>[(7,.ref 1 1),(8,I (addK B9 a b i).2),(18,I i)],heap:=fun i _=>[V [],V (addK B9 a b i).1],mu:=fun i=>max a.length b.length+1-i,objs:=[1] },rfl,?_⟩
 (repeat'((conv=>whnf);first|refine Zn ?_|fail))
 refine ⟨⟨(0:Nat),Nat.zero_le _,by (repeat'(first|exact trivial|rfl|exact Nat.one_pos|refine And.intro ?_ ?_|fail))⟩,fun (i:Nat) (hi:i≤max a.length b.length+1)=>?_⟩
 obtain ⟨g1,g2,g3,_⟩:=jN (B:=B9) (by decide) ha hb i
 have ga:=get9 ha i
 have gb:=get9 hb i
 skip
 (refine Br.mk (fun _=>?_) (fun _=>?_))
 ·have hlt:i<max a.length b.length+1:=by omega
  (repeat'((conv=>whnf);first|refine Zn ?_|refine Zj ?_|refine Zl ?_|fail))
  refine ⟨(i+1:Nat),by show max a.length b.length+1-(i+1)<max a.length b.length+1-i;omega,hlt,?_⟩
  (repeat'(first|exact trivial|rfl|exact Nat.one_pos|refine And.intro ?_ ?_|fail))
 ·have e:i=max a.length b.length+1:=by omega
  subst e
  skip
  (conv=>whnf)
  rw[← aM6 (B:=B9) (by decide) ha hb (Nat.le_max_left _ _) (Nat.le_max_right _ _)]
  skip
theorem b107m (a b:List Int) (h:InB B9 a∧InB B9 b∧valB B9 b≤valB B9 a∧a.length≤100000∧b.length≤100000):body Tryz.prog [c132,c109,c131] { asks:=[(0,[1])] } true Tryz.f182 [Ls a,Ls b,.clo 184 [] []] (Ls (aB B9 (valB B9 a-valB B9 b).toNat)):=by
 obtain ⟨ha,hb,hle,hla,hlb⟩:=h
 (repeat'((conv=>whnf);first|refine Zg fun _=>?_|refine Zn ?_|fail))
 refine Ask.mk ⟨{ X:=Nat,pre:=fun i=>i≤max a.length b.length+1,mod:=fun i _=>[(7,.ref 1 1),(8,I (subK B9 a b i).2),(18,I i)],heap:=fun i _=>[V [],V (subK B9 a b i).1],mu:=fun i=>max a.length b.length+1-i,objs:=[1] },rfl,?_⟩
 (repeat'((conv=>whnf);first|refine Zn ?_|fail))
 refine ⟨⟨(0:Nat),Nat.zero_le _,by (repeat'(first|exact trivial|rfl|exact Nat.one_pos|refine And.intro ?_ ?_|fail))⟩,fun (i:Nat) (hi:i≤max a.length b.length+1)=>?_⟩
 obtain ⟨g1,g2,g3,_⟩:=oQ (B:=B9) (by decide) ha hb i
 have ga:=get9 ha i
 have gb:=get9 hb i
 skip
 (refine Br.mk (fun _=>?_) (fun _=>?_))
 ·have hlt:i<max a.length b.length+1:=by omega
  (repeat'((conv=>whnf);first|refine Zn ?_|refine Zj ?_|refine Zl ?_|fail))
  refine ⟨(i+1:Nat),by show max a.length b.length+1-(i+1)<max a.length b.length+1-i;omega,hlt,?_⟩
  (repeat'(first|exact trivial|rfl|exact Nat.one_pos|refine And.intro ?_ ?_|fail))
 ·have e:i=max a.length b.length+1:=by omega
  subst e
  skip
  (conv=>whnf)
  rw[← (aE7 (B:=B9) (by decide) ha hb (n:=max a.length b.length+1) (by omega) (by omega) hle).1]
  skip
def c107:Con:=aJ 182 true fun args K=>match args with
 | [.seq (.int .i64) a,.seq (.int .i64) b,.clo 183 [] []]=>Need (InB B9 a∧InB B9 b∧a.length≤100000∧b.length≤100000) (K (Ls (aB B9 (valB B9 a+valB B9 b).toNat)))
 | [.seq (.int .i64) a,.seq (.int .i64) b,.clo 184 [] []]=>Need (InB B9 a∧InB B9 b∧valB B9 b≤valB B9 a∧a.length≤100000∧b.length≤100000) (K (Ls (aB B9 (valB B9 a-valB B9 b).toNat)))
 | _=>False
theorem k107:aF Tryz.prog c107:=by
 refine aC rfl (enters_of Tryz.func182 (by kernel_rfl) rfl) ?_
 intro args K h
 simp only[c107] at h
 split at h
 ·rename_i a b
  exact ⟨_,h.go,aA (Γ:=[c132,c108,c131]) (by simp[k132,k108,k131]) Tryz.func182 (by simp[Tryz.ntmps182]) rfl (b107p a b h.ok)⟩
 ·rename_i a b
  exact ⟨_,h.go,aA (Γ:=[c132,c109,c131]) (by simp[k132,k109,k131]) Tryz.func182 (by simp[Tryz.ntmps182]) rfl (b107m a b h.ok)⟩
 ·exact h.elim
theorem c9:((B9:Nat):Int)=1000000000:=rfl
theorem aK6 {x y B:Int} (hx:0≤x∧x<B) (hy:0≤y∧y<B):0≤x*y∧x*y≤(B-1)*(B-1):=by
 refine ⟨Int.mul_nonneg hx.1 hy.1,?_⟩
 calc x*y≤(B-1)*y:=Int.mul_le_mul_of_nonneg_right (by omega) hy.1
  _≤(B-1)*(B-1):=Int.mul_le_mul_of_nonneg_left (by omega) (by omega)
theorem b99 (a b:List Int) (h:InB B9 a∧InB B9 b∧a.length≤100000∧b.length≤100000):aL8 Tryz.prog [c132,c131] { asks:=[(0,[]),(2,[])] } Tryz.f188 [Ls a,Ls b] (.ref 0 1) (.int .i64) (aB B9 (valB B9 a*valB B9 b).toNat) 3:=by
 obtain ⟨ha,hb,hla,hlb⟩:=h
 obtain ⟨n,hn⟩:∃n,n=a.length+b.length+1:=⟨_,rfl⟩
 (repeat'((conv=>whnf);first|refine Zg fun _=>?_|refine Zn ?_|refine Z8 ?_|fail))
 refine Ask.mk ⟨{ X:=Nat,pre:=fun i=>i≤a.length,mod:=fun i _=>[(20,I i)],heap:=fun i _=>[V [],V (mulR B9 a b (List.replicate n 0) i)],mu:=fun i=>a.length-i },rfl,?_⟩
 (repeat'((conv=>whnf);first|refine Zn ?_|fail))
 refine ⟨⟨(0:Nat),Nat.zero_le _,?_⟩,fun (i:Nat) (hi:i≤a.length)=>?_⟩
 ·(repeat'(first|exact trivial|rfl|refine And.intro ?_ ?_|fail))
  show List.replicate _ _=List.replicate _ _
  congr 1;omega
 obtain ⟨g1,g2,g3⟩:=oR (B:=B9) (by decide) ha hb (n:=n) (by omega) i hi
 have ga:=get9 ha i
 skip
 (refine Br.mk (fun _=>?_) (fun _=>?_))
 ·have hlt:i<a.length:=by omega
  (repeat'((conv=>whnf);first|refine Zg fun _=>?_|refine Zn ?_|refine Zj ?_|fail))
  refine Ask.mk ⟨{ X:=Nat,pre:=fun k=>k≤b.length+1,mod:=fun k _=>[(28,I k),(8,I (mulK B9 (a.getD i 0) b i (mulR B9 a b (List.replicate n 0) i) k).2)],heap:=fun k _=>[V [],V (mulK B9 (a.getD i 0) b i (mulR B9 a b (List.replicate n 0) i) k).1],mu:=fun k=>b.length+1-k },rfl,?_⟩
  (repeat'((conv=>whnf);first|refine Zn ?_|fail))
  refine ⟨⟨(0:Nat),Nat.zero_le _,by (repeat'(first|exact trivial|rfl|refine And.intro ?_ ?_|fail))⟩,fun (k:Nat) (hk:k≤b.length+1)=>?_⟩
  obtain ⟨m1,m2,m3,_⟩:=iE (B:=B9) (by decide) (x:=a.getD i 0) ⟨ga.1,by rw[c9];exact ga.2⟩ hb (i:=i) g2 k (by omega)
  have m3:0≤(mulK B9 (a.getD i 0) b i (mulR B9 a b (List.replicate n 0) i) k).2∧(mulK B9 (a.getD i 0) b i (mulR B9 a b (List.replicate n 0) i) k).2<1000000000:=m3
  have gb:=get9 hb k
  have gm:=get9 m2 (i+k)
  have hm:=aK6 ga gb
  skip
  (refine Br.mk (fun _=>?_) (fun _=>?_))
  ·have hlt:k<b.length+1:=by omega
   (repeat'((conv=>whnf);first|refine Zg fun _=>?_|refine Za ?_|refine Zn ?_|refine Zj ?_|(apply Pin.mk;apply Exists.intro)|apply Pinned.mk rfl rfl|fail))
   refine ⟨(k+1:Nat),by show b.length+1-(k+1)<b.length+1-k;omega,hlt,?_⟩
   (repeat'(first|exact trivial|rfl|refine And.intro ?_ ?_|fail))
  ·have e:k=b.length+1:=by omega
   subst e
   (repeat'((conv=>whnf);first|refine Zn ?_|fail))
   refine ⟨(i+1:Nat),by show a.length-(i+1)<a.length-i;omega,hlt,?_⟩
   (repeat'(first|exact trivial|rfl|refine And.intro ?_ ?_|fail))
 ·have e:i=a.length:=by omega
  subst e
  skip
  (conv=>whnf)
  (repeat'(first|rfl|refine And.intro ?_ ?_|fail))
  exact aE9 (B:=B9) (by decide) ha hb (by omega)
def c99:Con:=aF1 188 fun args K=>match args with | [.seq (.int .i64) a,.seq (.int .i64) b]=>Need (InB B9 a∧InB B9 b∧a.length≤100000∧b.length≤100000) (K (.ref 0 1) (.vec 1 (.int .i64) (aB B9 (valB B9 a*valB B9 b).toNat) 3)) | _=>False
theorem k99:aF Tryz.prog c99:=by
 refine aMf (enters_of Tryz.func188 (by kernel_rfl) rfl) ?_
 intro args K h
 split at h
 ·rename_i a b;exact ⟨_,_,_,_,_,h.go,fun hfl=>rA (Γ:=[c132,c131]) (by simp[k132,k131]) Tryz.func188 (by simp[Tryz.ntmps188]) hfl (b99 a b h.ok)⟩
 ·exact h.elim
abbrev itB (xs:List Int) (k:Nat):List SV:=[I ((xs.length-1-k:Nat)),I (xs.getD (xs.length-1-k) 0)]
theorem b135 (xs:List Int):body Tryz.prog [] {} false Tryz.f217 [Ls xs] (.clo 239 [] [.lelem [Ls xs] 0]):=by
 skip
 (conv=>whnf)
 (repeat'(first|exact trivial|rfl|refine And.intro ?_ ?_|fail))
def c135:Con:=aJ 217 false fun args K=>match args with | [.seq (.int .i64) xs]=>K (.clo 239 [] [.lelem [Ls xs] 0]) | _=>False
theorem k135:aF Tryz.prog c135:=by
 refine aC rfl (enters_of Tryz.func217 (by kernel_rfl) rfl) ?_
 intro args K h
 simp only[c135] at h
 split at h
 ·rename_i xs;exact ⟨_,h,aA (Γ:=[]) (by simp) Tryz.func217 (by simp[Tryz.ntmps217]) rfl (b135 xs)⟩
 ·exact h.elim
theorem b166 (xs:List Int):vN Tryz.prog [] { asks:=[(0,[])] } Tryz.f239 [.lelem [Ls xs] 0] xs.length (itB xs):=by
 (repeat'((conv=>whnf);first|refine Zg fun _=>?_|refine Zn ?_|fail))
 refine Ask.mk ⟨{ X:=Nat,pre:=fun i=>i≤xs.length,mod:=fun i _=>[(3,I ((xs.length:Int)-1-i))],heap:=fun i _=>[.yst (some i) xs.length (itB xs)],mu:=fun i=>xs.length-i },rfl,?_⟩
 (repeat'((conv=>whnf);first|refine Zn ?_|fail))
 refine ⟨⟨(0:Nat),Nat.zero_le _,by (repeat'(first|exact trivial|rfl|refine And.intro ?_ ?_|omega|fail))⟩,fun (i:Nat) (hi:i≤xs.length)=>?_⟩
 skip
 (refine Br.mk (fun _=>?_) (fun _=>?_))
 ·have hlt:i<xs.length:=by omega
  have e:((xs.length:Int)-1-i)=((xs.length-1-i:Nat):Int):=by omega
  (repeat'((conv=>whnf);first|refine Zn ?_|fail))
  refine cF (xs.length-1-i) (by omega) ?_
  (repeat'((conv=>whnf);first|refine Zg fun _=>?_|refine Zn ?_|fail))
  refine Need.mk (by (repeat'(first|exact trivial|rfl|refine And.intro ?_ ?_|fail));exact e) ?_
  refine Two.mk ?_ ?_
  ·(repeat'((conv=>whnf);first|refine Zn ?_|fail))
   refine ⟨(i+1:Nat),by show xs.length-(i+1)<xs.length-i;omega,hlt,?_⟩
   (repeat'(first|exact trivial|rfl|refine And.intro ?_ ?_|omega|fail))
  ·(conv=>whnf)
   trivial
 ·(conv=>whnf)
  omega
def c166:Con:=aJ 239 false fun args K=>match args with | [.lelem [.seq (.int .i64) xs] 0]=>K (.itr xs.length (itB xs)) | _=>False
theorem k166:aF Tryz.prog c166:=by
 refine aC rfl (enters_of Tryz.func239 (by kernel_rfl) rfl) ?_
 intro args K h
 simp only[c166] at h
 split at h
 ·rename_i xs;exact ⟨_,h,jE (Γ:=[]) (by simp) Tryz.func239 (by simp[Tryz.ntmps239]) (b166 xs)⟩
 ·exact h.elim
def eW (a b:List Int):Nat→Int
 | 0=>0
 | m+1=>if a.getD m 0=b.getD m 0 then eW a b m else a.getD m 0-b.getD m 0
def cmpL (a b:List Int):Int:=if a.length=b.length then eW a b a.length else (a.length:Int)-b.length
theorem b129 (a b:List Int) (h:InB B9 a∧InB B9 b):body Tryz.prog [c135,c166] { asks:=[(0,[])] } true Tryz.f194 [Ls a,Ls b] (I (cmpL a b)):=by
 obtain ⟨ha,hb⟩:=h
 unfold cmpL
 (repeat'((conv=>whnf);first|refine Zg fun _=>?_|fail))
 (refine Br.mk (fun _=>?_) (fun _=>?_))
 ·rename_i h1
  rw[if_neg (by omega)]
  (repeat'((conv=>whnf);first|refine Zg fun _=>?_|refine Zn ?_|fail))
  (conv=>whnf)
  (repeat'(first|rfl|refine And.intro ?_ ?_|fail))
 ·rename_i h1
  rw[if_pos (by omega)]
  have hl:a.length=b.length:=by omega
  skip
  refine Ask.mk ⟨{ X:=Nat,pre:=fun i=>i≤a.length∧eW a b a.length=eW a b (a.length-i),mod:=fun _ _=>[],heap:=fun _ _=>[.cells [Ls b] 60,.cells [I 0] 3],mu:=fun i=>i },rfl,?_⟩
  (repeat'((conv=>whnf);first|refine Zn ?_|fail))
  refine ⟨⟨(0:Nat),rfl,⟨Nat.zero_le _,rfl⟩,by (repeat'(first|exact trivial|rfl|refine And.intro ?_ ?_|fail))⟩,fun (i:Nat) hi (hlt:i<a.length)=>?_,fun (i:Nat) hi (he:i=a.length)=>?_⟩
  ·obtain ⟨hi1,hi2⟩:=hi
   obtain ⟨m,hm⟩:∃m,a.length-i=m+1:=⟨a.length-i-1,by omega⟩
   have e1:a.length-1-i=m:=by omega
   have e2:a.length-(i+1)=m:=by omega
   have ga:=get9 ha m
   have gb:=get9 hb m
   rw[hm,eW] at hi2
   have eI:itB a i= [I m,I (a.getD m 0)]:=by rw[itB,e1]
   show hnfL (itB a i) _
   rw[eI]
   (repeat'((conv=>whnf);first|refine Zg fun _=>?_|refine Zn ?_|refine Zj ?_|fail))
   (refine Br.mk (fun _=>?_) (fun _=>?_))
   ·rename_i hne
    rw[if_neg hne] at hi2
    (repeat'((conv=>whnf);first|refine Zg fun _=>?_|refine Zn ?_|refine Zj ?_|fail))
    (conv=>whnf)
    (repeat'(first|rfl|refine And.intro ?_ ?_|fail))
    exact hi2.symm
   ·rename_i heq
    rw[if_pos (Classical.not_not.1 heq)] at hi2
    skip
    refine ⟨(i+1:Nat),rfl,⟨by omega,by rw[e2];exact hi2⟩,by (repeat'(first|exact trivial|rfl|refine And.intro ?_ ?_|fail))⟩
  ·obtain ⟨hi1,hi2⟩:=hi
   subst he
   rw[Nat.sub_self] at hi2
   skip
   (conv=>whnf)
   (repeat'(first|rfl|refine And.intro ?_ ?_|fail))
   exact hi2.symm
def c129:Con:=aJ 194 true fun args K=>match args with | [.seq (.int .i64) a,.seq (.int .i64) b]=>Need (InB B9 a∧InB B9 b) (K (I (cmpL a b))) | _=>False
theorem k129:aF Tryz.prog c129:=by
 refine aC rfl (enters_of Tryz.func194 (by kernel_rfl) rfl) ?_
 intro args K h
 simp only[c129] at h
 split at h
 ·rename_i a b;exact ⟨_,h.go,aA (Γ:=[c135,c166]) (by simp[k135,k166]) Tryz.func194 (by simp[Tryz.ntmps194]) rfl (b129 a b h.ok)⟩
 ·exact h.elim
theorem uA {a b:List Int} (ha:InB B9 a) (hb:InB B9 b) (hl:a.length=b.length):∀m,m≤a.length→(∀j,m≤j→j<a.length→a.getD j 0=b.getD j 0)→
  (eW a b m<0↔valB B9 a<valB B9 b)∧(eW a b m=0↔valB B9 a=valB B9 b)
 | 0,_,h=>by
  have:a=b:=iF hl fun j hj=>h j (Nat.zero_le _) hj
  subst this
  simp[eW]
 | m+1,hm,h=>by
  simp only[eW]
  by_cases e:a.getD m 0=b.getD m 0
  ·rw[if_pos e]
   refine uA ha hb hl m (by omega) fun j h1 h2=>?_
   by_cases e2:j=m
   ·rw[e2];exact e
   ·exact h j (by omega) h2
  ·rw[if_neg e]
   rcases Int.lt_or_gt_of_ne e with h1 | h1
   ·have:=uR (B:=B9) (by decide) ha hb hl (by omega) (fun j h2 h3=>h j (by omega) h3) h1
    omega
   ·have:=uR (B:=B9) (by decide) hb ha hl.symm (by omega) (fun j h2 h3=>(h j (by omega) (by omega)).symm) h1
    omega
theorem xT (m n:Nat):(cmpL (aB B9 m) (aB B9 n)<0↔m<n)∧(cmpL (aB B9 m) (aB B9 n)=0↔m=n):=by
 unfold cmpL
 split
 ·rename_i hl
  have:=uA (aQ (B:=B9) (by decide) m) (aQ (B:=B9) (by decide) n) hl _ (Nat.le_refl _) fun j h1 h2=>by omega
  rw[cP (by decide),cP (by decide)] at this
  omega
 ·rename_i hl
  rcases Nat.lt_or_ge (aB B9 m).length (aB B9 n).length with h | h
  ·have:=gF (B:=B9) (by decide) h
   omega
  ·have:=gF (B:=B9) (by decide) (show (aB B9 n).length<(aB B9 m).length by omega)
   omega
theorem b134 (a:List Int) (d:Int) (h:InB B9 a∧(0<d∧d<1000000000)∧a.length≤100000):body Tryz.prog [c135,c166,c131] { asks:=[(0,[])] } false Tryz.f216 [Ls a,I d] (.tup [Ls (aB B9 (valB B9 a/d).toNat),Ls (aB B9 (valB B9 a%d).toNat)]):=by
 obtain ⟨ha,hd,hla⟩:=h
 obtain ⟨q1,q2,q3⟩:=aFa (B:=B9) (by decide) hd.1 hd.2 ha
 (repeat'((conv=>whnf);first|refine Zg fun _=>?_|refine Z8 ?_|fail))
 refine Ask.mk ⟨{ X:=Nat,pre:=fun i=>i≤a.length,mod:=fun _ _=>[],heap:=fun i _=>[.cells [I d] 3,V [],.cells [.ref 4 1] 60,V [],V (divK B9 d a i).1,.cells [I (divK B9 d a i).2] 3],mu:=fun i=>i },rfl,?_⟩
 (repeat'((conv=>whnf);first|refine Zn ?_|fail))
 refine ⟨⟨(0:Nat),rfl,Nat.zero_le _,?_⟩,fun (i:Nat) hi (hlt:i<a.length)=>?_,fun (i:Nat) hi (he:i=a.length)=>?_⟩
 ·(repeat'(first|exact trivial|rfl|refine And.intro ?_ ?_|fail))
 ·obtain ⟨g1,g2,g3,_⟩:=jO (B:=B9) (by decide) hd.1 ha i (by omega)
  have ga:=get9 ha (a.length-1-i)
  have hm:=Int.mul_le_mul_of_nonneg_right (show (divK B9 d a i).2≤999999998 by omega) (show (0:Int)≤1000000000 by omega)
  have hm0:=Int.mul_nonneg g3.1 (show (0:Int)≤1000000000 by omega)
  show hnfL (itB a i) _
  (repeat'((conv=>whnf);first|refine Zg fun _=>?_|refine Za ?_|refine Zn ?_|refine Zj ?_|(apply Pin.mk;apply Exists.intro)|apply Pinned.mk rfl rfl|(apply PinH.mk;apply Exists.intro;apply Exists.intro)|exact Zf|refine Zc ?_ ?_|fail))
  refine ⟨(i+1:Nat),rfl,hlt,by (repeat'(first|exact trivial|rfl|refine And.intro ?_ ?_|fail))⟩
 ·subst he
  (repeat'((conv=>whnf);first|(apply Pin.mk;apply Exists.intro)|apply Pinned.mk rfl rfl|(apply PinH.mk;apply Exists.intro;apply Exists.intro)|exact Zf|refine Zc ?_ ?_|refine Zl ?_|fail))
  (conv=>whnf)
  (repeat'(first|exact trivial|refine And.intro ?_ ?_|fail))
  ·exact q1
  ·exact q3
def c134:Con:=aJ 216 false fun args K=>match args with | [.seq (.int .i64) a,.val (.int .i64 d)]=>Need (InB B9 a∧(0<d∧d<1000000000)∧a.length≤100000) (K (.tup [Ls (aB B9 (valB B9 a/d).toNat),Ls (aB B9 (valB B9 a%d).toNat)])) | _=>False
theorem k134:aF Tryz.prog c134:=by
 refine aC rfl (enters_of Tryz.func216 (by kernel_rfl) rfl) ?_
 intro args K h
 simp only[c134] at h
 split at h
 ·rename_i a d;exact ⟨_,h.go,aA (Γ:=[c135,c166,c131]) (by simp[k135,k166,k131]) Tryz.func216 (by simp[Tryz.ntmps216]) rfl (b134 a d h.ok)⟩
 ·exact h.elim
theorem b137 (v:List Int) (j q:Int) (u:List Int) (h:InB B9 u∧InB B9 v∧0≤j∧(0≤q∧q≤8000000000)∧j+v.length+1≤u.length∧u.length≤300000):aDj Tryz.prog [c132] { asks:=[(0,[])] } Tryz.f219 0 true [.any,Ls v,I j,I q] (.int .i64) u 3 (.bl (0<(bJ B9 u v j.toNat q (v.length+1)).2) inferInstance) (bJ B9 u v j.toNat q (v.length+1)).1:=by
 obtain ⟨hu,hv,hj,hq,hl,hlu⟩:=h
 obtain ⟨j,rfl⟩:∃k:Nat,j=k:=⟨j.toNat,by omega⟩
 rw[Int.toNat_natCast]
 (repeat'((conv=>whnf);first|refine Zg fun _=>?_|refine Zn ?_|fail))
 refine Ask.mk ⟨{ X:=Nat,pre:=fun k=>k≤v.length+1,mod:=fun k _=>[(15,I k),(9,I (bJ B9 u v j q k).2)],heap:=fun k _=>[V (bJ B9 u v j q k).1],mu:=fun k=>v.length+1-k },rfl,?_⟩
 (repeat'((conv=>whnf);first|refine Zn ?_|fail))
 refine ⟨⟨(0:Nat),Nat.zero_le _,by (repeat'(first|exact trivial|rfl|refine And.intro ?_ ?_|fail))⟩,fun (k:Nat) (hk:k≤v.length+1)=>?_⟩
 obtain ⟨m1,m2,m3,_⟩:=iH (B:=B9) (by decide) hu hv (j:=j) hq.1 k (by omega)
 have gv:=get9 hv k
 have gm:=get9 m2 (j+k)
 have hm:0≤q*v.getD k 0∧q*v.getD k 0≤8000000000*999999999:=⟨Int.mul_nonneg hq.1 gv.1,Int.le_trans (Int.mul_le_mul_of_nonneg_right hq.2 gv.1) (Int.mul_le_mul_of_nonneg_left (by omega) (by omega))⟩
 skip
 (refine Br.mk (fun _=>?_) (fun _=>?_))
 ·have hlt:k<v.length+1:=by omega
  (repeat'((conv=>whnf);first|refine Zg fun _=>?_|refine Zn ?_|refine Zj ?_|(apply Pin.mk;apply Exists.intro)|apply Pinned.mk rfl rfl|fail))
  (refine Br.mk (fun _=>?_) (fun _=>?_))
  ·rename_i hneg
   have ht:bJ B9 u v j q (k+1)=((bJ B9 u v j q k).1.set (j+k) ((bJ B9 u v j q k).1.getD (j+k) 0-(bJ B9 u v j q k).2-q*v.getD k 0+(-((bJ B9 u v j q k).1.getD (j+k) 0-(bJ B9 u v j q k).2-q*v.getD k 0)+1000000000-1)/1000000000*1000000000),(-((bJ B9 u v j q k).1.getD (j+k) 0-(bJ B9 u v j q k).2-q*v.getD k 0)+1000000000-1)/1000000000):=by
    simp only[bJ]
    rw[if_pos hneg]
    rfl
   (repeat'((conv=>whnf);first|refine Za ?_|refine Zn ?_|refine Zj ?_|fail))
   refine ⟨(k+1:Nat),by show v.length+1-(k+1)<v.length+1-k;omega,hlt,?_⟩
   (repeat'(first|exact trivial|rfl|refine And.intro ?_ ?_|fail))
   all_goals first | exact (congrArg Prod.fst ht).symm | exact (congrArg Prod.snd ht).symm
  ·rename_i hneg
   have ht:bJ B9 u v j q (k+1)=((bJ B9 u v j q k).1.set (j+k) ((bJ B9 u v j q k).1.getD (j+k) 0-(bJ B9 u v j q k).2-q*v.getD k 0+0*1000000000),0):=by
    simp only[bJ]
    rw[if_neg hneg]
    rfl
   (repeat'((conv=>whnf);first|refine Zn ?_|refine Zj ?_|fail))
   refine ⟨(k+1:Nat),by show v.length+1-(k+1)<v.length+1-k;omega,hlt,?_⟩
   (repeat'(first|exact trivial|rfl|refine And.intro ?_ ?_|fail))
   all_goals first | exact (congrArg Prod.fst ht).symm | exact (congrArg Prod.snd ht).symm
 ·have e:k=v.length+1:=by omega
  subst e
  skip
  (conv=>whnf)
  (repeat'(first|rfl|refine And.intro ?_ ?_|fail))
def c137:Con:=aF0 219 0 true fun args o K=>match args,o with | [.any,.seq (.int .i64) v,.val (.int .i64 j),.val (.int .i64 q)],.vec 1 (.int .i64) u 3=>Need (InB B9 u∧InB B9 v∧0≤j∧(0≤q∧q≤8000000000)∧j+v.length+1≤u.length∧u.length≤300000) (K (.bl (0<(bJ B9 u v j.toNat q (v.length+1)).2) inferInstance) (.vec 1 (.int .i64) ((bJ B9 u v j.toNat q (v.length+1)).1) 3)) | _,_=>False
theorem k137:aF Tryz.prog c137:=by
 refine aDy (enters_of Tryz.func219 (by kernel_rfl) rfl) ?_
 intro args t xs e K hfl h
 split at h
 ·rename_i v j q zs heq
  cases heq
  first | exact ⟨_,_,h.go,fF (Γ:=[c132]) (by simp[k132]) Tryz.func219 (by simp[Tryz.ntmps219]) rfl (b137 v j q zs h.ok)⟩ | exact ⟨_,_,h.go,fF (Γ:=[c132]) (by simp[k132]) Tryz.func219 (by simp[Tryz.ntmps219]) rfl (b137 v j q xs h.ok)⟩
 ·exact h.elim
theorem b138 (v:List Int) (j q:Int) (u:List Int) (h:InB B9 u∧InB B9 v∧0≤j∧(0≤q∧q≤8000000000)∧j+v.length+1≤u.length∧u.length≤300000):aDj Tryz.prog [c132] { asks:=[(0,[])] } Tryz.f220 0 true [.any,Ls v,I j,I q] (.int .i64) u 3 (.ref 0 1) (mulK B9 q v j.toNat u (v.length+1)).1:=by
 obtain ⟨hu,hv,hj,hq,hl,hlu⟩:=h
 obtain ⟨j,rfl⟩:∃k:Nat,j=k:=⟨j.toNat,by omega⟩
 rw[Int.toNat_natCast]
 (repeat'((conv=>whnf);first|refine Zg fun _=>?_|refine Zn ?_|fail))
 refine Ask.mk ⟨{ X:=Nat,pre:=fun k=>k≤v.length+1,mod:=fun k _=>[(15,I k),(9,I (mulK B9 q v j u k).2)],heap:=fun k _=>[V (mulK B9 q v j u k).1,V []],mu:=fun k=>v.length+1-k },rfl,?_⟩
 (repeat'((conv=>whnf);first|refine Zn ?_|fail))
 refine ⟨⟨(0:Nat),Nat.zero_le _,by (repeat'(first|exact trivial|rfl|refine And.intro ?_ ?_|fail))⟩,fun (k:Nat) (hk:k≤v.length+1)=>?_⟩
 obtain ⟨m1,m2,m3,_⟩:=sM (B:=B9) (by decide) (x:=q) hq.1 hv (i:=j) hu k (by omega)
 have gv:=get9 hv k
 have gm:=get9 m2 (j+k)
 have hm:0≤q*v.getD k 0∧q*v.getD k 0≤8000000000*999999999:=⟨Int.mul_nonneg hq.1 gv.1,Int.le_trans (Int.mul_le_mul_of_nonneg_right hq.2 gv.1) (Int.mul_le_mul_of_nonneg_left (by omega) (by omega))⟩
 skip
 (refine Br.mk (fun _=>?_) (fun _=>?_))
 ·have hlt:k<v.length+1:=by omega
  (repeat'((conv=>whnf);first|refine Zg fun _=>?_|refine Za ?_|refine Zn ?_|refine Zj ?_|(apply Pin.mk;apply Exists.intro)|apply Pinned.mk rfl rfl|fail))
  refine ⟨(k+1:Nat),by show v.length+1-(k+1)<v.length+1-k;omega,hlt,?_⟩
  (repeat'(first|exact trivial|rfl|refine And.intro ?_ ?_|fail))
 ·have e:k=v.length+1:=by omega
  subst e
  skip
  (conv=>whnf)
  (repeat'(first|rfl|refine And.intro ?_ ?_|fail))
def c138:Con:=aF0 220 0 true fun args o K=>match args,o with | [.any,.seq (.int .i64) v,.val (.int .i64 j),.val (.int .i64 q)],.vec 1 (.int .i64) u 3=>Need (InB B9 u∧InB B9 v∧0≤j∧(0≤q∧q≤8000000000)∧j+v.length+1≤u.length∧u.length≤300000) (K (.ref 0 1) (.vec 1 (.int .i64) ((mulK B9 q v j.toNat u (v.length+1)).1) 3)) | _,_=>False
theorem k138:aF Tryz.prog c138:=by
 refine aDy (enters_of Tryz.func220 (by kernel_rfl) rfl) ?_
 intro args t xs e K hfl h
 split at h
 ·rename_i v j q zs heq
  cases heq
  first | exact ⟨_,_,h.go,fF (Γ:=[c132]) (by simp[k132]) Tryz.func220 (by simp[Tryz.ntmps220]) rfl (b138 v j q zs h.ok)⟩ | exact ⟨_,_,h.go,fF (Γ:=[c132]) (by simp[k132]) Tryz.func220 (by simp[Tryz.ntmps220]) rfl (b138 v j q xs h.ok)⟩
 ·exact h.elim
abbrev top2 (u v:List Int) (j:Nat):Int:=u.getD (j+v.length) 0*1000000000+u.getD (j+v.length-1) 0
abbrev estL (u v:List Int) (j:Nat):Int:=estF 1000000000 (v.getD (v.length-1) 0) (v.getD (v.length-2) 0) (u.getD (j+v.length-2) 0) 8 (top2 u v j/v.getD (v.length-1) 0) (top2 u v j%v.getD (v.length-1) 0)
def eQ (u v:List Int) (j i:Nat):Int:=top2 u v j/v.getD (v.length-1) 0-i
def eR (u v:List Int) (j i:Nat):Int:=top2 u v j%v.getD (v.length-1) 0+i*v.getD (v.length-1) 0
theorem jH (u v:List Int) (j i:Nat):eR u v j (i+1)=eR u v j i+v.getD (v.length-1) 0:=by
 unfold eR
 have:((i+1:Nat):Int)*v.getD (v.length-1) 0=i*v.getD (v.length-1) 0+v.getD (v.length-1) 0:=by rw[Int.natCast_succ,Int.add_mul,Int.one_mul]
 omega
theorem rP (u v:List Int) (j i:Nat):eQ u v j (i+1)=eQ u v j i-1:=by unfold eQ;omega
theorem b136 (u v:List Int) (j:Int) (h:InB B9 u∧InB B9 v∧0≤j∧2≤v.length∧250000000≤v.getD (v.length-1) 0∧j+v.length+1≤u.length∧u.length≤300000):body Tryz.prog [] { asks:=[(0,[])] } true Tryz.f218 [Ls u,Ls v,I j] (I (estL u v j.toNat)):=by
 obtain ⟨hu,hv,hj,hn,hv1,hl,hlu⟩:=h
 obtain ⟨j,rfl⟩:∃k:Nat,j=k:=⟨j.toNat,by omega⟩
 rw[Int.toNat_natCast]
 have g0:=get9 hu (j+v.length)
 have g1:=get9 hu (j+v.length-1)
 have g2:=get9 hu (j+v.length-2)
 have w1:=get9 hv (v.length-1)
 have w2:=get9 hv (v.length-2)
 (repeat'((conv=>whnf);first|refine Zg fun _=>?_|refine Zn ?_|refine Zj ?_|(apply Pin.mk;apply Exists.intro)|apply Pinned.mk rfl rfl|fail))
 refine cF (j+v.length-1) (by omega) ?_
 (repeat'((conv=>whnf);first|refine Zg fun _=>?_|refine Zn ?_|(apply Pin.mk;apply Exists.intro)|apply Pinned.mk rfl rfl|fail))
 refine cF (v.length-1) (by omega) ?_
 (repeat'((conv=>whnf);first|refine Zg fun _=>?_|refine Za ?_|refine Zn ?_|(apply Pin.mk;apply Exists.intro)|apply Pinned.mk rfl rfl|fail))
 refine cF (v.length-1) (by omega) ?_
 (repeat'((conv=>whnf);first|refine Zg fun _=>?_|refine Za ?_|(apply Pin.mk;apply Exists.intro)|apply Pinned.mk rfl rfl|fail))
 have hT:0≤top2 u v j∧top2 u v j<1000000000000000000:=by unfold top2;omega
 have hr:0≤top2 u v j%v.getD (v.length-1) 0∧top2 u v j%v.getD (v.length-1) 0<v.getD (v.length-1) 0:=⟨Int.emod_nonneg _ (by omega),Int.emod_lt_of_pos _ (by omega)⟩
 have hq:0≤top2 u v j/v.getD (v.length-1) 0∧top2 u v j/v.getD (v.length-1) 0≤4000000000:=by
  refine ⟨Int.ediv_nonneg hT.1 (by omega),?_⟩
  refine Int.le_trans (Int.ediv_le_ediv (by omega) (show top2 u v j≤4000000000*v.getD (v.length-1) 0 by omega)) ?_
  rw[Int.mul_ediv_cancel _ (by omega)]
  exact Int.le_refl _
 refine Ask.mk ⟨{ X:=Nat,pre:=fun i=>eR u v j i<1000000000∧estL u v j=estF 1000000000 (v.getD (v.length-1) 0) (v.getD (v.length-2) 0) (u.getD (j+v.length-2) 0) (8-i) (eQ u v j i) (eR u v j i),mod:=fun i _=>[(9,I (eQ u v j i)),(10,I (eR u v j i))],heap:=fun _ _=>[],mu:=fun i=>8-i },rfl,?_⟩
 (repeat'((conv=>whnf);first|refine Zn ?_|fail))
 refine ⟨⟨(0:Nat),⟨by unfold eR;omega,by simp only[estL,eQ,eR];congr 1<;>omega⟩,?_⟩,fun (i:Nat) hi=>?_⟩
 ·(repeat'(first|exact trivial|rfl|refine And.intro ?_ ?_|fail))
  ·show top2 u v j/ _= _
   unfold eQ;omega
  ·show top2 u v j% _= _
   unfold eR;omega
 obtain ⟨hi1,hi2⟩:=hi
 have hi4:(i:Int)*250000000≤i*v.getD (v.length-1) 0:=Int.mul_le_mul_of_nonneg_left hv1 (by omega)
 have hi3:i≤3:=by unfold eR at hi1;omega
 have hR:0≤eR u v j i:=by unfold eR;omega
 have hQ: -3≤eQ u v j i∧eQ u v j i≤4000000000:=by unfold eQ;omega
 have hQv: -3*999999999≤eQ u v j i*v.getD (v.length-2) 0∧eQ u v j i*v.getD (v.length-2) 0≤4000000000*999999999:=by
  refine ⟨Int.le_trans (Int.mul_le_mul_of_nonpos_left (by omega) (show v.getD (v.length-2) 0≤999999999 by omega)) (Int.mul_le_mul_of_nonneg_right hQ.1 w2.1),Int.le_trans (Int.mul_le_mul_of_nonneg_right hQ.2 w2.1) (Int.mul_le_mul_of_nonneg_left (by omega) (by omega))⟩
 obtain ⟨f,hf⟩:∃f,8-i=f+1:=⟨7-i,by omega⟩
 have hf1:8-(i+1)=f:=by omega
 rw[hf,estF,← jH,← rP] at hi2
 (repeat'((conv=>whnf);first|(apply Pin.mk;apply Exists.intro)|apply Pinned.mk rfl rfl|fail))
 (refine Br.mk (fun _=>?_) (fun _=>?_))
 ·rename_i hq1
  rw[if_pos (.inl hq1)] at hi2
  (repeat'((conv=>whnf);first|refine Zn ?_|(apply Pin.mk;apply Exists.intro)|apply Pinned.mk rfl rfl|fail))
  refine cF (v.length-1) (by omega) ?_
  (repeat'((conv=>whnf);first|refine Zg fun _=>?_|refine Zn ?_|(apply Pin.mk;apply Exists.intro)|apply Pinned.mk rfl rfl|fail))
  (refine Br.mk (fun _=>?_) (fun _=>?_))
  ·rename_i hb
   rw[jH,if_pos hb,rP] at hi2
   skip
   (conv=>whnf)
   (repeat'(first|rfl|refine And.intro ?_ ?_|fail))
   exact hi2.symm
  ·rename_i hb
   rw[if_neg (by rw[jH];exact hb)] at hi2
   skip
   refine ⟨(i+1:Nat),by show 8-(i+1)<8-i;omega,⟨by rw[jH];omega,by rw[hi2,hf1]⟩,?_⟩
   (repeat'(first|exact trivial|rfl|refine And.intro ?_ ?_|fail))
   ·exact (rP u v j i).symm
   ·exact (jH u v j i).symm
 ·rename_i hq1
  (repeat'((conv=>whnf);first|(apply Pin.mk;apply Exists.intro)|apply Pinned.mk rfl rfl|fail))
  (refine Br.mk (fun _=>?_) (fun _=>?_))
  ·rename_i hr1
   (repeat'((conv=>whnf);first|refine Zn ?_|(apply Pin.mk;apply Exists.intro)|apply Pinned.mk rfl rfl|fail))
   refine cF (v.length-2) (by omega) ?_
   (repeat'((conv=>whnf);first|refine Zg fun _=>?_|refine Zn ?_|(apply Pin.mk;apply Exists.intro)|apply Pinned.mk rfl rfl|fail))
   refine cF (j+v.length-2) (by omega) ?_
   (repeat'((conv=>whnf);first|refine Zg fun _=>?_|refine Zn ?_|(apply Pin.mk;apply Exists.intro)|apply Pinned.mk rfl rfl|fail))
   (refine Br.mk (fun _=>?_) (fun _=>?_))
   ·rename_i hgt
    rw[if_pos (.inr ⟨hr1,hgt⟩)] at hi2
    (repeat'((conv=>whnf);first|refine Zn ?_|(apply Pin.mk;apply Exists.intro)|apply Pinned.mk rfl rfl|fail))
    refine cF (v.length-1) (by omega) ?_
    (repeat'((conv=>whnf);first|refine Zg fun _=>?_|refine Zn ?_|(apply Pin.mk;apply Exists.intro)|apply Pinned.mk rfl rfl|fail))
    (refine Br.mk (fun _=>?_) (fun _=>?_))
    ·rename_i hb
     rw[jH,if_pos hb,rP] at hi2
     skip
     (conv=>whnf)
     (repeat'(first|rfl|refine And.intro ?_ ?_|fail))
     exact hi2.symm
    ·rename_i hb
     rw[if_neg (by rw[jH];exact hb)] at hi2
     skip
     refine ⟨(i+1:Nat),by show 8-(i+1)<8-i;omega,⟨by rw[jH];omega,by rw[hi2,hf1]⟩,?_⟩
     (repeat'(first|exact trivial|rfl|refine And.intro ?_ ?_|fail))
     ·exact (rP u v j i).symm
     ·exact (jH u v j i).symm
   ·rename_i hgt
    rw[if_neg (by omega)] at hi2
    skip
    (conv=>whnf)
    (repeat'(first|rfl|refine And.intro ?_ ?_|fail))
    exact hi2.symm
  ·omega
def c136:Con:=aJ 218 true fun args K=>match args with | [.seq (.int .i64) u,.seq (.int .i64) v,.val (.int .i64 j)]=>Need (InB B9 u∧InB B9 v∧0≤j∧2≤v.length∧250000000≤v.getD (v.length-1) 0∧j+v.length+1≤u.length∧u.length≤300000) (K (I (estL u v j.toNat))) | _=>False
theorem k136:aF Tryz.prog c136:=by
 refine aC rfl (enters_of Tryz.func218 (by kernel_rfl) rfl) ?_
 intro args K h
 simp only[c136] at h
 split at h
 ·rename_i u v j;exact ⟨_,h.go,aA (Γ:=[]) (by simp) Tryz.func218 (by simp[Tryz.ntmps218]) rfl (b136 u v j h.ok)⟩
 ·exact h.elim
end RB
end
section
set_option linter.unusedVariables false
set_option maxRecDepth 100000
namespace Go.Proofs
open Go.Shelf
def RL.lI_ren:Go.Shelf.Ren:=⟨fun | 171=>68 | 243=>131 | 246=>186 | 283=>224 | 284=>225 | 285=>226 | 286=>227 | 129=>246 | 317=>245 | 318=>247 | 319=>248 | 320=>249 | 337=>265 | 338=>266 | n=>n,fun | 3=>3 | 9=>9 | 2=>2 | 4=>4 | 171=>216 | 0=>0 | 53=>217 | 37=>58 | 5=>5 | 173=>220 | 212=>235 | 51=>236 | 20=>20 | 213=>237 | 46=>238 | 232=>273 | 233=>274 | n=>n,fun | 17=>0 | 18=>4 | 19=>5 | n=>n⟩
theorem RL.lI:Go.Proofs.LaysM.n171 Tryz.prog RL.lI_ren where
 mixed:=by kernel_rfl
 f129:=Tryz.func246.trans (congrArg some (by kernel_rfl))
 f171:=Tryz.func68.trans (congrArg some (by kernel_rfl))
 f243:=Tryz.func131.trans (congrArg some (by kernel_rfl))
 f246:=Tryz.func186.trans (congrArg some (by kernel_rfl))
 f283:=Tryz.func224.trans (congrArg some (by kernel_rfl))
 f284:=Tryz.func225.trans (congrArg some (by kernel_rfl))
 f285:=Tryz.func226.trans (congrArg some (by kernel_rfl))
 f286:=Tryz.func227.trans (congrArg some (by kernel_rfl))
 f317:=Tryz.func245.trans (congrArg some (by kernel_rfl))
 f318:=Tryz.func247.trans (congrArg some (by kernel_rfl))
 f319:=Tryz.func248.trans (congrArg some (by kernel_rfl))
 f320:=Tryz.func249.trans (congrArg some (by kernel_rfl))
 f337:=Tryz.func265.trans (congrArg some (by kernel_rfl))
 f338:=Tryz.func266.trans (congrArg some (by kernel_rfl))
 t0:=Tryz.underlying0
 a0:=Tryz.isAgg0
 z0:=Tryz.sizeOf0
 v0:=Tryz.zeroValue0
 t2:=Tryz.underlying2
 a2:=Tryz.isAgg2
 z2:=Tryz.sizeOf2
 v2:=Tryz.zeroValue2
 t3:=Tryz.underlying3
 a3:=Tryz.isAgg3
 z3:=Tryz.sizeOf3
 v3:=Tryz.zeroValue3
 t4:=Tryz.underlying4
 a4:=Tryz.isAgg4
 z4:=Tryz.sizeOf4
 v4:=Tryz.zeroValue4
 t5:=Tryz.underlying5
 a5:=Tryz.isAgg5
 z5:=Tryz.sizeOf5
 v5:=Tryz.zeroValue5
 t9:=Tryz.underlying9
 a9:=Tryz.isAgg9
 z9:=Tryz.sizeOf9
 v9:=Tryz.zeroValue9
 t20:=Tryz.underlying20
 a20:=Tryz.isAgg20
 z20:=Tryz.sizeOf20
 v20:=Tryz.zeroValue20
 t37:=Tryz.underlying58
 a37:=Tryz.isAgg58
 z37:=Tryz.sizeOf58
 v37:=Tryz.zeroValue58
 t46:=Tryz.underlying238
 a46:=Tryz.isAgg238
 z46:=Tryz.sizeOf238
 v46:=Tryz.zeroValue238
 t51:=Tryz.underlying236
 a51:=Tryz.isAgg236
 z51:=Tryz.sizeOf236
 v51:=Tryz.zeroValue236
 t53:=Tryz.underlying217
 a53:=Tryz.isAgg217
 z53:=Tryz.sizeOf217
 v53:=Tryz.zeroValue217
 t171:=Tryz.underlying216
 a171:=Tryz.isAgg216
 z171:=Tryz.sizeOf216
 v171:=Tryz.zeroValue216
 t173:=Tryz.underlying220
 a173:=Tryz.isAgg220
 z173:=Tryz.sizeOf220
 v173:=Tryz.zeroValue220
 t212:=Tryz.underlying235
 a212:=Tryz.isAgg235
 z212:=Tryz.sizeOf235
 v212:=Tryz.zeroValue235
 t213:=Tryz.underlying237
 a213:=Tryz.isAgg237
 z213:=Tryz.sizeOf237
 t232:=Tryz.underlying273
 a232:=Tryz.isAgg273
 z232:=Tryz.sizeOf273
 v232:=Tryz.zeroValue273
 t233:=Tryz.underlying274
 a233:=Tryz.isAgg274
 z233:=Tryz.sizeOf274
 v233:=Tryz.zeroValue274
 g17:=by kernel_rfl
 g18:=by kernel_rfl
 g19:=by kernel_rfl
 i0:=by kernel_rfl
 i2:=by kernel_rfl
 i3:=by kernel_rfl
 i4:=by kernel_rfl
 i5:=by kernel_rfl
 i9:=by kernel_rfl
 i20:=by kernel_rfl
 i37:=by kernel_rfl
 i46:=by kernel_rfl
 i51:=by kernel_rfl
 i53:=by kernel_rfl
 i171:=by kernel_rfl
 i173:=by kernel_rfl
 i212:=by kernel_rfl
 i232:=by kernel_rfl
 i233:=by kernel_rfl
 m17:=by kernel_rfl
 m18:=by kernel_rfl
 m19:=by kernel_rfl
def RL.lA_ren:Go.Shelf.Ren:=⟨fun | 172=>185 | 244=>222 | 245=>223 | 247=>240 | 279=>241 | 280=>242 | 281=>243 | 282=>244 | 287=>262 | 316=>263 | 171=>68 | 205=>264 | 321=>279 | 322=>280 | 243=>131 | 246=>186 | 283=>224 | 284=>225 | 285=>226 | 286=>227 | 129=>246 | 317=>245 | 318=>247 | 319=>248 | 320=>249 | 337=>265 | 338=>266 | n=>n,fun | 9=>9 | 3=>3 | 75=>186 | 76=>187 | 4=>4 | 5=>5 | 167=>228 | 37=>58 | 0=>0 | 85=>229 | 2=>2 | 168=>231 | 53=>217 | 175=>252 | 46=>238 | 210=>255 | 127=>250 | 145=>272 | 143=>270 | 21=>21 | 171=>216 | 173=>220 | 212=>235 | 51=>236 | 20=>20 | 213=>237 | 232=>273 | 233=>274 | 80=>227 | n=>n,fun | 15=>1 | 16=>2 | 17=>0 | 18=>4 | 19=>5 | n=>n⟩
theorem RL.lA:Go.Proofs.LaysC.n172 Tryz.prog RL.lA_ren where
 mixed:=by kernel_rfl
 f129:=Tryz.func246.trans (congrArg some (by kernel_rfl))
 f171:=Tryz.func68.trans (congrArg some (by kernel_rfl))
 f172:=Tryz.func185.trans (congrArg some (by kernel_rfl))
 f205:=Tryz.func264.trans (congrArg some (by kernel_rfl))
 f243:=Tryz.func131.trans (congrArg some (by kernel_rfl))
 f244:=Tryz.func222.trans (congrArg some (by kernel_rfl))
 f245:=Tryz.func223.trans (congrArg some (by kernel_rfl))
 f246:=Tryz.func186.trans (congrArg some (by kernel_rfl))
 f247:=Tryz.func240.trans (congrArg some (by kernel_rfl))
 f279:=Tryz.func241.trans (congrArg some (by kernel_rfl))
 f280:=Tryz.func242.trans (congrArg some (by kernel_rfl))
 f281:=Tryz.func243.trans (congrArg some (by kernel_rfl))
 f282:=Tryz.func244.trans (congrArg some (by kernel_rfl))
 f283:=Tryz.func224.trans (congrArg some (by kernel_rfl))
 f284:=Tryz.func225.trans (congrArg some (by kernel_rfl))
 f285:=Tryz.func226.trans (congrArg some (by kernel_rfl))
 f286:=Tryz.func227.trans (congrArg some (by kernel_rfl))
 f287:=Tryz.func262.trans (congrArg some (by kernel_rfl))
 f316:=Tryz.func263.trans (congrArg some (by kernel_rfl))
 f317:=Tryz.func245.trans (congrArg some (by kernel_rfl))
 f318:=Tryz.func247.trans (congrArg some (by kernel_rfl))
 f319:=Tryz.func248.trans (congrArg some (by kernel_rfl))
 f320:=Tryz.func249.trans (congrArg some (by kernel_rfl))
 f321:=Tryz.func279.trans (congrArg some (by kernel_rfl))
 f322:=Tryz.func280.trans (congrArg some (by kernel_rfl))
 f337:=Tryz.func265.trans (congrArg some (by kernel_rfl))
 f338:=Tryz.func266.trans (congrArg some (by kernel_rfl))
 t0:=Tryz.underlying0
 a0:=Tryz.isAgg0
 z0:=Tryz.sizeOf0
 v0:=Tryz.zeroValue0
 t2:=Tryz.underlying2
 a2:=Tryz.isAgg2
 z2:=Tryz.sizeOf2
 v2:=Tryz.zeroValue2
 t3:=Tryz.underlying3
 a3:=Tryz.isAgg3
 z3:=Tryz.sizeOf3
 v3:=Tryz.zeroValue3
 t4:=Tryz.underlying4
 a4:=Tryz.isAgg4
 z4:=Tryz.sizeOf4
 v4:=Tryz.zeroValue4
 t5:=Tryz.underlying5
 a5:=Tryz.isAgg5
 z5:=Tryz.sizeOf5
 v5:=Tryz.zeroValue5
 t9:=Tryz.underlying9
 a9:=Tryz.isAgg9
 z9:=Tryz.sizeOf9
 v9:=Tryz.zeroValue9
 t20:=Tryz.underlying20
 a20:=Tryz.isAgg20
 z20:=Tryz.sizeOf20
 v20:=Tryz.zeroValue20
 t21:=Tryz.underlying21
 a21:=Tryz.isAgg21
 z21:=Tryz.sizeOf21
 v21:=Tryz.zeroValue21
 t37:=Tryz.underlying58
 a37:=Tryz.isAgg58
 z37:=Tryz.sizeOf58
 v37:=Tryz.zeroValue58
 t46:=Tryz.underlying238
 a46:=Tryz.isAgg238
 z46:=Tryz.sizeOf238
 v46:=Tryz.zeroValue238
 t51:=Tryz.underlying236
 a51:=Tryz.isAgg236
 z51:=Tryz.sizeOf236
 v51:=Tryz.zeroValue236
 t53:=Tryz.underlying217
 a53:=Tryz.isAgg217
 z53:=Tryz.sizeOf217
 v53:=Tryz.zeroValue217
 t75:=Tryz.underlying186
 a75:=Tryz.isAgg186
 z75:=Tryz.sizeOf186
 v75:=Tryz.zeroValue186
 t76:=Tryz.underlying187
 a76:=Tryz.isAgg187
 z76:=Tryz.sizeOf187
 v76:=Tryz.zeroValue187
 t85:=Tryz.underlying229
 a85:=Tryz.isAgg229
 z85:=Tryz.sizeOf229
 v85:=Tryz.zeroValue229
 t127:=Tryz.underlying250
 a127:=Tryz.isAgg250
 z127:=Tryz.sizeOf250
 v127:=Tryz.zeroValue250
 t143:=Tryz.underlying270
 a143:=Tryz.isAgg270
 z143:=Tryz.sizeOf270
 v143:=Tryz.zeroValue270
 t145:=Tryz.underlying272
 a145:=Tryz.isAgg272
 z145:=Tryz.sizeOf272
 v145:=Tryz.zeroValue272
 t167:=Tryz.underlying228
 a167:=Tryz.isAgg228
 z167:=Tryz.sizeOf228
 v167:=Tryz.zeroValue228
 t168:=Tryz.underlying231
 a168:=Tryz.isAgg231
 z168:=Tryz.sizeOf231
 v168:=Tryz.zeroValue231
 t171:=Tryz.underlying216
 a171:=Tryz.isAgg216
 z171:=Tryz.sizeOf216
 v171:=Tryz.zeroValue216
 t173:=Tryz.underlying220
 a173:=Tryz.isAgg220
 z173:=Tryz.sizeOf220
 v173:=Tryz.zeroValue220
 t175:=Tryz.underlying252
 a175:=Tryz.isAgg252
 z175:=Tryz.sizeOf252
 v175:=Tryz.zeroValue252
 t210:=Tryz.underlying255
 a210:=Tryz.isAgg255
 z210:=Tryz.sizeOf255
 v210:=Tryz.zeroValue255
 t212:=Tryz.underlying235
 a212:=Tryz.isAgg235
 z212:=Tryz.sizeOf235
 v212:=Tryz.zeroValue235
 t213:=Tryz.underlying237
 a213:=Tryz.isAgg237
 z213:=Tryz.sizeOf237
 t232:=Tryz.underlying273
 a232:=Tryz.isAgg273
 z232:=Tryz.sizeOf273
 v232:=Tryz.zeroValue273
 t233:=Tryz.underlying274
 a233:=Tryz.isAgg274
 z233:=Tryz.sizeOf274
 v233:=Tryz.zeroValue274
 g15:=by kernel_rfl
 g16:=by kernel_rfl
 g17:=by kernel_rfl
 g18:=by kernel_rfl
 g19:=by kernel_rfl
 t80:=Tryz.underlying227
 a80:=Tryz.isAgg227
 z80:=Tryz.sizeOf227
 v80:=Tryz.zeroValue227
 i0:=by kernel_rfl
 i2:=by kernel_rfl
 i3:=by kernel_rfl
 i4:=by kernel_rfl
 i5:=by kernel_rfl
 i9:=by kernel_rfl
 i20:=by kernel_rfl
 i21:=by kernel_rfl
 i37:=by kernel_rfl
 i46:=by kernel_rfl
 i51:=by kernel_rfl
 i53:=by kernel_rfl
 i75:=by kernel_rfl
 i76:=by kernel_rfl
 i80:=by kernel_rfl
 i85:=by kernel_rfl
 i127:=by kernel_rfl
 i143:=by kernel_rfl
 i145:=by kernel_rfl
 i167:=by kernel_rfl
 i168:=by kernel_rfl
 i171:=by kernel_rfl
 i173:=by kernel_rfl
 i175:=by kernel_rfl
 i210:=by kernel_rfl
 i212:=by kernel_rfl
 i232:=by kernel_rfl
 i233:=by kernel_rfl
 m15:=by kernel_rfl
 m16:=by kernel_rfl
 m17:=by kernel_rfl
 m18:=by kernel_rfl
 m19:=by kernel_rfl
 c0:=by kernel_rfl
 c2:=by kernel_rfl
 c3:=by kernel_rfl
 c4:=by kernel_rfl
 c5:=by kernel_rfl
 c9:=by kernel_rfl
 c20:=by kernel_rfl
 c21:=by kernel_rfl
 c37:=by kernel_rfl
 c46:=by kernel_rfl
 c51:=by kernel_rfl
 c53:=by kernel_rfl
 c75:=by kernel_rfl
 c76:=by kernel_rfl
 c80:=by kernel_rfl
 c85:=by kernel_rfl
 c127:=by kernel_rfl
 c143:=by kernel_rfl
 c145:=by kernel_rfl
 c167:=by kernel_rfl
 c168:=by kernel_rfl
 c171:=by kernel_rfl
 c173:=by kernel_rfl
 c175:=by kernel_rfl
 c210:=by kernel_rfl
 c212:=by kernel_rfl
 c213:=by kernel_rfl
 c232:=by kernel_rfl
 c233:=by kernel_rfl
def RL.lR_ren:Go.Shelf.Ren:=⟨fun | 105=>233 | 212=>258 | 99=>142 | 165=>259 | 166=>232 | 170=>260 | 169=>234 | 263=>272 | 264=>273 | 206=>195 | 240=>257 | 241=>274 | 276=>271 | 277=>284 | n=>n,fun | 9=>9 | 3=>3 | 4=>4 | 20=>20 | 0=>0 | 46=>238 | 109=>247 | 5=>5 | 72=>224 | 76=>187 | 51=>236 | 146=>264 | 53=>217 | 148=>266 | 70=>222 | 37=>58 | 75=>186 | 127=>250 | 164=>262 | 80=>227 | n=>n,fun | n=>n⟩
theorem RL.lR:Go.Proofs.Lays.n105 Tryz.prog RL.lR_ren where
 mixed:=by kernel_rfl
 f99:=Tryz.func142.trans (congrArg some (by kernel_rfl))
 f105:=Tryz.func233.trans (congrArg some (by kernel_rfl))
 f165:=Tryz.func259.trans (congrArg some (by kernel_rfl))
 f166:=Tryz.func232.trans (congrArg some (by kernel_rfl))
 f169:=Tryz.func234.trans (congrArg some (by kernel_rfl))
 f170:=Tryz.func260.trans (congrArg some (by kernel_rfl))
 f206:=Tryz.func195.trans (congrArg some (by kernel_rfl))
 f212:=Tryz.func258.trans (congrArg some (by kernel_rfl))
 f240:=Tryz.func257.trans (congrArg some (by kernel_rfl))
 f241:=Tryz.func274.trans (congrArg some (by kernel_rfl))
 f263:=Tryz.func272.trans (congrArg some (by kernel_rfl))
 f264:=Tryz.func273.trans (congrArg some (by kernel_rfl))
 f276:=Tryz.func271.trans (congrArg some (by kernel_rfl))
 f277:=Tryz.func284.trans (congrArg some (by kernel_rfl))
 t0:=Tryz.underlying0
 a0:=Tryz.isAgg0
 z0:=Tryz.sizeOf0
 v0:=Tryz.zeroValue0
 t3:=Tryz.underlying3
 a3:=Tryz.isAgg3
 z3:=Tryz.sizeOf3
 v3:=Tryz.zeroValue3
 t4:=Tryz.underlying4
 a4:=Tryz.isAgg4
 z4:=Tryz.sizeOf4
 v4:=Tryz.zeroValue4
 t5:=Tryz.underlying5
 a5:=Tryz.isAgg5
 z5:=Tryz.sizeOf5
 v5:=Tryz.zeroValue5
 t9:=Tryz.underlying9
 a9:=Tryz.isAgg9
 z9:=Tryz.sizeOf9
 v9:=Tryz.zeroValue9
 t20:=Tryz.underlying20
 a20:=Tryz.isAgg20
 z20:=Tryz.sizeOf20
 v20:=Tryz.zeroValue20
 t37:=Tryz.underlying58
 a37:=Tryz.isAgg58
 z37:=Tryz.sizeOf58
 v37:=Tryz.zeroValue58
 t46:=Tryz.underlying238
 a46:=Tryz.isAgg238
 z46:=Tryz.sizeOf238
 v46:=Tryz.zeroValue238
 t51:=Tryz.underlying236
 a51:=Tryz.isAgg236
 z51:=Tryz.sizeOf236
 v51:=Tryz.zeroValue236
 t53:=Tryz.underlying217
 a53:=Tryz.isAgg217
 z53:=Tryz.sizeOf217
 v53:=Tryz.zeroValue217
 t70:=Tryz.underlying222
 a70:=Tryz.isAgg222
 z70:=Tryz.sizeOf222
 v70:=Tryz.zeroValue222
 t72:=Tryz.underlying224
 a72:=Tryz.isAgg224
 z72:=Tryz.sizeOf224
 v72:=Tryz.zeroValue224
 t75:=Tryz.underlying186
 a75:=Tryz.isAgg186
 z75:=Tryz.sizeOf186
 v75:=Tryz.zeroValue186
 t76:=Tryz.underlying187
 a76:=Tryz.isAgg187
 z76:=Tryz.sizeOf187
 v76:=Tryz.zeroValue187
 t109:=Tryz.underlying247
 a109:=Tryz.isAgg247
 z109:=Tryz.sizeOf247
 v109:=Tryz.zeroValue247
 t127:=Tryz.underlying250
 a127:=Tryz.isAgg250
 z127:=Tryz.sizeOf250
 v127:=Tryz.zeroValue250
 t146:=Tryz.underlying264
 a146:=Tryz.isAgg264
 z146:=Tryz.sizeOf264
 v146:=Tryz.zeroValue264
 t148:=Tryz.underlying266
 a148:=Tryz.isAgg266
 z148:=Tryz.sizeOf266
 v148:=Tryz.zeroValue266
 t164:=Tryz.underlying262
 a164:=Tryz.isAgg262
 z164:=Tryz.sizeOf262
 v164:=Tryz.zeroValue262
def RL.lT_ren:Go.Shelf.Ren:=⟨fun | 160=>228 | 232=>251 | 231=>250 | 227=>252 | 234=>254 | 233=>253 | 236=>256 | 235=>255 | 228=>267 | 271=>270 | 151=>269 | 197=>268 | 120=>283 | 152=>282 | 260=>281 | 137=>287 | 119=>288 | 224=>277 | 225=>276 | 217=>275 | 266=>285 | n=>n,fun | 9=>9 | 4=>4 | 3=>3 | 5=>5 | 117=>243 | 116=>242 | 0=>0 | 124=>246 | 21=>21 | 105=>259 | 46=>238 | 119=>278 | 139=>281 | 138=>280 | n=>n,fun | 3=>6 | 4=>7 | n=>n⟩
theorem RL.lT:Go.Proofs.Lays.n160 Tryz.prog RL.lT_ren where
 mixed:=by kernel_rfl
 f119:=Tryz.func288.trans (congrArg some (by kernel_rfl))
 f120:=Tryz.func283.trans (congrArg some (by kernel_rfl))
 f137:=Tryz.func287.trans (congrArg some (by kernel_rfl))
 f151:=Tryz.func269.trans (congrArg some (by kernel_rfl))
 f152:=Tryz.func282.trans (congrArg some (by kernel_rfl))
 f160:=Tryz.func228.trans (congrArg some (by kernel_rfl))
 f197:=Tryz.func268.trans (congrArg some (by kernel_rfl))
 f217:=Tryz.func275.trans (congrArg some (by kernel_rfl))
 f224:=Tryz.func277.trans (congrArg some (by kernel_rfl))
 f225:=Tryz.func276.trans (congrArg some (by kernel_rfl))
 f227:=Tryz.func252.trans (congrArg some (by kernel_rfl))
 f228:=Tryz.func267.trans (congrArg some (by kernel_rfl))
 f231:=Tryz.func250.trans (congrArg some (by kernel_rfl))
 f232:=Tryz.func251.trans (congrArg some (by kernel_rfl))
 f233:=Tryz.func253.trans (congrArg some (by kernel_rfl))
 f234:=Tryz.func254.trans (congrArg some (by kernel_rfl))
 f235:=Tryz.func255.trans (congrArg some (by kernel_rfl))
 f236:=Tryz.func256.trans (congrArg some (by kernel_rfl))
 f260:=Tryz.func281.trans (congrArg some (by kernel_rfl))
 f266:=Tryz.func285.trans (congrArg some (by kernel_rfl))
 f271:=Tryz.func270.trans (congrArg some (by kernel_rfl))
 t0:=Tryz.underlying0
 a0:=Tryz.isAgg0
 z0:=Tryz.sizeOf0
 v0:=Tryz.zeroValue0
 t3:=Tryz.underlying3
 a3:=Tryz.isAgg3
 z3:=Tryz.sizeOf3
 v3:=Tryz.zeroValue3
 t4:=Tryz.underlying4
 a4:=Tryz.isAgg4
 z4:=Tryz.sizeOf4
 v4:=Tryz.zeroValue4
 t5:=Tryz.underlying5
 a5:=Tryz.isAgg5
 z5:=Tryz.sizeOf5
 v5:=Tryz.zeroValue5
 t9:=Tryz.underlying9
 a9:=Tryz.isAgg9
 z9:=Tryz.sizeOf9
 v9:=Tryz.zeroValue9
 t21:=Tryz.underlying21
 a21:=Tryz.isAgg21
 z21:=Tryz.sizeOf21
 v21:=Tryz.zeroValue21
 t46:=Tryz.underlying238
 a46:=Tryz.isAgg238
 z46:=Tryz.sizeOf238
 v46:=Tryz.zeroValue238
 t105:=Tryz.underlying259
 a105:=Tryz.isAgg259
 z105:=Tryz.sizeOf259
 v105:=Tryz.zeroValue259
 t116:=Tryz.underlying242
 a116:=Tryz.isAgg242
 z116:=Tryz.sizeOf242
 t117:=Tryz.underlying243
 a117:=Tryz.isAgg243
 z117:=Tryz.sizeOf243
 v117:=Tryz.zeroValue243
 t119:=Tryz.underlying278
 a119:=Tryz.isAgg278
 z119:=Tryz.sizeOf278
 t124:=Tryz.underlying246
 a124:=Tryz.isAgg246
 z124:=Tryz.sizeOf246
 v124:=Tryz.zeroValue246
 t138:=Tryz.underlying280
 a138:=Tryz.isAgg280
 z138:=Tryz.sizeOf280
 v138:=Tryz.zeroValue280
 t139:=Tryz.underlying281
 a139:=Tryz.isAgg281
 z139:=Tryz.sizeOf281
 v139:=Tryz.zeroValue281
 g3:=by kernel_rfl
 g4:=by kernel_rfl
def RL.lX_ren:Go.Shelf.Ren:=⟨fun | 219=>261 | 217=>275 | 225=>276 | 224=>277 | 267=>278 | 266=>285 | 314=>286 | n=>n,fun | 9=>9 | 3=>3 | 4=>4 | 5=>5 | 46=>238 | 146=>264 | 51=>236 | n=>n,fun | 1=>3 | n=>n⟩
theorem RL.lX:Go.Proofs.Lays.n219 Tryz.prog RL.lX_ren where
 mixed:=by kernel_rfl
 f217:=Tryz.func275.trans (congrArg some (by kernel_rfl))
 f219:=Tryz.func261.trans (congrArg some (by kernel_rfl))
 f224:=Tryz.func277.trans (congrArg some (by kernel_rfl))
 f225:=Tryz.func276.trans (congrArg some (by kernel_rfl))
 f266:=Tryz.func285.trans (congrArg some (by kernel_rfl))
 f267:=Tryz.func278.trans (congrArg some (by kernel_rfl))
 f314:=Tryz.func286.trans (congrArg some (by kernel_rfl))
 t3:=Tryz.underlying3
 a3:=Tryz.isAgg3
 z3:=Tryz.sizeOf3
 v3:=Tryz.zeroValue3
 t4:=Tryz.underlying4
 a4:=Tryz.isAgg4
 z4:=Tryz.sizeOf4
 v4:=Tryz.zeroValue4
 t5:=Tryz.underlying5
 a5:=Tryz.isAgg5
 z5:=Tryz.sizeOf5
 v5:=Tryz.zeroValue5
 t9:=Tryz.underlying9
 a9:=Tryz.isAgg9
 z9:=Tryz.sizeOf9
 v9:=Tryz.zeroValue9
 t46:=Tryz.underlying238
 a46:=Tryz.isAgg238
 z46:=Tryz.sizeOf238
 v46:=Tryz.zeroValue238
 t51:=Tryz.underlying236
 a51:=Tryz.isAgg236
 z51:=Tryz.sizeOf236
 v51:=Tryz.zeroValue236
 t146:=Tryz.underlying264
 a146:=Tryz.isAgg264
 z146:=Tryz.sizeOf264
 v146:=Tryz.zeroValue264
 g1:=by kernel_rfl
def RL.lC_ren:Go.Shelf.Ren:=⟨fun | 240=>257 | 276=>271 | n=>n,fun | 70=>222 | 0=>0 | 72=>224 | 4=>4 | 164=>262 | 37=>58 | 5=>5 | n=>n,fun | n=>n⟩
theorem RL.lC:Go.Proofs.Lays.n240 Tryz.prog RL.lC_ren where
 mixed:=by kernel_rfl
 f240:=Tryz.func257.trans (congrArg some (by kernel_rfl))
 f276:=Tryz.func271.trans (congrArg some (by kernel_rfl))
 t0:=Tryz.underlying0
 a0:=Tryz.isAgg0
 z0:=Tryz.sizeOf0
 v0:=Tryz.zeroValue0
 t4:=Tryz.underlying4
 a4:=Tryz.isAgg4
 z4:=Tryz.sizeOf4
 v4:=Tryz.zeroValue4
 t9:=Tryz.underlying9
 a9:=Tryz.isAgg9
 z9:=Tryz.sizeOf9
 v9:=Tryz.zeroValue9
 t20:=Tryz.underlying20
 a20:=Tryz.isAgg20
 z20:=Tryz.sizeOf20
 v20:=Tryz.zeroValue20
 t70:=Tryz.underlying222
 a70:=Tryz.isAgg222
 z70:=Tryz.sizeOf222
 v70:=Tryz.zeroValue222
 t72:=Tryz.underlying224
 a72:=Tryz.isAgg224
 z72:=Tryz.sizeOf224
 v72:=Tryz.zeroValue224
 t164:=Tryz.underlying262
 a164:=Tryz.isAgg262
 z164:=Tryz.sizeOf262
 v164:=Tryz.zeroValue262
def RL.lS_ren:Go.Shelf.Ren:=⟨fun | 169=>234 | n=>n,fun | 70=>222 | 9=>9 | 0=>0 | 72=>224 | 37=>58 | 127=>250 | 3=>3 | 5=>5 | n=>n,fun | n=>n⟩
theorem RL.lS:Go.Proofs.Lays.n169 Tryz.prog RL.lS_ren where
 mixed:=by kernel_rfl
 f169:=Tryz.func234.trans (congrArg some (by kernel_rfl))
 t0:=Tryz.underlying0
 a0:=Tryz.isAgg0
 z0:=Tryz.sizeOf0
 v0:=Tryz.zeroValue0
 t3:=Tryz.underlying3
 a3:=Tryz.isAgg3
 z3:=Tryz.sizeOf3
 v3:=Tryz.zeroValue3
 t9:=Tryz.underlying9
 a9:=Tryz.isAgg9
 z9:=Tryz.sizeOf9
 v9:=Tryz.zeroValue9
 t37:=Tryz.underlying58
 a37:=Tryz.isAgg58
 z37:=Tryz.sizeOf58
 v37:=Tryz.zeroValue58
 t70:=Tryz.underlying222
 a70:=Tryz.isAgg222
 z70:=Tryz.sizeOf222
 v70:=Tryz.zeroValue222
 t72:=Tryz.underlying224
 a72:=Tryz.isAgg224
 z72:=Tryz.sizeOf224
 v72:=Tryz.zeroValue224
 t127:=Tryz.underlying250
 a127:=Tryz.isAgg250
 z127:=Tryz.sizeOf250
 v127:=Tryz.zeroValue250
end Go.Proofs
end
section
open Go Go.Proofs Go.Eng Go.Shelf IB Go.Lib Go.RowKit
namespace RB
set_option maxRecDepth 10000
set_option linter.unusedVariables false
set_option linter.unusedSimpArgs false
def hasP (s p:List UInt8):Prop:=p.length≤s.length∧s.take p.length=p
instance (s p:List UInt8):Decidable (hasP s p):=by unfold hasP;infer_instance
def uB (s p:List UInt8):List UInt8:=if hasP s p then s.drop p.length else s
theorem mO (s:List UInt8):hasP s [45]↔s.headD 0=45:=by
 cases s with
 | nil=>simp[hasP]
 | cons c r=>simp[hasP]
theorem uC (s:List UInt8):uB s [45]=digs s:=by
 unfold uB digs
 by_cases h:s.headD 0=45
 ·rw[if_pos h,if_pos ((mO s).2 h)]
  cases s<;>rfl
 ·rw[if_neg h,if_neg (fun e=>h ((mO s).1 e))]
theorem b126 (s p:List UInt8):body Tryz.prog [] {} true Tryz.f195 [S s,S p] (.bl (hasP s p) inferInstance):=by
 (repeat'((conv=>whnf);first|refine Zg fun _=>?_|fail))
 (refine Br.mk (fun _=>?_) (fun _=>?_))
 ·rename_i h
  (repeat'((conv=>whnf);first|refine Zg fun _=>?_|refine Zn ?_|refine Zj ?_|fail))
  (conv=>whnf)
  unfold hasP
  exact ⟨fun e=>⟨by omega,e⟩,fun e=>e.2⟩
 ·rename_i h
  skip
  (conv=>whnf)
  intro e
  exact h (by have:=e.1;omega)
def c126:Con:=aJ 195 true fun args K=>match args with | [.str s,.str p]=>K (.bl (hasP s p) inferInstance) | _=>False
theorem k126:aF Tryz.prog c126:=by
 refine aC rfl (enters_of Tryz.func195 (by kernel_rfl) rfl) ?_
 intro args K h
 simp only[c126] at h
 split at h
 ·rename_i s p;exact ⟨_,h,aA (Γ:=[]) (by simp) Tryz.func195 (by simp[Tryz.ntmps195]) rfl (b126 s p)⟩
 ·exact h.elim
theorem b91 (s:List UInt8):body Tryz.prog [c126] {} true Tryz.f142 [S s,S [45]] (.bl (s.headD 0=45) inferInstance):=by
 skip
 (conv=>whnf)
 exact mO s
def c91:Con:=aJ 142 true fun args K=>match args with | [.str s,.str p]=>Need (p= [45]) (K (.bl (s.headD 0=45) inferInstance)) | _=>False
theorem k91:aF Tryz.prog c91:=by
 refine aC rfl (enters_of Tryz.func142 (by kernel_rfl) rfl) ?_
 intro args K h
 simp only[c91] at h
 split at h
 ·rename_i s p
  obtain ⟨rfl,h⟩:=h
  exact ⟨_,h,aA (Γ:=[c126]) (by simp[k126]) Tryz.func142 (by simp[Tryz.ntmps142]) rfl (b91 s)⟩
 ·exact h.elim
theorem b125 (s p:List UInt8):body Tryz.prog [c126] {} true Tryz.f214 [S s,S p] (S (uB s p)):=by
 unfold uB
 skip
 (refine Br.mk (fun _=>?_) (fun _=>?_))
 ·rename_i h
  rw[if_pos h]
  have:=h.1
  (repeat'((conv=>whnf);first|refine Zg fun _=>?_|refine Zn ?_|refine Zj ?_|fail))
  (conv=>whnf)
  skip
 ·rename_i h
  rw[if_neg h]
  skip
  (conv=>whnf)
  skip
def c125:Con:=aJ 214 true fun args K=>match args with | [.str s,.str p]=>K (.str (uB s p)) | _=>False
theorem k125:aF Tryz.prog c125:=by
 refine aC rfl (enters_of Tryz.func214 (by kernel_rfl) rfl) ?_
 intro args K h
 simp only[c125] at h
 split at h
 ·rename_i s p;exact ⟨_,h,aA (Γ:=[c126]) (by simp[k126]) Tryz.func214 (by simp[Tryz.ntmps214]) rfl (b125 s p)⟩
 ·exact h.elim
theorem b88 (s:List UInt8):body Tryz.prog [c125] {} true Tryz.f176 [S s,S [45]] (S (digs s)):=by
 rw[← uC]
 skip
 (conv=>whnf)
 skip
def c88:Con:=aJ 176 true fun args K=>match args with | [.str s,.str p]=>Need (p= [45]) (K (S (digs s))) | _=>False
theorem k88:aF Tryz.prog c88:=by
 refine aC rfl (enters_of Tryz.func176 (by kernel_rfl) rfl) ?_
 intro args K h
 simp only[c88] at h
 split at h
 ·rename_i s p
  obtain ⟨rfl,h⟩:=h
  exact ⟨_,h,aA (Γ:=[c125]) (by simp[k125]) Tryz.func176 (by simp[Tryz.ntmps176]) rfl (b88 s)⟩
 ·exact h.elim
theorem b155 (s p:List UInt8):body Tryz.prog [c126] {} true Tryz.f229 [S s,S p] (.tup [S (uB s p),.bl (hasP s p) inferInstance]):=by
 unfold uB
 skip
 (refine Br.mk (fun _=>?_) (fun _=>?_))
 ·rename_i h
  rw[if_neg h]
  skip
  (conv=>whnf)
  (repeat'(first|exact trivial|rfl|refine And.intro ?_ ?_|fail))
  exact h
 ·rename_i h
  have h:=Classical.not_not.1 h
  rw[if_pos h]
  have:=h.1
  (repeat'((conv=>whnf);first|refine Zg fun _=>?_|refine Zn ?_|refine Zj ?_|fail))
  (conv=>whnf)
  (repeat'(first|exact trivial|rfl|refine And.intro ?_ ?_|fail))
  all_goals first | exact h | exact h.1 | exact h.2
def c155:Con:=aJ 229 true fun args K=>match args with | [.str s,.str p]=>K (.tup [S (uB s p),.bl (hasP s p) inferInstance]) | _=>False
theorem k155:aF Tryz.prog c155:=by
 refine aC rfl (enters_of Tryz.func229 (by kernel_rfl) rfl) ?_
 intro args K h
 simp only[c155] at h
 split at h
 ·rename_i s p;exact ⟨_,h,aA (Γ:=[c126]) (by simp[k126]) Tryz.func229 (by simp[Tryz.ntmps229]) rfl (b155 s p)⟩
 ·exact h.elim
theorem b123 (s:List UInt8):body Tryz.prog [c155] {} true Tryz.f190 [S s,S [45]] (.tup [S (digs s),.bl (s.headD 0=45) inferInstance]):=by
 rw[← uC]
 skip
 (conv=>whnf)
 (repeat'(first|exact trivial|rfl|refine And.intro ?_ ?_|fail))
 exact mO s
def c123:Con:=aJ 190 true fun args K=>match args with | [.str s,.str p]=>Need (p= [45]) (K (.tup [S (digs s),.bl (s.headD 0=45) inferInstance])) | _=>False
theorem k123:aF Tryz.prog c123:=by
 refine aC rfl (enters_of Tryz.func190 (by kernel_rfl) rfl) ?_
 intro args K h
 simp only[c123] at h
 split at h
 ·rename_i s p
  obtain ⟨rfl,h⟩:=h
  exact ⟨_,h,aA (Γ:=[c155]) (by simp[k155]) Tryz.func190 (by simp[Tryz.ntmps190]) rfl (b123 s)⟩
 ·exact h.elim
theorem rQ {E:Env} {s:List UInt8} {vs:List Value} (h:RelL E [.str s] vs):vs= [.string ⟨s.toArray⟩]∧s.length≤maxL:=by
 obtain ⟨v,rfl,h1⟩:=h.one
 cases h1 with
 | str _ hl=>exact ⟨rfl,hl⟩
theorem aFj {E:Env} {k:IntKind} {n:Int} {vs:List Value} (h:RelL E [.val (.int k n)] vs):vs= [.int k n]∧inK k n:=by
 obtain ⟨v,rfl,h1⟩:=h.one
 obtain ⟨rfl,h2⟩:=h1.int_inv
 exact ⟨rfl,h2⟩
theorem aNl {ok:Nat→Prop} {w:World} (h:GW Tryz.prog ok w):Lib.TabIs Tryz.prog w "internal/strconv.uint64pow10" .u64 Lib.pow10Tab:=by
 obtain ⟨cs,h1,h2⟩:=h.var (n:= "internal/strconv.uint64pow10") (by simp[gnames]) (g:=0) (by kernel_rfl)
 unfold Lib.TabIs
 rw[h1,h2.pow rfl]
 rfl
theorem aHf (n:Nat) (h:n≤9223372036854775808):(decDigits n).length≤20:=IB.gK 19 n (by omega)
theorem aNm (n:Int) (h:inK .i64 n):(itoa n).length≤maxL:=by
 have h: -9223372036854775808≤n∧n≤9223372036854775807:=h
 have h1:=aHf n.natAbs (by omega)
 rw[← bR] at h1
 have h2:(itoa n).length≤(digs (itoa n)).length+1:=by
  unfold digs
  split
  ·rw[List.length_tail];omega
  ·omega
 show _≤140737488355328
 omega
theorem t61 (n:Int):Tri Tryz.prog true 68 [I n] (S (itoa n)):=by
 intro ok w vs hg hok hr
 obtain ⟨rfl,hn⟩:=aFj hr
 have hn': -9223372036854775808≤n∧n≤9223372036854775807:=hn
 refine (Any.strconv_Itoa RL.lI n hn'.1 hn'.2 w (aNl hg)).mono ?_
 rintro e w' ⟨rfl,k,os,rfl⟩
 exact ⟨_,rfl,Lib.below_grow _ _ (Nat.le_refl _) _ _,.str _ (aNm n hn)⟩
def c61:Con:=aJ 68 true fun args K=>match args with | [.val (.int .i64 n)]=>K (S (itoa n)) | _=>False
theorem k61:aF Tryz.prog c61:=by
 refine aC rfl (enters_of Tryz.func68 (by kernel_rfl) rfl) ?_
 intro args K h
 simp only[c61] at h
 split at h
 ·exact ⟨_,h,t61 _⟩
 ·exact h.elim
abbrev fitI (n:Int):Prop:= -9223372036854775808≤n∧n≤9223372036854775807
def nU (acc:Nat) (l:List UInt8):Nat:=l.foldl (fun n c=>10*n+(c.toNat-48)) acc
theorem aAt:∀(l:List UInt8) (acc:Nat),acc≤nU acc l
 | [],acc=>Nat.le_refl _
 | c::r,acc=>by
  have:=aAt r (10*acc+(c.toNat-48))
  simp only[nU,List.foldl_cons] at this ⊢
  omega
theorem rR:∀(l:List UInt8) (acc:Nat),(∀c∈l,aT c)→acc<18446744073709551616→parseUint10 acc l=if nU acc l<18446744073709551616 then .ok (nU acc l) else .range
 | [],acc,_,h=>by simp[parseUint10,nU,h]
 | c::r,acc,hd,h=>by
  have hc:=hd c (by simp)
  have ih:=rR r (acc*10+(c.toNat-48)) fun x hx=>hd x (by simp[hx])
  have hg:=aAt r (10*acc+(c.toNat-48))
  have e:nU acc (c::r)=nU (acc*10+(c.toNat-48)) r:=by simp only[nU,List.foldl_cons];rw[Nat.mul_comm]
  rw[Nat.mul_comm] at hg
  simp only[parseUint10]
  have hc:48≤c.toNat∧c.toNat≤57:=hc
  rw[if_pos hc,e]
  by_cases h1:1844674407370955162≤acc
  ·rw[if_pos h1,if_neg (by omega)]
  ·rw[if_neg h1]
   by_cases h2:18446744073709551616≤acc*10+(c.toNat-48)
   ·rw[if_pos h2,if_neg (by omega)]
   ·rw[if_neg h2,ih (by omega)]
theorem aAu {l:List UInt8} (h:∀c∈l,aT c) (hne:l≠ []):parseMag l=if aD l<18446744073709551616 then .ok (aD l) else .range:=by
 unfold parseMag
 rw[if_neg hne,rR l 0 h (by omega)]
 rfl
theorem aRm {c:UInt8} (h:aT c):c.toNat≠43∧c.toNat≠45:=by unfold aT at h;omega
theorem sQ {s:List UInt8} (h:form s):atoiAll s=(if fitI (valI s) then .ok (valI s) else .range)∧(¬fitI (valI s)→(9223372036854775807<valI s∧atoiSat s=9223372036854775807)∨(valI s < -9223372036854775808∧atoiSat s= -9223372036854775808)):=by
 obtain ⟨h1,h2,h3⟩:=h
 cases s with
 | nil=>simp[digs] at h1
 | cons c r=>
  by_cases hc:c=45
  ·subst hc
   have e1:digs (45::r)=r:=rfl
   have e2:valI (45::r)= -(aD r:Int):=rfl
   rw[e1] at h1 h3
   rw[e2];unfold fitI;rw[atoiAll_minus,aAu h3 h1,atoiSat_minus]
   refine ⟨?_,fun hn=>.inr ⟨by omega,rfl⟩⟩
   by_cases h4:aD r<18446744073709551616
   ·rw[if_pos h4]
    simp only[signed]
    by_cases h5:9223372036854775808<aD r
    ·rw[if_pos h5,if_neg (by omega)]
    ·rw[if_neg h5,if_pos (by omega)]
   ·rw[if_neg h4,if_neg (by omega)];rfl
  ·have e1:digs (c::r)=c::r:=by simp[digs,hc]
   have e2:valI (c::r)=aD (c::r):=by simp[valI,hc]
   rw[e1] at h1 h3
   obtain ⟨g1,g2⟩:=aRm (h3 c (by simp))
   rw[e2];unfold fitI;rw[atoiAll_plain c r g1 g2,aAu h3 h1,atoiSat_other c r g2]
   refine ⟨?_,fun hn=>.inl ⟨by omega,rfl⟩⟩
   by_cases h4:aD (c::r)<18446744073709551616
   ·rw[if_pos h4]
    simp only[signless]
    by_cases h5:9223372036854775808≤aD (c::r)
    ·rw[if_pos h5,if_neg (by omega)]
    ·rw[if_neg h5,if_pos (by omega)]
   ·rw[if_neg h4,if_neg (by omega)];rfl
theorem t72ok (s:List UInt8) (hf:form s) (hv:fitI (valI s)):Tri Tryz.prog true 185 [S s] (.tup [I (valI s),.val .nilIface]):=by
 intro ok w vs hg hok hr
 obtain ⟨rfl,hl⟩:=rQ hr
 have hl':s.length≤140737488355328:=hl
 have ha:=(sQ hf).1
 rw[if_pos hv] at ha
 refine (Any.strconv_Atoi_ok RL.lA ⟨s.toArray⟩ (by show s.toArray.size≤ _;rw[List.size_toArray];omega) (valI s) (by simpa using ha) w).mono ?_
 rintro e w' ⟨rfl,hw⟩
 refine ⟨_,rfl,?_,.tup _ _ (.cons _ _ _ _ (.val _ hv) (.cons _ _ _ _ (.val _ trivial) .nil))⟩
 rcases hw with rfl | ⟨t,rfl⟩
 ·exact Below.refl _ _
 ·exact Go.Joins.below_bytesWorld _ _ _ _ (Nat.le_refl _)
theorem aNn {ok:Nat→Prop} {w:World} (h:GW Tryz.prog ok w):∃ev,w.cell? ⟨(RL.lA_ren).g 16,0,none⟩=some ev∧∃te pe,ev= .iface te pe:=by
 obtain ⟨hk,cs,e,f,h2,h3⟩:=h "strconv.ErrRange" (by simp[gnames]) ((RL.lA_ren).g 16) (by kernel_rfl)
 obtain ⟨tp,p,hc⟩:=h3.err (.inl rfl)
 refine ⟨_,?_,tp,p,rfl⟩
 rw[World.cell?,h2,hc]
 rfl
theorem aRn (s:List UInt8) (hf:form s) (hv:¬fitI (valI s)) (hl:s.length≤281474976710656):Tri Tryz.prog true 185 [S s] (.tup [I (atoiSat s),.ifc]):=by
 intro ok w vs hg hok hr
 obtain ⟨rfl,_⟩:=rQ hr
 have ha:=(sQ hf).1
 rw[if_neg hv] at ha
 obtain ⟨ev,h1,h2⟩:=aNn hg
 refine (Any.strconv_Atoi_range RL.lA ⟨s.toArray⟩ (by show s.toArray.size≤ _;rw[List.size_toArray];omega) (by simpa using ha) ev w h1 (.inr h2)).mono ?_
 rintro e w' ⟨N,rfl,_,_,hb⟩
 refine ⟨_,rfl,hb,.tup _ _ (.cons _ _ _ _ ?_ (.cons _ _ _ _ (.ifc _ (.inr ⟨_,_,rfl⟩)) .nil))⟩
 exact .val _ (atoiSat_bounds _)
def c72:Con:=aJ 185 true fun args K=>match args with
 | [.str s]=>Need (form s∧s.length≤1000) (Br (fitI (valI s)) (K (.tup [I (valI s),.val .nilIface])) (K (.tup [I (atoiSat s),.ifc])))
 | _=>False
theorem k72:aF Tryz.prog c72:=by
 refine aC rfl (enters_of Tryz.func185 (by kernel_rfl) rfl) ?_
 intro args K h
 simp only[c72] at h
 split at h
 ·rename_i s
  obtain ⟨⟨hf,hl⟩,h⟩:=h
  by_cases hv:fitI (valI s)
  ·exact ⟨_,h.yes hv,t72ok s hf hv⟩
  ·exact ⟨_,h.no hv,aRn s hf hv (by omega)⟩
 ·exact h.elim
abbrev digitsS:List UInt8:=[48,49,50,51,52,53,54,55,56,57]
theorem xU (c:UInt8):digitsS.contains c=true↔aT c:=by
 have h:∀n:Fin 256,(digitsS.contains (UInt8.ofNat n.val)=true)↔(48≤n.val∧n.val≤57):=by decide
 have h1:=h ⟨c.toNat,c.toNat_lt⟩
 simp only[UInt8.ofNat_toNat] at h1
 exact h1
theorem aAv (s cs:List UInt8):trimS s cs= []↔∀c∈s,cs.contains c=true:=by
 have hd:∀l:List UInt8,l.dropWhile (cs.contains ·)= []↔∀c∈l,cs.contains c=true:=by
  intro l
  induction l with
  | nil=>simp
  | cons x r ih=>
   simp only[List.dropWhile_cons,List.mem_cons,forall_eq_or_imp]
   by_cases h:cs.contains x=true
   ·rw[if_pos h,ih];simp only[h,true_and]
   ·rw[if_neg h];exact ⟨(fun e=>by cases e),(fun e=>(h e.1).elim)⟩
 have hmem:∀l:List UInt8,(∀c∈l.dropWhile (cs.contains ·),cs.contains c=true)↔∀c∈l,cs.contains c=true:=by
  intro l
  induction l with
  | nil=>simp
  | cons x r ih=>
   simp only[List.dropWhile_cons]
   by_cases h:cs.contains x=true
   ·rw[if_pos h,ih];simp only[List.mem_cons,forall_eq_or_imp,h,true_and]
   ·rw[if_neg h]
 unfold trimS trimLeftS trimRightS
 rw[hd]
 have:=hmem s.reverse
 simp only[List.mem_reverse] at this ⊢
 exact this
theorem aK8 (s cs:List UInt8):(trimS s cs).length≤s.length:=by
 have h:∀l:List UInt8,(l.dropWhile (cs.contains ·)).length≤l.length:=fun l=>(List.dropWhile_sublist _).length_le
 unfold trimS trimLeftS trimRightS
 have h1:=h (s.reverse.dropWhile (cs.contains ·)).reverse
 have h2:=h s.reverse
 simp only[List.length_reverse] at h1 h2
 omega
theorem t156 (s:List UInt8):Tri Tryz.prog true 228 [S s,S digitsS] (S (trimS s digitsS)):=by
 intro ok w vs hg hok hr
 cases hr with
 | cons _ v1 _ vs1 h1 hr=>
 cases h1 with
 | str _ hl=>
 obtain ⟨rfl,_⟩:=rQ hr
 have hl':s.length≤140737488355328:=hl
 refine (Any.strings_Trim_laid RL.lT (by kernel_rfl) ⟨s.toArray⟩ ⟨digitsS.toArray⟩ w (by show s.toArray.size≤ _;rw[List.size_toArray];omega) (by decide) (ascii_of_all (by decide))).mono ?_
 rintro e w' ⟨rfl,hb⟩
 exact ⟨_,rfl,hb,.str _ (by have:=aK8 s digitsS;show _≤140737488355328;omega)⟩
def c156:Con:=aJ 228 true fun args K=>match args with | [.str s,.str cs]=>Need (cs=digitsS) (K (S (trimS s digitsS))) | _=>False
theorem k156:aF Tryz.prog c156:=by
 refine aC rfl (enters_of Tryz.func228 (by kernel_rfl) rfl) ?_
 intro args K h
 simp only[c156] at h
 split at h
 ·rename_i s cs
  obtain ⟨rfl,h⟩:=h
  exact ⟨_,h,t156 _⟩
 ·exact h.elim
theorem ex9:Builder.Extra Tryz.prog RL.lR_ren where
 sizeBuilder:=by kernel_rfl
 liesBuilder:=by kernel_rfl
 t5:=Tryz.underlying5
 a5:=Tryz.isAgg5
 z5:=Tryz.sizeOf5
 v5:=Tryz.zeroValue5
 infoByte:=by kernel_rfl
 cellsByte:=by kernel_rfl
 sizeByte:=by kernel_rfl
 neB5:=by decide
theorem qE (c:UInt8):∀n,repeatL [c] n=List.replicate n c
 | 0=>rfl
 | n+1=>by rw[repeatL,qE c n];rfl
theorem t159 (c:UInt8) (n:Int) (hn:0≤n∧n≤1000):Tri Tryz.prog true 233 [S [c],I n] (S (List.replicate n.toNat c)):=by
 intro ok w vs hg hok hr
 cases hr with
 | cons _ v1 _ vs1 h1 hr=>
 cases h1 with
 | str _ hl=>
 obtain ⟨rfl,_⟩:=aFj hr
 obtain ⟨k,rfl⟩:∃k:Nat,n=k:=⟨n.toNat,by omega⟩
 refine (Any.strings_Repeat RL.lR ex9 ⟨[c].toArray⟩ k w (by omega) (by show 1*k≤ _;omega)).mono ?_
 rintro e w' ⟨rfl,hb⟩
 rw[Int.toNat_natCast,← qE]
 exact ⟨_,rfl,hb,.str _ (by rw[qE,List.length_replicate];show _≤140737488355328;omega)⟩
def c159:Con:=aJ 233 true fun args K=>match args with | [.str [c],.val (.int .i64 n)]=>Need (0≤n∧n≤1000) (K (S (List.replicate n.toNat c))) | _=>False
theorem k159:aF Tryz.prog c159:=by
 refine aC rfl (enters_of Tryz.func233 (by kernel_rfl) rfl) ?_
 intro args K h
 simp only[c159] at h
 split at h
 ·exact ⟨_,h.go,t159 _ _ h.ok⟩
 ·exact h.elim
theorem mP {s:List UInt8} (h:digs s= []∨((digs s).headD 0=48∧s≠ [48])∨trimS (digs s) digitsS≠ []):chkI s=11:=by
 unfold chkI
 rw[if_neg]
 rintro ⟨h1,h2,h3⟩
 rcases h with h | h | h
 ·exact h1 h
 ·rcases h2 with h2 | h2
  ·exact h2 h.1
  ·exact h.2 h2
 ·exact h ((aAv _ _).2 fun c hc=>(xU c).2 (h3 c hc))
theorem aPp {s:List UInt8} (h1:digs s≠ []) (h2:(digs s).headD 0=48→s= [48]) (h3:trimS (digs s) digitsS= []):form s:=
 ⟨h1,(Classical.em ((digs s).headD 0=48)).elim (fun e=>.inr (h2 e)) .inl,fun c hc=>(xU c).1 ((aAv _ _).1 h3 c hc)⟩
theorem gO {s:List UInt8} (h:form s):chkI s=if 300<(digs s).length then 4 else 0:=by unfold chkI;rw[if_pos h]
theorem b127 (s:List UInt8):body Tryz.prog [c88,c156] {} true Tryz.f189 [S s] (I (chkI s)):=by
 (repeat'((conv=>whnf);first|refine Zn ?_|fail))
 (refine Br.mk (fun _=>?_) (fun _=>?_))
 ·rename_i h
  rw[mP (.inl h)]
  skip
  (conv=>whnf)
  (repeat'(first|rfl|refine And.intro ?_ ?_|fail))
 ·rename_i h
  have hpos:0<(digs s).length:=List.length_pos_iff.2 h
  have hb:aK (digs s) 0=48↔(digs s).headD 0=48:=by
   unfold aK
   cases hd:digs s with
   | nil=>rw[hd] at hpos;simp at hpos
   | cons c r=>
    show (c.toNat:Int)=48↔c=48
    constructor
    ·intro e
     have:c.toNat=(48:UInt8).toNat:=by show c.toNat=48;omega
     exact UInt8.toNat.inj this
    ·rintro rfl;rfl
  (repeat'((conv=>whnf);first|refine Zg fun _=>?_|refine Zn ?_|refine Z0 ?_|refine Zr (fun _=>?_) fun _=>?_|fail))
  all_goals (skip;(conv=>whnf);(repeat'(first|rfl|refine And.intro ?_ ?_|fail)))
  all_goals first
   | exact (mP (.inr (.inl ⟨hb.1 (by assumption),by assumption⟩))).symm
   | exact (mP (.inr (.inr (by assumption)))).symm
   | (have hf:form s:=aPp h (fun e=>by first | exact Classical.not_not.1 (by assumption) | exact absurd (hb.2 e) (by assumption)) (by exact Classical.not_not.1 (by assumption))
      rw[gO hf]
      first | (rw[if_pos (by omega)]) | (rw[if_neg (by omega)])
      done)
def c127:Con:=aJ 189 true fun args K=>match args with | [.str s]=>K (I (chkI s)) | _=>False
theorem k127:aF Tryz.prog c127:=by
 refine aC rfl (enters_of Tryz.func189 (by kernel_rfl) rfl) ?_
 intro args K h
 simp only[c127] at h
 split at h
 ·rename_i s;exact ⟨_,h,aA (Γ:=[c88,c156]) (by simp[k88,k156]) Tryz.func189 (by simp[Tryz.ntmps189]) rfl (b127 s)⟩
 ·exact h.elim
noncomputable def chk2 (a b:List UInt8):Int:=if chkI a≠0 then chkI a else chkI b
theorem b94 (a b:List UInt8):body Tryz.prog [c127] {} true Tryz.f137 [S a,S b] (I (chk2 a b)):=by
 unfold chk2
 skip
 (refine Br.mk (fun _=>?_) (fun _=>?_))
 ·rename_i h
  rw[if_pos h]
  skip
  (conv=>whnf)
  (repeat'(first|rfl|refine And.intro ?_ ?_|fail))
 ·rename_i h
  rw[if_neg h]
  skip
  (conv=>whnf)
  (repeat'(first|rfl|refine And.intro ?_ ?_|fail))
def c94:Con:=aJ 137 true fun args K=>match args with | [.str a,.str b]=>K (I (chk2 a b)) | _=>False
theorem k94:aF Tryz.prog c94:=by
 refine aC rfl (enters_of Tryz.func137 (by kernel_rfl) rfl) ?_
 intro args K h
 simp only[c94] at h
 split at h
 ·rename_i a b;exact ⟨_,h,aA (Γ:=[c127]) (by simp[k127]) Tryz.func137 (by simp[Tryz.ntmps137]) rfl (b94 a b)⟩
 ·exact h.elim
theorem bE {s:List UInt8} (h:chkI s=0):form s∧(digs s).length≤300:=by
 unfold chkI at h
 split at h
 ·rename_i hf
  split at h
  ·cases h
  ·exact ⟨hf,by omega⟩
 ·cases h
theorem kB (s:List UInt8):(digs s).length≤s.length∧s.length≤(digs s).length+1:=by
 unfold digs
 split
 ·rw[List.length_tail];omega
 ·omega
theorem dO {s:List UInt8} (h:form s) (hl:s.length≤18): -1000000000000000000<valI s∧valI s<1000000000000000000:=by
 obtain ⟨h1,h2,h3⟩:=h
 have hb:=cD (digs s) h3
 have hp:(10:Nat)^ (digs s).length≤10^18:=Nat.pow_le_pow_right (by omega) (by have:=kB s;omega)
 have h18:(10:Nat)^18=1000000000000000000:=by decide
 have hv:valI s=aD (digs s)∨valI s= -(aD (digs s):Int):=by
  unfold valI digs
  split
  ·exact .inr rfl
  ·exact .inl rfl
 omega
theorem b95y (a b:List UInt8) (ha:form a) (hb:form b) (hs:a.length≤18∧b.length≤18):body Tryz.prog [c72] {} true Tryz.f138 [S a,S b,I 18] (.tup [I (valI a),I (valI b),.val (.bool true)]):=by
 have h1:=dO ha hs.1
 have h2:=dO hb hs.2
 have f1:fitI (valI a):=by unfold fitI;omega
 have f2:fitI (valI b):=by unfold fitI;omega
 (repeat'((conv=>whnf);first|refine Zg fun _=>?_|refine Zm ?_|fail))
 refine Need.mk ⟨ha,by omega⟩ ?_
 refine Br.mkY f1 ?_
 skip
 refine Need.mk ⟨hb,by omega⟩ ?_
 refine Br.mkY f2 ?_
 (repeat'((conv=>whnf);first|(apply Pin.mk;apply Exists.intro)|apply Pinned.mk rfl rfl|fail))
 (conv=>whnf)
 (repeat'(first|exact trivial|rfl|refine And.intro ?_ ?_|fail))
theorem b95n (a b:List UInt8) (hs:¬(a.length≤18∧b.length≤18)):body Tryz.prog [c72] {} true Tryz.f138 [S a,S b,I 18] (.tup [I 0,I 0,.val (.bool false)]):=by
 (repeat'((conv=>whnf);first|refine Zg fun _=>?_|refine Zy ?_|refine Zr (fun _=>?_) fun _=>?_|fail))
 all_goals first | (exfalso;omega) | skip
 all_goals (skip;(conv=>whnf);(repeat'(first|exact trivial|rfl|refine And.intro ?_ ?_|fail)))
def c95:Con:=aJ 138 true fun args K=>match args with
 | [.str a,.str b,.val (.int .i64 m)]=>Need (m=18∧form a∧form b) (Br (a.length≤18∧b.length≤18) (K (.tup [I (valI a),I (valI b),.val (.bool true)])) (K (.tup [I 0,I 0,.val (.bool false)])))
 | _=>False
theorem k95:aF Tryz.prog c95:=by
 refine aC rfl (enters_of Tryz.func138 (by kernel_rfl) rfl) ?_
 intro args K h
 simp only[c95] at h
 split at h
 ·rename_i a b m
  obtain ⟨⟨rfl,ha,hb⟩,h⟩:=h
  by_cases hs:a.length≤18∧b.length≤18
  ·exact ⟨_,h.yes hs,aA (Γ:=[c72]) (by simp[k72]) Tryz.func138 (by simp[Tryz.ntmps138]) rfl (b95y a b ha hb hs)⟩
  ·exact ⟨_,h.no hs,aA (Γ:=[c72]) (by simp[k72]) Tryz.func138 (by simp[Tryz.ntmps138]) rfl (b95n a b hs)⟩
 ·exact h.elim
abbrev itD (s:List UInt8) (i:Nat):List SV:=[I i,I (dgt s i)]
theorem b130 (s:List UInt8):body Tryz.prog [] {} false Tryz.f191 [S s] (.clo 230 [] [.lelem [S s] 0]):=by
 skip
 (conv=>whnf)
 (repeat'(first|exact trivial|rfl|refine And.intro ?_ ?_|fail))
def c130:Con:=aJ 191 false fun args K=>match args with | [.str s]=>K (.clo 230 [] [.lelem [S s] 0]) | _=>False
theorem k130:aF Tryz.prog c130:=by
 refine aC rfl (enters_of Tryz.func191 (by kernel_rfl) rfl) ?_
 intro args K h
 simp only[c130] at h
 split at h
 ·rename_i s;exact ⟨_,h,aA (Γ:=[]) (by simp) Tryz.func191 (by simp[Tryz.ntmps191]) rfl (b130 s)⟩
 ·exact h.elim
theorem aNo {s:List UInt8} (h:∀c∈s,aT c) {i:Nat} (hi:i<s.length):aK s (s.length-1-i)-48=dgt s i∧48≤aK s (s.length-1-i)∧aK s (s.length-1-i)≤57:=by
 have hj:s.length-1-i<s.length:=by omega
 have e:∀d:UInt8,s.getD (s.length-1-i) d=s[s.length-1-i]:=fun d=>by simp[List.getD_eq_getElem?_getD,hj]
 have hd:aT s[s.length-1-i]:=h _ (List.getElem_mem hj)
 unfold aK dgt
 rw[e,e]
 unfold aT at hd
 omega
theorem b161 (s:List UInt8) (h:∀c∈s,aT c):vN Tryz.prog [] { asks:=[(0,[])] } Tryz.f230 [.lelem [S s] 0] s.length (itD s):=by
 (repeat'((conv=>whnf);first|refine Zg fun _=>?_|fail))
 refine Ask.mk ⟨{ X:=Nat,pre:=fun i=>i≤s.length,mod:=fun i _=>[(6,I i)],heap:=fun i _=>[.yst (some i) s.length (itD s)],mu:=fun i=>s.length-i },rfl,?_⟩
 (repeat'((conv=>whnf);first|refine Zn ?_|fail))
 refine ⟨⟨(0:Nat),Nat.zero_le _,by (repeat'(first|exact trivial|rfl|refine And.intro ?_ ?_|fail))⟩,fun (i:Nat) (hi:i≤s.length)=>?_⟩
 skip
 (refine Br.mk (fun _=>?_) (fun _=>?_))
 ·have hlt:i<s.length:=by omega
  obtain ⟨e1,e2,e3⟩:=aNo h hlt
  (repeat'((conv=>whnf);first|refine Zg fun _=>?_|refine Zn ?_|fail))
  refine cF (s.length-1-i) (by omega) ?_
  (repeat'((conv=>whnf);first|refine Zg fun _=>?_|refine Zn ?_|fail))
  refine Need.mk (by (repeat'(first|exact trivial|rfl|refine And.intro ?_ ?_|fail));exact e1) ?_
  refine Two.mk ?_ ?_
  ·(repeat'((conv=>whnf);first|refine Zn ?_|fail))
   refine ⟨(i+1:Nat),by show s.length-(i+1)<s.length-i;omega,hlt,?_⟩
   (repeat'(first|exact trivial|rfl|refine And.intro ?_ ?_|fail))
  ·(conv=>whnf)
   trivial
 ·(conv=>whnf)
  omega
def c161:Con:=aJ 230 false fun args K=>match args with | [.lelem [.str s] 0]=>Need (∀c∈s,aT c) (K (.itr s.length (itD s))) | _=>False
theorem k161:aF Tryz.prog c161:=by
 refine aC rfl (enters_of Tryz.func230 (by kernel_rfl) rfl) ?_
 intro args K h
 simp only[c161] at h
 split at h
 ·rename_i s;exact ⟨_,h.go,jE (Γ:=[]) (by simp) Tryz.func230 (by simp[Tryz.ntmps230]) (b161 s h.ok)⟩
 ·exact h.elim
abbrev xV (i:Nat):Int:=if i=0 then 1 else 10^ ((i-1)%9+1)
theorem aPq (i:Nat) (h:i%9≠0):xV i=10^ (i%9):=by
 unfold xV
 rw[if_neg (by omega)]
 congr 1
 omega
theorem aK9 (i:Nat):xV (i+1)=10^ (i%9)*10:=by
 unfold xV
 rw[if_neg (by omega),Nat.add_sub_cancel,Int.pow_succ]
theorem aNp (i:Nat):1≤(10:Int)^ (i%9)∧(10:Int)^ (i%9)≤100000000:=by
 have:i%9<9:=Nat.mod_lt _ (by omega)
 generalize i%9=k at this
 match k,this with
 | 0,_ | 1,_ | 2,_ | 3,_ | 4,_ | 5,_ | 6,_ | 7,_ | 8,_=>decide
abbrev nL (s:List UInt8):Nat:=(s.length+8)/9
theorem b98 (s:List UInt8) (h:form s∧(digs s).length≤600):body Tryz.prog [c123,c130,c161,c131] { asks:=[(0,[])] } true Tryz.f139 [S s] (.agg [.bl (s.headD 0=45) inferInstance,Ls (aB B9 (aD (digs s)))]):=by
 obtain ⟨hf,hl⟩:=h
 have hd:=hf.2.2
 have hn:(digs s).length≤9*nL (digs s):=by unfold nL;omega
 have e9:(10:Nat)^9=B9:=by decide
 (repeat'((conv=>whnf);first|refine Zg fun _=>?_|refine Za ?_|refine Zn ?_|refine Zl ?_|refine Z8 ?_|fail))
 refine Ask.mk ⟨{ X:=Nat,pre:=fun i=>i≤(digs s).length,mod:=fun _ _=>[],heap:=fun i H=>[hget H 0,V (rdK (digs s) (nL (digs s)) i),hget H 2,.cells [I (xV i)] 3],mu:=fun i=>i },rfl,?_⟩
 (repeat'((conv=>whnf);first|refine Zn ?_|fail))
 refine ⟨⟨(0:Nat),rfl,Nat.zero_le _,?_⟩,fun (i:Nat) hi (hlt:i<(digs s).length)=>?_,fun (i:Nat) hi (he:i=(digs s).length)=>?_⟩
 ·(repeat'(first|exact trivial|rfl|refine And.intro ?_ ?_|fail))
  (conv=>whnf)
  show List.replicate _ _=List.replicate _ _
  congr 1;unfold nL;omega
 ·obtain ⟨g1,g2,g3,g4,g5⟩:=xI hd hn i (by omega)
  have gd:=aIu hd hlt
  have gi:=get9 g2 (i/9)
  have gu:=aNp i
  have hi9:i/9<nL (digs s):=by unfold nL;omega
  have g5:(rdK (digs s) (nL (digs s)) i).getD (i/9) 0<(10:Int)^ (i%9):=g5
  have hm:0≤dgt (digs s) i*10^ (i%9)∧dgt (digs s) i*10^ (i%9)≤9*100000000:=⟨Int.mul_nonneg gd.1 (by omega),Int.le_trans (Int.mul_le_mul_of_nonneg_right gd.2.1 (by omega)) (Int.mul_le_mul_of_nonneg_left gu.2 (by omega))⟩
  have hst:rdK (digs s) (nL (digs s)) (i+1)=(rdK (digs s) (nL (digs s)) i).set (i/9) ((rdK (digs s) (nL (digs s)) i).getD (i/9) 0+dgt (digs s) i*10^ (i%9)):=rfl
  have hun:=aK9 i
  show hnfL (itD (digs s) i) _
  (repeat'((conv=>whnf);first|refine Zg fun _=>?_|refine Za ?_|fail))
  (refine Br.mk (fun _=>?_) (fun _=>?_))
  ·rename_i hz
   have hz:i%9=0:=by omega
   rw[hz] at hm hst hun
   (repeat'((conv=>whnf);first|refine Zg fun _=>?_|refine Za ?_|refine Zn ?_|refine Zj ?_|(apply Pin.mk;apply Exists.intro)|apply Pinned.mk rfl rfl|fail))
   refine Need.mk (show -9223372036854775808≤(rdK (digs s) (nL (digs s)) i).getD (i/9) 0+dgt (digs s) i*1∧(rdK (digs s) (nL (digs s)) i).getD (i/9) 0+dgt (digs s) i*1≤9223372036854775807 by omega) ?_
   (repeat'((conv=>whnf);first|refine Zn ?_|refine Zj ?_|fail))
   refine ⟨(i+1:Nat),rfl,hlt,?_⟩
   (repeat'(first|exact trivial|rfl|refine And.intro ?_ ?_|omega|fail))
   exact hst.symm
  ·rename_i hz
   have hz:i%9≠0:=by omega
   rw[← aPq i hz] at hm hst hun gu
   (repeat'((conv=>whnf);first|refine Zg fun _=>?_|refine Za ?_|refine Zn ?_|refine Zj ?_|(apply Pin.mk;apply Exists.intro)|apply Pinned.mk rfl rfl|fail))
   refine Need.mk (show -9223372036854775808≤(rdK (digs s) (nL (digs s)) i).getD (i/9) 0+dgt (digs s) i*xV i∧(rdK (digs s) (nL (digs s)) i).getD (i/9) 0+dgt (digs s) i*xV i≤9223372036854775807 by omega) ?_
   (repeat'((conv=>whnf);first|refine Zn ?_|refine Zj ?_|fail))
   refine ⟨(i+1:Nat),rfl,hlt,?_⟩
   (repeat'(first|exact trivial|rfl|refine And.intro ?_ ?_|omega|fail))
   exact hst.symm
 ·subst he
  skip
  (conv=>whnf)
  (repeat'(first|exact trivial|rfl|refine And.intro ?_ ?_|fail))
  have:=aO3 hd hn
  rw[e9] at this
  exact this
def c98:Con:=aJ 139 true fun args K=>match args with | [.str s]=>Need (form s∧(digs s).length≤600) (K (.agg [.bl (s.headD 0=45) inferInstance,Ls (aB B9 (aD (digs s)))])) | _=>False
theorem k98:aF Tryz.prog c98:=by
 refine aC rfl (enters_of Tryz.func139 (by kernel_rfl) rfl) ?_
 intro args K h
 simp only[c98] at h
 split at h
 ·rename_i s;exact ⟨_,h.go,aA (Γ:=[c123,c130,c161,c131]) (by simp[k123,k130,k161,k131]) Tryz.func139 (by simp[Tryz.ntmps139]) rfl (b98 s h.ok)⟩
 ·exact h.elim
end RB
end

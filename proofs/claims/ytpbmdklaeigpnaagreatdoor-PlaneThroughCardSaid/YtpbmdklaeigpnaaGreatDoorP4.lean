/-
  Part 4: a symbolic executor over the model, contracts of functions and plain laws.
-/
import Derived.Test.YtpbmdklaeigpnaaGreatDoorP3
import Derived.RangeFuncLeaves
import Derived.SizedLaws
import Derived.OpenShut
import Derived.DataReads
import Derived.Below
import Derived.Lib.ItoaNum
import Derived.Test.YtpbmdklaeigpnaaGreatDoorProg
import Derived.Shelf.Abstract
import Derived.Shelf.Strconv.Itoa3
import Derived.Shelf.Strconv.AtoiAll
import Derived.Shelf.Strings.Repeat
import Derived.Shelf.Strings.SlTrimAscii
import Derived.Shelf.Strings.Search3
import Derived.Shelf.Strings.Builder1
import Derived.Lib.SmallJoins
import Derived.Lib.AtoiAllCases
import Derived.Lib.AppendIntMem
section
set_option linter.unusedVariables false
set_option linter.unusedSimpArgs false
set_option linter.unusedVariables false
namespace Go.Eng
open Go.RowKit
section
variable {P:Program} {G:Ctx} {H:List HO} {loc:Nat→Loc} {ver:Nat→Nat} {w:World} {N:Nat}
theorem look_argsL:∀(args:List SV) (n t:Nat),look (argsL args n) t=if n≤t then args.getD (t-n) .any else .any
 | [],n,t=>by simp[argsL,look]
 | x::r,n,t=>by
  simp only[argsL,look]
  by_cases e:n=t
  ·subst e;simp[beq_same]
  ·rw[beq_ne e]
   simp only[cond_false]
   rw[look_argsL r (n+1) t]
   by_cases h:n≤t
   ·rw[if_pos h,if_pos (by omega)]
    obtain ⟨k,rfl⟩:∃k,t=n+1+k:=⟨t-(n+1),by omega⟩
    rw[show n+1+k-(n+1)=k by omega,show n+1+k-n=k+1 by omega]
    rfl
   ·rw[if_neg h,if_neg (by omega)]
theorem start_rel {E:Env} {args:List SV} {vs:List Value} (h:RelL E args vs) (hn:args.length≤N):TRel E N (argsL args 0) { tmps:=⟨vs⟩++Array.replicate (N-(⟨vs⟩:Array Value).size) undef,defers:=[] }:=by
 have hl:=h.length
 refine ⟨by simp;omega,fun t=>?_⟩
 rw[look_argsL,if_pos (Nat.zero_le _),Nat.sub_zero]
 by_cases ht:t<args.length
 ·have:=h.get t ht
  have e:(⟨vs⟩++Array.replicate (N-(⟨vs⟩:Array Value).size) undef:Array Value).getD t undef=vs.getD t undef:=by
   rw[Array.getD_eq_getD_getElem?,Array.getElem?_append_left (by simp;omega),List.getD_eq_getElem?_getD]
   simp
  rw[e];exact this
 ·have:args.getD t .any= .any:=by simp[List.getD_eq_getElem?_getD,List.getElem?_eq_none (Nat.le_of_not_lt ht)]
  rw[this];exact .any _
def ctx0 (w:World) (ok:Nat→Prop) (hok:∀b,ok b→b<w.heap.size):Ctx:=⟨w,ok,fun _=>False,fun _ _ h=>h,hok,itr0,Nat.zero_le _⟩
theorem start_inv (ok:Nat→Prop) (hok:∀b,ok b→b<w.heap.size):Inv (ctx0 w ok hok) [] (fun _=>mkL none 0 0) (fun _=>0) w:=by
 refine ⟨Nat.le_refl _,rfl,rfl,rfl,fun _ _ _=>rfl,fun nm o h=>by simp at h,fun b hb=>?_,fun nm nm' o o' b h=>by simp at h⟩
 obtain ⟨nm,o,h,_⟩:=hb
 simp at h
theorem Inv.book (hI:Inv G H loc ver w) {D:Nat} {o:Obj} {ds:Option (List Deferred)} (hD:w.heap[D]? =some (.deferred ds)) (h0:G.w0.heap.size≤D) (hn0:G.itr.n0≤D) (hal:¬aliN H loc D):Inv G H loc ver (w.putObj D o)∧∀s v,Rel (envOf G H loc ver w) s v→Rel (envOf G H loc ver (w.putObj D o)) s v:=by
 have hoth:∀b,b≠D→(w.putObj D o).heap[b]? =w.heap[b]? :=fun b hb=>World.putObj_heap_other hb
 have hcell:∀(a:Addr) (v:Value),w.cell? a=some v→(w.putObj D o).cell? a=some v:=by
  intro a v hv
  by_cases e:a.block=D
  ·rw[World.cell?,e,hD] at hv;cases hv
  ·exact (World.cell?_of_block (hoth _ e)).trans hv
 have hok:∀b,okN G H loc w b→okN G H loc (w.putObj D o) b:=fun b hb=>⟨hb.1,by simpa using hb.2.1,hb.2.2⟩
 have hmv:∀ {l:List SV} {vs:List Value},RelL (envOf G H loc ver w) l vs→RelL (envOf G H loc ver (w.putObj D o)) l vs:=fun h=>
  RelL.move (E:=envOf G H loc ver w) (E':=envOf G H loc ver (w.putObj D o)) (p:=hasB H) (fun nm _ hn=>⟨hn,.inl ⟨rfl,rfl⟩⟩) (fun _ _ _ _=>.inl rfl) (fun _=>rfl) (fun a v _ hv=>hcell a v hv) hok h h.under
 refine ⟨?_,fun s v h=>Rel.move (E:=envOf G H loc ver w) (E':=envOf G H loc ver (w.putObj D o)) (p:=hasB H) (fun nm _ hn=>⟨hn,.inl ⟨rfl,rfl⟩⟩) (fun _ _ _ _=>.inl rfl) (fun _=>rfl) (fun a v _ hv=>hcell a v hv) hok h h.under⟩
 have hcs:∀ {b:Nat} {c:Array Value} {e:TypeId} {f:Nat × Nat},w.heap[b]? =some (.cells c e f)→(w.putObj D o).heap[b]? =some (.cells c e f):=fun {b c e f} h=>
  (hoth b (fun e'=>by subst e';rw[hD] at h;cases h)).trans h
 refine ⟨by simpa using hI.size,hI.os,hI.tape,hI.output,fun b hb hm=>(hoth b (by omega)).trans (hI.frame b hb hm),fun nm x hx=>?_,hI.own,hI.sep⟩
 have hO:=hI.objs nm x hx
 cases x with
 | dead=>trivial
 | res=>trivial
 | fro k t xs=>obtain ⟨h1,h2,h3⟩:=hO;exact ⟨h1,h2,h3.mono (fun a v _ hv=>hcell a v hv) hok⟩
 | frc l=>obtain ⟨h1,b,vs,h2,h3,h4,h5⟩:=hO;exact ⟨h1,b,vs,h2,hok b h3,fun j v hj=>hcell _ v (h4 j v hj),hmv h5⟩
 | cells l e=>obtain ⟨h1,b,vs,h2,h3,h4⟩:=hO;exact ⟨h1,b,vs,h2,hcs h3,hmv h4⟩
 | vec k t xs e=>
  obtain ⟨h1,h2,h3,h4,vs,h5,h6⟩:=hO
  refine ⟨h1,h2,h3,h4,vs,⟨h5.1,?_⟩,fun i hi=>(h6 i hi).mono (fun a v _ hv=>hcell a v hv) hok⟩
  rcases h5.2 with h7 | ⟨g,cap,cur,h7,h8,h9,h10⟩
  ·exact .inl h7
  ·exact .inr ⟨g,cap,cur,h7,h8,hcs h9,h10⟩
 | gone=>exact ⟨hO.1,fun b hb=>by simpa [envOf] using hO.2 b hb⟩
 | lnt k t xs=>
  obtain ⟨h1,h2,h3,h4,h5⟩:=hO
  refine ⟨h1,h2,h3,fun b x hb=>⟨(h4 b x hb).1,(hoth b fun e'=>?_).trans (h4 b x hb).2⟩,h5.mono (fun a v _ hv=>hcell a v hv) fun _ h=>h⟩
  obtain ⟨k1,k2⟩:=h4 b x hb
  subst e'
  have k2:w.heap[b]? =some x:=k2
  rw[hD] at k2;cases k2
  cases k1
 | map k t m=>
  obtain ⟨h1,h2,h3,b,es,h4,h5,h6⟩:=hO
  exact ⟨h1,h2,h3,b,es,h4,(hoth b (fun e'=>by subst e';have h5:w.heap[b]? = _:=h5;rw[hD] at h5;cases h5)).trans h5,h6.mono (fun a v _ hv=>hcell a v hv) hok⟩
 | vv k s t xss pend eo ei=>
  obtain ⟨h1,h2,h3,h4,h5,⟨vs,h6,h7⟩,h8,h9⟩:=hO
  have hnD:∀b,(b=D)→∀ {c:Array Value} {e:TypeId},w.heap[b]? ≠some (.cells c e (0,0)):=fun b e' c e h=>by subst e';rw[hD] at h;cases h
  have hkeep:∀ {base:Nat} {e:TypeId} {size n:Nat} {v:Value} {vs:List Value},w.ownsR base e size v n vs→(w.putObj D o).ownsR base e size v n vs:=fun {base e size n v vs} h=>by
   refine ⟨h.1,?_⟩
   rcases h.2 with h5 | ⟨g,cap,cur,h5,h6,h7,h8⟩
   ·exact .inl h5
   ·exact .inr ⟨g,cap,cur,h5,h6,hcs h7,h8⟩
  have hrow:∀ {al:Nat→Prop} {h:Value} {xs:List t.T},RowAt (envOf G H loc ver w) al t ei h xs→RowAt (envOf G H loc ver (w.putObj D o)) al t ei h xs:=fun ⟨vs,q1,q2,q3⟩=>⟨vs,hkeep q1,q2,fun i hi=>(q3 i hi).mono (fun a v _ hv=>hcell a v hv) hok⟩
  refine ⟨h1,h2,h3,h4,h5,⟨vs,hkeep h6,h7⟩,fun b hb=>?_,⟨h9.flat,fun i hi hp=>hrow (h9.row i hi hp),h9.apart,fun j ys hp=>by obtain ⟨q1,q2,q3⟩:=h9.grown j ys hp;exact ⟨q1,hrow q2,q3⟩,h9.short⟩⟩
  obtain ⟨q1,q2,c,e,q3⟩:=h8 b hb
  exact ⟨by simpa [envOf] using q1,q2,c,e,hcs q3⟩
 | mit m s l c=>
  obtain ⟨h1,h2,r,bm,h3,h4,h5⟩:=hO
  exact ⟨h1,h2,r,bm,h3,(hoth r (fun e'=>by subst e';have h4:w.heap[r]? = _:=h4;rw[hD] at h4;cases h4)).trans h4,h5⟩
 | yst st n it=>
  obtain ⟨h1,h2,h3,h4,h5,h6,h7⟩:=hO
  have hnal:¬(loc nm).al D:=fun h=>hal ⟨nm,_,_,_,hx,h⟩
  have hDs:=(Array.getElem?_eq_some_iff.1 hD).1
  refine ⟨h1,fun b hb=>by simpa [envOf] using h2 b hb,by simpa [envOf] using h3,h4,h5,fun b hb hl=>⟨(h6 b hb hl).1,hok b (h6 b hb hl).2⟩,?_⟩
  have:=G.itr.abides st _ w (w.putObj D o) h7 rfl rfl rfl (by simp) fun b hb hm=>hoth b fun e=>hm (by subst e;exact ⟨hn0,hDs,hnal⟩)
  refine cast (congrArg (fun M=>G.itr.J st M (w.putObj D o)) (funext fun b=>propext ⟨?_,?_⟩)) this
  ·rintro (⟨h8,h9,h10⟩ | ⟨h8,h9⟩)
   ·exact ⟨h8,by simpa [envOf] using h9,h10⟩
   ·exfalso;simp at h9;omega
  ·rintro ⟨h8,h9,h10⟩
   exact .inl ⟨h8,by simpa [envOf] using h9,h10⟩
def getRes (a:Act):ResultVar→Sem Value
 | .tmp t=>pure (a.tmps.getD t undef)
 | .cell c t=>do loadVar t (← asAddr (a.tmps.getD c undef))
theorem retOf_sound (hI:Inv G H loc ver w) {l:List (Nat × SV)} {a:Act} (hT:TRel (envOf G H loc ver w) N l a):∀ {rs:List ResultVar} {vs:List SV},retOf P l H rs=some vs→
  ∃us:List Value,(rs.mapM (getRes a)).run P w= .ok us w∧RelL (envOf G H loc ver w) vs us
 | [],vs,h=>by simp[retOf] at h;subst h;exact ⟨[],by simp[List.mapM_nil],.nil⟩
 | .tmp t::r,vs,h=>by
  simp only[retOf] at h
  split at h
  ·rename_i vs' h'
   cases h
   obtain ⟨us,h1,h2⟩:=retOf_sound hI hT h'
   refine ⟨a.tmps.getD t undef::us,?_,.cons _ _ _ _ (hT.rel t) h2⟩
   rw[List.mapM_cons]
   simp only[getRes,Sem.run_bind,Sem.run_pure,Result.andThen_ok,h1]
  ·cases h
 | .cell c t::r,vs,h=>by
  simp only[retOf] at h
  split at h
  ·rename_i nm off ag sz vs' hl ha hz h'
   obtain ⟨us,h1,h2⟩:=retOf_sound hI hT h'
   have hr:=hT.rel c
   rw[hl] at hr
   cases ho:hget H nm with
   | cells cs e=>
    rw[ho] at h
    simp only at h
    obtain ⟨b,hb,hv⟩:=live_ptr hI hr (by simp[live,ho])
    obtain ⟨h0,b',ws,h3,h4,h5⟩:=hI.objs nm _ (hget_some ho (by simp))
    rw[hb] at h3;cases h3
    have h4':w.heap[b]? =some (.cells ⟨ws⟩ e (0,0)):=h4
    have key:∀s,takeSV ag off sz cs (fun x=>x=s)→∃u,(loadVar t ⟨b,off,none⟩).run P w= .ok u w∧Rel (envOf G H loc ver w) s u:=by
     intro s hs
     obtain ⟨u,s',h6,h7,h8⟩:=takeSV_sound (P:=P) (E:=envOf G H loc ver w) (base:=0) (b:=b) hs ha hz h5 (fun j v hj=>by simp[envOf,World.cell?,h4',hj])
     subst h7
     refine ⟨u,?_,h8⟩
     have h6':(Instr.loadAt t (.pointer (some ⟨b,0+off,none⟩))).run P w= .ok u w:=h6
     simpa [Instr.loadAt,Instr.sureAddr] using h6'
    have fin:∀s,takeSV ag off sz cs (fun x=>x=s)→vs=s::vs'→∃us:List Value,((ResultVar.cell c t::r).mapM (getRes a)).run P w= .ok us w∧RelL (envOf G H loc ver w) vs us:=by
     intro s hs e
     subst e
     obtain ⟨u,h6,h7⟩:=key s hs
     refine ⟨u::us,?_,.cons _ _ _ _ h7 h2⟩
     rw[List.mapM_cons]
     simp only[getRes,Sem.run_bind,hv,asAddr,Sem.run_pure,Result.andThen_ok,h6,h1]
    cases ag with
    | true=>
     simp only at h
     cases hb2:Nat.ble (off+sz) cs.length with
     | true=>
      rw[hb2] at h
      simp only[cond_true] at h
      cases h
      exact fin _ (by simp[takeSV,hb2,force_eq]) rfl
     | false=>rw[hb2] at h;cases h
    | false=>
     simp only at h
     cases hb2:Nat.blt off cs.length with
     | true=>
      rw[hb2] at h
      simp only[cond_true] at h
      cases h
      exact fin _ (by simp[takeSV,hb2,hnf_eq]) rfl
     | false=>rw[hb2] at h;cases h
   | _=>rw[ho] at h;cases h
  ·cases h
theorem retSV_rel {E:Env} {vs:List SV} {us:List Value} (h:RelL E vs us):Rel E (retSV vs) (if h:(us.toArray).size=1 then us.toArray[0] else .tuple us.toArray):=by
 cases h with
 | nil=>exact .tup _ _ .nil
 | cons s v l us h hl=>
  cases hl with
  | nil=>exact h
  | cons s' v' l' us' h' hl'=>
   have:¬((v::v'::us').toArray.size=1):=by simp
   rw[dif_neg this]
   exact .tup _ _ (.cons _ _ _ _ h (.cons _ _ _ _ h' hl'))
theorem results_sound (hI:Inv G H loc ver w) {l:List (Nat × SV)} {a:Act} (hT:TRel (envOf G H loc ver w) N l a) {fn:Func} {vs:List SV} (h:retOf P l H fn.results.toList=some vs):
  ∃v,(results fn a.tmps).run P w= .ok v w∧Rel (envOf G H loc ver w) (retSV vs) v:=by
 obtain ⟨us,h1,h2⟩:=retOf_sound (P:=P) hI hT h
 refine ⟨_,?_,retSV_rel h2⟩
 have hm:(fn.results.mapM (getRes a)).run P w= .ok us.toArray w:=by
  rw[Array.mapM_eq_mapM_toList]
  simp only[Sem.run_map,h1,Result.andThen_ok]
 have e:results fn a.tmps=(do
   let vs ← fn.results.mapM (getRes a)
   pure (if h:vs.size=1 then vs[0] else .tuple vs)):=by
  unfold results
  congr 1
 rw[e,Sem.run_bind,hm]
 rfl
theorem Reads.flat {w:World} {ok ok':Nat→Prop} {t:Ty} (ht:t.flat=true) {x:t.T} {cs:List Value} (h:Reads w ok t x cs):Reads w ok' t x cs:=by
 induction t generalizing cs with
 | int k=>exact h
 | bool=>exact h
 | str=>exact h
 | slice t _=>cases ht
 | pair a b iha ihb=>
  simp only[Ty.flat,Bool.and_eq_true] at ht
  obtain ⟨c1,c2,e,h1,h2⟩:=h
  exact ⟨c1,c2,e,iha ht.1 h1,ihb ht.2 h2⟩
theorem viewN_rel (hG:∀b,¬G.mine b) (hI:Inv G H loc ver w) {s:SV} {v:Value} (h:Rel (envOf G H loc ver w) s v):Rel (env0 w fun b=>G.w0.heap.size≤b∧b<w.heap.size) (viewN H s) v:=by
 cases h with
 | ref nm k v hn h0 hk hv=>
  simp only[viewN]
  cases ho:hget H nm with
  | vec j t xs e=>
   simp only
   cases hb:(Nat.beq j k&&t.flat) with
   | false=>exact .any v
   | true=>
    obtain ⟨h1,h2⟩:=and2 hb
    obtain rfl:=beq_iff.1 h1
    have hn':=hget_some ho (by simp)
    have hO:=hI.objs nm _ hn'
    have:=hv hO.1.symm
    subst this
    obtain ⟨_,_,hlen,hmax,vs,hown,hel⟩:=hO
    refine .seq t xs _ ?_
    rcases own_cases hown with ⟨e1,e2,e3,e4⟩ | ⟨g,cur,e1,e2,e3,e4,e5,e6,e7⟩
    ·exact ⟨none,0,0,by simp[Core.head,envOf,e1,e2,e3],by omega,Nat.le_refl _,Nat.zero_le _,fun h=>absurd h (Nat.lt_irrefl _)⟩
    ·have hgg:Owned H loc g:=⟨nm,_,hn',by simp[Owns,e1]⟩
     have hg1:G.w0.heap.size≤g:=by
      rcases hI.own g hgg with h | h
      ·exact (hG g h).elim
      ·exact h
     have hg2:g<w.heap.size:=(Array.getElem?_eq_some_iff.1 e3).1
     refine ⟨some ⟨g,0,none⟩,(loc nm).len,(loc nm).cap,by simp[Core.head,envOf,e1],hlen,e4,hmax,fun h0=>⟨g,0,rfl,⟨hg1,hg2⟩,fun i hi=>⟨_,(hel i hi).length,?_,(hel i hi).flat h2⟩⟩⟩
     intro j v hj
     rw[List.getElem?_take] at hj
     split at hj
     ·rw[List.getElem?_drop,← e7,List.getElem?_take] at hj
      split at hj
      ·have e3':w.heap[g]? =some (.cells cur _ (0,0)):=e3
       simp only[env0,World.cell?,e3']
       simpa using hj
      ·cases hj
     ·cases hj
  | vv j s t xss pd eo ei=>
   cases pd with
   | some p=>exact .any v
   | none=>
   cases hb:Nat.beq j k with
   | false=>simp only[hb,cond_false];exact .any v
   | true=>
    simp only[hb,cond_true]
    obtain rfl:=beq_iff.1 hb
    have hn':=hget_some ho (by simp)
    have hO:=hI.objs nm _ hn'
    have:=hv hO.1.symm
    subst this
    obtain ⟨_,_,_,hlen,hmax,⟨vs,hown,hel⟩,hal,hrows⟩:=hO
    have hge:∀b,Owns (loc nm) (.vv j s t xss none eo ei) b→G.w0.heap.size≤b:=fun b hb=>by
     rcases hI.own b ⟨nm,_,hn',hb⟩ with h | h
     ·exact (hG b h).elim
     ·exact h
    refine .seq (.slice t) xss _ ?_
    rcases own_cases hown with ⟨e1,e2,e3,e4⟩ | ⟨g,cur,e1,e2,e3,e4,e5,e6,e7⟩
    ·exact ⟨none,0,0,by simp[Core.head,envOf,e1,e2,e3],by omega,Nat.le_refl _,Nat.zero_le _,fun h=>absurd h (Nat.lt_irrefl _)⟩
    ·have hg1:G.w0.heap.size≤g:=hge g (.inl (by simp[e1]))
     have hg2:g<w.heap.size:=(Array.getElem?_eq_some_iff.1 e3).1
     refine ⟨some ⟨g,0,none⟩,(loc nm).len,(loc nm).cap,by simp[Core.head,envOf,e1],hlen,e4,hmax,fun h0=>⟨g,0,rfl,⟨hg1,hg2⟩,fun i hi=>⟨[(loc nm).sub.rows i],rfl,?_,?_⟩⟩⟩
     ·intro q v hq
      have hq0:q=0:=by
       have:=(List.getElem?_eq_some_iff.1 hq).1
       simpa using this
      subst hq0
      have h1:=hel i hi
      rw[← e7,List.getElem?_take] at h1
      split at h1
      ·have e3':w.heap[g]? =some (.cells cur _ (0,0)):=e3
       simp only[env0,World.cell?,e3']
       simp only[List.getElem?_cons_zero,Option.some.injEq] at hq
       subst hq
       simpa [Ty.size] using h1
      ·cases h1
     ·have hi':i<xss.length:=by rw[← hlen];exact hi
      obtain ⟨rs,r1,r2,r3⟩:=hrows.row i hi' (fun _ _ hp=>by cases hp)
      have hsh:=hrows.short i hi'
      show Reads w _ (.slice t) (xss.getD i []) _
      rcases r1.2 with ⟨f1,f2⟩ | ⟨g',cap,cur',f1,_,f3,f4,f5,f6,f7⟩
      ·have hl0:(xss.getD i []).length=0:=f2
       exact ⟨none,0,0,by rw[f1],hl0.symm,Nat.le_refl _,Nat.zero_le _,fun h=>absurd h (Nat.lt_irrefl _)⟩
      ·have hgo:(loc nm).al g':=r2 g' (by rw[f1];rfl)
       have hg1':G.w0.heap.size≤g':=hge g' (.inr hgo)
       have f3:w.heap[g']? =some (.cells cur' ei (0,0)):=f3
       have hg2':g'<w.heap.size:=(Array.getElem?_eq_some_iff.1 f3).1
       refine ⟨some ⟨g',0,none⟩,(xss.getD i []).length,cap,by rw[f1],rfl,f4,hsh,fun h0=>⟨g',0,rfl,⟨hg1',hg2'⟩,fun m hm=>⟨_,(r3 m hm).length,?_,(r3 m hm).flat hrows.flat⟩⟩⟩
       intro q v hq
       rw[List.getElem?_take] at hq
       split at hq
       ·rw[List.getElem?_drop,← f7,List.getElem?_take] at hq
        split at hq
        ·simp only[env0,World.cell?,f3]
         simpa using hq
        ·cases hq
       ·cases hq
  | _=>exact .any v
 | val _ h=>exact .val v h
 | bl p d=>exact .bl p d
 | str s h=>exact .str s h
 | ifc _ h=>exact .ifc v h
 | _=>exact .any _
theorem viewNs_rel (hG:∀b,¬G.mine b) (hI:Inv G H loc ver w):∀ {l:List SV} {vs:List Value},RelL (envOf G H loc ver w) l vs→RelL (env0 w fun b=>G.w0.heap.size≤b∧b<w.heap.size) (l.map (viewN H)) vs
 | _,_,.nil=>.nil
 | _,_,.cons _ _ _ _ h hl=>.cons _ _ _ _ (viewN_rel hG hI h) (viewNs_rel hG hI hl)
theorem viewNT_rel (hG:∀b,¬G.mine b) (hI:Inv G H loc ver w):∀ {l:List SV} {vs:List Value},RelL (envOf G H loc ver w) l vs→RelL (env0 w fun b=>G.w0.heap.size≤b∧b<w.heap.size) (l.map fun s=>match s with
   | .agg l=>.agg (l.map (viewN H))
   | s=>viewN H s) vs
 | _,_,.nil=>.nil
 | _,_,.cons s _ _ _ h hl=>by
  refine .cons _ _ _ _ ?_ (viewNT_rel hG hI hl)
  cases s with
  | agg l=>cases h with
   | agg _ vs hl=>exact .agg _ _ (viewNs_rel hG hI hl)
  | _=>exact viewN_rel hG hI h
theorem viewND_rel (hG:∀b,¬G.mine b) (hI:Inv G H loc ver w) {s:SV} {v:Value} (h:Rel (envOf G H loc ver w) s v):Rel (env0 w fun b=>G.w0.heap.size≤b∧b<w.heap.size) (viewND H s) v:=by
 cases s with
 | agg l=>cases h with
  | agg _ vs hl=>exact .agg _ _ (viewNs_rel hG hI hl)
 | tup l=>cases h with
  | tup _ vs hl=>exact .tup _ _ (viewNT_rel hG hI hl)
 | _=>exact viewN_rel hG hI h
end
section
variable {P:Program}
theorem leave_marks {G:Ctx} {fn:Func} {tmps:Array Value} {R:Ending→World→Prop} {H:List HO} {loc:Nat→Loc} {ver:Nat→Nat}:∀(Ds:List Nat) {w:World},Inv G H loc ver w→Ds.Nodup→
  (∀D∈Ds,G.w0.heap.size≤D∧G.itr.n0≤D∧¬aliN H loc D∧w.heap[D]? =some (.deferred (some [])))→
  (∀w',Inv G H loc ver w'→(∀s v,Rel (envOf G H loc ver w) s v→Rel (envOf G H loc ver w') s v)→∃v,(results fn tmps).run P w'= .ok v w'∧R (.returned v) w')→LeavesInM Fence.wide 0 P fn tmps R (Ds.map markOf) .returning w
 | [],w,hI,_,_,hR=>by
  obtain ⟨v,h1,h2⟩:=hR w hI fun _ _ h=>h
  exact ⟨v,h1,h2⟩
 | D::Ds,w,hI,hnd,hD,hR=>by
  obtain ⟨h1,h2,h3,h4⟩:=hD D (List.mem_cons_self ..)
  refine ⟨by simp,.inl ⟨D,_,rfl,run_takeDeferred h4,?_⟩⟩
  have hnd':=List.nodup_cons.1 hnd
  have hbk:=hI.book (o:=.deferred none) h4 h1 h2 h3
  refine leave_marks Ds hbk.1 hnd'.2 (fun D' hD'=>?_) fun w' h5 h6=>hR w' h5 fun s v h=>h6 s v (hbk.2 s v h)
  obtain ⟨k1,k2,k3,k4⟩:=hD D' (List.mem_cons_of_mem _ hD')
  exact ⟨k1,k2,k3,(World.putObj_heap_other (fun e=>hnd'.1 (by rw[← e];exact hD'))).trans k4⟩
theorem leave_marksX {G:Ctx} {fn:Func} {tmps:Array Value} {R:Ending→World→Prop} {H:List HO} {loc:Nat→Loc} {ver:Nat→Nat}:∀(Ds:List Nat) {w:World},Inv G H loc ver w→Ds.Nodup→
  (∀D∈Ds,G.w0.heap.size≤D∧G.itr.n0≤D∧¬aliN H loc D∧w.heap[D]? =some (.deferred (some [])))→
  (∀w',Inv G H loc ver w'→(∀s v,Rel (envOf G H loc ver w) s v→Rel (envOf G H loc ver w') s v)→w'.heap.size=w.heap.size→(∀b,¬b∈Ds→w'.heap[b]? =w.heap[b]?)→∃v,(results fn tmps).run P w'= .ok v w'∧R (.returned v) w')→LeavesInM Fence.wide 0 P fn tmps R (Ds.map markOf) .returning w
 | [],w,hI,_,_,hR=>by
  obtain ⟨v,h1,h2⟩:=hR w hI (fun _ _ h=>h) rfl fun _ _=>rfl
  exact ⟨v,h1,h2⟩
 | D::Ds,w,hI,hnd,hD,hR=>by
  obtain ⟨h1,h2,h3,h4⟩:=hD D (List.mem_cons_self ..)
  refine ⟨by simp,.inl ⟨D,_,rfl,run_takeDeferred h4,?_⟩⟩
  have hnd':=List.nodup_cons.1 hnd
  have hbk:=hI.book (o:=.deferred none) h4 h1 h2 h3
  refine leave_marksX Ds hbk.1 hnd'.2 (fun D' hD'=>?_) fun w' h5 h6 h7 h8=>hR w' h5 (fun s v h=>h6 s v (hbk.2 s v h)) (by rw[h7];simp) fun b hb=>?_
  ·obtain ⟨k1,k2,k3,k4⟩:=hD D' (List.mem_cons_of_mem _ hD')
   exact ⟨k1,k2,k3,(World.putObj_heap_other (fun e=>hnd'.1 (by rw[← e];exact hD'))).trans k4⟩
  ·exact (h8 b fun h=>hb (List.mem_cons_of_mem _ h)).trans (World.putObj_heap_other fun e=>hb (by subst e;exact List.mem_cons_self ..))
theorem ExtO.late {G:Ctx} {D:List Nat} {H0 H:List HO} {loc0 loc:Nat→Loc} {ver0 ver:Nat→Nat} {w0 w w':World} (hI0:Inv G H0 loc0 ver0 w0) (hx:ExtO D (envOf G H0 loc0 ver0 w0) (envOf G H loc ver w)) (hs:w'.heap.size=w.heap.size)
  (hb:∀b,b<w0.heap.size→w'.heap[b]? =w.heap[b]?):ExtO D (envOf G H0 loc0 ver0 w0) (envOf G H loc ver w'):=by
 refine ⟨fun b ho=>(hb b ho.2.1).trans (hx.blk b ho),fun b ho=>?_,hx.num,hx.ver,by have:=hx.size;show w0.heap.size≤w'.heap.size;rw[hs];exact this,fun k o hna hk ho=>(hb k (Array.getElem?_eq_some_iff.1 hk).1).trans (hx.keep k o hna hk ho),fun nm b hg=>?_,hx.gho',hx.ali,hx.itr,hx.sub⟩
 ·obtain ⟨h1,h2,h3⟩:=hx.ok b ho
  exact ⟨h1,by have h2':b<w.heap.size:=h2;show b<w'.heap.size;omega,h3⟩
 ·obtain ⟨h1,h2⟩:=hx.gho nm b hg
  exact ⟨h1,(hb b ((hI0.objs nm _ hg.1).2 b hg.2)).trans h2⟩
theorem ExtO.ext {D:List Nat} {G:Ctx} {H0 H:List HO} {loc0 loc:Nat→Loc} {ver0 ver:Nat→Nat} {w0 w:World} (hI0:Inv G H0 loc0 ver0 w0) (hI:Inv G H loc ver w) (hx:ExtO D (envOf G H0 loc0 ver0 w0) (envOf G H loc ver w)) (hD:∀nm,hasB H0 nm=true→mem nm D=false):Ext (envOf G H0 loc0 ver0 w0) (envOf G H loc ver w):=
 ⟨⟨hx.blk,hx.ok,hx.num,fun nm hn=>hx.ver nm hn (hD nm hn),hI.os.trans hI0.os.symm,hI.tape.trans hI0.tape.symm,hI.output.trans hI0.output.symm,hx.size,hx.ali,hx.itr,fun nm hn he=>hx.sub nm hn (hD nm hn) he⟩,hx.keep,hx.gho,hx.gho'⟩
theorem htri_of_body {Γ:List Con} (hΓ:∀c∈Γ,ConOK P c) {A:Anns} {f:FuncId} {fn:Func} (hf:P.funcs[f]? =some fn) {args:List SV} {H:List HO} {R:SV→List HO→Prop} (hn:args.length≤fn.ntmps) (h:bodyH P Γ A fn args H R):HTri P f args H R:=by
 intro G loc ver w vs hY hI hr
 unfold bodyH at h
 cases hc:fn.body with
 | none=>rw[hc] at h;exact h.elim
 | some c=>
  rw[hc] at h
  obtain ⟨hwi,h⟩:=h
  refine (callsIn_wide (n:=0)).1 (callsIn_of_wp_marks hf hc trivial ?_)
  have hT:=start_rel (N:=fn.ntmps) hr hn
  refine wpIn_mono (exec_sound hY hΓ c 0 (F:=Fence.wide) (n:=0) ⟨none,rfl⟩ hI hT (fun l hl=>by cases hl) h) ?_
  rintro e a' w' ⟨l',H',loc',ver',h1,h2,h3,h4,h5,Ds,h6,h7,h8⟩
  have hend:finH.endH P fn.results.toList R H l' H'→LeavesInM Fence.wide 0 P fn a'.tmps (fun e w'=>∃v,e= .returned v∧Res G (envOf G H loc ver w) R v w') a'.defers .returning w':=by
   intro he
   rw[h6,List.append_nil]
   refine leave_marksX Ds h2 h7 (fun D hD=>⟨Nat.le_trans hI.size (h8 D hD).1,Nat.le_trans (Nat.le_trans G.low hI.size) (h8 D hD).1,(h8 D hD).2.1,(h8 D hD).2.2⟩) fun w2 h9 h10 h11 h12=>?_
   unfold finH.endH at he
   split at he
   case h_2=>exact he.elim
   rename_i us hu
   obtain ⟨s,H2,hR,hp,hent,hlen,hgo,hH⟩:=he
   have hT2:TRel (envOf G H' loc' ver' w2) fn.ntmps l' a':=⟨h3.size,fun t=>h10 _ _ (h3.rel t)⟩
   obtain ⟨v,k1,k2⟩:=results_sound (P:=P) h9 hT2 hu
   have hS:EntS [] H' H2 H.length:=entH_spec hH
   obtain ⟨hI2,hok2⟩:=arrive_inv h9 (by omega) hS
   have hxl:=ExtO.late hI h4 h11 fun b hb=>h12 b fun hm=>by have h13:w.heap.size≤b:=(h8 b hm).1;omega
   have hx2:=arrive_ext hxl (by omega) (fun nm hnm=>gones_spec hgo hnm) hwi hS hok2
   refine ⟨v,k1,v,rfl,s,H2,loc',_,hR,hI2,?_,ExtO.ext hI hI2 hx2 fun _ _=>rfl⟩
   exact Rel.plain (ent_sound hent k2) hp
  cases e with
  | normal=>exact hend h1
  | ret=>exact hend h1
  | _=>exact h1.elim
theorem finV_sound {ok:Nat→Prop} {w0:World} {hok:∀b,ok b→b<w0.heap.size} {H:List HO} {loc:Nat→Loc} {ver:Nat→Nat} {w:World} {N:Nat} {l:List (Nat × SV)} {a:Act} {fn:Func} {fresh:Bool} {r:SV}
  (hI:Inv (ctx0 w0 ok hok) H loc ver w) (hT:TRel (envOf (ctx0 w0 ok hok) H loc ver w) N l a) (hb:bare r=true) (h:finV P fresh fn.results.toList r l H):
  ∃v,(results fn a.tmps).run P w= .ok v w∧Below w0.heap.size w0 w∧Rel (env0 w fun b=>(fresh=false∧ok b)∨(w0.heap.size≤b∧b<w.heap.size)) r v:=by
 have hbel:Below w0.heap.size w0 w:=⟨hI.os,hI.tape,hI.output,hI.size,fun b hb=>hI.frame b hb fun h=>h⟩
 unfold finV at h
 split at h
 case h_2=>exact h.elim
 rename_i vs hv
 obtain ⟨v,hr,hrel⟩:=results_sound (P:=P) hI hT hv
 refine ⟨v,hr,hbel,?_⟩
 cases fresh with
 | true=>
  simp only[cond_true] at h
  have h1:=ent_sound h (viewND_rel (fun _ h=>h) hI hrel)
  exact Rel.bare (E:=env0 w fun b=>w0.heap.size≤b∧b<w.heap.size) (E':=env0 w fun b=>(true=false∧ok b)∨(w0.heap.size≤b∧b<w.heap.size)) (fun _ _ _ h=>h) (fun b hb=>Or.inr hb) h1 hb
 | false=>
  simp only[cond_false,force_eq] at h
  obtain ⟨hI1,hx1⟩:=freezeL_sound vs hI
  have h1:=viewD_rel (H:=freezeL H vs) (lend:=false) (Ext.refl _) (fun _ _ _ h=>view_ptr hI1 h) (fun nm k v h=>view_ref_fro hI1 h) (fun nm k i v _=>view_subp_fro nm k i v) (hrel.ext hx1)
  have h2:=ent_sound h h1
  refine Rel.bare (E:=envOf _ (freezeL H vs) loc ver w) (E':=env0 w _) (fun _ _ _ h=>h) (fun b hb=>?_) h2 hb
  rcases hb.1 with h3 | h3 | h3
  ·exact .inl ⟨rfl,h3⟩
  ·exact h3.elim
  ·exact .inr ⟨h3,hb.2.1⟩
theorem tri_of_body {Γ:List Con} (hΓ:∀c∈Γ,ConOK P c) {A:Anns} {fresh:Bool} {f:FuncId} {fn:Func} (hf:P.funcs[f]? =some fn) {args:List SV} {r:SV} (hn:args.length≤fn.ntmps) (hb:bare r=true) (h:body P Γ A fresh fn args r):Tri P fresh f args r:=by
 intro ok w vs hgw hok hr
 unfold body at h
 cases hc:fn.body with
 | none=>rw[hc] at h;exact h.elim
 | some c=>
  rw[hc] at h
  refine (callsIn_wide (n:=0)).1 (callsIn_of_wp_marks hf hc trivial ?_)
  have hI:=start_inv ok hok
  have hr':RelL (envOf (ctx0 w ok hok) [] (fun _=>mkL none 0 0) (fun _=>0) w) args vs:=by
   refine RelL.move (E:=env0 w ok) (E':=envOf (ctx0 w ok hok) [] (fun _=>mkL none 0 0) (fun _=>0) w) (p:=fun m=>Nat.blt m 0) (fun nm hp _=>by simp at hp) (fun nm hp=>by simp at hp) (fun h=>by cases h) (fun _ _ _ h=>h) (fun b hb=>⟨.inl hb,hok b hb,fun ⟨nm,o,h,_⟩=>by simp at h⟩) hr hr.under
  have hT:=start_rel (N:=fn.ntmps) hr' hn
  have hY:COK P (ctx0 w ok hok):=⟨(fun k M W us hk=>by cases hk),hgw⟩
  refine wpIn_mono (exec_sound hY hΓ c 0 (F:=Fence.wide) (n:=0) ⟨none,rfl⟩ hI hT (fun l hl=>by cases hl) h) ?_
  rintro e a' w' ⟨l',H',loc',ver',h1,h2,h3,h4,h5,Ds,h6,h7,h8⟩
  have hend:∀ {R:Ending→World→Prop},(∀w2,Inv (ctx0 w ok hok) H' loc' ver' w2→TRel (envOf (ctx0 w ok hok) H' loc' ver' w2) fn.ntmps l' a'→∃v,(results fn a'.tmps).run P w2= .ok v w2∧R (.returned v) w2)→LeavesInM Fence.wide 0 P fn a'.tmps R a'.defers .returning w':=by
   intro R hR
   rw[h6,List.append_nil]
   exact leave_marks Ds h2 h7 (fun D hD=>⟨(h8 D hD).1,Nat.zero_le _,(h8 D hD).2.1,(h8 D hD).2.2⟩) fun w2 h9 h10=>hR w2 h9 ⟨h3.size,fun t=>h10 _ _ (h3.rel t)⟩
  cases e with
  | normal=>
   refine hend fun w2 h9 h10=>?_
   obtain ⟨v,k7,k8,k9⟩:=finV_sound h9 h10 hb h1
   exact ⟨v,k7,v,rfl,k8,k9⟩
  | ret=>
   refine hend fun w2 h9 h10=>?_
   obtain ⟨v,k7,k8,k9⟩:=finV_sound h9 h10 hb h1
   exact ⟨v,k7,v,rfl,k8,k9⟩
  | _=>exact h1.elim
theorem ltri_of_body {Γ:List Con} (hΓ:∀c∈Γ,ConOK P c) {A:Anns} {f:FuncId} {fn:Func} (hf:P.funcs[f]? =some fn) {pos:Nat} {same:Bool} {args:List SV} {t:Ty} {xs:List t.T} {e:TypeId} {r:SV} {ys:List t.T} (hn:args.length≤fn.ntmps) (hfl:t.flat=true)
  (h:bodyL P Γ A fn pos same args t xs e r ys):LTri P f pos same args t xs e r ys:=by
 intro ok w vs L hgw hok hblk hrow hr hpos
 unfold bodyL at h
 cases hc:fn.body with
 | none=>rw[hc] at h;exact h.elim
 | some c=>
  rw[hc] at h
  refine (callsIn_wide (n:=0)).1 (callsIn_of_wp_marks hf hc trivial ?_)
  obtain ⟨G,hG⟩:∃G:Ctx,G= ⟨w,ok,fun b=>L.blk.map (·.1)=some b,fun b h1 h2=>(hok b h1).2 h2,fun b hb=>(hok b hb).1,itr0,Nat.zero_le _⟩:=⟨_,rfl⟩
  obtain ⟨r1,r2,rs,r3,r4⟩:=hrow
  have hown:∀b,Owned [HO.vec 1 t xs e] (fun _=>L) b→L.blk.map (·.1)=some b:=by
   rintro b ⟨nm,o,h1,h2⟩
   cases nm with
   | zero=>simp at h1;subst h1;exact h2
   | succ k=>simp at h1
  have hokn:∀b,ok b→okN G [HO.vec 1 t xs e] (fun _=>L) w b:=fun b hb=>⟨.inl (by rw[hG];exact hb),(hok b hb).1,fun ho=>(hok b hb).2 (hown b ho)⟩
  have hI:Inv G [HO.vec 1 t xs e] (fun _=>L) (fun _=>1) w:=by
   refine ⟨by rw[hG];exact Nat.le_refl _,by rw[hG],by rw[hG],by rw[hG],fun b _ _=>by rw[hG],fun nm o ho=>?_,fun b hb=>.inl (by rw[hG];exact hown b hb),fun nm nm' o o' b h1 h2 _ _=>?_⟩
   ·cases nm with
    | zero=>
     simp at ho;subst ho
     exact ⟨rfl,Nat.one_pos,r1,r2,rs,r3,fun i hi=>Reads.flatJ hfl (r4 i hi)⟩
    | succ k=>simp at ho
   ·cases nm with
    | zero=>cases nm' with
     | zero=>rfl
     | succ k=>simp at h2
    | succ k=>simp at h1
  have hr':RelL (envOf G [HO.vec 1 t xs e] (fun _=>L) (fun _=>1) w) args vs:=
   RelL.move (E:=env0 w ok) (E':=envOf G [HO.vec 1 t xs e] (fun _=>L) (fun _=>1) w) (p:=fun m=>Nat.blt m 0) (fun nm hp _=>by simp at hp) (fun nm hp=>by simp at hp) (fun h=>by cases h) (fun _ _ _ h=>h) hokn hr hr.under
  have hrs:RelL (envOf G [HO.vec 1 t xs e] (fun _=>L) (fun _=>1) w) (args.set pos (.ref 0 1)) vs:=by
   have hh:Rel (envOf G [HO.vec 1 t xs e] (fun _=>L) (fun _=>1) w) (.ref 0 1) L.head:=.ref 0 1 _ (by rfl) Nat.one_pos (Nat.le_refl _) fun _=>rfl
   have:=hr'.set pos hh
   obtain ⟨hlt,he⟩:=List.getElem?_eq_some_iff.1 hpos
   rwa [show vs.set pos L.head=vs from by rw[← he];exact List.set_getElem_self hlt] at this
  have hT:=start_rel (N:=fn.ntmps) hrs (by simpa using hn)
  have hY:COK P G:=by rw[hG];exact ⟨(fun k M W us hk=>by cases hk),hgw⟩
  have hRo:RoundOK Fence.wide (envOf G [HO.vec 1 t xs e] (fun _=>L) (fun _=>1) w):=fun l hl=>by cases hl
  refine wpIn_mono (exec_sound hY hΓ c 0 (F:=Fence.wide) (n:=0) ⟨none,rfl⟩ hI hT hRo h) ?_
  rintro en a' w' ⟨l',H',loc',ver',h1,h2,h3,h4,h5,Ds,h6,h7,h8⟩
  have h0s:G.w0.heap.size=w.heap.size:=by rw[hG]
  have h0n:G.itr.n0=0:=by rw[hG];rfl
  have hend:finL.endL P A c same fn.results.toList r t ys e l' H'→LeavesInM Fence.wide 0 P fn a'.tmps (fun en w'=>∃v L',en= .returned v∧(w'.os=w.os∧w'.tape=w.tape∧w'.output=w.output∧w.heap.size≤w'.heap.size∧∀b,b<w.heap.size→L.blk.map (·.1)≠some b→w'.heap[b]? =w.heap[b]?)∧
   (same=true→L'=L)∧(∀b,L'.blk.map (·.1)=some b→L.blk.map (·.1)=some b∨w.heap.size≤b)∧RowS w' L' t ys e∧((r= .ref 0 1∧v=L'.head)∨(plain r=true∧Rel (env0 w' fun _=>False) r v))) a'.defers .returning w':=by
   intro he
   rw[h6,List.append_nil]
   refine leave_marks Ds h2 h7 (fun D hD=>⟨by rw[h0s];exact (h8 D hD).1,by rw[h0n];exact Nat.zero_le _,(h8 D hD).2.1,(h8 D hD).2.2⟩) fun w2 h9 h10=>?_
   unfold finL.endL at he
   split at he
   case h_2=>exact he.elim
   rename_i us k t' zs e' hu ho
   obtain ⟨q1,rfl,q2,q3⟩:=he
   have hT2:TRel (envOf G H' loc' ver' w2) fn.ntmps l' a':=⟨h3.size,fun t=>h10 _ _ (h3.rel t)⟩
   obtain ⟨v,k7,k8⟩:=results_sound (P:=P) h9 hT2 hu
   have hq:=seqEq_spec q2
   cases hq
   have hn0:=hget_some ho (by simp)
   obtain ⟨o1,o2,o3,o4,rs',o5,o6⟩:=h9.objs 0 _ hn0
   have o1:ver' 0=k:=o1
   refine ⟨v,k7,v,⟨(loc' 0).toCore,L.al,L.sub⟩,rfl,⟨?_,?_,?_,?_,?_⟩,?_,?_,⟨o3,o4,rs',o5,fun i hi=>Reads.flatJ hfl (o6 i hi)⟩,?_⟩
   ·have:=h9.os;rw[hG] at this;exact this
   ·have:=h9.tape;rw[hG] at this;exact this
   ·have:=h9.output;rw[hG] at this;exact this
   ·have:=h9.size;rw[hG] at this;exact this
   ·intro b hb hne
    have:=h9.frame b (by rw[h0s];exact hb) (by rw[hG];exact hne)
    rw[hG] at this;exact this
   ·intro hs
    rw[hs] at q1
    simp only[cond_true,Bool.and_eq_true,beq_iff,Bool.not_eq_true'] at q1
    rcases h4.ver 0 (by rfl) q1.2 with ⟨_,e2⟩ | ⟨_,e2⟩
    ·have e2:(loc' 0).toCore=L.toCore:=e2
     rw[e2]
    ·have e2:1<ver' 0:=e2
     omega
   ·intro b hb
    rcases h9.own b ⟨0,_,hn0,hb⟩ with h | h
    ·rw[hG] at h;exact .inl h
    ·rw[hG] at h;exact .inr h
   ·split at q3
    ·split at q3
     ·rename_i k' hk
      subst q3
      rw[hk] at k8
      refine .inl ⟨rfl,?_⟩
      generalize v=u at k8
      cases k8 with
      | ref _ _ _ _ _ _ hh=>exact hh o1.symm
     ·exact q3.elim
    ·obtain ⟨q4,q5⟩:=q3
     exact .inr ⟨q4,(ent_sound q5 k8).plain q4⟩
  cases en with
  | normal=>exact hend h1
  | ret=>exact hend h1
  | _=>exact h1.elim
theorem RelL.mapTo {E E':Env} {g:SV→SV} (hg:∀s x,Rel E s x→Rel E' (g s) x):∀ {l:List SV} {vs:List Value},RelL E l vs→RelL E' (l.map g) vs
 | _,_,.nil=>.nil
 | _,_,.cons _ _ _ _ h hl=>.cons _ _ _ _ (hg _ _ h) (RelL.mapTo hg hl)
theorem retSV_map {E E':Env} {g:SV→SV} (hg:∀s x,Rel E s x→Rel E' (g s) x) {l:List SV} {v:Value} (h:Rel E (retSV l) v):Rel E' (retSV (l.map g)) v:=by
 match l with
 | []=>cases h with
  | tup _ vs hl=>exact .tup _ _ (by simpa using RelL.mapTo hg hl)
 | [a]=>exact hg _ _ h
 | a::b::l=>cases h with
  | tup _ vs hl=>exact .tup _ _ (by simpa using RelL.mapTo hg hl)
theorem renb_rel {E:Env} {nm k:Nat} {w:World} (hv:E.ver nm=k) {s:SV} {x:Value} (h:Rel E s x):Rel (envO w (E.loc nm)) (renb nm k s) x:=by
 cases s with
 | ref n j=>
  simp only[renb]
  cases hb:(Nat.beq n nm&&Nat.beq j k) with
  | false=>exact .any x
  | true=>
   simp only[Bool.and_eq_true,beq_iff] at hb
   obtain ⟨rfl,rfl⟩:=hb
   cases h with
   | ref _ _ _ _ _ _ hh=>
    have:=hh hv.symm
    exact .ref 0 1 x (by simp[envO]) Nat.one_pos (Nat.le_refl _) fun _=>this
 | _=>
  simp only[renb]
  first
  | (split<;>first | exact .any x | exact h.plain (by assumption))
  | (cases hp:plain _ with
   | true=>exact h.plain hp
   | false=>exact .any x)
theorem otri_of_body {Γ:List Con} (hΓ:∀c∈Γ,ConOK P c) {A:Anns} {f:FuncId} {fn:Func} (hf:P.funcs[f]? =some fn) {args:List SV} {r:SV} {t:Ty} {ys:List t.T} {e:TypeId} (hn:args.length≤fn.ntmps) (hfl:t.flat=true)
  (h:bodyO P Γ A fn args r t ys e):OTri P f args r t ys e:=by
 intro ok w vs hgw hok hr
 unfold bodyO at h
 cases hc:fn.body with
 | none=>rw[hc] at h;exact h.elim
 | some c=>
  rw[hc] at h
  refine (callsIn_wide (n:=0)).1 (callsIn_of_wp_marks hf hc trivial ?_)
  have hI:=start_inv ok hok
  have hr':RelL (envOf (ctx0 w ok hok) [] (fun _=>mkL none 0 0) (fun _=>0) w) args vs:=by
   refine RelL.move (E:=env0 w ok) (E':=envOf (ctx0 w ok hok) [] (fun _=>mkL none 0 0) (fun _=>0) w) (p:=fun m=>Nat.blt m 0) (fun nm hp _=>by simp at hp) (fun nm hp=>by simp at hp) (fun h=>by cases h) (fun _ _ _ h=>h) (fun b hb=>⟨.inl hb,hok b hb,fun ⟨nm,o,h,_⟩=>by simp at h⟩) hr hr.under
  have hT:=start_rel (N:=fn.ntmps) hr' hn
  have hY:COK P (ctx0 w ok hok):=⟨(fun k M W us hk=>by cases hk),hgw⟩
  refine wpIn_mono (exec_sound hY hΓ c 0 (F:=Fence.wide) (n:=0) ⟨none,rfl⟩ hI hT (fun l hl=>by cases hl) h) ?_
  rintro en a' w' ⟨l',H',loc',ver',h1,h2,h3,h4,h5,Ds,h6,h7,h8⟩
  have hend:finO.endO P fn.results.toList r t ys e l' H'→LeavesInM Fence.wide 0 P fn a'.tmps (fun en w'=>∃v L',en= .returned v∧Below w.heap.size w w'∧(∀b,L'.blk.map (·.1)=some b→w.heap.size≤b)∧RowS w' L' t ys e∧Rel (envO w' L') r v) a'.defers .returning w':=by
   intro he
   rw[h6,List.append_nil]
   refine leave_marks Ds h2 h7 (fun D hD=>⟨(h8 D hD).1,Nat.zero_le _,(h8 D hD).2.1,(h8 D hD).2.2⟩) fun w2 h9 h10=>?_
   unfold finO.endO at he
   split at he
   case h_2=>exact he.elim
   rename_i us hu
   split at he
   case h_2=>
    split at he
    case h_2=>exact he.elim
    obtain ⟨hr0,hy0⟩:=he
    have hT2:TRel (envOf (ctx0 w ok hok) H' loc' ver' w2) fn.ntmps l' a':=⟨h3.size,fun t=>h10 _ _ (h3.rel t)⟩
    obtain ⟨v,k7,k8⟩:=results_sound (P:=P) h9 hT2 hu
    have hv:v= .slice none 0 0:=by
     have k8:Rel _ (.val (.slice none 0 0)) v:=k8
     cases k8;rfl
    subst hr0
    refine ⟨v,k7,v,mkL none 0 0,rfl,⟨h9.os,h9.tape,h9.output,h9.size,fun b hb=>h9.frame b hb fun h=>h⟩,fun b hb=>(by simp at hb),⟨hy0.symm,Nat.zero_le _,[],⟨by simp,.inl ⟨rfl,rfl⟩⟩,fun i hi=>absurd hi (Nat.not_lt_zero _)⟩,?_⟩
    exact .ref 0 1 v (by simp[envO]) Nat.one_pos (Nat.le_refl _) fun _=>by rw[hv];rfl
   rename_i nm k hfr
   split at he
   case h_2=>exact he.elim
   rename_i k' t' zs e' ho
   obtain ⟨rfl,rfl,q2,q3⟩:=he
   have hT2:TRel (envOf (ctx0 w ok hok) H' loc' ver' w2) fn.ntmps l' a':=⟨h3.size,fun t=>h10 _ _ (h3.rel t)⟩
   obtain ⟨v,k7,k8⟩:=results_sound (P:=P) h9 hT2 hu
   have hq:=seqEq_spec q2
   cases hq
   have hn0:=hget_some ho (by simp)
   obtain ⟨o1,o2,o3,o4,rs',o5,o6⟩:=h9.objs nm _ hn0
   refine ⟨v,k7,v,loc' nm,rfl,⟨h9.os,h9.tape,h9.output,h9.size,fun b hb=>h9.frame b hb fun h=>h⟩,?_,⟨o3,o4,rs',o5,fun i hi=>Reads.flatJ hfl (o6 i hi)⟩,?_⟩
   ·intro b hb
    rcases h9.own b ⟨nm,_,hn0,hb⟩ with h | h
    ·exact h.elim
    ·exact h
   ·exact ent_sound q3 (retSV_map (fun s x hs=>renb_rel (E:=envOf (ctx0 w ok hok) H' loc' ver' w2) o1 hs) k8)
  cases en with
  | normal=>exact hend h1
  | ret=>exact hend h1
  | _=>exact h1.elim
theorem triI_of_body {Γ:List Con} (hΓ:∀c∈Γ,ConOK P c) {A:Anns} {f:FuncId} {fn:Func} (hf:P.funcs[f]? =some fn) {args:List SV} {n:Nat} {items:Nat→List SV} (hn:args.length+1≤fn.ntmps) (h:bodyI P Γ A fn args n items):TriI P f args n items:=by
 intro ok w vs l J soft sf hgw hok hr hsf hab hy hJ0
 unfold bodyI at h
 cases hc:fn.body with
 | none=>rw[hc] at h;exact h.elim
 | some c=>
  rw[hc] at h
  refine (callsIn_wide (n:=0)).1 (callsIn_of_wp_marks hf hc trivial ?_)
  obtain ⟨G,hG⟩:∃G:Ctx,G= ⟨w,ok,fun b=>b<w.heap.size∧¬ok b,fun b h1 h2=>h2.2 h1,hok,⟨true,l,w.heap.size,ok,n,items,J,hab,soft,sf,hsf⟩,Nat.le_refl _⟩:=⟨_,rfl⟩
  have hown:∀b,Owned [HO.yst (some 0) n items] (fun _=>(⟨⟨none,0,0⟩,fun b=>b<w.heap.size∧¬ok b,sub0⟩:Loc)) b→b<w.heap.size∧¬ok b:=by
   rintro b ⟨nm,o,h1,h2⟩
   cases nm with
   | zero=>simp at h1;subst h1;exact h2
   | succ k=>simp at h1
  have hokn:∀b,ok b→okN G [HO.yst (some 0) n items] (fun _=>(⟨⟨none,0,0⟩,fun b=>b<w.heap.size∧¬ok b,sub0⟩:Loc)) w b:=fun b hb=>⟨.inl (by rw[hG];exact hb),hok b hb,fun ho=>(hown b ho).2 hb⟩
  have hI:Inv G [HO.yst (some 0) n items] (fun _=>(⟨⟨none,0,0⟩,fun b=>b<w.heap.size∧¬ok b,sub0⟩:Loc)) (fun _=>1) w:=by
   refine ⟨by rw[hG];exact Nat.le_refl _,by rw[hG],by rw[hG],by rw[hG],fun b _ _=>by rw[hG],fun nm o ho=>?_,fun b hb=>.inl (by rw[hG];exact hown b hb),fun nm nm' o o' b h1 h2 _ _=>?_⟩
   ·cases nm with
    | zero=>
     simp at ho;subst ho
     refine ⟨Nat.one_pos,fun b hb=>hb.1,by rw[hG];exact Nat.le_refl _,by rw[hG];rfl,by rw[hG];rfl,fun b hb hl=>?_,?_⟩
     ·have hb':b<w.heap.size:=by rw[hG] at hb;exact hb
      have hob:ok b:=Classical.byContradiction fun hno=>hl ⟨hb',hno⟩
      exact ⟨by rw[hG];exact hob,hokn b hob⟩
     ·rw[hG]
      refine cast (congrArg (fun M=>J (some 0) M w) (funext fun b=>propext ⟨fun h=>h.elim,?_⟩)) hJ0
      rintro ⟨h8,h9,_⟩
      have h8':w.heap.size≤b:=h8
      have h9':b<w.heap.size:=h9
      omega
    | succ k=>simp at ho
   ·cases nm with
    | zero=>cases nm' with
     | zero=>rfl
     | succ k=>simp at h2
    | succ k=>simp at h1
  have hr':RelL (envOf G [HO.yst (some 0) n items] (fun _=>(⟨⟨none,0,0⟩,fun b=>b<w.heap.size∧¬ok b,sub0⟩:Loc)) (fun _=>1) w) args vs:=
   by
    cases soft with
    | false=>
     exact RelL.move (E:=env0 w ok) (E':=envOf G [HO.yst (some 0) n items] (fun _=>(⟨⟨none,0,0⟩,fun b=>b<w.heap.size∧¬ok b,sub0⟩:Loc)) (fun _=>1) w) (p:=fun m=>Nat.blt m 0) (fun nm hp _=>by simp at hp) (fun nm hp=>by simp at hp) (fun h=>by cases h) (fun _ _ _ h=>h) hokn hr hr.under
    | true=>
     obtain ⟨rfl,c,o,hc1,hc2,rfl⟩:=hr
     refine .cons _ _ _ _ (.lelem _ 0 c o [sf.head] (.cons _ _ _ _ (.sft none _ (by rw[hG];rfl) (by rw[hG];exact ⟨rfl,rfl⟩)) .nil) (hokn c hc1) ?_) .nil
     intro j u hj
     cases j with
     | zero=>simp at hj;subst hj;exact hc2
     | succ j=>simp at hj
  have hyl:Rel (envOf G [HO.yst (some 0) n items] (fun _=>(⟨⟨none,0,0⟩,fun b=>b<w.heap.size∧¬ok b,sub0⟩:Loc)) (fun _=>1) w) (.yld 0) (.func (.yield l) #[] #[]):=by
   have:=Rel.yld (E:=envOf G [HO.yst (some 0) n items] (fun _=>(⟨⟨none,0,0⟩,fun b=>b<w.heap.size∧¬ok b,sub0⟩:Loc)) (fun _=>1) w) 0 (by rw[hG];rfl)
   rw[hG] at this ⊢
   exact this
  have hT:=start_rel (N:=fn.ntmps) (RelL.cons _ _ _ _ hyl hr') (by simpa using hn)
  have hY:COK P G:=by rw[hG];exact ⟨hy,hgw⟩
  have hRo:RoundOK Fence.wide (envOf G [HO.yst (some 0) n items] (fun _=>(⟨⟨none,0,0⟩,fun b=>b<w.heap.size∧¬ok b,sub0⟩:Loc)) (fun _=>1) w):=fun l hl=>by cases hl
  refine wpIn_mono (exec_sound hY hΓ c 0 (F:=Fence.wide) (n:=0) ⟨none,rfl⟩ hI hT hRo h) ?_
  rintro e a' w' ⟨l',H',loc',ver',h1,h2,h3,h4,h5,Ds,h6,h7,h8⟩
  have h0s:G.w0.heap.size=w.heap.size:=by rw[hG]
  have h0n:G.itr.n0=w.heap.size:=by rw[hG]
  have hend:finI.endI fn.results.toList l' H'→LeavesInM Fence.wide 0 P fn a'.tmps (fun e w'=>(∃v,e= .returned v)∧∃M,J (some n) M w'∨J none M w') a'.defers .returning w':=by
   intro he
   rw[h6,List.append_nil]
   refine leave_marks Ds h2 h7 (fun D hD=>⟨by rw[h0s];exact (h8 D hD).1,by rw[h0n];exact (h8 D hD).1,(h8 D hD).2.1,(h8 D hD).2.2⟩) fun w2 h9 h10=>?_
   unfold finI.endI at he
   have hres:∀k,fn.results.toList= []→k→∃v,(results fn a'.tmps).run P w2= .ok v w2∧k:=by
    intro k hrs hk
    obtain ⟨v,h11,_⟩:=results_sound (P:=P) (fn:=fn) (vs:=[]) h9 (⟨h3.size,fun t=>h10 _ _ (h3.rel t)⟩:TRel (envOf G H' loc' ver' w2) fn.ntmps l' a') (by rw[hrs];rfl)
    exact ⟨v,h11,hk⟩
   split at he
   ·rename_i k n' it hrs ho
    obtain ⟨v,h11,_⟩:=hres True hrs trivial
    obtain ⟨_,_,_,hn',_,_,hJ⟩:=h9.objs 0 _ (hget_some ho (by simp))
    refine ⟨v,h11,⟨v,rfl⟩,fun b=>w.heap.size≤b∧b<w2.heap.size∧¬(loc' 0).al b,.inl ?_⟩
    have e1:n'=n:=by rw[hG] at hn';exact hn'
    rw[hG] at hJ
    have e2:k=n:=he.trans e1
    rw[e2] at hJ
    exact hJ
   ·rename_i n' it hrs ho
    obtain ⟨v,h11,_⟩:=hres True hrs trivial
    obtain ⟨_,_,_,hn',_,_,hJ⟩:=h9.objs 0 _ (hget_some ho (by simp))
    refine ⟨v,h11,⟨v,rfl⟩,fun b=>w.heap.size≤b∧b<w2.heap.size∧¬(loc' 0).al b,.inr ?_⟩
    rw[hG] at hJ
    exact hJ
   ·exact he.elim
  cases e with
  | normal=>exact hend h1
  | ret=>exact hend h1
  | _=>exact h1.elim
end
end Go.Eng
end
section
set_option linter.unusedVariables false
set_option linter.unusedVariables false
namespace Go.Eng
theorem wf_in {k:IntKind} {n:Int} (h:(Lit.int k n).wf=true):inK k n:=by
 cases k<;>simp[Lit.wf,IntKind.min,IntKind.max,IntKind.bits,IntKind.signed] at h<;>simp only[inK,lo,hi]<;>omega
theorem rel_int {E:Env} {k:IntKind} {n:Int} (h:(Lit.int k n).wf=true):Rel E (.val (.int k n)) (.int k n):=.val _ (wf_in h)
theorem rel_bool {E:Env} (b:Bool):Rel E (.val (.bool b)) (.bool b):=.val _ trivial
theorem weightsAll_mem {H:Type} {P:Program} {e:TypeId}:∀ {l:List (DataW H)} {d:DataW H},d∈l→∀n∈d.weights P e,n∈DataW.weightsAll P e l
 | [],_,h,_,_=>by cases h
 | x::l,d,h,n,hn=>by
  simp only[DataW.weightsAll,List.mem_append]
  rcases List.mem_cons.1 h with rfl | h
  ·exact .inl hn
  ·exact .inr (weightsAll_mem h n hn)
def okTy (P:Program):Nat→TypeId→Bool
 | 0,_=>false
 | n+1,t=>match P.underlying t with
  | some (.int _)=>true
  | some .bool=>true
  | some .string=>true
  | some (.slice e)=>(match tyOf P n e with
   | some ty=>Nat.beq (P.cellsOf e) ty.size&&(Nat.blt 0 ty.size&&(Nat.blt 0 (P.bytesOf e)&&okTy P n e))
   | none=>false)
  | some (.struct fs)=>okF P n fs.toList 0&&(match tyOf.flds P n fs.toList with
   | some ty=>Nat.beq (P.cellsOf t) ty.size
   | none=>false)
  | _=>false
where okF (P:Program):Nat→List Field→Nat→Bool
 | 0,_,_=>false
 | _+1,[],_=>false
 | n+1,f::r,o=>Nat.beq f.offset o&&((match tyOf P n f.type with
   | some ty=>Nat.beq (P.cellsOf f.type) ty.size
   | none=>false)&&(okTy P n f.type&&(match r with
    | []=>true
    | g::r=>okF P n (g::r) (o+P.cellsOf f.type))))
theorem addr_add (b o k:Nat):(⟨b,o,none⟩:Addr).add k= ⟨b,o+k,none⟩:=by unfold Addr.add;split<;>simp_all
section
variable {H:Type} {enc:TypeId × Value→H} {P:Program} {w:World} {base:Nat} {spare:Nat→Bool} {held:Bool}
def RD (H:Type) (enc:TypeId × Value→H) (P:Program) (w:World) (base:Nat) (spare:Nat→Bool) (held:Bool) (n:Nat):Prop:=∀(t:TypeId) (ty:Ty),tyOf P n t=some ty→okTy P n t=true→∀(fuel:Nat) (cs:List Value) (x:DataW H × List MemPlace),
 DataW.trod enc P w base spare held fuel t cs=some x→(∀m∈x.1.weights P t,m≤reachBytes)→∃v:ty.T,Reads w (fun b=>b<w.heap.size) ty v cs
theorem fields_read (n:Nat) (ih:∀k,k<n→RD H enc P w base spare held k):∀(k:Nat),k≤n→∀(l:List Field) (o:Nat) (ty:Ty),tyOf.flds P k l=some ty→okTy.okF P k l o=true→∀(fuel:Nat) (cs:List Value) (ys:List (DataW H × List MemPlace)),
  (∀(i:Nat) (f:Field),l[i]? =some f→∃y,ys[i]? =some y∧DataW.trod enc P w base spare held fuel f.type ((cs.drop f.offset).take (P.cellsOf f.type))=some y∧∀m∈y.1.weights P f.type,m≤reachBytes)→
  ∃v:ty.T,Reads w (fun b=>b<w.heap.size) ty v ((cs.drop o).take ty.size)
 | 0,_,l,o,ty,h1,_,_,_,_,_=>by cases l<;>simp[tyOf.flds] at h1
 | k+1,hk,[],o,ty,h1,_,_,_,_,_=>by simp[tyOf.flds] at h1
 | k+1,hk,[f],o,ty,h1,h2,fuel,cs,ys,h3=>by
  simp only[tyOf.flds] at h1
  simp only[okTy.okF,h1,Bool.and_eq_true,beq_iff] at h2
  obtain ⟨rfl,e2,e3,_⟩:=h2
  obtain ⟨y,_,h4,h5⟩:=h3 0 f rfl
  rw[← e2]
  exact ih k (by omega) _ _ h1 e3 fuel _ y h4 h5
 | k+1,hk,f::g::r,o,ty,h1,h2,fuel,cs,ys,h3=>by
  simp only[tyOf.flds] at h1
  split at h1
  ·rename_i a b ha hb
   cases h1
   simp only[okTy.okF,ha,Bool.and_eq_true,beq_iff] at h2
   obtain ⟨rfl,e2,e3,e4⟩:=h2
   obtain ⟨y,_,h4,h5⟩:=h3 0 f rfl
   obtain ⟨v1,hv1⟩:=ih k (by omega) _ _ ha e3 fuel _ y h4 h5
   obtain ⟨v2,hv2⟩:=fields_read n ih k (by omega) (g::r) (f.offset+P.cellsOf f.type) b hb e4 fuel cs ys.tail (fun i f' hf=>by
    obtain ⟨y,q1,q2⟩:=h3 (i+1) f' (by simpa using hf)
    exact ⟨y,by rw[List.getElem?_tail];exact q1,q2⟩)
   rw[e2] at hv1 hv2
   refine ⟨(v1,v2),(cs.drop f.offset).take a.size,(cs.drop (f.offset+a.size)).take b.size,?_,hv1,hv2⟩
   simp only[Ty.size]
   rw[List.take_add,List.drop_drop]
  ·cases h1
theorem all_read:∀n,RD H enc P w base spare held n
 | 0=>fun t ty h=>by simp[tyOf] at h
 | n+1=>by
  have ih:∀k,k<n+1→RD H enc P w base spare held k:=fun k hk=>all_read k
  intro t ty h1 h2 fuel cs x h3 h4
  simp only[tyOf] at h1
  simp only[okTy] at h2
  split at h1
  ·rename_i k hu
   cases h1
   obtain ⟨m,rfl,_,hw⟩:=DataW.trod_int hu h3
   exact ⟨m,rfl,wf_in hw⟩
  ·rename_i hu
   cases h1
   obtain ⟨b,rfl,_⟩:=DataW.trod_bool hu h3
   exact ⟨b,rfl⟩
  ·rename_i hu
   cases h1
   obtain ⟨s,rfl,rfl,_⟩:=DataW.trod_string hu h3
   refine ⟨s.data.toList,by simp,?_⟩
   have:=h4 s.data.toList.length (by simp[DataW.weights])
   exact Nat.le_trans this (by decide)
  ·rename_i e hu
   rw[hu] at h2
   simp only at h2
   cases hE:tyOf P n e with
   | none=>rw[hE] at h1;simp at h1
   | some te=>
   rw[hE] at h1 h2
   simp only[Option.map_some,Option.some.injEq] at h1
   subst h1
   simp only[Bool.and_eq_true,beq_iff] at h2
   obtain ⟨e1,e2,e3,e4⟩:=h2
   have e2:0<te.size:=by simpa using e2
   have e3:0<P.bytesOf e:=by simpa using e3
   rcases DataW.trod_slice hu h3 with ⟨rfl,_⟩ | ⟨a,len,cap,elems,rest,m,rfl,rfl,rfl,hb,hl,hm,hlen,hel,hsp,hns⟩
   ·exact ⟨([]:List te.T),reads_nil _ _ _⟩
   ·have hbig:=h4 ((elems.length+rest.length)*P.bytesOf e) (by simp[DataW.weights,hu])
    have hlen':len≤maxL:=by
     have h5:elems.length+rest.length≤(elems.length+rest.length)*P.bytesOf e:=Nat.le_mul_of_pos_right _ e3
     have h6:reachBytes≤maxL:=by decide
     omega
    have each:∀i:Nat,∃v:te.T,i<len→∃es,w.cells? base (a.add (i*P.cellsOf e)) (P.cellsOf e)=some es∧Reads w (fun b=>b<w.heap.size) te v es:=by
     intro i
     by_cases hi:i<len
     ·have h5:=hel i hi
      obtain ⟨y,hy⟩:∃y,elems[i]? =some y:=⟨elems[i]'(by omega),by simp[hlen,hi]⟩
      rw[hy] at h5
      cases hc:w.cells? base (a.add (i*P.cellsOf e)) (P.cellsOf e) with
      | none=>rw[hc] at h5;simp at h5
      | some es=>
       rw[hc] at h5
       simp only[Option.bind_some] at h5
       obtain ⟨v,hv⟩:=ih n (Nat.lt_succ_self n) e te hE e4 m es y h5 (fun q hq=>h4 q (by
        simp only[DataW.weights,hu,List.mem_cons,List.mem_append]
        exact .inr (.inl (weightsAll_mem (List.mem_map.2 ⟨y,List.mem_of_getElem? hy,rfl⟩) q hq))))
       exact ⟨v,fun _=>⟨es,rfl,hv⟩⟩
     ·exact ⟨te.dflt,fun h=>absurd h hi⟩
    refine ⟨(List.range len).map fun i=>(each i).choose,some a,len,cap,rfl,by simp,hl,hlen',fun h0=>?_⟩
    obtain ⟨es0,hc0,hr0⟩:=(each 0).choose_spec h0
    have hlt:a.block<w.heap.size:=by
     have:=World.cells?_block hc0 (by omega)
     simpa [Addr.add] using this
    have hspot:a.spot=none:=by
     obtain ⟨_,_,hg⟩:=World.cells?_some hc0
     have h6:=hg 0 (by omega)
     obtain ⟨v0,hv0⟩:∃v0,es0[0]? =some v0:=by
      cases es0 with
      | nil=>have:=hr0.length;simp at this;omega
      | cons v _=>exact ⟨v,rfl⟩
     rw[hv0] at h6
     have:=World.cell?_spot h6
     simpa [Addr.add] using this
    obtain ⟨b,off,spot⟩:=a
    simp only at hspot hlt
    subst hspot
    refine ⟨b,off,rfl,hlt,fun i hi=>?_⟩
    obtain ⟨es,hc,hr⟩:=(each i).choose_spec hi
    obtain ⟨_,hlen2,hg⟩:=World.cells?_some hc
    refine ⟨es,by rw[hr.length],fun j v hj=>?_,?_⟩
    ·have hj':j<es.length:=(List.getElem?_eq_some_iff.1 hj).1
     have h6:=hg j (by omega)
     rw[hj] at h6
     rw[addr_add,addr_add] at h6
     rw[← e1]
     exact h6
    ·have:List.getD (α:=te.T) ((List.range len).map fun i=>(each i).choose) i te.dflt=(each i).choose:=by
      simp[List.getD_eq_getElem?_getD,hi]
     rw[this];exact hr
  ·rename_i fs hu
   rw[hu] at h2
   simp only[Bool.and_eq_true] at h2
   obtain ⟨e1,e2⟩:=h2
   rw[h1] at e2
   have e2:=beq_iff.1 e2
   obtain ⟨xs,m,rfl,rfl,hlen,hxl,hall⟩:=DataW.trod_struct hu h3
   obtain ⟨v,hv⟩:=fields_read n (fun k hk=>ih k (by omega)) n (Nat.le_refl _) fs.toList 0 ty h1 e1 m cs xs (fun i f hf=>by
    have hf':fs[i]? =some f:=by simpa using hf
    have h5:=hall i f hf'
    have hi:i<xs.length:=by rw[hxl];exact (Array.getElem?_eq_some_iff.1 hf').1
    refine ⟨xs[i],by simp[hi],by rw[h5];simp[hi],fun q hq=>h4 q ?_⟩
    simp only[DataW.weights,hu]
    exact DataW.weights_mem_each (j:=i) (t:=f.type) (d:=xs[i].1) (by simp[hf']) (by simp[hi]) q hq)
   refine ⟨v,?_⟩
   rw[List.drop_zero,List.take_of_length_le (by omega)] at hv
   exact hv
  ·cases h1
end
def Okd:(t:Ty)→t.T→Prop
 | .int k,n=>inK k n
 | .bool,_=>True
 | .str,s=>List.length (α:=UInt8) s≤maxL
 | .pair a b,x=>Okd a x.1∧Okd b x.2
 | .slice t,xs=>List.length (α:=t.T) xs≤maxL∧∀i,i<List.length (α:=t.T) xs→Okd t (List.getD (α:=t.T) xs i t.dflt)
theorem Reads.okd {w:World} {ok:Nat→Prop} {t:Ty} {x:t.T} {cs:List Value} (h:Reads w ok t x cs):Okd t x:=by
 induction t generalizing cs with
 | int k=>exact h.2
 | bool=>trivial
 | str=>exact h.2
 | pair a b iha ihb=>obtain ⟨c1,c2,rfl,h1,h2⟩:=h;exact ⟨iha h1,ihb h2⟩
 | slice t ih=>
  obtain ⟨a,n,c,rfl,hn,_,hm,hall⟩:=h
  have hn':n=List.length (α:=t.T) x:=hn
  refine ⟨by omega,fun i hi=>?_⟩
  obtain ⟨b,off,_,_,hel⟩:=hall (by omega)
  obtain ⟨es,_,_,hr⟩:=hel i (by omega)
  exact ih hr
section
variable {H:Type} {enc:TypeId × Value→H} {P:Program} {w:World} {base b0:Nat} {spare:Nat→Bool} {held:Bool} {r:Reach} {t:TypeId} {v:Value} {d:DataW H} {ps:List MemPlace}
theorem arg_int {k:IntKind} (ht:P.underlying t=some (.int k)) (hval:Value.okWide P w r b0 t v) (hd:DataW.Trod enc P w base spare held t v d ps):∃n:Int,inK k n∧Rel (env0 w fun b=>b<w.heap.size) (.val (.int k n)) v:=by
 obtain ⟨n,rfl,_,_,hw⟩:=ChangeShapes.open_int ht hval hd
 exact ⟨n,wf_in hw,rel_int hw⟩
theorem arg_bool (ht:P.underlying t=some .bool) (hval:Value.okWide P w r b0 t v) (hd:DataW.Trod enc P w base spare held t v d ps):∃b:Bool,Rel (env0 w fun b=>b<w.heap.size) (.val (.bool b)) v:=by
 obtain ⟨b,rfl,_⟩:=RowKit.open_bool ht hval hd
 exact ⟨b,rel_bool b⟩
theorem arg_str (ht:P.underlying t=some .string) (hval:Value.okWide P w r b0 t v) (hd:DataW.Trod enc P w base spare held t v d ps) (hw:∀m∈d.weights P t,m≤reachBytes):∃s:List UInt8,s.length≤maxL∧Rel (env0 w fun b=>b<w.heap.size) (.str s) v:=by
 obtain ⟨s,rfl,rfl,_,hs⟩:=ChangeMaps.open_string ht hval hd
 have h1:s.data.toList.length≤maxL:=Nat.le_trans (hw s.data.toList.length (by simp[DataW.weights])) (by decide)
 refine ⟨s.data.toList,h1,?_⟩
 have:=Rel.str (E:=env0 w fun b=>b<w.heap.size) s.data.toList h1
 simpa using this
theorem arg_slice {e:TypeId} {n:Nat} {ty:Ty} (ht:P.underlying t=some (.slice e)) (hval:Value.okWide P w r b0 t v) (hd:DataW.Trod enc P w base spare held t v d ps) (h1:tyOf P n t=some (.slice ty)) (h2:okTy P n t=true)
  (hw:∀m∈d.weights P t,m≤reachBytes):∃xs:List ty.T,Okd (.slice ty) xs∧Rel (env0 w fun b=>b<w.heap.size) (.seq ty xs) v:=by
 obtain ⟨a,len,cap,rfl⟩:=WideShapes.okWide_slice ht hval
 obtain ⟨fuel,hf⟩:=hd
 obtain ⟨xs,hx⟩:=all_read n t _ h1 h2 fuel _ _ hf hw
 refine ⟨xs,hx.okd,.seq _ _ _ ?_⟩
 have e:(Value.slice a len cap).cells.toList= [.slice a len cap]:=by simp[Value.cells]
 rw[e] at hx
 exact hx
theorem weight_of {ts:List TypeId} {ds:List (DataW H)} (h:(DataW.weightsEach P ts ds).all (· ≤reachBytes)=true) (j:Nat) (ht:ts[j]? =some t) (hd:ds[j]? =some d):∀m∈d.weights P t,m≤reachBytes:=
 fun m hm=>by simpa using List.all_eq_true.1 h m (DataW.weights_mem_each ht hd m hm)
end
open Go.RowKit in
theorem law_calls {P:Program} {fresh:Bool} {f:FuncId} {args:List SV} (h:Tri P fresh f args (.val (.bool true))) (w:World) (vs:List Value) (hgw:GW P (fun b=>b<w.heap.size) w) (hr:RelL (env0 w fun b=>b<w.heap.size) args vs):
  Calls P f ⟨vs⟩ w fun e w'=>e= .returned (.bool true)∧Below w.heap.size w w':=by
 refine (h (fun b=>b<w.heap.size) w vs hgw (fun _ h=>h) hr).mono ?_
 rintro e w' ⟨v,rfl,hb,hv⟩
 cases hv
 exact ⟨rfl,hb⟩
end Go.Eng
end
section
set_option linter.unusedVariables false
set_option linter.unusedVariables false
set_option linter.unusedSimpArgs false
namespace Go.Eng
open Go.RowKit
def plainC:SV→Bool
 | .seq _ _=>true
 | s=>plain s
def plainCs:List SV→Bool
 | []=>true
 | x::r=>plainC x&&plainCs r
theorem Rel.plainC {E E':Env} (hw:E'.w=E.w) (hok:∀b,E.ok b→E'.ok b) {s:SV} {v:Value} (h:Rel E s v) (hp:Eng.plainC s=true):Rel E' s v:=by
 cases s with
 | seq t xs=>
  cases h with
  | seq _ _ _ h=>exact .seq t xs v (by rw[hw];exact h.mono (fun _ _ _ h=>h) hok)
 | _=>exact h.plain hp
theorem RelL.plainC {E E':Env} (hw:E'.w=E.w) (hok:∀b,E.ok b→E'.ok b):∀ {l:List SV} {vs:List Value},RelL E l vs→plainCs l=true→RelL E' l vs
 | _,_,.nil,_=>.nil
 | _,_,.cons s v l vs h hl,hp=>by
  simp only[plainCs,Bool.and_eq_true] at hp
  exact .cons s v l vs (h.plainC hw hok hp.1) (RelL.plainC hw hok hl hp.2)
section
variable {P:Program}
theorem cell_frame {f:FuncId} {e0 e1:Int} {t:TypeId} {args:List SV} {r:SV} (hp:plainCs args=true) (hr:plain r=true)
  (h:HTri P f (.ptr 0 0::args) [.cells [.val (.int .i64 e0)] t] (fun s H'=>s=r∧H'= [.cells [.val (.int .i64 e1)] t]))
  {H:List HO} {nm:Nat} (hn:H[nm]? =some (.cells [.val (.int .i64 e0)] t)):
  HTri P f (.ptr nm 0::args) H (fun s H'=>s=r∧H'=hset H nm (.cells [.val (.int .i64 e1)] t)):=by
 intro G loc ver w vs hY hI hrel
 have hlt:nm<H.length:=(List.getElem?_eq_some_iff.1 hn).1
 obtain ⟨hv,b,cs,hb,hheap,hcs⟩:=hI.objs nm _ hn
 cases hrel with
 | cons _ v0 _ vs hp0 hrel=>
 cases hp0 with
 | ptr _ _ _ hhas hptr=>
 obtain ⟨b',hb',hv0⟩:=hptr hv
 have hob:Owned H loc b:=⟨nm,_,hn,by show (loc nm).blk.map (·.1)=some b;rw[hb];rfl⟩
 let G':Ctx:=⟨w,okN G H loc w,fun c=>(loc nm).blk.map (·.1)=some c,fun c hc hm=>hc.2.2 ⟨nm,_,hn,hm⟩,fun c hc=>hc.2.1,G.itr,Nat.le_trans G.low hI.size⟩
 have hI':Inv G' [.cells [.val (.int .i64 e0)] t] (fun _=>loc nm) (fun _=>ver nm) w:=by
  refine ⟨Nat.le_refl _,rfl,rfl,rfl,fun _ _ _=>rfl,fun k o hk=>?_,fun c hc=>?_,fun k k' o o' c hk hk' _ _=>?_⟩
  ·have:k=0:=by have:=(List.getElem?_eq_some_iff.1 hk).1;simp at this;exact this
   subst this
   simp only[List.getElem?_cons_zero,Option.some.injEq] at hk
   subst hk
   exact ⟨hv,b,cs,hb,hheap,hcs.plain rfl⟩
  ·obtain ⟨k,o,hk,ho⟩:=hc
   have:k=0:=by have:=(List.getElem?_eq_some_iff.1 hk).1;simp at this;exact this
   subst this
   simp only[List.getElem?_cons_zero,Option.some.injEq] at hk
   subst hk
   exact .inl ho
  ·have h1:=(List.getElem?_eq_some_iff.1 hk).1
   have h2:=(List.getElem?_eq_some_iff.1 hk').1
   simp at h1 h2
   rw[h1,h2]
 have hok:∀c,okN G H loc w c→okN G' [.cells [.val (.int .i64 e0)] t] (fun _=>loc nm) w c:=fun c hc=>⟨.inl hc,hc.2.1,by
  rintro ⟨k,o,hk,ho⟩
  have:k=0:=by have:=(List.getElem?_eq_some_iff.1 hk).1;simp at this;exact this
  subst this
  simp only[List.getElem?_cons_zero,Option.some.injEq] at hk
  subst hk
  exact hc.2.2 ⟨nm,_,hn,ho⟩⟩
 have hargs:RelL (envOf G' [.cells [.val (.int .i64 e0)] t] (fun _=>loc nm) (fun _=>ver nm) w) (.ptr 0 0::args) (v0::vs):=
  .cons _ _ _ _ (.ptr 0 0 v0 rfl fun _=>⟨b',hb',hv0⟩) (RelL.plainC (E:=envOf G H loc ver w) (E':=envOf G' [.cells [.val (.int .i64 e0)] t] (fun _=>loc nm) (fun _=>ver nm) w) rfl hok hrel hp)
 refine (h G' _ _ w _ ⟨hY.1,hY.now hI⟩ hI' hargs).mono ?_
 rintro e w' ⟨v,rfl,s,H1,loc1,ver1,⟨rfl,rfl⟩,hI1,hr1,hx1⟩
 refine ⟨v,rfl,s,hset H nm (.cells [.val (.int .i64 e1)] t),loc,ver,⟨rfl,rfl⟩,?_⟩
 have hcore:(loc1 0).toCore=(loc nm).toCore:=by
  rcases hx1.ver 0 rfl with h1 | h1
  ·exact h1.2
  ·have h2:0<ver nm:=h1.1
   omega
 have hblk1:(loc1 0).blk=(loc nm).blk:=congrArg Core.blk hcore
 obtain ⟨_,c,cs1,hc,hheap1,hcs1⟩:=hI1.objs 0 _ rfl
 have key:=hI.turn (H':=H.set nm (.cells [.val (.int .i64 e1)] t)) (loc':=loc) (ver':=ver) (w':=w') nm (by simp) (fun k hk=>⟨get_set_other hk,rfl,rfl⟩) (fun _=>hasB_of (get_set_same hlt) rfl) (fun _=>.inl ⟨rfl,rfl,.inl rfl⟩)
  hI1.size hI1.os hI1.tape hI1.output (by rw[hn];intro h;cases h) (fun _=>by rw[get_set_same hlt];intro h;cases h) (fun st n it b h=>by rw[get_set_same hlt] at h;cases h)
  (fun d hd hno=>hI1.frame d hd fun hm=>hno _ hn hm) (fun o' d ho' hd=>by
   rw[get_set_same hlt] at ho';cases ho'
   exact .inl ⟨_,hn,hd⟩) (fun _ o' ho'=>by
   rw[get_set_same hlt] at ho';cases ho'
   exact ⟨hv,c,cs1,by rw[← hblk1];exact hc,hheap1,hcs1.plain rfl⟩)
 exact ⟨key.1,hr1.plain hr,key.2⟩
def celCon (f:FuncId) (t:TypeId) (cl:List SV→Int→(SV→Int→Prop)→Prop):Con:=hpCon f fun args H K=>match args with
 | .ptr nm 0::r=>(match hget H nm with
  | .cells [.val (.int .i64 e0)] t'=>bif Nat.beq t' t&&plainCs r then cl r e0 fun s e1=>K s (hset H nm (.cells [.val (.int .i64 e1)] t)) else False
  | _=>False)
 | _=>False
theorem celOK_of {f:FuncId} {t:TypeId} {cl:List SV→Int→(SV→Int→Prop)→Prop} (he:Enters P f)
  (h:∀r e0 K,cl r e0 K→∃s e1,K s e1∧plain s=true∧HTri P f (.ptr 0 0::r) [.cells [.val (.int .i64 e0)] t] (fun s' H'=>s'=s∧H'= [.cells [.val (.int .i64 e1)] t])):ConOK P (celCon f t cl):=by
 refine hpOK_of he ?_
 intro args H K hk
 split at hk
 ·rename_i nm r
  split at hk
  ·rename_i e0 t' hg
   obtain ⟨hb,hk⟩:=bif_true hk
   rw[Bool.and_eq_true] at hb
   obtain rfl:=beq_iff.1 hb.1
   obtain ⟨s,e1,h1,h2,h3⟩:=h _ _ _ hk
   refine ⟨_,?_,cell_frame hb.2 h2 h3 (hget_some hg (by intro h;cases h))⟩
   rintro s' H' ⟨rfl,rfl⟩
   exact h1
  ·exact hk.elim
 ·exact hk.elim
end
end Go.Eng
end
section
set_option linter.unusedVariables false
set_option linter.unusedVariables false
namespace Go.Eng
section
variable {H:Type} {enc:TypeId × Value→H} {P:Program} {w:World} {base b0:Nat} {spare:Nat→Bool} {held:Bool} {r:Reach} {t:TypeId} {v:Value} {d:DataW H} {ps:List MemPlace}
theorem arg_struct {fs:Array Field} {n:Nat} {ty:Ty} (ht:P.underlying t=some (.struct fs)) (hval:Value.okWide P w r b0 t v) (hd:DataW.Trod enc P w base spare held t v d ps) (h1:tyOf P n t=some ty) (h2:okTy P n t=true)
  (hw:∀m∈d.weights P t,m≤reachBytes):∃x:ty.T,Okd ty x∧∃cs,v= .agg ⟨cs⟩∧Reads w (fun b=>b<w.heap.size) ty x cs:=by
 obtain ⟨cs,rfl,_⟩:=WideShapes.okWide_struct ht hval
 obtain ⟨fuel,hf⟩:=hd
 obtain ⟨x,hx⟩:=all_read n t _ h1 h2 fuel _ _ hf hw
 refine ⟨x,hx.okd,cs.toList,rfl,?_⟩
 have e:(Value.agg cs).cells.toList=cs.toList:=by simp[Value.cells]
 rw[e] at hx
 exact hx
theorem agg_str2 {ok:Nat→Prop} {x:List UInt8 × List UInt8} {cs:List Value} (h:Reads w ok (.pair .str .str) x cs):Rel (env0 w ok) (.agg [.str x.1,.str x.2]) (.agg ⟨cs⟩):=by
 obtain ⟨c1,c2,rfl,⟨rfl,l1⟩,⟨rfl,l2⟩⟩:=h
 exact .agg _ _ (.cons _ _ _ _ (.str _ l1) (.cons _ _ _ _ (.str _ l2) .nil))
theorem agg_str3 {ok:Nat→Prop} {x:List UInt8 × List UInt8 × List UInt8} {cs:List Value} (h:Reads w ok (.pair .str (.pair .str .str)) x cs):Rel (env0 w ok) (.agg [.str x.1,.str x.2.1,.str x.2.2]) (.agg ⟨cs⟩):=by
 obtain ⟨c1,c2,rfl,⟨rfl,l1⟩,⟨c3,c4,rfl,⟨rfl,l2⟩,⟨rfl,l3⟩⟩⟩:=h
 exact .agg _ _ (.cons _ _ _ _ (.str _ l1) (.cons _ _ _ _ (.str _ l2) (.cons _ _ _ _ (.str _ l3) .nil)))
end
end Go.Eng
end
section
set_option linter.unusedVariables false
set_option linter.unusedVariables false
namespace IB
def valB (B:Nat):List Int→Int
 | []=>0
 | x::r=>x+B*valB B r
def InB (B:Nat) (l:List Int):Prop:=∀x∈l,0≤x∧x<B
theorem InB.nil {B:Nat}:InB B []:=fun x h=>by simp at h
theorem InB.cons {B:Nat} {x:Int} {l:List Int}:InB B (x::l)↔(0≤x∧x<B)∧InB B l:=by
 unfold InB;simp
theorem InB.append {B:Nat} {l m:List Int}:InB B (l++m)↔InB B l∧InB B m:=by
 unfold InB
 constructor
 ·intro h;exact ⟨fun x hx=>h x (List.mem_append_left _ hx),fun x hx=>h x (List.mem_append_right _ hx)⟩
 ·rintro ⟨h1,h2⟩ x hx
  rcases List.mem_append.1 hx with h | h
  ·exact h1 x h
  ·exact h2 x h
theorem InB.get {B:Nat} {l:List Int} (h:InB B l) {i:Nat} (hi:i<l.length):0≤l.getD i 0∧l.getD i 0<B:=by
 have e:l.getD i 0=l[i]:=by simp[List.getD_eq_getElem?_getD,hi]
 rw[e];exact h _ (List.getElem_mem hi)
theorem InB.getD0 {B:Nat} (hB:0<B) {l:List Int} (h:InB B l) (i:Nat):0≤l.getD i 0∧l.getD i 0<B:=by
 by_cases hi:i<l.length
 ·exact h.get hi
 ·have e:l.getD i 0=0:=by rw[List.getD_eq_getElem?_getD,List.getElem?_eq_none (by omega)];rfl
  rw[e];omega
theorem val_nonneg {B:Nat}:∀ {l:List Int},InB B l→0≤valB B l
 | [],_=>Int.le_refl _
 | x::r,h=>by
  obtain ⟨h1,h2⟩:=InB.cons.1 h
  have:=val_nonneg h2
  have:0≤(B:Int)*valB B r:=Int.mul_nonneg (by omega) this
  simp only[valB];omega
theorem val_lt {B:Nat}:∀ {l:List Int},InB B l→valB B l<(B:Int)^l.length
 | [],_=>by simp[valB]
 | x::r,h=>by
  obtain ⟨h1,h2⟩:=InB.cons.1 h
  have h3:=val_lt h2
  have h4:(B:Int)*(valB B r+1)≤B*B^r.length:=Int.mul_le_mul_of_nonneg_left (by omega) (by omega)
  rw[Int.mul_add,Int.mul_one] at h4
  simp only[valB,List.length_cons]
  rw[Int.pow_succ,Int.mul_comm (_ ^ _)]
  omega
theorem val_append {B:Nat} (m:List Int):∀l:List Int,valB B (l++m)=valB B l+(B:Int)^l.length*valB B m
 | []=>by simp[valB]
 | x::r=>by
  simp only[List.cons_append,valB,List.length_cons]
  rw[val_append m r,Int.mul_add,Int.pow_succ,Int.mul_comm (_ ^ _) (B:Int),Int.mul_assoc]
  omega
theorem val_snoc {B:Nat} (l:List Int) (x:Int):valB B (l++ [x])=valB B l+(B:Int)^l.length*x:=by
 rw[val_append];simp[valB]
theorem val_zeros {B:Nat} (n:Nat):valB B (List.replicate n 0)=0:=by
 induction n with
 | zero=>rfl
 | succ n ih=>rw[List.replicate_succ];simp[valB,ih]
def limbs (B:Nat) (n:Nat):List Int:=if h:2≤B∧0<n then ((n%B:Nat):Int)::limbs B (n/B) else []
termination_by n
decreasing_by exact Nat.div_lt_self h.2 (by omega)
theorem limbs_zero (B:Nat):limbs B 0= []:=by rw[limbs,dif_neg (by omega)]
theorem limbs_pos {B n:Nat} (hB:2≤B) (hn:0<n):limbs B n=((n%B:Nat):Int)::limbs B (n/B):=by rw[limbs,dif_pos ⟨hB,hn⟩]
theorem limbs_in {B:Nat} (hB:2≤B):∀n:Nat,InB B (limbs B n):=by
 intro n
 induction n using Nat.strongRecOn with
 | _ n ih=>
  by_cases hn:0<n
  ·rw[limbs_pos hB hn,InB.cons]
   have:=Nat.mod_lt n (show 0<B by omega)
   exact ⟨⟨by omega,by omega⟩,ih _ (Nat.div_lt_self hn (by omega))⟩
  ·obtain rfl:n=0:=by omega
   rw[limbs_zero];exact InB.nil
theorem limbs_val {B:Nat} (hB:2≤B):∀n:Nat,valB B (limbs B n)=n:=by
 intro n
 induction n using Nat.strongRecOn with
 | _ n ih=>
  by_cases hn:0<n
  ·rw[limbs_pos hB hn]
   simp only[valB]
   rw[ih _ (Nat.div_lt_self hn (by omega))]
   have:=Nat.mod_add_div n B
   exact_mod_cast this
  ·obtain rfl:n=0:=by omega
   rw[limbs_zero];rfl
theorem limbs_nil {B n:Nat} (hB:2≤B):limbs B n= []↔n=0:=by
 constructor
 ·intro h
  have:=limbs_val hB n
  rw[h] at this
  simp[valB] at this
  omega
 ·rintro rfl;exact limbs_zero B
theorem limbs_eq {B:Nat} (hB:2≤B):∀ {l:List Int},InB B l→(∀h:l≠ [],l.getLast h≠0)→l=limbs B (valB B l).toNat
 | [],_,_=>by simp[valB,limbs_zero]
 | x::r,h,hl=>by
  obtain ⟨h1,h2⟩:=InB.cons.1 h
  obtain ⟨a,rfl⟩:=Int.eq_ofNat_of_zero_le h1.1
  have ha:a<B:=by omega
  have hv:=val_nonneg h2
  obtain ⟨b,hb⟩:=Int.eq_ofNat_of_zero_le hv
  have e:(valB B ((a:Int)::r)).toNat=a+B*b:=by
   simp only[valB];rw[hb]
   have:(a:Int)+(B:Int)*(b:Int)=((a+B*b:Nat):Int):=by simp
   show ((a:Int)+(B:Int)*(b:Int)).toNat= _
   rw[this];exact Int.toNat_natCast _
  rw[e]
  have hpos:0<a+B*b:=by
   cases r with
   | nil=>
    have:=hl (by simp)
    simp at this
    omega
   | cons y s=>
    have ih:=limbs_eq hB h2 (fun hne=>by have:=hl (by simp);simpa using this)
    have:b≠0:=fun h0=>by
     subst h0
     rw[hb] at ih
     rw[Int.toNat_natCast,limbs_zero] at ih;cases ih
    have:=Nat.mul_pos (show 0<B by omega) (Nat.pos_of_ne_zero this)
    omega
  rw[limbs_pos hB hpos]
  have e1:(a+B*b)%B=a:=by rw[Nat.add_mul_mod_self_left,Nat.mod_eq_of_lt ha]
  have e2:(a+B*b)/B=b:=by rw[Nat.add_mul_div_left _ _ (by omega),Nat.div_eq_of_lt ha,Nat.zero_add]
  rw[e1,e2]
  have ih:=limbs_eq hB h2 (fun hne=>by
   have:=hl (by simp)
   rw[List.getLast_cons hne] at this
   exact this)
  rw[hb] at ih
  rw[Int.toNat_natCast] at ih
  rw[← ih]
def trimL (l:List Int):List Int:=(l.reverse.dropWhile (· ==0)).reverse
theorem trim_snoc_zero (l:List Int):trimL (l++ [0])=trimL l:=by simp[trimL]
theorem trim_snoc (l:List Int) (x:Int) (h:x≠0):trimL (l++ [x])=l++ [x]:=by simp[trimL,h]
theorem list_snoc (P:List Int→Prop) (h0:P []) (h1:∀l x,P l→P (l++ [x])) (l:List Int):P l:=by
 have:∀n (l:List Int),l.length=n→P l:=by
  intro n
  induction n with
  | zero=>intro l hl;rw[List.length_eq_zero_iff.1 hl];exact h0
  | succ n ih=>
   intro l hl
   have hne:l≠ []:=fun e=>by rw[e] at hl;simp at hl
   rw[← List.dropLast_concat_getLast hne]
   exact h1 _ _ (ih _ (by simp[hl]))
 exact this _ l rfl
theorem trim_in {B:Nat} {l:List Int}:InB B l→InB B (trimL l):=by
 refine list_snoc (fun l=>InB B l→InB B (trimL l)) (fun h=>h) (fun l x ih h=>?_) l
 obtain ⟨h1,h2⟩:=InB.append.1 h
 by_cases e:x=0
 ·subst e;rw[trim_snoc_zero];exact ih h1
 ·rw[trim_snoc _ _ e];exact h
theorem trim_val {B:Nat} (l:List Int):valB B (trimL l)=valB B l:=by
 refine list_snoc (fun l=>valB B (trimL l)=valB B l) rfl (fun l x ih=>?_) l
 by_cases e:x=0
 ·subst e;rw[trim_snoc_zero,val_snoc,ih];simp
 ·rw[trim_snoc _ _ e]
theorem trim_last (l:List Int):∀h:trimL l≠ [],(trimL l).getLast h≠0:=by
 refine list_snoc (fun l=>∀h:trimL l≠ [],(trimL l).getLast h≠0) (fun h=>(h rfl).elim) (fun l x ih=>?_) l
 by_cases e:x=0
 ·subst e;simp only[trim_snoc_zero];exact ih
 ·intro h;simp only[trim_snoc _ _ e];simp[e]
theorem trim_limbs {B:Nat} (hB:2≤B) {l:List Int} (h:InB B l):trimL l=limbs B (valB B l).toNat:=by
 rw[← trim_val l]
 exact limbs_eq hB (trim_in h) (trim_last l)
theorem limbs_last {B:Nat} (hB:2≤B) (n:Nat):∀h:limbs B n≠ [],(limbs B n).getLast h≠0:=by
 have h1:=trim_limbs hB (limbs_in hB n)
 rw[limbs_val hB,Int.toNat_natCast] at h1
 rw[← h1];exact trim_last _
end IB
end
section
set_option linter.unusedVariables false
set_option linter.unusedVariables false
namespace IB
def valN (B:Nat) (l:List Int):Nat→Int
 | 0=>0
 | k+1=>valN B l k+(B:Int)^k*l.getD k 0
theorem valN_take (B:Nat) (l:List Int):∀k,k≤l.length→valN B l k=valB B (l.take k)
 | 0,_=>by simp[valN,valB]
 | k+1,h=>by
  have e:l.getD k 0=l[k]:=by simp[List.getD_eq_getElem?_getD,show k<l.length by omega]
  rw[valN,valN_take B l k (by omega),List.take_succ_eq_append_getElem (show k<l.length by omega),val_snoc,e,List.length_take,Nat.min_eq_left (by omega)]
theorem valN_all (B:Nat) (l:List Int):∀k,l.length≤k→valN B l k=valB B l
 | 0,h=>by
  have:l= []:=List.length_eq_zero_iff.1 (by omega)
  subst this;rfl
 | k+1,h=>by
  by_cases e:l.length=k+1
  ·rw[valN_take B l (k+1) (by omega),List.take_of_length_le (by omega)]
  ·have e2:l.getD k 0=0:=by rw[List.getD_eq_getElem?_getD,List.getElem?_eq_none (by omega)];rfl
   rw[valN,e2,valN_all B l k (by omega)];simp
def addK (B:Nat) (a b:List Int):Nat→List Int × Int
 | 0=>([],0)
 | k+1=>((addK B a b k).1++ [(a.getD k 0+b.getD k 0+(addK B a b k).2)%B],(a.getD k 0+b.getD k 0+(addK B a b k).2)/B)
def subK (B:Nat) (a b:List Int):Nat→List Int × Int
 | 0=>([],0)
 | k+1=>((subK B a b k).1++ [if 0≤a.getD k 0-b.getD k 0-(subK B a b k).2 then a.getD k 0-b.getD k 0-(subK B a b k).2 else a.getD k 0-b.getD k 0-(subK B a b k).2+B],
   if 0≤a.getD k 0-b.getD k 0-(subK B a b k).2 then 0 else 1)
theorem pow_pos' {B:Nat} (hB:2≤B) (k:Nat):0<(B:Int)^k:=Int.pow_pos (by omega)
theorem addK_spec {B:Nat} (hB:2≤B) {a b:List Int} (ha:InB B a) (hb:InB B b):∀k,(addK B a b k).1.length=k∧InB B (addK B a b k).1∧(0≤(addK B a b k).2∧(addK B a b k).2≤1)∧
  valB B (addK B a b k).1+(B:Int)^k*(addK B a b k).2=valN B a k+valN B b k
 | 0=>⟨rfl,InB.nil,by simp[addK],by simp[addK,valB,valN]⟩
 | k+1=>by
  obtain ⟨h1,h2,h3,h4⟩:=addK_spec hB ha hb k
  have g1:=ha.getD0 (by omega) k
  have g2:=hb.getD0 (by omega) k
  simp only[addK]
  generalize (addK B a b k).1=o at h1 h2 h4 ⊢
  generalize (addK B a b k).2=c at h3 h4 ⊢
  have hm:=Int.emod_nonneg (a.getD k 0+b.getD k 0+c) (show (B:Int)≠0 by omega)
  have hm2:=Int.emod_lt_of_pos (a.getD k 0+b.getD k 0+c) (show 0<(B:Int) by omega)
  have hd:=Int.emod_add_mul_ediv (a.getD k 0+b.getD k 0+c) B
  have hd0:0≤(a.getD k 0+b.getD k 0+c)/B:=Int.ediv_nonneg (by omega) (by omega)
  have hd1:(a.getD k 0+b.getD k 0+c)/B<2:=Int.ediv_lt_of_lt_mul (by omega) (by omega)
  refine ⟨by simp[h1],InB.append.2 ⟨h2,InB.cons.2 ⟨⟨hm,hm2⟩,InB.nil⟩⟩,⟨hd0,by omega⟩,?_⟩
  rw[val_snoc,h1,valN,valN,Int.pow_succ,Int.mul_assoc]
  have e:(B:Int)^k*((a.getD k 0+b.getD k 0+c)%B)+(B:Int)^k*((B:Int)*((a.getD k 0+b.getD k 0+c)/B))=(B:Int)^k*a.getD k 0+(B:Int)^k*b.getD k 0+(B:Int)^k*c:=by
   rw[← Int.mul_add,hd,Int.mul_add,Int.mul_add]
  omega
theorem subK_spec {B:Nat} (hB:2≤B) {a b:List Int} (ha:InB B a) (hb:InB B b):∀k,(subK B a b k).1.length=k∧InB B (subK B a b k).1∧(0≤(subK B a b k).2∧(subK B a b k).2≤1)∧
  valB B (subK B a b k).1-(B:Int)^k*(subK B a b k).2=valN B a k-valN B b k
 | 0=>⟨rfl,InB.nil,by simp[subK],by simp[subK,valB,valN]⟩
 | k+1=>by
  obtain ⟨h1,h2,h3,h4⟩:=subK_spec hB ha hb k
  have g1:=ha.getD0 (by omega) k
  have g2:=hb.getD0 (by omega) k
  simp only[subK]
  generalize (subK B a b k).1=o at h1 h2 h4 ⊢
  generalize (subK B a b k).2=c at h3 h4 ⊢
  by_cases hn:0≤a.getD k 0-b.getD k 0-c
  ·rw[if_pos hn,if_pos hn]
   refine ⟨by simp[h1],InB.append.2 ⟨h2,InB.cons.2 ⟨⟨hn,by omega⟩,InB.nil⟩⟩,by omega,?_⟩
   rw[val_snoc,h1,valN,valN,Int.mul_sub,Int.mul_sub]
   omega
  ·rw[if_neg hn,if_neg hn]
   refine ⟨by simp[h1],InB.append.2 ⟨h2,InB.cons.2 ⟨⟨by omega,by omega⟩,InB.nil⟩⟩,by omega,?_⟩
   rw[val_snoc,h1,valN,valN,Int.mul_add,Int.mul_sub,Int.mul_sub,Int.pow_succ]
   omega
theorem pow_mono {B:Nat} (hB:2≤B) {m n:Nat} (h:m≤n):(B:Int)^m≤(B:Int)^n:=by
 have:B^m≤B^n:=Nat.pow_le_pow_right (by omega) h
 exact_mod_cast this
theorem val_lt_pow {B:Nat} (hB:2≤B) {l:List Int} (h:InB B l) {n:Nat} (hn:l.length≤n):valB B l<(B:Int)^n:=Int.lt_of_lt_of_le (val_lt h) (pow_mono hB hn)
theorem addK_all {B:Nat} (hB:2≤B) {a b:List Int} (ha:InB B a) (hb:InB B b) {n:Nat} (h1:a.length≤n) (h2:b.length≤n):trimL (addK B a b (n+1)).1=limbs B (valB B a+valB B b).toNat:=by
 obtain ⟨l1,l2,l3,l4⟩:=addK_spec hB ha hb (n+1)
 rw[valN_all _ _ _ (by omega),valN_all _ _ _ (by omega)] at l4
 have v1:=val_lt_pow hB ha h1
 have v2:=val_lt_pow hB hb h2
 have v3:=val_nonneg l2
 have hc:(addK B a b (n+1)).2=0:=by
  by_cases e:(addK B a b (n+1)).2=0
  ·exact e
  ·have e1:(addK B a b (n+1)).2=1:=by omega
   rw[e1,Int.mul_one,Int.pow_succ] at l4
   have:(B:Int)^n*2≤(B:Int)^n*B:=Int.mul_le_mul_of_nonneg_left (by omega) (Int.le_of_lt (pow_pos' hB n))
   omega
 rw[hc,Int.mul_zero,Int.add_zero] at l4
 rw[trim_limbs hB l2,l4]
theorem subK_all {B:Nat} (hB:2≤B) {a b:List Int} (ha:InB B a) (hb:InB B b) {n:Nat} (h1:a.length≤n) (h2:b.length≤n) (hle:valB B b≤valB B a):trimL (subK B a b n).1=limbs B (valB B a-valB B b).toNat∧(subK B a b n).2=0:=by
 obtain ⟨l1,l2,l3,l4⟩:=subK_spec hB ha hb n
 rw[valN_all _ _ _ h1,valN_all _ _ _ h2] at l4
 have v3:=val_lt l2
 rw[l1] at v3
 have hc:(subK B a b n).2=0:=by
  by_cases e:(subK B a b n).2=0
  ·exact e
  ·have e1:(subK B a b n).2=1:=by omega
   rw[e1,Int.mul_one] at l4
   omega
 rw[hc,Int.mul_zero,Int.sub_zero] at l4
 exact ⟨by rw[trim_limbs hB l2,l4],hc⟩
end IB
end
section
set_option linter.unusedVariables false
set_option linter.unusedVariables false
namespace IB
theorem val_set {B:Nat} (y:Int):∀(l:List Int) (j:Nat),j<l.length→valB B (l.set j y)=valB B l+(B:Int)^j*(y-l.getD j 0)
 | [],j,h=>by simp at h
 | x::r,0,h=>by simp only[List.set_cons_zero,valB,List.getD_cons_zero,Int.pow_zero,Int.one_mul];omega
 | x::r,j+1,h=>by
  simp only[List.set_cons_succ,valB,List.getD_cons_succ]
  rw[val_set y r j (by simpa using h),Int.mul_add,Int.pow_succ,Int.mul_comm (_ ^ _) (B:Int),Int.mul_assoc]
  omega
theorem getD_set (l:List Int) (k:Nat) (x:Int) (h:k<l.length) (i:Nat):(l.set k x).getD i 0=if i=k then x else l.getD i 0:=by
 rw[List.getD_eq_getElem?_getD,List.getElem?_set]
 by_cases e:i=k
 ·subst e;simp[h]
 ·rw[if_neg (fun e'=>e e'.symm),if_neg e,List.getD_eq_getElem?_getD]
theorem in_set {B:Nat} {l:List Int} (h:InB B l) (k:Nat) {x:Int} (hx:0≤x∧x<B):InB B (l.set k x):=fun y hy=>by
 rcases List.mem_or_eq_of_mem_set hy with h1 | h1
 ·exact h y h1
 ·rw[h1];exact hx
theorem getD_out (l:List Int) (i:Nat) (h:l.length≤i):l.getD i 0=0:=by rw[List.getD_eq_getElem?_getD,List.getElem?_eq_none h];rfl
def mulK (B:Nat) (x:Int) (b:List Int) (i:Nat) (out:List Int):Nat→List Int × Int
 | 0=>(out,0)
 | k+1=>((mulK B x b i out k).1.set (i+k) (((mulK B x b i out k).1.getD (i+k) 0+x*b.getD k 0+(mulK B x b i out k).2)%B),((mulK B x b i out k).1.getD (i+k) 0+x*b.getD k 0+(mulK B x b i out k).2)/B)
def mulR (B:Nat) (a b out:List Int):Nat→List Int
 | 0=>out
 | i+1=>(mulK B (a.getD i 0) b i (mulR B a b out i) (b.length+1)).1
theorem mulK_spec {B:Nat} (hB:2≤B) {x:Int} (hx:0≤x∧x<B) {b:List Int} (hb:InB B b) {i:Nat} {out:List Int} (ho:InB B out):∀k,i+k≤out.length→(mulK B x b i out k).1.length=out.length∧InB B (mulK B x b i out k).1∧
  (0≤(mulK B x b i out k).2∧(mulK B x b i out k).2<B)∧valB B (mulK B x b i out k).1+(B:Int)^ (i+k)*(mulK B x b i out k).2=valB B out+(B:Int)^i*(x*valN B b k)∧
  (∀j,i+k≤j→(mulK B x b i out k).1.getD j 0=out.getD j 0)∧∀j,j<i→(mulK B x b i out k).1.getD j 0=out.getD j 0
 | 0,_=>⟨rfl,ho,by simp only[mulK];omega,by simp[mulK,valN],fun _ _=>rfl,fun _ _=>rfl⟩
 | k+1,hk=>by
  obtain ⟨h1,h2,h3,h4,h5,h6⟩:=mulK_spec hB hx hb (i:=i) ho k (by omega)
  have g1:=hb.getD0 (by omega) k
  have g2:=h2.getD0 (by omega) (i+k)
  simp only[mulK]
  generalize (mulK B x b i out k).1=o at h1 h2 h4 h5 h6 g2 ⊢
  generalize (mulK B x b i out k).2=c at h3 h4 ⊢
  have hp0:0≤x*b.getD k 0:=Int.mul_nonneg hx.1 g1.1
  have hp1:x*b.getD k 0≤((B:Int)-1)*((B:Int)-1):=Int.mul_le_mul (by omega) (by omega) g1.1 (by omega)
  have hsq:((B:Int)-1)*((B:Int)-1)=(B:Int)*B-B-B+1:=by rw[Int.sub_mul,Int.mul_sub,Int.mul_one,Int.one_mul];omega
  rw[hsq] at hp1
  have hm:=Int.emod_nonneg (o.getD (i+k) 0+x*b.getD k 0+c) (show (B:Int)≠0 by omega)
  have hm2:=Int.emod_lt_of_pos (o.getD (i+k) 0+x*b.getD k 0+c) (show 0<(B:Int) by omega)
  have hd:=Int.emod_add_mul_ediv (o.getD (i+k) 0+x*b.getD k 0+c) B
  have hd0:0≤(o.getD (i+k) 0+x*b.getD k 0+c)/B:=Int.ediv_nonneg (by omega) (by omega)
  have hd1:(o.getD (i+k) 0+x*b.getD k 0+c)/B<B:=Int.ediv_lt_of_lt_mul (by omega) (by omega)
  generalize (o.getD (i+k) 0+x*b.getD k 0+c)%B=m at hm hm2 hd ⊢
  generalize (o.getD (i+k) 0+x*b.getD k 0+c)/B=d at hd hd0 hd1 ⊢
  refine ⟨by rw[List.length_set,h1],in_set h2 _ ⟨hm,hm2⟩,⟨hd0,hd1⟩,?_,fun j hj=>?_,fun j hj=>?_⟩
  ·rw[val_set _ _ _ (by omega),valN,← Nat.add_assoc,Int.pow_succ]
   have e1:x*(valN B b k+(B:Int)^k*b.getD k 0)=x*valN B b k+(B:Int)^k*(x*b.getD k 0):=by
    rw[Int.mul_add,← Int.mul_assoc,← Int.mul_assoc,Int.mul_comm x ((B:Int)^k)]
   have e2:(B:Int)^i*((B:Int)^k*(x*b.getD k 0))=(B:Int)^ (i+k)*(x*b.getD k 0):=by rw[← Int.mul_assoc,Int.pow_add]
   rw[e1,Int.mul_add,e2,Int.mul_assoc]
   have e3:(B:Int)^ (i+k)*(m-o.getD (i+k) 0)+(B:Int)^ (i+k)*((B:Int)*d)=(B:Int)^ (i+k)*(x*b.getD k 0)+(B:Int)^ (i+k)*c:=by
    rw[← Int.mul_add,← Int.mul_add]
    congr 1
    omega
   omega
  ·rw[getD_set _ _ _ (by omega),if_neg (by omega),h5 j (by omega)]
  ·rw[getD_set _ _ _ (by omega),if_neg (by omega),h6 j hj]
theorem mulK_row {B:Nat} (hB:2≤B) {x:Int} (hx:0≤x∧x<B) {b:List Int} (hb:InB B b) {i:Nat} {out:List Int} (ho:InB B out) (hl:i+b.length+1≤out.length) (hz:out.getD (i+b.length) 0=0):
  (mulK B x b i out (b.length+1)).2=0∧valB B (mulK B x b i out (b.length+1)).1=valB B out+(B:Int)^i*(x*valB B b):=by
 obtain ⟨h1,h2,h3,h4,h5,h6⟩:=mulK_spec hB hx hb (i:=i) ho b.length (by omega)
 obtain ⟨g1,g2,g3,g4,g5,g6⟩:=mulK_spec hB hx hb (i:=i) ho (b.length+1) (by omega)
 have hc:(mulK B x b i out (b.length+1)).2=0:=by
  simp only[mulK]
  rw[h5 _ (Nat.le_refl _),hz,getD_out b b.length (Nat.le_refl _),Int.mul_zero,Int.zero_add,Int.zero_add]
  exact Int.ediv_eq_zero_of_lt h3.1 h3.2
 rw[hc,Int.mul_zero,Int.add_zero,valN_all _ _ _ (by omega)] at g4
 exact ⟨hc,g4⟩
theorem mulR_spec {B:Nat} (hB:2≤B) {a b:List Int} (ha:InB B a) (hb:InB B b) {n:Nat} (hn:a.length+b.length+1≤n):∀i,i≤a.length→(mulR B a b (List.replicate n 0) i).length=n∧InB B (mulR B a b (List.replicate n 0) i)∧
  valB B (mulR B a b (List.replicate n 0) i)=valN B a i*valB B b∧∀j,i+b.length≤j→(mulR B a b (List.replicate n 0) i).getD j 0=0
 | 0,_=>by
  refine ⟨by simp[mulR],fun x hx=>?_,by simp[mulR,val_zeros,valN],fun j hj=>?_⟩
  ·rw[(List.mem_replicate.1 hx).2];omega
  ·simp only[mulR];rw[List.getD_eq_getElem?_getD,List.getElem?_replicate];split<;>rfl
 | i+1,hi=>by
  obtain ⟨h1,h2,h3,h4⟩:=mulR_spec hB ha hb hn i (by omega)
  have hx:=ha.get (show i<a.length by omega)
  simp only[mulR]
  generalize mulR B a b (List.replicate n 0) i=o at h1 h2 h3 h4 ⊢
  obtain ⟨g1,g2,g3,g4,g5,g6⟩:=mulK_spec hB hx hb (i:=i) h2 (b.length+1) (by omega)
  obtain ⟨r1,r2⟩:=mulK_row hB hx hb (i:=i) h2 (by omega) (h4 _ (Nat.le_refl _))
  refine ⟨by rw[g1,h1],g2,?_,fun j hj=>by rw[g5 j (by omega)];exact h4 j (by omega)⟩
  rw[r2,h3,valN,Int.add_mul,Int.mul_assoc]
theorem mulR_all {B:Nat} (hB:2≤B) {a b:List Int} (ha:InB B a) (hb:InB B b) {n:Nat} (hn:a.length+b.length+1≤n):trimL (mulR B a b (List.replicate n 0) a.length)=limbs B (valB B a*valB B b).toNat:=by
 obtain ⟨h1,h2,h3,h4⟩:=mulR_spec hB ha hb hn a.length (Nat.le_refl _)
 rw[trim_limbs hB h2,h3,valN_all _ _ _ (Nat.le_refl _)]
end IB
end
section
set_option linter.unusedVariables false
set_option linter.unusedVariables false
namespace IB
def divK (B:Nat) (d:Int) (a:List Int):Nat→List Int × Int
 | 0=>(List.replicate a.length 0,0)
 | m+1=>((divK B d a m).1.set (a.length-1-m) ((a.getD (a.length-1-m) 0+(divK B d a m).2*B)/d),(a.getD (a.length-1-m) 0+(divK B d a m).2*B)%d)
theorem drop_getD (l:List Int) (i:Nat) (h:i<l.length):l.drop i=l.getD i 0::l.drop (i+1):=by
 rw[List.drop_eq_getElem_cons h]
 congr 1
 simp[List.getD_eq_getElem?_getD,h]
theorem divK_spec {B:Nat} (hB:2≤B) {d:Int} (hd:0<d) {a:List Int} (ha:InB B a):∀m,m≤a.length→(divK B d a m).1.length=a.length∧InB B (divK B d a m).1∧(0≤(divK B d a m).2∧(divK B d a m).2<d)∧
  valB B ((divK B d a m).1.drop (a.length-m))*d+(divK B d a m).2=valB B (a.drop (a.length-m))
 | 0,_=>by
  refine ⟨by simp[divK],fun x hx=>?_,by simp only[divK];omega,?_⟩
  ·rw[(List.mem_replicate.1 hx).2];omega
  ·simp only[divK]
   rw[List.drop_eq_nil_of_le (by simp),List.drop_eq_nil_of_le (by omega)];simp[valB]
 | m+1,hm=>by
  obtain ⟨h1,h2,h3,h4⟩:=divK_spec hB hd ha m (by omega)
  obtain ⟨i,hi⟩:∃i,a.length-1-m=i:=⟨_,rfl⟩
  have e1:a.length-m=i+1:=by omega
  have e2:a.length-(m+1)=i:=by omega
  have g1:=ha.get (show i<a.length by omega)
  simp only[divK]
  rw[hi,e2]
  rw[e1] at h4
  generalize (divK B d a m).1=q at h1 h2 h4 ⊢
  generalize (divK B d a m).2=r at h3 h4 ⊢
  have hn0:0≤r*B:=Int.mul_nonneg h3.1 (by omega)
  have hn1:r*B≤(d-1)*B:=Int.mul_le_mul_of_nonneg_right (by omega) (by omega)
  rw[Int.sub_mul,Int.one_mul] at hn1
  have hm0:=Int.emod_nonneg (a.getD i 0+r*B) (show d≠0 by omega)
  have hm1:=Int.emod_lt_of_pos (a.getD i 0+r*B) hd
  have hdv:=Int.emod_add_mul_ediv (a.getD i 0+r*B) d
  have hq0:0≤(a.getD i 0+r*B)/d:=Int.ediv_nonneg (by omega) (by omega)
  have hq1:(a.getD i 0+r*B)/d<B:=Int.ediv_lt_of_lt_mul hd (by rw[Int.mul_comm (B:Int) d];omega)
  generalize (a.getD i 0+r*B)/d=y at hdv hq0 hq1 ⊢
  generalize (a.getD i 0+r*B)%d=z at hdv hm0 hm1 ⊢
  refine ⟨by rw[List.length_set,h1],in_set h2 _ ⟨hq0,hq1⟩,⟨hm0,hm1⟩,?_⟩
  have e3:(q.set i y).drop i=y::q.drop (i+1):=by
   rw[drop_getD _ _ (by rw[List.length_set];omega),getD_set _ _ _ (by omega),if_pos rfl,List.drop_set_of_lt (by omega)]
  rw[e3,drop_getD a i (by omega)]
  simp only[valB]
  rw[← h4,Int.add_mul,Int.mul_add,Int.mul_assoc,Int.mul_comm y d,Int.mul_comm (B:Int) r]
  omega
theorem divK_all {B:Nat} (hB:2≤B) {d:Int} (hd:0<d) (hdB:d<B) {a:List Int} (ha:InB B a):
  trimL (divK B d a a.length).1=limbs B (valB B a/d).toNat∧(divK B d a a.length).2=valB B a%d∧trimL [(divK B d a a.length).2]=limbs B (valB B a%d).toNat:=by
 obtain ⟨h1,h2,h3,h4⟩:=divK_spec hB hd ha a.length (Nat.le_refl _)
 rw[Nat.sub_self,List.drop_zero,List.drop_zero] at h4
 have h5:valB B a/d=valB B (divK B d a a.length).1∧valB B a%d=(divK B d a a.length).2:=by
  rw[Int.ediv_emod_unique hd]
  exact ⟨by rw[Int.add_comm,Int.mul_comm];exact h4,h3.1,h3.2⟩
 refine ⟨by rw[trim_limbs hB h2,h5.1],h5.2.symm,?_⟩
 rw[trim_limbs hB (InB.cons.2 ⟨⟨h3.1,by omega⟩,InB.nil⟩),h5.2]
 simp[valB]
theorem limbs_len {B:Nat} (hB:2≤B) {n:Nat} (hn:0<n):(B:Int)^ ((limbs B n).length-1)≤n∧(n:Int)<(B:Int)^ (limbs B n).length∧0<(limbs B n).length:=by
 have h1:=val_lt (limbs_in hB n)
 have hne:limbs B n≠ []:=fun e=>by have:=(limbs_nil hB).1 e;omega
 have hl:=limbs_last hB n hne
 have hpos:0<(limbs B n).length:=List.length_pos_iff.2 hne
 have h2:=limbs_val hB n
 rw[h2] at h1
 refine ⟨?_,h1,hpos⟩
 have hin:=limbs_in hB n
 rw[← List.dropLast_concat_getLast hne] at h2 hin
 obtain ⟨i1,i2⟩:=InB.append.1 hin
 obtain ⟨i3,_⟩:=InB.cons.1 i2
 rw[val_snoc,List.length_dropLast] at h2
 have h3:=val_nonneg i1
 have h4:(B:Int)^ ((limbs B n).length-1)*1≤(B:Int)^ ((limbs B n).length-1)*(limbs B n).getLast hne:=Int.mul_le_mul_of_nonneg_left (by omega) (Int.le_of_lt (pow_pos' hB _))
 omega
theorem limbs_short {B:Nat} (hB:2≤B) {m n:Nat} (h:(limbs B m).length<(limbs B n).length):m<n:=by
 have hn:0<n:=by
  rcases Nat.eq_zero_or_pos n with e | e
  ·subst e;rw[limbs_zero] at h;simp at h
  ·exact e
 obtain ⟨h1,h2,h3⟩:=limbs_len hB hn
 rcases Nat.eq_zero_or_pos m with e | e
 ·omega
 ·obtain ⟨g1,g2,g3⟩:=limbs_len hB e
  have:=pow_mono hB (show (limbs B m).length≤(limbs B n).length-1 by omega)
  omega
theorem val_top {B:Nat} (hB:2≤B) {a b:List Int} (ha:InB B a) (hb:InB B b) (hl:a.length=b.length) {i:Nat} (hi:i<a.length) (heq:∀j,i<j→j<a.length→a.getD j 0=b.getD j 0) (hlt:a.getD i 0<b.getD i 0):valB B a<valB B b:=by
 have e1:valB B a=valN B a i+(B:Int)^i*valB B (a.drop i):=by
  rw[valN_take B a i (by omega)]
  have:=val_append (B:=B) (a.drop i) (a.take i)
  rw[List.take_append_drop,List.length_take,Nat.min_eq_left (by omega)] at this
  exact this
 have e2:valB B b=valN B b i+(B:Int)^i*valB B (b.drop i):=by
  rw[valN_take B b i (by omega)]
  have:=val_append (B:=B) (b.drop i) (b.take i)
  rw[List.take_append_drop,List.length_take,Nat.min_eq_left (by omega)] at this
  exact this
 have e3:a.drop (i+1)=b.drop (i+1):=by
  refine List.ext_getElem (by simp[hl]) fun j h1 h2=>?_
  rw[List.getElem_drop,List.getElem_drop]
  rw[List.length_drop] at h1
  have:=heq (i+1+j) (by omega) (by omega)
  simpa [List.getD_eq_getElem?_getD,show i+1+j<a.length by omega,show i+1+j<b.length by omega] using this
 rw[drop_getD a i hi] at e1
 rw[drop_getD b i (by omega),← e3] at e2
 simp only[valB] at e1 e2
 have v1:valN B a i<(B:Int)^i:=by
  rw[valN_take B a i (by omega)]
  have:=val_lt (B:=B) (l:=a.take i) (fun x hx=>ha x (List.mem_of_mem_take hx))
  rwa [List.length_take,Nat.min_eq_left (by omega)] at this
 have v2:0≤valN B b i:=by
  rw[valN_take B b i (by omega)]
  exact val_nonneg (fun x hx=>hb x (List.mem_of_mem_take hx))
 have h1:(B:Int)^i*(a.getD i 0+1)≤(B:Int)^i*b.getD i 0:=Int.mul_le_mul_of_nonneg_left (by omega) (Int.le_of_lt (pow_pos' hB i))
 rw[Int.mul_add,Int.mul_one] at h1
 rw[Int.mul_add] at e1 e2
 omega
theorem eq_of_get {a b:List Int} (hl:a.length=b.length) (h:∀j,j<a.length→a.getD j 0=b.getD j 0):a=b:=by
 refine List.ext_getElem hl fun j h1 h2=>?_
 have:=h j h1
 simpa [List.getD_eq_getElem?_getD,h1,h2] using this
end IB
end
section
set_option linter.unusedVariables false
set_option linter.unusedVariables false
namespace IB
def takeK (B:Nat) (u v:List Int) (j:Nat) (q:Int):Nat→List Int × Int
 | 0=>(u,0)
 | k+1=>
  let n:=(takeK B u v j q k).1.getD (j+k) 0-(takeK B u v j q k).2-q*v.getD k 0
  let c:=if n<0 then (-n+B-1)/B else 0
  ((takeK B u v j q k).1.set (j+k) (n+c*B),c)
theorem takeK_spec {B:Nat} (hB:2≤B) {u v:List Int} (hu:InB B u) (hv:InB B v) {j:Nat} {q:Int} (hq:0≤q):∀k,j+k≤u.length→(takeK B u v j q k).1.length=u.length∧InB B (takeK B u v j q k).1∧
  (0≤(takeK B u v j q k).2∧(takeK B u v j q k).2≤q+1)∧valB B (takeK B u v j q k).1-(B:Int)^ (j+k)*(takeK B u v j q k).2=valB B u-(B:Int)^j*(q*valN B v k)∧
  (∀i,j+k≤i→(takeK B u v j q k).1.getD i 0=u.getD i 0)∧∀i,i<j→(takeK B u v j q k).1.getD i 0=u.getD i 0
 | 0,_=>⟨rfl,hu,by simp only[takeK];omega,by simp[takeK,valN],fun _ _=>rfl,fun _ _=>rfl⟩
 | k+1,hk=>by
  obtain ⟨h1,h2,h3,h4,h5,h6⟩:=takeK_spec hB hu hv (j:=j) hq k (by omega)
  have g1:=hv.getD0 (by omega) k
  have g2:=h2.getD0 (by omega) (j+k)
  simp only[takeK]
  generalize (takeK B u v j q k).1=o at h1 h2 h4 h5 h6 g2 ⊢
  generalize (takeK B u v j q k).2=c at h3 h4 ⊢
  have hp0:0≤q*v.getD k 0:=Int.mul_nonneg hq g1.1
  have hp1:q*v.getD k 0≤q*((B:Int)-1):=Int.mul_le_mul_of_nonneg_left (by omega) hq
  rw[Int.mul_sub,Int.mul_one] at hp1
  obtain ⟨n,hn⟩:∃n,o.getD (j+k) 0-c-q*v.getD k 0=n:=⟨_,rfl⟩
  rw[hn]
  obtain ⟨d,hd⟩:∃d,(if n<0 then (-n+(B:Int)-1)/B else 0)=d:=⟨_,rfl⟩
  rw[hd]
  have hdd:0≤d∧d≤q+1∧0≤n+d*B∧n+d*B<B:=by
   by_cases hneg:n<0
   ·rw[if_pos hneg] at hd
    have e1:=Int.emod_add_mul_ediv (-n+(B:Int)-1) B
    have e2:=Int.emod_nonneg (-n+(B:Int)-1) (show (B:Int)≠0 by omega)
    have e3:=Int.emod_lt_of_pos (-n+(B:Int)-1) (show 0<(B:Int) by omega)
    have e4:0≤(-n+(B:Int)-1)/B:=Int.ediv_nonneg (by omega) (by omega)
    have e5:(-n+(B:Int)-1)/B<q+2:=Int.ediv_lt_of_lt_mul (by omega) (by rw[Int.add_mul];omega)
    rw[hd] at e1 e4 e5
    rw[Int.mul_comm] at e1
    exact ⟨e4,by omega,by omega,by omega⟩
   ·rw[if_neg hneg] at hd
    subst hd
    rw[Int.zero_mul]
    omega
  refine ⟨by rw[List.length_set,h1],in_set h2 _ hdd.2.2,⟨hdd.1,hdd.2.1⟩,?_,fun i hi=>?_,fun i hi=>?_⟩
  ·rw[val_set _ _ _ (by omega),valN,← Nat.add_assoc,Int.pow_succ]
   have e1:q*(valN B v k+(B:Int)^k*v.getD k 0)=q*valN B v k+(B:Int)^k*(q*v.getD k 0):=by
    rw[Int.mul_add,← Int.mul_assoc,← Int.mul_assoc,Int.mul_comm q ((B:Int)^k)]
   have e2:(B:Int)^j*((B:Int)^k*(q*v.getD k 0))=(B:Int)^ (j+k)*(q*v.getD k 0):=by rw[← Int.mul_assoc,Int.pow_add]
   rw[e1,Int.mul_add,e2,Int.mul_assoc]
   have e3:(B:Int)^ (j+k)*(n+d*B-o.getD (j+k) 0)-(B:Int)^ (j+k)*((B:Int)*d)= -((B:Int)^ (j+k)*(q*v.getD k 0))-(B:Int)^ (j+k)*c:=by
    rw[← Int.mul_sub,← Int.mul_neg,← Int.mul_sub]
    congr 1
    rw[Int.mul_comm d]
    omega
   omega
  ·rw[getD_set _ _ _ (by omega),if_neg (by omega),h5 i (by omega)]
  ·rw[getD_set _ _ _ (by omega),if_neg (by omega),h6 i hi]
theorem val_inj {B:Nat} (hB:2≤B):∀ {a b:List Int},InB B a→InB B b→a.length=b.length→valB B a=valB B b→a=b
 | [],[],_,_,_,_=>rfl
 | x::r,y::s,ha,hb,hl,hv=>by
  obtain ⟨a1,a2⟩:=InB.cons.1 ha
  obtain ⟨b1,b2⟩:=InB.cons.1 hb
  simp only[valB] at hv
  have e1:x=y:=by
   have h1:(x+(B:Int)*valB B r)%B=x:=by rw[Int.add_mul_emod_self_left,Int.emod_eq_of_lt a1.1 a1.2]
   have h2:(y+(B:Int)*valB B s)%B=y:=by rw[Int.add_mul_emod_self_left,Int.emod_eq_of_lt b1.1 b1.2]
   rw[← h1,← h2,hv]
  subst e1
  have e2:valB B r=valB B s:=by
   have:(B:Int)*valB B r=B*valB B s:=by omega
   exact Int.eq_of_mul_eq_mul_left (by omega) this
  rw[val_inj hB a2 b2 (by simpa using hl) e2]
 | [],_:: _,_,_,hl,_=>by simp at hl
 | _:: _,[],_,_,hl,_=>by simp at hl
theorem est_first {B V W v1 top P Q:Int} (hP:0<P) (hv1:0<v1) (hV:v1*P≤V) (hW:W<(top+1)*P) (hQ0:0≤Q) (hQ:Q*V≤W):Q≤top/v1:=by
 rw[Int.le_ediv_iff_mul_le hv1]
 have h1:Q*(v1*P)≤Q*V:=Int.mul_le_mul_of_nonneg_left hV hQ0
 rw[← Int.mul_assoc] at h1
 have h2:(Q*v1)*P<(top+1)*P:=by omega
 have:=Int.lt_of_mul_lt_mul_right h2 (Int.le_of_lt hP)
 omega
theorem est_step {B V W v1 v2 u2 top q r P Q:Int} (hP:0<P) (hq:0≤q) (hB:0≤B) (hV:(v1*B+v2)*P≤V) (hV0:0≤V) (hW:W<(top*B+u2+1)*P) (htop:top=q*v1+r) (hbig:r*B+u2<q*v2) (hQ:Q*V≤W):Q≤q-1:=by
 apply Classical.byContradiction
 intro hn
 have hle:q≤Q:=by omega
 have h1:q*V≤Q*V:=Int.mul_le_mul_of_nonneg_right hle hV0
 have h2:q*((v1*B+v2)*P)≤q*V:=Int.mul_le_mul_of_nonneg_left hV hq
 rw[← Int.mul_assoc] at h2
 have h3:(q*(v1*B+v2))*P<(top*B+u2+1)*P:=by omega
 have h4:=Int.lt_of_mul_lt_mul_right h3 (Int.le_of_lt hP)
 rw[Int.mul_add,← Int.mul_assoc,htop,Int.add_mul] at h4
 omega
end IB
end
section
set_option linter.unusedVariables false
set_option linter.unusedVariables false
namespace IB
theorem addM_spec {B:Nat} (hB:2≤B) {x:Int} (hx:0≤x) {b:List Int} (hb:InB B b) {i:Nat} {out:List Int} (ho:InB B out):∀k,i+k≤out.length→(mulK B x b i out k).1.length=out.length∧InB B (mulK B x b i out k).1∧
  (0≤(mulK B x b i out k).2∧(mulK B x b i out k).2≤x)∧valB B (mulK B x b i out k).1+(B:Int)^ (i+k)*(mulK B x b i out k).2=valB B out+(B:Int)^i*(x*valN B b k)∧
  (∀j,i+k≤j→(mulK B x b i out k).1.getD j 0=out.getD j 0)∧∀j,j<i→(mulK B x b i out k).1.getD j 0=out.getD j 0
 | 0,_=>⟨rfl,ho,by simp only[mulK];omega,by simp[mulK,valN],fun _ _=>rfl,fun _ _=>rfl⟩
 | k+1,hk=>by
  obtain ⟨h1,h2,h3,h4,h5,h6⟩:=addM_spec hB hx hb (i:=i) ho k (by omega)
  have g1:=hb.getD0 (by omega) k
  have g2:=h2.getD0 (by omega) (i+k)
  simp only[mulK]
  generalize (mulK B x b i out k).1=o at h1 h2 h4 h5 h6 g2 ⊢
  generalize (mulK B x b i out k).2=c at h3 h4 ⊢
  have hp0:0≤x*b.getD k 0:=Int.mul_nonneg hx g1.1
  have hp1:x*b.getD k 0≤x*((B:Int)-1):=Int.mul_le_mul_of_nonneg_left (by omega) hx
  rw[Int.mul_sub,Int.mul_one] at hp1
  have hm:=Int.emod_nonneg (o.getD (i+k) 0+x*b.getD k 0+c) (show (B:Int)≠0 by omega)
  have hm2:=Int.emod_lt_of_pos (o.getD (i+k) 0+x*b.getD k 0+c) (show 0<(B:Int) by omega)
  have hd:=Int.emod_add_mul_ediv (o.getD (i+k) 0+x*b.getD k 0+c) B
  have hd0:0≤(o.getD (i+k) 0+x*b.getD k 0+c)/B:=Int.ediv_nonneg (by omega) (by omega)
  have hd1:(o.getD (i+k) 0+x*b.getD k 0+c)/B<x+1:=Int.ediv_lt_of_lt_mul (by omega) (by rw[Int.add_mul];omega)
  generalize (o.getD (i+k) 0+x*b.getD k 0+c)%B=m at hm hm2 hd ⊢
  generalize (o.getD (i+k) 0+x*b.getD k 0+c)/B=d at hd hd0 hd1 ⊢
  refine ⟨by rw[List.length_set,h1],in_set h2 _ ⟨hm,hm2⟩,⟨hd0,by omega⟩,?_,fun j hj=>?_,fun j hj=>?_⟩
  ·rw[val_set _ _ _ (by omega),valN,← Nat.add_assoc,Int.pow_succ]
   have e1:x*(valN B b k+(B:Int)^k*b.getD k 0)=x*valN B b k+(B:Int)^k*(x*b.getD k 0):=by
    rw[Int.mul_add,← Int.mul_assoc,← Int.mul_assoc,Int.mul_comm x ((B:Int)^k)]
   have e2:(B:Int)^i*((B:Int)^k*(x*b.getD k 0))=(B:Int)^ (i+k)*(x*b.getD k 0):=by rw[← Int.mul_assoc,Int.pow_add]
   rw[e1,Int.mul_add,e2,Int.mul_assoc]
   have e3:(B:Int)^ (i+k)*(m-o.getD (i+k) 0)+(B:Int)^ (i+k)*((B:Int)*d)=(B:Int)^ (i+k)*(x*b.getD k 0)+(B:Int)^ (i+k)*c:=by
    rw[← Int.mul_add,← Int.mul_add]
    congr 1
    omega
   omega
  ·rw[getD_set _ _ _ (by omega),if_neg (by omega),h5 j (by omega)]
  ·rw[getD_set _ _ _ (by omega),if_neg (by omega),h6 j hj]
theorem restK_spec {B:Nat} (hB:2≤B) {u v:List Int} (hu:InB B u) (hv:InB B v) {j:Nat} {q:Int} (hq:0≤q) {k:Nat} (hk:j+k≤u.length):(mulK B q v j (takeK B u v j q k).1 k).1=u:=by
 obtain ⟨h1,h2,h3,h4,h5,h6⟩:=takeK_spec hB hu hv (j:=j) hq k hk
 generalize (takeK B u v j q k).2=c at h3 h4
 obtain ⟨g1,g2,g3,g4,g5,g6⟩:=addM_spec hB hq hv (i:=j) h2 k (by omega)
 generalize (mulK B q v j (takeK B u v j q k).1 k).2=c' at g3 g4
 generalize (mulK B q v j (takeK B u v j q k).1 k).1=w at g1 g2 g4 g5 g6 ⊢
 generalize (takeK B u v j q k).1=u1 at h1 h2 h4 h5 h6 g1 g4 g5 g6
 -- outside the window nothing has changed; within it the values agree but for a multiple
 have e0:valB B w+(B:Int)^ (j+k)*c'=valB B u+(B:Int)^ (j+k)*c:=by omega
 have sp:∀l:List Int,l.length=u.length→valB B l=valB B (l.take (j+k))+(B:Int)^ (j+k)*valB B (l.drop (j+k)):=fun l hl=>by
  have:=val_append (B:=B) (l.drop (j+k)) (l.take (j+k))
  rw[List.take_append_drop,List.length_take,Nat.min_eq_left (by omega)] at this
  exact this
 have ed:w.drop (j+k)=u.drop (j+k):=by
  refine eq_of_get (by simp[g1,h1]) fun i hi=>?_
  have:=g5 (j+k+i) (by omega)
  rw[h5 _ (by omega)] at this
  simpa [List.getD_eq_getElem?_getD,List.getElem?_drop] using this
 have s1:=sp w (by omega)
 have s2:=sp u rfl
 rw[ed] at s1
 have b1:=val_lt (B:=B) (l:=w.take (j+k)) (fun x hx=>g2 x (List.mem_of_mem_take hx))
 have b2:=val_lt (B:=B) (l:=u.take (j+k)) (fun x hx=>hu x (List.mem_of_mem_take hx))
 have b3:=val_nonneg (B:=B) (l:=w.take (j+k)) (fun x hx=>g2 x (List.mem_of_mem_take hx))
 have b4:=val_nonneg (B:=B) (l:=u.take (j+k)) (fun x hx=>hu x (List.mem_of_mem_take hx))
 rw[List.length_take,Nat.min_eq_left (by omega)] at b1 b2
 have hP:=pow_pos' hB (j+k)
 have ec:c'=c:=by
  rcases Int.lt_trichotomy c' c with h | h | h
  ·have:(B:Int)^ (j+k)*(c'+1)≤(B:Int)^ (j+k)*c:=Int.mul_le_mul_of_nonneg_left (by omega) (Int.le_of_lt hP)
   rw[Int.mul_add,Int.mul_one] at this
   omega
  ·exact h
  ·have:(B:Int)^ (j+k)*(c+1)≤(B:Int)^ (j+k)*c':=Int.mul_le_mul_of_nonneg_left (by omega) (Int.le_of_lt hP)
   rw[Int.mul_add,Int.mul_one] at this
   omega
 subst ec
 exact val_inj hB g2 hu (by omega) (by omega)
end IB
end
section
set_option linter.unusedVariables false
set_option linter.unusedVariables false
namespace IB
theorem val_split {B:Nat} (l:List Int) (j:Nat) (hj:j≤l.length):valB B l=valB B (l.take j)+(B:Int)^j*valB B (l.drop j):=by
 have:=val_append (B:=B) (l.drop j) (l.take j)
 rw[List.take_append_drop,List.length_take,Nat.min_eq_left hj] at this
 exact this
theorem in_take {B:Nat} {l:List Int} (h:InB B l) (j:Nat):InB B (l.take j):=fun x hx=>h x (List.mem_of_mem_take hx)
theorem in_drop {B:Nat} {l:List Int} (h:InB B l) (j:Nat):InB B (l.drop j):=fun x hx=>h x (List.mem_of_mem_drop hx)
theorem high_zero {B:Nat} (hB:2≤B) {l:List Int} (h:InB B l) {n:Nat} (hv:valB B l<(B:Int)^n) (i:Nat) (hi:n≤i):l.getD i 0=0:=by
 by_cases hil:i<l.length
 ·have e1:=val_split (B:=B) l i (by omega)
  rw[drop_getD l i hil] at e1
  simp only[valB] at e1
  have a1:=val_nonneg (in_take h i)
  have a2:=val_nonneg (in_drop h (i+1))
  have a3:=(h.get hil).1
  have a4:0≤(B:Int)*valB B (l.drop (i+1)):=Int.mul_nonneg (by omega) a2
  have hp:=pow_mono hB hi
  apply Classical.byContradiction
  intro hne
  have:(B:Int)^i*1≤(B:Int)^i*(l.getD i 0+(B:Int)*valB B (l.drop (i+1))):=Int.mul_le_mul_of_nonneg_left (by omega) (Int.le_of_lt (pow_pos' hB i))
  omega
 ·exact getD_out l i (by omega)
theorem low_val {B:Nat} (hB:2≤B) {l:List Int} (h:InB B l) {n:Nat} (hz:∀i,n≤i→l.getD i 0=0):valB B l<(B:Int)^n:=by
 by_cases hn:n≤l.length
 ·have e1:=val_split (B:=B) l n hn
  have e2:valB B (l.drop n)=0:=by
   have:l.drop n=List.replicate (l.length-n) 0:=by
    refine eq_of_get (by simp) fun j hj=>?_
    have:=hz (n+j) (by omega)
    rw[List.length_drop] at hj
    have hj':n+j<l.length:=by omega
    simpa [List.getD_eq_getElem?_getD,List.getElem?_drop,List.getElem?_replicate,hj,hj'] using this
   rw[this,val_zeros]
  rw[e2,Int.mul_zero,Int.add_zero] at e1
  rw[e1]
  have:=val_lt (in_take h n)
  rwa [List.length_take,Nat.min_eq_left hn] at this
 ·exact val_lt_pow hB h (by omega)
theorem drop_get (l:List Int) (j i:Nat):(l.drop j).getD i 0=l.getD (j+i) 0:=by simp[List.getD_eq_getElem?_getD,List.getElem?_drop]
theorem take_iff {B:Nat} (hB:2≤B) {u v:List Int} (hu:InB B u) (hv:InB B v) {j:Nat} {q:Int} (hq:0≤q) (hk:j+(v.length+1)≤u.length) (hz:∀i,j+(v.length+1)≤i→u.getD i 0=0):
  ((takeK B u v j q (v.length+1)).2=0↔q*valB B v≤valB B (u.drop j))∧
  ((takeK B u v j q (v.length+1)).2=0→valB B ((takeK B u v j q (v.length+1)).1.drop j)=valB B (u.drop j)-q*valB B v):=by
 obtain ⟨h1,h2,h3,h4,h5,h6⟩:=takeK_spec hB hu hv (j:=j) hq (v.length+1) hk
 rw[valN_all _ _ _ (by omega)] at h4
 generalize (takeK B u v j q (v.length+1)).2=c at h3 h4 ⊢
 generalize (takeK B u v j q (v.length+1)).1=w at h1 h2 h4 h5 h6 ⊢
 have s1:=val_split (B:=B) w j (by omega)
 have s2:=val_split (B:=B) u j (by omega)
 have et:w.take j=u.take j:=by
  refine eq_of_get (by simp[h1]) fun i hi=>?_
  rw[List.length_take] at hi
  have:=h6 i (by omega)
  simpa [List.getD_eq_getElem?_getD,show i<j by omega,List.getElem?_take] using this
 rw[et] at s1
 have hP:=pow_pos' hB j
 have key:valB B (w.drop j)-(B:Int)^ (v.length+1)*c=valB B (u.drop j)-q*valB B v:=by
  have e:(B:Int)^j*(valB B (w.drop j)-(B:Int)^ (v.length+1)*c)=(B:Int)^j*(valB B (u.drop j)-q*valB B v):=by
   rw[Int.mul_sub,Int.mul_sub,← Int.mul_assoc,← Int.pow_add]
   omega
  exact Int.eq_of_mul_eq_mul_left (by omega) e
 have b1:=val_nonneg (in_drop h2 j)
 have b2:valB B (w.drop j)<(B:Int)^ (v.length+1):=low_val hB (in_drop h2 j) fun i hi=>by
  rw[drop_get,h5 _ (by omega),hz _ (by omega)]
 have hP2:=pow_pos' hB (v.length+1)
 refine ⟨⟨fun hc=>?_,fun hle=>?_⟩,fun hc=>?_⟩
 ·rw[hc,Int.mul_zero] at key;omega
 ·apply Classical.byContradiction
  intro hne
  have:(B:Int)^ (v.length+1)*1≤(B:Int)^ (v.length+1)*c:=Int.mul_le_mul_of_nonneg_left (by omega) (Int.le_of_lt hP2)
  omega
 ·rw[hc,Int.mul_zero] at key;omega
def longK (B:Nat) (u v:List Int) (m:Nat):Nat→List Int × List Int
 | 0=>(u,List.replicate m 0)
 | s+1=>((takeK B (longK B u v m s).1 v (m-1-s) (valB B ((longK B u v m s).1.drop (m-1-s))/valB B v) (v.length+1)).1,(longK B u v m s).2.set (m-1-s) (valB B ((longK B u v m s).1.drop (m-1-s))/valB B v))
theorem longK_spec {B:Nat} (hB:2≤B) {u v:List Int} (hu:InB B u) (hv:InB B v) (hV:0<valB B v) {m:Nat} (hm:m+v.length=u.length) (h0:valB B (u.drop m)<valB B v):∀s,s≤m→
  (longK B u v m s).1.length=u.length∧InB B (longK B u v m s).1∧(longK B u v m s).2.length=m∧InB B (longK B u v m s).2∧valB B ((longK B u v m s).1.drop (m-s))<valB B v∧
  valB B u=valB B (longK B u v m s).1+(B:Int)^ (m-s)*(valB B v*valB B ((longK B u v m s).2.drop (m-s)))
 | 0,_=>by
  refine ⟨rfl,hu,by simp[longK],fun x hx=>?_,h0,?_⟩
  ·rw[(List.mem_replicate.1 hx).2];omega
  ·simp only[longK]
   rw[@List.drop_eq_nil_of_le _ (List.replicate m (0:Int)) _ (by simp)];simp[valB]
 | s+1,hs=>by
  obtain ⟨h1,h2,h3,h4,h5,h6⟩:=longK_spec hB hu hv hV hm h0 s (by omega)
  obtain ⟨j,hj⟩:∃j,m-1-s=j:=⟨_,rfl⟩
  have e1:m-s=j+1:=by omega
  have e2:m-(s+1)=j:=by omega
  simp only[longK]
  rw[hj,e2]
  rw[e1] at h5 h6
  generalize (longK B u v m s).1=w at h1 h2 h5 h6 ⊢
  generalize (longK B u v m s).2=p at h3 h4 h6 ⊢
  have hw:valB B (w.drop j)=w.getD j 0+(B:Int)*valB B (w.drop (j+1)):=by rw[drop_getD w j (by omega)];rfl
  have g1:=h2.get (show j<w.length by omega)
  have hVB:=val_lt hv
  have hz:∀i,j+(v.length+1)≤i→w.getD i 0=0:=fun i hi=>by
   have:=high_zero hB (in_drop h2 (j+1)) (n:=v.length) (by omega) (i-(j+1)) (by omega)
   rw[drop_get] at this
   rwa [show j+1+(i-(j+1))=i by omega] at this
  have hW0:=val_nonneg (in_drop h2 j)
  obtain ⟨W,hW⟩:∃W,valB B (w.drop j)=W:=⟨_,rfl⟩
  obtain ⟨Q,hQ⟩:∃Q,W/valB B v=Q:=⟨_,rfl⟩
  have hQ0:0≤Q:=by rw[← hQ];exact Int.ediv_nonneg (by omega) (by omega)
  have hQV:Q*valB B v≤W:=by rw[← hQ];exact Int.ediv_mul_le _ (by omega)
  have hWB:W<(B:Int)*valB B v:=by
   have:(B:Int)*(valB B (w.drop (j+1))+1)≤B*valB B v:=Int.mul_le_mul_of_nonneg_left (by omega) (by omega)
   rw[Int.mul_add,Int.mul_one] at this
   omega
  have hQB:Q<B:=by rw[← hQ];exact Int.ediv_lt_of_lt_mul hV hWB
  have hWm:=Int.emod_add_mul_ediv W (valB B v)
  have hWm0:=Int.emod_lt_of_pos W hV
  rw[hQ,Int.mul_comm] at hWm
  rw[hW,hQ]
  obtain ⟨t1,t2,t3,t4,t5,t6⟩:=takeK_spec hB h2 hv (j:=j) hQ0 (v.length+1) (by omega)
  obtain ⟨i1,i2⟩:=take_iff hB h2 hv (j:=j) hQ0 (by omega) hz
  rw[hW] at i1 i2
  have hc:=i1.2 hQV
  have hr:=i2 hc
  rw[hc,Int.mul_zero,Int.sub_zero,valN_all _ _ _ (by omega)] at t4
  refine ⟨by rw[t1,h1],t2,by rw[List.length_set,h3],in_set h4 _ ⟨hQ0,hQB⟩,by omega,?_⟩
  have e3:(p.set j Q).drop j=Q::p.drop (j+1):=by
   rw[drop_getD _ _ (by rw[List.length_set];omega),getD_set _ _ _ (by omega),if_pos rfl,List.drop_set_of_lt (by omega)]
  rw[e3,h6,t4]
  simp only[valB]
  rw[Int.mul_add (valB B v),Int.mul_add,Int.pow_succ,Int.mul_comm (valB B v) Q,Int.mul_assoc ((B:Int)^j) (B:Int),Int.mul_left_comm (valB B v) (B:Int)]
  omega
theorem longK_all {B:Nat} (hB:2≤B) {u v:List Int} (hu:InB B u) (hv:InB B v) (hV:0<valB B v) {m:Nat} (hm:m+v.length=u.length) (h0:valB B (u.drop m)<valB B v):
  trimL (longK B u v m m).2=limbs B (valB B u/valB B v).toNat∧trimL (longK B u v m m).1=limbs B (valB B u%valB B v).toNat:=by
 obtain ⟨h1,h2,h3,h4,h5,h6⟩:=longK_spec hB hu hv hV hm h0 m (Nat.le_refl _)
 rw[Nat.sub_self,List.drop_zero] at h5 h6
 rw[Int.pow_zero,Int.one_mul] at h6
 have h7:valB B u/valB B v=valB B (longK B u v m m).2∧valB B u%valB B v=valB B (longK B u v m m).1:=by
  rw[Int.ediv_emod_unique hV]
  exact ⟨h6.symm,val_nonneg h2,h5⟩
 exact ⟨by rw[trim_limbs hB h4,h7.1],by rw[trim_limbs hB h2,h7.2]⟩
end IB
end
section
set_option linter.unusedVariables false
set_option linter.unusedVariables false
namespace IB
def estF (B v1 v2 u2:Int):Nat→Int→Int→Int
 | 0,q,_=>q
 | f+1,q,r=>if B≤q∨(r<B∧r*B+u2<q*v2) then (if B≤r+v1 then q-1 else estF B v1 v2 u2 f (q-1) (r+v1)) else q
theorem estF_ge {B V W v1 v2 u2 top P Q:Int} (hP:0<P) (hB:0≤B) (hV:(v1*B+v2)*P≤V) (hV0:0≤V) (hW:W<(top*B+u2+1)*P) (hQB:Q<B) (hQ0:0≤Q) (hQ:Q*V≤W):∀(f:Nat) (q r:Int),top=q*v1+r→Q≤q→Q≤estF B v1 v2 u2 f q r∧estF B v1 v2 u2 f q r≤q
 | 0,q,r,_,hq=>⟨hq,Int.le_refl _⟩
 | f+1,q,r,ht,hq=>by
  simp only[estF]
  by_cases hc:B≤q∨(r<B∧r*B+u2<q*v2)
  ·rw[if_pos hc]
   have hq1:Q≤q-1:=by
    rcases hc with h | ⟨_,h⟩
    ·omega
    ·exact est_step hP (by omega) hB hV hV0 hW ht h hQ
   by_cases h2:B≤r+v1
   ·rw[if_pos h2];exact ⟨hq1,by omega⟩
   ·rw[if_neg h2]
    obtain ⟨g1,g2⟩:=estF_ge hP hB hV hV0 hW hQB hQ0 hQ f (q-1) (r+v1) (by rw[Int.sub_mul,Int.one_mul];omega) hq1
    exact ⟨g1,by omega⟩
  ·rw[if_neg hc];exact ⟨hq,Int.le_refl _⟩
theorem ref_est {V R t3 top P:Int} (hP:0<P) (ht:0≤top) (hV:V≤(top+1)*P) (hV0:0<V) (hR:t3*P≤R) (h0:0≤t3):0≤t3/(top+1)∧t3/(top+1)≤R/V:=by
 have h1:0≤t3/(top+1):=Int.ediv_nonneg h0 (by omega)
 refine ⟨h1,?_⟩
 rw[Int.le_ediv_iff_mul_le hV0]
 have h2:t3/(top+1)*(top+1)≤t3:=Int.ediv_mul_le _ (by omega)
 have h3:t3/(top+1)*V≤t3/(top+1)*((top+1)*P):=Int.mul_le_mul_of_nonneg_left hV h1
 rw[← Int.mul_assoc] at h3
 have h4:t3/(top+1)*(top+1)*P≤t3*P:=Int.mul_le_mul_of_nonneg_right h2 (Int.le_of_lt hP)
 omega
theorem factor_top {B t f:Int} (ht:1≤t) (htB:t<B) (hf:f=B/(t+1)):1≤f∧f*(t+1)≤B∧B≤4*(f*t):=by
 have h1:f*(t+1)≤B:=by rw[hf];exact Int.ediv_mul_le _ (by omega)
 have h2:B<(f+1)*(t+1):=by rw[hf];exact Int.lt_ediv_add_one_mul_self _ (by omega)
 have h3:1≤f:=by rw[hf,Int.le_ediv_iff_mul_le (by omega)];omega
 refine ⟨h3,h1,?_⟩
 rw[Int.mul_add,Int.mul_one] at h1
 rw[Int.add_mul,Int.one_mul,Int.mul_add,Int.mul_one] at h2
 -- B < f t + f + t + 1 and f, t >= 1, so that f + t <= f t + 1
 have h4:0≤(f-1)*(t-1):=Int.mul_nonneg (by omega) (by omega)
 rw[Int.sub_mul,Int.mul_sub,Int.mul_one,Int.one_mul] at h4
 have h5:1*1≤f*t:=Int.mul_le_mul h3 ht (by omega) (by omega)
 omega
end IB
end
section
set_option linter.unusedVariables false
set_option linter.unusedVariables false
namespace IB
open Go.Lib
def isDig (c:UInt8):Prop:=48≤c.toNat∧c.toNat≤57
instance (c:UInt8):Decidable (isDig c):=by unfold isDig;exact inferInstance
def nat10 (s:List UInt8):Nat:=s.foldl (fun n c=>10*n+(c.toNat-48)) 0
theorem nat10_snoc (s:List UInt8) (c:UInt8):nat10 (s++ [c])=10*nat10 s+(c.toNat-48):=by simp[nat10]
theorem digit_toNat {d:Nat} (h:d<10):(UInt8.ofNat (48+d)).toNat=48+d:=by
 rw[UInt8.toNat_ofNat'];omega
theorem digit_of {c:UInt8} (h:isDig c):UInt8.ofNat (48+(c.toNat-48))=c:=by
 obtain ⟨h1,h2⟩:=h
 rw[show 48+(c.toNat-48)=c.toNat by omega]
 simp
theorem dec_lt {n:Nat} (h:n<10):decDigits n= [UInt8.ofNat (48+n)]:=decDigits_one h
theorem dec_ge {n:Nat} (h:¬n<10):decDigits n=decDigits (n/10)++ [UInt8.ofNat (48+n%10)]:=by rw[decDigits,dif_neg h]
theorem nat10_dec:∀n:Nat,nat10 (decDigits n)=n:=by
 intro n
 induction n using Nat.strongRecOn with
 | _ n ih=>
  by_cases h:n<10
  ·rw[dec_lt h]
   show nat10 ([]++ [_])=n
   rw[nat10_snoc,digit_toNat h];simp[nat10]
  ·rw[dec_ge h,nat10_snoc,ih _ (by omega),digit_toNat (by omega)];omega
theorem dec_dig:∀(n:Nat) (c:UInt8),c∈decDigits n→isDig c:=by
 intro n
 induction n using Nat.strongRecOn with
 | _ n ih=>
  intro c hc
  by_cases h:n<10
  ·rw[dec_lt h] at hc
   have:=List.mem_singleton.1 hc
   subst this
   unfold isDig
   rw[digit_toNat h];omega
  ·rw[dec_ge h] at hc
   rcases List.mem_append.1 hc with hc | hc
   ·exact ih _ (by omega) c hc
   ·have:=List.mem_singleton.1 hc
    subst this
    unfold isDig
    rw[digit_toNat (by omega)];omega
theorem dec_ne (n:Nat):decDigits n≠ []:=by
 by_cases h:n<10
 ·rw[dec_lt h];simp
 ·rw[dec_ge h];simp
theorem dec_head:∀n:Nat,0<n→(decDigits n).headD 0≠48:=by
 intro n
 induction n using Nat.strongRecOn with
 | _ n ih=>
  intro hn
  by_cases h:n<10
  ·rw[dec_lt h]
   intro e
   have:=congrArg UInt8.toNat e
   simp only[List.headD_cons] at this
   rw[digit_toNat h] at this
   have e2:(48:UInt8).toNat=48:=rfl
   omega
  ·rw[dec_ge h]
   have:=ih (n/10) (by omega) (by omega)
   cases hd:decDigits (n/10) with
   | nil=>exact (dec_ne _ hd).elim
   | cons x r=>rw[hd] at this;exact this
theorem dec_nat10:∀(k:Nat) (s:List UInt8),s.length=k→s≠ []→(∀c∈s,isDig c)→(s.length=1∨s.headD 0≠48)→decDigits (nat10 s)=s:=by
 intro k
 induction k with
 | zero=>intro s h1 h2;exact (h2 (List.length_eq_zero_iff.1 h1)).elim
 | succ k ih=>
  intro s h1 h2 h3 h4
  obtain ⟨t,c,rfl⟩:∃t c,s=t++ [c]:=⟨s.dropLast,s.getLast h2,(List.dropLast_concat_getLast h2).symm⟩
  have hc:=h3 c (by simp)
  have hc':=hc
  obtain ⟨c1,c2⟩:=hc'
  rw[nat10_snoc]
  by_cases ht:t= []
  ·subst ht
   have e:nat10 []=0:=rfl
   rw[e,dec_lt (by omega),Nat.mul_zero,Nat.zero_add,digit_of hc];rfl
  ·have hlen:t.length=k:=by simpa using h1
   have hpos:0<t.length:=List.length_pos_iff.2 ht
   have hhd:t.headD 0≠48:=by
    rcases h4 with h | h
    ·simp at h;exact (ht h).elim
    ·cases t with
     | nil=>exact (ht rfl).elim
     | cons x r=>exact h
   have e:=ih t hlen ht (fun c hc=>h3 c (List.mem_append_left _ hc)) (.inr hhd)
   have hm:0<nat10 t:=by
    rcases Nat.eq_zero_or_pos (nat10 t) with h | h
    ·rw[h,dec_lt (by omega)] at e
     rw[← e] at hhd
     exact (hhd rfl).elim
    ·exact h
   rw[dec_ge (by omega),show (10*nat10 t+(c.toNat-48))/10=nat10 t by omega,e,show (10*nat10 t+(c.toNat-48))%10=c.toNat-48 by omega,digit_of hc]
theorem dec_inj {m n:Nat} (h:decDigits m=decDigits n):m=n:=by rw[← nat10_dec m,h,nat10_dec]
theorem itoa_inj {m n:Int} (h:itoa m=itoa n):m=n:=by
 have key:∀(a b:Nat),45::decDigits a≠decDigits b:=fun a b e=>by
  have:=dec_dig b 45 (by rw[← e];simp)
  have e2:(45:UInt8).toNat=45:=rfl
  unfold isDig at this
  omega
 unfold itoa at h
 split at h
 ·split at h
  ·have:=dec_inj (List.cons.inj h).2;omega
  ·exact (key _ _ h).elim
 ·split at h
  ·exact (key _ _ h.symm).elim
  ·have:=dec_inj h;omega
end IB
end
section
set_option linter.unusedVariables false
set_option linter.unusedVariables false
namespace IB
open Go.Lib
def digs (s:List UInt8):List UInt8:=if s.headD 0=45 then s.tail else s
def valI (s:List UInt8):Int:=if s.headD 0=45 then -(nat10 s.tail:Int) else nat10 s
def form (s:List UInt8):Prop:=digs s≠ []∧((digs s).headD 0≠48∨s= [48])∧∀c∈digs s,isDig c
noncomputable instance (s:List UInt8):Decidable (form s):=Classical.propDecidable _
noncomputable def chkI (s:List UInt8):Int:=if form s then (if 300<(digs s).length then 4 else 0) else 11
theorem itoa_head (n:Int):(itoa n).headD 0=45↔n<0:=by
 unfold itoa
 split
 ·rename_i h;exact ⟨fun _=>h,fun _=>rfl⟩
 ·rename_i h
  refine ⟨fun e=>?_,fun h'=>(h h').elim⟩
  exfalso
  cases hd:decDigits n.toNat with
  | nil=>exact dec_ne _ hd
  | cons x r=>
   rw[hd] at e
   have:=dec_dig n.toNat x (by rw[hd];simp)
   simp only[List.headD_cons] at e
   subst e
   have e2:(45:UInt8).toNat=45:=rfl
   unfold isDig at this
   omega
theorem digs_itoa (n:Int):digs (itoa n)=decDigits n.natAbs:=by
 unfold digs
 by_cases h:n<0
 ·rw[if_pos ((itoa_head n).2 h)];unfold itoa;rw[if_pos h];rfl
 ·rw[if_neg (fun e=>h ((itoa_head n).1 e))];unfold itoa;rw[if_neg h];congr 1;omega
theorem valI_itoa (n:Int):valI (itoa n)=n:=by
 unfold valI
 by_cases h:n<0
 ·rw[if_pos ((itoa_head n).2 h)];unfold itoa;rw[if_pos h]
  simp only[List.tail_cons]
  rw[nat10_dec];omega
 ·rw[if_neg (fun e=>h ((itoa_head n).1 e))];unfold itoa;rw[if_neg h,nat10_dec];omega
theorem form_itoa (n:Int):form (itoa n):=by
 refine ⟨by rw[digs_itoa];exact dec_ne _,?_,fun c hc=>by rw[digs_itoa] at hc;exact dec_dig _ c hc⟩
 rw[digs_itoa]
 by_cases h:n=0
 ·right;subst h;exact dec_lt (by omega)
 ·left;exact dec_head _ (by omega)
theorem form_eq {s:List UInt8} (h:form s):s=itoa (valI s):=by
 obtain ⟨h1,h2,h3⟩:=h
 unfold digs at h1 h2 h3
 unfold valI
 by_cases hm:s.headD 0=45
 ·rw[if_pos hm] at h1 h2 h3 ⊢
  have hs:s=45::s.tail:=by
   cases s with
   | nil=>exact (h1 rfl).elim
   | cons x r=>simp only[List.headD_cons] at hm;subst hm;rfl
  have hne:¬s= [48]:=fun e=>by rw[e] at hm;cases hm
  have hh:s.tail.headD 0≠48:=by
   rcases h2 with h | h
   ·exact h
   ·exact (hne h).elim
  have hd:=dec_nat10 _ s.tail rfl h1 h3 (.inr hh)
  have hpos:0<nat10 s.tail:=by
   rcases Nat.eq_zero_or_pos (nat10 s.tail) with h | h
   ·rw[h] at hd
    rw[← hd] at hh
    exact (hh (by rw[dec_lt (by omega)];rfl)).elim
   ·exact h
  unfold itoa
  rw[if_pos (by omega),show (-(nat10 s.tail:Int)).natAbs=nat10 s.tail by omega,hd]
  exact hs
 ·rw[if_neg hm] at h1 h2 h3 ⊢
  have hd:=dec_nat10 _ s rfl h1 h3 (by
   rcases h2 with h | h
   ·exact .inr h
   ·left;rw[h];rfl)
  unfold itoa
  rw[if_neg (by omega),Int.toNat_natCast,hd]
theorem dec_pad (q:Nat) (hq:0<q):∀(k r:Nat),r<10^ (k+1)→decDigits (q*10^ (k+1)+r)=decDigits q++(List.replicate (k+1-(decDigits r).length) 48++decDigits r)
 | 0,r,hr=>by
  have hr:r<10:=by simpa using hr
  rw[dec_ge (by simp;omega),dec_lt hr]
  simp only[Nat.zero_add,Nat.pow_one,List.length_singleton,Nat.sub_self,List.replicate_zero,List.nil_append]
  rw[show (q*10+r)/10=q by omega,show (q*10+r)%10=r by omega]
 | k+1,r,hr=>by
  have hp:0<10^ (k+1):=Nat.pow_pos (by omega)
  have hb:q*10^ (k+1+1)=q*10^ (k+1)*10:=by rw[Nat.pow_succ,Nat.mul_assoc]
  have h1:q*10^ (k+1+1)+r=10*(q*10^ (k+1)+r/10)+r%10:=by omega
  have hm:0<q*10^ (k+1):=Nat.mul_pos hq hp
  rw[Nat.pow_succ] at hr
  rw[dec_ge (by omega),show (q*10^ (k+1+1)+r)/10=q*10^ (k+1)+r/10 by omega,show (q*10^ (k+1+1)+r)%10=r%10 by omega,dec_pad q hq k (r/10) (by omega)]
  by_cases h:r<10
  ·rw[dec_lt h,show r/10=0 by omega,dec_lt (show 0<10 by omega),Nat.mod_eq_of_lt h]
   simp only[List.length_singleton,List.append_assoc]
   congr 1
   rw[show k+1+1-1=k+1-1+1 by omega,List.replicate_succ']
   simp
  ·rw[dec_ge (n:=r) h]
   simp only[List.length_append,List.length_singleton,List.append_assoc]
   rw[show k+1+1-((decDigits (r/10)).length+1)=k+1-(decDigits (r/10)).length by omega]
end IB
end
section
set_option linter.unusedVariables false
set_option linter.unusedVariables false
namespace IB
open Go.Lib
theorem dec_len:∀(k n:Nat),n<10^ (k+1)→(decDigits n).length≤k+1
 | 0,n,h=>by rw[dec_lt (by simpa using h)];simp
 | k+1,n,h=>by
  by_cases h10:n<10
  ·rw[dec_lt h10];simp
  ·rw[Nat.pow_succ] at h
   rw[dec_ge h10]
   have:=dec_len k (n/10) (by omega)
   simp only[List.length_append,List.length_singleton];omega
def wrK (l:List Int):Nat→List UInt8
 | 0=>[]
 | m+1=>wrK l m++((if 0<m then List.replicate (9-(itoa (l.getD (l.length-1-m) 0)).length) 48 else [])++itoa (l.getD (l.length-1-m) 0))
theorem wrK_spec {l:List Int} (h:InB (10^9) l) (hne:l≠ []) (hl:l.getLast hne≠0):∀m,m<l.length→0<valB (10^9) (l.drop (l.length-1-m))∧wrK l (m+1)=decDigits (valB (10^9) (l.drop (l.length-1-m))).toNat
 | 0,hm=>by
  have e1:l.getD (l.length-1) 0=l.getLast hne:=by
   rw[List.getLast_eq_getElem,List.getD_eq_getElem?_getD,List.getElem?_eq_getElem (by omega)];rfl
  have e2:l.drop (l.length-1)= [l.getLast hne]:=by
   rw[drop_getD l _ (by omega),e1,List.drop_eq_nil_of_le (by omega)]
  have g:=h.get (show l.length-1<l.length by omega)
  rw[e1] at g
  rw[Nat.sub_zero,e2]
  simp only[valB,Int.mul_zero,Int.add_zero,wrK,Nat.lt_irrefl,if_false,List.nil_append,Nat.sub_zero]
  rw[e1]
  refine ⟨by omega,?_⟩
  unfold itoa
  rw[if_neg (by omega)]
 | m+1,hm=>by
  obtain ⟨h1,h2⟩:=wrK_spec h hne hl m (by omega)
  obtain ⟨i,hi⟩:∃i,l.length-1-(m+1)=i:=⟨_,rfl⟩
  have e1:l.length-1-m=i+1:=by omega
  rw[e1] at h1 h2
  rw[hi]
  have g:=h.get (show i<l.length by omega)
  have e2:l.drop i=l.getD i 0::l.drop (i+1):=drop_getD l i (by omega)
  rw[e2]
  simp only[valB]
  obtain ⟨v,hv⟩:=Int.eq_ofNat_of_zero_le (Int.le_of_lt h1)
  obtain ⟨x,hx⟩:=Int.eq_ofNat_of_zero_le g.1
  rw[hv] at h1 h2 ⊢
  rw[hx] at g ⊢
  have hx9:x<10^ (8+1):=by have:=g.2;omega
  have hv0:0<v:=by omega
  have e3:((x:Int)+((10^9:Nat):Int)*(v:Int))=((v*10^ (8+1)+x:Nat):Int):=by
   rw[Int.natCast_add,Int.natCast_mul,Int.mul_comm,Int.add_comm]
  refine ⟨by rw[e3];omega,?_⟩
  rw[e3,Int.toNat_natCast,dec_pad v hv0 8 x hx9]
  rw[Int.toNat_natCast] at h2
  have e4:itoa (x:Int)=decDigits x:=by unfold itoa;rw[if_neg (by omega),Int.toNat_natCast]
  rw[show wrK l (m+1+1)=wrK l (m+1)++((if 0<m+1 then List.replicate (9-(itoa (l.getD (l.length-1-(m+1)) 0)).length) 48 else [])++itoa (l.getD (l.length-1-(m+1)) 0)) from rfl,hi,hx,e4,h2,if_pos (by omega)]
theorem nat10_cons0 (s:List UInt8):nat10 (48::s)=nat10 s:=by
 have e:(48:UInt8).toNat=48:=rfl
 simp[nat10,e]
theorem strip (s:List UInt8) (h:∀c∈s,isDig c) (hp:0<nat10 s):s.dropWhile (· ==48)=decDigits (nat10 s):=by
 induction s with
 | nil=>simp[nat10] at hp
 | cons c r ih=>
  by_cases e:c=48
  ·subst e
   rw[nat10_cons0] at hp ⊢
   rw[List.dropWhile_cons_of_pos (by simp)]
   exact ih (fun c hc=>h c (List.mem_cons_of_mem _ hc)) hp
  ·rw[List.dropWhile_cons_of_neg (by simpa using e)]
   exact (dec_nat10 _ _ rfl (by simp) h (.inr (by simpa using e))).symm
end IB
end
section
set_option linter.unusedVariables false
set_option linter.unusedVariables false
namespace IB
open Go.Lib
theorem nat10_cons (c:UInt8) (s:List UInt8):nat10 (c::s)=(c.toNat-48)*10^s.length+nat10 s:=by
 refine list_snocU (fun s=>nat10 (c::s)=(c.toNat-48)*10^s.length+nat10 s) (by simp[nat10]) (fun l x ih=>?_) s
 rw[← List.cons_append,nat10_snoc,nat10_snoc,ih,List.length_append,List.length_singleton,Nat.pow_succ,Nat.mul_add,Nat.mul_comm 10 (_* _),Nat.mul_assoc]
 omega
where
 list_snocU (P:List UInt8→Prop) (h0:P []) (h1:∀l x,P l→P (l++ [x])) (l:List UInt8):P l:=by
  have:∀n (l:List UInt8),l.length=n→P l:=by
   intro n
   induction n with
   | zero=>intro l hl;rw[List.length_eq_zero_iff.1 hl];exact h0
   | succ n ih=>
    intro l hl
    have hne:l≠ []:=fun e=>by rw[e] at hl;simp at hl
    rw[← List.dropLast_concat_getLast hne]
    exact h1 _ _ (ih _ (by simp[hl]))
  exact this _ l rfl
def dgt (s:List UInt8) (i:Nat):Int:=((s.getD (s.length-1-i) 48).toNat:Int)-48
def rdK (s:List UInt8) (n:Nat):Nat→List Int
 | 0=>List.replicate n 0
 | i+1=>(rdK s n i).set (i/9) ((rdK s n i).getD (i/9) 0+dgt s i*10^ (i%9))
theorem dgt_rng {s:List UInt8} (h:∀c∈s,isDig c) {i:Nat} (hi:i<s.length):0≤dgt s i∧dgt s i≤9∧dgt s i=(((s.getD (s.length-1-i) 48).toNat-48:Nat):Int):=by
 have e:s.getD (s.length-1-i) 48=s[s.length-1-i]:=by rw[List.getD_eq_getElem?_getD,List.getElem?_eq_getElem (by omega)];rfl
 have:=h _ (List.getElem_mem (show s.length-1-i<s.length by omega))
 unfold dgt
 rw[e]
 unfold isDig at this
 omega
theorem drop_nat10 {s:List UInt8} {i:Nat} (hi:i<s.length):nat10 (s.drop (s.length-(i+1)))=((s.getD (s.length-1-i) 48).toNat-48)*10^i+nat10 (s.drop (s.length-i)):=by
 have e1:s.length-(i+1)=s.length-1-i:=by omega
 have e:s.getD (s.length-1-i) 48=s[s.length-1-i]:=by rw[List.getD_eq_getElem?_getD,List.getElem?_eq_getElem (by omega)];rfl
 rw[e1,List.drop_eq_getElem_cons (by omega),nat10_cons,e,show s.length-1-i+1=s.length-i by omega,List.length_drop,show s.length-(s.length-i)=i by omega]
theorem rdK_spec {s:List UInt8} (h:∀c∈s,isDig c) {n:Nat} (hn:s.length≤9*n):∀i,i≤s.length→(rdK s n i).length=n∧InB (10^9) (rdK s n i)∧valB (10^9) (rdK s n i)=nat10 (s.drop (s.length-i))∧
  (∀t,i≤9*t→(rdK s n i).getD t 0=0)∧(rdK s n i).getD (i/9) 0<10^ (i%9)
 | 0,_=>by
  have hz:∀t,(List.replicate n (0:Int)).getD t 0=0:=fun t=>by rw[List.getD_eq_getElem?_getD,List.getElem?_replicate];split<;>rfl
  refine ⟨by simp[rdK],fun x hx=>?_,?_,fun t _=>hz t,?_⟩
  ·rw[(List.mem_replicate.1 hx).2];omega
  ·simp only[rdK];rw[val_zeros,Nat.sub_zero,List.drop_length];rfl
  ·simp only[rdK];rw[hz];decide
 | i+1,hi=>by
  obtain ⟨h1,h2,h3,h4,h5⟩:=rdK_spec h hn i (by omega)
  obtain ⟨d1,d2,d3⟩:=dgt_rng h (show i<s.length by omega)
  have hi9:i/9<n:=by omega
  have g:=h2.get (show i/9<(rdK s n i).length by omega)
  simp only[rdK]
  generalize rdK s n i=l at h1 h2 h3 h4 h5 g ⊢
  have hp:(0:Int)<10^ (i%9):=Int.pow_pos (by omega)
  have hm:dgt s i*10^ (i%9)≤9*10^ (i%9):=Int.mul_le_mul_of_nonneg_right d2 (Int.le_of_lt hp)
  have hm0:0≤dgt s i*10^ (i%9):=Int.mul_nonneg d1 (Int.le_of_lt hp)
  have hp1:(10:Int)^ (i%9+1)=10*10^ (i%9):=by rw[Int.pow_succ,Int.mul_comm]
  have hlt:l.getD (i/9) 0+dgt s i*10^ (i%9)<10^ (i%9+1):=by omega
  have hle:(10:Int)^ (i%9+1)≤((10^9:Nat):Int):=by
   have:10^ (i%9+1)≤10^9:=Nat.pow_le_pow_right (by omega) (by omega)
   exact_mod_cast this
  refine ⟨by rw[List.length_set,h1],in_set h2 _ ⟨by omega,by omega⟩,?_,fun t ht=>?_,?_⟩
  ·rw[val_set _ _ _ (by omega),h3,drop_nat10 (by omega)]
   have e1:((10^9:Nat):Int)^ (i/9)*(dgt s i*10^ (i%9))=dgt s i*10^i:=by
    have e2:((10^9:Nat):Int)^ (i/9)=(10:Int)^ (9*(i/9)):=by
     rw[Int.pow_mul];rfl
    rw[e2,Int.mul_left_comm,← Int.pow_add,show 9*(i/9)+i%9=i by omega]
   rw[show l.getD (i/9) 0+dgt s i*10^ (i%9)-l.getD (i/9) 0=dgt s i*10^ (i%9) by omega,e1,d3]
   generalize (s.getD (s.length-1-i) 48).toNat-48=e
   rw[Int.natCast_add,Int.natCast_mul,Int.natCast_pow,Int.add_comm]
   rfl
  ·rw[getD_set _ _ _ (by omega),if_neg (by omega),h4 t (by omega)]
  ·rw[getD_set _ _ _ (by omega)]
   by_cases e:(i+1)/9=i/9
   ·rw[if_pos e,show (i+1)%9=i%9+1 by omega];exact hlt
   ·rw[if_neg e,h4 _ (by omega)]
    exact Int.pow_pos (by omega)
theorem rdK_all {s:List UInt8} (h:∀c∈s,isDig c) {n:Nat} (hn:s.length≤9*n):trimL (rdK s n s.length)=limbs (10^9) (nat10 s):=by
 obtain ⟨h1,h2,h3,h4,h5⟩:=rdK_spec h hn s.length (Nat.le_refl _)
 rw[Nat.sub_self,List.drop_zero] at h3
 rw[trim_limbs (by decide) h2,h3,Int.toNat_natCast]
end IB
end
section
set_option linter.unusedVariables false
set_option linter.unusedVariables false
namespace IB
open Go.Lib
theorem nat10_append (a:List UInt8):∀b:List UInt8,nat10 (a++b)=nat10 a*10^b.length+nat10 b:=by
 intro b
 refine nat10_cons.list_snocU (fun b=>nat10 (a++b)=nat10 a*10^b.length+nat10 b) (by simp[nat10]) (fun l x ih=>?_) b
 rw[← List.append_assoc,nat10_snoc,nat10_snoc,ih,List.length_append,List.length_singleton,Nat.pow_succ,Nat.mul_add,Nat.mul_comm 10 (_* _),Nat.mul_assoc]
 omega
theorem nat10_lt (s:List UInt8) (h:∀c∈s,isDig c):nat10 s<10^s.length:=by
 revert h
 refine nat10_cons.list_snocU (fun s=>(∀c∈s,isDig c)→nat10 s<10^s.length) (fun _=>by simp[nat10]) (fun l x ih h=>?_) s
 have h1:=ih fun c hc=>h c (List.mem_append_left _ hc)
 have h2:=h x (by simp)
 unfold isDig at h2
 rw[nat10_snoc,List.length_append,List.length_singleton,Nat.pow_succ]
 omega
def grp (s:List UInt8) (k:Nat):List UInt8:=(s.take (s.length-6*k)).drop (s.length-6*(k+1))
def rdG (s:List UInt8):Nat→List Int
 | 0=>[]
 | k+1=>rdG s k++ [(nat10 (grp s k):Int)]
theorem grp_app (s:List UInt8) (k:Nat):s.drop (s.length-6*(k+1))=grp s k++s.drop (s.length-6*k):=by
 unfold grp
 have e:=List.drop_append_of_le_length (l₁:=s.take (s.length-6*k)) (l₂:=s.drop (s.length-6*k)) (i:=s.length-6*(k+1)) (by rw[List.length_take];omega)
 rw[List.take_append_drop] at e
 exact e
theorem grp_len (s:List UInt8) (k:Nat):(grp s k).length≤6:=by
 unfold grp;rw[List.length_drop,List.length_take];omega
theorem grp_dig {s:List UInt8} (h:∀c∈s,isDig c) (k:Nat):∀c∈grp s k,isDig c:=fun c hc=>h c (List.mem_of_mem_take (List.mem_of_mem_drop hc))
theorem rdG_spec {s:List UInt8} (h:∀c∈s,isDig c):∀k,6*k<s.length+6→(rdG s k).length=k∧InB (10^6) (rdG s k)∧valB (10^6) (rdG s k)=nat10 (s.drop (s.length-6*k))
 | 0,_=>⟨rfl,InB.nil,by simp only[rdG];rw[Nat.mul_zero,Nat.sub_zero,List.drop_length];rfl⟩
 | k+1,hk=>by
  obtain ⟨h1,h2,h3⟩:=rdG_spec h k (by omega)
  have hg:=nat10_lt _ (grp_dig h k)
  have hg6:10^ (grp s k).length≤10^6:=Nat.pow_le_pow_right (by omega) (grp_len s k)
  refine ⟨by simp[rdG,h1],InB.append.2 ⟨h2,InB.cons.2 ⟨⟨by omega,by omega⟩,InB.nil⟩⟩,?_⟩
  simp only[rdG]
  rw[val_snoc,h1,h3,grp_app,nat10_append,List.length_drop,show s.length-(s.length-6*k)=6*k by omega]
  have e:((10^6:Nat):Int)^k=(((10:Nat)^ (6*k):Nat):Int):=by
   rw[Nat.pow_mul];exact (Int.natCast_pow _ _).symm
  rw[e,Int.natCast_add,Int.natCast_mul,Int.mul_comm,Int.add_comm]
theorem rdG_all {s:List UInt8} (h:∀c∈s,isDig c) {k:Nat} (hk:6*k<s.length+6) (hl:s.length≤6*k):trimL (rdG s k)=limbs (10^6) (nat10 s):=by
 obtain ⟨h1,h2,h3⟩:=rdG_spec h k hk
 rw[show s.length-6*k=0 by omega,List.drop_zero] at h3
 rw[trim_limbs (by decide) h2,h3,Int.toNat_natCast]
def six (x:Nat):List UInt8:=[UInt8.ofNat (48+x/100000%10),UInt8.ofNat (48+x/10000%10),UInt8.ofNat (48+x/1000%10),UInt8.ofNat (48+x/100%10),UInt8.ofNat (48+x/10%10),UInt8.ofNat (48+x%10)]
theorem six_val {x:Nat} (h:x<1000000):nat10 (six x)=x:=by
 have d:∀n,(UInt8.ofNat (48+n%10)).toNat=48+n%10:=fun n=>digit_toNat (by omega)
 simp only[nat10,six,List.foldl_cons,List.foldl_nil,d]
 omega
theorem six_dig (x:Nat):∀c∈six x,isDig c:=by
 have d:∀n,isDig (UInt8.ofNat (48+n%10)):=fun n=>by unfold isDig;rw[digit_toNat (by omega)];omega
 intro c hc
 simp only[six,List.mem_cons,List.not_mem_nil,or_false] at hc
 rcases hc with rfl | rfl | rfl | rfl | rfl | rfl<;>exact d _
def wrG:List Int→List UInt8
 | []=>[]
 | x::r=>wrG r++six x.toNat
theorem wrG_len:∀l:List Int,(wrG l).length=6*l.length
 | []=>rfl
 | x::r=>by simp only[wrG,List.length_append,wrG_len r,List.length_cons];simp[six];omega
theorem wrG_dig:∀l:List Int,∀c∈wrG l,isDig c
 | [],c,hc=>by simp[wrG] at hc
 | x::r,c,hc=>by
  simp only[wrG] at hc
  rcases List.mem_append.1 hc with h | h
  ·exact wrG_dig r c h
  ·exact six_dig _ c h
theorem wrG_val:∀l:List Int,InB (10^6) l→(nat10 (wrG l):Int)=valB (10^6) l
 | [],_=>rfl
 | x::r,h=>by
  obtain ⟨h1,h2⟩:=InB.cons.1 h
  have ih:=wrG_val r h2
  have h6:(six x.toNat).length=6:=rfl
  simp only[wrG,valB]
  rw[nat10_append,h6,six_val (by omega),Int.natCast_add,Int.natCast_mul,ih,Int.mul_comm,Int.add_comm]
  congr 1
  omega
theorem wrG_dec {l:List Int} (h:InB (10^6) l) (hp:0<valB (10^6) l):(wrG l).dropWhile (· ==48)=decDigits (valB (10^6) l).toNat:=by
 have:=wrG_val l h
 rw[strip _ (wrG_dig l) (by omega),← this,Int.toNat_natCast]
end IB
end
section
set_option linter.unusedVariables false
set_option linter.unusedVariables false
namespace IB
open Go.Lib
def numS (q:Rat):List UInt8:=if q.den=1 then itoa q.num else itoa q.num++47::decDigits q.den
def topS (s:List UInt8):List UInt8:=s.takeWhile (· != 47)
def botS (s:List UInt8):List UInt8:=s.dropWhile (· != 47)
theorem itoa_no (n:Int):∀c∈itoa n,c≠47:=by
 intro c hc e
 subst e
 have key:∀m:Nat,(47:UInt8) ∉ decDigits m:=fun m h=>by
  have:=dec_dig m 47 h
  have e2:(47:UInt8).toNat=47:=rfl
  unfold isDig at this
  omega
 unfold itoa at hc
 split at hc
 ·rcases List.mem_cons.1 hc with h | h
  ·cases h
  ·exact key _ h
 ·exact key _ hc
theorem takeWhile_app {p:UInt8→Bool} {a b:List UInt8} (h:∀c∈a,p c=true):(a++b).takeWhile p=a++b.takeWhile p:=by
 induction a with
 | nil=>rfl
 | cons x r ih=>
  rw[List.cons_append,List.takeWhile_cons_of_pos (h x (by simp)),ih fun c hc=>h c (List.mem_cons_of_mem _ hc)];rfl
theorem dropWhile_app {p:UInt8→Bool} {a b:List UInt8} (h:∀c∈a,p c=true):(a++b).dropWhile p=b.dropWhile p:=by
 induction a with
 | nil=>rfl
 | cons x r ih=>
  rw[List.cons_append,List.dropWhile_cons_of_pos (h x (by simp)),ih fun c hc=>h c (List.mem_cons_of_mem _ hc)]
theorem top_numS (q:Rat):topS (numS q)=itoa q.num:=by
 have hno:∀c∈itoa q.num,(c != 47)=true:=fun c hc=>by simpa using itoa_no _ c hc
 unfold topS numS
 split
 ·have:=takeWhile_app (b:=[]) hno;simpa using this
 ·rw[takeWhile_app hno,List.takeWhile_cons_of_neg (by simp)];simp
theorem bot_numS (q:Rat):botS (numS q)=if q.den=1 then [] else 47::decDigits q.den:=by
 have hno:∀c∈itoa q.num,(c != 47)=true:=fun c hc=>by simpa using itoa_no _ c hc
 unfold botS numS
 split
 ·have:=dropWhile_app (b:=[]) hno;simpa using this
 ·rw[dropWhile_app hno,List.dropWhile_cons_of_neg (by simp)]
def denS (s:List UInt8):Nat:=if botS s= [] then 1 else nat10 (botS s).tail
noncomputable def valQ (s:List UInt8):Rat:=mkRat (valI (topS s)) (denS s)
def formQ (s:List UInt8):Prop:=form (topS s)∧(botS s= []∨((botS s).tail=decDigits (denS s)∧2≤denS s))
theorem den_numS (q:Rat):denS (numS q)=q.den:=by
 unfold denS
 rw[bot_numS]
 by_cases h:q.den=1
 ·rw[if_pos h,if_pos rfl,h]
 ·rw[if_neg h,if_neg (by simp),List.tail_cons,nat10_dec]
theorem valQ_numS (q:Rat):valQ (numS q)=q:=by
 unfold valQ
 rw[top_numS,valI_itoa,den_numS,Rat.mkRat_self]
theorem numS_inj {p q:Rat} (h:numS p=numS q):p=q:=by rw[← valQ_numS p,h,valQ_numS]
theorem formQ_numS (q:Rat):formQ (numS q):=by
 refine ⟨by rw[top_numS];exact form_itoa _,?_⟩
 rw[bot_numS,den_numS]
 by_cases h:q.den=1
 ·left;rw[if_pos h]
 ·right;rw[if_neg h]
  have:=q.den_nz
  exact ⟨rfl,by omega⟩
theorem reduced_numS (q:Rat):(valI (topS (numS q))).natAbs.gcd (denS (numS q))=1:=by
 rw[top_numS,valI_itoa,den_numS];exact q.reduced
theorem numS_eq {s:List UInt8} (h:formQ s) (hg:(valI (topS s)).natAbs.gcd (denS s)=1):s=numS (valQ s):=by
 obtain ⟨h1,h2⟩:=h
 have hs:topS s++botS s=s:=List.takeWhile_append_dropWhile
 have hd0:denS s≠0:=by
  rcases h2 with h | ⟨_,h⟩
  ·unfold denS;rw[if_pos h];decide
  ·omega
 have hq:valQ s= ⟨valI (topS s),denS s,hd0,hg⟩:=by unfold valQ;rw[← Rat.mk_eq_mkRat]
 have e1:(valQ s).num=valI (topS s):=by rw[hq]
 have e2:(valQ s).den=denS s:=by rw[hq]
 unfold numS
 rw[e1,e2,← form_eq h1]
 rcases h2 with h | ⟨h3,h4⟩
 ·have:denS s=1:=by unfold denS;rw[if_pos h]
  rw[if_pos this]
  rw[h,List.append_nil] at hs
  exact hs.symm
 ·rw[if_neg (by omega),← h3]
  have hb:botS s=47::(botS s).tail:=by
   cases hb:botS s with
   | nil=>
    have:denS s=1:=by unfold denS;rw[if_pos hb]
    omega
   | cons x r=>
    have hx:x=47:=by
     have hd:=List.head?_dropWhile_not (p:=(· != (47:UInt8))) (l:=s)
     have hb':s.dropWhile (· != 47)=x::r:=hb
     rw[hb'] at hd
     simpa using hd
    subst hx;rfl
  rw[← hb,hs]
end IB
end
section
set_option linter.unusedVariables false
set_option linter.unusedVariables false
namespace IB
open Go.Lib
theorem numS_mk (n:Int) (d:Nat) (hd:d≠0):numS (mkRat n d)=if d/d.gcd n.natAbs=1 then itoa (n/(d.gcd n.natAbs:Nat)) else itoa (n/(d.gcd n.natAbs:Nat))++47::decDigits (d/d.gcd n.natAbs):=by
 unfold numS
 rw[Rat.num_mkRat,Rat.den_mkRat,if_neg hd,if_neg hd]
theorem add_parts (p q:Rat):p+q=mkRat (p.num*q.den+q.num*p.den) (p.den*q.den):=Rat.add_def' p q
theorem sub_parts (p q:Rat):p-q=mkRat (p.num*q.den-q.num*p.den) (p.den*q.den):=Rat.sub_def' p q
theorem mul_parts (p q:Rat):p*q=mkRat (p.num*q.num) (p.den*q.den):=Rat.mul_def' p q
theorem mk_neg_den (n:Int) (d:Int) (hd:d<0):Rat.divInt n d=mkRat (-n) (-d).toNat:=by
 rw[← Rat.neg_divInt_neg]
 have: -d=((-d).toNat:Int):=by omega
 rw[this]
 exact Rat.divInt_ofNat _ _
theorem mk_pos_den (n:Int) (d:Int) (hd:0<d):Rat.divInt n d=mkRat n d.toNat:=by
 have:d=(d.toNat:Int):=by omega
 conv=>lhs;rw[this]
 exact Rat.divInt_ofNat _ _
theorem div_parts (p q:Rat) (hq:q≠0):p/q=Rat.divInt (p.num*q.den) (p.den*q.num):=by
 rw[Rat.div_def,Rat.inv_def]
 conv=>lhs;lhs;rw[← Rat.num_divInt_den p]
 rw[Rat.divInt_mul_divInt]
end IB
end
section
set_option linter.unusedVariables false
set_option linter.unusedVariables false
namespace IB
open Go.Lib
def sgn (b:Bool) (m:Nat):Int:=if b then -(m:Int) else m
def wrM (b:Bool) (m:Nat):List UInt8:=if m=0 then [48] else if b then 45::decDigits m else decDigits m
theorem wrM_eq (b:Bool) (m:Nat):wrM b m=itoa (sgn b m):=by
 unfold wrM sgn itoa
 by_cases h:m=0
 ·subst h
  rw[if_pos rfl]
  cases b<;>exact (dec_lt (show 0<10 by omega)).symm
 ·rw[if_neg h]
  cases b
  ·show decDigits m=if (m:Int)<0 then 45::decDigits (m:Int).natAbs else decDigits (m:Int).toNat
   rw[if_neg (by omega),Int.toNat_natCast]
  ·show 45::decDigits m=if -(m:Int)<0 then 45::decDigits (-(m:Int)).natAbs else decDigits (-(m:Int)).toNat
   rw[if_pos (by omega),show (-(m:Int)).natAbs=m by omega]
theorem small_div (x y:Int) (hy:y≠0):(if x.tmod y≠0∧¬(x.tmod y<0↔y<0) then (x.tdiv y-1,x.tmod y+y) else (x.tdiv y,x.tmod y))=(x.fdiv y,x.fmod y):=by
 have h1:=Int.tmod_add_mul_tdiv x y
 have hlt:(x.tmod y).natAbs<y.natAbs:=by rw[Int.natAbs_tmod];exact Nat.mod_lt _ (by omega)
 rcases Int.lt_or_gt_of_ne hy with hn | hp
 ·split
  ·rename_i h
   have:=(Int.fdiv_fmod_unique' (a:=x) (r:=x.tmod y+y) (q:=x.tdiv y-1) hn).2 ⟨by rw[Int.mul_sub,Int.mul_one];omega,by omega,by omega⟩
   rw[this.1,this.2]
  ·rename_i h
   have:=(Int.fdiv_fmod_unique' (a:=x) (r:=x.tmod y) (q:=x.tdiv y) hn).2 ⟨h1,by omega,by omega⟩
   rw[this.1,this.2]
 ·split
  ·rename_i h
   have:=(Int.fdiv_fmod_unique (a:=x) (r:=x.tmod y+y) (q:=x.tdiv y-1) hp).2 ⟨by rw[Int.mul_sub,Int.mul_one];omega,by omega,by omega⟩
   rw[this.1,this.2]
  ·rename_i h
   have:=(Int.fdiv_fmod_unique (a:=x) (r:=x.tmod y) (q:=x.tdiv y) hp).2 ⟨h1,by omega,by omega⟩
   rw[this.1,this.2]
theorem big_div (b:Bool) (m:Nat) (c:Bool) (n:Nat) (hn:0<n):
  (sgn (b != c) (if b≠c∧0<m%n then m/n+1 else m/n),sgn c (if b≠c∧0<m%n then n-m%n else m%n))=((sgn b m).fdiv (sgn c n),(sgn b m).fmod (sgn c n)):=by
 have h1:=Nat.mod_add_div m n
 have h2:=Nat.mod_lt m hn
 have h1':((m%n:Nat):Int)+(n:Int)*((m/n:Nat):Int)=m:=by exact_mod_cast h1
 generalize m%n=r at h1 h1' h2 ⊢
 generalize m/n=q at h1 h1' ⊢
 cases b<;>cases c<;>simp only[sgn,bne_self_eq_false,Bool.false_eq_true,if_false,if_true,ne_eq,not_true_eq_false,false_and,reduceCtorEq,not_false_eq_true,true_and,Bool.bne_true,Bool.bne_false,Bool.not_false]
 ·have:=(Int.fdiv_fmod_unique (a:=(m:Int)) (b:=(n:Int)) (r:=(r:Int)) (q:=(q:Int)) (by omega)).2 ⟨h1',by omega,by omega⟩
  rw[this.1,this.2]
 ·by_cases h:0<r
  ·have:=(Int.fdiv_fmod_unique' (a:=(m:Int)) (b:= -(n:Int)) (r:= -((n-r:Nat):Int)) (q:= -((q+1:Nat):Int)) (by omega)).2 ⟨by rw[Int.neg_mul_neg];simp only[Int.natCast_add,Int.mul_add];omega,by omega,by omega⟩
   rw[if_pos h,if_pos h,this.1,this.2]
  ·have:=(Int.fdiv_fmod_unique' (a:=(m:Int)) (b:= -(n:Int)) (r:= -(r:Int)) (q:= -(q:Int)) (by omega)).2 ⟨by rw[Int.neg_mul_neg];omega,by omega,by omega⟩
   rw[if_neg h,if_neg h,this.1,this.2]
 ·by_cases h:0<r
  ·have:=(Int.fdiv_fmod_unique (a:= -(m:Int)) (b:=(n:Int)) (r:=((n-r:Nat):Int)) (q:= -((q+1:Nat):Int)) (by omega)).2 ⟨by rw[Int.mul_neg];simp only[Int.natCast_add,Int.mul_add];omega,by omega,by omega⟩
   rw[if_pos h,if_pos h,this.1,this.2]
  ·have:=(Int.fdiv_fmod_unique (a:= -(m:Int)) (b:=(n:Int)) (r:=(r:Int)) (q:= -(q:Int)) (by omega)).2 ⟨by rw[Int.mul_neg];omega,by omega,by omega⟩
   rw[if_neg h,if_neg h,this.1,this.2]
 ·have:=(Int.fdiv_fmod_unique' (a:= -(m:Int)) (b:= -(n:Int)) (r:= -(r:Int)) (q:=(q:Int)) (by omega)).2 ⟨by rw[Int.neg_mul];omega,by omega,by omega⟩
  rw[this.1,this.2]
end IB
end
section
set_option linter.unusedVariables false
set_option linter.unusedVariables false
namespace IB
open Go.Lib
noncomputable instance (s:List UInt8):Decidable (formQ s):=Classical.propDecidable _
noncomputable def chkQ (s:List UInt8):Int:=if formQ s then (if 300<(digs (topS s)).length∨300<(botS s).tail.length then 4 else if (valI (topS s)).natAbs.gcd (denS s)=1 then 0 else 11) else 11
theorem chkQ_ok {s:List UInt8} (h:chkQ s=0):s=numS (valQ s)∧(digs (topS s)).length≤300∧(botS s).tail.length≤300:=by
 unfold chkQ at h
 split at h
 ·rename_i hf
  split at h
  ·cases h
  ·rename_i hl
   split at h
   ·rename_i hg
    exact ⟨numS_eq hf hg,by omega,by omega⟩
   ·cases h
 ·cases h
def lim (n:Int):Bool:=decide (300<(decDigits n.natAbs).length)
noncomputable def bothQ (a b:List UInt8) (f:Rat→Rat→List UInt8 × Int):List UInt8 × Int:=if chkQ a≠0 then ([],chkQ a) else if chkQ b≠0 then ([],chkQ b) else f (valQ a) (valQ b)
noncomputable def addQ (a b:List UInt8):List UInt8 × Int:=bothQ a b fun p q=>if lim (p.num*q.den) || lim (q.num*p.den) || lim (p.num*q.den+q.num*p.den) || lim (p.den*q.den) then ([],4) else (numS (p+q),0)
noncomputable def subQ (a b:List UInt8):List UInt8 × Int:=bothQ a b fun p q=>if lim (p.num*q.den) || lim (q.num*p.den) || lim (p.num*q.den-q.num*p.den) || lim (p.den*q.den) then ([],4) else (numS (p-q),0)
noncomputable def mulQ (a b:List UInt8):List UInt8 × Int:=bothQ a b fun p q=>if lim (p.num*q.num) || lim (p.den*q.den) then ([],4) else (numS (p*q),0)
noncomputable def divQ (a b:List UInt8):List UInt8 × Int:=bothQ a b fun p q=>if q=0 then ([],12) else if lim (p.num*q.den) || lim (q.num*p.den) then ([],4) else (numS (p/q),0)
end IB
end
section
open Go Go.Proofs Go.Eng Go.Shelf IB
namespace RB
set_option maxRecDepth 10000
set_option linter.unusedVariables false
set_option linter.unusedSimpArgs false
abbrev I (n:Int):SV:=.val (.int .i64 n)
abbrev Ls (xs:List Int):SV:=.seq (.int .i64) xs
abbrev S (s:List UInt8):SV:=.str s
abbrev B9:Nat:=1000000000
set_option maxRecDepth 10000
set_option linter.unusedVariables false
theorem ix_at {n:Int} {C:Nat→Prop} (j:Nat) (e:n=(j:Int)) (h:C j):Ix n C:=by
 refine ⟨fun i e'=>?_⟩
 have:j=i:=by omega
 subst this;exact h
theorem get9 {l:List Int} (h:InB B9 l) (i:Nat):0≤l.getD i 0∧l.getD i 0<1000000000:=h.getD0 (by decide) i
theorem take_get (xs:List Int) (k:Nat) (h:k<xs.length):xs.take (k+1)=xs.take k++ [xs.getD k 0]:=by
 rw[List.take_succ_eq_append_getElem h]
 simp[List.getD_eq_getElem?_getD,h]
theorem getD_take (xs:List Int) (k i:Nat) (h:i<k):(xs.take k).getD i 0=xs.getD i 0:=by
 simp[List.getD_eq_getElem?_getD,List.getElem?_take,h]
abbrev V (xs:List Int):HO:=.vec 1 (.int .i64) xs 3
theorem b131 (xs:List Int):bodyL Tryz.prog [] { asks:=[(0,[0])] } Tryz.f137 0 false [.any] (.int .i64) xs 3 (.ref 0 1) (trimL xs):=by
 skip
 refine Ask.mk ⟨{ X:=Nat,pre:=fun i=>i≤xs.length∧trimL (xs.take i)=trimL xs,mod:=fun i _=>[(0,.ref 0 1)],heap:=fun i _=>[V (xs.take i),V []],mu:=fun i=>i,objs:=[0] },rfl,?_⟩
 (repeat'((conv=>whnf);first|refine Zn ?_|fail))
 refine ⟨⟨xs.length,⟨Nat.le_refl _,by rw[List.take_length]⟩,?_⟩,fun (i:Nat) hi=>?_⟩
 ·(repeat'(first|exact trivial|rfl|exact Nat.one_pos|refine And.intro ?_ ?_|fail))
  exact (List.take_length).symm
 ·obtain ⟨hi1,hi2⟩:=hi
  have hl:(xs.take i).length=i:=by rw[List.length_take];omega
  (repeat'((conv=>whnf);first|refine Zg fun _=>?_|fail))
  (refine Br.mk (fun _=>?_) (fun _=>?_))
  ·rename_i h1
   have h0:0<i:=by omega
   obtain ⟨k,rfl⟩:∃k,i=k+1:=⟨i-1,by omega⟩
   (repeat'((conv=>whnf);first|refine Zg fun _=>?_|refine Zn ?_|fail))
   refine ix_at k (by omega) ?_
   (repeat'((conv=>whnf);first|refine Zg fun _=>?_|fail))
   (refine Br.mk (fun _=>?_) (fun _=>?_))
   ·rename_i hz
    rw[getD_take _ _ _ (by omega)] at hz
    (repeat'((conv=>whnf);first|refine Zg fun _=>?_|refine Zn ?_|fail))
    refine Own.l (Own.r ?_)
    (repeat'((conv=>whnf);first|refine Zn ?_|fail))
    refine ix_at k (by omega) ?_
    skip
    refine ⟨(k:Nat),by show k<k+1;omega,⟨by omega,?_⟩,?_⟩
    ·rw[← hi2,take_get _ _ (by omega),hz,trim_snoc_zero]
    ·(repeat'(first|exact trivial|rfl|exact Nat.one_pos|refine And.intro ?_ ?_|fail))
     rw[List.take_take];congr 1;omega
   ·rename_i hz
    rw[getD_take _ _ _ (by omega)] at hz
    skip
    (conv=>whnf)
    (repeat'(first|rfl|refine And.intro ?_ ?_|fail))
    rw[← hi2,take_get _ _ (by omega)]
    exact (trim_snoc _ _ hz).symm
  ·have:i=0:=by omega
   subst this
   skip
   (conv=>whnf)
   (repeat'(first|rfl|refine And.intro ?_ ?_|fail))
   rw[← hi2];rfl
theorem b131s (xs:List Int):body Tryz.prog [] { asks:=[(0,[])] } false Tryz.f137 [Ls xs] (Ls (trimL xs)):=by
 skip
 refine Ask.mk ⟨{ X:=Nat,pre:=fun i=>i≤xs.length∧trimL (xs.take i)=trimL xs,mod:=fun i _=>[(0,Ls (xs.take i))],heap:=fun i _=>[V []],mu:=fun i=>i },rfl,?_⟩
 (repeat'((conv=>whnf);first|refine Zn ?_|fail))
 refine ⟨⟨xs.length,⟨Nat.le_refl _,by rw[List.take_length]⟩,?_⟩,fun (i:Nat) hi=>?_⟩
 ·(repeat'(first|exact trivial|rfl|refine And.intro ?_ ?_|fail))
  exact (List.take_length).symm
 ·obtain ⟨hi1,hi2⟩:=hi
  have hl:(xs.take i).length=i:=by rw[List.length_take];omega
  (repeat'((conv=>whnf);first|refine Zg fun _=>?_|fail))
  (refine Br.mk (fun _=>?_) (fun _=>?_))
  ·rename_i h1
   have h0:0<i:=by omega
   obtain ⟨k,rfl⟩:∃k,i=k+1:=⟨i-1,by omega⟩
   (repeat'((conv=>whnf);first|refine Zg fun _=>?_|refine Zn ?_|fail))
   refine ix_at k (by omega) ?_
   (repeat'((conv=>whnf);first|refine Zg fun _=>?_|fail))
   (refine Br.mk (fun _=>?_) (fun _=>?_))
   ·rename_i hz
    rw[getD_take _ _ _ (by omega)] at hz
    (repeat'((conv=>whnf);first|refine Zg fun _=>?_|refine Zn ?_|fail))
    refine ix_at k (by omega) ?_
    skip
    refine ⟨(k:Nat),by show k<k+1;omega,⟨by omega,?_⟩,?_⟩
    ·rw[← hi2,take_get _ _ (by omega),hz,trim_snoc_zero]
    ·(repeat'(first|exact trivial|rfl|refine And.intro ?_ ?_|fail))
     rw[List.take_take];congr 1;omega
   ·rename_i hz
    rw[getD_take _ _ _ (by omega)] at hz
    skip
    (conv=>whnf)
    skip
    rw[← hi2,take_get _ _ (by omega)]
    exact (trim_snoc _ _ hz).symm
  ·have:i=0:=by omega
   subst this
   skip
   (conv=>whnf)
   skip
   rw[← hi2];rfl
def c131:Con:=duoCon 137 false 0 false (fun args o K=>match args,o with | [.any],.vec 1 (.int .i64) xs 3=>K (.ref 0 1) (.vec 1 (.int .i64) (trimL xs) 3) | _,_=>False)
 (fun args K=>match args with | [.seq (.int .i64) xs]=>K (Ls (trimL xs)) | _=>False)
theorem k131:ConOK Tryz.prog c131:=by
 refine duoOK_of (enters_of Tryz.func137 (by kernel_rfl) rfl) ?_ ?_
 ·intro args t xs e K hfl h
  split at h
  ·rename_i zs heq
   cases heq
   first | exact ⟨_,_,h,ltri_of_body (Γ:=[]) (by simp) Tryz.func137 (by simp[Tryz.ntmps137]) rfl (b131 zs)⟩ | exact ⟨_,_,h,ltri_of_body (Γ:=[]) (by simp) Tryz.func137 (by simp[Tryz.ntmps137]) rfl (b131 xs)⟩
  ·exact h.elim
 ·intro args K h
  split at h
  ·rename_i xs
   exact ⟨_,h,tri_of_body (Γ:=[]) (by simp) Tryz.func137 (by simp[Tryz.ntmps137]) rfl (b131s xs)⟩
  ·exact h.elim
theorem b132 (l:List Int) (i:Int) (h:0≤i):body Tryz.prog [] {} true Tryz.f140 [Ls l,I i] (I (l.getD i.toNat 0)):=by
 (repeat'((conv=>whnf);first|refine Zg fun _=>?_|fail))
 (refine Br.mk (fun _=>?_) (fun _=>?_))
 ·(repeat'((conv=>whnf);first|refine Zn ?_|fail))
  refine ix_at i.toNat (by omega) ?_
  (repeat'((conv=>whnf);first|refine Zg fun _=>?_|fail))
  (conv=>whnf)
  (repeat'(first|rfl|refine And.intro ?_ ?_|fail))
 ·rename_i h1
  have:l.getD i.toNat 0=0:=getD_out _ _ (by omega)
  skip
  (conv=>whnf)
  rw[this]
  (repeat'(first|rfl|refine And.intro ?_ ?_|fail))
def c132:Con:=mkCon 140 true fun args K=>match args with | [.seq (.int .i64) l,.val (.int .i64 i)]=>Need (0≤i) (Ix i fun j=>K (I (l.getD j 0))) | _=>False
theorem k132:ConOK Tryz.prog c132:=by
 refine conOK_of rfl (enters_of Tryz.func140 (by kernel_rfl) rfl) ?_
 intro args K h
 simp only[c132] at h
 split at h
 ·rename_i l i
  exact ⟨_,h.go.use h.ok,tri_of_body (Γ:=[]) (by simp) Tryz.func140 (by simp[Tryz.ntmps140]) rfl (b132 l i h.ok)⟩
 ·exact h.elim
theorem b108 (x y c:Int) (h:(0≤x∧x<1000000000)∧(0≤y∧y<1000000000)∧(0≤c∧c≤1)):body Tryz.prog [] {} true Tryz.f132 [I x,I y,I c] (.tup [I ((x+y+c)%1000000000),I ((x+y+c)/1000000000)]):=by
 (repeat'((conv=>whnf);first|refine Za ?_|refine Zn ?_|fail))
 (conv=>whnf)
 (repeat'(first|exact trivial|rfl|refine And.intro ?_ ?_|fail))
def c108:Con:=mkCon 132 true fun args K=>match args with | [.val (.int .i64 x),.val (.int .i64 y),.val (.int .i64 c)]=>Need ((0≤x∧x<1000000000)∧(0≤y∧y<1000000000)∧(0≤c∧c≤1)) (K (.tup [I ((x+y+c)%1000000000),I ((x+y+c)/1000000000)])) | _=>False
theorem k108:ConOK Tryz.prog c108:=by
 refine conOK_of rfl (enters_of Tryz.func132 (by kernel_rfl) rfl) ?_
 intro args K h
 simp only[c108] at h
 split at h
 ·rename_i x y c;exact ⟨_,h.go,tri_of_body (Γ:=[]) (by simp) Tryz.func132 (by simp[Tryz.ntmps132]) rfl (b108 x y c h.ok)⟩
 ·exact h.elim
abbrev mn (x y c:Int):Int:=if 0≤x-y-c then x-y-c else x-y-c+1000000000
abbrev mc (x y c:Int):Int:=if 0≤x-y-c then 0 else 1
theorem b109 (x y c:Int) (h:(0≤x∧x<1000000000)∧(0≤y∧y<1000000000)∧(0≤c∧c≤1)):body Tryz.prog [] {} true Tryz.f134 [I x,I y,I c] (.tup [I (mn x y c),I (mc x y c)]):=by
 unfold mn mc
 (repeat'((conv=>whnf);first|refine Zn ?_|fail))
 (refine Br.mk (fun _=>?_) (fun _=>?_))
 ·rename_i hb
  skip
  (conv=>whnf)
  rw[if_pos hb,if_pos hb]
  (repeat'(first|exact trivial|rfl|refine And.intro ?_ ?_|fail))
 ·rename_i hb
  (repeat'((conv=>whnf);first|refine Zn ?_|fail))
  (conv=>whnf)
  rw[if_neg hb,if_neg hb]
  (repeat'(first|exact trivial|rfl|refine And.intro ?_ ?_|fail))
def c109:Con:=mkCon 134 true fun args K=>match args with | [.val (.int .i64 x),.val (.int .i64 y),.val (.int .i64 c)]=>Need ((0≤x∧x<1000000000)∧(0≤y∧y<1000000000)∧(0≤c∧c≤1)) (K (.tup [I (mn x y c),I (mc x y c)])) | _=>False
theorem k109:ConOK Tryz.prog c109:=by
 refine conOK_of rfl (enters_of Tryz.func134 (by kernel_rfl) rfl) ?_
 intro args K h
 simp only[c109] at h
 split at h
 ·rename_i x y c;exact ⟨_,h.go,tri_of_body (Γ:=[]) (by simp) Tryz.func134 (by simp[Tryz.ntmps134]) rfl (b109 x y c h.ok)⟩
 ·exact h.elim
theorem b107p (a b:List Int) (h:InB B9 a∧InB B9 b∧a.length≤100000∧b.length≤100000):body Tryz.prog [c132,c108,c131] { asks:=[(0,[1])] } true Tryz.f131 [Ls a,Ls b,.clo 132 [] []] (Ls (limbs B9 (valB B9 a+valB B9 b).toNat)):=by
 obtain ⟨ha,hb,hla,hlb⟩:=h
 (repeat'((conv=>whnf);first|refine Zg fun _=>?_|refine Zn ?_|fail))
 refine Ask.mk ⟨{ X:=Nat,pre:=fun i=>i≤max a.length b.length+1,mod:=fun i _=>[(7,.ref 1 1),(8,I (addK B9 a b i).2),(18,I i)],heap:=fun i _=>[V [],V (addK B9 a b i).1],mu:=fun i=>max a.length b.length+1-i,objs:=[1] },rfl,?_⟩
 (repeat'((conv=>whnf);first|refine Zn ?_|fail))
 refine ⟨⟨(0:Nat),Nat.zero_le _,by (repeat'(first|exact trivial|rfl|exact Nat.one_pos|refine And.intro ?_ ?_|fail))⟩,fun (i:Nat) (hi:i≤max a.length b.length+1)=>?_⟩
 obtain ⟨g1,g2,g3,_⟩:=addK_spec (B:=B9) (by decide) ha hb i
 have ga:=get9 ha i
 have gb:=get9 hb i
 skip
 (refine Br.mk (fun _=>?_) (fun _=>?_))
 ·have hlt:i<max a.length b.length+1:=by omega
  (repeat'((conv=>whnf);first|refine Zn ?_|refine Zj ?_|refine Zl ?_|fail))
  refine ⟨(i+1:Nat),by show max a.length b.length+1-(i+1)<max a.length b.length+1-i;omega,hlt,?_⟩
  (repeat'(first|exact trivial|rfl|exact Nat.one_pos|refine And.intro ?_ ?_|fail))
 ·have e:i=max a.length b.length+1:=by omega
  subst e
  skip
  (conv=>whnf)
  rw[← addK_all (B:=B9) (by decide) ha hb (Nat.le_max_left _ _) (Nat.le_max_right _ _)]
  skip
theorem b107m (a b:List Int) (h:InB B9 a∧InB B9 b∧valB B9 b≤valB B9 a∧a.length≤100000∧b.length≤100000):body Tryz.prog [c132,c109,c131] { asks:=[(0,[1])] } true Tryz.f131 [Ls a,Ls b,.clo 134 [] []] (Ls (limbs B9 (valB B9 a-valB B9 b).toNat)):=by
 obtain ⟨ha,hb,hle,hla,hlb⟩:=h
 (repeat'((conv=>whnf);first|refine Zg fun _=>?_|refine Zn ?_|fail))
 refine Ask.mk ⟨{ X:=Nat,pre:=fun i=>i≤max a.length b.length+1,mod:=fun i _=>[(7,.ref 1 1),(8,I (subK B9 a b i).2),(18,I i)],heap:=fun i _=>[V [],V (subK B9 a b i).1],mu:=fun i=>max a.length b.length+1-i,objs:=[1] },rfl,?_⟩
 (repeat'((conv=>whnf);first|refine Zn ?_|fail))
 refine ⟨⟨(0:Nat),Nat.zero_le _,by (repeat'(first|exact trivial|rfl|exact Nat.one_pos|refine And.intro ?_ ?_|fail))⟩,fun (i:Nat) (hi:i≤max a.length b.length+1)=>?_⟩
 obtain ⟨g1,g2,g3,_⟩:=subK_spec (B:=B9) (by decide) ha hb i
 have ga:=get9 ha i
 have gb:=get9 hb i
 skip
 (refine Br.mk (fun _=>?_) (fun _=>?_))
 ·have hlt:i<max a.length b.length+1:=by omega
  (repeat'((conv=>whnf);first|refine Zn ?_|refine Zj ?_|refine Zl ?_|fail))
  refine ⟨(i+1:Nat),by show max a.length b.length+1-(i+1)<max a.length b.length+1-i;omega,hlt,?_⟩
  (repeat'(first|exact trivial|rfl|exact Nat.one_pos|refine And.intro ?_ ?_|fail))
 ·have e:i=max a.length b.length+1:=by omega
  subst e
  skip
  (conv=>whnf)
  rw[← (subK_all (B:=B9) (by decide) ha hb (n:=max a.length b.length+1) (by omega) (by omega) hle).1]
  skip
def c107:Con:=mkCon 131 true fun args K=>match args with
 | [.seq (.int .i64) a,.seq (.int .i64) b,.clo 132 [] []]=>Need (InB B9 a∧InB B9 b∧a.length≤100000∧b.length≤100000) (K (Ls (limbs B9 (valB B9 a+valB B9 b).toNat)))
 | [.seq (.int .i64) a,.seq (.int .i64) b,.clo 134 [] []]=>Need (InB B9 a∧InB B9 b∧valB B9 b≤valB B9 a∧a.length≤100000∧b.length≤100000) (K (Ls (limbs B9 (valB B9 a-valB B9 b).toNat)))
 | _=>False
theorem k107:ConOK Tryz.prog c107:=by
 refine conOK_of rfl (enters_of Tryz.func131 (by kernel_rfl) rfl) ?_
 intro args K h
 simp only[c107] at h
 split at h
 ·rename_i a b
  exact ⟨_,h.go,tri_of_body (Γ:=[c132,c108,c131]) (by simp[k132,k108,k131]) Tryz.func131 (by simp[Tryz.ntmps131]) rfl (b107p a b h.ok)⟩
 ·rename_i a b
  exact ⟨_,h.go,tri_of_body (Γ:=[c132,c109,c131]) (by simp[k132,k109,k131]) Tryz.func131 (by simp[Tryz.ntmps131]) rfl (b107m a b h.ok)⟩
 ·exact h.elim
theorem c9:((B9:Nat):Int)=1000000000:=rfl
theorem mul_bound {x y B:Int} (hx:0≤x∧x<B) (hy:0≤y∧y<B):0≤x*y∧x*y≤(B-1)*(B-1):=by
 refine ⟨Int.mul_nonneg hx.1 hy.1,?_⟩
 calc x*y≤(B-1)*y:=Int.mul_le_mul_of_nonneg_right (by omega) hy.1
  _≤(B-1)*(B-1):=Int.mul_le_mul_of_nonneg_left (by omega) (by omega)
theorem b99 (a b:List Int) (h:InB B9 a∧InB B9 b∧a.length≤100000∧b.length≤100000):bodyO Tryz.prog [c132,c131] { asks:=[(0,[]),(2,[])] } Tryz.f104 [Ls a,Ls b] (.ref 0 1) (.int .i64) (limbs B9 (valB B9 a*valB B9 b).toNat) 3:=by
 obtain ⟨ha,hb,hla,hlb⟩:=h
 obtain ⟨n,hn⟩:∃n,n=a.length+b.length+1:=⟨_,rfl⟩
 (repeat'((conv=>whnf);first|refine Zg fun _=>?_|refine Zn ?_|refine Z8 ?_|fail))
 refine Ask.mk ⟨{ X:=Nat,pre:=fun i=>i≤a.length,mod:=fun i _=>[(20,I i)],heap:=fun i _=>[V [],V (mulR B9 a b (List.replicate n 0) i)],mu:=fun i=>a.length-i },rfl,?_⟩
 (repeat'((conv=>whnf);first|refine Zn ?_|fail))
 refine ⟨⟨(0:Nat),Nat.zero_le _,?_⟩,fun (i:Nat) (hi:i≤a.length)=>?_⟩
 ·(repeat'(first|exact trivial|rfl|refine And.intro ?_ ?_|fail))
  show List.replicate _ _=List.replicate _ _
  congr 1;omega
 obtain ⟨g1,g2,g3⟩:=mulR_spec (B:=B9) (by decide) ha hb (n:=n) (by omega) i hi
 have ga:=get9 ha i
 skip
 (refine Br.mk (fun _=>?_) (fun _=>?_))
 ·have hlt:i<a.length:=by omega
  (repeat'((conv=>whnf);first|refine Zg fun _=>?_|refine Zn ?_|refine Zj ?_|fail))
  refine Ask.mk ⟨{ X:=Nat,pre:=fun k=>k≤b.length+1,mod:=fun k _=>[(28,I k),(8,I (mulK B9 (a.getD i 0) b i (mulR B9 a b (List.replicate n 0) i) k).2)],heap:=fun k _=>[V [],V (mulK B9 (a.getD i 0) b i (mulR B9 a b (List.replicate n 0) i) k).1],mu:=fun k=>b.length+1-k },rfl,?_⟩
  (repeat'((conv=>whnf);first|refine Zn ?_|fail))
  refine ⟨⟨(0:Nat),Nat.zero_le _,by (repeat'(first|exact trivial|rfl|refine And.intro ?_ ?_|fail))⟩,fun (k:Nat) (hk:k≤b.length+1)=>?_⟩
  obtain ⟨m1,m2,m3,_⟩:=mulK_spec (B:=B9) (by decide) (x:=a.getD i 0) ⟨ga.1,by rw[c9];exact ga.2⟩ hb (i:=i) g2 k (by omega)
  have m3:0≤(mulK B9 (a.getD i 0) b i (mulR B9 a b (List.replicate n 0) i) k).2∧(mulK B9 (a.getD i 0) b i (mulR B9 a b (List.replicate n 0) i) k).2<1000000000:=m3
  have gb:=get9 hb k
  have gm:=get9 m2 (i+k)
  have hm:=mul_bound ga gb
  skip
  (refine Br.mk (fun _=>?_) (fun _=>?_))
  ·have hlt:k<b.length+1:=by omega
   (repeat'((conv=>whnf);first|refine Zg fun _=>?_|refine Za ?_|refine Zn ?_|refine Zj ?_|(apply Pin.mk;apply Exists.intro)|apply Pinned.mk rfl rfl|fail))
   refine ⟨(k+1:Nat),by show b.length+1-(k+1)<b.length+1-k;omega,hlt,?_⟩
   (repeat'(first|exact trivial|rfl|refine And.intro ?_ ?_|fail))
  ·have e:k=b.length+1:=by omega
   subst e
   (repeat'((conv=>whnf);first|refine Zn ?_|fail))
   refine ⟨(i+1:Nat),by show a.length-(i+1)<a.length-i;omega,hlt,?_⟩
   (repeat'(first|exact trivial|rfl|refine And.intro ?_ ?_|fail))
 ·have e:i=a.length:=by omega
  subst e
  skip
  (conv=>whnf)
  (repeat'(first|rfl|refine And.intro ?_ ?_|fail))
  exact mulR_all (B:=B9) (by decide) ha hb (by omega)
def c99:Con:=ownCon 104 fun args K=>match args with | [.seq (.int .i64) a,.seq (.int .i64) b]=>Need (InB B9 a∧InB B9 b∧a.length≤100000∧b.length≤100000) (K (.ref 0 1) (.vec 1 (.int .i64) (limbs B9 (valB B9 a*valB B9 b).toNat) 3)) | _=>False
theorem k99:ConOK Tryz.prog c99:=by
 refine ownOK_of (enters_of Tryz.func104 (by kernel_rfl) rfl) ?_
 intro args K h
 split at h
 ·rename_i a b;exact ⟨_,_,_,_,_,h.go,fun hfl=>otri_of_body (Γ:=[c132,c131]) (by simp[k132,k131]) Tryz.func104 (by simp[Tryz.ntmps104]) hfl (b99 a b h.ok)⟩
 ·exact h.elim
abbrev itB (xs:List Int) (k:Nat):List SV:=[I ((xs.length-1-k:Nat)),I (xs.getD (xs.length-1-k) 0)]
theorem b135 (xs:List Int):body Tryz.prog [] {} false Tryz.f164 [Ls xs] (.clo 196 [] [.lelem [Ls xs] 0]):=by
 skip
 (conv=>whnf)
 (repeat'(first|exact trivial|rfl|refine And.intro ?_ ?_|fail))
def c135:Con:=mkCon 164 false fun args K=>match args with | [.seq (.int .i64) xs]=>K (.clo 196 [] [.lelem [Ls xs] 0]) | _=>False
theorem k135:ConOK Tryz.prog c135:=by
 refine conOK_of rfl (enters_of Tryz.func164 (by kernel_rfl) rfl) ?_
 intro args K h
 simp only[c135] at h
 split at h
 ·rename_i xs;exact ⟨_,h,tri_of_body (Γ:=[]) (by simp) Tryz.func164 (by simp[Tryz.ntmps164]) rfl (b135 xs)⟩
 ·exact h.elim
theorem b166 (xs:List Int):bodyI Tryz.prog [] { asks:=[(0,[])] } Tryz.f196 [.lelem [Ls xs] 0] xs.length (itB xs):=by
 (repeat'((conv=>whnf);first|refine Zg fun _=>?_|refine Zn ?_|fail))
 refine Ask.mk ⟨{ X:=Nat,pre:=fun i=>i≤xs.length,mod:=fun i _=>[(3,I ((xs.length:Int)-1-i))],heap:=fun i _=>[.yst (some i) xs.length (itB xs)],mu:=fun i=>xs.length-i },rfl,?_⟩
 (repeat'((conv=>whnf);first|refine Zn ?_|fail))
 refine ⟨⟨(0:Nat),Nat.zero_le _,by (repeat'(first|exact trivial|rfl|refine And.intro ?_ ?_|omega|fail))⟩,fun (i:Nat) (hi:i≤xs.length)=>?_⟩
 skip
 (refine Br.mk (fun _=>?_) (fun _=>?_))
 ·have hlt:i<xs.length:=by omega
  have e:((xs.length:Int)-1-i)=((xs.length-1-i:Nat):Int):=by omega
  (repeat'((conv=>whnf);first|refine Zn ?_|fail))
  refine ix_at (xs.length-1-i) (by omega) ?_
  (repeat'((conv=>whnf);first|refine Zg fun _=>?_|refine Zn ?_|fail))
  refine Need.mk (by (repeat'(first|exact trivial|rfl|refine And.intro ?_ ?_|fail));exact e) ?_
  refine Two.mk ?_ ?_
  ·(repeat'((conv=>whnf);first|refine Zn ?_|fail))
   refine ⟨(i+1:Nat),by show xs.length-(i+1)<xs.length-i;omega,hlt,?_⟩
   (repeat'(first|exact trivial|rfl|refine And.intro ?_ ?_|omega|fail))
  ·(conv=>whnf)
   trivial
 ·(conv=>whnf)
  omega
def c166:Con:=mkCon 196 false fun args K=>match args with | [.lelem [.seq (.int .i64) xs] 0]=>K (.itr xs.length (itB xs)) | _=>False
theorem k166:ConOK Tryz.prog c166:=by
 refine conOK_of rfl (enters_of Tryz.func196 (by kernel_rfl) rfl) ?_
 intro args K h
 simp only[c166] at h
 split at h
 ·rename_i xs;exact ⟨_,h,triI_of_body (Γ:=[]) (by simp) Tryz.func196 (by simp[Tryz.ntmps196]) (b166 xs)⟩
 ·exact h.elim
def cmpTop (a b:List Int):Nat→Int
 | 0=>0
 | m+1=>if a.getD m 0=b.getD m 0 then cmpTop a b m else a.getD m 0-b.getD m 0
def cmpL (a b:List Int):Int:=if a.length=b.length then cmpTop a b a.length else (a.length:Int)-b.length
theorem b129 (a b:List Int) (h:InB B9 a∧InB B9 b):body Tryz.prog [c135,c166] { asks:=[(0,[])] } true Tryz.f133 [Ls a,Ls b] (I (cmpL a b)):=by
 obtain ⟨ha,hb⟩:=h
 unfold cmpL
 (repeat'((conv=>whnf);first|refine Zg fun _=>?_|fail))
 (refine Br.mk (fun _=>?_) (fun _=>?_))
 ·rename_i h1
  rw[if_neg (by omega)]
  (repeat'((conv=>whnf);first|refine Zg fun _=>?_|refine Zn ?_|fail))
  (conv=>whnf)
  (repeat'(first|rfl|refine And.intro ?_ ?_|fail))
 ·rename_i h1
  rw[if_pos (by omega)]
  have hl:a.length=b.length:=by omega
  skip
  refine Ask.mk ⟨{ X:=Nat,pre:=fun i=>i≤a.length∧cmpTop a b a.length=cmpTop a b (a.length-i),mod:=fun _ _=>[],heap:=fun _ _=>[.cells [Ls b] 115,.cells [I 0] 3],mu:=fun i=>i },rfl,?_⟩
  (repeat'((conv=>whnf);first|refine Zn ?_|fail))
  refine ⟨⟨(0:Nat),rfl,⟨Nat.zero_le _,rfl⟩,by (repeat'(first|exact trivial|rfl|refine And.intro ?_ ?_|fail))⟩,fun (i:Nat) hi (hlt:i<a.length)=>?_,fun (i:Nat) hi (he:i=a.length)=>?_⟩
  ·obtain ⟨hi1,hi2⟩:=hi
   obtain ⟨m,hm⟩:∃m,a.length-i=m+1:=⟨a.length-i-1,by omega⟩
   have e1:a.length-1-i=m:=by omega
   have e2:a.length-(i+1)=m:=by omega
   have ga:=get9 ha m
   have gb:=get9 hb m
   rw[hm,cmpTop] at hi2
   have eI:itB a i= [I m,I (a.getD m 0)]:=by rw[itB,e1]
   show hnfL (itB a i) _
   rw[eI]
   (repeat'((conv=>whnf);first|refine Zg fun _=>?_|refine Zn ?_|refine Zj ?_|fail))
   (refine Br.mk (fun _=>?_) (fun _=>?_))
   ·rename_i hne
    rw[if_neg hne] at hi2
    (repeat'((conv=>whnf);first|refine Zg fun _=>?_|refine Zn ?_|refine Zj ?_|fail))
    (conv=>whnf)
    (repeat'(first|rfl|refine And.intro ?_ ?_|fail))
    exact hi2.symm
   ·rename_i heq
    rw[if_pos (Classical.not_not.1 heq)] at hi2
    skip
    refine ⟨(i+1:Nat),rfl,⟨by omega,by rw[e2];exact hi2⟩,by (repeat'(first|exact trivial|rfl|refine And.intro ?_ ?_|fail))⟩
  ·obtain ⟨hi1,hi2⟩:=hi
   subst he
   rw[Nat.sub_self] at hi2
   skip
   (conv=>whnf)
   (repeat'(first|rfl|refine And.intro ?_ ?_|fail))
   exact hi2.symm
def c129:Con:=mkCon 133 true fun args K=>match args with | [.seq (.int .i64) a,.seq (.int .i64) b]=>Need (InB B9 a∧InB B9 b) (K (I (cmpL a b))) | _=>False
theorem k129:ConOK Tryz.prog c129:=by
 refine conOK_of rfl (enters_of Tryz.func133 (by kernel_rfl) rfl) ?_
 intro args K h
 simp only[c129] at h
 split at h
 ·rename_i a b;exact ⟨_,h.go,tri_of_body (Γ:=[c135,c166]) (by simp[k135,k166]) Tryz.func133 (by simp[Tryz.ntmps133]) rfl (b129 a b h.ok)⟩
 ·exact h.elim
theorem cmpTop_spec {a b:List Int} (ha:InB B9 a) (hb:InB B9 b) (hl:a.length=b.length):∀m,m≤a.length→(∀j,m≤j→j<a.length→a.getD j 0=b.getD j 0)→
  (cmpTop a b m<0↔valB B9 a<valB B9 b)∧(cmpTop a b m=0↔valB B9 a=valB B9 b)
 | 0,_,h=>by
  have:a=b:=eq_of_get hl fun j hj=>h j (Nat.zero_le _) hj
  subst this
  simp[cmpTop]
 | m+1,hm,h=>by
  simp only[cmpTop]
  by_cases e:a.getD m 0=b.getD m 0
  ·rw[if_pos e]
   refine cmpTop_spec ha hb hl m (by omega) fun j h1 h2=>?_
   by_cases e2:j=m
   ·rw[e2];exact e
   ·exact h j (by omega) h2
  ·rw[if_neg e]
   rcases Int.lt_or_gt_of_ne e with h1 | h1
   ·have:=val_top (B:=B9) (by decide) ha hb hl (by omega) (fun j h2 h3=>h j (by omega) h3) h1
    omega
   ·have:=val_top (B:=B9) (by decide) hb ha hl.symm (by omega) (fun j h2 h3=>(h j (by omega) (by omega)).symm) h1
    omega
theorem cmpL_limbs (m n:Nat):(cmpL (limbs B9 m) (limbs B9 n)<0↔m<n)∧(cmpL (limbs B9 m) (limbs B9 n)=0↔m=n):=by
 unfold cmpL
 split
 ·rename_i hl
  have:=cmpTop_spec (limbs_in (B:=B9) (by decide) m) (limbs_in (B:=B9) (by decide) n) hl _ (Nat.le_refl _) fun j h1 h2=>by omega
  rw[limbs_val (by decide),limbs_val (by decide)] at this
  omega
 ·rename_i hl
  rcases Nat.lt_or_ge (limbs B9 m).length (limbs B9 n).length with h | h
  ·have:=limbs_short (B:=B9) (by decide) h
   omega
  ·have:=limbs_short (B:=B9) (by decide) (show (limbs B9 n).length<(limbs B9 m).length by omega)
   omega
theorem b134 (a:List Int) (d:Int) (h:InB B9 a∧(0<d∧d<1000000000)∧a.length≤100000):body Tryz.prog [c135,c166,c131] { asks:=[(0,[])] } false Tryz.f170 [Ls a,I d] (.tup [Ls (limbs B9 (valB B9 a/d).toNat),Ls (limbs B9 (valB B9 a%d).toNat)]):=by
 obtain ⟨ha,hd,hla⟩:=h
 obtain ⟨q1,q2,q3⟩:=divK_all (B:=B9) (by decide) hd.1 hd.2 ha
 (repeat'((conv=>whnf);first|refine Zg fun _=>?_|refine Z8 ?_|fail))
 refine Ask.mk ⟨{ X:=Nat,pre:=fun i=>i≤a.length,mod:=fun _ _=>[],heap:=fun i _=>[.cells [I d] 3,V [],.cells [.ref 4 1] 115,V [],V (divK B9 d a i).1,.cells [I (divK B9 d a i).2] 3],mu:=fun i=>i },rfl,?_⟩
 (repeat'((conv=>whnf);first|refine Zn ?_|fail))
 refine ⟨⟨(0:Nat),rfl,Nat.zero_le _,?_⟩,fun (i:Nat) hi (hlt:i<a.length)=>?_,fun (i:Nat) hi (he:i=a.length)=>?_⟩
 ·(repeat'(first|exact trivial|rfl|refine And.intro ?_ ?_|fail))
 ·obtain ⟨g1,g2,g3,_⟩:=divK_spec (B:=B9) (by decide) hd.1 ha i (by omega)
  have ga:=get9 ha (a.length-1-i)
  have hm:=Int.mul_le_mul_of_nonneg_right (show (divK B9 d a i).2≤999999998 by omega) (show (0:Int)≤1000000000 by omega)
  have hm0:=Int.mul_nonneg g3.1 (show (0:Int)≤1000000000 by omega)
  show hnfL (itB a i) _
  (repeat'((conv=>whnf);first|refine Zg fun _=>?_|refine Za ?_|refine Zn ?_|refine Zj ?_|(apply Pin.mk;apply Exists.intro)|apply Pinned.mk rfl rfl|(apply PinH.mk;apply Exists.intro;apply Exists.intro)|exact Zf|refine Zc ?_ ?_|fail))
  refine ⟨(i+1:Nat),rfl,hlt,by (repeat'(first|exact trivial|rfl|refine And.intro ?_ ?_|fail))⟩
 ·subst he
  (repeat'((conv=>whnf);first|(apply Pin.mk;apply Exists.intro)|apply Pinned.mk rfl rfl|(apply PinH.mk;apply Exists.intro;apply Exists.intro)|exact Zf|refine Zc ?_ ?_|refine Zl ?_|fail))
  (conv=>whnf)
  (repeat'(first|exact trivial|refine And.intro ?_ ?_|fail))
  ·exact q1
  ·exact q3
def c134:Con:=mkCon 170 false fun args K=>match args with | [.seq (.int .i64) a,.val (.int .i64 d)]=>Need (InB B9 a∧(0<d∧d<1000000000)∧a.length≤100000) (K (.tup [Ls (limbs B9 (valB B9 a/d).toNat),Ls (limbs B9 (valB B9 a%d).toNat)])) | _=>False
theorem k134:ConOK Tryz.prog c134:=by
 refine conOK_of rfl (enters_of Tryz.func170 (by kernel_rfl) rfl) ?_
 intro args K h
 simp only[c134] at h
 split at h
 ·rename_i a d;exact ⟨_,h.go,tri_of_body (Γ:=[c135,c166,c131]) (by simp[k135,k166,k131]) Tryz.func170 (by simp[Tryz.ntmps170]) rfl (b134 a d h.ok)⟩
 ·exact h.elim
theorem b137 (v:List Int) (j q:Int) (u:List Int) (h:InB B9 u∧InB B9 v∧0≤j∧(0≤q∧q≤8000000000)∧j+v.length+1≤u.length∧u.length≤300000):bodyL Tryz.prog [c132] { asks:=[(0,[])] } Tryz.f172 0 true [.any,Ls v,I j,I q] (.int .i64) u 3 (.bl (0<(takeK B9 u v j.toNat q (v.length+1)).2) inferInstance) (takeK B9 u v j.toNat q (v.length+1)).1:=by
 obtain ⟨hu,hv,hj,hq,hl,hlu⟩:=h
 obtain ⟨j,rfl⟩:∃k:Nat,j=k:=⟨j.toNat,by omega⟩
 rw[Int.toNat_natCast]
 (repeat'((conv=>whnf);first|refine Zg fun _=>?_|refine Zn ?_|fail))
 refine Ask.mk ⟨{ X:=Nat,pre:=fun k=>k≤v.length+1,mod:=fun k _=>[(15,I k),(9,I (takeK B9 u v j q k).2)],heap:=fun k _=>[V (takeK B9 u v j q k).1],mu:=fun k=>v.length+1-k },rfl,?_⟩
 (repeat'((conv=>whnf);first|refine Zn ?_|fail))
 refine ⟨⟨(0:Nat),Nat.zero_le _,by (repeat'(first|exact trivial|rfl|refine And.intro ?_ ?_|fail))⟩,fun (k:Nat) (hk:k≤v.length+1)=>?_⟩
 obtain ⟨m1,m2,m3,_⟩:=takeK_spec (B:=B9) (by decide) hu hv (j:=j) hq.1 k (by omega)
 have gv:=get9 hv k
 have gm:=get9 m2 (j+k)
 have hm:0≤q*v.getD k 0∧q*v.getD k 0≤8000000000*999999999:=⟨Int.mul_nonneg hq.1 gv.1,Int.le_trans (Int.mul_le_mul_of_nonneg_right hq.2 gv.1) (Int.mul_le_mul_of_nonneg_left (by omega) (by omega))⟩
 skip
 (refine Br.mk (fun _=>?_) (fun _=>?_))
 ·have hlt:k<v.length+1:=by omega
  (repeat'((conv=>whnf);first|refine Zg fun _=>?_|refine Zn ?_|refine Zj ?_|(apply Pin.mk;apply Exists.intro)|apply Pinned.mk rfl rfl|fail))
  (refine Br.mk (fun _=>?_) (fun _=>?_))
  ·rename_i hneg
   have ht:takeK B9 u v j q (k+1)=((takeK B9 u v j q k).1.set (j+k) ((takeK B9 u v j q k).1.getD (j+k) 0-(takeK B9 u v j q k).2-q*v.getD k 0+(-((takeK B9 u v j q k).1.getD (j+k) 0-(takeK B9 u v j q k).2-q*v.getD k 0)+1000000000-1)/1000000000*1000000000),(-((takeK B9 u v j q k).1.getD (j+k) 0-(takeK B9 u v j q k).2-q*v.getD k 0)+1000000000-1)/1000000000):=by
    simp only[takeK]
    rw[if_pos hneg]
    rfl
   (repeat'((conv=>whnf);first|refine Za ?_|refine Zn ?_|refine Zj ?_|fail))
   refine ⟨(k+1:Nat),by show v.length+1-(k+1)<v.length+1-k;omega,hlt,?_⟩
   (repeat'(first|exact trivial|rfl|refine And.intro ?_ ?_|fail))
   all_goals first | exact (congrArg Prod.fst ht).symm | exact (congrArg Prod.snd ht).symm
  ·rename_i hneg
   have ht:takeK B9 u v j q (k+1)=((takeK B9 u v j q k).1.set (j+k) ((takeK B9 u v j q k).1.getD (j+k) 0-(takeK B9 u v j q k).2-q*v.getD k 0+0*1000000000),0):=by
    simp only[takeK]
    rw[if_neg hneg]
    rfl
   (repeat'((conv=>whnf);first|refine Zn ?_|refine Zj ?_|fail))
   refine ⟨(k+1:Nat),by show v.length+1-(k+1)<v.length+1-k;omega,hlt,?_⟩
   (repeat'(first|exact trivial|rfl|refine And.intro ?_ ?_|fail))
   all_goals first | exact (congrArg Prod.fst ht).symm | exact (congrArg Prod.snd ht).symm
 ·have e:k=v.length+1:=by omega
  subst e
  skip
  (conv=>whnf)
  (repeat'(first|rfl|refine And.intro ?_ ?_|fail))
def c137:Con:=linCon 172 0 true fun args o K=>match args,o with | [.any,.seq (.int .i64) v,.val (.int .i64 j),.val (.int .i64 q)],.vec 1 (.int .i64) u 3=>Need (InB B9 u∧InB B9 v∧0≤j∧(0≤q∧q≤8000000000)∧j+v.length+1≤u.length∧u.length≤300000) (K (.bl (0<(takeK B9 u v j.toNat q (v.length+1)).2) inferInstance) (.vec 1 (.int .i64) ((takeK B9 u v j.toNat q (v.length+1)).1) 3)) | _,_=>False
theorem k137:ConOK Tryz.prog c137:=by
 refine linOK_of (enters_of Tryz.func172 (by kernel_rfl) rfl) ?_
 intro args t xs e K hfl h
 split at h
 ·rename_i v j q zs heq
  cases heq
  first | exact ⟨_,_,h.go,ltri_of_body (Γ:=[c132]) (by simp[k132]) Tryz.func172 (by simp[Tryz.ntmps172]) rfl (b137 v j q zs h.ok)⟩ | exact ⟨_,_,h.go,ltri_of_body (Γ:=[c132]) (by simp[k132]) Tryz.func172 (by simp[Tryz.ntmps172]) rfl (b137 v j q xs h.ok)⟩
 ·exact h.elim
theorem b138 (v:List Int) (j q:Int) (u:List Int) (h:InB B9 u∧InB B9 v∧0≤j∧(0≤q∧q≤8000000000)∧j+v.length+1≤u.length∧u.length≤300000):bodyL Tryz.prog [c132] { asks:=[(0,[])] } Tryz.f173 0 true [.any,Ls v,I j,I q] (.int .i64) u 3 (.ref 0 1) (mulK B9 q v j.toNat u (v.length+1)).1:=by
 obtain ⟨hu,hv,hj,hq,hl,hlu⟩:=h
 obtain ⟨j,rfl⟩:∃k:Nat,j=k:=⟨j.toNat,by omega⟩
 rw[Int.toNat_natCast]
 (repeat'((conv=>whnf);first|refine Zg fun _=>?_|refine Zn ?_|fail))
 refine Ask.mk ⟨{ X:=Nat,pre:=fun k=>k≤v.length+1,mod:=fun k _=>[(15,I k),(9,I (mulK B9 q v j u k).2)],heap:=fun k _=>[V (mulK B9 q v j u k).1,V []],mu:=fun k=>v.length+1-k },rfl,?_⟩
 (repeat'((conv=>whnf);first|refine Zn ?_|fail))
 refine ⟨⟨(0:Nat),Nat.zero_le _,by (repeat'(first|exact trivial|rfl|refine And.intro ?_ ?_|fail))⟩,fun (k:Nat) (hk:k≤v.length+1)=>?_⟩
 obtain ⟨m1,m2,m3,_⟩:=addM_spec (B:=B9) (by decide) (x:=q) hq.1 hv (i:=j) hu k (by omega)
 have gv:=get9 hv k
 have gm:=get9 m2 (j+k)
 have hm:0≤q*v.getD k 0∧q*v.getD k 0≤8000000000*999999999:=⟨Int.mul_nonneg hq.1 gv.1,Int.le_trans (Int.mul_le_mul_of_nonneg_right hq.2 gv.1) (Int.mul_le_mul_of_nonneg_left (by omega) (by omega))⟩
 skip
 (refine Br.mk (fun _=>?_) (fun _=>?_))
 ·have hlt:k<v.length+1:=by omega
  (repeat'((conv=>whnf);first|refine Zg fun _=>?_|refine Za ?_|refine Zn ?_|refine Zj ?_|(apply Pin.mk;apply Exists.intro)|apply Pinned.mk rfl rfl|fail))
  refine ⟨(k+1:Nat),by show v.length+1-(k+1)<v.length+1-k;omega,hlt,?_⟩
  (repeat'(first|exact trivial|rfl|refine And.intro ?_ ?_|fail))
 ·have e:k=v.length+1:=by omega
  subst e
  skip
  (conv=>whnf)
  (repeat'(first|rfl|refine And.intro ?_ ?_|fail))
def c138:Con:=linCon 173 0 true fun args o K=>match args,o with | [.any,.seq (.int .i64) v,.val (.int .i64 j),.val (.int .i64 q)],.vec 1 (.int .i64) u 3=>Need (InB B9 u∧InB B9 v∧0≤j∧(0≤q∧q≤8000000000)∧j+v.length+1≤u.length∧u.length≤300000) (K (.ref 0 1) (.vec 1 (.int .i64) ((mulK B9 q v j.toNat u (v.length+1)).1) 3)) | _,_=>False
theorem k138:ConOK Tryz.prog c138:=by
 refine linOK_of (enters_of Tryz.func173 (by kernel_rfl) rfl) ?_
 intro args t xs e K hfl h
 split at h
 ·rename_i v j q zs heq
  cases heq
  first | exact ⟨_,_,h.go,ltri_of_body (Γ:=[c132]) (by simp[k132]) Tryz.func173 (by simp[Tryz.ntmps173]) rfl (b138 v j q zs h.ok)⟩ | exact ⟨_,_,h.go,ltri_of_body (Γ:=[c132]) (by simp[k132]) Tryz.func173 (by simp[Tryz.ntmps173]) rfl (b138 v j q xs h.ok)⟩
 ·exact h.elim
abbrev top2 (u v:List Int) (j:Nat):Int:=u.getD (j+v.length) 0*1000000000+u.getD (j+v.length-1) 0
abbrev estL (u v:List Int) (j:Nat):Int:=estF 1000000000 (v.getD (v.length-1) 0) (v.getD (v.length-2) 0) (u.getD (j+v.length-2) 0) 8 (top2 u v j/v.getD (v.length-1) 0) (top2 u v j%v.getD (v.length-1) 0)
def eQ (u v:List Int) (j i:Nat):Int:=top2 u v j/v.getD (v.length-1) 0-i
def eR (u v:List Int) (j i:Nat):Int:=top2 u v j%v.getD (v.length-1) 0+i*v.getD (v.length-1) 0
theorem eR_succ (u v:List Int) (j i:Nat):eR u v j (i+1)=eR u v j i+v.getD (v.length-1) 0:=by
 unfold eR
 have:((i+1:Nat):Int)*v.getD (v.length-1) 0=i*v.getD (v.length-1) 0+v.getD (v.length-1) 0:=by rw[Int.natCast_succ,Int.add_mul,Int.one_mul]
 omega
theorem eQ_succ (u v:List Int) (j i:Nat):eQ u v j (i+1)=eQ u v j i-1:=by unfold eQ;omega
theorem b136 (u v:List Int) (j:Int) (h:InB B9 u∧InB B9 v∧0≤j∧2≤v.length∧250000000≤v.getD (v.length-1) 0∧j+v.length+1≤u.length∧u.length≤300000):body Tryz.prog [] { asks:=[(0,[])] } true Tryz.f171 [Ls u,Ls v,I j] (I (estL u v j.toNat)):=by
 obtain ⟨hu,hv,hj,hn,hv1,hl,hlu⟩:=h
 obtain ⟨j,rfl⟩:∃k:Nat,j=k:=⟨j.toNat,by omega⟩
 rw[Int.toNat_natCast]
 have g0:=get9 hu (j+v.length)
 have g1:=get9 hu (j+v.length-1)
 have g2:=get9 hu (j+v.length-2)
 have w1:=get9 hv (v.length-1)
 have w2:=get9 hv (v.length-2)
 (repeat'((conv=>whnf);first|refine Zg fun _=>?_|refine Zn ?_|refine Zj ?_|(apply Pin.mk;apply Exists.intro)|apply Pinned.mk rfl rfl|fail))
 refine ix_at (j+v.length-1) (by omega) ?_
 (repeat'((conv=>whnf);first|refine Zg fun _=>?_|refine Zn ?_|(apply Pin.mk;apply Exists.intro)|apply Pinned.mk rfl rfl|fail))
 refine ix_at (v.length-1) (by omega) ?_
 (repeat'((conv=>whnf);first|refine Zg fun _=>?_|refine Za ?_|refine Zn ?_|(apply Pin.mk;apply Exists.intro)|apply Pinned.mk rfl rfl|fail))
 refine ix_at (v.length-1) (by omega) ?_
 (repeat'((conv=>whnf);first|refine Zg fun _=>?_|refine Za ?_|(apply Pin.mk;apply Exists.intro)|apply Pinned.mk rfl rfl|fail))
 have hT:0≤top2 u v j∧top2 u v j<1000000000000000000:=by unfold top2;omega
 have hr:0≤top2 u v j%v.getD (v.length-1) 0∧top2 u v j%v.getD (v.length-1) 0<v.getD (v.length-1) 0:=⟨Int.emod_nonneg _ (by omega),Int.emod_lt_of_pos _ (by omega)⟩
 have hq:0≤top2 u v j/v.getD (v.length-1) 0∧top2 u v j/v.getD (v.length-1) 0≤4000000000:=by
  refine ⟨Int.ediv_nonneg hT.1 (by omega),?_⟩
  refine Int.le_trans (Int.ediv_le_ediv (by omega) (show top2 u v j≤4000000000*v.getD (v.length-1) 0 by omega)) ?_
  rw[Int.mul_ediv_cancel _ (by omega)]
  exact Int.le_refl _
 refine Ask.mk ⟨{ X:=Nat,pre:=fun i=>eR u v j i<1000000000∧estL u v j=estF 1000000000 (v.getD (v.length-1) 0) (v.getD (v.length-2) 0) (u.getD (j+v.length-2) 0) (8-i) (eQ u v j i) (eR u v j i),mod:=fun i _=>[(9,I (eQ u v j i)),(10,I (eR u v j i))],heap:=fun _ _=>[],mu:=fun i=>8-i },rfl,?_⟩
 (repeat'((conv=>whnf);first|refine Zn ?_|fail))
 refine ⟨⟨(0:Nat),⟨by unfold eR;omega,by simp only[estL,eQ,eR];congr 1<;>omega⟩,?_⟩,fun (i:Nat) hi=>?_⟩
 ·(repeat'(first|exact trivial|rfl|refine And.intro ?_ ?_|fail))
  ·show top2 u v j/ _= _
   unfold eQ;omega
  ·show top2 u v j% _= _
   unfold eR;omega
 obtain ⟨hi1,hi2⟩:=hi
 have hi4:(i:Int)*250000000≤i*v.getD (v.length-1) 0:=Int.mul_le_mul_of_nonneg_left hv1 (by omega)
 have hi3:i≤3:=by unfold eR at hi1;omega
 have hR:0≤eR u v j i:=by unfold eR;omega
 have hQ: -3≤eQ u v j i∧eQ u v j i≤4000000000:=by unfold eQ;omega
 have hQv: -3*999999999≤eQ u v j i*v.getD (v.length-2) 0∧eQ u v j i*v.getD (v.length-2) 0≤4000000000*999999999:=by
  refine ⟨Int.le_trans (Int.mul_le_mul_of_nonpos_left (by omega) (show v.getD (v.length-2) 0≤999999999 by omega)) (Int.mul_le_mul_of_nonneg_right hQ.1 w2.1),Int.le_trans (Int.mul_le_mul_of_nonneg_right hQ.2 w2.1) (Int.mul_le_mul_of_nonneg_left (by omega) (by omega))⟩
 obtain ⟨f,hf⟩:∃f,8-i=f+1:=⟨7-i,by omega⟩
 have hf1:8-(i+1)=f:=by omega
 rw[hf,estF,← eR_succ,← eQ_succ] at hi2
 (repeat'((conv=>whnf);first|(apply Pin.mk;apply Exists.intro)|apply Pinned.mk rfl rfl|fail))
 (refine Br.mk (fun _=>?_) (fun _=>?_))
 ·rename_i hq1
  rw[if_pos (.inl hq1)] at hi2
  (repeat'((conv=>whnf);first|refine Zn ?_|(apply Pin.mk;apply Exists.intro)|apply Pinned.mk rfl rfl|fail))
  refine ix_at (v.length-1) (by omega) ?_
  (repeat'((conv=>whnf);first|refine Zg fun _=>?_|refine Zn ?_|(apply Pin.mk;apply Exists.intro)|apply Pinned.mk rfl rfl|fail))
  (refine Br.mk (fun _=>?_) (fun _=>?_))
  ·rename_i hb
   rw[eR_succ,if_pos hb,eQ_succ] at hi2
   skip
   (conv=>whnf)
   (repeat'(first|rfl|refine And.intro ?_ ?_|fail))
   exact hi2.symm
  ·rename_i hb
   rw[if_neg (by rw[eR_succ];exact hb)] at hi2
   skip
   refine ⟨(i+1:Nat),by show 8-(i+1)<8-i;omega,⟨by rw[eR_succ];omega,by rw[hi2,hf1]⟩,?_⟩
   (repeat'(first|exact trivial|rfl|refine And.intro ?_ ?_|fail))
   ·exact (eQ_succ u v j i).symm
   ·exact (eR_succ u v j i).symm
 ·rename_i hq1
  (repeat'((conv=>whnf);first|(apply Pin.mk;apply Exists.intro)|apply Pinned.mk rfl rfl|fail))
  (refine Br.mk (fun _=>?_) (fun _=>?_))
  ·rename_i hr1
   (repeat'((conv=>whnf);first|refine Zn ?_|(apply Pin.mk;apply Exists.intro)|apply Pinned.mk rfl rfl|fail))
   refine ix_at (v.length-2) (by omega) ?_
   (repeat'((conv=>whnf);first|refine Zg fun _=>?_|refine Zn ?_|(apply Pin.mk;apply Exists.intro)|apply Pinned.mk rfl rfl|fail))
   refine ix_at (j+v.length-2) (by omega) ?_
   (repeat'((conv=>whnf);first|refine Zg fun _=>?_|refine Zn ?_|(apply Pin.mk;apply Exists.intro)|apply Pinned.mk rfl rfl|fail))
   (refine Br.mk (fun _=>?_) (fun _=>?_))
   ·rename_i hgt
    rw[if_pos (.inr ⟨hr1,hgt⟩)] at hi2
    (repeat'((conv=>whnf);first|refine Zn ?_|(apply Pin.mk;apply Exists.intro)|apply Pinned.mk rfl rfl|fail))
    refine ix_at (v.length-1) (by omega) ?_
    (repeat'((conv=>whnf);first|refine Zg fun _=>?_|refine Zn ?_|(apply Pin.mk;apply Exists.intro)|apply Pinned.mk rfl rfl|fail))
    (refine Br.mk (fun _=>?_) (fun _=>?_))
    ·rename_i hb
     rw[eR_succ,if_pos hb,eQ_succ] at hi2
     skip
     (conv=>whnf)
     (repeat'(first|rfl|refine And.intro ?_ ?_|fail))
     exact hi2.symm
    ·rename_i hb
     rw[if_neg (by rw[eR_succ];exact hb)] at hi2
     skip
     refine ⟨(i+1:Nat),by show 8-(i+1)<8-i;omega,⟨by rw[eR_succ];omega,by rw[hi2,hf1]⟩,?_⟩
     (repeat'(first|exact trivial|rfl|refine And.intro ?_ ?_|fail))
     ·exact (eQ_succ u v j i).symm
     ·exact (eR_succ u v j i).symm
   ·rename_i hgt
    rw[if_neg (by omega)] at hi2
    skip
    (conv=>whnf)
    (repeat'(first|rfl|refine And.intro ?_ ?_|fail))
    exact hi2.symm
  ·omega
def c136:Con:=mkCon 171 true fun args K=>match args with | [.seq (.int .i64) u,.seq (.int .i64) v,.val (.int .i64 j)]=>Need (InB B9 u∧InB B9 v∧0≤j∧2≤v.length∧250000000≤v.getD (v.length-1) 0∧j+v.length+1≤u.length∧u.length≤300000) (K (I (estL u v j.toNat))) | _=>False
theorem k136:ConOK Tryz.prog c136:=by
 refine conOK_of rfl (enters_of Tryz.func171 (by kernel_rfl) rfl) ?_
 intro args K h
 simp only[c136] at h
 split at h
 ·rename_i u v j;exact ⟨_,h.go,tri_of_body (Γ:=[]) (by simp) Tryz.func171 (by simp[Tryz.ntmps171]) rfl (b136 u v j h.ok)⟩
 ·exact h.elim
end RB
end
section
set_option linter.unusedVariables false
set_option maxRecDepth 100000
namespace Go.Proofs
open Go.Shelf
def RL.lI_ren:Go.Shelf.Ren:=⟨fun | 171=>96 | 243=>129 | 246=>162 | 283=>191 | 284=>192 | 285=>193 | 286=>194 | 129=>209 | 317=>208 | 318=>210 | 319=>211 | 320=>212 | 337=>226 | 338=>227 | n=>n,fun | 3=>3 | 9=>9 | 2=>2 | 4=>4 | 171=>201 | 0=>0 | 53=>202 | 37=>172 | 5=>5 | 173=>205 | 212=>225 | 51=>226 | 20=>20 | 213=>227 | 46=>207 | 232=>249 | 233=>250 | n=>n,fun | 17=>2 | 18=>6 | 19=>7 | n=>n⟩
theorem RL.lI:Go.Proofs.LaysM.n171 Tryz.prog RL.lI_ren where
 mixed:=by kernel_rfl
 f129:=Tryz.func209.trans (congrArg some (by kernel_rfl))
 f171:=Tryz.func96.trans (congrArg some (by kernel_rfl))
 f243:=Tryz.func129.trans (congrArg some (by kernel_rfl))
 f246:=Tryz.func162.trans (congrArg some (by kernel_rfl))
 f283:=Tryz.func191.trans (congrArg some (by kernel_rfl))
 f284:=Tryz.func192.trans (congrArg some (by kernel_rfl))
 f285:=Tryz.func193.trans (congrArg some (by kernel_rfl))
 f286:=Tryz.func194.trans (congrArg some (by kernel_rfl))
 f317:=Tryz.func208.trans (congrArg some (by kernel_rfl))
 f318:=Tryz.func210.trans (congrArg some (by kernel_rfl))
 f319:=Tryz.func211.trans (congrArg some (by kernel_rfl))
 f320:=Tryz.func212.trans (congrArg some (by kernel_rfl))
 f337:=Tryz.func226.trans (congrArg some (by kernel_rfl))
 f338:=Tryz.func227.trans (congrArg some (by kernel_rfl))
 t0:=Tryz.underlying0
 a0:=Tryz.isAgg0
 z0:=Tryz.sizeOf0
 v0:=Tryz.zeroValue0
 t2:=Tryz.underlying2
 a2:=Tryz.isAgg2
 z2:=Tryz.sizeOf2
 v2:=Tryz.zeroValue2
 t3:=Tryz.underlying3
 a3:=Tryz.isAgg3
 z3:=Tryz.sizeOf3
 v3:=Tryz.zeroValue3
 t4:=Tryz.underlying4
 a4:=Tryz.isAgg4
 z4:=Tryz.sizeOf4
 v4:=Tryz.zeroValue4
 t5:=Tryz.underlying5
 a5:=Tryz.isAgg5
 z5:=Tryz.sizeOf5
 v5:=Tryz.zeroValue5
 t9:=Tryz.underlying9
 a9:=Tryz.isAgg9
 z9:=Tryz.sizeOf9
 v9:=Tryz.zeroValue9
 t20:=Tryz.underlying20
 a20:=Tryz.isAgg20
 z20:=Tryz.sizeOf20
 v20:=Tryz.zeroValue20
 t37:=Tryz.underlying172
 a37:=Tryz.isAgg172
 z37:=Tryz.sizeOf172
 v37:=Tryz.zeroValue172
 t46:=Tryz.underlying207
 a46:=Tryz.isAgg207
 z46:=Tryz.sizeOf207
 v46:=Tryz.zeroValue207
 t51:=Tryz.underlying226
 a51:=Tryz.isAgg226
 z51:=Tryz.sizeOf226
 v51:=Tryz.zeroValue226
 t53:=Tryz.underlying202
 a53:=Tryz.isAgg202
 z53:=Tryz.sizeOf202
 v53:=Tryz.zeroValue202
 t171:=Tryz.underlying201
 a171:=Tryz.isAgg201
 z171:=Tryz.sizeOf201
 v171:=Tryz.zeroValue201
 t173:=Tryz.underlying205
 a173:=Tryz.isAgg205
 z173:=Tryz.sizeOf205
 v173:=Tryz.zeroValue205
 t212:=Tryz.underlying225
 a212:=Tryz.isAgg225
 z212:=Tryz.sizeOf225
 v212:=Tryz.zeroValue225
 t213:=Tryz.underlying227
 a213:=Tryz.isAgg227
 z213:=Tryz.sizeOf227
 t232:=Tryz.underlying249
 a232:=Tryz.isAgg249
 z232:=Tryz.sizeOf249
 v232:=Tryz.zeroValue249
 t233:=Tryz.underlying250
 a233:=Tryz.isAgg250
 z233:=Tryz.sizeOf250
 v233:=Tryz.zeroValue250
 g17:=by kernel_rfl
 g18:=by kernel_rfl
 g19:=by kernel_rfl
 i0:=by kernel_rfl
 i2:=by kernel_rfl
 i3:=by kernel_rfl
 i4:=by kernel_rfl
 i5:=by kernel_rfl
 i9:=by kernel_rfl
 i20:=by kernel_rfl
 i37:=by kernel_rfl
 i46:=by kernel_rfl
 i51:=by kernel_rfl
 i53:=by kernel_rfl
 i171:=by kernel_rfl
 i173:=by kernel_rfl
 i212:=by kernel_rfl
 i232:=by kernel_rfl
 i233:=by kernel_rfl
 m17:=by kernel_rfl
 m18:=by kernel_rfl
 m19:=by kernel_rfl
def RL.lA_ren:Go.Shelf.Ren:=⟨fun | 172=>128 | 244=>160 | 245=>161 | 247=>186 | 279=>187 | 280=>188 | 281=>189 | 282=>190 | 287=>205 | 316=>206 | 171=>96 | 205=>207 | 321=>224 | 322=>225 | 243=>129 | 246=>162 | 283=>191 | 284=>192 | 285=>193 | 286=>194 | 129=>209 | 317=>208 | 318=>210 | 319=>211 | 320=>212 | 337=>226 | 338=>227 | n=>n,fun | 9=>9 | 3=>3 | 75=>150 | 76=>151 | 4=>4 | 5=>5 | 167=>195 | 37=>172 | 0=>0 | 85=>196 | 2=>2 | 168=>198 | 53=>202 | 175=>218 | 46=>207 | 210=>221 | 127=>212 | 145=>240 | 143=>238 | 21=>21 | 171=>201 | 173=>205 | 212=>225 | 51=>226 | 20=>20 | 213=>227 | 232=>249 | 233=>250 | 80=>181 | n=>n,fun | 15=>0 | 16=>1 | 17=>2 | 18=>6 | 19=>7 | n=>n⟩
theorem RL.lA:Go.Proofs.LaysC.n172 Tryz.prog RL.lA_ren where
 mixed:=by kernel_rfl
 f129:=Tryz.func209.trans (congrArg some (by kernel_rfl))
 f171:=Tryz.func96.trans (congrArg some (by kernel_rfl))
 f172:=Tryz.func128.trans (congrArg some (by kernel_rfl))
 f205:=Tryz.func207.trans (congrArg some (by kernel_rfl))
 f243:=Tryz.func129.trans (congrArg some (by kernel_rfl))
 f244:=Tryz.func160.trans (congrArg some (by kernel_rfl))
 f245:=Tryz.func161.trans (congrArg some (by kernel_rfl))
 f246:=Tryz.func162.trans (congrArg some (by kernel_rfl))
 f247:=Tryz.func186.trans (congrArg some (by kernel_rfl))
 f279:=Tryz.func187.trans (congrArg some (by kernel_rfl))
 f280:=Tryz.func188.trans (congrArg some (by kernel_rfl))
 f281:=Tryz.func189.trans (congrArg some (by kernel_rfl))
 f282:=Tryz.func190.trans (congrArg some (by kernel_rfl))
 f283:=Tryz.func191.trans (congrArg some (by kernel_rfl))
 f284:=Tryz.func192.trans (congrArg some (by kernel_rfl))
 f285:=Tryz.func193.trans (congrArg some (by kernel_rfl))
 f286:=Tryz.func194.trans (congrArg some (by kernel_rfl))
 f287:=Tryz.func205.trans (congrArg some (by kernel_rfl))
 f316:=Tryz.func206.trans (congrArg some (by kernel_rfl))
 f317:=Tryz.func208.trans (congrArg some (by kernel_rfl))
 f318:=Tryz.func210.trans (congrArg some (by kernel_rfl))
 f319:=Tryz.func211.trans (congrArg some (by kernel_rfl))
 f320:=Tryz.func212.trans (congrArg some (by kernel_rfl))
 f321:=Tryz.func224.trans (congrArg some (by kernel_rfl))
 f322:=Tryz.func225.trans (congrArg some (by kernel_rfl))
 f337:=Tryz.func226.trans (congrArg some (by kernel_rfl))
 f338:=Tryz.func227.trans (congrArg some (by kernel_rfl))
 t0:=Tryz.underlying0
 a0:=Tryz.isAgg0
 z0:=Tryz.sizeOf0
 v0:=Tryz.zeroValue0
 t2:=Tryz.underlying2
 a2:=Tryz.isAgg2
 z2:=Tryz.sizeOf2
 v2:=Tryz.zeroValue2
 t3:=Tryz.underlying3
 a3:=Tryz.isAgg3
 z3:=Tryz.sizeOf3
 v3:=Tryz.zeroValue3
 t4:=Tryz.underlying4
 a4:=Tryz.isAgg4
 z4:=Tryz.sizeOf4
 v4:=Tryz.zeroValue4
 t5:=Tryz.underlying5
 a5:=Tryz.isAgg5
 z5:=Tryz.sizeOf5
 v5:=Tryz.zeroValue5
 t9:=Tryz.underlying9
 a9:=Tryz.isAgg9
 z9:=Tryz.sizeOf9
 v9:=Tryz.zeroValue9
 t20:=Tryz.underlying20
 a20:=Tryz.isAgg20
 z20:=Tryz.sizeOf20
 v20:=Tryz.zeroValue20
 t21:=Tryz.underlying21
 a21:=Tryz.isAgg21
 z21:=Tryz.sizeOf21
 v21:=Tryz.zeroValue21
 t37:=Tryz.underlying172
 a37:=Tryz.isAgg172
 z37:=Tryz.sizeOf172
 v37:=Tryz.zeroValue172
 t46:=Tryz.underlying207
 a46:=Tryz.isAgg207
 z46:=Tryz.sizeOf207
 v46:=Tryz.zeroValue207
 t51:=Tryz.underlying226
 a51:=Tryz.isAgg226
 z51:=Tryz.sizeOf226
 v51:=Tryz.zeroValue226
 t53:=Tryz.underlying202
 a53:=Tryz.isAgg202
 z53:=Tryz.sizeOf202
 v53:=Tryz.zeroValue202
 t75:=Tryz.underlying150
 a75:=Tryz.isAgg150
 z75:=Tryz.sizeOf150
 v75:=Tryz.zeroValue150
 t76:=Tryz.underlying151
 a76:=Tryz.isAgg151
 z76:=Tryz.sizeOf151
 v76:=Tryz.zeroValue151
 t85:=Tryz.underlying196
 a85:=Tryz.isAgg196
 z85:=Tryz.sizeOf196
 v85:=Tryz.zeroValue196
 t127:=Tryz.underlying212
 a127:=Tryz.isAgg212
 z127:=Tryz.sizeOf212
 v127:=Tryz.zeroValue212
 t143:=Tryz.underlying238
 a143:=Tryz.isAgg238
 z143:=Tryz.sizeOf238
 v143:=Tryz.zeroValue238
 t145:=Tryz.underlying240
 a145:=Tryz.isAgg240
 z145:=Tryz.sizeOf240
 v145:=Tryz.zeroValue240
 t167:=Tryz.underlying195
 a167:=Tryz.isAgg195
 z167:=Tryz.sizeOf195
 v167:=Tryz.zeroValue195
 t168:=Tryz.underlying198
 a168:=Tryz.isAgg198
 z168:=Tryz.sizeOf198
 v168:=Tryz.zeroValue198
 t171:=Tryz.underlying201
 a171:=Tryz.isAgg201
 z171:=Tryz.sizeOf201
 v171:=Tryz.zeroValue201
 t173:=Tryz.underlying205
 a173:=Tryz.isAgg205
 z173:=Tryz.sizeOf205
 v173:=Tryz.zeroValue205
 t175:=Tryz.underlying218
 a175:=Tryz.isAgg218
 z175:=Tryz.sizeOf218
 v175:=Tryz.zeroValue218
 t210:=Tryz.underlying221
 a210:=Tryz.isAgg221
 z210:=Tryz.sizeOf221
 v210:=Tryz.zeroValue221
 t212:=Tryz.underlying225
 a212:=Tryz.isAgg225
 z212:=Tryz.sizeOf225
 v212:=Tryz.zeroValue225
 t213:=Tryz.underlying227
 a213:=Tryz.isAgg227
 z213:=Tryz.sizeOf227
 t232:=Tryz.underlying249
 a232:=Tryz.isAgg249
 z232:=Tryz.sizeOf249
 v232:=Tryz.zeroValue249
 t233:=Tryz.underlying250
 a233:=Tryz.isAgg250
 z233:=Tryz.sizeOf250
 v233:=Tryz.zeroValue250
 g15:=by kernel_rfl
 g16:=by kernel_rfl
 g17:=by kernel_rfl
 g18:=by kernel_rfl
 g19:=by kernel_rfl
 t80:=Tryz.underlying181
 a80:=Tryz.isAgg181
 z80:=Tryz.sizeOf181
 v80:=Tryz.zeroValue181
 i0:=by kernel_rfl
 i2:=by kernel_rfl
 i3:=by kernel_rfl
 i4:=by kernel_rfl
 i5:=by kernel_rfl
 i9:=by kernel_rfl
 i20:=by kernel_rfl
 i21:=by kernel_rfl
 i37:=by kernel_rfl
 i46:=by kernel_rfl
 i51:=by kernel_rfl
 i53:=by kernel_rfl
 i75:=by kernel_rfl
 i76:=by kernel_rfl
 i80:=by kernel_rfl
 i85:=by kernel_rfl
 i127:=by kernel_rfl
 i143:=by kernel_rfl
 i145:=by kernel_rfl
 i167:=by kernel_rfl
 i168:=by kernel_rfl
 i171:=by kernel_rfl
 i173:=by kernel_rfl
 i175:=by kernel_rfl
 i210:=by kernel_rfl
 i212:=by kernel_rfl
 i232:=by kernel_rfl
 i233:=by kernel_rfl
 m15:=by kernel_rfl
 m16:=by kernel_rfl
 m17:=by kernel_rfl
 m18:=by kernel_rfl
 m19:=by kernel_rfl
 c0:=by kernel_rfl
 c2:=by kernel_rfl
 c3:=by kernel_rfl
 c4:=by kernel_rfl
 c5:=by kernel_rfl
 c9:=by kernel_rfl
 c20:=by kernel_rfl
 c21:=by kernel_rfl
 c37:=by kernel_rfl
 c46:=by kernel_rfl
 c51:=by kernel_rfl
 c53:=by kernel_rfl
 c75:=by kernel_rfl
 c76:=by kernel_rfl
 c80:=by kernel_rfl
 c85:=by kernel_rfl
 c127:=by kernel_rfl
 c143:=by kernel_rfl
 c145:=by kernel_rfl
 c167:=by kernel_rfl
 c168:=by kernel_rfl
 c171:=by kernel_rfl
 c173:=by kernel_rfl
 c175:=by kernel_rfl
 c210:=by kernel_rfl
 c212:=by kernel_rfl
 c213:=by kernel_rfl
 c232:=by kernel_rfl
 c233:=by kernel_rfl
def RL.lR_ren:Go.Shelf.Ren:=⟨fun | 105=>166 | 212=>197 | 99=>100 | 165=>198 | 166=>165 | 170=>199 | 169=>167 | 263=>214 | 264=>215 | 206=>138 | 240=>195 | 241=>216 | 276=>213 | 277=>228 | n=>n,fun | 9=>9 | 3=>3 | 4=>4 | 20=>20 | 0=>0 | 46=>207 | 109=>208 | 5=>5 | 72=>177 | 76=>151 | 51=>226 | 146=>231 | 53=>202 | 148=>233 | 70=>175 | 37=>172 | 75=>150 | 127=>212 | 164=>229 | 80=>181 | n=>n,fun | n=>n⟩
theorem RL.lR:Go.Proofs.Lays.n105 Tryz.prog RL.lR_ren where
 mixed:=by kernel_rfl
 f99:=Tryz.func100.trans (congrArg some (by kernel_rfl))
 f105:=Tryz.func166.trans (congrArg some (by kernel_rfl))
 f165:=Tryz.func198.trans (congrArg some (by kernel_rfl))
 f166:=Tryz.func165.trans (congrArg some (by kernel_rfl))
 f169:=Tryz.func167.trans (congrArg some (by kernel_rfl))
 f170:=Tryz.func199.trans (congrArg some (by kernel_rfl))
 f206:=Tryz.func138.trans (congrArg some (by kernel_rfl))
 f212:=Tryz.func197.trans (congrArg some (by kernel_rfl))
 f240:=Tryz.func195.trans (congrArg some (by kernel_rfl))
 f241:=Tryz.func216.trans (congrArg some (by kernel_rfl))
 f263:=Tryz.func214.trans (congrArg some (by kernel_rfl))
 f264:=Tryz.func215.trans (congrArg some (by kernel_rfl))
 f276:=Tryz.func213.trans (congrArg some (by kernel_rfl))
 f277:=Tryz.func228.trans (congrArg some (by kernel_rfl))
 t0:=Tryz.underlying0
 a0:=Tryz.isAgg0
 z0:=Tryz.sizeOf0
 v0:=Tryz.zeroValue0
 t3:=Tryz.underlying3
 a3:=Tryz.isAgg3
 z3:=Tryz.sizeOf3
 v3:=Tryz.zeroValue3
 t4:=Tryz.underlying4
 a4:=Tryz.isAgg4
 z4:=Tryz.sizeOf4
 v4:=Tryz.zeroValue4
 t5:=Tryz.underlying5
 a5:=Tryz.isAgg5
 z5:=Tryz.sizeOf5
 v5:=Tryz.zeroValue5
 t9:=Tryz.underlying9
 a9:=Tryz.isAgg9
 z9:=Tryz.sizeOf9
 v9:=Tryz.zeroValue9
 t20:=Tryz.underlying20
 a20:=Tryz.isAgg20
 z20:=Tryz.sizeOf20
 v20:=Tryz.zeroValue20
 t37:=Tryz.underlying172
 a37:=Tryz.isAgg172
 z37:=Tryz.sizeOf172
 v37:=Tryz.zeroValue172
 t46:=Tryz.underlying207
 a46:=Tryz.isAgg207
 z46:=Tryz.sizeOf207
 v46:=Tryz.zeroValue207
 t51:=Tryz.underlying226
 a51:=Tryz.isAgg226
 z51:=Tryz.sizeOf226
 v51:=Tryz.zeroValue226
 t53:=Tryz.underlying202
 a53:=Tryz.isAgg202
 z53:=Tryz.sizeOf202
 v53:=Tryz.zeroValue202
 t70:=Tryz.underlying175
 a70:=Tryz.isAgg175
 z70:=Tryz.sizeOf175
 v70:=Tryz.zeroValue175
 t72:=Tryz.underlying177
 a72:=Tryz.isAgg177
 z72:=Tryz.sizeOf177
 v72:=Tryz.zeroValue177
 t75:=Tryz.underlying150
 a75:=Tryz.isAgg150
 z75:=Tryz.sizeOf150
 v75:=Tryz.zeroValue150
 t76:=Tryz.underlying151
 a76:=Tryz.isAgg151
 z76:=Tryz.sizeOf151
 v76:=Tryz.zeroValue151
 t109:=Tryz.underlying208
 a109:=Tryz.isAgg208
 z109:=Tryz.sizeOf208
 v109:=Tryz.zeroValue208
 t127:=Tryz.underlying212
 a127:=Tryz.isAgg212
 z127:=Tryz.sizeOf212
 v127:=Tryz.zeroValue212
 t146:=Tryz.underlying231
 a146:=Tryz.isAgg231
 z146:=Tryz.sizeOf231
 v146:=Tryz.zeroValue231
 t148:=Tryz.underlying233
 a148:=Tryz.isAgg233
 z148:=Tryz.sizeOf233
 v148:=Tryz.zeroValue233
 t164:=Tryz.underlying229
 a164:=Tryz.isAgg229
 z164:=Tryz.sizeOf229
 v164:=Tryz.zeroValue229
def RL.lT_ren:Go.Shelf.Ren:=⟨fun | 160=>159 | 232=>180 | 231=>179 | 227=>181 | 234=>183 | 233=>182 | 236=>185 | 235=>184 | 228=>201 | 271=>204 | 151=>203 | 197=>202 | 120=>223 | 152=>222 | 260=>221 | 137=>231 | 119=>232 | 224=>219 | 225=>218 | 217=>217 | 266=>229 | n=>n,fun | 9=>9 | 4=>4 | 3=>3 | 5=>5 | 117=>191 | 116=>190 | 0=>0 | 124=>194 | 21=>21 | 105=>215 | 46=>207 | 119=>244 | 139=>247 | 138=>246 | n=>n,fun | 3=>4 | 4=>5 | n=>n⟩
theorem RL.lT:Go.Proofs.Lays.n160 Tryz.prog RL.lT_ren where
 mixed:=by kernel_rfl
 f119:=Tryz.func232.trans (congrArg some (by kernel_rfl))
 f120:=Tryz.func223.trans (congrArg some (by kernel_rfl))
 f137:=Tryz.func231.trans (congrArg some (by kernel_rfl))
 f151:=Tryz.func203.trans (congrArg some (by kernel_rfl))
 f152:=Tryz.func222.trans (congrArg some (by kernel_rfl))
 f160:=Tryz.func159.trans (congrArg some (by kernel_rfl))
 f197:=Tryz.func202.trans (congrArg some (by kernel_rfl))
 f217:=Tryz.func217.trans (congrArg some (by kernel_rfl))
 f224:=Tryz.func219.trans (congrArg some (by kernel_rfl))
 f225:=Tryz.func218.trans (congrArg some (by kernel_rfl))
 f227:=Tryz.func181.trans (congrArg some (by kernel_rfl))
 f228:=Tryz.func201.trans (congrArg some (by kernel_rfl))
 f231:=Tryz.func179.trans (congrArg some (by kernel_rfl))
 f232:=Tryz.func180.trans (congrArg some (by kernel_rfl))
 f233:=Tryz.func182.trans (congrArg some (by kernel_rfl))
 f234:=Tryz.func183.trans (congrArg some (by kernel_rfl))
 f235:=Tryz.func184.trans (congrArg some (by kernel_rfl))
 f236:=Tryz.func185.trans (congrArg some (by kernel_rfl))
 f260:=Tryz.func221.trans (congrArg some (by kernel_rfl))
 f266:=Tryz.func229.trans (congrArg some (by kernel_rfl))
 f271:=Tryz.func204.trans (congrArg some (by kernel_rfl))
 t0:=Tryz.underlying0
 a0:=Tryz.isAgg0
 z0:=Tryz.sizeOf0
 v0:=Tryz.zeroValue0
 t3:=Tryz.underlying3
 a3:=Tryz.isAgg3
 z3:=Tryz.sizeOf3
 v3:=Tryz.zeroValue3
 t4:=Tryz.underlying4
 a4:=Tryz.isAgg4
 z4:=Tryz.sizeOf4
 v4:=Tryz.zeroValue4
 t5:=Tryz.underlying5
 a5:=Tryz.isAgg5
 z5:=Tryz.sizeOf5
 v5:=Tryz.zeroValue5
 t9:=Tryz.underlying9
 a9:=Tryz.isAgg9
 z9:=Tryz.sizeOf9
 v9:=Tryz.zeroValue9
 t21:=Tryz.underlying21
 a21:=Tryz.isAgg21
 z21:=Tryz.sizeOf21
 v21:=Tryz.zeroValue21
 t46:=Tryz.underlying207
 a46:=Tryz.isAgg207
 z46:=Tryz.sizeOf207
 v46:=Tryz.zeroValue207
 t105:=Tryz.underlying215
 a105:=Tryz.isAgg215
 z105:=Tryz.sizeOf215
 v105:=Tryz.zeroValue215
 t116:=Tryz.underlying190
 a116:=Tryz.isAgg190
 z116:=Tryz.sizeOf190
 t117:=Tryz.underlying191
 a117:=Tryz.isAgg191
 z117:=Tryz.sizeOf191
 v117:=Tryz.zeroValue191
 t119:=Tryz.underlying244
 a119:=Tryz.isAgg244
 z119:=Tryz.sizeOf244
 t124:=Tryz.underlying194
 a124:=Tryz.isAgg194
 z124:=Tryz.sizeOf194
 v124:=Tryz.zeroValue194
 t138:=Tryz.underlying246
 a138:=Tryz.isAgg246
 z138:=Tryz.sizeOf246
 v138:=Tryz.zeroValue246
 t139:=Tryz.underlying247
 a139:=Tryz.isAgg247
 z139:=Tryz.sizeOf247
 v139:=Tryz.zeroValue247
 g3:=by kernel_rfl
 g4:=by kernel_rfl
def RL.lX_ren:Go.Shelf.Ren:=⟨fun | 219=>200 | 217=>217 | 225=>218 | 224=>219 | 267=>220 | 266=>229 | 314=>230 | n=>n,fun | 9=>9 | 3=>3 | 4=>4 | 5=>5 | 46=>207 | 146=>231 | 51=>226 | n=>n,fun | 1=>3 | n=>n⟩
theorem RL.lX:Go.Proofs.Lays.n219 Tryz.prog RL.lX_ren where
 mixed:=by kernel_rfl
 f217:=Tryz.func217.trans (congrArg some (by kernel_rfl))
 f219:=Tryz.func200.trans (congrArg some (by kernel_rfl))
 f224:=Tryz.func219.trans (congrArg some (by kernel_rfl))
 f225:=Tryz.func218.trans (congrArg some (by kernel_rfl))
 f266:=Tryz.func229.trans (congrArg some (by kernel_rfl))
 f267:=Tryz.func220.trans (congrArg some (by kernel_rfl))
 f314:=Tryz.func230.trans (congrArg some (by kernel_rfl))
 t3:=Tryz.underlying3
 a3:=Tryz.isAgg3
 z3:=Tryz.sizeOf3
 v3:=Tryz.zeroValue3
 t4:=Tryz.underlying4
 a4:=Tryz.isAgg4
 z4:=Tryz.sizeOf4
 v4:=Tryz.zeroValue4
 t5:=Tryz.underlying5
 a5:=Tryz.isAgg5
 z5:=Tryz.sizeOf5
 v5:=Tryz.zeroValue5
 t9:=Tryz.underlying9
 a9:=Tryz.isAgg9
 z9:=Tryz.sizeOf9
 v9:=Tryz.zeroValue9
 t46:=Tryz.underlying207
 a46:=Tryz.isAgg207
 z46:=Tryz.sizeOf207
 v46:=Tryz.zeroValue207
 t51:=Tryz.underlying226
 a51:=Tryz.isAgg226
 z51:=Tryz.sizeOf226
 v51:=Tryz.zeroValue226
 t146:=Tryz.underlying231
 a146:=Tryz.isAgg231
 z146:=Tryz.sizeOf231
 v146:=Tryz.zeroValue231
 g1:=by kernel_rfl
def RL.lC_ren:Go.Shelf.Ren:=⟨fun | 240=>195 | 276=>213 | n=>n,fun | 70=>175 | 0=>0 | 72=>177 | 4=>4 | 164=>229 | 37=>172 | 5=>5 | n=>n,fun | n=>n⟩
theorem RL.lC:Go.Proofs.Lays.n240 Tryz.prog RL.lC_ren where
 mixed:=by kernel_rfl
 f240:=Tryz.func195.trans (congrArg some (by kernel_rfl))
 f276:=Tryz.func213.trans (congrArg some (by kernel_rfl))
 t0:=Tryz.underlying0
 a0:=Tryz.isAgg0
 z0:=Tryz.sizeOf0
 v0:=Tryz.zeroValue0
 t4:=Tryz.underlying4
 a4:=Tryz.isAgg4
 z4:=Tryz.sizeOf4
 v4:=Tryz.zeroValue4
 t9:=Tryz.underlying9
 a9:=Tryz.isAgg9
 z9:=Tryz.sizeOf9
 v9:=Tryz.zeroValue9
 t20:=Tryz.underlying20
 a20:=Tryz.isAgg20
 z20:=Tryz.sizeOf20
 v20:=Tryz.zeroValue20
 t70:=Tryz.underlying175
 a70:=Tryz.isAgg175
 z70:=Tryz.sizeOf175
 v70:=Tryz.zeroValue175
 t72:=Tryz.underlying177
 a72:=Tryz.isAgg177
 z72:=Tryz.sizeOf177
 v72:=Tryz.zeroValue177
 t164:=Tryz.underlying229
 a164:=Tryz.isAgg229
 z164:=Tryz.sizeOf229
 v164:=Tryz.zeroValue229
def RL.lS_ren:Go.Shelf.Ren:=⟨fun | 169=>167 | n=>n,fun | 70=>175 | 9=>9 | 0=>0 | 72=>177 | 37=>172 | 127=>212 | 3=>3 | 5=>5 | n=>n,fun | n=>n⟩
theorem RL.lS:Go.Proofs.Lays.n169 Tryz.prog RL.lS_ren where
 mixed:=by kernel_rfl
 f169:=Tryz.func167.trans (congrArg some (by kernel_rfl))
 t0:=Tryz.underlying0
 a0:=Tryz.isAgg0
 z0:=Tryz.sizeOf0
 v0:=Tryz.zeroValue0
 t3:=Tryz.underlying3
 a3:=Tryz.isAgg3
 z3:=Tryz.sizeOf3
 v3:=Tryz.zeroValue3
 t9:=Tryz.underlying9
 a9:=Tryz.isAgg9
 z9:=Tryz.sizeOf9
 v9:=Tryz.zeroValue9
 t37:=Tryz.underlying172
 a37:=Tryz.isAgg172
 z37:=Tryz.sizeOf172
 v37:=Tryz.zeroValue172
 t70:=Tryz.underlying175
 a70:=Tryz.isAgg175
 z70:=Tryz.sizeOf175
 v70:=Tryz.zeroValue175
 t72:=Tryz.underlying177
 a72:=Tryz.isAgg177
 z72:=Tryz.sizeOf177
 v72:=Tryz.zeroValue177
 t127:=Tryz.underlying212
 a127:=Tryz.isAgg212
 z127:=Tryz.sizeOf212
 v127:=Tryz.zeroValue212
end Go.Proofs
end
section
open Go Go.Proofs Go.Eng Go.Shelf IB Go.Lib Go.RowKit
namespace RB
set_option maxRecDepth 10000
set_option linter.unusedVariables false
set_option linter.unusedSimpArgs false
def hasP (s p:List UInt8):Prop:=p.length≤s.length∧s.take p.length=p
instance (s p:List UInt8):Decidable (hasP s p):=by unfold hasP;infer_instance
def trimP (s p:List UInt8):List UInt8:=if hasP s p then s.drop p.length else s
theorem hasP_minus (s:List UInt8):hasP s [45]↔s.headD 0=45:=by
 cases s with
 | nil=>simp[hasP]
 | cons c r=>simp[hasP]
theorem trimP_minus (s:List UInt8):trimP s [45]=digs s:=by
 unfold trimP digs
 by_cases h:s.headD 0=45
 ·rw[if_pos h,if_pos ((hasP_minus s).2 h)]
  cases s<;>rfl
 ·rw[if_neg h,if_neg (fun e=>h ((hasP_minus s).1 e))]
theorem b126 (s p:List UInt8):body Tryz.prog [] {} true Tryz.f138 [S s,S p] (.bl (hasP s p) inferInstance):=by
 (repeat'((conv=>whnf);first|refine Zg fun _=>?_|fail))
 (refine Br.mk (fun _=>?_) (fun _=>?_))
 ·rename_i h
  (repeat'((conv=>whnf);first|refine Zg fun _=>?_|refine Zn ?_|refine Zj ?_|fail))
  (conv=>whnf)
  unfold hasP
  exact ⟨fun e=>⟨by omega,e⟩,fun e=>e.2⟩
 ·rename_i h
  skip
  (conv=>whnf)
  intro e
  exact h (by have:=e.1;omega)
def c126:Con:=mkCon 138 true fun args K=>match args with | [.str s,.str p]=>K (.bl (hasP s p) inferInstance) | _=>False
theorem k126:ConOK Tryz.prog c126:=by
 refine conOK_of rfl (enters_of Tryz.func138 (by kernel_rfl) rfl) ?_
 intro args K h
 simp only[c126] at h
 split at h
 ·rename_i s p;exact ⟨_,h,tri_of_body (Γ:=[]) (by simp) Tryz.func138 (by simp[Tryz.ntmps138]) rfl (b126 s p)⟩
 ·exact h.elim
theorem b91 (s:List UInt8):body Tryz.prog [c126] {} true Tryz.f100 [S s,S [45]] (.bl (s.headD 0=45) inferInstance):=by
 skip
 (conv=>whnf)
 exact hasP_minus s
def c91:Con:=mkCon 100 true fun args K=>match args with | [.str s,.str p]=>Need (p= [45]) (K (.bl (s.headD 0=45) inferInstance)) | _=>False
theorem k91:ConOK Tryz.prog c91:=by
 refine conOK_of rfl (enters_of Tryz.func100 (by kernel_rfl) rfl) ?_
 intro args K h
 simp only[c91] at h
 split at h
 ·rename_i s p
  obtain ⟨rfl,h⟩:=h
  exact ⟨_,h,tri_of_body (Γ:=[c126]) (by simp[k126]) Tryz.func100 (by simp[Tryz.ntmps100]) rfl (b91 s)⟩
 ·exact h.elim
theorem b125 (s p:List UInt8):body Tryz.prog [c126] {} true Tryz.f143 [S s,S p] (S (trimP s p)):=by
 unfold trimP
 skip
 (refine Br.mk (fun _=>?_) (fun _=>?_))
 ·rename_i h
  rw[if_pos h]
  have:=h.1
  (repeat'((conv=>whnf);first|refine Zg fun _=>?_|refine Zn ?_|refine Zj ?_|fail))
  (conv=>whnf)
  skip
 ·rename_i h
  rw[if_neg h]
  skip
  (conv=>whnf)
  skip
def c125:Con:=mkCon 143 true fun args K=>match args with | [.str s,.str p]=>K (.str (trimP s p)) | _=>False
theorem k125:ConOK Tryz.prog c125:=by
 refine conOK_of rfl (enters_of Tryz.func143 (by kernel_rfl) rfl) ?_
 intro args K h
 simp only[c125] at h
 split at h
 ·rename_i s p;exact ⟨_,h,tri_of_body (Γ:=[c126]) (by simp[k126]) Tryz.func143 (by simp[Tryz.ntmps143]) rfl (b125 s p)⟩
 ·exact h.elim
theorem b88 (s:List UInt8):body Tryz.prog [c125] {} true Tryz.f109 [S s,S [45]] (S (digs s)):=by
 rw[← trimP_minus]
 skip
 (conv=>whnf)
 skip
def c88:Con:=mkCon 109 true fun args K=>match args with | [.str s,.str p]=>Need (p= [45]) (K (S (digs s))) | _=>False
theorem k88:ConOK Tryz.prog c88:=by
 refine conOK_of rfl (enters_of Tryz.func109 (by kernel_rfl) rfl) ?_
 intro args K h
 simp only[c88] at h
 split at h
 ·rename_i s p
  obtain ⟨rfl,h⟩:=h
  exact ⟨_,h,tri_of_body (Γ:=[c125]) (by simp[k125]) Tryz.func109 (by simp[Tryz.ntmps109]) rfl (b88 s)⟩
 ·exact h.elim
theorem b155 (s p:List UInt8):body Tryz.prog [c126] {} true Tryz.f168 [S s,S p] (.tup [S (trimP s p),.bl (hasP s p) inferInstance]):=by
 unfold trimP
 skip
 (refine Br.mk (fun _=>?_) (fun _=>?_))
 ·rename_i h
  rw[if_neg h]
  skip
  (conv=>whnf)
  (repeat'(first|exact trivial|rfl|refine And.intro ?_ ?_|fail))
  exact h
 ·rename_i h
  have h:=Classical.not_not.1 h
  rw[if_pos h]
  have:=h.1
  (repeat'((conv=>whnf);first|refine Zg fun _=>?_|refine Zn ?_|refine Zj ?_|fail))
  (conv=>whnf)
  (repeat'(first|exact trivial|rfl|refine And.intro ?_ ?_|fail))
  all_goals first | exact h | exact h.1 | exact h.2
def c155:Con:=mkCon 168 true fun args K=>match args with | [.str s,.str p]=>K (.tup [S (trimP s p),.bl (hasP s p) inferInstance]) | _=>False
theorem k155:ConOK Tryz.prog c155:=by
 refine conOK_of rfl (enters_of Tryz.func168 (by kernel_rfl) rfl) ?_
 intro args K h
 simp only[c155] at h
 split at h
 ·rename_i s p;exact ⟨_,h,tri_of_body (Γ:=[c126]) (by simp[k126]) Tryz.func168 (by simp[Tryz.ntmps168]) rfl (b155 s p)⟩
 ·exact h.elim
theorem b123 (s:List UInt8):body Tryz.prog [c155] {} true Tryz.f135 [S s,S [45]] (.tup [S (digs s),.bl (s.headD 0=45) inferInstance]):=by
 rw[← trimP_minus]
 skip
 (conv=>whnf)
 (repeat'(first|exact trivial|rfl|refine And.intro ?_ ?_|fail))
 exact hasP_minus s
def c123:Con:=mkCon 135 true fun args K=>match args with | [.str s,.str p]=>Need (p= [45]) (K (.tup [S (digs s),.bl (s.headD 0=45) inferInstance])) | _=>False
theorem k123:ConOK Tryz.prog c123:=by
 refine conOK_of rfl (enters_of Tryz.func135 (by kernel_rfl) rfl) ?_
 intro args K h
 simp only[c123] at h
 split at h
 ·rename_i s p
  obtain ⟨rfl,h⟩:=h
  exact ⟨_,h,tri_of_body (Γ:=[c155]) (by simp[k155]) Tryz.func135 (by simp[Tryz.ntmps135]) rfl (b123 s)⟩
 ·exact h.elim
theorem rel_str1 {E:Env} {s:List UInt8} {vs:List Value} (h:RelL E [.str s] vs):vs= [.string ⟨s.toArray⟩]∧s.length≤maxL:=by
 obtain ⟨v,rfl,h1⟩:=h.one
 cases h1 with
 | str _ hl=>exact ⟨rfl,hl⟩
theorem rel_int1 {E:Env} {k:IntKind} {n:Int} {vs:List Value} (h:RelL E [.val (.int k n)] vs):vs= [.int k n]∧inK k n:=by
 obtain ⟨v,rfl,h1⟩:=h.one
 obtain ⟨rfl,h2⟩:=h1.int_inv
 exact ⟨rfl,h2⟩
theorem pow_laid {ok:Nat→Prop} {w:World} (h:GW Tryz.prog ok w):Lib.TabIs Tryz.prog w "internal/strconv.uint64pow10" .u64 Lib.pow10Tab:=by
 obtain ⟨cs,h1,h2⟩:=h.var (n:= "internal/strconv.uint64pow10") (by simp[gnames]) (g:=2) (by kernel_rfl)
 unfold Lib.TabIs
 rw[h1,h2.pow rfl]
 rfl
theorem dec_len_le (n:Nat) (h:n≤9223372036854775808):(decDigits n).length≤20:=IB.dec_len 19 n (by omega)
theorem itoa_len (n:Int) (h:inK .i64 n):(itoa n).length≤maxL:=by
 have h: -9223372036854775808≤n∧n≤9223372036854775807:=h
 have h1:=dec_len_le n.natAbs (by omega)
 rw[← digs_itoa] at h1
 have h2:(itoa n).length≤(digs (itoa n)).length+1:=by
  unfold digs
  split
  ·rw[List.length_tail];omega
  ·omega
 show _≤140737488355328
 omega
theorem t61 (n:Int):Tri Tryz.prog true 96 [I n] (S (itoa n)):=by
 intro ok w vs hg hok hr
 obtain ⟨rfl,hn⟩:=rel_int1 hr
 have hn': -9223372036854775808≤n∧n≤9223372036854775807:=hn
 refine (Any.strconv_Itoa RL.lI n hn'.1 hn'.2 w (pow_laid hg)).mono ?_
 rintro e w' ⟨rfl,k,os,rfl⟩
 exact ⟨_,rfl,Lib.below_grow _ _ (Nat.le_refl _) _ _,.str _ (itoa_len n hn)⟩
def c61:Con:=mkCon 96 true fun args K=>match args with | [.val (.int .i64 n)]=>K (S (itoa n)) | _=>False
theorem k61:ConOK Tryz.prog c61:=by
 refine conOK_of rfl (enters_of Tryz.func96 (by kernel_rfl) rfl) ?_
 intro args K h
 simp only[c61] at h
 split at h
 ·exact ⟨_,h,t61 _⟩
 ·exact h.elim
abbrev fitI (n:Int):Prop:= -9223372036854775808≤n∧n≤9223372036854775807
def fold10 (acc:Nat) (l:List UInt8):Nat:=l.foldl (fun n c=>10*n+(c.toNat-48)) acc
theorem fold10_ge:∀(l:List UInt8) (acc:Nat),acc≤fold10 acc l
 | [],acc=>Nat.le_refl _
 | c::r,acc=>by
  have:=fold10_ge r (10*acc+(c.toNat-48))
  simp only[fold10,List.foldl_cons] at this ⊢
  omega
theorem parse_digits:∀(l:List UInt8) (acc:Nat),(∀c∈l,isDig c)→acc<18446744073709551616→parseUint10 acc l=if fold10 acc l<18446744073709551616 then .ok (fold10 acc l) else .range
 | [],acc,_,h=>by simp[parseUint10,fold10,h]
 | c::r,acc,hd,h=>by
  have hc:=hd c (by simp)
  have ih:=parse_digits r (acc*10+(c.toNat-48)) fun x hx=>hd x (by simp[hx])
  have hg:=fold10_ge r (10*acc+(c.toNat-48))
  have e:fold10 acc (c::r)=fold10 (acc*10+(c.toNat-48)) r:=by simp only[fold10,List.foldl_cons];rw[Nat.mul_comm]
  rw[Nat.mul_comm] at hg
  simp only[parseUint10]
  have hc:48≤c.toNat∧c.toNat≤57:=hc
  rw[if_pos hc,e]
  by_cases h1:1844674407370955162≤acc
  ·rw[if_pos h1,if_neg (by omega)]
  ·rw[if_neg h1]
   by_cases h2:18446744073709551616≤acc*10+(c.toNat-48)
   ·rw[if_pos h2,if_neg (by omega)]
   ·rw[if_neg h2,ih (by omega)]
theorem parse_mag {l:List UInt8} (h:∀c∈l,isDig c) (hne:l≠ []):parseMag l=if nat10 l<18446744073709551616 then .ok (nat10 l) else .range:=by
 unfold parseMag
 rw[if_neg hne,parse_digits l 0 h (by omega)]
 rfl
theorem dig_no {c:UInt8} (h:isDig c):c.toNat≠43∧c.toNat≠45:=by unfold isDig at h;omega
theorem atoi_form {s:List UInt8} (h:form s):atoiAll s=(if fitI (valI s) then .ok (valI s) else .range)∧(¬fitI (valI s)→(9223372036854775807<valI s∧atoiSat s=9223372036854775807)∨(valI s < -9223372036854775808∧atoiSat s= -9223372036854775808)):=by
 obtain ⟨h1,h2,h3⟩:=h
 cases s with
 | nil=>simp[digs] at h1
 | cons c r=>
  by_cases hc:c=45
  ·subst hc
   have e1:digs (45::r)=r:=rfl
   have e2:valI (45::r)= -(nat10 r:Int):=rfl
   rw[e1] at h1 h3
   rw[e2];unfold fitI;rw[atoiAll_minus,parse_mag h3 h1,atoiSat_minus]
   refine ⟨?_,fun hn=>.inr ⟨by omega,rfl⟩⟩
   by_cases h4:nat10 r<18446744073709551616
   ·rw[if_pos h4]
    simp only[signed]
    by_cases h5:9223372036854775808<nat10 r
    ·rw[if_pos h5,if_neg (by omega)]
    ·rw[if_neg h5,if_pos (by omega)]
   ·rw[if_neg h4,if_neg (by omega)];rfl
  ·have e1:digs (c::r)=c::r:=by simp[digs,hc]
   have e2:valI (c::r)=nat10 (c::r):=by simp[valI,hc]
   rw[e1] at h1 h3
   obtain ⟨g1,g2⟩:=dig_no (h3 c (by simp))
   rw[e2];unfold fitI;rw[atoiAll_plain c r g1 g2,parse_mag h3 h1,atoiSat_other c r g2]
   refine ⟨?_,fun hn=>.inl ⟨by omega,rfl⟩⟩
   by_cases h4:nat10 (c::r)<18446744073709551616
   ·rw[if_pos h4]
    simp only[signless]
    by_cases h5:9223372036854775808≤nat10 (c::r)
    ·rw[if_pos h5,if_neg (by omega)]
    ·rw[if_neg h5,if_pos (by omega)]
   ·rw[if_neg h4,if_neg (by omega)];rfl
theorem t72ok (s:List UInt8) (hf:form s) (hv:fitI (valI s)):Tri Tryz.prog true 128 [S s] (.tup [I (valI s),.val .nilIface]):=by
 intro ok w vs hg hok hr
 obtain ⟨rfl,hl⟩:=rel_str1 hr
 have hl':s.length≤140737488355328:=hl
 have ha:=(atoi_form hf).1
 rw[if_pos hv] at ha
 refine (Any.strconv_Atoi_ok RL.lA ⟨s.toArray⟩ (by show s.toArray.size≤ _;rw[List.size_toArray];omega) (valI s) (by simpa using ha) w).mono ?_
 rintro e w' ⟨rfl,hw⟩
 refine ⟨_,rfl,?_,.tup _ _ (.cons _ _ _ _ (.val _ hv) (.cons _ _ _ _ (.val _ trivial) .nil))⟩
 rcases hw with rfl | ⟨t,rfl⟩
 ·exact Below.refl _ _
 ·exact Go.Joins.below_bytesWorld _ _ _ _ (Nat.le_refl _)
theorem err_laid {ok:Nat→Prop} {w:World} (h:GW Tryz.prog ok w):∃ev,w.cell? ⟨(RL.lA_ren).g 16,0,none⟩=some ev∧∃te pe,ev= .iface te pe:=by
 obtain ⟨hk,cs,e,f,h2,h3⟩:=h "strconv.ErrRange" (by simp[gnames]) ((RL.lA_ren).g 16) (by kernel_rfl)
 obtain ⟨tp,p,hc⟩:=h3.err (.inl rfl)
 refine ⟨_,?_,tp,p,rfl⟩
 rw[World.cell?,h2,hc]
 rfl
theorem t72big (s:List UInt8) (hf:form s) (hv:¬fitI (valI s)) (hl:s.length≤281474976710656):Tri Tryz.prog true 128 [S s] (.tup [I (atoiSat s),.ifc]):=by
 intro ok w vs hg hok hr
 obtain ⟨rfl,_⟩:=rel_str1 hr
 have ha:=(atoi_form hf).1
 rw[if_neg hv] at ha
 obtain ⟨ev,h1,h2⟩:=err_laid hg
 refine (Any.strconv_Atoi_range RL.lA ⟨s.toArray⟩ (by show s.toArray.size≤ _;rw[List.size_toArray];omega) (by simpa using ha) ev w h1 (.inr h2)).mono ?_
 rintro e w' ⟨N,rfl,_,_,hb⟩
 refine ⟨_,rfl,hb,.tup _ _ (.cons _ _ _ _ ?_ (.cons _ _ _ _ (.ifc _ (.inr ⟨_,_,rfl⟩)) .nil))⟩
 exact .val _ (atoiSat_bounds _)
def c72:Con:=mkCon 128 true fun args K=>match args with
 | [.str s]=>Need (form s∧s.length≤1000) (Br (fitI (valI s)) (K (.tup [I (valI s),.val .nilIface])) (K (.tup [I (atoiSat s),.ifc])))
 | _=>False
theorem k72:ConOK Tryz.prog c72:=by
 refine conOK_of rfl (enters_of Tryz.func128 (by kernel_rfl) rfl) ?_
 intro args K h
 simp only[c72] at h
 split at h
 ·rename_i s
  obtain ⟨⟨hf,hl⟩,h⟩:=h
  by_cases hv:fitI (valI s)
  ·exact ⟨_,h.yes hv,t72ok s hf hv⟩
  ·exact ⟨_,h.no hv,t72big s hf hv (by omega)⟩
 ·exact h.elim
abbrev digitsS:List UInt8:=[48,49,50,51,52,53,54,55,56,57]
theorem digits_mem (c:UInt8):digitsS.contains c=true↔isDig c:=by
 have h:∀n:Fin 256,(digitsS.contains (UInt8.ofNat n.val)=true)↔(48≤n.val∧n.val≤57):=by decide
 have h1:=h ⟨c.toNat,c.toNat_lt⟩
 simp only[UInt8.ofNat_toNat] at h1
 exact h1
theorem trimS_nil (s cs:List UInt8):trimS s cs= []↔∀c∈s,cs.contains c=true:=by
 have hd:∀l:List UInt8,l.dropWhile (cs.contains ·)= []↔∀c∈l,cs.contains c=true:=by
  intro l
  induction l with
  | nil=>simp
  | cons x r ih=>
   simp only[List.dropWhile_cons,List.mem_cons,forall_eq_or_imp]
   by_cases h:cs.contains x=true
   ·rw[if_pos h,ih];simp only[h,true_and]
   ·rw[if_neg h];exact ⟨(fun e=>by cases e),(fun e=>(h e.1).elim)⟩
 have hmem:∀l:List UInt8,(∀c∈l.dropWhile (cs.contains ·),cs.contains c=true)↔∀c∈l,cs.contains c=true:=by
  intro l
  induction l with
  | nil=>simp
  | cons x r ih=>
   simp only[List.dropWhile_cons]
   by_cases h:cs.contains x=true
   ·rw[if_pos h,ih];simp only[List.mem_cons,forall_eq_or_imp,h,true_and]
   ·rw[if_neg h]
 unfold trimS trimLeftS trimRightS
 rw[hd]
 have:=hmem s.reverse
 simp only[List.mem_reverse] at this ⊢
 exact this
theorem trimS_len (s cs:List UInt8):(trimS s cs).length≤s.length:=by
 have h:∀l:List UInt8,(l.dropWhile (cs.contains ·)).length≤l.length:=fun l=>(List.dropWhile_sublist _).length_le
 unfold trimS trimLeftS trimRightS
 have h1:=h (s.reverse.dropWhile (cs.contains ·)).reverse
 have h2:=h s.reverse
 simp only[List.length_reverse] at h1 h2
 omega
theorem t156 (s:List UInt8):Tri Tryz.prog true 159 [S s,S digitsS] (S (trimS s digitsS)):=by
 intro ok w vs hg hok hr
 cases hr with
 | cons _ v1 _ vs1 h1 hr=>
 cases h1 with
 | str _ hl=>
 obtain ⟨rfl,_⟩:=rel_str1 hr
 have hl':s.length≤140737488355328:=hl
 refine (Any.strings_Trim_laid RL.lT (by kernel_rfl) ⟨s.toArray⟩ ⟨digitsS.toArray⟩ w (by show s.toArray.size≤ _;rw[List.size_toArray];omega) (by decide) (ascii_of_all (by decide))).mono ?_
 rintro e w' ⟨rfl,hb⟩
 exact ⟨_,rfl,hb,.str _ (by have:=trimS_len s digitsS;show _≤140737488355328;omega)⟩
def c156:Con:=mkCon 159 true fun args K=>match args with | [.str s,.str cs]=>Need (cs=digitsS) (K (S (trimS s digitsS))) | _=>False
theorem k156:ConOK Tryz.prog c156:=by
 refine conOK_of rfl (enters_of Tryz.func159 (by kernel_rfl) rfl) ?_
 intro args K h
 simp only[c156] at h
 split at h
 ·rename_i s cs
  obtain ⟨rfl,h⟩:=h
  exact ⟨_,h,t156 _⟩
 ·exact h.elim
theorem ex9:Builder.Extra Tryz.prog RL.lR_ren where
 sizeBuilder:=by kernel_rfl
 liesBuilder:=by kernel_rfl
 t5:=Tryz.underlying5
 a5:=Tryz.isAgg5
 z5:=Tryz.sizeOf5
 v5:=Tryz.zeroValue5
 infoByte:=by kernel_rfl
 cellsByte:=by kernel_rfl
 sizeByte:=by kernel_rfl
 neB5:=by decide
theorem repeat_one (c:UInt8):∀n,repeatL [c] n=List.replicate n c
 | 0=>rfl
 | n+1=>by rw[repeatL,repeat_one c n];rfl
theorem t159 (c:UInt8) (n:Int) (hn:0≤n∧n≤1000):Tri Tryz.prog true 166 [S [c],I n] (S (List.replicate n.toNat c)):=by
 intro ok w vs hg hok hr
 cases hr with
 | cons _ v1 _ vs1 h1 hr=>
 cases h1 with
 | str _ hl=>
 obtain ⟨rfl,_⟩:=rel_int1 hr
 obtain ⟨k,rfl⟩:∃k:Nat,n=k:=⟨n.toNat,by omega⟩
 refine (Any.strings_Repeat RL.lR ex9 ⟨[c].toArray⟩ k w (by omega) (by show 1*k≤ _;omega)).mono ?_
 rintro e w' ⟨rfl,hb⟩
 rw[Int.toNat_natCast,← repeat_one]
 exact ⟨_,rfl,hb,.str _ (by rw[repeat_one,List.length_replicate];show _≤140737488355328;omega)⟩
def c159:Con:=mkCon 166 true fun args K=>match args with | [.str [c],.val (.int .i64 n)]=>Need (0≤n∧n≤1000) (K (S (List.replicate n.toNat c))) | _=>False
theorem k159:ConOK Tryz.prog c159:=by
 refine conOK_of rfl (enters_of Tryz.func166 (by kernel_rfl) rfl) ?_
 intro args K h
 simp only[c159] at h
 split at h
 ·exact ⟨_,h.go,t159 _ _ h.ok⟩
 ·exact h.elim
theorem chk_bad {s:List UInt8} (h:digs s= []∨((digs s).headD 0=48∧s≠ [48])∨trimS (digs s) digitsS≠ []):chkI s=11:=by
 unfold chkI
 rw[if_neg]
 rintro ⟨h1,h2,h3⟩
 rcases h with h | h | h
 ·exact h1 h
 ·rcases h2 with h2 | h2
  ·exact h2 h.1
  ·exact h.2 h2
 ·exact h ((trimS_nil _ _).2 fun c hc=>(digits_mem c).2 (h3 c hc))
theorem form_of {s:List UInt8} (h1:digs s≠ []) (h2:(digs s).headD 0=48→s= [48]) (h3:trimS (digs s) digitsS= []):form s:=
 ⟨h1,(Classical.em ((digs s).headD 0=48)).elim (fun e=>.inr (h2 e)) .inl,fun c hc=>(digits_mem c).1 ((trimS_nil _ _).1 h3 c hc)⟩
theorem chk_form {s:List UInt8} (h:form s):chkI s=if 300<(digs s).length then 4 else 0:=by unfold chkI;rw[if_pos h]
theorem b127 (s:List UInt8):body Tryz.prog [c88,c156] {} true Tryz.f127 [S s] (I (chkI s)):=by
 (repeat'((conv=>whnf);first|refine Zn ?_|fail))
 (refine Br.mk (fun _=>?_) (fun _=>?_))
 ·rename_i h
  rw[chk_bad (.inl h)]
  skip
  (conv=>whnf)
  (repeat'(first|rfl|refine And.intro ?_ ?_|fail))
 ·rename_i h
  have hpos:0<(digs s).length:=List.length_pos_iff.2 h
  have hb:byteAt (digs s) 0=48↔(digs s).headD 0=48:=by
   unfold byteAt
   cases hd:digs s with
   | nil=>rw[hd] at hpos;simp at hpos
   | cons c r=>
    show (c.toNat:Int)=48↔c=48
    constructor
    ·intro e
     have:c.toNat=(48:UInt8).toNat:=by show c.toNat=48;omega
     exact UInt8.toNat.inj this
    ·rintro rfl;rfl
  (repeat'((conv=>whnf);first|refine Zg fun _=>?_|refine Zn ?_|refine Z0 ?_|refine Zr (fun _=>?_) fun _=>?_|fail))
  all_goals (skip;(conv=>whnf);(repeat'(first|rfl|refine And.intro ?_ ?_|fail)))
  all_goals first
   | exact (chk_bad (.inr (.inl ⟨hb.1 (by assumption),by assumption⟩))).symm
   | exact (chk_bad (.inr (.inr (by assumption)))).symm
   | (have hf:form s:=form_of h (fun e=>by first | exact Classical.not_not.1 (by assumption) | exact absurd (hb.2 e) (by assumption)) (by exact Classical.not_not.1 (by assumption))
      rw[chk_form hf]
      first | (rw[if_pos (by omega)]) | (rw[if_neg (by omega)])
      done)
def c127:Con:=mkCon 127 true fun args K=>match args with | [.str s]=>K (I (chkI s)) | _=>False
theorem k127:ConOK Tryz.prog c127:=by
 refine conOK_of rfl (enters_of Tryz.func127 (by kernel_rfl) rfl) ?_
 intro args K h
 simp only[c127] at h
 split at h
 ·rename_i s;exact ⟨_,h,tri_of_body (Γ:=[c88,c156]) (by simp[k88,k156]) Tryz.func127 (by simp[Tryz.ntmps127]) rfl (b127 s)⟩
 ·exact h.elim
noncomputable def chk2 (a b:List UInt8):Int:=if chkI a≠0 then chkI a else chkI b
theorem b94 (a b:List UInt8):body Tryz.prog [c127] {} true Tryz.f94 [S a,S b] (I (chk2 a b)):=by
 unfold chk2
 skip
 (refine Br.mk (fun _=>?_) (fun _=>?_))
 ·rename_i h
  rw[if_pos h]
  skip
  (conv=>whnf)
  (repeat'(first|rfl|refine And.intro ?_ ?_|fail))
 ·rename_i h
  rw[if_neg h]
  skip
  (conv=>whnf)
  (repeat'(first|rfl|refine And.intro ?_ ?_|fail))
def c94:Con:=mkCon 94 true fun args K=>match args with | [.str a,.str b]=>K (I (chk2 a b)) | _=>False
theorem k94:ConOK Tryz.prog c94:=by
 refine conOK_of rfl (enters_of Tryz.func94 (by kernel_rfl) rfl) ?_
 intro args K h
 simp only[c94] at h
 split at h
 ·rename_i a b;exact ⟨_,h,tri_of_body (Γ:=[c127]) (by simp[k127]) Tryz.func94 (by simp[Tryz.ntmps94]) rfl (b94 a b)⟩
 ·exact h.elim
theorem chk_zero {s:List UInt8} (h:chkI s=0):form s∧(digs s).length≤300:=by
 unfold chkI at h
 split at h
 ·rename_i hf
  split at h
  ·cases h
  ·exact ⟨hf,by omega⟩
 ·cases h
theorem digs_len (s:List UInt8):(digs s).length≤s.length∧s.length≤(digs s).length+1:=by
 unfold digs
 split
 ·rw[List.length_tail];omega
 ·omega
theorem val_small {s:List UInt8} (h:form s) (hl:s.length≤18): -1000000000000000000<valI s∧valI s<1000000000000000000:=by
 obtain ⟨h1,h2,h3⟩:=h
 have hb:=nat10_lt (digs s) h3
 have hp:(10:Nat)^ (digs s).length≤10^18:=Nat.pow_le_pow_right (by omega) (by have:=digs_len s;omega)
 have h18:(10:Nat)^18=1000000000000000000:=by decide
 have hv:valI s=nat10 (digs s)∨valI s= -(nat10 (digs s):Int):=by
  unfold valI digs
  split
  ·exact .inr rfl
  ·exact .inl rfl
 omega
theorem b95y (a b:List UInt8) (ha:form a) (hb:form b) (hs:a.length≤18∧b.length≤18):body Tryz.prog [c72] {} true Tryz.f95 [S a,S b,I 18] (.tup [I (valI a),I (valI b),.val (.bool true)]):=by
 have h1:=val_small ha hs.1
 have h2:=val_small hb hs.2
 have f1:fitI (valI a):=by unfold fitI;omega
 have f2:fitI (valI b):=by unfold fitI;omega
 (repeat'((conv=>whnf);first|refine Zg fun _=>?_|refine Zm ?_|fail))
 refine Need.mk ⟨ha,by omega⟩ ?_
 refine Br.mkY f1 ?_
 skip
 refine Need.mk ⟨hb,by omega⟩ ?_
 refine Br.mkY f2 ?_
 (repeat'((conv=>whnf);first|(apply Pin.mk;apply Exists.intro)|apply Pinned.mk rfl rfl|fail))
 (conv=>whnf)
 (repeat'(first|exact trivial|rfl|refine And.intro ?_ ?_|fail))
theorem b95n (a b:List UInt8) (hs:¬(a.length≤18∧b.length≤18)):body Tryz.prog [c72] {} true Tryz.f95 [S a,S b,I 18] (.tup [I 0,I 0,.val (.bool false)]):=by
 (repeat'((conv=>whnf);first|refine Zg fun _=>?_|refine Zy ?_|refine Zr (fun _=>?_) fun _=>?_|fail))
 all_goals first | (exfalso;omega) | skip
 all_goals (skip;(conv=>whnf);(repeat'(first|exact trivial|rfl|refine And.intro ?_ ?_|fail)))
def c95:Con:=mkCon 95 true fun args K=>match args with
 | [.str a,.str b,.val (.int .i64 m)]=>Need (m=18∧form a∧form b) (Br (a.length≤18∧b.length≤18) (K (.tup [I (valI a),I (valI b),.val (.bool true)])) (K (.tup [I 0,I 0,.val (.bool false)])))
 | _=>False
theorem k95:ConOK Tryz.prog c95:=by
 refine conOK_of rfl (enters_of Tryz.func95 (by kernel_rfl) rfl) ?_
 intro args K h
 simp only[c95] at h
 split at h
 ·rename_i a b m
  obtain ⟨⟨rfl,ha,hb⟩,h⟩:=h
  by_cases hs:a.length≤18∧b.length≤18
  ·exact ⟨_,h.yes hs,tri_of_body (Γ:=[c72]) (by simp[k72]) Tryz.func95 (by simp[Tryz.ntmps95]) rfl (b95y a b ha hb hs)⟩
  ·exact ⟨_,h.no hs,tri_of_body (Γ:=[c72]) (by simp[k72]) Tryz.func95 (by simp[Tryz.ntmps95]) rfl (b95n a b hs)⟩
 ·exact h.elim
end RB
end

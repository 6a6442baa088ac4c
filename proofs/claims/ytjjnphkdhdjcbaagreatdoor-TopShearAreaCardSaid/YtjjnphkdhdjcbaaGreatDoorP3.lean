/-
  Part 3: a symbolic executor over the model, contracts of functions and plain laws.
-/
import Derived.Test.YtjjnphkdhdjcbaaGreatDoorP2
import Derived.Laws.IdiomStrings
import Derived.RangeFuncNested
import Derived.OrdersIn
set_option linter.unusedVariables false
set_option linter.unusedSimpArgs false
set_option maxRecDepth 10000
set_option maxHeartbeats 80000000
section
namespace Go.Eng
open Go.RowKit
theorem gU {t t':Ty} {xs:List t.T} {ys:List t'.T} (h:qD t t' xs ys):SV.seq t xs= .seq t' ys:=by
 unfold qD at h
 split at h
 ·rename_i e
  subst e
  rw[nS] at h
  simp only at h
  rw[h]
 ·exact h.elim
mutual
theorem dW {E:Env}:∀ {a b:SV},ent a b→∀ {v:Value},Rel E a v→Rel E b v
 | a,b,h,v,hr=>by
  unfold ent at h
  split at h
  ·exact .any v
  ·obtain ⟨rfl,rfl⟩:=h;exact hr
  ·subst h;exact hr
  ·rename_i q d
   cases hr
   have:(Value.bool true)= .bool (@decide q d):=by simp[h]
   rw[this];exact .bl _ _
  ·rename_i q d
   cases hr
   have:(Value.bool false)= .bool (@decide q d):=by simp[h]
   rw[this];exact .bl _ _
  ·rename_i p d1 q d2
   cases hr
   have:(Value.bool (@decide p d1))= .bool (@decide q d2):=by
    congr 1
    exact decide_eq_decide.2 h
   rw[this];exact .bl _ _
  ·rename_i p d b
   cases hr
   have:(Value.bool (@decide p d))= .bool b:=by
    congr 1
    cases b
    ·simp at h;simp[h]
    ·simp at h;simp[h]
   rw[this];exact .val _ trivial
  ·subst h;exact hr
  ·subst h;exact hr
  ·rw[← gU h];exact hr
  ·subst h;cases hr;exact .seq _ _ _ (pF _ _ _)
  ·obtain ⟨rfl,rfl⟩:=h;exact hr
  ·obtain ⟨rfl,rfl⟩:=h;exact hr
  ·subst h;exact hr
  ·subst h;exact hr
  ·subst h;exact hr
  ·subst h;exact hr
  ·cases hr with
   | fmp _ _ b c es hok hb hk hl=>
    obtain ⟨rfl,h2⟩:=h
    exact .fmp _ _ b c es hok hb hk (bZ h2 hl)
  ·cases hr with
   | agg _ vs hl=>exact .agg _ _ (bZ h hl)
  ·cases hr with
   | tup _ vs hl=>exact .tup _ _ (bZ h hl)
  ·cases hr with
   | clo _ _ _ va vb ha hb=>
    obtain ⟨rfl,h1,h2⟩:=h
    exact .clo _ _ _ _ _ (bZ h1 ha) (bZ h2 hb)
  ·cases hr with
   | lit _ n b off _ vs hl hn hok hr=>
    obtain ⟨rfl,h1⟩:=h
    exact .lit _ n b off _ vs (bZ h1 hl) hn hok hr
  ·cases hr with
   | lelem _ i b off vs hl hok hr=>
    obtain ⟨rfl,h1⟩:=h
    exact .lelem _ _ b off vs (bZ h1 hl) hok hr
  ·exact hr
  ·subst h;exact hr
  ·subst h;obtain ⟨rfl,hn⟩:=hr.int_inv;exact .num _ _ hn
  ·cases hr;exact .ifc _ (.inl rfl)
  ·exact h.elim
theorem bZ {E:Env}:∀ {l l':List SV},ent.entL l l'→∀ {vs:List Value},RelL E l vs→RelL E l' vs
 | [],[],_,_,.nil=>.nil
 | x::r,y::r',h,_,.cons _ _ _ _ h1 h2=>.cons _ _ _ _ (dW h.1 h1) (bZ h.2 h2)
end
section
variable {P:Program} {G:Ctx} {H:List HO} {loc:Nat→Loc} {ver:Nat→Nat} {w:World}
theorem aU (hI:Inv G H loc ver w) {F:Fence} {o:Oper} {a:Act} {K:SV→List HO→Prop} {v:Value} {s:SV} (hr:(execOp a.eval o).run P w= .ok (.value v) w) (hk:K s H) (hs:Rel (envOf G H loc ver w) s v):
  OpOK P F o a w (Res G (envOf G H loc ver w) K):=.value _ _ hr (.pure hI hk hs)
theorem Ia {E:Env} {xs:List Int} {a:Option Addr} {n c:Nat} (h:Reads E.w E.ok (.slice (.int .u8)) xs [.slice a n c]):(Conv.bytesToString (.slice a n c)).run P E.w= .ok (.string ⟨(bN xs).toArray⟩) E.w∧(bN xs).length≤maxL:=by
 obtain ⟨a',n',c',e,hn,hc,hm,hr⟩:=h
 cases e
 have hlen:(bN xs).length=n:=by simp[bN,hn]
 refine ⟨?_,by rw[hlen];exact hm⟩
 by_cases h0:0<n
 ·obtain ⟨b,off,rfl,hok,hel⟩:=hr h0
  have hcell:∀j (hj:j<(bN xs).length),E.w.cell? ((⟨b,off,none⟩:Addr).add j)=some (.int .u8 ((bN xs)[j].toNat:Int)):=by
   intro j hj
   have hj':j<n:=by rw[← hlen];exact hj
   obtain ⟨es,h1,h2,h3,h4⟩:=hel j hj'
   subst h3
   have:=h2 0 _ rfl
   simp only[Ty.size,Nat.mul_one,Nat.add_zero] at this
   have hx:(List.getD (α:=Int) xs j 0)=xs[j]'(by omega):=by
    simp[List.getD_eq_getElem?_getD,show j<xs.length by omega]
   have h4':(0:Int)≤List.getD (α:=Int) xs j 0∧List.getD (α:=Int) xs j 0≤255:=h4
   have e2:((bN xs)[j].toNat:Int)=List.getD (α:=Int) xs j 0:=by
    rw[hx] at h4' ⊢
    simp only[bN,List.getElem_map,UInt8.toNat_ofNat']
    omega
   rw[e2]
   have ea:(⟨b,off,none⟩:Addr).add j= ⟨b,off+j,none⟩:=by unfold Addr.add;split<;>simp_all
   rw[ea]
   exact this
  have hl:=run_loadCells_list (P:=P) E.w ⟨b,off,none⟩ (((bN xs).map (fun b=>(b.toNat:Int))).map (Value.int .u8)) (fun j v hj=>by
   have hj':j<(bN xs).length:=by
    have:=(List.getElem?_eq_some_iff.1 hj).1
    simpa using this
   rw[hcell j hj']
   simp[List.getElem?_eq_getElem hj'] at hj
   rw[← hj])
  simp only[List.length_map] at hl
  rw[hlen] at hl
  rw[run_bytesToString E.w ⟨b,off,none⟩ n c _ hl,foldl_push_byteCells]
  have he0:ByteArray.empty.data= #[]:=rfl
  rw[he0]
  simp
 ·have hx:xs= []:=List.eq_nil_of_length_eq_zero (by omega)
  have hn0:n=0:=by omega
  subst hx hn0
  cases a with
  | none=>rfl
  | some a=>
   have hl:=run_loadCells_list (P:=P) E.w a [] (fun j v hj=>by simp at hj)
   exact run_bytesToString E.w a 0 c [] (by simpa using hl)
theorem Lu (hI:Inv G H loc ver w) {s d:TypeId} {s0:SV} {v:Value} {K:SV→Prop} (h:Lf P H s d s0 K) (hx:Rel (envOf G H loc ver w) s0 v):∃v' s',(convert s d v).run P w= .ok v' w∧K s'∧Rel (envOf G H loc ver w) s' v':=by
 unfold Lf at h
 split at h
 ·rename_i ks kd k n hs hd
  obtain ⟨rfl,_⟩:=hx.int_inv
  obtain ⟨h1,h2⟩:=oX h
  exact ⟨_,_,by simp[convert,run_underlying hs,run_underlying hd,Conv.intToInt,mD h1],h2,.val _ h1⟩
 ·rename_i l hs hd
  cases hx with
  | str _ hl=>exact ⟨_,_,by simp[convert,run_underlying hs,run_underlying hd],h,.str _ hl⟩
 ·rename_i e hs hd
  have hv:=sC (H:=H) (lend:=true) (sB (G:=G)) (fun _ _ _ h=>iH hI sB rfl h rfl (fun b l e ho hb=>(hI.objs _ _ (aC ho (by simp))).block (b:=b) hb) fun nm k v h=>cQ hI h) (fun nm k v h=>cQ hI h) (fun nm k i v h=>eD hI rfl h (.inl rfl) fun b k t xs ho hb=>(hI.objs _ _ (aC ho (by simp))).block (b:=b) hb) (fun nm v h=>jC hI sB (.inl rfl) h) hx
  split at h
  ·rename_i xs he hvw
   rw[hvw] at hv
   cases hv with
   | seq _ _ _ hr=>
    obtain ⟨a,n,c,e1,_⟩:=id hr
    cases e1
    obtain ⟨h1,h2⟩:=Ia (P:=P) hr
    exact ⟨_,_,(run_convert_bytes_string w s d e a n c hs he hd).trans h1,h,.str _ h2⟩
  ·exact h.elim
 ·exact h.elim
theorem Lv {E:Env} {a b c:SV} {va vb vc:Value} {K:SV→Prop} (h:Kw a b c K) (ha:Rel E a va) (hb:Rel E b vb) (hc:Rel E c vc):∃bb s,(asBool vc).run P w= .ok bb w∧K s∧Rel E s (if bb then va else vb):=by
 unfold Kw at h
 split at h
 ·cases hc.bool_inv;rw[dB] at h;exact ⟨true,_,rfl,h,ha⟩
 ·cases hc.bool_inv;rw[dB] at h;exact ⟨false,_,rfl,h,hb⟩
 ·rename_i p d
  cases hc
  simp only[dB] at h
  by_cases hp:p
  ·exact ⟨true,_,by simp[asBool,hp],h.yes hp,ha⟩
  ·exact ⟨false,_,by simp[asBool,hp],h.no hp,hb⟩
 ·exact h.elim
theorem vH {a:Act} {c:Call} {f:Operand} {t:TypeId} {g:FuncId} {va vb:List Value} (hc:c.callee= .value f) (hf:a.eval f= .func (.func g) ⟨va⟩ ⟨vb⟩):
  ((do let d ← resolve a.eval c t;invoke d.target d.args):Sem Next).run P w=(callFunc g ⟨va++c.args.toList.map a.eval++vb⟩).run P w:=by
 have e:(⟨va⟩++c.args.map a.eval++ ⟨vb⟩:Array Value)= ⟨va++c.args.toList.map a.eval++vb⟩:=by
  apply Array.ext'
  simp
 simp only[resolve,hc,hf,Deferred.ofValue,Sem.run_bind,Sem.run_pure,Result.andThen_ok,invoke]
 rw[← e]
theorem cR {a:Act} {c:Call} {b:Builtin} {t:TypeId} (hc:c.callee= .builtin b):
  ∃cs:Array Bool,((do let d ← resolve a.eval c t;invoke d.target d.args):Sem Next).run P w=(builtin b c.argTypes t cs (c.args.map a.eval)).run P w:=by
 refine ⟨c.args.map fun | .const _=>true | _=>false,?_⟩
 simp only[resolve,hc,Sem.run_bind,Sem.run_pure,Result.andThen_ok,invoke]
 rfl
theorem lK {c:Call} {a:Act} {x:Operand} (h:c.args.toList= [x]):c.args.map a.eval= #[a.eval x]:=by
 apply Array.ext';simp[h]
theorem sE {c:Call} {a:Act} {x y:Operand} (h:c.args.toList= [x,y]):c.args.map a.eval= #[a.eval x,a.eval y]:=by
 apply Array.ext';simp[h]
theorem Bv {E E':Env} {s:SV} {v:Value} (h:Rel E s v):Rel E' (Np s) v:=by
 cases h with
 | val _ h=>exact .val v h
 | bl p d=>exact .bl p d
 | str s h=>exact .str s h
 | _=>exact .any _
theorem xZ {E E':Env}:∀ {l:List SV} {vs:List Value},RelL E l vs→RelL E' (l.map Np) vs
 | _,_,.nil=>.nil
 | _,_,.cons _ _ _ _ h hl=>.cons _ _ _ _ (Bv h) (xZ hl)
theorem Bw {E E':Env} {s:SV} {v:Value} (h:Rel E s v):Rel E' (Gn s) v:=by
 cases s with
 | agg l=>cases h with
  | agg _ vs hl=>exact .agg _ _ (xZ hl)
 | _=>exact Bv h
theorem Ui (hI:Inv G H loc ver w) {st:Option Nat} {n:Nat} {items:Nat→List SV} (ho:H[0]? =some (.yst st n items)) {s:SV} {v:Value} (h:Rel (envOf G H loc ver w) s v):
  Rel (env0 w fun b=>G.itr.n0≤b∧b<w.heap.size∧¬(loc 0).al b) (yldV H s) v:=by
 cases s with
 | ref nm k=>
  simp only[yldV]
  split
  ·rename_i j t xs e hg
   cases hc:(Nat.beq j k&&t.flat) with
   | false=>exact .any v
   | true=>
    simp only[Bool.and_eq_true] at hc
    obtain rfl:=aJ.1 hc.1
    have hn:=aC hg (by simp)
    have hO:=hI.objs nm _ hn
    cases h with
    | ref _ _ _ _ _ _ hv=>
     have:=hv hO.1.symm
     subst this
     have hblk:∀b,(loc nm).blk.map (·.1)=some b→G.itr.n0≤b∧b<w.heap.size∧¬(loc 0).al b:=fun b hb=>by
      have h1:¬(loc 0).al b:=fun ha=>by
       have:=hI.sep nm 0 _ _ b hn ho hb ha
       subst this
       rw[hn] at ho;cases ho
      refine ⟨Classical.byContradiction fun h2=>?_,hO.block (b:=b) hb,h1⟩
      obtain ⟨_,_,_,_,_,hk,_⟩:=hI.objs 0 _ ho
      exact (hk b (Nat.lt_of_not_le h2) h1).2.2.2 ⟨nm,_,hn,hb⟩
     obtain ⟨o1,o2,o3,o4,vs,o5,o6⟩:=hO
     exact .seq t xs _ (pL (E:=env0 w fun _=>False) (v:=j) (k:=j) (e:=e) ⟨rfl,o2,o3,o4,vs,o5,fun i hi=>Reads.flatJ hc.2 (o6 i hi)⟩ (fun _ h=>h.elim) hblk)
  ·exact .any v
 | _=>exact Bw h
theorem Bz (hI:Inv G H loc ver w) {st:Option Nat} {n:Nat} {items:Nat→List SV} (ho:H[0]? =some (.yst st n items)) {N:Nat} {l:List (Nat × SV)} {a:Act} (hT:TRel (envOf G H loc ver w) N l a):∀xs:List Operand,
  RelL (env0 w fun b=>G.itr.n0≤b∧b<w.heap.size∧¬(loc 0).al b) (xs.map fun x=>yldV H (Eng.ev l x)) (xs.map a.eval)
 | []=>.nil
 | x::xs=>.cons _ _ _ _ (Ui hI ho (fO hT x)) (Bz hI ho hT xs)
theorem Ib (hY:COK P G) (hI:Inv G H loc ver w) {k n:Nat} {items:Nat→List SV} {us:List Value} (ho:hget H 0= .yst (some k) n items) (hk:k<n) (hu:RelL (env0 w fun b=>G.itr.n0≤b∧b<w.heap.size∧¬(loc 0).al b) (items k) us)
  {K:SV→List HO→Prop} (h1:K (.val (.bool true)) (hset H 0 (.yst (some (k+1)) n items))) (h2:K (.val (.bool false)) (hset H 0 (.yst none n items))):
  YieldAt Fence.wide 0 P G.itr.l ⟨us⟩ w fun e w'=>∃v,e= .returned v∧Res G (envOf G H loc ver w) K v w':=by
 have hn':=aC ho (by simp)
 have hlt:0<H.length:=(List.getElem?_eq_some_iff.1 hn').1
 obtain ⟨hv,hal,hn0,hn,hit,hok,hJ⟩:=hI.objs 0 _ hn'
 have hn0':G.itr.n0≤w.heap.size:=hn0
 have hn2:n=G.itr.n:=hn
 have hit2:items=G.itr.items:=hit
 subst hn2
 subst hit2
 refine (hY.1 k _ w us hk hJ hu).mono ?_
 rintro e w' ⟨b,rfl,hJ',hK⟩
 refine ⟨_,rfl,?_⟩
 have key:∀st,G.itr.J st (fun b=>G.itr.n0≤b∧b<w.heap.size∧¬(loc 0).al b) w'→
   ∃loc' ver',Inv G (hset H 0 (.yst st G.itr.n G.itr.items)) loc' ver' w'∧Ext (envOf G H loc ver w) (envOf G (hset H 0 (.yst st G.itr.n G.itr.items)) loc' ver' w'):=by
  intro st hst
  refine ⟨upd loc 0 { loc 0 with al:=fun b=>(loc 0).al b∨(w.heap.size≤b∧b<w'.heap.size) },upd ver 0 (ver 0+1),?_⟩
  refine hI.turn 0 (by simp[hset]) (fun k hk=>⟨aK hk,aT _ _ _ hk,aT _ _ _ hk⟩) (fun _=>bA (aB hlt) rfl) (fun _=>.inr ⟨hv,by rw[aG];omega⟩) hK.size hK.os hK.tape hK.output
   (by rw[hn'];intro h;cases h) (fun _=>by first | rw[show hset H nm _=H.set nm _ from rfl,aB hlt];intro h;cases h | rw[show hset H 0 _=H.set 0 _ from rfl,aB hlt];intro h;cases h) ?_ ?_ ?_ ?_
  ·intro st' n' it' b hb hb2
   rw[aG] at hb2
   rcases hb2 with h | h
   ·exact .inl ⟨_,_,_,hn',h⟩
   ·exact .inr h.1
  ·intro b hb hno
   have hna:¬(loc 0).al b:=hno _ hn'
   refine hK.blk b ?_ hb
   by_cases hlt:b<G.itr.n0
   ·exact .inl (hok b hlt hna).1
   ·exact .inr ⟨Nat.le_of_not_lt hlt,hb,hna⟩
  ·intro o' b ho' hb
   rw[show hset H 0 _=H.set 0 _ from rfl,aB hlt] at ho';cases ho'
   rw[aG] at hb
   rcases hb with h | h
   ·exact .inl ⟨_,hn',h⟩
   ·exact .inr h.1
  ·intro hx o' ho'
   rw[show hset H 0 (.yst st G.itr.n G.itr.items)=H.set 0 _ from rfl,aB hlt] at ho';cases ho'
   rw[aG,aG]
   refine ⟨Nat.succ_pos _,?_,Nat.le_trans hn0 hK.size,rfl,rfl,fun b hb hna=>?_,?_⟩
   ·rintro b (h | h)
    ·exact Nat.lt_of_lt_of_le (hal b h) hK.size
    ·exact h.2
   ·obtain ⟨h1,h2⟩:=hok b hb (fun h=>hna (.inl h))
    exact ⟨h1,hx.ok b h2⟩
   ·refine cast (congrArg (fun M=>G.itr.J st M w') (funext fun b=>propext ⟨?_,?_⟩)) hst
    ·rintro ⟨h3,h4,h5⟩
     have h4':b<w.heap.size:=h4
     exact ⟨h3,Nat.lt_of_lt_of_le h4 hK.size,fun h=>h.elim h5 fun h=>by have:=h.1;omega⟩
    ·rintro ⟨h3,h4,h5⟩
     have h4':b<w'.heap.size:=h4
     by_cases h6:b<w.heap.size
     ·exact ⟨h3,h6,fun h=>h5 (.inl h)⟩
     ·exact (h5 (.inr ⟨by omega,h4'⟩)).elim
 cases b with
 | true=>
  obtain ⟨loc',ver',h3,h4⟩:=key _ hJ'
  exact ⟨_,_,loc',ver',h1,h3,.val _ trivial,h4⟩
 | false=>
  obtain ⟨loc',ver',h3,h4⟩:=key _ hJ'
  exact ⟨_,_,loc',ver',h2,h3,.val _ trivial,h4⟩
theorem Bb {a:Act} {c:Call} {f:Operand} {t:TypeId} {l:Nat} (hc:c.callee= .value f) (hf:a.eval f= .func (.yield l) #[] #[]):
  ((do let d ← resolve a.eval c t;invoke d.target d.args):Sem Next).run P w=(Instr.yield l ⟨c.args.toList.map a.eval⟩).run P w:=by
 have e:(#[]++c.args.map a.eval++ #[]:Array Value)= ⟨c.args.toList.map a.eval⟩:=by
  apply Array.ext'
  simp
 simp only[resolve,hc,hf,Deferred.ofValue,Sem.run_bind,Sem.run_pure,Result.andThen_ok,invoke]
 rw[← e,Array.append_empty]
theorem Rel.seq_inv {E:Env} {t:Ty} {xs:List t.T} {v:Value} (h:Rel E (.seq t xs) v):∃a n c,v= .slice a n c∧(a=none→xs= []):=by
 cases h with
 | seq _ _ _ hr=>
  obtain ⟨a,n,c,e,hn,_,_,hall⟩:=hr
  cases e
  refine ⟨a,n,c,rfl,fun ha=>?_⟩
  have hn':n=List.length xs:=hn
  by_cases h0:0<n
  ·obtain ⟨b,off,hb,_⟩:=hall h0
   rw[ha] at hb;cases hb
  ·exact List.eq_nil_of_length_eq_zero (by omega)
theorem Rel.nil_inv {E:Env} {v:Value} (h:Rel E (.val (.slice none 0 0)) v):v= .slice none 0 0:=by cases h;rfl
theorem Rel.str_inv {E:Env} {s:List UInt8} {v:Value} (h:Rel E (.str s) v):v= .string ⟨s.toArray⟩:=by cases h;rfl
def Uj:SV→Prop→Prop
 | .val (.bool b),p=>p↔b=true
 | .bl q _,p=>p↔q
 | _,_=>False
theorem Rel.bool_is {E:Env} {s:SV} {v:Value} (h:Rel E s v) {p:Prop} (hs:Uj s p):∃b:Bool,v= .bool b∧(p↔b=true):=by
 cases h with
 | val v hv=>cases v<;>first | exact ⟨_,rfl,hs⟩ | exact hs.elim
 | bl q d=>exact ⟨_,rfl,by simpa [Uj] using hs⟩
 | _=>exact hs.elim
theorem dZ (op:BinOp) (t:TypeId) (x y:Operand) (a b:Option Addr) (n c n' c':Nat):(eqGuard op t x y (.slice a n c) (.slice b n' c')).run P w= .ok () w:=by
 unfold eqGuard;split<;>rfl
theorem wB (op:BinOp) (t:TypeId) (x y:Operand) (a b:ByteArray):(eqGuard op t x y (.string a) (.string b)).run P w= .ok () w:=by
 unfold eqGuard;split<;>rfl
theorem tU (op:BinOp) (t:TypeId) (x y:Operand) (a b:Bool):(eqGuard op t x y (.bool a) (.bool b)).run P w= .ok () w:=by
 unfold eqGuard;split<;>rfl
theorem kI {E:Env} {op:BinOp} {t:TypeId} {a:Option Addr} {n c:Nat} {p:Prop} {K:SV→Prop} (ht:oY P t=true) (h:rN op p K) (hp:a=none→p):
  ∃v s,(binOp op t (.slice a n c) (.slice none 0 0)).run P w= .ok v w∧K s∧Rel E s v:=by
 unfold oY at ht
 split at ht
 ·rename_i e hu
  have hd:∀q:Prop,∀b:Bool,(q↔b=true)→Rel E (.bl q (Classical.propDecidable q)) (.bool b):=fun q b hq=>by
   have:b= @decide q (Classical.propDecidable q):=by cases b<;>simp_all
   rw[this];exact .bl _ _
  unfold rN at h
  split at h
  ·refine ⟨.bool a.isNone,_,?_,h (a=none) hp,hd _ _ (by cases a<;>simp)⟩
   simp only[binOp];simp[run_equal_slice_nil w t e a n c hu]
  ·refine ⟨.bool (!a.isNone),_,?_,h (¬a=none) (fun hq=>hp (Classical.not_not.1 hq)),hd _ _ (by cases a<;>simp)⟩
   simp only[binOp];simp[run_equal_slice_nil w t e a n c hu]
  ·exact h.elim
 ·cases ht
theorem Ic {E:Env} {op:BinOp} (t:TypeId) {s s':List UInt8} {K:SV→Prop} (h:Tc op s s' K):
  ∃v u,(binOp op t (.string ⟨s.toArray⟩) (.string ⟨s'.toArray⟩)).run P w= .ok v w∧K u∧Rel E u v:=by
 unfold Tc at h
 split at h
 ·refine ⟨.bool (decide (s=s')),_,?_,h,.bl _ _⟩
  simp[binOp,Op.stringOp,mQ]
  exact Bool.eq_iff_iff.2 (by simp)
 ·refine ⟨.bool (decide (¬s=s')),_,?_,h,.bl _ _⟩
  simp[binOp,Op.stringOp,mQ]
  exact Bool.eq_iff_iff.2 (by simp)
 ·obtain ⟨h1,h2⟩:=h
  refine ⟨.string ⟨(s++s').toArray⟩,_,?_,h2,.str _ (by simpa using h1)⟩
  have e1:(⟨s.toArray⟩:ByteArray).size=s.length:=by simp[ByteArray.size]
  have e2:(⟨s'.toArray⟩:ByteArray).size=s'.length:=by simp[ByteArray.size]
  have e3:(⟨s.toArray⟩:ByteArray)++ ⟨s'.toArray⟩= ⟨(s++s').toArray⟩:=by
   apply WideShapes.bytes_inj;simp[ByteArray.data_append]
  have e4:¬(IntKind.i64.max<((s.length+s'.length:Nat):Int)):=by
   simp[IntKind.max,IntKind.bits,IntKind.signed];omega
  simp only[binOp,Op.stringOp,e1,e2,e3]
  rw[if_neg e4]
  simp
 ·refine ⟨.bool (decide (Op.bytesLess s s'=true)),_,?_,h,.bl _ _⟩
  simp[binOp,Op.stringOp,mQ]
 ·refine ⟨.bool (decide (¬Op.bytesLess s s'=true∧¬s=s')),_,?_,h,.bl _ _⟩
  simp[binOp,Op.stringOp,mQ]
  exact Bool.eq_iff_iff.2 (by simp)
 ·exact h.elim
theorem Rel.nilI_inv {E:Env} {v:Value} (h:Rel E (.val .nilIface) v):v= .nilIface:=by cases h;rfl
theorem Ie {y:Operand} (h:wE y=true):∃c,y= .const c:=by cases y<;>first | exact ⟨_,rfl⟩ | cases h
theorem nN (op:BinOp) (t:TypeId) (x y:Operand) (hy:wE y=true) {v:Value} (hv:v= .nilIface∨∃d z,v= .iface d z):(eqGuard op t x y v .nilIface).run P w= .ok () w:=by
 obtain ⟨c,rfl⟩:=Ie hy
 rcases hv with rfl | ⟨d,z,rfl⟩
 ·cases op<;>cases x<;>rfl
 ·cases op<;>rfl
theorem Ig {t:TypeId} (h:lZ P t=true):∃ms,P.underlying t=some (.interface ms):=by
 unfold lZ at h
 split at h
 ·rename_i ms hu;exact ⟨ms,hu⟩
 ·cases h
theorem qJ {t:TypeId} (ht:lZ P t=true) {v:Value} (hv:v= .nilIface∨∃d z,v= .iface d z):∃b:Bool,(Op.equal t v .nilIface).run P w= .ok b w∧(v= .nilIface→b=true):=by
 obtain ⟨ms,hu⟩:=Ig ht
 rcases hv with rfl | ⟨d,z,rfl⟩
 ·refine ⟨true,?_,fun _=>rfl⟩
  have h:∀n:Nat,(Op.equalIn (n+1) t .nilIface .nilIface).run P w= .ok true w:=fun n=>by simp[Op.equalIn,run_underlying hu]
  exact h 9999
 ·refine ⟨false,?_,fun h=>by cases h⟩
  have h:∀n:Nat,(Op.equalIn (n+1) t (.iface d z) .nilIface).run P w= .ok false w:=fun n=>by simp[Op.equalIn,run_underlying hu]
  exact h 9999
theorem Ih {E:Env} {op:BinOp} {t:TypeId} {v:Value} {K:SV→Prop} (ht:lZ P t=true) (hv:v= .nilIface∨∃d z,v= .iface d z) (h:rN op True K):
  ∃u s,(binOp op t v .nilIface).run P w= .ok u w∧K s∧Rel E s u:=by
 have hd:∀q:Prop,∀b:Bool,(q↔b=true)→Rel E (.bl q (Classical.propDecidable q)) (.bool b):=fun q b hq=>by
  have:b= @decide q (Classical.propDecidable q):=by cases b<;>simp_all
  rw[this];exact .bl _ _
 obtain ⟨b,hb,_⟩:=qJ (P:=P) (w:=w) ht hv
 unfold rN at h
 split at h
 ·refine ⟨.bool b,_,?_,h (b=true) (fun _=>trivial),hd _ _ Iff.rfl⟩
  rcases hv with rfl | ⟨d,z,rfl⟩<;>simp only[binOp]<;>simp[hb]
 ·refine ⟨.bool (!b),_,?_,h (¬b=true) (fun _=>trivial),hd _ _ (by cases b<;>simp)⟩
  rcases hv with rfl | ⟨d,z,rfl⟩<;>simp only[binOp]<;>simp[hb]
 ·exact h.elim
theorem Lw {E:Env} {op:BinOp} {t:TypeId} {K:SV→Prop} (ht:lZ P t=true) (h:nilT op K):
  ∃u s,(binOp op t .nilIface .nilIface).run P w= .ok u w∧K s∧Rel E s u:=by
 obtain ⟨b,hb,hb1⟩:=qJ (P:=P) (w:=w) ht (.inl rfl)
 obtain rfl:=hb1 rfl
 unfold nilT at h
 split at h
 ·exact ⟨.bool true,_,by simp only[binOp];simp[hb],h,.val _ trivial⟩
 ·exact ⟨.bool false,_,by simp only[binOp];simp[hb],h,.val _ trivial⟩
 ·exact h.elim
theorem Ey {E:Env} {op:BinOp} {t:TypeId} {p q:Prop} {a b:Bool} {K:SV→Prop} (ht:tM P t=true) (h:tN op p q K) (hp:p↔a=true) (hq:q↔b=true):
  ∃v s,(binOp op t (.bool a) (.bool b)).run P w= .ok v w∧K s∧Rel E s v:=by
 unfold tM at ht
 split at ht
 ·rename_i hu
  have hd:∀q:Prop,∀b:Bool,(q↔b=true)→Rel E (.bl q (Classical.propDecidable q)) (.bool b):=fun q b hq=>by
   have:b= @decide q (Classical.propDecidable q):=by cases b<;>simp_all
   rw[this];exact .bl _ _
  unfold tN at h
  split at h
  ·exact ⟨.bool (a==b),_,run_eql_bool w t a b hu,h,hd _ _ (by rw[hp,hq];cases a<;>cases b<;>simp)⟩
  ·exact ⟨.bool (!(a==b)),_,run_neq_bool w t a b hu,h,hd _ _ (by rw[hp,hq];cases a<;>cases b<;>simp)⟩
  ·exact h.elim
 ·cases ht
theorem yA {E:Env} {k:IntKind}:∀ {r:List SV} {vs:List Value} {p:Int} {K:SV→Prop},wW k p r K→inK k p→RelL E r vs→
  ∃v s,(vs.foldlM Builtin.max2 (.int k p):Sem Value).run P w= .ok v w∧K s∧Rel E s v
 | [],_,p,K,h,hp,.nil=>⟨_,_,by simp,h,.val _ hp⟩
 | s::r,_,p,K,h,hp,.cons _ v _ vs hv hl=>by
  unfold wW at h
  split at h
  ·rename_i e;cases e
  ·rename_i k' q r' e
   cases e
   obtain ⟨hb,hK⟩:=aE h
   have hb:=of_decide_eq_true hb
   subst hb
   obtain ⟨e1,hq⟩:=hv.int_inv
   obtain ⟨v',s',h1,h2,h3⟩:=yA hK (Zd hp hq) hl
   refine ⟨v',s',?_,h2,h3⟩
   rw[e1,List.foldlM_cons]
   have e2:(Builtin.max2 (.int k p) (.int k q)).run P w= .ok (.int k (max p q)) w:=by
    simp only[Builtin.max2,Sem.run_pure]
    congr 2
    split<;>omega
   simp only[Sem.run_bind,e2,Result.andThen_ok]
   exact h1
  ·exact h.elim
theorem Ez {E:Env} {k:IntKind} {p:Int} {r:List SV} {vs:List Value} {K:SV→Prop} (ts:Array TypeId) (t:TypeId) (h:wW k p r K) (hr:RelL E (.val (.int k p)::r) vs):
  ∃v s,(Builtin.max_ ts t ⟨vs⟩).run P w= .ok v w∧K s∧Rel E s v:=by
 cases hr with
 | cons _ v _ vs hv hl=>
  obtain ⟨rfl,hp⟩:=hv.int_inv
  exact yA h hp hl
theorem yB {E:Env} {k:IntKind}:∀ {r:List SV} {vs:List Value} {p:Int} {K:SV→Prop},wX k p r K→inK k p→RelL E r vs→
  ∃v s,(vs.foldlM Builtin.min2 (.int k p):Sem Value).run P w= .ok v w∧K s∧Rel E s v
 | [],_,p,K,h,hp,.nil=>⟨_,_,by simp,h,.val _ hp⟩
 | s::r,_,p,K,h,hp,.cons _ v _ vs hv hl=>by
  unfold wX at h
  split at h
  ·rename_i e;cases e
  ·rename_i k' q r' e
   cases e
   obtain ⟨hb,hK⟩:=aE h
   have hb:=of_decide_eq_true hb
   subst hb
   obtain ⟨e1,hq⟩:=hv.int_inv
   obtain ⟨v',s',h1,h2,h3⟩:=yB hK (Ze hp hq) hl
   refine ⟨v',s',?_,h2,h3⟩
   rw[e1,List.foldlM_cons]
   have e2:(Builtin.min2 (.int k p) (.int k q)).run P w= .ok (.int k (min p q)) w:=by
    simp only[Builtin.min2,Sem.run_pure]
    congr 2
    split<;>omega
   simp only[Sem.run_bind,e2,Result.andThen_ok]
   exact h1
  ·exact h.elim
theorem Fa {E:Env} {k:IntKind} {p:Int} {r:List SV} {vs:List Value} {K:SV→Prop} (ts:Array TypeId) (t:TypeId) (h:wX k p r K) (hr:RelL E (.val (.int k p)::r) vs):
  ∃v s,(Builtin.min_ ts t ⟨vs⟩).run P w= .ok v w∧K s∧Rel E s v:=by
 cases hr with
 | cons _ v _ vs hv hl=>
  obtain ⟨rfl,hp⟩:=hv.int_inv
  exact yB h hp hl
theorem Ii {f:Field} {off:Nat} {k:IntKind} (h:intF P f off k=true):f.offset=off∧P.underlying f.type=some (.int k):=by
 unfold intF at h
 rw[Bool.and_eq_true] at h
 obtain ⟨h1,h2⟩:=h
 refine ⟨aJ.1 h1,?_⟩
 split at h2
 ·rename_i q hq;rw[hq,of_decide_eq_true h2]
 ·cases h2
theorem jD {e:TypeId} {q:IntKind} (hu:P.underlying e=some (.int q)) {xs:Array Value} {off:Nat} {v:Value} (hx:xs[off]? =some v):(part e xs off).run P w= .ok v w:=by
 simp[part,isAgg,run_underlying hu,hx]
theorem Fb {t:TypeId} {op:BinOp} {k k':IntKind} {a b c d:Int} {K:SV→Prop} (h:xG P t op k k' a b c d K) (E:Env) (x y:Operand):
  (eqGuard op t x y (.agg #[.int k a,.int k' b]) (.agg #[.int k c,.int k' d])).run P w= .ok () w∧∃v s,(binOp op t (.agg #[.int k a,.int k' b]) (.agg #[.int k c,.int k' d])).run P w= .ok v w∧K s∧Rel E s v:=by
 unfold xG at h
 split at h
 case h_2=>exact h.elim
 rename_i fs hu
 split at h
 case h_2=>exact h.elim
 rename_i f g hfs
 obtain ⟨hb,⟨⟨n1,n2,n3⟩,hk⟩⟩:=aE h
 rw[Bool.and_eq_true] at hb
 obtain ⟨hb1,hb2⟩:=hb
 obtain ⟨o1,u1⟩:=Ii hb1
 obtain ⟨o2,u2⟩:=Ii hb2
 have hfo:P.fieldsOf t=fs:=by unfold Program.fieldsOf;rw[hu]
 have hfa:fs= #[f,g]:=by apply Array.ext';simpa using hfs
 have hg:P.eqGuardType P.depth t=false:=by
  unfold Program.depth
  rw[show 2*(P.types.size+Made.depth)+2=(2*(P.types.size+Made.depth)+1)+1 from rfl]
  simp only[Program.eqGuardType,hu,hfa]
  simp[Program.eqGuardType,u1,u2]
 refine ⟨run_eqGuard_agg w op t x y _ _ hg,?_⟩
 have heq:(Op.equalIn 10000 t (.agg #[.int k a,.int k' b]) (.agg #[.int k c,.int k' d])).run P w= .ok (decide (a=c)&&decide (b=d)) w:=by
  rw[show (10000:Nat)=9999+1 from rfl,run_equalIn_struct w 9999 t _ _ (by rw[hfo];exact hu) n3,hfo,hfs]
  have p1:∀w:World,(part f.type #[.int k a,.int k' b] f.offset).run P w= .ok (.int k a) w:=fun w=>jD u1 (by rw[o1];rfl)
  have p2:∀w:World,(part f.type #[.int k c,.int k' d] f.offset).run P w= .ok (.int k c) w:=fun w=>jD u1 (by rw[o1];rfl)
  have p3:∀w:World,(part g.type #[.int k a,.int k' b] g.offset).run P w= .ok (.int k' b) w:=fun w=>jD u2 (by rw[o2];rfl)
  have p4:∀w:World,(part g.type #[.int k c,.int k' d] g.offset).run P w= .ok (.int k' d) w:=fun w=>jD u2 (by rw[o2];rfl)
  have q1:∀w:World,(Op.equalIn 9999 f.type (.int k a) (.int k c)).run P w= .ok (a==c) w:=fun w=>run_equalIn_int w 9998 f.type k k a c u1
  have q2:∀w:World,(Op.equalIn 9999 g.type (.int k' b) (.int k' d)).run P w= .ok (b==d) w:=fun w=>run_equalIn_int w 9998 g.type k' k' b d u2
  simp only[Op.eqFields,n1,n2,ne_eq,not_false_eq_true,if_true,Sem.run_bind,p1,p2,p3,p4,q1,q2,Result.andThen_ok,Sem.run_ite]
  by_cases e1:a=c
  ·by_cases e2:b=d
   ·simp[e1,e2]
   ·simp[e1,e2]
  ·simp[e1]
 cases op<;>simp only at hk
 case eql=>exact ⟨_,_,by rw[run_eql_struct,heq];rfl,hk,by rw[← Bool.decide_and];exact .bl _ _⟩
 case neq=>exact ⟨_,_,by rw[run_neq_struct,heq];rfl,hk,by rw[← Bool.decide_and,← decide_not];exact .bl _ _⟩
theorem yC:∀ {l:List SV} {K:List (List UInt8)→Prop},strs l K→∃xs,l=xs.map SV.str∧K xs
 | [],_,h=>⟨[],rfl,h⟩
 | s::r,K,h=>by
  unfold strs at h
  split at h
  ·rename_i e;cases e
  ·rename_i s' r' e
   cases e
   obtain ⟨xs,rfl,hk⟩:=yC h
   exact ⟨s'::xs,rfl,hk⟩
  ·exact h.elim
theorem yD {E:Env}:∀ {xs:List (List UInt8)} {vs:List Value},RelL E (xs.map SV.str) vs→vs=xs.map fun s=>.string ⟨s.toArray⟩
 | [],_,h=>by cases h;rfl
 | x::xs,_,h=>by
  cases h with
  | cons _ v _ vs hv hl=>rw[hv.str_inv,yD hl];rfl
theorem yE {t:TypeId} (h:Lk P t=true):P.underlying t=some .string:=by
 unfold Lk at h
 split at h
 ·assumption
 ·cases h
theorem sF {e:TypeId} (hu:P.underlying e=some .string) {xs:Array Value} {off:Nat} {v:Value} (hx:xs[off]? =some v) (w:World):(part e xs off).run P w= .ok v w:=by
 simp[part,isAgg,run_underlying hu,hx]
theorem vI {d:Nat}:∀ {fs:List Field} {off:Nat},Bk P fs off=true→∀f∈fs,P.eqGuardType d f.type=true→d=0
 | [],_,_,f,hf,_=>by cases hf
 | g::r,off,h,f,hf,hd=>by
  unfold Bk at h
  simp only[Bool.and_eq_true] at h
  rcases List.mem_cons.1 hf with rfl | hf
  ·cases d with
   | zero=>rfl
   | succ d=>simp[Program.eqGuardType,yE h.1.2] at hd
  ·exact vI h.2 f hf hd
theorem Lx {d:Nat} {t:TypeId} {fs:Array Field} (hs:P.underlying t=some (.struct fs)):P.eqGuardType (d+1) t=fs.any fun f=>f.name != "_" &&P.eqGuardType d f.type:=by
 simp only[Program.eqGuardType,hs]
theorem qK (w:World) (d:Nat) (A B:List Value):∀(fs:List Field) (off:Nat) (xs ys:List (List UInt8)),Bk P fs off=true→Tl fs→fs.length=xs.length→fs.length=ys.length→
  A.drop off=(xs.map fun s=>Value.string ⟨s.toArray⟩)→B.drop off=(ys.map fun s=>Value.string ⟨s.toArray⟩)→(Op.eqFields (d+1) ⟨A⟩ ⟨B⟩ fs).run P w= .ok (decide (xs=ys)) w
 | [],off,xs,ys,_,_,h1,h2,_,_=>by
  cases xs<;>cases ys<;>simp_all [Op.eqFields]
 | f::fs,off,x::xs,y::ys,hf,hn,h1,h2,ha,hb=>by
  unfold Bk at hf
  simp only[Bool.and_eq_true] at hf
  obtain ⟨⟨o1,u1⟩,hf⟩:=hf
  have o1:f.offset=off:=aJ.1 o1
  have u1:=yE u1
  have g1:A[off]? =some (Value.string ⟨x.toArray⟩):=by
   have:=congrArg (fun l=>l[0]?) ha
   simpa [List.getElem?_drop] using this
  have g2:B[off]? =some (Value.string ⟨y.toArray⟩):=by
   have:=congrArg (fun l=>l[0]?) hb
   simpa [List.getElem?_drop] using this
  have p1:=sF (P:=P) u1 (xs:=⟨A⟩) (off:=f.offset) (v:=.string ⟨x.toArray⟩) (by rw[o1];simpa using g1)
  have p2:=sF (P:=P) u1 (xs:=⟨B⟩) (off:=f.offset) (v:=.string ⟨y.toArray⟩) (by rw[o1];simpa using g2)
  have q1:=run_equalIn_string w d f.type ⟨x.toArray⟩ ⟨y.toArray⟩ u1
  have a2:A.drop (off+1)=(xs.map fun s=>Value.string ⟨s.toArray⟩):=by
   rw[← List.drop_drop,ha];rfl
  have b2:B.drop (off+1)=(ys.map fun s=>Value.string ⟨s.toArray⟩):=by
   rw[← List.drop_drop,hb];rfl
  have ih:=qK w d A B fs (off+1) xs ys hf hn.2 (by simpa using h1) (by simpa using h2) a2 b2
  have n1:f.name≠ "_" :=hn.1
  have e0:((⟨x.toArray⟩:ByteArray).toList==(⟨y.toArray⟩:ByteArray).toList)=decide (x=y):=by
   rw[ByteArray.toList_eq,ByteArray.toList_eq]
   exact Bool.eq_iff_iff.2 (by simp)
  simp only[Op.eqFields,n1,ne_eq,not_false_eq_true,if_true,Sem.run_bind,p1,p2,q1,e0,Result.andThen_ok,Sem.run_ite]
  by_cases e1:x=y
  ·simp[e1,ih]
  ·simp[e1]
theorem Ij {t:TypeId} {op:BinOp} {l m:List SV} {K:SV→Prop} (h:Ef P t op l m K) (E:Env) (x y:Operand) {u v:Value} (hu:Rel E (.agg l) u) (hv:Rel E (.agg m) v):
  (eqGuard op t x y u v).run P w= .ok () w∧∃r s,(binOp op t u v).run P w= .ok r w∧K s∧Rel E s r:=by
 unfold Ef at h
 split at h
 case h_2=>exact h.elim
 rename_i fs hs
 obtain ⟨xs,ex,h'⟩:=yC h
 obtain ⟨ys,ey,h''⟩:=yC h'
 subst ex ey
 obtain ⟨hb,⟨⟨n1,n3⟩,hk⟩⟩:=aE h''
 simp only[Bool.and_eq_true] at hb
 obtain ⟨⟨hb1,hb2⟩,hb3⟩:=hb
 have hb2:=aJ.1 hb2
 have hb3:=aJ.1 hb3
 cases hu with
 | agg _ us hl=>
 cases hv with
 | agg _ vs hm=>
 obtain rfl:=yD hl
 obtain rfl:=yD hm
 have hfo:P.fieldsOf t=fs:=by unfold Program.fieldsOf;rw[hs]
 have hg:P.eqGuardType P.depth t=false:=by
  unfold Program.depth
  rw[show 2*(P.types.size+Made.depth)+2=(2*(P.types.size+Made.depth)+1)+1 from rfl,Lx hs]
  rw[Bool.eq_false_iff]
  intro hc
  rw[Array.any_eq_true'] at hc
  obtain ⟨f,hf,hc⟩:=hc
  simp only[Bool.and_eq_true] at hc
  exact absurd (vI hb1 f (by simpa using hf) hc.2) (by omega)
 refine ⟨run_eqGuard_agg w op t x y _ _ hg,?_⟩
 have heq:(Op.equalIn 10000 t (.agg ⟨xs.map fun s=>.string ⟨s.toArray⟩⟩) (.agg ⟨ys.map fun s=>.string ⟨s.toArray⟩⟩)).run P w= .ok (decide (xs=ys)) w:=by
  rw[show (10000:Nat)=9999+1 from rfl,run_equalIn_struct w 9999 t _ _ (by rw[hfo];exact hs) n3,hfo]
  exact qK w 9998 _ _ fs.toList 0 xs ys hb1 n1 hb2 hb3 rfl rfl
 cases op<;>simp only at hk
 case eql=>exact ⟨_,_,by rw[run_eql_struct,heq];rfl,hk,.bl _ _⟩
 case neq=>exact ⟨_,_,by rw[run_neq_struct,heq];rfl,hk,by rw[← decide_not];exact .bl _ _⟩
theorem Zs {u:Value} (h:SV.val (.slice none 0 0)=cst u):u= .slice none 0 0:=by
 unfold cst at h
 split at h
 ·rename_i k n
  cases hq:(decide (lo k≤n)&&decide (n≤hi k)) with
  | true=>rw[hq] at h;cases h
  | false=>rw[hq] at h;cases h
 ·rename_i s
  cases hq:Nat.ble s.data.toList.length 140737488355328 with
  | true=>rw[hq] at h;cases h
  | false=>rw[hq] at h;cases h
 ·injection h with h;exact h.symm
theorem mJ (hI:Inv G H loc ver w) {nm off:Nat} {t:Ty} {e:TypeId} {K:List HO→Prop} (h:nilRef H nm off t e K):
  ∃H' loc' ver',K H'∧Inv G H' loc' ver' w∧Ext (envOf G H loc ver w) (envOf G H' loc' ver' w):=by
 unfold nilRef at h
 cases ho:hget H nm with
 | cells l ce=>
  rw[ho] at h
  simp only at h
  split at h
  case h_2=>exact h.elim
  rename_i hv
  obtain ⟨hlt,h⟩:=aE h
  rw[aL,aL] at h
  have hlt:off<l.length:=by simpa using hlt
  have hn:=aC ho (by simp)
  have hnl:nm<H.length:=(List.getElem?_eq_some_iff.1 hn).1
  have hf:=hI.fresh (w':=w) (.vec 1 t [] e) (mkL none 0 0) 1 (Nat.le_refl _) rfl rfl rfl (fun _ _=>rfl) (fun b hb=>by simp[Owns] at hb)
   (fun hx=>⟨rfl,Nat.one_pos,rfl,Nat.zero_le _,[],⟨by simp,.inl ⟨rfl,rfl⟩⟩,fun i hi=>absurd hi (Nat.not_lt_zero _)⟩)
  have hn1:(H++ [HO.vec 1 t [] e])[nm]? =some (.cells l ce):=by rw[List.getElem?_append_left hnl];exact hn
  have hlt1:nm<(H++ [HO.vec 1 t [] e]).length:=by simp;omega
  have h2:=hf.1.turn nm (H':=hset (H++ [HO.vec 1 t [] e]) nm (.cells (l.set off (.ref H.length 1)) ce)) (loc':=upd loc H.length (mkL none 0 0)) (ver':=upd ver H.length 1) (w':=w) (by simp[hset]) (fun k hk=>⟨aK hk,rfl,rfl⟩) (fun _=>bA (aB hlt1) rfl) (fun _=>.inl ⟨rfl,rfl,.inl rfl⟩) (Nat.le_refl _) rfl rfl rfl
   (by rw[hn1];intro h;cases h) (fun _=>by rw[show hset (H++ [HO.vec 1 t [] e]) nm _=(H++ [HO.vec 1 t [] e]).set nm _ from rfl,aB hlt1];intro h;cases h)
   (fun st n it b h=>by rw[show hset (H++ [HO.vec 1 t [] e]) nm _=(H++ [HO.vec 1 t [] e]).set nm _ from rfl,aB hlt1] at h;cases h) (fun _ _ _=>rfl)
   (fun o' b ho' hb=>by
    rw[show hset (H++ [HO.vec 1 t [] e]) nm _=(H++ [HO.vec 1 t [] e]).set nm _ from rfl,aB hlt1] at ho';cases ho'
    exact .inl ⟨_,hn1,hb⟩)
   (fun hx o' ho'=>by
    rw[show hset (H++ [HO.vec 1 t [] e]) nm _=(H++ [HO.vec 1 t [] e]).set nm _ from rfl,aB hlt1] at ho';cases ho'
    obtain ⟨q1,b,vs,q2,q3,q4⟩:=hf.1.objs nm _ hn1
    refine ⟨q1,b,vs,q2,q3,?_⟩
    have hg:=q4.get off hlt
    rw[hv] at hg
    have hvn:=hg.nil_inv
    have hr:Rel (envOf G (hset (H++ [HO.vec 1 t [] e]) nm (.cells (l.set off (.ref H.length 1)) ce)) (upd loc H.length (mkL none 0 0)) (upd ver H.length 1) w) (.ref H.length 1) (vs.getD off undef):=by
     refine .ref _ _ _ (by
      refine bA (o:=HO.vec 1 t [] e) ?_ rfl
      rw[show hset (H++ [HO.vec 1 t [] e]) nm _=(H++ [HO.vec 1 t [] e]).set nm _ from rfl,aK (by omega)]
      exact bT) Nat.one_pos (by simp[envOf,aG]) fun _=>?_
     simp only[envOf,aG]
     rw[hvn];rfl
    have:=(q4.ext hx).set off hr
    have hvl:off<vs.length:=by rw[← q4.length];exact hlt
    rwa [show vs.set off (vs.getD off undef)=vs from by
     rw[List.getD_eq_getElem?_getD,List.getElem?_eq_getElem hvl,Option.getD_some];exact List.set_getElem_self hvl] at this)
  exact ⟨_,_,_,h,h2.1,hf.2.trans h2.2⟩
 | _=>rw[ho] at h;exact h.elim
theorem gW (hY:COK P G) {Γ:List Con} (hΓ:∀c∈Γ,aD P c) {F:Fence} (hF:Opn F) (hI:Inv G H loc ver w) {N:Nat} {l:List (Nat × SV)} {a:Act} (hT:TRel (envOf G H loc ver w) N l a) {o:Oper} {K:SV→List HO→Prop}
  (h:op1 P Γ o l H K):(∀c,o.op≠ .defer c)∧OpOK P F o a w (Res G (envOf G H loc ver w) K):=by
 have ev:=fun x=>fO hT x
 unfold op1 at h
 cases ho:o.op with
 | move x=>
  simp only[ho,dB] at h
  exact ⟨by simp,aU hI (by simp[execOp,ho]) h (ev x)⟩
 | assign x=>
  simp only[ho] at h
  refine ⟨by simp,?_⟩
  cases hn:Ny P o.type x with
  | none=>
   rw[hn] at h
   simp only[dB] at h
   cases hp:Ea (Eng.ev l x) with
   | true=>
    rw[hp,cond_true] at h
    exact .value (a.eval x) w (by simp[execOp,ho]) (Ep hI h (ev x))
   | false=>
    rw[hp,cond_false] at h
    exact aU hI (by simp[execOp,ho]) h (ev x)
  | some p=>
   obtain ⟨ty,e⟩:=p
   rw[hn] at h
   simp only[aL] at h
   have hx:x= .const (.slice none 0 0):=by
    unfold Ny at hn
    split at hn
    ·rfl
    ·cases hn
   subst hx
   have hf:=hI.fresh (w':=w) (.vec 1 ty [] e) (mkL none 0 0) 1 (Nat.le_refl _) rfl rfl rfl (fun _ _=>rfl) (by intro b hb;simp[Owns] at hb)
    (fun hx=>⟨rfl,Nat.one_pos,rfl,Nat.zero_le _,[],⟨by simp,.inl ⟨rfl,rfl⟩⟩,fun i hi=>absurd hi (Nat.not_lt_zero _)⟩)
   refine .value (.slice none 0 0) w (by simp[execOp,ho,Act.eval]) ⟨_,_,_,_,h,hf.1,?_,hf.2⟩
   refine .ref _ _ _ (by exact eC rfl) Nat.one_pos (by simp[envOf,aG]) fun _=>?_
   simp[envOf,aG,Core.head]
 | pick c x y=>
  simp only[ho] at h
  obtain ⟨b,s,h1,h2,h3⟩:=Lv (P:=P) (w:=w) h (ev x) (ev y) (ev c)
  exact ⟨by simp,aU hI (by simp[execOp,ho,h1]) h2 h3⟩
 | binOp op t x y yt=>
  simp only[ho] at h
  have e1:=ev x
  have e2:=ev y
  split at h
  ·rename_i k p k' q h1 h2
   rw[h1] at e1;rw[h2] at e2
   obtain ⟨e3,hp⟩:=e1.int_inv
   obtain ⟨e4,hq⟩:=e2.int_inv
   cases hsh:Nq op with
   | true=>
    rw[hsh] at h
    simp only[cond_true] at h
    obtain ⟨v,s,h3,h4,h5⟩:=Ay (P:=P) (w:=w) (E:=envOf G H loc ver w) (k':=k') h hp t
    exact ⟨by simp,aU hI (by simp[execOp,ho,e3,e4,iY,h3]) h4 h5⟩
   | false=>
   rw[hsh] at h
   simp only[cond_false] at h
   obtain ⟨hb,hK⟩:=aE h
   have hb:=of_decide_eq_true hb
   subst hb
   obtain ⟨v,s,h3,h4,h5⟩:=Ho (P:=P) (w:=w) (E:=envOf G H loc ver w) hK hp hq t
   exact ⟨by simp,aU hI (by simp[execOp,ho,e3,e4,iY,h3]) h4 h5⟩
  ·rename_i ty xs h1 h2
   obtain ⟨hb,hK⟩:=aE h
   rw[h1] at e1;rw[h2] at e2
   obtain ⟨a0,n,c,e3,hx⟩:=e1.seq_inv
   have e4:=e2.nil_inv
   obtain ⟨v,s,h3,h4,h5⟩:=kI (P:=P) (w:=w) (E:=envOf G H loc ver w) (t:=t) (a:=a0) (n:=n) (c:=c) hb hK hx
   exact ⟨by simp,aU hI (by simp[execOp,ho,e3,e4,dZ,h3]) h4 h5⟩
  ·rename_i nm k h1 h2
   have hrf:∀(ty:Ty) (xs:List ty.T),Rel (envOf G H loc ver w) (.seq ty xs) (a.eval x)→∃a0 n c,a.eval x= .slice a0 n c∧(a0=none→xs= []):=fun ty xs hr=>hr.seq_inv
   rw[h1] at e1;rw[h2] at e2
   have e4:=e2.nil_inv
   split at h
   ·rename_i v ty xs e ho'
    obtain ⟨hb,hK⟩:=aE h
    obtain ⟨hb,hv⟩:_=true∧ _=true:=by simpa only[Bool.and_eq_true] using hb
    have e5:=cQ hI e1
    simp only[view,ho',hv,Bool.true_and,cond_true] at e5
    obtain ⟨a0,n,c,e3,hx⟩:=e5.seq_inv
    obtain ⟨v,s,h3,h4,h5⟩:=kI (P:=P) (w:=w) (E:=envOf G H loc ver w) (t:=t) (a:=a0) (n:=n) (c:=c) hb hK hx
    exact ⟨by simp,aU hI (by simp[execOp,ho,e3,e4,dZ,h3]) h4 h5⟩
   ·rename_i v ty xs ho'
    obtain ⟨hb,hK⟩:=aE h
    obtain ⟨hb,hv⟩:_=true∧ _=true:=by simpa only[Bool.and_eq_true] using hb
    have e5:=cQ hI e1
    simp only[view,ho',hv,cond_true] at e5
    obtain ⟨a0,n,c,e3,hx⟩:=e5.seq_inv
    obtain ⟨v,s,h3,h4,h5⟩:=kI (P:=P) (w:=w) (E:=envOf G H loc ver w) (t:=t) (a:=a0) (n:=n) (c:=c) hb hK hx
    exact ⟨by simp,aU hI (by simp[execOp,ho,e3,e4,dZ,h3]) h4 h5⟩
   ·exact h.elim
  ·rename_i h1 h2
   obtain ⟨hb,hK⟩:=aE h
   rw[h1] at e1;rw[h2] at e2
   have e3:=e1.nil_inv
   have e4:=e2.nil_inv
   obtain ⟨v,s,h3,h4,h5⟩:=kI (P:=P) (w:=w) (E:=envOf G H loc ver w) (t:=t) (a:=none) (n:=0) (c:=0) hb hK (fun _=>trivial)
   exact ⟨by simp,aU hI (by simp[execOp,ho,e3,e4,dZ,h3]) h4 h5⟩
  ·rename_i s1 s2 h1 h2
   rw[h1] at e1;rw[h2] at e2
   have e3:=e1.str_inv
   have e4:=e2.str_inv
   obtain ⟨v,s,h3,h4,h5⟩:=Ic (P:=P) (w:=w) (E:=envOf G H loc ver w) t h
   exact ⟨by simp,aU hI (by simp[execOp,ho,e3,e4,wB,h3]) h4 h5⟩
  all_goals (try exact h.elim)
  rotate_left 4
  ·rename_i k a1 k' b1 j c1 j' d1 h1 h2
   obtain ⟨hb,hK⟩:=aE h
   rw[Bool.and_eq_true] at hb
   obtain ⟨hb1,hb2⟩:=hb
   have hb1:=of_decide_eq_true hb1
   have hb2:=of_decide_eq_true hb2
   subst hb1 hb2
   rw[h1] at e1;rw[h2] at e2
   have inv:∀ {k k':IntKind} {a1 b1:Int} {v:Value},Rel (envOf G H loc ver w) (.agg [.val (.int k a1),.val (.int k' b1)]) v→v= .agg #[.int k a1,.int k' b1]:=fun hr=>by
    cases hr with
    | agg _ vs hl=>
     cases hl with
     | cons _ _ _ _ r1 hl=>
      cases hl with
      | cons _ _ _ _ r2 hl=>
       cases hl
       obtain ⟨rfl,_⟩:=r1.int_inv
       obtain ⟨rfl,_⟩:=r2.int_inv
       rfl
   have e3:=inv e1
   have e4:=inv e2
   obtain ⟨g1,v,s,h3,h4,h5⟩:=Fb (P:=P) (w:=w) hK (envOf G H loc ver w) x y
   exact ⟨by simp,aU hI (by simp[execOp,ho,e3,e4,g1,h3]) h4 h5⟩
  ·rename_i a1 l1 b1 l2 h1 h2
   rw[h1] at e1;rw[h2] at e2
   obtain ⟨g1,v,s,h3,h4,h5⟩:=Ij (P:=P) (w:=w) h (envOf G H loc ver w) x y e1 e2
   exact ⟨by simp,aU hI (by simp[execOp,ho,g1,h3]) h4 h5⟩
  ·rename_i h1 h2
   obtain ⟨hb,hK⟩:=aE h
   obtain ⟨hb1,hb2⟩:_=true∧ _=true:=by simpa only[Bool.and_eq_true] using hb
   rw[h1] at e1;rw[h2] at e2
   have e4:=e2.nilI_inv
   generalize hv:a.eval x=v0 at e1
   cases e1 with
   | ifc _ hi=>
   obtain ⟨v,s,h3,h4,h5⟩:=Ih (P:=P) (w:=w) (E:=envOf G H loc ver w) hb1 hi hK
   exact ⟨by simp,aU hI (by simp[execOp,ho,hv,e4,nN op t x y hb2 hi,h3]) h4 h5⟩
  ·rename_i h1 h2
   obtain ⟨hb,hK⟩:=aE h
   obtain ⟨hb1,hb2⟩:_=true∧ _=true:=by simpa only[Bool.and_eq_true] using hb
   rw[h1] at e1;rw[h2] at e2
   have e3:=e1.nilI_inv
   have e4:=e2.nilI_inv
   obtain ⟨v,s,h3,h4,h5⟩:=Lw (P:=P) (w:=w) (E:=envOf G H loc ver w) hb1 hK
   exact ⟨by simp,aU hI (by simp[execOp,ho,e3,e4,nN op t x y hb2 (.inl rfl),h3]) h4 h5⟩
  ·rename_i k k' q h1 h2
   obtain ⟨hb,hK⟩:=aE h
   have hb:=of_decide_eq_true hb
   subst hb
   rw[h1] at e1;rw[h2] at e2
   obtain ⟨e4,hq⟩:=e2.int_inv
   generalize hv:a.eval x=v0 at e1
   cases e1 with
   | num _ p hp=>
   obtain ⟨v,s,h3,h4,h5⟩:=Hn (P:=P) (w:=w) (E:=envOf G H loc ver w) (a:=p) (b:=q) hK t
   exact ⟨by simp,aU hI (by simp[execOp,ho,hv,e4,iY,h3]) h4 h5⟩
  all_goals
   rename_i h1 h2
   obtain ⟨hb,hK⟩:=aE h
   rw[h1] at e1;rw[h2] at e2
   obtain ⟨b1,e3,q1⟩:=e1.bool_is Iff.rfl
   obtain ⟨b2,e4,q2⟩:=e2.bool_is Iff.rfl
   obtain ⟨v,s,h3,h4,h5⟩:=Ey (P:=P) (w:=w) (E:=envOf G H loc ver w) (t:=t) hb hK q1 q2
   exact ⟨by simp,aU hI (by simp[execOp,ho,e3,e4,tU,h3]) h4 h5⟩
 | unOp op t x=>
  have e1:=ev x
  cases op with
  | not=>
   simp only[ho] at h
   split at h
   ·rename_i h1;rw[h1] at e1
    exact ⟨by simp,aU hI (by simp[execOp,ho,e1.bool_inv,Op.unary]) h (.val _ trivial)⟩
   ·rename_i h1;rw[h1] at e1
    exact ⟨by simp,aU hI (by simp[execOp,ho,e1.bool_inv,Op.unary]) h (.val _ trivial)⟩
   ·rename_i p d h1;rw[h1] at e1
    generalize hv:a.eval x=v at e1
    cases e1
    refine ⟨by simp,aU hI (v:=.bool (decide (¬p))) (by simp[execOp,ho,hv,Op.unary]) h (.bl _ _)⟩
   ·exact h.elim
  | neg=>
   simp only[ho] at h
   split at h
   ·rename_i k n h1;rw[h1] at e1
    obtain ⟨e2,hn⟩:=e1.int_inv
    obtain ⟨h2,h3⟩:=oX h
    exact ⟨by simp,aU hI (by simp[execOp,ho,e2,Op.unary,Op.intArith,mD h2]) h3 (.val _ h2)⟩
   ·exact h.elim
  | _=>simp only[ho] at h
 | convert s d x=>
  simp only[ho] at h
  obtain ⟨v,s',h1,h2,h3⟩:=Lu (P:=P) (w:=w) hI h (ev x)
  exact ⟨by simp,aU hI (by simp[execOp,ho,h1]) h2 h3⟩
 | alloc t=>
  simp only[ho] at h
  split at h
  ·rename_i ty e hn
   simp only[aL] at h
   have hz:gL P t=some [.val (.slice none 0 0)]:=by
    unfold Gw at hn
    split at hn
    ·assumption
    ·cases hn
   obtain ⟨v,hv,hz'⟩:=gQ hz w
   have hv1:v.cells.toList= [.slice none 0 0]:=by
    cases hl:v.cells.toList with
    | nil=>rw[hl] at hz';cases hz'
    | cons u r=>
     rw[hl] at hz'
     simp only[List.map_cons,List.cons.injEq] at hz'
     obtain ⟨h1,h2⟩:=hz'
     have hr:r= []:=by
      cases r with
      | nil=>rfl
      | cons _ _=>cases h2
     subst hr
     rw[Zs h1]
   have hf:=hI.fresh (w':=w) (.vec 1 ty [] e) (mkL none 0 0) 1 (Nat.le_refl _) rfl rfl rfl (fun _ _=>rfl) (by intro b hb;simp[Owns] at hb)
    (fun hx=>⟨rfl,Nat.one_pos,rfl,Nat.zero_le _,[],⟨by simp,.inl ⟨rfl,rfl⟩⟩,fun i hi=>absurd hi (Nat.not_lt_zero _)⟩)
   obtain ⟨s,H',loc',ver',r1,r2,r3,r4⟩:=oA (vs:=[.slice none 0 0]) hf.1 (.cons _ _ _ _ (.ref _ _ _ (by exact eC rfl) Nat.one_pos (by simp[envOf,aG]) fun _=>by simp[envOf,aG,Core.head]) .nil) t h
   refine ⟨by simp,.value _ _ (by
    have hc:v.cells=(⟨[.slice none 0 0]⟩:Array Value):=by apply Array.ext';simpa using hv1
    have hra:=pK (P:=P) hv
    rw[hc] at hra
    simp[execOp,ho,hra]) ⟨s,H',loc',ver',r1,r2,r3,hf.2.trans r4⟩⟩
  split at h
  ·rename_i z hz
   rw[aL] at h
   obtain ⟨v,hv,rfl⟩:=gQ hz w
   cases hn:Eg (.agg (v.cells.toList.map cst)) with
   | false=>
    rw[hn,cond_false] at h
    exact ⟨by simp,.value _ _ (by simp[execOp,ho,pK hv]) (oA hI (iP _ _) t h)⟩
   | true=>
    rw[hn,cond_true] at h
    have hres:Res G (envOf G H loc ver w) K (.pointer (some ⟨w.heap.size,0,none⟩)) (w.alloc (.cells ⟨v.cells.toList⟩ t)):=by
     obtain ⟨s,H',loc',ver',r1,r2,r3,r4⟩:=oA hI (iP (envOf G H loc ver w) v.cells.toList) t h
     rcases r1.or with r1 | ⟨off,t',e,r1⟩
     ·exact ⟨s,H',loc',ver',r1,r2,r3,r4⟩
     ·obtain ⟨H'',loc'',ver'',k1,k2,k3⟩:=mJ r2 r1
      exact ⟨s,H'',loc'',ver'',k1,k2,r3.ext k3,r4.trans k3⟩
    exact ⟨by simp,.value _ _ (by simp[execOp,ho,pK hv]) hres⟩
  ·exact h.elim
 | nilCheck x=>
  simp only[ho] at h
  have e1:=ev x
  split at h
  ·rename_i nm off hx
   obtain ⟨hb,h⟩:=aE h
   rw[hx] at e1
   obtain ⟨b,_,e2⟩:=lH hI e1 hb
   rw[e2] at e1
   exact ⟨by simp,aU hI (v:=.pointer (some ⟨b,off,none⟩)) (by simp[execOp,ho,e2]) h e1⟩
  ·rename_i n hx
   rw[hx] at e1
   generalize hv:a.eval x=v at e1
   cases e1 with
   | wcel _ b e hw hok hr=>
    exact ⟨by simp,aU hI (v:=.pointer (some ⟨b,0,none⟩)) (by simp[execOp,ho,hv]) h (.wcel n b e hw hok hr)⟩
  ·exact h.elim
 | box t x=>
  simp only[ho] at h
  obtain ⟨hb,h⟩:=aE h
  rw[aL] at h
  cases hn:Tm (Eng.ev l x) with
  | false=>
   rw[hn,cond_false] at h
   exact ⟨by simp,.value _ _ (by simp[execOp,ho,On]) (oA hI (jI hI (ev x) hb) t h)⟩
  | true=>
   rw[hn,cond_true] at h
   have hres:Res G (envOf G H loc ver w) K (.pointer (some ⟨w.heap.size,0,none⟩)) (w.alloc (.cells (a.eval x).cells t)):=by
    obtain ⟨s,H',loc',ver',r1,r2,r3,r4⟩:=oA hI (jI hI (ev x) hb) t h
    rcases r1.or with r1 | ⟨off,t',e,r1⟩
    ·exact ⟨s,H',loc',ver',r1,r2,r3,r4⟩
    ·obtain ⟨H'',loc'',ver'',k1,k2,k3⟩:=mJ r2 r1
     exact ⟨s,H'',loc'',ver'',k1,k2,r3.ext k3,r4.trans k3⟩
   exact ⟨by simp,.value _ _ (by simp[execOp,ho,On]) hres⟩
 | build t ps=>
  simp only[ho] at h
  obtain ⟨hb,h⟩:=aE h
  have hp:=Bo hI hT ps.toList hb
  obtain ⟨v,s,h1,h2,h3⟩:∃v s,(Instr.build t (ps.toList.map fun p=>(p.1,a.eval p.2)).toArray).run P w= .ok v w∧K s H∧Rel (envOf G H loc ver w) s v:=by
   cases har:Nt P t with
   | true=>rw[har,cond_true] at h;exact Ev (P:=P) (w:=w) rfl (K:=fun v=>K v H) h hp
   | false=>rw[har,cond_false] at h;exact Ba (P:=P) (w:=w) rfl (K:=fun v=>K v H) h hp
  have e:ps.map (fun p=>(p.1,a.eval p.2))=(ps.toList.map fun p=>(p.1,a.eval p.2)).toArray:=by apply Array.ext';simp
  exact ⟨by simp,aU hI (v:=v) (by
   simp only[execOp,ho]
   rw[show (ps.map fun (x:Nat × Operand)=>match x with | (i,x)=>(i,a.eval x))=(ps.toList.map fun p=>(p.1,a.eval p.2)).toArray from e]
   simp[h1]) h2 h3⟩
 | buildSlice t n ps=>
  simp only[ho] at h
  cases hrf:Ll (ps.toList.map fun p=>(p.1,Eng.ev l p.2)) with
  | true=>
  rw[hrf,cond_true,aL] at h
  obtain ⟨hb,h⟩:=aE h
  obtain ⟨hI1,hx1⟩:=jJ (ps.toList.map fun p=>Eng.ev l p.2) hI
  have hT1:=hT.ext hx1
  have hp:∀qs:List (Nat × Operand),kH (frz H (ps.toList.map fun p=>Eng.ev l p.2)) (qs.map fun p=>(p.1,view false (frz H (ps.toList.map fun p=>Eng.ev l p.2)) (Eng.ev l p.2)))=true→
    RelP (envOf G (frz H (ps.toList.map fun p=>Eng.ev l p.2)) loc ver w) (qs.map fun p=>(p.1,view false (frz H (ps.toList.map fun p=>Eng.ev l p.2)) (Eng.ev l p.2))) (qs.map fun p=>(p.1,a.eval p.2)):=by
   intro qs
   induction qs with
   | nil=>exact fun _=>.nil
   | cons p r ih=>
    intro hc
    simp only[List.map_cons,kH,Bool.and_eq_true] at hc
    have hr:=sC (H:=frz H (ps.toList.map fun p=>Eng.ev l p.2)) (lend:=false) (Ext.refl _) (fun _ _ _ h=>oB hI1 h) (fun nm k v h=>eV hI1 h) (fun nm k i v _=>fG nm k i v) (fun nm v h=>jC hI1 (Ext.refl _) (.inl rfl) h) (fO hT1 p.2)
    exact .cons _ _ _ _ _ (jI hI1 hr hc.1) hr (ih hc.2)
  obtain ⟨v,w',h1,s,H2,loc2,ver2,k1,k2,k3,k4⟩:=lJ (P:=P) hI1 h (hp ps.toList hb)
  have e:ps.map (fun p=>(p.1,a.eval p.2))=(ps.toList.map fun p=>(p.1,a.eval p.2)).toArray:=by apply Array.ext';simp
  exact ⟨by simp,.value v w' (by
   simp only[execOp,ho]
   rw[show (ps.map fun (x:Nat × Operand)=>match x with | (i,x)=>(i,a.eval x))=(ps.toList.map fun p=>(p.1,a.eval p.2)).toArray from e]
   simp[h1]) ⟨s,H2,loc2,ver2,k1,k2,k3,hx1.trans k4⟩⟩
  | false=>
  rw[hrf,cond_false] at h
  obtain ⟨hb,h⟩:=aE h
  have hp:=Bo hI hT ps.toList hb
  obtain ⟨v,w',h1,h2⟩:=lJ (P:=P) hI h hp
  have e:ps.map (fun p=>(p.1,a.eval p.2))=(ps.toList.map fun p=>(p.1,a.eval p.2)).toArray:=by apply Array.ext';simp
  exact ⟨by simp,.value v w' (by
   simp only[execOp,ho]
   rw[show (ps.map fun (x:Nat × Operand)=>match x with | (i,x)=>(i,a.eval x))=(ps.toList.map fun p=>(p.1,a.eval p.2)).toArray from e]
   simp[h1]) h2⟩
 | load t x=>
  simp only[ho] at h
  cases hv:isVV H (Eng.ev l x) with
  | true=>
   rw[hv,cond_true] at h
   obtain ⟨v,s,h1,h2,h3⟩:=Ja (P:=P) hI h (ev x)
   exact ⟨by simp,aU hI (by simp[execOp,ho,h1]) h2 h3⟩
  | false=>
   rw[hv,cond_false] at h
   obtain ⟨v,s,h1,h2,h3⟩:=Er (P:=P) hI h (ev x)
   exact ⟨by simp,aU hI (by simp[execOp,ho,h1]) h2 h3⟩
 | store t x y=>
  simp only[ho] at h
  cases hv:isVV H (Eng.ev l x) with
  | true=>
   rw[hv,cond_true] at h
   obtain ⟨H',loc',w',h1,h2,h3,h4⟩:=Fh (P:=P) hI h (ev x) (ev y)
   exact ⟨by simp,.skip w' (by simp[execOp,ho,h1]) ⟨_,_,_,_,h2,h3,.any _,h4⟩⟩
  | false=>
   rw[hv,cond_false] at h
   cases hn:Eg (Eng.ev l y) with
   | false=>
    rw[hn,cond_false] at h
    obtain ⟨H',w',h1,h2,h3,h4⟩:=qH (P:=P) hI h (ev x) (ev y)
    exact ⟨by simp,.skip w' (by simp[execOp,ho,h1]) ⟨_,_,_,_,h2,h3,.any _,h4⟩⟩
   | true=>
    rw[hn,cond_true] at h
    obtain ⟨H',w',h1,h2,h3,h4⟩:=qH (P:=P) hI h (ev x) (ev y)
    rcases h2.or with h2 | ⟨off,t',e,h2⟩
    ·exact ⟨by simp,.skip w' (by simp[execOp,ho,h1]) ⟨_,_,_,_,h2,h3,.any _,h4⟩⟩
    ·obtain ⟨H'',loc'',ver'',k1,k2,k3⟩:=mJ h3 h2
     exact ⟨by simp,.skip w' (by simp[execOp,ho,h1]) ⟨_,_,_,_,k1,k2,.any _,h4.trans k3⟩⟩
 | fieldAddr t x f=>
  simp only[ho] at h
  have e1:=ev x
  split at h
  ·rename_i s fo sz ag hf
   obtain ⟨hb,h⟩:=aE h
   simp only[Bool.and_eq_true] at hb
   have hsz:0<sz:=by simpa using hb.2
   split at h
   ·rename_i nm off hx
    rw[hx] at e1 hb
    obtain ⟨b,hbk,e2⟩:=lH hI e1 hb.1
    refine ⟨by simp,aU hI (v:=.pointer (some ⟨b,off+fo,none⟩)) (by simp[execOp,ho,e2,iQ (P:=P) (w:=w) hf hsz]) h ?_⟩
    generalize a.eval x=v at e1 e2
    cases e1 with
    | ptr _ _ _ hn _=>exact .ptr _ _ _ hn fun _=>⟨b,hbk,rfl⟩
   ·rename_i ty xs i off hx
    rw[hx] at e1
    generalize hv:a.eval x=v at e1
    cases e1 with
    | elem _ _ _ _ b o es hi hok hr hrd=>
     refine ⟨by simp,aU hI (v:=.pointer (some ⟨b,o+off+fo,none⟩)) (by simp[execOp,ho,hv,iQ (P:=P) (w:=w) hf hsz]) h ?_⟩
     rw[Nat.add_assoc]
     exact .elem ty xs i (off+fo) b o es hi hok hr hrd
   ·rename_i nm k i z off hx
    rw[hx] at e1 hb
    generalize hv:a.eval x=v at e1
    cases e1 with
    | vptr _ _ _ _ _ _ hn h0 hk hp=>
     have hl:=hb.1
     simp only[live] at hl
     cases hg:hget H nm with
     | vec j t' xs e=>
      rw[hg] at hl
      obtain rfl:=aJ.1 hl
      have hO:=hI.objs nm _ (aC hg (by simp))
      obtain ⟨hlt,b,o,hbk,rfl⟩:=hp hO.1.symm
      refine ⟨by simp,aU hI (v:=.pointer (some ⟨b,o+i*z+off+fo,none⟩)) (by simp[execOp,ho,hv,iQ (P:=P) (w:=w) hf hsz]) h ?_⟩
      exact .vptr nm j i z (off+fo) _ hn h0 hk fun _=>⟨hlt,b,o,hbk,by simp[Nat.add_assoc]⟩
     | _=>rw[hg] at hl;cases hl
   ·rename_i l' off hx
    rw[hx] at e1
    generalize hv:a.eval x=v at e1
    cases e1 with
    | lelem _ _ b o vs hl hok hr=>
     refine ⟨by simp,aU hI (v:=.pointer (some ⟨b,o+off+fo,none⟩)) (by simp[execOp,ho,hv,iQ (P:=P) (w:=w) hf hsz]) h ?_⟩
     rw[Nat.add_assoc]
     exact .lelem l' (off+fo) b o vs hl hok hr
   ·rename_i n hx
    obtain ⟨hf0,h⟩:=aE h
    have hf0:=aJ.1 hf0
    subst hf0
    rw[hx] at e1
    generalize hv:a.eval x=v at e1
    cases e1 with
    | wcel _ b e hw hok hr=>
     exact ⟨by simp,aU hI (v:=.pointer (some ⟨b,0+0,none⟩)) (by simp[execOp,ho,hv,iQ (P:=P) (w:=w) hf hsz]) h (.wcel n b e hw hok hr)⟩
   ·exact h.elim
  ·exact h.elim
 | field t x f=>
  simp only[ho] at h
  have e1:=ev x
  split at h
  ·rename_i cs fo sz ag hx hf
   rw[hx] at e1
   generalize hv:a.eval x=v at e1
   cases e1 with
   | agg _ vs hl=>
    obtain ⟨v',s,h1,h2,h3⟩:=Ri (P:=P) (w:=w) hf hl h
    exact ⟨by simp,aU hI (by simp[execOp,ho,hv,h1]) h2 h3⟩
  ·exact h.elim
 | indexAddr t x i=>
  simp only[ho] at h
  cases hv:isVV H (Eng.ev l x) with
  | true=>
   rw[hv,cond_true] at h
   obtain ⟨v,s,h1,h2,h3⟩:=Fg (P:=P) hI h (ev x) (ev i)
   exact ⟨by simp,aU hI (by simp[execOp,ho,h1]) h2 h3⟩
  | false=>
   rw[hv,cond_false] at h
   cases har:Nt P t with
   | true=>
    rw[har,cond_true] at h
    obtain ⟨v,s,h1,h2,h3⟩:=Eu (P:=P) hI h (ev x) (ev i)
    exact ⟨by simp,aU hI (by simp[execOp,ho,h1]) h2 h3⟩
   | false=>
   rw[har,cond_false] at h
   obtain ⟨v,s,h1,h2,h3⟩:=Az (P:=P) hI h (ev x) (ev i)
   exact ⟨by simp,aU hI (by simp[execOp,ho,h1]) h2 h3⟩
 | slice t x lo hi mx=>
  cases mx with
  | some m=>
   simp only[ho] at h
   obtain ⟨v,h1,h2⟩:=yU (P:=P) hI h (ev x) (sL hT lo) (sL hT hi) (vmx:=some (a.eval m)) (sL hT (some m))
   exact ⟨by simp,.value v w (by simp[execOp,ho,h1]) h2⟩
  | none=>
   simp only[ho] at h
   obtain ⟨v,h1,h2⟩:=Be (P:=P) hI h (ev x) (sL hT lo) (sL hT hi)
   exact ⟨by simp,.value v w (by simp[execOp,ho,h1]) h2⟩
 | index t x i=>
  simp only[ho] at h
  have e1:=ev x
  have e2:=ev i
  split at h
  ·rename_i n e cs kn j hu h1 h2
   rw[h1] at e1;rw[h2] at e2
   obtain ⟨e4,_⟩:=e2.int_inv
   split at h
   ·rename_i ag sz ha hs
    have hb:=h.ok
    have hk:=h.go.use hb.1
    generalize hv:a.eval x=v at e1
    cases e1 with
    | agg _ vs hl=>
     obtain ⟨v',s,h1,h2,h3⟩:=Rj (P:=P) (w:=w) (kk:=kn) hu ha hs hb hl hk
     exact ⟨by simp,aU hI (by simp[execOp,ho,hv,e4,h1]) h2 h3⟩
   ·exact h.elim
  ·rename_i s kn n hu h1 h2
   rw[h1] at e1;rw[h2] at e2
   have e3:=e1.str_inv
   obtain ⟨e4,_⟩:=e2.int_inv
   have hb:=h.ok
   have hk:=h.go.use hb.1
   have hlt:n.toNat<s.length:=by omega
   have hin:0≤aH s n.toNat∧aH s n.toNat≤255:=by
    unfold aH
    have:=(s.getD n.toNat 0).toNat_lt
    omega
   refine ⟨by simp,aU hI (v:=.int .u8 (aH s n.toNat)) ?_ (hk.go hin) (.val _ hin)⟩
   simp only[execOp,ho,e3,e4]
   have hg:(⟨s.toArray⟩:ByteArray)[n.toNat]? =some (s.getD n.toNat 0):=by
    have:n.toNat<(⟨s.toArray⟩:ByteArray).size:=by simpa [ByteArray.size] using hlt
    rw[getElem?_pos (⟨s.toArray⟩:ByteArray) n.toNat this]
    congr 1
    simp[ByteArray.getElem_eq_getElem_data,List.getD_eq_getElem?_getD,hlt]
   simp[Instr.index,asIntOf,run_underlying hu,hb.1,hg,aH,go_sem]
  ·exact h.elim
 | extract x i=>
  simp only[ho] at h
  have e1:=ev x
  split at h
  ·rename_i vs hx
   obtain ⟨hb,h⟩:=aE h
   rw[dB] at h
   rw[hx] at e1
   generalize hv:a.eval x=v at e1
   cases e1 with
   | tup _ us hl=>
    have hlt:i<vs.length:=by simpa using hb
    have hlt':i<us.length:=by rw[← hl.length];exact hlt
    exact ⟨by simp,aU hI (v:=us.getD i undef) (by simp[execOp,ho,hv,Instr.extract,hlt']) h (hl.get i hlt)⟩
  ·exact h.elim
 | makeFunc fn p q=>
  cases fn with
  | func f=>
   simp only[ho,dQ] at h
   have e:p.map a.eval= ⟨p.toList.map a.eval⟩:=by apply Array.ext';simp
   have e':q.map a.eval= ⟨q.toList.map a.eval⟩:=by apply Array.ext';simp
   exact ⟨by simp,aU hI (by simp only[execOp,ho,Instr.makeFunc,e,e'];rfl) h (.clo _ _ _ _ _ (pG hT _) (pG hT _))⟩
  | _=>simp only[ho] at h
 | makeSlice t n c=>
  simp only[ho] at h
  cases hv:Ee P t with
  | true=>
   rw[hv,cond_true] at h
   obtain ⟨v,w',h1,h2⟩:=Iz (P:=P) hI h (ev n) (ev c)
   exact ⟨by simp,.value v w' (by simp[execOp,ho,h1]) h2⟩
  | false=>
   rw[hv,cond_false] at h
   obtain ⟨v,w',h1,h2⟩:=Ew (P:=P) hI h (ev n) (ev c)
   exact ⟨by simp,.value v w' (by simp[execOp,ho,h1]) h2⟩
 | call c=>
  simp only[ho] at h
  refine ⟨by simp,?_⟩
  split at h
  ·-- len
   rename_i hc
   split at h
   ·rename_i x hx
    split at h
    ·rename_i t ht
     have hr:∀(n:Nat),(∀cs,(builtin .len c.argTypes o.type cs (c.args.map a.eval)).run P w= .ok (.value (.int .i64 n)) w)→(execOp a.eval o).run P w= .ok (.value (.int .i64 n)) w:=by
      intro n hn
      simp only[execOp,ho]
      obtain ⟨cs,hcs⟩:=cR (P:=P) (w:=w) (a:=a) (t:=o.type) hc
      rw[hcs,hn]
     split at h
     ·rename_i e s hu hs'
      split at h
      ·exact h.elim
      ·rename_i hns
       cases hv:isVV H (Eng.ev l x) with
       | true=>
        rw[hv,cond_true] at h
        obtain ⟨a',n,m,s',h1,h2,h3⟩:=Mg hI h (ev x)
        refine aU hI (hr n fun cs=>?_) h2 h3
        rw[lK hx,h1]
        simp[builtin,Builtin.len_,ht,run_underlying hs',goInt]
       | false=>
       rw[hv,cond_false] at h
       rcases vG hI h (ev x) with ⟨p,n,m,s',h1,h2,h3⟩ | ⟨l',s',h0,h1,h2,h3⟩
       ·refine aU hI (hr n fun cs=>?_) h2 h3
        rw[lK hx,h1]
        simp[builtin,Builtin.len_,ht,run_underlying hs',goInt]
       ·exact (hns _ h0).elim
     ·rename_i s hu hs'
      have e1:=ev x
      rw[hs'] at e1
      rcases vG hI h e1 with ⟨p,n,m,s',h1,h2,h3⟩ | ⟨l',s',_,h1,h2,h3⟩
      ·exfalso
       rw[h1] at e1;cases e1
      ·refine aU hI (hr l'.length fun cs=>?_) h2 h3
       rw[lK hx,h1]
       simp[builtin,Builtin.len_,ht,run_underlying hu,goInt,Zi]
     ·rename_i kt et s hu
      obtain ⟨v,s',h1,h2,h3⟩:=Fk (P:=P) (ty':=o.type) hI h (ev x) hu ht
      refine aU hI (v:=v) ?_ h2 h3
      simp only[execOp,ho]
      obtain ⟨cs,hcs⟩:=cR (P:=P) (w:=w) (a:=a) (t:=o.type) hc
      rw[hcs,lK hx]
      simp[builtin,h1]
     ·exact h.elim
    ·exact h.elim
   ·exact h.elim
  ·-- cap
   rename_i hc
   split at h
   ·rename_i x hx
    split at h
    ·rename_i t ht
     split at h
     ·rename_i e hu hs'
      have e1:=ev x
      rw[hs'] at e1
      have e2:a.eval x= .slice none 0 0:=by
       generalize a.eval x=y at e1
       cases e1;rfl
      refine aU hI (v:=.int .i64 0) ?_ h (.val _ (by first | trivial | simp[WV]))
      simp only[execOp,ho]
      obtain ⟨cs,hcs⟩:=cR (P:=P) (w:=w) (a:=a) (t:=o.type) hc
      rw[hcs,lK hx,e2]
      simp[builtin,Builtin.cap_,ht,run_underlying hu,goInt]
     ·exact h.elim
    ·exact h.elim
   ·exact h.elim
  ·-- append
   rename_i hc
   split at h
   ·rename_i s x t u hx ht
    cases hb:Nat.beq t u with
    | true=>
     rw[hb] at h
     have hK:=h
     have hb:=aJ.1 hb
     subst hb
     obtain ⟨v,w',h1,h2⟩:∃v w',(Builtin.append_ #[t,t] o.type #[a.eval s,a.eval x]).run P w= .ok v w'∧Res G (envOf G H loc ver w) K v w':=by
      cases hv:isVV H (Eng.ev l s) with
      | true=>rw[hv,cond_true] at hK;exact Bf (P:=P) (ty':=o.type) hI hK (ev s) (ev x)
      | false=>
       rw[hv,cond_false] at hK
       cases hp:Ea (Eng.ev l s) with
       | true=>rw[hp,cond_true] at hK;exact Av (P:=P) (ty0:=o.type) hI hK (ev s) (ev x)
       | false=>rw[hp,cond_false] at hK;exact xW (P:=P) (ty:=o.type) hI (Lh hK) (ev s) (ev x)
     refine .value v w' ?_ h2
     simp only[execOp,ho]
     obtain ⟨cs,hcs⟩:=cR (P:=P) (w:=w) (a:=a) (t:=o.type) hc
     rw[hcs,sE hx,show c.argTypes= #[t,t] from by apply Array.ext';simpa using ht]
     simp[builtin,h1]
    | false=>
     rw[hb] at h
     obtain ⟨v,w',h1,h2⟩:∃v w',(Builtin.append_ #[t,u] o.type #[a.eval s,a.eval x]).run P w= .ok v w'∧Res G (envOf G H loc ver w) K v w':=by
      cases hq:aBs (Eng.ev l x) with
      | true=>rw[hq] at h;exact As (P:=P) (ty:=o.type) hI h (ev s) (ev x)
      | false=>rw[hq] at h;exact rY (P:=P) (ty:=o.type) hI h (ev s) (ev x)
     refine .value v w' ?_ h2
     simp only[execOp,ho]
     obtain ⟨cs,hcs⟩:=cR (P:=P) (w:=w) (a:=a) (t:=o.type) hc
     rw[hcs,sE hx,show c.argTypes= #[t,u] from by apply Array.ext';simpa using ht]
     simp[builtin,h1]
   ·exact h.elim
  ·-- copy
   rename_i hc
   split at h
   ·rename_i s x t u hx ht
    obtain ⟨v,w',h1,h2⟩:=Eo (P:=P) (u:=u) (ty0:=o.type) hI h (ev s) (ev x)
    refine .value v w' ?_ h2
    simp only[execOp,ho]
    obtain ⟨cs,hcs⟩:=cR (P:=P) (w:=w) (a:=a) (t:=o.type) hc
    rw[hcs,sE hx,show c.argTypes= #[t,u] from by apply Array.ext';simpa using ht]
    simp[builtin,h1]
   ·exact h.elim
  ·-- clear
   rename_i hc
   split at h
   ·rename_i x t hx ht
    obtain ⟨w',h1,H',loc',ver',h2,h3,h4⟩:=Ax (P:=P) (ty0:=o.type) hI h (ev x)
    refine .value (.tuple #[]) w' ?_ ⟨_,_,_,_,h2,h3,.tup [] [] .nil,h4⟩
    simp only[execOp,ho]
    obtain ⟨cs,hcs⟩:=cR (P:=P) (w:=w) (a:=a) (t:=o.type) hc
    rw[hcs,lK hx,show c.argTypes= #[t] from by apply Array.ext';simpa using ht]
    simp[builtin,h1]
   ·exact h.elim
  ·-- delete
   rename_i hc
   split at h
   ·rename_i x y t hx ht
    obtain ⟨H',w',h1,h2,h3,h4⟩:=Fi (P:=P) (ty':=o.type) hI h ht (ev x) (ev y)
    refine .value (.tuple #[]) w' ?_ ⟨_,_,_,_,h2,h3,.tup [] [] .nil,h4⟩
    simp only[execOp,ho]
    obtain ⟨cs,hcs⟩:=cR (P:=P) (w:=w) (a:=a) (t:=o.type) hc
    rw[hcs,sE hx]
    simp[builtin,h1]
   ·exact h.elim
  ·-- max
   rename_i hc
   have ea:=pG hT c.args.toList
   split at h
   ·rename_i k p r hx
    rw[hx] at ea
    obtain ⟨v,s,h1,h2,h3⟩:=Ez (P:=P) (w:=w) c.argTypes o.type h ea
    refine aU hI (v:=v) ?_ h2 h3
    simp only[execOp,ho]
    obtain ⟨cs,hcs⟩:=cR (P:=P) (w:=w) (a:=a) (t:=o.type) hc
    rw[hcs]
    simp only[builtin,Sem.run_bind]
    rw[show c.args.map a.eval= ⟨c.args.toList.map a.eval⟩ from by apply Array.ext';simp]
    rw[h1]
    rfl
   ·exact h.elim
  ·-- min
   rename_i hc
   have ea:=pG hT c.args.toList
   split at h
   ·rename_i k p r hx
    rw[hx] at ea
    obtain ⟨v,s,h1,h2,h3⟩:=Fa (P:=P) (w:=w) c.argTypes o.type h ea
    refine aU hI (v:=v) ?_ h2 h3
    simp only[execOp,ho]
    obtain ⟨cs,hcs⟩:=cR (P:=P) (w:=w) (a:=a) (t:=o.type) hc
    rw[hcs]
    simp only[builtin,Sem.run_bind]
    rw[show c.args.map a.eval= ⟨c.args.toList.map a.eval⟩ from by apply Array.ext';simp]
    rw[h1]
    rfl
   ·exact h.elim
  ·-- a function
   rename_i f hc
   split at h
   ·rename_i l₀ hf
    have e1:=ev f
    rw[hf] at e1
    generalize hv:a.eval f=v at e1
    cases e1
    split at h
    ·rename_i k n items hg
     rw[dQ] at h
     have hu:=ent.entL
     refine .yield G.itr.l ⟨c.args.toList.map a.eval⟩ ?_ (Ib hY hI hg h.ok (bZ h.go.ok (Bz hI (aC hg (by simp)) hT _)) h.go.go.one h.go.go.two)
     simp only[execOp,ho]
     rw[Bb hc hv]
     rfl
    ·exact h.elim
   ·rename_i g first caps hf
    have e1:=ev f
    rw[hf] at e1
    generalize hv:a.eval f=v at e1
    cases e1 with
    | clo _ _ _ va vb ha hb=>
     have hargs:=(ha.append (pG hT c.args.toList)).append hb
     obtain ⟨hent,hcall⟩:=Ex hY hΓ hF hI h hargs
     refine .call g ⟨va++c.args.toList.map a.eval++vb⟩ ?_ hcall
     simp only[execOp,ho]
     rw[vH hc hv]
     exact hent _ _
   ·exact h.elim
  ·exact h.elim
 | makeMap t r=>
  cases r with
  | some _=>simp only[ho] at h
  | none=>
   simp only[ho] at h
   obtain ⟨v,w',h1,h2⟩:=Bg (P:=P) hI h
   exact ⟨by simp,.value v w' (by simp[execOp,ho,h1]) h2⟩
 | lookup t m x ok=>
  simp only[ho] at h
  obtain ⟨v,s,h1,h2,h3⟩:=Fl (P:=P) hI h (ev m) (ev x)
  exact ⟨by simp,aU hI (by simp[execOp,ho,h1]) h2 h3⟩
 | mapUpdate t m x y=>
  simp only[ho] at h
  obtain ⟨H',w',h1,h2,h3,h4⟩:=wC (P:=P) hI h (ev m) (ev x) (ev y)
  exact ⟨by simp,.skip w' (by simp[execOp,ho,h1]) ⟨_,_,_,_,h2,h3,.any _,h4⟩⟩
 | mapEntry t m x=>
  simp only[ho] at h
  obtain ⟨v,w',h1,h2⟩:=yW (P:=P) hI h (ev m) (ev x)
  exact ⟨by simp,.value v w' (by simp[execOp,ho,h1]) h2⟩
 | entryStore t m s y=>
  simp only[ho] at h
  obtain ⟨H',w',h1,h2,h3,h4⟩:=tZ (P:=P) (t:=t) hI h (ev m) (ev s) (ev y)
  exact ⟨by simp,.skip w' (by simp[execOp,ho,h1]) ⟨_,_,_,_,h2,h3,.any _,h4⟩⟩
 | range t x=>
  simp only[ho] at h
  obtain ⟨v,w',h1,h2⟩:=Fj (P:=P) hI h (ev x)
  exact ⟨by simp,.value v w' (by simp[execOp,ho,h1]) h2⟩
 | next x b=>
  cases b with
  | true=>simp only[ho] at h
  | false=>
   simp only[ho] at h
   obtain ⟨v,w',h1,h2⟩:=Mi (P:=P) (ty':=o.type) hI h (ev x)
   exact ⟨by simp,.value v w' (by simp[execOp,ho,h1]) h2⟩
 | entry x=>
  simp only[ho] at h
  obtain ⟨v,s,h1,h2,h3⟩:=Jb (P:=P) hI h (ev x)
  exact ⟨by simp,aU hI (by simp[execOp,ho,h1]) h2 h3⟩
 | _=>simp only[ho] at h
end
end Go.Eng
end
section
namespace Go.Eng
open Go.RowKit
theorem and2 {a b:Bool} (h:(a&&b)=true):a=true∧b=true:=by simpa using h
mutual
theorem Rel.move {E E':Env} {p:Nat→Bool} (hp:∀nm,p nm=true→E.has nm=true→E'.has nm=true∧((E'.ver nm=E.ver nm∧(E'.loc nm).toCore=(E.loc nm).toCore)∨(0<E.ver nm∧E.ver nm<E'.ver nm)))
  (hsb:∀nm,p nm=true→E.has nm=true→E'.ver nm=E.ver nm→(E'.loc nm).sub=(E.loc nm).sub∨(E.loc nm).sub.v<(E'.loc nm).sub.v) (hy:E.itr.on=true→E'.itr=E.itr) (hC:KeepC E E') (hk:∀b,E.ok b→E'.ok b) {s:SV} {v:Value} (h:Rel E s v) (hb:allN p s=true):Rel E' s v:=by
 cases h with
 | any=>exact .any v
 | val _ h=>exact .val v h
 | bl p d=>exact .bl p d
 | str s h=>exact .str s h
 | seq t xs _ h=>exact .seq t xs v (h.mono hC.cell hk)
 | lit es n b off l vs hl hn hok hr=>exact .lit es n b off l vs (hl.move hp hsb hy hC hk (by simpa [allN] using hb)) hn (hk _ hok) (fun j v hj=>hC.cell _ v hok (hr j v hj))
 | elem t xs i o b off es hi hok hr h=>exact .elem t xs i o b off es hi (hk _ hok) (fun j v hj=>hC.cell _ v hok (hr j v hj)) (h.mono hC.cell hk)
 | lelem l i b off vs hl hok hr=>exact .lelem l i b off vs (hl.move hp hsb hy hC hk (by simpa [allN] using hb)) (hk _ hok) (fun j v hj=>hC.cell _ v hok (hr j v hj))
 | ptr nm off _ hn h=>
  obtain ⟨h1,h2⟩:=hp nm (by simpa [allN] using hb) hn
  refine .ptr nm off v h1 fun h0=>?_
  rcases h2 with ⟨e1,e2⟩ | ⟨e1,e2⟩
  ·rw[e1] at h0;obtain ⟨b,hb,hv⟩:=h h0;exact ⟨b,by rw[e2];exact hb,hv⟩
  ·omega
 | ref nm k _ hn h0 hk' h=>
  obtain ⟨h1,h2⟩:=hp nm (by simpa [allN] using hb) hn
  rcases h2 with ⟨e1,e2⟩ | ⟨e1,e2⟩
  ·exact .ref nm k v h1 h0 (by omega) fun e=>by rw[e2];exact h (by omega)
  ·exact .ref nm k v h1 h0 (by omega) fun e=>by omega
 | vptr nm k i z o _ hn h0 hk' h=>
  obtain ⟨h1,h2⟩:=hp nm (by simpa [allN] using hb) hn
  rcases h2 with ⟨e1,e2⟩ | ⟨e1,e2⟩
  ·exact .vptr nm k i z o v h1 h0 (by omega) fun e=>by rw[e2];exact h (by omega)
  ·exact .vptr nm k i z o v h1 h0 (by omega) fun e=>by omega
 | wide nm k _ hn h0 hk' h=>
  obtain ⟨h1,h2⟩:=hp nm (by simpa [allN] using hb) hn
  rcases h2 with ⟨e1,e2⟩ | ⟨e1,e2⟩
  ·exact .wide nm k v h1 h0 (by omega) fun e=>by rw[e2];exact h (by omega)
  ·exact .wide nm k v h1 h0 (by omega) fun e=>by omega
 | agg l vs hl=>exact .agg l vs (hl.move hp hsb hy hC hk (by simpa [allN] using hb))
 | tup l vs hl=>exact .tup l vs (hl.move hp hsb hy hC hk (by simpa [allN] using hb))
 | clo f a b va vb ha hb'=>
  simp only[allN,Bool.and_eq_true] at hb
  exact .clo f a b va vb (ha.move hp hsb hy hC hk hb.1) (hb'.move hp hsb hy hC hk hb.2)
 | yld l h=>rw[← hy h];exact .yld l (by rw[hy h];exact h)
 | sft i _ h hv=>exact .sft i v (by rw[hy h];exact h) (by rw[hy h];exact hv)
 | mp nm _ hn h=>
  obtain ⟨h1,h2⟩:=hp nm (by simpa [allN] using hb) hn
  refine .mp nm v h1 fun h0=>?_
  rcases h2 with ⟨e1,e2⟩ | ⟨e1,e2⟩
  ·rw[e1] at h0;obtain ⟨b,hb,hv⟩:=h h0;exact ⟨b,by rw[e2];exact hb,hv⟩
  ·omega
 | sub nm k s i _ hn h0 hk' hs h=>
  have hpn:p nm=true:=by simpa [allN] using hb
  obtain ⟨h1,h2⟩:=hp nm hpn hn
  rcases h2 with ⟨e1,e2⟩ | ⟨e1,e2⟩
  ·have e3:=hsb nm hpn hn e1
   refine .sub nm k s i v h1 h0 (by omega) (fun e=>?_) (fun e e4=>?_)
   ·have:=hs (by omega)
    rcases e3 with e3 | e3
    ·rw[e3];exact this
    ·omega
   ·have h5:=hs (by omega)
    rcases e3 with e3 | e3
    ·rw[e3] at e4 ⊢;exact h (by omega) e4
    ·omega
  ·exact .sub nm k s i v h1 h0 (by omega) (fun e=>by omega) (fun e=>by omega)
 | part nm k i j z _ hn h0 hk' h=>
  obtain ⟨h1,h2⟩:=hp nm (by simpa [allN] using hb) hn
  rcases h2 with ⟨e1,e2⟩ | ⟨e1,e2⟩
  ·exact .part nm k i j z v h1 h0 (by omega) fun e=>by rw[e2];exact h (by omega)
  ·exact .part nm k i j z v h1 h0 (by omega) fun e=>by omega
 | lim nm k i z _ hn h0 hk' h=>
  obtain ⟨h1,h2⟩:=hp nm (by simpa [allN] using hb) hn
  rcases h2 with ⟨e1,e2⟩ | ⟨e1,e2⟩
  ·exact .lim nm k i z v h1 h0 (by omega) fun e=>by rw[e2];exact h (by omega)
  ·exact .lim nm k i z v h1 h0 (by omega) fun e=>by omega
 | ifc _ h=>exact .ifc v h
 | num k n h=>exact .num k n h
 | wcel n b e hw hok hr=>exact .wcel n b e hw (hk _ hok) (hC _ _ hok hr rfl)
 | fmp ks l b c es hok hb' hk' hl=>exact .fmp ks l b c es (hk _ hok) (hC _ _ hok hb' rfl) hk' (hl.move hp hsb hy hC hk (by simpa [allN] using hb))
 | subp nm k s _ hn h0 hk' hs h=>
  have hpn:p nm=true:=by simpa [allN] using hb
  obtain ⟨h1,h2⟩:=hp nm hpn hn
  rcases h2 with ⟨e1,e2⟩ | ⟨e1,e2⟩
  ·have e3:=hsb nm hpn hn e1
   refine .subp nm k s v h1 h0 (by omega) (fun e=>?_) (fun e e4=>?_)
   ·have:=hs (by omega)
    rcases e3 with e3 | e3
    ·rw[e3];exact this
    ·omega
   ·have h5:=hs (by omega)
    rcases e3 with e3 | e3
    ·rw[e3] at e4 ⊢;exact h (by omega) e4
    ·omega
  ·exact .subp nm k s v h1 h0 (by omega) (fun e=>by omega) (fun e=>by omega)
theorem RelL.move {E E':Env} {p:Nat→Bool} (hp:∀nm,p nm=true→E.has nm=true→E'.has nm=true∧((E'.ver nm=E.ver nm∧(E'.loc nm).toCore=(E.loc nm).toCore)∨(0<E.ver nm∧E.ver nm<E'.ver nm)))
  (hsb:∀nm,p nm=true→E.has nm=true→E'.ver nm=E.ver nm→(E'.loc nm).sub=(E.loc nm).sub∨(E.loc nm).sub.v<(E'.loc nm).sub.v) (hy:E.itr.on=true→E'.itr=E.itr) (hC:KeepC E E') (hk:∀b,E.ok b→E'.ok b) {l:List SV} {vs:List Value} (h:RelL E l vs) (hb:allN.allNL p l=true):RelL E' l vs:=by
 cases h with
 | nil=>exact .nil
 | cons s v l vs h hl=>
  simp only[allN.allNL,Bool.and_eq_true] at hb
  exact .cons s v l vs (h.move hp hsb hy hC hk hb.1) (hl.move hp hsb hy hC hk hb.2)
end
mutual
theorem Rel.under {E:Env} {s:SV} {v:Value} (h:Rel E s v):allN E.has s=true:=by
 cases h with
 | ptr nm off _ hn h=>simpa [allN] using hn
 | mp nm _ hn h=>simpa [allN] using hn
 | sub nm k s i _ hn h0 hk hs h=>simpa [allN] using hn
 | subp nm k s _ hn h0 hk hs h=>simpa [allN] using hn
 | part nm k i j z _ hn h0 hk h=>simpa [allN] using hn
 | lim nm k i z _ hn h0 hk h=>simpa [allN] using hn
 | ref nm k _ hn h0 hk' h=>simpa [allN] using hn
 | vptr nm k i z o _ hn h0 hk' h=>simpa [allN] using hn
 | wide nm k _ hn h0 hk' h=>simpa [allN] using hn
 | lit es n b off l vs hl hn hok hr=>exact hl.under
 | lelem l i b off vs hl hok hr=>exact hl.under
 | fmp ks l b c es hok hb hk hl=>exact hl.under
 | agg l vs hl=>exact hl.under
 | tup l vs hl=>exact hl.under
 | clo f a b va vb ha hb'=>simp only[allN,Bool.and_eq_true];exact ⟨ha.under,hb'.under⟩
 | _=>rfl
theorem RelL.under {E:Env} {l:List SV} {vs:List Value} (h:RelL E l vs):allN.allNL E.has l=true:=by
 cases h with
 | nil=>rfl
 | cons s v l vs h hl=>simp only[allN.allNL,Bool.and_eq_true];exact ⟨h.under,hl.under⟩
end
mutual
theorem Ik {p q r:Nat→Bool} (h:∀n,p n=true→q n=true→r n=true):∀(s:SV),allN p s=true→allN q s=true→allN r s=true
 | .ref nm _,h1,h2=>h nm h1 h2
 | .vptr nm _ _ _ _,h1,h2=>h nm h1 h2
 | .wide nm _,h1,h2=>h nm h1 h2
 | .ptr nm _,h1,h2=>h nm h1 h2
 | .mp nm,h1,h2=>h nm h1 h2
 | .sub nm _ _ _,h1,h2=>h nm h1 h2
 | .subp nm _ _,h1,h2=>h nm h1 h2
 | .part nm _ _ _ _,h1,h2=>h nm h1 h2
 | .lim nm _ _ _,h1,h2=>h nm h1 h2
 | .lit _ l,h1,h2=>fS h l h1 h2
 | .lelem l _,h1,h2=>fS h l h1 h2
 | .fmp _ l,h1,h2=>fS h l h1 h2
 | .agg l,h1,h2=>fS h l h1 h2
 | .tup l,h1,h2=>fS h l h1 h2
 | .clo _ a b,h1,h2=>by
  simp only[allN,Bool.and_eq_true] at h1 h2 ⊢
  exact ⟨fS h a h1.1 h2.1,fS h b h1.2 h2.2⟩
 | .any,_,_=>rfl
 | .val _,_,_=>rfl
 | .bl _ _,_,_=>rfl
 | .str _,_,_=>rfl
 | .ifc,_,_=>rfl
 | .num _,_,_=>rfl
 | .seq _ _,_,_=>rfl
 | .elem _ _ _ _,_,_=>rfl
 | .yld _,_,_=>rfl
 | .sft _,_,_=>rfl
 | .wcel _,_,_=>rfl
 | .itr _ _,_,_=>rfl
theorem fS {p q r:Nat→Bool} (h:∀n,p n=true→q n=true→r n=true):∀(l:List SV),allN.allNL p l=true→allN.allNL q l=true→allN.allNL r l=true
 | [],_,_=>rfl
 | x::l,h1,h2=>by
  simp only[allN.allNL,Bool.and_eq_true] at h1 h2 ⊢
  exact ⟨Ik h x h1.1 h2.1,fS h l h1.2 h2.2⟩
end
end Go.Eng
end
section
namespace Go.Eng
open Go.RowKit
structure ExtO (D:List Nat) (E E':Env):Prop where
 blk:∀b,E.ok b→E'.w.heap[b]? =E.w.heap[b]?
 ok:∀b,E.ok b→E'.ok b
 num:∀nm,E.has nm=true→E'.has nm=true
 ver:∀nm,E.has nm=true→mem nm D=false→(E'.ver nm=E.ver nm∧(E'.loc nm).toCore=(E.loc nm).toCore)∨(0<E.ver nm∧E.ver nm<E'.ver nm)
 size:E.w.heap.size≤E'.w.heap.size
 keep:∀(k:Nat) (o:Obj),¬E.ali k→E.w.heap[k]? =some o→isBook o=true→E'.w.heap[k]? =some o
 gho:∀nm b,E.gho nm b→E'.gho nm b∧E'.w.heap[b]? =E.w.heap[b]?
 gho':∀nm b,E.has nm=true→E'.gho nm b→E.gho nm b
 ali:∀b,E'.ali b→E.ali b∨E.w.heap.size≤b
 itr:E'.itr=E.itr
 sub:∀nm,E.has nm=true→mem nm D=false→E'.ver nm=E.ver nm→(E'.loc nm).sub=(E.loc nm).sub∨(E.loc nm).sub.v<(E'.loc nm).sub.v
theorem ExtO.keepC {D:List Nat} {E E':Env} (x:ExtO D E E'):KeepC E E':=fun b _ hb h _=>(x.blk b hb).trans h
theorem ExtO.cell {D:List Nat} {E E':Env} (x:ExtO D E E'):∀a v,E.ok a.block→E.w.cell? a=some v→E'.w.cell? a=some v:=
 fun a v ho hc=>(World.cell?_of_block (x.blk _ ho)).trans hc
theorem Ext.toO {E E':Env} (x:Ext E E') (D:List Nat):ExtO D E E':=⟨x.blk,x.ok,x.num,fun nm h _=>x.ver nm h,x.size,x.keep,x.gho,x.gho',x.ali,x.itr,fun nm h _ e=>x.sub nm h e⟩
theorem mem_append (n:Nat) (a b:List Nat):mem n (a++b)=(mem n a || mem n b):=by
 induction a with
 | nil=>rfl
 | cons x r ih=>simp only[List.cons_append,mem,ih,Bool.or_assoc]
theorem ExtO.refl (D:List Nat) (E:Env):ExtO D E E:=(Ext.refl E).toO D
theorem ExtO.trans {D:List Nat} {A B C:Env} (h:ExtO D A B) (k:ExtO D B C):ExtO D A C:=by
 refine ⟨fun b ho=>(k.blk b (h.ok b ho)).trans (h.blk b ho),fun b hb=>k.ok b (h.ok b hb),fun nm hn=>k.num nm (h.num nm hn),fun nm hn hm=>?_,Nat.le_trans h.size k.size,
  fun i o hna hi ho=>k.keep i o (fun hb=>?_) (h.keep i o hna hi ho) ho,fun nm b hb=>?_,fun nm b hn hb=>h.gho' nm b hn (k.gho' nm b (h.num nm hn) hb),fun b hb=>?_,k.itr.trans h.itr,fun nm hn hm he=>?_⟩
 ·rcases h.ver nm hn hm with ⟨e1,e2⟩ | ⟨e1,e2⟩
  ·rcases k.ver nm (h.num nm hn) hm with ⟨e3,e4⟩ | ⟨e3,e4⟩
   ·exact .inl ⟨e3.trans e1,e4.trans e2⟩
   ·exact .inr ⟨by omega,by omega⟩
  ·rcases k.ver nm (h.num nm hn) hm with ⟨e3,e4⟩ | ⟨e3,e4⟩
   ·exact .inr ⟨e1,by omega⟩
   ·exact .inr ⟨e1,by omega⟩
 ·rcases h.ali i hb with h1 | h1
  ·exact hna h1
  ·have:=(Array.getElem?_eq_some_iff.1 hi).1;omega
 ·obtain ⟨h1,h2⟩:=h.gho nm b hb
  obtain ⟨h3,h4⟩:=k.gho nm b h1
  exact ⟨h3,h4.trans h2⟩
 ·rcases k.ali b hb with h1 | h1
  ·exact h.ali b h1
  ·exact .inr (Nat.le_trans h.size h1)
 ·have h1:=h.ver nm hn hm
  have h2:=k.ver nm (h.num nm hn) hm
  have e1:B.ver nm=A.ver nm:=by
   rcases h1 with ⟨q1,_⟩ | ⟨q1,q2⟩
   ·exact q1
   ·rcases h2 with ⟨q3,_⟩ | ⟨q3,q4⟩<;>omega
  rcases h.sub nm hn hm e1 with q1 | q1
  ·rcases k.sub nm (h.num nm hn) hm (by omega) with q2 | q2
   ·exact .inl (q2.trans q1)
   ·rw[q1] at q2;exact .inr q2
  ·rcases k.sub nm (h.num nm hn) hm (by omega) with q2 | q2
   ·rw[q2];exact .inr q1
   ·exact .inr (Nat.lt_trans q1 q2)
theorem ExtO.mono {D D':List Nat} {E E':Env} (h:ExtO D E E') (hd:∀n,mem n D=true→mem n D'=true):ExtO D' E E':=
 ⟨h.blk,h.ok,h.num,fun nm hn hm=>h.ver nm hn (by
  cases e:mem nm D with
  | false=>rfl
  | true=>rw[hd nm e] at hm;cases hm),h.size,h.keep,h.gho,h.gho',h.ali,h.itr,fun nm hn hm=>h.sub nm hn (by
  cases e:mem nm D with
  | false=>rfl
  | true=>rw[hd nm e] at hm;cases hm)⟩
def Same (ws:List Nat) (a a':Act):Prop:=∀t,mem t ws=false→a'.tmps.getD t undef=a.tmps.getD t undef
theorem Same.refl (ws:List Nat) (a:Act):Same ws a a:=fun _ _=>rfl
theorem Same.trans {ws:List Nat} {a b c:Act} (h:Same ws a b) (k:Same ws b c):Same ws a c:=fun t ht=>(k t ht).trans (h t ht)
theorem Same.mono {ws ws':List Nat} {a b:Act} (h:Same ws a b) (hw:∀n,mem n ws=true→mem n ws'=true):Same ws' a b:=fun t ht=>h t (by
 cases e:mem t ws with
 | false=>rfl
 | true=>rw[hw t e] at ht;cases ht)
theorem Same.put {ws:List Nat} (a:Act) (d:Option Nat) (v:Value) (h:∀t,d=some t→mem t ws=true):Same ws a (a.put d v):=by
 intro t ht
 cases d with
 | none=>rfl
 | some u=>
  simp only[Act.put,Array.getD_eq_getD_getElem?,Array.getElem?_setIfInBounds]
  have:¬u=t:=fun e=>by rw[← e,h u rfl] at ht;cases ht
  simp[this]
theorem yF {p:Nat→Prop}:∀n,p n→∃m,p m∧∀k,p k→m≤k:=by
 intro n
 induction n using Nat.strongRecOn with
 | _ n ih=>
  intro hn
  by_cases h:∃k,k<n∧p k
  ·obtain ⟨k,h1,h2⟩:=h;exact ih k h1 h2
  ·exact ⟨n,hn,fun k hk=>Nat.le_of_not_lt fun hlt=>h ⟨k,hlt,hk⟩⟩
noncomputable def yG (p:Nat→Prop):Nat:=Classical.epsilon fun m=>p m∧∀k,p k→m≤k
theorem vJ {p:Nat→Prop} (h:∃n,p n):p (yG p)∧∀k,p k→yG p≤k:=by
 obtain ⟨n,hn⟩:=h
 exact Classical.epsilon_spec (yF n hn)
theorem yH {F:Fence} {n:Nat} {P:Program} {Q:Exit→Act→World→Prop} {a:Act} {w:World} {c:Code} (I:Nat→Act→World→Prop) (h₀:∃k,I k a w)
  (round:∀k a w,I k a w→c.wpIn F n P (Exit.then (fun a' w'=>∃k',k'<k∧I k' a' w') Q) a w):(Code.loop c).wpIn F n P Q a w:=by
 refine wpIn_loop (fun a w=>∃k,I k a w) (fun a w=>yG fun k=>I k a w) h₀ ?_
 intro a w hI
 refine wpIn_mono (round _ a w (vJ hI).1) ?_
 intro e a' w' hq
 cases e with
 | normal=>
  obtain ⟨k',hlt,hI'⟩:=hq
  exact show (∃k,I k a' w')∧(yG fun k=>I k a' w')<yG (fun k=>I k a w) from ⟨⟨k',hI'⟩,Nat.lt_of_le_of_lt ((vJ ⟨k',hI'⟩).2 k' hI') hlt⟩
 | exit id=>exact hq
 | goto l=>exact hq
 | ret=>exact hq
 | panic ch=>exact hq
 | outgrown=>exact hq
section
variable {P:Program} {G:Ctx} {N:Nat}
theorem Ca {E:Env} {a:Act}:∀(m l:List (Nat × SV)),(∀t,Rel E (look l t) (a.tmps.getD t undef))→(∀p∈m,Rel E p.2 (a.tmps.getD p.1 undef))→∀t,Rel E (look (puts m l) t) (a.tmps.getD t undef)
 | [],l,h,_,t=>h t
 | (u,s)::r,l,h,hm,t=>by
  simp only[puts]
  refine Ca r (put l u s) (fun t=>?_) (fun p hp=>hm p (List.mem_cons_of_mem _ hp)) t
  rw[gD]
  by_cases e:t=u
  ·rw[if_pos e,e];exact hm (u,s) (List.mem_cons_self ..)
  ·rw[if_neg e];exact h t
theorem tV (ws objs:List Nat):∀(l:List (Nat × SV)) (t:Nat),look (base ws objs l) t= .any∨(look (base ws objs l) t=look l t∧mem t ws=false∧names objs (look l t)=false)
 | [],t=>.inl rfl
 | (u,s)::r,t=>by
  simp only[base,look]
  by_cases e:u=t
  ·subst e
   rw[bW]
   simp only[cond_true]
   cases h:(mem u ws || names objs s) with
   | true=>left;rfl
   | false=>right;simp only[Bool.or_eq_false_iff] at h;exact ⟨rfl,h.1,h.2⟩
  ·rw[dR e]
   simp only[cond_false]
   exact tV ws objs r t
theorem fT {objs:List Nat} {A B:List HO} {n:Nat}:∀ {k:Nat} {as bs:List HO},entH objs A B n k as bs→bs.length≤as.length∧∀i o,bs[i]? =some o→∃o',as[i]? =some o'∧entO objs A B n (k+i) o' o
 | k,as,[],_=>⟨Nat.zero_le _,fun i o h=>by simp at h⟩
 | k,o'::r',o::r,h=>by
  obtain ⟨h1,h2⟩:=h
  obtain ⟨h3,h4⟩:=fT h2
  refine ⟨by simp;omega,fun i x hx=>?_⟩
  cases i with
  | zero=>simp at hx;subst hx;exact ⟨o',rfl,h1⟩
  | succ i=>
   obtain ⟨o₁,h5,h6⟩:=h4 i x (by simpa using hx)
   exact ⟨o₁,by simpa using h5,by rw[show k+(i+1)=k+1+i by omega];exact h6⟩
 | k,[],_:: _,h=>h.elim
variable {H' T:List HO} {loc:Nat→Loc} {ver:Nat→Nat} {w:World}
def cH (objs:List Nat) (T:List HO) (ver:Nat→Nat):Nat→Nat:=fun nm=>if mem nm objs=true then cC T nm else ver nm
theorem pO {objs:List Nat} {s:SV} (h:names objs s=false):allN (fun n=> !mem n objs) s=true:=by simpa [names] using h
theorem Rl (hI:Inv G H' loc ver w) {nm:Nat} (h:0<cC H' nm):ver nm=cC H' nm:=by
 unfold cC at h ⊢
 cases ho:hget H' nm with
 | vec v t xs e=>rw[ho] at h;exact (hI.objs nm _ (aC ho (by simp))).1
 | fro v t xs=>rw[ho] at h;exact (hI.objs nm _ (aC ho (by simp))).1
 | _=>rw[ho] at h;exact absurd h (Nat.lt_irrefl _)
theorem Ot (hI:Inv G H' loc ver w) {objs:List Nat} {n:Nat} (hT:∀m,m<n→hasB T m=true) (hok:∀b,okN G H' loc w b→okN G T loc w b) {s:SV} {v:Value} (h:Rel (envOf G H' loc ver w) s v) (hu:under n s=true):
  Rel (envOf G T loc (cH objs T ver) w) (reV objs H' T s) v:=by
 have drop:names objs s=false→Rel (envOf G T loc (cH objs T ver) w) s v:=by
  intro hn
  refine Rel.move (E:=envOf G H' loc ver w) (E':=envOf G T loc (cH objs T ver) w) (p:=fun m=>Nat.blt m n&& !mem m objs) (fun nm hp hlt=>?_) (fun _ _ _ _=>.inl rfl) (fun _=>rfl) (fun _ _ _ h _=>h) hok h ?_
  ·simp only[Bool.and_eq_true] at hp
   have h1:nm<n:=by simpa using hp.1
   have h2:mem nm objs=false:=by simpa using hp.2
   exact ⟨hT nm h1,.inl ⟨by simp[envOf,cH,h2],rfl⟩⟩
  ·exact Ik (fun m h1 h2=>by simp[h1,h2]) s hu (pO hn)
 cases s with
 | ref nm k=>
  simp only[reV]
  cases hm:mem nm objs with
  | false=>exact drop (by simp[names,allN,hm])
  | true=>
   simp only[cond_true]
   cases hb:(Nat.beq k (cC H' nm)&&Nat.blt 0 (cC T nm)) with
   | false=>exact .any v
   | true=>
    simp only[cond_true]
    obtain ⟨h1,h2⟩:=and2 hb
    have h1:=aJ.1 h1
    have h2:0<cC T nm:=by simpa using h2
    cases h with
    | ref _ _ _ hn h0 hk hv=>
     have hve:=Rl hI (nm:=nm) (by omega)
     have hlt:nm<n:=by simpa [under,allN] using hu
     refine .ref nm _ v (hT nm hlt) h2 (by simp[envOf,cH,hm]) fun _=>?_
     exact hv (by simp only[envOf];omega)
 | ptr nm off=>
  simp only[reV]
  cases hm:mem nm objs with
  | false=>exact drop (by simp[names,allN,hm])
  | true=>
   simp only[cond_true]
   cases hb:bD (hget H' nm) with
   | false=>exact .any v
   | true=>
    simp only[cond_true]
    have hlt:nm<n:=by simpa [under,allN] using hu
    have hv0:ver nm=0:=by
     cases ho:hget H' nm with
     | cells l e=>exact (hI.objs nm _ (aC ho (by simp))).1
     | _=>rw[ho] at hb;cases hb
    cases h with
    | ptr _ _ _ hn hv=>exact .ptr nm off v (hT nm hlt) fun _=>hv hv0
 | _=>
  simp only[reV]
  generalize hc:names objs _=b at drop ⊢
  cases b with
  | true=>exact .any v
  | false=>exact drop rfl
theorem yI (hI:Inv G H' loc ver w) {objs:List Nat} {n:Nat} (hT:∀m,m<n→hasB T m=true) (hok:∀b,okN G H' loc w b→okN G T loc w b):∀ {l l':List SV},entC objs H' T n l l'→∀ {vs:List Value},RelL (envOf G H' loc ver w) l vs→RelL (envOf G T loc (cH objs T ver) w) l' vs
 | [],[],_,_,.nil=>.nil
 | x::r,y::r',h,_,.cons _ v _ _ h1 h2=>by
  obtain ⟨h3,h4⟩:=h
  refine .cons _ _ _ _ ?_ (yI hI hT hok h4 h2)
  cases hb:(under n y&&under n x) with
  | true=>rw[hb] at h3;exact dW h3 (Ot hI hT hok h1 (and2 hb).2)
  | false=>rw[hb] at h3;exact dW h3 (.any v)
def EntS (objs:List Nat) (A T:List HO) (n:Nat):Prop:=T.length≤A.length∧∀i o,T[i]? =some o→∃o',A[i]? =some o'∧entO objs A T n (0+i) o' o
theorem Rm {t t':Ty} {xss:List (List t.T)} {yss:List (List t'.T)} (h:vvEq t t' xss yss):∃e:t=t',e ▸ xss=yss:=by
 unfold vvEq at h
 split at h
 ·rename_i e
  subst e
  rw[Re] at h
  exact ⟨rfl,h⟩
 ·exact h.elim
theorem Ly {t t':Ty} {m:MapS t.T} {m':MapS t'.T} (h:Tw t t' m m'):∃e:t=t',e ▸ m=m':=by
 unfold Tw at h
 split at h
 ·rename_i e
  rw[Tv] at h
  exact ⟨e,h⟩
 ·exact h.elim
theorem EntS.has {objs:List Nat} {A T:List HO} {n:Nat} (h:EntS objs A T n) (m:Nat) (hm:m<T.length):hasB T m=true:=by
 obtain ⟨o',_,h2⟩:=h.2 m T[m] (List.getElem?_eq_getElem hm)
 refine bA (List.getElem?_eq_getElem hm) ?_
 generalize T[m]=o at h2
 cases o with
 | res=>cases o'<;>exact h2.elim
 | _=>rfl
theorem mK (hI:Inv G H' loc ver w) {objs:List Nat} {n:Nat} (hT:n≤T.length) (hH:EntS objs H' T n):Inv G T loc (cH objs T ver) w∧(∀b,okN G H' loc w b→okN G T loc w b):=by
 have hT':∀m,m<n→hasB T m=true:=fun m hm=>hH.has m (by omega)
 obtain ⟨hlen,hspec⟩:=hH
 have hblk:∀nm o o' b,T[nm]? =some o→H'[nm]? =some o'→entO objs H' T n (0+nm) o' o→Owns (loc nm) o b→Owns (loc nm) o' b:=by
  intro nm o o' b h1 h2 h3 h4
  cases o with
  | dead=>cases h4
  | res=>cases h4
  | fro=>cases h4
  | frc=>cases h4
  | frm=>cases h4
  | qm ks l=>cases o' with
   | qm ks' l'=>exact h4
   | _=>exact h3.elim
  | gone=>cases o' with
   | gone=>exact h4
   | _=>exact h3.elim
  | lnt k t xs=>cases o' with
   | lnt k' t' xs'=>exact h4
   | _=>exact h3.elim
  | yst st m it=>cases o' with
   | yst st' m' it'=>exact h4
   | _=>exact h3.elim
  | cells l e=>cases o' with
   | cells l' e'=>exact h4
   | _=>exact h3.elim
  | map k t m=>cases o' with
   | map k' t' m'=>exact h4
   | _=>exact h3.elim
  | mit m s l c=>cases o' with
   | mit m' s' l' c'=>exact h4
   | _=>exact h3.elim
  | vv k s t xss pend eo ei=>cases o' with
   | vv k' s' t' xss' pend' eo' ei'=>exact h4
   | _=>exact h3.elim
  | vec v t xs e=>cases o' with
   | vec v' t' xs' e'=>exact h4
   | _=>exact h3.elim
 have hown:∀b,Owned T loc b→Owned H' loc b:=by
  rintro b ⟨nm,o,h1,h2⟩
  obtain ⟨o',h3,h4⟩:=hspec nm o h1
  exact ⟨nm,o',h3,hblk nm o o' b h1 h3 h4 h2⟩
 have hok:∀b,okN G H' loc w b→okN G T loc w b:=fun b hb=>⟨hb.1,hb.2.1,fun ho=>hb.2.2 (hown b ho)⟩
 refine ⟨⟨hI.size,hI.os,hI.tape,hI.output,hI.frame,fun nm o ho=>?_,fun b hb=>hI.own b (hown b hb),fun k k' o o' b hk hk' hb hb'=>?_⟩,hok⟩
 ·obtain ⟨o',h3,h4⟩:=hspec nm o ho
  have hO:=hI.objs nm o' h3
  rw[Nat.zero_add] at h4
  cases o with
  | dead=>trivial
  | res=>trivial
  | frc l=>cases o' with
   | frc l'=>
    obtain ⟨h0,b,vs,e0,h6,h7,h8,h9⟩:=hO
    refine ⟨?_,b,vs,e0,h6,hok b h7,h8,yI hI hT' hok h4 h9⟩
    simp only[cH]
    split
    ·have:hget T nm= .frc l:=by simp[hget,List.getD_eq_getElem?_getD,ho]
     simp[cC,this]
    ·exact h0
   | _=>exact h4.elim
  | qm ks l=>cases o' with
   | qm ks' l'=>
    obtain ⟨hm,rfl,rfl⟩:=h4
    obtain ⟨h1,h2,hbr,b,es,c,h6,h7,h8,h9⟩:=hO
    exact ⟨by simp only[cH];rw[if_neg (by rw[hm];simp)];exact h1,h2,hbr,b,es,c,h6,h7,h8,RelL.bare (E:=envOf G H' loc ver w) (E':=envOf G T loc (cH objs T ver) w) (fun _ _ _ h _=>h) hok h9 hbr⟩
   | _=>exact h4.elim
  | frm ks l=>cases o' with
   | frm ks' l'=>
    obtain ⟨hm,rfl,rfl⟩:=h4
    obtain ⟨h1,hbr,b,es,c,h6,h7,h8,h9,h10⟩:=hO
    exact ⟨by simp only[cH];rw[if_neg (by rw[hm];simp)];exact h1,hbr,b,es,c,h6,hok b h7,h8,h9,RelL.bare (E:=envOf G H' loc ver w) (E':=envOf G T loc (cH objs T ver) w) (fun _ _ _ h _=>h) hok h10 hbr⟩
   | _=>exact h4.elim
  | gone=>cases o' with
   | gone=>exact ⟨by simp only[cH];rw[if_neg (by rw[show mem nm objs=false from h4];simp)];exact hO.1,hO.2⟩
   | _=>exact h4.elim
  | lnt k t xs=>cases o' with
   | lnt k' t' xs'=>
    obtain ⟨hm,rfl,h6⟩:=h4
    have h7:=gU h6
    cases h7
    exact ⟨by simp only[cH];rw[if_neg (by rw[hm];simp)];exact hO.1,hO.2⟩
   | _=>exact h4.elim
  | yst st m it=>cases o' with
   | yst st' m' it'=>
    obtain ⟨hm,rfl,rfl,rfl⟩:=h4
    obtain ⟨h1,h2,h5,h6,h7,h8,h9⟩:=hO
    exact ⟨by simp only[cH];rw[if_neg (by rw[hm];simp)];exact h1,h2,h5,h6,h7,fun b hb hl=>⟨(h8 b hb hl).1,hok b (h8 b hb hl).2⟩,h9⟩
   | _=>exact h4.elim
  | map k t m=>cases o' with
   | map k' t' m'=>
    obtain ⟨hm,rfl,h5⟩:=h4
    obtain ⟨rfl,rfl⟩:=Ly h5
    obtain ⟨h1,h2,h3,b,es,h6,h7,h8⟩:=hO
    exact ⟨by simp only[cH];rw[if_neg (by rw[hm];simp)];exact h1,h2,h3,b,es,h6,h7,h8.mono (fun _ _ _ h=>h) hok⟩
   | _=>exact h4.elim
  | vv k s t xss pend eo ei=>cases o' with
   | vv k' s' t' xss' pend' eo' ei'=>
    obtain ⟨hm,rfl,rfl,h5,rfl,rfl,hp1,hp2⟩:=h4
    obtain ⟨rfl,rfl⟩:=Rm h5
    cases pend with
    | some _=>cases hp2
    | none=>
    cases pend' with
    | some _=>cases hp1
    | none=>
    obtain ⟨h1,h2,h3,h6,h7,h8,h9,h10⟩:=hO
    refine ⟨by simp only[cH];rw[if_neg (by rw[hm];simp)];exact h1,h2,h3,h6,h7,h8,h9,⟨h10.flat,fun i hi hp=>?_,h10.apart,(fun j ys hp=>by cases hp),h10.short⟩⟩
    obtain ⟨vs,q1,q2,q3⟩:=h10.row i hi (fun j ys hp=>by cases hp)
    exact ⟨vs,q1,q2,fun i hi=>(q3 i hi).mono (fun _ _ _ h=>h) hok⟩
   | _=>exact h4.elim
  | mit m s l c=>cases o' with
   | mit m' s' l' c'=>
    obtain ⟨hm,⟨hm',hlt⟩,rfl,rfl,rfl,rfl⟩:=h4
    obtain ⟨h1,h2,r,bm,h3,h5,h6⟩:=hO
    refine ⟨by simp only[cH];rw[if_neg (by rw[hm];simp)];exact h1,?_,r,bm,h3,h5,fun e=>?_⟩
    ·have hlt':m'<n:=by simpa using hlt
     exact hT' _ hlt'
    ·simp only[envOf,cH] at e
     rw[if_neg (by rw[hm'];simp)] at e
     exact h6 e
   | _=>exact h4.elim
  | cells l e=>cases o' with
   | cells l' e'=>
    obtain ⟨rfl,h5⟩:=h4
    obtain ⟨h0,b,vs,h6,h7,h8⟩:=hO
    refine ⟨?_,b,vs,h6,h7,yI hI hT' hok h5 h8⟩
    simp only[cH]
    split
    ·rename_i hm
     have:hget T nm= .cells l e':=by simp[hget,List.getD_eq_getElem?_getD,ho]
     simp[cC,this]
    ·exact h0
   | _=>exact h4.elim
  | vec v t xs e=>cases o' with
   | vec v' t' xs' e'=>
    obtain ⟨rfl,h5,h6⟩:=h4
    have h7:=gU h6
    cases h7
    obtain ⟨h8,h9,h10,h11,vs,h12,h13⟩:=hO
    have hg:hget T nm= .vec v t xs e':=by simp[hget,List.getD_eq_getElem?_getD,ho]
    refine ⟨?_,?_,h10,h11,vs,h12,fun i hi=>(h13 i hi).mono (fun _ _ _ h=>h) hok⟩
    ·simp only[cH]
     cases hm:mem nm objs with
     | true=>simp[cC,hg]
     | false=>rw[hm] at h5;simp only[cond_false] at h5;rw[if_neg (by simp)];rw[← h5];exact h8
    ·cases hm:mem nm objs with
     | true=>rw[hm] at h5;exact h5
     | false=>rw[hm] at h5;simp only[cond_false] at h5;rw[← h5];exact h9
   | _=>exact h4.elim
  | fro v t xs=>cases o' with
   | fro v' t' xs'=>
    obtain ⟨rfl,h6⟩:=h4
    have h7:=gU h6
    cases h7
    obtain ⟨h8,h9,h10⟩:=hO
    have hg:hget T nm= .fro v' t xs:=by simp[hget,List.getD_eq_getElem?_getD,ho]
    refine ⟨?_,h9,h10.mono (fun _ _ _ h=>h) hok⟩
    simp only[cH]
    split
    ·simp[cC,hg]
    ·exact h8
   | _=>exact h4.elim
 ·obtain ⟨o₁,h1,h2⟩:=hspec k o hk
  obtain ⟨o₂,h3,h4⟩:=hspec k' o' hk'
  exact hI.sep k k' o₁ o₂ b h1 h3 (hblk k o o₁ b hk h1 h2 hb) (hblk k' o' o₂ b hk' h3 h4 hb')
theorem Il (hI:Inv G H' loc ver w) {objs:List Nat} {n:Nat} (hT:∀m,m<n→hasB T m=true) (hok:∀b,okN G H' loc w b→okN G T loc w b) {a:Act} {l':List (Nat × SV)} (hTR:TRel (envOf G H' loc ver w) N l' a):
  ∀ {m:List (Nat × SV)},entM objs H' T n l' m→∀p∈m,Rel (envOf G T loc (cH objs T ver) w) p.2 (a.tmps.getD p.1 undef)
 | [],_,p,hp=>by simp at hp
 | (t,s)::r,h,p,hp=>by
  obtain ⟨h3,h4⟩:=h
  rcases List.mem_cons.1 hp with rfl | hp
  ·cases hb:(under n s&&under n (look l' t)) with
   | true=>rw[hb] at h3;exact dW h3 (Ot hI hT hok (hTR.rel t) (and2 hb).2)
   | false=>rw[hb] at h3;exact dW h3 (.any _)
  ·exact Il hI hT hok hTR h4 p hp
theorem oC {objs:List Nat} {n:Nat}:∀ {D:List Nat},within objs n D=true→∀m,mem m D=true→mem m objs=true∨n≤m
 | x::r,h,m,hm=>by
  simp only[within,Bool.and_eq_true,Bool.or_eq_true,Nat.ble_eq] at h
  simp only[mem,Bool.or_eq_true] at hm
  rcases hm with hm | hm
  ·have:=aJ.1 hm;subst this;exact h.1
  ·exact oC h.2 m hm
theorem jY:∀ {H T:List HO} {nm:Nat},uX H T=true→H[nm]? =some .gone→T[nm]? =some .gone
 | [],_,nm,_,h=>by simp at h
 | o::r,o'::r',nm,hg,h=>by
  simp only[uX,Bool.and_eq_true] at hg
  cases nm with
  | zero=>
   simp at h;subst h
   have:=hg.1
   cases o'<;>simp[En] at this ⊢
  | succ n=>simpa using jY hg.2 (by simpa using h)
 | _:: _,[],nm,hg,h=>by simp[uX] at hg
theorem mL {H:List HO} {loc0:Nat→Loc} {ver0:Nat→Nat} {w0:World} {objs D:List Nat}
  (hx:ExtO D (envOf G H loc0 ver0 w0) (envOf G H' loc ver w)) (hlen:H.length≤T.length) (hgs:∀nm:Nat,H[nm]? =some HO.gone→T[nm]? =some HO.gone) (hD:within objs H.length D=true) (hh:EntS objs H' T H.length)
  (hok:∀b,okN G H' loc w b→okN G T loc w b):ExtO objs (envOf G H loc0 ver0 w0) (envOf G T loc (cH objs T ver) w):=by
 refine ⟨hx.blk,fun b hb=>hok b (hx.ok b hb),fun nm hn=>EntS.has hh nm (Nat.lt_of_lt_of_le (cB hn) hlen),fun nm hn hmm=>?_,hx.size,hx.keep,fun nm b hb=>?_,fun nm b hn hb=>?_,fun b hb=>?_,hx.itr,fun nm hn hmm he=>?_⟩
 ·have hnD:mem nm D=false:=by
   cases e:mem nm D with
   | false=>rfl
   | true=>
    have hn':nm<H.length:=cB hn
    rcases oC hD nm e with h1 | h1
    ·rw[h1] at hmm;cases hmm
    ·omega
  have:=hx.ver nm hn hnD
  simpa [envOf,cH,hmm] using this
 ·obtain ⟨h1,h2⟩:=hx.gho nm b hb
  exact ⟨⟨hgs nm hb.1,h1.2⟩,h2⟩
 ·obtain ⟨o',h3,h4⟩:=hh.2 nm _ hb.1
  cases o' with
  | gone=>exact hx.gho' nm b hn ⟨h3,hb.2⟩
  | _=>exact h4.elim
 ·obtain ⟨nm,st,m,it,h1,h2⟩:=hb
  obtain ⟨o',h3,h4⟩:=hh.2 nm _ h1
  cases o' with
  | yst st' m' it'=>exact hx.ali b ⟨nm,_,_,_,h3,h2⟩
  | _=>exact h4.elim
 ·have hnD:mem nm D=false:=by
   cases e:mem nm D with
   | false=>rfl
   | true=>
    have hn':nm<H.length:=cB hn
    rcases oC hD nm e with h1 | h1
    ·rw[h1] at hmm;cases hmm
    ·omega
  refine hx.sub nm hn hnD ?_
  simpa [envOf,cH,hmm] using he
theorem vK (a b:Nat):∀(l:List (Nat × SV)) (t:Nat),look (l.map (swT a b)) t=swV a b (look l t)
 | [],t=>by simp[look,swV,names,allN]
 | (u,s)::r,t=>by
  simp only[List.map_cons,swT,look]
  cases Nat.beq u t with
  | true=>rfl
  | false=>exact vK a b r t
def swL (a b:Nat) (loc:Nat→Loc):Nat→Loc:=fun n=>if n=a then loc b else loc n
section
variable {H:List HO} {a b:Nat}
theorem Fc (hab:a≠b) (ha:a<H.length) {nm:Nat} {o:HO} (h:(swH a b H)[nm]? =some o):
  (nm=b∧o= .dead)∨(nm=a∧o=swO a b (hget H b))∨(nm≠a∧nm≠b∧∃o',H[nm]? =some o'∧o=swO a b o'):=by
 unfold swH hset at h
 by_cases e1:nm=b
 ·subst e1
  left
  have hl:=(List.getElem?_eq_some_iff.1 h).1
  rw[List.getElem?_set_self (by simpa using hl)] at h
  cases h
  exact ⟨rfl,rfl⟩
 ·rw[aK e1] at h
  by_cases e2:nm=a
  ·subst e2
   right;left
   rw[List.getElem?_set_self (by simpa using ha)] at h
   cases h
   exact ⟨rfl,rfl⟩
  ·rw[aK e2] at h
   right;right
   rw[List.getElem?_map] at h
   cases ho:H[nm]? with
   | none=>rw[ho] at h;cases h
   | some o'=>rw[ho] at h;simp at h;exact ⟨e2,e1,o',rfl,h.symm⟩
theorem Ou {o:HO} (h:qC o=false):qC (swO a b o)=false:=by
 cases o with
 | mit m s l c=>simp only[swO];cases Nat.beq m a<;>rfl
 | res=>cases h
 | _=>rfl
theorem Im {o:HO} (h:swO a b o= .gone):o= .gone:=by
 cases o with
 | mit m s l c=>simp only[swO] at h;cases he:Nat.beq m a<;>rw[he] at h<;>cases h
 | gone=>rfl
 | _=>cases h
theorem Ov {o:HO} {st:Option Nat} {m:Nat} {it:Nat→List SV} (h:swO a b o= .yst st m it):o= .yst st m it:=by
 cases o with
 | mit m s l c=>simp only[swO] at h;cases he:Nat.beq m a<;>rw[he] at h<;>cases h
 | yst=>exact h
 | _=>cases h
theorem Ow (hb:b<H.length) {nm:Nat} (h1:nm≠a) (h2:nm≠b) {o:HO} (h:H[nm]? =some o):(swH a b H)[nm]? =some (swO a b o):=by
 unfold swH hset
 rw[aK h2,aK h1,List.getElem?_map,h]
 rfl
theorem Ox (ha:a<H.length) (hb:b<H.length) (hab:a≠b) (hcb:bD (hget H b)=true) {nm:Nat} (h:hasB H nm=true):hasB (swH a b H) nm=true:=by
 have hlt:=cB h
 by_cases e1:nm=b
 ·subst e1
  refine bA (o:=.dead) ?_ rfl
  unfold swH hset
  rw[List.getElem?_set_self (by simpa using hb)]
 ·by_cases e2:nm=a
  ·subst e2
   refine bA (o:=swO nm b (hget H b)) ?_ ?_
   ·unfold swH hset
    rw[aK e1,List.getElem?_set_self (by simpa using ha)]
   ·refine Ou ?_
    cases ho:hget H b with
    | cells=>rfl
    | _=>rw[ho] at hcb;cases hcb
  ·refine bA (Ow hb e2 e1 (List.getElem?_eq_getElem hlt)) (Ou ?_)
   have h3:hget H nm=H[nm]:=by simp[hget,List.getD_eq_getElem?_getD,List.getElem?_eq_getElem hlt]
   have h4:=(and2 (show (Nat.blt nm H.length&& !qC (hget H nm))=true from h)).2
   rw[h3] at h4
   simpa using h4
theorem oD (h:bD (hget H a)=true):∃l e,H[a]? =some (.cells l e)∧hget H a= .cells l e:=by
 cases ho:hget H a with
 | cells l e=>exact ⟨l,e,aC ho (by simp),rfl⟩
 | _=>rw[ho] at h;cases h
theorem Uk {loc:Nat→Loc} {ver:Nat→Nat} {w:World} (hI:Inv G H loc ver w) (hab:a≠b) (hca:bD (hget H a)=true) (hcb:bD (hget H b)=true):
  Inv G (swH a b H) (swL a b loc) ver w∧(∀c,okN G H loc w c→okN G (swH a b H) (swL a b loc) w c)∧
   (∀ {s v},Rel (envOf G H loc ver w) s v→Rel (envOf G (swH a b H) (swL a b loc) ver w) (swV a b s) v):=by
 obtain ⟨la,ea,hga,hga'⟩:=oD hca
 obtain ⟨lb,eb,hgb,hgb'⟩:=oD hcb
 have hal:a<H.length:=(List.getElem?_eq_some_iff.1 hga).1
 have hbl:b<H.length:=(List.getElem?_eq_some_iff.1 hgb).1
 have hva:ver a=0:=(hI.objs a _ hga).1
 have hvb:ver b=0:=(hI.objs b _ hgb).1
 have hlo:∀nm,nm≠a→swL a b loc nm=loc nm:=fun nm h=>if_neg h
 have hla:swL a b loc a=loc b:=if_pos rfl
 have hown1:∀nm o c,(swH a b H)[nm]? =some o→Owns (swL a b loc nm) o c→∃m o',H[m]? =some o'∧Owns (loc m) o' c∧(m=if nm=a then b else nm)∧nm≠b:=by
  intro nm o c h1 h2
  rcases Fc hab hal h1 with ⟨_,rfl⟩ | ⟨rfl,rfl⟩ | ⟨q1,q2,o',h3,rfl⟩
  ·cases h2
  ·rw[hla,hgb'] at h2
   exact ⟨b,_,hgb,h2,by rw[if_pos rfl],hab⟩
  ·rw[hlo nm q1] at h2
   refine ⟨nm,o',h3,?_,by rw[if_neg q1],q2⟩
   cases o' with
   | mit m s l c=>simp only[swO] at h2;cases he:Nat.beq m a<;>rw[he] at h2<;>first | exact h2 | cases h2
   | frc=>cases h2
   | frm=>cases h2
   | _=>exact h2
 have hown:∀c,Owned (swH a b H) (swL a b loc) c→Owned H loc c:=by
  rintro c ⟨nm,o,h1,h2⟩
  obtain ⟨m,o',h3,h4,_⟩:=hown1 nm o c h1 h2
  exact ⟨m,o',h3,h4⟩
 have hok:∀c,okN G H loc w c→okN G (swH a b H) (swL a b loc) w c:=fun c hc=>⟨hc.1,hc.2.1,fun ho=>hc.2.2 (hown c ho)⟩
 have hhas:∀nm,hasB H nm=true→hasB (swH a b H) nm=true:=fun nm h=>Ox hal hbl hab hcb h
 have hmem:∀nm,(!mem nm [a,b])=true→nm≠a∧nm≠b:=by
  intro nm h
  have h:mem nm [a,b]=false:=by simpa using h
  constructor
  ·intro e;rw[e] at h;simp[mem,bW] at h
  ·intro e;rw[e] at h;simp[mem,bW] at h
 have hrel:∀ {s v},Rel (envOf G H loc ver w) s v→Rel (envOf G (swH a b H) (swL a b loc) ver w) (swV a b s) v:=by
  intro s v h
  have drop:names [a,b] s=false→Rel (envOf G (swH a b H) (swL a b loc) ver w) s v:=by
   intro hn
   refine Rel.move (E:=envOf G H loc ver w) (E':=envOf G (swH a b H) (swL a b loc) ver w) (p:=fun m=> !mem m [a,b]) (fun nm hp hlt=>?_) (fun nm hp _ _=>?_) (fun _=>rfl) (fun _ _ _ h _=>h) hok h (pO hn)
   ·exact ⟨hhas nm hlt,.inl ⟨rfl,by simp only[envOf];rw[hlo nm (hmem nm hp).1]⟩⟩
   ·left;simp only[envOf];rw[hlo nm (hmem nm hp).1]
  cases s with
  | ptr nm off=>
   simp only[swV]
   by_cases e1:nm=b
   ·subst e1
    rw[bW]
    simp only[cond_true]
    cases h with
    | ptr _ _ _ hn hv=>
     refine .ptr a off v (hhas a (bA hga rfl)) fun _=>?_
     obtain ⟨c,h1,h2⟩:=hv hvb
     exact ⟨c,by simp only[envOf];rw[hla];exact h1,h2⟩
   ·rw[dR e1]
    simp only[cond_false]
    by_cases e2:nm=a
    ·subst e2;rw[bW];exact .any v
    ·rw[dR e2]
     simp only[cond_false]
     refine drop ?_
     simp only[names,allN,mem,Bool.or_false,Bool.not_not]
     rw[dR (fun e=>e2 e.symm),dR (fun e=>e1 e.symm)];rfl
  | _=>
   simp only[swV]
   generalize hc:names [a,b] _=q at drop ⊢
   cases q with
   | true=>exact .any v
   | false=>exact drop rfl
 have hrelL:∀ {l:List SV} {vs:List Value},RelL (envOf G H loc ver w) l vs→RelL (envOf G (swH a b H) (swL a b loc) ver w) (l.map (swV a b)) vs:=by
  intro l
  induction l with
  | nil=>intro vs h;cases h;exact .nil
  | cons x r ih=>intro vs h;cases h with
   | cons _ _ _ _ h1 h2=>exact .cons _ _ _ _ (hrel h1) (ih h2)
 refine ⟨⟨hI.size,hI.os,hI.tape,hI.output,hI.frame,fun nm o ho=>?_,fun c hc=>hI.own c (hown c hc),fun k k' o o' c hk hk' hc hc'=>?_⟩,hok,hrel⟩
 ·rcases Fc hab hal ho with ⟨_,rfl⟩ | ⟨rfl,rfl⟩ | ⟨q1,q2,o',h3,rfl⟩
  ·trivial
  ·rw[hgb',hla]
   obtain ⟨h0,c,vs,h6,h7,h8⟩:=hI.objs b _ hgb
   exact ⟨hva,c,vs,h6,h7,hrelL h8⟩
  ·have hO:=hI.objs nm o' h3
   rw[hlo nm q1]
   cases o' with
   | dead=>trivial
   | res=>trivial
   | frc l=>
    obtain ⟨h0,c,vs,e0,h6,h7,h8,h9⟩:=hO
    exact ⟨h0,c,vs,e0,h6,hok c h7,h8,hrelL h9⟩
   | qm ks l=>
    obtain ⟨h1,h2,hbr,c,es,ck,h6,h7,h8,h9⟩:=hO
    exact ⟨h1,h2,hbr,c,es,ck,h6,h7,h8,RelL.bare (E:=envOf G H loc ver w) (E':=envOf G (swH a b H) (swL a b loc) ver w) (fun _ _ _ h _=>h) hok h9 hbr⟩
   | frm ks l=>
    obtain ⟨h1,hbr,c,es,ck,h6,h7,h8,h9,h10⟩:=hO
    exact ⟨h1,hbr,c,es,ck,h6,hok c h7,h8,h9,RelL.bare (E:=envOf G H loc ver w) (E':=envOf G (swH a b H) (swL a b loc) ver w) (fun _ _ _ h _=>h) hok h10 hbr⟩
   | gone=>exact hO
   | lnt k t xs=>exact hO
   | yst st m it=>
    obtain ⟨h1,h2,h5,h6,h7,h8,h9⟩:=hO
    exact ⟨h1,h2,h5,h6,h7,fun c hc hl=>⟨(h8 c hc hl).1,hok c (h8 c hc hl).2⟩,h9⟩
   | map k t m=>
    obtain ⟨h1,h2,h3,c,es,h6,h7,h8⟩:=hO
    exact ⟨h1,h2,h3,c,es,h6,h7,h8.mono (fun _ _ _ h=>h) hok⟩
   | vv k s t xss pend eo ei=>
    obtain ⟨h1,h2,h3,h6,h7,h8,h9,h10⟩:=hO
    refine ⟨h1,h2,h3,h6,h7,h8,h9,⟨h10.flat,fun i hi hp=>?_,h10.apart,(fun j ys hp=>?_),h10.short⟩⟩
    ·obtain ⟨vs,q1,q2,q3⟩:=h10.row i hi hp
     exact ⟨vs,q1,q2,fun i hi=>(q3 i hi).mono (fun _ _ _ h=>h) hok⟩
    ·obtain ⟨h11,⟨vs,q1,q2,q3⟩,h12⟩:=h10.grown j ys hp
     exact ⟨h11,⟨vs,q1,q2,fun i hi=>(q3 i hi).mono (fun _ _ _ h=>h) hok⟩,h12⟩
   | mit m s l c=>
    simp only[swO]
    by_cases e:m=a
    ·rw[e,bW];trivial
    ·rw[dR e]
     obtain ⟨h1,h2,r,bm,h3,h5,h6⟩:=hO
     refine ⟨h1,hhas m h2,r,bm,h3,h5,fun e1=>?_⟩
     simp only[envOf]
     rw[hlo m e]
     exact h6 e1
   | cells l e=>
    obtain ⟨h0,c,vs,h6,h7,h8⟩:=hO
    exact ⟨h0,c,vs,h6,h7,hrelL h8⟩
   | vec v t xs e=>
    obtain ⟨h8,h9,h10,h11,vs,h12,h13⟩:=hO
    exact ⟨h8,h9,h10,h11,vs,h12,fun i hi=>(h13 i hi).mono (fun _ _ _ h=>h) hok⟩
   | fro v t xs=>
    obtain ⟨h8,h9,h10⟩:=hO
    exact ⟨h8,h9,h10.mono (fun _ _ _ h=>h) hok⟩
 ·obtain ⟨m,o₁,h1,h2,e1,e2⟩:=hown1 k o c hk hc
  obtain ⟨m',o₂,h3,h4,e3,e4⟩:=hown1 k' o' c hk' hc'
  have:=hI.sep m m' o₁ o₂ c h1 h3 h2 h4
  rw[e1,e3] at this
  by_cases q1:k=a
  ·by_cases q2:k'=a
   ·rw[q1,q2]
   ·rw[if_pos q1,if_neg q2] at this;exact absurd this.symm e4
  ·by_cases q2:k'=a
   ·rw[if_neg q1,if_pos q2] at this;exact absurd this e2
   ·rw[if_neg q1,if_neg q2] at this;exact this
theorem Ul {loc:Nat→Loc} (hab:a≠b) (ha:a<H.length) {c:Nat} (hcb:bD (hget H b)=true) (h:aliN (swH a b H) (swL a b loc) c):aliN H loc c:=by
 obtain ⟨nm,st,n,it,h1,h2⟩:=h
 rcases Fc hab ha h1 with ⟨_,e⟩ | ⟨rfl,e⟩ | ⟨q1,q2,o',h3,e⟩
 ·cases e
 ·have:=Ov e.symm
  rw[this] at hcb;cases hcb
 ·have:=Ov e.symm
  subst this
  rw[show swL a b loc nm=loc nm from if_neg q1] at h2
  exact ⟨nm,st,n,it,h3,h2⟩
theorem aCy {E0:Env} {D:List Nat} {loc:Nat→Loc} {ver:Nat→Nat} {w:World} (hI:Inv G H loc ver w) (hab:a≠b) (hca:bD (hget H a)=true) (hcb:bD (hget H b)=true) (hD:mem a D=true) (hb0:∀nm,E0.has nm=true→nm≠b)
  (hx:ExtO D E0 (envOf G H loc ver w)):ExtO D E0 (envOf G (swH a b H) (swL a b loc) ver w):=by
 obtain ⟨hI2,hok,hrel⟩:=Uk hI hab hca hcb
 obtain ⟨la,ea,hga,hga'⟩:=oD hca
 obtain ⟨lb,eb,hgb,hgb'⟩:=oD hcb
 have hal:a<H.length:=(List.getElem?_eq_some_iff.1 hga).1
 have hbl:b<H.length:=(List.getElem?_eq_some_iff.1 hgb).1
 have hlo:∀nm,nm≠a→swL a b loc nm=loc nm:=fun nm h=>if_neg h
 have hna:∀nm,mem nm D=false→nm≠a:=fun nm h e=>by subst e;rw[hD] at h;cases h
 refine ⟨hx.blk,fun c hc=>hok c (hx.ok c hc),fun nm hn=>Ox hal hbl hab hcb (hx.num nm hn),fun nm hn hm=>?_,hx.size,hx.keep,fun nm c hc=>?_,fun nm c hn hc=>?_,fun c hc=>hx.ali c (Ul hab hal hcb hc),hx.itr,fun nm hn hm he=>?_⟩
 ·have:=hx.ver nm hn hm
  simp only[envOf] at this ⊢
  rw[hlo nm (hna nm hm)];exact this
 ·obtain ⟨h1,h2⟩:=hx.gho nm c hc
  refine ⟨?_,h2⟩
  have h3:H[nm]? =some .gone:=h1.1
  have e1:nm≠a:=fun e=>by rw[e,hga] at h3;cases h3
  have e2:nm≠b:=fun e=>by rw[e,hgb] at h3;cases h3
  exact ⟨Ow hbl e1 e2 h1.1,by rw[hlo nm e1];exact h1.2⟩
 ·refine hx.gho' nm c hn ?_
  obtain ⟨h1,h2⟩:=hc
  rcases Fc hab hal h1 with ⟨_,e⟩ | ⟨rfl,e⟩ | ⟨q1,q2,o',h3,e⟩
  ·cases e
  ·have:=Im e.symm
   rw[this] at hcb;cases hcb
  ·have:=Im e.symm
   subst this
   rw[hlo nm q1] at h2
   exact ⟨h3,h2⟩
 ·have:=hx.sub nm hn hm
  simp only[envOf] at this ⊢
  rw[hlo nm (hna nm hm)];exact this he
end
theorem qL {objs:List Nat} {n:Nat}:∀ {D:List Nat},within objs n D=true→within objs n (D++objs)=true:=by
 intro D
 induction D with
 | nil=>
  intro _
  have:∀(O:List Nat),(∀m,mem m O=true→mem m objs=true)→within objs n O=true:=by
   intro O
   induction O with
   | nil=>intro _;rfl
   | cons y r ih2=>
    intro hy
    simp only[within,Bool.and_eq_true,Bool.or_eq_true]
    exact ⟨.inl (hy y (by simp[mem,bW])),ih2 fun m hm=>hy m (by simp[mem,hm])⟩
  exact this objs fun _ h=>h
 | cons y r ih2=>
  intro hy
  simp only[List.cons_append,within,Bool.and_eq_true] at hy ⊢
  exact ⟨hy.1,ih2 hy.2⟩
theorem sG {H:List HO} {loc0:Nat→Loc} {ver0:Nat→Nat} {w0:World} {l l':List (Nat × SV)} {a0 a:Act} {an:Ann} {x:an.X} {ws D:List Nat}
  (hI0:Inv G H loc0 ver0 w0) (hT0:TRel (envOf G H loc0 ver0 w0) N l a0) (hI:Inv G H' loc ver w) (hTR:TRel (envOf G H' loc ver w) N l' a) (hx:ExtO D (envOf G H loc0 ver0 w0) (envOf G H' loc ver w)) (hs:Same ws a0 a)
  (hlen:(an.heap x H).length=H.length) (hgs:uX H (an.heap x H)=true) (hD:within an.objs H.length D=true) (h:kT an x H l' H'):
  Inv G (an.heap x H) loc (cH an.objs (an.heap x H) ver) w∧TRel (envOf G (an.heap x H) loc (cH an.objs (an.heap x H) ver) w) N (annL an x ws l H) a∧
   ExtO an.objs (envOf G H loc0 ver0 w0) (envOf G (an.heap x H) loc (cH an.objs (an.heap x H) ver) w):=by
 obtain ⟨hm,hh⟩:=h.ent
 have hh:=fT hh
 obtain ⟨hI2,hok⟩:=mK hI (Nat.le_of_eq hlen.symm) hh
 have hxx:=mL hx (Nat.le_of_eq hlen.symm) (fun nm hn=>jY hgs hn) hD hh hok
 refine ⟨hI2,⟨hTR.size,?_⟩,hxx⟩
 refine Ca _ _ (fun t=>?_) (Il hI (fun m hm=>EntS.has hh m (by omega)) hok hTR hm)
 rcases tV ws an.objs l t with e | ⟨e1,e2,e3⟩
 ·rw[e];exact .any _
 ·rw[e1,hs t e2]
  have h0:=hT0.rel t
  refine h0.move (E':=envOf G (an.heap x H) loc (cH an.objs (an.heap x H) ver) w) (p:=fun m=> !mem m an.objs) (fun nm hp hlt=>?_) (fun nm hp hn he=>hxx.sub nm hn (by simpa using hp) he) (fun _=>hxx.itr) hxx.keepC hxx.ok (pO e3)
  have h2:mem nm an.objs=false:=by simpa using hp
  exact ⟨hxx.num nm hlt,hxx.ver nm hlt h2⟩
end
end Go.Eng
end
section
namespace Go.Eng
open Go.RowKit
section
variable {P:Program} {G:Ctx} {N:Nat}
theorem jE {ops:Array Oper} {a:Act} {j t:Nat} (hd:(ops[j]?).bind (·.dst)=some t) {b:Bool} (h:a.tmps.getD t undef= .bool b):yielded ops a.tmps j=some b:=by
 unfold yielded
 rw[hd]
 simp only[Option.bind_some]
 rw[Array.getD_eq_getD_getElem?] at h
 cases ht:a.tmps[t]? with
 | none=>rw[ht] at h;cases h
 | some v=>rw[ht] at h;simp at h;rw[h]
theorem qM {ops:Array Oper} {a:Act} {j t:Nat} (hd:(ops[j]?).bind (·.dst)=some t) (h:a.tmps.getD t undef= .tuple ⟨[]⟩):yielded ops a.tmps j=none:=by
 unfold yielded
 rw[hd,Option.bind_some]
 cases he:a.tmps[t]? with
 | none=>rfl
 | some v=>
  rw[Array.getD_eq_getD_getElem?,he] at h
  simp only[Option.getD_some] at h
  rw[h]
theorem TRel.learn {E:Env} {l:List (Nat × SV)} {a:Act} (h:TRel E N l a) {t:Nat} {s:SV} (hs:Rel E s (a.tmps.getD t undef)):TRel E N (Eng.put l t s) a:=by
 refine ⟨h.size,fun u=>?_⟩
 rw[gD]
 by_cases e:u=t
 ·rw[if_pos e,e];exact hs
 ·rw[if_neg e];exact h.rel u
theorem sI {E:Env} {ops:Array Oper} {l:List (Nat × SV)} {a:Act} (hT:TRel E N l a) {o:Oper} {yes no:List (Nat × SV)→Prop} (h:kR ops.toList l o.guard yes no):
  ∃l',TRel E N l' a∧((Region.wanted o (yielded ops a.tmps)=true∧yes l')∨(Region.wanted o (yielded ops a.tmps)=false∧no l')):=by
 unfold kR at h
 cases hg:o.guard with
 | none=>rw[hg] at h;exact ⟨l,hT,.inl ⟨by simp[Region.wanted,hg],h⟩⟩
 | some p=>
  obtain ⟨j,want⟩:=p
  rw[hg] at h
  simp only at h
  split at h
  ·exact h.elim
  ·rename_i t hd
   have hd':(ops[j]?).bind (·.dst)=some t:=by simpa using hd
   have hr:=hT.rel t
   split at h
   ·rename_i hl
    rw[hl] at hr
    have hy:=jE hd' hr.bool_inv
    cases want with
    | true=>exact ⟨l,hT,.inl ⟨by simp[Region.wanted,hg,hy],h⟩⟩
    | false=>exact ⟨l,hT,.inr ⟨by simp[Region.wanted,hg,hy],h⟩⟩
   ·rename_i hl
    rw[hl] at hr
    have hy:=jE hd' hr.bool_inv
    cases want with
    | true=>exact ⟨l,hT,.inr ⟨by simp[Region.wanted,hg,hy],h⟩⟩
    | false=>exact ⟨l,hT,.inl ⟨by simp[Region.wanted,hg,hy],h⟩⟩
   ·rename_i p d hl
    rw[hl] at hr
    generalize hv:a.tmps.getD t undef=v at hr
    cases hr
    have hy:=jE hd' hv
    have hT1:p→TRel E N (put l t (.val (.bool true))) a:=fun hp=>hT.learn (by rw[hv];simp[hp];exact .val _ trivial)
    have hT0:¬p→TRel E N (put l t (.val (.bool false))) a:=fun hp=>hT.learn (by rw[hv];simp[hp];exact .val _ trivial)
    by_cases hp:p
    ·cases want with
     | true=>exact ⟨_,hT1 hp,.inl ⟨by simp[Region.wanted,hg,hy,hp],by have:=h.yes hp;rwa [aL] at this⟩⟩
     | false=>exact ⟨_,hT1 hp,.inr ⟨by simp[Region.wanted,hg,hy,hp],by have:=h.yes hp;rwa [aL] at this⟩⟩
    ·cases want with
     | true=>exact ⟨_,hT0 hp,.inr ⟨by simp[Region.wanted,hg,hy,hp],by have:=h.no hp;rwa [aL] at this⟩⟩
     | false=>exact ⟨_,hT0 hp,.inl ⟨by simp[Region.wanted,hg,hy,hp],by have:=h.no hp;rwa [aL] at this⟩⟩
   ·rename_i hl
    rw[hl] at hr
    generalize hv:a.tmps.getD t undef=v at hr
    cases hr with
    | tup _ vs hl'=>cases hl';exact ⟨l,hT,.inr ⟨by simp[Region.wanted,hg,qM hd' hv],h⟩⟩
   ·exact h.elim
theorem oE {ops:List Oper} {o:Oper} (ho:o∈ops) {t:Nat} (ht:o.dst=some t):mem t (ops.filterMap (·.dst))=true:=by
 induction ops with
 | nil=>simp at ho
 | cons x r ih=>
  rcases List.mem_cons.1 ho with rfl | ho
  ·simp[List.filterMap_cons,ht,mem,bW]
  ·have:=ih ho
   simp only[List.filterMap_cons]
   split
   ·exact this
   ·simp[mem,this]
theorem Bc (hY:COK P G) {Γ:List Con} (hΓ:∀c∈Γ,aD P c) {F:Fence} (hF:Opn F) {n:Nat} {ops:Array Oper}:∀(rest:List Oper) (k:Nat),ops.toList.drop k=rest→
  ∀ {H:List HO} {loc:Nat→Loc} {ver:Nat→Nat} {w:World} {l:List (Nat × SV)} {a:Act} {K:List (Nat × SV)→List HO→Prop} {Q:Exit→Act→World→Prop},
  Inv G H loc ver w→TRel (envOf G H loc ver w) N l a→fJ P Γ N ops.toList rest l H K→
  (∀l' H' loc' ver' a' w',K l' H'→Inv G H' loc' ver' w'→TRel (envOf G H' loc' ver' w') N l' a'→Ext (envOf G H loc ver w) (envOf G H' loc' ver' w')→Same (ops.toList.filterMap (·.dst)) a a'→a'.defers=a.defers→Q .normal a' w')→
  wpOpsIn F n P ops Q (List.range' k rest.length) a w:=by
 intro rest
 induction rest with
 | nil=>
  intro k hk H loc ver w l a K Q hI hT h hQ
  exact hQ l H loc ver a w h hI hT (Ext.refl _) (Same.refl _ _) rfl
 | cons o r ih=>
  intro k hk H loc ver w l a K Q hI hT h hQ
  have hko:ops[k]? =some o:=by
   have:(ops.toList.drop k)[0]? =some o:=by rw[hk];rfl
   rw[List.getElem?_drop] at this
   simpa using this
  have hmem:o∈ops.toList:=by
   have:=Array.getElem?_eq_some_iff.1 hko
   obtain ⟨hlt,rfl⟩:=this
   simp
  have hkr:ops.toList.drop (k+1)=r:=by
   rw[← List.drop_drop,hk];rfl
  simp only[List.length_cons,List.range'_succ,wpOpsIn,hko]
  simp only[rQ] at h
  obtain ⟨l',hT',⟨hw,h⟩ | ⟨hw,h⟩⟩:=sI hT h
  ·rw[if_pos hw]
   obtain ⟨hnd,hok⟩:=gW hY hΓ hF hI hT' h
   refine hok.wpIn hF hnd ?_
   rintro v w' ⟨s,H',loc',ver',hk',hI',hr',hx'⟩
   obtain ⟨l'',hk'',hT''⟩:=(hT'.ext hx').any o.dst hk' hr'
   refine ih (k+1) hkr hI' hT'' hk'' ?_
   intro l3 H3 loc3 ver3 a3 w3 h3 hI3 hT3 hx3 hs3 hd3
   refine hQ l3 H3 loc3 ver3 a3 w3 h3 hI3 hT3 (hx'.trans hx3) ((Same.put a o.dst v fun t ht=>oE hmem ht).trans hs3) (hd3.trans ?_)
   cases o.dst<;>rfl
  ·rw[if_neg (by rw[hw];simp)]
   refine ⟨fun f _=>hF.fn f,?_⟩
   obtain ⟨l'',hk'',hT''⟩:=hT'.any o.dst h (.tup [] [] .nil)
   refine ih (k+1) hkr hI hT'' hk'' ?_
   intro l3 H3 loc3 ver3 a3 w3 h3 hI3 hT3 hx3 hs3 hd3
   refine hQ l3 H3 loc3 ver3 a3 w3 h3 hI3 hT3 hx3 ((Same.put a o.dst undef fun t ht=>oE hmem ht).trans hs3) (hd3.trans ?_)
   cases o.dst<;>rfl
def qW (D:Nat):Deferred:={ target:=.collected D,args:= #[] }
def Marked (E E':Env) (ds ds':List Deferred):Prop:=
 ∃Ds:List Nat,ds'=Ds.map qW++ds∧Ds.Nodup∧∀D∈Ds,E.w.heap.size≤D∧¬E'.ali D∧E'.w.heap[D]? =some (.deferred (some []))
theorem Marked.refl (E E':Env) (ds:List Deferred):Marked E E' ds ds:=⟨[],rfl,List.nodup_nil,fun _ h=>by cases h⟩
theorem Marked.ext {O:List Nat} {E E' E'':Env} {ds ds':List Deferred} (h:Marked E E' ds ds') (x:ExtO O E' E''):Marked E E'' ds ds':=by
 obtain ⟨Ds,h1,h2,h3⟩:=h
 refine ⟨Ds,h1,h2,fun D hD=>?_⟩
 obtain ⟨h4,h5,h6⟩:=h3 D hD
 refine ⟨h4,fun h=>?_,x.keep D _ h5 h6 rfl⟩
 rcases x.ali D h with h7 | h7
 ·exact h5 h7
 ·have:=(Array.getElem?_eq_some_iff.1 h6).1;omega
theorem Marked.trans {O:List Nat} {E E' E'':Env} {ds ds' ds'':List Deferred} (h:Marked E E' ds ds') (hs:E.w.heap.size≤E'.w.heap.size) (x:ExtO O E' E'') (k:Marked E' E'' ds' ds''):Marked E E'' ds ds'':=by
 obtain ⟨Es,k1,k2,k3⟩:=k
 obtain ⟨Ds,h1,h2,h3⟩:=h
 have hx:=Marked.ext ⟨Ds,rfl,h2,h3⟩ x (ds:=ds)
 obtain ⟨Ds',e1,e2,e3⟩:=hx
 refine ⟨Es++Ds,by rw[k1,h1];simp,?_,fun D hD=>?_⟩
 ·rw[List.nodup_append]
  refine ⟨k2,h2,fun a ha b hb e=>?_⟩
  subst e
  have h4:=(k3 a ha).1
  have h5:=(h3 a hb).2.2
  have:=(Array.getElem?_eq_some_iff.1 h5).1;omega
 ·rcases List.mem_append.1 hD with hD | hD
  ·obtain ⟨h4,h5⟩:=k3 D hD
   exact ⟨Nat.le_trans hs h4,h5⟩
  ·obtain ⟨h4,h5,h6⟩:=h3 D hD
   refine ⟨h4,fun h=>?_,x.keep D _ h5 h6 rfl⟩
   rcases x.ali D h with h7 | h7
   ·exact h5 h7
   ·have:=(Array.getElem?_eq_some_iff.1 h6).1;omega
theorem Marked.of_eq {E E':Env} {ds ds':List Deferred} (h:ds'=ds):Marked E E' ds ds':=by subst h;exact .refl _ _ _
def RoundOK (F:Fence) (E:Env):Prop:=∀l,F.round=some l→¬E.ali l∧∃r,E.w.heap[l]? =some (.loop r)
theorem RoundOK.ext {F:Fence} {O:List Nat} {E E':Env} (h:RoundOK F E) (x:ExtO O E E'):RoundOK F E':=fun l hl=>by
 obtain ⟨h1,r,h2⟩:=h l hl
 refine ⟨fun h=>?_,r,x.keep l _ h1 h2 rfl⟩
 rcases x.ali l h with h7 | h7
 ·exact h1 h7
 ·have:=(Array.getElem?_eq_some_iff.1 h2).1;omega
def After (G:Ctx) (N:Nat) (ws D:List Nat) (K:Exit→List (Nat × SV)→List HO→Prop) (E:Env) (a:Act) (e:Exit) (a':Act) (w':World):Prop:=
 ∃l' H' loc' ver',K e l' H'∧Inv G H' loc' ver' w'∧TRel (envOf G H' loc' ver' w') N l' a'∧ExtO D E (envOf G H' loc' ver' w')∧Same ws a a'∧Marked E (envOf G H' loc' ver' w') a.defers a'.defers
theorem After.mono {ws ws' D D':List Nat} {K K':Exit→List (Nat × SV)→List HO→Prop} {E:Env} {a:Act} {e:Exit} {a':Act} {w':World} (h:After G N ws D K E a e a' w') (hw:∀n,mem n ws=true→mem n ws'=true) (hd:∀n,mem n D=true→mem n D'=true) (hk:∀l H,K e l H→K' e l H):After G N ws' D' K' E a e a' w':=
 let ⟨l',H',loc',ver',h1,h2,h3,h4,h5,h6⟩:=h
 ⟨l',H',loc',ver',hk _ _ h1,h2,h3,h4.mono hd,h5.mono hw,h6⟩
theorem After.trans {ws D:List Nat} {K:Exit→List (Nat × SV)→List HO→Prop} {E E':Env} {a a' a'':Act} {e:Exit} {w'':World} (hx:ExtO D E E') (hs:Same ws a a') (hd:Marked E E' a.defers a'.defers) (h:After G N ws D K E' a' e a'' w''):After G N ws D K E a e a'' w'':=
 let ⟨l',H',loc',ver',h1,h2,h3,h4,h5,h6⟩:=h
 ⟨l',H',loc',ver',h1,h2,h3,hx.trans h4,hs.trans h5,hd.trans hx.size h4 h6⟩
def Cb (P:Program) (G:Ctx) (N:Nat) (Γ:List Con) (A:Anns) (key:Nat) (c:Code):Prop:=
 ∀ {F:Fence} {n:Nat},Opn F→∀ {H:List HO} {loc:Nat→Loc} {ver:Nat→Nat} {w:World} {l:List (Nat × SV)} {a:Act} {K:Exit→List (Nat × SV)→List HO→Prop},
  Inv G H loc ver w→TRel (envOf G H loc ver w) N l a→RoundOK F (envOf G H loc ver w)→exec P Γ N A key c l H K→c.wpIn F n P (After G N (bO c) (aS A key c) K (envOf G H loc ver w) a) a w
theorem nO (a b:List Nat) (n:Nat) (h:mem n a=true):mem n (a++b)=true:=by rw[mem_append,h];rfl
theorem vL (a b:List Nat) (n:Nat) (h:mem n b=true):mem n (a++b)=true:=by rw[mem_append,h];simp
end
end Go.Eng
end
section
namespace Go.Eng
open Go.RowKit
section
variable {P:Program} {G:Ctx} {N:Nat} {H:List HO} {loc:Nat→Loc} {ver:Nat→Nat} {w:World}
theorem alien (hI:Inv G H loc ver w) {h:Nat} (hg:H[h]? =some .gone) {w':World} (hos:w'.os=w.os) (htp:w'.tape=w.tape) (hout:w'.output=w.output) (hsz:w.heap.size≤w'.heap.size) (al':Nat→Prop)
  (hal:∀b,al' b→(loc h).al b∨(w.heap.size≤b∧b<w'.heap.size)) (hblk:∀b,b<w.heap.size→¬(loc h).al b→w'.heap[b]? =w.heap[b]?):
  Inv G H (upd loc h { loc h with al:=al' }) (upd ver h (ver h+1)) w'∧Ext0 (envOf G H loc ver w) (envOf G H (upd loc h { loc h with al:=al' }) (upd ver h (ver h+1)) w'):=by
 have hO:=hI.objs h _ hg
 refine hI.turn0 h (Nat.le_refl _) (fun k hk=>⟨rfl,aT _ _ _ hk,aT _ _ _ hk⟩) (fun h=>h) (fun _=>.inr ⟨hO.1,by rw[aG];omega⟩) hsz hos htp hout (fun b hb hno=>hblk b hb (hno _ hg)) ?_ ?_ ?_
 ·intro o' b ho' hb
  rw[hg] at ho';cases ho'
  rw[aG] at hb
  rcases hal b hb with h1 | h1
  ·exact .inl ⟨_,hg,h1⟩
  ·exact .inr h1.1
 ·intro st n it b hy
  rw[hg] at hy;cases hy
 ·intro hx o' ho'
  rw[hg] at ho';cases ho'
  rw[aG,aG]
  refine ⟨Nat.succ_pos _,fun b hb=>?_⟩
  rcases hal b hb with h1 | h1
  ·exact Nat.lt_of_lt_of_le (hO.2 b h1) hsz
  ·exact h1.2
theorem ExtO.alien {O:List Nat} {E0:Env} {H2:List HO} {loc':Nat→Loc} {ver':Nat→Nat} {w':World} {h:Nat} (hx:ExtO O E0 (envOf G H loc ver w)) (hx0:Ext0 (envOf G H loc ver w) (envOf G H2 loc' ver' w')) (hn:∀nm,E0.has nm=true→nm<h)
  (hlow:∀b,b<E0.w.heap.size→w'.heap[b]? =w.heap[b]?) (hg0:∀nm b,E0.gho nm b→E0.has nm=true∧b<E0.w.heap.size) (hloc:∀nm,nm<h→H2[nm]? =H[nm]? ∧loc' nm=loc nm):ExtO O E0 (envOf G H2 loc' ver' w'):=by
 refine ⟨fun b ho=>(hx0.blk b (hx.ok b ho)).trans (hx.blk b ho),fun b hb=>hx0.ok b (hx.ok b hb),fun nm hn=>hx0.num nm (hx.num nm hn),fun nm hn hm=>?_,Nat.le_trans hx.size hx0.size,fun k o hna hk ho=>?_,fun nm b hb=>?_,fun nm b hn' hb=>?_,fun b hb=>?_,hx0.itr.trans hx.itr,fun nm hn hm he=>?_⟩
 ·rcases hx.ver nm hn hm with ⟨e1,e2⟩ | ⟨e1,e2⟩
  ·rcases hx0.ver nm (hx.num nm hn) with ⟨e3,e4⟩ | ⟨e3,e4⟩
   ·exact .inl ⟨e3.trans e1,e4.trans e2⟩
   ·exact .inr ⟨by omega,by omega⟩
  ·rcases hx0.ver nm (hx.num nm hn) with ⟨e3,e4⟩ | ⟨e3,e4⟩
   ·exact .inr ⟨e1,by omega⟩
   ·exact .inr ⟨e1,by omega⟩
 ·exact (hlow k (Array.getElem?_eq_some_iff.1 hk).1).trans (hx.keep k o hna hk ho)
 ·obtain ⟨h1,h2⟩:=hx.gho nm b hb
  obtain ⟨h3,h4⟩:=hg0 nm b hb
  exact ⟨⟨by rw[(hloc nm (hn nm h3)).1];exact h1.1,by rw[(hloc nm (hn nm h3)).2];exact h1.2⟩,(hlow b h4).trans h2⟩
 ·exact hx.gho' nm b hn' ⟨by rw[← (hloc nm (hn nm hn')).1];exact hb.1,by rw[← (hloc nm (hn nm hn')).2];exact hb.2⟩
 ·rcases hx0.ali b hb with h1 | h1
  ·exact hx.ali b h1
  ·exact .inr (Nat.le_trans hx.size h1)
 ·have h1:=hx.ver nm hn hm
  have h2:=hx0.ver nm (hx.num nm hn)
  have e1:(envOf G H loc ver w).ver nm=E0.ver nm:=by
   rcases h1 with ⟨q1,_⟩ | ⟨q1,q2⟩
   ·exact q1
   ·rcases h2 with ⟨q3,_⟩ | ⟨q3,q4⟩<;>omega
  rcases hx.sub nm hn hm e1 with q1 | q1
  ·rcases hx0.sub nm (hx.num nm hn) (by omega) with q2 | q2
   ·exact .inl (q2.trans q1)
   ·rw[q1] at q2;exact .inr q2
  ·rcases hx0.sub nm (hx.num nm hn) (by omega) with q2 | q2
   ·rw[q2];exact .inr q1
   ·exact .inr (Nat.lt_trans q1 q2)
theorem Reads.cells {w:World} {M:Nat→Prop} {t:Ty} {x:t.T} {cs:List Value} (h:Reads w M t x cs):Reads w (fun b=>M b∧∃c e f,w.heap[b]? =some (.cells c e f)) t x cs:=by
 induction t generalizing cs with
 | int k=>exact h
 | bool=>exact h
 | str=>exact h
 | pair a b iha ihb=>obtain ⟨c1,c2,e,h1,h2⟩:=h;exact ⟨c1,c2,e,iha h1,ihb h2⟩
 | slice t ih=>
  obtain ⟨a,n,c,e,hn,hnc,hm,hall⟩:=h
  refine ⟨a,n,c,e,hn,hnc,hm,fun h0=>?_⟩
  obtain ⟨b,off,ha,hb,hi⟩:=hall h0
  refine ⟨b,off,ha,⟨hb,?_⟩,fun i hlt=>?_⟩
  ·obtain ⟨es,h1,h2,_⟩:=hi 0 h0
   have hp:=t.size_pos
   have h3:es[0]? =some (es.getD 0 undef):=by
    rw[List.getD_eq_getElem?_getD,List.getElem?_eq_getElem (by omega)];rfl
   have h4:=h2 0 _ h3
   unfold World.cell? at h4
   split at h4
   ·rename_i c e f hx;exact ⟨_,_,_,hx⟩
   ·cases h4
  ·obtain ⟨es,h1,h2,h3⟩:=hi i hlt
   exact ⟨es,h1,h2,ih h3⟩
theorem Inv.recast (hI:Inv G H loc ver w) {H2:List HO} {loc2:Nat→Loc} {ver2:Nat→Nat}
  (hown:∀b,Owned H2 loc2 b↔Owned H loc b) (hsep:∀nm nm' o o' b,H2[nm]? =some o→H2[nm']? =some o'→Owns (loc2 nm) o b→Owns (loc2 nm') o' b→nm=nm')
  (hobj:∀nm o,H2[nm]? =some o→OSat (envOf G H loc ver w) (loc2 nm) (ver2 nm) o) (hhas:∀nm,hasB H nm=true→hasB H2 nm=true)
  (hver:∀nm,hasB H nm=true→ver2 nm=ver nm∧(loc2 nm).toCore=(loc nm).toCore∧(loc2 nm).sub=(loc nm).sub) (hali:∀b,aliN H2 loc2 b→aliN H loc b):
  Inv G H2 loc2 ver2 w∧Ext0 (envOf G H loc ver w) (envOf G H2 loc2 ver2 w):=by
 have hx:Ext0 (envOf G H loc ver w) (envOf G H2 loc2 ver2 w):=
  ⟨fun _ _=>rfl,fun b hb=>⟨hb.1,hb.2.1,fun h=>hb.2.2 ((hown b).1 h)⟩,hhas,fun nm hn=>.inl ⟨(hver nm hn).1,(hver nm hn).2.1⟩,rfl,rfl,rfl,Nat.le_refl _,fun b hb=>.inl (hali b hb),rfl,fun nm hn _=>.inl (hver nm hn).2.2⟩
 exact ⟨⟨hI.size,hI.os,hI.tape,hI.output,hI.frame,fun nm o ho=>(hobj nm o ho).ext hx fun _ _=>rfl,fun b hb=>hI.own b ((hown b).1 hb),hsep⟩,hx⟩
structure Vs (m:Nat) (E E':Env):Prop where
 has:E.has m=true→E'.has m=true
 ver:E.has m=true→(E'.ver m=E.ver m∧((E'.loc m).sub=(E.loc m).sub∨(E.loc m).sub.v<(E'.loc m).sub.v))∨E.ver m<E'.ver m
theorem Vs.trans {m:Nat} {A B C:Env} (h:Vs m A B) (k:Vs m B C):Vs m A C:=by
 refine ⟨fun hn=>k.has (h.has hn),fun hn=>?_⟩
 rcases h.ver hn with ⟨h1,h2⟩ | h1<;>rcases k.ver (h.has hn) with ⟨h3,h4⟩ | h3
 ·refine .inl ⟨h3.trans h1,?_⟩
  rcases h2 with h2 | h2
  ·rw[← h2];exact h4
  ·rcases h4 with h4 | h4
   ·rw[h4];exact .inr h2
   ·exact .inr (Nat.lt_trans h2 h4)
 ·exact .inr (by omega)
 ·exact .inr (by omega)
 ·exact .inr (by omega)
theorem Ext0.vs {E E':Env} (x:Ext0 E E') (m:Nat):Vs m E E':=⟨x.num m,fun hn=>by
 rcases x.ver m hn with ⟨h1,_⟩ | ⟨_,h1⟩
 ·exact .inl ⟨h1,x.sub m hn h1⟩
 ·exact .inr h1⟩
theorem ExtO.vs {D:List Nat} {E E':Env} (x:ExtO D E E') {m:Nat} (hm:mem m D=false):Vs m E E':=⟨x.num m,fun hn=>by
 rcases x.ver m hn hm with ⟨h1,_⟩ | ⟨_,h1⟩
 ·exact .inl ⟨h1,x.sub m hn hm h1⟩
 ·exact .inr h1⟩
theorem Cd {E E':Env}:∀ {l:List SV} {vs:List Value},RelL E l vs→RelL E' (l.map Gn) vs
 | _,_,.nil=>.nil
 | _,_,.cons _ _ _ _ h hl=>.cons _ _ _ _ (Bw h) (Cd hl)
theorem Ma (hI:Inv G H loc ver w) {h:Nat} (hg:H[h]? =some .gone) (hh:H.length=h+1) {M:Nat→Prop} (hM:∀b,M b→(loc h).al b) {vs:List SV} {us:List Value} (hu:RelL (env0 w M) vs us):
  ∃(S:Nat→Option Obj) (loc0:Nat→Loc) (ver0:Nat→Nat),Inv G (H++lntH vs) loc0 ver0 w∧Ext0 (envOf G H loc ver w) (envOf G (H++lntH vs) loc0 ver0 w)∧RelL (envOf G (H++lntH vs) loc0 ver0 w) (lntV (h+1) vs) us∧(H++lntH vs)[h]? =some .gone∧
   (∀nm,nm<h→(H++lntH vs)[nm]? =H[nm]? ∧loc0 nm=loc nm)∧(∀b,(loc h).al b→S b=none→(loc0 h).al b)∧(∀b,(loc0 h).al b→(loc h).al b)∧(∀b o,S b=some o→M b∧w.heap[b]? =some o)∧
   ∀(D:List Nat) (H3:List HO) (loc3:Nat→Loc) (ver3:Nat→Nat) (w3:World),Inv G H3 loc3 ver3 w3→H3[h]? =some .gone→Oj vs (h+1) D H3=true→
    (mem (h+1) D=false→Vs (h+1) (envOf G (H++lntH vs) loc0 ver0 w) (envOf G H3 loc3 ver3 w3))→
    ∃loc4,Inv G (lntX vs (h+1) H3) loc4 ver3 w3∧Ext0 (envOf G H3 loc3 ver3 w3) (envOf G (lntX vs (h+1) H3) loc4 ver3 w3)∧(lntX vs (h+1) H3)[h]? =some .gone∧(∀nm,nm<h→(lntX vs (h+1) H3)[nm]? =H3[nm]? ∧loc4 nm=loc3 nm)∧
     (∀b,(loc3 h).al b→(loc4 h).al b)∧(∀b o,S b=some o→(loc4 h).al b∧w3.heap[b]? =some o)∧(∀b,(loc4 h).al b→(loc3 h).al b∨M b):=by
 have other:(∀t xs,vs≠ [.seq t xs])→lntH vs= []∧(∀n,lntV n vs=vs.map Gn)∧∀n H,lntX vs n H=H:=by
  intro hne
  refine ⟨?_,fun n=>?_,fun n H=>?_⟩
  ·unfold lntH;split
   ·rename_i t xs;exact (hne t xs rfl).elim
   ·rfl
  ·unfold lntV;split
   ·rename_i t xs;exact (hne t xs rfl).elim
   ·rfl
  ·unfold lntX;split
   ·rename_i t xs;exact (hne t xs rfl).elim
   ·rfl
 by_cases hs:∃t xs,vs= [.seq t xs]
 case neg=>
  obtain ⟨e1,e2,e3⟩:=other fun t xs e=>hs ⟨t,xs,e⟩
  refine ⟨fun _=>none,loc,ver,?_⟩
  rw[e1,e2,List.append_nil]
  refine ⟨hI,(Ext.refl _).toExt0,Cd hu,hg,fun nm _=>⟨rfl,rfl⟩,fun b hb _=>hb,fun b hb=>hb,(fun b o hb=>by cases hb),fun D H3 loc3 ver3 w3 hI3 hg3 _ _=>?_⟩
  rw[e3]
  exact ⟨loc3,hI3,(Ext.refl _).toExt0,hg3,fun nm _=>⟨rfl,rfl⟩,fun b hb=>hb,(fun b o hb=>by cases hb),fun b hb=>.inl hb⟩
 obtain ⟨t,xs,rfl⟩:=hs
 obtain ⟨u,rfl,hu1⟩:∃u,us= [u]∧Rel (env0 w M) (.seq t xs) u:=by
  cases hu with
  | cons _ u _ _ h1 h2=>cases h2;exact ⟨u,rfl,h1⟩
 have hrd:Reads w M (.slice t) xs [u]:=by
  cases hu1 with
  | seq _ _ _ hr=>exact hr
 obtain ⟨S,hS⟩:∃S:Nat→Option Obj,∀b,(∀o,S b=some o→M b∧isBook o=false∧w.heap[b]? =some o)∧(M b→(∃c e f,w.heap[b]? =some (.cells c e f))→∃o,S b=some o):=by
  classical
  refine ⟨fun b=>if M b∧∃c e f,w.heap[b]? =some (.cells c e f) then w.heap[b]? else none,fun b=>⟨fun o ho=>?_,fun h1 h2=>?_⟩⟩
  ·dsimp only at ho
   split at ho
   ·rename_i h1
    obtain ⟨h2,c,e,f,h3⟩:=h1
    rw[h3] at ho;cases ho
    exact ⟨h2,rfl,h3⟩
   ·cases ho
  ·obtain ⟨c,e,f,h3⟩:=h2
   exact ⟨_,(if_pos ⟨h1,c,e,f,h3⟩).trans h3⟩
 have hO:=hI.objs h _ hg
 have hne:h≠H.length:=by omega
 have hlnt:lntH [.seq t xs]= [.lnt 1 t xs]:=rfl
 obtain ⟨loc0,hloc0⟩:∃loc0:Nat→Loc,loc0=upd (upd loc h { loc h with al:=fun b=>(loc h).al b∧S b=none }) H.length ⟨⟨none,0,0⟩,fun _=>False,⟨0,fun _=>.slice none 0 0,u,S⟩⟩:=⟨_,rfl⟩
 have l1:loc0 H.length= ⟨⟨none,0,0⟩,fun _=>False,⟨0,fun _=>.slice none 0 0,u,S⟩⟩:=by rw[hloc0,aG]
 have l2:loc0 h= { loc h with al:=fun b=>(loc h).al b∧S b=none }:=by rw[hloc0,aT _ _ _ hne,aG]
 have l3:∀nm,nm≠H.length→nm≠h→loc0 nm=loc nm:=fun nm h1 h2=>by rw[hloc0,aT _ _ _ h1,aT _ _ _ h2]
 have hold:∀ {nm:Nat} {o:HO},(H++ [.lnt 1 t xs])[nm]? =some o→(nm=H.length∧o= .lnt 1 t xs)∨(nm≠H.length∧H[nm]? =some o):=by
  intro nm o ho
  by_cases e:nm=H.length
  ·subst e;rw[bT] at ho;cases ho;exact .inl ⟨rfl,rfl⟩
  ·rw[cD e] at ho;exact .inr ⟨e,ho⟩
 have hto:∀ {nm:Nat} {o:HO} {b:Nat},nm≠H.length→H[nm]? =some o→Owns (loc0 nm) o b→Owns (loc nm) o b∧(nm=h→S b=none):=by
  intro nm o b e ho hb
  by_cases e2:nm=h
  ·subst e2
   rw[hg] at ho;cases ho
   rw[l2] at hb
   exact ⟨hb.1,fun _=>hb.2⟩
  ·rw[l3 nm e e2] at hb
   exact ⟨hb,fun e=>(e2 e).elim⟩
 have hr:=hI.recast (H2:=H++ [.lnt 1 t xs]) (loc2:=loc0) (ver2:=upd ver H.length 1) (fun b=>⟨?_,?_⟩) ?_ ?_ ?_ ?_ ?_
 ·obtain ⟨hI0,hx0⟩:=hr
  refine ⟨S,loc0,upd ver H.length 1,?_⟩
  rw[hlnt]
  refine ⟨hI0,hx0,.cons _ _ _ _ ?_ .nil,by rw[cD hne];exact hg,fun nm hlt=>⟨cD (by omega),l3 nm (by omega) (by omega)⟩,fun b h1 h2=>by rw[l2];exact ⟨h1,h2⟩,fun b hb=>by rw[l2] at hb;exact hb.1,fun b o hb=>⟨((hS b).1 o hb).1,((hS b).1 o hb).2.2⟩,?_⟩
  ·rw[← hh]
   exact .subp _ _ _ _ (by exact eC rfl) Nat.one_pos (by simp[envOf,aG]) (fun _=>Nat.zero_le _) fun _ _=>by simp only[envOf];rw[l1]
  intro D H3 loc3 ver3 w3 hI3 hg3 hok hvs
  rw[← hh] at hok hvs ⊢
  have hok':(Ha (hget H3 H.length)&& !mem H.length D)=true:=hok
  simp only[Bool.and_eq_true] at hok'
  have hmD:mem H.length D=false:=by simpa using hok'.2
  obtain ⟨t',ys,hl3⟩:∃t' ys,hget H3 H.length= .lnt 1 t' ys:=by
   have h1:=hok'.1
   unfold Ha at h1
   split at h1
   ·rename_i t' ys e;exact ⟨t',ys,e⟩
   ·cases h1
  have hl3':=aC hl3 (by simp)
  obtain ⟨q1,q2,q3,q4,q5⟩:=hI3.objs _ _ hl3'
  have hsub:(loc3 H.length).sub=(loc0 H.length).sub:=by
   rcases (hvs hmD).ver (by exact eC rfl) with ⟨h1,h2⟩ | h1
   ·rcases h2 with h2 | h2
    ·exact h2
    ·have h3:(loc0 H.length).sub.v<(loc3 H.length).sub.v:=h2
     omega
   ·have h3:(upd ver H.length 1) H.length<ver3 H.length:=h1
    rw[aG] at h3;omega
  have hsnap:(loc3 H.length).sub.snap=S:=by rw[hsub,l1]
  have hne3:h≠H.length:=hne
  obtain ⟨loc4,hloc4⟩:∃loc4:Nat→Loc,loc4=upd loc3 h { loc3 h with al:=fun b=>(loc3 h).al b∨∃o,S b=some o }:=⟨_,rfl⟩
  have k1:loc4 h= { loc3 h with al:=fun b=>(loc3 h).al b∨∃o,S b=some o }:=by rw[hloc4,aG]
  have k2:∀nm,nm≠h→loc4 nm=loc3 nm:=fun nm e=>by rw[hloc4,aT _ _ _ e]
  have hlt3:H.length<H3.length:=(List.getElem?_eq_some_iff.1 hl3').1
  have hX:lntX [.seq t xs] H.length H3=H3.set H.length .dead:=rfl
  have hg4:(H3.set H.length .dead)[h]? =some .gone:=by rw[aK hne3];exact hg3
  have hS3:∀b o,S b=some o→w3.heap[b]? =some o:=fun b o hb=>(q4 b o (by rw[hsnap];exact hb)).2
  have hgone3:=hI3.objs h _ hg3
  have hold3:∀ {nm:Nat} {o:HO},(H3.set H.length .dead)[nm]? =some o→(nm=H.length∧o= .dead)∨(nm≠H.length∧H3[nm]? =some o):=by
   intro nm o ho
   by_cases e:nm=H.length
   ·subst e;rw[aB hlt3] at ho;cases ho;exact .inl ⟨rfl,rfl⟩
   ·rw[aK e] at ho;exact .inr ⟨e,ho⟩
  have hr4:=hI3.recast (H2:=H3.set H.length .dead) (loc2:=loc4) (ver2:=ver3) (fun b=>⟨?_,?_⟩) ?_ ?_ ?_ ?_ ?_
  ·rw[hX]
   refine ⟨loc4,hr4.1,hr4.2,hg4,fun nm hlt=>⟨aK (by omega),k2 nm (by omega)⟩,fun b hb=>by rw[k1];exact .inl hb,fun b o hb=>⟨by rw[k1];exact .inr ⟨o,hb⟩,hS3 b o hb⟩,fun b hb=>?_⟩
   rw[k1] at hb
   rcases hb with hb | ⟨o,hb⟩
   ·exact .inl hb
   ·exact .inr ((hS b).1 o hb).1
  ·rintro ⟨nm,o,ho,hb⟩
   rcases hold3 ho with ⟨rfl,rfl⟩ | ⟨e,ho⟩
   ·cases hb
   ·by_cases e2:nm=h
    ·subst e2
     rw[hg3] at ho;cases ho
     rw[k1] at hb
     rcases hb with hb | ⟨x,hb⟩
     ·exact ⟨_,_,hg3,hb⟩
     ·exact ⟨H.length,_,hl3',⟨x,by rw[hsnap];exact hb⟩⟩
    ·rw[k2 nm e2] at hb;exact ⟨nm,o,ho,hb⟩
  ·rintro ⟨nm,o,ho,hb⟩
   by_cases e:nm=H.length
   ·subst e
    rw[hl3'] at ho;cases ho
    obtain ⟨x,hb⟩:=hb
    rw[hsnap] at hb
    exact ⟨h,_,hg4,by rw[k1];exact .inr ⟨x,hb⟩⟩
   ·by_cases e2:nm=h
    ·subst e2
     rw[hg3] at ho;cases ho
     exact ⟨nm,_,hg4,by rw[k1];exact .inl hb⟩
    ·exact ⟨nm,o,by rw[aK e];exact ho,by rw[k2 nm e2];exact hb⟩
  ·have key:∀ {nm o b},(H3.set H.length .dead)[nm]? =some o→Owns (loc4 nm) o b→(nm≠h∧H3[nm]? =some o∧Owns (loc3 nm) o b∧nm≠H.length)∨(nm=h∧((loc3 h).al b∨∃x,S b=some x)):=by
    intro nm o b ho hb
    rcases hold3 ho with ⟨rfl,rfl⟩ | ⟨e,ho⟩
    ·cases hb
    ·by_cases e2:nm=h
     ·subst e2
      rw[hg3] at ho;cases ho
      rw[k1] at hb
      exact .inr ⟨rfl,hb⟩
     ·rw[k2 nm e2] at hb;exact .inl ⟨e2,ho,hb,e⟩
   have key2:∀ {nm o b},nm≠h→H3[nm]? =some o→Owns (loc3 nm) o b→nm≠H.length→((loc3 h).al b∨∃x,S b=some x)→False:=by
    intro nm o b e1 ho hb e2 hor
    rcases hor with hor | ⟨x,hor⟩
    ·exact e1 (hI3.sep nm h _ _ b ho hg3 hb hor)
    ·exact e2 (hI3.sep nm H.length _ _ b ho hl3' hb ⟨x,by rw[hsnap];exact hor⟩)
   intro nm nm' o o' b ho ho' hb hb'
   rcases key ho hb with ⟨e1,h1,h2,h3⟩ | ⟨e1,h1⟩<;>rcases key ho' hb' with ⟨e2,h4,h5,h6⟩ | ⟨e2,h4⟩
   ·exact hI3.sep nm nm' _ _ b h1 h4 h2 h5
   ·exact (key2 e1 h1 h2 h3 h4).elim
   ·exact (key2 e2 h4 h5 h6 h1).elim
   ·rw[e1,e2]
  ·intro nm o ho
   rcases hold3 ho with ⟨rfl,rfl⟩ | ⟨e,ho⟩
   ·trivial
   ·by_cases e2:nm=h
    ·subst e2
     rw[hg3] at ho;cases ho
     rw[k1]
     refine ⟨hgone3.1,fun b hb=>?_⟩
     rcases hb with hb | ⟨x,hb⟩
     ·exact hgone3.2 b hb
     ·exact (Array.getElem?_eq_some_iff.1 (hS3 b x hb)).1
    ·rw[k2 nm e2];exact hI3.objs nm o ho
  ·intro nm hn
   by_cases e:nm=H.length
   ·subst e;exact bA (aB hlt3) rfl
   ·exact qS (aK e) hn
  ·intro nm hn
   by_cases e:nm=h
   ·subst e;rw[k1];exact ⟨rfl,rfl,rfl⟩
   ·rw[k2 nm e];exact ⟨rfl,rfl,rfl⟩
  ·rintro b ⟨nm,st,n,it,ho,hb⟩
   rcases hold3 ho with ⟨rfl,e⟩ | ⟨e,ho⟩
   ·cases e
   ·have e2:nm≠h:=fun e2=>by subst e2;rw[hg3] at ho;cases ho
    rw[k2 nm e2] at hb
    exact ⟨nm,st,n,it,ho,hb⟩
 ·rintro ⟨nm,o,ho,hb⟩
  rcases hold ho with ⟨rfl,rfl⟩ | ⟨e,ho⟩
  ·obtain ⟨x,hb⟩:=hb
   rw[l1] at hb
   exact ⟨h,_,hg,hM b ((hS b).1 x hb).1⟩
  ·exact ⟨nm,o,ho,(hto e ho hb).1⟩
 ·rintro ⟨nm,o,ho,hb⟩
  have e:nm≠H.length:=fun e=>by have:=(List.getElem?_eq_some_iff.1 ho).1;omega
  by_cases e2:nm=h
  ·subst e2
   rw[hg] at ho;cases ho
   cases hs:S b with
   | none=>exact ⟨nm,_,by rw[cD e];exact hg,by rw[l2];exact ⟨hb,hs⟩⟩
   | some x=>exact ⟨H.length,_,bT,⟨x,by rw[l1];exact hs⟩⟩
  ·exact ⟨nm,o,by rw[cD e];exact ho,by rw[l3 nm e e2];exact hb⟩
 ·have key:∀ {nm o b},nm≠H.length→H[nm]? =some o→Owns (loc0 nm) o b→Owns (loc0 H.length) (.lnt 1 t xs) b→False:=by
   intro nm o b e ho hb hb'
   obtain ⟨x,hb'⟩:=hb'
   rw[l1] at hb'
   have hb':S b=some x:=hb'
   obtain ⟨h1,h2⟩:=hto e ho hb
   have h3:=hI.sep nm h _ _ b ho hg h1 (hM b ((hS b).1 x hb').1)
   rw[h2 h3] at hb';cases hb'
  intro nm nm' o o' b ho ho' hb hb'
  rcases hold ho with ⟨rfl,rfl⟩ | ⟨e,ho⟩<;>rcases hold ho' with ⟨rfl,rfl⟩ | ⟨e',ho'⟩
  ·rfl
  ·exact (key e' ho' hb' hb).elim
  ·exact (key e ho hb hb').elim
  ·exact hI.sep nm nm' _ _ b ho ho' (hto e ho hb).1 (hto e' ho' hb').1
 ·intro nm o ho
  rcases hold ho with ⟨rfl,rfl⟩ | ⟨e,ho⟩
  ·rw[l1,aG]
   refine ⟨rfl,Nat.one_pos,rfl,fun b o hb=>((hS b).1 o hb).2,hrd.cells.mono (fun _ _ _ h=>h) fun b hb=>(hS b).2 hb.1 hb.2⟩
  ·rw[aT _ _ _ e]
   by_cases e2:nm=h
   ·subst e2
    rw[hg] at ho;cases ho
    rw[l2]
    exact ⟨hO.1,fun b hb=>hO.2 b hb.1⟩
   ·rw[l3 nm e e2];exact hI.objs nm o ho
 ·intro nm hn
  have:=cB hn
  exact qS (cD (by omega)) hn
 ·intro nm hn
  have:=cB hn
  rw[aT _ _ _ (by omega)]
  by_cases e2:nm=h
  ·subst e2;rw[l2];exact ⟨rfl,rfl,rfl⟩
  ·rw[l3 nm (by omega) e2];exact ⟨rfl,rfl,rfl⟩
 ·rintro b ⟨nm,st,n,it,ho,hb⟩
  rcases hold ho with ⟨rfl,e⟩ | ⟨e,ho⟩
  ·cases e
  ·have e2:nm≠h:=fun e2=>by subst e2;rw[hg] at ho;cases ho
   rw[l3 nm e e2] at hb
   exact ⟨nm,st,n,it,ho,hb⟩
theorem qY (T:List HO) (nm:Nat):cC (T++ [.gone]) nm=cC T nm∧bD (hget (T++ [.gone]) nm)=bD (hget T nm):=by
 have:hget (T++ [.gone]) nm=hget T nm∨(hget (T++ [.gone]) nm= .gone∧hget T nm= .dead):=by
  simp only[hget,List.getD_eq_getElem?_getD]
  rcases Nat.lt_trichotomy nm T.length with h | h | h
  ·left;rw[List.getElem?_append_left h]
  ·right;subst h;simp
  ·left;rw[List.getElem?_eq_none (by simp;omega),List.getElem?_eq_none (by omega)]
 rcases this with h | ⟨h1,h2⟩
 ·simp only[cC,h,and_self]
 ·simp only[cC,h1,h2,bD,and_self]
theorem Rp {objs:List Nat} {A A' B B':List HO} (hA:∀nm,cC A' nm=cC A nm∧bD (hget A' nm)=bD (hget A nm)) (hB:∀nm,cC B' nm=cC B nm∧bD (hget B' nm)=bD (hget B nm)) (s:SV):reV objs A' B' s=reV objs A B s:=by
 cases s<;>simp[reV,fun nm=>(hA nm).1,fun nm=>(hA nm).2,fun nm=>(hB nm).1]
theorem qZ {objs:List Nat} {A A' B B':List HO} {n:Nat} (hA:∀nm,cC A' nm=cC A nm∧bD (hget A' nm)=bD (hget A nm)) (hB:∀nm,cC B' nm=cC B nm∧bD (hget B' nm)=bD (hget B nm)):∀ {l l':List SV},entC objs A B n l l'→entC objs A' B' n l l'
 | [],[],_=>trivial
 | x::r,y::r',h=>⟨by rw[Rp hA hB];exact h.1,qZ hA hB h.2⟩
theorem rA {objs:List Nat} {A A' B B':List HO} {n nm:Nat} (hA:∀nm,cC A' nm=cC A nm∧bD (hget A' nm)=bD (hget A nm)) (hB:∀nm,cC B' nm=cC B nm∧bD (hget B' nm)=bD (hget B nm)) {o o':HO} (h:entO objs A B n nm o o'):entO objs A' B' n nm o o':=by
 cases o' with
 | dead=>cases o<;>trivial
 | cells l e=>cases o with
  | cells l' e'=>exact ⟨h.1,qZ hA hB h.2⟩
  | _=>exact h.elim
 | frc l=>cases o with
  | frc l'=>exact qZ hA hB h
  | _=>exact h.elim
 | vec v t xs e=>cases o with
  | vec v' t' xs' e'=>exact h
  | _=>exact h.elim
 | fro v t xs=>cases o with
  | fro v' t' xs'=>exact h
  | _=>exact h.elim
 | gone=>cases o with
  | gone=>exact h
  | _=>exact h.elim
 | qm a b=>cases o with
  | qm a' b'=>exact h
  | _=>exact h.elim
 | frm a b=>cases o with
  | frm a' b'=>exact h
  | _=>exact h.elim
 | yst a b c=>cases o with
  | yst a' b' c'=>exact h
  | _=>exact h.elim
 | lnt a b c=>cases o with
  | lnt a' b' c'=>exact h
  | _=>exact h.elim
 | map a b c=>cases o with
  | map a' b' c'=>exact h
  | _=>exact h.elim
 | mit a b c d=>cases o with
  | mit a' b' c' d'=>exact h
  | _=>exact h.elim
 | res=>cases o<;>exact h.elim
 | vv a b c d p e f=>cases o with
  | vv a' b' c' d' p' e' f'=>exact h
  | _=>exact h.elim
theorem Rq {objs:List Nat} {A B:List HO} {n:Nat} (h:entH objs A B n 0 A B) (hA:A[B.length]? =some .gone) (hm:mem B.length objs=false):EntS objs A (B++ [.gone]) n:=by
 obtain ⟨h1,h2⟩:=fT h
 refine ⟨by have:=(List.getElem?_eq_some_iff.1 hA).1;simp;omega,fun i o ho=>?_⟩
 rcases Nat.lt_trichotomy i B.length with hi | hi | hi
 ·rw[List.getElem?_append_left hi] at ho
  obtain ⟨o',h3,h4⟩:=h2 i o ho
  exact ⟨o',h3,rA (fun _=>⟨rfl,rfl⟩) (qY B) h4⟩
 ·subst hi
  simp at ho;subst ho
  exact ⟨.gone,hA,by rw[Nat.zero_add];exact hm⟩
 ·rw[List.getElem?_eq_none (by simp;omega)] at ho;cases ho
theorem Rr {objs:List Nat} {A B:List HO} {n:Nat} (h:entH objs A B n 0 A B) (hl:B.length=A.length) (hm:mem B.length objs=false):EntS objs (A++ [.gone]) (B++ [.gone]) n:=by
 obtain ⟨h1,h2⟩:=fT h
 refine ⟨by simp;omega,fun i o ho=>?_⟩
 rcases Nat.lt_trichotomy i B.length with hi | hi | hi
 ·rw[List.getElem?_append_left hi] at ho
  obtain ⟨o',h3,h4⟩:=h2 i o ho
  exact ⟨o',by rw[List.getElem?_append_left (by omega)];exact h3,rA (qY A) (qY B) h4⟩
 ·subst hi
  simp at ho;subst ho
  exact ⟨.gone,by rw[hl];simp,by rw[Nat.zero_add];exact hm⟩
 ·rw[List.getElem?_eq_none (by simp;omega)] at ho;cases ho
theorem Ce {E:Env}:∀ {ps:List Nat} {vs:List SV} {us:List Value} {l:List (Nat × SV)} {t:Array Value},t.size=N→(∀k,Rel E (look l k) (t.getD k undef))→RelL E vs us→(∀p∈ps,p<N)→ps.length=vs.length→
  ((ps.zip us).foldl (fun tm (p:Nat × Value)=>tm.setIfInBounds p.1 p.2) t).size=N∧∀k,Rel E (look (Hd ps vs l) k) (((ps.zip us).foldl (fun tm (p:Nat × Value)=>tm.setIfInBounds p.1 p.2) t).getD k undef)
 | [],[],_,l,t,hs,hr,.nil,_,_=>⟨hs,hr⟩
 | p::ps,v::vs,_,l,t,hs,hr,.cons _ u _ us h hl,hp,hlen=>by
  simp only[List.zip_cons_cons,List.foldl_cons,Hd]
  refine Ce (by simp[hs]) (fun k=>?_) hl (fun q hq=>hp q (List.mem_cons_of_mem _ hq)) (by simpa using hlen)
  rw[gD]
  have hlt:p<t.size:=by rw[hs];exact hp p (List.mem_cons_self ..)
  rw[Array.getD_eq_getD_getElem?,Array.getElem?_setIfInBounds]
  by_cases e:k=p
  ·subst e;simp[hlt];exact h
  ·rw[if_neg e,if_neg (fun h=>e h.symm),← Array.getD_eq_getD_getElem?];exact hr k
theorem tY {E:Env}:∀ {vs:List SV} {us:List Value} {C:Prop},RelL E vs us→Hc vs C→C
 | [],_,_,_,h=>h
 | v::vs,_,C,.cons _ u _ us hv hl,h=>by
  unfold Hc at h
  split at h
  ·rename_i heq;cases heq
  ·rename_i k n r heq
   cases heq
   obtain ⟨_,hk⟩:=hv.int_inv
   exact tY hl (Nm h hk)
  ·rename_i heq
   cases heq
   exact tY hl h
def Cf (fn:FuncId) (tmps:Array Value) (ps:Array Tmp) (x y:Code) (d:Nat) (st:LoopState) (pe:Option Code):Loop:={ state:=st,pending:=pe,fn,tmps,params:=ps,assign:=x,body:=y,defers:=d }
theorem Mb {F:Fence} {E:Env} (hr:RoundOK F E) (hE:E.w=w) (fn:FuncId) (tmps:Array Value) (ps:Array Tmp) (x y:Code):
  ∃(l:Nat) (Ds:List Nat) (w1:World) (d:Nat),(Instr.enterLoop fn tmps ps x y F.round).run P w= .ok (l,Ds.map qW) w1∧w1.heap[l]? =some (.loop (Cf fn tmps ps x y d .ready none))∧Below w.heap.size w w1∧w.heap.size≤l∧Ds.Nodup∧
   ∀D∈Ds,w.heap.size≤D∧D≠l∧w1.heap[D]? =some (.deferred (some [])):=by
 subst hE
 cases hF:F.round with
 | none=>
  refine ⟨E.w.heap.size+1,[E.w.heap.size],_,E.w.heap.size,run_enterLoop_outer _ _ _ _ _,?_,?_,by omega,by simp,?_⟩
  ·have:=World.alloc_heap_new (E.w.alloc (.deferred (some []))) (.loop (Cf fn tmps ps x y E.w.heap.size .ready none));rwa [World.size_alloc] at this
  ·exact ((Below.refl _ E.w).alloc (Nat.le_refl _) _).alloc (by simp) _
  ·intro D hD
   simp at hD;subst hD
   exact ⟨Nat.le_refl _,by omega,(Below.heap_alloc _ _ _ (by simp)).trans (World.alloc_heap_new E.w _)⟩
 | some l0=>
  obtain ⟨_,r0,h0⟩:=hr l0 hF
  refine ⟨E.w.heap.size,[],_,r0.defers,run_enterLoop_inner h0 _ _ _ _ _,?_,?_,Nat.le_refl _,List.nodup_nil,fun _ h=>by cases h⟩
  ·exact World.alloc_heap_new E.w _
  ·exact (Below.refl _ E.w).alloc (Nat.le_refl _) _
end
end Go.Eng
end
section
namespace Go.Eng
open Go.RowKit
section
variable {P:Program} {G:Ctx} {N:Nat}
def Io:Exit→Option Code
 | .ret=>some .ret
 | .exit n=>some (.exit n)
 | _=>none
theorem Ip {O ws:List Nat} {E E':Env} {l:List (Nat × SV)} {a:Act} (hT:TRel E N l a) (hx:ExtO O E E'):TRel E' N (base ws O l) a:=by
 refine ⟨hT.size,fun t=>?_⟩
 rcases tV ws O l t with e | ⟨e1,e2,e3⟩
 ·rw[e];exact .any _
 ·rw[e1]
  refine (hT.rel t).move (p:=fun m=> !mem m O) (fun nm hp hlt=>?_) (fun nm hp hn he=>hx.sub nm hn (by simpa using hp) he) (fun _=>hx.itr) hx.keepC hx.ok (pO e3)
  have h2:mem nm O=false:=by simpa using hp
  exact ⟨hx.num nm hlt,hx.ver nm hlt h2⟩
theorem mN {H:List HO} {loc:Nat→Loc} {ver:Nat→Nat} {w:World} (hI:Inv G H loc ver w) {h b:Nat} (hg:H[h]? =some .gone) (hb:(loc h).al b):¬aliN H loc b:=by
 rintro ⟨nm,st,n,it,h1,h2⟩
 have:=hI.sep nm h _ _ b h1 hg h2 hb
 subst this
 rw[hg] at h1;cases h1
theorem Rs {vs:List SV} {n:Nat} {D:List Nat} {H:List HO} (h:Oj vs n D H=true):(∀nm,nm<n→(lntX vs n H)[nm]? =H[nm]?)∧(∀nm,cC (lntX vs n H) nm=cC H nm∧bD (hget (lntX vs n H) nm)=bD (hget H nm))∧(lntX vs n H).length=H.length:=by
 unfold lntX
 split
 ·refine ⟨fun nm hlt=>aK (by omega),fun nm=>?_,by simp[hset]⟩
  have h1:Ha (hget H n)=true:=(and2 h).1
  by_cases e:nm=n
  ·subst e
   have h2:∃t xs,hget H nm= .lnt 1 t xs:=by
    unfold Ha at h1
    split at h1
    ·rename_i t xs e;exact ⟨t,xs,e⟩
    ·cases h1
   obtain ⟨t,xs,h2⟩:=h2
   have h3:=aC h2 (by simp)
   have h4:hget (hset H nm .dead) nm= .dead:=by simp[hget,hset,List.getD_eq_getElem?_getD,(List.getElem?_eq_some_iff.1 h3).1]
   simp only[cC,h2,h4,bD,and_self]
  ·have h4:hget (hset H n .dead) nm=hget H nm:=by
    simp only[hget,hset,List.getD_eq_getElem?_getD]
    rw[aK e]
   simp only[cC,h4,and_self]
 ·exact ⟨fun _ _=>rfl,fun _=>⟨rfl,rfl⟩,rfl⟩
theorem Rt {vs:List SV} {n:Nat} {D:List Nat} {H T:List HO} {objs:List Nat} {m:Nat} (h:Oj vs n D H=true) (hS:EntS objs H T m) (hl:T.length≤n):EntS objs (lntX vs n H) T m:=by
 obtain ⟨h1,h2,h3⟩:=Rs h
 refine ⟨by rw[h3];exact hS.1,fun i o ho=>?_⟩
 obtain ⟨o',h4,h5⟩:=hS.2 i o ho
 have hlt:i<n:=Nat.lt_of_lt_of_le (List.getElem?_eq_some_iff.1 ho).1 hl
 exact ⟨o',by rw[h1 i hlt];exact h4,rA h2 (fun _=>⟨rfl,rfl⟩) h5⟩
def RJ (G:Ctx) (K:Exit→List (Nat × SV)→List HO→Prop) (an:Ann) (OD:List Nat) (H1:List HO) (loc1:Nat→Loc) (ver1:Nat→Nat) (w w1:World) (l:List (Nat × SV)) (lr:Nat) (Ds:List Nat) (rec:LoopState→Option Code→Loop)
  (st:Option Nat) (M:Nat→Prop) (W:World):Prop:=
 (∀b,M b→w1.heap.size≤b)∧(∀D∈Ds,W.heap[D]? =some (.deferred (some [])))∧w1.heap.size≤W.heap.size∧
 ∃H' loc' ver',Inv G H' loc' ver' W∧H'[H1.length]? =some .gone∧(∀b,(w.heap.size≤b∧b<w1.heap.size)∨M b→(loc' H1.length).al b)∧(∀b,(loc' H1.length).al b→w.heap.size≤b)∧
  ExtO OD (envOf G H1 loc1 ver1 w) (envOf G H' loc' ver' W)∧
  (match st with
   | some k=>∃z,an.mu z=k∧an.pre z∧H'=an.heap z H1++ [.gone]∧ExtO an.objs (envOf G H1 loc1 ver1 w) (envOf G H' loc' ver' W)∧W.heap[lr]? =some (.loop (rec .ready none))
   | none=>∃e cj,Io e=some cj∧K e (base [] OD l) H'∧W.heap[lr]? =some (.loop (rec .done (some cj))))
theorem RJ.abides {K:Exit→List (Nat × SV)→List HO→Prop} {an:Ann} {OD:List Nat} {H1:List HO} {loc1:Nat→Loc} {ver1:Nat→Nat} {w w1:World} {l:List (Nat × SV)} {lr:Nat} {Ds:List Nat} {rec:LoopState→Option Code→Loop}
  (hI1:Inv G H1 loc1 ver1 w) (hb1:Below w.heap.size w w1) (hlr:lr<w1.heap.size) (hDs1:∀D∈Ds,D<w1.heap.size) {st:Option Nat} {M:Nat→Prop} {W W':World} (h:RJ G K an OD H1 loc1 ver1 w w1 l lr Ds rec st M W)
  (hos:W'.os=W.os) (htp:W'.tape=W.tape) (hout:W'.output=W.output) (hsz:W.heap.size≤W'.heap.size) (hblk:∀b,b<W.heap.size→¬M b→W'.heap[b]? =W.heap[b]?):
  RJ G K an OD H1 loc1 ver1 w w1 l lr Ds rec st (fun b=>M b∨(W.heap.size≤b∧b<W'.heap.size)) W':=by
 obtain ⟨hM,hDs,hws,H',loc',ver',hI,hg,hal,hal2,hx,hst⟩:=h
 have hlow:∀b,b<w1.heap.size→W'.heap[b]? =W.heap[b]? :=fun b hb=>hblk b (by omega) fun hm=>by have:=hM b hm;omega
 obtain ⟨hI',hx0⟩:=alien hI hg hos htp hout hsz (fun b=>(loc' H1.length).al b∨(W.heap.size≤b∧b<W'.heap.size)) (fun b hb=>hb) (fun b hb hna=>hblk b hb fun hm=>hna (hal b (.inr hm)))
 have hg0:∀nm b,(envOf G H1 loc1 ver1 w).gho nm b→(envOf G H1 loc1 ver1 w).has nm=true∧b<(envOf G H1 loc1 ver1 w).w.heap.size:=fun nm b hb=>
  ⟨bA hb.1 rfl,(hI1.objs nm _ hb.1).2 b hb.2⟩
 have hxx:∀O,ExtO O (envOf G H1 loc1 ver1 w) (envOf G H' loc' ver' W)→ExtO O (envOf G H1 loc1 ver1 w) (envOf G H' _ _ W'):=fun O hx=>
  ExtO.alien hx hx0 (fun nm hn=>cB hn) (fun b hb=>hlow b (by have:=hb1.size;have hb':b<w.heap.size:=hb;omega)) hg0 (fun nm hne=>⟨rfl,aT _ _ _ (Nat.ne_of_lt hne)⟩)
 refine ⟨fun b hb=>?_,fun D hD=>(hlow D (hDs1 D hD)).trans (hDs D hD),Nat.le_trans hws hsz,H',_,_,hI',hg,fun b hb=>?_,fun b hb=>?_,hxx OD hx,?_⟩
 ·rcases hb with hb | hb
  ·exact hM b hb
  ·omega
 ·rw[aG]
  rcases hb with hb | hb | hb
  ·exact .inl (hal b (.inl hb))
  ·exact .inl (hal b (.inr hb))
  ·exact .inr hb
 ·rw[aG] at hb
  rcases hb with hb | hb
  ·exact hal2 b hb
  ·have:=hb1.size;omega
 ·cases st with
  | some k=>
   obtain ⟨z,h1,h2,h3,h4,h5⟩:=hst
   exact ⟨z,h1,h2,h3,hxx _ h4,(hlow lr hlr).trans h5⟩
  | none=>
   obtain ⟨e,cj,h1,h2,h3⟩:=hst
   exact ⟨e,cj,h1,h2,(hlow lr hlr).trans h3⟩
theorem Zt {H1 H' Z:List HO} {loc loc':Nat→Loc} {ver ver':Nat→Nat} {w W:World} {nm k n:Nat} {O:List Nat} (hI1:Inv G H1 loc ver w) (hI':Inv G H' loc' ver' W) (hmn:mem nm O=false) (h1:rT nm k n H1) (h2:rT nm k n Z) (hH:H'=Z++ [.gone])
  (hx:ExtO O (envOf G H1 loc ver w) (envOf G H' loc' ver' W)):softC n (loc nm).toCore W:=by
 unfold rT at h1 h2
 split at h1
 case h_2=>exact h1.elim
 rename_i j t xs e ho1
 obtain ⟨rfl,hts,hl⟩:=h1
 split at h2
 case h_2=>exact h2.elim
 rename_i j2 t2 xs2 e2 ho2
 obtain ⟨hj2,hts2,hl2⟩:=h2
 have hn1:=aC ho1 (by simp)
 have hn2:=aC ho2 (by simp)
 have hn3:H'[nm]? =some (.vec j2 t2 xs2 e2):=by rw[hH,List.getElem?_append_left (List.getElem?_eq_some_iff.1 hn2).1];exact hn2
 have hv1:ver nm=j:=(hI1.objs nm _ hn1).1
 obtain ⟨hv2,_,hlen,hmax,vs,hown,_⟩:=hI'.objs nm _ hn3
 have hv2:ver' nm=j2:=hv2
 have hlen':(loc' nm).len=List.length (α:=t2.T) xs2:=hlen
 have hmax':(loc' nm).len≤maxL:=hmax
 rcases hx.ver nm (bA hn1 rfl) hmn with ⟨_,e2⟩ | ⟨_,e2⟩
 ·have e2:(loc' nm).toCore=(loc nm).toCore:=e2
  rw[← e2]
  refine ⟨by show (loc' nm).len=n;omega,by omega,?_⟩
  rcases aO hown with ⟨_,_,q1,_⟩ | ⟨g,cur,q1,q2,q3,q4,_,q5,_⟩
  ·have q1:(loc' nm).len=0:=q1
   exact .inl (by omega)
  ·rw[hts2,Nat.mul_one] at q5
   refine .inr ⟨g,cur,_,_,q1,?_,q3,?_⟩
   ·show n≤(loc' nm).cap
    omega
   ·have q5:(loc' nm).cap≤cur.size:=q5
    omega
 ·have e2:ver nm<ver' nm:=e2
  omega
theorem yM (hY:COK P G) {Γ:List Con} {A:Anns} {g:Operand} {ps:Array Tmp} {x y:Code} (ihx:∀key,Cb P G N Γ A key x) (ihy:∀key,Cb P G N Γ A key y) (key:Nat) {F:Fence} {n:Nat} (hF:Opn F) {H H1:List HO} {loc:Nat→Loc} {ver:Nat→Nat} {w:World} {l:List (Nat × SV)} {a:Act} {K:Exit→List (Nat × SV)→List HO→Prop}
  (hI1:Inv G H1 loc ver w) (hx1:Ext (envOf G H loc ver w) (envOf G H1 loc ver w)) (hT1:TRel (envOf G H1 loc ver w) N l a) (hRo:RoundOK F (envOf G H loc ver w)) {an:Ann} (hA:xJ A key=an.objs) {f:FuncId} {vb:List Value} (hgval:a.eval g= .func (.func f) ⟨[]⟩ ⟨vb⟩) (hent:mI P f)
  {as:List SV} {nn:Nat} {items:Nat→List SV} (htri:TriI P f as nn items) (soft:Bool) (sf:Core) (hargs:∀w1,Below w.heap.size w w1→aBx w1 (okN G H1 loc w) soft sf as vb)
  (hsf:soft=true→∃nm k,mem nm an.objs=false∧sf=(loc nm).toCore∧rT nm k nn H1∧∀z,an.pre z→rT nm k nn (an.heap z H1))
  (hk:tS N A key ps x y an nn items l H1 (exec P Γ N A key x) (exec P Γ N A key y) K):(Code.rangeFunc g ps x y).wpIn F n P (After G N (bO (.rangeFunc g ps x y)) (aS A key (.rangeFunc g ps x y)) K (envOf G H loc ver w) a) a w:=by
 unfold tS at hk
 obtain ⟨hmo,hk⟩:=aE hk
 obtain ⟨hok,hvc⟩:=hk
 have hmo:mem H1.length an.objs=false:=by simpa using hmo
 obtain ⟨OD,hOD⟩:∃OD,(aS A key x++aS A key y)++an.objs=OD:=⟨_,rfl⟩
 have hODt:aS A key (.rangeFunc g ps x y)=OD:=by simp only[aS,hA];exact hOD
 have hODx:∀m,mem m (aS A key x)=true→mem m OD=true:=fun m hm=>by rw[← hOD];exact nO _ _ m (nO _ _ m hm)
 have hODy:∀m,mem m (aS A key y)=true→mem m OD=true:=fun m hm=>by rw[← hOD];exact nO _ _ m (vL _ _ m hm)
 have hODo:∀m,mem m an.objs=true→mem m OD=true:=fun m hm=>by rw[← hOD];exact vL _ _ m hm
 have hwi:within an.objs H1.length OD=true:=by
  rw[← hOD]
  obtain ⟨z,_,_⟩:=hvc.init
  exact qL (and2 (and2 (hok z)).1).2
 have hann:∀z,(an.heap z H1).length=H1.length∧uX H1 (an.heap z H1)=true:=fun z=>
  ⟨aJ.1 (and2 (and2 (and2 (hok z)).1).1).2,(and2 (hok z)).2⟩
 refine wpIn_rangeFunc ?_
 intro fn hfn
 obtain ⟨lr,Ds,w1,d,hent1,hrec,hbel,hlr,hnd,hDs⟩:=Mb (P:=P) (w:=w) hRo rfl fn a.tmps ps x y
 obtain ⟨rec,hrecd⟩:∃rec,Cf fn a.tmps ps x y d=rec:=⟨_,rfl⟩
 rw[hrecd] at hrec
 have hlr1:lr<w1.heap.size:=(Array.getElem?_eq_some_iff.1 hrec).1
 have hDs1:∀D∈Ds,D<w1.heap.size:=fun D hD=>(Array.getElem?_eq_some_iff.1 (hDs D hD).2.2).1
 -- the iterator's blocks: the loop's own tg begin with
 have hf:=hI1.fresh (w':=w1) .gone ⟨⟨none,0,0⟩,fun b=>w.heap.size≤b∧b<w1.heap.size,sub0⟩ 1 hbel.size hbel.os hbel.tape hbel.output (fun b hb=>hbel.block b hb) (fun b hb=>hb.1) (fun _=>by rw[show (1:Nat)=1 from rfl];exact ⟨Nat.one_pos,fun b hb=>hb.2⟩)
 obtain ⟨hI2,hx2⟩:=hf
 have hg0:∀nm b,(envOf G H1 loc ver w).gho nm b→(envOf G H1 loc ver w).has nm=true∧b<(envOf G H1 loc ver w).w.heap.size:=fun nm b hb=>
  ⟨bA hb.1 rfl,(hI1.objs nm _ hb.1).2 b hb.2⟩
 have heq:(#[Value.func (.yield lr) #[] #[]]++(⟨vb⟩:Array Value))= ⟨Value.func (.yield lr) #[] #[]::vb⟩:=by apply Array.ext';simp
 refine ⟨lr,Ds.map qW,w1,{ target:=.fn (.func f) ⟨vb⟩,args:= #[.func (.yield lr) #[] #[]] },w1,f, #[Value.func (.yield lr) #[] #[]]++(⟨vb⟩:Array Value),w1,hent1,?_,fun f' _=>hF.fn f',?_,fun hs=>(by rw[hF.depth] at hs;cases hs),?_⟩
 ·simp only[resolve,hgval]
  simp[go_sem]
 ·have e:=hent (#[Value.func (.yield lr) #[] #[]]++(⟨vb⟩:Array Value)) w1
  simpa [invoke,go_sem] using e
 rw[heq]
 have hdone:∀(e:Ending) (w':World),((∃v,e= .returned v)∧∃M,RJ G K an OD H1 loc ver w w1 l lr Ds rec (some nn) M w'∨RJ G K an OD H1 loc ver w w1 l lr Ds rec none M w')→
   rangePost F n P lr (After G N (bO (.rangeFunc g ps x y)) (aS A key (.rangeFunc g ps x y)) K (envOf G H loc ver w) a) { a with defers:=Ds.map qW++a.defers } e w':=by
  rintro e W ⟨⟨v,rfl⟩,M,hJ⟩
  rw[hODt]
  have fin:∀ {H':List HO} {loc':Nat→Loc} {ver':Nat→Nat} {W':World} {e:Exit} {O:List Nat},Inv G H' loc' ver' W→H'[H1.length]? =some .gone→(∀b,(w.heap.size≤b∧b<w1.heap.size)∨M b→(loc' H1.length).al b)→(∀b,(loc' H1.length).al b→w.heap.size≤b)→
    ExtO O (envOf G H1 loc ver w) (envOf G H' loc' ver' W)→(∀m,mem m O=true→mem m OD=true)→(∀D∈Ds,W.heap[D]? =some (.deferred (some [])))→K e (base [] O l) H'→∀o,lr<W.heap.size→W'=W.putObj lr o→
    After G N (bO (.rangeFunc g ps x y)) OD K (envOf G H loc ver w) a e { a with defers:=Ds.map qW++a.defers } W':=by
   intro H' loc' ver' W' e O hI' hg hal hal2 hx hO hD hK o hlt hW
   subst hW
   obtain ⟨hI3,hx3⟩:=alien hI' hg (w':=W.putObj lr o) rfl rfl rfl (by simp) (loc' H1.length).al (fun b hb=>.inl hb) (fun b hb hna=>World.putObj_heap_other (fun e=>hna (by subst e;exact hal b (.inl ⟨hlr,hlr1⟩))))
   have hx4:ExtO O (envOf G H1 loc ver w) (envOf G H' _ _ (W.putObj lr o)):=ExtO.alien hx hx3 (fun nm hn=>cB hn) (fun b hb=>World.putObj_heap_other (fun e=>by have hb':b<w.heap.size:=hb;omega)) hg0 (fun nm hne=>⟨rfl,aT _ _ _ (Nat.ne_of_lt hne)⟩)
   refine ⟨_,H',_,_,hK,hI3,?_,(hx1.toO OD).trans (hx4.mono hO),.refl _ _,Ds,rfl,hnd,fun D hD'=>?_⟩
   ·have:=Ip (ws:=[]) hT1 hx4
    exact ⟨this.size,this.rel⟩
   ·obtain ⟨h1,h2,h3⟩:=hDs D hD'
    refine ⟨h1,mN hI3 hg (by rw[aG];exact hal D (.inl ⟨h1,hDs1 D hD'⟩)),?_⟩
    exact (World.putObj_heap_other h2).trans (hD D hD')
  rcases hJ with ⟨hM,hD,hws,H',loc',ver',hI',hg,hal,hal2,hx,z,hz,hpre,hH',hxo,hr⟩ | ⟨hM,hD,hws,H',loc',ver',hI',hg,hal,hal2,hx,e,cj,hj,hK,hr⟩
  ·have hst:=hvc.stop z hpre hz
   rw[eT,fR] at hst
   refine ⟨none,_,by have:=run_endLoop (P:=P) hr (by rw[← hrecd];simp[Cf]);rw[← hrecd] at this;exact this,?_⟩
   subst hH'
   exact fin hI' hg hal hal2 hxo hODo hD hst _ (by omega) rfl
  ·refine ⟨some cj,_,by have:=run_endLoop (P:=P) hr (by rw[← hrecd];simp[Cf]);rw[← hrecd] at this;exact this,?_⟩
   have hfin:=fun o=>fin (W':=W.putObj lr o) hI' hg hal hal2 hx (fun _ h=>h) hD hK o (by omega) rfl
   cases e with
   | ret=>cases hj;exact wpIn_ret (hfin _)
   | exit id=>cases hj;exact wpIn_exit (hfin _)
   | _=>cases hj
 refine CallsIn.mono (hF.calls (htri (okN G H1 loc w) w1 vb lr (RJ G K an OD H1 loc ver w w1 l lr Ds rec) soft sf ((hY.now hI1).move (fun b hb _=>hb) fun b hb=>hbel.block b hb.2.1) (fun b hb=>Nat.lt_of_lt_of_le hb.2.1 hbel.size)
  (hargs w1 hbel) (fun hs k M W hJ=>by
   obtain ⟨nm,kk,hmn,rfl,hsA,hsZ⟩:=hsf hs
   obtain ⟨_,_,_,H',loc',ver',hI',_,_,_,_,z,hz,hpre,hH',hxo,_⟩:=hJ
   exact Zt hI1 hI' hmn hsA (hsZ z hpre) hH' hxo)
  (fun st M W W' hJ h1 h2 h3 h4 h5=>hJ.abides hI1 hbel hlr1 hDs1 h1 h2 h3 h4 h5) ?_ ?_)) hdone
 ·-- a round
  rintro k M W us hk ⟨hM,hD,hws,H',loc',ver',hI',hg,hal,hal2,hxD,z,hz,hpre,hH',hxo,hr⟩ hu
  subst hz
  have hrd:=hvc.round z hpre hk
  rw[dQ] at hrd
  obtain ⟨hcond,hrd⟩:=aE hrd
  obtain ⟨hcl1,hcl2⟩:=and2 hcond
  have hcl1:=aJ.1 hcl1
  have hrd:=tY hu hrd
  rw[dQ,eT,fR] at hrd
  rw[← hH'] at hrd
  have hlenH:H'.length=H1.length+1:=by rw[hH'];simp[(hann z).1]
  obtain ⟨S,loc0,ver0,hI0,hx00,hu0,hg00,hlow0,hal0,hal02,hS,hback⟩:=Ma hI' hg hlenH (fun b hb=>hal b (.inr hb)) hu
  obtain ⟨H0,hH0⟩:∃H0,H'++lntH (items (an.mu z))=H0:=⟨_,rfl⟩
  rw[hH0] at hrd hI0 hx00 hu0 hg00 hlow0 hback
  have hxD0:ExtO OD (envOf G H1 loc ver w) (envOf G H0 loc0 ver0 W):=ExtO.alien hxD hx00 (fun nm hn=>cB hn) (fun _ _=>rfl) hg0 hlow0
  have hxo0:ExtO an.objs (envOf G H1 loc ver w) (envOf G H0 loc0 ver0 W):=ExtO.alien hxo hx00 (fun nm hn=>cB hn) (fun _ _=>rfl) hg0 hlow0
  have hSn:∀b,b<w1.heap.size→S b=none:=fun b hb=>by
   cases hs:S b with
   | none=>rfl
   | some x=>have:=hM b (hS b x hs).1;omega
  have hul:us.length=ps.size:=by rw[← hu.length];exact hcl1
  have hy:=run_yield (P:=P) (args:=⟨us⟩) hr (by rw[← hrecd];simpa [Cf] using hul)
  rw[← hrecd] at hy
  refine ⟨_,_,_,_,hy,roundIn_of_wpIn (F:=Fence.wide) trivial ?_⟩
  rw[hrecd] at hy
  -- the assignment tg the loop's left sides
  have hall:(loc0 H1.length).al lr:=hal0 lr (hal lr (.inl ⟨hlr,hlr1⟩)) (hSn lr hlr1)
  have hTb:=Ip (ws:=[]) hT1 hxo0
  have hT2:TRel (envOf G H0 loc0 ver0 W) N (Hd ps.toList (lntV (H1.length+1) (items (an.mu z))) (base [] an.objs l)) { tmps:=(ps.zip ⟨us⟩).foldl (fun tmps (t,a)=>tmps.setIfInBounds t a) a.tmps,defers:=[] }:=by
   obtain ⟨h1,h2⟩:=Ce (N:=N) (ps:=ps.toList) hTb.size hTb.rel hu0 (fun p hp=>by
    have:=List.all_eq_true.1 hcl2 p hp
    simpa using this) (by rw[hu0.length,hul];simp)
   have e:(ps.zip ⟨us⟩).foldl (fun tmps (t,a)=>tmps.setIfInBounds t a) a.tmps=(ps.toList.zip us).foldl (fun tm (p:Nat × Value)=>tm.setIfInBounds p.1 p.2) a.tmps:=by
    rw[← Array.foldl_toList]
    simp only[Array.toList_zip]
   exact ⟨by rw[e];exact h1,fun t=>by rw[e];exact h2 t⟩
  have hRo1:RoundOK (Fence.wide.inRound lr) (envOf G H0 loc0 ver0 W):=fun l' hl'=>by
   have:lr=l':=by simpa [Fence.inRound] using hl'
   subst this
   exact ⟨mN hI0 hg00 hall,_,hr⟩
  refine wpIn_mono (ihx key (F:=Fence.wide.inRound lr) (n:=0) ⟨some lr,rfl⟩ hI0 hT2 hRo1 hrd) ?_
  rintro e a1 W1 ⟨l',Hx,locx,verx,hK,hIx,hTx,hxx,hsx,hmx⟩
  cases e with
  | normal=>
   have hr1:W1.heap[lr]? =some (.loop (rec .ready none)):=hxx.keep lr _ (mN hI0 hg00 hall) hr rfl
   have hgx:=fun b hb=>hxx.gho H1.length b ⟨hg00,hb⟩
   have hg1:Hx[H1.length]? =some .gone:=(hgx lr hall).1.1
   have hlt1:H1.length<H0.length:=(List.getElem?_eq_some_iff.1 hg00).1
   have hgx':∀b,(locx H1.length).al b→(loc0 H1.length).al b:=fun b hb=>(hxx.gho' H1.length b (bA hg00 rfl) ⟨hg1,hb⟩).2
   refine ⟨_,run_beginRound hr1 (by rw[← hrecd];rfl),?_⟩
   obtain ⟨W2,hW2⟩:∃W2,W1.putObj lr (.loop { rec .ready none with state:=.busy })=W2:=⟨_,rfl⟩
   rw[hW2]
   have hlt2:lr<W1.heap.size:=(Array.getElem?_eq_some_iff.1 hr1).1
   have hr2:W2.heap[lr]? =some (.loop { rec .ready none with state:=.busy }):=by rw[← hW2];exact World.putObj_heap_same hlt2
   have hoth2:∀b,b≠lr→W2.heap[b]? =W1.heap[b]? :=fun b hb=>by rw[← hW2];exact World.putObj_heap_other hb
   obtain ⟨hI2',hx2'⟩:=alien hIx hg1 (w':=W2) (by rw[← hW2];rfl) (by rw[← hW2];rfl) (by rw[← hW2];rfl) (by rw[← hW2];simp) (locx H1.length).al (fun b hb=>.inl hb) (fun b hb hna=>hoth2 b (fun e=>hna (by subst e;exact (hgx b hall).1.2)))
   have hxE1:=hxD0.trans (hxx.mono hODx)
   have hxE2:=ExtO.alien hxE1 hx2' (fun nm hn=>cB hn) (fun b hb=>hoth2 b (fun e=>by have hb':b<w.heap.size:=hb;omega)) hg0 (fun nm hne=>⟨rfl,aT _ _ _ (Nat.ne_of_lt hne)⟩)
   have hRo2:RoundOK (Fence.wide.inRound lr) (envOf G Hx (upd locx H1.length { locx H1.length with al:=(locx H1.length).al }) (upd verx H1.length (verx H1.length+1)) W2):=fun l' hl'=>by
    have:lr=l':=by simpa [Fence.inRound] using hl'
    subst this
    exact ⟨mN hI2' hg1 (by rw[aG];exact (hgx _ hall).1.2),_,hr2⟩
   refine wpIn_mono (ihy key (F:=Fence.wide.inRound lr) (n:=0) ⟨some lr,rfl⟩ hI2' (hTx.ext0 hx2') hRo2 hK) ?_
   rintro e a3 W3 ⟨l3,H3,loc3,ver3,hK3,hI3,hT3,hx3,hs3,hm3⟩
   obtain ⟨hgl,hK3⟩:=aE hK3
   have hlok:=(and2 hgl).2
   have hal2x:(upd locx H1.length { locx H1.length with al:=(locx H1.length).al } H1.length).al=(locx H1.length).al:=by rw[aG]
   have hgy:=fun b (hb:(locx H1.length).al b)=>hx3.gho H1.length b ⟨hg1,by rw[hal2x];exact hb⟩
   have hallx:(locx H1.length).al lr:=(hgx lr hall).1.2
   have hg3:H3[H1.length]? =some .gone:=(hgy lr hallx).1.1
   have hgy':∀b,(loc3 H1.length).al b→(locx H1.length).al b:=fun b hb=>by
    have:=(hx3.gho' H1.length b (bA hg1 rfl) ⟨hg3,hb⟩).2
    rwa [hal2x] at this
   have hr3:W3.heap[lr]? =some (.loop { rec .ready none with state:=.busy }):=hx3.keep lr _ (mN hI2' hg1 (by rw[aG];exact hallx)) hr2 rfl
   have hlt3:lr<W3.heap.size:=(Array.getElem?_eq_some_iff.1 hr3).1
   have hxE3:=hxE2.trans (hx3.mono hODy)
   -- what was lent is handed back
   obtain ⟨locb,hIb,hxb,hgb,hlowb,halb,hSb,halb2⟩:=hback (aS A key x++aS A key y) H3 loc3 ver3 W3 hI3 hg3 hlok (fun hm=>by
    rw[mem_append] at hm
    have hm1:mem (H1.length+1) (aS A key x)=false:=by
     cases e:mem (H1.length+1) (aS A key x) with
     | false=>rfl
     | true=>rw[e] at hm;cases hm
    have hm2:mem (H1.length+1) (aS A key y)=false:=by
     cases e:mem (H1.length+1) (aS A key y) with
     | false=>rfl
     | true=>rw[e] at hm;simp at hm
    exact ((hxx.vs hm1).trans (hx2'.vs _)).trans (hx3.vs hm2))
   obtain ⟨Hb,hHb⟩:∃Hb,lntX (items (an.mu z)) (H1.length+1) H3=Hb:=⟨_,rfl⟩
   rw[hHb] at hIb hxb hgb hlowb
   have hallb:(locb H1.length).al lr:=halb lr (hgy lr hallx).1.2
   have hxEb:ExtO OD (envOf G H1 loc ver w) (envOf G Hb locb ver3 W3):=ExtO.alien hxE3 hxb (fun nm hn=>cB hn) (fun _ _=>rfl) hg0 hlowb
   -- the end of a round, by whatever way
   have fin:∀(jump:Option Code) (b:Bool),jump.isNone=b→
     (∀loc4 ver4 W4,Inv G Hb loc4 ver4 W4→ExtO OD (envOf G H1 loc ver w) (envOf G Hb loc4 ver4 W4)→W4.heap[lr]? =some (.loop (rec (if jump.isNone then .ready else .done) jump))→(loc4 H1.length).al=(locb H1.length).al→
      (∀D∈Ds,W4.heap[D]? =some (.deferred (some [])))→w1.heap.size≤W4.heap.size→RJ G K an OD H1 loc ver w w1 l lr Ds rec (if b=true then some (an.mu z+1) else none) M W4)→
     ∃v w',(Instr.endRound lr jump).run P W3= .ok v w'∧∃b,Ending.returned v= .returned (.bool b)∧RJ G K an OD H1 loc ver w w1 l lr Ds rec (if b=true then some (an.mu z+1) else none) M w'∧Kept (fun c=>okN G H1 loc w c∨M c) W w':=by
    intro jump b hjb hJ
    have hre:=run_endRound (P:=P) jump hr3
    refine ⟨_,_,hre,b,by rw[hjb],?_⟩
    obtain ⟨W4,hW4⟩:∃W4,W3.putObj lr (.loop { { rec .ready none with state:=.busy } with state:=if jump.isNone then .ready else .done,pending:=jump })=W4:=⟨_,rfl⟩
    rw[hW4]
    have hr4:W4.heap[lr]? =some (.loop (rec (if jump.isNone then .ready else .done) jump)):=by
     rw[← hW4,World.putObj_heap_same hlt3,← hrecd];rfl
    have hoth4:∀b,b≠lr→W4.heap[b]? =W3.heap[b]? :=fun b hb=>by rw[← hW4];exact World.putObj_heap_other hb
    have hs4:W4.heap.size=W3.heap.size:=by rw[← hW4];simp
    obtain ⟨hI4,hx4⟩:=alien hIb hgb (w':=W4) (by rw[← hW4];rfl) (by rw[← hW4];rfl) (by rw[← hW4];rfl) (by omega) (locb H1.length).al (fun b hb=>.inl hb) (fun b hb hna=>hoth4 b (fun e=>hna (by subst e;exact hallb)))
    have hxE4:=ExtO.alien hxEb hx4 (fun nm hn=>cB hn) (fun b hb=>hoth4 b (fun e=>by have hb':b<w.heap.size:=hb;omega)) hg0 (fun nm hne=>⟨rfl,aT _ _ _ (Nat.ne_of_lt hne)⟩)
    have hsz1:W.heap.size≤W3.heap.size:=by
     have h1:W.heap.size≤W1.heap.size:=hxx.size
     have h2:W1.heap.size≤W2.heap.size:=hx2'.size
     have h3:W2.heap.size≤W3.heap.size:=hx3.size
     omega
    have hDk:∀D∈Ds,W4.heap[D]? =some (.deferred (some [])):=fun D hD'=>by
     have hnl:=(hDs D hD').2.1
     have halD:(loc0 H1.length).al D:=hal0 D (hal D (.inl ⟨(hDs D hD').1,hDs1 D hD'⟩)) (hSn D (hDs1 D hD'))
     have h1:=hxx.keep D _ (mN hI0 hg00 halD) (hD D hD') rfl
     have h2:=(hoth2 D hnl).trans h1
     have h3:=hx3.keep D _ (mN hI2' hg1 (by rw[aG];exact (hgx D halD).1.2)) h2 rfl
     exact (hoth4 D hnl).trans h3
    refine ⟨hJ _ _ W4 hI4 hxE4 hr4 (by rw[aG]) hDk (by omega),hI4.os.trans hI'.os.symm,hI4.tape.trans hI'.tape.symm,hI4.output.trans hI'.output.symm,by omega,fun b hb hbl=>?_⟩
    rcases hb with hb | hb
    ·have e0:(envOf G H0 loc0 ver0 W).ok b:=hxD0.ok b hb
     have e1:=hxx.blk b e0
     have e2:=hx2'.blk b (hxx.ok b e0)
     have e3:=hx3.blk b (hx2'.ok b (hxx.ok b e0))
     have e4:=hx4.blk b (hxb.ok b (hx3.ok b (hx2'.ok b (hxx.ok b e0))))
     exact ((e4.trans e3).trans e2).trans e1
    ·have hnl:b≠lr:=fun e=>by have:=hM b hb;omega
     cases hs:S b with
     | some x=>
      have h1:=(hSb b x hs).2
      have h2:=(hS b x hs).2
      exact ((hoth4 b hnl).trans h1).trans h2.symm
     | none=>
      have hab:=hal0 b (hal b (.inr hb)) hs
      have e1:=(hgx b hab).2
      have e3:=(hgy b (hgx b hab).1.2).2
      exact (((hoth4 b hnl).trans e3).trans (hoth2 b hnl)).trans e1
   have hal3:∀b,(w.heap.size≤b∧b<w1.heap.size)∨M b→(locb H1.length).al b:=fun b hb=>by
    cases hs:S b with
    | some x=>exact (hSb b x hs).1
    | none=>exact halb b (hgy b (hgx b (hal0 b (hal b hb) hs)).1.2).1.2
   have hal4:∀b,(locb H1.length).al b→w.heap.size≤b:=fun b hb=>by
    rcases halb2 b hb with hb | hb
    ·exact hal2 b (hal02 b (hgx' b (hgy' b hb)))
    ·have:=hM b hb;have:=hbel.size;omega
   have leave:∀(e:Exit) (cj:Code),Io e=some cj→K e (base [] OD l) Hb→∃v w',(Instr.endRound lr (some cj)).run P W3= .ok v w'∧∃b,Ending.returned v= .returned (.bool b)∧RJ G K an OD H1 loc ver w w1 l lr Ds rec (if b=true then some (an.mu z+1) else none) M w'∧Kept (fun c=>okN G H1 loc w c∨M c) W w':=by
    intro e cj hj hKe
    refine fin (some cj) false rfl fun loc4 ver4 W4 hI4 hx4 hr4 hal5 hD4 hs4=>?_
    exact ⟨hM,hD4,hs4,Hb,loc4,ver4,hI4,hgb,fun b hb=>by rw[hal5];exact hal3 b hb,fun b hb=>hal4 b (by rw[← hal5];exact hb),hx4,e,cj,hj,hKe,hr4⟩
   cases e with
   | normal=>
    obtain ⟨z',hz',har⟩:=hK3
    refine fin none true rfl fun loc4 ver4 W4 hI4 hx4 hr4 hal5 hD4 hs4=>?_
    have hlen':=(hann z').1
    have hS:=Rt hlok (Rq har.ent.2 (by rw[hlen'];exact hg3) (by rw[hlen'];exact hmo)) (by simp[hlen'])
    rw[hHb] at hS
    obtain ⟨hI5,hok5⟩:=mK hI4 (by simp;omega) hS
    have hx5:=mL hx4 (by simp;omega) (fun nm hnm=>by
     have h1:=jY (hann z').2 hnm
     rw[List.getElem?_append_left (List.getElem?_eq_some_iff.1 h1).1];exact h1) hwi hS hok5
    exact ⟨hM,hD4,hs4,_,loc4,_,hI5,by rw[← hlen'];simp,fun b hb=>by rw[hal5];exact hal3 b hb,fun b hb=>hal4 b (by rw[← hal5];exact hb),hx5.mono hODo,z',hz',har.pre,rfl,hx5,hr4⟩
   | ret=>
    have hK3:eA (base [] ((aS A key x++aS A key y)++an.objs) l) fun l'=>aQ (lntX (items (an.mu z)) (H1.length+1) H3) fun H3=>K .ret l' H3:=hK3
    rw[hOD,eT,aL,hHb] at hK3
    exact leave .ret _ rfl hK3
   | exit id=>
    have hK3:eA (base [] ((aS A key x++aS A key y)++an.objs) l) fun l'=>aQ (lntX (items (an.mu z)) (H1.length+1) H3) fun H3=>K (.exit id) l' H3:=hK3
    rw[hOD,eT,aL,hHb] at hK3
    exact leave (.exit id) _ rfl hK3
   | _=>exact hK3.elim
  | _=>exact hK.elim
 ·-- ahead of the first round
  obtain ⟨z,hz,har⟩:=hvc.init
  have hlen':=(hann z).1
  have hS:=Rr har.ent.2 hlen' (by rw[hlen'];exact hmo)
  obtain ⟨hI5,hok5⟩:=mK hI2 (by simp;omega) hS
  have hx12:=hx2.toO OD
  have hx5:=mL hx12 (by simp;omega) (fun nm hnm=>by
   have h1:=jY (hann z).2 hnm
   rw[List.getElem?_append_left (List.getElem?_eq_some_iff.1 h1).1];exact h1) hwi hS hok5
  exact ⟨fun b hb=>hb.elim,fun D hD=>(hDs D hD).2.2,Nat.le_refl _,_,_,_,hI5,by rw[← hlen'];simp,fun b hb=>by
    rw[aG]
    rcases hb with hb | hb
    ·exact hb
    ·exact hb.elim,fun b hb=>by rw[aG] at hb;exact hb.1,hx5.mono hODo,z,hz,har.pre,rfl,hx5,hrec⟩
theorem Iq (hY:COK P G) {Γ:List Con} (hΓ:∀c∈Γ,aD P c) {A:Anns} {g:Operand} {ps:Array Tmp} {x y:Code} (ihx:∀key,Cb P G N Γ A key x) (ihy:∀key,Cb P G N Γ A key y) (key:Nat):Cb P G N Γ A key (.rangeFunc g ps x y):=by
 intro F n hF H loc ver w l a K hI hT hRo h
 simp only[eB,gN,jT,gO,fN,gP,cX] at h
 split at h
 case h_2=>exact h.elim
 rename_i f caps hgv
 rcases uW h with ⟨an,hA,h⟩ | h
 case inr=>exact h.elim
 split at h
 ·exact h.elim
 rename_i c hc
 obtain ⟨hmem,rfl⟩:=tT hc
 obtain ⟨hent,hcl,_,_⟩:=hΓ c hmem
 split at h
 ·-- the iterator goes over a vector of ours
  rename_i nk hso
  obtain ⟨r,hk,htri⟩:=hcl _ _ h
  rw[dB] at hk
  split at hk
  case h_2=>exact hk.elim
  rename_i nn items
  obtain ⟨hmo,hk2⟩:=aE hk
  obtain ⟨hso2,hk3⟩:=hk2
  have hmo:mem nk.1 an.objs=false:=by simpa using hmo
  have htri:TriI P c.f _ nn items:=htri
  obtain ⟨nm,k⟩:=nk
  unfold Lq at hso
  split at hso
  case h_2=>cases hso
  rename_i nm' k'
  split at hso
  case h_2=>cases hso
  rename_i j t xs e ho
  cases hjk:Nat.beq j k' with
  | false=>rw[hjk] at hso;cases hso
  | true=>
  rw[hjk] at hso
  cases hso
  have hjk:=aJ.1 hjk
  subst hjk
  have hgr:=fO hT g
  rw[hgv] at hgr
  generalize hgval:a.eval g=gv at hgr
  cases hgr with
  | clo _ _ _ va vb ha hcaps=>
  cases ha
  cases hcaps with
  | cons _ v1 _ vs1 h1 h2=>
  cases h2
  cases h1 with
  | lelem _ _ b off vs hl hokb hr=>
  cases hl with
  | cons _ u _ us h3 h4=>
  cases h4
  obtain ⟨hu,_⟩:=iT hI h3 ho
  subst hu
  have hr0:=hr 0 _ rfl
  refine yM hY ihx ihy key hF hI (Ext.refl _) hT hRo hA hgval hent htri true (loc nm).toCore (fun w1 hbel=>⟨rfl,b,off,hokb,?_,rfl⟩) (fun _=>⟨nm,j,hmo,rfl,hso2⟩) hk3
  exact (World.cell?_of_block (hbel.block _ hokb.2.1)).trans hr0
 ·rw[aL,dQ] at h
  obtain ⟨hb,h⟩:=aE h
  obtain ⟨r,hk,htri⟩:=hcl _ _ h
  rw[dB] at hk
  split at hk
  case h_2=>exact hk.elim
  rename_i nn items
  have htri:TriI P c.f _ nn items:=htri
  -- the state behind the freezing of what the iterator has captured
  obtain ⟨H1,hH1⟩:∃H1,cL H [.clo c.f [] caps]=H1:=⟨_,rfl⟩
  rw[hH1] at hb hk htri
  obtain ⟨hI1,hx1⟩:=iI [.clo c.f [] caps] hI
  rw[hH1] at hI1 hx1
  have hT1:=hT.ext hx1
  have hgr:=fO hT1 g
  rw[hgv] at hgr
  generalize hgval:a.eval g=gv at hgr
  cases hgr with
  | clo _ _ _ va vb ha hcaps=>
  cases ha
  have hviews:=gS (H:=H1) (lend:=false) (Ext.refl (envOf G H1 loc ver w)) (fun _ _ _ h=>oB hI1 h) (fun nm k v h=>eV hI1 h) (fun nm k i v _=>fG nm k i v) (fun nm v h=>jC hI1 (Ext.refl _) (.inl rfl) h) hcaps
  exact yM hY ihx ihy key hF hI1 hx1 hT1 hRo hA hgval hent htri false ⟨none,0,0⟩ (fun w1 hbel=>RelL.bare (E:=envOf G H1 loc ver w) (E':=env0 w1 (okN G H1 loc w)) (fun b _ hb h _=>(hbel.block _ hb.2.1).trans h) (fun _ h=>h) hviews hb) (fun h=>by cases h) hk
end
end Go.Eng
end
section
namespace Go.Eng
open Go.RowKit
section
variable {P:Program} {G:Ctx} {N:Nat} {H:List HO} {Γ:List Con}
def lk (ops:Array Oper) (o:Oper) (t:Nat):Prop:=Operand.tmp t∈o.op.operands.toList∨∃j b,o.guard=some (j,b)∧(ops[j]?).bind (·.dst)=some t
theorem gX (l:List (Nat × SV)):∀(xs:List Operand) (t:Nat),look (dD l xs) t= .any∨(Operand.tmp t∈xs∧look (dD l xs) t=look l t)
 | [],t=>.inl rfl
 | x::xs,t=>by
  cases x with
  | tmp u=>
   simp only[dD,look]
   by_cases e:u=t
   ·subst e;rw[bW];right;exact ⟨List.mem_cons_self ..,rfl⟩
   ·rw[dR e]
    simp only[cond_false]
    rcases gX l xs t with h | ⟨h1,h2⟩
    ·exact .inl h
    ·exact .inr ⟨List.mem_cons_of_mem _ h1,h2⟩
  | _=>
   simp only[dD]
   rcases gX l xs t with h | ⟨h1,h2⟩
   ·exact .inl h
   ·exact .inr ⟨List.mem_cons_of_mem _ h1,h2⟩
theorem Un {ops:Array Oper} {l:List (Nat × SV)} {o:Oper} {yes no:List (Nat × SV)→Prop} (h:kR ops.toList l o.guard yes no):
  ∃l' b,((b=true∧yes l')∨(b=false∧no l'))∧(∀(E:Env) (t:Nat) (v:Value),Rel E (look l t) v→Rel E (look l' t) v)∧
   (∀(E:Env) (a:Act),(∀t,lk ops o t→Rel E (look l t) (a.tmps.getD t undef))→Region.wanted o (yielded ops a.tmps)=b):=by
 unfold kR at h
 cases hg:o.guard with
 | none=>rw[hg] at h;exact ⟨l,true,.inl ⟨rfl,h⟩,fun _ _ _ h=>h,fun _ _ _=>by simp[Region.wanted,hg]⟩
 | some p=>
  obtain ⟨j,want⟩:=p
  rw[hg] at h
  simp only at h
  split at h
  ·exact h.elim
  ·rename_i t hd
   have hd':(ops[j]?).bind (·.dst)=some t:=by simpa using hd
   have hlk:lk ops o t:=.inr ⟨j,want,hg,hd'⟩
   have hw:∀(b:Bool) (a:Act),a.tmps.getD t undef= .bool b→Region.wanted o (yielded ops a.tmps)=(want==b):=by
    intro b a hb
    have hy:=jE hd' hb
    cases want<;>cases b<;>simp[Region.wanted,hg,hy]
   split at h
   ·rename_i hl
    refine ⟨l,want,?_,fun _ _ _ h=>h,fun E a hr=>?_⟩
    ·cases want with
     | true=>exact .inl ⟨rfl,h⟩
     | false=>exact .inr ⟨rfl,h⟩
    ·have h1:=hr t hlk
     rw[hl] at h1
     rw[hw true a h1.bool_inv];cases want<;>rfl
   ·rename_i hl
    refine ⟨l, !want,?_,fun _ _ _ h=>h,fun E a hr=>?_⟩
    ·cases want with
     | true=>exact .inr ⟨rfl,h⟩
     | false=>exact .inl ⟨rfl,h⟩
    ·have h1:=hr t hlk
     rw[hl] at h1
     rw[hw false a h1.bool_inv];cases want<;>rfl
   ·rename_i p d hl
    have hlearn:∀(b:Bool),@decide p d=b→∀(E:Env) (u:Nat) (v:Value),Rel E (look l u) v→Rel E (look (put l t (.val (.bool b))) u) v:=by
     intro b hb E u v hr
     rw[gD]
     by_cases e:u=t
     ·rw[if_pos e]
      rw[e,hl] at hr
      cases hr
      rw[hb];exact .val _ trivial
     ·rw[if_neg e];exact hr
    have hval:∀(E:Env) (a:Act),(∀t,lk ops o t→Rel E (look l t) (a.tmps.getD t undef))→a.tmps.getD t undef= .bool (@decide p d):=by
     intro E a hr
     have h1:=hr t hlk
     rw[hl] at h1
     generalize a.tmps.getD t undef=v at h1
     cases h1;rfl
    by_cases hp:p
    ·have hdp:@decide p d=true:=by simp[hp]
     refine ⟨put l t (.val (.bool true)),want,?_,hlearn true hdp,fun E a hr=>?_⟩
     ·cases want with
      | true=>exact .inl ⟨rfl,by have:=h.yes hp;rwa [aL] at this⟩
      | false=>exact .inr ⟨rfl,by have:=h.yes hp;rwa [aL] at this⟩
     ·rw[hw _ a (hval E a hr),hdp];cases want<;>rfl
    ·have hdp:@decide p d=false:=by simp[hp]
     refine ⟨put l t (.val (.bool false)), !want,?_,hlearn false hdp,fun E a hr=>?_⟩
     ·cases want with
      | true=>exact .inr ⟨rfl,by have:=h.no hp;rwa [aL] at this⟩
      | false=>exact .inl ⟨rfl,by have:=h.no hp;rwa [aL] at this⟩
     ·rw[hw _ a (hval E a hr),hdp];cases want<;>rfl
   ·rename_i hl
    refine ⟨l,false,.inr ⟨rfl,h⟩,fun _ _ _ h=>h,fun E a hr=>?_⟩
    have h1:=hr t hlk
    rw[hl] at h1
    generalize hv:a.tmps.getD t undef=v at h1
    cases h1 with
    | tup _ vs hl'=>cases hl';simp[Region.wanted,hg,qM hd' hv]
   ·exact h.elim
theorem OpOK.ex {o:Oper} {a:Act} {w:World} {R:Value→World→Prop} (h:OpOK P Fence.wide o a w R):∃v w',R v w':=by
 cases h with
 | value v w' _ h=>exact ⟨v,w',h⟩
 | skip w' _ h=>exact ⟨_,w',h⟩
 | call f args _ h=>
  obtain ⟨e,w',_,⟨v,_,h⟩,_⟩:=(h 0).2 [] (fun d h=>by cases h)
  exact ⟨v,w',h⟩
 | yield l args _ h=>
  obtain ⟨_,_,_,_,_,hR⟩:=h
  obtain ⟨e,w',⟨v,_,h⟩,_⟩:=hR.2 default [] (fun d h=>by cases h)
  exact ⟨v,w',h⟩
theorem fP {o:Oper} {j:Nat} (h:waits o j=true):∃e∈o.after,Region.binds .any e=true∧e.on=j:=by
 obtain ⟨e,h1,h2⟩:=List.any_eq_true.1 h
 obtain ⟨h3,h4⟩:=and2 h2
 exact ⟨e,by simpa using h1,h3,aJ.1 h4⟩
theorem jK {o:Oper} {i:Nat} (h:topo i o=true):∀e∈o.after,Region.binds .any e=true→e.on<i:=by
 intro e he hb
 have:=List.all_eq_true.1 h e (by simpa using he)
 simpa [hb] using this
def late (ops:Array Oper) (m i t:Nat):Prop:=∃j o',j<m∧ops[j]? =some o'∧o'.dst=some t∧waits o' i=true
open Classical in
noncomputable def rdM (ops:Array Oper) (m:Nat) (wr0 wr:Nat→SV) (i t:Nat):SV:=if late ops m i t then wr0 t else wr t
structure QP (P:Program) (Γ:List Con) (ops:Array Oper) (H:List HO) (N:Nat) (wr:Nat→SV) (sv:SV) (wn:Bool) (o:Oper):Prop where
 want:∀(E:Env) (a:Act),(∀t,lk ops o t→Rel E (wr t) (a.tmps.getD t undef))→Region.wanted o (yielded ops a.tmps)=wn
 run:wn=true→∃lr X,op1 P Γ o lr H (fun s' H'=>Pinned (s'=sv) (H'=H) X)∧∀(t:Nat) (E:Env) (v:Value),(lk ops o t→Rel E (wr t) v)→Rel E (look lr t) v
 skip:wn=false→sv= .tup []
 dst:∀t,o.dst=some t→t<N
theorem pP {o:Oper} {t:Nat}:xH o t=true↔o.dst=some t:=by
 unfold xH
 cases o.dst with
 | none=>simp
 | some u=>simp
theorem fU {ops:Array Oper} {m i:Nat} {o:Oper} {t:Nat} (h:Eh ops.toList m i o t=true) {j:Nat} {o':Oper} (hj:j<m) (ho:ops[j]? =some o') (hd:o'.dst=some t):(waits o j=true∧j<i)∨waits o' i=true:=by
 have:=List.all_eq_true.1 h j (List.mem_range.2 hj)
 simp only[Array.getElem?_toList,ho] at this
 rw[pP.2 hd] at this
 simpa using this
theorem mO {ops:Array Oper} {m i:Nat} {o:Oper} (h:opOk ops.toList m i o=true) {t:Nat} (hl:lk ops o t):Eh ops.toList m i o t=true:=by
 simp only[opOk,Bool.and_eq_true] at h
 rcases hl with hl | ⟨j,b,h1,h2⟩
 ·have:=List.all_eq_true.1 h.1 _ hl
  exact this
 ·have:=h.2.1
  rw[h1] at this
  simp only[Oe] at this
  have h2':(ops.toList[j]?).bind (·.dst)=some t:=by simpa using h2
  rw[h2'] at this
  exact this
theorem lM {ops:Array Oper} {m i:Nat} {o:Oper} (h:opOk ops.toList m i o=true) {t:Nat} (hd:o.dst=some t) {j:Nat} {o':Oper} (hj:j<m) (ho:ops[j]? =some o') (hd':o'.dst=some t):j=i:=by
 simp only[opOk,Bool.and_eq_true] at h
 have:=h.2.2
 rw[hd] at this
 have:=List.all_eq_true.1 this j (List.mem_range.2 hj)
 simp only[Array.getElem?_toList,ho] at this
 rw[pP.2 hd'] at this
 simpa using this
theorem virt (hY:COK P G) (hΓ:∀c∈Γ,aD P c) {ops:Array Oper} {m:Nat} (hq:∀i o,i<m→ops[i]? =some o→opOk ops.toList m i o=true) (htopo:∀i o,ops[i]? =some o→topo i o=true) (wr0:Nat→SV) {K:List (Nat × SV)→Prop}:∀(rest:List Oper) (k:Nat),(ops.toList.take m).drop k=rest→
  ∀ {loc:Nat→Loc} {ver:Nat→Nat} {w:World} {l:List (Nat × SV)} {a:Act} {wr:Nat→SV},Inv G H loc ver w→TRel (envOf G H loc ver w) N l a→(∀(E:Env) (t:Nat) (v:Value),Rel E (wr t) v→Rel E (look l t) v)→
  (∀t,(∀j o,j<k→ops[j]? =some o→o.dst≠some t)→wr t=wr0 t)→
  uV P Γ N ops.toList rest l H K→
  ∃(wr':Nat→SV) (sv:Nat→SV) (wn:Nat→Bool) (lf:List (Nat × SV)),K lf∧(∀(E:Env) (t:Nat) (v:Value),Rel E (wr' t) v→Rel E (look lf t) v)∧
   (∀t,(∀j o,k≤j→j<m→ops[j]? =some o→o.dst≠some t)→wr' t=wr t)∧
   (∀j o,k≤j→j<m→ops[j]? =some o→(∀t,o.dst=some t→wr' t=sv j)∧QP P Γ ops H N (rdM ops m wr0 wr' j) (sv j) (wn j) o):=by
 intro rest
 induction rest with
 | nil=>
  intro k hk loc ver w l a wr hI hT hRef hw0 h
  refine ⟨wr,fun _=>.any,fun _=>false,l,h,hRef,fun _ _=>rfl,fun j o h1 h2 h3=>?_⟩
  have:(ops.toList.take m).length≤k:=List.drop_eq_nil_iff.1 hk
  have hj:=(Array.getElem?_eq_some_iff.1 h3).1
  simp at this
  omega
 | cons o r ih=>
  intro k hk loc ver w l a wr hI hT hRef hw0 h
  have hko:(ops.toList.take m)[k]? =some o:=by
   have:((ops.toList.take m).drop k)[0]? =some o:=by rw[hk];rfl
   rw[List.getElem?_drop] at this
   simpa using this
  have hkm:k<m:=by
   rw[List.getElem?_take] at hko
   split at hko
   ·assumption
   ·cases hko
  have hop:ops[k]? =some o:=by
   rw[List.getElem?_take,if_pos hkm] at hko
   simpa using hko
  have hkr:(ops.toList.take m).drop (k+1)=r:=by rw[← List.drop_drop,hk];rfl
  have hok:=hq k o hkm hop
  simp only[Ln] at h
  obtain ⟨l',b,hyn,hlearn,hwant⟩:=Un h
  have hT':TRel (envOf G H loc ver w) N l' a:=⟨hT.size,fun t=>hlearn _ t _ (hT.rel t)⟩
  have hRef':∀(E:Env) (t:Nat) (v:Value),Rel E (wr t) v→Rel E (look l' t) v:=fun E t v h=>hlearn E t v (hRef E t v h)
  -- behind this operation, whatever it has left
  have step:∀ {loc':Nat→Loc} {ver':Nat→Nat} {w':World} {s:SV} {v:Value},Inv G H loc' ver' w'→Ext (envOf G H loc ver w) (envOf G H loc' ver' w')→Rel (envOf G H loc' ver' w') s v→
    setT N l' o.dst s (fun l''=>uV P Γ N ops.toList r l'' H K)→(b=false→s= .tup [])→
    (b=true→∃X,op1 P Γ o (dD l' o.op.operands.toList) H (fun s' H'=>Pinned (s'=s) (H'=H) X))→
    ∃(wr':Nat→SV) (sv:Nat→SV) (wn:Nat→Bool) (lf:List (Nat × SV)),K lf∧(∀(E:Env) (t:Nat) (v:Value),Rel E (wr' t) v→Rel E (look lf t) v)∧
     (∀t,(∀j o,k≤j→j<m→ops[j]? =some o→o.dst≠some t)→wr' t=wr t)∧
     (∀j o,k≤j→j<m→ops[j]? =some o→(∀t,o.dst=some t→wr' t=sv j)∧QP P Γ ops H N (rdM ops m wr0 wr' j) (sv j) (wn j) o):=by
   intro loc' ver' w' s v hI' hx' hrs hset hskip hrun
   obtain ⟨wr1,hwr1⟩:∃wr1:Nat→SV,wr1=fun t=>if o.dst=some t then s else wr t:=⟨_,rfl⟩
   have hnext:∃l'',uV P Γ N ops.toList r l'' H K∧TRel (envOf G H loc' ver' w') N l'' (a.put o.dst v)∧(∀(E:Env) (t:Nat) (v:Value),Rel E (wr1 t) v→Rel E (look l'' t) v)∧∀t,o.dst=some t→t<N:=by
    cases hd:o.dst with
    | none=>
     rw[hd] at hset
     refine ⟨l',hset,hT'.ext hx',fun E t v h=>?_,fun t h=>by cases h⟩
     rw[hwr1] at h
     simp only[hd] at h
     exact hRef' E t v (by simpa using h)
    | some u=>
     rw[hd] at hset
     obtain ⟨hu,hset⟩:=aE hset
     rw[aL] at hset
     have hu':u<N:=by simpa using hu
     refine ⟨_,hset,?_,fun E t v h=>?_,fun t h=>by cases h;exact hu'⟩
     ·refine ⟨by simp[Act.put];exact hT.size,fun t=>?_⟩
      rw[gD,nY a u t v (by rw[hT.size];exact hu')]
      by_cases e:t=u
      ·rw[if_pos e,if_pos e];exact hrs
      ·rw[if_neg e,if_neg e];exact (hT'.ext hx').rel t
     ·rw[hwr1] at h
      simp only[hd] at h
      rw[gD]
      by_cases e:t=u
      ·rw[if_pos e];rw[if_pos (by rw[e])] at h;exact h
      ·rw[if_neg e];rw[if_neg (fun e'=>e (by cases e';rfl))] at h;exact hRef' E t v h
   obtain ⟨l'',he,hT'',hRef'',hdN⟩:=hnext
   have hw1:∀t,(∀j o,j<k+1→ops[j]? =some o→o.dst≠some t)→wr1 t=wr0 t:=fun t ht=>by
    rw[hwr1]
    simp only[if_neg (ht k o (Nat.lt_succ_self k) hop)]
    exact hw0 t fun j o' hj=>ht j o' (by omega)
   obtain ⟨wr',sv,wn,lf,h1,h2,h3,h4⟩:=ih (k+1) hkr hI' hT'' hRef'' hw1 he
   have hwr:∀t,lk ops o t→rdM ops m wr0 wr' k t=wr t:=by
    intro t ht
    have hro:=mO hok ht
    unfold rdM
    by_cases hl:late ops m k t
    ·rw[if_pos hl]
     obtain ⟨j0,o0,g1,g2,g3,g4⟩:=hl
     obtain ⟨e,he,hb,hon⟩:=fP g4
     have hk0:=jK (htopo j0 o0 g2) e he hb
     refine (hw0 t fun j o' hj hj3 hd=>?_).symm
     have:=lM (hq j0 o0 g1 g2) g3 (show j<m by omega) hj3 hd
     omega
    ·rw[if_neg hl]
     have h5:=h3 t fun j o' hj1 hj2 hj3 hd=>by
      rcases fU hro hj2 hj3 hd with h6 | h6
      ·have:=h6.2;omega
      ·exact hl ⟨j,o',hj2,hj3,hd,h6⟩
     rw[h5,hwr1]
     have:o.dst≠some t:=fun hd=>by
      rcases fU hro hkm hop hd with h6 | h6
      ·have:=h6.2;omega
      ·exact hl ⟨k,o,hkm,hop,hd,h6⟩
     simp only[if_neg this]
   refine ⟨wr',fun j=>if j=k then s else sv j,fun j=>if j=k then b else wn j,lf,h1,h2,fun t ht=>?_,fun j o' hj1 hj2 hj3=>?_⟩
   ·rw[h3 t fun j o' hj1 hj2 hj3=>ht j o' (by omega) hj2 hj3,hwr1]
    simp only[if_neg (ht k o (Nat.le_refl _) hkm hop)]
   ·by_cases e:j=k
    ·subst e
     rw[hop] at hj3;cases hj3
     simp only[if_true]
     refine ⟨fun t hd=>?_,⟨fun E a hr=>hwant E a fun t ht=>hRef E t _ (by rw[← hwr t ht];exact hr t ht),fun hb=>?_,hskip,hdN⟩⟩
     ·rw[h3 t fun j' o' hj1' hj2' hj3' hd'=>by have:=lM hok hd hj2' hj3' hd';omega,hwr1]
      simp only[if_pos hd]
     ·obtain ⟨X,hX⟩:=hrun hb
      refine ⟨_,X,hX,fun t E v hr=>?_⟩
      rcases gX l' o.op.operands.toList t with h5 | ⟨h5,h6⟩
      ·rw[h5];exact .any v
      ·rw[h6]
       have hl:lk ops o t:=.inl h5
       exact hRef' E t v (by rw[← hwr t hl];exact hr hl)
    ·simp only[if_neg e]
     exact h4 j o' (by omega) hj2 hj3
  rcases hyn with ⟨rfl,hy⟩ | ⟨rfl,hn⟩
  ·obtain ⟨s,hs⟩:=hy.ex
   rw[aL] at hs
   have hTr:TRel (envOf G H loc ver w) N (dD l' o.op.operands.toList) a:=⟨hT.size,fun t=>by
    rcases gX l' o.op.operands.toList t with h5 | ⟨h5,h6⟩
    ·rw[h5];exact .any _
    ·rw[h6];exact hT'.rel t⟩
   obtain ⟨_,hopk⟩:=gW (F:=Fence.wide) hY hΓ ⟨none,rfl⟩ hI hTr hs
   obtain ⟨v,w',s',H',loc',ver',hp,hI',hr',hx'⟩:=hopk.ex
   obtain ⟨rfl,rfl,hgo⟩:=hp
   exact step hI' hx' hr' hgo (fun h=>by cases h) (fun _=>⟨_,hs⟩)
  ·exact step hI (Ext.refl _) (.tup [] [] .nil) hn (fun _=>rfl) (fun h=>by cases h)
end
end Go.Eng
end
section
namespace Go.Eng
section
variable {P:Program}
theorem Rx {F:Fence} {n:Nat} {o:Oper} {a a':Act} {K K':Act→World→Prop} {Q:Exit→Act→World→Prop} (hQn:∀e a w,Q e a w→e= .normal)
  (hK:∀v w,K' (a'.put o.dst v) w→K (a.put o.dst v) w) (hKd:∀d v w,K' ({ a' with defers:=d::a'.defers }.put o.dst v) w→K ({ a with defers:=d::a.defers }.put o.dst v) w)
  {r:Result Next} (hh:o.uponIn F n P a' K' Q r):o.uponIn F n P a K Q r:=by
 cases r with
 | ok x w'=>
  cases x<;>simp only[Oper.uponIn] at hh ⊢
  case value=>exact hK _ _ hh
  case skip=>exact hK _ _ hh
  case defer=>exact hKd _ _ _ hh
  case enter=>exact ⟨hh.1,CallsIn.mono hh.2 (fun e w'' he=>by
   cases e with
   | returned v=>exact hK _ _ he
   | panicked c=>exact absurd (hQn _ _ _ he) (by simp)
   | outgrown=>exact he)⟩
  case row=>exact ⟨hh.1,RowsIn.mono hh.2 (fun _ _ he=>hK _ _ he)⟩
  case round=>exact ⟨hh.1,RoundIn.mono hh.2 (fun e w'' he=>by
   cases e with
   | returned v=>exact hK _ _ he
   | panicked c=>exact absurd (hQn _ _ _ he) (by simp)
   | outgrown=>exact he)⟩
  all_goals exact hh
 | halt x w'=>
  cases x<;>simp only[Oper.uponIn] at hh ⊢
  case panic=>exact absurd (hQn _ _ _ hh) (by simp)
  all_goals exact hh
theorem Mj {F:Fence} {n:Nat} {o:Oper} {a:Act} {K K':Act→World→Prop} {Q Q':Exit→Act→World→Prop} (hQ:∀e a w,Q e a w→Q' e a w) (hK:∀a w,K a w→K' a w)
  {r:Result Next} (hh:o.uponIn F n P a K Q r):o.uponIn F n P a K' Q' r:=by
 have hL:LetsOut Q→LetsOut Q':=fun ⟨a,w,h⟩=>⟨a,w,hQ _ _ _ h⟩
 cases r with
 | ok x w'=>
  cases x<;>simp only[Oper.uponIn] at hh ⊢
  case value=>exact hK _ _ hh
  case skip=>exact hK _ _ hh
  case defer=>exact hK _ _ hh
  case enter=>exact ⟨hh.1,CallsIn.mono hh.2 (fun e w'' he=>by
   cases e with
   | returned v=>exact hK _ _ he
   | panicked c=>exact hQ _ _ _ he
   | outgrown=>exact hL he)⟩
  case row=>exact ⟨hh.1,RowsIn.mono hh.2 (fun _ _ he=>hK _ _ he)⟩
  case round=>exact ⟨hh.1,RoundIn.mono hh.2 (fun e w'' he=>by
   cases e with
   | returned v=>exact hK _ _ he
   | panicked c=>exact hQ _ _ _ he
   | outgrown=>exact hL he)⟩
  all_goals exact hh
 | halt x w'=>
  cases x<;>simp only[Oper.uponIn] at hh ⊢
  case panic=>exact hQ _ _ _ hh
  all_goals exact hh
theorem pQ {F:Fence} {n:Nat} {ops:Array Oper} {Q Q':Exit→Act→World→Prop} (hQ:∀e a w,Q e a w→Q' e a w):∀(fuel:Nat) (listed:Array Bool) (a:Act) (w:World),wpAnyIn F n P .any ops Q fuel listed a w→wpAnyIn F n P .any ops Q' fuel listed a w
 | 0,_,_,_,h=>⟨h.1,hQ _ _ _ h.2⟩
 | f+1,listed,a,w,h=>by
  refine ⟨fun hr=>hQ _ _ _ (h.1 hr),fun i hi=>?_⟩
  have:=h.2 i hi
  unfold wpOpIn at this ⊢
  cases ho:ops[i]? with
  | none=>rw[ho] at this;exact pQ hQ f _ _ _ this
  | some o=>
   rw[ho] at this
   simp only at this ⊢
   split
   ·rename_i hw
    rw[if_pos hw] at this
    exact ⟨this.1,Mj hQ (fun a w h=>pQ hQ f _ _ _ h) this.2⟩
   ·rename_i hw
    rw[if_neg hw] at this
    exact ⟨this.1,pQ hQ f _ _ _ this.2⟩
theorem Pb {a:Act} {t:Nat} {v:Value} {u:Nat} (h:u≠t):(a.put (some t) v).tmps.getD u undef=a.tmps.getD u undef:=by
 simp only[Act.put,Array.getD_eq_getD_getElem?,Array.getElem?_setIfInBounds]
 rw[if_neg (Ne.symm h)]
theorem Uu {a:Act} {t:Nat} {v:Value} {d:Option Nat} {u:Value} (h:d≠some t):(a.put (some t) v).put d u=(a.put d u).put (some t) v:=by
 cases d with
 | none=>rfl
 | some d=>
  have hne:d≠t:=fun e=>h (by rw[e])
  simp only[Act.put]
  congr 1
  apply Array.ext_getElem?
  intro i
  simp only[Array.getElem?_setIfInBounds,Array.size_setIfInBounds]
  by_cases h1:d=i
  ·subst h1;simp[Ne.symm hne]
  ·by_cases h2:t=i
   ·subst h2;simp[h1]
   ·simp[h1,h2]
theorem Je {l:Array Bool} {i j:Nat}:(l.setIfInBounds i true).setIfInBounds j true=(l.setIfInBounds j true).setIfInBounds i true:=by
 apply Array.ext_getElem?
 intro k
 simp only[Array.getElem?_setIfInBounds,Array.size_setIfInBounds]
 by_cases h1:i=k<;>by_cases h2:j=k<;>simp[h1,h2]
theorem eF {listed:Array Bool} {i:Nat} (hi:listed.getD i true=false):(listed.setIfInBounds i true).getD i false=true:=by
 rw[Array.getD_eq_getD_getElem?] at hi ⊢
 rw[Array.getElem?_setIfInBounds]
 by_cases h:i<listed.size
 ·simp[h]
 ·rw[Array.getElem?_eq_none (by omega)] at hi;simp at hi
structure Free (ops:Array Oper) (i:Nat) (o:Oper) (x:Operand) (t:Nat):Prop where
 at_:ops[i]? =some o
 op:pureArg o.op=some x
 guard:o.guard=none
 dst:o.dst=some t
 only:∀(j:Nat) (o':Oper),j≠i→ops[j]? =some o'→o'.dst≠some t
 src:∀(j:Nat) (o':Oper),ops[j]? =some o'→waits o j=true∨∀u,x= .tmp u→o'.dst≠some u
 readers:∀(j:Nat) (o':Oper),j≠i→ops[j]? =some o'→lk ops o' t→waits o' i=true
 nosel:∀(j:Nat) (o':Oper),ops[j]? =some o'→(∀cs b,o'.op≠ .select cs b)∧∀c,o'.op≠ .defer c
theorem qN {o:Oper} {x:Operand} (h:pureArg o.op=some x):∀c,o.op≠ .defer c:=fun c e=>by rw[e] at h;cases h
theorem aBz {F:Fence} (hF:∀f,F.fn f) {n:Nat} {ops:Array Oper} {Q:Exit→Act→World→Prop} (hQn:∀e a w,Q e a w→e= .normal) {i:Nat} {o:Oper} {x:Operand} {t:Nat} (hf:Free ops i o x t) {vx v0:Value}
  (H0:∀(ρ:Operand→Value) (w:World),ρ x=vx→(execOp ρ o).run P w= .ok (.value v0) w):
  ∀(fuel:Nat) (listed:Array Bool) (a:Act) (w:World),listed.size=ops.size→listed.getD i true=false→(∀e∈o.after,Region.binds .any e=true→listed.getD e.on false=true)→a.eval x=vx→wpAnyIn F n P .any ops Q fuel (listed.setIfInBounds i true) (a.put (some t) v0) w→wpAnyIn F n P .any ops Q (fuel+1) listed a w:=by
 intro fuel
 induction fuel with
 | zero=>
  intro listed a w hls hi hdep hvx h
  have hri:i∈Region.ready .any ops listed:=mem_ready.2 ⟨hi,o,hf.at_,hdep⟩
  refine ⟨fun hr=>(by rw[hr] at hri;cases hri),fun j hj=>?_⟩
  by_cases hji:j=i
  ·subst hji
   unfold wpOpIn
   simp only[hf.at_]
   rw[if_pos (by simp[Region.wanted,hf.guard])]
   refine ⟨fun f _=>hF f,?_⟩
   have e1:(o.semAt F.round a.eval).run P w= .ok (.value v0) w:=by
    rw[Oper.semAt_eq _ _ _ (qN hf.op)]
    exact H0 a.eval w hvx
   rw[e1,Oper.uponIn_value,hf.dst]
   exact h
  ·obtain ⟨h1,oj,hoj,h2⟩:=mem_ready.1 hj
   exfalso
   have:j∈Region.ready .any ops (listed.setIfInBounds i true):=mem_ready.2 ⟨by rw[getD_set_ne true (Ne.symm hji)];exact h1,oj,hoj,fun e he hb=>by
    by_cases he2:e.on=i
    ·rw[he2]
     have his:=(Array.getElem?_eq_some_iff.1 hf.at_).1
     simp[Array.getD_eq_getD_getElem?,Array.getElem?_setIfInBounds,hls,his]
    ·rw[getD_set_ne false (Ne.symm he2)];exact h2 e he hb⟩
   rw[h.1] at this;cases this
 | succ f ih=>
  intro listed a w hls hi hdep hvx h
  have hri:i∈Region.ready .any ops listed:=mem_ready.2 ⟨hi,o,hf.at_,hdep⟩
  refine ⟨fun hr=>(by rw[hr] at hri;cases hri),fun j hj=>?_⟩
  by_cases hji:j=i
  ·subst hji
   unfold wpOpIn
   simp only[hf.at_]
   rw[if_pos (by simp[Region.wanted,hf.guard])]
   refine ⟨fun f _=>hF f,?_⟩
   have e1:(o.semAt F.round a.eval).run P w= .ok (.value v0) w:=by
    rw[Oper.semAt_eq _ _ _ (qN hf.op)]
    exact H0 a.eval w hvx
   rw[e1,Oper.uponIn_value,hf.dst]
   exact h
  ·obtain ⟨h1,oj,hoj,h2⟩:=mem_ready.1 hj
   have hjr:j∈Region.ready .any ops (listed.setIfInBounds i true):=mem_ready.2 ⟨by rw[getD_set_ne true (Ne.symm hji)];exact h1,oj,hoj,fun e he hb=>by
    by_cases he2:e.on=i
    ·rw[he2]
     have his:=(Array.getElem?_eq_some_iff.1 hf.at_).1
     simp[Array.getD_eq_getD_getElem?,Array.getElem?_setIfInBounds,hls,his]
    ·rw[getD_set_ne false (Ne.symm he2)];exact h2 e he hb⟩
   have hstep:=h.2 j hjr
   have his:=(Array.getElem?_eq_some_iff.1 hf.at_).1
   -- it does not read what the move writes
   have hnr:¬lk ops oj t:=fun hl=>by
    obtain ⟨e,he⟩:=List.any_eq_true.1 (hf.readers j oj hji hoj hl)
    obtain ⟨he1,he2⟩:=he
    simp only[Bool.and_eq_true] at he2
    have:=h2 e (by simpa using he1) he2.1
    rw[Nat.eq_of_beq_eq_true he2.2] at this
    rw[Array.getD_eq_getD_getElem?] at this hi
    rw[Array.getElem?_eq_getElem (by omega)] at this hi
    simp at this hi
    rw[this] at hi;cases hi
   have hdt:oj.dst≠some t:=hf.only j oj hji hoj
   have hsrc:∀u,x= .tmp u→oj.dst≠some u:=(hf.src j oj hoj).resolve_left fun hw=>by
    obtain ⟨e,he⟩:=List.any_eq_true.1 hw
    obtain ⟨he1,he2⟩:=he
    simp only[Bool.and_eq_true] at he2
    have:=hdep e (by simpa using he1) he2.1
    rw[Nat.eq_of_beq_eq_true he2.2] at this
    rw[Array.getD_eq_getD_getElem?] at this h1
    have hjs:=(Array.getElem?_eq_some_iff.1 hoj).1
    rw[Array.getElem?_eq_getElem (by omega)] at this h1
    simp at this h1
    rw[this] at h1;cases h1
   have hv:∀d u,(∀e,x= .tmp e→d≠some e)→∀a:Act,(a.put d u).eval x=a.eval x:=by
    intro d u hd a
    cases x with
    | tmp e=>
     cases d with
     | none=>rfl
     | some d=>exact Pb (a:=a) (t:=d) (v:=u) (u:=e) fun he=>hd e rfl (by rw[he])
    | _=>cases d<;>rfl
   have hop:∀y∈oj.op.operands,(a.put (some t) v0).eval y=a.eval y:=by
    intro y hy
    cases y with
    | tmp e=>exact Pb fun he=>hnr (.inl (by subst he;simpa using hy))
    | _=>rfl
   have hwant:Region.wanted oj (yielded ops (a.put (some t) v0).tmps)=Region.wanted oj (yielded ops a.tmps):=by
    unfold Region.wanted
    cases hg:oj.guard with
    | none=>rfl
    | some p=>
     obtain ⟨q,want⟩:=p
     simp only
     congr 1
     unfold yielded
     cases hq:(ops[q]?).bind (·.dst) with
     | none=>rfl
     | some u=>
      have hut:u≠t:=fun e=>hnr (.inr ⟨q,want,hg,by rw[hq,e]⟩)
      simp only[Option.bind_some,Act.put,Array.getElem?_setIfInBounds]
      rw[if_neg (Ne.symm hut)]
   have next:∀(b:Act) (u:Value) (w:World),b.eval x=vx→wpAnyIn F n P .any ops Q f ((listed.setIfInBounds i true).setIfInBounds j true) ((b.put (some t) v0).put oj.dst u) w→wpAnyIn F n P .any ops Q (f+1) (listed.setIfInBounds j true) (b.put oj.dst u) w:=by
    intro b u w hb0 hb
    refine ih (listed.setIfInBounds j true) (b.put oj.dst u) w (by simpa using hls) (by rw[getD_set_ne true hji];exact hi) (fun e he hbd=>?_) (by rw[hv oj.dst u hsrc b,hb0]) ?_
    ·by_cases hej:e.on=j
     ·rw[hej];exact eF h1
     ·rw[getD_set_ne false (Ne.symm hej)];exact hdep e he hbd
    rw[← Uu hdt,← Je]
    exact hb
   unfold wpOpIn at hstep ⊢
   simp only[hoj] at hstep ⊢
   rw[hwant] at hstep
   split
   ·rename_i hw
    rw[if_pos hw] at hstep
    refine ⟨fun f _=>hF f,?_⟩
    have hs2:=hstep.2
    have e1:∀ρ,oj.semAt F.round ρ=execOp ρ oj:=fun ρ=>Oper.semAt_eq _ _ _ (hf.nosel j oj hoj).2
    rw[e1,execOp_congr oj (hf.nosel j oj hoj).1 hop] at hs2
    rw[e1]
    exact Rx hQn (fun v w hk=>next a v w hvx hk) (fun d v w hk=>by
     have:=next { a with defers:=d::a.defers } v w hvx
     refine this ?_
     exact hk) hs2
   ·rename_i hw
    rw[if_neg hw] at hstep
    exact ⟨fun f _=>hF f,next a undef w hvx hstep.2⟩
end
end Go.Eng
end

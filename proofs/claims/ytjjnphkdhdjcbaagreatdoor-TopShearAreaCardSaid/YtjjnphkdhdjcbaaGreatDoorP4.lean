/-
  Part 4: a symbolic executor over the model, contracts of functions and plain laws.
-/
import Derived.Test.YtjjnphkdhdjcbaaGreatDoorP3
import Derived.RangeFuncLeaves
import Derived.SizedLaws
import Derived.OpenShut
import Derived.DataReads
import Derived.Below
import Derived.Shelf.Abstract
import Derived.Lib.ItoaNum
set_option linter.unusedVariables false
set_option linter.unusedSimpArgs false
set_option maxRecDepth 10000
set_option maxHeartbeats 80000000
section
namespace Go.Eng
open Go.RowKit
section
variable {P:Program} {G:Ctx} {N:Nat} {Γ:List Con}
theorem fV {ops:Array Oper} {p:Nat→Oper→Bool} {n:Nat} (h:El ops.toList p n=true) {i:Nat} {o:Oper} (hi:i<n) (ho:ops[i]? =some o):p i o=true:=by
 have:=List.all_eq_true.1 h i (List.mem_range.2 hi)
 simpa [Array.getElem?_toList,ho] using this
def unl (listed:Array Bool):Nat→Nat
 | 0=>0
 | n+1=>unl listed n+(if listed.getD n true=false then 1 else 0)
theorem Fd {listed:Array Bool} {i:Nat} (hi:listed.getD i true=false):∀n,unl (listed.setIfInBounds i true) n+(if i<n then 1 else 0)=unl listed n
 | 0=>rfl
 | n+1=>by
  have ih:=Fd hi n
  simp only[unl]
  by_cases e:i=n
  ·subst e
   have:(listed.setIfInBounds i true).getD i true=true:=by
    rw[Array.getD_eq_getD_getElem?,Array.getElem?_setIfInBounds];simp;split<;>rfl
   rw[this,hi]
   simp at ih ⊢;omega
  ·rw[getD_set_ne true e]
   have:(if i<n+1 then 1 else 0)=(if i<n then 1 else 0):=by
    by_cases h:i<n
    ·simp[h];omega
    ·have h2:¬i<n+1:=by omega
     simp[h,h2]
   omega
theorem cI {listed:Array Bool} {i:Nat} (h:i<listed.size):listed.getD i true=listed.getD i false:=by
 simp[Array.getD_eq_getD_getElem?,Array.getElem?_eq_getElem h]
theorem Cg {ms:List Nat} {j:Nat}:∀(l:List Edge) (acc:Nat),Nat.testBit (l.foldl (fun acc e=>bif Region.binds .any e then Nat.lor (Nat.lor acc (Nat.shiftLeft 1 e.on)) (ms.getD e.on 0) else acc) acc) j=true→
  Nat.testBit acc j=true∨∃e∈l,Region.binds .any e=true∧(e.on=j∨Nat.testBit (ms.getD e.on 0) j=true)
 | [],acc,h=>.inl h
 | e::l,acc,h=>by
  rcases Cg l _ h with h1 | ⟨e',h1,h2,h3⟩
  ·cases hb:Region.binds .any e with
   | false=>simp only[hb,cond_false] at h1;exact .inl h1
   | true=>
    simp only[hb,cond_true] at h1
    have h1':Nat.testBit ((acc ||| (1 <<<e.on)) ||| (ms.getD e.on 0)) j=true:=h1
    simp only[Nat.testBit_or,Bool.or_eq_true] at h1'
    rcases h1' with (h2 | h2) | h2
    ·exact .inl h2
    ·refine .inr ⟨e,List.mem_cons_self,hb,.inl ?_⟩
     rw[Nat.testBit_shiftLeft] at h2
     simp only[Bool.and_eq_true,decide_eq_true_eq] at h2
     have h3:=h2.2
     by_cases hz:j-e.on=0
     ·omega
     ·obtain ⟨q,hq⟩:=Nat.exists_eq_succ_of_ne_zero hz
      rw[hq] at h3
      simp[Nat.testBit_succ] at h3
    ·exact .inr ⟨e,List.mem_cons_self,hb,.inr h2⟩
  ·exact .inr ⟨e',List.mem_cons_of_mem _ h1,h2,h3⟩
theorem Up {ms:List Nat} {o:Oper} {j:Nat} (h:Nat.testBit (nU ms o) j=true):∃e∈o.after,Region.binds .any e=true∧(e.on=j∨Nat.testBit (ms.getD e.on 0) j=true):=by
 rcases Cg _ _ h with h1 | ⟨e,h1,h2⟩
 ·simp at h1
 ·exact ⟨e,by simpa using h1,h2⟩
def Closed (ops:Array Oper) (L:Nat→Prop):Prop:=∀(i:Nat) (o:Oper),ops[i]? =some o→L i→∀e∈o.after,Region.binds .any e=true→L e.on
theorem yO {ops:Array Oper} {L:Nat→Prop} (hc:Closed ops L):∀(rest:List Oper) (ms:List Nat),ops.toList.drop ms.length=rest→
  (∀i j,Nat.testBit (ms.getD i 0) j=true→(∀o,ops[i]? =some o→∀e∈o.after,Region.binds .any e=true→L e.on)→L j)→
  (∀i j,Nat.testBit ((fL rest ms).getD i 0) j=true→(∀o,ops[i]? =some o→∀e∈o.after,Region.binds .any e=true→L e.on)→L j)
 | [],ms,_,h=>h
 | o::r,ms,hd,h=>by
  have ho:ops[ms.length]? =some o:=by
   have:(ops.toList.drop ms.length)[0]? =some o:=by rw[hd];rfl
   rw[List.getElem?_drop] at this
   simpa using this
  refine yO hc r (ms++ [nU ms o]) (by rw[List.length_append,List.length_singleton,← List.drop_drop,hd];rfl) ?_
  intro i j hb hp
  by_cases hi:i<ms.length
  ·have e1:(ms++ [nU ms o]).getD i 0=ms.getD i 0:=by simp[List.getD_eq_getElem?_getD,List.getElem?_append_left hi]
   rw[e1] at hb
   exact h i j hb hp
  ·by_cases hi2:i=ms.length
   ·subst hi2
    have e1:(ms++ [nU ms o]).getD ms.length 0=nU ms o:=by simp[List.getD_eq_getElem?_getD]
    rw[e1] at hb
    obtain ⟨e,he,hbd,h3 | h3⟩:=Up hb
    ·rw[← h3];exact hp o ho e he hbd
    ·exact h e.on j h3 fun o' ho' e' he' hb'=>hc e.on o' ho' (hp o ho e he hbd) e' he' hb'
   ·have e1:(ms++ [nU ms o]).getD i 0=0:=by
     rw[List.getD_eq_getElem?_getD,List.getElem?_eq_none (by simp;omega)];rfl
    rw[e1] at hb;simp at hb
theorem kJ {ops:Array Oper} {L:Nat→Prop} (hc:Closed ops L) {i j:Nat} {o:Oper} (ho:ops[i]? =some o) (h:fE (fL ops.toList []) i j=true) (hp:∀e∈o.after,Region.binds .any e=true→L e.on):L j:=
 yO hc ops.toList [] rfl (fun i j hb=>by simp at hb) i j h fun o' ho'=>by rw[ho] at ho';cases ho';exact hp
theorem yP (hY:COK P G) (hΓ:∀c∈Γ,aD P c) {F:Fence} (hF:Opn F) {n:Nat} {ops:Array Oper} (htopo:∀i o,ops[i]? =some o→topo i o=true) {m:Nat} (htail:∀i o,m≤i→ops[i]? =some o→∀j,m≤j→j<i→fE (fL ops.toList []) i j=true):
  ∀(rest:List Oper) (k:Nat),ops.toList.drop k=rest→m≤k→∀(fuel:Nat) (listed:Array Bool),listed.size=ops.size→rest.length≤fuel→(∀j,j<k→listed.getD j false=true)→(∀j,k≤j→j<ops.size→listed.getD j true=false)→
  ∀ {H:List HO} {loc:Nat→Loc} {ver:Nat→Nat} {w:World} {l:List (Nat × SV)} {a:Act} {K:List (Nat × SV)→List HO→Prop} {Q:Exit→Act→World→Prop},
  Inv G H loc ver w→TRel (envOf G H loc ver w) N l a→fJ P Γ N ops.toList rest l H K→
  (∀l' H' loc' ver' a' w',K l' H'→Inv G H' loc' ver' w'→TRel (envOf G H' loc' ver' w') N l' a'→Ext (envOf G H loc ver w) (envOf G H' loc' ver' w')→Same (ops.toList.filterMap (·.dst)) a a'→a'.defers=a.defers→Q .normal a' w')→
  wpAnyIn F n P .any ops Q fuel listed a w:=by
 intro rest
 induction rest with
 | nil=>
  intro k hk hmk fuel listed hls hfu hl1 hl2 H loc ver w l a K Q hI hT h hQ
  have hq:Q .normal a w:=hQ l H loc ver a w h hI hT (Ext.refl _) (Same.refl _ _) rfl
  have hks:ops.size≤k:=by simpa using List.drop_eq_nil_iff.1 hk
  have hr:Region.ready .any ops listed= []:=by
   apply List.eq_nil_iff_forall_not_mem.2
   intro j hj
   obtain ⟨h1,o,ho,_⟩:=mem_ready.1 hj
   have hjs:=(Array.getElem?_eq_some_iff.1 ho).1
   rw[cI (by omega),hl1 j (by omega)] at h1
   cases h1
  cases fuel with
  | zero=>exact ⟨hr,hq⟩
  | succ f=>exact ⟨fun _=>hq,fun i hi=>by rw[hr] at hi;cases hi⟩
 | cons o r ih=>
  intro k hk hmk fuel listed hls hfu hl1 hl2 H loc ver w l a K Q hI hT h hQ
  have hko:ops[k]? =some o:=by
   have:(ops.toList.drop k)[0]? =some o:=by rw[hk];rfl
   rw[List.getElem?_drop] at this
   simpa using this
  have hks:=(Array.getElem?_eq_some_iff.1 hko).1
  have hkr:ops.toList.drop (k+1)=r:=by rw[← List.drop_drop,hk];rfl
  have hmem:o∈ops.toList:=by
   obtain ⟨hlt,rfl⟩:=Array.getElem?_eq_some_iff.1 hko
   simp
  cases fuel with
  | zero=>simp at hfu
  | succ f=>
   have hrk:k∈Region.ready .any ops listed:=mem_ready.2 ⟨hl2 k (Nat.le_refl _) hks,o,hko,fun e he hb=>hl1 _ (jK (htopo k o hko) e he hb)⟩
   refine ⟨fun hr=>(by rw[hr] at hrk;cases hrk),fun i hi=>?_⟩
   obtain ⟨h1,oi,hoi,h2⟩:=mem_ready.1 hi
   have his:=(Array.getElem?_eq_some_iff.1 hoi).1
   have hik:i=k:=by
    rcases Nat.lt_trichotomy i k with hlt | he | hgt
    ·rw[cI (by omega),hl1 i hlt] at h1;cases h1
    ·exact he
    ·have hcl:Closed ops (fun j=>listed.getD j false=true):=fun j oj hoj hj e he hb=>by
      have hjs:=(Array.getElem?_eq_some_iff.1 hoj).1
      have hjk:j<k:=Classical.byContradiction fun hn=>by
       have:=hl2 j (by omega) hjs
       rw[cI (by omega),hj] at this;cases this
      exact hl1 _ (by have:=jK (htopo j oj hoj) e he hb;omega)
     have:=kJ hcl hoi (htail i oi (by omega) hoi k hmk hgt) (fun e he hb=>h2 e he hb)
     rw[← cI (by omega),hl2 k (Nat.le_refl _) hks] at this
     cases this
   subst hik
   simp only[rQ] at h
   unfold wpOpIn
   simp only[hko]
   have hrest:∀ {H':List HO} {loc':Nat→Loc} {ver':Nat→Nat} {w':World} {l':List (Nat × SV)} {v:Value},Inv G H' loc' ver' w'→TRel (envOf G H' loc' ver' w') N l' (a.put o.dst v)→Ext (envOf G H loc ver w) (envOf G H' loc' ver' w')→
     fJ P Γ N ops.toList r l' H' K→wpAnyIn F n P .any ops Q f (listed.setIfInBounds i true) (a.put o.dst v) w':=by
    intro H' loc' ver' w' l' v hI' hT' hx' h'
    refine ih (i+1) hkr (by omega) f _ (by simp[hls]) (by simpa using hfu) (fun j hj=>?_) (fun j hj hjs=>?_) hI' hT' h' ?_
    ·by_cases e:i=j
     ·subst e;exact eF h1
     ·rw[getD_set_ne false e];exact hl1 j (by omega)
    ·rw[getD_set_ne true (by omega)];exact hl2 j (by omega) hjs
    ·intro l3 H3 loc3 ver3 a3 w3 h3 hI3 hT3 hx3 hs3 hd3
     refine hQ l3 H3 loc3 ver3 a3 w3 h3 hI3 hT3 (hx'.trans hx3) ((Same.put a o.dst v fun t ht=>oE hmem ht).trans hs3) (hd3.trans ?_)
     cases o.dst<;>rfl
   obtain ⟨l',hT',⟨hw,h⟩ | ⟨hw,h⟩⟩:=sI hT h
   ·rw[if_pos hw]
    obtain ⟨hnd,hok⟩:=gW hY hΓ hF hI hT' h
    refine hok.wpIn hF hnd ?_
    rintro v w' ⟨s,H',loc',ver',hk',hI',hr',hx'⟩
    obtain ⟨l'',hk'',hT''⟩:=(hT'.ext hx').any o.dst hk' hr'
    exact hrest hI' hT'' hx' hk''
   ·rw[if_neg (by rw[hw];simp)]
    refine ⟨fun f _=>hF.fn f,?_⟩
    obtain ⟨l'',hk'',hT''⟩:=hT'.any o.dst h (.tup [] [] .nil)
    exact hrest hI hT'' (Ext.refl _) hk''
theorem vN {ops:Array Oper} {i:Nat} {o:Oper} (ho:ops[i]? =some o) (h:kS ops.toList i=true):∃x t,Free ops i o x t:=by
 unfold kS Ei at h
 simp only[Array.getElem?_toList,ho] at h
 split at h
 ·rename_i x t h1 h2 h3
  rw[Bool.and_eq_true] at h
  have h5:=h.2
  have hall:∀(j:Nat) (o':Oper),ops[j]? =some o'→(j=i∨o'.dst≠some t)∧(To x o'=false∨waits o j=true)∧(j=i∨Lo ops.toList o' t=false∨waits o' i=true)∧Tq o'=true:=by
   intro j o' ho'
   have hj:=(Array.getElem?_eq_some_iff.1 ho').1
   have:=List.all_eq_true.1 h5 j (List.mem_range.2 (by simpa using hj))
   simp only[Array.getElem?_toList,ho',Bool.and_eq_true,Bool.or_eq_true,aJ,Bool.not_eq_true'] at this
   obtain ⟨q1,q2,q3,q4⟩:=this
   refine ⟨q1.imp id fun h e=>?_,q2,q3,q4⟩
   have:=pP.2 e
   rw[this] at h;cases h
  refine ⟨x,t,ho,h1,h2,h3,fun j o' hj ho'=>((hall j o' ho').1.resolve_left hj),fun j o' ho'=>?_,fun j o' hj ho' hl=>?_,fun j o' ho'=>?_⟩
  ·rcases (hall j o' ho').2.1 with h | h
   ·refine .inr fun u hu=>?_
    subst hu
    simp only[To] at h
    intro e
    rw[pP.2 e] at h;cases h
   ·exact .inl h
  ·rcases (hall j o' ho').2.2.1.resolve_left hj with h | h
   ·exfalso
    unfold Lo at h
    simp only[Bool.or_eq_false_iff] at h
    obtain ⟨r1,r2⟩:=h
    rcases hl with hl | ⟨q,b,hg,hd⟩
    ·have:=List.any_eq_false.1 r1 _ hl
     simp at this
    ·rw[hg] at r2
     simp only[Oe] at r2
     have e:(ops.toList[q]?).bind (·.dst)=some t:=by simpa using hd
     rw[e] at r2
     simp at r2
   ·exact h
  ·have:=(hall j o' ho').2.2.2
   unfold Tq at this
   constructor
   ·intro cs b e;rw[e] at this;cases this
   ·intro c e;rw[e] at this;cases this
 ·cases h
theorem Iu {E:Env} {o:Oper} {x:Operand} (hop:pureArg o.op=some x) {lr:List (Nat × SV)} {H:List HO} {K:SV→List HO→Prop} {v:Value} (hX:op1 P Γ o lr H K) (hr:Rel E (ev lr x) v):
  ∃s v0,K s H∧Rel E s v0∧∀(ρ:Operand→Value) (w:World),ρ x=v→(execOp ρ o).run P w= .ok (.value v0) w:=by
 unfold op1 at hX
 cases ho:o.op with
 | move y=>
  rw[ho] at hop hX
  cases hop
  simp only[dB] at hX
  exact ⟨_,v,hX,hr,fun ρ w h=>by simp[execOp,ho,h]⟩
 | extract y k=>
  rw[ho] at hop hX
  cases hop
  simp only at hX
  split at hX
  ·rename_i vs hx
   obtain ⟨hb,hX⟩:=aE hX
   rw[dB] at hX
   rw[hx] at hr
   cases hr with
   | tup _ us hl=>
    have hlt:k<vs.length:=by simpa using hb
    have hlt':k<us.length:=by rw[← hl.length];exact hlt
    exact ⟨_,us.getD k undef,hX,hl.get k hlt,fun ρ w h=>by simp[execOp,ho,h,Instr.extract,hlt']⟩
  ·exact hX.elim
 | _=>rw[ho] at hop;cases hop
theorem Mc (hY:COK P G) (hΓ:∀c∈Γ,aD P c) {F:Fence} (hF:Opn F) {n:Nat} {ops:Array Oper} {m:Nat} (hok:pC ops.toList m=true)
  {H:List HO} {loc:Nat→Loc} {ver:Nat→Nat} {w:World} {l:List (Nat × SV)} {a:Act} {K:List (Nat × SV)→List HO→Prop} {Q:Exit→Act→World→Prop} (hQn:∀e a w,Q e a w→e= .normal) (hI:Inv G H loc ver w) (hT:TRel (envOf G H loc ver w) N l a)
  (h:uV P Γ N ops.toList (ops.toList.take m) l H fun l'=>fJ P Γ N ops.toList (ops.toList.drop m) l' H K)
  (hQ:∀l' H' loc' ver' a' w',K l' H'→Inv G H' loc' ver' w'→TRel (envOf G H' loc' ver' w') N l' a'→Ext (envOf G H loc ver w) (envOf G H' loc' ver' w')→Same (ops.toList.filterMap (·.dst)) a a'→a'.defers=a.defers→Q .normal a' w'):
  wpAnyIn F n P .any ops Q ops.size (Array.replicate ops.size false) a w:=by
 simp only[pC,Bool.and_eq_true] at hok
 obtain ⟨hq0,hq1,hq2,hq3⟩:=hok
 have hms:m≤ops.size:=by simpa using hq0
 have hq:∀i o,i<m→ops[i]? =some o→opOk ops.toList m i o=true:=fun i o hi ho=>fV hq1 hi ho
 have htopo:∀i o,ops[i]? =some o→topo i o=true:=fun i o ho=>fV hq2 (by simpa using (Array.getElem?_eq_some_iff.1 ho).1) ho
 have htail0:∀i o,m≤i→ops[i]? =some o→∀j,j<i→fE (fL ops.toList []) i j=true∨(j<m∧kS ops.toList j=true):=by
  intro i o hi ho j hj
  rw[pB] at hq3
  have:=fV hq3 (by simpa using (Array.getElem?_eq_some_iff.1 ho).1) ho
  simp only[Bool.or_eq_true] at this
  rcases this with h1 | h1
  ·have:i<m:=by simpa using h1
   omega
  ·have:=List.all_eq_true.1 h1 j (List.mem_range.2 hj)
   simpa using this
 have htail:∀i o,m≤i→ops[i]? =some o→∀j,m≤j→j<i→fE (fL ops.toList []) i j=true:=by
  intro i o hi ho j hm hj
  rcases htail0 i o hi ho j hj with h | h
  ·exact h
  ·omega
 obtain ⟨wr,sv,wn,lf,hlf,hRef,hwr,hQP⟩:=virt hY hΓ hq htopo (look l) (ops.toList.take m) 0 (by simp) (wr:=look l) hI hT (fun _ _ _ h=>h) (fun _ _=>rfl) h
 -- some of the first operations have come up
 suffices key:∀(fuel:Nat) (listed:Array Bool) (b:Act) (w1:World) (loc1:Nat→Loc) (ver1:Nat→Nat),listed.size=ops.size→unl listed m+(ops.size-m)≤fuel→(∀j,m≤j→j<ops.size→listed.getD j true=false)→Closed ops (fun j=>listed.getD j false=true)→
   Inv G H loc1 ver1 w1→Ext (envOf G H loc ver w) (envOf G H loc1 ver1 w1)→b.tmps.size=N→b.defers=a.defers→Same (ops.toList.filterMap (·.dst)) a b→
   (∀t j o,j<m→ops[j]? =some o→o.dst=some t→listed.getD j false=true→Rel (envOf G H loc1 ver1 w1) (wr t) (b.tmps.getD t undef))→
   (∀t,(∀j o,j<m→ops[j]? =some o→o.dst=some t→listed.getD j false=false)→b.tmps.getD t undef=a.tmps.getD t undef)→
   wpAnyIn F n P .any ops Q fuel listed b w1 by
  refine key _ _ a w loc ver (by simp) ?_ (fun j _ hj=>by simp[hj]) (fun j o ho hj=>by have:=(Array.getElem?_eq_some_iff.1 ho).1;simp[this] at hj) hI (Ext.refl _) hT.size rfl (Same.refl _ _) (fun t j o _ ho _ hl=>?_) (fun _ _=>rfl)
  ·have:∀k,unl (Array.replicate ops.size false) k≤k:=by
    intro k
    induction k with
    | zero=>exact Nat.le_refl _
    | succ k ih=>simp only[unl];split<;>omega
   have h2:∀k,unl (Array.replicate ops.size false) (ops.size+k)≤ops.size:=by
    intro k
    induction k with
    | zero=>exact this _
    | succ k ih=>
     rw[Nat.add_succ]
     simp only[unl]
     have:(Array.replicate ops.size false).getD (ops.size+k) true=true:=by simp
     rw[this];simpa using ih
   rcases Nat.le_total m ops.size with h3 | h3
   ·have:=this m;omega
   ·have:=h2 (m-ops.size)
    rw[show ops.size+(m-ops.size)=m by omega] at this
    omega
  ·have hj:=(Array.getElem?_eq_some_iff.1 ho).1
   simp[hj] at hl
 have done:∀(fuel:Nat) (listed:Array Bool) (b:Act) (w1:World) (loc1:Nat→Loc) (ver1:Nat→Nat),listed.size=ops.size→ops.size-m≤fuel→(∀j,m≤j→j<ops.size→listed.getD j true=false)→(∀j,j<m→listed.getD j false=true)→
   Inv G H loc1 ver1 w1→Ext (envOf G H loc ver w) (envOf G H loc1 ver1 w1)→b.tmps.size=N→b.defers=a.defers→Same (ops.toList.filterMap (·.dst)) a b→
   (∀t j o,j<m→ops[j]? =some o→o.dst=some t→listed.getD j false=true→Rel (envOf G H loc1 ver1 w1) (wr t) (b.tmps.getD t undef))→
   (∀t,(∀j o,j<m→ops[j]? =some o→o.dst=some t→listed.getD j false=false)→b.tmps.getD t undef=a.tmps.getD t undef)→
   wpAnyIn F n P .any ops Q fuel listed b w1:=by
  intro fuel listed b w1 loc1 ver1 hls hfu hun hall hI1 hx1 hs1 hd1 hsame hex hno
  have hTf:TRel (envOf G H loc1 ver1 w1) N lf b:=⟨hs1,fun t=>hRef _ t _ (by
   by_cases hw:∃j o,j<m∧ops[j]? =some o∧o.dst=some t
   ·obtain ⟨j,o,h1,h2,h3⟩:=hw
    exact hex t j o h1 h2 h3 (hall j h1)
   ·rw[hwr t fun j o _ h1 h2 h3=>hw ⟨j,o,h1,h2,h3⟩,hno t fun j o h1 h2 h3=>(hw ⟨j,o,h1,h2,h3⟩).elim]
    exact (hT.rel t).ext hx1)⟩
  exact yP hY hΓ hF htopo htail _ m rfl (Nat.le_refl _) fuel listed hls (by simpa using hfu) hall hun hI1 hTf hlf
   (fun l' H' loc' ver' a' w' h1 h2 h3 h4 h5 h6=>hQ l' H' loc' ver' a' w' h1 h2 h3 (hx1.trans h4) (hsame.trans h5) (h6.trans hd1))
 intro fuel
 induction fuel with
 | zero=>
  intro listed b w1 loc1 ver1 hls hfu hun hcl hI1 hx1 hs1 hd1 hsame hex hno
  refine done 0 listed b w1 loc1 ver1 hls (by omega) hun (fun j hj=>?_) hI1 hx1 hs1 hd1 hsame hex hno
  have:∀k,unl listed k=0→∀j,j<k→listed.getD j true=true:=by
   intro k
   induction k with
   | zero=>intro _ j hj;omega
   | succ k ih=>
    intro hk j hj
    simp only[unl] at hk
    by_cases e:j=k
    ·subst e
     cases hc:listed.getD j true with
     | true=>rfl
     | false=>rw[hc] at hk;simp at hk
    ·exact ih (by omega) j (by omega)
  rw[← cI (by omega)]
  exact this m (by omega) j hj
 | succ f ih=>
  intro listed b w1 loc1 ver1 hls hfu hun hcl hI1 hx1 hs1 hd1 hsame hex hno
  by_cases hall:∀j,j<m→listed.getD j false=true
  ·exact done (f+1) listed b w1 loc1 ver1 hls (by omega) hun hall hI1 hx1 hs1 hd1 hsame hex hno
  ·-- what is known of an operation among the first
   have one:∀(i:Nat) (o:Oper),i<m→ops[i]? =some o→listed.getD i true=false→(∀e∈o.after,Region.binds .any e=true→listed.getD e.on false=true)→
     (∀t,lk ops o t→Rel (envOf G H loc1 ver1 w1) (rdM ops m (look l) wr i t) (b.tmps.getD t undef))∧
     (∀ {loc':Nat→Loc} {ver':Nat→Nat} {w':World} {v:Value},Inv G H loc' ver' w'→Ext (envOf G H loc1 ver1 w1) (envOf G H loc' ver' w')→Rel (envOf G H loc' ver' w') (sv i) v→
      wpAnyIn F n P .any ops Q f (listed.setIfInBounds i true) (b.put o.dst v) w'):=by
    intro i o him ho h1 h2
    obtain ⟨hwi,hqp⟩:=hQP i o (Nat.zero_le _) him ho
    have hoki:=hq i o him ho
    have hread:∀t,lk ops o t→Rel (envOf G H loc1 ver1 w1) (rdM ops m (look l) wr i t) (b.tmps.getD t undef):=by
     intro t ht
     unfold rdM
     by_cases hl:late ops m i t
     ·rw[if_pos hl]
      obtain ⟨j0,o0,g1,g2,g3,g4⟩:=hl
      obtain ⟨e,he,hb,hon⟩:=fP g4
      have hnl:listed.getD j0 false=false:=by
       cases hc:listed.getD j0 false with
       | false=>rfl
       | true=>
        have:=hcl j0 o0 g2 hc e he hb
        rw[hon] at this
        rw[← cI (by omega),h1] at this
        cases this
      rw[hno t fun j o' h3 h4 h5=>by
       have:=lM (hq j0 o0 g1 g2) g3 h3 h4 h5
       rw[this];exact hnl]
      exact (hT.rel t).ext hx1
     ·rw[if_neg hl]
      by_cases hw:∃j o,j<m∧ops[j]? =some o∧o.dst=some t
      ·obtain ⟨j,o',h3,h4,h5⟩:=hw
       rcases fU (mO hoki ht) h3 h4 h5 with h6 | h6
       ·obtain ⟨e,he,hb,hon⟩:=fP h6.1
        exact hex t j o' h3 h4 h5 (by rw[← hon];exact h2 e he hb)
       ·exact (hl ⟨j,o',h3,h4,h5,h6⟩).elim
      ·rw[hwr t fun j o _ h1 h2 h3=>hw ⟨j,o,h1,h2,h3⟩,hno t fun j o h1 h2 h3=>(hw ⟨j,o,h1,h2,h3⟩).elim]
       exact (hT.rel t).ext hx1
    have hmem:o∈ops.toList:=by
     obtain ⟨hlt,rfl⟩:=Array.getElem?_eq_some_iff.1 ho
     simp
    have hput:∀(v:Value) (t:Nat),(b.put o.dst v).tmps.getD t undef=if o.dst=some t then v else b.tmps.getD t undef:=by
     intro v t
     cases hd:o.dst with
     | none=>simp[Act.put]
     | some u=>
      rw[nY b u t v (by rw[hs1];exact hqp.dst u hd)]
      by_cases e:t=u
      ·subst e;simp
      ·rw[if_neg e,if_neg (fun h=>e (by cases h;rfl))]
    have next:∀ {loc':Nat→Loc} {ver':Nat→Nat} {w':World} {v:Value},Inv G H loc' ver' w'→Ext (envOf G H loc1 ver1 w1) (envOf G H loc' ver' w')→Rel (envOf G H loc' ver' w') (sv i) v→
      wpAnyIn F n P .any ops Q f (listed.setIfInBounds i true) (b.put o.dst v) w':=by
     intro loc' ver' w' v hI' hx' hr'
     have hu:=Fd h1 m
     rw[if_pos him] at hu
     refine ih (listed.setIfInBounds i true) (b.put o.dst v) w' loc' ver' (by simp[hls]) (by omega) (fun j hj hjs=>by rw[getD_set_ne true (by omega)];exact hun j hj hjs) (fun j oj hoj hj e he hb=>by
       show (listed.setIfInBounds i true).getD e.on false=true
       have hj:(listed.setIfInBounds i true).getD j false=true:=hj
       by_cases hie:e.on=i
       ·rw[hie];exact eF h1
       ·rw[getD_set_ne false (Ne.symm hie)]
        by_cases hji:j=i
        ·subst hji;rw[ho] at hoj;cases hoj;exact h2 e he hb
        ·rw[getD_set_ne false (Ne.symm hji)] at hj;exact hcl j oj hoj hj e he hb) hI' (hx1.trans hx') ?_ ?_
      (hsame.trans (Same.put b o.dst v fun t ht=>oE hmem ht)) (fun t j o' hj ho' hd hl=>?_) (fun t hn=>?_)
     ·cases o.dst<;>simp[Act.put,hs1]
     ·refine Eq.trans ?_ hd1
      cases o.dst<;>rfl
     ·rw[hput v t]
      by_cases hdt:o.dst=some t
      ·rw[if_pos hdt,hwi t hdt];exact hr'
      ·rw[if_neg hdt]
       have hji:j≠i:=fun e=>by subst e;rw[ho] at ho';cases ho';exact hdt hd
       rw[getD_set_ne false (Ne.symm hji)] at hl
       exact (hex t j o' hj ho' hd hl).ext hx'
     ·have hdt:o.dst≠some t:=fun hdt=>by
       have:=hn i o him ho hdt
       rw[eF h1] at this;cases this
      rw[hput v t,if_neg hdt]
      refine hno t fun j o' hj ho' hd=>?_
      have hji:j≠i:=fun e=>by subst e;rw[ho] at ho';cases ho';exact hdt hd
      have:=hn j o' hj ho' hd
      rwa [getD_set_ne false (Ne.symm hji)] at this
    exact ⟨hread,next⟩
   by_cases hfree:∃i,i<m∧kS ops.toList i=true∧listed.getD i false=false∧∀o,ops[i]? =some o→∀e∈o.after,Region.binds .any e=true→listed.getD e.on false=true
   ·obtain ⟨i,him,hfi,hli,hdep⟩:=hfree
    obtain ⟨o,ho⟩:∃o,ops[i]? =some o:=⟨ops[i]'(by omega),by simp[show i<ops.size by omega]⟩
    obtain ⟨x,t,hfr⟩:=vN ho hfi
    obtain ⟨hwi,hqp⟩:=hQP i o (Nat.zero_le _) him ho
    have h1:listed.getD i true=false:=by rw[cI (by omega)];exact hli
    obtain ⟨hread,next⟩:=one i o him ho h1 (hdep o ho)
    have hwant:=hqp.want (envOf G H loc1 ver1 w1) b hread
    have hwn:wn i=true:=by rw[← hwant];simp[Region.wanted,hfr.guard]
    rw[hwn] at hqp
    obtain ⟨lr,X,hX,hlr⟩:=hqp.run rfl
    obtain ⟨s,v0,⟨rfl,_,_⟩,hrs,H0⟩:=Iu hfr.op hX (fO (N:=N) ⟨hs1,fun t=>hlr t _ _ (hread t)⟩ x)
    refine aBz (fun f=>hF.fn f) hQn hfr H0 f listed b w1 hls h1 (hdep o ho) rfl ?_
    have hnext:=next (v:=v0) hI1 (Ext.refl _) hrs
    rwa [hfr.dst] at hnext
   obtain ⟨i0,hi0,hmin⟩:∃i0,(i0<m∧listed.getD i0 false=false)∧∀k,(k<m∧listed.getD k false=false)→i0≤k:=by
    have:∃j,j<m∧listed.getD j false=false:=by
     apply Classical.byContradiction
     intro hn
     exact hall fun j hj=>by
      cases hc:listed.getD j false with
      | true=>rfl
      | false=>exact (hn ⟨j,hj,hc⟩).elim
    obtain ⟨j,hj⟩:=this
    exact yF j hj
   have hi0s:i0<ops.size:=by omega
   have hdep0:∀e∈(ops[i0]).after,Region.binds .any e=true→listed.getD e.on false=true:=fun e he hb=>by
    have hlt:=jK (htopo i0 ops[i0] (by simp[hi0s])) e he hb
    cases hc:listed.getD e.on false with
    | true=>rfl
    | false=>have:=hmin e.on ⟨by omega,hc⟩;omega
   have hr0:i0∈Region.ready .any ops listed:=mem_ready.2 ⟨by rw[cI (by omega)];exact hi0.2,ops[i0],by simp[hi0s],hdep0⟩
   have hnf0:kS ops.toList i0=true→False:=fun h=>hfree ⟨i0,hi0.1,h,hi0.2,fun o ho=>by
    have e:o=ops[i0]:=by
     have:ops[i0]? =some ops[i0]:=by simp[hi0s]
     rw[ho] at this;exact Option.some.inj this
    subst e;exact hdep0⟩
   refine ⟨fun hr=>(by rw[hr] at hr0;cases hr0),fun i hi=>?_⟩
   obtain ⟨h1,o,ho,h2⟩:=mem_ready.1 hi
   have his:=(Array.getElem?_eq_some_iff.1 ho).1
   have him:i<m:=by
    apply Classical.byContradiction
    intro hge
    have:=kJ hcl ho ((htail0 i o (by omega) ho i0 (by omega)).resolve_right fun hfr=>hnf0 hfr.2) h2
    rw[hi0.2] at this
    cases this
   obtain ⟨hwi,hqp⟩:=hQP i o (Nat.zero_le _) him ho
   obtain ⟨hread,next⟩:=one i o him ho h1 h2
   have hwant:=hqp.want (envOf G H loc1 ver1 w1) b hread
   unfold wpOpIn
   simp only[ho]
   cases hwn:wn i with
   | true=>
    rw[hwn] at hwant hqp
    rw[if_pos hwant]
    obtain ⟨lr,X,hX,hlr⟩:=hqp.run rfl
    obtain ⟨hnd,hopk⟩:=gW hY hΓ hF hI1 (N:=N) ⟨hs1,fun t=>hlr t _ _ (hread t)⟩ hX
    refine hopk.wpIn hF hnd ?_
    rintro v w' ⟨s,H',loc',ver',⟨rfl,rfl,_⟩,hI',hr',hx'⟩
    exact next hI' hx' hr'
   | false=>
    rw[hwn] at hwant hqp
    rw[if_neg (by rw[hwant];simp)]
    refine ⟨fun f _=>hF.fn f,next hI1 (Ext.refl _) ?_⟩
    rw[hqp.skip rfl];exact (.tup [] [] .nil)
end
end Go.Eng
end
section
namespace Go.Eng
open Go.RowKit
section
variable {P:Program} {G:Ctx} {N:Nat} {Γ:List Con}
def addS (S:Nat→Bool) (i:Nat):Nat→Bool:=fun j=>S j || Nat.beq j i
structure Adm (ops:Array Oper) (m:Nat) (S:Nat→Bool) (i:Nat) (o:Oper):Prop where
 not:S i=false
 lt:∀j,S j=true→j<m
 own:∀e∈o.after,Region.binds .any e=true→S e.on=true
 closed:Closed ops (fun j=>S j=true)
structure QG (P:Program) (G:Ctx) (ops:Array Oper) (m:Nat) (hS:(Nat→Bool)→List HO) (N:Nat) (wr:Nat→SV) (sv:SV) (wn:Bool) (i:Nat) (o:Oper):Prop where
 want:∀(E:Env) (a:Act),(∀t,lk ops o t→Rel E (wr t) (a.tmps.getD t undef))→Region.wanted o (yielded ops a.tmps)=wn
 run:wn=true→∀ {F:Fence},Opn F→∀S,Adm ops m S i o→∀ {loc:Nat→Loc} {ver:Nat→Nat} {w:World} {a:Act},Inv G (hS S) loc ver w→a.tmps.size=N→
  (∀t,lk ops o t→Rel (envOf G (hS S) loc ver w) (wr t) (a.tmps.getD t undef))→
  (∀c,o.op≠ .defer c)∧OpOK P F o a w fun v w'=>∃loc' ver',Inv G (hS (addS S i)) loc' ver' w'∧Rel (envOf G (hS (addS S i)) loc' ver' w') sv v∧Ext (envOf G (hS S) loc ver w) (envOf G (hS (addS S i)) loc' ver' w')
 skip:wn=false→sv= .tup []∧∀S,hS (addS S i)=hS S
 dst:∀t,o.dst=some t→t<N
 move:∀x,pureArg o.op=some x→o.guard=none→(∀(E:Env) (a:Act),a.tmps.size=N→(∀t,lk ops o t→Rel E (wr t) (a.tmps.getD t undef))→∃v0,Rel E sv v0∧∀(ρ:Operand→Value) (w:World),ρ x=a.eval x→(execOp ρ o).run P w= .ok (.value v0) w)∧∀S,hS (addS S i)=hS S
def upS (m:Nat) (listed:Array Bool):Nat→Bool:=fun j=>decide (j<m)&&listed.getD j false
theorem Zv {m:Nat} {listed:Array Bool} {i:Nat} (hi:i<m) (h:listed.getD i true=false):upS m (listed.setIfInBounds i true)=addS (upS m listed) i:=by
 funext j
 unfold upS addS
 by_cases e:j=i
 ·subst e
  rw[eF h,bW]
  simp[hi]
 ·rw[getD_set_ne false (Ne.symm e),dR e]
  simp
theorem Jf (hY:COK P G) (hΓ:∀c∈Γ,aD P c) {F:Fence} (hF:Opn F) {n:Nat} {ops:Array Oper} {m:Nat} (hms:m≤ops.size)
  (hq:∀i o,i<m→ops[i]? =some o→opOk ops.toList m i o=true) (htopo:∀i o,ops[i]? =some o→topo i o=true)
  (htail0:∀i o,m≤i→ops[i]? =some o→∀j,j<i→fE (fL ops.toList []) i j=true∨(j<m∧kS ops.toList j=true))
  {hS:(Nat→Bool)→List HO} {wr sv:Nat→SV} {wn:Nat→Bool} {lf l:List (Nat × SV)}
  (hRef:∀(E:Env) (t:Nat) (v:Value),Rel E (wr t) v→Rel E (look lf t) v) (hwr:∀t,(∀j o,j<m→ops[j]? =some o→o.dst≠some t)→wr t=look l t)
  (hQP:∀j o,j<m→ops[j]? =some o→(∀t,o.dst=some t→wr t=sv j)∧QG P G ops m hS N (rdM ops m (look l) wr j) (sv j) (wn j) j o)
  {loc:Nat→Loc} {ver:Nat→Nat} {w:World} {a:Act} {K:List (Nat × SV)→List HO→Prop} {Q:Exit→Act→World→Prop} (hQn:∀e a w,Q e a w→e= .normal)
  (hI:Inv G (hS fun _=>false) loc ver w) (hT:TRel (envOf G (hS fun _=>false) loc ver w) N l a)
  (hlf:fJ P Γ N ops.toList (ops.toList.drop m) lf (hS fun j=>decide (j<m)) K)
  (hQ:∀l' H' loc' ver' a' w',K l' H'→Inv G H' loc' ver' w'→TRel (envOf G H' loc' ver' w') N l' a'→Ext (envOf G (hS fun _=>false) loc ver w) (envOf G H' loc' ver' w')→Same (ops.toList.filterMap (·.dst)) a a'→a'.defers=a.defers→Q .normal a' w'):
  wpAnyIn F n P .any ops Q ops.size (Array.replicate ops.size false) a w:=by
 have htail:∀i o,m≤i→ops[i]? =some o→∀j,m≤j→j<i→fE (fL ops.toList []) i j=true:=by
  intro i o hi ho j hm hj
  rcases htail0 i o hi ho j hj with h | h
  ·exact h
  ·omega
 -- some of the first operations have come up
 suffices key:∀(fuel:Nat) (listed:Array Bool) (b:Act) (w1:World) (loc1:Nat→Loc) (ver1:Nat→Nat),listed.size=ops.size→unl listed m+(ops.size-m)≤fuel→(∀j,m≤j→j<ops.size→listed.getD j true=false)→Closed ops (fun j=>listed.getD j false=true)→
   Inv G (hS (upS m listed)) loc1 ver1 w1→Ext (envOf G (hS fun _=>false) loc ver w) (envOf G (hS (upS m listed)) loc1 ver1 w1)→b.tmps.size=N→b.defers=a.defers→Same (ops.toList.filterMap (·.dst)) a b→
   (∀t j o,j<m→ops[j]? =some o→o.dst=some t→listed.getD j false=true→Rel (envOf G (hS (upS m listed)) loc1 ver1 w1) (wr t) (b.tmps.getD t undef))→
   (∀t,(∀j o,j<m→ops[j]? =some o→o.dst=some t→listed.getD j false=false)→b.tmps.getD t undef=a.tmps.getD t undef)→
   wpAnyIn F n P .any ops Q fuel listed b w1 by
  have hup0:upS m (Array.replicate ops.size false)=fun _=>false:=by
   funext j
   unfold upS
   have:(Array.replicate ops.size false).getD j false=false:=by
    rw[Array.getD_eq_getD_getElem?,Array.getElem?_replicate];split<;>rfl
   rw[this,Bool.and_false]
  refine key _ _ a w loc ver (by simp) ?_ (fun j _ hj=>by simp[hj]) (fun j o ho hj=>by have:=(Array.getElem?_eq_some_iff.1 ho).1;simp[this] at hj) (by rw[hup0];exact hI) (by rw[hup0];exact Ext.refl _) hT.size rfl (Same.refl _ _) (fun t j o _ ho _ hl=>?_) (fun _ _=>rfl)
  ·have:∀k,unl (Array.replicate ops.size false) k≤k:=by
    intro k
    induction k with
    | zero=>exact Nat.le_refl _
    | succ k ih=>simp only[unl];split<;>omega
   have:=this m
   omega
  ·have hj:=(Array.getElem?_eq_some_iff.1 ho).1
   simp[hj] at hl
 have done:∀(fuel:Nat) (listed:Array Bool) (b:Act) (w1:World) (loc1:Nat→Loc) (ver1:Nat→Nat),listed.size=ops.size→ops.size-m≤fuel→(∀j,m≤j→j<ops.size→listed.getD j true=false)→(∀j,j<m→listed.getD j false=true)→
   Inv G (hS (upS m listed)) loc1 ver1 w1→Ext (envOf G (hS fun _=>false) loc ver w) (envOf G (hS (upS m listed)) loc1 ver1 w1)→b.tmps.size=N→b.defers=a.defers→Same (ops.toList.filterMap (·.dst)) a b→
   (∀t j o,j<m→ops[j]? =some o→o.dst=some t→listed.getD j false=true→Rel (envOf G (hS (upS m listed)) loc1 ver1 w1) (wr t) (b.tmps.getD t undef))→
   (∀t,(∀j o,j<m→ops[j]? =some o→o.dst=some t→listed.getD j false=false)→b.tmps.getD t undef=a.tmps.getD t undef)→
   wpAnyIn F n P .any ops Q fuel listed b w1:=by
  intro fuel listed b w1 loc1 ver1 hls hfu hun hall hI1 hx1 hs1 hd1 hsame hex hno
  have hupf:upS m listed=fun j=>decide (j<m):=by
   funext j
   unfold upS
   by_cases hj:j<m
   ·simp[hj,hall j hj]
   ·simp[hj]
  rw[hupf] at hI1 hx1 hex
  have hTf:TRel (envOf G (hS fun j=>decide (j<m)) loc1 ver1 w1) N lf b:=⟨hs1,fun t=>hRef _ t _ (by
   by_cases hw:∃j o,j<m∧ops[j]? =some o∧o.dst=some t
   ·obtain ⟨j,o,h1,h2,h3⟩:=hw
    exact hex t j o h1 h2 h3 (hall j h1)
   ·rw[hwr t fun j o h1 h2 h3=>hw ⟨j,o,h1,h2,h3⟩,hno t fun j o h1 h2 h3=>(hw ⟨j,o,h1,h2,h3⟩).elim]
    exact (hT.rel t).ext hx1)⟩
  exact yP hY hΓ hF htopo htail _ m rfl (Nat.le_refl _) fuel listed hls (by simpa using hfu) hall hun hI1 hTf hlf
   (fun l' H' loc' ver' a' w' h1 h2 h3 h4 h5 h6=>hQ l' H' loc' ver' a' w' h1 h2 h3 (hx1.trans h4) (hsame.trans h5) (h6.trans hd1))
 intro fuel
 induction fuel with
 | zero=>
  intro listed b w1 loc1 ver1 hls hfu hun hcl hI1 hx1 hs1 hd1 hsame hex hno
  refine done 0 listed b w1 loc1 ver1 hls (by omega) hun (fun j hj=>?_) hI1 hx1 hs1 hd1 hsame hex hno
  have:∀k,unl listed k=0→∀j,j<k→listed.getD j true=true:=by
   intro k
   induction k with
   | zero=>intro _ j hj;omega
   | succ k ih=>
    intro hk j hj
    simp only[unl] at hk
    by_cases e:j=k
    ·subst e
     cases hc:listed.getD j true with
     | true=>rfl
     | false=>rw[hc] at hk;simp at hk
    ·exact ih (by omega) j (by omega)
  rw[← cI (by omega)]
  exact this m (by omega) j hj
 | succ f ih=>
  intro listed b w1 loc1 ver1 hls hfu hun hcl hI1 hx1 hs1 hd1 hsame hex hno
  by_cases hall:∀j,j<m→listed.getD j false=true
  ·exact done (f+1) listed b w1 loc1 ver1 hls (by omega) hun hall hI1 hx1 hs1 hd1 hsame hex hno
  ·have adm:∀(i:Nat) (o:Oper),i<m→ops[i]? =some o→listed.getD i true=false→(∀e∈o.after,Region.binds .any e=true→listed.getD e.on false=true)→Adm ops m (upS m listed) i o:=by
    intro i o him ho h1 h2
    have hlo:∀j,listed.getD j false=true→upS m listed j=true:=by
     intro j hj
     have hjs:j<ops.size:=by
      rw[← hls]
      apply Classical.byContradiction
      intro hn
      rw[Array.getD_eq_getD_getElem?,Array.getElem?_eq_none (by omega)] at hj
      cases hj
     have:j<m:=Classical.byContradiction fun hn=>by
      have:=hun j (by omega) hjs
      rw[cI (by omega),hj] at this;cases this
     simp[upS,this,hj]
    refine ⟨?_,fun j hj=>?_,fun e he hb=>hlo _ (h2 e he hb),fun j oj hoj hj e he hb=>hlo _ (hcl j oj hoj ?_ e he hb)⟩
    ·rw[cI (by omega)] at h1
     simp[upS,h1]
    ·simp only[upS,Bool.and_eq_true,decide_eq_true_eq] at hj;exact hj.1
    ·simp only[upS,Bool.and_eq_true] at hj;exact hj.2
   -- what is known of an operation among the first
   have one:∀(i:Nat) (o:Oper),i<m→ops[i]? =some o→listed.getD i true=false→(∀e∈o.after,Region.binds .any e=true→listed.getD e.on false=true)→
     (∀t,lk ops o t→Rel (envOf G (hS (upS m listed)) loc1 ver1 w1) (rdM ops m (look l) wr i t) (b.tmps.getD t undef))∧
     (∀ {loc':Nat→Loc} {ver':Nat→Nat} {w':World} {v:Value},Inv G (hS (addS (upS m listed) i)) loc' ver' w'→Ext (envOf G (hS (upS m listed)) loc1 ver1 w1) (envOf G (hS (addS (upS m listed) i)) loc' ver' w')→Rel (envOf G (hS (addS (upS m listed) i)) loc' ver' w') (sv i) v→
      wpAnyIn F n P .any ops Q f (listed.setIfInBounds i true) (b.put o.dst v) w'):=by
    intro i o him ho h1 h2
    obtain ⟨hwi,hqp⟩:=hQP i o him ho
    have hoki:=hq i o him ho
    have hread:∀t,lk ops o t→Rel (envOf G (hS (upS m listed)) loc1 ver1 w1) (rdM ops m (look l) wr i t) (b.tmps.getD t undef):=by
     intro t ht
     unfold rdM
     by_cases hl:late ops m i t
     ·rw[if_pos hl]
      obtain ⟨j0,o0,g1,g2,g3,g4⟩:=hl
      obtain ⟨e,he,hb,hon⟩:=fP g4
      have hnl:listed.getD j0 false=false:=by
       cases hc:listed.getD j0 false with
       | false=>rfl
       | true=>
        have:=hcl j0 o0 g2 hc e he hb
        rw[hon] at this
        rw[← cI (by omega),h1] at this
        cases this
      rw[hno t fun j o' h3 h4 h5=>by
       have:=lM (hq j0 o0 g1 g2) g3 h3 h4 h5
       rw[this];exact hnl]
      exact (hT.rel t).ext hx1
     ·rw[if_neg hl]
      by_cases hw:∃j o,j<m∧ops[j]? =some o∧o.dst=some t
      ·obtain ⟨j,o',h3,h4,h5⟩:=hw
       rcases fU (mO hoki ht) h3 h4 h5 with h6 | h6
       ·obtain ⟨e,he,hb,hon⟩:=fP h6.1
        exact hex t j o' h3 h4 h5 (by rw[← hon];exact h2 e he hb)
       ·exact (hl ⟨j,o',h3,h4,h5,h6⟩).elim
      ·rw[hwr t fun j o h1 h2 h3=>hw ⟨j,o,h1,h2,h3⟩,hno t fun j o h1 h2 h3=>(hw ⟨j,o,h1,h2,h3⟩).elim]
       exact (hT.rel t).ext hx1
    have hmem:o∈ops.toList:=by
     obtain ⟨hlt,rfl⟩:=Array.getElem?_eq_some_iff.1 ho
     simp
    have hput:∀(v:Value) (t:Nat),(b.put o.dst v).tmps.getD t undef=if o.dst=some t then v else b.tmps.getD t undef:=by
     intro v t
     cases hd:o.dst with
     | none=>simp[Act.put]
     | some u=>
      rw[nY b u t v (by rw[hs1];exact hqp.dst u hd)]
      by_cases e:t=u
      ·subst e;simp
      ·rw[if_neg e,if_neg (fun h=>e (by cases h;rfl))]
    have next:∀ {loc':Nat→Loc} {ver':Nat→Nat} {w':World} {v:Value},Inv G (hS (addS (upS m listed) i)) loc' ver' w'→Ext (envOf G (hS (upS m listed)) loc1 ver1 w1) (envOf G (hS (addS (upS m listed) i)) loc' ver' w')→Rel (envOf G (hS (addS (upS m listed) i)) loc' ver' w') (sv i) v→
      wpAnyIn F n P .any ops Q f (listed.setIfInBounds i true) (b.put o.dst v) w':=by
     intro loc' ver' w' v hI' hx' hr'
     have hu:=Fd h1 m
     rw[if_pos him] at hu
     have hup:=Zv him h1
     rw[← hup] at hI' hx' hr'
     refine ih (listed.setIfInBounds i true) (b.put o.dst v) w' loc' ver' (by simp[hls]) (by omega) (fun j hj hjs=>by rw[getD_set_ne true (by omega)];exact hun j hj hjs) (fun j oj hoj hj e he hb=>by
       show (listed.setIfInBounds i true).getD e.on false=true
       have hj:(listed.setIfInBounds i true).getD j false=true:=hj
       by_cases hie:e.on=i
       ·rw[hie];exact eF h1
       ·rw[getD_set_ne false (Ne.symm hie)]
        by_cases hji:j=i
        ·subst hji;rw[ho] at hoj;cases hoj;exact h2 e he hb
        ·rw[getD_set_ne false (Ne.symm hji)] at hj;exact hcl j oj hoj hj e he hb) hI' (hx1.trans hx') ?_ ?_
      (hsame.trans (Same.put b o.dst v fun t ht=>oE hmem ht)) (fun t j o' hj ho' hd hl=>?_) (fun t hn=>?_)
     ·cases o.dst<;>simp[Act.put,hs1]
     ·refine Eq.trans ?_ hd1
      cases o.dst<;>rfl
     ·rw[hput v t]
      by_cases hdt:o.dst=some t
      ·rw[if_pos hdt,hwi t hdt];exact hr'
      ·rw[if_neg hdt]
       have hji:j≠i:=fun e=>by subst e;rw[ho] at ho';cases ho';exact hdt hd
       rw[getD_set_ne false (Ne.symm hji)] at hl
       exact (hex t j o' hj ho' hd hl).ext hx'
     ·have hdt:o.dst≠some t:=fun hdt=>by
       have:=hn i o him ho hdt
       rw[eF h1] at this;cases this
      rw[hput v t,if_neg hdt]
      refine hno t fun j o' hj ho' hd=>?_
      have hji:j≠i:=fun e=>by subst e;rw[ho] at ho';cases ho';exact hdt hd
      have:=hn j o' hj ho' hd
      rwa [getD_set_ne false (Ne.symm hji)] at this
    exact ⟨hread,next⟩
   by_cases hfree:∃i,i<m∧kS ops.toList i=true∧listed.getD i false=false∧∀o,ops[i]? =some o→∀e∈o.after,Region.binds .any e=true→listed.getD e.on false=true
   ·obtain ⟨i,him,hfi,hli,hdep⟩:=hfree
    obtain ⟨o,ho⟩:∃o,ops[i]? =some o:=⟨ops[i]'(by omega),by simp[show i<ops.size by omega]⟩
    obtain ⟨x,t,hfr⟩:=vN ho hfi
    obtain ⟨hwi,hqp⟩:=hQP i o him ho
    have h1:listed.getD i true=false:=by rw[cI (by omega)];exact hli
    obtain ⟨hread,next⟩:=one i o him ho h1 (hdep o ho)
    obtain ⟨hmv,hsm⟩:=hqp.move x hfr.op hfr.guard
    obtain ⟨v0,hrs,H0⟩:=hmv _ b hs1 hread
    refine aBz (fun f=>hF.fn f) hQn hfr H0 f listed b w1 hls h1 (hdep o ho) rfl ?_
    have hnext:=next (loc':=loc1) (ver':=ver1) (w':=w1) (v:=v0) (by rw[hsm];exact hI1) (by rw[hsm];exact Ext.refl _) (by rw[hsm];exact hrs)
    rwa [hfr.dst] at hnext
   obtain ⟨i0,hi0,hmin⟩:∃i0,(i0<m∧listed.getD i0 false=false)∧∀k,(k<m∧listed.getD k false=false)→i0≤k:=by
    have:∃j,j<m∧listed.getD j false=false:=by
     apply Classical.byContradiction
     intro hn
     exact hall fun j hj=>by
      cases hc:listed.getD j false with
      | true=>rfl
      | false=>exact (hn ⟨j,hj,hc⟩).elim
    obtain ⟨j,hj⟩:=this
    exact yF j hj
   have hi0s:i0<ops.size:=by omega
   have hdep0:∀e∈(ops[i0]).after,Region.binds .any e=true→listed.getD e.on false=true:=fun e he hb=>by
    have hlt:=jK (htopo i0 ops[i0] (by simp[hi0s])) e he hb
    cases hc:listed.getD e.on false with
    | true=>rfl
    | false=>have:=hmin e.on ⟨by omega,hc⟩;omega
   have hr0:i0∈Region.ready .any ops listed:=mem_ready.2 ⟨by rw[cI (by omega)];exact hi0.2,ops[i0],by simp[hi0s],hdep0⟩
   have hnf0:kS ops.toList i0=true→False:=fun h=>hfree ⟨i0,hi0.1,h,hi0.2,fun o ho=>by
    have e:o=ops[i0]:=by
     have:ops[i0]? =some ops[i0]:=by simp[hi0s]
     rw[ho] at this;exact Option.some.inj this
    subst e;exact hdep0⟩
   refine ⟨fun hr=>(by rw[hr] at hr0;cases hr0),fun i hi=>?_⟩
   obtain ⟨h1,o,ho,h2⟩:=mem_ready.1 hi
   have his:=(Array.getElem?_eq_some_iff.1 ho).1
   have him:i<m:=by
    apply Classical.byContradiction
    intro hge
    have:=kJ hcl ho ((htail0 i o (by omega) ho i0 (by omega)).resolve_right fun hfr=>hnf0 hfr.2) h2
    rw[hi0.2] at this
    cases this
   obtain ⟨hwi,hqp⟩:=hQP i o him ho
   obtain ⟨hread,next⟩:=one i o him ho h1 h2
   have hwant:=hqp.want _ b hread
   unfold wpOpIn
   simp only[ho]
   cases hwn:wn i with
   | true=>
    rw[hwn] at hwant hqp
    rw[if_pos hwant]
    obtain ⟨hnd,hopk⟩:=hqp.run rfl hF _ (adm i o him ho h1 h2) hI1 hs1 hread
    refine hopk.wpIn hF hnd ?_
    rintro v w' ⟨loc',ver',hI',hr',hx'⟩
    exact next hI' hx' hr'
   | false=>
    rw[hwn] at hwant hqp
    obtain ⟨hs,hsm⟩:=hqp.skip rfl
    rw[if_neg (by rw[hwant];simp)]
    refine ⟨fun f _=>hF.fn f,next (loc':=loc1) (ver':=ver1) (by rw[hsm];exact hI1) (by rw[hsm];exact Ext.refl _) ?_⟩
    rw[hs];exact (.tup [] [] .nil)
end
end Go.Eng
end
section
namespace Go.Eng
open Go.RowKit
section
variable {P:Program} {G:Ctx} {N:Nat} {Γ:List Con} {H:List HO} {loc:Nat→Loc} {ver:Nat→Nat} {w:World}
theorem mR (B:List HO):∀(fx:List Fx) (S:Nat→Bool),(cW B fx S).length=B.length
 | [],_=>rfl
 | f::r,S=>by
  simp only[fM]
  cases S f.p with
  | true=>simp only[cond_true,hset,List.length_set];exact mR B r S
  | false=>exact mR B r S
theorem dO (B:List HO) {S S':Nat→Bool}:∀(fx:List Fx),(∀f∈fx,S f.p=S' f.p)→cW B fx S=cW B fx S'
 | [],_=>rfl
 | f::r,h=>by
  simp only[fM]
  rw[h f List.mem_cons_self,dO B r fun g hg=>h g (List.mem_cons_of_mem _ hg)]
theorem mT (B:List HO):∀(fx:List Fx),cW B fx (fun _=>false)=B
 | []=>rfl
 | f::r=>by simp only[cW,cond_false];exact mT B r
theorem Cj (B:List HO) {i:Nat}:∀(fx:List Fx) {f:Fx} {S:Nat→Bool},f∈fx→f.p=i→S i=false→fx.Pairwise (fun a b=>a.p≠b.p)→(∀g∈fx,g.p≠i→S g.p=true→g.n≠f.n)→cW B fx (addS S i)=hset (cW B fx S) f.n f.o
 | g::r,f,S,hf,hp,hS,hd,hn=>by
  obtain ⟨hd1,hd2⟩:=List.pairwise_cons.1 hd
  by_cases hg:g.p=i
  ·have hfr:f ∉ r:=fun h=>hd1 f h (by rw[hg,hp])
   have hfg:f=g:=by
    rcases List.mem_cons.1 hf with h | h
    ·exact h
    ·exact absurd h hfr
   subst hfg
   simp only[fM]
   rw[hp,hS,show addS S i i=true from by simp[addS],cond_true,cond_false]
   congr 1
   refine dO B r fun q hq=>?_
   have hne:q.p≠i:=fun e=>hd1 q hq (by rw[hp,e])
   simp[addS,dR hne]
  ·have hfr:f∈r:=by
    rcases List.mem_cons.1 hf with h | h
    ·exact absurd (h ▸ hp) hg
    ·exact h
   have ih:=Cj B r hfr hp hS hd2 fun q hq=>hn q (List.mem_cons_of_mem _ hq)
   simp only[fM]
   rw[show addS S i g.p=S g.p from by simp[addS,dR hg],ih]
   cases hSg:S g.p with
   | false=>rfl
   | true=>
    simp only[cond_true,hset]
    exact List.set_comm _ _ (fun e=>hn g List.mem_cons_self hg hSg e.symm)
theorem oI (B:List HO) {n:Nat}:∀(fx:List Fx) {S:Nat→Bool},(∀g∈fx,S g.p=true→g.n≠n)→(cW B fx S)[n]? =B[n]?
 | [],_,_=>rfl
 | g::r,S,h=>by
  have ih:=oI B r fun q hq=>h q (List.mem_cons_of_mem _ hq)
  simp only[fM]
  cases hS:S g.p with
  | false=>exact ih
  | true=>
   simp only[cond_true,hset]
   rw[aK (fun e=>h g List.mem_cons_self hS e.symm)]
   exact ih
theorem Inv.keep (hI:Inv G H loc ver w):Inv G (H++ [.res]) loc ver w∧Ext (envOf G H loc ver w) (envOf G (H++ [.res]) loc ver w):=by
 refine hI.turn H.length (by simp) (fun k hk=>⟨cD hk,rfl,rfl⟩) (fun h=>by rw[iO] at h;cases h) (fun h=>by rw[iO] at h;cases h) (Nat.le_refl _) rfl rfl rfl (by simp) (fun h=>by rw[iO] at h;cases h)
  (fun st n it b h=>by rw[bT] at h;cases h) (fun _ _ _=>rfl) ?_ ?_
 ·intro o' b ho' hb
  rw[bT] at ho';cases ho'
  exact hb.elim
 ·intro hx o' ho'
  rw[bT] at ho';cases ho'
  trivial
theorem Inv.keeps (q:Nat):∀ {H:List HO},Inv G H loc ver w→Inv G (H++List.replicate q .res) loc ver w∧Ext (envOf G H loc ver w) (envOf G (H++List.replicate q .res) loc ver w):=by
 induction q with
 | zero=>intro H hI;rw[List.replicate_zero,List.append_nil];exact ⟨hI,Ext.refl _⟩
 | succ q ih=>
  intro H hI
  obtain ⟨h1,h2⟩:=hI.keep
  obtain ⟨h3,h4⟩:=ih h1
  rw[List.replicate_succ,show H++HO.res::List.replicate q .res=H++ [.res]++List.replicate q .res by simp]
  exact ⟨h3,h2.trans h4⟩
theorem Inv.atRes (hI:Inv G H loc ver w) {n:Nat} (hn:H[n]? =some .res) {w':World} (o:HO) (L:Loc) (v:Nat)
  (hsz:w.heap.size≤w'.heap.size) (hos:w'.os=w.os) (htp:w'.tape=w.tape) (hout:w'.output=w.output)
  (hblk:∀b,b<w.heap.size→w'.heap[b]? =w.heap[b]?) (hfr:∀b,Owns L o b→w.heap.size≤b)
  (hnew:Ext (envOf G H loc ver w) (envOf G (hset H n o) (upd loc n L) (upd ver n v) w')→OSat (envOf G (hset H n o) (upd loc n L) (upd ver n v) w') L v o)
  (hny:∀st n it,o≠ .yst st n it:=by intro _ _ _ h;cases h):
  Inv G (hset H n o) (upd loc n L) (upd ver n v) w'∧Ext (envOf G H loc ver w) (envOf G (hset H n o) (upd loc n L) (upd ver n v) w'):=by
 have hlt:n<H.length:=(List.getElem?_eq_some_iff.1 hn).1
 have hno:hasB H n=false:=by
  unfold hasB hget
  rw[List.getD_eq_getElem?_getD,hn]
  simp[qC]
 refine hI.turn n (by simp[hset]) (fun k hk=>⟨aK hk,aT _ _ _ hk,aT _ _ _ hk⟩) (fun h=>by rw[hno] at h;cases h) (fun h=>by rw[hno] at h;cases h) hsz hos htp hout (by rw[hn];simp) (fun h=>by rw[hno] at h;cases h)
  (fun st n' it b h=>by rw[show hset H n o=H.set n o from rfl,aB hlt] at h;cases h;exact (hny _ _ _ rfl).elim) (fun b hb _=>hblk b hb) ?_ ?_
 ·intro o' b ho' hb
  rw[show hset H n o=H.set n o from rfl,aB hlt] at ho';cases ho'
  rw[aG] at hb
  exact .inr (hfr b hb)
 ·intro hx o' ho'
  rw[show hset H n o=H.set n o from rfl,aB hlt] at ho';cases ho'
  rw[aG,aG]
  exact hnew hx
def AllocOK (P:Program) (G:Ctx) (N:Nat) (o:Oper) (lr:List (Nat × SV)) (n:Nat) (s:SV) (ob:HO):Prop:=
 qC ob=false∧∀ {F:Fence},Opn F→∀ {H:List HO} {loc:Nat→Loc} {ver:Nat→Nat} {w:World} {a:Act},Inv G H loc ver w→H[n]? =some .res→TRel (envOf G H loc ver w) N lr a→
  (∀c,o.op≠ .defer c)∧OpOK P F o a w fun v w'=>∃loc' ver',Inv G (hset H n ob) loc' ver' w'∧Rel (envOf G (hset H n ob) loc' ver' w') s v∧Ext (envOf G H loc ver w) (envOf G (hset H n ob) loc' ver' w')
theorem yX {H:List HO} {n:Nat} {o:HO} (h:n<H.length) (ho:qC o=false):hasB (hset H n o) n=true:=bA (aB h) ho
theorem Jg {o:Oper} {l lr:List (Nat × SV)} {n:Nat} {t:TypeId} {pn pc:Operand} {K:SV→HO→Prop} (h:Nz P t (ev l pn) (ev l pc) fun m ty e ei=>K (.ref n 1) (.vv 1 0 ty (List.replicate m.toNat []) none e ei)) (hop:o.op= .makeSlice t pn pc) (hlr:∀x∈o.op.operands,ev lr x=ev l x):∃s ob,K s ob∧AllocOK P G N o lr n s ob:=False.elim h
theorem Fm (hY:COK P G) (hΓ:∀c∈Γ,aD P c) {o:Oper} {l lr:List (Nat × SV)} {n:Nat} {K:SV→HO→Prop} (h:Em P Γ o l n K) (hlr:∀x∈o.op.operands,ev lr x=ev l x):∃s ob,K s ob∧AllocOK P G N o lr n s ob:=by
 unfold Em at h
 split at h
 ·rename_i t pn pc hop
  cases hvv:Ee P t with
  | true=>
   rw[hvv] at h
   obtain ⟨s,ob,hk,hob⟩:=Jg (lr:=lr) h hop hlr
   exact ⟨s,ob,hk,hob⟩
  | false=>
  rw[hvv] at h
  replace h:Tt P t n (ev l pn) (ev l pc) K:=h
  unfold Tt at h
  split at h
  case h_2=>exact h.elim
  rename_i e kn nn kc nc he hen hec
  split at h
  case h_2=>exact h.elim
  rename_i tt i z htt hi hz
  obtain ⟨hb,h1⟩:=aE h
  clear h
  split at h1
  case h_2=>exact h1.elim
  rename_i x0 hd
  obtain ⟨⟨n1,n2,n3,n4⟩,hk⟩:=h1
  refine ⟨_,_,hk,rfl,?_⟩
  intro F hF H loc ver w a hI hn hT
  refine ⟨by simp[hop],?_⟩
  have hu:=bF he
  have e1:=fO hT pn
  have e2:=fO hT pc
  rw[hlr pn (by rw[hop];simp[Op.operands]),hen] at e1
  rw[hlr pc (by rw[hop];simp[Op.operands]),hec] at e2
  obtain ⟨e3,_⟩:=e1.int_inv
  obtain ⟨e4,_⟩:=e2.int_inv
  simp only[Bool.and_eq_true,aJ] at hb
  obtain ⟨⟨hb1,hb2⟩,hb3⟩:=hb
  obtain ⟨zv,hzv,rfl⟩:=vE hz hi
  have hzl:zv.cells.size=tt.size:=by simpa using hb3
  have hpos:=tt.size_pos
  have hr:=run_make (P:=P) w t e i zv hu hi hzv kn kc nn nc n1 n2 (by rw[Int.mul_comm];omega) (by omega)
  have hlt:n<H.length:=(List.getElem?_eq_some_iff.1 hn).1
  have hf:=hI.atRes hn (w':=w.alloc (.cells (madeCells zv.cells (nc.toNat*i.size)) e)) (.vec 1 tt (List.replicate nn.toNat x0) e) (mkL (some (w.heap.size,0)) (nn.toNat) (nc.toNat)) 1 (by simp) rfl rfl rfl (fun b hb=>Below.heap_alloc w _ b hb) (by intro b hb;simp[Owns] at hb;omega)
   (fun hx=>by
    have hm:nn.toNat*tt.size≤nc.toNat*i.size:=by rw[hb1];exact Nat.mul_le_mul_right _ (by omega)
    refine ⟨rfl,Nat.one_pos,by simp,by show nn.toNat≤140737488355328;omega,(madeCells zv.cells (nc.toNat*i.size)).toList.take (nn.toNat*tt.size),⟨by show (List.take _ _).length=nn.toNat*tt.size;rw[List.length_take,Array.length_toList,size_madeCells];exact Nat.min_eq_left hm,.inr ⟨w.heap.size,nc.toNat,madeCells zv.cells (nc.toNat*i.size),rfl,Nat.zero_le _,dV w _,by show nn.toNat≤nc.toNat;omega,by simp[maxLen];omega,by rw[size_madeCells,hb1];exact Nat.le_refl _,rfl⟩⟩,fun j hj=>?_⟩
    have hj':j<nn.toNat:=hj
    have hjm:j*tt.size+tt.size≤nn.toNat*tt.size:=by
     have:(j+1)*tt.size≤nn.toNat*tt.size:=Nat.mul_le_mul_right _ hj'
     rwa [Nat.add_mul,Nat.one_mul] at this
    have e1:(List.replicate nn.toNat x0).getD j tt.dflt=x0:=by
     rw[List.getD_eq_getElem?_getD]
     have:(List.replicate nn.toNat x0)[j]? =some x0:=by simp[hj']
     rw[this];rfl
    have e2:((((madeCells zv.cells (nc.toNat*i.size)).toList.take (nn.toNat*tt.size)).drop (j*tt.size)).take tt.size)=zv.cells.toList:=by
     apply List.ext_getElem?
     intro q
     rw[List.getElem?_take]
     by_cases hq:q<tt.size
     ·rw[if_pos hq,List.getElem?_drop,List.getElem?_take,if_pos (by omega),qI _ _ (by omega) _ (by omega)]
      have:(j*tt.size+q)%zv.cells.size=q:=by rw[hzl,Nat.mul_comm,Nat.mul_add_mod];exact Nat.mod_eq_of_lt hq
      rw[this]
      have hq2:q<zv.cells.toList.length:=by simp;omega
      simp[hzl,hq]
     ·rw[if_neg hq,List.getElem?_eq_none (by simp;omega)]
    rw[e1,e2]
    exact lD (iP _ _) hd hb2)
  refine .value (.slice (some ⟨w.heap.size,0,none⟩) nn.toNat nc.toNat) _ (by simp[execOp,hop,e3,e4,hr]) ⟨_,_,hf.1,?_,hf.2⟩
  refine .ref _ _ _ (yX hlt rfl) Nat.one_pos (by simp[envOf,aG]) fun _=>?_
  simp[envOf,aG,Core.head]
 ·rename_i t hop
  split at h
  case h_2=>exact h.elim
  rename_i z hz
  rw[aL] at h
  refine ⟨_,_,h,rfl,?_⟩
  intro F hF H loc ver w a hI hn hT
  refine ⟨by simp[hop],?_⟩
  obtain ⟨v,hv,rfl⟩:=gQ hz w
  have hlt:n<H.length:=(List.getElem?_eq_some_iff.1 hn).1
  have hf:=hI.atRes hn (w':=w.alloc (.cells v.cells t)) (.cells (v.cells.toList.map cst) t) (mkL (some (w.heap.size,0)) 0 0) 0 (by simp) rfl rfl rfl (fun b hb=>Below.heap_alloc w _ b hb) (by intro b hb;simp[Owns] at hb;omega)
   (fun hx=>⟨rfl,w.heap.size,v.cells.toList,rfl,dV w _,iP _ _⟩)
  refine .value (.pointer (some ⟨w.heap.size,0,none⟩)) _ (by simp[execOp,hop,pK hv]) ⟨_,_,hf.1,?_,hf.2⟩
  refine .ptr _ _ _ (yX hlt rfl) fun _=>⟨w.heap.size,by simp[envOf,aG],rfl⟩
 ·rename_i c hop
  split at h
  case h_2=>exact h.elim
  rename_i g hc
  split at h
  case h_2=>exact h.elim
  rename_i d hcon
  split at h
  case h_2=>exact h.elim
  rename_i cl _ _ hown
  obtain ⟨hmem,rfl⟩:=tT hcon
  obtain ⟨hent,_,_,hso,_⟩:=hΓ d hmem
  unfold ownD at h
  simp only[dQ] at h
  have h':=aE h
  clear h
  obtain ⟨hb,h⟩:=h'
  obtain ⟨r,k,t,ys,e,hk,htri⟩:=hso cl hown _ _ h
  simp only[dB] at hk
  have hk':=aE hk
  clear hk
  obtain ⟨hb2,hk⟩:=hk'
  simp only[Bool.and_eq_true] at hb2
  have htri:=htri hb2.1
  refine ⟨_,_,hk,rfl,?_⟩
  intro F hF H loc ver w a hI hn hT
  refine ⟨by simp[hop],?_⟩
  have hlt:n<H.length:=(List.getElem?_eq_some_iff.1 hn).1
  have hargs:=pG hT c.args.toList
  have hmap:c.args.toList.map (ev lr)=c.args.toList.map (ev l):=List.map_congr_left fun x hx=>hlr x (by rw[hop];simp only[Op.operands,Call.operands];simp;first | exact .inr (by simpa using hx) | exact .inl (by simpa using hx) | simp_all)
  rw[hmap] at hargs
  have hargs0:=RelL.bare (E:=envOf G H loc ver w) (E':=env0 w (okN G H loc w)) (fun _ _ _ h _=>h) (fun _ h=>h) hargs hb
  have e1:=fO hT (.func d.f)
  simp only[ev] at e1
  generalize hv:a.eval (.func d.f)=v at e1
  cases e1 with
  | clo _ _ _ va vb ha hb'=>
   cases ha
   cases hb'
   refine .call d.f ⟨[]++c.args.toList.map a.eval++ []⟩ ?_ fun m=>hF.calls ?_
   ·simp only[execOp,hop]
    rw[vH hc hv]
    exact hent _ _
   ·rw[List.nil_append,List.append_nil]
    refine (htri _ w _ (hY.now hI) (fun _ h=>h.2.1) hargs0).mono ?_
    rintro en w' ⟨v,L',rfl,hbel,hblk,⟨q1,q2,rs,q3,q4⟩,hrel⟩
    have hf:=hI.atRes hn (w':=w') (.vec 1 t ys e) L' 1 hbel.size hbel.os hbel.tape hbel.output (fun b hb=>hbel.block b hb) (fun b hb=>hblk b hb)
     (fun hx=>⟨rfl,Nat.one_pos,q1,q2,rs,q3,fun i hi=>Reads.flatJ hb2.1 (q4 i hi)⟩) (by intro _ _ _ h;cases h)
    exact ⟨v,rfl,_,_,hf.1,Hy (by exact yX hlt rfl) (by simp[envOf,aG]) (by simp[envOf,aG]) hrel hb2.2,hf.2⟩
 ·exact h.elim
structure FxOk (ops:Array Oper) (n0 na k:Nat) (fx:List Fx):Prop where
 lt:∀f∈fx,f.p<k
 apart:fx.Pairwise fun a b=>a.p≠b.p
 names:∀f∈fx,f.n<n0+na
 own:∀f∈fx,n0≤f.n→∀g∈fx,f.p<g.p→g.n=f.n→∃o,ops[g.p]? =some o∧waits o f.p=true
structure OneG (P:Program) (G:Ctx) (Γ:List Con) (ops:Array Oper) (n0 na:Nat) (N:Nat) (fx:List Fx) (rs:List Rc) (wr:Nat→SV) (sv:SV) (wn:Bool) (j:Nat) (o:Oper):Prop where
 want:∀(E:Env) (a:Act),(∀t,lk ops o t→Rel E (wr t) (a.tmps.getD t undef))→Region.wanted o (yielded ops a.tmps)=wn
 skip:wn=false→sv= .tup []∧∀f∈fx,f.p≠j
 dst:∀t,o.dst=some t→t<N
 plain:o.guard=none→wn=true
 run:wn=true→(isA Γ o=true∧∃f lr,f∈fx∧f.p=j∧n0≤f.n∧(∀g∈fx,g.p≠j→g.n=f.n→j<g.p)∧AllocOK P G N o lr f.n sv f.o∧∀(t:Nat) (E:Env) (v:Value),(lk ops o t→Rel E (wr t) v)→Rel E (look lr t) v)∨
  (isA Γ o=false∧∃lr H0 H1 X,⟨j,o,lr,sv⟩∈rs∧op1 P Γ o lr H0 (fun s' H'=>Pinned (s'=sv) (H'=H1) X)∧(isL Γ o=false→∀f∈fx,f.p≠j)∧∀(t:Nat) (E:Env) (v:Value),(lk ops o t→Rel E (wr t) v)→Rel E (look lr t) v)
theorem Uv (l:List (Nat × SV)) {xs:List Operand} {x:Operand} (h:x∈xs):ev (dD l xs) x=ev l x:=by
 cases x with
 | tmp t=>
  simp only[ev]
  induction xs with
  | nil=>cases h
  | cons y ys ih=>
   cases y with
   | tmp u=>
    simp only[dD,look]
    by_cases e:u=t
    ·subst e;rw[bW];rfl
    ·rw[dR e]
     simp only[cond_false]
     refine ih ?_
     rcases List.mem_cons.1 h with h1 | h1
     ·cases h1;exact absurd rfl e
     ·exact h1
   | _=>
    simp only[dD]
    refine ih ?_
    rcases List.mem_cons.1 h with h1 | h1
    ·cases h1
    ·exact h1
 | _=>rfl
theorem virtG (hY:COK P G) (hΓ:∀c∈Γ,aD P c) {ops:Array Oper} {m:Nat} (hq:∀i o,i<m→ops[i]? =some o→opOk ops.toList m i o=true) (htopo:∀i o,ops[i]? =some o→topo i o=true) (wr0:Nat→SV) {n0:Nat} {B:List HO} {K:List (Nat × SV)→List HO→List Fx→List Rc→Prop}
  (hB:∀n,n0≤n→n<B.length→B[n]? =some .res):
  ∀(rest:List Oper) (k:Nat),(ops.toList.take m).drop k=rest→
  ∀ {H:List HO} {fx:List Fx} {rs:List Rc} {na:Nat} {loc:Nat→Loc} {ver:Nat→Nat} {w:World} {l:List (Nat × SV)} {a:Act} {wr:Nat→SV},Inv G H loc ver w→TRel (envOf G H loc ver w) N l a→(∀(E:Env) (t:Nat) (v:Value),Rel E (wr t) v→Rel E (look l t) v)→
  H=cW B fx (fun j=>decide (j<k))→FxOk ops n0 na k fx→n0+na+cntA Γ rest≤B.length→
  (∀t,(∀j o,j<k→ops[j]? =some o→o.dst≠some t)→wr t=wr0 t)→
  rR P Γ N ops.toList n0 rest k l H fx rs na K→
  ∃(wr':Nat→SV) (sv:Nat→SV) (wn:Nat→Bool) (lf:List (Nat × SV)) (Hf:List HO) (fx':List Fx) (rs':List Rc) (na':Nat),K lf Hf fx' rs'∧(∀(E:Env) (t:Nat) (v:Value),Rel E (wr' t) v→Rel E (look lf t) v)∧
   (∀t,(∀j o,k≤j→j<m→ops[j]? =some o→o.dst≠some t)→wr' t=wr t)∧Hf=cW B fx' (fun j=>decide (j<max k m))∧FxOk ops n0 na' (max k m) fx'∧n0+na'≤B.length∧
   (∃p,fx'=p++fx∧∀f∈p,k≤f.p)∧(∀r∈rs,r∈rs')∧
   (∀j o,k≤j→j<m→ops[j]? =some o→(∀t,o.dst=some t→wr' t=sv j)∧OneG P G Γ ops n0 na' N fx' rs' (rdM ops m wr0 wr' j) (sv j) (wn j) j o):=by
 intro rest
 induction rest with
 | nil=>
  intro k hk H fx rs na loc ver w l a wr hI hT hRef hH hfx hna hw0 h
  have hlen:(ops.toList.take m).length≤k:=List.drop_eq_nil_iff.1 hk
  have hcg:cW B fx (fun j=>decide (j<k))=cW B fx (fun j=>decide (j<max k m)):=dO B fx fun f hf=>by
   have:=hfx.lt f hf
   have h2:f.p<max k m:=by omega
   simp[this,h2]
  refine ⟨wr,fun _=>.any,fun _=>false,l,H,fx,rs,na,h,hRef,fun _ _=>rfl,hH.trans hcg,⟨fun f hf=>by have:=hfx.lt f hf;omega,hfx.apart,hfx.names,hfx.own⟩,by simpa [cntA] using hna,⟨[],rfl,by simp⟩,fun _ h=>h,fun j o h1 h2 h3=>?_⟩
  have hj:=(Array.getElem?_eq_some_iff.1 h3).1
  simp at hlen
  omega
 | cons o r ih=>
  intro k hk H fx rs na loc ver w l a wr hI hT hRef hH hfx hna hw0 h
  have hko:(ops.toList.take m)[k]? =some o:=by
   have:((ops.toList.take m).drop k)[0]? =some o:=by rw[hk];rfl
   rw[List.getElem?_drop] at this
   simpa using this
  have hkm:k<m:=by
   rw[List.getElem?_take] at hko
   split at hko
   ·assumption
   ·cases hko
  have hop:ops[k]? =some o:=by
   rw[List.getElem?_take,if_pos hkm] at hko
   simpa using hko
  have hkr:(ops.toList.take m).drop (k+1)=r:=by rw[← List.drop_drop,hk];rfl
  have hok:=hq k o hkm hop
  have hlenH:H.length=B.length:=by rw[hH,mR]
  simp only[Lp] at h
  obtain ⟨l',b,hyn,hlearn,hwant⟩:=Un h
  have hT':TRel (envOf G H loc ver w) N l' a:=⟨hT.size,fun t=>hlearn _ t _ (hT.rel t)⟩
  have hRef':∀(E:Env) (t:Nat) (v:Value),Rel E (wr t) v→Rel E (look l' t) v:=fun E t v h=>hlearn E t v (hRef E t v h)
  -- behind this operation, whatever it has left
  have step:∀ {H':List HO} {fx1:List Fx} {rs1:List Rc} {na1:Nat} {loc':Nat→Loc} {ver':Nat→Nat} {w':World} {s:SV} {v:Value},Inv G H' loc' ver' w'→Ext (envOf G H loc ver w) (envOf G H' loc' ver' w')→Rel (envOf G H' loc' ver' w') s v→
    H'=cW B fx1 (fun j=>decide (j<k+1))→FxOk ops n0 na1 (k+1) fx1→n0+na1+cntA Γ r≤B.length→(∃p,fx1=p++fx∧∀f∈p,f.p=k)→(∀r∈rs,r∈rs1)→
    setT N l' o.dst s (fun l''=>rR P Γ N ops.toList n0 r (k+1) l'' H' fx1 rs1 na1 K)→
    (b=false→s= .tup []∧fx1=fx)→
    (b=true→(isA Γ o=true∧∃f lr,f∈fx1∧f.p=k∧n0≤f.n∧(∀g∈fx1,g.p≠k→g.n≠f.n)∧AllocOK P G N o lr f.n s f.o∧lr=dD l' o.op.operands.toList)∨
     (isA Γ o=false∧∃lr H0 H1 X,⟨k,o,lr,s⟩∈rs1∧op1 P Γ o lr H0 (fun s' H'=>Pinned (s'=s) (H'=H1) X)∧(isL Γ o=false→fx1=fx)∧lr=dD l' o.op.operands.toList))→
    ∃(wr':Nat→SV) (sv:Nat→SV) (wn:Nat→Bool) (lf:List (Nat × SV)) (Hf:List HO) (fx':List Fx) (rs':List Rc) (na':Nat),K lf Hf fx' rs'∧(∀(E:Env) (t:Nat) (v:Value),Rel E (wr' t) v→Rel E (look lf t) v)∧
     (∀t,(∀j o,k≤j→j<m→ops[j]? =some o→o.dst≠some t)→wr' t=wr t)∧Hf=cW B fx' (fun j=>decide (j<max k m))∧FxOk ops n0 na' (max k m) fx'∧n0+na'≤B.length∧
     (∃p,fx'=p++fx∧∀f∈p,k≤f.p)∧(∀r∈rs,r∈rs')∧
     (∀j o,k≤j→j<m→ops[j]? =some o→(∀t,o.dst=some t→wr' t=sv j)∧OneG P G Γ ops n0 na' N fx' rs' (rdM ops m wr0 wr' j) (sv j) (wn j) j o):=by
   intro H' fx1 rs1 na1 loc' ver' w' s v hI' hx' hrs hH1 hfx1 hna1 hpre hrsub hset hskip hrun
   obtain ⟨p1,hp1,hp1k⟩:=hpre
   obtain ⟨wr1,hwr1⟩:∃wr1:Nat→SV,wr1=fun t=>if o.dst=some t then s else wr t:=⟨_,rfl⟩
   have hnext:∃l'',rR P Γ N ops.toList n0 r (k+1) l'' H' fx1 rs1 na1 K∧TRel (envOf G H' loc' ver' w') N l'' (a.put o.dst v)∧(∀(E:Env) (t:Nat) (v:Value),Rel E (wr1 t) v→Rel E (look l'' t) v)∧∀t,o.dst=some t→t<N:=by
    cases hd:o.dst with
    | none=>
     rw[hd] at hset
     refine ⟨l',hset,hT'.ext hx',fun E t v h=>?_,fun t h=>by cases h⟩
     rw[hwr1] at h
     simp only[hd] at h
     exact hRef' E t v (by simpa using h)
    | some u=>
     rw[hd] at hset
     obtain ⟨hu,hset⟩:=aE hset
     rw[aL] at hset
     have hu':u<N:=by simpa using hu
     refine ⟨_,hset,?_,fun E t v h=>?_,fun t h=>by cases h;exact hu'⟩
     ·refine ⟨by simp[Act.put];exact hT.size,fun t=>?_⟩
      rw[gD,nY a u t v (by rw[hT.size];exact hu')]
      by_cases e:t=u
      ·rw[if_pos e,if_pos e];exact hrs
      ·rw[if_neg e,if_neg e];exact (hT'.ext hx').rel t
     ·rw[hwr1] at h
      simp only[hd] at h
      rw[gD]
      by_cases e:t=u
      ·rw[if_pos e];rw[if_pos (by rw[e])] at h;exact h
      ·rw[if_neg e];rw[if_neg (fun e'=>e (by cases e';rfl))] at h;exact hRef' E t v h
   obtain ⟨l'',he,hT'',hRef'',hdN⟩:=hnext
   obtain ⟨wr',sv,wn,lf,Hf,fx',rs',na',h1,h2,h3,h6,h7,h8,⟨p2,hp2,hp2k⟩,h9,h4⟩:=ih (k+1) hkr hI' hT'' hRef'' hH1 hfx1 hna1 (fun t ht=>by
    rw[hwr1]
    simp only[if_neg (ht k o (Nat.lt_succ_self k) hop)]
    exact hw0 t fun j o' hj=>ht j o' (by omega)) he
   have hmax:max (k+1) m=max k m:=by omega
   rw[hmax] at h6 h7
   have hwr:∀t,lk ops o t→rdM ops m wr0 wr' k t=wr t:=by
    intro t ht
    have hro:=mO hok ht
    unfold rdM
    by_cases hl:late ops m k t
    ·rw[if_pos hl]
     obtain ⟨j0,o0,g1,g2,g3,g4⟩:=hl
     obtain ⟨e,he,hb,hon⟩:=fP g4
     have hk0:=jK (htopo j0 o0 g2) e he hb
     refine (hw0 t fun j o' hj hj3 hd=>?_).symm
     have:=lM (hq j0 o0 g1 g2) g3 (show j<m by omega) hj3 hd
     omega
    ·rw[if_neg hl]
     have h5:=h3 t fun j o' hj1 hj2 hj3 hd=>by
      rcases fU hro hj2 hj3 hd with h6 | h6
      ·have:=h6.2;omega
      ·exact hl ⟨j,o',hj2,hj3,hd,h6⟩
     rw[h5,hwr1]
     have:o.dst≠some t:=fun hd=>by
      rcases fU hro hkm hop hd with h6 | h6
      ·have:=h6.2;omega
      ·exact hl ⟨k,o,hkm,hop,hd,h6⟩
     simp only[if_neg this]
   have hlr:∀(t:Nat) (E:Env) (v:Value),(lk ops o t→Rel E (rdM ops m wr0 wr' k t) v)→Rel E (look (dD l' o.op.operands.toList) t) v:=by
    intro t E v hr
    rcases gX l' o.op.operands.toList t with h5 | ⟨h5,h6⟩
    ·rw[h5];exact .any v
    ·rw[h6]
     have hl:lk ops o t:=.inl h5
     exact hRef' E t v (by rw[← hwr t hl];exact hr hl)
   have hnot:fx1=fx→∀f∈fx',f.p≠k:=by
    intro e f hf
    rw[hp2,e] at hf
    rcases List.mem_append.1 hf with h | h
    ·have:=hp2k f h;omega
    ·have:=hfx.lt f h;omega
   refine ⟨wr',fun j=>if j=k then s else sv j,fun j=>if j=k then b else wn j,lf,Hf,fx',rs',na',h1,h2,fun t ht=>?_,h6,h7,h8,⟨p2++p1,by rw[hp2,hp1,List.append_assoc],fun f hf=>?_⟩,fun q hq=>h9 q (hrsub q hq),fun j o' hj1 hj2 hj3=>?_⟩
   ·rw[h3 t fun j o' hj1 hj2 hj3=>ht j o' (by omega) hj2 hj3,hwr1]
    simp only[if_neg (ht k o (Nat.le_refl _) hkm hop)]
   ·rcases List.mem_append.1 hf with h | h
    ·have:=hp2k f h;omega
    ·have:=hp1k f h;omega
   ·by_cases e:j=k
    ·subst e
     rw[hop] at hj3;cases hj3
     simp only[if_true]
     refine ⟨fun t hd=>?_,⟨fun E a hr=>hwant E a fun t ht=>hRef E t _ (by rw[← hwr t ht];exact hr t ht),fun hb=>?_,hdN,?_,fun hb=>?_⟩⟩
     ·rw[h3 t fun j' o' hj1' hj2' hj3' hd'=>by have:=lM hok hd hj2' hj3' hd';omega,hwr1]
      simp only[if_pos hd]
     ·obtain ⟨q1,q2⟩:=hskip hb
      exact ⟨q1,hnot q2⟩
     ·intro hg
      rw[← hwant (envOf G H loc ver w) a fun t _=>hT.rel t]
      simp[Region.wanted,hg]
     ·rcases hrun hb with ⟨q1,f,lr,q2,q3,q4,q6,q5,rfl⟩ | ⟨q1,lr,H0,H1,X,q2,q3,q4,rfl⟩
      ·refine .inl ⟨q1,f,_,by rw[hp2];exact List.mem_append_right _ q2,q3,q4,fun g hg hne hgn=>?_,q5,hlr⟩
       rw[hp2] at hg
       rcases List.mem_append.1 hg with h | h
       ·have:=hp2k g h;omega
       ·exact absurd hgn (q6 g h hne)
      ·exact .inr ⟨q1,_,H0,H1,X,h9 _ q2,q3,fun hl=>hnot (q4 hl),hlr⟩
    ·simp only[if_neg e]
     exact h4 j o' (by omega) hj2 hj3
  have hTr:TRel (envOf G H loc ver w) N (dD l' o.op.operands.toList) a:=⟨hT.size,fun t=>by
   rcases gX l' o.op.operands.toList t with h5 | ⟨h5,h6⟩
   ·rw[h5];exact .any _
   ·rw[h6];exact hT'.rel t⟩
  have hHk:∀fx',(∀f∈fx',f.p<k)→cW B fx' (fun j=>decide (j<k))=cW B fx' (fun j=>decide (j<k+1)):=fun fx' h=>dO B fx' fun f hf=>by
   have:=h f hf
   simp[this,Nat.lt_succ_of_lt this]
  have hfx':FxOk ops n0 na (k+1) fx:=⟨fun f hf=>Nat.lt_succ_of_lt (hfx.lt f hf),hfx.apart,hfx.names,hfx.own⟩
  have hcnt:cntA Γ r≤cntA Γ (o::r):=by
   simp only[cntA]
   cases isA Γ o<;>simp
  rcases hyn with ⟨rfl,hy⟩ | ⟨rfl,hn⟩
  ·cases hA:isA Γ o with
   | true=>
    rw[hA] at hy
    simp only at hy
    have hcA:cntA Γ (o::r)=cntA Γ r+1:=by simp[cntA,hA]
    obtain ⟨s,ob,hs,hal⟩:=Fm hY hΓ (G:=G) (N:=N) (lr:=dD l' o.op.operands.toList) hy fun x hx=>Uv l' (by simpa using hx)
    have hnr:H[n0+na]? =some .res:=by
     rw[hH,oI B fx fun g hg _=>by have:=hfx.names g hg;omega]
     exact hB _ (by omega) (by omega)
    obtain ⟨_,hopk⟩:=hal.2 (F:=Fence.wide) ⟨none,rfl⟩ hI hnr hTr
    obtain ⟨v,w',loc',ver',hI',hr',hx'⟩:=hopk.ex
    refine step (fx1:=⟨k,n0+na,ob⟩::fx) (rs1:=rs) (na1:=na+1) hI' hx' hr' ?_ ⟨fun f hf=>?_,List.pairwise_cons.2 ⟨fun f hf=>?_,hfx.apart⟩,fun f hf=>?_,fun f hf hn g hg hne hgn=>?_⟩ (by omega) ⟨[⟨k,n0+na,ob⟩],rfl,by simp⟩ (fun _ h=>h) ?_ (fun h=>by cases h) (fun _=>.inl ⟨hA,_,_,List.mem_cons_self,rfl,Nat.le_add_right _ _,fun g hg hne hgn=>?_,hal,rfl⟩)
    ·simp only[fM]
     rw[show decide (k<k+1)=true by simp,cond_true,← hHk fx hfx.lt,← hH]
    ·rcases List.mem_cons.1 hf with rfl | hf
     ·exact Nat.lt_succ_self _
     ·exact Nat.lt_succ_of_lt (hfx.lt f hf)
    ·have:=hfx.lt f hf
     show k≠f.p
     omega
    ·rcases List.mem_cons.1 hf with rfl | hf
     ·show n0+na<n0+(na+1);omega
     ·have:=hfx.names f hf;omega
    ·rcases List.mem_cons.1 hf with rfl | hf
     ·rcases List.mem_cons.1 hg with rfl | hg
      ·exact absurd hne (Nat.lt_irrefl _)
      ·have:=hfx.lt g hg
       have hne:k<g.p:=hne
       omega
     ·rcases List.mem_cons.1 hg with rfl | hg
      ·have:=hfx.names f hf
       have hgn:n0+na=f.n:=hgn
       omega
      ·exact hfx.own f hf hn g hg hne hgn
    ·simp only[aL] at hs
     exact hs
    ·rcases List.mem_cons.1 hg with rfl | hg
     ·exact absurd rfl hne
     ·have:=hfx.names g hg
      have hgn:g.n=n0+na:=hgn
      omega
   | false=>
    rw[hA] at hy
    simp only at hy
    have hcA:cntA Γ (o::r)=cntA Γ r:=by simp[cntA,hA]
    cases hL:isL Γ o with
    | true=>
     rw[hL] at hy
     simp only at hy
     obtain ⟨s,ob,hs⟩:=hy.ex
     rw[aL] at hs
     obtain ⟨_,hopk⟩:=gW (F:=Fence.wide) hY hΓ ⟨none,rfl⟩ hI hTr hs
     obtain ⟨v,w',s',H',loc',ver',hp,hI',hr',hx'⟩:=hopk.ex
     obtain ⟨rfl,rfl,hgo⟩:=hp
     obtain ⟨hlt,hgo⟩:=aE hgo
     have hlt:tgt (dD l' o.op.operands.toList) o<n0∨(tgt (dD l' o.op.operands.toList) o<n0+na∧fxW o (tgt (dD l' o.op.operands.toList) o) fx=true):=by
      simpa only[Bool.or_eq_true,Bool.and_eq_true,Nat.blt_eq] using hlt
     refine step (fx1:=⟨k,tgt (dD l' o.op.operands.toList) o,ob⟩::fx) (rs1:=⟨k,o,dD l' o.op.operands.toList,s'⟩::rs) (na1:=na) hI' hx' hr' ?_ ⟨fun f hf=>?_,List.pairwise_cons.2 ⟨fun f hf=>?_,hfx.apart⟩,fun f hf=>?_,fun f hf hn g hg hne hgn=>?_⟩ (by omega) ⟨[⟨k,_,ob⟩],rfl,by simp⟩ (fun _ h=>List.mem_cons_of_mem _ h) ?_ (fun h=>by cases h) (fun _=>.inr ⟨hA,_,H,_,_,List.mem_cons_self,hs,(fun h=>by rw[hL] at h;cases h),rfl⟩)
     ·simp only[fM]
      rw[show decide (k<k+1)=true by simp,cond_true,← hHk fx hfx.lt,← hH]
     ·rcases List.mem_cons.1 hf with rfl | hf
      ·exact Nat.lt_succ_self _
      ·exact Nat.lt_succ_of_lt (hfx.lt f hf)
     ·have:=hfx.lt f hf
      show k≠f.p
      omega
     ·rcases List.mem_cons.1 hf with rfl | hf
      ·show tgt _ o<n0+na;omega
      ·exact hfx.names f hf
     ·rcases List.mem_cons.1 hf with rfl | hf
      ·rcases List.mem_cons.1 hg with rfl | hg
       ·exact absurd hne (Nat.lt_irrefl _)
       ·have:=hfx.lt g hg
        have hne:k<g.p:=hne
        omega
      ·rcases List.mem_cons.1 hg with rfl | hg
       ·have hgn:tgt (dD l' o.op.operands.toList) o=f.n:=hgn
        rcases hlt with h1 | ⟨_,h1⟩
        ·omega
        ·exact ⟨o,hop,Gx h1 f hf hgn.symm⟩
       ·exact hfx.own f hf hn g hg hne hgn
     ·simp only[aL] at hgo
      exact hgo
    | false=>
     rw[hL] at hy
     simp only at hy
     obtain ⟨s,hs⟩:=hy.ex
     rw[aL] at hs
     obtain ⟨_,hopk⟩:=gW (F:=Fence.wide) hY hΓ ⟨none,rfl⟩ hI hTr hs
     obtain ⟨v,w',s',H',loc',ver',hp,hI',hr',hx'⟩:=hopk.ex
     obtain ⟨rfl,rfl,hgo⟩:=hp
     exact step (fx1:=fx) (rs1:=⟨k,o,dD l' o.op.operands.toList,s'⟩::rs) (na1:=na) hI' hx' hr' (by rw[← hHk fx hfx.lt];exact hH) hfx' (by omega) ⟨[],rfl,by simp⟩ (fun _ h=>List.mem_cons_of_mem _ h) hgo (fun h=>by cases h) (fun _=>.inr ⟨hA,_,_,_,_,List.mem_cons_self,hs,(fun _=>rfl),rfl⟩)
  ·exact step (fx1:=fx) (rs1:=rs) (na1:=na) hI (Ext.refl _) (.tup [] [] .nil) (by rw[← hHk fx hfx.lt];exact hH) hfx' (by omega) ⟨[],rfl,by simp⟩ (fun _ h=>h) hn (fun _=>⟨rfl,rfl⟩) (fun h=>by cases h)
theorem oJ {n:Nat}:∀ {l:List Nat},memN n l=true↔n∈l
 | []=>by simp[memN]
 | x::r=>by
  simp only[memN,Bool.or_eq_true,aJ,List.mem_cons,oJ (l:=r)]
  exact ⟨fun h=>h.imp Eq.symm id,fun h=>h.imp Eq.symm id⟩
theorem vO (S:Nat→Bool):∀ps:List Nat,ps.filter S∈subs ps
 | []=>by simp[subs]
 | p::r=>by
  have ih:=vO S r
  simp only[subs,List.mem_append,List.mem_map,List.filter_cons]
  cases S p with
  | true=>exact .inr ⟨_,ih,rfl⟩
  | false=>exact .inl ih
theorem Uw {ms ps:List Nat} {B:List HO} {fx:List Fx} {rs:List Rc} (h:chkR P Γ ms ps B fx rs) (r:Rc) (hr:r∈rs):chkS P Γ ms ps B fx r.i r.o r.l r.s (subs ps):=by
 induction rs with
 | nil=>cases hr
 | cons q rs ih=>
  rw[Rd] at h
  rcases List.mem_cons.1 hr with e | hr
  ·rw[e];exact h.chk
  ·exact ih h.go hr
theorem Jh {ms ps:List Nat} {B:List HO} {fx:List Fx} {r:Rc}:∀ {sl:List (List Nat)},chkS P Γ ms ps B fx r.i r.o r.l r.s sl→∀sub∈sl,admB ms ps r.i sub=true→
  op1 P Γ r.o r.l (cW B fx fun j=>memN j sub) fun s' H'=>Pinned (s'=r.s) (H'=cW B fx fun j=>memN j sub || Nat.beq j r.i) Fin0
 | q::sl,h,sub,hs,ha=>by
  rw[Rb] at h
  rcases List.mem_cons.1 hs with rfl | hs
  ·rw[ha] at h
   have:=h.chk
   unfold chk1 at this
   rwa [fR] at this
  ·refine Jh ?_ sub hs ha
   cases hc:admB ms ps r.i q with
   | true=>rw[hc] at h;exact h.go
   | false=>rw[hc] at h;exact h
theorem Ji (hY:COK P G) (hΓ:∀c∈Γ,aD P c) {F:Fence} (hF:Opn F) {n:Nat} {ops:Array Oper} {m:Nat} (hok:pC ops.toList m=true)
  {l:List (Nat × SV)} {a:Act} {K:List (Nat × SV)→List HO→Prop} {Q:Exit→Act→World→Prop} (hQn:∀e a w,Q e a w→e= .normal) (hI:Inv G H loc ver w) (hT:TRel (envOf G H loc ver w) N l a)
  (h:Og P Γ N ops.toList m l H K)
  (hQ:∀l' H' loc' ver' a' w',K l' H'→Inv G H' loc' ver' w'→TRel (envOf G H' loc' ver' w') N l' a'→Ext (envOf G H loc ver w) (envOf G H' loc' ver' w')→Same (ops.toList.filterMap (·.dst)) a a'→a'.defers=a.defers→Q .normal a' w'):
  wpAnyIn F n P .any ops Q ops.size (Array.replicate ops.size false) a w:=by
 unfold Og at h
 cases hl:Tu Γ (ops.toList.take m) with
 | false=>
  rw[hl] at h
  exact Mc hY hΓ hF hok hQn hI hT h hQ
 | true=>
 rw[hl] at h
 simp only[cond_true,aL,Of,Nat.zero_add] at h
 simp only[pC,Bool.and_eq_true] at hok
 obtain ⟨hq0,hq1,hq2,hq3⟩:=hok
 have hms:m≤ops.size:=by simpa using hq0
 have hq:∀i o,i<m→ops[i]? =some o→opOk ops.toList m i o=true:=fun i o hi ho=>fV hq1 hi ho
 have htopo:∀i o,ops[i]? =some o→topo i o=true:=fun i o ho=>fV hq2 (by simpa using (Array.getElem?_eq_some_iff.1 ho).1) ho
 have htail0:∀i o,m≤i→ops[i]? =some o→∀j,j<i→fE (fL ops.toList []) i j=true∨(j<m∧kS ops.toList j=true):=by
  intro i o hi ho j hj
  rw[pB] at hq3
  have:=fV hq3 (by simpa using (Array.getElem?_eq_some_iff.1 ho).1) ho
  simp only[Bool.or_eq_true] at this
  rcases this with h1 | h1
  ·have:i<m:=by simpa using h1
   omega
  ·have:=List.all_eq_true.1 h1 j (List.mem_range.2 hj)
   simpa using this
 obtain ⟨B,hBd⟩:∃B,B=H++List.replicate (cntA Γ (ops.toList.take m)) HO.res:=⟨_,rfl⟩
 rw[← hBd] at h
 have hBl:B.length=H.length+cntA Γ (ops.toList.take m):=by rw[hBd];simp
 have hB:∀q,H.length≤q→q<B.length→B[q]? =some .res:=by
  intro q h1 h2
  rw[hBd,List.getElem?_append_right h1,List.getElem?_replicate,if_pos (by omega)]
 obtain ⟨hI0,hx0⟩:=hI.keeps (cntA Γ (ops.toList.take m))
 rw[← hBd] at hI0 hx0
 have hT0:=hT.ext hx0
 obtain ⟨wr,sv,wn,lf,Hf,fx,rs,na,⟨hchk,hlf⟩,hRef,hwr,hHf,hfx,hna,_,_,hQP⟩:=virtG (N:=N) hY hΓ hq htopo (look l) hB (ops.toList.take m) 0 (by simp) (fx:=[]) (rs:=[]) (na:=0) (wr:=look l) hI0 hT0 (fun _ _ _ h=>h) rfl ⟨by simp,.nil,by simp,by simp⟩ (by omega) (fun _ _=>rfl) h
 rw[Nat.zero_max] at hHf hfx
 rw[pB,Ts] at hchk
 have hmem:∀f∈fx,f.p∈fx.map (·.p):=fun f hf=>List.mem_map.2 ⟨f,hf,rfl⟩
 refine Jf (N:=N) (hS:=cW B fx) (wr:=wr) (sv:=sv) (wn:=wn) (lf:=lf) (l:=l) hY hΓ hF hms hq htopo htail0 hRef (fun t ht=>hwr t fun j o _ h2 h3=>ht j o h2 h3) (fun j o hj ho=>?_) hQn (by rw[mT];exact hI0) (by rw[mT];exact hT0) (by rw[← hHf];exact hlf)
  (fun l' H' loc' ver' a' w' h1 h2 h3 h4 h5 h6=>hQ l' H' loc' ver' a' w' h1 h2 h3 (hx0.trans (by rw[mT] at h4;exact h4)) h5 h6)
 obtain ⟨hd,hone⟩:=hQP j o (Nat.zero_le _) hj ho
 refine ⟨hd,hone.want,fun hb=>?_,fun hb=>?_,hone.dst,fun x hx hg=>?_⟩
 ·intro F' hF' S hS loc' ver' w' a' hI' hsz hrd
  have hTr:∀ {lr:List (Nat × SV)},(∀(t:Nat) (E:Env) (v:Value),(lk ops o t→Rel E (rdM ops m (look l) wr j t) v)→Rel E (look lr t) v)→TRel (envOf G (cW B fx S) loc' ver' w') N lr a':=fun hlr=>⟨hsz,fun t=>hlr t _ _ (hrd t)⟩
  rcases hone.run hb with ⟨_,f,lr,hf,hp,hn,hlate,hal,hlr⟩ | ⟨_,lr,H0,H1,X,hr,_,_,hlr⟩
  ·have hn2:∀g∈fx,S g.p=true→g.n≠f.n:=fun g hg hSg hgn=>by
    by_cases hne:g.p=j
    ·rw[hne,hS.not] at hSg;cases hSg
    ·have hl:=hlate g hg hne hgn
     obtain ⟨o',ho',hw⟩:=hfx.own f hf hn g hg (by rw[hp];exact hl) hgn
     obtain ⟨e,he,hbd,hon⟩:=fP hw
     have:=hS.closed g.p o' ho' hSg e he hbd
     rw[hon,hp,hS.not] at this;cases this
   rw[Cj B fx hf hp hS.not hfx.apart fun g hg _ hSg=>hn2 g hg hSg]
   refine hal.2 hF' hI' ?_ (hTr hlr)
   rw[oI B fx fun g hg hSg=>hn2 g hg hSg]
   exact hB _ hn (by have:=hfx.names f hf;omega)
  ·have hS1:∀f∈fx,memN f.p ((fx.map (·.p)).filter S)=S f.p:=fun f hf=>by
    rw[Bool.eq_iff_iff,oJ,List.mem_filter]
    exact ⟨fun h=>h.2,fun h=>⟨hmem f hf,h⟩⟩
   have hc:=Jh (Uw hchk _ hr) _ (vO S (fx.map (·.p))) ?_
   ·have e1:(cW B fx fun q=>memN q ((fx.map (·.p)).filter S))=cW B fx S:=dO B fx hS1
    have e2:(cW B fx fun q=>memN q ((fx.map (·.p)).filter S) || Nat.beq q j)=cW B fx (addS S j):=dO B fx fun f hf=>by simp only[addS,hS1 f hf]
    rw[e1,e2] at hc
    obtain ⟨hnd,hopk⟩:=gW hY hΓ hF' hI' (hTr hlr) hc
    refine ⟨hnd,hopk.mono ?_⟩
    rintro v w2 ⟨s',H',loc2,ver2,⟨rfl,rfl,_⟩,h1,h2,h3⟩
    exact ⟨loc2,ver2,h1,h2,h3⟩
   ·have hwm:∀i p o',ops[i]? =some o'→fE (fL ops.toList []) i p=true→(∀e∈o'.after,Region.binds .any e=true→S e.on=true)→S p=true:=fun i p o' ho' hw hp=>kJ (L:=fun j=>S j=true) hS.closed ho' hw hp
    have hopS:∀p,S p=true→∃o',ops[p]? =some o':=fun p hp=>by
     have:=hS.lt p hp
     exact ⟨ops[p]'(by omega),by simp[show p<ops.size by omega]⟩
    simp only[admB,Bool.and_eq_true,Bool.not_eq_true',List.all_eq_true,Bool.or_eq_true]
    refine ⟨?_,fun p hp=>?_,fun p hp=>⟨?_,fun q hq'=>?_⟩⟩
    ·rw[Bool.eq_false_iff,Ne,oJ,List.mem_filter]
     rintro ⟨_,h2⟩
     rw[hS.not] at h2;cases h2
    ·cases hw:fE (fL ops.toList []) j p with
     | false=>exact .inl rfl
     | true=>exact .inr (oJ.2 (List.mem_filter.2 ⟨hp,hwm j p o ho hw hS.own⟩))
    ·have hSp:=(List.mem_filter.1 hp).2
     cases hw:fE (fL ops.toList []) p j with
     | false=>rfl
     | true=>
      obtain ⟨o',ho'⟩:=hopS p hSp
      have:=hwm p j o' ho' hw (hS.closed p o' ho' hSp)
      rw[hS.not] at this;cases this
    ·have hSp:=(List.mem_filter.1 hp).2
     cases hw:fE (fL ops.toList []) p q with
     | false=>exact .inl rfl
     | true=>
      obtain ⟨o',ho'⟩:=hopS p hSp
      exact .inr (oJ.2 (List.mem_filter.2 ⟨hq',hwm p q o' ho' hw (hS.closed p o' ho' hSp)⟩))
 ·obtain ⟨h1,h2⟩:=hone.skip hb
  refine ⟨h1,fun S=>dO B fx fun f hf=>?_⟩
  simp[addS,dR (h2 f hf)]
 ·have hwn:=hone.plain hg
  rcases hone.run hwn with ⟨hA,_⟩ | ⟨_,lr,H0,H1,X,hr,hop,hnf,hlr⟩
  ·cases ho:o.op<;>rw[ho] at hx<;>first | (simp[isA,ho] at hA;done) | cases hx
  ·have hnf:=hnf (by cases ho:o.op<;>rw[ho] at hx<;>first | (simp[isL,ho];done) | cases hx)
   refine ⟨fun E a hsz hrd=>?_,fun S=>dO B fx fun f hf=>by simp[addS,dR (hnf f hf)]⟩
   obtain ⟨s,v0,hk,hrs,hrun⟩:=Iu hx hop (fO (E:=E) (a:=a) (N:=N) ⟨hsz,fun t=>hlr t _ _ (hrd t)⟩ x)
   rw[hk.val] at hrs
   exact ⟨v0,hrs,hrun⟩
end
end Go.Eng
end
section
namespace Go.Eng
open Go.RowKit
section
variable {P:Program} {G:Ctx} {N:Nat}
theorem jZ (hY:COK P G) {Γ:List Con} (hΓ:∀c∈Γ,aD P c) {A:Anns} (c:Code):∀key,Cb P G N Γ A key c:=by
 induction c with
 | skip=>
  intro key F n hF H loc ver w l a K hI hT hRo h
  exact wpIn_skip ⟨l,H,loc,ver,h,hI,hT,.refl _ _,.refl _ _,.refl _ _ _⟩
 | label n=>
  intro key F n hF H loc ver w l a K hI hT hRo h
  exact wpIn_label ⟨l,H,loc,ver,h,hI,hT,.refl _ _,.refl _ _,.refl _ _ _⟩
 | ret=>
  intro key F n hF H loc ver w l a K hI hT hRo h
  exact wpIn_ret ⟨l,H,loc,ver,h,hI,hT,.refl _ _,.refl _ _,.refl _ _ _⟩
 | exit id=>
  intro key F n hF H loc ver w l a K hI hT hRo h
  exact wpIn_exit ⟨l,H,loc,ver,h,hI,hT,.refl _ _,.refl _ _,.refl _ _ _⟩
 | region id ops draw=>
  intro key F n hF H loc ver w l a K hI hT hRo h
  cases draw with
  | true=>
   simp only[eB,gN,jT,gO,fN,gP,cX] at h
   obtain ⟨hc,h⟩:=aE h
   obtain ⟨hm,hq⟩:=and2 hc
   refine wpIn_region_any hm ?_
   have hg:=hI.grow (w':={ w with drawn:=w.drawn+1 }) ⟨rfl,rfl,rfl,Nat.le_refl _,fun _ _=>rfl⟩
   refine pQ (Q:=fun e a' w'=>e= .normal∧After G N (bO (.region id ops true)) (aS A key (.region id ops true)) K (envOf G H loc ver w) a .normal a' w') (fun e a' w' h=>by obtain ⟨rfl,h⟩:=h;exact h) _ _ _ _ ?_
   refine Ji hY hΓ hF hq (fun e a' w' h=>h.1) hg.1 (hT.ext hg.2) h ?_
   intro l' H' loc' ver' a' w' h1 h2 h3 h4 h5 h6
   exact ⟨rfl,l',H',loc',ver',h1,h2,h3,(hg.2.trans h4).toO _,h5,.of_eq h6⟩
  | false=>
   simp only[eB,gN,jT,gO,fN,gP,cX] at h
   refine wpIn_region ?_
   have:=Bc (N:=N) (n:=n) hY hΓ hF ops.toList 0 (by simp) (Q:=After G N (bO (.region id ops false)) (aS A key (.region id ops false)) K (envOf G H loc ver w) a) hI hT h
    (fun l' H' loc' ver' a' w' h1 h2 h3 h4 h5 h6=>⟨l',H',loc',ver',h1,h2,h3,h4.toO _,h5,.of_eq h6⟩)
   rw[List.range_eq_range']
   simpa using this
 | seq x y ihx ihy=>
  intro key F n hF H loc ver w l a K hI hT hRo h
  refine wpIn_seq ?_
  have behind:∀ {H':List HO} {loc':Nat→Loc} {ver':Nat→Nat} {w':World} {l':List (Nat × SV)} {a':Act},Inv G H' loc' ver' w'→TRel (envOf G H' loc' ver' w') N l' a'→exec P Γ N A key y l' H' K→
    ExtO (aS A key (.seq x y)) (envOf G H loc ver w) (envOf G H' loc' ver' w')→Same (bO (.seq x y)) a a'→Marked (envOf G H loc ver w) (envOf G H' loc' ver' w') a.defers a'.defers→
    y.wpIn F n P (After G N (bO (.seq x y)) (aS A key (.seq x y)) K (envOf G H loc ver w) a) a' w':=by
   intro H' loc' ver' w' l' a' hI' hT' h' hx hs hd
   refine wpIn_mono (ihy key hF hI' hT' (hRo.ext hx) h') ?_
   intro e a'' w'' h''
   refine After.trans hx hs hd (h''.mono (vL _ _) (fun m hm=>?_) fun _ _ h=>h)
   simp only[aS]
   rw[mem_append,mem_append,hm];simp
  simp only[eB,gN,jT,gO,fN,gP,cX] at h
  cases hc:Oi A y with
  | none=>
   rw[hc] at h
   refine wpIn_mono (ihx key hF hI hT hRo h) ?_
   rintro e a' w' ⟨l',H',loc',ver',h1,h2,h3,h4,h5,h6⟩
   have hD:∀m,mem m (aS A key x)=true→mem m (aS A key (.seq x y))=true:=by
    intro m hm;simp only[aS];rw[mem_append,mem_append,hm];simp
   cases e with
   | normal=>exact behind h2 h3 h1 (h4.mono hD) (h5.mono (nO _ _)) h6
   | _=>exact ⟨l',H',loc',ver',h1,h2,h3,h4.mono hD,h5.mono (nO _ _),h6⟩
  | some an=>
   rw[hc] at h
   obtain ⟨hok,hvc⟩:=h
   obtain ⟨_,hx⟩:=hvc.init
   have hD:∀m,mem m (aS A key x)=true→mem m (aS A key (.seq x y))=true:=by
    intro m hm;simp only[aS];rw[mem_append,mem_append,hm];simp
   have hO:∀m,mem m an.objs=true→mem m (aS A key (.seq x y))=true:=by
    intro m hm;simp only[aS,hc];rw[mem_append,hm];simp
   refine wpIn_mono (ihx key hF hI hT hRo hx) ?_
   rintro e a' w' ⟨l',H',loc',ver',h1,h2,h3,h4,h5,h6⟩
   cases e with
   | normal=>
    obtain ⟨z,hz⟩:=h1
    have hz1:=and2 (hok z)
    have hz2:=and2 hz1.1
    have hz3:=and2 hz2.1
    obtain ⟨hI2,hT2,hx2⟩:=sG hI hT h2 h3 h4 h5 (aJ.1 hz3.2) hz1.2 hz2.2 hz
    have hr:=hvc.round () z hz.pre
    rw[eT,fR] at hr
    refine behind hI2 hT2 hr (hx2.mono hO) (h5.mono (nO _ _)) ?_
    obtain ⟨Ds,m1,m2,m3⟩:=h6
    refine ⟨Ds,m1,m2,fun D hD=>?_⟩
    obtain ⟨q1,q2,q3⟩:=m3 D hD
    refine ⟨q1,?_,q3⟩
    intro hq
    rcases hx2.ali D hq with q4 | q4
    ·obtain ⟨nm,st,k,it,e1,e2⟩:=hq
     obtain ⟨o',e3,e4⟩:=(fT hz.ent.2).2 nm _ e1
     cases o' with
     | yst=>exact q2 ⟨nm,_,_,_,e3,e2⟩
     | _=>exact e4.elim
    ·obtain ⟨nm,st,k,it,e1,e2⟩:=hq
     obtain ⟨o',e3,e4⟩:=(fT hz.ent.2).2 nm _ e1
     cases o' with
     | yst=>exact q2 ⟨nm,_,_,_,e3,e2⟩
     | _=>exact e4.elim
   | _=>exact ⟨l',H',loc',ver',h1,h2,h3,h4.mono hD,h5.mono (nO _ _),h6⟩
 | cond c x y ihx ihy=>
  intro key F n hF H loc ver w l a K hI hT hRo h
  have hr:=fO hT c
  have hX:exec P Γ N A key x l H K→x.wpIn F n P (After G N (bO (.cond c x y)) (aS A key (.cond c x y)) K (envOf G H loc ver w) a) a w:=fun h=>
   wpIn_mono (ihx key hF hI hT hRo h) fun e a' w' h'=>h'.mono (nO _ _) (nO _ _) fun _ _ h=>h
  have hY':exec P Γ N A key y l H K→y.wpIn F n P (After G N (bO (.cond c x y)) (aS A key (.cond c x y)) K (envOf G H loc ver w) a) a w:=fun h=>
   wpIn_mono (ihy key hF hI hT hRo h) fun e a' w' h'=>h'.mono (vL _ _) (vL _ _) fun _ _ h=>h
  simp only[eB,gN,jT,gO,fN,gP,cX] at h
  split at h
  ·rename_i hl;rw[hl] at hr
   exact wpIn_cond_true hr.bool_inv (hX h)
  ·rename_i hl;rw[hl] at hr
   exact wpIn_cond_false hr.bool_inv (hY' h)
  ·rename_i p d hl
   rw[hl] at hr
   generalize hv:a.eval c=v at hr
   cases hr
   by_cases hp:p
   ·exact wpIn_cond_true (by rw[hv];simp[hp]) (hX (h.yes hp))
   ·exact wpIn_cond_false (by rw[hv];simp[hp]) (hY' (h.no hp))
  ·exact h.elim
 | block id c ih=>
  intro key F n hF H loc ver w l a K hI hT hRo h
  simp only[eB,gN,jT,gO,fN,gP,cX] at h
  refine wpIn_block (wpIn_mono (ih id hF hI hT hRo h) ?_)
  rintro e a' w' ⟨l',H',loc',ver',h1,h2,h3,h4,h5,h6⟩
  cases e with
  | exit m=>
   simp only at h1
   simp only[Exit.inBlock]
   by_cases hm:m=id
   ·subst hm
    rw[bW] at h1
    simp only[cond_true] at h1
    rw[if_pos rfl]
    exact ⟨l',H',loc',ver',h1,h2,h3,h4,h5,h6⟩
   ·rw[dR hm] at h1
    simp only[cond_false] at h1
    rw[if_neg hm]
    exact ⟨l',H',loc',ver',h1,h2,h3,h4,h5,h6⟩
  | _=>exact ⟨l',H',loc',ver',h1,h2,h3,h4,h5,h6⟩
 | loop c ih=>
  intro key F n hF H loc ver w l a K hI hT hRo h
  simp only[eB,gN,jT,gO,fN,gP,cX] at h
  rcases uW h with ⟨an,hA,h⟩ | h
  case inr=>
   have hD:∀m,mem m (aS A key c)=true→mem m (aS A key (.loop c))=true:=by
    intro m hm;simp only[aS];exact nO _ _ m hm
   refine yH (fun k a' w'=>∃l' H' loc' ver',tR (exec P Γ N A key c) k l' H' K∧Inv G H' loc' ver' w'∧TRel (envOf G H' loc' ver' w') N l' a'∧ExtO (aS A key (.loop c)) (envOf G H loc ver w) (envOf G H' loc' ver' w')∧Same (bO (.loop c)) a a'∧
     Marked (envOf G H loc ver w) (envOf G H' loc' ver' w') a.defers a'.defers)
    ⟨_,l,H,loc,ver,h,hI,hT,.refl _ _,.refl _ _,.refl _ _ _⟩ ?_
   rintro k a1 w1 ⟨l1,H1,loc1,ver1,hu,hI1,hT1,hx1,hs1,hd1⟩
   cases k with
   | zero=>exact hu.elim
   | succ k=>
    simp only[Gy] at hu
    refine wpIn_mono (ih key hF hI1 hT1 (hRo.ext hx1) hu) ?_
    rintro e a' w' ⟨l',H',loc',ver',h1,h2,h3,h4,h5,h6⟩
    cases e with
    | normal=>
     have h1:eA l' (fun l'=>gA H' fun H'=>tR (exec P Γ N A key c) k l' H' K):=h1
     rw[eT,fR] at h1
     exact ⟨k,Nat.lt_succ_self k,l',H',loc',ver',h1,h2,h3,hx1.trans (h4.mono hD),hs1.trans h5,hd1.trans hx1.size h4 h6⟩
    | _=>exact ⟨l',H',loc',ver',h1,h2,h3,hx1.trans (h4.mono hD),hs1.trans h5,hd1.trans hx1.size h4 h6⟩
  case inl=>
   obtain ⟨hok,hvc⟩:=h
   obtain ⟨x0,hx0⟩:=hvc.init
   have hD:∀m,mem m (aS A key c)=true→mem m (aS A key (.loop c))=true:=by
    intro m hm;simp only[aS];exact nO _ _ m hm
   have hO:∀m,mem m an.objs=true→mem m (aS A key (.loop c))=true:=by
    intro m hm;simp only[aS,hA];exact vL _ _ m hm
   have arr:∀ {x:an.X} {l':List (Nat × SV)} {H':List HO} {loc':Nat→Loc} {ver':Nat→Nat} {a':Act} {w':World},Inv G H' loc' ver' w'→TRel (envOf G H' loc' ver' w') N l' a'→ExtO (aS A key c++an.objs) (envOf G H loc ver w) (envOf G H' loc' ver' w')→Same (bO c) a a'→
     Marked (envOf G H loc ver w) (envOf G H' loc' ver' w') a.defers a'.defers→
     kT an x H l' H'→Inv G (an.heap x H) loc' (cH an.objs (an.heap x H) ver') w'∧TRel (envOf G (an.heap x H) loc' (cH an.objs (an.heap x H) ver') w') N (annL an x (bO c) l H) a'∧
      ExtO an.objs (envOf G H loc ver w) (envOf G (an.heap x H) loc' (cH an.objs (an.heap x H) ver') w')∧Marked (envOf G H loc ver w) (envOf G (an.heap x H) loc' (cH an.objs (an.heap x H) ver') w') a.defers a'.defers:=by
    intro x l' H' loc' ver' a' w' h1 h2 h3 h4 hmk h5
    have hz1:=and2 (hok x)
    have hz2:=and2 hz1.1
    have hz3:=and2 hz2.1
    obtain ⟨r1,r2,r3⟩:=sG hI hT h1 h2 h3 h4 (aJ.1 hz3.2) hz1.2 (qL hz2.2) h5
    refine ⟨r1,r2,r3,?_⟩
    obtain ⟨Ds,m1,m2,m3⟩:=hmk
    refine ⟨Ds,m1,m2,fun D hD=>?_⟩
    obtain ⟨q1,q2,q3⟩:=m3 D hD
    refine ⟨q1,?_,q3⟩
    rintro ⟨nm,st,k,it,e1,e2⟩
    obtain ⟨o',e3,e4⟩:=(fT h5.ent.2).2 nm _ e1
    cases o' with
    | yst=>exact q2 ⟨nm,_,_,_,e3,e2⟩
    | _=>exact e4.elim
   obtain ⟨hI0,hT0,hx00,hm00⟩:=arr hI hT (.refl _ _) (.refl _ _) (.refl _ _ _) hx0
   have arrS:∀ {x:an.X} {l':List (Nat × SV)} {H':List HO} {loc':Nat→Loc} {ver':Nat→Nat} {a':Act} {w':World},Inv G H' loc' ver' w'→TRel (envOf G H' loc' ver' w') N l' a'→ExtO (aS A key c++an.objs) (envOf G H loc ver w) (envOf G H' loc' ver' w')→Same (bO c) a a'→
     Marked (envOf G H loc ver w) (envOf G H' loc' ver' w') a.defers a'.defers→
     rS an x H l' H'→∃loc2 ver2,Inv G (an.heap x H) loc2 ver2 w'∧TRel (envOf G (an.heap x H) loc2 ver2 w') N (annL an x (bO c) l H) a'∧
      ExtO an.objs (envOf G H loc ver w) (envOf G (an.heap x H) loc2 ver2 w')∧Marked (envOf G H loc ver w) (envOf G (an.heap x H) loc2 ver2 w') a.defers a'.defers:=by
    intro x l' H' loc' ver' a' w' h1 h2 h3 h4 hmk h5
    unfold rS at h5
    split at h5
    ·exact ⟨_,_,arr h1 h2 h3 h4 hmk h5⟩
    ·rename_i t0 a0 hsw
     split at h5
     ·rename_i b0 hl0
      obtain ⟨hc,h5⟩:=aE h5
      obtain ⟨c1,hc⟩:=and2 hc
      obtain ⟨c2,hc⟩:=and2 hc
      obtain ⟨c3,hc⟩:=and2 hc
      obtain ⟨c4,c5⟩:=and2 hc
      rw[eT,fR] at h5
      have c2:H.length≤b0:=by simpa using c2
      have c3:a0<H.length:=by simpa using c3
      have hab:a0≠b0:=by omega
      obtain ⟨i1,i2,i3⟩:=Uk h1 hab c4 c5
      have hD:mem a0 (aS A key c++an.objs)=true:=vL _ _ _ c1
      have hx':=aCy h1 hab c4 c5 hD (fun nm hn e=>by have:=cB (show hasB H nm=true from hn);omega) h3
      refine ⟨_,_,arr i1 ⟨h2.size,fun t=>by rw[vK];exact i3 (h2.rel t)⟩ hx' h4 ?_ h5⟩
      obtain ⟨Ds,m1,m2,m3⟩:=hmk
      refine ⟨Ds,m1,m2,fun D hD=>?_⟩
      obtain ⟨q1,q2,q3⟩:=m3 D hD
      obtain ⟨la,ea,hga,_⟩:=oD c4
      exact ⟨q1,fun hq=>q2 (Ul hab (List.getElem?_eq_some_iff.1 hga).1 c5 hq),q3⟩
     ·exact h5.elim
   refine yH (fun k a' w'=>∃x loc' ver',an.mu x=k∧an.pre x∧Inv G (an.heap x H) loc' ver' w'∧TRel (envOf G (an.heap x H) loc' ver' w') N (annL an x (bO c) l H) a'∧
     ExtO an.objs (envOf G H loc ver w) (envOf G (an.heap x H) loc' ver' w')∧Same (bO c) a a'∧Marked (envOf G H loc ver w) (envOf G (an.heap x H) loc' ver' w') a.defers a'.defers)
    ⟨_,x0,_,_,rfl,hx0.pre,hI0,hT0,hx00,.refl _ _,hm00⟩ ?_
   rintro k a1 w1 ⟨x,loc1,ver1,rfl,hp,hI1,hT1,hx1,hs1,hd1⟩
   have hr:=hvc.round x hp
   rw[eT,fR] at hr
   refine wpIn_mono (ih key hF hI1 hT1 (hRo.ext hx1) hr) ?_
   rintro e a' w' ⟨l',H',loc',ver',h1,h2,h3,h4,h5,h6⟩
   cases e with
   | normal=>
    obtain ⟨x',hlt,hx'⟩:=h1
    obtain ⟨loc2,ver2,hI2,hT2,hx2,hm2⟩:=arrS h2 h3 ((hx1.mono (vL _ _)).trans (h4.mono (nO _ _))) (hs1.trans h5) (hd1.trans hx1.size h4 h6) hx'
    have hpre:an.pre x':=by
     unfold rS at hx'
     split at hx'
     ·exact hx'.pre
     ·split at hx'
      ·obtain ⟨_,hx'⟩:=aE hx'
       rw[eT,fR] at hx'
       exact hx'.pre
      ·exact hx'.elim
    exact ⟨an.mu x',hlt,x',loc2,ver2,rfl,hpre,hI2,hT2,hx2,hs1.trans h5,hm2⟩
   | _=>exact ⟨l',H',loc',ver',h1,h2,h3,(hx1.mono hO).trans (h4.mono hD),hs1.trans h5,hd1.trans hx1.size h4 h6⟩
 | rangeFunc f ps x y ihx ihy=>exact fun key=>Iq hY hΓ ihx ihy key
 | scope c ih=>intro key F n hF H loc ver w l a K hI hT hRo h;exact h.elim
 | goto m=>intro key F n hF H loc ver w l a K hI hT hRo h;exact h.elim
 | refuse s=>intro key F n hF H loc ver w l a K hI hT hRo h;exact h.elim
end
end Go.Eng
end
section
namespace Go.Eng
open Go.RowKit
section
variable {P:Program} {G:Ctx} {H:List HO} {loc:Nat→Loc} {ver:Nat→Nat} {w:World} {N:Nat}
theorem yJ:∀(args:List SV) (n t:Nat),look (qF args n) t=if n≤t then args.getD (t-n) .any else .any
 | [],n,t=>by simp[qF,look]
 | x::r,n,t=>by
  simp only[qF,look]
  by_cases e:n=t
  ·subst e;simp[bW]
  ·rw[dR e]
   simp only[cond_false]
   rw[yJ r (n+1) t]
   by_cases h:n≤t
   ·rw[if_pos h,if_pos (by omega)]
    obtain ⟨k,rfl⟩:∃k,t=n+1+k:=⟨t-(n+1),by omega⟩
    rw[show n+1+k-(n+1)=k by omega,show n+1+k-n=k+1 by omega]
    rfl
   ·rw[if_neg h,if_neg (by omega)]
theorem lL {E:Env} {args:List SV} {vs:List Value} (h:RelL E args vs) (hn:args.length≤N):TRel E N (qF args 0) { tmps:=⟨vs⟩++Array.replicate (N-(⟨vs⟩:Array Value).size) undef,defers:=[] }:=by
 have hl:=h.length
 refine ⟨by simp;omega,fun t=>?_⟩
 rw[yJ,if_pos (Nat.zero_le _),Nat.sub_zero]
 by_cases ht:t<args.length
 ·have:=h.get t ht
  have e:(⟨vs⟩++Array.replicate (N-(⟨vs⟩:Array Value).size) undef:Array Value).getD t undef=vs.getD t undef:=by
   rw[Array.getD_eq_getD_getElem?,Array.getElem?_append_left (by simp;omega),List.getD_eq_getElem?_getD]
   simp
  rw[e];exact this
 ·have:args.getD t .any= .any:=by simp[List.getD_eq_getElem?_getD,List.getElem?_eq_none (Nat.le_of_not_lt ht)]
  rw[this];exact .any _
def ctx0 (w:World) (ok:Nat→Prop) (hok:∀b,ok b→b<w.heap.size):Ctx:=⟨w,ok,fun _=>False,fun _ _ h=>h,hok,itr0,Nat.zero_le _⟩
theorem Cc (ok:Nat→Prop) (hok:∀b,ok b→b<w.heap.size):Inv (ctx0 w ok hok) [] (fun _=>mkL none 0 0) (fun _=>0) w:=by
 refine ⟨Nat.le_refl _,rfl,rfl,rfl,fun _ _ _=>rfl,fun nm o h=>by simp at h,fun b hb=>?_,fun nm nm' o o' b h=>by simp at h⟩
 obtain ⟨nm,o,h,_⟩:=hb
 simp at h
theorem Inv.book (hI:Inv G H loc ver w) {D:Nat} {o:Obj} {ds:Option (List Deferred)} (hD:w.heap[D]? =some (.deferred ds)) (h0:G.w0.heap.size≤D) (hn0:G.itr.n0≤D) (hal:¬aliN H loc D):Inv G H loc ver (w.putObj D o)∧∀s v,Rel (envOf G H loc ver w) s v→Rel (envOf G H loc ver (w.putObj D o)) s v:=by
 have hoth:∀b,b≠D→(w.putObj D o).heap[b]? =w.heap[b]? :=fun b hb=>World.putObj_heap_other hb
 have hcell:∀(a:Addr) (v:Value),w.cell? a=some v→(w.putObj D o).cell? a=some v:=by
  intro a v hv
  by_cases e:a.block=D
  ·rw[World.cell?,e,hD] at hv;cases hv
  ·exact (World.cell?_of_block (hoth _ e)).trans hv
 have hok:∀b,okN G H loc w b→okN G H loc (w.putObj D o) b:=fun b hb=>⟨hb.1,by simpa using hb.2.1,hb.2.2⟩
 have hcm:∀ {b:Nat} {x:Obj},w.heap[b]? =some x→isCM x=true→(w.putObj D o).heap[b]? =some x:=fun {b x} h hm=>
  (hoth b (fun e'=>by subst e';rw[hD] at h;cases h;cases hm)).trans h
 have hcs:∀ {b:Nat} {c:Array Value} {e:TypeId} {f:Nat × Nat},w.heap[b]? =some (.cells c e f)→(w.putObj D o).heap[b]? =some (.cells c e f):=fun {b c e f} h=>hcm h rfl
 have hmv:∀ {l:List SV} {vs:List Value},RelL (envOf G H loc ver w) l vs→RelL (envOf G H loc ver (w.putObj D o)) l vs:=fun h=>
  RelL.move (E:=envOf G H loc ver w) (E':=envOf G H loc ver (w.putObj D o)) (p:=hasB H) (fun nm _ hn=>⟨hn,.inl ⟨rfl,rfl⟩⟩) (fun _ _ _ _=>.inl rfl) (fun _=>rfl) (fun b _ _ h hm=>hcm h hm) hok h h.under
 refine ⟨?_,fun s v h=>Rel.move (E:=envOf G H loc ver w) (E':=envOf G H loc ver (w.putObj D o)) (p:=hasB H) (fun nm _ hn=>⟨hn,.inl ⟨rfl,rfl⟩⟩) (fun _ _ _ _=>.inl rfl) (fun _=>rfl) (fun b _ _ h hm=>hcm h hm) hok h h.under⟩
 refine ⟨by simpa using hI.size,hI.os,hI.tape,hI.output,fun b hb hm=>(hoth b (by omega)).trans (hI.frame b hb hm),fun nm x hx=>?_,hI.own,hI.sep⟩
 have hO:=hI.objs nm x hx
 cases x with
 | dead=>trivial
 | res=>trivial
 | fro k t xs=>obtain ⟨h1,h2,h3⟩:=hO;exact ⟨h1,h2,h3.mono (fun a v _ hv=>hcell a v hv) hok⟩
 | frc l=>obtain ⟨h1,b,vs,e,h2,h3,h4,h5⟩:=hO;exact ⟨h1,b,vs,e,h2,hok b h3,hcs h4,hmv h5⟩
 | cells l e=>obtain ⟨h1,b,vs,h2,h3,h4⟩:=hO;exact ⟨h1,b,vs,h2,hcs h3,hmv h4⟩
 | qm ks l=>obtain ⟨h1,h2,hbr,b,es,c,h3,h4,h5,h6⟩:=hO;exact ⟨h1,h2,hbr,b,es,c,h3,hcm h4 rfl,h5,hmv h6⟩
 | frm ks l=>obtain ⟨h1,hbr,b,es,c,h3,h4,h5,h6,h7⟩:=hO;exact ⟨h1,hbr,b,es,c,h3,hok b h4,hcm h5 rfl,h6,hmv h7⟩
 | vec k t xs e=>
  obtain ⟨h1,h2,h3,h4,vs,h5,h6⟩:=hO
  refine ⟨h1,h2,h3,h4,vs,⟨h5.1,?_⟩,fun i hi=>(h6 i hi).mono (fun a v _ hv=>hcell a v hv) hok⟩
  rcases h5.2 with h7 | ⟨g,cap,cur,h7,h8,h9,h10⟩
  ·exact .inl h7
  ·exact .inr ⟨g,cap,cur,h7,h8,hcs h9,h10⟩
 | gone=>exact ⟨hO.1,fun b hb=>by simpa [envOf] using hO.2 b hb⟩
 | lnt k t xs=>
  obtain ⟨h1,h2,h3,h4,h5⟩:=hO
  refine ⟨h1,h2,h3,fun b x hb=>⟨(h4 b x hb).1,(hoth b fun e'=>?_).trans (h4 b x hb).2⟩,h5.mono (fun a v _ hv=>hcell a v hv) fun _ h=>h⟩
  obtain ⟨k1,k2⟩:=h4 b x hb
  subst e'
  have k2:w.heap[b]? =some x:=k2
  rw[hD] at k2;cases k2
  cases k1
 | map k t m=>
  obtain ⟨h1,h2,h3,b,es,h4,h5,h6⟩:=hO
  exact ⟨h1,h2,h3,b,es,h4,(hoth b (fun e'=>by subst e';have h5:w.heap[b]? = _:=h5;rw[hD] at h5;cases h5)).trans h5,h6.mono (fun a v _ hv=>hcell a v hv) hok⟩
 | vv k s t xss pend eo ei=>
  obtain ⟨h1,h2,h3,h4,h5,⟨vs,h6,h7⟩,h8,h9⟩:=hO
  have hnD:∀b,(b=D)→∀ {c:Array Value} {e:TypeId},w.heap[b]? ≠some (.cells c e (0,0)):=fun b e' c e h=>by subst e';rw[hD] at h;cases h
  have hkeep:∀ {base:Nat} {e:TypeId} {size n:Nat} {v:Value} {vs:List Value},w.ownsR base e size v n vs→(w.putObj D o).ownsR base e size v n vs:=fun {base e size n v vs} h=>by
   refine ⟨h.1,?_⟩
   rcases h.2 with h5 | ⟨g,cap,cur,h5,h6,h7,h8⟩
   ·exact .inl h5
   ·exact .inr ⟨g,cap,cur,h5,h6,hcs h7,h8⟩
  have hrow:∀ {al:Nat→Prop} {h:Value} {xs:List t.T},RowAt (envOf G H loc ver w) al t ei h xs→RowAt (envOf G H loc ver (w.putObj D o)) al t ei h xs:=fun ⟨vs,q1,q2,q3⟩=>⟨vs,hkeep q1,q2,fun i hi=>(q3 i hi).mono (fun a v _ hv=>hcell a v hv) hok⟩
  refine ⟨h1,h2,h3,h4,h5,⟨vs,hkeep h6,h7⟩,fun b hb=>?_,⟨h9.flat,fun i hi hp=>hrow (h9.row i hi hp),h9.apart,fun j ys hp=>by obtain ⟨q1,q2,q3⟩:=h9.grown j ys hp;exact ⟨q1,hrow q2,q3⟩,h9.short⟩⟩
  obtain ⟨q1,q2,c,e,q3⟩:=h8 b hb
  exact ⟨by simpa [envOf] using q1,q2,c,e,hcs q3⟩
 | mit m s l c=>
  obtain ⟨h1,h2,r,bm,h3,h4,h5⟩:=hO
  exact ⟨h1,h2,r,bm,h3,(hoth r (fun e'=>by subst e';have h4:w.heap[r]? = _:=h4;rw[hD] at h4;cases h4)).trans h4,h5⟩
 | yst st n it=>
  obtain ⟨h1,h2,h3,h4,h5,h6,h7⟩:=hO
  have hnal:¬(loc nm).al D:=fun h=>hal ⟨nm,_,_,_,hx,h⟩
  have hDs:=(Array.getElem?_eq_some_iff.1 hD).1
  refine ⟨h1,fun b hb=>by simpa [envOf] using h2 b hb,by simpa [envOf] using h3,h4,h5,fun b hb hl=>⟨(h6 b hb hl).1,hok b (h6 b hb hl).2⟩,?_⟩
  have:=G.itr.abides st _ w (w.putObj D o) h7 rfl rfl rfl (by simp) fun b hb hm=>hoth b fun e=>hm (by subst e;exact ⟨hn0,hDs,hnal⟩)
  refine cast (congrArg (fun M=>G.itr.J st M (w.putObj D o)) (funext fun b=>propext ⟨?_,?_⟩)) this
  ·rintro (⟨h8,h9,h10⟩ | ⟨h8,h9⟩)
   ·exact ⟨h8,by simpa [envOf] using h9,h10⟩
   ·exfalso;simp at h9;omega
  ·rintro ⟨h8,h9,h10⟩
   exact .inl ⟨h8,by simpa [envOf] using h9,h10⟩
def tW (a:Act):ResultVar→Sem Value
 | .tmp t=>pure (a.tmps.getD t undef)
 | .cell c t=>do loadVar t (← asAddr (a.tmps.getD c undef))
theorem oF (hI:Inv G H loc ver w) {l:List (Nat × SV)} {a:Act} (hT:TRel (envOf G H loc ver w) N l a):∀ {rs:List ResultVar} {vs:List SV},nV P l H rs=some vs→
  ∃us:List Value,(rs.mapM (tW a)).run P w= .ok us w∧RelL (envOf G H loc ver w) vs us
 | [],vs,h=>by simp[nV] at h;subst h;exact ⟨[],by simp[List.mapM_nil],.nil⟩
 | .tmp t::r,vs,h=>by
  simp only[nV] at h
  split at h
  ·rename_i vs' h'
   cases h
   obtain ⟨us,h1,h2⟩:=oF hI hT h'
   refine ⟨a.tmps.getD t undef::us,?_,.cons _ _ _ _ (hT.rel t) h2⟩
   rw[List.mapM_cons]
   simp only[tW,Sem.run_bind,Sem.run_pure,Result.andThen_ok,h1]
  ·cases h
 | .cell c t::r,vs,h=>by
  simp only[nV] at h
  split at h
  ·rename_i nm off ag sz vs' hl ha hz h'
   obtain ⟨us,h1,h2⟩:=oF hI hT h'
   have hr:=hT.rel c
   rw[hl] at hr
   cases ho:hget H nm with
   | cells cs e=>
    rw[ho] at h
    simp only at h
    obtain ⟨b,hb,hv⟩:=lH hI hr (by simp[live,ho])
    obtain ⟨h0,b',ws,h3,h4,h5⟩:=hI.objs nm _ (aC ho (by simp))
    rw[hb] at h3;cases h3
    have h4':w.heap[b]? =some (.cells ⟨ws⟩ e (0,0)):=h4
    have key:∀s,fD ag off sz cs (fun x=>x=s)→∃u,(loadVar t ⟨b,off,none⟩).run P w= .ok u w∧Rel (envOf G H loc ver w) s u:=by
     intro s hs
     obtain ⟨u,s',h6,h7,h8⟩:=eU (P:=P) (E:=envOf G H loc ver w) (base:=0) (b:=b) hs ha hz h5 (fun j v hj=>by simp[envOf,World.cell?,h4',hj])
     subst h7
     refine ⟨u,?_,h8⟩
     have h6':(Instr.loadAt t (.pointer (some ⟨b,0+off,none⟩))).run P w= .ok u w:=h6
     simpa [Instr.loadAt,Instr.sureAddr] using h6'
    have fin:∀s,fD ag off sz cs (fun x=>x=s)→vs=s::vs'→∃us:List Value,((ResultVar.cell c t::r).mapM (tW a)).run P w= .ok us w∧RelL (envOf G H loc ver w) vs us:=by
     intro s hs e
     subst e
     obtain ⟨u,h6,h7⟩:=key s hs
     refine ⟨u::us,?_,.cons _ _ _ _ h7 h2⟩
     rw[List.mapM_cons]
     simp only[tW,Sem.run_bind,hv,asAddr,Sem.run_pure,Result.andThen_ok,h6,h1]
    cases ag with
    | true=>
     simp only at h
     cases hb2:Nat.ble (off+sz) cs.length with
     | true=>
      rw[hb2] at h
      simp only[cond_true] at h
      cases h
      exact fin _ (by simp[fD,hb2,aL]) rfl
     | false=>rw[hb2] at h;cases h
    | false=>
     simp only at h
     cases hb2:Nat.blt off cs.length with
     | true=>
      rw[hb2] at h
      simp only[cond_true] at h
      cases h
      exact fin _ (by simp[fD,hb2,dB]) rfl
     | false=>rw[hb2] at h;cases h
   | _=>rw[ho] at h;cases h
  ·cases h
theorem Rn {E:Env} {vs:List SV} {us:List Value} (h:RelL E vs us):Rel E (qE vs) (if h:(us.toArray).size=1 then us.toArray[0] else .tuple us.toArray):=by
 cases h with
 | nil=>exact .tup _ _ .nil
 | cons s v l us h hl=>
  cases hl with
  | nil=>exact h
  | cons s' v' l' us' h' hl'=>
   have:¬((v::v'::us').toArray.size=1):=by simp
   rw[dif_neg this]
   exact .tup _ _ (.cons _ _ _ _ h (.cons _ _ _ _ h' hl'))
theorem dX (hI:Inv G H loc ver w) {l:List (Nat × SV)} {a:Act} (hT:TRel (envOf G H loc ver w) N l a) {fn:Func} {vs:List SV} (h:nV P l H fn.results.toList=some vs):
  ∃v,(results fn a.tmps).run P w= .ok v w∧Rel (envOf G H loc ver w) (qE vs) v:=by
 obtain ⟨us,h1,h2⟩:=oF (P:=P) hI hT h
 refine ⟨_,?_,Rn h2⟩
 have hm:(fn.results.mapM (tW a)).run P w= .ok us.toArray w:=by
  rw[Array.mapM_eq_mapM_toList]
  simp only[Sem.run_map,h1,Result.andThen_ok]
 have e:results fn a.tmps=(do
   let vs ← fn.results.mapM (tW a)
   pure (if h:vs.size=1 then vs[0] else .tuple vs)):=by
  unfold results
  congr 1
 rw[e,Sem.run_bind,hm]
 rfl
theorem Reads.flat {w:World} {ok ok':Nat→Prop} {t:Ty} (ht:t.flat=true) {x:t.T} {cs:List Value} (h:Reads w ok t x cs):Reads w ok' t x cs:=by
 induction t generalizing cs with
 | int k=>exact h
 | bool=>exact h
 | str=>exact h
 | slice t _=>cases ht
 | pair a b iha ihb=>
  simp only[Ty.flat,Bool.and_eq_true] at ht
  obtain ⟨c1,c2,e,h1,h2⟩:=h
  exact ⟨c1,c2,e,iha ht.1 h1,ihb ht.2 h2⟩
theorem tX (hG:∀b,¬G.mine b) (hI:Inv G H loc ver w) {s:SV} {v:Value} (h:Rel (envOf G H loc ver w) s v):Rel (env0 w fun b=>G.w0.heap.size≤b∧b<w.heap.size) (rU H s) v:=by
 cases h with
 | ref nm k v hn h0 hk hv=>
  simp only[rU]
  cases ho:hget H nm with
  | vec j t xs e=>
   simp only
   cases hb:(Nat.beq j k&&t.flat) with
   | false=>exact .any v
   | true=>
    obtain ⟨h1,h2⟩:=and2 hb
    obtain rfl:=aJ.1 h1
    have hn':=aC ho (by simp)
    have hO:=hI.objs nm _ hn'
    have:=hv hO.1.symm
    subst this
    obtain ⟨_,_,hlen,hmax,vs,hown,hel⟩:=hO
    refine .seq t xs _ ?_
    rcases aO hown with ⟨e1,e2,e3,e4⟩ | ⟨g,cur,e1,e2,e3,e4,e5,e6,e7⟩
    ·exact ⟨none,0,0,by simp[Core.head,envOf,e1,e2,e3],by omega,Nat.le_refl _,Nat.zero_le _,fun h=>absurd h (Nat.lt_irrefl _)⟩
    ·have hgg:Owned H loc g:=⟨nm,_,hn',by simp[Owns,e1]⟩
     have hg1:G.w0.heap.size≤g:=by
      rcases hI.own g hgg with h | h
      ·exact (hG g h).elim
      ·exact h
     have hg2:g<w.heap.size:=(Array.getElem?_eq_some_iff.1 e3).1
     refine ⟨some ⟨g,0,none⟩,(loc nm).len,(loc nm).cap,by simp[Core.head,envOf,e1],hlen,e4,hmax,fun h0=>⟨g,0,rfl,⟨hg1,hg2⟩,fun i hi=>⟨_,(hel i hi).length,?_,(hel i hi).flat h2⟩⟩⟩
     intro j v hj
     rw[List.getElem?_take] at hj
     split at hj
     ·rw[List.getElem?_drop,← e7,List.getElem?_take] at hj
      split at hj
      ·have e3':w.heap[g]? =some (.cells cur _ (0,0)):=e3
       simp only[env0,World.cell?,e3']
       simpa using hj
      ·cases hj
     ·cases hj
  | vv j s t xss pd eo ei=>
   cases pd with
   | some p=>exact .any v
   | none=>
   cases hb:Nat.beq j k with
   | false=>simp only[hb,cond_false];exact .any v
   | true=>
    simp only[hb,cond_true]
    obtain rfl:=aJ.1 hb
    have hn':=aC ho (by simp)
    have hO:=hI.objs nm _ hn'
    have:=hv hO.1.symm
    subst this
    obtain ⟨_,_,_,hlen,hmax,⟨vs,hown,hel⟩,hal,hrows⟩:=hO
    have hge:∀b,Owns (loc nm) (.vv j s t xss none eo ei) b→G.w0.heap.size≤b:=fun b hb=>by
     rcases hI.own b ⟨nm,_,hn',hb⟩ with h | h
     ·exact (hG b h).elim
     ·exact h
    refine .seq (.slice t) xss _ ?_
    rcases aO hown with ⟨e1,e2,e3,e4⟩ | ⟨g,cur,e1,e2,e3,e4,e5,e6,e7⟩
    ·exact ⟨none,0,0,by simp[Core.head,envOf,e1,e2,e3],by omega,Nat.le_refl _,Nat.zero_le _,fun h=>absurd h (Nat.lt_irrefl _)⟩
    ·have hg1:G.w0.heap.size≤g:=hge g (.inl (by simp[e1]))
     have hg2:g<w.heap.size:=(Array.getElem?_eq_some_iff.1 e3).1
     refine ⟨some ⟨g,0,none⟩,(loc nm).len,(loc nm).cap,by simp[Core.head,envOf,e1],hlen,e4,hmax,fun h0=>⟨g,0,rfl,⟨hg1,hg2⟩,fun i hi=>⟨[(loc nm).sub.rows i],rfl,?_,?_⟩⟩⟩
     ·intro q v hq
      have hq0:q=0:=by
       have:=(List.getElem?_eq_some_iff.1 hq).1
       simpa using this
      subst hq0
      have h1:=hel i hi
      rw[← e7,List.getElem?_take] at h1
      split at h1
      ·have e3':w.heap[g]? =some (.cells cur _ (0,0)):=e3
       simp only[env0,World.cell?,e3']
       simp only[List.getElem?_cons_zero,Option.some.injEq] at hq
       subst hq
       simpa [Ty.size] using h1
      ·cases h1
     ·have hi':i<xss.length:=by rw[← hlen];exact hi
      obtain ⟨rs,r1,r2,r3⟩:=hrows.row i hi' (fun _ _ hp=>by cases hp)
      have hsh:=hrows.short i hi'
      show Reads w _ (.slice t) (xss.getD i []) _
      rcases r1.2 with ⟨f1,f2⟩ | ⟨g',cap,cur',f1,_,f3,f4,f5,f6,f7⟩
      ·have hl0:(xss.getD i []).length=0:=f2
       exact ⟨none,0,0,by rw[f1],hl0.symm,Nat.le_refl _,Nat.zero_le _,fun h=>absurd h (Nat.lt_irrefl _)⟩
      ·have hgo:(loc nm).al g':=r2 g' (by rw[f1];rfl)
       have hg1':G.w0.heap.size≤g':=hge g' (.inr hgo)
       have f3:w.heap[g']? =some (.cells cur' ei (0,0)):=f3
       have hg2':g'<w.heap.size:=(Array.getElem?_eq_some_iff.1 f3).1
       refine ⟨some ⟨g',0,none⟩,(xss.getD i []).length,cap,by rw[f1],rfl,f4,hsh,fun h0=>⟨g',0,rfl,⟨hg1',hg2'⟩,fun m hm=>⟨_,(r3 m hm).length,?_,(r3 m hm).flat hrows.flat⟩⟩⟩
       intro q v hq
       rw[List.getElem?_take] at hq
       split at hq
       ·rw[List.getElem?_drop,← f7,List.getElem?_take] at hq
        split at hq
        ·simp only[env0,World.cell?,f3]
         simpa using hq
        ·cases hq
       ·cases hq
  | _=>exact .any v
 | val _ h=>exact .val v h
 | bl p d=>exact .bl p d
 | str s h=>exact .str s h
 | ifc _ h=>exact .ifc v h
 | num k n h=>exact .num k n h
 | _=>exact .any _
theorem qX (hG:∀b,¬G.mine b) (hI:Inv G H loc ver w):∀ {l:List SV} {vs:List Value},RelL (envOf G H loc ver w) l vs→RelL (env0 w fun b=>G.w0.heap.size≤b∧b<w.heap.size) (l.map (rU H)) vs
 | _,_,.nil=>.nil
 | _,_,.cons _ _ _ _ h hl=>.cons _ _ _ _ (tX hG hI h) (qX hG hI hl)
theorem yK (hG:∀b,¬G.mine b) (hI:Inv G H loc ver w):∀ {l:List SV} {vs:List Value},RelL (envOf G H loc ver w) l vs→RelL (env0 w fun b=>G.w0.heap.size≤b∧b<w.heap.size) (l.map fun s=>match s with
   | .agg l=>.agg (l.map (rU H))
   | s=>rU H s) vs
 | _,_,.nil=>.nil
 | _,_,.cons s _ _ _ h hl=>by
  refine .cons _ _ _ _ ?_ (yK hG hI hl)
  cases s with
  | agg l=>cases h with
   | agg _ vs hl=>exact .agg _ _ (qX hG hI hl)
  | _=>exact tX hG hI h
theorem Lz (hG:∀b,¬G.mine b) (hI:Inv G H loc ver w) {s:SV} {v:Value} (h:Rel (envOf G H loc ver w) s v):Rel (env0 w fun b=>G.w0.heap.size≤b∧b<w.heap.size) (Ua H s) v:=by
 cases s with
 | agg l=>cases h with
  | agg _ vs hl=>exact .agg _ _ (qX hG hI hl)
 | tup l=>cases h with
  | tup _ vs hl=>exact .tup _ _ (yK hG hI hl)
 | _=>exact tX hG hI h
end
section
variable {P:Program}
theorem iU {G:Ctx} {fn:Func} {tmps:Array Value} {R:Ending→World→Prop} {H:List HO} {loc:Nat→Loc} {ver:Nat→Nat}:∀(Ds:List Nat) {w:World},Inv G H loc ver w→Ds.Nodup→
  (∀D∈Ds,G.w0.heap.size≤D∧G.itr.n0≤D∧¬aliN H loc D∧w.heap[D]? =some (.deferred (some [])))→
  (∀w',Inv G H loc ver w'→(∀s v,Rel (envOf G H loc ver w) s v→Rel (envOf G H loc ver w') s v)→∃v,(results fn tmps).run P w'= .ok v w'∧R (.returned v) w')→LeavesInM Fence.wide 0 P fn tmps R (Ds.map qW) .returning w
 | [],w,hI,_,_,hR=>by
  obtain ⟨v,h1,h2⟩:=hR w hI fun _ _ h=>h
  exact ⟨v,h1,h2⟩
 | D::Ds,w,hI,hnd,hD,hR=>by
  obtain ⟨h1,h2,h3,h4⟩:=hD D (List.mem_cons_self ..)
  refine ⟨by simp,.inl ⟨D,_,rfl,run_takeDeferred h4,?_⟩⟩
  have hnd':=List.nodup_cons.1 hnd
  have hbk:=hI.book (o:=.deferred none) h4 h1 h2 h3
  refine iU Ds hbk.1 hnd'.2 (fun D' hD'=>?_) fun w' h5 h6=>hR w' h5 fun s v h=>h6 s v (hbk.2 s v h)
  obtain ⟨k1,k2,k3,k4⟩:=hD D' (List.mem_cons_of_mem _ hD')
  exact ⟨k1,k2,k3,(World.putObj_heap_other (fun e=>hnd'.1 (by rw[← e];exact hD'))).trans k4⟩
theorem sJ {G:Ctx} {fn:Func} {tmps:Array Value} {R:Ending→World→Prop} {H:List HO} {loc:Nat→Loc} {ver:Nat→Nat}:∀(Ds:List Nat) {w:World},Inv G H loc ver w→Ds.Nodup→
  (∀D∈Ds,G.w0.heap.size≤D∧G.itr.n0≤D∧¬aliN H loc D∧w.heap[D]? =some (.deferred (some [])))→
  (∀w',Inv G H loc ver w'→(∀s v,Rel (envOf G H loc ver w) s v→Rel (envOf G H loc ver w') s v)→w'.heap.size=w.heap.size→(∀b,¬b∈Ds→w'.heap[b]? =w.heap[b]?)→∃v,(results fn tmps).run P w'= .ok v w'∧R (.returned v) w')→LeavesInM Fence.wide 0 P fn tmps R (Ds.map qW) .returning w
 | [],w,hI,_,_,hR=>by
  obtain ⟨v,h1,h2⟩:=hR w hI (fun _ _ h=>h) rfl fun _ _=>rfl
  exact ⟨v,h1,h2⟩
 | D::Ds,w,hI,hnd,hD,hR=>by
  obtain ⟨h1,h2,h3,h4⟩:=hD D (List.mem_cons_self ..)
  refine ⟨by simp,.inl ⟨D,_,rfl,run_takeDeferred h4,?_⟩⟩
  have hnd':=List.nodup_cons.1 hnd
  have hbk:=hI.book (o:=.deferred none) h4 h1 h2 h3
  refine sJ Ds hbk.1 hnd'.2 (fun D' hD'=>?_) fun w' h5 h6 h7 h8=>hR w' h5 (fun s v h=>h6 s v (hbk.2 s v h)) (by rw[h7];simp) fun b hb=>?_
  ·obtain ⟨k1,k2,k3,k4⟩:=hD D' (List.mem_cons_of_mem _ hD')
   exact ⟨k1,k2,k3,(World.putObj_heap_other (fun e=>hnd'.1 (by rw[← e];exact hD'))).trans k4⟩
  ·exact (h8 b fun h=>hb (List.mem_cons_of_mem _ h)).trans (World.putObj_heap_other fun e=>hb (by subst e;exact List.mem_cons_self ..))
theorem ExtO.late {G:Ctx} {D:List Nat} {H0 H:List HO} {loc0 loc:Nat→Loc} {ver0 ver:Nat→Nat} {w0 w w':World} (hI0:Inv G H0 loc0 ver0 w0) (hx:ExtO D (envOf G H0 loc0 ver0 w0) (envOf G H loc ver w)) (hs:w'.heap.size=w.heap.size)
  (hb:∀b,b<w0.heap.size→w'.heap[b]? =w.heap[b]?):ExtO D (envOf G H0 loc0 ver0 w0) (envOf G H loc ver w'):=by
 refine ⟨fun b ho=>(hb b ho.2.1).trans (hx.blk b ho),fun b ho=>?_,hx.num,hx.ver,by have:=hx.size;show w0.heap.size≤w'.heap.size;rw[hs];exact this,fun k o hna hk ho=>(hb k (Array.getElem?_eq_some_iff.1 hk).1).trans (hx.keep k o hna hk ho),fun nm b hg=>?_,hx.gho',hx.ali,hx.itr,hx.sub⟩
 ·obtain ⟨h1,h2,h3⟩:=hx.ok b ho
  exact ⟨h1,by have h2':b<w.heap.size:=h2;show b<w'.heap.size;omega,h3⟩
 ·obtain ⟨h1,h2⟩:=hx.gho nm b hg
  exact ⟨h1,(hb b ((hI0.objs nm _ hg.1).2 b hg.2)).trans h2⟩
theorem ExtO.ext {D:List Nat} {G:Ctx} {H0 H:List HO} {loc0 loc:Nat→Loc} {ver0 ver:Nat→Nat} {w0 w:World} (hI0:Inv G H0 loc0 ver0 w0) (hI:Inv G H loc ver w) (hx:ExtO D (envOf G H0 loc0 ver0 w0) (envOf G H loc ver w)) (hD:∀nm,hasB H0 nm=true→mem nm D=false):Ext (envOf G H0 loc0 ver0 w0) (envOf G H loc ver w):=
 ⟨⟨hx.blk,hx.ok,hx.num,fun nm hn=>hx.ver nm hn (hD nm hn),hI.os.trans hI0.os.symm,hI.tape.trans hI0.tape.symm,hI.output.trans hI0.output.symm,hx.size,hx.ali,hx.itr,fun nm hn he=>hx.sub nm hn (hD nm hn) he⟩,hx.keep,hx.gho,hx.gho'⟩
theorem aY {Γ:List Con} (hΓ:∀c∈Γ,aD P c) {A:Anns} {f:FuncId} {fn:Func} (hf:P.funcs[f]? =some fn) {args:List SV} {H:List HO} {R:SV→List HO→Prop} (hn:args.length≤fn.ntmps) (h:gC P Γ A fn args H R):HTri P f args H R:=by
 intro G loc ver w vs hY hI hr
 unfold gC at h
 cases hc:fn.body with
 | none=>rw[hc] at h;exact h.elim
 | some c=>
  rw[hc] at h
  obtain ⟨hwi,h⟩:=h
  refine (callsIn_wide (n:=0)).1 (callsIn_of_wp_marks hf hc trivial ?_)
  have hT:=lL (N:=fn.ntmps) hr hn
  refine wpIn_mono (jZ hY hΓ c 0 (F:=Fence.wide) (n:=0) ⟨none,rfl⟩ hI hT (fun l hl=>by cases hl) h) ?_
  rintro e a' w' ⟨l',H',loc',ver',h1,h2,h3,h4,h5,Ds,h6,h7,h8⟩
  have hend:finH.endH P fn.results.toList R H l' H'→LeavesInM Fence.wide 0 P fn a'.tmps (fun e w'=>∃v,e= .returned v∧Res G (envOf G H loc ver w) R v w') a'.defers .returning w':=by
   intro he
   rw[h6,List.append_nil]
   refine sJ Ds h2 h7 (fun D hD=>⟨Nat.le_trans hI.size (h8 D hD).1,Nat.le_trans (Nat.le_trans G.low hI.size) (h8 D hD).1,(h8 D hD).2.1,(h8 D hD).2.2⟩) fun w2 h9 h10 h11 h12=>?_
   unfold finH.endH at he
   split at he
   case h_2=>exact he.elim
   rename_i us hu
   obtain ⟨s,H2,hR,hp,hent,hlen,hgo,hH⟩:=he
   have hT2:TRel (envOf G H' loc' ver' w2) fn.ntmps l' a':=⟨h3.size,fun t=>h10 _ _ (h3.rel t)⟩
   obtain ⟨v,k1,k2⟩:=dX (P:=P) h9 hT2 hu
   have hS:EntS [] H' H2 H.length:=fT hH
   obtain ⟨hI2,hok2⟩:=mK h9 (by omega) hS
   have hxl:=ExtO.late hI h4 h11 fun b hb=>h12 b fun hm=>by have h13:w.heap.size≤b:=(h8 b hm).1;omega
   have hx2:=mL hxl (by omega) (fun nm hnm=>jY hgo hnm) hwi hS hok2
   refine ⟨v,k1,v,rfl,s,H2,loc',_,hR,hI2,?_,ExtO.ext hI hI2 hx2 fun _ _=>rfl⟩
   exact Rel.plain (dW hent k2) hp
  cases e with
  | normal=>exact hend h1
  | ret=>exact hend h1
  | _=>exact h1.elim
theorem yL {ok:Nat→Prop} {w0:World} {hok:∀b,ok b→b<w0.heap.size} {H:List HO} {loc:Nat→Loc} {ver:Nat→Nat} {w:World} {N:Nat} {l:List (Nat × SV)} {a:Act} {fn:Func} {fresh:Bool} {r:SV}
  (hI:Inv (ctx0 w0 ok hok) H loc ver w) (hT:TRel (envOf (ctx0 w0 ok hok) H loc ver w) N l a) (hb:bare r=true) (h:finV P fresh fn.results.toList r l H):
  ∃v,(results fn a.tmps).run P w= .ok v w∧Below w0.heap.size w0 w∧Rel (env0 w fun b=>(fresh=false∧ok b)∨(w0.heap.size≤b∧b<w.heap.size)) r v:=by
 have hbel:Below w0.heap.size w0 w:=⟨hI.os,hI.tape,hI.output,hI.size,fun b hb=>hI.frame b hb fun h=>h⟩
 unfold finV at h
 split at h
 case h_2=>exact h.elim
 rename_i vs hv
 obtain ⟨v,hr,hrel⟩:=dX (P:=P) hI hT hv
 refine ⟨v,hr,hbel,?_⟩
 cases fresh with
 | true=>
  simp only[cond_true] at h
  have h1:=dW h (Lz (fun _ h=>h) hI hrel)
  exact Rel.bare (E:=env0 w fun b=>w0.heap.size≤b∧b<w.heap.size) (E':=env0 w fun b=>(true=false∧ok b)∨(w0.heap.size≤b∧b<w.heap.size)) (fun _ _ _ h _=>h) (fun b hb=>Or.inr hb) h1 hb
 | false=>
  simp only[cond_false,aL] at h
  obtain ⟨hI1,hx1⟩:=iI vs hI
  have h1:=Bs (H:=cL H vs) (lend:=false) (Ext.refl _) (fun _ _ _ h=>oB hI1 h) (fun nm k v h=>eV hI1 h) (fun nm k i v _=>fG nm k i v) (fun nm v h=>jC hI1 (Ext.refl _) (.inl rfl) h) (hrel.ext hx1)
  have h2:=dW h h1
  refine Rel.bare (E:=envOf _ (cL H vs) loc ver w) (E':=env0 w _) (fun _ _ _ h _=>h) (fun b hb=>?_) h2 hb
  rcases hb.1 with h3 | h3 | h3
  ·exact .inl ⟨rfl,h3⟩
  ·exact h3.elim
  ·exact .inr ⟨h3,hb.2.1⟩
theorem oG {Γ:List Con} (hΓ:∀c∈Γ,aD P c) {A:Anns} {fresh:Bool} {f:FuncId} {fn:Func} (hf:P.funcs[f]? =some fn) {args:List SV} {r:SV} (hn:args.length≤fn.ntmps) (hb:bare r=true) (h:body P Γ A fresh fn args r):Tri P fresh f args r:=by
 intro ok w vs hgw hok hr
 unfold body at h
 cases hc:fn.body with
 | none=>rw[hc] at h;exact h.elim
 | some c=>
  rw[hc] at h
  refine (callsIn_wide (n:=0)).1 (callsIn_of_wp_marks hf hc trivial ?_)
  have hI:=Cc ok hok
  have hr':RelL (envOf (ctx0 w ok hok) [] (fun _=>mkL none 0 0) (fun _=>0) w) args vs:=by
   refine RelL.move (E:=env0 w ok) (E':=envOf (ctx0 w ok hok) [] (fun _=>mkL none 0 0) (fun _=>0) w) (p:=fun m=>Nat.blt m 0) (fun nm hp _=>by simp at hp) (fun nm hp=>by simp at hp) (fun h=>by cases h) (fun _ _ _ h _=>h) (fun b hb=>⟨.inl hb,hok b hb,fun ⟨nm,o,h,_⟩=>by simp at h⟩) hr hr.under
  have hT:=lL (N:=fn.ntmps) hr' hn
  have hY:COK P (ctx0 w ok hok):=⟨(fun k M W us hk=>by cases hk),hgw⟩
  refine wpIn_mono (jZ hY hΓ c 0 (F:=Fence.wide) (n:=0) ⟨none,rfl⟩ hI hT (fun l hl=>by cases hl) h) ?_
  rintro e a' w' ⟨l',H',loc',ver',h1,h2,h3,h4,h5,Ds,h6,h7,h8⟩
  have hend:∀ {R:Ending→World→Prop},(∀w2,Inv (ctx0 w ok hok) H' loc' ver' w2→TRel (envOf (ctx0 w ok hok) H' loc' ver' w2) fn.ntmps l' a'→∃v,(results fn a'.tmps).run P w2= .ok v w2∧R (.returned v) w2)→LeavesInM Fence.wide 0 P fn a'.tmps R a'.defers .returning w':=by
   intro R hR
   rw[h6,List.append_nil]
   exact iU Ds h2 h7 (fun D hD=>⟨(h8 D hD).1,Nat.zero_le _,(h8 D hD).2.1,(h8 D hD).2.2⟩) fun w2 h9 h10=>hR w2 h9 ⟨h3.size,fun t=>h10 _ _ (h3.rel t)⟩
  cases e with
  | normal=>
   refine hend fun w2 h9 h10=>?_
   obtain ⟨v,k7,k8,k9⟩:=yL h9 h10 hb h1
   exact ⟨v,k7,v,rfl,k8,k9⟩
  | ret=>
   refine hend fun w2 h9 h10=>?_
   obtain ⟨v,k7,k8,k9⟩:=yL h9 h10 hb h1
   exact ⟨v,k7,v,rfl,k8,k9⟩
  | _=>exact h1.elim
theorem dE {Γ:List Con} (hΓ:∀c∈Γ,aD P c) {A:Anns} {f:FuncId} {fn:Func} (hf:P.funcs[f]? =some fn) {pos:Nat} {same:Bool} {args:List SV} {t:Ty} {xs:List t.T} {e:TypeId} {r:SV} {ys:List t.T} (hn:args.length≤fn.ntmps) (hfl:t.flat=true)
  (h:Bl P Γ A fn pos same args t xs e r ys):LTri P f pos same args t xs e r ys:=by
 intro ok w vs L hgw hok hblk hrow hr hpos
 unfold Bl at h
 cases hc:fn.body with
 | none=>rw[hc] at h;exact h.elim
 | some c=>
  rw[hc] at h
  refine (callsIn_wide (n:=0)).1 (callsIn_of_wp_marks hf hc trivial ?_)
  obtain ⟨G,hG⟩:∃G:Ctx,G= ⟨w,ok,fun b=>L.blk.map (·.1)=some b,fun b h1 h2=>(hok b h1).2 h2,fun b hb=>(hok b hb).1,itr0,Nat.zero_le _⟩:=⟨_,rfl⟩
  obtain ⟨r1,r2,rs,r3,r4⟩:=hrow
  have hown:∀b,Owned [HO.vec 1 t xs e] (fun _=>L) b→L.blk.map (·.1)=some b:=by
   rintro b ⟨nm,o,h1,h2⟩
   cases nm with
   | zero=>simp at h1;subst h1;exact h2
   | succ k=>simp at h1
  have hokn:∀b,ok b→okN G [HO.vec 1 t xs e] (fun _=>L) w b:=fun b hb=>⟨.inl (by rw[hG];exact hb),(hok b hb).1,fun ho=>(hok b hb).2 (hown b ho)⟩
  have hI:Inv G [HO.vec 1 t xs e] (fun _=>L) (fun _=>1) w:=by
   refine ⟨by rw[hG];exact Nat.le_refl _,by rw[hG],by rw[hG],by rw[hG],fun b _ _=>by rw[hG],fun nm o ho=>?_,fun b hb=>.inl (by rw[hG];exact hown b hb),fun nm nm' o o' b h1 h2 _ _=>?_⟩
   ·cases nm with
    | zero=>
     simp at ho;subst ho
     exact ⟨rfl,Nat.one_pos,r1,r2,rs,r3,fun i hi=>Reads.flatJ hfl (r4 i hi)⟩
    | succ k=>simp at ho
   ·cases nm with
    | zero=>cases nm' with
     | zero=>rfl
     | succ k=>simp at h2
    | succ k=>simp at h1
  have hr':RelL (envOf G [HO.vec 1 t xs e] (fun _=>L) (fun _=>1) w) args vs:=
   RelL.move (E:=env0 w ok) (E':=envOf G [HO.vec 1 t xs e] (fun _=>L) (fun _=>1) w) (p:=fun m=>Nat.blt m 0) (fun nm hp _=>by simp at hp) (fun nm hp=>by simp at hp) (fun h=>by cases h) (fun _ _ _ h _=>h) hokn hr hr.under
  have hrs:RelL (envOf G [HO.vec 1 t xs e] (fun _=>L) (fun _=>1) w) (args.set pos (.ref 0 1)) vs:=by
   have hh:Rel (envOf G [HO.vec 1 t xs e] (fun _=>L) (fun _=>1) w) (.ref 0 1) L.head:=.ref 0 1 _ (by rfl) Nat.one_pos (Nat.le_refl _) fun _=>rfl
   have:=hr'.set pos hh
   obtain ⟨hlt,he⟩:=List.getElem?_eq_some_iff.1 hpos
   rwa [show vs.set pos L.head=vs from by rw[← he];exact List.set_getElem_self hlt] at this
  have hT:=lL (N:=fn.ntmps) hrs (by simpa using hn)
  have hY:COK P G:=by rw[hG];exact ⟨(fun k M W us hk=>by cases hk),hgw⟩
  have hRo:RoundOK Fence.wide (envOf G [HO.vec 1 t xs e] (fun _=>L) (fun _=>1) w):=fun l hl=>by cases hl
  refine wpIn_mono (jZ hY hΓ c 0 (F:=Fence.wide) (n:=0) ⟨none,rfl⟩ hI hT hRo h) ?_
  rintro en a' w' ⟨l',H',loc',ver',h1,h2,h3,h4,h5,Ds,h6,h7,h8⟩
  have h0s:G.w0.heap.size=w.heap.size:=by rw[hG]
  have h0n:G.itr.n0=0:=by rw[hG];rfl
  have hend:finL.endL P A c same fn.results.toList r t ys e l' H'→LeavesInM Fence.wide 0 P fn a'.tmps (fun en w'=>∃v L',en= .returned v∧(w'.os=w.os∧w'.tape=w.tape∧w'.output=w.output∧w.heap.size≤w'.heap.size∧∀b,b<w.heap.size→L.blk.map (·.1)≠some b→w'.heap[b]? =w.heap[b]?)∧
   (same=true→L'=L)∧(∀b,L'.blk.map (·.1)=some b→L.blk.map (·.1)=some b∨w.heap.size≤b)∧RowS w' L' t ys e∧((r= .ref 0 1∧v=L'.head)∨(plain r=true∧Rel (env0 w' fun _=>False) r v))) a'.defers .returning w':=by
   intro he
   rw[h6,List.append_nil]
   refine iU Ds h2 h7 (fun D hD=>⟨by rw[h0s];exact (h8 D hD).1,by rw[h0n];exact Nat.zero_le _,(h8 D hD).2.1,(h8 D hD).2.2⟩) fun w2 h9 h10=>?_
   unfold finL.endL at he
   split at he
   case h_2=>exact he.elim
   rename_i us k t' zs e' hu ho
   obtain ⟨q1,rfl,q2,q3⟩:=he
   have hT2:TRel (envOf G H' loc' ver' w2) fn.ntmps l' a':=⟨h3.size,fun t=>h10 _ _ (h3.rel t)⟩
   obtain ⟨v,k7,k8⟩:=dX (P:=P) h9 hT2 hu
   have hq:=gU q2
   cases hq
   have hn0:=aC ho (by simp)
   obtain ⟨o1,o2,o3,o4,rs',o5,o6⟩:=h9.objs 0 _ hn0
   have o1:ver' 0=k:=o1
   refine ⟨v,k7,v,⟨(loc' 0).toCore,L.al,L.sub⟩,rfl,⟨?_,?_,?_,?_,?_⟩,?_,?_,⟨o3,o4,rs',o5,fun i hi=>Reads.flatJ hfl (o6 i hi)⟩,?_⟩
   ·have:=h9.os;rw[hG] at this;exact this
   ·have:=h9.tape;rw[hG] at this;exact this
   ·have:=h9.output;rw[hG] at this;exact this
   ·have:=h9.size;rw[hG] at this;exact this
   ·intro b hb hne
    have:=h9.frame b (by rw[h0s];exact hb) (by rw[hG];exact hne)
    rw[hG] at this;exact this
   ·intro hs
    rw[hs] at q1
    simp only[cond_true,Bool.and_eq_true,aJ,Bool.not_eq_true'] at q1
    rcases h4.ver 0 (by rfl) q1.2 with ⟨_,e2⟩ | ⟨_,e2⟩
    ·have e2:(loc' 0).toCore=L.toCore:=e2
     rw[e2]
    ·have e2:1<ver' 0:=e2
     omega
   ·intro b hb
    rcases h9.own b ⟨0,_,hn0,hb⟩ with h | h
    ·rw[hG] at h;exact .inl h
    ·rw[hG] at h;exact .inr h
   ·split at q3
    ·split at q3
     ·rename_i k' hk
      subst q3
      rw[hk] at k8
      refine .inl ⟨rfl,?_⟩
      generalize v=u at k8
      cases k8 with
      | ref _ _ _ _ _ _ hh=>exact hh o1.symm
     ·exact q3.elim
    ·obtain ⟨q4,q5⟩:=q3
     exact .inr ⟨q4,(dW q5 k8).plain q4⟩
  cases en with
  | normal=>exact hend h1
  | ret=>exact hend h1
  | _=>exact h1.elim
theorem RelL.mapTo {E E':Env} {g:SV→SV} (hg:∀s x,Rel E s x→Rel E' (g s) x):∀ {l:List SV} {vs:List Value},RelL E l vs→RelL E' (l.map g) vs
 | _,_,.nil=>.nil
 | _,_,.cons _ _ _ _ h hl=>.cons _ _ _ _ (hg _ _ h) (RelL.mapTo hg hl)
theorem Ro {E E':Env} {g:SV→SV} (hg:∀s x,Rel E s x→Rel E' (g s) x) {l:List SV} {v:Value} (h:Rel E (qE l) v):Rel E' (qE (l.map g)) v:=by
 match l with
 | []=>cases h with
  | tup _ vs hl=>exact .tup _ _ (by simpa using RelL.mapTo hg hl)
 | [a]=>exact hg _ _ h
 | a::b::l=>cases h with
  | tup _ vs hl=>exact .tup _ _ (by simpa using RelL.mapTo hg hl)
theorem Um {E:Env} {nm k:Nat} {w:World} (hv:E.ver nm=k) {s:SV} {x:Value} (h:Rel E s x):Rel (envO w (E.loc nm)) (renb nm k s) x:=by
 cases s with
 | ref n j=>
  simp only[renb]
  cases hb:(Nat.beq n nm&&Nat.beq j k) with
  | false=>exact .any x
  | true=>
   simp only[Bool.and_eq_true,aJ] at hb
   obtain ⟨rfl,rfl⟩:=hb
   cases h with
   | ref _ _ _ _ _ _ hh=>
    have:=hh hv.symm
    exact .ref 0 1 x (by simp[envO]) Nat.one_pos (Nat.le_refl _) fun _=>this
 | _=>
  simp only[renb]
  first
  | (split<;>first | exact .any x | exact h.plain (by assumption))
  | (cases hp:plain _ with
   | true=>exact h.plain hp
   | false=>exact .any x)
theorem sK {Γ:List Con} (hΓ:∀c∈Γ,aD P c) {A:Anns} {f:FuncId} {fn:Func} (hf:P.funcs[f]? =some fn) {args:List SV} {r:SV} {t:Ty} {ys:List t.T} {e:TypeId} (hn:args.length≤fn.ntmps) (hfl:t.flat=true)
  (h:Ub P Γ A fn args r t ys e):OTri P f args r t ys e:=by
 intro ok w vs hgw hok hr
 unfold Ub at h
 cases hc:fn.body with
 | none=>rw[hc] at h;exact h.elim
 | some c=>
  rw[hc] at h
  refine (callsIn_wide (n:=0)).1 (callsIn_of_wp_marks hf hc trivial ?_)
  have hI:=Cc ok hok
  have hr':RelL (envOf (ctx0 w ok hok) [] (fun _=>mkL none 0 0) (fun _=>0) w) args vs:=by
   refine RelL.move (E:=env0 w ok) (E':=envOf (ctx0 w ok hok) [] (fun _=>mkL none 0 0) (fun _=>0) w) (p:=fun m=>Nat.blt m 0) (fun nm hp _=>by simp at hp) (fun nm hp=>by simp at hp) (fun h=>by cases h) (fun _ _ _ h _=>h) (fun b hb=>⟨.inl hb,hok b hb,fun ⟨nm,o,h,_⟩=>by simp at h⟩) hr hr.under
  have hT:=lL (N:=fn.ntmps) hr' hn
  have hY:COK P (ctx0 w ok hok):=⟨(fun k M W us hk=>by cases hk),hgw⟩
  refine wpIn_mono (jZ hY hΓ c 0 (F:=Fence.wide) (n:=0) ⟨none,rfl⟩ hI hT (fun l hl=>by cases hl) h) ?_
  rintro en a' w' ⟨l',H',loc',ver',h1,h2,h3,h4,h5,Ds,h6,h7,h8⟩
  have hend:finO.endO P fn.results.toList r t ys e l' H'→LeavesInM Fence.wide 0 P fn a'.tmps (fun en w'=>∃v L',en= .returned v∧Below w.heap.size w w'∧(∀b,L'.blk.map (·.1)=some b→w.heap.size≤b)∧RowS w' L' t ys e∧Rel (envO w' L') r v) a'.defers .returning w':=by
   intro he
   rw[h6,List.append_nil]
   refine iU Ds h2 h7 (fun D hD=>⟨(h8 D hD).1,Nat.zero_le _,(h8 D hD).2.1,(h8 D hD).2.2⟩) fun w2 h9 h10=>?_
   unfold finO.endO at he
   split at he
   case h_2=>exact he.elim
   rename_i us hu
   split at he
   case h_2=>
    split at he
    case h_2=>exact he.elim
    obtain ⟨hr0,hy0⟩:=he
    have hT2:TRel (envOf (ctx0 w ok hok) H' loc' ver' w2) fn.ntmps l' a':=⟨h3.size,fun t=>h10 _ _ (h3.rel t)⟩
    obtain ⟨v,k7,k8⟩:=dX (P:=P) h9 hT2 hu
    have hv:v= .slice none 0 0:=by
     have k8:Rel _ (.val (.slice none 0 0)) v:=k8
     cases k8;rfl
    subst hr0
    refine ⟨v,k7,v,mkL none 0 0,rfl,⟨h9.os,h9.tape,h9.output,h9.size,fun b hb=>h9.frame b hb fun h=>h⟩,fun b hb=>(by simp at hb),⟨hy0.symm,Nat.zero_le _,[],⟨by simp,.inl ⟨rfl,rfl⟩⟩,fun i hi=>absurd hi (Nat.not_lt_zero _)⟩,?_⟩
    exact .ref 0 1 v (by simp[envO]) Nat.one_pos (Nat.le_refl _) fun _=>by rw[hv];rfl
   rename_i nm k hfr
   split at he
   case h_2=>exact he.elim
   rename_i k' t' zs e' ho
   obtain ⟨rfl,rfl,q2,q3⟩:=he
   have hT2:TRel (envOf (ctx0 w ok hok) H' loc' ver' w2) fn.ntmps l' a':=⟨h3.size,fun t=>h10 _ _ (h3.rel t)⟩
   obtain ⟨v,k7,k8⟩:=dX (P:=P) h9 hT2 hu
   have hq:=gU q2
   cases hq
   have hn0:=aC ho (by simp)
   obtain ⟨o1,o2,o3,o4,rs',o5,o6⟩:=h9.objs nm _ hn0
   refine ⟨v,k7,v,loc' nm,rfl,⟨h9.os,h9.tape,h9.output,h9.size,fun b hb=>h9.frame b hb fun h=>h⟩,?_,⟨o3,o4,rs',o5,fun i hi=>Reads.flatJ hfl (o6 i hi)⟩,?_⟩
   ·intro b hb
    rcases h9.own b ⟨nm,_,hn0,hb⟩ with h | h
    ·exact h.elim
    ·exact h
   ·exact dW q3 (Ro (fun s x hs=>Um (E:=envOf (ctx0 w ok hok) H' loc' ver' w2) o1 hs) k8)
  cases en with
  | normal=>exact hend h1
  | ret=>exact hend h1
  | _=>exact h1.elim
theorem mM {Γ:List Con} (hΓ:∀c∈Γ,aD P c) {A:Anns} {f:FuncId} {fn:Func} (hf:P.funcs[f]? =some fn) {args:List SV} {n:Nat} {items:Nat→List SV} (hn:args.length+1≤fn.ntmps) (h:Hg P Γ A fn args n items):TriI P f args n items:=by
 intro ok w vs l J soft sf hgw hok hr hsf hab hy hJ0
 unfold Hg at h
 cases hc:fn.body with
 | none=>rw[hc] at h;exact h.elim
 | some c=>
  rw[hc] at h
  refine (callsIn_wide (n:=0)).1 (callsIn_of_wp_marks hf hc trivial ?_)
  obtain ⟨G,hG⟩:∃G:Ctx,G= ⟨w,ok,fun b=>b<w.heap.size∧¬ok b,fun b h1 h2=>h2.2 h1,hok,⟨true,l,w.heap.size,ok,n,items,J,hab,soft,sf,hsf⟩,Nat.le_refl _⟩:=⟨_,rfl⟩
  have hown:∀b,Owned [HO.yst (some 0) n items] (fun _=>(⟨⟨none,0,0⟩,fun b=>b<w.heap.size∧¬ok b,sub0⟩:Loc)) b→b<w.heap.size∧¬ok b:=by
   rintro b ⟨nm,o,h1,h2⟩
   cases nm with
   | zero=>simp at h1;subst h1;exact h2
   | succ k=>simp at h1
  have hokn:∀b,ok b→okN G [HO.yst (some 0) n items] (fun _=>(⟨⟨none,0,0⟩,fun b=>b<w.heap.size∧¬ok b,sub0⟩:Loc)) w b:=fun b hb=>⟨.inl (by rw[hG];exact hb),hok b hb,fun ho=>(hown b ho).2 hb⟩
  have hI:Inv G [HO.yst (some 0) n items] (fun _=>(⟨⟨none,0,0⟩,fun b=>b<w.heap.size∧¬ok b,sub0⟩:Loc)) (fun _=>1) w:=by
   refine ⟨by rw[hG];exact Nat.le_refl _,by rw[hG],by rw[hG],by rw[hG],fun b _ _=>by rw[hG],fun nm o ho=>?_,fun b hb=>.inl (by rw[hG];exact hown b hb),fun nm nm' o o' b h1 h2 _ _=>?_⟩
   ·cases nm with
    | zero=>
     simp at ho;subst ho
     refine ⟨Nat.one_pos,fun b hb=>hb.1,by rw[hG];exact Nat.le_refl _,by rw[hG];rfl,by rw[hG];rfl,fun b hb hl=>?_,?_⟩
     ·have hb':b<w.heap.size:=by rw[hG] at hb;exact hb
      have hob:ok b:=Classical.byContradiction fun hno=>hl ⟨hb',hno⟩
      exact ⟨by rw[hG];exact hob,hokn b hob⟩
     ·rw[hG]
      refine cast (congrArg (fun M=>J (some 0) M w) (funext fun b=>propext ⟨fun h=>h.elim,?_⟩)) hJ0
      rintro ⟨h8,h9,_⟩
      have h8':w.heap.size≤b:=h8
      have h9':b<w.heap.size:=h9
      omega
    | succ k=>simp at ho
   ·cases nm with
    | zero=>cases nm' with
     | zero=>rfl
     | succ k=>simp at h2
    | succ k=>simp at h1
  have hr':RelL (envOf G [HO.yst (some 0) n items] (fun _=>(⟨⟨none,0,0⟩,fun b=>b<w.heap.size∧¬ok b,sub0⟩:Loc)) (fun _=>1) w) args vs:=
   by
    cases soft with
    | false=>
     exact RelL.move (E:=env0 w ok) (E':=envOf G [HO.yst (some 0) n items] (fun _=>(⟨⟨none,0,0⟩,fun b=>b<w.heap.size∧¬ok b,sub0⟩:Loc)) (fun _=>1) w) (p:=fun m=>Nat.blt m 0) (fun nm hp _=>by simp at hp) (fun nm hp=>by simp at hp) (fun h=>by cases h) (fun _ _ _ h _=>h) hokn hr hr.under
    | true=>
     obtain ⟨rfl,c,o,hc1,hc2,rfl⟩:=hr
     refine .cons _ _ _ _ (.lelem _ 0 c o [sf.head] (.cons _ _ _ _ (.sft none _ (by rw[hG];rfl) (by rw[hG];exact ⟨rfl,rfl⟩)) .nil) (hokn c hc1) ?_) .nil
     intro j u hj
     cases j with
     | zero=>simp at hj;subst hj;exact hc2
     | succ j=>simp at hj
  have hyl:Rel (envOf G [HO.yst (some 0) n items] (fun _=>(⟨⟨none,0,0⟩,fun b=>b<w.heap.size∧¬ok b,sub0⟩:Loc)) (fun _=>1) w) (.yld 0) (.func (.yield l) #[] #[]):=by
   have:=Rel.yld (E:=envOf G [HO.yst (some 0) n items] (fun _=>(⟨⟨none,0,0⟩,fun b=>b<w.heap.size∧¬ok b,sub0⟩:Loc)) (fun _=>1) w) 0 (by rw[hG];rfl)
   rw[hG] at this ⊢
   exact this
  have hT:=lL (N:=fn.ntmps) (RelL.cons _ _ _ _ hyl hr') (by simpa using hn)
  have hY:COK P G:=by rw[hG];exact ⟨hy,hgw⟩
  have hRo:RoundOK Fence.wide (envOf G [HO.yst (some 0) n items] (fun _=>(⟨⟨none,0,0⟩,fun b=>b<w.heap.size∧¬ok b,sub0⟩:Loc)) (fun _=>1) w):=fun l hl=>by cases hl
  refine wpIn_mono (jZ hY hΓ c 0 (F:=Fence.wide) (n:=0) ⟨none,rfl⟩ hI hT hRo h) ?_
  rintro e a' w' ⟨l',H',loc',ver',h1,h2,h3,h4,h5,Ds,h6,h7,h8⟩
  have h0s:G.w0.heap.size=w.heap.size:=by rw[hG]
  have h0n:G.itr.n0=w.heap.size:=by rw[hG]
  have hend:finI.endI fn.results.toList l' H'→LeavesInM Fence.wide 0 P fn a'.tmps (fun e w'=>(∃v,e= .returned v)∧∃M,J (some n) M w'∨J none M w') a'.defers .returning w':=by
   intro he
   rw[h6,List.append_nil]
   refine iU Ds h2 h7 (fun D hD=>⟨by rw[h0s];exact (h8 D hD).1,by rw[h0n];exact (h8 D hD).1,(h8 D hD).2.1,(h8 D hD).2.2⟩) fun w2 h9 h10=>?_
   unfold finI.endI at he
   have hres:∀k,fn.results.toList= []→k→∃v,(results fn a'.tmps).run P w2= .ok v w2∧k:=by
    intro k hrs hk
    obtain ⟨v,h11,_⟩:=dX (P:=P) (fn:=fn) (vs:=[]) h9 (⟨h3.size,fun t=>h10 _ _ (h3.rel t)⟩:TRel (envOf G H' loc' ver' w2) fn.ntmps l' a') (by rw[hrs];rfl)
    exact ⟨v,h11,hk⟩
   split at he
   ·rename_i k n' it hrs ho
    obtain ⟨v,h11,_⟩:=hres True hrs trivial
    obtain ⟨_,_,_,hn',_,_,hJ⟩:=h9.objs 0 _ (aC ho (by simp))
    refine ⟨v,h11,⟨v,rfl⟩,fun b=>w.heap.size≤b∧b<w2.heap.size∧¬(loc' 0).al b,.inl ?_⟩
    have e1:n'=n:=by rw[hG] at hn';exact hn'
    rw[hG] at hJ
    have e2:k=n:=he.trans e1
    rw[e2] at hJ
    exact hJ
   ·rename_i n' it hrs ho
    obtain ⟨v,h11,_⟩:=hres True hrs trivial
    obtain ⟨_,_,_,hn',_,_,hJ⟩:=h9.objs 0 _ (aC ho (by simp))
    refine ⟨v,h11,⟨v,rfl⟩,fun b=>w.heap.size≤b∧b<w2.heap.size∧¬(loc' 0).al b,.inr ?_⟩
    rw[hG] at hJ
    exact hJ
   ·exact he.elim
  cases e with
  | normal=>exact hend h1
  | ret=>exact hend h1
  | _=>exact h1.elim
end
end Go.Eng
end
section
namespace Go.Eng
theorem Oy {k:IntKind} {n:Int} (h:(Lit.int k n).wf=true):inK k n:=by
 cases k<;>simp[Lit.wf,IntKind.min,IntKind.max,IntKind.bits,IntKind.signed] at h<;>simp only[inK,lo,hi]<;>omega
theorem Zu {E:Env} {k:IntKind} {n:Int} (h:(Lit.int k n).wf=true):Rel E (.val (.int k n)) (.int k n):=.val _ (Oy h)
theorem Uo {E:Env} (b:Bool):Rel E (.val (.bool b)) (.bool b):=.val _ trivial
theorem oH {H:Type} {P:Program} {e:TypeId}:∀ {l:List (DataW H)} {d:DataW H},d∈l→∀n∈d.weights P e,n∈DataW.weightsAll P e l
 | [],_,h,_,_=>by cases h
 | x::l,d,h,n,hn=>by
  simp only[DataW.weightsAll,List.mem_append]
  rcases List.mem_cons.1 h with rfl | h
  ·exact .inl hn
  ·exact .inr (oH h n hn)
def okTy (P:Program):Nat→TypeId→Bool
 | 0,_=>false
 | n+1,t=>match P.underlying t with
  | some (.int _)=>true
  | some .bool=>true
  | some .string=>true
  | some (.slice e)=>(match tyOf P n e with
   | some ty=>Nat.beq (P.cellsOf e) ty.size&&(Nat.blt 0 ty.size&&(Nat.blt 0 (P.bytesOf e)&&okTy P n e))
   | none=>false)
  | some (.struct fs)=>okF P n fs.toList 0&&(match tyOf.flds P n fs.toList with
   | some ty=>Nat.beq (P.cellsOf t) ty.size
   | none=>false)
  | _=>false
where okF (P:Program):Nat→List Field→Nat→Bool
 | 0,_,_=>false
 | _+1,[],_=>false
 | n+1,f::r,o=>Nat.beq f.offset o&&((match tyOf P n f.type with
   | some ty=>Nat.beq (P.cellsOf f.type) ty.size
   | none=>false)&&(okTy P n f.type&&(match r with
    | []=>true
    | g::r=>okF P n (g::r) (o+P.cellsOf f.type))))
theorem Ir (b o k:Nat):(⟨b,o,none⟩:Addr).add k= ⟨b,o+k,none⟩:=by unfold Addr.add;split<;>simp_all
section
variable {H:Type} {enc:TypeId × Value→H} {P:Program} {w:World} {base:Nat} {spare:Nat→Bool} {held:Bool}
def RD (H:Type) (enc:TypeId × Value→H) (P:Program) (w:World) (base:Nat) (spare:Nat→Bool) (held:Bool) (n:Nat):Prop:=∀(t:TypeId) (ty:Ty),tyOf P n t=some ty→okTy P n t=true→∀(fuel:Nat) (cs:List Value) (x:DataW H × List MemPlace),
 DataW.trod enc P w base spare held fuel t cs=some x→(∀m∈x.1.weights P t,m≤reachBytes)→∃v:ty.T,Reads w (fun b=>b<w.heap.size) ty v cs
theorem vM (n:Nat) (ih:∀k,k<n→RD H enc P w base spare held k):∀(k:Nat),k≤n→∀(l:List Field) (o:Nat) (ty:Ty),tyOf.flds P k l=some ty→okTy.okF P k l o=true→∀(fuel:Nat) (cs:List Value) (ys:List (DataW H × List MemPlace)),
  (∀(i:Nat) (f:Field),l[i]? =some f→∃y,ys[i]? =some y∧DataW.trod enc P w base spare held fuel f.type ((cs.drop f.offset).take (P.cellsOf f.type))=some y∧∀m∈y.1.weights P f.type,m≤reachBytes)→
  ∃v:ty.T,Reads w (fun b=>b<w.heap.size) ty v ((cs.drop o).take ty.size)
 | 0,_,l,o,ty,h1,_,_,_,_,_=>by cases l<;>simp[tyOf.flds] at h1
 | k+1,hk,[],o,ty,h1,_,_,_,_,_=>by simp[tyOf.flds] at h1
 | k+1,hk,[f],o,ty,h1,h2,fuel,cs,ys,h3=>by
  simp only[tyOf.flds] at h1
  simp only[okTy.okF,h1,Bool.and_eq_true,aJ] at h2
  obtain ⟨rfl,e2,e3,_⟩:=h2
  obtain ⟨y,_,h4,h5⟩:=h3 0 f rfl
  rw[← e2]
  exact ih k (by omega) _ _ h1 e3 fuel _ y h4 h5
 | k+1,hk,f::g::r,o,ty,h1,h2,fuel,cs,ys,h3=>by
  simp only[tyOf.flds] at h1
  split at h1
  ·rename_i a b ha hb
   cases h1
   simp only[okTy.okF,ha,Bool.and_eq_true,aJ] at h2
   obtain ⟨rfl,e2,e3,e4⟩:=h2
   obtain ⟨y,_,h4,h5⟩:=h3 0 f rfl
   obtain ⟨v1,hv1⟩:=ih k (by omega) _ _ ha e3 fuel _ y h4 h5
   obtain ⟨v2,hv2⟩:=vM n ih k (by omega) (g::r) (f.offset+P.cellsOf f.type) b hb e4 fuel cs ys.tail (fun i f' hf=>by
    obtain ⟨y,q1,q2⟩:=h3 (i+1) f' (by simpa using hf)
    exact ⟨y,by rw[List.getElem?_tail];exact q1,q2⟩)
   rw[e2] at hv1 hv2
   refine ⟨(v1,v2),(cs.drop f.offset).take a.size,(cs.drop (f.offset+a.size)).take b.size,?_,hv1,hv2⟩
   simp only[Ty.size]
   rw[List.take_add,List.drop_drop]
  ·cases h1
theorem yN:∀n,RD H enc P w base spare held n
 | 0=>fun t ty h=>by simp[tyOf] at h
 | n+1=>by
  have ih:∀k,k<n+1→RD H enc P w base spare held k:=fun k hk=>yN k
  intro t ty h1 h2 fuel cs x h3 h4
  simp only[tyOf] at h1
  simp only[okTy] at h2
  split at h1
  ·rename_i k hu
   cases h1
   obtain ⟨m,rfl,_,hw⟩:=DataW.trod_int hu h3
   exact ⟨m,rfl,Oy hw⟩
  ·rename_i hu
   cases h1
   obtain ⟨b,rfl,_⟩:=DataW.trod_bool hu h3
   exact ⟨b,rfl⟩
  ·rename_i hu
   cases h1
   obtain ⟨s,rfl,rfl,_⟩:=DataW.trod_string hu h3
   refine ⟨s.data.toList,by simp,?_⟩
   have:=h4 s.data.toList.length (by simp[DataW.weights])
   exact Nat.le_trans this (by decide)
  ·rename_i e hu
   rw[hu] at h2
   simp only at h2
   cases hE:tyOf P n e with
   | none=>rw[hE] at h1;simp at h1
   | some te=>
   rw[hE] at h1 h2
   simp only[Option.map_some,Option.some.injEq] at h1
   subst h1
   simp only[Bool.and_eq_true,aJ] at h2
   obtain ⟨e1,e2,e3,e4⟩:=h2
   have e2:0<te.size:=by simpa using e2
   have e3:0<P.bytesOf e:=by simpa using e3
   rcases DataW.trod_slice hu h3 with ⟨rfl,_⟩ | ⟨a,len,cap,elems,rest,m,rfl,rfl,rfl,hb,hl,hm,hlen,hel,hsp,hns⟩
   ·exact ⟨([]:List te.T),pF _ _ _⟩
   ·have hbig:=h4 ((elems.length+rest.length)*P.bytesOf e) (by simp[DataW.weights,hu])
    have hlen':len≤maxL:=by
     have h5:elems.length+rest.length≤(elems.length+rest.length)*P.bytesOf e:=Nat.le_mul_of_pos_right _ e3
     have h6:reachBytes≤maxL:=by decide
     omega
    have each:∀i:Nat,∃v:te.T,i<len→∃es,w.cells? base (a.add (i*P.cellsOf e)) (P.cellsOf e)=some es∧Reads w (fun b=>b<w.heap.size) te v es:=by
     intro i
     by_cases hi:i<len
     ·have h5:=hel i hi
      obtain ⟨y,hy⟩:∃y,elems[i]? =some y:=⟨elems[i]'(by omega),by simp[hlen,hi]⟩
      rw[hy] at h5
      cases hc:w.cells? base (a.add (i*P.cellsOf e)) (P.cellsOf e) with
      | none=>rw[hc] at h5;simp at h5
      | some es=>
       rw[hc] at h5
       simp only[Option.bind_some] at h5
       obtain ⟨v,hv⟩:=ih n (Nat.lt_succ_self n) e te hE e4 m es y h5 (fun q hq=>h4 q (by
        simp only[DataW.weights,hu,List.mem_cons,List.mem_append]
        exact .inr (.inl (oH (List.mem_map.2 ⟨y,List.mem_of_getElem? hy,rfl⟩) q hq))))
       exact ⟨v,fun _=>⟨es,rfl,hv⟩⟩
     ·exact ⟨te.dflt,fun h=>absurd h hi⟩
    refine ⟨(List.range len).map fun i=>(each i).choose,some a,len,cap,rfl,by simp,hl,hlen',fun h0=>?_⟩
    obtain ⟨es0,hc0,hr0⟩:=(each 0).choose_spec h0
    have hlt:a.block<w.heap.size:=by
     have:=World.cells?_block hc0 (by omega)
     simpa [Addr.add] using this
    have hspot:a.spot=none:=by
     obtain ⟨_,_,hg⟩:=World.cells?_some hc0
     have h6:=hg 0 (by omega)
     obtain ⟨v0,hv0⟩:∃v0,es0[0]? =some v0:=by
      cases es0 with
      | nil=>have:=hr0.length;simp at this;omega
      | cons v _=>exact ⟨v,rfl⟩
     rw[hv0] at h6
     have:=World.cell?_spot h6
     simpa [Addr.add] using this
    obtain ⟨b,off,spot⟩:=a
    simp only at hspot hlt
    subst hspot
    refine ⟨b,off,rfl,hlt,fun i hi=>?_⟩
    obtain ⟨es,hc,hr⟩:=(each i).choose_spec hi
    obtain ⟨_,hlen2,hg⟩:=World.cells?_some hc
    refine ⟨es,by rw[hr.length],fun j v hj=>?_,?_⟩
    ·have hj':j<es.length:=(List.getElem?_eq_some_iff.1 hj).1
     have h6:=hg j (by omega)
     rw[hj] at h6
     rw[Ir,Ir] at h6
     rw[← e1]
     exact h6
    ·have:List.getD (α:=te.T) ((List.range len).map fun i=>(each i).choose) i te.dflt=(each i).choose:=by
      simp[List.getD_eq_getElem?_getD,hi]
     rw[this];exact hr
  ·rename_i fs hu
   rw[hu] at h2
   simp only[Bool.and_eq_true] at h2
   obtain ⟨e1,e2⟩:=h2
   rw[h1] at e2
   have e2:=aJ.1 e2
   obtain ⟨xs,m,rfl,rfl,hlen,hxl,hall⟩:=DataW.trod_struct hu h3
   obtain ⟨v,hv⟩:=vM n (fun k hk=>ih k (by omega)) n (Nat.le_refl _) fs.toList 0 ty h1 e1 m cs xs (fun i f hf=>by
    have hf':fs[i]? =some f:=by simpa using hf
    have h5:=hall i f hf'
    have hi:i<xs.length:=by rw[hxl];exact (Array.getElem?_eq_some_iff.1 hf').1
    refine ⟨xs[i],by simp[hi],by rw[h5];simp[hi],fun q hq=>h4 q ?_⟩
    simp only[DataW.weights,hu]
    exact DataW.weights_mem_each (j:=i) (t:=f.type) (d:=xs[i].1) (by simp[hf']) (by simp[hi]) q hq)
   refine ⟨v,?_⟩
   rw[List.drop_zero,List.take_of_length_le (by omega)] at hv
   exact hv
  ·cases h1
end
def Okd:(t:Ty)→t.T→Prop
 | .int k,n=>inK k n
 | .bool,_=>True
 | .str,s=>List.length (α:=UInt8) s≤maxL
 | .pair a b,x=>Okd a x.1∧Okd b x.2
 | .slice t,xs=>List.length (α:=t.T) xs≤maxL∧∀i,i<List.length (α:=t.T) xs→Okd t (List.getD (α:=t.T) xs i t.dflt)
theorem Reads.okd {w:World} {ok:Nat→Prop} {t:Ty} {x:t.T} {cs:List Value} (h:Reads w ok t x cs):Okd t x:=by
 induction t generalizing cs with
 | int k=>exact h.2
 | bool=>trivial
 | str=>exact h.2
 | pair a b iha ihb=>obtain ⟨c1,c2,rfl,h1,h2⟩:=h;exact ⟨iha h1,ihb h2⟩
 | slice t ih=>
  obtain ⟨a,n,c,rfl,hn,_,hm,hall⟩:=h
  have hn':n=List.length (α:=t.T) x:=hn
  refine ⟨by omega,fun i hi=>?_⟩
  obtain ⟨b,off,_,_,hel⟩:=hall (by omega)
  obtain ⟨es,_,_,hr⟩:=hel i (by omega)
  exact ih hr
section
variable {H:Type} {enc:TypeId × Value→H} {P:Program} {w:World} {base b0:Nat} {spare:Nat→Bool} {held:Bool} {r:Reach} {t:TypeId} {v:Value} {d:DataW H} {ps:List MemPlace}
theorem arg_int {k:IntKind} (ht:P.underlying t=some (.int k)) (hval:Value.okWide P w r b0 t v) (hd:DataW.Trod enc P w base spare held t v d ps):∃n:Int,inK k n∧Rel (env0 w fun b=>b<w.heap.size) (.val (.int k n)) v:=by
 obtain ⟨n,rfl,_,_,hw⟩:=ChangeShapes.open_int ht hval hd
 exact ⟨n,Oy hw,Zu hw⟩
theorem arg_bool (ht:P.underlying t=some .bool) (hval:Value.okWide P w r b0 t v) (hd:DataW.Trod enc P w base spare held t v d ps):∃b:Bool,Rel (env0 w fun b=>b<w.heap.size) (.val (.bool b)) v:=by
 obtain ⟨b,rfl,_⟩:=RowKit.open_bool ht hval hd
 exact ⟨b,Uo b⟩
theorem arg_str (ht:P.underlying t=some .string) (hval:Value.okWide P w r b0 t v) (hd:DataW.Trod enc P w base spare held t v d ps) (hw:∀m∈d.weights P t,m≤reachBytes):∃s:List UInt8,s.length≤maxL∧Rel (env0 w fun b=>b<w.heap.size) (.str s) v:=by
 obtain ⟨s,rfl,rfl,_,hs⟩:=ChangeMaps.open_string ht hval hd
 have h1:s.data.toList.length≤maxL:=Nat.le_trans (hw s.data.toList.length (by simp[DataW.weights])) (by decide)
 refine ⟨s.data.toList,h1,?_⟩
 have:=Rel.str (E:=env0 w fun b=>b<w.heap.size) s.data.toList h1
 simpa using this
theorem arg_slice {e:TypeId} {n:Nat} {ty:Ty} (ht:P.underlying t=some (.slice e)) (hval:Value.okWide P w r b0 t v) (hd:DataW.Trod enc P w base spare held t v d ps) (h1:tyOf P n t=some (.slice ty)) (h2:okTy P n t=true)
  (hw:∀m∈d.weights P t,m≤reachBytes):∃xs:List ty.T,Okd (.slice ty) xs∧Rel (env0 w fun b=>b<w.heap.size) (.seq ty xs) v:=by
 obtain ⟨a,len,cap,rfl⟩:=WideShapes.okWide_slice ht hval
 obtain ⟨fuel,hf⟩:=hd
 obtain ⟨xs,hx⟩:=yN n t _ h1 h2 fuel _ _ hf hw
 refine ⟨xs,hx.okd,.seq _ _ _ ?_⟩
 have e:(Value.slice a len cap).cells.toList= [.slice a len cap]:=by simp[Value.cells]
 rw[e] at hx
 exact hx
theorem weight_of {ts:List TypeId} {ds:List (DataW H)} (h:(DataW.weightsEach P ts ds).all (· ≤reachBytes)=true) (j:Nat) (ht:ts[j]? =some t) (hd:ds[j]? =some d):∀m∈d.weights P t,m≤reachBytes:=
 fun m hm=>by simpa using List.all_eq_true.1 h m (DataW.weights_mem_each ht hd m hm)
end
open Go.RowKit in
theorem law_calls {P:Program} {fresh:Bool} {f:FuncId} {args:List SV} (h:Tri P fresh f args (.val (.bool true))) (w:World) (vs:List Value) (hgw:GW P (fun b=>b<w.heap.size) w) (hr:RelL (env0 w fun b=>b<w.heap.size) args vs):
  Calls P f ⟨vs⟩ w fun e w'=>e= .returned (.bool true)∧Below w.heap.size w w':=by
 refine (h (fun b=>b<w.heap.size) w vs hgw (fun _ h=>h) hr).mono ?_
 rintro e w' ⟨v,rfl,hb,hv⟩
 cases hv
 exact ⟨rfl,hb⟩
end Go.Eng
end
section
namespace Go.Eng
open Go.RowKit
def plainC:SV→Bool
 | .seq _ _=>true
 | .clo _ [] []=>true
 | s=>plain s
def rV:List SV→Bool
 | []=>true
 | x::r=>plainC x&&rV r
theorem Rel.plainC {E E':Env} (hw:E'.w=E.w) (hok:∀b,E.ok b→E'.ok b) {s:SV} {v:Value} (h:Rel E s v) (hp:Eng.plainC s=true):Rel E' s v:=by
 cases s with
 | seq t xs=>
  cases h with
  | seq _ _ _ h=>exact .seq t xs v (by rw[hw];exact h.mono (fun _ _ _ h=>h) hok)
 | clo f a b=>
  cases a with
  | nil=>
   cases b with
   | nil=>
    cases h with
    | clo _ _ _ va vb ha hb=>
     cases ha
     cases hb
     exact .clo f [] [] [] [] .nil .nil
   | cons y ys=>exact absurd hp (by simp[Eng.plainC,Eng.plain])
  | cons y ys=>exact absurd hp (by simp[Eng.plainC,Eng.plain])
 | _=>exact h.plain hp
theorem RelL.plainC {E E':Env} (hw:E'.w=E.w) (hok:∀b,E.ok b→E'.ok b):∀ {l:List SV} {vs:List Value},RelL E l vs→rV l=true→RelL E' l vs
 | _,_,.nil,_=>.nil
 | _,_,.cons s v l vs h hl,hp=>by
  simp only[rV,Bool.and_eq_true] at hp
  exact .cons s v l vs (h.plainC hw hok hp.1) (RelL.plainC hw hok hl hp.2)
section
variable {P:Program}
end
end Go.Eng
end
section
namespace Go.Eng
section
variable {H:Type} {enc:TypeId × Value→H} {P:Program} {w:World} {base b0:Nat} {spare:Nat→Bool} {held:Bool} {r:Reach} {t:TypeId} {v:Value} {d:DataW H} {ps:List MemPlace}
theorem arg_struct {fs:Array Field} {n:Nat} {ty:Ty} (ht:P.underlying t=some (.struct fs)) (hval:Value.okWide P w r b0 t v) (hd:DataW.Trod enc P w base spare held t v d ps) (h1:tyOf P n t=some ty) (h2:okTy P n t=true)
  (hw:∀m∈d.weights P t,m≤reachBytes):∃x:ty.T,Okd ty x∧∃cs,v= .agg ⟨cs⟩∧Reads w (fun b=>b<w.heap.size) ty x cs:=by
 obtain ⟨cs,rfl,_⟩:=WideShapes.okWide_struct ht hval
 obtain ⟨fuel,hf⟩:=hd
 obtain ⟨x,hx⟩:=yN n t _ h1 h2 fuel _ _ hf hw
 refine ⟨x,hx.okd,cs.toList,rfl,?_⟩
 have e:(Value.agg cs).cells.toList=cs.toList:=by simp[Value.cells]
 rw[e] at hx
 exact hx
theorem agg_str2 {ok:Nat→Prop} {x:List UInt8 × List UInt8} {cs:List Value} (h:Reads w ok (.pair .str .str) x cs):Rel (env0 w ok) (.agg [.str x.1,.str x.2]) (.agg ⟨cs⟩):=by
 obtain ⟨c1,c2,rfl,⟨rfl,l1⟩,⟨rfl,l2⟩⟩:=h
 exact .agg _ _ (.cons _ _ _ _ (.str _ l1) (.cons _ _ _ _ (.str _ l2) .nil))
theorem agg_str3 {ok:Nat→Prop} {x:List UInt8 × List UInt8 × List UInt8} {cs:List Value} (h:Reads w ok (.pair .str (.pair .str .str)) x cs):Rel (env0 w ok) (.agg [.str x.1,.str x.2.1,.str x.2.2]) (.agg ⟨cs⟩):=by
 obtain ⟨c1,c2,rfl,⟨rfl,l1⟩,⟨c3,c4,rfl,⟨rfl,l2⟩,⟨rfl,l3⟩⟩⟩:=h
 exact .agg _ _ (.cons _ _ _ _ (.str _ l1) (.cons _ _ _ _ (.str _ l2) (.cons _ _ _ _ (.str _ l3) .nil)))
theorem agg_roof {ok:Nat→Prop} {a b c d:Ty} {x:(Ty.pair (.slice a) (.pair (.slice b) (.pair (.slice c) (.slice d)))).T} {cs:List Value} (h:Reads w ok (.pair (.slice a) (.pair (.slice b) (.pair (.slice c) (.slice d)))) x cs):Rel (env0 w ok) (.agg [.any,.any,.any,.seq d x.2.2.2]) (.agg ⟨cs⟩):=by
 obtain ⟨c1,c2,rfl,⟨_,_,_,rfl,_⟩,⟨c3,c4,rfl,⟨_,_,_,rfl,_⟩,⟨c5,c6,rfl,⟨_,_,_,rfl,_⟩,h4⟩⟩⟩:=h
 have h5:=h4
 obtain ⟨_,_,_,rfl,_⟩:=h5
 exact .agg _ _ (.cons _ _ _ _ (.any _) (.cons _ _ _ _ (.any _) (.cons _ _ _ _ (.any _) (.cons _ _ _ _ (.seq _ _ _ h4) .nil))))
theorem agg_one {ok:Nat→Prop} {a:Ty} {x:(Ty.slice a).T} {cs:List Value} (h:Reads w ok (.slice a) x cs):Rel (env0 w ok) (.agg [.seq a x]) (.agg ⟨cs⟩):=by
 have h2:=h
 obtain ⟨_,_,_,rfl,_⟩:=h2
 exact .agg _ _ (.cons _ _ _ _ (.seq _ _ _ h) .nil)
theorem agg_beam {ok:Nat→Prop} {a b:Ty} {x:(Ty.pair .str (.pair .str (.pair .str (.pair (.slice a) (.slice b))))).T} {cs:List Value} (h:Reads w ok (.pair .str (.pair .str (.pair .str (.pair (.slice a) (.slice b))))) x cs):Rel (env0 w ok) (.agg [.str x.1,.str x.2.1,.str x.2.2.1,.seq a x.2.2.2.1,.seq b x.2.2.2.2]) (.agg ⟨cs⟩):=by
 obtain ⟨c1,c2,rfl,⟨rfl,l1⟩,⟨c3,c4,rfl,⟨rfl,l2⟩,⟨c5,c6,rfl,⟨rfl,l3⟩,⟨c7,c8,rfl,h4,h5⟩⟩⟩⟩:=h
 have h6:=h4
 have h7:=h5
 obtain ⟨_,_,_,rfl,_⟩:=h6
 obtain ⟨_,_,_,rfl,_⟩:=h7
 exact .agg _ _ (.cons _ _ _ _ (.str _ l1) (.cons _ _ _ _ (.str _ l2) (.cons _ _ _ _ (.str _ l3) (.cons _ _ _ _ (.seq _ _ _ h4) (.cons _ _ _ _ (.seq _ _ _ h5) .nil)))))
theorem arg_arr3 {k:IntKind} {e:TypeId} (ht:P.underlying t=some (.array 3 e)) (he:P.underlying e=some (.int k)) (hc:P.cellsOf e=1) (hct:P.cellsOf t=3) (hd:DataW.Trod enc P w base spare held t v d ps):
  ∃x y z:Int,(inK k x∧inK k y∧inK k z)∧Rel (env0 w fun b=>b<w.heap.size) (.agg [.val (.int k x),.val (.int k y),.val (.int k z)]) v:=by
 obtain ⟨fuel,hf⟩:=hd
 obtain ⟨xs,m,rfl,ex,hlen,hl,hel⟩:=DataW.trod_array ht hf
 rw[hct] at hlen
 obtain ⟨cs,rfl⟩:∃cs,v= .agg cs:=by cases v<;>first | exact ⟨_,rfl⟩ | (simp[Value.cells] at hlen)
 have e0:(Value.agg cs).cells.toList=cs.toList:=by simp[Value.cells]
 rw[e0] at hlen hel
 rw[hc] at hel
 have one:∀i,i<3→∃n,(cs.toList.drop (i*1)).take 1= [.int k n]∧inK k n:=fun i hi=>by
  have h:=hel i hi
  rw[List.getElem?_eq_getElem (by omega)] at h
  obtain ⟨n,h1,_,h2⟩:=DataW.trod_int he h
  exact ⟨n,h1,Oy h2⟩
 obtain ⟨x,hx,kx⟩:=one 0 (by decide)
 obtain ⟨y,hy,ky⟩:=one 1 (by decide)
 obtain ⟨z,hz,kz⟩:=one 2 (by decide)
 refine ⟨x,y,z,⟨kx,ky,kz⟩,?_⟩
 obtain ⟨l⟩:=cs
 simp only at hlen hx hy hz
 match l,hlen with
 | [a,b,c],_=>
  simp at hx hy hz
  subst hx hy hz
  exact .agg _ _ (.cons _ _ _ _ (.val _ kx) (.cons _ _ _ _ (.val _ ky) (.cons _ _ _ _ (.val _ kz) .nil)))
end
end Go.Eng
end
section
namespace Go.Eng
open Go.Shelf
theorem kO {P:Program} {c:Con} {fn:Func} (hf:P.funcs[c.f]? =some fn) (h:∀args K,c.cl args K→∃r,K r∧Tris P c.fresh c.f args r) (hn:(fn.name== "runtime.NumGoroutine")=false:=by kernel_rfl) (hb:fn.body.isSome=true:=by rfl) (hl:(c.lin,c.own,c.hp)=(none,none,none):=by rfl):aD P c:=by
 obtain ⟨b,hb⟩:=Option.isSome_iff_exists.1 hb
 exact Hv hl (Go.Proofs.enters_of hf hn hb) h
theorem triB {P:Program} {Γ:List Con} {A:Anns} {fresh:Bool} {f:FuncId} {fn:Func} {args:List SV} {r:SV} {n:Nat} (hf:P.funcs[f]? =some fn) (hm:fn.ntmps=n) (hΓ:∀c∈Γ,aD P c) (h:body P Γ A fresh fn args r) (hn:Nat.ble args.length n=true:=by rfl) (hb:bare r=true:=by rfl):Tri P fresh f args r:=
 oG hΓ hf (by rw[hm];exact Nat.le_of_ble_eq_true hn) hb h
structure KB (P:Program) (Γ:List Con) (A:Anns) (fresh:Bool) (f:FuncId) (fn:Func) (n:Nat) (args:List SV) (K:SV→Prop):Prop where
 ex:(∀r,body P Γ A fresh fn args r→Nat.ble args.length n=true→bare r=true→Tri P fresh f args r)→∃r,K r∧Tris P fresh f args r
theorem kb {P:Program} {Γ:List Con} {A:Anns} {fresh:Bool} {f:FuncId} {fn:Func} {n:Nat} {args:List SV} {K:SV→Prop} {r:SV} (hK:K r) (h:body P Γ A fresh fn args r) (hn:Nat.ble args.length n=true:=by rfl) (hb:bare r=true:=by rfl) (ht:Tri P fresh f args r→Tris P fresh f args r:=by exact id):KB P Γ A fresh f fn n args K:=⟨fun T=>⟨r,hK,ht (T r h hn hb)⟩⟩
theorem kQ {P:Program} {Γ:List Con} {f:FuncId} {fresh:Bool} {cl:List SV→(SV→Prop)→Prop} {fn:Func} {n:Nat} (A:Anns) (hf:P.funcs[f]? =some fn) (hm:fn.ntmps=n) (hΓ:∀c∈Γ,aD P c) (h:∀args K,cl args K→KB P Γ A fresh f fn n args K) (hn:(fn.name== "runtime.NumGoroutine")=false:=by kernel_rfl) (hb:fn.body.isSome=true:=by rfl):aD P (aI f fresh cl):=
 kO (c:=aI f fresh cl) hf (fun args K hc=>(h args K hc).ex fun r h2 h3 h4=>triB hf hm hΓ h2 h3 h4) hn hb
theorem kn {P:Program}:∀c∈([]:List Con),aD P c:=fun _ h=>absurd h List.not_mem_nil
theorem kc {P:Program} {c:Con} {Γ:List Con} (h:aD P c) (hs:∀x∈Γ,aD P x):∀x∈c::Γ,aD P x:=fun x hx=>(List.mem_cons.1 hx).elim (fun e=>e ▸ h) (hs x)
theorem pI {p:SV→Prop} {s:SV} (h:p s):Pin p:=⟨⟨s,h⟩⟩
theorem pJ {x:SV} {u:List HO} {C:Prop} (h:C):Pinned (x=x) (u=u) C:=.mk rfl rfl h
theorem ZF {p:Prop} (h:p:=by ((conv=>whnf);(repeat' first | exact trivial | rfl | apply And.intro))):p:=h
theorem ZE {p:Prop} (h:p:=by (repeat' first | exact trivial | rfl | exact Nat.one_pos | (refine And.intro ?_ ?_) | omega | ((conv=>whnf);(refine And.intro ?_ ?_)) | ((conv=>whnf);exact trivial))):p:=h
theorem ZEx {p q:Prop} (x:q) (h:q→p:=by (intro x;(repeat' first | exact trivial | rfl | exact Nat.one_pos | exact x | (refine And.intro ?_ ?_) | omega | ((conv=>whnf);(refine And.intro ?_ ?_)) | ((conv=>whnf);exact trivial)))):p:=h x
theorem ZRF {p:Prop} (h:p:=by ((repeat' first | refine ZR ?_ | refine Zg fun _=>?_);(conv=>whnf);(repeat' first | exact trivial | rfl | apply And.intro))):p:=h
theorem ZGF {p:Prop} (h:p:=by ((repeat' first | refine ZG ?_ | refine Zg fun _=>?_);(conv=>whnf);(repeat' first | exact trivial | rfl | apply And.intro))):p:=h
theorem ZHF {p:Prop} (h:p:=by ((repeat' first | refine ZH ?_ | refine Zg fun _=>?_);(conv=>whnf);(repeat' first | exact trivial | rfl | apply And.intro))):p:=h
theorem ZPF {p:Prop} (h:p:=by ((repeat' first | refine ZP ?_ | refine Zg fun _=>?_);(conv=>whnf);(repeat' first | exact trivial | rfl | apply And.intro))):p:=h
theorem ZNF {p:Prop} (h:p:=by ((repeat' first | refine ZN ?_ | refine Zg fun _=>?_);(conv=>whnf);(repeat' first | exact trivial | rfl | apply And.intro))):p:=h
theorem ZXF {p:Prop} (h:p:=by ((repeat' first | refine ZX ?_ | refine Zg fun _=>?_);(conv=>whnf);(repeat' first | exact trivial | rfl | apply And.intro))):p:=h
theorem ZFx {p q:Prop} (x:q) (h:q→p:=by (intro x;(conv=>whnf);(repeat' first | exact trivial | rfl | exact x | apply And.intro))):p:=h x
theorem ZRx {p q:Prop} (x:q) (h:q→p:=by (intro x;(repeat' first | refine ZR ?_ | refine Zg fun _=>?_);(conv=>whnf);(repeat' first | exact trivial | rfl | exact x | apply And.intro))):p:=h x
theorem ZGx {p q:Prop} (x:q) (h:q→p:=by (intro x;(repeat' first | refine ZG ?_ | refine Zg fun _=>?_);(conv=>whnf);(repeat' first | exact trivial | rfl | exact x | apply And.intro))):p:=h x
theorem ZHx {p q:Prop} (x:q) (h:q→p:=by (intro x;(repeat' first | refine ZH ?_ | refine Zg fun _=>?_);(conv=>whnf);(repeat' first | exact trivial | rfl | exact x | apply And.intro))):p:=h x
end Go.Eng
end
section
namespace IB
def valB (B:Nat):List Int→Int
 | []=>0
 | x::r=>x+B*valB B r
def InB (B:Nat) (l:List Int):Prop:=∀x∈l,0≤x∧x<B
theorem InB.nil {B:Nat}:InB B []:=fun x h=>by simp at h
theorem InB.cons {B:Nat} {x:Int} {l:List Int}:InB B (x::l)↔(0≤x∧x<B)∧InB B l:=by
 unfold InB;simp
theorem InB.append {B:Nat} {l m:List Int}:InB B (l++m)↔InB B l∧InB B m:=by
 unfold InB
 constructor
 ·intro h;exact ⟨fun x hx=>h x (List.mem_append_left _ hx),fun x hx=>h x (List.mem_append_right _ hx)⟩
 ·rintro ⟨h1,h2⟩ x hx
  rcases List.mem_append.1 hx with h | h
  ·exact h1 x h
  ·exact h2 x h
theorem InB.get {B:Nat} {l:List Int} (h:InB B l) {i:Nat} (hi:i<l.length):0≤l.getD i 0∧l.getD i 0<B:=by
 have e:l.getD i 0=l[i]:=by simp[List.getD_eq_getElem?_getD,hi]
 rw[e];exact h _ (List.getElem_mem hi)
theorem InB.getD0 {B:Nat} (hB:0<B) {l:List Int} (h:InB B l) (i:Nat):0≤l.getD i 0∧l.getD i 0<B:=by
 by_cases hi:i<l.length
 ·exact h.get hi
 ·have e:l.getD i 0=0:=by rw[List.getD_eq_getElem?_getD,List.getElem?_eq_none (by omega)];rfl
  rw[e];omega
theorem aX {B:Nat}:∀ {l:List Int},InB B l→0≤valB B l
 | [],_=>Int.le_refl _
 | x::r,h=>by
  obtain ⟨h1,h2⟩:=InB.cons.1 h
  have:=aX h2
  have:0≤(B:Int)*valB B r:=Int.mul_nonneg (by omega) this
  simp only[valB];omega
theorem kU {B:Nat}:∀ {l:List Int},InB B l→valB B l<(B:Int)^l.length
 | [],_=>by simp[valB]
 | x::r,h=>by
  obtain ⟨h1,h2⟩:=InB.cons.1 h
  have h3:=kU h2
  have h4:(B:Int)*(valB B r+1)≤B*B^r.length:=Int.mul_le_mul_of_nonneg_left (by omega) (by omega)
  rw[Int.mul_add,Int.mul_one] at h4
  simp only[valB,List.length_cons]
  rw[Int.pow_succ,Int.mul_comm (_ ^ _)]
  omega
theorem fQ {B:Nat} (m:List Int):∀l:List Int,valB B (l++m)=valB B l+(B:Int)^l.length*valB B m
 | []=>by simp[valB]
 | x::r=>by
  simp only[List.cons_append,valB,List.length_cons]
  rw[fQ m r,Int.mul_add,Int.pow_succ,Int.mul_comm (_ ^ _) (B:Int),Int.mul_assoc]
  omega
theorem kB {B:Nat} (l:List Int) (x:Int):valB B (l++ [x])=valB B l+(B:Int)^l.length*x:=by
 rw[fQ];simp[valB]
theorem lP {B:Nat} (n:Nat):valB B (List.replicate n 0)=0:=by
 induction n with
 | zero=>rfl
 | succ n ih=>rw[List.replicate_succ];simp[valB,ih]
def aA (B:Nat) (n:Nat):List Int:=if h:2≤B∧0<n then ((n%B:Nat):Int)::aA B (n/B) else []
termination_by n
decreasing_by exact Nat.div_lt_self h.2 (by omega)
theorem aW (B:Nat):aA B 0= []:=by rw[aA,dif_neg (by omega)]
theorem uB {B n:Nat} (hB:2≤B) (hn:0<n):aA B n=((n%B:Nat):Int)::aA B (n/B):=by rw[aA,dif_pos ⟨hB,hn⟩]
theorem aN {B:Nat} (hB:2≤B):∀n:Nat,InB B (aA B n):=by
 intro n
 induction n using Nat.strongRecOn with
 | _ n ih=>
  by_cases hn:0<n
  ·rw[uB hB hn,InB.cons]
   have:=Nat.mod_lt n (show 0<B by omega)
   exact ⟨⟨by omega,by omega⟩,ih _ (Nat.div_lt_self hn (by omega))⟩
  ·obtain rfl:n=0:=by omega
   rw[aW];exact InB.nil
theorem cJ {B:Nat} (hB:2≤B):∀n:Nat,valB B (aA B n)=n:=by
 intro n
 induction n using Nat.strongRecOn with
 | _ n ih=>
  by_cases hn:0<n
  ·rw[uB hB hn]
   simp only[valB]
   rw[ih _ (Nat.div_lt_self hn (by omega))]
   have:=Nat.mod_add_div n B
   exact_mod_cast this
  ·obtain rfl:n=0:=by omega
   rw[aW];rfl
theorem gY {B n:Nat} (hB:2≤B):aA B n= []↔n=0:=by
 constructor
 ·intro h
  have:=cJ hB n
  rw[h] at this
  simp[valB] at this
  omega
 ·rintro rfl;exact aW B
theorem yZ {B:Nat} (hB:2≤B):∀ {l:List Int},InB B l→(∀h:l≠ [],l.getLast h≠0)→l=aA B (valB B l).toNat
 | [],_,_=>by simp[valB,aW]
 | x::r,h,hl=>by
  obtain ⟨h1,h2⟩:=InB.cons.1 h
  obtain ⟨a,rfl⟩:=Int.eq_ofNat_of_zero_le h1.1
  have ha:a<B:=by omega
  have hv:=aX h2
  obtain ⟨b,hb⟩:=Int.eq_ofNat_of_zero_le hv
  have e:(valB B ((a:Int)::r)).toNat=a+B*b:=by
   simp only[valB];rw[hb]
   have:(a:Int)+(B:Int)*(b:Int)=((a+B*b:Nat):Int):=by simp
   show ((a:Int)+(B:Int)*(b:Int)).toNat= _
   rw[this];exact Int.toNat_natCast _
  rw[e]
  have hpos:0<a+B*b:=by
   cases r with
   | nil=>
    have:=hl (by simp)
    simp at this
    omega
   | cons y s=>
    have ih:=yZ hB h2 (fun hne=>by have:=hl (by simp);simpa using this)
    have:b≠0:=fun h0=>by
     subst h0
     rw[hb] at ih
     rw[Int.toNat_natCast,aW] at ih;cases ih
    have:=Nat.mul_pos (show 0<B by omega) (Nat.pos_of_ne_zero this)
    omega
  rw[uB hB hpos]
  have e1:(a+B*b)%B=a:=by rw[Nat.add_mul_mod_self_left,Nat.mod_eq_of_lt ha]
  have e2:(a+B*b)/B=b:=by rw[Nat.add_mul_div_left _ _ (by omega),Nat.div_eq_of_lt ha,Nat.zero_add]
  rw[e1,e2]
  have ih:=yZ hB h2 (fun hne=>by
   have:=hl (by simp)
   rw[List.getLast_cons hne] at this
   exact this)
  rw[hb] at ih
  rw[Int.toNat_natCast] at ih
  rw[← ih]
def bU (l:List Int):List Int:=(l.reverse.dropWhile (· ==0)).reverse
theorem dJ (l:List Int):bU (l++ [0])=bU l:=by simp[bU]
theorem jL (l:List Int) (x:Int) (h:x≠0):bU (l++ [x])=l++ [x]:=by simp[bU,h]
theorem uC (P:List Int→Prop) (h0:P []) (h1:∀l x,P l→P (l++ [x])) (l:List Int):P l:=by
 have:∀n (l:List Int),l.length=n→P l:=by
  intro n
  induction n with
  | zero=>intro l hl;rw[List.length_eq_zero_iff.1 hl];exact h0
  | succ n ih=>
   intro l hl
   have hne:l≠ []:=fun e=>by rw[e] at hl;simp at hl
   rw[← List.dropLast_concat_getLast hne]
   exact h1 _ _ (ih _ (by simp[hl]))
 exact this _ l rfl
theorem aAa {B:Nat} {l:List Int}:InB B l→InB B (bU l):=by
 refine uC (fun l=>InB B l→InB B (bU l)) (fun h=>h) (fun l x ih h=>?_) l
 obtain ⟨h1,h2⟩:=InB.append.1 h
 by_cases e:x=0
 ·subst e;rw[dJ];exact ih h1
 ·rw[jL _ _ e];exact h
theorem Vi {B:Nat} (l:List Int):valB B (bU l)=valB B l:=by
 refine uC (fun l=>valB B (bU l)=valB B l) rfl (fun l x ih=>?_) l
 by_cases e:x=0
 ·subst e;rw[dJ,kB,ih];simp
 ·rw[jL _ _ e]
theorem Ck (l:List Int):∀h:bU l≠ [],(bU l).getLast h≠0:=by
 refine uC (fun l=>∀h:bU l≠ [],(bU l).getLast h≠0) (fun h=>(h rfl).elim) (fun l x ih=>?_) l
 by_cases e:x=0
 ·subst e;simp only[dJ];exact ih
 ·intro h;simp only[jL _ _ e];simp[e]
theorem cA {B:Nat} (hB:2≤B) {l:List Int} (h:InB B l):bU l=aA B (valB B l).toNat:=by
 rw[← Vi l]
 exact yZ hB (aAa h) (Ck l)
theorem mW {B:Nat} (hB:2≤B) (n:Nat):∀h:aA B n≠ [],(aA B n).getLast h≠0:=by
 have h1:=cA hB (aN hB n)
 rw[cJ hB,Int.toNat_natCast] at h1
 rw[← h1];exact Ck _
end IB
end
section
namespace IB
def valN (B:Nat) (l:List Int):Nat→Int
 | 0=>0
 | k+1=>valN B l k+(B:Int)^k*l.getD k 0
theorem jM (B:Nat) (l:List Int):∀k,k≤l.length→valN B l k=valB B (l.take k)
 | 0,_=>by simp[valN,valB]
 | k+1,h=>by
  have e:l.getD k 0=l[k]:=by simp[List.getD_eq_getElem?_getD,show k<l.length by omega]
  rw[valN,jM B l k (by omega),List.take_succ_eq_append_getElem (show k<l.length by omega),kB,e,List.length_take,Nat.min_eq_left (by omega)]
theorem dK (B:Nat) (l:List Int):∀k,l.length≤k→valN B l k=valB B l
 | 0,h=>by
  have:l= []:=List.length_eq_zero_iff.1 (by omega)
  subst this;rfl
 | k+1,h=>by
  by_cases e:l.length=k+1
  ·rw[jM B l (k+1) (by omega),List.take_of_length_le (by omega)]
  ·have e2:l.getD k 0=0:=by rw[List.getD_eq_getElem?_getD,List.getElem?_eq_none (by omega)];rfl
   rw[valN,e2,dK B l k (by omega)];simp
def addK (B:Nat) (a b:List Int):Nat→List Int × Int
 | 0=>([],0)
 | k+1=>((addK B a b k).1++ [(a.getD k 0+b.getD k 0+(addK B a b k).2)%B],(a.getD k 0+b.getD k 0+(addK B a b k).2)/B)
def subK (B:Nat) (a b:List Int):Nat→List Int × Int
 | 0=>([],0)
 | k+1=>((subK B a b k).1++ [if 0≤a.getD k 0-b.getD k 0-(subK B a b k).2 then a.getD k 0-b.getD k 0-(subK B a b k).2 else a.getD k 0-b.getD k 0-(subK B a b k).2+B],
   if 0≤a.getD k 0-b.getD k 0-(subK B a b k).2 then 0 else 1)
theorem dF {B:Nat} (hB:2≤B) (k:Nat):0<(B:Int)^k:=Int.pow_pos (by omega)
theorem jN {B:Nat} (hB:2≤B) {a b:List Int} (ha:InB B a) (hb:InB B b):∀k,(addK B a b k).1.length=k∧InB B (addK B a b k).1∧(0≤(addK B a b k).2∧(addK B a b k).2≤1)∧
  valB B (addK B a b k).1+(B:Int)^k*(addK B a b k).2=valN B a k+valN B b k
 | 0=>⟨rfl,InB.nil,by simp[addK],by simp[addK,valB,valN]⟩
 | k+1=>by
  obtain ⟨h1,h2,h3,h4⟩:=jN hB ha hb k
  have g1:=ha.getD0 (by omega) k
  have g2:=hb.getD0 (by omega) k
  simp only[addK]
  generalize (addK B a b k).1=o at h1 h2 h4 ⊢
  generalize (addK B a b k).2=c at h3 h4 ⊢
  have hm:=Int.emod_nonneg (a.getD k 0+b.getD k 0+c) (show (B:Int)≠0 by omega)
  have hm2:=Int.emod_lt_of_pos (a.getD k 0+b.getD k 0+c) (show 0<(B:Int) by omega)
  have hd:=Int.emod_add_mul_ediv (a.getD k 0+b.getD k 0+c) B
  have hd0:0≤(a.getD k 0+b.getD k 0+c)/B:=Int.ediv_nonneg (by omega) (by omega)
  have hd1:(a.getD k 0+b.getD k 0+c)/B<2:=Int.ediv_lt_of_lt_mul (by omega) (by omega)
  refine ⟨by simp[h1],InB.append.2 ⟨h2,InB.cons.2 ⟨⟨hm,hm2⟩,InB.nil⟩⟩,⟨hd0,by omega⟩,?_⟩
  rw[kB,h1,valN,valN,Int.pow_succ,Int.mul_assoc]
  have e:(B:Int)^k*((a.getD k 0+b.getD k 0+c)%B)+(B:Int)^k*((B:Int)*((a.getD k 0+b.getD k 0+c)/B))=(B:Int)^k*a.getD k 0+(B:Int)^k*b.getD k 0+(B:Int)^k*c:=by
   rw[← Int.mul_add,hd,Int.mul_add,Int.mul_add]
  omega
theorem pT {B:Nat} (hB:2≤B) {a b:List Int} (ha:InB B a) (hb:InB B b):∀k,(subK B a b k).1.length=k∧InB B (subK B a b k).1∧(0≤(subK B a b k).2∧(subK B a b k).2≤1)∧
  valB B (subK B a b k).1-(B:Int)^k*(subK B a b k).2=valN B a k-valN B b k
 | 0=>⟨rfl,InB.nil,by simp[subK],by simp[subK,valB,valN]⟩
 | k+1=>by
  obtain ⟨h1,h2,h3,h4⟩:=pT hB ha hb k
  have g1:=ha.getD0 (by omega) k
  have g2:=hb.getD0 (by omega) k
  simp only[subK]
  generalize (subK B a b k).1=o at h1 h2 h4 ⊢
  generalize (subK B a b k).2=c at h3 h4 ⊢
  by_cases hn:0≤a.getD k 0-b.getD k 0-c
  ·rw[if_pos hn,if_pos hn]
   refine ⟨by simp[h1],InB.append.2 ⟨h2,InB.cons.2 ⟨⟨hn,by omega⟩,InB.nil⟩⟩,by omega,?_⟩
   rw[kB,h1,valN,valN,Int.mul_sub,Int.mul_sub]
   omega
  ·rw[if_neg hn,if_neg hn]
   refine ⟨by simp[h1],InB.append.2 ⟨h2,InB.cons.2 ⟨⟨by omega,by omega⟩,InB.nil⟩⟩,by omega,?_⟩
   rw[kB,h1,valN,valN,Int.mul_add,Int.mul_sub,Int.mul_sub,Int.pow_succ]
   omega
theorem eJ {B:Nat} (hB:2≤B) {m n:Nat} (h:m≤n):(B:Int)^m≤(B:Int)^n:=by
 have:B^m≤B^n:=Nat.pow_le_pow_right (by omega) h
 exact_mod_cast this
theorem eK {B:Nat} (hB:2≤B) {l:List Int} (h:InB B l) {n:Nat} (hn:l.length≤n):valB B l<(B:Int)^n:=Int.lt_of_lt_of_le (kU h) (eJ hB hn)
theorem Vl {B:Nat} (hB:2≤B) {a b:List Int} (ha:InB B a) (hb:InB B b) {n:Nat} (h1:a.length≤n) (h2:b.length≤n):bU (addK B a b (n+1)).1=aA B (valB B a+valB B b).toNat:=by
 obtain ⟨l1,l2,l3,l4⟩:=jN hB ha hb (n+1)
 rw[dK _ _ _ (by omega),dK _ _ _ (by omega)] at l4
 have v1:=eK hB ha h1
 have v2:=eK hB hb h2
 have v3:=aX l2
 have hc:(addK B a b (n+1)).2=0:=by
  by_cases e:(addK B a b (n+1)).2=0
  ·exact e
  ·have e1:(addK B a b (n+1)).2=1:=by omega
   rw[e1,Int.mul_one,Int.pow_succ] at l4
   have:(B:Int)^n*2≤(B:Int)^n*B:=Int.mul_le_mul_of_nonneg_left (by omega) (Int.le_of_lt (dF hB n))
   omega
 rw[hc,Int.mul_zero,Int.add_zero] at l4
 rw[cA hB l2,l4]
theorem Jn {B:Nat} (hB:2≤B) {a b:List Int} (ha:InB B a) (hb:InB B b) {n:Nat} (h1:a.length≤n) (h2:b.length≤n) (hle:valB B b≤valB B a):bU (subK B a b n).1=aA B (valB B a-valB B b).toNat∧(subK B a b n).2=0:=by
 obtain ⟨l1,l2,l3,l4⟩:=pT hB ha hb n
 rw[dK _ _ _ h1,dK _ _ _ h2] at l4
 have v3:=kU l2
 rw[l1] at v3
 have hc:(subK B a b n).2=0:=by
  by_cases e:(subK B a b n).2=0
  ·exact e
  ·have e1:(subK B a b n).2=1:=by omega
   rw[e1,Int.mul_one] at l4
   omega
 rw[hc,Int.mul_zero,Int.sub_zero] at l4
 exact ⟨by rw[cA hB l2,l4],hc⟩
end IB
end
section
namespace IB
theorem sR {B:Nat} (y:Int):∀(l:List Int) (j:Nat),j<l.length→valB B (l.set j y)=valB B l+(B:Int)^j*(y-l.getD j 0)
 | [],j,h=>by simp at h
 | x::r,0,h=>by simp only[List.set_cons_zero,valB,List.getD_cons_zero,Int.pow_zero,Int.one_mul];omega
 | x::r,j+1,h=>by
  simp only[List.set_cons_succ,valB,List.getD_cons_succ]
  rw[sR y r j (by simpa using h),Int.mul_add,Int.pow_succ,Int.mul_comm (_ ^ _) (B:Int),Int.mul_assoc]
  omega
theorem eM (l:List Int) (k:Nat) (x:Int) (h:k<l.length) (i:Nat):(l.set k x).getD i 0=if i=k then x else l.getD i 0:=by
 rw[List.getD_eq_getElem?_getD,List.getElem?_set]
 by_cases e:i=k
 ·subst e;simp[h]
 ·rw[if_neg (fun e'=>e e'.symm),if_neg e,List.getD_eq_getElem?_getD]
theorem uE {B:Nat} {l:List Int} (h:InB B l) (k:Nat) {x:Int} (hx:0≤x∧x<B):InB B (l.set k x):=fun y hy=>by
 rcases List.mem_or_eq_of_mem_set hy with h1 | h1
 ·exact h y h1
 ·rw[h1];exact hx
theorem dT (l:List Int) (i:Nat) (h:l.length≤i):l.getD i 0=0:=by rw[List.getD_eq_getElem?_getD,List.getElem?_eq_none h];rfl
def mulK (B:Nat) (x:Int) (b:List Int) (i:Nat) (out:List Int):Nat→List Int × Int
 | 0=>(out,0)
 | k+1=>((mulK B x b i out k).1.set (i+k) (((mulK B x b i out k).1.getD (i+k) 0+x*b.getD k 0+(mulK B x b i out k).2)%B),((mulK B x b i out k).1.getD (i+k) 0+x*b.getD k 0+(mulK B x b i out k).2)/B)
def mulR (B:Nat) (a b out:List Int):Nat→List Int
 | 0=>out
 | i+1=>(mulK B (a.getD i 0) b i (mulR B a b out i) (b.length+1)).1
theorem hU {B:Nat} (hB:2≤B) {x:Int} (hx:0≤x∧x<B) {b:List Int} (hb:InB B b) {i:Nat} {out:List Int} (ho:InB B out):∀k,i+k≤out.length→(mulK B x b i out k).1.length=out.length∧InB B (mulK B x b i out k).1∧
  (0≤(mulK B x b i out k).2∧(mulK B x b i out k).2<B)∧valB B (mulK B x b i out k).1+(B:Int)^ (i+k)*(mulK B x b i out k).2=valB B out+(B:Int)^i*(x*valN B b k)∧
  (∀j,i+k≤j→(mulK B x b i out k).1.getD j 0=out.getD j 0)∧∀j,j<i→(mulK B x b i out k).1.getD j 0=out.getD j 0
 | 0,_=>⟨rfl,ho,by simp only[mulK];omega,by simp[mulK,valN],fun _ _=>rfl,fun _ _=>rfl⟩
 | k+1,hk=>by
  obtain ⟨h1,h2,h3,h4,h5,h6⟩:=hU hB hx hb (i:=i) ho k (by omega)
  have g1:=hb.getD0 (by omega) k
  have g2:=h2.getD0 (by omega) (i+k)
  simp only[mulK]
  generalize (mulK B x b i out k).1=o at h1 h2 h4 h5 h6 g2 ⊢
  generalize (mulK B x b i out k).2=c at h3 h4 ⊢
  have hp0:0≤x*b.getD k 0:=Int.mul_nonneg hx.1 g1.1
  have hp1:x*b.getD k 0≤((B:Int)-1)*((B:Int)-1):=Int.mul_le_mul (by omega) (by omega) g1.1 (by omega)
  have hsq:((B:Int)-1)*((B:Int)-1)=(B:Int)*B-B-B+1:=by rw[Int.sub_mul,Int.mul_sub,Int.mul_one,Int.one_mul];omega
  rw[hsq] at hp1
  have hm:=Int.emod_nonneg (o.getD (i+k) 0+x*b.getD k 0+c) (show (B:Int)≠0 by omega)
  have hm2:=Int.emod_lt_of_pos (o.getD (i+k) 0+x*b.getD k 0+c) (show 0<(B:Int) by omega)
  have hd:=Int.emod_add_mul_ediv (o.getD (i+k) 0+x*b.getD k 0+c) B
  have hd0:0≤(o.getD (i+k) 0+x*b.getD k 0+c)/B:=Int.ediv_nonneg (by omega) (by omega)
  have hd1:(o.getD (i+k) 0+x*b.getD k 0+c)/B<B:=Int.ediv_lt_of_lt_mul (by omega) (by omega)
  generalize (o.getD (i+k) 0+x*b.getD k 0+c)%B=m at hm hm2 hd ⊢
  generalize (o.getD (i+k) 0+x*b.getD k 0+c)/B=d at hd hd0 hd1 ⊢
  refine ⟨by rw[List.length_set,h1],uE h2 _ ⟨hm,hm2⟩,⟨hd0,hd1⟩,?_,fun j hj=>?_,fun j hj=>?_⟩
  ·rw[sR _ _ _ (by omega),valN,← Nat.add_assoc,Int.pow_succ]
   have e1:x*(valN B b k+(B:Int)^k*b.getD k 0)=x*valN B b k+(B:Int)^k*(x*b.getD k 0):=by
    rw[Int.mul_add,← Int.mul_assoc,← Int.mul_assoc,Int.mul_comm x ((B:Int)^k)]
   have e2:(B:Int)^i*((B:Int)^k*(x*b.getD k 0))=(B:Int)^ (i+k)*(x*b.getD k 0):=by rw[← Int.mul_assoc,Int.pow_add]
   rw[e1,Int.mul_add,e2,Int.mul_assoc]
   have e3:(B:Int)^ (i+k)*(m-o.getD (i+k) 0)+(B:Int)^ (i+k)*((B:Int)*d)=(B:Int)^ (i+k)*(x*b.getD k 0)+(B:Int)^ (i+k)*c:=by
    rw[← Int.mul_add,← Int.mul_add]
    congr 1
    omega
   omega
  ·rw[eM _ _ _ (by omega),if_neg (by omega),h5 j (by omega)]
  ·rw[eM _ _ _ (by omega),if_neg (by omega),h6 j hj]
theorem Jo {B:Nat} (hB:2≤B) {x:Int} (hx:0≤x∧x<B) {b:List Int} (hb:InB B b) {i:Nat} {out:List Int} (ho:InB B out) (hl:i+b.length+1≤out.length) (hz:out.getD (i+b.length) 0=0):
  (mulK B x b i out (b.length+1)).2=0∧valB B (mulK B x b i out (b.length+1)).1=valB B out+(B:Int)^i*(x*valB B b):=by
 obtain ⟨h1,h2,h3,h4,h5,h6⟩:=hU hB hx hb (i:=i) ho b.length (by omega)
 obtain ⟨g1,g2,g3,g4,g5,g6⟩:=hU hB hx hb (i:=i) ho (b.length+1) (by omega)
 have hc:(mulK B x b i out (b.length+1)).2=0:=by
  simp only[mulK]
  rw[h5 _ (Nat.le_refl _),hz,dT b b.length (Nat.le_refl _),Int.mul_zero,Int.zero_add,Int.zero_add]
  exact Int.ediv_eq_zero_of_lt h3.1 h3.2
 rw[hc,Int.mul_zero,Int.add_zero,dK _ _ _ (by omega)] at g4
 exact ⟨hc,g4⟩
theorem pU {B:Nat} (hB:2≤B) {a b:List Int} (ha:InB B a) (hb:InB B b) {n:Nat} (hn:a.length+b.length+1≤n):∀i,i≤a.length→(mulR B a b (List.replicate n 0) i).length=n∧InB B (mulR B a b (List.replicate n 0) i)∧
  valB B (mulR B a b (List.replicate n 0) i)=valN B a i*valB B b∧∀j,i+b.length≤j→(mulR B a b (List.replicate n 0) i).getD j 0=0
 | 0,_=>by
  refine ⟨by simp[mulR],fun x hx=>?_,by simp[mulR,lP,valN],fun j hj=>?_⟩
  ·rw[(List.mem_replicate.1 hx).2];omega
  ·simp only[mulR];rw[List.getD_eq_getElem?_getD,List.getElem?_replicate];split<;>rfl
 | i+1,hi=>by
  obtain ⟨h1,h2,h3,h4⟩:=pU hB ha hb hn i (by omega)
  have hx:=ha.get (show i<a.length by omega)
  simp only[mulR]
  generalize mulR B a b (List.replicate n 0) i=o at h1 h2 h3 h4 ⊢
  obtain ⟨g1,g2,g3,g4,g5,g6⟩:=hU hB hx hb (i:=i) h2 (b.length+1) (by omega)
  obtain ⟨r1,r2⟩:=Jo hB hx hb (i:=i) h2 (by omega) (h4 _ (Nat.le_refl _))
  refine ⟨by rw[g1,h1],g2,?_,fun j hj=>by rw[g5 j (by omega)];exact h4 j (by omega)⟩
  rw[r2,h3,valN,Int.add_mul,Int.mul_assoc]
theorem Jp {B:Nat} (hB:2≤B) {a b:List Int} (ha:InB B a) (hb:InB B b) {n:Nat} (hn:a.length+b.length+1≤n):bU (mulR B a b (List.replicate n 0) a.length)=aA B (valB B a*valB B b).toNat:=by
 obtain ⟨h1,h2,h3,h4⟩:=pU hB ha hb hn a.length (Nat.le_refl _)
 rw[cA hB h2,h3,dK _ _ _ (Nat.le_refl _)]
end IB
end
section
namespace IB
def divK (B:Nat) (d:Int) (a:List Int):Nat→List Int × Int
 | 0=>(List.replicate a.length 0,0)
 | m+1=>((divK B d a m).1.set (a.length-1-m) ((a.getD (a.length-1-m) 0+(divK B d a m).2*B)/d),(a.getD (a.length-1-m) 0+(divK B d a m).2*B)%d)
theorem bB (l:List Int) (i:Nat) (h:i<l.length):l.drop i=l.getD i 0::l.drop (i+1):=by
 rw[List.drop_eq_getElem_cons h]
 congr 1
 simp[List.getD_eq_getElem?_getD,h]
theorem jO {B:Nat} (hB:2≤B) {d:Int} (hd:0<d) {a:List Int} (ha:InB B a):∀m,m≤a.length→(divK B d a m).1.length=a.length∧InB B (divK B d a m).1∧(0≤(divK B d a m).2∧(divK B d a m).2<d)∧
  valB B ((divK B d a m).1.drop (a.length-m))*d+(divK B d a m).2=valB B (a.drop (a.length-m))
 | 0,_=>by
  refine ⟨by simp[divK],fun x hx=>?_,by simp only[divK];omega,?_⟩
  ·rw[(List.mem_replicate.1 hx).2];omega
  ·simp only[divK]
   rw[List.drop_eq_nil_of_le (by simp),List.drop_eq_nil_of_le (by omega)];simp[valB]
 | m+1,hm=>by
  obtain ⟨h1,h2,h3,h4⟩:=jO hB hd ha m (by omega)
  obtain ⟨i,hi⟩:∃i,a.length-1-m=i:=⟨_,rfl⟩
  have e1:a.length-m=i+1:=by omega
  have e2:a.length-(m+1)=i:=by omega
  have g1:=ha.get (show i<a.length by omega)
  simp only[divK]
  rw[hi,e2]
  rw[e1] at h4
  generalize (divK B d a m).1=q at h1 h2 h4 ⊢
  generalize (divK B d a m).2=r at h3 h4 ⊢
  have hn0:0≤r*B:=Int.mul_nonneg h3.1 (by omega)
  have hn1:r*B≤(d-1)*B:=Int.mul_le_mul_of_nonneg_right (by omega) (by omega)
  rw[Int.sub_mul,Int.one_mul] at hn1
  have hm0:=Int.emod_nonneg (a.getD i 0+r*B) (show d≠0 by omega)
  have hm1:=Int.emod_lt_of_pos (a.getD i 0+r*B) hd
  have hdv:=Int.emod_add_mul_ediv (a.getD i 0+r*B) d
  have hq0:0≤(a.getD i 0+r*B)/d:=Int.ediv_nonneg (by omega) (by omega)
  have hq1:(a.getD i 0+r*B)/d<B:=Int.ediv_lt_of_lt_mul hd (by rw[Int.mul_comm (B:Int) d];omega)
  generalize (a.getD i 0+r*B)/d=y at hdv hq0 hq1 ⊢
  generalize (a.getD i 0+r*B)%d=z at hdv hm0 hm1 ⊢
  refine ⟨by rw[List.length_set,h1],uE h2 _ ⟨hq0,hq1⟩,⟨hm0,hm1⟩,?_⟩
  have e3:(q.set i y).drop i=y::q.drop (i+1):=by
   rw[bB _ _ (by rw[List.length_set];omega),eM _ _ _ (by omega),if_pos rfl,List.drop_set_of_lt (by omega)]
  rw[e3,bB a i (by omega)]
  simp only[valB]
  rw[← h4,Int.add_mul,Int.mul_add,Int.mul_assoc,Int.mul_comm y d,Int.mul_comm (B:Int) r]
  omega
theorem Jq {B:Nat} (hB:2≤B) {d:Int} (hd:0<d) (hdB:d<B) {a:List Int} (ha:InB B a):
  bU (divK B d a a.length).1=aA B (valB B a/d).toNat∧(divK B d a a.length).2=valB B a%d∧bU [(divK B d a a.length).2]=aA B (valB B a%d).toNat:=by
 obtain ⟨h1,h2,h3,h4⟩:=jO hB hd ha a.length (Nat.le_refl _)
 rw[Nat.sub_self,List.drop_zero,List.drop_zero] at h4
 have h5:valB B a/d=valB B (divK B d a a.length).1∧valB B a%d=(divK B d a a.length).2:=by
  rw[Int.ediv_emod_unique hd]
  exact ⟨by rw[Int.add_comm,Int.mul_comm];exact h4,h3.1,h3.2⟩
 refine ⟨by rw[cA hB h2,h5.1],h5.2.symm,?_⟩
 rw[cA hB (InB.cons.2 ⟨⟨h3.1,by omega⟩,InB.nil⟩),h5.2]
 simp[valB]
theorem dC {B:Nat} (hB:2≤B) {n:Nat} (hn:0<n):(B:Int)^ ((aA B n).length-1)≤n∧(n:Int)<(B:Int)^ (aA B n).length∧0<(aA B n).length:=by
 have h1:=kU (aN hB n)
 have hne:aA B n≠ []:=fun e=>by have:=(gY hB).1 e;omega
 have hl:=mW hB n hne
 have hpos:0<(aA B n).length:=List.length_pos_iff.2 hne
 have h2:=cJ hB n
 rw[h2] at h1
 refine ⟨?_,h1,hpos⟩
 have hin:=aN hB n
 rw[← List.dropLast_concat_getLast hne] at h2 hin
 obtain ⟨i1,i2⟩:=InB.append.1 hin
 obtain ⟨i3,_⟩:=InB.cons.1 i2
 rw[kB,List.length_dropLast] at h2
 have h3:=aX i1
 have h4:(B:Int)^ ((aA B n).length-1)*1≤(B:Int)^ ((aA B n).length-1)*(aA B n).getLast hne:=Int.mul_le_mul_of_nonneg_left (by omega) (Int.le_of_lt (dF hB _))
 omega
theorem fX {B:Nat} (hB:2≤B) {m n:Nat} (h:(aA B m).length<(aA B n).length):m<n:=by
 have hn:0<n:=by
  rcases Nat.eq_zero_or_pos n with e | e
  ·subst e;rw[aW] at h;simp at h
  ·exact e
 obtain ⟨h1,h2,h3⟩:=dC hB hn
 rcases Nat.eq_zero_or_pos m with e | e
 ·omega
 ·obtain ⟨g1,g2,g3⟩:=dC hB e
  have:=eJ hB (show (aA B m).length≤(aA B n).length-1 by omega)
  omega
theorem wG {B:Nat} (hB:2≤B) {a b:List Int} (ha:InB B a) (hb:InB B b) (hl:a.length=b.length) {i:Nat} (hi:i<a.length) (heq:∀j,i<j→j<a.length→a.getD j 0=b.getD j 0) (hlt:a.getD i 0<b.getD i 0):valB B a<valB B b:=by
 have e1:valB B a=valN B a i+(B:Int)^i*valB B (a.drop i):=by
  rw[jM B a i (by omega)]
  have:=fQ (B:=B) (a.drop i) (a.take i)
  rw[List.take_append_drop,List.length_take,Nat.min_eq_left (by omega)] at this
  exact this
 have e2:valB B b=valN B b i+(B:Int)^i*valB B (b.drop i):=by
  rw[jM B b i (by omega)]
  have:=fQ (B:=B) (b.drop i) (b.take i)
  rw[List.take_append_drop,List.length_take,Nat.min_eq_left (by omega)] at this
  exact this
 have e3:a.drop (i+1)=b.drop (i+1):=by
  refine List.ext_getElem (by simp[hl]) fun j h1 h2=>?_
  rw[List.getElem_drop,List.getElem_drop]
  rw[List.length_drop] at h1
  have:=heq (i+1+j) (by omega) (by omega)
  simpa [List.getD_eq_getElem?_getD,show i+1+j<a.length by omega,show i+1+j<b.length by omega] using this
 rw[bB a i hi] at e1
 rw[bB b i (by omega),← e3] at e2
 simp only[valB] at e1 e2
 have v1:valN B a i<(B:Int)^i:=by
  rw[jM B a i (by omega)]
  have:=kU (B:=B) (l:=a.take i) (fun x hx=>ha x (List.mem_of_mem_take hx))
  rwa [List.length_take,Nat.min_eq_left (by omega)] at this
 have v2:0≤valN B b i:=by
  rw[jM B b i (by omega)]
  exact aX (fun x hx=>hb x (List.mem_of_mem_take hx))
 have h1:(B:Int)^i*(a.getD i 0+1)≤(B:Int)^i*b.getD i 0:=Int.mul_le_mul_of_nonneg_left (by omega) (Int.le_of_lt (dF hB i))
 rw[Int.mul_add,Int.mul_one] at h1
 rw[Int.mul_add] at e1 e2
 omega
theorem hZ {a b:List Int} (hl:a.length=b.length) (h:∀j,j<a.length→a.getD j 0=b.getD j 0):a=b:=by
 refine List.ext_getElem hl fun j h1 h2=>?_
 have:=h j h1
 simpa [List.getD_eq_getElem?_getD,h1,h2] using this
end IB
end
section
namespace IB
def bE (B:Nat) (u v:List Int) (j:Nat) (q:Int):Nat→List Int × Int
 | 0=>(u,0)
 | k+1=>
  let n:=(bE B u v j q k).1.getD (j+k) 0-(bE B u v j q k).2-q*v.getD k 0
  let c:=if n<0 then (-n+B-1)/B else 0
  ((bE B u v j q k).1.set (j+k) (n+c*B),c)
theorem iA {B:Nat} (hB:2≤B) {u v:List Int} (hu:InB B u) (hv:InB B v) {j:Nat} {q:Int} (hq:0≤q):∀k,j+k≤u.length→(bE B u v j q k).1.length=u.length∧InB B (bE B u v j q k).1∧
  (0≤(bE B u v j q k).2∧(bE B u v j q k).2≤q+1)∧valB B (bE B u v j q k).1-(B:Int)^ (j+k)*(bE B u v j q k).2=valB B u-(B:Int)^j*(q*valN B v k)∧
  (∀i,j+k≤i→(bE B u v j q k).1.getD i 0=u.getD i 0)∧∀i,i<j→(bE B u v j q k).1.getD i 0=u.getD i 0
 | 0,_=>⟨rfl,hu,by simp only[bE];omega,by simp[bE,valN],fun _ _=>rfl,fun _ _=>rfl⟩
 | k+1,hk=>by
  obtain ⟨h1,h2,h3,h4,h5,h6⟩:=iA hB hu hv (j:=j) hq k (by omega)
  have g1:=hv.getD0 (by omega) k
  have g2:=h2.getD0 (by omega) (j+k)
  simp only[bE]
  generalize (bE B u v j q k).1=o at h1 h2 h4 h5 h6 g2 ⊢
  generalize (bE B u v j q k).2=c at h3 h4 ⊢
  have hp0:0≤q*v.getD k 0:=Int.mul_nonneg hq g1.1
  have hp1:q*v.getD k 0≤q*((B:Int)-1):=Int.mul_le_mul_of_nonneg_left (by omega) hq
  rw[Int.mul_sub,Int.mul_one] at hp1
  obtain ⟨n,hn⟩:∃n,o.getD (j+k) 0-c-q*v.getD k 0=n:=⟨_,rfl⟩
  rw[hn]
  obtain ⟨d,hd⟩:∃d,(if n<0 then (-n+(B:Int)-1)/B else 0)=d:=⟨_,rfl⟩
  rw[hd]
  have hdd:0≤d∧d≤q+1∧0≤n+d*B∧n+d*B<B:=by
   by_cases hneg:n<0
   ·rw[if_pos hneg] at hd
    have e1:=Int.emod_add_mul_ediv (-n+(B:Int)-1) B
    have e2:=Int.emod_nonneg (-n+(B:Int)-1) (show (B:Int)≠0 by omega)
    have e3:=Int.emod_lt_of_pos (-n+(B:Int)-1) (show 0<(B:Int) by omega)
    have e4:0≤(-n+(B:Int)-1)/B:=Int.ediv_nonneg (by omega) (by omega)
    have e5:(-n+(B:Int)-1)/B<q+2:=Int.ediv_lt_of_lt_mul (by omega) (by rw[Int.add_mul];omega)
    rw[hd] at e1 e4 e5
    rw[Int.mul_comm] at e1
    exact ⟨e4,by omega,by omega,by omega⟩
   ·rw[if_neg hneg] at hd
    subst hd
    rw[Int.zero_mul]
    omega
  refine ⟨by rw[List.length_set,h1],uE h2 _ hdd.2.2,⟨hdd.1,hdd.2.1⟩,?_,fun i hi=>?_,fun i hi=>?_⟩
  ·rw[sR _ _ _ (by omega),valN,← Nat.add_assoc,Int.pow_succ]
   have e1:q*(valN B v k+(B:Int)^k*v.getD k 0)=q*valN B v k+(B:Int)^k*(q*v.getD k 0):=by
    rw[Int.mul_add,← Int.mul_assoc,← Int.mul_assoc,Int.mul_comm q ((B:Int)^k)]
   have e2:(B:Int)^j*((B:Int)^k*(q*v.getD k 0))=(B:Int)^ (j+k)*(q*v.getD k 0):=by rw[← Int.mul_assoc,Int.pow_add]
   rw[e1,Int.mul_add,e2,Int.mul_assoc]
   have e3:(B:Int)^ (j+k)*(n+d*B-o.getD (j+k) 0)-(B:Int)^ (j+k)*((B:Int)*d)= -((B:Int)^ (j+k)*(q*v.getD k 0))-(B:Int)^ (j+k)*c:=by
    rw[← Int.mul_sub,← Int.mul_neg,← Int.mul_sub]
    congr 1
    rw[Int.mul_comm d]
    omega
   omega
  ·rw[eM _ _ _ (by omega),if_neg (by omega),h5 i (by omega)]
  ·rw[eM _ _ _ (by omega),if_neg (by omega),h6 i hi]
theorem Po {B:Nat} (hB:2≤B):∀ {a b:List Int},InB B a→InB B b→a.length=b.length→valB B a=valB B b→a=b
 | [],[],_,_,_,_=>rfl
 | x::r,y::s,ha,hb,hl,hv=>by
  obtain ⟨a1,a2⟩:=InB.cons.1 ha
  obtain ⟨b1,b2⟩:=InB.cons.1 hb
  simp only[valB] at hv
  have e1:x=y:=by
   have h1:(x+(B:Int)*valB B r)%B=x:=by rw[Int.add_mul_emod_self_left,Int.emod_eq_of_lt a1.1 a1.2]
   have h2:(y+(B:Int)*valB B s)%B=y:=by rw[Int.add_mul_emod_self_left,Int.emod_eq_of_lt b1.1 b1.2]
   rw[← h1,← h2,hv]
  subst e1
  have e2:valB B r=valB B s:=by
   have:(B:Int)*valB B r=B*valB B s:=by omega
   exact Int.eq_of_mul_eq_mul_left (by omega) this
  rw[Po hB a2 b2 (by simpa using hl) e2]
 | [],_:: _,_,_,hl,_=>by simp at hl
 | _:: _,[],_,_,hl,_=>by simp at hl
theorem Rz {B V W v1 top P Q:Int} (hP:0<P) (hv1:0<v1) (hV:v1*P≤V) (hW:W<(top+1)*P) (hQ0:0≤Q) (hQ:Q*V≤W):Q≤top/v1:=by
 rw[Int.le_ediv_iff_mul_le hv1]
 have h1:Q*(v1*P)≤Q*V:=Int.mul_le_mul_of_nonneg_left hV hQ0
 rw[← Int.mul_assoc] at h1
 have h2:(Q*v1)*P<(top+1)*P:=by omega
 have:=Int.lt_of_mul_lt_mul_right h2 (Int.le_of_lt hP)
 omega
theorem Vm {B V W v1 v2 u2 top q r P Q:Int} (hP:0<P) (hq:0≤q) (hB:0≤B) (hV:(v1*B+v2)*P≤V) (hV0:0≤V) (hW:W<(top*B+u2+1)*P) (htop:top=q*v1+r) (hbig:r*B+u2<q*v2) (hQ:Q*V≤W):Q≤q-1:=by
 apply Classical.byContradiction
 intro hn
 have hle:q≤Q:=by omega
 have h1:q*V≤Q*V:=Int.mul_le_mul_of_nonneg_right hle hV0
 have h2:q*((v1*B+v2)*P)≤q*V:=Int.mul_le_mul_of_nonneg_left hV hq
 rw[← Int.mul_assoc] at h2
 have h3:(q*(v1*B+v2))*P<(top*B+u2+1)*P:=by omega
 have h4:=Int.lt_of_mul_lt_mul_right h3 (Int.le_of_lt hP)
 rw[Int.mul_add,← Int.mul_assoc,htop,Int.add_mul] at h4
 omega
end IB
end
section
namespace IB
theorem uF {B:Nat} (hB:2≤B) {x:Int} (hx:0≤x) {b:List Int} (hb:InB B b) {i:Nat} {out:List Int} (ho:InB B out):∀k,i+k≤out.length→(mulK B x b i out k).1.length=out.length∧InB B (mulK B x b i out k).1∧
  (0≤(mulK B x b i out k).2∧(mulK B x b i out k).2≤x)∧valB B (mulK B x b i out k).1+(B:Int)^ (i+k)*(mulK B x b i out k).2=valB B out+(B:Int)^i*(x*valN B b k)∧
  (∀j,i+k≤j→(mulK B x b i out k).1.getD j 0=out.getD j 0)∧∀j,j<i→(mulK B x b i out k).1.getD j 0=out.getD j 0
 | 0,_=>⟨rfl,ho,by simp only[mulK];omega,by simp[mulK,valN],fun _ _=>rfl,fun _ _=>rfl⟩
 | k+1,hk=>by
  obtain ⟨h1,h2,h3,h4,h5,h6⟩:=uF hB hx hb (i:=i) ho k (by omega)
  have g1:=hb.getD0 (by omega) k
  have g2:=h2.getD0 (by omega) (i+k)
  simp only[mulK]
  generalize (mulK B x b i out k).1=o at h1 h2 h4 h5 h6 g2 ⊢
  generalize (mulK B x b i out k).2=c at h3 h4 ⊢
  have hp0:0≤x*b.getD k 0:=Int.mul_nonneg hx g1.1
  have hp1:x*b.getD k 0≤x*((B:Int)-1):=Int.mul_le_mul_of_nonneg_left (by omega) hx
  rw[Int.mul_sub,Int.mul_one] at hp1
  have hm:=Int.emod_nonneg (o.getD (i+k) 0+x*b.getD k 0+c) (show (B:Int)≠0 by omega)
  have hm2:=Int.emod_lt_of_pos (o.getD (i+k) 0+x*b.getD k 0+c) (show 0<(B:Int) by omega)
  have hd:=Int.emod_add_mul_ediv (o.getD (i+k) 0+x*b.getD k 0+c) B
  have hd0:0≤(o.getD (i+k) 0+x*b.getD k 0+c)/B:=Int.ediv_nonneg (by omega) (by omega)
  have hd1:(o.getD (i+k) 0+x*b.getD k 0+c)/B<x+1:=Int.ediv_lt_of_lt_mul (by omega) (by rw[Int.add_mul];omega)
  generalize (o.getD (i+k) 0+x*b.getD k 0+c)%B=m at hm hm2 hd ⊢
  generalize (o.getD (i+k) 0+x*b.getD k 0+c)/B=d at hd hd0 hd1 ⊢
  refine ⟨by rw[List.length_set,h1],uE h2 _ ⟨hm,hm2⟩,⟨hd0,by omega⟩,?_,fun j hj=>?_,fun j hj=>?_⟩
  ·rw[sR _ _ _ (by omega),valN,← Nat.add_assoc,Int.pow_succ]
   have e1:x*(valN B b k+(B:Int)^k*b.getD k 0)=x*valN B b k+(B:Int)^k*(x*b.getD k 0):=by
    rw[Int.mul_add,← Int.mul_assoc,← Int.mul_assoc,Int.mul_comm x ((B:Int)^k)]
   have e2:(B:Int)^i*((B:Int)^k*(x*b.getD k 0))=(B:Int)^ (i+k)*(x*b.getD k 0):=by rw[← Int.mul_assoc,Int.pow_add]
   rw[e1,Int.mul_add,e2,Int.mul_assoc]
   have e3:(B:Int)^ (i+k)*(m-o.getD (i+k) 0)+(B:Int)^ (i+k)*((B:Int)*d)=(B:Int)^ (i+k)*(x*b.getD k 0)+(B:Int)^ (i+k)*c:=by
    rw[← Int.mul_add,← Int.mul_add]
    congr 1
    omega
   omega
  ·rw[eM _ _ _ (by omega),if_neg (by omega),h5 j (by omega)]
  ·rw[eM _ _ _ (by omega),if_neg (by omega),h6 j hj]
theorem Mm {B:Nat} (hB:2≤B) {u v:List Int} (hu:InB B u) (hv:InB B v) {j:Nat} {q:Int} (hq:0≤q) {k:Nat} (hk:j+k≤u.length):(mulK B q v j (bE B u v j q k).1 k).1=u:=by
 obtain ⟨h1,h2,h3,h4,h5,h6⟩:=iA hB hu hv (j:=j) hq k hk
 generalize (bE B u v j q k).2=c at h3 h4
 obtain ⟨g1,g2,g3,g4,g5,g6⟩:=uF hB hq hv (i:=j) h2 k (by omega)
 generalize (mulK B q v j (bE B u v j q k).1 k).2=c' at g3 g4
 generalize (mulK B q v j (bE B u v j q k).1 k).1=w at g1 g2 g4 g5 g6 ⊢
 generalize (bE B u v j q k).1=u1 at h1 h2 h4 h5 h6 g1 g4 g5 g6
 -- outside the window nothing has changed; within it the values agree but for a multiple
 have e0:valB B w+(B:Int)^ (j+k)*c'=valB B u+(B:Int)^ (j+k)*c:=by omega
 have sp:∀l:List Int,l.length=u.length→valB B l=valB B (l.take (j+k))+(B:Int)^ (j+k)*valB B (l.drop (j+k)):=fun l hl=>by
  have:=fQ (B:=B) (l.drop (j+k)) (l.take (j+k))
  rw[List.take_append_drop,List.length_take,Nat.min_eq_left (by omega)] at this
  exact this
 have ed:w.drop (j+k)=u.drop (j+k):=by
  refine hZ (by simp[g1,h1]) fun i hi=>?_
  have:=g5 (j+k+i) (by omega)
  rw[h5 _ (by omega)] at this
  simpa [List.getD_eq_getElem?_getD,List.getElem?_drop] using this
 have s1:=sp w (by omega)
 have s2:=sp u rfl
 rw[ed] at s1
 have b1:=kU (B:=B) (l:=w.take (j+k)) (fun x hx=>g2 x (List.mem_of_mem_take hx))
 have b2:=kU (B:=B) (l:=u.take (j+k)) (fun x hx=>hu x (List.mem_of_mem_take hx))
 have b3:=aX (B:=B) (l:=w.take (j+k)) (fun x hx=>g2 x (List.mem_of_mem_take hx))
 have b4:=aX (B:=B) (l:=u.take (j+k)) (fun x hx=>hu x (List.mem_of_mem_take hx))
 rw[List.length_take,Nat.min_eq_left (by omega)] at b1 b2
 have hP:=dF hB (j+k)
 have ec:c'=c:=by
  rcases Int.lt_trichotomy c' c with h | h | h
  ·have:(B:Int)^ (j+k)*(c'+1)≤(B:Int)^ (j+k)*c:=Int.mul_le_mul_of_nonneg_left (by omega) (Int.le_of_lt hP)
   rw[Int.mul_add,Int.mul_one] at this
   omega
  ·exact h
  ·have:(B:Int)^ (j+k)*(c+1)≤(B:Int)^ (j+k)*c':=Int.mul_le_mul_of_nonneg_left (by omega) (Int.le_of_lt hP)
   rw[Int.mul_add,Int.mul_one] at this
   omega
 subst ec
 exact Po hB g2 hu (by omega) (by omega)
end IB
end
section
namespace IB
theorem dY {B:Nat} (l:List Int) (j:Nat) (hj:j≤l.length):valB B l=valB B (l.take j)+(B:Int)^j*valB B (l.drop j):=by
 have:=fQ (B:=B) (l.drop j) (l.take j)
 rw[List.take_append_drop,List.length_take,Nat.min_eq_left hj] at this
 exact this
theorem jF {B:Nat} {l:List Int} (h:InB B l) (j:Nat):InB B (l.take j):=fun x hx=>h x (List.mem_of_mem_take hx)
theorem fK {B:Nat} {l:List Int} (h:InB B l) (j:Nat):InB B (l.drop j):=fun x hx=>h x (List.mem_of_mem_drop hx)
theorem Cn {B:Nat} (hB:2≤B) {l:List Int} (h:InB B l) {n:Nat} (hv:valB B l<(B:Int)^n) (i:Nat) (hi:n≤i):l.getD i 0=0:=by
 by_cases hil:i<l.length
 ·have e1:=dY (B:=B) l i (by omega)
  rw[bB l i hil] at e1
  simp only[valB] at e1
  have a1:=aX (jF h i)
  have a2:=aX (fK h (i+1))
  have a3:=(h.get hil).1
  have a4:0≤(B:Int)*valB B (l.drop (i+1)):=Int.mul_nonneg (by omega) a2
  have hp:=eJ hB hi
  apply Classical.byContradiction
  intro hne
  have:(B:Int)^i*1≤(B:Int)^i*(l.getD i 0+(B:Int)*valB B (l.drop (i+1))):=Int.mul_le_mul_of_nonneg_left (by omega) (Int.le_of_lt (dF hB i))
  omega
 ·exact dT l i (by omega)
theorem Pp {B:Nat} (hB:2≤B) {l:List Int} (h:InB B l) {n:Nat} (hz:∀i,n≤i→l.getD i 0=0):valB B l<(B:Int)^n:=by
 by_cases hn:n≤l.length
 ·have e1:=dY (B:=B) l n hn
  have e2:valB B (l.drop n)=0:=by
   have:l.drop n=List.replicate (l.length-n) 0:=by
    refine hZ (by simp) fun j hj=>?_
    have:=hz (n+j) (by omega)
    rw[List.length_drop] at hj
    have hj':n+j<l.length:=by omega
    simpa [List.getD_eq_getElem?_getD,List.getElem?_drop,List.getElem?_replicate,hj,hj'] using this
   rw[this,lP]
  rw[e2,Int.mul_zero,Int.add_zero] at e1
  rw[e1]
  have:=kU (jF h n)
  rwa [List.length_take,Nat.min_eq_left hn] at this
 ·exact eK hB h (by omega)
theorem sS (l:List Int) (j i:Nat):(l.drop j).getD i 0=l.getD (j+i) 0:=by simp[List.getD_eq_getElem?_getD,List.getElem?_drop]
theorem Jr {B:Nat} (hB:2≤B) {u v:List Int} (hu:InB B u) (hv:InB B v) {j:Nat} {q:Int} (hq:0≤q) (hk:j+(v.length+1)≤u.length) (hz:∀i,j+(v.length+1)≤i→u.getD i 0=0):
  ((bE B u v j q (v.length+1)).2=0↔q*valB B v≤valB B (u.drop j))∧
  ((bE B u v j q (v.length+1)).2=0→valB B ((bE B u v j q (v.length+1)).1.drop j)=valB B (u.drop j)-q*valB B v):=by
 obtain ⟨h1,h2,h3,h4,h5,h6⟩:=iA hB hu hv (j:=j) hq (v.length+1) hk
 rw[dK _ _ _ (by omega)] at h4
 generalize (bE B u v j q (v.length+1)).2=c at h3 h4 ⊢
 generalize (bE B u v j q (v.length+1)).1=w at h1 h2 h4 h5 h6 ⊢
 have s1:=dY (B:=B) w j (by omega)
 have s2:=dY (B:=B) u j (by omega)
 have et:w.take j=u.take j:=by
  refine hZ (by simp[h1]) fun i hi=>?_
  rw[List.length_take] at hi
  have:=h6 i (by omega)
  simpa [List.getD_eq_getElem?_getD,show i<j by omega,List.getElem?_take] using this
 rw[et] at s1
 have hP:=dF hB j
 have key:valB B (w.drop j)-(B:Int)^ (v.length+1)*c=valB B (u.drop j)-q*valB B v:=by
  have e:(B:Int)^j*(valB B (w.drop j)-(B:Int)^ (v.length+1)*c)=(B:Int)^j*(valB B (u.drop j)-q*valB B v):=by
   rw[Int.mul_sub,Int.mul_sub,← Int.mul_assoc,← Int.pow_add]
   omega
  exact Int.eq_of_mul_eq_mul_left (by omega) e
 have b1:=aX (fK h2 j)
 have b2:valB B (w.drop j)<(B:Int)^ (v.length+1):=Pp hB (fK h2 j) fun i hi=>by
  rw[sS,h5 _ (by omega),hz _ (by omega)]
 have hP2:=dF hB (v.length+1)
 refine ⟨⟨fun hc=>?_,fun hle=>?_⟩,fun hc=>?_⟩
 ·rw[hc,Int.mul_zero] at key;omega
 ·apply Classical.byContradiction
  intro hne
  have:(B:Int)^ (v.length+1)*1≤(B:Int)^ (v.length+1)*c:=Int.mul_le_mul_of_nonneg_left (by omega) (Int.le_of_lt hP2)
  omega
 ·rw[hc,Int.mul_zero] at key;omega
def bV (B:Nat) (u v:List Int) (m:Nat):Nat→List Int × List Int
 | 0=>(u,List.replicate m 0)
 | s+1=>((bE B (bV B u v m s).1 v (m-1-s) (valB B ((bV B u v m s).1.drop (m-1-s))/valB B v) (v.length+1)).1,(bV B u v m s).2.set (m-1-s) (valB B ((bV B u v m s).1.drop (m-1-s))/valB B v))
theorem mX {B:Nat} (hB:2≤B) {u v:List Int} (hu:InB B u) (hv:InB B v) (hV:0<valB B v) {m:Nat} (hm:m+v.length=u.length) (h0:valB B (u.drop m)<valB B v):∀s,s≤m→
  (bV B u v m s).1.length=u.length∧InB B (bV B u v m s).1∧(bV B u v m s).2.length=m∧InB B (bV B u v m s).2∧valB B ((bV B u v m s).1.drop (m-s))<valB B v∧
  valB B u=valB B (bV B u v m s).1+(B:Int)^ (m-s)*(valB B v*valB B ((bV B u v m s).2.drop (m-s)))
 | 0,_=>by
  refine ⟨rfl,hu,by simp[bV],fun x hx=>?_,h0,?_⟩
  ·rw[(List.mem_replicate.1 hx).2];omega
  ·simp only[bV]
   rw[@List.drop_eq_nil_of_le _ (List.replicate m (0:Int)) _ (by simp)];simp[valB]
 | s+1,hs=>by
  obtain ⟨h1,h2,h3,h4,h5,h6⟩:=mX hB hu hv hV hm h0 s (by omega)
  obtain ⟨j,hj⟩:∃j,m-1-s=j:=⟨_,rfl⟩
  have e1:m-s=j+1:=by omega
  have e2:m-(s+1)=j:=by omega
  simp only[bV]
  rw[hj,e2]
  rw[e1] at h5 h6
  generalize (bV B u v m s).1=w at h1 h2 h5 h6 ⊢
  generalize (bV B u v m s).2=p at h3 h4 h6 ⊢
  have hw:valB B (w.drop j)=w.getD j 0+(B:Int)*valB B (w.drop (j+1)):=by rw[bB w j (by omega)];rfl
  have g1:=h2.get (show j<w.length by omega)
  have hVB:=kU hv
  have hz:∀i,j+(v.length+1)≤i→w.getD i 0=0:=fun i hi=>by
   have:=Cn hB (fK h2 (j+1)) (n:=v.length) (by omega) (i-(j+1)) (by omega)
   rw[sS] at this
   rwa [show j+1+(i-(j+1))=i by omega] at this
  have hW0:=aX (fK h2 j)
  obtain ⟨W,hW⟩:∃W,valB B (w.drop j)=W:=⟨_,rfl⟩
  obtain ⟨Q,hQ⟩:∃Q,W/valB B v=Q:=⟨_,rfl⟩
  have hQ0:0≤Q:=by rw[← hQ];exact Int.ediv_nonneg (by omega) (by omega)
  have hQV:Q*valB B v≤W:=by rw[← hQ];exact Int.ediv_mul_le _ (by omega)
  have hWB:W<(B:Int)*valB B v:=by
   have:(B:Int)*(valB B (w.drop (j+1))+1)≤B*valB B v:=Int.mul_le_mul_of_nonneg_left (by omega) (by omega)
   rw[Int.mul_add,Int.mul_one] at this
   omega
  have hQB:Q<B:=by rw[← hQ];exact Int.ediv_lt_of_lt_mul hV hWB
  have hWm:=Int.emod_add_mul_ediv W (valB B v)
  have hWm0:=Int.emod_lt_of_pos W hV
  rw[hQ,Int.mul_comm] at hWm
  rw[hW,hQ]
  obtain ⟨t1,t2,t3,t4,t5,t6⟩:=iA hB h2 hv (j:=j) hQ0 (v.length+1) (by omega)
  obtain ⟨i1,i2⟩:=Jr hB h2 hv (j:=j) hQ0 (by omega) hz
  rw[hW] at i1 i2
  have hc:=i1.2 hQV
  have hr:=i2 hc
  rw[hc,Int.mul_zero,Int.sub_zero,dK _ _ _ (by omega)] at t4
  refine ⟨by rw[t1,h1],t2,by rw[List.length_set,h3],uE h4 _ ⟨hQ0,hQB⟩,by omega,?_⟩
  have e3:(p.set j Q).drop j=Q::p.drop (j+1):=by
   rw[bB _ _ (by rw[List.length_set];omega),eM _ _ _ (by omega),if_pos rfl,List.drop_set_of_lt (by omega)]
  rw[e3,h6,t4]
  simp only[valB]
  rw[Int.mul_add (valB B v),Int.mul_add,Int.pow_succ,Int.mul_comm (valB B v) Q,Int.mul_assoc ((B:Int)^j) (B:Int),Int.mul_left_comm (valB B v) (B:Int)]
  omega
theorem Sa {B:Nat} (hB:2≤B) {u v:List Int} (hu:InB B u) (hv:InB B v) (hV:0<valB B v) {m:Nat} (hm:m+v.length=u.length) (h0:valB B (u.drop m)<valB B v):
  bU (bV B u v m m).2=aA B (valB B u/valB B v).toNat∧bU (bV B u v m m).1=aA B (valB B u%valB B v).toNat:=by
 obtain ⟨h1,h2,h3,h4,h5,h6⟩:=mX hB hu hv hV hm h0 m (Nat.le_refl _)
 rw[Nat.sub_self,List.drop_zero] at h5 h6
 rw[Int.pow_zero,Int.one_mul] at h6
 have h7:valB B u/valB B v=valB B (bV B u v m m).2∧valB B u%valB B v=valB B (bV B u v m m).1:=by
  rw[Int.ediv_emod_unique hV]
  exact ⟨h6.symm,aX h2,h5⟩
 exact ⟨by rw[cA hB h4,h7.1],by rw[cA hB h2,h7.2]⟩
end IB
end
section
namespace IB
def estF (B v1 v2 u2:Int):Nat→Int→Int→Int
 | 0,q,_=>q
 | f+1,q,r=>if B≤q∨(r<B∧r*B+u2<q*v2) then (if B≤r+v1 then q-1 else estF B v1 v2 u2 f (q-1) (r+v1)) else q
theorem Pq {B V W v1 v2 u2 top P Q:Int} (hP:0<P) (hB:0≤B) (hV:(v1*B+v2)*P≤V) (hV0:0≤V) (hW:W<(top*B+u2+1)*P) (hQB:Q<B) (hQ0:0≤Q) (hQ:Q*V≤W):∀(f:Nat) (q r:Int),top=q*v1+r→Q≤q→Q≤estF B v1 v2 u2 f q r∧estF B v1 v2 u2 f q r≤q
 | 0,q,r,_,hq=>⟨hq,Int.le_refl _⟩
 | f+1,q,r,ht,hq=>by
  simp only[estF]
  by_cases hc:B≤q∨(r<B∧r*B+u2<q*v2)
  ·rw[if_pos hc]
   have hq1:Q≤q-1:=by
    rcases hc with h | ⟨_,h⟩
    ·omega
    ·exact Vm hP (by omega) hB hV hV0 hW ht h hQ
   by_cases h2:B≤r+v1
   ·rw[if_pos h2];exact ⟨hq1,by omega⟩
   ·rw[if_neg h2]
    obtain ⟨g1,g2⟩:=Pq hP hB hV hV0 hW hQB hQ0 hQ f (q-1) (r+v1) (by rw[Int.sub_mul,Int.one_mul];omega) hq1
    exact ⟨g1,by omega⟩
  ·rw[if_neg hc];exact ⟨hq,Int.le_refl _⟩
theorem aAj {V R t3 top P:Int} (hP:0<P) (ht:0≤top) (hV:V≤(top+1)*P) (hV0:0<V) (hR:t3*P≤R) (h0:0≤t3):0≤t3/(top+1)∧t3/(top+1)≤R/V:=by
 have h1:0≤t3/(top+1):=Int.ediv_nonneg h0 (by omega)
 refine ⟨h1,?_⟩
 rw[Int.le_ediv_iff_mul_le hV0]
 have h2:t3/(top+1)*(top+1)≤t3:=Int.ediv_mul_le _ (by omega)
 have h3:t3/(top+1)*V≤t3/(top+1)*((top+1)*P):=Int.mul_le_mul_of_nonneg_left hV h1
 rw[← Int.mul_assoc] at h3
 have h4:t3/(top+1)*(top+1)*P≤t3*P:=Int.mul_le_mul_of_nonneg_right h2 (Int.le_of_lt hP)
 omega
theorem Mn {B t f:Int} (ht:1≤t) (htB:t<B) (hf:f=B/(t+1)):1≤f∧f*(t+1)≤B∧B≤4*(f*t):=by
 have h1:f*(t+1)≤B:=by rw[hf];exact Int.ediv_mul_le _ (by omega)
 have h2:B<(f+1)*(t+1):=by rw[hf];exact Int.lt_ediv_add_one_mul_self _ (by omega)
 have h3:1≤f:=by rw[hf,Int.le_ediv_iff_mul_le (by omega)];omega
 refine ⟨h3,h1,?_⟩
 rw[Int.mul_add,Int.mul_one] at h1
 rw[Int.add_mul,Int.one_mul,Int.mul_add,Int.mul_one] at h2
 -- B < f t + f + t + 1 and f, t >= 1, so that f + t <= f t + 1
 have h4:0≤(f-1)*(t-1):=Int.mul_nonneg (by omega) (by omega)
 rw[Int.sub_mul,Int.mul_sub,Int.mul_one,Int.one_mul] at h4
 have h5:1*1≤f*t:=Int.mul_le_mul h3 ht (by omega) (by omega)
 omega
end IB
end
section
namespace IB
open Go.Lib
def aR (c:UInt8):Prop:=48≤c.toNat∧c.toNat≤57
instance (c:UInt8):Decidable (aR c):=by unfold aR;exact inferInstance
def aF (s:List UInt8):Nat:=s.foldl (fun n c=>10*n+(c.toNat-48)) 0
theorem cY (s:List UInt8) (c:UInt8):aF (s++ [c])=10*aF s+(c.toNat-48):=by simp[aF]
theorem dP {d:Nat} (h:d<10):(UInt8.ofNat (48+d)).toNat=48+d:=by
 rw[UInt8.toNat_ofNat'];omega
theorem Js {c:UInt8} (h:aR c):UInt8.ofNat (48+(c.toNat-48))=c:=by
 obtain ⟨h1,h2⟩:=h
 rw[show 48+(c.toNat-48)=c.toNat by omega]
 simp
theorem bQ {n:Nat} (h:n<10):decDigits n= [UInt8.ofNat (48+n)]:=decDigits_one h
theorem mY {n:Nat} (h:¬n<10):decDigits n=decDigits (n/10)++ [UInt8.ofNat (48+n%10)]:=by rw[decDigits,dif_neg h]
theorem cV:∀n:Nat,aF (decDigits n)=n:=by
 intro n
 induction n using Nat.strongRecOn with
 | _ n ih=>
  by_cases h:n<10
  ·rw[bQ h]
   show aF ([]++ [_])=n
   rw[cY,dP h];simp[aF]
  ·rw[mY h,cY,ih _ (by omega),dP (by omega)];omega
theorem iK:∀(n:Nat) (c:UInt8),c∈decDigits n→aR c:=by
 intro n
 induction n using Nat.strongRecOn with
 | _ n ih=>
  intro c hc
  by_cases h:n<10
  ·rw[bQ h] at hc
   have:=List.mem_singleton.1 hc
   subst this
   unfold aR
   rw[dP h];omega
  ·rw[mY h] at hc
   rcases List.mem_append.1 hc with hc | hc
   ·exact ih _ (by omega) c hc
   ·have:=List.mem_singleton.1 hc
    subst this
    unfold aR
    rw[dP (by omega)];omega
theorem zD (n:Nat):decDigits n≠ []:=by
 by_cases h:n<10
 ·rw[bQ h];simp
 ·rw[mY h];simp
theorem sT:∀n:Nat,0<n→(decDigits n).headD 0≠48:=by
 intro n
 induction n using Nat.strongRecOn with
 | _ n ih=>
  intro hn
  by_cases h:n<10
  ·rw[bQ h]
   intro e
   have:=congrArg UInt8.toNat e
   simp only[List.headD_cons] at this
   rw[dP h] at this
   have e2:(48:UInt8).toNat=48:=rfl
   omega
  ·rw[mY h]
   have:=ih (n/10) (by omega) (by omega)
   cases hd:decDigits (n/10) with
   | nil=>exact (zD _ hd).elim
   | cons x r=>rw[hd] at this;exact this
theorem lQ:∀(k:Nat) (s:List UInt8),s.length=k→s≠ []→(∀c∈s,aR c)→(s.length=1∨s.headD 0≠48)→decDigits (aF s)=s:=by
 intro k
 induction k with
 | zero=>intro s h1 h2;exact (h2 (List.length_eq_zero_iff.1 h1)).elim
 | succ k ih=>
  intro s h1 h2 h3 h4
  obtain ⟨t,c,rfl⟩:∃t c,s=t++ [c]:=⟨s.dropLast,s.getLast h2,(List.dropLast_concat_getLast h2).symm⟩
  have hc:=h3 c (by simp)
  have hc':=hc
  obtain ⟨c1,c2⟩:=hc'
  rw[cY]
  by_cases ht:t= []
  ·subst ht
   have e:aF []=0:=rfl
   rw[e,bQ (by omega),Nat.mul_zero,Nat.zero_add,Js hc];rfl
  ·have hlen:t.length=k:=by simpa using h1
   have hpos:0<t.length:=List.length_pos_iff.2 ht
   have hhd:t.headD 0≠48:=by
    rcases h4 with h | h
    ·simp at h;exact (ht h).elim
    ·cases t with
     | nil=>exact (ht rfl).elim
     | cons x r=>exact h
   have e:=ih t hlen ht (fun c hc=>h3 c (List.mem_append_left _ hc)) (.inr hhd)
   have hm:0<aF t:=by
    rcases Nat.eq_zero_or_pos (aF t) with h | h
    ·rw[h,bQ (by omega)] at e
     rw[← e] at hhd
     exact (hhd rfl).elim
    ·exact h
   rw[mY (by omega),show (10*aF t+(c.toNat-48))/10=aF t by omega,e,show (10*aF t+(c.toNat-48))%10=c.toNat-48 by omega,Js hc]
theorem Pr {m n:Nat} (h:decDigits m=decDigits n):m=n:=by rw[← cV m,h,cV]
theorem iV {m n:Int} (h:itoa m=itoa n):m=n:=by
 have key:∀(a b:Nat),45::decDigits a≠decDigits b:=fun a b e=>by
  have:=iK b 45 (by rw[← e];simp)
  have e2:(45:UInt8).toNat=45:=rfl
  unfold aR at this
  omega
 unfold itoa at h
 split at h
 ·split at h
  ·have:=Pr (List.cons.inj h).2;omega
  ·exact (key _ _ h).elim
 ·split at h
  ·exact (key _ _ h.symm).elim
  ·have:=Pr h;omega
end IB
end
section
namespace IB
open Go.Lib
def digs (s:List UInt8):List UInt8:=if s.headD 0=45 then s.tail else s
def valI (s:List UInt8):Int:=if s.headD 0=45 then -(aF s.tail:Int) else aF s
def form (s:List UInt8):Prop:=digs s≠ []∧((digs s).headD 0≠48∨s= [48])∧∀c∈digs s,aR c
noncomputable instance (s:List UInt8):Decidable (form s):=Classical.propDecidable _
noncomputable def chkI (s:List UInt8):Int:=if form s then (if 300<(digs s).length then 4 else 0) else 11
theorem gZ (n:Int):(itoa n).headD 0=45↔n<0:=by
 unfold itoa
 split
 ·rename_i h;exact ⟨fun _=>h,fun _=>rfl⟩
 ·rename_i h
  refine ⟨fun e=>?_,fun h'=>(h h').elim⟩
  exfalso
  cases hd:decDigits n.toNat with
  | nil=>exact zD _ hd
  | cons x r=>
   rw[hd] at e
   have:=iK n.toNat x (by rw[hd];simp)
   simp only[List.headD_cons] at e
   subst e
   have e2:(45:UInt8).toNat=45:=rfl
   unfold aR at this
   omega
theorem bC (n:Int):digs (itoa n)=decDigits n.natAbs:=by
 unfold digs
 by_cases h:n<0
 ·rw[if_pos ((gZ n).2 h)];unfold itoa;rw[if_pos h];rfl
 ·rw[if_neg (fun e=>h ((gZ n).1 e))];unfold itoa;rw[if_neg h];congr 1;omega
theorem aV (n:Int):valI (itoa n)=n:=by
 unfold valI
 by_cases h:n<0
 ·rw[if_pos ((gZ n).2 h)];unfold itoa;rw[if_pos h]
  simp only[List.tail_cons]
  rw[cV];omega
 ·rw[if_neg (fun e=>h ((gZ n).1 e))];unfold itoa;rw[if_neg h,cV];omega
theorem eZ (n:Int):form (itoa n):=by
 refine ⟨by rw[bC];exact zD _,?_,fun c hc=>by rw[bC] at hc;exact iK _ c hc⟩
 rw[bC]
 by_cases h:n=0
 ·right;subst h;exact bQ (by omega)
 ·left;exact sT _ (by omega)
theorem pR {s:List UInt8} (h:form s):s=itoa (valI s):=by
 obtain ⟨h1,h2,h3⟩:=h
 unfold digs at h1 h2 h3
 unfold valI
 by_cases hm:s.headD 0=45
 ·rw[if_pos hm] at h1 h2 h3 ⊢
  have hs:s=45::s.tail:=by
   cases s with
   | nil=>exact (h1 rfl).elim
   | cons x r=>simp only[List.headD_cons] at hm;subst hm;rfl
  have hne:¬s= [48]:=fun e=>by rw[e] at hm;cases hm
  have hh:s.tail.headD 0≠48:=by
   rcases h2 with h | h
   ·exact h
   ·exact (hne h).elim
  have hd:=lQ _ s.tail rfl h1 h3 (.inr hh)
  have hpos:0<aF s.tail:=by
   rcases Nat.eq_zero_or_pos (aF s.tail) with h | h
   ·rw[h] at hd
    rw[← hd] at hh
    exact (hh (by rw[bQ (by omega)];rfl)).elim
   ·exact h
  unfold itoa
  rw[if_pos (by omega),show (-(aF s.tail:Int)).natAbs=aF s.tail by omega,hd]
  exact hs
 ·rw[if_neg hm] at h1 h2 h3 ⊢
  have hd:=lQ _ s rfl h1 h3 (by
   rcases h2 with h | h
   ·exact .inr h
   ·left;rw[h];rfl)
  unfold itoa
  rw[if_neg (by omega),Int.toNat_natCast,hd]
theorem Vj {s:List UInt8}:form s↔s=itoa (valI s):=⟨pR,fun h=>by rw[h];exact eZ _⟩
theorem Pf (q:Nat) (hq:0<q):∀(k r:Nat),r<10^ (k+1)→decDigits (q*10^ (k+1)+r)=decDigits q++(List.replicate (k+1-(decDigits r).length) 48++decDigits r)
 | 0,r,hr=>by
  have hr:r<10:=by simpa using hr
  rw[mY (by simp;omega),bQ hr]
  simp only[Nat.zero_add,Nat.pow_one,List.length_singleton,Nat.sub_self,List.replicate_zero,List.nil_append]
  rw[show (q*10+r)/10=q by omega,show (q*10+r)%10=r by omega]
 | k+1,r,hr=>by
  have hp:0<10^ (k+1):=Nat.pow_pos (by omega)
  have hb:q*10^ (k+1+1)=q*10^ (k+1)*10:=by rw[Nat.pow_succ,Nat.mul_assoc]
  have h1:q*10^ (k+1+1)+r=10*(q*10^ (k+1)+r/10)+r%10:=by omega
  have hm:0<q*10^ (k+1):=Nat.mul_pos hq hp
  rw[Nat.pow_succ] at hr
  rw[mY (by omega),show (q*10^ (k+1+1)+r)/10=q*10^ (k+1)+r/10 by omega,show (q*10^ (k+1+1)+r)%10=r%10 by omega,Pf q hq k (r/10) (by omega)]
  by_cases h:r<10
  ·rw[bQ h,show r/10=0 by omega,bQ (show 0<10 by omega),Nat.mod_eq_of_lt h]
   simp only[List.length_singleton,List.append_assoc]
   congr 1
   rw[show k+1+1-1=k+1-1+1 by omega,List.replicate_succ']
   simp
  ·rw[mY (n:=r) h]
   simp only[List.length_append,List.length_singleton,List.append_assoc]
   rw[show k+1+1-((decDigits (r/10)).length+1)=k+1-(decDigits (r/10)).length by omega]
end IB
end
section
namespace IB
open Go.Lib
theorem iJ:∀(k n:Nat),n<10^ (k+1)→(decDigits n).length≤k+1
 | 0,n,h=>by rw[bQ (by simpa using h)];simp
 | k+1,n,h=>by
  by_cases h10:n<10
  ·rw[bQ h10];simp
  ·rw[Nat.pow_succ] at h
   rw[mY h10]
   have:=iJ k (n/10) (by omega)
   simp only[List.length_append,List.length_singleton];omega
def wrK (l:List Int):Nat→List UInt8
 | 0=>[]
 | m+1=>wrK l m++((if 0<m then List.replicate (9-(itoa (l.getD (l.length-1-m) 0)).length) 48 else [])++itoa (l.getD (l.length-1-m) 0))
theorem Jl {l:List Int} (h:InB (10^9) l) (hne:l≠ []) (hl:l.getLast hne≠0):∀m,m<l.length→0<valB (10^9) (l.drop (l.length-1-m))∧wrK l (m+1)=decDigits (valB (10^9) (l.drop (l.length-1-m))).toNat
 | 0,hm=>by
  have e1:l.getD (l.length-1) 0=l.getLast hne:=by
   rw[List.getLast_eq_getElem,List.getD_eq_getElem?_getD,List.getElem?_eq_getElem (by omega)];rfl
  have e2:l.drop (l.length-1)= [l.getLast hne]:=by
   rw[bB l _ (by omega),e1,List.drop_eq_nil_of_le (by omega)]
  have g:=h.get (show l.length-1<l.length by omega)
  rw[e1] at g
  rw[Nat.sub_zero,e2]
  simp only[valB,Int.mul_zero,Int.add_zero,wrK,Nat.lt_irrefl,if_false,List.nil_append,Nat.sub_zero]
  rw[e1]
  refine ⟨by omega,?_⟩
  unfold itoa
  rw[if_neg (by omega)]
 | m+1,hm=>by
  obtain ⟨h1,h2⟩:=Jl h hne hl m (by omega)
  obtain ⟨i,hi⟩:∃i,l.length-1-(m+1)=i:=⟨_,rfl⟩
  have e1:l.length-1-m=i+1:=by omega
  rw[e1] at h1 h2
  rw[hi]
  have g:=h.get (show i<l.length by omega)
  have e2:l.drop i=l.getD i 0::l.drop (i+1):=bB l i (by omega)
  rw[e2]
  simp only[valB]
  obtain ⟨v,hv⟩:=Int.eq_ofNat_of_zero_le (Int.le_of_lt h1)
  obtain ⟨x,hx⟩:=Int.eq_ofNat_of_zero_le g.1
  rw[hv] at h1 h2 ⊢
  rw[hx] at g ⊢
  have hx9:x<10^ (8+1):=by have:=g.2;omega
  have hv0:0<v:=by omega
  have e3:((x:Int)+((10^9:Nat):Int)*(v:Int))=((v*10^ (8+1)+x:Nat):Int):=by
   rw[Int.natCast_add,Int.natCast_mul,Int.mul_comm,Int.add_comm]
  refine ⟨by rw[e3];omega,?_⟩
  rw[e3,Int.toNat_natCast,Pf v hv0 8 x hx9]
  rw[Int.toNat_natCast] at h2
  have e4:itoa (x:Int)=decDigits x:=by unfold itoa;rw[if_neg (by omega),Int.toNat_natCast]
  rw[show wrK l (m+1+1)=wrK l (m+1)++((if 0<m+1 then List.replicate (9-(itoa (l.getD (l.length-1-(m+1)) 0)).length) 48 else [])++itoa (l.getD (l.length-1-(m+1)) 0)) from rfl,hi,hx,e4,h2,if_pos (by omega)]
theorem Jm (s:List UInt8):aF (48::s)=aF s:=by
 have e:(48:UInt8).toNat=48:=rfl
 simp[aF,e]
theorem strip (s:List UInt8) (h:∀c∈s,aR c) (hp:0<aF s):s.dropWhile (· ==48)=decDigits (aF s):=by
 induction s with
 | nil=>simp[aF] at hp
 | cons c r ih=>
  by_cases e:c=48
  ·subst e
   rw[Jm] at hp ⊢
   rw[List.dropWhile_cons_of_pos (by simp)]
   exact ih (fun c hc=>h c (List.mem_cons_of_mem _ hc)) hp
  ·rw[List.dropWhile_cons_of_neg (by simpa using e)]
   exact (lQ _ _ rfl (by simp) h (.inr (by simpa using e))).symm
end IB
end
section
namespace IB
open Go.Lib
theorem nat10_cons (c:UInt8) (s:List UInt8):aF (c::s)=(c.toNat-48)*10^s.length+aF s:=by
 refine list_snocU (fun s=>aF (c::s)=(c.toNat-48)*10^s.length+aF s) (by simp[aF]) (fun l x ih=>?_) s
 rw[← List.cons_append,cY,cY,ih,List.length_append,List.length_singleton,Nat.pow_succ,Nat.mul_add,Nat.mul_comm 10 (_* _),Nat.mul_assoc]
 omega
where
 list_snocU (P:List UInt8→Prop) (h0:P []) (h1:∀l x,P l→P (l++ [x])) (l:List UInt8):P l:=by
  have:∀n (l:List UInt8),l.length=n→P l:=by
   intro n
   induction n with
   | zero=>intro l hl;rw[List.length_eq_zero_iff.1 hl];exact h0
   | succ n ih=>
    intro l hl
    have hne:l≠ []:=fun e=>by rw[e] at hl;simp at hl
    rw[← List.dropLast_concat_getLast hne]
    exact h1 _ _ (ih _ (by simp[hl]))
  exact this _ l rfl
def dgt (s:List UInt8) (i:Nat):Int:=((s.getD (s.length-1-i) 48).toNat:Int)-48
def rdK (s:List UInt8) (n:Nat):Nat→List Int
 | 0=>List.replicate n 0
 | i+1=>(rdK s n i).set (i/9) ((rdK s n i).getD (i/9) 0+dgt s i*10^ (i%9))
theorem Pg {s:List UInt8} (h:∀c∈s,aR c) {i:Nat} (hi:i<s.length):0≤dgt s i∧dgt s i≤9∧dgt s i=(((s.getD (s.length-1-i) 48).toNat-48:Nat):Int):=by
 have e:s.getD (s.length-1-i) 48=s[s.length-1-i]:=by rw[List.getD_eq_getElem?_getD,List.getElem?_eq_getElem (by omega)];rfl
 have:=h _ (List.getElem_mem (show s.length-1-i<s.length by omega))
 unfold dgt
 rw[e]
 unfold aR at this
 omega
theorem Ml {s:List UInt8} {i:Nat} (hi:i<s.length):aF (s.drop (s.length-(i+1)))=((s.getD (s.length-1-i) 48).toNat-48)*10^i+aF (s.drop (s.length-i)):=by
 have e1:s.length-(i+1)=s.length-1-i:=by omega
 have e:s.getD (s.length-1-i) 48=s[s.length-1-i]:=by rw[List.getD_eq_getElem?_getD,List.getElem?_eq_getElem (by omega)];rfl
 rw[e1,List.drop_eq_getElem_cons (by omega),nat10_cons,e,show s.length-1-i+1=s.length-i by omega,List.length_drop,show s.length-(s.length-i)=i by omega]
theorem zC {s:List UInt8} (h:∀c∈s,aR c) {n:Nat} (hn:s.length≤9*n):∀i,i≤s.length→(rdK s n i).length=n∧InB (10^9) (rdK s n i)∧valB (10^9) (rdK s n i)=aF (s.drop (s.length-i))∧
  (∀t,i≤9*t→(rdK s n i).getD t 0=0)∧(rdK s n i).getD (i/9) 0<10^ (i%9)
 | 0,_=>by
  have hz:∀t,(List.replicate n (0:Int)).getD t 0=0:=fun t=>by rw[List.getD_eq_getElem?_getD,List.getElem?_replicate];split<;>rfl
  refine ⟨by simp[rdK],fun x hx=>?_,?_,fun t _=>hz t,?_⟩
  ·rw[(List.mem_replicate.1 hx).2];omega
  ·simp only[rdK];rw[lP,Nat.sub_zero,List.drop_length];rfl
  ·simp only[rdK];rw[hz];decide
 | i+1,hi=>by
  obtain ⟨h1,h2,h3,h4,h5⟩:=zC h hn i (by omega)
  obtain ⟨d1,d2,d3⟩:=Pg h (show i<s.length by omega)
  have hi9:i/9<n:=by omega
  have g:=h2.get (show i/9<(rdK s n i).length by omega)
  simp only[rdK]
  generalize rdK s n i=l at h1 h2 h3 h4 h5 g ⊢
  have hp:(0:Int)<10^ (i%9):=Int.pow_pos (by omega)
  have hm:dgt s i*10^ (i%9)≤9*10^ (i%9):=Int.mul_le_mul_of_nonneg_right d2 (Int.le_of_lt hp)
  have hm0:0≤dgt s i*10^ (i%9):=Int.mul_nonneg d1 (Int.le_of_lt hp)
  have hp1:(10:Int)^ (i%9+1)=10*10^ (i%9):=by rw[Int.pow_succ,Int.mul_comm]
  have hlt:l.getD (i/9) 0+dgt s i*10^ (i%9)<10^ (i%9+1):=by omega
  have hle:(10:Int)^ (i%9+1)≤((10^9:Nat):Int):=by
   have:10^ (i%9+1)≤10^9:=Nat.pow_le_pow_right (by omega) (by omega)
   exact_mod_cast this
  refine ⟨by rw[List.length_set,h1],uE h2 _ ⟨by omega,by omega⟩,?_,fun t ht=>?_,?_⟩
  ·rw[sR _ _ _ (by omega),h3,Ml (by omega)]
   have e1:((10^9:Nat):Int)^ (i/9)*(dgt s i*10^ (i%9))=dgt s i*10^i:=by
    have e2:((10^9:Nat):Int)^ (i/9)=(10:Int)^ (9*(i/9)):=by
     rw[Int.pow_mul];rfl
    rw[e2,Int.mul_left_comm,← Int.pow_add,show 9*(i/9)+i%9=i by omega]
   rw[show l.getD (i/9) 0+dgt s i*10^ (i%9)-l.getD (i/9) 0=dgt s i*10^ (i%9) by omega,e1,d3]
   generalize (s.getD (s.length-1-i) 48).toNat-48=e
   rw[Int.natCast_add,Int.natCast_mul,Int.natCast_pow,Int.add_comm]
   rfl
  ·rw[eM _ _ _ (by omega),if_neg (by omega),h4 t (by omega)]
  ·rw[eM _ _ _ (by omega)]
   by_cases e:(i+1)/9=i/9
   ·rw[if_pos e,show (i+1)%9=i%9+1 by omega];exact hlt
   ·rw[if_neg e,h4 _ (by omega)]
    exact Int.pow_pos (by omega)
theorem aAb {s:List UInt8} (h:∀c∈s,aR c) {n:Nat} (hn:s.length≤9*n):bU (rdK s n s.length)=aA (10^9) (aF s):=by
 obtain ⟨h1,h2,h3,h4,h5⟩:=zC h hn s.length (Nat.le_refl _)
 rw[Nat.sub_self,List.drop_zero] at h3
 rw[cA (by decide) h2,h3,Int.toNat_natCast]
end IB
end
section
namespace IB
open Go.Lib
theorem sO (a:List UInt8):∀b:List UInt8,aF (a++b)=aF a*10^b.length+aF b:=by
 intro b
 refine nat10_cons.list_snocU (fun b=>aF (a++b)=aF a*10^b.length+aF b) (by simp[aF]) (fun l x ih=>?_) b
 rw[← List.append_assoc,cY,cY,ih,List.length_append,List.length_singleton,Nat.pow_succ,Nat.mul_add,Nat.mul_comm 10 (_* _),Nat.mul_assoc]
 omega
theorem cE (s:List UInt8) (h:∀c∈s,aR c):aF s<10^s.length:=by
 revert h
 refine nat10_cons.list_snocU (fun s=>(∀c∈s,aR c)→aF s<10^s.length) (fun _=>by simp[aF]) (fun l x ih h=>?_) s
 have h1:=ih fun c hc=>h c (List.mem_append_left _ hc)
 have h2:=h x (by simp)
 unfold aR at h2
 rw[cY,List.length_append,List.length_singleton,Nat.pow_succ]
 omega
def grp (s:List UInt8) (k:Nat):List UInt8:=(s.take (s.length-6*k)).drop (s.length-6*(k+1))
def rdG (s:List UInt8):Nat→List Int
 | 0=>[]
 | k+1=>rdG s k++ [(aF (grp s k):Int)]
theorem aAc (s:List UInt8) (k:Nat):s.drop (s.length-6*(k+1))=grp s k++s.drop (s.length-6*k):=by
 unfold grp
 have e:=List.drop_append_of_le_length (l₁:=s.take (s.length-6*k)) (l₂:=s.drop (s.length-6*k)) (i:=s.length-6*(k+1)) (by rw[List.length_take];omega)
 rw[List.take_append_drop] at e
 exact e
theorem aAd (s:List UInt8) (k:Nat):(grp s k).length≤6:=by
 unfold grp;rw[List.length_drop,List.length_take];omega
theorem aAe {s:List UInt8} (h:∀c∈s,aR c) (k:Nat):∀c∈grp s k,aR c:=fun c hc=>h c (List.mem_of_mem_take (List.mem_of_mem_drop hc))
theorem sP {s:List UInt8} (h:∀c∈s,aR c):∀k,6*k<s.length+6→(rdG s k).length=k∧InB (10^6) (rdG s k)∧valB (10^6) (rdG s k)=aF (s.drop (s.length-6*k))
 | 0,_=>⟨rfl,InB.nil,by simp only[rdG];rw[Nat.mul_zero,Nat.sub_zero,List.drop_length];rfl⟩
 | k+1,hk=>by
  obtain ⟨h1,h2,h3⟩:=sP h k (by omega)
  have hg:=cE _ (aAe h k)
  have hg6:10^ (grp s k).length≤10^6:=Nat.pow_le_pow_right (by omega) (aAd s k)
  refine ⟨by simp[rdG,h1],InB.append.2 ⟨h2,InB.cons.2 ⟨⟨by omega,by omega⟩,InB.nil⟩⟩,?_⟩
  simp only[rdG]
  rw[kB,h1,h3,aAc,sO,List.length_drop,show s.length-(s.length-6*k)=6*k by omega]
  have e:((10^6:Nat):Int)^k=(((10:Nat)^ (6*k):Nat):Int):=by
   rw[Nat.pow_mul];exact (Int.natCast_pow _ _).symm
  rw[e,Int.natCast_add,Int.natCast_mul,Int.mul_comm,Int.add_comm]
theorem Ph {s:List UInt8} (h:∀c∈s,aR c) {k:Nat} (hk:6*k<s.length+6) (hl:s.length≤6*k):bU (rdG s k)=aA (10^6) (aF s):=by
 obtain ⟨h1,h2,h3⟩:=sP h k hk
 rw[show s.length-6*k=0 by omega,List.drop_zero] at h3
 rw[cA (by decide) h2,h3,Int.toNat_natCast]
def six (x:Nat):List UInt8:=[UInt8.ofNat (48+x/100000%10),UInt8.ofNat (48+x/10000%10),UInt8.ofNat (48+x/1000%10),UInt8.ofNat (48+x/100%10),UInt8.ofNat (48+x/10%10),UInt8.ofNat (48+x%10)]
theorem aAf {x:Nat} (h:x<1000000):aF (six x)=x:=by
 have d:∀n,(UInt8.ofNat (48+n%10)).toNat=48+n%10:=fun n=>dP (by omega)
 simp only[aF,six,List.foldl_cons,List.foldl_nil,d]
 omega
theorem aAg (x:Nat):∀c∈six x,aR c:=by
 have d:∀n,aR (UInt8.ofNat (48+n%10)):=fun n=>by unfold aR;rw[dP (by omega)];omega
 intro c hc
 simp only[six,List.mem_cons,List.not_mem_nil,or_false] at hc
 rcases hc with rfl | rfl | rfl | rfl | rfl | rfl<;>exact d _
def wrG:List Int→List UInt8
 | []=>[]
 | x::r=>wrG r++six x.toNat
theorem Fo:∀l:List Int,(wrG l).length=6*l.length
 | []=>rfl
 | x::r=>by simp only[wrG,List.length_append,Fo r,List.length_cons];simp[six];omega
theorem Pj:∀l:List Int,∀c∈wrG l,aR c
 | [],c,hc=>by simp[wrG] at hc
 | x::r,c,hc=>by
  simp only[wrG] at hc
  rcases List.mem_append.1 hc with h | h
  ·exact Pj r c h
  ·exact aAg _ c h
theorem Pk:∀l:List Int,InB (10^6) l→(aF (wrG l):Int)=valB (10^6) l
 | [],_=>rfl
 | x::r,h=>by
  obtain ⟨h1,h2⟩:=InB.cons.1 h
  have ih:=Pk r h2
  have h6:(six x.toNat).length=6:=rfl
  simp only[wrG,valB]
  rw[sO,h6,aAf (by omega),Int.natCast_add,Int.natCast_mul,ih,Int.mul_comm,Int.add_comm]
  congr 1
  omega
theorem aAh {l:List Int} (h:InB (10^6) l) (hp:0<valB (10^6) l):(wrG l).dropWhile (· ==48)=decDigits (valB (10^6) l).toNat:=by
 have:=Pk l h
 rw[strip _ (Pj l) (by omega),← this,Int.toNat_natCast]
end IB
end

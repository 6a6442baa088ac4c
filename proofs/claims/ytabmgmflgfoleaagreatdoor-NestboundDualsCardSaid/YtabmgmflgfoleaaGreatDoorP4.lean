/-
  Part 4: a symbolic executor over the model, contracts of functions and plain laws.
-/
import Derived.Test.YtabmgmflgfoleaaGreatDoorP3
import Derived.RangeFuncLeaves
import Derived.SizedLaws
import Derived.OpenShut
import Derived.DataReads
import Derived.Below
import Derived.Shelf.Abstract
import Derived.Test.YtabmgmflgfoleaaGreatDoorProg
set_option linter.unusedVariables false
set_option linter.unusedSimpArgs false
set_option maxRecDepth 10000
set_option maxHeartbeats 80000000
section
namespace Go.Eng
open Go.RowKit
section
variable {P:Program} {G:Ctx} {N:Nat} {Γ:List Con}
theorem fM {ops:Array Oper} {p:Nat→Oper→Bool} {n:Nat} (h:aCc ops.toList p n=true) {i:Nat} {o:Oper} (hi:i<n) (ho:ops[i]? =some o):p i o=true:=by
 have:=List.all_eq_true.1 h i (List.mem_range.2 hi)
 simpa [Array.getElem?_toList,ho] using this
def unl (listed:Array Bool):Nat→Nat
 | 0=>0
 | n+1=>unl listed n+(if listed.getD n true=false then 1 else 0)
theorem aCs {listed:Array Bool} {i:Nat} (hi:listed.getD i true=false):∀n,unl (listed.setIfInBounds i true) n+(if i<n then 1 else 0)=unl listed n
 | 0=>rfl
 | n+1=>by
  have ih:=aCs hi n
  simp only[unl]
  by_cases e:i=n
  ·subst e
   have:(listed.setIfInBounds i true).getD i true=true:=by
    rw[Array.getD_eq_getD_getElem?,Array.getElem?_setIfInBounds];simp;split<;>rfl
   rw[this,hi]
   simp at ih ⊢;omega
  ·rw[getD_set_ne true e]
   have:(if i<n+1 then 1 else 0)=(if i<n then 1 else 0):=by
    by_cases h:i<n
    ·simp[h];omega
    ·have h2:¬i<n+1:=by omega
     simp[h,h2]
   omega
theorem cF {listed:Array Bool} {i:Nat} (h:i<listed.size):listed.getD i true=listed.getD i false:=by
 simp[Array.getD_eq_getD_getElem?,Array.getElem?_eq_getElem h]
theorem aAt {ms:List Nat} {j:Nat}:∀(l:List Edge) (acc:Nat),Nat.testBit (l.foldl (fun acc e=>bif Region.binds .any e then Nat.lor (Nat.lor acc (Nat.shiftLeft 1 e.on)) (ms.getD e.on 0) else acc) acc) j=true→
  Nat.testBit acc j=true∨∃e∈l,Region.binds .any e=true∧(e.on=j∨Nat.testBit (ms.getD e.on 0) j=true)
 | [],acc,h=>.inl h
 | e::l,acc,h=>by
  rcases aAt l _ h with h1 | ⟨e',h1,h2,h3⟩
  ·cases hb:Region.binds .any e with
   | false=>simp only[hb,cond_false] at h1;exact .inl h1
   | true=>
    simp only[hb,cond_true] at h1
    have h1':Nat.testBit ((acc ||| (1 <<<e.on)) ||| (ms.getD e.on 0)) j=true:=h1
    simp only[Nat.testBit_or,Bool.or_eq_true] at h1'
    rcases h1' with (h2 | h2) | h2
    ·exact .inl h2
    ·refine .inr ⟨e,List.mem_cons_self,hb,.inl ?_⟩
     rw[Nat.testBit_shiftLeft] at h2
     simp only[Bool.and_eq_true,decide_eq_true_eq] at h2
     have h3:=h2.2
     by_cases hz:j-e.on=0
     ·omega
     ·obtain ⟨q,hq⟩:=Nat.exists_eq_succ_of_ne_zero hz
      rw[hq] at h3
      simp[Nat.testBit_succ] at h3
    ·exact .inr ⟨e,List.mem_cons_self,hb,.inr h2⟩
  ·exact .inr ⟨e',List.mem_cons_of_mem _ h1,h2,h3⟩
theorem aL0 {ms:List Nat} {o:Oper} {j:Nat} (h:Nat.testBit (mU ms o) j=true):∃e∈o.after,Region.binds .any e=true∧(e.on=j∨Nat.testBit (ms.getD e.on 0) j=true):=by
 rcases aAt _ _ h with h1 | ⟨e,h1,h2⟩
 ·simp at h1
 ·exact ⟨e,by simpa using h1,h2⟩
def Closed (ops:Array Oper) (L:Nat→Prop):Prop:=∀(i:Nat) (o:Oper),ops[i]? =some o→L i→∀e∈o.after,Region.binds .any e=true→L e.on
theorem xE {ops:Array Oper} {L:Nat→Prop} (hc:Closed ops L):∀(rest:List Oper) (ms:List Nat),ops.toList.drop ms.length=rest→
  (∀i j,Nat.testBit (ms.getD i 0) j=true→(∀o,ops[i]? =some o→∀e∈o.after,Region.binds .any e=true→L e.on)→L j)→
  (∀i j,Nat.testBit ((fA rest ms).getD i 0) j=true→(∀o,ops[i]? =some o→∀e∈o.after,Region.binds .any e=true→L e.on)→L j)
 | [],ms,_,h=>h
 | o::r,ms,hd,h=>by
  have ho:ops[ms.length]? =some o:=by
   have:(ops.toList.drop ms.length)[0]? =some o:=by rw[hd];rfl
   rw[List.getElem?_drop] at this
   simpa using this
  refine xE hc r (ms++ [mU ms o]) (by rw[List.length_append,List.length_singleton,← List.drop_drop,hd];rfl) ?_
  intro i j hb hp
  by_cases hi:i<ms.length
  ·have e1:(ms++ [mU ms o]).getD i 0=ms.getD i 0:=by simp[List.getD_eq_getElem?_getD,List.getElem?_append_left hi]
   rw[e1] at hb
   exact h i j hb hp
  ·by_cases hi2:i=ms.length
   ·subst hi2
    have e1:(ms++ [mU ms o]).getD ms.length 0=mU ms o:=by simp[List.getD_eq_getElem?_getD]
    rw[e1] at hb
    obtain ⟨e,he,hbd,h3 | h3⟩:=aL0 hb
    ·rw[← h3];exact hp o ho e he hbd
    ·exact h e.on j h3 fun o' ho' e' he' hb'=>hc e.on o' ho' (hp o ho e he hbd) e' he' hb'
   ·have e1:(ms++ [mU ms o]).getD i 0=0:=by
     rw[List.getD_eq_getElem?_getD,List.getElem?_eq_none (by simp;omega)];rfl
    rw[e1] at hb;simp at hb
theorem jS {ops:Array Oper} {L:Nat→Prop} (hc:Closed ops L) {i j:Nat} {o:Oper} (ho:ops[i]? =some o) (h:eO (fA ops.toList []) i j=true) (hp:∀e∈o.after,Region.binds .any e=true→L e.on):L j:=
 xE hc ops.toList [] rfl (fun i j hb=>by simp at hb) i j h fun o' ho'=>by rw[ho] at ho';cases ho';exact hp
theorem xF (hY:COK P G) (hΓ:∀c∈Γ,aG P c) {F:Fence} (hF:Opn F) {n:Nat} {ops:Array Oper} (htopo:∀i o,ops[i]? =some o→topo i o=true) {m:Nat} (htail:∀i o,m≤i→ops[i]? =some o→∀j,m≤j→j<i→eO (fA ops.toList []) i j=true):
  ∀(rest:List Oper) (k:Nat),ops.toList.drop k=rest→m≤k→∀(fuel:Nat) (listed:Array Bool),listed.size=ops.size→rest.length≤fuel→(∀j,j<k→listed.getD j false=true)→(∀j,k≤j→j<ops.size→listed.getD j true=false)→
  ∀ {H:List HO} {loc:Nat→Loc} {ver:Nat→Nat} {w:World} {l:List (Nat × SV)} {a:Act} {K:List (Nat × SV)→List HO→Prop} {Q:Exit→Act→World→Prop},
  Inv G H loc ver w→TRel (envOf G H loc ver w) N l a→eU P Γ N ops.toList rest l H K→
  (∀l' H' loc' ver' a' w',K l' H'→Inv G H' loc' ver' w'→TRel (envOf G H' loc' ver' w') N l' a'→Ext (envOf G H loc ver w) (envOf G H' loc' ver' w')→Same (ops.toList.filterMap (·.dst)) a a'→a'.defers=a.defers→Q .normal a' w')→
  wpAnyIn F n P .any ops Q fuel listed a w:=by
 intro rest
 induction rest with
 | nil=>
  intro k hk hmk fuel listed hls hfu hl1 hl2 H loc ver w l a K Q hI hT h hQ
  have hq:Q .normal a w:=hQ l H loc ver a w h hI hT (Ext.refl _) (Same.refl _ _) rfl
  have hks:ops.size≤k:=by simpa using List.drop_eq_nil_iff.1 hk
  have hr:Region.ready .any ops listed= []:=by
   apply List.eq_nil_iff_forall_not_mem.2
   intro j hj
   obtain ⟨h1,o,ho,_⟩:=mem_ready.1 hj
   have hjs:=(Array.getElem?_eq_some_iff.1 ho).1
   rw[cF (by omega),hl1 j (by omega)] at h1
   cases h1
  cases fuel with
  | zero=>exact ⟨hr,hq⟩
  | succ f=>exact ⟨fun _=>hq,fun i hi=>by rw[hr] at hi;cases hi⟩
 | cons o r ih=>
  intro k hk hmk fuel listed hls hfu hl1 hl2 H loc ver w l a K Q hI hT h hQ
  have hko:ops[k]? =some o:=by
   have:(ops.toList.drop k)[0]? =some o:=by rw[hk];rfl
   rw[List.getElem?_drop] at this
   simpa using this
  have hks:=(Array.getElem?_eq_some_iff.1 hko).1
  have hkr:ops.toList.drop (k+1)=r:=by rw[← List.drop_drop,hk];rfl
  have hmem:o∈ops.toList:=by
   obtain ⟨hlt,rfl⟩:=Array.getElem?_eq_some_iff.1 hko
   simp
  cases fuel with
  | zero=>simp at hfu
  | succ f=>
   have hrk:k∈Region.ready .any ops listed:=mem_ready.2 ⟨hl2 k (Nat.le_refl _) hks,o,hko,fun e he hb=>hl1 _ (iT (htopo k o hko) e he hb)⟩
   refine ⟨fun hr=>(by rw[hr] at hrk;cases hrk),fun i hi=>?_⟩
   obtain ⟨h1,oi,hoi,h2⟩:=mem_ready.1 hi
   have his:=(Array.getElem?_eq_some_iff.1 hoi).1
   have hik:i=k:=by
    rcases Nat.lt_trichotomy i k with hlt | he | hgt
    ·rw[cF (by omega),hl1 i hlt] at h1;cases h1
    ·exact he
    ·have hcl:Closed ops (fun j=>listed.getD j false=true):=fun j oj hoj hj e he hb=>by
      have hjs:=(Array.getElem?_eq_some_iff.1 hoj).1
      have hjk:j<k:=Classical.byContradiction fun hn=>by
       have:=hl2 j (by omega) hjs
       rw[cF (by omega),hj] at this;cases this
      exact hl1 _ (by have:=iT (htopo j oj hoj) e he hb;omega)
     have:=jS hcl hoi (htail i oi (by omega) hoi k hmk hgt) (fun e he hb=>h2 e he hb)
     rw[← cF (by omega),hl2 k (Nat.le_refl _) hks] at this
     cases this
   subst hik
   simp only[qN] at h
   unfold wpOpIn
   simp only[hko]
   have hrest:∀ {H':List HO} {loc':Nat→Loc} {ver':Nat→Nat} {w':World} {l':List (Nat × SV)} {v:Value},Inv G H' loc' ver' w'→TRel (envOf G H' loc' ver' w') N l' (a.put o.dst v)→Ext (envOf G H loc ver w) (envOf G H' loc' ver' w')→
     eU P Γ N ops.toList r l' H' K→wpAnyIn F n P .any ops Q f (listed.setIfInBounds i true) (a.put o.dst v) w':=by
    intro H' loc' ver' w' l' v hI' hT' hx' h'
    refine ih (i+1) hkr (by omega) f _ (by simp[hls]) (by simpa using hfu) (fun j hj=>?_) (fun j hj hjs=>?_) hI' hT' h' ?_
    ·by_cases e:i=j
     ·subst e;exact eA h1
     ·rw[getD_set_ne false e];exact hl1 j (by omega)
    ·rw[getD_set_ne true (by omega)];exact hl2 j (by omega) hjs
    ·intro l3 H3 loc3 ver3 a3 w3 h3 hI3 hT3 hx3 hs3 hd3
     refine hQ l3 H3 loc3 ver3 a3 w3 h3 hI3 hT3 (hx'.trans hx3) ((Same.put a o.dst v fun t ht=>nG hmem ht).trans hs3) (hd3.trans ?_)
     cases o.dst<;>rfl
   obtain ⟨l',hT',⟨hw,h⟩ | ⟨hw,h⟩⟩:=rC hT h
   ·rw[if_pos hw]
    obtain ⟨hnd,hok⟩:=gK hY hΓ hF hI hT' h
    refine hok.wpIn hF hnd ?_
    rintro v w' ⟨s,H',loc',ver',hk',hI',hr',hx'⟩
    obtain ⟨l'',hk'',hT''⟩:=(hT'.ext hx').any o.dst hk' hr'
    exact hrest hI' hT'' hx' hk''
   ·rw[if_neg (by rw[hw];simp)]
    refine ⟨fun f _=>hF.fn f,?_⟩
    obtain ⟨l'',hk'',hT''⟩:=hT'.any o.dst h (.tup [] [] .nil)
    exact hrest hI hT'' (Ext.refl _) hk''
theorem uA {ops:Array Oper} {i:Nat} {o:Oper} (ho:ops[i]? =some o) (h:jY ops.toList i=true):∃x t,Free ops i o x t:=by
 unfold jY aB9 at h
 simp only[Array.getElem?_toList,ho] at h
 split at h
 ·rename_i x t h1 h2 h3
  rw[Bool.and_eq_true] at h
  have h5:=h.2
  have hall:∀(j:Nat) (o':Oper),ops[j]? =some o'→(j=i∨o'.dst≠some t)∧(aLe x o'=false∨waits o j=true)∧(j=i∨aGj ops.toList o' t=false∨waits o' i=true)∧aLf o'=true:=by
   intro j o' ho'
   have hj:=(Array.getElem?_eq_some_iff.1 ho').1
   have:=List.all_eq_true.1 h5 j (List.mem_range.2 (by simpa using hj))
   simp only[Array.getElem?_toList,ho',Bool.and_eq_true,Bool.or_eq_true,aI,Bool.not_eq_true'] at this
   obtain ⟨q1,q2,q3,q4⟩:=this
   refine ⟨q1.imp id fun h e=>?_,q2,q3,q4⟩
   have:=oG.2 e
   rw[this] at h;cases h
  refine ⟨x,t,ho,h1,h2,h3,fun j o' hj ho'=>((hall j o' ho').1.resolve_left hj),fun j o' ho'=>?_,fun j o' hj ho' hl=>?_,fun j o' ho'=>?_⟩
  ·rcases (hall j o' ho').2.1 with h | h
   ·refine .inr fun u hu=>?_
    subst hu
    simp only[aLe] at h
    intro e
    rw[oG.2 e] at h;cases h
   ·exact .inl h
  ·rcases (hall j o' ho').2.2.1.resolve_left hj with h | h
   ·exfalso
    unfold aGj at h
    simp only[Bool.or_eq_false_iff] at h
    obtain ⟨r1,r2⟩:=h
    rcases hl with hl | ⟨q,b,hg,hd⟩
    ·have:=List.any_eq_false.1 r1 _ hl
     simp at this
    ·rw[hg] at r2
     simp only[aH3] at r2
     have e:(ops.toList[q]?).bind (·.dst)=some t:=by simpa using hd
     rw[e] at r2
     simp at r2
   ·exact h
  ·have:=(hall j o' ho').2.2.2
   unfold aLf at this
   constructor
   ·intro cs b e;rw[e] at this;cases this
   ·intro c e;rw[e] at this;cases this
 ·cases h
theorem aEt {E:Env} {o:Oper} {x:Operand} (hop:pureArg o.op=some x) {lr:List (Nat × SV)} {H:List HO} {K:SV→List HO→Prop} {v:Value} (hX:op1 P Γ o lr H K) (hr:Rel E (ev lr x) v):
  ∃s v0,K s H∧Rel E s v0∧∀(ρ:Operand→Value) (w:World),ρ x=v→(execOp ρ o).run P w= .ok (.value v0) w:=by
 unfold op1 at hX
 cases ho:o.op with
 | move y=>
  rw[ho] at hop hX
  cases hop
  simp only[cT] at hX
  exact ⟨_,v,hX,hr,fun ρ w h=>by simp[execOp,ho,h]⟩
 | extract y k=>
  rw[ho] at hop hX
  cases hop
  simp only at hX
  split at hX
  ·rename_i vs hx
   obtain ⟨hb,hX⟩:=aE hX
   rw[cT] at hX
   rw[hx] at hr
   cases hr with
   | tup _ us hl=>
    have hlt:k<vs.length:=by simpa using hb
    have hlt':k<us.length:=by rw[← hl.length];exact hlt
    exact ⟨_,us.getD k undef,hX,hl.get k hlt,fun ρ w h=>by simp[execOp,ho,h,Instr.extract,hlt']⟩
  ·exact hX.elim
 | _=>rw[ho] at hop;cases hop
theorem aGv (hY:COK P G) (hΓ:∀c∈Γ,aG P c) {F:Fence} (hF:Opn F) {n:Nat} {ops:Array Oper} {m:Nat} (hok:nX ops.toList m=true)
  {H:List HO} {loc:Nat→Loc} {ver:Nat→Nat} {w:World} {l:List (Nat × SV)} {a:Act} {K:List (Nat × SV)→List HO→Prop} {Q:Exit→Act→World→Prop} (hQn:∀e a w,Q e a w→e= .normal) (hI:Inv G H loc ver w) (hT:TRel (envOf G H loc ver w) N l a)
  (h:tJ P Γ N ops.toList (ops.toList.take m) l H fun l'=>eU P Γ N ops.toList (ops.toList.drop m) l' H K)
  (hQ:∀l' H' loc' ver' a' w',K l' H'→Inv G H' loc' ver' w'→TRel (envOf G H' loc' ver' w') N l' a'→Ext (envOf G H loc ver w) (envOf G H' loc' ver' w')→Same (ops.toList.filterMap (·.dst)) a a'→a'.defers=a.defers→Q .normal a' w'):
  wpAnyIn F n P .any ops Q ops.size (Array.replicate ops.size false) a w:=by
 simp only[nX,Bool.and_eq_true] at hok
 obtain ⟨hq0,hq1,hq2,hq3⟩:=hok
 have hms:m≤ops.size:=by simpa using hq0
 have hq:∀i o,i<m→ops[i]? =some o→opOk ops.toList m i o=true:=fun i o hi ho=>fM hq1 hi ho
 have htopo:∀i o,ops[i]? =some o→topo i o=true:=fun i o ho=>fM hq2 (by simpa using (Array.getElem?_eq_some_iff.1 ho).1) ho
 have htail0:∀i o,m≤i→ops[i]? =some o→∀j,j<i→eO (fA ops.toList []) i j=true∨(j<m∧jY ops.toList j=true):=by
  intro i o hi ho j hj
  rw[nW] at hq3
  have:=fM hq3 (by simpa using (Array.getElem?_eq_some_iff.1 ho).1) ho
  simp only[Bool.or_eq_true] at this
  rcases this with h1 | h1
  ·have:i<m:=by simpa using h1
   omega
  ·have:=List.all_eq_true.1 h1 j (List.mem_range.2 hj)
   simpa using this
 have htail:∀i o,m≤i→ops[i]? =some o→∀j,m≤j→j<i→eO (fA ops.toList []) i j=true:=by
  intro i o hi ho j hm hj
  rcases htail0 i o hi ho j hj with h | h
  ·exact h
  ·omega
 obtain ⟨wr,sv,wn,lf,hlf,hRef,hwr,hQP⟩:=virt hY hΓ hq htopo (look l) (ops.toList.take m) 0 (by simp) (wr:=look l) hI hT (fun _ _ _ h=>h) (fun _ _=>rfl) h
 -- some of the first operations have come up
 suffices key:∀(fuel:Nat) (listed:Array Bool) (b:Act) (w1:World) (loc1:Nat→Loc) (ver1:Nat→Nat),listed.size=ops.size→unl listed m+(ops.size-m)≤fuel→(∀j,m≤j→j<ops.size→listed.getD j true=false)→Closed ops (fun j=>listed.getD j false=true)→
   Inv G H loc1 ver1 w1→Ext (envOf G H loc ver w) (envOf G H loc1 ver1 w1)→b.tmps.size=N→b.defers=a.defers→Same (ops.toList.filterMap (·.dst)) a b→
   (∀t j o,j<m→ops[j]? =some o→o.dst=some t→listed.getD j false=true→Rel (envOf G H loc1 ver1 w1) (wr t) (b.tmps.getD t undef))→
   (∀t,(∀j o,j<m→ops[j]? =some o→o.dst=some t→listed.getD j false=false)→b.tmps.getD t undef=a.tmps.getD t undef)→
   wpAnyIn F n P .any ops Q fuel listed b w1 by
  refine key _ _ a w loc ver (by simp) ?_ (fun j _ hj=>by simp[hj]) (fun j o ho hj=>by have:=(Array.getElem?_eq_some_iff.1 ho).1;simp[this] at hj) hI (Ext.refl _) hT.size rfl (Same.refl _ _) (fun t j o _ ho _ hl=>?_) (fun _ _=>rfl)
  ·have:∀k,unl (Array.replicate ops.size false) k≤k:=by
    intro k
    induction k with
    | zero=>exact Nat.le_refl _
    | succ k ih=>simp only[unl];split<;>omega
   have h2:∀k,unl (Array.replicate ops.size false) (ops.size+k)≤ops.size:=by
    intro k
    induction k with
    | zero=>exact this _
    | succ k ih=>
     rw[Nat.add_succ]
     simp only[unl]
     have:(Array.replicate ops.size false).getD (ops.size+k) true=true:=by simp
     rw[this];simpa using ih
   rcases Nat.le_total m ops.size with h3 | h3
   ·have:=this m;omega
   ·have:=h2 (m-ops.size)
    rw[show ops.size+(m-ops.size)=m by omega] at this
    omega
  ·have hj:=(Array.getElem?_eq_some_iff.1 ho).1
   simp[hj] at hl
 have done:∀(fuel:Nat) (listed:Array Bool) (b:Act) (w1:World) (loc1:Nat→Loc) (ver1:Nat→Nat),listed.size=ops.size→ops.size-m≤fuel→(∀j,m≤j→j<ops.size→listed.getD j true=false)→(∀j,j<m→listed.getD j false=true)→
   Inv G H loc1 ver1 w1→Ext (envOf G H loc ver w) (envOf G H loc1 ver1 w1)→b.tmps.size=N→b.defers=a.defers→Same (ops.toList.filterMap (·.dst)) a b→
   (∀t j o,j<m→ops[j]? =some o→o.dst=some t→listed.getD j false=true→Rel (envOf G H loc1 ver1 w1) (wr t) (b.tmps.getD t undef))→
   (∀t,(∀j o,j<m→ops[j]? =some o→o.dst=some t→listed.getD j false=false)→b.tmps.getD t undef=a.tmps.getD t undef)→
   wpAnyIn F n P .any ops Q fuel listed b w1:=by
  intro fuel listed b w1 loc1 ver1 hls hfu hun hall hI1 hx1 hs1 hd1 hsame hex hno
  have hTf:TRel (envOf G H loc1 ver1 w1) N lf b:=⟨hs1,fun t=>hRef _ t _ (by
   by_cases hw:∃j o,j<m∧ops[j]? =some o∧o.dst=some t
   ·obtain ⟨j,o,h1,h2,h3⟩:=hw
    exact hex t j o h1 h2 h3 (hall j h1)
   ·rw[hwr t fun j o _ h1 h2 h3=>hw ⟨j,o,h1,h2,h3⟩,hno t fun j o h1 h2 h3=>(hw ⟨j,o,h1,h2,h3⟩).elim]
    exact (hT.rel t).ext hx1)⟩
  exact xF hY hΓ hF htopo htail _ m rfl (Nat.le_refl _) fuel listed hls (by simpa using hfu) hall hun hI1 hTf hlf
   (fun l' H' loc' ver' a' w' h1 h2 h3 h4 h5 h6=>hQ l' H' loc' ver' a' w' h1 h2 h3 (hx1.trans h4) (hsame.trans h5) (h6.trans hd1))
 intro fuel
 induction fuel with
 | zero=>
  intro listed b w1 loc1 ver1 hls hfu hun hcl hI1 hx1 hs1 hd1 hsame hex hno
  refine done 0 listed b w1 loc1 ver1 hls (by omega) hun (fun j hj=>?_) hI1 hx1 hs1 hd1 hsame hex hno
  have:∀k,unl listed k=0→∀j,j<k→listed.getD j true=true:=by
   intro k
   induction k with
   | zero=>intro _ j hj;omega
   | succ k ih=>
    intro hk j hj
    simp only[unl] at hk
    by_cases e:j=k
    ·subst e
     cases hc:listed.getD j true with
     | true=>rfl
     | false=>rw[hc] at hk;simp at hk
    ·exact ih (by omega) j (by omega)
  rw[← cF (by omega)]
  exact this m (by omega) j hj
 | succ f ih=>
  intro listed b w1 loc1 ver1 hls hfu hun hcl hI1 hx1 hs1 hd1 hsame hex hno
  by_cases hall:∀j,j<m→listed.getD j false=true
  ·exact done (f+1) listed b w1 loc1 ver1 hls (by omega) hun hall hI1 hx1 hs1 hd1 hsame hex hno
  ·-- what is known of an operation among the first
   have one:∀(i:Nat) (o:Oper),i<m→ops[i]? =some o→listed.getD i true=false→(∀e∈o.after,Region.binds .any e=true→listed.getD e.on false=true)→
     (∀t,lk ops o t→Rel (envOf G H loc1 ver1 w1) (rdM ops m (look l) wr i t) (b.tmps.getD t undef))∧
     (∀ {loc':Nat→Loc} {ver':Nat→Nat} {w':World} {v:Value},Inv G H loc' ver' w'→Ext (envOf G H loc1 ver1 w1) (envOf G H loc' ver' w')→Rel (envOf G H loc' ver' w') (sv i) v→
      wpAnyIn F n P .any ops Q f (listed.setIfInBounds i true) (b.put o.dst v) w'):=by
    intro i o him ho h1 h2
    obtain ⟨hwi,hqp⟩:=hQP i o (Nat.zero_le _) him ho
    have hoki:=hq i o him ho
    have hread:∀t,lk ops o t→Rel (envOf G H loc1 ver1 w1) (rdM ops m (look l) wr i t) (b.tmps.getD t undef):=by
     intro t ht
     unfold rdM
     by_cases hl:late ops m i t
     ·rw[if_pos hl]
      obtain ⟨j0,o0,g1,g2,g3,g4⟩:=hl
      obtain ⟨e,he,hb,hon⟩:=fF g4
      have hnl:listed.getD j0 false=false:=by
       cases hc:listed.getD j0 false with
       | false=>rfl
       | true=>
        have:=hcl j0 o0 g2 hc e he hb
        rw[hon] at this
        rw[← cF (by omega),h1] at this
        cases this
      rw[hno t fun j o' h3 h4 h5=>by
       have:=kN (hq j0 o0 g1 g2) g3 h3 h4 h5
       rw[this];exact hnl]
      exact (hT.rel t).ext hx1
     ·rw[if_neg hl]
      by_cases hw:∃j o,j<m∧ops[j]? =some o∧o.dst=some t
      ·obtain ⟨j,o',h3,h4,h5⟩:=hw
       rcases fL (lO hoki ht) h3 h4 h5 with h6 | h6
       ·obtain ⟨e,he,hb,hon⟩:=fF h6.1
        exact hex t j o' h3 h4 h5 (by rw[← hon];exact h2 e he hb)
       ·exact (hl ⟨j,o',h3,h4,h5,h6⟩).elim
      ·rw[hwr t fun j o _ h1 h2 h3=>hw ⟨j,o,h1,h2,h3⟩,hno t fun j o h1 h2 h3=>(hw ⟨j,o,h1,h2,h3⟩).elim]
       exact (hT.rel t).ext hx1
    have hmem:o∈ops.toList:=by
     obtain ⟨hlt,rfl⟩:=Array.getElem?_eq_some_iff.1 ho
     simp
    have hput:∀(v:Value) (t:Nat),(b.put o.dst v).tmps.getD t undef=if o.dst=some t then v else b.tmps.getD t undef:=by
     intro v t
     cases hd:o.dst with
     | none=>simp[Act.put]
     | some u=>
      rw[mY b u t v (by rw[hs1];exact hqp.dst u hd)]
      by_cases e:t=u
      ·subst e;simp
      ·rw[if_neg e,if_neg (fun h=>e (by cases h;rfl))]
    have next:∀ {loc':Nat→Loc} {ver':Nat→Nat} {w':World} {v:Value},Inv G H loc' ver' w'→Ext (envOf G H loc1 ver1 w1) (envOf G H loc' ver' w')→Rel (envOf G H loc' ver' w') (sv i) v→
      wpAnyIn F n P .any ops Q f (listed.setIfInBounds i true) (b.put o.dst v) w':=by
     intro loc' ver' w' v hI' hx' hr'
     have hu:=aCs h1 m
     rw[if_pos him] at hu
     refine ih (listed.setIfInBounds i true) (b.put o.dst v) w' loc' ver' (by simp[hls]) (by omega) (fun j hj hjs=>by rw[getD_set_ne true (by omega)];exact hun j hj hjs) (fun j oj hoj hj e he hb=>by
       show (listed.setIfInBounds i true).getD e.on false=true
       have hj:(listed.setIfInBounds i true).getD j false=true:=hj
       by_cases hie:e.on=i
       ·rw[hie];exact eA h1
       ·rw[getD_set_ne false (Ne.symm hie)]
        by_cases hji:j=i
        ·subst hji;rw[ho] at hoj;cases hoj;exact h2 e he hb
        ·rw[getD_set_ne false (Ne.symm hji)] at hj;exact hcl j oj hoj hj e he hb) hI' (hx1.trans hx') ?_ ?_
      (hsame.trans (Same.put b o.dst v fun t ht=>nG hmem ht)) (fun t j o' hj ho' hd hl=>?_) (fun t hn=>?_)
     ·cases o.dst<;>simp[Act.put,hs1]
     ·refine Eq.trans ?_ hd1
      cases o.dst<;>rfl
     ·rw[hput v t]
      by_cases hdt:o.dst=some t
      ·rw[if_pos hdt,hwi t hdt];exact hr'
      ·rw[if_neg hdt]
       have hji:j≠i:=fun e=>by subst e;rw[ho] at ho';cases ho';exact hdt hd
       rw[getD_set_ne false (Ne.symm hji)] at hl
       exact (hex t j o' hj ho' hd hl).ext hx'
     ·have hdt:o.dst≠some t:=fun hdt=>by
       have:=hn i o him ho hdt
       rw[eA h1] at this;cases this
      rw[hput v t,if_neg hdt]
      refine hno t fun j o' hj ho' hd=>?_
      have hji:j≠i:=fun e=>by subst e;rw[ho] at ho';cases ho';exact hdt hd
      have:=hn j o' hj ho' hd
      rwa [getD_set_ne false (Ne.symm hji)] at this
    exact ⟨hread,next⟩
   by_cases hfree:∃i,i<m∧jY ops.toList i=true∧listed.getD i false=false∧∀o,ops[i]? =some o→∀e∈o.after,Region.binds .any e=true→listed.getD e.on false=true
   ·obtain ⟨i,him,hfi,hli,hdep⟩:=hfree
    obtain ⟨o,ho⟩:∃o,ops[i]? =some o:=⟨ops[i]'(by omega),by simp[show i<ops.size by omega]⟩
    obtain ⟨x,t,hfr⟩:=uA ho hfi
    obtain ⟨hwi,hqp⟩:=hQP i o (Nat.zero_le _) him ho
    have h1:listed.getD i true=false:=by rw[cF (by omega)];exact hli
    obtain ⟨hread,next⟩:=one i o him ho h1 (hdep o ho)
    have hwant:=hqp.want (envOf G H loc1 ver1 w1) b hread
    have hwn:wn i=true:=by rw[← hwant];simp[Region.wanted,hfr.guard]
    rw[hwn] at hqp
    obtain ⟨lr,X,hX,hlr⟩:=hqp.run rfl
    obtain ⟨s,v0,⟨rfl,_,_⟩,hrs,H0⟩:=aEt hfr.op hX (fE (N:=N) ⟨hs1,fun t=>hlr t _ _ (hread t)⟩ x)
    refine aPn (fun f=>hF.fn f) hQn hfr H0 f listed b w1 hls h1 (hdep o ho) rfl ?_
    have hnext:=next (v:=v0) hI1 (Ext.refl _) hrs
    rwa [hfr.dst] at hnext
   obtain ⟨i0,hi0,hmin⟩:∃i0,(i0<m∧listed.getD i0 false=false)∧∀k,(k<m∧listed.getD k false=false)→i0≤k:=by
    have:∃j,j<m∧listed.getD j false=false:=by
     apply Classical.byContradiction
     intro hn
     exact hall fun j hj=>by
      cases hc:listed.getD j false with
      | true=>rfl
      | false=>exact (hn ⟨j,hj,hc⟩).elim
    obtain ⟨j,hj⟩:=this
    exact wV j hj
   have hi0s:i0<ops.size:=by omega
   have hdep0:∀e∈(ops[i0]).after,Region.binds .any e=true→listed.getD e.on false=true:=fun e he hb=>by
    have hlt:=iT (htopo i0 ops[i0] (by simp[hi0s])) e he hb
    cases hc:listed.getD e.on false with
    | true=>rfl
    | false=>have:=hmin e.on ⟨by omega,hc⟩;omega
   have hr0:i0∈Region.ready .any ops listed:=mem_ready.2 ⟨by rw[cF (by omega)];exact hi0.2,ops[i0],by simp[hi0s],hdep0⟩
   have hnf0:jY ops.toList i0=true→False:=fun h=>hfree ⟨i0,hi0.1,h,hi0.2,fun o ho=>by
    have e:o=ops[i0]:=by
     have:ops[i0]? =some ops[i0]:=by simp[hi0s]
     rw[ho] at this;exact Option.some.inj this
    subst e;exact hdep0⟩
   refine ⟨fun hr=>(by rw[hr] at hr0;cases hr0),fun i hi=>?_⟩
   obtain ⟨h1,o,ho,h2⟩:=mem_ready.1 hi
   have his:=(Array.getElem?_eq_some_iff.1 ho).1
   have him:i<m:=by
    apply Classical.byContradiction
    intro hge
    have:=jS hcl ho ((htail0 i o (by omega) ho i0 (by omega)).resolve_right fun hfr=>hnf0 hfr.2) h2
    rw[hi0.2] at this
    cases this
   obtain ⟨hwi,hqp⟩:=hQP i o (Nat.zero_le _) him ho
   obtain ⟨hread,next⟩:=one i o him ho h1 h2
   have hwant:=hqp.want (envOf G H loc1 ver1 w1) b hread
   unfold wpOpIn
   simp only[ho]
   cases hwn:wn i with
   | true=>
    rw[hwn] at hwant hqp
    rw[if_pos hwant]
    obtain ⟨lr,X,hX,hlr⟩:=hqp.run rfl
    obtain ⟨hnd,hopk⟩:=gK hY hΓ hF hI1 (N:=N) ⟨hs1,fun t=>hlr t _ _ (hread t)⟩ hX
    refine hopk.wpIn hF hnd ?_
    rintro v w' ⟨s,H',loc',ver',⟨rfl,rfl,_⟩,hI',hr',hx'⟩
    exact next hI' hx' hr'
   | false=>
    rw[hwn] at hwant hqp
    rw[if_neg (by rw[hwant];simp)]
    refine ⟨fun f _=>hF.fn f,next hI1 (Ext.refl _) ?_⟩
    rw[hqp.skip rfl];exact (.tup [] [] .nil)
end
end Go.Eng
end
section
namespace Go.Eng
open Go.RowKit
section
variable {P:Program} {G:Ctx} {N:Nat} {Γ:List Con}
def addS (S:Nat→Bool) (i:Nat):Nat→Bool:=fun j=>S j || Nat.beq j i
structure Adm (ops:Array Oper) (m:Nat) (S:Nat→Bool) (i:Nat) (o:Oper):Prop where
 not:S i=false
 lt:∀j,S j=true→j<m
 own:∀e∈o.after,Region.binds .any e=true→S e.on=true
 closed:Closed ops (fun j=>S j=true)
structure QG (P:Program) (G:Ctx) (ops:Array Oper) (m:Nat) (hS:(Nat→Bool)→List HO) (N:Nat) (wr:Nat→SV) (sv:SV) (wn:Bool) (i:Nat) (o:Oper):Prop where
 want:∀(E:Env) (a:Act),(∀t,lk ops o t→Rel E (wr t) (a.tmps.getD t undef))→Region.wanted o (yielded ops a.tmps)=wn
 run:wn=true→∀ {F:Fence},Opn F→∀S,Adm ops m S i o→∀ {loc:Nat→Loc} {ver:Nat→Nat} {w:World} {a:Act},Inv G (hS S) loc ver w→a.tmps.size=N→
  (∀t,lk ops o t→Rel (envOf G (hS S) loc ver w) (wr t) (a.tmps.getD t undef))→
  (∀c,o.op≠ .defer c)∧OpOK P F o a w fun v w'=>∃loc' ver',Inv G (hS (addS S i)) loc' ver' w'∧Rel (envOf G (hS (addS S i)) loc' ver' w') sv v∧Ext (envOf G (hS S) loc ver w) (envOf G (hS (addS S i)) loc' ver' w')
 skip:wn=false→sv= .tup []∧∀S,hS (addS S i)=hS S
 dst:∀t,o.dst=some t→t<N
 move:∀x,pureArg o.op=some x→o.guard=none→(∀(E:Env) (a:Act),a.tmps.size=N→(∀t,lk ops o t→Rel E (wr t) (a.tmps.getD t undef))→∃v0,Rel E sv v0∧∀(ρ:Operand→Value) (w:World),ρ x=a.eval x→(execOp ρ o).run P w= .ok (.value v0) w)∧∀S,hS (addS S i)=hS S
def upS (m:Nat) (listed:Array Bool):Nat→Bool:=fun j=>decide (j<m)&&listed.getD j false
theorem aOc {m:Nat} {listed:Array Bool} {i:Nat} (hi:i<m) (h:listed.getD i true=false):upS m (listed.setIfInBounds i true)=addS (upS m listed) i:=by
 funext j
 unfold upS addS
 by_cases e:j=i
 ·subst e
  rw[eA h,bV]
  simp[hi]
 ·rw[getD_set_ne false (Ne.symm e),dH e]
  simp
theorem aE3 (hY:COK P G) (hΓ:∀c∈Γ,aG P c) {F:Fence} (hF:Opn F) {n:Nat} {ops:Array Oper} {m:Nat} (hms:m≤ops.size)
  (hq:∀i o,i<m→ops[i]? =some o→opOk ops.toList m i o=true) (htopo:∀i o,ops[i]? =some o→topo i o=true)
  (htail0:∀i o,m≤i→ops[i]? =some o→∀j,j<i→eO (fA ops.toList []) i j=true∨(j<m∧jY ops.toList j=true))
  {hS:(Nat→Bool)→List HO} {wr sv:Nat→SV} {wn:Nat→Bool} {lf l:List (Nat × SV)}
  (hRef:∀(E:Env) (t:Nat) (v:Value),Rel E (wr t) v→Rel E (look lf t) v) (hwr:∀t,(∀j o,j<m→ops[j]? =some o→o.dst≠some t)→wr t=look l t)
  (hQP:∀j o,j<m→ops[j]? =some o→(∀t,o.dst=some t→wr t=sv j)∧QG P G ops m hS N (rdM ops m (look l) wr j) (sv j) (wn j) j o)
  {loc:Nat→Loc} {ver:Nat→Nat} {w:World} {a:Act} {K:List (Nat × SV)→List HO→Prop} {Q:Exit→Act→World→Prop} (hQn:∀e a w,Q e a w→e= .normal)
  (hI:Inv G (hS fun _=>false) loc ver w) (hT:TRel (envOf G (hS fun _=>false) loc ver w) N l a)
  (hlf:eU P Γ N ops.toList (ops.toList.drop m) lf (hS fun j=>decide (j<m)) K)
  (hQ:∀l' H' loc' ver' a' w',K l' H'→Inv G H' loc' ver' w'→TRel (envOf G H' loc' ver' w') N l' a'→Ext (envOf G (hS fun _=>false) loc ver w) (envOf G H' loc' ver' w')→Same (ops.toList.filterMap (·.dst)) a a'→a'.defers=a.defers→Q .normal a' w'):
  wpAnyIn F n P .any ops Q ops.size (Array.replicate ops.size false) a w:=by
 have htail:∀i o,m≤i→ops[i]? =some o→∀j,m≤j→j<i→eO (fA ops.toList []) i j=true:=by
  intro i o hi ho j hm hj
  rcases htail0 i o hi ho j hj with h | h
  ·exact h
  ·omega
 -- some of the first operations have come up
 suffices key:∀(fuel:Nat) (listed:Array Bool) (b:Act) (w1:World) (loc1:Nat→Loc) (ver1:Nat→Nat),listed.size=ops.size→unl listed m+(ops.size-m)≤fuel→(∀j,m≤j→j<ops.size→listed.getD j true=false)→Closed ops (fun j=>listed.getD j false=true)→
   Inv G (hS (upS m listed)) loc1 ver1 w1→Ext (envOf G (hS fun _=>false) loc ver w) (envOf G (hS (upS m listed)) loc1 ver1 w1)→b.tmps.size=N→b.defers=a.defers→Same (ops.toList.filterMap (·.dst)) a b→
   (∀t j o,j<m→ops[j]? =some o→o.dst=some t→listed.getD j false=true→Rel (envOf G (hS (upS m listed)) loc1 ver1 w1) (wr t) (b.tmps.getD t undef))→
   (∀t,(∀j o,j<m→ops[j]? =some o→o.dst=some t→listed.getD j false=false)→b.tmps.getD t undef=a.tmps.getD t undef)→
   wpAnyIn F n P .any ops Q fuel listed b w1 by
  have hup0:upS m (Array.replicate ops.size false)=fun _=>false:=by
   funext j
   unfold upS
   have:(Array.replicate ops.size false).getD j false=false:=by
    rw[Array.getD_eq_getD_getElem?,Array.getElem?_replicate];split<;>rfl
   rw[this,Bool.and_false]
  refine key _ _ a w loc ver (by simp) ?_ (fun j _ hj=>by simp[hj]) (fun j o ho hj=>by have:=(Array.getElem?_eq_some_iff.1 ho).1;simp[this] at hj) (by rw[hup0];exact hI) (by rw[hup0];exact Ext.refl _) hT.size rfl (Same.refl _ _) (fun t j o _ ho _ hl=>?_) (fun _ _=>rfl)
  ·have:∀k,unl (Array.replicate ops.size false) k≤k:=by
    intro k
    induction k with
    | zero=>exact Nat.le_refl _
    | succ k ih=>simp only[unl];split<;>omega
   have:=this m
   omega
  ·have hj:=(Array.getElem?_eq_some_iff.1 ho).1
   simp[hj] at hl
 have done:∀(fuel:Nat) (listed:Array Bool) (b:Act) (w1:World) (loc1:Nat→Loc) (ver1:Nat→Nat),listed.size=ops.size→ops.size-m≤fuel→(∀j,m≤j→j<ops.size→listed.getD j true=false)→(∀j,j<m→listed.getD j false=true)→
   Inv G (hS (upS m listed)) loc1 ver1 w1→Ext (envOf G (hS fun _=>false) loc ver w) (envOf G (hS (upS m listed)) loc1 ver1 w1)→b.tmps.size=N→b.defers=a.defers→Same (ops.toList.filterMap (·.dst)) a b→
   (∀t j o,j<m→ops[j]? =some o→o.dst=some t→listed.getD j false=true→Rel (envOf G (hS (upS m listed)) loc1 ver1 w1) (wr t) (b.tmps.getD t undef))→
   (∀t,(∀j o,j<m→ops[j]? =some o→o.dst=some t→listed.getD j false=false)→b.tmps.getD t undef=a.tmps.getD t undef)→
   wpAnyIn F n P .any ops Q fuel listed b w1:=by
  intro fuel listed b w1 loc1 ver1 hls hfu hun hall hI1 hx1 hs1 hd1 hsame hex hno
  have hupf:upS m listed=fun j=>decide (j<m):=by
   funext j
   unfold upS
   by_cases hj:j<m
   ·simp[hj,hall j hj]
   ·simp[hj]
  rw[hupf] at hI1 hx1 hex
  have hTf:TRel (envOf G (hS fun j=>decide (j<m)) loc1 ver1 w1) N lf b:=⟨hs1,fun t=>hRef _ t _ (by
   by_cases hw:∃j o,j<m∧ops[j]? =some o∧o.dst=some t
   ·obtain ⟨j,o,h1,h2,h3⟩:=hw
    exact hex t j o h1 h2 h3 (hall j h1)
   ·rw[hwr t fun j o h1 h2 h3=>hw ⟨j,o,h1,h2,h3⟩,hno t fun j o h1 h2 h3=>(hw ⟨j,o,h1,h2,h3⟩).elim]
    exact (hT.rel t).ext hx1)⟩
  exact xF hY hΓ hF htopo htail _ m rfl (Nat.le_refl _) fuel listed hls (by simpa using hfu) hall hun hI1 hTf hlf
   (fun l' H' loc' ver' a' w' h1 h2 h3 h4 h5 h6=>hQ l' H' loc' ver' a' w' h1 h2 h3 (hx1.trans h4) (hsame.trans h5) (h6.trans hd1))
 intro fuel
 induction fuel with
 | zero=>
  intro listed b w1 loc1 ver1 hls hfu hun hcl hI1 hx1 hs1 hd1 hsame hex hno
  refine done 0 listed b w1 loc1 ver1 hls (by omega) hun (fun j hj=>?_) hI1 hx1 hs1 hd1 hsame hex hno
  have:∀k,unl listed k=0→∀j,j<k→listed.getD j true=true:=by
   intro k
   induction k with
   | zero=>intro _ j hj;omega
   | succ k ih=>
    intro hk j hj
    simp only[unl] at hk
    by_cases e:j=k
    ·subst e
     cases hc:listed.getD j true with
     | true=>rfl
     | false=>rw[hc] at hk;simp at hk
    ·exact ih (by omega) j (by omega)
  rw[← cF (by omega)]
  exact this m (by omega) j hj
 | succ f ih=>
  intro listed b w1 loc1 ver1 hls hfu hun hcl hI1 hx1 hs1 hd1 hsame hex hno
  by_cases hall:∀j,j<m→listed.getD j false=true
  ·exact done (f+1) listed b w1 loc1 ver1 hls (by omega) hun hall hI1 hx1 hs1 hd1 hsame hex hno
  ·have adm:∀(i:Nat) (o:Oper),i<m→ops[i]? =some o→listed.getD i true=false→(∀e∈o.after,Region.binds .any e=true→listed.getD e.on false=true)→Adm ops m (upS m listed) i o:=by
    intro i o him ho h1 h2
    have hlo:∀j,listed.getD j false=true→upS m listed j=true:=by
     intro j hj
     have hjs:j<ops.size:=by
      rw[← hls]
      apply Classical.byContradiction
      intro hn
      rw[Array.getD_eq_getD_getElem?,Array.getElem?_eq_none (by omega)] at hj
      cases hj
     have:j<m:=Classical.byContradiction fun hn=>by
      have:=hun j (by omega) hjs
      rw[cF (by omega),hj] at this;cases this
     simp[upS,this,hj]
    refine ⟨?_,fun j hj=>?_,fun e he hb=>hlo _ (h2 e he hb),fun j oj hoj hj e he hb=>hlo _ (hcl j oj hoj ?_ e he hb)⟩
    ·rw[cF (by omega)] at h1
     simp[upS,h1]
    ·simp only[upS,Bool.and_eq_true,decide_eq_true_eq] at hj;exact hj.1
    ·simp only[upS,Bool.and_eq_true] at hj;exact hj.2
   -- what is known of an operation among the first
   have one:∀(i:Nat) (o:Oper),i<m→ops[i]? =some o→listed.getD i true=false→(∀e∈o.after,Region.binds .any e=true→listed.getD e.on false=true)→
     (∀t,lk ops o t→Rel (envOf G (hS (upS m listed)) loc1 ver1 w1) (rdM ops m (look l) wr i t) (b.tmps.getD t undef))∧
     (∀ {loc':Nat→Loc} {ver':Nat→Nat} {w':World} {v:Value},Inv G (hS (addS (upS m listed) i)) loc' ver' w'→Ext (envOf G (hS (upS m listed)) loc1 ver1 w1) (envOf G (hS (addS (upS m listed) i)) loc' ver' w')→Rel (envOf G (hS (addS (upS m listed) i)) loc' ver' w') (sv i) v→
      wpAnyIn F n P .any ops Q f (listed.setIfInBounds i true) (b.put o.dst v) w'):=by
    intro i o him ho h1 h2
    obtain ⟨hwi,hqp⟩:=hQP i o him ho
    have hoki:=hq i o him ho
    have hread:∀t,lk ops o t→Rel (envOf G (hS (upS m listed)) loc1 ver1 w1) (rdM ops m (look l) wr i t) (b.tmps.getD t undef):=by
     intro t ht
     unfold rdM
     by_cases hl:late ops m i t
     ·rw[if_pos hl]
      obtain ⟨j0,o0,g1,g2,g3,g4⟩:=hl
      obtain ⟨e,he,hb,hon⟩:=fF g4
      have hnl:listed.getD j0 false=false:=by
       cases hc:listed.getD j0 false with
       | false=>rfl
       | true=>
        have:=hcl j0 o0 g2 hc e he hb
        rw[hon] at this
        rw[← cF (by omega),h1] at this
        cases this
      rw[hno t fun j o' h3 h4 h5=>by
       have:=kN (hq j0 o0 g1 g2) g3 h3 h4 h5
       rw[this];exact hnl]
      exact (hT.rel t).ext hx1
     ·rw[if_neg hl]
      by_cases hw:∃j o,j<m∧ops[j]? =some o∧o.dst=some t
      ·obtain ⟨j,o',h3,h4,h5⟩:=hw
       rcases fL (lO hoki ht) h3 h4 h5 with h6 | h6
       ·obtain ⟨e,he,hb,hon⟩:=fF h6.1
        exact hex t j o' h3 h4 h5 (by rw[← hon];exact h2 e he hb)
       ·exact (hl ⟨j,o',h3,h4,h5,h6⟩).elim
      ·rw[hwr t fun j o h1 h2 h3=>hw ⟨j,o,h1,h2,h3⟩,hno t fun j o h1 h2 h3=>(hw ⟨j,o,h1,h2,h3⟩).elim]
       exact (hT.rel t).ext hx1
    have hmem:o∈ops.toList:=by
     obtain ⟨hlt,rfl⟩:=Array.getElem?_eq_some_iff.1 ho
     simp
    have hput:∀(v:Value) (t:Nat),(b.put o.dst v).tmps.getD t undef=if o.dst=some t then v else b.tmps.getD t undef:=by
     intro v t
     cases hd:o.dst with
     | none=>simp[Act.put]
     | some u=>
      rw[mY b u t v (by rw[hs1];exact hqp.dst u hd)]
      by_cases e:t=u
      ·subst e;simp
      ·rw[if_neg e,if_neg (fun h=>e (by cases h;rfl))]
    have next:∀ {loc':Nat→Loc} {ver':Nat→Nat} {w':World} {v:Value},Inv G (hS (addS (upS m listed) i)) loc' ver' w'→Ext (envOf G (hS (upS m listed)) loc1 ver1 w1) (envOf G (hS (addS (upS m listed) i)) loc' ver' w')→Rel (envOf G (hS (addS (upS m listed) i)) loc' ver' w') (sv i) v→
      wpAnyIn F n P .any ops Q f (listed.setIfInBounds i true) (b.put o.dst v) w':=by
     intro loc' ver' w' v hI' hx' hr'
     have hu:=aCs h1 m
     rw[if_pos him] at hu
     have hup:=aOc him h1
     rw[← hup] at hI' hx' hr'
     refine ih (listed.setIfInBounds i true) (b.put o.dst v) w' loc' ver' (by simp[hls]) (by omega) (fun j hj hjs=>by rw[getD_set_ne true (by omega)];exact hun j hj hjs) (fun j oj hoj hj e he hb=>by
       show (listed.setIfInBounds i true).getD e.on false=true
       have hj:(listed.setIfInBounds i true).getD j false=true:=hj
       by_cases hie:e.on=i
       ·rw[hie];exact eA h1
       ·rw[getD_set_ne false (Ne.symm hie)]
        by_cases hji:j=i
        ·subst hji;rw[ho] at hoj;cases hoj;exact h2 e he hb
        ·rw[getD_set_ne false (Ne.symm hji)] at hj;exact hcl j oj hoj hj e he hb) hI' (hx1.trans hx') ?_ ?_
      (hsame.trans (Same.put b o.dst v fun t ht=>nG hmem ht)) (fun t j o' hj ho' hd hl=>?_) (fun t hn=>?_)
     ·cases o.dst<;>simp[Act.put,hs1]
     ·refine Eq.trans ?_ hd1
      cases o.dst<;>rfl
     ·rw[hput v t]
      by_cases hdt:o.dst=some t
      ·rw[if_pos hdt,hwi t hdt];exact hr'
      ·rw[if_neg hdt]
       have hji:j≠i:=fun e=>by subst e;rw[ho] at ho';cases ho';exact hdt hd
       rw[getD_set_ne false (Ne.symm hji)] at hl
       exact (hex t j o' hj ho' hd hl).ext hx'
     ·have hdt:o.dst≠some t:=fun hdt=>by
       have:=hn i o him ho hdt
       rw[eA h1] at this;cases this
      rw[hput v t,if_neg hdt]
      refine hno t fun j o' hj ho' hd=>?_
      have hji:j≠i:=fun e=>by subst e;rw[ho] at ho';cases ho';exact hdt hd
      have:=hn j o' hj ho' hd
      rwa [getD_set_ne false (Ne.symm hji)] at this
    exact ⟨hread,next⟩
   by_cases hfree:∃i,i<m∧jY ops.toList i=true∧listed.getD i false=false∧∀o,ops[i]? =some o→∀e∈o.after,Region.binds .any e=true→listed.getD e.on false=true
   ·obtain ⟨i,him,hfi,hli,hdep⟩:=hfree
    obtain ⟨o,ho⟩:∃o,ops[i]? =some o:=⟨ops[i]'(by omega),by simp[show i<ops.size by omega]⟩
    obtain ⟨x,t,hfr⟩:=uA ho hfi
    obtain ⟨hwi,hqp⟩:=hQP i o him ho
    have h1:listed.getD i true=false:=by rw[cF (by omega)];exact hli
    obtain ⟨hread,next⟩:=one i o him ho h1 (hdep o ho)
    obtain ⟨hmv,hsm⟩:=hqp.move x hfr.op hfr.guard
    obtain ⟨v0,hrs,H0⟩:=hmv _ b hs1 hread
    refine aPn (fun f=>hF.fn f) hQn hfr H0 f listed b w1 hls h1 (hdep o ho) rfl ?_
    have hnext:=next (loc':=loc1) (ver':=ver1) (w':=w1) (v:=v0) (by rw[hsm];exact hI1) (by rw[hsm];exact Ext.refl _) (by rw[hsm];exact hrs)
    rwa [hfr.dst] at hnext
   obtain ⟨i0,hi0,hmin⟩:∃i0,(i0<m∧listed.getD i0 false=false)∧∀k,(k<m∧listed.getD k false=false)→i0≤k:=by
    have:∃j,j<m∧listed.getD j false=false:=by
     apply Classical.byContradiction
     intro hn
     exact hall fun j hj=>by
      cases hc:listed.getD j false with
      | true=>rfl
      | false=>exact (hn ⟨j,hj,hc⟩).elim
    obtain ⟨j,hj⟩:=this
    exact wV j hj
   have hi0s:i0<ops.size:=by omega
   have hdep0:∀e∈(ops[i0]).after,Region.binds .any e=true→listed.getD e.on false=true:=fun e he hb=>by
    have hlt:=iT (htopo i0 ops[i0] (by simp[hi0s])) e he hb
    cases hc:listed.getD e.on false with
    | true=>rfl
    | false=>have:=hmin e.on ⟨by omega,hc⟩;omega
   have hr0:i0∈Region.ready .any ops listed:=mem_ready.2 ⟨by rw[cF (by omega)];exact hi0.2,ops[i0],by simp[hi0s],hdep0⟩
   have hnf0:jY ops.toList i0=true→False:=fun h=>hfree ⟨i0,hi0.1,h,hi0.2,fun o ho=>by
    have e:o=ops[i0]:=by
     have:ops[i0]? =some ops[i0]:=by simp[hi0s]
     rw[ho] at this;exact Option.some.inj this
    subst e;exact hdep0⟩
   refine ⟨fun hr=>(by rw[hr] at hr0;cases hr0),fun i hi=>?_⟩
   obtain ⟨h1,o,ho,h2⟩:=mem_ready.1 hi
   have his:=(Array.getElem?_eq_some_iff.1 ho).1
   have him:i<m:=by
    apply Classical.byContradiction
    intro hge
    have:=jS hcl ho ((htail0 i o (by omega) ho i0 (by omega)).resolve_right fun hfr=>hnf0 hfr.2) h2
    rw[hi0.2] at this
    cases this
   obtain ⟨hwi,hqp⟩:=hQP i o him ho
   obtain ⟨hread,next⟩:=one i o him ho h1 h2
   have hwant:=hqp.want _ b hread
   unfold wpOpIn
   simp only[ho]
   cases hwn:wn i with
   | true=>
    rw[hwn] at hwant hqp
    rw[if_pos hwant]
    obtain ⟨hnd,hopk⟩:=hqp.run rfl hF _ (adm i o him ho h1 h2) hI1 hs1 hread
    refine hopk.wpIn hF hnd ?_
    rintro v w' ⟨loc',ver',hI',hr',hx'⟩
    exact next hI' hx' hr'
   | false=>
    rw[hwn] at hwant hqp
    obtain ⟨hs,hsm⟩:=hqp.skip rfl
    rw[if_neg (by rw[hwant];simp)]
    refine ⟨fun f _=>hF.fn f,next (loc':=loc1) (ver':=ver1) (by rw[hsm];exact hI1) (by rw[hsm];exact Ext.refl _) ?_⟩
    rw[hs];exact (.tup [] [] .nil)
end
end Go.Eng
end
section
namespace Go.Eng
open Go.RowKit
section
variable {P:Program} {G:Ctx} {N:Nat} {Γ:List Con} {H:List HO} {loc:Nat→Loc} {ver:Nat→Nat} {w:World}
theorem lQ (B:List HO):∀(fx:List Fx) (S:Nat→Bool),(cP B fx S).length=B.length
 | [],_=>rfl
 | f::r,S=>by
  simp only[fC]
  cases S f.p with
  | true=>simp only[cond_true,hset,List.length_set];exact lQ B r S
  | false=>exact lQ B r S
theorem dD (B:List HO) {S S':Nat→Bool}:∀(fx:List Fx),(∀f∈fx,S f.p=S' f.p)→cP B fx S=cP B fx S'
 | [],_=>rfl
 | f::r,h=>by
  simp only[fC]
  rw[h f List.mem_cons_self,dD B r fun g hg=>h g (List.mem_cons_of_mem _ hg)]
theorem lU (B:List HO):∀(fx:List Fx),cP B fx (fun _=>false)=B
 | []=>rfl
 | f::r=>by simp only[cP,cond_false];exact lU B r
theorem aAw (B:List HO) {i:Nat}:∀(fx:List Fx) {f:Fx} {S:Nat→Bool},f∈fx→f.p=i→S i=false→fx.Pairwise (fun a b=>a.p≠b.p)→(∀g∈fx,g.p≠i→S g.p=true→g.n≠f.n)→cP B fx (addS S i)=hset (cP B fx S) f.n f.o
 | g::r,f,S,hf,hp,hS,hd,hn=>by
  obtain ⟨hd1,hd2⟩:=List.pairwise_cons.1 hd
  by_cases hg:g.p=i
  ·have hfr:f ∉ r:=fun h=>hd1 f h (by rw[hg,hp])
   have hfg:f=g:=by
    rcases List.mem_cons.1 hf with h | h
    ·exact h
    ·exact absurd h hfr
   subst hfg
   simp only[fC]
   rw[hp,hS,show addS S i i=true from by simp[addS],cond_true,cond_false]
   congr 1
   refine dD B r fun q hq=>?_
   have hne:q.p≠i:=fun e=>hd1 q hq (by rw[hp,e])
   simp[addS,dH hne]
  ·have hfr:f∈r:=by
    rcases List.mem_cons.1 hf with h | h
    ·exact absurd (h ▸ hp) hg
    ·exact h
   have ih:=aAw B r hfr hp hS hd2 fun q hq=>hn q (List.mem_cons_of_mem _ hq)
   simp only[fC]
   rw[show addS S i g.p=S g.p from by simp[addS,dH hg],ih]
   cases hSg:S g.p with
   | false=>rfl
   | true=>
    simp only[cond_true,hset]
    exact List.set_comm _ _ (fun e=>hn g List.mem_cons_self hg hSg e.symm)
theorem nJ (B:List HO) {n:Nat}:∀(fx:List Fx) {S:Nat→Bool},(∀g∈fx,S g.p=true→g.n≠n)→(cP B fx S)[n]? =B[n]?
 | [],_,_=>rfl
 | g::r,S,h=>by
  have ih:=nJ B r fun q hq=>h q (List.mem_cons_of_mem _ hq)
  simp only[fC]
  cases hS:S g.p with
  | false=>exact ih
  | true=>
   simp only[cond_true,hset]
   rw[aL (fun e=>h g List.mem_cons_self hS e.symm)]
   exact ih
theorem Inv.keep (hI:Inv G H loc ver w):Inv G (H++ [.res]) loc ver w∧Ext (envOf G H loc ver w) (envOf G (H++ [.res]) loc ver w):=by
 refine hI.turn H.length (by simp) (fun k hk=>⟨cD hk,rfl,rfl⟩) (fun h=>by rw[hZ] at h;cases h) (fun h=>by rw[hZ] at h;cases h) (Nat.le_refl _) rfl rfl rfl (by simp) (fun h=>by rw[hZ] at h;cases h)
  (fun st n it b h=>by rw[bP] at h;cases h) (fun _ _ _=>rfl) ?_ ?_
 ·intro o' b ho' hb
  rw[bP] at ho';cases ho'
  exact hb.elim
 ·intro hx o' ho'
  rw[bP] at ho';cases ho'
  trivial
theorem Inv.keeps (q:Nat):∀ {H:List HO},Inv G H loc ver w→Inv G (H++List.replicate q .res) loc ver w∧Ext (envOf G H loc ver w) (envOf G (H++List.replicate q .res) loc ver w):=by
 induction q with
 | zero=>intro H hI;rw[List.replicate_zero,List.append_nil];exact ⟨hI,Ext.refl _⟩
 | succ q ih=>
  intro H hI
  obtain ⟨h1,h2⟩:=hI.keep
  obtain ⟨h3,h4⟩:=ih h1
  rw[List.replicate_succ,show H++HO.res::List.replicate q .res=H++ [.res]++List.replicate q .res by simp]
  exact ⟨h3,h2.trans h4⟩
theorem Inv.atRes (hI:Inv G H loc ver w) {n:Nat} (hn:H[n]? =some .res) {w':World} (o:HO) (L:Loc) (v:Nat)
  (hsz:w.heap.size≤w'.heap.size) (hos:w'.os=w.os) (htp:w'.tape=w.tape) (hout:w'.output=w.output)
  (hblk:∀b,b<w.heap.size→w'.heap[b]? =w.heap[b]?) (hfr:∀b,Owns L o b→w.heap.size≤b)
  (hnew:Ext (envOf G H loc ver w) (envOf G (hset H n o) (upd loc n L) (upd ver n v) w')→OSat (envOf G (hset H n o) (upd loc n L) (upd ver n v) w') L v o)
  (hny:∀st n it,o≠ .yst st n it:=by intro _ _ _ h;cases h):
  Inv G (hset H n o) (upd loc n L) (upd ver n v) w'∧Ext (envOf G H loc ver w) (envOf G (hset H n o) (upd loc n L) (upd ver n v) w'):=by
 have hlt:n<H.length:=(List.getElem?_eq_some_iff.1 hn).1
 have hno:hasB H n=false:=by
  unfold hasB hget
  rw[List.getD_eq_getElem?_getD,hn]
  simp[oV]
 refine hI.turn n (by simp[hset]) (fun k hk=>⟨aL hk,aV _ _ _ hk,aV _ _ _ hk⟩) (fun h=>by rw[hno] at h;cases h) (fun h=>by rw[hno] at h;cases h) hsz hos htp hout (by rw[hn];simp) (fun h=>by rw[hno] at h;cases h)
  (fun st n' it b h=>by rw[show hset H n o=H.set n o from rfl,aB hlt] at h;cases h;exact (hny _ _ _ rfl).elim) (fun b hb _=>hblk b hb) ?_ ?_
 ·intro o' b ho' hb
  rw[show hset H n o=H.set n o from rfl,aB hlt] at ho';cases ho'
  rw[aF] at hb
  exact .inr (hfr b hb)
 ·intro hx o' ho'
  rw[show hset H n o=H.set n o from rfl,aB hlt] at ho';cases ho'
  rw[aF,aF]
  exact hnew hx
def AllocOK (P:Program) (G:Ctx) (N:Nat) (o:Oper) (lr:List (Nat × SV)) (n:Nat) (s:SV) (ob:HO):Prop:=
 oV ob=false∧∀ {F:Fence},Opn F→∀ {H:List HO} {loc:Nat→Loc} {ver:Nat→Nat} {w:World} {a:Act},Inv G H loc ver w→H[n]? =some .res→TRel (envOf G H loc ver w) N lr a→
  (∀c,o.op≠ .defer c)∧OpOK P F o a w fun v w'=>∃loc' ver',Inv G (hset H n ob) loc' ver' w'∧Rel (envOf G (hset H n ob) loc' ver' w') s v∧Ext (envOf G H loc ver w) (envOf G (hset H n ob) loc' ver' w')
theorem xN {H:List HO} {n:Nat} {o:HO} (h:n<H.length) (ho:oV o=false):hasB (hset H n o) n=true:=bA (aB h) ho
theorem aE4 {o:Oper} {l lr:List (Nat × SV)} {n:Nat} {t:TypeId} {pn pc:Operand} {K:SV→HO→Prop} (h:aHy P t (ev l pn) (ev l pc) fun m ty e ei=>K (.ref n 1) (.vv 1 0 ty (List.replicate m.toNat []) none e ei)) (hop:o.op= .makeSlice t pn pc) (hlr:∀x∈o.op.operands,ev lr x=ev l x):∃s ob,K s ob∧AllocOK P G N o lr n s ob:=False.elim h
theorem aC1 (hY:COK P G) (hΓ:∀c∈Γ,aG P c) {o:Oper} {l lr:List (Nat × SV)} {n:Nat} {K:SV→HO→Prop} (h:aCd P Γ o l n K) (hlr:∀x∈o.op.operands,ev lr x=ev l x):∃s ob,K s ob∧AllocOK P G N o lr n s ob:=by
 unfold aCd at h
 split at h
 ·rename_i t pn pc hop
  cases hvv:aB5 P t with
  | true=>
   rw[hvv] at h
   obtain ⟨s,ob,hk,hob⟩:=aE4 (lr:=lr) h hop hlr
   exact ⟨s,ob,hk,hob⟩
  | false=>
  rw[hvv] at h
  replace h:aLi P t n (ev l pn) (ev l pc) K:=h
  unfold aLi at h
  split at h
  case h_2=>exact h.elim
  rename_i e kn nn kc nc he hen hec
  split at h
  case h_2=>exact h.elim
  rename_i tt i z htt hi hz
  obtain ⟨hb,h1⟩:=aE h
  clear h
  split at h1
  case h_2=>exact h1.elim
  rename_i x0 hd
  obtain ⟨⟨n1,n2,n3,n4⟩,hk⟩:=h1
  refine ⟨_,_,hk,rfl,?_⟩
  intro F hF H loc ver w a hI hn hT
  refine ⟨by simp[hop],?_⟩
  have hu:=bF he
  have e1:=fE hT pn
  have e2:=fE hT pc
  rw[hlr pn (by rw[hop];simp[Op.operands]),hen] at e1
  rw[hlr pc (by rw[hop];simp[Op.operands]),hec] at e2
  obtain ⟨e3,_⟩:=e1.int_inv
  obtain ⟨e4,_⟩:=e2.int_inv
  simp only[Bool.and_eq_true,aI] at hb
  obtain ⟨⟨hb1,hb2⟩,hb3⟩:=hb
  obtain ⟨zv,hzv,rfl⟩:=tR hz hi
  have hzl:zv.cells.size=tt.size:=by simpa using hb3
  have hpos:=tt.size_pos
  have hr:=run_make (P:=P) w t e i zv hu hi hzv kn kc nn nc n1 n2 (by rw[Int.mul_comm];omega) (by omega)
  have hlt:n<H.length:=(List.getElem?_eq_some_iff.1 hn).1
  have hf:=hI.atRes hn (w':=w.alloc (.cells (madeCells zv.cells (nc.toNat*i.size)) e)) (.vec 1 tt (List.replicate nn.toNat x0) e) (mkL (some (w.heap.size,0)) (nn.toNat) (nc.toNat)) 1 (by simp) rfl rfl rfl (fun b hb=>Below.heap_alloc w _ b hb) (by intro b hb;simp[Owns] at hb;omega)
   (fun hx=>by
    have hm:nn.toNat*tt.size≤nc.toNat*i.size:=by rw[hb1];exact Nat.mul_le_mul_right _ (by omega)
    refine ⟨rfl,Nat.one_pos,by simp,by show nn.toNat≤140737488355328;omega,(madeCells zv.cells (nc.toNat*i.size)).toList.take (nn.toNat*tt.size),⟨by show (List.take _ _).length=nn.toNat*tt.size;rw[List.length_take,Array.length_toList,size_madeCells];exact Nat.min_eq_left hm,.inr ⟨w.heap.size,nc.toNat,madeCells zv.cells (nc.toNat*i.size),rfl,Nat.zero_le _,dP w _,by show nn.toNat≤nc.toNat;omega,by simp[maxLen];omega,by rw[size_madeCells,hb1];exact Nat.le_refl _,rfl⟩⟩,fun j hj=>?_⟩
    have hj':j<nn.toNat:=hj
    have hjm:j*tt.size+tt.size≤nn.toNat*tt.size:=by
     have:(j+1)*tt.size≤nn.toNat*tt.size:=Nat.mul_le_mul_right _ hj'
     rwa [Nat.add_mul,Nat.one_mul] at this
    have e1:(List.replicate nn.toNat x0).getD j tt.dflt=x0:=by
     rw[List.getD_eq_getElem?_getD]
     have:(List.replicate nn.toNat x0)[j]? =some x0:=by simp[hj']
     rw[this];rfl
    have e2:((((madeCells zv.cells (nc.toNat*i.size)).toList.take (nn.toNat*tt.size)).drop (j*tt.size)).take tt.size)=zv.cells.toList:=by
     apply List.ext_getElem?
     intro q
     rw[List.getElem?_take]
     by_cases hq:q<tt.size
     ·rw[if_pos hq,List.getElem?_drop,List.getElem?_take,if_pos (by omega),pC _ _ (by omega) _ (by omega)]
      have:(j*tt.size+q)%zv.cells.size=q:=by rw[hzl,Nat.mul_comm,Nat.mul_add_mod];exact Nat.mod_eq_of_lt hq
      rw[this]
      have hq2:q<zv.cells.toList.length:=by simp;omega
      simp[hzl,hq]
     ·rw[if_neg hq,List.getElem?_eq_none (by simp;omega)]
    rw[e1,e2]
    exact kH (iA _ _) hd hb2)
  refine .value (.slice (some ⟨w.heap.size,0,none⟩) nn.toNat nc.toNat) _ (by simp[execOp,hop,e3,e4,hr]) ⟨_,_,hf.1,?_,hf.2⟩
  refine .ref _ _ _ (xN hlt rfl) Nat.one_pos (by simp[envOf,aF]) fun _=>?_
  simp[envOf,aF,Core.head]
 ·rename_i t hop
  split at h
  case h_2=>exact h.elim
  rename_i z hz
  rw[aK] at h
  refine ⟨_,_,h,rfl,?_⟩
  intro F hF H loc ver w a hI hn hT
  refine ⟨by simp[hop],?_⟩
  obtain ⟨v,hv,rfl⟩:=gH hz w
  have hlt:n<H.length:=(List.getElem?_eq_some_iff.1 hn).1
  have hf:=hI.atRes hn (w':=w.alloc (.cells v.cells t)) (.cells (v.cells.toList.map cst) t) (mkL (some (w.heap.size,0)) 0 0) 0 (by simp) rfl rfl rfl (fun b hb=>Below.heap_alloc w _ b hb) (by intro b hb;simp[Owns] at hb;omega)
   (fun hx=>⟨rfl,w.heap.size,v.cells.toList,rfl,dP w _,iA _ _⟩)
  refine .value (.pointer (some ⟨w.heap.size,0,none⟩)) _ (by simp[execOp,hop,oC hv]) ⟨_,_,hf.1,?_,hf.2⟩
  refine .ptr _ _ _ (xN hlt rfl) fun _=>⟨w.heap.size,by simp[envOf,aF],rfl⟩
 ·rename_i c hop
  split at h
  case h_2=>exact h.elim
  rename_i g hc
  split at h
  case h_2=>exact h.elim
  rename_i d hcon
  split at h
  case h_2=>exact h.elim
  rename_i cl _ _ hown
  obtain ⟨hmem,rfl⟩:=sE hcon
  obtain ⟨hent,_,_,hso,_⟩:=hΓ d hmem
  unfold ownD at h
  simp only[dG] at h
  have h':=aE h
  clear h
  obtain ⟨hb,h⟩:=h'
  obtain ⟨r,k,t,ys,e,hk,htri⟩:=hso cl hown _ _ h
  simp only[cT] at hk
  have hk':=aE hk
  clear hk
  obtain ⟨hb2,hk⟩:=hk'
  simp only[Bool.and_eq_true] at hb2
  have htri:=htri hb2.1
  refine ⟨_,_,hk,rfl,?_⟩
  intro F hF H loc ver w a hI hn hT
  refine ⟨by simp[hop],?_⟩
  have hlt:n<H.length:=(List.getElem?_eq_some_iff.1 hn).1
  have hargs:=oB hT c.args.toList
  have hmap:c.args.toList.map (ev lr)=c.args.toList.map (ev l):=List.map_congr_left fun x hx=>hlr x (by rw[hop];simp only[Op.operands,Call.operands];simp;first | exact .inr (by simpa using hx) | exact .inl (by simpa using hx) | simp_all)
  rw[hmap] at hargs
  have hargs0:=RelL.bare (E:=envOf G H loc ver w) (E':=env0 w (okN G H loc w)) (fun _ _ _ h _=>h) (fun _ h=>h) hargs hb
  have e1:=fE hT (.func d.f)
  simp only[ev] at e1
  generalize hv:a.eval (.func d.f)=v at e1
  cases e1 with
  | clo _ _ _ va vb ha hb'=>
   cases ha
   cases hb'
   refine .call d.f ⟨[]++c.args.toList.map a.eval++ []⟩ ?_ fun m=>hF.calls ?_
   ·simp only[execOp,hop]
    rw[tT hc hv]
    exact hent _ _
   ·rw[List.nil_append,List.append_nil]
    refine (htri _ w _ (hY.now hI) (fun _ h=>h.2.1) hargs0).mono ?_
    rintro en w' ⟨v,L',rfl,hbel,hblk,⟨q1,q2,rs,q3,q4⟩,hrel⟩
    have hf:=hI.atRes hn (w':=w') (.vec 1 t ys e) L' 1 hbel.size hbel.os hbel.tape hbel.output (fun b hb=>hbel.block b hb) (fun b hb=>hblk b hb)
     (fun hx=>⟨rfl,Nat.one_pos,q1,q2,rs,q3,fun i hi=>Reads.flatJ hb2.1 (q4 i hi)⟩) (by intro _ _ _ h;cases h)
    exact ⟨v,rfl,_,_,hf.1,aEc (by exact xN hlt rfl) (by simp[envOf,aF]) (by simp[envOf,aF]) hrel hb2.2,hf.2⟩
 ·exact h.elim
structure FxOk (ops:Array Oper) (n0 na k:Nat) (fx:List Fx):Prop where
 lt:∀f∈fx,f.p<k
 apart:fx.Pairwise fun a b=>a.p≠b.p
 names:∀f∈fx,f.n<n0+na
 own:∀f∈fx,n0≤f.n→∀g∈fx,f.p<g.p→g.n=f.n→∃o,ops[g.p]? =some o∧waits o f.p=true
structure OneG (P:Program) (G:Ctx) (Γ:List Con) (ops:Array Oper) (n0 na:Nat) (N:Nat) (fx:List Fx) (rs:List Rc) (wr:Nat→SV) (sv:SV) (wn:Bool) (j:Nat) (o:Oper):Prop where
 want:∀(E:Env) (a:Act),(∀t,lk ops o t→Rel E (wr t) (a.tmps.getD t undef))→Region.wanted o (yielded ops a.tmps)=wn
 skip:wn=false→sv= .tup []∧∀f∈fx,f.p≠j
 dst:∀t,o.dst=some t→t<N
 plain:o.guard=none→wn=true
 run:wn=true→(isA Γ o=true∧∃f lr,f∈fx∧f.p=j∧n0≤f.n∧(∀g∈fx,g.p≠j→g.n=f.n→j<g.p)∧AllocOK P G N o lr f.n sv f.o∧∀(t:Nat) (E:Env) (v:Value),(lk ops o t→Rel E (wr t) v)→Rel E (look lr t) v)∨
  (isA Γ o=false∧∃lr H0 H1 X,⟨j,o,lr,sv⟩∈rs∧op1 P Γ o lr H0 (fun s' H'=>Pinned (s'=sv) (H'=H1) X)∧(isL Γ o=false→∀f∈fx,f.p≠j)∧∀(t:Nat) (E:Env) (v:Value),(lk ops o t→Rel E (wr t) v)→Rel E (look lr t) v)
theorem aL6 (l:List (Nat × SV)) {xs:List Operand} {x:Operand} (h:x∈xs):ev (cV l xs) x=ev l x:=by
 cases x with
 | tmp t=>
  simp only[ev]
  induction xs with
  | nil=>cases h
  | cons y ys ih=>
   cases y with
   | tmp u=>
    simp only[cV,look]
    by_cases e:u=t
    ·subst e;rw[bV];rfl
    ·rw[dH e]
     simp only[cond_false]
     refine ih ?_
     rcases List.mem_cons.1 h with h1 | h1
     ·cases h1;exact absurd rfl e
     ·exact h1
   | _=>
    simp only[cV]
    refine ih ?_
    rcases List.mem_cons.1 h with h1 | h1
    ·cases h1
    ·exact h1
 | _=>rfl
theorem virtG (hY:COK P G) (hΓ:∀c∈Γ,aG P c) {ops:Array Oper} {m:Nat} (hq:∀i o,i<m→ops[i]? =some o→opOk ops.toList m i o=true) (htopo:∀i o,ops[i]? =some o→topo i o=true) (wr0:Nat→SV) {n0:Nat} {B:List HO} {K:List (Nat × SV)→List HO→List Fx→List Rc→Prop}
  (hB:∀n,n0≤n→n<B.length→B[n]? =some .res):
  ∀(rest:List Oper) (k:Nat),(ops.toList.take m).drop k=rest→
  ∀ {H:List HO} {fx:List Fx} {rs:List Rc} {na:Nat} {loc:Nat→Loc} {ver:Nat→Nat} {w:World} {l:List (Nat × SV)} {a:Act} {wr:Nat→SV},Inv G H loc ver w→TRel (envOf G H loc ver w) N l a→(∀(E:Env) (t:Nat) (v:Value),Rel E (wr t) v→Rel E (look l t) v)→
  H=cP B fx (fun j=>decide (j<k))→FxOk ops n0 na k fx→n0+na+cntA Γ rest≤B.length→
  (∀t,(∀j o,j<k→ops[j]? =some o→o.dst≠some t)→wr t=wr0 t)→
  qO P Γ N ops.toList n0 rest k l H fx rs na K→
  ∃(wr':Nat→SV) (sv:Nat→SV) (wn:Nat→Bool) (lf:List (Nat × SV)) (Hf:List HO) (fx':List Fx) (rs':List Rc) (na':Nat),K lf Hf fx' rs'∧(∀(E:Env) (t:Nat) (v:Value),Rel E (wr' t) v→Rel E (look lf t) v)∧
   (∀t,(∀j o,k≤j→j<m→ops[j]? =some o→o.dst≠some t)→wr' t=wr t)∧Hf=cP B fx' (fun j=>decide (j<max k m))∧FxOk ops n0 na' (max k m) fx'∧n0+na'≤B.length∧
   (∃p,fx'=p++fx∧∀f∈p,k≤f.p)∧(∀r∈rs,r∈rs')∧
   (∀j o,k≤j→j<m→ops[j]? =some o→(∀t,o.dst=some t→wr' t=sv j)∧OneG P G Γ ops n0 na' N fx' rs' (rdM ops m wr0 wr' j) (sv j) (wn j) j o):=by
 intro rest
 induction rest with
 | nil=>
  intro k hk H fx rs na loc ver w l a wr hI hT hRef hH hfx hna hw0 h
  have hlen:(ops.toList.take m).length≤k:=List.drop_eq_nil_iff.1 hk
  have hcg:cP B fx (fun j=>decide (j<k))=cP B fx (fun j=>decide (j<max k m)):=dD B fx fun f hf=>by
   have:=hfx.lt f hf
   have h2:f.p<max k m:=by omega
   simp[this,h2]
  refine ⟨wr,fun _=>.any,fun _=>false,l,H,fx,rs,na,h,hRef,fun _ _=>rfl,hH.trans hcg,⟨fun f hf=>by have:=hfx.lt f hf;omega,hfx.apart,hfx.names,hfx.own⟩,by simpa [cntA] using hna,⟨[],rfl,by simp⟩,fun _ h=>h,fun j o h1 h2 h3=>?_⟩
  have hj:=(Array.getElem?_eq_some_iff.1 h3).1
  simp at hlen
  omega
 | cons o r ih=>
  intro k hk H fx rs na loc ver w l a wr hI hT hRef hH hfx hna hw0 h
  have hko:(ops.toList.take m)[k]? =some o:=by
   have:((ops.toList.take m).drop k)[0]? =some o:=by rw[hk];rfl
   rw[List.getElem?_drop] at this
   simpa using this
  have hkm:k<m:=by
   rw[List.getElem?_take] at hko
   split at hko
   ·assumption
   ·cases hko
  have hop:ops[k]? =some o:=by
   rw[List.getElem?_take,if_pos hkm] at hko
   simpa using hko
  have hkr:(ops.toList.take m).drop (k+1)=r:=by rw[← List.drop_drop,hk];rfl
  have hok:=hq k o hkm hop
  have hlenH:H.length=B.length:=by rw[hH,lQ]
  simp only[aGk] at h
  obtain ⟨l',b,hyn,hlearn,hwant⟩:=aLy h
  have hT':TRel (envOf G H loc ver w) N l' a:=⟨hT.size,fun t=>hlearn _ t _ (hT.rel t)⟩
  have hRef':∀(E:Env) (t:Nat) (v:Value),Rel E (wr t) v→Rel E (look l' t) v:=fun E t v h=>hlearn E t v (hRef E t v h)
  -- behind this operation, whatever it has left
  have step:∀ {H':List HO} {fx1:List Fx} {rs1:List Rc} {na1:Nat} {loc':Nat→Loc} {ver':Nat→Nat} {w':World} {s:SV} {v:Value},Inv G H' loc' ver' w'→Ext (envOf G H loc ver w) (envOf G H' loc' ver' w')→Rel (envOf G H' loc' ver' w') s v→
    H'=cP B fx1 (fun j=>decide (j<k+1))→FxOk ops n0 na1 (k+1) fx1→n0+na1+cntA Γ r≤B.length→(∃p,fx1=p++fx∧∀f∈p,f.p=k)→(∀r∈rs,r∈rs1)→
    setT N l' o.dst s (fun l''=>qO P Γ N ops.toList n0 r (k+1) l'' H' fx1 rs1 na1 K)→
    (b=false→s= .tup []∧fx1=fx)→
    (b=true→(isA Γ o=true∧∃f lr,f∈fx1∧f.p=k∧n0≤f.n∧(∀g∈fx1,g.p≠k→g.n≠f.n)∧AllocOK P G N o lr f.n s f.o∧lr=cV l' o.op.operands.toList)∨
     (isA Γ o=false∧∃lr H0 H1 X,⟨k,o,lr,s⟩∈rs1∧op1 P Γ o lr H0 (fun s' H'=>Pinned (s'=s) (H'=H1) X)∧(isL Γ o=false→fx1=fx)∧lr=cV l' o.op.operands.toList))→
    ∃(wr':Nat→SV) (sv:Nat→SV) (wn:Nat→Bool) (lf:List (Nat × SV)) (Hf:List HO) (fx':List Fx) (rs':List Rc) (na':Nat),K lf Hf fx' rs'∧(∀(E:Env) (t:Nat) (v:Value),Rel E (wr' t) v→Rel E (look lf t) v)∧
     (∀t,(∀j o,k≤j→j<m→ops[j]? =some o→o.dst≠some t)→wr' t=wr t)∧Hf=cP B fx' (fun j=>decide (j<max k m))∧FxOk ops n0 na' (max k m) fx'∧n0+na'≤B.length∧
     (∃p,fx'=p++fx∧∀f∈p,k≤f.p)∧(∀r∈rs,r∈rs')∧
     (∀j o,k≤j→j<m→ops[j]? =some o→(∀t,o.dst=some t→wr' t=sv j)∧OneG P G Γ ops n0 na' N fx' rs' (rdM ops m wr0 wr' j) (sv j) (wn j) j o):=by
   intro H' fx1 rs1 na1 loc' ver' w' s v hI' hx' hrs hH1 hfx1 hna1 hpre hrsub hset hskip hrun
   obtain ⟨p1,hp1,hp1k⟩:=hpre
   obtain ⟨wr1,hwr1⟩:∃wr1:Nat→SV,wr1=fun t=>if o.dst=some t then s else wr t:=⟨_,rfl⟩
   have hnext:∃l'',qO P Γ N ops.toList n0 r (k+1) l'' H' fx1 rs1 na1 K∧TRel (envOf G H' loc' ver' w') N l'' (a.put o.dst v)∧(∀(E:Env) (t:Nat) (v:Value),Rel E (wr1 t) v→Rel E (look l'' t) v)∧∀t,o.dst=some t→t<N:=by
    cases hd:o.dst with
    | none=>
     rw[hd] at hset
     refine ⟨l',hset,hT'.ext hx',fun E t v h=>?_,fun t h=>by cases h⟩
     rw[hwr1] at h
     simp only[hd] at h
     exact hRef' E t v (by simpa using h)
    | some u=>
     rw[hd] at hset
     obtain ⟨hu,hset⟩:=aE hset
     rw[aK] at hset
     have hu':u<N:=by simpa using hu
     refine ⟨_,hset,?_,fun E t v h=>?_,fun t h=>by cases h;exact hu'⟩
     ·refine ⟨by simp[Act.put];exact hT.size,fun t=>?_⟩
      rw[fT,mY a u t v (by rw[hT.size];exact hu')]
      by_cases e:t=u
      ·rw[if_pos e,if_pos e];exact hrs
      ·rw[if_neg e,if_neg e];exact (hT'.ext hx').rel t
     ·rw[hwr1] at h
      simp only[hd] at h
      rw[fT]
      by_cases e:t=u
      ·rw[if_pos e];rw[if_pos (by rw[e])] at h;exact h
      ·rw[if_neg e];rw[if_neg (fun e'=>e (by cases e';rfl))] at h;exact hRef' E t v h
   obtain ⟨l'',he,hT'',hRef'',hdN⟩:=hnext
   obtain ⟨wr',sv,wn,lf,Hf,fx',rs',na',h1,h2,h3,h6,h7,h8,⟨p2,hp2,hp2k⟩,h9,h4⟩:=ih (k+1) hkr hI' hT'' hRef'' hH1 hfx1 hna1 (fun t ht=>by
    rw[hwr1]
    simp only[if_neg (ht k o (Nat.lt_succ_self k) hop)]
    exact hw0 t fun j o' hj=>ht j o' (by omega)) he
   have hmax:max (k+1) m=max k m:=by omega
   rw[hmax] at h6 h7
   have hwr:∀t,lk ops o t→rdM ops m wr0 wr' k t=wr t:=by
    intro t ht
    have hro:=lO hok ht
    unfold rdM
    by_cases hl:late ops m k t
    ·rw[if_pos hl]
     obtain ⟨j0,o0,g1,g2,g3,g4⟩:=hl
     obtain ⟨e,he,hb,hon⟩:=fF g4
     have hk0:=iT (htopo j0 o0 g2) e he hb
     refine (hw0 t fun j o' hj hj3 hd=>?_).symm
     have:=kN (hq j0 o0 g1 g2) g3 (show j<m by omega) hj3 hd
     omega
    ·rw[if_neg hl]
     have h5:=h3 t fun j o' hj1 hj2 hj3 hd=>by
      rcases fL hro hj2 hj3 hd with h6 | h6
      ·have:=h6.2;omega
      ·exact hl ⟨j,o',hj2,hj3,hd,h6⟩
     rw[h5,hwr1]
     have:o.dst≠some t:=fun hd=>by
      rcases fL hro hkm hop hd with h6 | h6
      ·have:=h6.2;omega
      ·exact hl ⟨k,o,hkm,hop,hd,h6⟩
     simp only[if_neg this]
   have hlr:∀(t:Nat) (E:Env) (v:Value),(lk ops o t→Rel E (rdM ops m wr0 wr' k t) v)→Rel E (look (cV l' o.op.operands.toList) t) v:=by
    intro t E v hr
    rcases gL l' o.op.operands.toList t with h5 | ⟨h5,h6⟩
    ·rw[h5];exact .any v
    ·rw[h6]
     have hl:lk ops o t:=.inl h5
     exact hRef' E t v (by rw[← hwr t hl];exact hr hl)
   have hnot:fx1=fx→∀f∈fx',f.p≠k:=by
    intro e f hf
    rw[hp2,e] at hf
    rcases List.mem_append.1 hf with h | h
    ·have:=hp2k f h;omega
    ·have:=hfx.lt f h;omega
   refine ⟨wr',fun j=>if j=k then s else sv j,fun j=>if j=k then b else wn j,lf,Hf,fx',rs',na',h1,h2,fun t ht=>?_,h6,h7,h8,⟨p2++p1,by rw[hp2,hp1,List.append_assoc],fun f hf=>?_⟩,fun q hq=>h9 q (hrsub q hq),fun j o' hj1 hj2 hj3=>?_⟩
   ·rw[h3 t fun j o' hj1 hj2 hj3=>ht j o' (by omega) hj2 hj3,hwr1]
    simp only[if_neg (ht k o (Nat.le_refl _) hkm hop)]
   ·rcases List.mem_append.1 hf with h | h
    ·have:=hp2k f h;omega
    ·have:=hp1k f h;omega
   ·by_cases e:j=k
    ·subst e
     rw[hop] at hj3;cases hj3
     simp only[if_true]
     refine ⟨fun t hd=>?_,⟨fun E a hr=>hwant E a fun t ht=>hRef E t _ (by rw[← hwr t ht];exact hr t ht),fun hb=>?_,hdN,?_,fun hb=>?_⟩⟩
     ·rw[h3 t fun j' o' hj1' hj2' hj3' hd'=>by have:=kN hok hd hj2' hj3' hd';omega,hwr1]
      simp only[if_pos hd]
     ·obtain ⟨q1,q2⟩:=hskip hb
      exact ⟨q1,hnot q2⟩
     ·intro hg
      rw[← hwant (envOf G H loc ver w) a fun t _=>hT.rel t]
      simp[Region.wanted,hg]
     ·rcases hrun hb with ⟨q1,f,lr,q2,q3,q4,q6,q5,rfl⟩ | ⟨q1,lr,H0,H1,X,q2,q3,q4,rfl⟩
      ·refine .inl ⟨q1,f,_,by rw[hp2];exact List.mem_append_right _ q2,q3,q4,fun g hg hne hgn=>?_,q5,hlr⟩
       rw[hp2] at hg
       rcases List.mem_append.1 hg with h | h
       ·have:=hp2k g h;omega
       ·exact absurd hgn (q6 g h hne)
      ·exact .inr ⟨q1,_,H0,H1,X,h9 _ q2,q3,fun hl=>hnot (q4 hl),hlr⟩
    ·simp only[if_neg e]
     exact h4 j o' (by omega) hj2 hj3
  have hTr:TRel (envOf G H loc ver w) N (cV l' o.op.operands.toList) a:=⟨hT.size,fun t=>by
   rcases gL l' o.op.operands.toList t with h5 | ⟨h5,h6⟩
   ·rw[h5];exact .any _
   ·rw[h6];exact hT'.rel t⟩
  have hHk:∀fx',(∀f∈fx',f.p<k)→cP B fx' (fun j=>decide (j<k))=cP B fx' (fun j=>decide (j<k+1)):=fun fx' h=>dD B fx' fun f hf=>by
   have:=h f hf
   simp[this,Nat.lt_succ_of_lt this]
  have hfx':FxOk ops n0 na (k+1) fx:=⟨fun f hf=>Nat.lt_succ_of_lt (hfx.lt f hf),hfx.apart,hfx.names,hfx.own⟩
  have hcnt:cntA Γ r≤cntA Γ (o::r):=by
   simp only[cntA]
   cases isA Γ o<;>simp
  rcases hyn with ⟨rfl,hy⟩ | ⟨rfl,hn⟩
  ·cases hA:isA Γ o with
   | true=>
    rw[hA] at hy
    simp only at hy
    have hcA:cntA Γ (o::r)=cntA Γ r+1:=by simp[cntA,hA]
    obtain ⟨s,ob,hs,hal⟩:=aC1 hY hΓ (G:=G) (N:=N) (lr:=cV l' o.op.operands.toList) hy fun x hx=>aL6 l' (by simpa using hx)
    have hnr:H[n0+na]? =some .res:=by
     rw[hH,nJ B fx fun g hg _=>by have:=hfx.names g hg;omega]
     exact hB _ (by omega) (by omega)
    obtain ⟨_,hopk⟩:=hal.2 (F:=Fence.wide) ⟨none,rfl⟩ hI hnr hTr
    obtain ⟨v,w',loc',ver',hI',hr',hx'⟩:=hopk.ex
    refine step (fx1:=⟨k,n0+na,ob⟩::fx) (rs1:=rs) (na1:=na+1) hI' hx' hr' ?_ ⟨fun f hf=>?_,List.pairwise_cons.2 ⟨fun f hf=>?_,hfx.apart⟩,fun f hf=>?_,fun f hf hn g hg hne hgn=>?_⟩ (by omega) ⟨[⟨k,n0+na,ob⟩],rfl,by simp⟩ (fun _ h=>h) ?_ (fun h=>by cases h) (fun _=>.inl ⟨hA,_,_,List.mem_cons_self,rfl,Nat.le_add_right _ _,fun g hg hne hgn=>?_,hal,rfl⟩)
    ·simp only[fC]
     rw[show decide (k<k+1)=true by simp,cond_true,← hHk fx hfx.lt,← hH]
    ·rcases List.mem_cons.1 hf with rfl | hf
     ·exact Nat.lt_succ_self _
     ·exact Nat.lt_succ_of_lt (hfx.lt f hf)
    ·have:=hfx.lt f hf
     show k≠f.p
     omega
    ·rcases List.mem_cons.1 hf with rfl | hf
     ·show n0+na<n0+(na+1);omega
     ·have:=hfx.names f hf;omega
    ·rcases List.mem_cons.1 hf with rfl | hf
     ·rcases List.mem_cons.1 hg with rfl | hg
      ·exact absurd hne (Nat.lt_irrefl _)
      ·have:=hfx.lt g hg
       have hne:k<g.p:=hne
       omega
     ·rcases List.mem_cons.1 hg with rfl | hg
      ·have:=hfx.names f hf
       have hgn:n0+na=f.n:=hgn
       omega
      ·exact hfx.own f hf hn g hg hne hgn
    ·simp only[aK] at hs
     exact hs
    ·rcases List.mem_cons.1 hg with rfl | hg
     ·exact absurd rfl hne
     ·have:=hfx.names g hg
      have hgn:g.n=n0+na:=hgn
      omega
   | false=>
    rw[hA] at hy
    simp only at hy
    have hcA:cntA Γ (o::r)=cntA Γ r:=by simp[cntA,hA]
    cases hL:isL Γ o with
    | true=>
     rw[hL] at hy
     simp only at hy
     obtain ⟨s,ob,hs⟩:=hy.ex
     rw[aK] at hs
     obtain ⟨_,hopk⟩:=gK (F:=Fence.wide) hY hΓ ⟨none,rfl⟩ hI hTr hs
     obtain ⟨v,w',s',H',loc',ver',hp,hI',hr',hx'⟩:=hopk.ex
     obtain ⟨rfl,rfl,hgo⟩:=hp
     obtain ⟨hlt,hgo⟩:=aE hgo
     have hlt:tgt (cV l' o.op.operands.toList) o<n0∨(tgt (cV l' o.op.operands.toList) o<n0+na∧fxW o (tgt (cV l' o.op.operands.toList) o) fx=true):=by
      simpa only[Bool.or_eq_true,Bool.and_eq_true,Nat.blt_eq] using hlt
     refine step (fx1:=⟨k,tgt (cV l' o.op.operands.toList) o,ob⟩::fx) (rs1:=⟨k,o,cV l' o.op.operands.toList,s'⟩::rs) (na1:=na) hI' hx' hr' ?_ ⟨fun f hf=>?_,List.pairwise_cons.2 ⟨fun f hf=>?_,hfx.apart⟩,fun f hf=>?_,fun f hf hn g hg hne hgn=>?_⟩ (by omega) ⟨[⟨k,_,ob⟩],rfl,by simp⟩ (fun _ h=>List.mem_cons_of_mem _ h) ?_ (fun h=>by cases h) (fun _=>.inr ⟨hA,_,H,_,_,List.mem_cons_self,hs,(fun h=>by rw[hL] at h;cases h),rfl⟩)
     ·simp only[fC]
      rw[show decide (k<k+1)=true by simp,cond_true,← hHk fx hfx.lt,← hH]
     ·rcases List.mem_cons.1 hf with rfl | hf
      ·exact Nat.lt_succ_self _
      ·exact Nat.lt_succ_of_lt (hfx.lt f hf)
     ·have:=hfx.lt f hf
      show k≠f.p
      omega
     ·rcases List.mem_cons.1 hf with rfl | hf
      ·show tgt _ o<n0+na;omega
      ·exact hfx.names f hf
     ·rcases List.mem_cons.1 hf with rfl | hf
      ·rcases List.mem_cons.1 hg with rfl | hg
       ·exact absurd hne (Nat.lt_irrefl _)
       ·have:=hfx.lt g hg
        have hne:k<g.p:=hne
        omega
      ·rcases List.mem_cons.1 hg with rfl | hg
       ·have hgn:tgt (cV l' o.op.operands.toList) o=f.n:=hgn
        rcases hlt with h1 | ⟨_,h1⟩
        ·omega
        ·exact ⟨o,hop,aDp h1 f hf hgn.symm⟩
       ·exact hfx.own f hf hn g hg hne hgn
     ·simp only[aK] at hgo
      exact hgo
    | false=>
     rw[hL] at hy
     simp only at hy
     obtain ⟨s,hs⟩:=hy.ex
     rw[aK] at hs
     obtain ⟨_,hopk⟩:=gK (F:=Fence.wide) hY hΓ ⟨none,rfl⟩ hI hTr hs
     obtain ⟨v,w',s',H',loc',ver',hp,hI',hr',hx'⟩:=hopk.ex
     obtain ⟨rfl,rfl,hgo⟩:=hp
     exact step (fx1:=fx) (rs1:=⟨k,o,cV l' o.op.operands.toList,s'⟩::rs) (na1:=na) hI' hx' hr' (by rw[← hHk fx hfx.lt];exact hH) hfx' (by omega) ⟨[],rfl,by simp⟩ (fun _ h=>List.mem_cons_of_mem _ h) hgo (fun h=>by cases h) (fun _=>.inr ⟨hA,_,_,_,_,List.mem_cons_self,hs,(fun _=>rfl),rfl⟩)
  ·exact step (fx1:=fx) (rs1:=rs) (na1:=na) hI (Ext.refl _) (.tup [] [] .nil) (by rw[← hHk fx hfx.lt];exact hH) hfx' (by omega) ⟨[],rfl,by simp⟩ (fun _ h=>h) hn (fun _=>⟨rfl,rfl⟩) (fun h=>by cases h)
theorem nK {n:Nat}:∀ {l:List Nat},memN n l=true↔n∈l
 | []=>by simp[memN]
 | x::r=>by
  simp only[memN,Bool.or_eq_true,aI,List.mem_cons,nK (l:=r)]
  exact ⟨fun h=>h.imp Eq.symm id,fun h=>h.imp Eq.symm id⟩
theorem uB (S:Nat→Bool):∀ps:List Nat,ps.filter S∈subs ps
 | []=>by simp[subs]
 | p::r=>by
  have ih:=uB S r
  simp only[subs,List.mem_append,List.mem_map,List.filter_cons]
  cases S p with
  | true=>exact .inr ⟨_,ih,rfl⟩
  | false=>exact .inl ih
theorem aL7 {ms ps:List Nat} {B:List HO} {fx:List Fx} {rs:List Rc} (h:chkR P Γ ms ps B fx rs) (r:Rc) (hr:r∈rs):chkS P Γ ms ps B fx r.i r.o r.l r.s (subs ps):=by
 induction rs with
 | nil=>cases hr
 | cons q rs ih=>
  rw[aJr] at h
  rcases List.mem_cons.1 hr with e | hr
  ·rw[e];exact h.chk
  ·exact ih h.go hr
theorem aE5 {ms ps:List Nat} {B:List HO} {fx:List Fx} {r:Rc}:∀ {sl:List (List Nat)},chkS P Γ ms ps B fx r.i r.o r.l r.s sl→∀sub∈sl,admB ms ps r.i sub=true→
  op1 P Γ r.o r.l (cP B fx fun j=>memN j sub) fun s' H'=>Pinned (s'=r.s) (H'=cP B fx fun j=>memN j sub || Nat.beq j r.i) Fin0
 | q::sl,h,sub,hs,ha=>by
  rw[aJq] at h
  rcases List.mem_cons.1 hs with rfl | hs
  ·rw[ha] at h
   have:=h.chk
   unfold chk1 at this
   rwa [fI] at this
  ·refine aE5 ?_ sub hs ha
   cases hc:admB ms ps r.i q with
   | true=>rw[hc] at h;exact h.go
   | false=>rw[hc] at h;exact h
theorem aE6 (hY:COK P G) (hΓ:∀c∈Γ,aG P c) {F:Fence} (hF:Opn F) {n:Nat} {ops:Array Oper} {m:Nat} (hok:nX ops.toList m=true)
  {l:List (Nat × SV)} {a:Act} {K:List (Nat × SV)→List HO→Prop} {Q:Exit→Act→World→Prop} (hQn:∀e a w,Q e a w→e= .normal) (hI:Inv G H loc ver w) (hT:TRel (envOf G H loc ver w) N l a)
  (h:aH5 P Γ N ops.toList m l H K)
  (hQ:∀l' H' loc' ver' a' w',K l' H'→Inv G H' loc' ver' w'→TRel (envOf G H' loc' ver' w') N l' a'→Ext (envOf G H loc ver w) (envOf G H' loc' ver' w')→Same (ops.toList.filterMap (·.dst)) a a'→a'.defers=a.defers→Q .normal a' w'):
  wpAnyIn F n P .any ops Q ops.size (Array.replicate ops.size false) a w:=by
 unfold aH5 at h
 cases hl:aLj Γ (ops.toList.take m) with
 | false=>
  rw[hl] at h
  exact aGv hY hΓ hF hok hQn hI hT h hQ
 | true=>
 rw[hl] at h
 simp only[cond_true,aK,aH4,Nat.zero_add] at h
 simp only[nX,Bool.and_eq_true] at hok
 obtain ⟨hq0,hq1,hq2,hq3⟩:=hok
 have hms:m≤ops.size:=by simpa using hq0
 have hq:∀i o,i<m→ops[i]? =some o→opOk ops.toList m i o=true:=fun i o hi ho=>fM hq1 hi ho
 have htopo:∀i o,ops[i]? =some o→topo i o=true:=fun i o ho=>fM hq2 (by simpa using (Array.getElem?_eq_some_iff.1 ho).1) ho
 have htail0:∀i o,m≤i→ops[i]? =some o→∀j,j<i→eO (fA ops.toList []) i j=true∨(j<m∧jY ops.toList j=true):=by
  intro i o hi ho j hj
  rw[nW] at hq3
  have:=fM hq3 (by simpa using (Array.getElem?_eq_some_iff.1 ho).1) ho
  simp only[Bool.or_eq_true] at this
  rcases this with h1 | h1
  ·have:i<m:=by simpa using h1
   omega
  ·have:=List.all_eq_true.1 h1 j (List.mem_range.2 hj)
   simpa using this
 obtain ⟨B,hBd⟩:∃B,B=H++List.replicate (cntA Γ (ops.toList.take m)) HO.res:=⟨_,rfl⟩
 rw[← hBd] at h
 have hBl:B.length=H.length+cntA Γ (ops.toList.take m):=by rw[hBd];simp
 have hB:∀q,H.length≤q→q<B.length→B[q]? =some .res:=by
  intro q h1 h2
  rw[hBd,List.getElem?_append_right h1,List.getElem?_replicate,if_pos (by omega)]
 obtain ⟨hI0,hx0⟩:=hI.keeps (cntA Γ (ops.toList.take m))
 rw[← hBd] at hI0 hx0
 have hT0:=hT.ext hx0
 obtain ⟨wr,sv,wn,lf,Hf,fx,rs,na,⟨hchk,hlf⟩,hRef,hwr,hHf,hfx,hna,_,_,hQP⟩:=virtG (N:=N) hY hΓ hq htopo (look l) hB (ops.toList.take m) 0 (by simp) (fx:=[]) (rs:=[]) (na:=0) (wr:=look l) hI0 hT0 (fun _ _ _ h=>h) rfl ⟨by simp,.nil,by simp,by simp⟩ (by omega) (fun _ _=>rfl) h
 rw[Nat.zero_max] at hHf hfx
 rw[nW,aLh] at hchk
 have hmem:∀f∈fx,f.p∈fx.map (·.p):=fun f hf=>List.mem_map.2 ⟨f,hf,rfl⟩
 refine aE3 (N:=N) (hS:=cP B fx) (wr:=wr) (sv:=sv) (wn:=wn) (lf:=lf) (l:=l) hY hΓ hF hms hq htopo htail0 hRef (fun t ht=>hwr t fun j o _ h2 h3=>ht j o h2 h3) (fun j o hj ho=>?_) hQn (by rw[lU];exact hI0) (by rw[lU];exact hT0) (by rw[← hHf];exact hlf)
  (fun l' H' loc' ver' a' w' h1 h2 h3 h4 h5 h6=>hQ l' H' loc' ver' a' w' h1 h2 h3 (hx0.trans (by rw[lU] at h4;exact h4)) h5 h6)
 obtain ⟨hd,hone⟩:=hQP j o (Nat.zero_le _) hj ho
 refine ⟨hd,hone.want,fun hb=>?_,fun hb=>?_,hone.dst,fun x hx hg=>?_⟩
 ·intro F' hF' S hS loc' ver' w' a' hI' hsz hrd
  have hTr:∀ {lr:List (Nat × SV)},(∀(t:Nat) (E:Env) (v:Value),(lk ops o t→Rel E (rdM ops m (look l) wr j t) v)→Rel E (look lr t) v)→TRel (envOf G (cP B fx S) loc' ver' w') N lr a':=fun hlr=>⟨hsz,fun t=>hlr t _ _ (hrd t)⟩
  rcases hone.run hb with ⟨_,f,lr,hf,hp,hn,hlate,hal,hlr⟩ | ⟨_,lr,H0,H1,X,hr,_,_,hlr⟩
  ·have hn2:∀g∈fx,S g.p=true→g.n≠f.n:=fun g hg hSg hgn=>by
    by_cases hne:g.p=j
    ·rw[hne,hS.not] at hSg;cases hSg
    ·have hl:=hlate g hg hne hgn
     obtain ⟨o',ho',hw⟩:=hfx.own f hf hn g hg (by rw[hp];exact hl) hgn
     obtain ⟨e,he,hbd,hon⟩:=fF hw
     have:=hS.closed g.p o' ho' hSg e he hbd
     rw[hon,hp,hS.not] at this;cases this
   rw[aAw B fx hf hp hS.not hfx.apart fun g hg _ hSg=>hn2 g hg hSg]
   refine hal.2 hF' hI' ?_ (hTr hlr)
   rw[nJ B fx fun g hg hSg=>hn2 g hg hSg]
   exact hB _ hn (by have:=hfx.names f hf;omega)
  ·have hS1:∀f∈fx,memN f.p ((fx.map (·.p)).filter S)=S f.p:=fun f hf=>by
    rw[Bool.eq_iff_iff,nK,List.mem_filter]
    exact ⟨fun h=>h.2,fun h=>⟨hmem f hf,h⟩⟩
   have hc:=aE5 (aL7 hchk _ hr) _ (uB S (fx.map (·.p))) ?_
   ·have e1:(cP B fx fun q=>memN q ((fx.map (·.p)).filter S))=cP B fx S:=dD B fx hS1
    have e2:(cP B fx fun q=>memN q ((fx.map (·.p)).filter S) || Nat.beq q j)=cP B fx (addS S j):=dD B fx fun f hf=>by simp only[addS,hS1 f hf]
    rw[e1,e2] at hc
    obtain ⟨hnd,hopk⟩:=gK hY hΓ hF' hI' (hTr hlr) hc
    refine ⟨hnd,hopk.mono ?_⟩
    rintro v w2 ⟨s',H',loc2,ver2,⟨rfl,rfl,_⟩,h1,h2,h3⟩
    exact ⟨loc2,ver2,h1,h2,h3⟩
   ·have hwm:∀i p o',ops[i]? =some o'→eO (fA ops.toList []) i p=true→(∀e∈o'.after,Region.binds .any e=true→S e.on=true)→S p=true:=fun i p o' ho' hw hp=>jS (L:=fun j=>S j=true) hS.closed ho' hw hp
    have hopS:∀p,S p=true→∃o',ops[p]? =some o':=fun p hp=>by
     have:=hS.lt p hp
     exact ⟨ops[p]'(by omega),by simp[show p<ops.size by omega]⟩
    simp only[admB,Bool.and_eq_true,Bool.not_eq_true',List.all_eq_true,Bool.or_eq_true]
    refine ⟨?_,fun p hp=>?_,fun p hp=>⟨?_,fun q hq'=>?_⟩⟩
    ·rw[Bool.eq_false_iff,Ne,nK,List.mem_filter]
     rintro ⟨_,h2⟩
     rw[hS.not] at h2;cases h2
    ·cases hw:eO (fA ops.toList []) j p with
     | false=>exact .inl rfl
     | true=>exact .inr (nK.2 (List.mem_filter.2 ⟨hp,hwm j p o ho hw hS.own⟩))
    ·have hSp:=(List.mem_filter.1 hp).2
     cases hw:eO (fA ops.toList []) p j with
     | false=>rfl
     | true=>
      obtain ⟨o',ho'⟩:=hopS p hSp
      have:=hwm p j o' ho' hw (hS.closed p o' ho' hSp)
      rw[hS.not] at this;cases this
    ·have hSp:=(List.mem_filter.1 hp).2
     cases hw:eO (fA ops.toList []) p q with
     | false=>exact .inl rfl
     | true=>
      obtain ⟨o',ho'⟩:=hopS p hSp
      exact .inr (nK.2 (List.mem_filter.2 ⟨hq',hwm p q o' ho' hw (hS.closed p o' ho' hSp)⟩))
 ·obtain ⟨h1,h2⟩:=hone.skip hb
  refine ⟨h1,fun S=>dD B fx fun f hf=>?_⟩
  simp[addS,dH (h2 f hf)]
 ·have hwn:=hone.plain hg
  rcases hone.run hwn with ⟨hA,_⟩ | ⟨_,lr,H0,H1,X,hr,hop,hnf,hlr⟩
  ·cases ho:o.op<;>rw[ho] at hx<;>first | (simp[isA,ho] at hA;done) | cases hx
  ·have hnf:=hnf (by cases ho:o.op<;>rw[ho] at hx<;>first | (simp[isL,ho];done) | cases hx)
   refine ⟨fun E a hsz hrd=>?_,fun S=>dD B fx fun f hf=>by simp[addS,dH (hnf f hf)]⟩
   obtain ⟨s,v0,hk,hrs,hrun⟩:=aEt hx hop (fE (E:=E) (a:=a) (N:=N) ⟨hsz,fun t=>hlr t _ _ (hrd t)⟩ x)
   rw[hk.val] at hrs
   exact ⟨v0,hrs,hrun⟩
end
end Go.Eng
end
section
namespace Go.Eng
open Go.RowKit
section
variable {P:Program} {G:Ctx} {N:Nat}
theorem jI (hY:COK P G) {Γ:List Con} (hΓ:∀c∈Γ,aG P c) {A:Anns} (c:Code):∀key,aAo P G N Γ A key c:=by
 induction c with
 | skip=>
  intro key F n hF H loc ver w l a K hI hT hRo h
  exact wpIn_skip ⟨l,H,loc,ver,h,hI,hT,.refl _ _,.refl _ _,.refl _ _ _⟩
 | label n=>
  intro key F n hF H loc ver w l a K hI hT hRo h
  exact wpIn_label ⟨l,H,loc,ver,h,hI,hT,.refl _ _,.refl _ _,.refl _ _ _⟩
 | ret=>
  intro key F n hF H loc ver w l a K hI hT hRo h
  exact wpIn_ret ⟨l,H,loc,ver,h,hI,hT,.refl _ _,.refl _ _,.refl _ _ _⟩
 | exit id=>
  intro key F n hF H loc ver w l a K hI hT hRo h
  exact wpIn_exit ⟨l,H,loc,ver,h,hI,hT,.refl _ _,.refl _ _,.refl _ _ _⟩
 | region id ops draw=>
  intro key F n hF H loc ver w l a K hI hT hRo h
  cases draw with
  | true=>
   simp only[dX,gE,jC,gF,fD,gG,cQ] at h
   obtain ⟨hc,h⟩:=aE h
   obtain ⟨hm,hq⟩:=and2 hc
   refine wpIn_region_any hm ?_
   have hg:=hI.grow (w':={ w with drawn:=w.drawn+1 }) ⟨rfl,rfl,rfl,Nat.le_refl _,fun _ _=>rfl⟩
   refine oH (Q:=fun e a' w'=>e= .normal∧After G N (bK (.region id ops true)) (aT A key (.region id ops true)) K (envOf G H loc ver w) a .normal a' w') (fun e a' w' h=>by obtain ⟨rfl,h⟩:=h;exact h) _ _ _ _ ?_
   refine aE6 hY hΓ hF hq (fun e a' w' h=>h.1) hg.1 (hT.ext hg.2) h ?_
   intro l' H' loc' ver' a' w' h1 h2 h3 h4 h5 h6
   exact ⟨rfl,l',H',loc',ver',h1,h2,h3,(hg.2.trans h4).toO _,h5,.of_eq h6⟩
  | false=>
   simp only[dX,gE,jC,gF,fD,gG,cQ] at h
   refine wpIn_region ?_
   have:=zU (N:=N) (n:=n) hY hΓ hF ops.toList 0 (by simp) (Q:=After G N (bK (.region id ops false)) (aT A key (.region id ops false)) K (envOf G H loc ver w) a) hI hT h
    (fun l' H' loc' ver' a' w' h1 h2 h3 h4 h5 h6=>⟨l',H',loc',ver',h1,h2,h3,h4.toO _,h5,.of_eq h6⟩)
   rw[List.range_eq_range']
   simpa using this
 | seq x y ihx ihy=>
  intro key F n hF H loc ver w l a K hI hT hRo h
  refine wpIn_seq ?_
  have behind:∀ {H':List HO} {loc':Nat→Loc} {ver':Nat→Nat} {w':World} {l':List (Nat × SV)} {a':Act},Inv G H' loc' ver' w'→TRel (envOf G H' loc' ver' w') N l' a'→exec P Γ N A key y l' H' K→
    ExtO (aT A key (.seq x y)) (envOf G H loc ver w) (envOf G H' loc' ver' w')→Same (bK (.seq x y)) a a'→Marked (envOf G H loc ver w) (envOf G H' loc' ver' w') a.defers a'.defers→
    y.wpIn F n P (After G N (bK (.seq x y)) (aT A key (.seq x y)) K (envOf G H loc ver w) a) a' w':=by
   intro H' loc' ver' w' l' a' hI' hT' h' hx hs hd
   refine wpIn_mono (ihy key hF hI' hT' (hRo.ext hx) h') ?_
   intro e a'' w'' h''
   refine After.trans hx hs hd (h''.mono (tX _ _) (fun m hm=>?_) fun _ _ h=>h)
   simp only[aT]
   rw[mem_append,mem_append,hm];simp
  simp only[dX,gE,jC,gF,fD,gG,cQ] at h
  cases hc:aH7 A y with
  | none=>
   rw[hc] at h
   refine wpIn_mono (ihx key hF hI hT hRo h) ?_
   rintro e a' w' ⟨l',H',loc',ver',h1,h2,h3,h4,h5,h6⟩
   have hD:∀m,mem m (aT A key x)=true→mem m (aT A key (.seq x y))=true:=by
    intro m hm;simp only[aT];rw[mem_append,mem_append,hm];simp
   cases e with
   | normal=>exact behind h2 h3 h1 (h4.mono hD) (h5.mono (mO _ _)) h6
   | _=>exact ⟨l',H',loc',ver',h1,h2,h3,h4.mono hD,h5.mono (mO _ _),h6⟩
  | some an=>
   rw[hc] at h
   obtain ⟨hok,hvc⟩:=h
   obtain ⟨_,hx⟩:=hvc.init
   have hD:∀m,mem m (aT A key x)=true→mem m (aT A key (.seq x y))=true:=by
    intro m hm;simp only[aT];rw[mem_append,mem_append,hm];simp
   have hO:∀m,mem m an.objs=true→mem m (aT A key (.seq x y))=true:=by
    intro m hm;simp only[aT,hc];rw[mem_append,hm];simp
   refine wpIn_mono (ihx key hF hI hT hRo hx) ?_
   rintro e a' w' ⟨l',H',loc',ver',h1,h2,h3,h4,h5,h6⟩
   cases e with
   | normal=>
    obtain ⟨z,hz⟩:=h1
    have hz1:=and2 (hok z)
    have hz2:=and2 hz1.1
    have hz3:=and2 hz2.1
    obtain ⟨hI2,hT2,hx2⟩:=rB hI hT h2 h3 h4 h5 (aI.1 hz3.2) hz1.2 hz2.2 hz
    have hr:=hvc.round () z hz.pre
    rw[eH,fI] at hr
    refine behind hI2 hT2 hr (hx2.mono hO) (h5.mono (mO _ _)) ?_
    obtain ⟨Ds,m1,m2,m3⟩:=h6
    refine ⟨Ds,m1,m2,fun D hD=>?_⟩
    obtain ⟨q1,q2,q3⟩:=m3 D hD
    refine ⟨q1,?_,q3⟩
    intro hq
    rcases hx2.ali D hq with q4 | q4
    ·obtain ⟨nm,st,k,it,e1,e2⟩:=hq
     obtain ⟨o',e3,e4⟩:=(fK hz.ent.2).2 nm _ e1
     cases o' with
     | yst=>exact q2 ⟨nm,_,_,_,e3,e2⟩
     | _=>exact e4.elim
    ·obtain ⟨nm,st,k,it,e1,e2⟩:=hq
     obtain ⟨o',e3,e4⟩:=(fK hz.ent.2).2 nm _ e1
     cases o' with
     | yst=>exact q2 ⟨nm,_,_,_,e3,e2⟩
     | _=>exact e4.elim
   | _=>exact ⟨l',H',loc',ver',h1,h2,h3,h4.mono hD,h5.mono (mO _ _),h6⟩
 | cond c x y ihx ihy=>
  intro key F n hF H loc ver w l a K hI hT hRo h
  have hr:=fE hT c
  have hX:exec P Γ N A key x l H K→x.wpIn F n P (After G N (bK (.cond c x y)) (aT A key (.cond c x y)) K (envOf G H loc ver w) a) a w:=fun h=>
   wpIn_mono (ihx key hF hI hT hRo h) fun e a' w' h'=>h'.mono (mO _ _) (mO _ _) fun _ _ h=>h
  have hY':exec P Γ N A key y l H K→y.wpIn F n P (After G N (bK (.cond c x y)) (aT A key (.cond c x y)) K (envOf G H loc ver w) a) a w:=fun h=>
   wpIn_mono (ihy key hF hI hT hRo h) fun e a' w' h'=>h'.mono (tX _ _) (tX _ _) fun _ _ h=>h
  simp only[dX,gE,jC,gF,fD,gG,cQ] at h
  split at h
  ·rename_i hl;rw[hl] at hr
   exact wpIn_cond_true hr.bool_inv (hX h)
  ·rename_i hl;rw[hl] at hr
   exact wpIn_cond_false hr.bool_inv (hY' h)
  ·rename_i p d hl
   rw[hl] at hr
   generalize hv:a.eval c=v at hr
   cases hr
   by_cases hp:p
   ·exact wpIn_cond_true (by rw[hv];simp[hp]) (hX (h.yes hp))
   ·exact wpIn_cond_false (by rw[hv];simp[hp]) (hY' (h.no hp))
  ·exact h.elim
 | block id c ih=>
  intro key F n hF H loc ver w l a K hI hT hRo h
  simp only[dX,gE,jC,gF,fD,gG,cQ] at h
  refine wpIn_block (wpIn_mono (ih id hF hI hT hRo h) ?_)
  rintro e a' w' ⟨l',H',loc',ver',h1,h2,h3,h4,h5,h6⟩
  cases e with
  | exit m=>
   simp only at h1
   simp only[Exit.inBlock]
   by_cases hm:m=id
   ·subst hm
    rw[bV] at h1
    simp only[cond_true] at h1
    rw[if_pos rfl]
    exact ⟨l',H',loc',ver',h1,h2,h3,h4,h5,h6⟩
   ·rw[dH hm] at h1
    simp only[cond_false] at h1
    rw[if_neg hm]
    exact ⟨l',H',loc',ver',h1,h2,h3,h4,h5,h6⟩
  | _=>exact ⟨l',H',loc',ver',h1,h2,h3,h4,h5,h6⟩
 | loop c ih=>
  intro key F n hF H loc ver w l a K hI hT hRo h
  simp only[dX,gE,jC,gF,fD,gG,cQ] at h
  rcases tK h with ⟨an,hA,h⟩ | h
  case inr=>
   have hD:∀m,mem m (aT A key c)=true→mem m (aT A key (.loop c))=true:=by
    intro m hm;simp only[aT];exact mO _ _ m hm
   refine wX (fun k a' w'=>∃l' H' loc' ver',sC (exec P Γ N A key c) k l' H' K∧Inv G H' loc' ver' w'∧TRel (envOf G H' loc' ver' w') N l' a'∧ExtO (aT A key (.loop c)) (envOf G H loc ver w) (envOf G H' loc' ver' w')∧Same (bK (.loop c)) a a'∧
     Marked (envOf G H loc ver w) (envOf G H' loc' ver' w') a.defers a'.defers)
    ⟨_,l,H,loc,ver,h,hI,hT,.refl _ _,.refl _ _,.refl _ _ _⟩ ?_
   rintro k a1 w1 ⟨l1,H1,loc1,ver1,hu,hI1,hT1,hx1,hs1,hd1⟩
   cases k with
   | zero=>exact hu.elim
   | succ k=>
    simp only[aDq] at hu
    refine wpIn_mono (ih key hF hI1 hT1 (hRo.ext hx1) hu) ?_
    rintro e a' w' ⟨l',H',loc',ver',h1,h2,h3,h4,h5,h6⟩
    cases e with
    | normal=>
     have h1:dW l' (fun l'=>fS H' fun H'=>sC (exec P Γ N A key c) k l' H' K):=h1
     rw[eH,fI] at h1
     exact ⟨k,Nat.lt_succ_self k,l',H',loc',ver',h1,h2,h3,hx1.trans (h4.mono hD),hs1.trans h5,hd1.trans hx1.size h4 h6⟩
    | _=>exact ⟨l',H',loc',ver',h1,h2,h3,hx1.trans (h4.mono hD),hs1.trans h5,hd1.trans hx1.size h4 h6⟩
  case inl=>
   obtain ⟨hok,hvc⟩:=h
   obtain ⟨x0,hx0⟩:=hvc.init
   have hD:∀m,mem m (aT A key c)=true→mem m (aT A key (.loop c))=true:=by
    intro m hm;simp only[aT];exact mO _ _ m hm
   have hO:∀m,mem m an.objs=true→mem m (aT A key (.loop c))=true:=by
    intro m hm;simp only[aT,hA];exact tX _ _ m hm
   have arr:∀ {x:an.X} {l':List (Nat × SV)} {H':List HO} {loc':Nat→Loc} {ver':Nat→Nat} {a':Act} {w':World},Inv G H' loc' ver' w'→TRel (envOf G H' loc' ver' w') N l' a'→ExtO (aT A key c++an.objs) (envOf G H loc ver w) (envOf G H' loc' ver' w')→Same (bK c) a a'→
     Marked (envOf G H loc ver w) (envOf G H' loc' ver' w') a.defers a'.defers→
     jZ an x H l' H'→Inv G (an.heap x H) loc' (cE an.objs (an.heap x H) ver') w'∧TRel (envOf G (an.heap x H) loc' (cE an.objs (an.heap x H) ver') w') N (annL an x (bK c) l H) a'∧
      ExtO an.objs (envOf G H loc ver w) (envOf G (an.heap x H) loc' (cE an.objs (an.heap x H) ver') w')∧Marked (envOf G H loc ver w) (envOf G (an.heap x H) loc' (cE an.objs (an.heap x H) ver') w') a.defers a'.defers:=by
    intro x l' H' loc' ver' a' w' h1 h2 h3 h4 hmk h5
    have hz1:=and2 (hok x)
    have hz2:=and2 hz1.1
    have hz3:=and2 hz2.1
    obtain ⟨r1,r2,r3⟩:=rB hI hT h1 h2 h3 h4 (aI.1 hz3.2) hz1.2 (pF hz2.2) h5
    refine ⟨r1,r2,r3,?_⟩
    obtain ⟨Ds,m1,m2,m3⟩:=hmk
    refine ⟨Ds,m1,m2,fun D hD=>?_⟩
    obtain ⟨q1,q2,q3⟩:=m3 D hD
    refine ⟨q1,?_,q3⟩
    rintro ⟨nm,st,k,it,e1,e2⟩
    obtain ⟨o',e3,e4⟩:=(fK h5.ent.2).2 nm _ e1
    cases o' with
    | yst=>exact q2 ⟨nm,_,_,_,e3,e2⟩
    | _=>exact e4.elim
   obtain ⟨hI0,hT0,hx00,hm00⟩:=arr hI hT (.refl _ _) (.refl _ _) (.refl _ _ _) hx0
   have arrS:∀ {x:an.X} {l':List (Nat × SV)} {H':List HO} {loc':Nat→Loc} {ver':Nat→Nat} {a':Act} {w':World},Inv G H' loc' ver' w'→TRel (envOf G H' loc' ver' w') N l' a'→ExtO (aT A key c++an.objs) (envOf G H loc ver w) (envOf G H' loc' ver' w')→Same (bK c) a a'→
     Marked (envOf G H loc ver w) (envOf G H' loc' ver' w') a.defers a'.defers→
     qP an x H l' H'→∃loc2 ver2,Inv G (an.heap x H) loc2 ver2 w'∧TRel (envOf G (an.heap x H) loc2 ver2 w') N (annL an x (bK c) l H) a'∧
      ExtO an.objs (envOf G H loc ver w) (envOf G (an.heap x H) loc2 ver2 w')∧Marked (envOf G H loc ver w) (envOf G (an.heap x H) loc2 ver2 w') a.defers a'.defers:=by
    intro x l' H' loc' ver' a' w' h1 h2 h3 h4 hmk h5
    unfold qP at h5
    split at h5
    ·exact ⟨_,_,arr h1 h2 h3 h4 hmk h5⟩
    ·rename_i t0 a0 hsw
     split at h5
     ·rename_i b0 hl0
      obtain ⟨hc,h5⟩:=aE h5
      obtain ⟨c1,hc⟩:=and2 hc
      obtain ⟨c2,hc⟩:=and2 hc
      obtain ⟨c3,hc⟩:=and2 hc
      obtain ⟨c4,c5⟩:=and2 hc
      rw[eH,fI] at h5
      have c2:H.length≤b0:=by simpa using c2
      have c3:a0<H.length:=by simpa using c3
      have hab:a0≠b0:=by omega
      obtain ⟨i1,i2,i3⟩:=aLv h1 hab c4 c5
      have hD:mem a0 (aT A key c++an.objs)=true:=tX _ _ _ c1
      have hx':=aP1 h1 hab c4 c5 hD (fun nm hn e=>by have:=cB (show hasB H nm=true from hn);omega) h3
      refine ⟨_,_,arr i1 ⟨h2.size,fun t=>by rw[tW];exact i3 (h2.rel t)⟩ hx' h4 ?_ h5⟩
      obtain ⟨Ds,m1,m2,m3⟩:=hmk
      refine ⟨Ds,m1,m2,fun D hD=>?_⟩
      obtain ⟨q1,q2,q3⟩:=m3 D hD
      obtain ⟨la,ea,hga,_⟩:=nF c4
      exact ⟨q1,fun hq=>q2 (aLw hab (List.getElem?_eq_some_iff.1 hga).1 c5 hq),q3⟩
     ·exact h5.elim
   refine wX (fun k a' w'=>∃x loc' ver',an.mu x=k∧an.pre x∧Inv G (an.heap x H) loc' ver' w'∧TRel (envOf G (an.heap x H) loc' ver' w') N (annL an x (bK c) l H) a'∧
     ExtO an.objs (envOf G H loc ver w) (envOf G (an.heap x H) loc' ver' w')∧Same (bK c) a a'∧Marked (envOf G H loc ver w) (envOf G (an.heap x H) loc' ver' w') a.defers a'.defers)
    ⟨_,x0,_,_,rfl,hx0.pre,hI0,hT0,hx00,.refl _ _,hm00⟩ ?_
   rintro k a1 w1 ⟨x,loc1,ver1,rfl,hp,hI1,hT1,hx1,hs1,hd1⟩
   have hr:=hvc.round x hp
   rw[eH,fI] at hr
   refine wpIn_mono (ih key hF hI1 hT1 (hRo.ext hx1) hr) ?_
   rintro e a' w' ⟨l',H',loc',ver',h1,h2,h3,h4,h5,h6⟩
   cases e with
   | normal=>
    obtain ⟨x',hlt,hx'⟩:=h1
    obtain ⟨loc2,ver2,hI2,hT2,hx2,hm2⟩:=arrS h2 h3 ((hx1.mono (tX _ _)).trans (h4.mono (mO _ _))) (hs1.trans h5) (hd1.trans hx1.size h4 h6) hx'
    have hpre:an.pre x':=by
     unfold qP at hx'
     split at hx'
     ·exact hx'.pre
     ·split at hx'
      ·obtain ⟨_,hx'⟩:=aE hx'
       rw[eH,fI] at hx'
       exact hx'.pre
      ·exact hx'.elim
    exact ⟨an.mu x',hlt,x',loc2,ver2,rfl,hpre,hI2,hT2,hx2,hs1.trans h5,hm2⟩
   | _=>exact ⟨l',H',loc',ver',h1,h2,h3,(hx1.mono hO).trans (h4.mono hD),hs1.trans h5,hd1.trans hx1.size h4 h6⟩
 | rangeFunc f ps x y ihx ihy=>exact fun key=>aEr hY hΓ ihx ihy key
 | scope c ih=>intro key F n hF H loc ver w l a K hI hT hRo h;exact h.elim
 | goto m=>intro key F n hF H loc ver w l a K hI hT hRo h;exact h.elim
 | refuse s=>intro key F n hF H loc ver w l a K hI hT hRo h;exact h.elim
end
end Go.Eng
end
section
namespace Go.Eng
open Go.RowKit
section
variable {P:Program} {G:Ctx} {H:List HO} {loc:Nat→Loc} {ver:Nat→Nat} {w:World} {N:Nat}
theorem wZ:∀(args:List SV) (n t:Nat),look (oX args n) t=if n≤t then args.getD (t-n) .any else .any
 | [],n,t=>by simp[oX,look]
 | x::r,n,t=>by
  simp only[oX,look]
  by_cases e:n=t
  ·subst e;simp[bV]
  ·rw[dH e]
   simp only[cond_false]
   rw[wZ r (n+1) t]
   by_cases h:n≤t
   ·rw[if_pos h,if_pos (by omega)]
    obtain ⟨k,rfl⟩:∃k,t=n+1+k:=⟨t-(n+1),by omega⟩
    rw[show n+1+k-(n+1)=k by omega,show n+1+k-n=k+1 by omega]
    rfl
   ·rw[if_neg h,if_neg (by omega)]
theorem kM {E:Env} {args:List SV} {vs:List Value} (h:RelL E args vs) (hn:args.length≤N):TRel E N (oX args 0) { tmps:=⟨vs⟩++Array.replicate (N-(⟨vs⟩:Array Value).size) undef,defers:=[] }:=by
 have hl:=h.length
 refine ⟨by simp;omega,fun t=>?_⟩
 rw[wZ,if_pos (Nat.zero_le _),Nat.sub_zero]
 by_cases ht:t<args.length
 ·have:=h.get t ht
  have e:(⟨vs⟩++Array.replicate (N-(⟨vs⟩:Array Value).size) undef:Array Value).getD t undef=vs.getD t undef:=by
   rw[Array.getD_eq_getD_getElem?,Array.getElem?_append_left (by simp;omega),List.getD_eq_getElem?_getD]
   simp
  rw[e];exact this
 ·have:args.getD t .any= .any:=by simp[List.getD_eq_getElem?_getD,List.getElem?_eq_none (Nat.le_of_not_lt ht)]
  rw[this];exact .any _
def ctx0 (w:World) (ok:Nat→Prop) (hok:∀b,ok b→b<w.heap.size):Ctx:=⟨w,ok,fun _=>False,fun _ _ h=>h,hok,itr0,Nat.zero_le _⟩
theorem aAp (ok:Nat→Prop) (hok:∀b,ok b→b<w.heap.size):Inv (ctx0 w ok hok) [] (fun _=>mkL none 0 0) (fun _=>0) w:=by
 refine ⟨Nat.le_refl _,rfl,rfl,rfl,fun _ _ _=>rfl,fun nm o h=>by simp at h,fun b hb=>?_,fun nm nm' o o' b h=>by simp at h⟩
 obtain ⟨nm,o,h,_⟩:=hb
 simp at h
theorem Inv.book (hI:Inv G H loc ver w) {D:Nat} {o:Obj} {ds:Option (List Deferred)} (hD:w.heap[D]? =some (.deferred ds)) (h0:G.w0.heap.size≤D) (hn0:G.itr.n0≤D) (hal:¬aliN H loc D):Inv G H loc ver (w.putObj D o)∧∀s v,Rel (envOf G H loc ver w) s v→Rel (envOf G H loc ver (w.putObj D o)) s v:=by
 have hoth:∀b,b≠D→(w.putObj D o).heap[b]? =w.heap[b]? :=fun b hb=>World.putObj_heap_other hb
 have hcell:∀(a:Addr) (v:Value),w.cell? a=some v→(w.putObj D o).cell? a=some v:=by
  intro a v hv
  by_cases e:a.block=D
  ·rw[World.cell?,e,hD] at hv;cases hv
  ·exact (World.cell?_of_block (hoth _ e)).trans hv
 have hok:∀b,okN G H loc w b→okN G H loc (w.putObj D o) b:=fun b hb=>⟨hb.1,by simpa using hb.2.1,hb.2.2⟩
 have hcm:∀ {b:Nat} {x:Obj},w.heap[b]? =some x→isCM x=true→(w.putObj D o).heap[b]? =some x:=fun {b x} h hm=>
  (hoth b (fun e'=>by subst e';rw[hD] at h;cases h;cases hm)).trans h
 have hcs:∀ {b:Nat} {c:Array Value} {e:TypeId} {f:Nat × Nat},w.heap[b]? =some (.cells c e f)→(w.putObj D o).heap[b]? =some (.cells c e f):=fun {b c e f} h=>hcm h rfl
 have hmv:∀ {l:List SV} {vs:List Value},RelL (envOf G H loc ver w) l vs→RelL (envOf G H loc ver (w.putObj D o)) l vs:=fun h=>
  RelL.move (E:=envOf G H loc ver w) (E':=envOf G H loc ver (w.putObj D o)) (p:=hasB H) (fun nm _ hn=>⟨hn,.inl ⟨rfl,rfl⟩⟩) (fun _ _ _ _=>.inl rfl) (fun _=>rfl) (fun b _ _ h hm=>hcm h hm) hok h h.under
 refine ⟨?_,fun s v h=>Rel.move (E:=envOf G H loc ver w) (E':=envOf G H loc ver (w.putObj D o)) (p:=hasB H) (fun nm _ hn=>⟨hn,.inl ⟨rfl,rfl⟩⟩) (fun _ _ _ _=>.inl rfl) (fun _=>rfl) (fun b _ _ h hm=>hcm h hm) hok h h.under⟩
 refine ⟨by simpa using hI.size,hI.os,hI.tape,hI.output,fun b hb hm=>(hoth b (by omega)).trans (hI.frame b hb hm),fun nm x hx=>?_,hI.own,hI.sep⟩
 have hO:=hI.objs nm x hx
 cases x with
 | dead=>trivial
 | res=>trivial
 | fro k t xs=>obtain ⟨h1,h2,h3⟩:=hO;exact ⟨h1,h2,h3.mono (fun a v _ hv=>hcell a v hv) hok⟩
 | frc l=>obtain ⟨h1,b,vs,e,h2,h3,h4,h5⟩:=hO;exact ⟨h1,b,vs,e,h2,hok b h3,hcs h4,hmv h5⟩
 | cells l e=>obtain ⟨h1,b,vs,h2,h3,h4⟩:=hO;exact ⟨h1,b,vs,h2,hcs h3,hmv h4⟩
 | qm ks l=>obtain ⟨h1,h2,hbr,b,es,c,h3,h4,h5,h6⟩:=hO;exact ⟨h1,h2,hbr,b,es,c,h3,hcm h4 rfl,h5,hmv h6⟩
 | frm ks l=>obtain ⟨h1,hbr,b,es,c,h3,h4,h5,h6,h7⟩:=hO;exact ⟨h1,hbr,b,es,c,h3,hok b h4,hcm h5 rfl,h6,hmv h7⟩
 | vec k t xs e=>
  obtain ⟨h1,h2,h3,h4,vs,h5,h6⟩:=hO
  refine ⟨h1,h2,h3,h4,vs,⟨h5.1,?_⟩,fun i hi=>(h6 i hi).mono (fun a v _ hv=>hcell a v hv) hok⟩
  rcases h5.2 with h7 | ⟨g,cap,cur,h7,h8,h9,h10⟩
  ·exact .inl h7
  ·exact .inr ⟨g,cap,cur,h7,h8,hcs h9,h10⟩
 | gone=>exact ⟨hO.1,fun b hb=>by simpa [envOf] using hO.2 b hb⟩
 | lnt k t xs=>
  obtain ⟨h1,h2,h3,h4,h5⟩:=hO
  refine ⟨h1,h2,h3,fun b x hb=>⟨(h4 b x hb).1,(hoth b fun e'=>?_).trans (h4 b x hb).2⟩,h5.mono (fun a v _ hv=>hcell a v hv) fun _ h=>h⟩
  obtain ⟨k1,k2⟩:=h4 b x hb
  subst e'
  have k2:w.heap[b]? =some x:=k2
  rw[hD] at k2;cases k2
  cases k1
 | map k t m=>
  obtain ⟨h1,h2,h3,b,es,h4,h5,h6⟩:=hO
  exact ⟨h1,h2,h3,b,es,h4,(hoth b (fun e'=>by subst e';have h5:w.heap[b]? = _:=h5;rw[hD] at h5;cases h5)).trans h5,h6.mono (fun a v _ hv=>hcell a v hv) hok⟩
 | vv k s t xss pend eo ei=>
  obtain ⟨h1,h2,h3,h4,h5,⟨vs,h6,h7⟩,h8,h9⟩:=hO
  have hnD:∀b,(b=D)→∀ {c:Array Value} {e:TypeId},w.heap[b]? ≠some (.cells c e (0,0)):=fun b e' c e h=>by subst e';rw[hD] at h;cases h
  have hkeep:∀ {base:Nat} {e:TypeId} {size n:Nat} {v:Value} {vs:List Value},w.ownsR base e size v n vs→(w.putObj D o).ownsR base e size v n vs:=fun {base e size n v vs} h=>by
   refine ⟨h.1,?_⟩
   rcases h.2 with h5 | ⟨g,cap,cur,h5,h6,h7,h8⟩
   ·exact .inl h5
   ·exact .inr ⟨g,cap,cur,h5,h6,hcs h7,h8⟩
  have hrow:∀ {al:Nat→Prop} {h:Value} {xs:List t.T},RowAt (envOf G H loc ver w) al t ei h xs→RowAt (envOf G H loc ver (w.putObj D o)) al t ei h xs:=fun ⟨vs,q1,q2,q3⟩=>⟨vs,hkeep q1,q2,fun i hi=>(q3 i hi).mono (fun a v _ hv=>hcell a v hv) hok⟩
  refine ⟨h1,h2,h3,h4,h5,⟨vs,hkeep h6,h7⟩,fun b hb=>?_,⟨h9.flat,fun i hi hp=>hrow (h9.row i hi hp),h9.apart,fun j ys hp=>by obtain ⟨q1,q2,q3⟩:=h9.grown j ys hp;exact ⟨q1,hrow q2,q3⟩,h9.short⟩⟩
  obtain ⟨q1,q2,c,e,q3⟩:=h8 b hb
  exact ⟨by simpa [envOf] using q1,q2,c,e,hcs q3⟩
 | mit m s l c=>
  obtain ⟨h1,h2,r,bm,h3,h4,h5⟩:=hO
  exact ⟨h1,h2,r,bm,h3,(hoth r (fun e'=>by subst e';have h4:w.heap[r]? = _:=h4;rw[hD] at h4;cases h4)).trans h4,h5⟩
 | yst st n it=>
  obtain ⟨h1,h2,h3,h4,h5,h6,h7⟩:=hO
  have hnal:¬(loc nm).al D:=fun h=>hal ⟨nm,_,_,_,hx,h⟩
  have hDs:=(Array.getElem?_eq_some_iff.1 hD).1
  refine ⟨h1,fun b hb=>by simpa [envOf] using h2 b hb,by simpa [envOf] using h3,h4,h5,fun b hb hl=>⟨(h6 b hb hl).1,hok b (h6 b hb hl).2⟩,?_⟩
  have:=G.itr.abides st _ w (w.putObj D o) h7 rfl rfl rfl (by simp) fun b hb hm=>hoth b fun e=>hm (by subst e;exact ⟨hn0,hDs,hnal⟩)
  refine cast (congrArg (fun M=>G.itr.J st M (w.putObj D o)) (funext fun b=>propext ⟨?_,?_⟩)) this
  ·rintro (⟨h8,h9,h10⟩ | ⟨h8,h9⟩)
   ·exact ⟨h8,by simpa [envOf] using h9,h10⟩
   ·exfalso;simp at h9;omega
  ·rintro ⟨h8,h9,h10⟩
   exact .inl ⟨h8,by simpa [envOf] using h9,h10⟩
def sH (a:Act):ResultVar→Sem Value
 | .tmp t=>pure (a.tmps.getD t undef)
 | .cell c t=>do loadVar t (← asAddr (a.tmps.getD c undef))
theorem nH (hI:Inv G H loc ver w) {l:List (Nat × SV)} {a:Act} (hT:TRel (envOf G H loc ver w) N l a):∀ {rs:List ResultVar} {vs:List SV},mV P l H rs=some vs→
  ∃us:List Value,(rs.mapM (sH a)).run P w= .ok us w∧RelL (envOf G H loc ver w) vs us
 | [],vs,h=>by simp[mV] at h;subst h;exact ⟨[],by simp[List.mapM_nil],.nil⟩
 | .tmp t::r,vs,h=>by
  simp only[mV] at h
  split at h
  ·rename_i vs' h'
   cases h
   obtain ⟨us,h1,h2⟩:=nH hI hT h'
   refine ⟨a.tmps.getD t undef::us,?_,.cons _ _ _ _ (hT.rel t) h2⟩
   rw[List.mapM_cons]
   simp only[sH,Sem.run_bind,Sem.run_pure,Result.andThen_ok,h1]
  ·cases h
 | .cell c t::r,vs,h=>by
  simp only[mV] at h
  split at h
  ·rename_i nm off ag sz vs' hl ha hz h'
   obtain ⟨us,h1,h2⟩:=nH hI hT h'
   have hr:=hT.rel c
   rw[hl] at hr
   cases ho:hget H nm with
   | cells cs e=>
    rw[ho] at h
    simp only at h
    obtain ⟨b,hb,hv⟩:=kJ hI hr (by simp[live,ho])
    obtain ⟨h0,b',ws,h3,h4,h5⟩:=hI.objs nm _ (aD ho (by simp))
    rw[hb] at h3;cases h3
    have h4':w.heap[b]? =some (.cells ⟨ws⟩ e (0,0)):=h4
    have key:∀s,eN ag off sz cs (fun x=>x=s)→∃u,(loadVar t ⟨b,off,none⟩).run P w= .ok u w∧Rel (envOf G H loc ver w) s u:=by
     intro s hs
     obtain ⟨u,s',h6,h7,h8⟩:=eJ (P:=P) (E:=envOf G H loc ver w) (base:=0) (b:=b) hs ha hz h5 (fun j v hj=>by simp[envOf,World.cell?,h4',hj])
     subst h7
     refine ⟨u,?_,h8⟩
     have h6':(Instr.loadAt t (.pointer (some ⟨b,0+off,none⟩))).run P w= .ok u w:=h6
     simpa [Instr.loadAt,Instr.sureAddr] using h6'
    have fin:∀s,eN ag off sz cs (fun x=>x=s)→vs=s::vs'→∃us:List Value,((ResultVar.cell c t::r).mapM (sH a)).run P w= .ok us w∧RelL (envOf G H loc ver w) vs us:=by
     intro s hs e
     subst e
     obtain ⟨u,h6,h7⟩:=key s hs
     refine ⟨u::us,?_,.cons _ _ _ _ h7 h2⟩
     rw[List.mapM_cons]
     simp only[sH,Sem.run_bind,hv,asAddr,Sem.run_pure,Result.andThen_ok,h6,h1]
    cases ag with
    | true=>
     simp only at h
     cases hb2:Nat.ble (off+sz) cs.length with
     | true=>
      rw[hb2] at h
      simp only[cond_true] at h
      cases h
      exact fin _ (by simp[eN,hb2,aK]) rfl
     | false=>rw[hb2] at h;cases h
    | false=>
     simp only at h
     cases hb2:Nat.blt off cs.length with
     | true=>
      rw[hb2] at h
      simp only[cond_true] at h
      cases h
      exact fin _ (by simp[eN,hb2,cT]) rfl
     | false=>rw[hb2] at h;cases h
   | _=>rw[ho] at h;cases h
  ·cases h
theorem aJ1 {E:Env} {vs:List SV} {us:List Value} (h:RelL E vs us):Rel E (oW vs) (if h:(us.toArray).size=1 then us.toArray[0] else .tuple us.toArray):=by
 cases h with
 | nil=>exact .tup _ _ .nil
 | cons s v l us h hl=>
  cases hl with
  | nil=>exact h
  | cons s' v' l' us' h' hl'=>
   have:¬((v::v'::us').toArray.size=1):=by simp
   rw[dif_neg this]
   exact .tup _ _ (.cons _ _ _ _ h (.cons _ _ _ _ h' hl'))
theorem dR (hI:Inv G H loc ver w) {l:List (Nat × SV)} {a:Act} (hT:TRel (envOf G H loc ver w) N l a) {fn:Func} {vs:List SV} (h:mV P l H fn.results.toList=some vs):
  ∃v,(results fn a.tmps).run P w= .ok v w∧Rel (envOf G H loc ver w) (oW vs) v:=by
 obtain ⟨us,h1,h2⟩:=nH (P:=P) hI hT h
 refine ⟨_,?_,aJ1 h2⟩
 have hm:(fn.results.mapM (sH a)).run P w= .ok us.toArray w:=by
  rw[Array.mapM_eq_mapM_toList]
  simp only[Sem.run_map,h1,Result.andThen_ok]
 have e:results fn a.tmps=(do
   let vs ← fn.results.mapM (sH a)
   pure (if h:vs.size=1 then vs[0] else .tuple vs)):=by
  unfold results
  congr 1
 rw[e,Sem.run_bind,hm]
 rfl
theorem Reads.flat {w:World} {ok ok':Nat→Prop} {t:Ty} (ht:t.flat=true) {x:t.T} {cs:List Value} (h:Reads w ok t x cs):Reads w ok' t x cs:=by
 induction t generalizing cs with
 | int k=>exact h
 | bool=>exact h
 | str=>exact h
 | slice t _=>cases ht
 | pair a b iha ihb=>
  simp only[Ty.flat,Bool.and_eq_true] at ht
  obtain ⟨c1,c2,e,h1,h2⟩:=h
  exact ⟨c1,c2,e,iha ht.1 h1,ihb ht.2 h2⟩
theorem sI (hG:∀b,¬G.mine b) (hI:Inv G H loc ver w) {s:SV} {v:Value} (h:Rel (envOf G H loc ver w) s v):Rel (env0 w fun b=>G.w0.heap.size≤b∧b<w.heap.size) (qR H s) v:=by
 cases h with
 | ref nm k v hn h0 hk hv=>
  simp only[qR]
  cases ho:hget H nm with
  | vec j t xs e=>
   simp only
   cases hb:(Nat.beq j k&&t.flat) with
   | false=>exact .any v
   | true=>
    obtain ⟨h1,h2⟩:=and2 hb
    obtain rfl:=aI.1 h1
    have hn':=aD ho (by simp)
    have hO:=hI.objs nm _ hn'
    have:=hv hO.1.symm
    subst this
    obtain ⟨_,_,hlen,hmax,vs,hown,hel⟩:=hO
    refine .seq t xs _ ?_
    rcases aP hown with ⟨e1,e2,e3,e4⟩ | ⟨g,cur,e1,e2,e3,e4,e5,e6,e7⟩
    ·exact ⟨none,0,0,by simp[Core.head,envOf,e1,e2,e3],by omega,Nat.le_refl _,Nat.zero_le _,fun h=>absurd h (Nat.lt_irrefl _)⟩
    ·have hgg:Owned H loc g:=⟨nm,_,hn',by simp[Owns,e1]⟩
     have hg1:G.w0.heap.size≤g:=by
      rcases hI.own g hgg with h | h
      ·exact (hG g h).elim
      ·exact h
     have hg2:g<w.heap.size:=(Array.getElem?_eq_some_iff.1 e3).1
     refine ⟨some ⟨g,0,none⟩,(loc nm).len,(loc nm).cap,by simp[Core.head,envOf,e1],hlen,e4,hmax,fun h0=>⟨g,0,rfl,⟨hg1,hg2⟩,fun i hi=>⟨_,(hel i hi).length,?_,(hel i hi).flat h2⟩⟩⟩
     intro j v hj
     rw[List.getElem?_take] at hj
     split at hj
     ·rw[List.getElem?_drop,← e7,List.getElem?_take] at hj
      split at hj
      ·have e3':w.heap[g]? =some (.cells cur _ (0,0)):=e3
       simp only[env0,World.cell?,e3']
       simpa using hj
      ·cases hj
     ·cases hj
  | vv j s t xss pd eo ei=>
   cases pd with
   | some p=>exact .any v
   | none=>
   cases hb:Nat.beq j k with
   | false=>simp only[hb,cond_false];exact .any v
   | true=>
    simp only[hb,cond_true]
    obtain rfl:=aI.1 hb
    have hn':=aD ho (by simp)
    have hO:=hI.objs nm _ hn'
    have:=hv hO.1.symm
    subst this
    obtain ⟨_,_,_,hlen,hmax,⟨vs,hown,hel⟩,hal,hrows⟩:=hO
    have hge:∀b,Owns (loc nm) (.vv j s t xss none eo ei) b→G.w0.heap.size≤b:=fun b hb=>by
     rcases hI.own b ⟨nm,_,hn',hb⟩ with h | h
     ·exact (hG b h).elim
     ·exact h
    refine .seq (.slice t) xss _ ?_
    rcases aP hown with ⟨e1,e2,e3,e4⟩ | ⟨g,cur,e1,e2,e3,e4,e5,e6,e7⟩
    ·exact ⟨none,0,0,by simp[Core.head,envOf,e1,e2,e3],by omega,Nat.le_refl _,Nat.zero_le _,fun h=>absurd h (Nat.lt_irrefl _)⟩
    ·have hg1:G.w0.heap.size≤g:=hge g (.inl (by simp[e1]))
     have hg2:g<w.heap.size:=(Array.getElem?_eq_some_iff.1 e3).1
     refine ⟨some ⟨g,0,none⟩,(loc nm).len,(loc nm).cap,by simp[Core.head,envOf,e1],hlen,e4,hmax,fun h0=>⟨g,0,rfl,⟨hg1,hg2⟩,fun i hi=>⟨[(loc nm).sub.rows i],rfl,?_,?_⟩⟩⟩
     ·intro q v hq
      have hq0:q=0:=by
       have:=(List.getElem?_eq_some_iff.1 hq).1
       simpa using this
      subst hq0
      have h1:=hel i hi
      rw[← e7,List.getElem?_take] at h1
      split at h1
      ·have e3':w.heap[g]? =some (.cells cur _ (0,0)):=e3
       simp only[env0,World.cell?,e3']
       simp only[List.getElem?_cons_zero,Option.some.injEq] at hq
       subst hq
       simpa [Ty.size] using h1
      ·cases h1
     ·have hi':i<xss.length:=by rw[← hlen];exact hi
      obtain ⟨rs,r1,r2,r3⟩:=hrows.row i hi' (fun _ _ hp=>by cases hp)
      have hsh:=hrows.short i hi'
      show Reads w _ (.slice t) (xss.getD i []) _
      rcases r1.2 with ⟨f1,f2⟩ | ⟨g',cap,cur',f1,_,f3,f4,f5,f6,f7⟩
      ·have hl0:(xss.getD i []).length=0:=f2
       exact ⟨none,0,0,by rw[f1],hl0.symm,Nat.le_refl _,Nat.zero_le _,fun h=>absurd h (Nat.lt_irrefl _)⟩
      ·have hgo:(loc nm).al g':=r2 g' (by rw[f1];rfl)
       have hg1':G.w0.heap.size≤g':=hge g' (.inr hgo)
       have f3:w.heap[g']? =some (.cells cur' ei (0,0)):=f3
       have hg2':g'<w.heap.size:=(Array.getElem?_eq_some_iff.1 f3).1
       refine ⟨some ⟨g',0,none⟩,(xss.getD i []).length,cap,by rw[f1],rfl,f4,hsh,fun h0=>⟨g',0,rfl,⟨hg1',hg2'⟩,fun m hm=>⟨_,(r3 m hm).length,?_,(r3 m hm).flat hrows.flat⟩⟩⟩
       intro q v hq
       rw[List.getElem?_take] at hq
       split at hq
       ·rw[List.getElem?_drop,← f7,List.getElem?_take] at hq
        split at hq
        ·simp only[env0,World.cell?,f3]
         simpa using hq
        ·cases hq
       ·cases hq
  | _=>exact .any v
 | val _ h=>exact .val v h
 | bl p d=>exact .bl p d
 | str s h=>exact .str s h
 | ifc _ h=>exact .ifc v h
 | _=>exact .any _
theorem pV (hG:∀b,¬G.mine b) (hI:Inv G H loc ver w):∀ {l:List SV} {vs:List Value},RelL (envOf G H loc ver w) l vs→RelL (env0 w fun b=>G.w0.heap.size≤b∧b<w.heap.size) (l.map (qR H)) vs
 | _,_,.nil=>.nil
 | _,_,.cons _ _ _ _ h hl=>.cons _ _ _ _ (sI hG hI h) (pV hG hI hl)
theorem xA (hG:∀b,¬G.mine b) (hI:Inv G H loc ver w):∀ {l:List SV} {vs:List Value},RelL (envOf G H loc ver w) l vs→RelL (env0 w fun b=>G.w0.heap.size≤b∧b<w.heap.size) (l.map fun s=>match s with
   | .agg l=>.agg (l.map (qR H))
   | s=>qR H s) vs
 | _,_,.nil=>.nil
 | _,_,.cons s _ _ _ h hl=>by
  refine .cons _ _ _ _ ?_ (xA hG hI hl)
  cases s with
  | agg l=>cases h with
   | agg _ vs hl=>exact .agg _ _ (pV hG hI hl)
  | _=>exact sI hG hI h
theorem aGs (hG:∀b,¬G.mine b) (hI:Inv G H loc ver w) {s:SV} {v:Value} (h:Rel (envOf G H loc ver w) s v):Rel (env0 w fun b=>G.w0.heap.size≤b∧b<w.heap.size) (aLo H s) v:=by
 cases s with
 | agg l=>cases h with
  | agg _ vs hl=>exact .agg _ _ (pV hG hI hl)
 | tup l=>cases h with
  | tup _ vs hl=>exact .tup _ _ (xA hG hI hl)
 | _=>exact sI hG hI h
end
section
variable {P:Program}
theorem iE {G:Ctx} {fn:Func} {tmps:Array Value} {R:Ending→World→Prop} {H:List HO} {loc:Nat→Loc} {ver:Nat→Nat}:∀(Ds:List Nat) {w:World},Inv G H loc ver w→Ds.Nodup→
  (∀D∈Ds,G.w0.heap.size≤D∧G.itr.n0≤D∧¬aliN H loc D∧w.heap[D]? =some (.deferred (some [])))→
  (∀w',Inv G H loc ver w'→(∀s v,Rel (envOf G H loc ver w) s v→Rel (envOf G H loc ver w') s v)→∃v,(results fn tmps).run P w'= .ok v w'∧R (.returned v) w')→LeavesInM Fence.wide 0 P fn tmps R (Ds.map pU) .returning w
 | [],w,hI,_,_,hR=>by
  obtain ⟨v,h1,h2⟩:=hR w hI fun _ _ h=>h
  exact ⟨v,h1,h2⟩
 | D::Ds,w,hI,hnd,hD,hR=>by
  obtain ⟨h1,h2,h3,h4⟩:=hD D (List.mem_cons_self ..)
  refine ⟨by simp,.inl ⟨D,_,rfl,run_takeDeferred h4,?_⟩⟩
  have hnd':=List.nodup_cons.1 hnd
  have hbk:=hI.book (o:=.deferred none) h4 h1 h2 h3
  refine iE Ds hbk.1 hnd'.2 (fun D' hD'=>?_) fun w' h5 h6=>hR w' h5 fun s v h=>h6 s v (hbk.2 s v h)
  obtain ⟨k1,k2,k3,k4⟩:=hD D' (List.mem_cons_of_mem _ hD')
  exact ⟨k1,k2,k3,(World.putObj_heap_other (fun e=>hnd'.1 (by rw[← e];exact hD'))).trans k4⟩
theorem rD {G:Ctx} {fn:Func} {tmps:Array Value} {R:Ending→World→Prop} {H:List HO} {loc:Nat→Loc} {ver:Nat→Nat}:∀(Ds:List Nat) {w:World},Inv G H loc ver w→Ds.Nodup→
  (∀D∈Ds,G.w0.heap.size≤D∧G.itr.n0≤D∧¬aliN H loc D∧w.heap[D]? =some (.deferred (some [])))→
  (∀w',Inv G H loc ver w'→(∀s v,Rel (envOf G H loc ver w) s v→Rel (envOf G H loc ver w') s v)→w'.heap.size=w.heap.size→(∀b,¬b∈Ds→w'.heap[b]? =w.heap[b]?)→∃v,(results fn tmps).run P w'= .ok v w'∧R (.returned v) w')→LeavesInM Fence.wide 0 P fn tmps R (Ds.map pU) .returning w
 | [],w,hI,_,_,hR=>by
  obtain ⟨v,h1,h2⟩:=hR w hI (fun _ _ h=>h) rfl fun _ _=>rfl
  exact ⟨v,h1,h2⟩
 | D::Ds,w,hI,hnd,hD,hR=>by
  obtain ⟨h1,h2,h3,h4⟩:=hD D (List.mem_cons_self ..)
  refine ⟨by simp,.inl ⟨D,_,rfl,run_takeDeferred h4,?_⟩⟩
  have hnd':=List.nodup_cons.1 hnd
  have hbk:=hI.book (o:=.deferred none) h4 h1 h2 h3
  refine rD Ds hbk.1 hnd'.2 (fun D' hD'=>?_) fun w' h5 h6 h7 h8=>hR w' h5 (fun s v h=>h6 s v (hbk.2 s v h)) (by rw[h7];simp) fun b hb=>?_
  ·obtain ⟨k1,k2,k3,k4⟩:=hD D' (List.mem_cons_of_mem _ hD')
   exact ⟨k1,k2,k3,(World.putObj_heap_other (fun e=>hnd'.1 (by rw[← e];exact hD'))).trans k4⟩
  ·exact (h8 b fun h=>hb (List.mem_cons_of_mem _ h)).trans (World.putObj_heap_other fun e=>hb (by subst e;exact List.mem_cons_self ..))
theorem ExtO.late {G:Ctx} {D:List Nat} {H0 H:List HO} {loc0 loc:Nat→Loc} {ver0 ver:Nat→Nat} {w0 w w':World} (hI0:Inv G H0 loc0 ver0 w0) (hx:ExtO D (envOf G H0 loc0 ver0 w0) (envOf G H loc ver w)) (hs:w'.heap.size=w.heap.size)
  (hb:∀b,b<w0.heap.size→w'.heap[b]? =w.heap[b]?):ExtO D (envOf G H0 loc0 ver0 w0) (envOf G H loc ver w'):=by
 refine ⟨fun b ho=>(hb b ho.2.1).trans (hx.blk b ho),fun b ho=>?_,hx.num,hx.ver,by have:=hx.size;show w0.heap.size≤w'.heap.size;rw[hs];exact this,fun k o hna hk ho=>(hb k (Array.getElem?_eq_some_iff.1 hk).1).trans (hx.keep k o hna hk ho),fun nm b hg=>?_,hx.gho',hx.ali,hx.itr,hx.sub⟩
 ·obtain ⟨h1,h2,h3⟩:=hx.ok b ho
  exact ⟨h1,by have h2':b<w.heap.size:=h2;show b<w'.heap.size;omega,h3⟩
 ·obtain ⟨h1,h2⟩:=hx.gho nm b hg
  exact ⟨h1,(hb b ((hI0.objs nm _ hg.1).2 b hg.2)).trans h2⟩
theorem ExtO.ext {D:List Nat} {G:Ctx} {H0 H:List HO} {loc0 loc:Nat→Loc} {ver0 ver:Nat→Nat} {w0 w:World} (hI0:Inv G H0 loc0 ver0 w0) (hI:Inv G H loc ver w) (hx:ExtO D (envOf G H0 loc0 ver0 w0) (envOf G H loc ver w)) (hD:∀nm,hasB H0 nm=true→mem nm D=false):Ext (envOf G H0 loc0 ver0 w0) (envOf G H loc ver w):=
 ⟨⟨hx.blk,hx.ok,hx.num,fun nm hn=>hx.ver nm hn (hD nm hn),hI.os.trans hI0.os.symm,hI.tape.trans hI0.tape.symm,hI.output.trans hI0.output.symm,hx.size,hx.ali,hx.itr,fun nm hn he=>hx.sub nm hn (hD nm hn) he⟩,hx.keep,hx.gho,hx.gho'⟩
theorem rE {Γ:List Con} (hΓ:∀c∈Γ,aG P c) {A:Anns} {f:FuncId} {fn:Func} (hf:P.funcs[f]? =some fn) {args:List SV} {H:List HO} {R:SV→List HO→Prop} (hn:args.length≤fn.ntmps) (h:aIa P Γ A fn args H R):HTri P f args H R:=by
 intro G loc ver w vs hY hI hr
 unfold aIa at h
 cases hc:fn.body with
 | none=>rw[hc] at h;exact h.elim
 | some c=>
  rw[hc] at h
  obtain ⟨hwi,h⟩:=h
  refine (callsIn_wide (n:=0)).1 (callsIn_of_wp_marks hf hc trivial ?_)
  have hT:=kM (N:=fn.ntmps) hr hn
  refine wpIn_mono (jI hY hΓ c 0 (F:=Fence.wide) (n:=0) ⟨none,rfl⟩ hI hT (fun l hl=>by cases hl) h) ?_
  rintro e a' w' ⟨l',H',loc',ver',h1,h2,h3,h4,h5,Ds,h6,h7,h8⟩
  have hend:finH.endH P fn.results.toList R H l' H'→LeavesInM Fence.wide 0 P fn a'.tmps (fun e w'=>∃v,e= .returned v∧Res G (envOf G H loc ver w) R v w') a'.defers .returning w':=by
   intro he
   rw[h6,List.append_nil]
   refine rD Ds h2 h7 (fun D hD=>⟨Nat.le_trans hI.size (h8 D hD).1,Nat.le_trans (Nat.le_trans G.low hI.size) (h8 D hD).1,(h8 D hD).2.1,(h8 D hD).2.2⟩) fun w2 h9 h10 h11 h12=>?_
   unfold finH.endH at he
   split at he
   case h_2=>exact he.elim
   rename_i us hu
   obtain ⟨s,H2,hR,hp,hent,hlen,hgo,hH⟩:=he
   have hT2:TRel (envOf G H' loc' ver' w2) fn.ntmps l' a':=⟨h3.size,fun t=>h10 _ _ (h3.rel t)⟩
   obtain ⟨v,k1,k2⟩:=dR (P:=P) h9 hT2 hu
   have hS:EntS [] H' H2 H.length:=fK hH
   obtain ⟨hI2,hok2⟩:=lJ h9 (by omega) hS
   have hxl:=ExtO.late hI h4 h11 fun b hb=>h12 b fun hm=>by have h13:w.heap.size≤b:=(h8 b hm).1;omega
   have hx2:=lK hxl (by omega) (fun nm hnm=>jH hgo hnm) hwi hS hok2
   refine ⟨v,k1,v,rfl,s,H2,loc',_,hR,hI2,?_,ExtO.ext hI hI2 hx2 fun _ _=>rfl⟩
   exact Rel.plain (dQ hent k2) hp
  cases e with
  | normal=>exact hend h1
  | ret=>exact hend h1
  | _=>exact h1.elim
theorem xB {ok:Nat→Prop} {w0:World} {hok:∀b,ok b→b<w0.heap.size} {H:List HO} {loc:Nat→Loc} {ver:Nat→Nat} {w:World} {N:Nat} {l:List (Nat × SV)} {a:Act} {fn:Func} {fresh:Bool} {r:SV}
  (hI:Inv (ctx0 w0 ok hok) H loc ver w) (hT:TRel (envOf (ctx0 w0 ok hok) H loc ver w) N l a) (hb:bare r=true) (h:finV P fresh fn.results.toList r l H):
  ∃v,(results fn a.tmps).run P w= .ok v w∧Below w0.heap.size w0 w∧Rel (env0 w fun b=>(fresh=false∧ok b)∨(w0.heap.size≤b∧b<w.heap.size)) r v:=by
 have hbel:Below w0.heap.size w0 w:=⟨hI.os,hI.tape,hI.output,hI.size,fun b hb=>hI.frame b hb fun h=>h⟩
 unfold finV at h
 split at h
 case h_2=>exact h.elim
 rename_i vs hv
 obtain ⟨v,hr,hrel⟩:=dR (P:=P) hI hT hv
 refine ⟨v,hr,hbel,?_⟩
 cases fresh with
 | true=>
  simp only[cond_true] at h
  have h1:=dQ h (aGs (fun _ h=>h) hI hrel)
  exact Rel.bare (E:=env0 w fun b=>w0.heap.size≤b∧b<w.heap.size) (E':=env0 w fun b=>(true=false∧ok b)∨(w0.heap.size≤b∧b<w.heap.size)) (fun _ _ _ h _=>h) (fun b hb=>Or.inr hb) h1 hb
 | false=>
  simp only[cond_false,aK] at h
  obtain ⟨hI1,hx1⟩:=hU vs hI
  have h1:=aAh (H:=cJ H vs) (lend:=false) (Ext.refl _) (fun _ _ _ h=>nD hI1 h) (fun nm k v h=>eK hI1 h) (fun nm k i v _=>eP nm k i v) (fun nm v h=>iK hI1 (Ext.refl _) (.inl rfl) h) (hrel.ext hx1)
  have h2:=dQ h h1
  refine Rel.bare (E:=envOf _ (cJ H vs) loc ver w) (E':=env0 w _) (fun _ _ _ h _=>h) (fun b hb=>?_) h2 hb
  rcases hb.1 with h3 | h3 | h3
  ·exact .inl ⟨rfl,h3⟩
  ·exact h3.elim
  ·exact .inr ⟨h3,hb.2.1⟩
theorem tY {Γ:List Con} (hΓ:∀c∈Γ,aG P c) {A:Anns} {fresh:Bool} {f:FuncId} {fn:Func} (hf:P.funcs[f]? =some fn) {args:List SV} {r:SV} (hn:args.length≤fn.ntmps) (hb:bare r=true) (h:body P Γ A fresh fn args r):Tri P fresh f args r:=by
 intro ok w vs hgw hok hr
 unfold body at h
 cases hc:fn.body with
 | none=>rw[hc] at h;exact h.elim
 | some c=>
  rw[hc] at h
  refine (callsIn_wide (n:=0)).1 (callsIn_of_wp_marks hf hc trivial ?_)
  have hI:=aAp ok hok
  have hr':RelL (envOf (ctx0 w ok hok) [] (fun _=>mkL none 0 0) (fun _=>0) w) args vs:=by
   refine RelL.move (E:=env0 w ok) (E':=envOf (ctx0 w ok hok) [] (fun _=>mkL none 0 0) (fun _=>0) w) (p:=fun m=>Nat.blt m 0) (fun nm hp _=>by simp at hp) (fun nm hp=>by simp at hp) (fun h=>by cases h) (fun _ _ _ h _=>h) (fun b hb=>⟨.inl hb,hok b hb,fun ⟨nm,o,h,_⟩=>by simp at h⟩) hr hr.under
  have hT:=kM (N:=fn.ntmps) hr' hn
  have hY:COK P (ctx0 w ok hok):=⟨(fun k M W us hk=>by cases hk),hgw⟩
  refine wpIn_mono (jI hY hΓ c 0 (F:=Fence.wide) (n:=0) ⟨none,rfl⟩ hI hT (fun l hl=>by cases hl) h) ?_
  rintro e a' w' ⟨l',H',loc',ver',h1,h2,h3,h4,h5,Ds,h6,h7,h8⟩
  have hend:∀ {R:Ending→World→Prop},(∀w2,Inv (ctx0 w ok hok) H' loc' ver' w2→TRel (envOf (ctx0 w ok hok) H' loc' ver' w2) fn.ntmps l' a'→∃v,(results fn a'.tmps).run P w2= .ok v w2∧R (.returned v) w2)→LeavesInM Fence.wide 0 P fn a'.tmps R a'.defers .returning w':=by
   intro R hR
   rw[h6,List.append_nil]
   exact iE Ds h2 h7 (fun D hD=>⟨(h8 D hD).1,Nat.zero_le _,(h8 D hD).2.1,(h8 D hD).2.2⟩) fun w2 h9 h10=>hR w2 h9 ⟨h3.size,fun t=>h10 _ _ (h3.rel t)⟩
  cases e with
  | normal=>
   refine hend fun w2 h9 h10=>?_
   obtain ⟨v,k7,k8,k9⟩:=xB h9 h10 hb h1
   exact ⟨v,k7,v,rfl,k8,k9⟩
  | ret=>
   refine hend fun w2 h9 h10=>?_
   obtain ⟨v,k7,k8,k9⟩:=xB h9 h10 hb h1
   exact ⟨v,k7,v,rfl,k8,k9⟩
  | _=>exact h1.elim
theorem eL {Γ:List Con} (hΓ:∀c∈Γ,aG P c) {A:Anns} {f:FuncId} {fn:Func} (hf:P.funcs[f]? =some fn) {pos:Nat} {same:Bool} {args:List SV} {t:Ty} {xs:List t.T} {e:TypeId} {r:SV} {ys:List t.T} (hn:args.length≤fn.ntmps) (hfl:t.flat=true)
  (h:aDv P Γ A fn pos same args t xs e r ys):LTri P f pos same args t xs e r ys:=by
 intro ok w vs L hgw hok hblk hrow hr hpos
 unfold aDv at h
 cases hc:fn.body with
 | none=>rw[hc] at h;exact h.elim
 | some c=>
  rw[hc] at h
  refine (callsIn_wide (n:=0)).1 (callsIn_of_wp_marks hf hc trivial ?_)
  obtain ⟨G,hG⟩:∃G:Ctx,G= ⟨w,ok,fun b=>L.blk.map (·.1)=some b,fun b h1 h2=>(hok b h1).2 h2,fun b hb=>(hok b hb).1,itr0,Nat.zero_le _⟩:=⟨_,rfl⟩
  obtain ⟨r1,r2,rs,r3,r4⟩:=hrow
  have hown:∀b,Owned [HO.vec 1 t xs e] (fun _=>L) b→L.blk.map (·.1)=some b:=by
   rintro b ⟨nm,o,h1,h2⟩
   cases nm with
   | zero=>simp at h1;subst h1;exact h2
   | succ k=>simp at h1
  have hokn:∀b,ok b→okN G [HO.vec 1 t xs e] (fun _=>L) w b:=fun b hb=>⟨.inl (by rw[hG];exact hb),(hok b hb).1,fun ho=>(hok b hb).2 (hown b ho)⟩
  have hI:Inv G [HO.vec 1 t xs e] (fun _=>L) (fun _=>1) w:=by
   refine ⟨by rw[hG];exact Nat.le_refl _,by rw[hG],by rw[hG],by rw[hG],fun b _ _=>by rw[hG],fun nm o ho=>?_,fun b hb=>.inl (by rw[hG];exact hown b hb),fun nm nm' o o' b h1 h2 _ _=>?_⟩
   ·cases nm with
    | zero=>
     simp at ho;subst ho
     exact ⟨rfl,Nat.one_pos,r1,r2,rs,r3,fun i hi=>Reads.flatJ hfl (r4 i hi)⟩
    | succ k=>simp at ho
   ·cases nm with
    | zero=>cases nm' with
     | zero=>rfl
     | succ k=>simp at h2
    | succ k=>simp at h1
  have hr':RelL (envOf G [HO.vec 1 t xs e] (fun _=>L) (fun _=>1) w) args vs:=
   RelL.move (E:=env0 w ok) (E':=envOf G [HO.vec 1 t xs e] (fun _=>L) (fun _=>1) w) (p:=fun m=>Nat.blt m 0) (fun nm hp _=>by simp at hp) (fun nm hp=>by simp at hp) (fun h=>by cases h) (fun _ _ _ h _=>h) hokn hr hr.under
  have hrs:RelL (envOf G [HO.vec 1 t xs e] (fun _=>L) (fun _=>1) w) (args.set pos (.ref 0 1)) vs:=by
   have hh:Rel (envOf G [HO.vec 1 t xs e] (fun _=>L) (fun _=>1) w) (.ref 0 1) L.head:=.ref 0 1 _ (by rfl) Nat.one_pos (Nat.le_refl _) fun _=>rfl
   have:=hr'.set pos hh
   obtain ⟨hlt,he⟩:=List.getElem?_eq_some_iff.1 hpos
   rwa [show vs.set pos L.head=vs from by rw[← he];exact List.set_getElem_self hlt] at this
  have hT:=kM (N:=fn.ntmps) hrs (by simpa using hn)
  have hY:COK P G:=by rw[hG];exact ⟨(fun k M W us hk=>by cases hk),hgw⟩
  have hRo:RoundOK Fence.wide (envOf G [HO.vec 1 t xs e] (fun _=>L) (fun _=>1) w):=fun l hl=>by cases hl
  refine wpIn_mono (jI hY hΓ c 0 (F:=Fence.wide) (n:=0) ⟨none,rfl⟩ hI hT hRo h) ?_
  rintro en a' w' ⟨l',H',loc',ver',h1,h2,h3,h4,h5,Ds,h6,h7,h8⟩
  have h0s:G.w0.heap.size=w.heap.size:=by rw[hG]
  have h0n:G.itr.n0=0:=by rw[hG];rfl
  have hend:finL.endL P A c same fn.results.toList r t ys e l' H'→LeavesInM Fence.wide 0 P fn a'.tmps (fun en w'=>∃v L',en= .returned v∧(w'.os=w.os∧w'.tape=w.tape∧w'.output=w.output∧w.heap.size≤w'.heap.size∧∀b,b<w.heap.size→L.blk.map (·.1)≠some b→w'.heap[b]? =w.heap[b]?)∧
   (same=true→L'=L)∧(∀b,L'.blk.map (·.1)=some b→L.blk.map (·.1)=some b∨w.heap.size≤b)∧RowS w' L' t ys e∧((r= .ref 0 1∧v=L'.head)∨(plain r=true∧Rel (env0 w' fun _=>False) r v))) a'.defers .returning w':=by
   intro he
   rw[h6,List.append_nil]
   refine iE Ds h2 h7 (fun D hD=>⟨by rw[h0s];exact (h8 D hD).1,by rw[h0n];exact Nat.zero_le _,(h8 D hD).2.1,(h8 D hD).2.2⟩) fun w2 h9 h10=>?_
   unfold finL.endL at he
   split at he
   case h_2=>exact he.elim
   rename_i us k t' zs e' hu ho
   obtain ⟨q1,rfl,q2,q3⟩:=he
   have hT2:TRel (envOf G H' loc' ver' w2) fn.ntmps l' a':=⟨h3.size,fun t=>h10 _ _ (h3.rel t)⟩
   obtain ⟨v,k7,k8⟩:=dR (P:=P) h9 hT2 hu
   have hq:=gJ q2
   cases hq
   have hn0:=aD ho (by simp)
   obtain ⟨o1,o2,o3,o4,rs',o5,o6⟩:=h9.objs 0 _ hn0
   have o1:ver' 0=k:=o1
   refine ⟨v,k7,v,⟨(loc' 0).toCore,L.al,L.sub⟩,rfl,⟨?_,?_,?_,?_,?_⟩,?_,?_,⟨o3,o4,rs',o5,fun i hi=>Reads.flatJ hfl (o6 i hi)⟩,?_⟩
   ·have:=h9.os;rw[hG] at this;exact this
   ·have:=h9.tape;rw[hG] at this;exact this
   ·have:=h9.output;rw[hG] at this;exact this
   ·have:=h9.size;rw[hG] at this;exact this
   ·intro b hb hne
    have:=h9.frame b (by rw[h0s];exact hb) (by rw[hG];exact hne)
    rw[hG] at this;exact this
   ·intro hs
    rw[hs] at q1
    simp only[cond_true,Bool.and_eq_true,aI,Bool.not_eq_true'] at q1
    rcases h4.ver 0 (by rfl) q1.2 with ⟨_,e2⟩ | ⟨_,e2⟩
    ·have e2:(loc' 0).toCore=L.toCore:=e2
     rw[e2]
    ·have e2:1<ver' 0:=e2
     omega
   ·intro b hb
    rcases h9.own b ⟨0,_,hn0,hb⟩ with h | h
    ·rw[hG] at h;exact .inl h
    ·rw[hG] at h;exact .inr h
   ·split at q3
    ·split at q3
     ·rename_i k' hk
      subst q3
      rw[hk] at k8
      refine .inl ⟨rfl,?_⟩
      generalize v=u at k8
      cases k8 with
      | ref _ _ _ _ _ _ hh=>exact hh o1.symm
     ·exact q3.elim
    ·obtain ⟨q4,q5⟩:=q3
     exact .inr ⟨q4,(dQ q5 k8).plain q4⟩
  cases en with
  | normal=>exact hend h1
  | ret=>exact hend h1
  | _=>exact h1.elim
theorem RelL.mapTo {E E':Env} {g:SV→SV} (hg:∀s x,Rel E s x→Rel E' (g s) x):∀ {l:List SV} {vs:List Value},RelL E l vs→RelL E' (l.map g) vs
 | _,_,.nil=>.nil
 | _,_,.cons _ _ _ _ h hl=>.cons _ _ _ _ (hg _ _ h) (RelL.mapTo hg hl)
theorem aJ2 {E E':Env} {g:SV→SV} (hg:∀s x,Rel E s x→Rel E' (g s) x) {l:List SV} {v:Value} (h:Rel E (oW l) v):Rel E' (oW (l.map g)) v:=by
 match l with
 | []=>cases h with
  | tup _ vs hl=>exact .tup _ _ (by simpa using RelL.mapTo hg hl)
 | [a]=>exact hg _ _ h
 | a::b::l=>cases h with
  | tup _ vs hl=>exact .tup _ _ (by simpa using RelL.mapTo hg hl)
theorem aLx {E:Env} {nm k:Nat} {w:World} (hv:E.ver nm=k) {s:SV} {x:Value} (h:Rel E s x):Rel (envO w (E.loc nm)) (renb nm k s) x:=by
 cases s with
 | ref n j=>
  simp only[renb]
  cases hb:(Nat.beq n nm&&Nat.beq j k) with
  | false=>exact .any x
  | true=>
   simp only[Bool.and_eq_true,aI] at hb
   obtain ⟨rfl,rfl⟩:=hb
   cases h with
   | ref _ _ _ _ _ _ hh=>
    have:=hh hv.symm
    exact .ref 0 1 x (by simp[envO]) Nat.one_pos (Nat.le_refl _) fun _=>this
 | _=>
  simp only[renb]
  first
  | (split<;>first | exact .any x | exact h.plain (by assumption))
  | (cases hp:plain _ with
   | true=>exact h.plain hp
   | false=>exact .any x)
theorem lL {Γ:List Con} (hΓ:∀c∈Γ,aG P c) {A:Anns} {f:FuncId} {fn:Func} (hf:P.funcs[f]? =some fn) {args:List SV} {r:SV} {t:Ty} {ys:List t.T} {e:TypeId} (hn:args.length≤fn.ntmps) (hfl:t.flat=true)
  (h:aH9 P Γ A fn args r t ys e):OTri P f args r t ys e:=by
 intro ok w vs hgw hok hr
 unfold aH9 at h
 cases hc:fn.body with
 | none=>rw[hc] at h;exact h.elim
 | some c=>
  rw[hc] at h
  refine (callsIn_wide (n:=0)).1 (callsIn_of_wp_marks hf hc trivial ?_)
  have hI:=aAp ok hok
  have hr':RelL (envOf (ctx0 w ok hok) [] (fun _=>mkL none 0 0) (fun _=>0) w) args vs:=by
   refine RelL.move (E:=env0 w ok) (E':=envOf (ctx0 w ok hok) [] (fun _=>mkL none 0 0) (fun _=>0) w) (p:=fun m=>Nat.blt m 0) (fun nm hp _=>by simp at hp) (fun nm hp=>by simp at hp) (fun h=>by cases h) (fun _ _ _ h _=>h) (fun b hb=>⟨.inl hb,hok b hb,fun ⟨nm,o,h,_⟩=>by simp at h⟩) hr hr.under
  have hT:=kM (N:=fn.ntmps) hr' hn
  have hY:COK P (ctx0 w ok hok):=⟨(fun k M W us hk=>by cases hk),hgw⟩
  refine wpIn_mono (jI hY hΓ c 0 (F:=Fence.wide) (n:=0) ⟨none,rfl⟩ hI hT (fun l hl=>by cases hl) h) ?_
  rintro en a' w' ⟨l',H',loc',ver',h1,h2,h3,h4,h5,Ds,h6,h7,h8⟩
  have hend:finO.endO P fn.results.toList r t ys e l' H'→LeavesInM Fence.wide 0 P fn a'.tmps (fun en w'=>∃v L',en= .returned v∧Below w.heap.size w w'∧(∀b,L'.blk.map (·.1)=some b→w.heap.size≤b)∧RowS w' L' t ys e∧Rel (envO w' L') r v) a'.defers .returning w':=by
   intro he
   rw[h6,List.append_nil]
   refine iE Ds h2 h7 (fun D hD=>⟨(h8 D hD).1,Nat.zero_le _,(h8 D hD).2.1,(h8 D hD).2.2⟩) fun w2 h9 h10=>?_
   unfold finO.endO at he
   split at he
   case h_2=>exact he.elim
   rename_i us hu
   split at he
   case h_2=>
    split at he
    case h_2=>exact he.elim
    obtain ⟨hr0,hy0⟩:=he
    have hT2:TRel (envOf (ctx0 w ok hok) H' loc' ver' w2) fn.ntmps l' a':=⟨h3.size,fun t=>h10 _ _ (h3.rel t)⟩
    obtain ⟨v,k7,k8⟩:=dR (P:=P) h9 hT2 hu
    have hv:v= .slice none 0 0:=by
     have k8:Rel _ (.val (.slice none 0 0)) v:=k8
     cases k8;rfl
    subst hr0
    refine ⟨v,k7,v,mkL none 0 0,rfl,⟨h9.os,h9.tape,h9.output,h9.size,fun b hb=>h9.frame b hb fun h=>h⟩,fun b hb=>(by simp at hb),⟨hy0.symm,Nat.zero_le _,[],⟨by simp,.inl ⟨rfl,rfl⟩⟩,fun i hi=>absurd hi (Nat.not_lt_zero _)⟩,?_⟩
    exact .ref 0 1 v (by simp[envO]) Nat.one_pos (Nat.le_refl _) fun _=>by rw[hv];rfl
   rename_i nm k hfr
   split at he
   case h_2=>exact he.elim
   rename_i k' t' zs e' ho
   obtain ⟨rfl,rfl,q2,q3⟩:=he
   have hT2:TRel (envOf (ctx0 w ok hok) H' loc' ver' w2) fn.ntmps l' a':=⟨h3.size,fun t=>h10 _ _ (h3.rel t)⟩
   obtain ⟨v,k7,k8⟩:=dR (P:=P) h9 hT2 hu
   have hq:=gJ q2
   cases hq
   have hn0:=aD ho (by simp)
   obtain ⟨o1,o2,o3,o4,rs',o5,o6⟩:=h9.objs nm _ hn0
   refine ⟨v,k7,v,loc' nm,rfl,⟨h9.os,h9.tape,h9.output,h9.size,fun b hb=>h9.frame b hb fun h=>h⟩,?_,⟨o3,o4,rs',o5,fun i hi=>Reads.flatJ hfl (o6 i hi)⟩,?_⟩
   ·intro b hb
    rcases h9.own b ⟨nm,_,hn0,hb⟩ with h | h
    ·exact h.elim
    ·exact h
   ·exact dQ q3 (aJ2 (fun s x hs=>aLx (E:=envOf (ctx0 w ok hok) H' loc' ver' w2) o1 hs) k8)
  cases en with
  | normal=>exact hend h1
  | ret=>exact hend h1
  | _=>exact h1.elim
theorem fU {Γ:List Con} (hΓ:∀c∈Γ,aG P c) {A:Anns} {f:FuncId} {fn:Func} (hf:P.funcs[f]? =some fn) {args:List SV} {n:Nat} {items:Nat→List SV} (hn:args.length+1≤fn.ntmps) (h:vW P Γ A fn args n items):TriI P f args n items:=by
 intro ok w vs l J soft sf hgw hok hr hsf hab hy hJ0
 unfold vW at h
 cases hc:fn.body with
 | none=>rw[hc] at h;exact h.elim
 | some c=>
  rw[hc] at h
  refine (callsIn_wide (n:=0)).1 (callsIn_of_wp_marks hf hc trivial ?_)
  obtain ⟨G,hG⟩:∃G:Ctx,G= ⟨w,ok,fun b=>b<w.heap.size∧¬ok b,fun b h1 h2=>h2.2 h1,hok,⟨true,l,w.heap.size,ok,n,items,J,hab,soft,sf,hsf⟩,Nat.le_refl _⟩:=⟨_,rfl⟩
  have hown:∀b,Owned [HO.yst (some 0) n items] (fun _=>(⟨⟨none,0,0⟩,fun b=>b<w.heap.size∧¬ok b,sub0⟩:Loc)) b→b<w.heap.size∧¬ok b:=by
   rintro b ⟨nm,o,h1,h2⟩
   cases nm with
   | zero=>simp at h1;subst h1;exact h2
   | succ k=>simp at h1
  have hokn:∀b,ok b→okN G [HO.yst (some 0) n items] (fun _=>(⟨⟨none,0,0⟩,fun b=>b<w.heap.size∧¬ok b,sub0⟩:Loc)) w b:=fun b hb=>⟨.inl (by rw[hG];exact hb),hok b hb,fun ho=>(hown b ho).2 hb⟩
  have hI:Inv G [HO.yst (some 0) n items] (fun _=>(⟨⟨none,0,0⟩,fun b=>b<w.heap.size∧¬ok b,sub0⟩:Loc)) (fun _=>1) w:=by
   refine ⟨by rw[hG];exact Nat.le_refl _,by rw[hG],by rw[hG],by rw[hG],fun b _ _=>by rw[hG],fun nm o ho=>?_,fun b hb=>.inl (by rw[hG];exact hown b hb),fun nm nm' o o' b h1 h2 _ _=>?_⟩
   ·cases nm with
    | zero=>
     simp at ho;subst ho
     refine ⟨Nat.one_pos,fun b hb=>hb.1,by rw[hG];exact Nat.le_refl _,by rw[hG];rfl,by rw[hG];rfl,fun b hb hl=>?_,?_⟩
     ·have hb':b<w.heap.size:=by rw[hG] at hb;exact hb
      have hob:ok b:=Classical.byContradiction fun hno=>hl ⟨hb',hno⟩
      exact ⟨by rw[hG];exact hob,hokn b hob⟩
     ·rw[hG]
      refine cast (congrArg (fun M=>J (some 0) M w) (funext fun b=>propext ⟨fun h=>h.elim,?_⟩)) hJ0
      rintro ⟨h8,h9,_⟩
      have h8':w.heap.size≤b:=h8
      have h9':b<w.heap.size:=h9
      omega
    | succ k=>simp at ho
   ·cases nm with
    | zero=>cases nm' with
     | zero=>rfl
     | succ k=>simp at h2
    | succ k=>simp at h1
  have hr':RelL (envOf G [HO.yst (some 0) n items] (fun _=>(⟨⟨none,0,0⟩,fun b=>b<w.heap.size∧¬ok b,sub0⟩:Loc)) (fun _=>1) w) args vs:=
   by
    cases soft with
    | false=>
     exact RelL.move (E:=env0 w ok) (E':=envOf G [HO.yst (some 0) n items] (fun _=>(⟨⟨none,0,0⟩,fun b=>b<w.heap.size∧¬ok b,sub0⟩:Loc)) (fun _=>1) w) (p:=fun m=>Nat.blt m 0) (fun nm hp _=>by simp at hp) (fun nm hp=>by simp at hp) (fun h=>by cases h) (fun _ _ _ h _=>h) hokn hr hr.under
    | true=>
     obtain ⟨rfl,c,o,hc1,hc2,rfl⟩:=hr
     refine .cons _ _ _ _ (.lelem _ 0 c o [sf.head] (.cons _ _ _ _ (.sft none _ (by rw[hG];rfl) (by rw[hG];exact ⟨rfl,rfl⟩)) .nil) (hokn c hc1) ?_) .nil
     intro j u hj
     cases j with
     | zero=>simp at hj;subst hj;exact hc2
     | succ j=>simp at hj
  have hyl:Rel (envOf G [HO.yst (some 0) n items] (fun _=>(⟨⟨none,0,0⟩,fun b=>b<w.heap.size∧¬ok b,sub0⟩:Loc)) (fun _=>1) w) (.yld 0) (.func (.yield l) #[] #[]):=by
   have:=Rel.yld (E:=envOf G [HO.yst (some 0) n items] (fun _=>(⟨⟨none,0,0⟩,fun b=>b<w.heap.size∧¬ok b,sub0⟩:Loc)) (fun _=>1) w) 0 (by rw[hG];rfl)
   rw[hG] at this ⊢
   exact this
  have hT:=kM (N:=fn.ntmps) (RelL.cons _ _ _ _ hyl hr') (by simpa using hn)
  have hY:COK P G:=by rw[hG];exact ⟨hy,hgw⟩
  have hRo:RoundOK Fence.wide (envOf G [HO.yst (some 0) n items] (fun _=>(⟨⟨none,0,0⟩,fun b=>b<w.heap.size∧¬ok b,sub0⟩:Loc)) (fun _=>1) w):=fun l hl=>by cases hl
  refine wpIn_mono (jI hY hΓ c 0 (F:=Fence.wide) (n:=0) ⟨none,rfl⟩ hI hT hRo h) ?_
  rintro e a' w' ⟨l',H',loc',ver',h1,h2,h3,h4,h5,Ds,h6,h7,h8⟩
  have h0s:G.w0.heap.size=w.heap.size:=by rw[hG]
  have h0n:G.itr.n0=w.heap.size:=by rw[hG]
  have hend:finI.endI fn.results.toList l' H'→LeavesInM Fence.wide 0 P fn a'.tmps (fun e w'=>(∃v,e= .returned v)∧∃M,J (some n) M w'∨J none M w') a'.defers .returning w':=by
   intro he
   rw[h6,List.append_nil]
   refine iE Ds h2 h7 (fun D hD=>⟨by rw[h0s];exact (h8 D hD).1,by rw[h0n];exact (h8 D hD).1,(h8 D hD).2.1,(h8 D hD).2.2⟩) fun w2 h9 h10=>?_
   unfold finI.endI at he
   have hres:∀k,fn.results.toList= []→k→∃v,(results fn a'.tmps).run P w2= .ok v w2∧k:=by
    intro k hrs hk
    obtain ⟨v,h11,_⟩:=dR (P:=P) (fn:=fn) (vs:=[]) h9 (⟨h3.size,fun t=>h10 _ _ (h3.rel t)⟩:TRel (envOf G H' loc' ver' w2) fn.ntmps l' a') (by rw[hrs];rfl)
    exact ⟨v,h11,hk⟩
   split at he
   ·rename_i k n' it hrs ho
    obtain ⟨v,h11,_⟩:=hres True hrs trivial
    obtain ⟨_,_,_,hn',_,_,hJ⟩:=h9.objs 0 _ (aD ho (by simp))
    refine ⟨v,h11,⟨v,rfl⟩,fun b=>w.heap.size≤b∧b<w2.heap.size∧¬(loc' 0).al b,.inl ?_⟩
    have e1:n'=n:=by rw[hG] at hn';exact hn'
    rw[hG] at hJ
    have e2:k=n:=he.trans e1
    rw[e2] at hJ
    exact hJ
   ·rename_i n' it hrs ho
    obtain ⟨v,h11,_⟩:=hres True hrs trivial
    obtain ⟨_,_,_,hn',_,_,hJ⟩:=h9.objs 0 _ (aD ho (by simp))
    refine ⟨v,h11,⟨v,rfl⟩,fun b=>w.heap.size≤b∧b<w2.heap.size∧¬(loc' 0).al b,.inr ?_⟩
    rw[hG] at hJ
    exact hJ
   ·exact he.elim
  cases e with
  | normal=>exact hend h1
  | ret=>exact hend h1
  | _=>exact h1.elim
end
end Go.Eng
end
section
namespace Go.Eng
theorem aIm {k:IntKind} {n:Int} (h:(Lit.int k n).wf=true):inK k n:=by
 cases k<;>simp[Lit.wf,IntKind.min,IntKind.max,IntKind.bits,IntKind.signed] at h<;>simp only[inK,lo,hi]<;>omega
theorem aOb {E:Env} {k:IntKind} {n:Int} (h:(Lit.int k n).wf=true):Rel E (.val (.int k n)) (.int k n):=.val _ (aIm h)
theorem aLz {E:Env} (b:Bool):Rel E (.val (.bool b)) (.bool b):=.val _ trivial
theorem nI {H:Type} {P:Program} {e:TypeId}:∀ {l:List (DataW H)} {d:DataW H},d∈l→∀n∈d.weights P e,n∈DataW.weightsAll P e l
 | [],_,h,_,_=>by cases h
 | x::l,d,h,n,hn=>by
  simp only[DataW.weightsAll,List.mem_append]
  rcases List.mem_cons.1 h with rfl | h
  ·exact .inl hn
  ·exact .inr (nI h n hn)
def okTy (P:Program):Nat→TypeId→Bool
 | 0,_=>false
 | n+1,t=>match P.underlying t with
  | some (.int _)=>true
  | some .bool=>true
  | some .string=>true
  | some (.slice e)=>(match tyOf P n e with
   | some ty=>Nat.beq (P.cellsOf e) ty.size&&(Nat.blt 0 ty.size&&(Nat.blt 0 (P.bytesOf e)&&okTy P n e))
   | none=>false)
  | some (.struct fs)=>okF P n fs.toList 0&&(match tyOf.flds P n fs.toList with
   | some ty=>Nat.beq (P.cellsOf t) ty.size
   | none=>false)
  | _=>false
where okF (P:Program):Nat→List Field→Nat→Bool
 | 0,_,_=>false
 | _+1,[],_=>false
 | n+1,f::r,o=>Nat.beq f.offset o&&((match tyOf P n f.type with
   | some ty=>Nat.beq (P.cellsOf f.type) ty.size
   | none=>false)&&(okTy P n f.type&&(match r with
    | []=>true
    | g::r=>okF P n (g::r) (o+P.cellsOf f.type))))
theorem aEs (b o k:Nat):(⟨b,o,none⟩:Addr).add k= ⟨b,o+k,none⟩:=by unfold Addr.add;split<;>simp_all
section
variable {H:Type} {enc:TypeId × Value→H} {P:Program} {w:World} {base:Nat} {spare:Nat→Bool} {held:Bool}
def RD (H:Type) (enc:TypeId × Value→H) (P:Program) (w:World) (base:Nat) (spare:Nat→Bool) (held:Bool) (n:Nat):Prop:=∀(t:TypeId) (ty:Ty),tyOf P n t=some ty→okTy P n t=true→∀(fuel:Nat) (cs:List Value) (x:DataW H × List MemPlace),
 DataW.trod enc P w base spare held fuel t cs=some x→(∀m∈x.1.weights P t,m≤reachBytes)→∃v:ty.T,Reads w (fun b=>b<w.heap.size) ty v cs
theorem tZ (n:Nat) (ih:∀k,k<n→RD H enc P w base spare held k):∀(k:Nat),k≤n→∀(l:List Field) (o:Nat) (ty:Ty),tyOf.flds P k l=some ty→okTy.okF P k l o=true→∀(fuel:Nat) (cs:List Value) (ys:List (DataW H × List MemPlace)),
  (∀(i:Nat) (f:Field),l[i]? =some f→∃y,ys[i]? =some y∧DataW.trod enc P w base spare held fuel f.type ((cs.drop f.offset).take (P.cellsOf f.type))=some y∧∀m∈y.1.weights P f.type,m≤reachBytes)→
  ∃v:ty.T,Reads w (fun b=>b<w.heap.size) ty v ((cs.drop o).take ty.size)
 | 0,_,l,o,ty,h1,_,_,_,_,_=>by cases l<;>simp[tyOf.flds] at h1
 | k+1,hk,[],o,ty,h1,_,_,_,_,_=>by simp[tyOf.flds] at h1
 | k+1,hk,[f],o,ty,h1,h2,fuel,cs,ys,h3=>by
  simp only[tyOf.flds] at h1
  simp only[okTy.okF,h1,Bool.and_eq_true,aI] at h2
  obtain ⟨rfl,e2,e3,_⟩:=h2
  obtain ⟨y,_,h4,h5⟩:=h3 0 f rfl
  rw[← e2]
  exact ih k (by omega) _ _ h1 e3 fuel _ y h4 h5
 | k+1,hk,f::g::r,o,ty,h1,h2,fuel,cs,ys,h3=>by
  simp only[tyOf.flds] at h1
  split at h1
  ·rename_i a b ha hb
   cases h1
   simp only[okTy.okF,ha,Bool.and_eq_true,aI] at h2
   obtain ⟨rfl,e2,e3,e4⟩:=h2
   obtain ⟨y,_,h4,h5⟩:=h3 0 f rfl
   obtain ⟨v1,hv1⟩:=ih k (by omega) _ _ ha e3 fuel _ y h4 h5
   obtain ⟨v2,hv2⟩:=tZ n ih k (by omega) (g::r) (f.offset+P.cellsOf f.type) b hb e4 fuel cs ys.tail (fun i f' hf=>by
    obtain ⟨y,q1,q2⟩:=h3 (i+1) f' (by simpa using hf)
    exact ⟨y,by rw[List.getElem?_tail];exact q1,q2⟩)
   rw[e2] at hv1 hv2
   refine ⟨(v1,v2),(cs.drop f.offset).take a.size,(cs.drop (f.offset+a.size)).take b.size,?_,hv1,hv2⟩
   simp only[Ty.size]
   rw[List.take_add,List.drop_drop]
  ·cases h1
theorem xD:∀n,RD H enc P w base spare held n
 | 0=>fun t ty h=>by simp[tyOf] at h
 | n+1=>by
  have ih:∀k,k<n+1→RD H enc P w base spare held k:=fun k hk=>xD k
  intro t ty h1 h2 fuel cs x h3 h4
  simp only[tyOf] at h1
  simp only[okTy] at h2
  split at h1
  ·rename_i k hu
   cases h1
   obtain ⟨m,rfl,_,hw⟩:=DataW.trod_int hu h3
   exact ⟨m,rfl,aIm hw⟩
  ·rename_i hu
   cases h1
   obtain ⟨b,rfl,_⟩:=DataW.trod_bool hu h3
   exact ⟨b,rfl⟩
  ·rename_i hu
   cases h1
   obtain ⟨s,rfl,rfl,_⟩:=DataW.trod_string hu h3
   refine ⟨s.data.toList,by simp,?_⟩
   have:=h4 s.data.toList.length (by simp[DataW.weights])
   exact Nat.le_trans this (by decide)
  ·rename_i e hu
   rw[hu] at h2
   simp only at h2
   cases hE:tyOf P n e with
   | none=>rw[hE] at h1;simp at h1
   | some te=>
   rw[hE] at h1 h2
   simp only[Option.map_some,Option.some.injEq] at h1
   subst h1
   simp only[Bool.and_eq_true,aI] at h2
   obtain ⟨e1,e2,e3,e4⟩:=h2
   have e2:0<te.size:=by simpa using e2
   have e3:0<P.bytesOf e:=by simpa using e3
   rcases DataW.trod_slice hu h3 with ⟨rfl,_⟩ | ⟨a,len,cap,elems,rest,m,rfl,rfl,rfl,hb,hl,hm,hlen,hel,hsp,hns⟩
   ·exact ⟨([]:List te.T),oA _ _ _⟩
   ·have hbig:=h4 ((elems.length+rest.length)*P.bytesOf e) (by simp[DataW.weights,hu])
    have hlen':len≤maxL:=by
     have h5:elems.length+rest.length≤(elems.length+rest.length)*P.bytesOf e:=Nat.le_mul_of_pos_right _ e3
     have h6:reachBytes≤maxL:=by decide
     omega
    have each:∀i:Nat,∃v:te.T,i<len→∃es,w.cells? base (a.add (i*P.cellsOf e)) (P.cellsOf e)=some es∧Reads w (fun b=>b<w.heap.size) te v es:=by
     intro i
     by_cases hi:i<len
     ·have h5:=hel i hi
      obtain ⟨y,hy⟩:∃y,elems[i]? =some y:=⟨elems[i]'(by omega),by simp[hlen,hi]⟩
      rw[hy] at h5
      cases hc:w.cells? base (a.add (i*P.cellsOf e)) (P.cellsOf e) with
      | none=>rw[hc] at h5;simp at h5
      | some es=>
       rw[hc] at h5
       simp only[Option.bind_some] at h5
       obtain ⟨v,hv⟩:=ih n (Nat.lt_succ_self n) e te hE e4 m es y h5 (fun q hq=>h4 q (by
        simp only[DataW.weights,hu,List.mem_cons,List.mem_append]
        exact .inr (.inl (nI (List.mem_map.2 ⟨y,List.mem_of_getElem? hy,rfl⟩) q hq))))
       exact ⟨v,fun _=>⟨es,rfl,hv⟩⟩
     ·exact ⟨te.dflt,fun h=>absurd h hi⟩
    refine ⟨(List.range len).map fun i=>(each i).choose,some a,len,cap,rfl,by simp,hl,hlen',fun h0=>?_⟩
    obtain ⟨es0,hc0,hr0⟩:=(each 0).choose_spec h0
    have hlt:a.block<w.heap.size:=by
     have:=World.cells?_block hc0 (by omega)
     simpa [Addr.add] using this
    have hspot:a.spot=none:=by
     obtain ⟨_,_,hg⟩:=World.cells?_some hc0
     have h6:=hg 0 (by omega)
     obtain ⟨v0,hv0⟩:∃v0,es0[0]? =some v0:=by
      cases es0 with
      | nil=>have:=hr0.length;simp at this;omega
      | cons v _=>exact ⟨v,rfl⟩
     rw[hv0] at h6
     have:=World.cell?_spot h6
     simpa [Addr.add] using this
    obtain ⟨b,off,spot⟩:=a
    simp only at hspot hlt
    subst hspot
    refine ⟨b,off,rfl,hlt,fun i hi=>?_⟩
    obtain ⟨es,hc,hr⟩:=(each i).choose_spec hi
    obtain ⟨_,hlen2,hg⟩:=World.cells?_some hc
    refine ⟨es,by rw[hr.length],fun j v hj=>?_,?_⟩
    ·have hj':j<es.length:=(List.getElem?_eq_some_iff.1 hj).1
     have h6:=hg j (by omega)
     rw[hj] at h6
     rw[aEs,aEs] at h6
     rw[← e1]
     exact h6
    ·have:List.getD (α:=te.T) ((List.range len).map fun i=>(each i).choose) i te.dflt=(each i).choose:=by
      simp[List.getD_eq_getElem?_getD,hi]
     rw[this];exact hr
  ·rename_i fs hu
   rw[hu] at h2
   simp only[Bool.and_eq_true] at h2
   obtain ⟨e1,e2⟩:=h2
   rw[h1] at e2
   have e2:=aI.1 e2
   obtain ⟨xs,m,rfl,rfl,hlen,hxl,hall⟩:=DataW.trod_struct hu h3
   obtain ⟨v,hv⟩:=tZ n (fun k hk=>ih k (by omega)) n (Nat.le_refl _) fs.toList 0 ty h1 e1 m cs xs (fun i f hf=>by
    have hf':fs[i]? =some f:=by simpa using hf
    have h5:=hall i f hf'
    have hi:i<xs.length:=by rw[hxl];exact (Array.getElem?_eq_some_iff.1 hf').1
    refine ⟨xs[i],by simp[hi],by rw[h5];simp[hi],fun q hq=>h4 q ?_⟩
    simp only[DataW.weights,hu]
    exact DataW.weights_mem_each (j:=i) (t:=f.type) (d:=xs[i].1) (by simp[hf']) (by simp[hi]) q hq)
   refine ⟨v,?_⟩
   rw[List.drop_zero,List.take_of_length_le (by omega)] at hv
   exact hv
  ·cases h1
end
def Okd:(t:Ty)→t.T→Prop
 | .int k,n=>inK k n
 | .bool,_=>True
 | .str,s=>List.length (α:=UInt8) s≤maxL
 | .pair a b,x=>Okd a x.1∧Okd b x.2
 | .slice t,xs=>List.length (α:=t.T) xs≤maxL∧∀i,i<List.length (α:=t.T) xs→Okd t (List.getD (α:=t.T) xs i t.dflt)
theorem Reads.okd {w:World} {ok:Nat→Prop} {t:Ty} {x:t.T} {cs:List Value} (h:Reads w ok t x cs):Okd t x:=by
 induction t generalizing cs with
 | int k=>exact h.2
 | bool=>trivial
 | str=>exact h.2
 | pair a b iha ihb=>obtain ⟨c1,c2,rfl,h1,h2⟩:=h;exact ⟨iha h1,ihb h2⟩
 | slice t ih=>
  obtain ⟨a,n,c,rfl,hn,_,hm,hall⟩:=h
  have hn':n=List.length (α:=t.T) x:=hn
  refine ⟨by omega,fun i hi=>?_⟩
  obtain ⟨b,off,_,_,hel⟩:=hall (by omega)
  obtain ⟨es,_,_,hr⟩:=hel i (by omega)
  exact ih hr
section
variable {H:Type} {enc:TypeId × Value→H} {P:Program} {w:World} {base b0:Nat} {spare:Nat→Bool} {held:Bool} {r:Reach} {t:TypeId} {v:Value} {d:DataW H} {ps:List MemPlace}
theorem arg_int {k:IntKind} (ht:P.underlying t=some (.int k)) (hval:Value.okWide P w r b0 t v) (hd:DataW.Trod enc P w base spare held t v d ps):∃n:Int,inK k n∧Rel (env0 w fun b=>b<w.heap.size) (.val (.int k n)) v:=by
 obtain ⟨n,rfl,_,_,hw⟩:=ChangeShapes.open_int ht hval hd
 exact ⟨n,aIm hw,aOb hw⟩
theorem arg_bool (ht:P.underlying t=some .bool) (hval:Value.okWide P w r b0 t v) (hd:DataW.Trod enc P w base spare held t v d ps):∃b:Bool,Rel (env0 w fun b=>b<w.heap.size) (.val (.bool b)) v:=by
 obtain ⟨b,rfl,_⟩:=RowKit.open_bool ht hval hd
 exact ⟨b,aLz b⟩
theorem arg_str (ht:P.underlying t=some .string) (hval:Value.okWide P w r b0 t v) (hd:DataW.Trod enc P w base spare held t v d ps) (hw:∀m∈d.weights P t,m≤reachBytes):∃s:List UInt8,s.length≤maxL∧Rel (env0 w fun b=>b<w.heap.size) (.str s) v:=by
 obtain ⟨s,rfl,rfl,_,hs⟩:=ChangeMaps.open_string ht hval hd
 have h1:s.data.toList.length≤maxL:=Nat.le_trans (hw s.data.toList.length (by simp[DataW.weights])) (by decide)
 refine ⟨s.data.toList,h1,?_⟩
 have:=Rel.str (E:=env0 w fun b=>b<w.heap.size) s.data.toList h1
 simpa using this
theorem arg_slice {e:TypeId} {n:Nat} {ty:Ty} (ht:P.underlying t=some (.slice e)) (hval:Value.okWide P w r b0 t v) (hd:DataW.Trod enc P w base spare held t v d ps) (h1:tyOf P n t=some (.slice ty)) (h2:okTy P n t=true)
  (hw:∀m∈d.weights P t,m≤reachBytes):∃xs:List ty.T,Okd (.slice ty) xs∧Rel (env0 w fun b=>b<w.heap.size) (.seq ty xs) v:=by
 obtain ⟨a,len,cap,rfl⟩:=WideShapes.okWide_slice ht hval
 obtain ⟨fuel,hf⟩:=hd
 obtain ⟨xs,hx⟩:=xD n t _ h1 h2 fuel _ _ hf hw
 refine ⟨xs,hx.okd,.seq _ _ _ ?_⟩
 have e:(Value.slice a len cap).cells.toList= [.slice a len cap]:=by simp[Value.cells]
 rw[e] at hx
 exact hx
theorem weight_of {ts:List TypeId} {ds:List (DataW H)} (h:(DataW.weightsEach P ts ds).all (· ≤reachBytes)=true) (j:Nat) (ht:ts[j]? =some t) (hd:ds[j]? =some d):∀m∈d.weights P t,m≤reachBytes:=
 fun m hm=>by simpa using List.all_eq_true.1 h m (DataW.weights_mem_each ht hd m hm)
end
open Go.RowKit in
theorem law_calls {P:Program} {fresh:Bool} {f:FuncId} {args:List SV} (h:Tri P fresh f args (.val (.bool true))) (w:World) (vs:List Value) (hgw:GW P (fun b=>b<w.heap.size) w) (hr:RelL (env0 w fun b=>b<w.heap.size) args vs):
  Calls P f ⟨vs⟩ w fun e w'=>e= .returned (.bool true)∧Below w.heap.size w w':=by
 refine (h (fun b=>b<w.heap.size) w vs hgw (fun _ h=>h) hr).mono ?_
 rintro e w' ⟨v,rfl,hb,hv⟩
 cases hv
 exact ⟨rfl,hb⟩
end Go.Eng
end
section
namespace Go.Eng
open Go.RowKit
section
variable {P:Program}
end
end Go.Eng
end
section
namespace Go.Eng
section
variable {H:Type} {enc:TypeId × Value→H} {P:Program} {w:World} {base b0:Nat} {spare:Nat→Bool} {held:Bool} {r:Reach} {t:TypeId} {v:Value} {d:DataW H} {ps:List MemPlace}
theorem arg_struct {fs:Array Field} {n:Nat} {ty:Ty} (ht:P.underlying t=some (.struct fs)) (hval:Value.okWide P w r b0 t v) (hd:DataW.Trod enc P w base spare held t v d ps) (h1:tyOf P n t=some ty) (h2:okTy P n t=true)
  (hw:∀m∈d.weights P t,m≤reachBytes):∃x:ty.T,Okd ty x∧∃cs,v= .agg ⟨cs⟩∧Reads w (fun b=>b<w.heap.size) ty x cs:=by
 obtain ⟨cs,rfl,_⟩:=WideShapes.okWide_struct ht hval
 obtain ⟨fuel,hf⟩:=hd
 obtain ⟨x,hx⟩:=xD n t _ h1 h2 fuel _ _ hf hw
 refine ⟨x,hx.okd,cs.toList,rfl,?_⟩
 have e:(Value.agg cs).cells.toList=cs.toList:=by simp[Value.cells]
 rw[e] at hx
 exact hx
theorem agg_str2 {ok:Nat→Prop} {x:List UInt8 × List UInt8} {cs:List Value} (h:Reads w ok (.pair .str .str) x cs):Rel (env0 w ok) (.agg [.str x.1,.str x.2]) (.agg ⟨cs⟩):=by
 obtain ⟨c1,c2,rfl,⟨rfl,l1⟩,⟨rfl,l2⟩⟩:=h
 exact .agg _ _ (.cons _ _ _ _ (.str _ l1) (.cons _ _ _ _ (.str _ l2) .nil))
theorem agg_str3 {ok:Nat→Prop} {x:List UInt8 × List UInt8 × List UInt8} {cs:List Value} (h:Reads w ok (.pair .str (.pair .str .str)) x cs):Rel (env0 w ok) (.agg [.str x.1,.str x.2.1,.str x.2.2]) (.agg ⟨cs⟩):=by
 obtain ⟨c1,c2,rfl,⟨rfl,l1⟩,⟨c3,c4,rfl,⟨rfl,l2⟩,⟨rfl,l3⟩⟩⟩:=h
 exact .agg _ _ (.cons _ _ _ _ (.str _ l1) (.cons _ _ _ _ (.str _ l2) (.cons _ _ _ _ (.str _ l3) .nil)))
theorem arg_arr3 {k:IntKind} {e:TypeId} (ht:P.underlying t=some (.array 3 e)) (he:P.underlying e=some (.int k)) (hc:P.cellsOf e=1) (hct:P.cellsOf t=3) (hd:DataW.Trod enc P w base spare held t v d ps):
  ∃x y z:Int,(inK k x∧inK k y∧inK k z)∧Rel (env0 w fun b=>b<w.heap.size) (.agg [.val (.int k x),.val (.int k y),.val (.int k z)]) v:=by
 obtain ⟨fuel,hf⟩:=hd
 obtain ⟨xs,m,rfl,ex,hlen,hl,hel⟩:=DataW.trod_array ht hf
 rw[hct] at hlen
 obtain ⟨cs,rfl⟩:∃cs,v= .agg cs:=by cases v<;>first | exact ⟨_,rfl⟩ | (simp[Value.cells] at hlen)
 have e0:(Value.agg cs).cells.toList=cs.toList:=by simp[Value.cells]
 rw[e0] at hlen hel
 rw[hc] at hel
 have one:∀i,i<3→∃n,(cs.toList.drop (i*1)).take 1= [.int k n]∧inK k n:=fun i hi=>by
  have h:=hel i hi
  rw[List.getElem?_eq_getElem (by omega)] at h
  obtain ⟨n,h1,_,h2⟩:=DataW.trod_int he h
  exact ⟨n,h1,aIm h2⟩
 obtain ⟨x,hx,kx⟩:=one 0 (by decide)
 obtain ⟨y,hy,ky⟩:=one 1 (by decide)
 obtain ⟨z,hz,kz⟩:=one 2 (by decide)
 refine ⟨x,y,z,⟨kx,ky,kz⟩,?_⟩
 obtain ⟨l⟩:=cs
 simp only at hlen hx hy hz
 match l,hlen with
 | [a,b,c],_=>
  simp at hx hy hz
  subst hx hy hz
  exact .agg _ _ (.cons _ _ _ _ (.val _ kx) (.cons _ _ _ _ (.val _ ky) (.cons _ _ _ _ (.val _ kz) .nil)))
end
end Go.Eng
end
section
namespace Go.Eng
open Go.Shelf
theorem kO {P:Program} {c:Con} {fn:Func} (hf:P.funcs[c.f]? =some fn) (h:∀args K,c.cl args K→∃r,K r∧Tris P c.fresh c.f args r) (hn:(fn.name== "runtime.NumGoroutine")=false:=by kernel_rfl) (hb:fn.body.isSome=true:=by rfl) (hl:(c.lin,c.own,c.hp)=(none,none,none):=by rfl):aG P c:=by
 obtain ⟨b,hb⟩:=Option.isSome_iff_exists.1 hb
 exact qU hl (Go.Proofs.enters_of hf hn hb) h
theorem triB {P:Program} {Γ:List Con} {A:Anns} {fresh:Bool} {f:FuncId} {fn:Func} {args:List SV} {r:SV} {n:Nat} (hf:P.funcs[f]? =some fn) (hm:fn.ntmps=n) (hΓ:∀c∈Γ,aG P c) (h:body P Γ A fresh fn args r) (hn:Nat.ble args.length n=true:=by rfl) (hb:bare r=true:=by rfl):Tri P fresh f args r:=
 tY hΓ hf (by rw[hm];exact Nat.le_of_ble_eq_true hn) hb h
end Go.Eng
end
section
open Go Go.Proofs Go.Eng Go.Shelf
namespace NB
abbrev I (n:Int):SV:=.val (.int .i64 n)
abbrev Ls (xs:List Int):SV:=.seq (.int .i64) xs
theorem pL {α:Type} (p:α→Bool) (xs:List α) (d:α) (k:Nat) (h:k<xs.length):(xs.take (k+1)).any p=((xs.take k).any p || p (xs.getD k d)):=by
 rw[List.take_succ_eq_append_getElem h,List.any_append]
 simp[List.getD_eq_getElem?_getD,h]
theorem rP {α:Type} (p:α→Bool) (xs:List α) (d:α) (k:Nat) (h:k<xs.length) (hp:p (xs.getD k d)=true):xs.any p=true:=by
 rw[List.any_eq_true]
 exact ⟨xs[k],List.getElem_mem h,by simpa [List.getD_eq_getElem?_getD,h] using hp⟩
theorem xZ {α:Type} (xs:List α) (k:Nat) (h:¬k<xs.length):xs.take k=xs:=List.take_of_length_le (by omega)
def c38:Con:=aJ 178 true fun args K=>match args with
 | [.val (.int .i64 n)]=>K (.bl (1≤n∧n≤65536) inferInstance)
 | _=>False
theorem b38 (n:Int):body Tryz.prog [] {} true Tryz.f178 [I n] (.bl (1≤n∧n≤65536) inferInstance):=by
 (apply Br.mk<;>intro)
 ·(conv=>whnf);omega
 ·(conv=>whnf);omega
theorem k38:aG Tryz.prog c38:=by
 refine kO Tryz.func178 fun args K h=>?_
 simp only[c38] at h;split at h
 ·exact ⟨_,h,triB Tryz.func178 Tryz.ntmps178 (by simp) (b38 _)⟩
 ·exact h.elim
def c32:Con:=aJ 120 true fun args K=>match args with
 | [.val (.int .i64 n),.val (.int .i64 a),.val (.int .i64 b)]=>K (.bl (n<a∨b<n) inferInstance)
 | _=>False
theorem b32 (n a b:Int):body Tryz.prog [] {} true Tryz.f120 [I n,I a,I b] (.bl (n<a∨b<n) inferInstance):=by
 (apply Br.mk<;>intro)
 ·(conv=>whnf);omega
 ·(conv=>whnf);omega
theorem k32:aG Tryz.prog c32:=by
 refine kO Tryz.func120 fun args K h=>?_
 simp only[c32] at h;split at h
 ·exact ⟨_,h,triB Tryz.func120 Tryz.ntmps120 (by simp) (b32 _ _ _)⟩
 ·exact h.elim
def badP (x:Int):Bool:=decide (¬(1≤x∧x≤65536))
def piecesE (xs:List Int) (k:Int):Int:=if 64<xs.length then 4 else if xs.any badP then 2 else if k<0∨1000<k then 2 else 0
def aFm (t:Nat) (xs:List Int):Ann:={ X:=Nat,pre:=fun k=>k≤xs.length∧(xs.take k).any badP=false,mod:=fun k _=>[(t,I k)],mu:=fun k=>xs.length-k }
theorem uD {xs:List Int} {k:Int} (h:64<(xs.length:Int)):4=piecesE xs k:=by unfold piecesE;rw[if_pos (by omega)]
theorem uE {xs:List Int} {k:Int} {i:Nat} (h:¬64<(xs.length:Int)) (hi:(i:Int)<xs.length) (hb:¬(1≤xs.getD i 0∧xs.getD i 0≤65536)):2=piecesE xs k:=by
 unfold piecesE;rw[if_neg (by omega),if_pos (rP badP xs 0 i (by omega) (by simp only[badP];exact decide_eq_true hb))]
theorem mF {xs:List Int} {k:Int} {i:Nat} (h:¬64<(xs.length:Int)) (hi:¬(i:Int)<xs.length) (ha:(xs.take i).any badP=false) (hk:k<0∨1000<k):2=piecesE xs k:=by
 rw[xZ xs i (by omega)] at ha
 unfold piecesE;rw[if_neg (by omega),if_neg (by simp[ha]),if_pos hk]
theorem yA {xs:List Int} {k:Int} {i:Nat} (h:¬64<(xs.length:Int)) (hi:¬(i:Int)<xs.length) (ha:(xs.take i).any badP=false) (hk:¬(k<0∨1000<k)):0=piecesE xs k:=by
 rw[xZ xs i (by omega)] at ha
 unfold piecesE;rw[if_neg (by omega),if_neg (by simp[ha]),if_neg hk]
theorem uF {xs:List Int} {i:Nat} (hi:(i:Int)<xs.length) (ha:(xs.take i).any badP=false) (hb:1≤xs.getD i 0∧xs.getD i 0≤65536):(xs.take (i+1)).any badP=false:=by
 rw[pL badP xs 0 i (by omega),ha]
 exact decide_eq_false (fun h=>h hb)
theorem b37 (xs:List Int) (k:Int):body Tryz.prog [c38] { loops:=[(0,aFm 5 xs)] } true Tryz.f126 [Ls xs,I k] (I (piecesE xs k)):=by
 (repeat'((conv=>whnf);first|refine Zg fun _=>?_|fail))
 (apply Br.mk<;>intro)
 ·(conv=>whnf)
  exact ⟨rfl,uD ‹_›⟩
 (repeat'((conv=>whnf);first|refine Zn ?_|fail))
 refine ⟨⟨(0:Nat),⟨by omega,by simp⟩,by (repeat' first|exact trivial|rfl|apply And.intro)⟩,fun (i:Nat) hi=>?_⟩
 obtain ⟨hi1,hi2⟩:=hi
 (repeat'((conv=>whnf);first|refine Zg fun _=>?_|fail))
 (apply Br.mk<;>intro)
 ·(repeat'((conv=>whnf);first|refine Zg fun _=>?_|refine Zn ?_|refine Zj ?_|fail))
  (apply Br.mk<;>intro)
  ·(conv=>whnf)
   exact ⟨rfl,uE ‹_› ‹_› ‹_›⟩
  ·(repeat'((conv=>whnf);first|refine Zn ?_|fail))
   refine ⟨(i+1:Nat),?_,⟨?_,?_⟩,?_⟩
   ·show xs.length-(i+1)<xs.length-i
    omega
   ·omega
   ·exact uF ‹_› hi2 (Classical.not_not.1 ‹_›)
   ·(repeat' first|exact trivial|rfl|apply And.intro)
 ·skip
  (apply Br.mk<;>intro)
  ·(conv=>whnf)
   exact ⟨rfl,mF (i:=i) ‹_› ‹_› hi2 (.inl ‹_›)⟩
  ·skip
   (apply Br.mk<;>intro)
   ·(conv=>whnf)
    exact ⟨rfl,mF (i:=i) ‹_› ‹_› hi2 (.inr ‹_›)⟩
   ·(conv=>whnf)
    exact ⟨rfl,yA (i:=i) ‹_› ‹_› hi2 (by omega)⟩
def c37:Con:=aJ 126 true fun args K=>match args with
 | [.seq (.int .i64) xs,.val (.int .i64 k)]=>K (I (piecesE xs k))
 | _=>False
theorem k37:aG Tryz.prog c37:=by
 refine kO Tryz.func126 fun args K h=>?_
 simp only[c37] at h;split at h
 ·exact ⟨_,h,triB Tryz.func126 Tryz.ntmps126 (by simp[k38]) (b37 _ _)⟩
 ·exact h.elim
theorem b36 (xs:List Int) (k:Int):body Tryz.prog [c32] { loops:=[(0,aFm 12 xs)] } true Tryz.f112 [Ls xs,I k] (I (piecesE xs k)):=by
 (repeat'((conv=>whnf);first|refine Zg fun _=>?_|fail))
 (apply Br.mk<;>intro)
 ·(conv=>whnf)
  exact ⟨rfl,uD ‹_›⟩
 (repeat'((conv=>whnf);first|refine Zg fun _=>?_|refine Zn ?_|fail))
 refine ⟨⟨(0:Nat),⟨by omega,by simp⟩,by (repeat' first|exact trivial|rfl|apply And.intro)⟩,fun (i:Nat) hi=>?_⟩
 obtain ⟨hi1,hi2⟩:=hi
 (apply Br.mk<;>intro)
 ·(repeat'((conv=>whnf);first|refine Zg fun _=>?_|refine Zn ?_|refine Zj ?_|fail))
  (apply Br.mk<;>intro)
  ·(conv=>whnf)
   rename_i h1 h2 h3 h4 h5
   exact ⟨rfl,uE ‹_› ‹_› (by omega)⟩
  ·(repeat'((conv=>whnf);first|refine Zn ?_|fail))
   rename_i h5
   refine ⟨(i+1:Nat),?_,⟨?_,?_⟩,?_⟩
   ·show xs.length-(i+1)<xs.length-i
    omega
   ·omega
   ·exact uF ‹_› hi2 (by omega)
   ·(repeat' first|exact trivial|rfl|apply And.intro)
 ·skip
  (apply Br.mk<;>intro)
  ·(conv=>whnf)
   exact ⟨rfl,mF (i:=i) ‹_› ‹_› hi2 (by omega)⟩
  ·(conv=>whnf)
   exact ⟨rfl,yA (i:=i) ‹_› ‹_› hi2 (by omega)⟩
def c36:Con:=aJ 112 true fun args K=>match args with
 | [.seq (.int .i64) xs,.val (.int .i64 k)]=>K (I (piecesE xs k))
 | _=>False
theorem k36:aG Tryz.prog c36:=by
 refine kO Tryz.func112 fun args K h=>?_
 simp only[c36] at h;split at h
 ·exact ⟨_,h,triB Tryz.func112 Tryz.ntmps112 (by simp[k32]) (b36 _ _)⟩
 ·exact h.elim
def uG (L x:Int):Bool:=decide (L<x)
def checkE (xs:List Int) (L k:Int):Int:=if piecesE xs k≠0 then piecesE xs k else if L<1∨65536<L then 2 else if xs.any (uG L) then 22 else 0
def aHa (t:Nat) (xs:List Int) (L:Int):Ann:={ X:=Nat,pre:=fun k=>k≤xs.length∧(xs.take k).any (uG L)=false,mod:=fun k _=>[(t,I k)],mu:=fun k=>xs.length-k }
theorem kC {xs:List Int} {L k:Int} (h:¬piecesE xs k=0):piecesE xs k=checkE xs L k:=by unfold checkE;rw[if_pos h]
theorem yB {xs:List Int} {L k:Int} (h:piecesE xs k=0) (hL:L<1∨65536<L):2=checkE xs L k:=by unfold checkE;rw[if_neg (by simp[h]),if_pos hL]
theorem nQ {xs:List Int} {L k:Int} {i:Nat} (h:piecesE xs k=0) (hL:¬(L<1∨65536<L)) (hi:(i:Int)<xs.length) (hb:L<xs.getD i 0):22=checkE xs L k:=by
 unfold checkE;rw[if_neg (by simp[h]),if_neg hL,if_pos (rP (uG L) xs 0 i (by omega) (decide_eq_true hb))]
theorem aA7 {xs:List Int} {L k:Int} {i:Nat} (h:piecesE xs k=0) (hL:¬(L<1∨65536<L)) (hi:¬(i:Int)<xs.length) (ha:(xs.take i).any (uG L)=false):0=checkE xs L k:=by
 rw[xZ xs i (by omega)] at ha
 unfold checkE;rw[if_neg (by simp[h]),if_neg hL,if_neg (by simp[ha])]
theorem sU {xs:List Int} {L:Int} {i:Nat} (hi:(i:Int)<xs.length) (ha:(xs.take i).any (uG L)=false) (hb:¬L<xs.getD i 0):(xs.take (i+1)).any (uG L)=false:=by
 rw[pL (uG L) xs 0 i (by omega),ha]
 exact decide_eq_false hb
theorem b26 (xs:List Int) (L k:Int):body Tryz.prog [c37,c38] { loops:=[(0,aHa 8 xs L)] } true Tryz.f123 [Ls xs,I L,I k] (I (checkE xs L k)):=by
 (apply Br.mk<;>intro)
 ·(conv=>whnf)
  exact ⟨rfl,kC ‹_›⟩
 rename_i h1
 have h1:=Classical.not_not.1 h1
 (apply Br.mk<;>intro)
 ·(conv=>whnf)
  exact ⟨rfl,yB h1 (by omega)⟩
 rename_i h2
 have h2:¬(L<1∨65536<L):=by omega
 (repeat'((conv=>whnf);first|refine Zn ?_|fail))
 refine ⟨⟨(0:Nat),⟨by omega,by simp⟩,by (repeat' first|exact trivial|rfl|apply And.intro)⟩,fun (i:Nat) hi=>?_⟩
 obtain ⟨hi1,hi2⟩:=hi
 (repeat'((conv=>whnf);first|refine Zg fun _=>?_|fail))
 (apply Br.mk<;>intro)
 ·(repeat'((conv=>whnf);first|refine Zg fun _=>?_|refine Zn ?_|refine Zj ?_|fail))
  (apply Br.mk<;>intro)
  ·(conv=>whnf)
   exact ⟨rfl,nQ (i:=i) h1 h2 ‹_› ‹_›⟩
  ·(repeat'((conv=>whnf);first|refine Zn ?_|fail))
   refine ⟨(i+1:Nat),?_,⟨?_,?_⟩,?_⟩
   ·show xs.length-(i+1)<xs.length-i
    omega
   ·omega
   ·exact sU ‹_› hi2 ‹_›
   ·(repeat' first|exact trivial|rfl|apply And.intro)
 ·(conv=>whnf)
  exact ⟨rfl,aA7 (i:=i) h1 h2 ‹_› hi2⟩
theorem b24e (xs:List Int) (L k:Int) (he:checkE xs L k≠0):body Tryz.prog [c36,c32] { loops:=[(0,aHa 23 xs L)] } false Tryz.f119 [Ls xs,I L,I k] (.tup [.agg [.val (.slice none 0 0),I 0,I 0],I (checkE xs L k)]):=by
 (repeat'((conv=>whnf);first|refine Zl ?_|fail))
 (apply Br.mk<;>intro)
 ·(repeat'((conv=>whnf);first|refine Zl ?_|fail))
  (conv=>whnf)
  (repeat' first|exact trivial|rfl|apply And.intro)
  exact kC ‹_›
 rename_i h1
 have h1:=Classical.not_not.1 h1
 (apply Br.mk<;>intro)
 ·(repeat'((conv=>whnf);first|refine Zl ?_|fail))
  (conv=>whnf)
  (repeat' first|exact trivial|rfl|apply And.intro)
  exact yB h1 (by omega)
 rename_i h2
 (repeat'((conv=>whnf);first|refine Zg fun _=>?_|refine Zn ?_|fail))
 refine ⟨⟨(0:Nat),⟨by omega,by simp⟩,by (repeat' first|exact trivial|rfl|apply And.intro)⟩,fun (i:Nat) hi=>?_⟩
 obtain ⟨hi1,hi2⟩:=hi
 (apply Br.mk<;>intro)
 ·(repeat'((conv=>whnf);first|refine Zg fun _=>?_|refine Zn ?_|refine Zj ?_|fail))
  (apply Br.mk<;>intro)
  ·(repeat'((conv=>whnf);first|refine Zl ?_|fail))
   (conv=>whnf)
   (repeat' first|exact trivial|rfl|apply And.intro)
   exact nQ (i:=i) h1 h2 ‹_› ‹_›
  ·(repeat'((conv=>whnf);first|refine Zn ?_|fail))
   refine ⟨(i+1:Nat),?_,⟨?_,?_⟩,?_⟩
   ·show xs.length-(i+1)<xs.length-i
    omega
   ·omega
   ·exact sU ‹_› hi2 ‹_›
   ·(repeat' first|exact trivial|rfl|apply And.intro)
 ·exact (he (aA7 (i:=i) h1 h2 ‹_› hi2).symm).elim
theorem uH {xs:List Int} {L k:Int} (h:checkE xs L k=0):xs.length≤64∧(∀i,i<xs.length→1≤xs.getD i 0∧xs.getD i 0≤L)∧0≤k∧k≤1000∧1≤L∧L≤65536:=by
 unfold checkE at h
 split at h
 ·contradiction
 rename_i h1
 split at h
 ·cases h
 rename_i h2
 split at h
 ·cases h
 rename_i h3
 unfold piecesE at h1
 split at h1
 ·exact (h1 (by decide)).elim
 split at h1
 ·exact (h1 (by decide)).elim
 split at h1
 ·exact (h1 (by decide)).elim
 rename_i h4 h5 h6
 refine ⟨by omega,fun i hi=>⟨?_,?_⟩,by omega,by omega,by omega,by omega⟩
 ·apply Classical.byContradiction
  intro hb
  exact h5 (rP badP xs 0 i hi (decide_eq_true (fun h=>hb h.1)))
 ·apply Classical.byContradiction
  intro hb
  exact h3 (rP (uG L) xs 0 i hi (decide_eq_true (by omega)))
theorem b24o (xs:List Int) (L k:Int) (he:checkE xs L k=0):body Tryz.prog [c36,c32] { loops:=[(0,aHa 23 xs L)] } false Tryz.f119 [Ls xs,I L,I k] (.tup [.agg [Ls xs,I k,I (L+k)],I 0]):=by
 have hz:=uH he
 obtain ⟨z1,_,z2,z3,z4,z5⟩:=hz
 (repeat'((conv=>whnf);first|refine Zl ?_|fail))
 (apply Br.mk<;>intro)
 ·rename_i h
  rw[kC (L:=L) h] at h
  exact (h he).elim
 rename_i h1
 have h1:=Classical.not_not.1 h1
 (apply Br.mk<;>intro)
 ·omega
 rename_i h2
 (repeat'((conv=>whnf);first|refine Zg fun _=>?_|refine Zn ?_|fail))
 refine ⟨⟨(0:Nat),⟨by omega,by simp⟩,by (repeat' first|exact trivial|rfl|apply And.intro)⟩,fun (i:Nat) hi=>?_⟩
 obtain ⟨hi1,hi2⟩:=hi
 (apply Br.mk<;>intro)
 ·(repeat'((conv=>whnf);first|refine Zg fun _=>?_|refine Zn ?_|refine Zj ?_|fail))
  (apply Br.mk<;>intro)
  ·rename_i h5 h6 h7 h8
   have:=nQ (L:=L) (k:=k) (i:=i) h1 h2 ‹_› ‹_›
   omega
  ·(repeat'((conv=>whnf);first|refine Zn ?_|fail))
   refine ⟨(i+1:Nat),?_,⟨?_,?_⟩,?_⟩
   ·show xs.length-(i+1)<xs.length-i
    omega
   ·omega
   ·exact sU ‹_› hi2 ‹_›
   ·(repeat' first|exact trivial|rfl|apply And.intro)
 ·(repeat'((conv=>whnf);first|refine Zn ?_|fail))
  (conv=>whnf)
  (repeat' first|exact trivial|rfl|apply And.intro)
def c26:Con:=aJ 123 true fun args K=>match args with
 | [.seq (.int .i64) xs,.val (.int .i64 L),.val (.int .i64 k)]=>K (I (checkE xs L k))
 | _=>False
theorem k26:aG Tryz.prog c26:=by
 refine kO Tryz.func123 fun args K h=>?_
 simp only[c26] at h;split at h
 ·exact ⟨_,h,triB Tryz.func123 Tryz.ntmps123 (by simp[k37,k38]) (b26 _ _ _)⟩
 ·exact h.elim
def c24:Con:=aJ 119 false fun args K=>match args with
 | [.seq (.int .i64) xs,.val (.int .i64 L),.val (.int .i64 k)]=>Br (checkE xs L k=0) (K (.tup [.agg [Ls xs,I k,I (L+k)],I 0])) (K (.tup [.agg [.val (.slice none 0 0),I 0,I 0],I (checkE xs L k)]))
 | _=>False
theorem k24:aG Tryz.prog c24:=by
 refine kO Tryz.func119 fun args K h=>?_
 simp only[c24] at h;split at h
 ·rename_i xs L k
  by_cases he:checkE xs L k=0
  ·exact ⟨_,h.yes he,triB Tryz.func119 Tryz.ntmps119 (by simp[k36,k32]) (b24o _ _ _ he)⟩
  ·exact ⟨_,h.no he,triB Tryz.func119 Tryz.ntmps119 (by simp[k36,k32]) (b24e _ _ _ he)⟩
 ·exact h.elim
abbrev Nst (xs:List Int) (k C:Int):SV:=.agg [Ls xs,I k,I C]
abbrev Box (xs:List Int) (k C:Int):SV:=.lelem [Ls xs,I k,I C] 0
theorem b33 (xs:List Int) (k C:Int):body Tryz.prog [] {} false Tryz.f121 [Nst xs k C] (.clo 177 [] [Box xs k C]):=by
 (conv=>whnf)
 (repeat' first|exact trivial|rfl|apply And.intro)
abbrev anIt (xs:List Int) (k:Int):Ann:={ X:=Nat,pre:=fun i=>i≤xs.length,mod:=fun i _=>[(8,I i)],heap:=fun i _=>[.yst (some i) xs.length (fun i=>[I i,I (xs.getD i 0+k)])],mu:=fun i=>xs.length-i }
theorem b41 (xs:List Int) (k C:Int) (hk:0≤k∧k≤1000) (hx:∀i,i<xs.length→1≤xs.getD i 0∧xs.getD i 0≤65536):vW Tryz.prog [] { loops:=[(0,anIt xs k)] } Tryz.f177 [Box xs k C] xs.length (fun i=>[I i,I (xs.getD i 0+k)]):=by
 (repeat'((conv=>whnf);first|refine Zg fun _=>?_|refine Zn ?_|fail))
 refine ⟨⟨(0:Nat),Nat.zero_le _,by (repeat' first|exact trivial|rfl|apply And.intro)⟩,fun (i:Nat) (hi:i≤xs.length)=>?_⟩
 (apply Br.mk<;>intro)
 ·(repeat'((conv=>whnf);first|refine Zg fun _=>?_|refine Zn ?_|refine Zj ?_|fail))
  refine Need.mk (by have:=hx i (by omega);omega) ?_
  (repeat'((conv=>whnf);first|refine Zn ?_|fail))
  refine Need.mk (by (repeat' first|exact trivial|rfl|apply And.intro)) ?_
  refine Two.mk ?_ ?_
  ·(repeat'((conv=>whnf);first|refine Zn ?_|fail))
   refine ⟨(i+1:Nat),?_,?_,?_⟩
   ·show xs.length-(i+1)<xs.length-i
    omega
   ·show i+1≤xs.length
    omega
   ·(repeat' first|exact trivial|rfl|apply And.intro)
  ·(conv=>whnf)
   trivial
 ·(conv=>whnf)
  omega
structure Okx (xs:List Int) (k C:Int):Prop where
 len:xs.length≤64
 el:∀i,i<xs.length→1≤xs.getD i 0∧xs.getD i 0≤65536∧xs.getD i 0+k≤C
 k0:0≤k
 k1:k≤1000
 c0:1≤C
 c1:C≤66536
theorem okx_of {xs:List Int} {L k:Int} (h:checkE xs L k=0):Okx xs k (L+k):=by
 obtain ⟨h1,h2,h3,h4,h5,h6⟩:=uH h
 exact ⟨h1,fun i hi=>by have:=h2 i hi;omega,h3,h4,by omega,by omega⟩
def c41:Con:=aJ 177 false fun args K=>match args with
 | [.lelem [.seq (.int .i64) xs,.val (.int .i64 k),.val (.int .i64 C)] 0]=>Need (Okx xs k C) (K (.itr xs.length (fun i=>[I i,I (xs.getD i 0+k)])))
 | _=>False
theorem k41:aG Tryz.prog c41:=by
 refine kO Tryz.func177 fun args K h=>?_
 simp only[c41] at h;split at h
 ·rename_i xs k C
  have ho:=h.ok
  exact ⟨_,h.go,fU (by simp) Tryz.func177 (by simp[Tryz.ntmps177]) (b41 xs k C ⟨ho.k0,ho.k1⟩ fun i hi=>⟨(ho.el i hi).1,(ho.el i hi).2.1⟩)⟩
 ·exact h.elim
def c33:Con:=aJ 121 false fun args K=>match args with
 | [.agg [.seq (.int .i64) xs,.val (.int .i64 k),.val (.int .i64 C)]]=>K (.clo 177 [] [Box xs k C])
 | _=>False
theorem k33:aG Tryz.prog c33:=by
 refine kO Tryz.func121 fun args K h=>?_
 simp only[c33] at h;split at h
 ·exact ⟨_,h,triB Tryz.func121 Tryz.ntmps121 (by simp) (b33 _ _ _)⟩
 ·exact h.elim
def c34:Con:=aJ 122 true fun args K=>match args with
 | [.val (.int .i64 a),.val (.int .i64 b)]=>Need (0≤a∧a≤1000000000∧0<b∧b≤1000000000) (K (I ((a+b-1)/b)))
 | _=>False
theorem b34 (a b:Int) (h:0≤a∧a≤1000000000∧0<b∧b≤1000000000):body Tryz.prog [] {} true Tryz.f122 [I a,I b] (I ((a+b-1)/b)):=by
 (repeat'((conv=>whnf);first|refine Za ?_|refine Zn ?_|fail))
 (conv=>whnf)
 exact ⟨rfl,rfl⟩
theorem k34:aG Tryz.prog c34:=by
 refine kO Tryz.func122 fun args K h=>?_
 simp only[c34] at h;split at h
 ·exact ⟨_,h.go,triB Tryz.func122 Tryz.ntmps122 (by simp) (b34 _ _ h.ok)⟩
 ·exact h.elim
def psum (f:Int→Int) (xs:List Int) (i:Nat):Int:=((xs.take i).map f).sum
theorem psum_zero (f:Int→Int) (xs:List Int):psum f xs 0=0:=by simp[psum]
theorem psum_succ (f:Int→Int) (xs:List Int) (i:Nat) (h:i<xs.length):psum f xs (i+1)=psum f xs i+f (xs.getD i 0):=by
 unfold psum
 rw[List.take_succ_eq_append_getElem h,List.map_append,List.sum_append]
 simp[List.getD_eq_getElem?_getD,h]
theorem yC (f:Int→Int) (xs:List Int) (i:Nat) (h:i=xs.length):psum f xs i=(xs.map f).sum:=by
 subst h;simp[psum]
def upE (a b:Int):Int:=(a+b-1)/b
def matE (xs:List Int) (k C:Int):Int:=upE ((xs.map (· +k)).sum) C
abbrev an25 (xs:List Int) (k C:Int):Ann:={ X:=Nat,pre:=fun i=>i≤xs.length∧0≤psum (· +k) xs i∧psum (· +k) xs i≤100000*i,mod:=fun _ _=>[],heap:=fun i H=>[hget H 0,.cells [I (psum (· +k) xs i)] 3],mu:=fun i=>i }
theorem b25 (xs:List Int) (k C:Int) (ho:Okx xs k C):body Tryz.prog [c33,c34,c41] { loops:=[(0,an25 xs k C)] } true Tryz.f166 [Nst xs k C] (I (matE xs k C)):=by
 (repeat'((conv=>whnf);first|refine Zn ?_|fail))
 refine ⟨⟨(0:Nat),rfl,⟨Nat.zero_le _,by simp[psum_zero],by simp[psum_zero]⟩,by (repeat' first|exact trivial|rfl|apply And.intro)⟩,fun (i:Nat) hi (hlt:i<xs.length)=>?_,fun (i:Nat) hi (he:i=xs.length)=>?_⟩
 ·obtain ⟨h1,h2,h3⟩:i≤xs.length∧0≤psum (· +k) xs i∧psum (· +k) xs i≤100000*i:=hi
  obtain ⟨h4,h5,h6⟩:=ho.el i hlt
  have h7:=ho.k0
  have h8:=ho.k1
  have h9:=ho.len
  (repeat'((conv=>whnf);first|refine Zg fun _=>?_|fail))
  refine Need.mk (by dsimp only[an25];omega) ?_
  refine ⟨(i+1:Nat),rfl,⟨?_,?_⟩,?_⟩
  ·exact hlt
  ·rw[psum_succ _ _ _ hlt]
   constructor<;>omega
  ·(repeat' first|exact trivial|rfl|apply And.intro)
   exact (psum_succ (· +k) _ _ hlt).symm
 ·obtain ⟨h1,h2,h3⟩:i≤xs.length∧0≤psum (· +k) xs i∧psum (· +k) xs i≤100000*i:=hi
  have h7:=ho.c0
  have h8:=ho.c1
  have h9:=ho.len
  (repeat'((conv=>whnf);first|refine Zn ?_|fail))
  (conv=>whnf)
  (repeat' first|rfl|apply And.intro)
  rw[yC _ _ _ he]
  rfl
def c25:Con:=aJ 166 true fun args K=>match args with
 | [.agg [.seq (.int .i64) xs,.val (.int .i64 k),.val (.int .i64 C)]]=>Need (Okx xs k C) (K (I (matE xs k C)))
 | _=>False
theorem k25:aG Tryz.prog c25:=by
 refine kO Tryz.func166 fun args K h=>?_
 simp only[c25] at h;split at h
 ·exact ⟨_,h.go,triB Tryz.func166 Tryz.ntmps166 (by simp[k33,k34,k41]) (b25 _ _ _ h.ok)⟩
 ·exact h.elim
def big2 (k C:Int) (x:Int):Int:=if C<2*(x+k) then 1 else 0
def aA8 (xs:List Int) (k C:Int):Int:=(xs.map (big2 k C)).sum
abbrev an28 (xs:List Int) (k C:Int):Ann:={ X:=Nat,pre:=fun i=>i≤xs.length∧0≤psum (big2 k C) xs i∧psum (big2 k C) xs i≤i,mod:=fun _ _=>[],heap:=fun i H=>[hget H 0,.cells [I (psum (big2 k C) xs i)] 3],mu:=fun i=>i }
theorem b28 (xs:List Int) (k C:Int) (ho:Okx xs k C):body Tryz.prog [c33,c34,c41] { loops:=[(0,an28 xs k C)] } true Tryz.f167 [Nst xs k C] (I (aA8 xs k C)):=by
 (repeat'((conv=>whnf);first|refine Zn ?_|fail))
 refine ⟨⟨(0:Nat),rfl,⟨Nat.zero_le _,by simp[psum_zero],by simp[psum_zero]⟩,by (repeat' first|exact trivial|rfl|apply And.intro)⟩,fun (i:Nat) hi (hlt:i<xs.length)=>?_,fun (i:Nat) hi (he:i=xs.length)=>?_⟩
 ·obtain ⟨h1,h2,h3⟩:i≤xs.length∧0≤psum (big2 k C) xs i∧psum (big2 k C) xs i≤i:=hi
  obtain ⟨h4,h5,h6⟩:=ho.el i hlt
  have h7:=ho.k0
  have h8:=ho.k1
  have h9:=ho.len
  have hs:=psum_succ (big2 k C) xs i hlt
  (repeat'((conv=>whnf);first|refine Zg fun _=>?_|fail))
  refine Need.mk (by dsimp only[an28];omega) ?_
  (apply Br.mk<;>intro)
  ·rename_i hc
   have hc:C<2*(xs.getD i 0+k):=hc
   rw[show big2 k C (xs.getD i 0)=1 from if_pos hc] at hs
   (repeat'((conv=>whnf);first|refine Zn ?_|fail))
   refine ⟨(i+1:Nat),rfl,⟨?_,?_⟩,?_⟩
   ·exact hlt
   ·omega
   ·(repeat' first|exact trivial|rfl|apply And.intro)
    exact hs.symm
  ·rename_i hc
   have hc:¬C<2*(xs.getD i 0+k):=hc
   rw[show big2 k C (xs.getD i 0)=0 from if_neg hc] at hs
   refine ⟨(i+1:Nat),rfl,⟨?_,?_⟩,?_⟩
   ·exact hlt
   ·omega
   ·(repeat' first|exact trivial|rfl|apply And.intro)
    omega
 ·obtain ⟨h1,h2,h3⟩:i≤xs.length∧0≤psum (big2 k C) xs i∧psum (big2 k C) xs i≤i:=hi
  (conv=>whnf)
  (repeat' first|rfl|apply And.intro)
  rw[yC _ _ _ he]
  rfl
def c28:Con:=aJ 167 true fun args K=>match args with
 | [.agg [.seq (.int .i64) xs,.val (.int .i64 k),.val (.int .i64 C)]]=>Need (Okx xs k C) (K (I (aA8 xs k C)))
 | _=>False
theorem k28:aG Tryz.prog c28:=by
 refine kO Tryz.func167 fun args K h=>?_
 simp only[c28] at h;split at h
 ·exact ⟨_,h.go,triB Tryz.func167 Tryz.ntmps167 (by simp[k33,k34,k41]) (b28 _ _ _ h.ok)⟩
 ·exact h.elim
def cntF (a C w:Int):Int:=if C-a<w then 1 else if C<2*w then 1 else 0
def fY (a C w:Int):Int:=if C-a<w then 0 else if C<2*w then C-w else 0
def dJ (a C w:Int):Int:=if C-a<w then 0 else if C<2*w then 0 else if a≤w then w else 0
def sumE (f:Int→Int) (xs:List Int) (k:Int):Int:=(xs.map fun x=>f (x+k)).sum
def yD (xs:List Int) (k C a:Int):Int:=sumE (cntF a C) xs k+upE (max 0 (sumE (dJ a C) xs k-sumE (fY a C) xs k)) C
abbrev P3 (f:Int→Int→Int→Int) (a C k:Int) (xs:List Int) (i:Nat):Int:=psum (fun x=>f a C (x+k)) xs i
abbrev an40 (xs:List Int) (k C a:Int):Ann:={ X:=Nat,pre:=fun i=>i≤xs.length∧(0≤P3 cntF a C k xs i∧P3 cntF a C k xs i≤i)∧(0≤P3 fY a C k xs i∧P3 fY a C k xs i≤100000*i)∧(0≤P3 dJ a C k xs i∧P3 dJ a C k xs i≤100000*i),mod:=fun _ _=>[],heap:=fun i H=>[hget H 0,.cells [I a] 3,.cells [I (P3 cntF a C k xs i)] 3,.cells [I (P3 fY a C k xs i)] 3,.cells [I (P3 dJ a C k xs i)] 3],mu:=fun i=>i }
theorem b40 (xs:List Int) (k C a:Int) (hh:Okx xs k C∧0≤a∧2*a≤C):body Tryz.prog [c33,c34,c41] { loops:=[(0,an40 xs k C a)] } true Tryz.f207 [Nst xs k C,I a] (I (yD xs k C a)):=by
 obtain ⟨ho,ha⟩:=hh
 (repeat'((conv=>whnf);first|refine Zn ?_|fail))
 refine ⟨⟨(0:Nat),rfl,⟨Nat.zero_le _,by simp[psum_zero],by simp[psum_zero],by simp[psum_zero]⟩,by (repeat' first|exact trivial|rfl|apply And.intro)⟩,fun (i:Nat) hi (hlt:i<xs.length)=>?_,fun (i:Nat) hi (he:i=xs.length)=>?_⟩
 ·obtain ⟨h1,h2,h3,h10⟩:i≤xs.length∧(0≤P3 cntF a C k xs i∧P3 cntF a C k xs i≤i)∧(0≤P3 fY a C k xs i∧P3 fY a C k xs i≤100000*i)∧(0≤P3 dJ a C k xs i∧P3 dJ a C k xs i≤100000*i):=hi
  obtain ⟨h4,h5,h6⟩:=ho.el i hlt
  have h7:=ho.k0
  have h8:=ho.k1
  have h9:=ho.len
  have h11:=ho.c0
  have h12:=ho.c1
  have s1:P3 cntF a C k xs (i+1)=P3 cntF a C k xs i+cntF a C (xs.getD i 0+k):=psum_succ (fun x=>cntF a C (x+k)) xs i hlt
  have s2:P3 fY a C k xs (i+1)=P3 fY a C k xs i+fY a C (xs.getD i 0+k):=psum_succ (fun x=>fY a C (x+k)) xs i hlt
  have s3:P3 dJ a C k xs (i+1)=P3 dJ a C k xs i+dJ a C (xs.getD i 0+k):=psum_succ (fun x=>dJ a C (x+k)) xs i hlt
  rw[show (an40 xs k C a).mu i=i from rfl]
  have hcase:(C-a<xs.getD i 0+k∧cntF a C (xs.getD i 0+k)=1∧fY a C (xs.getD i 0+k)=0∧dJ a C (xs.getD i 0+k)=0)∨
    (¬C-a<xs.getD i 0+k∧C<2*(xs.getD i 0+k)∧cntF a C (xs.getD i 0+k)=1∧fY a C (xs.getD i 0+k)=C-(xs.getD i 0+k)∧dJ a C (xs.getD i 0+k)=0)∨
    (¬C-a<xs.getD i 0+k∧¬C<2*(xs.getD i 0+k)∧a≤xs.getD i 0+k∧cntF a C (xs.getD i 0+k)=0∧fY a C (xs.getD i 0+k)=0∧dJ a C (xs.getD i 0+k)=xs.getD i 0+k)∨
    (¬C-a<xs.getD i 0+k∧¬C<2*(xs.getD i 0+k)∧¬a≤xs.getD i 0+k∧cntF a C (xs.getD i 0+k)=0∧fY a C (xs.getD i 0+k)=0∧dJ a C (xs.getD i 0+k)=0):=by
   by_cases q1:C-a<xs.getD i 0+k
   ·exact .inl ⟨q1,if_pos q1,if_pos q1,if_pos q1⟩
   ·by_cases q2:C<2*(xs.getD i 0+k)
    ·exact .inr (.inl ⟨q1,q2,(if_neg q1).trans (if_pos q2),(if_neg q1).trans (if_pos q2),(if_neg q1).trans (if_pos q2)⟩)
    ·by_cases q3:a≤xs.getD i 0+k
     ·exact .inr (.inr (.inl ⟨q1,q2,q3,(if_neg q1).trans (if_neg q2),(if_neg q1).trans (if_neg q2),(if_neg q1).trans ((if_neg q2).trans (if_pos q3))⟩))
     ·exact .inr (.inr (.inr ⟨q1,q2,q3,(if_neg q1).trans (if_neg q2),(if_neg q1).trans (if_neg q2),(if_neg q1).trans ((if_neg q2).trans (if_neg q3))⟩))
  (repeat'((conv=>whnf);first|refine Zg fun _=>?_|refine Zn ?_|fail))
  (apply Br.mk<;>intro)
  ·(repeat'((conv=>whnf);first|refine Zn ?_|fail))
   refine ⟨(i+1:Nat),rfl,⟨hlt,?_,?_,?_⟩,?_⟩
   ·omega
   ·omega
   ·omega
   ·(repeat' first|exact trivial|rfl|apply And.intro)
    all_goals omega
  ·(repeat'((conv=>whnf);first|refine Zn ?_|fail))
   (apply Br.mk<;>intro)
   ·(repeat'((conv=>whnf);first|refine Zn ?_|fail))
    refine ⟨(i+1:Nat),rfl,⟨hlt,?_,?_,?_⟩,?_⟩
    ·omega
    ·omega
    ·omega
    ·(repeat' first|exact trivial|rfl|apply And.intro)
     all_goals omega
   ·skip
    (apply Br.mk<;>intro)
    ·(repeat'((conv=>whnf);first|refine Zn ?_|fail))
     refine ⟨(i+1:Nat),rfl,⟨hlt,?_,?_,?_⟩,?_⟩
     ·omega
     ·omega
     ·omega
     ·(repeat' first|exact trivial|rfl|apply And.intro)
      all_goals omega
    ·skip
     refine ⟨(i+1:Nat),rfl,⟨hlt,?_,?_,?_⟩,?_⟩
     ·omega
     ·omega
     ·omega
     ·(repeat' first|exact trivial|rfl|apply And.intro)
      all_goals omega
 ·obtain ⟨h1,h2,h3,h10⟩:i≤xs.length∧(0≤P3 cntF a C k xs i∧P3 cntF a C k xs i≤i)∧(0≤P3 fY a C k xs i∧P3 fY a C k xs i≤100000*i)∧(0≤P3 dJ a C k xs i∧P3 dJ a C k xs i≤100000*i):=hi
  have h9:=ho.len
  have h11:=ho.c0
  have h12:=ho.c1
  have hd0:0≤(max 0 (P3 dJ a C k xs i-P3 fY a C k xs i)+C-1)/C:=Int.ediv_nonneg (by omega) (by omega)
  have hd1:(max 0 (P3 dJ a C k xs i-P3 fY a C k xs i)+C-1)/C≤max 0 (P3 dJ a C k xs i-P3 fY a C k xs i)+C-1:=Int.ediv_le_self _ (by omega)
  (repeat'((conv=>whnf);first|refine Zn ?_|(apply Pin.mk;apply Exists.intro)|apply Pinned.mk rfl rfl|fail))
  (conv=>whnf)
  (repeat' first|rfl|apply And.intro)
  simp only[P3,yC _ _ _ he]
  rfl
def c40:Con:=aJ 207 true fun args K=>match args with | [.agg [.seq (.int .i64) xs,.val (.int .i64 k),.val (.int .i64 C)],.val (.int .i64 a)]=>Need (Okx xs k C∧0≤a∧2*a≤C) (K (I (yD xs k C a))) | _=>False
theorem k40:aG Tryz.prog c40:=by
 refine kO Tryz.func207 fun args K h=>?_
 simp only[c40] at h;split at h
 ·rename_i xs k C a;exact ⟨_,h.go,triB Tryz.func207 Tryz.ntmps207 (by simp[k33,k34,k41]) (b40 xs k C a h.ok)⟩
 ·exact h.elim
def cand (C w:Int):List Int:=[w,w+1,C-w,C-w+1]
def aFn (xs:List Int) (k C b a:Int):Int:=if 0≤a∧2*a≤C then max b (yD xs k C a) else b
def aMk (xs:List Int) (k C:Int) (l:List Int) (b:Int):Int:=l.foldl (aFn xs k C) b
def yE (xs:List Int) (k C:Int):Int:=xs.foldl (fun b x=>aMk xs k C (cand C (x+k)) b) (yD xs k C 0)
theorem mP {α β:Type} (f:β→α→β) (xs:List α) (d:α) (b:β) (k:Nat) (h:k<xs.length):(xs.take (k+1)).foldl f b=f ((xs.take k).foldl f b) (xs.getD k d):=by
 rw[List.take_succ_eq_append_getElem h,List.foldl_append]
 simp[List.getD_eq_getElem?_getD,h]
def gAt (xs:List Int) (k C:Int) (i:Nat):Int:=(xs.take i).foldl (fun b x=>aMk xs k C (cand C (x+k)) b) (yD xs k C 0)
def gAt2 (xs:List Int) (k C:Int) (i j:Nat):Int:=aMk xs k C ((cand C (xs.getD i 0+k)).take j) (gAt xs k C i)
theorem aKl (xs:List Int) (k C:Int) (i:Nat):gAt2 xs k C i 0=gAt xs k C i:=rfl
theorem aKm (xs:List Int) (k C:Int) (i j:Nat):j<(cand C (xs.getD i 0+k)).length→gAt2 xs k C i (j+1)=aFn xs k C (gAt2 xs k C i j) ((cand C (xs.getD i 0+k)).getD j 0):=fun h=>mP _ _ 0 _ j h
abbrev an30 (xs:List Int) (k C:Int):Ann:={ X:=Nat,pre:=fun i=>i≤xs.length,mod:=fun _ _=>[],heap:=fun i H=>[hget H 0,.cells [I (gAt xs k C i)] 3],mu:=fun i=>i }
abbrev an30b (xs:List Int) (k C:Int) (i:Nat):Ann:={ X:=Nat,pre:=fun j=>j≤4,mod:=fun j _=>[(28,I j)],heap:=fun j H=>[hget H 0,.cells [I (gAt2 xs k C i j)] 3,.gone],mu:=fun j=>4-j }
theorem b30 (xs:List Int) (k C:Int) (ho:Okx xs k C):body Tryz.prog [c33,c40,c41] { loops:=[(0,an30 xs k C)],asks:=[(2,[])] } true Tryz.f168 [Nst xs k C] (I (yE xs k C)):=by
 have hc0:=ho.c0
 have hc1:=ho.c1
 refine Need.mk ⟨ho,by omega,by omega⟩ ?_
 (repeat'((conv=>whnf);first|refine Zn ?_|fail))
 refine ⟨⟨(0:Nat),rfl,Nat.zero_le _,by (repeat' first|exact trivial|rfl|apply And.intro)⟩,fun (i:Nat) hi (hlt:i<xs.length)=>?_,fun (i:Nat) hi (he:i=xs.length)=>?_⟩
 ·obtain ⟨h4,h5,h6⟩:=ho.el i hlt
  have h7:=ho.k0
  have h8:=ho.k1
  rw[show (an30 xs k C).mu i=i from rfl]
  (repeat'((conv=>whnf);first|refine Zg fun _=>?_|refine Zn ?_|refine Zl ?_|fail))
  refine Ask.mk ⟨an30b xs k C i,rfl,?_⟩
  (repeat'((conv=>whnf);first|refine Zn ?_|fail))
  refine ⟨⟨(0:Nat),Nat.zero_le _,by (repeat' first|exact trivial|rfl|apply And.intro)⟩,fun (j:Nat) (hj:j≤4)=>?_⟩
  have hg0:=aKl xs k C i
  have hg1:=aKm xs k C i j
  (apply Br.mk<;>intro)
  ·rename_i hjl
   have hjl:j<4:=by simp at hjl;omega
   have hg1:=hg1 hjl
   rw[show cand C (xs.getD i 0+k)= [xs.getD i 0+k,xs.getD i 0+k+1,C-(xs.getD i 0+k),C-(xs.getD i 0+k)+1] from rfl] at hg1
   have hb: -100000≤ [xs.getD i 0+k,xs.getD i 0+k+1,C-(xs.getD i 0+k),C-(xs.getD i 0+k)+1].getD j 0∧ [xs.getD i 0+k,xs.getD i 0+k+1,C-(xs.getD i 0+k),C-(xs.getD i 0+k)+1].getD j 0≤100000:=by
    rcases (by omega:j=0∨j=1∨j=2∨j=3) with rfl | rfl | rfl | rfl<;>simp only[List.getD_cons_zero,List.getD_cons_succ]<;>omega
   generalize [xs.getD i 0+k,xs.getD i 0+k+1,C-(xs.getD i 0+k),C-(xs.getD i 0+k)+1]=l at*
   (repeat'((conv=>whnf);first|refine Zg fun _=>?_|refine Zn ?_|refine Zj ?_|fail))
   (apply Br.mk<;>intro)
   ·(repeat'((conv=>whnf);first|refine Zn ?_|fail))
    (apply Br.mk<;>intro)
    ·rename_i q1 q2
     rw[aFn,if_pos ⟨q1,q2⟩] at hg1
     (repeat'((conv=>whnf);first|(apply Pin.mk;apply Exists.intro)|apply Pinned.mk rfl rfl|fail))
     refine Need.mk ⟨ho,q1,q2⟩ ?_
     (repeat'((conv=>whnf);first|refine Zn ?_|apply Pinned.mk rfl rfl|fail))
     refine ⟨(j+1:Nat),by show 4-(j+1)<4-j;omega,(by show j+1≤4;omega),?_⟩
     (repeat' first|exact trivial|rfl|apply And.intro)
     exact hg1.symm
    ·rename_i q1 q2
     rw[aFn,if_neg (fun h=>q2 h.2)] at hg1
     (repeat'((conv=>whnf);first|refine Zn ?_|fail))
     refine ⟨(j+1:Nat),by show 4-(j+1)<4-j;omega,(by show j+1≤4;omega),?_⟩
     (repeat' first|exact trivial|rfl|apply And.intro)
     exact hg1.symm
   ·rename_i q1
    rw[aFn,if_neg (fun h=>q1 h.1)] at hg1
    (repeat'((conv=>whnf);first|refine Zn ?_|fail))
    refine ⟨(j+1:Nat),by show 4-(j+1)<4-j;omega,(by show j+1≤4;omega),?_⟩
    (repeat' first|exact trivial|rfl|apply And.intro)
    exact hg1.symm
  ·rename_i hjl
   have hjl:¬j<4:=by simp at hjl;omega
   refine ⟨(i+1:Nat),rfl,hlt,?_⟩
   (repeat' first|exact trivial|rfl|apply And.intro)
   rw[show gAt xs k C (i+1)= _ from mP _ xs 0 _ i hlt]
   simp only[gAt2]
   rw[List.take_of_length_le (by simp[cand];omega)]
   rfl
 ·skip
  (conv=>whnf)
  (repeat' first|rfl|apply And.intro)
  rw[he]
  simp[gAt,yE]
def c30:Con:=aJ 168 true fun args K=>match args with | [.agg [.seq (.int .i64) xs,.val (.int .i64 k),.val (.int .i64 C)]]=>Need (Okx xs k C) (K (I (yE xs k C))) | _=>False
theorem k30:aG Tryz.prog c30:=by
 refine kO Tryz.func168 fun args K h=>?_
 simp only[c30] at h;split at h
 ·rename_i xs k C;exact ⟨_,h.go,triB Tryz.func168 Tryz.ntmps168 (by simp[k33,k40,k41]) (b30 xs k C h.ok)⟩
 ·exact h.elim
theorem b39 (a b:Int) (h:0≤a∧a≤1000000000∧0<b∧b≤1000000000):body Tryz.prog [] {} true Tryz.f125 [I a,I b] (I ((a+b-1)/b)):=by
 (repeat'((conv=>whnf);first|refine Za ?_|refine Zn ?_|fail))
 (conv=>whnf)
 exact ⟨rfl,rfl⟩
def c39:Con:=aJ 125 true fun args K=>match args with | [.val (.int .i64 a),.val (.int .i64 b)]=>Need (0≤a∧a≤1000000000∧0<b∧b≤1000000000) (K (I ((a+b-1)/b))) | _=>False
theorem k39:aG Tryz.prog c39:=by
 refine kO Tryz.func125 fun args K h=>?_
 simp only[c39] at h;split at h
 ·rename_i a b;exact ⟨_,h.go,triB Tryz.func125 Tryz.ntmps125 (by simp) (b39 a b h.ok)⟩
 ·exact h.elim
def matR (xs:List Int) (L k:Int):Int:=if checkE xs L k=0 then matE xs k (L+k) else 0
def aI6 (xs:List Int) (L k:Int):Int:=if checkE xs L k=0 then aA8 xs k (L+k) else 0
def aI7 (xs:List Int) (L k:Int):Int:=if checkE xs L k=0 then max (max (max 0 (matE xs k (L+k))) (aA8 xs k (L+k))) (yE xs k (L+k)) else 0
theorem b12 (xs:List Int) (L k:Int):body Tryz.prog [c24,c25] {} true Tryz.f109 [Ls xs,I L,I k] (.tup [I (matR xs L k),I (checkE xs L k)]):=by
 (apply Br.mk<;>intro)
 ·rename_i h
  have ho:=okx_of h
  have e:matR xs L k=matE xs k (L+k):=if_pos h
  (repeat'((conv=>whnf);first|refine Zn ?_|refine Zl ?_|refine Zm ?_|fail))
  (conv=>whnf)
  (repeat' first|exact trivial|rfl|apply And.intro)
  ·exact e.symm
  ·exact h.symm
 ·rename_i h
  have e:matR xs L k=0:=if_neg h
  (repeat'((conv=>whnf);first|refine Zl ?_|refine Zy ?_|fail))
  (conv=>whnf)
  (repeat' first|exact trivial|rfl|apply And.intro)
  exact e.symm
def c12:Con:=aJ 109 true fun args K=>match args with | [.seq (.int .i64) xs,.val (.int .i64 L),.val (.int .i64 k)]=>K (.tup [I (matR xs L k),I (checkE xs L k)]) | _=>False
theorem k12:aG Tryz.prog c12:=by
 refine kO Tryz.func109 fun args K h=>?_
 simp only[c12] at h;split at h
 ·rename_i xs L k;exact ⟨_,h,triB Tryz.func109 Tryz.ntmps109 (by simp[k24,k25]) (b12 xs L k)⟩
 ·exact h.elim
theorem b14 (xs:List Int) (L k:Int):body Tryz.prog [c24,c28] {} true Tryz.f110 [Ls xs,I L,I k] (.tup [I (aI6 xs L k),I (checkE xs L k)]):=by
 (apply Br.mk<;>intro)
 ·rename_i h
  have ho:=okx_of h
  have e:aI6 xs L k=aA8 xs k (L+k):=if_pos h
  (repeat'((conv=>whnf);first|refine Zn ?_|refine Zl ?_|refine Zm ?_|fail))
  (conv=>whnf)
  (repeat' first|exact trivial|rfl|apply And.intro)
  ·exact e.symm
  ·exact h.symm
 ·rename_i h
  have e:aI6 xs L k=0:=if_neg h
  (repeat'((conv=>whnf);first|refine Zl ?_|refine Zy ?_|fail))
  (conv=>whnf)
  (repeat' first|exact trivial|rfl|apply And.intro)
  exact e.symm
def c14:Con:=aJ 110 true fun args K=>match args with | [.seq (.int .i64) xs,.val (.int .i64 L),.val (.int .i64 k)]=>K (.tup [I (aI6 xs L k),I (checkE xs L k)]) | _=>False
theorem k14:aG Tryz.prog c14:=by
 refine kO Tryz.func110 fun args K h=>?_
 simp only[c14] at h;split at h
 ·rename_i xs L k;exact ⟨_,h,triB Tryz.func110 Tryz.ntmps110 (by simp[k24,k28]) (b14 xs L k)⟩
 ·exact h.elim
theorem b16 (xs:List Int) (L k:Int):body Tryz.prog [c24,c25,c28,c30] {} true Tryz.f111 [Ls xs,I L,I k] (.tup [I (aI7 xs L k),I (checkE xs L k)]):=by
 (apply Br.mk<;>intro)
 ·rename_i h
  have ho:=okx_of h
  have e:aI7 xs L k=max (max (max 0 (matE xs k (L+k))) (aA8 xs k (L+k))) (yE xs k (L+k)):=if_pos h
  (repeat'((conv=>whnf);first|refine Zn ?_|refine Zl ?_|refine Zy ?_|refine Zm ?_|fail))
  (conv=>whnf)
  (repeat' first|exact trivial|rfl|apply And.intro)
  ·exact e.symm
  ·exact h.symm
 ·rename_i h
  have e:aI7 xs L k=0:=if_neg h
  (repeat'((conv=>whnf);first|refine Zl ?_|refine Zy ?_|fail))
  (conv=>whnf)
  (repeat' first|exact trivial|rfl|apply And.intro)
  exact e.symm
def c16:Con:=aJ 111 true fun args K=>match args with | [.seq (.int .i64) xs,.val (.int .i64 L),.val (.int .i64 k)]=>K (.tup [I (aI7 xs L k),I (checkE xs L k)]) | _=>False
theorem k16:aG Tryz.prog c16:=by
 refine kO Tryz.func111 fun args K h=>?_
 simp only[c16] at h;split at h
 ·rename_i xs L k;exact ⟨_,h,triB Tryz.func111 Tryz.ntmps111 (by simp[k24,k25,k28,k30]) (b16 xs L k)⟩
 ·exact h.elim
def aMl (xs:List Int):Prop:=67<xs.length∨∃j,j<xs.length∧8<xs.length∧(xs.length≤64∨xs.getD j 0≠xs.getD 0 0)
theorem b10 (xs:List Int):body Tryz.prog [] { asks:=[(0,[])] } true Tryz.f57 [Ls xs] (.bl (aMl xs) (Classical.propDecidable _)):=by
 (repeat'((conv=>whnf);first|refine Zg fun _=>?_|fail))
 (apply Br.mk<;>intro)
 ·skip
  (conv=>whnf)
  exact .inl (by omega)
 refine Ask.mk ⟨{ X:=Nat,pre:=fun i=>i≤xs.length∧∀j,j<i→¬(8<xs.length∧(xs.length≤64∨xs.getD j 0≠xs.getD 0 0)),mod:=fun i _=>[(3,I i)],mu:=fun i=>xs.length-i },rfl,?_⟩
 (repeat'((conv=>whnf);first|refine Zn ?_|fail))
 refine ⟨⟨(0:Nat),⟨Nat.zero_le _,fun j hj=>by omega⟩,by (repeat' first|exact trivial|rfl|apply And.intro)⟩,fun (i:Nat) hi=>?_⟩
 obtain ⟨hi,hall⟩:=hi
 (repeat'((conv=>whnf);first|refine Zg fun _=>?_|fail))
 (apply Br.mk<;>intro)
 ·have hlt:i<xs.length:=by omega
  have hnext:¬(8<xs.length∧(xs.length≤64∨xs.getD i 0≠xs.getD 0 0))→∀j,j<i+1→¬(8<xs.length∧(xs.length≤64∨xs.getD j 0≠xs.getD 0 0)):=fun h j hj=>by
   by_cases e:j=i
   ·subst e;exact h
   ·exact hall j (by omega)
  (repeat'((conv=>whnf);first|refine Zg fun _=>?_|refine Zn ?_|refine Z0 ?_|refine Zj ?_|(apply Pin.mk;apply Exists.intro)|apply Pinned.mk rfl rfl|refine Zr (fun _=>?_) fun _=>?_|fail))
  all_goals (conv=>whnf)
  ·exact .inr ⟨i,hlt,by omega,.inl (by omega)⟩
  ·exact .inr ⟨i,hlt,by omega,.inr ‹_›⟩
  all_goals (refine ⟨(i+1:Nat),by show xs.length-(i+1)<xs.length-i;omega,⟨hlt,hnext (by omega)⟩,by (repeat' first|exact trivial|rfl|apply And.intro)⟩)
 ·skip
  (conv=>whnf)
  rintro (h | ⟨j,h1,h2⟩)
  ·omega
  ·exact hall j (by omega) h2
def c10:Con:=aJ 57 true fun args K=>match args with | [.seq (.int .i64) xs]=>K (.bl (aMl xs) (Classical.propDecidable _)) | _=>False
theorem k10:aG Tryz.prog c10:=by
 refine kO Tryz.func57 fun args K h=>?_
 simp only[c10] at h;split at h
 ·rename_i xs;exact ⟨_,h,triB Tryz.func57 Tryz.ntmps57 (by simp) (b10 xs)⟩
 ·exact h.elim
theorem b11:body Tryz.prog [c12,c14,c16] {} true Tryz.f53 [] (.val (.bool true)):=by
 (repeat'((conv=>whnf);first|refine Zl ?_|fail))
 repeat (first | (skip;refine Br.mkY (by decide+kernel) ?_))
 (conv=>whnf)
 exact ⟨fun _=>rfl,fun _=>by decide+kernel⟩
def c11:Con:=aJ 53 true fun args K=>match args with | []=>K (.val (.bool true)) | _=>False
theorem k11:aG Tryz.prog c11:=by
 refine kO Tryz.func53 fun args K h=>?_
 simp only[c11] at h;split at h
 ·exact ⟨_,h,triB Tryz.func53 Tryz.ntmps53 (by simp[k12,k14,k16]) b11⟩
 ·exact h.elim
def okA (C a:Int):Prop:=0≤a∧2*a≤C
theorem pick (k C a:Int) (h:okA C a):∀ys:List Int,∃a',(a'=0∨∃x∈ys,a'=C-(x+k)+1)∧0≤a'∧a'≤a∧∀x∈ys,C<2*(x+k)→C-a<x+k→C-a'<x+k
 | []=>⟨0,.inl rfl,Int.le_refl _,h.1,fun x hx=>by cases hx⟩
 | y::ys=>by
  obtain ⟨a',h1,h2,h3,h4⟩:=pick k C a h ys
  by_cases hc:C<2*(y+k)∧C-a<y+k∧¬C-a'<y+k
  ·refine ⟨C-(y+k)+1,.inr ⟨y,List.mem_cons_self,rfl⟩,by omega,by omega,fun x hx q1 q2=>?_⟩
   rcases List.mem_cons.1 hx with rfl | hx
   ·omega
   ·have:=h4 x hx q1 q2
    omega
  ·refine ⟨a',?_,h2,h3,fun x hx q1 q2=>?_⟩
   ·rcases h1 with h1 | ⟨x,hx,h1⟩
    ·exact .inl h1
    ·exact .inr ⟨x,List.mem_cons_of_mem _ hx,h1⟩
   ·rcases List.mem_cons.1 hx with rfl | hx
    ·omega
    ·exact h4 x hx q1 q2
def aQe (l:List Int):List Int:=l.map (1 + ·)
def most (l:List Int):Int:=(aQe l).foldl max 1
structure Fine (l:List Int) (a b:Int):Prop where
 len:l.length≤8
 el:∀i,i<l.length→0≤l.getD i 0∧l.getD i 0≤255
 a0:0≤a
 a1:a≤255
 b0:0≤b
 b1:b≤255
theorem ix_to {n:Int} {C:Nat→Prop} (j:Nat) (e:n=(j:Int)) (h:C j):Ix n C:=by
 refine ⟨fun i e'=>?_⟩
 have:i=j:=by omega
 subst this;exact h
def badW (w:Int):Bool:=decide (¬(0≤w∧w≤1048576))
def dpAt (ys:List Int) (w v r:Int):List Int:=(List.range ys.length).map fun (j:Nat)=>if r<(j:Int)∧w≤(j:Int) then max (ys.getD j 0) (ys.getD ((j:Int)-w).toNat 0+v) else ys.getD j 0
def qE (ys:List Int) (w v:Int):List Int:=dpAt ys w v (w-1)
def dpE (xs ws:List Int) (k C:Int) (i:Nat):List Int:=(List.range i).foldl (fun ys j=>qE ys (xs.getD j 0+k) (ws.getD j 0)) (List.replicate (C+1).toNat 0)
theorem dpAt_len (ys:List Int) (w v r:Int):(dpAt ys w v r).length=ys.length:=by simp[dpAt]
theorem iF (ys:List Int) (w v r:Int) (j:Nat) (h:j<ys.length):(dpAt ys w v r).getD j 0=if r<(j:Int)∧w≤(j:Int) then max (ys.getD j 0) (ys.getD ((j:Int)-w).toNat 0+v) else ys.getD j 0:=by
 simp[dpAt,List.getD_eq_getElem?_getD,h]
theorem dpE_succ (xs ws:List Int) (k C:Int) (i:Nat):dpE xs ws k C (i+1)=qE (dpE xs ws k C i) (xs.getD i 0+k) (ws.getD i 0):=by
 unfold dpE;rw[List.range_succ,List.foldl_append];rfl
theorem dpE_len (xs ws:List Int) (k C:Int):∀i,(dpE xs ws k C i).length=(C+1).toNat
 | 0=>by simp[dpE]
 | i+1=>by rw[dpE_succ,qE,dpAt_len,dpE_len]
theorem kD {xs ys:List Int} (h:xs.length=ys.length) (h2:∀j,j<xs.length→xs.getD j 0=ys.getD j 0):xs=ys:=by
 refine List.ext_getElem h fun j h1 h3=>?_
 have:=h2 j h1
 simpa [List.getD_eq_getElem?_getD,h1,h3] using this
theorem aKn (xs:List Int) (i j:Nat) (x:Int):(xs.set i x).getD j 0=if i=j∧i<xs.length then x else xs.getD j 0:=by
 simp only[List.getD_eq_getElem?_getD,List.getElem?_set]
 by_cases h:i=j
 ·subst h
  by_cases h2:i<xs.length
  ·simp[h2]
  ·simp[h2]
 ·simp[h]
theorem dpAt_step (ys:List Int) (w v:Int) (r:Nat) (hw:1≤w) (hr:w≤r) (hl:r<ys.length):
  (dpAt ys w v r).set r (max ((dpAt ys w v r).getD r 0) ((dpAt ys w v r).getD ((r:Int)-w).toNat 0+v))=dpAt ys w v ((r:Int)-1):=by
 refine kD (by simp[dpAt_len]) fun j hj=>?_
 rw[List.length_set,dpAt_len] at hj
 have g1:=iF ys w v r r hl
 have g2:=iF ys w v r ((r:Int)-w).toNat (by omega)
 have g3:=iF ys w v r j hj
 have g4:=iF ys w v ((r:Int)-1) j hj
 rw[if_neg (by omega)] at g1 g2
 rw[aKn,dpAt_len,g1,g2,g3,g4]
 by_cases h:r=j
 ·subst h
  rw[if_pos ⟨rfl,hl⟩,if_pos ⟨by omega,hr⟩]
 ·rw[if_neg (show ¬(r=j∧r<ys.length) from fun e=>h e.1)]
  by_cases h2:(r:Int)<j∧w≤(j:Int)
  ·rw[if_pos h2,if_pos ⟨by omega,h2.2⟩]
  ·rw[if_neg h2,if_neg (by omega)]
theorem dpAt_start (ys:List Int) (w v:Int) (r:Int) (h:(ys.length:Int)≤r+1):dpAt ys w v r=ys:=by
 refine kD (dpAt_len ..) fun j hj=>?_
 rw[dpAt_len] at hj
 rw[iF _ _ _ _ j hj,if_neg (by omega)]
theorem dpAt_end (ys:List Int) (w v r:Int) (h:r<w):dpAt ys w v r=qE ys w v:=by
 refine kD (by simp[dpAt_len,qE]) fun j hj=>?_
 rw[dpAt_len] at hj
 rw[qE,iF _ _ _ _ j hj,iF _ _ _ _ j hj]
 by_cases h2:w≤(j:Int)
 ·rw[if_pos ⟨by omega,h2⟩,if_pos ⟨by omega,h2⟩]
 ·rw[if_neg (fun e=>h2 e.2),if_neg (fun e=>h2 e.2)]
theorem dpAt_range {ys:List Int} {w v r b c:Int} (h:∀j,0≤ys.getD j 0∧ys.getD j 0≤b) (hv:0≤v) (hc:v≤c) (hc0:0≤c):∀j,0≤(dpAt ys w v r).getD j 0∧(dpAt ys w v r).getD j 0≤b+c:=by
 intro j
 have h1:=h j
 by_cases hj:j<ys.length
 ·rw[iF _ _ _ _ j hj]
  have h2:=h ((j:Int)-w).toNat
  split<;>omega
 ·rw[List.getD_eq_getElem?_getD,List.getElem?_eq_none (by rw[dpAt_len];omega)]
  simp;omega
theorem getD_mem0 {ws:List Int} {p:Int→Prop} (h0:p 0) (h:∀w∈ws,p w) (i:Nat):p (ws.getD i 0):=by
 rw[List.getD_eq_getElem?_getD]
 cases e:ws[i]? with
 | none=>exact h0
 | some w=>exact h w (List.mem_of_getElem? e)
theorem dpE_range (xs:List Int) {ws:List Int} (k C:Int) (hw:∀w∈ws,0≤w∧w≤1048576):∀i j,0≤(dpE xs ws k C i).getD j 0∧(dpE xs ws k C i).getD j 0≤1048576*i
 | 0,j=>by
  have:(dpE xs ws k C 0).getD j 0=0:=by
   simp only[dpE,List.range_zero,List.foldl_nil,List.getD_eq_getElem?_getD,List.getElem?_replicate]
   split<;>rfl
  omega
 | i+1,j=>by
  rw[dpE_succ]
  have hv:=getD_mem0 (p:=fun w=>0≤w∧w≤1048576) (by omega) hw i
  have:=dpAt_range (w:=xs.getD i 0+k) (r:=xs.getD i 0+k-1) (v:=ws.getD i 0) (c:=1048576) (dpE_range xs k C hw i) hv.1 hv.2 (by omega) j
  unfold qE
  omega
theorem sum_range {ws:List Int} (h:ws.any badW=false):0≤ws.sum∧ws.sum≤1048576*ws.length:=by
 induction ws with
 | nil=>simp
 | cons w ws ih=>
  simp only[List.any_cons,Bool.or_eq_false_iff] at h
  have h1:0≤w∧w≤1048576:=by simpa [badW] using h.1
  have:=ih h.2
  simp only[List.sum_cons,List.length_cons]
  omega
theorem take_sum (ws:List Int) (i:Nat) (h:i<ws.length):(ws.take (i+1)).sum=(ws.take i).sum+ws.getD i 0:=by
 rw[List.take_succ_eq_append_getElem h,List.sum_append]
 simp[List.getD_eq_getElem?_getD,h]
theorem take_any (ws:List Int) (p:Int→Bool) (i:Nat) (h:i<ws.length):(ws.take (i+1)).any p=((ws.take i).any p || p (ws.getD i 0)):=by
 rw[List.take_succ_eq_append_getElem h,List.any_append]
 simp[List.getD_eq_getElem?_getD,h]
def dualE (xs ws:List Int) (s L k:Int):Int:=
 if checkE xs L k≠0 then checkE xs L k else if xs.length≠ws.length then 9 else if ws.any badW then 2 else if s<1∨1048576<s then 2
 else if 4194304<(xs.length:Int)*(L+k+1) then 4 else if s<(dpE xs ws k (L+k) xs.length).getD (L+k).toNat 0 then 23 else 0
def dualR (xs ws:List Int) (s L k:Int):Int:=if dualE xs ws s L k=0 then upE ws.sum s else 0
abbrev anW (ws xs:List Int) (k C:Int):Ann:={ X:=Nat,pre:=fun i=>i≤ws.length∧(ws.take i).any badW=false,mod:=fun i _=>[(38,I i),(14,I ((ws.take i).sum))],heap:=fun _ H=>H,mu:=fun i=>ws.length-i }
abbrev an20 (xs ws:List Int) (k C:Int):Ann:={ X:=Nat,pre:=fun i=>i≤xs.length,mod:=fun _ _=>[],heap:=fun i H=>[hget H 0,hget H 1,.vec 1 (.int .i64) (dpE xs ws k C i) 3,hget H 3,hget H 4],mu:=fun i=>i }
abbrev an20b (xs ws:List Int) (k C:Int) (i:Nat):Ann:={ X:=Nat,pre:=fun r=>xs.getD i 0+k-1≤r∧(r:Int)≤C,mod:=fun r _=>[(20,I r)],heap:=fun r H=>[hget H 0,hget H 1,.vec 1 (.int .i64) (dpAt (dpE xs ws k C i) (xs.getD i 0+k) (ws.getD i 0) r) 3,hget H 3,hget H 4,hget H 5],mu:=fun r=>r }
theorem b20 (xs ws:List Int) (s L k:Int):body Tryz.prog [c24,c32,c33,c34,c41] { loops:=[(0,anW ws xs k (L+k))],asks:=[(3,[]),(5,[])] } true Tryz.f59 [Ls xs,Ls ws,I s,I L,I k] (.tup [I (dualR xs ws s L k),I (dualE xs ws s L k)]):=by
 (apply Br.mk<;>intro)
 ·rename_i hz
  have ho:=okx_of hz
  (repeat'((conv=>whnf);first|refine Zg fun _=>?_|refine Zl ?_|refine Zm ?_|fail))
  (apply Br.mk<;>intro)
  ·rename_i hne
   have hne:¬xs.length=ws.length:=by omega
   have hE:dualE xs ws s L k=9:=by unfold dualE;rw[if_neg (by simp[hz]),if_pos hne]
   (repeat' first|exact trivial|rfl|apply And.intro)
   ·unfold dualR;rw[hE];rfl
   ·exact hE.symm
  ·rename_i heq
   have heq:ws.length=xs.length:=by omega
   have hlen:=ho.len
   (repeat'((conv=>whnf);first|refine Zg fun _=>?_|refine Zn ?_|fail))
   refine ⟨⟨(0:Nat),⟨Nat.zero_le _,rfl⟩,by (repeat' first|exact trivial|rfl|apply And.intro)⟩,fun (i:Nat) hi=>?_⟩
   obtain ⟨hi1,hi2⟩:=(show i≤ws.length∧(ws.take i).any badW=false from hi)
   have hsr:=sum_range hi2
   have htl:(ws.take i).length=i:=by simp;omega
   rw[htl] at hsr
   (apply Br.mk<;>intro)
   ·have hlt:i<ws.length:=by omega
    have hts:=take_sum ws i hlt
    have hta:=take_any ws badW i hlt
    rw[hi2,Bool.false_or] at hta
    (repeat'((conv=>whnf);first|refine Zg fun _=>?_|refine Zn ?_|refine Zj ?_|fail))
    (apply Br.mk<;>intro)
    ·rename_i hbad
     have hany:ws.any badW=true:=by
      rw[List.any_eq_true]
      refine ⟨ws.getD i 0,by rw[List.getD_eq_getElem?_getD,List.getElem?_eq_getElem hlt];exact List.getElem_mem _,?_⟩
      simp only[badW,decide_eq_true_eq];omega
     have hE:dualE xs ws s L k=2:=by unfold dualE;rw[if_neg (by simp[hz]),if_neg (by omega),if_pos hany]
     (repeat' first|exact trivial|rfl|apply And.intro)
     ·unfold dualR;rw[hE];rfl
     ·exact hE.symm
    ·rename_i hok
     have hok':badW (ws.getD i 0)=false:=by simp only[badW,decide_eq_false_iff_not];omega
     rw[hok'] at hta
     (repeat'((conv=>whnf);first|refine Zn ?_|fail))
     refine ⟨(i+1:Nat),by show ws.length-(i+1)<ws.length-i;omega,⟨hlt,hta⟩,?_⟩
     (repeat' first|exact trivial|rfl|apply And.intro)
     exact hts.symm
   ·have hi3:i=ws.length:=by omega
    subst hi3
    rw[List.take_length] at hi2 hsr
    have hc0:=ho.c0
    have hc1:=ho.c1
    have hk0:=ho.k0
    have hmul:0≤(xs.length:Int)*(L+k+1)∧(xs.length:Int)*(L+k+1)≤64*66537:=⟨Int.mul_nonneg (by omega) (by omega),Int.mul_le_mul (by omega) (by omega) (by omega) (by omega)⟩
    (apply Br.mk<;>intro)
    ·rename_i hbad
     have hE:dualE xs ws s L k=2:=by unfold dualE;rw[if_neg (by simp[hz]),if_neg (by omega),if_neg (by simp[hi2]),if_pos hbad]
     (repeat' first|exact trivial|rfl|apply And.intro)
     ·unfold dualR;rw[hE];rfl
     ·exact hE.symm
    ·rename_i hsc
     (repeat'((conv=>whnf);first|refine Zg fun _=>?_|refine Zn ?_|fail))
     (apply Br.mk<;>intro)
     ·rename_i hwork
      have hE:dualE xs ws s L k=4:=by unfold dualE;rw[if_neg (by simp[hz]),if_neg (by omega),if_neg (by simp[hi2]),if_neg hsc,if_pos hwork]
      (repeat' first|exact trivial|rfl|apply And.intro)
      ·unfold dualR;rw[hE];rfl
      ·exact hE.symm
     ·rename_i hwork
      (repeat'((conv=>whnf);first|refine Zn ?_|fail))
      refine Need.mk ⟨by omega,by omega,by omega,?_⟩ ?_
      ·show (L+k+1)*((8:Nat):Int)≤140737488355328
       omega
      have hwm:∀w∈ws,0≤w∧w≤1048576:=fun w hw=>by
       have:=List.any_eq_false.1 hi2 w hw
       simp only[badW,decide_eq_true_eq,Classical.not_not] at this
       exact this
      refine Ask.mk ⟨an20 xs ws k (L+k),rfl,?_⟩
      (repeat'((conv=>whnf);first|refine Zn ?_|fail))
      refine ⟨⟨(0:Nat),rfl,Nat.zero_le _,by (repeat' first|exact trivial|rfl|apply And.intro)⟩,fun (i:Nat) hi (hlt:i<xs.length)=>?_,fun (i:Nat) hi (he:i=xs.length)=>?_⟩
      ·obtain ⟨h4,h5,h6⟩:=ho.el i hlt
       have h8:=ho.k1
       have hr0:=dpE_range xs k (L+k) hwm i
       have hl0:=dpE_len xs ws k (L+k) i
       have hv:=getD_mem0 (p:=fun w=>0≤w∧w≤1048576) (by omega) hwm i
       rw[show (an20 xs ws k (L+k)).mu i=i from rfl]
       (repeat'((conv=>whnf);first|refine Zg fun _=>?_|fail))
       refine Ask.mk ⟨an20b xs ws k (L+k) i,rfl,?_⟩
       (repeat'((conv=>whnf);first|refine Zn ?_|fail))
       refine ⟨⟨(L+k).toNat,⟨by omega,by omega⟩,?_⟩,fun (r:Nat) hr=>?_⟩
       ·(repeat' first|exact trivial|rfl|apply And.intro|omega)
        exact (dpAt_start _ _ _ _ (by omega)).symm
       ·obtain ⟨hr1,hr2⟩:=(show xs.getD i 0+k-1≤r∧(r:Int)≤L+k from hr)
        have hl1:=dpAt_len (dpE xs ws k (L+k) i) (xs.getD i 0+k) (ws.getD i 0) r
        have hra:=fun j=>dpAt_range (w:=xs.getD i 0+k) (r:=r) (v:=ws.getD i 0) (c:=1048576) hr0 hv.1 hv.2 (by omega) j
        (apply Br.mk<;>intro)
        ·have hst:=dpAt_step (dpE xs ws k (L+k) i) (xs.getD i 0+k) (ws.getD i 0) r (by omega) (by omega) (by omega)
         have hra1:=hra r
         have hra2:=hra ((r:Int)-(xs.getD i 0+k)).toNat
         (repeat'((conv=>whnf);first|refine Zg fun _=>?_|refine Zn ?_|refine Zj ?_|(apply Pin.mk;apply Exists.intro)|apply Pinned.mk rfl rfl|fail))
         refine ix_to ((r:Int)-(xs.getD i 0+k)).toNat (by omega) ?_
         (repeat'((conv=>whnf);first|refine Zg fun _=>?_|refine Zn ?_|refine Zj ?_|(apply Pin.mk;apply Exists.intro)|apply Pinned.mk rfl rfl|fail))
         refine ⟨(r-1:Nat),by show r-1<r;omega,⟨by omega,by omega⟩,?_⟩
         (repeat' first|exact trivial|rfl|apply And.intro)
         ·omega
         ·show List.set _ _ _= _
          rw[hst]
          congr 1
          omega
        ·have hen:=dpAt_end (dpE xs ws k (L+k) i) (xs.getD i 0+k) (ws.getD i 0) r (by omega)
         refine ⟨(i+1:Nat),rfl,hlt,?_⟩
         (repeat' first|exact trivial|rfl|apply And.intro)
         rw[hen]
         exact (dpE_succ xs ws k (L+k) i).symm
      ·have hi4:i=xs.length:=he
       subst hi4
       have hl0:=dpE_len xs ws k (L+k) xs.length
       have hdr:=(dpE_range xs k (L+k) hwm xs.length (L+k).toNat)
       (repeat'((conv=>whnf);first|refine Zn ?_|fail))
       refine ix_to (L+k).toNat (by omega) ?_
       (repeat'((conv=>whnf);first|refine Zg fun _=>?_|fail))
       (apply Br.mk<;>intro)
       ·rename_i hcert
        have hE:dualE xs ws s L k=23:=by unfold dualE;rw[if_neg (by simp[hz]),if_neg (by omega),if_neg (by simp[hi2]),if_neg hsc,if_neg hwork,if_pos hcert]
        (repeat' first|exact trivial|rfl|apply And.intro)
        ·unfold dualR;rw[hE];rfl
        ·exact hE.symm
       ·rename_i hcert
        have hE:dualE xs ws s L k=0:=by unfold dualE;rw[if_neg (by simp[hz]),if_neg (by omega),if_neg (by simp[hi2]),if_neg hsc,if_neg hwork,if_neg hcert]
        (repeat'((conv=>whnf);first|refine Zn ?_|fail))
        (repeat' first|exact trivial|rfl|apply And.intro)
        ·unfold dualR;rw[hE,if_pos rfl,List.take_length];rfl
        ·exact hE.symm
 ·rename_i hz
  have hE:dualE xs ws s L k=checkE xs L k:=by unfold dualE;rw[if_pos hz]
  (repeat'((conv=>whnf);first|refine Zl ?_|fail))
  refine Br.mkY hz ?_
  (repeat' first|exact trivial|rfl|apply And.intro)
  ·unfold dualR;rw[hE,if_neg hz]
  ·exact hE.symm
def c20:Con:=aJ 59 true fun args K=>match args with | [.seq (.int .i64) xs,.seq (.int .i64) ws,.val (.int .i64 s),.val (.int .i64 L),.val (.int .i64 k)]=>K (.tup [I (dualR xs ws s L k),I (dualE xs ws s L k)]) | _=>False
theorem k20:aG Tryz.prog c20:=by
 refine kO Tryz.func59 fun args K h=>?_
 simp only[c20] at h;split at h
 ·rename_i xs ws s L k;exact ⟨_,h,triB Tryz.func59 Tryz.ntmps59 (by simp[k24,k32,k33,k34,k41]) (b20 xs ws s L k)⟩
 ·exact h.elim
end NB
end
section
namespace IB
def valB (B:Nat):List Int→Int
 | []=>0
 | x::r=>x+B*valB B r
def InB (B:Nat) (l:List Int):Prop:=∀x∈l,0≤x∧x<B
theorem InB.nil {B:Nat}:InB B []:=fun x h=>by simp at h
theorem InB.cons {B:Nat} {x:Int} {l:List Int}:InB B (x::l)↔(0≤x∧x<B)∧InB B l:=by
 unfold InB;simp
theorem InB.append {B:Nat} {l m:List Int}:InB B (l++m)↔InB B l∧InB B m:=by
 unfold InB
 constructor
 ·intro h;exact ⟨fun x hx=>h x (List.mem_append_left _ hx),fun x hx=>h x (List.mem_append_right _ hx)⟩
 ·rintro ⟨h1,h2⟩ x hx
  rcases List.mem_append.1 hx with h | h
  ·exact h1 x h
  ·exact h2 x h
theorem InB.get {B:Nat} {l:List Int} (h:InB B l) {i:Nat} (hi:i<l.length):0≤l.getD i 0∧l.getD i 0<B:=by
 have e:l.getD i 0=l[i]:=by simp[List.getD_eq_getElem?_getD,hi]
 rw[e];exact h _ (List.getElem_mem hi)
theorem InB.getD0 {B:Nat} (hB:0<B) {l:List Int} (h:InB B l) (i:Nat):0≤l.getD i 0∧l.getD i 0<B:=by
 by_cases hi:i<l.length
 ·exact h.get hi
 ·have e:l.getD i 0=0:=by rw[List.getD_eq_getElem?_getD,List.getElem?_eq_none (by omega)];rfl
  rw[e];omega
theorem aY {B:Nat}:∀ {l:List Int},InB B l→0≤valB B l
 | [],_=>Int.le_refl _
 | x::r,h=>by
  obtain ⟨h1,h2⟩:=InB.cons.1 h
  have:=aY h2
  have:0≤(B:Int)*valB B r:=Int.mul_nonneg (by omega) this
  simp only[valB];omega
theorem kA {B:Nat}:∀ {l:List Int},InB B l→valB B l<(B:Int)^l.length
 | [],_=>by simp[valB]
 | x::r,h=>by
  obtain ⟨h1,h2⟩:=InB.cons.1 h
  have h3:=kA h2
  have h4:(B:Int)*(valB B r+1)≤B*B^r.length:=Int.mul_le_mul_of_nonneg_left (by omega) (by omega)
  rw[Int.mul_add,Int.mul_one] at h4
  simp only[valB,List.length_cons]
  rw[Int.pow_succ,Int.mul_comm (_ ^ _)]
  omega
theorem fG {B:Nat} (m:List Int):∀l:List Int,valB B (l++m)=valB B l+(B:Int)^l.length*valB B m
 | []=>by simp[valB]
 | x::r=>by
  simp only[List.cons_append,valB,List.length_cons]
  rw[fG m r,Int.mul_add,Int.pow_succ,Int.mul_comm (_ ^ _) (B:Int),Int.mul_assoc]
  omega
theorem jJ {B:Nat} (l:List Int) (x:Int):valB B (l++ [x])=valB B l+(B:Int)^l.length*x:=by
 rw[fG];simp[valB]
theorem kT {B:Nat} (n:Nat):valB B (List.replicate n 0)=0:=by
 induction n with
 | zero=>rfl
 | succ n ih=>rw[List.replicate_succ];simp[valB,ih]
def aA (B:Nat) (n:Nat):List Int:=if h:2≤B∧0<n then ((n%B:Nat):Int)::aA B (n/B) else []
termination_by n
decreasing_by exact Nat.div_lt_self h.2 (by omega)
theorem aX (B:Nat):aA B 0= []:=by rw[aA,dif_neg (by omega)]
theorem sP {B n:Nat} (hB:2≤B) (hn:0<n):aA B n=((n%B:Nat):Int)::aA B (n/B):=by rw[aA,dif_pos ⟨hB,hn⟩]
theorem aO {B:Nat} (hB:2≤B):∀n:Nat,InB B (aA B n):=by
 intro n
 induction n using Nat.strongRecOn with
 | _ n ih=>
  by_cases hn:0<n
  ·rw[sP hB hn,InB.cons]
   have:=Nat.mod_lt n (show 0<B by omega)
   exact ⟨⟨by omega,by omega⟩,ih _ (Nat.div_lt_self hn (by omega))⟩
  ·obtain rfl:n=0:=by omega
   rw[aX];exact InB.nil
theorem cG {B:Nat} (hB:2≤B):∀n:Nat,valB B (aA B n)=n:=by
 intro n
 induction n using Nat.strongRecOn with
 | _ n ih=>
  by_cases hn:0<n
  ·rw[sP hB hn]
   simp only[valB]
   rw[ih _ (Nat.div_lt_self hn (by omega))]
   have:=Nat.mod_add_div n B
   exact_mod_cast this
  ·obtain rfl:n=0:=by omega
   rw[aX];rfl
theorem gM {B n:Nat} (hB:2≤B):aA B n= []↔n=0:=by
 constructor
 ·intro h
  have:=cG hB n
  rw[h] at this
  simp[valB] at this
  omega
 ·rintro rfl;exact aX B
theorem xT {B:Nat} (hB:2≤B):∀ {l:List Int},InB B l→(∀h:l≠ [],l.getLast h≠0)→l=aA B (valB B l).toNat
 | [],_,_=>by simp[valB,aX]
 | x::r,h,hl=>by
  obtain ⟨h1,h2⟩:=InB.cons.1 h
  obtain ⟨a,rfl⟩:=Int.eq_ofNat_of_zero_le h1.1
  have ha:a<B:=by omega
  have hv:=aY h2
  obtain ⟨b,hb⟩:=Int.eq_ofNat_of_zero_le hv
  have e:(valB B ((a:Int)::r)).toNat=a+B*b:=by
   simp only[valB];rw[hb]
   have:(a:Int)+(B:Int)*(b:Int)=((a+B*b:Nat):Int):=by simp
   show ((a:Int)+(B:Int)*(b:Int)).toNat= _
   rw[this];exact Int.toNat_natCast _
  rw[e]
  have hpos:0<a+B*b:=by
   cases r with
   | nil=>
    have:=hl (by simp)
    simp at this
    omega
   | cons y s=>
    have ih:=xT hB h2 (fun hne=>by have:=hl (by simp);simpa using this)
    have:b≠0:=fun h0=>by
     subst h0
     rw[hb] at ih
     rw[Int.toNat_natCast,aX] at ih;cases ih
    have:=Nat.mul_pos (show 0<B by omega) (Nat.pos_of_ne_zero this)
    omega
  rw[sP hB hpos]
  have e1:(a+B*b)%B=a:=by rw[Nat.add_mul_mod_self_left,Nat.mod_eq_of_lt ha]
  have e2:(a+B*b)/B=b:=by rw[Nat.add_mul_div_left _ _ (by omega),Nat.div_eq_of_lt ha,Nat.zero_add]
  rw[e1,e2]
  have ih:=xT hB h2 (fun hne=>by
   have:=hl (by simp)
   rw[List.getLast_cons hne] at this
   exact this)
  rw[hb] at ih
  rw[Int.toNat_natCast] at ih
  rw[← ih]
def bQ (l:List Int):List Int:=(l.reverse.dropWhile (· ==0)).reverse
theorem dA (l:List Int):bQ (l++ [0])=bQ l:=by simp[bQ]
theorem iU (l:List Int) (x:Int) (h:x≠0):bQ (l++ [x])=l++ [x]:=by simp[bQ,h]
theorem sQ (P:List Int→Prop) (h0:P []) (h1:∀l x,P l→P (l++ [x])) (l:List Int):P l:=by
 have:∀n (l:List Int),l.length=n→P l:=by
  intro n
  induction n with
  | zero=>intro l hl;rw[List.length_eq_zero_iff.1 hl];exact h0
  | succ n ih=>
   intro l hl
   have hne:l≠ []:=fun e=>by rw[e] at hl;simp at hl
   rw[← List.dropLast_concat_getLast hne]
   exact h1 _ _ (ih _ (by simp[hl]))
 exact this _ l rfl
theorem aOh {B:Nat} {l:List Int}:InB B l→InB B (bQ l):=by
 refine sQ (fun l=>InB B l→InB B (bQ l)) (fun h=>h) (fun l x ih h=>?_) l
 obtain ⟨h1,h2⟩:=InB.append.1 h
 by_cases e:x=0
 ·subst e;rw[dA];exact ih h1
 ·rw[iU _ _ e];exact h
theorem aMd {B:Nat} (l:List Int):valB B (bQ l)=valB B l:=by
 refine sQ (fun l=>valB B (bQ l)=valB B l) rfl (fun l x ih=>?_) l
 by_cases e:x=0
 ·subst e;rw[dA,jJ,ih];simp
 ·rw[iU _ _ e]
theorem aA3 (l:List Int):∀h:bQ l≠ [],(bQ l).getLast h≠0:=by
 refine sQ (fun l=>∀h:bQ l≠ [],(bQ l).getLast h≠0) (fun h=>(h rfl).elim) (fun l x ih=>?_) l
 by_cases e:x=0
 ·subst e;simp only[dA];exact ih
 ·intro h;simp only[iU _ _ e];simp[e]
theorem cH {B:Nat} (hB:2≤B) {l:List Int} (h:InB B l):bQ l=aA B (valB B l).toNat:=by
 rw[← aMd l]
 exact xT hB (aOh h) (aA3 l)
theorem mC {B:Nat} (hB:2≤B) (n:Nat):∀h:aA B n≠ [],(aA B n).getLast h≠0:=by
 have h1:=cH hB (aO hB n)
 rw[cG hB,Int.toNat_natCast] at h1
 rw[← h1];exact aA3 _
end IB
end
section
namespace IB
def valN (B:Nat) (l:List Int):Nat→Int
 | 0=>0
 | k+1=>valN B l k+(B:Int)^k*l.getD k 0
theorem iV (B:Nat) (l:List Int):∀k,k≤l.length→valN B l k=valB B (l.take k)
 | 0,_=>by simp[valN,valB]
 | k+1,h=>by
  have e:l.getD k 0=l[k]:=by simp[List.getD_eq_getElem?_getD,show k<l.length by omega]
  rw[valN,iV B l k (by omega),List.take_succ_eq_append_getElem (show k<l.length by omega),jJ,e,List.length_take,Nat.min_eq_left (by omega)]
theorem fW (B:Nat) (l:List Int):∀k,l.length≤k→valN B l k=valB B l
 | 0,h=>by
  have:l= []:=List.length_eq_zero_iff.1 (by omega)
  subst this;rfl
 | k+1,h=>by
  by_cases e:l.length=k+1
  ·rw[iV B l (k+1) (by omega),List.take_of_length_le (by omega)]
  ·have e2:l.getD k 0=0:=by rw[List.getD_eq_getElem?_getD,List.getElem?_eq_none (by omega)];rfl
   rw[valN,e2,fW B l k (by omega)];simp
def addK (B:Nat) (a b:List Int):Nat→List Int × Int
 | 0=>([],0)
 | k+1=>((addK B a b k).1++ [(a.getD k 0+b.getD k 0+(addK B a b k).2)%B],(a.getD k 0+b.getD k 0+(addK B a b k).2)/B)
def subK (B:Nat) (a b:List Int):Nat→List Int × Int
 | 0=>([],0)
 | k+1=>((subK B a b k).1++ [if 0≤a.getD k 0-b.getD k 0-(subK B a b k).2 then a.getD k 0-b.getD k 0-(subK B a b k).2 else a.getD k 0-b.getD k 0-(subK B a b k).2+B],
   if 0≤a.getD k 0-b.getD k 0-(subK B a b k).2 then 0 else 1)
theorem dB {B:Nat} (hB:2≤B) (k:Nat):0<(B:Int)^k:=Int.pow_pos (by omega)
theorem sR {B:Nat} (hB:2≤B) {a b:List Int} (ha:InB B a) (hb:InB B b):∀k,(addK B a b k).1.length=k∧InB B (addK B a b k).1∧(0≤(addK B a b k).2∧(addK B a b k).2≤1)∧
  valB B (addK B a b k).1+(B:Int)^k*(addK B a b k).2=valN B a k+valN B b k
 | 0=>⟨rfl,InB.nil,by simp[addK],by simp[addK,valB,valN]⟩
 | k+1=>by
  obtain ⟨h1,h2,h3,h4⟩:=sR hB ha hb k
  have g1:=ha.getD0 (by omega) k
  have g2:=hb.getD0 (by omega) k
  simp only[addK]
  generalize (addK B a b k).1=o at h1 h2 h4 ⊢
  generalize (addK B a b k).2=c at h3 h4 ⊢
  have hm:=Int.emod_nonneg (a.getD k 0+b.getD k 0+c) (show (B:Int)≠0 by omega)
  have hm2:=Int.emod_lt_of_pos (a.getD k 0+b.getD k 0+c) (show 0<(B:Int) by omega)
  have hd:=Int.emod_add_mul_ediv (a.getD k 0+b.getD k 0+c) B
  have hd0:0≤(a.getD k 0+b.getD k 0+c)/B:=Int.ediv_nonneg (by omega) (by omega)
  have hd1:(a.getD k 0+b.getD k 0+c)/B<2:=Int.ediv_lt_of_lt_mul (by omega) (by omega)
  refine ⟨by simp[h1],InB.append.2 ⟨h2,InB.cons.2 ⟨⟨hm,hm2⟩,InB.nil⟩⟩,⟨hd0,by omega⟩,?_⟩
  rw[jJ,h1,valN,valN,Int.pow_succ,Int.mul_assoc]
  have e:(B:Int)^k*((a.getD k 0+b.getD k 0+c)%B)+(B:Int)^k*((B:Int)*((a.getD k 0+b.getD k 0+c)/B))=(B:Int)^k*a.getD k 0+(B:Int)^k*b.getD k 0+(B:Int)^k*c:=by
   rw[← Int.mul_add,hd,Int.mul_add,Int.mul_add]
  omega
theorem oL {B:Nat} (hB:2≤B) {a b:List Int} (ha:InB B a) (hb:InB B b):∀k,(subK B a b k).1.length=k∧InB B (subK B a b k).1∧(0≤(subK B a b k).2∧(subK B a b k).2≤1)∧
  valB B (subK B a b k).1-(B:Int)^k*(subK B a b k).2=valN B a k-valN B b k
 | 0=>⟨rfl,InB.nil,by simp[subK],by simp[subK,valB,valN]⟩
 | k+1=>by
  obtain ⟨h1,h2,h3,h4⟩:=oL hB ha hb k
  have g1:=ha.getD0 (by omega) k
  have g2:=hb.getD0 (by omega) k
  simp only[subK]
  generalize (subK B a b k).1=o at h1 h2 h4 ⊢
  generalize (subK B a b k).2=c at h3 h4 ⊢
  by_cases hn:0≤a.getD k 0-b.getD k 0-c
  ·rw[if_pos hn,if_pos hn]
   refine ⟨by simp[h1],InB.append.2 ⟨h2,InB.cons.2 ⟨⟨hn,by omega⟩,InB.nil⟩⟩,by omega,?_⟩
   rw[jJ,h1,valN,valN,Int.mul_sub,Int.mul_sub]
   omega
  ·rw[if_neg hn,if_neg hn]
   refine ⟨by simp[h1],InB.append.2 ⟨h2,InB.cons.2 ⟨⟨by omega,by omega⟩,InB.nil⟩⟩,by omega,?_⟩
   rw[jJ,h1,valN,valN,Int.mul_add,Int.mul_sub,Int.mul_sub,Int.pow_succ]
   omega
theorem cR {B:Nat} (hB:2≤B) {m n:Nat} (h:m≤n):(B:Int)^m≤(B:Int)^n:=by
 have:B^m≤B^n:=Nat.pow_le_pow_right (by omega) h
 exact_mod_cast this
theorem gP {B:Nat} (hB:2≤B) {l:List Int} (h:InB B l) {n:Nat} (hn:l.length≤n):valB B l<(B:Int)^n:=Int.lt_of_lt_of_le (kA h) (cR hB hn)
theorem aMe {B:Nat} (hB:2≤B) {a b:List Int} (ha:InB B a) (hb:InB B b) {n:Nat} (h1:a.length≤n) (h2:b.length≤n):bQ (addK B a b (n+1)).1=aA B (valB B a+valB B b).toNat:=by
 obtain ⟨l1,l2,l3,l4⟩:=sR hB ha hb (n+1)
 rw[fW _ _ _ (by omega),fW _ _ _ (by omega)] at l4
 have v1:=gP hB ha h1
 have v2:=gP hB hb h2
 have v3:=aY l2
 have hc:(addK B a b (n+1)).2=0:=by
  by_cases e:(addK B a b (n+1)).2=0
  ·exact e
  ·have e1:(addK B a b (n+1)).2=1:=by omega
   rw[e1,Int.mul_one,Int.pow_succ] at l4
   have:(B:Int)^n*2≤(B:Int)^n*B:=Int.mul_le_mul_of_nonneg_left (by omega) (Int.le_of_lt (dB hB n))
   omega
 rw[hc,Int.mul_zero,Int.add_zero] at l4
 rw[cH hB l2,l4]
theorem aFf {B:Nat} (hB:2≤B) {a b:List Int} (ha:InB B a) (hb:InB B b) {n:Nat} (h1:a.length≤n) (h2:b.length≤n) (hle:valB B b≤valB B a):bQ (subK B a b n).1=aA B (valB B a-valB B b).toNat∧(subK B a b n).2=0:=by
 obtain ⟨l1,l2,l3,l4⟩:=oL hB ha hb n
 rw[fW _ _ _ h1,fW _ _ _ h2] at l4
 have v3:=kA l2
 rw[l1] at v3
 have hc:(subK B a b n).2=0:=by
  by_cases e:(subK B a b n).2=0
  ·exact e
  ·have e1:(subK B a b n).2=1:=by omega
   rw[e1,Int.mul_one] at l4
   omega
 rw[hc,Int.mul_zero,Int.sub_zero] at l4
 exact ⟨by rw[cH hB l2,l4],hc⟩
end IB
end

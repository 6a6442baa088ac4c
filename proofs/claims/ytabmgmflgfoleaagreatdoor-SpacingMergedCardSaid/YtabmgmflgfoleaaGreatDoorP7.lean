/-
  Part 7: a symbolic executor over the model, contracts of functions and plain laws.
-/
import Derived.Test.YtabmgmflgfoleaaGreatDoorP6
import Init.Data.Rat
section
open Go Go.Proofs Go.Eng Go.Shelf IB Go.Lib Go.RowKit
namespace RB
set_option maxRecDepth 10000
set_option linter.unusedVariables false
set_option linter.unusedSimpArgs false
noncomputable def stS (l:List (List UInt8)):Nat→List UInt8
 | 0=>[48]
 | k+1=>(addQ (stS l k) (l.getD k [])).1
noncomputable def cntS:List UInt8→List (List UInt8)→Nat
 | _,[]=>0
 | s,a::r=>if (addQ s a).2≠0 then 1 else cntS (addQ s a).1 r+1
noncomputable abbrev nS (l:List (List UInt8)):Nat:=cntS [48] l
noncomputable abbrev aLa (l:List (List UInt8)) (k:Nat):List SV:=[S (addQ (stS l k) (l.getD k [])).1,I (addQ (stS l k) (l.getD k [])).2]
theorem b66 (l:List (List UInt8)):body Tryz.prog [] {} false Tryz.f102 [.seq .str l] (.clo 159 [] [.lelem [.seq .str l] 0]):=by
 skip
 (conv=>whnf)
 (repeat'(first|exact trivial|rfl|refine And.intro ?_ ?_|fail))
def c66:Con:=aL 102 false fun args K=>match args with | [.seq .str l]=>K (.clo 159 [] [.lelem [.seq .str l] 0]) | _=>False
theorem k66:aH Tryz.prog c66:=by
 refine aE rfl (enters_of Tryz.func102 (by kernel_rfl) rfl) ?_
 intro args K h
 simp only[c66] at h
 split at h
 ·rename_i l;exact ⟨_,h,aC (Γ:=[]) (by simp) Tryz.func102 (by simp[Tryz.ntmps102]) rfl (b66 l)⟩
 ·exact h.elim
theorem zE {l:List (List UInt8)} {i:Nat} (hi:i<l.length):cntS (stS l i) (l.drop i)=if (addQ (stS l i) (l.getD i [])).2≠0 then 1 else cntS (stS l (i+1)) (l.drop (i+1))+1:=by
 rw[jK hi];rfl
theorem b102 (l:List (List UInt8)):tZ Tryz.prog [c17] { asks:=[(0,[])] } Tryz.f159 [.lelem [.seq .str l] 0] (nS l) (aLa l):=by
 (repeat'((conv=>whnf);first|refine Zg fun _=>?_|fail))
 refine Ask.mk ⟨{ X:=Nat,pre:=fun i=>i≤l.length∧i+cntS (stS l i) (l.drop i)=nS l,mod:=fun i _=>[(3,S (stS l i)),(9,I i)],heap:=fun i _=>[.yst (some i) (nS l) (aLa l)],mu:=fun i=>l.length-i },rfl,?_⟩
 (repeat'((conv=>whnf);first|refine Zn ?_|fail))
 refine ⟨⟨(0:Nat),⟨Nat.zero_le _,by rw[List.drop_zero,Nat.zero_add];rfl⟩,by (repeat'(first|exact trivial|rfl|refine And.intro ?_ ?_|fail))⟩,fun (i:Nat) hi=>?_⟩
 obtain ⟨hi1,hi2⟩:=hi
 skip
 (refine Br.mk (fun _=>?_) (fun _=>?_))
 ·have hlt:i<l.length:=by omega
  rw[zE hlt] at hi2
  have hlt2:i<nS l:=by
   split at hi2<;>omega
  (repeat'((conv=>whnf);first|refine Zn ?_|refine Zj ?_|fail))
  refine Need.mk (by (repeat'(first|exact trivial|rfl|refine And.intro ?_ ?_|fail))) ?_
  refine Two.mk ?_ ?_
  ·skip
   by_cases hk:(addQ (stS l i) (l.getD i [])).2=0
   ·rw[if_neg (fun h=>h hk)] at hi2
    refine Br.mkN (fun h=>h hk) ?_
    (repeat'((conv=>whnf);first|refine Zn ?_|fail))
    refine ⟨(i+1:Nat),by show l.length-(i+1)<l.length-i;omega,⟨hlt,by omega⟩,?_⟩
    (repeat'(first|exact trivial|rfl|refine And.intro ?_ ?_|fail))
   ·rw[if_pos hk] at hi2
    refine Br.mkY hk ?_
    skip
    (conv=>whnf)
    omega
  ·skip
   (conv=>whnf)
   trivial
 ·have e:i=l.length:=by omega
  subst e
  rw[List.drop_eq_nil_of_le (Nat.le_refl _)] at hi2
  skip
  (conv=>whnf)
  have:cntS (stS l l.length) []=0:=rfl
  omega
def c102:Con:=aL 159 false fun args K=>match args with | [.lelem [.seq .str l] 0]=>K (.itr (nS l) (aLa l)) | _=>False
theorem k102:aH Tryz.prog c102:=by
 refine aE rfl (enters_of Tryz.func159 (by kernel_rfl) rfl) ?_
 intro args K h
 simp only[c102] at h
 split at h
 ·rename_i l;exact ⟨_,h,gR (Γ:=[c17]) (by simp[k17]) Tryz.func159 (by simp[Tryz.ntmps159]) (b102 l)⟩
 ·exact h.elim
theorem aBt:∀ {l:List (List UInt8)},chkL l=0→∀k,k<l.length→chkQ (l.getD k [])=0
 | [],_,k,hk=>by simp at hk
 | a::r,h,k,hk=>by
  unfold chkL at h
  split at h
  ·rename_i h1;exact absurd h h1
  ·rename_i h1
   cases k with
   | zero=>exact Classical.not_not.1 h1
   | succ k=>exact aBt h k (by simpa using hk)
set_option maxHeartbeats 2000000 in
theorem b27 (l:List (List UInt8)):body Tryz.prog [c21,c66,c102] { asks:=[(0,[]),(2,[])] } true Tryz.f37 [.seq .str l] (.tup [S (sumQ l).1,I (sumQ l).2]):=by
 by_cases hl:4096<l.length
 ·have e:sumQ l=([],4):=by unfold sumQ;rw[if_pos hl]
  rw[e]
  (repeat'((conv=>whnf);first|refine Zg fun _=>?_|refine Zy ?_|fail))
  (conv=>whnf)
  (repeat'(first|exact trivial|rfl|refine And.intro ?_ ?_|fail))
 ·have e0:sumQ l=if chkL l≠0 then ([],chkL l) else sumR [48] l:=by unfold sumQ;rw[if_neg hl]
  (repeat'((conv=>whnf);first|refine Zg fun _=>?_|refine Zm ?_|fail))
  refine Ask.mk ⟨{ X:=Nat,pre:=fun i=>i≤l.length∧chkL (l.drop i)=chkL l,mod:=fun i _=>[(15,I i)],heap:=fun i H=>H,mu:=fun i=>l.length-i },rfl,?_⟩
  (repeat'((conv=>whnf);first|refine Zn ?_|fail))
  refine ⟨⟨(0:Nat),⟨Nat.zero_le _,by rw[List.drop_zero]⟩,?_⟩,fun (i:Nat) hi=>?_⟩
  ·(repeat'(first|exact trivial|rfl|refine And.intro ?_ ?_|fail))
  obtain ⟨hi,hc⟩:=hi
  by_cases hlt:i<l.length
  ·rw[jK hlt] at hc
   by_cases hk:chkQ (l.getD i [])=0
   ·(repeat'((conv=>whnf);first|refine Zn ?_|refine Zj ?_|refine Zy ?_|refine Zm ?_|fail))
    refine ⟨(i+1:Nat),by show l.length-(i+1)<l.length-i;omega,⟨hlt,?_⟩,?_⟩
    ·rw[← hc]
     show _=if chkQ (l.getD i [])≠0 then _ else _
     rw[if_neg (fun h=>h hk)]
    ·(repeat'(first|exact trivial|rfl|refine And.intro ?_ ?_|fail))
   ·have ec:chkL l=chkQ (l.getD i []):=by
     rw[← hc]
     show (if chkQ (l.getD i [])≠0 then _ else _)= _
     rw[if_pos hk]
    rw[ec,if_pos hk] at e0
    rw[e0]
    (repeat'((conv=>whnf);first|refine Zn ?_|refine Zj ?_|refine Zy ?_|fail))
    (conv=>whnf)
    (repeat'(first|exact trivial|rfl|refine And.intro ?_ ?_|fail))
  ·have e:i=l.length:=by omega
   subst e
   have ec:chkL l=0:=by rw[← hc,List.drop_eq_nil_of_le (Nat.le_refl _)];rfl
   have hall:∀k,k<l.length→chkQ (l.getD k [])=0:=aBt ec
   rw[ec,if_neg (by simp)] at e0
   (repeat'((conv=>whnf);first|refine Zm ?_|fail))
   refine Ask.mk ⟨{ X:=Nat,pre:=fun i=>i≤l.length∧i+cntS (stS l i) (l.drop i)=nS l∧sumR (stS l i) (l.drop i)=sumR [48] l,mod:=fun _ _=>[],heap:=fun i H=>[hget H 0,hget H 1,.cells [S (stS l i)] 22],mu:=fun i=>i },rfl,?_⟩
   (repeat'((conv=>whnf);first|refine Zn ?_|fail))
   refine ⟨⟨(0:Nat),rfl,⟨Nat.zero_le _,by rw[List.drop_zero,Nat.zero_add];rfl,by rw[List.drop_zero];rfl⟩,by (repeat'(first|exact trivial|rfl|refine And.intro ?_ ?_|fail))⟩,fun (i:Nat) hi (hlt:i<nS l)=>?_,fun (i:Nat) hi (he:i=nS l)=>?_⟩
   ·obtain ⟨hi1,hi2,hi3⟩:=hi
    have hli:i<l.length:=by
     refine Nat.lt_of_not_le fun h=>?_
     have e:i=l.length:=by omega
     rw[e,List.drop_eq_nil_of_le (Nat.le_refl _)] at hi2
     have:cntS (stS l l.length) []=0:=rfl
     omega
    rw[zE hli] at hi2
    rw[jK hli] at hi3
    have hi3:(if (addQ (stS l i) (l.getD i [])).2≠0 then ([],(addQ (stS l i) (l.getD i [])).2) else sumR (stS l (i+1)) (l.drop (i+1)))=sumR [48] l:=hi3
    show hnfL (aLa l i) _
    by_cases hk:(addQ (stS l i) (l.getD i [])).2=0
    ·rw[if_neg (fun h=>h hk)] at hi2 hi3
     (repeat'((conv=>whnf);first|refine Zg fun _=>?_|fail))
     refine Br.mkN (fun h=>h hk) ?_
     skip
     refine ⟨(i+1:Nat),rfl,⟨hli,by omega,hi3⟩,by (repeat'(first|exact trivial|rfl|refine And.intro ?_ ?_|fail))⟩
    ·rw[if_pos hk] at hi3
     rw[e0,← hi3]
     (repeat'((conv=>whnf);first|refine Zg fun _=>?_|fail))
     refine Br.mkY hk ?_
     skip
     (conv=>whnf)
     (repeat'(first|exact trivial|rfl|refine And.intro ?_ ?_|fail))
   ·obtain ⟨hi1,hi2,hi3⟩:=hi
    have hc0:cntS (stS l i) (l.drop i)=0:=by omega
    have hli:i=l.length:=by
     refine Nat.le_antisymm hi1 (Nat.le_of_not_lt fun h=>?_)
     rw[zE h] at hc0
     split at hc0<;>omega
    rw[hli,List.drop_eq_nil_of_le (Nat.le_refl _)] at hi3
    have hi3:(stS l l.length,(0:Int))=sumR [48] l:=hi3
    rw[e0,← hi3,← hli]
    skip
    (conv=>whnf)
    (repeat'(first|exact trivial|rfl|refine And.intro ?_ ?_|fail))
def c27:Con:=aL 37 true fun args K=>match args with | [.seq .str l]=>K (.tup [S (sumQ l).1,I (sumQ l).2]) | _=>False
theorem k27:aH Tryz.prog c27:=by
 refine aE rfl (enters_of Tryz.func37 (by kernel_rfl) rfl) ?_
 intro args K h
 simp only[c27] at h
 split at h
 ·rename_i l;exact ⟨_,h,aC (Γ:=[c21,c66,c102]) (by simp[k21,k66,k102]) Tryz.func37 (by simp[Tryz.ntmps37]) rfl (b27 l)⟩
 ·exact h.elim
theorem b75 (n:Int) (h:0≤n∧n≤1000000):aI7 Tryz.prog [] {} Tryz.f105 [.val (.slice none 0 0),I n] (.ref 0 1) .str [] 22:=by
 skip
 (refine Br.mk (fun _=>?_) (fun _=>?_))
 ·omega
 ·(repeat'((conv=>whnf);first|refine Zn ?_|fail))
  (refine Br.mk (fun _=>?_) (fun _=>?_))
  ·(repeat'((conv=>whnf);first|refine Zn ?_|fail))
   (conv=>whnf)
   (repeat'(first|rfl|refine And.intro ?_ ?_|fail))
  ·skip
   (conv=>whnf)
   (repeat'(first|rfl|refine And.intro ?_ ?_|fail))
def c75:Con:=aGx 105 fun args K=>match args with | [.val (.slice none 0 0),.val (.int .i64 n)]=>Need (0≤n∧n≤1000000) (K (.ref 0 1) (.vec 1 (.str) ([]) 22)) | _=>False
theorem k75:aH Tryz.prog c75:=by
 refine aEw (enters_of Tryz.func105 (by kernel_rfl) rfl) ?_
 intro args K h
 split at h
 ·rename_i n;exact ⟨_,_,_,_,_,h.go,fun hfl=>mJ (Γ:=[]) (by simp) Tryz.func105 (by simp[Tryz.ntmps105]) hfl (b75 n h.ok)⟩
 ·exact h.elim
theorem aBu (xss:List (List (List UInt8))) (i:Nat):(xss.take (i+1)).flatten=(xss.take i).flatten++xss.getD i []:=by
 rw[List.take_add_one,List.flatten_append,List.getD_eq_getElem?_getD]
 cases xss[i]? <;>simp
theorem zF (xss:List (List (List UInt8))) (i:Nat):(xss.take i).flatten.length≤xss.flatten.length:=by
 have:xss.flatten=(xss.take i).flatten++(xss.drop i).flatten:=by rw[← List.flatten_append,List.take_append_drop]
 rw[this,List.length_append];omega
def lsum (xss:List (List (List UInt8))) (i:Nat):Int:=((xss.take i).flatten.length:Nat)
theorem b34 (xss:List (List (List UInt8))) (h:xss.flatten.length≤1000000∧xss.length≤1000):body Tryz.prog [c75] { asks:=[(0,[]),(2,[1])] } true Tryz.f42 [.seq (.slice .str) xss] (.seq .str xss.flatten):=by
 have h2:=h.2
 have h:=h.1
 (repeat'((conv=>whnf);first|refine Zg fun _=>?_|fail))
 refine Ask.mk ⟨{ X:=Nat,pre:=fun i=>i≤xss.length,mod:=fun i _=>[(3,I (lsum xss i)),(11,I i)],mu:=fun i=>xss.length-i },rfl,?_⟩
 (repeat'((conv=>whnf);first|refine Zn ?_|fail))
 refine ⟨⟨(0:Nat),Nat.zero_le _,?_⟩,fun (i:Nat) (hi:i≤xss.length)=>?_⟩
 ·(repeat'(first|exact trivial|rfl|refine And.intro ?_ ?_|fail))
 ·have hs:lsum xss (i+1)=lsum xss i+(xss.getD i []).length:=by
   unfold lsum;rw[aBu,List.length_append];omega
  have hs0:0≤lsum xss i∧lsum xss i≤1000000:=by
   have:=zF xss i
   unfold lsum;omega
  have hs1:0≤lsum xss (i+1)∧lsum xss (i+1)≤1000000:=by
   have:=zF xss (i+1)
   unfold lsum;omega
  skip
  (refine Br.mk (fun _=>?_) (fun _=>?_))
  ·(repeat'((conv=>whnf);first|refine Zg fun _=>?_|refine Zn ?_|refine Zj ?_|fail))
   (refine Br.mk (fun _=>?_) (fun _=>?_))
   ·rename_i hneg
    exfalso
    have:lsum xss i+((xss.getD i []).length:Int)<0:=hneg
    omega
   ·(repeat'((conv=>whnf);first|refine Zn ?_|fail))
    refine ⟨(i+1:Nat),?_,?_,?_⟩
    ·show xss.length-(i+1)<xss.length-i
     omega
    ·show i+1≤xss.length
     omega
    ·(repeat'(first|exact trivial|rfl|refine And.intro ?_ ?_|omega|fail))
  ·have hii:i=xss.length:=by omega
   subst hii
   (repeat'((conv=>whnf);first|refine Zg fun _=>?_|refine Zn ?_|fail))
   refine Ask.mk ⟨{ X:=Nat,pre:=fun i=>i≤xss.length,mod:=fun i _=>[(6,.ref 1 1),(27,I i)],objs:=[1],heap:=fun i _=>[.vec 1 .str [] 22,.vec 1 .str (xss.take i).flatten 22],mu:=fun i=>xss.length-i },rfl,?_⟩
   (repeat'((conv=>whnf);first|refine Zn ?_|fail))
   refine ⟨⟨(0:Nat),Nat.zero_le _,?_⟩,fun (i:Nat) (hi:i≤xss.length)=>?_⟩
   ·(repeat'(first|exact trivial|rfl|exact Nat.one_pos|refine And.intro ?_ ?_|fail))
   ·have hs2:(xss.take (i+1)).flatten=(xss.take i).flatten++xss.getD i []:=aBu xss i
    have hs3:(xss.take i).flatten.length+(xss.getD i []).length≤1000000:=by
     have:=zF xss (i+1)
     rw[hs2,List.length_append] at this;omega
    skip
    (refine Br.mk (fun _=>?_) (fun _=>?_))
    ·(repeat'((conv=>whnf);first|refine Zg fun _=>?_|refine Zn ?_|refine Zj ?_|fail))
     refine ⟨(i+1:Nat),?_,?_,?_⟩
     ·show xss.length-(i+1)<xss.length-i
      omega
     ·show i+1≤xss.length
      omega
     ·(repeat'(first|exact trivial|rfl|exact Nat.one_pos|refine And.intro ?_ ?_|fail))
      exact hs2.symm
    ·skip
     (conv=>whnf)
     skip
     rw[List.take_of_length_le (by omega)]
     skip
def c34:Con:=aL 42 true fun args K=>match args with | [.seq (.slice .str) xss]=>Need (xss.flatten.length≤1000000∧xss.length≤1000) (K (.seq .str xss.flatten)) | _=>False
theorem k34:aH Tryz.prog c34:=by
 refine aE rfl (enters_of Tryz.func42 (by kernel_rfl) rfl) ?_
 intro args K h
 simp only[c34] at h
 split at h
 ·rename_i xss;exact ⟨_,h.go,aC (Γ:=[c75]) (by simp[k75]) Tryz.func42 (by simp[Tryz.ntmps42]) rfl (b34 xss h.ok)⟩
 ·exact h.elim
theorem pO {a:List UInt8} {k:Nat} (h1:a.length≤k) (h2:chkQ a=0) (hk:0<k):a=numS (valQ a)∧Sz k (valQ a):=by
 obtain ⟨e,h3,h4⟩:=rX h2
 refine ⟨e,?_,?_⟩
 ·refine fP ?_
  rw[e] at h1
  unfold numS at h1
  have h5:(decDigits (valQ a).num.natAbs).length≤(itoa (valQ a).num).length:=by
   unfold itoa
   split
   ·simp
   ·rw[show (valQ a).num.toNat=(valQ a).num.natAbs by omega];exact Nat.le_refl _
  split at h1
  ·omega
  ·simp at h1;omega
 ·rw[e] at h1
  unfold numS at h1
  split at h1
  ·rename_i e1
   rw[e1];exact Nat.one_lt_pow (by omega) (by decide)
  ·refine fP ?_
   simp at h1;omega
theorem aPt {l:List (List UInt8)} (h:∀a∈l,chkQ a=0):chkL l=0:=by
 induction l with
 | nil=>rfl
 | cons a r ih=>
  unfold chkL
  rw[if_neg (fun hn=>hn (h a (List.mem_cons_self ..)))]
  exact ih fun b hb=>h b (List.mem_cons_of_mem _ hb)
end RB
end
section
set_option linter.unusedVariables false
namespace RB
section
variable {ax ay az bx by' bz cx cy cz P Q R:Rat}
end
end RB
end
section
open Go Go.Proofs Go.Eng Go.Shelf IB Go.Lib Go.RowKit
namespace RB
set_option maxRecDepth 10000
set_option linter.unusedVariables false
set_option linter.unusedSimpArgs false
def d36 (q:Rat):Prop:=(decDigits q.num.natAbs).length≤36∧(decDigits q.den).length≤36
instance (q:Rat):Decidable (d36 q):=inferInstanceAs (Decidable (_∧ _))
noncomputable def chkP (a:List UInt8):Int:=if chkQ a≠0 then chkQ a else if d36 (valQ a) then 0 else 4
def badP (l:List (List UInt8)):Prop:=∃a∈l,chkP a≠0
noncomputable instance (l:List (List UInt8)):Decidable (badP l):=Classical.propDecidable _
section
variable {p q r:Rat} {i j k:Nat}
end
noncomputable def hgt (a b c x y:List UInt8):Rat:=valQ a*valQ x+valQ b*valQ y+valQ c
set_option linter.unusedSimpArgs false
section
variable (p:List UInt8→Prop) [DecidablePred p]
def ixD (l:List (List UInt8)):Int:=if l.findIdx (fun s=>decide (p s))<l.length then (l.findIdx (fun s=>decide (p s)):Int) else -1
theorem aDk {l:List (List UInt8)} {i:Nat} (hi:i<l.length) (hb:p (l.getD i [])) (h:∀j,j<i→¬p (l.getD j [])):ixD p l=i:=by
 have e:l.findIdx (fun s=>decide (p s))=i:=by
  rw[List.findIdx_eq hi]
  refine ⟨by simpa [List.getD_eq_getElem?_getD,hi] using hb,fun j hj=>?_⟩
  have:=h j hj
  simpa [List.getD_eq_getElem?_getD,show j<l.length by omega] using this
 unfold ixD
 rw[e,if_pos hi]
theorem yF {l:List (List UInt8)} (h:∀j,j<l.length→¬p (l.getD j [])):ixD p l= -1:=by
 unfold ixD
 rw[if_neg]
 intro hlt
 have h1:=List.findIdx_getElem (w:=hlt)
 have h2:=h _ hlt
 simp only[decide_eq_true_eq] at h1
 apply h2
 simpa [List.getD_eq_getElem?_getD,hlt] using h1
theorem sB (l:List (List UInt8)):0≤ixD p l↔∃a∈l,p a:=by
 constructor
 ·intro h
  refine Classical.byContradiction fun hn=>?_
  rw[yF p (fun j hj hp=>hn ⟨_,by rw[List.getD_eq_getElem?_getD,List.getElem?_eq_getElem hj];exact List.getElem_mem hj,hp⟩)] at h
  omega
 ·rintro ⟨a,ha,hp⟩
  unfold ixD
  have:l.findIdx (fun s=>decide (p s))<l.length:=List.findIdx_lt_length_of_exists ⟨a,ha,by simpa using hp⟩
  rw[if_pos this]
  omega
end
def badS (s:List UInt8):Prop:=12<s.length∨chkQ s≠0
noncomputable instance (s:List UInt8):Decidable (badS s):=Classical.propDecidable _
noncomputable instance:DecidablePred badS:=fun s=>Classical.propDecidable _
def notP (s:List UInt8):Prop:=chkP s≠0
noncomputable instance:DecidablePred notP:=fun s=>Classical.propDecidable _
def aSq (l:List (List UInt8)):Prop:=∀a∈l,a.length≤12∧chkQ a=0
noncomputable instance (l:List (List UInt8)):Decidable (aSq l):=Classical.propDecidable _
theorem Sz.up {k:Nat} {q:Rat} (h:Sz 12 q) (hk:12≤k):Sz k q:=h.mono hk
theorem aQs {p q:Rat} {k:Nat} (h1:(p.num*q.den).natAbs<10^k) (h2:(q.num*p.den).natAbs<10^k) (h0:q≠0):Sz k (p/q):=by
 have hq:q.num≠0:=fun h=>h0 (Rat.num_eq_zero.1 h)
 have hp:(0:Int)<p.den:=by have:=p.den_pos;omega
 rw[tA p q h0]
 rcases Int.lt_or_lt_of_ne hq with h | h
 ·have hd:(p.den:Int)*q.num<0:=Int.mul_neg_of_pos_of_neg hp h
  rw[qQ _ _ hd]
  refine aGs (by omega) (by rwa [Int.natAbs_neg]) ?_
  have:(-((p.den:Int)*q.num)).toNat=(q.num*p.den).natAbs:=by rw[Int.mul_comm q.num];omega
  rwa [this]
 ·have hd:0<(p.den:Int)*q.num:=Int.mul_pos hp h
  rw[eD _ _ hd]
  refine aGs (by omega) h1 ?_
  have:((p.den:Int)*q.num).toNat=(q.num*p.den).natAbs:=by rw[Int.mul_comm q.num];omega
  rwa [this]
theorem Sz.div {p q:Rat} {i j:Nat} (hp:Sz i p) (hq:Sz j q) (h0:q≠0):Sz (i+j) (p/q):=aQs (hp.cross hq).1 (hp.cross hq).2.1 h0
def Vd (q:Rat):Prop:=chkQ (numS q)=0
theorem Sz.vd {q:Rat} {k:Nat} (h:Sz k q) (hk:0<k∧k≤300):Vd q:=eH h hk
section
variable {p q:Rat}
end
noncomputable def ckG (p:List UInt8):List (List UInt8)→Int
 | []=>0
 | a::r=>if chkQ a≠0 then chkQ a else if (cmpQ p a).2≠0 then (cmpQ p a).2 else if 0≤(cmpQ p a).1 then 10 else ckG a r
noncomputable def ckF:List (List UInt8)→Int
 | []=>0
 | a::r=>if chkQ a≠0 then chkQ a else ckG a r
theorem rP (a:List UInt8) (r:List (List UInt8)):ckF (a::r)=if chkQ a≠0 then chkQ a else ckG a r:=rfl
theorem ltT {a b c:Rat} (h1:a<b) (h2:b<c):a<c:=Rat.not_le.1 fun h=>Rat.not_le.2 h1 (Rat.le_trans (Rat.le_of_lt h2) h)
noncomputable def ckS (l:List (List UInt8)):Int:=if 4096<l.length then 4 else ckF l
noncomputable def ckAt (l:List (List UInt8)):Nat→Int
 | 0=>ckF l
 | i+1=>ckG (l.getD i []) (l.drop (i+1))
theorem vH {α:Type} {l:List α} {i:Nat} (d:α) (h:i<l.length):l.drop i=l.getD i d::l.drop (i+1):=by
 rw[List.drop_eq_getElem_cons h]
 simp[List.getD_eq_getElem?_getD,h]
theorem aFs (l:List (List UInt8)):ckAt l l.length=0:=by
 cases l with
 | nil=>rfl
 | cons a r=>
  show ckG _ (List.drop (r.length+1) (a::r))=0
  rw[List.drop_eq_nil_of_le (by simp)];rfl
section
variable {l:List (List UInt8)} {i:Nat}
theorem aFt (h:i<l.length) (h1:chkQ (l.getD i [])≠0):ckAt l i=chkQ (l.getD i []):=by
 cases i with
 | zero=>
  cases l with
  | nil=>simp at h
  | cons a r=>have h1:chkQ a≠0:=h1;show ckF (a::r)= _;rw[rP,if_pos h1];rfl
 | succ i=>
  show ckG _ (l.drop (i+1))= _
  rw[vH [] h];unfold ckG;rw[if_pos h1]
theorem aFu (h:i+1<l.length) (h1:chkQ (l.getD (i+1) [])=0) (h2:(cmpQ (l.getD i []) (l.getD (i+1) [])).2≠0):ckAt l (i+1)=(cmpQ (l.getD i []) (l.getD (i+1) [])).2:=by
 show ckG _ (l.drop (i+1))= _
 rw[vH [] h];unfold ckG;rw[if_neg (fun h=>h h1),if_pos h2]
theorem aFv (h:i+1<l.length) (h1:chkQ (l.getD (i+1) [])=0) (h2:(cmpQ (l.getD i []) (l.getD (i+1) [])).2=0) (h3:0≤(cmpQ (l.getD i []) (l.getD (i+1) [])).1):ckAt l (i+1)=10:=by
 show ckG _ (l.drop (i+1))= _
 rw[vH [] h];unfold ckG;rw[if_neg (fun h=>h h1),if_neg (fun h=>h h2),if_pos h3]
theorem aFw (h:0<l.length) (h1:chkQ (l.getD 0 [])=0):ckAt l 1=ckAt l 0:=by
 cases l with
 | nil=>simp at h
 | cons a r=>
  have h1:chkQ a=0:=h1
  show ckG a r=ckF (a::r)
  rw[rP,if_neg (fun h=>h h1)]
theorem aJk (h:i+1<l.length) (h1:chkQ (l.getD (i+1) [])=0) (h2:(cmpQ (l.getD i []) (l.getD (i+1) [])).2=0) (h3:¬0≤(cmpQ (l.getD i []) (l.getD (i+1) [])).1):ckAt l (i+2)=ckAt l (i+1):=by
 show ckG _ (l.drop (i+2))=ckG _ (l.drop (i+1))
 rw[vH [] h]
 conv=>rhs;unfold ckG
 rw[if_neg (fun h=>h h1),if_neg (fun h=>h h2),if_neg h3]
end
abbrev Asc (qs:List Rat):Prop:=qs.Pairwise (· < ·)
theorem aJl {k:Nat} (hk:0<k∧k≤150):∀(qs:List Rat) {p:Rat},Sz k p→(∀q∈qs,Sz k q)→(ckG (numS p) (qs.map numS)=0↔Asc (p::qs))
 | [],p,_,_=>by simp[ckG,Asc]
 | q::qs,p,hp,hq=>by
  have hq1:=hq q (List.mem_cons_self ..)
  have e1:=eH hq1 ⟨hk.1,by omega⟩
  have e2:=hU hp hq1 hk.1 hk.1 (by omega)
  have ih:=aJl hk qs hq1 fun x hx=>hq x (List.mem_cons_of_mem _ hx)
  simp only[List.map_cons,ckG]
  rw[if_neg (fun h=>h e1),e2,if_neg (fun h=>h rfl)]
  dsimp only
  by_cases h:p<q
  ·have h1:=(eJ p q).2 h
   rw[if_neg (by omega),ih]
   unfold Asc
   rw[List.pairwise_cons (a:=p)]
   refine ⟨fun h2=>⟨fun x hx=>?_,h2⟩,fun h2=>h2.2⟩
   rcases List.mem_cons.1 hx with rfl | hx
   ·exact h
   ·exact ltT h ((List.pairwise_cons.1 h2).1 x hx)
  ·have h1:¬cmpR p q<0:=fun h2=>h ((eJ p q).1 h2)
   rw[if_pos (by omega)]
   refine ⟨fun h2=>absurd h2 (by decide),fun h2=>absurd ((List.pairwise_cons.1 h2).1 q (List.mem_cons_self ..)) h⟩
theorem aJm {k:Nat} (hk:0<k∧k≤150) (qs:List Rat) (hq:∀q∈qs,Sz k q):ckF (qs.map numS)=0↔Asc qs:=by
 cases qs with
 | nil=>simp[ckF,Asc]
 | cons q qs=>
  have hq1:=hq q (List.mem_cons_self ..)
  have e1:=eH hq1 ⟨hk.1,by omega⟩
  simp only[List.map_cons,rP]
  rw[if_neg (fun h=>h e1)]
  exact aJl hk qs hq1 fun x hx=>hq x (List.mem_cons_of_mem _ hx)
theorem aJn:∀ {l:List (List UInt8)} {p:List UInt8},ckG p l=0→∀a∈l,chkQ a=0
 | [],_,_,a,ha=>by simp at ha
 | x::r,p,h,a,ha=>by
  unfold ckG at h
  split at h
  ·rename_i h1;exact absurd h h1
  rename_i h1
  split at h
  ·rename_i h2;exact absurd h h2
  split at h
  ·exact absurd h (by decide)
  rcases List.mem_cons.1 ha with rfl | ha
  ·exact Classical.not_not.1 h1
  ·exact aJn h a ha
theorem aC8 {l:List (List UInt8)} (h:ckF l=0):∀a∈l,chkQ a=0:=by
 cases l with
 | nil=>intro a ha;simp at ha
 | cons x r=>
  rw[rP] at h
  split at h
  ·rename_i h1;exact absurd h h1
  rename_i h1
  intro a ha
  rcases List.mem_cons.1 ha with rfl | ha
  ·exact Classical.not_not.1 h1
  ·exact aJn h a ha
theorem qN {l:List (List UInt8)} (h:ckS l=0):l.length≤4096∧ckF l=0:=by
 unfold ckS at h
 split at h
 ·exact absurd h (by decide)
 ·exact ⟨by omega,h⟩
theorem aJo {k:Nat} (hk:0<k):∀ {l:List (List UInt8)},(∀a∈l,a.length≤k∧chkQ a=0)→∃qs:List Rat,l=qs.map numS∧∀q∈qs,Sz k q
 | [],_=>⟨[],rfl,fun q hq=>by simp at hq⟩
 | a::r,h=>by
  obtain ⟨qs,h1,h2⟩:=aJo hk (l:=r) fun x hx=>h x (List.mem_cons_of_mem _ hx)
  have ha:=h a (List.mem_cons_self ..)
  obtain ⟨e,z⟩:=pO ha.1 ha.2 hk
  refine ⟨valQ a::qs,by rw[List.map_cons,← e,← h1],fun q hq=>?_⟩
  rcases List.mem_cons.1 hq with rfl | hq
  ·exact z
  ·exact h2 q hq
noncomputable def mrg:List (List UInt8)→List (List UInt8)→List (List UInt8)
 | [],b=>b
 | a::r,[]=>a::r
 | x::a,y::b=>if (cmpQ x y).1<0 then x::mrg a (y::b) else if 0<(cmpQ x y).1 then y::mrg (x::a) b else x::mrg a b
termination_by a b=>a.length+b.length
theorem aJp (b:List (List UInt8)):mrg [] b=b:=by rw[mrg]
theorem aFx (a:List (List UInt8)):mrg a []=a:=by cases a<;>rw[mrg]
theorem rQ (x y:List UInt8) (a b:List (List UInt8)):mrg (x::a) (y::b)=if (cmpQ x y).1<0 then x::mrg a (y::b) else if 0<(cmpQ x y).1 then y::mrg (x::a) b else x::mrg a b:=by rw[mrg]
theorem vI {a b:List (List UInt8)} (h:a= []∨b= []):a++b=mrg a b:=by
 rcases h with rfl | rfl
 ·rw[aJp];rfl
 ·rw[aFx];simp
theorem aC9 (a b:List (List UInt8)):(mrg a b).length≤a.length+b.length:=by
 fun_induction mrg a b with
 | case1 b=>simp
 | case2 a r=>simp
 | case3 x a y b h ih=>simp at ih ⊢;omega
 | case4 x a y b h h1 ih=>simp at ih ⊢;omega
 | case5 x a y b h h1 ih=>simp at ih ⊢;omega
def mrR:List Rat→List Rat→List Rat
 | [],b=>b
 | a::r,[]=>a::r
 | x::a,y::b=>if x<y then x::mrR a (y::b) else if y<x then y::mrR (x::a) b else x::mrR a b
termination_by a b=>a.length+b.length
theorem aP4 {k:Nat} (hk:0<k∧k≤150) (a b:List Rat) (ha:∀q∈a,Sz k q) (hb:∀q∈b,Sz k q):mrg (a.map numS) (b.map numS)=(mrR a b).map numS:=by
 fun_induction mrR a b with
 | case1 b=>rw[List.map_nil,aJp]
 | case2 a r=>rw[List.map_nil,aFx]
 | case3 x a y b h ih=>
  have e:=hU (ha x (List.mem_cons_self ..)) (hb y (List.mem_cons_self ..)) hk.1 hk.1 (by omega)
  have h1:=(eJ x y).2 h
  simp only[List.map_cons] at ih ⊢
  rw[rQ,e,if_pos h1,ih (fun q hq=>ha q (List.mem_cons_of_mem _ hq)) hb]
 | case4 x a y b h h1 ih=>
  have e:=hU (ha x (List.mem_cons_self ..)) (hb y (List.mem_cons_self ..)) hk.1 hk.1 (by omega)
  have h2:=(eJ y x).2 h1
  have h3:=oI x y
  simp only[List.map_cons] at ih ⊢
  rw[rQ,e,if_neg (by dsimp only;omega),if_pos (by dsimp only;omega),ih ha (fun q hq=>hb q (List.mem_cons_of_mem _ hq))]
 | case5 x a y b h h1 ih=>
  have e:=hU (ha x (List.mem_cons_self ..)) (hb y (List.mem_cons_self ..)) hk.1 hk.1 (by omega)
  have hxy:x=y:=Rat.le_antisymm (Rat.not_lt.1 h1) (Rat.not_lt.1 h)
  have h2:=(aMe x y).2 hxy
  simp only[List.map_cons] at ih ⊢
  rw[rQ,e,if_neg (by dsimp only;omega),if_neg (by dsimp only;omega),ih (fun q hq=>ha q (List.mem_cons_of_mem _ hq)) (fun q hq=>hb q (List.mem_cons_of_mem _ hq))]
def Wt (k:Nat) (q:Rat):Prop:=q.num.natAbs*q.den<10^k
theorem wt_of {a:List UInt8} {k:Nat} (h1:a.length≤k) (h2:chkQ a=0):Wt k (valQ a):=by
 obtain ⟨e,_,_⟩:=rX h2
 rw[e] at h1
 unfold numS at h1
 have h5:(decDigits (valQ a).num.natAbs).length≤(itoa (valQ a).num).length:=by
  unfold itoa
  split
  ·simp
  ·rw[show (valQ a).num.toNat=(valQ a).num.natAbs by omega];exact Nat.le_refl _
 have h6:=fP (Nat.le_refl (decDigits (valQ a).num.natAbs).length)
 unfold Wt
 split at h1
 ·rename_i e1
  rw[e1,Nat.mul_one]
  exact Nat.lt_of_lt_of_le h6 (dG (by omega))
 ·have h7:=fP (Nat.le_refl (decDigits (valQ a).den).length)
  simp at h1
  have h8:=Nat.mul_lt_mul'' h6 h7
  rw[← Nat.pow_add] at h8
  exact Nat.lt_of_lt_of_le h8 (dG (by omega))
theorem pC (n:Int) {d:Nat} (hd:d≠0):(mkRat n d).num.natAbs≤n.natAbs∧(mkRat n d).den≤d:=by
 rw[Rat.num_mkRat,if_neg hd,Rat.den_mkRat,if_neg hd]
 exact ⟨kZ _ _,Nat.div_le_self _ _⟩
theorem Wt.sub {p q:Rat} {k:Nat} (hp:Wt k p) (hq:Wt k q) (sp:p.den<10^k) (sq:q.den<10^k):Wt (3*k+1) (p-q):=by
 unfold Wt at hp hq ⊢
 rw[pE]
 obtain ⟨h1,h2⟩:=pC (p.num*q.den-q.num*p.den) (qT p q)
 refine Nat.lt_of_le_of_lt (Nat.mul_le_mul h1 h2) ?_
 have e1:(p.num*q.den-q.num*p.den).natAbs≤p.num.natAbs*q.den+q.num.natAbs*p.den:=by
  refine Nat.le_trans (Int.natAbs_sub_le _ _) ?_
  rw[Int.natAbs_mul,Int.natAbs_mul,Int.natAbs_natCast,Int.natAbs_natCast]
  exact Nat.le_refl _
 refine Nat.lt_of_le_of_lt (Nat.mul_le_mul_right _ e1) ?_
 have e2:(p.num.natAbs*q.den+q.num.natAbs*p.den)*(p.den*q.den)=(p.num.natAbs*p.den)*(q.den*q.den)+(q.num.natAbs*q.den)*(p.den*p.den):=by
  rw[Nat.add_mul]
  congr 1<;>ac_rfl
 rw[e2]
 have a1:(p.num.natAbs*p.den)*(q.den*q.den)<10^k*(10^k*10^k):=Nat.mul_lt_mul'' hp (Nat.mul_lt_mul'' sq sq)
 have a2:(q.num.natAbs*q.den)*(p.den*p.den)<10^k*(10^k*10^k):=Nat.mul_lt_mul'' hq (Nat.mul_lt_mul'' sp sp)
 have e3:10^ (3*k+1)=10*(10^k*(10^k*10^k)):=by
  rw[← Nat.pow_add,← Nat.pow_add,Nat.pow_succ,Nat.mul_comm]
  congr 2;omega
 rw[e3]
 omega
theorem aNt {q:Rat} {k:Nat} (hw:Wt k q) (hk:0<k∧k≤300) (hv:Vd q):cmpQ (numS q) (numS q)=(0,0):=by
 unfold cmpQ
 rw[if_neg (fun h=>h hv),if_neg (fun h=>h hv),bL]
 unfold cmpf
 have:lim (q.num*q.den)=false:=bN hk (by rw[Int.natAbs_mul,Int.natAbs_natCast];exact hw)
 rw[this,if_neg (by simp)]
 simp[cmpI]
noncomputable def gapN (l:List (List UInt8)) (n:Nat):List (List UInt8):=(List.range n).map fun j=>(subQ (l.getD (j+1) []) (l.getD j [])).1
theorem aLw (l:List (List UInt8)) (n:Nat):gapN l (n+1)=gapN l n++ [(subQ (l.getD (n+1) []) (l.getD n [])).1]:=by
 unfold gapN;rw[List.range_succ,List.map_append];rfl
theorem gS {qs:List Rat} {i:Nat} (h:i<qs.length):(qs.map numS).getD i []=numS (qs.getD i 0):=by
 simp[List.getD_eq_getElem?_getD,h]
theorem bX {α:Type} {l:List α} {i:Nat} {d:α} (h:i<l.length):l.getD i d∈l:=by
 simp[List.getD_eq_getElem?_getD,h]
theorem aNu {k:Nat} (hk:0<k∧k≤140) {qs:List Rat} (hq:∀q∈qs,Sz k q):∀ {n:Nat},n<qs.length→gapN (qs.map numS) n=(List.range n).map fun j=>numS (qs.getD (j+1) 0-qs.getD j 0):=by
 intro n hn
 unfold gapN
 apply List.map_congr_left
 intro j hj
 have hj:=List.mem_range.1 hj
 rw[gS (by omega),gS (by omega),gZ (hq _ (bX (by omega))) (hq _ (bX (by omega))) hk.1 hk.1 (by omega)]
theorem aF1 {k:Nat} (hk:0<k∧k≤70) {qs:List Rat} (hq:∀q∈qs,Sz k q):∀(n i:Nat),i+n<qs.length→
  sumR (numS (qs.getD i 0-qs.getD 0 0)) ((List.range n).map fun j=>numS (qs.getD (i+j+1) 0-qs.getD (i+j) 0))=(numS (qs.getD (i+n) 0-qs.getD 0 0),0)
 | 0,i,h=>rfl
 | n+1,i,h=>by
  have z:∀j,j<qs.length→Sz k (qs.getD j 0):=fun j hj=>hq _ (bX hj)
  rw[List.range_succ_eq_map,List.map_cons,List.map_map]
  have e1:=aK3 ((z i (by omega)).sub (z 0 (by omega))) ((z (i+1) (by omega)).sub (z i (by omega))) (by omega) (by omega) (by omega)
  rw[show qs.getD i 0-qs.getD 0 0+(qs.getD (i+1) 0-qs.getD i 0)=qs.getD (i+1) 0-qs.getD 0 0 by grind] at e1
  have ih:=aF1 hk hq n (i+1) (by omega)
  have e2:((fun j=>numS (qs.getD (i+j+1) 0-qs.getD (i+j) 0)) ∘ Nat.succ)=fun j=>numS (qs.getD (i+1+j+1) 0-qs.getD (i+1+j) 0):=by
   funext j
   show numS (qs.getD (i+(j+1)+1) 0-qs.getD (i+(j+1)) 0)= _
   rw[show i+(j+1)=i+1+j by omega]
  rw[e2]
  unfold sumR
  simp only[Nat.add_zero]
  rw[e1,if_neg (fun h=>h rfl)]
  rw[ih,show i+1+n=i+(n+1) by omega]
def rgP (a b:List UInt8):Prop:=(cmpQ a b).2=0∧(cmpQ a b).1≤0
noncomputable instance (a b:List UInt8):Decidable (rgP a b):=Classical.propDecidable _
theorem aDe {a b:List UInt8} (h:rgP a b):chkQ a=0∧chkQ b=0:=by
 have h1:=h.1
 unfold cmpQ at h1
 split at h1
 ·rename_i h2;exact absurd h1 h2
 rename_i h2
 split at h1
 ·rename_i h3;exact absurd h1 h3
 rename_i h3
 exact ⟨Classical.not_not.1 h2,Classical.not_not.1 h3⟩
noncomputable def dsS (a b:List UInt8):List UInt8 × Int:=if (subQ a b).2=0∧aM (subQ a b).1 0=45 then ((subQ a b).1.drop 1,0) else subQ a b
noncomputable def nrG (l:List (List UInt8)) (t:List UInt8) (best:Int) (least:List UInt8):Nat→Nat→Int × Int
 | 0,_=>(best,0)
 | n+1,i=>if (dsS (l.getD i []) t).2≠0 then (0,(dsS (l.getD i []) t).2) else if (cmpQ (dsS (l.getD i []) t).1 least).2≠0 then (0,(cmpQ (dsS (l.getD i []) t).1 least).2) else if (cmpQ (dsS (l.getD i []) t).1 least).1<0 then nrG l t i (dsS (l.getD i []) t).1 n (i+1) else nrG l t best least n (i+1)
noncomputable def nrS (l:List (List UInt8)) (t:List UInt8):Int × Int:=
 if ckS l≠0∨chkQ t≠0 then (0,1) else if l.length=0 then (0,5) else if (dsS (l.getD 0 []) t).2≠0 then (0,(dsS (l.getD 0 []) t).2) else nrG l t 0 (dsS (l.getD 0 []) t).1 (l.length-1) 1
theorem aNv (a:List Rat):mrR a []=a:=by cases a<;>rw[mrR]
theorem aP8 (a:List Rat):mrR [] a=a:=by rw[mrR]
theorem xW (x y:Rat) (a b:List Rat):mrR (x::a) (y::b)=if x<y then x::mrR a (y::b) else if y<x then y::mrR (x::a) b else x::mrR a b:=by rw[mrR]
theorem rU (a b:List Rat) (z:Rat):z∈mrR a b↔z∈a∨z∈b:=by
 fun_induction mrR a b with
 | case1 b=>simp
 | case2 a r=>simp
 | case3 x a y b h ih=>simp only[List.mem_cons,ih];constructor<;>intro h<;>grind
 | case4 x a y b h h1 ih=>simp only[List.mem_cons,ih];constructor<;>intro h<;>grind
 | case5 x a y b h h1 ih=>
  have hxy:x=y:=Rat.le_antisymm (Rat.not_lt.1 h1) (Rat.not_lt.1 h)
  subst hxy
  simp only[List.mem_cons,ih];constructor<;>intro h<;>grind
theorem aNw (a b:List Rat):mrR a b=mrR b a:=by
 fun_induction mrR a b with
 | case1 b=>rw[aNv]
 | case2 a r=>rw[aP8]
 | case3 x a y b h ih=>rw[xW,if_neg (fun h2=>Rat.not_le.2 h (Rat.le_of_lt h2)),if_pos h,ih]
 | case4 x a y b h h1 ih=>rw[xW,if_pos h1,ih]
 | case5 x a y b h h1 ih=>
  have hxy:x=y:=Rat.le_antisymm (Rat.not_lt.1 h1) (Rat.not_lt.1 h)
  rw[xW,if_neg h1,if_neg h,ih,hxy]
theorem aP9 (a b:List Rat) (ha:Asc a) (hb:Asc b):Asc (mrR a b):=by
 fun_induction mrR a b with
 | case1 b=>exact hb
 | case2 a r=>exact ha
 | case3 x a y b h ih=>
  have h1:=List.pairwise_cons.1 ha
  have h2:=List.pairwise_cons.1 hb
  refine List.pairwise_cons.2 ⟨fun z hz=>?_,ih h1.2 hb⟩
  rcases (rU _ _ _).1 hz with hz | hz
  ·exact h1.1 z hz
  ·rcases List.mem_cons.1 hz with rfl | hz
   ·exact h
   ·exact ltT h (h2.1 z hz)
 | case4 x a y b h h3 ih=>
  have h1:=List.pairwise_cons.1 ha
  have h2:=List.pairwise_cons.1 hb
  refine List.pairwise_cons.2 ⟨fun z hz=>?_,ih ha h2.2⟩
  rcases (rU _ _ _).1 hz with hz | hz
  ·rcases List.mem_cons.1 hz with rfl | hz
   ·exact h3
   ·exact ltT h3 (h1.1 z hz)
  ·exact h2.1 z hz
 | case5 x a y b h h3 ih=>
  have hxy:x=y:=Rat.le_antisymm (Rat.not_lt.1 h3) (Rat.not_lt.1 h)
  have h1:=List.pairwise_cons.1 ha
  have h2:=List.pairwise_cons.1 hb
  refine List.pairwise_cons.2 ⟨fun z hz=>?_,ih h1.2 h2.2⟩
  rcases (rU _ _ _).1 hz with hz | hz
  ·exact h1.1 z hz
  ·rw[hxy];exact h2.1 z hz
def absR (x:Rat):Rat:=if x<0 then -x else x
theorem aLx {x:Rat} (h:x<0):(numS x).drop 1=numS (-x):=by
 have hn:x.num<0:=(lt0 x).1 h
 have e1:(-x).num= -x.num:=Rat.neg_num x
 have e2:(-x).den=x.den:=Rat.neg_den x
 unfold numS
 rw[e1,e2]
 have e3:itoa x.num=45::itoa (-x.num):=by
  unfold itoa
  rw[if_pos hn,if_neg (by omega),show x.num.natAbs=(-x.num).toNat by omega]
 rw[e3]
 split<;>rfl
theorem vK {k:Nat} {x:Rat} (h:Sz k x):Sz k (absR x):=by
 unfold absR
 split
 ·exact ⟨by rw[Rat.neg_num,Int.natAbs_neg];exact h.1,by rw[Rat.neg_den];exact h.2⟩
 ·exact h
theorem vL {i j:Nat} {a t:Rat} (ha:Sz i a) (ht:Sz j t) (hi:0<i) (hj:0<j) (h:i+j+1≤300):dsS (numS a) (numS t)=(numS (absR (a-t)),0):=by
 have e:=gZ ha ht hi hj h
 unfold dsS absR
 rw[e]
 by_cases h0:a-t<0
 ·rw[if_pos ⟨rfl,(kB _).2 h0⟩,if_pos h0,aLx h0]
 ·rw[if_neg (fun h1=>h0 ((kB _).1 h1.2)),if_neg h0]
theorem xY {k:Nat} (hk:0<k∧k≤74) {qs:List Rat} {t:Rat} (hq:∀q∈qs,Sz k q) (ht:Sz k t):∀(n i b:Nat),i+n=qs.length→b<i→
  (∀j,j<i→absR (qs.getD b 0-t)≤absR (qs.getD j 0-t))→(∀j,j<b→absR (qs.getD b 0-t)<absR (qs.getD j 0-t))→
  ∃b',b'<qs.length∧nrG (qs.map numS) (numS t) b (numS (absR (qs.getD b 0-t))) n i=((b':Int),0)∧(∀j,j<qs.length→absR (qs.getD b' 0-t)≤absR (qs.getD j 0-t))∧(∀j,j<b'→absR (qs.getD b' 0-t)<absR (qs.getD j 0-t))
 | 0,i,b,hi,hb,h1,h2=>⟨b,by omega,rfl,fun j hj=>h1 j (by omega),h2⟩
 | n+1,i,b,hi,hb,h1,h2=>by
  have z:∀j,j<qs.length→Sz (2*k+1) (absR (qs.getD j 0-t)):=fun j hj=>vK (by have:=(hq _ (bX (d:=(0:Rat)) hj)).sub ht;rwa [show k+k+1=2*k+1 by omega] at this)
  have e1:=vL (hq _ (bX (d:=(0:Rat)) (show i<qs.length by omega))) ht hk.1 hk.1 (by omega)
  have e2:=hU (z i (by omega)) (z b (by omega)) (by omega) (by omega) (by omega)
  unfold nrG
  rw[gS (by omega),e1,if_neg (fun h=>h rfl)]
  dsimp only
  rw[e2,if_neg (fun h=>h rfl)]
  dsimp only
  by_cases hl:absR (qs.getD i 0-t)<absR (qs.getD b 0-t)
  ·rw[if_pos ((eJ _ _).2 hl)]
   refine xY hk hq ht n (i+1) i (by omega) (by omega) (fun j hj=>?_) (fun j hj=>?_)
   ·rcases Nat.lt_succ_iff_lt_or_eq.1 hj with h | rfl
    ·exact Rat.le_of_lt (Rat.not_le.1 fun h'=>Rat.not_le.2 hl (Rat.le_trans (h1 j h) h'))
    ·exact Rat.le_refl
   ·exact Rat.not_le.1 fun h'=>Rat.not_le.2 hl (Rat.le_trans (h1 j hj) h')
  ·rw[if_neg (fun h=>hl ((eJ _ _).1 h))]
   refine xY hk hq ht n (i+1) b (by omega) (by omega) (fun j hj=>?_) h2
   rcases Nat.lt_succ_iff_lt_or_eq.1 hj with h | rfl
   ·exact h1 j h
   ·exact Rat.not_lt.1 hl
def flI (q:Rat):Int:=q.num/(q.den:Int)
theorem qO (q:Rat):((flI q:Int):Rat)≤q:=by
 rw[Rat.le_iff,Rat.num_intCast,Rat.den_intCast]
 have:=aPh q
 unfold flI
 simpa using this
theorem oA (q:Rat):q<((flI q+1:Int):Rat):=by
 rw[Rat.lt_iff,Rat.num_intCast,Rat.den_intCast]
 have:=aPi q
 unfold flI
 simpa using this
theorem aNx (q:Rat):itoa (flI q)=numS q↔((flI q:Int):Rat)=q:=by
 rw[← dV]
 exact ⟨fun h=>oC h,fun h=>by rw[h]⟩
def clI (q:Rat):Int:=if ((flI q:Int):Rat)=q then flI q else flI q+1
theorem aHz (q:Rat):q≤((clI q:Int):Rat):=by
 unfold clI
 split
 ·rename_i h;rw[h];exact Rat.le_refl
 ·exact Rat.le_of_lt (oA q)
theorem aH0 (q:Rat):((clI q-1:Int):Rat)<q:=by
 unfold clI
 split
 ·rename_i h
  have e:((flI q-1:Int):Rat)=((flI q:Int):Rat)-1:=by rw[Rat.intCast_sub];rfl
  rw[e,h]
  exact Rat.sub_lt_iff.2 (by grind)
 ·rename_i h
  rw[show flI q+1-1=flI q by omega]
  exact Rat.not_le.1 fun h'=>h (Rat.le_antisymm (qO q) h')
theorem aQa {q:Rat} (h:0<q):0<clI q:=by
 have h1:=aHz q
 have h2:(0:Rat)<((clI q:Int):Rat):=Rat.not_le.1 fun h'=>Rat.not_le.2 h (Rat.le_trans h1 h')
 exact Rat.intCast_pos.1 h2
def cL (lo hi most:Rat):Rat:=(hi-lo)/(clI ((hi-lo)/most):Int)
def evR (lo hi most:Rat):List Rat:=(List.range ((clI ((hi-lo)/most)).toNat+1)).map fun (i:Nat)=>lo+cL lo hi most*((i:Int):Rat)
section
variable {lo hi most:Rat}
theorem aF2 {a b:Rat} (ha:0<a) (hb:0<b):0<a/b:=by
 have e:a/b*b=a:=Rat.div_mul_cancel (by grind)
 refine Rat.not_le.1 fun h=>?_
 have:=Rat.mul_le_mul_of_nonneg_right (c:=b) h (Rat.le_of_lt hb)
 rw[e,Rat.zero_mul] at this
 exact Rat.not_le.2 ha this
theorem aDf (h:lo<hi) (hm:0<most):0<clI ((hi-lo)/most):=aQa (aF2 (by grind) hm)
theorem xZ (h:lo<hi) (hm:0<most):cL lo hi most*((clI ((hi-lo)/most):Int):Rat)=hi-lo:=by
 have:=aDf h hm
 exact Rat.div_mul_cancel fun e=>by
  have:=Rat.intCast_eq_zero_iff.1 e
  omega
theorem aH1 (h:lo<hi) (hm:0<most):0<cL lo hi most:=aF2 (by grind) (Rat.intCast_pos.2 (aDf h hm))
theorem aLy (h:lo<hi) (hm:0<most):cL lo hi most≤most:=by
 have h1:=aHz ((hi-lo)/most)
 have h2:=xZ h hm
 have h3:(hi-lo)/most*most=hi-lo:=Rat.div_mul_cancel (by grind)
 have h4:=Rat.mul_le_mul_of_nonneg_right (c:=most) h1 (Rat.le_of_lt hm)
 rw[h3] at h4
 have hp:(0:Rat)<((clI ((hi-lo)/most):Int):Rat):=Rat.intCast_pos.2 (aDf h hm)
 refine Rat.not_lt.1 fun hlt=>?_
 have h5:=Rat.mul_lt_mul_of_pos_right hlt hp
 rw[Rat.mul_comm most,h2] at h5
 exact Rat.not_le.2 h5 h4
theorem aNy (h:lo<hi) (hm:0<most) (h2:2≤clI ((hi-lo)/most)):most<(hi-lo)/((clI ((hi-lo)/most)-1:Int):Rat):=by
 have h1:=aH0 ((hi-lo)/most)
 have h3:(hi-lo)/most*most=hi-lo:=Rat.div_mul_cancel (by grind)
 have hp:(0:Rat)<((clI ((hi-lo)/most)-1:Int):Rat):=Rat.intCast_pos.2 (by omega)
 have h4:=Rat.mul_lt_mul_of_pos_right h1 hm
 rw[h3] at h4
 have h5:(hi-lo)/((clI ((hi-lo)/most)-1:Int):Rat)*((clI ((hi-lo)/most)-1:Int):Rat)=hi-lo:=Rat.div_mul_cancel (by grind)
 refine Rat.not_le.1 fun hle=>?_
 have h6:=Rat.mul_le_mul_of_nonneg_right (c:=((clI ((hi-lo)/most)-1:Int):Rat)) hle (Rat.le_of_lt hp)
 rw[h5,Rat.mul_comm most] at h6
 exact Rat.not_le.2 h4 h6
end
section
variable {α:Type} [DecidableEq α]
end
def aZ (L O S:Rat):Int:=flI ((O-L)/S)
def cX (H O S:Rat):Int:=flI ((H-O)/S)
def cT (L O S:Rat):Rat:=O-((aZ L O S:Int):Rat)*S
def eZ (L H O S:Rat):Int:=aZ L O S+cX H O S+1
def atR (L H O S:Rat):List Rat:=(List.range (eZ L H O S).toNat).map fun (i:Nat)=>cT L O S+S*((i:Int):Rat)
theorem aNz {n:Int} {q:Rat}:(n:Rat)≤q↔n≤flI q:=by
 constructor
 ·intro h
  have h1:=oA q
  have h2:(n:Rat)<((flI q+1:Int):Rat):=Rat.not_le.1 fun h'=>Rat.not_le.2 h1 (Rat.le_trans h' h)
  have:=Rat.intCast_lt_intCast.1 h2
  omega
 ·intro h
  exact Rat.le_trans (Rat.intCast_le_intCast.2 h) (qO q)
theorem kK {a b s:Rat} (hs:0<s):a≤b/s↔a*s≤b:=by
 have e:b/s*s=b:=Rat.div_mul_cancel (by grind)
 constructor
 ·intro h
  have:=Rat.mul_le_mul_of_nonneg_right (c:=s) h (Rat.le_of_lt hs)
  rwa [e] at this
 ·intro h
  refine Rat.not_lt.1 fun hlt=>?_
  have:=Rat.mul_lt_mul_of_pos_right hlt hs
  rw[e] at this
  exact Rat.not_le.2 this h
theorem at_in {L H O S:Rat} (hs:0<S) (i:Nat):cT L O S+S*((i:Int):Rat)≤H↔(i:Int)<eZ L H O S:=by
 have e1:((i:Int)-aZ L O S)≤flI ((H-O)/S)↔(((i:Int)-aZ L O S:Int):Rat)*S≤H-O:=by rw[← aNz,kK hs]
 have e2:(((i:Int)-aZ L O S:Int):Rat)=((i:Int):Rat)-((aZ L O S:Int):Rat):=Rat.intCast_sub _ _
 rw[e2] at e1
 have e3:(((i:Int):Rat)-((aZ L O S:Int):Rat))*S≤H-O↔cT L O S+S*((i:Int):Rat)≤H:=by
  unfold cT
  rw[Rat.le_iff_sub_nonneg,Rat.le_iff_sub_nonneg (a:=O- _+ _)]
  have:H-O-(((i:Int):Rat)-((aZ L O S:Int):Rat))*S=H-(O-((aZ L O S:Int):Rat)*S+S*((i:Int):Rat)):=by grind
  rw[this]
 rw[← e3,← e1]
 unfold eZ cX
 omega
theorem aH2 {L O S:Rat} (hs:0<S):L≤cT L O S∧cT L O S<L+S:=by
 have h1:((aZ L O S:Int):Rat)≤(O-L)/S:=qO _
 rw[kK hs] at h1
 have h2:¬((aZ L O S+1:Int):Rat)≤(O-L)/S:=Rat.not_le.2 (oA _)
 rw[kK hs] at h2
 have e:((aZ L O S+1:Int):Rat)=((aZ L O S:Int):Rat)+1:=Rat.intCast_add _ _
 rw[e] at h2
 have h2:=Rat.not_le.1 h2
 unfold cT
 generalize ((aZ L O S:Int):Rat)=k at*
 constructor
 ·rw[Rat.le_iff_sub_nonneg] at h1 ⊢
  have:O-k*S-L=O-L-k*S:=by grind
  rwa [this]
 ·rw[Rat.lt_iff_sub_pos] at h2 ⊢
  have:L+S-(O-k*S)=(k+1)*S-(O-L):=by grind
  rwa [this]
section
variable {p q:Rat} {k:Nat}
theorem mQ {a b:Nat} (hb:b≠0):a≤a*b:=Nat.le_mul_of_pos_right a (Nat.pos_of_ne_zero hb)
theorem aF3 (h1:p.num.natAbs*q.den<10^k) (h2:q.num.natAbs*p.den<10^k) (h3:p.den*q.den<10^k):Sz k p∧Sz k q:=by
 have n1:=q.den_nz
 have n2:=p.den_nz
 exact ⟨⟨Nat.lt_of_le_of_lt (mQ n1) h1,Nat.lt_of_le_of_lt (mQ n1) h3⟩,⟨Nat.lt_of_le_of_lt (mQ n2) h2,Nat.lt_of_le_of_lt (by rw[Nat.mul_comm];exact mQ n2) h3⟩⟩
theorem aH3 (hk:0<k∧k+1≤300) (h1:p.num.natAbs*q.den<10^k) (h2:q.num.natAbs*p.den<10^k) (h3:p.den*q.den<10^k):addQ (numS p) (numS q)=(numS (p+q),0):=by
 obtain ⟨zp,zq⟩:=aF3 h1 h2 h3
 have e1:(p.num*q.den).natAbs<10^k:=by rw[Int.natAbs_mul,Int.natAbs_natCast];exact h1
 have e2:(q.num*p.den).natAbs<10^k:=by rw[Int.natAbs_mul,Int.natAbs_natCast];exact h2
 unfold addQ
 rw[nC zp zq ⟨hk.1,by omega⟩ ⟨hk.1,by omega⟩,if_neg]
 simp only[Bool.or_eq_true,not_or,Bool.not_eq_true]
 exact ⟨⟨⟨bN ⟨hk.1,by omega⟩ e1,bN ⟨hk.1,by omega⟩ e2⟩,bN (k:=k+1) ⟨by omega,hk.2⟩ (gN e1 e2).1⟩,bN ⟨hk.1,by omega⟩ (by rw[← Int.natCast_mul,Int.natAbs_natCast];exact h3)⟩
theorem aSk (hk:0<k∧k+1≤300) (h1:p.num.natAbs*q.den<10^k) (h2:q.num.natAbs*p.den<10^k) (h3:p.den*q.den<10^k):subQ (numS p) (numS q)=(numS (p-q),0):=by
 obtain ⟨zp,zq⟩:=aF3 h1 h2 h3
 have e1:(p.num*q.den).natAbs<10^k:=by rw[Int.natAbs_mul,Int.natAbs_natCast];exact h1
 have e2:(q.num*p.den).natAbs<10^k:=by rw[Int.natAbs_mul,Int.natAbs_natCast];exact h2
 unfold subQ
 rw[nC zp zq ⟨hk.1,by omega⟩ ⟨hk.1,by omega⟩,if_neg]
 simp only[Bool.or_eq_true,not_or,Bool.not_eq_true]
 exact ⟨⟨⟨bN ⟨hk.1,by omega⟩ e1,bN ⟨hk.1,by omega⟩ e2⟩,bN (k:=k+1) ⟨by omega,hk.2⟩ (gN e1 e2).2⟩,bN ⟨hk.1,by omega⟩ (by rw[← Int.natCast_mul,Int.natAbs_natCast];exact h3)⟩
theorem aSl (hk:0<k∧k≤300) (zp:Sz k p) (zq:Sz k q) (h1:p.num.natAbs*q.num.natAbs<10^k) (h3:p.den*q.den<10^k):mulQ (numS p) (numS q)=(numS (p*q),0):=by
 unfold mulQ
 rw[nC zp zq hk hk,if_neg]
 simp only[Bool.or_eq_true,not_or,Bool.not_eq_true]
 exact ⟨bN hk (by rw[Int.natAbs_mul];exact h1),bN hk (by rw[← Int.natCast_mul,Int.natAbs_natCast];exact h3)⟩
theorem aSm (p q:Rat):cmpI (p.num*q.den) (q.num*p.den)=cmpR p q:=by
 unfold cmpI cmpR
 by_cases h1:p<q
 ·rw[if_pos h1,if_pos ((Rat.lt_iff p q).1 h1)]
 ·rw[if_neg h1,if_neg (fun h=>h1 ((Rat.lt_iff p q).2 h))]
  by_cases h2:q<p
  ·have:=(Rat.lt_iff q p).1 h2
   rw[if_pos h2,if_neg (by omega)]
  ·have h3:¬q.num*p.den<p.num*q.den:=fun h=>h2 ((Rat.lt_iff q p).2 h)
   have h4:¬p.num*q.den<q.num*p.den:=fun h=>h1 ((Rat.lt_iff p q).2 h)
   rw[if_neg h2,if_pos (by omega)]
theorem aN0 (hk:0<k∧k≤300) (zp:Sz k p) (zq:Sz k q) (h1:p.num.natAbs*q.den<10^k) (h2:q.num.natAbs*p.den<10^k):cmpQ (numS p) (numS q)=(cmpR p q,0):=by
 have e1:(p.num*q.den).natAbs<10^k:=by rw[Int.natAbs_mul,Int.natAbs_natCast];exact h1
 have e2:(q.num*p.den).natAbs<10^k:=by rw[Int.natAbs_mul,Int.natAbs_natCast];exact h2
 unfold cmpQ
 rw[if_neg (by rw[eH zp hk];simp),if_neg (by rw[eH zq hk];simp),bL,bL]
 unfold cmpf
 rw[if_neg]
 ·rw[aSm]
 simp only[Bool.or_eq_true,not_or,Bool.not_eq_true]
 exact ⟨bN hk e1,bN hk e2⟩
end
theorem aDg (q:Rat):((q.num:Int):Rat)=q*((q.den:Nat):Rat):=by
 have h:((q.den:Nat):Rat)≠0:=by
  have:=q.den_pos
  have:=Rat.natCast_pos.2 this
  exact fun e=>Rat.lt_irrefl (e ▸ this)
 have e:q=(q.num:Rat)/((q.den:Nat):Rat):=by
  conv=>lhs;rw[← Rat.mkRat_self q,Rat.mkRat_eq_div]
 conv=>rhs;lhs;rw[e]
 rw[Rat.div_mul_cancel h]
theorem mR (q:Rat):(0:Rat)≤((q.den:Nat):Rat):=Rat.natCast_nonneg
theorem aN1 {x H S:Rat} (c:Nat) (h:x≤H+(c:Rat)*S):x.num*(H.den*S.den:Nat)≤(H.num*S.den+c*S.num*H.den)*x.den:=by
 apply Rat.intCast_le_intCast.1
 simp only[Rat.intCast_mul,Rat.intCast_add,Rat.intCast_natCast,Rat.natCast_mul,aDg]
 have:=Rat.mul_le_mul_of_nonneg_right (c:=((x.den:Nat):Rat)*(((H.den:Nat):Rat)*((S.den:Nat):Rat))) h (Rat.mul_nonneg (mR x) (Rat.mul_nonneg (mR H) (mR S)))
 grind
theorem aSn {x H S:Rat} (c:Nat) (h:H-(c:Rat)*S≤x):(H.num*S.den-c*S.num*H.den)*x.den≤x.num*(H.den*S.den:Nat):=by
 apply Rat.intCast_le_intCast.1
 simp only[Rat.intCast_mul,Rat.intCast_sub,Rat.intCast_natCast,Rat.natCast_mul,aDg]
 have:=Rat.mul_le_mul_of_nonneg_right (c:=((x.den:Nat):Rat)*(((H.den:Nat):Rat)*((S.den:Nat):Rat))) h (Rat.mul_nonneg (mR x) (Rat.mul_nonneg (mR H) (mR S)))
 grind
noncomputable def gpG (l:List (List UInt8)):Nat→Nat→List (List UInt8) × Int
 | 0,i=>(gapN l i,0)
 | n+1,i=>if (subQ (l.getD (i+1) []) (l.getD i [])).2≠0 then ([],(subQ (l.getD (i+1) []) (l.getD i [])).2) else gpG l n (i+1)
noncomputable def gpS (l:List (List UInt8)):List (List UInt8) × Int:=if ckS l≠0 then ([],1) else gpG l (l.length-1) 0
theorem aN2 {l:List (List UInt8)} {i:Nat} (hi:i+1<l.length) (h:(subQ (l.getD (i+1) []) (l.getD i [])).2=0):gpG l (l.length-1-i) i=gpG l (l.length-1-(i+1)) (i+1):=by
 obtain ⟨n,e⟩:∃n,l.length-1-i=n+1:=⟨l.length-1-i-1,by omega⟩
 rw[e,show l.length-1-(i+1)=n by omega]
 exact if_neg fun h'=>h' h
theorem aQb {l:List (List UInt8)} {i:Nat} (hi:i+1<l.length) (h:(subQ (l.getD (i+1) []) (l.getD i [])).2≠0):gpG l (l.length-1-i) i=([],(subQ (l.getD (i+1) []) (l.getD i [])).2):=by
 obtain ⟨n,e⟩:∃n,l.length-1-i=n+1:=⟨l.length-1-i-1,by omega⟩
 rw[e]
 exact if_pos h
theorem aQc {l:List (List UInt8)} {i:Nat} (hi:l.length≤i+1):gpG l (l.length-1-i) i=(gapN l i,0):=by
 rw[show l.length-1-i=0 by omega];rfl
theorem aA1 {k:Nat} (hk:0<k∧k≤140) {qs:List Rat} (hq:∀q∈qs,Sz k q):∀(n i:Nat),i+n<qs.length→gpG (qs.map numS) n i=((List.range (i+n)).map fun j=>numS (qs.getD (j+1) 0-qs.getD j 0),0)
 | 0,i,h=>by
  show (gapN _ i,(0:Int))= _
  rw[aNu hk hq (by omega)];rfl
 | n+1,i,h=>by
  have e:=gZ (hq _ (bX (d:=(0:Rat)) (show i+1<qs.length by omega))) (hq _ (bX (d:=(0:Rat)) (show i<qs.length by omega))) hk.1 hk.1 (by omega)
  unfold gpG
  rw[gS (by omega),gS (by omega),e,if_neg (fun h=>h rfl),aA1 hk hq n (i+1) (by omega),show i+1+n=i+(n+1) by omega]
theorem aF4 {a b:List UInt8} (h:(subQ a b).2=0):0<(subQ a b).1.length:=by
 unfold subQ cI at h ⊢
 split at h
 ·rename_i h1;exact absurd h h1
 rename_i h1
 rw[if_neg h1]
 split at h
 ·rename_i h2;exact absurd h h2
 rename_i h2
 rw[if_neg h2]
 dsimp only at h ⊢
 split at h
 ·exact absurd h (by decide)
 rename_i h3
 rw[if_neg h3]
 exact List.length_pos_iff.2 (sI _)
def Lm (l:List (List UInt8)):Prop:=∀a∈l,chkQ a=0→a.length≤82
theorem Lm.at {l:List (List UInt8)} (h:Lm l) {i:Nat} (hi:i<l.length) (hk:chkQ (l.getD i [])=0):(l.getD i []).length≤82:=h _ (bX hi) hk
theorem oB {a:List UInt8} (h1:chkQ a=0) (h2:a.length≤82):a=numS (valQ a)∧Sz 82 (valQ a)∧Wt 82 (valQ a):=by
 obtain ⟨e,z⟩:=pO h2 h1 (by decide)
 exact ⟨e,z,wt_of h2 h1⟩
theorem aR3 {a b:List UInt8} (h1:chkQ a=0) (h2:a.length≤82) (h3:chkQ b=0) (h4:b.length≤82):cmpQ a b=(cmpR (valQ a) (valQ b),0):=by
 obtain ⟨e1,z1,_⟩:=oB h1 h2
 obtain ⟨e2,z2,_⟩:=oB h3 h4
 conv=>lhs;rw[e1,e2]
 exact hU z1 z2 (by decide) (by decide) (by decide)
theorem aQd {l:List (List UInt8)} {t:List UInt8} {b:Int} {z:List UInt8} {i:Nat} (hi:i<l.length) (h:(dsS (l.getD i []) t).2≠0):nrG l t b z (l.length-i) i=(0,(dsS (l.getD i []) t).2):=by
 obtain ⟨n,e⟩:∃n,l.length-i=n+1:=⟨l.length-i-1,by omega⟩
 rw[e];exact if_pos h
theorem aQe {l:List (List UInt8)} {t:List UInt8} {b:Int} {z:List UInt8} {i:Nat} (hi:i<l.length) (h:(dsS (l.getD i []) t).2=0) (h2:(cmpQ (dsS (l.getD i []) t).1 z).2≠0):nrG l t b z (l.length-i) i=(0,(cmpQ (dsS (l.getD i []) t).1 z).2):=by
 obtain ⟨n,e⟩:∃n,l.length-i=n+1:=⟨l.length-i-1,by omega⟩
 rw[e];exact (if_neg fun h'=>h' h).trans (if_pos h2)
theorem aN3 {l:List (List UInt8)} {t:List UInt8} {b:Int} {z:List UInt8} {i:Nat} (hi:i<l.length) (h:(dsS (l.getD i []) t).2=0) (h2:(cmpQ (dsS (l.getD i []) t).1 z).2=0) (h3:(cmpQ (dsS (l.getD i []) t).1 z).1<0):nrG l t b z (l.length-i) i=nrG l t i (dsS (l.getD i []) t).1 (l.length-(i+1)) (i+1):=by
 obtain ⟨n,e⟩:∃n,l.length-i=n+1:=⟨l.length-i-1,by omega⟩
 rw[e,show l.length-(i+1)=n by omega];exact ((if_neg fun h'=>h' h).trans (if_neg fun h'=>h' h2)).trans (if_pos h3)
theorem aF5 {l:List (List UInt8)} {t:List UInt8} {b:Int} {z:List UInt8} {i:Nat} (hi:i<l.length) (h:(dsS (l.getD i []) t).2=0) (h2:(cmpQ (dsS (l.getD i []) t).1 z).2=0) (h3:¬(cmpQ (dsS (l.getD i []) t).1 z).1<0):nrG l t b z (l.length-i) i=nrG l t b z (l.length-(i+1)) (i+1):=by
 obtain ⟨n,e⟩:∃n,l.length-i=n+1:=⟨l.length-i-1,by omega⟩
 rw[e,show l.length-(i+1)=n by omega];exact ((if_neg fun h'=>h' h).trans (if_neg fun h'=>h' h2)).trans (if_neg h3)
theorem aQf {l:List (List UInt8)} {t:List UInt8} {b:Int} {z:List UInt8}:nrG l t b z (l.length-l.length) l.length=(b,0):=by rw[Nat.sub_self];rfl
theorem aN4 (x:Rat):(absR x).num.natAbs=x.num.natAbs∧(absR x).den=x.den:=by
 unfold absR
 split
 ·exact ⟨by rw[Rat.neg_num,Int.natAbs_neg],rfl⟩
 ·exact ⟨rfl,rfl⟩
theorem aQg {a t:List UInt8} (h1:chkQ a=0) (h2:a.length≤82) (h3:chkQ t=0) (h4:t.length≤82):(dsS a t).2=0∧cmpQ (dsS a t).1 (dsS a t).1=(0,0):=by
 obtain ⟨e1,z1,w1⟩:=oB h1 h2
 obtain ⟨e2,z2,w2⟩:=oB h3 h4
 have e:=vL z1 z2 (by decide) (by decide) (by decide)
 rw[← e1,← e2] at e
 rw[e]
 refine ⟨rfl,?_⟩
 have w:=w1.sub w2 z1.2 z2.2
 have w':Wt (3*82+1) (absR (valQ a-valQ t)):=by
  obtain ⟨a1,a2⟩:=aN4 (valQ a-valQ t)
  unfold Wt at w ⊢
  rw[a1,a2];exact w
 exact aNt w' ⟨by decide,by decide⟩ ((vK (z1.sub z2)).vd ⟨by decide,by decide⟩)
noncomputable def mgS (a b:List (List UInt8)):List (List UInt8) × Int:=if ckS a≠0∨ckS b≠0 then ([],1) else if 4096<(mrg a b).length then ([],4) else (mrg a b,0)
theorem bt2 {A B D l h s t N:Nat} (hl:0<l) (hD:1≤D) (hDt:D*t≤100*(s*l*h)) (hB:B*l≤D+A*h) (h1:A*l<N) (h2:B*h<N) (h3:s*t<N):B*(t*t)≤200*(N*N)*h:=by
 have hN:1≤N:=by omega
 by_cases hc:2*(A*h)≤B*l
 ·have e1:B*l≤2*D:=by omega
  have e2:(B*l)*t≤(2*D)*t:=Nat.mul_le_mul_right _ e1
  have e3:(2*D)*t=2*(D*t):=Nat.mul_assoc ..
  have e4:(B*t)*l≤(200*(s*h))*l:=by
   have e5:(B*t)*l=(B*l)*t:=by ac_rfl
   have e6:(200*(s*h))*l=200*(s*l*h):=by ac_rfl
   rw[e5,e6];omega
  have e7:B*t≤200*(s*h):=Nat.le_of_mul_le_mul_right e4 hl
  have e8:(B*t)*t≤(200*(s*h))*t:=Nat.mul_le_mul_right _ e7
  have e9:(200*(s*h))*t=200*((s*t)*h):=by ac_rfl
  have e10:(s*t)*h≤(N*N)*h:=Nat.mul_le_mul_right _ (Nat.le_trans (Nat.le_of_lt h3) (Nat.le_mul_of_pos_right N hN))
  have e11:200*(N*N)*h=200*((N*N)*h):=Nat.mul_assoc ..
  have e12:B*(t*t)=(B*t)*t:=(Nat.mul_assoc ..).symm
  omega
 ·have q:B*l<2*N:=by
   refine Nat.lt_of_not_le fun hq=>?_
   have f1:(2*N)*(2*N)≤(B*l)*(B*l):=Nat.mul_le_mul hq hq
   have f2:(B*l)*(B*l)≤(B*l)*(2*(A*h)):=Nat.mul_le_mul_left _ (by omega)
   have f3:(B*l)*(2*(A*h))=2*((B*h)*(A*l)):=by ac_rfl
   have f4:(B*h)*(A*l)≤N*N:=Nat.mul_le_mul (Nat.le_of_lt h2) (Nat.le_of_lt h1)
   have f5:(2*N)*(2*N)=4*(N*N):=by rw[show 4=2*2 from rfl];ac_rfl
   have f6:1*1≤N*N:=Nat.mul_le_mul hN hN
   omega
  have g1:t≤D*t:=Nat.le_mul_of_pos_left t hD
  have g2:(B*t)*t≤(B*t)*(100*(s*l*h)):=Nat.mul_le_mul_left _ (Nat.le_trans g1 hDt)
  have g3:(B*t)*(100*(s*l*h))=100*(((s*t)*(B*l))*h):=by ac_rfl
  have g4:(s*t)*(B*l)≤N*(2*N):=Nat.mul_le_mul (Nat.le_of_lt h3) (Nat.le_of_lt q)
  have g5:((s*t)*(B*l))*h≤(N*(2*N))*h:=Nat.mul_le_mul_right _ g4
  have g6:(N*(2*N))*h=2*((N*N)*h):=by ac_rfl
  have g7:200*(N*N)*h=200*((N*N)*h):=Nat.mul_assoc ..
  have g8:B*(t*t)=(B*t)*t:=(Nat.mul_assoc ..).symm
  omega
abbrev N82:Nat:=10^82
structure AtH (L H O S:Rat):Prop where
 wL:Wt 82 L
 wH:Wt 82 H
 wS:Wt 82 S
 zL:Sz 82 L
 zH:Sz 82 H
 zO:Sz 82 O
 zS:Sz 82 S
 le:L≤H
 pos:0<S
 few:H≤L+((100:Nat):Rat)*S
section
variable {L H O S:Rat}
theorem rR {q:Rat} (h:0<q):0<q.num:=by
 have:=(Rat.lt_iff 0 q).1 h
 simpa using this
theorem AtH.t2 (h:AtH L H O S) (hlt:L<H):H.num.natAbs*(S.den*S.den)≤200*(N82*N82)*H.den∧L.num.natAbs*(S.den*S.den)≤200*(N82*N82)*L.den:=by
 have hs:=rR h.pos
 have h1:=(Rat.lt_iff L H).1 hlt
 have h2:=aN1 100 h.few
 have hl:=L.den_pos
 have hh:=H.den_pos
 have eX:(H.num*L.den).natAbs=H.num.natAbs*L.den:=by rw[Int.natAbs_mul,Int.natAbs_natCast]
 have eY:(L.num*H.den).natAbs=L.num.natAbs*H.den:=by rw[Int.natAbs_mul,Int.natAbs_natCast]
 obtain ⟨D,hD⟩:∃D:Nat,(D:Int)=H.num*L.den-L.num*H.den:=⟨(H.num*L.den-L.num*H.den).toNat,by omega⟩
 have hD1:1≤D:=by omega
 have hDt:D*S.den≤100*(S.num.natAbs*L.den*H.den):=by
  have es:((S.num.natAbs:Nat):Int)=S.num:=by omega
  have:((D*S.den:Nat):Int)≤((100*(S.num.natAbs*L.den*H.den):Nat):Int):=by
   push_cast
   rw[es,hD]
   push_cast at h2
   grind
  exact Int.ofNat_le.1 this
 have b1:H.num.natAbs*L.den≤D+L.num.natAbs*H.den:=by rw[← eX,← eY];omega
 have b2:L.num.natAbs*H.den≤D+H.num.natAbs*L.den:=by rw[← eX,← eY];omega
 refine ⟨bt2 hl hD1 hDt b1 h.wL h.wH h.wS,bt2 hh hD1 (Nat.le_trans hDt (Nat.le_of_eq (by ac_rfl))) b2 h.wH h.wL h.wS⟩
theorem AtH.xt (h:AtH L H O S) {x:Rat} (h1:L≤x) (h2:x≤H) (hd:x.den≤O.den*S.den):x.num.natAbs*S.den<10^250:=by
 have ho:=h.zO.2
 by_cases hlt:L<H
 ·obtain ⟨tH,tL⟩:=h.t2 hlt
  have key:∀ {q:Rat},q.num.natAbs*(S.den*S.den)≤200*(N82*N82)*q.den→x.num.natAbs*q.den≤q.num.natAbs*x.den→x.num.natAbs*S.den≤200*(N82*N82)*O.den:=fun {q} t e=>by
   have f1:q.num.natAbs*x.den≤q.num.natAbs*(O.den*S.den):=Nat.mul_le_mul_left _ hd
   have f2:(x.num.natAbs*q.den)*S.den≤(q.num.natAbs*(O.den*S.den))*S.den:=Nat.mul_le_mul_right _ (Nat.le_trans e f1)
   have f3:(q.num.natAbs*(O.den*S.den))*S.den=O.den*(q.num.natAbs*(S.den*S.den)):=by ac_rfl
   have f4:O.den*(q.num.natAbs*(S.den*S.den))≤O.den*(200*(N82*N82)*q.den):=Nat.mul_le_mul_left _ t
   have f5:(x.num.natAbs*S.den)*q.den≤(200*(N82*N82)*O.den)*q.den:=by
    have f6:(x.num.natAbs*S.den)*q.den=(x.num.natAbs*q.den)*S.den:=by ac_rfl
    have f7:(200*(N82*N82)*O.den)*q.den=O.den*(200*(N82*N82)*q.den):=by ac_rfl
    rw[f6,f7]
    exact Nat.le_trans f2 (by rw[f3];exact f4)
   exact Nat.le_of_mul_le_mul_right f5 q.den_pos
  have e1:=(Rat.le_iff L x).1 h1
  have e2:=(Rat.le_iff x H).1 h2
  have hb:x.num.natAbs*S.den≤200*(N82*N82)*O.den:=by
   by_cases hx:0≤x.num
   ·refine key tH ?_
    have a1:(x.num*H.den).natAbs=x.num.natAbs*H.den:=by rw[Int.natAbs_mul,Int.natAbs_natCast]
    have a2:(H.num*x.den).natAbs=H.num.natAbs*x.den:=by rw[Int.natAbs_mul,Int.natAbs_natCast]
    have a3:0≤x.num*H.den:=Int.mul_nonneg hx (by omega)
    rw[← a1,← a2];omega
   ·refine key tL ?_
    have a1:(x.num*L.den).natAbs=x.num.natAbs*L.den:=by rw[Int.natAbs_mul,Int.natAbs_natCast]
    have a2:(L.num*x.den).natAbs=L.num.natAbs*x.den:=by rw[Int.natAbs_mul,Int.natAbs_natCast]
    have a3:x.num*L.den≤0:=Int.mul_nonpos_of_nonpos_of_nonneg (by omega) (by omega)
    rw[← a1,← a2];omega
  refine Nat.lt_of_le_of_lt (Nat.le_trans hb (Nat.mul_le_mul_left _ (Nat.le_of_lt ho))) ?_
  decide
 ·have e:x=L:=Rat.le_antisymm (Rat.le_trans h2 (Rat.not_lt.1 hlt)) h1
  rw[e]
  refine Nat.lt_of_lt_of_le (Nat.mul_lt_mul'' h.zL.1 h.zS.2) ?_
  decide
theorem AtH.xh (h:AtH L H O S) {x:Rat} (h1:L≤x) (h2:x≤H+((100:Nat):Rat)*S) (hd:x.den≤O.den*S.den):x.num.natAbs*H.den<10^250:=by
 have hs:=rR h.pos
 have h1':H-((100:Nat):Rat)*S≤x:=by have:=h.few;grind
 have e1:=aN1 100 h2
 have e2:=aSn 100 h1'
 have ho:=h.zO.2
 have es:((S.num.natAbs:Nat):Int)=S.num:=by omega
 have c1:x.num.natAbs*(H.den*S.den)≤(H.num.natAbs*S.den+100*(S.num.natAbs*H.den))*x.den:=by
  have a1:(x.num*(H.den*S.den:Nat)).natAbs=x.num.natAbs*(H.den*S.den):=by rw[Int.natAbs_mul,Int.natAbs_natCast]
  have a2:((((H.num.natAbs*S.den+100*(S.num.natAbs*H.den))*x.den:Nat)):Int)=(H.num.natAbs*S.den)*x.den+(100*S.num*H.den)*x.den:=by
   push_cast
   rw[es]
   grind
  have a3:(H.num*S.den)*x.den≤((H.num.natAbs:Int)*S.den)*x.den:=Int.mul_le_mul_of_nonneg_right (Int.mul_le_mul_of_nonneg_right (by omega) (by omega)) (by omega)
  have a4:(-(H.num.natAbs:Int)*S.den)*x.den≤(H.num*S.den)*x.den:=Int.mul_le_mul_of_nonneg_right (Int.mul_le_mul_of_nonneg_right (by omega) (by omega)) (by omega)
  have a5:(H.num*S.den+(100:Nat)*S.num*H.den)*x.den=(H.num*S.den)*x.den+(100*S.num*H.den)*x.den:=by push_cast;grind
  have a6:(H.num*S.den-(100:Nat)*S.num*H.den)*x.den=(H.num*S.den)*x.den-(100*S.num*H.den)*x.den:=by push_cast;grind
  have a7:(-(H.num.natAbs:Int)*S.den)*x.den= -(((H.num.natAbs:Int)*S.den)*x.den):=by grind
  rw[← a1]
  rw[a5] at e1
  rw[a6] at e2
  omega
 have c2:(x.num.natAbs*H.den)*S.den≤((H.num.natAbs*S.den+100*(S.num.natAbs*H.den))*O.den)*S.den:=by
  have:=Nat.mul_le_mul_left (H.num.natAbs*S.den+100*(S.num.natAbs*H.den)) hd
  have b1:(x.num.natAbs*H.den)*S.den=x.num.natAbs*(H.den*S.den):=Nat.mul_assoc ..
  have b2:((H.num.natAbs*S.den+100*(S.num.natAbs*H.den))*O.den)*S.den=(H.num.natAbs*S.den+100*(S.num.natAbs*H.den))*(O.den*S.den):=Nat.mul_assoc ..
  omega
 have c3:=Nat.le_of_mul_le_mul_right c2 S.den_pos
 have d1:=Nat.mul_lt_mul'' h.zH.1 h.zS.2
 have d2:=Nat.mul_lt_mul'' h.zS.1 h.zH.2
 have d3:H.num.natAbs*S.den+100*(S.num.natAbs*H.den)≤101*(10^82*10^82):=by omega
 refine Nat.lt_of_le_of_lt (Nat.le_trans c3 (Nat.mul_le_mul d3 (Nat.le_of_lt ho))) ?_
 decide
theorem aRz {P Q S:Rat} (zP:Sz 82 P) (zQ:Sz 82 Q) (zS:Sz 82 S) (hS:0<S):(flI ((P-Q)/S)).natAbs*S.num.natAbs<10^165:=by
 have hs:=rR hS
 have es:((S.num.natAbs:Nat):Int)=S.num:=by omega
 have k1:((flI ((P-Q)/S):Int):Rat)*S≤P-Q:=(kK hS).1 (qO _)
 have k2:P-Q≤((flI ((P-Q)/S)+1:Int):Rat)*S:=by
  have:=Rat.le_of_lt (Rat.not_le.1 fun h=>Rat.not_le.2 (oA ((P-Q)/S)) ((kK hS).2 h))
  exact this
 generalize flI ((P-Q)/S)=k at*
 have hP:=P.den_pos
 have hQ:=Q.den_pos
 have nn:(0:Rat)≤((S.den:Nat):Rat)*(((P.den:Nat):Rat)*((Q.den:Nat):Rat)):=Rat.mul_nonneg (mR S) (Rat.mul_nonneg (mR P) (mR Q))
 have i1:k*S.num*(P.den*Q.den:Nat)≤(P.num*Q.den-Q.num*P.den)*S.den:=by
  apply Rat.intCast_le_intCast.1
  simp only[Rat.intCast_mul,Rat.intCast_sub,Rat.intCast_natCast,Rat.natCast_mul,aDg]
  have:=Rat.mul_le_mul_of_nonneg_right k1 nn
  grind
 have i2:(P.num*Q.den-Q.num*P.den)*S.den≤(k+1)*S.num*(P.den*Q.den:Nat):=by
  apply Rat.intCast_le_intCast.1
  rw[Rat.intCast_mul,Rat.intCast_mul ((k+1)*S.num),Rat.intCast_mul (k+1),Rat.intCast_sub]
  simp only[Rat.intCast_mul,Rat.intCast_natCast,Rat.natCast_mul,aDg]
  have:=Rat.mul_le_mul_of_nonneg_right k2 nn
  grind
 have m1:P.num.natAbs*Q.den≤P.num.natAbs*(P.den*Q.den):=Nat.mul_le_mul_left _ (Nat.le_mul_of_pos_left _ hP)
 have m2:Q.num.natAbs*P.den≤Q.num.natAbs*(P.den*Q.den):=Nat.mul_le_mul_left _ (Nat.le_mul_of_pos_right _ hQ)
 have a1:(P.num*Q.den).natAbs=P.num.natAbs*Q.den:=by rw[Int.natAbs_mul,Int.natAbs_natCast]
 have a2:(Q.num*P.den).natAbs=Q.num.natAbs*P.den:=by rw[Int.natAbs_mul,Int.natAbs_natCast]
 have m3:(P.num*Q.den-Q.num*P.den).natAbs≤(P.num.natAbs+Q.num.natAbs)*(P.den*Q.den):=by
  rw[Nat.add_mul];omega
 have m4:((P.num*Q.den-Q.num*P.den)*S.den).natAbs≤((P.num.natAbs+Q.num.natAbs)*S.den)*(P.den*Q.den):=by
  rw[Int.natAbs_mul,Int.natAbs_natCast]
  refine Nat.le_trans (Nat.mul_le_mul_right _ m3) (Nat.le_of_eq (by ac_rfl))
 have hd:0<P.den*Q.den:=Nat.mul_pos hP hQ
 have key:k.natAbs*S.num.natAbs≤(P.num.natAbs+Q.num.natAbs)*S.den+S.num.natAbs:=by
  by_cases hk:0≤k
  ·have f1:(k*S.num*(P.den*Q.den:Nat)).natAbs=(k.natAbs*S.num.natAbs)*(P.den*Q.den):=by rw[Int.natAbs_mul,Int.natAbs_mul,Int.natAbs_natCast]
   have f2:0≤k*S.num*(P.den*Q.den:Nat):=Int.mul_nonneg (Int.mul_nonneg hk (by omega)) (by omega)
   have f3:(k.natAbs*S.num.natAbs)*(P.den*Q.den)≤((P.num.natAbs+Q.num.natAbs)*S.den)*(P.den*Q.den):=by rw[← f1];omega
   have:=Nat.le_of_mul_le_mul_right f3 hd
   omega
  ·have f1:((k+1)*S.num*(P.den*Q.den:Nat)).natAbs=((k+1).natAbs*S.num.natAbs)*(P.den*Q.den):=by rw[Int.natAbs_mul,Int.natAbs_mul,Int.natAbs_natCast]
   have f2:(k+1)*S.num*(P.den*Q.den:Nat)≤0:=Int.mul_nonpos_of_nonpos_of_nonneg (Int.mul_nonpos_of_nonpos_of_nonneg (by omega) (by omega)) (by omega)
   have f3:((k+1).natAbs*S.num.natAbs)*(P.den*Q.den)≤((P.num.natAbs+Q.num.natAbs)*S.den)*(P.den*Q.den):=by rw[← f1];omega
   have f4:=Nat.le_of_mul_le_mul_right f3 hd
   have f5:k.natAbs=(k+1).natAbs+1:=by omega
   rw[f5,Nat.add_mul,Nat.one_mul]
   omega
 have d1:(P.num.natAbs+Q.num.natAbs)*S.den≤(10^82+10^82)*10^82:=Nat.mul_le_mul (Nat.add_le_add (Nat.le_of_lt zP.1) (Nat.le_of_lt zQ.1)) (Nat.le_of_lt zS.2)
 have d2:=zS.1
 have d3:(10^82+10^82)*10^82+10^82<10^165:=by decide
 omega
end
theorem aDa (q:Rat):(flI q).natAbs≤q.num.natAbs:=kZ _ _
theorem aDb {q:Rat} {k:Nat} (h:Sz k q) (hk:0<k∧k≤300):flQ (numS q)=(itoa (flI q),0):=by
 unfold flQ
 rw[if_pos (eH h hk),bL];rfl
theorem aJq {n:Int} {k:Nat} (h:n.natAbs<10^k) (hk:0<k∧k≤300):inQ (itoa n)=if n < -4611686018427387904∨4611686018427387904<n then (0,2) else (n,0):=by
 unfold inQ
 rw[← dV,if_pos (eH (tQ h hk.1) hk),bL,if_pos (Rat.den_intCast n),Rat.num_intCast]
theorem aP5 (n:Int):ofQ n 1=(itoa n,0):=by
 unfold ofQ
 rw[if_neg (by decide)]
 have:Rat.divInt n 1=(n:Rat):=Rat.num_divInt_den (n:Rat)
 rw[this,dV]
section
variable {L H O S:Rat}
noncomputable abbrev atX (L O S:Rat) (i:Nat):Rat:=cT L O S+S*((i:Int):Rat)
theorem aSh (i:Nat):atX L O S i=O-((aZ L O S-i:Int):Rat)*S:=by
 unfold atX cT
 rw[Rat.intCast_sub]
 grind
theorem rS:atX L O S 0=cT L O S:=by
 unfold atX
 rw[show (((0:Nat):Int):Rat)=0 from rfl,Rat.mul_zero,Rat.add_zero]
theorem aFy (i:Nat):atX L O S (i+1)=atX L O S i+S:=by
 unfold atX
 rw[show ((i+1:Nat):Int)=(i:Int)+1 by omega,Rat.intCast_add,Rat.intCast_one]
 grind
theorem aFz (K:Int):(O-(K:Rat)*S).den≤O.den*S.den:=by
 rw[pE]
 refine Nat.le_trans (pC _ (qT _ _)).2 (Nat.mul_le_mul_left _ ?_)
 rw[pF]
 refine Nat.le_trans (pC _ (qT _ _)).2 ?_
 rw[Rat.den_intCast,Nat.one_mul];exact Nat.le_refl _
theorem vJ (i:Nat):(atX L O S i).den≤O.den*S.den:=by rw[aSh];exact aFz _
theorem uO (K:Int) (S:Rat):((K:Rat)*S).num.natAbs≤K.natAbs*S.num.natAbs∧((K:Rat)*S).den≤S.den:=by
 rw[pF]
 obtain ⟨h1,h2⟩:=pC ((K:Rat).num*S.num) (qT (K:Rat) S)
 rw[Rat.num_intCast,Int.natAbs_mul] at h1
 exact ⟨h1,Nat.le_trans h2 (by rw[Rat.den_intCast,Nat.one_mul];exact Nat.le_refl _)⟩
theorem AtH.count (h:AtH L H O S): -1≤aZ L O S+cX H O S∧aZ L O S+cX H O S≤100:=by
 have hS:=h.pos
 have a1:((aZ L O S:Int):Rat)*S≤O-L:=(kK hS).1 (qO _)
 have a2:((cX H O S:Int):Rat)*S≤H-O:=(kK hS).1 (qO _)
 have b1:O-L≤((aZ L O S+1:Int):Rat)*S:=Rat.le_of_lt (Rat.not_le.1 fun h=>Rat.not_le.2 (oA _) ((kK hS).2 h))
 have b2:H-O≤((cX H O S+1:Int):Rat)*S:=Rat.le_of_lt (Rat.not_le.1 fun h=>Rat.not_le.2 (oA _) ((kK hS).2 h))
 have b1':¬((aZ L O S+1:Int):Rat)*S≤O-L:=fun h=>Rat.not_le.2 (oA _) ((kK hS).2 h)
 have b2':¬((cX H O S+1:Int):Rat)*S≤H-O:=fun h=>Rat.not_le.2 (oA _) ((kK hS).2 h)
 generalize aZ L O S=x at*
 generalize cX H O S=y at*
 have few:=h.few
 have le:=h.le
 constructor
 ·refine Int.not_lt.1 fun hlt=>?_
  have h1:((x+1+(y+1):Int):Rat)≤((0:Int):Rat):=Rat.intCast_le_intCast.2 (by omega)
  have h2:=Rat.mul_le_mul_of_nonneg_right h1 (Rat.le_of_lt hS)
  rw[Rat.intCast_add (x+1),Rat.add_mul,Rat.intCast_zero,Rat.zero_mul] at h2
  have h3:=Rat.not_le.1 b1'
  have h4:=Rat.not_le.1 b2'
  generalize ((x+1:Int):Rat)*S=u at*
  generalize ((y+1:Int):Rat)*S=v at*
  grind
 ·refine Int.not_lt.1 fun hlt=>?_
  have h1:((101:Int):Rat)≤((x+y:Int):Rat):=Rat.intCast_le_intCast.2 (by omega)
  have h2:=Rat.mul_le_mul_of_nonneg_right h1 (Rat.le_of_lt hS)
  rw[Rat.intCast_add,Rat.add_mul] at h2
  have e:((101:Int):Rat)*S=((100:Nat):Rat)*S+S:=by
   rw[show ((101:Int):Rat)=((100:Nat):Rat)+1 from Rat.intCast_add 100 1,Rat.add_mul,Rat.one_mul]
  rw[e] at h2
  generalize ((100:Nat):Rat)*S=w at*
  generalize (x:Rat)*S=u at*
  generalize (y:Rat)*S=v at*
  grind
theorem AtH.f1 (h:AtH L H O S):subQ (numS O) (numS L)=(numS (O-L),0):=gZ h.zO h.zL (by decide) (by decide) (by decide)
theorem AtH.f4 (h:AtH L H O S):subQ (numS H) (numS O)=(numS (H-O),0):=gZ h.zH h.zO (by decide) (by decide) (by decide)
theorem gJ {S:Rat} (h:0<S):S≠0:=fun e=>Rat.lt_irrefl (e ▸ h)
theorem AtH.f2 (h:AtH L H O S):divQ (numS (O-L)) (numS S)=(numS ((O-L)/S),0):=kS (h.zO.sub h.zL) h.zS (by decide) (by decide) (by decide) (gJ h.pos)
theorem AtH.f5 (h:AtH L H O S):divQ (numS (H-O)) (numS S)=(numS ((H-O)/S),0):=kS (h.zH.sub h.zO) h.zS (by decide) (by decide) (by decide) (gJ h.pos)
theorem AtH.f3 (h:AtH L H O S):flQ (numS ((O-L)/S))=(itoa (aZ L O S),0):=aDb ((h.zO.sub h.zL).div h.zS (gJ h.pos)) ⟨by decide,by decide⟩
theorem AtH.f6 (h:AtH L H O S):flQ (numS ((H-O)/S))=(itoa (cX H O S),0):=aDb ((h.zH.sub h.zO).div h.zS (gJ h.pos)) ⟨by decide,by decide⟩
theorem AtH.below (h:AtH L H O S):(aZ L O S).natAbs*S.num.natAbs<10^165∧(aZ L O S).natAbs<10^165:=by
 have h1:=aRz h.zO h.zL h.zS h.pos
 have hs:=rR h.pos
 exact ⟨h1,Nat.lt_of_le_of_lt (Nat.le_mul_of_pos_right _ (by omega)) h1⟩
theorem AtH.above (h:AtH L H O S):(cX H O S).natAbs<10^165:=by
 have h1:=aRz h.zH h.zO h.zS h.pos
 have hs:=rR h.pos
 exact Nat.lt_of_le_of_lt (Nat.le_mul_of_pos_right _ (by omega)) h1
theorem AtH.f7 (h:AtH L H O S):addQ (itoa (aZ L O S)) (itoa (cX H O S))=(itoa (aZ L O S+cX H O S),0):=by
 have:=aH3 (p:=((aZ L O S:Int):Rat)) (q:=((cX H O S:Int):Rat)) (k:=165) ⟨by decide,by decide⟩ (by rw[Rat.num_intCast,Rat.den_intCast,Nat.mul_one];exact h.below.2) (by rw[Rat.num_intCast,Rat.den_intCast,Nat.mul_one];exact h.above) (by rw[Rat.den_intCast,Rat.den_intCast];decide)
 rwa [← Rat.intCast_add,dV,dV,dV] at this
theorem AtH.f9 (h:AtH L H O S):inQ (itoa (aZ L O S+cX H O S))=(aZ L O S+cX H O S,0):=by
 obtain ⟨h1,h2⟩:=h.count
 rw[aJq (k:=4) (by have:(10:Nat)^4=10000:=(by decide);omega) ⟨by decide,by decide⟩,if_neg (by omega)]
theorem AtH.f10 (h:AtH L H O S):mulQ (itoa (aZ L O S)) (numS S)=(numS (((aZ L O S:Int):Rat)*S),0):=by
 have z1:Sz 165 ((aZ L O S:Int):Rat):=tQ h.below.2 (by decide)
 have:=aSl (k:=165) ⟨by decide,by decide⟩ z1 (h.zS.mono (by decide)) (by rw[Rat.num_intCast];exact h.below.1) (by rw[Rat.den_intCast,Nat.one_mul];exact (h.zS.mono (j:=165) (by decide)).2)
 rwa [dV] at this
theorem AtH.f11 (h:AtH L H O S):subQ (numS O) (numS (((aZ L O S:Int):Rat)*S))=(numS (cT L O S),0):=by
 obtain ⟨i1,i2⟩:=uO (aZ L O S) S
 have hb:=h.below.1
 have zO:=h.zO
 have zS:=h.zS
 refine aSk (k:=249) ⟨by decide,by decide⟩ ?_ ?_ ?_
 ·refine Nat.lt_of_le_of_lt (Nat.mul_le_mul (Nat.le_of_lt zO.1) (Nat.le_trans i2 (Nat.le_of_lt zS.2))) ?_
  decide
 ·refine Nat.lt_of_le_of_lt (Nat.mul_le_mul (Nat.le_trans i1 (Nat.le_of_lt hb)) (Nat.le_of_lt zO.2)) ?_
  decide
 ·refine Nat.lt_of_le_of_lt (Nat.mul_le_mul (Nat.le_of_lt zO.2) (Nat.le_trans i2 (Nat.le_of_lt zS.2))) ?_
  decide
theorem AtH.f12 (h:AtH L H O S) {i:Nat} (hi:i≤1000):mulQ (numS S) (itoa i)=(numS (S*((i:Int):Rat)),0):=by
 have z1:Sz 4 ((i:Int):Rat):=tQ (by rw[Int.natAbs_natCast];have:(10:Nat)^4=10000:=(by decide);omega) (by decide)
 have:=aK4 h.zS z1 (by decide) (by decide) (by decide)
 rwa [dV] at this
theorem aF0 (K:Int) (S:Rat):(S*(K:Rat)).num.natAbs≤K.natAbs*S.num.natAbs∧(S*(K:Rat)).den≤S.den:=by
 rw[Rat.mul_comm];exact uO K S
theorem AtH.in (h:AtH L H O S) {i:Nat} (hi:(i:Int)<eZ L H O S):L≤atX L O S i∧atX L O S i≤H:=by
 refine ⟨?_,(at_in h.pos i).2 hi⟩
 have h1:=(aH2 (L:=L) (O:=O) h.pos).1
 have h2:0≤S*((i:Int):Rat):=Rat.mul_nonneg (Rat.le_of_lt h.pos) (Rat.intCast_nonneg.2 (by omega))
 show L≤cT L O S+ _
 generalize S*((i:Int):Rat)=u at*
 grind
theorem AtH.f13 (h:AtH L H O S) {i:Nat} (hi:(i:Int)<eZ L H O S):addQ (numS (cT L O S)) (numS (S*((i:Int):Rat)))=(numS (atX L O S i),0):=by
 have hc:=h.count
 have hi2:i≤100:=by unfold eZ at hi;omega
 obtain ⟨i1,i2⟩:=aF0 (i:Int) S
 have r:=h.in (i:=0) (by omega)
 rw[rS] at r
 have hx:=h.xt r.1 r.2 (by rw[← rS];exact vJ 0)
 have hd:(cT L O S).den≤O.den*S.den:=by rw[← rS];exact vJ 0
 have zO:=h.zO.2
 have zS:=h.zS
 have hd2:(cT L O S).den≤10^82*10^82:=Nat.le_trans hd (Nat.mul_le_mul (Nat.le_of_lt zO) (Nat.le_of_lt zS.2))
 refine aH3 (k:=250) ⟨by decide,by decide⟩ ?_ ?_ ?_
 ·exact Nat.lt_of_le_of_lt (Nat.mul_le_mul_left _ i2) hx
 ·refine Nat.lt_of_le_of_lt (Nat.mul_le_mul (Nat.le_trans i1 (Nat.mul_le_mul (show (i:Int).natAbs≤100 by omega) (Nat.le_of_lt zS.1))) hd2) ?_
  decide
 ·refine Nat.lt_of_le_of_lt (Nat.mul_le_mul hd2 (Nat.le_trans i2 (Nat.le_of_lt zS.2))) ?_
  decide
theorem AtH.f15 (h:AtH L H O S) {i:Nat} (hi:(i:Int)<eZ L H O S):addQ (numS (atX L O S i)) (numS S)=(numS (atX L O S (i+1)),0):=by
 obtain ⟨r1,r2⟩:=h.in hi
 have hd:=vJ (L:=L) (O:=O) (S:=S) i
 have hx:=h.xt r1 r2 hd
 have zO:=h.zO.2
 have zS:=h.zS
 have hd2:(atX L O S i).den≤10^82*10^82:=Nat.le_trans hd (Nat.mul_le_mul (Nat.le_of_lt zO) (Nat.le_of_lt zS.2))
 rw[aFy]
 refine aH3 (k:=250) ⟨by decide,by decide⟩ hx ?_ ?_
 ·refine Nat.lt_of_le_of_lt (Nat.mul_le_mul (Nat.le_of_lt zS.1) hd2) ?_
  decide
 ·refine Nat.lt_of_le_of_lt (Nat.mul_le_mul hd2 (Nat.le_of_lt zS.2)) ?_
  decide
theorem AtH.f14 (h:AtH L H O S) {i:Nat} (hi:(i:Int)≤eZ L H O S):cmpQ (numS (atX L O S i)) (numS H)=(cmpR (atX L O S i) H,0):=by
 have hd:=vJ (L:=L) (O:=O) (S:=S) i
 have zO:=h.zO.2
 have zS:=h.zS
 have zH:=h.zH
 have hd2:(atX L O S i).den≤10^82*10^82:=Nat.le_trans hd (Nat.mul_le_mul (Nat.le_of_lt zO) (Nat.le_of_lt zS.2))
 have hS:=h.pos
 have le1:L≤atX L O S i:=by
  have h1:=(aH2 (L:=L) (O:=O) hS).1
  have h2:0≤S*((i:Int):Rat):=Rat.mul_nonneg (Rat.le_of_lt hS) (Rat.intCast_nonneg.2 (by omega))
  show L≤cT L O S+ _
  generalize S*((i:Int):Rat)=u at*
  grind
 have h100:S≤((100:Nat):Rat)*S:=by
  have:=Rat.mul_le_mul_of_nonneg_right (show (1:Rat)≤((100:Nat):Rat) by decide) (Rat.le_of_lt hS)
  rwa [Rat.one_mul] at this
 have le2:atX L O S i≤H+((100:Nat):Rat)*S:=by
  have:atX L O S i≤H+S:=by
   rcases i with _ | j
   ·rw[rS]
    have h1:=(aH2 (L:=L) (O:=O) hS).2
    have:=h.le
    grind
   ·rw[aFy]
    have:=(h.in (i:=j) (by omega)).2
    exact Rat.add_le_add_right.2 this
  generalize ((100:Nat):Rat)*S=w at*
  grind
 have hx:=h.xh le1 le2 hd
 have n1:=H.den_pos
 have n2:=S.den_pos
 refine aN0 (k:=250) ⟨by decide,by decide⟩ ⟨Nat.lt_of_le_of_lt (Nat.le_mul_of_pos_right _ n1) hx,Nat.lt_of_le_of_lt hd2 (by decide)⟩ (zH.mono (by decide)) hx ?_
 refine Nat.lt_of_le_of_lt (Nat.mul_le_mul (Nat.le_of_lt zH.1) hd2) ?_
 decide
end
noncomputable def atW (lo hi o s:List UInt8):List (List UInt8) × Int:=if ¬rgP lo hi∨chkQ o≠0∨chkQ s≠0 then ([],1) else if ¬0<valQ s then ([],2) else ((atR (valQ lo) (valQ hi) (valQ o) (valQ s)).map numS,0)
noncomputable def evW (lo hi m:List UInt8):List (List UInt8) × Int:=if ¬rgP lo hi∨chkQ m≠0 then ([],1) else if ¬0<valQ m then ([],2) else if lo=hi then ([lo],0) else if 4095<clI ((valQ hi-valQ lo)/valQ m) then ([],4) else ((evR (valQ lo) (valQ hi) (valQ m)).map numS,0)
structure EvH (L H M:Rat):Prop where
 zL:Sz 82 L
 zH:Sz 82 H
 zM:Sz 82 M
 lt:L<H
 pos:0<M
section
variable {L H M:Rat}
noncomputable abbrev evC (L H M:Rat):Int:=clI ((H-L)/M)
theorem EvH.e1 (h:EvH L H M):subQ (numS H) (numS L)=(numS (H-L),0):=gZ h.zH h.zL (by decide) (by decide) (by decide)
theorem EvH.e2 (h:EvH L H M):divQ (numS (H-L)) (numS M)=(numS ((H-L)/M),0):=kS (h.zH.sub h.zL) h.zM (by decide) (by decide) (by decide) (gJ h.pos)
theorem EvH.sq (h:EvH L H M):Sz 247 ((H-L)/M):=(h.zH.sub h.zL).div h.zM (gJ h.pos)
theorem EvH.e3 (h:EvH L H M):flQ (numS ((H-L)/M))=(itoa (flI ((H-L)/M)),0):=aDb h.sq ⟨by decide,by decide⟩
theorem EvH.e3i (h:EvH L H M):inQ (itoa (flI ((H-L)/M)))=if flI ((H-L)/M) < -4611686018427387904∨4611686018427387904<flI ((H-L)/M) then (0,2) else (flI ((H-L)/M),0):=aJq (k:=247) (Nat.lt_of_le_of_lt (aDa _) h.sq.1) ⟨by decide,by decide⟩
theorem aLv (q:Rat):(itoa (flI q)=numS q∧clI q=flI q)∨(¬itoa (flI q)=numS q∧clI q=flI q+1):=by
 unfold clI
 by_cases h:((flI q:Int):Rat)=q
 ·exact .inl ⟨(aNx q).2 h,if_pos h⟩
 ·exact .inr ⟨fun h'=>h ((aNx q).1 h'),if_neg h⟩
theorem EvH.cpos (h:EvH L H M):0<evC L H M:=aDf h.lt h.pos
theorem sz4 {n:Int} (h0:0≤n) (h:n≤5000):Sz 4 (n:Rat):=tQ (by have:(10:Nat)^4=10000:=(by decide);omega) (by decide)
theorem EvH.st (h:EvH L H M) (hc:evC L H M≤4095):Sz 169 (cL L H M):=by
 have h0:=h.cpos
 have h1:0<clI ((H-L)/M):=h0
 have h2:clI ((H-L)/M)≤4095:=hc
 refine (h.zH.sub h.zL).div (sz4 (by omega) (by omega)) fun e=>?_
 have:=Rat.intCast_eq_zero_iff.1 e
 omega
theorem EvH.e4 (h:EvH L H M) (hc:evC L H M≤4095):divQ (numS (H-L)) (itoa (evC L H M))=(numS (cL L H M),0):=by
 have h0:=h.cpos
 have:=kS (h.zH.sub h.zL) (sz4 (n:=evC L H M) (by omega) (by omega)) (by decide) (by decide) (by decide) (fun e=>by
  have:=Rat.intCast_eq_zero_iff.1 e
  omega)
 rwa [dV] at this
theorem EvH.e5 (h:EvH L H M) (hc:evC L H M≤4095) {k:Nat} (hk:k≤5000):mulQ (numS (cL L H M)) (itoa k)=(numS (cL L H M*((k:Int):Rat)),0):=by
 have:=aK4 (h.st hc) (sz4 (n:=(k:Int)) (by omega) (by omega)) (by decide) (by decide) (by decide)
 rwa [dV] at this
theorem EvH.e6 (h:EvH L H M) (hc:evC L H M≤4095) {k:Nat} (hk:k≤5000):addQ (numS L) (numS (cL L H M*((k:Int):Rat)))=(numS (L+cL L H M*((k:Int):Rat)),0):=
 aK3 h.zL ((h.st hc).mul (sz4 (n:=(k:Int)) (by omega) (by omega))) (by decide) (by decide) (by decide)
theorem aSi (q:Rat):flI (-q)= -clI q:=by
 apply Int.le_antisymm
 ·have h1:=qO (-q)
  have h2:q≤((-flI (-q):Int):Rat):=by rw[Rat.intCast_neg];exact Rat.le_neg_iff.1 (by grind)
  have h3:=aH0 q
  have h4:((clI q-1:Int):Rat)<((-flI (-q):Int):Rat):=Rat.not_le.1 fun h=>Rat.not_le.2 h3 (Rat.le_trans h2 h)
  have:=Rat.intCast_lt_intCast.1 h4
  omega
 ·rw[← aNz,Rat.intCast_neg]
  exact Rat.neg_le_neg (aHz q)
theorem EvH.r1 (h:EvH L H M):subQ (numS L) (numS H)=(numS (L-H),0):=gZ h.zL h.zH (by decide) (by decide) (by decide)
theorem EvH.r2 (h:EvH L H M):divQ (numS (L-H)) (numS M)=(numS ((L-H)/M),0):=kS (h.zL.sub h.zH) h.zM (by decide) (by decide) (by decide) (gJ h.pos)
theorem neg_q:(L-H)/M= -((H-L)/M):=by
 rw[Rat.div_def,Rat.div_def,← Rat.neg_mul]
 congr 1
 grind
theorem EvH.sq' (h:EvH L H M):Sz 247 ((L-H)/M):=(h.zL.sub h.zH).div h.zM (gJ h.pos)
theorem EvH.r3 (h:EvH L H M):flQ (numS ((L-H)/M))=(itoa (-evC L H M),0):=by
 rw[aDb h.sq' ⟨by decide,by decide⟩,neg_q,aSi]
theorem EvH.r4 (h:EvH L H M) (hc:evC L H M≤4095):divQ (numS (L-H)) (itoa (-evC L H M))=(numS (cL L H M),0):=by
 have h0:=h.cpos
 have z:Sz 4 ((-evC L H M:Int):Rat):=tQ (by have:(10:Nat)^4=10000:=(by decide);omega) (by decide)
 have:=kS (h.zL.sub h.zH) z (by decide) (by decide) (by decide) (fun e=>by
  have:=Rat.intCast_eq_zero_iff.1 e
  omega)
 rw[dV] at this
 rw[this]
 unfold cL
 have hc0:((evC L H M:Int):Rat)≠0:=fun e=>by
  have:=Rat.intCast_eq_zero_iff.1 e
  omega
 have e1:(H-L)/((evC L H M:Int):Rat)*((evC L H M:Int):Rat)=H-L:=Rat.div_mul_cancel hc0
 have hc1:((-evC L H M:Int):Rat)≠0:=fun e=>by
  have:=Rat.intCast_eq_zero_iff.1 e
  omega
 have e2:(L-H)/((-evC L H M:Int):Rat)*((-evC L H M:Int):Rat)=L-H:=Rat.div_mul_cancel hc1
 rw[Rat.intCast_neg] at e2 ⊢
 have e3:((L-H) / -((evC L H M:Int):Rat)-(H-L)/((evC L H M:Int):Rat))*((evC L H M:Int):Rat)=0:=by grind
 rcases Rat.mul_eq_zero.1 e3 with e | e
 ·congr 2
  show _=(H-L)/((evC L H M:Int):Rat)
  grind
 ·exact absurd e hc0
end
def grS1 (a:List UInt8):Prop:=aK5 a∨(82<a.length∧chkQ a=0)
def grtS (l:List (List UInt8)):Prop:=(∃a∈l,grS1 a)∨16<l.length
noncomputable instance (l:List (List UInt8)):Decidable (grtS l):=Classical.propDecidable _
theorem Lm.sub {l m:List (List UInt8)} (h:Lm l) (hs:∀a∈m,a∈l):Lm m:=fun a ha=>h a (hs a ha)
def iN (s:List UInt8):Prop:=20<s.length∨chkQ s≠0
noncomputable instance (s:List UInt8):Decidable (iN s):=Classical.propDecidable _
noncomputable instance:DecidablePred iN:=fun s=>Classical.propDecidable _
def shS (l:List (List UInt8)):Prop:=∀a∈l,a.length≤20∧chkQ a=0
noncomputable instance (l:List (List UInt8)):Decidable (shS l):=Classical.propDecidable _
theorem aP6 (l:List (List UInt8)):¬0≤ixD iN l↔shS l:=by
 rw[sB]
 unfold shS iN
 constructor
 ·intro h a ha
  refine ⟨?_,?_⟩
  ·exact Nat.le_of_not_lt fun h1=>h ⟨a,ha,.inl h1⟩
  ·exact Classical.byContradiction fun h1=>h ⟨a,ha,.inr h1⟩
 ·rintro h ⟨a,ha,hb⟩
  have:=h a ha
  rcases hb with hb | hb
  ·omega
  ·exact hb this.2
def rT (l:List (List UInt8)):Prop:=(l.length≤16∧shS l)∧ckS l=0
noncomputable instance (l:List (List UInt8)):Decidable (rT l):=Classical.propDecidable _
theorem aP7 {l:List (List UInt8)} (h:shS l):∃qs:List Rat,l=qs.map numS∧∀q∈qs,Sz 20 q:=aJo (by decide) h
theorem aDc {l:List (List UInt8)} (h:shS l):Lm l:=fun a ha _=>Nat.le_trans (h a ha).1 (by decide)
theorem oZ {l:List (List UInt8)} (h:rT l):∃qs:List Rat,l=qs.map numS∧(∀q∈qs,Sz 20 q)∧Asc qs∧qs.length≤16:=by
 obtain ⟨⟨h1,h2⟩,h3⟩:=h
 obtain ⟨qs,e,hq⟩:=aP7 h2
 subst e
 exact ⟨qs,rfl,hq,(aJm (k:=20) ⟨by decide,by decide⟩ qs hq).1 (qN h3).2,by simpa using h1⟩
theorem aSj {qs:List Rat} {k:Nat} (hk:0<k∧k≤150) (hq:∀q∈qs,Sz k q) (ha:Asc qs) (hl:qs.length≤4096):ckS (qs.map numS)=0:=by
 unfold ckS
 rw[if_neg (by rw[List.length_map];omega)]
 exact (aJm hk qs hq).2 ha
def mnP (q:List UInt8):Prop:=(cmpQ q [53,48,48,48]).2=0∧0<(cmpQ q [53,48,48,48]).1
noncomputable instance (q:List UInt8):Decidable (mnP q):=Classical.propDecidable _
def fwP (lo hi s:List UInt8):Prop:=(subQ hi lo).2≠0∨(divQ (subQ hi lo).1 s).2≠0∨(cmpQ (divQ (subQ hi lo).1 s).1 [49,48,48]).2≠0∨(cmpQ (divQ (subQ hi lo).1 s).1 [49,48,48]).1≤0∨mnP (divQ (subQ hi lo).1 s).1
noncomputable instance (lo hi s:List UInt8):Decidable (fwP lo hi s):=Classical.propDecidable _
theorem dec3 {i:Nat} (h1:¬i<100) (h2:i<1000):decDigits i= [UInt8.ofNat (48+i/10/10),UInt8.ofNat (48+i/10%10),UInt8.ofNat (48+i%10)]:=by
 rw[decDigits,dif_neg (by omega),decDigits_two (by omega) (by omega)];rfl
theorem dec4 {i:Nat} (h1:¬i<1000) (h2:i<10000):decDigits i= [UInt8.ofNat (48+i/10/10/10),UInt8.ofNat (48+i/10/10%10),UInt8.ofNat (48+i/10%10),UInt8.ofNat (48+i%10)]:=by
 rw[decDigits,dif_neg (by omega),dec3 (by omega) (by omega)];rfl
theorem aNr (n:Nat):itoa (n:Int)=decDigits n:=by
 unfold itoa
 rw[if_neg (by omega),Int.toNat_natCast]
theorem mP (n:Nat):numS ((n:Int):Rat)=decDigits n:=by rw[dV,aNr]
theorem n100:numS 100= [49,48,48]:=(mP 100).trans (dec3 (by decide) (by decide))
theorem n400:numS 400= [52,48,48]:=(mP 400).trans (dec3 (by decide) (by decide))
theorem n500:numS 500= [53,48,48]:=(mP 500).trans (dec3 (by decide) (by decide))
theorem n900:numS 900= [57,48,48]:=(mP 900).trans (dec3 (by decide) (by decide))
theorem aR0:numS 1000= [49,48,48,48]:=(mP 1000).trans (dec4 (by decide) (by decide))
theorem n4:numS 4= [52]:=(mP 4).trans (cF (by decide))
theorem n10:numS 10= [49,48]:=(mP 10).trans (decDigits_two (by decide) (by decide))
theorem n10_3:numS (mkRat 10 3)= [49,48,47,51]:=by
 unfold numS
 rw[show (mkRat 10 3).num=((10:Nat):Int) by decide,show (mkRat 10 3).den=3 by decide,if_neg (by decide),aNr,decDigits_two (by decide) (by decide),cF (by decide)];rfl
theorem n20_3:numS (mkRat 20 3)= [50,48,47,51]:=by
 unfold numS
 rw[show (mkRat 20 3).num=((20:Nat):Int) by decide,show (mkRat 20 3).den=3 by decide,if_neg (by decide),aNr,decDigits_two (by decide) (by decide),cF (by decide)];rfl
theorem aDd {L H:Rat} {k:Nat} (zL:Sz k L) (zH:Sz k H) (hk:0<k∧k≤150):rgP (numS L) (numS H)↔L≤H:=by
 unfold rgP
 rw[hU zL zH hk.1 hk.1 (by omega)]
 have h1:=eJ H L
 have h2:=oI H L
 constructor
 ·intro h
  refine Rat.not_lt.1 fun hlt=>?_
  have:=h1.2 hlt
  have:=h.2
  dsimp only at this
  omega
 ·intro h
  have:¬cmpR H L<0:=fun h'=>Rat.not_le.2 (h1.1 h') h
  exact ⟨rfl,by dsimp only;omega⟩
theorem aR1:atW [48] [49,48,48,48] [49,48,48] [52,48,48]=([[49,48,48],[53,48,48],[57,48,48]],0):=by
 have z0:Sz 4 0:=⟨by decide,by decide⟩
 have z1:Sz 4 1000:=⟨by decide,by decide⟩
 have z2:Sz 4 100:=⟨by decide,by decide⟩
 have z3:Sz 4 400:=⟨by decide,by decide⟩
 rw[← aR0,← n100,← n400,← n500,← n900,← numS0]
 unfold atW
 simp only[bL]
 rw[if_neg,if_neg (by rw[show ((0:Rat)<400)=True from eq_true (by decide)];simp)]
 ·rw[show atR 0 1000 100 400= [100,500,900] by decide+kernel];rfl
 ·rintro (h | h | h)
  ·exact h ((aDd z0 z1 ⟨by decide,by decide⟩).2 (by decide))
  ·exact h (eH z2 ⟨by decide,by decide⟩)
  ·exact h (eH z3 ⟨by decide,by decide⟩)
theorem aR2:evW [48] [49,48] [52]=([[48],[49,48,47,51],[50,48,47,51],[49,48]],0):=by
 have z0:Sz 4 0:=⟨by decide,by decide⟩
 have z1:Sz 4 10:=⟨by decide,by decide⟩
 have z2:Sz 4 4:=⟨by decide,by decide⟩
 rw[← n10_3,← n20_3,← n10,← n4,← numS0]
 unfold evW
 simp only[bL]
 rw[if_neg,if_neg (by rw[show ((0:Rat)<4)=True from eq_true (by decide)];simp),if_neg (fun h=>absurd (oC h) (by decide)),if_neg (by decide+kernel)]
 ·rw[show evR 0 10 4= [0,mkRat 10 3,mkRat 20 3,10] by decide+kernel];rfl
 ·rintro (h | h)
  ·exact h ((aDd z0 z1 ⟨by decide,by decide⟩).2 (by decide))
  ·exact h (eH z2 ⟨by decide,by decide⟩)
theorem aNs:Lm [[48],[49,48,48,48],[49,48,48],[52,48,48]]∧Lm [[48],[49,48],[52]]:=by
 constructor
 ·intro a ha _
  simp at ha
  rcases ha with rfl | rfl | rfl | rfl<;>decide
 ·intro a ha _
  simp at ha
  rcases ha with rfl | rfl | rfl<;>decide
theorem dP {P:Program} {c c':Con} (hc:aH P c) (hf:c'.f=c.f) (hfr:c'.fresh=c.fresh) (hl:(c'.lin,c'.own,c'.hp)=(none,none,none)) (h:∀args K,c'.cl args K→c.cl args K):aH P c':=
 aE hl (by rw[hf];exact hc.1) fun args K h'=>by
  have:=hc.2.1 args K (h args K h')
  rwa [hf,hfr]
noncomputable def c17n:Con:=aL 97 true fun args K=>match args with
 | [.str a,.str b]=>Alt (Has (fun r=>addQ a b=(r,0)) fun r=>K (.tup [S r,I 0])) (K (.tup [S (addQ a b).1,I (addQ a b).2]))
 | _=>False
theorem k17n:aH Tryz.prog c17n:=dP k17 rfl rfl rfl fun args K h=>by
 simp only[c17n] at h
 split at h
 ·rcases h.or with h | h
  ·obtain ⟨r,e,h⟩:=h.ex
   show K _
   rw[e];exact h
  ·exact h
 ·exact h.elim
noncomputable def c20n:Con:=aL 15 true fun args K=>match args with
 | [.str a,.str b]=>Alt (Has (fun r=>subQ a b=(r,0)) fun r=>K (.tup [S r,I 0])) (K (.tup [S (subQ a b).1,I (subQ a b).2]))
 | _=>False
theorem k20n:aH Tryz.prog c20n:=dP k20 rfl rfl rfl fun args K h=>by
 simp only[c20n] at h
 split at h
 ·rcases h.or with h | h
  ·obtain ⟨r,e,h⟩:=h.ex
   show K _
   rw[e];exact h
  ·exact h
 ·exact h.elim
noncomputable def c19n:Con:=aL 98 true fun args K=>match args with
 | [.str a,.str b]=>Alt (Has (fun r=>mulQ a b=(r,0)) fun r=>K (.tup [S r,I 0])) (K (.tup [S (mulQ a b).1,I (mulQ a b).2]))
 | _=>False
theorem k19n:aH Tryz.prog c19n:=dP k19 rfl rfl rfl fun args K h=>by
 simp only[c19n] at h
 split at h
 ·rcases h.or with h | h
  ·obtain ⟨r,e,h⟩:=h.ex
   show K _
   rw[e];exact h
  ·exact h
 ·exact h.elim
noncomputable def c14n:Con:=aL 18 true fun args K=>match args with
 | [.str a,.str b]=>Alt (Has (fun r=>divQ a b=(r,0)) fun r=>K (.tup [S r,I 0])) (K (.tup [S (divQ a b).1,I (divQ a b).2]))
 | _=>False
theorem k14n:aH Tryz.prog c14n:=dP k14 rfl rfl rfl fun args K h=>by
 simp only[c14n] at h
 split at h
 ·rcases h.or with h | h
  ·obtain ⟨r,e,h⟩:=h.ex
   show K _
   rw[e];exact h
  ·exact h
 ·exact h.elim
noncomputable def c40n:Con:=aL 21 true fun args K=>match args with
 | [.str a,.str b]=>Alt (Has (fun r=>subQ a b=(r,0)) fun r=>K (.tup [S r,I 0])) (K (.tup [S (subQ a b).1,I (subQ a b).2]))
 | _=>False
theorem k40n:aH Tryz.prog c40n:=dP k40 rfl rfl rfl fun args K h=>by
 simp only[c40n] at h
 split at h
 ·rcases h.or with h | h
  ·obtain ⟨r,e,h⟩:=h.ex
   show K _
   rw[e];exact h
  ·exact h
 ·exact h.elim
noncomputable def c42n:Con:=aL 22 true fun args K=>match args with
 | [.str a,.str b]=>Alt (Has (fun r=>divQ a b=(r,0)) fun r=>K (.tup [S r,I 0])) (K (.tup [S (divQ a b).1,I (divQ a b).2]))
 | _=>False
theorem k42n:aH Tryz.prog c42n:=dP k42 rfl rfl rfl fun args K h=>by
 simp only[c42n] at h
 split at h
 ·rcases h.or with h | h
  ·obtain ⟨r,e,h⟩:=h.ex
   show K _
   rw[e];exact h
  ·exact h
 ·exact h.elim
noncomputable def c43n:Con:=aL 43 true fun args K=>match args with
 | [.str a,.str b]=>Alt (Has (fun r=>cmpQ a b=(r,0)) fun r=>K (.tup [I r,I 0])) (K (.tup [I (cmpQ a b).1,I (cmpQ a b).2]))
 | _=>False
theorem k43n:aH Tryz.prog c43n:=dP k43 rfl rfl rfl fun args K h=>by
 simp only[c43n] at h
 split at h
 ·rcases h.or with h | h
  ·obtain ⟨r,e,h⟩:=h.ex
   show K _
   rw[e];exact h
  ·exact h
 ·exact h.elim
theorem ixAt {n:Int} {C:Nat→Prop} (j:Nat) (e:n=j) (h:C j):Ix n C:=⟨fun i h'=>by
 have:j=i:=by omega
 subst this;exact h⟩
theorem b2028 (l:List (List UInt8)):body Tryz.prog [c21,c38] { asks:=[(0,[])] } true Tryz.f28 [.seq .str l] (I (ckS l)):=by
 by_cases hl:4096<l.length
 ·rw[show ckS l=4 from if_pos hl]
  (repeat'((conv=>whnf);first|refine Zg fun _=>?_|refine Zy ?_|fail))
  (conv=>whnf)
  (repeat'(first|rfl|refine And.intro ?_ ?_|fail))
 ·rw[show ckS l=ckF l from if_neg hl]
  (repeat'((conv=>whnf);first|refine Zg fun _=>?_|refine Zm ?_|fail))
  refine Ask.mk ⟨{ X:=Nat,pre:=fun i=>i≤l.length∧ckAt l i=ckF l,mod:=fun i _=>[(13,I i)],heap:=fun i H=>H,mu:=fun i=>l.length-i },rfl,?_⟩
  (repeat'((conv=>whnf);first|refine Zn ?_|fail))
  refine ⟨⟨(0:Nat),⟨Nat.zero_le _,rfl⟩,?_⟩,fun (i:Nat) hi=>?_⟩
  ·(repeat'(first|exact trivial|rfl|refine And.intro ?_ ?_|fail))
  obtain ⟨hi,hc⟩:=hi
  by_cases hlt:i<l.length
  ·by_cases hk:chkQ (l.getD i [])=0
   ·rcases i with _ | i
    ·(repeat'((conv=>whnf);first|refine Zn ?_|refine Z0 ?_|refine Zy ?_|refine Zm ?_|fail))
     refine ⟨(1:Nat),by show l.length-1<l.length-0;omega,⟨hlt,(aFw hlt hk).trans hc⟩,?_⟩
     (repeat'(first|exact trivial|rfl|refine And.intro ?_ ?_|fail))
    ·(repeat'((conv=>whnf);first|refine Zn ?_|refine Zj ?_|refine Zy ?_|refine Zm ?_|fail))
     refine ixAt i (by omega) ?_
     by_cases h2:(cmpQ (l.getD i []) (l.getD (i+1) [])).2=0
     ·by_cases h3:0≤(cmpQ (l.getD i []) (l.getD (i+1) [])).1
      ·rw[← hc,aFv hlt hk h2 h3]
       (repeat'((conv=>whnf);first|refine Zy ?_|refine Zm ?_|fail))
       (conv=>whnf)
       (repeat'(first|rfl|refine And.intro ?_ ?_|fail))
      ·(repeat'((conv=>whnf);first|refine Zn ?_|refine Zm ?_|fail))
       refine ⟨(i+2:Nat),by show l.length-(i+2)<l.length-(i+1);omega,⟨hlt,(aJk hlt hk h2 h3).trans hc⟩,?_⟩
       (repeat'(first|exact trivial|rfl|refine And.intro ?_ ?_|fail))
     ·rw[← hc,aFu hlt hk h2]
      (repeat'((conv=>whnf);first|refine Zy ?_|fail))
      (conv=>whnf)
      (repeat'(first|rfl|refine And.intro ?_ ?_|fail))
   ·rw[← hc,aFt hlt hk]
    (repeat'((conv=>whnf);first|refine Zn ?_|refine Zj ?_|refine Zy ?_|fail))
    (conv=>whnf)
    (repeat'(first|rfl|refine And.intro ?_ ?_|fail))
  ·have e:i=l.length:=by omega
   subst e
   rw[← hc,aFs]
   (repeat'((conv=>whnf);first|refine Zm ?_|fail))
   (conv=>whnf)
   (repeat'(first|rfl|refine And.intro ?_ ?_|fail))
def qC:Con:=aL 28 true fun args K=>match args with | [.seq .str l]=>K (I (ckS l)) | _=>False
theorem aKd:aH Tryz.prog qC:=by
 refine aE rfl (enters_of Tryz.func28 (by kernel_rfl) rfl) ?_
 intro args K h
 simp only[qC] at h
 split at h
 ·rename_i l;exact ⟨_,h,aC (Γ:=[c21,c38]) (by simp[k21,k38]) Tryz.func28 (by simp[Tryz.ntmps28]) rfl (b2028 l)⟩
 ·exact h.elim
theorem b2029 (l:List (List UInt8)):body Tryz.prog [c44,c43] { asks:=[(0,[])] } true Tryz.f29 [.seq .str l] (I (ckS l)):=by
 by_cases hl:4096<l.length
 ·rw[show ckS l=4 from if_pos hl]
  (repeat'((conv=>whnf);first|refine Zg fun _=>?_|refine Zy ?_|fail))
  (conv=>whnf)
  (repeat'(first|rfl|refine And.intro ?_ ?_|fail))
 ·rw[show ckS l=ckF l from if_neg hl]
  (repeat'((conv=>whnf);first|refine Zg fun _=>?_|refine Zm ?_|fail))
  refine Ask.mk ⟨{ X:=Nat,pre:=fun i=>i≤l.length∧ckAt l i=ckF l,mod:=fun i _=>[(3,I i)],heap:=fun i H=>H,mu:=fun i=>l.length-i },rfl,?_⟩
  (repeat'((conv=>whnf);first|refine Zn ?_|fail))
  refine ⟨⟨(0:Nat),⟨Nat.zero_le _,rfl⟩,?_⟩,fun (i:Nat) hi=>?_⟩
  ·(repeat'(first|exact trivial|rfl|refine And.intro ?_ ?_|fail))
  obtain ⟨hi,hc⟩:=hi
  by_cases hlt:i<l.length
  ·by_cases hk:chkQ (l.getD i [])=0
   ·rcases i with _ | i
    ·(repeat'((conv=>whnf);first|refine Zg fun _=>?_|refine Zn ?_|refine Z0 ?_|refine Zy ?_|refine Zm ?_|fail))
     refine ⟨(1:Nat),by show l.length-1<l.length-0;omega,⟨hlt,(aFw hlt hk).trans hc⟩,?_⟩
     (repeat'(first|exact trivial|rfl|refine And.intro ?_ ?_|fail))
    ·(repeat'((conv=>whnf);first|refine Zg fun _=>?_|refine Zn ?_|refine Zj ?_|(apply Pin.mk;apply Exists.intro)|apply Pinned.mk rfl rfl|refine Zy ?_|refine Zm ?_|fail))
     refine ixAt i (by omega) ?_
     by_cases h2:(cmpQ (l.getD i []) (l.getD (i+1) [])).2=0
     ·by_cases h3:0≤(cmpQ (l.getD i []) (l.getD (i+1) [])).1
      ·rw[← hc,aFv hlt hk h2 h3]
       (repeat'((conv=>whnf);first|refine Zn ?_|refine Zj ?_|(apply Pin.mk;apply Exists.intro)|apply Pinned.mk rfl rfl|refine Zy ?_|refine Zm ?_|fail))
       (conv=>whnf)
       (repeat'(first|rfl|refine And.intro ?_ ?_|fail))
      ·(repeat'((conv=>whnf);first|refine Zn ?_|refine Zj ?_|(apply Pin.mk;apply Exists.intro)|apply Pinned.mk rfl rfl|refine Zm ?_|fail))
       refine ⟨(i+2:Nat),by show l.length-(i+2)<l.length-(i+1);omega,⟨hlt,(aJk hlt hk h2 h3).trans hc⟩,?_⟩
       (repeat'(first|exact trivial|rfl|refine And.intro ?_ ?_|fail))
     ·rw[← hc,aFu hlt hk h2]
      (repeat'((conv=>whnf);first|refine Zn ?_|refine Zj ?_|(apply Pin.mk;apply Exists.intro)|apply Pinned.mk rfl rfl|refine Zy ?_|fail))
      (conv=>whnf)
      (repeat'(first|rfl|refine And.intro ?_ ?_|fail))
   ·rw[← hc,aFt hlt hk]
    (repeat'((conv=>whnf);first|refine Zg fun _=>?_|refine Zn ?_|refine Zj ?_|refine Zy ?_|fail))
    (conv=>whnf)
    (repeat'(first|rfl|refine And.intro ?_ ?_|fail))
  ·have e:i=l.length:=by omega
   subst e
   rw[← hc,aFs]
   (repeat'((conv=>whnf);first|refine Zg fun _=>?_|refine Zm ?_|fail))
   (conv=>whnf)
   (repeat'(first|rfl|refine And.intro ?_ ?_|fail))
def aKe:Con:=aL 29 true fun args K=>match args with | [.seq .str l]=>K (I (ckS l)) | _=>False
theorem k2029:aH Tryz.prog aKe:=by
 refine aE rfl (enters_of Tryz.func29 (by kernel_rfl) rfl) ?_
 intro args K h
 simp only[aKe] at h
 split at h
 ·rename_i l;exact ⟨_,h,aC (Γ:=[c44,c43]) (by simp[k44,k43]) Tryz.func29 (by simp[Tryz.ntmps29]) rfl (b2029 l)⟩
 ·exact h.elim
theorem b2062 (a b:List UInt8):body Tryz.prog [c38] {} true Tryz.f62 [.agg [S a,S b]] (.bl (rgP a b) inferInstance):=by
 unfold rgP
 by_cases h1:(cmpQ a b).2=0
 ·(repeat'((conv=>whnf);first|refine Zy ?_|fail))
  (conv=>whnf)
  exact ⟨fun h=>⟨h1,h⟩,fun h=>h.2⟩
 ·(repeat'((conv=>whnf);first|refine Zm ?_|fail))
  (conv=>whnf)
  exact fun h=>h1 h.1
def aBh:Con:=aL 62 true fun args K=>match args with | [.agg [.str a,.str b]]=>K (.bl (rgP a b) inferInstance) | _=>False
theorem aR5:aH Tryz.prog aBh:=by
 refine aE rfl (enters_of Tryz.func62 (by kernel_rfl) rfl) ?_
 intro args K h
 simp only[aBh] at h
 split at h
 ·rename_i a b;exact ⟨_,h,aC (Γ:=[c38]) (by simp[k38]) Tryz.func62 (by simp[Tryz.ntmps62]) rfl (b2062 a b)⟩
 ·exact h.elim
set_option exponentiation.threshold 400 in
theorem cmp0 {a:List UInt8} (h:chkQ a=0):cmpQ a [48]=(cmpR (valQ a) 0,0):=by
 obtain ⟨e,h1,h2⟩:=rX h
 have z:Sz 300 (valQ a):=by
  refine ⟨fP (Nat.le_trans (Nat.le_of_eq ?_) h1),?_⟩
  ·rw[← bU,← fT,← e]
  ·have:(valQ a).den<10^300∨(valQ a).den=1:=by
    by_cases hd:(valQ a).den=1
    ·exact .inr hd
    ·refine .inl (fP (Nat.le_trans (Nat.le_of_eq ?_) h2))
     conv=>rhs;rw[e,jJ,if_neg hd]
     rfl
   rcases this with h | h
   ·exact h
   ·rw[h];exact Nat.one_lt_pow (by decide) (by decide)
 have e0:=numS0
 conv=>lhs;rw[e,← e0]
 have p1:(1:Nat)<10^300:=Nat.one_lt_pow (by decide) (by decide)
 refine aN0 (k:=300) ⟨by decide,by decide⟩ z ⟨Nat.lt_trans Nat.zero_lt_one p1,p1⟩ ?_ ?_
 ·rw[show (0:Rat).den=1 from rfl,Nat.mul_one];exact z.1
 ·rw[show (0:Rat).num.natAbs=0 from rfl,Nat.zero_mul];exact Nat.lt_trans Nat.zero_lt_one p1
theorem b2064 (a:List UInt8):body Tryz.prog [c38] {} true Tryz.f64 [S a] (.bl ((cmpQ a [48]).2=0∧0<(cmpQ a [48]).1) inferInstance):=by
 by_cases h1:(cmpQ a [48]).2=0
 ·(repeat'((conv=>whnf);first|refine Zy ?_|fail))
  (conv=>whnf)
  exact ⟨fun h=>⟨h1,h⟩,fun h=>h.2⟩
 ·(repeat'((conv=>whnf);first|refine Zm ?_|fail))
  (conv=>whnf)
  exact fun h=>h1 h.1
def aBi:Con:=aL 64 true fun args K=>match args with | [.str a]=>K (.bl ((cmpQ a [48]).2=0∧0<(cmpQ a [48]).1) inferInstance) | _=>False
theorem aR6:aH Tryz.prog aBi:=by
 refine aE rfl (enters_of Tryz.func64 (by kernel_rfl) rfl) ?_
 intro args K h
 simp only[aBi] at h
 split at h
 ·rename_i a;exact ⟨_,h,aC (Γ:=[c38]) (by simp[k38]) Tryz.func64 (by simp[Tryz.ntmps64]) rfl (b2064 a)⟩
 ·exact h.elim
theorem b2016 (a b:List UInt8):body Tryz.prog [c38] {} true Tryz.f16 [S a,S b] (.bl ((cmpQ a b).2=0∧(cmpQ a b).1<0) inferInstance):=by
 by_cases h1:(cmpQ a b).2=0
 ·(repeat'((conv=>whnf);first|refine Zy ?_|fail))
  (conv=>whnf)
  exact ⟨fun h=>⟨h1,h⟩,fun h=>h.2⟩
 ·(repeat'((conv=>whnf);first|refine Zm ?_|fail))
  (conv=>whnf)
  exact fun h=>h1 h.1
def uW:Con:=aL 16 true fun args K=>match args with | [.str a,.str b]=>K (.bl ((cmpQ a b).2=0∧(cmpQ a b).1<0) inferInstance) | _=>False
theorem aOt:aH Tryz.prog uW:=by
 refine aE rfl (enters_of Tryz.func16 (by kernel_rfl) rfl) ?_
 intro args K h
 simp only[uW] at h
 split at h
 ·rename_i a b;exact ⟨_,h,aC (Γ:=[c38]) (by simp[k38]) Tryz.func16 (by simp[Tryz.ntmps16]) rfl (b2016 a b)⟩
 ·exact h.elim
theorem aOu (l:List (List UInt8)) (i:Nat):(gapN l i).length=i:=by unfold gapN;rw[List.length_map,List.length_range]
theorem b2034 (l:List (List UInt8)):body Tryz.prog [qC,c20] { asks:=[(0,[1])] } true Tryz.f34 [.seq .str l] (.tup [.seq .str (gpS l).1,I (gpS l).2]):=by
 by_cases hc:ckS l=0
 ·have e0:gpS l=gpG l (l.length-1) 0:=if_neg fun h=>h hc
  (repeat'((conv=>whnf);first|refine Zm ?_|fail))
  refine Ask.mk ⟨{ X:=Nat,pre:=fun i=>(i+1≤l.length∨i=0)∧gpG l (l.length-1-i) i=gpS l,mod:=fun i _=>[(4,.ref 1 1),(5,I ((i:Int)+1))],heap:=fun i H=>[hget H 0,.vec 1 .str (gapN l i) 22],mu:=fun i=>l.length-i,objs:=[1] },rfl,?_⟩
  (repeat'((conv=>whnf);first|refine Zn ?_|fail))
  refine ⟨⟨(0:Nat),⟨.inr rfl,e0.symm⟩,?_⟩,fun (i:Nat) hi=>?_⟩
  ·(repeat'(first|exact trivial|rfl|exact Nat.one_pos|refine And.intro ?_ ?_|fail))
  obtain ⟨hi,hg⟩:=hi
  have hn:=aOu l i
  have hl4:=(qN hc).1
  by_cases hlt:i+1<l.length
  ·(repeat'((conv=>whnf);first|refine Zg fun _=>?_|refine Zn ?_|refine Zj ?_|(apply Pin.mk;apply Exists.intro)|apply Pinned.mk rfl rfl|refine Zy ?_|fail))
   refine ixAt i (by omega) ?_
   by_cases hk:(subQ (l.getD (i+1) []) (l.getD i [])).2=0
   ·(repeat'((conv=>whnf);first|refine Zn ?_|(apply Pin.mk;apply Exists.intro)|apply Pinned.mk rfl rfl|refine Zl ?_|refine Zm ?_|fail))
    refine ⟨(i+1:Nat),by show l.length-(i+1)<l.length-i;omega,⟨.inl hlt,(aN2 hlt hk).symm.trans hg⟩,?_⟩
    (repeat'(first|exact trivial|rfl|exact Nat.one_pos|refine And.intro ?_ ?_|fail))
    exact (aLw l i).symm
   ·rw[← hg,aQb hlt hk]
    (repeat'((conv=>whnf);first|(apply Pin.mk;apply Exists.intro)|apply Pinned.mk rfl rfl|refine Zy ?_|fail))
    (conv=>whnf)
    (repeat'(first|exact trivial|rfl|refine And.intro ?_ ?_|fail))
  ·rw[← hg,aQc (by omega)]
   (repeat'((conv=>whnf);first|refine Zg fun _=>?_|refine Zm ?_|fail))
   (conv=>whnf)
   (repeat'(first|exact trivial|rfl|refine And.intro ?_ ?_|fail))
 ·rw[show gpS l=([],1) from if_pos hc]
  (repeat'((conv=>whnf);first|refine Zy ?_|fail))
  (conv=>whnf)
  (repeat'(first|exact trivial|rfl|refine And.intro ?_ ?_|fail))
def aKl:Con:=aL 34 true fun args K=>match args with | [.seq .str l]=>K (.tup [.seq .str (gpS l).1,I (gpS l).2]) | _=>False
theorem k2034:aH Tryz.prog aKl:=by
 refine aE rfl (enters_of Tryz.func34 (by kernel_rfl) rfl) ?_
 intro args K h
 simp only[aKl] at h
 split at h
 ·rename_i l;exact ⟨_,h,aC (Γ:=[qC,c20]) (by simp[aKd,k20]) Tryz.func34 (by simp[Tryz.ntmps34]) rfl (b2034 l)⟩
 ·exact h.elim
theorem b2100 (a b:List UInt8):body Tryz.prog [c20] {} true Tryz.f100 [S a,S b] (.tup [S (dsS a b).1,I (dsS a b).2]):=by
 unfold dsS
 by_cases h:(subQ a b).2=0
 ·have hl:=aF4 h
  by_cases h2:aM (subQ a b).1 0=45
  ·rw[if_pos ⟨h,h2⟩]
   (repeat'((conv=>whnf);first|refine Zg fun _=>?_|refine Zn ?_|refine Z0 ?_|refine Z1 ?_|refine Zy ?_|fail))
   (conv=>whnf)
   (repeat'(first|exact trivial|rfl|refine And.intro ?_ ?_|fail))
   exact h
  ·rw[if_neg (fun h'=>h2 h'.2)]
   (repeat'((conv=>whnf);first|refine Zg fun _=>?_|refine Zn ?_|refine Z0 ?_|refine Zy ?_|refine Zm ?_|fail))
   (conv=>whnf)
   (repeat'(first|exact trivial|rfl|refine And.intro ?_ ?_|fail))
 ·rw[if_neg (fun h'=>h h'.1)]
  (repeat'((conv=>whnf);first|refine Zm ?_|fail))
  (conv=>whnf)
  (repeat'(first|exact trivial|rfl|refine And.intro ?_ ?_|fail))
def aKm:Con:=aL 100 true fun args K=>match args with | [.str a,.str b]=>K (.tup [S (dsS a b).1,I (dsS a b).2]) | _=>False
theorem k2100:aH Tryz.prog aKm:=by
 refine aE rfl (enters_of Tryz.func100 (by kernel_rfl) rfl) ?_
 intro args K h
 simp only[aKm] at h
 split at h
 ·rename_i a b;exact ⟨_,h,aC (Γ:=[c20]) (by simp[k20]) Tryz.func100 (by simp[Tryz.ntmps100]) rfl (b2100 a b)⟩
 ·exact h.elim
theorem b2032 (l:List (List UInt8)) (t:List UInt8) (hP:Lm l∧(chkQ t=0→t.length≤82)):body Tryz.prog [qC,c21,aKm,c38] { asks:=[(0,[])] } true Tryz.f32 [.seq .str l,S t] (.tup [I (nrS l t).1,I (nrS l t).2]):=by
 obtain ⟨hL,hT⟩:=hP
 by_cases hc:ckS l=0
 ·by_cases ht:chkQ t=0
  ·by_cases h0:l.length=0
   ·rw[show nrS l t=(0,5) by unfold nrS;rw[if_neg (by rintro (h | h);exact h hc;exact h ht),if_pos h0]]
    (repeat'((conv=>whnf);first|refine Zg fun _=>?_|refine Zy ?_|refine Zm ?_|fail))
    (conv=>whnf)
    (repeat'(first|exact trivial|rfl|refine And.intro ?_ ?_|fail))
   ·have hp:0<l.length:=by omega
    have hall:=aC8 (qN hc).2
    have hk:=hall _ (bX (d:=[]) hp)
    obtain ⟨hd,hs⟩:=aQg hk (hL.at hp hk) ht (hT ht)
    have e0:nrS l t=nrG l t 0 (dsS (l.getD 0 []) t).1 (l.length-1) 1:=by unfold nrS;rw[if_neg (by rintro (h | h);exact h hc;exact h ht),if_neg h0,if_neg (fun h=>h hd)]
    have e1:nrS l t=nrG l t 0 (dsS (l.getD 0 []) t).1 (l.length-0) 0:=by
     rw[e0,aF5 hp hd (by rw[hs]) (by rw[hs];decide)]
    (repeat'((conv=>whnf);first|refine Zg fun _=>?_|refine Zn ?_|refine Z0 ?_|refine Zm ?_|fail))
    refine Ask.mk ⟨{ X:=Nat × Nat × List UInt8,pre:=fun x=>x.1≤l.length∧x.2.1≤x.1∧nrG l t x.2.1 x.2.2 (l.length-x.1) x.1=nrS l t,mod:=fun x _=>[(6,I x.2.1),(7,S x.2.2),(38,I x.1)],heap:=fun i H=>H,mu:=fun x=>l.length-x.1 },rfl,?_⟩
    (repeat'((conv=>whnf);first|refine Zn ?_|fail))
    refine ⟨⟨((0:Nat),(0:Nat),(dsS (l.getD 0 []) t).1),⟨Nat.zero_le _,Nat.le_refl _,e1.symm⟩,?_⟩,fun (x:Nat × Nat × List UInt8) hi=>?_⟩
    ·(repeat'(first|exact trivial|rfl|refine And.intro ?_ ?_|fail))
    obtain ⟨hi,hb,hg⟩:=hi
    by_cases hlt:x.1<l.length
    ·by_cases hd:(dsS (l.getD x.1 []) t).2=0
     ·by_cases h2:(cmpQ (dsS (l.getD x.1 []) t).1 x.2.2).2=0
      ·by_cases h3:(cmpQ (dsS (l.getD x.1 []) t).1 x.2.2).1<0
       ·(repeat'((conv=>whnf);first|refine Zn ?_|refine Zj ?_|refine Zy ?_|refine Zm ?_|fail))
        refine ⟨((x.1+1:Nat),(x.1:Nat),(dsS (l.getD x.1 []) t).1),by show l.length-(x.1+1)<l.length-x.1;omega,⟨hlt,Nat.le_succ _,(aN3 hlt hd h2 h3).symm.trans hg⟩,?_⟩
        (repeat'(first|exact trivial|rfl|refine And.intro ?_ ?_|fail))
       ·(repeat'((conv=>whnf);first|refine Zn ?_|refine Zj ?_|refine Zy ?_|refine Zm ?_|fail))
        refine ⟨((x.1+1:Nat),(x.2.1:Nat),x.2.2),by show l.length-(x.1+1)<l.length-x.1;omega,⟨hlt,Nat.le_succ_of_le hb,(aF5 hlt hd h2 h3).symm.trans hg⟩,?_⟩
        (repeat'(first|exact trivial|rfl|refine And.intro ?_ ?_|fail))
      ·rw[← hg,aQe hlt hd h2]
       (repeat'((conv=>whnf);first|refine Zn ?_|refine Zj ?_|refine Zy ?_|refine Zm ?_|fail))
       (conv=>whnf)
       (repeat'(first|exact trivial|rfl|refine And.intro ?_ ?_|fail))
     ·rw[← hg,aQd hlt hd]
      (repeat'((conv=>whnf);first|refine Zn ?_|refine Zj ?_|refine Zy ?_|fail))
      (conv=>whnf)
      (repeat'(first|exact trivial|rfl|refine And.intro ?_ ?_|fail))
    ·have e:x.1=l.length:=by omega
     rw[e,aQf] at hg
     rw[← hg]
     (repeat'((conv=>whnf);first|refine Zm ?_|fail))
     (conv=>whnf)
     (repeat'(first|exact trivial|rfl|refine And.intro ?_ ?_|fail))
  ·rw[show nrS l t=(0,1) from if_pos (.inr ht)]
   (repeat'((conv=>whnf);first|refine Zy ?_|refine Zm ?_|fail))
   (conv=>whnf)
   (repeat'(first|exact trivial|rfl|refine And.intro ?_ ?_|fail))
 ·rw[show nrS l t=(0,1) from if_pos (.inl hc)]
  (repeat'((conv=>whnf);first|refine Zy ?_|fail))
  (conv=>whnf)
  (repeat'(first|exact trivial|rfl|refine And.intro ?_ ?_|fail))
def aR7:Con:=aL 32 true fun args K=>match args with | [.seq .str l,.str t]=>Need (Lm l∧(chkQ t=0→t.length≤82)) (K (.tup [I (nrS l t).1,I (nrS l t).2])) | _=>False
theorem k2032:aH Tryz.prog aR7:=by
 refine aE rfl (enters_of Tryz.func32 (by kernel_rfl) rfl) ?_
 intro args K h
 simp only[aR7] at h
 split at h
 ·rename_i l t;exact ⟨_,h.go,aC (Γ:=[qC,c21,aKm,c38]) (by simp[aKd,k21,k2100,k38]) Tryz.func32 (by simp[Tryz.ntmps32]) rfl (b2032 l t h.ok)⟩
 ·exact h.elim
theorem b2104 (x y:List UInt8) (h:(cmpQ x y).2=0):body Tryz.prog [c38] {} true Tryz.f104 [S x,S y,.lelem [I 0] 0] (I (cmpQ x y).1):=by
 (repeat'((conv=>whnf);first|refine Zm ?_|fail))
 (conv=>whnf)
 (repeat'(first|rfl|refine And.intro ?_ ?_|fail))
def aKn:Con:=aL 104 true fun args K=>match args with | [.str x,.str y,.lelem [.val (.int .i64 0)] 0]=>Need ((cmpQ x y).2=0) (K (I (cmpQ x y).1)) | _=>False
theorem k2104:aH Tryz.prog aKn:=by
 refine aE rfl (enters_of Tryz.func104 (by kernel_rfl) rfl) ?_
 intro args K h
 simp only[aKn] at h
 split at h
 ·rename_i x y;exact ⟨_,h.go,aC (Γ:=[c38]) (by simp[k38]) Tryz.func104 (by simp[Tryz.ntmps104]) rfl (b2104 x y h.ok)⟩
 ·exact h.elim
def CmpAll (a b:List (List UInt8)):Prop:=∀x∈a,∀y∈b,(cmpQ x y).2=0
theorem vQ {α:Type} {l:List α} (d:α) (h:0<l.length):l=l.getD 0 d::l.drop 1:=by
 cases l with
 | nil=>simp at h
 | cons x r=>rfl
theorem CmpAll.drop {a b:List (List UInt8)} (h:CmpAll a b) (i j:Nat):CmpAll (a.drop i) (b.drop j):=fun x hx y hy=>h x (List.mem_of_mem_drop hx) y (List.mem_of_mem_drop hy)
theorem aOv {a b:List (List UInt8)} (ha:0<a.length) (hb:0<b.length):mrg a b=if (cmpQ (a.getD 0 []) (b.getD 0 [])).1<0 then a.getD 0 []::mrg (a.drop 1) b else if 0<(cmpQ (a.getD 0 []) (b.getD 0 [])).1 then b.getD 0 []::mrg a (b.drop 1) else a.getD 0 []::mrg (a.drop 1) (b.drop 1):=by
 conv=>lhs;rw[vQ [] ha,vQ [] hb,rQ]
 rw[← vQ [] ha,← vQ [] hb]
theorem aOw {a b z w:List (List UInt8)} (h:z++w=mrg a b) (h1:a.length≤4096) (h2:b.length≤4096):z.length+w.length≤8192:=by
 have:=congrArg List.length h
 rw[List.length_append] at this
 have:=aC9 a b
 omega
theorem b2103 (a b:List (List UInt8)) (hP:CmpAll a b∧a.length≤4096∧b.length≤4096):body Tryz.prog [aKn] { asks:=[(0,[1])] } true Tryz.f103 [.seq .str a,.seq .str b,.clo 104 [] [.lelem [I 0] 0]] (.seq .str (mrg a b)):=by
 obtain ⟨hc,l1,l2⟩:=hP
 skip
 refine Ask.mk ⟨{ X:=List (List UInt8) × List (List UInt8) × List (List UInt8),pre:=fun x=>CmpAll x.1 x.2.1∧x.2.2++mrg x.1 x.2.1=mrg a b,mod:=fun x _=>[(0,.seq .str x.1),(1,.seq .str x.2.1),(7,.ref 1 1)],heap:=fun x H=>[hget H 0,.vec 1 .str x.2.2 22],mu:=fun x=>List.length x.1+List.length x.2.1,objs:=[1] },rfl,?_⟩
 (repeat'((conv=>whnf);first|refine Zn ?_|fail))
 refine ⟨⟨(a,b,[]),⟨hc,rfl⟩,?_⟩,fun (x:List (List UInt8) × List (List UInt8) × List (List UInt8)) hi=>?_⟩
 ·(repeat'(first|exact trivial|rfl|exact Nat.one_pos|refine And.intro ?_ ?_|fail))
 obtain ⟨hx,hg⟩:=hi
 have hn:=aOw hg l1 l2
 by_cases ha:0<x.1.length
 ·by_cases hb:0<x.2.1.length
  ·have h1:=hx _ (bX (d:=[]) ha) _ (bX (d:=[]) hb)
   have hs:=aOv ha hb
   by_cases h2:(cmpQ (x.1.getD 0 []) (x.2.1.getD 0 [])).1<0
   ·rw[if_pos h2] at hs
    (repeat'((conv=>whnf);first|refine Zg fun _=>?_|refine Zn ?_|refine Z0 ?_|refine Z1 ?_|(apply Pin.mk;apply Exists.intro)|apply Pinned.mk rfl rfl|(apply PinH.mk;apply Exists.intro;apply Exists.intro)|exact Zf|refine Zc ?_ ?_|refine Zl ?_|refine Zy ?_|fail))
    refine ⟨(x.1.drop 1,x.2.1,x.2.2++ [x.1.getD 0 []]),by show (x.1.drop 1).length+x.2.1.length<x.1.length+x.2.1.length;rw[List.length_drop];omega,⟨hx.drop 1 0,by rw[← hg,hs];simp⟩,?_⟩
    (repeat'(first|exact trivial|rfl|exact Nat.one_pos|refine And.intro ?_ ?_|fail))
   ·rw[if_neg h2] at hs
    by_cases h3:0<(cmpQ (x.1.getD 0 []) (x.2.1.getD 0 [])).1
    ·rw[if_pos h3] at hs
     (repeat'((conv=>whnf);first|refine Zg fun _=>?_|refine Zn ?_|refine Z0 ?_|refine Z1 ?_|(apply Pin.mk;apply Exists.intro)|apply Pinned.mk rfl rfl|(apply PinH.mk;apply Exists.intro;apply Exists.intro)|exact Zf|refine Zc ?_ ?_|refine Zl ?_|refine Zy ?_|refine Zm ?_|fail))
     refine ⟨(x.1,x.2.1.drop 1,x.2.2++ [x.2.1.getD 0 []]),by show x.1.length+(x.2.1.drop 1).length<x.1.length+x.2.1.length;rw[List.length_drop];omega,⟨hx.drop 0 1,by rw[← hg,hs];simp⟩,?_⟩
     (repeat'(first|exact trivial|rfl|exact Nat.one_pos|refine And.intro ?_ ?_|fail))
    ·rw[if_neg h3] at hs
     (repeat'((conv=>whnf);first|refine Zg fun _=>?_|refine Zn ?_|refine Z0 ?_|refine Z1 ?_|(apply Pin.mk;apply Exists.intro)|apply Pinned.mk rfl rfl|(apply PinH.mk;apply Exists.intro;apply Exists.intro)|exact Zf|refine Zc ?_ ?_|refine Zl ?_|refine Zy ?_|refine Zm ?_|fail))
     refine ⟨(x.1.drop 1,x.2.1.drop 1,x.2.2++ [x.1.getD 0 []]),by show (x.1.drop 1).length+(x.2.1.drop 1).length<x.1.length+x.2.1.length;rw[List.length_drop,List.length_drop];omega,⟨hx.drop 1 1,by rw[← hg,hs];simp⟩,?_⟩
     (repeat'(first|exact trivial|rfl|exact Nat.one_pos|refine And.intro ?_ ?_|fail))
  ·have e:x.2.1= []:=List.length_eq_zero_iff.1 (by omega)
   rw[← vI (.inr e),List.length_append] at hn
   have hr:(x.2.2++x.1).length+x.2.1.length≤137438953472:=by rw[List.length_append];omega
   rw[← hg,← vI (.inr e),← List.append_assoc]
   (repeat'((conv=>whnf);first|refine Zg fun _=>?_|refine Zn ?_|refine Zy ?_|refine Zm ?_|fail))
   (conv=>whnf)
   skip
 ·have e:x.1= []:=List.length_eq_zero_iff.1 (by omega)
  rw[← vI (.inl e),List.length_append] at hn
  have hr:(x.2.2++x.1).length+x.2.1.length≤137438953472:=by rw[List.length_append];omega
  rw[← hg,← vI (.inl e),← List.append_assoc]
  (repeat'((conv=>whnf);first|refine Zg fun _=>?_|refine Zn ?_|refine Zm ?_|fail))
  (conv=>whnf)
  skip
def aKo:Con:=aL 103 true fun args K=>match args with | [.seq .str a,.seq .str b,.clo 104 [] [.lelem [.val (.int .i64 0)] 0]]=>Need (CmpAll a b∧a.length≤4096∧b.length≤4096) (K (.seq .str (mrg a b))) | _=>False
theorem k2103:aH Tryz.prog aKo:=by
 refine aE rfl (enters_of Tryz.func103 (by kernel_rfl) rfl) ?_
 intro args K h
 simp only[aKo] at h
 split at h
 ·rename_i a b;exact ⟨_,h.go,aC (Γ:=[aKn]) (by simp[k2104]) Tryz.func103 (by simp[Tryz.ntmps103]) rfl (b2103 a b h.ok)⟩
 ·exact h.elim
theorem aMb {a b:List (List UInt8)} (ha:ckS a=0) (hb:ckS b=0) (la:Lm a) (lb:Lm b):CmpAll a b:=fun x hx y hy=>by
 have k1:=aC8 (qN ha).2 x hx
 have k2:=aC8 (qN hb).2 y hy
 rw[aR3 k1 (la x hx k1) k2 (lb y hy k2)]
theorem b2038 (a b:List (List UInt8)) (hP:Lm a∧Lm b):body Tryz.prog [qC,aKo] {} false Tryz.f38 [.seq .str a,.seq .str b] (.tup [.seq .str (mgS a b).1,I (mgS a b).2]):=by
 obtain ⟨la,lb⟩:=hP
 by_cases ha:ckS a=0
 ·by_cases hb:ckS b=0
  ·have hc:=aMb ha hb la lb
   have l1:=(qN ha).1
   have l2:=(qN hb).1
   have hA:CmpAll a b∧a.length≤4096∧b.length≤4096:=⟨hc,l1,l2⟩
   have e:mgS a b=if 4096<(mrg a b).length then ([],4) else (mrg a b,0):=if_neg (by rintro (h | h);exact h ha;exact h hb)
   by_cases h:4096<(mrg a b).length
   ·rw[if_pos h] at e
    rw[e]
    (repeat'((conv=>whnf);first|refine Zg fun _=>?_|refine Zn ?_|refine Zy ?_|refine Zm ?_|fail))
    (conv=>whnf)
    (repeat'(first|exact trivial|rfl|refine And.intro ?_ ?_|fail))
   ·rw[if_neg h] at e
    rw[e]
    (repeat'((conv=>whnf);first|refine Zg fun _=>?_|refine Zn ?_|refine Zm ?_|fail))
    (conv=>whnf)
    (repeat'(first|exact trivial|rfl|refine And.intro ?_ ?_|fail))
  ·rw[show mgS a b=([],1) from if_pos (.inr hb)]
   (repeat'((conv=>whnf);first|refine Zy ?_|refine Zm ?_|fail))
   (conv=>whnf)
   (repeat'(first|exact trivial|rfl|refine And.intro ?_ ?_|fail))
 ·rw[show mgS a b=([],1) from if_pos (.inl ha)]
  (repeat'((conv=>whnf);first|refine Zy ?_|fail))
  (conv=>whnf)
  (repeat'(first|exact trivial|rfl|refine And.intro ?_ ?_|fail))
def aKp:Con:=aL 38 false fun args K=>match args with | [.seq .str a,.seq .str b]=>Need (Lm a∧Lm b) (K (.tup [.seq .str (mgS a b).1,I (mgS a b).2])) | _=>False
theorem k2038:aH Tryz.prog aKp:=by
 refine aE rfl (enters_of Tryz.func38 (by kernel_rfl) rfl) ?_
 intro args K h
 simp only[aKp] at h
 split at h
 ·rename_i a b;exact ⟨_,h.go,aC (Γ:=[qC,aKo]) (by simp[aKd,k2103]) Tryz.func38 (by simp[Tryz.ntmps38]) rfl (b2038 a b h.ok)⟩
 ·exact h.elim
set_option linter.unusedSimpArgs false
theorem b2065 (a:List UInt8):aEi Tryz.prog [] {} Tryz.f65 [.ptr 0 0,S a,I 0] [.cells [I 0] 77] (fun r H'=>r=S a∧H'= [.cells [I 0] 77]):=by
 (conv=>whnf)
 refine Need.mk rfl ?_
 (repeat'((conv=>whnf);first|refine Zy ?_|fail))
 (conv=>whnf)
 refine ⟨_,_,⟨rfl,rfl⟩,rfl,?_,rfl,rfl,?_⟩
 all_goals (repeat'(first|exact trivial|rfl|refine And.intro ?_ ?_|fail))
noncomputable def aGn:Con:=aM8 65 77 fun args e0 K=>match args with | [.str a,.val (.int .i64 n)]=>Need (e0=0∧n=0) (K (S a) 0) | _=>False
theorem aR8:aH Tryz.prog aGn:=by
 refine aM9 (enters_of Tryz.func65 (by kernel_rfl) rfl) ?_
 intro args e0 K h
 split at h
 ·rename_i a n
  obtain ⟨⟨h1,h2⟩,hk⟩:=h
  subst h1 h2
  exact ⟨_,_,hk,rfl,mI (Γ:=[]) (by simp) Tryz.func65 (by simp[Tryz.ntmps65]) (b2065 a)⟩
 ·exact h.elim
theorem aTc (a:List UInt8):body Tryz.prog [] {} true Tryz.f65 [.wcel 0,S a,I 0] (S a):=by
 (repeat'((conv=>whnf);first|refine Zn ?_|refine Zy ?_|fail))
 (conv=>whnf)
 skip
def yR:Con:=aL 65 true fun args K=>match args with | [.wcel 0,.str a,.val (.int .i64 0)]=>K (S a) | _=>False
theorem aTd:aH Tryz.prog yR:=by
 refine aE rfl (enters_of Tryz.func65 (by kernel_rfl) rfl) ?_
 intro args K h
 simp only[yR] at h
 split at h
 ·rename_i a;exact ⟨_,h,aC (Γ:=[]) (by simp) Tryz.func65 (by simp[Tryz.ntmps65]) rfl (aTc a)⟩
 ·exact h.elim
theorem b2067 (a:List UInt8):body Tryz.prog [c31] {} true Tryz.f67 [S a] (.tup [I (inQ a).1,.bl ((inQ a).2=0) inferInstance]):=by
 skip
 (conv=>whnf)
 (repeat'(first|exact trivial|rfl|refine And.intro ?_ ?_|fail))
def aR9:Con:=aL 67 true fun args K=>match args with | [.str a]=>K (.tup [I (inQ a).1,.bl ((inQ a).2=0) inferInstance]) | _=>False
theorem k2067:aH Tryz.prog aR9:=by
 refine aE rfl (enters_of Tryz.func67 (by kernel_rfl) rfl) ?_
 intro args K h
 simp only[aR9] at h
 split at h
 ·rename_i a;exact ⟨_,h,aC (Γ:=[c31]) (by simp[k31]) Tryz.func67 (by simp[Tryz.ntmps67]) rfl (b2067 a)⟩
 ·exact h.elim
theorem b2070 (f s:List UInt8) (n:Int):body Tryz.prog [] {} false Tryz.f70 [.wcel 0,S f,S s,I n] (.clo 133 [] [.wcel n,.lelem [.wcel 0] 0,.lelem [S s] 0,.lelem [S f] 0]):=by
 skip
 (conv=>whnf)
 (repeat'(first|exact trivial|rfl|refine And.intro ?_ ?_|fail))
def aBj:Con:=aL 70 false fun args K=>match args with | [.wcel 0,.str f,.str s,.val (.int .i64 n)]=>K (.clo 133 [] [.wcel n,.lelem [.wcel 0] 0,.lelem [S s] 0,.lelem [S f] 0]) | _=>False
theorem aSa:aH Tryz.prog aBj:=by
 refine aE rfl (enters_of Tryz.func70 (by kernel_rfl) rfl) ?_
 intro args K h
 simp only[aBj] at h
 split at h
 ·rename_i f s n;exact ⟨_,h,aC (Γ:=[]) (by simp) Tryz.func70 (by simp[Tryz.ntmps70]) rfl (b2070 f s n)⟩
 ·exact h.elim
noncomputable def mulA (f s:List UInt8) (k:Nat):List UInt8:=(addQ f (mulQ s (itoa k)).1).1
def OkM (f s:List UInt8) (n:Nat):Prop:=∀k,k<n→(mulQ s (itoa k)).2=0∧(addQ f (mulQ s (itoa k)).1).2=0
noncomputable def mulL (f s:List UInt8) (n:Nat):List (List UInt8):=(List.range n).map (mulA f s)
theorem aMc (f s:List UInt8) (n:Nat):mulL f s (n+1)=mulL f s n++ [mulA f s n]:=by
 unfold mulL;rw[List.range_succ,List.map_append];rfl
theorem aOx (f s:List UInt8) (n:Nat):(mulL f s n).length=n:=by unfold mulL;rw[List.length_map,List.length_range]
noncomputable abbrev itM (f s:List UInt8) (k:Nat):List SV:=[S (mulA f s k)]
theorem b2133 (f s:List UInt8) (n:Nat) (h:OkM f s n∧n≤1000000):tZ Tryz.prog [c61,c19n,c17n,yR] { asks:=[(0,[])] } Tryz.f133 [.wcel n,.lelem [.wcel 0] 0,.lelem [S s] 0,.lelem [S f] 0] n (itM f s):=by
 obtain ⟨h,hn⟩:=h
 skip
 refine Ask.mk ⟨{ X:=Nat,pre:=fun i=>i≤n,mod:=fun i _=>[(9,I i)],heap:=fun i _=>[.yst (some i) n (itM f s)],mu:=fun i=>n-i },rfl,?_⟩
 (repeat'((conv=>whnf);first|refine Zn ?_|fail))
 refine ⟨⟨(0:Nat),Nat.zero_le _,by (repeat'(first|exact trivial|rfl|refine And.intro ?_ ?_|fail))⟩,fun (i:Nat) hi=>?_⟩
 have hi:i≤n:=hi
 by_cases hlt:i<n
 ·obtain ⟨h1,h2⟩:=h i hlt
  have e1:mulQ s (itoa i)=((mulQ s (itoa i)).1,0):=Prod.ext rfl h1
  have e2:addQ f (mulQ s (itoa i)).1=((addQ f (mulQ s (itoa i)).1).1,0):=Prod.ext rfl h2
  (repeat'((conv=>whnf);first|refine Zn ?_|(apply Pin.mk;apply Exists.intro)|apply Pinned.mk rfl rfl|refine .h ?_|refine Zy ?_|refine Zm ?_|fail))
  refine Need.mk (by (repeat'(first|exact trivial|rfl|refine And.intro ?_ ?_|fail))) ?_
  refine Two.mk ?_ ?_
  ·(repeat'((conv=>whnf);first|refine Zn ?_|fail))
   refine ⟨(i+1:Nat),by show n-(i+1)<n-i;omega,hlt,?_⟩
   (repeat'(first|exact trivial|rfl|refine And.intro ?_ ?_|fail))
  ·skip
   (conv=>whnf)
   trivial
 ·have e:i=n:=by omega
  subst e
  (repeat'((conv=>whnf);first|refine Zm ?_|fail))
  (conv=>whnf)
  skip
theorem aTe (n:Int) (s f:List UInt8) (h:0≤n∧OkM f s n.toNat∧n≤1000000):tZ Tryz.prog [c61,c19n,c17n,yR] { asks:=[(0,[])] } Tryz.f133 [.wcel n,.lelem [.wcel 0] 0,.lelem [S s] 0,.lelem [S f] 0] n.toNat (itM f s):=by
 have:=b2133 f s n.toNat ⟨h.2.1,by omega⟩
 rwa [show ((n.toNat:Nat):Int)=n by omega] at this
def aDt:Con:=aL 133 false fun args K=>match args with | [.wcel n,.lelem [.wcel 0] 0,.lelem [.str s] 0,.lelem [.str f] 0]=>Need (0≤n∧OkM f s n.toNat∧n≤1000000) (K (.itr n.toNat (itM f s))) | _=>False
theorem aTf:aH Tryz.prog aDt:=by
 refine aE rfl (enters_of Tryz.func133 (by kernel_rfl) rfl) ?_
 intro args K h
 simp only[aDt] at h
 split at h
 ·rename_i n s f;exact ⟨_,h.go,gR (Γ:=[c61,c19n,c17n,yR]) (by simp[k61,k19n,k17n,aTd]) Tryz.func133 (by simp[Tryz.ntmps133]) (aTe n s f h.ok)⟩
 ·exact h.elim
theorem b2187 (n:Int) (s f:List UInt8) (h:0≤n∧OkM f s n.toNat∧n≤1000000):body Tryz.prog [aDt] { asks:=[(0,[1])] } true Tryz.f187 [.val (.slice none 0 0),.clo 133 [] [.wcel n,.lelem [.wcel 0] 0,.lelem [S s] 0,.lelem [S f] 0]] (.seq .str (mulL f s n.toNat)):=by
 have hl:=fun i=>aOx f s i
 skip
 refine Own.r ?_
 refine ⟨0,.str,22,?_⟩
 skip
 refine Ask.mk ⟨{ X:=Nat,pre:=fun i=>i≤n.toNat,mod:=fun _ _=>[],heap:=fun i H=>[hget H 0,.vec 1 .str (mulL f s i) 22,hget H 2],mu:=fun i=>i,objs:=[1] },rfl,?_⟩
 (repeat'((conv=>whnf);first|refine Zn ?_|fail))
 refine ⟨⟨(0:Nat),rfl,Nat.zero_le _,by (repeat'(first|exact trivial|rfl|exact Nat.one_pos|refine And.intro ?_ ?_|fail))⟩,fun (i:Nat) hi (hlt:i<n.toNat)=>?_,fun (i:Nat) hi (he:i=n.toNat)=>?_⟩
 ·have hli:=hl i
  have hn:=h.2.2
  show hnfL (itM f s i) _
  (repeat'((conv=>whnf);first|refine Zn ?_|refine Zl ?_|fail))
  refine ⟨(i+1:Nat),rfl,hlt,?_⟩
  (repeat'(first|exact trivial|rfl|exact Nat.one_pos|refine And.intro ?_ ?_|fail))
  exact (aMc f s i).symm
 ·subst he
  skip
  (conv=>whnf)
  skip
def aKq:Con:=aL 187 true fun args K=>match args with | [.val (.slice none 0 0),.clo 133 [] [.wcel n,.lelem [.wcel 0] 0,.lelem [.str s] 0,.lelem [.str f] 0]]=>Need (0≤n∧OkM f s n.toNat∧n≤1000000) (K (.seq .str (mulL f s n.toNat))) | _=>False
theorem k2187:aH Tryz.prog aKq:=by
 refine aE rfl (enters_of Tryz.func187 (by kernel_rfl) rfl) ?_
 intro args K h
 simp only[aKq] at h
 split at h
 ·rename_i n s f;exact ⟨_,h.go,aC (Γ:=[aDt]) (by simp[aTf]) Tryz.func187 (by simp[Tryz.ntmps187]) rfl (b2187 n s f h.ok)⟩
 ·exact h.elim
theorem b2132 (n:Int) (s f:List UInt8) (h:0≤n∧OkM f s n.toNat∧n≤1000000):body Tryz.prog [aKq] {} false Tryz.f132 [.clo 133 [] [.wcel n,.lelem [.wcel 0] 0,.lelem [S s] 0,.lelem [S f] 0]] (.seq .str (mulL f s n.toNat)):=by
 (repeat'((conv=>whnf);first|refine Zn ?_|fail))
 (conv=>whnf)
 skip
def aKr:Con:=aL 132 false fun args K=>match args with | [.clo 133 [] [.wcel n,.lelem [.wcel 0] 0,.lelem [.str s] 0,.lelem [.str f] 0]]=>Need (0≤n∧OkM f s n.toNat∧n≤1000000) (K (.seq .str (mulL f s n.toNat))) | _=>False
theorem k2132:aH Tryz.prog aKr:=by
 refine aE rfl (enters_of Tryz.func132 (by kernel_rfl) rfl) ?_
 intro args K h
 simp only[aKr] at h
 split at h
 ·rename_i n s f;exact ⟨_,h.go,aC (Γ:=[aKq]) (by simp[k2187]) Tryz.func132 (by simp[Tryz.ntmps132]) rfl (b2132 n s f h.ok)⟩
 ·exact h.elim
theorem b2069 (n:Int) (s f:List UInt8) (h:0≤n∧OkM f s n.toNat∧n≤1000000):body Tryz.prog [aKr] {} false Tryz.f69 [.wcel 0,.clo 133 [] [.wcel n,.lelem [.wcel 0] 0,.lelem [S s] 0,.lelem [S f] 0]] (.tup [.seq .str (mulL f s n.toNat),I 0]):=by
 (repeat'((conv=>whnf);first|refine Zn ?_|refine Zm ?_|fail))
 (conv=>whnf)
 (repeat'(first|exact trivial|rfl|refine And.intro ?_ ?_|fail))
def aBk:Con:=aL 69 false fun args K=>match args with | [.wcel 0,.clo 133 [] [.wcel n,.lelem [.wcel 0] 0,.lelem [.str s] 0,.lelem [.str f] 0]]=>Need (0≤n∧OkM f s n.toNat∧n≤1000000) (K (.tup [.seq .str (mulL f s n.toNat),I 0])) | _=>False
theorem aSb:aH Tryz.prog aBk:=by
 refine aE rfl (enters_of Tryz.func69 (by kernel_rfl) rfl) ?_
 intro args K h
 simp only[aBk] at h
 split at h
 ·rename_i n s f;exact ⟨_,h.go,aC (Γ:=[aKr]) (by simp[k2132]) Tryz.func69 (by simp[Tryz.ntmps69]) rfl (b2069 n s f h.ok)⟩
 ·exact h.elim
noncomputable def c29n:Con:=aL 66 true fun args K=>match args with
 | [.str a]=>Alt (Has (fun r=>flQ a=(r,0)) fun r=>K (.tup [S r,I 0])) (K (.tup [S (flQ a).1,I (flQ a).2]))
 | _=>False
theorem k29n:aH Tryz.prog c29n:=dP k29 rfl rfl rfl fun args K h=>by
 simp only[c29n] at h
 split at h
 ·rcases h.or with h | h
  ·obtain ⟨r,e,h⟩:=h.ex
   show K _
   rw[e];exact h
  ·exact h
 ·exact h.elim
noncomputable def tI:Con:=aL 67 true fun args K=>match args with
 | [.str a]=>Alt (Has (fun r=>inQ a=(r,0)) fun r=>K (.tup [I r,.bl ((inQ a).2=0) inferInstance])) (K (.tup [I (inQ a).1,.bl ((inQ a).2=0) inferInstance]))
 | _=>False
theorem aOy:aH Tryz.prog tI:=dP k2067 rfl rfl rfl fun args K h=>by
 simp only[tI] at h
 split at h
 ·rcases h.or with h | h
  ·obtain ⟨r,e,h⟩:=h.ex
   show K _
   rw[show r=(inQ _).1 by rw[e]] at h
   exact h
  ·exact h
 ·exact h.elim
theorem aKs {a:List UInt8} (h:chkQ a=0):((cmpQ a [48]).2=0∧0<(cmpQ a [48]).1)↔0<valQ a:=by
 rw[cmp0 h]
 have:=eJ 0 (valQ a)
 rw[← this,oI (valQ a) 0]
 constructor
 ·intro h;have:=h.2;dsimp only at this;omega
 ·intro h;exact ⟨rfl,by dsimp only;omega⟩
theorem aSc {a b:List UInt8} (h:rgP a b) (h1:a.length≤82) (h2:b.length≤82):valQ a≤valQ b:=by
 obtain ⟨k1,k2⟩:=aDe h
 have:=h.2
 rw[aR3 k1 h1 k2 h2] at this
 refine Rat.not_lt.1 fun hlt=>?_
 have h3:=(eJ _ _).2 hlt
 have h4:=oI (valQ a) (valQ b)
 dsimp only at this
 omega
def FewP (lo hi o s:List UInt8):Prop:=Lm [lo,hi,o,s]∧(rgP lo hi→chkQ o=0→chkQ s=0→0<valQ s→valQ hi≤valQ lo+((100:Nat):Rat)*valQ s)
theorem aTg {lo hi o s:List UInt8} (h:FewP lo hi o s) (h1:rgP lo hi) (h2:chkQ o=0) (h3:chkQ s=0) (h4:0<valQ s):AtH (valQ lo) (valQ hi) (valQ o) (valQ s)∧lo=numS (valQ lo)∧hi=numS (valQ hi)∧o=numS (valQ o)∧s=numS (valQ s):=by
 obtain ⟨k1,k2⟩:=aDe h1
 have l1:=h.1 lo (by simp) k1
 have l2:=h.1 hi (by simp) k2
 have l3:=h.1 o (by simp) h2
 have l4:=h.1 s (by simp) h3
 obtain ⟨e1,z1,w1⟩:=oB k1 l1
 obtain ⟨e2,z2,w2⟩:=oB k2 l2
 obtain ⟨e3,z3,w3⟩:=oB h2 l3
 obtain ⟨e4,z4,w4⟩:=oB h3 l4
 exact ⟨⟨w1,w2,w4,z1,z2,z3,z4,aSc h1 l1 l2,h4,h.2 h1 h2 h3 h4⟩,e1,e2,e3,e4⟩
theorem aTh {L H O S:Rat} (h:AtH L H O S):OkM (numS (cT L O S)) (numS S) (eZ L H O S).toNat∧mulL (numS (cT L O S)) (numS S) (eZ L H O S).toNat=(atR L H O S).map numS:=by
 have hc:=h.count
 have hm:∀k,k<(eZ L H O S).toNat→mulQ (numS S) (itoa k)=(numS (S*((k:Int):Rat)),0)∧addQ (numS (cT L O S)) (numS (S*((k:Int):Rat)))=(numS (atX L O S k),0):=fun k hk=>⟨h.f12 (by unfold eZ at hk;omega),h.f13 (by omega)⟩
 constructor
 ·intro k hk
  obtain ⟨h1,h2⟩:=hm k hk
  rw[h1]
  exact ⟨rfl,by rw[h2]⟩
 ·unfold mulL atR
  rw[List.map_map]
  apply List.map_congr_left
  intro k hk
  obtain ⟨h1,h2⟩:=hm k (List.mem_range.1 hk)
  unfold mulA
  rw[h1,h2];rfl
set_option maxHeartbeats 1000000 in
theorem b2026 (lo hi o s:List UInt8) (hP:FewP lo hi o s):body Tryz.prog [aBh,c21,aBi,c20n,c14n,c29n,aGn,c17n,tI,c19n,aBj,aBk] {} false Tryz.f26 [.agg [S lo,S hi],S o,S s] (.tup [.seq .str (atW lo hi o s).1,I (atW lo hi o s).2]):=by
 by_cases h1:rgP lo hi
 ·by_cases h2:chkQ o=0
  ·by_cases h3:chkQ s=0
   ·have hps:=aKs h3
    by_cases h4:0<valQ s
    ·have h5:=hps.2 h4
     rw[show atW lo hi o s=((atR (valQ lo) (valQ hi) (valQ o) (valQ s)).map numS,0) by unfold atW;rw[if_neg (by rintro (h | h | h);exact h h1;exact h h2;exact h h3),if_neg (fun h=>h h4)]]
     obtain ⟨hA,e1,e2,e3,e4⟩:=aTg hP h1 h2 h3 h4
     generalize valQ lo=L at*
     generalize valQ hi=H at*
     generalize valQ o=O at*
     generalize valQ s=Z at*
     subst e1 e2 e3 e4
     have f1:=hA.f1
     have f2:=hA.f2
     have f3:=hA.f3
     have f4:=hA.f4
     have f5:=hA.f5
     have f6:=hA.f6
     have f7:=hA.f7
     obtain ⟨c1,c2⟩:=hA.count
     have f9:=hA.f9
     have f9':=congrArg Prod.snd f9
     have f10:=hA.f10
     have f11:=hA.f11
     obtain ⟨m1,m2⟩:=aTh hA
     have em:max (aZ L O Z+cX H O Z+1) 0=eZ L H O Z:=by unfold eZ;omega
     rw[← em] at m1 m2
     have hm:0≤max (aZ L O Z+cX H O Z+1) 0∧OkM (numS (cT L O Z)) (numS Z) (max (aZ L O Z+cX H O Z+1) 0).toNat∧max (aZ L O Z+cX H O Z+1) 0≤1000000:=⟨by omega,m1,by omega⟩
     rw[← m2]
     (repeat'((conv=>whnf);first|refine Zn ?_|refine .h ?_|refine Zm ?_|fail))
     (conv=>whnf)
     (repeat'(first|exact trivial|rfl|refine And.intro ?_ ?_|fail))
    ·rw[show atW lo hi o s=([],2) by unfold atW;rw[if_neg (by rintro (h | h | h);exact h h1;exact h h2;exact h h3),if_pos h4]]
     have h5:=fun h=>h4 (hps.1 h)
     (repeat'((conv=>whnf);first|refine Zy ?_|refine Zm ?_|fail))
     (conv=>whnf)
     (repeat'(first|exact trivial|rfl|refine And.intro ?_ ?_|fail))
   ·rw[show atW lo hi o s=([],1) from if_pos (.inr (.inr h3))]
    (repeat'((conv=>whnf);first|refine Zy ?_|refine Zm ?_|fail))
    (conv=>whnf)
    (repeat'(first|exact trivial|rfl|refine And.intro ?_ ?_|fail))
  ·rw[show atW lo hi o s=([],1) from if_pos (.inr (.inl h2))]
   (repeat'((conv=>whnf);first|refine Zy ?_|refine Zm ?_|fail))
   (conv=>whnf)
   (repeat'(first|exact trivial|rfl|refine And.intro ?_ ?_|fail))
 ·rw[show atW lo hi o s=([],1) from if_pos (.inl h1)]
  (repeat'((conv=>whnf);first|refine Zy ?_|fail))
  (conv=>whnf)
  (repeat'(first|exact trivial|rfl|refine And.intro ?_ ?_|fail))
def aKt:Con:=aL 26 false fun args K=>match args with | [.agg [.str lo,.str hi],.str o,.str s]=>Need (FewP lo hi o s) (K (.tup [.seq .str (atW lo hi o s).1,I (atW lo hi o s).2])) | _=>False
theorem k2026:aH Tryz.prog aKt:=by
 refine aE rfl (enters_of Tryz.func26 (by kernel_rfl) rfl) ?_
 intro args K h
 simp only[aKt] at h
 split at h
 ·rename_i lo hi o s;exact ⟨_,h.go,aC (Γ:=[aBh,c21,aBi,c20n,c14n,c29n,aGn,c17n,tI,c19n,aBj,aBk]) (by simp[aR5,k21,aR6,k20n,k14n,k29n,aR8,k17n,aOy,k19n,aSa,aSb]) Tryz.func26 (by simp[Tryz.ntmps26]) rfl (b2026 lo hi o s h.ok)⟩
 ·exact h.elim
theorem aTi {lo hi m:List UInt8} (h:Lm [lo,hi,m]) (h1:rgP lo hi) (h2:chkQ m=0) (h3:0<valQ m) (h4:¬lo=hi):EvH (valQ lo) (valQ hi) (valQ m)∧lo=numS (valQ lo)∧hi=numS (valQ hi)∧m=numS (valQ m):=by
 obtain ⟨k1,k2⟩:=aDe h1
 have l1:=h lo (by simp) k1
 have l2:=h hi (by simp) k2
 have l3:=h m (by simp) h2
 obtain ⟨e1,z1,w1⟩:=oB k1 l1
 obtain ⟨e2,z2,w2⟩:=oB k2 l2
 obtain ⟨e3,z3,w3⟩:=oB h2 l3
 refine ⟨⟨z1,z2,z3,?_,h3⟩,e1,e2,e3⟩
 refine Rat.not_le.1 fun hle=>h4 ?_
 rw[e1,e2,Rat.le_antisymm (aSc h1 l1 l2) hle]
theorem aTj {L H M:Rat} (h:EvH L H M) (hc:evC L H M≤4095):OkM (numS L) (numS (cL L H M)) (evC L H M+1).toNat∧mulL (numS L) (numS (cL L H M)) (evC L H M+1).toNat=(evR L H M).map numS:=by
 have hp:=h.cpos
 constructor
 ·intro k hk
  rw[h.e5 hc (show k≤5000 by omega)]
  exact ⟨rfl,by rw[h.e6 hc (show k≤5000 by omega)]⟩
 ·unfold mulL evR
  rw[List.map_map,show (evC L H M+1).toNat=(clI ((H-L)/M)).toNat+1 by show (clI ((H-L)/M)+1).toNat= _;have:0<clI ((H-L)/M):=hp;omega]
  apply List.map_congr_left
  intro k hk
  have hk:=List.mem_range.1 hk
  have hc':clI ((H-L)/M)≤4095:=hc
  unfold mulA
  rw[h.e5 hc (show k≤5000 by omega),h.e6 hc (show k≤5000 by omega)];rfl
set_option maxHeartbeats 1000000 in
theorem b2014 (lo hi m:List UInt8) (hP:Lm [lo,hi,m]):body Tryz.prog [aBh,c21,aBi,c20n,c14n,c29n,aGn,tI,c61,aBj,aBk] {} false Tryz.f14 [.agg [S lo,S hi],S m] (.tup [.seq .str (evW lo hi m).1,I (evW lo hi m).2]):=by
 by_cases h1:rgP lo hi
 ·by_cases h2:chkQ m=0
  ·have hps:=aKs h2
   by_cases h3:0<valQ m
   ·have h5:=hps.2 h3
    have e0:evW lo hi m=if lo=hi then ([lo],0) else if 4095<clI ((valQ hi-valQ lo)/valQ m) then ([],4) else ((evR (valQ lo) (valQ hi) (valQ m)).map numS,0):=by unfold evW;rw[if_neg (by rintro (h | h);exact h h1;exact h h2),if_neg (fun h=>h h3)]
    by_cases h4:lo=hi
    ·rw[if_pos h4] at e0
     rw[e0]
     (repeat'((conv=>whnf);first|refine Zl ?_|refine Zy ?_|refine Zm ?_|fail))
     (conv=>whnf)
     (repeat'(first|exact trivial|rfl|refine And.intro ?_ ?_|fail))
    ·rw[if_neg h4] at e0
     rw[e0]
     obtain ⟨hA,q1,q2,q3⟩:=aTi hP h1 h2 h3 h4
     generalize valQ lo=L at*
     generalize valQ hi=H at*
     generalize valQ m=M at*
     subst q1 q2 q3
     have e1:=hA.e1
     have e2:=hA.e2
     have e3:=hA.e3
     have e3i:=hA.e3i
     have hp:=hA.cpos
     have hcl:=aLv ((H-L)/M)
     have hpp:0<clI ((H-L)/M):=hp
     by_cases hc:4095<clI ((H-L)/M)
     ·rw[if_pos hc]
      by_cases hb:flI ((H-L)/M) < -4611686018427387904∨4611686018427387904<flI ((H-L)/M)
      ·rw[if_pos hb] at e3i
       have g1:=congrArg Prod.fst e3i
       have g2:=congrArg Prod.snd e3i
       dsimp only at g1 g2
       have g3:¬(inQ (itoa (flI ((H-L)/M)))).2=0:=by omega
       rcases hcl with ⟨hd,_⟩ | ⟨hd,_⟩
       ·have hdd:¬ ¬itoa (flI ((H-L)/M))=numS ((H-L)/M):=fun h=>h hd
        (repeat'((conv=>whnf);first|refine Zn ?_|refine .h ?_|refine .r ?_|refine Zy ?_|refine Zm ?_|fail))
        (conv=>whnf)
        (repeat'(first|exact trivial|rfl|refine And.intro ?_ ?_|fail))
       ·(repeat'((conv=>whnf);first|refine Zn ?_|refine .h ?_|refine .r ?_|refine Zy ?_|refine Zm ?_|fail))
        (conv=>whnf)
        (repeat'(first|exact trivial|rfl|refine And.intro ?_ ?_|fail))
      ·rw[if_neg hb] at e3i
       have g2:=congrArg Prod.snd e3i
       rcases hcl with ⟨hd,hq⟩ | ⟨hd,hq⟩
       ·have hdd:¬ ¬itoa (flI ((H-L)/M))=numS ((H-L)/M):=fun h=>h hd
        (repeat'((conv=>whnf);first|refine Zn ?_|refine .h ?_|refine Zy ?_|refine Zm ?_|fail))
        (conv=>whnf)
        (repeat'(first|exact trivial|rfl|refine And.intro ?_ ?_|fail))
       ·(repeat'((conv=>whnf);first|refine Zn ?_|refine .h ?_|refine Zy ?_|refine Zm ?_|fail))
        (conv=>whnf)
        (repeat'(first|exact trivial|rfl|refine And.intro ?_ ?_|fail))
     ·rw[if_neg hc]
      have hc':evC L H M≤4095:=Int.not_lt.1 hc
      have hb:¬(flI ((H-L)/M) < -4611686018427387904∨4611686018427387904<flI ((H-L)/M)):=by rcases hcl with ⟨_,hq⟩ | ⟨_,hq⟩<;>omega
      rw[if_neg hb] at e3i
      have g2:=congrArg Prod.snd e3i
      have e4:=hA.e4 hc'
      obtain ⟨m1,m2⟩:=aTj hA hc'
      rcases hcl with ⟨hd,hq⟩ | ⟨hd,hq⟩
      ·have hdd:¬ ¬itoa (flI ((H-L)/M))=numS ((H-L)/M):=fun h=>h hd
       have hq':evC L H M=flI ((H-L)/M):=hq
       rw[hq'] at e4 m1 m2
       have hm:0≤flI ((H-L)/M)+1∧OkM (numS L) (numS (cL L H M)) (flI ((H-L)/M)+1).toNat∧flI ((H-L)/M)+1≤1000000:=⟨by omega,m1,by omega⟩
       rw[← m2]
       (repeat'((conv=>whnf);first|refine Zn ?_|refine .h ?_|refine Zm ?_|fail))
       (conv=>whnf)
       (repeat'(first|exact trivial|rfl|refine And.intro ?_ ?_|fail))
      ·have hq':evC L H M=flI ((H-L)/M)+1:=hq
       rw[hq'] at e4 m1 m2
       have hm:0≤flI ((H-L)/M)+1+1∧OkM (numS L) (numS (cL L H M)) (flI ((H-L)/M)+1+1).toNat∧flI ((H-L)/M)+1+1≤1000000:=⟨by omega,m1,by omega⟩
       rw[← m2]
       (repeat'((conv=>whnf);first|refine Zn ?_|refine .h ?_|refine Zy ?_|refine Zm ?_|fail))
       (conv=>whnf)
       (repeat'(first|exact trivial|rfl|refine And.intro ?_ ?_|fail))
   ·rw[show evW lo hi m=([],2) by unfold evW;rw[if_neg (by rintro (h | h);exact h h1;exact h h2),if_pos h3]]
    have h5:=fun h=>h3 (hps.1 h)
    (repeat'((conv=>whnf);first|refine Zy ?_|refine Zm ?_|fail))
    (conv=>whnf)
    (repeat'(first|exact trivial|rfl|refine And.intro ?_ ?_|fail))
  ·rw[show evW lo hi m=([],1) from if_pos (.inr h2)]
   (repeat'((conv=>whnf);first|refine Zy ?_|refine Zm ?_|fail))
   (conv=>whnf)
   (repeat'(first|exact trivial|rfl|refine And.intro ?_ ?_|fail))
 ·rw[show evW lo hi m=([],1) from if_pos (.inl h1)]
  (repeat'((conv=>whnf);first|refine Zy ?_|fail))
  (conv=>whnf)
  (repeat'(first|exact trivial|rfl|refine And.intro ?_ ?_|fail))
def aBl:Con:=aL 14 false fun args K=>match args with | [.agg [.str lo,.str hi],.str m]=>Need (Lm [lo,hi,m]) (K (.tup [.seq .str (evW lo hi m).1,I (evW lo hi m).2])) | _=>False
theorem aSd:aH Tryz.prog aBl:=by
 refine aE rfl (enters_of Tryz.func14 (by kernel_rfl) rfl) ?_
 intro args K h
 simp only[aBl] at h
 split at h
 ·rename_i lo hi m;exact ⟨_,h.go,aC (Γ:=[aBh,c21,aBi,c20n,c14n,c29n,aGn,tI,c61,aBj,aBk]) (by simp[aR5,k21,aR6,k20n,k14n,k29n,aR8,aOy,k61,aSa,aSb]) Tryz.func14 (by simp[Tryz.ntmps14]) rfl (b2014 lo hi m h.ok)⟩
 ·exact h.elim
set_option linter.unusedSimpArgs false
theorem aOz {xs ys:List (List UInt8)} (h:xs.length=ys.length) (hg:∀p,p<xs.length→xs.getD p []=ys.getD p []):xs=ys:=by
 apply List.ext_getElem h
 intro p h1 h2
 have:=hg p h1
 simpa [List.getD_eq_getElem?_getD,h1,h2] using this
theorem b2025 (xs ys:List (List UInt8)):body Tryz.prog [] { asks:=[(0,[])] } true Tryz.f25 [.seq .str xs,.seq .str ys] (.bl (xs=ys) inferInstance):=by
 (repeat'((conv=>whnf);first|refine Zg fun _=>?_|fail))
 (refine Br.mk (fun _=>?_) (fun _=>?_))
 ·rename_i h
  skip
  (conv=>whnf)
  exact fun e=>h (by rw[e])
 ·rename_i hl
  have hl:xs.length=ys.length:=by omega
  (repeat'((conv=>whnf);first|refine Zg fun _=>?_|fail))
  refine Ask.mk ⟨{ X:=Nat,pre:=fun i=>i≤xs.length∧∀j,j<i→xs.getD j []=ys.getD j [],mod:=fun i _=>[(13,I i)],heap:=fun i H=>H,mu:=fun i=>xs.length-i },rfl,?_⟩
  (repeat'((conv=>whnf);first|refine Zn ?_|fail))
  refine ⟨⟨(0:Nat),⟨Nat.zero_le _,fun j hj=>absurd hj (Nat.not_lt_zero _)⟩,by (repeat'(first|exact trivial|rfl|refine And.intro ?_ ?_|fail))⟩,fun (i:Nat) hi=>?_⟩
  obtain ⟨hi,hb⟩:=hi
  by_cases hlt:i<xs.length
  ·by_cases hne:xs.getD i []=ys.getD i []
   ·(repeat'((conv=>whnf);first|refine Zn ?_|refine Zj ?_|(apply Pin.mk;apply Exists.intro)|apply Pinned.mk rfl rfl|refine Zy ?_|refine Zm ?_|fail))
    refine ⟨(i+1:Nat),by show xs.length-(i+1)<xs.length-i;omega,⟨hlt,fun j hj=>?_⟩,by (repeat'(first|exact trivial|rfl|refine And.intro ?_ ?_|fail))⟩
    by_cases e:j=i
    ·subst e;exact hne
    ·exact hb j (by omega)
   ·(repeat'((conv=>whnf);first|refine Zn ?_|refine Zj ?_|(apply Pin.mk;apply Exists.intro)|apply Pinned.mk rfl rfl|refine Zy ?_|fail))
    (conv=>whnf)
    exact fun e=>hne (by rw[e])
  ·have hii:i=xs.length:=by omega
   subst hii
   (repeat'((conv=>whnf);first|refine Zm ?_|fail))
   (conv=>whnf)
   exact aOz hl hb
def aBm:Con:=aL 25 true fun args K=>match args with | [.seq .str xs,.seq .str ys]=>K (.bl (xs=ys) inferInstance) | _=>False
theorem aSe:aH Tryz.prog aBm:=by
 refine aE rfl (enters_of Tryz.func25 (by kernel_rfl) rfl) ?_
 intro args K h
 simp only[aBm] at h
 split at h
 ·rename_i xs ys;exact ⟨_,h,aC (Γ:=[]) (by simp) Tryz.func25 (by simp[Tryz.ntmps25]) rfl (b2025 xs ys)⟩
 ·exact h.elim
theorem b2099 (s:List UInt8):body Tryz.prog [c44] {} true Tryz.f99 [S s] (.bl (iN s) inferInstance):=by
 unfold iN
 (repeat'((conv=>whnf);first|refine Zg fun _=>?_|fail))
 (refine Br.mk (fun _=>?_) (fun _=>?_))
 ·rename_i h
  skip
  (conv=>whnf)
  exact .inl (by omega)
 ·rename_i h
  skip
  (conv=>whnf)
  constructor
  ·exact .inr
  ·rintro (h1 | h1)
   ·omega
   ·exact h1
def aKu:Con:=aL 99 true fun args K=>match args with | [.str s]=>K (.bl (iN s) inferInstance) | _=>False
theorem k2099:aH Tryz.prog aKu:=by
 refine aE rfl (enters_of Tryz.func99 (by kernel_rfl) rfl) ?_
 intro args K h
 simp only[aKu] at h
 split at h
 ·rename_i s;exact ⟨_,h,aC (Γ:=[c44]) (by simp[k44]) Tryz.func99 (by simp[Tryz.ntmps99]) rfl (b2099 s)⟩
 ·exact h.elim
theorem aTk (l:List (List UInt8)):body Tryz.prog [aKu] { asks:=[(0,[])] } true Tryz.f101 [.seq .str l,.clo 99 [] []] (I (ixD iN l)):=by
 (repeat'((conv=>whnf);first|refine Zg fun _=>?_|fail))
 refine Ask.mk ⟨{ X:=Nat,pre:=fun i=>i≤l.length∧∀j,j<i→¬iN (l.getD j []),mod:=fun i _=>[(8,I i)],heap:=fun i H=>H,mu:=fun i=>l.length-i },rfl,?_⟩
 (repeat'((conv=>whnf);first|refine Zn ?_|fail))
 refine ⟨⟨(0:Nat),⟨Nat.zero_le _,fun j hj=>by omega⟩,?_⟩,fun (i:Nat) hi=>?_⟩
 ·(repeat'(first|exact trivial|rfl|refine And.intro ?_ ?_|fail))
 obtain ⟨hi,hp⟩:=hi
 by_cases hlt:i<l.length
 ·by_cases hb:iN (l.getD i [])
  ·(repeat'((conv=>whnf);first|refine Zn ?_|refine Zj ?_|refine Zy ?_|fail))
   (conv=>whnf)
   (repeat'(first|rfl|refine And.intro ?_ ?_|fail))
   exact (aDk _ hlt hb hp).symm
  ·(repeat'((conv=>whnf);first|refine Zn ?_|refine Zj ?_|refine Zy ?_|refine Zm ?_|fail))
   refine ⟨(i+1:Nat),by show l.length-(i+1)<l.length-i;omega,⟨hlt,fun j hj=>?_⟩,?_⟩
   ·rcases Nat.lt_succ_iff_lt_or_eq.1 hj with h1 | h1
    ·exact hp j h1
    ·subst h1;exact hb
   ·(repeat'(first|exact trivial|rfl|refine And.intro ?_ ?_|fail))
 ·have e:i=l.length:=by omega
  subst e
  (repeat'((conv=>whnf);first|refine Zm ?_|fail))
  (conv=>whnf)
  (repeat'(first|rfl|refine And.intro ?_ ?_|fail))
  exact (yF _ hp).symm
def aDu:Con:=aL 101 true fun args K=>match args with | [.seq .str l,.clo 99 [] []]=>K (I (ixD iN l)) | _=>False
theorem aTl:aH Tryz.prog aDu:=by
 refine aE rfl (enters_of Tryz.func101 (by kernel_rfl) rfl) ?_
 intro args K h
 simp only[aDu] at h
 split at h
 ·rename_i l;exact ⟨_,h,aC (Γ:=[aKu]) (by simp[k2099]) Tryz.func101 (by simp[Tryz.ntmps101]) rfl (aTk l)⟩
 ·exact h.elim
theorem aTm (l:List (List UInt8)):body Tryz.prog [aDu] {} true Tryz.f35 [.seq .str l,.clo 99 [] []] (.bl (0≤ixD iN l) inferInstance):=by
 skip
 (conv=>whnf)
 skip
def aDv:Con:=aL 35 true fun args K=>match args with | [.seq .str l,.clo 99 [] []]=>K (.bl (0≤ixD iN l) inferInstance) | _=>False
theorem aTn:aH Tryz.prog aDv:=by
 refine aE rfl (enters_of Tryz.func35 (by kernel_rfl) rfl) ?_
 intro args K h
 simp only[aDv] at h
 split at h
 ·rename_i l;exact ⟨_,h,aC (Γ:=[aDu]) (by simp[aTl]) Tryz.func35 (by simp[Tryz.ntmps35]) rfl (aTm l)⟩
 ·exact h.elim
theorem b2031 (l:List (List UInt8)):body Tryz.prog [aDv] {} true Tryz.f31 [.seq .str l] (.bl (shS l) inferInstance):=by
 skip
 (conv=>whnf)
 exact aP6 l
def uX:Con:=aL 31 true fun args K=>match args with | [.seq .str l]=>K (.bl (shS l) inferInstance) | _=>False
theorem aO0:aH Tryz.prog uX:=by
 refine aE rfl (enters_of Tryz.func31 (by kernel_rfl) rfl) ?_
 intro args K h
 simp only[uX] at h
 split at h
 ·rename_i l;exact ⟨_,h,aC (Γ:=[aDv]) (by simp[aTn]) Tryz.func31 (by simp[Tryz.ntmps31]) rfl (b2031 l)⟩
 ·exact h.elim
theorem b2030 (l:List (List UInt8)):body Tryz.prog [uX,aKe] {} true Tryz.f30 [.seq .str l] (.bl (rT l) inferInstance):=by
 unfold rT
 by_cases h1:l.length≤16
 ·by_cases h2:shS l
  ·(repeat'((conv=>whnf);first|refine Zg fun _=>?_|refine Zy ?_|fail))
   (conv=>whnf)
   exact ⟨fun h=>⟨⟨h1,h2⟩,h⟩,fun h=>h.2⟩
  ·(repeat'((conv=>whnf);first|refine Zg fun _=>?_|refine Zy ?_|refine Zm ?_|fail))
   (conv=>whnf)
   exact fun h=>h2 h.1.2
 ·(repeat'((conv=>whnf);first|refine Zg fun _=>?_|refine Zm ?_|fail))
  (conv=>whnf)
  exact fun h=>h1 h.1.1
def uY:Con:=aL 30 true fun args K=>match args with | [.seq .str l]=>K (.bl (rT l) inferInstance) | _=>False
theorem aO1:aH Tryz.prog uY:=by
 refine aE rfl (enters_of Tryz.func30 (by kernel_rfl) rfl) ?_
 intro args K h
 simp only[uY] at h
 split at h
 ·rename_i l;exact ⟨_,h,aC (Γ:=[uX,aKe]) (by simp[aO0,k2029]) Tryz.func30 (by simp[Tryz.ntmps30]) rfl (b2030 l)⟩
 ·exact h.elim
theorem aRb:FewP [48] [49,48,48,48] [49,48,48] [52,48,48]:=by
 refine ⟨aNs.1,fun _ _ _ _=>?_⟩
 rw[← aR0,← n400,← numS0]
 simp only[bL]
 decide+kernel
theorem b2013:body Tryz.prog [aKt,aBl,aBm] {} true Tryz.f13 [] (.val (.bool true)):=by
 have p1:=aRb
 have p2:=aNs.2
 have e1:(atW [48] [49,48,48,48] [49,48,48] [52,48,48]).2=0:=by rw[aR1]
 have e2:(atW [48] [49,48,48,48] [49,48,48] [52,48,48]).1= [[49,48,48],[53,48,48],[57,48,48]]:=by rw[aR1]
 have e3:(evW [48] [49,48] [52]).2=0:=by rw[aR2]
 have e4:(evW [48] [49,48] [52]).1= [[48],[49,48,47,51],[50,48,47,51],[49,48]]:=by rw[aR2]
 (repeat'((conv=>whnf);first|refine Zn ?_|refine Zl ?_|refine Zy ?_|fail))
 (conv=>whnf)
 exact iff_of_true e4 rfl
def qD:Con:=aL 13 true fun args K=>match args with | []=>K (.val (.bool true)) | _=>False
theorem aKv:aH Tryz.prog qD:=by
 refine aE rfl (enters_of Tryz.func13 (by kernel_rfl) rfl) ?_
 intro args K h
 simp only[qD] at h
 split at h
 ·exact ⟨_,h,aC (Γ:=[aKt,aBl,aBm]) (by simp[k2026,aSd,aSe]) Tryz.func13 (by simp[Tryz.ntmps13]) rfl b2013⟩
 ·exact h.elim
set_option linter.unusedSimpArgs false
def npP (d:List UInt8):Prop:=¬((cmpQ [48] d).2=0∧(cmpQ [48] d).1<0)
noncomputable instance (s:List UInt8):Decidable (npP s):=Classical.propDecidable _
noncomputable instance:DecidablePred npP:=fun s=>Classical.propDecidable _
theorem b2036 (d:List UInt8):body Tryz.prog [uW] {} true Tryz.f36 [S d] (.bl (npP d) inferInstance):=by
 skip
 (conv=>whnf)
 (repeat'(first|rfl|fail))
def aKw:Con:=aL 36 true fun args K=>match args with | [.str d]=>K (.bl (npP d) inferInstance) | _=>False
theorem k2036:aH Tryz.prog aKw:=by
 refine aE rfl (enters_of Tryz.func36 (by kernel_rfl) rfl) ?_
 intro args K h
 simp only[aKw] at h
 split at h
 ·rename_i d;exact ⟨_,h,aC (Γ:=[uW]) (by simp[aOt]) Tryz.func36 (by simp[Tryz.ntmps36]) rfl (b2036 d)⟩
 ·exact h.elim
theorem aTo (l:List (List UInt8)):body Tryz.prog [aKw] { asks:=[(0,[])] } true Tryz.f101 [.seq .str l,.clo 36 [] []] (I (ixD npP l)):=by
 (repeat'((conv=>whnf);first|refine Zg fun _=>?_|fail))
 refine Ask.mk ⟨{ X:=Nat,pre:=fun i=>i≤l.length∧∀j,j<i→¬npP (l.getD j []),mod:=fun i _=>[(8,I i)],heap:=fun i H=>H,mu:=fun i=>l.length-i },rfl,?_⟩
 (repeat'((conv=>whnf);first|refine Zn ?_|fail))
 refine ⟨⟨(0:Nat),⟨Nat.zero_le _,fun j hj=>by omega⟩,?_⟩,fun (i:Nat) hi=>?_⟩
 ·(repeat'(first|exact trivial|rfl|refine And.intro ?_ ?_|fail))
 obtain ⟨hi,hp⟩:=hi
 by_cases hlt:i<l.length
 ·by_cases hb:npP (l.getD i [])
  ·(repeat'((conv=>whnf);first|refine Zn ?_|refine Zj ?_|refine Zy ?_|fail))
   (conv=>whnf)
   (repeat'(first|rfl|refine And.intro ?_ ?_|fail))
   exact (aDk _ hlt hb hp).symm
  ·(repeat'((conv=>whnf);first|refine Zn ?_|refine Zj ?_|refine Zy ?_|refine Zm ?_|fail))
   refine ⟨(i+1:Nat),by show l.length-(i+1)<l.length-i;omega,⟨hlt,fun j hj=>?_⟩,?_⟩
   ·rcases Nat.lt_succ_iff_lt_or_eq.1 hj with h1 | h1
    ·exact hp j h1
    ·subst h1;exact hb
   ·(repeat'(first|exact trivial|rfl|refine And.intro ?_ ?_|fail))
 ·have e:i=l.length:=by omega
  subst e
  (repeat'((conv=>whnf);first|refine Zm ?_|fail))
  (conv=>whnf)
  (repeat'(first|rfl|refine And.intro ?_ ?_|fail))
  exact (yF _ hp).symm
def aDw:Con:=aL 101 true fun args K=>match args with | [.seq .str l,.clo 36 [] []]=>K (I (ixD npP l)) | _=>False
theorem aTp:aH Tryz.prog aDw:=by
 refine aE rfl (enters_of Tryz.func101 (by kernel_rfl) rfl) ?_
 intro args K h
 simp only[aDw] at h
 split at h
 ·rename_i l;exact ⟨_,h,aC (Γ:=[aKw]) (by simp[k2036]) Tryz.func101 (by simp[Tryz.ntmps101]) rfl (aTo l)⟩
 ·exact h.elim
theorem aTq (l:List (List UInt8)):body Tryz.prog [aDw] {} true Tryz.f35 [.seq .str l,.clo 36 [] []] (.bl (0≤ixD npP l) inferInstance):=by
 skip
 (conv=>whnf)
 skip
def aDx:Con:=aL 35 true fun args K=>match args with | [.seq .str l,.clo 36 [] []]=>K (.bl (0≤ixD npP l) inferInstance) | _=>False
theorem aTr:aH Tryz.prog aDx:=by
 refine aE rfl (enters_of Tryz.func35 (by kernel_rfl) rfl) ?_
 intro args K h
 simp only[aDx] at h
 split at h
 ·rename_i l;exact ⟨_,h,aC (Γ:=[aDw]) (by simp[aTp]) Tryz.func35 (by simp[Tryz.ntmps35]) rfl (aTq l)⟩
 ·exact h.elim
noncomputable def gL (qs:List Rat):List (List UInt8):=(List.range (qs.length-1)).map fun j=>numS (qs.getD (j+1) 0-qs.getD j 0)
theorem aRc {qs:List Rat} (hq:∀q∈qs,Sz 20 q) (hc:ckS (qs.map numS)=0):gpS (qs.map numS)=(gL qs,0):=by
 unfold gpS
 rw[if_neg (fun h=>h hc),List.length_map]
 by_cases h:0<qs.length
 ·rw[aA1 (k:=20) ⟨by decide,by decide⟩ hq _ 0 (by omega),Nat.zero_add];rfl
 ·have e:qs= []:=List.length_eq_zero_iff.1 (by omega)
  subst e;rfl
theorem aO2 (qs:List Rat):(gL qs).length=qs.length-1:=by unfold gL;rw[List.length_map,List.length_range]
theorem aRd {qs:List Rat} (ha:Asc qs) {i j:Nat} (hij:i<j) (hj:j<qs.length):qs.getD i 0<qs.getD j 0:=by
 have:=(List.pairwise_iff_getElem.1 ha) i j (by omega) hj hij
 simpa [List.getD_eq_getElem?_getD,hj,show i<qs.length by omega] using this
theorem aTs {qs:List Rat} (hq:∀q∈qs,Sz 20 q) (ha:Asc qs):¬0≤ixD npP (gL qs):=by
 rw[sB]
 rintro ⟨d,hd,hn⟩
 unfold gL at hd
 obtain ⟨j,hj,rfl⟩:=List.mem_map.1 hd
 have hj:=List.mem_range.1 hj
 have z1:=hq _ (bX (d:=(0:Rat)) (show j+1<qs.length by omega))
 have z2:=hq _ (bX (d:=(0:Rat)) (show j<qs.length by omega))
 have hlt:=aRd ha (show j<j+1 by omega) (show j+1<qs.length by omega)
 have e:=hU (show Sz 1 0 from ⟨by decide,by decide⟩) (z1.sub z2) (by decide) (by decide) (by decide)
 rw[numS0] at e
 refine hn ?_
 rw[e]
 exact ⟨rfl,(eJ _ _).2 (by grind)⟩
theorem aTt {qs:List Rat} (hq:∀q∈qs,Sz 20 q) (hl:0<qs.length) (hl2:qs.length≤16):sumQ (gL qs)=(numS (qs.getD (qs.length-1) 0-qs.getD 0 0),0):=by
 unfold sumQ
 rw[if_neg (by rw[aO2];omega),if_neg]
 ·have:=aF1 (k:=20) ⟨by decide,by decide⟩ hq (qs.length-1) 0 (by omega)
  rw[show qs.getD 0 0-qs.getD 0 0=0 by grind,numS0] at this
  simp only[Nat.zero_add] at this
  exact this
 ·refine fun h=>h (aPt fun a ha=>?_)
  unfold gL at ha
  obtain ⟨j,hj,rfl⟩:=List.mem_map.1 ha
  have hj:=List.mem_range.1 hj
  exact eH ((hq _ (bX (d:=(0:Rat)) (show j+1<qs.length by omega))).sub (hq _ (bX (d:=(0:Rat)) (show j<qs.length by omega)))) ⟨by decide,by decide⟩
theorem b2006 (l:List (List UInt8)):body Tryz.prog [uY,qD,aKl,aDx,c27,c20] {} true Tryz.f6 [.seq .str l] (.val (.bool true)):=by
 by_cases h1:rT l
 ·have hc:=h1.2
  obtain ⟨qs,rfl,hq,ha,hl⟩:=oZ h1
  have e0:=aRc hq hc
  have e1:=congrArg Prod.fst e0
  have e2:=congrArg Prod.snd e0
  have n1:(gpS (qs.map numS)).1.length=qs.length-1:=by rw[e1];exact aO2 qs
  have n2:(qs.map numS).length=qs.length:=List.length_map ..
  have p1:¬0≤ixD npP (gpS (qs.map numS)).1:=by rw[e1];exact aTs hq ha
  by_cases h0:qs.length=0
  ·(repeat'((conv=>whnf);first|refine Zg fun _=>?_|refine Zn ?_|refine Zy ?_|refine Zm ?_|fail))
   (conv=>whnf)
   skip
  ·have s1:sumQ (gpS (qs.map numS)).1=(numS (qs.getD (qs.length-1) 0-qs.getD 0 0),0):=by rw[e1];exact aTt hq (by omega) hl
   have d1:=gZ (hq _ (bX (d:=(0:Rat)) (show qs.length-1<qs.length by omega))) (hq _ (bX (d:=(0:Rat)) (show 0<qs.length by omega))) (by decide) (by decide) (by decide)
   rw[← gS (show qs.length-1<qs.length by omega),← gS (show 0<qs.length by omega)] at d1
   have s2:=congrArg Prod.snd s1
   have d2:=congrArg Prod.snd d1
   have s3:(sumQ (gpS (qs.map numS)).1).1=(subQ ((qs.map numS).getD (qs.length-1) []) ((qs.map numS).getD 0 [])).1:=by rw[s1,d1]
   (repeat'((conv=>whnf);first|refine Zg fun _=>?_|refine Zn ?_|(apply Pin.mk;apply Exists.intro)|apply Pinned.mk rfl rfl|refine Zm ?_|fail))
   refine ixAt (qs.length-1) (by omega) ?_
   (repeat'((conv=>whnf);first|refine Zn ?_|refine Z0 ?_|(apply Pin.mk;apply Exists.intro)|apply Pinned.mk rfl rfl|refine Zy ?_|fail))
   (conv=>whnf)
   skip
 ·(repeat'((conv=>whnf);first|refine Zy ?_|fail))
  (conv=>whnf)
  skip
theorem t2006 (l:List (List UInt8)) (_:Okd (.slice .str) l):Tri Tryz.prog true 6 [.seq .str l] (.val (.bool true)):=
 aC (Γ:=[uY,qD,aKl,aDx,c27,c20]) (by simp[aO1,aKv,k2034,aTr,k27,k20]) Tryz.func6 (by simp[Tryz.ntmps6]) rfl (b2006 l)
theorem b2033 (x t:List UInt8):body Tryz.prog [c20] {} true Tryz.f33 [S x,.lelem [S t] 0] (S (dsS x t).1):=by
 unfold dsS
 by_cases h:(subQ x t).2=0
 ·have hl:=aF4 h
  have hn:¬(subQ x t).1= []:=fun e=>by rw[e] at hl;exact absurd hl (by decide)
  by_cases h2:aM (subQ x t).1 0=45
  ·rw[if_pos ⟨h,h2⟩]
   (repeat'((conv=>whnf);first|refine Zg fun _=>?_|refine Zn ?_|refine Z0 ?_|refine Z1 ?_|refine Zy ?_|fail))
   (conv=>whnf)
   skip
  ·rw[if_neg (fun h'=>h2 h'.2)]
   (repeat'((conv=>whnf);first|refine Zg fun _=>?_|refine Zn ?_|refine Z0 ?_|refine Zy ?_|refine Zm ?_|fail))
   (conv=>whnf)
   skip
 ·rw[if_neg (fun h'=>h h'.1)]
  (repeat'((conv=>whnf);first|refine Zm ?_|fail))
  (conv=>whnf)
  skip
def aKx:Con:=aL 33 true fun args K=>match args with | [.str x,.lelem [.str t] 0]=>K (S (dsS x t).1) | _=>False
theorem k2033:aH Tryz.prog aKx:=by
 refine aE rfl (enters_of Tryz.func33 (by kernel_rfl) rfl) ?_
 intro args K h
 simp only[aKx] at h
 split at h
 ·rename_i x t;exact ⟨_,h,aC (Γ:=[c20]) (by simp[k20]) Tryz.func33 (by simp[Tryz.ntmps33]) rfl (b2033 x t)⟩
 ·exact h.elim
noncomputable def aDy:Con:=aL 32 true fun args K=>match args with
 | [.seq .str l,.str t]=>Need (Lm l∧(chkQ t=0→t.length≤82)) (Alt (Has (fun r=>nrS l t=(r,0)) fun r=>K (.tup [I r,I 0])) (K (.tup [I (nrS l t).1,I (nrS l t).2])))
 | _=>False
theorem aTu:aH Tryz.prog aDy:=dP k2032 rfl rfl rfl fun args K h=>by
 simp only[aDy] at h
 split at h
 ·refine ⟨h.ok,?_⟩
  rcases h.go.or with h | h
  ·obtain ⟨r,e,h⟩:=h.ex
   show K _
   rw[e];exact h
  ·exact h
 ·exact h.elim
theorem aO3 {qs:List Rat} {t:Rat} (hq:∀q∈qs,Sz 20 q) (ht:Sz 20 t) (hc:ckS (qs.map numS)=0) (hl:0<qs.length):∃b:Nat,b<qs.length∧nrS (qs.map numS) (numS t)=((b:Int),0)∧
  (∀j,j<qs.length→absR (qs.getD b 0-t)≤absR (qs.getD j 0-t))∧(∀j,j<b→absR (qs.getD b 0-t)<absR (qs.getD j 0-t)):=by
 have e1:=vL (hq _ (bX (d:=(0:Rat)) hl)) ht (by decide) (by decide) (by decide)
 obtain ⟨b,hb,e,h1,h2⟩:=xY (k:=20) ⟨by decide,by decide⟩ hq ht (qs.length-1) 1 0 (by omega) (by decide) (fun j hj=>by rw[show j=0 by omega];exact Rat.le_refl) (fun j hj=>absurd hj (Nat.not_lt_zero _))
 refine ⟨b,hb,?_,h1,h2⟩
 unfold nrS
 rw[if_neg (by rintro (h | h);exact h hc;exact h (eH ht ⟨by decide,by decide⟩)),if_neg (by rw[List.length_map];omega),gS hl,e1,if_neg (fun h=>h rfl),List.length_map]
 exact e
theorem b2005 (l:List (List UInt8)) (t:List UInt8):body Tryz.prog [uY,uX,qD,aDy,aKx,uW] { asks:=[(0,[])] } true Tryz.f5 [.seq .str l,S t] (.val (.bool true)):=by
 by_cases h1:rT l
 ·by_cases h2:shS [t]
  ·have hc:=h1.2
   obtain ⟨qs,rfl,hq,ha,hl⟩:=oZ h1
   obtain ⟨et,zt⟩:=pO (h2 t (by simp)).1 (h2 t (by simp)).2 (by decide)
   have hpre:Lm (qs.map numS)∧(chkQ t=0→t.length≤82):=⟨aDc h1.1.2,fun _=>Nat.le_trans (h2 t (by simp)).1 (by decide)⟩
   generalize valQ t=u at*
   subst et
   have n2:(qs.map numS).length=qs.length:=List.length_map ..
   by_cases h0:qs.length=0
   ·have e0:nrS (qs.map numS) (numS u)=(0,5):=by
     unfold nrS
     rw[if_neg (by rintro (h | h);exact h hc;exact h (eH zt ⟨by decide,by decide⟩)),if_pos (by omega)]
    have e1:=congrArg Prod.fst e0
    have e2:=congrArg Prod.snd e0
    dsimp only at e1 e2
    (repeat'((conv=>whnf);first|refine Zg fun _=>?_|refine Zn ?_|refine .r ?_|refine Zl ?_|refine Zy ?_|refine Zm ?_|fail))
    (conv=>whnf)
    skip
   ·obtain ⟨b,hb,e0,f1,f2⟩:=aO3 hq zt hc (by omega)
    have ds:∀j,j<qs.length→dsS ((qs.map numS).getD j []) (numS u)=(numS (absR (qs.getD j 0-u)),0):=fun j hj=>by
     rw[gS hj]
     exact vL (hq _ (bX (d:=(0:Rat)) hj)) zt (by decide) (by decide) (by decide)
    (repeat'((conv=>whnf);first|refine Zg fun _=>?_|refine Zn ?_|refine Zj ?_|refine .h ?_|refine Zl ?_|refine Zm ?_|fail))
    refine Ask.mk ⟨{ X:=Nat,pre:=fun i=>i≤qs.length,mod:=fun i _=>[(61,I i)],heap:=fun i H=>H,mu:=fun i=>qs.length-i },rfl,?_⟩
    (repeat'((conv=>whnf);first|refine Zn ?_|fail))
    refine ⟨⟨(0:Nat),Nat.zero_le _,?_⟩,fun (i:Nat) hi=>?_⟩
    ·(repeat'(first|exact trivial|rfl|refine And.intro ?_ ?_|fail))
    have hi:i≤qs.length:=hi
    by_cases hlt:i<qs.length
    ·have z1:Sz 41 (absR (qs.getD i 0-u)):=vK ((hq _ (bX (d:=(0:Rat)) hlt)).sub zt)
     have z2:Sz 41 (absR (qs.getD b 0-u)):=vK ((hq _ (bX (d:=(0:Rat)) hb)).sub zt)
     have g1:¬((cmpQ (dsS ((qs.map numS).getD i []) (numS u)).1 (dsS ((qs.map numS).getD b []) (numS u)).1).2=0∧(cmpQ (dsS ((qs.map numS).getD i []) (numS u)).1 (dsS ((qs.map numS).getD b []) (numS u)).1).1<0):=by
      rw[ds i hlt,ds b hb,hU z1 z2 (by decide) (by decide) (by decide)]
      exact fun h=>Rat.not_lt.2 (f1 i hlt) ((eJ _ _).1 h.2)
     by_cases hib:i<b
     ·have g2:¬(dsS ((qs.map numS).getD i []) (numS u)).1=(dsS ((qs.map numS).getD b []) (numS u)).1:=by
       rw[ds i hlt,ds b hb]
       exact fun h=>Rat.lt_irrefl ((oC h) ▸ f2 i hib)
      (repeat'((conv=>whnf);first|refine Zn ?_|refine Zj ?_|refine Zy ?_|refine Zm ?_|fail))
      refine ⟨(i+1:Nat),by show qs.length-(i+1)<qs.length-i;omega,hlt,?_⟩
      (repeat'(first|exact trivial|rfl|refine And.intro ?_ ?_|fail))
     ·(repeat'((conv=>whnf);first|refine Zn ?_|refine Zj ?_|refine Zy ?_|refine Zm ?_|fail))
      refine ⟨(i+1:Nat),by show qs.length-(i+1)<qs.length-i;omega,hlt,?_⟩
      (repeat'(first|exact trivial|rfl|refine And.intro ?_ ?_|fail))
    ·(repeat'((conv=>whnf);first|refine Zm ?_|fail))
     (conv=>whnf)
     skip
  ·(repeat'((conv=>whnf);first|refine Zl ?_|refine Zy ?_|refine Zm ?_|fail))
   (conv=>whnf)
   skip
 ·(repeat'((conv=>whnf);first|refine Zy ?_|fail))
  (conv=>whnf)
  skip
theorem t2005 (l:List (List UInt8)) (t:List UInt8) (_:Okd (.slice .str) l) (_:t.length≤maxL):Tri Tryz.prog true 5 [.seq .str l,S t] (.val (.bool true)):=
 aC (Γ:=[uY,uX,qD,aDy,aKx,uW]) (by simp[aO1,aO0,aKv,aTu,k2033,aOt]) Tryz.func5 (by simp[Tryz.ntmps5]) rfl (b2005 l t)
def prP (lo hi s:List UInt8):Prop:=shS [lo,hi,s]∧valQ lo≤valQ hi∧0<valQ s∧(valQ hi-valQ lo)/valQ s≤100
noncomputable instance (lo hi s:List UInt8):Decidable (prP lo hi s):=Classical.propDecidable _
theorem sh3 {a b c:List UInt8} (h:shS [a,b,c]):∃p q r,(a=numS p∧b=numS q∧c=numS r)∧Sz 20 p∧Sz 20 q∧Sz 20 r:=by
 obtain ⟨e1,z1⟩:=pO (h a (by simp)).1 (h a (by simp)).2 (by decide)
 obtain ⟨e2,z2⟩:=pO (h b (by simp)).1 (h b (by simp)).2 (by decide)
 obtain ⟨e3,z3⟩:=pO (h c (by simp)).1 (h c (by simp)).2 (by decide)
 exact ⟨_,_,_,⟨e1,e2,e3⟩,z1,z2,z3⟩
theorem aDq {p q:Rat}:cmpR p q≤0↔p≤q:=by
 have h1:=eJ q p
 have h2:=oI q p
 constructor
 ·intro h
  refine Rat.not_lt.1 fun hlt=>?_
  have:=h1.2 hlt
  omega
 ·intro h
  have:¬cmpR q p<0:=fun h'=>Rat.not_le.2 (h1.1 h') h
  omega
theorem b2012 (lo hi s:List UInt8):body Tryz.prog [uX,c43n,c40n,c42n] {} true Tryz.f12 [.agg [S lo,S hi],S s] (.bl (prP lo hi s) inferInstance):=by
 by_cases h1:shS [lo,hi,s]
 ·obtain ⟨L,H,Z,⟨rfl,rfl,rfl⟩,zL,zH,zZ⟩:=sh3 h1
  have hP:prP (numS L) (numS H) (numS Z)↔shS [numS L,numS H,numS Z]∧L≤H∧0<Z∧(H-L)/Z≤100:=by
   unfold prP
   simp only[bL]
  have hl:0<(numS Z).length:=List.length_pos_iff.2 (sI Z)
  have hh:=kB Z
  by_cases h0:Z=0
  ·have e:numS Z= [48]:=by rw[h0,numS0]
   (repeat'((conv=>whnf);first|refine Zl ?_|refine Zy ?_|refine Zm ?_|fail))
   (conv=>whnf)
   exact fun h=>Rat.lt_irrefl (h0 ▸ (hP.1 h).2.2.1)
  ·have e:¬numS Z= [48]:=fun e=>h0 (oC (e.trans numS0.symm))
   by_cases hn:Z<0
   ·have e2:=hh.2 hn
    (repeat'((conv=>whnf);first|refine Zg fun _=>?_|refine Zn ?_|refine Z0 ?_|refine Zl ?_|refine Zy ?_|refine Zm ?_|fail))
    (conv=>whnf)
    exact fun h=>Rat.lt_irrefl (ltT (hP.1 h).2.2.1 hn)
   ·have e2:¬aM (numS Z) 0=45:=fun h=>hn (hh.1 h)
    have hp:0<Z:=Rat.not_le.1 fun h=>h0 (Rat.le_antisymm h (Rat.not_lt.1 hn))
    have c1:=hU zL zH (by decide) (by decide) (by decide)
    have c2:=gZ zH zL (by decide) (by decide) (by decide)
    have c3:=kS (zH.sub zL) zZ (by decide) (by decide) (by decide) h0
    have c4:=hU ((zH.sub zL).div zZ h0) (show Sz 4 100 from ⟨by decide,by decide⟩) (by decide) (by decide) (by decide)
    rw[n100] at c4
    by_cases hle:L≤H
    ·have c5:=aDq.2 hle
     (repeat'((conv=>whnf);first|refine Zg fun _=>?_|refine Zn ?_|refine Z0 ?_|refine .h ?_|refine Zl ?_|refine Zy ?_|refine Zm ?_|fail))
     (conv=>whnf)
     exact ⟨fun h=>hP.2 ⟨h1,hle,hp,aDq.1 h⟩,fun h=>aDq.2 (hP.1 h).2.2.2⟩
    ·have c5:¬cmpR L H≤0:=fun h=>hle (aDq.1 h)
     (repeat'((conv=>whnf);first|refine Zg fun _=>?_|refine Zn ?_|refine Z0 ?_|refine .h ?_|refine Zl ?_|refine Zy ?_|refine Zm ?_|fail))
     (conv=>whnf)
     exact fun h=>hle (hP.1 h).2.1
 ·(repeat'((conv=>whnf);first|refine Zl ?_|refine Zy ?_|fail))
  (conv=>whnf)
  exact fun h=>h1 h.1
def aKf:Con:=aL 12 true fun args K=>match args with | [.agg [.str lo,.str hi],.str s]=>K (.bl (prP lo hi s) inferInstance) | _=>False
theorem k2012:aH Tryz.prog aKf:=by
 refine aE rfl (enters_of Tryz.func12 (by kernel_rfl) rfl) ?_
 intro args K h
 simp only[aKf] at h
 split at h
 ·rename_i lo hi s;exact ⟨_,h,aC (Γ:=[uX,c43n,c40n,c42n]) (by simp[aO0,k43n,k40n,k42n]) Tryz.func12 (by simp[Tryz.ntmps12]) rfl (b2012 lo hi s)⟩
 ·exact h.elim
section
variable {L H M:Rat}
theorem aQ8:((evR L H M).map numS).length=(evC L H M).toNat+1:=by unfold evR;rw[List.length_map,List.length_map,List.length_range]
theorem aQ9 {i:Nat} (hi:i<(evC L H M).toNat+1):((evR L H M).map numS).getD i []=numS (L+cL L H M*((i:Int):Rat)):=by
 unfold evR
 rw[List.map_map,List.getD_eq_getElem?_getD,List.getElem?_map,List.getElem?_range hi];rfl
theorem aS7 (h100:(H-L)/M≤100):evC L H M≤100:=by
 have h:=aH0 ((H-L)/M)
 have h2:((evC L H M-1:Int):Rat)<((100:Int):Rat):=Rat.not_le.1 fun h'=>Rat.not_le.2 h (Rat.le_trans h100 h')
 have:=Rat.intCast_lt_intCast.1 h2
 omega
theorem sz3 {n:Int} (h0:0≤n) (h:n≤900):Sz 3 (n:Rat):=tQ (by have:(10:Nat)^3=1000:=(by decide);omega) (by decide)
end
set_option maxHeartbeats 4000000 in
theorem b2003 (lo hi m:List UInt8):body Tryz.prog [aKf,qD,aBl,c20n,uW,c22,c14n] { asks:=[(0,[])] } true Tryz.f3 [.agg [S lo,S hi],S m] (.val (.bool true)):=by
 by_cases h1:prP lo hi m
 ·obtain ⟨hs,hle,hp,h100⟩:=h1
  have h1:prP lo hi m:=⟨hs,hle,hp,h100⟩
  have hL:Lm [lo,hi,m]:=aDc hs
  obtain ⟨L,H,M,⟨rfl,rfl,rfl⟩,zL,zH,zM⟩:=sh3 hs
  simp only[bL] at hle hp h100
  have hrg:rgP (numS L) (numS H):=(aDd zL zH ⟨by decide,by decide⟩).2 hle
  have cM:chkQ (numS M)=0:=eH zM ⟨by decide,by decide⟩
  have e0:evW (numS L) (numS H) (numS M)=if numS L=numS H then ([numS L],0) else if 4095<clI ((H-L)/M) then ([],4) else ((evR L H M).map numS,0):=by
   unfold evW
   simp only[bL]
   rw[if_neg (by rintro (h | h);exact h hrg;exact h cM),if_neg (fun h=>h hp)]
  by_cases h4:numS L=numS H
  ·rw[if_pos h4] at e0
   have e1:=congrArg Prod.fst e0
   have e2:=congrArg Prod.snd e0
   have n1:(evW (numS L) (numS H) (numS M)).1.length=1:=by rw[e1];rfl
   have g0:(evW (numS L) (numS H) (numS M)).1.getD 0 []=numS L:=by rw[e1];rfl
   have g1:(evW (numS L) (numS H) (numS M)).1.getD 0 []=numS H:=g0.trans h4
   have n3:(((evW (numS L) (numS H) (numS M)).1.length:Int)=1↔numS L=numS H):=⟨fun _=>h4,fun _=>by omega⟩
   (repeat'((conv=>whnf);first|refine Zg fun _=>?_|refine Zn ?_|refine Z0 ?_|(apply Pin.mk;apply Exists.intro)|apply Pinned.mk rfl rfl|refine Zm ?_|fail))
   refine ixAt 0 (by omega) ?_
   (repeat'((conv=>whnf);first|refine Zg fun _=>?_|(apply Pin.mk;apply Exists.intro)|apply Pinned.mk rfl rfl|refine Zy ?_|refine Zm ?_|fail))
   (conv=>whnf)
   skip
  ·rw[if_neg h4] at e0
   have hlt:L<H:=Rat.not_le.1 fun h=>h4 (by rw[Rat.le_antisymm hle h])
   have hA:EvH L H M:=⟨zL.mono (by decide),zH.mono (by decide),zM.mono (by decide),hlt,hp⟩
   have hc:=aS7 h100
   have hcp:=hA.cpos
   rw[if_neg (show ¬4095<clI ((H-L)/M) by have:clI ((H-L)/M)≤100:=hc;omega)] at e0
   have e1:=congrArg Prod.fst e0
   have e2:=congrArg Prod.snd e0
   have n1:(evW (numS L) (numS H) (numS M)).1.length=(evC L H M).toNat+1:=by rw[e1];exact aQ8
   have gg:∀i,i<(evC L H M).toNat+1→(evW (numS L) (numS H) (numS M)).1.getD i []=numS (L+cL L H M*((i:Int):Rat)):=fun i hi=>by rw[e1];exact aQ9 hi
   have g0:(evW (numS L) (numS H) (numS M)).1.getD 0 []=numS L:=by
    rw[gg 0 (by omega),show (((0:Nat):Int):Rat)=0 from rfl,Rat.mul_zero,Rat.add_zero]
   have gc:(evW (numS L) (numS H) (numS M)).1.getD (evC L H M).toNat []=numS H:=by
    have e:=xZ hlt hp
    rw[gg _ (by omega),show (((evC L H M).toNat:Nat):Int)=clI ((H-L)/M) by show _=evC L H M;omega,e]
    congr 1;grind
   have n3:(((evW (numS L) (numS H) (numS M)).1.length:Int)=1↔numS L=numS H):=⟨fun h=>by omega,fun h=>absurd h h4⟩
   have zs:Sz 44 (cL L H M):=(zH.sub zL).div (sz3 (n:=clI ((H-L)/M)) (by have:0<clI ((H-L)/M):=hcp;omega) (by have:clI ((H-L)/M)≤100:=hc;omega)) (fun e=>by
    have:=Rat.intCast_eq_zero_iff.1 e
    have:0<clI ((H-L)/M):=hcp
    omega)
   have zx:∀i:Nat,i≤200→Sz 68 (L+cL L H M*((i:Int):Rat)):=fun i hi=>zL.add (zs.mul (sz3 (n:=(i:Int)) (by omega) (by omega)))
   have dd:∀i,i+1<(evC L H M).toNat+1→subQ ((evW (numS L) (numS H) (numS M)).1.getD (i+1) []) ((evW (numS L) (numS H) (numS M)).1.getD i [])=(numS (cL L H M),0):=fun i hi=>by
    rw[gg _ hi,gg i (by omega),gZ (zx (i+1) (by omega)) (zx i (by omega)) (by decide) (by decide) (by decide)]
    rw[show ((i+1:Nat):Int)=(i:Int)+1 by omega,Rat.intCast_add,Rat.intCast_one]
    congr 2;grind
   have d1:=dd 0 (by omega)
   have w1:¬((cmpQ (numS M) (numS (cL L H M))).2=0∧(cmpQ (numS M) (numS (cL L H M))).1<0):=by
    rw[hU zM zs (by decide) (by decide) (by decide)]
    exact fun h=>Rat.not_lt.2 (aLy hlt hp) ((eJ _ _).1 h.2)
   have w2:(cmpQ [48] (numS (cL L H M))).2=0∧(cmpQ [48] (numS (cL L H M))).1<0:=by
    have e:=hU (show Sz 1 0 from ⟨by decide,by decide⟩) zs (by decide) (by decide) (by decide)
    rw[numS0] at e
    rw[e]
    exact ⟨rfl,(eJ _ _).2 (aH1 hlt hp)⟩
   have r1:numS (cL L H M)=numS (cL L H M):=rfl
   (repeat'((conv=>whnf);first|refine Zg fun _=>?_|refine Zn ?_|refine Z0 ?_|(apply Pin.mk;apply Exists.intro)|apply Pinned.mk rfl rfl|refine Zm ?_|fail))
   refine ixAt (evC L H M).toNat (by omega) ?_
   (repeat'((conv=>whnf);first|refine Zg fun _=>?_|refine Zn ?_|refine Z0 ?_|refine Z1 ?_|(apply Pin.mk;apply Exists.intro)|apply Pinned.mk rfl rfl|refine .h ?_|refine Zm ?_|fail))
   refine Ask.mk ⟨{ X:=Nat,pre:=fun i=>2≤i∧i≤(evC L H M).toNat+1,mod:=fun i _=>[(9,I i)],heap:=fun i Hp=>Hp,mu:=fun i=>(evC L H M).toNat+1-i },rfl,?_⟩
   (repeat'((conv=>whnf);first|refine Zn ?_|fail))
   refine ⟨⟨(2:Nat),⟨Nat.le_refl _,by omega⟩,?_⟩,fun (i:Nat) hi=>?_⟩
   ·(repeat'(first|exact trivial|rfl|refine And.intro ?_ ?_|fail))
   obtain ⟨hi1,hi2⟩:=hi
   by_cases hlt2:i<(evC L H M).toNat+1
   ·have d2:=dd (i-1) (by omega)
    rw[show i-1+1=i by omega] at d2
    (repeat'((conv=>whnf);first|refine Zg fun _=>?_|refine Zn ?_|refine Zj ?_|(apply Pin.mk;apply Exists.intro)|apply Pinned.mk rfl rfl|refine Zy ?_|fail))
    refine ixAt (i-1) (by omega) ?_
    (repeat'((conv=>whnf);first|refine Zn ?_|(apply Pin.mk;apply Exists.intro)|apply Pinned.mk rfl rfl|refine .h ?_|refine Zm ?_|fail))
    refine ⟨(i+1:Nat),by show (evC L H M).toNat+1-(i+1)<(evC L H M).toNat+1-i;omega,⟨by omega,by omega⟩,?_⟩
    (repeat'(first|exact trivial|rfl|refine And.intro ?_ ?_|fail))
   ·by_cases hc2:(evC L H M).toNat=1
    ·(repeat'((conv=>whnf);first|refine Zg fun _=>?_|refine Zy ?_|refine Zm ?_|fail))
     (conv=>whnf)
     skip
    ·have k1:=gZ zH zL (by decide) (by decide) (by decide)
     have hn:(((evW (numS L) (numS H) (numS M)).1.length:Int)-2)=evC L H M-1:=by omega
     have k2:=aP5 (((evW (numS L) (numS H) (numS M)).1.length:Int)-2)
     have k3:=congrArg Prod.snd k2
     have k4:=congrArg Prod.fst k2
     dsimp only at k3 k4
     have hc1:((evC L H M-1:Int):Rat)≠0:=fun e=>by
      have:=Rat.intCast_eq_zero_iff.1 e
      omega
     have z9:Sz 3 ((evC L H M-1:Int):Rat):=sz3 (by omega) (by omega)
     have k5:=kS (zH.sub zL) z9 (by decide) (by decide) (by decide) hc1
     have k6:(ofQ (((evW (numS L) (numS H) (numS M)).1.length:Int)-2) 1).1=itoa (evC L H M-1):=by rw[k4,hn]
     rw[dV,← k6] at k5
     have w3:(cmpQ (numS M) (numS ((H-L)/((evC L H M-1:Int):Rat)))).2=0∧(cmpQ (numS M) (numS ((H-L)/((evC L H M-1:Int):Rat)))).1<0:=by
      rw[hU zM ((zH.sub zL).div z9 hc1) (by decide) (by decide) (by decide)]
      exact ⟨rfl,(eJ _ _).2 (aNy hlt hp (by show 2≤evC L H M;omega))⟩
     (repeat'((conv=>whnf);first|refine Zg fun _=>?_|refine Zn ?_|refine .h ?_|refine Zy ?_|refine Zm ?_|fail))
     (conv=>whnf)
     skip
 ·(repeat'((conv=>whnf);first|refine Zy ?_|fail))
  (conv=>whnf)
  skip
theorem t2003 (lo hi m:List UInt8) (_:m.length≤maxL):Tri Tryz.prog true 3 [.agg [S lo,S hi],S m] (.val (.bool true)):=
 aC (Γ:=[aKf,qD,aBl,c20n,uW,c22,c14n]) (by simp[k2012,aKv,aSd,k20n,aOt,k22,k14n]) Tryz.func3 (by simp[Tryz.ntmps3]) rfl (b2003 lo hi m)
def eqV (v s:List UInt8):Prop:=v=s
noncomputable instance (v:List UInt8):DecidablePred (eqV v):=fun s=>Classical.propDecidable _
theorem b2048 (l:List (List UInt8)) (v:List UInt8):body Tryz.prog [] { asks:=[(0,[])] } true Tryz.f48 [.seq .str l,S v] (I (ixD (eqV v) l)):=by
 (repeat'((conv=>whnf);first|refine Zg fun _=>?_|fail))
 refine Ask.mk ⟨{ X:=Nat,pre:=fun i=>i≤l.length∧∀j,j<i→¬eqV v (l.getD j []),mod:=fun i _=>[(8,I i)],heap:=fun i H=>H,mu:=fun i=>l.length-i },rfl,?_⟩
 (repeat'((conv=>whnf);first|refine Zn ?_|fail))
 refine ⟨⟨(0:Nat),⟨Nat.zero_le _,fun j hj=>by omega⟩,?_⟩,fun (i:Nat) hi=>?_⟩
 ·(repeat'(first|exact trivial|rfl|refine And.intro ?_ ?_|fail))
 obtain ⟨hi,hp⟩:=hi
 by_cases hlt:i<l.length
 ·by_cases hb:v=l.getD i []
  ·(repeat'((conv=>whnf);first|refine Zn ?_|refine Zj ?_|refine Zy ?_|fail))
   (conv=>whnf)
   (repeat'(first|rfl|refine And.intro ?_ ?_|fail))
   exact (aDk (eqV v) hlt hb hp).symm
  ·(repeat'((conv=>whnf);first|refine Zn ?_|refine Zj ?_|refine Zy ?_|refine Zm ?_|fail))
   refine ⟨(i+1:Nat),by show l.length-(i+1)<l.length-i;omega,⟨hlt,fun j hj=>?_⟩,?_⟩
   ·rcases Nat.lt_succ_iff_lt_or_eq.1 hj with h1 | h1
    ·exact hp j h1
    ·subst h1;exact hb
   ·(repeat'(first|exact trivial|rfl|refine And.intro ?_ ?_|fail))
 ·have e:i=l.length:=by omega
  subst e
  (repeat'((conv=>whnf);first|refine Zm ?_|fail))
  (conv=>whnf)
  (repeat'(first|rfl|refine And.intro ?_ ?_|fail))
  exact (yF _ hp).symm
def aKg:Con:=aL 48 true fun args K=>match args with | [.seq .str l,.str v]=>K (I (ixD (eqV v) l)) | _=>False
theorem k2048:aH Tryz.prog aKg:=by
 refine aE rfl (enters_of Tryz.func48 (by kernel_rfl) rfl) ?_
 intro args K h
 simp only[aKg] at h
 split at h
 ·rename_i l v;exact ⟨_,h,aC (Γ:=[]) (by simp) Tryz.func48 (by simp[Tryz.ntmps48]) rfl (b2048 l v)⟩
 ·exact h.elim
theorem aRa (l:List (List UInt8)) (v:List UInt8):0≤ixD (eqV v) l↔v∈l:=by
 rw[sB]
 constructor
 ·rintro ⟨a,ha,h⟩
  have h:v=a:=h
  rw[h];exact ha
 ·intro h;exact ⟨v,h,rfl⟩
noncomputable instance (v:List UInt8) (l:List (List UInt8)):Decidable (v∈l):=Classical.propDecidable _
theorem b2041 (l:List (List UInt8)) (v:List UInt8):body Tryz.prog [aKg] {} true Tryz.f41 [.seq .str l,S v] (.bl (v∈l) (Classical.propDecidable _)):=by
 skip
 (conv=>whnf)
 exact aRa l v
def aKh:Con:=aL 41 true fun args K=>match args with | [.seq .str l,.str v]=>K (.bl (v∈l) (Classical.propDecidable _)) | _=>False
theorem k2041:aH Tryz.prog aKh:=by
 refine aE rfl (enters_of Tryz.func41 (by kernel_rfl) rfl) ?_
 intro args K h
 simp only[aKh] at h
 split at h
 ·rename_i l v;exact ⟨_,h,aC (Γ:=[aKg]) (by simp[k2048]) Tryz.func41 (by simp[Tryz.ntmps41]) rfl (b2041 l v)⟩
 ·exact h.elim
def niP (l:List (List UInt8)) (x:List UInt8):Prop:=¬x∈l
noncomputable instance (l:List (List UInt8)) (x:List UInt8):Decidable (niP l x):=Classical.propDecidable _
noncomputable instance (l:List (List UInt8)):DecidablePred (niP l):=fun s=>Classical.propDecidable _
theorem b2040 (x:List UInt8) (m:List (List UInt8)):body Tryz.prog [aKh] {} true Tryz.f40 [S x,.lelem [.seq .str m] 0] (.bl (niP m x) inferInstance):=by
 skip
 (conv=>whnf)
 (repeat'(first|rfl|fail))
def aKi:Con:=aL 40 true fun args K=>match args with | [.str x,.lelem [.seq .str m] 0]=>K (.bl (niP m x) inferInstance) | _=>False
theorem k2040:aH Tryz.prog aKi:=by
 refine aE rfl (enters_of Tryz.func40 (by kernel_rfl) rfl) ?_
 intro args K h
 simp only[aKi] at h
 split at h
 ·rename_i x m;exact ⟨_,h,aC (Γ:=[aKh]) (by simp[k2041]) Tryz.func40 (by simp[Tryz.ntmps40]) rfl (b2040 x m)⟩
 ·exact h.elim
theorem aS8 (l:List (List UInt8)) (m:List (List UInt8)):body Tryz.prog [aKi] { asks:=[(0,[])] } true Tryz.f101 [.seq .str l,.clo 40 [] [.lelem [.seq .str m] 0]] (I (ixD (niP m) l)):=by
 (repeat'((conv=>whnf);first|refine Zg fun _=>?_|fail))
 refine Ask.mk ⟨{ X:=Nat,pre:=fun i=>i≤l.length∧∀j,j<i→¬(niP m) (l.getD j []),mod:=fun i _=>[(8,I i)],heap:=fun i H=>H,mu:=fun i=>l.length-i },rfl,?_⟩
 (repeat'((conv=>whnf);first|refine Zn ?_|fail))
 refine ⟨⟨(0:Nat),⟨Nat.zero_le _,fun j hj=>by omega⟩,?_⟩,fun (i:Nat) hi=>?_⟩
 ·(repeat'(first|exact trivial|rfl|refine And.intro ?_ ?_|fail))
 obtain ⟨hi,hp⟩:=hi
 by_cases hlt:i<l.length
 ·by_cases hb:(niP m) (l.getD i [])
  ·(repeat'((conv=>whnf);first|refine Zn ?_|refine Zj ?_|refine Zy ?_|fail))
   (conv=>whnf)
   (repeat'(first|rfl|refine And.intro ?_ ?_|fail))
   exact (aDk _ hlt hb hp).symm
  ·(repeat'((conv=>whnf);first|refine Zn ?_|refine Zj ?_|refine Zy ?_|refine Zm ?_|fail))
   refine ⟨(i+1:Nat),by show l.length-(i+1)<l.length-i;omega,⟨hlt,fun j hj=>?_⟩,?_⟩
   ·rcases Nat.lt_succ_iff_lt_or_eq.1 hj with h1 | h1
    ·exact hp j h1
    ·subst h1;exact hb
   ·(repeat'(first|exact trivial|rfl|refine And.intro ?_ ?_|fail))
 ·have e:i=l.length:=by omega
  subst e
  (repeat'((conv=>whnf);first|refine Zm ?_|fail))
  (conv=>whnf)
  (repeat'(first|rfl|refine And.intro ?_ ?_|fail))
  exact (yF _ hp).symm
def aDr:Con:=aL 101 true fun args K=>match args with | [.seq .str l,.clo 40 [] [.lelem [.seq .str m] 0]]=>K (I (ixD (niP m) l)) | _=>False
theorem aS9:aH Tryz.prog aDr:=by
 refine aE rfl (enters_of Tryz.func101 (by kernel_rfl) rfl) ?_
 intro args K h
 simp only[aDr] at h
 split at h
 ·rename_i l m;exact ⟨_,h,aC (Γ:=[aKi]) (by simp[k2040]) Tryz.func101 (by simp[Tryz.ntmps101]) rfl (aS8 l m)⟩
 ·exact h.elim
theorem aTa (l:List (List UInt8)) (m:List (List UInt8)):body Tryz.prog [aDr] {} true Tryz.f35 [.seq .str l,.clo 40 [] [.lelem [.seq .str m] 0]] (.bl (0≤ixD (niP m) l) inferInstance):=by
 skip
 (conv=>whnf)
 skip
def aDs:Con:=aL 35 true fun args K=>match args with | [.seq .str l,.clo 40 [] [.lelem [.seq .str m] 0]]=>K (.bl (0≤ixD (niP m) l) inferInstance) | _=>False
theorem aTb:aH Tryz.prog aDs:=by
 refine aE rfl (enters_of Tryz.func35 (by kernel_rfl) rfl) ?_
 intro args K h
 simp only[aDs] at h
 split at h
 ·rename_i l m;exact ⟨_,h,aC (Γ:=[aDr]) (by simp[aS9]) Tryz.func35 (by simp[Tryz.ntmps35]) rfl (aTa l m)⟩
 ·exact h.elim
theorem b2039 (m:List (List UInt8)):body Tryz.prog [] {} false Tryz.f39 [.seq .str m] (.clo 40 [] [.lelem [.seq .str m] 0]):=by
 skip
 (conv=>whnf)
 (repeat'(first|exact trivial|rfl|refine And.intro ?_ ?_|fail))
def aKj:Con:=aL 39 false fun args K=>match args with | [.seq .str m]=>K (.clo 40 [] [.lelem [.seq .str m] 0]) | _=>False
theorem k2039:aH Tryz.prog aKj:=by
 refine aE rfl (enters_of Tryz.func39 (by kernel_rfl) rfl) ?_
 intro args K h
 simp only[aKj] at h
 split at h
 ·rename_i m;exact ⟨_,h,aC (Γ:=[]) (by simp) Tryz.func39 (by simp[Tryz.ntmps39]) rfl (b2039 m)⟩
 ·exact h.elim
theorem aKk {A B:List Rat} (hA:∀q∈A,Sz 20 q) (hB:∀q∈B,Sz 20 q) (cA:ckS (A.map numS)=0) (cB:ckS (B.map numS)=0) (lA:A.length≤16) (lB:B.length≤16):mgS (A.map numS) (B.map numS)=((mrR A B).map numS,0):=by
 have h:=aC9 (A.map numS) (B.map numS)
 rw[List.length_map,List.length_map] at h
 unfold mgS
 rw[if_neg (by rintro (h | h);exact h cA;exact h cB),if_neg (by omega),aP4 (k:=20) ⟨by decide,by decide⟩ A B hA hB]
set_option maxHeartbeats 1000000 in
theorem b2007 (a b:List (List UInt8)):body Tryz.prog [uY,qD,aKp,aBm,qC,c34,aKj,aDs] {} true Tryz.f7 [.seq .str a,.seq .str b] (.val (.bool true)):=by
 by_cases h1:rT a
 ·by_cases h2:rT b
  ·obtain ⟨A,ea,hA,aA,lA⟩:=oZ h1
   obtain ⟨B,eb,hB,aB,lB⟩:=oZ h2
   have cA:=h1.2
   have cB:=h2.2
   have pr1:Lm a∧Lm b:=⟨aDc h1.1.2,aDc h2.1.2⟩
   have pr2:Lm b∧Lm a:=⟨pr1.2,pr1.1⟩
   have e1:mgS a b=((mrR A B).map numS,0):=by rw[ea,eb];exact aKk hA hB (ea ▸ cA) (eb ▸ cB) lA lB
   have e2:mgS b a=((mrR A B).map numS,0):=by rw[ea,eb,aKk hB hA (eb ▸ cB) (ea ▸ cA) lB lA,aNw]
   have f1:=congrArg Prod.snd e1
   have f2:=congrArg Prod.snd e2
   dsimp only at f1 f2
   have q1:(mgS a b).1=(mgS b a).1:=by rw[e1,e2]
   have hmem:∀z,z∈mrR A B→Sz 20 z:=fun z hz=>by
    rcases (rU A B z).1 hz with h | h
    ·exact hA z h
    ·exact hB z h
   have ll:(mgS a b).1.length≤a.length+b.length:=by
    have:=aC9 a b
    unfold mgS
    split
    ·simp
    ·split
     ·simp
     ·exact this
   have la:a.length≤16:=h1.1.1
   have lb:b.length≤16:=h2.1.1
   have ck:ckS (mgS a b).1=0:=by
    have l2:=ll
    rw[e1] at l2 ⊢
    refine aSj (k:=20) ⟨by decide,by decide⟩ hmem (aP9 A B aA aB) ?_
    dsimp only at l2
    rw[List.length_map] at l2
    omega
   have hin:∀z,z∈(mgS a b).1↔z∈a∨z∈b:=fun z=>by
    rw[e1,ea,eb]
    simp only[List.mem_map,rU]
    constructor
    ·rintro ⟨q,h | h,rfl⟩
     ·exact .inl ⟨q,h,rfl⟩
     ·exact .inr ⟨q,h,rfl⟩
    ·rintro (⟨q,h,rfl⟩ | ⟨q,h,rfl⟩)
     ·exact ⟨q,.inl h,rfl⟩
     ·exact ⟨q,.inr h,rfl⟩
   have hfl:∀z,z∈ [a,b].flatten↔z∈a∨z∈b:=fun z=>by simp
   have p1:¬0≤ixD (niP (mgS a b).1) [a,b].flatten:=by
    rw[sB]
    rintro ⟨z,hz,hn⟩
    exact hn ((hin z).2 ((hfl z).1 hz))
   have p2:¬0≤ixD (niP [a,b].flatten) (mgS a b).1:=by
    rw[sB]
    rintro ⟨z,hz,hn⟩
    exact hn ((hfl z).2 ((hin z).1 hz))
   have pc: [a,b].flatten.length≤1000000∧ [a,b].length≤1000:=⟨by simp;omega,by simp⟩
   (repeat'((conv=>whnf);first|refine Zg fun _=>?_|refine Zn ?_|refine Zl ?_|refine Zy ?_|refine Zm ?_|fail))
   (conv=>whnf)
   skip
  ·(repeat'((conv=>whnf);first|refine Zy ?_|refine Zm ?_|fail))
   (conv=>whnf)
   skip
 ·(repeat'((conv=>whnf);first|refine Zy ?_|fail))
  (conv=>whnf)
  skip
theorem t2007 (a b:List (List UInt8)) (_:Okd (.slice .str) a) (_:Okd (.slice .str) b):Tri Tryz.prog true 7 [.seq .str a,.seq .str b] (.val (.bool true)):=
 aC (Γ:=[uY,qD,aKp,aBm,qC,c34,aKj,aDs]) (by simp[aO1,aKv,k2038,aSe,aKd,k34,k2039,aTb]) Tryz.func7 (by simp[Tryz.ntmps7]) rfl (b2007 a b)
end RB
end

/-
  Part 7: a symbolic executor over the model, contracts of functions and plain laws.
-/
import Derived.Test.YtdfefbfaoffcbaaGreatDoorP6
section
open Go Go.Proofs Go.Eng Go.Shelf IB Go.Lib Go.RowKit
namespace RB
set_option maxRecDepth 10000
set_option linter.unusedVariables false
set_option linter.unusedSimpArgs false
theorem resI_no {n:Int} (h:lim n=true):resI n=([],4):=by unfold resI;rw[if_pos h]
theorem resI_ok {n:Int} (h:lim n=false):resI n=(itoa n,0):=by unfold resI;rw[if_neg (by rw[h];decide)]
theorem b80 (n d m c:List UInt8) (h:ok4 n m d c) (h0:valI d*valI c≠0):(∀hl:lim (valI n*valI m)=true∨lim (valI d*valI c)=true,body Tryz.prog [c81,c63] {} true Tryz.f80 [S n,S d,S m,S c] (.tup [S [],I 4]))∧(∀hl:¬(lim (valI n*valI m)=true∨lim (valI d*valI c)=true),body Tryz.prog [c81,c63] {} true Tryz.f80 [S n,S d,S m,S c] (.tup [S (numS (Rat.divInt (valI n*valI m) (valI d*valI c))),I 0])):=by
 refine ⟨fun hl=>?_,fun hl=>?_⟩
 ·by_cases h1:lim (valI n*valI m)=true
  ·(repeat'((conv=>whnf);first|refine Zn ?_|fail))
   refine Br.mkY h1 ?_
   (repeat'((conv=>whnf);first|refine Zy ?_|fail))
   (conv=>whnf)
   (repeat'(first|exact trivial|rfl|refine And.intro ?_ ?_|fail))
  ·have h2:lim (valI d*valI c)=true:=hl.elim (fun h=>absurd h h1) id
   (repeat'((conv=>whnf);first|refine Zn ?_|fail))
   refine Br.mkN h1 ?_
   skip
   refine Br.mkY (show ¬(resI (valI d*valI c)).2=0 by rw[resI_no h2];decide) ?_
   skip
   (conv=>whnf)
   (repeat'(first|exact trivial|rfl|refine And.intro ?_ ?_|fail))
   (conv=>whnf)
   rw[resI_no h2]
 ·have h1:lim (valI n*valI m)=false:=by
   cases h:lim (valI n*valI m) with
   | true=>exact absurd (.inl h) hl
   | false=>rfl
  have h2:lim (valI d*valI c)=false:=by
   cases h:lim (valI d*valI c) with
   | true=>exact absurd (.inr h) hl
   | false=>rfl
  have e2:=resI_ok h2
  have n1:(chkI (itoa (valI n*valI m))=0∧chkI (resI (valI d*valI c)).1=0)∧valI (resI (valI d*valI c)).1≠0:=by
   rw[e2]
   exact ⟨⟨chk_itoa h1,chk_itoa h2⟩,by rw[valI_itoa];exact h0⟩
  (repeat'((conv=>whnf);first|refine Zn ?_|fail))
  refine Br.mkN (by rw[h1];decide) ?_
  skip
  refine Br.mkN (show ¬ ¬(resI (valI d*valI c)).2=0 by rw[e2];simp) ?_
  (repeat'((conv=>whnf);first|refine Zn ?_|fail))
  (conv=>whnf)
  (repeat'(first|exact trivial|rfl|refine And.intro ?_ ?_|fail))
  (conv=>whnf)
  rw[e2,valI_itoa,valI_itoa]
def c80:Con:=mkCon 80 true fun args K=>match args with
 | [.str n,.str d,.str m,.str c]=>Need (ok4 n m d c∧valI d*valI c≠0) (Br (lim (valI n*valI m)=true∨lim (valI d*valI c)=true) (K (.tup [S [],I 4])) (K (.tup [S (numS (Rat.divInt (valI n*valI m) (valI d*valI c))),I 0])))
 | _=>False
theorem k80:ConOK Tryz.prog c80:=by
 refine conOK_of rfl (enters_of Tryz.func80 (by kernel_rfl) rfl) ?_
 intro args K h
 simp only[c80] at h
 split at h
 ·rename_i n d m c
  have hb:=b80 n d m c h.ok.1 h.ok.2
  by_cases hl:lim (valI n*valI m)=true∨lim (valI d*valI c)=true
  ·exact ⟨_,h.go.yes hl,tri_of_body (Γ:=[c81,c63]) (by simp[k81,k63]) Tryz.func80 (by simp[Tryz.ntmps80]) rfl (hb.1 hl)⟩
  ·exact ⟨_,h.go.no hl,tri_of_body (Γ:=[c81,c63]) (by simp[k81,k63]) Tryz.func80 (by simp[Tryz.ntmps80]) rfl (hb.2 hl)⟩
 ·exact h.elim
theorem mul9 {x y:Int} (hx:x.natAbs<1000000000) (hy:y.natAbs<1000000000): -1000000000000000000<x*y∧x*y<1000000000000000000:=by
 have h:=Int.natAbs_mul x y
 have h1:x.natAbs*y.natAbs<1000000000*1000000000:=Nat.mul_lt_mul'' hx hy
 omega
theorem chk_pn {q:Rat} (h:Sz 300 q):chkI (pn q)=0∧valI (pn q)=q.num∧lim q.num=false:=by
 have h1:lim q.num=false:=by
  unfold lim
  have:=h.digs.1
  simp;omega
 exact ⟨chk_itoa h1,val_pn q,h1⟩
theorem chk_pd {q:Rat} (h:Sz 300 q):chkI (pd q)=0∧valI (pd q)=q.den:=by
 have:=chk_dec h.digs.2
 exact ⟨this.2.1,this.2.2⟩
theorem one49:chkI [49]=0∧valI [49]=1:=by
 have e:([49]:List UInt8)=itoa 1:=(itoa1 (n:=1) (by decide)).symm
 rw[e,valI_itoa]
 exact ⟨chk_itoa (lim_small (by decide)),rfl⟩
theorem add_div (p q:Rat):Rat.divInt (p.num*q.den+q.num*p.den) (p.den*q.den)=p+q:=by
 rw[add_parts,← Int.natCast_mul,Rat.divInt_ofNat]
theorem addf_ok {p q:Rat} (l1:lim (p.num*q.den)=false) (l2:lim (q.num*p.den)=false) (l3:lim (p.num*q.den+q.num*p.den)=false) (l4:lim (p.den*q.den)=false):addf p q=(numS (p+q),0):=by
 unfold addf
 rw[if_neg (by simp[l1,l2,l3,l4])]
theorem lim_cases (n:Int):lim n=true∨lim n=false:=by cases lim n<;>simp
set_option maxHeartbeats 8000000 in
theorem b67 (a b:List UInt8) (h:chkQ a=0∧chkQ b=0):body Tryz.prog [c70,c62,c65,c81,c103,c63] {} true Tryz.f67 [S a,S b] (.tup [S (addf (valQ a) (valQ b)).1,I (addf (valQ a) (valQ b)).2]):=by
 obtain ⟨ha,hb⟩:=h
 have hp:=(chk_num ha).2
 have hq:=(chk_num hb).2
 obtain ⟨cn1,vn1,ln1⟩:=chk_pn hp
 obtain ⟨cn2,vn2,ln2⟩:=chk_pn hq
 obtain ⟨cd1,vd1⟩:=chk_pd hp
 obtain ⟨cd2,vd2⟩:=chk_pd hq
 have d1:=(valQ a).den_pos
 have d2:=(valQ b).den_pos
 by_cases hs:smR (valQ a)∧smR (valQ b)
 ·have s1:=smR_lt hs.1
  have s2:=smR_lt hs.2
  have m1:=mul9 (x:=(valQ a).num) (y:=((valQ b).den:Int)) s1.1 (by omega)
  have m2:=mul9 (x:=(valQ b).num) (y:=((valQ a).den:Int)) s2.1 (by omega)
  have m3:=mul9 (x:=((valQ a).den:Int)) (y:=((valQ b).den:Int)) (by omega) (by omega)
  have m4:0<((valQ a).den:Int)*((valQ b).den:Int):=Int.mul_pos (by omega) (by omega)
  have ea:=addf_ok (p:=valQ a) (q:=valQ b) (lim_small (by omega)) (lim_small (by omega)) (lim_small (by omega)) (lim_small (by omega))
  (repeat'((conv=>whnf);first|refine Zn ?_|fail))
  refine Br.mkY hs.1 ?_
  (repeat'((conv=>whnf);first|refine Zn ?_|fail))
  refine Br.mkY hs.2 ?_
  (repeat'((conv=>whnf);first|refine Zn ?_|fail))
  (conv=>whnf)
  (repeat'(first|exact trivial|rfl|refine And.intro ?_ ?_|fail))
  ·(conv=>whnf)
   rw[ea,← add_div]
  ·(conv=>whnf)
   rw[ea]
 ·have n4:ok4 (pn (valQ a)) (pd (valQ b)) (pn (valQ b)) (pd (valQ a)):=⟨⟨cn1,cd2⟩,cn2,cd1⟩
  have n5:ok4 (pd (valQ a)) (pd (valQ b)) [49] [49]:=⟨⟨cd1,cd2⟩,one49.1,one49.1⟩
  have hcase:(¬smR (valQ a)∧smR (valQ b))∨(¬smR (valQ a)∧¬smR (valQ b))∨(smR (valQ a)∧¬smR (valQ b)):=by
   by_cases h1:smR (valQ a)
   ·exact .inr (.inr ⟨h1,fun h2=>hs ⟨h1,h2⟩⟩)
   ·by_cases h2:smR (valQ b)
    ·exact .inl ⟨h1,h2⟩
    ·exact .inr (.inl ⟨h1,h2⟩)
  rcases hcase with ⟨h1,h2⟩ | ⟨h1,h2⟩ | ⟨h1,h2⟩
  all_goals (repeat'((conv=>whnf);first|refine Zn ?_|fail))
  all_goals first | refine Br.mkN h1 ?_ | refine Br.mkY h1 ?_
  all_goals (repeat'((conv=>whnf);first|refine Zn ?_|fail))
  all_goals first | refine Br.mkN h2 ?_ | refine Br.mkY h2 ?_
  all_goals (repeat'((conv=>whnf);first|refine Zn ?_|fail))
  all_goals
   rcases lim_cases ((valQ a).num*((valQ b).den:Int)) with l1 | l1
   ·have ea:addf (valQ a) (valQ b)=([],4):=by unfold addf;rw[if_pos (by simp[l1])]
    rw[ea]
    refine Br.mkY (show lim (valI (pn (valQ a))*valI (pd (valQ b)))=true by rw[vn1,vd2];exact l1) ?_
    (repeat'((conv=>whnf);first|refine Zy ?_|fail))
    (conv=>whnf)
    (repeat'(first|exact trivial|rfl|refine And.intro ?_ ?_|fail))
   ·refine Br.mkN (show ¬lim (valI (pn (valQ a))*valI (pd (valQ b)))=true by rw[vn1,vd2,l1];decide) ?_
    skip
    rcases lim_cases ((valQ b).num*((valQ a).den:Int)) with l2 | l2
    ·have ea:addf (valQ a) (valQ b)=([],4):=by unfold addf;rw[if_pos (by simp[l2])]
     have e4:resI (valI (pn (valQ b))*valI (pd (valQ a)))=([],4):=by rw[vn2,vd1];exact resI_no l2
     refine Br.mkY (show ¬(resI (valI (pn (valQ b))*valI (pd (valQ a)))).2=0 by rw[e4];decide) ?_
     skip
     (conv=>whnf)
     (repeat'(first|exact trivial|rfl|refine And.intro ?_ ?_|fail))
     ·(conv=>whnf)
      rw[ea]
     ·(conv=>whnf)
      rw[ea,e4]
    ·have e4:resI (valI (pn (valQ b))*valI (pd (valQ a)))=(itoa ((valQ b).num*((valQ a).den:Int)),0):=by rw[vn2,vd1];exact resI_ok l2
     refine Br.mkN (show ¬ ¬(resI (valI (pn (valQ b))*valI (pd (valQ a)))).2=0 by rw[e4];simp) ?_
     (repeat'((conv=>whnf);first|refine Zn ?_|fail))
     rcases lim_cases (((valQ a).den:Int)*((valQ b).den:Int)) with l4 | l4
     ·have ea:addf (valQ a) (valQ b)=([],4):=by unfold addf;rw[if_pos (by simp[l4])]
      refine Br.mkY (show lim (valI (pd (valQ a))*valI (pd (valQ b)))=true by rw[vd1,vd2];exact l4) ?_
      (repeat'((conv=>whnf);first|refine Zy ?_|fail))
      (conv=>whnf)
      (repeat'(first|exact trivial|rfl|refine And.intro ?_ ?_|fail))
      ·(conv=>whnf)
       rw[ea]
      ·(conv=>whnf)
       rw[ea]
     ·refine Br.mkN (show ¬lim (valI (pd (valQ a))*valI (pd (valQ b)))=true by rw[vd1,vd2,l4];decide) ?_
      have e49:resI (valI [49]*valI [49])=([49],0):=by
       rw[one49.2,resI_ok (lim_small (by decide))]
       exact congrArg (fun z=>(z,(0:Int))) (itoa1 (n:=1) (by decide))
      skip
      refine Br.mkN (show ¬ ¬(resI (valI [49]*valI [49])).2=0 by rw[e49];simp) ?_
      skip
      refine Br.mkN (show ¬ ¬(resI (valI [49]*valI [49])).1= [49] by rw[e49];simp) ?_
      skip
      have e6:bothI (itoa (valI (pn (valQ a))*valI (pd (valQ b)))) (resI (valI (pn (valQ b))*valI (pd (valQ a)))).1 (resI (valI (itoa (valI (pn (valQ a))*valI (pd (valQ b))))+valI (resI (valI (pn (valQ b))*valI (pd (valQ a)))).1))=resI ((valQ a).num*((valQ b).den:Int)+(valQ b).num*((valQ a).den:Int)):=by
       rw[e4,vn1,vd2,valI_itoa,valI_itoa]
       exact both_ok (chk_itoa l1) (chk_itoa l2) _
      rcases lim_cases ((valQ a).num*((valQ b).den:Int)+(valQ b).num*((valQ a).den:Int)) with l3 | l3
      ·have ea:addf (valQ a) (valQ b)=([],4):=by unfold addf;rw[if_pos (by simp[l3])]
       rw[resI_no l3] at e6
       refine Br.mkY (show ¬(bothI (itoa (valI (pn (valQ a))*valI (pd (valQ b)))) (resI (valI (pn (valQ b))*valI (pd (valQ a)))).1 (resI (valI (itoa (valI (pn (valQ a))*valI (pd (valQ b))))+valI (resI (valI (pn (valQ b))*valI (pd (valQ a)))).1))).2=0 by rw[e6];decide) ?_
       skip
       (conv=>whnf)
       (repeat'(first|exact trivial|rfl|refine And.intro ?_ ?_|fail))
       ·(conv=>whnf)
        rw[ea]
       ·(conv=>whnf)
        rw[ea,e6]
      ·have ea:=addf_ok l1 l2 l3 l4
       rw[resI_ok l3] at e6
       have m1:(chkI (bothI (itoa (valI (pn (valQ a))*valI (pd (valQ b)))) (resI (valI (pn (valQ b))*valI (pd (valQ a)))).1 (resI (valI (itoa (valI (pn (valQ a))*valI (pd (valQ b))))+valI (resI (valI (pn (valQ b))*valI (pd (valQ a)))).1))).1=0∧chkI (itoa (valI (pd (valQ a))*valI (pd (valQ b))))=0)∧valI (itoa (valI (pd (valQ a))*valI (pd (valQ b))))≠0:=by
        rw[e6,vd1,vd2,valI_itoa]
        exact ⟨⟨chk_itoa l3,chk_itoa l4⟩,Int.mul_ne_zero (by omega) (by omega)⟩
       refine Br.mkN (show ¬ ¬(bothI (itoa (valI (pn (valQ a))*valI (pd (valQ b)))) (resI (valI (pn (valQ b))*valI (pd (valQ a)))).1 (resI (valI (itoa (valI (pn (valQ a))*valI (pd (valQ b))))+valI (resI (valI (pn (valQ b))*valI (pd (valQ a)))).1))).2=0 by rw[e6];simp) ?_
       (repeat'((conv=>whnf);first|refine Zn ?_|fail))
       (conv=>whnf)
       (repeat'(first|exact trivial|rfl|refine And.intro ?_ ?_|fail))
       ·(conv=>whnf)
        rw[ea,e6,vd1,vd2,valI_itoa,valI_itoa,add_div]
       ·(conv=>whnf)
        rw[ea]
def c67:Con:=mkCon 67 true fun args K=>match args with
 | [.str a,.str b]=>Need (chkQ a=0∧chkQ b=0) (K (.tup [S (addf (valQ a) (valQ b)).1,I (addf (valQ a) (valQ b)).2]))
 | _=>False
theorem k67:ConOK Tryz.prog c67:=by
 refine conOK_of rfl (enters_of Tryz.func67 (by kernel_rfl) rfl) ?_
 intro args K h
 simp only[c67] at h
 split at h
 ·rename_i a b
  exact ⟨_,h.go,tri_of_body (Γ:=[c70,c62,c65,c81,c103,c63]) (by simp[k70,k62,k65,k81,k103,k63]) Tryz.func67 (by simp[Tryz.ntmps67]) rfl (b67 a b h.ok)⟩
 ·exact h.elim
theorem bad2 {a b:List UInt8} (h:chkB a b≠0) (f:Rat→Rat→List UInt8 × Int):bothQ a b f=([],chkB a b):=by
 unfold bothQ chkB at*
 by_cases h1:chkQ a≠0
 ·rw[if_pos h1,if_pos h1]
 ·rw[if_neg h1] at h ⊢
  rw[if_pos h,if_neg h1]
theorem good2 {a b:List UInt8} (h:¬chkB a b≠0):chkQ a=0∧chkQ b=0:=by
 unfold chkB at h
 by_cases h1:chkQ a≠0
 ·rw[if_pos h1] at h;exact absurd h1 h
 ·rw[if_neg h1] at h
  exact ⟨Classical.not_not.1 h1,Classical.not_not.1 h⟩
theorem good_both {a b:List UInt8} (h:chkQ a=0∧chkQ b=0) (f:Rat→Rat→List UInt8 × Int):bothQ a b f=f (valQ a) (valQ b):=by
 unfold bothQ
 rw[if_neg (by rw[h.1];simp),if_neg (by rw[h.2];simp)]
theorem b39 (a b:List UInt8):body Tryz.prog [c78,c67] {} true Tryz.f39 [S a,S b] (.tup [S (addQ a b).1,I (addQ a b).2]):=by
 skip
 (refine Br.mk (fun _=>?_) (fun _=>?_))
 ·rename_i h
  have e:addQ a b=([],chkB a b):=bad2 h _
  rw[e]
  skip
  (conv=>whnf)
  (repeat'(first|exact trivial|rfl|refine And.intro ?_ ?_|fail))
 ·rename_i h
  have e:addQ a b=addf (valQ a) (valQ b):=good_both (good2 h) _
  rw[e]
  skip
  refine Need.mk (good2 h) ?_
  skip
  (conv=>whnf)
  (repeat'(first|exact trivial|rfl|refine And.intro ?_ ?_|fail))
def c39:Con:=mkCon 39 true fun args K=>match args with | [.str a,.str b]=>K (.tup [S (addQ a b).1,I (addQ a b).2]) | _=>False
theorem k39:ConOK Tryz.prog c39:=by
 refine conOK_of rfl (enters_of Tryz.func39 (by kernel_rfl) rfl) ?_
 intro args K h
 simp only[c39] at h
 split at h
 ·rename_i a b;exact ⟨_,h,tri_of_body (Γ:=[c78,c67]) (by simp[k78,k67]) Tryz.func39 (by simp[Tryz.ntmps39]) rfl (b39 a b)⟩
 ·exact h.elim
theorem num_neg (q:Rat):(-q).num= -q.num∧(-q).den=q.den:=⟨rfl,rfl⟩
theorem numS_neg (q:Rat):numS (-q)=if q.num<0 then (numS q).drop 1 else if q=0 then numS q else 45::numS q:=by
 unfold numS
 rw[(num_neg q).1,(num_neg q).2]
 by_cases h1:q.num<0
 ·rw[if_pos h1,← drop_itoa h1]
  split
  ·rfl
  ·rw[List.drop_append_of_le_length itoa_pos]
 ·rw[if_neg h1]
  by_cases h0:q=0
  ·rw[if_pos h0,h0];rfl
  ·rw[if_neg h0]
   have h2:0<q.num:=by
    have:q.num≠0:=fun e=>h0 (Rat.num_eq_zero.1 e)
    omega
   rw[← neg_itoa h2]
   split<;>rfl
theorem numS_48 (q:Rat):numS q= [48]↔q=0:=⟨fun h=>numS_inj (h.trans numS0.symm),fun h=>by rw[h];exact numS0⟩
theorem numS_len {q:Rat} (h:Sz 300 q):(numS q).length≤602:=by
 have h1:=h.digs
 have h2:(itoa q.num).length≤301:=by
  rw[itoa_cases];split
  ·rw[List.length_cons];omega
  ·omega
 unfold numS
 split
 ·omega
 ·rw[List.length_append,List.length_cons];omega
theorem b79 (q:Rat) (hq:Sz 300 q):body Tryz.prog [] {} true Tryz.f79 [S (numS q)] (S (numS (-q))):=by
 have hl:=numS_len hq
 have h0:=List.length_pos_iff.2 (numS_ne q)
 rw[numS_neg]
 skip
 by_cases hz:q=0
 ·refine Br.mkY ((numS_48 q).2 hz) ?_
  skip
  (conv=>whnf)
  skip
  (conv=>whnf)
  rw[if_neg (by rw[hz];decide),if_pos hz]
 ·refine Br.mkN (fun h=>hz ((numS_48 q).1 h)) ?_
  (repeat'((conv=>whnf);first|refine Zg fun _=>?_|refine Zn ?_|refine Z0 ?_|fail))
  by_cases hn:q.num<0
  ·refine Br.mkY ((numS_head q).2 ((lt0 q).2 hn)) ?_
   (repeat'((conv=>whnf);first|refine Zn ?_|refine Z1 ?_|fail))
   (conv=>whnf)
   skip
   (conv=>whnf)
   rw[if_pos hn]
  ·refine Br.mkN (fun h=>hn ((lt0 q).1 ((numS_head q).1 h))) ?_
   (repeat'((conv=>whnf);first|refine Zn ?_|fail))
   (conv=>whnf)
   skip
   (conv=>whnf)
   rw[if_neg hn,if_neg hz];rfl
def c79:Con:=mkCon 79 true fun args K=>match args with | [.str s]=>Need (chkQ s=0) (K (S (numS (-valQ s)))) | _=>False
theorem k79:ConOK Tryz.prog c79:=by
 refine conOK_of rfl (enters_of Tryz.func79 (by kernel_rfl) rfl) ?_
 intro args K h
 simp only[c79] at h
 split at h
 ·rename_i s
  obtain ⟨e,hq⟩:=chk_num h.ok
  refine ⟨_,h.go,?_⟩
  have ht:=tri_of_body (Γ:=[]) (by simp) Tryz.func79 (by simp[Tryz.ntmps79]) rfl (b79 (valQ s) hq)
  rw[← e] at ht
  exact ht
 ·exact h.elim
theorem sub_add (p q:Rat):addf p (-q)=subf p q:=by
 unfold addf subf
 rw[(num_neg q).1,(num_neg q).2,Int.neg_mul,lim_neg,← Int.sub_eq_add_neg,Rat.sub_eq_add_neg]
theorem b40 (a b:List UInt8):body Tryz.prog [c78,c79,c67] {} true Tryz.f40 [S a,S b] (.tup [S (subQ a b).1,I (subQ a b).2]):=by
 skip
 (refine Br.mk (fun _=>?_) (fun _=>?_))
 ·rename_i h
  have e:subQ a b=([],chkB a b):=bad2 h _
  rw[e]
  skip
  (conv=>whnf)
  (repeat'(first|exact trivial|rfl|refine And.intro ?_ ?_|fail))
 ·rename_i h
  obtain ⟨ha,hb⟩:=good2 h
  have e:subQ a b=addf (valQ a) (valQ (numS (-valQ b))):=by
   rw[valQ_numS,sub_add]
   exact good_both (good2 h) _
  have hs:Sz 300 (-valQ b):=by
   have:=(chk_num hb).2
   exact ⟨by rw[(num_neg _).1,Int.natAbs_neg];exact this.1,this.2⟩
  have hc:chkQ a=0∧chkQ (numS (-valQ b))=0:=⟨ha,chk_sz hs ⟨by decide,by decide⟩⟩
  rw[e]
  (repeat'((conv=>whnf);first|refine Zn ?_|fail))
  (conv=>whnf)
  (repeat'(first|exact trivial|rfl|refine And.intro ?_ ?_|fail))
def c40:Con:=mkCon 40 true fun args K=>match args with | [.str a,.str b]=>K (.tup [S (subQ a b).1,I (subQ a b).2]) | _=>False
theorem k40:ConOK Tryz.prog c40:=by
 refine conOK_of rfl (enters_of Tryz.func40 (by kernel_rfl) rfl) ?_
 intro args K h
 simp only[c40] at h
 split at h
 ·rename_i a b;exact ⟨_,h,tri_of_body (Γ:=[c78,c79,c67]) (by simp[k78,k79,k67]) Tryz.func40 (by simp[Tryz.ntmps40]) rfl (b40 a b)⟩
 ·exact h.elim
theorem three_cases {p q:Prop} (hs:¬(p∧q)):(¬p∧q)∨(¬p∧¬q)∨(p∧¬q):=by
 by_cases h1:p
 ·exact .inr (.inr ⟨h1,fun h2=>hs ⟨h1,h2⟩⟩)
 ·by_cases h2:q
  ·exact .inl ⟨h1,h2⟩
  ·exact .inr (.inl ⟨h1,h2⟩)
theorem mulf_ok {p q:Rat} (l1:lim (p.num*q.num)=false) (l2:lim (p.den*q.den)=false):mulf p q=(numS (p*q),0):=by
 unfold mulf
 rw[if_neg (by simp[l1,l2])]
theorem mul_div (p q:Rat):Rat.divInt (p.num*q.num) (p.den*q.den)=p*q:=by
 rw[mul_parts,← Int.natCast_mul,Rat.divInt_ofNat]
set_option maxHeartbeats 8000000 in
theorem b41g (a b:List UInt8) (ha:chkQ a=0) (hb:chkQ b=0):body Tryz.prog [c78,c70,c62,c65,c80] {} true Tryz.f41 [S a,S b] (.tup [S (mulf (valQ a) (valQ b)).1,I (mulf (valQ a) (valQ b)).2]):=by
 have hp:=(chk_num ha).2
 have hq:=(chk_num hb).2
 obtain ⟨cn1,vn1,ln1⟩:=chk_pn hp
 obtain ⟨cn2,vn2,ln2⟩:=chk_pn hq
 obtain ⟨cd1,vd1⟩:=chk_pd hp
 obtain ⟨cd2,vd2⟩:=chk_pd hq
 have d1:=(valQ a).den_pos
 have d2:=(valQ b).den_pos
 have hc:¬chkB a b≠0:=by unfold chkB;rw[if_neg (by rw[ha];simp),hb];simp
 by_cases hs:smR (valQ a)∧smR (valQ b)
 ·have s1:=smR_lt hs.1
  have s2:=smR_lt hs.2
  have m1:=mul9 (x:=(valQ a).num) (y:=(valQ b).num) s1.1 s2.1
  have m3:=mul9 (x:=((valQ a).den:Int)) (y:=((valQ b).den:Int)) (by omega) (by omega)
  have m4:0<((valQ a).den:Int)*((valQ b).den:Int):=Int.mul_pos (by omega) (by omega)
  have ea:=mulf_ok (p:=valQ a) (q:=valQ b) (lim_small (by omega)) (lim_small (by omega))
  skip
  refine Br.mkN (show ¬ ¬chkB a b=0 from hc) ?_
  (repeat'((conv=>whnf);first|refine Zn ?_|fail))
  refine Br.mkY hs.1 ?_
  (repeat'((conv=>whnf);first|refine Zn ?_|fail))
  refine Br.mkY hs.2 ?_
  (repeat'((conv=>whnf);first|refine Zn ?_|fail))
  (conv=>whnf)
  (repeat'(first|exact trivial|rfl|refine And.intro ?_ ?_|fail))
  ·(conv=>whnf)
   rw[ea,← mul_div]
  ·(conv=>whnf)
   rw[ea]
 ·have n4:ok4 (pn (valQ a)) (pd (valQ a)) (pn (valQ b)) (pd (valQ b))∧valI (pd (valQ a))*valI (pd (valQ b))≠0:=⟨⟨⟨cn1,cd1⟩,cn2,cd2⟩,by rw[vd1,vd2];exact Int.mul_ne_zero (by omega) (by omega)⟩
  rcases three_cases hs with ⟨h1,h2⟩ | ⟨h1,h2⟩ | ⟨h1,h2⟩
  all_goals skip
  all_goals refine Br.mkN (show ¬ ¬chkB a b=0 from hc) ?_
  all_goals (repeat'((conv=>whnf);first|refine Zn ?_|fail))
  all_goals first | refine Br.mkN h1 ?_ | refine Br.mkY h1 ?_
  all_goals (repeat'((conv=>whnf);first|refine Zn ?_|fail))
  all_goals first | refine Br.mkN h2 ?_ | refine Br.mkY h2 ?_
  all_goals (repeat'((conv=>whnf);first|refine Zn ?_|fail))
  all_goals
   by_cases hl:lim (valI (pn (valQ a))*valI (pn (valQ b)))=true∨lim (valI (pd (valQ a))*valI (pd (valQ b)))=true
   ·have ea:mulf (valQ a) (valQ b)=([],4):=by
     rw[vn1,vn2,vd1,vd2] at hl
     unfold mulf
     rw[if_pos (by simpa using hl)]
    refine Br.mkY hl ?_
    skip
    (conv=>whnf)
    (repeat'(first|exact trivial|rfl|refine And.intro ?_ ?_|fail))
    ·(conv=>whnf)
     rw[ea]
    ·(conv=>whnf)
     rw[ea]
   ·refine Br.mkN hl ?_
    rw[vn1,vn2,vd1,vd2] at hl
    have ea:=mulf_ok (p:=valQ a) (q:=valQ b) (by simpa using fun h=>hl (.inl h)) (by simpa using fun h=>hl (.inr h))
    skip
    (conv=>whnf)
    (repeat'(first|exact trivial|rfl|refine And.intro ?_ ?_|fail))
    ·(conv=>whnf)
     rw[ea,vn1,vn2,vd1,vd2,mul_div]
    ·(conv=>whnf)
     rw[ea]
theorem b41 (a b:List UInt8):body Tryz.prog [c78,c70,c62,c65,c80] {} true Tryz.f41 [S a,S b] (.tup [S (mulQ a b).1,I (mulQ a b).2]):=by
 by_cases h:chkB a b≠0
 ·have e:mulQ a b=([],chkB a b):=bad2 h _
  rw[e]
  skip
  refine Br.mkY h ?_
  skip
  (conv=>whnf)
  (repeat'(first|exact trivial|rfl|refine And.intro ?_ ?_|fail))
 ·have e:mulQ a b=mulf (valQ a) (valQ b):=good_both (good2 h) _
  rw[e]
  exact b41g a b (good2 h).1 (good2 h).2
def c41:Con:=mkCon 41 true fun args K=>match args with | [.str a,.str b]=>K (.tup [S (mulQ a b).1,I (mulQ a b).2]) | _=>False
theorem k41:ConOK Tryz.prog c41:=by
 refine conOK_of rfl (enters_of Tryz.func41 (by kernel_rfl) rfl) ?_
 intro args K h
 simp only[c41] at h
 split at h
 ·rename_i a b;exact ⟨_,h,tri_of_body (Γ:=[c78,c70,c62,c65,c80]) (by simp[k78,k70,k62,k65,k80]) Tryz.func41 (by simp[Tryz.ntmps41]) rfl (b41 a b)⟩
 ·exact h.elim
theorem divf_ok {p q:Rat} (h0:q≠0) (l1:lim (p.num*q.den)=false) (l2:lim (q.num*p.den)=false):divf p q=(numS (p/q),0):=by
 unfold divf
 rw[if_neg h0,if_neg (by simp[l1,l2])]
set_option maxHeartbeats 8000000 in
theorem b42g (a b:List UInt8) (ha:chkQ a=0) (hb:chkQ b=0):body Tryz.prog [c78,c70,c62,c65,c80] {} true Tryz.f42 [S a,S b] (.tup [S (divf (valQ a) (valQ b)).1,I (divf (valQ a) (valQ b)).2]):=by
 have hp:=(chk_num ha).2
 have hq:=(chk_num hb).2
 obtain ⟨cn1,vn1,ln1⟩:=chk_pn hp
 obtain ⟨cn2,vn2,ln2⟩:=chk_pn hq
 obtain ⟨cd1,vd1⟩:=chk_pd hp
 obtain ⟨cd2,vd2⟩:=chk_pd hq
 have d1:=(valQ a).den_pos
 have d2:=(valQ b).den_pos
 have hc:¬chkB a b≠0:=by unfold chkB;rw[if_neg (by rw[ha];simp),hb];simp
 have eb:=(chk_num hb).1
 have hz:b= [48]↔valQ b=0:=by
  conv=>lhs;lhs;rw[eb]
  exact numS_48 _
 by_cases h0:valQ b=0
 ·have ea:divf (valQ a) (valQ b)=([],12):=by unfold divf;rw[if_pos h0]
  skip
  refine Br.mkN (show ¬ ¬chkB a b=0 from hc) ?_
  skip
  refine Br.mkY (hz.2 h0) ?_
  skip
  (conv=>whnf)
  (repeat'(first|exact trivial|rfl|refine And.intro ?_ ?_|fail))
  ·(conv=>whnf)
   rw[ea]
  ·(conv=>whnf)
   rw[ea]
 ·have hb48:¬b= [48]:=fun h=>h0 (hz.1 h)
  have hn0:(valQ b).num≠0:=fun h=>h0 (Rat.num_eq_zero.1 h)
  have ed:=div_parts (valQ a) (valQ b) h0
  by_cases hs:smR (valQ a)∧smR (valQ b)
  ·have s1:=smR_lt hs.1
   have s2:=smR_lt hs.2
   have m1:=mul9 (x:=(valQ a).num) (y:=((valQ b).den:Int)) s1.1 (by omega)
   have m2:=mul9 (x:=((valQ a).den:Int)) (y:=(valQ b).num) (by omega) s2.1
   have m3:(valQ b).num*((valQ a).den:Int)=((valQ a).den:Int)*(valQ b).num:=Int.mul_comm _ _
   have ea:=divf_ok (p:=valQ a) (q:=valQ b) h0 (lim_small (by omega)) (lim_small (by omega))
   skip
   refine Br.mkN (show ¬ ¬chkB a b=0 from hc) ?_
   skip
   refine Br.mkN hb48 ?_
   (repeat'((conv=>whnf);first|refine Zn ?_|fail))
   refine Br.mkY hs.1 ?_
   (repeat'((conv=>whnf);first|refine Zn ?_|fail))
   refine Br.mkY hs.2 ?_
   skip
   by_cases hneg:(valQ b).num<0
   ·refine Br.mkY hneg ?_
    have e1:(valQ a).num * -((valQ b).den:Int)= -((valQ a).num*((valQ b).den:Int)):=Int.mul_neg _ _
    have e2:((valQ a).den:Int) * -(valQ b).num= -(((valQ a).den:Int)*(valQ b).num):=Int.mul_neg _ _
    have m4:((valQ a).den:Int)*(valQ b).num<0:=Int.mul_neg_of_pos_of_neg (by omega) hneg
    (repeat'((conv=>whnf);first|refine Zn ?_|fail))
    (conv=>whnf)
    (repeat'(first|exact trivial|rfl|refine And.intro ?_ ?_|fail))
    ·(conv=>whnf)
     rw[ea,ed,e1,e2,Rat.neg_divInt_neg]
    ·(conv=>whnf)
     rw[ea]
   ·refine Br.mkN hneg ?_
    have m4:0<((valQ a).den:Int)*(valQ b).num:=Int.mul_pos (by omega) (by omega)
    (repeat'((conv=>whnf);first|refine Zn ?_|fail))
    (conv=>whnf)
    (repeat'(first|exact trivial|rfl|refine And.intro ?_ ?_|fail))
    ·(conv=>whnf)
     rw[ea,ed]
    ·(conv=>whnf)
     rw[ea]
  ·have n4:ok4 (pn (valQ a)) (pd (valQ a)) (pd (valQ b)) (pn (valQ b))∧valI (pd (valQ a))*valI (pn (valQ b))≠0:=⟨⟨⟨cn1,cd1⟩,cd2,cn2⟩,by rw[vd1,vn2];exact Int.mul_ne_zero (by omega) hn0⟩
   rcases three_cases hs with ⟨h1,h2⟩ | ⟨h1,h2⟩ | ⟨h1,h2⟩
   all_goals skip
   all_goals refine Br.mkN (show ¬ ¬chkB a b=0 from hc) ?_
   all_goals skip
   all_goals refine Br.mkN hb48 ?_
   all_goals (repeat'((conv=>whnf);first|refine Zn ?_|fail))
   all_goals first | refine Br.mkN h1 ?_ | refine Br.mkY h1 ?_
   all_goals (repeat'((conv=>whnf);first|refine Zn ?_|fail))
   all_goals first | refine Br.mkN h2 ?_ | refine Br.mkY h2 ?_
   all_goals (repeat'((conv=>whnf);first|refine Zn ?_|fail))
   all_goals
    by_cases hl:lim (valI (pn (valQ a))*valI (pd (valQ b)))=true∨lim (valI (pd (valQ a))*valI (pn (valQ b)))=true
    ·have ea:divf (valQ a) (valQ b)=([],4):=by
      rw[vn1,vn2,vd1,vd2,Int.mul_comm ((valQ a).den:Int)] at hl
      unfold divf
      rw[if_neg h0,if_pos (by simpa using hl)]
     refine Br.mkY hl ?_
     skip
     (conv=>whnf)
     (repeat'(first|exact trivial|rfl|refine And.intro ?_ ?_|fail))
     ·(conv=>whnf)
      rw[ea]
     ·(conv=>whnf)
      rw[ea]
    ·refine Br.mkN hl ?_
     rw[vn1,vn2,vd1,vd2,Int.mul_comm ((valQ a).den:Int)] at hl
     have ea:=divf_ok (p:=valQ a) (q:=valQ b) h0 (by simpa using fun h=>hl (.inl h)) (by simpa using fun h=>hl (.inr h))
     skip
     (conv=>whnf)
     (repeat'(first|exact trivial|rfl|refine And.intro ?_ ?_|fail))
     ·(conv=>whnf)
      rw[ea,ed,vn1,vn2,vd1,vd2]
     ·(conv=>whnf)
      rw[ea]
theorem b42 (a b:List UInt8):body Tryz.prog [c78,c70,c62,c65,c80] {} true Tryz.f42 [S a,S b] (.tup [S (divQ a b).1,I (divQ a b).2]):=by
 by_cases h:chkB a b≠0
 ·have e:divQ a b=([],chkB a b):=bad2 h _
  rw[e]
  skip
  refine Br.mkY h ?_
  skip
  (conv=>whnf)
  (repeat'(first|exact trivial|rfl|refine And.intro ?_ ?_|fail))
 ·have e:divQ a b=divf (valQ a) (valQ b):=good_both (good2 h) _
  rw[e]
  exact b42g a b (good2 h).1 (good2 h).2
def c42:Con:=mkCon 42 true fun args K=>match args with | [.str a,.str b]=>K (.tup [S (divQ a b).1,I (divQ a b).2]) | _=>False
theorem k42:ConOK Tryz.prog c42:=by
 refine conOK_of rfl (enters_of Tryz.func42 (by kernel_rfl) rfl) ?_
 intro args K h
 simp only[c42] at h
 split at h
 ·rename_i a b;exact ⟨_,h,tri_of_body (Γ:=[c78,c70,c62,c65,c80]) (by simp[k78,k70,k62,k65,k80]) Tryz.func42 (by simp[Tryz.ntmps42]) rfl (b42 a b)⟩
 ·exact h.elim
theorem cmpQ_bad {a b:List UInt8} (h:chkB a b≠0):cmpQ a b=(0,chkB a b):=by
 unfold cmpQ chkB at*
 by_cases h1:chkQ a≠0
 ·rw[if_pos h1,if_pos h1]
 ·rw[if_neg h1] at h ⊢
  rw[if_pos h,if_neg h1]
theorem cmpQ_good {a b:List UInt8} (h:chkQ a=0∧chkQ b=0):cmpQ a b=cmpf (valQ a) (valQ b):=by
 unfold cmpQ
 rw[if_neg (by rw[h.1];simp),if_neg (by rw[h.2];simp)]
theorem cmpf_ok {p q:Rat} (l1:lim (p.num*q.den)=false) (l2:lim (q.num*p.den)=false):cmpf p q=(cmpI (p.num*q.den) (q.num*p.den),0):=by
 unfold cmpf
 rw[if_neg (by simp[l1,l2])]
set_option maxHeartbeats 8000000 in
theorem b43g (a b:List UInt8) (ha:chkQ a=0) (hb:chkQ b=0):body Tryz.prog [c78,c70,c65,c81,c82] {} true Tryz.f43 [S a,S b] (.tup [I (cmpf (valQ a) (valQ b)).1,I (cmpf (valQ a) (valQ b)).2]):=by
 have hp:=(chk_num ha).2
 have hq:=(chk_num hb).2
 obtain ⟨cn1,vn1,ln1⟩:=chk_pn hp
 obtain ⟨cn2,vn2,ln2⟩:=chk_pn hq
 obtain ⟨cd1,vd1⟩:=chk_pd hp
 obtain ⟨cd2,vd2⟩:=chk_pd hq
 have d1:=(valQ a).den_pos
 have d2:=(valQ b).den_pos
 have hc:¬chkB a b≠0:=by unfold chkB;rw[if_neg (by rw[ha];simp),hb];simp
 by_cases hs:smR (valQ a)∧smR (valQ b)
 ·have s1:=smR_lt hs.1
  have s2:=smR_lt hs.2
  have m1:=mul9 (x:=(valQ a).num) (y:=((valQ b).den:Int)) s1.1 (by omega)
  have m2:=mul9 (x:=(valQ b).num) (y:=((valQ a).den:Int)) s2.1 (by omega)
  have ea:=cmpf_ok (p:=valQ a) (q:=valQ b) (lim_small (by omega)) (lim_small (by omega))
  skip
  refine Br.mkN (show ¬ ¬chkB a b=0 from hc) ?_
  (repeat'((conv=>whnf);first|refine Zn ?_|fail))
  refine Br.mkY hs.1 ?_
  (repeat'((conv=>whnf);first|refine Zn ?_|fail))
  refine Br.mkY hs.2 ?_
  (repeat'((conv=>whnf);first|refine Zn ?_|fail))
  (refine Br.mk (fun _=>?_) (fun _=>?_))
  ·rename_i hx
   skip
   (conv=>whnf)
   (repeat'(first|exact trivial|rfl|refine And.intro ?_ ?_|fail))
   ·(conv=>whnf)
    rw[ea];unfold cmpI;rw[if_pos hx]
   ·(conv=>whnf)
    rw[ea]
  ·rename_i hx
   (repeat'((conv=>whnf);first|refine Zn ?_|fail))
   (refine Br.mk (fun _=>?_) (fun _=>?_))
   ·rename_i hy
    skip
    (conv=>whnf)
    (repeat'(first|exact trivial|rfl|refine And.intro ?_ ?_|fail))
    ·(conv=>whnf)
     rw[ea];unfold cmpI;rw[if_neg hx,if_neg (by omega)]
    ·(conv=>whnf)
     rw[ea]
   ·rename_i hy
    skip
    (conv=>whnf)
    (repeat'(first|exact trivial|rfl|refine And.intro ?_ ?_|fail))
    ·(conv=>whnf)
     rw[ea];unfold cmpI;rw[if_neg hx,if_pos (by omega)]
    ·(conv=>whnf)
     rw[ea]
 ·have n4:ok4 (pn (valQ a)) (pd (valQ b)) (pn (valQ b)) (pd (valQ a)):=⟨⟨cn1,cd2⟩,cn2,cd1⟩
  rcases three_cases hs with ⟨h1,h2⟩ | ⟨h1,h2⟩ | ⟨h1,h2⟩
  all_goals skip
  all_goals refine Br.mkN (show ¬ ¬chkB a b=0 from hc) ?_
  all_goals (repeat'((conv=>whnf);first|refine Zn ?_|fail))
  all_goals first | refine Br.mkN h1 ?_ | refine Br.mkY h1 ?_
  all_goals (repeat'((conv=>whnf);first|refine Zn ?_|fail))
  all_goals first | refine Br.mkN h2 ?_ | refine Br.mkY h2 ?_
  all_goals (repeat'((conv=>whnf);first|refine Zn ?_|fail))
  all_goals
   rcases lim_cases ((valQ a).num*((valQ b).den:Int)) with l1 | l1
   ·have ea:cmpf (valQ a) (valQ b)=(0,4):=by unfold cmpf;rw[if_pos (by simp[l1])]
    refine Br.mkY (show lim (valI (pn (valQ a))*valI (pd (valQ b)))=true by rw[vn1,vd2];exact l1) ?_
    (repeat'((conv=>whnf);first|refine Zy ?_|fail))
    (conv=>whnf)
    (repeat'(first|exact trivial|rfl|refine And.intro ?_ ?_|fail))
    ·(conv=>whnf)
     rw[ea]
    ·(conv=>whnf)
     rw[ea]
   ·refine Br.mkN (show ¬lim (valI (pn (valQ a))*valI (pd (valQ b)))=true by rw[vn1,vd2,l1];decide) ?_
    skip
    rcases lim_cases ((valQ b).num*((valQ a).den:Int)) with l2 | l2
    ·have ea:cmpf (valQ a) (valQ b)=(0,4):=by unfold cmpf;rw[if_pos (by simp[l2])]
     have e4:resI (valI (pn (valQ b))*valI (pd (valQ a)))=([],4):=by rw[vn2,vd1];exact resI_no l2
     refine Br.mkY (show ¬(resI (valI (pn (valQ b))*valI (pd (valQ a)))).2=0 by rw[e4];decide) ?_
     skip
     (conv=>whnf)
     (repeat'(first|exact trivial|rfl|refine And.intro ?_ ?_|fail))
     ·(conv=>whnf)
      rw[ea]
     ·(conv=>whnf)
      rw[ea,e4]
    ·have e4:resI (valI (pn (valQ b))*valI (pd (valQ a)))=(itoa ((valQ b).num*((valQ a).den:Int)),0):=by rw[vn2,vd1];exact resI_ok l2
     refine Br.mkN (show ¬ ¬(resI (valI (pn (valQ b))*valI (pd (valQ a)))).2=0 by rw[e4];simp) ?_
     have ea:=cmpf_ok l1 l2
     have n5:chkI (itoa (valI (pn (valQ a))*valI (pd (valQ b))))=0∧chkI (resI (valI (pn (valQ b))*valI (pd (valQ a)))).1=0:=by
      rw[e4,vn1,vd2]
      exact ⟨chk_itoa l1,chk_itoa l2⟩
     (repeat'((conv=>whnf);first|refine Zn ?_|fail))
     (conv=>whnf)
     (repeat'(first|exact trivial|rfl|refine And.intro ?_ ?_|fail))
     ·(conv=>whnf)
      rw[ea,e4,vn1,vd2,valI_itoa,valI_itoa]
     ·(conv=>whnf)
      rw[ea]
theorem b43 (a b:List UInt8):body Tryz.prog [c78,c70,c65,c81,c82] {} true Tryz.f43 [S a,S b] (.tup [I (cmpQ a b).1,I (cmpQ a b).2]):=by
 by_cases h:chkB a b≠0
 ·rw[cmpQ_bad h]
  skip
  refine Br.mkY h ?_
  skip
  (conv=>whnf)
  (repeat'(first|exact trivial|rfl|refine And.intro ?_ ?_|fail))
 ·rw[cmpQ_good (good2 h)]
  exact b43g a b (good2 h).1 (good2 h).2
def c43:Con:=mkCon 43 true fun args K=>match args with | [.str a,.str b]=>K (.tup [I (cmpQ a b).1,I (cmpQ a b).2]) | _=>False
theorem k43:ConOK Tryz.prog c43:=by
 refine conOK_of rfl (enters_of Tryz.func43 (by kernel_rfl) rfl) ?_
 intro args K h
 simp only[c43] at h
 split at h
 ·rename_i a b;exact ⟨_,h,tri_of_body (Γ:=[c78,c70,c65,c81,c82]) (by simp[k78,k70,k65,k81,k82]) Tryz.func43 (by simp[Tryz.ntmps43]) rfl (b43 a b)⟩
 ·exact h.elim
end RB
end
section
set_option linter.unusedVariables false
open Go Go.Proofs Go.Eng Go.Shelf IB Go.Lib Go.RowKit
namespace RB
set_option maxRecDepth 10000
set_option linter.unusedVariables false
set_option linter.unusedSimpArgs false
set_option maxHeartbeats 8000000 in
theorem b9 (a b:List UInt8):body Tryz.prog [c23,c12,c17,c20,c19,c14,c39,c40,c41,c42,c38,c43,c21,c44] {} true Tryz.f9 [S a,S b] (.val (.bool true)):=by
 by_cases hl:longS a∨longS b
 ·skip
  by_cases h1:longS a
  ·refine Br.mkY h1 ?_
   skip
   (conv=>whnf)
   skip
  ·refine Br.mkN h1 ?_
   skip
   refine Br.mkY (hl.elim (fun h=>absurd h h1) id) ?_
   skip
   (conv=>whnf)
   skip
 ·skip
  refine Br.mkN (fun h=>hl (.inl h)) ?_
  skip
  refine Br.mkN (fun h=>hl (.inr h)) ?_
  (repeat'((conv=>whnf);first|refine Zn ?_|refine Zy ?_|fail))
  repeat (first | (refine Br.mkN (fun h=>h rfl) ?_;(repeat'((conv=>whnf);first|refine Zn ?_|refine Zy ?_|refine Zm ?_|fail))) | (refine Br.mkY rfl ?_;skip))
  (conv=>whnf)
  skip
theorem t9 (a b:List UInt8) (_:a.length≤maxL) (_:b.length≤maxL):Tri Tryz.prog true 9 [S a,S b] (.val (.bool true)):=
 tri_of_body (Γ:=[c23,c12,c17,c20,c19,c14,c39,c40,c41,c42,c38,c43,c21,c44]) (by simp[k23,k12,k17,k20,k19,k14,k39,k40,k41,k42,k38,k43,k21,k44]) Tryz.func9 (by simp[Tryz.ntmps9]) rfl (b9 a b)
end RB
end
section
open Go Go.Proofs Go.Eng Go.Shelf IB Go.Lib Go.RowKit
namespace RB
set_option maxRecDepth 10000
set_option linter.unusedVariables false
set_option linter.unusedSimpArgs false
def longL (l:List (List UInt8)):Prop:=(∃a∈l,longS a)∨8<l.length
noncomputable instance (l:List (List UInt8)):Decidable (longL l):=Classical.propDecidable _
theorem b24 (l:List (List UInt8)):body Tryz.prog [c23] { asks:=[(0,[])] } true Tryz.f24 [.seq .str l] (.bl (longL l) inferInstance):=by
 skip
 refine Ask.mk ⟨{ X:=Nat,pre:=fun i=>i≤l.length∧∀j,j<i→¬longS (l.getD j []),mod:=fun i _=>[(3,I i)],heap:=fun i H=>H,mu:=fun i=>l.length-i },rfl,?_⟩
 (repeat'((conv=>whnf);first|refine Zn ?_|fail))
 refine ⟨⟨(0:Nat),⟨Nat.zero_le _,fun j hj=>by omega⟩,?_⟩,fun (i:Nat) hi=>?_⟩
 ·(repeat'(first|exact trivial|rfl|refine And.intro ?_ ?_|fail))
 obtain ⟨hi,hp⟩:=hi
 (repeat'((conv=>whnf);first|refine Zg fun _=>?_|fail))
 (refine Br.mk (fun _=>?_) (fun _=>?_))
 ·have hlt:i<l.length:=by omega
  (repeat'((conv=>whnf);first|refine Zn ?_|refine Zj ?_|fail))
  (refine Br.mk (fun _=>?_) (fun _=>?_))
  ·rename_i hb
   skip
   (conv=>whnf)
   skip
   exact .inl ⟨l.getD i [],by rw[List.getD_eq_getElem?_getD,List.getElem?_eq_getElem hlt];exact List.getElem_mem hlt,hb⟩
  ·rename_i hb
   (repeat'((conv=>whnf);first|refine Zn ?_|fail))
   refine ⟨(i+1:Nat),by show l.length-(i+1)<l.length-i;omega,⟨hlt,fun j hj=>?_⟩,?_⟩
   ·rcases Nat.lt_succ_iff_lt_or_eq.1 hj with h1 | h1
    ·exact hp j h1
    ·subst h1;exact hb
   ·(repeat'(first|exact trivial|rfl|refine And.intro ?_ ?_|fail))
 ·have e:i=l.length:=by omega
  subst e
  (repeat'((conv=>whnf);first|refine Zg fun _=>?_|fail))
  (conv=>whnf)
  constructor
  ·intro h;exact .inr (by omega)
  ·rintro (⟨a,ha,hb⟩ | h)
   ·exfalso
    obtain ⟨j,hj,rfl⟩:=List.getElem_of_mem ha
    refine hp j hj ?_
    rw[List.getD_eq_getElem?_getD,List.getElem?_eq_getElem hj]
    exact hb
   ·omega
def c24:Con:=mkCon 24 true fun args K=>match args with | [.seq .str l]=>K (.bl (longL l) inferInstance) | _=>False
theorem k24:ConOK Tryz.prog c24:=by
 refine conOK_of rfl (enters_of Tryz.func24 (by kernel_rfl) rfl) ?_
 intro args K h
 simp only[c24] at h
 split at h
 ·rename_i l;exact ⟨_,h,tri_of_body (Γ:=[c23]) (by simp[k23]) Tryz.func24 (by simp[Tryz.ntmps24]) rfl (b24 l)⟩
 ·exact h.elim
theorem b26 (a:List UInt8):body Tryz.prog [c44,c65] {} true Tryz.f26 [S a] (.tup [S (ptQ a).1,S (ptQ a).2,I (chkQ a)]):=by
 by_cases h:chkQ a=0
 ·have e:ptQ a=(pn (valQ a),pd (valQ a)):=by unfold ptQ;rw[if_pos h]
  rw[e]
  skip
  refine Br.mkN (show ¬ ¬chkQ a=0 from fun h'=>h' h) ?_
  (repeat'((conv=>whnf);first|refine Zn ?_|fail))
  (conv=>whnf)
  (repeat'(first|exact trivial|rfl|refine And.intro ?_ ?_|fail))
  (conv=>whnf)
  exact h.symm
 ·have e:ptQ a=([],[]):=by unfold ptQ;rw[if_neg h]
  rw[e]
  skip
  refine Br.mkY h ?_
  skip
  (conv=>whnf)
  (repeat'(first|exact trivial|rfl|refine And.intro ?_ ?_|fail))
def c26:Con:=mkCon 26 true fun args K=>match args with | [.str a]=>K (.tup [S (ptQ a).1,S (ptQ a).2,I (chkQ a)]) | _=>False
theorem k26:ConOK Tryz.prog c26:=by
 refine conOK_of rfl (enters_of Tryz.func26 (by kernel_rfl) rfl) ?_
 intro args K h
 simp only[c26] at h
 split at h
 ·rename_i a;exact ⟨_,h,tri_of_body (Γ:=[c44,c65]) (by simp[k44,k65]) Tryz.func26 (by simp[Tryz.ntmps26]) rfl (b26 a)⟩
 ·exact h.elim
theorem itoa_tdiv {n:Int} (h:n<0) (h0:n.tdiv 10≠0):itoa n=itoa (n.tdiv 10)++itoa (-(n.tmod 10)):=by
 obtain ⟨m,rfl⟩:∃m:Nat,n= -(m:Int):=⟨n.natAbs,by omega⟩
 have e1:(-(m:Int)).tdiv 10= -((m/10:Nat):Int):=by rw[Int.neg_tdiv,Int.tdiv_eq_ediv_of_nonneg (by omega)];rfl
 have e2:(-(m:Int)).tmod 10= -((m%10:Nat):Int):=by rw[Int.neg_tmod,Int.tmod_eq_emod_of_nonneg (by omega)];rfl
 rw[e1] at h0
 have hm:10≤m:=Nat.le_of_not_lt fun h'=>h0 (by rw[Nat.div_eq_of_lt h'];rfl)
 rw[e1,e2,Int.neg_neg,itoa_nat,itoa_cases,if_pos h,itoa_cases,if_pos (by omega)]
 rw[Int.natAbs_neg,Int.natAbs_natCast,Int.natAbs_neg,Int.natAbs_natCast,List.cons_append]
 congr 1
 conv=>lhs;rw[decDigits,dif_neg (by omega)]
 rw[dec1 (Nat.mod_lt _ (by omega))]
def c64 (k:Nat):Con:=mkCon 64 true fun args K=>match args with | [.val (.int .i64 n)]=>Need ((-9223372036854775808≤n∧n≤9223372036854775807)∧n.natAbs<10^k) (K (S (itoa n))) | _=>False
theorem itoa_len20 {n:Int} (h: -9223372036854775808≤n∧n≤9223372036854775807):(itoa n).length≤20:=by
 have:=IB.dec_len 18 n.natAbs (by omega)
 rw[itoa_cases];split
 ·rw[List.length_cons];omega
 ·omega
theorem b64 (k:Nat) (n:Int) (h:(-9223372036854775808≤n∧n≤9223372036854775807)∧n.natAbs<10^ (k+1)):body Tryz.prog [c101,c64 k] {} true Tryz.f64 [I n] (S (itoa n)):=by
 obtain ⟨hn,hk⟩:=h
 have hl:=itoa_len20 hn
 skip
 (refine Br.mk (fun _=>?_) (fun _=>?_))
 ·rename_i h0
  (repeat'((conv=>whnf);first|refine Zn ?_|fail))
  (conv=>whnf)
  skip
 ·rename_i h0
  have q1:n.tdiv 10= -((n.natAbs/10:Nat):Int):=by
   obtain ⟨m,rfl⟩:∃m:Nat,n= -(m:Int):=⟨n.natAbs,by omega⟩
   rw[Int.neg_tdiv,Int.tdiv_eq_ediv_of_nonneg (by omega),Int.natAbs_neg,Int.natAbs_natCast];rfl
  have q2:n.tmod 10= -((n.natAbs%10:Nat):Int):=by
   obtain ⟨m,rfl⟩:∃m:Nat,n= -(m:Int):=⟨n.natAbs,by omega⟩
   rw[Int.neg_tmod,Int.tmod_eq_emod_of_nonneg (by omega),Int.natAbs_neg,Int.natAbs_natCast];rfl
  have q3:n.natAbs/10<10^k:=by rw[Nat.pow_succ] at hk;omega
  have b1: -9223372036854775808≤n.tdiv 10∧n.tdiv 10≤9223372036854775807:=by rw[q1];omega
  have b2: -9≤n.tmod 10∧n.tmod 10≤0:=by rw[q2];omega
  have b3:(n.tdiv 10).natAbs<10^k:=by rw[q1,Int.natAbs_neg,Int.natAbs_natCast];exact q3
  have l1:=itoa_len20 b1
  have l2:=itoa_len20 (n:= -(n.tmod 10)) (by omega)
  (repeat'((conv=>whnf);first|refine Zb ?_|refine Zn ?_|fail))
  (refine Br.mk (fun _=>?_) (fun _=>?_))
  ·rename_i hz
   have hm:n.natAbs<10:=by
    rw[q1] at hz
    omega
   have e:itoa n=45::itoa (-n):=by
    rw[itoa_cases,if_pos (by omega),itoa_cases (-n),if_neg (by omega),Int.natAbs_neg]
   have l3:(itoa (-n)).length≤20:=itoa_len20 (by omega)
   (repeat'((conv=>whnf);first|refine Zn ?_|fail))
   (conv=>whnf)
   exact e.symm
  ·rename_i hz
   have e:=itoa_tdiv (n:=n) (by omega) hz
   (repeat'((conv=>whnf);first|refine Zb ?_|refine Zn ?_|fail))
   (conv=>whnf)
   exact e.symm
theorem b64z (n:Int) (h:0≤n∧n≤9223372036854775807):body Tryz.prog [c101] {} true Tryz.f64 [I n] (S (itoa n)):=by
 (repeat'((conv=>whnf);first|refine Zn ?_|refine Zy ?_|fail))
 (conv=>whnf)
 skip
theorem k64:∀k,ConOK Tryz.prog (c64 k)
 | 0=>by
  refine conOK_of rfl (enters_of Tryz.func64 (by kernel_rfl) rfl) ?_
  intro args K h
  simp only[c64] at h
  split at h
  ·rename_i n
   have h1:=h.ok.2
   rw[Nat.pow_zero] at h1
   exact ⟨_,h.go,tri_of_body (Γ:=[c101]) (by simp[k101]) Tryz.func64 (by simp[Tryz.ntmps64]) rfl (b64z n (by omega))⟩
  ·exact h.elim
 | k+1=>by
  refine conOK_of rfl (enters_of Tryz.func64 (by kernel_rfl) rfl) ?_
  intro args K h
  simp only[c64] at h
  split at h
  ·rename_i n
   exact ⟨_,h.go,tri_of_body (Γ:=[c101,c64 k]) (by simp[k101,k64 k]) Tryz.func64 (by simp[Tryz.ntmps64]) rfl (b64 k n h.ok)⟩
  ·exact h.elim
def c64':Con:=c64 20
theorem k64':ConOK Tryz.prog c64':=k64 20
theorem pow20 {n:Int} (h: -9223372036854775808≤n∧n≤9223372036854775807):n.natAbs<10^20:=by
 have:(10:Nat)^20=100000000000000000000:=by decide
 omega
theorem b25 (n d:Int) (h:(-9223372036854775808≤n∧n≤9223372036854775807)∧(-9223372036854775808≤d∧d≤9223372036854775807)):body Tryz.prog [c62,c64',c63] {} true Tryz.f25 [I n,I d] (.tup [S (ofQ n d).1,I (ofQ n d).2]):=by
 obtain ⟨hn,hd⟩:=h
 by_cases h0:d=0
 ·have e:ofQ n d=([],12):=by unfold ofQ;rw[if_pos h0]
  rw[e]
  (repeat'((conv=>whnf);first|refine Zy ?_|fail))
  (conv=>whnf)
  (repeat'(first|exact trivial|rfl|refine And.intro ?_ ?_|fail))
 ·have e:ofQ n d=(numS (Rat.divInt n d),0):=by unfold ofQ;rw[if_neg h0]
  rw[e]
  have p1:=pow20 hn
  have p2:=pow20 hd
  by_cases hq:(-4611686018427387904<n∧n<4611686018427387904)∧0<d∧d<4611686018427387904
  ·(repeat'((conv=>whnf);first|refine Zn ?_|refine Zy ?_|refine Zm ?_|fail))
   (conv=>whnf)
   (repeat'(first|exact trivial|rfl|refine And.intro ?_ ?_|fail))
  ·have l1:lim n=false:=lim_small (Nat.lt_of_lt_of_le p1 (pow_mono (by decide)))
   have l2:lim d=false:=lim_small (Nat.lt_of_lt_of_le p2 (pow_mono (by decide)))
   have hN:(chkI (itoa n)=0∧chkI (itoa d)=0)∧valI (itoa d)≠0:=⟨⟨chk_itoa l1,chk_itoa l2⟩,by rw[valI_itoa];exact h0⟩
   have hN1:(-9223372036854775808≤n∧n≤9223372036854775807)∧n.natAbs<10^20:=⟨hn,p1⟩
   have hN2:(-9223372036854775808≤d∧d≤9223372036854775807)∧d.natAbs<10^20:=⟨hd,p2⟩
   skip
   refine Br.mkN h0 ?_
   have hcase:¬ -4611686018427387904<n∨(-4611686018427387904<n∧¬n<4611686018427387904)∨(-4611686018427387904<n∧n<4611686018427387904∧¬0<d)∨(-4611686018427387904<n∧n<4611686018427387904∧0<d∧¬d<4611686018427387904):=by omega
   rcases hcase with c1 | ⟨c1,c2⟩ | ⟨c1,c2,c3⟩ | ⟨c1,c2,c3,c4⟩
   all_goals
    (repeat'((conv=>whnf);first|refine Zn ?_|refine Zy ?_|refine Zm ?_|fail))
    (conv=>whnf)
    (repeat'(first|exact trivial|rfl|refine And.intro ?_ ?_|fail))
    (conv=>whnf)
    rw[valI_itoa,valI_itoa]
def c25:Con:=mkCon 25 true fun args K=>match args with | [.val (.int .i64 n),.val (.int .i64 d)]=>Need ((-9223372036854775808≤n∧n≤9223372036854775807)∧(-9223372036854775808≤d∧d≤9223372036854775807)) (K (.tup [S (ofQ n d).1,I (ofQ n d).2])) | _=>False
theorem k25:ConOK Tryz.prog c25:=by
 refine conOK_of rfl (enters_of Tryz.func25 (by kernel_rfl) rfl) ?_
 intro args K h
 simp only[c25] at h
 split at h
 ·rename_i n d;exact ⟨_,h.go,tri_of_body (Γ:=[c62,c64',c63]) (by simp[k62,k64',k63]) Tryz.func25 (by simp[Tryz.ntmps25]) rfl (b25 n d h.ok)⟩
 ·exact h.elim
theorem nat10_cons (c:UInt8) (r:List UInt8):nat10 (c::r)=nat10 [c]*10^r.length+nat10 r:=nat10_append [c] r
theorem nat10_one (c:UInt8):nat10 [c]=c.toNat-48:=by simp[nat10]
theorem less_num:∀(x y:List UInt8),x.length=y.length→(∀c∈x,isDig c)→(∀c∈y,isDig c)→(Op.bytesLess x y=true↔nat10 x<nat10 y)
 | [],[],_,_,_=>by simp[Op.bytesLess]
 | [],_:: _,h,_,_=>by simp at h
 | _:: _,[],h,_,_=>by simp at h
 | a::x,b::y,h,hx,hy=>by
  have hl:x.length=y.length:=by simpa using h
  have ih:=less_num x y hl (fun c hc=>hx c (List.mem_cons_of_mem _ hc)) (fun c hc=>hy c (List.mem_cons_of_mem _ hc))
  have ha:isDig a:=hx a (List.mem_cons_self ..)
  have hb:isDig b:=hy b (List.mem_cons_self ..)
  have vx:=nat10_lt x (fun c hc=>hx c (List.mem_cons_of_mem _ hc))
  have vy:=nat10_lt y (fun c hc=>hy c (List.mem_cons_of_mem _ hc))
  rw[nat10_cons a x,nat10_cons b y,nat10_one,nat10_one,hl]
  rw[hl] at vx
  unfold isDig at ha hb
  simp only[Op.bytesLess,Bool.or_eq_true,decide_eq_true_eq,Bool.and_eq_true,beq_iff_eq,ih]
  obtain ⟨P,hP⟩:∃P,(10:Nat)^y.length=P:=⟨_,rfl⟩
  rw[hP] at vx vy ⊢
  constructor
  ·rintro (h1 | ⟨rfl,h1⟩)
   ·have h2:a.toNat<b.toNat:=UInt8.lt_iff_toNat_lt.1 h1
    have h3:(a.toNat-48+1)*P≤(b.toNat-48)*P:=Nat.mul_le_mul_right _ (by omega)
    rw[Nat.add_mul] at h3
    omega
   ·omega
  ·intro h1
   by_cases e:a=b
   ·subst e;exact .inr ⟨rfl,by omega⟩
   ·left
    refine UInt8.lt_iff_toNat_lt.2 ?_
    refine Nat.lt_of_not_le fun h2=>?_
    have h4:a.toNat≠b.toNat:=fun h=>e (UInt8.toNat_inj.1 h)
    have h3:(b.toNat-48+1)*P≤(a.toNat-48)*P:=Nat.mul_le_mul_right _ (by omega)
    rw[Nat.add_mul] at h3
    omega
def mostS:List UInt8:=[52,54,49,49,54,56,54,48,49,56,52,50,55,51,56,55,57,48,52]
theorem mostS_val:nat10 mostS=4611686018427387904:=by decide
theorem gfx_le (D:List UInt8) {i:Nat} (hi:i≤D.length):gfx D 0 i≤nat10 D:=by
 unfold gfx
 rw[List.drop_zero]
 conv=>rhs;rw[← List.take_append_drop i D,nat10_append]
 have:0<10^ (D.drop i).length:=Nat.pow_pos (by omega)
 have h:=Nat.mul_le_mul_left (nat10 (D.take i)) this
 omega
theorem b32 (a:List UInt8):body Tryz.prog [c44,c73] { asks:=[(0,[])] } true Tryz.f32 [S a] (.tup [I (inQ a).1,I (inQ a).2]):=by
 by_cases hc:chkQ a=0
 ·obtain ⟨e,hq⟩:=chk_num hc
  obtain ⟨q,hqe⟩:∃q,valQ a=q:=⟨_,rfl⟩
  rw[hqe] at e hq
  have hin:inQ a=if q.den=1 then (if q.num < -4611686018427387904∨4611686018427387904<q.num then (0,2) else (q.num,0)) else (0,8):=by
   unfold inQ;rw[if_pos hc,hqe]
  have e1:digs (topS a)=decDigits q.num.natAbs:=by rw[e,top_numS,digs_itoa]
  have e2:a.headD 0=45↔q.num<0:=by rw[e,numS_headD,lt0]
  have e4:botS a=if q.den=1 then [] else 47::decDigits q.den:=by rw[e];exact bot_numS q
  obtain ⟨D,hD⟩:∃D,digs (topS a)=D:=⟨_,rfl⟩
  have hdig:∀c∈digs (topS a),isDig c:=by rw[e1];exact fun c hc=>dec_dig _ c hc
  have hval:nat10 (digs (topS a))=q.num.natAbs:=by rw[e1,nat10_dec]
  by_cases hd:q.den=1
  ·rw[if_pos hd] at hin
   have hb:¬ ¬botS a= []:=by rw[e4,if_pos hd];simp
   by_cases hbig:q.num < -4611686018427387904∨4611686018427387904<q.num
   ·rw[if_pos hbig] at hin
    rw[hin]
    have hlen:19≤(digs (topS a)).length:=by
     refine Nat.le_of_not_lt fun h=>?_
     have h1:=nat10_lt _ hdig
     have h2:10^ (digs (topS a)).length≤10^18:=pow_mono (by omega)
     have h3:(10:Nat)^18=1000000000000000000:=by decide
     omega
    skip
    refine Br.mkN (fun h=>h hc) ?_
    skip
    refine Br.mkN hb ?_
    by_cases h20:19<(digs (topS a)).length
    ·(repeat'((conv=>whnf);first|refine Zg fun _=>?_|refine Zy ?_|fail))
     (conv=>whnf)
     (repeat'(first|exact trivial|rfl|refine And.intro ?_ ?_|fail))
    ·have h19:(digs (topS a)).length=19:=by omega
     have hless:=less_num (digs (topS a)) mostS h19 hdig (by decide)
     have hgt:¬Op.bytesLess (digs (topS a)) mostS=true∧¬digs (topS a)=mostS:=by
      rw[hless,hval,mostS_val]
      refine ⟨by omega,fun h=>?_⟩
      rw[h,mostS_val] at hval
      omega
     (repeat'((conv=>whnf);first|refine Zg fun _=>?_|refine Zy ?_|refine Zm ?_|fail))
     (conv=>whnf)
     (repeat'(first|exact trivial|rfl|refine And.intro ?_ ?_|fail))
   ·rw[if_neg hbig] at hin
    rw[hin]
    have hlen:(digs (topS a)).length≤19:=by
     rw[e1]
     exact IB.dec_len 18 _ (by omega)
    skip
    refine Br.mkN (fun h=>h hc) ?_
    skip
    refine Br.mkN hb ?_
    have hcase:(digs (topS a)).length≤18∨((digs (topS a)).length=19∧¬(¬Op.bytesLess (digs (topS a)) mostS=true∧¬digs (topS a)=mostS)):=by
     by_cases h18:(digs (topS a)).length≤18
     ·exact .inl h18
     ·have h19:(digs (topS a)).length=19:=by omega
      refine .inr ⟨h19,fun h=>?_⟩
      have hless:=less_num (digs (topS a)) mostS h19 hdig (by decide)
      rw[hless,hval,mostS_val] at h
      have h2:q.num.natAbs=4611686018427387904:=by omega
      refine h.2 ?_
      rw[e1,h2]
      exact (congrArg decDigits mostS_val.symm).trans (dec_nat10 _ mostS rfl (by decide) (by decide) (.inr (by decide)))
    have hgl:∀i,i≤(digs (topS a)).length→gfx (digs (topS a)) 0 i≤4611686018427387904:=fun i hi=>by
     have:=gfx_le (digs (topS a)) hi
     omega
    rcases hcase with h18 | ⟨h19,hng⟩
    all_goals (repeat'((conv=>whnf);first|refine Zg fun _=>?_|refine Zy ?_|refine Zm ?_|fail))
    all_goals
     refine Ask.mk ⟨{ X:=Nat,pre:=fun i=>i≤(digs (topS a)).length,mod:=fun i _=>[(9,I (gfx (digs (topS a)) 0 i)),(10,I i)],heap:=fun _ _=>[],mu:=fun i=>(digs (topS a)).length-i },rfl,?_⟩
     (repeat'((conv=>whnf);first|refine Zn ?_|fail))
     refine ⟨⟨(0:Nat),Nat.zero_le _,?_⟩,fun (i:Nat) (hi:i≤(digs (topS a)).length)=>?_⟩
     ·(repeat'(first|exact trivial|rfl|refine And.intro ?_ ?_|fail))
      all_goals (rw[gfx_zero];rfl)
     by_cases hlt:i<(digs (topS a)).length
     ·have hg:=hgl (i+1) hlt
      obtain ⟨e1,e2⟩:=gfx_dig hdig (Nat.zero_le _) hlt
      (repeat'((conv=>whnf);first|refine Zg fun _=>?_|refine Zn ?_|refine Zj ?_|refine Zy ?_|fail))
      refine ⟨(i+1:Nat),by show (digs (topS a)).length-(i+1)<(digs (topS a)).length-i;omega,hlt,?_⟩
      (repeat'(first|exact trivial|rfl|refine And.intro ?_ ?_|omega|fail))
     ·have e:i=(digs (topS a)).length:=by omega
      subst e
      have hga:=gfx_all (digs (topS a))
      have hgb:=hgl _ (Nat.le_refl _)
      (repeat'((conv=>whnf);first|refine Zg fun _=>?_|refine Zm ?_|fail))
      by_cases hn:q.num<0
      ·refine Br.mkY (e2.2 hn) ?_
       (repeat'((conv=>whnf);first|refine Zn ?_|fail))
       (conv=>whnf)
       (repeat'(first|exact trivial|rfl|refine And.intro ?_ ?_|fail))
       (conv=>whnf)
       have hv:=hval
       omega
      ·refine Br.mkN (fun h=>hn (e2.1 h)) ?_
       skip
       (conv=>whnf)
       (repeat'(first|exact trivial|rfl|refine And.intro ?_ ?_|fail))
       (conv=>whnf)
       have hv:=hval
       omega
  ·rw[if_neg hd] at hin
   rw[hin]
   skip
   refine Br.mkN (fun h=>h hc) ?_
   skip
   refine Br.mkY (by rw[e4,if_neg hd];simp) ?_
   skip
   (conv=>whnf)
   (repeat'(first|exact trivial|rfl|refine And.intro ?_ ?_|fail))
 ·have hin:inQ a=(0,chkQ a):=by unfold inQ;rw[if_neg hc]
  rw[hin]
  skip
  refine Br.mkY hc ?_
  skip
  (conv=>whnf)
  (repeat'(first|exact trivial|rfl|refine And.intro ?_ ?_|fail))
def c32:Con:=mkCon 32 true fun args K=>match args with | [.str a]=>K (.tup [I (inQ a).1,I (inQ a).2]) | _=>False
theorem k32:ConOK Tryz.prog c32:=by
 refine conOK_of rfl (enters_of Tryz.func32 (by kernel_rfl) rfl) ?_
 intro args K h
 simp only[c32] at h
 split at h
 ·rename_i a;exact ⟨_,h,tri_of_body (Γ:=[c44,c73]) (by simp[k44,k73]) Tryz.func32 (by simp[Tryz.ntmps32]) rfl (b32 a)⟩
 ·exact h.elim
def c114g:Con:=mkCon 114 false fun args K=>match args with
 | [.agg [.bl p hp,.seq (.int .i64) a],.agg [.bl q hq,.seq (.int .i64) b]]=>Need (canonZ p a∧canonZ q b) (K (.agg [.bl (@addS p (valB B6 a).toNat q (valB B6 b).toNat hp hq) inferInstance,Ls (limbs B6 (@addN p hp (valB B6 a).toNat q hq (valB B6 b).toNat))]))
 | [.agg [.bl p hp,.seq (.int .i64) a],.agg [.val (.bool true),.seq (.int .i64) b]]=>Need (canonZ p a∧canonZ True b) (K (.agg [.bl (@addS p (valB B6 a).toNat True (valB B6 b).toNat hp inferInstance) inferInstance,Ls (limbs B6 (@addN p hp (valB B6 a).toNat True inferInstance (valB B6 b).toNat))]))
 | _=>False
theorem k114g:ConOK Tryz.prog c114g:=by
 refine conOK_of rfl (enters_of Tryz.func114 (by kernel_rfl) rfl) ?_
 intro args K h
 simp only[c114g] at h
 split at h
 ·rename_i p hp a q hq b
  refine ⟨_,h.go,?_⟩
  obtain ⟨⟨ha,hm,hpm⟩,hb,hn,hqn⟩:=h.ok
  have ht:=tri_of_body (Γ:=[c147,c146,c144]) (by simp[k147,k146,k144]) Tryz.func114 (by simp[Tryz.ntmps114]) rfl (b114 p hp (valB B6 a).toNat q hq (valB B6 b).toNat hm hn hpm hqn)
  rw[ha,hb] at ht
  exact ht
 ·rename_i p hp a b
  refine ⟨_,h.go,?_⟩
  obtain ⟨⟨ha,hm,hpm⟩,hb,hn,hqn⟩:=h.ok
  have ht:=tri_of_body (Γ:=[c147,c146,c144]) (by simp[k147,k146,k144]) Tryz.func114 (by simp[Tryz.ntmps114]) rfl (b114 p hp (valB B6 a).toNat True inferInstance (valB B6 b).toNat hm hn hpm hqn)
  rw[ha,hb] at ht
  refine tri_args (args:=[.agg [.bl p hp,Ls a],.agg [.bl True inferInstance,Ls b]]) ht ⟨⟨Iff.rfl,rfl,trivial⟩,⟨trivial,?_,trivial⟩,trivial⟩
  rfl
 ·exact h.elim
theorem floor_neg {A N:Nat} (hN:0<N) (h:¬(N:Int) ∣ (A:Int)):(-(A:Int))/(N:Int)= -((A/N:Nat):Int)-1:=by
 have h1:A%N≠0:=fun e=>h (Int.ofNat_dvd.2 (Nat.dvd_of_mod_eq_zero e))
 have h2:=Nat.div_add_mod A N
 have h3:=Nat.mod_lt A hN
 have h4:(A:Int)=(N:Int)*((A/N:Nat):Int)+((A%N:Nat):Int):=by rw[← Int.natCast_mul,← Int.natCast_add,h2]
 have h5: -(A:Int)=((N-A%N:Nat):Int)+(N:Int)*(-((A/N:Nat):Int)-1):=by
  rw[Int.mul_sub,Int.mul_neg,Int.mul_one,Int.natCast_sub (by omega)]
  omega
 rw[h5,Int.add_mul_ediv_left _ _ (by omega),Int.ediv_eq_zero_of_lt (by omega) (by omega)]
 omega
theorem lone6:canonZ True [1]∧valB B6 [1]=1:=by
 have e:([1]:List Int)=limbs B6 1:=by simp[limbs,B6]
 have v:valB B6 [1]=1:=by simp[valB]
 exact ⟨⟨by rw[e];exact canon6_limbs 1,by rw[v];exact Nat.one_lt_pow (by decide) (by decide),fun _=>by rw[v];decide⟩,v⟩
theorem adj_val (p:Prop) [Decidable p] (x y:Nat) (hy:y=1) (h:p∨x=0):sgP (addS p x True y) (valB B6 (limbs B6 (addN p x True y)))= -(x:Int)-1:=by
 subst hy
 rw[v6,addS_val]
 unfold sgP
 rw[if_pos trivial]
 rcases h with h | h
 ·rw[if_pos h];rfl
 ·rw[h];split<;>rfl
set_option maxHeartbeats 8000000 in
theorem b71n (a b:List UInt8) (h:chkI a=0∧chkI b=0∧0<valI b) (hdv:¬valI b ∣ valI a):body Tryz.prog [c110,c111,c61,c112,c113,c114g,c115,c116] {} true Tryz.f71 [S a,S b] (.tup [S (itoa (valI a/valI b)),.any,I 0]):=by
 obtain ⟨ha,hb,hpos⟩:=h
 obtain ⟨fa,la⟩:=chk_zero ha
 obtain ⟨fb,lb⟩:=chk_zero hb
 have zA:=canonZ_digs fa la
 have zB:=canonZ_digs fb lb
 have hab:form a∧form b:=⟨fa,fb⟩
 have ra:form a∧(digs a).length≤600:=⟨fa,by omega⟩
 have rb:form b∧(digs b).length≤600:=⟨fb,by omega⟩
 have hc2:¬chk2 a b≠0:=by
  unfold chk2
  rw[if_neg (by rw[ha];simp),hb];simp
 have hb0:¬b= [48]:=fun e=>by rw[e] at hpos;revert hpos;decide
 have hbn:¬b.headD 0=45:=fun e=>by
  rw[val_sgP] at hpos
  unfold sgP at hpos
  rw[if_pos e] at hpos
  omega
 have vb:valI b=(nat10 (digs b):Int):=by rw[val_sgP];unfold sgP;rw[if_neg hbn]
 have hA:valI a=if a.headD 0=45 then -(nat10 (digs a):Int) else (nat10 (digs a):Int):=by
  rw[val_sgP];unfold sgP;rfl
 have hNb:0<nat10 (digs b):=by omega
 have hd:¬(nat10 (digs b):Int) ∣ (nat10 (digs a):Int):=by
  intro h
  refine hdv ?_
  rw[vb,hA]
  split
  ·exact Int.dvd_neg.2 h
  ·exact h
 have hr1:nat10 (digs a)%nat10 (digs b)≠0:=fun e=>hd (Int.ofNat_dvd.2 (Nat.dvd_of_mod_eq_zero e))
 have hfl:valI a/valI b=if a.headD 0=45 then -((nat10 (digs a)/nat10 (digs b):Nat):Int)-1 else ((nat10 (digs a)/nat10 (digs b):Nat):Int):=by
  rw[hA,vb]
  split
  ·exact floor_neg hNb hd
  ·exact Int.natCast_ediv _ _
 skip
 refine Br.mkN (show ¬ ¬chk2 a b=0 from hc2) ?_
 skip
 refine Br.mkN hb0 ?_
 (repeat'((conv=>whnf);first|refine Zn ?_|fail))
 (refine Br.mk (fun _=>?_) (fun _=>?_))
 ·rename_i hs
  have h1:=val_small17 fa hs.1
  have h2:=val_small17 fb hs.2
  have t0:(valI a).tmod (valI b)≠0:=fun e=>hdv (Int.dvd_iff_tmod_eq_zero.2 e)
  have q1:nat10 (digs a)/nat10 (digs b)≤nat10 (digs a):=Nat.div_le_self _ _
  have q2:nat10 (digs a)%nat10 (digs b)<nat10 (digs b):=Nat.mod_lt _ hNb
  by_cases hn:a.headD 0=45
  ·have hv:valI a= -(nat10 (digs a):Int):=by rw[hA,if_pos hn]
   have t1:(valI a).tmod (valI b)= -((nat10 (digs a)%nat10 (digs b):Nat):Int):=by rw[hv,vb,Int.neg_tmod,Int.tmod_eq_emod_of_nonneg (by omega)];rfl
   have t2:(valI a).tdiv (valI b)= -((nat10 (digs a)/nat10 (digs b):Nat):Int):=by rw[hv,vb,Int.neg_tdiv,Int.tdiv_eq_ediv_of_nonneg (by omega)];rfl
   have t3: -1000000000000000000<(valI a).tdiv (valI b)∧(valI a).tdiv (valI b)≤0:=by rw[t2];exact ⟨Int.lt_of_lt_of_le (show -1000000000000000000 < -((nat10 (digs a):Nat):Int) by omega) (Int.neg_le_neg (Int.ofNat_le.2 q1)),Int.neg_nonpos_of_nonneg (Int.natCast_nonneg _)⟩
   have c1:(0:Int)<((nat10 (digs a)%nat10 (digs b):Nat):Int):=Int.natCast_pos.2 (Nat.pos_of_ne_zero hr1)
   have c2:((nat10 (digs a)%nat10 (digs b):Nat):Int)<(nat10 (digs b):Int):=Int.ofNat_lt.2 q2
   have t4:(valI a).tmod (valI b)<0∧ -(valI b)<(valI a).tmod (valI b):=by rw[t1,vb];exact ⟨Int.neg_neg_of_pos c1,Int.neg_lt_neg c2⟩
   (repeat'((conv=>whnf);first|refine Zb ?_|refine Zn ?_|(apply Pin.mk;apply Exists.intro)|apply Pinned.mk rfl rfl|fail))
   refine Br.mkY t0 ?_
   skip
   refine Br.mkY (show ¬((valI a).tmod (valI b)<0↔valI b<0) from fun h'=>by have:=h'.1 t4.1;omega) ?_
   (repeat'((conv=>whnf);first|refine Zn ?_|fail))
   (conv=>whnf)
   (repeat'(first|exact trivial|rfl|refine And.intro ?_ ?_|fail))
   (conv=>whnf)
   rw[hfl,if_pos hn,t2]
  ·have hv:0≤valI a:=by rw[hA,if_neg hn];omega
   have t0:valI a%valI b≠0:=fun e=>hdv (Int.dvd_of_emod_eq_zero e)
   have t3:0≤valI a/valI b:=Int.ediv_nonneg hv (by omega)
   have t5:valI a/valI b≤valI a:=Int.ediv_le_self _ hv
   have t4:0≤valI a%valI b:=Int.emod_nonneg _ (by omega)
   have t6:valI a%valI b<valI b:=Int.emod_lt_of_pos _ hpos
   (repeat'((conv=>whnf);first|refine Za ?_|(apply Pin.mk;apply Exists.intro)|apply Pinned.mk rfl rfl|fail))
   refine Br.mkY t0 ?_
   skip
   refine Br.mkN (show ¬ ¬(valI a%valI b<0↔valI b<0) from fun h'=>h' ⟨fun h=>by omega,fun h=>by omega⟩) ?_
   skip
   (conv=>whnf)
   (repeat'(first|exact trivial|rfl|refine And.intro ?_ ?_|fail))
 ·have e6:=v6 (nat10 (digs b))
  have e6a:=v6 (nat10 (digs a))
  have nb:=nat_small6 fb lb
  have na:=nat_small6 fa la
  have hN:InB B6 (limbs B6 (nat10 (digs a)))∧canon6 (limbs B6 (nat10 (digs b)))∧(0<(valB B6 (limbs B6 (nat10 (digs b)))).toNat∧(valB B6 (limbs B6 (nat10 (digs b)))).toNat<B6^100)∧(limbs B6 (nat10 (digs a))).length≤1000:=
   ⟨limbs_in (by decide) _,canon6_limbs _,⟨by omega,by rw[e6,Int.toNat_natCast];exact Nat.lt_of_lt_of_le nb (Nat.pow_le_pow_right (by decide) (by decide))⟩,by have:=limbs_le6 na;omega⟩
  have hR:limbs B6 (valB B6 (limbs B6 (nat10 (digs a)))%valB B6 (limbs B6 (nat10 (digs b)))).toNat=limbs B6 (nat10 (digs a)%nat10 (digs b)):=by
   rw[e6,e6a,← Int.natCast_emod,Int.toNat_natCast]
  have hQ:limbs B6 (valB B6 (limbs B6 (nat10 (digs a)))/valB B6 (limbs B6 (nat10 (digs b)))).toNat=limbs B6 (nat10 (digs a)/nat10 (digs b)):=by
   rw[e6,e6a,← Int.natCast_ediv,Int.toNat_natCast]
  have lQ:nat10 (digs a)/nat10 (digs b)<B6^50:=Nat.lt_of_le_of_lt (Nat.div_le_self _ _) na
  have lR:nat10 (digs a)%nat10 (digs b)<B6^50:=Nat.lt_trans (Nat.mod_lt _ hNb) nb
  have up:B6^50≤B6^110:=Nat.pow_le_pow_right (by decide) (by decide)
  have hq2:canon6 (limbs B6 (valB B6 (limbs B6 (nat10 (digs a)))/valB B6 (limbs B6 (nat10 (digs b)))).toNat)∧(limbs B6 (valB B6 (limbs B6 (nat10 (digs a)))/valB B6 (limbs B6 (nat10 (digs b)))).toNat).length≤200:=by
   rw[hQ];exact ⟨canon6_limbs _,by have:=limbs_le6 lQ;omega⟩
  have hr2:canon6 (limbs B6 (valB B6 (limbs B6 (nat10 (digs a)))%valB B6 (limbs B6 (nat10 (digs b)))).toNat)∧(limbs B6 (valB B6 (limbs B6 (nat10 (digs a)))%valB B6 (limbs B6 (nat10 (digs b)))).toNat).length≤200:=by
   rw[hR];exact ⟨canon6_limbs _,by have:=limbs_le6 lR;omega⟩
  have hrl:(0:Int)<((limbs B6 (valB B6 (limbs B6 (nat10 (digs a)))%valB B6 (limbs B6 (nat10 (digs b)))).toNat).length:Int):=by
   have:(limbs B6 (nat10 (digs a)%nat10 (digs b))).length≠0:=fun h=>hr1 ((limbs_nil6 _).1 h)
   rw[hR];omega
  have hres:resI (valI a/valI b)=(itoa (valI a/valI b),0):=by
   refine resI_ok ?_
   have h1:(valI a/valI b).natAbs≤(valI a).natAbs:=Int.natAbs_ediv_le_natAbs _ _
   have h2:(valI a).natAbs<10^ (digs a).length:=by
    have:=nat10_lt (digs a) fa.2.2
    rw[hA];split<;>omega
   have h3:=pow_mono la
   exact lim_pow (k:=300) ⟨by decide,by decide⟩ (Nat.lt_of_le_of_lt h1 (Nat.lt_of_lt_of_le h2 h3))
  have vq:valB B6 (limbs B6 (valB B6 (limbs B6 (nat10 (digs a)))/valB B6 (limbs B6 (nat10 (digs b)))).toNat)=((nat10 (digs a)/nat10 (digs b):Nat):Int):=by rw[hQ,v6]
  have vr:valB B6 (limbs B6 (valB B6 (limbs B6 (nat10 (digs a)))%valB B6 (limbs B6 (nat10 (digs b)))).toNat)=((nat10 (digs a)%nat10 (digs b):Nat):Int):=by rw[hR,v6]
  have zQ:canonZ ((0:Int)<((limbs B6 (valB B6 (limbs B6 (nat10 (digs a)))/valB B6 (limbs B6 (nat10 (digs b)))).toNat).length:Int)) (limbs B6 (valB B6 (limbs B6 (nat10 (digs a)))/valB B6 (limbs B6 (nat10 (digs b)))).toNat):=⟨hq2.1,by rw[vq,Int.toNat_natCast];exact Nat.lt_of_lt_of_le lQ up,fun h=>by
   rw[vq,Int.toNat_natCast]
   refine Nat.pos_of_ne_zero fun e=>?_
   have:=(limbs_nil6 _).2 e
   rw[hQ] at h
   omega⟩
  have zR:canonZ ((0:Int)<((limbs B6 (valB B6 (limbs B6 (nat10 (digs a)))%valB B6 (limbs B6 (nat10 (digs b)))).toNat).length:Int)) (limbs B6 (valB B6 (limbs B6 (nat10 (digs a)))%valB B6 (limbs B6 (nat10 (digs b)))).toNat):=⟨hr2.1,by rw[vr,Int.toNat_natCast];exact Nat.lt_of_lt_of_le lR up,fun h=>by
   rw[vr,Int.toNat_natCast]
   exact Nat.pos_of_ne_zero hr1⟩
  have hx:((0:Int)<((limbs B6 (valB B6 (limbs B6 (nat10 (digs a)))/valB B6 (limbs B6 (nat10 (digs b)))).toNat).length:Int))∨(valB B6 (limbs B6 (valB B6 (limbs B6 (nat10 (digs a)))/valB B6 (limbs B6 (nat10 (digs b)))).toNat)).toNat=0:=by
   by_cases h:(0:Int)<((limbs B6 (valB B6 (limbs B6 (nat10 (digs a)))/valB B6 (limbs B6 (nat10 (digs b)))).toNat).length:Int)
   ·exact .inl h
   ·right
    rw[vq,Int.toNat_natCast]
    rw[hQ] at h
    exact (limbs_nil6 _).1 (by omega)
  have hadj:∀ [hD:Decidable ((0:Int)<((limbs B6 (valB B6 (limbs B6 (nat10 (digs a)))/valB B6 (limbs B6 (nat10 (digs b)))).toNat).length:Int))],a.headD 0=45→sgP (addS ((0:Int)<((limbs B6 (valB B6 (limbs B6 (nat10 (digs a)))/valB B6 (limbs B6 (nat10 (digs b)))).toNat).length:Int)) (valB B6 (limbs B6 (valB B6 (limbs B6 (nat10 (digs a)))/valB B6 (limbs B6 (nat10 (digs b)))).toNat)).toNat True (valB B6 [1]).toNat) (valB B6 (limbs B6 (addN ((0:Int)<((limbs B6 (valB B6 (limbs B6 (nat10 (digs a)))/valB B6 (limbs B6 (nat10 (digs b)))).toNat).length:Int)) (valB B6 (limbs B6 (valB B6 (limbs B6 (nat10 (digs a)))/valB B6 (limbs B6 (nat10 (digs b)))).toNat)).toNat True (valB B6 [1]).toNat)))=valI a/valI b:=by
   intro hD hp
   rw[adj_val _ _ _ (by rw[lone6.2];rfl) hx,hfl,if_pos hp,vq,Int.toNat_natCast]
  (refine Br.mk (fun _=>?_) (fun _=>?_))
  all_goals
   (repeat'((conv=>whnf);first|refine Zn ?_|refine Zl ?_|fail))
   by_cases hp:a.headD 0=45
   ·refine Br.mkY (show ¬(a.headD 0=45↔b.headD 0=45) from fun h'=>hbn (h'.1 hp)) ?_
    (repeat'((conv=>whnf);first|refine Zg fun _=>?_|fail))
    refine Br.mkY hp ?_
    (repeat'((conv=>whnf);first|refine Zg fun _=>?_|refine Zl ?_|fail))
    refine Br.mkY hrl ?_
    skip
    refine Br.mkY (show ¬(a.headD 0=45↔b.headD 0=45) from fun h'=>hbn (h'.1 hp)) ?_
    (repeat'((conv=>whnf);first|refine Zl ?_|fail))
    refine Need.mk ⟨zQ,lone6.1⟩ ?_
    skip
    refine Need.mk ⟨zR,zB⟩ ?_
    skip
    refine Need.mk (add_lim6 zQ.2.1 lone6.1.2.1) ?_
    skip
    refine Br.mkN (by rw[hadj hp,hres];simp) ?_
    skip
    refine Need.mk (add_lim6 zR.2.1 zB.2.1) ?_
    skip
    (conv=>whnf)
    (repeat'(first|exact trivial|rfl|refine And.intro ?_ ?_|fail))
    (conv=>whnf)
    rw[hadj hp,hres]
   ·refine Br.mkN (show ¬ ¬(a.headD 0=45↔b.headD 0=45) from fun h'=>h' ⟨fun h=>absurd h hp,fun h=>absurd h hbn⟩) ?_
    skip
    refine Br.mkN hp ?_
    (repeat'((conv=>whnf);first|refine Zg fun _=>?_|refine Zl ?_|fail))
    refine Br.mkY hrl ?_
    skip
    refine Br.mkN (show ¬ ¬(a.headD 0=45↔b.headD 0=45) from fun h'=>h' ⟨fun h=>absurd h hp,fun h=>absurd h hbn⟩) ?_
    (repeat'((conv=>whnf);first|refine Zn ?_|fail))
    have ev:valB B6 (limbs B6 (valB B6 (limbs B6 (nat10 (digs a)))/valB B6 (limbs B6 (nat10 (digs b)))).toNat)=valI a/valI b:=by rw[vq,hfl,if_neg hp]
    refine Br.mkN (by rw[ev,hres];simp) ?_
    (repeat'((conv=>whnf);first|refine Zn ?_|fail))
    (conv=>whnf)
    (repeat'(first|exact trivial|rfl|refine And.intro ?_ ?_|fail))
    (conv=>whnf)
    rw[ev,hres]
def c71g:Con:=mkCon 71 true fun args K=>match args with
 | [.str a,.str b]=>Need (chkI a=0∧chkI b=0∧0<valI b) (K (.tup [S (itoa (valI a/valI b)),.any,I 0]))
 | _=>False
theorem k71g:ConOK Tryz.prog c71g:=by
 refine conOK_of rfl (enters_of Tryz.func71 (by kernel_rfl) rfl) ?_
 intro args K h
 simp only[c71g] at h
 split at h
 ·rename_i a b
  refine ⟨_,h.go,?_⟩
  by_cases hd:valI b ∣ valI a
  ·exact tri_of_body (Γ:=[c110,c111,c61,c112,c113,c115,c116]) (by simp[k110,k111,k61,k112,k113,k115,k116]) Tryz.func71 (by simp[Tryz.ntmps71]) rfl (b71 a b ⟨h.ok.1,h.ok.2.1,h.ok.2.2,hd⟩)
  ·exact tri_of_body (Γ:=[c110,c111,c61,c112,c113,c114g,c115,c116]) (by simp[k110,k111,k61,k112,k113,k114g,k115,k116]) Tryz.func71 (by simp[Tryz.ntmps71]) rfl (b71n a b h.ok hd)
 ·exact h.elim
theorem numS_div1 (z:Int):numS (Rat.divInt z 1)=itoa z:=by
 rw[← numS_int]
 congr 1
 have:=Rat.num_divInt_den (z:Rat)
 rw[Rat.num_intCast,Rat.den_intCast] at this
 exact this
set_option maxHeartbeats 4000000 in
theorem b30 (a:List UInt8):body Tryz.prog [c44,c70,c62,c65,c71g,c63] {} true Tryz.f30 [S a] (.tup [S (flQ a).1,I (flQ a).2]):=by
 by_cases hc:chkQ a=0
 ·obtain ⟨e,hq⟩:=chk_num hc
  obtain ⟨cn,vn,ln⟩:=chk_pn hq
  obtain ⟨cd,vd⟩:=chk_pd hq
  have d1:=(valQ a).den_pos
  have hf:flQ a=(itoa ((valQ a).num/(valQ a).den),0):=by unfold flQ;rw[if_pos hc]
  have hz:=numS_int ((valQ a).num/((valQ a).den:Int))
  rw[hf]
  by_cases hs:smR (valQ a)
  ·have s1:=smR_lt hs
   skip
   refine Br.mkN (fun h=>h hc) ?_
   (repeat'((conv=>whnf);first|refine Zn ?_|fail))
   refine Br.mkY hs ?_
   by_cases hn:(valQ a).num<0
   ·obtain ⟨m,hm⟩:∃m:Nat,(valQ a).num= -(m:Int):=⟨(valQ a).num.natAbs,by omega⟩
    have hm9:m<1000000000:=by omega
    have t1:(valQ a).num.tdiv ((valQ a).den:Int)= -((m/(valQ a).den:Nat):Int):=by rw[hm,Int.neg_tdiv,Int.tdiv_eq_ediv_of_nonneg (by omega)];rfl
    have t2:(valQ a).num.tmod ((valQ a).den:Int)= -((m% (valQ a).den:Nat):Int):=by rw[hm,Int.neg_tmod,Int.tmod_eq_emod_of_nonneg (by omega)];rfl
    have q1:((m/(valQ a).den:Nat):Int)≤(m:Int):=Int.ofNat_le.2 (Nat.div_le_self _ _)
    have q0:(0:Int)≤((m/(valQ a).den:Nat):Int):=Int.natCast_nonneg _
    have q2:((m% (valQ a).den:Nat):Int)<((valQ a).den:Int):=Int.ofNat_lt.2 (Nat.mod_lt _ d1)
    have q3:(0:Int)≤((m% (valQ a).den:Nat):Int):=Int.natCast_nonneg _
    obtain ⟨x,hx⟩:∃x:Int,((m/(valQ a).den:Nat):Int)=x:=⟨_,rfl⟩
    obtain ⟨y,hy⟩:∃y:Int,((m% (valQ a).den:Nat):Int)=y:=⟨_,rfl⟩
    rw[hx] at t1 q1 q0
    rw[hy] at t2 q2 q3
    have b1: -1000000000<(valQ a).num.tdiv ((valQ a).den:Int)∧(valQ a).num.tdiv ((valQ a).den:Int)≤0:=by rw[t1];omega
    have b2: -1000000000<(valQ a).num.tmod ((valQ a).den:Int)∧(valQ a).num.tmod ((valQ a).den:Int)≤0:=by rw[t2];omega
    by_cases hr:m% (valQ a).den=0
    ·have hy0:y=0:=by rw[← hy,hr];rfl
     have ef:(valQ a).num/((valQ a).den:Int)=(valQ a).num.tdiv ((valQ a).den:Int):=by
      rw[t1,hm,Int.neg_ediv_of_dvd (Int.ofNat_dvd.2 (Nat.dvd_of_mod_eq_zero hr)),← hx,Int.natCast_ediv]
     (repeat'((conv=>whnf);first|refine Zb ?_|refine Zn ?_|fail))
     refine Br.mkN (show ¬(valQ a).num.tmod ((valQ a).den:Int)<0 by rw[t2];omega) ?_
     (repeat'((conv=>whnf);first|refine Zn ?_|fail))
     (conv=>whnf)
     (repeat'(first|exact trivial|rfl|refine And.intro ?_ ?_|fail))
     (conv=>whnf)
     rw[numS_div1,ef]
    ·have hy0:0<y:=by
      have:(0:Int)<((m% (valQ a).den:Nat):Int):=Int.natCast_pos.2 (Nat.pos_of_ne_zero hr)
      omega
     have ef:(valQ a).num/((valQ a).den:Int)=(valQ a).num.tdiv ((valQ a).den:Int)-1:=by
      rw[t1,hm,← hx]
      exact floor_neg d1 fun h=>hr (Nat.mod_eq_zero_of_dvd (Int.ofNat_dvd.1 h))
     (repeat'((conv=>whnf);first|refine Zb ?_|refine Zn ?_|fail))
     refine Br.mkY (show (valQ a).num.tmod ((valQ a).den:Int)<0 by rw[t2];omega) ?_
     (repeat'((conv=>whnf);first|refine Zn ?_|fail))
     (conv=>whnf)
     (repeat'(first|exact trivial|rfl|refine And.intro ?_ ?_|fail))
     (conv=>whnf)
     rw[numS_div1,ef]
   ·have t3:0≤(valQ a).num/((valQ a).den:Int):=Int.ediv_nonneg (by omega) (by omega)
    have t5:(valQ a).num/((valQ a).den:Int)≤(valQ a).num:=Int.ediv_le_self _ (by omega)
    have t4:0≤(valQ a).num% ((valQ a).den:Int):=Int.emod_nonneg _ (by omega)
    have t6:(valQ a).num% ((valQ a).den:Int)<((valQ a).den:Int):=Int.emod_lt_of_pos _ (by omega)
    (repeat'((conv=>whnf);first|refine Za ?_|fail))
    refine Br.mkN (by omega) ?_
    (repeat'((conv=>whnf);first|refine Zn ?_|fail))
    (conv=>whnf)
    (repeat'(first|exact trivial|rfl|refine And.intro ?_ ?_|fail))
    (conv=>whnf)
    exact numS_div1 _
  ·have hN:chkI (pn (valQ a))=0∧chkI (pd (valQ a))=0∧0<valI (pd (valQ a)):=⟨cn,cd,by rw[vd];omega⟩
   have lz:lim ((valQ a).num/((valQ a).den:Int))=false:=lim_le (Int.natAbs_ediv_le_natAbs _ _) ln
   have hM:(chkI (itoa (valI (pn (valQ a))/valI (pd (valQ a))))=0∧chkI [49]=0)∧valI [49]≠0:=by
    rw[vn,vd,one49.2]
    exact ⟨⟨chk_itoa lz,one49.1⟩,by decide⟩
   skip
   refine Br.mkN (fun h=>h hc) ?_
   (repeat'((conv=>whnf);first|refine Zn ?_|fail))
   refine Br.mkN hs ?_
   (repeat'((conv=>whnf);first|refine Zn ?_|refine Zm ?_|fail))
   (conv=>whnf)
   (repeat'(first|exact trivial|rfl|refine And.intro ?_ ?_|fail))
   (conv=>whnf)
   have e49:valI ([49]:List UInt8)=1:=one49.2
   show numS (Rat.divInt (valI (itoa (valI (pn (valQ a))/valI (pd (valQ a))))) (valI [49]))= _
   rw[e49,vn,vd,valI_itoa,numS_div1]
 ·have hf:flQ a=([],chkQ a):=by unfold flQ;rw[if_neg hc]
  rw[hf]
  skip
  refine Br.mkY hc ?_
  skip
  (conv=>whnf)
  (repeat'(first|exact trivial|rfl|refine And.intro ?_ ?_|fail))
def c30:Con:=mkCon 30 true fun args K=>match args with | [.str a]=>K (.tup [S (flQ a).1,I (flQ a).2]) | _=>False
theorem k30:ConOK Tryz.prog c30:=by
 refine conOK_of rfl (enters_of Tryz.func30 (by kernel_rfl) rfl) ?_
 intro args K h
 simp only[c30] at h
 split at h
 ·rename_i a;exact ⟨_,h,tri_of_body (Γ:=[c44,c70,c62,c65,c71g,c63]) (by simp[k44,k70,k62,k65,k71g,k63]) Tryz.func30 (by simp[Tryz.ntmps30]) rfl (b30 a)⟩
 ·exact h.elim
noncomputable def sumR:List UInt8→List (List UInt8)→List UInt8 × Int
 | s,[]=>(s,0)
 | s,a::r=>if (addQ s a).2≠0 then ([],(addQ s a).2) else sumR (addQ s a).1 r
noncomputable def chkL:List (List UInt8)→Int
 | []=>0
 | a::r=>if chkQ a≠0 then chkQ a else chkL r
noncomputable def sumQ (l:List (List UInt8)):List UInt8 × Int:=if 4096<l.length then ([],4) else if chkL l≠0 then ([],chkL l) else sumR [48] l
theorem drop_get {l:List (List UInt8)} {k:Nat} (h:k<l.length):l.drop k=l.getD k []::l.drop (k+1):=by
 rw[List.drop_eq_getElem_cons h]
 simp[List.getD_eq_getElem?_getD,h]
theorem lim_sz {n:Int} (h:lim n=false):n.natAbs<10^300:=by
 unfold lim at h
 exact dec_pow (k:=300) (by simpa using h)
theorem chk_add {p q:Rat} (h:(addf p q).2=0):chkQ (addf p q).1=0:=by
 unfold addf at h ⊢
 split at h
 ·exact absurd h (by decide)
 ·rename_i hl
  rw[if_neg hl]
  simp only[Bool.or_eq_true,not_or,Bool.not_eq_true] at hl
  obtain ⟨⟨⟨l1,l2⟩,l3⟩,l4⟩:=hl
  have h4:=lim_sz l4
  rw[← Int.natCast_mul,Int.natAbs_natCast] at h4
  have:Sz 300 (p+q):=by
   rw[add_parts]
   exact mk_sz (den_ne p q) (lim_sz l3) h4
  exact chk_sz this ⟨by decide,by decide⟩
theorem add_good {s a:List UInt8} (h:chkQ s=0∧chkQ a=0):addQ s a=addf (valQ s) (valQ a):=good_both h _
theorem chk48:chkQ [48]=0:=by
 rw[← numS0]
 exact chk_sz sz0 ⟨by decide,by decide⟩
theorem b28 (l:List (List UInt8)):body Tryz.prog [c44,c67] { asks:=[(0,[]),(2,[])] } true Tryz.f28 [.seq .str l] (.tup [S (sumQ l).1,I (sumQ l).2]):=by
 by_cases hl:4096<l.length
 ·have e:sumQ l=([],4):=by unfold sumQ;rw[if_pos hl]
  rw[e]
  (repeat'((conv=>whnf);first|refine Zg fun _=>?_|refine Zy ?_|fail))
  (conv=>whnf)
  (repeat'(first|exact trivial|rfl|refine And.intro ?_ ?_|fail))
 ·have e0:sumQ l=if chkL l≠0 then ([],chkL l) else sumR [48] l:=by unfold sumQ;rw[if_neg hl]
  (repeat'((conv=>whnf);first|refine Zg fun _=>?_|refine Zm ?_|fail))
  refine Ask.mk ⟨{ X:=Nat,pre:=fun i=>i≤l.length∧chkL (l.drop i)=chkL l∧(∀j,j<i→chkQ (l.getD j [])=0),mod:=fun i _=>[(4,I i)],heap:=fun i H=>H,mu:=fun i=>l.length-i },rfl,?_⟩
  (repeat'((conv=>whnf);first|refine Zn ?_|fail))
  refine ⟨⟨(0:Nat),⟨Nat.zero_le _,by rw[List.drop_zero],fun j hj=>by omega⟩,?_⟩,fun (i:Nat) hi=>?_⟩
  ·(repeat'(first|exact trivial|rfl|refine And.intro ?_ ?_|fail))
  obtain ⟨hi,hc,hall⟩:=hi
  by_cases hlt:i<l.length
  ·rw[drop_get hlt] at hc
   by_cases hk:chkQ (l.getD i [])=0
   ·(repeat'((conv=>whnf);first|refine Zg fun _=>?_|refine Zn ?_|refine Zj ?_|refine Zy ?_|refine Zm ?_|fail))
    refine ⟨(i+1:Nat),by show l.length-(i+1)<l.length-i;omega,⟨hlt,?_,fun j hj=>?_⟩,?_⟩
    ·rw[← hc]
     show _=if chkQ (l.getD i [])≠0 then _ else _
     rw[if_neg (fun h=>h hk)]
    ·rcases Nat.lt_succ_iff_lt_or_eq.1 hj with h1 | h1
     ·exact hall j h1
     ·subst h1;exact hk
    ·(repeat'(first|exact trivial|rfl|refine And.intro ?_ ?_|fail))
   ·have ec:chkL l=chkQ (l.getD i []):=by
     rw[← hc]
     show (if chkQ (l.getD i [])≠0 then _ else _)= _
     rw[if_pos hk]
    rw[ec,if_pos hk] at e0
    rw[e0]
    (repeat'((conv=>whnf);first|refine Zg fun _=>?_|refine Zn ?_|refine Zj ?_|refine Zy ?_|fail))
    (conv=>whnf)
    (repeat'(first|exact trivial|rfl|refine And.intro ?_ ?_|fail))
  ·have e:i=l.length:=by omega
   subst e
   have ec:chkL l=0:=by rw[← hc,List.drop_eq_nil_of_le (Nat.le_refl _)];rfl
   rw[ec,if_neg (by simp)] at e0
   (repeat'((conv=>whnf);first|refine Zg fun _=>?_|refine Zm ?_|fail))
   refine Ask.mk ⟨{ X:=Nat × List UInt8,pre:=fun z=>z.1≤l.length∧sumR z.2 (l.drop z.1)=sumR [48] l∧chkQ z.2=0,mod:=fun z _=>[(6,S z.2),(7,I z.1)],heap:=fun z H=>H,mu:=fun z=>l.length-z.1 },rfl,?_⟩
   (repeat'((conv=>whnf);first|refine Zn ?_|fail))
   refine ⟨⟨((0:Nat),[48]),⟨Nat.zero_le _,by rw[List.drop_zero],chk48⟩,?_⟩,fun (z:Nat × List UInt8) hz=>?_⟩
   ·(repeat'(first|exact trivial|rfl|refine And.intro ?_ ?_|fail))
   obtain ⟨hz1,hz2,hz3⟩:=hz
   by_cases hlt:z.1<l.length
   ·rw[drop_get hlt] at hz2
    have hck:chkQ z.2=0∧chkQ (l.getD z.1 [])=0:=⟨hz3,hall _ hlt⟩
    have ea:=add_good hck
    have hz2:(if (addQ z.2 (l.getD z.1 [])).2≠0 then ([],(addQ z.2 (l.getD z.1 [])).2) else sumR (addQ z.2 (l.getD z.1 [])).1 (l.drop (z.1+1)))=sumR [48] l:=hz2
    rw[ea] at hz2
    by_cases hk:(addf (valQ z.2) (valQ (l.getD z.1 []))).2=0
    ·rw[if_neg (fun h=>h hk)] at hz2
     (repeat'((conv=>whnf);first|refine Zg fun _=>?_|refine Zn ?_|refine Zj ?_|refine Zy ?_|refine Zm ?_|fail))
     refine ⟨(z.1+1,(addf (valQ z.2) (valQ (l.getD z.1 []))).1),by show l.length-(z.1+1)<l.length-z.1;omega,⟨hlt,hz2,chk_add hk⟩,?_⟩
     (repeat'(first|exact trivial|rfl|refine And.intro ?_ ?_|fail))
    ·rw[if_pos hk] at hz2
     rw[e0,← hz2]
     (repeat'((conv=>whnf);first|refine Zg fun _=>?_|refine Zn ?_|refine Zj ?_|refine Zy ?_|fail))
     (conv=>whnf)
     (repeat'(first|exact trivial|rfl|refine And.intro ?_ ?_|fail))
   ·have e:l.drop z.1= []:=List.drop_eq_nil_of_le (by omega)
    rw[e] at hz2
    have hz2:(z.2,(0:Int))=sumR [48] l:=hz2
    rw[e0,← hz2]
    (repeat'((conv=>whnf);first|refine Zg fun _=>?_|refine Zm ?_|fail))
    (conv=>whnf)
    (repeat'(first|exact trivial|rfl|refine And.intro ?_ ?_|fail))
def c28:Con:=mkCon 28 true fun args K=>match args with | [.seq .str l]=>K (.tup [S (sumQ l).1,I (sumQ l).2]) | _=>False
theorem k28:ConOK Tryz.prog c28:=by
 refine conOK_of rfl (enters_of Tryz.func28 (by kernel_rfl) rfl) ?_
 intro args K h
 simp only[c28] at h
 split at h
 ·rename_i l;exact ⟨_,h,tri_of_body (Γ:=[c44,c67]) (by simp[k44,k67]) Tryz.func28 (by simp[Tryz.ntmps28]) rfl (b28 l)⟩
 ·exact h.elim
noncomputable def stS (l:List (List UInt8)):Nat→List UInt8
 | 0=>[48]
 | k+1=>(addQ (stS l k) (l.getD k [])).1
noncomputable def cntS:List UInt8→List (List UInt8)→Nat
 | _,[]=>0
 | s,a::r=>if (addQ s a).2≠0 then 1 else cntS (addQ s a).1 r+1
noncomputable abbrev nS (l:List (List UInt8)):Nat:=cntS [48] l
noncomputable abbrev itSum (l:List (List UInt8)) (k:Nat):List SV:=[S (addQ (stS l k) (l.getD k [])).1,I (addQ (stS l k) (l.getD k [])).2]
theorem b66 (l:List (List UInt8)):body Tryz.prog [] {} false Tryz.f66 [.seq .str l] (.clo 102 [] [.lelem [.seq .str l] 0]):=by
 skip
 (conv=>whnf)
 (repeat'(first|exact trivial|rfl|refine And.intro ?_ ?_|fail))
def c66:Con:=mkCon 66 false fun args K=>match args with | [.seq .str l]=>K (.clo 102 [] [.lelem [.seq .str l] 0]) | _=>False
theorem k66:ConOK Tryz.prog c66:=by
 refine conOK_of rfl (enters_of Tryz.func66 (by kernel_rfl) rfl) ?_
 intro args K h
 simp only[c66] at h
 split at h
 ·rename_i l;exact ⟨_,h,tri_of_body (Γ:=[]) (by simp) Tryz.func66 (by simp[Tryz.ntmps66]) rfl (b66 l)⟩
 ·exact h.elim
theorem cnt_step {l:List (List UInt8)} {i:Nat} (hi:i<l.length):cntS (stS l i) (l.drop i)=if (addQ (stS l i) (l.getD i [])).2≠0 then 1 else cntS (stS l (i+1)) (l.drop (i+1))+1:=by
 rw[drop_get hi];rfl
theorem b102 (l:List (List UInt8)):bodyI Tryz.prog [c17] { asks:=[(0,[])] } Tryz.f102 [.lelem [.seq .str l] 0] (nS l) (itSum l):=by
 (repeat'((conv=>whnf);first|refine Zg fun _=>?_|fail))
 refine Ask.mk ⟨{ X:=Nat,pre:=fun i=>i≤l.length∧i+cntS (stS l i) (l.drop i)=nS l,mod:=fun i _=>[(3,S (stS l i)),(9,I i)],heap:=fun i _=>[.yst (some i) (nS l) (itSum l)],mu:=fun i=>l.length-i },rfl,?_⟩
 (repeat'((conv=>whnf);first|refine Zn ?_|fail))
 refine ⟨⟨(0:Nat),⟨Nat.zero_le _,by rw[List.drop_zero,Nat.zero_add];rfl⟩,by (repeat'(first|exact trivial|rfl|refine And.intro ?_ ?_|fail))⟩,fun (i:Nat) hi=>?_⟩
 obtain ⟨hi1,hi2⟩:=hi
 skip
 (refine Br.mk (fun _=>?_) (fun _=>?_))
 ·have hlt:i<l.length:=by omega
  rw[cnt_step hlt] at hi2
  have hlt2:i<nS l:=by
   split at hi2<;>omega
  (repeat'((conv=>whnf);first|refine Zn ?_|refine Zj ?_|fail))
  refine Need.mk (by (repeat'(first|exact trivial|rfl|refine And.intro ?_ ?_|fail))) ?_
  refine Two.mk ?_ ?_
  ·skip
   by_cases hk:(addQ (stS l i) (l.getD i [])).2=0
   ·rw[if_neg (fun h=>h hk)] at hi2
    refine Br.mkN (fun h=>h hk) ?_
    (repeat'((conv=>whnf);first|refine Zn ?_|fail))
    refine ⟨(i+1:Nat),by show l.length-(i+1)<l.length-i;omega,⟨hlt,by omega⟩,?_⟩
    (repeat'(first|exact trivial|rfl|refine And.intro ?_ ?_|fail))
   ·rw[if_pos hk] at hi2
    refine Br.mkY hk ?_
    skip
    (conv=>whnf)
    omega
  ·skip
   (conv=>whnf)
   trivial
 ·have e:i=l.length:=by omega
  subst e
  rw[List.drop_eq_nil_of_le (Nat.le_refl _)] at hi2
  skip
  (conv=>whnf)
  have:cntS (stS l l.length) []=0:=rfl
  omega
def c102:Con:=mkCon 102 false fun args K=>match args with | [.lelem [.seq .str l] 0]=>K (.itr (nS l) (itSum l)) | _=>False
theorem k102:ConOK Tryz.prog c102:=by
 refine conOK_of rfl (enters_of Tryz.func102 (by kernel_rfl) rfl) ?_
 intro args K h
 simp only[c102] at h
 split at h
 ·rename_i l;exact ⟨_,h,triI_of_body (Γ:=[c17]) (by simp[k17]) Tryz.func102 (by simp[Tryz.ntmps102]) (b102 l)⟩
 ·exact h.elim
theorem chkL_zero:∀ {l:List (List UInt8)},chkL l=0→∀k,k<l.length→chkQ (l.getD k [])=0
 | [],_,k,hk=>by simp at hk
 | a::r,h,k,hk=>by
  unfold chkL at h
  split at h
  ·rename_i h1;exact absurd h h1
  ·rename_i h1
   cases k with
   | zero=>exact Classical.not_not.1 h1
   | succ k=>exact chkL_zero h k (by simpa using hk)
set_option maxHeartbeats 2000000 in
theorem b27 (l:List (List UInt8)):body Tryz.prog [c21,c66,c102] { asks:=[(0,[]),(2,[])] } true Tryz.f27 [.seq .str l] (.tup [S (sumQ l).1,I (sumQ l).2]):=by
 by_cases hl:4096<l.length
 ·have e:sumQ l=([],4):=by unfold sumQ;rw[if_pos hl]
  rw[e]
  (repeat'((conv=>whnf);first|refine Zg fun _=>?_|refine Zy ?_|fail))
  (conv=>whnf)
  (repeat'(first|exact trivial|rfl|refine And.intro ?_ ?_|fail))
 ·have e0:sumQ l=if chkL l≠0 then ([],chkL l) else sumR [48] l:=by unfold sumQ;rw[if_neg hl]
  (repeat'((conv=>whnf);first|refine Zg fun _=>?_|refine Zm ?_|fail))
  refine Ask.mk ⟨{ X:=Nat,pre:=fun i=>i≤l.length∧chkL (l.drop i)=chkL l,mod:=fun i _=>[(15,I i)],heap:=fun i H=>H,mu:=fun i=>l.length-i },rfl,?_⟩
  (repeat'((conv=>whnf);first|refine Zn ?_|fail))
  refine ⟨⟨(0:Nat),⟨Nat.zero_le _,by rw[List.drop_zero]⟩,?_⟩,fun (i:Nat) hi=>?_⟩
  ·(repeat'(first|exact trivial|rfl|refine And.intro ?_ ?_|fail))
  obtain ⟨hi,hc⟩:=hi
  by_cases hlt:i<l.length
  ·rw[drop_get hlt] at hc
   by_cases hk:chkQ (l.getD i [])=0
   ·(repeat'((conv=>whnf);first|refine Zn ?_|refine Zj ?_|refine Zy ?_|refine Zm ?_|fail))
    refine ⟨(i+1:Nat),by show l.length-(i+1)<l.length-i;omega,⟨hlt,?_⟩,?_⟩
    ·rw[← hc]
     show _=if chkQ (l.getD i [])≠0 then _ else _
     rw[if_neg (fun h=>h hk)]
    ·(repeat'(first|exact trivial|rfl|refine And.intro ?_ ?_|fail))
   ·have ec:chkL l=chkQ (l.getD i []):=by
     rw[← hc]
     show (if chkQ (l.getD i [])≠0 then _ else _)= _
     rw[if_pos hk]
    rw[ec,if_pos hk] at e0
    rw[e0]
    (repeat'((conv=>whnf);first|refine Zn ?_|refine Zj ?_|refine Zy ?_|fail))
    (conv=>whnf)
    (repeat'(first|exact trivial|rfl|refine And.intro ?_ ?_|fail))
  ·have e:i=l.length:=by omega
   subst e
   have ec:chkL l=0:=by rw[← hc,List.drop_eq_nil_of_le (Nat.le_refl _)];rfl
   have hall:∀k,k<l.length→chkQ (l.getD k [])=0:=chkL_zero ec
   rw[ec,if_neg (by simp)] at e0
   (repeat'((conv=>whnf);first|refine Zm ?_|fail))
   refine Ask.mk ⟨{ X:=Nat,pre:=fun i=>i≤l.length∧i+cntS (stS l i) (l.drop i)=nS l∧sumR (stS l i) (l.drop i)=sumR [48] l,mod:=fun _ _=>[],heap:=fun i H=>[hget H 0,hget H 1,.cells [S (stS l i)] 22],mu:=fun i=>i },rfl,?_⟩
   (repeat'((conv=>whnf);first|refine Zn ?_|fail))
   refine ⟨⟨(0:Nat),rfl,⟨Nat.zero_le _,by rw[List.drop_zero,Nat.zero_add];rfl,by rw[List.drop_zero];rfl⟩,by (repeat'(first|exact trivial|rfl|refine And.intro ?_ ?_|fail))⟩,fun (i:Nat) hi (hlt:i<nS l)=>?_,fun (i:Nat) hi (he:i=nS l)=>?_⟩
   ·obtain ⟨hi1,hi2,hi3⟩:=hi
    have hli:i<l.length:=by
     refine Nat.lt_of_not_le fun h=>?_
     have e:i=l.length:=by omega
     rw[e,List.drop_eq_nil_of_le (Nat.le_refl _)] at hi2
     have:cntS (stS l l.length) []=0:=rfl
     omega
    rw[cnt_step hli] at hi2
    rw[drop_get hli] at hi3
    have hi3:(if (addQ (stS l i) (l.getD i [])).2≠0 then ([],(addQ (stS l i) (l.getD i [])).2) else sumR (stS l (i+1)) (l.drop (i+1)))=sumR [48] l:=hi3
    show hnfL (itSum l i) _
    by_cases hk:(addQ (stS l i) (l.getD i [])).2=0
    ·rw[if_neg (fun h=>h hk)] at hi2 hi3
     (repeat'((conv=>whnf);first|refine Zg fun _=>?_|fail))
     refine Br.mkN (fun h=>h hk) ?_
     skip
     refine ⟨(i+1:Nat),rfl,⟨hli,by omega,hi3⟩,by (repeat'(first|exact trivial|rfl|refine And.intro ?_ ?_|fail))⟩
    ·rw[if_pos hk] at hi3
     rw[e0,← hi3]
     (repeat'((conv=>whnf);first|refine Zg fun _=>?_|fail))
     refine Br.mkY hk ?_
     skip
     (conv=>whnf)
     (repeat'(first|exact trivial|rfl|refine And.intro ?_ ?_|fail))
   ·obtain ⟨hi1,hi2,hi3⟩:=hi
    have hc0:cntS (stS l i) (l.drop i)=0:=by omega
    have hli:i=l.length:=by
     refine Nat.le_antisymm hi1 (Nat.le_of_not_lt fun h=>?_)
     rw[cnt_step h] at hc0
     split at hc0<;>omega
    rw[hli,List.drop_eq_nil_of_le (Nat.le_refl _)] at hi3
    have hi3:(stS l l.length,(0:Int))=sumR [48] l:=hi3
    rw[e0,← hi3,← hli]
    skip
    (conv=>whnf)
    (repeat'(first|exact trivial|rfl|refine And.intro ?_ ?_|fail))
def c27:Con:=mkCon 27 true fun args K=>match args with | [.seq .str l]=>K (.tup [S (sumQ l).1,I (sumQ l).2]) | _=>False
theorem k27:ConOK Tryz.prog c27:=by
 refine conOK_of rfl (enters_of Tryz.func27 (by kernel_rfl) rfl) ?_
 intro args K h
 simp only[c27] at h
 split at h
 ·rename_i l;exact ⟨_,h,tri_of_body (Γ:=[c21,c66,c102]) (by simp[k21,k66,k102]) Tryz.func27 (by simp[Tryz.ntmps27]) rfl (b27 l)⟩
 ·exact h.elim
end RB
end
section
set_option linter.unusedVariables false
open Go Go.Proofs Go.Eng Go.Shelf IB Go.Lib Go.RowKit
namespace RB
set_option maxRecDepth 10000
set_option linter.unusedVariables false
set_option linter.unusedSimpArgs false
set_option maxHeartbeats 8000000 in
theorem b6 (n d:Int) (a:List UInt8) (l:List (List UInt8)) (hn: -9223372036854775808≤n∧n≤9223372036854775807) (hd: -9223372036854775808≤d∧d≤9223372036854775807):body Tryz.prog [c23,c24,c12,c22,c25,c13,c26,c27,c28,c29,c30,c31,c32] {} true Tryz.f6 [I n,I d,S a,.seq .str l] (.val (.bool true)):=by
 have hN:(-9223372036854775808≤n∧n≤9223372036854775807)∧(-9223372036854775808≤d∧d≤9223372036854775807):=⟨hn,hd⟩
 by_cases hl:longS a∨longL l
 ·skip
  by_cases h1:longS a
  ·refine Br.mkY h1 ?_
   skip
   (conv=>whnf)
   skip
  ·refine Br.mkN h1 ?_
   skip
   refine Br.mkY (hl.elim (fun h=>absurd h h1) id) ?_
   skip
   (conv=>whnf)
   skip
 ·skip
  refine Br.mkN (fun h=>hl (.inl h)) ?_
  skip
  refine Br.mkN (fun h=>hl (.inr h)) ?_
  (repeat'((conv=>whnf);first|refine Zn ?_|fail))
  repeat (first | (refine Br.mkY rfl ?_;skip) | (refine Br.mkN (fun h=>h rfl) ?_;skip))
  (conv=>whnf)
  skip
theorem t6 (n d:Int) (a:List UInt8) (l:List (List UInt8)) (h1:inK .i64 n) (h2:inK .i64 d) (_:a.length≤maxL) (_:Okd (.slice .str) l):Tri Tryz.prog true 6 [I n,I d,S a,.seq .str l] (.val (.bool true)):=
 tri_of_body (Γ:=[c23,c24,c12,c22,c25,c13,c26,c27,c28,c29,c30,c31,c32]) (by simp[k23,k24,k12,k22,k25,k13,k26,k27,k28,k29,k30,k31,k32]) Tryz.func6 (by simp[Tryz.ntmps6]) rfl (b6 n d a l h1 h2)
end RB
end

/-
  Part 7: a symbolic executor over the model, contracts of functions and plain laws.
-/
import Derived.Test.YtdfefbfaoffcbaaGreatDoorP6
section
open Go Go.Proofs Go.Eng Go.Shelf IB Go.Lib Go.RowKit
namespace RB
set_option maxRecDepth 10000
set_option linter.unusedVariables false
set_option linter.unusedSimpArgs false
theorem resI_no {n:Int} (h:lim n=true):resI n=([],4):=by unfold resI;rw[if_pos h]
theorem resI_ok {n:Int} (h:lim n=false):resI n=(itoa n,0):=by unfold resI;rw[if_neg (by rw[h];decide)]
theorem b80 (n d m c:List UInt8) (h:ok4 n m d c) (h0:valI d*valI c≠0):(∀hl:lim (valI n*valI m)=true∨lim (valI d*valI c)=true,body Tryz.prog [c81,c63] {} true Tryz.f80 [S n,S d,S m,S c] (.tup [S [],I 4]))∧(∀hl:¬(lim (valI n*valI m)=true∨lim (valI d*valI c)=true),body Tryz.prog [c81,c63] {} true Tryz.f80 [S n,S d,S m,S c] (.tup [S (numS (Rat.divInt (valI n*valI m) (valI d*valI c))),I 0])):=by
 refine ⟨fun hl=>?_,fun hl=>?_⟩
 ·by_cases h1:lim (valI n*valI m)=true
  ·(repeat'((conv=>whnf);first|refine Zn ?_|fail))
   refine Br.mkY h1 ?_
   (repeat'((conv=>whnf);first|refine Zy ?_|fail))
   (conv=>whnf)
   (repeat'(first|exact trivial|rfl|refine And.intro ?_ ?_|fail))
  ·have h2:lim (valI d*valI c)=true:=hl.elim (fun h=>absurd h h1) id
   (repeat'((conv=>whnf);first|refine Zn ?_|fail))
   refine Br.mkN h1 ?_
   skip
   refine Br.mkY (show ¬(resI (valI d*valI c)).2=0 by rw[resI_no h2];decide) ?_
   skip
   (conv=>whnf)
   (repeat'(first|exact trivial|rfl|refine And.intro ?_ ?_|fail))
   (conv=>whnf)
   rw[resI_no h2]
 ·have h1:lim (valI n*valI m)=false:=by
   cases h:lim (valI n*valI m) with
   | true=>exact absurd (.inl h) hl
   | false=>rfl
  have h2:lim (valI d*valI c)=false:=by
   cases h:lim (valI d*valI c) with
   | true=>exact absurd (.inr h) hl
   | false=>rfl
  have e2:=resI_ok h2
  have n1:(chkI (itoa (valI n*valI m))=0∧chkI (resI (valI d*valI c)).1=0)∧valI (resI (valI d*valI c)).1≠0:=by
   rw[e2]
   exact ⟨⟨chk_itoa h1,chk_itoa h2⟩,by rw[valI_itoa];exact h0⟩
  (repeat'((conv=>whnf);first|refine Zn ?_|fail))
  refine Br.mkN (by rw[h1];decide) ?_
  skip
  refine Br.mkN (show ¬ ¬(resI (valI d*valI c)).2=0 by rw[e2];simp) ?_
  (repeat'((conv=>whnf);first|refine Zn ?_|fail))
  (conv=>whnf)
  (repeat'(first|exact trivial|rfl|refine And.intro ?_ ?_|fail))
  (conv=>whnf)
  rw[e2,valI_itoa,valI_itoa]
def c80:Con:=mkCon 80 true fun args K=>match args with
 | [.str n,.str d,.str m,.str c]=>Need (ok4 n m d c∧valI d*valI c≠0) (Br (lim (valI n*valI m)=true∨lim (valI d*valI c)=true) (K (.tup [S [],I 4])) (K (.tup [S (numS (Rat.divInt (valI n*valI m) (valI d*valI c))),I 0])))
 | _=>False
theorem k80:ConOK Tryz.prog c80:=by
 refine conOK_of rfl (enters_of Tryz.func80 (by kernel_rfl) rfl) ?_
 intro args K h
 simp only[c80] at h
 split at h
 ·rename_i n d m c
  have hb:=b80 n d m c h.ok.1 h.ok.2
  by_cases hl:lim (valI n*valI m)=true∨lim (valI d*valI c)=true
  ·exact ⟨_,h.go.yes hl,tri_of_body (Γ:=[c81,c63]) (by simp[k81,k63]) Tryz.func80 (by simp[Tryz.ntmps80]) rfl (hb.1 hl)⟩
  ·exact ⟨_,h.go.no hl,tri_of_body (Γ:=[c81,c63]) (by simp[k81,k63]) Tryz.func80 (by simp[Tryz.ntmps80]) rfl (hb.2 hl)⟩
 ·exact h.elim
theorem mul9 {x y:Int} (hx:x.natAbs<1000000000) (hy:y.natAbs<1000000000): -1000000000000000000<x*y∧x*y<1000000000000000000:=by
 have h:=Int.natAbs_mul x y
 have h1:x.natAbs*y.natAbs<1000000000*1000000000:=Nat.mul_lt_mul'' hx hy
 omega
theorem chk_pn {q:Rat} (h:Sz 300 q):chkI (pn q)=0∧valI (pn q)=q.num∧lim q.num=false:=by
 have h1:lim q.num=false:=by
  unfold lim
  have:=h.digs.1
  simp;omega
 exact ⟨chk_itoa h1,val_pn q,h1⟩
theorem chk_pd {q:Rat} (h:Sz 300 q):chkI (pd q)=0∧valI (pd q)=q.den:=by
 have:=chk_dec h.digs.2
 exact ⟨this.2.1,this.2.2⟩
theorem one49:chkI [49]=0∧valI [49]=1:=by
 have e:([49]:List UInt8)=itoa 1:=(itoa1 (n:=1) (by decide)).symm
 rw[e,valI_itoa]
 exact ⟨chk_itoa (lim_small (by decide)),rfl⟩
theorem add_div (p q:Rat):Rat.divInt (p.num*q.den+q.num*p.den) (p.den*q.den)=p+q:=by
 rw[add_parts,← Int.natCast_mul,Rat.divInt_ofNat]
theorem addf_ok {p q:Rat} (l1:lim (p.num*q.den)=false) (l2:lim (q.num*p.den)=false) (l3:lim (p.num*q.den+q.num*p.den)=false) (l4:lim (p.den*q.den)=false):addf p q=(numS (p+q),0):=by
 unfold addf
 rw[if_neg (by simp[l1,l2,l3,l4])]
theorem lim_cases (n:Int):lim n=true∨lim n=false:=by cases lim n<;>simp
set_option maxHeartbeats 8000000 in
theorem b67 (a b:List UInt8) (h:chkQ a=0∧chkQ b=0):body Tryz.prog [c70,c62,c65,c81,c103,c63] {} true Tryz.f67 [S a,S b] (.tup [S (addf (valQ a) (valQ b)).1,I (addf (valQ a) (valQ b)).2]):=by
 obtain ⟨ha,hb⟩:=h
 have hp:=(chk_num ha).2
 have hq:=(chk_num hb).2
 obtain ⟨cn1,vn1,ln1⟩:=chk_pn hp
 obtain ⟨cn2,vn2,ln2⟩:=chk_pn hq
 obtain ⟨cd1,vd1⟩:=chk_pd hp
 obtain ⟨cd2,vd2⟩:=chk_pd hq
 have d1:=(valQ a).den_pos
 have d2:=(valQ b).den_pos
 by_cases hs:smR (valQ a)∧smR (valQ b)
 ·have s1:=smR_lt hs.1
  have s2:=smR_lt hs.2
  have m1:=mul9 (x:=(valQ a).num) (y:=((valQ b).den:Int)) s1.1 (by omega)
  have m2:=mul9 (x:=(valQ b).num) (y:=((valQ a).den:Int)) s2.1 (by omega)
  have m3:=mul9 (x:=((valQ a).den:Int)) (y:=((valQ b).den:Int)) (by omega) (by omega)
  have m4:0<((valQ a).den:Int)*((valQ b).den:Int):=Int.mul_pos (by omega) (by omega)
  have ea:=addf_ok (p:=valQ a) (q:=valQ b) (lim_small (by omega)) (lim_small (by omega)) (lim_small (by omega)) (lim_small (by omega))
  (repeat'((conv=>whnf);first|refine Zn ?_|fail))
  refine Br.mkY hs.1 ?_
  (repeat'((conv=>whnf);first|refine Zn ?_|fail))
  refine Br.mkY hs.2 ?_
  (repeat'((conv=>whnf);first|refine Zn ?_|fail))
  (conv=>whnf)
  (repeat'(first|exact trivial|rfl|refine And.intro ?_ ?_|fail))
  ·(conv=>whnf)
   rw[ea,← add_div]
  ·(conv=>whnf)
   rw[ea]
 ·have n4:ok4 (pn (valQ a)) (pd (valQ b)) (pn (valQ b)) (pd (valQ a)):=⟨⟨cn1,cd2⟩,cn2,cd1⟩
  have n5:ok4 (pd (valQ a)) (pd (valQ b)) [49] [49]:=⟨⟨cd1,cd2⟩,one49.1,one49.1⟩
  have hcase:(¬smR (valQ a)∧smR (valQ b))∨(¬smR (valQ a)∧¬smR (valQ b))∨(smR (valQ a)∧¬smR (valQ b)):=by
   by_cases h1:smR (valQ a)
   ·exact .inr (.inr ⟨h1,fun h2=>hs ⟨h1,h2⟩⟩)
   ·by_cases h2:smR (valQ b)
    ·exact .inl ⟨h1,h2⟩
    ·exact .inr (.inl ⟨h1,h2⟩)
  rcases hcase with ⟨h1,h2⟩ | ⟨h1,h2⟩ | ⟨h1,h2⟩
  all_goals (repeat'((conv=>whnf);first|refine Zn ?_|fail))
  all_goals first | refine Br.mkN h1 ?_ | refine Br.mkY h1 ?_
  all_goals (repeat'((conv=>whnf);first|refine Zn ?_|fail))
  all_goals first | refine Br.mkN h2 ?_ | refine Br.mkY h2 ?_
  all_goals (repeat'((conv=>whnf);first|refine Zn ?_|fail))
  all_goals
   rcases lim_cases ((valQ a).num*((valQ b).den:Int)) with l1 | l1
   ·have ea:addf (valQ a) (valQ b)=([],4):=by unfold addf;rw[if_pos (by simp[l1])]
    rw[ea]
    refine Br.mkY (show lim (valI (pn (valQ a))*valI (pd (valQ b)))=true by rw[vn1,vd2];exact l1) ?_
    (repeat'((conv=>whnf);first|refine Zy ?_|fail))
    (conv=>whnf)
    (repeat'(first|exact trivial|rfl|refine And.intro ?_ ?_|fail))
   ·refine Br.mkN (show ¬lim (valI (pn (valQ a))*valI (pd (valQ b)))=true by rw[vn1,vd2,l1];decide) ?_
    skip
    rcases lim_cases ((valQ b).num*((valQ a).den:Int)) with l2 | l2
    ·have ea:addf (valQ a) (valQ b)=([],4):=by unfold addf;rw[if_pos (by simp[l2])]
     have e4:resI (valI (pn (valQ b))*valI (pd (valQ a)))=([],4):=by rw[vn2,vd1];exact resI_no l2
     refine Br.mkY (show ¬(resI (valI (pn (valQ b))*valI (pd (valQ a)))).2=0 by rw[e4];decide) ?_
     skip
     (conv=>whnf)
     (repeat'(first|exact trivial|rfl|refine And.intro ?_ ?_|fail))
     ·(conv=>whnf)
      rw[ea]
     ·(conv=>whnf)
      rw[ea,e4]
    ·have e4:resI (valI (pn (valQ b))*valI (pd (valQ a)))=(itoa ((valQ b).num*((valQ a).den:Int)),0):=by rw[vn2,vd1];exact resI_ok l2
     refine Br.mkN (show ¬ ¬(resI (valI (pn (valQ b))*valI (pd (valQ a)))).2=0 by rw[e4];simp) ?_
     (repeat'((conv=>whnf);first|refine Zn ?_|fail))
     rcases lim_cases (((valQ a).den:Int)*((valQ b).den:Int)) with l4 | l4
     ·have ea:addf (valQ a) (valQ b)=([],4):=by unfold addf;rw[if_pos (by simp[l4])]
      refine Br.mkY (show lim (valI (pd (valQ a))*valI (pd (valQ b)))=true by rw[vd1,vd2];exact l4) ?_
      (repeat'((conv=>whnf);first|refine Zy ?_|fail))
      (conv=>whnf)
      (repeat'(first|exact trivial|rfl|refine And.intro ?_ ?_|fail))
      ·(conv=>whnf)
       rw[ea]
      ·(conv=>whnf)
       rw[ea]
     ·refine Br.mkN (show ¬lim (valI (pd (valQ a))*valI (pd (valQ b)))=true by rw[vd1,vd2,l4];decide) ?_
      have e49:resI (valI [49]*valI [49])=([49],0):=by
       rw[one49.2,resI_ok (lim_small (by decide))]
       exact congrArg (fun z=>(z,(0:Int))) (itoa1 (n:=1) (by decide))
      skip
      refine Br.mkN (show ¬ ¬(resI (valI [49]*valI [49])).2=0 by rw[e49];simp) ?_
      skip
      refine Br.mkN (show ¬ ¬(resI (valI [49]*valI [49])).1= [49] by rw[e49];simp) ?_
      skip
      have e6:bothI (itoa (valI (pn (valQ a))*valI (pd (valQ b)))) (resI (valI (pn (valQ b))*valI (pd (valQ a)))).1 (resI (valI (itoa (valI (pn (valQ a))*valI (pd (valQ b))))+valI (resI (valI (pn (valQ b))*valI (pd (valQ a)))).1))=resI ((valQ a).num*((valQ b).den:Int)+(valQ b).num*((valQ a).den:Int)):=by
       rw[e4,vn1,vd2,valI_itoa,valI_itoa]
       exact both_ok (chk_itoa l1) (chk_itoa l2) _
      rcases lim_cases ((valQ a).num*((valQ b).den:Int)+(valQ b).num*((valQ a).den:Int)) with l3 | l3
      ·have ea:addf (valQ a) (valQ b)=([],4):=by unfold addf;rw[if_pos (by simp[l3])]
       rw[resI_no l3] at e6
       refine Br.mkY (show ¬(bothI (itoa (valI (pn (valQ a))*valI (pd (valQ b)))) (resI (valI (pn (valQ b))*valI (pd (valQ a)))).1 (resI (valI (itoa (valI (pn (valQ a))*valI (pd (valQ b))))+valI (resI (valI (pn (valQ b))*valI (pd (valQ a)))).1))).2=0 by rw[e6];decide) ?_
       skip
       (conv=>whnf)
       (repeat'(first|exact trivial|rfl|refine And.intro ?_ ?_|fail))
       ·(conv=>whnf)
        rw[ea]
       ·(conv=>whnf)
        rw[ea,e6]
      ·have ea:=addf_ok l1 l2 l3 l4
       rw[resI_ok l3] at e6
       have m1:(chkI (bothI (itoa (valI (pn (valQ a))*valI (pd (valQ b)))) (resI (valI (pn (valQ b))*valI (pd (valQ a)))).1 (resI (valI (itoa (valI (pn (valQ a))*valI (pd (valQ b))))+valI (resI (valI (pn (valQ b))*valI (pd (valQ a)))).1))).1=0∧chkI (itoa (valI (pd (valQ a))*valI (pd (valQ b))))=0)∧valI (itoa (valI (pd (valQ a))*valI (pd (valQ b))))≠0:=by
        rw[e6,vd1,vd2,valI_itoa]
        exact ⟨⟨chk_itoa l3,chk_itoa l4⟩,Int.mul_ne_zero (by omega) (by omega)⟩
       refine Br.mkN (show ¬ ¬(bothI (itoa (valI (pn (valQ a))*valI (pd (valQ b)))) (resI (valI (pn (valQ b))*valI (pd (valQ a)))).1 (resI (valI (itoa (valI (pn (valQ a))*valI (pd (valQ b))))+valI (resI (valI (pn (valQ b))*valI (pd (valQ a)))).1))).2=0 by rw[e6];simp) ?_
       (repeat'((conv=>whnf);first|refine Zn ?_|fail))
       (conv=>whnf)
       (repeat'(first|exact trivial|rfl|refine And.intro ?_ ?_|fail))
       ·(conv=>whnf)
        rw[ea,e6,vd1,vd2,valI_itoa,valI_itoa,add_div]
       ·(conv=>whnf)
        rw[ea]
def c67:Con:=mkCon 67 true fun args K=>match args with
 | [.str a,.str b]=>Need (chkQ a=0∧chkQ b=0) (K (.tup [S (addf (valQ a) (valQ b)).1,I (addf (valQ a) (valQ b)).2]))
 | _=>False
theorem k67:ConOK Tryz.prog c67:=by
 refine conOK_of rfl (enters_of Tryz.func67 (by kernel_rfl) rfl) ?_
 intro args K h
 simp only[c67] at h
 split at h
 ·rename_i a b
  exact ⟨_,h.go,tri_of_body (Γ:=[c70,c62,c65,c81,c103,c63]) (by simp[k70,k62,k65,k81,k103,k63]) Tryz.func67 (by simp[Tryz.ntmps67]) rfl (b67 a b h.ok)⟩
 ·exact h.elim
theorem bad2 {a b:List UInt8} (h:chkB a b≠0) (f:Rat→Rat→List UInt8 × Int):bothQ a b f=([],chkB a b):=by
 unfold bothQ chkB at*
 by_cases h1:chkQ a≠0
 ·rw[if_pos h1,if_pos h1]
 ·rw[if_neg h1] at h ⊢
  rw[if_pos h,if_neg h1]
theorem good2 {a b:List UInt8} (h:¬chkB a b≠0):chkQ a=0∧chkQ b=0:=by
 unfold chkB at h
 by_cases h1:chkQ a≠0
 ·rw[if_pos h1] at h;exact absurd h1 h
 ·rw[if_neg h1] at h
  exact ⟨Classical.not_not.1 h1,Classical.not_not.1 h⟩
theorem good_both {a b:List UInt8} (h:chkQ a=0∧chkQ b=0) (f:Rat→Rat→List UInt8 × Int):bothQ a b f=f (valQ a) (valQ b):=by
 unfold bothQ
 rw[if_neg (by rw[h.1];simp),if_neg (by rw[h.2];simp)]
theorem b39 (a b:List UInt8):body Tryz.prog [c78,c67] {} true Tryz.f39 [S a,S b] (.tup [S (addQ a b).1,I (addQ a b).2]):=by
 skip
 (refine Br.mk (fun _=>?_) (fun _=>?_))
 ·rename_i h
  have e:addQ a b=([],chkB a b):=bad2 h _
  rw[e]
  skip
  (conv=>whnf)
  (repeat'(first|exact trivial|rfl|refine And.intro ?_ ?_|fail))
 ·rename_i h
  have e:addQ a b=addf (valQ a) (valQ b):=good_both (good2 h) _
  rw[e]
  skip
  refine Need.mk (good2 h) ?_
  skip
  (conv=>whnf)
  (repeat'(first|exact trivial|rfl|refine And.intro ?_ ?_|fail))
def c39:Con:=mkCon 39 true fun args K=>match args with | [.str a,.str b]=>K (.tup [S (addQ a b).1,I (addQ a b).2]) | _=>False
theorem k39:ConOK Tryz.prog c39:=by
 refine conOK_of rfl (enters_of Tryz.func39 (by kernel_rfl) rfl) ?_
 intro args K h
 simp only[c39] at h
 split at h
 ·rename_i a b;exact ⟨_,h,tri_of_body (Γ:=[c78,c67]) (by simp[k78,k67]) Tryz.func39 (by simp[Tryz.ntmps39]) rfl (b39 a b)⟩
 ·exact h.elim
theorem num_neg (q:Rat):(-q).num= -q.num∧(-q).den=q.den:=⟨rfl,rfl⟩
theorem numS_neg (q:Rat):numS (-q)=if q.num<0 then (numS q).drop 1 else if q=0 then numS q else 45::numS q:=by
 unfold numS
 rw[(num_neg q).1,(num_neg q).2]
 by_cases h1:q.num<0
 ·rw[if_pos h1,← drop_itoa h1]
  split
  ·rfl
  ·rw[List.drop_append_of_le_length itoa_pos]
 ·rw[if_neg h1]
  by_cases h0:q=0
  ·rw[if_pos h0,h0];rfl
  ·rw[if_neg h0]
   have h2:0<q.num:=by
    have:q.num≠0:=fun e=>h0 (Rat.num_eq_zero.1 e)
    omega
   rw[← neg_itoa h2]
   split<;>rfl
theorem numS_48 (q:Rat):numS q= [48]↔q=0:=⟨fun h=>numS_inj (h.trans numS0.symm),fun h=>by rw[h];exact numS0⟩
theorem numS_len {q:Rat} (h:Sz 300 q):(numS q).length≤602:=by
 have h1:=h.digs
 have h2:(itoa q.num).length≤301:=by
  rw[itoa_cases];split
  ·rw[List.length_cons];omega
  ·omega
 unfold numS
 split
 ·omega
 ·rw[List.length_append,List.length_cons];omega
theorem b79 (q:Rat) (hq:Sz 300 q):body Tryz.prog [] {} true Tryz.f79 [S (numS q)] (S (numS (-q))):=by
 have hl:=numS_len hq
 have h0:=List.length_pos_iff.2 (numS_ne q)
 rw[numS_neg]
 skip
 by_cases hz:q=0
 ·refine Br.mkY ((numS_48 q).2 hz) ?_
  skip
  (conv=>whnf)
  skip
  (conv=>whnf)
  rw[if_neg (by rw[hz];decide),if_pos hz]
 ·refine Br.mkN (fun h=>hz ((numS_48 q).1 h)) ?_
  (repeat'((conv=>whnf);first|refine Zg fun _=>?_|refine Zn ?_|refine Z0 ?_|fail))
  by_cases hn:q.num<0
  ·refine Br.mkY ((numS_head q).2 ((lt0 q).2 hn)) ?_
   (repeat'((conv=>whnf);first|refine Zn ?_|refine Z1 ?_|fail))
   (conv=>whnf)
   skip
   (conv=>whnf)
   rw[if_pos hn]
  ·refine Br.mkN (fun h=>hn ((lt0 q).1 ((numS_head q).1 h))) ?_
   (repeat'((conv=>whnf);first|refine Zn ?_|fail))
   (conv=>whnf)
   skip
   (conv=>whnf)
   rw[if_neg hn,if_neg hz];rfl
def c79:Con:=mkCon 79 true fun args K=>match args with | [.str s]=>Need (chkQ s=0) (K (S (numS (-valQ s)))) | _=>False
theorem k79:ConOK Tryz.prog c79:=by
 refine conOK_of rfl (enters_of Tryz.func79 (by kernel_rfl) rfl) ?_
 intro args K h
 simp only[c79] at h
 split at h
 ·rename_i s
  obtain ⟨e,hq⟩:=chk_num h.ok
  refine ⟨_,h.go,?_⟩
  have ht:=tri_of_body (Γ:=[]) (by simp) Tryz.func79 (by simp[Tryz.ntmps79]) rfl (b79 (valQ s) hq)
  rw[← e] at ht
  exact ht
 ·exact h.elim
theorem sub_add (p q:Rat):addf p (-q)=subf p q:=by
 unfold addf subf
 rw[(num_neg q).1,(num_neg q).2,Int.neg_mul,lim_neg,← Int.sub_eq_add_neg,Rat.sub_eq_add_neg]
theorem b40 (a b:List UInt8):body Tryz.prog [c78,c79,c67] {} true Tryz.f40 [S a,S b] (.tup [S (subQ a b).1,I (subQ a b).2]):=by
 skip
 (refine Br.mk (fun _=>?_) (fun _=>?_))
 ·rename_i h
  have e:subQ a b=([],chkB a b):=bad2 h _
  rw[e]
  skip
  (conv=>whnf)
  (repeat'(first|exact trivial|rfl|refine And.intro ?_ ?_|fail))
 ·rename_i h
  obtain ⟨ha,hb⟩:=good2 h
  have e:subQ a b=addf (valQ a) (valQ (numS (-valQ b))):=by
   rw[valQ_numS,sub_add]
   exact good_both (good2 h) _
  have hs:Sz 300 (-valQ b):=by
   have:=(chk_num hb).2
   exact ⟨by rw[(num_neg _).1,Int.natAbs_neg];exact this.1,this.2⟩
  have hc:chkQ a=0∧chkQ (numS (-valQ b))=0:=⟨ha,chk_sz hs ⟨by decide,by decide⟩⟩
  rw[e]
  (repeat'((conv=>whnf);first|refine Zn ?_|fail))
  (conv=>whnf)
  (repeat'(first|exact trivial|rfl|refine And.intro ?_ ?_|fail))
def c40:Con:=mkCon 40 true fun args K=>match args with | [.str a,.str b]=>K (.tup [S (subQ a b).1,I (subQ a b).2]) | _=>False
theorem k40:ConOK Tryz.prog c40:=by
 refine conOK_of rfl (enters_of Tryz.func40 (by kernel_rfl) rfl) ?_
 intro args K h
 simp only[c40] at h
 split at h
 ·rename_i a b;exact ⟨_,h,tri_of_body (Γ:=[c78,c79,c67]) (by simp[k78,k79,k67]) Tryz.func40 (by simp[Tryz.ntmps40]) rfl (b40 a b)⟩
 ·exact h.elim
theorem three_cases {p q:Prop} (hs:¬(p∧q)):(¬p∧q)∨(¬p∧¬q)∨(p∧¬q):=by
 by_cases h1:p
 ·exact .inr (.inr ⟨h1,fun h2=>hs ⟨h1,h2⟩⟩)
 ·by_cases h2:q
  ·exact .inl ⟨h1,h2⟩
  ·exact .inr (.inl ⟨h1,h2⟩)
theorem mulf_ok {p q:Rat} (l1:lim (p.num*q.num)=false) (l2:lim (p.den*q.den)=false):mulf p q=(numS (p*q),0):=by
 unfold mulf
 rw[if_neg (by simp[l1,l2])]
theorem mul_div (p q:Rat):Rat.divInt (p.num*q.num) (p.den*q.den)=p*q:=by
 rw[mul_parts,← Int.natCast_mul,Rat.divInt_ofNat]
set_option maxHeartbeats 8000000 in
theorem b41g (a b:List UInt8) (ha:chkQ a=0) (hb:chkQ b=0):body Tryz.prog [c78,c70,c62,c65,c80] {} true Tryz.f41 [S a,S b] (.tup [S (mulf (valQ a) (valQ b)).1,I (mulf (valQ a) (valQ b)).2]):=by
 have hp:=(chk_num ha).2
 have hq:=(chk_num hb).2
 obtain ⟨cn1,vn1,ln1⟩:=chk_pn hp
 obtain ⟨cn2,vn2,ln2⟩:=chk_pn hq
 obtain ⟨cd1,vd1⟩:=chk_pd hp
 obtain ⟨cd2,vd2⟩:=chk_pd hq
 have d1:=(valQ a).den_pos
 have d2:=(valQ b).den_pos
 have hc:¬chkB a b≠0:=by unfold chkB;rw[if_neg (by rw[ha];simp),hb];simp
 by_cases hs:smR (valQ a)∧smR (valQ b)
 ·have s1:=smR_lt hs.1
  have s2:=smR_lt hs.2
  have m1:=mul9 (x:=(valQ a).num) (y:=(valQ b).num) s1.1 s2.1
  have m3:=mul9 (x:=((valQ a).den:Int)) (y:=((valQ b).den:Int)) (by omega) (by omega)
  have m4:0<((valQ a).den:Int)*((valQ b).den:Int):=Int.mul_pos (by omega) (by omega)
  have ea:=mulf_ok (p:=valQ a) (q:=valQ b) (lim_small (by omega)) (lim_small (by omega))
  skip
  refine Br.mkN (show ¬ ¬chkB a b=0 from hc) ?_
  (repeat'((conv=>whnf);first|refine Zn ?_|fail))
  refine Br.mkY hs.1 ?_
  (repeat'((conv=>whnf);first|refine Zn ?_|fail))
  refine Br.mkY hs.2 ?_
  (repeat'((conv=>whnf);first|refine Zn ?_|fail))
  (conv=>whnf)
  (repeat'(first|exact trivial|rfl|refine And.intro ?_ ?_|fail))
  ·(conv=>whnf)
   rw[ea,← mul_div]
  ·(conv=>whnf)
   rw[ea]
 ·have n4:ok4 (pn (valQ a)) (pd (valQ a)) (pn (valQ b)) (pd (valQ b))∧valI (pd (valQ a))*valI (pd (valQ b))≠0:=⟨⟨⟨cn1,cd1⟩,cn2,cd2⟩,by rw[vd1,vd2];exact Int.mul_ne_zero (by omega) (by omega)⟩
  rcases three_cases hs with ⟨h1,h2⟩ | ⟨h1,h2⟩ | ⟨h1,h2⟩
  all_goals skip
  all_goals refine Br.mkN (show ¬ ¬chkB a b=0 from hc) ?_
  all_goals (repeat'((conv=>whnf);first|refine Zn ?_|fail))
  all_goals first | refine Br.mkN h1 ?_ | refine Br.mkY h1 ?_
  all_goals (repeat'((conv=>whnf);first|refine Zn ?_|fail))
  all_goals first | refine Br.mkN h2 ?_ | refine Br.mkY h2 ?_
  all_goals (repeat'((conv=>whnf);first|refine Zn ?_|fail))
  all_goals
   by_cases hl:lim (valI (pn (valQ a))*valI (pn (valQ b)))=true∨lim (valI (pd (valQ a))*valI (pd (valQ b)))=true
   ·have ea:mulf (valQ a) (valQ b)=([],4):=by
     rw[vn1,vn2,vd1,vd2] at hl
     unfold mulf
     rw[if_pos (by simpa using hl)]
    refine Br.mkY hl ?_
    skip
    (conv=>whnf)
    (repeat'(first|exact trivial|rfl|refine And.intro ?_ ?_|fail))
    ·(conv=>whnf)
     rw[ea]
    ·(conv=>whnf)
     rw[ea]
   ·refine Br.mkN hl ?_
    rw[vn1,vn2,vd1,vd2] at hl
    have ea:=mulf_ok (p:=valQ a) (q:=valQ b) (by simpa using fun h=>hl (.inl h)) (by simpa using fun h=>hl (.inr h))
    skip
    (conv=>whnf)
    (repeat'(first|exact trivial|rfl|refine And.intro ?_ ?_|fail))
    ·(conv=>whnf)
     rw[ea,vn1,vn2,vd1,vd2,mul_div]
    ·(conv=>whnf)
     rw[ea]
theorem b41 (a b:List UInt8):body Tryz.prog [c78,c70,c62,c65,c80] {} true Tryz.f41 [S a,S b] (.tup [S (mulQ a b).1,I (mulQ a b).2]):=by
 by_cases h:chkB a b≠0
 ·have e:mulQ a b=([],chkB a b):=bad2 h _
  rw[e]
  skip
  refine Br.mkY h ?_
  skip
  (conv=>whnf)
  (repeat'(first|exact trivial|rfl|refine And.intro ?_ ?_|fail))
 ·have e:mulQ a b=mulf (valQ a) (valQ b):=good_both (good2 h) _
  rw[e]
  exact b41g a b (good2 h).1 (good2 h).2
def c41:Con:=mkCon 41 true fun args K=>match args with | [.str a,.str b]=>K (.tup [S (mulQ a b).1,I (mulQ a b).2]) | _=>False
theorem k41:ConOK Tryz.prog c41:=by
 refine conOK_of rfl (enters_of Tryz.func41 (by kernel_rfl) rfl) ?_
 intro args K h
 simp only[c41] at h
 split at h
 ·rename_i a b;exact ⟨_,h,tri_of_body (Γ:=[c78,c70,c62,c65,c80]) (by simp[k78,k70,k62,k65,k80]) Tryz.func41 (by simp[Tryz.ntmps41]) rfl (b41 a b)⟩
 ·exact h.elim
theorem divf_ok {p q:Rat} (h0:q≠0) (l1:lim (p.num*q.den)=false) (l2:lim (q.num*p.den)=false):divf p q=(numS (p/q),0):=by
 unfold divf
 rw[if_neg h0,if_neg (by simp[l1,l2])]
set_option maxHeartbeats 8000000 in
theorem b42g (a b:List UInt8) (ha:chkQ a=0) (hb:chkQ b=0):body Tryz.prog [c78,c70,c62,c65,c80] {} true Tryz.f42 [S a,S b] (.tup [S (divf (valQ a) (valQ b)).1,I (divf (valQ a) (valQ b)).2]):=by
 have hp:=(chk_num ha).2
 have hq:=(chk_num hb).2
 obtain ⟨cn1,vn1,ln1⟩:=chk_pn hp
 obtain ⟨cn2,vn2,ln2⟩:=chk_pn hq
 obtain ⟨cd1,vd1⟩:=chk_pd hp
 obtain ⟨cd2,vd2⟩:=chk_pd hq
 have d1:=(valQ a).den_pos
 have d2:=(valQ b).den_pos
 have hc:¬chkB a b≠0:=by unfold chkB;rw[if_neg (by rw[ha];simp),hb];simp
 have eb:=(chk_num hb).1
 have hz:b= [48]↔valQ b=0:=by
  conv=>lhs;lhs;rw[eb]
  exact numS_48 _
 by_cases h0:valQ b=0
 ·have ea:divf (valQ a) (valQ b)=([],12):=by unfold divf;rw[if_pos h0]
  skip
  refine Br.mkN (show ¬ ¬chkB a b=0 from hc) ?_
  skip
  refine Br.mkY (hz.2 h0) ?_
  skip
  (conv=>whnf)
  (repeat'(first|exact trivial|rfl|refine And.intro ?_ ?_|fail))
  ·(conv=>whnf)
   rw[ea]
  ·(conv=>whnf)
   rw[ea]
 ·have hb48:¬b= [48]:=fun h=>h0 (hz.1 h)
  have hn0:(valQ b).num≠0:=fun h=>h0 (Rat.num_eq_zero.1 h)
  have ed:=div_parts (valQ a) (valQ b) h0
  by_cases hs:smR (valQ a)∧smR (valQ b)
  ·have s1:=smR_lt hs.1
   have s2:=smR_lt hs.2
   have m1:=mul9 (x:=(valQ a).num) (y:=((valQ b).den:Int)) s1.1 (by omega)
   have m2:=mul9 (x:=((valQ a).den:Int)) (y:=(valQ b).num) (by omega) s2.1
   have m3:(valQ b).num*((valQ a).den:Int)=((valQ a).den:Int)*(valQ b).num:=Int.mul_comm _ _
   have ea:=divf_ok (p:=valQ a) (q:=valQ b) h0 (lim_small (by omega)) (lim_small (by omega))
   skip
   refine Br.mkN (show ¬ ¬chkB a b=0 from hc) ?_
   skip
   refine Br.mkN hb48 ?_
   (repeat'((conv=>whnf);first|refine Zn ?_|fail))
   refine Br.mkY hs.1 ?_
   (repeat'((conv=>whnf);first|refine Zn ?_|fail))
   refine Br.mkY hs.2 ?_
   skip
   by_cases hneg:(valQ b).num<0
   ·refine Br.mkY hneg ?_
    have e1:(valQ a).num * -((valQ b).den:Int)= -((valQ a).num*((valQ b).den:Int)):=Int.mul_neg _ _
    have e2:((valQ a).den:Int) * -(valQ b).num= -(((valQ a).den:Int)*(valQ b).num):=Int.mul_neg _ _
    have m4:((valQ a).den:Int)*(valQ b).num<0:=Int.mul_neg_of_pos_of_neg (by omega) hneg
    (repeat'((conv=>whnf);first|refine Zn ?_|fail))
    (conv=>whnf)
    (repeat'(first|exact trivial|rfl|refine And.intro ?_ ?_|fail))
    ·(conv=>whnf)
     rw[ea,ed,e1,e2,Rat.neg_divInt_neg]
    ·(conv=>whnf)
     rw[ea]
   ·refine Br.mkN hneg ?_
    have m4:0<((valQ a).den:Int)*(valQ b).num:=Int.mul_pos (by omega) (by omega)
    (repeat'((conv=>whnf);first|refine Zn ?_|fail))
    (conv=>whnf)
    (repeat'(first|exact trivial|rfl|refine And.intro ?_ ?_|fail))
    ·(conv=>whnf)
     rw[ea,ed]
    ·(conv=>whnf)
     rw[ea]
  ·have n4:ok4 (pn (valQ a)) (pd (valQ a)) (pd (valQ b)) (pn (valQ b))∧valI (pd (valQ a))*valI (pn (valQ b))≠0:=⟨⟨⟨cn1,cd1⟩,cd2,cn2⟩,by rw[vd1,vn2];exact Int.mul_ne_zero (by omega) hn0⟩
   rcases three_cases hs with ⟨h1,h2⟩ | ⟨h1,h2⟩ | ⟨h1,h2⟩
   all_goals skip
   all_goals refine Br.mkN (show ¬ ¬chkB a b=0 from hc) ?_
   all_goals skip
   all_goals refine Br.mkN hb48 ?_
   all_goals (repeat'((conv=>whnf);first|refine Zn ?_|fail))
   all_goals first | refine Br.mkN h1 ?_ | refine Br.mkY h1 ?_
   all_goals (repeat'((conv=>whnf);first|refine Zn ?_|fail))
   all_goals first | refine Br.mkN h2 ?_ | refine Br.mkY h2 ?_
   all_goals (repeat'((conv=>whnf);first|refine Zn ?_|fail))
   all_goals
    by_cases hl:lim (valI (pn (valQ a))*valI (pd (valQ b)))=true∨lim (valI (pd (valQ a))*valI (pn (valQ b)))=true
    ·have ea:divf (valQ a) (valQ b)=([],4):=by
      rw[vn1,vn2,vd1,vd2,Int.mul_comm ((valQ a).den:Int)] at hl
      unfold divf
      rw[if_neg h0,if_pos (by simpa using hl)]
     refine Br.mkY hl ?_
     skip
     (conv=>whnf)
     (repeat'(first|exact trivial|rfl|refine And.intro ?_ ?_|fail))
     ·(conv=>whnf)
      rw[ea]
     ·(conv=>whnf)
      rw[ea]
    ·refine Br.mkN hl ?_
     rw[vn1,vn2,vd1,vd2,Int.mul_comm ((valQ a).den:Int)] at hl
     have ea:=divf_ok (p:=valQ a) (q:=valQ b) h0 (by simpa using fun h=>hl (.inl h)) (by simpa using fun h=>hl (.inr h))
     skip
     (conv=>whnf)
     (repeat'(first|exact trivial|rfl|refine And.intro ?_ ?_|fail))
     ·(conv=>whnf)
      rw[ea,ed,vn1,vn2,vd1,vd2]
     ·(conv=>whnf)
      rw[ea]
theorem b42 (a b:List UInt8):body Tryz.prog [c78,c70,c62,c65,c80] {} true Tryz.f42 [S a,S b] (.tup [S (divQ a b).1,I (divQ a b).2]):=by
 by_cases h:chkB a b≠0
 ·have e:divQ a b=([],chkB a b):=bad2 h _
  rw[e]
  skip
  refine Br.mkY h ?_
  skip
  (conv=>whnf)
  (repeat'(first|exact trivial|rfl|refine And.intro ?_ ?_|fail))
 ·have e:divQ a b=divf (valQ a) (valQ b):=good_both (good2 h) _
  rw[e]
  exact b42g a b (good2 h).1 (good2 h).2
def c42:Con:=mkCon 42 true fun args K=>match args with | [.str a,.str b]=>K (.tup [S (divQ a b).1,I (divQ a b).2]) | _=>False
theorem k42:ConOK Tryz.prog c42:=by
 refine conOK_of rfl (enters_of Tryz.func42 (by kernel_rfl) rfl) ?_
 intro args K h
 simp only[c42] at h
 split at h
 ·rename_i a b;exact ⟨_,h,tri_of_body (Γ:=[c78,c70,c62,c65,c80]) (by simp[k78,k70,k62,k65,k80]) Tryz.func42 (by simp[Tryz.ntmps42]) rfl (b42 a b)⟩
 ·exact h.elim
theorem cmpQ_bad {a b:List UInt8} (h:chkB a b≠0):cmpQ a b=(0,chkB a b):=by
 unfold cmpQ chkB at*
 by_cases h1:chkQ a≠0
 ·rw[if_pos h1,if_pos h1]
 ·rw[if_neg h1] at h ⊢
  rw[if_pos h,if_neg h1]
theorem cmpQ_good {a b:List UInt8} (h:chkQ a=0∧chkQ b=0):cmpQ a b=cmpf (valQ a) (valQ b):=by
 unfold cmpQ
 rw[if_neg (by rw[h.1];simp),if_neg (by rw[h.2];simp)]
theorem cmpf_ok {p q:Rat} (l1:lim (p.num*q.den)=false) (l2:lim (q.num*p.den)=false):cmpf p q=(cmpI (p.num*q.den) (q.num*p.den),0):=by
 unfold cmpf
 rw[if_neg (by simp[l1,l2])]
set_option maxHeartbeats 8000000 in
theorem b43g (a b:List UInt8) (ha:chkQ a=0) (hb:chkQ b=0):body Tryz.prog [c78,c70,c65,c81,c82] {} true Tryz.f43 [S a,S b] (.tup [I (cmpf (valQ a) (valQ b)).1,I (cmpf (valQ a) (valQ b)).2]):=by
 have hp:=(chk_num ha).2
 have hq:=(chk_num hb).2
 obtain ⟨cn1,vn1,ln1⟩:=chk_pn hp
 obtain ⟨cn2,vn2,ln2⟩:=chk_pn hq
 obtain ⟨cd1,vd1⟩:=chk_pd hp
 obtain ⟨cd2,vd2⟩:=chk_pd hq
 have d1:=(valQ a).den_pos
 have d2:=(valQ b).den_pos
 have hc:¬chkB a b≠0:=by unfold chkB;rw[if_neg (by rw[ha];simp),hb];simp
 by_cases hs:smR (valQ a)∧smR (valQ b)
 ·have s1:=smR_lt hs.1
  have s2:=smR_lt hs.2
  have m1:=mul9 (x:=(valQ a).num) (y:=((valQ b).den:Int)) s1.1 (by omega)
  have m2:=mul9 (x:=(valQ b).num) (y:=((valQ a).den:Int)) s2.1 (by omega)
  have ea:=cmpf_ok (p:=valQ a) (q:=valQ b) (lim_small (by omega)) (lim_small (by omega))
  skip
  refine Br.mkN (show ¬ ¬chkB a b=0 from hc) ?_
  (repeat'((conv=>whnf);first|refine Zn ?_|fail))
  refine Br.mkY hs.1 ?_
  (repeat'((conv=>whnf);first|refine Zn ?_|fail))
  refine Br.mkY hs.2 ?_
  (repeat'((conv=>whnf);first|refine Zn ?_|fail))
  (refine Br.mk (fun _=>?_) (fun _=>?_))
  ·rename_i hx
   skip
   (conv=>whnf)
   (repeat'(first|exact trivial|rfl|refine And.intro ?_ ?_|fail))
   ·(conv=>whnf)
    rw[ea];unfold cmpI;rw[if_pos hx]
   ·(conv=>whnf)
    rw[ea]
  ·rename_i hx
   (repeat'((conv=>whnf);first|refine Zn ?_|fail))
   (refine Br.mk (fun _=>?_) (fun _=>?_))
   ·rename_i hy
    skip
    (conv=>whnf)
    (repeat'(first|exact trivial|rfl|refine And.intro ?_ ?_|fail))
    ·(conv=>whnf)
     rw[ea];unfold cmpI;rw[if_neg hx,if_neg (by omega)]
    ·(conv=>whnf)
     rw[ea]
   ·rename_i hy
    skip
    (conv=>whnf)
    (repeat'(first|exact trivial|rfl|refine And.intro ?_ ?_|fail))
    ·(conv=>whnf)
     rw[ea];unfold cmpI;rw[if_neg hx,if_pos (by omega)]
    ·(conv=>whnf)
     rw[ea]
 ·have n4:ok4 (pn (valQ a)) (pd (valQ b)) (pn (valQ b)) (pd (valQ a)):=⟨⟨cn1,cd2⟩,cn2,cd1⟩
  rcases three_cases hs with ⟨h1,h2⟩ | ⟨h1,h2⟩ | ⟨h1,h2⟩
  all_goals skip
  all_goals refine Br.mkN (show ¬ ¬chkB a b=0 from hc) ?_
  all_goals (repeat'((conv=>whnf);first|refine Zn ?_|fail))
  all_goals first | refine Br.mkN h1 ?_ | refine Br.mkY h1 ?_
  all_goals (repeat'((conv=>whnf);first|refine Zn ?_|fail))
  all_goals first | refine Br.mkN h2 ?_ | refine Br.mkY h2 ?_
  all_goals (repeat'((conv=>whnf);first|refine Zn ?_|fail))
  all_goals
   rcases lim_cases ((valQ a).num*((valQ b).den:Int)) with l1 | l1
   ·have ea:cmpf (valQ a) (valQ b)=(0,4):=by unfold cmpf;rw[if_pos (by simp[l1])]
    refine Br.mkY (show lim (valI (pn (valQ a))*valI (pd (valQ b)))=true by rw[vn1,vd2];exact l1) ?_
    (repeat'((conv=>whnf);first|refine Zy ?_|fail))
    (conv=>whnf)
    (repeat'(first|exact trivial|rfl|refine And.intro ?_ ?_|fail))
    ·(conv=>whnf)
     rw[ea]
    ·(conv=>whnf)
     rw[ea]
   ·refine Br.mkN (show ¬lim (valI (pn (valQ a))*valI (pd (valQ b)))=true by rw[vn1,vd2,l1];decide) ?_
    skip
    rcases lim_cases ((valQ b).num*((valQ a).den:Int)) with l2 | l2
    ·have ea:cmpf (valQ a) (valQ b)=(0,4):=by unfold cmpf;rw[if_pos (by simp[l2])]
     have e4:resI (valI (pn (valQ b))*valI (pd (valQ a)))=([],4):=by rw[vn2,vd1];exact resI_no l2
     refine Br.mkY (show ¬(resI (valI (pn (valQ b))*valI (pd (valQ a)))).2=0 by rw[e4];decide) ?_
     skip
     (conv=>whnf)
     (repeat'(first|exact trivial|rfl|refine And.intro ?_ ?_|fail))
     ·(conv=>whnf)
      rw[ea]
     ·(conv=>whnf)
      rw[ea,e4]
    ·have e4:resI (valI (pn (valQ b))*valI (pd (valQ a)))=(itoa ((valQ b).num*((valQ a).den:Int)),0):=by rw[vn2,vd1];exact resI_ok l2
     refine Br.mkN (show ¬ ¬(resI (valI (pn (valQ b))*valI (pd (valQ a)))).2=0 by rw[e4];simp) ?_
     have ea:=cmpf_ok l1 l2
     have n5:chkI (itoa (valI (pn (valQ a))*valI (pd (valQ b))))=0∧chkI (resI (valI (pn (valQ b))*valI (pd (valQ a)))).1=0:=by
      rw[e4,vn1,vd2]
      exact ⟨chk_itoa l1,chk_itoa l2⟩
     (repeat'((conv=>whnf);first|refine Zn ?_|fail))
     (conv=>whnf)
     (repeat'(first|exact trivial|rfl|refine And.intro ?_ ?_|fail))
     ·(conv=>whnf)
      rw[ea,e4,vn1,vd2,valI_itoa,valI_itoa]
     ·(conv=>whnf)
      rw[ea]
theorem b43 (a b:List UInt8):body Tryz.prog [c78,c70,c65,c81,c82] {} true Tryz.f43 [S a,S b] (.tup [I (cmpQ a b).1,I (cmpQ a b).2]):=by
 by_cases h:chkB a b≠0
 ·rw[cmpQ_bad h]
  skip
  refine Br.mkY h ?_
  skip
  (conv=>whnf)
  (repeat'(first|exact trivial|rfl|refine And.intro ?_ ?_|fail))
 ·rw[cmpQ_good (good2 h)]
  exact b43g a b (good2 h).1 (good2 h).2
def c43:Con:=mkCon 43 true fun args K=>match args with | [.str a,.str b]=>K (.tup [I (cmpQ a b).1,I (cmpQ a b).2]) | _=>False
theorem k43:ConOK Tryz.prog c43:=by
 refine conOK_of rfl (enters_of Tryz.func43 (by kernel_rfl) rfl) ?_
 intro args K h
 simp only[c43] at h
 split at h
 ·rename_i a b;exact ⟨_,h,tri_of_body (Γ:=[c78,c70,c65,c81,c82]) (by simp[k78,k70,k65,k81,k82]) Tryz.func43 (by simp[Tryz.ntmps43]) rfl (b43 a b)⟩
 ·exact h.elim
end RB
end
section
set_option linter.unusedVariables false
open Go Go.Proofs Go.Eng Go.Shelf IB Go.Lib Go.RowKit
namespace RB
set_option maxRecDepth 10000
set_option linter.unusedVariables false
set_option linter.unusedSimpArgs false
set_option maxHeartbeats 8000000 in
theorem b9 (a b:List UInt8):body Tryz.prog [c23,c12,c17,c20,c19,c14,c39,c40,c41,c42,c38,c43,c21,c44] {} true Tryz.f9 [S a,S b] (.val (.bool true)):=by
 by_cases hl:longS a∨longS b
 ·skip
  by_cases h1:longS a
  ·refine Br.mkY h1 ?_
   skip
   (conv=>whnf)
   skip
  ·refine Br.mkN h1 ?_
   skip
   refine Br.mkY (hl.elim (fun h=>absurd h h1) id) ?_
   skip
   (conv=>whnf)
   skip
 ·skip
  refine Br.mkN (fun h=>hl (.inl h)) ?_
  skip
  refine Br.mkN (fun h=>hl (.inr h)) ?_
  (repeat'((conv=>whnf);first|refine Zn ?_|refine Zy ?_|fail))
  repeat (first | (refine Br.mkN (fun h=>h rfl) ?_;(repeat'((conv=>whnf);first|refine Zn ?_|refine Zy ?_|refine Zm ?_|fail))) | (refine Br.mkY rfl ?_;skip))
  (conv=>whnf)
  skip
theorem t9 (a b:List UInt8) (_:a.length≤maxL) (_:b.length≤maxL):Tri Tryz.prog true 9 [S a,S b] (.val (.bool true)):=
 tri_of_body (Γ:=[c23,c12,c17,c20,c19,c14,c39,c40,c41,c42,c38,c43,c21,c44]) (by simp[k23,k12,k17,k20,k19,k14,k39,k40,k41,k42,k38,k43,k21,k44]) Tryz.func9 (by simp[Tryz.ntmps9]) rfl (b9 a b)
end RB
end
section
open Go Go.Proofs Go.Eng Go.Shelf IB Go.Lib Go.RowKit
namespace RB
set_option maxRecDepth 10000
set_option linter.unusedVariables false
set_option linter.unusedSimpArgs false
def longL (l:List (List UInt8)):Prop:=(∃a∈l,longS a)∨8<l.length
noncomputable instance (l:List (List UInt8)):Decidable (longL l):=Classical.propDecidable _
theorem nat10_cons (c:UInt8) (r:List UInt8):nat10 (c::r)=nat10 [c]*10^r.length+nat10 r:=nat10_append [c] r
set_option linter.unusedSimpArgs false
set_option linter.unusedSimpArgs false
noncomputable def sumR:List UInt8→List (List UInt8)→List UInt8 × Int
 | s,[]=>(s,0)
 | s,a::r=>if (addQ s a).2≠0 then ([],(addQ s a).2) else sumR (addQ s a).1 r
noncomputable def chkL:List (List UInt8)→Int
 | []=>0
 | a::r=>if chkQ a≠0 then chkQ a else chkL r
noncomputable def sumQ (l:List (List UInt8)):List UInt8 × Int:=if 4096<l.length then ([],4) else if chkL l≠0 then ([],chkL l) else sumR [48] l
theorem drop_get {l:List (List UInt8)} {k:Nat} (h:k<l.length):l.drop k=l.getD k []::l.drop (k+1):=by
 rw[List.drop_eq_getElem_cons h]
 simp[List.getD_eq_getElem?_getD,h]
noncomputable def stS (l:List (List UInt8)):Nat→List UInt8
 | 0=>[48]
 | k+1=>(addQ (stS l k) (l.getD k [])).1
noncomputable def cntS:List UInt8→List (List UInt8)→Nat
 | _,[]=>0
 | s,a::r=>if (addQ s a).2≠0 then 1 else cntS (addQ s a).1 r+1
noncomputable abbrev nS (l:List (List UInt8)):Nat:=cntS [48] l
noncomputable abbrev itSum (l:List (List UInt8)) (k:Nat):List SV:=[S (addQ (stS l k) (l.getD k [])).1,I (addQ (stS l k) (l.getD k [])).2]
theorem b66 (l:List (List UInt8)):body Tryz.prog [] {} false Tryz.f66 [.seq .str l] (.clo 102 [] [.lelem [.seq .str l] 0]):=by
 skip
 (conv=>whnf)
 (repeat'(first|exact trivial|rfl|refine And.intro ?_ ?_|fail))
def c66:Con:=mkCon 66 false fun args K=>match args with | [.seq .str l]=>K (.clo 102 [] [.lelem [.seq .str l] 0]) | _=>False
theorem k66:ConOK Tryz.prog c66:=by
 refine conOK_of rfl (enters_of Tryz.func66 (by kernel_rfl) rfl) ?_
 intro args K h
 simp only[c66] at h
 split at h
 ·rename_i l;exact ⟨_,h,tri_of_body (Γ:=[]) (by simp) Tryz.func66 (by simp[Tryz.ntmps66]) rfl (b66 l)⟩
 ·exact h.elim
theorem cnt_step {l:List (List UInt8)} {i:Nat} (hi:i<l.length):cntS (stS l i) (l.drop i)=if (addQ (stS l i) (l.getD i [])).2≠0 then 1 else cntS (stS l (i+1)) (l.drop (i+1))+1:=by
 rw[drop_get hi];rfl
theorem b102 (l:List (List UInt8)):bodyI Tryz.prog [c17] { asks:=[(0,[])] } Tryz.f102 [.lelem [.seq .str l] 0] (nS l) (itSum l):=by
 (repeat'((conv=>whnf);first|refine Zg fun _=>?_|fail))
 refine Ask.mk ⟨{ X:=Nat,pre:=fun i=>i≤l.length∧i+cntS (stS l i) (l.drop i)=nS l,mod:=fun i _=>[(3,S (stS l i)),(9,I i)],heap:=fun i _=>[.yst (some i) (nS l) (itSum l)],mu:=fun i=>l.length-i },rfl,?_⟩
 (repeat'((conv=>whnf);first|refine Zn ?_|fail))
 refine ⟨⟨(0:Nat),⟨Nat.zero_le _,by rw[List.drop_zero,Nat.zero_add];rfl⟩,by (repeat'(first|exact trivial|rfl|refine And.intro ?_ ?_|fail))⟩,fun (i:Nat) hi=>?_⟩
 obtain ⟨hi1,hi2⟩:=hi
 skip
 (refine Br.mk (fun _=>?_) (fun _=>?_))
 ·have hlt:i<l.length:=by omega
  rw[cnt_step hlt] at hi2
  have hlt2:i<nS l:=by
   split at hi2<;>omega
  (repeat'((conv=>whnf);first|refine Zn ?_|refine Zj ?_|fail))
  refine Need.mk (by (repeat'(first|exact trivial|rfl|refine And.intro ?_ ?_|fail))) ?_
  refine Two.mk ?_ ?_
  ·skip
   by_cases hk:(addQ (stS l i) (l.getD i [])).2=0
   ·rw[if_neg (fun h=>h hk)] at hi2
    refine Br.mkN (fun h=>h hk) ?_
    (repeat'((conv=>whnf);first|refine Zn ?_|fail))
    refine ⟨(i+1:Nat),by show l.length-(i+1)<l.length-i;omega,⟨hlt,by omega⟩,?_⟩
    (repeat'(first|exact trivial|rfl|refine And.intro ?_ ?_|fail))
   ·rw[if_pos hk] at hi2
    refine Br.mkY hk ?_
    skip
    (conv=>whnf)
    omega
  ·skip
   (conv=>whnf)
   trivial
 ·have e:i=l.length:=by omega
  subst e
  rw[List.drop_eq_nil_of_le (Nat.le_refl _)] at hi2
  skip
  (conv=>whnf)
  have:cntS (stS l l.length) []=0:=rfl
  omega
def c102:Con:=mkCon 102 false fun args K=>match args with | [.lelem [.seq .str l] 0]=>K (.itr (nS l) (itSum l)) | _=>False
theorem k102:ConOK Tryz.prog c102:=by
 refine conOK_of rfl (enters_of Tryz.func102 (by kernel_rfl) rfl) ?_
 intro args K h
 simp only[c102] at h
 split at h
 ·rename_i l;exact ⟨_,h,triI_of_body (Γ:=[c17]) (by simp[k17]) Tryz.func102 (by simp[Tryz.ntmps102]) (b102 l)⟩
 ·exact h.elim
theorem chkL_zero:∀ {l:List (List UInt8)},chkL l=0→∀k,k<l.length→chkQ (l.getD k [])=0
 | [],_,k,hk=>by simp at hk
 | a::r,h,k,hk=>by
  unfold chkL at h
  split at h
  ·rename_i h1;exact absurd h h1
  ·rename_i h1
   cases k with
   | zero=>exact Classical.not_not.1 h1
   | succ k=>exact chkL_zero h k (by simpa using hk)
set_option maxHeartbeats 2000000 in
theorem b27 (l:List (List UInt8)):body Tryz.prog [c21,c66,c102] { asks:=[(0,[]),(2,[])] } true Tryz.f27 [.seq .str l] (.tup [S (sumQ l).1,I (sumQ l).2]):=by
 by_cases hl:4096<l.length
 ·have e:sumQ l=([],4):=by unfold sumQ;rw[if_pos hl]
  rw[e]
  (repeat'((conv=>whnf);first|refine Zg fun _=>?_|refine Zy ?_|fail))
  (conv=>whnf)
  (repeat'(first|exact trivial|rfl|refine And.intro ?_ ?_|fail))
 ·have e0:sumQ l=if chkL l≠0 then ([],chkL l) else sumR [48] l:=by unfold sumQ;rw[if_neg hl]
  (repeat'((conv=>whnf);first|refine Zg fun _=>?_|refine Zm ?_|fail))
  refine Ask.mk ⟨{ X:=Nat,pre:=fun i=>i≤l.length∧chkL (l.drop i)=chkL l,mod:=fun i _=>[(15,I i)],heap:=fun i H=>H,mu:=fun i=>l.length-i },rfl,?_⟩
  (repeat'((conv=>whnf);first|refine Zn ?_|fail))
  refine ⟨⟨(0:Nat),⟨Nat.zero_le _,by rw[List.drop_zero]⟩,?_⟩,fun (i:Nat) hi=>?_⟩
  ·(repeat'(first|exact trivial|rfl|refine And.intro ?_ ?_|fail))
  obtain ⟨hi,hc⟩:=hi
  by_cases hlt:i<l.length
  ·rw[drop_get hlt] at hc
   by_cases hk:chkQ (l.getD i [])=0
   ·(repeat'((conv=>whnf);first|refine Zn ?_|refine Zj ?_|refine Zy ?_|refine Zm ?_|fail))
    refine ⟨(i+1:Nat),by show l.length-(i+1)<l.length-i;omega,⟨hlt,?_⟩,?_⟩
    ·rw[← hc]
     show _=if chkQ (l.getD i [])≠0 then _ else _
     rw[if_neg (fun h=>h hk)]
    ·(repeat'(first|exact trivial|rfl|refine And.intro ?_ ?_|fail))
   ·have ec:chkL l=chkQ (l.getD i []):=by
     rw[← hc]
     show (if chkQ (l.getD i [])≠0 then _ else _)= _
     rw[if_pos hk]
    rw[ec,if_pos hk] at e0
    rw[e0]
    (repeat'((conv=>whnf);first|refine Zn ?_|refine Zj ?_|refine Zy ?_|fail))
    (conv=>whnf)
    (repeat'(first|exact trivial|rfl|refine And.intro ?_ ?_|fail))
  ·have e:i=l.length:=by omega
   subst e
   have ec:chkL l=0:=by rw[← hc,List.drop_eq_nil_of_le (Nat.le_refl _)];rfl
   have hall:∀k,k<l.length→chkQ (l.getD k [])=0:=chkL_zero ec
   rw[ec,if_neg (by simp)] at e0
   (repeat'((conv=>whnf);first|refine Zm ?_|fail))
   refine Ask.mk ⟨{ X:=Nat,pre:=fun i=>i≤l.length∧i+cntS (stS l i) (l.drop i)=nS l∧sumR (stS l i) (l.drop i)=sumR [48] l,mod:=fun _ _=>[],heap:=fun i H=>[hget H 0,hget H 1,.cells [S (stS l i)] 22],mu:=fun i=>i },rfl,?_⟩
   (repeat'((conv=>whnf);first|refine Zn ?_|fail))
   refine ⟨⟨(0:Nat),rfl,⟨Nat.zero_le _,by rw[List.drop_zero,Nat.zero_add];rfl,by rw[List.drop_zero];rfl⟩,by (repeat'(first|exact trivial|rfl|refine And.intro ?_ ?_|fail))⟩,fun (i:Nat) hi (hlt:i<nS l)=>?_,fun (i:Nat) hi (he:i=nS l)=>?_⟩
   ·obtain ⟨hi1,hi2,hi3⟩:=hi
    have hli:i<l.length:=by
     refine Nat.lt_of_not_le fun h=>?_
     have e:i=l.length:=by omega
     rw[e,List.drop_eq_nil_of_le (Nat.le_refl _)] at hi2
     have:cntS (stS l l.length) []=0:=rfl
     omega
    rw[cnt_step hli] at hi2
    rw[drop_get hli] at hi3
    have hi3:(if (addQ (stS l i) (l.getD i [])).2≠0 then ([],(addQ (stS l i) (l.getD i [])).2) else sumR (stS l (i+1)) (l.drop (i+1)))=sumR [48] l:=hi3
    show hnfL (itSum l i) _
    by_cases hk:(addQ (stS l i) (l.getD i [])).2=0
    ·rw[if_neg (fun h=>h hk)] at hi2 hi3
     (repeat'((conv=>whnf);first|refine Zg fun _=>?_|fail))
     refine Br.mkN (fun h=>h hk) ?_
     skip
     refine ⟨(i+1:Nat),rfl,⟨hli,by omega,hi3⟩,by (repeat'(first|exact trivial|rfl|refine And.intro ?_ ?_|fail))⟩
    ·rw[if_pos hk] at hi3
     rw[e0,← hi3]
     (repeat'((conv=>whnf);first|refine Zg fun _=>?_|fail))
     refine Br.mkY hk ?_
     skip
     (conv=>whnf)
     (repeat'(first|exact trivial|rfl|refine And.intro ?_ ?_|fail))
   ·obtain ⟨hi1,hi2,hi3⟩:=hi
    have hc0:cntS (stS l i) (l.drop i)=0:=by omega
    have hli:i=l.length:=by
     refine Nat.le_antisymm hi1 (Nat.le_of_not_lt fun h=>?_)
     rw[cnt_step h] at hc0
     split at hc0<;>omega
    rw[hli,List.drop_eq_nil_of_le (Nat.le_refl _)] at hi3
    have hi3:(stS l l.length,(0:Int))=sumR [48] l:=hi3
    rw[e0,← hi3,← hli]
    skip
    (conv=>whnf)
    (repeat'(first|exact trivial|rfl|refine And.intro ?_ ?_|fail))
def c27:Con:=mkCon 27 true fun args K=>match args with | [.seq .str l]=>K (.tup [S (sumQ l).1,I (sumQ l).2]) | _=>False
theorem k27:ConOK Tryz.prog c27:=by
 refine conOK_of rfl (enters_of Tryz.func27 (by kernel_rfl) rfl) ?_
 intro args K h
 simp only[c27] at h
 split at h
 ·rename_i l;exact ⟨_,h,tri_of_body (Γ:=[c21,c66,c102]) (by simp[k21,k66,k102]) Tryz.func27 (by simp[Tryz.ntmps27]) rfl (b27 l)⟩
 ·exact h.elim
theorem b35 (s:List UInt8):body Tryz.prog [] {} true Tryz.f35 [S s] (.bl (30<s.length) inferInstance):=by
 (repeat'((conv=>whnf);first|refine Zg fun _=>?_|fail))
 (conv=>whnf)
 constructor<;>intro h<;>omega
def c35:Con:=mkCon 35 true fun args K=>match args with | [.str s]=>K (.bl (30<s.length) inferInstance) | _=>False
theorem k35:ConOK Tryz.prog c35:=by
 refine conOK_of rfl (enters_of Tryz.func35 (by kernel_rfl) rfl) ?_
 intro args K h
 simp only[c35] at h
 split at h
 ·rename_i s;exact ⟨_,h,tri_of_body (Γ:=[]) (by simp) Tryz.func35 (by simp[Tryz.ntmps35]) rfl (b35 s)⟩
 ·exact h.elim
noncomputable def ixW (l:List (List UInt8)):Int:=if l.findIdx (fun s=>decide (30<s.length))<l.length then (l.findIdx (fun s=>decide (30<s.length)):Int) else -1
theorem ixW_at {l:List (List UInt8)} {i:Nat} (hi:i<l.length) (hb:30<(l.getD i []).length) (h:∀j,j<i→¬30<(l.getD j []).length):ixW l=i:=by
 have e:l.findIdx (fun s=>decide (30<s.length))=i:=by
  rw[List.findIdx_eq hi]
  refine ⟨by simpa [List.getD_eq_getElem?_getD,hi] using hb,fun j hj=>?_⟩
  have:=h j hj
  simpa [List.getD_eq_getElem?_getD,show j<l.length by omega] using this
 unfold ixW
 rw[e,if_pos hi]
theorem ixW_no {l:List (List UInt8)} (h:∀j,j<l.length→¬30<(l.getD j []).length):ixW l= -1:=by
 unfold ixW
 rw[if_neg]
 intro hlt
 have h1:=List.findIdx_getElem (w:=hlt)
 have h2:=h _ hlt
 simp only[decide_eq_true_eq] at h1
 apply h2
 simpa [List.getD_eq_getElem?_getD,hlt] using h1
theorem ixW_none {l:List (List UInt8)} (h:¬0≤ixW l):∀a∈l,a.length≤30:=by
 intro a ha
 refine Nat.le_of_not_lt fun hb=>h ?_
 unfold ixW
 have:l.findIdx (fun s=>decide (30<s.length))<l.length:=List.findIdx_lt_length_of_exists ⟨a,ha,by simpa using hb⟩
 rw[if_pos this]
 omega
theorem b74s (l:List (List UInt8)):body Tryz.prog [c35] { asks:=[(0,[])] } true Tryz.f74 [.seq .str l,.clo 35 [] []] (I (ixW l)):=by
 (repeat'((conv=>whnf);first|refine Zg fun _=>?_|fail))
 refine Ask.mk ⟨{ X:=Nat,pre:=fun i=>i≤l.length∧∀j,j<i→¬30<(l.getD j []).length,mod:=fun i _=>[(8,I i)],heap:=fun i H=>H,mu:=fun i=>l.length-i },rfl,?_⟩
 (repeat'((conv=>whnf);first|refine Zn ?_|fail))
 refine ⟨⟨(0:Nat),⟨Nat.zero_le _,fun j hj=>by omega⟩,?_⟩,fun (i:Nat) hi=>?_⟩
 ·(repeat'(first|exact trivial|rfl|refine And.intro ?_ ?_|fail))
 obtain ⟨hi,hp⟩:=hi
 skip
 (refine Br.mk (fun _=>?_) (fun _=>?_))
 ·have hlt:i<l.length:=by omega
  (repeat'((conv=>whnf);first|refine Zn ?_|refine Zj ?_|fail))
  (refine Br.mk (fun _=>?_) (fun _=>?_))
  ·rename_i hb
   skip
   (conv=>whnf)
   (repeat'(first|rfl|refine And.intro ?_ ?_|fail))
   exact (ixW_at hlt hb hp).symm
  ·rename_i hb
   (repeat'((conv=>whnf);first|refine Zn ?_|fail))
   refine ⟨(i+1:Nat),by show l.length-(i+1)<l.length-i;omega,⟨hlt,fun j hj=>?_⟩,?_⟩
   ·rcases Nat.lt_succ_iff_lt_or_eq.1 hj with h1 | h1
    ·exact hp j h1
    ·subst h1;exact hb
   ·(repeat'(first|exact trivial|rfl|refine And.intro ?_ ?_|fail))
 ·have e:i=l.length:=by omega
  subst e
  skip
  (conv=>whnf)
  (repeat'(first|rfl|refine And.intro ?_ ?_|fail))
  exact (ixW_no hp).symm
def c74s:Con:=mkCon 74 true fun args K=>match args with | [.seq .str l,.clo 35 [] []]=>K (I (ixW l)) | _=>False
theorem k74s:ConOK Tryz.prog c74s:=by
 refine conOK_of rfl (enters_of Tryz.func74 (by kernel_rfl) rfl) ?_
 intro args K h
 simp only[c74s] at h
 split at h
 ·rename_i l;exact ⟨_,h,tri_of_body (Γ:=[c35]) (by simp[k35]) Tryz.func74 (by simp[Tryz.ntmps74]) rfl (b74s l)⟩
 ·exact h.elim
theorem b33s (l:List (List UInt8)):body Tryz.prog [c74s] {} true Tryz.f33 [.seq .str l,.clo 35 [] []] (.bl (0≤ixW l) inferInstance):=by
 skip
 (conv=>whnf)
 skip
def c33s:Con:=mkCon 33 true fun args K=>match args with | [.seq .str l,.clo 35 [] []]=>K (.bl (0≤ixW l) inferInstance) | _=>False
theorem k33s:ConOK Tryz.prog c33s:=by
 refine conOK_of rfl (enters_of Tryz.func33 (by kernel_rfl) rfl) ?_
 intro args K h
 simp only[c33s] at h
 split at h
 ·rename_i l;exact ⟨_,h,tri_of_body (Γ:=[c74s]) (by simp[k74s]) Tryz.func33 (by simp[Tryz.ntmps33]) rfl (b33s l)⟩
 ·exact h.elim
theorem b75 (n:Int) (h:0≤n∧n≤1000000):bodyO Tryz.prog [] {} Tryz.f75 [.val (.slice none 0 0),I n] (.ref 0 1) .str [] 22:=by
 skip
 (refine Br.mk (fun _=>?_) (fun _=>?_))
 ·omega
 ·(repeat'((conv=>whnf);first|refine Zn ?_|fail))
  (refine Br.mk (fun _=>?_) (fun _=>?_))
  ·(repeat'((conv=>whnf);first|refine Zn ?_|fail))
   (conv=>whnf)
   (repeat'(first|rfl|refine And.intro ?_ ?_|fail))
  ·skip
   (conv=>whnf)
   (repeat'(first|rfl|refine And.intro ?_ ?_|fail))
def c75:Con:=ownCon 75 fun args K=>match args with | [.val (.slice none 0 0),.val (.int .i64 n)]=>Need (0≤n∧n≤1000000) (K (.ref 0 1) (.vec 1 (.str) ([]) 22)) | _=>False
theorem k75:ConOK Tryz.prog c75:=by
 refine ownOK_of (enters_of Tryz.func75 (by kernel_rfl) rfl) ?_
 intro args K h
 split at h
 ·rename_i n;exact ⟨_,_,_,_,_,h.go,fun hfl=>otri_of_body (Γ:=[]) (by simp) Tryz.func75 (by simp[Tryz.ntmps75]) hfl (b75 n h.ok)⟩
 ·exact h.elim
theorem take_flat (xss:List (List (List UInt8))) (i:Nat):(xss.take (i+1)).flatten=(xss.take i).flatten++xss.getD i []:=by
 rw[List.take_add_one,List.flatten_append,List.getD_eq_getElem?_getD]
 cases xss[i]? <;>simp
theorem take_len (xss:List (List (List UInt8))) (i:Nat):(xss.take i).flatten.length≤xss.flatten.length:=by
 have:xss.flatten=(xss.take i).flatten++(xss.drop i).flatten:=by rw[← List.flatten_append,List.take_append_drop]
 rw[this,List.length_append];omega
def lsum (xss:List (List (List UInt8))) (i:Nat):Int:=((xss.take i).flatten.length:Nat)
theorem b34 (xss:List (List (List UInt8))) (h:xss.flatten.length≤1000000∧xss.length≤1000):body Tryz.prog [c75] { asks:=[(0,[]),(2,[1])] } true Tryz.f34 [.seq (.slice .str) xss] (.seq .str xss.flatten):=by
 have h2:=h.2
 have h:=h.1
 (repeat'((conv=>whnf);first|refine Zg fun _=>?_|fail))
 refine Ask.mk ⟨{ X:=Nat,pre:=fun i=>i≤xss.length,mod:=fun i _=>[(3,I (lsum xss i)),(11,I i)],mu:=fun i=>xss.length-i },rfl,?_⟩
 (repeat'((conv=>whnf);first|refine Zn ?_|fail))
 refine ⟨⟨(0:Nat),Nat.zero_le _,?_⟩,fun (i:Nat) (hi:i≤xss.length)=>?_⟩
 ·(repeat'(first|exact trivial|rfl|refine And.intro ?_ ?_|fail))
 ·have hs:lsum xss (i+1)=lsum xss i+(xss.getD i []).length:=by
   unfold lsum;rw[take_flat,List.length_append];omega
  have hs0:0≤lsum xss i∧lsum xss i≤1000000:=by
   have:=take_len xss i
   unfold lsum;omega
  have hs1:0≤lsum xss (i+1)∧lsum xss (i+1)≤1000000:=by
   have:=take_len xss (i+1)
   unfold lsum;omega
  skip
  (refine Br.mk (fun _=>?_) (fun _=>?_))
  ·(repeat'((conv=>whnf);first|refine Zg fun _=>?_|refine Zn ?_|refine Zj ?_|fail))
   (refine Br.mk (fun _=>?_) (fun _=>?_))
   ·rename_i hneg
    exfalso
    have:lsum xss i+((xss.getD i []).length:Int)<0:=hneg
    omega
   ·(repeat'((conv=>whnf);first|refine Zn ?_|fail))
    refine ⟨(i+1:Nat),?_,?_,?_⟩
    ·show xss.length-(i+1)<xss.length-i
     omega
    ·show i+1≤xss.length
     omega
    ·(repeat'(first|exact trivial|rfl|refine And.intro ?_ ?_|omega|fail))
  ·have hii:i=xss.length:=by omega
   subst hii
   (repeat'((conv=>whnf);first|refine Zg fun _=>?_|refine Zn ?_|fail))
   refine Ask.mk ⟨{ X:=Nat,pre:=fun i=>i≤xss.length,mod:=fun i _=>[(6,.ref 1 1),(27,I i)],objs:=[1],heap:=fun i _=>[.vec 1 .str [] 22,.vec 1 .str (xss.take i).flatten 22],mu:=fun i=>xss.length-i },rfl,?_⟩
   (repeat'((conv=>whnf);first|refine Zn ?_|fail))
   refine ⟨⟨(0:Nat),Nat.zero_le _,?_⟩,fun (i:Nat) (hi:i≤xss.length)=>?_⟩
   ·(repeat'(first|exact trivial|rfl|exact Nat.one_pos|refine And.intro ?_ ?_|fail))
   ·have hs2:(xss.take (i+1)).flatten=(xss.take i).flatten++xss.getD i []:=take_flat xss i
    have hs3:(xss.take i).flatten.length+(xss.getD i []).length≤1000000:=by
     have:=take_len xss (i+1)
     rw[hs2,List.length_append] at this;omega
    skip
    (refine Br.mk (fun _=>?_) (fun _=>?_))
    ·(repeat'((conv=>whnf);first|refine Zg fun _=>?_|refine Zn ?_|refine Zj ?_|fail))
     refine ⟨(i+1:Nat),?_,?_,?_⟩
     ·show xss.length-(i+1)<xss.length-i
      omega
     ·show i+1≤xss.length
      omega
     ·(repeat'(first|exact trivial|rfl|exact Nat.one_pos|refine And.intro ?_ ?_|fail))
      exact hs2.symm
    ·skip
     (conv=>whnf)
     skip
     rw[List.take_of_length_le (by omega)]
     skip
def c34:Con:=mkCon 34 true fun args K=>match args with | [.seq (.slice .str) xss]=>Need (xss.flatten.length≤1000000∧xss.length≤1000) (K (.seq .str xss.flatten)) | _=>False
theorem k34:ConOK Tryz.prog c34:=by
 refine conOK_of rfl (enters_of Tryz.func34 (by kernel_rfl) rfl) ?_
 intro args K h
 simp only[c34] at h
 split at h
 ·rename_i xss;exact ⟨_,h.go,tri_of_body (Γ:=[c75]) (by simp[k75]) Tryz.func34 (by simp[Tryz.ntmps34]) rfl (b34 xss h.ok)⟩
 ·exact h.elim
theorem b36 (l:List (List UInt8)) (h:l.length≤100000):bodyO Tryz.prog [] {} Tryz.f36 [.seq .str l] (.ref 0 1) .str l 22:=by
 (conv=>whnf)
 intro q hq
 skip
 (refine Br.mk (fun _=>?_) (fun _=>?_))
 ·rename_i hx
  have hx:=hq hx
  subst hx
  skip
  (conv=>whnf)
  (repeat'(first|rfl|refine And.intro ?_ ?_|fail))
 ·(repeat'((conv=>whnf);first|refine Zn ?_|fail))
  (conv=>whnf)
  (repeat'(first|rfl|refine And.intro ?_ ?_|fail))
def c36:Con:=ownCon 36 fun args K=>match args with | [.seq .str l]=>Need (l.length≤100000) (K (.ref 0 1) (.vec 1 (.str) (l) 22)) | _=>False
theorem k36:ConOK Tryz.prog c36:=by
 refine ownOK_of (enters_of Tryz.func36 (by kernel_rfl) rfl) ?_
 intro args K h
 split at h
 ·rename_i l;exact ⟨_,_,_,_,_,h.go,fun hfl=>otri_of_body (Γ:=[]) (by simp) Tryz.func36 (by simp[Tryz.ntmps36]) hfl (b36 l h.ok)⟩
 ·exact h.elim
def revAt (xs:List (List UInt8)) (k:Nat):List (List UInt8):=(List.range xs.length).map fun p=>if p<k∨xs.length-k≤p then xs.getD (xs.length-1-p) [] else xs.getD p []
theorem revAt_len (xs:List (List UInt8)) (k:Nat):(revAt xs k).length=xs.length:=by simp[revAt]
theorem revAt_get (xs:List (List UInt8)) (k p:Nat) (h:p<xs.length):(revAt xs k).getD p []=if p<k∨xs.length-k≤p then xs.getD (xs.length-1-p) [] else xs.getD p []:=by
 simp[revAt,List.getD_eq_getElem?_getD,h]
theorem str_ext {xs ys:List (List UInt8)} (hl:xs.length=ys.length) (h:∀i,i<xs.length→xs.getD i []=ys.getD i []):xs=ys:=by
 apply List.ext_getElem hl
 intro i h1 h2
 have:=h i h1
 simpa [List.getD_eq_getElem?_getD,h1,h2] using this
theorem set_getD {α:Type} (xs:List α) (i p:Nat) (v d:α):(xs.set i v).getD p d=if p=i∧p<xs.length then v else xs.getD p d:=by
 rw[List.getD_eq_getElem?_getD,List.getD_eq_getElem?_getD,List.getElem?_set]
 by_cases h:i=p
 ·subst h
  by_cases h2:i<xs.length
  ·simp[h2]
  ·simp[h2]
 ·have:¬p=i:=fun e=>h e.symm
  simp[h,this]
theorem revAt_zero (xs:List (List UInt8)):revAt xs 0=xs:=by
 refine str_ext (revAt_len xs 0) fun p hp=>?_
 rw[revAt_len] at hp
 rw[revAt_get _ _ _ hp,if_neg (by omega)]
theorem revAt_step (xs:List (List UInt8)) (k:Nat) (h:2*k+1<xs.length):((revAt xs k).set k ((revAt xs k).getD (xs.length-1-k) [])).set (xs.length-1-k) ((revAt xs k).getD k [])=revAt xs (k+1):=by
 refine str_ext (by simp[revAt_len]) fun p hp=>?_
 have hp:p<xs.length:=by simpa [revAt_len] using hp
 rw[set_getD,set_getD,List.length_set,revAt_len,revAt_get _ _ _ hp,revAt_get _ _ _ hp,revAt_get _ _ _ (by omega),revAt_get _ _ _ (by omega)]
 by_cases h1:p=xs.length-1-k
 ·rw[if_pos ⟨h1,hp⟩,if_neg (by omega),if_pos (by omega)]
  congr 1;omega
 ·rw[if_neg (fun h=>h1 h.1)]
  by_cases h2:p=k
  ·rw[if_pos ⟨h2,hp⟩,if_neg (by omega),if_pos (by omega)]
   congr 1;omega
  ·rw[if_neg (fun h=>h2 h.1)]
   by_cases h3:p<k∨xs.length-k≤p
   ·rw[if_pos h3,if_pos (by omega)]
   ·rw[if_neg h3,if_neg (by omega)]
theorem revAt_all (xs:List (List UInt8)) (k:Nat) (h:xs.length≤2*k+1):revAt xs k=xs.reverse:=by
 refine str_ext (by simp[revAt_len]) fun p hp=>?_
 have hp:p<xs.length:=by simpa [revAt_len] using hp
 have e:xs.reverse.getD p []=xs.getD (xs.length-1-p) []:=by
  rw[List.getD_eq_getElem?_getD,List.getD_eq_getElem?_getD,List.getElem?_reverse hp]
 rw[revAt_get _ _ _ hp,e]
 by_cases h3:p<k∨xs.length-k≤p
 ·rw[if_pos h3]
 ·rw[if_neg h3]
  congr 1;omega
theorem b37 (xs:List (List UInt8)) (h:xs.length≤100000):bodyL Tryz.prog [] { asks:=[(0,[])] } Tryz.f37 0 true [.any] .str xs 22 (.tup []) xs.reverse:=by
 (repeat'((conv=>whnf);first|refine Zg fun _=>?_|refine Zn ?_|fail))
 refine Ask.mk ⟨{ X:=Nat,pre:=fun k=>2*k≤xs.length,mod:=fun k _=>[(2,I k),(3,I ((xs.length:Int)-1-k))],heap:=fun k _=>[.vec 1 .str (revAt xs k) 22],mu:=fun k=>xs.length-k },rfl,?_⟩
 (repeat'((conv=>whnf);first|refine Zn ?_|fail))
 refine ⟨⟨(0:Nat),Nat.zero_le _,?_⟩,fun (k:Nat) (hk:2*k≤xs.length)=>?_⟩
 ·(repeat'(first|exact trivial|rfl|refine And.intro ?_ ?_|omega|fail))
  exact (revAt_zero xs).symm
 ·have hl:=revAt_len xs k
  skip
  (refine Br.mk (fun _=>?_) (fun _=>?_))
  ·have hst:=revAt_step xs k (by omega)
   have e1:(xs.length:Int)-1-k=((xs.length-1-k:Nat):Int):=by omega
   (repeat'((conv=>whnf);first|refine Zn ?_|(apply Pin.mk;apply Exists.intro)|apply Pinned.mk rfl rfl|fail))
   refine ix_at (xs.length-1-k) e1 ?_
   (repeat'((conv=>whnf);first|refine Zn ?_|refine Zj ?_|(apply Pin.mk;apply Exists.intro)|apply Pinned.mk rfl rfl|fail))
   refine ix_at (xs.length-1-k) e1 ?_
   (repeat'((conv=>whnf);first|refine Zn ?_|fail))
   refine ⟨(k+1:Nat),by show xs.length-(k+1)<xs.length-k;omega,by show 2*(k+1)≤xs.length;omega,?_⟩
   (repeat'(first|exact trivial|rfl|refine And.intro ?_ ?_|omega|fail))
   exact hst
  ·have hall:=revAt_all xs k (by omega)
   skip
   (repeat'(first|exact trivial|rfl|refine And.intro ?_ ?_|fail))
   exact hall
def c37:Con:=linCon 37 0 true fun args o K=>match args,o with | [.any],.vec 1 (.str) ws 22=>Need (ws.length≤100000) (K (.tup []) (.vec 1 (.str) (ws.reverse) 22)) | _,_=>False
theorem k37:ConOK Tryz.prog c37:=by
 refine linOK_of (enters_of Tryz.func37 (by kernel_rfl) rfl) ?_
 intro args t xs e K hfl h
 split at h
 ·rename_i zs heq
  cases heq
  first | exact ⟨_,_,h.go,ltri_of_body (Γ:=[]) (by simp) Tryz.func37 (by simp[Tryz.ntmps37]) rfl (b37 zs h.ok)⟩ | exact ⟨_,_,h.go,ltri_of_body (Γ:=[]) (by simp) Tryz.func37 (by simp[Tryz.ntmps37]) rfl (b37 xs h.ok)⟩
 ·exact h.elim
theorem fine_sz {a:List UInt8} {k:Nat} (h1:a.length≤k) (h2:chkQ a=0) (hk:0<k):a=numS (valQ a)∧Sz k (valQ a):=by
 obtain ⟨e,h3,h4⟩:=chkQ_ok h2
 refine ⟨e,?_,?_⟩
 ·refine dec_pow ?_
  rw[e] at h1
  unfold numS at h1
  have h5:(decDigits (valQ a).num.natAbs).length≤(itoa (valQ a).num).length:=by
   unfold itoa
   split
   ·simp
   ·rw[show (valQ a).num.toNat=(valQ a).num.natAbs by omega];exact Nat.le_refl _
  split at h1
  ·omega
  ·simp at h1;omega
 ·rw[e] at h1
  unfold numS at h1
  split at h1
  ·rename_i e1
   rw[e1];exact Nat.one_lt_pow (by omega) (by decide)
  ·refine dec_pow ?_
   simp at h1;omega
noncomputable def totQ:List (List UInt8)→Rat
 | []=>0
 | a::r=>valQ a+totQ r
theorem tot_app (l m:List (List UInt8)):totQ (l++m)=totQ l+totQ m:=by
 induction l with
 | nil=>show totQ m=0+totQ m;rw[Rat.zero_add]
 | cons a r ih=>show valQ a+totQ (r++m)=valQ a+totQ r+totQ m;rw[ih,Rat.add_assoc]
theorem tot_rev (l:List (List UInt8)):totQ l.reverse=totQ l:=by
 induction l with
 | nil=>rfl
 | cons a r ih=>
  rw[List.reverse_cons,tot_app,ih]
  show totQ r+(valQ a+0)=valQ a+totQ r
  rw[Rat.add_zero,Rat.add_comm]
theorem chkL_all {l:List (List UInt8)} (h:∀a∈l,chkQ a=0):chkL l=0:=by
 induction l with
 | nil=>rfl
 | cons a r ih=>
  unfold chkL
  rw[if_neg (fun hn=>hn (h a (List.mem_cons_self ..)))]
  exact ih fun b hb=>h b (List.mem_cons_of_mem _ hb)
theorem sumR_sz {l:List (List UInt8)} (h:∀a∈l,a.length≤30∧chkQ a=0):∀ {k:Nat} {q:Rat},Sz k q→0<k→k+31*l.length≤300→sumR (numS q) l=(numS (q+totQ l),0)∧Sz (k+31*l.length) (q+totQ l):=by
 induction l with
 | nil=>
  intro k q hq hk hl
  have e:q+totQ []=q:=Rat.add_zero q
  rw[e]
  exact ⟨rfl,hq⟩
 | cons a r ih=>
  intro k q hq hk hl
  simp only[List.length_cons] at hl ⊢
  have ha:=h a (List.mem_cons_self ..)
  obtain ⟨e1,e2⟩:=fine_sz ha.1 ha.2 (by omega)
  have e3:=addQ_sz hq e2 hk (by omega) (by omega)
  rw[← e1] at e3
  have hs:=hq.add e2
  have:=ih (fun b hb=>h b (List.mem_cons_of_mem _ hb)) hs (by omega) (by omega)
  have e4:q+totQ (a::r)=q+valQ a+totQ r:=(Rat.add_assoc q (valQ a) (totQ r)).symm
  unfold sumR
  rw[e3,e4]
  refine ⟨by rw[if_neg (fun hn=>hn rfl)];exact this.1,?_⟩
  rw[show k+31*(r.length+1)=k+30+1+31*r.length by omega]
  exact this.2
theorem sumQ_sz {l:List (List UInt8)} (h:∀a∈l,a.length≤30∧chkQ a=0) (hl:l.length≤9):sumQ l=(numS (totQ l),0)∧Sz (1+31*l.length) (totQ l):=by
 have:=sumR_sz h sz0 (by omega) (by omega)
 rw[Rat.zero_add,numS0] at this
 unfold sumQ
 rw[if_neg (by omega),if_neg (fun hn=>hn (chkL_all fun a ha=>(h a ha).2))]
 exact this
set_option maxHeartbeats 8000000 in
theorem b7 (l m:List (List UInt8)) (hl:l.length≤maxL) (hm:m.length≤maxL):body Tryz.prog [c11,c12,c33s,c34,c36,c37,c27,c17] {} true Tryz.f7 [.seq .str l,.seq .str m] (.val (.bool true)):=by
 (repeat'((conv=>whnf);first|refine Zg fun _=>?_|fail))
 (refine Br.mk (fun _=>?_) (fun _=>?_))
 ·skip
  (conv=>whnf)
  skip
 rename_i h1
 (repeat'((conv=>whnf);first|refine Zg fun _=>?_|fail))
 (refine Br.mk (fun _=>?_) (fun _=>?_))
 ·skip
  (conv=>whnf)
  skip
 rename_i h2
 skip
 (refine Br.mk (fun _=>?_) (fun _=>?_))
 ·skip
  (conv=>whnf)
  skip
 rename_i h3
 have h3:fineL l:=Classical.not_not.1 h3
 skip
 (refine Br.mk (fun _=>?_) (fun _=>?_))
 ·skip
  (conv=>whnf)
  skip
 rename_i h4
 have h4:fineL m:=Classical.not_not.1 h4
 have hN:([l,m]:List (List (List UInt8))).flatten.length≤1000000∧([l,m]:List (List (List UInt8))).length≤1000:=by
  refine ⟨?_,by simp⟩
  simp
  omega
 have hfl:([l,m]:List (List (List UInt8))).flatten=l++m:=by simp
 obtain ⟨lm,hlm⟩:∃lm,([l,m]:List (List (List UInt8))).flatten=lm:=⟨_,rfl⟩
 (repeat'((conv=>whnf);first|refine Zn ?_|refine Zl ?_|fail))
 (conv=>whnf)
 (refine Br.mk (fun _=>?_) (fun _=>?_))
 ·skip
  (conv=>whnf)
  skip
 rename_i h5
 have h5:¬0≤ixW ([l,m]:List (List (List UInt8))).flatten:=h5
 rw[hfl] at h5
 have h6:=ixW_none h5
 have hL:∀a∈l,a.length≤30∧chkQ a=0:=fun a ha=>⟨h6 a (List.mem_append_left _ ha),(h3 a ha).2⟩
 have hM:∀a∈m,a.length≤30∧chkQ a=0:=fun a ha=>⟨h6 a (List.mem_append_right _ ha),(h4 a ha).2⟩
 have hR:∀a∈l.reverse,a.length≤30∧chkQ a=0:=fun a ha=>hL a (List.mem_reverse.1 ha)
 have hA:∀a∈l++m,a.length≤30∧chkQ a=0:=fun a ha=>(List.mem_append.1 ha).elim (hL a) (hM a)
 have e1:=sumQ_sz hL (by omega)
 have e2:=sumQ_sz hM (by omega)
 have e3:=sumQ_sz hR (by rw[List.length_reverse];omega)
 have e4:=sumQ_sz hA (by rw[List.length_append];omega)
 rw[tot_rev] at e3
 rw[tot_app] at e4
 have e5:=addQ_sz e1.2 e2.2 (by omega) (by omega) (by omega)
 (repeat'((conv=>whnf);first|refine Zn ?_|refine Zl ?_|fail))
 (conv=>whnf)
 refine Br.mkY (show (sumQ l).2=0 by rw[e1.1]) ?_
 skip
 (conv=>whnf)
 refine Br.mkY (show (sumQ l.reverse).2=0 by rw[e3.1]) ?_
 skip
 (conv=>whnf)
 refine Br.mkY (show (sumQ m).2=0 by rw[e2.1]) ?_
 skip
 (conv=>whnf)
 refine Br.mkY (show (sumQ ([l,m]:List (List (List UInt8))).flatten).2=0 by rw[hfl,e4.1]) ?_
 skip
 (conv=>whnf)
 refine Br.mkY (show (addQ (sumQ l).1 (sumQ m).1).2=0 by rw[e1.1,e2.1,e5]) ?_
 skip
 (conv=>whnf)
 refine Br.mkY (show (sumQ l).1=(sumQ l.reverse).1 by rw[e1.1,e3.1]) ?_
 skip
 (conv=>whnf)
 refine Br.mkY (show (sumQ ([l,m]:List (List (List UInt8))).flatten).1=(addQ (sumQ l).1 (sumQ m).1).1 by rw[hfl,e4.1,e1.1,e2.1,e5]) ?_
 skip
 (conv=>whnf)
 skip
theorem t7 (l m:List (List UInt8)) (h1:Okd (.slice .str) l) (h2:Okd (.slice .str) m):Tri Tryz.prog true 7 [.seq .str l,.seq .str m] (.val (.bool true)):=
 tri_of_body (Γ:=[c11,c12,c33s,c34,c36,c37,c27,c17]) (by simp[k11,k12,k33s,k34,k36,k37,k27,k17]) Tryz.func7 (by simp[Tryz.ntmps7]) rfl (b7 l m h1.1 h2.1)
end RB
end

/-
  Part 7: a symbolic executor over the model, contracts of functions and plain laws.
-/
import Derived.Test.YtpbmdklaeigpnaaGreatDoorP6
import Init.Data.Rat
section
open Go Go.Proofs Go.Eng Go.Shelf IB Go.Lib Go.RowKit
namespace RB
set_option maxRecDepth 10000
set_option linter.unusedVariables false
set_option linter.unusedSimpArgs false
theorem three_cases {p q:Prop} (hs:¬(p∧q)):(¬p∧q)∨(¬p∧¬q)∨(p∧¬q):=by
 by_cases h1:p
 ·exact .inr (.inr ⟨h1,fun h2=>hs ⟨h1,h2⟩⟩)
 ·by_cases h2:q
  ·exact .inl ⟨h1,h2⟩
  ·exact .inr (.inl ⟨h1,h2⟩)
theorem mulf_ok {p q:Rat} (l1:lim (p.num*q.num)=false) (l2:lim (p.den*q.den)=false):mulf p q=(numS (p*q),0):=by
 unfold mulf
 rw[if_neg (by simp[l1,l2])]
theorem mul_div (p q:Rat):Rat.divInt (p.num*q.num) (p.den*q.den)=p*q:=by
 rw[mul_parts,← Int.natCast_mul,Rat.divInt_ofNat]
set_option maxHeartbeats 8000000 in
theorem b41g (a b:List UInt8) (ha:chkQ a=0) (hb:chkQ b=0):body Tryz.prog [c78,c70,c62,c65,c80] {} true Tryz.f83 [S a,S b] (.tup [S (mulf (valQ a) (valQ b)).1,I (mulf (valQ a) (valQ b)).2]):=by
 have hp:=(chk_num ha).2
 have hq:=(chk_num hb).2
 obtain ⟨cn1,vn1,ln1⟩:=chk_pn hp
 obtain ⟨cn2,vn2,ln2⟩:=chk_pn hq
 obtain ⟨cd1,vd1⟩:=chk_pd hp
 obtain ⟨cd2,vd2⟩:=chk_pd hq
 have d1:=(valQ a).den_pos
 have d2:=(valQ b).den_pos
 have hc:¬chkB a b≠0:=by unfold chkB;rw[if_neg (by rw[ha];simp),hb];simp
 by_cases hs:smR (valQ a)∧smR (valQ b)
 ·have s1:=smR_lt hs.1
  have s2:=smR_lt hs.2
  have m1:=mul9 (x:=(valQ a).num) (y:=(valQ b).num) s1.1 s2.1
  have m3:=mul9 (x:=((valQ a).den:Int)) (y:=((valQ b).den:Int)) (by omega) (by omega)
  have m4:0<((valQ a).den:Int)*((valQ b).den:Int):=Int.mul_pos (by omega) (by omega)
  have ea:=mulf_ok (p:=valQ a) (q:=valQ b) (lim_small (by omega)) (lim_small (by omega))
  skip
  refine Br.mkN (show ¬ ¬chkB a b=0 from hc) ?_
  (repeat'((conv=>whnf);first|refine Zn ?_|fail))
  refine Br.mkY hs.1 ?_
  (repeat'((conv=>whnf);first|refine Zn ?_|fail))
  refine Br.mkY hs.2 ?_
  (repeat'((conv=>whnf);first|refine Zn ?_|fail))
  (conv=>whnf)
  (repeat'(first|exact trivial|rfl|refine And.intro ?_ ?_|fail))
  ·(conv=>whnf)
   rw[ea,← mul_div]
  ·(conv=>whnf)
   rw[ea]
 ·have n4:ok4 (pn (valQ a)) (pd (valQ a)) (pn (valQ b)) (pd (valQ b))∧valI (pd (valQ a))*valI (pd (valQ b))≠0:=⟨⟨⟨cn1,cd1⟩,cn2,cd2⟩,by rw[vd1,vd2];exact Int.mul_ne_zero (by omega) (by omega)⟩
  rcases three_cases hs with ⟨h1,h2⟩ | ⟨h1,h2⟩ | ⟨h1,h2⟩
  all_goals skip
  all_goals refine Br.mkN (show ¬ ¬chkB a b=0 from hc) ?_
  all_goals (repeat'((conv=>whnf);first|refine Zn ?_|fail))
  all_goals first | refine Br.mkN h1 ?_ | refine Br.mkY h1 ?_
  all_goals (repeat'((conv=>whnf);first|refine Zn ?_|fail))
  all_goals first | refine Br.mkN h2 ?_ | refine Br.mkY h2 ?_
  all_goals (repeat'((conv=>whnf);first|refine Zn ?_|fail))
  all_goals
   by_cases hl:lim (valI (pn (valQ a))*valI (pn (valQ b)))=true∨lim (valI (pd (valQ a))*valI (pd (valQ b)))=true
   ·have ea:mulf (valQ a) (valQ b)=([],4):=by
     rw[vn1,vn2,vd1,vd2] at hl
     unfold mulf
     rw[if_pos (by simpa using hl)]
    refine Br.mkY hl ?_
    skip
    (conv=>whnf)
    (repeat'(first|exact trivial|rfl|refine And.intro ?_ ?_|fail))
    ·(conv=>whnf)
     rw[ea]
    ·(conv=>whnf)
     rw[ea]
   ·refine Br.mkN hl ?_
    rw[vn1,vn2,vd1,vd2] at hl
    have ea:=mulf_ok (p:=valQ a) (q:=valQ b) (by simpa using fun h=>hl (.inl h)) (by simpa using fun h=>hl (.inr h))
    skip
    (conv=>whnf)
    (repeat'(first|exact trivial|rfl|refine And.intro ?_ ?_|fail))
    ·(conv=>whnf)
     rw[ea,vn1,vn2,vd1,vd2,mul_div]
    ·(conv=>whnf)
     rw[ea]
theorem b41 (a b:List UInt8):body Tryz.prog [c78,c70,c62,c65,c80] {} true Tryz.f83 [S a,S b] (.tup [S (mulQ a b).1,I (mulQ a b).2]):=by
 by_cases h:chkB a b≠0
 ·have e:mulQ a b=([],chkB a b):=bad2 h _
  rw[e]
  skip
  refine Br.mkY h ?_
  skip
  (conv=>whnf)
  (repeat'(first|exact trivial|rfl|refine And.intro ?_ ?_|fail))
 ·have e:mulQ a b=mulf (valQ a) (valQ b):=good_both (good2 h) _
  rw[e]
  exact b41g a b (good2 h).1 (good2 h).2
def c41:Con:=mkCon 83 true fun args K=>match args with | [.str a,.str b]=>K (.tup [S (mulQ a b).1,I (mulQ a b).2]) | _=>False
theorem k41:ConOK Tryz.prog c41:=by
 refine conOK_of rfl (enters_of Tryz.func83 (by kernel_rfl) rfl) ?_
 intro args K h
 simp only[c41] at h
 split at h
 ·rename_i a b;exact ⟨_,h,tri_of_body (Γ:=[c78,c70,c62,c65,c80]) (by simp[k78,k70,k62,k65,k80]) Tryz.func83 (by simp[Tryz.ntmps83]) rfl (b41 a b)⟩
 ·exact h.elim
theorem divf_ok {p q:Rat} (h0:q≠0) (l1:lim (p.num*q.den)=false) (l2:lim (q.num*p.den)=false):divf p q=(numS (p/q),0):=by
 unfold divf
 rw[if_neg h0,if_neg (by simp[l1,l2])]
set_option maxHeartbeats 8000000 in
theorem b42g (a b:List UInt8) (ha:chkQ a=0) (hb:chkQ b=0):body Tryz.prog [c78,c70,c62,c65,c80] {} true Tryz.f84 [S a,S b] (.tup [S (divf (valQ a) (valQ b)).1,I (divf (valQ a) (valQ b)).2]):=by
 have hp:=(chk_num ha).2
 have hq:=(chk_num hb).2
 obtain ⟨cn1,vn1,ln1⟩:=chk_pn hp
 obtain ⟨cn2,vn2,ln2⟩:=chk_pn hq
 obtain ⟨cd1,vd1⟩:=chk_pd hp
 obtain ⟨cd2,vd2⟩:=chk_pd hq
 have d1:=(valQ a).den_pos
 have d2:=(valQ b).den_pos
 have hc:¬chkB a b≠0:=by unfold chkB;rw[if_neg (by rw[ha];simp),hb];simp
 have eb:=(chk_num hb).1
 have hz:b= [48]↔valQ b=0:=by
  conv=>lhs;lhs;rw[eb]
  exact numS_48 _
 by_cases h0:valQ b=0
 ·have ea:divf (valQ a) (valQ b)=([],12):=by unfold divf;rw[if_pos h0]
  skip
  refine Br.mkN (show ¬ ¬chkB a b=0 from hc) ?_
  skip
  refine Br.mkY (hz.2 h0) ?_
  skip
  (conv=>whnf)
  (repeat'(first|exact trivial|rfl|refine And.intro ?_ ?_|fail))
  ·(conv=>whnf)
   rw[ea]
  ·(conv=>whnf)
   rw[ea]
 ·have hb48:¬b= [48]:=fun h=>h0 (hz.1 h)
  have hn0:(valQ b).num≠0:=fun h=>h0 (Rat.num_eq_zero.1 h)
  have ed:=div_parts (valQ a) (valQ b) h0
  by_cases hs:smR (valQ a)∧smR (valQ b)
  ·have s1:=smR_lt hs.1
   have s2:=smR_lt hs.2
   have m1:=mul9 (x:=(valQ a).num) (y:=((valQ b).den:Int)) s1.1 (by omega)
   have m2:=mul9 (x:=((valQ a).den:Int)) (y:=(valQ b).num) (by omega) s2.1
   have m3:(valQ b).num*((valQ a).den:Int)=((valQ a).den:Int)*(valQ b).num:=Int.mul_comm _ _
   have ea:=divf_ok (p:=valQ a) (q:=valQ b) h0 (lim_small (by omega)) (lim_small (by omega))
   skip
   refine Br.mkN (show ¬ ¬chkB a b=0 from hc) ?_
   skip
   refine Br.mkN hb48 ?_
   (repeat'((conv=>whnf);first|refine Zn ?_|fail))
   refine Br.mkY hs.1 ?_
   (repeat'((conv=>whnf);first|refine Zn ?_|fail))
   refine Br.mkY hs.2 ?_
   skip
   by_cases hneg:(valQ b).num<0
   ·refine Br.mkY hneg ?_
    have e1:(valQ a).num * -((valQ b).den:Int)= -((valQ a).num*((valQ b).den:Int)):=Int.mul_neg _ _
    have e2:((valQ a).den:Int) * -(valQ b).num= -(((valQ a).den:Int)*(valQ b).num):=Int.mul_neg _ _
    have m4:((valQ a).den:Int)*(valQ b).num<0:=Int.mul_neg_of_pos_of_neg (by omega) hneg
    (repeat'((conv=>whnf);first|refine Zn ?_|fail))
    (conv=>whnf)
    (repeat'(first|exact trivial|rfl|refine And.intro ?_ ?_|fail))
    ·(conv=>whnf)
     rw[ea,ed,e1,e2,Rat.neg_divInt_neg]
    ·(conv=>whnf)
     rw[ea]
   ·refine Br.mkN hneg ?_
    have m4:0<((valQ a).den:Int)*(valQ b).num:=Int.mul_pos (by omega) (by omega)
    (repeat'((conv=>whnf);first|refine Zn ?_|fail))
    (conv=>whnf)
    (repeat'(first|exact trivial|rfl|refine And.intro ?_ ?_|fail))
    ·(conv=>whnf)
     rw[ea,ed]
    ·(conv=>whnf)
     rw[ea]
  ·have n4:ok4 (pn (valQ a)) (pd (valQ a)) (pd (valQ b)) (pn (valQ b))∧valI (pd (valQ a))*valI (pn (valQ b))≠0:=⟨⟨⟨cn1,cd1⟩,cd2,cn2⟩,by rw[vd1,vn2];exact Int.mul_ne_zero (by omega) hn0⟩
   rcases three_cases hs with ⟨h1,h2⟩ | ⟨h1,h2⟩ | ⟨h1,h2⟩
   all_goals skip
   all_goals refine Br.mkN (show ¬ ¬chkB a b=0 from hc) ?_
   all_goals skip
   all_goals refine Br.mkN hb48 ?_
   all_goals (repeat'((conv=>whnf);first|refine Zn ?_|fail))
   all_goals first | refine Br.mkN h1 ?_ | refine Br.mkY h1 ?_
   all_goals (repeat'((conv=>whnf);first|refine Zn ?_|fail))
   all_goals first | refine Br.mkN h2 ?_ | refine Br.mkY h2 ?_
   all_goals (repeat'((conv=>whnf);first|refine Zn ?_|fail))
   all_goals
    by_cases hl:lim (valI (pn (valQ a))*valI (pd (valQ b)))=true∨lim (valI (pd (valQ a))*valI (pn (valQ b)))=true
    ·have ea:divf (valQ a) (valQ b)=([],4):=by
      rw[vn1,vn2,vd1,vd2,Int.mul_comm ((valQ a).den:Int)] at hl
      unfold divf
      rw[if_neg h0,if_pos (by simpa using hl)]
     refine Br.mkY hl ?_
     skip
     (conv=>whnf)
     (repeat'(first|exact trivial|rfl|refine And.intro ?_ ?_|fail))
     ·(conv=>whnf)
      rw[ea]
     ·(conv=>whnf)
      rw[ea]
    ·refine Br.mkN hl ?_
     rw[vn1,vn2,vd1,vd2,Int.mul_comm ((valQ a).den:Int)] at hl
     have ea:=divf_ok (p:=valQ a) (q:=valQ b) h0 (by simpa using fun h=>hl (.inl h)) (by simpa using fun h=>hl (.inr h))
     skip
     (conv=>whnf)
     (repeat'(first|exact trivial|rfl|refine And.intro ?_ ?_|fail))
     ·(conv=>whnf)
      rw[ea,ed,vn1,vn2,vd1,vd2]
     ·(conv=>whnf)
      rw[ea]
theorem b42 (a b:List UInt8):body Tryz.prog [c78,c70,c62,c65,c80] {} true Tryz.f84 [S a,S b] (.tup [S (divQ a b).1,I (divQ a b).2]):=by
 by_cases h:chkB a b≠0
 ·have e:divQ a b=([],chkB a b):=bad2 h _
  rw[e]
  skip
  refine Br.mkY h ?_
  skip
  (conv=>whnf)
  (repeat'(first|exact trivial|rfl|refine And.intro ?_ ?_|fail))
 ·have e:divQ a b=divf (valQ a) (valQ b):=good_both (good2 h) _
  rw[e]
  exact b42g a b (good2 h).1 (good2 h).2
def c42:Con:=mkCon 84 true fun args K=>match args with | [.str a,.str b]=>K (.tup [S (divQ a b).1,I (divQ a b).2]) | _=>False
theorem k42:ConOK Tryz.prog c42:=by
 refine conOK_of rfl (enters_of Tryz.func84 (by kernel_rfl) rfl) ?_
 intro args K h
 simp only[c42] at h
 split at h
 ·rename_i a b;exact ⟨_,h,tri_of_body (Γ:=[c78,c70,c62,c65,c80]) (by simp[k78,k70,k62,k65,k80]) Tryz.func84 (by simp[Tryz.ntmps84]) rfl (b42 a b)⟩
 ·exact h.elim
theorem cmpQ_bad {a b:List UInt8} (h:chkB a b≠0):cmpQ a b=(0,chkB a b):=by
 unfold cmpQ chkB at*
 by_cases h1:chkQ a≠0
 ·rw[if_pos h1,if_pos h1]
 ·rw[if_neg h1] at h ⊢
  rw[if_pos h,if_neg h1]
theorem cmpQ_good {a b:List UInt8} (h:chkQ a=0∧chkQ b=0):cmpQ a b=cmpf (valQ a) (valQ b):=by
 unfold cmpQ
 rw[if_neg (by rw[h.1];simp),if_neg (by rw[h.2];simp)]
theorem cmpf_ok {p q:Rat} (l1:lim (p.num*q.den)=false) (l2:lim (q.num*p.den)=false):cmpf p q=(cmpI (p.num*q.den) (q.num*p.den),0):=by
 unfold cmpf
 rw[if_neg (by simp[l1,l2])]
set_option maxHeartbeats 8000000 in
theorem b43g (a b:List UInt8) (ha:chkQ a=0) (hb:chkQ b=0):body Tryz.prog [c78,c70,c65,c81,c82] {} true Tryz.f75 [S a,S b] (.tup [I (cmpf (valQ a) (valQ b)).1,I (cmpf (valQ a) (valQ b)).2]):=by
 have hp:=(chk_num ha).2
 have hq:=(chk_num hb).2
 obtain ⟨cn1,vn1,ln1⟩:=chk_pn hp
 obtain ⟨cn2,vn2,ln2⟩:=chk_pn hq
 obtain ⟨cd1,vd1⟩:=chk_pd hp
 obtain ⟨cd2,vd2⟩:=chk_pd hq
 have d1:=(valQ a).den_pos
 have d2:=(valQ b).den_pos
 have hc:¬chkB a b≠0:=by unfold chkB;rw[if_neg (by rw[ha];simp),hb];simp
 by_cases hs:smR (valQ a)∧smR (valQ b)
 ·have s1:=smR_lt hs.1
  have s2:=smR_lt hs.2
  have m1:=mul9 (x:=(valQ a).num) (y:=((valQ b).den:Int)) s1.1 (by omega)
  have m2:=mul9 (x:=(valQ b).num) (y:=((valQ a).den:Int)) s2.1 (by omega)
  have ea:=cmpf_ok (p:=valQ a) (q:=valQ b) (lim_small (by omega)) (lim_small (by omega))
  skip
  refine Br.mkN (show ¬ ¬chkB a b=0 from hc) ?_
  (repeat'((conv=>whnf);first|refine Zn ?_|fail))
  refine Br.mkY hs.1 ?_
  (repeat'((conv=>whnf);first|refine Zn ?_|fail))
  refine Br.mkY hs.2 ?_
  (repeat'((conv=>whnf);first|refine Zn ?_|fail))
  (refine Br.mk (fun _=>?_) (fun _=>?_))
  ·rename_i hx
   skip
   (conv=>whnf)
   (repeat'(first|exact trivial|rfl|refine And.intro ?_ ?_|fail))
   ·(conv=>whnf)
    rw[ea];unfold cmpI;rw[if_pos hx]
   ·(conv=>whnf)
    rw[ea]
  ·rename_i hx
   (repeat'((conv=>whnf);first|refine Zn ?_|fail))
   (refine Br.mk (fun _=>?_) (fun _=>?_))
   ·rename_i hy
    skip
    (conv=>whnf)
    (repeat'(first|exact trivial|rfl|refine And.intro ?_ ?_|fail))
    ·(conv=>whnf)
     rw[ea];unfold cmpI;rw[if_neg hx,if_neg (by omega)]
    ·(conv=>whnf)
     rw[ea]
   ·rename_i hy
    skip
    (conv=>whnf)
    (repeat'(first|exact trivial|rfl|refine And.intro ?_ ?_|fail))
    ·(conv=>whnf)
     rw[ea];unfold cmpI;rw[if_neg hx,if_pos (by omega)]
    ·(conv=>whnf)
     rw[ea]
 ·have n4:ok4 (pn (valQ a)) (pd (valQ b)) (pn (valQ b)) (pd (valQ a)):=⟨⟨cn1,cd2⟩,cn2,cd1⟩
  rcases three_cases hs with ⟨h1,h2⟩ | ⟨h1,h2⟩ | ⟨h1,h2⟩
  all_goals skip
  all_goals refine Br.mkN (show ¬ ¬chkB a b=0 from hc) ?_
  all_goals (repeat'((conv=>whnf);first|refine Zn ?_|fail))
  all_goals first | refine Br.mkN h1 ?_ | refine Br.mkY h1 ?_
  all_goals (repeat'((conv=>whnf);first|refine Zn ?_|fail))
  all_goals first | refine Br.mkN h2 ?_ | refine Br.mkY h2 ?_
  all_goals (repeat'((conv=>whnf);first|refine Zn ?_|fail))
  all_goals
   rcases lim_cases ((valQ a).num*((valQ b).den:Int)) with l1 | l1
   ·have ea:cmpf (valQ a) (valQ b)=(0,4):=by unfold cmpf;rw[if_pos (by simp[l1])]
    refine Br.mkY (show lim (valI (pn (valQ a))*valI (pd (valQ b)))=true by rw[vn1,vd2];exact l1) ?_
    (repeat'((conv=>whnf);first|refine Zy ?_|fail))
    (conv=>whnf)
    (repeat'(first|exact trivial|rfl|refine And.intro ?_ ?_|fail))
    ·(conv=>whnf)
     rw[ea]
    ·(conv=>whnf)
     rw[ea]
   ·refine Br.mkN (show ¬lim (valI (pn (valQ a))*valI (pd (valQ b)))=true by rw[vn1,vd2,l1];decide) ?_
    skip
    rcases lim_cases ((valQ b).num*((valQ a).den:Int)) with l2 | l2
    ·have ea:cmpf (valQ a) (valQ b)=(0,4):=by unfold cmpf;rw[if_pos (by simp[l2])]
     have e4:resI (valI (pn (valQ b))*valI (pd (valQ a)))=([],4):=by rw[vn2,vd1];exact resI_no l2
     refine Br.mkY (show ¬(resI (valI (pn (valQ b))*valI (pd (valQ a)))).2=0 by rw[e4];decide) ?_
     skip
     (conv=>whnf)
     (repeat'(first|exact trivial|rfl|refine And.intro ?_ ?_|fail))
     ·(conv=>whnf)
      rw[ea]
     ·(conv=>whnf)
      rw[ea,e4]
    ·have e4:resI (valI (pn (valQ b))*valI (pd (valQ a)))=(itoa ((valQ b).num*((valQ a).den:Int)),0):=by rw[vn2,vd1];exact resI_ok l2
     refine Br.mkN (show ¬ ¬(resI (valI (pn (valQ b))*valI (pd (valQ a)))).2=0 by rw[e4];simp) ?_
     have ea:=cmpf_ok l1 l2
     have n5:chkI (itoa (valI (pn (valQ a))*valI (pd (valQ b))))=0∧chkI (resI (valI (pn (valQ b))*valI (pd (valQ a)))).1=0:=by
      rw[e4,vn1,vd2]
      exact ⟨chk_itoa l1,chk_itoa l2⟩
     (repeat'((conv=>whnf);first|refine Zn ?_|fail))
     (conv=>whnf)
     (repeat'(first|exact trivial|rfl|refine And.intro ?_ ?_|fail))
     ·(conv=>whnf)
      rw[ea,e4,vn1,vd2,valI_itoa,valI_itoa]
     ·(conv=>whnf)
      rw[ea]
theorem b43 (a b:List UInt8):body Tryz.prog [c78,c70,c65,c81,c82] {} true Tryz.f75 [S a,S b] (.tup [I (cmpQ a b).1,I (cmpQ a b).2]):=by
 by_cases h:chkB a b≠0
 ·rw[cmpQ_bad h]
  skip
  refine Br.mkY h ?_
  skip
  (conv=>whnf)
  (repeat'(first|exact trivial|rfl|refine And.intro ?_ ?_|fail))
 ·rw[cmpQ_good (good2 h)]
  exact b43g a b (good2 h).1 (good2 h).2
def c43:Con:=mkCon 75 true fun args K=>match args with | [.str a,.str b]=>K (.tup [I (cmpQ a b).1,I (cmpQ a b).2]) | _=>False
theorem k43:ConOK Tryz.prog c43:=by
 refine conOK_of rfl (enters_of Tryz.func75 (by kernel_rfl) rfl) ?_
 intro args K h
 simp only[c43] at h
 split at h
 ·rename_i a b;exact ⟨_,h,tri_of_body (Γ:=[c78,c70,c65,c81,c82]) (by simp[k78,k70,k65,k81,k82]) Tryz.func75 (by simp[Tryz.ntmps75]) rfl (b43 a b)⟩
 ·exact h.elim
set_option linter.unusedSimpArgs false
def longL (l:List (List UInt8)):Prop:=(∃a∈l,longS a)∨8<l.length
noncomputable instance (l:List (List UInt8)):Decidable (longL l):=Classical.propDecidable _
theorem b26 (a:List UInt8):body Tryz.prog [c44,c65] {} true Tryz.f117 [S a] (.tup [S (ptQ a).1,S (ptQ a).2,I (chkQ a)]):=by
 by_cases h:chkQ a=0
 ·have e:ptQ a=(pn (valQ a),pd (valQ a)):=by unfold ptQ;rw[if_pos h]
  rw[e]
  skip
  refine Br.mkN (show ¬ ¬chkQ a=0 from fun h'=>h' h) ?_
  (repeat'((conv=>whnf);first|refine Zn ?_|fail))
  (conv=>whnf)
  (repeat'(first|exact trivial|rfl|refine And.intro ?_ ?_|fail))
  (conv=>whnf)
  exact h.symm
 ·have e:ptQ a=([],[]):=by unfold ptQ;rw[if_neg h]
  rw[e]
  skip
  refine Br.mkY h ?_
  skip
  (conv=>whnf)
  (repeat'(first|exact trivial|rfl|refine And.intro ?_ ?_|fail))
def c26:Con:=mkCon 117 true fun args K=>match args with | [.str a]=>K (.tup [S (ptQ a).1,S (ptQ a).2,I (chkQ a)]) | _=>False
theorem k26:ConOK Tryz.prog c26:=by
 refine conOK_of rfl (enters_of Tryz.func117 (by kernel_rfl) rfl) ?_
 intro args K h
 simp only[c26] at h
 split at h
 ·rename_i a;exact ⟨_,h,tri_of_body (Γ:=[c44,c65]) (by simp[k44,k65]) Tryz.func117 (by simp[Tryz.ntmps117]) rfl (b26 a)⟩
 ·exact h.elim
theorem nat10_cons (c:UInt8) (r:List UInt8):nat10 (c::r)=nat10 [c]*10^r.length+nat10 r:=nat10_append [c] r
set_option linter.unusedSimpArgs false
set_option linter.unusedSimpArgs false
noncomputable def sumR:List UInt8→List (List UInt8)→List UInt8 × Int
 | s,[]=>(s,0)
 | s,a::r=>if (addQ s a).2≠0 then ([],(addQ s a).2) else sumR (addQ s a).1 r
noncomputable def chkL:List (List UInt8)→Int
 | []=>0
 | a::r=>if chkQ a≠0 then chkQ a else chkL r
noncomputable def sumQ (l:List (List UInt8)):List UInt8 × Int:=if 4096<l.length then ([],4) else if chkL l≠0 then ([],chkL l) else sumR [48] l
theorem drop_get {l:List (List UInt8)} {k:Nat} (h:k<l.length):l.drop k=l.getD k []::l.drop (k+1):=by
 rw[List.drop_eq_getElem_cons h]
 simp[List.getD_eq_getElem?_getD,h]
theorem lim_sz {n:Int} (h:lim n=false):n.natAbs<10^300:=by
 unfold lim at h
 exact dec_pow (k:=300) (by simpa using h)
theorem chk_add {p q:Rat} (h:(addf p q).2=0):chkQ (addf p q).1=0:=by
 unfold addf at h ⊢
 split at h
 ·exact absurd h (by decide)
 ·rename_i hl
  rw[if_neg hl]
  simp only[Bool.or_eq_true,not_or,Bool.not_eq_true] at hl
  obtain ⟨⟨⟨l1,l2⟩,l3⟩,l4⟩:=hl
  have h4:=lim_sz l4
  rw[← Int.natCast_mul,Int.natAbs_natCast] at h4
  have:Sz 300 (p+q):=by
   rw[add_parts]
   exact mk_sz (den_ne p q) (lim_sz l3) h4
  exact chk_sz this ⟨by decide,by decide⟩
theorem add_good {s a:List UInt8} (h:chkQ s=0∧chkQ a=0):addQ s a=addf (valQ s) (valQ a):=good_both h _
theorem chk48:chkQ [48]=0:=by
 rw[← numS0]
 exact chk_sz sz0 ⟨by decide,by decide⟩
theorem b28 (l:List (List UInt8)):body Tryz.prog [c44,c67] { asks:=[(0,[]),(2,[])] } true Tryz.f85 [.seq .str l] (.tup [S (sumQ l).1,I (sumQ l).2]):=by
 by_cases hl:4096<l.length
 ·have e:sumQ l=([],4):=by unfold sumQ;rw[if_pos hl]
  rw[e]
  (repeat'((conv=>whnf);first|refine Zg fun _=>?_|refine Zy ?_|fail))
  (conv=>whnf)
  (repeat'(first|exact trivial|rfl|refine And.intro ?_ ?_|fail))
 ·have e0:sumQ l=if chkL l≠0 then ([],chkL l) else sumR [48] l:=by unfold sumQ;rw[if_neg hl]
  (repeat'((conv=>whnf);first|refine Zg fun _=>?_|refine Zm ?_|fail))
  refine Ask.mk ⟨{ X:=Nat,pre:=fun i=>i≤l.length∧chkL (l.drop i)=chkL l∧(∀j,j<i→chkQ (l.getD j [])=0),mod:=fun i _=>[(4,I i)],heap:=fun i H=>H,mu:=fun i=>l.length-i },rfl,?_⟩
  (repeat'((conv=>whnf);first|refine Zn ?_|fail))
  refine ⟨⟨(0:Nat),⟨Nat.zero_le _,by rw[List.drop_zero],fun j hj=>by omega⟩,?_⟩,fun (i:Nat) hi=>?_⟩
  ·(repeat'(first|exact trivial|rfl|refine And.intro ?_ ?_|fail))
  obtain ⟨hi,hc,hall⟩:=hi
  by_cases hlt:i<l.length
  ·rw[drop_get hlt] at hc
   by_cases hk:chkQ (l.getD i [])=0
   ·(repeat'((conv=>whnf);first|refine Zg fun _=>?_|refine Zn ?_|refine Zj ?_|refine Zy ?_|refine Zm ?_|fail))
    refine ⟨(i+1:Nat),by show l.length-(i+1)<l.length-i;omega,⟨hlt,?_,fun j hj=>?_⟩,?_⟩
    ·rw[← hc]
     show _=if chkQ (l.getD i [])≠0 then _ else _
     rw[if_neg (fun h=>h hk)]
    ·rcases Nat.lt_succ_iff_lt_or_eq.1 hj with h1 | h1
     ·exact hall j h1
     ·subst h1;exact hk
    ·(repeat'(first|exact trivial|rfl|refine And.intro ?_ ?_|fail))
   ·have ec:chkL l=chkQ (l.getD i []):=by
     rw[← hc]
     show (if chkQ (l.getD i [])≠0 then _ else _)= _
     rw[if_pos hk]
    rw[ec,if_pos hk] at e0
    rw[e0]
    (repeat'((conv=>whnf);first|refine Zg fun _=>?_|refine Zn ?_|refine Zj ?_|refine Zy ?_|fail))
    (conv=>whnf)
    (repeat'(first|exact trivial|rfl|refine And.intro ?_ ?_|fail))
  ·have e:i=l.length:=by omega
   subst e
   have ec:chkL l=0:=by rw[← hc,List.drop_eq_nil_of_le (Nat.le_refl _)];rfl
   rw[ec,if_neg (by simp)] at e0
   (repeat'((conv=>whnf);first|refine Zg fun _=>?_|refine Zm ?_|fail))
   refine Ask.mk ⟨{ X:=Nat × List UInt8,pre:=fun z=>z.1≤l.length∧sumR z.2 (l.drop z.1)=sumR [48] l∧chkQ z.2=0,mod:=fun z _=>[(6,S z.2),(7,I z.1)],heap:=fun z H=>H,mu:=fun z=>l.length-z.1 },rfl,?_⟩
   (repeat'((conv=>whnf);first|refine Zn ?_|fail))
   refine ⟨⟨((0:Nat),[48]),⟨Nat.zero_le _,by rw[List.drop_zero],chk48⟩,?_⟩,fun (z:Nat × List UInt8) hz=>?_⟩
   ·(repeat'(first|exact trivial|rfl|refine And.intro ?_ ?_|fail))
   obtain ⟨hz1,hz2,hz3⟩:=hz
   by_cases hlt:z.1<l.length
   ·rw[drop_get hlt] at hz2
    have hck:chkQ z.2=0∧chkQ (l.getD z.1 [])=0:=⟨hz3,hall _ hlt⟩
    have ea:=add_good hck
    have hz2:(if (addQ z.2 (l.getD z.1 [])).2≠0 then ([],(addQ z.2 (l.getD z.1 [])).2) else sumR (addQ z.2 (l.getD z.1 [])).1 (l.drop (z.1+1)))=sumR [48] l:=hz2
    rw[ea] at hz2
    by_cases hk:(addf (valQ z.2) (valQ (l.getD z.1 []))).2=0
    ·rw[if_neg (fun h=>h hk)] at hz2
     (repeat'((conv=>whnf);first|refine Zg fun _=>?_|refine Zn ?_|refine Zj ?_|refine Zy ?_|refine Zm ?_|fail))
     refine ⟨(z.1+1,(addf (valQ z.2) (valQ (l.getD z.1 []))).1),by show l.length-(z.1+1)<l.length-z.1;omega,⟨hlt,hz2,chk_add hk⟩,?_⟩
     (repeat'(first|exact trivial|rfl|refine And.intro ?_ ?_|fail))
    ·rw[if_pos hk] at hz2
     rw[e0,← hz2]
     (repeat'((conv=>whnf);first|refine Zg fun _=>?_|refine Zn ?_|refine Zj ?_|refine Zy ?_|fail))
     (conv=>whnf)
     (repeat'(first|exact trivial|rfl|refine And.intro ?_ ?_|fail))
   ·have e:l.drop z.1= []:=List.drop_eq_nil_of_le (by omega)
    rw[e] at hz2
    have hz2:(z.2,(0:Int))=sumR [48] l:=hz2
    rw[e0,← hz2]
    (repeat'((conv=>whnf);first|refine Zg fun _=>?_|refine Zm ?_|fail))
    (conv=>whnf)
    (repeat'(first|exact trivial|rfl|refine And.intro ?_ ?_|fail))
def c28:Con:=mkCon 85 true fun args K=>match args with | [.seq .str l]=>K (.tup [S (sumQ l).1,I (sumQ l).2]) | _=>False
theorem k28:ConOK Tryz.prog c28:=by
 refine conOK_of rfl (enters_of Tryz.func85 (by kernel_rfl) rfl) ?_
 intro args K h
 simp only[c28] at h
 split at h
 ·rename_i l;exact ⟨_,h,tri_of_body (Γ:=[c44,c67]) (by simp[k44,k67]) Tryz.func85 (by simp[Tryz.ntmps85]) rfl (b28 l)⟩
 ·exact h.elim
noncomputable def stS (l:List (List UInt8)):Nat→List UInt8
 | 0=>[48]
 | k+1=>(addQ (stS l k) (l.getD k [])).1
noncomputable def cntS:List UInt8→List (List UInt8)→Nat
 | _,[]=>0
 | s,a::r=>if (addQ s a).2≠0 then 1 else cntS (addQ s a).1 r+1
noncomputable abbrev nS (l:List (List UInt8)):Nat:=cntS [48] l
noncomputable abbrev itSum (l:List (List UInt8)) (k:Nat):List SV:=[S (addQ (stS l k) (l.getD k [])).1,I (addQ (stS l k) (l.getD k [])).2]
theorem b66 (l:List (List UInt8)):body Tryz.prog [] {} false Tryz.f116 [.seq .str l] (.clo 147 [] [.lelem [.seq .str l] 0]):=by
 skip
 (conv=>whnf)
 (repeat'(first|exact trivial|rfl|refine And.intro ?_ ?_|fail))
def c66:Con:=mkCon 116 false fun args K=>match args with | [.seq .str l]=>K (.clo 147 [] [.lelem [.seq .str l] 0]) | _=>False
theorem k66:ConOK Tryz.prog c66:=by
 refine conOK_of rfl (enters_of Tryz.func116 (by kernel_rfl) rfl) ?_
 intro args K h
 simp only[c66] at h
 split at h
 ·rename_i l;exact ⟨_,h,tri_of_body (Γ:=[]) (by simp) Tryz.func116 (by simp[Tryz.ntmps116]) rfl (b66 l)⟩
 ·exact h.elim
theorem cnt_step {l:List (List UInt8)} {i:Nat} (hi:i<l.length):cntS (stS l i) (l.drop i)=if (addQ (stS l i) (l.getD i [])).2≠0 then 1 else cntS (stS l (i+1)) (l.drop (i+1))+1:=by
 rw[drop_get hi];rfl
theorem b102 (l:List (List UInt8)):bodyI Tryz.prog [c17] { asks:=[(0,[])] } Tryz.f147 [.lelem [.seq .str l] 0] (nS l) (itSum l):=by
 (repeat'((conv=>whnf);first|refine Zg fun _=>?_|fail))
 refine Ask.mk ⟨{ X:=Nat,pre:=fun i=>i≤l.length∧i+cntS (stS l i) (l.drop i)=nS l,mod:=fun i _=>[(3,S (stS l i)),(9,I i)],heap:=fun i _=>[.yst (some i) (nS l) (itSum l)],mu:=fun i=>l.length-i },rfl,?_⟩
 (repeat'((conv=>whnf);first|refine Zn ?_|fail))
 refine ⟨⟨(0:Nat),⟨Nat.zero_le _,by rw[List.drop_zero,Nat.zero_add];rfl⟩,by (repeat'(first|exact trivial|rfl|refine And.intro ?_ ?_|fail))⟩,fun (i:Nat) hi=>?_⟩
 obtain ⟨hi1,hi2⟩:=hi
 skip
 (refine Br.mk (fun _=>?_) (fun _=>?_))
 ·have hlt:i<l.length:=by omega
  rw[cnt_step hlt] at hi2
  have hlt2:i<nS l:=by
   split at hi2<;>omega
  (repeat'((conv=>whnf);first|refine Zn ?_|refine Zj ?_|fail))
  refine Need.mk (by (repeat'(first|exact trivial|rfl|refine And.intro ?_ ?_|fail))) ?_
  refine Two.mk ?_ ?_
  ·skip
   by_cases hk:(addQ (stS l i) (l.getD i [])).2=0
   ·rw[if_neg (fun h=>h hk)] at hi2
    refine Br.mkN (fun h=>h hk) ?_
    (repeat'((conv=>whnf);first|refine Zn ?_|fail))
    refine ⟨(i+1:Nat),by show l.length-(i+1)<l.length-i;omega,⟨hlt,by omega⟩,?_⟩
    (repeat'(first|exact trivial|rfl|refine And.intro ?_ ?_|fail))
   ·rw[if_pos hk] at hi2
    refine Br.mkY hk ?_
    skip
    (conv=>whnf)
    omega
  ·skip
   (conv=>whnf)
   trivial
 ·have e:i=l.length:=by omega
  subst e
  rw[List.drop_eq_nil_of_le (Nat.le_refl _)] at hi2
  skip
  (conv=>whnf)
  have:cntS (stS l l.length) []=0:=rfl
  omega
def c102:Con:=mkCon 147 false fun args K=>match args with | [.lelem [.seq .str l] 0]=>K (.itr (nS l) (itSum l)) | _=>False
theorem k102:ConOK Tryz.prog c102:=by
 refine conOK_of rfl (enters_of Tryz.func147 (by kernel_rfl) rfl) ?_
 intro args K h
 simp only[c102] at h
 split at h
 ·rename_i l;exact ⟨_,h,triI_of_body (Γ:=[c17]) (by simp[k17]) Tryz.func147 (by simp[Tryz.ntmps147]) (b102 l)⟩
 ·exact h.elim
theorem chkL_zero:∀ {l:List (List UInt8)},chkL l=0→∀k,k<l.length→chkQ (l.getD k [])=0
 | [],_,k,hk=>by simp at hk
 | a::r,h,k,hk=>by
  unfold chkL at h
  split at h
  ·rename_i h1;exact absurd h h1
  ·rename_i h1
   cases k with
   | zero=>exact Classical.not_not.1 h1
   | succ k=>exact chkL_zero h k (by simpa using hk)
set_option maxHeartbeats 2000000 in
theorem b27 (l:List (List UInt8)):body Tryz.prog [c21,c66,c102] { asks:=[(0,[]),(2,[])] } true Tryz.f79 [.seq .str l] (.tup [S (sumQ l).1,I (sumQ l).2]):=by
 by_cases hl:4096<l.length
 ·have e:sumQ l=([],4):=by unfold sumQ;rw[if_pos hl]
  rw[e]
  (repeat'((conv=>whnf);first|refine Zg fun _=>?_|refine Zy ?_|fail))
  (conv=>whnf)
  (repeat'(first|exact trivial|rfl|refine And.intro ?_ ?_|fail))
 ·have e0:sumQ l=if chkL l≠0 then ([],chkL l) else sumR [48] l:=by unfold sumQ;rw[if_neg hl]
  (repeat'((conv=>whnf);first|refine Zg fun _=>?_|refine Zm ?_|fail))
  refine Ask.mk ⟨{ X:=Nat,pre:=fun i=>i≤l.length∧chkL (l.drop i)=chkL l,mod:=fun i _=>[(15,I i)],heap:=fun i H=>H,mu:=fun i=>l.length-i },rfl,?_⟩
  (repeat'((conv=>whnf);first|refine Zn ?_|fail))
  refine ⟨⟨(0:Nat),⟨Nat.zero_le _,by rw[List.drop_zero]⟩,?_⟩,fun (i:Nat) hi=>?_⟩
  ·(repeat'(first|exact trivial|rfl|refine And.intro ?_ ?_|fail))
  obtain ⟨hi,hc⟩:=hi
  by_cases hlt:i<l.length
  ·rw[drop_get hlt] at hc
   by_cases hk:chkQ (l.getD i [])=0
   ·(repeat'((conv=>whnf);first|refine Zn ?_|refine Zj ?_|refine Zy ?_|refine Zm ?_|fail))
    refine ⟨(i+1:Nat),by show l.length-(i+1)<l.length-i;omega,⟨hlt,?_⟩,?_⟩
    ·rw[← hc]
     show _=if chkQ (l.getD i [])≠0 then _ else _
     rw[if_neg (fun h=>h hk)]
    ·(repeat'(first|exact trivial|rfl|refine And.intro ?_ ?_|fail))
   ·have ec:chkL l=chkQ (l.getD i []):=by
     rw[← hc]
     show (if chkQ (l.getD i [])≠0 then _ else _)= _
     rw[if_pos hk]
    rw[ec,if_pos hk] at e0
    rw[e0]
    (repeat'((conv=>whnf);first|refine Zn ?_|refine Zj ?_|refine Zy ?_|fail))
    (conv=>whnf)
    (repeat'(first|exact trivial|rfl|refine And.intro ?_ ?_|fail))
  ·have e:i=l.length:=by omega
   subst e
   have ec:chkL l=0:=by rw[← hc,List.drop_eq_nil_of_le (Nat.le_refl _)];rfl
   have hall:∀k,k<l.length→chkQ (l.getD k [])=0:=chkL_zero ec
   rw[ec,if_neg (by simp)] at e0
   (repeat'((conv=>whnf);first|refine Zm ?_|fail))
   refine Ask.mk ⟨{ X:=Nat,pre:=fun i=>i≤l.length∧i+cntS (stS l i) (l.drop i)=nS l∧sumR (stS l i) (l.drop i)=sumR [48] l,mod:=fun _ _=>[],heap:=fun i H=>[hget H 0,hget H 1,.cells [S (stS l i)] 22],mu:=fun i=>i },rfl,?_⟩
   (repeat'((conv=>whnf);first|refine Zn ?_|fail))
   refine ⟨⟨(0:Nat),rfl,⟨Nat.zero_le _,by rw[List.drop_zero,Nat.zero_add];rfl,by rw[List.drop_zero];rfl⟩,by (repeat'(first|exact trivial|rfl|refine And.intro ?_ ?_|fail))⟩,fun (i:Nat) hi (hlt:i<nS l)=>?_,fun (i:Nat) hi (he:i=nS l)=>?_⟩
   ·obtain ⟨hi1,hi2,hi3⟩:=hi
    have hli:i<l.length:=by
     refine Nat.lt_of_not_le fun h=>?_
     have e:i=l.length:=by omega
     rw[e,List.drop_eq_nil_of_le (Nat.le_refl _)] at hi2
     have:cntS (stS l l.length) []=0:=rfl
     omega
    rw[cnt_step hli] at hi2
    rw[drop_get hli] at hi3
    have hi3:(if (addQ (stS l i) (l.getD i [])).2≠0 then ([],(addQ (stS l i) (l.getD i [])).2) else sumR (stS l (i+1)) (l.drop (i+1)))=sumR [48] l:=hi3
    show hnfL (itSum l i) _
    by_cases hk:(addQ (stS l i) (l.getD i [])).2=0
    ·rw[if_neg (fun h=>h hk)] at hi2 hi3
     (repeat'((conv=>whnf);first|refine Zg fun _=>?_|fail))
     refine Br.mkN (fun h=>h hk) ?_
     skip
     refine ⟨(i+1:Nat),rfl,⟨hli,by omega,hi3⟩,by (repeat'(first|exact trivial|rfl|refine And.intro ?_ ?_|fail))⟩
    ·rw[if_pos hk] at hi3
     rw[e0,← hi3]
     (repeat'((conv=>whnf);first|refine Zg fun _=>?_|fail))
     refine Br.mkY hk ?_
     skip
     (conv=>whnf)
     (repeat'(first|exact trivial|rfl|refine And.intro ?_ ?_|fail))
   ·obtain ⟨hi1,hi2,hi3⟩:=hi
    have hc0:cntS (stS l i) (l.drop i)=0:=by omega
    have hli:i=l.length:=by
     refine Nat.le_antisymm hi1 (Nat.le_of_not_lt fun h=>?_)
     rw[cnt_step h] at hc0
     split at hc0<;>omega
    rw[hli,List.drop_eq_nil_of_le (Nat.le_refl _)] at hi3
    have hi3:(stS l l.length,(0:Int))=sumR [48] l:=hi3
    rw[e0,← hi3,← hli]
    skip
    (conv=>whnf)
    (repeat'(first|exact trivial|rfl|refine And.intro ?_ ?_|fail))
def c27:Con:=mkCon 79 true fun args K=>match args with | [.seq .str l]=>K (.tup [S (sumQ l).1,I (sumQ l).2]) | _=>False
theorem k27:ConOK Tryz.prog c27:=by
 refine conOK_of rfl (enters_of Tryz.func79 (by kernel_rfl) rfl) ?_
 intro args K h
 simp only[c27] at h
 split at h
 ·rename_i l;exact ⟨_,h,tri_of_body (Γ:=[c21,c66,c102]) (by simp[k21,k66,k102]) Tryz.func79 (by simp[Tryz.ntmps79]) rfl (b27 l)⟩
 ·exact h.elim
set_option linter.unusedSimpArgs false
theorem chkL_all {l:List (List UInt8)} (h:∀a∈l,chkQ a=0):chkL l=0:=by
 induction l with
 | nil=>rfl
 | cons a r ih=>
  unfold chkL
  rw[if_neg (fun hn=>hn (h a (List.mem_cons_self ..)))]
  exact ih fun b hb=>h b (List.mem_cons_of_mem _ hb)
end RB
end
section
set_option linter.unusedVariables false
namespace RB
def thD (ax ay bx by' cx cy:Rat):Rat:=(bx-ax)*(cy-ay)-(by'-ay)*(cx-ax)
def thA (ax ay az bx by' bz cx cy cz:Rat):Rat:=((bz-az)*(cy-ay)-(by'-ay)*(cz-az))/thD ax ay bx by' cx cy
def thB (ax ay az bx by' bz cx cy cz:Rat):Rat:=((bx-ax)*(cz-az)-(bz-az)*(cx-ax))/thD ax ay bx by' cx cy
def thC (ax ay az bx by' bz cx cy cz:Rat):Rat:=az-(thA ax ay az bx by' bz cx cy cz*ax+thB ax ay az bx by' bz cx cy cz*ay)
section
variable {ax ay az bx by' bz cx cy cz P Q R:Rat}
end
end RB
end
section
open Go Go.Proofs Go.Eng Go.Shelf IB Go.Lib Go.RowKit
namespace RB
set_option maxRecDepth 10000
set_option linter.unusedVariables false
set_option linter.unusedSimpArgs false
def d36 (q:Rat):Prop:=(decDigits q.num.natAbs).length≤36∧(decDigits q.den).length≤36
instance (q:Rat):Decidable (d36 q):=inferInstanceAs (Decidable (_∧ _))
theorem d36_sz {q:Rat} (h:d36 q):Sz 36 q:=⟨dec_pow h.1,dec_pow h.2⟩
theorem sz_d36 {q:Rat} {k:Nat} (h:Sz k q) (h0:0<k) (hk:k≤36):d36 q:=⟨Nat.le_trans (dec_le_pow h0 h.1) hk,Nat.le_trans (dec_le_pow h0 h.2) hk⟩
noncomputable def chkP (a:List UInt8):Int:=if chkQ a≠0 then chkQ a else if d36 (valQ a) then 0 else 4
theorem chkP_ok {a:List UInt8} (h:chkP a=0):chkQ a=0∧d36 (valQ a):=by
 unfold chkP at h
 split at h
 ·rename_i h1;exact absurd h h1
 ·rename_i h1
  refine ⟨Classical.not_not.1 h1,?_⟩
  split at h
  ·assumption
  ·exact absurd h (by decide)
theorem chkP_num {a:List UInt8} (h:chkP a=0):a=numS (valQ a)∧Sz 36 (valQ a):=⟨(chkQ_ok (chkP_ok h).1).1,d36_sz (chkP_ok h).2⟩
theorem chkP_of {a:List UInt8} (h1:chkQ a=0) (h2:d36 (valQ a)):chkP a=0:=by
 unfold chkP
 rw[if_neg (fun h=>h h1),if_pos h2]
def badP (l:List (List UInt8)):Prop:=∃a∈l,chkP a≠0
noncomputable instance (l:List (List UInt8)):Decidable (badP l):=Classical.propDecidable _
theorem badP_no {l:List (List UInt8)} (h:¬badP l):∀a∈l,chkP a=0:=fun a ha=>Classical.not_not.1 fun h1=>h ⟨a,ha,h1⟩
noncomputable def chk3 (a b c:List UInt8):Int:=if chkQ a≠0 then chkQ a else if chkQ b≠0 then chkQ b else if chkQ c≠0 then chkQ c else if chkP a≠0 then chkP a else if chkP b≠0 then chkP b else chkP c
theorem chk3_ok {a b c:List UInt8} (h:chk3 a b c=0):chkP a=0∧chkP b=0∧chkP c=0:=by
 unfold chk3 at h
 split at h
 ·rename_i h1;exact absurd h h1
 split at h
 ·rename_i h1;exact absurd h h1
 split at h
 ·rename_i h1;exact absurd h h1
 split at h
 ·rename_i h1;exact absurd h h1
 split at h
 ·rename_i h1;exact absurd h h1
 rename_i h1 h2
 exact ⟨Classical.not_not.1 h1,Classical.not_not.1 h2,h⟩
theorem chk3_of {a b c:List UInt8} (h1:chkP a=0) (h2:chkP b=0) (h3:chkP c=0):chk3 a b c=0:=by
 unfold chk3
 rw[if_neg (fun h=>h (chkP_ok h1).1),if_neg (fun h=>h (chkP_ok h2).1),if_neg (fun h=>h (chkP_ok h3).1),if_neg (fun h=>h h1),if_neg (fun h=>h h2),h3]
section
variable {p q r:Rat} {i j k:Nat}
theorem chkP_numS (h:Sz i p) (hi:0<i) (hi2:i≤36):chkP (numS p)=0:=chkP_of (chk_sz h ⟨hi,by omega⟩) (by rw[valQ_numS];exact sz_d36 h hi hi2)
theorem add48 (h:Sz i p) (hi:0<i) (h300:i≤298):addQ [48] (numS p)=(numS p,0):=by
 have:=addQ_sz sz0 h (by omega) hi (by omega)
 rwa [numS0,Rat.zero_add] at this
theorem chk2L (hp:Sz i p) (hq:Sz j q) (hi:0<i∧i≤300) (hj:0<j∧j≤300):chkL [numS p,numS q]=0:=chkL_all fun a ha=>by
 simp only[List.mem_cons,List.not_mem_nil,or_false] at ha
 rcases ha with rfl | rfl
 ·exact chk_sz hp hi
 ·exact chk_sz hq hj
theorem chk3L (hp:Sz i p) (hq:Sz j q) (hr:Sz k r) (hi:0<i∧i≤300) (hj:0<j∧j≤300) (hk:0<k∧k≤300):chkL [numS p,numS q,numS r]=0:=chkL_all fun a ha=>by
 simp only[List.mem_cons,List.not_mem_nil,or_false] at ha
 rcases ha with rfl | rfl | rfl
 ·exact chk_sz hp hi
 ·exact chk_sz hq hj
 ·exact chk_sz hr hk
theorem sum2 (hp:Sz i p) (hq:Sz j q) (hi:0<i) (hj:0<j) (h:i+j+1≤298):sumQ [numS p,numS q]=(numS (p+q),0)∧Sz (i+j+1) (p+q):=by
 refine ⟨?_,hp.add hq⟩
 unfold sumQ
 rw[if_neg (by simp),if_neg (fun hn=>hn (chk2L hp hq ⟨hi,by omega⟩ ⟨hj,by omega⟩))]
 show (if (addQ [48] (numS p)).2≠0 then _ else if (addQ (addQ [48] (numS p)).1 (numS q)).2≠0 then _ else _)= _
 rw[add48 hp hi (by omega)]
 show (if (0:Int)≠0 then _ else if (addQ (numS p) (numS q)).2≠0 then _ else ((addQ (numS p) (numS q)).1,(0:Int)))= _
 rw[addQ_sz hp hq hi hj (by omega)]
 rfl
theorem sum3 (hp:Sz i p) (hq:Sz j q) (hr:Sz k r) (hi:0<i) (hj:0<j) (hk:0<k) (h:i+j+k+2≤298):sumQ [numS p,numS q,numS r]=(numS (p+q+r),0)∧Sz (i+j+k+2) (p+q+r):=by
 have h2:=hp.add hq
 refine ⟨?_,by have:=h2.add hr;rwa [show i+j+1+k+1=i+j+k+2 by omega] at this⟩
 unfold sumQ
 rw[if_neg (by simp),if_neg (fun hn=>hn (chk3L hp hq hr ⟨hi,by omega⟩ ⟨hj,by omega⟩ ⟨hk,by omega⟩))]
 show (if (addQ [48] (numS p)).2≠0 then _ else if (addQ (addQ [48] (numS p)).1 (numS q)).2≠0 then _ else if (addQ (addQ (addQ [48] (numS p)).1 (numS q)).1 (numS r)).2≠0 then _ else _)= _
 rw[add48 hp hi (by omega)]
 show (if (0:Int)≠0 then _ else if (addQ (numS p) (numS q)).2≠0 then _ else if (addQ (addQ (numS p) (numS q)).1 (numS r)).2≠0 then _ else ((addQ (addQ (numS p) (numS q)).1 (numS r)).1,(0:Int)))= _
 rw[addQ_sz hp hq hi hj (by omega)]
 show (if (0:Int)≠0 then _ else if (0:Int)≠0 then _ else if (addQ (numS (p+q)) (numS r)).2≠0 then _ else ((addQ (numS (p+q)) (numS r)).1,(0:Int)))= _
 rw[addQ_sz h2 hr (by omega) hk (by omega)]
 rfl
end
theorem chkP_ex {a:List UInt8} (h:chkP a=0):∃p,a=numS p∧Sz 36 p∧valQ a=p:=⟨valQ a,(chkP_num h).1,(chkP_num h).2,rfl⟩
theorem chk3_num {a b c:List UInt8} (h:chk3 a b c=0):∃p q r,(a=numS p∧b=numS q∧c=numS r)∧(Sz 36 p∧Sz 36 q∧Sz 36 r)∧valQ a=p∧valQ b=q∧valQ c=r:=by
 obtain ⟨h1,h2,h3⟩:=chk3_ok h
 obtain ⟨p,e1,z1,v1⟩:=chkP_ex h1
 obtain ⟨q,e2,z2,v2⟩:=chkP_ex h2
 obtain ⟨r,e3,z3,v3⟩:=chkP_ex h3
 exact ⟨p,q,r,⟨e1,e2,e3⟩,⟨z1,z2,z3⟩,v1,v2,v3⟩
theorem badP2_num {a b:List UInt8} (h:¬badP [a,b]):∃p q,(a=numS p∧b=numS q)∧(Sz 36 p∧Sz 36 q)∧valQ a=p∧valQ b=q:=by
 have h':=badP_no h
 obtain ⟨p,e1,z1,v1⟩:=chkP_ex (h' a (by simp))
 obtain ⟨q,e2,z2,v2⟩:=chkP_ex (h' b (by simp))
 exact ⟨p,q,⟨e1,e2⟩,⟨z1,z2⟩,v1,v2⟩
theorem badP3_num {a b c:List UInt8} (h:¬badP [a,b,c]):∃p q r,(a=numS p∧b=numS q∧c=numS r)∧(Sz 36 p∧Sz 36 q∧Sz 36 r)∧valQ a=p∧valQ b=q∧valQ c=r:=by
 have h':=badP_no h
 obtain ⟨p,e1,z1,v1⟩:=chkP_ex (h' a (by simp))
 obtain ⟨q,e2,z2,v2⟩:=chkP_ex (h' b (by simp))
 obtain ⟨r,e3,z3,v3⟩:=chkP_ex (h' c (by simp))
 exact ⟨p,q,r,⟨e1,e2,e3⟩,⟨z1,z2,z3⟩,v1,v2,v3⟩
def keepE (e x:Int):Int:=if e=0 then x else e
theorem keepE0 (x:Int):keepE 0 x=x:=rfl
noncomputable def hgt (a b c x y:List UInt8):Rat:=valQ a*valQ x+valQ b*valQ y+valQ c
noncomputable def atP (a b c x y:List UInt8):List UInt8 × Int:=if chk3 a b c≠0∨badP [x,y] then ([],1) else (numS (hgt a b c x y),0)
noncomputable def slP (a b c:List UInt8):List UInt8 × Int:=if chk3 a b c≠0 then ([],1) else (numS (valQ a*valQ a+valQ b*valQ b),0)
noncomputable def drP (a b c:List UInt8):(List UInt8 × List UInt8) × Int:=if chk3 a b c≠0 then (([],[]),1) else ((numS (0-valQ a),numS (0-valQ b)),0)
noncomputable def dotP (a b a' b':List UInt8):Rat:=valQ a*valQ a'+valQ b*valQ b'+1
noncomputable def nmP (a b c a' b' c':List UInt8):List UInt8 × List UInt8 × Int:=if chk3 a b c≠0∨chk3 a' b' c'≠0 then ([],[],1) else (numS (dotP a b a' b'),numS (dotP a b a b*dotP a' b' a' b'),0)
noncomputable def abP (a b c a' b' c' x y:List UInt8):Int × Int:=if chk3 a b c≠0∨chk3 a' b' c'≠0∨badP [x,y] then (0,1) else cmpQ (numS (hgt a b c x y)) (numS (hgt a' b' c' x y))
noncomputable def meP (a b c a' b' c':List UInt8):List UInt8 × List UInt8 × List UInt8 × Int:=
 if chk3 a b c≠0∨chk3 a' b' c'≠0 then ([],[],[],1)
 else if valQ a-valQ a'=0∧valQ b-valQ b'=0 then ([],[],[],12)
 else if valQ a-valQ a'=0 then ([48],[49],numS ((valQ c'-valQ c)/(valQ b-valQ b')),0)
 else ([49],numS ((valQ b-valQ b')/(valQ a-valQ a')),numS ((valQ c'-valQ c)/(valQ a-valQ a')),0)
def upA (ax ay az bx by' bz cx cy cz:Rat):Rat:=(bz-az)*(cy-ay)-(by'-ay)*(cz-az)
def upB (ax ay az bx by' bz cx cy cz:Rat):Rat:=(bx-ax)*(cz-az)-(bz-az)*(cx-ax)
noncomputable def thR (ax ay az bx by' bz cx cy cz:Rat):List UInt8 × List UInt8 × List UInt8 × Int:=
 if thD ax ay bx by' cx cy=0 then ([],[],[],12)
 else if (divQ (numS (upA ax ay az bx by' bz cx cy cz)) (numS (thD ax ay bx by' cx cy))).2≠0∨(divQ (numS (upB ax ay az bx by' bz cx cy cz)) (numS (thD ax ay bx by' cx cy))).2≠0∨¬d36 (thA ax ay az bx by' bz cx cy cz)∨¬d36 (thB ax ay az bx by' bz cx cy cz)∨¬d36 (thC ax ay az bx by' bz cx cy cz) then ([],[],[],4)
 else (numS (thA ax ay az bx by' bz cx cy cz),numS (thB ax ay az bx by' bz cx cy cz),numS (thC ax ay az bx by' bz cx cy cz),0)
noncomputable def thP (ax ay az bx by' bz cx cy cz:List UInt8):List UInt8 × List UInt8 × List UInt8 × Int:=
 if badP [ax,ay,az]∨badP [bx,by',bz]∨badP [cx,cy,cz] then ([],[],[],1) else thR (valQ ax) (valQ ay) (valQ az) (valQ bx) (valQ by') (valQ bz) (valQ cx) (valQ cy) (valQ cz)
theorem numS2:numS (2:Rat)= [50]:=int1 (n:=2) (by decide) (by decide) (by decide)
theorem numS3:numS (3:Rat)= [51]:=int1 (n:=3) (by decide) (by decide) (by decide)
theorem numS4:numS (4:Rat)= [52]:=int1 (n:=4) (by decide) (by decide) (by decide)
theorem numSm:numS (-1:Rat)= [45,49]:=int1n (n:=1) (by decide) (by decide) (by decide) (by decide)
theorem numSh:numS (mkRat 1 2)= [49,47,50]:=num1 (n:=1) (d:=2) (by decide) (by decide) (by decide) (by decide)
theorem bad3_no {p q r:Rat} (hp:Sz 36 p) (hq:Sz 36 q) (hr:Sz 36 r):¬badP [numS p,numS q,numS r]:=by
 rintro ⟨a,ha,h⟩
 simp only[List.mem_cons,List.not_mem_nil,or_false] at ha
 rcases ha with rfl | rfl | rfl
 ·exact h (chkP_numS hp (by decide) (by decide))
 ·exact h (chkP_numS hq (by decide) (by decide))
 ·exact h (chkP_numS hr (by decide) (by decide))
theorem chk3_no {p q r:Rat} (hp:Sz 36 p) (hq:Sz 36 q) (hr:Sz 36 r):chk3 (numS p) (numS q) (numS r)=0:=chk3_of (chkP_numS hp (by decide) (by decide)) (chkP_numS hq (by decide) (by decide)) (chkP_numS hr (by decide) (by decide))
theorem thP_num {ax ay az bx by' bz cx cy cz:Rat} (h1:Sz 36 ax) (h2:Sz 36 ay) (h3:Sz 36 az) (h4:Sz 36 bx) (h5:Sz 36 by') (h6:Sz 36 bz) (h7:Sz 36 cx) (h8:Sz 36 cy) (h9:Sz 36 cz):
  thP (numS ax) (numS ay) (numS az) (numS bx) (numS by') (numS bz) (numS cx) (numS cy) (numS cz)=thR ax ay az bx by' bz cx cy cz:=by
 unfold thP
 rw[if_neg (by rintro (h | h | h);exact bad3_no h1 h2 h3 h;exact bad3_no h4 h5 h6 h;exact bad3_no h7 h8 h9 h)]
 simp only[valQ_numS]
theorem th_sizes {k:Nat} {ax ay az bx by' bz cx cy cz:Rat} (h1:Sz k ax) (h2:Sz k ay) (h3:Sz k az) (h4:Sz k bx) (h5:Sz k by') (h6:Sz k bz) (h7:Sz k cx) (h8:Sz k cy) (h9:Sz k cz):
  Sz (8*k+5) (thD ax ay bx by' cx cy)∧Sz (8*k+5) (upA ax ay az bx by' bz cx cy cz)∧Sz (8*k+5) (upB ax ay az bx by' bz cx cy cz):=by
 have e:k+k+1+(k+k+1)+(k+k+1+(k+k+1))+1=8*k+5:=by omega
 refine ⟨?_,?_,?_⟩
 ·have:=((h4.sub h1).mul (h8.sub h2)).sub ((h5.sub h2).mul (h7.sub h1))
  rwa [e] at this
 ·have:=((h6.sub h3).mul (h8.sub h2)).sub ((h5.sub h2).mul (h9.sub h3))
  rwa [e] at this
 ·have:=((h4.sub h1).mul (h9.sub h3)).sub ((h6.sub h3).mul (h7.sub h1))
  rwa [e] at this
theorem aw_th:thP [48] [48] [48] [50] [48] [49] [48] [51] [48]=([49,47,50],[48],[48],0):=by
 have z0:Sz 36 0:=⟨by decide,by decide⟩
 have z1:Sz 36 1:=⟨by decide,by decide⟩
 have z2:Sz 36 2:=⟨by decide,by decide⟩
 have z3:Sz 36 3:=⟨by decide,by decide⟩
 have h:=thP_num z0 z0 z0 z2 z0 z1 z0 z3 z0
 rw[numS0,numS1,numS2,numS3] at h
 rw[h]
 unfold thR
 have eD:thD 0 0 2 0 0 3=6:=by decide+kernel
 have eA:thA 0 0 0 2 0 1 0 3 0=mkRat 1 2:=by decide+kernel
 have eB:thB 0 0 0 2 0 1 0 3 0=0:=by decide+kernel
 have eC:thC 0 0 0 2 0 1 0 3 0=0:=by decide+kernel
 have uA:upA 0 0 0 2 0 1 0 3 0=3:=by decide+kernel
 have uB:upB 0 0 0 2 0 1 0 3 0=0:=by decide+kernel
 rw[eD,eA,eB,eC,uA,uB]
 have s0:Sz 1 0:=⟨by decide,by decide⟩
 have s3:Sz 1 3:=⟨by decide,by decide⟩
 have s6:Sz 1 6:=⟨by decide,by decide⟩
 have sh:Sz 1 (mkRat 1 2):=⟨by decide,by decide⟩
 rw[if_neg (by decide),divQ_sz s3 s6 (by decide) (by decide) (by decide) (by decide),divQ_sz s0 s6 (by decide) (by decide) (by decide) (by decide),if_neg,numSh,numS0]
 rintro (h | h | h | h | h)
 ·exact h rfl
 ·exact h rfl
 ·exact h (sz_d36 sh (by decide) (by decide))
 ·exact h (sz_d36 s0 (by decide) (by decide))
 ·exact h (sz_d36 s0 (by decide) (by decide))
theorem aw_me:meP [49] [48] [48] [48] [49] [48]=([49],[45,49],[48],0):=by
 have z0:Sz 36 0:=⟨by decide,by decide⟩
 have z1:Sz 36 1:=⟨by decide,by decide⟩
 rw[← numS0,← numS1]
 unfold meP
 rw[if_neg (by rintro (h | h);exact h (chk3_no z1 z0 z0);exact h (chk3_no z0 z1 z0))]
 simp only[valQ_numS]
 rw[if_neg (by decide+kernel),if_neg (by decide+kernel),show ((0:Rat)-1)/(1-0)= -1 by decide+kernel,show ((0:Rat)-0)/(1-0)=0 by decide+kernel,numS1,numS0,numSm]
theorem aw_nm:nmP [49] [48] [48] [48] [49] [48]=([49],[52],0):=by
 have z0:Sz 36 0:=⟨by decide,by decide⟩
 have z1:Sz 36 1:=⟨by decide,by decide⟩
 rw[← numS0,← numS1]
 unfold nmP dotP
 rw[if_neg (by rintro (h | h);exact h (chk3_no z1 z0 z0);exact h (chk3_no z0 z1 z0))]
 simp only[valQ_numS]
 rw[show (1:Rat)*0+0*1+1=1 by decide+kernel,show ((1:Rat)*1+0*0+1)*(0*0+1*1+1)=4 by decide+kernel,numS1,numS4]
section
variable (p:List UInt8→Prop) [DecidablePred p]
def ixD (l:List (List UInt8)):Int:=if l.findIdx (fun s=>decide (p s))<l.length then (l.findIdx (fun s=>decide (p s)):Int) else -1
theorem ixD_at {l:List (List UInt8)} {i:Nat} (hi:i<l.length) (hb:p (l.getD i [])) (h:∀j,j<i→¬p (l.getD j [])):ixD p l=i:=by
 have e:l.findIdx (fun s=>decide (p s))=i:=by
  rw[List.findIdx_eq hi]
  refine ⟨by simpa [List.getD_eq_getElem?_getD,hi] using hb,fun j hj=>?_⟩
  have:=h j hj
  simpa [List.getD_eq_getElem?_getD,show j<l.length by omega] using this
 unfold ixD
 rw[e,if_pos hi]
theorem ixD_no {l:List (List UInt8)} (h:∀j,j<l.length→¬p (l.getD j [])):ixD p l= -1:=by
 unfold ixD
 rw[if_neg]
 intro hlt
 have h1:=List.findIdx_getElem (w:=hlt)
 have h2:=h _ hlt
 simp only[decide_eq_true_eq] at h1
 apply h2
 simpa [List.getD_eq_getElem?_getD,hlt] using h1
theorem ixD_iff (l:List (List UInt8)):0≤ixD p l↔∃a∈l,p a:=by
 constructor
 ·intro h
  refine Classical.byContradiction fun hn=>?_
  rw[ixD_no p (fun j hj hp=>hn ⟨_,by rw[List.getD_eq_getElem?_getD,List.getElem?_eq_getElem hj];exact List.getElem_mem hj,hp⟩)] at h
  omega
 ·rintro ⟨a,ha,hp⟩
  unfold ixD
  have:l.findIdx (fun s=>decide (p s))<l.length:=List.findIdx_lt_length_of_exists ⟨a,ha,by simpa using hp⟩
  rw[if_pos this]
  omega
end
def badS (s:List UInt8):Prop:=12<s.length∨chkQ s≠0
noncomputable instance (s:List UInt8):Decidable (badS s):=Classical.propDecidable _
noncomputable instance:DecidablePred badS:=fun s=>Classical.propDecidable _
def notP (s:List UInt8):Prop:=chkP s≠0
noncomputable instance:DecidablePred notP:=fun s=>Classical.propDecidable _
def shortL (l:List (List UInt8)):Prop:=∀a∈l,a.length≤12∧chkQ a=0
noncomputable instance (l:List (List UInt8)):Decidable (shortL l):=Classical.propDecidable _
theorem Sz.up {k:Nat} {q:Rat} (h:Sz 12 q) (hk:12≤k):Sz k q:=h.mono hk
theorem div_szk {p q:Rat} {k:Nat} (h1:(p.num*q.den).natAbs<10^k) (h2:(q.num*p.den).natAbs<10^k) (h0:q≠0):Sz k (p/q):=by
 have hq:q.num≠0:=fun h=>h0 (Rat.num_eq_zero.1 h)
 have hp:(0:Int)<p.den:=by have:=p.den_pos;omega
 rw[div_parts p q h0]
 rcases Int.lt_or_lt_of_ne hq with h | h
 ·have hd:(p.den:Int)*q.num<0:=Int.mul_neg_of_pos_of_neg hp h
  rw[mk_neg_den _ _ hd]
  refine mk_sz (by omega) (by rwa [Int.natAbs_neg]) ?_
  have:(-((p.den:Int)*q.num)).toNat=(q.num*p.den).natAbs:=by rw[Int.mul_comm q.num];omega
  rwa [this]
 ·have hd:0<(p.den:Int)*q.num:=Int.mul_pos hp h
  rw[mk_pos_den _ _ hd]
  refine mk_sz (by omega) h1 ?_
  have:((p.den:Int)*q.num).toNat=(q.num*p.den).natAbs:=by rw[Int.mul_comm q.num];omega
  rwa [this]
def Vd (q:Rat):Prop:=chkQ (numS q)=0
theorem Sz.vd {q:Rat} {k:Nat} (h:Sz k q) (hk:0<k∧k≤300):Vd q:=chk_sz h hk
section
variable {p q:Rat}
theorem add04v (hp:Vd p) (hq:Vd q):(addQ (numS p) (numS q)).2=4∨(addQ (numS p) (numS q)=(numS (p+q),0)∧Vd (p+q)):=by
 have e:addQ (numS p) (numS q)=addf p q:=by rw[add_good ⟨hp,hq⟩,valQ_numS,valQ_numS]
 have:=chk_add (p:=p) (q:=q)
 rw[e]
 unfold addf at this ⊢
 split
 ·exact .inl rfl
 ·rename_i h
  rw[if_neg h] at this
  exact .inr ⟨rfl,this rfl⟩
theorem sub04v (hp:Vd p) (hq:Vd q):(subQ (numS p) (numS q)).2=4∨(subQ (numS p) (numS q)=(numS (p-q),0)∧Vd (p-q)):=by
 have e:subQ (numS p) (numS q)=subf p q:=by rw[show subQ (numS p) (numS q)=subf _ _ from good_both ⟨hp,hq⟩ _,valQ_numS,valQ_numS]
 rw[e]
 unfold subf
 split
 ·exact .inl rfl
 ·rename_i hl
  simp only[Bool.or_eq_true,not_or,Bool.not_eq_true] at hl
  obtain ⟨⟨⟨l1,l2⟩,l3⟩,l4⟩:=hl
  have h4:=lim_sz l4
  rw[← Int.natCast_mul,Int.natAbs_natCast] at h4
  have:Sz 300 (p-q):=by
   rw[sub_parts]
   exact mk_sz (den_ne p q) (lim_sz l3) h4
  exact .inr ⟨rfl,this.vd ⟨by decide,by decide⟩⟩
theorem mul04v (hp:Vd p) (hq:Vd q):(mulQ (numS p) (numS q)).2=4∨(mulQ (numS p) (numS q)=(numS (p*q),0)∧Vd (p*q)):=by
 have e:mulQ (numS p) (numS q)=mulf p q:=by rw[show mulQ (numS p) (numS q)=mulf _ _ from good_both ⟨hp,hq⟩ _,valQ_numS,valQ_numS]
 rw[e]
 unfold mulf
 split
 ·exact .inl rfl
 ·rename_i hl
  simp only[Bool.or_eq_true,not_or,Bool.not_eq_true] at hl
  obtain ⟨l3,l4⟩:=hl
  have h4:=lim_sz l4
  rw[← Int.natCast_mul,Int.natAbs_natCast] at h4
  have:Sz 300 (p*q):=by
   rw[mul_parts]
   exact mk_sz (den_ne p q) (lim_sz l3) h4
  exact .inr ⟨rfl,this.vd ⟨by decide,by decide⟩⟩
theorem div04v (hp:Vd p) (hq:Vd q) (h0:q≠0):(divQ (numS p) (numS q)).2=4∨(divQ (numS p) (numS q)=(numS (p/q),0)∧Vd (p/q)):=by
 have e:divQ (numS p) (numS q)=divf p q:=by rw[show divQ (numS p) (numS q)=divf _ _ from good_both ⟨hp,hq⟩ _,valQ_numS,valQ_numS]
 rw[e]
 unfold divf
 rw[if_neg h0]
 split
 ·exact .inl rfl
 ·rename_i hl
  simp only[Bool.or_eq_true,not_or,Bool.not_eq_true] at hl
  exact .inr ⟨rfl,(div_szk (lim_sz hl.1) (lim_sz hl.2) h0).vd ⟨by decide,by decide⟩⟩
theorem sum04v (hp:Vd p) (hq:Vd q):(sumQ [numS p,numS q]).2=4∨(sumQ [numS p,numS q]=(numS (p+q),0)∧Vd (p+q)):=by
 have hc:chkL [numS p,numS q]=0:=chkL_all fun a ha=>by
  simp only[List.mem_cons,List.not_mem_nil,or_false] at ha
  rcases ha with rfl | rfl
  ·exact hp
  ·exact hq
 have h0:Vd 0:=sz0.vd ⟨by decide,by decide⟩
 unfold sumQ
 rw[if_neg (by simp),if_neg (fun hn=>hn hc)]
 show (if (addQ [48] (numS p)).2≠0 then (([],(addQ [48] (numS p)).2):List UInt8 × Int) else if (addQ (addQ [48] (numS p)).1 (numS q)).2≠0 then ([],(addQ (addQ [48] (numS p)).1 (numS q)).2) else ((addQ (addQ [48] (numS p)).1 (numS q)).1,0)).2=4∨(if (addQ [48] (numS p)).2≠0 then (([],(addQ [48] (numS p)).2):List UInt8 × Int) else if (addQ (addQ [48] (numS p)).1 (numS q)).2≠0 then ([],(addQ (addQ [48] (numS p)).1 (numS q)).2) else ((addQ (addQ [48] (numS p)).1 (numS q)).1,0))= _∧ _
 have h1:=add04v h0 hp
 rw[numS0,Rat.zero_add] at h1
 rcases h1 with h1 | ⟨h1,_⟩
 ·rw[if_pos (by rw[h1];decide)]
  exact .inl h1
 ·rw[h1,if_neg (fun h=>h rfl)]
  dsimp only
  rcases add04v hp hq with h2 | ⟨h2,h3⟩
  ·rw[if_pos (by rw[h2];decide)]
   exact .inl h2
  ·rw[h2,if_neg (fun h=>h rfl)]
   exact .inr ⟨rfl,h3⟩
theorem chkP_vd (h:Vd p):chkP (numS p)=if d36 p then 0 else 4:=by
 unfold chkP
 rw[if_neg (fun h'=>h' h),valQ_numS]
end
theorem chk3_vd {p q r:Rat} (hp:Vd p) (hq:Vd q) (hr:Vd r):chk3 (numS p) (numS q) (numS r)=0↔d36 p∧d36 q∧d36 r:=by
 constructor
 ·intro h
  obtain ⟨h1,h2,h3⟩:=chk3_ok h
  have:=(chkP_ok h1).2
  have h4:=(chkP_ok h2).2
  have h5:=(chkP_ok h3).2
  rw[valQ_numS] at this h4 h5
  exact ⟨this,h4,h5⟩
 ·rintro ⟨h1,h2,h3⟩
  exact chk3_of (by rw[chkP_vd hp,if_pos h1]) (by rw[chkP_vd hq,if_pos h2]) (by rw[chkP_vd hr,if_pos h3])
theorem d36_iff {a:List UInt8}:(max ((digs (pn (valQ a))).length:Int) ((pd (valQ a)).length:Int)≤36)↔d36 (valQ a):=by
 unfold d36
 rw[digs_itoa]
 show _≤ _↔ _∧ _
 unfold pd
 constructor<;>intro h
 ·constructor<;>omega
 ·omega
theorem b1077 (a:List UInt8):body Tryz.prog [c13,c88] {} true Tryz.f77 [S a] (I (chkP a)):=by
 unfold chkP
 by_cases h:chkQ a=0
 ·have e:ptQ a=(pn (valQ a),pd (valQ a)):=by unfold ptQ;rw[if_pos h]
  rw[if_neg (fun h'=>h' h)]
  skip
  refine Br.mkN (show ¬ ¬chkQ a=0 from fun h'=>h' h) ?_
  (repeat'((conv=>whnf);first|refine Zg fun _=>?_|refine Zn ?_|fail))
  (refine Br.mk (fun _=>?_) (fun _=>?_))
  ·rename_i h1
   rw[if_neg (fun h2=>absurd (d36_iff.2 h2) (by have h1:(36:Int)< _:=h1;rw[e] at h1;exact Int.not_le.2 h1))]
   skip
   (conv=>whnf)
   (repeat'(first|rfl|refine And.intro ?_ ?_|fail))
  ·rename_i h1
   rw[if_pos (d36_iff.1 (by have h1:¬(36:Int)< _:=h1;rw[e] at h1;exact Int.not_lt.1 h1))]
   skip
   (conv=>whnf)
   (repeat'(first|rfl|refine And.intro ?_ ?_|fail))
 ·rw[if_pos h]
  skip
  refine Br.mkY h ?_
  skip
  (conv=>whnf)
  (repeat'(first|rfl|refine And.intro ?_ ?_|fail))
def c1077:Con:=mkCon 77 true fun args K=>match args with | [.str a]=>K (I (chkP a)) | _=>False
theorem k1077:ConOK Tryz.prog c1077:=by
 refine conOK_of rfl (enters_of Tryz.func77 (by kernel_rfl) rfl) ?_
 intro args K h
 simp only[c1077] at h
 split at h
 ·rename_i a;exact ⟨_,h,tri_of_body (Γ:=[c13,c88]) (by simp[k13,k88]) Tryz.func77 (by simp[Tryz.ntmps77]) rfl (b1077 a)⟩
 ·exact h.elim
theorem b1078 (s:List UInt8):body Tryz.prog [c1077] {} true Tryz.f78 [S s] (.bl (notP s) inferInstance):=by
 skip
 (conv=>whnf)
 (repeat'(first|rfl|fail))
def c1078:Con:=mkCon 78 true fun args K=>match args with | [.str s]=>K (.bl (notP s) inferInstance) | _=>False
theorem k1078:ConOK Tryz.prog c1078:=by
 refine conOK_of rfl (enters_of Tryz.func78 (by kernel_rfl) rfl) ?_
 intro args K h
 simp only[c1078] at h
 split at h
 ·rename_i s;exact ⟨_,h,tri_of_body (Γ:=[c1077]) (by simp[k1077]) Tryz.func78 (by simp[Tryz.ntmps78]) rfl (b1078 s)⟩
 ·exact h.elim
theorem b74p (l:List (List UInt8)):body Tryz.prog [c1078] { asks:=[(0,[])] } true Tryz.f86 [.seq .str l,.clo 78 [] []] (I (ixD notP l)):=by
 (repeat'((conv=>whnf);first|refine Zg fun _=>?_|fail))
 refine Ask.mk ⟨{ X:=Nat,pre:=fun i=>i≤l.length∧∀j,j<i→¬notP (l.getD j []),mod:=fun i _=>[(8,I i)],heap:=fun i H=>H,mu:=fun i=>l.length-i },rfl,?_⟩
 (repeat'((conv=>whnf);first|refine Zn ?_|fail))
 refine ⟨⟨(0:Nat),⟨Nat.zero_le _,fun j hj=>by omega⟩,?_⟩,fun (i:Nat) hi=>?_⟩
 ·(repeat'(first|exact trivial|rfl|refine And.intro ?_ ?_|fail))
 obtain ⟨hi,hp⟩:=hi
 skip
 (refine Br.mk (fun _=>?_) (fun _=>?_))
 ·have hlt:i<l.length:=by omega
  (repeat'((conv=>whnf);first|refine Zn ?_|refine Zj ?_|fail))
  (refine Br.mk (fun _=>?_) (fun _=>?_))
  ·rename_i hb
   skip
   (conv=>whnf)
   (repeat'(first|rfl|refine And.intro ?_ ?_|fail))
   exact (ixD_at _ hlt hb hp).symm
  ·rename_i hb
   (repeat'((conv=>whnf);first|refine Zn ?_|fail))
   refine ⟨(i+1:Nat),by show l.length-(i+1)<l.length-i;omega,⟨hlt,fun j hj=>?_⟩,?_⟩
   ·rcases Nat.lt_succ_iff_lt_or_eq.1 hj with h1 | h1
    ·exact hp j h1
    ·subst h1;exact hb
   ·(repeat'(first|exact trivial|rfl|refine And.intro ?_ ?_|fail))
 ·have e:i=l.length:=by omega
  subst e
  skip
  (conv=>whnf)
  (repeat'(first|rfl|refine And.intro ?_ ?_|fail))
  exact (ixD_no _ hp).symm
def c74p:Con:=mkCon 86 true fun args K=>match args with | [.seq .str l,.clo 78 [] []]=>K (I (ixD notP l)) | _=>False
theorem k74p:ConOK Tryz.prog c74p:=by
 refine conOK_of rfl (enters_of Tryz.func86 (by kernel_rfl) rfl) ?_
 intro args K h
 simp only[c74p] at h
 split at h
 ·rename_i l;exact ⟨_,h,tri_of_body (Γ:=[c1078]) (by simp[k1078]) Tryz.func86 (by simp[Tryz.ntmps86]) rfl (b74p l)⟩
 ·exact h.elim
theorem b33p (l:List (List UInt8)):body Tryz.prog [c74p] {} true Tryz.f49 [.seq .str l,.clo 78 [] []] (.bl (0≤ixD notP l) inferInstance):=by
 skip
 (conv=>whnf)
 skip
def c33p:Con:=mkCon 49 true fun args K=>match args with | [.seq .str l,.clo 78 [] []]=>K (.bl (0≤ixD notP l) inferInstance) | _=>False
theorem k33p:ConOK Tryz.prog c33p:=by
 refine conOK_of rfl (enters_of Tryz.func49 (by kernel_rfl) rfl) ?_
 intro args K h
 simp only[c33p] at h
 split at h
 ·rename_i l;exact ⟨_,h,tri_of_body (Γ:=[c74p]) (by simp[k74p]) Tryz.func49 (by simp[Tryz.ntmps49]) rfl (b33p l)⟩
 ·exact h.elim
theorem b1037 (l:List (List UInt8)):body Tryz.prog [c33p] {} true Tryz.f37 [.seq .str l] (.bl (badP l) inferInstance):=by
 skip
 (conv=>whnf)
 exact ixD_iff notP l
def c1037:Con:=mkCon 37 true fun args K=>match args with | [.seq .str l]=>K (.bl (badP l) inferInstance) | _=>False
theorem k1037:ConOK Tryz.prog c1037:=by
 refine conOK_of rfl (enters_of Tryz.func37 (by kernel_rfl) rfl) ?_
 intro args K h
 simp only[c1037] at h
 split at h
 ·rename_i l;exact ⟨_,h,tri_of_body (Γ:=[c33p]) (by simp[k33p]) Tryz.func37 (by simp[Tryz.ntmps37]) rfl (b1037 l)⟩
 ·exact h.elim
theorem b1034 (a b c:List UInt8):body Tryz.prog [c1077,c21] {} true Tryz.f34 [.agg [S a,S b,S c]] (I (chk3 a b c)):=by
 by_cases h1:chkQ a=0
 ·by_cases h2:chkQ b=0
  ·by_cases h3:chkQ c=0
   ·have e:chk3 a b c=if chkP a≠0 then chkP a else if chkP b≠0 then chkP b else chkP c:=by
     unfold chk3;rw[if_neg (fun h=>h h1),if_neg (fun h=>h h2),if_neg (fun h=>h h3)]
    rw[e]
    by_cases p1:chkP a=0
    ·rw[if_neg (fun h=>h p1)]
     by_cases p2:chkP b=0
     ·rw[if_neg (fun h=>h p2)]
      by_cases p3:chkP c=0
      ·rw[p3]
       (repeat'((conv=>whnf);first|refine Zn ?_|refine Z0 ?_|refine Z1 ?_|refine Z2 ?_|refine Zy ?_|refine Zm ?_|fail))
       (conv=>whnf)
       (repeat'(first|rfl|refine And.intro ?_ ?_|fail))
      ·(repeat'((conv=>whnf);first|refine Zn ?_|refine Z0 ?_|refine Z1 ?_|refine Z2 ?_|refine Zy ?_|refine Zm ?_|fail))
       (conv=>whnf)
       (repeat'(first|rfl|refine And.intro ?_ ?_|fail))
     ·rw[if_pos p2]
      (repeat'((conv=>whnf);first|refine Zn ?_|refine Z0 ?_|refine Z1 ?_|refine Z2 ?_|refine Zy ?_|refine Zm ?_|fail))
      (conv=>whnf)
      (repeat'(first|rfl|refine And.intro ?_ ?_|fail))
    ·rw[if_pos p1]
     (repeat'((conv=>whnf);first|refine Zn ?_|refine Z0 ?_|refine Z1 ?_|refine Z2 ?_|refine Zy ?_|refine Zm ?_|fail))
     (conv=>whnf)
     (repeat'(first|rfl|refine And.intro ?_ ?_|fail))
   ·rw[show chk3 a b c=chkQ c by unfold chk3;rw[if_neg (fun h=>h h1),if_neg (fun h=>h h2),if_pos h3]]
    (repeat'((conv=>whnf);first|refine Zn ?_|refine Z0 ?_|refine Z1 ?_|refine Z2 ?_|refine Zy ?_|refine Zm ?_|fail))
    (conv=>whnf)
    (repeat'(first|rfl|refine And.intro ?_ ?_|fail))
  ·rw[show chk3 a b c=chkQ b by unfold chk3;rw[if_neg (fun h=>h h1),if_pos h2]]
   (repeat'((conv=>whnf);first|refine Zn ?_|refine Z0 ?_|refine Z1 ?_|refine Zy ?_|refine Zm ?_|fail))
   (conv=>whnf)
   (repeat'(first|rfl|refine And.intro ?_ ?_|fail))
 ·rw[show chk3 a b c=chkQ a by unfold chk3;rw[if_pos h1]]
  (repeat'((conv=>whnf);first|refine Zn ?_|refine Z0 ?_|refine Zy ?_|fail))
  (conv=>whnf)
  (repeat'(first|rfl|refine And.intro ?_ ?_|fail))
def c1034:Con:=mkCon 34 true fun args K=>match args with | [.agg [.str a,.str b,.str c]]=>K (I (chk3 a b c)) | _=>False
theorem k1034:ConOK Tryz.prog c1034:=by
 refine conOK_of rfl (enters_of Tryz.func34 (by kernel_rfl) rfl) ?_
 intro args K h
 simp only[c1034] at h
 split at h
 ·rename_i a b c;exact ⟨_,h,tri_of_body (Γ:=[c1077,c21]) (by simp[k1077,k21]) Tryz.func34 (by simp[Tryz.ntmps34]) rfl (b1034 a b c)⟩
 ·exact h.elim
abbrev CE (e:Int):HO:=.cells [I e] 61
abbrev CF (e:Int):HO:=.cells [I e] 71
theorem b1040 (a:List UInt8) (e e0:Int):bodyH Tryz.prog [] {} Tryz.f40 [.ptr 0 0,S a,I e] [CE e0] (fun r H'=>r=S a∧H'= [CE (keepE e0 e)]):=by
 unfold keepE
 (conv=>whnf)
 refine Need.mk rfl ?_
 skip
 (refine Br.mk (fun _=>?_) (fun _=>?_))
 ·rename_i h
  rw[if_pos h]
  skip
  (conv=>whnf)
  refine ⟨_,_,⟨rfl,rfl⟩,rfl,?_,rfl,rfl,?_⟩
  all_goals (repeat'(first|exact trivial|rfl|refine And.intro ?_ ?_|fail))
 ·rename_i h
  rw[if_neg h]
  skip
  (conv=>whnf)
  refine ⟨_,_,⟨rfl,rfl⟩,rfl,?_,rfl,rfl,?_⟩
  all_goals (repeat'(first|exact trivial|rfl|refine And.intro ?_ ?_|fail))
def c1040:Con:=celCon 40 61 fun args e0 K=>match args with | [.str a,.val (.int .i64 e)]=>K (S a) (keepE e0 e) | _=>False
theorem k1040:ConOK Tryz.prog c1040:=by
 refine celOK_of (enters_of Tryz.func40 (by kernel_rfl) rfl) ?_
 intro args e0 K h
 split at h
 ·rename_i a e;exact ⟨_,_,h,rfl,htri_of_body (Γ:=[]) (by simp) Tryz.func40 (by simp[Tryz.ntmps40]) (b1040 a e e0)⟩
 ·exact h.elim
noncomputable def keepS (e0:Int) (r:List UInt8 × Int):List UInt8:=if keepE e0 r.2=0 then r.1 else [48]
theorem b1082 (a:List UInt8) (e e0:Int):bodyH Tryz.prog [] {} Tryz.f82 [.ptr 0 0,S a,I e] [CF e0] (fun r H'=>r=S (keepS e0 (a,e))∧H'= [CF (keepE e0 e)]):=by
 unfold keepS keepE
 (conv=>whnf)
 refine Need.mk rfl ?_
 by_cases h:e0=0
 ·subst h
  by_cases h1:e=0
  ·subst h1
   (repeat'((conv=>whnf);first|refine Zm ?_|fail))
   (conv=>whnf)
   refine ⟨_,_,⟨rfl,rfl⟩,rfl,?_,rfl,rfl,?_⟩
   all_goals (repeat'(first|exact trivial|rfl|refine And.intro ?_ ?_|fail))
  ·(repeat'((conv=>whnf);first|refine Zy ?_|fail))
   (conv=>whnf)
   refine ⟨_,_,⟨rfl,rfl⟩,rfl,?_,rfl,rfl,?_⟩
   all_goals (repeat'(first|exact trivial|rfl|refine And.intro ?_ ?_|fail))
   exact (if_neg (by rw[if_pos rfl];exact h1)).symm
 ·rw[if_neg h]
  by_cases h1:e=0
  ·subst h1
   (repeat'((conv=>whnf);first|refine Zy ?_|refine Zm ?_|fail))
   (conv=>whnf)
   refine ⟨_,_,⟨rfl,rfl⟩,rfl,?_,rfl,rfl,?_⟩
   all_goals (repeat'(first|exact trivial|rfl|refine And.intro ?_ ?_|fail))
   exact (if_neg h).symm
  ·(repeat'((conv=>whnf);first|refine Zy ?_|refine Zm ?_|fail))
   (conv=>whnf)
   refine ⟨_,_,⟨rfl,rfl⟩,rfl,?_,rfl,rfl,?_⟩
   all_goals (repeat'(first|exact trivial|rfl|refine And.intro ?_ ?_|fail))
   exact (if_neg h).symm
def c1082:Con:=celCon 82 71 fun args e0 K=>match args with | [.str a,.val (.int .i64 e)]=>K (S (keepS e0 (a,e))) (keepE e0 e) | _=>False
theorem k1082:ConOK Tryz.prog c1082:=by
 refine celOK_of (enters_of Tryz.func82 (by kernel_rfl) rfl) ?_
 intro args e0 K h
 split at h
 ·rename_i a e;exact ⟨_,_,h,rfl,htri_of_body (Γ:=[]) (by simp) Tryz.func82 (by simp[Tryz.ntmps82]) (b1082 a e e0)⟩
 ·exact h.elim
theorem b1043 (a b:List UInt8) (e0:Int):bodyH Tryz.prog [c19,c1040] {} Tryz.f43 [.ptr 0 0,S a,S b] [CE e0] (fun r H'=>r=S (mulQ a b).1∧H'= [CE (keepE e0 (mulQ a b).2)]):=by
 (conv=>whnf)
 refine Need.mk rfl ?_
 skip
 (conv=>whnf)
 refine ⟨_,_,⟨rfl,rfl⟩,rfl,?_,rfl,rfl,?_⟩
 all_goals (repeat'(first|exact trivial|rfl|refine And.intro ?_ ?_|fail))
def c1043:Con:=celCon 43 61 fun args e0 K=>match args with | [.str a,.str b]=>K (S (mulQ a b).1) (keepE e0 (mulQ a b).2) | _=>False
theorem k1043:ConOK Tryz.prog c1043:=by
 refine celOK_of (enters_of Tryz.func43 (by kernel_rfl) rfl) ?_
 intro args e0 K h
 split at h
 ·rename_i a b;exact ⟨_,_,h,rfl,htri_of_body (Γ:=[c19,c1040]) (by simp[k19,k1040]) Tryz.func43 (by simp[Tryz.ntmps43]) (b1043 a b e0)⟩
 ·exact h.elim
theorem b1041 (a b:List UInt8) (e0:Int):bodyH Tryz.prog [c20,c1040] {} Tryz.f41 [.ptr 0 0,S a,S b] [CE e0] (fun r H'=>r=S (subQ a b).1∧H'= [CE (keepE e0 (subQ a b).2)]):=by
 (conv=>whnf)
 refine Need.mk rfl ?_
 skip
 (conv=>whnf)
 refine ⟨_,_,⟨rfl,rfl⟩,rfl,?_,rfl,rfl,?_⟩
 all_goals (repeat'(first|exact trivial|rfl|refine And.intro ?_ ?_|fail))
def c1041:Con:=celCon 41 61 fun args e0 K=>match args with | [.str a,.str b]=>K (S (subQ a b).1) (keepE e0 (subQ a b).2) | _=>False
theorem k1041:ConOK Tryz.prog c1041:=by
 refine celOK_of (enters_of Tryz.func41 (by kernel_rfl) rfl) ?_
 intro args e0 K h
 split at h
 ·rename_i a b;exact ⟨_,_,h,rfl,htri_of_body (Γ:=[c20,c1040]) (by simp[k20,k1040]) Tryz.func41 (by simp[Tryz.ntmps41]) (b1041 a b e0)⟩
 ·exact h.elim
theorem b1042 (l:List (List UInt8)) (e0:Int):bodyH Tryz.prog [c27,c1040] {} Tryz.f42 [.ptr 0 0,.seq .str l] [CE e0] (fun r H'=>r=S (sumQ l).1∧H'= [CE (keepE e0 (sumQ l).2)]):=by
 (conv=>whnf)
 refine Need.mk rfl ?_
 skip
 (conv=>whnf)
 refine ⟨_,_,⟨rfl,rfl⟩,rfl,?_,rfl,rfl,?_⟩
 all_goals (repeat'(first|exact trivial|rfl|refine And.intro ?_ ?_|fail))
def c1042:Con:=celCon 42 61 fun args e0 K=>match args with | [.seq .str l]=>K (S (sumQ l).1) (keepE e0 (sumQ l).2) | _=>False
theorem k1042:ConOK Tryz.prog c1042:=by
 refine celOK_of (enters_of Tryz.func42 (by kernel_rfl) rfl) ?_
 intro args e0 K h
 split at h
 ·rename_i l;exact ⟨_,_,h,rfl,htri_of_body (Γ:=[c27,c1040]) (by simp[k27,k1040]) Tryz.func42 (by simp[Tryz.ntmps42]) (b1042 l e0)⟩
 ·exact h.elim
theorem b1046 (a b:List UInt8) (e0:Int):bodyH Tryz.prog [c41,c1082] {} Tryz.f46 [.ptr 0 0,S a,S b] [CF e0] (fun r H'=>r=S (keepS e0 (mulQ a b))∧H'= [CF (keepE e0 (mulQ a b).2)]):=by
 (conv=>whnf)
 refine Need.mk rfl ?_
 skip
 (conv=>whnf)
 refine ⟨_,_,⟨rfl,rfl⟩,rfl,?_,rfl,rfl,?_⟩
 all_goals (repeat'(first|exact trivial|rfl|refine And.intro ?_ ?_|fail))
def c1046:Con:=celCon 46 71 fun args e0 K=>match args with | [.str a,.str b]=>K (S (keepS e0 (mulQ a b))) (keepE e0 (mulQ a b).2) | _=>False
theorem k1046:ConOK Tryz.prog c1046:=by
 refine celOK_of (enters_of Tryz.func46 (by kernel_rfl) rfl) ?_
 intro args e0 K h
 split at h
 ·rename_i a b;exact ⟨_,_,h,rfl,htri_of_body (Γ:=[c41,c1082]) (by simp[k41,k1082]) Tryz.func46 (by simp[Tryz.ntmps46]) (b1046 a b e0)⟩
 ·exact h.elim
theorem b1045 (a b:List UInt8) (e0:Int):bodyH Tryz.prog [c40,c1082] {} Tryz.f45 [.ptr 0 0,S a,S b] [CF e0] (fun r H'=>r=S (keepS e0 (subQ a b))∧H'= [CF (keepE e0 (subQ a b).2)]):=by
 (conv=>whnf)
 refine Need.mk rfl ?_
 skip
 (conv=>whnf)
 refine ⟨_,_,⟨rfl,rfl⟩,rfl,?_,rfl,rfl,?_⟩
 all_goals (repeat'(first|exact trivial|rfl|refine And.intro ?_ ?_|fail))
theorem b1047 (a b:List UInt8) (e0:Int):bodyH Tryz.prog [c42,c1082] {} Tryz.f47 [.ptr 0 0,S a,S b] [CF e0] (fun r H'=>r=S (keepS e0 (divQ a b))∧H'= [CF (keepE e0 (divQ a b).2)]):=by
 (conv=>whnf)
 refine Need.mk rfl ?_
 skip
 (conv=>whnf)
 refine ⟨_,_,⟨rfl,rfl⟩,rfl,?_,rfl,rfl,?_⟩
 all_goals (repeat'(first|exact trivial|rfl|refine And.intro ?_ ?_|fail))
theorem b1048 (a b c:List UInt8) (e0:Int):bodyH Tryz.prog [c28,c1082] {} Tryz.f48 [.ptr 0 0,S a,S b,S c] [CF e0] (fun r H'=>r=S (keepS e0 (sumQ [a,b,c]))∧H'= [CF (keepE e0 (sumQ [a,b,c]).2)]):=by
 (conv=>whnf)
 refine Need.mk rfl ?_
 (repeat'((conv=>whnf);first|refine Zl ?_|fail))
 (conv=>whnf)
 refine ⟨_,_,⟨rfl,rfl⟩,rfl,?_,rfl,rfl,?_⟩
 all_goals (repeat'(first|exact trivial|rfl|refine And.intro ?_ ?_|fail))
def c1048:Con:=celCon 48 71 fun args e0 K=>match args with | [.str a,.str b,.str c]=>K (S (keepS e0 (sumQ [a,b,c]))) (keepE e0 (sumQ [a,b,c]).2) | _=>False
theorem k1048:ConOK Tryz.prog c1048:=by
 refine celOK_of (enters_of Tryz.func48 (by kernel_rfl) rfl) ?_
 intro args e0 K h
 split at h
 ·rename_i a b c;exact ⟨_,_,h,rfl,htri_of_body (Γ:=[c28,c1082]) (by simp[k28,k1082]) Tryz.func48 (by simp[Tryz.ntmps48]) (b1048 a b c e0)⟩
 ·exact h.elim
noncomputable def miS (a b x y:List UInt8):List UInt8 × Int:=subQ (mulQ a b).1 (mulQ x y).1
noncomputable def hgS (a b c x y:List UInt8):List UInt8 × Int:=sumQ [(mulQ a x).1,(mulQ b y).1,c]
theorem b1039 (a b x y:List UInt8) (e0:Int):bodyH Tryz.prog [c1043,c1041] {} Tryz.f39 [.ptr 0 0,S a,S b,S x,S y] [CE e0] (fun r H'=>r=S (miS a b x y).1∧H'= [CE (keepE (keepE (keepE e0 (mulQ a b).2) (mulQ x y).2) (miS a b x y).2)]):=by
 (conv=>whnf)
 refine Need.mk rfl ?_
 skip
 (conv=>whnf)
 refine ⟨_,_,⟨rfl,rfl⟩,rfl,?_,rfl,rfl,?_⟩
 all_goals (repeat'(first|exact trivial|rfl|refine And.intro ?_ ?_|fail))
def c1039:Con:=celCon 39 61 fun args e0 K=>match args with | [.str a,.str b,.str x,.str y]=>K (S (miS a b x y).1) (keepE (keepE (keepE e0 (mulQ a b).2) (mulQ x y).2) (miS a b x y).2) | _=>False
theorem k1039:ConOK Tryz.prog c1039:=by
 refine celOK_of (enters_of Tryz.func39 (by kernel_rfl) rfl) ?_
 intro args e0 K h
 split at h
 ·rename_i a b x y;exact ⟨_,_,h,rfl,htri_of_body (Γ:=[c1043,c1041]) (by simp[k1043,k1041]) Tryz.func39 (by simp[Tryz.ntmps39]) (b1039 a b x y e0)⟩
 ·exact h.elim
theorem b1053 (a b c x y:List UInt8) (e0:Int):bodyH Tryz.prog [c1043,c1042] {} Tryz.f53 [.ptr 0 0,.agg [S a,S b,S c],.agg [S x,S y]] [CE e0] (fun r H'=>r=S (hgS a b c x y).1∧H'= [CE (keepE (keepE (keepE e0 (mulQ a x).2) (mulQ b y).2) (hgS a b c x y).2)]):=by
 (conv=>whnf)
 refine Need.mk rfl ?_
 (repeat'((conv=>whnf);first|(apply Pin.mk;apply Exists.intro)|apply Pinned.mk rfl rfl|(apply PinH.mk;apply Exists.intro;apply Exists.intro)|exact Zf|refine Zc ?_ ?_|refine Zl ?_|fail))
 (conv=>whnf)
 refine ⟨_,_,⟨rfl,rfl⟩,rfl,?_,rfl,rfl,?_⟩
 all_goals (repeat'(first|exact trivial|rfl|refine And.intro ?_ ?_|fail))
def c1053:Con:=celCon 53 61 fun args e0 K=>match args with | [.agg [.str a,.str b,.str c],.agg [.str x,.str y]]=>K (S (hgS a b c x y).1) (keepE (keepE (keepE e0 (mulQ a x).2) (mulQ b y).2) (hgS a b c x y).2) | _=>False
theorem k1053:ConOK Tryz.prog c1053:=by
 refine celOK_of (enters_of Tryz.func53 (by kernel_rfl) rfl) ?_
 intro args e0 K h
 split at h
 ·rename_i a b c x y;exact ⟨_,_,h,rfl,htri_of_body (Γ:=[c1043,c1042]) (by simp[k1043,k1042]) Tryz.func53 (by simp[Tryz.ntmps53]) (b1053 a b c x y e0)⟩
 ·exact h.elim
theorem b1066 (a b c a' b' c':List UInt8) (e0:Int):bodyH Tryz.prog [c1043,c1042] {} Tryz.f66 [.ptr 0 0,.agg [S a,S b,S c],.agg [S a',S b',S c']] [CE e0] (fun r H'=>r=S (hgS a b [49] a' b').1∧H'= [CE (keepE (keepE (keepE e0 (mulQ a a').2) (mulQ b b').2) (hgS a b [49] a' b').2)]):=by
 (conv=>whnf)
 refine Need.mk rfl ?_
 (repeat'((conv=>whnf);first|(apply Pin.mk;apply Exists.intro)|apply Pinned.mk rfl rfl|(apply PinH.mk;apply Exists.intro;apply Exists.intro)|exact Zf|refine Zc ?_ ?_|refine Zl ?_|fail))
 (conv=>whnf)
 refine ⟨_,_,⟨rfl,rfl⟩,rfl,?_,rfl,rfl,?_⟩
 all_goals (repeat'(first|exact trivial|rfl|refine And.intro ?_ ?_|fail))
def c1066:Con:=celCon 66 61 fun args e0 K=>match args with | [.agg [.str a,.str b,.str c],.agg [.str a',.str b',.str c']]=>K (S (hgS a b [49] a' b').1) (keepE (keepE (keepE e0 (mulQ a a').2) (mulQ b b').2) (hgS a b [49] a' b').2) | _=>False
theorem k1066:ConOK Tryz.prog c1066:=by
 refine celOK_of (enters_of Tryz.func66 (by kernel_rfl) rfl) ?_
 intro args e0 K h
 split at h
 ·rename_i a b c a' b' c';exact ⟨_,_,h,rfl,htri_of_body (Γ:=[c1043,c1042]) (by simp[k1043,k1042]) Tryz.func66 (by simp[Tryz.ntmps66]) (b1066 a b c a' b' c' e0)⟩
 ·exact h.elim
theorem b1038 (a b c a' b' c':List UInt8) (e0:Int):bodyH Tryz.prog [c1041] {} Tryz.f38 [.ptr 0 0,.agg [S a,S b,S c],.agg [S a',S b',S c']] [CE e0] (fun r H'=>r= .agg [S (subQ a a').1,S (subQ b b').1,S (subQ c c').1]∧H'= [CE (keepE (keepE (keepE e0 (subQ a a').2) (subQ b b').2) (subQ c c').2)]):=by
 (conv=>whnf)
 refine Need.mk rfl ?_
 (repeat'((conv=>whnf);first|(apply Pin.mk;apply Exists.intro)|apply Pinned.mk rfl rfl|(apply PinH.mk;apply Exists.intro;apply Exists.intro)|exact Zf|refine Zc ?_ ?_|fail))
 (conv=>whnf)
 refine ⟨_,_,⟨rfl,rfl⟩,rfl,?_,rfl,rfl,?_⟩
 all_goals (repeat'(first|exact trivial|rfl|refine And.intro ?_ ?_|fail))
def c1038:Con:=celCon 38 61 fun args e0 K=>match args with | [.agg [.str a,.str b,.str c],.agg [.str a',.str b',.str c']]=>K (.agg [S (subQ a a').1,S (subQ b b').1,S (subQ c c').1]) (keepE (keepE (keepE e0 (subQ a a').2) (subQ b b').2) (subQ c c').2) | _=>False
theorem k1038:ConOK Tryz.prog c1038:=by
 refine celOK_of (enters_of Tryz.func38 (by kernel_rfl) rfl) ?_
 intro args e0 K h
 split at h
 ·rename_i a b c a' b' c';exact ⟨_,_,h,rfl,htri_of_body (Γ:=[c1041]) (by simp[k1041]) Tryz.func38 (by simp[Tryz.ntmps38]) (b1038 a b c a' b' c' e0)⟩
 ·exact h.elim
theorem b1052 (a:List UInt8) (e0:Int):bodyH Tryz.prog [] {} Tryz.f52 [.ptr 0 0,S a] [CE e0] (fun r H'=>r= .tup [S (if e0=0 then a else []),I e0]∧H'= [CE e0]):=by
 (conv=>whnf)
 refine Need.mk rfl ?_
 skip
 (refine Br.mk (fun _=>?_) (fun _=>?_))
 ·rename_i h
  rw[if_neg h]
  (repeat'((conv=>whnf);first|(apply Pin.mk;apply Exists.intro)|apply Pinned.mk rfl rfl|fail))
  (conv=>whnf)
  refine ⟨_,_,⟨rfl,rfl⟩,rfl,?_,rfl,rfl,?_⟩
  all_goals (repeat'(first|exact trivial|rfl|refine And.intro ?_ ?_|fail))
 ·rename_i h
  have h:=Classical.not_not.1 h
  subst h
  skip
  (conv=>whnf)
  refine ⟨_,_,⟨rfl,rfl⟩,rfl,?_,rfl,rfl,?_⟩
  all_goals (repeat'(first|exact trivial|rfl|refine And.intro ?_ ?_|fail))
def c1052:Con:=celCon 52 61 fun args e0 K=>match args with | [.str a]=>K (.tup [S (if e0=0 then a else []),I e0]) (e0) | _=>False
theorem k1052:ConOK Tryz.prog c1052:=by
 refine celOK_of (enters_of Tryz.func52 (by kernel_rfl) rfl) ?_
 intro args e0 K h
 split at h
 ·rename_i a;exact ⟨_,_,h,rfl,htri_of_body (Γ:=[]) (by simp) Tryz.func52 (by simp[Tryz.ntmps52]) (b1052 a e0)⟩
 ·exact h.elim
noncomputable def atS (e0:Int) (a b c x y:List UInt8):List UInt8 × Int:=
 let e1:=keepE e0 (mulQ a x).2
 let e2:=keepE e1 (mulQ b y).2
 let s:=sumQ [keepS e0 (mulQ a x),keepS e1 (mulQ b y),c]
 (keepS e2 s,keepE e2 s.2)
theorem b1073 (a b c x y:List UInt8) (e0:Int):bodyH Tryz.prog [c1046,c1048] {} Tryz.f73 [.ptr 0 0,.agg [S a,S b,S c],S x,S y] [CF e0] (fun r H'=>r=S (atS e0 a b c x y).1∧H'= [CF ((atS e0 a b c x y).2)]):=by
 (conv=>whnf)
 refine Need.mk rfl ?_
 (repeat'((conv=>whnf);first|(apply Pin.mk;apply Exists.intro)|apply Pinned.mk rfl rfl|(apply PinH.mk;apply Exists.intro;apply Exists.intro)|exact Zf|refine Zc ?_ ?_|fail))
 (conv=>whnf)
 refine ⟨_,_,⟨rfl,rfl⟩,rfl,?_,rfl,rfl,?_⟩
 all_goals (repeat'(first|exact trivial|rfl|refine And.intro ?_ ?_|fail))
def c1073:Con:=celCon 73 71 fun args e0 K=>match args with | [.agg [.str a,.str b,.str c],.str x,.str y]=>K (S (atS e0 a b c x y).1) ((atS e0 a b c x y).2) | _=>False
theorem k1073:ConOK Tryz.prog c1073:=by
 refine celOK_of (enters_of Tryz.func73 (by kernel_rfl) rfl) ?_
 intro args e0 K h
 split at h
 ·rename_i a b c x y;exact ⟨_,_,h,rfl,htri_of_body (Γ:=[c1046,c1048]) (by simp[k1046,k1048]) Tryz.func73 (by simp[Tryz.ntmps73]) (b1073 a b c x y e0)⟩
 ·exact h.elim
theorem b1080 (a:List UInt8):body Tryz.prog [c26] {} true Tryz.f80 [S a] (.bl (chkP a=0) inferInstance):=by
 by_cases h:chkQ a=0
 ·have e:ptQ a=(pn (valQ a),pd (valQ a)):=by unfold ptQ;rw[if_pos h]
  have hl:0<(ptQ a).1.length:=by rw[e];exact itoa_pos
  have hP:chkP a=0↔((digs (ptQ a).1).length:Int)≤36∧((ptQ a).2.length:Int)≤36:=by
   have hd:=d36_iff (a:=a)
   rw[e]
   dsimp only
   unfold chkP
   rw[if_neg (fun h'=>h' h)]
   constructor
   ·intro h1
    split at h1
    ·rename_i h2
     have:=hd.2 h2
     constructor<;>omega
    ·exact absurd h1 (by decide)
   ·rintro ⟨h1,h2⟩
    rw[if_pos (hd.1 (by omega))]
  skip
  refine Br.mkN (show ¬ ¬chkQ a=0 from fun h'=>h' h) ?_
  (repeat'((conv=>whnf);first|refine Zg fun _=>?_|refine Zn ?_|refine Z0 ?_|fail))
  (refine Br.mk (fun _=>?_) (fun _=>?_))
  ·rename_i hm
   have hD:=digs_one hl hm
   rw[hD] at hP
   (repeat'((conv=>whnf);first|refine Zg fun _=>?_|refine Zn ?_|refine Z1 ?_|fail))
   (refine Br.mk (fun _=>?_) (fun _=>?_))
   ·rename_i h1
    (repeat'((conv=>whnf);first|refine Zg fun _=>?_|fail))
    (conv=>whnf)
    rw[hP]
    exact ⟨fun h2=>⟨h1,h2⟩,fun h2=>h2.2⟩
   ·rename_i h1
    skip
    (conv=>whnf)
    rw[hP]
    exact fun h2=>absurd h2.1 h1
  ·rename_i hm
   have hD:=digs_zero (s:=(ptQ a).1) (fun _=>hm)
   rw[hD,List.drop_zero] at hP
   (repeat'((conv=>whnf);first|refine Zg fun _=>?_|fail))
   (refine Br.mk (fun _=>?_) (fun _=>?_))
   ·rename_i h1
    (repeat'((conv=>whnf);first|refine Zg fun _=>?_|fail))
    (conv=>whnf)
    rw[hP]
    exact ⟨fun h2=>⟨h1,h2⟩,fun h2=>h2.2⟩
   ·rename_i h1
    skip
    (conv=>whnf)
    rw[hP]
    exact fun h2=>absurd h2.1 h1
 ·skip
  refine Br.mkY h ?_
  skip
  (conv=>whnf)
  exact fun h1=>h (chkP_ok h1).1
def c1080:Con:=mkCon 80 true fun args K=>match args with | [.str a]=>K (.bl (chkP a=0) inferInstance) | _=>False
theorem k1080:ConOK Tryz.prog c1080:=by
 refine conOK_of rfl (enters_of Tryz.func80 (by kernel_rfl) rfl) ?_
 intro args K h
 simp only[c1080] at h
 split at h
 ·rename_i a;exact ⟨_,h,tri_of_body (Γ:=[c26]) (by simp[k26]) Tryz.func80 (by simp[Tryz.ntmps80]) rfl (b1080 a)⟩
 ·exact h.elim
theorem bad3_iff {a b c:List UInt8}:¬badP [a,b,c]↔chkP a=0∧chkP b=0∧chkP c=0:=by
 constructor
 ·intro h
  have:=badP_no h
  exact ⟨this a (by simp),this b (by simp),this c (by simp)⟩
 ·rintro ⟨h1,h2,h3⟩ ⟨x,hx,h⟩
  simp only[List.mem_cons,List.not_mem_nil,or_false] at hx
  rcases hx with rfl | rfl | rfl
  ·exact h h1
  ·exact h h2
  ·exact h h3
theorem b1044 (a b c:List UInt8):body Tryz.prog [c1080] {} true Tryz.f44 [S a,S b,S c] (.bl (¬badP [a,b,c]) inferInstance):=by
 skip
 (refine Br.mk (fun _=>?_) (fun _=>?_))
 ·rename_i h1
  skip
  (refine Br.mk (fun _=>?_) (fun _=>?_))
  ·rename_i h2
   skip
   (conv=>whnf)
   rw[bad3_iff]
   exact ⟨fun h=>⟨h1,h2,h⟩,fun h=>h.2.2⟩
  ·rename_i h2
   skip
   (conv=>whnf)
   rw[bad3_iff]
   exact fun h=>h2 h.2.1
 ·rename_i h1
  skip
  (conv=>whnf)
  rw[bad3_iff]
  exact fun h=>h1 h.1
def c1044:Con:=mkCon 44 true fun args K=>match args with | [.str a,.str b,.str c]=>K (.bl (¬badP [a,b,c]) inferInstance) | _=>False
theorem k1044:ConOK Tryz.prog c1044:=by
 refine conOK_of rfl (enters_of Tryz.func44 (by kernel_rfl) rfl) ?_
 intro args K h
 simp only[c1044] at h
 split at h
 ·rename_i a b c;exact ⟨_,h,tri_of_body (Γ:=[c1080]) (by simp[k1080]) Tryz.func44 (by simp[Tryz.ntmps44]) rfl (b1044 a b c)⟩
 ·exact h.elim
theorem chk3_iff {a b c:List UInt8} (h1:chkQ a=0) (h2:chkQ b=0) (h3:chkQ c=0):chk3 a b c=if ¬badP [a,b,c] then 0 else 4:=by
 have k:∀ {x},chkQ x=0→chkP x=0∨chkP x=4:=fun {x} hx=>by
  unfold chkP
  rw[if_neg (fun h=>h hx)]
  split
  ·exact .inl rfl
  ·exact .inr rfl
 unfold chk3
 rw[if_neg (fun h=>h h1),if_neg (fun h=>h h2),if_neg (fun h=>h h3)]
 by_cases p1:chkP a=0
 ·rw[if_neg (fun h=>h p1)]
  by_cases p2:chkP b=0
  ·rw[if_neg (fun h=>h p2)]
   by_cases p3:chkP c=0
   ·rw[if_pos (bad3_iff.2 ⟨p1,p2,p3⟩),p3]
   ·rw[if_neg (fun h=>p3 (bad3_iff.1 h).2.2),(k h3).resolve_left p3]
  ·rw[if_pos p2,if_neg (fun h=>p2 (bad3_iff.1 h).2.1),(k h2).resolve_left p2]
 ·rw[if_pos p1,if_neg (fun h=>p1 (bad3_iff.1 h).1),(k h1).resolve_left p1]
theorem b1035 (a b c:List UInt8):body Tryz.prog [c44,c1044] {} true Tryz.f35 [.agg [S a,S b,S c]] (I (chk3 a b c)):=by
 by_cases h1:chkQ a=0
 ·by_cases h2:chkQ b=0
  ·by_cases h3:chkQ c=0
   ·rw[chk3_iff h1 h2 h3]
    by_cases hb:badP [a,b,c]
    ·rw[if_neg (fun h=>h hb)]
     (repeat'((conv=>whnf);first|refine Zn ?_|refine Z0 ?_|refine Z1 ?_|refine Z2 ?_|refine Zl ?_|refine Zy ?_|refine Zm ?_|fail))
     refine Br.mkY (fun h=>h hb) ?_
     skip
     (conv=>whnf)
     (repeat'(first|rfl|refine And.intro ?_ ?_|fail))
    ·rw[if_pos hb]
     (repeat'((conv=>whnf);first|refine Zn ?_|refine Z0 ?_|refine Z1 ?_|refine Z2 ?_|refine Zl ?_|refine Zy ?_|refine Zm ?_|fail))
     (conv=>whnf)
     (repeat'(first|rfl|refine And.intro ?_ ?_|fail))
   ·rw[show chk3 a b c=chkQ c by unfold chk3;rw[if_neg (fun h=>h h1),if_neg (fun h=>h h2),if_pos h3]]
    (repeat'((conv=>whnf);first|refine Zn ?_|refine Z0 ?_|refine Z1 ?_|refine Z2 ?_|refine Zl ?_|refine Zy ?_|refine Zm ?_|fail))
    (conv=>whnf)
    (repeat'(first|rfl|refine And.intro ?_ ?_|fail))
  ·rw[show chk3 a b c=chkQ b by unfold chk3;rw[if_neg (fun h=>h h1),if_pos h2]]
   (repeat'((conv=>whnf);first|refine Zn ?_|refine Z0 ?_|refine Z1 ?_|refine Zl ?_|refine Zy ?_|refine Zm ?_|fail))
   (conv=>whnf)
   (repeat'(first|rfl|refine And.intro ?_ ?_|fail))
 ·rw[show chk3 a b c=chkQ a by unfold chk3;rw[if_pos h1]]
  (repeat'((conv=>whnf);first|refine Zn ?_|refine Z0 ?_|refine Zl ?_|refine Zy ?_|fail))
  (conv=>whnf)
  (repeat'(first|rfl|refine And.intro ?_ ?_|fail))
def c1035:Con:=mkCon 35 true fun args K=>match args with | [.agg [.str a,.str b,.str c]]=>K (I (chk3 a b c)) | _=>False
theorem k1035:ConOK Tryz.prog c1035:=by
 refine conOK_of rfl (enters_of Tryz.func35 (by kernel_rfl) rfl) ?_
 intro args K h
 simp only[c1035] at h
 split at h
 ·rename_i a b c;exact ⟨_,h,tri_of_body (Γ:=[c44,c1044]) (by simp[k44,k1044]) Tryz.func35 (by simp[Tryz.ntmps35]) rfl (b1035 a b c)⟩
 ·exact h.elim
theorem b1074 (a:List UInt8):body Tryz.prog [c40] {} true Tryz.f74 [S a] (S (subQ [48] a).1):=by
 skip
 (conv=>whnf)
 skip
def c1074:Con:=mkCon 74 true fun args K=>match args with | [.str a]=>K (S (subQ [48] a).1) | _=>False
theorem k1074:ConOK Tryz.prog c1074:=by
 refine conOK_of rfl (enters_of Tryz.func74 (by kernel_rfl) rfl) ?_
 intro args K h
 simp only[c1074] at h
 split at h
 ·rename_i a;exact ⟨_,h,tri_of_body (Γ:=[c40]) (by simp[k40]) Tryz.func74 (by simp[Tryz.ntmps74]) rfl (b1074 a)⟩
 ·exact h.elim
section
variable {a b c x y a' b' c':Rat}
theorem hg_steps (ha:Sz 36 a) (hb:Sz 36 b) (hc:Sz 36 c) (hx:Sz 36 x) (hy:Sz 36 y):mulQ (numS a) (numS x)=(numS (a*x),0)∧mulQ (numS b) (numS y)=(numS (b*y),0)∧sumQ [numS (a*x),numS (b*y),numS c]=(numS (a*x+b*y+c),0)∧Sz 182 (a*x+b*y+c):=by
 have z1:=ha.mul hx
 have z2:=hb.mul hy
 obtain ⟨h1,h2⟩:=sum3 z1 z2 hc (by omega) (by omega) (by omega) (by omega)
 exact ⟨mulQ_sz ha hx (by omega) (by omega) (by omega),mulQ_sz hb hy (by omega) (by omega) (by omega),h1,h2⟩
theorem hgS_ok (ha:Sz 36 a) (hb:Sz 36 b) (hc:Sz 36 c) (hx:Sz 36 x) (hy:Sz 36 y):hgS (numS a) (numS b) (numS c) (numS x) (numS y)=(numS (a*x+b*y+c),0):=by
 obtain ⟨h1,h2,h3,_⟩:=hg_steps ha hb hc hx hy
 unfold hgS
 rw[h1,h2];exact h3
theorem hg_keep (ha:Sz 36 a) (hb:Sz 36 b) (hc:Sz 36 c) (hx:Sz 36 x) (hy:Sz 36 y):keepE (keepE (keepE 0 (mulQ (numS a) (numS x)).2) (mulQ (numS b) (numS y)).2) (hgS (numS a) (numS b) (numS c) (numS x) (numS y)).2=0:=by
 obtain ⟨h1,h2,h3,_⟩:=hg_steps ha hb hc hx hy
 rw[hgS_ok ha hb hc hx hy,h1,h2];rfl
theorem atS_ok (ha:Sz 36 a) (hb:Sz 36 b) (hc:Sz 36 c) (hx:Sz 36 x) (hy:Sz 36 y):atS 0 (numS a) (numS b) (numS c) (numS x) (numS y)=(numS (a*x+b*y+c),0):=by
 obtain ⟨h1,h2,h3,_⟩:=hg_steps ha hb hc hx hy
 unfold atS keepS
 simp only[h1,h2,keepE0,if_true,h3]
end
theorem b1019 (a b c x y:List UInt8):body Tryz.prog [c1034,c1037,c1053,c1052] {} true Tryz.f19 [.agg [S a,S b,S c],.agg [S x,S y]] (.tup [S (atP a b c x y).1,I (atP a b c x y).2]):=by
 by_cases h1:chk3 a b c=0
 ·by_cases h2:badP [x,y]
  ·have e:atP a b c x y=([],1):=by unfold atP;rw[if_pos (.inr h2)]
   rw[e]
   (repeat'((conv=>whnf);first|refine Zl ?_|refine Zy ?_|refine Zm ?_|fail))
   (conv=>whnf)
   (repeat'(first|exact trivial|rfl|refine And.intro ?_ ?_|fail))
  ·have e:atP a b c x y=(numS (hgt a b c x y),0):=by unfold atP;rw[if_neg (by rintro (h | h);exact h h1;exact h2 h)]
   rw[e]
   obtain ⟨p,q,r,⟨rfl,rfl,rfl⟩,⟨z1,z2,z3⟩,v1,v2,v3⟩:=chk3_num h1
   obtain ⟨s,t,⟨rfl,rfl⟩,⟨z4,z5⟩,v4,v5⟩:=badP2_num h2
   have hs:=hgS_ok z1 z2 z3 z4 z5
   have hk:=hg_keep z1 z2 z3 z4 z5
   unfold hgt
   rw[v1,v2,v3,v4,v5]
   (repeat'((conv=>whnf);first|refine Zl ?_|refine Zm ?_|fail))
   (conv=>whnf)
   (repeat'(first|exact trivial|rfl|refine And.intro ?_ ?_|fail))
   ·(conv=>whnf)
    rw[if_pos hk,hs]
   ·(conv=>whnf)
    exact hk
 ·have e:atP a b c x y=([],1):=by unfold atP;rw[if_pos (.inl h1)]
  rw[e]
  (repeat'((conv=>whnf);first|refine Zy ?_|fail))
  (conv=>whnf)
  (repeat'(first|exact trivial|rfl|refine And.intro ?_ ?_|fail))
def c1019:Con:=mkCon 19 true fun args K=>match args with | [.agg [.str a,.str b,.str c],.agg [.str x,.str y]]=>K (.tup [S (atP a b c x y).1,I (atP a b c x y).2]) | _=>False
theorem k1019:ConOK Tryz.prog c1019:=by
 refine conOK_of rfl (enters_of Tryz.func19 (by kernel_rfl) rfl) ?_
 intro args K h
 simp only[c1019] at h
 split at h
 ·rename_i a b c x y;exact ⟨_,h,tri_of_body (Γ:=[c1034,c1037,c1053,c1052]) (by simp[k1034,k1037,k1053,k1052]) Tryz.func19 (by simp[Tryz.ntmps19]) rfl (b1019 a b c x y)⟩
 ·exact h.elim
theorem b1029 (a b c x y:List UInt8):body Tryz.prog [c1035,c1044,c1073] {} true Tryz.f29 [.agg [S a,S b,S c],.agg [S x,S y]] (.tup [S (atP a b c x y).1,I (atP a b c x y).2]):=by
 have hb:¬badP [x,y,[48]]↔¬badP [x,y]:=by
  rw[bad3_iff]
  constructor
  ·rintro ⟨h1,h2,_⟩ ⟨z,hz,h⟩
   simp only[List.mem_cons,List.not_mem_nil,or_false] at hz
   rcases hz with rfl | rfl
   ·exact h h1
   ·exact h h2
  ·intro h
   have:=badP_no h
   exact ⟨this x (by simp),this y (by simp),by rw[← numS0];exact chkP_numS sz0 (by decide) (by decide)⟩
 by_cases h1:chk3 a b c=0
 ·by_cases h2:badP [x,y]
  ·have e:atP a b c x y=([],1):=by unfold atP;rw[if_pos (.inr h2)]
   have h3:¬ ¬badP [x,y,[48]]:=fun h=>hb.1 h h2
   rw[e]
   (repeat'((conv=>whnf);first|refine Zy ?_|refine Zm ?_|fail))
   (conv=>whnf)
   (repeat'(first|exact trivial|rfl|refine And.intro ?_ ?_|fail))
  ·have e:atP a b c x y=(numS (hgt a b c x y),0):=by unfold atP;rw[if_neg (by rintro (h | h);exact h h1;exact h2 h)]
   have h3:=hb.2 h2
   rw[e]
   obtain ⟨p,q,r,⟨rfl,rfl,rfl⟩,⟨z1,z2,z3⟩,v1,v2,v3⟩:=chk3_num h1
   obtain ⟨s,t,⟨rfl,rfl⟩,⟨z4,z5⟩,v4,v5⟩:=badP2_num h2
   have hs:=atS_ok z1 z2 z3 z4 z5
   have hk:(atS 0 (numS p) (numS q) (numS r) (numS s) (numS t)).2=0:=by rw[hs]
   unfold hgt
   rw[v1,v2,v3,v4,v5]
   (repeat'((conv=>whnf);first|refine Zm ?_|fail))
   (conv=>whnf)
   (repeat'(first|exact trivial|rfl|refine And.intro ?_ ?_|fail))
   ·(conv=>whnf)
    rw[hs]
 ·have e:atP a b c x y=([],1):=by unfold atP;rw[if_pos (.inl h1)]
  rw[e]
  (repeat'((conv=>whnf);first|refine Zy ?_|fail))
  (conv=>whnf)
  (repeat'(first|exact trivial|rfl|refine And.intro ?_ ?_|fail))
def c1029:Con:=mkCon 29 true fun args K=>match args with | [.agg [.str a,.str b,.str c],.agg [.str x,.str y]]=>K (.tup [S (atP a b c x y).1,I (atP a b c x y).2]) | _=>False
theorem k1029:ConOK Tryz.prog c1029:=by
 refine conOK_of rfl (enters_of Tryz.func29 (by kernel_rfl) rfl) ?_
 intro args K h
 simp only[c1029] at h
 split at h
 ·rename_i a b c x y;exact ⟨_,h,tri_of_body (Γ:=[c1035,c1044,c1073]) (by simp[k1035,k1044,k1073]) Tryz.func29 (by simp[Tryz.ntmps29]) rfl (b1029 a b c x y)⟩
 ·exact h.elim
theorem sl_steps {a b:Rat} (ha:Sz 36 a) (hb:Sz 36 b):mulQ (numS a) (numS a)=(numS (a*a),0)∧mulQ (numS b) (numS b)=(numS (b*b),0)∧sumQ [numS (a*a),numS (b*b)]=(numS (a*a+b*b),0)∧sumQ [numS (a*a),numS (b*b),[48]]=(numS (a*a+b*b),0):=by
 have z1:=ha.mul ha
 have z2:=hb.mul hb
 refine ⟨mulQ_sz ha ha (by omega) (by omega) (by omega),mulQ_sz hb hb (by omega) (by omega) (by omega),(sum2 z1 z2 (by omega) (by omega) (by omega)).1,?_⟩
 have:=(sum3 z1 z2 sz0 (by omega) (by omega) (by omega) (by omega)).1
 rwa [numS0,Rat.add_zero] at this
theorem b1027 (a b c:List UInt8):body Tryz.prog [c1034,c1043,c1042,c1052] {} true Tryz.f27 [.agg [S a,S b,S c]] (.tup [S (slP a b c).1,I (slP a b c).2]):=by
 by_cases h1:chk3 a b c=0
 ·have e:slP a b c=(numS (valQ a*valQ a+valQ b*valQ b),0):=by unfold slP;rw[if_neg (fun h=>h h1)]
  rw[e]
  obtain ⟨p,q,r,⟨rfl,rfl,rfl⟩,⟨z1,z2,z3⟩,v1,v2,v3⟩:=chk3_num h1
  obtain ⟨s1,s2,s3,_⟩:=sl_steps z1 z2
  rw[v1,v2]
  (repeat'((conv=>whnf);first|(apply Pin.mk;apply Exists.intro)|apply Pinned.mk rfl rfl|(apply PinH.mk;apply Exists.intro;apply Exists.intro)|exact Zf|refine Zc ?_ ?_|refine Zl ?_|refine Zm ?_|fail))
  (conv=>whnf)
  (repeat'(first|exact trivial|rfl|refine And.intro ?_ ?_|fail))
  ·(conv=>whnf)
   rw[s1,s2]
   dsimp only
   rw[s3];rfl
  ·(conv=>whnf)
   rw[s1,s2]
   dsimp only
   rw[s3];rfl
 ·have e:slP a b c=([],1):=by unfold slP;rw[if_pos h1]
  rw[e]
  (repeat'((conv=>whnf);first|refine Zy ?_|fail))
  (conv=>whnf)
  (repeat'(first|exact trivial|rfl|refine And.intro ?_ ?_|fail))
def c1027:Con:=mkCon 27 true fun args K=>match args with | [.agg [.str a,.str b,.str c]]=>K (.tup [S (slP a b c).1,I (slP a b c).2]) | _=>False
theorem k1027:ConOK Tryz.prog c1027:=by
 refine conOK_of rfl (enters_of Tryz.func27 (by kernel_rfl) rfl) ?_
 intro args K h
 simp only[c1027] at h
 split at h
 ·rename_i a b c;exact ⟨_,h,tri_of_body (Γ:=[c1034,c1043,c1042,c1052]) (by simp[k1034,k1043,k1042,k1052]) Tryz.func27 (by simp[Tryz.ntmps27]) rfl (b1027 a b c)⟩
 ·exact h.elim
theorem b1030 (a b c:List UInt8):body Tryz.prog [c1035,c1046,c1048] {} true Tryz.f30 [.agg [S a,S b,S c]] (.tup [S (slP a b c).1,I (slP a b c).2]):=by
 by_cases h1:chk3 a b c=0
 ·have e:slP a b c=(numS (valQ a*valQ a+valQ b*valQ b),0):=by unfold slP;rw[if_neg (fun h=>h h1)]
  rw[e]
  obtain ⟨p,q,r,⟨rfl,rfl,rfl⟩,⟨z1,z2,z3⟩,v1,v2,v3⟩:=chk3_num h1
  obtain ⟨s1,s2,_,s3⟩:=sl_steps z1 z2
  rw[v1,v2]
  have hS:sumQ [keepS 0 (mulQ (numS p) (numS p)),keepS (keepE 0 (mulQ (numS p) (numS p)).2) (mulQ (numS q) (numS q)),[48]]=(numS (p*p+q*q),0):=by
   simp only[keepS,s1,s2,keepE0,if_true,s3]
  have hk:keepE (keepE (keepE 0 (mulQ (numS p) (numS p)).2) (mulQ (numS q) (numS q)).2) (sumQ [keepS 0 (mulQ (numS p) (numS p)),keepS (keepE 0 (mulQ (numS p) (numS p)).2) (mulQ (numS q) (numS q)),[48]]).2=0:=by
   rw[hS,s1,s2];rfl
  (repeat'((conv=>whnf);first|(apply Pin.mk;apply Exists.intro)|apply Pinned.mk rfl rfl|(apply PinH.mk;apply Exists.intro;apply Exists.intro)|exact Zf|refine Zc ?_ ?_|refine Zm ?_|fail))
  (conv=>whnf)
  (repeat'(first|exact trivial|rfl|refine And.intro ?_ ?_|fail))
  (conv=>whnf)
  show keepS (keepE (keepE 0 (mulQ (numS p) (numS p)).2) (mulQ (numS q) (numS q)).2) (sumQ [keepS 0 (mulQ (numS p) (numS p)),keepS (keepE 0 (mulQ (numS p) (numS p)).2) (mulQ (numS q) (numS q)),[48]])= _
  rw[hS,s1,s2];rfl
 ·have e:slP a b c=([],1):=by unfold slP;rw[if_pos h1]
  rw[e]
  (repeat'((conv=>whnf);first|refine Zy ?_|fail))
  (conv=>whnf)
  (repeat'(first|exact trivial|rfl|refine And.intro ?_ ?_|fail))
def c1030:Con:=mkCon 30 true fun args K=>match args with | [.agg [.str a,.str b,.str c]]=>K (.tup [S (slP a b c).1,I (slP a b c).2]) | _=>False
theorem k1030:ConOK Tryz.prog c1030:=by
 refine conOK_of rfl (enters_of Tryz.func30 (by kernel_rfl) rfl) ?_
 intro args K h
 simp only[c1030] at h
 split at h
 ·rename_i a b c;exact ⟨_,h,tri_of_body (Γ:=[c1035,c1046,c1048]) (by simp[k1035,k1046,k1048]) Tryz.func30 (by simp[Tryz.ntmps30]) rfl (b1030 a b c)⟩
 ·exact h.elim
theorem b1026 (a b c:List UInt8):body Tryz.prog [c1034,c1041] {} true Tryz.f26 [.agg [S a,S b,S c]] (.tup [.agg [S (drP a b c).1.1,S (drP a b c).1.2],I (drP a b c).2]):=by
 by_cases h1:chk3 a b c=0
 ·have e:drP a b c=((numS (0-valQ a),numS (0-valQ b)),0):=by unfold drP;rw[if_neg (fun h=>h h1)]
  rw[e]
  obtain ⟨p,q,r,⟨rfl,rfl,rfl⟩,⟨z1,z2,z3⟩,v1,v2,v3⟩:=chk3_num h1
  have s1:=subQ_sz sz0 z1 (by decide) (by decide) (by decide)
  have s2:=subQ_sz sz0 z2 (by decide) (by decide) (by decide)
  rw[numS0] at s1 s2
  rw[v1,v2]
  (repeat'((conv=>whnf);first|(apply Pin.mk;apply Exists.intro)|apply Pinned.mk rfl rfl|(apply PinH.mk;apply Exists.intro;apply Exists.intro)|exact Zf|refine Zc ?_ ?_|refine Zm ?_|fail))
  (conv=>whnf)
  (repeat'(first|exact trivial|rfl|refine And.intro ?_ ?_|fail))
  ·(conv=>whnf)
   skip
   (conv=>whnf)
   exact congrArg Prod.fst s1
  ·(conv=>whnf)
   exact congrArg Prod.fst s2
  ·(conv=>whnf)
   show keepE (keepE 0 (subQ [48] (numS p)).2) (subQ [48] (numS q)).2=0
   rw[s1,s2];rfl
 ·have e:drP a b c=(([],[]),1):=by unfold drP;rw[if_pos h1]
  rw[e]
  (repeat'((conv=>whnf);first|refine Zy ?_|fail))
  (conv=>whnf)
  (repeat'(first|exact trivial|rfl|refine And.intro ?_ ?_|fail))
def c1026:Con:=mkCon 26 true fun args K=>match args with | [.agg [.str a,.str b,.str c]]=>K (.tup [.agg [S (drP a b c).1.1,S (drP a b c).1.2],I (drP a b c).2]) | _=>False
theorem k1026:ConOK Tryz.prog c1026:=by
 refine conOK_of rfl (enters_of Tryz.func26 (by kernel_rfl) rfl) ?_
 intro args K h
 simp only[c1026] at h
 split at h
 ·rename_i a b c;exact ⟨_,h,tri_of_body (Γ:=[c1034,c1041]) (by simp[k1034,k1041]) Tryz.func26 (by simp[Tryz.ntmps26]) rfl (b1026 a b c)⟩
 ·exact h.elim
theorem b1031 (a b c:List UInt8):body Tryz.prog [c1035,c1074] {} true Tryz.f31 [.agg [S a,S b,S c]] (.tup [.agg [S (drP a b c).1.1,S (drP a b c).1.2],I (drP a b c).2]):=by
 by_cases h1:chk3 a b c=0
 ·have e:drP a b c=((numS (0-valQ a),numS (0-valQ b)),0):=by unfold drP;rw[if_neg (fun h=>h h1)]
  rw[e]
  obtain ⟨p,q,r,⟨rfl,rfl,rfl⟩,⟨z1,z2,z3⟩,v1,v2,v3⟩:=chk3_num h1
  have s1:=subQ_sz sz0 z1 (by decide) (by decide) (by decide)
  have s2:=subQ_sz sz0 z2 (by decide) (by decide) (by decide)
  rw[numS0] at s1 s2
  rw[v1,v2]
  (repeat'((conv=>whnf);first|(apply Pin.mk;apply Exists.intro)|apply Pinned.mk rfl rfl|refine Zm ?_|fail))
  (conv=>whnf)
  (repeat'(first|exact trivial|rfl|refine And.intro ?_ ?_|fail))
  ·(conv=>whnf)
   skip
   (conv=>whnf)
   exact congrArg Prod.fst s1
  ·(conv=>whnf)
   exact congrArg Prod.fst s2
 ·have e:drP a b c=(([],[]),1):=by unfold drP;rw[if_pos h1]
  rw[e]
  (repeat'((conv=>whnf);first|refine Zy ?_|fail))
  (conv=>whnf)
  (repeat'(first|exact trivial|rfl|refine And.intro ?_ ?_|fail))
def c1031:Con:=mkCon 31 true fun args K=>match args with | [.agg [.str a,.str b,.str c]]=>K (.tup [.agg [S (drP a b c).1.1,S (drP a b c).1.2],I (drP a b c).2]) | _=>False
theorem k1031:ConOK Tryz.prog c1031:=by
 refine conOK_of rfl (enters_of Tryz.func31 (by kernel_rfl) rfl) ?_
 intro args K h
 simp only[c1031] at h
 split at h
 ·rename_i a b c;exact ⟨_,h,tri_of_body (Γ:=[c1035,c1074]) (by simp[k1035,k1074]) Tryz.func31 (by simp[Tryz.ntmps31]) rfl (b1031 a b c)⟩
 ·exact h.elim
noncomputable abbrev Kp (e:Int) (a b a' b':List UInt8):Int:=keepE (keepE (keepE e (mulQ a a').2) (mulQ b b').2) (hgS a b [49] a' b').2
noncomputable abbrev Kh (e:Int) (a b c x y:List UInt8):Int:=keepE (keepE (keepE e (mulQ a x).2) (mulQ b y).2) (hgS a b c x y).2
section
variable {a b a' b':Rat}
theorem dot_steps (ha:Sz 36 a) (hb:Sz 36 b) (ha':Sz 36 a') (hb':Sz 36 b'):mulQ (numS a) (numS a')=(numS (a*a'),0)∧mulQ (numS b) (numS b')=(numS (b*b'),0)∧sumQ [numS (a*a'),numS (b*b'),[49]]=(numS (a*a'+b*b'+1),0)∧Sz 147 (a*a'+b*b'+1):=by
 have z1:=ha.mul ha'
 have z2:=hb.mul hb'
 obtain ⟨h1,h2⟩:=sum3 z1 z2 sz1 (by omega) (by omega) (by omega) (by omega)
 rw[numS1] at h1
 exact ⟨mulQ_sz ha ha' (by omega) (by omega) (by omega),mulQ_sz hb hb' (by omega) (by omega) (by omega),h1,h2⟩
theorem dotS_ok (ha:Sz 36 a) (hb:Sz 36 b) (ha':Sz 36 a') (hb':Sz 36 b'):hgS (numS a) (numS b) [49] (numS a') (numS b')=(numS (a*a'+b*b'+1),0):=by
 obtain ⟨h1,h2,h3,_⟩:=dot_steps ha hb ha' hb'
 unfold hgS
 rw[h1,h2];exact h3
theorem dot_keep (ha:Sz 36 a) (hb:Sz 36 b) (ha':Sz 36 a') (hb':Sz 36 b'):Kp 0 (numS a) (numS b) (numS a') (numS b')=0:=by
 obtain ⟨h1,h2,h3,_⟩:=dot_steps ha hb ha' hb'
 show keepE (keepE (keepE 0 _) _) _=0
 rw[dotS_ok ha hb ha' hb',h1,h2];rfl
end
theorem b1023 (a b c a' b' c':List UInt8):body Tryz.prog [c1034,c1066,c1043] {} true Tryz.f23 [.agg [S a,S b,S c],.agg [S a',S b',S c']] (.tup [S (nmP a b c a' b' c').1,S (nmP a b c a' b' c').2.1,I (nmP a b c a' b' c').2.2]):=by
 by_cases h1:chk3 a b c=0
 ·by_cases h2:chk3 a' b' c'=0
  ·have e:nmP a b c a' b' c'=(numS (dotP a b a' b'),numS (dotP a b a b*dotP a' b' a' b'),0):=by unfold nmP;rw[if_neg (by rintro (h | h);exact h h1;exact h h2)]
   rw[e]
   obtain ⟨p,q,r,⟨rfl,rfl,rfl⟩,⟨z1,z2,z3⟩,v1,v2,v3⟩:=chk3_num h1
   obtain ⟨s,t,u,⟨rfl,rfl,rfl⟩,⟨y1,y2,y3⟩,w1,w2,w3⟩:=chk3_num h2
   have d1:=dotS_ok z1 z2 y1 y2
   have d2:=dotS_ok z1 z2 z1 z2
   have d3:=dotS_ok y1 y2 y1 y2
   have m:=mulQ_sz (dot_steps z1 z2 z1 z2).2.2.2 (dot_steps y1 y2 y1 y2).2.2.2 (by decide) (by decide) (by decide)
   have hk:keepE (Kp (Kp (Kp 0 (numS p) (numS q) (numS s) (numS t)) (numS p) (numS q) (numS p) (numS q)) (numS s) (numS t) (numS s) (numS t)) (mulQ (hgS (numS p) (numS q) [49] (numS p) (numS q)).1 (hgS (numS s) (numS t) [49] (numS s) (numS t)).1).2=0:=by
    rw[dot_keep z1 z2 y1 y2,dot_keep z1 z2 z1 z2,dot_keep y1 y2 y1 y2,d2,d3]
    rw[m];rfl
   unfold dotP
   rw[v1,v2,w1,w2]
   (repeat'((conv=>whnf);first|(apply Pin.mk;apply Exists.intro)|apply Pinned.mk rfl rfl|(apply PinH.mk;apply Exists.intro;apply Exists.intro)|exact Zf|refine Zc ?_ ?_|refine Zm ?_|fail))
   (conv=>whnf)
   (repeat'(first|exact trivial|rfl|refine And.intro ?_ ?_|fail))
   ·(conv=>whnf)
    exact congrArg Prod.fst d1
   ·(conv=>whnf)
    show (mulQ (hgS (numS p) (numS q) [49] (numS p) (numS q)).1 (hgS (numS s) (numS t) [49] (numS s) (numS t)).1).1= _
    rw[d2,d3]
    exact congrArg Prod.fst m
  ·have e:nmP a b c a' b' c'=([],[],1):=by unfold nmP;rw[if_pos (.inr h2)]
   rw[e]
   (repeat'((conv=>whnf);first|refine Zy ?_|refine Zm ?_|fail))
   (conv=>whnf)
   (repeat'(first|exact trivial|rfl|refine And.intro ?_ ?_|fail))
 ·have e:nmP a b c a' b' c'=([],[],1):=by unfold nmP;rw[if_pos (.inl h1)]
  rw[e]
  (repeat'((conv=>whnf);first|refine Zy ?_|fail))
  (conv=>whnf)
  (repeat'(first|exact trivial|rfl|refine And.intro ?_ ?_|fail))
def c1023:Con:=mkCon 23 true fun args K=>match args with | [.agg [.str a,.str b,.str c],.agg [.str a',.str b',.str c']]=>K (.tup [S (nmP a b c a' b' c').1,S (nmP a b c a' b' c').2.1,I (nmP a b c a' b' c').2.2]) | _=>False
theorem k1023:ConOK Tryz.prog c1023:=by
 refine conOK_of rfl (enters_of Tryz.func23 (by kernel_rfl) rfl) ?_
 intro args K h
 simp only[c1023] at h
 split at h
 ·rename_i a b c a' b' c';exact ⟨_,h,tri_of_body (Γ:=[c1034,c1066,c1043]) (by simp[k1034,k1066,k1043]) Tryz.func23 (by simp[Tryz.ntmps23]) rfl (b1023 a b c a' b' c')⟩
 ·exact h.elim
theorem b1025 (a b c a' b' c' x y:List UInt8):body Tryz.prog [c1034,c1037,c1053,c38] {} true Tryz.f25 [.agg [S a,S b,S c],.agg [S a',S b',S c'],.agg [S x,S y]] (.tup [I (abP a b c a' b' c' x y).1,I (abP a b c a' b' c' x y).2]):=by
 by_cases h1:chk3 a b c=0
 ·by_cases h2:chk3 a' b' c'=0
  ·by_cases h3:badP [x,y]
   ·have e:abP a b c a' b' c' x y=(0,1):=by unfold abP;rw[if_pos (.inr (.inr h3))]
    rw[e]
    (repeat'((conv=>whnf);first|refine Zl ?_|refine Zy ?_|refine Zm ?_|fail))
    (conv=>whnf)
    (repeat'(first|exact trivial|rfl|refine And.intro ?_ ?_|fail))
   ·have e:abP a b c a' b' c' x y=cmpQ (numS (hgt a b c x y)) (numS (hgt a' b' c' x y)):=by unfold abP;rw[if_neg (by rintro (h | h | h);exact h h1;exact h h2;exact h3 h)]
    rw[e]
    obtain ⟨p,q,r,⟨rfl,rfl,rfl⟩,⟨z1,z2,z3⟩,v1,v2,v3⟩:=chk3_num h1
    obtain ⟨s,t,u,⟨rfl,rfl,rfl⟩,⟨y1,y2,y3⟩,w1,w2,w3⟩:=chk3_num h2
    obtain ⟨k,l,⟨rfl,rfl⟩,⟨x1,x2⟩,u1,u2⟩:=badP2_num h3
    have d1:=hgS_ok z1 z2 z3 x1 x2
    have d2:=hgS_ok y1 y2 y3 x1 x2
    have hk:Kh (Kh 0 (numS p) (numS q) (numS r) (numS k) (numS l)) (numS s) (numS t) (numS u) (numS k) (numS l)=0:=by
     rw[show Kh 0 (numS p) (numS q) (numS r) (numS k) (numS l)=0 from hg_keep z1 z2 z3 x1 x2]
     exact hg_keep y1 y2 y3 x1 x2
    unfold hgt
    rw[v1,v2,v3,w1,w2,w3,u1,u2]
    (repeat'((conv=>whnf);first|(apply Pin.mk;apply Exists.intro)|apply Pinned.mk rfl rfl|(apply PinH.mk;apply Exists.intro;apply Exists.intro)|exact Zf|refine Zc ?_ ?_|refine Zl ?_|refine Zm ?_|fail))
    (conv=>whnf)
    (repeat'(first|exact trivial|rfl|refine And.intro ?_ ?_|fail))
    ·(conv=>whnf)
     rw[d1,d2]
    ·(conv=>whnf)
     rw[d1,d2]
  ·have e:abP a b c a' b' c' x y=(0,1):=by unfold abP;rw[if_pos (.inr (.inl h2))]
   rw[e]
   (repeat'((conv=>whnf);first|refine Zy ?_|refine Zm ?_|fail))
   (conv=>whnf)
   (repeat'(first|exact trivial|rfl|refine And.intro ?_ ?_|fail))
 ·have e:abP a b c a' b' c' x y=(0,1):=by unfold abP;rw[if_pos (.inl h1)]
  rw[e]
  (repeat'((conv=>whnf);first|refine Zy ?_|fail))
  (conv=>whnf)
  (repeat'(first|exact trivial|rfl|refine And.intro ?_ ?_|fail))
def c1025:Con:=mkCon 25 true fun args K=>match args with | [.agg [.str a,.str b,.str c],.agg [.str a',.str b',.str c'],.agg [.str x,.str y]]=>K (.tup [I (abP a b c a' b' c' x y).1,I (abP a b c a' b' c' x y).2]) | _=>False
theorem k1025:ConOK Tryz.prog c1025:=by
 refine conOK_of rfl (enters_of Tryz.func25 (by kernel_rfl) rfl) ?_
 intro args K h
 simp only[c1025] at h
 split at h
 ·rename_i a b c a' b' c' x y;exact ⟨_,h,tri_of_body (Γ:=[c1034,c1037,c1053,c38]) (by simp[k1034,k1037,k1053,k38]) Tryz.func25 (by simp[Tryz.ntmps25]) rfl (b1025 a b c a' b' c' x y)⟩
 ·exact h.elim
noncomputable abbrev Ks (e:Int) (a b a' b':List UInt8):List UInt8 × Int:=sumQ [keepS e (mulQ a a'),keepS (keepE e (mulQ a a').2) (mulQ b b'),[49]]
noncomputable abbrev Kv (e:Int) (a b a' b':List UInt8):List UInt8:=keepS (keepE (keepE e (mulQ a a').2) (mulQ b b').2) (Ks e a b a' b')
noncomputable abbrev Ke (e:Int) (a b a' b':List UInt8):Int:=keepE (keepE (keepE e (mulQ a a').2) (mulQ b b').2) (Ks e a b a' b').2
section
variable {a b a' b':Rat}
theorem Ks_ok (ha:Sz 36 a) (hb:Sz 36 b) (ha':Sz 36 a') (hb':Sz 36 b'):Ks 0 (numS a) (numS b) (numS a') (numS b')=(numS (a*a'+b*b'+1),0):=by
 obtain ⟨h1,h2,h3,_⟩:=dot_steps ha hb ha' hb'
 show sumQ [keepS _ _,keepS _ _,_]= _
 simp only[keepS,h1,h2,keepE0,if_true,h3]
theorem Kv_ok (ha:Sz 36 a) (hb:Sz 36 b) (ha':Sz 36 a') (hb':Sz 36 b'):Kv 0 (numS a) (numS b) (numS a') (numS b')=numS (a*a'+b*b'+1):=by
 obtain ⟨h1,h2,h3,_⟩:=dot_steps ha hb ha' hb'
 show keepS _ (Ks _ _ _ _ _)= _
 rw[Ks_ok ha hb ha' hb',h1,h2];rfl
theorem Ke_ok (ha:Sz 36 a) (hb:Sz 36 b) (ha':Sz 36 a') (hb':Sz 36 b'):Ke 0 (numS a) (numS b) (numS a') (numS b')=0:=by
 obtain ⟨h1,h2,h3,_⟩:=dot_steps ha hb ha' hb'
 show keepE _ (Ks _ _ _ _ _).2= _
 rw[Ks_ok ha hb ha' hb',h1,h2];rfl
end
theorem b1032 (a b c a' b' c':List UInt8):body Tryz.prog [c1035,c1048,c1046] {} true Tryz.f32 [.agg [S a,S b,S c],.agg [S a',S b',S c']] (.tup [S (nmP a b c a' b' c').1,S (nmP a b c a' b' c').2.1,I (nmP a b c a' b' c').2.2]):=by
 by_cases h1:chk3 a b c=0
 ·by_cases h2:chk3 a' b' c'=0
  ·have e:nmP a b c a' b' c'=(numS (dotP a b a' b'),numS (dotP a b a b*dotP a' b' a' b'),0):=by unfold nmP;rw[if_neg (by rintro (h | h);exact h h1;exact h h2)]
   rw[e]
   obtain ⟨p,q,r,⟨rfl,rfl,rfl⟩,⟨z1,z2,z3⟩,v1,v2,v3⟩:=chk3_num h1
   obtain ⟨s,t,u,⟨rfl,rfl,rfl⟩,⟨y1,y2,y3⟩,w1,w2,w3⟩:=chk3_num h2
   have m:=mulQ_sz (dot_steps z1 z2 z1 z2).2.2.2 (dot_steps y1 y2 y1 y2).2.2.2 (by decide) (by decide) (by decide)
   have k1:=Ke_ok z1 z2 y1 y2
   have k2:Ke (Ke 0 (numS p) (numS q) (numS s) (numS t)) (numS p) (numS q) (numS p) (numS q)=0:=by rw[k1];exact Ke_ok z1 z2 z1 z2
   have k3:Ke (Ke (Ke 0 (numS p) (numS q) (numS s) (numS t)) (numS p) (numS q) (numS p) (numS q)) (numS s) (numS t) (numS s) (numS t)=0:=by rw[k2];exact Ke_ok y1 y2 y1 y2
   have g2:Kv (Ke 0 (numS p) (numS q) (numS s) (numS t)) (numS p) (numS q) (numS p) (numS q)=numS (p*p+q*q+1):=by rw[k1];exact Kv_ok z1 z2 z1 z2
   have g3:Kv (Ke (Ke 0 (numS p) (numS q) (numS s) (numS t)) (numS p) (numS q) (numS p) (numS q)) (numS s) (numS t) (numS s) (numS t)=numS (s*s+t*t+1):=by rw[k2];exact Kv_ok y1 y2 y1 y2
   have hk:keepE (Ke (Ke (Ke 0 (numS p) (numS q) (numS s) (numS t)) (numS p) (numS q) (numS p) (numS q)) (numS s) (numS t) (numS s) (numS t)) (mulQ (Kv (Ke 0 (numS p) (numS q) (numS s) (numS t)) (numS p) (numS q) (numS p) (numS q)) (Kv (Ke (Ke 0 (numS p) (numS q) (numS s) (numS t)) (numS p) (numS q) (numS p) (numS q)) (numS s) (numS t) (numS s) (numS t))).2=0:=by
    rw[k3,g2,g3,m];rfl
   unfold dotP
   rw[v1,v2,w1,w2]
   (repeat'((conv=>whnf);first|(apply Pin.mk;apply Exists.intro)|apply Pinned.mk rfl rfl|(apply PinH.mk;apply Exists.intro;apply Exists.intro)|exact Zf|refine Zc ?_ ?_|refine Zm ?_|fail))
   (conv=>whnf)
   (repeat'(first|exact trivial|rfl|refine And.intro ?_ ?_|fail))
   ·(conv=>whnf)
    exact Kv_ok z1 z2 y1 y2
   ·(conv=>whnf)
    show keepS (Ke (Ke (Ke 0 (numS p) (numS q) (numS s) (numS t)) (numS p) (numS q) (numS p) (numS q)) (numS s) (numS t) (numS s) (numS t)) (mulQ (Kv (Ke 0 (numS p) (numS q) (numS s) (numS t)) (numS p) (numS q) (numS p) (numS q)) (Kv (Ke (Ke 0 (numS p) (numS q) (numS s) (numS t)) (numS p) (numS q) (numS p) (numS q)) (numS s) (numS t) (numS s) (numS t)))= _
    rw[k3,g2,g3,m];rfl
  ·have e:nmP a b c a' b' c'=([],[],1):=by unfold nmP;rw[if_pos (.inr h2)]
   rw[e]
   (repeat'((conv=>whnf);first|refine Zy ?_|refine Zm ?_|fail))
   (conv=>whnf)
   (repeat'(first|exact trivial|rfl|refine And.intro ?_ ?_|fail))
 ·have e:nmP a b c a' b' c'=([],[],1):=by unfold nmP;rw[if_pos (.inl h1)]
  rw[e]
  (repeat'((conv=>whnf);first|refine Zy ?_|fail))
  (conv=>whnf)
  (repeat'(first|exact trivial|rfl|refine And.intro ?_ ?_|fail))
def c1032:Con:=mkCon 32 true fun args K=>match args with | [.agg [.str a,.str b,.str c],.agg [.str a',.str b',.str c']]=>K (.tup [S (nmP a b c a' b' c').1,S (nmP a b c a' b' c').2.1,I (nmP a b c a' b' c').2.2]) | _=>False
theorem k1032:ConOK Tryz.prog c1032:=by
 refine conOK_of rfl (enters_of Tryz.func32 (by kernel_rfl) rfl) ?_
 intro args K h
 simp only[c1032] at h
 split at h
 ·rename_i a b c a' b' c';exact ⟨_,h,tri_of_body (Γ:=[c1035,c1048,c1046]) (by simp[k1035,k1048,k1046]) Tryz.func32 (by simp[Tryz.ntmps32]) rfl (b1032 a b c a' b' c')⟩
 ·exact h.elim
theorem b1033 (a b c a' b' c' x y:List UInt8):body Tryz.prog [c1035,c1029,c43] {} true Tryz.f33 [.agg [S a,S b,S c],.agg [S a',S b',S c'],.agg [S x,S y]] (.tup [I (abP a b c a' b' c' x y).1,I (abP a b c a' b' c' x y).2]):=by
 by_cases h1:chk3 a b c=0∧¬badP [x,y]
 ·have hA:atP a b c x y=(numS (hgt a b c x y),0):=by unfold atP;rw[if_neg (by rintro (h | h);exact h h1.1;exact h1.2 h)]
  have hA2:(atP a b c x y).2=0:=by rw[hA]
  by_cases h2:chk3 a' b' c'=0
  ·have e:abP a b c a' b' c' x y=cmpQ (numS (hgt a b c x y)) (numS (hgt a' b' c' x y)):=by unfold abP;rw[if_neg (by rintro (h | h | h);exact h h1.1;exact h h2;exact h1.2 h)]
   have hB:atP a' b' c' x y=(numS (hgt a' b' c' x y),0):=by unfold atP;rw[if_neg (by rintro (h | h);exact h h2;exact h1.2 h)]
   have hB2:(atP a' b' c' x y).2=0:=by rw[hB]
   rw[e]
   (repeat'((conv=>whnf);first|refine Zm ?_|fail))
   (conv=>whnf)
   (repeat'(first|exact trivial|rfl|refine And.intro ?_ ?_|fail))
   ·(conv=>whnf)
    rw[hA,hB]
   ·(conv=>whnf)
    rw[hA,hB]
  ·have e:abP a b c a' b' c' x y=(0,1):=by unfold abP;rw[if_pos (.inr (.inl h2))]
   rw[e]
   (repeat'((conv=>whnf);first|refine Zy ?_|refine Zm ?_|fail))
   (conv=>whnf)
   (repeat'(first|exact trivial|rfl|refine And.intro ?_ ?_|fail))
 ·have hA2:(atP a b c x y).2=1:=by
   unfold atP
   rw[if_pos]
   by_cases h2:chk3 a b c=0
   ·exact .inr (Classical.not_not.1 fun h=>h1 ⟨h2,h⟩)
   ·exact .inl h2
  have e:abP a b c a' b' c' x y=(0,1):=by
   unfold abP
   rw[if_pos]
   by_cases h2:chk3 a b c=0
   ·exact .inr (.inr (Classical.not_not.1 fun h=>h1 ⟨h2,h⟩))
   ·exact .inl h2
  rw[e]
  (repeat'((conv=>whnf);first|refine Zy ?_|fail))
  (conv=>whnf)
  (repeat'(first|exact trivial|rfl|refine And.intro ?_ ?_|fail))
def c1033:Con:=mkCon 33 true fun args K=>match args with | [.agg [.str a,.str b,.str c],.agg [.str a',.str b',.str c'],.agg [.str x,.str y]]=>K (.tup [I (abP a b c a' b' c' x y).1,I (abP a b c a' b' c' x y).2]) | _=>False
theorem k1033:ConOK Tryz.prog c1033:=by
 refine conOK_of rfl (enters_of Tryz.func33 (by kernel_rfl) rfl) ?_
 intro args K h
 simp only[c1033] at h
 split at h
 ·rename_i a b c a' b' c' x y;exact ⟨_,h,tri_of_body (Γ:=[c1035,c1029,c43]) (by simp[k1035,k1029,k43]) Tryz.func33 (by simp[Tryz.ntmps33]) rfl (b1033 a b c a' b' c' x y)⟩
 ·exact h.elim
theorem keepE4 (x:Int):keepE 4 x=4:=rfl
theorem thR_zero {ax ay az bx by' bz cx cy cz:Rat} (h:thD ax ay bx by' cx cy=0):thR ax ay az bx by' bz cx cy cz=([],[],[],12):=by
 unfold thR;rw[if_pos h]
theorem thR_four {ax ay az bx by' bz cx cy cz:Rat} (h:thD ax ay bx by' cx cy≠0) (h4:(divQ (numS (upA ax ay az bx by' bz cx cy cz)) (numS (thD ax ay bx by' cx cy))).2=4∨(divQ (numS (upB ax ay az bx by' bz cx cy cz)) (numS (thD ax ay bx by' cx cy))).2=4∨¬(d36 (thA ax ay az bx by' bz cx cy cz)∧d36 (thB ax ay az bx by' bz cx cy cz)∧d36 (thC ax ay az bx by' bz cx cy cz))):thR ax ay az bx by' bz cx cy cz=([],[],[],4):=by
 unfold thR
 rw[if_neg h,if_pos]
 rcases h4 with h4 | h4 | h4
 ·exact .inl (by rw[h4];decide)
 ·exact .inr (.inl (by rw[h4];decide))
 ·by_cases h1:d36 (thA ax ay az bx by' bz cx cy cz)
  ·by_cases h2:d36 (thB ax ay az bx by' bz cx cy cz)
   ·exact .inr (.inr (.inr (.inr fun h3=>h4 ⟨h1,h2,h3⟩)))
   ·exact .inr (.inr (.inr (.inl h2)))
  ·exact .inr (.inr (.inl h1))
theorem thR_ok {ax ay az bx by' bz cx cy cz:Rat} (h:thD ax ay bx by' cx cy≠0) (hA:(divQ (numS (upA ax ay az bx by' bz cx cy cz)) (numS (thD ax ay bx by' cx cy))).2=0) (hB:(divQ (numS (upB ax ay az bx by' bz cx cy cz)) (numS (thD ax ay bx by' cx cy))).2=0) (h3:d36 (thA ax ay az bx by' bz cx cy cz)∧d36 (thB ax ay az bx by' bz cx cy cz)∧d36 (thC ax ay az bx by' bz cx cy cz)):thR ax ay az bx by' bz cx cy cz=(numS (thA ax ay az bx by' bz cx cy cz),numS (thB ax ay az bx by' bz cx cy cz),numS (thC ax ay az bx by' bz cx cy cz),0):=by
 unfold thR
 rw[if_neg h,if_neg]
 rintro (h | h | h | h | h)
 ·exact h hA
 ·exact h hB
 ·exact h h3.1
 ·exact h h3.2.1
 ·exact h h3.2.2
structure ThF (ax ay az bx by' bz cx cy cz:Rat):Prop where
 s1:subQ (numS bx) (numS ax)=(numS (bx-ax),0)
 s2:subQ (numS by') (numS ay)=(numS (by'-ay),0)
 s3:subQ (numS bz) (numS az)=(numS (bz-az),0)
 t1:subQ (numS cx) (numS ax)=(numS (cx-ax),0)
 t2:subQ (numS cy) (numS ay)=(numS (cy-ay),0)
 t3:subQ (numS cz) (numS az)=(numS (cz-az),0)
 m1:mulQ (numS (bx-ax)) (numS (cy-ay))=(numS ((bx-ax)*(cy-ay)),0)
 m2:mulQ (numS (by'-ay)) (numS (cx-ax))=(numS ((by'-ay)*(cx-ax)),0)
 m3:mulQ (numS (bz-az)) (numS (cy-ay))=(numS ((bz-az)*(cy-ay)),0)
 m4:mulQ (numS (by'-ay)) (numS (cz-az))=(numS ((by'-ay)*(cz-az)),0)
 m5:mulQ (numS (bx-ax)) (numS (cz-az))=(numS ((bx-ax)*(cz-az)),0)
 m6:mulQ (numS (bz-az)) (numS (cx-ax))=(numS ((bz-az)*(cx-ax)),0)
 d1:subQ (numS ((bx-ax)*(cy-ay))) (numS ((by'-ay)*(cx-ax)))=(numS (thD ax ay bx by' cx cy),0)
 d2:subQ (numS ((bz-az)*(cy-ay))) (numS ((by'-ay)*(cz-az)))=(numS (upA ax ay az bx by' bz cx cy cz),0)
 d3:subQ (numS ((bx-ax)*(cz-az))) (numS ((bz-az)*(cx-ax)))=(numS (upB ax ay az bx by' bz cx cy cz),0)
 vD:Vd (thD ax ay bx by' cx cy)
 vA:Vd (upA ax ay az bx by' bz cx cy cz)
 vB:Vd (upB ax ay az bx by' bz cx cy cz)
theorem thF_of {ax ay az bx by' bz cx cy cz:Rat} (h1:Sz 36 ax) (h2:Sz 36 ay) (h3:Sz 36 az) (h4:Sz 36 bx) (h5:Sz 36 by') (h6:Sz 36 bz) (h7:Sz 36 cx) (h8:Sz 36 cy) (h9:Sz 36 cz):ThF ax ay az bx by' bz cx cy cz:=by
 obtain ⟨v1,v2,v3⟩:=th_sizes h1 h2 h3 h4 h5 h6 h7 h8 h9
 exact ⟨subQ_sz h4 h1 (by decide) (by decide) (by decide),subQ_sz h5 h2 (by decide) (by decide) (by decide),subQ_sz h6 h3 (by decide) (by decide) (by decide),subQ_sz h7 h1 (by decide) (by decide) (by decide),subQ_sz h8 h2 (by decide) (by decide) (by decide),subQ_sz h9 h3 (by decide) (by decide) (by decide),
  mulQ_sz (h4.sub h1) (h8.sub h2) (by decide) (by decide) (by decide),mulQ_sz (h5.sub h2) (h7.sub h1) (by decide) (by decide) (by decide),mulQ_sz (h6.sub h3) (h8.sub h2) (by decide) (by decide) (by decide),mulQ_sz (h5.sub h2) (h9.sub h3) (by decide) (by decide) (by decide),mulQ_sz (h4.sub h1) (h9.sub h3) (by decide) (by decide) (by decide),mulQ_sz (h6.sub h3) (h7.sub h1) (by decide) (by decide) (by decide),
  subQ_sz ((h4.sub h1).mul (h8.sub h2)) ((h5.sub h2).mul (h7.sub h1)) (by decide) (by decide) (by decide),subQ_sz ((h6.sub h3).mul (h8.sub h2)) ((h5.sub h2).mul (h9.sub h3)) (by decide) (by decide) (by decide),subQ_sz ((h4.sub h1).mul (h9.sub h3)) ((h6.sub h3).mul (h7.sub h1)) (by decide) (by decide) (by decide),
  v1.vd ⟨by decide,by decide⟩,v2.vd ⟨by decide,by decide⟩,v3.vd ⟨by decide,by decide⟩⟩
structure Th3 (A B ax ay az:Rat):Prop where
 m1:mulQ (numS A) (numS ax)=(numS (A*ax),0)
 m2:mulQ (numS B) (numS ay)=(numS (B*ay),0)
 s1:sumQ [numS (A*ax),numS (B*ay)]=(numS (A*ax+B*ay),0)
 s2:sumQ [numS (A*ax),numS (B*ay),[48]]=(numS (A*ax+B*ay),0)
 t1:subQ (numS az) (numS (A*ax+B*ay))=(numS (az-(A*ax+B*ay)),0)
 v:Vd (az-(A*ax+B*ay))
theorem sum04w {p q:Rat} (hp:Vd p) (hq:Vd q):(sumQ [numS p,numS q,[48]]).2=4∨(sumQ [numS p,numS q,[48]]=(numS (p+q),0)∧Vd (p+q)):=by
 have h0:Vd 0:=sz0.vd ⟨by decide,by decide⟩
 have hc:chkL [numS p,numS q,[48]]=0:=chkL_all fun a ha=>by
  simp only[List.mem_cons,List.not_mem_nil,or_false] at ha
  rcases ha with rfl | rfl | rfl
  ·exact hp
  ·exact hq
  ·exact chk48
 unfold sumQ
 rw[if_neg (by simp),if_neg (fun hn=>hn hc)]
 generalize hr:sumR [48] [numS p,numS q,[48]]=r
 have hr:(if (addQ [48] (numS p)).2≠0 then (([],(addQ [48] (numS p)).2):List UInt8 × Int) else if (addQ (addQ [48] (numS p)).1 (numS q)).2≠0 then ([],(addQ (addQ [48] (numS p)).1 (numS q)).2) else if (addQ (addQ (addQ [48] (numS p)).1 (numS q)).1 [48]).2≠0 then ([],(addQ (addQ (addQ [48] (numS p)).1 (numS q)).1 [48]).2) else ((addQ (addQ (addQ [48] (numS p)).1 (numS q)).1 [48]).1,0))=r:=hr
 have h1:=add04v h0 hp
 rw[numS0,Rat.zero_add] at h1
 rcases h1 with h1 | ⟨h1,_⟩
 ·rw[if_pos (by rw[h1];decide)] at hr
  exact .inl (by rw[← hr];exact h1)
 ·rw[h1,if_neg (fun h=>h rfl)] at hr
  dsimp only at hr
  rcases add04v hp hq with h2 | ⟨h2,h3⟩
  ·rw[if_pos (by rw[h2];decide)] at hr
   exact .inl (by rw[← hr];exact h2)
  ·rw[h2,if_neg (fun h=>h rfl)] at hr
   dsimp only at hr
   have h4:=add04v h3 h0
   rw[numS0,Rat.add_zero] at h4
   rcases h4 with h4 | ⟨h4,_⟩
   ·rw[if_pos (by rw[h4];decide)] at hr
    exact .inl (by rw[← hr];exact h4)
   ·rw[h4,if_neg (fun h=>h rfl)] at hr
    exact .inr ⟨hr.symm,h3⟩
section
variable {A B ax ay az:Rat}
theorem E3_04 (hA:Vd A) (hB:Vd B) (h1:Vd ax) (h2:Vd ay) (h3:Vd az) (h0:¬keepE (keepE (keepE (keepE 0 (mulQ (numS A) (numS ax)).2) (mulQ (numS B) (numS ay)).2) (sumQ [(mulQ (numS A) (numS ax)).1,(mulQ (numS B) (numS ay)).1]).2) (subQ (numS az) (sumQ [(mulQ (numS A) (numS ax)).1,(mulQ (numS B) (numS ay)).1]).1).2=0):
  keepE (keepE (keepE (keepE 0 (mulQ (numS A) (numS ax)).2) (mulQ (numS B) (numS ay)).2) (sumQ [(mulQ (numS A) (numS ax)).1,(mulQ (numS B) (numS ay)).1]).2) (subQ (numS az) (sumQ [(mulQ (numS A) (numS ax)).1,(mulQ (numS B) (numS ay)).1]).1).2=4:=by
 rcases mul04v hA h1 with m1 | ⟨m1,v1⟩
 ·rw[m1];rfl
 ·rcases mul04v hB h2 with m2 | ⟨m2,v2⟩
  ·rw[m1,m2];rfl
  ·rw[m1,m2] at h0 ⊢
   dsimp only at h0 ⊢
   rcases sum04v v1 v2 with s | ⟨s,v⟩
   ·rw[s];rfl
   ·rw[s] at h0 ⊢
    dsimp only at h0 ⊢
    rcases sub04v h3 v with t | ⟨t,_⟩
    ·rw[t];rfl
    ·rw[t] at h0
     exact absurd rfl h0
end
theorem th3_of {A B ax ay az:Rat} (hA:Sz 36 A) (hB:Sz 36 B) (h1:Sz 36 ax) (h2:Sz 36 ay) (h3:Sz 36 az):Th3 A B ax ay az:=by
 obtain ⟨s1,z⟩:=sum2 (hA.mul h1) (hB.mul h2) (by decide) (by decide) (by decide)
 have s2:=(sum3 (hA.mul h1) (hB.mul h2) sz0 (by decide) (by decide) (by decide) (by decide)).1
 rw[numS0,Rat.add_zero] at s2
 exact ⟨mulQ_sz hA h1 (by decide) (by decide) (by decide),mulQ_sz hB h2 (by decide) (by decide) (by decide),s1,s2,subQ_sz h3 z (by decide) (by decide) (by decide),(h3.sub z).vd ⟨by decide,by decide⟩⟩
end RB
end
section
set_option linter.unusedVariables false
open Go Go.Proofs Go.Eng Go.Shelf IB Go.Lib Go.RowKit
namespace RB
set_option maxRecDepth 10000
set_option linter.unusedVariables false
set_option linter.unusedSimpArgs false
set_option maxHeartbeats 16000000 in
theorem b1013 (ax ay az bx by' bz cx cy cz:List UInt8):body Tryz.prog [c1037,c1038,c1039,c14,c1040,c1043,c1042,c1041,c1034] {} true Tryz.f13 [.agg [S ax,S ay,S az],.agg [S bx,S by',S bz],.agg [S cx,S cy,S cz]]
  (.tup [.agg [S (thP ax ay az bx by' bz cx cy cz).1,S (thP ax ay az bx by' bz cx cy cz).2.1,S (thP ax ay az bx by' bz cx cy cz).2.2.1],I (thP ax ay az bx by' bz cx cy cz).2.2.2]):=by
 by_cases b1:badP [ax,ay,az]
 ·rw[show thP ax ay az bx by' bz cx cy cz=([],[],[],1) by unfold thP;rw[if_pos (.inl b1)]]
  (repeat'((conv=>whnf);first|refine Zn ?_|refine Z0 ?_|refine Zl ?_|refine Zy ?_|fail))
  (conv=>whnf)
  (repeat'(first|exact trivial|rfl|refine And.intro ?_ ?_|fail))
 by_cases b2:badP [bx,by',bz]
 ·rw[show thP ax ay az bx by' bz cx cy cz=([],[],[],1) by unfold thP;rw[if_pos (.inr (.inl b2))]]
  (repeat'((conv=>whnf);first|refine Zn ?_|refine Z0 ?_|refine Z1 ?_|refine Zl ?_|refine Zy ?_|refine Zm ?_|fail))
  (conv=>whnf)
  (repeat'(first|exact trivial|rfl|refine And.intro ?_ ?_|fail))
 by_cases b3:badP [cx,cy,cz]
 ·rw[show thP ax ay az bx by' bz cx cy cz=([],[],[],1) by unfold thP;rw[if_pos (.inr (.inr b3))]]
  (repeat'((conv=>whnf);first|refine Zn ?_|refine Z0 ?_|refine Z1 ?_|refine Z2 ?_|refine Zl ?_|refine Zy ?_|refine Zm ?_|fail))
  (conv=>whnf)
  (repeat'(first|exact trivial|rfl|refine And.intro ?_ ?_|fail))
 obtain ⟨ax,ay,az,⟨rfl,rfl,rfl⟩,⟨z1,z2,z3⟩,_,_,_⟩:=badP3_num b1
 obtain ⟨bx,by',bz,⟨rfl,rfl,rfl⟩,⟨z4,z5,z6⟩,_,_,_⟩:=badP3_num b2
 obtain ⟨cx,cy,cz,⟨rfl,rfl,rfl⟩,⟨z7,z8,z9⟩,_,_,_⟩:=badP3_num b3
 rw[thP_num z1 z2 z3 z4 z5 z6 z7 z8 z9]
 obtain ⟨s1,s2,s3,t1,t2,t3,m1,m2,m3,m4,m5,m6,d1,d2,d3,vD,vA,vB⟩:=thF_of z1 z2 z3 z4 z5 z6 z7 z8 z9
 (repeat'((conv=>whnf);first|refine Zn ?_|refine Z0 ?_|refine Z1 ?_|refine Z2 ?_|(apply Pin.mk;apply Exists.intro)|apply Pinned.mk rfl rfl|(apply PinH.mk;apply Exists.intro;apply Exists.intro)|exact Zf|refine Zc ?_ ?_|refine Zl ?_|refine Zy ?_|refine Zm ?_|fail))
 (conv=>whnf)
 refine Br.mkN (by simp only[miS,s1,s2,s3,t1,t2,t3,m1,m2,m3,m4,m5,m6,d1,d2,d3,keepE0,not_true_eq_false,not_false_eq_true]) ?_
 skip
 (conv=>whnf)
 by_cases hD:thD ax ay bx by' cx cy=0
 ·rw[thR_zero hD]
  refine Br.mkY (by simp only[miS,s1,s2,s3,t1,t2,t3,m1,m2,m3,m4,m5,m6,d1,d2,d3,keepE0,hD];exact numS0) ?_
  skip
  (conv=>whnf)
  (repeat'(first|exact trivial|rfl|refine And.intro ?_ ?_|fail))
 refine Br.mkN (by simp only[miS,s1,s2,s3,t1,t2,t3,m1,m2,m3,m4,m5,m6,d1,d2,d3,keepE0];exact fun h=>hD (numS_inj (h.trans numS0.symm))) ?_
 (repeat'((conv=>whnf);first|refine Zn ?_|refine Z0 ?_|refine Z1 ?_|refine Z2 ?_|(apply Pin.mk;apply Exists.intro)|apply Pinned.mk rfl rfl|(apply PinH.mk;apply Exists.intro;apply Exists.intro)|exact Zf|refine Zc ?_ ?_|fail))
 (conv=>whnf)
 rcases div04v vA vD hD with qA | ⟨qA,wA⟩
 ·rw[thR_four hD (.inl qA)]
  refine Br.mkY (by simp only[miS,s1,s2,s3,t1,t2,t3,m1,m2,m3,m4,m5,m6,d1,d2,d3,keepE0,qA,keepE4];decide) ?_
  (repeat'((conv=>whnf);first|(apply Pin.mk;apply Exists.intro)|apply Pinned.mk rfl rfl|(apply PinH.mk;apply Exists.intro;apply Exists.intro)|exact Zf|refine Zc ?_ ?_|fail))
  (conv=>whnf)
  (repeat'(first|exact trivial|rfl|refine And.intro ?_ ?_|fail))
  (conv=>whnf)
  simp only[miS,s1,s2,s3,t1,t2,t3,m1,m2,m3,m4,m5,m6,d1,d2,d3,keepE0,qA,keepE4]
 rcases div04v vB vD hD with qB | ⟨qB,wB⟩
 ·rw[thR_four hD (.inr (.inl qB))]
  refine Br.mkY (by simp only[miS,s1,s2,s3,t1,t2,t3,m1,m2,m3,m4,m5,m6,d1,d2,d3,keepE0,qA,qB,keepE4];decide) ?_
  (repeat'((conv=>whnf);first|(apply Pin.mk;apply Exists.intro)|apply Pinned.mk rfl rfl|(apply PinH.mk;apply Exists.intro;apply Exists.intro)|exact Zf|refine Zc ?_ ?_|fail))
  (conv=>whnf)
  (repeat'(first|exact trivial|rfl|refine And.intro ?_ ?_|fail))
  (conv=>whnf)
  simp only[miS,s1,s2,s3,t1,t2,t3,m1,m2,m3,m4,m5,m6,d1,d2,d3,keepE0,qA,qB,keepE4]
 have eA:upA ax ay az bx by' bz cx cy cz/thD ax ay bx by' cx cy=thA ax ay az bx by' bz cx cy cz:=rfl
 have eB:upB ax ay az bx by' bz cx cy cz/thD ax ay bx by' cx cy=thB ax ay az bx by' bz cx cy cz:=rfl
 have q2:=congrArg Prod.snd qA
 have q3:=congrArg Prod.snd qB
 rw[eA] at qA wA
 rw[eB] at qB wB
 have eC:az-(thA ax ay az bx by' bz cx cy cz*ax+thB ax ay az bx by' bz cx cy cz*ay)=thC ax ay az bx by' bz cx cy cz:=rfl
 refine Br.mkN (by simp only[miS,s1,s2,s3,t1,t2,t3,m1,m2,m3,m4,m5,m6,d1,d2,d3,keepE0,qA,qB,not_true_eq_false,not_false_eq_true]) ?_
 (repeat'((conv=>whnf);first|(apply Pin.mk;apply Exists.intro)|apply Pinned.mk rfl rfl|(apply PinH.mk;apply Exists.intro;apply Exists.intro)|exact Zf|refine Zc ?_ ?_|refine Zl ?_|fail))
 (conv=>whnf)
 by_cases hd:d36 (thA ax ay az bx by' bz cx cy cz)∧d36 (thB ax ay az bx by' bz cx cy cz)
 ·obtain ⟨n1,n2,n3,_,n4,vC⟩:=th3_of (d36_sz hd.1) (d36_sz hd.2) z1 z2 z3
  rw[eC] at n4 vC
  refine Br.mkN (by simp only[miS,s1,s2,s3,t1,t2,t3,m1,m2,m3,m4,m5,m6,d1,d2,d3,keepE0,qA,qB,n1,n2,n3,n4,not_true_eq_false,not_false_eq_true]) ?_
  skip
  (conv=>whnf)
  by_cases hC:d36 (thC ax ay az bx by' bz cx cy cz)
  ·rw[thR_ok hD q2 q3 ⟨hd.1,hd.2,hC⟩]
   refine Br.mkN (by simp only[miS,s1,s2,s3,t1,t2,t3,m1,m2,m3,m4,m5,m6,d1,d2,d3,keepE0,qA,qB,n1,n2,n3,n4];exact not_not_intro ((chk3_vd wA wB vC).2 ⟨hd.1,hd.2,hC⟩)) ?_
   skip
   (conv=>whnf)
   (repeat'(first|exact trivial|rfl|refine And.intro ?_ ?_|fail))
   ·(conv=>whnf)
    skip
    (conv=>whnf)
    simp only[miS,s1,s2,s3,t1,t2,t3,m1,m2,m3,m4,m5,m6,d1,d2,d3,keepE0,qA]
   ·(conv=>whnf)
    simp only[miS,s1,s2,s3,t1,t2,t3,m1,m2,m3,m4,m5,m6,d1,d2,d3,keepE0,qB]
   ·(conv=>whnf)
    simp only[miS,s1,s2,s3,t1,t2,t3,m1,m2,m3,m4,m5,m6,d1,d2,d3,keepE0,qA,qB,n1,n2,n3,n4]
  ·rw[thR_four hD (.inr (.inr fun h=>hC h.2.2))]
   refine Br.mkY (by simp only[miS,s1,s2,s3,t1,t2,t3,m1,m2,m3,m4,m5,m6,d1,d2,d3,keepE0,qA,qB,n1,n2,n3,n4];exact fun h=>hC ((chk3_vd wA wB vC).1 h).2.2) ?_
   skip
   (conv=>whnf)
   (repeat'(first|exact trivial|rfl|refine And.intro ?_ ?_|fail))
 ·rw[thR_four hD (.inr (.inr fun h=>hd ⟨h.1,h.2.1⟩))]
  have hE:=E3_04 (ax:=ax) (ay:=ay) (az:=az) wA wB (z1.vd ⟨by decide,by decide⟩) (z2.vd ⟨by decide,by decide⟩) (z3.vd ⟨by decide,by decide⟩)
  have hN:∀X,¬chk3 (numS (thA ax ay az bx by' bz cx cy cz)) (numS (thB ax ay az bx by' bz cx cy cz)) X=0:=fun X h=>hd (by
   obtain ⟨k1,k2,_⟩:=chk3_ok h
   have k1:=(chkP_ok k1).2
   have k2:=(chkP_ok k2).2
   rw[valQ_numS] at k1 k2
   exact ⟨k1,k2⟩)
  refine Br.mk (fun h=>?_) (fun h=>?_)
  ·simp only[miS,s1,s2,s3,t1,t2,t3,m1,m2,m3,m4,m5,m6,d1,d2,d3,keepE0,qA,qB] at h
   (repeat'((conv=>whnf);first|(apply Pin.mk;apply Exists.intro)|apply Pinned.mk rfl rfl|(apply PinH.mk;apply Exists.intro;apply Exists.intro)|exact Zf|refine Zc ?_ ?_|fail))
   (conv=>whnf)
   (repeat'(first|exact trivial|rfl|refine And.intro ?_ ?_|fail))
   (conv=>whnf)
   simp only[miS,s1,s2,s3,t1,t2,t3,m1,m2,m3,m4,m5,m6,d1,d2,d3,keepE0,qA,qB]
   exact hE h
  ·skip
   (conv=>whnf)
   refine Br.mkY (by simp only[miS,s1,s2,s3,t1,t2,t3,m1,m2,m3,m4,m5,m6,d1,d2,d3,keepE0,qA,qB];exact hN _) ?_
   skip
   (conv=>whnf)
   (repeat'(first|exact trivial|rfl|refine And.intro ?_ ?_|fail))
def c1013:Con:=mkCon 13 true fun args K=>match args with | [.agg [.str ax,.str ay,.str az],.agg [.str bx,.str by',.str bz],.agg [.str cx,.str cy,.str cz]]=>K (.tup [.agg [S (thP ax ay az bx by' bz cx cy cz).1,S (thP ax ay az bx by' bz cx cy cz).2.1,S (thP ax ay az bx by' bz cx cy cz).2.2.1],I (thP ax ay az bx by' bz cx cy cz).2.2.2]) | _=>False
theorem k1013:ConOK Tryz.prog c1013:=by
 refine conOK_of rfl (enters_of Tryz.func13 (by kernel_rfl) rfl) ?_
 intro args K h
 simp only[c1013] at h
 split at h
 ·rename_i ax ay az bx by' bz cx cy cz;exact ⟨_,h,tri_of_body (Γ:=[c1037,c1038,c1039,c14,c1040,c1043,c1042,c1041,c1034]) (by simp[k1037,k1038,k1039,k14,k1040,k1043,k1042,k1041,k1034]) Tryz.func13 (by simp[Tryz.ntmps13]) rfl (b1013 ax ay az bx by' bz cx cy cz)⟩
 ·exact h.elim
end RB
end
section
open Go Go.Proofs Go.Eng Go.Shelf IB Go.Lib Go.RowKit
namespace RB
set_option maxRecDepth 10000
set_option linter.unusedVariables false
set_option linter.unusedSimpArgs false
theorem keepS_ok {r:List UInt8 × Int} (h:r.2=0):keepS 0 r=r.1:=by
 unfold keepS
 rw[keepE0,h];rfl
theorem keep_bad {e0:Int} {r:List UInt8 × Int} (h:(e0=0∧r.2=4)∨e0=4):keepS e0 r= [48]∧keepE e0 r.2=4:=by
 have:keepE e0 r.2=4:=by
  unfold keepE
  rcases h with ⟨h1,h2⟩ | h
  ·rw[if_pos h1,h2]
  ·rw[if_neg (by omega),h]
 refine ⟨?_,this⟩
 unfold keepS
 rw[this,if_neg (by decide)]
noncomputable def c1045g:Con:=celCon 45 71 fun args e0 K=>match args with | [.str a,.str b]=>Alt (Has (fun r=>subQ a b=(r,0)) fun r=>Need (e0=0) (K (S r) 0)) (Need ((e0=0∧(subQ a b).2=4)∨e0=4) (K (S [48]) 4)) | _=>False
theorem k1045g:ConOK Tryz.prog c1045g:=by
 refine celOK_of (enters_of Tryz.func45 (by kernel_rfl) rfl) ?_
 intro args e0 K h
 split at h
 ·rename_i a b
  have hb:=htri_of_body (Γ:=[c40,c1082]) (by simp[k40,k1082]) Tryz.func45 (by simp[Tryz.ntmps45]) (b1045 a b e0)
  rcases h with ⟨⟨r,h0,⟨rfl,hk⟩⟩⟩ | ⟨h0,hk⟩
  ·rw[keepS_ok (by rw[h0]),h0] at hb
   exact ⟨_,_,hk,rfl,hb⟩
  ·rw[(keep_bad h0).1,(keep_bad h0).2] at hb
   exact ⟨_,_,hk,rfl,hb⟩
 ·exact h.elim
noncomputable def c1046g:Con:=celCon 46 71 fun args e0 K=>match args with | [.str a,.str b]=>Alt (Has (fun r=>mulQ a b=(r,0)) fun r=>Need (e0=0) (K (S r) 0)) (Need ((e0=0∧(mulQ a b).2=4)∨e0=4) (K (S [48]) 4)) | _=>False
theorem k1046g:ConOK Tryz.prog c1046g:=by
 refine celOK_of (enters_of Tryz.func46 (by kernel_rfl) rfl) ?_
 intro args e0 K h
 split at h
 ·rename_i a b
  have hb:=htri_of_body (Γ:=[c41,c1082]) (by simp[k41,k1082]) Tryz.func46 (by simp[Tryz.ntmps46]) (b1046 a b e0)
  rcases h with ⟨⟨r,h0,⟨rfl,hk⟩⟩⟩ | ⟨h0,hk⟩
  ·rw[keepS_ok (by rw[h0]),h0] at hb
   exact ⟨_,_,hk,rfl,hb⟩
  ·rw[(keep_bad h0).1,(keep_bad h0).2] at hb
   exact ⟨_,_,hk,rfl,hb⟩
 ·exact h.elim
noncomputable def c1047g:Con:=celCon 47 71 fun args e0 K=>match args with | [.str a,.str b]=>Alt (Has (fun r=>divQ a b=(r,0)) fun r=>Need (e0=0) (K (S r) 0)) (Need ((e0=0∧(divQ a b).2=4)∨e0=4) (K (S [48]) 4)) | _=>False
theorem k1047g:ConOK Tryz.prog c1047g:=by
 refine celOK_of (enters_of Tryz.func47 (by kernel_rfl) rfl) ?_
 intro args e0 K h
 split at h
 ·rename_i a b
  have hb:=htri_of_body (Γ:=[c42,c1082]) (by simp[k42,k1082]) Tryz.func47 (by simp[Tryz.ntmps47]) (b1047 a b e0)
  rcases h with ⟨⟨r,h0,⟨rfl,hk⟩⟩⟩ | ⟨h0,hk⟩
  ·rw[keepS_ok (by rw[h0]),h0] at hb
   exact ⟨_,_,hk,rfl,hb⟩
  ·rw[(keep_bad h0).1,(keep_bad h0).2] at hb
   exact ⟨_,_,hk,rfl,hb⟩
 ·exact h.elim
noncomputable def c1048g:Con:=celCon 48 71 fun args e0 K=>match args with | [.str a,.str b,.str c]=>Alt (Has (fun r=>sumQ [a,b,c]=(r,0)) fun r=>Need (e0=0) (K (S r) 0)) (Need ((e0=0∧(sumQ [a,b,c]).2=4)∨e0=4) (K (S [48]) 4)) | _=>False
theorem k1048g:ConOK Tryz.prog c1048g:=by
 refine celOK_of (enters_of Tryz.func48 (by kernel_rfl) rfl) ?_
 intro args e0 K h
 split at h
 ·rename_i a b c
  have hb:=htri_of_body (Γ:=[c28,c1082]) (by simp[k28,k1082]) Tryz.func48 (by simp[Tryz.ntmps48]) (b1048 a b c e0)
  rcases h with ⟨⟨r,h0,⟨rfl,hk⟩⟩⟩ | ⟨h0,hk⟩
  ·rw[keepS_ok (by rw[h0]),h0] at hb
   exact ⟨_,_,hk,rfl,hb⟩
  ·rw[(keep_bad h0).1,(keep_bad h0).2] at hb
   exact ⟨_,_,hk,rfl,hb⟩
 ·exact h.elim
section
variable {p q r s t u:Rat}
theorem meP_num (z1:Sz 36 p) (z2:Sz 36 q) (z3:Sz 36 r) (y1:Sz 36 s) (y2:Sz 36 t) (y3:Sz 36 u):meP (numS p) (numS q) (numS r) (numS s) (numS t) (numS u)=
  if p-s=0∧q-t=0 then ([],[],[],12) else if p-s=0 then ([48],[49],numS ((u-r)/(q-t)),0) else ([49],numS ((q-t)/(p-s)),numS ((u-r)/(p-s)),0):=by
 unfold meP
 rw[if_neg (by rintro (h | h);exact h (chk3_no z1 z2 z3);exact h (chk3_no y1 y2 y3))]
 simp only[valQ_numS]
end
set_option maxHeartbeats 4000000 in
theorem b1015 (a b c a' b' c':List UInt8):body Tryz.prog [c1034,c1041,c14,c1040] {} true Tryz.f15 [.agg [S a,S b,S c],.agg [S a',S b',S c']] (.tup [S (meP a b c a' b' c').1,S (meP a b c a' b' c').2.1,S (meP a b c a' b' c').2.2.1,I (meP a b c a' b' c').2.2.2]):=by
 by_cases h1:chk3 a b c=0
 ·by_cases h2:chk3 a' b' c'=0
  ·obtain ⟨p,q,r,⟨rfl,rfl,rfl⟩,⟨z1,z2,z3⟩,v1,v2,v3⟩:=chk3_num h1
   obtain ⟨s,t,u,⟨rfl,rfl,rfl⟩,⟨y1,y2,y3⟩,w1,w2,w3⟩:=chk3_num h2
   rw[meP_num z1 z2 z3 y1 y2 y3]
   have s1:=subQ_sz z1 y1 (by decide) (by decide) (by decide)
   have s2:=subQ_sz z2 y2 (by decide) (by decide) (by decide)
   have s3:=subQ_sz y3 z3 (by decide) (by decide) (by decide)
   have he:keepE (keepE (keepE 0 (subQ (numS p) (numS s)).2) (subQ (numS q) (numS t)).2) (subQ (numS u) (numS r)).2=0:=by rw[s1,s2,s3];rfl
   by_cases hd:p-s=0
   ·have g1:(subQ (numS p) (numS s)).1= [48]:=by rw[s1,hd];exact numS0
    by_cases hf:q-t=0
    ·have g2:(subQ (numS q) (numS t)).1= [48]:=by rw[s2,hf];exact numS0
     rw[if_pos ⟨hd,hf⟩]
     (repeat'((conv=>whnf);first|(apply Pin.mk;apply Exists.intro)|apply Pinned.mk rfl rfl|(apply PinH.mk;apply Exists.intro;apply Exists.intro)|exact Zf|refine Zc ?_ ?_|refine Zy ?_|refine Zm ?_|fail))
     (conv=>whnf)
     (repeat'(first|exact trivial|rfl|refine And.intro ?_ ?_|fail))
    ·have g2:¬(subQ (numS q) (numS t)).1= [48]:=by rw[s2];exact fun h=>hf (numS_inj (h.trans numS0.symm))
     rw[if_neg (fun h=>hf h.2),if_pos hd]
     have d1:=divQ_sz (y3.sub z3) (z2.sub y2) (by decide) (by decide) (by decide) hf
     have d2:divQ (subQ (numS u) (numS r)).1 (subQ (numS q) (numS t)).1=(numS ((u-r)/(q-t)),0):=by rw[s3,s2];exact d1
     have hk:keepE (keepE (keepE (keepE 0 (subQ (numS p) (numS s)).2) (subQ (numS q) (numS t)).2) (subQ (numS u) (numS r)).2) (divQ (subQ (numS u) (numS r)).1 (subQ (numS q) (numS t)).1).2=0:=by rw[he,d2];rfl
     (repeat'((conv=>whnf);first|(apply Pin.mk;apply Exists.intro)|apply Pinned.mk rfl rfl|(apply PinH.mk;apply Exists.intro;apply Exists.intro)|exact Zf|refine Zc ?_ ?_|refine Zy ?_|refine Zm ?_|fail))
     (conv=>whnf)
     (repeat'(first|exact trivial|rfl|refine And.intro ?_ ?_|fail))
     (conv=>whnf)
     rw[d2]
   ·have g1:¬(subQ (numS p) (numS s)).1= [48]:=by rw[s1];exact fun h=>hd (numS_inj (h.trans numS0.symm))
    rw[if_neg (fun h=>hd h.1),if_neg hd]
    have d1:divQ (subQ (numS u) (numS r)).1 (subQ (numS p) (numS s)).1=(numS ((u-r)/(p-s)),0):=by rw[s3,s1];exact divQ_sz (y3.sub z3) (z1.sub y1) (by decide) (by decide) (by decide) hd
    have d2:divQ (subQ (numS q) (numS t)).1 (subQ (numS p) (numS s)).1=(numS ((q-t)/(p-s)),0):=by rw[s2,s1];exact divQ_sz (z2.sub y2) (z1.sub y1) (by decide) (by decide) (by decide) hd
    have hk:keepE (keepE (keepE (keepE (keepE 0 (subQ (numS p) (numS s)).2) (subQ (numS q) (numS t)).2) (subQ (numS u) (numS r)).2) (divQ (subQ (numS q) (numS t)).1 (subQ (numS p) (numS s)).1).2) (divQ (subQ (numS u) (numS r)).1 (subQ (numS p) (numS s)).1).2=0:=by rw[he,d2,d1];rfl
    (repeat'((conv=>whnf);first|(apply Pin.mk;apply Exists.intro)|apply Pinned.mk rfl rfl|(apply PinH.mk;apply Exists.intro;apply Exists.intro)|exact Zf|refine Zc ?_ ?_|refine Zm ?_|fail))
    (conv=>whnf)
    (repeat'(first|exact trivial|rfl|refine And.intro ?_ ?_|fail))
    ·(conv=>whnf)
     rw[d2]
    ·(conv=>whnf)
     rw[d1]
  ·have e:meP a b c a' b' c'=([],[],[],1):=by unfold meP;rw[if_pos (.inr h2)]
   rw[e]
   (repeat'((conv=>whnf);first|refine Zy ?_|refine Zm ?_|fail))
   (conv=>whnf)
   (repeat'(first|exact trivial|rfl|refine And.intro ?_ ?_|fail))
 ·have e:meP a b c a' b' c'=([],[],[],1):=by unfold meP;rw[if_pos (.inl h1)]
  rw[e]
  (repeat'((conv=>whnf);first|refine Zy ?_|fail))
  (conv=>whnf)
  (repeat'(first|exact trivial|rfl|refine And.intro ?_ ?_|fail))
def c1015:Con:=mkCon 15 true fun args K=>match args with | [.agg [.str a,.str b,.str c],.agg [.str a',.str b',.str c']]=>K (.tup [S (meP a b c a' b' c').1,S (meP a b c a' b' c').2.1,S (meP a b c a' b' c').2.2.1,I (meP a b c a' b' c').2.2.2]) | _=>False
theorem k1015:ConOK Tryz.prog c1015:=by
 refine conOK_of rfl (enters_of Tryz.func15 (by kernel_rfl) rfl) ?_
 intro args K h
 simp only[c1015] at h
 split at h
 ·rename_i a b c a' b' c';exact ⟨_,h,tri_of_body (Γ:=[c1034,c1041,c14,c1040]) (by simp[k1034,k1041,k14,k1040]) Tryz.func15 (by simp[Tryz.ntmps15]) rfl (b1015 a b c a' b' c')⟩
 ·exact h.elim
set_option maxHeartbeats 4000000 in
theorem b1016 (a b c a' b' c':List UInt8):body Tryz.prog [c1035,c1045g,c1047g] {} true Tryz.f16 [.agg [S a,S b,S c],.agg [S a',S b',S c']] (.tup [S (meP a b c a' b' c').1,S (meP a b c a' b' c').2.1,S (meP a b c a' b' c').2.2.1,I (meP a b c a' b' c').2.2.2]):=by
 by_cases h1:chk3 a b c=0
 ·by_cases h2:chk3 a' b' c'=0
  ·obtain ⟨p,q,r,⟨rfl,rfl,rfl⟩,⟨z1,z2,z3⟩,v1,v2,v3⟩:=chk3_num h1
   obtain ⟨s,t,u,⟨rfl,rfl,rfl⟩,⟨y1,y2,y3⟩,w1,w2,w3⟩:=chk3_num h2
   rw[meP_num z1 z2 z3 y1 y2 y3]
   have s1:=subQ_sz z1 y1 (by decide) (by decide) (by decide)
   have s2:=subQ_sz z2 y2 (by decide) (by decide) (by decide)
   have s3:=subQ_sz y3 z3 (by decide) (by decide) (by decide)
   by_cases hd:p-s=0
   ·have g1:numS (p-s)= [48]:=by rw[hd];exact numS0
    by_cases hf:q-t=0
    ·have g2:numS (q-t)= [48]:=by rw[hf];exact numS0
     rw[if_pos ⟨hd,hf⟩]
     (repeat'((conv=>whnf);first|refine Zn ?_|(apply Pin.mk;apply Exists.intro)|apply Pinned.mk rfl rfl|(apply PinH.mk;apply Exists.intro;apply Exists.intro)|exact Zf|refine Zc ?_ ?_|refine .h ?_|refine Zy ?_|refine Zm ?_|fail))
     (conv=>whnf)
     (repeat'(first|exact trivial|rfl|refine And.intro ?_ ?_|fail))
    ·have g2:¬numS (q-t)= [48]:=fun h=>hf (numS_inj (h.trans numS0.symm))
     rw[if_neg (fun h=>hf h.2),if_pos hd]
     have d1:=divQ_sz (y3.sub z3) (z2.sub y2) (by decide) (by decide) (by decide) hf
     (repeat'((conv=>whnf);first|refine Zn ?_|(apply Pin.mk;apply Exists.intro)|apply Pinned.mk rfl rfl|(apply PinH.mk;apply Exists.intro;apply Exists.intro)|exact Zf|refine Zc ?_ ?_|refine .h ?_|refine Zy ?_|refine Zm ?_|fail))
     (conv=>whnf)
     (repeat'(first|exact trivial|rfl|refine And.intro ?_ ?_|fail))
   ·have g1:¬numS (p-s)= [48]:=fun h=>hd (numS_inj (h.trans numS0.symm))
    rw[if_neg (fun h=>hd h.1),if_neg hd]
    have d1:=divQ_sz (y3.sub z3) (z1.sub y1) (by decide) (by decide) (by decide) hd
    have d2:=divQ_sz (z2.sub y2) (z1.sub y1) (by decide) (by decide) (by decide) hd
    (repeat'((conv=>whnf);first|refine Zn ?_|(apply Pin.mk;apply Exists.intro)|apply Pinned.mk rfl rfl|(apply PinH.mk;apply Exists.intro;apply Exists.intro)|exact Zf|refine Zc ?_ ?_|refine .h ?_|refine Zm ?_|fail))
    (conv=>whnf)
    (repeat'(first|exact trivial|rfl|refine And.intro ?_ ?_|fail))
  ·have e:meP a b c a' b' c'=([],[],[],1):=by unfold meP;rw[if_pos (.inr h2)]
   rw[e]
   (repeat'((conv=>whnf);first|refine Zy ?_|refine Zm ?_|fail))
   (conv=>whnf)
   (repeat'(first|exact trivial|rfl|refine And.intro ?_ ?_|fail))
 ·have e:meP a b c a' b' c'=([],[],[],1):=by unfold meP;rw[if_pos (.inl h1)]
  rw[e]
  (repeat'((conv=>whnf);first|refine Zy ?_|fail))
  (conv=>whnf)
  (repeat'(first|exact trivial|rfl|refine And.intro ?_ ?_|fail))
def c1016:Con:=mkCon 16 true fun args K=>match args with | [.agg [.str a,.str b,.str c],.agg [.str a',.str b',.str c']]=>K (.tup [S (meP a b c a' b' c').1,S (meP a b c a' b' c').2.1,S (meP a b c a' b' c').2.2.1,I (meP a b c a' b' c').2.2.2]) | _=>False
theorem k1016:ConOK Tryz.prog c1016:=by
 refine conOK_of rfl (enters_of Tryz.func16 (by kernel_rfl) rfl) ?_
 intro args K h
 simp only[c1016] at h
 split at h
 ·rename_i a b c a' b' c';exact ⟨_,h,tri_of_body (Γ:=[c1035,c1045g,c1047g]) (by simp[k1035,k1045g,k1047g]) Tryz.func16 (by simp[Tryz.ntmps16]) rfl (b1016 a b c a' b' c')⟩
 ·exact h.elim
def grtP (l:List (List UInt8)):Prop:=∃a∈l,(20<a.length∧a.length<80)∨700<a.length
noncomputable instance (l:List (List UInt8)):Decidable (grtP l):=Classical.propDecidable _
theorem grtP_at {l:List (List UInt8)} {i:Nat} (hi:i<l.length) (h:(20<(l.getD i []).length∧(l.getD i []).length<80)∨700<(l.getD i []).length):grtP l:=⟨l.getD i [],by rw[List.getD_eq_getElem?_getD,List.getElem?_eq_getElem hi];exact List.getElem_mem hi,h⟩
theorem grtP_no {l:List (List UInt8)} (h:∀j,j<l.length→¬((20<(l.getD j []).length∧(l.getD j []).length<80)∨700<(l.getD j []).length)):¬grtP l:=by
 rintro ⟨a,ha,h1⟩
 obtain ⟨j,hj,rfl⟩:=List.getElem_of_mem ha
 exact h j hj (by rw[List.getD_eq_getElem?_getD,List.getElem?_eq_getElem hj];exact h1)
theorem b1036 (l:List (List UInt8)):body Tryz.prog [] { asks:=[(0,[])] } true Tryz.f36 [.seq .str l] (.bl (grtP l) inferInstance):=by
 skip
 refine Ask.mk ⟨{ X:=Nat,pre:=fun i=>i≤l.length∧∀j,j<i→¬((20<(l.getD j []).length∧(l.getD j []).length<80)∨700<(l.getD j []).length),mod:=fun i _=>[(3,I i)],heap:=fun i H=>H,mu:=fun i=>l.length-i },rfl,?_⟩
 (repeat'((conv=>whnf);first|refine Zn ?_|fail))
 refine ⟨⟨(0:Nat),⟨Nat.zero_le _,fun j hj=>by omega⟩,?_⟩,fun (i:Nat) hi=>?_⟩
 ·(repeat'(first|exact trivial|rfl|refine And.intro ?_ ?_|fail))
 obtain ⟨hi,hp⟩:=hi
 have step:∀(h:i<l.length) (hn:¬((20<(l.getD i []).length∧(l.getD i []).length<80)∨700<(l.getD i []).length)),i+1≤l.length∧∀j,j<i+1→¬((20<(l.getD j []).length∧(l.getD j []).length<80)∨700<(l.getD j []).length):=fun h hn=>⟨h,fun j hj=>by
  rcases Nat.lt_succ_iff_lt_or_eq.1 hj with h1 | h1
  ·exact hp j h1
  ·subst h1;exact hn⟩
 (repeat'((conv=>whnf);first|refine Zg fun _=>?_|fail))
 (refine Br.mk (fun _=>?_) (fun _=>?_))
 ·rename_i hlt
  have hlt:i<l.length:=by omega
  (repeat'((conv=>whnf);first|refine Zg fun _=>?_|refine Zn ?_|refine Zj ?_|refine Zm ?_|refine Zr (fun _=>?_) fun _=>?_|fail))
  all_goals first
   | (refine ⟨(i+1:Nat),by show l.length-(i+1)<l.length-i;omega,step hlt (by omega),?_⟩;(repeat'(first|exact trivial|rfl|refine And.intro ?_ ?_|fail)))
   | ((conv=>whnf);exact grtP_at hlt (by omega))
 ·rename_i hlt
  have e:i=l.length:=by omega
  subst e
  skip
  (conv=>whnf)
  exact grtP_no hp
def c1036:Con:=mkCon 36 true fun args K=>match args with | [.seq .str l]=>K (.bl (grtP l) inferInstance) | _=>False
theorem k1036:ConOK Tryz.prog c1036:=by
 refine conOK_of rfl (enters_of Tryz.func36 (by kernel_rfl) rfl) ?_
 intro args K h
 simp only[c1036] at h
 split at h
 ·rename_i l;exact ⟨_,h,tri_of_body (Γ:=[]) (by simp) Tryz.func36 (by simp[Tryz.ntmps36]) rfl (b1036 l)⟩
 ·exact h.elim
theorem b1011 (l:List (List UInt8)):body Tryz.prog [c1036] {} true Tryz.f11 [.seq .str l] (.bl (grtP l) inferInstance):=by
 skip
 (conv=>whnf)
 skip
def c1011:Con:=mkCon 11 true fun args K=>match args with | [.seq .str l]=>K (.bl (grtP l) inferInstance) | _=>False
theorem k1011:ConOK Tryz.prog c1011:=by
 refine conOK_of rfl (enters_of Tryz.func11 (by kernel_rfl) rfl) ?_
 intro args K h
 simp only[c1011] at h
 split at h
 ·rename_i l;exact ⟨_,h,tri_of_body (Γ:=[c1036]) (by simp[k1036]) Tryz.func11 (by simp[Tryz.ntmps11]) rfl (b1011 l)⟩
 ·exact h.elim
theorem b1012:body Tryz.prog [c1013,c1015,c1023] {} true Tryz.f12 [] (.val (.bool true)):=by
 have e1:(thP [48] [48] [48] [50] [48] [49] [48] [51] [48]).2.2.2=0:=by rw[aw_th]
 have e2:(meP [49] [48] [48] [48] [49] [48]).2.2.2=0:=by rw[aw_me]
 have e3:(nmP [49] [48] [48] [48] [49] [48]).2.2=0:=by rw[aw_nm]
 have e4: [(thP [48] [48] [48] [50] [48] [49] [48] [51] [48]).1,(thP [48] [48] [48] [50] [48] [49] [48] [51] [48]).2.1,(thP [48] [48] [48] [50] [48] [49] [48] [51] [48]).2.2.1]= [[49,47,50],[48],[48]]:=by rw[aw_th]
 have e5:(meP [49] [48] [48] [48] [49] [48]).1= [49]:=by rw[aw_me]
 have e6:(meP [49] [48] [48] [48] [49] [48]).2.1= [45,49]:=by rw[aw_me]
 have e7:(meP [49] [48] [48] [48] [49] [48]).2.2.1= [48]:=by rw[aw_me]
 have e8:(nmP [49] [48] [48] [48] [49] [48]).1= [49]:=by rw[aw_nm]
 have e9:(nmP [49] [48] [48] [48] [49] [48]).2.1= [52]:=by rw[aw_nm]
 (repeat'((conv=>whnf);first|refine Zy ?_|fail))
 refine Need.mk ⟨⟨by decide,by decide,by decide,trivial⟩,by kernel_rfl⟩ ?_
 (repeat'((conv=>whnf);first|refine Zy ?_|fail))
 (conv=>whnf)
 exact iff_of_true e9 rfl
def c1012:Con:=mkCon 12 true fun args K=>match args with | []=>K (.val (.bool true)) | _=>False
theorem k1012:ConOK Tryz.prog c1012:=by
 refine conOK_of rfl (enters_of Tryz.func12 (by kernel_rfl) rfl) ?_
 intro args K h
 simp only[c1012] at h
 split at h
 ·exact ⟨_,h,tri_of_body (Γ:=[c1013,c1015,c1023]) (by simp[k1013,k1015,k1023]) Tryz.func12 (by simp[Tryz.ntmps12]) rfl b1012⟩
 ·exact h.elim
end RB
end
section
set_option linter.unusedVariables false
open Go Go.Proofs Go.Eng Go.Shelf IB Go.Lib Go.RowKit
namespace RB
set_option maxRecDepth 10000
set_option linter.unusedVariables false
set_option linter.unusedSimpArgs false
set_option maxHeartbeats 16000000 in
theorem b1014 (ax ay az bx by' bz cx cy cz:List UInt8):body Tryz.prog [c1044,c1045g,c1046g,c1047g,c1048g,c1035] {} true Tryz.f14 [.agg [S ax,S ay,S az],.agg [S bx,S by',S bz],.agg [S cx,S cy,S cz]] (.tup [.agg [S (thP ax ay az bx by' bz cx cy cz).1,S (thP ax ay az bx by' bz cx cy cz).2.1,S (thP ax ay az bx by' bz cx cy cz).2.2.1],I (thP ax ay az bx by' bz cx cy cz).2.2.2]):=by
 by_cases b1:badP [ax,ay,az]
 ·rw[show thP ax ay az bx by' bz cx cy cz=([],[],[],1) by unfold thP;rw[if_pos (.inl b1)]]
  have nb:¬ ¬badP [ax,ay,az]:=fun h=>h b1
  (repeat'((conv=>whnf);first|refine Zy ?_|fail))
  (conv=>whnf)
  (repeat'(first|exact trivial|rfl|refine And.intro ?_ ?_|fail))
 by_cases b2:badP [bx,by',bz]
 ·rw[show thP ax ay az bx by' bz cx cy cz=([],[],[],1) by unfold thP;rw[if_pos (.inr (.inl b2))]]
  have nb:¬ ¬badP [bx,by',bz]:=fun h=>h b2
  (repeat'((conv=>whnf);first|refine Zy ?_|refine Zm ?_|fail))
  (conv=>whnf)
  (repeat'(first|exact trivial|rfl|refine And.intro ?_ ?_|fail))
 by_cases b3:badP [cx,cy,cz]
 ·rw[show thP ax ay az bx by' bz cx cy cz=([],[],[],1) by unfold thP;rw[if_pos (.inr (.inr b3))]]
  have nb:¬ ¬badP [cx,cy,cz]:=fun h=>h b3
  (repeat'((conv=>whnf);first|refine Zy ?_|refine Zm ?_|fail))
  (conv=>whnf)
  (repeat'(first|exact trivial|rfl|refine And.intro ?_ ?_|fail))
 obtain ⟨ax,ay,az,⟨rfl,rfl,rfl⟩,⟨z1,z2,z3⟩,_,_,_⟩:=badP3_num b1
 obtain ⟨bx,by',bz,⟨rfl,rfl,rfl⟩,⟨z4,z5,z6⟩,_,_,_⟩:=badP3_num b2
 obtain ⟨cx,cy,cz,⟨rfl,rfl,rfl⟩,⟨z7,z8,z9⟩,_,_,_⟩:=badP3_num b3
 rw[thP_num z1 z2 z3 z4 z5 z6 z7 z8 z9]
 obtain ⟨s1,s2,s3,t1,t2,t3,m1,m2,m3,m4,m5,m6,d1,d2,d3,vD,vA,vB⟩:=thF_of z1 z2 z3 z4 z5 z6 z7 z8 z9
 have eA:upA ax ay az bx by' bz cx cy cz/thD ax ay bx by' cx cy=thA ax ay az bx by' bz cx cy cz:=rfl
 have eB:upB ax ay az bx by' bz cx cy cz/thD ax ay bx by' cx cy=thB ax ay az bx by' bz cx cy cz:=rfl
 have eC:az-(thA ax ay az bx by' bz cx cy cz*ax+thB ax ay az bx by' bz cx cy cz*ay)=thC ax ay az bx by' bz cx cy cz:=rfl
 by_cases hD:thD ax ay bx by' cx cy=0
 ·rw[thR_zero hD]
  have hZ:numS (thD ax ay bx by' cx cy)= [48]:=by rw[hD];exact numS0
  (repeat'((conv=>whnf);first|refine Zn ?_|(apply Pin.mk;apply Exists.intro)|apply Pinned.mk rfl rfl|(apply PinH.mk;apply Exists.intro;apply Exists.intro)|exact Zf|refine Zc ?_ ?_|refine .h ?_|refine Zy ?_|refine Zm ?_|fail))
  (conv=>whnf)
  (repeat'(first|exact trivial|rfl|refine And.intro ?_ ?_|fail))
 have hZ:¬numS (thD ax ay bx by' cx cy)= [48]:=fun h=>hD (numS_inj (h.trans numS0.symm))
 rcases div04v vA vD hD with qA | ⟨qA,wA⟩
 ·rw[thR_four hD (.inl qA)]
  (repeat'((conv=>whnf);first|refine Zb ?_|refine Zn ?_|(apply Pin.mk;apply Exists.intro)|apply Pinned.mk rfl rfl|(apply PinH.mk;apply Exists.intro;apply Exists.intro)|exact Zf|refine Zc ?_ ?_|refine .h ?_|refine Zy ?_|refine Zm ?_|fail))
  (conv=>whnf)
  (repeat'(first|exact trivial|rfl|refine And.intro ?_ ?_|fail))
 rcases div04v vB vD hD with qB | ⟨qB,wB⟩
 ·rw[thR_four hD (.inr (.inl qB))]
  (repeat'((conv=>whnf);first|refine Zb ?_|refine Zn ?_|(apply Pin.mk;apply Exists.intro)|apply Pinned.mk rfl rfl|(apply PinH.mk;apply Exists.intro;apply Exists.intro)|exact Zf|refine Zc ?_ ?_|refine .h ?_|refine Zy ?_|refine Zm ?_|fail))
  (conv=>whnf)
  (repeat'(first|exact trivial|rfl|refine And.intro ?_ ?_|fail))
 have q2:=congrArg Prod.snd qA
 have q3:=congrArg Prod.snd qB
 rw[eA] at qA wA
 rw[eB] at qB wB
 by_cases hd:d36 (thA ax ay az bx by' bz cx cy cz)∧d36 (thB ax ay az bx by' bz cx cy cz)
 ·obtain ⟨n1,n2,_,n3,n4,vC⟩:=th3_of (d36_sz hd.1) (d36_sz hd.2) z1 z2 z3
  rw[eC] at n4 vC
  by_cases hC:d36 (thC ax ay az bx by' bz cx cy cz)
  ·rw[thR_ok hD q2 q3 ⟨hd.1,hd.2,hC⟩]
   have g7:=(chk3_vd wA wB vC).2 ⟨hd.1,hd.2,hC⟩
   (repeat'((conv=>whnf);first|refine Zn ?_|(apply Pin.mk;apply Exists.intro)|apply Pinned.mk rfl rfl|(apply PinH.mk;apply Exists.intro;apply Exists.intro)|exact Zf|refine Zc ?_ ?_|refine .h ?_|refine Zm ?_|fail))
   (conv=>whnf)
   (repeat'(first|exact trivial|rfl|refine And.intro ?_ ?_|fail))
  ·rw[thR_four hD (.inr (.inr fun h=>hC h.2.2))]
   have g7:¬chk3 (numS (thA ax ay az bx by' bz cx cy cz)) (numS (thB ax ay az bx by' bz cx cy cz)) (numS (thC ax ay az bx by' bz cx cy cz))=0:=fun h=>hC ((chk3_vd wA wB vC).1 h).2.2
   (repeat'((conv=>whnf);first|refine Zn ?_|(apply Pin.mk;apply Exists.intro)|apply Pinned.mk rfl rfl|(apply PinH.mk;apply Exists.intro;apply Exists.intro)|exact Zf|refine Zc ?_ ?_|refine .h ?_|refine Zy ?_|refine Zm ?_|fail))
   (conv=>whnf)
   (repeat'(first|exact trivial|rfl|refine And.intro ?_ ?_|fail))
 ·rw[thR_four hD (.inr (.inr fun h=>hd ⟨h.1,h.2.1⟩))]
  have hN:∀X,¬chk3 (numS (thA ax ay az bx by' bz cx cy cz)) (numS (thB ax ay az bx by' bz cx cy cz)) X=0:=fun X h=>hd (by
   obtain ⟨k1,k2,_⟩:=chk3_ok h
   have k1:=(chkP_ok k1).2
   have k2:=(chkP_ok k2).2
   rw[valQ_numS] at k1 k2
   exact ⟨k1,k2⟩)
  rcases mul04v wA (z1.vd ⟨by decide,by decide⟩) with n1 | ⟨n1,v1⟩
  ·(repeat'((conv=>whnf);first|refine Zb ?_|refine Zn ?_|(apply Pin.mk;apply Exists.intro)|apply Pinned.mk rfl rfl|(apply PinH.mk;apply Exists.intro;apply Exists.intro)|exact Zf|refine Zc ?_ ?_|refine .h ?_|refine Zy ?_|refine Zm ?_|fail))
   (conv=>whnf)
   (repeat'(first|exact trivial|rfl|refine And.intro ?_ ?_|fail))
  rcases mul04v wB (z2.vd ⟨by decide,by decide⟩) with n2 | ⟨n2,v2⟩
  ·(repeat'((conv=>whnf);first|refine Zb ?_|refine Zn ?_|(apply Pin.mk;apply Exists.intro)|apply Pinned.mk rfl rfl|(apply PinH.mk;apply Exists.intro;apply Exists.intro)|exact Zf|refine Zc ?_ ?_|refine .h ?_|refine Zy ?_|refine Zm ?_|fail))
   (conv=>whnf)
   (repeat'(first|exact trivial|rfl|refine And.intro ?_ ?_|fail))
  rcases sum04w v1 v2 with n3 | ⟨n3,v3⟩
  ·(repeat'((conv=>whnf);first|refine Zb ?_|refine Zn ?_|(apply Pin.mk;apply Exists.intro)|apply Pinned.mk rfl rfl|(apply PinH.mk;apply Exists.intro;apply Exists.intro)|exact Zf|refine Zc ?_ ?_|refine .h ?_|refine .r ?_|refine Zy ?_|refine Zm ?_|fail))
   (conv=>whnf)
   (repeat'(first|exact trivial|rfl|refine And.intro ?_ ?_|fail))
  rcases sub04v (z3.vd ⟨by decide,by decide⟩) v3 with n4 | ⟨n4,v4⟩
  ·(repeat'((conv=>whnf);first|refine Zb ?_|refine Zn ?_|(apply Pin.mk;apply Exists.intro)|apply Pinned.mk rfl rfl|(apply PinH.mk;apply Exists.intro;apply Exists.intro)|exact Zf|refine Zc ?_ ?_|refine .h ?_|refine Zy ?_|refine Zm ?_|fail))
   (conv=>whnf)
   (repeat'(first|exact trivial|rfl|refine And.intro ?_ ?_|fail))
  have g7:=hN (numS (az-(thA ax ay az bx by' bz cx cy cz*ax+thB ax ay az bx by' bz cx cy cz*ay)))
  (repeat'((conv=>whnf);first|refine Zn ?_|(apply Pin.mk;apply Exists.intro)|apply Pinned.mk rfl rfl|(apply PinH.mk;apply Exists.intro;apply Exists.intro)|exact Zf|refine Zc ?_ ?_|refine .h ?_|refine Zy ?_|refine Zm ?_|fail))
  (conv=>whnf)
  (repeat'(first|exact trivial|rfl|refine And.intro ?_ ?_|fail))
def c1014:Con:=mkCon 14 true fun args K=>match args with | [.agg [.str ax,.str ay,.str az],.agg [.str bx,.str by',.str bz],.agg [.str cx,.str cy,.str cz]]=>K (.tup [.agg [S (thP ax ay az bx by' bz cx cy cz).1,S (thP ax ay az bx by' bz cx cy cz).2.1,S (thP ax ay az bx by' bz cx cy cz).2.2.1],I (thP ax ay az bx by' bz cx cy cz).2.2.2]) | _=>False
theorem k1014:ConOK Tryz.prog c1014:=by
 refine conOK_of rfl (enters_of Tryz.func14 (by kernel_rfl) rfl) ?_
 intro args K h
 simp only[c1014] at h
 split at h
 ·rename_i ax ay az bx by' bz cx cy cz;exact ⟨_,h,tri_of_body (Γ:=[c1044,c1045g,c1046g,c1047g,c1048g,c1035]) (by simp[k1044,k1045g,k1046g,k1047g,k1048g,k1035]) Tryz.func14 (by simp[Tryz.ntmps14]) rfl (b1014 ax ay az bx by' bz cx cy cz)⟩
 ·exact h.elim
end RB
end
section
set_option linter.unusedVariables false
open Go Go.Proofs Go.Eng Go.Shelf IB Go.Lib Go.RowKit
namespace RB
set_option maxRecDepth 10000
set_option linter.unusedVariables false
set_option linter.unusedSimpArgs false
set_option maxHeartbeats 8000000 in
theorem b1010 (a b c a' b' c' x y:List UInt8):body Tryz.prog [c1011,c1012,c1019,c1029,c1027,c1030,c1026,c1031,c1023,c1032,c1025,c1033,c1034,c1035] {} true Tryz.f10 [.agg [S a,S b,S c],.agg [S a',S b',S c'],.agg [S x,S y]] (.val (.bool true)):=by
 (repeat'((conv=>whnf);first|refine Zl ?_|fail))
 (refine Br.mk (fun _=>?_) (fun _=>?_))
 ·skip
  (conv=>whnf)
  skip
 ·(repeat'((conv=>whnf);first|(apply Pin.mk;apply Exists.intro)|apply Pinned.mk rfl rfl|fail))
  repeat (first | (refine Br.mkY rfl ?_;(repeat'((conv=>whnf);first|(apply Pin.mk;apply Exists.intro)|apply Pinned.mk rfl rfl|fail))) | (refine Br.mkN (fun h=>h rfl) ?_;skip) | (refine Need.mk ⟨⟨by decide,by decide,trivial⟩,by kernel_rfl⟩ ?_;(repeat'((conv=>whnf);first|(apply Pin.mk;apply Exists.intro)|apply Pinned.mk rfl rfl|fail))) | (refine Need.mk ⟨⟨by decide,by decide,by decide,trivial⟩,by kernel_rfl⟩ ?_;skip))
  (conv=>whnf)
  skip
set_option maxHeartbeats 8000000 in
theorem b1003 (ax ay az bx by' bz cx cy cz a b c a' b' c':List UInt8):body Tryz.prog [c1011,c1012,c1013,c1014,c1015,c1016] {} true Tryz.f3 [.agg [S ax,S ay,S az],.agg [S bx,S by',S bz],.agg [S cx,S cy,S cz],.agg [S a,S b,S c],.agg [S a',S b',S c']] (.val (.bool true)):=by
 (repeat'((conv=>whnf);first|refine Zl ?_|fail))
 (refine Br.mk (fun _=>?_) (fun _=>?_))
 ·skip
  (conv=>whnf)
  skip
 ·skip
  repeat (first | (refine Br.mkY rfl ?_;skip) | (refine Br.mkN (fun h=>h rfl) ?_;skip) | (refine Need.mk ⟨⟨by decide,by decide,trivial⟩,by kernel_rfl⟩ ?_;skip) | (refine Need.mk ⟨⟨by decide,by decide,by decide,trivial⟩,by kernel_rfl⟩ ?_;skip))
  (conv=>whnf)
  skip
theorem t1010 (a b c a' b' c' x y:List UInt8):Tri Tryz.prog true 10 [.agg [S a,S b,S c],.agg [S a',S b',S c'],.agg [S x,S y]] (.val (.bool true)):=
 tri_of_body (Γ:=[c1011,c1012,c1019,c1029,c1027,c1030,c1026,c1031,c1023,c1032,c1025,c1033,c1034,c1035]) (by simp[k1011,k1012,k1019,k1029,k1027,k1030,k1026,k1031,k1023,k1032,k1025,k1033,k1034,k1035]) Tryz.func10 (by simp[Tryz.ntmps10]) rfl (b1010 a b c a' b' c' x y)
theorem t1003 (ax ay az bx by' bz cx cy cz a b c a' b' c':List UInt8):Tri Tryz.prog true 3 [.agg [S ax,S ay,S az],.agg [S bx,S by',S bz],.agg [S cx,S cy,S cz],.agg [S a,S b,S c],.agg [S a',S b',S c']] (.val (.bool true)):=
 tri_of_body (Γ:=[c1011,c1012,c1013,c1014,c1015,c1016]) (by simp[k1011,k1012,k1013,k1014,k1015,k1016]) Tryz.func3 (by simp[Tryz.ntmps3]) rfl (b1003 ax ay az bx by' bz cx cy cz a b c a' b' c')
end RB
end

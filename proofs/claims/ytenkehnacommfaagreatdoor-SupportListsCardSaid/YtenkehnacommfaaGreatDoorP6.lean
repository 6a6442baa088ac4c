/-
  Part 6: a symbolic executor over the model, contracts of functions and plain laws.
-/
import Derived.Test.YtenkehnacommfaaGreatDoorP5
import Init.Data.Rat
import Derived.Test.YtenkehnacommfaaGreatDoorProg
import Derived.Shelf.Abstract
set_option linter.unusedVariables false
set_option linter.unusedSimpArgs false
set_option maxRecDepth 10000
set_option maxHeartbeats 80000000
section
open Go Go.Proofs Go.Eng Go.Shelf IB Go.Lib Go.RowKit
namespace RB
noncomputable def addf (p q:Rat):Bx × Int:=if lim (p.num*q.den) || lim (q.num*p.den) || lim (p.num*q.den+q.num*p.den) || lim (p.den*q.den) then ([],4) else (numS (p+q),0)
noncomputable def subf (p q:Rat):Bx × Int:=if lim (p.num*q.den) || lim (q.num*p.den) || lim (p.num*q.den-q.num*p.den) || lim (p.den*q.den) then ([],4) else (numS (p-q),0)
noncomputable def mulf (p q:Rat):Bx × Int:=if lim (p.num*q.num) || lim (p.den*q.den) then ([],4) else (numS (p*q),0)
noncomputable def divf (p q:Rat):Bx × Int:=if q=0 then ([],12) else if lim (p.num*q.den) || lim (q.num*p.den) then ([],4) else (numS (p/q),0)
abbrev pn (p:Rat):Bx:=itoa p.num
abbrev pd (p:Rat):Bx:=decDigits p.den
theorem pP (p:Rat):valI (pn p)=p.num:=dP _
theorem oP (p:Rat):valI (pd p)=p.den:=by unfold pd;rw[<- vY,dP]
theorem aP9 (q:Rat):pn q= [48]↔q=0:=by
 unfold pn
 rw[<- itoa_zero]
 exact ⟨fun h=>vB.1 (rK h),fun h=>by rw[h];rfl⟩
theorem oZ {s:Bx} (h:aVg s):chkI (pn (valQ s))=0/\chkI (pd (valQ s))=0/\0<valI (pd (valQ s)):=by
 refine ⟨eS (by unfold lim;simpa using h.2.1),(aP7 h.2.2).2.1,?_⟩
 rw[oP]
 have:=(valQ s).den_pos
 omega
theorem aZr {p q:Rat} (h:wA (pn p) (pd p) (pn q) (pd q)):addf p q=(numS (Rat.divInt (valI (pn p)*valI (pd q)+valI (pn q)*valI (pd p)) (valI (pd p)*valI (pd q))),0):=by
 unfold wA mQ at h
 simp only[pP,oP] at h ⊢
 unfold addf
 rw[aHj p q]
 simp[h]
theorem aZs {p q:Rat} (h:¬wA (pn p) (pd p) (pn q) (pd q)):addf p q=([],4):=by
 unfold wA mQ at h
 simp only[pP,oP] at h
 unfold addf
 rw[aD]
 apply aL
 intro hn
 apply h
 simp only[cJ,not_or,eY] at hn
 simp[hn]
theorem aZt {p q:Rat} (h:wB (pn p) (pd p) (pn q) (pd q)):subf p q=(numS (Rat.divInt (valI (pn p)*valI (pd q)-valI (pn q)*valI (pd p)) (valI (pd p)*valI (pd q))),0):=by
 unfold wB mQ at h
 simp only[pP,oP] at h ⊢
 unfold subf
 rw[aHk p q]
 simp[h]
theorem aZu {p q:Rat} (h:¬wB (pn p) (pd p) (pn q) (pd q)):subf p q=([],4):=by
 unfold wB mQ at h
 simp only[pP,oP] at h
 unfold subf
 rw[aD]
 apply aL
 intro hn
 apply h
 simp only[cJ,not_or,eY] at hn
 simp[hn]
theorem aZv {p q:Rat} (h:ok57 (pn p) (pd p) (pn q) (pd q)):mulf p q=(numS (Rat.divInt (valI (pn p)*valI (pn q)) (valI (pd p)*valI (pd q))),0):=by
 unfold ok57 at h
 simp only[pP,oP] at h ⊢
 unfold mulf
 rw[aHl p q]
 simp[h]
theorem aZw {p q:Rat} (h:¬ok57 (pn p) (pd p) (pn q) (pd q)):mulf p q=([],4):=by
 unfold ok57 at h
 simp only[pP,oP] at h
 unfold mulf
 rw[aD]
 apply aL
 intro hn
 apply h
 simp only[cJ,not_or,eY] at hn
 simp[hn]
theorem aZx {p q:Rat} (hq:q≠0) (h:ok50 (pn p) (pd p) (pn q) (pd q)):divf p q=(numS (Rat.divInt (valI (pn p)*valI (pd q)) (valI (pn q)*valI (pd p))),0):=by
 unfold ok50 mQ at h
 simp only[pP,oP] at h ⊢
 unfold divf
 rw[aC hq,cB q.num,aHm p q hq]
 rw[cB q.num] at h
 simp[h]
theorem aZy {p q:Rat} (hq:q≠0) (h:¬ok50 (pn p) (pd p) (pn q) (pd q)):divf p q=([],4):=by
 unfold ok50 mQ at h
 simp only[pP,oP] at h
 unfold divf
 rw[aC hq,aD]
 apply aL
 intro hn
 apply h
 simp only[cJ,not_or,eY] at hn
 simp[hn]
theorem aXc (a b:Bx):body Tryz.prog [c46,c93a] {} true Tryz.f196 [S a,S b,.clo 289 [] [.lelem [.clo 253 [] []] 0]] (.tup [S (addQ a b).1,I (addQ a b).2]):=by
 by_cases ha:chkQ a=0
 ·by_cases hb:chkQ b=0
  ·have e:addQ a b=addf (valQ a) (valQ b):=by
    show iQ a b addf= _
    unfold iQ
    rw[aC (by simpa using ha),aC (by simpa using hb)]
   rw[e]
   obtain ⟨r1,r2,r3⟩:=oZ (jX ha)
   obtain ⟨s1,s2,s3⟩:=oZ (jX hb)
   by_cases hk:wA (pn (valQ a)) (pd (valQ a)) (pn (valQ b)) (pd (valQ b))
   ·rw[aZr hk]
    (repeat'((conv=>whnf);first|refine Zg fun _=>?_|refine Zy ?_|refine Zm ?_|fail))
    refine Need.mk ⟨⟨⟨r1,r2⟩,s1,s2⟩,r3,s3⟩ ?_
    exact ZRF
   rw[aZs hk]
   (repeat'((conv=>whnf);first|refine Zg fun _=>?_|refine Zy ?_|refine Zm ?_|fail))
   refine Need.mk ⟨⟨⟨r1,r2⟩,s1,s2⟩,r3,s3⟩ ?_
   exact ZRF
  have e:addQ a b=([],chkQ b):=by
   show iQ a b addf= _
   unfold iQ
   rw[aC (by simpa using ha),aD hb]
  rw[e]
  exact ZRF
 have e:addQ a b=([],chkQ a):=by
  show iQ a b addf= _
  unfold iQ
  rw[aD ha]
 rw[e]
 exact ZRF
def w93a:Con:=bB 196 true fun args K=>match args with
 | [.str a,.str b,.clo 289 [] [.lelem [.clo 253 [] []] 0]]=>K (.tup [S (addQ a b).1,I (addQ a b).2])
 | _=>False
theorem kw93a:aS Tryz.prog w93a:=by
 refine kO Tryz.func196 fun args K h=>?_
 simp only[w93a] at h;split at h
 ·rename_i a b
  exact ⟨_,h,triB Tryz.func196 Tryz.ntmps196 (by simp[k46,k93a]) (aXc a b)⟩
 exact h.elim
theorem aXd (a b:Bx):body Tryz.prog [c46,c93s] {} true Tryz.f196 [S a,S b,.clo 289 [] [.lelem [.clo 244 [] []] 0]] (.tup [S (subQ a b).1,I (subQ a b).2]):=by
 by_cases ha:chkQ a=0
 ·by_cases hb:chkQ b=0
  ·have e:subQ a b=subf (valQ a) (valQ b):=by
    show iQ a b subf= _
    unfold iQ
    rw[aC (by simpa using ha),aC (by simpa using hb)]
   rw[e]
   obtain ⟨r1,r2,r3⟩:=oZ (jX ha)
   obtain ⟨s1,s2,s3⟩:=oZ (jX hb)
   by_cases hk:wB (pn (valQ a)) (pd (valQ a)) (pn (valQ b)) (pd (valQ b))
   ·rw[aZt hk]
    (repeat'((conv=>whnf);first|refine Zg fun _=>?_|refine Zy ?_|refine Zm ?_|fail))
    refine Need.mk ⟨⟨⟨r1,r2⟩,s1,s2⟩,r3,s3⟩ ?_
    exact ZRF
   rw[aZu hk]
   (repeat'((conv=>whnf);first|refine Zg fun _=>?_|refine Zy ?_|refine Zm ?_|fail))
   refine Need.mk ⟨⟨⟨r1,r2⟩,s1,s2⟩,r3,s3⟩ ?_
   exact ZRF
  have e:subQ a b=([],chkQ b):=by
   show iQ a b subf= _
   unfold iQ
   rw[aC (by simpa using ha),aD hb]
  rw[e]
  exact ZRF
 have e:subQ a b=([],chkQ a):=by
  show iQ a b subf= _
  unfold iQ
  rw[aD ha]
 rw[e]
 exact ZRF
def w93s:Con:=bB 196 true fun args K=>match args with
 | [.str a,.str b,.clo 289 [] [.lelem [.clo 244 [] []] 0]]=>K (.tup [S (subQ a b).1,I (subQ a b).2])
 | _=>False
theorem kw93s:aS Tryz.prog w93s:=by
 refine kO Tryz.func196 fun args K h=>?_
 simp only[w93s] at h;split at h
 ·rename_i a b
  exact ⟨_,h,triB Tryz.func196 Tryz.ntmps196 (by simp[k46,k93s]) (aXd a b)⟩
 exact h.elim
theorem aZz (a b:Bx):body Tryz.prog [c46,c57] {} true Tryz.f196 [S a,S b,.clo 246 [] []] (.tup [S (mulQ a b).1,I (mulQ a b).2]):=by
 by_cases ha:chkQ a=0
 ·by_cases hb:chkQ b=0
  ·have e:mulQ a b=mulf (valQ a) (valQ b):=by
    show iQ a b mulf= _
    unfold iQ
    rw[aC (by simpa using ha),aC (by simpa using hb)]
   rw[e]
   obtain ⟨r1,r2,r3⟩:=oZ (jX ha)
   obtain ⟨s1,s2,s3⟩:=oZ (jX hb)
   by_cases hk:ok57 (pn (valQ a)) (pd (valQ a)) (pn (valQ b)) (pd (valQ b))
   ·rw[aZv hk]
    (repeat'((conv=>whnf);first|refine Zg fun _=>?_|refine Zy ?_|refine Zm ?_|fail))
    refine Need.mk ⟨⟨⟨r1,r2⟩,s1,s2⟩,r3,s3⟩ ?_
    exact ZRF
   rw[aZw hk]
   (repeat'((conv=>whnf);first|refine Zg fun _=>?_|refine Zy ?_|refine Zm ?_|fail))
   refine Need.mk ⟨⟨⟨r1,r2⟩,s1,s2⟩,r3,s3⟩ ?_
   exact ZRF
  have e:mulQ a b=([],chkQ b):=by
   show iQ a b mulf= _
   unfold iQ
   rw[aC (by simpa using ha),aD hb]
  rw[e]
  exact ZRF
 have e:mulQ a b=([],chkQ a):=by
  show iQ a b mulf= _
  unfold iQ
  rw[aD ha]
 rw[e]
 exact ZRF
def w57:Con:=bB 196 true fun args K=>match args with
 | [.str a,.str b,.clo 246 [] []]=>K (.tup [S (mulQ a b).1,I (mulQ a b).2])
 | _=>False
theorem kw57:aS Tryz.prog w57:=by
 refine kO Tryz.func196 fun args K h=>?_
 simp only[w57] at h;split at h
 ·rename_i a b
  exact ⟨_,h,triB Tryz.func196 Tryz.ntmps196 (by simp[k46,k57]) (aZz a b)⟩
 exact h.elim
theorem aZ0 (a b:Bx):body Tryz.prog [c46,c50] {} true Tryz.f196 [S a,S b,.clo 197 [] []] (.tup [S (divQ a b).1,I (divQ a b).2]):=by
 by_cases ha:chkQ a=0
 ·by_cases hb:chkQ b=0
  ·have e:divQ a b=divf (valQ a) (valQ b):=by
    show iQ a b divf= _
    unfold iQ
    rw[aC (by simpa using ha),aC (by simpa using hb)]
   rw[e]
   obtain ⟨r1,r2,r3⟩:=oZ (jX ha)
   obtain ⟨s1,s2,s3⟩:=oZ (jX hb)
   by_cases hz:pn (valQ b)= [48]
   ·have hd:divf (valQ a) (valQ b)=([],12):=by unfold divf;rw[aD ((aP9 _).1 hz)]
    rw[hd]
    (repeat'((conv=>whnf);first|refine Zg fun _=>?_|refine Zy ?_|refine Zm ?_|fail))
    refine Need.mk ⟨⟨⟨r1,r2⟩,s1,s2⟩,r3,s3⟩ ?_
    exact ZRF
   have hq:valQ b≠0:=fun e=>hz ((aP9 _).2 e)
   by_cases hk:ok50 (pn (valQ a)) (pd (valQ a)) (pn (valQ b)) (pd (valQ b))
   ·rw[aZx hq hk]
    (repeat'((conv=>whnf);first|refine Zg fun _=>?_|refine Zy ?_|refine Zm ?_|fail))
    refine Need.mk ⟨⟨⟨r1,r2⟩,s1,s2⟩,r3,s3⟩ ?_
    exact ZRF
   rw[aZy hq hk]
   (repeat'((conv=>whnf);first|refine Zg fun _=>?_|refine Zy ?_|refine Zm ?_|fail))
   refine Need.mk ⟨⟨⟨r1,r2⟩,s1,s2⟩,r3,s3⟩ ?_
   exact ZRF
  have e:divQ a b=([],chkQ b):=by
   show iQ a b divf= _
   unfold iQ
   rw[aC (by simpa using ha),aD hb]
  rw[e]
  exact ZRF
 have e:divQ a b=([],chkQ a):=by
  show iQ a b divf= _
  unfold iQ
  rw[aD ha]
 rw[e]
 exact ZRF
def w50:Con:=bB 196 true fun args K=>match args with
 | [.str a,.str b,.clo 197 [] []]=>K (.tup [S (divQ a b).1,I (divQ a b).2])
 | _=>False
theorem kw50:aS Tryz.prog w50:=by
 refine kO Tryz.func196 fun args K h=>?_
 simp only[w50] at h;split at h
 ·rename_i a b
  exact ⟨_,h,triB Tryz.func196 Tryz.ntmps196 (by simp[k46,k50]) (aZ0 a b)⟩
 exact h.elim
theorem gY {n:Int} (h:n.natAbs<10^40):lim n=false:=by
 unfold lim
 have:=nO 39 n.natAbs h
 simp;omega
theorem uJ {a b:Bx} (ha:fN a) (hb:fN b) (f:Rat->Rat->Bx × Int):iQ a b f=f (valQ a) (valQ b):=by
 unfold iQ
 rw[aC (by rw[qR ha];simp),aC (by rw[qR hb];simp)]
theorem aN0 {a b:Bx} (ha:fN a) (hb:fN b):addQ a b=(numS (valQ a+valQ b),0):=by
 rw[show addQ a b=addf (valQ a) (valQ b) from uJ ha hb addf]
 obtain ⟨p1,p2,p3⟩:=fE ha
 obtain ⟨q1,q2,q3⟩:=fE hb
 have m1:=mul8 p1 q2
 have m2:=mul8 q1 p2
 have m3:=mul8 p2 q2
 have m4:=mul8 p1 q1
 unfold addf
 rw[gY (n:=(valQ a).num*(valQ b).den) (by omega),gY (n:=(valQ b).num*(valQ a).den) (by omega),gY (n:=(valQ a).num*(valQ b).den+(valQ b).num*(valQ a).den) (by omega),gY (n:=(valQ a).den*(valQ b).den) (by omega)]
 rfl
theorem aN1 {a b:Bx} (ha:fN a) (hb:fN b):subQ a b=(numS (valQ a-valQ b),0):=by
 rw[show subQ a b=subf (valQ a) (valQ b) from uJ ha hb subf]
 obtain ⟨p1,p2,p3⟩:=fE ha
 obtain ⟨q1,q2,q3⟩:=fE hb
 have m1:=mul8 p1 q2
 have m2:=mul8 q1 p2
 have m3:=mul8 p2 q2
 have m4:=mul8 p1 q1
 unfold subf
 rw[gY (n:=(valQ a).num*(valQ b).den) (by omega),gY (n:=(valQ b).num*(valQ a).den) (by omega),gY (n:=(valQ a).num*(valQ b).den-(valQ b).num*(valQ a).den) (by omega),gY (n:=(valQ a).den*(valQ b).den) (by omega)]
 rfl
theorem aN2 {a b:Bx} (ha:fN a) (hb:fN b):mulQ a b=(numS (valQ a*valQ b),0):=by
 rw[show mulQ a b=mulf (valQ a) (valQ b) from uJ ha hb mulf]
 obtain ⟨p1,p2,p3⟩:=fE ha
 obtain ⟨q1,q2,q3⟩:=fE hb
 have m1:=mul8 p1 q2
 have m2:=mul8 q1 p2
 have m3:=mul8 p2 q2
 have m4:=mul8 p1 q1
 unfold mulf
 rw[gY (n:=(valQ a).num*(valQ b).num) (by omega),gY (n:=(valQ a).den*(valQ b).den) (by omega)]
 rfl
theorem aN3 {a b:Bx} (ha:fN a) (hb:fN b) (h0:¬b= [48]):divQ a b=(numS (valQ a/valQ b),0):=by
 rw[show divQ a b=divf (valQ a) (valQ b) from uJ ha hb divf]
 obtain ⟨p1,p2,p3⟩:=fE ha
 obtain ⟨q1,q2,q3⟩:=fE hb
 have m1:=mul8 p1 q2
 have m2:=mul8 q1 p2
 unfold divf
 rw[aC (fun e=>h0 (by rw[hb.1,e];exact xF)),gY (n:=(valQ a).num*(valQ b).den) (by omega),gY (n:=(valQ b).num*(valQ a).den) (by omega)]
 rfl
theorem b17 (a b:Bx):body Tryz.prog [q53,w93a,c54] {} true Tryz.f200 [S a,S b] (.tup [S (addQ a b).1,I (addQ a b).2]):=by
 by_cases h:nv2 a b
 ·have ha:=(iX h.1);have hb:=(iX h.2)
  rw[aN0 ⟨ha.1,ha.2.2.2⟩ ⟨hb.1,hb.2.2.2⟩]
  exact ZRF
 exact ZRF
def c17:Con:=bB 200 true fun args K=>match args with | [.str a,.str b]=>K (.tup [S (addQ a b).1,I (addQ a b).2]) | _=>False
theorem k17:aS Tryz.prog c17:=by
 refine kO Tryz.func200 fun args K h=>?_
 simp only[c17] at h;split at h
 ·rename_i a b
  exact ⟨_,h,triB Tryz.func200 Tryz.ntmps200 (by simp[kq53,kw93a,k54]) (b17 a b)⟩
 exact h.elim
theorem b20 (a b:Bx):body Tryz.prog [q59,w93s,c54] {} true Tryz.f192 [S a,S b] (.tup [S (subQ a b).1,I (subQ a b).2]):=by
 by_cases h:nv2 a b
 ·have ha:=(iX h.1);have hb:=(iX h.2)
  rw[aN1 ⟨ha.1,ha.2.2.2⟩ ⟨hb.1,hb.2.2.2⟩]
  exact ZRF
 exact ZRF
def c20:Con:=bB 192 true fun args K=>match args with | [.str a,.str b]=>K (.tup [S (subQ a b).1,I (subQ a b).2]) | _=>False
theorem k20:aS Tryz.prog c20:=by
 refine kO Tryz.func192 fun args K h=>?_
 simp only[c20] at h;split at h
 ·rename_i a b
  exact ⟨_,h,triB Tryz.func192 Tryz.ntmps192 (by simp[kq59,kw93s,k54]) (b20 a b)⟩
 exact h.elim
theorem b19 (a b:Bx):body Tryz.prog [q56,w57] {} true Tryz.f193 [S a,S b] (.tup [S (mulQ a b).1,I (mulQ a b).2]):=by
 by_cases h:nv2 a b
 ·have ha:=(iX h.1);have hb:=(iX h.2)
  rw[aN2 ⟨ha.1,ha.2.2.2⟩ ⟨hb.1,hb.2.2.2⟩]
  exact ZRF
 exact ZRF
def c19:Con:=bB 193 true fun args K=>match args with | [.str a,.str b]=>K (.tup [S (mulQ a b).1,I (mulQ a b).2]) | _=>False
theorem k19:aS Tryz.prog c19:=by
 refine kO Tryz.func193 fun args K h=>?_
 simp only[c19] at h;split at h
 ·rename_i a b
  exact ⟨_,h,triB Tryz.func193 Tryz.ntmps193 (by simp[kq56,kw57]) (b19 a b)⟩
 exact h.elim
theorem b14 (a b:Bx):body Tryz.prog [q48,w50] {} true Tryz.f150 [S a,S b] (.tup [S (divQ a b).1,I (divQ a b).2]):=by
 by_cases h0:b= [48]
 ·exact ZRF
 by_cases h:nv2 a b
 ·have ha:=(iX h.1);have hb:=(iX h.2)
  rw[aN3 ⟨ha.1,ha.2.2.2⟩ ⟨hb.1,hb.2.2.2⟩ h0]
  exact ZRF
 exact ZRF
def c14:Con:=bB 150 true fun args K=>match args with | [.str a,.str b]=>K (.tup [S (divQ a b).1,I (divQ a b).2]) | _=>False
theorem k14:aS Tryz.prog c14:=by
 refine kO Tryz.func150 fun args K h=>?_
 simp only[c14] at h;split at h
 ·rename_i a b
  exact ⟨_,h,triB Tryz.func150 Tryz.ntmps150 (by simp[kq48,kw50]) (b14 a b)⟩
 exact h.elim
theorem b21 (a:Bx):body Tryz.prog [c46] {} true Tryz.f113 [S a] (I (chkQ a)):=by
 by_cases h:chkQ a=0
 ·rw[h]
  exact ZRF
 exact ZRF
def c21:Con:=bB 113 true fun args K=>match args with | [.str a]=>K (I (chkQ a)) | _=>False
theorem k21:aS Tryz.prog c21:=by
 refine kO Tryz.func113 fun args K h=>?_
 simp only[c21] at h;split at h
 ·rename_i a;exact ⟨_,h,triB Tryz.func113 Tryz.ntmps113 (by simp[k46]) (b21 a)⟩
 exact h.elim
noncomputable def ptQ (a:Bx):Bx × Bx:=if chkQ a=0 then (pn (valQ a),pd (valQ a)) else ([],[])
noncomputable def cmpf (p q:Rat):Int × Int:=if lim (p.num*q.den) || lim (q.num*p.den) then (0,4) else (cmpI (p.num*q.den) (q.num*p.den),0)
noncomputable def cmpQ (a b:Bx):Int × Int:=if chkQ a≠0 then (0,chkQ a) else if chkQ b≠0 then (0,chkQ b) else cmpf (valQ a) (valQ b)
def c77r:Con:=bB 294 true fun args K=>match args with
 | [.str a,.str b]=>Need (chkI a=0/\chkI b=0) (K (.tup [I (cmpI (valI a) (valI b)),I 0]))
 | _=>False
theorem k77r:aS Tryz.prog c77r:=by
 refine kO Tryz.func294 fun args K h=>?_
 simp only[c77r] at h;split at h
 ·rename_i a b
  obtain ⟨⟨ha,hb⟩,h⟩:=h
  have ht:=triB Tryz.func294 Tryz.ntmps294 (by simp[k94,k95,k98,k97,k76]) (b77 a b)
  unfold aP5 chk2 at ht
  rw[ha,hb,aC (by simp)] at ht
  exact ⟨_,h,ht⟩
 exact h.elim
def c38:Con:=bB 254 true fun args K=>match args with | [.str a,.str b]=>K (.tup [I (cmpQ a b).1,I (cmpQ a b).2]) | _=>False
theorem k38:aS Tryz.prog c38:=by
 refine kQ {} Tryz.func254 Tryz.ntmps254 (kc k68 (kc k46 (kc k76 (kc k51 (kc k77r kn))))) fun _ _ h=>?_
 split at h
 case h_2=>exact h.elim
 rename_i a b
 refine kb h ?_
 unfold cmpQ
 by_cases hv:nv2 a b
 ·obtain ⟨na,nb⟩:=hv
  have ha:fN a:=⟨(iX na).1,(iX na).2.2.2⟩
  have hb:fN b:=⟨(iX nb).1,(iX nb).2.2.2⟩
  obtain ⟨p1,p2,p3⟩:=fE ha
  obtain ⟨q1,q2,q3⟩:=fE hb
  have m1:=mul8 p1 q2
  have m2:=mul8 q1 p2
  have e:cmpf (valQ a) (valQ b)=(cmpI ((valQ a).num*(valQ b).den) ((valQ b).num*(valQ a).den),0):=by
   unfold cmpf
   rw[gY (n:=(valQ a).num*(valQ b).den) (by omega),gY (n:=(valQ b).num*(valQ a).den) (by omega)]
   rfl
  rw[aC (by rw[qR ha];simp),aC (by rw[qR hb];simp),e]
  exact ZRF
 by_cases hca:chkQ a=0
 ·by_cases hcb:chkQ b=0
  ·rw[aC (by simpa using hca),aC (by simpa using hcb)]
   obtain ⟨r1,r2,r3⟩:=oZ (jX hca)
   obtain ⟨s1,s2,s3⟩:=oZ (jX hcb)
   have v1:=pP (valQ a)
   have v2:=oP (valQ a)
   have v3:=pP (valQ b)
   have v4:=oP (valQ b)
   by_cases hk:mQ (pn (valQ a)) (pd (valQ a)) (pn (valQ b)) (pd (valQ b))
   ·have e:cmpf (valQ a) (valQ b)=(cmpI (valI (itoa (valI (pn (valQ a))*valI (pd (valQ b))))) (valI (itoa (valI (pn (valQ b))*valI (pd (valQ a))))),0):=by
     have hk2:=hk
     unfold mQ at hk2
     simp only[pP,oP,dP] at hk2 ⊢
     unfold cmpf
     rw[hk2.1,hk2.2]
     rfl
    rw[e]
    have k1:=eS hk.1
    have k2:=eS hk.2
    by_cases na:nvOK a
    ·have nb:¬nvOK b:=fun e=>hv ⟨na,e⟩
     (repeat'((conv=>whnf);first|refine Zg fun _=>?_|refine Zy ?_|refine Zm ?_|fail))
     refine Need.mk ⟨⟨r1,r2⟩,s1,s2⟩ ?_
     (repeat'((conv=>whnf);first|refine Zy ?_|refine Zm ?_|fail))
     refine Need.mk ⟨k1,k2⟩ ?_
     exact ZF
    (repeat'((conv=>whnf);first|refine Zg fun _=>?_|refine Zy ?_|refine Zm ?_|fail))
    refine Need.mk ⟨⟨r1,r2⟩,s1,s2⟩ ?_
    (repeat'((conv=>whnf);first|refine Zy ?_|refine Zm ?_|fail))
    refine Need.mk ⟨k1,k2⟩ ?_
    exact ZF
   have e:cmpf (valQ a) (valQ b)=(0,4):=by
    unfold mQ at hk
    simp only[pP,oP] at hk
    unfold cmpf
    rw[aD]
    apply aL
    intro hn
    apply hk
    simp only[cJ,not_or,eY] at hn
    exact hn
   rw[e]
   by_cases na:nvOK a
   ·have nb:¬nvOK b:=fun e=>hv ⟨na,e⟩
    (repeat'((conv=>whnf);first|refine Zg fun _=>?_|refine Zy ?_|refine Zm ?_|fail))
    refine Need.mk ⟨⟨r1,r2⟩,s1,s2⟩ ?_
    exact ZRF
   (repeat'((conv=>whnf);first|refine Zg fun _=>?_|refine Zy ?_|refine Zm ?_|fail))
   refine Need.mk ⟨⟨r1,r2⟩,s1,s2⟩ ?_
   exact ZRF
  rw[aC (by simpa using hca),aD hcb]
  by_cases na:nvOK a
  ·by_cases nb:nvOK b
   ·exact absurd ⟨na,nb⟩ hv
   exact ZRF
  exact ZRF
 rw[aD hca]
 by_cases na:nvOK a
 ·exact absurd (qR ⟨(iX na).1,(iX na).2.2.2⟩) hca
 exact ZRF
abbrev B6:Nat:=1000000
def c143:Con:=bB 265 true fun args K=>match args with | [.seq (.int .i64) l,.val (.int .i64 i)]=>Need (0<=i) (Ix i fun j=>K (I (l.getD j 0))) | _=>False
def c145:Con:=bB 267 false fun args K=>match args with | [.seq (.int .i64) a,.seq (.int .i64) b]=>Need (InB B6 a/\InB B6 b/\a.length<=100000/\b.length<=100000) (K (Ls (aZ B6 (valB B6 a*valB B6 b).toNat))) | _=>False
end RB
end
section
namespace IB
end IB
end
section
open Go Go.Proofs Go.Eng Go.Shelf IB Go.Lib Go.RowKit
namespace RB
def r9 (n:Nat) (a:List Int):Nat->SV
 | 0=>.ref 3 1
 | m+1=>Ls (aZ B6 (divK B6 n a (m+1)).2.toNat)
def c85:Con:=bB 159 true fun args K=>match args with | [.str s]=>Need ((∀c∈s,eU c)/\s.length<=18) (K (I (cD s))) | _=>False
noncomputable instance (s:Bx):Decidable (okD s):=Cp
abbrev U (l:List Int):HO:=.vec 1 (.int .u8) l 5
theorem i0:itoa (valB B6 [])= [48]:=by show itoa 0= [48];simp[itoa,decDigits]
def badQ (s:Bx):Prop:=60<s.length\/chkQ s≠0
noncomputable instance (s:Bx):Decidable (badQ s):=Cp
def fineL (l:List (Bx)):Prop:=∀a∈l,a.length<=60/\chkQ a=0
noncomputable instance (l:List (Bx)):Decidable (fineL l):=Cp
theorem aVq {q:Rat} (h1:q.num.natAbs<10^40) (h2:q.den<10^40):chkQ (numS q)=0:=by
 refine aFm (by rw[jH]) ?_ ?_
 ·rw[rI]
  rw[gM]
  have:=nO 39 q.num.natAbs h1
  omega
 rw[vW]
 split
 ·simp
 have:=nO 39 q.den h2
 simp;omega
def Sz (k:Nat) (q:Rat):Prop:=q.num.natAbs<10^k/\q.den<10^k
theorem nR {i j:Nat} (h:i<=j):(10:Nat)^i<=10^j:=cL (by omega) h
theorem Sz.mono {i j:Nat} {q:Rat} (h:Sz i q) (hij:i<=j):Sz j q:=
 ⟨bJ h.1 (nR hij),bJ h.2 (nR hij)⟩
theorem rL {n k:Nat} (hk:0<k) (h:n<10^k):(decDigits n).length<=k:=by
 obtain ⟨m,rfl⟩:∃m,k=m+1:=⟨k-1,by omega⟩
 exact nO m n h
theorem lG {n:Int} {k:Nat} (hk:0<k/\k<=300) (h:n.natAbs<10^k):lim n=false:=by
 unfold lim
 have:=rL hk.1 h
 simp;omega
theorem aQd {n k:Nat} (h:(decDigits n).length<=k):n<10^k:=by
 have h1:=rH (decDigits n) (fun c hc=>uH _ c hc)
 rw[kZ] at h1
 exact bJ h1 (nR h)
theorem yZ {q:Rat} {k:Nat} (h:Sz k q) (hk:0<k/\k<=300):chkQ (numS q)=0:=by
 refine aFm (by rw[jH]) ?_ ?_
 ·rw[rI,gM]
  have:=rL hk.1 h.1
  omega
 rw[vW]
 split
 ·simp
 have:=rL hk.1 h.2
 simp;omega
theorem uL {a b i j:Nat} (ha:a<10^i) (hb:b<10^j):a*b<10^ (i+j):=by
 rw[sA]
 exact eW ha hb
theorem yB (n:Int) (g:Nat):(n/(g:Int)).natAbs<=n.natAbs:=by
 rcases dN g with e | e
 ·subst e;simp
 have h1:(1:Int)<=g:=by omega
 rcases Int.le_total 0 n with h | h
 ·have h2:=tH (g:Int) h
  have h3:=eA h (show (0:Int)<=g by omega)
  omega
 have h2:n/(g:Int)<=0:=by
  have:=tJ (show (0:Int)<g by omega) h
  simpa using this
 have h3:n<=n/(g:Int):=by
  rw[kU (by omega)]
  have:=kI (a:=n) h h1
  rw[eF] at this
  omega
 omega
theorem aMb {n:Int} {d k:Nat} (hd:d≠0) (h1:n.natAbs<10^k) (h2:d<10^k):Sz k (mkRat n d):=by
 refine ⟨?_,?_⟩
 ·rw[Rat.num_mkRat,aC hd]
  refine cP ?_ h1
  exact yB _ _
 rw[Rat.den_mkRat,aC hd]
 exact cP (jK _ _) h2
theorem rX {x y:Int} {k:Nat} (hx:x.natAbs<10^k) (hy:y.natAbs<10^k):(x+y).natAbs<10^ (k+1)/\(x-y).natAbs<10^ (k+1):=by
 rw[jR]
 omega
section
variable {p q:Rat} {i j:Nat}
theorem Sz.cross (hp:Sz i p) (hq:Sz j q):(p.num*q.den).natAbs<10^ (i+j)/\(q.num*p.den).natAbs<10^ (i+j)/\(p.num*q.num).natAbs<10^ (i+j)/\p.den*q.den<10^ (i+j):=by
 refine ⟨?_,?_,?_,uL hp.2 hq.2⟩
 ·rw[dH];exact uL hp.1 hq.2
 ·rw[dH,Nat.add_comm];exact uL hq.1 hp.2
 rw[dH];exact uL hp.1 hq.1
theorem aJo (p q:Rat):p.den*q.den≠0:=Nat.mul_ne_zero p.den_nz q.den_nz
theorem Sz.add (hp:Sz i p) (hq:Sz j q):Sz (i+j+1) (p+q):=by
 obtain ⟨h1,h2,h3,h4⟩:=hp.cross hq
 rw[aG7]
 exact aMb (aJo p q) (rX h1 h2).1 (bJ h4 (nR (by omega)))
theorem Sz.sub (hp:Sz i p) (hq:Sz j q):Sz (i+j+1) (p-q):=by
 obtain ⟨h1,h2,h3,h4⟩:=hp.cross hq
 rw[aBj]
 exact aMb (aJo p q) (rX h1 h2).2 (bJ h4 (nR (by omega)))
theorem Sz.mul (hp:Sz i p) (hq:Sz j q):Sz (i+j) (p*q):=by
 obtain ⟨h1,h2,h3,h4⟩:=hp.cross hq
 rw[aG8]
 exact aMb (aJo p q) h3 h4
theorem aC0 {f:Rat->Rat->Bx × Int} (hp:Sz i p) (hq:Sz j q) (hi:0<i/\i<=300) (hj:0<j/\j<=300):iQ (numS p) (numS q) f=f p q:=by
 unfold iQ
 rw[aC (by rw[yZ hp hi];simp),aC (by rw[yZ hq hj];simp),jH,jH]
theorem aJp (hp:Sz i p) (hq:Sz j q) (hi:0<i) (hj:0<j) (h:i+j+1<=300):addQ (numS p) (numS q)=(numS (p+q),0):=by
 obtain ⟨h1,h2,h3,h4⟩:=hp.cross hq
 unfold addQ
 rw[aC0 hp hq ⟨hi,by omega⟩ ⟨hj,by omega⟩,aC]
 simp only[cJ,not_or,eY]
 exact ⟨⟨⟨lG ⟨by omega,by omega⟩ h1,lG ⟨by omega,by omega⟩ h2⟩,lG (k:=i+j+1) ⟨by omega,h⟩ (rX h1 h2).1⟩,lG (k:=i+j) ⟨by omega,by omega⟩ (by rw[<- gG,dZ];exact h4)⟩
theorem mT (hp:Sz i p) (hq:Sz j q) (hi:0<i) (hj:0<j) (h:i+j+1<=300):subQ (numS p) (numS q)=(numS (p-q),0):=by
 obtain ⟨h1,h2,h3,h4⟩:=hp.cross hq
 unfold subQ
 rw[aC0 hp hq ⟨hi,by omega⟩ ⟨hj,by omega⟩,aC]
 simp only[cJ,not_or,eY]
 exact ⟨⟨⟨lG ⟨by omega,by omega⟩ h1,lG ⟨by omega,by omega⟩ h2⟩,lG (k:=i+j+1) ⟨by omega,h⟩ (rX h1 h2).2⟩,lG (k:=i+j) ⟨by omega,by omega⟩ (by rw[<- gG,dZ];exact h4)⟩
theorem qG (hp:Sz i p) (hq:Sz j q) (hi:0<i) (hj:0<j) (h:i+j<=300):mulQ (numS p) (numS q)=(numS (p*q),0):=by
 obtain ⟨h1,h2,h3,h4⟩:=hp.cross hq
 unfold mulQ
 rw[aC0 hp hq ⟨hi,by omega⟩ ⟨hj,by omega⟩,aC]
 simp only[cJ,not_or,eY]
 exact ⟨lG ⟨by omega,h⟩ h3,lG (k:=i+j) ⟨by omega,by omega⟩ (by rw[<- gG,dZ];exact h4)⟩
theorem aQe (hp:Sz i p) (hq:Sz j q) (hi:0<i) (hj:0<j) (h:i+j<=300) (h0:q≠0):divQ (numS p) (numS q)=(numS (p/q),0):=by
 obtain ⟨h1,h2,h3,h4⟩:=hp.cross hq
 unfold divQ
 rw[aC0 hp hq ⟨hi,by omega⟩ ⟨hj,by omega⟩,aC h0,aC]
 simp only[cJ,not_or,eY]
 exact ⟨lG ⟨by omega,h⟩ h1,lG ⟨by omega,h⟩ h2⟩
theorem aXi (hp:Sz i p) (hq:Sz j q) (hi:0<i) (hj:0<j) (h:i+j<=300):cmpQ (numS p) (numS q)=(cmpI (p.num*q.den) (q.num*p.den),0):=by
 obtain ⟨h1,h2,h3,h4⟩:=hp.cross hq
 unfold cmpQ
 rw[aC (by rw[yZ hp ⟨hi,by omega⟩];simp),aC (by rw[yZ hq ⟨hj,by omega⟩];simp),jH,jH]
 unfold cmpf
 rw[aC]
 simp only[cJ,not_or,eY]
 exact ⟨lG ⟨by omega,h⟩ h1,lG ⟨by omega,h⟩ h2⟩
end
theorem sz1:Sz 1 (1:Rat):=⟨by decide,by decide⟩
noncomputable def cmpR (p q:Rat):Int:=if p<q then -1 else if q<p then 1 else 0
theorem sz0:Sz 1 (0:Rat):=⟨by decide,by decide⟩
def addS (p:Prop) (m:Nat) (q:Prop) (n:Nat) [Decidable p] [Decidable q]:Prop:=addP p m q n/\addN p m q n≠0
instance (p:Prop) (m:Nat) (q:Prop) (n:Nat) [Decidable p] [Decidable q]:Decidable (addS p m q n):=by unfold addS;infer_instance
def aVr (a:Bx):Prop:=(82<a.length/\a.length<602)\/700<a.length
instance (a:Bx):Decidable (aVr a):=by unfold aVr;infer_instance
theorem Sz.digs {q:Rat} (h:Sz 300 q):(decDigits q.num.natAbs).length<=300/\(decDigits q.den).length<=300:=⟨rL (k:=300) (by decide) h.1,rL (k:=300) (by decide) h.2⟩
def smR (q:Rat):Prop:=(decDigits q.num.natAbs).length<=9/\(q.den=1\/(decDigits q.den).length<=9)
instance (q:Rat):Decidable (smR q):=by unfold smR;infer_instance
abbrev ok4 (a b c d:Bx):Prop:=(chkI a=0/\chkI b=0)/\chkI c=0/\chkI d=0
def c80:Con:=bB 170 true fun args K=>match args with
 | [.str n,.str d,.str m,.str c]=>Need (ok4 n m d c/\valI d*valI c≠0) (Br (lim (valI n*valI m)=true\/lim (valI d*valI c)=true) (K (.tup [S [],I 4])) (K (.tup [S (numS (Rat.divInt (valI n*valI m) (valI d*valI c))),I 0])))
 | _=>False
def longL (l:List (Bx)):Prop:=(∃a∈l,aVr a)\/8<l.length
noncomputable instance (l:List (Bx)):Decidable (longL l):=Cp
end RB
end
section
namespace RB
section
variable {ax ay az bx by' bz cx cy cz P Q R:Rat}
end
end RB
end
section
open Go Go.Proofs Go.Eng Go.Shelf IB Go.Lib Go.RowKit
namespace RB
def d36 (q:Rat):Prop:=(decDigits q.num.natAbs).length<=36/\(decDigits q.den).length<=36
instance (q:Rat):Decidable (d36 q):=inferInstanceAs (Decidable (_/\ _))
noncomputable def chkP (a:Bx):Int:=if chkQ a≠0 then chkQ a else if d36 (valQ a) then 0 else 4
def badP (l:List (Bx)):Prop:=∃a∈l,chkP a≠0
noncomputable instance (l:List (Bx)):Decidable (badP l):=Cp
section
variable {p q r:Rat} {i j k:Nat}
end
abbrev V3:=Rat × Rat × Rat
theorem aRk (a b:Rat):(a<b/\cmpR a b= -1)\/(a=b/\cmpR a b=0)\/(b<a/\cmpR a b=1):=by
 unfold cmpR
 by_cases h1:a<b
 ·rw[aD h1];exact .inl ⟨h1,rfl⟩
 rw[aC h1]
 by_cases h2:b<a
 ·rw[aD h2];exact .inr (.inr ⟨h2,rfl⟩)
 rw[aC h2];exact .inr (.inl ⟨Rat.le_antisymm (Rat.not_lt.1 h2) (Rat.not_lt.1 h1),rfl⟩)
theorem aUu {a b:Rat}:cmpR a b=0↔a=b:=by
 rcases aRk a b with ⟨h,e⟩ | ⟨h,e⟩ | ⟨h,e⟩
 ·rw[e];exact ⟨fun h=>absurd h (by decide),fun e2=>absurd (e2 ▸ h) Rat.lt_irrefl⟩
 ·rw[e];exact ⟨fun _=>h,fun _=>rfl⟩
 rw[e];exact ⟨fun h=>absurd h (by decide),fun e2=>absurd (e2 ▸ h) Rat.lt_irrefl⟩
def parR (d v:V3):Prop:=d.2.1*v.2.2-d.2.2*v.2.1=0/\d.2.2*v.1-d.1*v.2.2=0/\d.1*v.2.1-d.2.1*v.1=0
noncomputable instance (d v:V3):Decidable (parR d v):=inferInstanceAs (Decidable (_/\ _/\ _))
noncomputable def sub3 (a b:V3):V3:=(a.1-b.1,a.2.1-b.2.1,a.2.2-b.2.2)
noncomputable def lexR (a b:V3):Int:=if cmpR a.1 b.1≠0 then cmpR a.1 b.1 else if cmpR a.2.1 b.2.1≠0 then cmpR a.2.1 b.2.1 else cmpR a.2.2 b.2.2
noncomputable def wiR (a b n:Rat):Prop:=cmpR a n<=0/\cmpR n b<=0\/0<=cmpR a n/\0<=cmpR n b
noncomputable instance (a b n:Rat):Decidable (wiR a b n):=inferInstanceAs (Decidable (_\/ _))
noncomputable def mtO (F T q:V3):Prop:=parR (sub3 T F) (sub3 q F)/\(lexR F q=0\/lexR q T=0\/lexR F q=lexR q T)
noncomputable def mtR (F T q:V3):Prop:=parR (sub3 T F) (sub3 q F)/\wiR F.1 T.1 q.1/\wiR F.2.1 T.2.1 q.2.1/\wiR F.2.2 T.2.2 q.2.2
noncomputable instance (F T q:V3):Decidable (mtO F T q):=inferInstanceAs (Decidable (_/\ _))
noncomputable instance (F T q:V3):Decidable (mtR F T q):=inferInstanceAs (Decidable (_/\ _))
abbrev V2:=Rat × Rat
noncomputable def aLz (a b c:V2):Int:=cmpR ((b.1-a.1)*(c.2-a.2)) ((b.2-a.2)*(c.1-a.1))
noncomputable def ordR (p q:V2):Int:=if cmpR p.1 q.1≠0 then cmpR p.1 q.1 else cmpR p.2 q.2
noncomputable def sgO (a b q:V2):Int:=
 if aLz a b q≠0 then 0 else
 let low:=if 0<ordR a b then b else a
 let high:=if 0<ordR a b then a else b
 let f:=if 0<ordR q low then q else low
 let t:=if ordR q high<0 then q else high
 1-ordR f t
noncomputable def onR (a b q:V2):Prop:=cmpR q.1 a.1*cmpR q.1 b.1<=0/\cmpR q.2 a.2*cmpR q.2 b.2<=0
noncomputable instance (a b q:V2):Decidable (onR a b q):=inferInstanceAs (Decidable (_/\ _))
abbrev Sp:=Bx × Bx × Bx
abbrev Mem:=Int × Int × Int × Sp × Sp × Int × Int
abbrev Lin:=Int × Sp × Sp × Int × Int
abbrev tSp:Ty:=.pair .str (.pair .str .str)
abbrev tMem:Ty:=.pair (.int .i64) (.pair (.int .i64) (.pair (.int .i64) (.pair tSp (.pair tSp (.pair (.int .i64) (.int .i64))))))
abbrev tLin:Ty:=.pair (.int .i64) (.pair tSp (.pair tSp (.pair (.int .i64) (.int .i64))))
abbrev mem0:Mem:=(0,0,0,([],[],[]),([],[],[]),0,0)
abbrev lin0:Lin:=(0,([],[],[]),([],[],[]),0,0)
noncomputable def vS (s:Sp):V3:=(valQ s.1,valQ s.2.1,valQ s.2.2)
noncomputable def v2 (s:Sp):V2:=(valQ s.1,valQ s.2.1)
noncomputable def chkS (s:Sp):Int:=if chkQ s.1≠0 then chkQ s.1 else if chkQ s.2.1≠0 then chkQ s.2.1 else chkQ s.2.2
theorem rW {s:Sp}:chkS s=0↔chkQ s.1=0/\chkQ s.2.1=0/\chkQ s.2.2=0:=by
 unfold chkS
 by_cases h1:chkQ s.1=0
 ·rw[aC (dC h1)]
  by_cases h2:chkQ s.2.1=0
  ·rw[aC (dC h2)];exact ⟨fun h=>⟨h1,h2,h⟩,fun h=>h.2.2⟩
  rw[aD h2];exact ⟨fun h=>absurd h h2,fun h=>absurd h.2.1 h2⟩
 rw[aD h1];exact ⟨fun h=>absurd h h1,fun h=>absurd h.1 h1⟩
def dK (k:Nat) (q:Rat):Prop:=(decDigits q.num.natAbs).length<=k/\(decDigits q.den).length<=k
instance (k:Nat) (q:Rat):Decidable (dK k q):=inferInstanceAs (Decidable (_/\ _))
theorem aHe {k:Nat} {q:Rat} (h:dK k q):Sz k q:=⟨aQd h.1,aQd h.2⟩
def dS (k:Nat) (s:Sp):Prop:=dK k (valQ s.1)/\dK k (valQ s.2.1)/\dK k (valQ s.2.2)
noncomputable instance (k:Nat) (s:Sp):Decidable (dS k s):=Cp
def okS (s:Sp):Prop:=chkS s=0/\dS 36 s
noncomputable instance (s:Sp):Decidable (okS s):=Cp
theorem aCw {s:Sp} (h:okS s):(s.1=numS (valQ s.1)/\s.2.1=numS (valQ s.2.1)/\s.2.2=numS (valQ s.2.2))/\Sz 36 (valQ s.1)/\Sz 36 (valQ s.2.1)/\Sz 36 (valQ s.2.2):=by
 obtain ⟨h1,h2,h3,h4⟩:=h
 obtain ⟨c1,c2,c3⟩:=rW.1 h1
 exact ⟨⟨(aCv c1).1,(aCv c2).1,(aCv c3).1⟩,aHe h2,aHe h3,aHe h4⟩
theorem aWw {s t:Sp} (h1:okS s) (h2:okS t):s=t↔vS s=vS t:=by
 constructor
 ·rintro rfl;rfl
 intro h
 simp only[vS,fT] at h
 obtain ⟨⟨a1,a2,a3⟩,_⟩:=aCw h1
 obtain ⟨⟨b1,b2,b3⟩,_⟩:=aCw h2
 refine gI (by rw[a1,b1,h.1]) (gI ?_ ?_)
 ·rw[a2,b2,h.2.1]
 rw[a3,b3,h.2.2]
noncomputable def memE (m:Mem):Int:=
 if m.1<1\/12<m.1 then 8
 else if m.2.1<0\/m.2.2.1 < -1 then 19
 else if (m.2.2.2.2.2.1<1\/1000<m.2.2.2.2.2.1)\/(m.2.2.2.2.2.2<1\/1000<m.2.2.2.2.2.2) then 2
 else if chkS m.2.2.2.1≠0 then chkS m.2.2.2.1
 else if chkS m.2.2.2.2.1≠0 then chkS m.2.2.2.2.1
 else if ¬dS 36 m.2.2.2.1\/¬dS 36 m.2.2.2.2.1 then 4
 else if m.2.2.2.1=m.2.2.2.2.1 then 12 else 0
theorem nS {m:Mem} (h:memE m=0):(1<=m.1/\m.1<=12)/\okS m.2.2.2.1/\okS m.2.2.2.2.1/\vS m.2.2.2.1≠vS m.2.2.2.2.1:=by
 unfold memE at h
 split at h
 ·exact absurd h (by decide)
 rename_i h1
 split at h
 ·exact absurd h (by decide)
 split at h
 ·exact absurd h (by decide)
 split at h
 ·rename_i h4;exact absurd h h4
 rename_i h4
 split at h
 ·rename_i h5;exact absurd h h5
 rename_i h5
 split at h
 ·exact absurd h (by decide)
 rename_i h6
 split at h
 ·exact absurd h (by decide)
 rename_i h7
 have o1:okS m.2.2.2.1:=⟨bD.1 h4,bD.1 fun hn=>h6 (.inl hn)⟩
 have o2:okS m.2.2.2.2.1:=⟨bD.1 h5,bD.1 fun hn=>h6 (.inr hn)⟩
 exact ⟨by omega,o1,o2,fun e=>h7 ((aWw o1 o2).2 e)⟩
def metP (n:Mem) (s:Sp):Prop:=mtO (vS n.2.2.2.1) (vS n.2.2.2.2.1) (vS s)
noncomputable instance (n:Mem) (s:Sp):Decidable (metP n s):=Cp
def mnR (u v:V3):Nat->Rat
 | 0=>u.1*v.2.1-u.2.1*v.1
 | 1=>u.2.1*v.2.2-u.2.2*v.2.1
 | _=>u.2.2*v.1-u.1*v.2.2
def aNx (a u:V3) (s:Rat):V3:=(a.1+u.1*s,a.2.1+u.2.1*s,a.2.2+u.2.2*s)
def yW (s:Rat):Prop:=0<=cmpR s 0/\cmpR s 1<=0
noncomputable instance (s:Rat):Decidable (yW s):=inferInstanceAs (Decidable (_/\ _))
def crAt (F u G v w:V3) (i:Nat):Prop:=aNx F u (mnR w v i/mnR u v i)=aNx G v (mnR w u i/mnR u v i)/\yW (mnR w v i/mnR u v i)/\yW (mnR w u i/mnR u v i)
noncomputable instance (F u G v w:V3) (i:Nat):Decidable (crAt F u G v w i):=inferInstanceAs (Decidable (_/\ _))
def crG (F u G v w:V3):Prop:=if mnR u v 0≠0 then crAt F u G v w 0 else if mnR u v 1≠0 then crAt F u G v w 1 else if mnR u v 2≠0 then crAt F u G v w 2 else False
def crP (m n:Mem):Prop:=crG (vS m.2.2.2.1) (sub3 (vS m.2.2.2.2.1) (vS m.2.2.2.1)) (vS n.2.2.2.1) (sub3 (vS n.2.2.2.2.1) (vS n.2.2.2.1)) (sub3 (vS n.2.2.2.1) (vS m.2.2.2.1))
noncomputable def crE (m n:Mem):Int:=if memE m≠0\/memE n≠0 then 1 else if ((¬dS 12 m.2.2.2.1\/¬dS 12 m.2.2.2.2.1)\/¬dS 12 n.2.2.2.1)\/¬dS 12 n.2.2.2.2.1 then 4 else 0
def crB (m n:Mem):Prop:=crE m n=0/\crP m n
noncomputable instance (m n:Mem):Decidable (crB m n):=Cp
def rafP (a:Int):Prop:=1<=a/\a<=5
def sloP (a:Int):Prop:=(1<=a/\a<=5)\/a=11
def hipP (a:Int):Prop:=a=6\/a=7
instance (a:Int):Decidable (rafP a):=inferInstanceAs (Decidable (_/\ _))
instance (a:Int):Decidable (sloP a):=inferInstanceAs (Decidable (_\/ _))
instance (a:Int):Decidable (hipP a):=inferInstanceAs (Decidable (_\/ _))
def qK (a b:Int):Nat:=
 if sloP a/\(b=10\/b=9) then 1 else if sloP a/\(b=8\/hipP b) then 2 else if rafP a/\b=12 then 3 else if hipP a/\b=8 then 4 else if hipP a/\b=10 then 5 else if a=9/\hipP b then 2 else if a=12/\b=11 then 3 else 0
def tchP (m n:Mem):Prop:=metP n m.2.2.2.1\/metP n m.2.2.2.2.1
noncomputable instance (m n:Mem):Decidable (tchP m n):=Cp
def rstP (m n:Mem):Prop:=match qK m.1 n.1 with
 | 1=>m.2.1=n.2.1/\crB m n
 | 2=>tchP m n
 | 3=>m.2.1=n.2.1/\tchP m n
 | 4=>metP n m.2.2.2.2.1
 | 5=>crB m n
 | _=>False
noncomputable instance (m n:Mem):Decidable (rstP m n):=Cp
noncomputable def rstE (m n:Mem):Int:=match qK m.1 n.1 with
 | 1=>if m.2.1=n.2.1 then crE m n else 0
 | 5=>crE m n
 | _=>0
noncomputable def rowR (l:List Mem) (i:Nat):Nat->List (Int × Int)
 | 0=>[]
 | k+1=>if k≠i/\rstP (l.getD i mem0) (l.getD k mem0) then rowR l i k++ [((i:Int),(k:Int))] else rowR l i k
noncomputable def errR (l:List Mem) (i:Nat):Nat->Nat->Int
 | 0,_=>0
 | n+1,k=>if k≠i/\rstE (l.getD i mem0) (l.getD k mem0)≠0 then rstE (l.getD i mem0) (l.getD k mem0) else errR l i n (k+1)
def iJ (l:List Mem) (i n:Nat):Prop:=∃k,k<n/\k≠i/\rstP (l.getD i mem0) (l.getD k mem0)/\(l.getD k mem0).1=10
noncomputable instance (l:List Mem) (i n:Nat):Decidable (iJ l i n):=Cp
def latP (ls:List Lin) (s:Sp) (ks:List Int):Prop:=∃j,j<ls.length/\(ls.getD j lin0).1∈ks/\0<sgO (v2 (ls.getD j lin0).2.1) (v2 (ls.getD j lin0).2.2.1) (v2 s)
noncomputable instance (ls:List Lin) (s:Sp) (ks:List Int):Decidable (latP ls s ks):=Cp
def walP (ls:List Lin) (m:Mem) (pl:Prop):Prop:=
 if m.1=10 then True else if sloP m.1\/hipP m.1 then ¬pl/\latP ls m.2.2.2.1 [7] else if m.1=8\/m.1=9 then latP ls m.2.2.2.1 [4,5,8]\/latP ls m.2.2.2.2.1 [4,5,8] else False
noncomputable instance (ls:List Lin) (m:Mem) (pl:Prop):Decidable (walP ls m pl):=Cp
noncomputable def outR (ls:List Lin) (l:List Mem):Nat->List (Int × Int)
 | 0=>[]
 | i+1=>(if walP ls (l.getD i mem0) (iJ l i l.length) then outR ls l i++ [((i:Int),(-1:Int))] else outR ls l i)++rowR l i l.length
noncomputable def errS (l:List Mem):Nat->Nat->Int
 | 0,_=>0
 | n+1,i=>if errR l i l.length 0≠0 then errR l i l.length 0 else errS l n (i+1)
def badL (ls:List Lin):Prop:=∃j,j<ls.length/\¬(okS (ls.getD j lin0).2.1/\okS (ls.getD j lin0).2.2.1)
def badM (l:List Mem):Prop:=∃j,j<l.length/\memE (l.getD j mem0)≠0
noncomputable instance (ls:List Lin):Decidable (badL ls):=Cp
noncomputable instance (l:List Mem):Decidable (badM l):=Cp
noncomputable def ofR (ls:List Lin) (l:List Mem):List (Int × Int) × Int:=
 if 512<l.length\/4096<ls.length then ([],4)
 else if badL ls then ([],1)
 else if badM l then ([],1)
 else if errS l l.length 0≠0 then ([],errS l l.length 0)
 else if 4096<(outR ls l l.length).length then ([],4)
 else (outR ls l l.length,0)
theorem aUv {l:List Mem} {i k:Nat} (hk:k<l.length) (h:k≠i/\rstE (l.getD i mem0) (l.getD k mem0)≠0):errR l i (l.length-k) k=rstE (l.getD i mem0) (l.getD k mem0):=by
 obtain ⟨n,e⟩:∃n,l.length-k=n+1:=⟨l.length-k-1,by omega⟩
 rw[e];exact aD h
theorem aP2 {l:List Mem} {i k:Nat} (hk:k<l.length) (h:¬(k≠i/\rstE (l.getD i mem0) (l.getD k mem0)≠0)):errR l i (l.length-k) k=errR l i (l.length-(k+1)) (k+1):=by
 obtain ⟨n,e⟩:∃n,l.length-k=n+1:=⟨l.length-k-1,by omega⟩
 rw[e,show l.length-(k+1)=n by omega];exact aC h
theorem aUw {l:List Mem} {i:Nat}:errR l i (l.length-l.length) l.length=0:=by rw[kP];rfl
theorem aUx {l:List Mem} {i:Nat} (hi:i<l.length) (h:errR l i l.length 0≠0):errS l (l.length-i) i=errR l i l.length 0:=by
 obtain ⟨n,e⟩:∃n,l.length-i=n+1:=⟨l.length-i-1,by omega⟩
 rw[e];exact aD h
theorem aWx {l:List Mem} {i:Nat} (hi:i<l.length) (h:errR l i l.length 0=0):errS l (l.length-i) i=errS l (l.length-(i+1)) (i+1):=by
 obtain ⟨n,e⟩:∃n,l.length-i=n+1:=⟨l.length-i-1,by omega⟩
 rw[e,show l.length-(i+1)=n by omega];exact aC fun h'=>h' h
theorem aUy {l:List Mem}:errS l (l.length-l.length) l.length=0:=by rw[kP];rfl
theorem aFc (l:List Mem) (i:Nat):∀k,(rowR l i k).length<=k
 | 0=>aM _
 | k+1=>by
  have:=aFc l i k
  unfold rowR
  split
  ·rw[aQ,cG];omega
  omega
theorem aL0 (ls:List Lin) (l:List Mem):∀i,(outR ls l i).length<=i*(l.length+1)
 | 0=>aI _
 | i+1=>by
  have h1:=aL0 ls l i
  have h2:=aFc l i l.length
  unfold outR
  rw[aQ,bU,dV]
  split
  ·rw[aQ,cG];omega
  omega
theorem platP_succ {l:List Mem} {i k:Nat}:iJ l i (k+1)↔iJ l i k\/(k≠i/\rstP (l.getD i mem0) (l.getD k mem0)/\(l.getD k mem0).1=10):=by
 constructor
 ·rintro ⟨j,h1,h2⟩
  by_cases e:j=k
  ·subst e;exact .inr h2
  exact .inl ⟨j,by omega,h2⟩
 rintro (⟨j,h1,h2⟩ | h)
 ·exact ⟨j,by omega,h2⟩
 exact ⟨k,cS _,h⟩
theorem aFd {l:List Mem} {i:Nat}:¬iJ l i 0:=fun ⟨j,h,_⟩=>absurd h (bG _)
theorem aAk (l:List Mem) (i:Nat) (x:Int × Int):∀n,x∈rowR l i n↔∃k:Nat,k<n/\k≠i/\rstP (l.getD i mem0) (l.getD k mem0)/\x=((i:Int),(k:Int))
 | 0=>⟨fun h=>(by cases h),fun ⟨k,h,_⟩=>absurd h (bG _)⟩
 | n+1=>by
  have ih:=aAk l i x n
  unfold rowR
  by_cases hc:n≠i/\rstP (l.getD i mem0) (l.getD n mem0)
  ·rw[aD hc,bK,bC,ih]
   constructor
   ·rintro (⟨k,h1,h2⟩ | rfl)
    ·exact ⟨k,by omega,h2⟩
    exact ⟨n,cS _,hc.1,hc.2,rfl⟩
   rintro ⟨k,h1,h2,h3,h4⟩
   by_cases e:k=n
   ·subst e;exact .inr h4
   exact .inl ⟨k,by omega,h2,h3,h4⟩
  rw[aC hc,ih]
  constructor
  ·rintro ⟨k,h1,h2⟩;exact ⟨k,by omega,h2⟩
  rintro ⟨k,h1,h2,h3,h4⟩
  by_cases e:k=n
  ·subst e;exact absurd ⟨h2,h3⟩ hc
  exact ⟨k,by omega,h2,h3,h4⟩
theorem aFe (ls:List Lin) (l:List Mem) (x:Int × Int):∀n,x∈outR ls l n↔∃i:Nat,i<n/\((walP ls (l.getD i mem0) (iJ l i l.length)/\x=((i:Int),(-1:Int)))\/∃k:Nat,k<l.length/\k≠i/\rstP (l.getD i mem0) (l.getD k mem0)/\x=((i:Int),(k:Int)))
 | 0=>⟨fun h=>(by cases h),fun ⟨k,h,_⟩=>absurd h (bG _)⟩
 | n+1=>by
  have ih:=aFe ls l x n
  unfold outR
  rw[bK,aAk]
  have e1:(x∈(if walP ls (l.getD n mem0) (iJ l n l.length) then outR ls l n++ [((n:Int),(-1:Int))] else outR ls l n))↔x∈outR ls l n\/(walP ls (l.getD n mem0) (iJ l n l.length)/\x=((n:Int),(-1:Int))):=by
   by_cases hc:walP ls (l.getD n mem0) (iJ l n l.length)
   ·rw[aD hc,bK,bC];exact ⟨fun h=>h.imp id fun h=>⟨hc,h⟩,fun h=>h.imp id fun h=>h.2⟩
   rw[aC hc];exact ⟨.inl,fun h=>h.elim id fun h=>absurd h.1 hc⟩
  rw[e1,ih]
  constructor
  ·rintro ((⟨i,h1,h2⟩ | h) | h)
   ·exact ⟨i,by omega,h2⟩
   ·exact ⟨n,cS _,.inl h⟩
   exact ⟨n,cS _,.inr h⟩
  rintro ⟨i,h1,h2⟩
  by_cases e:i=n
  ·subst e
   rcases h2 with h2 | h2
   ·exact .inl (.inr h2)
   exact .inr h2
  exact .inl (.inl ⟨i,by omega,h2⟩)
def ltP (a b:Int × Int):Prop:=a.1<b.1\/a.1=b.1/\a.2<b.2
theorem aL1 (l:List Mem) (i:Nat):∀n,(rowR l i n).Pairwise ltP
 | 0=>List.Pairwise.nil
 | n+1=>by
  have ih:=aL1 l i n
  unfold rowR
  split
  ·refine fR.2 ⟨ih,kD _ _,fun a ha b hb=>?_⟩
   rw[bC.1 hb]
   obtain ⟨k,h1,_,_,rfl⟩:=(aAk l i a n).1 ha
   exact .inr ⟨rfl,by show (k:Int)<n;omega⟩
  exact ih
theorem aL2 (ls:List Lin) (l:List Mem):∀n,(outR ls l n).Pairwise ltP
 | 0=>List.Pairwise.nil
 | n+1=>by
  have ih:=aL2 ls l n
  have hlow:∀a∈outR ls l n,a.1<(n:Int):=fun a ha=>by
   obtain ⟨i,h1,h2⟩:=(aFe ls l a n).1 ha
   rcases h2 with ⟨_,rfl⟩ | ⟨k,_,_,_,rfl⟩
   ·show (i:Int)<n;omega
   show (i:Int)<n;omega
  have hrow:∀b∈rowR l n l.length,b.1=(n:Int)/\0<=b.2:=fun b hb=>by
   obtain ⟨k,_,_,_,rfl⟩:=(aAk l n b l.length).1 hb
   exact ⟨rfl,by show (0:Int)<=k;omega⟩
  unfold outR
  refine fR.2 ⟨?_,aL1 l n l.length,fun a ha b hb=>?_⟩
  ·split
   ·refine fR.2 ⟨ih,kD _ _,fun a ha b hb=>?_⟩
    rw[bC.1 hb]
    exact .inl (hlow a ha)
   exact ih
  obtain ⟨h1,h2⟩:=hrow b hb
  split at ha
  ·rcases bK.1 ha with ha | ha
   ·exact .inl (by rw[h1];exact hlow a ha)
   rw[bC.1 ha];exact .inr ⟨h1.symm,by show (-1:Int)<b.2;omega⟩
  exact .inl (by rw[h1];exact hlow a ha)
noncomputable def hgt (a b c x y:Bx):Rat:=valQ a*valQ x+valQ b*valQ y+valQ c
section
variable (p:Bx->Prop) [DecidablePred p]
end
def badS (s:Bx):Prop:=12<s.length\/chkQ s≠0
noncomputable instance (s:Bx):Decidable (badS s):=Cp
noncomputable instance:DecidablePred badS:=fun s=>Cp
def notP (s:Bx):Prop:=chkP s≠0
noncomputable instance:DecidablePred notP:=fun s=>Cp
def aZf (l:List (Bx)):Prop:=∀a∈l,a.length<=12/\chkQ a=0
noncomputable instance (l:List (Bx)):Decidable (aZf l):=Cp
theorem Sz.up {k:Nat} {q:Rat} (h:Sz 12 q) (hk:12<=k):Sz k q:=h.mono hk
def c3074:Con:=bB 74 true fun args K=>match args with | [.str a]=>K (.tup [S (ptQ a).1,S (ptQ a).2,I (chkQ a)]) | _=>False
theorem aN5:aS Tryz.prog c3074:=by
 refine kQ {} Tryz.func74 Tryz.ntmps74 (kc k46 kn) fun _ _ h=>?_
 split at h
 case h_2=>exact h.elim
 rename_i a
 refine kb h ?_
 unfold ptQ
 by_cases h:chkQ a=0
 ·rw[aD h,h]
  (repeat'((conv=>whnf);first|refine Zg fun _=>?_|apply pI|apply pJ|refine Zy ?_|fail))
  exact ZF
 rw[aC h]
 (repeat'((conv=>whnf);first|apply pI|apply pJ|refine Zm ?_|fail))
 exact ZF
section
variable {α:Type} (p:α->Prop)
open Classical in
noncomputable def ixG (l:List α):Int:=if l.findIdx (fun s=>decide (p s))<l.length then (l.findIdx (fun s=>decide (p s)):Int) else -1
open Classical in
theorem yC {l:List α} (d:α) {i:Nat} (hi:i<l.length) (hb:p (l.getD i d)) (h:∀j,j<i->¬p (l.getD j d)):ixG p l=i:=by
 have e:l.findIdx (fun s=>decide (p s))=i:=by
  rw[List.findIdx_eq hi]
  refine ⟨?_,fun j hj=>?_⟩
  ·rw[aB,aH hi] at hb
   exact mC hb
  have:=h j hj
  rw[aB,aH (by omega)] at this
  exact decide_eq_false this
 unfold ixG
 rw[e,aD hi]
open Classical in
theorem yD {l:List α} (d:α) (h:∀j,j<l.length->¬p (l.getD j d)):ixG p l= -1:=by
 unfold ixG
 rw[aC]
 intro hlt
 have h1:=List.findIdx_getElem (w:=hlt)
 have h2:=h _ hlt
 rw[aB,aH hlt] at h2
 exact h2 (dI h1)
theorem rQ (l:List α) (d:α):0<=ixG p l↔∃j,j<l.length/\p (l.getD j d):=by
 constructor
 ·intro h
  apply aL
  intro hn
  rw[yD p d (fun j hj hp=>hn ⟨j,hj,hp⟩)] at h
  exact absurd h (by decide)
 rintro ⟨j,hj,hp⟩
 have key:∀n,n<=l.length->(∃j,j<n/\p (l.getD j d))->∃j,j<n/\p (l.getD j d)/\∀i,i<j->¬p (l.getD i d):=by
  intro n
  induction n with
  | zero=>rintro _ ⟨j,h,_⟩;exact absurd h (bG _)
  | succ n ih=>
   rintro hn ⟨j,h1,h2⟩
   by_cases he:∃j,j<n/\p (l.getD j d)
   ·obtain ⟨j,h3,h4,h5⟩:=ih (by omega) he
    exact ⟨j,by omega,h4,h5⟩
   have:j=n:=by
    apply aL
    intro hne
    exact he ⟨j,by omega,h2⟩
   subst this
   exact ⟨j,h1,h2,fun i hi hp=>he ⟨i,hi,hp⟩⟩
 obtain ⟨i,h1,h2,h3⟩:=key l.length (aM _) ⟨j,hj,hp⟩
 rw[yC p d h1 h2 h3];omega
end
def c3112:Con:=bB 112 true fun args K=>match args with | [.agg [.str a,.str b,.str c]]=>K (.agg [S a,S b,S c]) | _=>False
theorem aN6:aS Tryz.prog c3112:=by
 refine kQ {} Tryz.func112 Tryz.ntmps112 kn fun _ _ h=>?_
 split at h
 case h_2=>exact h.elim
 refine kb h ?_
 exact ZF
def c3071:Con:=bB 71 true fun args K=>match args with | [.agg [.str a,.str b,.str c]]=>K (I (chkS (a,b,c))) | _=>False
theorem aN7:aS Tryz.prog c3071:=by
 refine kQ {} Tryz.func71 Tryz.ntmps71 (kc aN6 (kc k21 kn)) fun _ _ h=>?_
 split at h
 case h_2=>exact h.elim
 rename_i a b c
 refine kb h ?_
 by_cases h1:chkQ a=0
 ·by_cases h2:chkQ b=0
  ·have e:chkS (a,b,c)=chkQ c:=by unfold chkS;rw[aC (fun h=>h h1),aC (fun h=>h h2)]
   rw[e]
   by_cases h3:chkQ c=0
   ·rw[h3]
    exact ZRF
   exact ZRF
  have e:chkS (a,b,c)=chkQ b:=by unfold chkS;rw[aC (fun h=>h h1),aD h2]
  rw[e]
  exact ZRF
 have e:chkS (a,b,c)=chkQ a:=by unfold chkS;rw[aD h1]
 rw[e]
 exact ZRF
def c3077:Con:=bB 77 true fun args K=>match args with | [.val (.int .i64 n),.val (.int .i64 a),.val (.int .i64 b)]=>K (.bl (n<a\/b<n) inferInstance) | _=>False
theorem k3077:aS Tryz.prog c3077:=by
 refine kQ {} Tryz.func77 Tryz.ntmps77 kn fun _ _ h=>?_
 split at h
 case h_2=>exact h.elim
 rename_i n a b
 refine kb h ?_
 by_cases h1:n<a
 ·(repeat refine ZR ?_)
  (conv=>whnf)
  exact .inl h1
 (repeat refine ZR ?_)
 (conv=>whnf)
 exact ⟨fun h=>.inr h,fun h=>h.resolve_left h1⟩
theorem aHt {k:Nat} {a:Bx}:(max ((digs (pn (valQ a))).length:Int) ((pd (valQ a)).length:Int)<=k)↔dK k (valQ a):=by
 unfold dK
 rw[gM]
 show _<= _↔ _/\ _
 unfold pd
 constructor<;>intro h
 ·constructor<;>omega
 omega
theorem aN8 {a:Bx} (h:chkQ a=0):ptQ a=(pn (valQ a),pd (valQ a)):=by unfold ptQ;rw[aD h]
def c3117:Con:=bB 117 true fun args K=>match args with | [.str a]=>Need (chkQ a=0) (K (.bl (¬dK 36 (valQ a)) inferInstance)) | _=>False
theorem k3117:aS Tryz.prog c3117:=by
 refine kQ {} Tryz.func117 Tryz.ntmps117 (kc aN5 (kc k88 kn)) fun _ _ h=>?_
 split at h
 case h_2=>exact h.elim
 rename_i a
 refine kb h.go ?_
 replace h:=h.ok
 have e:=aN8 h
 have hi:=aHt (k:=36) (a:=a)
 (repeat' first|refine ZG ?_|refine Zg fun _=>?_)
 (conv=>whnf)
 rw[<- hi,e]
 exact Int.not_le.symm
def aC1 (a:Bx):Prop:=¬dK 36 (valQ a)
def badN (a:Bx):Prop:=¬(chkQ a=0/\dK 36 (valQ a))
def aXj:Con:=bB 73 true fun args K=>match args with | [.str a]=>K (.bl (badN a) Cp) | _=>False
theorem k3073:aS Tryz.prog aXj:=by
 refine kQ {} Tryz.func73 Tryz.ntmps73 (kc aN5 (kc k88 kn)) fun _ _ h=>?_
 split at h
 case h_2=>exact h.elim
 rename_i a
 refine kb h ?_
 by_cases h:chkQ a=0
 ·have e:=aN8 h
  have hi:=aHt (k:=36) (a:=a)
  have hb:badN a↔¬(max ((digs (ptQ a).1).length:Int) ((ptQ a).2.length:Int)<=36):=by
   rw[e];unfold badN;rw[<- hi];exact ⟨fun hn h2=>hn ⟨h,h2⟩,fun hn h2=>hn h2.2⟩
  (repeat' first|refine ZR ?_|refine Zg fun _=>?_)
  (conv=>whnf)
  exact ⟨fun q=>hb.2 (Int.not_le.2 q),fun q=>Int.not_le.1 (hb.1 q)⟩
 (repeat refine ZR ?_)
 (conv=>whnf)
 exact fun q=>h q.1
def c3114:Con:=bB 114 true fun args K=>match args with | [.seq .str l,.clo 117 [] []]=>Need (∀a∈l,chkQ a=0) (K (I (ixG aC1 l))) | _=>False
theorem k3114:aS Tryz.prog c3114:=by
 refine kQ { asks:=[(0,[])] } Tryz.func114 Tryz.ntmps114 (kc k3117 kn) fun _ _ h=>?_
 split at h
 case h_2=>exact h.elim
 rename_i l
 change List (Bx) at l
 refine kb h.go ?_
 replace h:=h.ok
 have hm:∀i,i<l.length->chkQ (l.getD i [])=0:=fun i hi=>h _ (by rw[aB,aH hi];exact cU hi)
 (repeat'((conv=>whnf);first|refine Zg fun _=>?_|fail))
 refine Ask.mk ⟨{ X:=Nat,pre:=fun i=>i<=l.length/\∀j,j<i->¬aC1 (l.getD j []),mod:=fun i _=>[(8,I i)],heap:=fun i H=>H,mu:=fun i=>l.length-i },rfl,?_⟩
 (repeat refine ZG ?_)
 refine ⟨⟨(0:Nat),⟨aI _,fun j hj=>by omega⟩,ZE⟩,fun (i:Nat) hi=>?_⟩
 obtain ⟨hi,hp⟩:=hi
 by_cases hlt:i<l.length
 ·have hc:=hm i hlt
  (repeat refine ZR ?_)
  (apply Br.mk<;>intro)
  ·rename_i hb
   have e:=yC aC1 [] hlt hb hp
   rw[e]
   exact ZF
  rename_i hb
  (repeat refine ZR ?_)
  refine ⟨(i+1:Nat),by show l.length-(i+1)<l.length-i;omega,⟨hlt,fun j hj=>?_⟩,ZE⟩
  by_cases e:j=i
  ·subst e;exact hb
  exact hp j (by omega)
 have e:i=l.length:=by omega
 subst e
 rw[yD aC1 [] hp]
 exact ZRF
def c3072:Con:=bB 72 true fun args K=>match args with | [.seq .str l,.clo 117 [] []]=>Need (∀a∈l,chkQ a=0) (K (.bl (0<=ixG aC1 l) inferInstance)) | _=>False
theorem k3072:aS Tryz.prog c3072:=by
 refine kQ {} Tryz.func72 Tryz.ntmps72 (kc k3114 kn) fun _ _ h=>?_
 split at h
 case h_2=>exact h.elim
 refine kb h.go ?_
 replace h:=h.ok
 (repeat refine ZR ?_)
 (conv=>whnf)
theorem aF7 {p:Bx->Prop} {a b c:Bx}:(0<=ixG p [a,b,c])↔p a\/p b\/p c:=by
 rw[rQ p [a,b,c] []]
 constructor
 ·rintro ⟨j,hj,h⟩
  match j,hj,h with
  | 0,_,h=>exact .inl h
  | 1,_,h=>exact .inr (.inl h)
  | 2,_,h=>exact .inr (.inr h)
  | j+3,hj,_=>simp at hj;omega
 rintro (h | h | h)
 ·exact ⟨0,by simp,h⟩
 ·exact ⟨1,by simp,h⟩
 exact ⟨2,by simp,h⟩
def c3078:Con:=bB 78 true fun args K=>match args with | [.agg [.str a,.str b,.str c]]=>Need (chkS (a,b,c)=0) (K (.bl (¬dS 36 (a,b,c)) Cp)) | _=>False
theorem aXk:aS Tryz.prog c3078:=by
 refine kQ {} Tryz.func78 Tryz.ntmps78 (kc k3072 kn) fun _ _ h=>?_
 split at h
 case h_2=>exact h.elim
 rename_i a b c
 refine kb h.go ?_
 replace h:=h.ok
 obtain ⟨h1,h2,h3⟩:=rW.1 h
 have hall:∀x∈ [a,b,c],chkQ x=0:=fun x hx=>by
  simp only[bE,jY,or_false] at hx
  rcases hx with rfl | rfl | rfl
  ·exact h1
  ·exact h2
  exact h3
 have e:(0<=ixG aC1 [a,b,c])↔¬dS 36 (a,b,c):=by
  rw[aF7]
  unfold aC1 dS
  constructor
  ·rintro (h | h | h) ⟨q1,q2,q3⟩
   ·exact h q1
   ·exact h q2
   exact h q3
  intro h
  by_cases q1:dK 36 (valQ a)
  ·by_cases q2:dK 36 (valQ b)
   ·exact .inr (.inr fun q3=>h ⟨q1,q2,q3⟩)
   exact .inr (.inl q2)
  exact .inl q1
 (repeat refine ZR ?_)
 (conv=>whnf)
 exact e
theorem b114q (l:List (Bx)):body Tryz.prog [aXj] { asks:=[(0,[])] } true Tryz.f114 [.seq .str l,.clo 73 [] []] (I (ixG badN l)):=by
 (repeat'((conv=>whnf);first|refine Zg fun _=>?_|fail))
 refine Ask.mk ⟨{ X:=Nat,pre:=fun i=>i<=l.length/\∀j,j<i->¬badN (l.getD j []),mod:=fun i _=>[(8,I i)],heap:=fun i H=>H,mu:=fun i=>l.length-i },rfl,?_⟩
 (repeat refine ZG ?_)
 refine ⟨⟨(0:Nat),⟨aI _,fun j hj=>by omega⟩,ZE⟩,fun (i:Nat) hi=>?_⟩
 obtain ⟨hi,hp⟩:=hi
 by_cases hlt:i<l.length
 ·(repeat refine ZR ?_)
  (apply Br.mk<;>intro)
  ·rename_i hb
   have e:=yC badN [] hlt hb hp
   rw[e]
   exact ZF
  rename_i hb
  (repeat refine ZR ?_)
  refine ⟨(i+1:Nat),by show l.length-(i+1)<l.length-i;omega,⟨hlt,fun j hj=>?_⟩,ZE⟩
  by_cases e:j=i
  ·subst e;exact hb
  exact hp j (by omega)
 have e:i=l.length:=by omega
 subst e
 rw[yD badN [] hp]
 exact ZRF
def aRr:Con:=bB 114 true fun args K=>match args with | [.seq .str l,.clo 73 [] []]=>K (I (ixG badN l)) | _=>False
theorem k114q:aS Tryz.prog aRr:=by
 refine kO Tryz.func114 fun args K h=>?_
 simp only[aRr] at h;split at h
 ·rename_i l;exact ⟨_,h,triB Tryz.func114 Tryz.ntmps114 (by simp[k3073]) (b114q l)⟩
 exact h.elim
theorem b72q (l:List (Bx)):body Tryz.prog [aRr] {} true Tryz.f72 [.seq .str l,.clo 73 [] []] (.bl (0<=ixG badN l) inferInstance):=by
 (conv=>whnf)
def c72q:Con:=bB 72 true fun args K=>match args with | [.seq .str l,.clo 73 [] []]=>K (.bl (0<=ixG badN l) inferInstance) | _=>False
theorem k72q:aS Tryz.prog c72q:=by
 refine kO Tryz.func72 fun args K h=>?_
 simp only[c72q] at h;split at h
 ·rename_i l;exact ⟨_,h,triB Tryz.func72 Tryz.ntmps72 (by simp[k114q]) (b72q l)⟩
 exact h.elim
theorem aVs {a b c:Bx} (h:chkS (a,b,c)=0):¬(0<=ixG badN [a,b,c])↔okS (a,b,c):=by
 obtain ⟨h1,h2,h3⟩:=rW.1 h
 rw[aF7]
 unfold badN okS dS
 constructor
 ·intro hn
  refine ⟨h,aL fun q=>hn (.inl fun q2=>q q2.2),aL fun q=>hn (.inr (.inl fun q2=>q q2.2)),aL fun q=>hn (.inr (.inr fun q2=>q q2.2))⟩
 rintro ⟨_,q1,q2,q3⟩ (q | q | q)
 ·exact q ⟨h1,q1⟩
 ·exact q ⟨h2,q2⟩
 exact q ⟨h3,q3⟩
def c3043:Con:=bB 43 true fun args K=>match args with | [.agg [.str a,.str b,.str c]]=>K (.bl (okS (a,b,c)) Cp) | _=>False
theorem k3043:aS Tryz.prog c3043:=by
 refine kQ {} Tryz.func43 Tryz.ntmps43 (kc aN7 (kc k72q kn)) fun _ _ h=>?_
 split at h
 case h_2=>exact h.elim
 rename_i a b c
 refine kb h ?_
 by_cases h:chkS (a,b,c)=0
 ·have e:=aVs h
  (repeat refine ZR ?_)
  (conv=>whnf)
  exact e
 have e:¬okS (a,b,c):=fun hk=>h hk.1
 (repeat refine ZR ?_)
 (conv=>whnf)
 exact e
def xI:Con:=bB 46 true fun args K=>match args with | [.agg [.val (.int .i64 k),.val (.int .i64 f),.val (.int .i64 o),.str a,.str b,.str c,.str d,.str e,.str g,.val (.int .i64 w),.val (.int .i64 t)]]=>K (I (memE (k,f,o,(a,b,c),(d,e,g),w,t))) | _=>False
theorem aRs:aS Tryz.prog xI:=by
 refine kQ {} Tryz.func46 Tryz.ntmps46 (kc k3077 (kc aN7 (kc aXk kn))) fun _ _ hY=>?_
 split at hY
 case h_2=>exact hY.elim
 rename_i k f o a b c d e g w h
 refine kb hY ?_
 unfold memE
 have hl:([(a,b,c),(d,e,g)]:List (Bx × Bx × Bx)).length=2:=rfl
 by_cases h1:k<1\/12<k
 ·rw[aD h1]
  exact ZRF
 rw[aC h1]
 by_cases h2:f<0\/o < -1
 ·rw[aD h2]
  by_cases h3:f<0
  ·exact ZRF
  exact ZRF
 rw[aC h2]
 by_cases h3:(w<1\/1000<w)\/(h<1\/1000<h)
 ·rw[aD h3]
  by_cases h4:w<1\/1000<w
  ·exact ZRF
  exact ZRF
 rw[aC h3]
 by_cases h4:chkS (a,b,c)=0
 case neg=>
  rw[aD h4]
  exact ZRF
 rw[aC (dC h4)]
 by_cases h5:chkS (d,e,g)=0
 case neg=>
  rw[aD h5]
  exact ZRF
 rw[aC (dC h5)]
 by_cases h6:dS 36 (a,b,c)
 case neg=>
  rw[aD (.inl h6)]
  exact ZRF
 by_cases h7:dS 36 (d,e,g)
 case neg=>
  rw[aD (.inr h7)]
  exact ZRF
 rw[aC (fun hn=>hn.elim (fun hn=>hn h6) fun hn=>hn h7)]
 (repeat'((conv=>whnf);first|refine Zg fun _=>?_|refine Zn ?_|refine Z0 ?_|refine Z1 ?_|refine Zl ?_|refine Zy ?_|refine Zm ?_|fail))
 refine Need.mk ⟨⟨by decide,by decide,by decide,trivial⟩,by kernel_rfl⟩ ?_
 by_cases h8:((a,b,c):Sp)=(d,e,g)
 ·rw[aD h8]
  obtain ⟨e1,hh⟩:=kH h8
  obtain ⟨e2,e3⟩:=kH hh
  subst e1 e2 e3
  refine Br.mkY rfl ?_
  exact ZF
 rw[aC h8]
 refine Br.mkN (fun hh=>h8 (by
  injection hh with e1 hh
  injection hh with e2 hh
  injection hh with e3 _
  exact gI e1 (gI e2 e3))) ?_
 exact ZF
theorem aWs {p q:Rat} {k:Nat} (h1:(p.num*q.den).natAbs<10^k) (h2:(q.num*p.den).natAbs<10^k) (h0:q≠0):Sz k (p/q):=by
 have hq:q.num≠0:=fun h=>h0 (vB.1 h)
 have hp:(0:Int)<p.den:=by have:=p.den_pos;omega
 rw[aG9 p q h0]
 rcases Int.lt_or_lt_of_ne hq with h | h
 ·have hd:(p.den:Int)*q.num<0:=Int.mul_neg_of_pos_of_neg hp h
  rw[yV _ _ hd]
  refine aMb (by omega) (by rwa [Int.natAbs_neg]) ?_
  have:(-((p.den:Int)*q.num)).toNat=(q.num*p.den).natAbs:=by rw[cB q.num];omega
  rwa [this]
 have hd:0<(p.den:Int)*q.num:=mE hp h
 rw[oN _ _ hd]
 refine aMb (by omega) h1 ?_
 have:((p.den:Int)*q.num).toNat=(q.num*p.den).natAbs:=by rw[cB q.num];omega
 rwa [this]
theorem Sz.div {p q:Rat} {i j:Nat} (hp:Sz i p) (hq:Sz j q) (h0:q≠0):Sz (i+j) (p/q):=aWs (hp.cross hq).1 (hp.cross hq).2.1 h0
section
variable {p q:Rat}
end
section
variable {l:List (Bx)} {i:Nat}
end
def Wt (k:Nat) (q:Rat):Prop:=q.num.natAbs*q.den<10^k
theorem aQ7 (n:Int) {d:Nat} (hd:d≠0):(mkRat n d).num.natAbs<=n.natAbs/\(mkRat n d).den<=d:=by
 rw[Rat.num_mkRat,aC hd,Rat.den_mkRat,aC hd]
 exact ⟨yB _ _,jK _ _⟩
theorem Wt.sub {p q:Rat} {k:Nat} (hp:Wt k p) (hq:Wt k q) (sp:p.den<10^k) (sq:q.den<10^k):Wt (3*k+1) (p-q):=by
 unfold Wt at hp hq ⊢
 rw[aBj]
 obtain ⟨h1,h2⟩:=aQ7 (p.num*q.den-q.num*p.den) (aJo p q)
 refine cP (jZ h1 h2) ?_
 have e1:(p.num*q.den-q.num*p.den).natAbs<=p.num.natAbs*q.den+q.num.natAbs*p.den:=by
  refine bI (Int.natAbs_sub_le _ _) ?_
  rw[dH,dH,dZ,dZ]
  exact aM _
 refine cP (aU _ e1) ?_
 have e2:(p.num.natAbs*q.den+q.num.natAbs*p.den)*(p.den*q.den)=(p.num.natAbs*p.den)*(q.den*q.den)+(q.num.natAbs*q.den)*(p.den*p.den):=by
  rw[bU]
  congr 1<;>ac_rfl
 rw[e2]
 have a1:(p.num.natAbs*p.den)*(q.den*q.den)<10^k*(10^k*10^k):=eW hp (eW sq sq)
 have a2:(q.num.natAbs*q.den)*(p.den*p.den)<10^k*(10^k*10^k):=eW hq (eW sp sp)
 have e3:10^ (3*k+1)=10*(10^k*(10^k*10^k)):=by
  rw[<- sA,<- sA,jR,gB]
  congr 2;omega
 rw[e3]
 omega
def rgP (a b:Bx):Prop:=(cmpQ a b).2=0/\(cmpQ a b).1<=0
noncomputable instance (a b:Bx):Decidable (rgP a b):=Cp
section
variable {lo hi most:Rat}
end
section
variable {α:Type} [DecidableEq α]
end
theorem rG {P:Program} {c c':Con} (hc:aS P c) (hf:c'.f=c.f) (hfr:c'.fresh=c.fresh) (hl:(c'.lin,c'.own,c'.hp)=(none,none,none)) (h:∀args K,c'.cl args K->c.cl args K):aS P c':=
 aKp hl (by rw[hf];exact hc.1) fun args K h'=>by
  have:=hc.2.1 args K (h args K h')
  rwa [hf,hfr]
noncomputable def c17n:Con:=bB 200 true fun args K=>match args with
 | [.str a,.str b]=>Alt (Has (fun r=>addQ a b=(r,0)) fun r=>K (.tup [S r,I 0])) (K (.tup [S (addQ a b).1,I (addQ a b).2]))
 | _=>False
theorem k17n:aS Tryz.prog c17n:=rG k17 rfl rfl rfl fun args K h=>by
 simp only[c17n] at h
 split at h
 ·rcases h.or with h | h
  ·obtain ⟨r,e,h⟩:=h.ex
   show K _
   rw[e];exact h
  exact h
 exact h.elim
noncomputable def c20n:Con:=bB 192 true fun args K=>match args with
 | [.str a,.str b]=>Alt (Has (fun r=>subQ a b=(r,0)) fun r=>K (.tup [S r,I 0])) (K (.tup [S (subQ a b).1,I (subQ a b).2]))
 | _=>False
theorem k20n:aS Tryz.prog c20n:=rG k20 rfl rfl rfl fun args K h=>by
 simp only[c20n] at h
 split at h
 ·rcases h.or with h | h
  ·obtain ⟨r,e,h⟩:=h.ex
   show K _
   rw[e];exact h
  exact h
 exact h.elim
noncomputable def c19n:Con:=bB 193 true fun args K=>match args with
 | [.str a,.str b]=>Alt (Has (fun r=>mulQ a b=(r,0)) fun r=>K (.tup [S r,I 0])) (K (.tup [S (mulQ a b).1,I (mulQ a b).2]))
 | _=>False
theorem k19n:aS Tryz.prog c19n:=rG k19 rfl rfl rfl fun args K h=>by
 simp only[c19n] at h
 split at h
 ·rcases h.or with h | h
  ·obtain ⟨r,e,h⟩:=h.ex
   show K _
   rw[e];exact h
  exact h
 exact h.elim
noncomputable def c14n:Con:=bB 150 true fun args K=>match args with
 | [.str a,.str b]=>Alt (Has (fun r=>divQ a b=(r,0)) fun r=>K (.tup [S r,I 0])) (K (.tup [S (divQ a b).1,I (divQ a b).2]))
 | _=>False
theorem k14n:aS Tryz.prog c14n:=rG k14 rfl rfl rfl fun args K h=>by
 simp only[c14n] at h
 split at h
 ·rcases h.or with h | h
  ·obtain ⟨r,e,h⟩:=h.ex
   show K _
   rw[e];exact h
  exact h
 exact h.elim
noncomputable def c38n:Con:=bB 254 true fun args K=>match args with
 | [.str a,.str b]=>Alt (Has (fun r=>cmpQ a b=(r,0)) fun r=>K (.tup [I r,I 0])) (K (.tup [I (cmpQ a b).1,I (cmpQ a b).2]))
 | _=>False
theorem k38n:aS Tryz.prog c38n:=rG k38 rfl rfl rfl fun args K h=>by
 simp only[c38n] at h
 split at h
 ·rcases h.or with h | h
  ·obtain ⟨r,e,h⟩:=h.ex
   show K _
   rw[e];exact h
  exact h
 exact h.elim
def aJq (a b r:Sp):Prop:=chkS a=0/\chkS b=0/\subQ a.1 b.1=(r.1,0)/\subQ a.2.1 b.2.1=(r.2.1,0)/\subQ a.2.2 b.2.2=(r.2.2,0)
def aN9 (a b c d r:Bx):Prop:=∃p q,mulQ a d=(p,0)/\mulQ b c=(q,0)/\subQ p q=(r,0)
def zA (a b r:Sp):Prop:=chkS a=0/\chkS b=0/\aN9 a.2.1 a.2.2 b.2.1 b.2.2 r.1/\aN9 a.2.2 a.1 b.2.2 b.1 r.2.1/\aN9 a.1 a.2.1 b.1 b.2.1 r.2.2
def aOa (a b:Sp):Prop:=chkS a=0/\chkS b=0/\(cmpQ a.1 b.1).2=0/\(cmpQ a.2.1 b.2.1).2=0/\(cmpQ a.2.2 b.2.2).2=0
noncomputable def cmpS (a b:Sp):Int:=if (cmpQ a.1 b.1).1≠0 then (cmpQ a.1 b.1).1 else if (cmpQ a.2.1 b.2.1).1≠0 then (cmpQ a.2.1 b.2.1).1 else (cmpQ a.2.2 b.2.2).1
def c3255:Con:=bB 255 true fun args K=>match args with | [.agg [.str a,.str b,.str c],.agg [.str d,.str e,.str g]]=>Need (chkS (a,b,c)=0/\chkS (d,e,g)=0) (K (I 0)) | _=>False
theorem aRt:aS Tryz.prog c3255:=by
 refine kQ {} Tryz.func255 Tryz.ntmps255 (kc aN7 kn) fun _ _ h=>?_
 split at h
 case h_2=>exact h.elim
 refine kb h.go ?_
 replace h:=h.ok
 obtain ⟨h1,h2⟩:=h
 exact ZRx h2
def c3295:Con:=bB 295 true fun args K=>match args with | [.agg [.str a,.str b,.str c]]=>K (.agg [S a,S b,S c]) | _=>False
theorem aXl:aS Tryz.prog c3295:=by
 refine kQ {} Tryz.func295 Tryz.ntmps295 kn fun _ _ h=>?_
 split at h
 case h_2=>exact h.elim
 refine kb h ?_
 exact ZRF
noncomputable def c3256:Con:=bB 256 true fun args K=>match args with | [.agg [.str a,.str b,.str c],.agg [.str d,.str e,.str g],.clo 192 [] []]=>Alt (Has (fun r:Sp=>aJq (a,b,c) (d,e,g) r) fun r=>K (.tup [.agg [S r.1,S r.2.1,S r.2.2],I 0])) False | _=>False
theorem k3256:aS Tryz.prog c3256:=by
 refine kQ {} Tryz.func256 Tryz.ntmps256 (kc aN6 (kc k20n (kc aXl kn))) fun _ _ h=>?_
 split at h
 case h_2=>exact h.elim
 rename_i a b c d e g
 obtain ⟨r,h0,hK⟩:=(h.or.resolve_right id).ex
 refine kb hK ?_
 have h:=h0
 obtain ⟨r1,r2,r3⟩:=r
 obtain ⟨_,_,h1,h2,h3⟩:=h
 have h1:subQ a d=(r1,0):=h1
 have h2:subQ b e=(r2,0):=h2
 have h3:subQ c g=(r3,0):=h3
 exact ZRF
noncomputable def c3202:Con:=bB 202 true fun args K=>match args with | [.agg [.str a,.str b,.str c],.agg [.str d,.str e,.str g]]=>Alt (Has (fun r:Sp=>aJq (a,b,c) (d,e,g) r) fun r=>K (.tup [.agg [S r.1,S r.2.1,S r.2.2],I 0])) False | _=>False
theorem k3202:aS Tryz.prog c3202:=by
 refine kQ {} Tryz.func202 Tryz.ntmps202 (kc aRt (kc k3256 kn)) fun _ _ h=>?_
 split at h
 case h_2=>exact h.elim
 rename_i a b c d e g
 obtain ⟨r,h0,hK⟩:=(h.or.resolve_right id).ex
 refine kb hK ?_
 have h:=h0
 obtain ⟨r1,r2,r3⟩:=r
 have hc:chkS (a,b,c)=0/\chkS (d,e,g)=0:=⟨h.1,h.2.1⟩
 exact ZRF
noncomputable def c3296:Con:=bB 296 true fun args K=>match args with | [.agg [.str a,.str b,.str c],.agg [.str d,.str e,.str g]]=>Alt (Has (fun r:Sp=>zA (a,b,c) (d,e,g) r) fun r=>K (.tup [.agg [S r.1,S r.2.1,S r.2.2],I 0])) False | _=>False
theorem k3296:aS Tryz.prog c3296:=by
 refine kQ {} Tryz.func296 Tryz.ntmps296 (kc aN6 (kc k19n (kc k20n (kc aXl kn)))) fun _ _ h=>?_
 split at h
 case h_2=>exact h.elim
 obtain ⟨r,h0,hK⟩:=(h.or.resolve_right id).ex
 refine kb hK ?_
 have h:=h0
 obtain ⟨r1,r2,r3⟩:=r
 obtain ⟨_,_,⟨p1,q1,x1,y1,z1⟩,⟨p2,q2,x2,y2,z2⟩,⟨p3,q3,x3,y3,z3⟩⟩:=h
 dsimp only at x1 y1 z1 x2 y2 z2 x3 y3 z3
 (repeat'((conv=>whnf);first|refine .h ?_|refine Za ?_|refine Zn ?_|refine Z0 ?_|refine Z1 ?_|refine Z2 ?_|apply pI|apply pJ|exact Zf|refine Zc ?_ ?_|refine Zy ?_|refine Zm ?_|fail))
 exact ZF
noncomputable def c3257:Con:=bB 257 true fun args K=>match args with | [.agg [.str a,.str b,.str c],.agg [.str d,.str e,.str g]]=>Alt (Has (fun r:Sp=>zA (a,b,c) (d,e,g) r) fun r=>K (.tup [.agg [S r.1,S r.2.1,S r.2.2],I 0])) False | _=>False
theorem k3257:aS Tryz.prog c3257:=by
 refine kQ {} Tryz.func257 Tryz.ntmps257 (kc aRt (kc k3296 kn)) fun _ _ h=>?_
 split at h
 case h_2=>exact h.elim
 rename_i a b c d e g
 obtain ⟨r,h0,hK⟩:=(h.or.resolve_right id).ex
 refine kb hK ?_
 have h:=h0
 obtain ⟨r1,r2,r3⟩:=r
 have hc:chkS (a,b,c)=0/\chkS (d,e,g)=0:=⟨h.1,h.2.1⟩
 exact ZRF
noncomputable def c3203:Con:=bB 203 true fun args K=>match args with | [.agg [.str a,.str b,.str c],.agg [.str d,.str e,.str g]]=>Alt (Has (fun r:Sp=>zA (a,b,c) (d,e,g) r) fun r=>K (.tup [.bl (r=([48],[48],[48])) inferInstance,I 0])) False | _=>False
theorem k3203:aS Tryz.prog c3203:=by
 refine kQ {} Tryz.func203 Tryz.ntmps203 (kc k3257 kn) fun _ _ h=>?_
 split at h
 case h_2=>exact h.elim
 obtain ⟨r,h0,hK⟩:=(h.or.resolve_right id).ex
 refine kb hK ?_
 have h:=h0
 obtain ⟨r1,r2,r3⟩:=r
 (repeat'((conv=>whnf);first|refine .h ?_|refine Zy ?_|fail))
 refine Need.mk ⟨⟨by decide,by decide,by decide,trivial⟩,by kernel_rfl⟩ ?_
 (conv=>whnf)
 (repeat' first|exact trivial|rfl|apply aA)
 all_goals exact ⟨fun hh=>by
  injection hh with h1 hh
  injection hh with h2 hh
  injection hh with h3 _
  exact gI h1 (gI h2 h3),fun hh=>by
  obtain ⟨h1,hh⟩:=kH hh
  obtain ⟨h2,h3⟩:=kH hh
  rw[h1,h2,h3]⟩
def c3204:Con:=bB 204 true fun args K=>match args with | [.agg [.str a,.str b,.str c],.agg [.str d,.str e,.str g]]=>Need (aOa (a,b,c) (d,e,g)) (K (.tup [I (cmpS (a,b,c) (d,e,g)),I 0])) | _=>False
theorem k3204:aS Tryz.prog c3204:=by
 refine kQ {} Tryz.func204 Tryz.ntmps204 (kc aRt (kc aN6 (kc k38n kn))) fun _ _ h=>?_
 split at h
 case h_2=>exact h.elim
 rename_i a b c d e g
 refine kb h.go ?_
 replace h:=h.ok
 obtain ⟨h1,h2,h3,h4,h5⟩:=h
 have hc:chkS (a,b,c)=0/\chkS (d,e,g)=0:=⟨h1,h2⟩
 dsimp only at h3 h4 h5
 have x1:cmpQ a d=((cmpQ a d).1,0):=gI rfl h3
 have x2:cmpQ b e=((cmpQ b e).1,0):=gI rfl h4
 have x3:cmpQ c g=((cmpQ c g).1,0):=gI rfl h5
 unfold cmpS
 dsimp only
 by_cases q1:(cmpQ a d).1=0
 ·rw[aC (dC q1)]
  by_cases q2:(cmpQ b e).1=0
  ·rw[aC (dC q2)]
   by_cases q3:(cmpQ c g).1=0
   ·rw[q3]
    exact ZHF
   exact ZHF
  rw[aD q2]
  exact ZHF
 rw[aD q1]
 exact ZHF
section
variable {p q:Rat} {k:Nat}
theorem aZd (p q:Rat):cmpI (p.num*q.den) (q.num*p.den)=cmpR p q:=by
 unfold cmpI cmpR
 by_cases h1:p<q
 ·rw[aD h1,aD ((uQ p q).1 h1)]
 rw[aC h1,aC (fun h=>h1 ((uQ p q).2 h))]
 by_cases h2:q<p
 ·have:=(uQ q p).1 h2
  rw[aD h2,aC (by omega)]
 have h3:¬q.num*p.den<p.num*q.den:=fun h=>h2 ((uQ q p).2 h)
 have h4:¬p.num*q.den<q.num*p.den:=fun h=>h1 ((uQ p q).2 h)
 rw[aC h2,aD (by omega)]
end
noncomputable def nS3 (v:V3):Sp:=(numS v.1,numS v.2.1,numS v.2.2)
def Sz3 (k:Nat) (v:V3):Prop:=Sz k v.1/\Sz k v.2.1/\Sz k v.2.2
theorem aOb {s:Sp} (h:okS s):s=nS3 (vS s)/\Sz3 36 (vS s):=by
 obtain ⟨⟨a,b,c⟩,z⟩:=aCw h
 exact ⟨gI a (gI b c),z⟩
theorem chkT {k:Nat} {v:V3} (h:Sz3 k v) (hk:0<k/\k<=300):chkS (nS3 v)=0:=rW.2 ⟨yZ h.1 hk,yZ h.2.1 hk,yZ h.2.2 hk⟩
theorem aOc {i j:Nat} {u v:V3} (hu:Sz3 i u) (hv:Sz3 j v) (hi:0<i) (hj:0<j) (h:i+j+1<=300):aJq (nS3 u) (nS3 v) (nS3 (sub3 u v))/\Sz3 (i+j+1) (sub3 u v):=
 ⟨⟨chkT hu ⟨hi,by omega⟩,chkT hv ⟨hj,by omega⟩,mT hu.1 hv.1 hi hj h,mT hu.2.1 hv.2.1 hi hj h,mT hu.2.2 hv.2.2 hi hj h⟩,hu.1.sub hv.1,hu.2.1.sub hv.2.1,hu.2.2.sub hv.2.2⟩
noncomputable def crs3 (d v:V3):V3:=(d.2.1*v.2.2-d.2.2*v.2.1,d.2.2*v.1-d.1*v.2.2,d.1*v.2.1-d.2.1*v.1)
theorem aMc {k:Nat} {a b c d:Rat} (ha:Sz k a) (hb:Sz k b) (hc:Sz k c) (hd:Sz k d) (h0:0<k) (h:(k+k)+(k+k)+1<=300):aN9 (numS a) (numS b) (numS c) (numS d) (numS (a*d-b*c)):=
 ⟨numS (a*d),numS (b*c),qG ha hd h0 h0 (by omega),qG hb hc h0 h0 (by omega),mT (ha.mul hd) (hb.mul hc) (by omega) (by omega) h⟩
theorem aRu {k:Nat} {u v:V3} (hu:Sz3 k u) (hv:Sz3 k v) (h0:0<k) (h:(k+k)+(k+k)+1<=300):zA (nS3 u) (nS3 v) (nS3 (crs3 u v)):=
 ⟨chkT hu ⟨h0,by omega⟩,chkT hv ⟨h0,by omega⟩,aMc hu.2.1 hu.2.2 hv.2.1 hv.2.2 h0 h,aMc hu.2.2 hu.1 hv.2.2 hv.1 h0 h,aMc hu.1 hu.2.1 hv.1 hv.2.1 h0 h⟩
theorem aBt {i j:Nat} {p q:Rat} (hp:Sz i p) (hq:Sz j q) (hi:0<i) (hj:0<j) (h:i+j<=300):cmpQ (numS p) (numS q)=(cmpR p q,0):=by
 rw[aXi hp hq hi hj h,aZd]
theorem aRv {i j:Nat} {u v:V3} (hu:Sz3 i u) (hv:Sz3 j v) (hi:0<i) (hj:0<j) (h:i+j<=300):aOa (nS3 u) (nS3 v)/\cmpS (nS3 u) (nS3 v)=lexR u v:=by
 have e1:=aBt hu.1 hv.1 hi hj h
 have e2:=aBt hu.2.1 hv.2.1 hi hj h
 have e3:=aBt hu.2.2 hv.2.2 hi hj h
 refine ⟨⟨chkT hu ⟨hi,by omega⟩,chkT hv ⟨hj,by omega⟩,?_,?_,?_⟩,?_⟩
 ·show (cmpQ (numS u.1) (numS v.1)).2=0;rw[e1]
 ·show (cmpQ (numS u.2.1) (numS v.2.1)).2=0;rw[e2]
 ·show (cmpQ (numS u.2.2) (numS v.2.2)).2=0;rw[e3]
 unfold cmpS lexR
 show (if (cmpQ (numS u.1) (numS v.1)).1≠0 then (cmpQ (numS u.1) (numS v.1)).1 else if (cmpQ (numS u.2.1) (numS v.2.1)).1≠0 then (cmpQ (numS u.2.1) (numS v.2.1)).1 else (cmpQ (numS u.2.2) (numS v.2.2)).1)= _
 rw[e1,e2,e3]
theorem aC2 {q:Rat}:numS q= [48]↔q=0:=by
 rw[<- xF]
 exact ⟨fun h=>by rw[<- jH q,h,jH],fun h=>by rw[h]⟩
theorem aRw {u v:V3}:nS3 (crs3 u v)=([48],[48],[48])↔parR u v:=by
 unfold nS3 crs3 parR
 rw[fT,fT,aC2,aC2,aC2]
theorem aMd {m:Mem} {s:Sp} (hm:memE m=0) (hs:okS s):∃u v p:Sp,aJq m.2.2.2.2.1 m.2.2.2.1 u/\aJq s m.2.2.2.1 v/\zA u v p/\aOa m.2.2.2.1 s/\aOa s m.2.2.2.2.1/\
  (metP m s↔p=([48],[48],[48])/\(cmpS m.2.2.2.1 s=0\/cmpS s m.2.2.2.2.1=0\/cmpS m.2.2.2.1 s=cmpS s m.2.2.2.2.1)):=by
 obtain ⟨_,hf,ht,_⟩:=nS hm
 obtain ⟨ef,zf⟩:=aOb hf
 obtain ⟨et,zt⟩:=aOb ht
 obtain ⟨es,zs⟩:=aOb hs
 obtain ⟨hu,zu⟩:=aOc zt zf (by decide) (by decide) (by decide)
 obtain ⟨hv,zv⟩:=aOc zs zf (by decide) (by decide) (by decide)
 have hp:=aRu zu zv (by decide) (by decide)
 obtain ⟨h1,e1⟩:=aRv zf zs (by decide) (by decide) (by decide)
 obtain ⟨h2,e2⟩:=aRv zs zt (by decide) (by decide) (by decide)
 rw[<- et,<- ef] at hu
 rw[<- es,<- ef] at hv
 rw[<- es,<- ef] at h1 e1
 rw[<- es,<- et] at h2 e2
 refine ⟨_,_,_,hu,hv,hp,h1,h2,?_⟩
 rw[aRw,e1,e2]
 exact lH
def c3153:Con:=bB 153 true fun args K=>match args with | [.agg [.val (.int .i64 k),.val (.int .i64 f),.val (.int .i64 o),.str a,.str b,.str c,.str d,.str e,.str g,.val (.int .i64 w),.val (.int .i64 t)],.agg [.str x,.str y,.str z]]=>Need (memE (k,f,o,(a,b,c),(d,e,g),w,t)=0/\okS (x,y,z)) (K (.tup [.bl (metP (k,f,o,(a,b,c),(d,e,g),w,t) (x,y,z)) Cp,I 0])) | _=>False
theorem k3153:aS Tryz.prog c3153:=by
 refine kQ {} Tryz.func153 Tryz.ntmps153 (kc aRs (kc aN7 (kc aXk (kc k3202 (kc k3203 (kc k3204 kn)))))) fun _ _ h=>?_
 split at h
 case h_2=>exact h.elim
 rename_i k f o a b c d e g w t x y z
 have hh0:=h.ok
 refine kb h.go ?_
 obtain ⟨hm,hs⟩:=hh0
 obtain ⟨⟨u1,u2,u3⟩,⟨v1,v2,v3⟩,p,hu,hv,hp,h1,h2,hq⟩:=aMd hm hs
 obtain ⟨hc,hd⟩:=hs
 have hd2:¬ ¬dS 36 (x,y,z):=dC hd
 dsimp only at hu hv hp h1 h2 hq
 generalize metP (k,f,o,(a,b,c),(d,e,g),w,t) (x,y,z)=M at hq ⊢
 by_cases h3:p=([48],[48],[48])
 ·have h4:¬ ¬p=([48],[48],[48]):=dC h3
  by_cases h5:cmpS (a,b,c) (x,y,z)=0
  ·(repeat refine ZH ?_)
   (conv=>whnf)
   (repeat' first|exact trivial|rfl|apply aA)
   exact hq.2 ⟨h3,.inl h5⟩
  by_cases h6:cmpS (x,y,z) (d,e,g)=0
  ·(repeat refine ZH ?_)
   (conv=>whnf)
   (repeat' first|exact trivial|rfl|apply aA)
   exact hq.2 ⟨h3,.inr (.inl h6)⟩
  (repeat refine ZH ?_)
  (conv=>whnf)
  (repeat' first|exact trivial|rfl|apply aA)
  exact ⟨fun hh=>hq.2 ⟨h3,.inr (.inr hh)⟩,fun hh=>((hq.1 hh).2.resolve_left h5).resolve_left h6⟩
 (repeat refine ZH ?_)
 (conv=>whnf)
 (repeat' first|exact trivial|rfl|apply aA)
 all_goals exact fun hh=>h3 (hq.1 hh).1
abbrev CL:HO:=.cells [I 0] 189
theorem b149s (a b r:Bx) (h:subQ a b=(r,0)):sR Tryz.prog [c20n] {} Tryz.f149 [.ptr 0 0,.clo 192 [] [],S a,S b] [CL] (fun r' H'=>r'=S r/\H'= [CL]):=by
 (conv=>whnf)
 refine Need.mk rfl ?_
 (repeat refine ZH ?_)
 (conv=>whnf)
 refine ⟨_,_,⟨rfl,rfl⟩,rfl,?_,rfl,rfl,?_⟩
 all_goals (repeat' first|exact trivial|rfl|apply aA)
theorem b149m (a b r:Bx) (h:mulQ a b=(r,0)):sR Tryz.prog [c19n] {} Tryz.f149 [.ptr 0 0,.clo 193 [] [],S a,S b] [CL] (fun r' H'=>r'=S r/\H'= [CL]):=by
 (conv=>whnf)
 refine Need.mk rfl ?_
 (repeat refine ZH ?_)
 (conv=>whnf)
 refine ⟨_,_,⟨rfl,rfl⟩,rfl,?_,rfl,rfl,?_⟩
 all_goals (repeat' first|exact trivial|rfl|apply aA)
theorem b149d (a b r:Bx) (h:divQ a b=(r,0)):sR Tryz.prog [c14n] {} Tryz.f149 [.ptr 0 0,.clo 150 [] [],S a,S b] [CL] (fun r' H'=>r'=S r/\H'= [CL]):=by
 (conv=>whnf)
 refine Need.mk rfl ?_
 (repeat refine ZH ?_)
 (conv=>whnf)
 refine ⟨_,_,⟨rfl,rfl⟩,rfl,?_,rfl,rfl,?_⟩
 all_goals (repeat' first|exact trivial|rfl|apply aA)
theorem b149a (a b r:Bx) (h:addQ a b=(r,0)):sR Tryz.prog [c17n] {} Tryz.f149 [.ptr 0 0,.clo 200 [] [],S a,S b] [CL] (fun r' H'=>r'=S r/\H'= [CL]):=by
 (conv=>whnf)
 refine Need.mk rfl ?_
 (repeat refine ZH ?_)
 (conv=>whnf)
 refine ⟨_,_,⟨rfl,rfl⟩,rfl,?_,rfl,rfl,?_⟩
 all_goals (repeat' first|exact trivial|rfl|apply aA)
noncomputable def qT:Con:=aD4 149 189 fun args e0 K=>match args with
 | [.clo 192 [] [],.str a,.str b]=>Need (e0=0) (Alt (Has (fun r:Bx=>subQ a b=(r,0)) fun r=>K (S r) 0) False)
 | [.clo 193 [] [],.str a,.str b]=>Need (e0=0) (Alt (Has (fun r:Bx=>mulQ a b=(r,0)) fun r=>K (S r) 0) False)
 | [.clo 150 [] [],.str a,.str b]=>Need (e0=0) (Alt (Has (fun r:Bx=>divQ a b=(r,0)) fun r=>K (S r) 0) False)
 | [.clo 200 [] [],.str a,.str b]=>Need (e0=0) (Alt (Has (fun r:Bx=>addQ a b=(r,0)) fun r=>K (S r) 0) False)
 | _=>False
theorem aF8:aS Tryz.prog qT:=by
 refine zO (enters_of Tryz.func149 (by kernel_rfl) rfl) ?_
 intro args e0 K h
 split at h
 ·rename_i a b
  obtain ⟨h1,hk⟩:=h
  subst h1
  rcases hk.or with hk | hk
  ·obtain ⟨r,hp,hK⟩:=hk.ex
   exact ⟨_,_,hK,rfl,fX (by simp[k20n]) Tryz.func149 (by simp[Tryz.ntmps149]) (b149s a b r hp)⟩
  exact hk.elim
 ·rename_i a b
  obtain ⟨h1,hk⟩:=h
  subst h1
  rcases hk.or with hk | hk
  ·obtain ⟨r,hp,hK⟩:=hk.ex
   exact ⟨_,_,hK,rfl,fX (by simp[k19n]) Tryz.func149 (by simp[Tryz.ntmps149]) (b149m a b r hp)⟩
  exact hk.elim
 ·rename_i a b
  obtain ⟨h1,hk⟩:=h
  subst h1
  rcases hk.or with hk | hk
  ·obtain ⟨r,hp,hK⟩:=hk.ex
   exact ⟨_,_,hK,rfl,fX (by simp[k14n]) Tryz.func149 (by simp[Tryz.ntmps149]) (b149d a b r hp)⟩
  exact hk.elim
 ·rename_i a b
  obtain ⟨h1,hk⟩:=h
  subst h1
  rcases hk.or with hk | hk
  ·obtain ⟨r,hp,hK⟩:=hk.ex
   exact ⟨_,_,hK,rfl,fX (by simp[k17n]) Tryz.func149 (by simp[Tryz.ntmps149]) (b149a a b r hp)⟩
  exact hk.elim
 exact h.elim
def jU (a b r:Sp):Prop:=subQ a.1 b.1=(r.1,0)/\subQ a.2.1 b.2.1=(r.2.1,0)/\subQ a.2.2 b.2.2=(r.2.2,0)
theorem b3147 (a b c d e g:Bx) (r:Sp) (h:jU (a,b,c) (d,e,g) r):sR Tryz.prog [qT] {} Tryz.f147 [.ptr 0 0,.agg [S a,S b,S c],.agg [S d,S e,S g]] [CL] (fun r' H'=>r'= .agg [S r.1,S r.2.1,S r.2.2]/\H'= [CL]):=by
 obtain ⟨r1,r2,r3⟩:=r
 obtain ⟨h1,h2,h3⟩:=h
 dsimp only at h1 h2 h3
 (conv=>whnf)
 refine Need.mk rfl ?_
 (repeat'((conv=>whnf);first|refine .h ?_|refine Zn ?_|apply pI|apply pJ|(apply PinH.mk;apply aF;apply aF)|exact Zf|refine Zc ?_ ?_|fail))
 (conv=>whnf)
 refine ⟨_,_,⟨rfl,rfl⟩,rfl,?_,rfl,rfl,?_⟩
 all_goals (repeat' first|exact trivial|rfl|apply aA)
noncomputable def xJ:Con:=aD4 147 189 fun args e0 K=>match args with
 | [.agg [.str a,.str b,.str c],.agg [.str d,.str e,.str g]]=>Need (e0=0) (Alt (Has (fun r:Sp=>jU (a,b,c) (d,e,g) r) fun r=>K (.agg [S r.1,S r.2.1,S r.2.2]) 0) False)
 | _=>False
theorem k3147:aS Tryz.prog xJ:=by
 refine zO (enters_of Tryz.func147 (by kernel_rfl) rfl) ?_
 intro args e0 K h
 split at h
 ·rename_i a b c d e g
  obtain ⟨h1,hk⟩:=h
  subst h1
  rcases hk.or with hk | hk
  ·obtain ⟨r,hp,hK⟩:=hk.ex
   exact ⟨_,_,hK,rfl,fX (by simp[aF8]) Tryz.func147 (by simp[Tryz.ntmps147]) (b3147 a b c d e g r hp)⟩
  exact hk.elim
 exact h.elim
def jV (a b c d r:Bx):Prop:=∃p q,mulQ a d=(p,0)/\mulQ b c=(q,0)/\subQ p q=(r,0)
theorem b148x (a b c d e g r:Bx) (h:jV a b d e r):sR Tryz.prog [qT] {} Tryz.f148 [.ptr 0 0,.agg [S a,S b,S c],.agg [S d,S e,S g],I 0,I 1] [CL] (fun r' H'=>r'=S r/\H'= [CL]):=by
 obtain ⟨p,q,h1,h2,h3⟩:=h
 (conv=>whnf)
 refine Need.mk rfl ?_
 (repeat'((conv=>whnf);first|refine .h ?_|refine Zn ?_|refine Z0 ?_|refine Z1 ?_|apply pI|apply pJ|(apply PinH.mk;apply aF;apply aF)|exact Zf|refine Zc ?_ ?_|fail))
 (conv=>whnf)
 refine ⟨_,_,⟨rfl,rfl⟩,rfl,?_,rfl,rfl,?_⟩
 all_goals (repeat' first|exact trivial|rfl|apply aA)
theorem b148y (a b c d e g r:Bx) (h:jV b c e g r):sR Tryz.prog [qT] {} Tryz.f148 [.ptr 0 0,.agg [S a,S b,S c],.agg [S d,S e,S g],I 1,I 2] [CL] (fun r' H'=>r'=S r/\H'= [CL]):=by
 obtain ⟨p,q,h1,h2,h3⟩:=h
 (conv=>whnf)
 refine Need.mk rfl ?_
 (repeat'((conv=>whnf);first|refine .h ?_|refine Zn ?_|refine Z1 ?_|refine Z2 ?_|apply pI|apply pJ|(apply PinH.mk;apply aF;apply aF)|exact Zf|refine Zc ?_ ?_|fail))
 (conv=>whnf)
 refine ⟨_,_,⟨rfl,rfl⟩,rfl,?_,rfl,rfl,?_⟩
 all_goals (repeat' first|exact trivial|rfl|apply aA)
theorem b148z (a b c d e g r:Bx) (h:jV c a g d r):sR Tryz.prog [qT] {} Tryz.f148 [.ptr 0 0,.agg [S a,S b,S c],.agg [S d,S e,S g],I 2,I 0] [CL] (fun r' H'=>r'=S r/\H'= [CL]):=by
 obtain ⟨p,q,h1,h2,h3⟩:=h
 (conv=>whnf)
 refine Need.mk rfl ?_
 (repeat'((conv=>whnf);first|refine .h ?_|refine Zn ?_|refine Z0 ?_|refine Z2 ?_|apply pI|apply pJ|(apply PinH.mk;apply aF;apply aF)|exact Zf|refine Zc ?_ ?_|fail))
 (conv=>whnf)
 refine ⟨_,_,⟨rfl,rfl⟩,rfl,?_,rfl,rfl,?_⟩
 all_goals (repeat' first|exact trivial|rfl|apply aA)
noncomputable def xK:Con:=aD4 148 189 fun args e0 K=>match args with
 | [.agg [.str a,.str b,.str c],.agg [.str d,.str e,.str g],.val (.int .i64 0),.val (.int .i64 1)]=>Need (e0=0) (Alt (Has (fun r:Bx=>jV a b d e r) fun r=>K (S r) 0) False)
 | [.agg [.str a,.str b,.str c],.agg [.str d,.str e,.str g],.val (.int .i64 1),.val (.int .i64 2)]=>Need (e0=0) (Alt (Has (fun r:Bx=>jV b c e g r) fun r=>K (S r) 0) False)
 | [.agg [.str a,.str b,.str c],.agg [.str d,.str e,.str g],.val (.int .i64 2),.val (.int .i64 0)]=>Need (e0=0) (Alt (Has (fun r:Bx=>jV c a g d r) fun r=>K (S r) 0) False)
 | _=>False
theorem k3148:aS Tryz.prog xK:=by
 refine zO (enters_of Tryz.func148 (by kernel_rfl) rfl) ?_
 intro args e0 K h
 split at h
 ·rename_i a b c d e g
  obtain ⟨h1,hk⟩:=h
  subst h1
  rcases hk.or with hk | hk
  ·obtain ⟨r,hp,hK⟩:=hk.ex
   exact ⟨_,_,hK,rfl,fX (by simp[aF8]) Tryz.func148 (by simp[Tryz.ntmps148]) (b148x a b c d e g r hp)⟩
  exact hk.elim
 ·rename_i a b c d e g
  obtain ⟨h1,hk⟩:=h
  subst h1
  rcases hk.or with hk | hk
  ·obtain ⟨r,hp,hK⟩:=hk.ex
   exact ⟨_,_,hK,rfl,fX (by simp[aF8]) Tryz.func148 (by simp[Tryz.ntmps148]) (b148y a b c d e g r hp)⟩
  exact hk.elim
 ·rename_i a b c d e g
  obtain ⟨h1,hk⟩:=h
  subst h1
  rcases hk.or with hk | hk
  ·obtain ⟨r,hp,hK⟩:=hk.ex
   exact ⟨_,_,hK,rfl,fX (by simp[aF8]) Tryz.func148 (by simp[Tryz.ntmps148]) (b148z a b c d e g r hp)⟩
  exact hk.elim
 exact h.elim
def alOK (a u:Sp) (s:Bx) (r:Sp):Prop:=∃p1 p2 p3,mulQ u.1 s=(p1,0)/\mulQ u.2.1 s=(p2,0)/\mulQ u.2.2 s=(p3,0)/\addQ a.1 p1=(r.1,0)/\addQ a.2.1 p2=(r.2.1,0)/\addQ a.2.2 p3=(r.2.2,0)
theorem b3151 (a b c d e g s:Bx) (r:Sp) (h:alOK (a,b,c) (d,e,g) s r):sR Tryz.prog [qT] {} Tryz.f151 [.ptr 0 0,.agg [S a,S b,S c],.agg [S d,S e,S g],S s] [CL] (fun r' H'=>r'= .agg [S r.1,S r.2.1,S r.2.2]/\H'= [CL]):=by
 obtain ⟨r1,r2,r3⟩:=r
 obtain ⟨p1,p2,p3,h1,h2,h3,h4,h5,h6⟩:=h
 dsimp only at h1 h2 h3 h4 h5 h6
 have hl: [a,b,c].length=3:=rfl
 (conv=>whnf)
 refine Need.mk rfl ?_
 (repeat' first|refine ZH ?_|refine Zg fun _=>?_)
 (conv=>whnf)
 refine ⟨_,_,⟨rfl,rfl⟩,rfl,?_,rfl,rfl,?_⟩
 all_goals (repeat' first|exact trivial|rfl|apply aA)
noncomputable def xL:Con:=aD4 151 189 fun args e0 K=>match args with
 | [.agg [.str a,.str b,.str c],.agg [.str d,.str e,.str g],.str s]=>Need (e0=0) (Alt (Has (fun r:Sp=>alOK (a,b,c) (d,e,g) s r) fun r=>K (.agg [S r.1,S r.2.1,S r.2.2]) 0) False)
 | _=>False
theorem k3151:aS Tryz.prog xL:=by
 refine zO (enters_of Tryz.func151 (by kernel_rfl) rfl) ?_
 intro args e0 K h
 split at h
 ·rename_i a b c d e g s
  obtain ⟨h1,hk⟩:=h
  subst h1
  rcases hk.or with hk | hk
  ·obtain ⟨r,hp,hK⟩:=hk.ex
   exact ⟨_,_,hK,rfl,fX (by simp[aF8]) Tryz.func151 (by simp[Tryz.ntmps151]) (b3151 a b c d e g s r hp)⟩
  exact hk.elim
 exact h.elim
def c3201:Con:=bB 201 true fun args K=>match args with | [.str a,.str b]=>K (I (cmpQ a b).1) | _=>False
theorem k3201:aS Tryz.prog c3201:=by
 refine kQ {} Tryz.func201 Tryz.ntmps201 (kc k38 kn) fun _ _ h=>?_
 split at h
 case h_2=>exact h.elim
 refine kb h ?_
 exact ZF
def xM:Con:=bB 152 true fun args K=>match args with | [.str a]=>K (.bl (0<=(cmpQ a [48]).1/\(cmpQ a [49]).1<=0) inferInstance) | _=>False
theorem k3152:aS Tryz.prog xM:=by
 refine kQ {} Tryz.func152 Tryz.ntmps152 (kc k3201 kn) fun _ _ h=>?_
 split at h
 case h_2=>exact h.elim
 rename_i a
 refine kb h ?_
 by_cases h:0<=(cmpQ a [48]).1
 ·(repeat refine ZR ?_)
  (conv=>whnf)
  exact ⟨fun hh=>⟨h,hh⟩,fun hh=>hh.2⟩
 (repeat refine ZR ?_)
 (conv=>whnf)
 exact fun hh=>h hh.1
def xN:Con:=bB 146 true fun args K=>match args with | [.str a,.val (.int .i64 12)]=>Need (chkQ a=0) (K (.bl (¬dK 12 (valQ a)) inferInstance)) | _=>False
theorem k3146:aS Tryz.prog xN:=by
 refine kQ {} Tryz.func146 Tryz.ntmps146 (kc aN5 (kc k88 kn)) fun _ _ h=>?_
 split at h
 case h_2=>exact h.elim
 rename_i a
 refine kb h.go ?_
 replace h:=h.ok
 have e:=aN8 h
 have hi:=aHt (k:=12) (a:=a)
 have e1:(digs (ptQ a).1).length=(digs (pn (valQ a))).length:=by rw[e]
 have e2:(ptQ a).2.length=(pd (valQ a)).length:=by rw[e]
 by_cases q:(12:Int)<(digs (ptQ a).1).length
 ·(repeat' first|refine ZR ?_|refine Zg fun _=>?_)
  (conv=>whnf)
  all_goals exact fun hd=>by have:=hi.2 hd;omega
 (repeat' first|refine ZR ?_|refine Zg fun _=>?_)
 (conv=>whnf)
 all_goals exact ⟨fun q2 hd=>by have:=hi.2 hd;omega,fun hd=>aL fun q2=>hd (hi.1 (by omega))⟩
def c3123:Con:=bB 123 true fun args K=>match args with | [.agg [.str a,.str b,.str c]]=>K (.agg [S a,S b]) | _=>False
theorem k3123:aS Tryz.prog c3123:=by
 refine kQ {} Tryz.func123 Tryz.ntmps123 kn fun _ _ h=>?_
 split at h
 case h_2=>exact h.elim
 refine kb h ?_
 exact ZF
def aXn:Con:=bB 42 true fun args K=>match args with | [.agg [.val (.int .i64 i),.str a,.str b,.str c,.str d,.str e,.str g,.val (.int .i64 u),.val (.int .i64 v)]]=>K (.bl (¬(okS (a,b,c)/\okS (d,e,g))) Cp) | _=>False
theorem k3042:aS Tryz.prog aXn:=by
 refine kQ {} Tryz.func42 Tryz.ntmps42 (kc k3043 kn) fun _ _ h=>?_
 split at h
 case h_2=>exact h.elim
 rename_i i a b c d e g u v
 refine kb h ?_
 by_cases h:okS (a,b,c)
 ·(repeat refine ZR ?_)
  (conv=>whnf)
  exact ⟨fun hn hh=>hn hh.2,fun hn hh=>hn ⟨h,hh⟩⟩
 (repeat refine ZR ?_)
 (conv=>whnf)
 exact fun hh=>h hh.1
def c3045:Con:=bB 45 true fun args K=>match args with | [.agg [.val (.int .i64 k),.val (.int .i64 f),.val (.int .i64 o),.str a,.str b,.str c,.str d,.str e,.str g,.val (.int .i64 w),.val (.int .i64 t)]]=>K (.bl (¬memE (k,f,o,(a,b,c),(d,e,g),w,t)=0) inferInstance) | _=>False
theorem k3045:aS Tryz.prog c3045:=by
 refine kQ {} Tryz.func45 Tryz.ntmps45 (kc aRs kn) fun _ _ h=>?_
 split at h
 case h_2=>exact h.elim
 refine kb h ?_
 (conv=>whnf)
def aXo:Con:=bB 83 true fun args K=>match args with | [.val (.int .i64 k)]=>K (.bl (rafP k) Cp) | _=>False
theorem aXp:aS Tryz.prog aXo:=by
 refine kQ {} Tryz.func83 Tryz.ntmps83 kn fun _ _ h=>?_
 split at h
 case h_2=>exact h.elim
 rename_i k
 refine kb h ?_
 unfold rafP
 by_cases h:1<=k
 ·(repeat refine ZR ?_)
  (conv=>whnf)
  exact ⟨fun hh=>⟨h,hh⟩,fun hh=>hh.2⟩
 (repeat refine ZR ?_)
 (conv=>whnf)
 exact fun hh=>h hh.1
def aXq:Con:=bB 84 true fun args K=>match args with | [.val (.int .i64 k)]=>K (.bl (hipP k) Cp) | _=>False
theorem aXr:aS Tryz.prog aXq:=by
 refine kQ {} Tryz.func84 Tryz.ntmps84 kn fun _ _ h=>?_
 split at h
 case h_2=>exact h.elim
 rename_i k
 refine kb h ?_
 unfold hipP
 by_cases h:k=6
 ·(repeat refine ZR ?_)
  (conv=>whnf)
  exact .inl h
 (repeat refine ZR ?_)
 (conv=>whnf)
 exact ⟨fun hh=>.inr hh,fun hh=>hh.resolve_left h⟩
def aXs:Con:=bB 79 true fun args K=>match args with | [.val (.int .i64 k)]=>K (.bl (sloP k) Cp) | _=>False
theorem aXt:aS Tryz.prog aXs:=by
 refine kQ {} Tryz.func79 Tryz.ntmps79 (kc aXp kn) fun _ _ h=>?_
 split at h
 case h_2=>exact h.elim
 rename_i k
 refine kb h ?_
 by_cases h:rafP k
 ·(repeat refine ZR ?_)
  (conv=>whnf)
  exact .inl h
 (repeat refine ZR ?_)
 (conv=>whnf)
 exact ⟨fun hh=>.inr hh,fun hh=>hh.resolve_left h⟩
def c3120:Con:=bB 120 true fun args K=>match args with | [.agg [.val (.int .i64 k),.val (.int .i64 f),.val (.int .i64 o),.str a,.str b,.str c,.str d,.str e,.str g,.val (.int .i64 w),.val (.int .i64 t)],.seq (.pair .str (.pair .str .str)) l]=>Need (memE (k,f,o,(a,b,c),(d,e,g),w,t)=0/\∀s∈l,okS s) (K (.tup [.bl (∃s,s∈l/\metP (k,f,o,(a,b,c),(d,e,g),w,t) s) Cp,I 0])) | _=>False
theorem aXu:aS Tryz.prog c3120:=by
 refine kQ { asks:=[(0,[])] } Tryz.func120 Tryz.ntmps120 (kc k3153 kn) fun _ _ h=>?_
 split at h
 case h_2=>exact h.elim
 rename_i k f o a b c d e g w t l
 change List (Bx × Bx × Bx) at l
 have hh0:=h.ok
 refine kb h.go ?_
 obtain ⟨h1,h2⟩:=hh0
 have hm:∀i,i<l.length->okS (l.getD i ([],[],[])):=fun i hi=>h2 _ (by rw[aB,aH hi];exact cU hi)
 (repeat'((conv=>whnf);first|refine Zg fun _=>?_|fail))
 refine Ask.mk ⟨{ X:=Nat,pre:=fun i=>i<=l.length/\∀j,j<i->¬metP (k,f,o,(a,b,c),(d,e,g),w,t) (l.getD j ([],[],[])),mod:=fun i _=>[(12,I i)],heap:=fun i H=>H,mu:=fun i=>l.length-i },rfl,?_⟩
 (repeat refine ZG ?_)
 refine ⟨⟨(0:Nat),⟨aI _,fun j hj=>by omega⟩,ZE⟩,fun (i:Nat) hi=>?_⟩
 obtain ⟨hi,hp⟩:=hi
 by_cases hlt:i<l.length
 ·have hc:memE (k,f,o,(a,b,c),(d,e,g),w,t)=0/\okS ((l.getD i ([],[],[])).1,(l.getD i ([],[],[])).2.1,(l.getD i ([],[],[])).2.2):=⟨h1,hm i hlt⟩
  by_cases hb:metP (k,f,o,(a,b,c),(d,e,g),w,t) ((l.getD i ([],[],[])).1,(l.getD i ([],[],[])).2.1,(l.getD i ([],[],[])).2.2)
  ·have hx:∃s,s∈l/\metP (k,f,o,(a,b,c),(d,e,g),w,t) s:=⟨l.getD i ([],[],[]),by rw[aB,aH hlt];exact cU hlt,hb⟩
   generalize (∃s,s∈l/\metP (k,f,o,(a,b,c),(d,e,g),w,t) s)=Q at hx ⊢
   (repeat refine ZR ?_)
   (conv=>whnf)
   (repeat' first|exact trivial|rfl|apply aA)
   all_goals first | exact hx | exact ⟨fun _=>hx,fun _=>hb⟩
  (repeat refine ZR ?_)
  refine ⟨(i+1:Nat),by show l.length-(i+1)<l.length-i;omega,⟨hlt,fun j hj=>?_⟩,ZE⟩
  by_cases e:j=i
  ·subst e;exact hb
  exact hp j (by omega)
 have hx:¬ ∃s,s∈l/\metP (k,f,o,(a,b,c),(d,e,g),w,t) s:=by
  rintro ⟨s,hs,hq⟩
  obtain ⟨j,hj,rfl⟩:=bV hs
  have:=hp j (by omega)
  rw[aB,aH hj] at this
  exact this hq
 generalize (∃s,s∈l/\metP (k,f,o,(a,b,c),(d,e,g),w,t) s)=Q at hx ⊢
 exact ZRx hx
abbrev P2:=Bx × Bx
def c3258:Con:=bB 258 true fun args K=>match args with | [.str a,.str b]=>K (I (cmpQ a b).1) | _=>False
theorem aXz:aS Tryz.prog c3258:=by
 refine kQ {} Tryz.func258 Tryz.ntmps258 (kc k38 kn) fun _ _ h=>?_
 split at h
 case h_2=>exact h.elim
 refine kb h ?_
 exact ZF
noncomputable def c3260:Con:=bB 260 true fun args K=>match args with | [.str a,.str b]=>Alt (Has (fun r:Bx=>subQ a b=(r,0)) fun r=>K (S r)) False | _=>False
theorem k3260:aS Tryz.prog c3260:=by
 refine kQ {} Tryz.func260 Tryz.ntmps260 (kc k20n kn) fun _ _ h=>?_
 split at h
 case h_2=>exact h.elim
 obtain ⟨r,h0,hK⟩:=(h.or.resolve_right id).ex
 refine kb hK ?_
 have h:=h0
 (repeat refine ZH ?_)
 (conv=>whnf)
noncomputable def c3259:Con:=bB 259 true fun args K=>match args with | [.str a,.str b]=>Alt (Has (fun r:Bx=>mulQ a b=(r,0)) fun r=>K (S r)) False | _=>False
theorem k3259:aS Tryz.prog c3259:=by
 refine kQ {} Tryz.func259 Tryz.ntmps259 (kc k19n kn) fun _ _ h=>?_
 split at h
 case h_2=>exact h.elim
 obtain ⟨r,h0,hK⟩:=(h.or.resolve_right id).ex
 refine kb hK ?_
 have h:=h0
 (repeat refine ZH ?_)
 (conv=>whnf)
def aJt (a b c:P2) (n:Int):Prop:=∃p1 p2 q1 q2 x y,subQ b.1 a.1=(p1,0)/\subQ c.2 a.2=(p2,0)/\subQ b.2 a.2=(q1,0)/\subQ c.1 a.1=(q2,0)/\mulQ p1 p2=(x,0)/\mulQ q1 q2=(y,0)/\n=(cmpQ x y).1
noncomputable def aX0:Con:=bB 206 true fun args K=>match args with | [.agg [.str a1,.str a2],.agg [.str b1,.str b2],.agg [.str d1,.str d2]]=>Alt (Has (fun r:Int=>aJt (a1,a2) (b1,b2) (d1,d2) r) fun r=>K (I r)) False | _=>False
theorem k3206:aS Tryz.prog aX0:=by
 refine kQ {} Tryz.func206 Tryz.ntmps206 (kc k3260 (kc k3259 (kc aXz kn))) fun _ _ h=>?_
 split at h
 case h_2=>exact h.elim
 obtain ⟨r,h0,hK⟩:=(h.or.resolve_right id).ex
 refine kb hK ?_
 have h:=h0
 obtain ⟨p1,p2,q1,q2,x,y,h1,h2,h3,h4,h5,h6,rfl⟩:=h
 dsimp only at h1 h2 h3 h4
 (repeat'((conv=>whnf);first|refine .h ?_|apply pI|apply pJ|fail))
 exact ZF
noncomputable def ordS (p q:P2):Int:=if (cmpQ p.1 q.1).1≠0 then (cmpQ p.1 q.1).1 else (cmpQ p.2 q.2).1
def aX1:Con:=bB 209 true fun args K=>match args with | [.agg [.str a1,.str a2],.agg [.str b1,.str b2]]=>K (I (ordS (a1,a2) (b1,b2))) | _=>False
theorem aR8:aS Tryz.prog aX1:=by
 refine kQ {} Tryz.func209 Tryz.ntmps209 (kc aXz kn) fun _ _ h=>?_
 split at h
 case h_2=>exact h.elim
 rename_i a1 a2 b1 b2
 refine kb h ?_
 by_cases h:(cmpQ a1 b1).1=0
 ·have e:ordS (a1,a2) (b1,b2)=(cmpQ a2 b2).1:=aC (dC h)
  rw[e]
  exact ZRF
 have e:ordS (a1,a2) (b1,b2)=(cmpQ a1 b1).1:=aD h
 rw[e]
 exact ZRF
noncomputable def loS (a b:P2):P2:=if 0<ordS a b then b else a
noncomputable def hiS (a b:P2):P2:=if 0<ordS a b then a else b
noncomputable def aX2:Con:=bB 207 true fun args K=>match args with | [.agg [.str a1,.str a2,.str b1,.str b2]]=>Alt (Has (fun r:P2=>r=loS (a1,a2) (b1,b2)) fun r=>K (.agg [S r.1,S r.2])) False | _=>False
theorem k3207:aS Tryz.prog aX2:=by
 refine kQ {} Tryz.func207 Tryz.ntmps207 (kc aR8 kn) fun _ _ h=>?_
 split at h
 case h_2=>exact h.elim
 rename_i a1 a2 b1 b2
 obtain ⟨r,h0,hK⟩:=(h.or.resolve_right id).ex
 refine kb hK ?_
 have h:=h0
 by_cases hc:0<ordS (a1,a2) (b1,b2)
 ·have e:r=(b1,b2):=h.trans (aD hc)
  subst e
  exact ZRF
 have e:r=(a1,a2):=h.trans (aC hc)
 subst e
 exact ZRF
noncomputable def aX3:Con:=bB 208 true fun args K=>match args with | [.agg [.str a1,.str a2,.str b1,.str b2]]=>Alt (Has (fun r:P2=>r=hiS (a1,a2) (b1,b2)) fun r=>K (.agg [S r.1,S r.2])) False | _=>False
theorem k3208:aS Tryz.prog aX3:=by
 refine kQ {} Tryz.func208 Tryz.ntmps208 (kc aR8 kn) fun _ _ h=>?_
 split at h
 case h_2=>exact h.elim
 rename_i a1 a2 b1 b2
 obtain ⟨r,h0,hK⟩:=(h.or.resolve_right id).ex
 refine kb hK ?_
 have h:=h0
 by_cases hc:0<ordS (a1,a2) (b1,b2)
 ·have e:r=(a1,a2):=h.trans (aD hc)
  subst e
  exact ZRF
 have e:r=(b1,b2):=h.trans (aC hc)
 subst e
 exact ZRF
noncomputable def mgS (a b q:P2) (t:Int):Int:=
 if t≠0 then 0 else 1-ordS (if 0<ordS q (loS a b) then q else loS a b) (if ordS q (hiS a b)<0 then q else hiS a b)
def mgOK (a b q:P2) (r:Int):Prop:=∃t,aJt a b q t/\aJt q q a 0/\aJt q q b 0/\r=mgS a b q t
theorem yE (a b:Bx): -1<=(cmpQ a b).1/\(cmpQ a b).1<=1:=by
 have z:(-1:Int)<=0/\(0:Int)<=1:=by decide
 unfold cmpQ
 split
 ·exact z
 split
 ·exact z
 unfold cmpf
 split
 ·exact z
 unfold cmpI
 dsimp only
 split
 ·exact ⟨by decide,by decide⟩
 split
 ·exact ⟨by decide,by decide⟩
 exact ⟨by decide,by decide⟩
theorem tK (a b:P2): -1<=ordS a b/\ordS a b<=1:=by
 unfold ordS
 split
 ·exact yE _ _
 exact yE _ _
theorem aR9 (q:P2):loS q q=q:=by unfold loS;split<;>rfl
theorem aSa (q:P2):hiS q q=q:=by unfold hiS;split<;>rfl
theorem b3155 (a1 a2 b1 b2 d1 d2 e1 e2:Bx) (h0:e1=d1/\e2=d2) (r:Int) (h:mgOK (a1,a2) (b1,b2) (d1,d2) r):body Tryz.prog [aX0,aX2,aX3,aX1] {} true Tryz.f155 [.agg [S a1,S a2,S b1,S b2],.agg [S d1,S d2,S e1,S e2]] (I r):=by
 obtain ⟨rfl,rfl⟩:=h0
 obtain ⟨t,h1,h2,h3,rfl⟩:=h
 have ht: -1<=t/\t<=1:=by
  obtain ⟨p1,p2,q1,q2,x,y,_,_,_,_,_,_,rfl⟩:=h1
  exact yE _ _
 by_cases hz:t=0
 ·have e:mgS (a1,a2) (b1,b2) (e1,e2) t=1-ordS (if 0<ordS (e1,e2) (loS (a1,a2) (b1,b2)) then (e1,e2) else loS (a1,a2) (b1,b2)) (if ordS (e1,e2) (hiS (a1,a2) (b1,b2))<0 then (e1,e2) else hiS (a1,a2) (b1,b2)):=aC (dC hz)
  rw[e]
  have q1:((e1,e2):P2)=loS (e1,e2) (e1,e2):=(aR9 _).symm
  have q2:((e1,e2):P2)=hiS (e1,e2) (e1,e2):=(aSa _).symm
  obtain ⟨L,hL⟩:∃L,L=loS (a1,a2) (b1,b2):=⟨_,rfl⟩
  obtain ⟨U,hU⟩:∃U,U=hiS (a1,a2) (b1,b2):=⟨_,rfl⟩
  rw[<- hL,<- hU]
  obtain ⟨L1,L2⟩:=L
  obtain ⟨U1,U2⟩:=U
  clear e
  subst hz
  by_cases c1:0<ordS (e1,e2) (L1,L2)
  ·rw[aD c1]
   by_cases c2:ordS (e1,e2) (U1,U2)<0
   ·rw[aD c2]
    have hr:=tK (e1,e2) (e1,e2)
    (repeat'((conv=>whnf);first|refine .h ?_|refine Zn ?_|apply pI|apply pJ|exact Zf|refine Zc ?_ ?_|refine Zy ?_|refine Zm ?_|fail))
    exact ZF
   rw[aC c2]
   have hr:=tK (e1,e2) (U1,U2)
   (repeat'((conv=>whnf);first|refine .h ?_|refine Zn ?_|apply pI|apply pJ|exact Zf|refine Zc ?_ ?_|refine Zy ?_|refine Zm ?_|fail))
   exact ZF
  rw[aC c1]
  by_cases c2:ordS (e1,e2) (U1,U2)<0
  ·rw[aD c2]
   have hr:=tK (L1,L2) (e1,e2)
   (repeat'((conv=>whnf);first|refine .h ?_|refine Zn ?_|apply pI|apply pJ|exact Zf|refine Zc ?_ ?_|refine Zy ?_|refine Zm ?_|fail))
   exact ZF
  rw[aC c2]
  have hr:=tK (L1,L2) (U1,U2)
  (repeat'((conv=>whnf);first|refine .h ?_|refine Zn ?_|apply pI|apply pJ|exact Zf|refine Zc ?_ ?_|refine Zm ?_|fail))
  exact ZF
 have e:mgS (a1,a2) (b1,b2) (e1,e2) t=0:=aD hz
 rw[e]
 have hm:¬t*t<=0:=by
  have:t=1\/t= -1:=by omega
  rcases this with rfl | rfl<;>decide
 have hm2: -9223372036854775808<=t*t/\t*t<=9223372036854775807:=by
  have:t=1\/t= -1:=by omega
  rcases this with rfl | rfl<;>decide
 (repeat'((conv=>whnf);first|refine .h ?_|refine Zn ?_|apply pI|apply pJ|refine Zy ?_|refine Zm ?_|fail))
 exact ZF
noncomputable def aSb:Con:=bB 155 true fun args K=>match args with
 | [.agg [.str a1,.str a2,.str b1,.str b2],.agg [.str d1,.str d2,.str e1,.str e2]]=>Need (e1=d1/\e2=d2) (Alt (Has (fun r:Int=>mgOK (a1,a2) (b1,b2) (d1,d2) r) fun r=>K (I r)) False)
 | _=>False
theorem k3155:aS Tryz.prog aSb:=by
 refine kO Tryz.func155 fun args K h=>?_
 simp only[aSb] at h;split at h
 ·rename_i a1 a2 b1 b2 d1 d2 e1 e2
  rcases h.go.or with hk | hk
  ·obtain ⟨r,hp,hK⟩:=hk.ex
   exact ⟨_,hK,triB Tryz.func155 Tryz.ntmps155 (by simp[k3206,k3207,k3208,aR8]) (b3155 a1 a2 b1 b2 d1 d2 e1 e2 h.ok r hp)⟩
  exact hk.elim
 exact h.elim
def c3205:Con:=bB 205 true fun args K=>match args with | [.str a]=>Need (chkQ a=0/\dK 36 (valQ a)) (K (I 0)) | _=>False
theorem k3205:aS Tryz.prog c3205:=by
 refine kQ {} Tryz.func205 Tryz.ntmps205 (kc aN5 (kc k88 kn)) fun _ _ h=>?_
 split at h
 case h_2=>exact h.elim
 rename_i a
 refine kb h.go ?_
 replace h:=h.ok
 obtain ⟨h,hd⟩:=h
 have e:=aN8 h
 have hi:=aHt (k:=36) (a:=a)
 have hb:max ((digs (ptQ a).1).length:Int) ((ptQ a).2.length:Int)<=36:=by rw[e];exact hi.2 hd
 have hb':¬36<max ((digs (ptQ a).1).length:Int) ((ptQ a).2.length:Int):=Int.not_lt.2 hb
 exact ZRF
def okP (p:P2):Prop:=(chkQ p.1=0/\dK 36 (valQ p.1))/\chkQ p.2=0/\dK 36 (valQ p.2)
def aX4:Con:=bB 154 true fun args K=>match args with | [.agg [.str a,.str b]]=>Need (okP (a,b)) (K (I 0)) | _=>False
theorem k3154:aS Tryz.prog aX4:=by
 refine kQ {} Tryz.func154 Tryz.ntmps154 (kc k21 (kc k3205 kn)) fun _ _ h=>?_
 split at h
 case h_2=>exact h.elim
 rename_i a b
 refine kb h.go ?_
 replace h:=h.ok
 obtain ⟨⟨h1,h2⟩,h3,h4⟩:=h
 dsimp only at h1 h2 h3 h4
 have j1:chkQ a=0/\dK 36 (valQ a):=⟨h1,h2⟩
 have j2:chkQ b=0/\dK 36 (valQ b):=⟨h3,h4⟩
 (repeat'((conv=>whnf);first|refine Zn ?_|refine Z0 ?_|refine Z1 ?_|apply pI|apply pJ|refine Zy ?_|refine Zm ?_|fail))
 exact ZF
theorem b3122 (a1 a2 b1 b2 d1 d2 e1 e2:Bx) (h0:(e1=d1/\e2=d2)/\okP (a1,a2)/\okP (b1,b2)/\okP (d1,d2)) (r:Int) (h:mgOK (a1,a2) (b1,b2) (d1,d2) r):body Tryz.prog [aX4,aSb] {} true Tryz.f122 [.agg [S a1,S a2],.agg [S b1,S b2],.agg [S d1,S d2],.agg [S e1,S e2]] (.tup [I r,I 0]):=by
 obtain ⟨⟨rfl,rfl⟩,g1,g2,g3⟩:=h0
 have g4:e1=e1/\e2=e2:=⟨rfl,rfl⟩
 exact ZHF
noncomputable def aX5:Con:=bB 122 true fun args K=>match args with
 | [.agg [.str a1,.str a2],.agg [.str b1,.str b2],.agg [.str d1,.str d2],.agg [.str e1,.str e2]]=>Need ((e1=d1/\e2=d2)/\okP (a1,a2)/\okP (b1,b2)/\okP (d1,d2)) (Alt (Has (fun r:Int=>mgOK (a1,a2) (b1,b2) (d1,d2) r) fun r=>K (.tup [I r,I 0])) False)
 | _=>False
theorem k3122:aS Tryz.prog aX5:=by
 refine kO Tryz.func122 fun args K h=>?_
 simp only[aX5] at h;split at h
 ·rename_i a1 a2 b1 b2 d1 d2 e1 e2
  rcases h.go.or with hk | hk
  ·obtain ⟨r,hp,hK⟩:=hk.ex
   exact ⟨_,hK,triB Tryz.func122 Tryz.ntmps122 (by simp[k3154,k3155]) (b3122 a1 a2 b1 b2 d1 d2 e1 e2 h.ok r hp)⟩
  exact hk.elim
 exact h.elim
end RB
end
section
open Go Go.Proofs Go.Eng Go.Shelf
namespace EB
abbrev I (n:Int):SV:=.val (.int .i64 n)
abbrev Ls (xs:List Int):SV:=.seq (.int .i64) xs
abbrev Two:Ty:=.pair (.int .i64) (.int .i64)
abbrev Ps (xs:List (Int × Int)):SV:=.seq Two xs
theorem cX {n:Int} {C:Nat->Prop} (j:Nat) (e:n=(j:Int)) (h:C j):Ix n C:=by
 refine ⟨fun i e'=>?_⟩
 have:j=i:=by omega
 subst this;exact h
def hasW (ws:List Int) (i:Int):Prop:=i/64<(ws.length:Int)/\qU .and .u64 (shrI .u64 (ws.getD (i/64).toNat 0) (i%64)) 1=1
instance (ws:List Int) (i:Int):Decidable (hasW ws i):=by unfold hasW;exact inferInstance
def putW (ws:List Int) (i:Int):List Int:=ws.set (i/64).toNat (qU .or .u64 (ws.getD (i/64).toNat 0) (shlI .u64 1 (i%64)))
def aYo (ws:List Int) (i:Int):List Int:=ws.set (i/64).toNat (qU .andNot .u64 (ws.getD (i/64).toNat 0) (shlI .u64 1 (i%64)))
def aY7 (ws:List Int) (k:Nat):List Int:=((List.range k).filter fun (i:Nat)=>decide (hasW ws i)).map fun (i:Nat)=>(i:Int)
def rowOf (l:List (Int × Int)) (k m:Nat):List Int:=((l.take k).filter fun r=>decide (r.1=(m:Int)/\0<=r.2)).map (·.2)
def onN (n:Nat) (l:List (Int × Int)) (k:Nat):List (List Int):=(List.range n).map (rowOf l k)
def restB (l:List (Int × Int)) (k m:Nat):Bool:=(l.take k).any fun r=>decide (r.1=(m:Int))
def restN (n:Nat) (l:List (Int × Int)) (k:Nat):List Bool:=(List.range n).map (restB l k)
theorem aHy (n:Nat) (l:List (Int × Int)) (k:Nat):(onN n l k).length=n:=by simp[onN]
theorem restN_len (n:Nat) (l:List (Int × Int)) (k:Nat):(restN n l k).length=n:=by simp[restN]
theorem onN_get (n:Nat) (l:List (Int × Int)) (k m:Nat) (h:m<n):(onN n l k).getD m []=rowOf l k m:=by
 simp[onN,aB,h]
theorem restN_get (n:Nat) (l:List (Int × Int)) (k m:Nat) (h:m<n):(restN n l k).getD m false=restB l k m:=by
 simp[restN,aB,h]
theorem aSw (n:Nat) (l:List (Int × Int)):onN n l 0=List.replicate n []:=by
 apply eD<;>simp[onN,rowOf]
theorem restN_zero (n:Nat) (l:List (Int × Int)):restN n l 0=List.replicate n false:=by
 apply eD<;>simp[restN,restB]
theorem aGd (l:List (Int × Int)) (k:Nat) (h:k<l.length):l.take (k+1)=l.take k++ [l.getD k (0,0)]:=by
 rw[dA h];simp[aB,h]
theorem wM (l:List (Int × Int)) (k m:Nat):(rowOf l k m).length<=l.length:=by
 unfold rowOf
 rw[pQ]
 refine bI (List.length_filter_le _ _) ?_
 rw[bA];omega
theorem rowOf_succ (l:List (Int × Int)) (k m:Nat) (h:k<l.length):rowOf l (k+1) m=if (l.getD k (0,0)).1=(m:Int)/\0<=(l.getD k (0,0)).2 then rowOf l k m++ [(l.getD k (0,0)).2] else rowOf l k m:=by
 unfold rowOf
 rw[aGd l k h,List.filter_append,iF]
 by_cases e:(l.getD k (0,0)).1=(m:Int)/\0<=(l.getD k (0,0)).2
 ·rw[aD e];simp only[tG,mC e];rfl
 rw[aC e];simp only[tG,decide_eq_false e];simp
theorem aDa (l:List (Int × Int)) (k m:Nat) (h:k<l.length):restB l (k+1) m=(restB l k m || decide ((l.getD k (0,0)).1=(m:Int))):=by
 unfold restB
 rw[aGd l k h,List.any_append];simp
theorem aSx (n:Nat) (l:List (Int × Int)) (k:Nat) (h:k<l.length) (h2:¬0<=(l.getD k (0,0)).2):onN n l (k+1)=onN n l k:=by
 unfold onN
 refine pU fun m _=>?_
 rw[rowOf_succ l k m h,aC fun e=>h2 e.2]
theorem aSy (n:Nat) (l:List (Int × Int)) (k u:Nat) (h:k<l.length) (hu:(l.getD k (0,0)).1=(u:Int)) (h2:0<=(l.getD k (0,0)).2) (hun:u<n):(onN n l k).set u ((onN n l k).getD u []++ [(l.getD k (0,0)).2])=onN n l (k+1):=by
 apply cK
 intro m
 rw[cZ,aHy,onN_get _ _ _ _ hun]
 by_cases e:u=m
 ·subst e
  simp only[if_true,aD hun,onN,gZ,List.getElem?_range hun,fM]
  rw[rowOf_succ l k u h,aD ⟨hu,h2⟩]
 rw[aC e]
 simp only[onN,gZ]
 cases hm:(List.range n)[m]? with
 | none=>rfl
 | some j=>
  have hj:j=m:=by
   have:=aK.1 hm
   obtain ⟨h1,h2⟩:=this
   simpa using h2.symm
  subst hj
  simp only[fM]
  rw[rowOf_succ l k j h,aC (by rintro ⟨h1,_⟩;omega)]
theorem restN_step (n:Nat) (l:List (Int × Int)) (k u:Nat) (h:k<l.length) (hu:(l.getD k (0,0)).1=(u:Int)) (hun:u<n):(restN n l k).set u true=restN n l (k+1):=by
 apply cK
 intro m
 rw[cZ,restN_len]
 by_cases e:u=m
 ·subst e
  simp only[if_true,aD hun,restN,gZ,List.getElem?_range hun,fM]
  rw[aDa l k u h,mC hu,Bool.or_true]
 rw[aC e]
 simp only[restN,gZ]
 cases hm:(List.range n)[m]? with
 | none=>rfl
 | some j=>
  have hj:j=m:=by
   have:=aK.1 hm
   obtain ⟨h1,h2⟩:=this
   simpa using h2.symm
  subst hj
  simp only[fM]
  rw[aDa l k j h,decide_eq_false (by omega),Bool.or_false]
def aCq (n:Int) (l:List (Int × Int)):Prop:=l.length<=4096/\0<=n/\n<=512/\∀i,i<l.length->0<=(l.getD i (0,0)).1/\(l.getD i (0,0)).1<n/\ -1<=(l.getD i (0,0)).2/\(l.getD i (0,0)).2<n
def zD {α:Type} (p:α->Bool) (xs:List α):Int:=match xs.findIdx? p with
 | some i=>i
 | none=> -1
theorem aMj {α:Type} {p:α->Bool} {xs:List α} (d:α) (h:∀j,j<xs.length->p (xs.getD j d)=false):zD p xs= -1:=by
 have:xs.findIdx? p=none:=by
  rw[List.findIdx?_eq_none_iff]
  intro x hx
  obtain ⟨j,hj,rfl⟩:=bV hx
  have:=h j hj
  simpa [aB,hj] using this
 simp[zD,this]
theorem aMk {α:Type} {p:α->Bool} {xs:List α} (d:α) {i:Nat} (hi:i<xs.length) (hp:p (xs.getD i d)=true) (h:∀j,j<i->p (xs.getD j d)=false):zD p xs=i:=by
 have:xs.findIdx? p=some i:=by
  rw[jD]
  refine ⟨hi,by simpa [aB,hi] using hp,fun j hj=>?_⟩
  have:=h j hj
  have hj':j<xs.length:=by omega
  simpa [aB,hj'] using this
 simp[zD,this]
theorem aQk {α:Type} (p:α->Bool) (xs:List α):0<=zD p xs↔xs.any p=true:=by
 unfold zD
 cases h:xs.findIdx? p with
 | none=>
  rw[List.findIdx?_eq_none_iff] at h
  simp only
  constructor
  ·intro h;omega
  intro h2
  rw[kA] at h2
  obtain ⟨x,hx,hp⟩:=h2
  rw[h x hx] at hp;cases hp
 | some i=>
  rw[jD] at h
  obtain ⟨hi,hp,_⟩:=h
  simp only
  constructor
  ·intro _
   rw[kA]
   exact ⟨_,cU hi,hp⟩
  intro _;omega
def anIx {α:Type} (t:Nat) (p:α->Bool) (xs:List α) (d:α):Ann:={ X:=Nat,pre:=fun i=>i<=xs.length/\∀j,j<i->p (xs.getD j d)=false,mod:=fun i _=>[(t,I i)],mu:=fun i=>xs.length-i }
def lackP (ws:List Int) (k:Int):Bool:=decide (¬hasW ws k)
def aAu (on:List (List Int)) (ws:List Int) (i:Int):Prop:=¬hasW ws i/\¬(on.getD i.toNat []).any (lackP ws)=true
instance (on:List (List Int)) (ws:List Int) (i:Int):Decidable (aAu on ws i):=by unfold aAu;exact inferInstance
def cmpI (a b:Int):Int:=if a<b then -1 else if b<a then 1 else 0
def orI:List Int->Int
 | []=>0
 | x::r=>if x=0 then orI r else x
theorem aS6 (xs:List Int) (i:Nat) (hi:i<xs.length) (hx:xs.getD i 0≠0) (h:∀j,j<i->xs.getD j 0=0):orI xs=xs.getD i 0:=by
 induction xs generalizing i with
 | nil=>simp at hi
 | cons x r ih=>
  cases i with
  | zero=>simp at hx;simp[orI,hx]
  | succ i=>
   have h0:x=0:=by simpa using h 0 (by omega)
   have:=ih i (by simpa using hi) (by simpa using hx) (fun j hj=>by simpa using h (j+1) (by omega))
   simp[orI,h0,this]
theorem aJy (xs:List Int) (h:∀j,j<xs.length->xs.getD j 0=0):orI xs=0:=by
 induction xs with
 | nil=>rfl
 | cons x r ih=>
  have h0:x=0:=by simpa using h 0 (by simp)
  simp only[orI,h0,if_true]
  exact ih fun j hj=>by simpa using h (j+1) (by simpa using hj)
def c74:Con:=bB 99 true fun args K=>match args with | [.val (.int .i64 a)]=>K (.val (.bool false)) | _=>False
theorem k74:aS Tryz.prog c74:=by
 refine kQ {} Tryz.func99 Tryz.ntmps99 kn fun _ _ h=>?_
 split at h
 case h_2=>exact h.elim
 refine kb h ?_
 (conv=>whnf)
 simp
def c68:Con:=bB 64 true fun args K=>match args with | [.val (.int .i64 a),.val (.int .i64 b)]=>K (I (cmpI a b)) | _=>False
theorem k68:aS Tryz.prog c68:=by
 refine kQ {} Tryz.func64 Tryz.ntmps64 (kc k74 kn) fun _ _ h=>?_
 split at h
 case h_2=>exact h.elim
 refine kb h ?_
 (apply Br.mk<;>intro)
 ·rename_i h
  (conv=>whnf)
  exact ⟨rfl,(aD h).symm⟩
 rename_i h
 (apply Br.mk<;>intro)
 ·rename_i h2
  (conv=>whnf)
  exact ⟨rfl,by unfold cmpI;rw[aC h,aD h2]⟩
 rename_i h2
 (conv=>whnf)
 exact ⟨rfl,by unfold cmpI;rw[aC h,aC h2]⟩
theorem b67 (xs:List Int):body Tryz.prog [] { loops:=[(0,{ X:=Nat,pre:=fun i=>i<=xs.length/\∀j,j<i->xs.getD j 0=0,mod:=fun i _=>[(8,I i)],mu:=fun i=>xs.length-i })] } true Tryz.f63 [Ls xs] (I (orI xs)):=by
 (repeat' first|refine ZG ?_|refine Zg fun _=>?_)
 refine ⟨⟨(0:Nat),⟨aI _,by omega⟩,ZE⟩,fun (i:Nat) hi=>?_⟩
 obtain ⟨hi,hb⟩:=hi
 (apply Br.mk<;>intro)
 ·have hlt:i<xs.length:=by omega
  (repeat' first|refine ZG ?_|refine Zg fun _=>?_)
  (apply Br.mk<;>intro)
  ·rename_i hh
   (conv=>whnf)
   exact ⟨rfl,(aS6 xs i hlt hh hb).symm⟩
  rename_i hh
  (repeat refine ZG ?_)
  refine ⟨(i+1:Nat),by show xs.length-(i+1)<xs.length-i;omega,⟨hlt,fun j hj=>?_⟩,ZE⟩
  by_cases e:j=i
  ·subst e;omega
  exact hb j (by omega)
 have hii:i=xs.length:=by omega
 subst hii
 (conv=>whnf)
 exact ⟨rfl,(aJy xs hb).symm⟩
def c67:Con:=bB 63 true fun args K=>match args with | [.seq (.int .i64) xs]=>K (I (orI xs)) | _=>False
theorem k67:aS Tryz.prog c67:=by
 refine kO Tryz.func63 fun args K h=>?_
 simp only[c67] at h;split at h
 ·rename_i xs;exact ⟨_,h,triB Tryz.func63 Tryz.ntmps63 (by simp) (b67 xs)⟩
 exact h.elim
def aAw (f:Nat->Int) (m:Nat):Int:=orI ((List.range m).map f)
theorem aBu {f:Nat->Int} {m i:Nat} (hi:i<m) (hf:f i≠0) (h:∀j,j<i->f j=0):aAw f m=f i:=by
 have e:∀j,j<m->((List.range m).map f).getD j 0=f j:=fun j hj=>by simp[aB,hj]
 unfold aAw
 rw[aS6 _ i (by simpa using hi) (by rw[e i hi];exact hf) (fun j hj=>by rw[e j (by omega)];exact h j hj),e i hi]
theorem firstE_none {f:Nat->Int} {m:Nat} (h:∀j,j<m->f j=0):aAw f m=0:=by
 unfold aAw
 refine aJy _ fun j hj=>?_
 have hj:j<m:=by simpa using hj
 simpa [aB,hj] using h j hj
def supAt (n:Int) (l:List (Int × Int)) (k:Nat):Int:=
 if (l.getD k (0,0)).1<0\/n<=(l.getD k (0,0)).1\/(l.getD k (0,0)).2 < -1\/n<=(l.getD k (0,0)).2 then 2
 else if (l.getD k (0,0)).1=(l.getD k (0,0)).2 then 27
 else if 0<k/\0<=orI [cmpI (l.getD (k-1) (0,0)).1 (l.getD k (0,0)).1,cmpI (l.getD (k-1) (0,0)).2 (l.getD k (0,0)).2] then 10 else 0
def supE (n:Int) (l:List (Int × Int)):Int:=if n<0\/512<n then 2 else if 4096<l.length then 4 else aAw (supAt n l) l.length
theorem supE_out {n:Int} {l:List (Int × Int)} (h:n<0\/512<n):2=supE n l:=by unfold supE;rw[aD h]
theorem supE_long {n:Int} {l:List (Int × Int)} (h:¬n<0) (h2:¬512<n) (h3:4096<(l.length:Int)):4=supE n l:=by unfold supE;rw[aC (by omega),aD (by omega)]
theorem supE_at {n:Int} {l:List (Int × Int)} (h:¬n<0) (h2:¬512<n) (h3:¬4096<(l.length:Int)) {i:Nat} (hi:i<l.length) (hb:∀j,j<i->supAt n l j=0) {v:Int} (hv:supAt n l i=v) (h0:v≠0):v=supE n l:=by
 unfold supE;rw[aC (by omega),aC (by omega),aBu hi (by rw[hv];exact h0) hb,hv]
theorem supE_ok {n:Int} {l:List (Int × Int)} (h:¬n<0) (h2:¬512<n) (h3:¬4096<(l.length:Int)) (hb:∀j,j<l.length->supAt n l j=0):0=supE n l:=by
 unfold supE;rw[aC (by omega),aC (by omega),firstE_none hb]
theorem b43 (n:Int) (l:List (Int × Int)):body Tryz.prog [c67,c68] { asks:=[(1,[])] } true Tryz.f28 [I n,Ps l] (I (supE n l)):=by
 (apply Br.mk<;>intro)
 ·rename_i h
  (conv=>whnf)
  exact ⟨rfl,supE_out (.inl h)⟩
 rename_i g1
 (apply Br.mk<;>intro)
 ·rename_i h
  (conv=>whnf)
  exact ⟨rfl,supE_out (.inr h)⟩
 rename_i g2
 (repeat'((conv=>whnf);first|refine Zg fun _=>?_|fail))
 (apply Br.mk<;>intro)
 ·rename_i h
  (conv=>whnf)
  exact ⟨rfl,supE_long g1 g2 h⟩
 rename_i g3
 (repeat'((conv=>whnf);first|refine Zg fun _=>?_|fail))
 refine Ask.mk ⟨{ X:=Nat,pre:=fun i=>i<=l.length/\∀j,j<i->supAt n l j=0,mod:=fun i _=>[(20,I i)],mu:=fun i=>l.length-i },rfl,?_⟩
 (repeat refine ZG ?_)
 refine ⟨⟨(0:Nat),⟨aI _,by omega⟩,ZE⟩,fun (i:Nat) hi=>?_⟩
 obtain ⟨hi,hb⟩:=hi
 (apply Br.mk<;>intro)
 ·have hlt:i<l.length:=by omega
  have bad:((l.getD i (0,0)).1<0\/n<=(l.getD i (0,0)).1\/(l.getD i (0,0)).2 < -1\/n<=(l.getD i (0,0)).2)->2=supE n l:=fun h=>
   supE_at g1 g2 g3 hlt hb (by unfold supAt;rw[aD h]) (by decide)
  (repeat'((conv=>whnf);first|refine Zg fun _=>?_|refine Zn ?_|refine Zj ?_|apply pI|apply pJ|refine Zr (fun _=>?_) fun _=>?_|fail))
  ·(conv=>whnf)
   exact ⟨rfl,bad (.inl ‹_›)⟩
  ·(conv=>whnf)
   exact ⟨rfl,bad (.inr (.inl ‹_›))⟩
  ·(conv=>whnf)
   exact ⟨rfl,bad (.inr (.inr (.inl ‹_›)))⟩
  ·(conv=>whnf)
   exact ⟨rfl,bad (.inr (.inr (.inr ‹_›)))⟩
  ·rename_i k1 k2 k3 k4 k5
   (conv=>whnf)
   exact ⟨rfl,supE_at g1 g2 g3 hlt hb (by unfold supAt;rw[aC (by omega),aD k5]) (by decide)⟩
  ·refine cX (i-1) (by omega) ?_
   (repeat'((conv=>whnf);first|refine Zg fun _=>?_|refine Zn ?_|apply pI|apply pJ|fail))
   refine cX (i-1) (by omega) ?_
   (repeat'((conv=>whnf);first|refine Zg fun _=>?_|refine Zn ?_|apply pI|apply pJ|refine Zl ?_|refine Zr (fun _=>?_) fun _=>?_|fail))
   ·rename_i k1 k2 k3 k4 k5 k6 a1 a2 a3 a4 q
    (conv=>whnf)
    exact ⟨rfl,supE_at g1 g2 g3 hlt hb (by unfold supAt;rw[aC (by omega),aC k5,aD ⟨by omega,q⟩]) (by decide)⟩
   rename_i k1 k2 k3 k4 k5 k6 a1 a2 a3 a4 q
   refine ⟨(i+1:Nat),by show l.length-(i+1)<l.length-i;omega,⟨hlt,fun j hj=>?_⟩,ZE⟩
   by_cases e:j=i
   ·subst e
    unfold supAt
    rw[aC (by omega),aC k5,aC fun h=>q h.2]
   exact hb j (by omega)
  rename_i k1 k2 k3 k4 k5 k6
  refine ⟨(i+1:Nat),by show l.length-(i+1)<l.length-i;omega,⟨hlt,fun j hj=>?_⟩,ZE⟩
  by_cases e:j=i
  ·subst e
   unfold supAt
   rw[aC (by omega),aC k5,aC (by omega)]
  exact hb j (by omega)
 have hii:i=l.length:=by omega
 subst hii
 (conv=>whnf)
 exact ⟨rfl,supE_ok g1 g2 g3 hb⟩
def c43:Con:=bB 28 true fun args K=>match args with | [.val (.int .i64 n),.seq (.pair (.int .i64) (.int .i64)) l]=>K (I (supE n l)) | _=>False
theorem k43:aS Tryz.prog c43:=by
 refine kO Tryz.func28 fun args K h=>?_
 simp only[c43] at h;split at h
 ·rename_i n l;exact ⟨_,h,triB Tryz.func28 Tryz.ntmps28 (by simp[k67,k68]) (b43 n l)⟩
 exact h.elim
theorem supE_rests {n:Int} {l:List (Int × Int)} (h:supE n l=0):aCq n l:=by
 unfold supE at h
 split at h
 ·cases h
 split at h
 ·cases h
 refine ⟨by omega,by omega,by omega,fun i hi=>?_⟩
 by_cases hz:∀j,j<l.length->supAt n l j=0
 ·have:=hz i hi
  unfold supAt at this
  split at this
  ·cases this
  omega
 exfalso
 have:∃j,j<l.length/\supAt n l j≠0/\∀m,m<j->supAt n l m=0:=by
  rw[Classical.not_forall] at hz
  obtain ⟨j,hj⟩:=hz
  rw[Classical.not_imp] at hj
  obtain ⟨hj1,hj2⟩:=hj
  induction j using Nat.strongRecOn with
  | _ j ih=>
   by_cases hm:∀m,m<j->supAt n l m=0
   ·exact ⟨j,hj1,hj2,hm⟩
   rw[Classical.not_forall] at hm
   obtain ⟨m,hm⟩:=hm
   rw[Classical.not_imp] at hm
   exact ih m hm.1 (by omega) hm.2
 obtain ⟨j,h1,h2,h3⟩:=this
 rw[aBu h1 h2 h3] at h
 exact h2 h
def words (n:Int):List Int:=List.replicate ((n+63)/64).toNat 0
def putL (ws:List Int) (ms:List Int):List Int:=ms.foldl putW ws
def outB (n m:Int):Bool:=decide (m<0\/n<=m)
def aV5 (on:List (List Int)) (ws:List Int) (k:Nat):List Int:=((List.range k).filter fun (i:Nat)=>decide (aAu on ws i)).map fun (i:Nat)=>(i:Int)
def onL (n:Int) (l:List (Int × Int)):List (List Int):=onN n.toNat l l.length
def aYp (n:Int) (l:List (Int × Int)):List Bool:=restN n.toNat l l.length
theorem onL_len (n:Int) (l:List (Int × Int)):(onL n l).length=n.toNat:=aHy _ _ _
def readyRes (n:Int) (l:List (Int × Int)) (st:List Int):List Int:=if supE n l=0/\st.any (outB n)=false then aV5 (onL n l) (putL (words n) st) n.toNat else []
def readyErr (n:Int) (l:List (Int × Int)) (st:List Int):Int:=if ¬supE n l=0 then 1 else if st.any (outB n)=true then 2 else 0
theorem aS7 {x:Nat} (h:x<2^64):IntKind.u64.wrap (x:Int)=x:=by simp only[IntKind.wrap,IntKind.signed,IntKind.bits,Bool.false_and,Bool.false_eq_true,if_false];omega
theorem aS8 (a:Nat) (h:a<2^64):(BitVec.ofInt 64 (a:Int)).toNat=a:=by
 rw[BitVec.ofInt_natCast,BitVec.toNat_ofNat,fQ h]
theorem aV6 (a b:Nat) (ha:a<2^64) (hb:b<2^64):qU .and .u64 a b=((a&&& b:Nat):Int):=by
 show IntKind.u64.wrap ((BitVec.ofInt 64 (a:Int)&&& BitVec.ofInt 64 (b:Int)).toNat:Int)= _
 rw[aS7 (BitVec.isLt _),BitVec.toNat_and,aS8 a ha,aS8 b hb]
def WOk (ws:List Int):Prop:=∀w,w<ws.length->∃m:Nat,m<2^64/\ws.getD w 0=m
def InN (n:Int) (ms:List Int):Prop:=∀m∈ms,0<=m/\m<n
def nxt (on:List (List Int)) (n:Int) (ms:List Int):Int:=zD (fun i:Nat=>decide (aAu on (putL (words n) ms) i)) (List.range n.toNat)
def msAt (on:List (List Int)) (n:Int):Nat->List Int
 | 0=>[]
 | k+1=>if 0<=nxt on n (msAt on n k) then msAt on n k++ [nxt on n (msAt on n k)] else msAt on n k
theorem vE:∀(n:Nat) (xs:List Nat),xs.Nodup->(∀x∈xs,x<n)->xs.length<=n
 | 0,xs,_,h=>by
  cases xs with
  | nil=>exact aM _
  | cons x r=>exact absurd (h x bO) (bG _)
 | n+1,xs,hx,h=>by
  by_cases hm:n∈xs
  ·have h1:=vE n (xs.erase n) (hx.erase n) fun x hx'=>by
    rw[hx.mem_erase_iff] at hx'
    have:=h x hx'.2
    omega
   rw[List.length_erase_of_mem hm] at h1
   omega
  have h1:=vE n xs hx fun x hx'=>by
   have:=h x hx'
   have:x≠n:=fun e=>hm (e ▸ hx')
   omega
  omega
theorem aAx {n:Int} {ms:List Int} (hn:0<=n) (h1:ms.Nodup) (h2:InN n ms):ms.length<=n.toNat:=by
 have:(ms.map Int.toNat).Nodup:=by
  rw[List.nodup_iff_pairwise_ne,jP]
  refine List.Pairwise.imp_of_mem ?_ h1
  intro a b ha hb hne e
  have:=h2 a ha
  have:=h2 b hb
  exact hne (by omega)
 have h3:(ms.map Int.toNat) ⊆ List.range n.toNat:=by
  intro x hx
  rw[jN] at hx
  obtain ⟨m,hm,rfl⟩:=hx
  have:=h2 m hm
  rw[gU];omega
 have:=vE n.toNat _ this fun x hx=>gU.1 (h3 hx)
 simpa using this
def aZb (rs:List Bool) (m:Int):List (Int × Int):=if rs.getD m.toNat false=true then [(1,m)] else [(2,m),(1,m)]
def aV7 (rs:List Bool) (ms:List Int):List (Int × Int):=ms.flatMap (aZb rs)
def ordS (on:List (List Int)) (rs:List Bool) (n:Int):List (Int × Int):=aV7 rs (msAt on n n.toNat)
def ordL (n:Int) (l:List (Int × Int)):List (Int × Int):=ordS (onL n l) (aYp n l) n
def aS9 (S:List (Int × Int)) (k:Nat):Int:=((S.take k).filter fun x=>decide (x.1=1)).length
def aTa (n:Int) (l:List (Int × Int)):Int:=if ¬supE n l=0 then 1 else if aS9 (ordL n l) (ordL n l).length<n then 27 else 0
def n12 (s:Int):Int:=s%13
def okP (s:Int) (l:List (Int × Int)):Prop:=l.length<=30/\aTa (n12 s) l=0
instance (s:Int) (l:List (Int × Int)):Decidable (okP s l):=by unfold okP;exact inferInstance
end EB
end
section
namespace Go.Eng
section
variable {α:Type}
end
end Go.Eng
end
section
open Go Go.Proofs Go.Eng Go.Shelf
namespace EB
def chkAt (n:Int) (S:List (Int × Int)) (k:Nat):Int:=
 if (S.getD k (0,0)).1<1\/3<(S.getD k (0,0)).1 then 8
 else if (S.getD k (0,0)).2<0\/(0<=n/\n<=(S.getD k (0,0)).2) then 2 else 0
def chkE (n:Int) (S:List (Int × Int)):Int:=if 4096<S.length then 4 else aAw (chkAt n S) S.length
structure PS where
 m:MapS Bool
 most:Int
 err:Int
end EB
end
section
open Go Go.Proofs Go.Eng Go.Shelf
namespace EB
def sortedP (xs:List Int):Prop:=∀j,j<xs.length-1->xs.getD j 0<=xs.getD (j+1) 0
instance (xs:List Int):Decidable (sortedP xs):=by unfold sortedP;exact inferInstance
def raisedL (S:List (Int × Int)) (i:Nat):List Int:=((S.take i).filter fun x=>decide (x.1=1)).map (·.2)
structure Ordered (n:Int) (l:List (Int × Int)) (S:List (Int × Int)):Prop where
 len:S.length<=2048
 step:∀i,i<S.length->(S.getD i (0,0)).1=1->readyErr n l (raisedL S i)=0/\sortedP (readyRes n l (raisedL S i))/\∃r,readyRes n l (raisedL S i)=(S.getD i (0,0)).2::r
 stop:readyErr n l (raisedL S S.length)=0/\readyRes n l (raisedL S S.length)= []/\((raisedL S S.length).length:Int)=n
structure CS where
 st:List Int
 pr:List Int
 err:Bool
def aSv (on:List (List Int)) (rs:List Bool) (c:CS) (x:Int × Int):Prop:=
 if x.1=1 then aAu on c.st x.2/\(rs.getD x.2.toNat false=true\/hasW c.pr x.2)
 else if x.1=2 then ¬hasW c.pr x.2
 else hasW c.pr x.2/\(¬hasW c.st x.2\/rs.getD x.2.toNat false=true)
instance (on:List (List Int)) (rs:List Bool) (c:CS) (x:Int × Int):Decidable (aSv on rs c x):=by unfold aSv;exact inferInstance
def aY8 (on:List (List Int)) (rs:List Bool) (S:List (Int × Int)) (c:CS) (i:Nat):CS:=
 if c.err=true then c
 else if ¬aSv on rs c (S.getD i (0,0)) then ⟨c.st,c.pr,true⟩
 else if (S.getD i (0,0)).1=1 then ⟨putW c.st (S.getD i (0,0)).2,c.pr,false⟩
 else if (S.getD i (0,0)).1=2 then ⟨c.st,putW c.pr (S.getD i (0,0)).2,false⟩
 else ⟨c.st,aYo c.pr (S.getD i (0,0)).2,false⟩
def doAt (on:List (List Int)) (rs:List Bool) (n:Int) (S:List (Int × Int)) (i:Nat):CS:=(List.range i).foldl (aY8 on rs S) ⟨words n,words n,false⟩
def endE (n:Int) (c:CS):Int:=if c.err=true then 26 else if ((aY7 c.st (64*c.st.length)).length:Int)<n then 9 else 0
def checkE (n:Int) (l S:List (Int × Int)):Int:=if ¬supE n l=0 then 1 else if ¬chkE n S=0 then chkE n S else endE n (doAt (onL n l) (aYp n l) n S S.length)
def upP (m:Int) (r:Int × Int):Bool:=decide (r.1=m)
end EB
end
section
open Go Go.Proofs Go.Eng Go.Shelf
namespace EB.Q
end EB.Q
end
section
open Go Go.Proofs Go.Eng Go.Shelf
namespace EB
end EB
end
section
open Go Go.Proofs Go.Eng Go.Shelf
namespace EB
structure Whole (n:Int) (l S:List (Int × Int)):Prop where
 n0:0<=n
 n1:n<=512
 sup:supE n l=0
 chk:checkE n l S=0
 len:S.length<=1024
 at_:∀i,i<S.length->((S.getD i (0,0)).1=1\/(S.getD i (0,0)).1=2)/\0<=(S.getD i (0,0)).2/\(S.getD i (0,0)).2<n
 prop_:∀i,i<S.length->(S.getD i (0,0)).1=2->¬l.any (upP (S.getD i (0,0)).2)=true/\i+1<S.length/\S.getD (i+1) (0,0)=(1,(S.getD i (0,0)).2)
 raise:∀i,i<S.length->(S.getD i (0,0)).1=1->¬l.any (upP (S.getD i (0,0)).2)=true->0<i/\(S.getD (i-1) (0,0)).1=2
 once:∀m:Int,0<=m->m<n->(raisedL S S.length).count m=1
end EB
end
section
open Go Go.Proofs Go.Eng Go.Shelf
namespace EB
def wStep (c:List Int × List Int) (x:Int × Int):List Int × List Int:=if x.1=1 then (putW c.1 x.2,c.2) else if x.1=2 then (c.1,putW c.2 x.2) else (c.1,aYo c.2 x.2)
def wF (n:Int) (T:List (Int × Int)):List Int × List Int:=T.foldl wStep (words n,words n)
def stB (T:List (Int × Int)) (m:Nat):Bool:=T.foldl (fun b x=>if x.2=(m:Int)/\x.1=1 then true else b) false
def prB (T:List (Int × Int)) (m:Nat):Bool:=T.foldl (fun b x=>if x.2=(m:Int) then (if x.1=1 then b else decide (x.1=2)) else b) false
def memL (n:Int) (f:Nat->Bool):List Int:=((List.range n.toNat).filter f).map fun (i:Nat)=>(i:Int)
structure WF (n:Int) (T:List (Int × Int)):Prop where
 l1:((wF n T).1.length:Int)=(n+63)/64
 l2:((wF n T).2.length:Int)=(n+63)/64
 o1:WOk (wF n T).1
 o2:WOk (wF n T).2
 s1:∀j:Nat,hasW (wF n T).1 j↔stB T j=true
 s2:∀j:Nat,hasW (wF n T).2 j↔prB T j=true
 b1:∀j:Nat,stB T j=true->(j:Int)<n
 b2:∀j:Nat,prB T j=true->(j:Int)<n
def stdE (n:Int) (S:List (Int × Int)) (k:Int):Int:=if n<0\/512<n then 1 else if ¬chkE n S=0 then chkE n S else if k<0\/(S.length:Int)<k then 2 else 0
def stdM (n:Int) (S:List (Int × Int)) (k:Int):List Int:=if stdE n S k=0 then memL n (stB (S.take k.toNat)) else []
def stdP (n:Int) (S:List (Int × Int)) (k:Int):List Int:=if stdE n S k=0 then memL n (prB (S.take k.toNat)) else []
def isV (v x:Int):Bool:=decide (x=v)
theorem b57 (xs:List Int) (v:Int):body Tryz.prog [] { loops:=[(0,anIx 8 (isV v) xs 0)] } true Tryz.f59 [Ls xs,I v] (I (zD (isV v) xs)):=by
 (repeat' first|refine ZG ?_|refine Zg fun _=>?_)
 refine ⟨⟨(0:Nat),⟨aI _,fun j hj=>absurd hj (bG _)⟩,ZE⟩,fun (i:Nat) hi=>?_⟩
 obtain ⟨hi,hb⟩:=hi
 (apply Br.mk<;>intro)
 ·have hlt:i<xs.length:=by omega
  (repeat' first|refine ZG ?_|refine Zg fun _=>?_)
  (apply Br.mk<;>intro)
  ·rename_i hh
   (conv=>whnf)
   exact ⟨rfl,(aMk 0 hlt (mC (by omega)) hb).symm⟩
  rename_i hh
  (repeat refine ZG ?_)
  refine ⟨(i+1:Nat),by show xs.length-(i+1)<xs.length-i;omega,⟨hlt,fun j hj=>?_⟩,ZE⟩
  by_cases e:j=i
  ·subst e;exact decide_eq_false (by omega)
  exact hb j (by omega)
 have hii:i=xs.length:=by omega
 subst hii
 (conv=>whnf)
 exact ⟨rfl,(aMj 0 hb).symm⟩
def c57:Con:=bB 59 true fun args K=>match args with | [.seq (.int .i64) xs,.val (.int .i64 v)]=>K (I (zD (isV v) xs)) | _=>False
theorem k57:aS Tryz.prog c57:=by
 refine kO Tryz.func59 fun args K h=>?_
 simp only[c57] at h;split at h
 ·rename_i xs v;exact ⟨_,h,triB Tryz.func59 Tryz.ntmps59 (by simp) (b57 xs v)⟩
 exact h.elim
theorem aVz (xs:List Int) (v:Int):xs.any (isV v)=true↔v∈xs:=by
 rw[kA]
 constructor
 ·rintro ⟨x,hx,h⟩
  have:=dI h
  subst this;exact hx
 intro h;exact ⟨v,h,mC rfl⟩
theorem b21 (xs:List Int) (v:Int):body Tryz.prog [c57] {} true Tryz.f25 [Ls xs,I v] (.bl (v∈xs) inferInstance):=by
 (conv=>whnf)
 exact (aQk _ _).trans (aVz xs v)
def c21:Con:=bB 25 true fun args K=>match args with | [.seq (.int .i64) xs,.val (.int .i64 v)]=>K (.bl (v∈xs) inferInstance) | _=>False
theorem k21:aS Tryz.prog c21:=by
 refine kO Tryz.func25 fun args K h=>?_
 simp only[c21] at h;split at h
 ·rename_i xs v;exact ⟨_,h,triB Tryz.func25 Tryz.ntmps25 (by simp[k57]) (b21 xs v)⟩
 exact h.elim
end EB
end
section
open Go Go.Proofs Go.Eng Go.Shelf IB Go.Lib Go.RowKit
namespace RB
def nP (v:V2):P2:=(numS v.1,numS v.2)
theorem aMh {a b c:V2} (ha:Sz 36 a.1/\Sz 36 a.2) (hb:Sz 36 b.1/\Sz 36 b.2) (hc:Sz 36 c.1/\Sz 36 c.2):aJt (nP a) (nP b) (nP c) (aLz a b c):=by
 have s1:=hb.1.sub ha.1
 have s2:=hc.2.sub ha.2
 have s3:=hb.2.sub ha.2
 have s4:=hc.1.sub ha.1
 refine ⟨_,_,_,_,_,_,mT hb.1 ha.1 (by decide) (by decide) (by decide),mT hc.2 ha.2 (by decide) (by decide) (by decide),mT hb.2 ha.2 (by decide) (by decide) (by decide),mT hc.1 ha.1 (by decide) (by decide) (by decide),qG s1 s2 (by decide) (by decide) (by decide),qG s3 s4 (by decide) (by decide) (by decide),?_⟩
 rw[aBt (s1.mul s2) (s3.mul s4) (by decide) (by decide) (by decide)]
 rfl
theorem aF9 (q a:V2):aLz q q a=0:=by
 unfold aLz
 rw[aUu,Rat.sub_self,Rat.sub_self,Rat.zero_mul,Rat.zero_mul]
theorem aC4 {a b:V2} (ha:Sz 36 a.1/\Sz 36 a.2) (hb:Sz 36 b.1/\Sz 36 b.2):ordS (nP a) (nP b)=ordR a b:=by
 unfold ordS ordR nP
 dsimp only
 rw[aBt ha.1 hb.1 (by decide) (by decide) (by decide),aBt ha.2 hb.2 (by decide) (by decide) (by decide)]
theorem aHw {c:Prop} [Decidable c] (x y:V2):(if c then nP x else nP y)=nP (if c then x else y):=by split<;>rfl
theorem aHx {c:Prop} [Decidable c] {x y:V2} (hx:Sz 36 x.1/\Sz 36 x.2) (hy:Sz 36 y.1/\Sz 36 y.2):Sz 36 (if c then x else y).1/\Sz 36 (if c then x else y).2:=by
 split
 ·exact hx
 exact hy
theorem aY0 {a b q:V2} (ha:Sz 36 a.1/\Sz 36 a.2) (hb:Sz 36 b.1/\Sz 36 b.2) (hq:Sz 36 q.1/\Sz 36 q.2):mgS (nP a) (nP b) (nP q) (aLz a b q)=sgO a b q:=by
 have e1:loS (nP a) (nP b)=nP (if 0<ordR a b then b else a):=by
  unfold loS;rw[aC4 ha hb,aHw]
 have e2:hiS (nP a) (nP b)=nP (if 0<ordR a b then a else b):=by
  unfold hiS;rw[aC4 ha hb,aHw]
 unfold mgS sgO
 rw[e1,e2]
 have zl:Sz 36 (if 0<ordR a b then b else a).1/\Sz 36 (if 0<ordR a b then b else a).2:=aHx hb ha
 have zh:Sz 36 (if 0<ordR a b then a else b).1/\Sz 36 (if 0<ordR a b then a else b).2:=aHx ha hb
 dsimp only
 generalize (if 0<ordR a b then b else a)=L at*
 generalize (if 0<ordR a b then a else b)=U at*
 rw[aC4 hq zl,aC4 hq zh,aHw,aHw,aC4 (aHx hq zl) (aHx hq zh)]
theorem aSc {s:Sp} (h:okS s):(s.1,s.2.1)=nP (v2 s)/\Sz 36 (v2 s).1/\Sz 36 (v2 s).2:=by
 obtain ⟨⟨e1,e2,e3⟩,z1,z2,z3⟩:=aCw h
 refine ⟨?_,z1,z2⟩
 unfold nP v2
 dsimp only
 rw[<- e1,<- e2]
theorem aSd {s:Sp} (h:okS s):okP (s.1,s.2.1):=by
 obtain ⟨h1,h2,h3,h4⟩:=h
 obtain ⟨c1,c2,c3⟩:=rW.1 h1
 exact ⟨⟨c1,h2⟩,c2,h3⟩
theorem mg_ok {a b q:Sp} (ha:okS a) (hb:okS b) (hq:okS q):mgOK (a.1,a.2.1) (b.1,b.2.1) (q.1,q.2.1) (sgO (v2 a) (v2 b) (v2 q)):=by
 obtain ⟨e1,za⟩:=aSc ha
 obtain ⟨e2,zb⟩:=aSc hb
 obtain ⟨e3,zq⟩:=aSc hq
 rw[e1,e2,e3]
 refine ⟨_,aMh za zb zq,?_,?_,(aY0 za zb zq).symm⟩
 ·have:=aMh zq zq za;rwa [aF9] at this
 have:=aMh zq zq zb;rwa [aF9] at this
def onP (ks:List Int) (s:Sp) (x:Lin):Prop:=x.1∈ks/\0<sgO (v2 x.2.1) (v2 x.2.2.1) (v2 s)
def aX6:Con:=bB 121 true fun args K=>match args with | [.agg [.val (.int .i64 k),.str a,.str b,.str c,.str d,.str e,.str g,.val (.int .i64 u),.val (.int .i64 v)],.lelem [.seq (.int .i64) ks] 0,.lelem [.str q1,.str q2,.str q3] 0]=>Need ((okS (a,b,c)/\okS (d,e,g))/\okS (q1,q2,q3)) (K (.bl (onP ks (q1,q2,q3) (k,(a,b,c),(d,e,g),u,v)) Cp)) | _=>False
theorem k3121:aS Tryz.prog aX6:=by
 refine kQ {} Tryz.func121 Tryz.ntmps121 (kc EB.k21 (kc k3123 (kc k3122 kn))) fun _ _ h=>?_
 split at h
 case h_2=>exact h.elim
 rename_i k a b c d e g u v ks q1 q2 q3
 have h0:=h.ok
 refine kb h.go ?_
 by_cases hk:k∈ks
 ·have hm:mgOK (a,b) (d,e) (q1,q2) (sgO (v2 (a,b,c)) (v2 (d,e,g)) (v2 (q1,q2,q3))):=mg_ok h0.1.1 h0.1.2 h0.2
  have hp:(q1=q1/\q2=q2)/\okP (a,b)/\okP (d,e)/\okP (q1,q2):=⟨⟨rfl,rfl⟩,aSd h0.1.1,aSd h0.1.2,aSd h0.2⟩
  have hq:onP ks (q1,q2,q3) (k,(a,b,c),(d,e,g),u,v)↔0<sgO (v2 (a,b,c)) (v2 (d,e,g)) (v2 (q1,q2,q3)):=⟨fun h=>h.2,fun h=>⟨hk,h⟩⟩
  generalize onP ks (q1,q2,q3) (k,(a,b,c),(d,e,g),u,v)=M at*
  generalize sgO (v2 (a,b,c)) (v2 (d,e,g)) (v2 (q1,q2,q3))=r at*
  (repeat'((conv=>whnf);first|refine .h ?_|refine Zn ?_|apply pI|apply pJ|refine Zy ?_|refine Zm ?_|fail))
  (conv=>whnf)
  all_goals exact hq.symm
 have hq:¬onP ks (q1,q2,q3) (k,(a,b,c),(d,e,g),u,v):=fun h=>hk h.1
 generalize onP ks (q1,q2,q3) (k,(a,b,c),(d,e,g),u,v)=M at*
 (repeat refine ZR ?_)
 (conv=>whnf)
 all_goals exact hq
def badX (x:Lin):Prop:=¬(okS x.2.1/\okS x.2.2.1)
theorem b70a (l:List Lin):body Tryz.prog [aXn] { asks:=[(0,[])] } true Tryz.f70 [.seq tLin l,.clo 42 [] []] (I (ixG badX l)):=by
 (repeat'((conv=>whnf);first|refine Zg fun _=>?_|fail))
 refine Ask.mk ⟨{ X:=Nat,pre:=fun i=>i<=l.length/\∀j,j<i->¬badX (l.getD j lin0),mod:=fun i _=>[(8,I i)],heap:=fun i H=>H,mu:=fun i=>l.length-i },rfl,?_⟩
 (repeat refine ZG ?_)
 refine ⟨⟨(0:Nat),⟨aI _,fun j hj=>by omega⟩,ZE⟩,fun (i:Nat) hi=>?_⟩
 obtain ⟨hi,hp⟩:=hi
 by_cases hlt:i<l.length
 ·(repeat' first|refine ZR ?_|refine Zg fun _=>?_)
  (apply Br.mk<;>intro)
  ·rename_i hb
   have e:=yC badX lin0 hlt hb hp
   rw[e]
   exact ZF
  rename_i hb
  (repeat refine ZR ?_)
  refine ⟨(i+1:Nat),by show l.length-(i+1)<l.length-i;omega,⟨hlt,fun j hj=>?_⟩,ZE⟩
  by_cases e:j=i
  ·subst e;exact hb
  exact hp j (by omega)
 have e:i=l.length:=by omega
 subst e
 rw[yD badX lin0 hp]
 exact ZRF
theorem b70b (l:List Lin) (ks:List Int) (q1 q2 q3:Bx) (h0:(∀j,j<l.length->okS (l.getD j lin0).2.1/\okS (l.getD j lin0).2.2.1)/\okS (q1,q2,q3)):body Tryz.prog [aX6] { asks:=[(0,[])] } true Tryz.f70 [.seq tLin l,.clo 121 [] [.lelem [.seq (.int .i64) ks] 0,.lelem [S q1,S q2,S q3] 0]] (I (ixG (onP ks (q1,q2,q3)) l)):=by
 obtain ⟨hl,hs⟩:=h0
 (repeat'((conv=>whnf);first|refine Zg fun _=>?_|fail))
 refine Ask.mk ⟨{ X:=Nat,pre:=fun i=>i<=l.length/\∀j,j<i->¬onP ks (q1,q2,q3) (l.getD j lin0),mod:=fun i _=>[(8,I i)],heap:=fun i H=>H,mu:=fun i=>l.length-i },rfl,?_⟩
 (repeat refine ZG ?_)
 refine ⟨⟨(0:Nat),⟨aI _,fun j hj=>by omega⟩,ZE⟩,fun (i:Nat) hi=>?_⟩
 obtain ⟨hi,hp⟩:=hi
 by_cases hlt:i<l.length
 ·have hc:(okS ((l.getD i lin0).2.1.1,(l.getD i lin0).2.1.2.1,(l.getD i lin0).2.1.2.2)/\okS ((l.getD i lin0).2.2.1.1,(l.getD i lin0).2.2.1.2.1,(l.getD i lin0).2.2.1.2.2))/\okS (q1,q2,q3):=⟨hl i hlt,hs⟩
  (repeat' first|refine ZR ?_|refine Zg fun _=>?_)
  (apply Br.mk<;>intro)
  ·rename_i hb
   have e:=yC (onP ks (q1,q2,q3)) lin0 hlt hb hp
   rw[e]
   exact ZF
  rename_i hb
  (repeat refine ZR ?_)
  refine ⟨(i+1:Nat),by show l.length-(i+1)<l.length-i;omega,⟨hlt,fun j hj=>?_⟩,ZE⟩
  by_cases e:j=i
  ·subst e;exact hb
  exact hp j (by omega)
 have e:i=l.length:=by omega
 subst e
 rw[yD (onP ks (q1,q2,q3)) lin0 hp]
 exact ZRF
noncomputable def aOh:Con:=bB 70 true fun args K=>match args with
 | [.seq (.pair (.int .i64) (.pair (.pair .str (.pair .str .str)) (.pair (.pair .str (.pair .str .str)) (.pair (.int .i64) (.int .i64))))) l,.clo 42 [] []]=>K (I (ixG badX l))
 | [.seq (.pair (.int .i64) (.pair (.pair .str (.pair .str .str)) (.pair (.pair .str (.pair .str .str)) (.pair (.int .i64) (.int .i64))))) l,.clo 121 [] [.lelem [.seq (.int .i64) ks] 0,.lelem [.str q1,.str q2,.str q3] 0]]=>Need ((∀j,j<l.length->okS (l.getD j lin0).2.1/\okS (l.getD j lin0).2.2.1)/\okS (q1,q2,q3)) (K (I (ixG (onP ks (q1,q2,q3)) l)))
 | _=>False
theorem aX7:aS Tryz.prog aOh:=by
 refine kO Tryz.func70 fun args K h=>?_
 simp only[aOh] at h;split at h
 ·rename_i l;exact ⟨_,h,triB Tryz.func70 Tryz.ntmps70 (by simp[k3042]) (b70a l)⟩
 ·rename_i l ks q1 q2 q3;exact ⟨_,h.go,triB Tryz.func70 Tryz.ntmps70 (by simp[k3121]) (b70b l ks q1 q2 q3 h.ok)⟩
 exact h.elim
theorem b41a (l:List Lin):body Tryz.prog [aOh] {} true Tryz.f41 [.seq tLin l,.clo 42 [] []] (.bl (0<=ixG badX l) inferInstance):=by
 (conv=>whnf)
theorem b41b (l:List Lin) (ks:List Int) (q1 q2 q3:Bx) (h0:(∀j,j<l.length->okS (l.getD j lin0).2.1/\okS (l.getD j lin0).2.2.1)/\okS (q1,q2,q3)):body Tryz.prog [aOh] {} true Tryz.f41 [.seq tLin l,.clo 121 [] [.lelem [.seq (.int .i64) ks] 0,.lelem [S q1,S q2,S q3] 0]] (.bl (0<=ixG (onP ks (q1,q2,q3)) l) inferInstance):=by
 (repeat refine ZR ?_)
 (conv=>whnf)
noncomputable def aOi:Con:=bB 41 true fun args K=>match args with
 | [.seq (.pair (.int .i64) (.pair (.pair .str (.pair .str .str)) (.pair (.pair .str (.pair .str .str)) (.pair (.int .i64) (.int .i64))))) l,.clo 42 [] []]=>K (.bl (0<=ixG badX l) inferInstance)
 | [.seq (.pair (.int .i64) (.pair (.pair .str (.pair .str .str)) (.pair (.pair .str (.pair .str .str)) (.pair (.int .i64) (.int .i64))))) l,.clo 121 [] [.lelem [.seq (.int .i64) ks] 0,.lelem [.str q1,.str q2,.str q3] 0]]=>Need ((∀j,j<l.length->okS (l.getD j lin0).2.1/\okS (l.getD j lin0).2.2.1)/\okS (q1,q2,q3)) (K (.bl (0<=ixG (onP ks (q1,q2,q3)) l) inferInstance))
 | _=>False
theorem aSe:aS Tryz.prog aOi:=by
 refine kO Tryz.func41 fun args K h=>?_
 simp only[aOi] at h;split at h
 ·rename_i l;exact ⟨_,h,triB Tryz.func41 Tryz.ntmps41 (by simp[aX7]) (b41a l)⟩
 ·rename_i l ks q1 q2 q3;exact ⟨_,h.go,triB Tryz.func41 Tryz.ntmps41 (by simp[aX7]) (b41b l ks q1 q2 q3 h.ok)⟩
 exact h.elim
def okLs (l:List Lin):Prop:=∀j,j<l.length->okS (l.getD j lin0).2.1/\okS (l.getD j lin0).2.2.1
def c3087:Con:=bB 87 true fun args K=>match args with | [.seq (.pair (.int .i64) (.pair (.pair .str (.pair .str .str)) (.pair (.pair .str (.pair .str .str)) (.pair (.int .i64) (.int .i64))))) l,.agg [.str q1,.str q2,.str q3],.seq (.int .i64) ks]=>Need (okLs l/\okS (q1,q2,q3)) (K (.bl (latP l (q1,q2,q3) ks) Cp)) | _=>False
theorem k3087:aS Tryz.prog c3087:=by
 refine kQ {} Tryz.func87 Tryz.ntmps87 (kc aSe kn) fun _ _ h=>?_
 split at h
 case h_2=>exact h.elim
 rename_i l q1 q2 q3 ks
 change List Lin at l
 have h0:=h.ok
 refine kb h.go ?_
 have h1:(∀j,j<l.length->okS (l.getD j lin0).2.1/\okS (l.getD j lin0).2.2.1)/\okS (q1,q2,q3):=h0
 have e:(0<=ixG (onP ks (q1,q2,q3)) l)↔latP l (q1,q2,q3) ks:=rQ _ l lin0
 generalize latP l (q1,q2,q3) ks=M at e ⊢
 (repeat refine ZR ?_)
 (conv=>whnf)
 all_goals exact e
def aSf:Con:=bB 49 true fun args K=>match args with | [.seq (.pair (.int .i64) (.pair (.pair .str (.pair .str .str)) (.pair (.pair .str (.pair .str .str)) (.pair (.int .i64) (.int .i64))))) ls,.agg [.val (.int .i64 k),.val (.int .i64 f),.val (.int .i64 o),.str a,.str b,.str c,.str d,.str e,.str g,.val (.int .i64 w),.val (.int .i64 t)],.bl pl dp]=>Need (okLs ls/\okS (a,b,c)/\okS (d,e,g)) (K (.bl (walP ls (k,f,o,(a,b,c),(d,e,g),w,t) pl) Cp)) | _=>False
theorem aX8:aS Tryz.prog aSf:=by
 refine kQ {} Tryz.func49 Tryz.ntmps49 (kc aXt (kc aXr (kc k3087 kn))) fun _ _ h=>?_
 split at h
 case h_2=>exact h.elim
 rename_i ls k f o a b c d e g w t pl dp
 change List Lin at ls
 have h0:=h.ok
 refine kb h.go ?_
 have g1:okLs ls/\okS (a,b,c):=⟨h0.1,h0.2.1⟩
 have g2:okLs ls/\okS (d,e,g):=⟨h0.1,h0.2.2⟩
 by_cases h1:k=10
 ·have hw:walP ls (k,f,o,(a,b,c),(d,e,g),w,t) pl:=by unfold walP;rw[aD h1];trivial
  generalize walP ls (k,f,o,(a,b,c),(d,e,g),w,t) pl=M at*
  (repeat refine ZR ?_)
  (conv=>whnf)
  all_goals exact hw
 by_cases h2:sloP k\/hipP k
 ·have hw:walP ls (k,f,o,(a,b,c),(d,e,g),w,t) pl↔¬pl/\latP ls (a,b,c) [7]:=by unfold walP;rw[aC h1,aD h2]
  generalize walP ls (k,f,o,(a,b,c),(d,e,g),w,t) pl=M at*
  by_cases hp:pl
  ·have hw':¬M:=fun h=>(hw.1 h).1 hp
   by_cases h3:sloP k
   ·(repeat refine ZR ?_)
    (conv=>whnf)
    all_goals exact hw'
   have h4:hipP k:=h2.resolve_left h3
   (repeat refine ZR ?_)
   (conv=>whnf)
   all_goals exact hw'
  have hw':latP ls (a,b,c) [7]↔M:=⟨fun h=>hw.2 ⟨hp,h⟩,fun h=>(hw.1 h).2⟩
  by_cases h3:sloP k
  ·(repeat refine ZR ?_)
   (conv=>whnf)
   all_goals exact hw'
  have h4:hipP k:=h2.resolve_left h3
  (repeat refine ZR ?_)
  (conv=>whnf)
  all_goals exact hw'
 have h3:¬sloP k:=fun h=>h2 (.inl h)
 have h4:¬hipP k:=fun h=>h2 (.inr h)
 by_cases h5:k=8\/k=9
 ·have hw:walP ls (k,f,o,(a,b,c),(d,e,g),w,t) pl↔latP ls (a,b,c) [4,5,8]\/latP ls (d,e,g) [4,5,8]:=by unfold walP;rw[aC h1,aC h2,aD h5]
  generalize walP ls (k,f,o,(a,b,c),(d,e,g),w,t) pl=M at*
  have hm:latP ls (a,b,c) [4,5,8]->M:=fun h=>hw.2 (.inl h)
  have hn:¬latP ls (a,b,c) [4,5,8]->(latP ls (d,e,g) [4,5,8]↔M):=fun h=>⟨fun q=>hw.2 (.inr q),fun q=>(hw.1 q).resolve_left h⟩
  by_cases h6:k=8
  ·(repeat refine ZR ?_)
   (apply Br.mk<;>intro)
   ·skip
    (conv=>whnf)
    all_goals (rename_i q;exact hm q)
   (repeat refine ZR ?_)
   (conv=>whnf)
   all_goals (rename_i q;exact hn q)
  have h7:k=9:=by omega
  (repeat refine ZR ?_)
  (apply Br.mk<;>intro)
  ·skip
   (conv=>whnf)
   all_goals (rename_i q;exact hm q)
  (repeat refine ZR ?_)
  (conv=>whnf)
  all_goals (rename_i q;exact hn q)
 have hw:¬walP ls (k,f,o,(a,b,c),(d,e,g),w,t) pl:=by unfold walP;rw[aC h1,aC h2,aC h5];exact id
 generalize walP ls (k,f,o,(a,b,c),(d,e,g),w,t) pl=M at*
 (repeat refine ZR ?_)
 (conv=>whnf)
 all_goals exact hw
def badY (m:Mem):Prop:=¬memE m=0
def c3076:Con:=bB 76 true fun args K=>match args with | [.seq (.pair (.int .i64) (.pair (.int .i64) (.pair (.int .i64) (.pair (.pair .str (.pair .str .str)) (.pair (.pair .str (.pair .str .str)) (.pair (.int .i64) (.int .i64))))))) l,.clo 45 [] []]=>K (I (ixG badY l)) | _=>False
theorem k3076:aS Tryz.prog c3076:=by
 refine kQ { asks:=[(0,[])] } Tryz.func76 Tryz.ntmps76 (kc k3045 kn) fun _ _ h=>?_
 split at h
 case h_2=>exact h.elim
 rename_i l
 change List Mem at l
 refine kb h ?_
 (repeat'((conv=>whnf);first|refine Zg fun _=>?_|fail))
 refine Ask.mk ⟨{ X:=Nat,pre:=fun i=>i<=l.length/\∀j,j<i->¬badY (l.getD j mem0),mod:=fun i _=>[(8,I i)],heap:=fun i H=>H,mu:=fun i=>l.length-i },rfl,?_⟩
 (repeat refine ZG ?_)
 refine ⟨⟨(0:Nat),⟨aI _,fun j hj=>by omega⟩,ZE⟩,fun (i:Nat) hi=>?_⟩
 obtain ⟨hi,hp⟩:=hi
 by_cases hlt:i<l.length
 ·(repeat' first|refine ZR ?_|refine Zg fun _=>?_)
  (apply Br.mk<;>intro)
  ·rename_i hb
   have e:=yC badY mem0 hlt hb hp
   rw[e]
   exact ZF
  rename_i hb
  (repeat refine ZR ?_)
  refine ⟨(i+1:Nat),by show l.length-(i+1)<l.length-i;omega,⟨hlt,fun j hj=>?_⟩,ZE⟩
  by_cases e:j=i
  ·subst e;exact hb
  exact hp j (by omega)
 have e:i=l.length:=by omega
 subst e
 rw[yD badY mem0 hp]
 exact ZRF
def aSg:Con:=bB 44 true fun args K=>match args with | [.seq (.pair (.int .i64) (.pair (.int .i64) (.pair (.int .i64) (.pair (.pair .str (.pair .str .str)) (.pair (.pair .str (.pair .str .str)) (.pair (.int .i64) (.int .i64))))))) l,.clo 45 [] []]=>K (.bl (0<=ixG badY l) inferInstance) | _=>False
theorem aX9:aS Tryz.prog aSg:=by
 refine kQ {} Tryz.func44 Tryz.ntmps44 (kc k3076 kn) fun _ _ h=>?_
 split at h
 case h_2=>exact h.elim
 refine kb h ?_
 (conv=>whnf)
def othI (i j:Nat):Nat:=if j<i then j else j+1
def othN (i k:Nat):Nat:=if k<=i then k else k-1
theorem aY1 {i k:Nat} (h:¬k=i):othN i (k+1)=othN i k+1/\othI i (othN i k)=k:=by
 unfold othN othI
 by_cases hc:k<i
 ·rw[aD (show k+1<=i by omega),aD (show k<=i by omega),aD hc];exact ⟨rfl,rfl⟩
 rw[aC (show ¬k+1<=i by omega),aC (show ¬k<=i by omega),aC (show ¬k-1<i by omega)];omega
theorem aY2 (i:Nat):othN i i=i/\othN i (i+1)=i:=by unfold othN;rw[aD (by omega),aC (by omega)];exact ⟨rfl,by omega⟩
theorem aSh {i k n:Nat} (hi:i<n) (hk:k<n) (h:¬k=i):othN i k<n-1:=by unfold othN;split<;>omega
abbrev agM (m:Mem):SV:=.agg [I m.1,I m.2.1,I m.2.2.1,S m.2.2.2.1.1,S m.2.2.2.1.2.1,S m.2.2.2.1.2.2,S m.2.2.2.2.1.1,S m.2.2.2.2.1.2.1,S m.2.2.2.2.1.2.2,I m.2.2.2.2.2.1,I m.2.2.2.2.2.2]
abbrev itO (l:List Mem) (i:Nat) (k:Nat):List SV:=[I (othI i k:Nat),agM (l.getD (othI i k) mem0)]
theorem b86n (l:List Mem) (i:Nat) (h:i<l.length):aD2 Tryz.prog [] { asks:=[(0,[])] } Tryz.f86 [.lelem [.seq tMem l] 0,.wcel i] (l.length-1) (itO l i):=by
 (repeat'((conv=>whnf);first|refine Zg fun _=>?_|fail))
 refine Ask.mk ⟨{ X:=Nat,pre:=fun k=>k<=l.length,mod:=fun k _=>[(8,I k)],heap:=fun k H=>[.yst (some (othN i k)) (l.length-1) (itO l i)],mu:=fun k=>l.length-k },rfl,?_⟩
 (repeat refine ZG ?_)
 refine ⟨⟨(0:Nat),aI _,ZE⟩,fun (k:Nat) hk=>?_⟩
 have hk:k<=l.length:=hk
 by_cases hlt:k<l.length
 ·by_cases hc:k=i
  ·subst hc
   obtain ⟨h1,h2⟩:=aY2 k
   (repeat' first|refine ZR ?_|refine Zg fun _=>?_)
   refine ⟨(k+1:Nat),by show l.length-(k+1)<l.length-k;omega,hlt,?_⟩
   (repeat' first|exact trivial|rfl|apply aA)
   all_goals rw[h1,h2]
  obtain ⟨h1,h2⟩:=aY1 hc
  have hne:¬(k:Int)=(i:Int):=by omega
  have hlt2:othN i k<l.length-1:=aSh h hlt hc
  have hit:itO l i (othN i k)= [I (k:Nat),agM (l.getD k mem0)]:=by unfold itO;rw[h2]
  (repeat'((conv=>whnf);first|refine Zg fun _=>?_|refine Zn ?_|refine Zj ?_|refine Zy ?_|fail))
  refine Need.mk (by rw[hit];(repeat' first|exact trivial|rfl|apply aA)) ?_
  refine Two.mk ?_ ?_
  ·(repeat refine ZR ?_)
   refine ⟨(k+1:Nat),by show l.length-(k+1)<l.length-k;omega,hlt,?_⟩
   (repeat' first|exact trivial|rfl|apply aA)
   all_goals rw[h1]
  skip
  (conv=>whnf)
  trivial
 have e:k=l.length:=by omega
 subst e
 have h1:othN i l.length=l.length-1:=by unfold othN;rw[aC (by omega)]
 (repeat refine ZR ?_)
 (conv=>whnf)
 all_goals rw[h1]
theorem b3086 (l:List Mem) (i:Int) (h:0<=i/\i<l.length):aD2 Tryz.prog [] { asks:=[(0,[])] } Tryz.f86 [.lelem [.seq tMem l] 0,.wcel i] (l.length-1) (itO l i.toNat):=by
 obtain ⟨n,rfl⟩:=bM h.1
 exact b86n l n (by omega)
def aOj:Con:=bB 86 false fun args K=>match args with | [.lelem [.seq (.pair (.int .i64) (.pair (.int .i64) (.pair (.int .i64) (.pair (.pair .str (.pair .str .str)) (.pair (.pair .str (.pair .str .str)) (.pair (.int .i64) (.int .i64))))))) l] 0,.wcel i]=>Need (0<=i/\i<l.length) (K (.itr (l.length-1) (itO l i.toNat))) | _=>False
theorem aYa:aS Tryz.prog aOj:=by
 refine kO Tryz.func86 fun args K h=>?_
 simp only[aOj] at h;split at h
 ·rename_i l i;exact ⟨_,h.go,qC (by simp) Tryz.func86 (by simp[Tryz.ntmps86]) (b3086 l i h.ok)⟩
 exact h.elim
def aSi:Con:=bB 48 false fun args K=>match args with | [.seq (.pair (.int .i64) (.pair (.int .i64) (.pair (.int .i64) (.pair (.pair .str (.pair .str .str)) (.pair (.pair .str (.pair .str .str)) (.pair (.int .i64) (.int .i64))))))) l,.val (.int .i64 i)]=>K (.clo 86 [] [.lelem [.seq (.pair (.int .i64) (.pair (.int .i64) (.pair (.int .i64) (.pair (.pair .str (.pair .str .str)) (.pair (.pair .str (.pair .str .str)) (.pair (.int .i64) (.int .i64))))))) l] 0,.wcel i]) | _=>False
theorem aYb:aS Tryz.prog aSi:=by
 refine kQ {} Tryz.func48 Tryz.ntmps48 kn fun _ _ h=>?_
 split at h
 case h_2=>exact h.elim
 refine kb h ?_
 (conv=>whnf)
 (repeat' first|exact trivial|rfl|apply aA)
 all_goals (conv=>whnf)
 all_goals skip
def aR4:Con:=bB 85 true fun args K=>match args with | [.agg [.val (.int .i64 k),.val (.int .i64 f),.val (.int .i64 o),.str a,.str b,.str c,.str d,.str e,.str g,.val (.int .i64 w),.val (.int .i64 t)],.agg [.val (.int .i64 k2),.val (.int .i64 f2),.val (.int .i64 o2),.str a2,.str b2,.str c2,.str d2,.str e2,.str g2,.val (.int .i64 w2),.val (.int .i64 t2)]]=>Need (memE (k,f,o,(a,b,c),(d,e,g),w,t)=0/\memE (k2,f2,o2,(a2,b2,c2),(d2,e2,g2),w2,t2)=0) (K (.tup [.bl (metP (k2,f2,o2,(a2,b2,c2),(d2,e2,g2),w2,t2) (d,e,g)) Cp,I 0])) | _=>False
theorem aXv:aS Tryz.prog aR4:=by
 refine kQ {} Tryz.func85 Tryz.ntmps85 (kc aXu kn) fun _ _ h=>?_
 split at h
 case h_2=>exact h.elim
 rename_i k f o a b c d e g w t k2 f2 o2 a2 b2 c2 d2 e2 g2 w2 t2
 have hh0:=h.ok
 refine kb h.go ?_
 obtain ⟨h1,h2⟩:=hh0
 have hs:∀s∈([(d,e,g)]:List (Bx × Bx × Bx)),okS s:=fun s hs=>by
  rw[bC.1 hs]
  exact (nS h1).2.2.1
 have hc:memE (k2,f2,o2,(a2,b2,c2),(d2,e2,g2),w2,t2)=0/\∀s∈([(d,e,g)]:List (Bx × Bx × Bx)),okS s:=⟨h2,hs⟩
 have hq:(∃s,s∈([(d,e,g)]:List (Bx × Bx × Bx))/\metP (k2,f2,o2,(a2,b2,c2),(d2,e2,g2),w2,t2) s)↔metP (k2,f2,o2,(a2,b2,c2),(d2,e2,g2),w2,t2) (d,e,g):=by
  constructor
  ·rintro ⟨s,hs,hm⟩
   rwa [bC.1 hs] at hm
  intro hm
  exact ⟨_,bC.2 rfl,hm⟩
 generalize metP (k2,f2,o2,(a2,b2,c2),(d2,e2,g2),w2,t2) (d,e,g)=Q at hq ⊢
 exact ZRx hq
def aOd:Con:=bB 82 true fun args K=>match args with | [.agg [.val (.int .i64 k),.val (.int .i64 f),.val (.int .i64 o),.str a,.str b,.str c,.str d,.str e,.str g,.val (.int .i64 w),.val (.int .i64 t)],.agg [.val (.int .i64 k2),.val (.int .i64 f2),.val (.int .i64 o2),.str a2,.str b2,.str c2,.str d2,.str e2,.str g2,.val (.int .i64 w2),.val (.int .i64 t2)]]=>Need (memE (k,f,o,(a,b,c),(d,e,g),w,t)=0/\memE (k2,f2,o2,(a2,b2,c2),(d2,e2,g2),w2,t2)=0) (K (.tup [.bl (tchP (k,f,o,(a,b,c),(d,e,g),w,t) (k2,f2,o2,(a2,b2,c2),(d2,e2,g2),w2,t2)) Cp,I 0])) | _=>False
theorem aR5:aS Tryz.prog aOd:=by
 refine kQ {} Tryz.func82 Tryz.ntmps82 (kc aXu kn) fun _ _ h=>?_
 split at h
 case h_2=>exact h.elim
 rename_i k f o a b c d e g w t k2 f2 o2 a2 b2 c2 d2 e2 g2 w2 t2
 have hh0:=h.ok
 refine kb h.go ?_
 obtain ⟨h1,h2⟩:=hh0
 have hs:∀s∈([(a,b,c),(d,e,g)]:List (Bx × Bx × Bx)),okS s:=fun s hs=>by
  rcases bE.1 hs with rfl | hs
  ·exact (nS h1).2.1
  rw[bC.1 hs]
  exact (nS h1).2.2.1
 have hc:memE (k2,f2,o2,(a2,b2,c2),(d2,e2,g2),w2,t2)=0/\∀s∈([(a,b,c),(d,e,g)]:List (Bx × Bx × Bx)),okS s:=⟨h2,hs⟩
 have hq:(∃s,s∈([(a,b,c),(d,e,g)]:List (Bx × Bx × Bx))/\metP (k2,f2,o2,(a2,b2,c2),(d2,e2,g2),w2,t2) s)↔tchP (k,f,o,(a,b,c),(d,e,g),w,t) (k2,f2,o2,(a2,b2,c2),(d2,e2,g2),w2,t2):=by
  constructor
  ·rintro ⟨s,hs,hm⟩
   rcases bE.1 hs with rfl | hs
   ·exact .inl hm
   rw[bC.1 hs] at hm;exact .inr hm
  rintro (hm | hm)
  ·exact ⟨_,bO ..,hm⟩
  exact ⟨_,bT _ (bC.2 rfl),hm⟩
 generalize tchP (k,f,o,(a,b,c),(d,e,g),w,t) (k2,f2,o2,(a2,b2,c2),(d2,e2,g2),w2,t2)=Q at hq ⊢
 exact ZRx hq
def mnS (u v:Sp) (i:Nat) (r:Bx):Prop:=match i with
 | 0=>jV u.1 u.2.1 v.1 v.2.1 r
 | 1=>jV u.2.1 u.2.2 v.2.1 v.2.2 r
 | _=>jV u.2.2 u.1 v.2.2 v.1 r
theorem aMe {k:Nat} {a b c d:Rat} (ha:Sz k a) (hb:Sz k b) (hc:Sz k c) (hd:Sz k d) (h0:0<k) (h:(k+k)+(k+k)+1<=300):jV (numS a) (numS b) (numS c) (numS d) (numS (a*d-b*c))/\Sz ((k+k)+(k+k)+1) (a*d-b*c):=
 ⟨⟨numS (a*d),numS (b*c),qG ha hd h0 h0 (by omega),qG hb hc h0 h0 (by omega),mT (ha.mul hd) (hb.mul hc) (by omega) (by omega) h⟩,(ha.mul hd).sub (hb.mul hc)⟩
theorem aHu {k:Nat} {u v:V3} (hu:Sz3 k u) (hv:Sz3 k v) (h0:0<k) (h:(k+k)+(k+k)+1<=300) (i:Nat):mnS (nS3 u) (nS3 v) i (numS (mnR u v i))/\Sz ((k+k)+(k+k)+1) (mnR u v i):=by
 match i with
 | 0=>exact aMe hu.1 hu.2.1 hv.1 hv.2.1 h0 h
 | 1=>exact aMe hu.2.1 hu.2.2 hv.2.1 hv.2.2 h0 h
 | _+2=>exact aMe hu.2.2 hu.1 hv.2.2 hv.1 h0 h
theorem aJr {i j k:Nat} {a u:V3} {s:Rat} (ha:Sz3 i a) (hu:Sz3 j u) (hs:Sz k s) (hi:0<i) (hj:0<j) (hk:0<k) (h:i+(j+k)+1<=300):alOK (nS3 a) (nS3 u) (numS s) (nS3 (aNx a u s)):=
 ⟨numS (u.1*s),numS (u.2.1*s),numS (u.2.2*s),qG hu.1 hs hj hk (by omega),qG hu.2.1 hs hj hk (by omega),qG hu.2.2 hs hj hk (by omega),
  aJp ha.1 (hu.1.mul hs) hi (by omega) h,aJp ha.2.1 (hu.2.1.mul hs) hi (by omega) h,aJp ha.2.2 (hu.2.2.mul hs) hi (by omega) h⟩
theorem aVt {u v:V3}:nS3 u=nS3 v↔u=v:=by
 constructor
 ·intro h
  unfold nS3 at h
  rw[fT,fT] at h
  obtain ⟨h1,h2,h3⟩:=h
  have g:∀ {p q:Rat},numS p=numS q->p=q:=fun {p q} e=>by rw[<- jH p,e,jH]
  exact gI (g h1) (gI (g h2) (g h3))
 intro h;rw[h]
def shS2 (s:Bx):Prop:=0<=(cmpQ s [48]).1/\(cmpQ s [49]).1<=0
theorem aRx:numS (1:Rat)= [49]:=by decide+kernel
theorem aJs {k:Nat} {s:Rat} (h:Sz k s) (h0:0<k) (hk:k+1<=300):shS2 (numS s)↔yW s:=by
 unfold shS2 yW
 rw[<- xF,<- aRx,aBt h sz0 h0 (by decide) (by omega),aBt h sz1 h0 (by decide) (by omega)]
def rdOK (F u G v w:Sp) (i:Nat) (r p s q t:Bx) (P Q:Sp):Prop:=
 mnS w v i p/\divQ p r=(s,0)/\mnS w u i q/\divQ q r=(t,0)/\alOK F u s P/\alOK G v t Q
theorem rd_ok {F u G v w:V3} (hF:Sz3 12 F) (hG:Sz3 12 G) (hu:Sz3 25 u) (hv:Sz3 25 v) (hw:Sz3 25 w) (i:Nat) (h:¬numS (mnR u v i)= [48]):
  ∃p s q t P Q,rdOK (nS3 F) (nS3 u) (nS3 G) (nS3 v) (nS3 w) i (numS (mnR u v i)) p s q t P Q/\(P=Q/\shS2 s/\shS2 t↔crAt F u G v w i):=by
 obtain ⟨_,zr⟩:=aHu hu hv (by decide) (by decide) i
 obtain ⟨hp,zp⟩:=aHu hw hv (by decide) (by decide) i
 obtain ⟨hq,zq⟩:=aHu hw hu (by decide) (by decide) i
 have h0:mnR u v i≠0:=fun e=>h (aC2.2 e)
 refine ⟨_,_,_,_,_,_,⟨hp,aQe zp zr (by decide) (by decide) (by decide) h0,hq,aQe zq zr (by decide) (by decide) (by decide) h0,aJr hF hu (zp.div zr h0) (by decide) (by decide) (by decide) (by decide),aJr hG hv (zq.div zr h0) (by decide) (by decide) (by decide) (by decide)⟩,?_⟩
 rw[aVt,aJs (zp.div zr h0) (by decide) (by decide),aJs (zq.div zr h0) (by decide) (by decide)]
 exact lH
theorem dS_n {s:Sp} (h:okS s) (h2:dS 12 s):s=nS3 (vS s)/\Sz3 12 (vS s):=⟨(aOb h).1,aHe h2.1,aHe h2.2.1,aHe h2.2.2⟩
theorem aHv {k:Nat} {u v:V3} (hu:Sz3 k u) (hv:Sz3 k v) (h0:0<k) (h:k+k+1<=300):jU (nS3 u) (nS3 v) (nS3 (sub3 u v))/\Sz3 (k+k+1) (sub3 u v):=
 ⟨⟨mT hu.1 hv.1 h0 h0 h,mT hu.2.1 hv.2.1 h0 h0 h,mT hu.2.2 hv.2.2 h0 h0 h⟩,hu.1.sub hv.1,hu.2.1.sub hv.2.1,hu.2.2.sub hv.2.2⟩
theorem aRy {m n:Mem} (h:crE m n=0):∃u v w:Sp,jU m.2.2.2.2.1 m.2.2.2.1 u/\jU n.2.2.2.2.1 n.2.2.2.1 v/\jU n.2.2.2.1 m.2.2.2.1 w/\∃r:Nat->Bx,(∀i,mnS u v i (r i))/\∃C:Nat->Prop,
  (∀i,¬r i= [48]->∃p s q t P Q,rdOK m.2.2.2.1 u n.2.2.2.1 v w i (r i) p s q t P Q/\(P=Q/\shS2 s/\shS2 t↔C i))/\
  (crP m n↔if ¬r 0= [48] then C 0 else if ¬r 1= [48] then C 1 else if ¬r 2= [48] then C 2 else False):=by
 unfold crE at h
 split at h
 ·exact absurd h (by decide)
 rename_i h1
 split at h
 ·exact absurd h (by decide)
 rename_i h2
 have m0:memE m=0:=aL fun q=>h1 (.inl q)
 have n0:memE n=0:=aL fun q=>h1 (.inr q)
 obtain ⟨_,mf,mt,_⟩:=nS m0
 obtain ⟨_,nf,nt,_⟩:=nS n0
 obtain ⟨e1,z1⟩:=dS_n mf (aL fun q=>h2 (.inl (.inl (.inl q))))
 obtain ⟨e2,z2⟩:=dS_n mt (aL fun q=>h2 (.inl (.inl (.inr q))))
 obtain ⟨e3,z3⟩:=dS_n nf (aL fun q=>h2 (.inl (.inr q)))
 obtain ⟨e4,z4⟩:=dS_n nt (aL fun q=>h2 (.inr q))
 obtain ⟨hu,zu⟩:=aHv z2 z1 (by decide) (by decide)
 obtain ⟨hv,zv⟩:=aHv z4 z3 (by decide) (by decide)
 obtain ⟨hw,zw⟩:=aHv z3 z1 (by decide) (by decide)
 rw[<- e2,<- e1] at hu
 rw[<- e4,<- e3] at hv
 rw[<- e3,<- e1] at hw
 refine ⟨_,_,_,hu,hv,hw,fun i=>numS (mnR (sub3 (vS m.2.2.2.2.1) (vS m.2.2.2.1)) (sub3 (vS n.2.2.2.2.1) (vS n.2.2.2.1)) i),fun i=>(aHu zu zv (by decide) (by decide) i).1,fun i=>crAt (vS m.2.2.2.1) (sub3 (vS m.2.2.2.2.1) (vS m.2.2.2.1)) (vS n.2.2.2.1) (sub3 (vS n.2.2.2.2.1) (vS n.2.2.2.1)) (sub3 (vS n.2.2.2.1) (vS m.2.2.2.1)) i,fun i hi=>?_,?_⟩
 ·have:=rd_ok z1 z3 zu zv zw i hi
  rwa [<- e1,<- e3] at this
 unfold crP crG
 simp only[aC2]
theorem aRz {m n:Mem} (h1:memE m=0) (h2:memE n=0) (h:¬(dS 12 m.2.2.2.1/\dS 12 m.2.2.2.2.1/\dS 12 n.2.2.2.1/\dS 12 n.2.2.2.2.1)):crE m n=4:=by
 unfold crE
 rw[aC (fun q=>q.elim (fun q=>q h1) fun q=>q h2),aD]
 apply aL
 intro q
 exact h ⟨aL fun x=>q (.inl (.inl (.inl x))),aL fun x=>q (.inl (.inl (.inr x))),aL fun x=>q (.inl (.inr x)),aL fun x=>q (.inr x)⟩
theorem aR0 {m n:Mem} (h1:memE m=0) (h2:memE n=0) (h:dS 12 m.2.2.2.1/\dS 12 m.2.2.2.2.1/\dS 12 n.2.2.2.1/\dS 12 n.2.2.2.2.1):crE m n=0:=by
 unfold crE
 rw[aC (fun q=>q.elim (fun q=>q h1) fun q=>q h2),aC]
 rintro (((q | q) | q) | q)
 ·exact q h.1
 ·exact q h.2.1
 ·exact q h.2.2.1
 exact q h.2.2.2
theorem aCp {m:Mem} (h:memE m=0):(chkQ m.2.2.2.1.1=0/\chkQ m.2.2.2.1.2.1=0/\chkQ m.2.2.2.1.2.2=0)/\chkQ m.2.2.2.2.1.1=0/\chkQ m.2.2.2.2.1.2.1=0/\chkQ m.2.2.2.2.1.2.2=0:=by
 obtain ⟨_,h1,h2,_⟩:=nS h
 exact ⟨rW.1 h1.1,rW.1 h2.1⟩
theorem b119n (k f o:Int) (a b c d e g:Bx) (w t:Int) (k2 f2 o2:Int) (a2 b2 c2 d2 e2 g2:Bx) (w2 t2:Int) (h1:memE (k,f,o,(a,b,c),(d,e,g),w,t)=0) (h2:memE (k2,f2,o2,(a2,b2,c2),(d2,e2,g2),w2,t2)=0) (hd:¬(dS 12 (a,b,c)/\dS 12 (d,e,g)/\dS 12 (a2,b2,c2)/\dS 12 (d2,e2,g2))) (M:Prop) (hn:¬M):body Tryz.prog [xI,xN,xJ,xK,qT,xL,xM] {} true Tryz.f119 [.agg [I k,I f,I o,S a,S b,S c,S d,S e,S g,I w,I t],.agg [I k2,I f2,I o2,S a2,S b2,S c2,S d2,S e2,S g2,I w2,I t2]] (.tup [.agg [.str [],.str [],.str []],.bl M Cp,I 4]):=by
 have hl:([(a,b,c),(d,e,g),(a2,b2,c2),(d2,e2,g2)]:List (Bx × Bx × Bx)).length=4:=rfl
 obtain ⟨⟨q1,q2,q3⟩,q4,q5,q6⟩:=aCp h1
 obtain ⟨⟨q7,q8,q9⟩,q10,q11,q12⟩:=aCp h2
 dsimp only at q1 q2 q3 q4 q5 q6 q7 q8 q9 q10 q11 q12
 by_cases dd0:dK 12 (valQ a)
 case neg=>
  exact ZRx hn
 by_cases dd1:dK 12 (valQ b)
 case neg=>
  exact ZRx hn
 by_cases dd2:dK 12 (valQ c)
 case neg=>
  exact ZRx hn
 by_cases dd3:dK 12 (valQ d)
 case neg=>
  exact ZRx hn
 by_cases dd4:dK 12 (valQ e)
 case neg=>
  exact ZRx hn
 by_cases dd5:dK 12 (valQ g)
 case neg=>
  exact ZRx hn
 by_cases dd6:dK 12 (valQ a2)
 case neg=>
  exact ZRx hn
 by_cases dd7:dK 12 (valQ b2)
 case neg=>
  exact ZRx hn
 by_cases dd8:dK 12 (valQ c2)
 case neg=>
  exact ZRx hn
 by_cases dd9:dK 12 (valQ d2)
 case neg=>
  exact ZRx hn
 by_cases dd10:dK 12 (valQ e2)
 case neg=>
  exact ZRx hn
 by_cases dd11:dK 12 (valQ g2)
 case neg=>
  exact ZRx hn
 exact absurd ⟨⟨dd0,dd1,dd2⟩,⟨dd3,dd4,dd5⟩,⟨dd6,dd7,dd8⟩,dd9,dd10,dd11⟩ hd
abbrev aC3 (a b c d e g a2 b2 c2 d2 e2 g2:Bx):Prop:=(chkQ a=0/\chkQ b=0/\chkQ c=0/\chkQ d=0/\chkQ e=0/\chkQ g=0/\chkQ a2=0/\chkQ b2=0/\chkQ c2=0/\chkQ d2=0/\chkQ e2=0/\chkQ g2=0)/\dK 12 (valQ a)/\dK 12 (valQ b)/\dK 12 (valQ c)/\dK 12 (valQ d)/\dK 12 (valQ e)/\dK 12 (valQ g)/\dK 12 (valQ a2)/\dK 12 (valQ b2)/\dK 12 (valQ c2)/\dK 12 (valQ d2)/\dK 12 (valQ e2)/\dK 12 (valQ g2)
theorem aR1 (k f o:Int) (a b c d e g:Bx) (w t:Int) (k2 f2 o2:Int) (a2 b2 c2 d2 e2 g2:Bx) (w2 t2:Int) (h1:memE (k,f,o,(a,b,c),(d,e,g),w,t)=0) (h2:memE (k2,f2,o2,(a2,b2,c2),(d2,e2,g2),w2,t2)=0) (hq:aC3 a b c d e g a2 b2 c2 d2 e2 g2) (u1 u2 u3 v1 v2 v3 y1 y2 y3:Bx) (hu:jU (d,e,g) (a,b,c) (u1,u2,u3)) (hv:jU (d2,e2,g2) (a2,b2,c2) (v1,v2,v3)) (hw:jU (a2,b2,c2) (a,b,c) (y1,y2,y3)) (x0:Bx) (r0:jV u1 u2 v1 v2 x0) (z0:¬x0= [48]) (p s q t4 P1 P2 P3 Q1 Q2 Q3:Bx) (gg1:jV y1 y2 v1 v2 p) (gg2:divQ p x0=(s,0)) (gg3:jV y1 y2 u1 u2 q) (gg4:divQ q x0=(t4,0)) (gg5:alOK (a,b,c) (u1,u2,u3) s (P1,P2,P3)) (gg6:alOK (a2,b2,c2) (v1,v2,v3) t4 (Q1,Q2,Q3)) (M:Prop) (X1 X2 X3:Bx) (hM:M↔ [P1,P2,P3]= [Q1,Q2,Q3]/\shS2 s/\shS2 t4) (hy: [P1,P2,P3]= [Q1,Q2,Q3]/\shS2 s/\shS2 t4->X1=P1/\X2=P2/\X3=P3) (hn:¬([P1,P2,P3]= [Q1,Q2,Q3]/\shS2 s/\shS2 t4)->X1= []/\X2= []/\X3= []):body Tryz.prog [xI,xN,xJ,xK,qT,xL,xM] {} true Tryz.f119 [.agg [I k,I f,I o,S a,S b,S c,S d,S e,S g,I w,I t],.agg [I k2,I f2,I o2,S a2,S b2,S c2,S d2,S e2,S g2,I w2,I t2]] (.tup [.agg [S X1,S X2,S X3],.bl M Cp,I 0]):=by
 have hl:([(a,b,c),(d,e,g),(a2,b2,c2),(d2,e2,g2)]:List (Bx × Bx × Bx)).length=4:=rfl
 have hl3:([(0,1),(1,2),(2,0)]:List (Int × Int)).length=3:=rfl
 obtain ⟨⟨q1,q2,q3,q4,q5,q6,q7,q8,q9,q10,q11,q12⟩,dd0,dd1,dd2,dd3,dd4,dd5,dd6,dd7,dd8,dd9,dd10,dd11⟩:=hq
 (repeat'((conv=>whnf);first|refine .h ?_|refine Zg fun _=>?_|refine Zn ?_|refine Z0 ?_|refine Z1 ?_|refine Z2 ?_|refine Zj ?_|apply pI|apply pJ|(apply PinH.mk;apply aF;apply aF)|exact Zf|refine Zc ?_ ?_|refine Zl ?_|refine Zy ?_|refine Zm ?_|fail))
 refine Need.mk ⟨⟨by decide,by decide,by decide,trivial⟩,by kernel_rfl⟩ ?_
 clear gg1 gg2 gg3 gg4 gg5 gg6 hu hv hw r0 q1 q2 q3 q4 q5 q6 q7 q8 q9 q10 q11 q12 dd0 dd1 dd2 dd3 dd4 dd5 dd6 dd7 dd8 dd9 dd10 dd11
 by_cases y: [P1,P2,P3]= [Q1,Q2,Q3]
 ·by_cases s1:shS2 s
  ·have s1':0<=(cmpQ s [48]).1/\(cmpQ s [49]).1<=0:=s1
   by_cases s2:shS2 t4
   ·have s2':0<=(cmpQ t4 [48]).1/\(cmpQ t4 [49]).1<=0:=s2
    obtain ⟨j1,j2,j3⟩:=hy ⟨y,s1,s2⟩
    subst j1 j2 j3
    exact ZHx (hM.2 ⟨y,s1,s2⟩)
   have s2':¬(0<=(cmpQ t4 [48]).1/\(cmpQ t4 [49]).1<=0):=s2
   obtain ⟨j1,j2,j3⟩:=hn fun q=>s2 q.2.2
   subst j1 j2 j3
   (repeat refine ZH ?_)
   (conv=>whnf)
   (repeat' first|exact trivial|rfl|apply aA)
   all_goals exact fun hm=>s2 (hM.1 hm).2.2
  have s1':¬(0<=(cmpQ s [48]).1/\(cmpQ s [49]).1<=0):=s1
  obtain ⟨j1,j2,j3⟩:=hn fun q=>s1 q.2.1
  subst j1 j2 j3
  (repeat refine ZH ?_)
  (conv=>whnf)
  (repeat' first|exact trivial|rfl|apply aA)
  all_goals exact fun hm=>s1 (hM.1 hm).2.1
 obtain ⟨j1,j2,j3⟩:=hn fun q=>y q.1
 subst j1 j2 j3
 (repeat refine ZH ?_)
 (conv=>whnf)
 (repeat' first|exact trivial|rfl|apply aA)
 all_goals exact fun hm=>y (hM.1 hm).1
theorem aR2 (k f o:Int) (a b c d e g:Bx) (w t:Int) (k2 f2 o2:Int) (a2 b2 c2 d2 e2 g2:Bx) (w2 t2:Int) (h1:memE (k,f,o,(a,b,c),(d,e,g),w,t)=0) (h2:memE (k2,f2,o2,(a2,b2,c2),(d2,e2,g2),w2,t2)=0) (hq:aC3 a b c d e g a2 b2 c2 d2 e2 g2) (u1 u2 u3 v1 v2 v3 y1 y2 y3:Bx) (hu:jU (d,e,g) (a,b,c) (u1,u2,u3)) (hv:jU (d2,e2,g2) (a2,b2,c2) (v1,v2,v3)) (hw:jU (a2,b2,c2) (a,b,c) (y1,y2,y3)) (x0 x1:Bx) (r0:jV u1 u2 v1 v2 x0) (r1:jV u2 u3 v2 v3 x1) (z0:x0= [48]) (z1:¬x1= [48]) (p s q t4 P1 P2 P3 Q1 Q2 Q3:Bx) (gg1:jV y2 y3 v2 v3 p) (gg2:divQ p x1=(s,0)) (gg3:jV y2 y3 u2 u3 q) (gg4:divQ q x1=(t4,0)) (gg5:alOK (a,b,c) (u1,u2,u3) s (P1,P2,P3)) (gg6:alOK (a2,b2,c2) (v1,v2,v3) t4 (Q1,Q2,Q3)) (M:Prop) (X1 X2 X3:Bx) (hM:M↔ [P1,P2,P3]= [Q1,Q2,Q3]/\shS2 s/\shS2 t4) (hy: [P1,P2,P3]= [Q1,Q2,Q3]/\shS2 s/\shS2 t4->X1=P1/\X2=P2/\X3=P3) (hn:¬([P1,P2,P3]= [Q1,Q2,Q3]/\shS2 s/\shS2 t4)->X1= []/\X2= []/\X3= []):body Tryz.prog [xI,xN,xJ,xK,qT,xL,xM] {} true Tryz.f119 [.agg [I k,I f,I o,S a,S b,S c,S d,S e,S g,I w,I t],.agg [I k2,I f2,I o2,S a2,S b2,S c2,S d2,S e2,S g2,I w2,I t2]] (.tup [.agg [S X1,S X2,S X3],.bl M Cp,I 0]):=by
 have hl:([(a,b,c),(d,e,g),(a2,b2,c2),(d2,e2,g2)]:List (Bx × Bx × Bx)).length=4:=rfl
 have hl3:([(0,1),(1,2),(2,0)]:List (Int × Int)).length=3:=rfl
 obtain ⟨⟨q1,q2,q3,q4,q5,q6,q7,q8,q9,q10,q11,q12⟩,dd0,dd1,dd2,dd3,dd4,dd5,dd6,dd7,dd8,dd9,dd10,dd11⟩:=hq
 (repeat'((conv=>whnf);first|refine .h ?_|refine Zg fun _=>?_|refine Zn ?_|refine Z0 ?_|refine Z1 ?_|refine Z2 ?_|refine Zj ?_|apply pI|apply pJ|(apply PinH.mk;apply aF;apply aF)|exact Zf|refine Zc ?_ ?_|refine Zl ?_|refine Zy ?_|refine Zm ?_|fail))
 refine Need.mk ⟨⟨by decide,by decide,by decide,trivial⟩,by kernel_rfl⟩ ?_
 clear gg1 gg2 gg3 gg4 gg5 gg6 hu hv hw r0 q1 q2 q3 q4 q5 q6 q7 q8 q9 q10 q11 q12 dd0 dd1 dd2 dd3 dd4 dd5 dd6 dd7 dd8 dd9 dd10 dd11
 by_cases y: [P1,P2,P3]= [Q1,Q2,Q3]
 ·by_cases s1:shS2 s
  ·have s1':0<=(cmpQ s [48]).1/\(cmpQ s [49]).1<=0:=s1
   by_cases s2:shS2 t4
   ·have s2':0<=(cmpQ t4 [48]).1/\(cmpQ t4 [49]).1<=0:=s2
    obtain ⟨j1,j2,j3⟩:=hy ⟨y,s1,s2⟩
    subst j1 j2 j3
    exact ZHx (hM.2 ⟨y,s1,s2⟩)
   have s2':¬(0<=(cmpQ t4 [48]).1/\(cmpQ t4 [49]).1<=0):=s2
   obtain ⟨j1,j2,j3⟩:=hn fun q=>s2 q.2.2
   subst j1 j2 j3
   (repeat refine ZH ?_)
   (conv=>whnf)
   (repeat' first|exact trivial|rfl|apply aA)
   all_goals exact fun hm=>s2 (hM.1 hm).2.2
  have s1':¬(0<=(cmpQ s [48]).1/\(cmpQ s [49]).1<=0):=s1
  obtain ⟨j1,j2,j3⟩:=hn fun q=>s1 q.2.1
  subst j1 j2 j3
  (repeat refine ZH ?_)
  (conv=>whnf)
  (repeat' first|exact trivial|rfl|apply aA)
  all_goals exact fun hm=>s1 (hM.1 hm).2.1
 obtain ⟨j1,j2,j3⟩:=hn fun q=>y q.1
 subst j1 j2 j3
 (repeat refine ZH ?_)
 (conv=>whnf)
 (repeat' first|exact trivial|rfl|apply aA)
 all_goals exact fun hm=>y (hM.1 hm).1
theorem aR3 (k f o:Int) (a b c d e g:Bx) (w t:Int) (k2 f2 o2:Int) (a2 b2 c2 d2 e2 g2:Bx) (w2 t2:Int) (h1:memE (k,f,o,(a,b,c),(d,e,g),w,t)=0) (h2:memE (k2,f2,o2,(a2,b2,c2),(d2,e2,g2),w2,t2)=0) (hq:aC3 a b c d e g a2 b2 c2 d2 e2 g2) (u1 u2 u3 v1 v2 v3 y1 y2 y3:Bx) (hu:jU (d,e,g) (a,b,c) (u1,u2,u3)) (hv:jU (d2,e2,g2) (a2,b2,c2) (v1,v2,v3)) (hw:jU (a2,b2,c2) (a,b,c) (y1,y2,y3)) (x0 x1 x2:Bx) (r0:jV u1 u2 v1 v2 x0) (r1:jV u2 u3 v2 v3 x1) (r2:jV u3 u1 v3 v1 x2) (z0:x0= [48]) (z1:x1= [48]) (z2:¬x2= [48]) (p s q t4 P1 P2 P3 Q1 Q2 Q3:Bx) (gg1:jV y3 y1 v3 v1 p) (gg2:divQ p x2=(s,0)) (gg3:jV y3 y1 u3 u1 q) (gg4:divQ q x2=(t4,0)) (gg5:alOK (a,b,c) (u1,u2,u3) s (P1,P2,P3)) (gg6:alOK (a2,b2,c2) (v1,v2,v3) t4 (Q1,Q2,Q3)) (M:Prop) (X1 X2 X3:Bx) (hM:M↔ [P1,P2,P3]= [Q1,Q2,Q3]/\shS2 s/\shS2 t4) (hy: [P1,P2,P3]= [Q1,Q2,Q3]/\shS2 s/\shS2 t4->X1=P1/\X2=P2/\X3=P3) (hn:¬([P1,P2,P3]= [Q1,Q2,Q3]/\shS2 s/\shS2 t4)->X1= []/\X2= []/\X3= []):body Tryz.prog [xI,xN,xJ,xK,qT,xL,xM] {} true Tryz.f119 [.agg [I k,I f,I o,S a,S b,S c,S d,S e,S g,I w,I t],.agg [I k2,I f2,I o2,S a2,S b2,S c2,S d2,S e2,S g2,I w2,I t2]] (.tup [.agg [S X1,S X2,S X3],.bl M Cp,I 0]):=by
 have hl:([(a,b,c),(d,e,g),(a2,b2,c2),(d2,e2,g2)]:List (Bx × Bx × Bx)).length=4:=rfl
 have hl3:([(0,1),(1,2),(2,0)]:List (Int × Int)).length=3:=rfl
 obtain ⟨⟨q1,q2,q3,q4,q5,q6,q7,q8,q9,q10,q11,q12⟩,dd0,dd1,dd2,dd3,dd4,dd5,dd6,dd7,dd8,dd9,dd10,dd11⟩:=hq
 (repeat'((conv=>whnf);first|refine .h ?_|refine Zg fun _=>?_|refine Zn ?_|refine Z0 ?_|refine Z1 ?_|refine Z2 ?_|refine Zj ?_|apply pI|apply pJ|(apply PinH.mk;apply aF;apply aF)|exact Zf|refine Zc ?_ ?_|refine Zl ?_|refine Zy ?_|refine Zm ?_|fail))
 refine Need.mk ⟨⟨by decide,by decide,by decide,trivial⟩,by kernel_rfl⟩ ?_
 clear gg1 gg2 gg3 gg4 gg5 gg6 hu hv hw r0 q1 q2 q3 q4 q5 q6 q7 q8 q9 q10 q11 q12 dd0 dd1 dd2 dd3 dd4 dd5 dd6 dd7 dd8 dd9 dd10 dd11
 by_cases y: [P1,P2,P3]= [Q1,Q2,Q3]
 ·by_cases s1:shS2 s
  ·have s1':0<=(cmpQ s [48]).1/\(cmpQ s [49]).1<=0:=s1
   by_cases s2:shS2 t4
   ·have s2':0<=(cmpQ t4 [48]).1/\(cmpQ t4 [49]).1<=0:=s2
    obtain ⟨j1,j2,j3⟩:=hy ⟨y,s1,s2⟩
    subst j1 j2 j3
    exact ZHx (hM.2 ⟨y,s1,s2⟩)
   have s2':¬(0<=(cmpQ t4 [48]).1/\(cmpQ t4 [49]).1<=0):=s2
   obtain ⟨j1,j2,j3⟩:=hn fun q=>s2 q.2.2
   subst j1 j2 j3
   (repeat refine ZH ?_)
   (conv=>whnf)
   (repeat' first|exact trivial|rfl|apply aA)
   all_goals exact fun hm=>s2 (hM.1 hm).2.2
  have s1':¬(0<=(cmpQ s [48]).1/\(cmpQ s [49]).1<=0):=s1
  obtain ⟨j1,j2,j3⟩:=hn fun q=>s1 q.2.1
  subst j1 j2 j3
  (repeat refine ZH ?_)
  (conv=>whnf)
  (repeat' first|exact trivial|rfl|apply aA)
  all_goals exact fun hm=>s1 (hM.1 hm).2.1
 obtain ⟨j1,j2,j3⟩:=hn fun q=>y q.1
 subst j1 j2 j3
 (repeat refine ZH ?_)
 (conv=>whnf)
 (repeat' first|exact trivial|rfl|apply aA)
 all_goals exact fun hm=>y (hM.1 hm).1
theorem b119z (k f o:Int) (a b c d e g:Bx) (w t:Int) (k2 f2 o2:Int) (a2 b2 c2 d2 e2 g2:Bx) (w2 t2:Int) (h1:memE (k,f,o,(a,b,c),(d,e,g),w,t)=0) (h2:memE (k2,f2,o2,(a2,b2,c2),(d2,e2,g2),w2,t2)=0) (hq:aC3 a b c d e g a2 b2 c2 d2 e2 g2) (u1 u2 u3 v1 v2 v3 y1 y2 y3:Bx) (hu:jU (d,e,g) (a,b,c) (u1,u2,u3)) (hv:jU (d2,e2,g2) (a2,b2,c2) (v1,v2,v3)) (hw:jU (a2,b2,c2) (a,b,c) (y1,y2,y3)) (x0 x1 x2:Bx) (r0:jV u1 u2 v1 v2 x0) (r1:jV u2 u3 v2 v3 x1) (r2:jV u3 u1 v3 v1 x2) (z0:x0= [48]) (z1:x1= [48]) (z2:x2= [48]) (M:Prop) (hM:¬M):body Tryz.prog [xI,xN,xJ,xK,qT,xL,xM] {} true Tryz.f119 [.agg [I k,I f,I o,S a,S b,S c,S d,S e,S g,I w,I t],.agg [I k2,I f2,I o2,S a2,S b2,S c2,S d2,S e2,S g2,I w2,I t2]] (.tup [.agg [S [],S [],S []],.bl M Cp,I 0]):=by
 have hl:([(a,b,c),(d,e,g),(a2,b2,c2),(d2,e2,g2)]:List (Bx × Bx × Bx)).length=4:=rfl
 have hl3:([(0,1),(1,2),(2,0)]:List (Int × Int)).length=3:=rfl
 obtain ⟨⟨q1,q2,q3,q4,q5,q6,q7,q8,q9,q10,q11,q12⟩,dd0,dd1,dd2,dd3,dd4,dd5,dd6,dd7,dd8,dd9,dd10,dd11⟩:=hq
 (repeat'((conv=>whnf);first|refine .h ?_|refine Zg fun _=>?_|refine Zn ?_|refine Z0 ?_|refine Z1 ?_|refine Z2 ?_|refine Zj ?_|apply pI|apply pJ|(apply PinH.mk;apply aF;apply aF)|exact Zf|refine Zc ?_ ?_|refine Zl ?_|refine Zy ?_|refine Zm ?_|fail))
 exact ZFx hM
theorem spL {a b c d e g:Bx}:((a,b,c):Sp)=(d,e,g)↔ [a,b,c]= [d,e,g]:=by
 constructor
 ·intro h;rw[fT,fT] at h;rw[h.1,h.2.1,h.2.2]
 intro e;injection e with e1 e;injection e with e2 e;injection e with e3 _;rw[e1,e2,e3]
theorem b119y (k f o:Int) (a b c d e g:Bx) (w t:Int) (k2 f2 o2:Int) (a2 b2 c2 d2 e2 g2:Bx) (w2 t2:Int) (h1:memE (k,f,o,(a,b,c),(d,e,g),w,t)=0) (h2:memE (k2,f2,o2,(a2,b2,c2),(d2,e2,g2),w2,t2)=0) (hd:dS 12 (a,b,c)/\dS 12 (d,e,g)/\dS 12 (a2,b2,c2)/\dS 12 (d2,e2,g2)) (M:Prop) (u v w3:Sp) (hu:jU (d,e,g) (a,b,c) u) (hv:jU (d2,e2,g2) (a2,b2,c2) v) (hw:jU (a2,b2,c2) (a,b,c) w3) (r:Nat->Bx) (hr:∀i,mnS u v i (r i)) (C:Nat->Prop)
  (hC:∀i,¬r i= [48]->∃p s q t P Q,rdOK (a,b,c) u (a2,b2,c2) v w3 i (r i) p s q t P Q/\(P=Q/\shS2 s/\shS2 t↔C i))
  (hB:M↔(if ¬r 0= [48] then C 0 else if ¬r 1= [48] then C 1 else if ¬r 2= [48] then C 2 else False)):∃X:Sp,body Tryz.prog [xI,xN,xJ,xK,qT,xL,xM] {} true Tryz.f119 [.agg [I k,I f,I o,S a,S b,S c,S d,S e,S g,I w,I t],.agg [I k2,I f2,I o2,S a2,S b2,S c2,S d2,S e2,S g2,I w2,I t2]] (.tup [.agg [S X.1,S X.2.1,S X.2.2],.bl M Cp,I 0]):=by
 obtain ⟨⟨q1,q2,q3⟩,q4,q5,q6⟩:=aCp h1
 obtain ⟨⟨q7,q8,q9⟩,q10,q11,q12⟩:=aCp h2
 dsimp only at q1 q2 q3 q4 q5 q6 q7 q8 q9 q10 q11 q12
 obtain ⟨⟨dd0,dd1,dd2⟩,⟨dd3,dd4,dd5⟩,⟨dd6,dd7,dd8⟩,dd9,dd10,dd11⟩:=hd
 have hq:aC3 a b c d e g a2 b2 c2 d2 e2 g2:=⟨⟨q1,q2,q3,q4,q5,q6,q7,q8,q9,q10,q11,q12⟩,dd0,dd1,dd2,dd3,dd4,dd5,dd6,dd7,dd8,dd9,dd10,dd11⟩
 obtain ⟨u1,u2,u3⟩:=u
 obtain ⟨v1,v2,v3⟩:=v
 obtain ⟨y1,y2,y3⟩:=w3
 have r0:jV u1 u2 v1 v2 (r 0):=hr 0
 have r1:jV u2 u3 v2 v3 (r 1):=hr 1
 have r2:jV u3 u1 v3 v1 (r 2):=hr 2
 have n0:=hC 0
 have n1:=hC 1
 have n2:=hC 2
 clear hr hC
 generalize r 0=x0 at*
 generalize r 1=x1 at*
 generalize r 2=x2 at*
 by_cases z0:¬x0= [48]
 case pos=>
  rw[aD z0] at hB
  obtain ⟨p,s,q,t4,P,Q,⟨gg1,gg2,gg3,gg4,gg5,gg6⟩,hh⟩:=n0 z0
  obtain ⟨P1,P2,P3⟩:=P
  obtain ⟨Q1,Q2,Q3⟩:=Q
  have hM:M↔ [P1,P2,P3]= [Q1,Q2,Q3]/\shS2 s/\shS2 t4:=(hB.trans hh.symm).trans ⟨fun q=>⟨spL.1 q.1,q.2⟩,fun q=>⟨spL.2 q.1,q.2⟩⟩
  by_cases hc: [P1,P2,P3]= [Q1,Q2,Q3]/\shS2 s/\shS2 t4
  ·exact ⟨(P1,P2,P3),aR1 k f o a b c d e g w t k2 f2 o2 a2 b2 c2 d2 e2 g2 w2 t2 h1 h2 hq u1 u2 u3 v1 v2 v3 y1 y2 y3 hu hv hw x0 r0 z0 p s q t4 P1 P2 P3 Q1 Q2 Q3 gg1 gg2 gg3 gg4 gg5 gg6 M P1 P2 P3 hM (fun _=>⟨rfl,rfl,rfl⟩) fun h=>absurd hc h⟩
  exact ⟨([],[],[]),aR1 k f o a b c d e g w t k2 f2 o2 a2 b2 c2 d2 e2 g2 w2 t2 h1 h2 hq u1 u2 u3 v1 v2 v3 y1 y2 y3 hu hv hw x0 r0 z0 p s q t4 P1 P2 P3 Q1 Q2 Q3 gg1 gg2 gg3 gg4 gg5 gg6 M [] [] [] hM (fun h=>absurd h hc) fun _=>⟨rfl,rfl,rfl⟩⟩
 rw[aC z0] at hB
 have z0:x0= [48]:=bD.1 z0
 by_cases z1:¬x1= [48]
 case pos=>
  rw[aD z1] at hB
  obtain ⟨p,s,q,t4,P,Q,⟨gg1,gg2,gg3,gg4,gg5,gg6⟩,hh⟩:=n1 z1
  obtain ⟨P1,P2,P3⟩:=P
  obtain ⟨Q1,Q2,Q3⟩:=Q
  have hM:M↔ [P1,P2,P3]= [Q1,Q2,Q3]/\shS2 s/\shS2 t4:=(hB.trans hh.symm).trans ⟨fun q=>⟨spL.1 q.1,q.2⟩,fun q=>⟨spL.2 q.1,q.2⟩⟩
  by_cases hc: [P1,P2,P3]= [Q1,Q2,Q3]/\shS2 s/\shS2 t4
  ·exact ⟨(P1,P2,P3),aR2 k f o a b c d e g w t k2 f2 o2 a2 b2 c2 d2 e2 g2 w2 t2 h1 h2 hq u1 u2 u3 v1 v2 v3 y1 y2 y3 hu hv hw x0 x1 r0 r1 z0 z1 p s q t4 P1 P2 P3 Q1 Q2 Q3 gg1 gg2 gg3 gg4 gg5 gg6 M P1 P2 P3 hM (fun _=>⟨rfl,rfl,rfl⟩) fun h=>absurd hc h⟩
  exact ⟨([],[],[]),aR2 k f o a b c d e g w t k2 f2 o2 a2 b2 c2 d2 e2 g2 w2 t2 h1 h2 hq u1 u2 u3 v1 v2 v3 y1 y2 y3 hu hv hw x0 x1 r0 r1 z0 z1 p s q t4 P1 P2 P3 Q1 Q2 Q3 gg1 gg2 gg3 gg4 gg5 gg6 M [] [] [] hM (fun h=>absurd h hc) fun _=>⟨rfl,rfl,rfl⟩⟩
 rw[aC z1] at hB
 have z1:x1= [48]:=bD.1 z1
 by_cases z2:¬x2= [48]
 case pos=>
  rw[aD z2] at hB
  obtain ⟨p,s,q,t4,P,Q,⟨gg1,gg2,gg3,gg4,gg5,gg6⟩,hh⟩:=n2 z2
  obtain ⟨P1,P2,P3⟩:=P
  obtain ⟨Q1,Q2,Q3⟩:=Q
  have hM:M↔ [P1,P2,P3]= [Q1,Q2,Q3]/\shS2 s/\shS2 t4:=(hB.trans hh.symm).trans ⟨fun q=>⟨spL.1 q.1,q.2⟩,fun q=>⟨spL.2 q.1,q.2⟩⟩
  by_cases hc: [P1,P2,P3]= [Q1,Q2,Q3]/\shS2 s/\shS2 t4
  ·exact ⟨(P1,P2,P3),aR3 k f o a b c d e g w t k2 f2 o2 a2 b2 c2 d2 e2 g2 w2 t2 h1 h2 hq u1 u2 u3 v1 v2 v3 y1 y2 y3 hu hv hw x0 x1 x2 r0 r1 r2 z0 z1 z2 p s q t4 P1 P2 P3 Q1 Q2 Q3 gg1 gg2 gg3 gg4 gg5 gg6 M P1 P2 P3 hM (fun _=>⟨rfl,rfl,rfl⟩) fun h=>absurd hc h⟩
  exact ⟨([],[],[]),aR3 k f o a b c d e g w t k2 f2 o2 a2 b2 c2 d2 e2 g2 w2 t2 h1 h2 hq u1 u2 u3 v1 v2 v3 y1 y2 y3 hu hv hw x0 x1 x2 r0 r1 r2 z0 z1 z2 p s q t4 P1 P2 P3 Q1 Q2 Q3 gg1 gg2 gg3 gg4 gg5 gg6 M [] [] [] hM (fun h=>absurd h hc) fun _=>⟨rfl,rfl,rfl⟩⟩
 rw[aC z2] at hB
 have z2:x2= [48]:=bD.1 z2
 exact ⟨([],[],[]),b119z k f o a b c d e g w t k2 f2 o2 a2 b2 c2 d2 e2 g2 w2 t2 h1 h2 hq u1 u2 u3 v1 v2 v3 y1 y2 y3 hu hv hw x0 x1 x2 r0 r1 r2 z0 z1 z2 M hB.1⟩
theorem b119e (k f o:Int) (a b c d e g:Bx) (w t:Int) (k2 f2 o2:Int) (a2 b2 c2 d2 e2 g2:Bx) (w2 t2:Int):∃X:Sp,body Tryz.prog [xI,xN,xJ,xK,qT,xL,xM] {} true Tryz.f119 [.agg [I k,I f,I o,S a,S b,S c,S d,S e,S g,I w,I t],.agg [I k2,I f2,I o2,S a2,S b2,S c2,S d2,S e2,S g2,I w2,I t2]] (.tup [.agg [S X.1,S X.2.1,S X.2.2],.bl (crB (k,f,o,(a,b,c),(d,e,g),w,t) (k2,f2,o2,(a2,b2,c2),(d2,e2,g2),w2,t2)) Cp,I (crE (k,f,o,(a,b,c),(d,e,g),w,t) (k2,f2,o2,(a2,b2,c2),(d2,e2,g2),w2,t2))]):=by
 by_cases h1:memE (k,f,o,(a,b,c),(d,e,g),w,t)=0
 ·by_cases h2:memE (k2,f2,o2,(a2,b2,c2),(d2,e2,g2),w2,t2)=0
  ·by_cases hd:dS 12 (a,b,c)/\dS 12 (d,e,g)/\dS 12 (a2,b2,c2)/\dS 12 (d2,e2,g2)
   ·have e0:=aR0 h1 h2 hd
    obtain ⟨u,v,w3,hu,hv,hw,r,hr,C,hC,hP⟩:=aRy e0
    rw[e0]
    exact b119y k f o a b c d e g w t k2 f2 o2 a2 b2 c2 d2 e2 g2 w2 t2 h1 h2 hd _ u v w3 hu hv hw r hr C hC ⟨fun hc=>hP.1 hc.2,fun hc=>⟨e0,hP.2 hc⟩⟩
   have e4:=aRz h1 h2 hd
   refine ⟨([],[],[]),?_⟩
   rw[e4]
   exact b119n k f o a b c d e g w t k2 f2 o2 a2 b2 c2 d2 e2 g2 w2 t2 h1 h2 hd _ fun hc=>absurd (e4.symm.trans hc.1) (by decide)
  have e1:crE (k,f,o,(a,b,c),(d,e,g),w,t) (k2,f2,o2,(a2,b2,c2),(d2,e2,g2),w2,t2)=1:=by unfold crE;rw[aD (.inr h2)]
  have hn:¬crB (k,f,o,(a,b,c),(d,e,g),w,t) (k2,f2,o2,(a2,b2,c2),(d2,e2,g2),w2,t2):=fun hc=>absurd (e1.symm.trans hc.1) (by decide)
  refine ⟨([],[],[]),?_⟩
  rw[e1]
  generalize crB (k,f,o,(a,b,c),(d,e,g),w,t) (k2,f2,o2,(a2,b2,c2),(d2,e2,g2),w2,t2)=M at hn ⊢
  exact ZRx hn
 have e1:crE (k,f,o,(a,b,c),(d,e,g),w,t) (k2,f2,o2,(a2,b2,c2),(d2,e2,g2),w2,t2)=1:=by unfold crE;rw[aD (.inl h1)]
 have hn:¬crB (k,f,o,(a,b,c),(d,e,g),w,t) (k2,f2,o2,(a2,b2,c2),(d2,e2,g2),w2,t2):=fun hc=>absurd (e1.symm.trans hc.1) (by decide)
 refine ⟨([],[],[]),?_⟩
 rw[e1]
 generalize crB (k,f,o,(a,b,c),(d,e,g),w,t) (k2,f2,o2,(a2,b2,c2),(d2,e2,g2),w2,t2)=M at hn ⊢
 exact ZRx hn
noncomputable def crV (m n:Mem):Sp:=match m,n with
 | (k,f,o,(a,b,c),(d,e,g),w,t),(k2,f2,o2,(a2,b2,c2),(d2,e2,g2),w2,t2)=>Classical.epsilon fun X:Sp=>body Tryz.prog [xI,xN,xJ,xK,qT,xL,xM] {} true Tryz.f119 [.agg [I k,I f,I o,S a,S b,S c,S d,S e,S g,I w,I t],.agg [I k2,I f2,I o2,S a2,S b2,S c2,S d2,S e2,S g2,I w2,I t2]] (.tup [.agg [S X.1,S X.2.1,S X.2.2],.bl (crB (k,f,o,(a,b,c),(d,e,g),w,t) (k2,f2,o2,(a2,b2,c2),(d2,e2,g2),w2,t2)) Cp,I (crE (k,f,o,(a,b,c),(d,e,g),w,t) (k2,f2,o2,(a2,b2,c2),(d2,e2,g2),w2,t2))])
theorem b3119 (k f o:Int) (a b c d e g:Bx) (w t:Int) (k2 f2 o2:Int) (a2 b2 c2 d2 e2 g2:Bx) (w2 t2:Int):body Tryz.prog [xI,xN,xJ,xK,qT,xL,xM] {} true Tryz.f119 [.agg [I k,I f,I o,S a,S b,S c,S d,S e,S g,I w,I t],.agg [I k2,I f2,I o2,S a2,S b2,S c2,S d2,S e2,S g2,I w2,I t2]] (.tup [.agg [S (crV (k,f,o,(a,b,c),(d,e,g),w,t) (k2,f2,o2,(a2,b2,c2),(d2,e2,g2),w2,t2)).1,S (crV (k,f,o,(a,b,c),(d,e,g),w,t) (k2,f2,o2,(a2,b2,c2),(d2,e2,g2),w2,t2)).2.1,S (crV (k,f,o,(a,b,c),(d,e,g),w,t) (k2,f2,o2,(a2,b2,c2),(d2,e2,g2),w2,t2)).2.2],.bl (crB (k,f,o,(a,b,c),(d,e,g),w,t) (k2,f2,o2,(a2,b2,c2),(d2,e2,g2),w2,t2)) Cp,I (crE (k,f,o,(a,b,c),(d,e,g),w,t) (k2,f2,o2,(a2,b2,c2),(d2,e2,g2),w2,t2))]):=
 uM (b119e k f o a b c d e g w t k2 f2 o2 a2 b2 c2 d2 e2 g2 w2 t2)
def aXm:Con:=bB 119 true fun args K=>match args with | [.agg [.val (.int .i64 k),.val (.int .i64 f),.val (.int .i64 o),.str a,.str b,.str c,.str d,.str e,.str g,.val (.int .i64 w),.val (.int .i64 t)],.agg [.val (.int .i64 k2),.val (.int .i64 f2),.val (.int .i64 o2),.str a2,.str b2,.str c2,.str d2,.str e2,.str g2,.val (.int .i64 w2),.val (.int .i64 t2)]]=>K (.tup [.agg [S (crV (k,f,o,(a,b,c),(d,e,g),w,t) (k2,f2,o2,(a2,b2,c2),(d2,e2,g2),w2,t2)).1,S (crV (k,f,o,(a,b,c),(d,e,g),w,t) (k2,f2,o2,(a2,b2,c2),(d2,e2,g2),w2,t2)).2.1,S (crV (k,f,o,(a,b,c),(d,e,g),w,t) (k2,f2,o2,(a2,b2,c2),(d2,e2,g2),w2,t2)).2.2],.bl (crB (k,f,o,(a,b,c),(d,e,g),w,t) (k2,f2,o2,(a2,b2,c2),(d2,e2,g2),w2,t2)) Cp,I (crE (k,f,o,(a,b,c),(d,e,g),w,t) (k2,f2,o2,(a2,b2,c2),(d2,e2,g2),w2,t2))]) | _=>False
theorem k3119:aS Tryz.prog aXm:=by
 refine kO Tryz.func119 fun args K h=>?_
 simp only[aXm] at h;split at h
 ·rename_i k f o a b c d e g w t k2 f2 o2 a2 b2 c2 d2 e2 g2 w2 t2;exact ⟨_,h,triB Tryz.func119 Tryz.ntmps119 (by simp[aRs,k3146,k3147,k3148,aF8,k3151,k3152]) (b3119 k f o a b c d e g w t k2 f2 o2 a2 b2 c2 d2 e2 g2 w2 t2)⟩
 exact h.elim
def aOe:Con:=bB 81 true fun args K=>match args with | [.agg [.val (.int .i64 k),.val (.int .i64 f),.val (.int .i64 o),.str a,.str b,.str c,.str d,.str e,.str g,.val (.int .i64 w),.val (.int .i64 t)],.agg [.val (.int .i64 k2),.val (.int .i64 f2),.val (.int .i64 o2),.str a2,.str b2,.str c2,.str d2,.str e2,.str g2,.val (.int .i64 w2),.val (.int .i64 t2)]]=>K (.tup [.bl (crB (k,f,o,(a,b,c),(d,e,g),w,t) (k2,f2,o2,(a2,b2,c2),(d2,e2,g2),w2,t2)) Cp,I (crE (k,f,o,(a,b,c),(d,e,g),w,t) (k2,f2,o2,(a2,b2,c2),(d2,e2,g2),w2,t2))]) | _=>False
theorem aR6:aS Tryz.prog aOe:=by
 refine kQ {} Tryz.func81 Tryz.ntmps81 (kc k3119 kn) fun _ _ h=>?_
 split at h
 case h_2=>exact h.elim
 rename_i k f o a b c d e g w t k2 f2 o2 a2 b2 c2 d2 e2 g2 w2 t2
 refine kb h ?_
 generalize hX:crV (k,f,o,(a,b,c),(d,e,g),w,t) (k2,f2,o2,(a2,b2,c2),(d2,e2,g2),w2,t2)=X
 exact ZF
theorem b118c (k f o:Int) (a b c d e g:Bx) (w t:Int) (k2 f2 o2:Int) (a2 b2 c2 d2 e2 g2:Bx) (w2 t2:Int):body Tryz.prog [aOe] {} true Tryz.f118 [.agg [I k,I f,I o,S a,S b,S c,S d,S e,S g,I w,I t],.agg [I k2,I f2,I o2,S a2,S b2,S c2,S d2,S e2,S g2,I w2,I t2],.lelem [.clo 81 [] []] 0] (.tup [.bl (f=f2/\crB (k,f,o,(a,b,c),(d,e,g),w,t) (k2,f2,o2,(a2,b2,c2),(d2,e2,g2),w2,t2)) Cp,I (if f=f2 then crE (k,f,o,(a,b,c),(d,e,g),w,t) (k2,f2,o2,(a2,b2,c2),(d2,e2,g2),w2,t2) else 0)]):=by
 by_cases h:f=f2
 ·rw[aD h]
  generalize hM:(f=f2/\crB (k,f,o,(a,b,c),(d,e,g),w,t) (k2,f2,o2,(a2,b2,c2),(d2,e2,g2),w2,t2))=M
  have hq:crB (k,f,o,(a,b,c),(d,e,g),w,t) (k2,f2,o2,(a2,b2,c2),(d2,e2,g2),w2,t2)↔M:=by rw[<- hM];exact ⟨fun x=>⟨h,x⟩,fun x=>x.2⟩
  exact ZRx hq
 rw[aC h]
 generalize hM:(f=f2/\crB (k,f,o,(a,b,c),(d,e,g),w,t) (k2,f2,o2,(a2,b2,c2),(d2,e2,g2),w2,t2))=M
 have hq:¬M:=by rw[<- hM];exact fun x=>h x.1
 exact ZRx hq
theorem b118t (k f o:Int) (a b c d e g:Bx) (w t:Int) (k2 f2 o2:Int) (a2 b2 c2 d2 e2 g2:Bx) (w2 t2:Int) (hh0:memE (k,f,o,(a,b,c),(d,e,g),w,t)=0/\memE (k2,f2,o2,(a2,b2,c2),(d2,e2,g2),w2,t2)=0):body Tryz.prog [aOd] {} true Tryz.f118 [.agg [I k,I f,I o,S a,S b,S c,S d,S e,S g,I w,I t],.agg [I k2,I f2,I o2,S a2,S b2,S c2,S d2,S e2,S g2,I w2,I t2],.lelem [.clo 82 [] []] 0] (.tup [.bl (f=f2/\tchP (k,f,o,(a,b,c),(d,e,g),w,t) (k2,f2,o2,(a2,b2,c2),(d2,e2,g2),w2,t2)) Cp,I 0]):=by
 by_cases h:f=f2
 ·generalize hM:(f=f2/\tchP (k,f,o,(a,b,c),(d,e,g),w,t) (k2,f2,o2,(a2,b2,c2),(d2,e2,g2),w2,t2))=M
  have hq:tchP (k,f,o,(a,b,c),(d,e,g),w,t) (k2,f2,o2,(a2,b2,c2),(d2,e2,g2),w2,t2)↔M:=by rw[<- hM];exact ⟨fun x=>⟨h,x⟩,fun x=>x.2⟩
  exact ZRx hq
 generalize hM:(f=f2/\tchP (k,f,o,(a,b,c),(d,e,g),w,t) (k2,f2,o2,(a2,b2,c2),(d2,e2,g2),w2,t2))=M
 have hq:¬M:=by rw[<- hM];exact fun x=>h x.1
 exact ZRx hq
noncomputable def aOf:Con:=bB 118 true fun args K=>match args with
 | [.agg [.val (.int .i64 k),.val (.int .i64 f),.val (.int .i64 o),.str a,.str b,.str c,.str d,.str e,.str g,.val (.int .i64 w),.val (.int .i64 t)],.agg [.val (.int .i64 k2),.val (.int .i64 f2),.val (.int .i64 o2),.str a2,.str b2,.str c2,.str d2,.str e2,.str g2,.val (.int .i64 w2),.val (.int .i64 t2)],.lelem [.clo 81 [] []] 0]=>K (.tup [.bl (f=f2/\crB (k,f,o,(a,b,c),(d,e,g),w,t) (k2,f2,o2,(a2,b2,c2),(d2,e2,g2),w2,t2)) Cp,I (if f=f2 then crE (k,f,o,(a,b,c),(d,e,g),w,t) (k2,f2,o2,(a2,b2,c2),(d2,e2,g2),w2,t2) else 0)])
 | [.agg [.val (.int .i64 k),.val (.int .i64 f),.val (.int .i64 o),.str a,.str b,.str c,.str d,.str e,.str g,.val (.int .i64 w),.val (.int .i64 t)],.agg [.val (.int .i64 k2),.val (.int .i64 f2),.val (.int .i64 o2),.str a2,.str b2,.str c2,.str d2,.str e2,.str g2,.val (.int .i64 w2),.val (.int .i64 t2)],.lelem [.clo 82 [] []] 0]=>Need (memE (k,f,o,(a,b,c),(d,e,g),w,t)=0/\memE (k2,f2,o2,(a2,b2,c2),(d2,e2,g2),w2,t2)=0) (K (.tup [.bl (f=f2/\tchP (k,f,o,(a,b,c),(d,e,g),w,t) (k2,f2,o2,(a2,b2,c2),(d2,e2,g2),w2,t2)) Cp,I 0]))
 | _=>False
theorem aXw:aS Tryz.prog aOf:=by
 refine kO Tryz.func118 fun args K h=>?_
 simp only[aOf] at h;split at h
 ·rename_i k f o a b c d e g w t k2 f2 o2 a2 b2 c2 d2 e2 g2 w2 t2;exact ⟨_,h,triB Tryz.func118 Tryz.ntmps118 (by simp[aR6]) (b118c k f o a b c d e g w t k2 f2 o2 a2 b2 c2 d2 e2 g2 w2 t2)⟩
 ·rename_i k f o a b c d e g w t k2 f2 o2 a2 b2 c2 d2 e2 g2 w2 t2;exact ⟨_,h.go,triB Tryz.func118 Tryz.ntmps118 (by simp[aR5]) (b118t k f o a b c d e g w t k2 f2 o2 a2 b2 c2 d2 e2 g2 w2 t2 h.ok)⟩
 exact h.elim
theorem b80c:body Tryz.prog [] {} false Tryz.f80 [.clo 81 [] []] (.clo 118 [] [.lelem [.clo 81 [] []] 0]):=by
 exact ZF
theorem b80t:body Tryz.prog [] {} false Tryz.f80 [.clo 82 [] []] (.clo 118 [] [.lelem [.clo 82 [] []] 0]):=by
 exact ZF
def aR7:Con:=bB 80 false fun args K=>match args with
 | [.clo 81 [] []]=>K (.clo 118 [] [.lelem [.clo 81 [] []] 0])
 | [.clo 82 [] []]=>K (.clo 118 [] [.lelem [.clo 82 [] []] 0])
 | _=>False
theorem k3080:aS Tryz.prog aR7:=by
 refine kO Tryz.func80 fun args K h=>?_
 simp only[aR7] at h;split at h
 ·exact ⟨_,h,triB Tryz.func80 Tryz.ntmps80 (by simp) b80c⟩
 ·exact ⟨_,h,triB Tryz.func80 Tryz.ntmps80 (by simp) b80t⟩
 exact h.elim
def qKs:List (Int × Int):=[(1,10),(1,9),(1,8),(1,6),(1,7),(1,12),(2,10),(2,9),(2,8),(2,6),(2,7),(2,12),(3,10),(3,9),(3,8),(3,6),(3,7),(3,12),(4,10),(4,9),(4,8),(4,6),(4,7),(4,12),(5,10),(5,9),(5,8),(5,6),(5,7),(5,12),(6,8),(6,10),(9,6),(7,8),(7,10),(9,7),(11,10),(11,9),(11,8),(11,6),(11,7),(12,11)]
def qVs:List SV:=[.clo 118 [] [.lelem [.clo 81 [] []] 0],.clo 118 [] [.lelem [.clo 81 [] []] 0],.clo 82 [] [],.clo 82 [] [],.clo 82 [] [],.clo 118 [] [.lelem [.clo 82 [] []] 0],.clo 118 [] [.lelem [.clo 81 [] []] 0],.clo 118 [] [.lelem [.clo 81 [] []] 0],.clo 82 [] [],.clo 82 [] [],.clo 82 [] [],.clo 118 [] [.lelem [.clo 82 [] []] 0],.clo 118 [] [.lelem [.clo 81 [] []] 0],.clo 118 [] [.lelem [.clo 81 [] []] 0],.clo 82 [] [],.clo 82 [] [],.clo 82 [] [],.clo 118 [] [.lelem [.clo 82 [] []] 0],.clo 118 [] [.lelem [.clo 81 [] []] 0],.clo 118 [] [.lelem [.clo 81 [] []] 0],.clo 82 [] [],.clo 82 [] [],.clo 82 [] [],.clo 118 [] [.lelem [.clo 82 [] []] 0],.clo 118 [] [.lelem [.clo 81 [] []] 0],.clo 118 [] [.lelem [.clo 81 [] []] 0],.clo 82 [] [],.clo 82 [] [],.clo 82 [] [],.clo 118 [] [.lelem [.clo 82 [] []] 0],.clo 85 [] [],.clo 81 [] [],.clo 82 [] [],.clo 85 [] [],.clo 81 [] [],.clo 82 [] [],.clo 118 [] [.lelem [.clo 81 [] []] 0],.clo 118 [] [.lelem [.clo 81 [] []] 0],.clo 82 [] [],.clo 82 [] [],.clo 82 [] [],.clo 118 [] [.lelem [.clo 82 [] []] 0]]
theorem b3047 (hk:KeyOK Tryz.prog 86):body Tryz.prog [aXs,aXo,aXq,aR7] {} false Tryz.f47 [] (.fmp qKs qVs):=by
 have s1:sloP 1:=by unfold sloP;omega
 have r1:rafP 1:=by unfold rafP;omega
 have h1:¬hipP 1:=by unfold hipP;omega
 have s2:sloP 2:=by unfold sloP;omega
 have r2:rafP 2:=by unfold rafP;omega
 have h2:¬hipP 2:=by unfold hipP;omega
 have s3:sloP 3:=by unfold sloP;omega
 have r3:rafP 3:=by unfold rafP;omega
 have h3:¬hipP 3:=by unfold hipP;omega
 have s4:sloP 4:=by unfold sloP;omega
 have r4:rafP 4:=by unfold rafP;omega
 have h4:¬hipP 4:=by unfold hipP;omega
 have s5:sloP 5:=by unfold sloP;omega
 have r5:rafP 5:=by unfold rafP;omega
 have h5:¬hipP 5:=by unfold hipP;omega
 have s6:¬sloP 6:=by unfold sloP;omega
 have r6:¬rafP 6:=by unfold rafP;omega
 have h6:hipP 6:=by unfold hipP;omega
 have s7:¬sloP 7:=by unfold sloP;omega
 have r7:¬rafP 7:=by unfold rafP;omega
 have h7:hipP 7:=by unfold hipP;omega
 have s8:¬sloP 8:=by unfold sloP;omega
 have r8:¬rafP 8:=by unfold rafP;omega
 have h8:¬hipP 8:=by unfold hipP;omega
 have s9:¬sloP 9:=by unfold sloP;omega
 have r9:¬rafP 9:=by unfold rafP;omega
 have h9:¬hipP 9:=by unfold hipP;omega
 have s10:¬sloP 10:=by unfold sloP;omega
 have r10:¬rafP 10:=by unfold rafP;omega
 have h10:¬hipP 10:=by unfold hipP;omega
 have s11:sloP 11:=by unfold sloP;omega
 have r11:¬rafP 11:=by unfold rafP;omega
 have h11:¬hipP 11:=by unfold hipP;omega
 have s12:¬sloP 12:=by unfold sloP;omega
 have r12:¬rafP 12:=by unfold rafP;omega
 have h12:¬hipP 12:=by unfold hipP;omega
 have hl:([8,6,7]:List Int).length=3:=rfl
 exact ZRF
theorem aXx:KeyOK Tryz.prog 86:=⟨by kernel_rfl,by kernel_rfl,by kernel_rfl,by kernel_rfl,by decide+kernel⟩
def aOg:Con:=bB 47 false fun args K=>match args with
 | []=>K (.fmp qKs qVs)
 | _=>False
theorem aXy:aS Tryz.prog aOg:=by
 refine kO Tryz.func47 fun args K h=>?_
 simp only[aOg] at h;split at h
 ·exact ⟨_,h,triB Tryz.func47 Tryz.ntmps47 (by simp[aXt,aXp,aXr,k3080]) (b3047 aXx)⟩
 exact h.elim
end RB
end
section
open Go Go.Proofs Go.Eng Go.Shelf
namespace EB
theorem aSz {T:List (Int × Int)} {x:Int × Int} (h:x∈T):∃i,i<T.length/\T.getD i (0,0)=x:=by
 obtain ⟨i,hi,rfl⟩:=bV h
 exact ⟨i,hi,by simp[aB,hi]⟩
theorem at_mem (T:List (Int × Int)) (i:Nat) (h:i<T.length):T.getD i (0,0)∈T:=by
 rw[aB,aH h];exact cU h
structure Pref (n:Int) (l S:List (Int × Int)):Prop where
 ok:∀k:Nat,k<=S.length->stdE n S k=0
 low:∀k:Nat,k<=S.length->∀r∈l,r.1∈stdM n S k->0<=r.2->r.2∈stdM n S k
 prop_:∀k:Nat,k<=S.length->∀m∈stdM n S k,¬l.any (upP m)=true->m∈stdP n S k
 all:((stdM n S S.length).length:Int)=n
end EB
end
section
open Go Go.Proofs Go.Eng Go.Shelf
namespace EB
end EB
end
section
open Go Go.Proofs Go.Eng Go.Shelf
namespace EB
theorem aS0 {α:Type} {P:List α->Prop} (h0:P []) (h1:∀l a,P l->P (l++ [a])):∀l,P l:=by
 have:∀l:List α,P l.reverse:=by
  intro l
  induction l with
  | nil=>exact h0
  | cons a r ih=>rw[List.reverse_cons];exact h1 _ _ ih
 intro l
 have h:=this l.reverse
 rwa [List.reverse_reverse] at h
structure RS where
 set:List Int
 most:Int
 err:Int
def keysOf (m:MapS Bool):List Int:=m.es.map fun e=>e.2.1
def AllT (m:MapS Bool):Prop:=∀e∈m.es,e.2.2=true
theorem yF:∀(es:List (Nat × Int × Bool)) (n:Int),¬n∈(es.map fun e=>e.2.1)->sN es n=none
 | [],_,_=>rfl
 | e::r,n,h=>by
  rw[pA,bE] at h
  unfold sN
  rw[aC fun e=>h (.inl e.symm),yF r n fun e=>h (.inr e)]
structure Sim (p:PS) (r:RS):Prop where
 err:p.err=r.err
 most:p.most=r.most
 keys:p.err=0->keysOf p.m=r.set/\AllT p.m
end EB
end
section
open Go Go.Proofs Go.Eng Go.Shelf
namespace EB
end EB
end
section
open Go Go.Proofs Go.Eng Go.Shelf
namespace EB
abbrev Bs (xs:List Bool):SV:=.seq .bool xs
def aS1 (n:Int) (l:List (Int × Int)):Prop:=(12<n/\n<=512)\/30<l.length
instance (n:Int) (l:List (Int × Int)):Decidable (aS1 n l):=by unfold aS1;exact inferInstance
def aS2 (S:List (Int × Int)):Prop:=(30<S.length/\S.length<=4096)\/4098<S.length
instance (S:List (Int × Int)):Decidable (aS2 S):=by unfold aS2;exact inferInstance
end EB
end
section
open Go Go.Proofs Go.Eng Go.Shelf
namespace EB
def nf (on:List (List Int)) (n:Int) (ws:List Int):Nat->Int
 | 0=> -1
 | j+1=>if aAu on ws (n-1-j) then n-1-j else nf on n ws j
end EB
end
section
open Go Go.Proofs Go.Eng Go.Shelf
namespace EB
end EB
end
section
open Go Go.Proofs Go.Eng Go.Shelf
namespace EB
abbrev U6 (n:Int):SV:=.val (.int .u64 n)
theorem aDb {y:Int} (h:0<=y/\y<=1000000):qU .and .u64 y 4294967295=y:=by
 obtain ⟨n,rfl⟩:=bM h.1
 have hn:n<=1000000:=by omega
 have:=aV6 n 4294967295 (by omega) (by omega)
 rw[show (4294967295:Int)=((4294967295:Nat):Int) from rfl,this]
 have e:n&&& 4294967295=n%2^32:=Nat.and_two_pow_sub_one_eq_mod n 32
 rw[e,fQ (by omega)]
theorem aAt {y:Int} (h:0<=y/\y<=1000000):shrI .u64 y 32=0:=by
 unfold shrI
 have e:(2:Int)^ (min (32:Int).toNat IntKind.u64.bits)=4294967296:=by decide
 rw[e,Int.fdiv_eq_ediv_of_nonneg _ (by decide)]
 omega
theorem b77 (y:Int) (h:0<=y/\y<=1000000):body Tryz.prog [] {} true Tryz.f179 [U6 1,U6 y] (.tup [U6 0,U6 y]):=by
 have a1:qU .and .u64 1 4294967295=1:=aDb ⟨by omega,by omega⟩
 have a2:=aDb h
 have a3:shrI .u64 1 32=0:=aAt ⟨by omega,by omega⟩
 have a4:=aAt h
 have a5:qU .and .u64 0 4294967295=0:=aDb ⟨by omega,by omega⟩
 have a6:shrI .u64 0 32=0:=aAt ⟨by omega,by omega⟩
 (repeat refine ZG ?_)
 simp only[a1,a2,a3,a4]
 (repeat refine ZG ?_)
 simp only[gF,Int.zero_mul,gO,a4,a5,a6]
 (repeat refine ZG ?_)
 have a7:(0*0+0+shrI .u64 (0+0) 32:Int)=0:=by rw[show (0:Int)+0=0 from rfl,a6];rfl
 (repeat' first|exact trivial|rfl|apply aA)
 all_goals (conv=>whnf)
 all_goals skip
 exact gF y
def c77:Con:=bB 179 true fun args K=>match args with | [.val (.int .u64 1),.val (.int .u64 y)]=>Need (0<=y/\y<=1000000) (K (.tup [U6 0,U6 y])) | _=>False
theorem k77:aS Tryz.prog c77:=by
 refine kO Tryz.func179 fun args K h=>?_
 simp only[c77] at h;split at h
 ·rename_i y;exact ⟨_,h.go,triB Tryz.func179 Tryz.ntmps179 (by simp) (b77 y h.ok)⟩
 exact h.elim
def c64:Con:=bB 136 true fun args K=>match args with | [.val (.int .u64 1),.val (.int .u64 y)]=>Need (0<=y/\y<=1000000) (K (.tup [U6 0,U6 y])) | _=>False
theorem k64:aS Tryz.prog c64:=by
 refine kQ {} Tryz.func136 Tryz.ntmps136 (kc k77 kn) fun _ _ h=>?_
 split at h
 case h_2=>exact h.elim
 refine kb h.go ?_
 replace h:=h.ok
 exact ZGF
def repL {α:Type} (v z:α) (n k:Nat):List α:=List.replicate (min k n) v++List.replicate (n-k) z
theorem aS3 {α:Type} (v z:α) (n k:Nat):(repL v z n k).length=n:=by simp[repL];omega
theorem aS4 {α:Type} (v z:α) (n k:Nat) (h:n<=k):repL v z n k=List.replicate n v:=by
 unfold repL
 rw[Nat.min_eq_right h,show n-k=0 by omega];simp
theorem aMi {α:Type} (v z:α) (n:Nat):layL (List.replicate n z) 0 ([v].take n)=repL v z n 1:=by
 cases n with
 | zero=>rfl
 | succ m=>simp[layL,repL,cI]
theorem aS5 {α:Type} (v z:α) (n:Nat):repL v z n 1=repL v z n (min 1 n):=by
 cases n with
 | zero=>rfl
 | succ m=>rw[cI (by omega)]
theorem aQj {α:Type} (v z:α) (n k:Nat) (hk:k<=n):layL (repL v z n k) k (((repL v z n k).take k).take (n-k))=repL v z n (k+min k (n-k))/\(((repL v z n k).take k).take (n-k)).length=min k (n-k):=by
 have e:(repL v z n k).take k=List.replicate k v:=by
  unfold repL
  rw[cI hk,kV (by simp)]
 have e2:((repL v z n k).take k).take (n-k)=List.replicate (min k (n-k)) v:=by rw[e,List.take_replicate,Nat.min_comm]
 rw[e2]
 refine ⟨?_,by simp⟩
 unfold layL repL
 rw[cI hk,kV (by simp),cC,cI (by omega:k+min k (n-k)<=n),List.drop_append,cC,List.drop_replicate,List.drop_replicate,List.replicate_append_replicate.symm,bZ]
 congr 2
 rw[show k-(k+min k (n-k))=0 by omega,List.replicate_zero,iE]
 congr 1
 omega
theorem set_getD {α:Type} (xs:List α) (i p:Nat) (v d:α):(xs.set i v).getD p d=if p=i/\p<xs.length then v else xs.getD p d:=by
 rw[aB,aB,cZ]
 by_cases h:i=p
 ·subst h
  by_cases h2:i<xs.length
  ·simp[h2]
  simp[h2]
 have:¬p=i:=fun e=>h e.symm
 simp[h,this]
def kindR (k:Int):Int:=if k=1 then 1 else if k=2 then 3 else if k=3 then 2 else 0
def flipS (x:Int × Int):Int × Int:=(kindR x.1,x.2)
end EB
end
section
open Go Go.Proofs Go.Eng Go.Shelf
namespace EB.R
def onIt (m:Int) (st:List Bool) (r:Int × Int):Bool:=decide (r.2=m)&&st.getD r.1.toNat false
def isT (x:Bool):Bool:=x
end EB.R
end
section
open Go Go.Proofs Go.Eng Go.Shelf
namespace EB
def downOf (S:List (Int × Int)):List (Int × Int):=S.reverse.map flipS
def stR (n:Nat) (T:List (Int × Int)):List Bool:=(List.range n).map fun j:Nat=> !decide ((1,(j:Int))∈T)
structure Rev (n:Int) (l S:List (Int × Int)):Prop where
 chk:chkE (-1) S=0
 at_:∀i,i<(downOf S).length->((downOf S).getD i (0,0)).1=1->(0<=((downOf S).getD i (0,0)).2/\((downOf S).getD i (0,0)).2<n)/\(stR n.toNat ((downOf S).take i)).getD ((downOf S).getD i (0,0)).2.toNat false=true/\
  ¬l.any (R.onIt ((downOf S).getD i (0,0)).2 (stR n.toNat ((downOf S).take (i+1))))=true
 all:¬(stR n.toNat (downOf S)).any R.isT=true
end EB
end
section
open Go Go.Proofs Go.Eng Go.Shelf
namespace EB
end EB
end
section
open Go Go.Proofs Go.Eng Go.Shelf
namespace EB
def Edge (on:List (List Int)) (u v:Int):Prop:=v∈on.getD u.toNat []
inductive Way (on:List (List Int)):Int->Int->Prop
 | one (u v:Int) (h:Edge on u v):Way on u v
 | more (u v w:Int) (h:Edge on u v) (hw:Way on v w):Way on u w
theorem Way.trans {on:List (List Int)} {u v w:Int} (h:Way on u v) (h2:Way on v w):Way on u w:=by
 induction h with
 | one u v h=>exact .more u v w h h2
 | more u v x h _ ih=>exact .more u v w h (ih h2)
theorem Way.snoc {on:List (List Int)} {u v w:Int} (h:Way on u v) (h2:Edge on v w):Way on u w:=h.trans (.one v w h2)
def Loops (on:List (List Int)) (n:Int):Prop:=∃i:Int,(0<=i/\i<n)/\Way on i i
def Rows2 (on:List (List Int)) (n:Int):Prop:=(on.length:Int)=n/\∀u v:Int,Edge on u v->0<=v/\v<n
theorem onL_edge {n:Int} {l:List (Int × Int)} {u v:Int} (hu:0<=u/\u<n):Edge (onL n l) u v↔0<=v/\(u,v)∈l:=by
 unfold Edge
 have e:(onL n l).getD u.toNat []=rowOf l l.length u.toNat:=onN_get _ _ _ _ (by omega)
 rw[e]
 unfold rowOf
 rw[fP,jN]
 constructor
 ·rintro ⟨r,hr,rfl⟩
  rw[fL] at hr
  have:=dI hr.2
  have h1:r.1=u:=by omega
  refine ⟨this.2,?_⟩
  have:(u,r.2)=r:=gI h1.symm rfl
  rw[this];exact hr.1
 rintro ⟨h1,h2⟩
 exact ⟨(u,v),fL.2 ⟨h2,mC ⟨by show u= _;omega,h1⟩⟩,rfl⟩
theorem edge_out {on:List (List Int)} {u v:Int} (h:Edge on u v):u.toNat<on.length:=by
 apply aL
 intro hn
 unfold Edge at h
 rw[aB,bN (by omega)] at h
 cases h
theorem aV0 {n:Int} {l:List (Int × Int)} {u:Int} (h:u<0):(onL n l).getD u.toNat []=(onL n l).getD (0:Int).toNat []:=by
 rw[show u.toNat=(0:Int).toNat by omega]
theorem onL_rows {n:Int} {l:List (Int × Int)} (h:aCq n l):Rows2 (onL n l) n:=by
 obtain ⟨r1,r2,r3,r4⟩:=h
 refine ⟨by rw[onL_len];omega,fun u v he=>?_⟩
 have hu:=edge_out he
 rw[onL_len] at hu
 have key:∀u v:Int,0<=u->u<n->Edge (onL n l) u v->0<=v/\v<n:=fun u v h0 h1 he=>by
  obtain ⟨h2,h3⟩:=(onL_edge ⟨h0,h1⟩).1 he
  obtain ⟨i,i1,i2⟩:=aSz h3
  have:=r4 i i1
  rw[i2] at this
  omega
 by_cases h0:0<=u
 ·exact key u v h0 (by omega) he
 refine key 0 v (by omega) (by omega) ?_
 unfold Edge at he ⊢
 rwa [aV0 (by omega)] at he
end EB
end

/-
  Part 6: a symbolic executor over the model, contracts of functions and plain laws.
-/
import Derived.Test.YtjjnphkdhdjcbaaGreatDoorP5
import Init.Data.Rat
set_option linter.unusedVariables false
set_option linter.unusedSimpArgs false
set_option maxRecDepth 10000
set_option maxHeartbeats 80000000
section
open Go Go.Proofs Go.Eng Go.Shelf IB Go.Lib Go.RowKit
namespace RB
theorem aZ {x:Int} (h:lim x=false):chkI (itoa x)=0:=by
 rw[gK (eZ x),bC,if_neg]
 unfold lim at h
 simpa using h
theorem Kl {x:Int} (h:chkI (itoa x)=0):lim x=false:=by
 rw[gK (eZ x),bC] at h
 unfold lim
 split at h
 ·cases h
 ·rename_i hn
  exact decide_eq_false hn
theorem Qq (x:Int):lim (-x)=lim x:=by unfold lim;rw[Int.natAbs_neg]
theorem oS {x y:Int} (h:x.natAbs≤y.natAbs) (hy:lim y=false):lim x=false:=by
 unfold lim at hy ⊢
 have hy:(decDigits y.natAbs).length≤299+1:=by simpa using hy
 have:=Kj h hy
 simpa using this
theorem iL {x:Int} (h:lim x=false):(itoa x).length≤301:=by
 have h1:=(kE (itoa x)).2
 rw[bC] at h1
 unfold lim at h
 have h:(decDigits x.natAbs).length≤300:=by simpa using h
 omega
theorem Km {x y:Int} (hx:lim x=false) (hy:lim y=false) (h0:y≠0):bX (itoa x) (itoa y) (resI (Int.gcd (valI (itoa x)) (valI (itoa y))))=(itoa (Int.gcd x y),0):=by
 unfold bX chk2
 rw[aZ hx,aZ hy,if_neg (by simp),aV,aV]
 unfold resI
 have hg:lim ((Int.gcd x y:Nat):Int)=false:=by
  refine oS (y:=y) ?_ hy
  rw[Int.natAbs_natCast]
  exact Nat.gcd_le_right _ (by omega)
 rw[hg];rfl
theorem wN {x y:Int} (hx:lim x=false) (hy:lim y=false) (h0:0<y) (hd:y ∣ x):divI (itoa x) (itoa y)=(itoa (x/y),itoa 0,0):=by
 unfold divI chk2
 rw[aZ hx,aZ hy,if_neg (by simp),if_neg (fun e=>by
  have:=iV (e.trans itoa_zero.symm);omega),aV,aV]
 have e1:x.fdiv y=x/y:=Int.fdiv_eq_ediv_of_nonneg _ (by omega)
 have e2:x.fmod y=0:=Int.fmod_eq_zero_of_dvd hd
 unfold dvI
 rw[e1,e2]
 have l1:lim (x/y)=false:=oS (y:=x) (by
  obtain ⟨k,rfl⟩:=hd
  rw[Int.mul_ediv_cancel_left _ (by omega),Int.natAbs_mul]
  exact Nat.le_mul_of_pos_left _ (by omega)) hx
 have l2:lim 0=false:=by
  unfold lim
  rw[show (0:Int).natAbs=0 from rfl,bQ (by omega)];rfl
 rw[l1,l2];rfl
theorem Gg {x y:Int} (h0:0<y):numS (mkRat x y.toNat)=if itoa (y/(Int.gcd x y:Nat))= [49] then itoa (x/(Int.gcd x y:Nat)) else itoa (x/(Int.gcd x y:Nat))++47::itoa (y/(Int.gcd x y:Nat)):=by
 obtain ⟨d,rfl⟩:=Int.eq_ofNat_of_zero_le (Int.le_of_lt h0)
 have hg:Int.gcd x (d:Int)=d.gcd x.natAbs:=by unfold Int.gcd;rw[Int.natAbs_natCast,Nat.gcd_comm]
 rw[Int.toNat_natCast,Pn _ _ (by omega),hg,← Int.natCast_ediv,oR]
 have e1:decDigits (d/d.gcd x.natAbs)= [49]↔d/d.gcd x.natAbs=1:=by
  constructor
  ·intro h
   have:=congrArg aF h
   rw[cV] at this
   exact this
  ·intro h;rw[h];exact bQ (show 1<10 by omega)
 by_cases h:d/d.gcd x.natAbs=1
 ·rw[if_pos h,if_pos (e1.2 h)]
 ·rw[if_neg h,if_neg (fun hx=>h (e1.1 hx))]
theorem itoa_one:itoa 1= [49]:=by
 rw[show (1:Int)=((1:Nat):Int) from rfl,oR];exact bQ (show 1<10 by omega)
theorem b52p (x y:Int) (hx:lim x=false) (hy:lim y=false) (h0:0<y):body Tryz.prog [c91,c92,c89,c69] {} true Tryz.f48 [S (itoa x),S (itoa y)] (.tup [S (numS (mkRat x y.toNat)),I 0]):=by
 have hh:=gZ y
 have hneg:¬(itoa y).headD 0=45:=fun e=>by have:=hh.1 e;omega
 have hb:=Km hx hy (by omega)
 have z1:(bX (itoa x) (itoa y) (resI (Int.gcd (valI (itoa x)) (valI (itoa y))))).1=itoa (Int.gcd x y):=congrArg Prod.fst hb
 have z2:(bX (itoa x) (itoa y) (resI (Int.gcd (valI (itoa x)) (valI (itoa y))))).2=0:=congrArg Prod.snd hb
 have lx:=iL hx
 have ly:=iL hy
 have hm:=Gg (x:=x) h0
 obtain ⟨g,hg⟩:∃g,Int.gcd x y=g:=⟨_,rfl⟩
 have gx:(g:Int) ∣ x:=by rw[← hg];exact Int.gcd_dvd_left _ _
 have gy:(g:Int) ∣ y:=by rw[← hg];exact Int.gcd_dvd_right _ _
 have gp:0<g:=by rw[← hg];exact Int.gcd_pos_of_ne_zero_right _ (by omega)
 rw[hg] at z1 hm
 rw[hm]
 have lg:lim (g:Int)=false:=oS (y:=y) (by rw[Int.natAbs_natCast,← hg];exact Nat.gcd_le_right _ (by omega)) hy
 have dx:=wN hx lg (by omega) gx
 have dy:=wN hy lg (by omega) gy
 have q1:(divI (itoa x) (itoa g)).1=itoa (x/g):=by rw[dx]
 have q2:(divI (itoa y) (itoa g)).1=itoa (y/g):=by rw[dy]
 (repeat refine ZR ?_)
 (apply Br.mk<;>intro)
 ·rename_i h1
  rw[z1,← q1,← q2]
  have l1:lim (x/g)=false:=oS (y:=x) (by
   obtain ⟨k,rfl⟩:=gx
   rw[Int.mul_ediv_cancel_left _ (by omega),Int.natAbs_mul]
   exact Nat.le_mul_of_pos_left _ (by omega)) hx
  have l2:lim (y/g)=false:=oS (y:=y) (by
   obtain ⟨k,rfl⟩:=gy
   rw[Int.mul_ediv_cancel_left _ (by omega),Int.natAbs_mul]
   exact Nat.le_mul_of_pos_left _ (by omega)) hy
  have m1:(divI (itoa x) (itoa g)).1.length≤301:=by rw[q1];exact iL l1
  have m2:(divI (itoa y) (itoa g)).1.length≤301:=by rw[q2];exact iL l2
  (apply Br.mk<;>intro)
  ·rename_i h2
   rw[if_pos h2]
   (conv=>whnf)
   (repeat' first|exact trivial|rfl|apply And.intro)
  ·rename_i h2
   rw[if_neg h2]
   (repeat refine ZG ?_)
   (conv=>whnf)
   (repeat' first|exact trivial|rfl|apply And.intro)
   exact List.append_assoc _ [47] _
 ·rename_i h1
  have h1:=Classical.not_not.1 h1
  rw[z1] at h1
  have hg1:(g:Int)=1:=iV (h1.trans itoa_one.symm)
  rw[hg1,Int.ediv_one,Int.ediv_one]
  (apply Br.mk<;>intro)
  ·rename_i h2
   rw[if_pos h2]
   (conv=>whnf)
   (repeat' first|exact trivial|rfl|apply And.intro)
  ·rename_i h2
   rw[if_neg h2]
   (repeat refine ZG ?_)
   (conv=>whnf)
   (repeat' first|exact trivial|rfl|apply And.intro)
   exact List.append_assoc _ [47] _
theorem b52n (x0 y0:Int) (hx0:lim x0=false) (hy0:lim y0=false) (h00:y0<0):body Tryz.prog [c91,c92,c89,c69] {} true Tryz.f48 [S (itoa x0),S (itoa y0)] (.tup [S (numS (mkRat (-x0) (-y0).toNat)),I 0]):=by
 have hh:=gZ y0
 have hneg:(itoa y0).headD 0=45:=hh.2 h00
 have lx0:=iL hx0
 have ly0:=iL hy0
 obtain ⟨x,ex⟩:∃x, -x0=x:=⟨_,rfl⟩
 obtain ⟨y,ey⟩:∃y, -y0=y:=⟨_,rfl⟩
 have hx:lim x=false:=by rw[← ex,Qq];exact hx0
 have hy:lim y=false:=by rw[← ey,Qq];exact hy0
 have h0:0<y:=by omega
 rw[ex,ey]
 have hb:=Km hx hy (by omega)
 have z1:(bX (itoa x) (itoa y) (resI (Int.gcd (valI (itoa x)) (valI (itoa y))))).1=itoa (Int.gcd x y):=congrArg Prod.fst hb
 have z2:(bX (itoa x) (itoa y) (resI (Int.gcd (valI (itoa x)) (valI (itoa y))))).2=0:=congrArg Prod.snd hb
 have lx:=iL hx
 have ly:=iL hy
 have hm:=Gg (x:=x) h0
 obtain ⟨g,hg⟩:∃g,Int.gcd x y=g:=⟨_,rfl⟩
 have gx:(g:Int) ∣ x:=by rw[← hg];exact Int.gcd_dvd_left _ _
 have gy:(g:Int) ∣ y:=by rw[← hg];exact Int.gcd_dvd_right _ _
 have gp:0<g:=by rw[← hg];exact Int.gcd_pos_of_ne_zero_right _ (by omega)
 rw[hg] at z1 hm
 rw[hm]
 have lg:lim (g:Int)=false:=oS (y:=y) (by rw[Int.natAbs_natCast,← hg];exact Nat.gcd_le_right _ (by omega)) hy
 have dx:=wN hx lg (by omega) gx
 have dy:=wN hy lg (by omega) gy
 have q1:(divI (itoa x) (itoa g)).1=itoa (x/g):=by rw[dx]
 have q2:(divI (itoa y) (itoa g)).1=itoa (y/g):=by rw[dy]
 (repeat'((conv=>whnf);first|refine Zn ?_|refine Zy ?_|fail))
 refine Need.mk ⟨eZ _,by omega⟩ ?_
 rw[aV,ex]
 refine Need.mk ⟨eZ _,by omega⟩ ?_
 rw[aV,ey]
 (repeat refine ZR ?_)
 (apply Br.mk<;>intro)
 ·rename_i h1
  rw[z1,← q1,← q2]
  have l1:lim (x/g)=false:=oS (y:=x) (by
   obtain ⟨k,rfl⟩:=gx
   rw[Int.mul_ediv_cancel_left _ (by omega),Int.natAbs_mul]
   exact Nat.le_mul_of_pos_left _ (by omega)) hx
  have l2:lim (y/g)=false:=oS (y:=y) (by
   obtain ⟨k,rfl⟩:=gy
   rw[Int.mul_ediv_cancel_left _ (by omega),Int.natAbs_mul]
   exact Nat.le_mul_of_pos_left _ (by omega)) hy
  have m1:(divI (itoa x) (itoa g)).1.length≤301:=by rw[q1];exact iL l1
  have m2:(divI (itoa y) (itoa g)).1.length≤301:=by rw[q2];exact iL l2
  (apply Br.mk<;>intro)
  ·rename_i h2
   rw[if_pos h2]
   (conv=>whnf)
   (repeat' first|exact trivial|rfl|apply And.intro)
  ·rename_i h2
   rw[if_neg h2]
   (repeat refine ZG ?_)
   (conv=>whnf)
   (repeat' first|exact trivial|rfl|apply And.intro)
   exact List.append_assoc _ [47] _
 ·rename_i h1
  have h1:=Classical.not_not.1 h1
  rw[z1] at h1
  have hg1:(g:Int)=1:=iV (h1.trans itoa_one.symm)
  rw[hg1,Int.ediv_one,Int.ediv_one]
  (apply Br.mk<;>intro)
  ·rename_i h2
   rw[if_pos h2]
   (conv=>whnf)
   (repeat' first|exact trivial|rfl|apply And.intro)
  ·rename_i h2
   rw[if_neg h2]
   (repeat refine ZG ?_)
   (conv=>whnf)
   (repeat' first|exact trivial|rfl|apply And.intro)
   exact List.append_assoc _ [47] _
noncomputable def numQ (a b:List UInt8):List UInt8:=numS (Rat.divInt (valI a) (valI b))
def c52:Con:=aI 48 true fun args K=>match args with
 | [.str a,.str b]=>Need (chkI a=0∧chkI b=0∧valI b≠0) (K (.tup [S (numQ a b),I 0]))
 | _=>False
theorem k52:aD Tryz.prog c52:=by
 refine kO Tryz.func48 fun args K h=>?_
 simp only[c52] at h;split at h
 ·rename_i a b
  obtain ⟨⟨h1,h2,h3⟩,h⟩:=h
  refine ⟨_,h,?_⟩
  have ea:=pR (bR h1).1
  have eb:=pR (bR h2).1
  have la:lim (valI a)=false:=Kl (by rw[← ea];exact h1)
  have lb:lim (valI b)=false:=Kl (by rw[← eb];exact h2)
  unfold numQ
  rcases Int.lt_or_gt_of_ne h3 with hn | hp
  ·have:=triB Tryz.func48 Tryz.ntmps48 (by simp[k91,k92,k89,k69]) (b52n (valI a) (valI b) la lb hn)
   rw[← ea,← eb] at this
   rw[rG _ _ hn]
   exact this
  ·have:=triB Tryz.func48 Tryz.ntmps48 (by simp[k91,k92,k89,k69]) (b52p (valI a) (valI b) la lb hp)
   rw[← ea,← eb] at this
   rw[eH _ _ hp]
   exact this
 ·exact h.elim
theorem tF {x:Int} (h:x.natAbs<1000000000000000000):(itoa x).length≤19:=by
 unfold itoa
 have h1:=iJ 17 x.natAbs (by simpa using h)
 split
 ·simp only[List.length_cons];omega
 ·rename_i hx
  rw[show x.toNat=x.natAbs by omega];omega
theorem b90p (x y:Int) (hx:x.natAbs<1000000000000000000) (hy:y.natAbs<1000000000000000000) (h0:0<y):body Tryz.prog [c105,c61] {} true Tryz.f142 [.agg [I x,I y]] (S (numS (mkRat x y.toNat))):=by
 have hm:=Gg (x:=x) h0
 obtain ⟨g,hg⟩:∃g,Int.gcd x y=g:=⟨_,rfl⟩
 have gx:(g:Int) ∣ x:=by rw[← hg];exact Int.gcd_dvd_left _ _
 have gy:(g:Int) ∣ y:=by rw[← hg];exact Int.gcd_dvd_right _ _
 have gp:0<g:=by rw[← hg];exact Int.gcd_pos_of_ne_zero_right _ (by omega)
 have hgm:Int.gcd (max x (-x)) y=g:=by
  rw[← hg];unfold Int.gcd
  rw[show (max x (-x)).natAbs=x.natAbs by omega]
 rw[hg] at hm
 rw[hm]
 have t1:x.tdiv g=x/g:=Int.tdiv_eq_ediv_of_dvd gx
 have t2:y.tdiv g=y/g:=Int.tdiv_eq_ediv_of_dvd gy
 have b1:(x/g).natAbs≤x.natAbs:=by
  obtain ⟨k,rfl⟩:=gx
  rw[Int.mul_ediv_cancel_left _ (by omega),Int.natAbs_mul]
  exact Nat.le_mul_of_pos_left _ (by omega)
 have b2:(y/g).natAbs≤y.natAbs:=by
  obtain ⟨k,rfl⟩:=gy
  rw[Int.mul_ediv_cancel_left _ (by omega),Int.natAbs_mul]
  exact Nat.le_mul_of_pos_left _ (by omega)
 have m1:=tF (x:=x/g) (by omega)
 have m2:=tF (x:=y/g) (by omega)
 (repeat'((conv=>whnf);first|refine Zb ?_|refine Zn ?_|(apply Pin.mk;apply Exists.intro)|apply Pinned.mk rfl rfl|refine Zm ?_|fail))
 rw[hgm]
 (repeat'((conv=>whnf);first|refine Za ?_|refine Zn ?_|(apply Pin.mk;apply Exists.intro)|apply Pinned.mk rfl rfl|fail))
 rw[← t1]
 rw[← t1] at m1
 (apply Br.mk<;>intro)
 ·rename_i h1
  rw[if_pos (by rw[h1];exact itoa_one)]
  (conv=>whnf)
 ·rename_i h1
  rw[if_neg (fun e=>h1 (iV (e.trans itoa_one.symm)))]
  (repeat refine ZR ?_)
  (conv=>whnf)
  exact List.append_assoc _ [47] _
theorem b90n (x0 y0:Int) (hx0:x0.natAbs<1000000000000000000) (hy0:y0.natAbs<1000000000000000000) (h00:y0<0):body Tryz.prog [c105,c61] {} true Tryz.f142 [.agg [I x0,I y0]] (S (numS (mkRat (-x0) (-y0).toNat))):=by
 obtain ⟨x,ex⟩:∃x, -x0=x:=⟨_,rfl⟩
 obtain ⟨y,ey⟩:∃y, -y0=y:=⟨_,rfl⟩
 have hx:x.natAbs<1000000000000000000:=by omega
 have hy:y.natAbs<1000000000000000000:=by omega
 have h0:0<y:=by omega
 rw[ex,ey]
 have hm:=Gg (x:=x) h0
 obtain ⟨g,hg⟩:∃g,Int.gcd x y=g:=⟨_,rfl⟩
 have gx:(g:Int) ∣ x:=by rw[← hg];exact Int.gcd_dvd_left _ _
 have gy:(g:Int) ∣ y:=by rw[← hg];exact Int.gcd_dvd_right _ _
 have gp:0<g:=by rw[← hg];exact Int.gcd_pos_of_ne_zero_right _ (by omega)
 have hgm:Int.gcd (max x (-x)) y=g:=by
  rw[← hg];unfold Int.gcd
  rw[show (max x (-x)).natAbs=x.natAbs by omega]
 rw[hg] at hm
 rw[hm]
 have t1:x.tdiv g=x/g:=Int.tdiv_eq_ediv_of_dvd gx
 have t2:y.tdiv g=y/g:=Int.tdiv_eq_ediv_of_dvd gy
 have b1:(x/g).natAbs≤x.natAbs:=by
  obtain ⟨k,rfl⟩:=gx
  rw[Int.mul_ediv_cancel_left _ (by omega),Int.natAbs_mul]
  exact Nat.le_mul_of_pos_left _ (by omega)
 have b2:(y/g).natAbs≤y.natAbs:=by
  obtain ⟨k,rfl⟩:=gy
  rw[Int.mul_ediv_cancel_left _ (by omega),Int.natAbs_mul]
  exact Nat.le_mul_of_pos_left _ (by omega)
 have m1:=tF (x:=x/g) (by omega)
 have m2:=tF (x:=y/g) (by omega)
 (repeat'((conv=>whnf);first|refine Zn ?_|(apply Pin.mk;apply Exists.intro)|apply Pinned.mk rfl rfl|refine .r ?_|refine Zy ?_|fail))
 rw[ex,ey,hgm]
 (repeat'((conv=>whnf);first|refine Za ?_|refine Zn ?_|(apply Pin.mk;apply Exists.intro)|apply Pinned.mk rfl rfl|fail))
 rw[← t1]
 rw[← t1] at m1
 (apply Br.mk<;>intro)
 ·rename_i h1
  rw[if_pos (by rw[h1];exact itoa_one)]
  (conv=>whnf)
 ·rename_i h1
  rw[if_neg (fun e=>h1 (iV (e.trans itoa_one.symm)))]
  (repeat refine ZR ?_)
  (conv=>whnf)
  exact List.append_assoc _ [47] _
def c90:Con:=aI 142 true fun args K=>match args with
 | [.agg [.val (.int .i64 x),.val (.int .i64 y)]]=>Need (x.natAbs<1000000000000000000∧y.natAbs<1000000000000000000∧y≠0) (K (S (numS (Rat.divInt x y))))
 | _=>False
theorem k90:aD Tryz.prog c90:=by
 refine kO Tryz.func142 fun args K h=>?_
 simp only[c90] at h;split at h
 ·rename_i x y
  obtain ⟨⟨h1,h2,h3⟩,h⟩:=h
  refine ⟨_,h,?_⟩
  rcases Int.lt_or_gt_of_ne h3 with hn | hp
  ·rw[rG _ _ hn]
   exact triB Tryz.func142 Tryz.ntmps142 (by simp[k105,k61]) (b90n x y h1 h2 hn)
  ·rw[eH _ _ hp]
   exact triB Tryz.func142 Tryz.ntmps142 (by simp[k105,k61]) (b90p x y h1 h2 hp)
 ·exact h.elim
theorem mul8 {a b:Int} (ha:a.natAbs<100000000) (hb:b.natAbs<100000000): -10000000000000000<a*b∧a*b<10000000000000000:=by
 have h:=Nat.mul_lt_mul'' ha hb
 rw[← Int.natAbs_mul] at h
 omega
abbrev n8 (a b c d:Int):Prop:=a.natAbs<100000000∧b.natAbs<100000000∧c.natAbs<100000000∧d.natAbs<100000000
def c53:Con:=aI 136 true fun args K=>match args with | [.agg [.val (.int .i64 a),.val (.int .i64 b)],.agg [.val (.int .i64 c),.val (.int .i64 d)]]=>Need (n8 a b c d) (K (.agg [I (a*d+c*b),I (b*d)])) | _=>False
theorem k53:aD Tryz.prog c53:=by
 refine kQ {} Tryz.func136 Tryz.ntmps136 kn fun _ _ h=>?_
 split at h
 case h_2=>exact h.elim
 refine kb h.go ?_
 replace h:=h.ok
 obtain ⟨h1,h2,h3,h4⟩:=h
 have m1:=mul8 h1 h4
 have m2:=mul8 h3 h2
 have m3:=mul8 h2 h4
 have m4:=mul8 h1 h3
 have m5:=mul8 h2 h3
 (repeat refine ZR ?_)
 (conv=>whnf)
 (repeat' first|exact trivial|rfl|apply And.intro)
def c59:Con:=aI 87 true fun args K=>match args with | [.agg [.val (.int .i64 a),.val (.int .i64 b)],.agg [.val (.int .i64 c),.val (.int .i64 d)]]=>Need (n8 a b c d) (K (.agg [I (a*d-c*b),I (b*d)])) | _=>False
theorem k59:aD Tryz.prog c59:=by
 refine kQ {} Tryz.func87 Tryz.ntmps87 kn fun _ _ h=>?_
 split at h
 case h_2=>exact h.elim
 refine kb h.go ?_
 replace h:=h.ok
 obtain ⟨h1,h2,h3,h4⟩:=h
 have m1:=mul8 h1 h4
 have m2:=mul8 h3 h2
 have m3:=mul8 h2 h4
 have m4:=mul8 h1 h3
 have m5:=mul8 h2 h3
 (repeat refine ZR ?_)
 (conv=>whnf)
 (repeat' first|exact trivial|rfl|apply And.intro)
def c56:Con:=aI 113 true fun args K=>match args with | [.agg [.val (.int .i64 a),.val (.int .i64 b)],.agg [.val (.int .i64 c),.val (.int .i64 d)]]=>Need (n8 a b c d) (K (.agg [I (a*c),I (b*d)])) | _=>False
theorem k56:aD Tryz.prog c56:=by
 refine kQ {} Tryz.func113 Tryz.ntmps113 kn fun _ _ h=>?_
 split at h
 case h_2=>exact h.elim
 refine kb h.go ?_
 replace h:=h.ok
 obtain ⟨h1,h2,h3,h4⟩:=h
 have m1:=mul8 h1 h4
 have m2:=mul8 h3 h2
 have m3:=mul8 h2 h4
 have m4:=mul8 h1 h3
 have m5:=mul8 h2 h3
 (repeat refine ZR ?_)
 (conv=>whnf)
 (repeat' first|exact trivial|rfl|apply And.intro)
def c48:Con:=aI 91 true fun args K=>match args with | [.agg [.val (.int .i64 a),.val (.int .i64 b)],.agg [.val (.int .i64 c),.val (.int .i64 d)]]=>Need (n8 a b c d) (K (.agg [I (a*d),I (b*c)])) | _=>False
theorem k48:aD Tryz.prog c48:=by
 refine kQ {} Tryz.func91 Tryz.ntmps91 kn fun _ _ h=>?_
 split at h
 case h_2=>exact h.elim
 refine kb h.go ?_
 replace h:=h.ok
 obtain ⟨h1,h2,h3,h4⟩:=h
 have m1:=mul8 h1 h4
 have m2:=mul8 h3 h2
 have m3:=mul8 h2 h4
 have m4:=mul8 h1 h3
 have m5:=mul8 h2 h3
 (repeat refine ZR ?_)
 (conv=>whnf)
 (repeat' first|exact trivial|rfl|apply And.intro)
theorem bL {s:List UInt8} (h:bS s):(valQ s).num.natAbs<100000000∧((valQ s).den:Int).natAbs<100000000∧0<((valQ s).den:Int):=by
 have:=(valQ s).den_pos
 exact ⟨h.2.1,by rw[Int.natAbs_natCast];exact h.2.2,by omega⟩
theorem Cu (p q:Rat):Rat.divInt (p.num*q.den+q.num*p.den) (p.den*q.den)=p+q:=by
 rw[Cl,eH _ _ (Int.mul_pos (by have:=p.den_pos;omega) (by have:=q.den_pos;omega))];rfl
theorem Cv (p q:Rat):Rat.divInt (p.num*q.den-q.num*p.den) (p.den*q.den)=p-q:=by
 rw[pS,eH _ _ (Int.mul_pos (by have:=p.den_pos;omega) (by have:=q.den_pos;omega))];rfl
theorem Cw (p q:Rat):Rat.divInt (p.num*q.num) (p.den*q.den)=p*q:=by
 rw[uD,eH _ _ (Int.mul_pos (by have:=p.den_pos;omega) (by have:=q.den_pos;omega))];rfl
theorem Cx (p q:Rat) (hq:q≠0):Rat.divInt (p.num*q.den) (p.den*q.num)=p/q:=(Cm p q hq).symm
def nv2 (a b:List UInt8):Prop:=nvOK a∧nvOK b
theorem aA2 (a b:List UInt8) (h:nv2 a b) (ha:bS a) (hb:bS b):body Tryz.prog [c68,c53,c90] {} true Tryz.f86 [S a,S b,.clo 136 [] []] (.tup [S (numS (valQ a+valQ b)),.val (.bool true)]):=by
 obtain ⟨na,nb⟩:=h
 obtain ⟨p1,p2,p3⟩:=bL ha
 obtain ⟨q1,q2,q3⟩:=bL hb
 have m1:=mul8 p1 q2
 have m2:=mul8 q1 p2
 have m4:=mul8 p1 q1
 have m3:=mul8 p2 q2
 rw[← Cu (valQ a) (valQ b)]
 (repeat' first|refine ZR ?_|refine Zg fun _=>?_)
 (conv=>whnf)
 (repeat' first|exact trivial|rfl|apply And.intro)
theorem aA3 (a b:List UInt8) (h:¬nv2 a b):body Tryz.prog [c68,c53,c90] {} true Tryz.f86 [S a,S b,.clo 136 [] []] (.tup [S [],.val (.bool false)]):=by
 by_cases na:nvOK a
 ·have nb:¬nvOK b:=fun e=>h ⟨na,e⟩
  (repeat' first|refine ZR ?_|refine Zg fun _=>?_)
  (conv=>whnf)
  (repeat' first|exact trivial|rfl|apply And.intro)
 ·(repeat refine ZR ?_)
  (conv=>whnf)
  (repeat' first|exact trivial|rfl|apply And.intro)
def q53:Con:=aI 86 true fun args K=>match args with
 | [.str a,.str b,.clo 136 [] []]=>Br (nv2 a b) (Giv (bS a∧bS b) (K (.tup [S (numS (valQ a+valQ b)),.val (.bool true)]))) (K (.tup [S [],.val (.bool false)]))
 | _=>False
theorem kq53:aD Tryz.prog q53:=by
 refine kO Tryz.func86 fun args K h=>?_
 simp only[q53] at h;split at h
 ·rename_i a b
  by_cases hf:nv2 a b
  ·obtain ⟨v1,_,_,v2,v3⟩:=cZ hf.1
   obtain ⟨w1,_,_,w2,w3⟩:=cZ hf.2
   exact ⟨_,(h.yes hf).go ⟨⟨v1,v2,v3⟩,w1,w2,w3⟩,triB Tryz.func86 Tryz.ntmps86 (by simp[k68,k53,k90]) (aA2 a b hf ⟨v1,v2,v3⟩ ⟨w1,w2,w3⟩)⟩
  ·exact ⟨_,h.no hf,triB Tryz.func86 Tryz.ntmps86 (by simp[k68,k53,k90]) (aA3 a b hf)⟩
 ·exact h.elim
theorem aA4 (a b:List UInt8) (h:nv2 a b) (ha:bS a) (hb:bS b):body Tryz.prog [c68,c59,c90] {} true Tryz.f86 [S a,S b,.clo 87 [] []] (.tup [S (numS (valQ a-valQ b)),.val (.bool true)]):=by
 obtain ⟨na,nb⟩:=h
 obtain ⟨p1,p2,p3⟩:=bL ha
 obtain ⟨q1,q2,q3⟩:=bL hb
 have m1:=mul8 p1 q2
 have m2:=mul8 q1 p2
 have m4:=mul8 p1 q1
 have m3:=mul8 p2 q2
 rw[← Cv (valQ a) (valQ b)]
 (repeat' first|refine ZR ?_|refine Zg fun _=>?_)
 (conv=>whnf)
 (repeat' first|exact trivial|rfl|apply And.intro)
theorem aA5 (a b:List UInt8) (h:¬nv2 a b):body Tryz.prog [c68,c59,c90] {} true Tryz.f86 [S a,S b,.clo 87 [] []] (.tup [S [],.val (.bool false)]):=by
 by_cases na:nvOK a
 ·have nb:¬nvOK b:=fun e=>h ⟨na,e⟩
  (repeat' first|refine ZR ?_|refine Zg fun _=>?_)
  (conv=>whnf)
  (repeat' first|exact trivial|rfl|apply And.intro)
 ·(repeat refine ZR ?_)
  (conv=>whnf)
  (repeat' first|exact trivial|rfl|apply And.intro)
def q59:Con:=aI 86 true fun args K=>match args with
 | [.str a,.str b,.clo 87 [] []]=>Br (nv2 a b) (Giv (bS a∧bS b) (K (.tup [S (numS (valQ a-valQ b)),.val (.bool true)]))) (K (.tup [S [],.val (.bool false)]))
 | _=>False
theorem kq59:aD Tryz.prog q59:=by
 refine kO Tryz.func86 fun args K h=>?_
 simp only[q59] at h;split at h
 ·rename_i a b
  by_cases hf:nv2 a b
  ·obtain ⟨v1,_,_,v2,v3⟩:=cZ hf.1
   obtain ⟨w1,_,_,w2,w3⟩:=cZ hf.2
   exact ⟨_,(h.yes hf).go ⟨⟨v1,v2,v3⟩,w1,w2,w3⟩,triB Tryz.func86 Tryz.ntmps86 (by simp[k68,k59,k90]) (aA4 a b hf ⟨v1,v2,v3⟩ ⟨w1,w2,w3⟩)⟩
  ·exact ⟨_,h.no hf,triB Tryz.func86 Tryz.ntmps86 (by simp[k68,k59,k90]) (aA5 a b hf)⟩
 ·exact h.elim
theorem aA6 (a b:List UInt8) (h:nv2 a b) (ha:bS a) (hb:bS b):body Tryz.prog [c68,c56,c90] {} true Tryz.f86 [S a,S b,.clo 113 [] []] (.tup [S (numS (valQ a*valQ b)),.val (.bool true)]):=by
 obtain ⟨na,nb⟩:=h
 obtain ⟨p1,p2,p3⟩:=bL ha
 obtain ⟨q1,q2,q3⟩:=bL hb
 have m1:=mul8 p1 q2
 have m2:=mul8 q1 p2
 have m4:=mul8 p1 q1
 have m3:=mul8 p2 q2
 rw[← Cw (valQ a) (valQ b)]
 (repeat' first|refine ZR ?_|refine Zg fun _=>?_)
 (conv=>whnf)
 (repeat' first|exact trivial|rfl|apply And.intro)
theorem aA7 (a b:List UInt8) (h:¬nv2 a b):body Tryz.prog [c68,c56,c90] {} true Tryz.f86 [S a,S b,.clo 113 [] []] (.tup [S [],.val (.bool false)]):=by
 by_cases na:nvOK a
 ·have nb:¬nvOK b:=fun e=>h ⟨na,e⟩
  (repeat' first|refine ZR ?_|refine Zg fun _=>?_)
  (conv=>whnf)
  (repeat' first|exact trivial|rfl|apply And.intro)
 ·(repeat refine ZR ?_)
  (conv=>whnf)
  (repeat' first|exact trivial|rfl|apply And.intro)
def q56:Con:=aI 86 true fun args K=>match args with
 | [.str a,.str b,.clo 113 [] []]=>Br (nv2 a b) (Giv (bS a∧bS b) (K (.tup [S (numS (valQ a*valQ b)),.val (.bool true)]))) (K (.tup [S [],.val (.bool false)]))
 | _=>False
theorem kq56:aD Tryz.prog q56:=by
 refine kO Tryz.func86 fun args K h=>?_
 simp only[q56] at h;split at h
 ·rename_i a b
  by_cases hf:nv2 a b
  ·obtain ⟨v1,_,_,v2,v3⟩:=cZ hf.1
   obtain ⟨w1,_,_,w2,w3⟩:=cZ hf.2
   exact ⟨_,(h.yes hf).go ⟨⟨v1,v2,v3⟩,w1,w2,w3⟩,triB Tryz.func86 Tryz.ntmps86 (by simp[k68,k56,k90]) (aA6 a b hf ⟨v1,v2,v3⟩ ⟨w1,w2,w3⟩)⟩
  ·exact ⟨_,h.no hf,triB Tryz.func86 Tryz.ntmps86 (by simp[k68,k56,k90]) (aA7 a b hf)⟩
 ·exact h.elim
theorem aA8 (a b:List UInt8) (hq:valQ b≠0) (h:nv2 a b) (ha:bS a) (hb:bS b):body Tryz.prog [c68,c48,c90] {} true Tryz.f86 [S a,S b,.clo 91 [] []] (.tup [S (numS (valQ a/valQ b)),.val (.bool true)]):=by
 obtain ⟨na,nb⟩:=h
 obtain ⟨p1,p2,p3⟩:=bL ha
 obtain ⟨q1,q2,q3⟩:=bL hb
 have m1:=mul8 p1 q2
 have m2:=mul8 q1 p2
 have m4:=mul8 p1 q1
 have hq0:(valQ b).num≠0:=fun e=>hq (Rat.num_eq_zero.1 e)
 have m3:=mul8 p2 q1
 rw[← Cx (valQ a) (valQ b) hq]
 (repeat'((conv=>whnf);first|refine Zg fun _=>?_|refine Zn ?_|refine Zy ?_|fail))
 refine Need.mk ⟨by omega,by omega,Int.mul_ne_zero (by omega) hq0⟩ ?_
 (conv=>whnf)
 (repeat' first|exact trivial|rfl|apply And.intro)
theorem aA9 (a b:List UInt8) (h:¬nv2 a b):body Tryz.prog [c68,c48,c90] {} true Tryz.f86 [S a,S b,.clo 91 [] []] (.tup [S [],.val (.bool false)]):=by
 by_cases na:nvOK a
 ·have nb:¬nvOK b:=fun e=>h ⟨na,e⟩
  (repeat' first|refine ZR ?_|refine Zg fun _=>?_)
  (conv=>whnf)
  (repeat' first|exact trivial|rfl|apply And.intro)
 ·(repeat refine ZR ?_)
  (conv=>whnf)
  (repeat' first|exact trivial|rfl|apply And.intro)
def q48:Con:=aI 86 true fun args K=>match args with
 | [.str a,.str b,.clo 91 [] []]=>Need (¬b= [48]) (Br (nv2 a b) (Giv (bS a∧bS b) (K (.tup [S (numS (valQ a/valQ b)),.val (.bool true)]))) (K (.tup [S [],.val (.bool false)])))
 | _=>False
theorem Cy:numS 0= [48]:=by
 unfold numS
 rw[if_pos (show Rat.den 0=1 from rfl)]
 exact itoa_zero
theorem kq48:aD Tryz.prog q48:=by
 refine kO Tryz.func86 fun args K h=>?_
 simp only[q48] at h;split at h
 ·rename_i a b
  obtain ⟨hb0,h⟩:=h
  by_cases hf:nv2 a b
  ·obtain ⟨v1,_,_,v2,v3⟩:=cZ hf.1
   obtain ⟨w1,_,_,w2,w3⟩:=cZ hf.2
   have hq:valQ b≠0:=fun e=>hb0 (by rw[w1,e];exact Cy)
   exact ⟨_,(h.yes hf).go ⟨⟨v1,v2,v3⟩,w1,w2,w3⟩,triB Tryz.func86 Tryz.ntmps86 (by simp[k68,k48,k90]) (aA8 a b hq hf ⟨v1,v2,v3⟩ ⟨w1,w2,w3⟩)⟩
  ·exact ⟨_,h.no hf,triB Tryz.func86 Tryz.ntmps86 (by simp[k68,k48,k90]) (aA9 a b hf)⟩
 ·exact h.elim
theorem pX {a b:List UInt8} (ha:chkI a=0) (hb:chkI b=0) (r:List UInt8 × Int):bX a b r=r:=by
 unfold bX chk2
 rw[ha,hb,if_neg (by simp)]
def c58r:Con:=aI 103 true fun args K=>match args with
 | [.str a,.str b]=>Need (chkI a=0∧chkI b=0) (Br (lim (valI a*valI b)=false) (K (.tup [S (itoa (valI a*valI b)),I 0])) (K (.tup [S [],I 4])))
 | _=>False
theorem k58r:aD Tryz.prog c58r:=by
 refine kO Tryz.func103 fun args K h=>?_
 simp only[c58r] at h;split at h
 ·rename_i a b
  obtain ⟨⟨ha,hb⟩,h⟩:=h
  have ht:=triB Tryz.func103 Tryz.ntmps103 (by simp[k94,k95,k61,k98,k99f,k96]) (b58 a b)
  rw[pX ha hb] at ht
  by_cases hl:lim (valI a*valI b)=false
  ·refine ⟨_,h.yes hl,?_⟩
   unfold resI at ht
   rw[hl] at ht
   exact ht
  ·refine ⟨_,h.no hl,?_⟩
   unfold resI at ht
   rw[show lim _=true from by simpa using hl] at ht
   exact ht
 ·exact h.elim
def c55r:Con:=aI 137 true fun args K=>match args with
 | [.str a,.str b]=>Need (chkI a=0∧chkI b=0) (Br (lim (valI a+valI b)=false) (K (.tup [S (itoa (valI a+valI b)),I 0])) (K (.tup [S [],I 4])))
 | _=>False
theorem k55r:aD Tryz.prog c55r:=by
 refine kO Tryz.func137 fun args K h=>?_
 simp only[c55r] at h;split at h
 ·rename_i a b
  obtain ⟨⟨ha,hb⟩,h⟩:=h
  have ht:=triB Tryz.func137 Tryz.ntmps137 (by simp[k94,k95,k61,k98,k97,k96]) (b55 a b)
  rw[pX ha hb] at ht
  by_cases hl:lim (valI a+valI b)=false
  ·refine ⟨_,h.yes hl,?_⟩
   unfold resI at ht
   rw[hl] at ht
   exact ht
  ·refine ⟨_,h.no hl,?_⟩
   unfold resI at ht
   rw[show lim _=true from by simpa using hl] at ht
   exact ht
 ·exact h.elim
def c60r:Con:=aI 90 true fun args K=>match args with
 | [.str a,.str b]=>Need (chkI a=0∧chkI b=0) (Br (lim (valI a-valI b)=false) (K (.tup [S (itoa (valI a-valI b)),I 0])) (K (.tup [S [],I 4])))
 | _=>False
theorem k60r:aD Tryz.prog c60r:=by
 refine kO Tryz.func90 fun args K h=>?_
 simp only[c60r] at h;split at h
 ·rename_i a b
  obtain ⟨⟨ha,hb⟩,h⟩:=h
  have ht:=triB Tryz.func90 Tryz.ntmps90 (by simp[k94,k95,k61,k98,k97,k96]) (b60 a b)
  rw[pX ha hb] at ht
  by_cases hl:lim (valI a-valI b)=false
  ·refine ⟨_,h.yes hl,?_⟩
   unfold resI at ht
   rw[hl] at ht
   exact ht
  ·refine ⟨_,h.no hl,?_⟩
   unfold resI at ht
   rw[show lim _=true from by simpa using hl] at ht
   exact ht
 ·exact h.elim
abbrev ck4 (a b c d:List UInt8):Prop:=(chkI a=0∧chkI b=0)∧(chkI c=0∧chkI d=0)
def fH (a b c d:List UInt8):Prop:=lim (valI a*valI d)=false∧lim (valI c*valI b)=false
instance (a b c d:List UInt8):Decidable (fH a b c d):=by unfold fH;infer_instance
theorem b51y (a b c d:List UInt8) (h:ck4 a b c d) (hl:fH a b c d):body Tryz.prog [c58r] {} true Tryz.f52 [.agg [S a,S b],.agg [S c,S d]] (.tup [S (itoa (valI a*valI d)),S (itoa (valI c*valI b)),I 0]):=by
 obtain ⟨⟨h1,h2⟩,h3,h4⟩:=h
 obtain ⟨l1,l2⟩:=hl
 (repeat refine ZR ?_)
 (conv=>whnf)
 (repeat' first|exact trivial|rfl|apply And.intro)
theorem b51n (a b c d:List UInt8) (h:ck4 a b c d) (hl:¬fH a b c d):body Tryz.prog [c58r] {} true Tryz.f52 [.agg [S a,S b],.agg [S c,S d]] (.tup [.any,.any,I 4]):=by
 obtain ⟨⟨h1,h2⟩,h3,h4⟩:=h
 by_cases l1:lim (valI a*valI d)=false
 ·have l2:¬lim (valI c*valI b)=false:=fun e=>hl ⟨l1,e⟩
  (repeat refine ZR ?_)
  (conv=>whnf)
  (repeat' first|exact trivial|rfl|apply And.intro)
 ·(repeat refine ZR ?_)
  (conv=>whnf)
  (repeat' first|exact trivial|rfl|apply And.intro)
def c51:Con:=aI 52 true fun args K=>match args with
 | [.agg [.str a,.str b],.agg [.str c,.str d]]=>Need (ck4 a b c d) (Br (fH a b c d) (K (.tup [S (itoa (valI a*valI d)),S (itoa (valI c*valI b)),I 0])) (K (.tup [.any,.any,I 4])))
 | _=>False
theorem k51:aD Tryz.prog c51:=by
 refine kO Tryz.func52 fun args K h=>?_
 simp only[c51] at h;split at h
 ·rename_i a b c d
  obtain ⟨h0,h⟩:=h
  by_cases hl:fH a b c d
  ·exact ⟨_,h.yes hl,triB Tryz.func52 Tryz.ntmps52 (by simp[k58r]) (b51y a b c d h0 hl)⟩
  ·exact ⟨_,h.no hl,triB Tryz.func52 Tryz.ntmps52 (by simp[k58r]) (b51n a b c d h0 hl)⟩
 ·exact h.elim
abbrev dens (b d:List UInt8):Prop:=0<valI b∧0<valI d
theorem lY (n d:Int):numQ (itoa n) (itoa d)=numS (Rat.divInt n d):=by
 unfold numQ
 rw[aV,aV]
theorem Gh {n:Int} (h:0<n):valI (itoa n)≠0:=by rw[aV];omega
def ok57 (a b c d:List UInt8):Prop:=lim (valI a*valI c)=false∧lim (valI b*valI d)=false
instance (a b c d:List UInt8):Decidable (ok57 a b c d):=by unfold ok57;infer_instance
theorem b57y (a b c d:List UInt8) (h:ck4 a b c d∧dens b d) (hl:ok57 a b c d):body Tryz.prog [c58r,c52] {} true Tryz.f114 [.agg [S a,S b],.agg [S c,S d]] (.tup [S (numQ (itoa (valI a*valI c)) (itoa (valI b*valI d))),I 0]):=by
 obtain ⟨⟨⟨h1,h2⟩,h3,h4⟩,hb,hd⟩:=h
 obtain ⟨l1,l2⟩:=hl
 have k1:=aZ l1
 have k2:=aZ l2
 have k3:=Gh (Int.mul_pos hb hd)
 (repeat refine ZR ?_)
 (conv=>whnf)
 (repeat' first|exact trivial|rfl|apply And.intro)
theorem b57n (a b c d:List UInt8) (h:ck4 a b c d) (hl:¬ok57 a b c d):body Tryz.prog [c58r,c52] {} true Tryz.f114 [.agg [S a,S b],.agg [S c,S d]] (.tup [S [],I 4]):=by
 obtain ⟨⟨h1,h2⟩,h3,h4⟩:=h
 by_cases l1:lim (valI a*valI c)=false
 ·have l2:¬lim (valI b*valI d)=false:=fun e=>hl ⟨l1,e⟩
  (repeat refine ZR ?_)
  (conv=>whnf)
  (repeat' first|exact trivial|rfl|apply And.intro)
 ·(repeat refine ZR ?_)
  (conv=>whnf)
  (repeat' first|exact trivial|rfl|apply And.intro)
def c57:Con:=aI 114 true fun args K=>match args with
 | [.agg [.str a,.str b],.agg [.str c,.str d]]=>Need (ck4 a b c d∧dens b d) (Br (ok57 a b c d) (K (.tup [S (numS (Rat.divInt (valI a*valI c) (valI b*valI d))),I 0])) (K (.tup [S [],I 4])))
 | _=>False
theorem k57:aD Tryz.prog c57:=by
 refine kO Tryz.func114 fun args K h=>?_
 simp only[c57] at h;split at h
 ·rename_i a b c d
  obtain ⟨h0,h⟩:=h
  by_cases hl:ok57 a b c d
  ·refine ⟨_,h.yes hl,?_⟩
   rw[← lY]
   exact triB Tryz.func114 Tryz.ntmps114 (by simp[k58r,k52]) (b57y a b c d h0 hl)
  ·exact ⟨_,h.no hl,triB Tryz.func114 Tryz.ntmps114 (by simp[k58r,k52]) (b57n a b c d h0.1 hl)⟩
 ·exact h.elim
def oU (a b c d:List UInt8):Prop:=fH a b c d∧lim (valI a*valI d+valI c*valI b)=false∧lim (valI b*valI d)=false
instance (a b c d:List UInt8):Decidable (oU a b c d):=by unfold oU;infer_instance
theorem b93ay (a b c d:List UInt8) (h:ck4 a b c d∧dens b d) (hl:oU a b c d):body Tryz.prog [c51,c55r,c58r,c52] {} true Tryz.f143 [.agg [S a,S b],.agg [S c,S d],.lelem [.clo 137 [] []] 0] (.tup [S (numQ (itoa (valI a*valI d+valI c*valI b)) (itoa (valI b*valI d))),I 0]):=by
 obtain ⟨⟨⟨h1,h2⟩,h3,h4⟩,hb,hd⟩:=h
 obtain ⟨l1,l2,l3⟩:=hl
 have k1:=aZ l2
 have k2:=aZ l3
 have k3:=Gh (Int.mul_pos hb hd)
 have j1:=aZ l1.1
 have j2:=aZ l1.2
 have e1:=aV (valI a*valI d)
 have e2:=aV (valI c*valI b)
 (repeat refine ZR ?_)
 rw[e1,e2]
 (repeat refine ZR ?_)
 (conv=>whnf)
 (repeat' first|exact trivial|rfl|apply And.intro)
theorem b93an (a b c d:List UInt8) (h:ck4 a b c d) (hl:¬oU a b c d):body Tryz.prog [c51,c55r,c58r,c52] {} true Tryz.f143 [.agg [S a,S b],.agg [S c,S d],.lelem [.clo 137 [] []] 0] (.tup [S [],I 4]):=by
 obtain ⟨⟨h1,h2⟩,h3,h4⟩:=h
 by_cases l1:fH a b c d
 ·have j1:=aZ l1.1
  have j2:=aZ l1.2
  have e1:=aV (valI a*valI d)
  have e2:=aV (valI c*valI b)
  by_cases l2:lim (valI a*valI d+valI c*valI b)=false
  ·have l3:¬lim (valI b*valI d)=false:=fun e=>hl ⟨l1,l2,e⟩
   (repeat refine ZR ?_)
   rw[e1,e2]
   (repeat refine ZR ?_)
   (conv=>whnf)
   (repeat' first|exact trivial|rfl|apply And.intro)
  ·(repeat refine ZR ?_)
   rw[e1,e2]
   (repeat refine ZR ?_)
   (conv=>whnf)
   (repeat' first|exact trivial|rfl|apply And.intro)
 ·(repeat refine ZR ?_)
  (conv=>whnf)
  (repeat' first|exact trivial|rfl|apply And.intro)
def c93a:Con:=aI 143 true fun args K=>match args with
 | [.agg [.str a,.str b],.agg [.str c,.str d],.lelem [.clo 137 [] []] 0]=>Need (ck4 a b c d∧dens b d) (Br (oU a b c d) (K (.tup [S (numS (Rat.divInt (valI a*valI d+valI c*valI b) (valI b*valI d))),I 0])) (K (.tup [S [],I 4])))
 | _=>False
theorem k93a:aD Tryz.prog c93a:=by
 refine kO Tryz.func143 fun args K h=>?_
 simp only[c93a] at h;split at h
 ·rename_i a b c d
  obtain ⟨h0,h⟩:=h
  by_cases hl:oU a b c d
  ·refine ⟨_,h.yes hl,?_⟩
   rw[← lY]
   exact triB Tryz.func143 Tryz.ntmps143 (by simp[k51,k55r,k58r,k52]) (b93ay a b c d h0 hl)
  ·exact ⟨_,h.no hl,triB Tryz.func143 Tryz.ntmps143 (by simp[k51,k55r,k58r,k52]) (b93an a b c d h0.1 hl)⟩
 ·exact h.elim
def oV (a b c d:List UInt8):Prop:=fH a b c d∧lim (valI a*valI d-valI c*valI b)=false∧lim (valI b*valI d)=false
instance (a b c d:List UInt8):Decidable (oV a b c d):=by unfold oV;infer_instance
theorem b93sy (a b c d:List UInt8) (h:ck4 a b c d∧dens b d) (hl:oV a b c d):body Tryz.prog [c51,c60r,c58r,c52] {} true Tryz.f143 [.agg [S a,S b],.agg [S c,S d],.lelem [.clo 90 [] []] 0] (.tup [S (numQ (itoa (valI a*valI d-valI c*valI b)) (itoa (valI b*valI d))),I 0]):=by
 obtain ⟨⟨⟨h1,h2⟩,h3,h4⟩,hb,hd⟩:=h
 obtain ⟨l1,l2,l3⟩:=hl
 have k1:=aZ l2
 have k2:=aZ l3
 have k3:=Gh (Int.mul_pos hb hd)
 have j1:=aZ l1.1
 have j2:=aZ l1.2
 have e1:=aV (valI a*valI d)
 have e2:=aV (valI c*valI b)
 (repeat refine ZR ?_)
 rw[e1,e2]
 (repeat refine ZR ?_)
 (conv=>whnf)
 (repeat' first|exact trivial|rfl|apply And.intro)
theorem b93sn (a b c d:List UInt8) (h:ck4 a b c d) (hl:¬oV a b c d):body Tryz.prog [c51,c60r,c58r,c52] {} true Tryz.f143 [.agg [S a,S b],.agg [S c,S d],.lelem [.clo 90 [] []] 0] (.tup [S [],I 4]):=by
 obtain ⟨⟨h1,h2⟩,h3,h4⟩:=h
 by_cases l1:fH a b c d
 ·have j1:=aZ l1.1
  have j2:=aZ l1.2
  have e1:=aV (valI a*valI d)
  have e2:=aV (valI c*valI b)
  by_cases l2:lim (valI a*valI d-valI c*valI b)=false
  ·have l3:¬lim (valI b*valI d)=false:=fun e=>hl ⟨l1,l2,e⟩
   (repeat refine ZR ?_)
   rw[e1,e2]
   (repeat refine ZR ?_)
   (conv=>whnf)
   (repeat' first|exact trivial|rfl|apply And.intro)
  ·(repeat refine ZR ?_)
   rw[e1,e2]
   (repeat refine ZR ?_)
   (conv=>whnf)
   (repeat' first|exact trivial|rfl|apply And.intro)
 ·(repeat refine ZR ?_)
  (conv=>whnf)
  (repeat' first|exact trivial|rfl|apply And.intro)
def c93s:Con:=aI 143 true fun args K=>match args with
 | [.agg [.str a,.str b],.agg [.str c,.str d],.lelem [.clo 90 [] []] 0]=>Need (ck4 a b c d∧dens b d) (Br (oV a b c d) (K (.tup [S (numS (Rat.divInt (valI a*valI d-valI c*valI b) (valI b*valI d))),I 0])) (K (.tup [S [],I 4])))
 | _=>False
theorem k93s:aD Tryz.prog c93s:=by
 refine kO Tryz.func143 fun args K h=>?_
 simp only[c93s] at h;split at h
 ·rename_i a b c d
  obtain ⟨h0,h⟩:=h
  by_cases hl:oV a b c d
  ·refine ⟨_,h.yes hl,?_⟩
   rw[← lY]
   exact triB Tryz.func143 Tryz.ntmps143 (by simp[k51,k60r,k58r,k52]) (b93sy a b c d h0 hl)
  ·exact ⟨_,h.no hl,triB Tryz.func143 Tryz.ntmps143 (by simp[k51,k60r,k58r,k52]) (b93sn a b c d h0.1 hl)⟩
 ·exact h.elim
def ok50 (a b c d:List UInt8):Prop:=fH a b c d
instance (a b c d:List UInt8):Decidable (ok50 a b c d):=by unfold ok50;infer_instance
theorem b50y (a b c d:List UInt8) (h:ck4 a b c d∧dens b d∧¬c= [48]) (hl:ok50 a b c d):body Tryz.prog [c51,c52] {} true Tryz.f92 [.agg [S a,S b],.agg [S c,S d]] (.tup [S (numQ (itoa (valI a*valI d)) (itoa (valI c*valI b))),I 0]):=by
 obtain ⟨⟨⟨h1,h2⟩,h3,h4⟩,⟨hb,hd⟩,hc⟩:=h
 have k1:=aZ hl.1
 have k2:=aZ hl.2
 have k3:valI (itoa (valI c*valI b))≠0:=by
  rw[aV]
  exact Int.mul_ne_zero (Xi (bR h3).1 hc) (by omega)
 (repeat refine ZR ?_)
 (conv=>whnf)
 (repeat' first|exact trivial|rfl|apply And.intro)
theorem b50n (a b c d:List UInt8) (h:ck4 a b c d∧¬c= [48]) (hl:¬ok50 a b c d):body Tryz.prog [c51,c52] {} true Tryz.f92 [.agg [S a,S b],.agg [S c,S d]] (.tup [S [],I 4]):=by
 obtain ⟨⟨⟨h1,h2⟩,h3,h4⟩,hc⟩:=h
 have hl:¬fH a b c d:=hl
 (repeat refine ZR ?_)
 (conv=>whnf)
 (repeat' first|exact trivial|rfl|apply And.intro)
def c50:Con:=aI 92 true fun args K=>match args with
 | [.agg [.str a,.str b],.agg [.str c,.str d]]=>Need (ck4 a b c d∧dens b d) (Br (c= [48]) (K (.tup [S [],I 12])) (Br (ok50 a b c d) (K (.tup [S (numS (Rat.divInt (valI a*valI d) (valI c*valI b))),I 0])) (K (.tup [S [],I 4]))))
 | _=>False
theorem b50z (a b c d:List UInt8) (hc:c= [48]):body Tryz.prog [c51,c52] {} true Tryz.f92 [.agg [S a,S b],.agg [S c,S d]] (.tup [S [],I 12]):=by
 (repeat refine ZR ?_)
 (conv=>whnf)
 (repeat' first|exact trivial|rfl|apply And.intro)
theorem k50:aD Tryz.prog c50:=by
 refine kO Tryz.func92 fun args K h=>?_
 simp only[c50] at h;split at h
 ·rename_i a b c d
  obtain ⟨h0,h⟩:=h
  by_cases hc:c= [48]
  ·exact ⟨_,h.yes hc,triB Tryz.func92 Tryz.ntmps92 (by simp[k51,k52]) (b50z a b c d hc)⟩
  replace h:=h.no hc
  by_cases hl:ok50 a b c d
  ·refine ⟨_,h.yes hl,?_⟩
   rw[← lY]
   exact triB Tryz.func92 Tryz.ntmps92 (by simp[k51,k52]) (b50y a b c d ⟨h0.1,h0.2,hc⟩ hl)
  ·exact ⟨_,h.no hl,triB Tryz.func92 Tryz.ntmps92 (by simp[k51,k52]) (b50n a b c d ⟨h0.1,hc⟩ hl)⟩
 ·exact h.elim
def c54:Con:=aI 89 false fun args K=>match args with | [.clo f [] []]=>K (.clo 143 [] [.lelem [.clo f [] []] 0]) | _=>False
theorem k54:aD Tryz.prog c54:=by
 refine kQ {} Tryz.func89 Tryz.ntmps89 kn fun _ _ h=>?_
 split at h
 case h_2=>exact h.elim
 refine kb h ?_
 (conv=>whnf)
 (repeat' first|exact trivial|rfl|apply And.intro)
noncomputable def addf (p q:Rat):List UInt8 × Int:=if lim (p.num*q.den) || lim (q.num*p.den) || lim (p.num*q.den+q.num*p.den) || lim (p.den*q.den) then ([],4) else (numS (p+q),0)
noncomputable def subf (p q:Rat):List UInt8 × Int:=if lim (p.num*q.den) || lim (q.num*p.den) || lim (p.num*q.den-q.num*p.den) || lim (p.den*q.den) then ([],4) else (numS (p-q),0)
noncomputable def mulf (p q:Rat):List UInt8 × Int:=if lim (p.num*q.num) || lim (p.den*q.den) then ([],4) else (numS (p*q),0)
noncomputable def divf (p q:Rat):List UInt8 × Int:=if q=0 then ([],12) else if lim (p.num*q.den) || lim (q.num*p.den) then ([],4) else (numS (p/q),0)
abbrev pn (p:Rat):List UInt8:=itoa p.num
abbrev pd (p:Rat):List UInt8:=decDigits p.den
theorem iB (p:Rat):valI (pn p)=p.num:=aV _
theorem iC (p:Rat):valI (pd p)=p.den:=by unfold pd;rw[← oR,aV]
theorem Qr (q:Rat):pn q= [48]↔q=0:=by
 unfold pn
 rw[← itoa_zero]
 exact ⟨fun h=>Rat.num_eq_zero.1 (iV h),fun h=>by rw[h];rfl⟩
theorem iM {s:List UInt8} (h:Xo s):chkI (pn (valQ s))=0∧chkI (pd (valQ s))=0∧0<valI (pd (valQ s)):=by
 refine ⟨aZ (by unfold lim;simpa using h.2.1),(Gf h.2.2).2.1,?_⟩
 rw[iC]
 have:=(valQ s).den_pos
 omega
theorem aD6 {p q:Rat} (h:oU (pn p) (pd p) (pn q) (pd q)):addf p q=(numS (Rat.divInt (valI (pn p)*valI (pd q)+valI (pn q)*valI (pd p)) (valI (pd p)*valI (pd q))),0):=by
 unfold oU fH at h
 simp only[iB,iC] at h ⊢
 unfold addf
 rw[Cu p q]
 simp[h]
theorem aD7 {p q:Rat} (h:¬oU (pn p) (pd p) (pn q) (pd q)):addf p q=([],4):=by
 unfold oU fH at h
 simp only[iB,iC] at h
 unfold addf
 rw[if_pos]
 apply Classical.byContradiction
 intro hn
 apply h
 simp only[Bool.or_eq_true,not_or,Bool.not_eq_true] at hn
 simp[hn]
theorem aD8 {p q:Rat} (h:oV (pn p) (pd p) (pn q) (pd q)):subf p q=(numS (Rat.divInt (valI (pn p)*valI (pd q)-valI (pn q)*valI (pd p)) (valI (pd p)*valI (pd q))),0):=by
 unfold oV fH at h
 simp only[iB,iC] at h ⊢
 unfold subf
 rw[Cv p q]
 simp[h]
theorem aD9 {p q:Rat} (h:¬oV (pn p) (pd p) (pn q) (pd q)):subf p q=([],4):=by
 unfold oV fH at h
 simp only[iB,iC] at h
 unfold subf
 rw[if_pos]
 apply Classical.byContradiction
 intro hn
 apply h
 simp only[Bool.or_eq_true,not_or,Bool.not_eq_true] at hn
 simp[hn]
theorem aEa {p q:Rat} (h:ok57 (pn p) (pd p) (pn q) (pd q)):mulf p q=(numS (Rat.divInt (valI (pn p)*valI (pn q)) (valI (pd p)*valI (pd q))),0):=by
 unfold ok57 at h
 simp only[iB,iC] at h ⊢
 unfold mulf
 rw[Cw p q]
 simp[h]
theorem aEb {p q:Rat} (h:¬ok57 (pn p) (pd p) (pn q) (pd q)):mulf p q=([],4):=by
 unfold ok57 at h
 simp only[iB,iC] at h
 unfold mulf
 rw[if_pos]
 apply Classical.byContradiction
 intro hn
 apply h
 simp only[Bool.or_eq_true,not_or,Bool.not_eq_true] at hn
 simp[hn]
theorem aEc {p q:Rat} (hq:q≠0) (h:ok50 (pn p) (pd p) (pn q) (pd q)):divf p q=(numS (Rat.divInt (valI (pn p)*valI (pd q)) (valI (pn q)*valI (pd p))),0):=by
 unfold ok50 fH at h
 simp only[iB,iC] at h ⊢
 unfold divf
 rw[if_neg hq,Int.mul_comm q.num,Cx p q hq]
 rw[Int.mul_comm q.num] at h
 simp[h]
theorem aEd {p q:Rat} (hq:q≠0) (h:¬ok50 (pn p) (pd p) (pn q) (pd q)):divf p q=([],4):=by
 unfold ok50 fH at h
 simp only[iB,iC] at h
 unfold divf
 rw[if_neg hq,if_pos]
 apply Classical.byContradiction
 intro hn
 apply h
 simp only[Bool.or_eq_true,not_or,Bool.not_eq_true] at hn
 simp[hn]
theorem aBa (a b:List UInt8):body Tryz.prog [c46,c93a] {} true Tryz.f88 [S a,S b,.clo 143 [] [.lelem [.clo 137 [] []] 0]] (.tup [S (addQ a b).1,I (addQ a b).2]):=by
 by_cases ha:chkQ a=0
 ·by_cases hb:chkQ b=0
  ·have e:addQ a b=addf (valQ a) (valQ b):=by
    show cS a b addf= _
    unfold cS
    rw[if_neg (by simpa using ha),if_neg (by simpa using hb)]
   rw[e]
   obtain ⟨r1,r2,r3⟩:=iM (dL ha)
   obtain ⟨s1,s2,s3⟩:=iM (dL hb)
   by_cases hk:oU (pn (valQ a)) (pd (valQ a)) (pn (valQ b)) (pd (valQ b))
   ·rw[aD6 hk]
    (repeat'((conv=>whnf);first|refine Zg fun _=>?_|refine Zy ?_|refine Zm ?_|fail))
    refine Need.mk ⟨⟨⟨r1,r2⟩,s1,s2⟩,r3,s3⟩ ?_
    (repeat refine ZR ?_)
    (conv=>whnf)
    (repeat' first|exact trivial|rfl|apply And.intro)
   ·rw[aD7 hk]
    (repeat'((conv=>whnf);first|refine Zg fun _=>?_|refine Zy ?_|refine Zm ?_|fail))
    refine Need.mk ⟨⟨⟨r1,r2⟩,s1,s2⟩,r3,s3⟩ ?_
    (repeat refine ZR ?_)
    (conv=>whnf)
    (repeat' first|exact trivial|rfl|apply And.intro)
  ·have e:addQ a b=([],chkQ b):=by
    show cS a b addf= _
    unfold cS
    rw[if_neg (by simpa using ha),if_pos hb]
   rw[e]
   (repeat' first|refine ZR ?_|refine Zg fun _=>?_)
   (conv=>whnf)
   (repeat' first|exact trivial|rfl|apply And.intro)
 ·have e:addQ a b=([],chkQ a):=by
   show cS a b addf= _
   unfold cS
   rw[if_pos ha]
  rw[e]
  (repeat refine ZR ?_)
  (conv=>whnf)
  (repeat' first|exact trivial|rfl|apply And.intro)
def w93a:Con:=aI 88 true fun args K=>match args with
 | [.str a,.str b,.clo 143 [] [.lelem [.clo 137 [] []] 0]]=>K (.tup [S (addQ a b).1,I (addQ a b).2])
 | _=>False
theorem kw93a:aD Tryz.prog w93a:=by
 refine kO Tryz.func88 fun args K h=>?_
 simp only[w93a] at h;split at h
 ·rename_i a b
  exact ⟨_,h,triB Tryz.func88 Tryz.ntmps88 (by simp[k46,k93a]) (aBa a b)⟩
 ·exact h.elim
theorem aBb (a b:List UInt8):body Tryz.prog [c46,c93s] {} true Tryz.f88 [S a,S b,.clo 143 [] [.lelem [.clo 90 [] []] 0]] (.tup [S (subQ a b).1,I (subQ a b).2]):=by
 by_cases ha:chkQ a=0
 ·by_cases hb:chkQ b=0
  ·have e:subQ a b=subf (valQ a) (valQ b):=by
    show cS a b subf= _
    unfold cS
    rw[if_neg (by simpa using ha),if_neg (by simpa using hb)]
   rw[e]
   obtain ⟨r1,r2,r3⟩:=iM (dL ha)
   obtain ⟨s1,s2,s3⟩:=iM (dL hb)
   by_cases hk:oV (pn (valQ a)) (pd (valQ a)) (pn (valQ b)) (pd (valQ b))
   ·rw[aD8 hk]
    (repeat'((conv=>whnf);first|refine Zg fun _=>?_|refine Zy ?_|refine Zm ?_|fail))
    refine Need.mk ⟨⟨⟨r1,r2⟩,s1,s2⟩,r3,s3⟩ ?_
    (repeat refine ZR ?_)
    (conv=>whnf)
    (repeat' first|exact trivial|rfl|apply And.intro)
   ·rw[aD9 hk]
    (repeat'((conv=>whnf);first|refine Zg fun _=>?_|refine Zy ?_|refine Zm ?_|fail))
    refine Need.mk ⟨⟨⟨r1,r2⟩,s1,s2⟩,r3,s3⟩ ?_
    (repeat refine ZR ?_)
    (conv=>whnf)
    (repeat' first|exact trivial|rfl|apply And.intro)
  ·have e:subQ a b=([],chkQ b):=by
    show cS a b subf= _
    unfold cS
    rw[if_neg (by simpa using ha),if_pos hb]
   rw[e]
   (repeat' first|refine ZR ?_|refine Zg fun _=>?_)
   (conv=>whnf)
   (repeat' first|exact trivial|rfl|apply And.intro)
 ·have e:subQ a b=([],chkQ a):=by
   show cS a b subf= _
   unfold cS
   rw[if_pos ha]
  rw[e]
  (repeat refine ZR ?_)
  (conv=>whnf)
  (repeat' first|exact trivial|rfl|apply And.intro)
def w93s:Con:=aI 88 true fun args K=>match args with
 | [.str a,.str b,.clo 143 [] [.lelem [.clo 90 [] []] 0]]=>K (.tup [S (subQ a b).1,I (subQ a b).2])
 | _=>False
theorem kw93s:aD Tryz.prog w93s:=by
 refine kO Tryz.func88 fun args K h=>?_
 simp only[w93s] at h;split at h
 ·rename_i a b
  exact ⟨_,h,triB Tryz.func88 Tryz.ntmps88 (by simp[k46,k93s]) (aBb a b)⟩
 ·exact h.elim
theorem aEe (a b:List UInt8):body Tryz.prog [c46,c57] {} true Tryz.f88 [S a,S b,.clo 114 [] []] (.tup [S (mulQ a b).1,I (mulQ a b).2]):=by
 by_cases ha:chkQ a=0
 ·by_cases hb:chkQ b=0
  ·have e:mulQ a b=mulf (valQ a) (valQ b):=by
    show cS a b mulf= _
    unfold cS
    rw[if_neg (by simpa using ha),if_neg (by simpa using hb)]
   rw[e]
   obtain ⟨r1,r2,r3⟩:=iM (dL ha)
   obtain ⟨s1,s2,s3⟩:=iM (dL hb)
   by_cases hk:ok57 (pn (valQ a)) (pd (valQ a)) (pn (valQ b)) (pd (valQ b))
   ·rw[aEa hk]
    (repeat'((conv=>whnf);first|refine Zg fun _=>?_|refine Zy ?_|refine Zm ?_|fail))
    refine Need.mk ⟨⟨⟨r1,r2⟩,s1,s2⟩,r3,s3⟩ ?_
    (repeat refine ZR ?_)
    (conv=>whnf)
    (repeat' first|exact trivial|rfl|apply And.intro)
   ·rw[aEb hk]
    (repeat'((conv=>whnf);first|refine Zg fun _=>?_|refine Zy ?_|refine Zm ?_|fail))
    refine Need.mk ⟨⟨⟨r1,r2⟩,s1,s2⟩,r3,s3⟩ ?_
    (repeat refine ZR ?_)
    (conv=>whnf)
    (repeat' first|exact trivial|rfl|apply And.intro)
  ·have e:mulQ a b=([],chkQ b):=by
    show cS a b mulf= _
    unfold cS
    rw[if_neg (by simpa using ha),if_pos hb]
   rw[e]
   (repeat' first|refine ZR ?_|refine Zg fun _=>?_)
   (conv=>whnf)
   (repeat' first|exact trivial|rfl|apply And.intro)
 ·have e:mulQ a b=([],chkQ a):=by
   show cS a b mulf= _
   unfold cS
   rw[if_pos ha]
  rw[e]
  (repeat refine ZR ?_)
  (conv=>whnf)
  (repeat' first|exact trivial|rfl|apply And.intro)
def w57:Con:=aI 88 true fun args K=>match args with
 | [.str a,.str b,.clo 114 [] []]=>K (.tup [S (mulQ a b).1,I (mulQ a b).2])
 | _=>False
theorem kw57:aD Tryz.prog w57:=by
 refine kO Tryz.func88 fun args K h=>?_
 simp only[w57] at h;split at h
 ·rename_i a b
  exact ⟨_,h,triB Tryz.func88 Tryz.ntmps88 (by simp[k46,k57]) (aEe a b)⟩
 ·exact h.elim
theorem aEf (a b:List UInt8):body Tryz.prog [c46,c50] {} true Tryz.f88 [S a,S b,.clo 92 [] []] (.tup [S (divQ a b).1,I (divQ a b).2]):=by
 by_cases ha:chkQ a=0
 ·by_cases hb:chkQ b=0
  ·have e:divQ a b=divf (valQ a) (valQ b):=by
    show cS a b divf= _
    unfold cS
    rw[if_neg (by simpa using ha),if_neg (by simpa using hb)]
   rw[e]
   obtain ⟨r1,r2,r3⟩:=iM (dL ha)
   obtain ⟨s1,s2,s3⟩:=iM (dL hb)
   by_cases hz:pn (valQ b)= [48]
   ·have hd:divf (valQ a) (valQ b)=([],12):=by unfold divf;rw[if_pos ((Qr _).1 hz)]
    rw[hd]
    (repeat'((conv=>whnf);first|refine Zg fun _=>?_|refine Zy ?_|refine Zm ?_|fail))
    refine Need.mk ⟨⟨⟨r1,r2⟩,s1,s2⟩,r3,s3⟩ ?_
    (repeat refine ZR ?_)
    (conv=>whnf)
    (repeat' first|exact trivial|rfl|apply And.intro)
   ·have hq:valQ b≠0:=fun e=>hz ((Qr _).2 e)
    by_cases hk:ok50 (pn (valQ a)) (pd (valQ a)) (pn (valQ b)) (pd (valQ b))
    ·rw[aEc hq hk]
     (repeat'((conv=>whnf);first|refine Zg fun _=>?_|refine Zy ?_|refine Zm ?_|fail))
     refine Need.mk ⟨⟨⟨r1,r2⟩,s1,s2⟩,r3,s3⟩ ?_
     (repeat refine ZR ?_)
     (conv=>whnf)
     (repeat' first|exact trivial|rfl|apply And.intro)
    ·rw[aEd hq hk]
     (repeat'((conv=>whnf);first|refine Zg fun _=>?_|refine Zy ?_|refine Zm ?_|fail))
     refine Need.mk ⟨⟨⟨r1,r2⟩,s1,s2⟩,r3,s3⟩ ?_
     (repeat refine ZR ?_)
     (conv=>whnf)
     (repeat' first|exact trivial|rfl|apply And.intro)
  ·have e:divQ a b=([],chkQ b):=by
    show cS a b divf= _
    unfold cS
    rw[if_neg (by simpa using ha),if_pos hb]
   rw[e]
   (repeat' first|refine ZR ?_|refine Zg fun _=>?_)
   (conv=>whnf)
   (repeat' first|exact trivial|rfl|apply And.intro)
 ·have e:divQ a b=([],chkQ a):=by
   show cS a b divf= _
   unfold cS
   rw[if_pos ha]
  rw[e]
  (repeat refine ZR ?_)
  (conv=>whnf)
  (repeat' first|exact trivial|rfl|apply And.intro)
def w50:Con:=aI 88 true fun args K=>match args with
 | [.str a,.str b,.clo 92 [] []]=>K (.tup [S (divQ a b).1,I (divQ a b).2])
 | _=>False
theorem kw50:aD Tryz.prog w50:=by
 refine kO Tryz.func88 fun args K h=>?_
 simp only[w50] at h;split at h
 ·rename_i a b
  exact ⟨_,h,triB Tryz.func88 Tryz.ntmps88 (by simp[k46,k50]) (aEf a b)⟩
 ·exact h.elim
theorem bM {n:Int} (h:n.natAbs<10^40):lim n=false:=by
 unfold lim
 have:=iJ 39 n.natAbs h
 simp;omega
theorem nE {a b:List UInt8} (ha:bS a) (hb:bS b) (f:Rat→Rat→List UInt8 × Int):cS a b f=f (valQ a) (valQ b):=by
 unfold cS
 rw[if_neg (by rw[jR ha];simp),if_neg (by rw[jR hb];simp)]
theorem Na {a b:List UInt8} (ha:bS a) (hb:bS b):addQ a b=(numS (valQ a+valQ b),0):=by
 rw[show addQ a b=addf (valQ a) (valQ b) from nE ha hb addf]
 obtain ⟨p1,p2,p3⟩:=bL ha
 obtain ⟨q1,q2,q3⟩:=bL hb
 have m1:=mul8 p1 q2
 have m2:=mul8 q1 p2
 have m3:=mul8 p2 q2
 have m4:=mul8 p1 q1
 unfold addf
 rw[bM (n:=(valQ a).num*(valQ b).den) (by omega),bM (n:=(valQ b).num*(valQ a).den) (by omega),bM (n:=(valQ a).num*(valQ b).den+(valQ b).num*(valQ a).den) (by omega),bM (n:=(valQ a).den*(valQ b).den) (by omega)]
 rfl
theorem Nb {a b:List UInt8} (ha:bS a) (hb:bS b):subQ a b=(numS (valQ a-valQ b),0):=by
 rw[show subQ a b=subf (valQ a) (valQ b) from nE ha hb subf]
 obtain ⟨p1,p2,p3⟩:=bL ha
 obtain ⟨q1,q2,q3⟩:=bL hb
 have m1:=mul8 p1 q2
 have m2:=mul8 q1 p2
 have m3:=mul8 p2 q2
 have m4:=mul8 p1 q1
 unfold subf
 rw[bM (n:=(valQ a).num*(valQ b).den) (by omega),bM (n:=(valQ b).num*(valQ a).den) (by omega),bM (n:=(valQ a).num*(valQ b).den-(valQ b).num*(valQ a).den) (by omega),bM (n:=(valQ a).den*(valQ b).den) (by omega)]
 rfl
theorem Nc {a b:List UInt8} (ha:bS a) (hb:bS b):mulQ a b=(numS (valQ a*valQ b),0):=by
 rw[show mulQ a b=mulf (valQ a) (valQ b) from nE ha hb mulf]
 obtain ⟨p1,p2,p3⟩:=bL ha
 obtain ⟨q1,q2,q3⟩:=bL hb
 have m1:=mul8 p1 q2
 have m2:=mul8 q1 p2
 have m3:=mul8 p2 q2
 have m4:=mul8 p1 q1
 unfold mulf
 rw[bM (n:=(valQ a).num*(valQ b).num) (by omega),bM (n:=(valQ a).den*(valQ b).den) (by omega)]
 rfl
theorem Nd {a b:List UInt8} (ha:bS a) (hb:bS b) (h0:¬b= [48]):divQ a b=(numS (valQ a/valQ b),0):=by
 rw[show divQ a b=divf (valQ a) (valQ b) from nE ha hb divf]
 obtain ⟨p1,p2,p3⟩:=bL ha
 obtain ⟨q1,q2,q3⟩:=bL hb
 have m1:=mul8 p1 q2
 have m2:=mul8 q1 p2
 unfold divf
 rw[if_neg (fun e=>h0 (by rw[hb.1,e];exact Cy)),bM (n:=(valQ a).num*(valQ b).den) (by omega),bM (n:=(valQ b).num*(valQ a).den) (by omega)]
 rfl
theorem b17 (a b:List UInt8):body Tryz.prog [q53,w93a,c54] {} true Tryz.f63 [S a,S b] (.tup [S (addQ a b).1,I (addQ a b).2]):=by
 by_cases h:nv2 a b
 ·have ha:=(cZ h.1);have hb:=(cZ h.2)
  rw[Na ⟨ha.1,ha.2.2.2⟩ ⟨hb.1,hb.2.2.2⟩]
  (repeat' first|refine ZR ?_|refine Zg fun _=>?_)
  (conv=>whnf)
  (repeat' first|exact trivial|rfl|apply And.intro)
 ·(repeat refine ZR ?_)
  (conv=>whnf)
  (repeat' first|exact trivial|rfl|apply And.intro)
def c17:Con:=aI 63 true fun args K=>match args with | [.str a,.str b]=>K (.tup [S (addQ a b).1,I (addQ a b).2]) | _=>False
theorem k17:aD Tryz.prog c17:=by
 refine kO Tryz.func63 fun args K h=>?_
 simp only[c17] at h;split at h
 ·rename_i a b
  exact ⟨_,h,triB Tryz.func63 Tryz.ntmps63 (by simp[kq53,kw93a,k54]) (b17 a b)⟩
 ·exact h.elim
theorem b20 (a b:List UInt8):body Tryz.prog [q59,w93s,c54] {} true Tryz.f44 [S a,S b] (.tup [S (subQ a b).1,I (subQ a b).2]):=by
 by_cases h:nv2 a b
 ·have ha:=(cZ h.1);have hb:=(cZ h.2)
  rw[Nb ⟨ha.1,ha.2.2.2⟩ ⟨hb.1,hb.2.2.2⟩]
  (repeat' first|refine ZR ?_|refine Zg fun _=>?_)
  (conv=>whnf)
  (repeat' first|exact trivial|rfl|apply And.intro)
 ·(repeat refine ZR ?_)
  (conv=>whnf)
  (repeat' first|exact trivial|rfl|apply And.intro)
def c20:Con:=aI 44 true fun args K=>match args with | [.str a,.str b]=>K (.tup [S (subQ a b).1,I (subQ a b).2]) | _=>False
theorem k20:aD Tryz.prog c20:=by
 refine kO Tryz.func44 fun args K h=>?_
 simp only[c20] at h;split at h
 ·rename_i a b
  exact ⟨_,h,triB Tryz.func44 Tryz.ntmps44 (by simp[kq59,kw93s,k54]) (b20 a b)⟩
 ·exact h.elim
theorem b19 (a b:List UInt8):body Tryz.prog [q56,w57] {} true Tryz.f57 [S a,S b] (.tup [S (mulQ a b).1,I (mulQ a b).2]):=by
 by_cases h:nv2 a b
 ·have ha:=(cZ h.1);have hb:=(cZ h.2)
  rw[Nc ⟨ha.1,ha.2.2.2⟩ ⟨hb.1,hb.2.2.2⟩]
  (repeat' first|refine ZR ?_|refine Zg fun _=>?_)
  (conv=>whnf)
  (repeat' first|exact trivial|rfl|apply And.intro)
 ·(repeat refine ZR ?_)
  (conv=>whnf)
  (repeat' first|exact trivial|rfl|apply And.intro)
def c19:Con:=aI 57 true fun args K=>match args with | [.str a,.str b]=>K (.tup [S (mulQ a b).1,I (mulQ a b).2]) | _=>False
theorem k19:aD Tryz.prog c19:=by
 refine kO Tryz.func57 fun args K h=>?_
 simp only[c19] at h;split at h
 ·rename_i a b
  exact ⟨_,h,triB Tryz.func57 Tryz.ntmps57 (by simp[kq56,kw57]) (b19 a b)⟩
 ·exact h.elim
theorem b14 (a b:List UInt8):body Tryz.prog [q48,w50] {} true Tryz.f46 [S a,S b] (.tup [S (divQ a b).1,I (divQ a b).2]):=by
 by_cases h0:b= [48]
 ·(repeat refine ZR ?_)
  (conv=>whnf)
  (repeat' first|exact trivial|rfl|apply And.intro)
 ·by_cases h:nv2 a b
  ·have ha:=(cZ h.1);have hb:=(cZ h.2)
   rw[Nd ⟨ha.1,ha.2.2.2⟩ ⟨hb.1,hb.2.2.2⟩ h0]
   (repeat' first|refine ZR ?_|refine Zg fun _=>?_)
   (conv=>whnf)
   (repeat' first|exact trivial|rfl|apply And.intro)
  ·(repeat refine ZR ?_)
   (conv=>whnf)
   (repeat' first|exact trivial|rfl|apply And.intro)
def c14:Con:=aI 46 true fun args K=>match args with | [.str a,.str b]=>K (.tup [S (divQ a b).1,I (divQ a b).2]) | _=>False
theorem k14:aD Tryz.prog c14:=by
 refine kO Tryz.func46 fun args K h=>?_
 simp only[c14] at h;split at h
 ·rename_i a b
  exact ⟨_,h,triB Tryz.func46 Tryz.ntmps46 (by simp[kq48,kw50]) (b14 a b)⟩
 ·exact h.elim
def c21:Con:=aI 77 true fun args K=>match args with | [.str a]=>K (I (chkQ a)) | _=>False
theorem k21:aD Tryz.prog c21:=by
 refine kQ {} Tryz.func77 Tryz.ntmps77 (kc k46 kn) fun _ _ h=>?_
 split at h
 case h_2=>exact h.elim
 rename_i a
 refine kb h ?_
 by_cases h:chkQ a=0
 ·rw[h]
  (repeat' first|refine ZR ?_|refine Zg fun _=>?_)
  (conv=>whnf)
  (repeat' first|rfl|apply And.intro)
 ·(repeat refine ZR ?_)
  (conv=>whnf)
  (repeat' first|rfl|apply And.intro)
noncomputable def ptQ (a:List UInt8):List UInt8 × List UInt8:=if chkQ a=0 then (pn (valQ a),pd (valQ a)) else ([],[])
def c13:Con:=aI 115 true fun args K=>match args with | [.str a]=>K (.tup [S (ptQ a).1,S (ptQ a).2,I (chkQ a)]) | _=>False
theorem k13:aD Tryz.prog c13:=by
 refine kQ {} Tryz.func115 Tryz.ntmps115 (kc k46 kn) fun _ _ h=>?_
 split at h
 case h_2=>exact h.elim
 rename_i a
 refine kb h ?_
 unfold ptQ
 by_cases h:chkQ a=0
 ·rw[if_pos h,h]
  (repeat'((conv=>whnf);first|refine Zg fun _=>?_|(apply Pin.mk;apply Exists.intro)|apply Pinned.mk rfl rfl|refine Zy ?_|fail))
  (conv=>whnf)
  (repeat' first|exact trivial|rfl|apply And.intro)
 ·rw[if_neg h]
  (repeat'((conv=>whnf);first|(apply Pin.mk;apply Exists.intro)|apply Pinned.mk rfl rfl|refine Zm ?_|fail))
  (conv=>whnf)
  (repeat' first|exact trivial|rfl|apply And.intro)
noncomputable def ofQ (n d:Int):List UInt8 × Int:=if d=0 then ([],12) else (numS (Rat.divInt n d),0)
theorem div_one (n:Int):numS (Rat.divInt n 1)=itoa n:=by
 rw[eH _ _ (by omega),show (1:Int).toNat=1 from rfl,Pn _ _ (by omega),Nat.gcd_one_left,if_pos rfl]
 simp
def c22:Con:=aI 11 true fun args K=>match args with | [.val (.int .i64 n),.val (.int .i64 d)]=>Need ((-9223372036854775808≤n∧n≤9223372036854775807)∧(-9223372036854775808≤d∧d≤9223372036854775807)) (K (.tup [S (ofQ n d).1,I (ofQ n d).2])) | _=>False
theorem k22:aD Tryz.prog c22:=by
 refine kQ {} Tryz.func11 Tryz.ntmps11 (kc k61 (kc k52 kn)) fun _ _ h=>?_
 split at h
 case h_2=>exact h.elim
 rename_i n d
 refine kb h.go ?_
 replace h:=h.ok
 obtain ⟨hn,hd⟩:=h
 unfold ofQ
 by_cases h0:d=0
 ·rw[if_pos h0]
  (repeat refine ZR ?_)
  (conv=>whnf)
  (repeat' first|exact trivial|rfl|apply And.intro)
 ·rw[if_neg h0]
  by_cases h1:d=1
  ·subst h1
   rw[div_one]
   (repeat refine ZR ?_)
   (conv=>whnf)
   (repeat' first|exact trivial|rfl|apply And.intro)
  ·have k1:=aZ (bM (n:=n) (by omega))
   have k2:=aZ (bM (n:=d) (by omega))
   have k3:valI (itoa d)≠0:=by rw[aV];exact h0
   rw[← lY]
   (repeat refine ZR ?_)
   (conv=>whnf)
   (repeat' first|exact trivial|rfl|apply And.intro)
noncomputable def flQ (a:List UInt8):List UInt8 × Int:=if chkQ a=0 then (itoa ((valQ a).num/(valQ a).den),0) else ([],chkQ a)
noncomputable def cmpf (p q:Rat):Int × Int:=if lim (p.num*q.den) || lim (q.num*p.den) then (0,4) else (cmpI (p.num*q.den) (q.num*p.den),0)
noncomputable def cmpQ (a b:List UInt8):Int × Int:=if chkQ a≠0 then (0,chkQ a) else if chkQ b≠0 then (0,chkQ b) else cmpf (valQ a) (valQ b)
def c77r:Con:=aI 53 true fun args K=>match args with
 | [.str a,.str b]=>Need (chkI a=0∧chkI b=0) (K (.tup [I (cmpI (valI a) (valI b)),I 0]))
 | _=>False
theorem k77r:aD Tryz.prog c77r:=by
 refine kO Tryz.func53 fun args K h=>?_
 simp only[c77r] at h;split at h
 ·rename_i a b
  obtain ⟨⟨ha,hb⟩,h⟩:=h
  have ht:=triB Tryz.func53 Tryz.ntmps53 (by simp[k94,k95,k98,k97,k76]) (b77 a b)
  unfold Qo chk2 at ht
  rw[ha,hb,if_neg (by simp)] at ht
  exact ⟨_,h,ht⟩
 ·exact h.elim
def c38:Con:=aI 12 true fun args K=>match args with | [.str a,.str b]=>K (.tup [I (cmpQ a b).1,I (cmpQ a b).2]) | _=>False
theorem k38:aD Tryz.prog c38:=by
 refine kQ {} Tryz.func12 Tryz.ntmps12 (kc k68 (kc k46 (kc k76 (kc k51 (kc k77r kn))))) fun _ _ h=>?_
 split at h
 case h_2=>exact h.elim
 rename_i a b
 refine kb h ?_
 unfold cmpQ
 by_cases hv:nv2 a b
 ·obtain ⟨na,nb⟩:=hv
  have ha:bS a:=⟨(cZ na).1,(cZ na).2.2.2⟩
  have hb:bS b:=⟨(cZ nb).1,(cZ nb).2.2.2⟩
  obtain ⟨p1,p2,p3⟩:=bL ha
  obtain ⟨q1,q2,q3⟩:=bL hb
  have m1:=mul8 p1 q2
  have m2:=mul8 q1 p2
  have e:cmpf (valQ a) (valQ b)=(cmpI ((valQ a).num*(valQ b).den) ((valQ b).num*(valQ a).den),0):=by
   unfold cmpf
   rw[bM (n:=(valQ a).num*(valQ b).den) (by omega),bM (n:=(valQ b).num*(valQ a).den) (by omega)]
   rfl
  rw[if_neg (by rw[jR ha];simp),if_neg (by rw[jR hb];simp),e]
  (repeat' first|refine ZR ?_|refine Zg fun _=>?_)
  (conv=>whnf)
  (repeat' first|exact trivial|rfl|apply And.intro)
 ·by_cases hca:chkQ a=0
  ·by_cases hcb:chkQ b=0
   ·rw[if_neg (by simpa using hca),if_neg (by simpa using hcb)]
    obtain ⟨r1,r2,r3⟩:=iM (dL hca)
    obtain ⟨s1,s2,s3⟩:=iM (dL hcb)
    have v1:=iB (valQ a)
    have v2:=iC (valQ a)
    have v3:=iB (valQ b)
    have v4:=iC (valQ b)
    by_cases hk:fH (pn (valQ a)) (pd (valQ a)) (pn (valQ b)) (pd (valQ b))
    ·have e:cmpf (valQ a) (valQ b)=(cmpI (valI (itoa (valI (pn (valQ a))*valI (pd (valQ b))))) (valI (itoa (valI (pn (valQ b))*valI (pd (valQ a))))),0):=by
      have hk2:=hk
      unfold fH at hk2
      simp only[iB,iC,aV] at hk2 ⊢
      unfold cmpf
      rw[hk2.1,hk2.2]
      rfl
     rw[e]
     have k1:=aZ hk.1
     have k2:=aZ hk.2
     by_cases na:nvOK a
     ·have nb:¬nvOK b:=fun e=>hv ⟨na,e⟩
      (repeat'((conv=>whnf);first|refine Zg fun _=>?_|refine Zy ?_|refine Zm ?_|fail))
      refine Need.mk ⟨⟨r1,r2⟩,s1,s2⟩ ?_
      (repeat'((conv=>whnf);first|refine Zy ?_|refine Zm ?_|fail))
      refine Need.mk ⟨k1,k2⟩ ?_
      (conv=>whnf)
      (repeat' first|exact trivial|rfl|apply And.intro)
     ·(repeat'((conv=>whnf);first|refine Zg fun _=>?_|refine Zy ?_|refine Zm ?_|fail))
      refine Need.mk ⟨⟨r1,r2⟩,s1,s2⟩ ?_
      (repeat'((conv=>whnf);first|refine Zy ?_|refine Zm ?_|fail))
      refine Need.mk ⟨k1,k2⟩ ?_
      (conv=>whnf)
      (repeat' first|exact trivial|rfl|apply And.intro)
    ·have e:cmpf (valQ a) (valQ b)=(0,4):=by
      unfold fH at hk
      simp only[iB,iC] at hk
      unfold cmpf
      rw[if_pos]
      apply Classical.byContradiction
      intro hn
      apply hk
      simp only[Bool.or_eq_true,not_or,Bool.not_eq_true] at hn
      exact hn
     rw[e]
     by_cases na:nvOK a
     ·have nb:¬nvOK b:=fun e=>hv ⟨na,e⟩
      (repeat'((conv=>whnf);first|refine Zg fun _=>?_|refine Zy ?_|refine Zm ?_|fail))
      refine Need.mk ⟨⟨r1,r2⟩,s1,s2⟩ ?_
      (repeat refine ZR ?_)
      (conv=>whnf)
      (repeat' first|exact trivial|rfl|apply And.intro)
     ·(repeat'((conv=>whnf);first|refine Zg fun _=>?_|refine Zy ?_|refine Zm ?_|fail))
      refine Need.mk ⟨⟨r1,r2⟩,s1,s2⟩ ?_
      (repeat refine ZR ?_)
      (conv=>whnf)
      (repeat' first|exact trivial|rfl|apply And.intro)
   ·rw[if_neg (by simpa using hca),if_pos hcb]
    by_cases na:nvOK a
    ·by_cases nb:nvOK b
     ·exact absurd ⟨na,nb⟩ hv
     ·(repeat' first|refine ZR ?_|refine Zg fun _=>?_)
      (conv=>whnf)
      (repeat' first|exact trivial|rfl|apply And.intro)
    ·(repeat' first|refine ZR ?_|refine Zg fun _=>?_)
     (conv=>whnf)
     (repeat' first|exact trivial|rfl|apply And.intro)
  ·rw[if_pos hca]
   by_cases na:nvOK a
   ·exact absurd (jR ⟨(cZ na).1,(cZ na).2.2.2⟩) hca
   ·(repeat refine ZR ?_)
    (conv=>whnf)
    (repeat' first|exact trivial|rfl|apply And.intro)
abbrev B6:Nat:=1000000
theorem get6 {l:List Int} (h:InB B6 l) (i:Nat):0≤l.getD i 0∧l.getD i 0<1000000:=h.getD0 (by decide) i
theorem v6 (m:Nat):valB B6 (aA B6 m)=m:=cJ (by decide) m
def c141:Con:=aI 256 false fun args K=>match args with | [.seq (.int .i64) xs]=>K (Ls (bU xs)) | _=>False
theorem k141:aD Tryz.prog c141:=by
 refine kQ { asks:=[(0,[])] } Tryz.func256 Tryz.ntmps256 kn fun _ _ h=>?_
 split at h
 case h_2=>exact h.elim
 rename_i xs
 refine kb h ?_
 (repeat'((conv=>whnf);first|refine Zg fun _=>?_|fail))
 refine Ask.mk ⟨{ X:=Nat,pre:=fun i=>i≤xs.length∧bU (xs.take i)=bU xs,mod:=fun i _=>[(3,I i)],heap:=fun i _=>[V []],mu:=fun i=>i },rfl,?_⟩
 (repeat refine ZG ?_)
 refine ⟨⟨xs.length,⟨Nat.le_refl _,by rw[List.take_length]⟩,?_⟩,fun (i:Nat) hi=>?_⟩
 ·(repeat' first|exact trivial|rfl|apply And.intro)
 ·obtain ⟨hi1,hi2⟩:=hi
  (apply Br.mk<;>intro)
  ·rename_i h1
   have h0:0<i:=by omega
   obtain ⟨k,rfl⟩:∃k,i=k+1:=⟨i-1,by omega⟩
   (repeat refine ZG ?_)
   refine cG k (by omega) ?_
   (repeat'((conv=>whnf);first|refine Zg fun _=>?_|fail))
   (apply Br.mk<;>intro)
   ·rename_i hz
    (repeat refine ZG ?_)
    refine ⟨(k:Nat),by show k<k+1;omega,⟨by omega,?_⟩,?_⟩
    ·rw[← hi2,lW _ _ (by omega),hz,dJ]
    ·(repeat' first|exact trivial|rfl|apply And.intro|omega)
   ·rename_i hz
    (repeat refine ZG ?_)
    (conv=>whnf)
    rw[← hi2,lW _ _ (by omega)]
    exact (jL _ _ hz).symm
  ·have:i=0:=by omega
   subst this
   (repeat refine ZG ?_)
   (conv=>whnf)
   rw[← hi2];rfl
theorem b143 (l:List Int) (i:Int) (h:0≤i):body Tryz.prog [] {} true Tryz.f258 [Ls l,I i] (I (l.getD i.toNat 0)):=by
 (repeat'((conv=>whnf);first|refine Zg fun _=>?_|fail))
 (apply Br.mk<;>intro)
 ·(repeat refine ZG ?_)
  refine cG i.toNat (by omega) ?_
  (repeat'((conv=>whnf);first|refine Zg fun _=>?_|fail))
  (conv=>whnf)
  (repeat' first|rfl|apply And.intro)
 ·rename_i h1
  have:l.getD i.toNat 0=0:=dT _ _ (by omega)
  (conv=>whnf)
  rw[this]
  (repeat' first|rfl|apply And.intro)
def c143:Con:=aI 258 true fun args K=>match args with | [.seq (.int .i64) l,.val (.int .i64 i)]=>Need (0≤i) (Ix i fun j=>K (I (l.getD j 0))) | _=>False
theorem k143:aD Tryz.prog c143:=by
 refine kO Tryz.func258 fun args K h=>?_
 simp only[c143] at h;split at h
 ·rename_i l i
  exact ⟨_,h.go.use h.ok,triB Tryz.func258 Tryz.ntmps258 (by simp) (b143 l i h.ok)⟩
 ·exact h.elim
theorem b144 (a b:List Int) (h:InB B6 a∧InB B6 b∧valB B6 b≤valB B6 a∧b.length≤a.length∧a.length≤100000):body Tryz.prog [c143,c141] { asks:=[(0,[1])] } false Tryz.f259 [Ls a,Ls b] (Ls (aA B6 (valB B6 a-valB B6 b).toNat)):=by
 obtain ⟨ha,hb,hle,hlb,hla⟩:=h
 (conv=>whnf)
 refine Ask.mk ⟨{ X:=Nat,pre:=fun i=>i≤a.length,mod:=fun i _=>[(5,.ref 1 1),(6,I (subK B6 a b i).2),(7,I i)],heap:=fun i _=>[V [],V (subK B6 a b i).1],mu:=fun i=>a.length-i,objs:=[1] },rfl,?_⟩
 (repeat refine ZG ?_)
 refine ⟨⟨(0:Nat),Nat.zero_le _,by (repeat' first|exact trivial|rfl|exact Nat.one_pos|apply And.intro)⟩,fun (i:Nat) (hi:i≤a.length)=>?_⟩
 obtain ⟨g1,g2,g3,_⟩:=pT (B:=B6) (by decide) ha hb i
 have ga:=get6 ha i
 have gb:=get6 hb i
 (repeat'((conv=>whnf);first|refine Zg fun _=>?_|fail))
 (apply Br.mk<;>intro)
 ·have hlt:i<a.length:=by omega
  (repeat'((conv=>whnf);first|refine Zg fun _=>?_|refine Zn ?_|refine Zj ?_|(apply Pin.mk;apply Exists.intro)|apply Pinned.mk rfl rfl|fail))
  (apply Br.mk<;>intro)
  ·rename_i hneg
   have s1:(subK B6 a b (i+1)).1=(subK B6 a b i).1++ [a.getD i 0-b.getD i 0-(subK B6 a b i).2+1000000]:=by
    simp only[subK];rw[if_neg (by omega)];rfl
   have s2:(subK B6 a b (i+1)).2=1:=by
    simp only[subK];rw[if_neg (by omega)]
   (repeat refine ZG ?_)
   refine ⟨(i+1:Nat),by show a.length-(i+1)<a.length-i;omega,hlt,?_⟩
   (repeat' first|exact trivial|rfl|exact Nat.one_pos|apply And.intro|omega)
   exact s1.symm
  ·rename_i hneg
   have s1:(subK B6 a b (i+1)).1=(subK B6 a b i).1++ [a.getD i 0-b.getD i 0-(subK B6 a b i).2]:=by
    simp only[subK];rw[if_pos (by omega)]
   have s2:(subK B6 a b (i+1)).2=0:=by
    simp only[subK];rw[if_pos (by omega)]
   (repeat refine ZG ?_)
   refine ⟨(i+1:Nat),by show a.length-(i+1)<a.length-i;omega,hlt,?_⟩
   (repeat' first|exact trivial|rfl|exact Nat.one_pos|apply And.intro|omega)
   exact s1.symm
 ·have e:i=a.length:=by omega
  subst e
  have hs:=(Jn (B:=B6) (by decide) ha hb (n:=a.length) (by omega) (by omega) hle).1
  (conv=>whnf)
  exact hs
theorem b142 (a:List Int) (d:Int) (h:InB B6 a∧(0<d∧d<1000000)∧a.length≤100000):body Tryz.prog [c141] { asks:=[(0,[])] } false Tryz.f257 [Ls a,I d] (.tup [Ls (aA B6 (valB B6 a/d).toNat),Ls (aA B6 (valB B6 a%d).toNat)]):=by
 obtain ⟨ha,hd,hla⟩:=h
 obtain ⟨q1,q2,q3⟩:=Jq (B:=B6) (by decide) hd.1 hd.2 ha
 (repeat' first|refine ZG ?_|refine Zg fun _=>?_)
 refine Ask.mk ⟨{ X:=Nat,pre:=fun m=>m≤a.length,mod:=fun m _=>[(7,I (divK B6 d a m).2),(8,I ((a.length:Int)-1-m))],heap:=fun m _=>[V [],V [],V (divK B6 d a m).1],mu:=fun m=>a.length-m },rfl,?_⟩
 (repeat refine ZG ?_)
 refine ⟨⟨(0:Nat),Nat.zero_le _,?_⟩,fun (m:Nat) (hm:m≤a.length)=>?_⟩
 ·(repeat' first|exact trivial|rfl|apply And.intro|omega)
 obtain ⟨g1,g2,g3,_⟩:=jO (B:=B6) (by decide) hd.1 ha m hm
 have ga:=get6 ha (a.length-1-m)
 (apply Br.mk<;>intro)
 ·have hlt:m<a.length:=by omega
  (repeat refine ZG ?_)
  refine cG (a.length-1-m) (by omega) ?_
  (repeat' first|refine ZG ?_|refine Zg fun _=>?_)
  refine cG (a.length-1-m) (by omega) ?_
  (repeat refine ZG ?_)
  refine ⟨(m+1:Nat),by show a.length-(m+1)<a.length-m;omega,hlt,?_⟩
  (repeat' first|exact trivial|rfl|apply And.intro|omega)
  all_goals (rw[Int.add_comm];rfl)
 ·have e:m=a.length:=by omega
  subst e
  (repeat refine ZG ?_)
  (conv=>whnf)
  (repeat' first|exact trivial|apply And.intro)
  ·exact q1
  ·exact q3
theorem Ng {B:Nat} (hB:2≤B) {x:Int} (hx:0≤x∧x<B) {b:List Int} (hb:InB B b) {i:Nat} {out:List Int} (ho:InB B out) (hl:i+b.length+1≤out.length) (hz:out.getD (i+b.length) 0=0) (hc:(mulK B x b i out b.length).2=0):(mulK B x b i out (b.length+1)).1=(mulK B x b i out b.length).1:=by
 obtain ⟨h1,h2,h3,h4,h5,h6⟩:=hU hB hx hb (i:=i) ho b.length (by omega)
 simp only[mulK]
 rw[hc,h5 _ (Nat.le_refl _),hz,dT b b.length (Nat.le_refl _),Int.mul_zero,Int.add_zero,Int.add_zero,Int.zero_emod]
 refine hZ (by simp) fun j hj=>?_
 rw[List.length_set] at hj
 rw[eM _ _ _ (by omega)]
 by_cases e:j=i+b.length
 ·rw[if_pos e,e,h5 _ (Nat.le_refl _),hz]
 ·rw[if_neg e]
theorem b145 (a b:List Int) (h:InB B6 a∧InB B6 b∧a.length≤100000∧b.length≤100000):body Tryz.prog [c143,c141] { asks:=[(0,[]),(2,[])] } false Tryz.f260 [Ls a,Ls b] (Ls (aA B6 (valB B6 a*valB B6 b).toNat)):=by
 obtain ⟨ha,hb,hla,hlb⟩:=h
 obtain ⟨n,hn⟩:∃n,n=a.length+b.length+1:=⟨_,rfl⟩
 (repeat' first|refine ZG ?_|refine Zg fun _=>?_)
 refine Ask.mk ⟨{ X:=Nat,pre:=fun i=>i≤a.length,mod:=fun i _=>[(6,I i)],heap:=fun i _=>[V [],V (mulR B6 a b (List.replicate n 0) i)],mu:=fun i=>a.length-i },rfl,?_⟩
 (repeat refine ZG ?_)
 refine ⟨⟨(0:Nat),Nat.zero_le _,?_⟩,fun (i:Nat) (hi:i≤a.length)=>?_⟩
 ·(repeat' first|exact trivial|rfl|apply And.intro)
  show List.replicate _ _=List.replicate _ _
  congr 1;omega
 obtain ⟨g1,g2,g3,g4⟩:=pU (B:=B6) (by decide) ha hb (n:=n) (by omega) i hi
 have ga:=get6 ha i
 (repeat'((conv=>whnf);first|refine Zg fun _=>?_|fail))
 (apply Br.mk<;>intro)
 ·have hlt:i<a.length:=by omega
  have hz:=g4 (i+b.length) (Nat.le_refl _)
  have hx:0≤a.getD i 0∧a.getD i 0<(B6:Int):=ga
  refine Ask.mk ⟨{ X:=Nat,pre:=fun k=>k≤b.length+1,mod:=fun k _=>[(8,I k),(7,I (mulK B6 (a.getD i 0) b i (mulR B6 a b (List.replicate n 0) i) k).2)],heap:=fun k _=>[V [],V (mulK B6 (a.getD i 0) b i (mulR B6 a b (List.replicate n 0) i) k).1],mu:=fun k=>b.length+1-k },rfl,?_⟩
  (repeat refine ZG ?_)
  refine ⟨⟨(0:Nat),Nat.zero_le _,by (repeat' first|exact trivial|rfl|apply And.intro)⟩,fun (k:Nat) (hk:k≤b.length+1)=>?_⟩
  obtain ⟨m1,m2,m3,_⟩:=hU (B:=B6) (by decide) (x:=a.getD i 0) hx hb (i:=i) g2 k (by omega)
  have m3:0≤(mulK B6 (a.getD i 0) b i (mulR B6 a b (List.replicate n 0) i) k).2∧(mulK B6 (a.getD i 0) b i (mulR B6 a b (List.replicate n 0) i) k).2<1000000:=m3
  have hrow:=(Jo (B:=B6) (by decide) (x:=a.getD i 0) hx hb (i:=i) g2 (by omega) hz).1
  have gb:=get6 hb k
  have gm:=get6 m2 (i+k)
  have hm:0≤a.getD i 0*b.getD k 0∧a.getD i 0*b.getD k 0≤999999*999999:=⟨Int.mul_nonneg ga.1 gb.1,Int.mul_le_mul (by omega) (by omega) gb.1 (by omega)⟩
  by_cases hg:k<b.length∨(mulK B6 (a.getD i 0) b i (mulR B6 a b (List.replicate n 0) i) k).2>0
  ·have hlt2:k<b.length+1:=by
    rcases hg with hg | hg
    ·omega
    ·by_cases e:k=b.length+1
     ·rw[e,hrow] at hg;omega
     ·omega
   (repeat'((conv=>whnf);first|refine Zg fun _=>?_|refine Za ?_|refine Zn ?_|refine Zj ?_|(apply Pin.mk;apply Exists.intro)|apply Pinned.mk rfl rfl|refine Zy ?_|refine Zr (fun _=>?_) fun _=>?_|fail))
   all_goals first | (exfalso;omega) | skip
   all_goals (skip;refine ⟨(k+1:Nat),by show b.length+1-(k+1)<b.length+1-k;omega,hlt2,?_⟩;(repeat' first|exact trivial|rfl|apply And.intro))
  ·have hc:(mulK B6 (a.getD i 0) b i (mulR B6 a b (List.replicate n 0) i) k).2=0:=by omega
   have hfin:(mulK B6 (a.getD i 0) b i (mulR B6 a b (List.replicate n 0) i) k).1=mulR B6 a b (List.replicate n 0) (i+1):=by
    by_cases e:k=b.length
    ·subst e
     exact (Ng (B:=B6) (by decide) hx hb g2 (by omega) hz hc).symm
    ·have e:k=b.length+1:=by omega
     subst e;rfl
   (repeat'((conv=>whnf);first|refine Zg fun _=>?_|refine Zn ?_|refine Zm ?_|fail))
   all_goals first | (exfalso;omega) | skip
   all_goals (skip;refine ⟨(i+1:Nat),by show a.length-(i+1)<a.length-i;omega,hlt,?_⟩;(repeat' first|exact trivial|rfl|apply And.intro);exact hfin)
 ·have e:i=a.length:=by omega
  subst e
  (conv=>whnf)
  exact Jp (B:=B6) (by decide) ha hb (by omega)
def c144:Con:=aI 259 false fun args K=>match args with | [.seq (.int .i64) a,.seq (.int .i64) b]=>Need (InB B6 a∧InB B6 b∧valB B6 b≤valB B6 a∧b.length≤a.length∧a.length≤100000) (K (Ls (aA B6 (valB B6 a-valB B6 b).toNat))) | _=>False
theorem k144:aD Tryz.prog c144:=by
 refine kO Tryz.func259 fun args K h=>?_
 simp only[c144] at h;split at h
 ·rename_i a b;exact ⟨_,h.go,triB Tryz.func259 Tryz.ntmps259 (by simp[k143,k141]) (b144 a b h.ok)⟩
 ·exact h.elim
def c142:Con:=aI 257 false fun args K=>match args with | [.seq (.int .i64) a,.val (.int .i64 d)]=>Need (InB B6 a∧(0<d∧d<1000000)∧a.length≤100000) (K (.tup [Ls (aA B6 (valB B6 a/d).toNat),Ls (aA B6 (valB B6 a%d).toNat)])) | _=>False
theorem k142:aD Tryz.prog c142:=by
 refine kO Tryz.func257 fun args K h=>?_
 simp only[c142] at h;split at h
 ·rename_i a d;exact ⟨_,h.go,triB Tryz.func257 Tryz.ntmps257 (by simp[k141]) (b142 a d h.ok)⟩
 ·exact h.elim
def c145:Con:=aI 260 false fun args K=>match args with | [.seq (.int .i64) a,.seq (.int .i64) b]=>Need (InB B6 a∧InB B6 b∧a.length≤100000∧b.length≤100000) (K (Ls (aA B6 (valB B6 a*valB B6 b).toNat))) | _=>False
theorem k145:aD Tryz.prog c145:=by
 refine kO Tryz.func260 fun args K h=>?_
 simp only[c145] at h;split at h
 ·rename_i a b;exact ⟨_,h.go,triB Tryz.func260 Tryz.ntmps260 (by simp[k143,k141]) (b145 a b h.ok)⟩
 ·exact h.elim
def sgnI (x:Int):Int:=if x<0 then -1 else if x=0 then 0 else 1
def c146:Con:=aI 261 true fun args K=>match args with | [.seq (.int .i64) a,.seq (.int .i64) b]=>Need (InB B6 a∧InB B6 b) (K (I (sgnI (cmpL a b)))) | _=>False
theorem k146:aD Tryz.prog c146:=by
 refine kQ { asks:=[(0,[])] } Tryz.func261 Tryz.ntmps261 kn fun _ _ h=>?_
 split at h
 case h_2=>exact h.elim
 rename_i a b
 refine kb h.go ?_
 replace h:=h.ok
 obtain ⟨ha,hb⟩:=h
 (repeat'((conv=>whnf);first|refine Zg fun _=>?_|fail))
 (apply Br.mk<;>intro)
 ·rename_i h1
  have hc:cmpL a b=(a.length:Int)-b.length:=by unfold cmpL;rw[if_neg (by omega)]
  rw[hc]
  (repeat'((conv=>whnf);first|refine Zg fun _=>?_|fail))
  (apply Br.mk<;>intro)
  ·rename_i h2
   (conv=>whnf)
   (repeat' first|rfl|apply And.intro)
   unfold sgnI;rw[if_pos (by omega)]
  ·rename_i h2
   (conv=>whnf)
   (repeat' first|rfl|apply And.intro)
   unfold sgnI;rw[if_neg (by omega),if_neg (by omega)]
 ·rename_i h1
  have hl:a.length=b.length:=by omega
  have hc:cmpL a b=eN a b a.length:=by unfold cmpL;rw[if_pos hl]
  rw[hc]
  (repeat' first|refine ZG ?_|refine Zg fun _=>?_)
  refine Ask.mk ⟨{ X:=Nat,pre:=fun m=>m≤a.length∧eN a b a.length=eN a b (a.length-m),mod:=fun m _=>[(5,I ((a.length:Int)-1-m))],heap:=fun _ _=>[],mu:=fun m=>a.length-m },rfl,?_⟩
  (repeat refine ZG ?_)
  refine ⟨⟨(0:Nat),⟨Nat.zero_le _,rfl⟩,by (repeat' first|exact trivial|rfl|apply And.intro|omega)⟩,fun (i:Nat) hi=>?_⟩
  obtain ⟨hi1,hi2⟩:=hi
  (apply Br.mk<;>intro)
  ·have hlt:i<a.length:=by omega
   obtain ⟨m,hm⟩:∃m,a.length-i=m+1:=⟨a.length-i-1,by omega⟩
   have e2:a.length-(i+1)=m:=by omega
   have ga:=get6 ha m
   have gb:=get6 hb m
   rw[hm,eN] at hi2
   (repeat'((conv=>whnf);first|refine Zn ?_|(apply Pin.mk;apply Exists.intro)|apply Pinned.mk rfl rfl|fail))
   refine cG m (by omega) ?_
   (repeat'((conv=>whnf);first|refine Zg fun _=>?_|refine Zn ?_|(apply Pin.mk;apply Exists.intro)|apply Pinned.mk rfl rfl|fail))
   refine cG m (by omega) ?_
   (repeat'((conv=>whnf);first|refine Zg fun _=>?_|(apply Pin.mk;apply Exists.intro)|apply Pinned.mk rfl rfl|fail))
   (apply Br.mk<;>intro)
   ·rename_i h2
    rw[if_neg (by omega)] at hi2
    (conv=>whnf)
    (repeat' first|rfl|apply And.intro)
    unfold sgnI;rw[hi2,if_pos (by omega)]
   ·rename_i h2
    (repeat'((conv=>whnf);first|refine Zn ?_|(apply Pin.mk;apply Exists.intro)|apply Pinned.mk rfl rfl|fail))
    refine cG m (by omega) ?_
    (repeat'((conv=>whnf);first|refine Zg fun _=>?_|refine Zn ?_|(apply Pin.mk;apply Exists.intro)|apply Pinned.mk rfl rfl|fail))
    refine cG m (by omega) ?_
    (repeat'((conv=>whnf);first|refine Zg fun _=>?_|(apply Pin.mk;apply Exists.intro)|apply Pinned.mk rfl rfl|fail))
    (apply Br.mk<;>intro)
    ·rename_i h3
     rw[if_neg (by omega)] at hi2
     (conv=>whnf)
     (repeat' first|rfl|apply And.intro)
     unfold sgnI;rw[hi2,if_neg (by omega),if_neg (by omega)]
    ·rename_i h3
     rw[if_pos (by omega)] at hi2
     (repeat refine ZG ?_)
     refine ⟨(i+1:Nat),by show a.length-(i+1)<a.length-i;omega,⟨hlt,by rw[e2];exact hi2⟩,?_⟩
     (repeat' first|exact trivial|rfl|apply And.intro|omega)
  ·have e:i=a.length:=by omega
   subst e
   rw[Nat.sub_self] at hi2
   (conv=>whnf)
   (repeat' first|rfl|apply And.intro)
   unfold sgnI
   rw[hi2];rfl
end RB
end
section
namespace IB
theorem Vq {B:Nat} (hB:2≤B) {l:List Int} (h:InB B l) (j:Nat):((l.getD (j+2) 0*B+l.getD (j+1) 0)*B+l.getD j 0)*(B:Int)^j≤valB B l:=by
 by_cases hj:j<l.length
 ·have e0:=dY (B:=B) l j (by omega)
  have b0:=aX (jF h j)
  have hP:=dF hB j
  rw[bB l j hj] at e0
  simp only[valB] at e0
  have h1:l.getD (j+2) 0*B+l.getD (j+1) 0≤valB B (l.drop (j+1)):=by
   by_cases h1:j+1<l.length
   ·rw[bB l (j+1) h1]
    simp only[valB]
    have h2:l.getD (j+2) 0≤valB B (l.drop (j+1+1)):=by
     by_cases h2:j+2<l.length
     ·rw[bB l (j+1+1) h2]
      simp only[valB]
      have:=aX (fK h (j+1+1+1))
      have h3:(0:Int)≤(B:Int)*valB B (l.drop (j+1+1+1)):=Int.mul_nonneg (by omega) this
      show l.getD (j+1+1) 0≤ _
      omega
     ·rw[dT l (j+2) (by omega)]
      exact aX (fK h _)
    have h3:(B:Int)*l.getD (j+2) 0≤B*valB B (l.drop (j+1+1)):=Int.mul_le_mul_of_nonneg_left h2 (by omega)
    rw[Int.mul_comm (l.getD (j+2) 0)]
    omega
   ·rw[dT l (j+2) (by omega),dT l (j+1) (by omega),Int.zero_mul,Int.zero_add]
    exact aX (fK h _)
  have h2:(l.getD (j+2) 0*B+l.getD (j+1) 0)*B≤valB B (l.drop (j+1))*B:=Int.mul_le_mul_of_nonneg_right h1 (by omega)
  rw[Int.mul_comm (valB B (l.drop (j+1)))] at h2
  have h3:((l.getD (j+2) 0*B+l.getD (j+1) 0)*B+l.getD j 0)*(B:Int)^j≤(l.getD j 0+B*valB B (l.drop (j+1)))*(B:Int)^j:=Int.mul_le_mul_of_nonneg_right (by omega) (Int.le_of_lt hP)
  rw[Int.mul_comm (l.getD j 0+B*valB B (l.drop (j+1)))] at h3
  omega
 ·rw[dT l (j+2) (by omega),dT l (j+1) (by omega),dT l j (by omega)]
  simp only[Int.zero_mul,Int.add_zero]
  exact aX h
theorem aC8 {B:Nat} (hB:2≤B) {b:List Int} (h:InB B b) (hk:2≤b.length):valB B b≤(b.getD (b.length-1) 0*B+b.getD (b.length-2) 0+1)*(B:Int)^ (b.length-2):=by
 have e0:=dY (B:=B) b (b.length-2) (by omega)
 have b0:=eK hB (jF h (b.length-2)) (n:=b.length-2) (by rw[List.length_take];omega)
 rw[bB b (b.length-2) (by omega),show b.length-2+1=b.length-1 by omega,bB b (b.length-1) (by omega),List.drop_eq_nil_of_le (by omega)] at e0
 simp only[valB,Int.mul_zero,Int.add_zero] at e0
 rw[e0,show (b.getD (b.length-1) 0*(B:Int)+b.getD (b.length-2) 0+1)*(B:Int)^ (b.length-2)=(B:Int)^ (b.length-2)*(b.getD (b.length-2) 0+B*b.getD (b.length-1) 0)+(B:Int)^ (b.length-2) by
  rw[Int.add_mul _ 1,Int.one_mul,Int.mul_comm _ ((B:Int)^ (b.length-2)),Int.add_comm _ (b.getD (b.length-2) 0),Int.mul_comm _ (B:Int)]]
 omega
theorem Se {B:Nat} (hB:2≤B) {b:List Int} (hb:InB B b) (hk:2≤b.length) {n R:Nat} (hn:0<n) (hv:valB B b=n) (hR:R<n*B) (t3:Int)
  (ht:t3=((aA B R).getD b.length 0*B+(aA B R).getD (b.length-1) 0)*B+(aA B R).getD (b.length-2) 0):
  0≤t3/(b.getD (b.length-1) 0*B+b.getD (b.length-2) 0+1)∧t3/(b.getD (b.length-1) 0*B+b.getD (b.length-2) 0+1)<B∧t3/(b.getD (b.length-1) 0*B+b.getD (b.length-2) 0+1)*n≤R:=by
 have hi:=aN hB R
 have h3:=Vq hB hi (b.length-2)
 rw[show b.length-2+2=b.length by omega,show b.length-2+1=b.length-1 by omega,cJ hB,← ht] at h3
 have h2:=aC8 hB hb hk
 rw[hv] at h2
 have g1:=hb.get (show b.length-1<b.length by omega)
 have g2:=hb.get (show b.length-2<b.length by omega)
 have x0:=hi.getD0 (by omega) b.length
 have x1:=hi.getD0 (by omega) (b.length-1)
 have x2:=hi.getD0 (by omega) (b.length-2)
 have top0:0≤b.getD (b.length-1) 0*(B:Int):=Int.mul_nonneg g1.1 (by omega)
 have t0:0≤t3:=by
  rw[ht]
  have:=Int.mul_nonneg x0.1 (show (0:Int)≤B by omega)
  have:=Int.mul_nonneg (show 0≤(aA B R).getD b.length 0*B+(aA B R).getD (b.length-1) 0 by omega) (show (0:Int)≤B by omega)
  omega
 obtain ⟨e1,e2⟩:=aAj (V:=(n:Int)) (R:=(R:Int)) (t3:=t3) (top:=b.getD (b.length-1) 0*B+b.getD (b.length-2) 0) (P:=(B:Int)^ (b.length-2)) (dF hB _) (by omega) h2 (by omega) h3 t0
 refine ⟨e1,?_,(Int.le_ediv_iff_mul_le (by omega)).1 e2⟩
 refine Int.lt_of_le_of_lt e2 (Int.ediv_lt_of_lt_mul (by omega) ?_)
 rw[Int.mul_comm]
 exact_mod_cast hR
end IB
end
section
open Go Go.Proofs Go.Eng Go.Shelf IB Go.Lib Go.RowKit
namespace RB
theorem Al {B:Nat} (hB:2≤B) {a b:List Int} (ha:InB B a) (hb:InB B b) (hl:a.length=b.length):∀m,m≤a.length→(∀j,m≤j→j<a.length→a.getD j 0=b.getD j 0)→
  (eN a b m<0↔valB B a<valB B b)∧(eN a b m=0↔valB B a=valB B b)
 | 0,_,h=>by
  have:a=b:=hZ hl fun j hj=>h j (Nat.zero_le _) hj
  subst this
  simp[eN]
 | m+1,hm,h=>by
  simp only[eN]
  by_cases e:a.getD m 0=b.getD m 0
  ·rw[if_pos e]
   refine Al hB ha hb hl m (by omega) fun j h1 h2=>?_
   by_cases e2:j=m
   ·rw[e2];exact e
   ·exact h j (by omega) h2
  ·rw[if_neg e]
   rcases Int.lt_or_gt_of_ne e with h1 | h1
   ·have:=wG (B:=B) hB ha hb hl (by omega) (fun j h2 h3=>h j (by omega) h3) h1
    omega
   ·have:=wG (B:=B) hB hb ha hl.symm (by omega) (fun j h2 h3=>(h j (by omega) (by omega)).symm) h1
    omega
theorem Am {B:Nat} (hB:2≤B) (m n:Nat):(cmpL (aA B m) (aA B n)<0↔m<n)∧(cmpL (aA B m) (aA B n)=0↔m=n):=by
 unfold cmpL
 split
 ·rename_i hl
  have:=Al hB (aN hB m) (aN hB n) hl _ (Nat.le_refl _) fun j h1 h2=>by omega
  rw[cJ hB,cJ hB] at this
  omega
 ·rename_i hl
  by_cases h:(aA B m).length<(aA B n).length
  ·have:=fX hB h
   omega
  ·have:=fX hB (m:=n) (n:=m) (by omega)
   omega
theorem Sq {n:Nat} (h:(aA B6 n).length=1):(aA B6 n).getD 0 0=n∧n<1000000:=by
 have hv:=v6 n
 have hg:=get6 (show InB B6 (aA B6 n) from aN (by decide) n) 0
 cases hl:aA B6 n with
 | nil=>rw[hl] at h;simp at h
 | cons x r=>
  have hr:r= []:=by rw[hl] at h;simpa using h
  subst hr
  rw[hl] at hv hg
  simp only[valB,Int.mul_zero,Int.add_zero] at hv
  refine ⟨hv,?_⟩
  have hg:0≤x∧x<1000000:=hg
  omega
theorem dH {p q:Nat} (h:p≤q):(aA B6 p).length≤(aA B6 q).length:=Classical.byContradiction fun hx=>by
 have:=fX (B:=B6) (by decide) (m:=q) (n:=p) (by omega)
 omega
def r9 (n:Nat) (a:List Int):Nat→SV
 | 0=>.ref 3 1
 | m+1=>Ls (aA B6 (divK B6 n a (m+1)).2.toNat)
theorem iE {m k:Nat} (h:m<B6^k):(aA B6 m).length≤k:=by
 by_cases h0:m=0
 ·subst h0;rw[aW];exact Nat.zero_le _
 ·have:=(dC (B:=B6) (by decide) (n:=m) (by omega)).1
  have:=(Nat.pow_lt_pow_iff_right (show 1<B6 by decide)).1 (Nat.lt_of_le_of_lt (by exact_mod_cast this) h)
  omega
theorem Yd {p q:Nat} {x:Int} (hc:(x<0↔p<q)∧(x=0↔p=q)) (h:0≤sgnI x):q≤p:=by
 unfold sgnI at h
 split at h<;>omega
theorem Ye {p q:Nat} {x:Int} (hc:(x<0↔p<q)∧(x=0↔p=q)) (h:¬0≤sgnI x):p<q:=by
 unfold sgnI at h
 split at h
 ·omega
 ·split at h<;>omega
theorem Ks {B:Nat} (hB:2≤B) {d:Int} (hd:0<d) {a:List Int} (ha:InB B a):
  bU (divK B d a a.length).1=aA B (valB B a/d).toNat∧(divK B d a a.length).2=valB B a%d:=by
 obtain ⟨h1,h2,h3,h4⟩:=jO hB hd ha a.length (Nat.le_refl _)
 rw[Nat.sub_self,List.drop_zero,List.drop_zero] at h4
 have h5:valB B a/d=valB B (divK B d a a.length).1∧valB B a%d=(divK B d a a.length).2:=by
  rw[Int.ediv_emod_unique hd]
  exact ⟨by rw[Int.add_comm,Int.mul_comm];exact h4,h3.1,h3.2⟩
 exact ⟨by rw[h5.1];exact cA hB h2,h5.2.symm⟩
theorem Dh {n R r g m:Nat} {a:List Int} (hn:0<n) (hR:a.getD (a.length-1-m) 0+(r:Int)*1000000=R) (hr:(divK B6 n a m).2=r) (hg:n*g≤R) (hlt:R-n*g<n):
  (divK B6 n a (m+1)).1=(divK B6 n a m).1.set (a.length-1-m) g∧(divK B6 n a (m+1)).2=((R-n*g:Nat):Int):=by
 have hx:a.getD (a.length-1-m) 0+(divK B6 n a m).2*(B6:Int)=R:=by
  rw[hr,← hR];rfl
 have e1:R/n=g:=by
  refine Nat.div_eq_of_lt_le (by rw[Nat.mul_comm];exact hg) ?_
  rw[Nat.succ_mul,Nat.mul_comm];omega
 have e2:R%n=R-n*g:=by
  have:=Nat.div_add_mod R n
  rw[e1] at this;omega
 simp only[divK]
 rw[hx,← Int.natCast_ediv,← Int.natCast_emod,e1,e2]
 exact ⟨rfl,rfl⟩
theorem b113 (a:List Int) (n:Nat) (h:InB B6 a∧(0<n∧n<B6^100)∧a.length≤1000):body Tryz.prog [c142,c141,c143,c145,c144,c146] { asks:=[(0,[]),(2,[])] } false Tryz.f232 [Ls a,Ls (aA B6 n)] (.tup [Ls (aA B6 (valB B6 a/n).toNat),Ls (aA B6 (valB B6 a%n).toNat)]):=by
 obtain ⟨ha,⟨hn0,hn⟩,hla⟩:=h
 have jn:InB B6 (aA B6 n):=aN (by decide) n
 have vn:=v6 n
 (repeat'((conv=>whnf);first|refine Zg fun _=>?_|fail))
 (apply Br.mk<;>intro)
 ·rename_i h1
  obtain ⟨hx,hxlt⟩:=Sq (n:=n) (by omega)
  (repeat'((conv=>whnf);first|refine Zg fun _=>?_|refine Zn ?_|refine Z0 ?_|fail))
  refine Need.mk ⟨ha,by omega,by omega⟩ ?_
  rw[hx]
  (conv=>whnf)
  (repeat' first|exact trivial|rfl|apply And.intro)
 ·rename_i h1
  have hk:2≤(aA B6 n).length:=by
   have:=(dC (B:=B6) (by decide) hn0).2.2
   omega
  obtain ⟨b,hb⟩:∃b,aA B6 n=b:=⟨_,rfl⟩
  have hbl:b.length≤200:=by
   rw[← hb]
   have:=(dC (B:=B6) (by decide) hn0).1
   have:=(Nat.pow_lt_pow_iff_right (show 1<B6 by decide)).1 (Nat.lt_of_le_of_lt (by exact_mod_cast this) hn)
   omega
  rw[hb] at jn vn hk h1 ⊢
  have gt1:=get6 jn (b.length-1)
  have gt2:=get6 jn (b.length-2)
  (repeat'((conv=>whnf);first|refine Zg fun _=>?_|refine Zn ?_|(apply Pin.mk;apply Exists.intro)|apply Pinned.mk rfl rfl|fail))
  refine cG (b.length-1) (by omega) ?_
  (repeat'((conv=>whnf);first|refine Zg fun _=>?_|refine Zn ?_|(apply Pin.mk;apply Exists.intro)|apply Pinned.mk rfl rfl|fail))
  refine cG (b.length-2) (by omega) ?_
  (repeat'((conv=>whnf);first|refine Zg fun _=>?_|refine Zn ?_|(apply Pin.mk;apply Exists.intro)|apply Pinned.mk rfl rfl|refine Z8 ?_|fail))
  (conv=>whnf)
  refine Ask.mk ⟨{ X:=Nat,pre:=fun m=>m≤a.length,mod:=fun m _=>[(9,r9 n a m),(10,I ((a.length:Int)-1-m))],heap:=fun m _=>[V [],V [],V (divK B6 n a m).1,V []],mu:=fun m=>a.length-m },rfl,?_⟩
  (repeat refine ZN ?_)
  refine ⟨⟨(0:Nat),Nat.zero_le _,?_⟩,fun (m:Nat) (hm:m≤a.length)=>?_⟩
  ·(repeat' first|exact trivial|rfl|apply And.intro|omega)
  have hnI:(0:Int)<n:=by omega
  obtain ⟨g1,g2,g3,_⟩:=jO (B:=B6) (by decide) hnI ha m hm
  have ga:=get6 ha (a.length-1-m)
  obtain ⟨r,hr⟩:∃r:Nat,(divK B6 n a m).2=r:=⟨_,(Int.eq_ofNat_of_zero_le g3.1).choose_spec⟩
  obtain ⟨R,hR⟩:∃R:Nat,a.getD (a.length-1-m) 0+(r:Int)*1000000=R:=⟨_,(Int.eq_ofNat_of_zero_le (by omega)).choose_spec⟩
  have hL:bU (a.getD (a.length-1-m) 0::aA B6 r)=aA B6 R:=by
   rw[cA (B:=B6) (by decide) (InB.cons.2 ⟨ga,aN (by decide) r⟩)]
   congr 1
   show (a.getD (a.length-1-m) 0+(B6:Int)*valB B6 (aA B6 r)).toNat=R
   rw[v6,Int.mul_comm]
   show (a.getD (a.length-1-m) 0+(r:Int)*1000000).toNat=R
   omega
  have hRn:R<n*B6:=by
   have:(r:Int)<n:=by omega
   show R<n*1000000
   omega
  have lR:(aA B6 R).length≤101:=iE (Nat.lt_of_lt_of_le hRn (by rw[Nat.pow_succ];exact Nat.mul_le_mul_right _ (Nat.le_of_lt hn)))
  have rb:=Se (B:=B6) (by decide) jn hk hn0 vn hRn _ rfl
  have x0:=get6 (show InB B6 (aA B6 R) from aN (by decide) R) b.length
  have x1:=get6 (show InB B6 (aA B6 R) from aN (by decide) R) (b.length-1)
  have x2:=get6 (show InB B6 (aA B6 R) from aN (by decide) R) (b.length-2)
  obtain ⟨G,hG⟩:∃G:Nat,(((aA B6 R).getD b.length 0*1000000+(aA B6 R).getD (b.length-1) 0)*1000000+(aA B6 R).getD (b.length-2) 0)/(b.getD (b.length-1) 0*1000000+b.getD (b.length-2) 0+1)=G:=⟨_,(Int.eq_ofNat_of_zero_le rb.1).choose_spec⟩
  have G1:G<1000000:=by
   have:(((aA B6 R).getD b.length 0*1000000+(aA B6 R).getD (b.length-1) 0)*1000000+(aA B6 R).getD (b.length-2) 0)/(b.getD (b.length-1) 0*1000000+b.getD (b.length-2) 0+1)<1000000:=rb.2.1
   omega
  have G2:n*G≤R:=by
   have h3:(((aA B6 R).getD b.length 0*1000000+(aA B6 R).getD (b.length-1) 0)*1000000+(aA B6 R).getD (b.length-2) 0)/(b.getD (b.length-1) 0*1000000+b.getD (b.length-2) 0+1)*(n:Int)≤R:=rb.2.2
   rw[hG,Int.mul_comm] at h3
   exact_mod_cast h3
  have iG:InB B6 [(G:Int)]:=fun x hx=>by
   have:x=G:=by simpa using hx
   subst this
   exact ⟨by omega,by show (G:Int)<1000000;omega⟩
  have eG:(valB B6 b*valB B6 [(G:Int)]).toNat=n*G:=by
   rw[vn,show valB B6 [(G:Int)]=G by simp[valB],← Int.natCast_mul,Int.toNat_natCast]
  rcases m with _ | m
  ·have hr0:r=0:=by
    have:(divK B6 n a 0).2=0:=rfl
    omega
   rw[hr0,aW] at hL
   (apply Br.mk<;>intro)
   ·have hlt:0<a.length:=by omega
    (repeat refine ZN ?_)
    refine cG (a.length-1) (by omega) ?_
    (repeat'((conv=>whnf);first|refine Zg fun _=>?_|fail))
    (conv=>whnf)
    refine Own.r ?_
    (repeat refine ZN ?_)
    (conv=>whnf)
    rw[show bU ([a.getD (a.length-1) 0]++ [])=aA B6 R from hL]
    (repeat refine ZN ?_)
    refine cG (b.length-1) (by omega) ?_
    (repeat refine ZN ?_)
    refine cG (b.length-2) (by omega) ?_
    (repeat refine ZN ?_)
    rw[hG]
    (repeat refine ZG ?_)
    (conv=>whnf)
    refine Need.mk ⟨jn,iG,by omega,by show 1≤100000;omega⟩ ?_
    rw[eG]
    (conv=>whnf)
    have lnG:=dH G2
    refine Need.mk ⟨aN (by decide) _,aN (by decide) _,by rw[v6,v6];exact_mod_cast G2,lnG,by omega⟩ ?_
    rw[show (valB B6 (aA B6 R)-valB B6 (aA B6 (n*G))).toNat=R-n*G by rw[v6,v6];omega]
    refine Ask.mk ⟨{ X:=Nat,pre:=fun g=>n*g≤R,mod:=fun g _=>[(9,Ls (aA B6 (R-n*g))),(11,I g)],heap:=fun _ _=>[V [],V [],V (divK B6 n a (0)).1,V [],.dead],mu:=fun g=>R-n*g },rfl,?_⟩
    (repeat refine ZG ?_)
    refine ⟨⟨(G:Nat),G2,by (repeat' first|exact trivial|rfl|apply And.intro)⟩,fun (g:Nat) (hg:n*g≤R)=>?_⟩
    have gB:g<1000000:=Nat.lt_of_mul_lt_mul_left (Nat.lt_of_le_of_lt hg hRn)
    have hc:=Am (B:=B6) (by decide) (R-n*g) n
    rw[hb] at hc
    have iR:InB B6 (aA B6 (R-n*g)):=aN (by decide) _
    have lR':=dH (show R-n*g≤R by omega)
    refine Need.mk ⟨iR,jn⟩ ?_
    (apply Br.mk<;>intro)
    ·rename_i hs
     have hle:n≤R-n*g:=Yd hc hs
     have lb:=dH hle
     rw[hb] at lb
     refine Need.mk ⟨iR,jn,by rw[v6,vn];exact_mod_cast hle,lb,by omega⟩ ?_
     rw[show (valB B6 (aA B6 (R-n*g))-valB B6 b).toNat=R-n*(g+1) by rw[v6,vn,Nat.mul_succ];omega]
     (repeat refine ZG ?_)
     refine ⟨(g+1:Nat),by show R-n*(g+1)<R-n*g;rw[Nat.mul_succ];omega,by show n*(g+1)≤R;rw[Nat.mul_succ];omega,?_⟩
     (repeat' first|exact trivial|rfl|apply And.intro)
    ·rename_i hs
     have hlt2:R-n*g<n:=Ye hc hs
     obtain ⟨z1,z2⟩:=Dh hn0 hR hr (show n*g≤R from hg) hlt2
     (repeat refine ZG ?_)
     refine cG (a.length-1-(0)) (by omega) ?_
     (repeat refine ZG ?_)
     refine ⟨(1:Nat),by show a.length-(1)<a.length-(0);omega,hlt,?_⟩
     (repeat' first|exact trivial|rfl|apply And.intro|omega)
     ·rw[show r9 n a 1=Ls (aA B6 (divK B6 n a (1)).2.toNat) from rfl,z2,Int.toNat_natCast]
      (repeat' first|rfl)
     ·exact z1.symm
   ·have e:0=a.length:=by omega
    (conv=>whnf)
    obtain ⟨y1,y2⟩:=Ks (B:=B6) (by decide) hnI ha
    rw[← e] at y1 y2
    (repeat' first|exact trivial|apply And.intro)
    ·exact y1
    ·rw[← y2,show (divK B6 n a 0).2=0 from rfl,Int.toNat_zero,aW]
     (repeat' first|rfl)
  ·have hrt:r=(divK B6 n a (m+1)).2.toNat:=by omega
   have lr:(aA B6 (divK B6 n a (m+1)).2.toNat).length≤200:=by
    rw[← hrt]
    refine Nat.le_trans (dH (show r≤n by omega)) ?_
    rw[hb];exact hbl
   rw[hrt] at hL
   (apply Br.mk<;>intro)
   ·have hlt:m+1<a.length:=by omega
    (repeat refine ZN ?_)
    refine cG (a.length-1-(m+1)) (by omega) ?_
    (repeat'((conv=>whnf);first|refine Zg fun _=>?_|fail))
    (conv=>whnf)
    refine Own.r ?_
    (repeat refine ZN ?_)
    (conv=>whnf)
    rw[show bU ([a.getD (a.length-1-(m+1)) 0]++aA B6 (divK B6 n a (m+1)).2.toNat)=aA B6 R from hL]
    (repeat refine ZN ?_)
    refine cG (b.length-1) (by omega) ?_
    (repeat refine ZN ?_)
    refine cG (b.length-2) (by omega) ?_
    (repeat refine ZN ?_)
    rw[hG]
    (repeat refine ZG ?_)
    (conv=>whnf)
    refine Need.mk ⟨jn,iG,by omega,by show 1≤100000;omega⟩ ?_
    rw[eG]
    (conv=>whnf)
    have lnG:=dH G2
    refine Need.mk ⟨aN (by decide) _,aN (by decide) _,by rw[v6,v6];exact_mod_cast G2,lnG,by omega⟩ ?_
    rw[show (valB B6 (aA B6 R)-valB B6 (aA B6 (n*G))).toNat=R-n*G by rw[v6,v6];omega]
    refine Ask.mk ⟨{ X:=Nat,pre:=fun g=>n*g≤R,mod:=fun g _=>[(9,Ls (aA B6 (R-n*g))),(11,I g)],heap:=fun _ _=>[V [],V [],V (divK B6 n a (m+1)).1,V [],.dead],mu:=fun g=>R-n*g },rfl,?_⟩
    (repeat refine ZG ?_)
    refine ⟨⟨(G:Nat),G2,by (repeat' first|exact trivial|rfl|apply And.intro)⟩,fun (g:Nat) (hg:n*g≤R)=>?_⟩
    have gB:g<1000000:=Nat.lt_of_mul_lt_mul_left (Nat.lt_of_le_of_lt hg hRn)
    have hc:=Am (B:=B6) (by decide) (R-n*g) n
    rw[hb] at hc
    have iR:InB B6 (aA B6 (R-n*g)):=aN (by decide) _
    have lR':=dH (show R-n*g≤R by omega)
    refine Need.mk ⟨iR,jn⟩ ?_
    (apply Br.mk<;>intro)
    ·rename_i hs
     have hle:n≤R-n*g:=Yd hc hs
     have lb:=dH hle
     rw[hb] at lb
     refine Need.mk ⟨iR,jn,by rw[v6,vn];exact_mod_cast hle,lb,by omega⟩ ?_
     rw[show (valB B6 (aA B6 (R-n*g))-valB B6 b).toNat=R-n*(g+1) by rw[v6,vn,Nat.mul_succ];omega]
     (repeat refine ZG ?_)
     refine ⟨(g+1:Nat),by show R-n*(g+1)<R-n*g;rw[Nat.mul_succ];omega,by show n*(g+1)≤R;rw[Nat.mul_succ];omega,?_⟩
     (repeat' first|exact trivial|rfl|apply And.intro)
    ·rename_i hs
     have hlt2:R-n*g<n:=Ye hc hs
     obtain ⟨z1,z2⟩:=Dh hn0 hR hr (show n*g≤R from hg) hlt2
     (repeat refine ZG ?_)
     refine cG (a.length-1-(m+1)) (by omega) ?_
     (repeat refine ZG ?_)
     refine ⟨(m+1+1:Nat),by show a.length-(m+1+1)<a.length-(m+1);omega,hlt,?_⟩
     (repeat' first|exact trivial|rfl|apply And.intro|omega)
     ·rw[show r9 n a (m+1+1)=Ls (aA B6 (divK B6 n a (m+1+1)).2.toNat) from rfl,z2,Int.toNat_natCast]
      (repeat' first|rfl)
     ·exact z1.symm
   ·have e:m+1=a.length:=by omega
    (conv=>whnf)
    obtain ⟨y1,y2⟩:=Ks (B:=B6) (by decide) hnI ha
    rw[← e] at y1 y2
    (repeat' first|exact trivial|apply And.intro)
    ·exact y1
    ·rw[y2]
     (repeat' first|rfl)
def fF (b:List Int):Prop:=aA B6 (valB B6 b).toNat=b
theorem jH (m:Nat):fF (aA B6 m):=by
 unfold fF;rw[v6,Int.toNat_natCast]
theorem uN {b:List Int} (h:fF b):InB B6 b:=by
 rw[← h];exact aN (by decide) _
theorem An {b:List Int} (h:fF b):((valB B6 b).toNat:Int)=valB B6 b:=by
 rw[← v6,h]
def c113:Con:=aI 232 false fun args K=>match args with
 | [.seq (.int .i64) a,.seq (.int .i64) b]=>Need (InB B6 a∧fF b∧(0<(valB B6 b).toNat∧(valB B6 b).toNat<B6^100)∧a.length≤1000) (K (.tup [Ls (aA B6 (valB B6 a/valB B6 b).toNat),Ls (aA B6 (valB B6 a%valB B6 b).toNat)]))
 | _=>False
theorem k113:aD Tryz.prog c113:=by
 refine kO Tryz.func232 fun args K h=>?_
 simp only[c113] at h;split at h
 ·rename_i a b
  refine ⟨_,h.go,?_⟩
  obtain ⟨ha,hb,hn,hl⟩:=h.ok
  have ht:=triB Tryz.func232 Tryz.ntmps232 (by simp[k142,k141,k143,k145,k144,k146]) (b113 a (valB B6 b).toNat ⟨ha,hn,hl⟩)
  rw[hb,An hb] at ht
  exact ht
 ·exact h.elim
theorem eP {s:List UInt8} {i:Nat} (hi:i<s.length):aH s i=(s[i].toNat:Int):=by
 unfold aH
 rw[show s.getD i 0=s[i] by simp[List.getD_eq_getElem?_getD,hi]]
theorem bJ {s:List UInt8} (h:0<s.length) (c:UInt8):aH s 0=c.toNat↔s.headD 0=c:=by
 cases s with
 | nil=>simp at h
 | cons x r=>
  show (x.toNat:Int)=c.toNat↔x=c
  exact ⟨fun e=>UInt8.toNat.inj (by omega),fun e=>by rw[e]⟩
theorem Ao {s:List UInt8} (h:0<s.length) (hm:aH s 0=45):digs s=s.drop 1:=by
 have:=(bJ h 45).1 hm
 unfold digs;rw[if_pos this,List.drop_one]
theorem uO {s:List UInt8} (hm:0<s.length→¬aH s 0=45):digs s=s.drop 0:=by
 unfold digs
 rw[List.drop_zero]
 by_cases h:0<s.length
 ·rw[if_neg fun e=>hm h ((bJ h 45).2 e)]
 ·have:s= []:=List.length_eq_zero_iff.1 (by omega)
  subst this;rfl
theorem Nh {s:List UInt8} {p i:Nat} (hD:digs s=s.drop p) (hp:p≤i) (hi:i<s.length):s[i]∈digs s:=by
 rw[hD,List.mem_iff_getElem]
 exact ⟨i-p,by rw[List.length_drop];omega,by rw[List.getElem_drop];congr 1;omega⟩
theorem Gj {s:List UInt8} {p i:Nat} (hD:digs s=s.drop p) (hp:p≤i) (hi:i<s.length) (hb:aH s i<48∨aH s i>57):chkI s=11:=by
 unfold chkI
 rw[if_neg]
 rintro ⟨_,_,h3⟩
 have:=h3 _ (Nh hD hp hi)
 rw[eP hi] at hb
 unfold aR at this
 omega
theorem Kt {s:List UInt8} {p:Nat} (hD:digs s=s.drop p) (hp:p<s.length):aH s p=48↔(digs s).headD 0=48:=by
 rw[hD,List.drop_eq_getElem_cons hp,eP hp]
 show (s[p].toNat:Int)=48↔s[p]=48
 exact ⟨fun e=>UInt8.toNat.inj (show s[p].toNat=48 by omega),fun e=>by rw[e];rfl⟩
theorem Qu {s:List UInt8} {p:Nat} (hD:digs s=s.drop p) (hp:p<s.length) (h:aH s p=48) (hl:s.length>1):chkI s=11:=
 nH (.inr (.inl ⟨(Kt hD hp).1 h,fun e=>by rw[e] at hl;simp at hl⟩))
theorem Qv {s:List UInt8} {p:Nat} (hD:digs s=s.drop p) (hp:p<s.length) (hz:¬(aH s p=48∧s.length>1)) (hd:∀j,p≤j→j<s.length→48≤aH s j∧aH s j≤57):form s:=by
 refine ⟨fun e=>?_,?_,fun c hc=>?_⟩
 ·have:=congrArg List.length (hD.symm.trans e)
  rw[List.length_drop] at this
  simp at this;omega
 ·by_cases h0:(digs s).headD 0=48
  ·right
   have h1:=(Kt hD hp).2 h0
   have hl:s.length=1:=by
    have:¬s.length>1:=fun h=>hz ⟨h1,h⟩
    omega
   have hp0:p=0:=by omega
   subst hp0
   match s,hl with
   | [x],_=>
    rw[hD] at h0
    simp at h0
    rw[h0]
  ·exact .inl h0
 ·rw[hD,List.mem_iff_getElem] at hc
  obtain ⟨j,hj,e⟩:=hc
  rw[List.length_drop] at hj
  rw[List.getElem_drop] at e
  have:=hd (p+j) (by omega) (by omega)
  rw[eP (by omega),e] at this
  unfold aR;omega
def c139:Con:=aI 254 true fun args K=>match args with | [.str s]=>K (I (chkI s)) | _=>False
theorem k139:aD Tryz.prog c139:=by
 refine kQ { asks:=[(0,[])] } Tryz.func254 Tryz.ntmps254 kn fun _ _ h=>?_
 split at h
 case h_2=>exact h.elim
 rename_i s
 refine kb h ?_
 by_cases hm:0<s.length∧aH s 0=45
 ·have hD:=Ao hm.1 hm.2
  have hL:(digs s).length=s.length-1:=by rw[hD,List.length_drop]
  obtain ⟨hm1,hm2⟩:=hm
  by_cases hz:s.length=1
  ·have hb:chkI s=11:=nH (.inl (List.length_eq_zero_iff.1 (by omega)))
   rw[hb]
   (repeat' first|refine ZR ?_|refine Zg fun _=>?_)
   (conv=>whnf)
   (repeat' first|rfl|apply And.intro)
  by_cases hz2:aH s 1=48∧s.length>1
  ·have hb:chkI s=11:=Qu hD (by omega) hz2.1 hz2.2
   rw[hb]
   obtain ⟨hz3,hz4⟩:=hz2
   (repeat' first|refine ZR ?_|refine Zg fun _=>?_)
   (conv=>whnf)
   (repeat' first|rfl|apply And.intro)
  have hz3:¬(aH s 1=48)∨(aH s 1=48∧¬((s.length:Int)>1)):=by
   by_cases e:aH s 1=48
   ·exact .inr ⟨e,fun h=>hz2 ⟨e,by omega⟩⟩
   ·exact .inl e
  rcases hz3 with hz3 | ⟨hz3,hz4⟩
  all_goals first | (exfalso;omega) | skip
  all_goals (
   (repeat' first|refine ZR ?_|refine Zg fun _=>?_)
   refine Ask.mk ⟨{ X:=Nat,pre:=fun i=>1≤i∧i≤s.length∧∀j,1≤j→j<i→48≤aH s j∧aH s j≤57,mod:=fun i _=>[(4,I i)],heap:=fun _ _=>[],mu:=fun i=>s.length-i },rfl,?_⟩
   (repeat refine ZG ?_)
   refine ⟨⟨(1:Nat),⟨Nat.le_refl _,by omega,fun j h1 h2=>by omega⟩,by (repeat' first|exact trivial|rfl|apply And.intro)⟩,fun (i:Nat) hi=>?_⟩
   obtain ⟨hi1,hi2,hi3⟩:=hi
   by_cases hlt:i<s.length
   ·by_cases h1:aH s i<48
    ·have hb:chkI s=11:=Gj hD hi1 hlt (by omega)
     rw[hb]
     (repeat' first|refine ZR ?_|refine Zg fun _=>?_)
     (conv=>whnf)
     (repeat' first|rfl|apply And.intro)
    ·by_cases h2:aH s i>57
     ·have hb:chkI s=11:=Gj hD hi1 hlt (by omega)
      rw[hb]
      (repeat' first|refine ZR ?_|refine Zg fun _=>?_)
      (conv=>whnf)
      (repeat' first|rfl|apply And.intro)
     ·(repeat' first|refine ZR ?_|refine Zg fun _=>?_)
      refine ⟨(i+1:Nat),by show s.length-(i+1)<s.length-i;omega,⟨by omega,by omega,fun j h3 h4=>?_⟩,?_⟩
      ·by_cases e:j=i
       ·rw[e];omega
       ·exact hi3 j h3 (by omega)
      ·(repeat' first|exact trivial|rfl|apply And.intro)
   ·have e:i=s.length:=by omega
    subst e
    have hf:form s:=Qv hD (by omega) (by omega) hi3
    rw[gK hf,hL]
    by_cases h5:300<s.length-1
    ·first
      | (exfalso;omega)
      | (rw[if_pos h5]
         (repeat' first|refine ZR ?_|refine Zg fun _=>?_)
         (conv=>whnf)
         (repeat' first|rfl|apply And.intro))
    ·rw[if_neg h5]
     (repeat' first|refine ZR ?_|refine Zg fun _=>?_)
     (conv=>whnf)
     (repeat' first|rfl|apply And.intro))
 ·have hD:=uO (s:=s) fun h e=>hm ⟨h,e⟩
  have hL:(digs s).length=s.length-0:=by rw[hD,List.length_drop]
  have hm1:s.length=0∨(0<s.length∧¬aH s 0=45):=by
   by_cases e:s.length=0
   ·exact .inl e
   ·exact .inr ⟨by omega,fun h=>hm ⟨by omega,h⟩⟩
  rcases hm1 with hm1 | ⟨hm1,hm2⟩
  ·have hb:chkI s=11:=nH (.inl (List.length_eq_zero_iff.1 (by omega)))
   rw[hb]
   (repeat' first|refine ZR ?_|refine Zg fun _=>?_)
   (conv=>whnf)
   (repeat' first|rfl|apply And.intro)
  by_cases hz:s.length=0
  ·have hb:chkI s=11:=nH (.inl (List.length_eq_zero_iff.1 (by omega)))
   rw[hb]
   (repeat' first|refine ZR ?_|refine Zg fun _=>?_)
   (conv=>whnf)
   (repeat' first|rfl|apply And.intro)
  by_cases hz2:aH s 0=48∧s.length>1
  ·have hb:chkI s=11:=Qu hD (by omega) hz2.1 hz2.2
   rw[hb]
   obtain ⟨hz3,hz4⟩:=hz2
   (repeat' first|refine ZR ?_|refine Zg fun _=>?_)
   (conv=>whnf)
   (repeat' first|rfl|apply And.intro)
  have hz3:¬(aH s 0=48)∨(aH s 0=48∧¬((s.length:Int)>1)):=by
   by_cases e:aH s 0=48
   ·exact .inr ⟨e,fun h=>hz2 ⟨e,by omega⟩⟩
   ·exact .inl e
  rcases hz3 with hz3 | ⟨hz3,hz4⟩
  all_goals first | (exfalso;omega) | skip
  all_goals (
   (repeat' first|refine ZR ?_|refine Zg fun _=>?_)
   refine Ask.mk ⟨{ X:=Nat,pre:=fun i=>0≤i∧i≤s.length∧∀j,0≤j→j<i→48≤aH s j∧aH s j≤57,mod:=fun i _=>[(4,I i)],heap:=fun _ _=>[],mu:=fun i=>s.length-i },rfl,?_⟩
   (repeat refine ZG ?_)
   refine ⟨⟨(0:Nat),⟨Nat.le_refl _,by omega,fun j h1 h2=>by omega⟩,by (repeat' first|exact trivial|rfl|apply And.intro)⟩,fun (i:Nat) hi=>?_⟩
   obtain ⟨hi1,hi2,hi3⟩:=hi
   by_cases hlt:i<s.length
   ·by_cases h1:aH s i<48
    ·have hb:chkI s=11:=Gj hD hi1 hlt (by omega)
     rw[hb]
     (repeat' first|refine ZR ?_|refine Zg fun _=>?_)
     (conv=>whnf)
     (repeat' first|rfl|apply And.intro)
    ·by_cases h2:aH s i>57
     ·have hb:chkI s=11:=Gj hD hi1 hlt (by omega)
      rw[hb]
      (repeat' first|refine ZR ?_|refine Zg fun _=>?_)
      (conv=>whnf)
      (repeat' first|rfl|apply And.intro)
     ·(repeat' first|refine ZR ?_|refine Zg fun _=>?_)
      refine ⟨(i+1:Nat),by show s.length-(i+1)<s.length-i;omega,⟨by omega,by omega,fun j h3 h4=>?_⟩,?_⟩
      ·by_cases e:j=i
       ·rw[e];omega
       ·exact hi3 j h3 (by omega)
      ·(repeat' first|exact trivial|rfl|apply And.intro)
   ·have e:i=s.length:=by omega
    subst e
    have hf:form s:=Qv hD (by omega) (by omega) hi3
    rw[gK hf,hL]
    by_cases h5:300<s.length-0
    ·first
      | (exfalso;omega)
      | (rw[if_pos h5]
         (repeat' first|refine ZR ?_|refine Zg fun _=>?_)
         (conv=>whnf)
         (repeat' first|rfl|apply And.intro))
    ·rw[if_neg h5]
     (repeat' first|refine ZR ?_|refine Zg fun _=>?_)
     (conv=>whnf)
     (repeat' first|rfl|apply And.intro))
def c110:Con:=aI 229 true fun args K=>match args with | [.str a,.str b]=>K (I (chk2 a b)) | _=>False
theorem k110:aD Tryz.prog c110:=by
 refine kQ {} Tryz.func229 Tryz.ntmps229 (kc k139 kn) fun _ _ h=>?_
 split at h
 case h_2=>exact h.elim
 refine kb h ?_
 unfold chk2
 (apply Br.mk<;>intro)
 ·rename_i h
  rw[if_pos h]
  (conv=>whnf)
  (repeat' first|rfl|apply And.intro)
 ·rename_i h
  rw[if_neg h]
  (conv=>whnf)
  (repeat' first|rfl|apply And.intro)
def sgP' (s:List UInt8):Nat:=if s.headD 0=45 then 1 else 0
theorem pZ (s:List UInt8):digs s=s.drop (sgP' s):=by
 unfold digs sgP'
 split
 ·rw[List.drop_one]
 ·rw[List.drop_zero]
def pfx (s:List UInt8) (i:Nat):Nat:=aF ((s.take i).drop (sgP' s))
theorem Yf (s:List UInt8):pfx s 0=0:=by simp[pfx,aF]
theorem Gk (s:List UInt8):pfx s s.length=aF (digs s):=by
 unfold pfx;rw[List.take_length,pZ]
theorem aEn {s:List UInt8} (hf:form s) {i:Nat} (hi:i≤16):pfx s i<10000000000000000:=by
 have hb:=cE ((s.take i).drop (sgP' s)) fun c hc=>hf.2.2 c (by rw[pZ];rw[List.drop_take] at hc;exact List.mem_of_mem_take hc)
 have hp:(10:Nat)^ ((s.take i).drop (sgP' s)).length≤10^16:=Nat.pow_le_pow_right (by omega) (by rw[List.length_drop,List.length_take];omega)
 have h16:(10:Nat)^16=10000000000000000:=by decide
 unfold pfx;omega
theorem Yg {s:List UInt8} (hf:form s) {i:Nat} (hi:i<s.length) (h:aH s i=45):pfx s (i+1)=pfx s i:=by
 by_cases hp:sgP' s≤i
 ·have:=hf.2.2 _ (Nh (pZ s) hp hi)
  rw[eP hi] at h
  unfold aR at this;omega
 ·unfold pfx
  rw[List.drop_eq_nil_of_le (by rw[List.length_take];omega),List.drop_eq_nil_of_le (by rw[List.length_take];omega)]
theorem aBi {s:List UInt8} (hf:form s) {i:Nat} (hi:i<s.length) (h:¬aH s i=45):(48≤aH s i∧aH s i≤57)∧(pfx s (i+1):Int)=10*pfx s i+(aH s i-48):=by
 by_cases hp:sgP' s≤i
 ·have hg:=hf.2.2 _ (Nh (pZ s) hp hi)
  have e:(s.take (i+1)).drop (sgP' s)=(s.take i).drop (sgP' s)++ [s[i]]:=by
   rw[List.take_succ_eq_append_getElem hi,List.drop_append_of_le_length (by rw[List.length_take];omega)]
  rw[eP hi]
  unfold pfx
  rw[e,cY]
  unfold aR at hg
  omega
 ·refine absurd ?_ h
  have h0:i=0∧s.headD 0=45:=by
   unfold sgP' at hp
   split at hp
   ·exact ⟨by omega,by assumption⟩
   ·omega
  rw[h0.1]
  exact (bJ (by omega) 45).2 h0.2
theorem b140n (s:List UInt8) (h:17<s.length):body Tryz.prog [] { asks:=[(0,[])] } true Tryz.f255 [S s] (.tup [I 0,.val (.bool false)]):=by
 (repeat' first|refine ZR ?_|refine Zg fun _=>?_)
 (conv=>whnf)
 (repeat' first|exact trivial|rfl|apply And.intro)
theorem b140y (s:List UInt8) (hf:form s) (hl:s.length≤17):body Tryz.prog [] { asks:=[(0,[])] } true Tryz.f255 [S s] (.tup [I (valI s),.val (.bool true)]):=by
 have h0:0<s.length:=Nat.pos_of_ne_zero fun e=>hf.1 (by rw[List.length_eq_zero_iff.1 e];rfl)
 (repeat' first|refine ZR ?_|refine Zg fun _=>?_)
 refine Ask.mk ⟨{ X:=Nat,pre:=fun i=>i≤s.length,mod:=fun i _=>[(4,I (pfx s i)),(5,I i)],heap:=fun _ _=>[],mu:=fun i=>s.length-i },rfl,?_⟩
 (repeat refine ZG ?_)
 refine ⟨⟨(0:Nat),Nat.zero_le _,?_⟩,fun (i:Nat) (hi:i≤s.length)=>?_⟩
 ·(repeat' first|exact trivial|rfl|apply And.intro)
  rw[Yf];rfl
 by_cases hlt:i<s.length
 ·have hb:=aEn hf (i:=i) (by omega)
  by_cases hs:aH s i=45
  ·have e:=Yg hf hlt hs
   (repeat' first|refine ZR ?_|refine Zg fun _=>?_)
   refine ⟨(i+1:Nat),by show s.length-(i+1)<s.length-i;omega,hlt,?_⟩
   (repeat' first|exact trivial|rfl|apply And.intro|omega)
  ·obtain ⟨e1,e2⟩:=aBi hf hlt hs
   (repeat' first|refine ZR ?_|refine Zg fun _=>?_)
   refine ⟨(i+1:Nat),by show s.length-(i+1)<s.length-i;omega,hlt,?_⟩
   (repeat' first|exact trivial|rfl|apply And.intro|omega)
 ·have e:i=s.length:=by omega
  subst e
  have hn:pfx s s.length<1000000000000000000:=by
   rw[Gk]
   have hb:=cE (digs s) hf.2.2
   have hp:(10:Nat)^ (digs s).length≤10^18:=Nat.pow_le_pow_right (by omega) (by have:=kE s;omega)
   have h18:(10:Nat)^18=1000000000000000000:=by decide
   omega
  by_cases hm:aH s 0=45
  ·have hv:valI s= -(pfx s s.length:Int):=by
    have hm':=(bJ h0 45).1 hm
    rw[Gk];unfold valI digs;rw[if_pos hm',if_pos hm']
   rw[hv]
   (repeat' first|refine ZR ?_|refine Zg fun _=>?_)
   (conv=>whnf)
   (repeat' first|exact trivial|rfl|apply And.intro)
  ·have hv:valI s=(pfx s s.length:Int):=by
    have hm':¬s.headD 0=45:=fun e=>hm ((bJ h0 45).2 e)
    rw[Gk];unfold valI digs;rw[if_neg hm',if_neg hm']
   rw[hv]
   (repeat' first|refine ZR ?_|refine Zg fun _=>?_)
   (conv=>whnf)
   (repeat' first|exact trivial|rfl|apply And.intro)
def c140:Con:=aI 255 true fun args K=>match args with
 | [.str s]=>Need (form s) (Br (17<s.length) (K (.tup [I 0,.val (.bool false)])) (K (.tup [I (valI s),.val (.bool true)])))
 | _=>False
theorem k140:aD Tryz.prog c140:=by
 refine kO Tryz.func255 fun args K h=>?_
 simp only[c140] at h;split at h
 ·rename_i s
  obtain ⟨hf,h⟩:=h
  by_cases hs:17<s.length
  ·exact ⟨_,h.yes hs,triB Tryz.func255 Tryz.ntmps255 (by simp) (b140n s hs)⟩
  ·exact ⟨_,h.no hs,triB Tryz.func255 Tryz.ntmps255 (by simp) (b140y s hf (by omega))⟩
 ·exact h.elim
theorem b111 (a b:List UInt8) (ha:form a) (hb:form b) (x y:Int) (o:Bool) (h:(x,y,o)=if 17<a.length then (0,0,false) else if 17<b.length then (valI a,0,false) else (valI a,valI b,true)):body Tryz.prog [c140] {} true Tryz.f230 [S a,S b] (.tup [I x,I y,.val (.bool o)]):=by
 by_cases h1:17<a.length
 ·rw[if_pos h1] at h
  cases h
  (repeat refine ZR ?_)
  (conv=>whnf)
  (repeat' first|exact trivial|rfl|apply And.intro)
 ·rw[if_neg h1] at h
  by_cases h2:17<b.length
  ·rw[if_pos h2] at h
   cases h
   (repeat refine ZR ?_)
   (conv=>whnf)
   (repeat' first|exact trivial|rfl|apply And.intro)
  ·rw[if_neg h2] at h
   cases h
   (repeat refine ZR ?_)
   (conv=>whnf)
   (repeat' first|exact trivial|rfl|apply And.intro)
def c111:Con:=aI 230 true fun args K=>match args with
 | [.str a,.str b]=>Need (form a∧form b) (Br (a.length≤17∧b.length≤17) (K (.tup [I (valI a),I (valI b),.val (.bool true)])) (Br (17<a.length) (K (.tup [I 0,I 0,.val (.bool false)])) (K (.tup [I (valI a),I 0,.val (.bool false)]))))
 | _=>False
theorem k111:aD Tryz.prog c111:=by
 refine kO Tryz.func230 fun args K h=>?_
 simp only[c111] at h;split at h
 ·rename_i a b
  obtain ⟨⟨ha,hb⟩,h⟩:=h
  have go:=fun x y o hh=>triB Tryz.func230 Tryz.ntmps230 (by simp[k140]) (b111 a b ha hb x y o hh)
  by_cases hs:a.length≤17∧b.length≤17
  ·exact ⟨_,h.yes hs,go _ _ _ (by rw[if_neg (by omega),if_neg (by omega)])⟩
  ·by_cases h1:17<a.length
   ·exact ⟨_,(h.no hs).yes h1,go _ _ _ (by rw[if_pos h1])⟩
   ·exact ⟨_,(h.no hs).no h1,go _ _ _ (by rw[if_neg h1,if_pos (by omega)])⟩
 ·exact h.elim
def gfx (D:List UInt8) (st i:Nat):Nat:=aF ((D.take i).drop st)
theorem Ap (D:List UInt8) (st:Nat):gfx D st st=0:=by
 unfold gfx
 rw[List.drop_eq_nil_of_le (by rw[List.length_take];omega)];rfl
theorem Yh {D:List UInt8} (hd:∀c∈D,aR c) {st i:Nat} (h:i≤st+6):gfx D st i<1000000:=by
 have hb:=cE ((D.take i).drop st) fun c hc=>hd c (List.mem_of_mem_take (List.mem_of_mem_drop hc))
 have hp:(10:Nat)^ ((D.take i).drop st).length≤10^6:=Nat.pow_le_pow_right (by omega) (by rw[List.length_drop,List.length_take];omega)
 have h6:(10:Nat)^6=1000000:=by decide
 unfold gfx;omega
theorem Gl {D:List UInt8} (hd:∀c∈D,aR c) {st i:Nat} (hs:st≤i) (hi:i<D.length):(48≤aH D i∧aH D i≤57)∧(gfx D st (i+1):Int)=10*gfx D st i+(aH D i-48):=by
 have hg:=hd _ (List.getElem_mem hi)
 have e:(D.take (i+1)).drop st=(D.take i).drop st++ [D[i]]:=by
  rw[List.take_succ_eq_append_getElem hi,List.drop_append_of_le_length (by rw[List.length_take];omega)]
 rw[eP hi]
 unfold gfx
 rw[e,cY]
 unfold aR at hg
 omega
theorem b112y (s:List UInt8) (h:form s∧(digs s).length≤600) (hm:s.headD 0=45):body Tryz.prog [c141] { asks:=[(0,[2]),(2,[])] } false Tryz.f231 [S s] (.agg [.bl (s.headD 0=45) inferInstance,Ls (aA B6 (aF (digs s)))]):=by
 obtain ⟨hf,hl⟩:=h
 have h0:0<s.length:=Nat.pos_of_ne_zero fun e=>hf.1 (by rw[List.length_eq_zero_iff.1 e];rfl)
 have hd:=hf.2.2
 have hb:aH s 0=45:=(bJ h0 45).2 hm
 have hD:=Ao h0 hb
 rw[hD] at hd hl ⊢
 have hL:(s.drop 1).length=(s.drop 1).length:=rfl
 have e6:(10:Nat)^6=B6:=by decide
 refine Own.l ?_
 refine Own.l ?_
 (conv=>whnf)
 refine Own.r ?_
 refine ⟨1,.int .i64,3,?_⟩
 (repeat' first|refine ZX ?_|refine Zg fun _=>?_)
 (conv=>whnf)
 refine Ask.mk ⟨{ X:=Nat,pre:=fun k=>6*k<(s.drop 1).length+6,mod:=fun k _=>[(4,I (((s.drop 1).length:Int)-6*k))],heap:=fun k H=>[hget H 0,.cells [.val (.bool true),.ref 2 1] 285,V (rdG (s.drop 1) k)],mu:=fun k=>(s.drop 1).length+6-6*k,objs:=[2] },rfl,?_⟩
 (repeat refine ZG ?_)
 refine ⟨⟨(0:Nat),by show 6*0< _;omega,?_⟩,fun (k:Nat) hk=>?_⟩
 ·(repeat' first|exact trivial|rfl|exact Nat.one_pos|apply And.intro)
 have hk:6*k<(s.drop 1).length+6:=hk
 have hrl:=(sP hd k hk).1
 by_cases hlt:6*k<(s.drop 1).length
 ·obtain ⟨st,hst⟩:∃st,(s.drop 1).length-6*(k+1)=st:=⟨_,rfl⟩
  obtain ⟨en,hen⟩:∃en,(s.drop 1).length-6*k=en:=⟨_,rfl⟩
  (repeat refine ZR ?_)
  refine Ask.mk ⟨{ X:=Nat,pre:=fun i=>st≤i∧i≤en,mod:=fun i _=>[(5,I (gfx (s.drop 1) st i)),(6,I i)],heap:=fun i H=>[hget H 0,.cells [.val (.bool true),.ref 2 1] 285,V (rdG (s.drop 1) k)],mu:=fun i=>en-i },rfl,?_⟩
  (repeat refine ZG ?_)
  refine ⟨⟨(st:Nat),⟨Nat.le_refl _,by omega⟩,?_⟩,fun (i:Nat) hi=>?_⟩
  ·(repeat' first|exact trivial|rfl|apply And.intro|omega)
   rw[Ap];rfl
  obtain ⟨hi1,hi2⟩:=hi
  by_cases hlt2:i<en
  ·have hg:=Yh hd (st:=st) (i:=i) (by omega)
   obtain ⟨e1,e2⟩:=Gl hd hi1 (show i<(s.drop 1).length by omega)
   (repeat' first|refine ZR ?_|refine Zg fun _=>?_)
   refine ⟨(i+1:Nat),by show en-(i+1)<en-i;omega,⟨by omega,hlt2⟩,?_⟩
   (repeat' first|exact trivial|rfl|apply And.intro|omega)
  ·have e:i=en:=by omega
   subst e
   (repeat refine ZR ?_)
   try (
    refine Need.mk (show (rdG (s.drop 1) k).length+1≤17592186044416 by omega) ?_
    (repeat refine ZR ?_))
   refine ⟨(k+1:Nat),by show (s.drop 1).length+6-6*(k+1)<(s.drop 1).length+6-6*k;omega,by show 6*(k+1)<(s.drop 1).length+6;omega,?_⟩
   (repeat' first|exact trivial|rfl|exact Nat.one_pos|apply And.intro|omega)
   show rdG (s.drop 1) k++ [((gfx (s.drop 1) st i:Nat):Int)]=rdG (s.drop 1) k++ [((aF (grp (s.drop 1) k):Nat):Int)]
   unfold gfx grp
   rw[hst,hen]
 ·have hr:=Ph hd hk (by omega)
  rw[e6] at hr
  (repeat refine ZR ?_)
  (conv=>whnf)
  (repeat' first|exact trivial|apply And.intro)
  ·exact hm
  ·exact hr
theorem b112n (s:List UInt8) (h:form s∧(digs s).length≤600) (hm:¬s.headD 0=45):body Tryz.prog [c141] { asks:=[(0,[2]),(2,[])] } false Tryz.f231 [S s] (.agg [.bl (s.headD 0=45) inferInstance,Ls (aA B6 (aF (digs s)))]):=by
 obtain ⟨hf,hl⟩:=h
 have h0:0<s.length:=Nat.pos_of_ne_zero fun e=>hf.1 (by rw[List.length_eq_zero_iff.1 e];rfl)
 have hd:=hf.2.2
 have hb:¬aH s 0=45:=fun e=>hm ((bJ h0 45).1 e)
 have hD:digs s=s:=uO fun _=>hb
 rw[hD] at hd hl ⊢
 have hL:(s).length=(s).length:=rfl
 have e6:(10:Nat)^6=B6:=by decide
 refine Own.l ?_
 refine Own.l ?_
 (conv=>whnf)
 refine Own.r ?_
 refine ⟨1,.int .i64,3,?_⟩
 (repeat' first|refine ZX ?_|refine Zg fun _=>?_)
 (conv=>whnf)
 refine Ask.mk ⟨{ X:=Nat,pre:=fun k=>6*k<(s).length+6,mod:=fun k _=>[(4,I (((s).length:Int)-6*k))],heap:=fun k H=>[hget H 0,.cells [.val (.bool false),.ref 2 1] 285,V (rdG (s) k)],mu:=fun k=>(s).length+6-6*k,objs:=[2] },rfl,?_⟩
 (repeat refine ZG ?_)
 refine ⟨⟨(0:Nat),by show 6*0< _;omega,?_⟩,fun (k:Nat) hk=>?_⟩
 ·(repeat' first|exact trivial|rfl|exact Nat.one_pos|apply And.intro)
 have hk:6*k<(s).length+6:=hk
 have hrl:=(sP hd k hk).1
 by_cases hlt:6*k<(s).length
 ·obtain ⟨st,hst⟩:∃st,(s).length-6*(k+1)=st:=⟨_,rfl⟩
  obtain ⟨en,hen⟩:∃en,(s).length-6*k=en:=⟨_,rfl⟩
  (repeat refine ZR ?_)
  refine Ask.mk ⟨{ X:=Nat,pre:=fun i=>st≤i∧i≤en,mod:=fun i _=>[(5,I (gfx (s) st i)),(6,I i)],heap:=fun i H=>[hget H 0,.cells [.val (.bool false),.ref 2 1] 285,V (rdG (s) k)],mu:=fun i=>en-i },rfl,?_⟩
  (repeat refine ZG ?_)
  refine ⟨⟨(st:Nat),⟨Nat.le_refl _,by omega⟩,?_⟩,fun (i:Nat) hi=>?_⟩
  ·(repeat' first|exact trivial|rfl|apply And.intro|omega)
   rw[Ap];rfl
  obtain ⟨hi1,hi2⟩:=hi
  by_cases hlt2:i<en
  ·have hg:=Yh hd (st:=st) (i:=i) (by omega)
   obtain ⟨e1,e2⟩:=Gl hd hi1 (show i<(s).length by omega)
   (repeat' first|refine ZR ?_|refine Zg fun _=>?_)
   refine ⟨(i+1:Nat),by show en-(i+1)<en-i;omega,⟨by omega,hlt2⟩,?_⟩
   (repeat' first|exact trivial|rfl|apply And.intro|omega)
  ·have e:i=en:=by omega
   subst e
   (repeat refine ZR ?_)
   try (
    refine Need.mk (show (rdG (s) k).length+1≤17592186044416 by omega) ?_
    skip)
   refine ⟨(k+1:Nat),by show (s).length+6-6*(k+1)<(s).length+6-6*k;omega,by show 6*(k+1)<(s).length+6;omega,?_⟩
   (repeat' first|exact trivial|rfl|exact Nat.one_pos|apply And.intro|omega)
   show rdG (s) k++ [((gfx (s) st i:Nat):Int)]=rdG (s) k++ [((aF (grp (s) k):Nat):Int)]
   unfold gfx grp
   rw[hst,hen]
 ·have hr:=Ph hd hk (by omega)
  rw[e6] at hr
  (repeat refine ZR ?_)
  (conv=>whnf)
  (repeat' first|exact trivial|apply And.intro)
  ·exact hm
  ·exact hr
def c112:Con:=aI 231 false fun args K=>match args with | [.str s]=>Need (form s∧(digs s).length≤600) (K (.agg [.bl (s.headD 0=45) inferInstance,Ls (aA B6 (aF (digs s)))])) | _=>False
theorem k112:aD Tryz.prog c112:=by
 refine kQ { asks:=[(0,[2]),(2,[])] } Tryz.func231 Tryz.ntmps231 (kc k141 kn) fun _ _ h=>?_
 split at h
 case h_2=>exact h.elim
 rename_i s
 refine kb h.go ?_
 replace h:=h.ok
 by_cases hm:s.headD 0=45
 ·exact b112y s h hm
 ·exact b112n s h hm
def c84:Con:=aI 194 true fun args K=>match args with | [.val (.int .i64 a),.val (.int .i64 b)]=>Need ((0≤a∧a≤4611686018427387904)∧(0≤b∧b≤4611686018427387904)) (K (I (Int.gcd a b))) | _=>False
theorem k84:aD Tryz.prog c84:=by
 refine kQ { asks:=[(0,[])] } Tryz.func194 Tryz.ntmps194 kn fun _ _ h=>?_
 split at h
 case h_2=>exact h.elim
 rename_i a b
 refine kb h.go ?_
 replace h:=h.ok
 obtain ⟨ha,hb⟩:=h
 refine Ask.mk ⟨{ X:=Int × Int,pre:=fun z=>Int.gcd z.1 z.2=Int.gcd a b∧(0≤z.1∧z.1≤4611686018427387904)∧(0≤z.2∧z.2≤4611686018427387904),mod:=fun z _=>[(0,I z.1),(1,I z.2)],heap:=fun _ _=>[],mu:=fun z=>z.2.natAbs },rfl,?_⟩
 (repeat refine ZG ?_)
 refine ⟨⟨(a,b),⟨rfl,ha,hb⟩,by (repeat' first|exact trivial|rfl|apply And.intro)⟩,fun (z:Int × Int) hz=>?_⟩
 obtain ⟨z1,z2,z3⟩:=hz
 (apply Br.mk<;>intro)
 ·rename_i hy
  have hm:(z.1.tmod z.2).natAbs<z.2.natAbs:=by rw[Int.natAbs_tmod];exact Nat.mod_lt _ (by omega)
  have hm0:0≤z.1.tmod z.2:=Int.tmod_nonneg _ z2.1
  (repeat'((conv=>whnf);first|refine Za ?_|(apply Pin.mk;apply Exists.intro)|apply Pinned.mk rfl rfl|fail))
  (conv=>whnf)
  refine ⟨(z.2,z.1.tmod z.2),hm,⟨by rw[← z1];exact tE _ _,z3,hm0,by show z.1.tmod z.2≤ _;omega⟩,?_⟩
  (repeat' first|exact trivial|rfl|apply And.intro)
  exact (Int.tmod_eq_emod_of_nonneg z2.1).symm
 ·rename_i hy
  have hy:z.2=0:=by omega
  have hg:((Int.gcd a b:Nat):Int)=z.1:=by
   rw[← z1,hy,Int.gcd_zero_right]
   omega
  rw[hg]
  (conv=>whnf)
  (repeat' first|rfl|apply And.intro)
theorem Yi {D:List UInt8} (hd:∀c∈D,aR c) {i:Nat} (h:i≤17):gfx D 0 i<100000000000000000:=by
 have hb:=cE ((D.take i).drop 0) fun c hc=>hd c (List.mem_of_mem_take (List.mem_of_mem_drop hc))
 have hp:(10:Nat)^ ((D.take i).drop 0).length≤10^17:=Nat.pow_le_pow_right (by omega) (by rw[List.length_drop,List.length_take];omega)
 have h6:(10:Nat)^17=100000000000000000:=by decide
 unfold gfx;omega
theorem aBj (D:List UInt8):gfx D 0 D.length=aF D:=by
 unfold gfx;rw[List.take_length,List.drop_zero]
def c85:Con:=aI 195 true fun args K=>match args with | [.str s]=>Need ((∀c∈s,aR c)∧s.length≤18) (K (I (aF s))) | _=>False
theorem k85:aD Tryz.prog c85:=by
 refine kQ { asks:=[(0,[])] } Tryz.func195 Tryz.ntmps195 kn fun _ _ h=>?_
 split at h
 case h_2=>exact h.elim
 rename_i s
 refine kb h.go ?_
 replace h:=h.ok
 obtain ⟨hd,hl⟩:=h
 refine Ask.mk ⟨{ X:=Nat,pre:=fun i=>i≤s.length,mod:=fun i _=>[(3,I (gfx s 0 i)),(4,I i)],heap:=fun _ _=>[],mu:=fun i=>s.length-i },rfl,?_⟩
 (repeat refine ZG ?_)
 refine ⟨⟨(0:Nat),Nat.zero_le _,?_⟩,fun (i:Nat) (hi:i≤s.length)=>?_⟩
 ·(repeat' first|exact trivial|rfl|apply And.intro)
  all_goals (rw[Ap];rfl)
 by_cases hlt:i<s.length
 ·have hg:=Yi hd (i:=i) (by omega)
  obtain ⟨e1,e2⟩:=Gl hd (Nat.zero_le _) hlt
  (repeat' first|refine ZR ?_|refine Zg fun _=>?_)
  refine ⟨(i+1:Nat),by show s.length-(i+1)<s.length-i;omega,hlt,?_⟩
  (repeat' first|exact trivial|rfl|apply And.intro|omega)
 ·have e:i=s.length:=by omega
  subst e
  rw[← aBj]
  (repeat' first|refine ZR ?_|refine Zg fun _=>?_)
  (conv=>whnf)
  (repeat' first|rfl|apply And.intro)
noncomputable instance (s:List UInt8):Decidable (okD s):=Classical.propDecidable _
theorem Qw {s:List UInt8} {i:Nat} (hi:i<s.length) (hb:aH s i<48∨aH s i>57):¬okD s:=by
 rw[gI]
 rintro ⟨_,h3,_⟩
 have:=h3 _ (List.getElem_mem hi)
 rw[eP hi] at hb
 unfold aR at this
 omega
def c83:Con:=aI 193 true fun args K=>match args with | [.str s]=>K (.bl (okD s) inferInstance) | _=>False
theorem k83:aD Tryz.prog c83:=by
 refine kQ { asks:=[(0,[])] } Tryz.func193 Tryz.ntmps193 kn fun _ _ h=>?_
 split at h
 case h_2=>exact h.elim
 rename_i s
 refine kb h ?_
 by_cases h0:s.length=0
 ·have hn:¬okD s:=by
   rw[gI];exact fun h=>h.1 (List.length_eq_zero_iff.1 h0)
  (repeat' first|refine ZR ?_|refine Zg fun _=>?_)
  (conv=>whnf)
  exact hn
 by_cases h1:s.length>1∧aH s 0=48
 ·obtain ⟨h1,h2⟩:=h1
  have hn:¬okD s:=by
   rw[gI]
   rintro ⟨_,_,h3⟩
   have:=(bJ (s:=s) (by omega) 48).1 h2
   rcases h3 with h3 | h3
   ·omega
   ·exact h3 this
  (repeat' first|refine ZR ?_|refine Zg fun _=>?_)
  (conv=>whnf)
  exact hn
 have h2:¬((s.length:Int)>1)∨((s.length:Int)>1∧¬(aH s 0=48)):=by
  by_cases e:aH s 0=48
  ·exact .inl fun h=>h1 ⟨by omega,e⟩
  ·by_cases e2:s.length>1
   ·exact .inr ⟨by omega,e⟩
   ·exact .inl (by omega)
 have h3:s.length=1∨s.headD 0≠48:=by
  rcases h2 with h2 | ⟨_,h2⟩
  ·exact .inl (by omega)
  ·exact .inr fun e=>h2 ((bJ (s:=s) (by omega) 48).2 e)
 rcases h2 with h2 | ⟨h2,h4⟩
 all_goals (
  (repeat' first|refine ZR ?_|refine Zg fun _=>?_)
  refine Ask.mk ⟨{ X:=Nat,pre:=fun i=>i≤s.length∧∀j,j<i→48≤aH s j∧aH s j≤57,mod:=fun i _=>[(3,I i)],heap:=fun _ _=>[],mu:=fun i=>s.length-i },rfl,?_⟩
  (repeat refine ZG ?_)
  refine ⟨⟨(0:Nat),⟨Nat.zero_le _,fun j h2=>by omega⟩,by (repeat' first|exact trivial|rfl|apply And.intro)⟩,fun (i:Nat) hi=>?_⟩
  obtain ⟨hi1,hi3⟩:=hi
  by_cases hlt:i<s.length
  ·by_cases c1:aH s i<48
   ·have hn:¬okD s:=Qw hlt (.inl c1)
    (repeat' first|refine ZR ?_|refine Zg fun _=>?_)
    (conv=>whnf)
    exact hn
   ·by_cases c2:aH s i>57
    ·have hn:¬okD s:=Qw hlt (.inr c2)
     (repeat' first|refine ZR ?_|refine Zg fun _=>?_)
     (conv=>whnf)
     exact hn
    ·(repeat' first|refine ZR ?_|refine Zg fun _=>?_)
     refine ⟨(i+1:Nat),by show s.length-(i+1)<s.length-i;omega,⟨by omega,fun j h4=>?_⟩,?_⟩
     ·by_cases e:j=i
      ·rw[e];omega
      ·exact hi3 j (by omega)
     ·(repeat' first|exact trivial|rfl|apply And.intro)
  ·have e:i=s.length:=by omega
   have hy:okD s:=by
    rw[gI]
    refine ⟨fun e=>h0 (by rw[e];rfl),fun c hc=>?_,h3⟩
    obtain ⟨j,hj,e2⟩:=List.mem_iff_getElem.1 hc
    have:=hi3 j (by omega)
    rw[eP hj,e2] at this
    unfold aR;omega
   (repeat' first|refine ZR ?_|refine Zg fun _=>?_)
   (conv=>whnf)
   (repeat' first|apply And.intro)
   all_goals first | exact hy.1 | exact hy.2)
theorem Di (c:UInt8) (r:List UInt8) (j:Nat):aH (c::r) (j+1)=aH r j:=by
 unfold aH;rfl
theorem uP:∀(D:List UInt8) (i:Nat),i≤D.length→(∀j,j<i→¬aH D j=47)→(i=D.length∨(i<D.length∧aH D i=47))→topS D=D.take i∧botS D=D.drop i
 | [],i,h1,_,_=>by
  have:i=0:=by simpa using h1
  subst this
  exact ⟨rfl,rfl⟩
 | c::r,0,_,_,h=>by
  rcases h with h | ⟨_,h⟩
  ·simp at h
  ·have hc:=(bJ (s:=c::r) (by simp) 47).1 h
   have hc:c=47:=hc
   subst hc
   constructor<;>simp[topS,botS]
 | c::r,i+1,h1,h2,h3=>by
  have hc:¬c=47:=fun e=>h2 0 (by omega) ((bJ (s:=c::r) (by simp) 47).2 e)
  obtain ⟨q1,q2⟩:=uP r i (by simpa using h1) (fun j hj=>by rw[← Di c];exact h2 (j+1) (by omega)) (by
   rcases h3 with h3 | ⟨h3,h4⟩
   ·exact .inl (by simpa using h3)
   ·exact .inr ⟨by simpa using h3,by rw[← Di c];exact h4⟩)
  unfold topS at q1 ⊢
  unfold botS at q2 ⊢
  rw[List.takeWhile_cons,List.dropWhile_cons]
  have hb:(c != 47)=true:=by simpa using hc
  rw[hb]
  simp only[if_true]
  exact ⟨by rw[q1];rfl,by rw[q2];rfl⟩
theorem qA (c:UInt8) (r:List UInt8):digs (c::r)=if c=45 then r else c::r:=rfl
theorem Yj (s:List UInt8):topS (digs s)=digs (topS s)∧botS (digs s)=botS s:=by
 cases s with
 | nil=>exact ⟨rfl,rfl⟩
 | cons c r=>
  by_cases h:c=45
  ·subst h
   have e1:digs (45::r)=r:=by rw[qA,if_pos rfl]
   have e2:topS (45::r)=45::topS r:=by unfold topS;rw[List.takeWhile_cons];rfl
   have e3:botS (45::r)=botS r:=by unfold botS;rw[List.dropWhile_cons];rfl
   rw[e1,e2,e3]
   exact ⟨(by rw[qA,if_pos rfl]),rfl⟩
  ·have e1:digs (c::r)=c::r:=by rw[qA,if_neg h]
   rw[e1]
   refine ⟨?_,rfl⟩
   unfold topS
   rw[List.takeWhile_cons]
   split
   ·rw[qA,if_neg h]
   ·rfl
def c73:Con:=aI 192 true fun args K=>match args with | [.str s]=>K (.tup [.bl (s.headD 0=45) inferInstance,S (digs (topS s)),S (botS s).tail,.bl (¬botS s= []) inferInstance]) | _=>False
theorem k73:aD Tryz.prog c73:=by
 refine kQ { asks:=[(0,[])] } Tryz.func192 Tryz.ntmps192 kn fun _ _ h=>?_
 split at h
 case h_2=>exact h.elim
 rename_i s
 refine kb h ?_
 obtain ⟨hT,hB⟩:=Yj s
 rw[← hT,← hB]
 by_cases hm:0<s.length∧aH s 0=45
 ·obtain ⟨h0,hb⟩:=hm
  have hD:=Ao h0 hb
  have hh:s.headD 0=45:=(bJ h0 45).1 hb
  have hi:aH s 0=45↔s.headD 0=45:=⟨fun _=>hh,fun _=>hb⟩
  rw[hD]
  have hs:(s.drop 1).length≤s.length:=by have:=kE s;rw[hD] at this;omega
  (repeat' first|refine ZR ?_|refine Zg fun _=>?_)
  refine Ask.mk ⟨{ X:=Nat,pre:=fun i=>i≤(s.drop 1).length∧∀j,j<i→¬aH (s.drop 1) j=47,mod:=fun i _=>[(8,I i)],heap:=fun _ _=>[],mu:=fun i=>(s.drop 1).length-i },rfl,?_⟩
  (repeat refine ZG ?_)
  refine ⟨⟨(0:Nat),⟨Nat.zero_le _,fun j h2=>by omega⟩,by (repeat' first|exact trivial|rfl|apply And.intro)⟩,fun (i:Nat) hi'=>?_⟩
  obtain ⟨hi1,hi3⟩:=hi'
  by_cases hlt:i<(s.drop 1).length
  ·by_cases c1:aH (s.drop 1) i=47
   ·obtain ⟨w1,w2⟩:=uP (s.drop 1) i hi1 hi3 (.inr ⟨hlt,c1⟩)
    have w3:(s.drop 1).drop (i+1)=((s.drop 1).drop i).tail:=List.tail_drop.symm
    have w4:¬(s.drop 1).drop i= []:=fun h=>by
     have h9:((s.drop 1).drop i).length=0:=by rw[h];rfl
     rw[List.length_drop] at h9
     omega
    rw[w1,w2]
    (repeat'((conv=>whnf);first|refine Zg fun _=>?_|refine Zn ?_|refine Zj ?_|(apply Pin.mk;apply Exists.intro)|apply Pinned.mk rfl rfl|refine Zy ?_|fail))
    (conv=>whnf)
    (repeat' first|exact trivial|rfl|apply And.intro)
    all_goals first | exact hi | exact hh | exact w3 | exact w4
   ·(repeat' first|refine ZR ?_|refine Zg fun _=>?_)
    refine ⟨(i+1:Nat),by show (s.drop 1).length-(i+1)<(s.drop 1).length-i;omega,⟨by omega,fun j h4=>?_⟩,?_⟩
    ·by_cases e:j=i
     ·rw[e];exact c1
     ·exact hi3 j (by omega)
    ·(repeat' first|exact trivial|rfl|apply And.intro)
  ·have e:i=(s.drop 1).length:=by omega
   subst e
   obtain ⟨w1,w2⟩:=uP (s.drop 1) _ hi1 hi3 (.inl rfl)
   rw[List.take_length] at w1
   rw[List.drop_length] at w2
   rw[w1,w2]
   (repeat' first|refine ZR ?_|refine Zg fun _=>?_)
   (conv=>whnf)
   (repeat' first|exact trivial|rfl|apply And.intro)
   all_goals first | exact hi | exact hh | exact fun h=>h rfl
 ·have hD:digs s=s:=uO fun h e=>hm ⟨h,e⟩
  have hh:¬s.headD 0=45:=fun e=>by
   have h0:0<s.length:=Nat.pos_of_ne_zero fun h=>by rw[List.length_eq_zero_iff.1 h] at e;simp at e
   exact hm ⟨h0,(bJ h0 45).2 e⟩
  have hm2:¬(0<(s.length:Int))∨(0<(s.length:Int)∧¬aH s 0=45):=by
   by_cases h:0<s.length
   ·exact .inr ⟨by omega,fun e=>hm ⟨h,e⟩⟩
   ·exact .inl (by omega)
  rw[hD]
  have hi:aH s 0=45↔s.headD 0=45:=by
   constructor
   ·intro e
    by_cases h:0<s.length
    ·exact absurd ⟨h,e⟩ hm
    ·rw[List.length_eq_zero_iff.1 (show s.length=0 by omega)] at e
     exact absurd e (by decide)
   ·exact fun e=>absurd e hh
  rcases hm2 with hm2 | ⟨hm2,hm3⟩
  ·skip
   have hs:(s).length≤s.length:=by have:=kE s;rw[hD] at this;omega
   (repeat' first|refine ZR ?_|refine Zg fun _=>?_)
   refine Ask.mk ⟨{ X:=Nat,pre:=fun i=>i≤(s).length∧∀j,j<i→¬aH (s) j=47,mod:=fun i _=>[(8,I i)],heap:=fun _ _=>[],mu:=fun i=>(s).length-i },rfl,?_⟩
   (repeat refine ZG ?_)
   refine ⟨⟨(0:Nat),⟨Nat.zero_le _,fun j h2=>by omega⟩,by (repeat' first|exact trivial|rfl|apply And.intro)⟩,fun (i:Nat) hi'=>?_⟩
   obtain ⟨hi1,hi3⟩:=hi'
   by_cases hlt:i<(s).length
   ·exfalso;omega
   ·have e:i=(s).length:=by omega
    subst e
    obtain ⟨w1,w2⟩:=uP (s) _ hi1 hi3 (.inl rfl)
    rw[List.take_length] at w1
    rw[List.drop_length] at w2
    rw[w1,w2]
    (repeat' first|refine ZR ?_|refine Zg fun _=>?_)
    (conv=>whnf)
    (repeat' first|exact trivial|rfl|apply And.intro)
    all_goals first | exact hi | exact hh | exact fun h=>h rfl
  ·skip
   have hs:(s).length≤s.length:=by have:=kE s;rw[hD] at this;omega
   (repeat' first|refine ZR ?_|refine Zg fun _=>?_)
   refine Ask.mk ⟨{ X:=Nat,pre:=fun i=>i≤(s).length∧∀j,j<i→¬aH (s) j=47,mod:=fun i _=>[(8,I i)],heap:=fun _ _=>[],mu:=fun i=>(s).length-i },rfl,?_⟩
   (repeat refine ZG ?_)
   refine ⟨⟨(0:Nat),⟨Nat.zero_le _,fun j h2=>by omega⟩,by (repeat' first|exact trivial|rfl|apply And.intro)⟩,fun (i:Nat) hi'=>?_⟩
   obtain ⟨hi1,hi3⟩:=hi'
   by_cases hlt:i<(s).length
   ·by_cases c1:aH (s) i=47
    ·obtain ⟨w1,w2⟩:=uP (s) i hi1 hi3 (.inr ⟨hlt,c1⟩)
     have w3:(s).drop (i+1)=((s).drop i).tail:=List.tail_drop.symm
     have w4:¬(s).drop i= []:=fun h=>by
      have h9:((s).drop i).length=0:=by rw[h];rfl
      rw[List.length_drop] at h9
      omega
     rw[w1,w2]
     (repeat'((conv=>whnf);first|refine Zg fun _=>?_|refine Zn ?_|refine Zj ?_|(apply Pin.mk;apply Exists.intro)|apply Pinned.mk rfl rfl|refine Zy ?_|fail))
     (conv=>whnf)
     (repeat' first|exact trivial|rfl|apply And.intro)
     all_goals first | exact hi | exact hh | exact w3 | exact w4
    ·(repeat' first|refine ZR ?_|refine Zg fun _=>?_)
     refine ⟨(i+1:Nat),by show (s).length-(i+1)<(s).length-i;omega,⟨by omega,fun j h4=>?_⟩,?_⟩
     ·by_cases e:j=i
      ·rw[e];exact c1
      ·exact hi3 j (by omega)
     ·(repeat' first|exact trivial|rfl|apply And.intro)
   ·have e:i=(s).length:=by omega
    subst e
    obtain ⟨w1,w2⟩:=uP (s) _ hi1 hi3 (.inl rfl)
    rw[List.take_length] at w1
    rw[List.drop_length] at w2
    rw[w1,w2]
    (repeat' first|refine ZR ?_|refine Zg fun _=>?_)
    (conv=>whnf)
    (repeat' first|exact trivial|rfl|apply And.intro)
    all_goals first | exact hi | exact hh | exact fun h=>h rfl
def c116:Con:=aI 233 true fun args K=>match args with
 | [.agg [.bl p hp,.seq (.int .i64) a]]=>Need (fF a∧a.length≤200) (K (S (itoa (@sgP p hp (valB B6 a)))))
 | [.agg [.val (.bool false),.seq (.int .i64) a]]=>Need (fF a∧a.length≤200) (K (S (itoa (valB B6 a))))
 | _=>False
theorem pow6 (k:Nat):(B6:Nat)^k=10^ (6*k):=by
 rw[show B6=10^6 by decide,← Nat.pow_mul]
theorem Gm {k:Nat} (h:k≤300):10^k≤B6^50:=by
 rw[pow6]
 obtain ⟨m,hm⟩:∃m,6*50=m:=⟨_,rfl⟩
 rw[hm]
 exact Nat.pow_le_pow_right (by omega) (by omega)
theorem kF {s:List UInt8} (h:form s) (hl:(digs s).length≤300):aF (digs s)<B6^50:=
 Nat.lt_of_lt_of_le (cE (digs s) h.2.2) (Gm hl)
theorem vX {s:List UInt8} (h:form s) (hl:s.length≤17): -1000000000000000000<valI s∧valI s<1000000000000000000:=dM h (by omega)
theorem Yk {n k:Nat} (hk:k+1≤300) (h:n<10^ (k+1)):resI (n:Int)=(itoa n,0):=by
 unfold resI lim
 rw[if_neg]
 have:=iJ k n h
 simp;omega
theorem Ku {n:Nat} (h:n<B6^50):resI (n:Int)=(itoa n,0):=by
 rw[pow6] at h
 obtain ⟨k,hk⟩:∃k,6*50=k+1:=⟨299,rfl⟩
 rw[hk] at h
 exact Yk (by omega) h
theorem b86 (a b:List UInt8):body Tryz.prog [c110,c111,c61,c112,c113,c116] { asks:=[(0,[]),(2,[])] } true Tryz.f196 [S a,S b] (.tup [S (bX a b (resI (Int.gcd (valI a) (valI b)))).1,I (bX a b (resI (Int.gcd (valI a) (valI b)))).2]):=by
 unfold bX
 (apply Br.mk<;>intro)
 ·rename_i h
  rw[if_pos h]
  (conv=>whnf)
  (repeat' first|exact trivial|rfl|apply And.intro)
 ·rename_i h
  rw[if_neg h]
  obtain ⟨ha,hb⟩:=fZ h
  obtain ⟨fa,la⟩:=bR ha
  obtain ⟨fb,lb⟩:=bR hb
  have pM:=kF fa la
  have pN:=kF fb lb
  have hgv:Int.gcd (valI a) (valI b)=Nat.gcd (aF (digs a)) (aF (digs b)):=by
   unfold Int.gcd
   rw[dS,dS,nD,nD]
  refine Need.mk ⟨fa,fb⟩ ?_
  (apply Br.mk<;>intro)
  ·rename_i hs
   have h1:=vX fa hs.1
   have h2:=vX fb hs.2
   refine Ask.mk ⟨{ X:=Int × Int,pre:=fun z=>Int.gcd z.1 z.2=Int.gcd (valI a) (valI b)∧z.1.natAbs≤1000000000000000000∧z.2.natAbs≤1000000000000000000,mod:=fun z _=>[(7,I z.1),(8,I z.2)],heap:=fun _ _=>[],mu:=fun z=>z.2.natAbs },rfl,?_⟩
   (repeat refine ZG ?_)
   refine ⟨⟨(valI a,valI b),⟨rfl,by show (valI a).natAbs≤ _;omega,by show (valI b).natAbs≤ _;omega⟩,by (repeat' first|exact trivial|rfl|apply And.intro)⟩,fun (z:Int × Int) hz=>?_⟩
   obtain ⟨z1,z2,z3⟩:=hz
   (apply Br.mk<;>intro)
   ·rename_i hy
    have hm:(z.1.tmod z.2).natAbs<z.2.natAbs:=by rw[Int.natAbs_tmod];exact Nat.mod_lt _ (by omega)
    (repeat'((conv=>whnf);first|refine Zb ?_|(apply Pin.mk;apply Exists.intro)|apply Pinned.mk rfl rfl|fail))
    (conv=>whnf)
    refine ⟨(z.2,z.1.tmod z.2),hm,⟨by rw[← z1];exact tE _ _,z3,by show (z.1.tmod z.2).natAbs≤ _;omega⟩,?_⟩
    (repeat' first|exact trivial|rfl|apply And.intro)
   ·rename_i hy
    have hy:z.2=0:=by omega
    have hg:((Int.gcd (valI a) (valI b):Nat):Int)=max z.1 (-z.1):=by
     rw[← z1,hy,Int.gcd_zero_right]
     omega
    rw[hg,eO (by omega)]
    (repeat refine ZG ?_)
    (conv=>whnf)
    (repeat' first|exact trivial|rfl|apply And.intro)
  ·rename_i hs
   rw[hgv]
   (apply Br.mk<;>intro)
   all_goals (
    refine Need.mk ⟨fa,by omega⟩ ?_
    refine Need.mk ⟨fb,by omega⟩ ?_
    refine Ask.mk ⟨{ X:=Nat × Nat,pre:=fun z=>Nat.gcd z.1 z.2=Nat.gcd (aF (digs a)) (aF (digs b))∧z.1<B6^50∧z.2<B6^50,mod:=fun z _=>[(10,Ls (aA B6 z.1)),(11,Ls (aA B6 z.2))],heap:=fun _ _=>[],mu:=fun z=>z.2 },rfl,?_⟩
    (repeat refine ZG ?_)
    refine ⟨⟨(aF (digs a),aF (digs b)),⟨rfl,pM,pN⟩,by (repeat' first|exact trivial|rfl|apply And.intro)⟩,fun (z:Nat × Nat) hz=>?_⟩
    obtain ⟨z1,z2,z3⟩:=hz
    have l1:=iE z2
    have hpw:B6^50≤B6^100:=Nat.pow_le_pow_right (by decide) (by omega)
    (repeat'((conv=>whnf);first|refine Zg fun _=>?_|fail))
    (apply Br.mk<;>intro)
    ·rename_i hy
     have hy:0<z.2:=Nat.pos_of_ne_zero fun e=>by rw[e,aW] at hy;exact absurd hy (by decide)
     refine Need.mk ⟨aN (by decide) _,jH _,⟨by rw[v6,Int.toNat_natCast];exact hy,by rw[v6,Int.toNat_natCast];exact Nat.lt_of_lt_of_le z3 hpw⟩,by omega⟩ ?_
     rw[v6,v6,← Int.natCast_ediv,← Int.natCast_emod,Int.toNat_natCast,Int.toNat_natCast]
     refine ⟨(z.2,z.1%z.2),Nat.mod_lt _ hy,⟨by rw[← z1];show Nat.gcd z.2 (z.1%z.2)= _;rw[Nat.gcd_comm z.1 z.2,Nat.gcd_rec z.2 z.1];exact Nat.gcd_comm _ _,z3,Nat.lt_trans (Nat.mod_lt _ hy) z3⟩,?_⟩
     (repeat' first|exact trivial|rfl|apply And.intro)
    ·rename_i hy
     have hy:z.2=0:=(gY (B:=B6) (by decide)).1 (List.eq_nil_of_length_eq_zero (by omega))
     rw[hy,Nat.gcd_zero_right] at z1
     rw[← z1,Ku z2]
     refine Need.mk ⟨jH _,by omega⟩ ?_
     rw[v6]
     (conv=>whnf)
     (repeat' first|exact trivial|rfl|apply And.intro))
noncomputable def c86:Con:=aI 196 true fun args K=>match args with
 | [.str a,.str b]=>K (.tup [S (bX a b (resI (Int.gcd (valI a) (valI b)))).1,I (bX a b (resI (Int.gcd (valI a) (valI b)))).2])
 | _=>False
theorem Yl (s:List UInt8):(topS s).headD 0=45↔s.headD 0=45:=by
 cases s with
 | nil=>exact Iff.rfl
 | cons c r=>
  unfold topS
  rw[List.takeWhile_cons]
  by_cases h:c=47
  ·subst h
   constructor
   ·intro e;simp at e
   ·intro e;simp at e
  ·have hb:(c != 47)=true:=by simpa using h
   rw[hb];exact Iff.rfl
theorem Dj (s:List UInt8):jA s↔okD (digs (topS s))∧¬(s.headD 0=45∧digs (topS s)= [48])∧(botS s= []∨(okD (botS s).tail∧¬(botS s).tail= [48]∧¬(botS s).tail= [49])):=by
 unfold jA
 rw[Jt,Yl,and_assoc]
 refine and_congr_right fun _=>and_congr_right fun _=>?_
 by_cases h:botS s= []
 ·exact ⟨fun _=>.inl h,fun _=>.inl h⟩
 ·have e:denS s=aF (botS s).tail:=by unfold denS;rw[if_neg h]
  rw[e,Pt]
theorem aBk {s:List UInt8} (h:¬(okD (digs (topS s))∧¬(s.headD 0=45∧digs (topS s)= [48])∧(botS s= []∨(okD (botS s).tail∧¬(botS s).tail= [48]∧¬(botS s).tail= [49])))):chkQ s=11:=by
 unfold chkQ;rw[if_neg fun e=>h ((Dj s).1 e)]
theorem Ni (s:List UInt8):(valI (topS s)).natAbs=aF (digs (topS s)):=by rw[dS,nD]
theorem Qx {t:List UInt8} (h:okD t) (hl:t.length≤300):chkI t=0∧valI t=aF t:=by
 rw[gI] at h
 obtain ⟨h1,h2,h3⟩:=h
 have hh:¬t.headD 0=45:=fun e=>by
  cases t with
  | nil=>exact h1 rfl
  | cons c r=>
   have hc:c=45:=e
   have:=h2 c (by simp)
   subst hc
   exact absurd this (by decide)
 have hd:digs t=t:=by unfold digs;rw[if_neg hh]
 have hf:form t:=by
  refine ⟨by rw[hd];exact h1,?_,by rw[hd];exact h2⟩
  rw[hd]
  by_cases h48:t.headD 0=48
  ·rcases h3 with h3 | h3
   ·exact .inr (Ps h3 h48)
   ·exact absurd h48 h3
  ·exact .inl h48
 refine ⟨by rw[gK hf,hd,if_neg (by omega)],by unfold valI;rw[if_neg hh]⟩
theorem aBl {x y:List UInt8} (hx:okD x) (hy:okD y) (lx:x.length≤300) (ly:y.length≤300):(bX x y (resI (Int.gcd (valI x) (valI y)))).1= [49]↔(aF x).gcd (aF y)=1:=by
 obtain ⟨c1,v1⟩:=Qx hx lx
 obtain ⟨c2,v2⟩:=Qx hy ly
 have hg:Int.gcd (valI x) (valI y)=(aF x).gcd (aF y):=by rw[v1,v2];rfl
 have hpos:(aF x).gcd (aF y)<B6^50:=by
  have b1:=Nat.lt_of_lt_of_le (cE x ((gI x).1 hx).2.1) (Gm lx)
  have b2:=Nat.lt_of_lt_of_le (cE y ((gI y).1 hy).2.1) (Gm ly)
  rcases Nat.eq_zero_or_pos (aF x) with h | h
  ·rw[h,Nat.gcd_zero_left];exact b2
  ·exact Nat.lt_of_le_of_lt (Nat.gcd_le_left _ h) b1
 unfold bX chk2
 rw[if_neg (by rw[c1];simp[c2]),hg,Ku hpos]
 dsimp only
 rw[show ([49]:List UInt8)=itoa ((1:Nat):Int) from by decide+kernel]
 constructor
 ·intro e;have:=iV e;omega
 ·intro e;rw[e]
theorem Ym {s:List UInt8} (h:okD (digs (topS s))∧¬(s.headD 0=45∧digs (topS s)= [48])∧(botS s= []∨(okD (botS s).tail∧¬(botS s).tail= [48]∧¬(botS s).tail= [49]))):
  chkQ s=if 300<(digs (topS s)).length∨300<(botS s).tail.length then 4 else if (aF (digs (topS s))).gcd (denS s)=1 then 0 else 11:=by
 unfold chkQ
 rw[if_pos ((Dj s).2 h),Ni]
theorem b44n (s:List UInt8) (h:¬(okD (digs (topS s))∧¬(s.headD 0=45∧digs (topS s)= [48])∧(botS s= []∨(okD (botS s).tail∧¬(botS s).tail= [48]∧¬(botS s).tail= [49])))):body Tryz.prog [c73,c83,c85,c84,c86] {} true Tryz.f161 [S s] (I (chkQ s)):=by
 rw[aBk h]
 by_cases h1:okD (digs (topS s))
 ·by_cases h3:botS s= []
  ·have h4:¬ ¬botS s= []:=fun h=>h h3
   have h5:s.headD 0=45∧digs (topS s)= [48]:=Classical.byContradiction fun e=>h ⟨h1,e,.inl h3⟩
   obtain ⟨h5,h6⟩:=h5
   (repeat refine ZR ?_)
   (conv=>whnf)
   (repeat' first|rfl|apply And.intro)
  ·by_cases h5:okD (botS s).tail
   ·by_cases h6:(botS s).tail= [48]
    ·(repeat refine ZR ?_)
     (conv=>whnf)
     (repeat' first|rfl|apply And.intro)
    ·by_cases h7:(botS s).tail= [49]
     ·(repeat refine ZR ?_)
      (conv=>whnf)
      (repeat' first|rfl|apply And.intro)
     ·have h8:s.headD 0=45∧digs (topS s)= [48]:=Classical.byContradiction fun e=>h ⟨h1,e,.inr ⟨h5,h6,h7⟩⟩
      obtain ⟨h8,h9⟩:=h8
      (repeat refine ZR ?_)
      (conv=>whnf)
      (repeat' first|rfl|apply And.intro)
   ·(repeat refine ZR ?_)
    (conv=>whnf)
    (repeat' first|rfl|apply And.intro)
 ·(repeat refine ZR ?_)
  (conv=>whnf)
  (repeat' first|rfl|apply And.intro)
theorem b44y (s:List UInt8) (h:okD (digs (topS s))∧¬(s.headD 0=45∧digs (topS s)= [48])∧(botS s= []∨(okD (botS s).tail∧¬(botS s).tail= [48]∧¬(botS s).tail= [49]))):body Tryz.prog [c73,c83,c85,c84,c86] {} true Tryz.f161 [S s] (I (chkQ s)):=by
 rw[Ym h]
 obtain ⟨h1,h2,h3⟩:=h
 have d1:=((gI _).1 h1).2.1
 have h2:¬s.headD 0=45∨(s.headD 0=45∧¬digs (topS s)= [48]):=by
  by_cases e:s.headD 0=45
  ·exact .inr ⟨e,fun e2=>h2 ⟨e,e2⟩⟩
  ·exact .inl e
 by_cases hb:botS s= []
 ·have hb':¬ ¬botS s= []:=fun h=>h hb
  have hl:(botS s).tail.length=0:=by rw[hb];rfl
  have hd:denS s=1:=by unfold denS;rw[if_pos hb]
  rw[hd]
  have hg1:=Nat.gcd_one_right (aF (digs (topS s)))
  by_cases h300:300<(digs (topS s)).length
  ·rw[if_pos (.inl h300)]
   rcases h2 with h2 | ⟨h2,h4⟩
   all_goals (
    (repeat' first|refine ZR ?_|refine Zg fun _=>?_)
    (conv=>whnf)
    (repeat' first|rfl|apply And.intro))
  ·rw[if_neg (by omega),if_pos hg1]
   rcases h2 with h2 | ⟨h2,h4⟩
   all_goals (
    (repeat' first|refine ZR ?_|refine Zg fun _=>?_)
    (conv=>whnf)
    (repeat' first|rfl|apply And.intro))
 ·have hd:denS s=aF (botS s).tail:=by unfold denS;rw[if_neg hb]
  rw[hd]
  obtain ⟨h5,h6,h7⟩:=h3.resolve_left hb
  have d2:=((gI _).1 h5).2.1
  by_cases h300:300<(digs (topS s)).length
  ·rw[if_pos (.inl h300)]
   rcases h2 with h2 | ⟨h2,h4⟩
   all_goals (
    (repeat' first|refine ZR ?_|refine Zg fun _=>?_)
    (conv=>whnf)
    (repeat' first|rfl|apply And.intro))
  ·by_cases h301:300<(botS s).tail.length
   ·rw[if_pos (.inr h301)]
    rcases h2 with h2 | ⟨h2,h4⟩
    all_goals (
     (repeat' first|refine ZR ?_|refine Zg fun _=>?_)
     (conv=>whnf)
     (repeat' first|rfl|apply And.intro))
   ·rw[if_neg (by omega)]
    by_cases h9:(digs (topS s)).length≤9∧(botS s).tail.length≤9
    ·obtain ⟨h9,h10⟩:=h9
     have n9:(10:Nat)^9=1000000000:=by decide
     have b1:=cE _ d1
     have b2:=cE _ d2
     have b1':(10:Nat)^ (digs (topS s)).length≤10^9:=Nat.pow_le_pow_right (by omega) h9
     have b2':(10:Nat)^ (botS s).tail.length≤10^9:=Nat.pow_le_pow_right (by omega) h10
     have hgi:Int.gcd (aF (digs (topS s)):Int) (aF (botS s).tail:Int)=(aF (digs (topS s))).gcd (aF (botS s).tail):=rfl
     by_cases hg:(aF (digs (topS s))).gcd (aF (botS s).tail)=1
     ·rw[if_pos hg]
      rcases h2 with h2 | ⟨h2,h4⟩
      all_goals (
       (repeat'((conv=>whnf);first|refine Zg fun _=>?_|refine Zy ?_|refine Zm ?_|fail))
       refine Need.mk ⟨d1,by omega⟩ ?_
       refine Need.mk ⟨d2,by omega⟩ ?_
       (repeat refine ZR ?_)
       (conv=>whnf)
       (repeat' first|rfl|apply And.intro))
     ·rw[if_neg hg]
      rcases h2 with h2 | ⟨h2,h4⟩
      all_goals (
       (repeat'((conv=>whnf);first|refine Zg fun _=>?_|refine Zy ?_|refine Zm ?_|fail))
       refine Need.mk ⟨d1,by omega⟩ ?_
       refine Need.mk ⟨d2,by omega⟩ ?_
       (repeat refine ZR ?_)
       (conv=>whnf)
       (repeat' first|rfl|apply And.intro))
    ·have hgs:=aBl h1 h5 (by omega) (by omega)
     have h9:¬((digs (topS s)).length:Int)≤9∨(((digs (topS s)).length:Int)≤9∧¬((botS s).tail.length:Int)≤9):=by omega
     by_cases hg:(aF (digs (topS s))).gcd (aF (botS s).tail)=1
     ·rw[if_pos hg]
      have hg2:=hgs.2 hg
      rcases h2 with h2 | ⟨h2,h4⟩
      all_goals (
       rcases h9 with h9 | ⟨h9,h10⟩
       all_goals (
        (repeat' first|refine ZR ?_|refine Zg fun _=>?_)
        (conv=>whnf)
        (repeat' first|rfl|apply And.intro)))
     ·rw[if_neg hg]
      have hg2:¬ _= _:=fun e=>hg (hgs.1 e)
      rcases h2 with h2 | ⟨h2,h4⟩
      all_goals (
       rcases h9 with h9 | ⟨h9,h10⟩
       all_goals (
        (repeat' first|refine ZR ?_|refine Zg fun _=>?_)
        (conv=>whnf)
        (repeat' first|rfl|apply And.intro)))
theorem b44 (s:List UInt8):body Tryz.prog [c73,c83,c85,c84,c86] {} true Tryz.f161 [S s] (I (chkQ s)):=by
 by_cases h:okD (digs (topS s))∧¬(s.headD 0=45∧digs (topS s)= [48])∧(botS s= []∨(okD (botS s).tail∧¬(botS s).tail= [48]∧¬(botS s).tail= [49]))
 ·exact b44y s h
 ·exact b44n s h
theorem Aj (x:Int):∀l:List Int,wrG (l++ [x])=six x.toNat++wrG l
 | []=>by simp[wrG]
 | y::r=>by
  show wrG (r++ [x])++six y.toNat=six x.toNat++(wrG r++six y.toNat)
  rw[Aj x r,List.append_assoc]
abbrev U (l:List Int):HO:=.vec 1 (.int .u8) l 5
theorem i0:itoa (valB B6 [])= [48]:=by show itoa 0= [48];simp[itoa,decDigits]
def lowD (x:Nat):Nat→List Int
 | 0=>[]
 | j+1=>((48+x/10^j%10:Nat):Int)::lowD x j
theorem Kr (x:Nat):∀j,(lowD x j).length=j
 | 0=>rfl
 | j+1=>by rw[lowD,List.length_cons,Kr x j]
theorem Xz (x:Nat):lowD x 6=aM (six x):=by
 have d:∀n,(((UInt8.ofNat (48+n%10)).toNat:Nat):Int)=((48+n%10:Nat):Int):=fun n=>by rw[dP (by omega)]
 simp only[lowD,six,aM,List.map_cons,List.map_nil,d,Nat.reducePow,Nat.div_one]
def oT (l:List Int) (i j:Nat):List Int:=List.replicate (6*(l.length-i)-j) 0++(lowD (l.getD i 0).toNat j++aM (wrG (l.take i)))
theorem Ak (s:List UInt8):(aM s).length=s.length:=by simp[aM]
theorem aEj {l:List Int} {i j:Nat} (hi:i≤l.length) (hj:j≤6*(l.length-i)):(oT l i j).length=6*l.length:=by
 simp only[oT,List.length_append,List.length_replicate,Kr,Ak,Fo,List.length_take]
 omega
theorem aBg (l:List Int):oT l 0 0=List.replicate (6*l.length) 0:=by
 simp[oT,lowD,wrG,aM]
theorem aEk (l:List Int):oT l l.length 0=aM (wrG l):=by
 simp[oT,lowD]
theorem aEl {l:List Int} {i:Nat} (hi:i<l.length):oT l i 6=oT l (i+1) 0:=by
 have e1:6*(l.length-i)-6=6*(l.length-(i+1))-0:=by omega
 have e2:l.take (i+1)=l.take i++ [l.getD i 0]:=by
  rw[List.take_succ_eq_append_getElem hi]
  simp[List.getD_eq_getElem?_getD,hi]
 unfold oT
 rw[e1,e2,Aj,Xz]
 simp[lowD,aM]
theorem Ya (m:Nat) (v:Int) (r:List Int):(List.replicate (m+1) (0:Int)++r).set m v=List.replicate m 0++(v::r):=by
 rw[List.replicate_succ',List.append_assoc,List.set_append_right _ _ (by simp)]
 simp
theorem aEm {l:List Int} {i j k:Nat} {v:Int} (hi:i<l.length) (hj:j<6) (hk:k=6*(l.length-i)-(j+1)) (hv:v=((48+(l.getD i 0).toNat/10^j%10:Nat):Int)):(oT l i j).set k v=oT l i (j+1):=by
 subst hk hv
 unfold oT
 obtain ⟨m,hm⟩:∃m,m=6*(l.length-i)-(j+1):=⟨_,rfl⟩
 rw[show 6*(l.length-i)-j=m+1 by omega,← hm,Ya]
 rfl
theorem dU (s:List UInt8):bN (aM s)=s:=by
 unfold bN aM
 rw[List.map_map]
 conv=>rhs;rw[← List.map_id s]
 refine List.map_congr_left fun b _=>?_
 simp
theorem dz {n m:Nat} (h:n<10*m) (e:n/m%10=0):n<m:=by
 have h1:n/m<10:=Nat.div_lt_of_lt_mul (by rw[Nat.mul_comm];exact h)
 rw[Nat.mod_eq_of_lt h1] at e
 have hm:0<m:=by
  rcases Nat.eq_zero_or_pos m with e0 | e0
  ·subst e0;omega
  ·exact e0
 rcases Nat.div_eq_zero_iff.1 e with h2 | h2
 ·omega
 ·exact h2
theorem dsum {n:Nat} (h0:0<n) (h:n<1000000):0<n/100000%10+n/10000%10+n/1000%10+n/100%10+n/10%10+n%10:=by
 refine Nat.pos_of_ne_zero fun e=>?_
 obtain ⟨e,e5⟩:=Nat.add_eq_zero_iff.1 e
 obtain ⟨e,e4⟩:=Nat.add_eq_zero_iff.1 e
 obtain ⟨e,e3⟩:=Nat.add_eq_zero_iff.1 e
 obtain ⟨e,e2⟩:=Nat.add_eq_zero_iff.1 e
 obtain ⟨e0,e1⟩:=Nat.add_eq_zero_iff.1 e
 have a0:=dz (m:=100000) h e0
 have a1:=dz (m:=10000) a0 e1
 have a2:=dz (m:=1000) a1 e2
 have a3:=dz (m:=100) a2 e3
 have a4:=dz (m:=10) a3 e4
 omega
theorem Yb {a:List Int} {d0 d1 d2 d3 d4 d5:Nat} {R:List UInt8} (hw:wrG a=UInt8.ofNat (48+d0)::UInt8.ofNat (48+d1)::UInt8.ofNat (48+d2)::UInt8.ofNat (48+d3)::UInt8.ofNat (48+d4)::UInt8.ofNat (48+d5)::R) (hd:d0≤9∧d1≤9∧d2≤9∧d3≤9∧d4≤9∧d5≤9):oT a a.length 0=(48+d0:Int)::(48+d1:Int)::(48+d2:Int)::(48+d3:Int)::(48+d4:Int)::(48+d5:Int)::aM R:=by
 have e:∀d:Nat,d≤9→(((UInt8.ofNat (48+d)).toNat:Nat):Int)=48+d:=fun d h=>by
  rw[UInt8.toNat_ofNat'];omega
 rw[aEk,hw]
 simp only[aM,List.map_cons,e d0 hd.1,e d1 hd.2.1,e d2 hd.2.2.1,e d3 hd.2.2.2.1,e d4 hd.2.2.2.2.1,e d5 hd.2.2.2.2.2]
theorem bI (d:Nat) (X:List Int):bN ((48+(d:Int))::X)=UInt8.ofNat (48+d)::bN X:=by
 show UInt8.ofNat (48+(d:Int)).toNat::bN X= _
 rw[show (48+(d:Int)).toNat=48+d by omega]
theorem uK {p:Prop} {hp:Decidable p} {a:List Int} {d:Nat} {X:List Int} {Y:List UInt8} (h:¬p) (hv:0<valB B6 a) (hY:bN X=Y) (hf:UInt8.ofNat (48+d)::Y=decDigits (valB B6 a).toNat):bN ((48+(d:Int))::X)=itoa (sgP p (valB B6 a)):=by
 rw[bI,hY,hf]
 unfold sgP itoa
 rw[if_neg h,if_neg (by omega)]
theorem uL {p:Prop} {hp:Decidable p} {a:List Int} {d:Nat} {X:List Int} {Y:List UInt8} (h:p) (hv:0<valB B6 a) (hY:bN X=Y) (hf:UInt8.ofNat (48+d)::Y=decDigits (valB B6 a).toNat):(45:UInt8)::bN ((48+(d:Int))::X)=itoa (sgP p (valB B6 a)):=by
 rw[bI,hY,hf]
 unfold sgP itoa
 rw[if_pos h,if_pos (by omega),Int.natAbs_neg]
 congr 2
 omega
theorem aBh {a:List Int} (h:fF a) (hp:0<valB B6 a):(wrG a).dropWhile (· ==48)=decDigits (valB B6 a).toNat:=aAh (uN h) hp
theorem Yc {a:List Int} (h:fF a) (hp:a≠ []):∃d0 d1 d2 d3 d4 d5:Nat,∃R:List UInt8,wrG a=UInt8.ofNat (48+d0)::UInt8.ofNat (48+d1)::UInt8.ofNat (48+d2)::UInt8.ofNat (48+d3)::UInt8.ofNat (48+d4)::UInt8.ofNat (48+d5)::R∧R.length≤6*a.length∧(d0≤9∧d1≤9∧d2≤9∧d3≤9∧d4≤9∧d5≤9)∧0<d0+d1+d2+d3+d4+d5∧0<valB B6 a:=by
 have hin:=uN h
 have hlast:∀(l:List Int),aA B6 (valB B6 a).toNat=l→∀hl:l≠ [],l.getLast hl≠0:=by
  intro l hl;subst hl;exact mW (by decide) _
 have hx:=hlast a h hp
 have hv:0<valB B6 a:=by
  have h1:=An h
  rcases Nat.eq_zero_or_pos (valB B6 a).toNat with e | e
  ·exfalso
   have h2:aA B6 (valB B6 a).toNat=a:=h
   rw[e] at h2
   exact hp (by rw[← h2];simp[aA])
  ·omega
 obtain ⟨x,hxe⟩:∃x,a.getLast hp=x:=⟨_,rfl⟩
 rw[hxe] at hx
 have hmem:x∈a:=by rw[← hxe];exact List.getLast_mem hp
 have hxb:0≤x∧x<((B6:Nat):Int):=hin x hmem
 have hb6:((B6:Nat):Int)=1000000:=rfl
 rw[hb6] at hxb
 have ha:wrG a=six x.toNat++wrG a.dropLast:=by
  rw[← Aj,← hxe,List.dropLast_concat_getLast hp]
 refine ⟨x.toNat/100000%10,x.toNat/10000%10,x.toNat/1000%10,x.toNat/100%10,x.toNat/10%10,x.toNat%10,wrG a.dropLast,by rw[ha];rfl,?_,⟨by omega,by omega,by omega,by omega,by omega,by omega⟩,dsum (by omega) (by omega),hv⟩
 rw[Fo,List.length_dropLast]
 omega
theorem uM {a:List Int} (h:fF a) (hp:0<valB B6 a) (pre X:List UInt8) (d:Nat) (hd:0<d∧d≤9) (hw:wrG a=pre++UInt8.ofNat (48+d)::X) (hpre:∀b∈pre,b=48):UInt8.ofNat (48+d)::X=decDigits (valB B6 a).toNat:=by
 have hc:UInt8.ofNat (48+d)≠48:=by
  intro e
  have h1:=congrArg UInt8.toNat e
  have h2:(UInt8.ofNat (48+d)).toNat=48+d:=by rw[UInt8.toNat_ofNat'];omega
  rw[h2] at h1
  have:(48:UInt8).toNat=48:=rfl
  omega
 rw[← aBh h hp,hw]
 clear hw
 induction pre with
 | nil=>rw[List.nil_append,List.dropWhile_cons_of_neg (by simpa using hc)]
 | cons b r ih=>
  rw[hpre b (by simp),List.cons_append,List.dropWhile_cons_of_pos (by simp)]
  exact ih fun b hb=>hpre b (by simp[hb])
theorem b116 (p:Prop) (hp:Decidable p) (a:List Int) (h:fF a∧a.length≤200):body Tryz.prog [] { asks:=[(0,[]),(2,[])] } true Tryz.f233 [.agg [.bl p hp,Ls a]] (S (itoa (sgP p (valB B6 a)))):=by
 obtain ⟨hc,hl⟩:=h
 by_cases he:a= []
 ·subst he
  (repeat'((conv=>whnf);first|refine Zg fun _=>?_|fail))
  (apply Br.mk<;>intro)
  ·skip
   (conv=>whnf)
   show [48]=itoa (if p then -0 else 0)
   split<;>exact i0.symm
  ·rename_i hx
   exact (hx rfl).elim
 ·obtain ⟨d0,d1,d2,d3,d4,d5,R,hw,hR,hd,hs,hpos⟩:=Yc hc he
  have hin:=uN hc
  have hn:0<a.length:=List.length_pos_iff.2 he
  (repeat'((conv=>whnf);first|refine Zg fun _=>?_|refine Zn ?_|refine Zm ?_|fail))
  refine Need.mk ⟨by omega,by omega,by omega,show 6*(a.length:Int)*((1:Nat):Int)≤140737488355328 by omega⟩ ?_
  refine Ask.mk ⟨{ X:=Nat,pre:=fun i=>i≤a.length,mod:=fun i _=>[(4,I i)],heap:=fun i H=>[hget H 0,U (oT a i 0)],mu:=fun i=>a.length-i },rfl,?_⟩
  (repeat refine ZG ?_)
  refine ⟨⟨(0:Nat),Nat.zero_le _,?_⟩,fun (i:Nat) (hi:i≤a.length)=>?_⟩
  ·(repeat' first|exact trivial|rfl|apply And.intro)
   rw[aBg]
   show List.replicate _ _=List.replicate _ _
   congr 1
  have gi:=hin (a.getD i 0)
  (repeat'((conv=>whnf);first|refine Zg fun _=>?_|fail))
  (apply Br.mk<;>intro)
  ·have hlt:i<a.length:=by omega
   have gx:0≤a.getD i 0∧a.getD i 0<1000000:=by
    refine hin _ ?_
    rw[List.getD_eq_getElem?_getD,List.getElem?_eq_getElem hlt]
    exact List.getElem_mem hlt
   (repeat' first|refine ZG ?_|refine Zg fun _=>?_)
   refine Ask.mk ⟨{ X:=Nat,pre:=fun k=>k≤6,mod:=fun k _=>[(5,I (a.getD i 0/((10^k:Nat):Int))),(6,I (k+1))],heap:=fun k H=>[hget H 0,U (oT a i k)],mu:=fun k=>6-k },rfl,?_⟩
   (repeat refine ZG ?_)
   refine ⟨⟨(0:Nat),Nat.zero_le _,?_⟩,fun (k:Nat) (hk:k≤6)=>?_⟩
   ·(repeat' first|exact trivial|rfl|apply And.intro|omega)
   (apply Br.mk<;>intro)
   ·have hk6:k<6:=by omega
    obtain ⟨q,hq⟩:∃q,a.getD i 0/((10^k:Nat):Int)=q:=⟨_,rfl⟩
    have hq0:0≤q∧q<1000000:=by
     rw[← hq]
     have h1:(0:Int)<((10^k:Nat):Int):=Int.natCast_pos.2 (Nat.pow_pos (by omega))
     refine ⟨Int.ediv_nonneg gx.1 (by omega),?_⟩
     have:=Int.ediv_le_self ((10^k:Nat):Int) gx.1
     omega
    rw[hq]
    have tq:q.tmod 10=q%10:=Int.tmod_eq_emod_of_nonneg hq0.1
    have dq:q.tdiv 10=q/10:=Int.tdiv_eq_ediv_of_nonneg hq0.1
    have hln:=aEj (l:=a) (i:=i) (j:=k) (by omega) (by omega)
    (repeat' first|refine ZG ?_|refine Zg fun _=>?_)
    refine cG (6*(a.length-i)-(k+1)) (by omega) ?_
    (repeat refine ZG ?_)
    refine ⟨(k+1:Nat),by show 6-(k+1)<6-k;omega,hk6,?_⟩
    (repeat' first|exact trivial|rfl|apply And.intro)
    ·rw[← hq,Nat.pow_succ,Int.natCast_mul,Int.ediv_ediv_of_nonneg (Int.natCast_nonneg _)];rfl
    ·refine aEm hlt hk6 rfl ?_
     rw[← hq]
     have e1:a.getD i 0=((a.getD i 0).toNat:Int):=by omega
     rw[e1]
     simp only[Int.toNat_natCast]
     omega
   ·have e:k=6:=by omega
    subst e
    (repeat refine ZG ?_)
    refine ⟨(i+1:Nat),by show a.length-(i+1)<a.length-i;omega,hlt,?_⟩
    (repeat' first|exact trivial|rfl|apply And.intro)
    exact aEl hlt
  ·have e:i=a.length:=by omega
   subst e
   rw[Yb hw ⟨hd.1,hd.2.1,hd.2.2.1,hd.2.2.2.1,hd.2.2.2.2.1,hd.2.2.2.2.2⟩]
   have hk (n:Nat):List.length (α:=Int) (aM R)=R.length:=Ak R
   by_cases z0:d0=0
   ·subst z0
    by_cases z1:d1=0
    ·subst z1
     by_cases z2:d2=0
     ·subst z2
      by_cases z3:d3=0
      ·subst z3
       by_cases z4:d4=0
       ·subst z4
        by_cases z5:d5=0
        ·subst z5
         exfalso;omega
        ·have hf:=uM hc hpos [48,48,48,48,48] (R) d5 (by omega) hw (by simp)
         (repeat' first|refine ZG ?_|refine Zg fun _=>?_)
         refine Br.mkY (show (48+((0:Nat):Int))=48 by omega) ?_
         (repeat' first|refine ZG ?_|refine Zg fun _=>?_)
         refine Br.mkY (show (48+((0:Nat):Int))=48 by omega) ?_
         (repeat' first|refine ZG ?_|refine Zg fun _=>?_)
         refine Br.mkY (show (48+((0:Nat):Int))=48 by omega) ?_
         (repeat' first|refine ZG ?_|refine Zg fun _=>?_)
         refine Br.mkY (show (48+((0:Nat):Int))=48 by omega) ?_
         (repeat' first|refine ZG ?_|refine Zg fun _=>?_)
         refine Br.mkY (show (48+((0:Nat):Int))=48 by omega) ?_
         (repeat' first|refine ZG ?_|refine Zg fun _=>?_)
         refine Br.mkN (show ¬(48+(d5:Int))=48 by omega) ?_
         (apply Br.mk<;>intro)
         ·rename_i hp'
          refine Need.mk (show 1+(bN ((48+(d5:Int))::(aM R))).length≤140737488355328 by (simp only[bN,aM,List.length_map,List.length_cons];omega)) ?_
          (conv=>whnf)
          exact uL hp' hpos (X:=(aM R)) (by simp only[bI,dU]) hf
         ·rename_i hp'
          (conv=>whnf)
          exact uK hp' hpos (X:=(aM R)) (by simp only[bI,dU]) hf
       ·have hf:=uM hc hpos [48,48,48,48] (UInt8.ofNat (48+d5)::R) d4 (by omega) hw (by simp)
        (repeat' first|refine ZG ?_|refine Zg fun _=>?_)
        refine Br.mkY (show (48+((0:Nat):Int))=48 by omega) ?_
        (repeat' first|refine ZG ?_|refine Zg fun _=>?_)
        refine Br.mkY (show (48+((0:Nat):Int))=48 by omega) ?_
        (repeat' first|refine ZG ?_|refine Zg fun _=>?_)
        refine Br.mkY (show (48+((0:Nat):Int))=48 by omega) ?_
        (repeat' first|refine ZG ?_|refine Zg fun _=>?_)
        refine Br.mkY (show (48+((0:Nat):Int))=48 by omega) ?_
        (repeat' first|refine ZG ?_|refine Zg fun _=>?_)
        refine Br.mkN (show ¬(48+(d4:Int))=48 by omega) ?_
        (apply Br.mk<;>intro)
        ·rename_i hp'
         refine Need.mk (show 1+(bN ((48+(d4:Int))::((48+d5:Int)::aM R))).length≤140737488355328 by (simp only[bN,aM,List.length_map,List.length_cons];omega)) ?_
         (conv=>whnf)
         exact uL hp' hpos (X:=((48+d5:Int)::aM R)) (by simp only[bI,dU]) hf
        ·rename_i hp'
         (conv=>whnf)
         exact uK hp' hpos (X:=((48+d5:Int)::aM R)) (by simp only[bI,dU]) hf
      ·have hf:=uM hc hpos [48,48,48] (UInt8.ofNat (48+d4)::UInt8.ofNat (48+d5)::R) d3 (by omega) hw (by simp)
       (repeat' first|refine ZG ?_|refine Zg fun _=>?_)
       refine Br.mkY (show (48+((0:Nat):Int))=48 by omega) ?_
       (repeat' first|refine ZG ?_|refine Zg fun _=>?_)
       refine Br.mkY (show (48+((0:Nat):Int))=48 by omega) ?_
       (repeat' first|refine ZG ?_|refine Zg fun _=>?_)
       refine Br.mkY (show (48+((0:Nat):Int))=48 by omega) ?_
       (repeat' first|refine ZG ?_|refine Zg fun _=>?_)
       refine Br.mkN (show ¬(48+(d3:Int))=48 by omega) ?_
       (apply Br.mk<;>intro)
       ·rename_i hp'
        refine Need.mk (show 1+(bN ((48+(d3:Int))::((48+d4:Int)::(48+d5:Int)::aM R))).length≤140737488355328 by (simp only[bN,aM,List.length_map,List.length_cons];omega)) ?_
        (conv=>whnf)
        exact uL hp' hpos (X:=((48+d4:Int)::(48+d5:Int)::aM R)) (by simp only[bI,dU]) hf
       ·rename_i hp'
        (conv=>whnf)
        exact uK hp' hpos (X:=((48+d4:Int)::(48+d5:Int)::aM R)) (by simp only[bI,dU]) hf
     ·have hf:=uM hc hpos [48,48] (UInt8.ofNat (48+d3)::UInt8.ofNat (48+d4)::UInt8.ofNat (48+d5)::R) d2 (by omega) hw (by simp)
      (repeat' first|refine ZG ?_|refine Zg fun _=>?_)
      refine Br.mkY (show (48+((0:Nat):Int))=48 by omega) ?_
      (repeat' first|refine ZG ?_|refine Zg fun _=>?_)
      refine Br.mkY (show (48+((0:Nat):Int))=48 by omega) ?_
      (repeat' first|refine ZG ?_|refine Zg fun _=>?_)
      refine Br.mkN (show ¬(48+(d2:Int))=48 by omega) ?_
      (apply Br.mk<;>intro)
      ·rename_i hp'
       refine Need.mk (show 1+(bN ((48+(d2:Int))::((48+d3:Int)::(48+d4:Int)::(48+d5:Int)::aM R))).length≤140737488355328 by (simp only[bN,aM,List.length_map,List.length_cons];omega)) ?_
       (conv=>whnf)
       exact uL hp' hpos (X:=((48+d3:Int)::(48+d4:Int)::(48+d5:Int)::aM R)) (by simp only[bI,dU]) hf
      ·rename_i hp'
       (conv=>whnf)
       exact uK hp' hpos (X:=((48+d3:Int)::(48+d4:Int)::(48+d5:Int)::aM R)) (by simp only[bI,dU]) hf
    ·have hf:=uM hc hpos [48] (UInt8.ofNat (48+d2)::UInt8.ofNat (48+d3)::UInt8.ofNat (48+d4)::UInt8.ofNat (48+d5)::R) d1 (by omega) hw (by simp)
     (repeat' first|refine ZG ?_|refine Zg fun _=>?_)
     refine Br.mkY (show (48+((0:Nat):Int))=48 by omega) ?_
     (repeat' first|refine ZG ?_|refine Zg fun _=>?_)
     refine Br.mkN (show ¬(48+(d1:Int))=48 by omega) ?_
     (apply Br.mk<;>intro)
     ·rename_i hp'
      refine Need.mk (show 1+(bN ((48+(d1:Int))::((48+d2:Int)::(48+d3:Int)::(48+d4:Int)::(48+d5:Int)::aM R))).length≤140737488355328 by (simp only[bN,aM,List.length_map,List.length_cons];omega)) ?_
      (conv=>whnf)
      exact uL hp' hpos (X:=((48+d2:Int)::(48+d3:Int)::(48+d4:Int)::(48+d5:Int)::aM R)) (by simp only[bI,dU]) hf
     ·rename_i hp'
      (conv=>whnf)
      exact uK hp' hpos (X:=((48+d2:Int)::(48+d3:Int)::(48+d4:Int)::(48+d5:Int)::aM R)) (by simp only[bI,dU]) hf
   ·have hf:=uM hc hpos [] (UInt8.ofNat (48+d1)::UInt8.ofNat (48+d2)::UInt8.ofNat (48+d3)::UInt8.ofNat (48+d4)::UInt8.ofNat (48+d5)::R) d0 (by omega) hw (by simp)
    (repeat' first|refine ZG ?_|refine Zg fun _=>?_)
    refine Br.mkN (show ¬(48+(d0:Int))=48 by omega) ?_
    (apply Br.mk<;>intro)
    ·rename_i hp'
     refine Need.mk (show 1+(bN ((48+(d0:Int))::((48+d1:Int)::(48+d2:Int)::(48+d3:Int)::(48+d4:Int)::(48+d5:Int)::aM R))).length≤140737488355328 by (simp only[bN,aM,List.length_map,List.length_cons];omega)) ?_
     (conv=>whnf)
     exact uL hp' hpos (X:=((48+d1:Int)::(48+d2:Int)::(48+d3:Int)::(48+d4:Int)::(48+d5:Int)::aM R)) (by simp only[bI,dU]) hf
    ·rename_i hp'
     (conv=>whnf)
     exact uK hp' hpos (X:=((48+d1:Int)::(48+d2:Int)::(48+d3:Int)::(48+d4:Int)::(48+d5:Int)::aM R)) (by simp only[bI,dU]) hf
theorem k116:aD Tryz.prog c116:=by
 refine kO Tryz.func233 fun args K h=>?_
 simp only[c116] at h;split at h
 ·rename_i p hp a
  exact ⟨_,h.go,triB Tryz.func233 Tryz.ntmps233 (by simp) (b116 p hp a h.ok)⟩
 ·rename_i a
  refine ⟨_,h.go,?_⟩
  have ht:=triB Tryz.func233 Tryz.ntmps233 (by simp) (b116 False inferInstance a h.ok)
  refine zX (args:=[.agg [.bl False inferInstance,Ls a]]) ht ⟨⟨fun h=>h,?_,trivial⟩,trivial⟩
  rfl
 ·exact h.elim
theorem k86:aD Tryz.prog c86:=by
 refine kO Tryz.func196 fun args K h=>?_
 simp only[c86] at h;split at h
 ·rename_i a b
  exact ⟨_,h,triB Tryz.func196 Tryz.ntmps196 (by simp[k110,k111,k61,k112,k113,k116]) (b86 a b)⟩
 ·exact h.elim
def c44:Con:=aI 161 true fun args K=>match args with | [.str s]=>K (I (chkQ s)) | _=>False
theorem k44:aD Tryz.prog c44:=by
 refine kO Tryz.func161 fun args K h=>?_
 simp only[c44] at h;split at h
 ·rename_i s;exact ⟨_,h,triB Tryz.func161 Tryz.ntmps161 (by simp[k73,k83,k85,k84,k86]) (b44 s)⟩
 ·exact h.elim
def badQ (s:List UInt8):Prop:=60<s.length∨chkQ s≠0
noncomputable instance (s:List UInt8):Decidable (badQ s):=Classical.propDecidable _
def fineL (l:List (List UInt8)):Prop:=∀a∈l,a.length≤60∧chkQ a=0
noncomputable instance (l:List (List UInt8)):Decidable (fineL l):=Classical.propDecidable _
theorem dec1 {n:Nat} (h:n<10):decDigits n= [UInt8.ofNat (48+n)]:=by
 rw[decDigits,dif_pos h]
theorem itoa1 {n:Nat} (h:n<10):itoa (n:Int)= [UInt8.ofNat (48+n)]:=by
 unfold itoa
 rw[if_neg (by omega),Int.toNat_natCast,dec1 h]
theorem int1 {q:Rat} {n:Nat} (hn:q.num=n) (hd:q.den=1) (h1:n<10):numS q= [UInt8.ofNat (48+n)]:=by
 unfold numS
 rw[hn,hd,if_pos rfl,itoa1 h1]
def Sz (k:Nat) (q:Rat):Prop:=q.num.natAbs<10^k∧q.den<10^k
theorem eJ {i j:Nat} (h:i≤j):(10:Nat)^i≤10^j:=Nat.pow_le_pow_right (by omega) h
theorem Sz.mono {i j:Nat} {q:Rat} (h:Sz i q) (hij:i≤j):Sz j q:=
 ⟨Nat.lt_of_lt_of_le h.1 (eJ hij),Nat.lt_of_lt_of_le h.2 (eJ hij)⟩
theorem dA {n k:Nat} (hk:0<k) (h:n<10^k):(decDigits n).length≤k:=by
 obtain ⟨m,rfl⟩:∃m,k=m+1:=⟨k-1,by omega⟩
 exact iJ m n h
theorem cK {n:Int} {k:Nat} (hk:0<k∧k≤300) (h:n.natAbs<10^k):lim n=false:=by
 unfold lim
 have:=dA hk.1 h
 simp;omega
theorem nI {n k:Nat} (h:(decDigits n).length≤k):n<10^k:=by
 have h1:=cE (decDigits n) (fun c hc=>iK _ c hc)
 rw[cV] at h1
 exact Nat.lt_of_lt_of_le h1 (eJ h)
theorem kY {q:Rat} {k:Nat} (h:Sz k q) (hk:0<k∧k≤300):chkQ (numS q)=0:=by
 refine Kk (by rw[cU]) ?_ ?_
 ·rw[gG,bC]
  have:=dA hk.1 h.1
  omega
 ·rw[kC]
  split
  ·simp
  ·have:=dA hk.1 h.2
   simp;omega
theorem Yn {a:List UInt8} (h1:a.length≤60) (h2:chkQ a=0):a=numS (valQ a)∧Sz 60 (valQ a):=by
 obtain ⟨e,h3,h4⟩:=Fq h2
 refine ⟨e,?_,?_⟩
 ·refine nI ?_
  rw[e] at h1
  unfold numS at h1
  have h5:(decDigits (valQ a).num.natAbs).length≤(itoa (valQ a).num).length:=by
   unfold itoa
   split
   ·simp
   ·rw[show (valQ a).num.toNat=(valQ a).num.natAbs by omega];exact Nat.le_refl _
  split at h1
  ·omega
  ·simp at h1;omega
 ·rw[e] at h1
  unfold numS at h1
  split at h1
  ·rename_i e1
   rw[e1];decide
  ·refine nI ?_
   simp at h1;omega
theorem nJ {a b i j:Nat} (ha:a<10^i) (hb:b<10^j):a*b<10^ (i+j):=by
 rw[Nat.pow_add]
 exact Nat.mul_lt_mul'' ha hb
theorem qQ (n:Int) (g:Nat):(n/(g:Int)).natAbs≤n.natAbs:=by
 rcases Nat.eq_zero_or_pos g with e | e
 ·subst e;simp
 ·have h1:(1:Int)≤g:=by omega
  rcases Int.le_total 0 n with h | h
  ·have h2:=Int.ediv_le_self (g:Int) h
   have h3:=Int.ediv_nonneg h (show (0:Int)≤g by omega)
   omega
  ·have h2:n/(g:Int)≤0:=by
    have:=Int.ediv_le_ediv (show (0:Int)<g by omega) h
    simpa using this
   have h3:n≤n/(g:Int):=by
    rw[Int.le_ediv_iff_mul_le (by omega)]
    have:=Int.mul_le_mul_of_nonpos_left (a:=n) h h1
    rw[Int.mul_one] at this
    omega
   omega
theorem Dk {n:Int} {d k:Nat} (hd:d≠0) (h1:n.natAbs<10^k) (h2:d<10^k):Sz k (mkRat n d):=by
 refine ⟨?_,?_⟩
 ·rw[Rat.num_mkRat,if_neg hd]
  refine Nat.lt_of_le_of_lt ?_ h1
  exact qQ _ _
 ·rw[Rat.den_mkRat,if_neg hd]
  exact Nat.lt_of_le_of_lt (Nat.div_le_self _ _) h2
theorem iX {x y:Int} {k:Nat} (hx:x.natAbs<10^k) (hy:y.natAbs<10^k):(x+y).natAbs<10^ (k+1)∧(x-y).natAbs<10^ (k+1):=by
 rw[Nat.pow_succ]
 omega
section
variable {p q:Rat} {i j:Nat}
theorem Sz.cross (hp:Sz i p) (hq:Sz j q):(p.num*q.den).natAbs<10^ (i+j)∧(q.num*p.den).natAbs<10^ (i+j)∧(p.num*q.num).natAbs<10^ (i+j)∧p.den*q.den<10^ (i+j):=by
 refine ⟨?_,?_,?_,nJ hp.2 hq.2⟩
 ·rw[Int.natAbs_mul];exact nJ hp.1 hq.2
 ·rw[Int.natAbs_mul,Nat.add_comm];exact nJ hq.1 hp.2
 ·rw[Int.natAbs_mul];exact nJ hp.1 hq.1
theorem uQ (p q:Rat):p.den*q.den≠0:=Nat.mul_ne_zero p.den_nz q.den_nz
theorem Sz.add (hp:Sz i p) (hq:Sz j q):Sz (i+j+1) (p+q):=by
 obtain ⟨h1,h2,h3,h4⟩:=hp.cross hq
 rw[Cl]
 exact Dk (uQ p q) (iX h1 h2).1 (Nat.lt_of_lt_of_le h4 (eJ (by omega)))
theorem Sz.sub (hp:Sz i p) (hq:Sz j q):Sz (i+j+1) (p-q):=by
 obtain ⟨h1,h2,h3,h4⟩:=hp.cross hq
 rw[pS]
 exact Dk (uQ p q) (iX h1 h2).2 (Nat.lt_of_lt_of_le h4 (eJ (by omega)))
theorem Sz.mul (hp:Sz i p) (hq:Sz j q):Sz (i+j) (p*q):=by
 obtain ⟨h1,h2,h3,h4⟩:=hp.cross hq
 rw[uD]
 exact Dk (uQ p q) h3 h4
theorem tK {f:Rat→Rat→List UInt8 × Int} (hp:Sz i p) (hq:Sz j q) (hi:0<i∧i≤300) (hj:0<j∧j≤300):cS (numS p) (numS q) f=f p q:=by
 unfold cS
 rw[if_neg (by rw[kY hp hi];simp),if_neg (by rw[kY hq hj];simp),cU,cU]
theorem wP (hp:Sz i p) (hq:Sz j q) (hi:0<i) (hj:0<j) (h:i+j+1≤300):addQ (numS p) (numS q)=(numS (p+q),0):=by
 obtain ⟨h1,h2,h3,h4⟩:=hp.cross hq
 unfold addQ
 rw[tK hp hq ⟨hi,by omega⟩ ⟨hj,by omega⟩,if_neg]
 simp only[Bool.or_eq_true,not_or,Bool.not_eq_true]
 exact ⟨⟨⟨cK ⟨by omega,by omega⟩ h1,cK ⟨by omega,by omega⟩ h2⟩,cK (k:=i+j+1) ⟨by omega,h⟩ (iX h1 h2).1⟩,cK (k:=i+j) ⟨by omega,by omega⟩ (by rw[← Int.natCast_mul,Int.natAbs_natCast];exact h4)⟩
theorem nK (hp:Sz i p) (hq:Sz j q) (hi:0<i) (hj:0<j) (h:i+j+1≤300):subQ (numS p) (numS q)=(numS (p-q),0):=by
 obtain ⟨h1,h2,h3,h4⟩:=hp.cross hq
 unfold subQ
 rw[tK hp hq ⟨hi,by omega⟩ ⟨hj,by omega⟩,if_neg]
 simp only[Bool.or_eq_true,not_or,Bool.not_eq_true]
 exact ⟨⟨⟨cK ⟨by omega,by omega⟩ h1,cK ⟨by omega,by omega⟩ h2⟩,cK (k:=i+j+1) ⟨by omega,h⟩ (iX h1 h2).2⟩,cK (k:=i+j) ⟨by omega,by omega⟩ (by rw[← Int.natCast_mul,Int.natAbs_natCast];exact h4)⟩
theorem qB (hp:Sz i p) (hq:Sz j q) (hi:0<i) (hj:0<j) (h:i+j≤300):mulQ (numS p) (numS q)=(numS (p*q),0):=by
 obtain ⟨h1,h2,h3,h4⟩:=hp.cross hq
 unfold mulQ
 rw[tK hp hq ⟨hi,by omega⟩ ⟨hj,by omega⟩,if_neg]
 simp only[Bool.or_eq_true,not_or,Bool.not_eq_true]
 exact ⟨cK ⟨by omega,h⟩ h3,cK (k:=i+j) ⟨by omega,by omega⟩ (by rw[← Int.natCast_mul,Int.natAbs_natCast];exact h4)⟩
theorem kN (hp:Sz i p) (hq:Sz j q) (hi:0<i) (hj:0<j) (h:i+j≤300) (h0:q≠0):divQ (numS p) (numS q)=(numS (p/q),0):=by
 obtain ⟨h1,h2,h3,h4⟩:=hp.cross hq
 unfold divQ
 rw[tK hp hq ⟨hi,by omega⟩ ⟨hj,by omega⟩,if_neg h0,if_neg]
 simp only[Bool.or_eq_true,not_or,Bool.not_eq_true]
 exact ⟨cK ⟨by omega,h⟩ h1,cK ⟨by omega,h⟩ h2⟩
theorem aBm (hp:Sz i p) (hq:Sz j q) (hi:0<i) (hj:0<j) (h:i+j≤300):cmpQ (numS p) (numS q)=(cmpI (p.num*q.den) (q.num*p.den),0):=by
 obtain ⟨h1,h2,h3,h4⟩:=hp.cross hq
 unfold cmpQ
 rw[if_neg (by rw[kY hp ⟨hi,by omega⟩];simp),if_neg (by rw[kY hq ⟨hj,by omega⟩];simp),cU,cU]
 unfold cmpf
 rw[if_neg]
 simp only[Bool.or_eq_true,not_or,Bool.not_eq_true]
 exact ⟨cK ⟨by omega,h⟩ h1,cK ⟨by omega,h⟩ h2⟩
end
theorem uR {n:Int} {k:Nat} (h:n.natAbs<10^k) (hk:0<k):Sz k (n:Rat):=
 ⟨h,Nat.lt_of_lt_of_le (show 1<10^1 by decide) (eJ hk)⟩
theorem eS (n:Int):numS (n:Rat)=itoa n:=by
 unfold numS
 rw[Rat.den_intCast,if_pos rfl,Rat.num_intCast]
theorem sT {n:Nat}:(decDigits n).getD 0 0≠45:=by
 intro h
 have h1:=iK n ((decDigits n).getD 0 0) (by
  have:=zD n
  cases e:decDigits n with
  | nil=>exact absurd e this
  | cons x r=>simp)
 rw[h] at h1
 unfold aR at h1
 revert h1
 decide
theorem aEo {q:Rat}:pd q= [49]↔q.den=1:=by
 constructor
 ·intro h
  have:=congrArg aF (show decDigits q.den= [49] from h)
  rw[cV] at this
  rw[this];decide
 ·intro h
  show decDigits q.den= [49]
  rw[h,dec1 (by decide)];rfl
theorem Yo (q:Rat):q.num/(q.den:Int)*(q.den:Int)≤q.num:=Int.ediv_mul_le _ (by have:=q.den_nz;omega)
theorem Yp (q:Rat):q.num<(q.num/(q.den:Int)+1)*(q.den:Int):=Int.lt_ediv_add_one_mul_self _ (by have:=q.den_pos;omega)
noncomputable def cmpR (p q:Rat):Int:=if p<q then -1 else if q<p then 1 else 0
theorem uS {p q:Rat} {i j:Nat} (hp:Sz i p) (hq:Sz j q) (hi:0<i) (hj:0<j) (h:i+j≤300):cmpQ (numS p) (numS q)=(cmpR p q,0):=by
 rw[aBm hp hq hi hj h]
 unfold cmpI cmpR
 rw[Prod.mk.injEq]
 refine ⟨?_,rfl⟩
 by_cases h1:p<q
 ·rw[if_pos h1,if_pos ((Rat.lt_iff p q).1 h1)]
 ·rw[if_neg h1,if_neg fun h=>h1 ((Rat.lt_iff p q).2 h)]
  by_cases h2:q<p
  ·have:=(Rat.lt_iff q p).1 h2
   rw[if_pos h2,if_neg (by omega)]
  ·have e1:¬p.num*(q.den:Int)<q.num*(p.den:Int):=fun h=>h1 ((Rat.lt_iff p q).2 h)
   have e2:¬q.num*(p.den:Int)<p.num*(q.den:Int):=fun h=>h2 ((Rat.lt_iff q p).2 h)
   rw[if_neg h2,if_pos (by omega)]
theorem Aq (p q:Rat):cmpR p q= -cmpR q p:=by
 unfold cmpR
 by_cases h1:p<q
 ·have h2:¬q<p:=Rat.not_lt.2 (Rat.le_of_lt h1)
  rw[if_pos h1,if_neg h2,if_pos h1]
 ·rw[if_neg h1]
  by_cases h2:q<p
  ·rw[if_pos h2,if_pos h2];rfl
  ·rw[if_neg h2,if_neg h2,if_neg h1];rfl
theorem Sr (p q:Rat):cmpR p q=0↔p=q:=by
 unfold cmpR
 constructor
 ·intro h
  split at h
  ·omega
  ·split at h
   ·omega
   ·rename_i h1 h2
    exact Rat.le_antisymm (Rat.not_lt.1 h2) (Rat.not_lt.1 h1)
 ·rintro rfl
  rw[if_neg Rat.lt_irrefl,if_neg Rat.lt_irrefl]
theorem iN (p q:Rat):cmpR p q≤0↔p≤q:=by
 unfold cmpR
 constructor
 ·intro h
  split at h
  ·rename_i h1;exact Rat.le_of_lt h1
  ·split at h
   ·omega
   ·rename_i h1 h2;exact Rat.not_lt.1 h2
 ·intro h
  split
  ·omega
  ·rw[if_neg (Rat.not_lt.2 h)];omega
theorem fC (p q:Rat):cmpR p q<0↔p<q:=by
 unfold cmpR
 constructor
 ·intro h
  split at h
  ·assumption
  ·split at h<;>omega
 ·intro h
  rw[if_pos h];omega
theorem Qy (q:Rat):numS q≠ []:=by
 unfold numS
 have:=Ah (x:=q.num)
 split
 ·intro h;rw[h] at this;simp at this
 ·intro h
  have h1:=congrArg List.length h
  simp at h1
theorem Ss (q:Rat):aH (numS q) 0=45↔q<0:=by
 have h0:0<(numS q).length:=List.length_pos_iff.2 (Qy q)
 have e:aH (numS q) 0=aH (itoa q.num) 0:=by
  unfold numS
  split
  ·rfl
  ·unfold aH
   rw[List.getD_eq_getElem?_getD,List.getD_eq_getElem?_getD,List.getElem?_append_left Ah]
 rw[e]
 have hn:q<0↔q.num<0:=by
  rw[Rat.lt_iff]
  show q.num*((1:Nat):Int)<0* _↔ _
  omega
 rw[hn]
 unfold itoa
 split
 ·rename_i h
  exact ⟨fun _=>h,fun _=>rfl⟩
 ·rename_i h
  constructor
  ·intro h2
   exfalso
   refine sT (n:=q.num.toNat) (UInt8.toNat_inj.1 ?_)
   unfold aH at h2
   have:(45:UInt8).toNat=45:=rfl
   omega
  ·intro h2
   exact absurd h2 h
theorem Dl:numS (0:Rat)= [48]:=int1 (n:=0) (by decide) (by decide) (by decide)
theorem Nj {B:Nat} (hB:2≤B) {a b:List Int} (ha:InB B a) (hb:InB B b) {n:Nat} (h1:a.length≤n) (h2:b.length≤n):(addK B a b (n+1)).2=0:=by
 obtain ⟨l1,l2,l3,l4⟩:=jN hB ha hb (n+1)
 rw[dK _ _ _ (by omega),dK _ _ _ (by omega)] at l4
 have v1:=eK hB ha h1
 have v2:=eK hB hb h2
 have v3:=aX l2
 have hp:(B:Int)^ (n+1)=(B:Int)^n*B:=Int.pow_succ _ _
 have h0:=dF hB n
 refine Classical.byContradiction fun hc=>?_
 have hc1:(addK B a b (n+1)).2=1:=by omega
 rw[hc1,Int.mul_one,hp] at l4
 have h5:(B:Int)^n*2≤(B:Int)^n*B:=Int.mul_le_mul_of_nonneg_left (by omega) (by omega)
 omega
theorem Yq {B:Nat} (hB:2≤B) {a b:List Int} (ha:InB B a) (hb:InB B b) {k:Nat} (h1:a.length≤k) (h2:b.length≤k) (hc:(addK B a b k).2=0):bU (addK B a b k).1=aA B (valB B a+valB B b).toNat:=by
 obtain ⟨l1,l2,l3,l4⟩:=jN hB ha hb k
 rw[dK _ _ _ h1,dK _ _ _ h2,hc,Int.mul_zero,Int.add_zero] at l4
 rw[cA hB l2,l4]
def c147:Con:=aI 264 false fun args K=>match args with | [.seq (.int .i64) a,.seq (.int .i64) b]=>Need (InB B6 a∧InB B6 b∧a.length≤100000∧b.length≤100000) (K (Ls (aA B6 (valB B6 a+valB B6 b).toNat))) | _=>False
theorem k147:aD Tryz.prog c147:=by
 refine kQ { asks:=[(0,[1])] } Tryz.func264 Tryz.ntmps264 (kc k143 (kc k141 kn)) fun _ _ h=>?_
 split at h
 case h_2=>exact h.elim
 rename_i a b
 refine kb h.go ?_
 replace h:=h.ok
 obtain ⟨ha,hb,hla,hlb⟩:=h
 obtain ⟨n,hn⟩:∃n,n=a.length+b.length:=⟨_,rfl⟩
 (conv=>whnf)
 refine Ask.mk ⟨{ X:=Nat,pre:=fun i=>i≤n+1,mod:=fun i _=>[(5,.ref 1 1),(6,I (addK B6 a b i).2),(7,I i)],heap:=fun i _=>[V [],V (addK B6 a b i).1],mu:=fun i=>n+1-i,objs:=[1] },rfl,?_⟩
 (repeat refine ZG ?_)
 refine ⟨⟨(0:Nat),Nat.zero_le _,by (repeat' first|exact trivial|rfl|exact Nat.one_pos|apply And.intro)⟩,fun (i:Nat) (hi:i≤n+1)=>?_⟩
 obtain ⟨g1,g2,g3,_⟩:=jN (B:=B6) (by decide) ha hb i
 have ga:=get6 ha i
 have gb:=get6 hb i
 have hcar:i=n+1→(addK B6 a b i).2=0:=fun e=>by
  subst e
  exact Nj (by decide) ha hb (by omega) (by omega)
 have s2:(addK B6 a b (i+1)).1=(addK B6 a b i).1++ [(a.getD i 0+b.getD i 0+(addK B6 a b i).2)%1000000]:=rfl
 have s3:(addK B6 a b (i+1)).2=(a.getD i 0+b.getD i 0+(addK B6 a b i).2)/1000000:=rfl
 by_cases hgo:i<a.length∨i<b.length∨0<(addK B6 a b i).2
 ·have hin:i<n+1:=by
   rcases hgo with h | h | h
   ·omega
   ·omega
   ·refine Classical.byContradiction fun hx=>?_
    have:=hcar (by omega)
    omega
  have hcase:(i<a.length)∨(¬i<a.length∧i<b.length)∨(¬i<a.length∧¬i<b.length∧0<(addK B6 a b i).2):=by omega
  have t1:(a.getD i 0+b.getD i 0+(addK B6 a b i).2).tmod 1000000=(a.getD i 0+b.getD i 0+(addK B6 a b i).2)%1000000:=Int.tmod_eq_emod_of_nonneg (by omega)
  have t2:(a.getD i 0+b.getD i 0+(addK B6 a b i).2).tdiv 1000000=(a.getD i 0+b.getD i 0+(addK B6 a b i).2)/1000000:=Int.tdiv_eq_ediv_of_nonneg (by omega)
  rcases hcase with h1 | ⟨h1,h2⟩ | ⟨h1,h2,h3⟩
  all_goals
   (repeat' first|refine ZR ?_|refine Zg fun _=>?_)
   refine ⟨(i+1:Nat),by show n+1-(i+1)<n+1-i;omega,by show i+1≤n+1;omega,?_⟩
   (repeat' first|exact trivial|rfl|exact Nat.one_pos|apply And.intro)
 ·have e1:=Yq (B:=B6) (by decide) ha hb (k:=i) (by omega) (by omega) (by omega)
  (repeat' first|refine ZR ?_|refine Zg fun _=>?_)
  (conv=>whnf)
  exact e1
def addS (p:Prop) (m:Nat) (q:Prop) (n:Nat) [Decidable p] [Decidable q]:Prop:=addP p m q n∧addN p m q n≠0
instance (p:Prop) (m:Nat) (q:Prop) (n:Nat) [Decidable p] [Decidable q]:Decidable (addS p m q n):=by unfold addS;infer_instance
theorem Yr (p:Prop) [Decidable p] (m:Nat) (q:Prop) [Decidable q] (n:Nat):sgP (addS p m q n) (addN p m q n)=sgP p m+sgP q n:=by
 rw[← Gi]
 unfold addS sgP
 by_cases h:addN p m q n=0
 ·simp[h]
 ·simp[h]
theorem kG (n:Nat):(aA B6 n).length=0↔n=0:=by
 constructor
 ·intro h
  have h1:aA B6 n= []:=List.eq_nil_of_length_eq_zero h
  have h2:=v6 n
  rw[h1] at h2
  have h3:valB B6 []=0:=rfl
  omega
 ·rintro rfl;rw[aW];rfl
theorem b114 (p:Prop) (hp:Decidable p) (m:Nat) (q:Prop) (hq:Decidable q) (n:Nat) (hm:m<B6^110) (hn:n<B6^110) (hpm:p→0<m) (hqn:q→0<n):
  body Tryz.prog [c147,c146,c144] {} false Tryz.f235 [.agg [.bl p hp,Ls (aA B6 m)],.agg [.bl q hq,Ls (aA B6 n)]] (.agg [.bl (addS p m q n) inferInstance,Ls (aA B6 (addN p m q n))]):=by
 have im:InB B6 (aA B6 m):=aN (by decide) m
 have jn:InB B6 (aA B6 n):=aN (by decide) n
 have lm:=iE hm
 have ln:=iE hn
 have vm:=v6 m
 have vn:=v6 n
 refine Own.l ?_
 (apply Br.mk<;>intro)
 ·rename_i h
  have e1:p↔addS p m q n:=by
   unfold addS addP addN
   rw[if_pos h]
   constructor
   ·intro hp'
    have:=hpm hp'
    exact ⟨.inl ⟨.inl h,hp'⟩,by omega⟩
   ·rintro ⟨h1 | h1,_⟩
    ·exact h1.2
    ·exact absurd (.inl h) h1.1
  have e2:(valB B6 (aA B6 m)+valB B6 (aA B6 n)).toNat=addN p m q n:=by unfold addN;rw[if_pos h];omega
  (repeat'((conv=>whnf);first|(apply Pin.mk;apply Exists.intro)|apply Pinned.mk rfl rfl|fail))
  refine Need.mk ⟨im,jn,by omega,by omega⟩ ?_
  (repeat'((conv=>whnf);first|apply Pinned.mk rfl rfl|fail))
  (conv=>whnf)
  (repeat' first|exact trivial|apply And.intro)
  ·exact e1
  ·skip
   exact congrArg (aA B6) e2
 ·rename_i h
  have hc:=Am (B:=B6) (by decide) m n
  refine Need.mk ⟨im,jn⟩ ?_
  (apply Br.mk<;>intro)
  ·rename_i hg
   have hlt:m<n:=by
    refine Ye hc ?_
    omega
   have e2:(valB B6 (aA B6 n)-valB B6 (aA B6 m)).toNat=addN p m q n:=by unfold addN;rw[if_neg h,if_neg (by omega)];omega
   have e0:addN p m q n≠0:=by omega
   have e1:q↔addS p m q n:=by
    have hnle:¬n≤m:=by omega
    unfold addS addP
    simp[e0,h,hnle]
   have ll:=dH (Nat.le_of_lt hlt)
   have hN:InB B6 (aA B6 n)∧InB B6 (aA B6 m)∧valB B6 (aA B6 m)≤valB B6 (aA B6 n)∧(aA B6 m).length≤(aA B6 n).length∧(aA B6 n).length≤100000:=⟨jn,im,by omega,ll,by omega⟩
   have hne:¬((aA B6 (valB B6 (aA B6 n)-valB B6 (aA B6 m)).toNat).length:Int)=0:=by
    rw[e2]
    intro h'
    exact e0 ((kG _).1 (by omega))
   (repeat'((conv=>whnf);first|refine Zg fun _=>?_|refine Zn ?_|(apply Pin.mk;apply Exists.intro)|apply Pinned.mk rfl rfl|exact Zf|refine Zc ?_ ?_|refine Zm ?_|fail))
   (conv=>whnf)
   (repeat' first|exact trivial|apply And.intro)
   ·exact e1
   ·skip
    exact congrArg (aA B6) e2
  ·rename_i hg
   have hle:n≤m:=by
    refine Yd hc ?_
    omega
   have e2:(valB B6 (aA B6 m)-valB B6 (aA B6 n)).toNat=addN p m q n:=by unfold addN;rw[if_neg h,if_pos hle];omega
   have ll:=dH hle
   have hN:InB B6 (aA B6 m)∧InB B6 (aA B6 n)∧valB B6 (aA B6 n)≤valB B6 (aA B6 m)∧(aA B6 n).length≤(aA B6 m).length∧(aA B6 m).length≤100000:=⟨im,jn,by omega,ll,by omega⟩
   (repeat'((conv=>whnf);first|refine Zg fun _=>?_|refine Zn ?_|(apply Pin.mk;apply Exists.intro)|apply Pinned.mk rfl rfl|exact Zf|refine Zc ?_ ?_|fail))
   (apply Br.mk<;>intro)
   ·rename_i hz
    have e0:addN p m q n=0:=by
     rw[e2] at hz
     exact (kG _).1 (by omega)
    (conv=>whnf)
    (repeat' first|exact trivial|apply And.intro)
    ·exact fun h'=>h'.2 e0
    ·skip
     exact congrArg (aA B6) e2
   ·rename_i hz
    have e0:addN p m q n≠0:=fun h'=>hz (by rw[e2,h',aW];rfl)
    have e1:p↔addS p m q n:=by
     unfold addS addP
     simp[e0,h,hle]
    (conv=>whnf)
    (repeat' first|exact trivial|apply And.intro)
    ·exact e1
    ·skip
     exact congrArg (aA B6) e2
def rL (p:Prop) (a:List Int):Prop:=fF a∧(valB B6 a).toNat<B6^110∧(p→0<(valB B6 a).toNat)
def c114:Con:=aI 235 false fun args K=>match args with
 | [.agg [.bl p hp,.seq (.int .i64) a],.agg [.bl q hq,.seq (.int .i64) b]]=>Need (rL p a∧rL q b) (K (.agg [.bl (@addS p (valB B6 a).toNat q (valB B6 b).toNat hp hq) inferInstance,Ls (aA B6 (@addN p hp (valB B6 a).toNat q hq (valB B6 b).toNat))]))
 | _=>False
theorem k114:aD Tryz.prog c114:=by
 refine kO Tryz.func235 fun args K h=>?_
 simp only[c114] at h;split at h
 ·rename_i p hp a q hq b
  refine ⟨_,h.go,?_⟩
  obtain ⟨⟨ha,hm,hpm⟩,hb,hn,hqn⟩:=h.ok
  have ht:=triB Tryz.func235 Tryz.ntmps235 (by simp[k147,k146,k144]) (b114 p hp (valB B6 a).toNat q hq (valB B6 b).toNat hm hn hpm hqn)
  rw[ha,hb] at ht
  exact ht
 ·exact h.elim
theorem Su {n:Int} (h:lim n=true):chkI (itoa n)=4:=by
 rw[gK (eZ n),bC]
 unfold lim at h
 rw[if_pos (by simpa using h)]
theorem b115 (p:Prop) (hp:Decidable p) (a:List Int) (h:fF a∧a.length≤200):body Tryz.prog [c116,c139] {} true Tryz.f262 [.agg [.bl p hp,Ls a]] (.tup [S (resI (sgP p (valB B6 a))).1,I (resI (sgP p (valB B6 a))).2]):=by
 cases hl:lim (sgP p (valB B6 a)) with
 | true=>
  have e1:=Su hl
  have e2:resI (sgP p (valB B6 a))=([],4):=by unfold resI;rw[if_pos hl]
  rw[e2]
  (repeat refine ZG ?_)
  refine Br.mkY (show ¬chkI (itoa (sgP p (valB B6 a)))=0 by rw[e1];decide) ?_
  (conv=>whnf)
  (repeat' first|exact trivial|rfl|apply And.intro)
 | false=>
  have e1:=aZ hl
  have e2:resI (sgP p (valB B6 a))=(itoa (sgP p (valB B6 a)),0):=by unfold resI;rw[if_neg (by rw[hl];decide)]
  rw[e2]
  (repeat refine ZG ?_)
  refine Br.mkN (show ¬ ¬chkI (itoa (sgP p (valB B6 a)))=0 by rw[e1];simp) ?_
  (conv=>whnf)
  (repeat' first|exact trivial|rfl|apply And.intro)
def c115:Con:=aI 262 true fun args K=>match args with
 | [.agg [.bl p hp,.seq (.int .i64) a]]=>Need (fF a∧a.length≤200) (K (.tup [S (resI (@sgP p hp (valB B6 a))).1,I (resI (@sgP p hp (valB B6 a))).2]))
 | [.agg [.val (.bool false),.seq (.int .i64) a]]=>Need (fF a∧a.length≤200) (K (.tup [S (resI (valB B6 a)).1,I (resI (valB B6 a)).2]))
 | _=>False
theorem k115:aD Tryz.prog c115:=by
 refine kO Tryz.func262 fun args K h=>?_
 simp only[c115] at h;split at h
 ·rename_i p hp a
  exact ⟨_,h.go,triB Tryz.func262 Tryz.ntmps262 (by simp[k116,k139]) (b115 p hp a h.ok)⟩
 ·rename_i a
  refine ⟨_,h.go,?_⟩
  have ht:=triB Tryz.func262 Tryz.ntmps262 (by simp[k116,k139]) (b115 False inferInstance a h.ok)
  refine zX (args:=[.agg [.bl False inferInstance,Ls a]]) ht ⟨⟨fun h=>h,?_,trivial⟩,trivial⟩
  rfl
 ·exact h.elim
theorem b153 (p:Prop) (hp:Decidable p) (m:Nat) (q:Prop) (hq:Decidable q) (n:Nat) (hm:m<B6^110) (hn:n<B6^110):
  body Tryz.prog [c145] {} false Tryz.f263 [.agg [.bl p hp,Ls (aA B6 m)],.agg [.bl q hq,Ls (aA B6 n)]] (.agg [.bl (¬(p↔q)∧m*n≠0) inferInstance,Ls (aA B6 (m*n))]):=by
 have im:InB B6 (aA B6 m):=aN (by decide) m
 have jn:InB B6 (aA B6 n):=aN (by decide) n
 have lm:=iE hm
 have ln:=iE hn
 have vm:=v6 m
 have vn:=v6 n
 have e2:(valB B6 (aA B6 m)*valB B6 (aA B6 n)).toNat=m*n:=by rw[vm,vn,← Int.natCast_mul,Int.toNat_natCast]
 have hN:InB B6 (aA B6 m)∧InB B6 (aA B6 n)∧(aA B6 m).length≤100000∧(aA B6 n).length≤100000:=⟨im,jn,by omega,by omega⟩
 refine Own.l ?_
 (repeat'((conv=>whnf);first|refine Zg fun _=>?_|refine Zn ?_|(apply Pin.mk;apply Exists.intro)|apply Pinned.mk rfl rfl|exact Zf|refine Zc ?_ ?_|fail))
 (apply Br.mk<;>intro)
 ·rename_i hz
  have e0:m*n=0:=by
   rw[e2] at hz
   exact (kG _).1 (by omega)
  (conv=>whnf)
  (repeat' first|exact trivial|apply And.intro)
  ·exact fun h'=>h'.2 e0
  ·skip
   exact congrArg (aA B6) e2
 ·rename_i hz
  have e0:m*n≠0:=fun h'=>hz (by rw[e2,h',aW];rfl)
  (conv=>whnf)
  (repeat' first|exact trivial|apply And.intro)
  ·exact ⟨fun h'=>⟨h',e0⟩,fun h'=>h'.1⟩
  ·skip
   exact congrArg (aA B6) e2
def c153:Con:=aI 263 false fun args K=>match args with
 | [.agg [.bl p hp,.seq (.int .i64) a],.agg [.bl q hq,.seq (.int .i64) b]]=>Need (rL p a∧rL q b) (K (.agg [.bl (¬(p↔q)∧(valB B6 a).toNat*(valB B6 b).toNat≠0) inferInstance,Ls (aA B6 ((valB B6 a).toNat*(valB B6 b).toNat))]))
 | _=>False
theorem k153:aD Tryz.prog c153:=by
 refine kO Tryz.func263 fun args K h=>?_
 simp only[c153] at h;split at h
 ·rename_i p hp a q hq b
  refine ⟨_,h.go,?_⟩
  obtain ⟨⟨ha,hm,hpm⟩,hb,hn,hqn⟩:=h.ok
  have ht:=triB Tryz.func263 Tryz.ntmps263 (by simp[k145]) (b153 p hp (valB B6 a).toNat q hq (valB B6 b).toNat hm hn)
  rw[ha,hb] at ht
  exact ht
 ·exact h.elim
theorem b121 (p:Prop) (hp:Decidable p) (m:Nat) (hpm:p→0<m):body Tryz.prog [] {} false Tryz.f236 [.agg [.bl p hp,Ls (aA B6 m)]] (.agg [.bl (¬p∧m≠0) inferInstance,Ls (aA B6 m)]):=by
 refine Own.l ?_
 (repeat'((conv=>whnf);first|refine Zg fun _=>?_|fail))
 (apply Br.mk<;>intro)
 ·rename_i hz
  have e0:m=0:=(kG _).1 (by omega)
  (conv=>whnf)
  (repeat' first|exact trivial|rfl|apply And.intro)
  (conv=>whnf)
  exact ⟨fun h'=>by have:=hpm h';omega,fun h'=>absurd e0 h'.2⟩
 ·rename_i hz
  have e0:m≠0:=fun h'=>hz (by rw[h',aW];rfl)
  (conv=>whnf)
  (repeat' first|exact trivial|rfl|apply And.intro)
  (conv=>whnf)
  exact ⟨fun h'=>⟨h',e0⟩,fun h'=>h'.1⟩
def c121:Con:=aI 236 false fun args K=>match args with
 | [.agg [.bl p hp,.seq (.int .i64) a]]=>Need (rL p a) (K (.agg [.bl (¬p∧(valB B6 a).toNat≠0) inferInstance,Ls a]))
 | _=>False
theorem k121:aD Tryz.prog c121:=by
 refine kO Tryz.func236 fun args K h=>?_
 simp only[c121] at h;split at h
 ·rename_i p hp a
  refine ⟨_,h.go,?_⟩
  obtain ⟨ha,hm,hpm⟩:=h.ok
  have ht:=triB Tryz.func236 Tryz.ntmps236 (by simp) (b121 p hp (valB B6 a).toNat hpm)
  rw[ha] at ht
  exact ht
 ·exact h.elim
theorem kP {s:List UInt8} (h:form s) (hl:(digs s).length≤300):rL (s.headD 0=45) (aA B6 (aF (digs s))):=by
 refine ⟨jH _,?_,?_⟩
 ·rw[v6,Int.toNat_natCast]
  exact Nat.lt_of_lt_of_le (kF h hl) (Nat.pow_le_pow_right (by decide) (by omega))
 ·intro hm
  rw[v6,Int.toNat_natCast]
  refine Nat.pos_of_ne_zero fun e=>?_
  have h1:=Vj.1 h
  have h2:valI s=0:=by rw[dS,e];unfold sgP;split<;>rfl
  rw[h2,itoa_zero] at h1
  rw[h1] at hm
  revert hm;decide
theorem Ys (p q:Prop) [Decidable p] [Decidable q] (m n:Nat):sgP (¬(p↔q)∧m*n≠0) ((m*n:Nat):Int)=sgP p m*sgP q n:=by
 rw[← Qm,← Int.natCast_mul]
 unfold sgP
 by_cases h:m*n=0
 ·simp[h]
 ·simp[h]
theorem aBn (a b:List UInt8):sgP (¬(a.headD 0=45↔b.headD 0=45)∧(valB B6 (aA B6 (aF (digs a)))).toNat*(valB B6 (aA B6 (aF (digs b)))).toNat≠0) (valB B6 (aA B6 ((valB B6 (aA B6 (aF (digs a)))).toNat*(valB B6 (aA B6 (aF (digs b)))).toNat)))=valI a*valI b:=by
 rw[v6 ((valB B6 (aA B6 (aF (digs a)))).toNat*(valB B6 (aA B6 (aF (digs b)))).toNat),Ys]
 simp only[v6,Int.toNat_natCast,dS]
theorem Yt {a b:List UInt8} (fa:form a) (la:(digs a).length≤300) (fb:form b) (lb:(digs b).length≤300):fF (aA B6 ((valB B6 (aA B6 (aF (digs a)))).toNat*(valB B6 (aA B6 (aF (digs b)))).toNat))∧(aA B6 ((valB B6 (aA B6 (aF (digs a)))).toNat*(valB B6 (aA B6 (aF (digs b)))).toNat)).length≤200:=by
 refine ⟨jH _,?_⟩
 rw[v6,v6,Int.toNat_natCast,Int.toNat_natCast]
 have h3:=Nat.mul_lt_mul'' (kF fa la) (kF fb lb)
 rw[← Nat.pow_add] at h3
 have:=iE h3
 omega
def c120:Con:=aI 234 true fun args K=>match args with | [.str a,.str b]=>K (.tup [S (bX a b (resI (valI a*valI b))).1,I (bX a b (resI (valI a*valI b))).2]) | _=>False
theorem k120:aD Tryz.prog c120:=by
 refine kQ {} Tryz.func234 Tryz.ntmps234 (kc k110 (kc k111 (kc k61 (kc k112 (kc k153 (kc k115 kn)))))) fun _ _ h=>?_
 split at h
 case h_2=>exact h.elim
 rename_i a b
 refine kb h ?_
 unfold bX
 (apply Br.mk<;>intro)
 ·rename_i h
  rw[if_pos h]
  (conv=>whnf)
  (repeat' first|exact trivial|rfl|apply And.intro)
 ·rename_i h
  rw[if_neg h]
  obtain ⟨ha,hb⟩:=fZ h
  obtain ⟨fa,la⟩:=bR ha
  obtain ⟨fb,lb⟩:=bR hb
  have zA:=kP fa la
  have zB:=kP fb lb
  have hv:=aBn a b
  have hl:=Yt fa la fb lb
  have hab:form a∧form b:=⟨fa,fb⟩
  have hza:=And.intro zA zB
  have ra:form a∧(digs a).length≤600:=⟨fa,by omega⟩
  have rb:form b∧(digs b).length≤600:=⟨fb,by omega⟩
  (repeat refine ZG ?_)
  (apply Br.mk<;>intro)
  ·rename_i hs
   (repeat' first|refine ZG ?_|refine Zg fun _=>?_)
   (apply Br.mk<;>intro)
   ·rename_i hs2
    have hm:=Cs fa fb (by omega)
    rw[eO (by omega)]
    (repeat refine ZG ?_)
    (conv=>whnf)
    (repeat' first|exact trivial|rfl|apply And.intro)
   ·(repeat refine ZG ?_)
    (conv=>whnf)
    (repeat' first|exact trivial|rfl|apply And.intro)
    ·exact congrArg (fun z=>(resI z).1) hv
    ·exact congrArg (fun z=>(resI z).2) hv
  ·(apply Br.mk<;>intro)
   all_goals
    (repeat refine ZG ?_)
    (conv=>whnf)
    (repeat' first|exact trivial|rfl|apply And.intro)
    ·exact congrArg (fun z=>(resI z).1) hv
    ·exact congrArg (fun z=>(resI z).2) hv
theorem Yu (p:Prop) [Decidable p] (m:Nat):sgP (¬p∧m≠0) (m:Int)= -sgP p m:=by
 unfold sgP
 by_cases h:m=0
 ·simp[h]
 ·by_cases hp:p<;>simp[h,hp]
theorem aBo (a b:List UInt8):sgP (addS (a.headD 0=45) (valB B6 (aA B6 (aF (digs a)))).toNat (¬b.headD 0=45∧(valB B6 (aA B6 (aF (digs b)))).toNat≠0) (valB B6 (aA B6 (aF (digs b)))).toNat) (addN (a.headD 0=45) (valB B6 (aA B6 (aF (digs a)))).toNat (¬b.headD 0=45∧(valB B6 (aA B6 (aF (digs b)))).toNat≠0) (valB B6 (aA B6 (aF (digs b)))).toNat)=valI a-valI b:=by
 rw[Yr,Yu]
 simp only[v6,Int.toNat_natCast,dS]
 omega
def c82:Con:=aI 203 true fun args K=>match args with | [.str a,.str b]=>Need (chkI a=0∧chkI b=0) (K (.tup [I (cmpI (valI a) (valI b)),I 0])) | _=>False
theorem k82:aD Tryz.prog c82:=by
 refine kQ {} Tryz.func203 Tryz.ntmps203 (kc k110 (kc k111 (kc k112 (kc k121 (kc k114 kn))))) fun _ _ h=>?_
 split at h
 case h_2=>exact h.elim
 rename_i a b
 refine kb h.go ?_
 replace h:=h.ok
 obtain ⟨ha,hb⟩:=h
 obtain ⟨fa,la⟩:=bR ha
 obtain ⟨fb,lb⟩:=bR hb
 have zA:=kP fa la
 have zB:=kP fb lb
 have hab:form a∧form b:=⟨fa,fb⟩
 have ra:form a∧(digs a).length≤600:=⟨fa,by omega⟩
 have rb:form b∧(digs b).length≤600:=⟨fb,by omega⟩
 have hc2:¬chk2 a b≠0:=by
  unfold chk2
  rw[if_neg (by rw[ha];simp),hb];simp
 have zB':rL (¬b.headD 0=45∧(valB B6 (aA B6 (aF (digs b)))).toNat≠0) (aA B6 (aF (digs b))):=⟨zB.1,zB.2.1,fun h=>Nat.pos_of_ne_zero h.2⟩
 have hv:=aBo a b
 refine Br.mkN (show ¬ ¬chk2 a b=0 from hc2) ?_
 (repeat refine ZG ?_)
 (apply Br.mk<;>intro)
 ·rename_i hs
  (apply Br.mk<;>intro)
  ·rename_i h1
   (conv=>whnf)
   (repeat' first|exact trivial|rfl|apply And.intro)
   unfold cmpI;rw[if_pos h1]
  ·rename_i h1
   (apply Br.mk<;>intro)
   ·rename_i h2
    (conv=>whnf)
    (repeat' first|exact trivial|rfl|apply And.intro)
    unfold cmpI;rw[if_neg h1,if_neg (by omega)]
   ·rename_i h2
    (conv=>whnf)
    (repeat' first|exact trivial|rfl|apply And.intro)
    unfold cmpI;rw[if_neg h1,if_pos (by omega)]
 ·(apply Br.mk<;>intro)
  all_goals
   (repeat'((conv=>whnf);first|refine Zn ?_|fail))
   refine Need.mk ⟨zA,zB'⟩ ?_
   (repeat' first|refine ZG ?_|refine Zg fun _=>?_)
   (apply Br.mk<;>intro)
   ·rename_i hz
    have e0:addN (a.headD 0=45) (valB B6 (aA B6 (aF (digs a)))).toNat (¬b.headD 0=45∧(valB B6 (aA B6 (aF (digs b)))).toNat≠0) (valB B6 (aA B6 (aF (digs b)))).toNat=0:=(kG _).1 (by omega)
    have e1:valI a-valI b=0:=by
     rw[← hv,e0]
     unfold sgP;split<;>rfl
    (conv=>whnf)
    (repeat' first|exact trivial|rfl|apply And.intro)
    unfold cmpI
    rw[if_neg (by omega),if_pos (by omega)]
   ·rename_i hz
    have e0:addN (a.headD 0=45) (valB B6 (aA B6 (aF (digs a)))).toNat (¬b.headD 0=45∧(valB B6 (aA B6 (aF (digs b)))).toNat≠0) (valB B6 (aA B6 (aF (digs b)))).toNat≠0:=fun h'=>hz (by rw[h',aW];rfl)
    (apply Br.mk<;>intro)
    ·rename_i hs
     have e1:valI a-valI b<0:=by
      rw[← hv]
      unfold sgP
      rw[if_pos hs]
      omega
     (conv=>whnf)
     (repeat' first|exact trivial|rfl|apply And.intro)
     unfold cmpI
     rw[if_pos (by omega)]
    ·rename_i hs
     have e1:0<valI a-valI b:=by
      rw[← hv]
      unfold sgP
      rw[if_neg hs]
      omega
     (conv=>whnf)
     (repeat' first|exact trivial|rfl|apply And.intro)
     unfold cmpI
     rw[if_neg (by omega),if_neg (by omega)]
def Qz (a:List UInt8):Prop:=(82<a.length∧a.length<602)∨700<a.length
instance (a:List UInt8):Decidable (Qz a):=by unfold Qz;infer_instance
theorem Ar (q:Rat):(numS q).headD 0=45↔q<0:=by
 rw[← Ss]
 exact (bJ (List.length_pos_iff.2 (Qy q)) 45).symm
theorem lt0 (q:Rat):q<0↔q.num<0:=by
 rw[Rat.lt_iff]
 show q.num*((1:Nat):Int)<0* _↔ _
 omega
theorem Nk (n:Int):itoa n=(if n<0 then 45::decDigits n.natAbs else decDigits n.natAbs):=by
 unfold itoa
 split
 ·rfl
 ·rw[show n.toNat=n.natAbs by omega]
theorem Sz.digs {q:Rat} (h:Sz 300 q):(decDigits q.num.natAbs).length≤300∧(decDigits q.den).length≤300:=⟨dA (k:=300) (by decide) h.1,dA (k:=300) (by decide) h.2⟩
theorem Sv (k:Nat) (hk:0<k):1<10^k:=Nat.lt_of_lt_of_le (show 1<10^1 by decide) (eJ hk)
theorem wQ {s:List UInt8} (h:chkQ s=0):s=numS (valQ s)∧Sz 300 (valQ s):=by
 obtain ⟨e,h3,h4⟩:=Fq h
 refine ⟨e,?_,?_⟩
 ·refine nI (k:=300) ?_
  rw[e,gG,bC] at h3
  exact h3
 ·by_cases h1:(valQ s).den=1
  ·rw[h1]
   exact Sv 300 (by decide)
  ·refine nI (k:=300) ?_
   rw[e,kC,if_neg h1] at h4
   exact h4
theorem b65 (q:Rat) (hq:Sz 300 q):body Tryz.prog [c73] {} true Tryz.f201 [S (numS q)] (.tup [S (pn q),S (pd q)]):=by
 have e1:digs (topS (numS q))=decDigits q.num.natAbs:=by rw[gG,bC]
 have e2:(numS q).headD 0=45↔q.num<0:=by rw[Ar,lt0]
 have e3:=Nk q.num
 have l1:=hq.digs.1
 have e4:=kC q
 have hpn:∀h:q.num<0,pn q=45::decDigits q.num.natAbs:=fun h=>by unfold pn;rw[e3,if_pos h]
 have hpp:∀h:¬q.num<0,pn q=decDigits q.num.natAbs:=fun h=>by unfold pn;rw[e3,if_neg h]
 have f1:∀h:q.den=1,pd q= [49]:=fun h=>aEo.2 h
 have f2:∀h:¬q.den=1,(botS (numS q)).tail=pd q:=fun h=>by rw[e4,if_neg h];rfl
 by_cases hn:q.num<0
 ·refine Br.mkY (e2.2 hn) ?_
  refine Need.mk (by rw[e1];show 1+ _≤ _;omega) ?_
  by_cases hd:q.den=1
  ·refine Br.mkY (show ¬ ¬botS (numS q)= [] by rw[e4,if_pos hd];simp) ?_
   (conv=>whnf)
   (repeat' first|exact trivial|apply And.intro)
   ·(conv=>whnf)
    rw[hpn hn,e1];rfl
   ·(conv=>whnf)
    exact (f1 hd).symm
  ·refine Br.mkN (show ¬ ¬ ¬botS (numS q)= [] by rw[e4,if_neg hd];simp) ?_
   (conv=>whnf)
   (repeat' first|exact trivial|apply And.intro)
   ·(conv=>whnf)
    rw[hpn hn,e1];rfl
   ·(conv=>whnf)
    exact f2 hd
 ·refine Br.mkN (fun h=>hn (e2.1 h)) ?_
  by_cases hd:q.den=1
  ·refine Br.mkY (show ¬ ¬botS (numS q)= [] by rw[e4,if_pos hd];simp) ?_
   (conv=>whnf)
   (repeat' first|exact trivial|apply And.intro)
   ·(conv=>whnf)
    rw[hpp hn,e1]
   ·(conv=>whnf)
    exact (f1 hd).symm
  ·refine Br.mkN (show ¬ ¬ ¬botS (numS q)= [] by rw[e4,if_neg hd];simp) ?_
   (conv=>whnf)
   (repeat' first|exact trivial|apply And.intro)
   ·(conv=>whnf)
    rw[hpp hn,e1]
   ·(conv=>whnf)
    exact f2 hd
def c65:Con:=aI 201 true fun args K=>match args with | [.str s]=>Need (chkQ s=0) (K (.tup [S (pn (valQ s)),S (pd (valQ s))])) | _=>False
theorem k65:aD Tryz.prog c65:=by
 refine kO Tryz.func201 fun args K h=>?_
 simp only[c65] at h;split at h
 ·rename_i s
  obtain ⟨e,hq⟩:=wQ h.ok
  refine ⟨_,h.go,?_⟩
  have ht:=triB Tryz.func201 Tryz.ntmps201 (by simp[k73]) (b65 (valQ s) hq)
  rw[← e] at ht
  exact ht
 ·exact h.elim
def smR (q:Rat):Prop:=(decDigits q.num.natAbs).length≤9∧(q.den=1∨(decDigits q.den).length≤9)
instance (q:Rat):Decidable (smR q):=by unfold smR;infer_instance
theorem Nl {q:Rat} (h:smR q):q.num.natAbs<1000000000∧q.den<1000000000:=by
 refine ⟨?_,?_⟩
 ·have:=nI (k:=9) h.1
  simpa using this
 ·rcases h.2 with h | h
  ·omega
  ·have:=nI (k:=9) h
   simpa using this
theorem b70 (q:Rat) (hq:Sz 300 q):(∀h:smR q,body Tryz.prog [c73,c85] {} true Tryz.f200 [S (numS q)] (.tup [I q.num,I q.den,.val (.bool true)]))∧(∀h:¬smR q,body Tryz.prog [c73,c85] {} true Tryz.f200 [S (numS q)] (.tup [I 0,I 0,.val (.bool false)])):=by
 have e1:digs (topS (numS q))=decDigits q.num.natAbs:=by rw[gG,bC]
 have e2:(numS q).headD 0=45↔q.num<0:=by rw[Ar,lt0]
 have l1:=hq.digs
 have e4:=kC q
 have hd1:∀c∈decDigits q.num.natAbs,aR c:=fun c hc=>iK _ c hc
 have hd2:∀c∈decDigits q.den,aR c:=fun c hc=>iK _ c hc
 refine ⟨fun h=>?_,fun h=>?_⟩
 ·have hl:=Nl h
  have k1:(digs (topS (numS q))).length≤9:=by rw[e1];exact h.1
  have k2:(botS (numS q)).tail.length≤9:=by
   rw[e4];split
   ·simp
   ·rename_i h1
    rcases h.2 with h2 | h2
    ·exact absurd h2 h1
    ·exact h2
  have n1:aF (digs (topS (numS q)))=q.num.natAbs:=by rw[e1,cV]
  have m1:(∀c∈digs (topS (numS q)),aR c)∧(digs (topS (numS q))).length≤18:=⟨by rw[e1];exact hd1,by omega⟩
  (repeat' first|refine ZR ?_|refine Zg fun _=>?_)
  by_cases hd:q.den=1
  ·refine Br.mkN (show ¬ ¬botS (numS q)= [] by rw[e4,if_pos hd];simp) ?_
   by_cases hn:q.num<0
   ·refine Br.mkY (e2.2 hn) ?_
    (repeat refine ZG ?_)
    (conv=>whnf)
    (repeat' first|exact trivial|rfl|apply And.intro)
    ·(conv=>whnf)
     omega
    ·(conv=>whnf)
     omega
   ·refine Br.mkN (fun h=>hn (e2.1 h)) ?_
    (conv=>whnf)
    (repeat' first|exact trivial|rfl|apply And.intro)
    ·(conv=>whnf)
     omega
    ·(conv=>whnf)
     omega
  ·have m2:(∀c∈(botS (numS q)).tail,aR c)∧(botS (numS q)).tail.length≤18:=⟨by rw[e4,if_neg hd];exact hd2,by omega⟩
   have n2:aF (botS (numS q)).tail=q.den:=by rw[e4,if_neg hd];exact cV _
   refine Br.mkY (show ¬botS (numS q)= [] by rw[e4,if_neg hd];simp) ?_
   (repeat refine ZG ?_)
   by_cases hn:q.num<0
   ·refine Br.mkY (e2.2 hn) ?_
    (repeat refine ZG ?_)
    (conv=>whnf)
    (repeat' first|exact trivial|rfl|apply And.intro)
    ·(conv=>whnf)
     omega
    ·(conv=>whnf)
     omega
   ·refine Br.mkN (fun h=>hn (e2.1 h)) ?_
    (conv=>whnf)
    (repeat' first|exact trivial|rfl|apply And.intro)
    ·(conv=>whnf)
     omega
    ·(conv=>whnf)
     omega
 ·by_cases k1:9<(digs (topS (numS q))).length
  ·(repeat' first|refine ZR ?_|refine Zg fun _=>?_)
   (conv=>whnf)
   (repeat' first|exact trivial|rfl|apply And.intro)
  ·have k2:9<(botS (numS q)).tail.length:=by
    rw[e1] at k1
    refine Nat.lt_of_not_le fun hx=>h ⟨by omega,?_⟩
    rw[e4] at hx
    split at hx
    ·rename_i h1;exact .inl h1
    ·exact .inr hx
   (repeat' first|refine ZR ?_|refine Zg fun _=>?_)
   (conv=>whnf)
   (repeat' first|exact trivial|rfl|apply And.intro)
def c70:Con:=aI 200 true fun args K=>match args with
 | [.str s]=>Need (chkQ s=0) (Br (smR (valQ s)) (K (.tup [I (valQ s).num,I (valQ s).den,.val (.bool true)])) (K (.tup [I 0,I 0,.val (.bool false)])))
 | _=>False
theorem k70:aD Tryz.prog c70:=by
 refine kO Tryz.func200 fun args K h=>?_
 simp only[c70] at h;split at h
 ·rename_i s
  obtain ⟨e,hq⟩:=wQ h.ok
  have hb:=b70 (valQ s) hq
  rw[← e] at hb
  by_cases hl:smR (valQ s)
  ·exact ⟨_,h.go.yes hl,triB Tryz.func200 Tryz.ntmps200 (by simp[k73,k85]) (hb.1 hl)⟩
  ·exact ⟨_,h.go.no hl,triB Tryz.func200 Tryz.ntmps200 (by simp[k73,k85]) (hb.2 hl)⟩
 ·exact h.elim
noncomputable def chkB (a b:List UInt8):Int:=if chkQ a≠0 then chkQ a else chkQ b
def c78:Con:=aI 199 true fun args K=>match args with | [.str a,.str b]=>K (I (chkB a b)) | _=>False
theorem k78:aD Tryz.prog c78:=by
 refine kQ {} Tryz.func199 Tryz.ntmps199 (kc k44 kn) fun _ _ h=>?_
 split at h
 case h_2=>exact h.elim
 refine kb h ?_
 unfold chkB
 (apply Br.mk<;>intro)
 ·rename_i h
  rw[if_pos h]
  (conv=>whnf)
  (repeat' first|rfl|apply And.intro)
 ·rename_i h
  rw[if_neg h]
  (conv=>whnf)
  (repeat' first|rfl|apply And.intro)
abbrev ok4 (a b c d:List UInt8):Prop:=(chkI a=0∧chkI b=0)∧chkI c=0∧chkI d=0
theorem b81n (a b c d:List UInt8) (h:ok4 a b c d) (hl:lim (valI a*valI b)=true):body Tryz.prog [c120] {} true Tryz.f202 [S a,S b,S c,S d] (.tup [S [],S [],I 4]):=by
 obtain ⟨⟨ha,hb⟩,hc,hd⟩:=h
 have e1:bX a b (resI (valI a*valI b))=([],4):=by rw[pX ha hb];unfold resI;rw[if_pos hl]
 refine Br.mkY (show ¬(bX a b (resI (valI a*valI b))).2=0 by rw[e1];decide) ?_
 (conv=>whnf)
 (repeat' first|exact trivial|rfl|apply And.intro)
 (conv=>whnf)
 rw[e1]
theorem b81y (a b c d:List UInt8) (h:ok4 a b c d) (hl:lim (valI a*valI b)=false):body Tryz.prog [c120] {} true Tryz.f202 [S a,S b,S c,S d] (.tup [S (itoa (valI a*valI b)),S (resI (valI c*valI d)).1,I (resI (valI c*valI d)).2]):=by
 obtain ⟨⟨ha,hb⟩,hc,hd⟩:=h
 have e1:bX a b (resI (valI a*valI b))=(itoa (valI a*valI b),0):=by rw[pX ha hb];unfold resI;rw[if_neg (by rw[hl];decide)]
 have e2:=pX hc hd (resI (valI c*valI d))
 refine Br.mkN (show ¬ ¬(bX a b (resI (valI a*valI b))).2=0 by rw[e1];simp) ?_
 (conv=>whnf)
 (repeat' first|exact trivial|rfl|apply And.intro)
 ·(conv=>whnf)
  rw[e1]
 ·(conv=>whnf)
  rw[e2]
 ·(conv=>whnf)
  rw[e2]
def c81:Con:=aI 202 true fun args K=>match args with
 | [.str a,.str b,.str c,.str d]=>Need (ok4 a b c d) (Br (lim (valI a*valI b)=true) (K (.tup [S [],S [],I 4])) (K (.tup [S (itoa (valI a*valI b)),S (resI (valI c*valI d)).1,I (resI (valI c*valI d)).2])))
 | _=>False
theorem k81:aD Tryz.prog c81:=by
 refine kO Tryz.func202 fun args K h=>?_
 simp only[c81] at h;split at h
 ·rename_i a b c d
  by_cases hl:lim (valI a*valI b)=true
  ·exact ⟨_,h.go.yes hl,triB Tryz.func202 Tryz.ntmps202 (by simp[k120]) (b81n a b c d h.ok hl)⟩
  ·exact ⟨_,h.go.no hl,triB Tryz.func202 Tryz.ntmps202 (by simp[k120]) (b81y a b c d h.ok (by simpa using hl))⟩
 ·exact h.elim
theorem aBp {n:Int} (h:lim n=true):resI n=([],4):=by unfold resI;rw[if_pos h]
theorem aBq {n:Int} (h:lim n=false):resI n=(itoa n,0):=by unfold resI;rw[if_neg (by rw[h];decide)]
theorem mul9 {x y:Int} (hx:x.natAbs<1000000000) (hy:y.natAbs<1000000000): -1000000000000000000<x*y∧x*y<1000000000000000000:=by
 have h:=Int.natAbs_mul x y
 have h1:x.natAbs*y.natAbs<1000000000*1000000000:=Nat.mul_lt_mul'' hx hy
 omega
theorem Yv {q:Rat} (h:Sz 300 q):chkI (pn q)=0∧valI (pn q)=q.num∧lim q.num=false:=by
 have h1:lim q.num=false:=by
  unfold lim
  have:=h.digs.1
  simp;omega
 exact ⟨aZ h1,iB q,h1⟩
theorem Yw {q:Rat} (h:Sz 300 q):chkI (pd q)=0∧valI (pd q)=q.den:=by
 have:=Gf h.digs.2
 exact ⟨this.2.1,this.2.2⟩
theorem Dm (n:Int):lim n=true∨lim n=false:=by cases lim n<;>simp
theorem Yx {a b:List UInt8} (h:¬chkB a b≠0):chkQ a=0∧chkQ b=0:=by
 unfold chkB at h
 by_cases h1:chkQ a≠0
 ·rw[if_pos h1] at h;exact absurd h1 h
 ·rw[if_neg h1] at h
  exact ⟨Classical.not_not.1 h1,Classical.not_not.1 h⟩
theorem Kv {p q:Prop} (hs:¬(p∧q)):(¬p∧q)∨(¬p∧¬q)∨(p∧¬q):=by
 by_cases h1:p
 ·exact .inr (.inr ⟨h1,fun h2=>hs ⟨h1,h2⟩⟩)
 ·by_cases h2:q
  ·exact .inl ⟨h1,h2⟩
  ·exact .inr (.inl ⟨h1,h2⟩)
theorem Yy {a b:List UInt8} (h:chkB a b≠0):cmpQ a b=(0,chkB a b):=by
 unfold cmpQ chkB at*
 by_cases h1:chkQ a≠0
 ·rw[if_pos h1,if_pos h1]
 ·rw[if_neg h1] at h ⊢
  rw[if_pos h,if_neg h1]
theorem Sw {a b:List UInt8} (h:chkQ a=0∧chkQ b=0):cmpQ a b=cmpf (valQ a) (valQ b):=by
 unfold cmpQ
 rw[if_neg (by rw[h.1];simp),if_neg (by rw[h.2];simp)]
theorem Ra {p q:Rat} (l1:lim (p.num*q.den)=false) (l2:lim (q.num*p.den)=false):cmpf p q=(cmpI (p.num*q.den) (q.num*p.den),0):=by
 unfold cmpf
 rw[if_neg (by simp[l1,l2])]
theorem b43g (a b:List UInt8) (ha:chkQ a=0) (hb:chkQ b=0):body Tryz.prog [c78,c70,c65,c81,c82] {} true Tryz.f163 [S a,S b] (.tup [I (cmpf (valQ a) (valQ b)).1,I (cmpf (valQ a) (valQ b)).2]):=by
 have hp:=(wQ ha).2
 have hq:=(wQ hb).2
 obtain ⟨cn1,vn1,ln1⟩:=Yv hp
 obtain ⟨cn2,vn2,ln2⟩:=Yv hq
 obtain ⟨cd1,vd1⟩:=Yw hp
 obtain ⟨cd2,vd2⟩:=Yw hq
 have d1:=(valQ a).den_pos
 have d2:=(valQ b).den_pos
 have hc:¬chkB a b≠0:=by unfold chkB;rw[if_neg (by rw[ha];simp),hb];simp
 by_cases hs:smR (valQ a)∧smR (valQ b)
 ·have s1:=Nl hs.1
  have s2:=Nl hs.2
  have m1:=mul9 (x:=(valQ a).num) (y:=((valQ b).den:Int)) s1.1 (by omega)
  have m2:=mul9 (x:=(valQ b).num) (y:=((valQ a).den:Int)) s2.1 (by omega)
  have ea:=Ra (p:=valQ a) (q:=valQ b) (bM (by omega)) (bM (by omega))
  refine Br.mkN (show ¬ ¬chkB a b=0 from hc) ?_
  (repeat refine ZG ?_)
  refine Br.mkY hs.1 ?_
  (repeat refine ZG ?_)
  refine Br.mkY hs.2 ?_
  (repeat refine ZG ?_)
  (apply Br.mk<;>intro)
  ·rename_i hx
   (conv=>whnf)
   (repeat' first|exact trivial|rfl|apply And.intro)
   ·(conv=>whnf)
    rw[ea];unfold cmpI;rw[if_pos hx]
   ·(conv=>whnf)
    rw[ea]
  ·rename_i hx
   (repeat refine ZG ?_)
   (apply Br.mk<;>intro)
   ·rename_i hy
    (conv=>whnf)
    (repeat' first|exact trivial|rfl|apply And.intro)
    ·(conv=>whnf)
     rw[ea];unfold cmpI;rw[if_neg hx,if_neg (by omega)]
    ·(conv=>whnf)
     rw[ea]
   ·rename_i hy
    (conv=>whnf)
    (repeat' first|exact trivial|rfl|apply And.intro)
    ·(conv=>whnf)
     rw[ea];unfold cmpI;rw[if_neg hx,if_pos (by omega)]
    ·(conv=>whnf)
     rw[ea]
 ·have n4:ok4 (pn (valQ a)) (pd (valQ b)) (pn (valQ b)) (pd (valQ a)):=⟨⟨cn1,cd2⟩,cn2,cd1⟩
  rcases Kv hs with ⟨h1,h2⟩ | ⟨h1,h2⟩ | ⟨h1,h2⟩
  all_goals skip
  all_goals refine Br.mkN (show ¬ ¬chkB a b=0 from hc) ?_
  all_goals (repeat refine ZG ?_)
  all_goals first | refine Br.mkN h1 ?_ | refine Br.mkY h1 ?_
  all_goals (repeat refine ZG ?_)
  all_goals first | refine Br.mkN h2 ?_ | refine Br.mkY h2 ?_
  all_goals (repeat refine ZG ?_)
  all_goals
   rcases Dm ((valQ a).num*((valQ b).den:Int)) with l1 | l1
   ·have ea:cmpf (valQ a) (valQ b)=(0,4):=by unfold cmpf;rw[if_pos (by simp[l1])]
    refine Br.mkY (show lim (valI (pn (valQ a))*valI (pd (valQ b)))=true by rw[vn1,vd2];exact l1) ?_
    (repeat refine ZR ?_)
    (conv=>whnf)
    (repeat' first|exact trivial|rfl|apply And.intro)
    ·(conv=>whnf)
     rw[ea]
    ·(conv=>whnf)
     rw[ea]
   ·refine Br.mkN (show ¬lim (valI (pn (valQ a))*valI (pd (valQ b)))=true by rw[vn1,vd2,l1];decide) ?_
    rcases Dm ((valQ b).num*((valQ a).den:Int)) with l2 | l2
    ·have ea:cmpf (valQ a) (valQ b)=(0,4):=by unfold cmpf;rw[if_pos (by simp[l2])]
     have e4:resI (valI (pn (valQ b))*valI (pd (valQ a)))=([],4):=by rw[vn2,vd1];exact aBp l2
     refine Br.mkY (show ¬(resI (valI (pn (valQ b))*valI (pd (valQ a)))).2=0 by rw[e4];decide) ?_
     (conv=>whnf)
     (repeat' first|exact trivial|rfl|apply And.intro)
     ·(conv=>whnf)
      rw[ea]
     ·(conv=>whnf)
      rw[ea,e4]
    ·have e4:resI (valI (pn (valQ b))*valI (pd (valQ a)))=(itoa ((valQ b).num*((valQ a).den:Int)),0):=by rw[vn2,vd1];exact aBq l2
     refine Br.mkN (show ¬ ¬(resI (valI (pn (valQ b))*valI (pd (valQ a)))).2=0 by rw[e4];simp) ?_
     have ea:=Ra l1 l2
     have n5:chkI (itoa (valI (pn (valQ a))*valI (pd (valQ b))))=0∧chkI (resI (valI (pn (valQ b))*valI (pd (valQ a)))).1=0:=by
      rw[e4,vn1,vd2]
      exact ⟨aZ l1,aZ l2⟩
     (repeat refine ZG ?_)
     (conv=>whnf)
     (repeat' first|exact trivial|rfl|apply And.intro)
     ·(conv=>whnf)
      rw[ea,e4,vn1,vd2,aV,aV]
     ·(conv=>whnf)
      rw[ea]
def c43:Con:=aI 163 true fun args K=>match args with | [.str a,.str b]=>K (.tup [I (cmpQ a b).1,I (cmpQ a b).2]) | _=>False
theorem k43:aD Tryz.prog c43:=by
 refine kQ {} Tryz.func163 Tryz.ntmps163 (kc k78 (kc k70 (kc k65 (kc k81 (kc k82 kn))))) fun _ _ h=>?_
 split at h
 case h_2=>exact h.elim
 rename_i a b
 refine kb h ?_
 by_cases h:chkB a b≠0
 ·rw[Yy h]
  refine Br.mkY h ?_
  (conv=>whnf)
  (repeat' first|exact trivial|rfl|apply And.intro)
 ·rw[Sw (Yx h)]
  exact b43g a b (Yx h).1 (Yx h).2
def longL (l:List (List UInt8)):Prop:=(∃a∈l,Qz a)∨8<l.length
noncomputable instance (l:List (List UInt8)):Decidable (longL l):=Classical.propDecidable _
end RB
end
section
namespace RB
section
variable {ax ay az bx by' bz cx cy cz P Q R:Rat}
end
end RB
end
section
open Go Go.Proofs Go.Eng Go.Shelf IB Go.Lib Go.RowKit
namespace RB
def d36 (q:Rat):Prop:=(decDigits q.num.natAbs).length≤36∧(decDigits q.den).length≤36
instance (q:Rat):Decidable (d36 q):=inferInstanceAs (Decidable (_∧ _))
noncomputable def chkP (a:List UInt8):Int:=if chkQ a≠0 then chkQ a else if d36 (valQ a) then 0 else 4
def badP (l:List (List UInt8)):Prop:=∃a∈l,chkP a≠0
noncomputable instance (l:List (List UInt8)):Decidable (badP l):=Classical.propDecidable _
theorem Cq {q:Rat} {k:Nat} (h:Sz k q) (hk:0<k∧k≤300):chkQ (numS q)=0:=kY h hk
section
variable {p q r:Rat} {i j k:Nat}
end
noncomputable def hgt (a b c x y:List UInt8):Rat:=valQ a*valQ x+valQ b*valQ y+valQ c
end RB
end

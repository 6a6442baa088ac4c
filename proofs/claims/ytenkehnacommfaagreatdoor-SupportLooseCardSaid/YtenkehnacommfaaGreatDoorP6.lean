/-
  Part 6: a symbolic executor over the model, contracts of functions and plain laws.
-/
import Derived.Test.YtenkehnacommfaaGreatDoorP5
import Init.Data.Rat
import Derived.Test.YtenkehnacommfaaGreatDoorProg
import Derived.Shelf.Abstract
set_option linter.unusedVariables false
set_option linter.unusedSimpArgs false
set_option maxRecDepth 10000
set_option maxHeartbeats 2000000
section
open Go Go.Proofs Go.Eng Go.Shelf IB Go.Lib Go.RowKit
namespace RB
theorem bB {x:Int} (h:lim x=false):chkI (itoa x)=0:=by
 rw[mZ (fY x),bS,if_neg]
 unfold lim at h
 simpa using h
theorem aE9 {x:Int} (h:chkI (itoa x)=0):lim x=false:=by
 rw[mZ (fY x),bS] at h
 unfold lim
 split at h
 ·cases h
 ·rename_i hn
  exact decide_eq_false hn
theorem aJi (x:Int):lim (-x)=lim x:=by unfold lim;rw[Int.natAbs_neg]
theorem mV {x y:Int} (h:x.natAbs≤y.natAbs) (hy:lim y=false):lim x=false:=by
 unfold lim at hy ⊢
 have hy:(decDigits y.natAbs).length≤299+1:=by simpa using hy
 have:=aE8 h hy
 simpa using this
theorem gH {x:Int} (h:lim x=false):(itoa x).length≤301:=by
 have h1:=(yA (itoa x)).2
 rw[bS] at h1
 unfold lim at h
 have h:(decDigits x.natAbs).length≤300:=by simpa using h
 omega
theorem aFa {x y:Int} (hx:lim x=false) (hy:lim y=false) (h0:y≠0):dH (itoa x) (itoa y) (resI (Int.gcd (valI (itoa x)) (valI (itoa y))))=(itoa (Int.gcd x y),0):=by
 unfold dH chk2
 rw[bB hx,bB hy,if_neg (by simp),aU,aU]
 unfold resI
 have hg:lim ((Int.gcd x y:Nat):Int)=false:=by
  refine mV (y:=y) ?_ hy
  rw[Int.natAbs_natCast]
  exact Nat.gcd_le_right _ (by omega)
 rw[hg];rfl
theorem uH {x y:Int} (hx:lim x=false) (hy:lim y=false) (h0:0<y) (hd:y ∣ x):divI (itoa x) (itoa y)=(itoa (x/y),itoa 0,0):=by
 unfold divI chk2
 rw[bB hx,bB hy,if_neg (by simp),if_neg (fun e=>by
  have:=iW (e.trans itoa_zero.symm);omega),aU,aU]
 have e1:x.fdiv y=x/y:=Int.fdiv_eq_ediv_of_nonneg _ (by omega)
 have e2:x.fmod y=0:=Int.fmod_eq_zero_of_dvd hd
 unfold dvI
 rw[e1,e2]
 have l1:lim (x/y)=false:=mV (y:=x) (by
  obtain ⟨k,rfl⟩:=hd
  rw[Int.mul_ediv_cancel_left _ (by omega),Int.natAbs_mul]
  exact Nat.le_mul_of_pos_left _ (by omega)) hx
 have l2:lim 0=false:=by
  unfold lim
  rw[show (0:Int).natAbs=0 from rfl,cE (by omega)];rfl
 rw[l1,l2];rfl
theorem aCl {x y:Int} (h0:0<y):numS (mkRat x y.toNat)=if itoa (y/(Int.gcd x y:Nat))= [49] then itoa (x/(Int.gcd x y:Nat)) else itoa (x/(Int.gcd x y:Nat))++47::itoa (y/(Int.gcd x y:Nat)):=by
 obtain ⟨d,rfl⟩:=Int.eq_ofNat_of_zero_le (Int.le_of_lt h0)
 have hg:Int.gcd x (d:Int)=d.gcd x.natAbs:=by unfold Int.gcd;rw[Int.natAbs_natCast,Nat.gcd_comm]
 rw[Int.toNat_natCast,aQe _ _ (by omega),hg,← Int.natCast_ediv,mU]
 have e1:decDigits (d/d.gcd x.natAbs)= [49]↔d/d.gcd x.natAbs=1:=by
  constructor
  ·intro h
   have:=congrArg aM h
   rw[dM] at this
   exact this
  ·intro h;rw[h];exact cE (show 1<10 by omega)
 by_cases h:d/d.gcd x.natAbs=1
 ·rw[if_pos h,if_pos (e1.2 h)]
 ·rw[if_neg h,if_neg (fun hx=>h (e1.1 hx))]
theorem itoa_one:itoa 1= [49]:=by
 rw[show (1:Int)=((1:Nat):Int) from rfl,mU];exact cE (show 1<10 by omega)
theorem b52p (x y:Int) (hx:lim x=false) (hy:lim y=false) (h0:0<y):body Tryz.prog [c91,c92,c89,c69] {} true Tryz.f199 [S (itoa x),S (itoa y)] (.tup [S (numS (mkRat x y.toNat)),I 0]):=by
 have hh:=fX y
 have hneg:¬(itoa y).headD 0=45:=fun e=>by have:=hh.1 e;omega
 have hb:=aFa hx hy (by omega)
 have z1:(dH (itoa x) (itoa y) (resI (Int.gcd (valI (itoa x)) (valI (itoa y))))).1=itoa (Int.gcd x y):=congrArg Prod.fst hb
 have z2:(dH (itoa x) (itoa y) (resI (Int.gcd (valI (itoa x)) (valI (itoa y))))).2=0:=congrArg Prod.snd hb
 have lx:=gH hx
 have ly:=gH hy
 have hm:=aCl (x:=x) h0
 obtain ⟨g,hg⟩:∃g,Int.gcd x y=g:=⟨_,rfl⟩
 have gx:(g:Int) ∣ x:=by rw[← hg];exact Int.gcd_dvd_left _ _
 have gy:(g:Int) ∣ y:=by rw[← hg];exact Int.gcd_dvd_right _ _
 have gp:0<g:=by rw[← hg];exact Int.gcd_pos_of_ne_zero_right _ (by omega)
 rw[hg] at z1 hm
 rw[hm]
 have lg:lim (g:Int)=false:=mV (y:=y) (by rw[Int.natAbs_natCast,← hg];exact Nat.gcd_le_right _ (by omega)) hy
 have dx:=uH hx lg (by omega) gx
 have dy:=uH hy lg (by omega) gy
 have q1:(divI (itoa x) (itoa g)).1=itoa (x/g):=by rw[dx]
 have q2:(divI (itoa y) (itoa g)).1=itoa (y/g):=by rw[dy]
 (repeat' first|refine ZR ?_|fail)
 (refine Br.mk (fun _=>?_) (fun _=>?_))
 ·rename_i h1
  rw[z1,← q1,← q2]
  have l1:lim (x/g)=false:=mV (y:=x) (by
   obtain ⟨k,rfl⟩:=gx
   rw[Int.mul_ediv_cancel_left _ (by omega),Int.natAbs_mul]
   exact Nat.le_mul_of_pos_left _ (by omega)) hx
  have l2:lim (y/g)=false:=mV (y:=y) (by
   obtain ⟨k,rfl⟩:=gy
   rw[Int.mul_ediv_cancel_left _ (by omega),Int.natAbs_mul]
   exact Nat.le_mul_of_pos_left _ (by omega)) hy
  have m1:(divI (itoa x) (itoa g)).1.length≤301:=by rw[q1];exact gH l1
  have m2:(divI (itoa y) (itoa g)).1.length≤301:=by rw[q2];exact gH l2
  (refine Br.mk (fun _=>?_) (fun _=>?_))
  ·rename_i h2
   rw[if_pos h2]
   (conv=>whnf)
   (repeat' first|exact trivial|rfl|refine And.intro ?_ ?_)
  ·rename_i h2
   rw[if_neg h2]
   (repeat' first|refine ZG ?_|fail)
   (conv=>whnf)
   (repeat' first|exact trivial|rfl|refine And.intro ?_ ?_)
   exact List.append_assoc _ [47] _
 ·rename_i h1
  have h1:=Classical.not_not.1 h1
  rw[z1] at h1
  have hg1:(g:Int)=1:=iW (h1.trans itoa_one.symm)
  rw[hg1,Int.ediv_one,Int.ediv_one]
  (refine Br.mk (fun _=>?_) (fun _=>?_))
  ·rename_i h2
   rw[if_pos h2]
   (conv=>whnf)
   (repeat' first|exact trivial|rfl|refine And.intro ?_ ?_)
  ·rename_i h2
   rw[if_neg h2]
   (repeat' first|refine ZG ?_|fail)
   (conv=>whnf)
   (repeat' first|exact trivial|rfl|refine And.intro ?_ ?_)
   exact List.append_assoc _ [47] _
theorem b52n (x0 y0:Int) (hx0:lim x0=false) (hy0:lim y0=false) (h00:y0<0):body Tryz.prog [c91,c92,c89,c69] {} true Tryz.f199 [S (itoa x0),S (itoa y0)] (.tup [S (numS (mkRat (-x0) (-y0).toNat)),I 0]):=by
 have hh:=fX y0
 have hneg:(itoa y0).headD 0=45:=hh.2 h00
 have lx0:=gH hx0
 have ly0:=gH hy0
 obtain ⟨x,ex⟩:∃x, -x0=x:=⟨_,rfl⟩
 obtain ⟨y,ey⟩:∃y, -y0=y:=⟨_,rfl⟩
 have hx:lim x=false:=by rw[← ex,aJi];exact hx0
 have hy:lim y=false:=by rw[← ey,aJi];exact hy0
 have h0:0<y:=by omega
 rw[ex,ey]
 have hb:=aFa hx hy (by omega)
 have z1:(dH (itoa x) (itoa y) (resI (Int.gcd (valI (itoa x)) (valI (itoa y))))).1=itoa (Int.gcd x y):=congrArg Prod.fst hb
 have z2:(dH (itoa x) (itoa y) (resI (Int.gcd (valI (itoa x)) (valI (itoa y))))).2=0:=congrArg Prod.snd hb
 have lx:=gH hx
 have ly:=gH hy
 have hm:=aCl (x:=x) h0
 obtain ⟨g,hg⟩:∃g,Int.gcd x y=g:=⟨_,rfl⟩
 have gx:(g:Int) ∣ x:=by rw[← hg];exact Int.gcd_dvd_left _ _
 have gy:(g:Int) ∣ y:=by rw[← hg];exact Int.gcd_dvd_right _ _
 have gp:0<g:=by rw[← hg];exact Int.gcd_pos_of_ne_zero_right _ (by omega)
 rw[hg] at z1 hm
 rw[hm]
 have lg:lim (g:Int)=false:=mV (y:=y) (by rw[Int.natAbs_natCast,← hg];exact Nat.gcd_le_right _ (by omega)) hy
 have dx:=uH hx lg (by omega) gx
 have dy:=uH hy lg (by omega) gy
 have q1:(divI (itoa x) (itoa g)).1=itoa (x/g):=by rw[dx]
 have q2:(divI (itoa y) (itoa g)).1=itoa (y/g):=by rw[dy]
 (repeat' first|refine ZR ?_|fail)
 refine Need.mk ⟨fY _,by omega⟩ ?_
 rw[aU,ex]
 refine Need.mk ⟨fY _,by omega⟩ ?_
 rw[aU,ey]
 (repeat' first|refine ZR ?_|fail)
 (refine Br.mk (fun _=>?_) (fun _=>?_))
 ·rename_i h1
  rw[z1,← q1,← q2]
  have l1:lim (x/g)=false:=mV (y:=x) (by
   obtain ⟨k,rfl⟩:=gx
   rw[Int.mul_ediv_cancel_left _ (by omega),Int.natAbs_mul]
   exact Nat.le_mul_of_pos_left _ (by omega)) hx
  have l2:lim (y/g)=false:=mV (y:=y) (by
   obtain ⟨k,rfl⟩:=gy
   rw[Int.mul_ediv_cancel_left _ (by omega),Int.natAbs_mul]
   exact Nat.le_mul_of_pos_left _ (by omega)) hy
  have m1:(divI (itoa x) (itoa g)).1.length≤301:=by rw[q1];exact gH l1
  have m2:(divI (itoa y) (itoa g)).1.length≤301:=by rw[q2];exact gH l2
  (refine Br.mk (fun _=>?_) (fun _=>?_))
  ·rename_i h2
   rw[if_pos h2]
   (conv=>whnf)
   (repeat' first|exact trivial|rfl|refine And.intro ?_ ?_)
  ·rename_i h2
   rw[if_neg h2]
   (repeat' first|refine ZG ?_|fail)
   (conv=>whnf)
   (repeat' first|exact trivial|rfl|refine And.intro ?_ ?_)
   exact List.append_assoc _ [47] _
 ·rename_i h1
  have h1:=Classical.not_not.1 h1
  rw[z1] at h1
  have hg1:(g:Int)=1:=iW (h1.trans itoa_one.symm)
  rw[hg1,Int.ediv_one,Int.ediv_one]
  (refine Br.mk (fun _=>?_) (fun _=>?_))
  ·rename_i h2
   rw[if_pos h2]
   (conv=>whnf)
   (repeat' first|exact trivial|rfl|refine And.intro ?_ ?_)
  ·rename_i h2
   rw[if_neg h2]
   (repeat' first|refine ZG ?_|fail)
   (conv=>whnf)
   (repeat' first|exact trivial|rfl|refine And.intro ?_ ?_)
   exact List.append_assoc _ [47] _
noncomputable def numQ (a b:List UInt8):List UInt8:=numS (Rat.divInt (valI a) (valI b))
def c52:Con:=aI 199 true fun args K=>match args with
 | [.str a,.str b]=>Need (chkI a=0∧chkI b=0∧valI b≠0) (K (.tup [S (numQ a b),I 0]))
 | _=>False
theorem k52:aG Tryz.prog c52:=by
 refine aB rfl (enters_of Tryz.func199 (by kernel_rfl) rfl) ?_
 intro args K h
 simp only[c52] at h
 split at h
 ·rename_i a b
  obtain ⟨⟨h1,h2,h3⟩,h⟩:=h
  refine ⟨_,h,?_⟩
  have ea:=qS (cS h1).1
  have eb:=qS (cS h2).1
  have la:lim (valI a)=false:=aE9 (by rw[← ea];exact h1)
  have lb:lim (valI b)=false:=aE9 (by rw[← eb];exact h2)
  unfold numQ
  rcases Int.lt_or_gt_of_ne h3 with hn | hp
  ·have:=aA (by simp[k91,k92,k89,k69]) Tryz.func199 (by simp[Tryz.ntmps199]) rfl (b52n (valI a) (valI b) la lb hn)
   rw[← ea,← eb] at this
   rw[pH _ _ hn]
   exact this
  ·have:=aA (by simp[k91,k92,k89,k69]) Tryz.func199 (by simp[Tryz.ntmps199]) rfl (b52p (valI a) (valI b) la lb hp)
   rw[← ea,← eb] at this
   rw[fZ _ _ hp]
   exact this
 ·exact h.elim
theorem rC {x:Int} (h:x.natAbs<1000000000000000000):(itoa x).length≤19:=by
 unfold itoa
 have h1:=fH 17 x.natAbs (by simpa using h)
 split
 ·simp only[List.length_cons];omega
 ·rename_i hx
  rw[show x.toNat=x.natAbs by omega];omega
theorem b90p (x y:Int) (hx:x.natAbs<1000000000000000000) (hy:y.natAbs<1000000000000000000) (h0:0<y):body Tryz.prog [c105,c61] {} true Tryz.f248 [.agg [I x,I y]] (S (numS (mkRat x y.toNat))):=by
 have hm:=aCl (x:=x) h0
 obtain ⟨g,hg⟩:∃g,Int.gcd x y=g:=⟨_,rfl⟩
 have gx:(g:Int) ∣ x:=by rw[← hg];exact Int.gcd_dvd_left _ _
 have gy:(g:Int) ∣ y:=by rw[← hg];exact Int.gcd_dvd_right _ _
 have gp:0<g:=by rw[← hg];exact Int.gcd_pos_of_ne_zero_right _ (by omega)
 have hgm:Int.gcd (max x (-x)) y=g:=by
  rw[← hg];unfold Int.gcd
  rw[show (max x (-x)).natAbs=x.natAbs by omega]
 rw[hg] at hm
 rw[hm]
 have t1:x.tdiv g=x/g:=Int.tdiv_eq_ediv_of_dvd gx
 have t2:y.tdiv g=y/g:=Int.tdiv_eq_ediv_of_dvd gy
 have b1:(x/g).natAbs≤x.natAbs:=by
  obtain ⟨k,rfl⟩:=gx
  rw[Int.mul_ediv_cancel_left _ (by omega),Int.natAbs_mul]
  exact Nat.le_mul_of_pos_left _ (by omega)
 have b2:(y/g).natAbs≤y.natAbs:=by
  obtain ⟨k,rfl⟩:=gy
  rw[Int.mul_ediv_cancel_left _ (by omega),Int.natAbs_mul]
  exact Nat.le_mul_of_pos_left _ (by omega)
 have m1:=rC (x:=x/g) (by omega)
 have m2:=rC (x:=y/g) (by omega)
 (repeat'((conv=>whnf);first|refine Zb ?_|refine Zn ?_|(apply Pin.mk;apply Exists.intro)|apply Pinned.mk rfl rfl|refine Zm ?_|fail))
 rw[hgm]
 (repeat'((conv=>whnf);first|refine Za ?_|refine Zn ?_|(apply Pin.mk;apply Exists.intro)|apply Pinned.mk rfl rfl|fail))
 rw[← t1]
 rw[← t1] at m1
 (refine Br.mk (fun _=>?_) (fun _=>?_))
 ·rename_i h1
  rw[if_pos (by rw[h1];exact itoa_one)]
  (conv=>whnf)
 ·rename_i h1
  rw[if_neg (fun e=>h1 (iW (e.trans itoa_one.symm)))]
  (repeat' first|refine ZR ?_|fail)
  (conv=>whnf)
  exact List.append_assoc _ [47] _
theorem b90n (x0 y0:Int) (hx0:x0.natAbs<1000000000000000000) (hy0:y0.natAbs<1000000000000000000) (h00:y0<0):body Tryz.prog [c105,c61] {} true Tryz.f248 [.agg [I x0,I y0]] (S (numS (mkRat (-x0) (-y0).toNat))):=by
 obtain ⟨x,ex⟩:∃x, -x0=x:=⟨_,rfl⟩
 obtain ⟨y,ey⟩:∃y, -y0=y:=⟨_,rfl⟩
 have hx:x.natAbs<1000000000000000000:=by omega
 have hy:y.natAbs<1000000000000000000:=by omega
 have h0:0<y:=by omega
 rw[ex,ey]
 have hm:=aCl (x:=x) h0
 obtain ⟨g,hg⟩:∃g,Int.gcd x y=g:=⟨_,rfl⟩
 have gx:(g:Int) ∣ x:=by rw[← hg];exact Int.gcd_dvd_left _ _
 have gy:(g:Int) ∣ y:=by rw[← hg];exact Int.gcd_dvd_right _ _
 have gp:0<g:=by rw[← hg];exact Int.gcd_pos_of_ne_zero_right _ (by omega)
 have hgm:Int.gcd (max x (-x)) y=g:=by
  rw[← hg];unfold Int.gcd
  rw[show (max x (-x)).natAbs=x.natAbs by omega]
 rw[hg] at hm
 rw[hm]
 have t1:x.tdiv g=x/g:=Int.tdiv_eq_ediv_of_dvd gx
 have t2:y.tdiv g=y/g:=Int.tdiv_eq_ediv_of_dvd gy
 have b1:(x/g).natAbs≤x.natAbs:=by
  obtain ⟨k,rfl⟩:=gx
  rw[Int.mul_ediv_cancel_left _ (by omega),Int.natAbs_mul]
  exact Nat.le_mul_of_pos_left _ (by omega)
 have b2:(y/g).natAbs≤y.natAbs:=by
  obtain ⟨k,rfl⟩:=gy
  rw[Int.mul_ediv_cancel_left _ (by omega),Int.natAbs_mul]
  exact Nat.le_mul_of_pos_left _ (by omega)
 have m1:=rC (x:=x/g) (by omega)
 have m2:=rC (x:=y/g) (by omega)
 (repeat'((conv=>whnf);first|refine Zn ?_|(apply Pin.mk;apply Exists.intro)|apply Pinned.mk rfl rfl|refine .r ?_|refine Zy ?_|fail))
 rw[ex,ey,hgm]
 (repeat'((conv=>whnf);first|refine Za ?_|refine Zn ?_|(apply Pin.mk;apply Exists.intro)|apply Pinned.mk rfl rfl|fail))
 rw[← t1]
 rw[← t1] at m1
 (refine Br.mk (fun _=>?_) (fun _=>?_))
 ·rename_i h1
  rw[if_pos (by rw[h1];exact itoa_one)]
  (conv=>whnf)
 ·rename_i h1
  rw[if_neg (fun e=>h1 (iW (e.trans itoa_one.symm)))]
  (repeat' first|refine ZR ?_|fail)
  (conv=>whnf)
  exact List.append_assoc _ [47] _
def c90:Con:=aI 248 true fun args K=>match args with
 | [.agg [.val (.int .i64 x),.val (.int .i64 y)]]=>Need (x.natAbs<1000000000000000000∧y.natAbs<1000000000000000000∧y≠0) (K (S (numS (Rat.divInt x y))))
 | _=>False
theorem k90:aG Tryz.prog c90:=by
 refine aB rfl (enters_of Tryz.func248 (by kernel_rfl) rfl) ?_
 intro args K h
 simp only[c90] at h
 split at h
 ·rename_i x y
  obtain ⟨⟨h1,h2,h3⟩,h⟩:=h
  refine ⟨_,h,?_⟩
  rcases Int.lt_or_gt_of_ne h3 with hn | hp
  ·rw[pH _ _ hn]
   exact aA (by simp[k105,k61]) Tryz.func248 (by simp[Tryz.ntmps248]) rfl (b90n x y h1 h2 hn)
  ·rw[fZ _ _ hp]
   exact aA (by simp[k105,k61]) Tryz.func248 (by simp[Tryz.ntmps248]) rfl (b90p x y h1 h2 hp)
 ·exact h.elim
theorem mul8 {a b:Int} (ha:a.natAbs<100000000) (hb:b.natAbs<100000000): -10000000000000000<a*b∧a*b<10000000000000000:=by
 have h:=Nat.mul_lt_mul'' ha hb
 rw[← Int.natAbs_mul] at h
 omega
abbrev n8 (a b c d:Int):Prop:=a.natAbs<100000000∧b.natAbs<100000000∧c.natAbs<100000000∧d.natAbs<100000000
theorem b53 (a b c d:Int) (h:n8 a b c d):body Tryz.prog [] {} true Tryz.f252 [.agg [I a,I b],.agg [I c,I d]] (.agg [I (a*d+c*b),I (b*d)]):=by
 obtain ⟨h1,h2,h3,h4⟩:=h
 have m1:=mul8 h1 h4
 have m2:=mul8 h3 h2
 have m3:=mul8 h2 h4
 have m4:=mul8 h1 h3
 have m5:=mul8 h2 h3
 (repeat' first|refine ZR ?_|fail)
 (conv=>whnf)
 (repeat' first|exact trivial|rfl|refine And.intro ?_ ?_)
def c53:Con:=aI 252 true fun args K=>match args with | [.agg [.val (.int .i64 a),.val (.int .i64 b)],.agg [.val (.int .i64 c),.val (.int .i64 d)]]=>Need (n8 a b c d) (K (.agg [I (a*d+c*b),I (b*d)])) | _=>False
theorem k53:aG Tryz.prog c53:=by
 refine aB rfl (enters_of Tryz.func252 (by kernel_rfl) rfl) ?_
 intro args K h
 simp only[c53] at h
 split at h
 ·rename_i a b c d;exact ⟨_,h.go,aA (by simp) Tryz.func252 (by simp[Tryz.ntmps252]) rfl (b53 a b c d h.ok)⟩
 ·exact h.elim
theorem b59 (a b c d:Int) (h:n8 a b c d):body Tryz.prog [] {} true Tryz.f242 [.agg [I a,I b],.agg [I c,I d]] (.agg [I (a*d-c*b),I (b*d)]):=by
 obtain ⟨h1,h2,h3,h4⟩:=h
 have m1:=mul8 h1 h4
 have m2:=mul8 h3 h2
 have m3:=mul8 h2 h4
 have m4:=mul8 h1 h3
 have m5:=mul8 h2 h3
 (repeat' first|refine ZR ?_|fail)
 (conv=>whnf)
 (repeat' first|exact trivial|rfl|refine And.intro ?_ ?_)
def c59:Con:=aI 242 true fun args K=>match args with | [.agg [.val (.int .i64 a),.val (.int .i64 b)],.agg [.val (.int .i64 c),.val (.int .i64 d)]]=>Need (n8 a b c d) (K (.agg [I (a*d-c*b),I (b*d)])) | _=>False
theorem k59:aG Tryz.prog c59:=by
 refine aB rfl (enters_of Tryz.func242 (by kernel_rfl) rfl) ?_
 intro args K h
 simp only[c59] at h
 split at h
 ·rename_i a b c d;exact ⟨_,h.go,aA (by simp) Tryz.func242 (by simp[Tryz.ntmps242]) rfl (b59 a b c d h.ok)⟩
 ·exact h.elim
theorem b56 (a b c d:Int) (h:n8 a b c d):body Tryz.prog [] {} true Tryz.f245 [.agg [I a,I b],.agg [I c,I d]] (.agg [I (a*c),I (b*d)]):=by
 obtain ⟨h1,h2,h3,h4⟩:=h
 have m1:=mul8 h1 h4
 have m2:=mul8 h3 h2
 have m3:=mul8 h2 h4
 have m4:=mul8 h1 h3
 have m5:=mul8 h2 h3
 (repeat' first|refine ZR ?_|fail)
 (conv=>whnf)
 (repeat' first|exact trivial|rfl|refine And.intro ?_ ?_)
def c56:Con:=aI 245 true fun args K=>match args with | [.agg [.val (.int .i64 a),.val (.int .i64 b)],.agg [.val (.int .i64 c),.val (.int .i64 d)]]=>Need (n8 a b c d) (K (.agg [I (a*c),I (b*d)])) | _=>False
theorem k56:aG Tryz.prog c56:=by
 refine aB rfl (enters_of Tryz.func245 (by kernel_rfl) rfl) ?_
 intro args K h
 simp only[c56] at h
 split at h
 ·rename_i a b c d;exact ⟨_,h.go,aA (by simp) Tryz.func245 (by simp[Tryz.ntmps245]) rfl (b56 a b c d h.ok)⟩
 ·exact h.elim
theorem b48 (a b c d:Int) (h:n8 a b c d):body Tryz.prog [] {} true Tryz.f195 [.agg [I a,I b],.agg [I c,I d]] (.agg [I (a*d),I (b*c)]):=by
 obtain ⟨h1,h2,h3,h4⟩:=h
 have m1:=mul8 h1 h4
 have m2:=mul8 h3 h2
 have m3:=mul8 h2 h4
 have m4:=mul8 h1 h3
 have m5:=mul8 h2 h3
 (repeat' first|refine ZR ?_|fail)
 (conv=>whnf)
 (repeat' first|exact trivial|rfl|refine And.intro ?_ ?_)
def c48:Con:=aI 195 true fun args K=>match args with | [.agg [.val (.int .i64 a),.val (.int .i64 b)],.agg [.val (.int .i64 c),.val (.int .i64 d)]]=>Need (n8 a b c d) (K (.agg [I (a*d),I (b*c)])) | _=>False
theorem k48:aG Tryz.prog c48:=by
 refine aB rfl (enters_of Tryz.func195 (by kernel_rfl) rfl) ?_
 intro args K h
 simp only[c48] at h
 split at h
 ·rename_i a b c d;exact ⟨_,h.go,aA (by simp) Tryz.func195 (by simp[Tryz.ntmps195]) rfl (b48 a b c d h.ok)⟩
 ·exact h.elim
theorem bF {s:List UInt8} (h:bK s):(valQ s).num.natAbs<100000000∧((valQ s).den:Int).natAbs<100000000∧0<((valQ s).den:Int):=by
 have:=(valQ s).den_pos
 exact ⟨h.2.1,by rw[Int.natAbs_natCast];exact h.2.2,by omega⟩
theorem aAn (p q:Rat):Rat.divInt (p.num*q.den+q.num*p.den) (p.den*q.den)=p+q:=by
 rw[aAc,fZ _ _ (Int.mul_pos (by have:=p.den_pos;omega) (by have:=q.den_pos;omega))];rfl
theorem aAo (p q:Rat):Rat.divInt (p.num*q.den-q.num*p.den) (p.den*q.den)=p-q:=by
 rw[sH,fZ _ _ (Int.mul_pos (by have:=p.den_pos;omega) (by have:=q.den_pos;omega))];rfl
theorem aAp (p q:Rat):Rat.divInt (p.num*q.num) (p.den*q.den)=p*q:=by
 rw[aAd,fZ _ _ (Int.mul_pos (by have:=p.den_pos;omega) (by have:=q.den_pos;omega))];rfl
theorem aAq (p q:Rat) (hq:q≠0):Rat.divInt (p.num*q.den) (p.den*q.num)=p/q:=(aAe p q hq).symm
def nv2 (a b:List UInt8):Prop:=nvOK a∧nvOK b
theorem aQt (a b:List UInt8) (h:nv2 a b) (ha:bK a) (hb:bK b):body Tryz.prog [c68,c53,c90] {} true Tryz.f194 [S a,S b,.clo 252 [] []] (.tup [S (numS (valQ a+valQ b)),.val (.bool true)]):=by
 obtain ⟨na,nb⟩:=h
 obtain ⟨p1,p2,p3⟩:=bF ha
 obtain ⟨q1,q2,q3⟩:=bF hb
 have m1:=mul8 p1 q2
 have m2:=mul8 q1 p2
 have m4:=mul8 p1 q1
 have m3:=mul8 p2 q2
 rw[← aAn (valQ a) (valQ b)]
 (repeat' first|refine ZR ?_|refine Zg fun _=>?_)
 (conv=>whnf)
 (repeat' first|exact trivial|rfl|refine And.intro ?_ ?_)
theorem aQu (a b:List UInt8) (h:¬nv2 a b):body Tryz.prog [c68,c53,c90] {} true Tryz.f194 [S a,S b,.clo 252 [] []] (.tup [S [],.val (.bool false)]):=by
 by_cases na:nvOK a
 ·have nb:¬nvOK b:=fun e=>h ⟨na,e⟩
  (repeat' first|refine ZR ?_|refine Zg fun _=>?_)
  (conv=>whnf)
  (repeat' first|exact trivial|rfl|refine And.intro ?_ ?_)
 ·(repeat' first|refine ZR ?_|fail)
  (conv=>whnf)
  (repeat' first|exact trivial|rfl|refine And.intro ?_ ?_)
def q53:Con:=aI 194 true fun args K=>match args with
 | [.str a,.str b,.clo 252 [] []]=>Br (nv2 a b) (Giv (bK a∧bK b) (K (.tup [S (numS (valQ a+valQ b)),.val (.bool true)]))) (K (.tup [S [],.val (.bool false)]))
 | _=>False
theorem kq53:aG Tryz.prog q53:=by
 refine aB rfl (enters_of Tryz.func194 (by kernel_rfl) rfl) ?_
 intro args K h
 simp only[q53] at h
 split at h
 ·rename_i a b
  by_cases hf:nv2 a b
  ·obtain ⟨v1,_,_,v2,v3⟩:=cR hf.1
   obtain ⟨w1,_,_,w2,w3⟩:=cR hf.2
   exact ⟨_,(h.yes hf).go ⟨⟨v1,v2,v3⟩,w1,w2,w3⟩,aA (by simp[k68,k53,k90]) Tryz.func194 (by simp[Tryz.ntmps194]) rfl (aQt a b hf ⟨v1,v2,v3⟩ ⟨w1,w2,w3⟩)⟩
  ·exact ⟨_,h.no hf,aA (by simp[k68,k53,k90]) Tryz.func194 (by simp[Tryz.ntmps194]) rfl (aQu a b hf)⟩
 ·exact h.elim
theorem aQv (a b:List UInt8) (h:nv2 a b) (ha:bK a) (hb:bK b):body Tryz.prog [c68,c59,c90] {} true Tryz.f194 [S a,S b,.clo 242 [] []] (.tup [S (numS (valQ a-valQ b)),.val (.bool true)]):=by
 obtain ⟨na,nb⟩:=h
 obtain ⟨p1,p2,p3⟩:=bF ha
 obtain ⟨q1,q2,q3⟩:=bF hb
 have m1:=mul8 p1 q2
 have m2:=mul8 q1 p2
 have m4:=mul8 p1 q1
 have m3:=mul8 p2 q2
 rw[← aAo (valQ a) (valQ b)]
 (repeat' first|refine ZR ?_|refine Zg fun _=>?_)
 (conv=>whnf)
 (repeat' first|exact trivial|rfl|refine And.intro ?_ ?_)
theorem aQw (a b:List UInt8) (h:¬nv2 a b):body Tryz.prog [c68,c59,c90] {} true Tryz.f194 [S a,S b,.clo 242 [] []] (.tup [S [],.val (.bool false)]):=by
 by_cases na:nvOK a
 ·have nb:¬nvOK b:=fun e=>h ⟨na,e⟩
  (repeat' first|refine ZR ?_|refine Zg fun _=>?_)
  (conv=>whnf)
  (repeat' first|exact trivial|rfl|refine And.intro ?_ ?_)
 ·(repeat' first|refine ZR ?_|fail)
  (conv=>whnf)
  (repeat' first|exact trivial|rfl|refine And.intro ?_ ?_)
def q59:Con:=aI 194 true fun args K=>match args with
 | [.str a,.str b,.clo 242 [] []]=>Br (nv2 a b) (Giv (bK a∧bK b) (K (.tup [S (numS (valQ a-valQ b)),.val (.bool true)]))) (K (.tup [S [],.val (.bool false)]))
 | _=>False
theorem kq59:aG Tryz.prog q59:=by
 refine aB rfl (enters_of Tryz.func194 (by kernel_rfl) rfl) ?_
 intro args K h
 simp only[q59] at h
 split at h
 ·rename_i a b
  by_cases hf:nv2 a b
  ·obtain ⟨v1,_,_,v2,v3⟩:=cR hf.1
   obtain ⟨w1,_,_,w2,w3⟩:=cR hf.2
   exact ⟨_,(h.yes hf).go ⟨⟨v1,v2,v3⟩,w1,w2,w3⟩,aA (by simp[k68,k59,k90]) Tryz.func194 (by simp[Tryz.ntmps194]) rfl (aQv a b hf ⟨v1,v2,v3⟩ ⟨w1,w2,w3⟩)⟩
  ·exact ⟨_,h.no hf,aA (by simp[k68,k59,k90]) Tryz.func194 (by simp[Tryz.ntmps194]) rfl (aQw a b hf)⟩
 ·exact h.elim
theorem aQx (a b:List UInt8) (h:nv2 a b) (ha:bK a) (hb:bK b):body Tryz.prog [c68,c56,c90] {} true Tryz.f194 [S a,S b,.clo 245 [] []] (.tup [S (numS (valQ a*valQ b)),.val (.bool true)]):=by
 obtain ⟨na,nb⟩:=h
 obtain ⟨p1,p2,p3⟩:=bF ha
 obtain ⟨q1,q2,q3⟩:=bF hb
 have m1:=mul8 p1 q2
 have m2:=mul8 q1 p2
 have m4:=mul8 p1 q1
 have m3:=mul8 p2 q2
 rw[← aAp (valQ a) (valQ b)]
 (repeat' first|refine ZR ?_|refine Zg fun _=>?_)
 (conv=>whnf)
 (repeat' first|exact trivial|rfl|refine And.intro ?_ ?_)
theorem aQy (a b:List UInt8) (h:¬nv2 a b):body Tryz.prog [c68,c56,c90] {} true Tryz.f194 [S a,S b,.clo 245 [] []] (.tup [S [],.val (.bool false)]):=by
 by_cases na:nvOK a
 ·have nb:¬nvOK b:=fun e=>h ⟨na,e⟩
  (repeat' first|refine ZR ?_|refine Zg fun _=>?_)
  (conv=>whnf)
  (repeat' first|exact trivial|rfl|refine And.intro ?_ ?_)
 ·(repeat' first|refine ZR ?_|fail)
  (conv=>whnf)
  (repeat' first|exact trivial|rfl|refine And.intro ?_ ?_)
def q56:Con:=aI 194 true fun args K=>match args with
 | [.str a,.str b,.clo 245 [] []]=>Br (nv2 a b) (Giv (bK a∧bK b) (K (.tup [S (numS (valQ a*valQ b)),.val (.bool true)]))) (K (.tup [S [],.val (.bool false)]))
 | _=>False
theorem kq56:aG Tryz.prog q56:=by
 refine aB rfl (enters_of Tryz.func194 (by kernel_rfl) rfl) ?_
 intro args K h
 simp only[q56] at h
 split at h
 ·rename_i a b
  by_cases hf:nv2 a b
  ·obtain ⟨v1,_,_,v2,v3⟩:=cR hf.1
   obtain ⟨w1,_,_,w2,w3⟩:=cR hf.2
   exact ⟨_,(h.yes hf).go ⟨⟨v1,v2,v3⟩,w1,w2,w3⟩,aA (by simp[k68,k56,k90]) Tryz.func194 (by simp[Tryz.ntmps194]) rfl (aQx a b hf ⟨v1,v2,v3⟩ ⟨w1,w2,w3⟩)⟩
  ·exact ⟨_,h.no hf,aA (by simp[k68,k56,k90]) Tryz.func194 (by simp[Tryz.ntmps194]) rfl (aQy a b hf)⟩
 ·exact h.elim
theorem aQz (a b:List UInt8) (hq:valQ b≠0) (h:nv2 a b) (ha:bK a) (hb:bK b):body Tryz.prog [c68,c48,c90] {} true Tryz.f194 [S a,S b,.clo 195 [] []] (.tup [S (numS (valQ a/valQ b)),.val (.bool true)]):=by
 obtain ⟨na,nb⟩:=h
 obtain ⟨p1,p2,p3⟩:=bF ha
 obtain ⟨q1,q2,q3⟩:=bF hb
 have m1:=mul8 p1 q2
 have m2:=mul8 q1 p2
 have m4:=mul8 p1 q1
 have hq0:(valQ b).num≠0:=fun e=>hq (Rat.num_eq_zero.1 e)
 have m3:=mul8 p2 q1
 rw[← aAq (valQ a) (valQ b) hq]
 (repeat' first|refine ZR ?_|refine Zg fun _=>?_)
 refine Need.mk ⟨by omega,by omega,Int.mul_ne_zero (by omega) hq0⟩ ?_
 (conv=>whnf)
 (repeat' first|exact trivial|rfl|refine And.intro ?_ ?_)
theorem aQ0 (a b:List UInt8) (h:¬nv2 a b):body Tryz.prog [c68,c48,c90] {} true Tryz.f194 [S a,S b,.clo 195 [] []] (.tup [S [],.val (.bool false)]):=by
 by_cases na:nvOK a
 ·have nb:¬nvOK b:=fun e=>h ⟨na,e⟩
  (repeat' first|refine ZR ?_|refine Zg fun _=>?_)
  (conv=>whnf)
  (repeat' first|exact trivial|rfl|refine And.intro ?_ ?_)
 ·(repeat' first|refine ZR ?_|fail)
  (conv=>whnf)
  (repeat' first|exact trivial|rfl|refine And.intro ?_ ?_)
def q48:Con:=aI 194 true fun args K=>match args with
 | [.str a,.str b,.clo 195 [] []]=>Need (¬b= [48]) (Br (nv2 a b) (Giv (bK a∧bK b) (K (.tup [S (numS (valQ a/valQ b)),.val (.bool true)]))) (K (.tup [S [],.val (.bool false)])))
 | _=>False
theorem nV:numS 0= [48]:=by
 unfold numS
 rw[if_pos (show Rat.den 0=1 from rfl)]
 exact itoa_zero
theorem kq48:aG Tryz.prog q48:=by
 refine aB rfl (enters_of Tryz.func194 (by kernel_rfl) rfl) ?_
 intro args K h
 simp only[q48] at h
 split at h
 ·rename_i a b
  obtain ⟨hb0,h⟩:=h
  by_cases hf:nv2 a b
  ·obtain ⟨v1,_,_,v2,v3⟩:=cR hf.1
   obtain ⟨w1,_,_,w2,w3⟩:=cR hf.2
   have hq:valQ b≠0:=fun e=>hb0 (by rw[w1,e];exact nV)
   exact ⟨_,(h.yes hf).go ⟨⟨v1,v2,v3⟩,w1,w2,w3⟩,aA (by simp[k68,k48,k90]) Tryz.func194 (by simp[Tryz.ntmps194]) rfl (aQz a b hq hf ⟨v1,v2,v3⟩ ⟨w1,w2,w3⟩)⟩
  ·exact ⟨_,h.no hf,aA (by simp[k68,k48,k90]) Tryz.func194 (by simp[Tryz.ntmps194]) rfl (aQ0 a b hf)⟩
 ·exact h.elim
theorem aCm {a b:List UInt8} (ha:chkI a=0) (hb:chkI b=0) (r:List UInt8 × Int):dH a b r=r:=by
 unfold dH chk2
 rw[ha,hb,if_neg (by simp)]
def c58r:Con:=aI 247 true fun args K=>match args with
 | [.str a,.str b]=>Need (chkI a=0∧chkI b=0) (Br (lim (valI a*valI b)=false) (K (.tup [S (itoa (valI a*valI b)),I 0])) (K (.tup [S [],I 4])))
 | _=>False
theorem k58r:aG Tryz.prog c58r:=by
 refine aB rfl (enters_of Tryz.func247 (by kernel_rfl) rfl) ?_
 intro args K h
 simp only[c58r] at h
 split at h
 ·rename_i a b
  obtain ⟨⟨ha,hb⟩,h⟩:=h
  have ht:=aA (by simp[k94,k95,k61,k98,k99f,k96]) Tryz.func247 (by simp[Tryz.ntmps247]) rfl (b58 a b)
  rw[aCm ha hb] at ht
  by_cases hl:lim (valI a*valI b)=false
  ·refine ⟨_,h.yes hl,?_⟩
   unfold resI at ht
   rw[hl] at ht
   exact ht
  ·refine ⟨_,h.no hl,?_⟩
   unfold resI at ht
   rw[show lim _=true from by simpa using hl] at ht
   exact ht
 ·exact h.elim
def c55r:Con:=aI 253 true fun args K=>match args with
 | [.str a,.str b]=>Need (chkI a=0∧chkI b=0) (Br (lim (valI a+valI b)=false) (K (.tup [S (itoa (valI a+valI b)),I 0])) (K (.tup [S [],I 4])))
 | _=>False
theorem k55r:aG Tryz.prog c55r:=by
 refine aB rfl (enters_of Tryz.func253 (by kernel_rfl) rfl) ?_
 intro args K h
 simp only[c55r] at h
 split at h
 ·rename_i a b
  obtain ⟨⟨ha,hb⟩,h⟩:=h
  have ht:=aA (by simp[k94,k95,k61,k98,k97,k96]) Tryz.func253 (by simp[Tryz.ntmps253]) rfl (b55 a b)
  rw[aCm ha hb] at ht
  by_cases hl:lim (valI a+valI b)=false
  ·refine ⟨_,h.yes hl,?_⟩
   unfold resI at ht
   rw[hl] at ht
   exact ht
  ·refine ⟨_,h.no hl,?_⟩
   unfold resI at ht
   rw[show lim _=true from by simpa using hl] at ht
   exact ht
 ·exact h.elim
def c60r:Con:=aI 244 true fun args K=>match args with
 | [.str a,.str b]=>Need (chkI a=0∧chkI b=0) (Br (lim (valI a-valI b)=false) (K (.tup [S (itoa (valI a-valI b)),I 0])) (K (.tup [S [],I 4])))
 | _=>False
theorem k60r:aG Tryz.prog c60r:=by
 refine aB rfl (enters_of Tryz.func244 (by kernel_rfl) rfl) ?_
 intro args K h
 simp only[c60r] at h
 split at h
 ·rename_i a b
  obtain ⟨⟨ha,hb⟩,h⟩:=h
  have ht:=aA (by simp[k94,k95,k61,k98,k97,k96]) Tryz.func244 (by simp[Tryz.ntmps244]) rfl (b60 a b)
  rw[aCm ha hb] at ht
  by_cases hl:lim (valI a-valI b)=false
  ·refine ⟨_,h.yes hl,?_⟩
   unfold resI at ht
   rw[hl] at ht
   exact ht
  ·refine ⟨_,h.no hl,?_⟩
   unfold resI at ht
   rw[show lim _=true from by simpa using hl] at ht
   exact ht
 ·exact h.elim
abbrev ck4 (a b c d:List UInt8):Prop:=(chkI a=0∧chkI b=0)∧(chkI c=0∧chkI d=0)
def eJ (a b c d:List UInt8):Prop:=lim (valI a*valI d)=false∧lim (valI c*valI b)=false
instance (a b c d:List UInt8):Decidable (eJ a b c d):=by unfold eJ;infer_instance
theorem b51y (a b c d:List UInt8) (h:ck4 a b c d) (hl:eJ a b c d):body Tryz.prog [c58r] {} true Tryz.f198 [.agg [S a,S b],.agg [S c,S d]] (.tup [S (itoa (valI a*valI d)),S (itoa (valI c*valI b)),I 0]):=by
 obtain ⟨⟨h1,h2⟩,h3,h4⟩:=h
 obtain ⟨l1,l2⟩:=hl
 (repeat' first|refine ZR ?_|fail)
 (conv=>whnf)
 (repeat' first|exact trivial|rfl|refine And.intro ?_ ?_)
theorem b51n (a b c d:List UInt8) (h:ck4 a b c d) (hl:¬eJ a b c d):body Tryz.prog [c58r] {} true Tryz.f198 [.agg [S a,S b],.agg [S c,S d]] (.tup [.any,.any,I 4]):=by
 obtain ⟨⟨h1,h2⟩,h3,h4⟩:=h
 by_cases l1:lim (valI a*valI d)=false
 ·have l2:¬lim (valI c*valI b)=false:=fun e=>hl ⟨l1,e⟩
  (repeat' first|refine ZR ?_|fail)
  (conv=>whnf)
  (repeat' first|exact trivial|rfl|refine And.intro ?_ ?_)
 ·(repeat' first|refine ZR ?_|fail)
  (conv=>whnf)
  (repeat' first|exact trivial|rfl|refine And.intro ?_ ?_)
def c51:Con:=aI 198 true fun args K=>match args with
 | [.agg [.str a,.str b],.agg [.str c,.str d]]=>Need (ck4 a b c d) (Br (eJ a b c d) (K (.tup [S (itoa (valI a*valI d)),S (itoa (valI c*valI b)),I 0])) (K (.tup [.any,.any,I 4])))
 | _=>False
theorem k51:aG Tryz.prog c51:=by
 refine aB rfl (enters_of Tryz.func198 (by kernel_rfl) rfl) ?_
 intro args K h
 simp only[c51] at h
 split at h
 ·rename_i a b c d
  obtain ⟨h0,h⟩:=h
  by_cases hl:eJ a b c d
  ·exact ⟨_,h.yes hl,aA (by simp[k58r]) Tryz.func198 (by simp[Tryz.ntmps198]) rfl (b51y a b c d h0 hl)⟩
  ·exact ⟨_,h.no hl,aA (by simp[k58r]) Tryz.func198 (by simp[Tryz.ntmps198]) rfl (b51n a b c d h0 hl)⟩
 ·exact h.elim
abbrev dens (b d:List UInt8):Prop:=0<valI b∧0<valI d
theorem nW (n d:Int):numQ (itoa n) (itoa d)=numS (Rat.divInt n d):=by
 unfold numQ
 rw[aU,aU]
theorem aCn {n:Int} (h:0<n):valI (itoa n)≠0:=by rw[aU];omega
def ok57 (a b c d:List UInt8):Prop:=lim (valI a*valI c)=false∧lim (valI b*valI d)=false
instance (a b c d:List UInt8):Decidable (ok57 a b c d):=by unfold ok57;infer_instance
theorem b57y (a b c d:List UInt8) (h:ck4 a b c d∧dens b d) (hl:ok57 a b c d):body Tryz.prog [c58r,c52] {} true Tryz.f246 [.agg [S a,S b],.agg [S c,S d]] (.tup [S (numQ (itoa (valI a*valI c)) (itoa (valI b*valI d))),I 0]):=by
 obtain ⟨⟨⟨h1,h2⟩,h3,h4⟩,hb,hd⟩:=h
 obtain ⟨l1,l2⟩:=hl
 have k1:=bB l1
 have k2:=bB l2
 have k3:=aCn (Int.mul_pos hb hd)
 (repeat' first|refine ZR ?_|fail)
 (conv=>whnf)
 (repeat' first|exact trivial|rfl|refine And.intro ?_ ?_)
theorem b57n (a b c d:List UInt8) (h:ck4 a b c d) (hl:¬ok57 a b c d):body Tryz.prog [c58r,c52] {} true Tryz.f246 [.agg [S a,S b],.agg [S c,S d]] (.tup [S [],I 4]):=by
 obtain ⟨⟨h1,h2⟩,h3,h4⟩:=h
 by_cases l1:lim (valI a*valI c)=false
 ·have l2:¬lim (valI b*valI d)=false:=fun e=>hl ⟨l1,e⟩
  (repeat' first|refine ZR ?_|fail)
  (conv=>whnf)
  (repeat' first|exact trivial|rfl|refine And.intro ?_ ?_)
 ·(repeat' first|refine ZR ?_|fail)
  (conv=>whnf)
  (repeat' first|exact trivial|rfl|refine And.intro ?_ ?_)
def c57:Con:=aI 246 true fun args K=>match args with
 | [.agg [.str a,.str b],.agg [.str c,.str d]]=>Need (ck4 a b c d∧dens b d) (Br (ok57 a b c d) (K (.tup [S (numS (Rat.divInt (valI a*valI c) (valI b*valI d))),I 0])) (K (.tup [S [],I 4])))
 | _=>False
theorem k57:aG Tryz.prog c57:=by
 refine aB rfl (enters_of Tryz.func246 (by kernel_rfl) rfl) ?_
 intro args K h
 simp only[c57] at h
 split at h
 ·rename_i a b c d
  obtain ⟨h0,h⟩:=h
  by_cases hl:ok57 a b c d
  ·refine ⟨_,h.yes hl,?_⟩
   rw[← nW]
   exact aA (by simp[k58r,k52]) Tryz.func246 (by simp[Tryz.ntmps246]) rfl (b57y a b c d h0 hl)
  ·exact ⟨_,h.no hl,aA (by simp[k58r,k52]) Tryz.func246 (by simp[Tryz.ntmps246]) rfl (b57n a b c d h0.1 hl)⟩
 ·exact h.elim
def mW (a b c d:List UInt8):Prop:=eJ a b c d∧lim (valI a*valI d+valI c*valI b)=false∧lim (valI b*valI d)=false
instance (a b c d:List UInt8):Decidable (mW a b c d):=by unfold mW;infer_instance
theorem b93ay (a b c d:List UInt8) (h:ck4 a b c d∧dens b d) (hl:mW a b c d):body Tryz.prog [c51,c55r,c58r,c52] {} true Tryz.f289 [.agg [S a,S b],.agg [S c,S d],.lelem [.clo 253 [] []] 0] (.tup [S (numQ (itoa (valI a*valI d+valI c*valI b)) (itoa (valI b*valI d))),I 0]):=by
 obtain ⟨⟨⟨h1,h2⟩,h3,h4⟩,hb,hd⟩:=h
 obtain ⟨l1,l2,l3⟩:=hl
 have k1:=bB l2
 have k2:=bB l3
 have k3:=aCn (Int.mul_pos hb hd)
 have j1:=bB l1.1
 have j2:=bB l1.2
 have e1:=aU (valI a*valI d)
 have e2:=aU (valI c*valI b)
 (repeat' first|refine ZR ?_|fail)
 rw[e1,e2]
 (repeat' first|refine ZR ?_|fail)
 (conv=>whnf)
 (repeat' first|exact trivial|rfl|refine And.intro ?_ ?_)
theorem b93an (a b c d:List UInt8) (h:ck4 a b c d) (hl:¬mW a b c d):body Tryz.prog [c51,c55r,c58r,c52] {} true Tryz.f289 [.agg [S a,S b],.agg [S c,S d],.lelem [.clo 253 [] []] 0] (.tup [S [],I 4]):=by
 obtain ⟨⟨h1,h2⟩,h3,h4⟩:=h
 by_cases l1:eJ a b c d
 ·have j1:=bB l1.1
  have j2:=bB l1.2
  have e1:=aU (valI a*valI d)
  have e2:=aU (valI c*valI b)
  by_cases l2:lim (valI a*valI d+valI c*valI b)=false
  ·have l3:¬lim (valI b*valI d)=false:=fun e=>hl ⟨l1,l2,e⟩
   (repeat' first|refine ZR ?_|fail)
   rw[e1,e2]
   (repeat' first|refine ZR ?_|fail)
   (conv=>whnf)
   (repeat' first|exact trivial|rfl|refine And.intro ?_ ?_)
  ·(repeat' first|refine ZR ?_|fail)
   rw[e1,e2]
   (repeat' first|refine ZR ?_|fail)
   (conv=>whnf)
   (repeat' first|exact trivial|rfl|refine And.intro ?_ ?_)
 ·(repeat' first|refine ZR ?_|fail)
  (conv=>whnf)
  (repeat' first|exact trivial|rfl|refine And.intro ?_ ?_)
def c93a:Con:=aI 289 true fun args K=>match args with
 | [.agg [.str a,.str b],.agg [.str c,.str d],.lelem [.clo 253 [] []] 0]=>Need (ck4 a b c d∧dens b d) (Br (mW a b c d) (K (.tup [S (numS (Rat.divInt (valI a*valI d+valI c*valI b) (valI b*valI d))),I 0])) (K (.tup [S [],I 4])))
 | _=>False
theorem k93a:aG Tryz.prog c93a:=by
 refine aB rfl (enters_of Tryz.func289 (by kernel_rfl) rfl) ?_
 intro args K h
 simp only[c93a] at h
 split at h
 ·rename_i a b c d
  obtain ⟨h0,h⟩:=h
  by_cases hl:mW a b c d
  ·refine ⟨_,h.yes hl,?_⟩
   rw[← nW]
   exact aA (by simp[k51,k55r,k58r,k52]) Tryz.func289 (by simp[Tryz.ntmps289]) rfl (b93ay a b c d h0 hl)
  ·exact ⟨_,h.no hl,aA (by simp[k51,k55r,k58r,k52]) Tryz.func289 (by simp[Tryz.ntmps289]) rfl (b93an a b c d h0.1 hl)⟩
 ·exact h.elim
def mX (a b c d:List UInt8):Prop:=eJ a b c d∧lim (valI a*valI d-valI c*valI b)=false∧lim (valI b*valI d)=false
instance (a b c d:List UInt8):Decidable (mX a b c d):=by unfold mX;infer_instance
theorem b93sy (a b c d:List UInt8) (h:ck4 a b c d∧dens b d) (hl:mX a b c d):body Tryz.prog [c51,c60r,c58r,c52] {} true Tryz.f289 [.agg [S a,S b],.agg [S c,S d],.lelem [.clo 244 [] []] 0] (.tup [S (numQ (itoa (valI a*valI d-valI c*valI b)) (itoa (valI b*valI d))),I 0]):=by
 obtain ⟨⟨⟨h1,h2⟩,h3,h4⟩,hb,hd⟩:=h
 obtain ⟨l1,l2,l3⟩:=hl
 have k1:=bB l2
 have k2:=bB l3
 have k3:=aCn (Int.mul_pos hb hd)
 have j1:=bB l1.1
 have j2:=bB l1.2
 have e1:=aU (valI a*valI d)
 have e2:=aU (valI c*valI b)
 (repeat' first|refine ZR ?_|fail)
 rw[e1,e2]
 (repeat' first|refine ZR ?_|fail)
 (conv=>whnf)
 (repeat' first|exact trivial|rfl|refine And.intro ?_ ?_)
theorem b93sn (a b c d:List UInt8) (h:ck4 a b c d) (hl:¬mX a b c d):body Tryz.prog [c51,c60r,c58r,c52] {} true Tryz.f289 [.agg [S a,S b],.agg [S c,S d],.lelem [.clo 244 [] []] 0] (.tup [S [],I 4]):=by
 obtain ⟨⟨h1,h2⟩,h3,h4⟩:=h
 by_cases l1:eJ a b c d
 ·have j1:=bB l1.1
  have j2:=bB l1.2
  have e1:=aU (valI a*valI d)
  have e2:=aU (valI c*valI b)
  by_cases l2:lim (valI a*valI d-valI c*valI b)=false
  ·have l3:¬lim (valI b*valI d)=false:=fun e=>hl ⟨l1,l2,e⟩
   (repeat' first|refine ZR ?_|fail)
   rw[e1,e2]
   (repeat' first|refine ZR ?_|fail)
   (conv=>whnf)
   (repeat' first|exact trivial|rfl|refine And.intro ?_ ?_)
  ·(repeat' first|refine ZR ?_|fail)
   rw[e1,e2]
   (repeat' first|refine ZR ?_|fail)
   (conv=>whnf)
   (repeat' first|exact trivial|rfl|refine And.intro ?_ ?_)
 ·(repeat' first|refine ZR ?_|fail)
  (conv=>whnf)
  (repeat' first|exact trivial|rfl|refine And.intro ?_ ?_)
def c93s:Con:=aI 289 true fun args K=>match args with
 | [.agg [.str a,.str b],.agg [.str c,.str d],.lelem [.clo 244 [] []] 0]=>Need (ck4 a b c d∧dens b d) (Br (mX a b c d) (K (.tup [S (numS (Rat.divInt (valI a*valI d-valI c*valI b) (valI b*valI d))),I 0])) (K (.tup [S [],I 4])))
 | _=>False
theorem k93s:aG Tryz.prog c93s:=by
 refine aB rfl (enters_of Tryz.func289 (by kernel_rfl) rfl) ?_
 intro args K h
 simp only[c93s] at h
 split at h
 ·rename_i a b c d
  obtain ⟨h0,h⟩:=h
  by_cases hl:mX a b c d
  ·refine ⟨_,h.yes hl,?_⟩
   rw[← nW]
   exact aA (by simp[k51,k60r,k58r,k52]) Tryz.func289 (by simp[Tryz.ntmps289]) rfl (b93sy a b c d h0 hl)
  ·exact ⟨_,h.no hl,aA (by simp[k51,k60r,k58r,k52]) Tryz.func289 (by simp[Tryz.ntmps289]) rfl (b93sn a b c d h0.1 hl)⟩
 ·exact h.elim
def ok50 (a b c d:List UInt8):Prop:=eJ a b c d
instance (a b c d:List UInt8):Decidable (ok50 a b c d):=by unfold ok50;infer_instance
theorem b50y (a b c d:List UInt8) (h:ck4 a b c d∧dens b d∧¬c= [48]) (hl:ok50 a b c d):body Tryz.prog [c51,c52] {} true Tryz.f197 [.agg [S a,S b],.agg [S c,S d]] (.tup [S (numQ (itoa (valI a*valI d)) (itoa (valI c*valI b))),I 0]):=by
 obtain ⟨⟨⟨h1,h2⟩,h3,h4⟩,⟨hb,hd⟩,hc⟩:=h
 have k1:=bB hl.1
 have k2:=bB hl.2
 have k3:valI (itoa (valI c*valI b))≠0:=by
  rw[aU]
  exact Int.mul_ne_zero (aO7 (cS h3).1 hc) (by omega)
 (repeat' first|refine ZR ?_|fail)
 (conv=>whnf)
 (repeat' first|exact trivial|rfl|refine And.intro ?_ ?_)
theorem b50n (a b c d:List UInt8) (h:ck4 a b c d∧¬c= [48]) (hl:¬ok50 a b c d):body Tryz.prog [c51,c52] {} true Tryz.f197 [.agg [S a,S b],.agg [S c,S d]] (.tup [S [],I 4]):=by
 obtain ⟨⟨⟨h1,h2⟩,h3,h4⟩,hc⟩:=h
 have hl:¬eJ a b c d:=hl
 (repeat' first|refine ZR ?_|fail)
 (conv=>whnf)
 (repeat' first|exact trivial|rfl|refine And.intro ?_ ?_)
def c50:Con:=aI 197 true fun args K=>match args with
 | [.agg [.str a,.str b],.agg [.str c,.str d]]=>Need (ck4 a b c d∧dens b d) (Br (c= [48]) (K (.tup [S [],I 12])) (Br (ok50 a b c d) (K (.tup [S (numS (Rat.divInt (valI a*valI d) (valI c*valI b))),I 0])) (K (.tup [S [],I 4]))))
 | _=>False
theorem b50z (a b c d:List UInt8) (hc:c= [48]):body Tryz.prog [c51,c52] {} true Tryz.f197 [.agg [S a,S b],.agg [S c,S d]] (.tup [S [],I 12]):=by
 (repeat' first|refine ZR ?_|fail)
 (conv=>whnf)
 (repeat' first|exact trivial|rfl|refine And.intro ?_ ?_)
theorem k50:aG Tryz.prog c50:=by
 refine aB rfl (enters_of Tryz.func197 (by kernel_rfl) rfl) ?_
 intro args K h
 simp only[c50] at h
 split at h
 ·rename_i a b c d
  obtain ⟨h0,h⟩:=h
  by_cases hc:c= [48]
  ·exact ⟨_,h.yes hc,aA (by simp[k51,k52]) Tryz.func197 (by simp[Tryz.ntmps197]) rfl (b50z a b c d hc)⟩
  replace h:=h.no hc
  by_cases hl:ok50 a b c d
  ·refine ⟨_,h.yes hl,?_⟩
   rw[← nW]
   exact aA (by simp[k51,k52]) Tryz.func197 (by simp[Tryz.ntmps197]) rfl (b50y a b c d ⟨h0.1,h0.2,hc⟩ hl)
  ·exact ⟨_,h.no hl,aA (by simp[k51,k52]) Tryz.func197 (by simp[Tryz.ntmps197]) rfl (b50n a b c d ⟨h0.1,hc⟩ hl)⟩
 ·exact h.elim
theorem b54 (f:FuncId):body Tryz.prog [] {} false Tryz.f243 [.clo f [] []] (.clo 289 [] [.lelem [.clo f [] []] 0]):=by
 (conv=>whnf)
 (repeat' first|exact trivial|rfl|refine And.intro ?_ ?_)
def c54:Con:=aI 243 false fun args K=>match args with | [.clo f [] []]=>K (.clo 289 [] [.lelem [.clo f [] []] 0]) | _=>False
theorem k54:aG Tryz.prog c54:=by
 refine aB rfl (enters_of Tryz.func243 (by kernel_rfl) rfl) ?_
 intro args K h
 simp only[c54] at h
 split at h
 ·rename_i f;exact ⟨_,h,aA (by simp) Tryz.func243 (by simp[Tryz.ntmps243]) rfl (b54 f)⟩
 ·exact h.elim
noncomputable def addf (p q:Rat):List UInt8 × Int:=if lim (p.num*q.den) || lim (q.num*p.den) || lim (p.num*q.den+q.num*p.den) || lim (p.den*q.den) then ([],4) else (numS (p+q),0)
noncomputable def subf (p q:Rat):List UInt8 × Int:=if lim (p.num*q.den) || lim (q.num*p.den) || lim (p.num*q.den-q.num*p.den) || lim (p.den*q.den) then ([],4) else (numS (p-q),0)
noncomputable def mulf (p q:Rat):List UInt8 × Int:=if lim (p.num*q.num) || lim (p.den*q.den) then ([],4) else (numS (p*q),0)
noncomputable def divf (p q:Rat):List UInt8 × Int:=if q=0 then ([],12) else if lim (p.num*q.den) || lim (q.num*p.den) then ([],4) else (numS (p/q),0)
abbrev pn (p:Rat):List UInt8:=itoa p.num
abbrev pd (p:Rat):List UInt8:=decDigits p.den
theorem gP (p:Rat):valI (pn p)=p.num:=aU _
theorem gB (p:Rat):valI (pd p)=p.den:=by unfold pd;rw[← mU,aU]
theorem aJj (q:Rat):pn q= [48]↔q=0:=by
 unfold pn
 rw[← itoa_zero]
 exact ⟨fun h=>Rat.num_eq_zero.1 (iW h),fun h=>by rw[h];rfl⟩
theorem gI {s:List UInt8} (h:aPe s):chkI (pn (valQ s))=0∧chkI (pd (valQ s))=0∧0<valI (pd (valQ s)):=by
 refine ⟨bB (by unfold lim;simpa using h.2.1),(aJh h.2.2).2.1,?_⟩
 rw[gB]
 have:=(valQ s).den_pos
 omega
theorem aSp {p q:Rat} (h:mW (pn p) (pd p) (pn q) (pd q)):addf p q=(numS (Rat.divInt (valI (pn p)*valI (pd q)+valI (pn q)*valI (pd p)) (valI (pd p)*valI (pd q))),0):=by
 unfold mW eJ at h
 simp only[gP,gB] at h ⊢
 unfold addf
 rw[aAn p q]
 simp[h]
theorem aSq {p q:Rat} (h:¬mW (pn p) (pd p) (pn q) (pd q)):addf p q=([],4):=by
 unfold mW eJ at h
 simp only[gP,gB] at h
 unfold addf
 rw[if_pos]
 apply Classical.byContradiction
 intro hn
 apply h
 simp only[Bool.or_eq_true,not_or,Bool.not_eq_true] at hn
 simp[hn]
theorem aSr {p q:Rat} (h:mX (pn p) (pd p) (pn q) (pd q)):subf p q=(numS (Rat.divInt (valI (pn p)*valI (pd q)-valI (pn q)*valI (pd p)) (valI (pd p)*valI (pd q))),0):=by
 unfold mX eJ at h
 simp only[gP,gB] at h ⊢
 unfold subf
 rw[aAo p q]
 simp[h]
theorem aSs {p q:Rat} (h:¬mX (pn p) (pd p) (pn q) (pd q)):subf p q=([],4):=by
 unfold mX eJ at h
 simp only[gP,gB] at h
 unfold subf
 rw[if_pos]
 apply Classical.byContradiction
 intro hn
 apply h
 simp only[Bool.or_eq_true,not_or,Bool.not_eq_true] at hn
 simp[hn]
theorem aSt {p q:Rat} (h:ok57 (pn p) (pd p) (pn q) (pd q)):mulf p q=(numS (Rat.divInt (valI (pn p)*valI (pn q)) (valI (pd p)*valI (pd q))),0):=by
 unfold ok57 at h
 simp only[gP,gB] at h ⊢
 unfold mulf
 rw[aAp p q]
 simp[h]
theorem aSu {p q:Rat} (h:¬ok57 (pn p) (pd p) (pn q) (pd q)):mulf p q=([],4):=by
 unfold ok57 at h
 simp only[gP,gB] at h
 unfold mulf
 rw[if_pos]
 apply Classical.byContradiction
 intro hn
 apply h
 simp only[Bool.or_eq_true,not_or,Bool.not_eq_true] at hn
 simp[hn]
theorem aSv {p q:Rat} (hq:q≠0) (h:ok50 (pn p) (pd p) (pn q) (pd q)):divf p q=(numS (Rat.divInt (valI (pn p)*valI (pd q)) (valI (pn q)*valI (pd p))),0):=by
 unfold ok50 eJ at h
 simp only[gP,gB] at h ⊢
 unfold divf
 rw[if_neg hq,Int.mul_comm q.num,aAq p q hq]
 rw[Int.mul_comm q.num] at h
 simp[h]
theorem aSw {p q:Rat} (hq:q≠0) (h:¬ok50 (pn p) (pd p) (pn q) (pd q)):divf p q=([],4):=by
 unfold ok50 eJ at h
 simp only[gP,gB] at h
 unfold divf
 rw[if_neg hq,if_pos]
 apply Classical.byContradiction
 intro hn
 apply h
 simp only[Bool.or_eq_true,not_or,Bool.not_eq_true] at hn
 simp[hn]
theorem aQ1 (a b:List UInt8):body Tryz.prog [c46,c93a] {} true Tryz.f196 [S a,S b,.clo 289 [] [.lelem [.clo 253 [] []] 0]] (.tup [S (addQ a b).1,I (addQ a b).2]):=by
 by_cases ha:chkQ a=0
 ·by_cases hb:chkQ b=0
  ·have e:addQ a b=addf (valQ a) (valQ b):=by
    show cK a b addf= _
    unfold cK
    rw[if_neg (by simpa using ha),if_neg (by simpa using hb)]
   rw[e]
   obtain ⟨r1,r2,r3⟩:=gI (dC ha)
   obtain ⟨s1,s2,s3⟩:=gI (dC hb)
   by_cases hk:mW (pn (valQ a)) (pd (valQ a)) (pn (valQ b)) (pd (valQ b))
   ·rw[aSp hk]
    (repeat' first|refine ZR ?_|refine Zg fun _=>?_)
    refine Need.mk ⟨⟨⟨r1,r2⟩,s1,s2⟩,r3,s3⟩ ?_
    (repeat' first|refine ZR ?_|fail)
    (conv=>whnf)
    (repeat' first|exact trivial|rfl|refine And.intro ?_ ?_)
   ·rw[aSq hk]
    (repeat' first|refine ZR ?_|refine Zg fun _=>?_)
    refine Need.mk ⟨⟨⟨r1,r2⟩,s1,s2⟩,r3,s3⟩ ?_
    (repeat' first|refine ZR ?_|fail)
    (conv=>whnf)
    (repeat' first|exact trivial|rfl|refine And.intro ?_ ?_)
  ·have e:addQ a b=([],chkQ b):=by
    show cK a b addf= _
    unfold cK
    rw[if_neg (by simpa using ha),if_pos hb]
   rw[e]
   (repeat' first|refine ZR ?_|refine Zg fun _=>?_)
   (conv=>whnf)
   (repeat' first|exact trivial|rfl|refine And.intro ?_ ?_)
 ·have e:addQ a b=([],chkQ a):=by
   show cK a b addf= _
   unfold cK
   rw[if_pos ha]
  rw[e]
  (repeat' first|refine ZR ?_|fail)
  (conv=>whnf)
  (repeat' first|exact trivial|rfl|refine And.intro ?_ ?_)
def w93a:Con:=aI 196 true fun args K=>match args with
 | [.str a,.str b,.clo 289 [] [.lelem [.clo 253 [] []] 0]]=>K (.tup [S (addQ a b).1,I (addQ a b).2])
 | _=>False
theorem kw93a:aG Tryz.prog w93a:=by
 refine aB rfl (enters_of Tryz.func196 (by kernel_rfl) rfl) ?_
 intro args K h
 simp only[w93a] at h
 split at h
 ·rename_i a b
  exact ⟨_,h,aA (by simp[k46,k93a]) Tryz.func196 (by simp[Tryz.ntmps196]) rfl (aQ1 a b)⟩
 ·exact h.elim
theorem aQ2 (a b:List UInt8):body Tryz.prog [c46,c93s] {} true Tryz.f196 [S a,S b,.clo 289 [] [.lelem [.clo 244 [] []] 0]] (.tup [S (subQ a b).1,I (subQ a b).2]):=by
 by_cases ha:chkQ a=0
 ·by_cases hb:chkQ b=0
  ·have e:subQ a b=subf (valQ a) (valQ b):=by
    show cK a b subf= _
    unfold cK
    rw[if_neg (by simpa using ha),if_neg (by simpa using hb)]
   rw[e]
   obtain ⟨r1,r2,r3⟩:=gI (dC ha)
   obtain ⟨s1,s2,s3⟩:=gI (dC hb)
   by_cases hk:mX (pn (valQ a)) (pd (valQ a)) (pn (valQ b)) (pd (valQ b))
   ·rw[aSr hk]
    (repeat' first|refine ZR ?_|refine Zg fun _=>?_)
    refine Need.mk ⟨⟨⟨r1,r2⟩,s1,s2⟩,r3,s3⟩ ?_
    (repeat' first|refine ZR ?_|fail)
    (conv=>whnf)
    (repeat' first|exact trivial|rfl|refine And.intro ?_ ?_)
   ·rw[aSs hk]
    (repeat' first|refine ZR ?_|refine Zg fun _=>?_)
    refine Need.mk ⟨⟨⟨r1,r2⟩,s1,s2⟩,r3,s3⟩ ?_
    (repeat' first|refine ZR ?_|fail)
    (conv=>whnf)
    (repeat' first|exact trivial|rfl|refine And.intro ?_ ?_)
  ·have e:subQ a b=([],chkQ b):=by
    show cK a b subf= _
    unfold cK
    rw[if_neg (by simpa using ha),if_pos hb]
   rw[e]
   (repeat' first|refine ZR ?_|refine Zg fun _=>?_)
   (conv=>whnf)
   (repeat' first|exact trivial|rfl|refine And.intro ?_ ?_)
 ·have e:subQ a b=([],chkQ a):=by
   show cK a b subf= _
   unfold cK
   rw[if_pos ha]
  rw[e]
  (repeat' first|refine ZR ?_|fail)
  (conv=>whnf)
  (repeat' first|exact trivial|rfl|refine And.intro ?_ ?_)
def w93s:Con:=aI 196 true fun args K=>match args with
 | [.str a,.str b,.clo 289 [] [.lelem [.clo 244 [] []] 0]]=>K (.tup [S (subQ a b).1,I (subQ a b).2])
 | _=>False
theorem kw93s:aG Tryz.prog w93s:=by
 refine aB rfl (enters_of Tryz.func196 (by kernel_rfl) rfl) ?_
 intro args K h
 simp only[w93s] at h
 split at h
 ·rename_i a b
  exact ⟨_,h,aA (by simp[k46,k93s]) Tryz.func196 (by simp[Tryz.ntmps196]) rfl (aQ2 a b)⟩
 ·exact h.elim
theorem aSx (a b:List UInt8):body Tryz.prog [c46,c57] {} true Tryz.f196 [S a,S b,.clo 246 [] []] (.tup [S (mulQ a b).1,I (mulQ a b).2]):=by
 by_cases ha:chkQ a=0
 ·by_cases hb:chkQ b=0
  ·have e:mulQ a b=mulf (valQ a) (valQ b):=by
    show cK a b mulf= _
    unfold cK
    rw[if_neg (by simpa using ha),if_neg (by simpa using hb)]
   rw[e]
   obtain ⟨r1,r2,r3⟩:=gI (dC ha)
   obtain ⟨s1,s2,s3⟩:=gI (dC hb)
   by_cases hk:ok57 (pn (valQ a)) (pd (valQ a)) (pn (valQ b)) (pd (valQ b))
   ·rw[aSt hk]
    (repeat' first|refine ZR ?_|refine Zg fun _=>?_)
    refine Need.mk ⟨⟨⟨r1,r2⟩,s1,s2⟩,r3,s3⟩ ?_
    (repeat' first|refine ZR ?_|fail)
    (conv=>whnf)
    (repeat' first|exact trivial|rfl|refine And.intro ?_ ?_)
   ·rw[aSu hk]
    (repeat' first|refine ZR ?_|refine Zg fun _=>?_)
    refine Need.mk ⟨⟨⟨r1,r2⟩,s1,s2⟩,r3,s3⟩ ?_
    (repeat' first|refine ZR ?_|fail)
    (conv=>whnf)
    (repeat' first|exact trivial|rfl|refine And.intro ?_ ?_)
  ·have e:mulQ a b=([],chkQ b):=by
    show cK a b mulf= _
    unfold cK
    rw[if_neg (by simpa using ha),if_pos hb]
   rw[e]
   (repeat' first|refine ZR ?_|refine Zg fun _=>?_)
   (conv=>whnf)
   (repeat' first|exact trivial|rfl|refine And.intro ?_ ?_)
 ·have e:mulQ a b=([],chkQ a):=by
   show cK a b mulf= _
   unfold cK
   rw[if_pos ha]
  rw[e]
  (repeat' first|refine ZR ?_|fail)
  (conv=>whnf)
  (repeat' first|exact trivial|rfl|refine And.intro ?_ ?_)
def w57:Con:=aI 196 true fun args K=>match args with
 | [.str a,.str b,.clo 246 [] []]=>K (.tup [S (mulQ a b).1,I (mulQ a b).2])
 | _=>False
theorem kw57:aG Tryz.prog w57:=by
 refine aB rfl (enters_of Tryz.func196 (by kernel_rfl) rfl) ?_
 intro args K h
 simp only[w57] at h
 split at h
 ·rename_i a b
  exact ⟨_,h,aA (by simp[k46,k57]) Tryz.func196 (by simp[Tryz.ntmps196]) rfl (aSx a b)⟩
 ·exact h.elim
theorem aSy (a b:List UInt8):body Tryz.prog [c46,c50] {} true Tryz.f196 [S a,S b,.clo 197 [] []] (.tup [S (divQ a b).1,I (divQ a b).2]):=by
 by_cases ha:chkQ a=0
 ·by_cases hb:chkQ b=0
  ·have e:divQ a b=divf (valQ a) (valQ b):=by
    show cK a b divf= _
    unfold cK
    rw[if_neg (by simpa using ha),if_neg (by simpa using hb)]
   rw[e]
   obtain ⟨r1,r2,r3⟩:=gI (dC ha)
   obtain ⟨s1,s2,s3⟩:=gI (dC hb)
   by_cases hz:pn (valQ b)= [48]
   ·have hd:divf (valQ a) (valQ b)=([],12):=by unfold divf;rw[if_pos ((aJj _).1 hz)]
    rw[hd]
    (repeat' first|refine ZR ?_|refine Zg fun _=>?_)
    refine Need.mk ⟨⟨⟨r1,r2⟩,s1,s2⟩,r3,s3⟩ ?_
    (repeat' first|refine ZR ?_|fail)
    (conv=>whnf)
    (repeat' first|exact trivial|rfl|refine And.intro ?_ ?_)
   ·have hq:valQ b≠0:=fun e=>hz ((aJj _).2 e)
    by_cases hk:ok50 (pn (valQ a)) (pd (valQ a)) (pn (valQ b)) (pd (valQ b))
    ·rw[aSv hq hk]
     (repeat' first|refine ZR ?_|refine Zg fun _=>?_)
     refine Need.mk ⟨⟨⟨r1,r2⟩,s1,s2⟩,r3,s3⟩ ?_
     (repeat' first|refine ZR ?_|fail)
     (conv=>whnf)
     (repeat' first|exact trivial|rfl|refine And.intro ?_ ?_)
    ·rw[aSw hq hk]
     (repeat' first|refine ZR ?_|refine Zg fun _=>?_)
     refine Need.mk ⟨⟨⟨r1,r2⟩,s1,s2⟩,r3,s3⟩ ?_
     (repeat' first|refine ZR ?_|fail)
     (conv=>whnf)
     (repeat' first|exact trivial|rfl|refine And.intro ?_ ?_)
  ·have e:divQ a b=([],chkQ b):=by
    show cK a b divf= _
    unfold cK
    rw[if_neg (by simpa using ha),if_pos hb]
   rw[e]
   (repeat' first|refine ZR ?_|refine Zg fun _=>?_)
   (conv=>whnf)
   (repeat' first|exact trivial|rfl|refine And.intro ?_ ?_)
 ·have e:divQ a b=([],chkQ a):=by
   show cK a b divf= _
   unfold cK
   rw[if_pos ha]
  rw[e]
  (repeat' first|refine ZR ?_|fail)
  (conv=>whnf)
  (repeat' first|exact trivial|rfl|refine And.intro ?_ ?_)
def w50:Con:=aI 196 true fun args K=>match args with
 | [.str a,.str b,.clo 197 [] []]=>K (.tup [S (divQ a b).1,I (divQ a b).2])
 | _=>False
theorem kw50:aG Tryz.prog w50:=by
 refine aB rfl (enters_of Tryz.func196 (by kernel_rfl) rfl) ?_
 intro args K h
 simp only[w50] at h
 split at h
 ·rename_i a b
  exact ⟨_,h,aA (by simp[k46,k50]) Tryz.func196 (by simp[Tryz.ntmps196]) rfl (aSy a b)⟩
 ·exact h.elim
theorem bZ {n:Int} (h:n.natAbs<10^40):lim n=false:=by
 unfold lim
 have:=fH 39 n.natAbs h
 simp;omega
theorem lJ {a b:List UInt8} (ha:bK a) (hb:bK b) (f:Rat→Rat→List UInt8 × Int):cK a b f=f (valQ a) (valQ b):=by
 unfold cK
 rw[if_neg (by rw[iG ha];simp),if_neg (by rw[iG hb];simp)]
theorem aG7 {a b:List UInt8} (ha:bK a) (hb:bK b):addQ a b=(numS (valQ a+valQ b),0):=by
 rw[show addQ a b=addf (valQ a) (valQ b) from lJ ha hb addf]
 obtain ⟨p1,p2,p3⟩:=bF ha
 obtain ⟨q1,q2,q3⟩:=bF hb
 have m1:=mul8 p1 q2
 have m2:=mul8 q1 p2
 have m3:=mul8 p2 q2
 have m4:=mul8 p1 q1
 unfold addf
 rw[bZ (n:=(valQ a).num*(valQ b).den) (by omega),bZ (n:=(valQ b).num*(valQ a).den) (by omega),bZ (n:=(valQ a).num*(valQ b).den+(valQ b).num*(valQ a).den) (by omega),bZ (n:=(valQ a).den*(valQ b).den) (by omega)]
 rfl
theorem aG8 {a b:List UInt8} (ha:bK a) (hb:bK b):subQ a b=(numS (valQ a-valQ b),0):=by
 rw[show subQ a b=subf (valQ a) (valQ b) from lJ ha hb subf]
 obtain ⟨p1,p2,p3⟩:=bF ha
 obtain ⟨q1,q2,q3⟩:=bF hb
 have m1:=mul8 p1 q2
 have m2:=mul8 q1 p2
 have m3:=mul8 p2 q2
 have m4:=mul8 p1 q1
 unfold subf
 rw[bZ (n:=(valQ a).num*(valQ b).den) (by omega),bZ (n:=(valQ b).num*(valQ a).den) (by omega),bZ (n:=(valQ a).num*(valQ b).den-(valQ b).num*(valQ a).den) (by omega),bZ (n:=(valQ a).den*(valQ b).den) (by omega)]
 rfl
theorem aG9 {a b:List UInt8} (ha:bK a) (hb:bK b):mulQ a b=(numS (valQ a*valQ b),0):=by
 rw[show mulQ a b=mulf (valQ a) (valQ b) from lJ ha hb mulf]
 obtain ⟨p1,p2,p3⟩:=bF ha
 obtain ⟨q1,q2,q3⟩:=bF hb
 have m1:=mul8 p1 q2
 have m2:=mul8 q1 p2
 have m3:=mul8 p2 q2
 have m4:=mul8 p1 q1
 unfold mulf
 rw[bZ (n:=(valQ a).num*(valQ b).num) (by omega),bZ (n:=(valQ a).den*(valQ b).den) (by omega)]
 rfl
theorem aHa {a b:List UInt8} (ha:bK a) (hb:bK b) (h0:¬b= [48]):divQ a b=(numS (valQ a/valQ b),0):=by
 rw[show divQ a b=divf (valQ a) (valQ b) from lJ ha hb divf]
 obtain ⟨p1,p2,p3⟩:=bF ha
 obtain ⟨q1,q2,q3⟩:=bF hb
 have m1:=mul8 p1 q2
 have m2:=mul8 q1 p2
 unfold divf
 rw[if_neg (fun e=>h0 (by rw[hb.1,e];exact nV)),bZ (n:=(valQ a).num*(valQ b).den) (by omega),bZ (n:=(valQ b).num*(valQ a).den) (by omega)]
 rfl
theorem b17 (a b:List UInt8):body Tryz.prog [q53,w93a,c54] {} true Tryz.f200 [S a,S b] (.tup [S (addQ a b).1,I (addQ a b).2]):=by
 by_cases h:nv2 a b
 ·have ha:=(cR h.1);have hb:=(cR h.2)
  rw[aG7 ⟨ha.1,ha.2.2.2⟩ ⟨hb.1,hb.2.2.2⟩]
  (repeat' first|refine ZR ?_|refine Zg fun _=>?_)
  (conv=>whnf)
  (repeat' first|exact trivial|rfl|refine And.intro ?_ ?_)
 ·(repeat' first|refine ZR ?_|fail)
  (conv=>whnf)
  (repeat' first|exact trivial|rfl|refine And.intro ?_ ?_)
def c17:Con:=aI 200 true fun args K=>match args with | [.str a,.str b]=>K (.tup [S (addQ a b).1,I (addQ a b).2]) | _=>False
theorem k17:aG Tryz.prog c17:=by
 refine aB rfl (enters_of Tryz.func200 (by kernel_rfl) rfl) ?_
 intro args K h
 simp only[c17] at h
 split at h
 ·rename_i a b
  exact ⟨_,h,aA (by simp[kq53,kw93a,k54]) Tryz.func200 (by simp[Tryz.ntmps200]) rfl (b17 a b)⟩
 ·exact h.elim
theorem b20 (a b:List UInt8):body Tryz.prog [q59,w93s,c54] {} true Tryz.f192 [S a,S b] (.tup [S (subQ a b).1,I (subQ a b).2]):=by
 by_cases h:nv2 a b
 ·have ha:=(cR h.1);have hb:=(cR h.2)
  rw[aG8 ⟨ha.1,ha.2.2.2⟩ ⟨hb.1,hb.2.2.2⟩]
  (repeat' first|refine ZR ?_|refine Zg fun _=>?_)
  (conv=>whnf)
  (repeat' first|exact trivial|rfl|refine And.intro ?_ ?_)
 ·(repeat' first|refine ZR ?_|fail)
  (conv=>whnf)
  (repeat' first|exact trivial|rfl|refine And.intro ?_ ?_)
def c20:Con:=aI 192 true fun args K=>match args with | [.str a,.str b]=>K (.tup [S (subQ a b).1,I (subQ a b).2]) | _=>False
theorem k20:aG Tryz.prog c20:=by
 refine aB rfl (enters_of Tryz.func192 (by kernel_rfl) rfl) ?_
 intro args K h
 simp only[c20] at h
 split at h
 ·rename_i a b
  exact ⟨_,h,aA (by simp[kq59,kw93s,k54]) Tryz.func192 (by simp[Tryz.ntmps192]) rfl (b20 a b)⟩
 ·exact h.elim
theorem b19 (a b:List UInt8):body Tryz.prog [q56,w57] {} true Tryz.f193 [S a,S b] (.tup [S (mulQ a b).1,I (mulQ a b).2]):=by
 by_cases h:nv2 a b
 ·have ha:=(cR h.1);have hb:=(cR h.2)
  rw[aG9 ⟨ha.1,ha.2.2.2⟩ ⟨hb.1,hb.2.2.2⟩]
  (repeat' first|refine ZR ?_|refine Zg fun _=>?_)
  (conv=>whnf)
  (repeat' first|exact trivial|rfl|refine And.intro ?_ ?_)
 ·(repeat' first|refine ZR ?_|fail)
  (conv=>whnf)
  (repeat' first|exact trivial|rfl|refine And.intro ?_ ?_)
def c19:Con:=aI 193 true fun args K=>match args with | [.str a,.str b]=>K (.tup [S (mulQ a b).1,I (mulQ a b).2]) | _=>False
theorem k19:aG Tryz.prog c19:=by
 refine aB rfl (enters_of Tryz.func193 (by kernel_rfl) rfl) ?_
 intro args K h
 simp only[c19] at h
 split at h
 ·rename_i a b
  exact ⟨_,h,aA (by simp[kq56,kw57]) Tryz.func193 (by simp[Tryz.ntmps193]) rfl (b19 a b)⟩
 ·exact h.elim
theorem b14 (a b:List UInt8):body Tryz.prog [q48,w50] {} true Tryz.f150 [S a,S b] (.tup [S (divQ a b).1,I (divQ a b).2]):=by
 by_cases h0:b= [48]
 ·(repeat' first|refine ZR ?_|fail)
  (conv=>whnf)
  (repeat' first|exact trivial|rfl|refine And.intro ?_ ?_)
 ·by_cases h:nv2 a b
  ·have ha:=(cR h.1);have hb:=(cR h.2)
   rw[aHa ⟨ha.1,ha.2.2.2⟩ ⟨hb.1,hb.2.2.2⟩ h0]
   (repeat' first|refine ZR ?_|refine Zg fun _=>?_)
   (conv=>whnf)
   (repeat' first|exact trivial|rfl|refine And.intro ?_ ?_)
  ·(repeat' first|refine ZR ?_|fail)
   (conv=>whnf)
   (repeat' first|exact trivial|rfl|refine And.intro ?_ ?_)
def c14:Con:=aI 150 true fun args K=>match args with | [.str a,.str b]=>K (.tup [S (divQ a b).1,I (divQ a b).2]) | _=>False
theorem k14:aG Tryz.prog c14:=by
 refine aB rfl (enters_of Tryz.func150 (by kernel_rfl) rfl) ?_
 intro args K h
 simp only[c14] at h
 split at h
 ·rename_i a b
  exact ⟨_,h,aA (by simp[kq48,kw50]) Tryz.func150 (by simp[Tryz.ntmps150]) rfl (b14 a b)⟩
 ·exact h.elim
theorem b21 (a:List UInt8):body Tryz.prog [c46] {} true Tryz.f113 [S a] (I (chkQ a)):=by
 by_cases h:chkQ a=0
 ·rw[h]
  (repeat' first|refine ZR ?_|refine Zg fun _=>?_)
  (conv=>whnf)
  (repeat' first|rfl|refine And.intro ?_ ?_)
 ·(repeat' first|refine ZR ?_|fail)
  (conv=>whnf)
  (repeat' first|rfl|refine And.intro ?_ ?_)
def c21:Con:=aI 113 true fun args K=>match args with | [.str a]=>K (I (chkQ a)) | _=>False
theorem k21:aG Tryz.prog c21:=by
 refine aB rfl (enters_of Tryz.func113 (by kernel_rfl) rfl) ?_
 intro args K h
 simp only[c21] at h
 split at h
 ·rename_i a;exact ⟨_,h,aA (by simp[k46]) Tryz.func113 (by simp[Tryz.ntmps113]) rfl (b21 a)⟩
 ·exact h.elim
noncomputable def ptQ (a:List UInt8):List UInt8 × List UInt8:=if chkQ a=0 then (pn (valQ a),pd (valQ a)) else ([],[])
noncomputable def cmpf (p q:Rat):Int × Int:=if lim (p.num*q.den) || lim (q.num*p.den) then (0,4) else (cmpI (p.num*q.den) (q.num*p.den),0)
noncomputable def cmpQ (a b:List UInt8):Int × Int:=if chkQ a≠0 then (0,chkQ a) else if chkQ b≠0 then (0,chkQ b) else cmpf (valQ a) (valQ b)
def c77r:Con:=aI 294 true fun args K=>match args with
 | [.str a,.str b]=>Need (chkI a=0∧chkI b=0) (K (.tup [I (cmpI (valI a) (valI b)),I 0]))
 | _=>False
theorem k77r:aG Tryz.prog c77r:=by
 refine aB rfl (enters_of Tryz.func294 (by kernel_rfl) rfl) ?_
 intro args K h
 simp only[c77r] at h
 split at h
 ·rename_i a b
  obtain ⟨⟨ha,hb⟩,h⟩:=h
  have ht:=aA (by simp[k94,k95,k98,k97,k76]) Tryz.func294 (by simp[Tryz.ntmps294]) rfl (b77 a b)
  unfold aJf chk2 at ht
  rw[ha,hb,if_neg (by simp)] at ht
  exact ⟨_,h,ht⟩
 ·exact h.elim
theorem b38 (a b:List UInt8):body Tryz.prog [c68,c46,c76,c51,c77r] {} true Tryz.f254 [S a,S b] (.tup [I (cmpQ a b).1,I (cmpQ a b).2]):=by
 unfold cmpQ
 by_cases hv:nv2 a b
 ·obtain ⟨na,nb⟩:=hv
  have ha:bK a:=⟨(cR na).1,(cR na).2.2.2⟩
  have hb:bK b:=⟨(cR nb).1,(cR nb).2.2.2⟩
  obtain ⟨p1,p2,p3⟩:=bF ha
  obtain ⟨q1,q2,q3⟩:=bF hb
  have m1:=mul8 p1 q2
  have m2:=mul8 q1 p2
  have e:cmpf (valQ a) (valQ b)=(cmpI ((valQ a).num*(valQ b).den) ((valQ b).num*(valQ a).den),0):=by
   unfold cmpf
   rw[bZ (n:=(valQ a).num*(valQ b).den) (by omega),bZ (n:=(valQ b).num*(valQ a).den) (by omega)]
   rfl
  rw[if_neg (by rw[iG ha];simp),if_neg (by rw[iG hb];simp),e]
  (repeat' first|refine ZR ?_|refine Zg fun _=>?_)
  (conv=>whnf)
  (repeat' first|exact trivial|rfl|refine And.intro ?_ ?_)
 ·by_cases hca:chkQ a=0
  ·by_cases hcb:chkQ b=0
   ·rw[if_neg (by simpa using hca),if_neg (by simpa using hcb)]
    obtain ⟨r1,r2,r3⟩:=gI (dC hca)
    obtain ⟨s1,s2,s3⟩:=gI (dC hcb)
    have v1:=gP (valQ a)
    have v2:=gB (valQ a)
    have v3:=gP (valQ b)
    have v4:=gB (valQ b)
    by_cases hk:eJ (pn (valQ a)) (pd (valQ a)) (pn (valQ b)) (pd (valQ b))
    ·have e:cmpf (valQ a) (valQ b)=(cmpI (valI (itoa (valI (pn (valQ a))*valI (pd (valQ b))))) (valI (itoa (valI (pn (valQ b))*valI (pd (valQ a))))),0):=by
      have hk2:=hk
      unfold eJ at hk2
      simp only[gP,gB,aU] at hk2 ⊢
      unfold cmpf
      rw[hk2.1,hk2.2]
      rfl
     rw[e]
     have k1:=bB hk.1
     have k2:=bB hk.2
     by_cases na:nvOK a
     ·have nb:¬nvOK b:=fun e=>hv ⟨na,e⟩
      (repeat' first|refine ZR ?_|refine Zg fun _=>?_)
      refine Need.mk ⟨⟨r1,r2⟩,s1,s2⟩ ?_
      (repeat' first|refine ZR ?_|fail)
      refine Need.mk ⟨k1,k2⟩ ?_
      (conv=>whnf)
      (repeat' first|exact trivial|rfl|refine And.intro ?_ ?_)
     ·(repeat' first|refine ZR ?_|refine Zg fun _=>?_)
      refine Need.mk ⟨⟨r1,r2⟩,s1,s2⟩ ?_
      (repeat' first|refine ZR ?_|fail)
      refine Need.mk ⟨k1,k2⟩ ?_
      (conv=>whnf)
      (repeat' first|exact trivial|rfl|refine And.intro ?_ ?_)
    ·have e:cmpf (valQ a) (valQ b)=(0,4):=by
      unfold eJ at hk
      simp only[gP,gB] at hk
      unfold cmpf
      rw[if_pos]
      apply Classical.byContradiction
      intro hn
      apply hk
      simp only[Bool.or_eq_true,not_or,Bool.not_eq_true] at hn
      exact hn
     rw[e]
     by_cases na:nvOK a
     ·have nb:¬nvOK b:=fun e=>hv ⟨na,e⟩
      (repeat' first|refine ZR ?_|refine Zg fun _=>?_)
      refine Need.mk ⟨⟨r1,r2⟩,s1,s2⟩ ?_
      (repeat' first|refine ZR ?_|fail)
      (conv=>whnf)
      (repeat' first|exact trivial|rfl|refine And.intro ?_ ?_)
     ·(repeat' first|refine ZR ?_|refine Zg fun _=>?_)
      refine Need.mk ⟨⟨r1,r2⟩,s1,s2⟩ ?_
      (repeat' first|refine ZR ?_|fail)
      (conv=>whnf)
      (repeat' first|exact trivial|rfl|refine And.intro ?_ ?_)
   ·rw[if_neg (by simpa using hca),if_pos hcb]
    by_cases na:nvOK a
    ·by_cases nb:nvOK b
     ·exact absurd ⟨na,nb⟩ hv
     ·(repeat' first|refine ZR ?_|refine Zg fun _=>?_)
      (conv=>whnf)
      (repeat' first|exact trivial|rfl|refine And.intro ?_ ?_)
    ·(repeat' first|refine ZR ?_|refine Zg fun _=>?_)
     (conv=>whnf)
     (repeat' first|exact trivial|rfl|refine And.intro ?_ ?_)
  ·rw[if_pos hca]
   by_cases na:nvOK a
   ·exact absurd (iG ⟨(cR na).1,(cR na).2.2.2⟩) hca
   ·(repeat' first|refine ZR ?_|fail)
    (conv=>whnf)
    (repeat' first|exact trivial|rfl|refine And.intro ?_ ?_)
def c38:Con:=aI 254 true fun args K=>match args with | [.str a,.str b]=>K (.tup [I (cmpQ a b).1,I (cmpQ a b).2]) | _=>False
theorem k38:aG Tryz.prog c38:=by
 refine aB rfl (enters_of Tryz.func254 (by kernel_rfl) rfl) ?_
 intro args K h
 simp only[c38] at h
 split at h
 ·rename_i a b;exact ⟨_,h,aA (by simp[k68,k46,k76,k51,k77r]) Tryz.func254 (by simp[Tryz.ntmps254]) rfl (b38 a b)⟩
 ·exact h.elim
abbrev B6:Nat:=1000000
def c143:Con:=aI 265 true fun args K=>match args with | [.seq (.int .i64) l,.val (.int .i64 i)]=>Need (0≤i) (Ix i fun j=>K (I (l.getD j 0))) | _=>False
def c145:Con:=aI 267 false fun args K=>match args with | [.seq (.int .i64) a,.seq (.int .i64) b]=>Need (InB B6 a∧InB B6 b∧a.length≤100000∧b.length≤100000) (K (Ls (aH B6 (valB B6 a*valB B6 b).toNat))) | _=>False
end RB
end
section
namespace IB
end IB
end
section
open Go Go.Proofs Go.Eng Go.Shelf IB Go.Lib Go.RowKit
namespace RB
def r9 (n:Nat) (a:List Int):Nat→SV
 | 0=>.ref 3 1
 | m+1=>Ls (aH B6 (divK B6 n a (m+1)).2.toNat)
def c85:Con:=aI 159 true fun args K=>match args with | [.str s]=>Need ((∀c∈s,bC c)∧s.length≤18) (K (I (aM s))) | _=>False
noncomputable instance (s:List UInt8):Decidable (okD s):=Classical.propDecidable _
abbrev U (l:List Int):HO:=.vec 1 (.int .u8) l 5
theorem i0:itoa (valB B6 [])= [48]:=by show itoa 0= [48];simp[itoa,decDigits]
def badQ (s:List UInt8):Prop:=60<s.length∨chkQ s≠0
noncomputable instance (s:List UInt8):Decidable (badQ s):=Classical.propDecidable _
def fineL (l:List (List UInt8)):Prop:=∀a∈l,a.length≤60∧chkQ a=0
noncomputable instance (l:List (List UInt8)):Decidable (fineL l):=Classical.propDecidable _
theorem aPo {q:Rat} (h1:q.num.natAbs<10^40) (h2:q.den<10^40):chkQ (numS q)=0:=by
 refine xW (by rw[cW]) ?_ ?_
 ·rw[iU]
  rw[bS]
  have:=fH 39 q.num.natAbs h1
  omega
 ·rw[mS]
  split
  ·simp
  ·have:=fH 39 q.den h2
   simp;omega
def Sz (k:Nat) (q:Rat):Prop:=q.num.natAbs<10^k∧q.den<10^k
theorem fJ {i j:Nat} (h:i≤j):(10:Nat)^i≤10^j:=Nat.pow_le_pow_right (by omega) h
theorem Sz.mono {i j:Nat} {q:Rat} (h:Sz i q) (hij:i≤j):Sz j q:=
 ⟨Nat.lt_of_lt_of_le h.1 (fJ hij),Nat.lt_of_lt_of_le h.2 (fJ hij)⟩
theorem iX {n k:Nat} (hk:0<k) (h:n<10^k):(decDigits n).length≤k:=by
 obtain ⟨m,rfl⟩:∃m,k=m+1:=⟨k-1,by omega⟩
 exact fH m n h
theorem dP {n:Int} {k:Nat} (hk:0<k∧k≤300) (h:n.natAbs<10^k):lim n=false:=by
 unfold lim
 have:=iX hk.1 h
 simp;omega
theorem aJn {n k:Nat} (h:(decDigits n).length≤k):n<10^k:=by
 have h1:=iT (decDigits n) (fun c hc=>lG _ c hc)
 rw[dM] at h1
 exact Nat.lt_of_lt_of_le h1 (fJ h)
theorem pL {q:Rat} {k:Nat} (h:Sz k q) (hk:0<k∧k≤300):chkQ (numS q)=0:=by
 refine xW (by rw[cW]) ?_ ?_
 ·rw[iU,bS]
  have:=iX hk.1 h.1
  omega
 ·rw[mS]
  split
  ·simp
  ·have:=iX hk.1 h.2
   simp;omega
theorem lL {a b i j:Nat} (ha:a<10^i) (hb:b<10^j):a*b<10^ (i+j):=by
 rw[Nat.pow_add]
 exact Nat.mul_lt_mul'' ha hb
theorem oM (n:Int) (g:Nat):(n/(g:Int)).natAbs≤n.natAbs:=by
 rcases Nat.eq_zero_or_pos g with e | e
 ·subst e;simp
 ·have h1:(1:Int)≤g:=by omega
  rcases Int.le_total 0 n with h | h
  ·have h2:=Int.ediv_le_self (g:Int) h
   have h3:=Int.ediv_nonneg h (show (0:Int)≤g by omega)
   omega
  ·have h2:n/(g:Int)≤0:=by
    have:=Int.ediv_le_ediv (show (0:Int)<g by omega) h
    simpa using this
   have h3:n≤n/(g:Int):=by
    rw[Int.le_ediv_iff_mul_le (by omega)]
    have:=Int.mul_le_mul_of_nonpos_left (a:=n) h h1
    rw[Int.mul_one] at this
    omega
   omega
theorem aFe {n:Int} {d k:Nat} (hd:d≠0) (h1:n.natAbs<10^k) (h2:d<10^k):Sz k (mkRat n d):=by
 refine ⟨?_,?_⟩
 ·rw[Rat.num_mkRat,if_neg hd]
  refine Nat.lt_of_le_of_lt ?_ h1
  exact oM _ _
 ·rw[Rat.den_mkRat,if_neg hd]
  exact Nat.lt_of_le_of_lt (Nat.div_le_self _ _) h2
theorem jH {x y:Int} {k:Nat} (hx:x.natAbs<10^k) (hy:y.natAbs<10^k):(x+y).natAbs<10^ (k+1)∧(x-y).natAbs<10^ (k+1):=by
 rw[Nat.pow_succ]
 omega
section
variable {p q:Rat} {i j:Nat}
theorem Sz.cross (hp:Sz i p) (hq:Sz j q):(p.num*q.den).natAbs<10^ (i+j)∧(q.num*p.den).natAbs<10^ (i+j)∧(p.num*q.num).natAbs<10^ (i+j)∧p.den*q.den<10^ (i+j):=by
 refine ⟨?_,?_,?_,lL hp.2 hq.2⟩
 ·rw[Int.natAbs_mul];exact lL hp.1 hq.2
 ·rw[Int.natAbs_mul,Nat.add_comm];exact lL hq.1 hp.2
 ·rw[Int.natAbs_mul];exact lL hp.1 hq.1
theorem aCp (p q:Rat):p.den*q.den≠0:=Nat.mul_ne_zero p.den_nz q.den_nz
theorem Sz.add (hp:Sz i p) (hq:Sz j q):Sz (i+j+1) (p+q):=by
 obtain ⟨h1,h2,h3,h4⟩:=hp.cross hq
 rw[aAc]
 exact aFe (aCp p q) (jH h1 h2).1 (Nat.lt_of_lt_of_le h4 (fJ (by omega)))
theorem Sz.sub (hp:Sz i p) (hq:Sz j q):Sz (i+j+1) (p-q):=by
 obtain ⟨h1,h2,h3,h4⟩:=hp.cross hq
 rw[sH]
 exact aFe (aCp p q) (jH h1 h2).2 (Nat.lt_of_lt_of_le h4 (fJ (by omega)))
theorem Sz.mul (hp:Sz i p) (hq:Sz j q):Sz (i+j) (p*q):=by
 obtain ⟨h1,h2,h3,h4⟩:=hp.cross hq
 rw[aAd]
 exact aFe (aCp p q) h3 h4
theorem uJ {f:Rat→Rat→List UInt8 × Int} (hp:Sz i p) (hq:Sz j q) (hi:0<i∧i≤300) (hj:0<j∧j≤300):cK (numS p) (numS q) f=f p q:=by
 unfold cK
 rw[if_neg (by rw[pL hp hi];simp),if_neg (by rw[pL hq hj];simp),cW,cW]
theorem aCq (hp:Sz i p) (hq:Sz j q) (hi:0<i) (hj:0<j) (h:i+j+1≤300):addQ (numS p) (numS q)=(numS (p+q),0):=by
 obtain ⟨h1,h2,h3,h4⟩:=hp.cross hq
 unfold addQ
 rw[uJ hp hq ⟨hi,by omega⟩ ⟨hj,by omega⟩,if_neg]
 simp only[Bool.or_eq_true,not_or,Bool.not_eq_true]
 exact ⟨⟨⟨dP ⟨by omega,by omega⟩ h1,dP ⟨by omega,by omega⟩ h2⟩,dP (k:=i+j+1) ⟨by omega,h⟩ (jH h1 h2).1⟩,dP (k:=i+j) ⟨by omega,by omega⟩ (by rw[← Int.natCast_mul,Int.natAbs_natCast];exact h4)⟩
theorem eM (hp:Sz i p) (hq:Sz j q) (hi:0<i) (hj:0<j) (h:i+j+1≤300):subQ (numS p) (numS q)=(numS (p-q),0):=by
 obtain ⟨h1,h2,h3,h4⟩:=hp.cross hq
 unfold subQ
 rw[uJ hp hq ⟨hi,by omega⟩ ⟨hj,by omega⟩,if_neg]
 simp only[Bool.or_eq_true,not_or,Bool.not_eq_true]
 exact ⟨⟨⟨dP ⟨by omega,by omega⟩ h1,dP ⟨by omega,by omega⟩ h2⟩,dP (k:=i+j+1) ⟨by omega,h⟩ (jH h1 h2).2⟩,dP (k:=i+j) ⟨by omega,by omega⟩ (by rw[← Int.natCast_mul,Int.natAbs_natCast];exact h4)⟩
theorem gZ (hp:Sz i p) (hq:Sz j q) (hi:0<i) (hj:0<j) (h:i+j≤300):mulQ (numS p) (numS q)=(numS (p*q),0):=by
 obtain ⟨h1,h2,h3,h4⟩:=hp.cross hq
 unfold mulQ
 rw[uJ hp hq ⟨hi,by omega⟩ ⟨hj,by omega⟩,if_neg]
 simp only[Bool.or_eq_true,not_or,Bool.not_eq_true]
 exact ⟨dP ⟨by omega,h⟩ h3,dP (k:=i+j) ⟨by omega,by omega⟩ (by rw[← Int.natCast_mul,Int.natAbs_natCast];exact h4)⟩
theorem aJo (hp:Sz i p) (hq:Sz j q) (hi:0<i) (hj:0<j) (h:i+j≤300) (h0:q≠0):divQ (numS p) (numS q)=(numS (p/q),0):=by
 obtain ⟨h1,h2,h3,h4⟩:=hp.cross hq
 unfold divQ
 rw[uJ hp hq ⟨hi,by omega⟩ ⟨hj,by omega⟩,if_neg h0,if_neg]
 simp only[Bool.or_eq_true,not_or,Bool.not_eq_true]
 exact ⟨dP ⟨by omega,h⟩ h1,dP ⟨by omega,h⟩ h2⟩
theorem aQ7 (hp:Sz i p) (hq:Sz j q) (hi:0<i) (hj:0<j) (h:i+j≤300):cmpQ (numS p) (numS q)=(cmpI (p.num*q.den) (q.num*p.den),0):=by
 obtain ⟨h1,h2,h3,h4⟩:=hp.cross hq
 unfold cmpQ
 rw[if_neg (by rw[pL hp ⟨hi,by omega⟩];simp),if_neg (by rw[pL hq ⟨hj,by omega⟩];simp),cW,cW]
 unfold cmpf
 rw[if_neg]
 simp only[Bool.or_eq_true,not_or,Bool.not_eq_true]
 exact ⟨dP ⟨by omega,h⟩ h1,dP ⟨by omega,h⟩ h2⟩
end
theorem sz1:Sz 1 (1:Rat):=⟨by decide,by decide⟩
noncomputable def cmpR (p q:Rat):Int:=if p<q then -1 else if q<p then 1 else 0
theorem sz0:Sz 1 (0:Rat):=⟨by decide,by decide⟩
def addS (p:Prop) (m:Nat) (q:Prop) (n:Nat) [Decidable p] [Decidable q]:Prop:=addP p m q n∧addN p m q n≠0
instance (p:Prop) (m:Nat) (q:Prop) (n:Nat) [Decidable p] [Decidable q]:Decidable (addS p m q n):=by unfold addS;infer_instance
def aPp (a:List UInt8):Prop:=(82<a.length∧a.length<602)∨700<a.length
instance (a:List UInt8):Decidable (aPp a):=by unfold aPp;infer_instance
theorem Sz.digs {q:Rat} (h:Sz 300 q):(decDigits q.num.natAbs).length≤300∧(decDigits q.den).length≤300:=⟨iX (k:=300) (by decide) h.1,iX (k:=300) (by decide) h.2⟩
def smR (q:Rat):Prop:=(decDigits q.num.natAbs).length≤9∧(q.den=1∨(decDigits q.den).length≤9)
instance (q:Rat):Decidable (smR q):=by unfold smR;infer_instance
abbrev ok4 (a b c d:List UInt8):Prop:=(chkI a=0∧chkI b=0)∧chkI c=0∧chkI d=0
def c80:Con:=aI 170 true fun args K=>match args with
 | [.str n,.str d,.str m,.str c]=>Need (ok4 n m d c∧valI d*valI c≠0) (Br (lim (valI n*valI m)=true∨lim (valI d*valI c)=true) (K (.tup [S [],I 4])) (K (.tup [S (numS (Rat.divInt (valI n*valI m) (valI d*valI c))),I 0])))
 | _=>False
def longL (l:List (List UInt8)):Prop:=(∃a∈l,aPp a)∨8<l.length
noncomputable instance (l:List (List UInt8)):Decidable (longL l):=Classical.propDecidable _
end RB
end
section
namespace RB
section
variable {ax ay az bx by' bz cx cy cz P Q R:Rat}
end
end RB
end
section
open Go Go.Proofs Go.Eng Go.Shelf IB Go.Lib Go.RowKit
namespace RB
def d36 (q:Rat):Prop:=(decDigits q.num.natAbs).length≤36∧(decDigits q.den).length≤36
instance (q:Rat):Decidable (d36 q):=inferInstanceAs (Decidable (_∧ _))
noncomputable def chkP (a:List UInt8):Int:=if chkQ a≠0 then chkQ a else if d36 (valQ a) then 0 else 4
def badP (l:List (List UInt8)):Prop:=∃a∈l,chkP a≠0
noncomputable instance (l:List (List UInt8)):Decidable (badP l):=Classical.propDecidable _
section
variable {p q r:Rat} {i j k:Nat}
end
abbrev V3:=Rat × Rat × Rat
theorem aKq (a b:Rat):(a<b∧cmpR a b= -1)∨(a=b∧cmpR a b=0)∨(b<a∧cmpR a b=1):=by
 unfold cmpR
 by_cases h1:a<b
 ·rw[if_pos h1];exact .inl ⟨h1,rfl⟩
 ·rw[if_neg h1]
  by_cases h2:b<a
  ·rw[if_pos h2];exact .inr (.inr ⟨h2,rfl⟩)
  ·rw[if_neg h2];exact .inr (.inl ⟨Rat.le_antisymm (Rat.not_lt.1 h2) (Rat.not_lt.1 h1),rfl⟩)
theorem aOs {a b:Rat}:cmpR a b=0↔a=b:=by
 rcases aKq a b with ⟨h,e⟩ | ⟨h,e⟩ | ⟨h,e⟩
 ·rw[e];exact ⟨fun h=>absurd h (by decide),fun e2=>absurd (e2 ▸ h) Rat.lt_irrefl⟩
 ·rw[e];exact ⟨fun _=>h,fun _=>rfl⟩
 ·rw[e];exact ⟨fun h=>absurd h (by decide),fun e2=>absurd (e2 ▸ h) Rat.lt_irrefl⟩
def parR (d v:V3):Prop:=d.2.1*v.2.2-d.2.2*v.2.1=0∧d.2.2*v.1-d.1*v.2.2=0∧d.1*v.2.1-d.2.1*v.1=0
noncomputable instance (d v:V3):Decidable (parR d v):=inferInstanceAs (Decidable (_∧ _∧ _))
noncomputable def sub3 (a b:V3):V3:=(a.1-b.1,a.2.1-b.2.1,a.2.2-b.2.2)
noncomputable def lexR (a b:V3):Int:=if cmpR a.1 b.1≠0 then cmpR a.1 b.1 else if cmpR a.2.1 b.2.1≠0 then cmpR a.2.1 b.2.1 else cmpR a.2.2 b.2.2
noncomputable def wiR (a b n:Rat):Prop:=cmpR a n≤0∧cmpR n b≤0∨0≤cmpR a n∧0≤cmpR n b
noncomputable instance (a b n:Rat):Decidable (wiR a b n):=inferInstanceAs (Decidable (_∨ _))
noncomputable def mtO (F T q:V3):Prop:=parR (sub3 T F) (sub3 q F)∧(lexR F q=0∨lexR q T=0∨lexR F q=lexR q T)
noncomputable def mtR (F T q:V3):Prop:=parR (sub3 T F) (sub3 q F)∧wiR F.1 T.1 q.1∧wiR F.2.1 T.2.1 q.2.1∧wiR F.2.2 T.2.2 q.2.2
noncomputable instance (F T q:V3):Decidable (mtO F T q):=inferInstanceAs (Decidable (_∧ _))
noncomputable instance (F T q:V3):Decidable (mtR F T q):=inferInstanceAs (Decidable (_∧ _))
abbrev V2:=Rat × Rat
noncomputable def aE2 (a b c:V2):Int:=cmpR ((b.1-a.1)*(c.2-a.2)) ((b.2-a.2)*(c.1-a.1))
noncomputable def ordR (p q:V2):Int:=if cmpR p.1 q.1≠0 then cmpR p.1 q.1 else cmpR p.2 q.2
noncomputable def sgO (a b q:V2):Int:=
 if aE2 a b q≠0 then 0 else
 let low:=if 0<ordR a b then b else a
 let high:=if 0<ordR a b then a else b
 let f:=if 0<ordR q low then q else low
 let t:=if ordR q high<0 then q else high
 1-ordR f t
noncomputable def onR (a b q:V2):Prop:=cmpR q.1 a.1*cmpR q.1 b.1≤0∧cmpR q.2 a.2*cmpR q.2 b.2≤0
noncomputable instance (a b q:V2):Decidable (onR a b q):=inferInstanceAs (Decidable (_∧ _))
abbrev Sp:=List UInt8 × List UInt8 × List UInt8
abbrev Mem:=Int × Int × Int × Sp × Sp × Int × Int
abbrev Lin:=Int × Sp × Sp × Int × Int
abbrev tSp:Ty:=.pair .str (.pair .str .str)
abbrev tMem:Ty:=.pair (.int .i64) (.pair (.int .i64) (.pair (.int .i64) (.pair tSp (.pair tSp (.pair (.int .i64) (.int .i64))))))
abbrev tLin:Ty:=.pair (.int .i64) (.pair tSp (.pair tSp (.pair (.int .i64) (.int .i64))))
abbrev mem0:Mem:=(0,0,0,([],[],[]),([],[],[]),0,0)
abbrev lin0:Lin:=(0,([],[],[]),([],[],[]),0,0)
noncomputable def vS (s:Sp):V3:=(valQ s.1,valQ s.2.1,valQ s.2.2)
noncomputable def v2 (s:Sp):V2:=(valQ s.1,valQ s.2.1)
noncomputable def chkS (s:Sp):Int:=if chkQ s.1≠0 then chkQ s.1 else if chkQ s.2.1≠0 then chkQ s.2.1 else chkQ s.2.2
theorem jG {s:Sp}:chkS s=0↔chkQ s.1=0∧chkQ s.2.1=0∧chkQ s.2.2=0:=by
 unfold chkS
 by_cases h1:chkQ s.1=0
 ·rw[if_neg (not_not_intro h1)]
  by_cases h2:chkQ s.2.1=0
  ·rw[if_neg (not_not_intro h2)];exact ⟨fun h=>⟨h1,h2,h⟩,fun h=>h.2.2⟩
  ·rw[if_pos h2];exact ⟨fun h=>absurd h h2,fun h=>absurd h.2.1 h2⟩
 ·rw[if_pos h1];exact ⟨fun h=>absurd h h1,fun h=>absurd h.1 h1⟩
def dK (k:Nat) (q:Rat):Prop:=(decDigits q.num.natAbs).length≤k∧(decDigits q.den).length≤k
instance (k:Nat) (q:Rat):Decidable (dK k q):=inferInstanceAs (Decidable (_∧ _))
theorem aAi {k:Nat} {q:Rat} (h:dK k q):Sz k q:=⟨aJn h.1,aJn h.2⟩
def dS (k:Nat) (s:Sp):Prop:=dK k (valQ s.1)∧dK k (valQ s.2.1)∧dK k (valQ s.2.2)
noncomputable instance (k:Nat) (s:Sp):Decidable (dS k s):=Classical.propDecidable _
def okS (s:Sp):Prop:=chkS s=0∧dS 36 s
noncomputable instance (s:Sp):Decidable (okS s):=Classical.propDecidable _
theorem uF {s:Sp} (h:okS s):(s.1=numS (valQ s.1)∧s.2.1=numS (valQ s.2.1)∧s.2.2=numS (valQ s.2.2))∧Sz 36 (valQ s.1)∧Sz 36 (valQ s.2.1)∧Sz 36 (valQ s.2.2):=by
 obtain ⟨h1,h2,h3,h4⟩:=h
 obtain ⟨c1,c2,c3⟩:=jG.1 h1
 exact ⟨⟨(uE c1).1,(uE c2).1,(uE c3).1⟩,aAi h2,aAi h3,aAi h4⟩
theorem aQl {s t:Sp} (h1:okS s) (h2:okS t):s=t↔vS s=vS t:=by
 constructor
 ·rintro rfl;rfl
 ·intro h
  simp only[vS,Prod.mk.injEq] at h
  obtain ⟨⟨a1,a2,a3⟩,_⟩:=uF h1
  obtain ⟨⟨b1,b2,b3⟩,_⟩:=uF h2
  refine Prod.ext (by rw[a1,b1,h.1]) (Prod.ext ?_ ?_)
  ·rw[a2,b2,h.2.1]
  ·rw[a3,b3,h.2.2]
noncomputable def memE (m:Mem):Int:=
 if m.1<1∨12<m.1 then 8
 else if m.2.1<0∨m.2.2.1 < -1 then 19
 else if (m.2.2.2.2.2.1<1∨1000<m.2.2.2.2.2.1)∨(m.2.2.2.2.2.2<1∨1000<m.2.2.2.2.2.2) then 2
 else if chkS m.2.2.2.1≠0 then chkS m.2.2.2.1
 else if chkS m.2.2.2.2.1≠0 then chkS m.2.2.2.2.1
 else if ¬dS 36 m.2.2.2.1∨¬dS 36 m.2.2.2.2.1 then 4
 else if m.2.2.2.1=m.2.2.2.2.1 then 12 else 0
theorem fK {m:Mem} (h:memE m=0):(1≤m.1∧m.1≤12)∧okS m.2.2.2.1∧okS m.2.2.2.2.1∧vS m.2.2.2.1≠vS m.2.2.2.2.1:=by
 unfold memE at h
 split at h
 ·exact absurd h (by decide)
 rename_i h1
 split at h
 ·exact absurd h (by decide)
 split at h
 ·exact absurd h (by decide)
 split at h
 ·rename_i h4;exact absurd h h4
 rename_i h4
 split at h
 ·rename_i h5;exact absurd h h5
 rename_i h5
 split at h
 ·exact absurd h (by decide)
 rename_i h6
 split at h
 ·exact absurd h (by decide)
 rename_i h7
 have o1:okS m.2.2.2.1:=⟨Classical.not_not.1 h4,Classical.not_not.1 fun hn=>h6 (.inl hn)⟩
 have o2:okS m.2.2.2.2.1:=⟨Classical.not_not.1 h5,Classical.not_not.1 fun hn=>h6 (.inr hn)⟩
 exact ⟨by omega,o1,o2,fun e=>h7 ((aQl o1 o2).2 e)⟩
def metP (n:Mem) (s:Sp):Prop:=mtO (vS n.2.2.2.1) (vS n.2.2.2.2.1) (vS s)
noncomputable instance (n:Mem) (s:Sp):Decidable (metP n s):=Classical.propDecidable _
def mnR (u v:V3):Nat→Rat
 | 0=>u.1*v.2.1-u.2.1*v.1
 | 1=>u.2.1*v.2.2-u.2.2*v.2.1
 | _=>u.2.2*v.1-u.1*v.2.2
def aG4 (a u:V3) (s:Rat):V3:=(a.1+u.1*s,a.2.1+u.2.1*s,a.2.2+u.2.2*s)
def pI (s:Rat):Prop:=0≤cmpR s 0∧cmpR s 1≤0
noncomputable instance (s:Rat):Decidable (pI s):=inferInstanceAs (Decidable (_∧ _))
def crAt (F u G v w:V3) (i:Nat):Prop:=aG4 F u (mnR w v i/mnR u v i)=aG4 G v (mnR w u i/mnR u v i)∧pI (mnR w v i/mnR u v i)∧pI (mnR w u i/mnR u v i)
noncomputable instance (F u G v w:V3) (i:Nat):Decidable (crAt F u G v w i):=inferInstanceAs (Decidable (_∧ _))
def crG (F u G v w:V3):Prop:=if mnR u v 0≠0 then crAt F u G v w 0 else if mnR u v 1≠0 then crAt F u G v w 1 else if mnR u v 2≠0 then crAt F u G v w 2 else False
def crP (m n:Mem):Prop:=crG (vS m.2.2.2.1) (sub3 (vS m.2.2.2.2.1) (vS m.2.2.2.1)) (vS n.2.2.2.1) (sub3 (vS n.2.2.2.2.1) (vS n.2.2.2.1)) (sub3 (vS n.2.2.2.1) (vS m.2.2.2.1))
noncomputable def crE (m n:Mem):Int:=if memE m≠0∨memE n≠0 then 1 else if ((¬dS 12 m.2.2.2.1∨¬dS 12 m.2.2.2.2.1)∨¬dS 12 n.2.2.2.1)∨¬dS 12 n.2.2.2.2.1 then 4 else 0
def crB (m n:Mem):Prop:=crE m n=0∧crP m n
noncomputable instance (m n:Mem):Decidable (crB m n):=Classical.propDecidable _
def rafP (a:Int):Prop:=1≤a∧a≤5
def sloP (a:Int):Prop:=(1≤a∧a≤5)∨a=11
def hipP (a:Int):Prop:=a=6∨a=7
instance (a:Int):Decidable (rafP a):=inferInstanceAs (Decidable (_∧ _))
instance (a:Int):Decidable (sloP a):=inferInstanceAs (Decidable (_∨ _))
instance (a:Int):Decidable (hipP a):=inferInstanceAs (Decidable (_∨ _))
def qK (a b:Int):Nat:=
 if sloP a∧(b=10∨b=9) then 1 else if sloP a∧(b=8∨hipP b) then 2 else if rafP a∧b=12 then 3 else if hipP a∧b=8 then 4 else if hipP a∧b=10 then 5 else if a=9∧hipP b then 2 else if a=12∧b=11 then 3 else 0
def tchP (m n:Mem):Prop:=metP n m.2.2.2.1∨metP n m.2.2.2.2.1
noncomputable instance (m n:Mem):Decidable (tchP m n):=Classical.propDecidable _
def rstP (m n:Mem):Prop:=match qK m.1 n.1 with
 | 1=>m.2.1=n.2.1∧crB m n
 | 2=>tchP m n
 | 3=>m.2.1=n.2.1∧tchP m n
 | 4=>metP n m.2.2.2.2.1
 | 5=>crB m n
 | _=>False
noncomputable instance (m n:Mem):Decidable (rstP m n):=Classical.propDecidable _
noncomputable def rstE (m n:Mem):Int:=match qK m.1 n.1 with
 | 1=>if m.2.1=n.2.1 then crE m n else 0
 | 5=>crE m n
 | _=>0
noncomputable def rowR (l:List Mem) (i:Nat):Nat→List (Int × Int)
 | 0=>[]
 | k+1=>if k≠i∧rstP (l.getD i mem0) (l.getD k mem0) then rowR l i k++ [((i:Int),(k:Int))] else rowR l i k
noncomputable def errR (l:List Mem) (i:Nat):Nat→Nat→Int
 | 0,_=>0
 | n+1,k=>if k≠i∧rstE (l.getD i mem0) (l.getD k mem0)≠0 then rstE (l.getD i mem0) (l.getD k mem0) else errR l i n (k+1)
def cC (l:List Mem) (i n:Nat):Prop:=∃k,k<n∧k≠i∧rstP (l.getD i mem0) (l.getD k mem0)∧(l.getD k mem0).1=10
noncomputable instance (l:List Mem) (i n:Nat):Decidable (cC l i n):=Classical.propDecidable _
def latP (ls:List Lin) (s:Sp) (ks:List Int):Prop:=∃j,j<ls.length∧(ls.getD j lin0).1∈ks∧0<sgO (v2 (ls.getD j lin0).2.1) (v2 (ls.getD j lin0).2.2.1) (v2 s)
noncomputable instance (ls:List Lin) (s:Sp) (ks:List Int):Decidable (latP ls s ks):=Classical.propDecidable _
def walP (ls:List Lin) (m:Mem) (pl:Prop):Prop:=
 if m.1=10 then True else if sloP m.1∨hipP m.1 then ¬pl∧latP ls m.2.2.2.1 [7] else if m.1=8∨m.1=9 then latP ls m.2.2.2.1 [4,5,8]∨latP ls m.2.2.2.2.1 [4,5,8] else False
noncomputable instance (ls:List Lin) (m:Mem) (pl:Prop):Decidable (walP ls m pl):=Classical.propDecidable _
noncomputable def outR (ls:List Lin) (l:List Mem):Nat→List (Int × Int)
 | 0=>[]
 | i+1=>(if walP ls (l.getD i mem0) (cC l i l.length) then outR ls l i++ [((i:Int),(-1:Int))] else outR ls l i)++rowR l i l.length
noncomputable def errS (l:List Mem):Nat→Nat→Int
 | 0,_=>0
 | n+1,i=>if errR l i l.length 0≠0 then errR l i l.length 0 else errS l n (i+1)
def badL (ls:List Lin):Prop:=∃j,j<ls.length∧¬(okS (ls.getD j lin0).2.1∧okS (ls.getD j lin0).2.2.1)
def badM (l:List Mem):Prop:=∃j,j<l.length∧memE (l.getD j mem0)≠0
noncomputable instance (ls:List Lin):Decidable (badL ls):=Classical.propDecidable _
noncomputable instance (l:List Mem):Decidable (badM l):=Classical.propDecidable _
noncomputable def ofR (ls:List Lin) (l:List Mem):List (Int × Int) × Int:=
 if 512<l.length∨4096<ls.length then ([],4)
 else if badL ls then ([],1)
 else if badM l then ([],1)
 else if errS l l.length 0≠0 then ([],errS l l.length 0)
 else if 4096<(outR ls l l.length).length then ([],4)
 else (outR ls l l.length,0)
theorem aOt {l:List Mem} {i k:Nat} (hk:k<l.length) (h:k≠i∧rstE (l.getD i mem0) (l.getD k mem0)≠0):errR l i (l.length-k) k=rstE (l.getD i mem0) (l.getD k mem0):=by
 obtain ⟨n,e⟩:∃n,l.length-k=n+1:=⟨l.length-k-1,by omega⟩
 rw[e];exact if_pos h
theorem aJc {l:List Mem} {i k:Nat} (hk:k<l.length) (h:¬(k≠i∧rstE (l.getD i mem0) (l.getD k mem0)≠0)):errR l i (l.length-k) k=errR l i (l.length-(k+1)) (k+1):=by
 obtain ⟨n,e⟩:∃n,l.length-k=n+1:=⟨l.length-k-1,by omega⟩
 rw[e,show l.length-(k+1)=n by omega];exact if_neg h
theorem aOu {l:List Mem} {i:Nat}:errR l i (l.length-l.length) l.length=0:=by rw[Nat.sub_self];rfl
theorem aOv {l:List Mem} {i:Nat} (hi:i<l.length) (h:errR l i l.length 0≠0):errS l (l.length-i) i=errR l i l.length 0:=by
 obtain ⟨n,e⟩:∃n,l.length-i=n+1:=⟨l.length-i-1,by omega⟩
 rw[e];exact if_pos h
theorem aQm {l:List Mem} {i:Nat} (hi:i<l.length) (h:errR l i l.length 0=0):errS l (l.length-i) i=errS l (l.length-(i+1)) (i+1):=by
 obtain ⟨n,e⟩:∃n,l.length-i=n+1:=⟨l.length-i-1,by omega⟩
 rw[e,show l.length-(i+1)=n by omega];exact if_neg fun h'=>h' h
theorem aOw {l:List Mem}:errS l (l.length-l.length) l.length=0:=by rw[Nat.sub_self];rfl
theorem xM (l:List Mem) (i:Nat):∀k,(rowR l i k).length≤k
 | 0=>Nat.le_refl _
 | k+1=>by
  have:=xM l i k
  unfold rowR
  split
  ·rw[List.length_append,List.length_singleton];omega
  ·omega
theorem aE3 (ls:List Lin) (l:List Mem):∀i,(outR ls l i).length≤i*(l.length+1)
 | 0=>Nat.zero_le _
 | i+1=>by
  have h1:=aE3 ls l i
  have h2:=xM l i l.length
  unfold outR
  rw[List.length_append,Nat.add_mul,Nat.one_mul]
  split
  ·rw[List.length_append,List.length_singleton];omega
  ·omega
theorem platP_succ {l:List Mem} {i k:Nat}:cC l i (k+1)↔cC l i k∨(k≠i∧rstP (l.getD i mem0) (l.getD k mem0)∧(l.getD k mem0).1=10):=by
 constructor
 ·rintro ⟨j,h1,h2⟩
  by_cases e:j=k
  ·subst e;exact .inr h2
  ·exact .inl ⟨j,by omega,h2⟩
 ·rintro (⟨j,h1,h2⟩ | h)
  ·exact ⟨j,by omega,h2⟩
  ·exact ⟨k,Nat.lt_succ_self _,h⟩
theorem xN {l:List Mem} {i:Nat}:¬cC l i 0:=fun ⟨j,h,_⟩=>absurd h (Nat.not_lt_zero _)
theorem rA (l:List Mem) (i:Nat) (x:Int × Int):∀n,x∈rowR l i n↔∃k:Nat,k<n∧k≠i∧rstP (l.getD i mem0) (l.getD k mem0)∧x=((i:Int),(k:Int))
 | 0=>⟨fun h=>(by cases h),fun ⟨k,h,_⟩=>absurd h (Nat.not_lt_zero _)⟩
 | n+1=>by
  have ih:=rA l i x n
  unfold rowR
  by_cases hc:n≠i∧rstP (l.getD i mem0) (l.getD n mem0)
  ·rw[if_pos hc,List.mem_append,List.mem_singleton,ih]
   constructor
   ·rintro (⟨k,h1,h2⟩ | rfl)
    ·exact ⟨k,by omega,h2⟩
    ·exact ⟨n,Nat.lt_succ_self _,hc.1,hc.2,rfl⟩
   ·rintro ⟨k,h1,h2,h3,h4⟩
    by_cases e:k=n
    ·subst e;exact .inr h4
    ·exact .inl ⟨k,by omega,h2,h3,h4⟩
  ·rw[if_neg hc,ih]
   constructor
   ·rintro ⟨k,h1,h2⟩;exact ⟨k,by omega,h2⟩
   ·rintro ⟨k,h1,h2,h3,h4⟩
    by_cases e:k=n
    ·subst e;exact absurd ⟨h2,h3⟩ hc
    ·exact ⟨k,by omega,h2,h3,h4⟩
theorem xO (ls:List Lin) (l:List Mem) (x:Int × Int):∀n,x∈outR ls l n↔∃i:Nat,i<n∧((walP ls (l.getD i mem0) (cC l i l.length)∧x=((i:Int),(-1:Int)))∨∃k:Nat,k<l.length∧k≠i∧rstP (l.getD i mem0) (l.getD k mem0)∧x=((i:Int),(k:Int)))
 | 0=>⟨fun h=>(by cases h),fun ⟨k,h,_⟩=>absurd h (Nat.not_lt_zero _)⟩
 | n+1=>by
  have ih:=xO ls l x n
  unfold outR
  rw[List.mem_append,rA]
  have e1:(x∈(if walP ls (l.getD n mem0) (cC l n l.length) then outR ls l n++ [((n:Int),(-1:Int))] else outR ls l n))↔x∈outR ls l n∨(walP ls (l.getD n mem0) (cC l n l.length)∧x=((n:Int),(-1:Int))):=by
   by_cases hc:walP ls (l.getD n mem0) (cC l n l.length)
   ·rw[if_pos hc,List.mem_append,List.mem_singleton];exact ⟨fun h=>h.imp id fun h=>⟨hc,h⟩,fun h=>h.imp id fun h=>h.2⟩
   ·rw[if_neg hc];exact ⟨.inl,fun h=>h.elim id fun h=>absurd h.1 hc⟩
  rw[e1,ih]
  constructor
  ·rintro ((⟨i,h1,h2⟩ | h) | h)
   ·exact ⟨i,by omega,h2⟩
   ·exact ⟨n,Nat.lt_succ_self _,.inl h⟩
   ·exact ⟨n,Nat.lt_succ_self _,.inr h⟩
  ·rintro ⟨i,h1,h2⟩
   by_cases e:i=n
   ·subst e
    rcases h2 with h2 | h2
    ·exact .inl (.inr h2)
    ·exact .inr h2
   ·exact .inl (.inl ⟨i,by omega,h2⟩)
def ltP (a b:Int × Int):Prop:=a.1<b.1∨a.1=b.1∧a.2<b.2
theorem aE4 (l:List Mem) (i:Nat):∀n,(rowR l i n).Pairwise ltP
 | 0=>List.Pairwise.nil
 | n+1=>by
  have ih:=aE4 l i n
  unfold rowR
  split
  ·refine List.pairwise_append.2 ⟨ih,List.pairwise_singleton _ _,fun a ha b hb=>?_⟩
   rw[List.mem_singleton.1 hb]
   obtain ⟨k,h1,_,_,rfl⟩:=(rA l i a n).1 ha
   exact .inr ⟨rfl,by show (k:Int)<n;omega⟩
  ·exact ih
theorem aE5 (ls:List Lin) (l:List Mem):∀n,(outR ls l n).Pairwise ltP
 | 0=>List.Pairwise.nil
 | n+1=>by
  have ih:=aE5 ls l n
  have hlow:∀a∈outR ls l n,a.1<(n:Int):=fun a ha=>by
   obtain ⟨i,h1,h2⟩:=(xO ls l a n).1 ha
   rcases h2 with ⟨_,rfl⟩ | ⟨k,_,_,_,rfl⟩
   ·show (i:Int)<n;omega
   ·show (i:Int)<n;omega
  have hrow:∀b∈rowR l n l.length,b.1=(n:Int)∧0≤b.2:=fun b hb=>by
   obtain ⟨k,_,_,_,rfl⟩:=(rA l n b l.length).1 hb
   exact ⟨rfl,by show (0:Int)≤k;omega⟩
  unfold outR
  refine List.pairwise_append.2 ⟨?_,aE4 l n l.length,fun a ha b hb=>?_⟩
  ·split
   ·refine List.pairwise_append.2 ⟨ih,List.pairwise_singleton _ _,fun a ha b hb=>?_⟩
    rw[List.mem_singleton.1 hb]
    exact .inl (hlow a ha)
   ·exact ih
  ·obtain ⟨h1,h2⟩:=hrow b hb
   split at ha
   ·rcases List.mem_append.1 ha with ha | ha
    ·exact .inl (by rw[h1];exact hlow a ha)
    ·rw[List.mem_singleton.1 ha];exact .inr ⟨h1.symm,by show (-1:Int)<b.2;omega⟩
   ·exact .inl (by rw[h1];exact hlow a ha)
noncomputable def hgt (a b c x y:List UInt8):Rat:=valQ a*valQ x+valQ b*valQ y+valQ c
section
variable (p:List UInt8→Prop) [DecidablePred p]
end
def badS (s:List UInt8):Prop:=12<s.length∨chkQ s≠0
noncomputable instance (s:List UInt8):Decidable (badS s):=Classical.propDecidable _
noncomputable instance:DecidablePred badS:=fun s=>Classical.propDecidable _
def notP (s:List UInt8):Prop:=chkP s≠0
noncomputable instance:DecidablePred notP:=fun s=>Classical.propDecidable _
def aSc (l:List (List UInt8)):Prop:=∀a∈l,a.length≤12∧chkQ a=0
noncomputable instance (l:List (List UInt8)):Decidable (aSc l):=Classical.propDecidable _
theorem Sz.up {k:Nat} {q:Rat} (h:Sz 12 q) (hk:12≤k):Sz k q:=h.mono hk
theorem b3074 (a:List UInt8):body Tryz.prog [c46] {} true Tryz.f74 [S a] (.tup [S (ptQ a).1,S (ptQ a).2,I (chkQ a)]):=by
 unfold ptQ
 by_cases h:chkQ a=0
 ·rw[if_pos h,h]
  (repeat'((conv=>whnf);first|refine Zg fun _=>?_|(apply Pin.mk;apply Exists.intro)|apply Pinned.mk rfl rfl|refine Zy ?_|fail))
  (conv=>whnf)
  (repeat' first|exact trivial|rfl|refine And.intro ?_ ?_)
 ·rw[if_neg h]
  (repeat'((conv=>whnf);first|(apply Pin.mk;apply Exists.intro)|apply Pinned.mk rfl rfl|refine Zm ?_|fail))
  (conv=>whnf)
  (repeat' first|exact trivial|rfl|refine And.intro ?_ ?_)
def yR:Con:=aI 74 true fun args K=>match args with | [.str a]=>K (.tup [S (ptQ a).1,S (ptQ a).2,I (chkQ a)]) | _=>False
theorem aHc:aG Tryz.prog yR:=by
 refine aB rfl (enters_of Tryz.func74 (by kernel_rfl) rfl) ?_
 intro args K h
 simp only[yR] at h
 split at h
 ·rename_i a;exact ⟨_,h,aA (by simp[k46]) Tryz.func74 (by simp[Tryz.ntmps74]) rfl (b3074 a)⟩
 ·exact h.elim
section
variable {α:Type} (p:α→Prop)
open Classical in
noncomputable def ixG (l:List α):Int:=if l.findIdx (fun s=>decide (p s))<l.length then (l.findIdx (fun s=>decide (p s)):Int) else -1
open Classical in
theorem oN {l:List α} (d:α) {i:Nat} (hi:i<l.length) (hb:p (l.getD i d)) (h:∀j,j<i→¬p (l.getD j d)):ixG p l=i:=by
 have e:l.findIdx (fun s=>decide (p s))=i:=by
  rw[List.findIdx_eq hi]
  refine ⟨?_,fun j hj=>?_⟩
  ·rw[List.getD_eq_getElem?_getD,List.getElem?_eq_getElem hi] at hb
   exact decide_eq_true hb
  ·have:=h j hj
   rw[List.getD_eq_getElem?_getD,List.getElem?_eq_getElem (by omega)] at this
   exact decide_eq_false this
 unfold ixG
 rw[e,if_pos hi]
open Classical in
theorem oO {l:List α} (d:α) (h:∀j,j<l.length→¬p (l.getD j d)):ixG p l= -1:=by
 unfold ixG
 rw[if_neg]
 intro hlt
 have h1:=List.findIdx_getElem (w:=hlt)
 have h2:=h _ hlt
 rw[List.getD_eq_getElem?_getD,List.getElem?_eq_getElem hlt] at h2
 exact h2 (of_decide_eq_true h1)
theorem iY (l:List α) (d:α):0≤ixG p l↔∃j,j<l.length∧p (l.getD j d):=by
 constructor
 ·intro h
  apply Classical.byContradiction
  intro hn
  rw[oO p d (fun j hj hp=>hn ⟨j,hj,hp⟩)] at h
  exact absurd h (by decide)
 ·rintro ⟨j,hj,hp⟩
  have key:∀n,n≤l.length→(∃j,j<n∧p (l.getD j d))→∃j,j<n∧p (l.getD j d)∧∀i,i<j→¬p (l.getD i d):=by
   intro n
   induction n with
   | zero=>rintro _ ⟨j,h,_⟩;exact absurd h (Nat.not_lt_zero _)
   | succ n ih=>
    rintro hn ⟨j,h1,h2⟩
    by_cases he:∃j,j<n∧p (l.getD j d)
    ·obtain ⟨j,h3,h4,h5⟩:=ih (by omega) he
     exact ⟨j,by omega,h4,h5⟩
    ·have:j=n:=by
      apply Classical.byContradiction
      intro hne
      exact he ⟨j,by omega,h2⟩
     subst this
     exact ⟨j,h1,h2,fun i hi hp=>he ⟨i,hi,hp⟩⟩
  obtain ⟨i,h1,h2,h3⟩:=key l.length (Nat.le_refl _) ⟨j,hj,hp⟩
  rw[oN p d h1 h2 h3];omega
end
theorem b3112 (a b c:List UInt8):body Tryz.prog [] {} true Tryz.f112 [.agg [S a,S b,S c]] (.agg [S a,S b,S c]):=by
 (conv=>whnf)
 (repeat' first|exact trivial|rfl|refine And.intro ?_ ?_)
def yS:Con:=aI 112 true fun args K=>match args with | [.agg [.str a,.str b,.str c]]=>K (.agg [S a,S b,S c]) | _=>False
theorem aHd:aG Tryz.prog yS:=by
 refine aB rfl (enters_of Tryz.func112 (by kernel_rfl) rfl) ?_
 intro args K h
 simp only[yS] at h
 split at h
 ·rename_i a b c;exact ⟨_,h,aA (by simp) Tryz.func112 (by simp[Tryz.ntmps112]) rfl (b3112 a b c)⟩
 ·exact h.elim
theorem b3071 (a b c:List UInt8):body Tryz.prog [yS,c21] {} true Tryz.f71 [.agg [S a,S b,S c]] (I (chkS (a,b,c))):=by
 by_cases h1:chkQ a=0
 ·by_cases h2:chkQ b=0
  ·have e:chkS (a,b,c)=chkQ c:=by unfold chkS;rw[if_neg (fun h=>h h1),if_neg (fun h=>h h2)]
   rw[e]
   by_cases h3:chkQ c=0
   ·rw[h3]
    (repeat' first|refine ZR ?_|fail)
    (conv=>whnf)
    (repeat' first|rfl|refine And.intro ?_ ?_)
   ·(repeat' first|refine ZR ?_|fail)
    (conv=>whnf)
    (repeat' first|rfl|refine And.intro ?_ ?_)
  ·have e:chkS (a,b,c)=chkQ b:=by unfold chkS;rw[if_neg (fun h=>h h1),if_pos h2]
   rw[e]
   (repeat' first|refine ZR ?_|fail)
   (conv=>whnf)
   (repeat' first|rfl|refine And.intro ?_ ?_)
 ·have e:chkS (a,b,c)=chkQ a:=by unfold chkS;rw[if_pos h1]
  rw[e]
  (repeat' first|refine ZR ?_|fail)
  (conv=>whnf)
  (repeat' first|rfl|refine And.intro ?_ ?_)
def yT:Con:=aI 71 true fun args K=>match args with | [.agg [.str a,.str b,.str c]]=>K (I (chkS (a,b,c))) | _=>False
theorem aHe:aG Tryz.prog yT:=by
 refine aB rfl (enters_of Tryz.func71 (by kernel_rfl) rfl) ?_
 intro args K h
 simp only[yT] at h
 split at h
 ·rename_i a b c;exact ⟨_,h,aA (by simp[aHd,k21]) Tryz.func71 (by simp[Tryz.ntmps71]) rfl (b3071 a b c)⟩
 ·exact h.elim
theorem b3077 (n a b:Int):body Tryz.prog [] {} true Tryz.f77 [I n,I a,I b] (.bl (n<a∨b<n) inferInstance):=by
 by_cases h1:n<a
 ·(repeat' first|refine ZR ?_|fail)
  (conv=>whnf)
  exact .inl h1
 ·(repeat' first|refine ZR ?_|fail)
  (conv=>whnf)
  exact ⟨fun h=>.inr h,fun h=>h.resolve_left h1⟩
def aKx:Con:=aI 77 true fun args K=>match args with | [.val (.int .i64 n),.val (.int .i64 a),.val (.int .i64 b)]=>K (.bl (n<a∨b<n) inferInstance) | _=>False
theorem k3077:aG Tryz.prog aKx:=by
 refine aB rfl (enters_of Tryz.func77 (by kernel_rfl) rfl) ?_
 intro args K h
 simp only[aKx] at h
 split at h
 ·rename_i n a b;exact ⟨_,h,aA (by simp) Tryz.func77 (by simp[Tryz.ntmps77]) rfl (b3077 n a b)⟩
 ·exact h.elim
theorem aAw {k:Nat} {a:List UInt8}:(max ((digs (pn (valQ a))).length:Int) ((pd (valQ a)).length:Int)≤k)↔dK k (valQ a):=by
 unfold dK
 rw[bS]
 show _≤ _↔ _∧ _
 unfold pd
 constructor<;>intro h
 ·constructor<;>omega
 ·omega
theorem aHf {a:List UInt8} (h:chkQ a=0):ptQ a=(pn (valQ a),pd (valQ a)):=by unfold ptQ;rw[if_pos h]
theorem b3117 (a:List UInt8) (h:chkQ a=0):body Tryz.prog [yR,c88] {} true Tryz.f117 [S a] (.bl (¬dK 36 (valQ a)) inferInstance):=by
 have e:=aHf h
 have hi:=aAw (k:=36) (a:=a)
 (repeat' first|refine ZG ?_|refine Zg fun _=>?_)
 (conv=>whnf)
 rw[← hi,e]
 exact Int.not_le.symm
def aKy:Con:=aI 117 true fun args K=>match args with | [.str a]=>Need (chkQ a=0) (K (.bl (¬dK 36 (valQ a)) inferInstance)) | _=>False
theorem k3117:aG Tryz.prog aKy:=by
 refine aB rfl (enters_of Tryz.func117 (by kernel_rfl) rfl) ?_
 intro args K h
 simp only[aKy] at h
 split at h
 ·rename_i a;exact ⟨_,h.go,aA (by simp[aHc,k88]) Tryz.func117 (by simp[Tryz.ntmps117]) rfl (b3117 a h.ok)⟩
 ·exact h.elim
def pO (a:List UInt8):Prop:=¬dK 36 (valQ a)
def badN (a:List UInt8):Prop:=¬(chkQ a=0∧dK 36 (valQ a))
theorem b3073 (a:List UInt8):body Tryz.prog [yR,c88] {} true Tryz.f73 [S a] (.bl (badN a) (Classical.propDecidable _)):=by
 by_cases h:chkQ a=0
 ·have e:=aHf h
  have hi:=aAw (k:=36) (a:=a)
  have hb:badN a↔¬(max ((digs (ptQ a).1).length:Int) ((ptQ a).2.length:Int)≤36):=by
   rw[e];unfold badN;rw[← hi];exact ⟨fun hn h2=>hn ⟨h,h2⟩,fun hn h2=>hn h2.2⟩
  (repeat' first|refine ZR ?_|refine Zg fun _=>?_)
  (conv=>whnf)
  exact ⟨fun q=>hb.2 (Int.not_le.2 q),fun q=>Int.not_le.1 (hb.1 q)⟩
 ·(repeat' first|refine ZR ?_|fail)
  (conv=>whnf)
  exact fun q=>h q.1
def aKz:Con:=aI 73 true fun args K=>match args with | [.str a]=>K (.bl (badN a) (Classical.propDecidable _)) | _=>False
theorem k3073:aG Tryz.prog aKz:=by
 refine aB rfl (enters_of Tryz.func73 (by kernel_rfl) rfl) ?_
 intro args K h
 simp only[aKz] at h
 split at h
 ·rename_i a;exact ⟨_,h,aA (by simp[aHc,k88]) Tryz.func73 (by simp[Tryz.ntmps73]) rfl (b3073 a)⟩
 ·exact h.elim
theorem b3114 (l:List (List UInt8)) (h:∀a∈l,chkQ a=0):body Tryz.prog [aKy] { asks:=[(0,[])] } true Tryz.f114 [.seq .str l,.clo 117 [] []] (I (ixG pO l)):=by
 have hm:∀i,i<l.length→chkQ (l.getD i [])=0:=fun i hi=>h _ (by rw[List.getD_eq_getElem?_getD,List.getElem?_eq_getElem hi];exact List.getElem_mem hi)
 (repeat'((conv=>whnf);first|refine Zg fun _=>?_|fail))
 refine Ask.mk ⟨{ X:=Nat,pre:=fun i=>i≤l.length∧∀j,j<i→¬pO (l.getD j []),mod:=fun i _=>[(8,I i)],heap:=fun i H=>H,mu:=fun i=>l.length-i },rfl,?_⟩
 (repeat' first|refine ZG ?_|fail)
 refine ⟨⟨(0:Nat),⟨Nat.zero_le _,fun j hj=>by omega⟩,by (repeat' first|exact trivial|rfl|refine And.intro ?_ ?_)⟩,fun (i:Nat) hi=>?_⟩
 obtain ⟨hi,hp⟩:=hi
 by_cases hlt:i<l.length
 ·have hc:=hm i hlt
  (repeat' first|refine ZR ?_|fail)
  (refine Br.mk (fun _=>?_) (fun _=>?_))
  ·rename_i hb
   have e:=oN pO [] hlt hb hp
   rw[e]
   (conv=>whnf)
   (repeat' first|rfl|refine And.intro ?_ ?_)
  ·rename_i hb
   (repeat' first|refine ZR ?_|fail)
   refine ⟨(i+1:Nat),by show l.length-(i+1)<l.length-i;omega,⟨hlt,fun j hj=>?_⟩,by (repeat' first|exact trivial|rfl|refine And.intro ?_ ?_)⟩
   by_cases e:j=i
   ·subst e;exact hb
   ·exact hp j (by omega)
 ·have e:i=l.length:=by omega
  subst e
  rw[oO pO [] hp]
  (repeat' first|refine ZR ?_|fail)
  (conv=>whnf)
  (repeat' first|rfl|refine And.intro ?_ ?_)
def aK0:Con:=aI 114 true fun args K=>match args with | [.seq .str l,.clo 117 [] []]=>Need (∀a∈l,chkQ a=0) (K (I (ixG pO l))) | _=>False
theorem k3114:aG Tryz.prog aK0:=by
 refine aB rfl (enters_of Tryz.func114 (by kernel_rfl) rfl) ?_
 intro args K h
 simp only[aK0] at h
 split at h
 ·rename_i l;exact ⟨_,h.go,aA (by simp[k3117]) Tryz.func114 (by simp[Tryz.ntmps114]) rfl (b3114 l h.ok)⟩
 ·exact h.elim
theorem b3072 (l:List (List UInt8)) (h:∀a∈l,chkQ a=0):body Tryz.prog [aK0] {} true Tryz.f72 [.seq .str l,.clo 117 [] []] (.bl (0≤ixG pO l) inferInstance):=by
 (repeat' first|refine ZR ?_|fail)
 (conv=>whnf)
def aK1:Con:=aI 72 true fun args K=>match args with | [.seq .str l,.clo 117 [] []]=>Need (∀a∈l,chkQ a=0) (K (.bl (0≤ixG pO l) inferInstance)) | _=>False
theorem k3072:aG Tryz.prog aK1:=by
 refine aB rfl (enters_of Tryz.func72 (by kernel_rfl) rfl) ?_
 intro args K h
 simp only[aK1] at h
 split at h
 ·rename_i l;exact ⟨_,h.go,aA (by simp[k3114]) Tryz.func72 (by simp[Tryz.ntmps72]) rfl (b3072 l h.ok)⟩
 ·exact h.elim
theorem yU {p:List UInt8→Prop} {a b c:List UInt8}:(0≤ixG p [a,b,c])↔p a∨p b∨p c:=by
 rw[iY p [a,b,c] []]
 constructor
 ·rintro ⟨j,hj,h⟩
  match j,hj,h with
  | 0,_,h=>exact .inl h
  | 1,_,h=>exact .inr (.inl h)
  | 2,_,h=>exact .inr (.inr h)
  | j+3,hj,_=>simp at hj;omega
 ·rintro (h | h | h)
  ·exact ⟨0,by simp,h⟩
  ·exact ⟨1,by simp,h⟩
  ·exact ⟨2,by simp,h⟩
theorem b3078 (a b c:List UInt8) (h:chkS (a,b,c)=0):body Tryz.prog [aK1] {} true Tryz.f78 [.agg [S a,S b,S c]] (.bl (¬dS 36 (a,b,c)) (Classical.propDecidable _)):=by
 obtain ⟨h1,h2,h3⟩:=jG.1 h
 have hall:∀x∈ [a,b,c],chkQ x=0:=fun x hx=>by
  simp only[List.mem_cons,List.not_mem_nil,or_false] at hx
  rcases hx with rfl | rfl | rfl
  ·exact h1
  ·exact h2
  ·exact h3
 have e:(0≤ixG pO [a,b,c])↔¬dS 36 (a,b,c):=by
  rw[yU]
  unfold pO dS
  constructor
  ·rintro (h | h | h) ⟨q1,q2,q3⟩
   ·exact h q1
   ·exact h q2
   ·exact h q3
  ·intro h
   by_cases q1:dK 36 (valQ a)
   ·by_cases q2:dK 36 (valQ b)
    ·exact .inr (.inr fun q3=>h ⟨q1,q2,q3⟩)
    ·exact .inr (.inl q2)
   ·exact .inl q1
 (repeat' first|refine ZR ?_|fail)
 (conv=>whnf)
 exact e
def aHg:Con:=aI 78 true fun args K=>match args with | [.agg [.str a,.str b,.str c]]=>Need (chkS (a,b,c)=0) (K (.bl (¬dS 36 (a,b,c)) (Classical.propDecidable _))) | _=>False
theorem aQ8:aG Tryz.prog aHg:=by
 refine aB rfl (enters_of Tryz.func78 (by kernel_rfl) rfl) ?_
 intro args K h
 simp only[aHg] at h
 split at h
 ·rename_i a b c;exact ⟨_,h.go,aA (by simp[k3072]) Tryz.func78 (by simp[Tryz.ntmps78]) rfl (b3078 a b c h.ok)⟩
 ·exact h.elim
theorem b114q (l:List (List UInt8)):body Tryz.prog [aKz] { asks:=[(0,[])] } true Tryz.f114 [.seq .str l,.clo 73 [] []] (I (ixG badN l)):=by
 (repeat'((conv=>whnf);first|refine Zg fun _=>?_|fail))
 refine Ask.mk ⟨{ X:=Nat,pre:=fun i=>i≤l.length∧∀j,j<i→¬badN (l.getD j []),mod:=fun i _=>[(8,I i)],heap:=fun i H=>H,mu:=fun i=>l.length-i },rfl,?_⟩
 (repeat' first|refine ZG ?_|fail)
 refine ⟨⟨(0:Nat),⟨Nat.zero_le _,fun j hj=>by omega⟩,by (repeat' first|exact trivial|rfl|refine And.intro ?_ ?_)⟩,fun (i:Nat) hi=>?_⟩
 obtain ⟨hi,hp⟩:=hi
 by_cases hlt:i<l.length
 ·(repeat' first|refine ZR ?_|fail)
  (refine Br.mk (fun _=>?_) (fun _=>?_))
  ·rename_i hb
   have e:=oN badN [] hlt hb hp
   rw[e]
   (conv=>whnf)
   (repeat' first|rfl|refine And.intro ?_ ?_)
  ·rename_i hb
   (repeat' first|refine ZR ?_|fail)
   refine ⟨(i+1:Nat),by show l.length-(i+1)<l.length-i;omega,⟨hlt,fun j hj=>?_⟩,by (repeat' first|exact trivial|rfl|refine And.intro ?_ ?_)⟩
   by_cases e:j=i
   ·subst e;exact hb
   ·exact hp j (by omega)
 ·have e:i=l.length:=by omega
  subst e
  rw[oO badN [] hp]
  (repeat' first|refine ZR ?_|fail)
  (conv=>whnf)
  (repeat' first|rfl|refine And.intro ?_ ?_)
def aK2:Con:=aI 114 true fun args K=>match args with | [.seq .str l,.clo 73 [] []]=>K (I (ixG badN l)) | _=>False
theorem k114q:aG Tryz.prog aK2:=by
 refine aB rfl (enters_of Tryz.func114 (by kernel_rfl) rfl) ?_
 intro args K h
 simp only[aK2] at h
 split at h
 ·rename_i l;exact ⟨_,h,aA (by simp[k3073]) Tryz.func114 (by simp[Tryz.ntmps114]) rfl (b114q l)⟩
 ·exact h.elim
theorem b72q (l:List (List UInt8)):body Tryz.prog [aK2] {} true Tryz.f72 [.seq .str l,.clo 73 [] []] (.bl (0≤ixG badN l) inferInstance):=by
 (conv=>whnf)
def c72q:Con:=aI 72 true fun args K=>match args with | [.seq .str l,.clo 73 [] []]=>K (.bl (0≤ixG badN l) inferInstance) | _=>False
theorem k72q:aG Tryz.prog c72q:=by
 refine aB rfl (enters_of Tryz.func72 (by kernel_rfl) rfl) ?_
 intro args K h
 simp only[c72q] at h
 split at h
 ·rename_i l;exact ⟨_,h,aA (by simp[k114q]) Tryz.func72 (by simp[Tryz.ntmps72]) rfl (b72q l)⟩
 ·exact h.elim
theorem aPq {a b c:List UInt8} (h:chkS (a,b,c)=0):¬(0≤ixG badN [a,b,c])↔okS (a,b,c):=by
 obtain ⟨h1,h2,h3⟩:=jG.1 h
 rw[yU]
 unfold badN okS dS
 constructor
 ·intro hn
  refine ⟨h,Classical.byContradiction fun q=>hn (.inl fun q2=>q q2.2),Classical.byContradiction fun q=>hn (.inr (.inl fun q2=>q q2.2)),Classical.byContradiction fun q=>hn (.inr (.inr fun q2=>q q2.2))⟩
 ·rintro ⟨_,q1,q2,q3⟩ (q | q | q)
  ·exact q ⟨h1,q1⟩
  ·exact q ⟨h2,q2⟩
  ·exact q ⟨h3,q3⟩
theorem b3043 (a b c:List UInt8):body Tryz.prog [yT,c72q] {} true Tryz.f43 [.agg [S a,S b,S c]] (.bl (okS (a,b,c)) (Classical.propDecidable _)):=by
 by_cases h:chkS (a,b,c)=0
 ·have e:=aPq h
  (repeat' first|refine ZR ?_|fail)
  (conv=>whnf)
  exact e
 ·have e:¬okS (a,b,c):=fun hk=>h hk.1
  (repeat' first|refine ZR ?_|fail)
  (conv=>whnf)
  exact e
def aK3:Con:=aI 43 true fun args K=>match args with | [.agg [.str a,.str b,.str c]]=>K (.bl (okS (a,b,c)) (Classical.propDecidable _)) | _=>False
theorem k3043:aG Tryz.prog aK3:=by
 refine aB rfl (enters_of Tryz.func43 (by kernel_rfl) rfl) ?_
 intro args K h
 simp only[aK3] at h
 split at h
 ·rename_i a b c;exact ⟨_,h,aA (by simp[aHe,k72q]) Tryz.func43 (by simp[Tryz.ntmps43]) rfl (b3043 a b c)⟩
 ·exact h.elim
theorem b3046 (k f o:Int) (a b c d e g:List UInt8) (w h:Int):body Tryz.prog [aKx,yT,aHg] {} true Tryz.f46 [.agg [I k,I f,I o,S a,S b,S c,S d,S e,S g,I w,I h]] (I (memE (k,f,o,(a,b,c),(d,e,g),w,h))):=by
 unfold memE
 have hl:([(a,b,c),(d,e,g)]:List (List UInt8 × List UInt8 × List UInt8)).length=2:=rfl
 by_cases h1:k<1∨12<k
 ·rw[if_pos h1]
  (repeat' first|refine ZR ?_|fail)
  (conv=>whnf)
  (repeat' first|rfl|refine And.intro ?_ ?_)
 rw[if_neg h1]
 by_cases h2:f<0∨o < -1
 ·rw[if_pos h2]
  by_cases h3:f<0
  ·(repeat' first|refine ZR ?_|fail)
   (conv=>whnf)
   (repeat' first|rfl|refine And.intro ?_ ?_)
  ·(repeat' first|refine ZR ?_|fail)
   (conv=>whnf)
   (repeat' first|rfl|refine And.intro ?_ ?_)
 rw[if_neg h2]
 by_cases h3:(w<1∨1000<w)∨(h<1∨1000<h)
 ·rw[if_pos h3]
  by_cases h4:w<1∨1000<w
  ·(repeat' first|refine ZR ?_|fail)
   (conv=>whnf)
   (repeat' first|rfl|refine And.intro ?_ ?_)
  ·(repeat' first|refine ZR ?_|fail)
   (conv=>whnf)
   (repeat' first|rfl|refine And.intro ?_ ?_)
 rw[if_neg h3]
 by_cases h4:chkS (a,b,c)=0
 case neg=>
  rw[if_pos h4]
  (repeat' first|refine ZR ?_|refine Zg fun _=>?_)
  (conv=>whnf)
  (repeat' first|rfl|refine And.intro ?_ ?_)
 rw[if_neg (not_not_intro h4)]
 by_cases h5:chkS (d,e,g)=0
 case neg=>
  rw[if_pos h5]
  (repeat' first|refine ZR ?_|refine Zg fun _=>?_)
  (conv=>whnf)
  (repeat' first|rfl|refine And.intro ?_ ?_)
 rw[if_neg (not_not_intro h5)]
 by_cases h6:dS 36 (a,b,c)
 case neg=>
  rw[if_pos (.inl h6)]
  (repeat' first|refine ZR ?_|refine Zg fun _=>?_)
  (conv=>whnf)
  (repeat' first|rfl|refine And.intro ?_ ?_)
 by_cases h7:dS 36 (d,e,g)
 case neg=>
  rw[if_pos (.inr h7)]
  (repeat' first|refine ZR ?_|refine Zg fun _=>?_)
  (conv=>whnf)
  (repeat' first|rfl|refine And.intro ?_ ?_)
 rw[if_neg (fun hn=>hn.elim (fun hn=>hn h6) fun hn=>hn h7)]
 (repeat' first|refine ZR ?_|refine Zg fun _=>?_)
 refine Need.mk ⟨⟨by decide,by decide,by decide,trivial⟩,by kernel_rfl⟩ ?_
 by_cases h8:((a,b,c):Sp)=(d,e,g)
 ·rw[if_pos h8]
  obtain ⟨e1,hh⟩:=Prod.mk.inj h8
  obtain ⟨e2,e3⟩:=Prod.mk.inj hh
  subst e1 e2 e3
  refine Br.mkY rfl ?_
  (conv=>whnf)
  (repeat' first|rfl|refine And.intro ?_ ?_)
 ·rw[if_neg h8]
  refine Br.mkN (fun hh=>h8 (by
   injection hh with e1 hh
   injection hh with e2 hh
   injection hh with e3 _
   exact Prod.ext e1 (Prod.ext e2 e3))) ?_
  (conv=>whnf)
  (repeat' first|rfl|refine And.intro ?_ ?_)
def jQ:Con:=aI 46 true fun args K=>match args with | [.agg [.val (.int .i64 k),.val (.int .i64 f),.val (.int .i64 o),.str a,.str b,.str c,.str d,.str e,.str g,.val (.int .i64 w),.val (.int .i64 t)]]=>K (I (memE (k,f,o,(a,b,c),(d,e,g),w,t))) | _=>False
theorem aK4:aG Tryz.prog jQ:=by
 refine aB rfl (enters_of Tryz.func46 (by kernel_rfl) rfl) ?_
 intro args K h
 simp only[jQ] at h
 split at h
 ·rename_i k f o a b c d e g w t;exact ⟨_,h,aA (by simp[k3077,aHe,aQ8]) Tryz.func46 (by simp[Tryz.ntmps46]) rfl (b3046 k f o a b c d e g w t)⟩
 ·exact h.elim
theorem aQj {p q:Rat} {k:Nat} (h1:(p.num*q.den).natAbs<10^k) (h2:(q.num*p.den).natAbs<10^k) (h0:q≠0):Sz k (p/q):=by
 have hq:q.num≠0:=fun h=>h0 (Rat.num_eq_zero.1 h)
 have hp:(0:Int)<p.den:=by have:=p.den_pos;omega
 rw[aAe p q h0]
 rcases Int.lt_or_lt_of_ne hq with h | h
 ·have hd:(p.den:Int)*q.num<0:=Int.mul_neg_of_pos_of_neg hp h
  rw[pH _ _ hd]
  refine aFe (by omega) (by rwa [Int.natAbs_neg]) ?_
  have:(-((p.den:Int)*q.num)).toNat=(q.num*p.den).natAbs:=by rw[Int.mul_comm q.num];omega
  rwa [this]
 ·have hd:0<(p.den:Int)*q.num:=Int.mul_pos hp h
  rw[fZ _ _ hd]
  refine aFe (by omega) h1 ?_
  have:((p.den:Int)*q.num).toNat=(q.num*p.den).natAbs:=by rw[Int.mul_comm q.num];omega
  rwa [this]
theorem Sz.div {p q:Rat} {i j:Nat} (hp:Sz i p) (hq:Sz j q) (h0:q≠0):Sz (i+j) (p/q):=aQj (hp.cross hq).1 (hp.cross hq).2.1 h0
section
variable {p q:Rat}
end
section
variable {l:List (List UInt8)} {i:Nat}
end
def Wt (k:Nat) (q:Rat):Prop:=q.num.natAbs*q.den<10^k
theorem aKd (n:Int) {d:Nat} (hd:d≠0):(mkRat n d).num.natAbs≤n.natAbs∧(mkRat n d).den≤d:=by
 rw[Rat.num_mkRat,if_neg hd,Rat.den_mkRat,if_neg hd]
 exact ⟨oM _ _,Nat.div_le_self _ _⟩
theorem Wt.sub {p q:Rat} {k:Nat} (hp:Wt k p) (hq:Wt k q) (sp:p.den<10^k) (sq:q.den<10^k):Wt (3*k+1) (p-q):=by
 unfold Wt at hp hq ⊢
 rw[sH]
 obtain ⟨h1,h2⟩:=aKd (p.num*q.den-q.num*p.den) (aCp p q)
 refine Nat.lt_of_le_of_lt (Nat.mul_le_mul h1 h2) ?_
 have e1:(p.num*q.den-q.num*p.den).natAbs≤p.num.natAbs*q.den+q.num.natAbs*p.den:=by
  refine Nat.le_trans (Int.natAbs_sub_le _ _) ?_
  rw[Int.natAbs_mul,Int.natAbs_mul,Int.natAbs_natCast,Int.natAbs_natCast]
  exact Nat.le_refl _
 refine Nat.lt_of_le_of_lt (Nat.mul_le_mul_right _ e1) ?_
 have e2:(p.num.natAbs*q.den+q.num.natAbs*p.den)*(p.den*q.den)=(p.num.natAbs*p.den)*(q.den*q.den)+(q.num.natAbs*q.den)*(p.den*p.den):=by
  rw[Nat.add_mul]
  congr 1<;>ac_rfl
 rw[e2]
 have a1:(p.num.natAbs*p.den)*(q.den*q.den)<10^k*(10^k*10^k):=Nat.mul_lt_mul'' hp (Nat.mul_lt_mul'' sq sq)
 have a2:(q.num.natAbs*q.den)*(p.den*p.den)<10^k*(10^k*10^k):=Nat.mul_lt_mul'' hq (Nat.mul_lt_mul'' sp sp)
 have e3:10^ (3*k+1)=10*(10^k*(10^k*10^k)):=by
  rw[← Nat.pow_add,← Nat.pow_add,Nat.pow_succ,Nat.mul_comm]
  congr 2;omega
 rw[e3]
 omega
def rgP (a b:List UInt8):Prop:=(cmpQ a b).2=0∧(cmpQ a b).1≤0
noncomputable instance (a b:List UInt8):Decidable (rgP a b):=Classical.propDecidable _
section
variable {lo hi most:Rat}
end
section
variable {α:Type} [DecidableEq α]
end
theorem iS {P:Program} {c c':Con} (hc:aG P c) (hf:c'.f=c.f) (hfr:c'.fresh=c.fresh) (hl:(c'.lin,c'.own,c'.hp)=(none,none,none)) (h:∀args K,c'.cl args K→c.cl args K):aG P c':=
 aB hl (by rw[hf];exact hc.1) fun args K h'=>by
  have:=hc.2.1 args K (h args K h')
  rwa [hf,hfr]
noncomputable def c17n:Con:=aI 200 true fun args K=>match args with
 | [.str a,.str b]=>Alt (Has (fun r=>addQ a b=(r,0)) fun r=>K (.tup [S r,I 0])) (K (.tup [S (addQ a b).1,I (addQ a b).2]))
 | _=>False
theorem k17n:aG Tryz.prog c17n:=iS k17 rfl rfl rfl fun args K h=>by
 simp only[c17n] at h
 split at h
 ·rcases h.or with h | h
  ·obtain ⟨r,e,h⟩:=h.ex
   show K _
   rw[e];exact h
  ·exact h
 ·exact h.elim
noncomputable def c20n:Con:=aI 192 true fun args K=>match args with
 | [.str a,.str b]=>Alt (Has (fun r=>subQ a b=(r,0)) fun r=>K (.tup [S r,I 0])) (K (.tup [S (subQ a b).1,I (subQ a b).2]))
 | _=>False
theorem k20n:aG Tryz.prog c20n:=iS k20 rfl rfl rfl fun args K h=>by
 simp only[c20n] at h
 split at h
 ·rcases h.or with h | h
  ·obtain ⟨r,e,h⟩:=h.ex
   show K _
   rw[e];exact h
  ·exact h
 ·exact h.elim
noncomputable def c19n:Con:=aI 193 true fun args K=>match args with
 | [.str a,.str b]=>Alt (Has (fun r=>mulQ a b=(r,0)) fun r=>K (.tup [S r,I 0])) (K (.tup [S (mulQ a b).1,I (mulQ a b).2]))
 | _=>False
theorem k19n:aG Tryz.prog c19n:=iS k19 rfl rfl rfl fun args K h=>by
 simp only[c19n] at h
 split at h
 ·rcases h.or with h | h
  ·obtain ⟨r,e,h⟩:=h.ex
   show K _
   rw[e];exact h
  ·exact h
 ·exact h.elim
noncomputable def c14n:Con:=aI 150 true fun args K=>match args with
 | [.str a,.str b]=>Alt (Has (fun r=>divQ a b=(r,0)) fun r=>K (.tup [S r,I 0])) (K (.tup [S (divQ a b).1,I (divQ a b).2]))
 | _=>False
theorem k14n:aG Tryz.prog c14n:=iS k14 rfl rfl rfl fun args K h=>by
 simp only[c14n] at h
 split at h
 ·rcases h.or with h | h
  ·obtain ⟨r,e,h⟩:=h.ex
   show K _
   rw[e];exact h
  ·exact h
 ·exact h.elim
noncomputable def c38n:Con:=aI 254 true fun args K=>match args with
 | [.str a,.str b]=>Alt (Has (fun r=>cmpQ a b=(r,0)) fun r=>K (.tup [I r,I 0])) (K (.tup [I (cmpQ a b).1,I (cmpQ a b).2]))
 | _=>False
theorem k38n:aG Tryz.prog c38n:=iS k38 rfl rfl rfl fun args K h=>by
 simp only[c38n] at h
 split at h
 ·rcases h.or with h | h
  ·obtain ⟨r,e,h⟩:=h.ex
   show K _
   rw[e];exact h
  ·exact h
 ·exact h.elim
def uK (a b r:Sp):Prop:=chkS a=0∧chkS b=0∧subQ a.1 b.1=(r.1,0)∧subQ a.2.1 b.2.1=(r.2.1,0)∧subQ a.2.2 b.2.2=(r.2.2,0)
def aHh (a b c d r:List UInt8):Prop:=∃p q,mulQ a d=(p,0)∧mulQ b c=(q,0)∧subQ p q=(r,0)
def iZ (a b r:Sp):Prop:=chkS a=0∧chkS b=0∧aHh a.2.1 a.2.2 b.2.1 b.2.2 r.1∧aHh a.2.2 a.1 b.2.2 b.1 r.2.1∧aHh a.1 a.2.1 b.1 b.2.1 r.2.2
def aCr (a b:Sp):Prop:=chkS a=0∧chkS b=0∧(cmpQ a.1 b.1).2=0∧(cmpQ a.2.1 b.2.1).2=0∧(cmpQ a.2.2 b.2.2).2=0
noncomputable def cmpS (a b:Sp):Int:=if (cmpQ a.1 b.1).1≠0 then (cmpQ a.1 b.1).1 else if (cmpQ a.2.1 b.2.1).1≠0 then (cmpQ a.2.1 b.2.1).1 else (cmpQ a.2.2 b.2.2).1
theorem b3255 (a b c d e g:List UInt8) (h:chkS (a,b,c)=0∧chkS (d,e,g)=0):body Tryz.prog [yT] {} true Tryz.f255 [.agg [S a,S b,S c],.agg [S d,S e,S g]] (I 0):=by
 obtain ⟨h1,h2⟩:=h
 (repeat' first|refine ZR ?_|fail)
 (conv=>whnf)
 (repeat' first|rfl|refine And.intro ?_ ?_)
 all_goals exact h2
def aCs:Con:=aI 255 true fun args K=>match args with | [.agg [.str a,.str b,.str c],.agg [.str d,.str e,.str g]]=>Need (chkS (a,b,c)=0∧chkS (d,e,g)=0) (K (I 0)) | _=>False
theorem aK5:aG Tryz.prog aCs:=by
 refine aB rfl (enters_of Tryz.func255 (by kernel_rfl) rfl) ?_
 intro args K h
 simp only[aCs] at h
 split at h
 ·rename_i a b c d e g;exact ⟨_,h.go,aA (by simp[aHe]) Tryz.func255 (by simp[Tryz.ntmps255]) rfl (b3255 a b c d e g h.ok)⟩
 ·exact h.elim
theorem b3295 (a b c:List UInt8):body Tryz.prog [] {} true Tryz.f295 [.agg [S a,S b,S c]] (.agg [S a,S b,S c]):=by
 (repeat' first|refine ZR ?_|fail)
 (conv=>whnf)
 (repeat' first|exact trivial|rfl|refine And.intro ?_ ?_)
def aHi:Con:=aI 295 true fun args K=>match args with | [.agg [.str a,.str b,.str c]]=>K (.agg [S a,S b,S c]) | _=>False
theorem aQ9:aG Tryz.prog aHi:=by
 refine aB rfl (enters_of Tryz.func295 (by kernel_rfl) rfl) ?_
 intro args K h
 simp only[aHi] at h
 split at h
 ·rename_i a b c;exact ⟨_,h,aA (by simp) Tryz.func295 (by simp[Tryz.ntmps295]) rfl (b3295 a b c)⟩
 ·exact h.elim
theorem b3256 (a b c d e g:List UInt8) (r:Sp) (h:uK (a,b,c) (d,e,g) r):body Tryz.prog [yS,c20n,aHi] {} true Tryz.f256 [.agg [S a,S b,S c],.agg [S d,S e,S g],.clo 192 [] []] (.tup [.agg [S r.1,S r.2.1,S r.2.2],I 0]):=by
 obtain ⟨r1,r2,r3⟩:=r
 obtain ⟨_,_,h1,h2,h3⟩:=h
 have h1:subQ a d=(r1,0):=h1
 have h2:subQ b e=(r2,0):=h2
 have h3:subQ c g=(r3,0):=h3
 (repeat' first|refine ZR ?_|fail)
 (conv=>whnf)
 (repeat' first|exact trivial|rfl|refine And.intro ?_ ?_)
noncomputable def aK6:Con:=aI 256 true fun args K=>match args with | [.agg [.str a,.str b,.str c],.agg [.str d,.str e,.str g],.clo 192 [] []]=>Alt (Has (fun r:Sp=>uK (a,b,c) (d,e,g) r) fun r=>K (.tup [.agg [S r.1,S r.2.1,S r.2.2],I 0])) False | _=>False
theorem k3256:aG Tryz.prog aK6:=by
 refine aB rfl (enters_of Tryz.func256 (by kernel_rfl) rfl) ?_
 intro args K h
 simp only[aK6] at h
 split at h
 ·rename_i a b c d e g;rcases h.or with h | h
  ·obtain ⟨r,hp,hK⟩:=h.ex
   exact ⟨_,hK,aA (by simp[aHd,k20n,aQ9]) Tryz.func256 (by simp[Tryz.ntmps256]) rfl (b3256 a b c d e g r hp)⟩
  ·exact h.elim
 ·exact h.elim
theorem b3202 (a b c d e g:List UInt8) (r:Sp) (h:uK (a,b,c) (d,e,g) r):body Tryz.prog [aCs,aK6] {} true Tryz.f202 [.agg [S a,S b,S c],.agg [S d,S e,S g]] (.tup [.agg [S r.1,S r.2.1,S r.2.2],I 0]):=by
 obtain ⟨r1,r2,r3⟩:=r
 have hc:chkS (a,b,c)=0∧chkS (d,e,g)=0:=⟨h.1,h.2.1⟩
 (repeat' first|refine ZR ?_|fail)
 (conv=>whnf)
 (repeat' first|exact trivial|rfl|refine And.intro ?_ ?_)
noncomputable def aK7:Con:=aI 202 true fun args K=>match args with | [.agg [.str a,.str b,.str c],.agg [.str d,.str e,.str g]]=>Alt (Has (fun r:Sp=>uK (a,b,c) (d,e,g) r) fun r=>K (.tup [.agg [S r.1,S r.2.1,S r.2.2],I 0])) False | _=>False
theorem k3202:aG Tryz.prog aK7:=by
 refine aB rfl (enters_of Tryz.func202 (by kernel_rfl) rfl) ?_
 intro args K h
 simp only[aK7] at h
 split at h
 ·rename_i a b c d e g;rcases h.or with h | h
  ·obtain ⟨r,hp,hK⟩:=h.ex
   exact ⟨_,hK,aA (by simp[aK5,k3256]) Tryz.func202 (by simp[Tryz.ntmps202]) rfl (b3202 a b c d e g r hp)⟩
  ·exact h.elim
 ·exact h.elim
theorem b3296 (a b c d e g:List UInt8) (r:Sp) (h:iZ (a,b,c) (d,e,g) r):body Tryz.prog [yS,c19n,c20n,aHi] {} true Tryz.f296 [.agg [S a,S b,S c],.agg [S d,S e,S g]] (.tup [.agg [S r.1,S r.2.1,S r.2.2],I 0]):=by
 obtain ⟨r1,r2,r3⟩:=r
 obtain ⟨_,_,⟨p1,q1,x1,y1,z1⟩,⟨p2,q2,x2,y2,z2⟩,⟨p3,q3,x3,y3,z3⟩⟩:=h
 dsimp only at x1 y1 z1 x2 y2 z2 x3 y3 z3
 (repeat'((conv=>whnf);first|refine .h ?_|refine Za ?_|refine Zn ?_|refine Z0 ?_|refine Z1 ?_|refine Z2 ?_|(apply Pin.mk;apply Exists.intro)|apply Pinned.mk rfl rfl|exact Zf|refine Zc ?_ ?_|refine Zy ?_|refine Zm ?_|fail))
 (conv=>whnf)
 (repeat' first|exact trivial|rfl|refine And.intro ?_ ?_)
noncomputable def aK8:Con:=aI 296 true fun args K=>match args with | [.agg [.str a,.str b,.str c],.agg [.str d,.str e,.str g]]=>Alt (Has (fun r:Sp=>iZ (a,b,c) (d,e,g) r) fun r=>K (.tup [.agg [S r.1,S r.2.1,S r.2.2],I 0])) False | _=>False
theorem k3296:aG Tryz.prog aK8:=by
 refine aB rfl (enters_of Tryz.func296 (by kernel_rfl) rfl) ?_
 intro args K h
 simp only[aK8] at h
 split at h
 ·rename_i a b c d e g;rcases h.or with h | h
  ·obtain ⟨r,hp,hK⟩:=h.ex
   exact ⟨_,hK,aA (by simp[aHd,k19n,k20n,aQ9]) Tryz.func296 (by simp[Tryz.ntmps296]) rfl (b3296 a b c d e g r hp)⟩
  ·exact h.elim
 ·exact h.elim
theorem b3257 (a b c d e g:List UInt8) (r:Sp) (h:iZ (a,b,c) (d,e,g) r):body Tryz.prog [aCs,aK8] {} true Tryz.f257 [.agg [S a,S b,S c],.agg [S d,S e,S g]] (.tup [.agg [S r.1,S r.2.1,S r.2.2],I 0]):=by
 obtain ⟨r1,r2,r3⟩:=r
 have hc:chkS (a,b,c)=0∧chkS (d,e,g)=0:=⟨h.1,h.2.1⟩
 (repeat' first|refine ZR ?_|fail)
 (conv=>whnf)
 (repeat' first|exact trivial|rfl|refine And.intro ?_ ?_)
noncomputable def aK9:Con:=aI 257 true fun args K=>match args with | [.agg [.str a,.str b,.str c],.agg [.str d,.str e,.str g]]=>Alt (Has (fun r:Sp=>iZ (a,b,c) (d,e,g) r) fun r=>K (.tup [.agg [S r.1,S r.2.1,S r.2.2],I 0])) False | _=>False
theorem k3257:aG Tryz.prog aK9:=by
 refine aB rfl (enters_of Tryz.func257 (by kernel_rfl) rfl) ?_
 intro args K h
 simp only[aK9] at h
 split at h
 ·rename_i a b c d e g;rcases h.or with h | h
  ·obtain ⟨r,hp,hK⟩:=h.ex
   exact ⟨_,hK,aA (by simp[aK5,k3296]) Tryz.func257 (by simp[Tryz.ntmps257]) rfl (b3257 a b c d e g r hp)⟩
  ·exact h.elim
 ·exact h.elim
theorem b3203 (a b c d e g:List UInt8) (r:Sp) (h:iZ (a,b,c) (d,e,g) r):body Tryz.prog [aK9] {} true Tryz.f203 [.agg [S a,S b,S c],.agg [S d,S e,S g]] (.tup [.bl (r=([48],[48],[48])) inferInstance,I 0]):=by
 obtain ⟨r1,r2,r3⟩:=r
 (repeat' first|refine ZR ?_|fail)
 refine Need.mk ⟨⟨by decide,by decide,by decide,trivial⟩,by kernel_rfl⟩ ?_
 (conv=>whnf)
 (repeat' first|exact trivial|rfl|refine And.intro ?_ ?_)
 all_goals exact ⟨fun hh=>by
  injection hh with h1 hh
  injection hh with h2 hh
  injection hh with h3 _
  exact Prod.ext h1 (Prod.ext h2 h3),fun hh=>by
  obtain ⟨h1,hh⟩:=Prod.mk.inj hh
  obtain ⟨h2,h3⟩:=Prod.mk.inj hh
  rw[h1,h2,h3]⟩
noncomputable def aLa:Con:=aI 203 true fun args K=>match args with | [.agg [.str a,.str b,.str c],.agg [.str d,.str e,.str g]]=>Alt (Has (fun r:Sp=>iZ (a,b,c) (d,e,g) r) fun r=>K (.tup [.bl (r=([48],[48],[48])) inferInstance,I 0])) False | _=>False
theorem k3203:aG Tryz.prog aLa:=by
 refine aB rfl (enters_of Tryz.func203 (by kernel_rfl) rfl) ?_
 intro args K h
 simp only[aLa] at h
 split at h
 ·rename_i a b c d e g;rcases h.or with h | h
  ·obtain ⟨r,hp,hK⟩:=h.ex
   exact ⟨_,hK,aA (by simp[k3257]) Tryz.func203 (by simp[Tryz.ntmps203]) rfl (b3203 a b c d e g r hp)⟩
  ·exact h.elim
 ·exact h.elim
theorem b3204 (a b c d e g:List UInt8) (h:aCr (a,b,c) (d,e,g)):body Tryz.prog [aCs,yS,c38n] {} true Tryz.f204 [.agg [S a,S b,S c],.agg [S d,S e,S g]] (.tup [I (cmpS (a,b,c) (d,e,g)),I 0]):=by
 obtain ⟨h1,h2,h3,h4,h5⟩:=h
 have hc:chkS (a,b,c)=0∧chkS (d,e,g)=0:=⟨h1,h2⟩
 dsimp only at h3 h4 h5
 have x1:cmpQ a d=((cmpQ a d).1,0):=Prod.ext rfl h3
 have x2:cmpQ b e=((cmpQ b e).1,0):=Prod.ext rfl h4
 have x3:cmpQ c g=((cmpQ c g).1,0):=Prod.ext rfl h5
 unfold cmpS
 dsimp only
 by_cases q1:(cmpQ a d).1=0
 ·rw[if_neg (not_not_intro q1)]
  by_cases q2:(cmpQ b e).1=0
  ·rw[if_neg (not_not_intro q2)]
   by_cases q3:(cmpQ c g).1=0
   ·rw[q3]
    (repeat' first|refine ZH ?_|fail)
    (conv=>whnf)
    (repeat' first|exact trivial|rfl|refine And.intro ?_ ?_)
   ·(repeat' first|refine ZH ?_|fail)
    (conv=>whnf)
    (repeat' first|exact trivial|rfl|refine And.intro ?_ ?_)
  ·rw[if_pos q2]
   (repeat' first|refine ZH ?_|fail)
   (conv=>whnf)
   (repeat' first|exact trivial|rfl|refine And.intro ?_ ?_)
 ·rw[if_pos q1]
  (repeat' first|refine ZH ?_|fail)
  (conv=>whnf)
  (repeat' first|exact trivial|rfl|refine And.intro ?_ ?_)
def aLb:Con:=aI 204 true fun args K=>match args with | [.agg [.str a,.str b,.str c],.agg [.str d,.str e,.str g]]=>Need (aCr (a,b,c) (d,e,g)) (K (.tup [I (cmpS (a,b,c) (d,e,g)),I 0])) | _=>False
theorem k3204:aG Tryz.prog aLb:=by
 refine aB rfl (enters_of Tryz.func204 (by kernel_rfl) rfl) ?_
 intro args K h
 simp only[aLb] at h
 split at h
 ·rename_i a b c d e g;exact ⟨_,h.go,aA (by simp[aK5,aHd,k38n]) Tryz.func204 (by simp[Tryz.ntmps204]) rfl (b3204 a b c d e g h.ok)⟩
 ·exact h.elim
section
variable {p q:Rat} {k:Nat}
theorem aSa (p q:Rat):cmpI (p.num*q.den) (q.num*p.den)=cmpR p q:=by
 unfold cmpI cmpR
 by_cases h1:p<q
 ·rw[if_pos h1,if_pos ((Rat.lt_iff p q).1 h1)]
 ·rw[if_neg h1,if_neg (fun h=>h1 ((Rat.lt_iff p q).2 h))]
  by_cases h2:q<p
  ·have:=(Rat.lt_iff q p).1 h2
   rw[if_pos h2,if_neg (by omega)]
  ·have h3:¬q.num*p.den<p.num*q.den:=fun h=>h2 ((Rat.lt_iff q p).2 h)
   have h4:¬p.num*q.den<q.num*p.den:=fun h=>h1 ((Rat.lt_iff p q).2 h)
   rw[if_neg h2,if_pos (by omega)]
end
noncomputable def nS3 (v:V3):Sp:=(numS v.1,numS v.2.1,numS v.2.2)
def Sz3 (k:Nat) (v:V3):Prop:=Sz k v.1∧Sz k v.2.1∧Sz k v.2.2
theorem aHj {s:Sp} (h:okS s):s=nS3 (vS s)∧Sz3 36 (vS s):=by
 obtain ⟨⟨a,b,c⟩,z⟩:=uF h
 exact ⟨Prod.ext a (Prod.ext b c),z⟩
theorem chkT {k:Nat} {v:V3} (h:Sz3 k v) (hk:0<k∧k≤300):chkS (nS3 v)=0:=jG.2 ⟨pL h.1 hk,pL h.2.1 hk,pL h.2.2 hk⟩
theorem aHk {i j:Nat} {u v:V3} (hu:Sz3 i u) (hv:Sz3 j v) (hi:0<i) (hj:0<j) (h:i+j+1≤300):uK (nS3 u) (nS3 v) (nS3 (sub3 u v))∧Sz3 (i+j+1) (sub3 u v):=
 ⟨⟨chkT hu ⟨hi,by omega⟩,chkT hv ⟨hj,by omega⟩,eM hu.1 hv.1 hi hj h,eM hu.2.1 hv.2.1 hi hj h,eM hu.2.2 hv.2.2 hi hj h⟩,hu.1.sub hv.1,hu.2.1.sub hv.2.1,hu.2.2.sub hv.2.2⟩
noncomputable def crs3 (d v:V3):V3:=(d.2.1*v.2.2-d.2.2*v.2.1,d.2.2*v.1-d.1*v.2.2,d.1*v.2.1-d.2.1*v.1)
theorem aFf {k:Nat} {a b c d:Rat} (ha:Sz k a) (hb:Sz k b) (hc:Sz k c) (hd:Sz k d) (h0:0<k) (h:(k+k)+(k+k)+1≤300):aHh (numS a) (numS b) (numS c) (numS d) (numS (a*d-b*c)):=
 ⟨numS (a*d),numS (b*c),gZ ha hd h0 h0 (by omega),gZ hb hc h0 h0 (by omega),eM (ha.mul hd) (hb.mul hc) (by omega) (by omega) h⟩
theorem aLc {k:Nat} {u v:V3} (hu:Sz3 k u) (hv:Sz3 k v) (h0:0<k) (h:(k+k)+(k+k)+1≤300):iZ (nS3 u) (nS3 v) (nS3 (crs3 u v)):=
 ⟨chkT hu ⟨h0,by omega⟩,chkT hv ⟨h0,by omega⟩,aFf hu.2.1 hu.2.2 hv.2.1 hv.2.2 h0 h,aFf hu.2.2 hu.1 hv.2.2 hv.1 h0 h,aFf hu.1 hu.2.1 hv.1 hv.2.1 h0 h⟩
theorem sR {i j:Nat} {p q:Rat} (hp:Sz i p) (hq:Sz j q) (hi:0<i) (hj:0<j) (h:i+j≤300):cmpQ (numS p) (numS q)=(cmpR p q,0):=by
 rw[aQ7 hp hq hi hj h,aSa]
theorem aLd {i j:Nat} {u v:V3} (hu:Sz3 i u) (hv:Sz3 j v) (hi:0<i) (hj:0<j) (h:i+j≤300):aCr (nS3 u) (nS3 v)∧cmpS (nS3 u) (nS3 v)=lexR u v:=by
 have e1:=sR hu.1 hv.1 hi hj h
 have e2:=sR hu.2.1 hv.2.1 hi hj h
 have e3:=sR hu.2.2 hv.2.2 hi hj h
 refine ⟨⟨chkT hu ⟨hi,by omega⟩,chkT hv ⟨hj,by omega⟩,?_,?_,?_⟩,?_⟩
 ·show (cmpQ (numS u.1) (numS v.1)).2=0;rw[e1]
 ·show (cmpQ (numS u.2.1) (numS v.2.1)).2=0;rw[e2]
 ·show (cmpQ (numS u.2.2) (numS v.2.2)).2=0;rw[e3]
 ·unfold cmpS lexR
  show (if (cmpQ (numS u.1) (numS v.1)).1≠0 then (cmpQ (numS u.1) (numS v.1)).1 else if (cmpQ (numS u.2.1) (numS v.2.1)).1≠0 then (cmpQ (numS u.2.1) (numS v.2.1)).1 else (cmpQ (numS u.2.2) (numS v.2.2)).1)= _
  rw[e1,e2,e3]
theorem uL {q:Rat}:numS q= [48]↔q=0:=by
 rw[← nV]
 exact ⟨fun h=>by rw[← cW q,h,cW],fun h=>by rw[h]⟩
theorem aLe {u v:V3}:nS3 (crs3 u v)=([48],[48],[48])↔parR u v:=by
 unfold nS3 crs3 parR
 rw[Prod.mk.injEq,Prod.mk.injEq,uL,uL,uL]
theorem aFg {m:Mem} {s:Sp} (hm:memE m=0) (hs:okS s):∃u v p:Sp,uK m.2.2.2.2.1 m.2.2.2.1 u∧uK s m.2.2.2.1 v∧iZ u v p∧aCr m.2.2.2.1 s∧aCr s m.2.2.2.2.1∧
  (metP m s↔p=([48],[48],[48])∧(cmpS m.2.2.2.1 s=0∨cmpS s m.2.2.2.2.1=0∨cmpS m.2.2.2.1 s=cmpS s m.2.2.2.2.1)):=by
 obtain ⟨_,hf,ht,_⟩:=fK hm
 obtain ⟨ef,zf⟩:=aHj hf
 obtain ⟨et,zt⟩:=aHj ht
 obtain ⟨es,zs⟩:=aHj hs
 obtain ⟨hu,zu⟩:=aHk zt zf (by decide) (by decide) (by decide)
 obtain ⟨hv,zv⟩:=aHk zs zf (by decide) (by decide) (by decide)
 have hp:=aLc zu zv (by decide) (by decide)
 obtain ⟨h1,e1⟩:=aLd zf zs (by decide) (by decide) (by decide)
 obtain ⟨h2,e2⟩:=aLd zs zt (by decide) (by decide) (by decide)
 rw[← et,← ef] at hu
 rw[← es,← ef] at hv
 rw[← es,← ef] at h1 e1
 rw[← es,← et] at h2 e2
 refine ⟨_,_,_,hu,hv,hp,h1,h2,?_⟩
 rw[aLe,e1,e2]
 exact Iff.rfl
theorem b3153 (k f o:Int) (a b c d e g:List UInt8) (w t:Int) (x y z:List UInt8) (hh0:memE (k,f,o,(a,b,c),(d,e,g),w,t)=0∧okS (x,y,z)):body Tryz.prog [jQ,yT,aHg,aK7,aLa,aLb] {} true Tryz.f153 [.agg [I k,I f,I o,S a,S b,S c,S d,S e,S g,I w,I t],.agg [S x,S y,S z]] (.tup [.bl (metP (k,f,o,(a,b,c),(d,e,g),w,t) (x,y,z)) (Classical.propDecidable _),I 0]):=by
 obtain ⟨hm,hs⟩:=hh0
 obtain ⟨⟨u1,u2,u3⟩,⟨v1,v2,v3⟩,p,hu,hv,hp,h1,h2,hq⟩:=aFg hm hs
 obtain ⟨hc,hd⟩:=hs
 have hd2:¬ ¬dS 36 (x,y,z):=not_not_intro hd
 dsimp only at hu hv hp h1 h2 hq
 generalize metP (k,f,o,(a,b,c),(d,e,g),w,t) (x,y,z)=M at hq ⊢
 by_cases h3:p=([48],[48],[48])
 ·have h4:¬ ¬p=([48],[48],[48]):=not_not_intro h3
  by_cases h5:cmpS (a,b,c) (x,y,z)=0
  ·(repeat' first|refine ZH ?_|fail)
   (conv=>whnf)
   (repeat' first|exact trivial|rfl|refine And.intro ?_ ?_)
   exact hq.2 ⟨h3,.inl h5⟩
  ·by_cases h6:cmpS (x,y,z) (d,e,g)=0
   ·(repeat' first|refine ZH ?_|fail)
    (conv=>whnf)
    (repeat' first|exact trivial|rfl|refine And.intro ?_ ?_)
    exact hq.2 ⟨h3,.inr (.inl h6)⟩
   ·(repeat' first|refine ZH ?_|fail)
    (conv=>whnf)
    (repeat' first|exact trivial|rfl|refine And.intro ?_ ?_)
    exact ⟨fun hh=>hq.2 ⟨h3,.inr (.inr hh)⟩,fun hh=>((hq.1 hh).2.resolve_left h5).resolve_left h6⟩
 ·(repeat' first|refine ZH ?_|fail)
  (conv=>whnf)
  (repeat' first|exact trivial|rfl|refine And.intro ?_ ?_)
  all_goals exact fun hh=>h3 (hq.1 hh).1
def aLf:Con:=aI 153 true fun args K=>match args with | [.agg [.val (.int .i64 k),.val (.int .i64 f),.val (.int .i64 o),.str a,.str b,.str c,.str d,.str e,.str g,.val (.int .i64 w),.val (.int .i64 t)],.agg [.str x,.str y,.str z]]=>Need (memE (k,f,o,(a,b,c),(d,e,g),w,t)=0∧okS (x,y,z)) (K (.tup [.bl (metP (k,f,o,(a,b,c),(d,e,g),w,t) (x,y,z)) (Classical.propDecidable _),I 0])) | _=>False
theorem k3153:aG Tryz.prog aLf:=by
 refine aB rfl (enters_of Tryz.func153 (by kernel_rfl) rfl) ?_
 intro args K h
 simp only[aLf] at h
 split at h
 ·rename_i k f o a b c d e g w t x y z;exact ⟨_,h.go,aA (by simp[aK4,aHe,aQ8,k3202,k3203,k3204]) Tryz.func153 (by simp[Tryz.ntmps153]) rfl (b3153 k f o a b c d e g w t x y z h.ok)⟩
 ·exact h.elim
abbrev CL:HO:=.cells [I 0] 189
theorem b149s (a b r:List UInt8) (h:subQ a b=(r,0)):jV Tryz.prog [c20n] {} Tryz.f149 [.ptr 0 0,.clo 192 [] [],S a,S b] [CL] (fun r' H'=>r'=S r∧H'= [CL]):=by
 (conv=>whnf)
 refine Need.mk rfl ?_
 (repeat' first|refine ZH ?_|fail)
 (conv=>whnf)
 refine ⟨_,_,⟨rfl,rfl⟩,rfl,?_,rfl,rfl,?_⟩
 all_goals (repeat' first|exact trivial|rfl|refine And.intro ?_ ?_)
theorem b149m (a b r:List UInt8) (h:mulQ a b=(r,0)):jV Tryz.prog [c19n] {} Tryz.f149 [.ptr 0 0,.clo 193 [] [],S a,S b] [CL] (fun r' H'=>r'=S r∧H'= [CL]):=by
 (conv=>whnf)
 refine Need.mk rfl ?_
 (repeat' first|refine ZH ?_|fail)
 (conv=>whnf)
 refine ⟨_,_,⟨rfl,rfl⟩,rfl,?_,rfl,rfl,?_⟩
 all_goals (repeat' first|exact trivial|rfl|refine And.intro ?_ ?_)
theorem b149d (a b r:List UInt8) (h:divQ a b=(r,0)):jV Tryz.prog [c14n] {} Tryz.f149 [.ptr 0 0,.clo 150 [] [],S a,S b] [CL] (fun r' H'=>r'=S r∧H'= [CL]):=by
 (conv=>whnf)
 refine Need.mk rfl ?_
 (repeat' first|refine ZH ?_|fail)
 (conv=>whnf)
 refine ⟨_,_,⟨rfl,rfl⟩,rfl,?_,rfl,rfl,?_⟩
 all_goals (repeat' first|exact trivial|rfl|refine And.intro ?_ ?_)
theorem b149a (a b r:List UInt8) (h:addQ a b=(r,0)):jV Tryz.prog [c17n] {} Tryz.f149 [.ptr 0 0,.clo 200 [] [],S a,S b] [CL] (fun r' H'=>r'=S r∧H'= [CL]):=by
 (conv=>whnf)
 refine Need.mk rfl ?_
 (repeat' first|refine ZH ?_|fail)
 (conv=>whnf)
 refine ⟨_,_,⟨rfl,rfl⟩,rfl,?_,rfl,rfl,?_⟩
 all_goals (repeat' first|exact trivial|rfl|refine And.intro ?_ ?_)
noncomputable def iI:Con:=vR 149 189 fun args e0 K=>match args with
 | [.clo 192 [] [],.str a,.str b]=>Need (e0=0) (Alt (Has (fun r:List UInt8=>subQ a b=(r,0)) fun r=>K (S r) 0) False)
 | [.clo 193 [] [],.str a,.str b]=>Need (e0=0) (Alt (Has (fun r:List UInt8=>mulQ a b=(r,0)) fun r=>K (S r) 0) False)
 | [.clo 150 [] [],.str a,.str b]=>Need (e0=0) (Alt (Has (fun r:List UInt8=>divQ a b=(r,0)) fun r=>K (S r) 0) False)
 | [.clo 200 [] [],.str a,.str b]=>Need (e0=0) (Alt (Has (fun r:List UInt8=>addQ a b=(r,0)) fun r=>K (S r) 0) False)
 | _=>False
theorem yV:aG Tryz.prog iI:=by
 refine qD (enters_of Tryz.func149 (by kernel_rfl) rfl) ?_
 intro args e0 K h
 split at h
 ·rename_i a b
  obtain ⟨h1,hk⟩:=h
  subst h1
  rcases hk.or with hk | hk
  ·obtain ⟨r,hp,hK⟩:=hk.ex
   exact ⟨_,_,hK,rfl,bO (by simp[k20n]) Tryz.func149 (by simp[Tryz.ntmps149]) (b149s a b r hp)⟩
  ·exact hk.elim
 ·rename_i a b
  obtain ⟨h1,hk⟩:=h
  subst h1
  rcases hk.or with hk | hk
  ·obtain ⟨r,hp,hK⟩:=hk.ex
   exact ⟨_,_,hK,rfl,bO (by simp[k19n]) Tryz.func149 (by simp[Tryz.ntmps149]) (b149m a b r hp)⟩
  ·exact hk.elim
 ·rename_i a b
  obtain ⟨h1,hk⟩:=h
  subst h1
  rcases hk.or with hk | hk
  ·obtain ⟨r,hp,hK⟩:=hk.ex
   exact ⟨_,_,hK,rfl,bO (by simp[k14n]) Tryz.func149 (by simp[Tryz.ntmps149]) (b149d a b r hp)⟩
  ·exact hk.elim
 ·rename_i a b
  obtain ⟨h1,hk⟩:=h
  subst h1
  rcases hk.or with hk | hk
  ·obtain ⟨r,hp,hK⟩:=hk.ex
   exact ⟨_,_,hK,rfl,bO (by simp[k17n]) Tryz.func149 (by simp[Tryz.ntmps149]) (b149a a b r hp)⟩
  ·exact hk.elim
 ·exact h.elim
def cZ (a b r:Sp):Prop:=subQ a.1 b.1=(r.1,0)∧subQ a.2.1 b.2.1=(r.2.1,0)∧subQ a.2.2 b.2.2=(r.2.2,0)
theorem b3147 (a b c d e g:List UInt8) (r:Sp) (h:cZ (a,b,c) (d,e,g) r):jV Tryz.prog [iI] {} Tryz.f147 [.ptr 0 0,.agg [S a,S b,S c],.agg [S d,S e,S g]] [CL] (fun r' H'=>r'= .agg [S r.1,S r.2.1,S r.2.2]∧H'= [CL]):=by
 obtain ⟨r1,r2,r3⟩:=r
 obtain ⟨h1,h2,h3⟩:=h
 dsimp only at h1 h2 h3
 (conv=>whnf)
 refine Need.mk rfl ?_
 (repeat'((conv=>whnf);first|refine .h ?_|refine Zn ?_|(apply Pin.mk;apply Exists.intro)|apply Pinned.mk rfl rfl|(apply PinH.mk;apply Exists.intro;apply Exists.intro)|exact Zf|refine Zc ?_ ?_|fail))
 (conv=>whnf)
 refine ⟨_,_,⟨rfl,rfl⟩,rfl,?_,rfl,rfl,?_⟩
 all_goals (repeat' first|exact trivial|rfl|refine And.intro ?_ ?_)
noncomputable def nX:Con:=vR 147 189 fun args e0 K=>match args with
 | [.agg [.str a,.str b,.str c],.agg [.str d,.str e,.str g]]=>Need (e0=0) (Alt (Has (fun r:Sp=>cZ (a,b,c) (d,e,g) r) fun r=>K (.agg [S r.1,S r.2.1,S r.2.2]) 0) False)
 | _=>False
theorem k3147:aG Tryz.prog nX:=by
 refine qD (enters_of Tryz.func147 (by kernel_rfl) rfl) ?_
 intro args e0 K h
 split at h
 ·rename_i a b c d e g
  obtain ⟨h1,hk⟩:=h
  subst h1
  rcases hk.or with hk | hk
  ·obtain ⟨r,hp,hK⟩:=hk.ex
   exact ⟨_,_,hK,rfl,bO (by simp[yV]) Tryz.func147 (by simp[Tryz.ntmps147]) (b3147 a b c d e g r hp)⟩
  ·exact hk.elim
 ·exact h.elim
def dA (a b c d r:List UInt8):Prop:=∃p q,mulQ a d=(p,0)∧mulQ b c=(q,0)∧subQ p q=(r,0)
theorem b148x (a b c d e g r:List UInt8) (h:dA a b d e r):jV Tryz.prog [iI] {} Tryz.f148 [.ptr 0 0,.agg [S a,S b,S c],.agg [S d,S e,S g],I 0,I 1] [CL] (fun r' H'=>r'=S r∧H'= [CL]):=by
 obtain ⟨p,q,h1,h2,h3⟩:=h
 (conv=>whnf)
 refine Need.mk rfl ?_
 (repeat'((conv=>whnf);first|refine .h ?_|refine Zn ?_|refine Z0 ?_|refine Z1 ?_|(apply Pin.mk;apply Exists.intro)|apply Pinned.mk rfl rfl|(apply PinH.mk;apply Exists.intro;apply Exists.intro)|exact Zf|refine Zc ?_ ?_|fail))
 (conv=>whnf)
 refine ⟨_,_,⟨rfl,rfl⟩,rfl,?_,rfl,rfl,?_⟩
 all_goals (repeat' first|exact trivial|rfl|refine And.intro ?_ ?_)
theorem b148y (a b c d e g r:List UInt8) (h:dA b c e g r):jV Tryz.prog [iI] {} Tryz.f148 [.ptr 0 0,.agg [S a,S b,S c],.agg [S d,S e,S g],I 1,I 2] [CL] (fun r' H'=>r'=S r∧H'= [CL]):=by
 obtain ⟨p,q,h1,h2,h3⟩:=h
 (conv=>whnf)
 refine Need.mk rfl ?_
 (repeat'((conv=>whnf);first|refine .h ?_|refine Zn ?_|refine Z1 ?_|refine Z2 ?_|(apply Pin.mk;apply Exists.intro)|apply Pinned.mk rfl rfl|(apply PinH.mk;apply Exists.intro;apply Exists.intro)|exact Zf|refine Zc ?_ ?_|fail))
 (conv=>whnf)
 refine ⟨_,_,⟨rfl,rfl⟩,rfl,?_,rfl,rfl,?_⟩
 all_goals (repeat' first|exact trivial|rfl|refine And.intro ?_ ?_)
theorem b148z (a b c d e g r:List UInt8) (h:dA c a g d r):jV Tryz.prog [iI] {} Tryz.f148 [.ptr 0 0,.agg [S a,S b,S c],.agg [S d,S e,S g],I 2,I 0] [CL] (fun r' H'=>r'=S r∧H'= [CL]):=by
 obtain ⟨p,q,h1,h2,h3⟩:=h
 (conv=>whnf)
 refine Need.mk rfl ?_
 (repeat'((conv=>whnf);first|refine .h ?_|refine Zn ?_|refine Z0 ?_|refine Z2 ?_|(apply Pin.mk;apply Exists.intro)|apply Pinned.mk rfl rfl|(apply PinH.mk;apply Exists.intro;apply Exists.intro)|exact Zf|refine Zc ?_ ?_|fail))
 (conv=>whnf)
 refine ⟨_,_,⟨rfl,rfl⟩,rfl,?_,rfl,rfl,?_⟩
 all_goals (repeat' first|exact trivial|rfl|refine And.intro ?_ ?_)
noncomputable def nY:Con:=vR 148 189 fun args e0 K=>match args with
 | [.agg [.str a,.str b,.str c],.agg [.str d,.str e,.str g],.val (.int .i64 0),.val (.int .i64 1)]=>Need (e0=0) (Alt (Has (fun r:List UInt8=>dA a b d e r) fun r=>K (S r) 0) False)
 | [.agg [.str a,.str b,.str c],.agg [.str d,.str e,.str g],.val (.int .i64 1),.val (.int .i64 2)]=>Need (e0=0) (Alt (Has (fun r:List UInt8=>dA b c e g r) fun r=>K (S r) 0) False)
 | [.agg [.str a,.str b,.str c],.agg [.str d,.str e,.str g],.val (.int .i64 2),.val (.int .i64 0)]=>Need (e0=0) (Alt (Has (fun r:List UInt8=>dA c a g d r) fun r=>K (S r) 0) False)
 | _=>False
theorem k3148:aG Tryz.prog nY:=by
 refine qD (enters_of Tryz.func148 (by kernel_rfl) rfl) ?_
 intro args e0 K h
 split at h
 ·rename_i a b c d e g
  obtain ⟨h1,hk⟩:=h
  subst h1
  rcases hk.or with hk | hk
  ·obtain ⟨r,hp,hK⟩:=hk.ex
   exact ⟨_,_,hK,rfl,bO (by simp[yV]) Tryz.func148 (by simp[Tryz.ntmps148]) (b148x a b c d e g r hp)⟩
  ·exact hk.elim
 ·rename_i a b c d e g
  obtain ⟨h1,hk⟩:=h
  subst h1
  rcases hk.or with hk | hk
  ·obtain ⟨r,hp,hK⟩:=hk.ex
   exact ⟨_,_,hK,rfl,bO (by simp[yV]) Tryz.func148 (by simp[Tryz.ntmps148]) (b148y a b c d e g r hp)⟩
  ·exact hk.elim
 ·rename_i a b c d e g
  obtain ⟨h1,hk⟩:=h
  subst h1
  rcases hk.or with hk | hk
  ·obtain ⟨r,hp,hK⟩:=hk.ex
   exact ⟨_,_,hK,rfl,bO (by simp[yV]) Tryz.func148 (by simp[Tryz.ntmps148]) (b148z a b c d e g r hp)⟩
  ·exact hk.elim
 ·exact h.elim
def alOK (a u:Sp) (s:List UInt8) (r:Sp):Prop:=∃p1 p2 p3,mulQ u.1 s=(p1,0)∧mulQ u.2.1 s=(p2,0)∧mulQ u.2.2 s=(p3,0)∧addQ a.1 p1=(r.1,0)∧addQ a.2.1 p2=(r.2.1,0)∧addQ a.2.2 p3=(r.2.2,0)
theorem b3151 (a b c d e g s:List UInt8) (r:Sp) (h:alOK (a,b,c) (d,e,g) s r):jV Tryz.prog [iI] {} Tryz.f151 [.ptr 0 0,.agg [S a,S b,S c],.agg [S d,S e,S g],S s] [CL] (fun r' H'=>r'= .agg [S r.1,S r.2.1,S r.2.2]∧H'= [CL]):=by
 obtain ⟨r1,r2,r3⟩:=r
 obtain ⟨p1,p2,p3,h1,h2,h3,h4,h5,h6⟩:=h
 dsimp only at h1 h2 h3 h4 h5 h6
 have hl: [a,b,c].length=3:=rfl
 (conv=>whnf)
 refine Need.mk rfl ?_
 (repeat' first|refine ZH ?_|refine Zg fun _=>?_)
 (conv=>whnf)
 refine ⟨_,_,⟨rfl,rfl⟩,rfl,?_,rfl,rfl,?_⟩
 all_goals (repeat' first|exact trivial|rfl|refine And.intro ?_ ?_)
noncomputable def nZ:Con:=vR 151 189 fun args e0 K=>match args with
 | [.agg [.str a,.str b,.str c],.agg [.str d,.str e,.str g],.str s]=>Need (e0=0) (Alt (Has (fun r:Sp=>alOK (a,b,c) (d,e,g) s r) fun r=>K (.agg [S r.1,S r.2.1,S r.2.2]) 0) False)
 | _=>False
theorem k3151:aG Tryz.prog nZ:=by
 refine qD (enters_of Tryz.func151 (by kernel_rfl) rfl) ?_
 intro args e0 K h
 split at h
 ·rename_i a b c d e g s
  obtain ⟨h1,hk⟩:=h
  subst h1
  rcases hk.or with hk | hk
  ·obtain ⟨r,hp,hK⟩:=hk.ex
   exact ⟨_,_,hK,rfl,bO (by simp[yV]) Tryz.func151 (by simp[Tryz.ntmps151]) (b3151 a b c d e g s r hp)⟩
  ·exact hk.elim
 ·exact h.elim
theorem b3201 (a b:List UInt8):body Tryz.prog [c38] {} true Tryz.f201 [S a,S b] (I (cmpQ a b).1):=by
 (conv=>whnf)
 (repeat' first|rfl|refine And.intro ?_ ?_)
def aLg:Con:=aI 201 true fun args K=>match args with | [.str a,.str b]=>K (I (cmpQ a b).1) | _=>False
theorem k3201:aG Tryz.prog aLg:=by
 refine aB rfl (enters_of Tryz.func201 (by kernel_rfl) rfl) ?_
 intro args K h
 simp only[aLg] at h
 split at h
 ·rename_i a b;exact ⟨_,h,aA (by simp[k38]) Tryz.func201 (by simp[Tryz.ntmps201]) rfl (b3201 a b)⟩
 ·exact h.elim
theorem b3152 (a:List UInt8):body Tryz.prog [aLg] {} true Tryz.f152 [S a] (.bl (0≤(cmpQ a [48]).1∧(cmpQ a [49]).1≤0) inferInstance):=by
 by_cases h:0≤(cmpQ a [48]).1
 ·(repeat' first|refine ZR ?_|fail)
  (conv=>whnf)
  exact ⟨fun hh=>⟨h,hh⟩,fun hh=>hh.2⟩
 ·(repeat' first|refine ZR ?_|fail)
  (conv=>whnf)
  exact fun hh=>h hh.1
def lV:Con:=aI 152 true fun args K=>match args with | [.str a]=>K (.bl (0≤(cmpQ a [48]).1∧(cmpQ a [49]).1≤0) inferInstance) | _=>False
theorem k3152:aG Tryz.prog lV:=by
 refine aB rfl (enters_of Tryz.func152 (by kernel_rfl) rfl) ?_
 intro args K h
 simp only[lV] at h
 split at h
 ·rename_i a;exact ⟨_,h,aA (by simp[k3201]) Tryz.func152 (by simp[Tryz.ntmps152]) rfl (b3152 a)⟩
 ·exact h.elim
theorem b3146 (a:List UInt8) (h:chkQ a=0):body Tryz.prog [yR,c88] {} true Tryz.f146 [S a,I 12] (.bl (¬dK 12 (valQ a)) inferInstance):=by
 have e:=aHf h
 have hi:=aAw (k:=12) (a:=a)
 have e1:(digs (ptQ a).1).length=(digs (pn (valQ a))).length:=by rw[e]
 have e2:(ptQ a).2.length=(pd (valQ a)).length:=by rw[e]
 by_cases q:(12:Int)<(digs (ptQ a).1).length
 ·(repeat' first|refine ZR ?_|refine Zg fun _=>?_)
  (conv=>whnf)
  all_goals exact fun hd=>by have:=hi.2 hd;omega
 ·(repeat' first|refine ZR ?_|refine Zg fun _=>?_)
  (conv=>whnf)
  all_goals exact ⟨fun q2 hd=>by have:=hi.2 hd;omega,fun hd=>Classical.byContradiction fun q2=>hd (hi.1 (by omega))⟩
def lW:Con:=aI 146 true fun args K=>match args with | [.str a,.val (.int .i64 12)]=>Need (chkQ a=0) (K (.bl (¬dK 12 (valQ a)) inferInstance)) | _=>False
theorem k3146:aG Tryz.prog lW:=by
 refine aB rfl (enters_of Tryz.func146 (by kernel_rfl) rfl) ?_
 intro args K h
 simp only[lW] at h
 split at h
 ·rename_i a;exact ⟨_,h.go,aA (by simp[aHc,k88]) Tryz.func146 (by simp[Tryz.ntmps146]) rfl (b3146 a h.ok)⟩
 ·exact h.elim
theorem b3123 (a b c:List UInt8):body Tryz.prog [] {} true Tryz.f123 [.agg [S a,S b,S c]] (.agg [S a,S b]):=by
 (conv=>whnf)
 (repeat' first|exact trivial|rfl|refine And.intro ?_ ?_)
def aLp:Con:=aI 123 true fun args K=>match args with | [.agg [.str a,.str b,.str c]]=>K (.agg [S a,S b]) | _=>False
theorem k3123:aG Tryz.prog aLp:=by
 refine aB rfl (enters_of Tryz.func123 (by kernel_rfl) rfl) ?_
 intro args K h
 simp only[aLp] at h
 split at h
 ·rename_i a b c;exact ⟨_,h,aA (by simp) Tryz.func123 (by simp[Tryz.ntmps123]) rfl (b3123 a b c)⟩
 ·exact h.elim
theorem b3042 (i:Int) (a b c d e g:List UInt8) (u v:Int):body Tryz.prog [aK3] {} true Tryz.f42 [.agg [I i,S a,S b,S c,S d,S e,S g,I u,I v]] (.bl (¬(okS (a,b,c)∧okS (d,e,g))) (Classical.propDecidable _)):=by
 by_cases h:okS (a,b,c)
 ·(repeat' first|refine ZR ?_|fail)
  (conv=>whnf)
  exact ⟨fun hn hh=>hn hh.2,fun hn hh=>hn ⟨h,hh⟩⟩
 ·(repeat' first|refine ZR ?_|fail)
  (conv=>whnf)
  exact fun hh=>h hh.1
def aLq:Con:=aI 42 true fun args K=>match args with | [.agg [.val (.int .i64 i),.str a,.str b,.str c,.str d,.str e,.str g,.val (.int .i64 u),.val (.int .i64 v)]]=>K (.bl (¬(okS (a,b,c)∧okS (d,e,g))) (Classical.propDecidable _)) | _=>False
theorem k3042:aG Tryz.prog aLq:=by
 refine aB rfl (enters_of Tryz.func42 (by kernel_rfl) rfl) ?_
 intro args K h
 simp only[aLq] at h
 split at h
 ·rename_i i a b c d e g u v;exact ⟨_,h,aA (by simp[k3043]) Tryz.func42 (by simp[Tryz.ntmps42]) rfl (b3042 i a b c d e g u v)⟩
 ·exact h.elim
theorem b3045 (k f o:Int) (a b c d e g:List UInt8) (w t:Int):body Tryz.prog [jQ] {} true Tryz.f45 [.agg [I k,I f,I o,S a,S b,S c,S d,S e,S g,I w,I t]] (.bl (¬memE (k,f,o,(a,b,c),(d,e,g),w,t)=0) inferInstance):=by
 (conv=>whnf)
def aLr:Con:=aI 45 true fun args K=>match args with | [.agg [.val (.int .i64 k),.val (.int .i64 f),.val (.int .i64 o),.str a,.str b,.str c,.str d,.str e,.str g,.val (.int .i64 w),.val (.int .i64 t)]]=>K (.bl (¬memE (k,f,o,(a,b,c),(d,e,g),w,t)=0) inferInstance) | _=>False
theorem k3045:aG Tryz.prog aLr:=by
 refine aB rfl (enters_of Tryz.func45 (by kernel_rfl) rfl) ?_
 intro args K h
 simp only[aLr] at h
 split at h
 ·rename_i k f o a b c d e g w t;exact ⟨_,h,aA (by simp[aK4]) Tryz.func45 (by simp[Tryz.ntmps45]) rfl (b3045 k f o a b c d e g w t)⟩
 ·exact h.elim
theorem b3083 (k:Int):body Tryz.prog [] {} true Tryz.f83 [I k] (.bl (rafP k) (Classical.propDecidable _)):=by
 unfold rafP
 by_cases h:1≤k
 ·(repeat' first|refine ZR ?_|fail)
  (conv=>whnf)
  exact ⟨fun hh=>⟨h,hh⟩,fun hh=>hh.2⟩
 ·(repeat' first|refine ZR ?_|fail)
  (conv=>whnf)
  exact fun hh=>h hh.1
def aHl:Con:=aI 83 true fun args K=>match args with | [.val (.int .i64 k)]=>K (.bl (rafP k) (Classical.propDecidable _)) | _=>False
theorem aRa:aG Tryz.prog aHl:=by
 refine aB rfl (enters_of Tryz.func83 (by kernel_rfl) rfl) ?_
 intro args K h
 simp only[aHl] at h
 split at h
 ·rename_i k;exact ⟨_,h,aA (by simp) Tryz.func83 (by simp[Tryz.ntmps83]) rfl (b3083 k)⟩
 ·exact h.elim
theorem b3084 (k:Int):body Tryz.prog [] {} true Tryz.f84 [I k] (.bl (hipP k) (Classical.propDecidable _)):=by
 unfold hipP
 by_cases h:k=6
 ·(repeat' first|refine ZR ?_|fail)
  (conv=>whnf)
  exact .inl h
 ·(repeat' first|refine ZR ?_|fail)
  (conv=>whnf)
  exact ⟨fun hh=>.inr hh,fun hh=>hh.resolve_left h⟩
def aHm:Con:=aI 84 true fun args K=>match args with | [.val (.int .i64 k)]=>K (.bl (hipP k) (Classical.propDecidable _)) | _=>False
theorem aRb:aG Tryz.prog aHm:=by
 refine aB rfl (enters_of Tryz.func84 (by kernel_rfl) rfl) ?_
 intro args K h
 simp only[aHm] at h
 split at h
 ·rename_i k;exact ⟨_,h,aA (by simp) Tryz.func84 (by simp[Tryz.ntmps84]) rfl (b3084 k)⟩
 ·exact h.elim
theorem b3079 (k:Int):body Tryz.prog [aHl] {} true Tryz.f79 [I k] (.bl (sloP k) (Classical.propDecidable _)):=by
 by_cases h:rafP k
 ·(repeat' first|refine ZR ?_|fail)
  (conv=>whnf)
  exact .inl h
 ·(repeat' first|refine ZR ?_|fail)
  (conv=>whnf)
  exact ⟨fun hh=>.inr hh,fun hh=>hh.resolve_left h⟩
def aHn:Con:=aI 79 true fun args K=>match args with | [.val (.int .i64 k)]=>K (.bl (sloP k) (Classical.propDecidable _)) | _=>False
theorem aRc:aG Tryz.prog aHn:=by
 refine aB rfl (enters_of Tryz.func79 (by kernel_rfl) rfl) ?_
 intro args K h
 simp only[aHn] at h
 split at h
 ·rename_i k;exact ⟨_,h,aA (by simp[aRa]) Tryz.func79 (by simp[Tryz.ntmps79]) rfl (b3079 k)⟩
 ·exact h.elim
theorem b3120 (k f o:Int) (a b c d e g:List UInt8) (w t:Int) (l:List (List UInt8 × List UInt8 × List UInt8)) (hh0:memE (k,f,o,(a,b,c),(d,e,g),w,t)=0∧∀s∈l,okS s):body Tryz.prog [aLf] { asks:=[(0,[])] } true Tryz.f120 [.agg [I k,I f,I o,S a,S b,S c,S d,S e,S g,I w,I t],.seq tSp l] (.tup [.bl (∃s,s∈l∧metP (k,f,o,(a,b,c),(d,e,g),w,t) s) (Classical.propDecidable _),I 0]):=by
 obtain ⟨h1,h2⟩:=hh0
 have hm:∀i,i<l.length→okS (l.getD i ([],[],[])):=fun i hi=>h2 _ (by rw[List.getD_eq_getElem?_getD,List.getElem?_eq_getElem hi];exact List.getElem_mem hi)
 (repeat'((conv=>whnf);first|refine Zg fun _=>?_|fail))
 refine Ask.mk ⟨{ X:=Nat,pre:=fun i=>i≤l.length∧∀j,j<i→¬metP (k,f,o,(a,b,c),(d,e,g),w,t) (l.getD j ([],[],[])),mod:=fun i _=>[(12,I i)],heap:=fun i H=>H,mu:=fun i=>l.length-i },rfl,?_⟩
 (repeat' first|refine ZG ?_|fail)
 refine ⟨⟨(0:Nat),⟨Nat.zero_le _,fun j hj=>by omega⟩,by (repeat' first|exact trivial|rfl|refine And.intro ?_ ?_)⟩,fun (i:Nat) hi=>?_⟩
 obtain ⟨hi,hp⟩:=hi
 by_cases hlt:i<l.length
 ·have hc:memE (k,f,o,(a,b,c),(d,e,g),w,t)=0∧okS ((l.getD i ([],[],[])).1,(l.getD i ([],[],[])).2.1,(l.getD i ([],[],[])).2.2):=⟨h1,hm i hlt⟩
  by_cases hb:metP (k,f,o,(a,b,c),(d,e,g),w,t) ((l.getD i ([],[],[])).1,(l.getD i ([],[],[])).2.1,(l.getD i ([],[],[])).2.2)
  ·have hx:∃s,s∈l∧metP (k,f,o,(a,b,c),(d,e,g),w,t) s:=⟨l.getD i ([],[],[]),by rw[List.getD_eq_getElem?_getD,List.getElem?_eq_getElem hlt];exact List.getElem_mem hlt,hb⟩
   generalize (∃s,s∈l∧metP (k,f,o,(a,b,c),(d,e,g),w,t) s)=Q at hx ⊢
   (repeat' first|refine ZR ?_|fail)
   (conv=>whnf)
   (repeat' first|exact trivial|rfl|refine And.intro ?_ ?_)
   all_goals first | exact hx | exact ⟨fun _=>hx,fun _=>hb⟩
  ·(repeat' first|refine ZR ?_|fail)
   refine ⟨(i+1:Nat),by show l.length-(i+1)<l.length-i;omega,⟨hlt,fun j hj=>?_⟩,by (repeat' first|exact trivial|rfl|refine And.intro ?_ ?_)⟩
   by_cases e:j=i
   ·subst e;exact hb
   ·exact hp j (by omega)
 ·have hx:¬ ∃s,s∈l∧metP (k,f,o,(a,b,c),(d,e,g),w,t) s:=by
   rintro ⟨s,hs,hq⟩
   obtain ⟨j,hj,rfl⟩:=List.getElem_of_mem hs
   have:=hp j (by omega)
   rw[List.getD_eq_getElem?_getD,List.getElem?_eq_getElem hj] at this
   exact this hq
  generalize (∃s,s∈l∧metP (k,f,o,(a,b,c),(d,e,g),w,t) s)=Q at hx ⊢
  (repeat' first|refine ZR ?_|fail)
  (conv=>whnf)
  (repeat' first|exact trivial|rfl|refine And.intro ?_ ?_)
  all_goals exact hx
def aHo:Con:=aI 120 true fun args K=>match args with | [.agg [.val (.int .i64 k),.val (.int .i64 f),.val (.int .i64 o),.str a,.str b,.str c,.str d,.str e,.str g,.val (.int .i64 w),.val (.int .i64 t)],.seq (.pair .str (.pair .str .str)) l]=>Need (memE (k,f,o,(a,b,c),(d,e,g),w,t)=0∧∀s∈l,okS s) (K (.tup [.bl (∃s,s∈l∧metP (k,f,o,(a,b,c),(d,e,g),w,t) s) (Classical.propDecidable _),I 0])) | _=>False
theorem aRd:aG Tryz.prog aHo:=by
 refine aB rfl (enters_of Tryz.func120 (by kernel_rfl) rfl) ?_
 intro args K h
 simp only[aHo] at h
 split at h
 ·rename_i k f o a b c d e g w t l;exact ⟨_,h.go,aA (by simp[k3153]) Tryz.func120 (by simp[Tryz.ntmps120]) rfl (b3120 k f o a b c d e g w t l h.ok)⟩
 ·exact h.elim
abbrev P2:=List UInt8 × List UInt8
theorem b3258 (a b:List UInt8):body Tryz.prog [c38] {} true Tryz.f258 [S a,S b] (I (cmpQ a b).1):=by
 (conv=>whnf)
 (repeat' first|rfl|refine And.intro ?_ ?_)
def aHs:Con:=aI 258 true fun args K=>match args with | [.str a,.str b]=>K (I (cmpQ a b).1) | _=>False
theorem aRi:aG Tryz.prog aHs:=by
 refine aB rfl (enters_of Tryz.func258 (by kernel_rfl) rfl) ?_
 intro args K h
 simp only[aHs] at h
 split at h
 ·rename_i a b;exact ⟨_,h,aA (by simp[k38]) Tryz.func258 (by simp[Tryz.ntmps258]) rfl (b3258 a b)⟩
 ·exact h.elim
theorem b3260 (a b r:List UInt8) (h:subQ a b=(r,0)):body Tryz.prog [c20n] {} true Tryz.f260 [S a,S b] (S r):=by
 (repeat' first|refine ZH ?_|fail)
 (conv=>whnf)
noncomputable def aLv:Con:=aI 260 true fun args K=>match args with | [.str a,.str b]=>Alt (Has (fun r:List UInt8=>subQ a b=(r,0)) fun r=>K (S r)) False | _=>False
theorem k3260:aG Tryz.prog aLv:=by
 refine aB rfl (enters_of Tryz.func260 (by kernel_rfl) rfl) ?_
 intro args K h
 simp only[aLv] at h
 split at h
 ·rename_i a b;rcases h.or with h | h
  ·obtain ⟨r,hp,hK⟩:=h.ex
   exact ⟨_,hK,aA (by simp[k20n]) Tryz.func260 (by simp[Tryz.ntmps260]) rfl (b3260 a b r hp)⟩
  ·exact h.elim
 ·exact h.elim
theorem b3259 (a b r:List UInt8) (h:mulQ a b=(r,0)):body Tryz.prog [c19n] {} true Tryz.f259 [S a,S b] (S r):=by
 (repeat' first|refine ZH ?_|fail)
 (conv=>whnf)
noncomputable def aLw:Con:=aI 259 true fun args K=>match args with | [.str a,.str b]=>Alt (Has (fun r:List UInt8=>mulQ a b=(r,0)) fun r=>K (S r)) False | _=>False
theorem k3259:aG Tryz.prog aLw:=by
 refine aB rfl (enters_of Tryz.func259 (by kernel_rfl) rfl) ?_
 intro args K h
 simp only[aLw] at h
 split at h
 ·rename_i a b;rcases h.or with h | h
  ·obtain ⟨r,hp,hK⟩:=h.ex
   exact ⟨_,hK,aA (by simp[k19n]) Tryz.func259 (by simp[Tryz.ntmps259]) rfl (b3259 a b r hp)⟩
  ·exact h.elim
 ·exact h.elim
def yW (a b c:P2) (n:Int):Prop:=∃p1 p2 q1 q2 x y,subQ b.1 a.1=(p1,0)∧subQ c.2 a.2=(p2,0)∧subQ b.2 a.2=(q1,0)∧subQ c.1 a.1=(q2,0)∧mulQ p1 p2=(x,0)∧mulQ q1 q2=(y,0)∧n=(cmpQ x y).1
theorem b3206 (a1 a2 b1 b2 d1 d2:List UInt8) (r:Int) (h:yW (a1,a2) (b1,b2) (d1,d2) r):body Tryz.prog [aLv,aLw,aHs] {} true Tryz.f206 [.agg [S a1,S a2],.agg [S b1,S b2],.agg [S d1,S d2]] (I r):=by
 obtain ⟨p1,p2,q1,q2,x,y,h1,h2,h3,h4,h5,h6,rfl⟩:=h
 dsimp only at h1 h2 h3 h4
 (repeat'((conv=>whnf);first|refine .h ?_|(apply Pin.mk;apply Exists.intro)|apply Pinned.mk rfl rfl|fail))
 (conv=>whnf)
 (repeat' first|rfl|refine And.intro ?_ ?_)
noncomputable def aLx:Con:=aI 206 true fun args K=>match args with | [.agg [.str a1,.str a2],.agg [.str b1,.str b2],.agg [.str d1,.str d2]]=>Alt (Has (fun r:Int=>yW (a1,a2) (b1,b2) (d1,d2) r) fun r=>K (I r)) False | _=>False
theorem k3206:aG Tryz.prog aLx:=by
 refine aB rfl (enters_of Tryz.func206 (by kernel_rfl) rfl) ?_
 intro args K h
 simp only[aLx] at h
 split at h
 ·rename_i a1 a2 b1 b2 d1 d2;rcases h.or with h | h
  ·obtain ⟨r,hp,hK⟩:=h.ex
   exact ⟨_,hK,aA (by simp[k3260,k3259,aRi]) Tryz.func206 (by simp[Tryz.ntmps206]) rfl (b3206 a1 a2 b1 b2 d1 d2 r hp)⟩
  ·exact h.elim
 ·exact h.elim
noncomputable def ordS (p q:P2):Int:=if (cmpQ p.1 q.1).1≠0 then (cmpQ p.1 q.1).1 else (cmpQ p.2 q.2).1
theorem b3209 (a1 a2 b1 b2:List UInt8):body Tryz.prog [aHs] {} true Tryz.f209 [.agg [S a1,S a2],.agg [S b1,S b2]] (I (ordS (a1,a2) (b1,b2))):=by
 by_cases h:(cmpQ a1 b1).1=0
 ·have e:ordS (a1,a2) (b1,b2)=(cmpQ a2 b2).1:=if_neg (not_not_intro h)
  rw[e]
  (repeat' first|refine ZR ?_|fail)
  (conv=>whnf)
  (repeat' first|rfl|refine And.intro ?_ ?_)
 ·have e:ordS (a1,a2) (b1,b2)=(cmpQ a1 b1).1:=if_pos h
  rw[e]
  (repeat' first|refine ZR ?_|fail)
  (conv=>whnf)
  (repeat' first|rfl|refine And.intro ?_ ?_)
def aCx:Con:=aI 209 true fun args K=>match args with | [.agg [.str a1,.str a2],.agg [.str b1,.str b2]]=>K (I (ordS (a1,a2) (b1,b2))) | _=>False
theorem aLy:aG Tryz.prog aCx:=by
 refine aB rfl (enters_of Tryz.func209 (by kernel_rfl) rfl) ?_
 intro args K h
 simp only[aCx] at h
 split at h
 ·rename_i a1 a2 b1 b2;exact ⟨_,h,aA (by simp[aRi]) Tryz.func209 (by simp[Tryz.ntmps209]) rfl (b3209 a1 a2 b1 b2)⟩
 ·exact h.elim
noncomputable def loS (a b:P2):P2:=if 0<ordS a b then b else a
noncomputable def hiS (a b:P2):P2:=if 0<ordS a b then a else b
theorem b3207 (a1 a2 b1 b2:List UInt8) (r:P2) (h:r=loS (a1,a2) (b1,b2)):body Tryz.prog [aCx] {} true Tryz.f207 [.agg [S a1,S a2,S b1,S b2]] (.agg [S r.1,S r.2]):=by
 by_cases hc:0<ordS (a1,a2) (b1,b2)
 ·have e:r=(b1,b2):=h.trans (if_pos hc)
  subst e
  (repeat' first|refine ZR ?_|fail)
  (conv=>whnf)
  (repeat' first|exact trivial|rfl|refine And.intro ?_ ?_)
 ·have e:r=(a1,a2):=h.trans (if_neg hc)
  subst e
  (repeat' first|refine ZR ?_|fail)
  (conv=>whnf)
  (repeat' first|exact trivial|rfl|refine And.intro ?_ ?_)
noncomputable def aLz:Con:=aI 207 true fun args K=>match args with | [.agg [.str a1,.str a2,.str b1,.str b2]]=>Alt (Has (fun r:P2=>r=loS (a1,a2) (b1,b2)) fun r=>K (.agg [S r.1,S r.2])) False | _=>False
theorem k3207:aG Tryz.prog aLz:=by
 refine aB rfl (enters_of Tryz.func207 (by kernel_rfl) rfl) ?_
 intro args K h
 simp only[aLz] at h
 split at h
 ·rename_i a1 a2 b1 b2;rcases h.or with h | h
  ·obtain ⟨r,hp,hK⟩:=h.ex
   exact ⟨_,hK,aA (by simp[aLy]) Tryz.func207 (by simp[Tryz.ntmps207]) rfl (b3207 a1 a2 b1 b2 r hp)⟩
  ·exact h.elim
 ·exact h.elim
theorem b3208 (a1 a2 b1 b2:List UInt8) (r:P2) (h:r=hiS (a1,a2) (b1,b2)):body Tryz.prog [aCx] {} true Tryz.f208 [.agg [S a1,S a2,S b1,S b2]] (.agg [S r.1,S r.2]):=by
 by_cases hc:0<ordS (a1,a2) (b1,b2)
 ·have e:r=(a1,a2):=h.trans (if_pos hc)
  subst e
  (repeat' first|refine ZR ?_|fail)
  (conv=>whnf)
  (repeat' first|exact trivial|rfl|refine And.intro ?_ ?_)
 ·have e:r=(b1,b2):=h.trans (if_neg hc)
  subst e
  (repeat' first|refine ZR ?_|fail)
  (conv=>whnf)
  (repeat' first|exact trivial|rfl|refine And.intro ?_ ?_)
noncomputable def aL0:Con:=aI 208 true fun args K=>match args with | [.agg [.str a1,.str a2,.str b1,.str b2]]=>Alt (Has (fun r:P2=>r=hiS (a1,a2) (b1,b2)) fun r=>K (.agg [S r.1,S r.2])) False | _=>False
theorem k3208:aG Tryz.prog aL0:=by
 refine aB rfl (enters_of Tryz.func208 (by kernel_rfl) rfl) ?_
 intro args K h
 simp only[aL0] at h
 split at h
 ·rename_i a1 a2 b1 b2;rcases h.or with h | h
  ·obtain ⟨r,hp,hK⟩:=h.ex
   exact ⟨_,hK,aA (by simp[aLy]) Tryz.func208 (by simp[Tryz.ntmps208]) rfl (b3208 a1 a2 b1 b2 r hp)⟩
  ·exact h.elim
 ·exact h.elim
noncomputable def mgS (a b q:P2) (t:Int):Int:=
 if t≠0 then 0 else 1-ordS (if 0<ordS q (loS a b) then q else loS a b) (if ordS q (hiS a b)<0 then q else hiS a b)
def mgOK (a b q:P2) (r:Int):Prop:=∃t,yW a b q t∧yW q q a 0∧yW q q b 0∧r=mgS a b q t
theorem oP (a b:List UInt8): -1≤(cmpQ a b).1∧(cmpQ a b).1≤1:=by
 have z:(-1:Int)≤0∧(0:Int)≤1:=by decide
 unfold cmpQ
 split
 ·exact z
 ·split
  ·exact z
  ·unfold cmpf
   split
   ·exact z
   ·unfold cmpI
    dsimp only
    split
    ·exact ⟨by decide,by decide⟩
    ·split
     ·exact ⟨by decide,by decide⟩
     ·exact ⟨by decide,by decide⟩
theorem kJ (a b:P2): -1≤ordS a b∧ordS a b≤1:=by
 unfold ordS
 split
 ·exact oP _ _
 ·exact oP _ _
theorem aL1 (q:P2):loS q q=q:=by unfold loS;split<;>rfl
theorem aL2 (q:P2):hiS q q=q:=by unfold hiS;split<;>rfl
theorem b3155 (a1 a2 b1 b2 d1 d2 e1 e2:List UInt8) (h0:e1=d1∧e2=d2) (r:Int) (h:mgOK (a1,a2) (b1,b2) (d1,d2) r):body Tryz.prog [aLx,aLz,aL0,aCx] {} true Tryz.f155 [.agg [S a1,S a2,S b1,S b2],.agg [S d1,S d2,S e1,S e2]] (I r):=by
 obtain ⟨rfl,rfl⟩:=h0
 obtain ⟨t,h1,h2,h3,rfl⟩:=h
 have ht: -1≤t∧t≤1:=by
  obtain ⟨p1,p2,q1,q2,x,y,_,_,_,_,_,_,rfl⟩:=h1
  exact oP _ _
 by_cases hz:t=0
 ·have e:mgS (a1,a2) (b1,b2) (e1,e2) t=1-ordS (if 0<ordS (e1,e2) (loS (a1,a2) (b1,b2)) then (e1,e2) else loS (a1,a2) (b1,b2)) (if ordS (e1,e2) (hiS (a1,a2) (b1,b2))<0 then (e1,e2) else hiS (a1,a2) (b1,b2)):=if_neg (not_not_intro hz)
  rw[e]
  have q1:((e1,e2):P2)=loS (e1,e2) (e1,e2):=(aL1 _).symm
  have q2:((e1,e2):P2)=hiS (e1,e2) (e1,e2):=(aL2 _).symm
  obtain ⟨L,hL⟩:∃L,L=loS (a1,a2) (b1,b2):=⟨_,rfl⟩
  obtain ⟨U,hU⟩:∃U,U=hiS (a1,a2) (b1,b2):=⟨_,rfl⟩
  rw[← hL,← hU]
  obtain ⟨L1,L2⟩:=L
  obtain ⟨U1,U2⟩:=U
  clear e
  subst hz
  by_cases c1:0<ordS (e1,e2) (L1,L2)
  ·rw[if_pos c1]
   by_cases c2:ordS (e1,e2) (U1,U2)<0
   ·rw[if_pos c2]
    have hr:=kJ (e1,e2) (e1,e2)
    (repeat'((conv=>whnf);first|refine .h ?_|refine Zn ?_|(apply Pin.mk;apply Exists.intro)|apply Pinned.mk rfl rfl|exact Zf|refine Zc ?_ ?_|refine Zy ?_|refine Zm ?_|fail))
    (conv=>whnf)
    (repeat' first|rfl|refine And.intro ?_ ?_)
   ·rw[if_neg c2]
    have hr:=kJ (e1,e2) (U1,U2)
    (repeat'((conv=>whnf);first|refine .h ?_|refine Zn ?_|(apply Pin.mk;apply Exists.intro)|apply Pinned.mk rfl rfl|exact Zf|refine Zc ?_ ?_|refine Zy ?_|refine Zm ?_|fail))
    (conv=>whnf)
    (repeat' first|rfl|refine And.intro ?_ ?_)
  ·rw[if_neg c1]
   by_cases c2:ordS (e1,e2) (U1,U2)<0
   ·rw[if_pos c2]
    have hr:=kJ (L1,L2) (e1,e2)
    (repeat'((conv=>whnf);first|refine .h ?_|refine Zn ?_|(apply Pin.mk;apply Exists.intro)|apply Pinned.mk rfl rfl|exact Zf|refine Zc ?_ ?_|refine Zy ?_|refine Zm ?_|fail))
    (conv=>whnf)
    (repeat' first|rfl|refine And.intro ?_ ?_)
   ·rw[if_neg c2]
    have hr:=kJ (L1,L2) (U1,U2)
    (repeat'((conv=>whnf);first|refine .h ?_|refine Zn ?_|(apply Pin.mk;apply Exists.intro)|apply Pinned.mk rfl rfl|exact Zf|refine Zc ?_ ?_|refine Zm ?_|fail))
    (conv=>whnf)
    (repeat' first|rfl|refine And.intro ?_ ?_)
 ·have e:mgS (a1,a2) (b1,b2) (e1,e2) t=0:=if_pos hz
  rw[e]
  have hm:¬t*t≤0:=by
   have:t=1∨t= -1:=by omega
   rcases this with rfl | rfl<;>decide
  have hm2: -9223372036854775808≤t*t∧t*t≤9223372036854775807:=by
   have:t=1∨t= -1:=by omega
   rcases this with rfl | rfl<;>decide
  (repeat'((conv=>whnf);first|refine .h ?_|refine Zn ?_|(apply Pin.mk;apply Exists.intro)|apply Pinned.mk rfl rfl|refine Zy ?_|refine Zm ?_|fail))
  (conv=>whnf)
  (repeat' first|rfl|refine And.intro ?_ ?_)
noncomputable def aL3:Con:=aI 155 true fun args K=>match args with
 | [.agg [.str a1,.str a2,.str b1,.str b2],.agg [.str d1,.str d2,.str e1,.str e2]]=>Need (e1=d1∧e2=d2) (Alt (Has (fun r:Int=>mgOK (a1,a2) (b1,b2) (d1,d2) r) fun r=>K (I r)) False)
 | _=>False
theorem k3155:aG Tryz.prog aL3:=by
 refine aB rfl (enters_of Tryz.func155 (by kernel_rfl) rfl) ?_
 intro args K h
 simp only[aL3] at h
 split at h
 ·rename_i a1 a2 b1 b2 d1 d2 e1 e2
  rcases h.go.or with hk | hk
  ·obtain ⟨r,hp,hK⟩:=hk.ex
   exact ⟨_,hK,aA (by simp[k3206,k3207,k3208,aLy]) Tryz.func155 (by simp[Tryz.ntmps155]) rfl (b3155 a1 a2 b1 b2 d1 d2 e1 e2 h.ok r hp)⟩
  ·exact hk.elim
 ·exact h.elim
theorem b3205 (a:List UInt8) (h:chkQ a=0∧dK 36 (valQ a)):body Tryz.prog [yR,c88] {} true Tryz.f205 [S a] (I 0):=by
 obtain ⟨h,hd⟩:=h
 have e:=aHf h
 have hi:=aAw (k:=36) (a:=a)
 have hb:max ((digs (ptQ a).1).length:Int) ((ptQ a).2.length:Int)≤36:=by rw[e];exact hi.2 hd
 have hb':¬36<max ((digs (ptQ a).1).length:Int) ((ptQ a).2.length:Int):=Int.not_lt.2 hb
 (repeat' first|refine ZR ?_|refine Zg fun _=>?_)
 (conv=>whnf)
 (repeat' first|rfl|refine And.intro ?_ ?_)
def aL4:Con:=aI 205 true fun args K=>match args with | [.str a]=>Need (chkQ a=0∧dK 36 (valQ a)) (K (I 0)) | _=>False
theorem k3205:aG Tryz.prog aL4:=by
 refine aB rfl (enters_of Tryz.func205 (by kernel_rfl) rfl) ?_
 intro args K h
 simp only[aL4] at h
 split at h
 ·rename_i a;exact ⟨_,h.go,aA (by simp[aHc,k88]) Tryz.func205 (by simp[Tryz.ntmps205]) rfl (b3205 a h.ok)⟩
 ·exact h.elim
def okP (p:P2):Prop:=(chkQ p.1=0∧dK 36 (valQ p.1))∧chkQ p.2=0∧dK 36 (valQ p.2)
theorem b3154 (a b:List UInt8) (h:okP (a,b)):body Tryz.prog [c21,aL4] {} true Tryz.f154 [.agg [S a,S b]] (I 0):=by
 obtain ⟨⟨h1,h2⟩,h3,h4⟩:=h
 dsimp only at h1 h2 h3 h4
 have j1:chkQ a=0∧dK 36 (valQ a):=⟨h1,h2⟩
 have j2:chkQ b=0∧dK 36 (valQ b):=⟨h3,h4⟩
 (repeat'((conv=>whnf);first|refine Zn ?_|refine Z0 ?_|refine Z1 ?_|(apply Pin.mk;apply Exists.intro)|apply Pinned.mk rfl rfl|refine Zy ?_|refine Zm ?_|fail))
 (conv=>whnf)
 (repeat' first|rfl|refine And.intro ?_ ?_)
def aL5:Con:=aI 154 true fun args K=>match args with | [.agg [.str a,.str b]]=>Need (okP (a,b)) (K (I 0)) | _=>False
theorem k3154:aG Tryz.prog aL5:=by
 refine aB rfl (enters_of Tryz.func154 (by kernel_rfl) rfl) ?_
 intro args K h
 simp only[aL5] at h
 split at h
 ·rename_i a b;exact ⟨_,h.go,aA (by simp[k21,k3205]) Tryz.func154 (by simp[Tryz.ntmps154]) rfl (b3154 a b h.ok)⟩
 ·exact h.elim
theorem b3122 (a1 a2 b1 b2 d1 d2 e1 e2:List UInt8) (h0:(e1=d1∧e2=d2)∧okP (a1,a2)∧okP (b1,b2)∧okP (d1,d2)) (r:Int) (h:mgOK (a1,a2) (b1,b2) (d1,d2) r):body Tryz.prog [aL5,aL3] {} true Tryz.f122 [.agg [S a1,S a2],.agg [S b1,S b2],.agg [S d1,S d2],.agg [S e1,S e2]] (.tup [I r,I 0]):=by
 obtain ⟨⟨rfl,rfl⟩,g1,g2,g3⟩:=h0
 have g4:e1=e1∧e2=e2:=⟨rfl,rfl⟩
 (repeat' first|refine ZH ?_|fail)
 (conv=>whnf)
 (repeat' first|exact trivial|rfl|refine And.intro ?_ ?_)
noncomputable def aL6:Con:=aI 122 true fun args K=>match args with
 | [.agg [.str a1,.str a2],.agg [.str b1,.str b2],.agg [.str d1,.str d2],.agg [.str e1,.str e2]]=>Need ((e1=d1∧e2=d2)∧okP (a1,a2)∧okP (b1,b2)∧okP (d1,d2)) (Alt (Has (fun r:Int=>mgOK (a1,a2) (b1,b2) (d1,d2) r) fun r=>K (.tup [I r,I 0])) False)
 | _=>False
theorem k3122:aG Tryz.prog aL6:=by
 refine aB rfl (enters_of Tryz.func122 (by kernel_rfl) rfl) ?_
 intro args K h
 simp only[aL6] at h
 split at h
 ·rename_i a1 a2 b1 b2 d1 d2 e1 e2
  rcases h.go.or with hk | hk
  ·obtain ⟨r,hp,hK⟩:=hk.ex
   exact ⟨_,hK,aA (by simp[k3154,k3155]) Tryz.func122 (by simp[Tryz.ntmps122]) rfl (b3122 a1 a2 b1 b2 d1 d2 e1 e2 h.ok r hp)⟩
  ·exact hk.elim
 ·exact h.elim
end RB
end
section
open Go Go.Proofs Go.Eng Go.Shelf
namespace EB
abbrev I (n:Int):SV:=.val (.int .i64 n)
abbrev Ls (xs:List Int):SV:=.seq (.int .i64) xs
abbrev Two:Ty:=.pair (.int .i64) (.int .i64)
abbrev Ps (xs:List (Int × Int)):SV:=.seq Two xs
theorem cF {n:Int} {C:Nat→Prop} (j:Nat) (e:n=(j:Int)) (h:C j):Ix n C:=by
 refine ⟨fun i e'=>?_⟩
 have:j=i:=by omega
 subst this;exact h
def hasW (ws:List Int) (i:Int):Prop:=i/64<(ws.length:Int)∧mA .and .u64 (shrI .u64 (ws.getD (i/64).toNat 0) (i%64)) 1=1
instance (ws:List Int) (i:Int):Decidable (hasW ws i):=by unfold hasW;exact inferInstance
def putW (ws:List Int) (i:Int):List Int:=ws.set (i/64).toNat (mA .or .u64 (ws.getD (i/64).toNat 0) (shlI .u64 1 (i%64)))
def aRq (ws:List Int) (i:Int):List Int:=ws.set (i/64).toNat (mA .andNot .u64 (ws.getD (i/64).toNat 0) (shlI .u64 1 (i%64)))
def aR6 (ws:List Int) (k:Nat):List Int:=((List.range k).filter fun (i:Nat)=>decide (hasW ws i)).map fun (i:Nat)=>(i:Int)
def lM (l:List (Int × Int)) (k m:Nat):List Int:=((l.take k).filter fun r=>decide (r.1=(m:Int)∧0≤r.2)).map (·.2)
def onN (n:Nat) (l:List (Int × Int)) (k:Nat):List (List Int):=(List.range n).map (lM l k)
def jR (l:List (Int × Int)) (k m:Nat):Bool:=(l.take k).any fun r=>decide (r.1=(m:Int))
def jA (n:Nat) (l:List (Int × Int)) (k:Nat):List Bool:=(List.range n).map (jR l k)
theorem aA1 (n:Nat) (l:List (Int × Int)) (k:Nat):(onN n l k).length=n:=by simp[onN]
theorem rI (n:Nat) (l:List (Int × Int)) (k:Nat):(jA n l k).length=n:=by simp[jA]
theorem tZ (n:Nat) (l:List (Int × Int)) (k m:Nat) (h:m<n):(onN n l k).getD m []=lM l k m:=by
 simp[onN,List.getD_eq_getElem?_getD,h]
theorem aJq (n:Nat) (l:List (Int × Int)) (k m:Nat) (h:m<n):(jA n l k).getD m false=jR l k m:=by
 simp[jA,List.getD_eq_getElem?_getD,h]
theorem aMx (n:Nat) (l:List (Int × Int)):onN n l 0=List.replicate n []:=by
 apply List.ext_getElem<;>simp[onN,lM]
theorem aFl (n:Nat) (l:List (Int × Int)):jA n l 0=List.replicate n false:=by
 apply List.ext_getElem<;>simp[jA,jR]
theorem yZ (l:List (Int × Int)) (k:Nat) (h:k<l.length):l.take (k+1)=l.take k++ [l.getD k (0,0)]:=by
 rw[List.take_succ_eq_append_getElem h];simp[List.getD_eq_getElem?_getD,h]
theorem zA (l:List (Int × Int)) (k m:Nat):(lM l k m).length≤l.length:=by
 unfold lM
 rw[List.length_map]
 refine Nat.le_trans (List.length_filter_le _ _) ?_
 rw[List.length_take];omega
theorem oQ (l:List (Int × Int)) (k m:Nat) (h:k<l.length):lM l (k+1) m=if (l.getD k (0,0)).1=(m:Int)∧0≤(l.getD k (0,0)).2 then lM l k m++ [(l.getD k (0,0)).2] else lM l k m:=by
 unfold lM
 rw[yZ l k h,List.filter_append,List.map_append]
 by_cases e:(l.getD k (0,0)).1=(m:Int)∧0≤(l.getD k (0,0)).2
 ·rw[if_pos e];simp only[List.filter_cons,decide_eq_true e];rfl
 ·rw[if_neg e];simp only[List.filter_cons,decide_eq_false e];simp
theorem uR (l:List (Int × Int)) (k m:Nat) (h:k<l.length):jR l (k+1) m=(jR l k m || decide ((l.getD k (0,0)).1=(m:Int))):=by
 unfold jR
 rw[yZ l k h,List.any_append];simp
theorem aMy (n:Nat) (l:List (Int × Int)) (k:Nat) (h:k<l.length) (h2:¬0≤(l.getD k (0,0)).2):onN n l (k+1)=onN n l k:=by
 unfold onN
 refine List.map_congr_left fun m _=>?_
 rw[oQ l k m h,if_neg fun e=>h2 e.2]
theorem aMz (n:Nat) (l:List (Int × Int)) (k u:Nat) (h:k<l.length) (hu:(l.getD k (0,0)).1=(u:Int)) (h2:0≤(l.getD k (0,0)).2) (hun:u<n):(onN n l k).set u ((onN n l k).getD u []++ [(l.getD k (0,0)).2])=onN n l (k+1):=by
 apply List.ext_getElem?
 intro m
 rw[List.getElem?_set,aA1,tZ _ _ _ _ hun]
 by_cases e:u=m
 ·subst e
  simp only[if_true,if_pos hun,onN,List.getElem?_map,List.getElem?_range hun,Option.map_some]
  rw[oQ l k u h,if_pos ⟨hu,h2⟩]
 ·rw[if_neg e]
  simp only[onN,List.getElem?_map]
  cases hm:(List.range n)[m]? with
  | none=>rfl
  | some j=>
   have hj:j=m:=by
    have:=List.getElem?_eq_some_iff.1 hm
    obtain ⟨h1,h2⟩:=this
    simpa using h2.symm
   subst hj
   simp only[Option.map_some]
   rw[oQ l k j h,if_neg (by rintro ⟨h1,_⟩;omega)]
theorem aFm (n:Nat) (l:List (Int × Int)) (k u:Nat) (h:k<l.length) (hu:(l.getD k (0,0)).1=(u:Int)) (hun:u<n):(jA n l k).set u true=jA n l (k+1):=by
 apply List.ext_getElem?
 intro m
 rw[List.getElem?_set,rI]
 by_cases e:u=m
 ·subst e
  simp only[if_true,if_pos hun,jA,List.getElem?_map,List.getElem?_range hun,Option.map_some]
  rw[uR l k u h,decide_eq_true hu,Bool.or_true]
 ·rw[if_neg e]
  simp only[jA,List.getElem?_map]
  cases hm:(List.range n)[m]? with
  | none=>rfl
  | some j=>
   have hj:j=m:=by
    have:=List.getElem?_eq_some_iff.1 hm
    obtain ⟨h1,h2⟩:=this
    simpa using h2.symm
   subst hj
   simp only[Option.map_some]
   rw[uR l k j h,decide_eq_false (by omega),Bool.or_false]
def pQ (n:Int) (l:List (Int × Int)):Prop:=l.length≤4096∧0≤n∧n≤512∧∀i,i<l.length→0≤(l.getD i (0,0)).1∧(l.getD i (0,0)).1<n∧ -1≤(l.getD i (0,0)).2∧(l.getD i (0,0)).2<n
def pR {α:Type} (p:α→Bool) (xs:List α):Int:=match xs.findIdx? p with
 | some i=>i
 | none=> -1
theorem aFn {α:Type} {p:α→Bool} {xs:List α} (d:α) (h:∀j,j<xs.length→p (xs.getD j d)=false):pR p xs= -1:=by
 have:xs.findIdx? p=none:=by
  rw[List.findIdx?_eq_none_iff]
  intro x hx
  obtain ⟨j,hj,rfl⟩:=List.getElem_of_mem hx
  have:=h j hj
  simpa [List.getD_eq_getElem?_getD,hj] using this
 simp[pR,this]
theorem aFo {α:Type} {p:α→Bool} {xs:List α} (d:α) {i:Nat} (hi:i<xs.length) (hp:p (xs.getD i d)=true) (h:∀j,j<i→p (xs.getD j d)=false):pR p xs=i:=by
 have:xs.findIdx? p=some i:=by
  rw[List.findIdx?_eq_some_iff_getElem]
  refine ⟨hi,by simpa [List.getD_eq_getElem?_getD,hi] using hp,fun j hj=>?_⟩
  have:=h j hj
  have hj':j<xs.length:=by omega
  simpa [List.getD_eq_getElem?_getD,hj'] using this
 simp[pR,this]
theorem aJr {α:Type} (p:α→Bool) (xs:List α):0≤pR p xs↔xs.any p=true:=by
 unfold pR
 cases h:xs.findIdx? p with
 | none=>
  rw[List.findIdx?_eq_none_iff] at h
  simp only
  constructor
  ·intro h;omega
  ·intro h2
   rw[List.any_eq_true] at h2
   obtain ⟨x,hx,hp⟩:=h2
   rw[h x hx] at hp;cases hp
 | some i=>
  rw[List.findIdx?_eq_some_iff_getElem] at h
  obtain ⟨hi,hp,_⟩:=h
  simp only
  constructor
  ·intro _
   rw[List.any_eq_true]
   exact ⟨_,List.getElem_mem hi,hp⟩
  ·intro _;omega
def anIx {α:Type} (t:Nat) (p:α→Bool) (xs:List α) (d:α):Ann:={ X:=Nat,pre:=fun i=>i≤xs.length∧∀j,j<i→p (xs.getD j d)=false,mod:=fun i _=>[(t,I i)],mu:=fun i=>xs.length-i }
def lackP (ws:List Int) (k:Int):Bool:=decide (¬hasW ws k)
def rJ (on:List (List Int)) (ws:List Int) (i:Int):Prop:=¬hasW ws i∧¬(on.getD i.toNat []).any (lackP ws)=true
instance (on:List (List Int)) (ws:List Int) (i:Int):Decidable (rJ on ws i):=by unfold rJ;exact inferInstance
def cmpI (a b:Int):Int:=if a<b then -1 else if b<a then 1 else 0
def orI:List Int→Int
 | []=>0
 | x::r=>if x=0 then orI r else x
theorem aM3 (xs:List Int) (i:Nat) (hi:i<xs.length) (hx:xs.getD i 0≠0) (h:∀j,j<i→xs.getD j 0=0):orI xs=xs.getD i 0:=by
 induction xs generalizing i with
 | nil=>simp at hi
 | cons x r ih=>
  cases i with
  | zero=>simp at hx;simp[orI,hx]
  | succ i=>
   have h0:x=0:=by simpa using h 0 (by omega)
   have:=ih i (by simpa using hi) (by simpa using hx) (fun j hj=>by simpa using h (j+1) (by omega))
   simp[orI,h0,this]
theorem aC4 (xs:List Int) (h:∀j,j<xs.length→xs.getD j 0=0):orI xs=0:=by
 induction xs with
 | nil=>rfl
 | cons x r ih=>
  have h0:x=0:=by simpa using h 0 (by simp)
  simp only[orI,h0,if_true]
  exact ih fun j hj=>by simpa using h (j+1) (by simpa using hj)
theorem b74 (a:Int):body Tryz.prog [] {} true Tryz.f99 [I a] (.val (.bool false)):=by
 (conv=>whnf)
 simp
def c74:Con:=aI 99 true fun args K=>match args with | [.val (.int .i64 a)]=>K (.val (.bool false)) | _=>False
theorem k74:aG Tryz.prog c74:=by
 refine aB rfl (enters_of Tryz.func99 (by kernel_rfl) rfl) ?_
 intro args K h
 simp only[c74] at h
 split at h
 ·rename_i a;exact ⟨_,h,aA (by simp) Tryz.func99 (by simp[Tryz.ntmps99]) rfl (b74 a)⟩
 ·exact h.elim
theorem b68 (a b:Int):body Tryz.prog [c74] {} true Tryz.f64 [I a,I b] (I (cmpI a b)):=by
 (refine Br.mk (fun _=>?_) (fun _=>?_))
 ·rename_i h
  (conv=>whnf)
  exact ⟨rfl,(if_pos h).symm⟩
 ·rename_i h
  (refine Br.mk (fun _=>?_) (fun _=>?_))
  ·rename_i h2
   (conv=>whnf)
   exact ⟨rfl,by unfold cmpI;rw[if_neg h,if_pos h2]⟩
  ·rename_i h2
   (conv=>whnf)
   exact ⟨rfl,by unfold cmpI;rw[if_neg h,if_neg h2]⟩
def c68:Con:=aI 64 true fun args K=>match args with | [.val (.int .i64 a),.val (.int .i64 b)]=>K (I (cmpI a b)) | _=>False
theorem k68:aG Tryz.prog c68:=by
 refine aB rfl (enters_of Tryz.func64 (by kernel_rfl) rfl) ?_
 intro args K h
 simp only[c68] at h
 split at h
 ·rename_i a b;exact ⟨_,h,aA (by simp[k74]) Tryz.func64 (by simp[Tryz.ntmps64]) rfl (b68 a b)⟩
 ·exact h.elim
theorem b67 (xs:List Int):body Tryz.prog [] { loops:=[(0,{ X:=Nat,pre:=fun i=>i≤xs.length∧∀j,j<i→xs.getD j 0=0,mod:=fun i _=>[(8,I i)],mu:=fun i=>xs.length-i })] } true Tryz.f63 [Ls xs] (I (orI xs)):=by
 (repeat' first|refine ZG ?_|refine Zg fun _=>?_)
 refine ⟨⟨(0:Nat),⟨Nat.zero_le _,by omega⟩,by (repeat' first|exact trivial|rfl|refine And.intro ?_ ?_)⟩,fun (i:Nat) hi=>?_⟩
 obtain ⟨hi,hb⟩:=hi
 (refine Br.mk (fun _=>?_) (fun _=>?_))
 ·have hlt:i<xs.length:=by omega
  (repeat' first|refine ZG ?_|refine Zg fun _=>?_)
  (refine Br.mk (fun _=>?_) (fun _=>?_))
  ·rename_i hh
   (conv=>whnf)
   exact ⟨rfl,(aM3 xs i hlt hh hb).symm⟩
  ·rename_i hh
   (repeat' first|refine ZG ?_|fail)
   refine ⟨(i+1:Nat),by show xs.length-(i+1)<xs.length-i;omega,⟨hlt,fun j hj=>?_⟩,by (repeat' first|exact trivial|rfl|refine And.intro ?_ ?_)⟩
   by_cases e:j=i
   ·subst e;omega
   ·exact hb j (by omega)
 ·have hii:i=xs.length:=by omega
  subst hii
  (conv=>whnf)
  exact ⟨rfl,(aC4 xs hb).symm⟩
def c67:Con:=aI 63 true fun args K=>match args with | [.seq (.int .i64) xs]=>K (I (orI xs)) | _=>False
theorem k67:aG Tryz.prog c67:=by
 refine aB rfl (enters_of Tryz.func63 (by kernel_rfl) rfl) ?_
 intro args K h
 simp only[c67] at h
 split at h
 ·rename_i xs;exact ⟨_,h,aA (by simp) Tryz.func63 (by simp[Tryz.ntmps63]) rfl (b67 xs)⟩
 ·exact h.elim
def rK (f:Nat→Int) (m:Nat):Int:=orI ((List.range m).map f)
theorem sT {f:Nat→Int} {m i:Nat} (hi:i<m) (hf:f i≠0) (h:∀j,j<i→f j=0):rK f m=f i:=by
 have e:∀j,j<m→((List.range m).map f).getD j 0=f j:=fun j hj=>by simp[List.getD_eq_getElem?_getD,hj]
 unfold rK
 rw[aM3 _ i (by simpa using hi) (by rw[e i hi];exact hf) (fun j hj=>by rw[e j (by omega)];exact h j hj),e i hi]
theorem firstE_none {f:Nat→Int} {m:Nat} (h:∀j,j<m→f j=0):rK f m=0:=by
 unfold rK
 refine aC4 _ fun j hj=>?_
 have hj:j<m:=by simpa using hj
 simpa [List.getD_eq_getElem?_getD,hj] using h j hj
def supAt (n:Int) (l:List (Int × Int)) (k:Nat):Int:=
 if (l.getD k (0,0)).1<0∨n≤(l.getD k (0,0)).1∨(l.getD k (0,0)).2 < -1∨n≤(l.getD k (0,0)).2 then 2
 else if (l.getD k (0,0)).1=(l.getD k (0,0)).2 then 27
 else if 0<k∧0≤orI [cmpI (l.getD (k-1) (0,0)).1 (l.getD k (0,0)).1,cmpI (l.getD (k-1) (0,0)).2 (l.getD k (0,0)).2] then 10 else 0
def supE (n:Int) (l:List (Int × Int)):Int:=if n<0∨512<n then 2 else if 4096<l.length then 4 else rK (supAt n l) l.length
theorem supE_out {n:Int} {l:List (Int × Int)} (h:n<0∨512<n):2=supE n l:=by unfold supE;rw[if_pos h]
theorem supE_long {n:Int} {l:List (Int × Int)} (h:¬n<0) (h2:¬512<n) (h3:4096<(l.length:Int)):4=supE n l:=by unfold supE;rw[if_neg (by omega),if_pos (by omega)]
theorem supE_at {n:Int} {l:List (Int × Int)} (h:¬n<0) (h2:¬512<n) (h3:¬4096<(l.length:Int)) {i:Nat} (hi:i<l.length) (hb:∀j,j<i→supAt n l j=0) {v:Int} (hv:supAt n l i=v) (h0:v≠0):v=supE n l:=by
 unfold supE;rw[if_neg (by omega),if_neg (by omega),sT hi (by rw[hv];exact h0) hb,hv]
theorem supE_ok {n:Int} {l:List (Int × Int)} (h:¬n<0) (h2:¬512<n) (h3:¬4096<(l.length:Int)) (hb:∀j,j<l.length→supAt n l j=0):0=supE n l:=by
 unfold supE;rw[if_neg (by omega),if_neg (by omega),firstE_none hb]
theorem b43 (n:Int) (l:List (Int × Int)):body Tryz.prog [c67,c68] { asks:=[(1,[])] } true Tryz.f28 [I n,Ps l] (I (supE n l)):=by
 (refine Br.mk (fun _=>?_) (fun _=>?_))
 ·rename_i h
  (conv=>whnf)
  exact ⟨rfl,supE_out (.inl h)⟩
 rename_i g1
 (refine Br.mk (fun _=>?_) (fun _=>?_))
 ·rename_i h
  (conv=>whnf)
  exact ⟨rfl,supE_out (.inr h)⟩
 rename_i g2
 (repeat'((conv=>whnf);first|refine Zg fun _=>?_|fail))
 (refine Br.mk (fun _=>?_) (fun _=>?_))
 ·rename_i h
  (conv=>whnf)
  exact ⟨rfl,supE_long g1 g2 h⟩
 rename_i g3
 (repeat'((conv=>whnf);first|refine Zg fun _=>?_|fail))
 refine Ask.mk ⟨{ X:=Nat,pre:=fun i=>i≤l.length∧∀j,j<i→supAt n l j=0,mod:=fun i _=>[(20,I i)],mu:=fun i=>l.length-i },rfl,?_⟩
 (repeat' first|refine ZG ?_|fail)
 refine ⟨⟨(0:Nat),⟨Nat.zero_le _,by omega⟩,by (repeat' first|exact trivial|rfl|refine And.intro ?_ ?_)⟩,fun (i:Nat) hi=>?_⟩
 obtain ⟨hi,hb⟩:=hi
 (refine Br.mk (fun _=>?_) (fun _=>?_))
 ·have hlt:i<l.length:=by omega
  have bad:((l.getD i (0,0)).1<0∨n≤(l.getD i (0,0)).1∨(l.getD i (0,0)).2 < -1∨n≤(l.getD i (0,0)).2)→2=supE n l:=fun h=>
   supE_at g1 g2 g3 hlt hb (by unfold supAt;rw[if_pos h]) (by decide)
  (repeat'((conv=>whnf);first|refine Zg fun _=>?_|refine Zn ?_|refine Zj ?_|(apply Pin.mk;apply Exists.intro)|apply Pinned.mk rfl rfl|refine Zr (fun _=>?_) fun _=>?_|fail))
  ·(conv=>whnf)
   exact ⟨rfl,bad (.inl ‹_›)⟩
  ·(conv=>whnf)
   exact ⟨rfl,bad (.inr (.inl ‹_›))⟩
  ·(conv=>whnf)
   exact ⟨rfl,bad (.inr (.inr (.inl ‹_›)))⟩
  ·(conv=>whnf)
   exact ⟨rfl,bad (.inr (.inr (.inr ‹_›)))⟩
  ·rename_i k1 k2 k3 k4 k5
   (conv=>whnf)
   exact ⟨rfl,supE_at g1 g2 g3 hlt hb (by unfold supAt;rw[if_neg (by omega),if_pos k5]) (by decide)⟩
  ·refine cF (i-1) (by omega) ?_
   (repeat'((conv=>whnf);first|refine Zg fun _=>?_|refine Zn ?_|(apply Pin.mk;apply Exists.intro)|apply Pinned.mk rfl rfl|fail))
   refine cF (i-1) (by omega) ?_
   (repeat'((conv=>whnf);first|refine Zg fun _=>?_|refine Zn ?_|(apply Pin.mk;apply Exists.intro)|apply Pinned.mk rfl rfl|refine Zl ?_|refine Zr (fun _=>?_) fun _=>?_|fail))
   ·rename_i k1 k2 k3 k4 k5 k6 a1 a2 a3 a4 q
    (conv=>whnf)
    exact ⟨rfl,supE_at g1 g2 g3 hlt hb (by unfold supAt;rw[if_neg (by omega),if_neg k5,if_pos ⟨by omega,q⟩]) (by decide)⟩
   ·rename_i k1 k2 k3 k4 k5 k6 a1 a2 a3 a4 q
    refine ⟨(i+1:Nat),by show l.length-(i+1)<l.length-i;omega,⟨hlt,fun j hj=>?_⟩,by (repeat' first|exact trivial|rfl|refine And.intro ?_ ?_)⟩
    by_cases e:j=i
    ·subst e
     unfold supAt
     rw[if_neg (by omega),if_neg k5,if_neg fun h=>q h.2]
    ·exact hb j (by omega)
  ·rename_i k1 k2 k3 k4 k5 k6
   refine ⟨(i+1:Nat),by show l.length-(i+1)<l.length-i;omega,⟨hlt,fun j hj=>?_⟩,by (repeat' first|exact trivial|rfl|refine And.intro ?_ ?_)⟩
   by_cases e:j=i
   ·subst e
    unfold supAt
    rw[if_neg (by omega),if_neg k5,if_neg (by omega)]
   ·exact hb j (by omega)
 ·have hii:i=l.length:=by omega
  subst hii
  (conv=>whnf)
  exact ⟨rfl,supE_ok g1 g2 g3 hb⟩
def c43:Con:=aI 28 true fun args K=>match args with | [.val (.int .i64 n),.seq (.pair (.int .i64) (.int .i64)) l]=>K (I (supE n l)) | _=>False
theorem k43:aG Tryz.prog c43:=by
 refine aB rfl (enters_of Tryz.func28 (by kernel_rfl) rfl) ?_
 intro args K h
 simp only[c43] at h
 split at h
 ·rename_i n l;exact ⟨_,h,aA (by simp[k67,k68]) Tryz.func28 (by simp[Tryz.ntmps28]) rfl (b43 n l)⟩
 ·exact h.elim
theorem supE_rests {n:Int} {l:List (Int × Int)} (h:supE n l=0):pQ n l:=by
 unfold supE at h
 split at h
 ·cases h
 split at h
 ·cases h
 refine ⟨by omega,by omega,by omega,fun i hi=>?_⟩
 by_cases hz:∀j,j<l.length→supAt n l j=0
 ·have:=hz i hi
  unfold supAt at this
  split at this
  ·cases this
  ·omega
 ·exfalso
  have:∃j,j<l.length∧supAt n l j≠0∧∀m,m<j→supAt n l m=0:=by
   rw[Classical.not_forall] at hz
   obtain ⟨j,hj⟩:=hz
   rw[Classical.not_imp] at hj
   obtain ⟨hj1,hj2⟩:=hj
   induction j using Nat.strongRecOn with
   | _ j ih=>
    by_cases hm:∀m,m<j→supAt n l m=0
    ·exact ⟨j,hj1,hj2,hm⟩
    ·rw[Classical.not_forall] at hm
     obtain ⟨m,hm⟩:=hm
     rw[Classical.not_imp] at hm
     exact ih m hm.1 (by omega) hm.2
  obtain ⟨j,h1,h2,h3⟩:=this
  rw[sT h1 h2 h3] at h
  exact h2 h
def words (n:Int):List Int:=List.replicate ((n+63)/64).toNat 0
def putL (ws:List Int) (ms:List Int):List Int:=ms.foldl putW ws
def outB (n m:Int):Bool:=decide (m<0∨n≤m)
def aPy (on:List (List Int)) (ws:List Int) (k:Nat):List Int:=((List.range k).filter fun (i:Nat)=>decide (rJ on ws i)).map fun (i:Nat)=>(i:Int)
def onL (n:Int) (l:List (Int × Int)):List (List Int):=onN n.toNat l l.length
def aRr (n:Int) (l:List (Int × Int)):List Bool:=jA n.toNat l l.length
theorem pT (n:Int) (l:List (Int × Int)):(onL n l).length=n.toNat:=aA1 _ _ _
def readyRes (n:Int) (l:List (Int × Int)) (st:List Int):List Int:=if supE n l=0∧st.any (outB n)=false then aPy (onL n l) (putL (words n) st) n.toNat else []
def readyErr (n:Int) (l:List (Int × Int)) (st:List Int):Int:=if ¬supE n l=0 then 1 else if st.any (outB n)=true then 2 else 0
def WOk (ws:List Int):Prop:=∀w,w<ws.length→∃m:Nat,m<2^64∧ws.getD w 0=m
def InN (n:Int) (ms:List Int):Prop:=∀m∈ms,0≤m∧m<n
def nxt (on:List (List Int)) (n:Int) (ms:List Int):Int:=pR (fun i:Nat=>decide (rJ on (putL (words n) ms) i)) (List.range n.toNat)
def msAt (on:List (List Int)) (n:Int):Nat→List Int
 | 0=>[]
 | k+1=>if 0≤nxt on n (msAt on n k) then msAt on n k++ [nxt on n (msAt on n k)] else msAt on n k
theorem lY:∀(n:Nat) (xs:List Nat),xs.Nodup→(∀x∈xs,x<n)→xs.length≤n
 | 0,xs,_,h=>by
  cases xs with
  | nil=>exact Nat.le_refl _
  | cons x r=>exact absurd (h x List.mem_cons_self) (Nat.not_lt_zero _)
 | n+1,xs,hx,h=>by
  by_cases hm:n∈xs
  ·have h1:=lY n (xs.erase n) (hx.erase n) fun x hx'=>by
    rw[hx.mem_erase_iff] at hx'
    have:=h x hx'.2
    omega
   rw[List.length_erase_of_mem hm] at h1
   omega
  ·have h1:=lY n xs hx fun x hx'=>by
    have:=h x hx'
    have:x≠n:=fun e=>hm (e ▸ hx')
    omega
   omega
theorem zB {n:Int} {ms:List Int} (hn:0≤n) (h1:ms.Nodup) (h2:InN n ms):ms.length≤n.toNat:=by
 have:(ms.map Int.toNat).Nodup:=by
  rw[List.nodup_iff_pairwise_ne,List.pairwise_map]
  refine List.Pairwise.imp_of_mem ?_ h1
  intro a b ha hb hne e
  have:=h2 a ha
  have:=h2 b hb
  exact hne (by omega)
 have h3:(ms.map Int.toNat) ⊆ List.range n.toNat:=by
  intro x hx
  rw[List.mem_map] at hx
  obtain ⟨m,hm,rfl⟩:=hx
  have:=h2 m hm
  rw[List.mem_range];omega
 have:=lY n.toNat _ this fun x hx=>List.mem_range.1 (h3 hx)
 simpa using this
def aR8 (rs:List Bool) (m:Int):List (Int × Int):=if rs.getD m.toNat false=true then [(1,m)] else [(2,m),(1,m)]
def aPz (rs:List Bool) (ms:List Int):List (Int × Int):=ms.flatMap (aR8 rs)
def ordS (on:List (List Int)) (rs:List Bool) (n:Int):List (Int × Int):=aPz rs (msAt on n n.toNat)
def ordL (n:Int) (l:List (Int × Int)):List (Int × Int):=ordS (onL n l) (aRr n l) n
def aM4 (S:List (Int × Int)) (k:Nat):Int:=((S.take k).filter fun x=>decide (x.1=1)).length
def aM5 (n:Int) (l:List (Int × Int)):Int:=if ¬supE n l=0 then 1 else if aM4 (ordL n l) (ordL n l).length<n then 27 else 0
def n12 (s:Int):Int:=s%13
def okP (s:Int) (l:List (Int × Int)):Prop:=l.length≤30∧aM5 (n12 s) l=0
instance (s:Int) (l:List (Int × Int)):Decidable (okP s l):=by unfold okP;exact inferInstance
end EB
end
section
namespace Go.Eng
section
variable {α:Type}
end
end Go.Eng
end
section
open Go Go.Proofs Go.Eng Go.Shelf
namespace EB
def chkAt (n:Int) (S:List (Int × Int)) (k:Nat):Int:=
 if (S.getD k (0,0)).1<1∨3<(S.getD k (0,0)).1 then 8
 else if (S.getD k (0,0)).2<0∨(0≤n∧n≤(S.getD k (0,0)).2) then 2 else 0
def chkE (n:Int) (S:List (Int × Int)):Int:=if 4096<S.length then 4 else rK (chkAt n S) S.length
structure PS where
 m:MapS Bool
 most:Int
 err:Int
end EB
end
section
open Go Go.Proofs Go.Eng Go.Shelf
namespace EB
def sortedP (xs:List Int):Prop:=∀j,j<xs.length-1→xs.getD j 0≤xs.getD (j+1) 0
instance (xs:List Int):Decidable (sortedP xs):=by unfold sortedP;exact inferInstance
def raisedL (S:List (Int × Int)) (i:Nat):List Int:=((S.take i).filter fun x=>decide (x.1=1)).map (·.2)
structure Ordered (n:Int) (l:List (Int × Int)) (S:List (Int × Int)):Prop where
 len:S.length≤2048
 step:∀i,i<S.length→(S.getD i (0,0)).1=1→readyErr n l (raisedL S i)=0∧sortedP (readyRes n l (raisedL S i))∧∃r,readyRes n l (raisedL S i)=(S.getD i (0,0)).2::r
 stop:readyErr n l (raisedL S S.length)=0∧readyRes n l (raisedL S S.length)= []∧((raisedL S S.length).length:Int)=n
structure CS where
 st:List Int
 pr:List Int
 err:Bool
def aMw (on:List (List Int)) (rs:List Bool) (c:CS) (x:Int × Int):Prop:=
 if x.1=1 then rJ on c.st x.2∧(rs.getD x.2.toNat false=true∨hasW c.pr x.2)
 else if x.1=2 then ¬hasW c.pr x.2
 else hasW c.pr x.2∧(¬hasW c.st x.2∨rs.getD x.2.toNat false=true)
instance (on:List (List Int)) (rs:List Bool) (c:CS) (x:Int × Int):Decidable (aMw on rs c x):=by unfold aMw;exact inferInstance
def aR7 (on:List (List Int)) (rs:List Bool) (S:List (Int × Int)) (c:CS) (i:Nat):CS:=
 if c.err=true then c
 else if ¬aMw on rs c (S.getD i (0,0)) then ⟨c.st,c.pr,true⟩
 else if (S.getD i (0,0)).1=1 then ⟨putW c.st (S.getD i (0,0)).2,c.pr,false⟩
 else if (S.getD i (0,0)).1=2 then ⟨c.st,putW c.pr (S.getD i (0,0)).2,false⟩
 else ⟨c.st,aRq c.pr (S.getD i (0,0)).2,false⟩
def doAt (on:List (List Int)) (rs:List Bool) (n:Int) (S:List (Int × Int)) (i:Nat):CS:=(List.range i).foldl (aR7 on rs S) ⟨words n,words n,false⟩
def endE (n:Int) (c:CS):Int:=if c.err=true then 26 else if ((aR6 c.st (64*c.st.length)).length:Int)<n then 9 else 0
def checkE (n:Int) (l S:List (Int × Int)):Int:=if ¬supE n l=0 then 1 else if ¬chkE n S=0 then chkE n S else endE n (doAt (onL n l) (aRr n l) n S S.length)
def upP (m:Int) (r:Int × Int):Bool:=decide (r.1=m)
end EB
end
section
open Go Go.Proofs Go.Eng Go.Shelf
namespace EB.Q
end EB.Q
end
section
open Go Go.Proofs Go.Eng Go.Shelf
namespace EB
end EB
end
section
open Go Go.Proofs Go.Eng Go.Shelf
namespace EB
structure Whole (n:Int) (l S:List (Int × Int)):Prop where
 n0:0≤n
 n1:n≤512
 sup:supE n l=0
 chk:checkE n l S=0
 len:S.length≤1024
 at_:∀i,i<S.length→((S.getD i (0,0)).1=1∨(S.getD i (0,0)).1=2)∧0≤(S.getD i (0,0)).2∧(S.getD i (0,0)).2<n
 prop_:∀i,i<S.length→(S.getD i (0,0)).1=2→¬l.any (upP (S.getD i (0,0)).2)=true∧i+1<S.length∧S.getD (i+1) (0,0)=(1,(S.getD i (0,0)).2)
 raise:∀i,i<S.length→(S.getD i (0,0)).1=1→¬l.any (upP (S.getD i (0,0)).2)=true→0<i∧(S.getD (i-1) (0,0)).1=2
 once:∀m:Int,0≤m→m<n→(raisedL S S.length).count m=1
end EB
end
section
open Go Go.Proofs Go.Eng Go.Shelf
namespace EB
def wStep (c:List Int × List Int) (x:Int × Int):List Int × List Int:=if x.1=1 then (putW c.1 x.2,c.2) else if x.1=2 then (c.1,putW c.2 x.2) else (c.1,aRq c.2 x.2)
def wF (n:Int) (T:List (Int × Int)):List Int × List Int:=T.foldl wStep (words n,words n)
def stB (T:List (Int × Int)) (m:Nat):Bool:=T.foldl (fun b x=>if x.2=(m:Int)∧x.1=1 then true else b) false
def prB (T:List (Int × Int)) (m:Nat):Bool:=T.foldl (fun b x=>if x.2=(m:Int) then (if x.1=1 then b else decide (x.1=2)) else b) false
def memL (n:Int) (f:Nat→Bool):List Int:=((List.range n.toNat).filter f).map fun (i:Nat)=>(i:Int)
structure WF (n:Int) (T:List (Int × Int)):Prop where
 l1:((wF n T).1.length:Int)=(n+63)/64
 l2:((wF n T).2.length:Int)=(n+63)/64
 o1:WOk (wF n T).1
 o2:WOk (wF n T).2
 s1:∀j:Nat,hasW (wF n T).1 j↔stB T j=true
 s2:∀j:Nat,hasW (wF n T).2 j↔prB T j=true
 b1:∀j:Nat,stB T j=true→(j:Int)<n
 b2:∀j:Nat,prB T j=true→(j:Int)<n
def stdE (n:Int) (S:List (Int × Int)) (k:Int):Int:=if n<0∨512<n then 1 else if ¬chkE n S=0 then chkE n S else if k<0∨(S.length:Int)<k then 2 else 0
def stdM (n:Int) (S:List (Int × Int)) (k:Int):List Int:=if stdE n S k=0 then memL n (stB (S.take k.toNat)) else []
def stdP (n:Int) (S:List (Int × Int)) (k:Int):List Int:=if stdE n S k=0 then memL n (prB (S.take k.toNat)) else []
def isV (v x:Int):Bool:=decide (x=v)
theorem b57 (xs:List Int) (v:Int):body Tryz.prog [] { loops:=[(0,anIx 8 (isV v) xs 0)] } true Tryz.f59 [Ls xs,I v] (I (pR (isV v) xs)):=by
 (repeat' first|refine ZG ?_|refine Zg fun _=>?_)
 refine ⟨⟨(0:Nat),⟨Nat.zero_le _,fun j hj=>absurd hj (Nat.not_lt_zero _)⟩,by (repeat' first|exact trivial|rfl|refine And.intro ?_ ?_)⟩,fun (i:Nat) hi=>?_⟩
 obtain ⟨hi,hb⟩:=hi
 (refine Br.mk (fun _=>?_) (fun _=>?_))
 ·have hlt:i<xs.length:=by omega
  (repeat' first|refine ZG ?_|refine Zg fun _=>?_)
  (refine Br.mk (fun _=>?_) (fun _=>?_))
  ·rename_i hh
   (conv=>whnf)
   exact ⟨rfl,(aFo 0 hlt (decide_eq_true (by omega)) hb).symm⟩
  ·rename_i hh
   (repeat' first|refine ZG ?_|fail)
   refine ⟨(i+1:Nat),by show xs.length-(i+1)<xs.length-i;omega,⟨hlt,fun j hj=>?_⟩,by (repeat' first|exact trivial|rfl|refine And.intro ?_ ?_)⟩
   by_cases e:j=i
   ·subst e;exact decide_eq_false (by omega)
   ·exact hb j (by omega)
 ·have hii:i=xs.length:=by omega
  subst hii
  (conv=>whnf)
  exact ⟨rfl,(aFn 0 hb).symm⟩
def c57:Con:=aI 59 true fun args K=>match args with | [.seq (.int .i64) xs,.val (.int .i64 v)]=>K (I (pR (isV v) xs)) | _=>False
theorem k57:aG Tryz.prog c57:=by
 refine aB rfl (enters_of Tryz.func59 (by kernel_rfl) rfl) ?_
 intro args K h
 simp only[c57] at h
 split at h
 ·rename_i xs v;exact ⟨_,h,aA (by simp) Tryz.func59 (by simp[Tryz.ntmps59]) rfl (b57 xs v)⟩
 ·exact h.elim
theorem aPw (xs:List Int) (v:Int):xs.any (isV v)=true↔v∈xs:=by
 rw[List.any_eq_true]
 constructor
 ·rintro ⟨x,hx,h⟩
  have:=of_decide_eq_true h
  subst this;exact hx
 ·intro h;exact ⟨v,h,decide_eq_true rfl⟩
theorem b21 (xs:List Int) (v:Int):body Tryz.prog [c57] {} true Tryz.f25 [Ls xs,I v] (.bl (v∈xs) inferInstance):=by
 (conv=>whnf)
 exact (aJr _ _).trans (aPw xs v)
def c21:Con:=aI 25 true fun args K=>match args with | [.seq (.int .i64) xs,.val (.int .i64 v)]=>K (.bl (v∈xs) inferInstance) | _=>False
theorem k21:aG Tryz.prog c21:=by
 refine aB rfl (enters_of Tryz.func25 (by kernel_rfl) rfl) ?_
 intro args K h
 simp only[c21] at h
 split at h
 ·rename_i xs v;exact ⟨_,h,aA (by simp[k57]) Tryz.func25 (by simp[Tryz.ntmps25]) rfl (b21 xs v)⟩
 ·exact h.elim
end EB
end
section
open Go Go.Proofs Go.Eng Go.Shelf IB Go.Lib Go.RowKit
namespace RB
def nP (v:V2):P2:=(numS v.1,numS v.2)
theorem aFk {a b c:V2} (ha:Sz 36 a.1∧Sz 36 a.2) (hb:Sz 36 b.1∧Sz 36 b.2) (hc:Sz 36 c.1∧Sz 36 c.2):yW (nP a) (nP b) (nP c) (aE2 a b c):=by
 have s1:=hb.1.sub ha.1
 have s2:=hc.2.sub ha.2
 have s3:=hb.2.sub ha.2
 have s4:=hc.1.sub ha.1
 refine ⟨_,_,_,_,_,_,eM hb.1 ha.1 (by decide) (by decide) (by decide),eM hc.2 ha.2 (by decide) (by decide) (by decide),eM hb.2 ha.2 (by decide) (by decide) (by decide),eM hc.1 ha.1 (by decide) (by decide) (by decide),gZ s1 s2 (by decide) (by decide) (by decide),gZ s3 s4 (by decide) (by decide) (by decide),?_⟩
 rw[sR (s1.mul s2) (s3.mul s4) (by decide) (by decide) (by decide)]
 rfl
theorem yX (q a:V2):aE2 q q a=0:=by
 unfold aE2
 rw[aOs,Rat.sub_self,Rat.sub_self,Rat.zero_mul,Rat.zero_mul]
theorem uN {a b:V2} (ha:Sz 36 a.1∧Sz 36 a.2) (hb:Sz 36 b.1∧Sz 36 b.2):ordS (nP a) (nP b)=ordR a b:=by
 unfold ordS ordR nP
 dsimp only
 rw[sR ha.1 hb.1 (by decide) (by decide) (by decide),sR ha.2 hb.2 (by decide) (by decide) (by decide)]
theorem aAz {c:Prop} [Decidable c] (x y:V2):(if c then nP x else nP y)=nP (if c then x else y):=by split<;>rfl
theorem aA0 {c:Prop} [Decidable c] {x y:V2} (hx:Sz 36 x.1∧Sz 36 x.2) (hy:Sz 36 y.1∧Sz 36 y.2):Sz 36 (if c then x else y).1∧Sz 36 (if c then x else y).2:=by
 split
 ·exact hx
 ·exact hy
theorem aR2 {a b q:V2} (ha:Sz 36 a.1∧Sz 36 a.2) (hb:Sz 36 b.1∧Sz 36 b.2) (hq:Sz 36 q.1∧Sz 36 q.2):mgS (nP a) (nP b) (nP q) (aE2 a b q)=sgO a b q:=by
 have e1:loS (nP a) (nP b)=nP (if 0<ordR a b then b else a):=by
  unfold loS;rw[uN ha hb,aAz]
 have e2:hiS (nP a) (nP b)=nP (if 0<ordR a b then a else b):=by
  unfold hiS;rw[uN ha hb,aAz]
 unfold mgS sgO
 rw[e1,e2]
 have zl:Sz 36 (if 0<ordR a b then b else a).1∧Sz 36 (if 0<ordR a b then b else a).2:=aA0 hb ha
 have zh:Sz 36 (if 0<ordR a b then a else b).1∧Sz 36 (if 0<ordR a b then a else b).2:=aA0 ha hb
 dsimp only
 generalize (if 0<ordR a b then b else a)=L at*
 generalize (if 0<ordR a b then a else b)=U at*
 rw[uN hq zl,uN hq zh,aAz,aAz,uN (aA0 hq zl) (aA0 hq zh)]
theorem aL7 {s:Sp} (h:okS s):(s.1,s.2.1)=nP (v2 s)∧Sz 36 (v2 s).1∧Sz 36 (v2 s).2:=by
 obtain ⟨⟨e1,e2,e3⟩,z1,z2,z3⟩:=uF h
 refine ⟨?_,z1,z2⟩
 unfold nP v2
 dsimp only
 rw[← e1,← e2]
theorem aL8 {s:Sp} (h:okS s):okP (s.1,s.2.1):=by
 obtain ⟨h1,h2,h3,h4⟩:=h
 obtain ⟨c1,c2,c3⟩:=jG.1 h1
 exact ⟨⟨c1,h2⟩,c2,h3⟩
theorem mg_ok {a b q:Sp} (ha:okS a) (hb:okS b) (hq:okS q):mgOK (a.1,a.2.1) (b.1,b.2.1) (q.1,q.2.1) (sgO (v2 a) (v2 b) (v2 q)):=by
 obtain ⟨e1,za⟩:=aL7 ha
 obtain ⟨e2,zb⟩:=aL7 hb
 obtain ⟨e3,zq⟩:=aL7 hq
 rw[e1,e2,e3]
 refine ⟨_,aFk za zb zq,?_,?_,(aR2 za zb zq).symm⟩
 ·have:=aFk zq zq za;rwa [yX] at this
 ·have:=aFk zq zq zb;rwa [yX] at this
def onP (ks:List Int) (s:Sp) (x:Lin):Prop:=x.1∈ks∧0<sgO (v2 x.2.1) (v2 x.2.2.1) (v2 s)
theorem b3121 (k:Int) (a b c d e g:List UInt8) (u v:Int) (ks:List Int) (q1 q2 q3:List UInt8) (h0:(okS (a,b,c)∧okS (d,e,g))∧okS (q1,q2,q3)):body Tryz.prog [EB.c21,aLp,aL6] {} true Tryz.f121 [.agg [I k,S a,S b,S c,S d,S e,S g,I u,I v],.lelem [.seq (.int .i64) ks] 0,.lelem [S q1,S q2,S q3] 0] (.bl (onP ks (q1,q2,q3) (k,(a,b,c),(d,e,g),u,v)) (Classical.propDecidable _)):=by
 by_cases hk:k∈ks
 ·have hm:mgOK (a,b) (d,e) (q1,q2) (sgO (v2 (a,b,c)) (v2 (d,e,g)) (v2 (q1,q2,q3))):=mg_ok h0.1.1 h0.1.2 h0.2
  have hp:(q1=q1∧q2=q2)∧okP (a,b)∧okP (d,e)∧okP (q1,q2):=⟨⟨rfl,rfl⟩,aL8 h0.1.1,aL8 h0.1.2,aL8 h0.2⟩
  have hq:onP ks (q1,q2,q3) (k,(a,b,c),(d,e,g),u,v)↔0<sgO (v2 (a,b,c)) (v2 (d,e,g)) (v2 (q1,q2,q3)):=⟨fun h=>h.2,fun h=>⟨hk,h⟩⟩
  generalize onP ks (q1,q2,q3) (k,(a,b,c),(d,e,g),u,v)=M at*
  generalize sgO (v2 (a,b,c)) (v2 (d,e,g)) (v2 (q1,q2,q3))=r at*
  (repeat'((conv=>whnf);first|refine .h ?_|refine Zn ?_|(apply Pin.mk;apply Exists.intro)|apply Pinned.mk rfl rfl|refine Zy ?_|refine Zm ?_|fail))
  (conv=>whnf)
  all_goals exact hq.symm
 ·have hq:¬onP ks (q1,q2,q3) (k,(a,b,c),(d,e,g),u,v):=fun h=>hk h.1
  generalize onP ks (q1,q2,q3) (k,(a,b,c),(d,e,g),u,v)=M at*
  (repeat' first|refine ZR ?_|fail)
  (conv=>whnf)
  all_goals exact hq
def aL9:Con:=aI 121 true fun args K=>match args with | [.agg [.val (.int .i64 k),.str a,.str b,.str c,.str d,.str e,.str g,.val (.int .i64 u),.val (.int .i64 v)],.lelem [.seq (.int .i64) ks] 0,.lelem [.str q1,.str q2,.str q3] 0]=>Need ((okS (a,b,c)∧okS (d,e,g))∧okS (q1,q2,q3)) (K (.bl (onP ks (q1,q2,q3) (k,(a,b,c),(d,e,g),u,v)) (Classical.propDecidable _))) | _=>False
theorem k3121:aG Tryz.prog aL9:=by
 refine aB rfl (enters_of Tryz.func121 (by kernel_rfl) rfl) ?_
 intro args K h
 simp only[aL9] at h
 split at h
 ·rename_i k a b c d e g u v ks q1 q2 q3;exact ⟨_,h.go,aA (by simp[EB.k21,k3123,k3122]) Tryz.func121 (by simp[Tryz.ntmps121]) rfl (b3121 k a b c d e g u v ks q1 q2 q3 h.ok)⟩
 ·exact h.elim
def badX (x:Lin):Prop:=¬(okS x.2.1∧okS x.2.2.1)
theorem b70a (l:List Lin):body Tryz.prog [aLq] { asks:=[(0,[])] } true Tryz.f70 [.seq tLin l,.clo 42 [] []] (I (ixG badX l)):=by
 (repeat'((conv=>whnf);first|refine Zg fun _=>?_|fail))
 refine Ask.mk ⟨{ X:=Nat,pre:=fun i=>i≤l.length∧∀j,j<i→¬badX (l.getD j lin0),mod:=fun i _=>[(8,I i)],heap:=fun i H=>H,mu:=fun i=>l.length-i },rfl,?_⟩
 (repeat' first|refine ZG ?_|fail)
 refine ⟨⟨(0:Nat),⟨Nat.zero_le _,fun j hj=>by omega⟩,by (repeat' first|exact trivial|rfl|refine And.intro ?_ ?_)⟩,fun (i:Nat) hi=>?_⟩
 obtain ⟨hi,hp⟩:=hi
 by_cases hlt:i<l.length
 ·(repeat' first|refine ZR ?_|refine Zg fun _=>?_)
  (refine Br.mk (fun _=>?_) (fun _=>?_))
  ·rename_i hb
   have e:=oN badX lin0 hlt hb hp
   rw[e]
   (conv=>whnf)
   (repeat' first|rfl|refine And.intro ?_ ?_)
  ·rename_i hb
   (repeat' first|refine ZR ?_|fail)
   refine ⟨(i+1:Nat),by show l.length-(i+1)<l.length-i;omega,⟨hlt,fun j hj=>?_⟩,by (repeat' first|exact trivial|rfl|refine And.intro ?_ ?_)⟩
   by_cases e:j=i
   ·subst e;exact hb
   ·exact hp j (by omega)
 ·have e:i=l.length:=by omega
  subst e
  rw[oO badX lin0 hp]
  (repeat' first|refine ZR ?_|fail)
  (conv=>whnf)
  (repeat' first|rfl|refine And.intro ?_ ?_)
theorem b70b (l:List Lin) (ks:List Int) (q1 q2 q3:List UInt8) (h0:(∀j,j<l.length→okS (l.getD j lin0).2.1∧okS (l.getD j lin0).2.2.1)∧okS (q1,q2,q3)):body Tryz.prog [aL9] { asks:=[(0,[])] } true Tryz.f70 [.seq tLin l,.clo 121 [] [.lelem [.seq (.int .i64) ks] 0,.lelem [S q1,S q2,S q3] 0]] (I (ixG (onP ks (q1,q2,q3)) l)):=by
 obtain ⟨hl,hs⟩:=h0
 (repeat'((conv=>whnf);first|refine Zg fun _=>?_|fail))
 refine Ask.mk ⟨{ X:=Nat,pre:=fun i=>i≤l.length∧∀j,j<i→¬onP ks (q1,q2,q3) (l.getD j lin0),mod:=fun i _=>[(8,I i)],heap:=fun i H=>H,mu:=fun i=>l.length-i },rfl,?_⟩
 (repeat' first|refine ZG ?_|fail)
 refine ⟨⟨(0:Nat),⟨Nat.zero_le _,fun j hj=>by omega⟩,by (repeat' first|exact trivial|rfl|refine And.intro ?_ ?_)⟩,fun (i:Nat) hi=>?_⟩
 obtain ⟨hi,hp⟩:=hi
 by_cases hlt:i<l.length
 ·have hc:(okS ((l.getD i lin0).2.1.1,(l.getD i lin0).2.1.2.1,(l.getD i lin0).2.1.2.2)∧okS ((l.getD i lin0).2.2.1.1,(l.getD i lin0).2.2.1.2.1,(l.getD i lin0).2.2.1.2.2))∧okS (q1,q2,q3):=⟨hl i hlt,hs⟩
  (repeat' first|refine ZR ?_|refine Zg fun _=>?_)
  (refine Br.mk (fun _=>?_) (fun _=>?_))
  ·rename_i hb
   have e:=oN (onP ks (q1,q2,q3)) lin0 hlt hb hp
   rw[e]
   (conv=>whnf)
   (repeat' first|rfl|refine And.intro ?_ ?_)
  ·rename_i hb
   (repeat' first|refine ZR ?_|fail)
   refine ⟨(i+1:Nat),by show l.length-(i+1)<l.length-i;omega,⟨hlt,fun j hj=>?_⟩,by (repeat' first|exact trivial|rfl|refine And.intro ?_ ?_)⟩
   by_cases e:j=i
   ·subst e;exact hb
   ·exact hp j (by omega)
 ·have e:i=l.length:=by omega
  subst e
  rw[oO (onP ks (q1,q2,q3)) lin0 hp]
  (repeat' first|refine ZR ?_|fail)
  (conv=>whnf)
  (repeat' first|rfl|refine And.intro ?_ ?_)
end RB
end

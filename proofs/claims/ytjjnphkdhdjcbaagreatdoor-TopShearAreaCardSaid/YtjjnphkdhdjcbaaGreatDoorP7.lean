/-
  Part 7: a symbolic executor over the model, contracts of functions and plain laws.
-/
import Derived.Test.YtjjnphkdhdjcbaaGreatDoorP6
import Derived.Lone
import Derived.RunT
import Derived.Calls
import Derived.Shelf.SlSortCmp.Whole1
import Derived.Shelf.SlSortCmp.NoneTotal
import Derived.Test.YtjjnphkdhdjcbaaGreatDoorProg
set_option linter.unusedVariables false
set_option linter.unusedSimpArgs false
set_option maxRecDepth 10000
set_option maxHeartbeats 80000000
section
open Go Go.Proofs Go.Eng Go.Shelf IB Go.Lib Go.RowKit
namespace RB
section
variable (p:List UInt8→Prop) [DecidablePred p]
end
def badS (s:List UInt8):Prop:=12<s.length∨chkQ s≠0
noncomputable instance (s:List UInt8):Decidable (badS s):=Classical.propDecidable _
noncomputable instance:DecidablePred badS:=fun s=>Classical.propDecidable _
def notP (s:List UInt8):Prop:=chkP s≠0
noncomputable instance:DecidablePred notP:=fun s=>Classical.propDecidable _
def aC9 (l:List (List UInt8)):Prop:=∀a∈l,a.length≤12∧chkQ a=0
noncomputable instance (l:List (List UInt8)):Decidable (aC9 l):=Classical.propDecidable _
theorem Sz.up {k:Nat} {q:Rat} (h:Sz 12 q) (hk:12≤k):Sz k q:=h.mono hk
theorem aAl {p q:Rat} {k:Nat} (h1:(p.num*q.den).natAbs<10^k) (h2:(q.num*p.den).natAbs<10^k) (h0:q≠0):Sz k (p/q):=by
 have hq:q.num≠0:=fun h=>h0 (Rat.num_eq_zero.1 h)
 have hp:(0:Int)<p.den:=by have:=p.den_pos;omega
 rw[Cm p q h0]
 rcases Int.lt_or_lt_of_ne hq with h | h
 ·have hd:(p.den:Int)*q.num<0:=Int.mul_neg_of_pos_of_neg hp h
  rw[rG _ _ hd]
  refine Dk (by omega) (by rwa [Int.natAbs_neg]) ?_
  have:(-((p.den:Int)*q.num)).toNat=(q.num*p.den).natAbs:=by rw[Int.mul_comm q.num];omega
  rwa [this]
 ·have hd:0<(p.den:Int)*q.num:=Int.mul_pos hp h
  rw[eH _ _ hd]
  refine Dk (by omega) h1 ?_
  have:((p.den:Int)*q.num).toNat=(q.num*p.den).natAbs:=by rw[Int.mul_comm q.num];omega
  rwa [this]
theorem Sz.div {p q:Rat} {i j:Nat} (hp:Sz i p) (hq:Sz j q) (h0:q≠0):Sz (i+j) (p/q):=aAl (hp.cross hq).1 (hp.cross hq).2.1 h0
section
variable {p q:Rat}
end
noncomputable def ckG (p:List UInt8):List (List UInt8)→Int
 | []=>0
 | a::r=>if chkQ a≠0 then chkQ a else if (cmpQ p a).2≠0 then (cmpQ p a).2 else if 0≤(cmpQ p a).1 then 10 else ckG a r
noncomputable def ckF:List (List UInt8)→Int
 | []=>0
 | a::r=>if chkQ a≠0 then chkQ a else ckG a r
theorem Ux (a:List UInt8) (r:List (List UInt8)):ckF (a::r)=if chkQ a≠0 then chkQ a else ckG a r:=rfl
theorem ltT {a b c:Rat} (h1:a<b) (h2:b<c):a<c:=Rat.not_le.1 fun h=>Rat.not_le.2 h1 (Rat.le_trans (Rat.le_of_lt h2) h)
noncomputable def ckS (l:List (List UInt8)):Int:=if 4096<l.length then 4 else ckF l
section
variable {l:List (List UInt8)} {i:Nat}
end
abbrev Asc (qs:List Rat):Prop:=qs.Pairwise (· < ·)
theorem Pc {k:Nat} (hk:0<k∧k≤150):∀(qs:List Rat) {p:Rat},Sz k p→(∀q∈qs,Sz k q)→(ckG (numS p) (qs.map numS)=0↔Asc (p::qs))
 | [],p,_,_=>by simp[ckG,Asc]
 | q::qs,p,hp,hq=>by
  have hq1:=hq q (List.mem_cons_self ..)
  have e1:=kY hq1 ⟨hk.1,by omega⟩
  have e2:=uS hp hq1 hk.1 hk.1 (by omega)
  have ih:=Pc hk qs hq1 fun x hx=>hq x (List.mem_cons_of_mem _ hx)
  simp only[List.map_cons,ckG]
  rw[if_neg (fun h=>h e1),e2,if_neg (fun h=>h rfl)]
  dsimp only
  by_cases h:p<q
  ·have h1:=(fC p q).2 h
   rw[if_neg (by omega),ih]
   unfold Asc
   rw[List.pairwise_cons (a:=p)]
   refine ⟨fun h2=>⟨fun x hx=>?_,h2⟩,fun h2=>h2.2⟩
   rcases List.mem_cons.1 hx with rfl | hx
   ·exact h
   ·exact ltT h ((List.pairwise_cons.1 h2).1 x hx)
  ·have h1:¬cmpR p q<0:=fun h2=>h ((fC p q).1 h2)
   rw[if_pos (by omega)]
   refine ⟨fun h2=>absurd h2 (by decide),fun h2=>absurd ((List.pairwise_cons.1 h2).1 q (List.mem_cons_self ..)) h⟩
theorem Zw {k:Nat} (hk:0<k∧k≤150) (qs:List Rat) (hq:∀q∈qs,Sz k q):ckF (qs.map numS)=0↔Asc qs:=by
 cases qs with
 | nil=>simp[ckF,Asc]
 | cons q qs=>
  have hq1:=hq q (List.mem_cons_self ..)
  have e1:=kY hq1 ⟨hk.1,by omega⟩
  simp only[List.map_cons,Ux]
  rw[if_neg (fun h=>h e1)]
  exact Pc hk qs hq1 fun x hx=>hq x (List.mem_cons_of_mem _ hx)
def Wt (k:Nat) (q:Rat):Prop:=q.num.natAbs*q.den<10^k
theorem uA (n:Int) {d:Nat} (hd:d≠0):(mkRat n d).num.natAbs≤n.natAbs∧(mkRat n d).den≤d:=by
 rw[Rat.num_mkRat,if_neg hd,Rat.den_mkRat,if_neg hd]
 exact ⟨qQ _ _,Nat.div_le_self _ _⟩
theorem Wt.sub {p q:Rat} {k:Nat} (hp:Wt k p) (hq:Wt k q) (sp:p.den<10^k) (sq:q.den<10^k):Wt (3*k+1) (p-q):=by
 unfold Wt at hp hq ⊢
 rw[pS]
 obtain ⟨h1,h2⟩:=uA (p.num*q.den-q.num*p.den) (uQ p q)
 refine Nat.lt_of_le_of_lt (Nat.mul_le_mul h1 h2) ?_
 have e1:(p.num*q.den-q.num*p.den).natAbs≤p.num.natAbs*q.den+q.num.natAbs*p.den:=by
  refine Nat.le_trans (Int.natAbs_sub_le _ _) ?_
  rw[Int.natAbs_mul,Int.natAbs_mul,Int.natAbs_natCast,Int.natAbs_natCast]
  exact Nat.le_refl _
 refine Nat.lt_of_le_of_lt (Nat.mul_le_mul_right _ e1) ?_
 have e2:(p.num.natAbs*q.den+q.num.natAbs*p.den)*(p.den*q.den)=(p.num.natAbs*p.den)*(q.den*q.den)+(q.num.natAbs*q.den)*(p.den*p.den):=by
  rw[Nat.add_mul]
  congr 1<;>ac_rfl
 rw[e2]
 have a1:(p.num.natAbs*p.den)*(q.den*q.den)<10^k*(10^k*10^k):=Nat.mul_lt_mul'' hp (Nat.mul_lt_mul'' sq sq)
 have a2:(q.num.natAbs*q.den)*(p.den*p.den)<10^k*(10^k*10^k):=Nat.mul_lt_mul'' hq (Nat.mul_lt_mul'' sp sp)
 have e3:10^ (3*k+1)=10*(10^k*(10^k*10^k)):=by
  rw[← Nat.pow_add,← Nat.pow_add,Nat.pow_succ,Nat.mul_comm]
  congr 2;omega
 rw[e3]
 omega
theorem Vb {α:Type} {l:List α} {i:Nat} {d:α} (h:i<l.length):l.getD i d∈l:=by
 simp[List.getD_eq_getElem?_getD,h]
def rgP (a b:List UInt8):Prop:=(cmpQ a b).2=0∧(cmpQ a b).1≤0
noncomputable instance (a b:List UInt8):Decidable (rgP a b):=Classical.propDecidable _
noncomputable def inR (lo hi a:List UInt8):Bool:=decide ((cmpQ lo a).1≤0∧(cmpQ a hi).1≤0)
def flI (q:Rat):Int:=q.num/(q.den:Int)
theorem rD (q:Rat):((flI q:Int):Rat)≤q:=by
 rw[Rat.le_iff,Rat.num_intCast,Rat.den_intCast]
 have:=Yo q
 unfold flI
 simpa using this
theorem oK (q:Rat):q<((flI q+1:Int):Rat):=by
 rw[Rat.lt_iff,Rat.num_intCast,Rat.den_intCast]
 have:=Yp q
 unfold flI
 simpa using this
def clI (q:Rat):Int:=if ((flI q:Int):Rat)=q then flI q else flI q+1
theorem Vc (q:Rat):q≤((clI q:Int):Rat):=by
 unfold clI
 split
 ·rename_i h;rw[h];exact Rat.le_refl
 ·exact Rat.le_of_lt (oK q)
theorem aC2 (q:Rat):((clI q-1:Int):Rat)<q:=by
 unfold clI
 split
 ·rename_i h
  have e:((flI q-1:Int):Rat)=((flI q:Int):Rat)-1:=by rw[Rat.intCast_sub];rfl
  rw[e,h]
  exact Rat.sub_lt_iff.2 (by grind)
 ·rename_i h
  rw[show flI q+1-1=flI q by omega]
  exact Rat.not_le.1 fun h'=>h (Rat.le_antisymm (rD q) h')
theorem Zz {q:Rat} (h:0<q):0<clI q:=by
 have h1:=Vc q
 have h2:(0:Rat)<((clI q:Int):Rat):=Rat.not_le.1 fun h'=>Rat.not_le.2 h (Rat.le_trans h1 h')
 exact Rat.intCast_pos.1 h2
def oL (lo hi most:Rat):Rat:=(hi-lo)/(clI ((hi-lo)/most):Int)
section
variable {lo hi most:Rat}
theorem Vd {a b:Rat} (ha:0<a) (hb:0<b):0<a/b:=by
 have e:a/b*b=a:=Rat.div_mul_cancel (by grind)
 refine Rat.not_le.1 fun h=>?_
 have:=Rat.mul_le_mul_of_nonneg_right (c:=b) h (Rat.le_of_lt hb)
 rw[e,Rat.zero_mul] at this
 exact Rat.not_le.2 ha this
theorem aC3 (h:lo<hi) (hm:0<most):0<clI ((hi-lo)/most):=Zz (Vd (by grind) hm)
end
section
variable {α:Type} [DecidableEq α]
def cpt:List α→List α
 | []=>[]
 | [x]=>[x]
 | x::y::r=>if x=y then cpt (y::r) else x::cpt (y::r)
end
theorem Pe:∀(qs:List Rat),cpt (qs.map numS)=(cpt qs).map numS
 | []=>rfl
 | [x]=>rfl
 | x::y::r=>by
  simp only[List.map_cons]
  rw[cpt,cpt]
  have ih:=Pe (y::r)
  simp only[List.map_cons] at ih
  by_cases h:x=y
  ·subst h
   rw[if_pos rfl,if_pos rfl,ih]
  ·rw[if_neg (fun e=>h (Vk e)),if_neg h,ih];rfl
def bG (L O S:Rat):Int:=flI ((O-L)/S)
def eW (H O S:Rat):Int:=flI ((H-O)/S)
def gF (L O S:Rat):Rat:=O-((bG L O S:Int):Rat)*S
def sN (L H O S:Rat):Int:=bG L O S+eW H O S+1
theorem Ve {n:Int} {q:Rat}:(n:Rat)≤q↔n≤flI q:=by
 constructor
 ·intro h
  have h1:=oK q
  have h2:(n:Rat)<((flI q+1:Int):Rat):=Rat.not_le.1 fun h'=>Rat.not_le.2 h1 (Rat.le_trans h' h)
  have:=Rat.intCast_lt_intCast.1 h2
  omega
 ·intro h
  exact Rat.le_trans (Rat.intCast_le_intCast.2 h) (rD q)
theorem kA {a b s:Rat} (hs:0<s):a≤b/s↔a*s≤b:=by
 have e:b/s*s=b:=Rat.div_mul_cancel (by grind)
 constructor
 ·intro h
  have:=Rat.mul_le_mul_of_nonneg_right (c:=s) h (Rat.le_of_lt hs)
  rwa [e] at this
 ·intro h
  refine Rat.not_lt.1 fun hlt=>?_
  have:=Rat.mul_lt_mul_of_pos_right hlt hs
  rw[e] at this
  exact Rat.not_le.2 this h
theorem at_in {L H O S:Rat} (hs:0<S) (i:Nat):gF L O S+S*((i:Int):Rat)≤H↔(i:Int)<sN L H O S:=by
 have e1:((i:Int)-bG L O S)≤flI ((H-O)/S)↔(((i:Int)-bG L O S:Int):Rat)*S≤H-O:=by rw[← Ve,kA hs]
 have e2:(((i:Int)-bG L O S:Int):Rat)=((i:Int):Rat)-((bG L O S:Int):Rat):=Rat.intCast_sub _ _
 rw[e2] at e1
 have e3:(((i:Int):Rat)-((bG L O S:Int):Rat))*S≤H-O↔gF L O S+S*((i:Int):Rat)≤H:=by
  unfold gF
  rw[Rat.le_iff_sub_nonneg,Rat.le_iff_sub_nonneg (a:=O- _+ _)]
  have:H-O-(((i:Int):Rat)-((bG L O S:Int):Rat))*S=H-(O-((bG L O S:Int):Rat)*S+S*((i:Int):Rat)):=by grind
  rw[this]
 rw[← e3,← e1]
 unfold sN eW
 omega
theorem Mk {L O S:Rat} (hs:0<S):L≤gF L O S∧gF L O S<L+S:=by
 have h1:((bG L O S:Int):Rat)≤(O-L)/S:=rD _
 rw[kA hs] at h1
 have h2:¬((bG L O S+1:Int):Rat)≤(O-L)/S:=Rat.not_le.2 (oK _)
 rw[kA hs] at h2
 have e:((bG L O S+1:Int):Rat)=((bG L O S:Int):Rat)+1:=Rat.intCast_add _ _
 rw[e] at h2
 have h2:=Rat.not_le.1 h2
 unfold gF
 generalize ((bG L O S:Int):Rat)=k at*
 constructor
 ·rw[Rat.le_iff_sub_nonneg] at h1 ⊢
  have:O-k*S-L=O-L-k*S:=by grind
  rwa [this]
 ·rw[Rat.lt_iff_sub_pos] at h2 ⊢
  have:L+S-(O-k*S)=(k+1)*S-(O-L):=by grind
  rwa [this]
section
variable {p q:Rat} {k:Nat}
theorem mU {a b:Nat} (hb:b≠0):a≤a*b:=Nat.le_mul_of_pos_right a (Nat.pos_of_ne_zero hb)
theorem Vf (h1:p.num.natAbs*q.den<10^k) (h2:q.num.natAbs*p.den<10^k) (h3:p.den*q.den<10^k):Sz k p∧Sz k q:=by
 have n1:=q.den_nz
 have n2:=p.den_nz
 exact ⟨⟨Nat.lt_of_le_of_lt (mU n1) h1,Nat.lt_of_le_of_lt (mU n1) h3⟩,⟨Nat.lt_of_le_of_lt (mU n2) h2,Nat.lt_of_le_of_lt (by rw[Nat.mul_comm];exact mU n2) h3⟩⟩
theorem Vg (hk:0<k∧k+1≤300) (h1:p.num.natAbs*q.den<10^k) (h2:q.num.natAbs*p.den<10^k) (h3:p.den*q.den<10^k):addQ (numS p) (numS q)=(numS (p+q),0):=by
 obtain ⟨zp,zq⟩:=Vf h1 h2 h3
 have e1:(p.num*q.den).natAbs<10^k:=by rw[Int.natAbs_mul,Int.natAbs_natCast];exact h1
 have e2:(q.num*p.den).natAbs<10^k:=by rw[Int.natAbs_mul,Int.natAbs_natCast];exact h2
 unfold addQ
 rw[tK zp zq ⟨hk.1,by omega⟩ ⟨hk.1,by omega⟩,if_neg]
 simp only[Bool.or_eq_true,not_or,Bool.not_eq_true]
 exact ⟨⟨⟨cK ⟨hk.1,by omega⟩ e1,cK ⟨hk.1,by omega⟩ e2⟩,cK (k:=k+1) ⟨by omega,hk.2⟩ (iX e1 e2).1⟩,cK ⟨hk.1,by omega⟩ (by rw[← Int.natCast_mul,Int.natAbs_natCast];exact h3)⟩
theorem aC4 (p q:Rat):cmpI (p.num*q.den) (q.num*p.den)=cmpR p q:=by
 unfold cmpI cmpR
 by_cases h1:p<q
 ·rw[if_pos h1,if_pos ((Rat.lt_iff p q).1 h1)]
 ·rw[if_neg h1,if_neg (fun h=>h1 ((Rat.lt_iff p q).2 h))]
  by_cases h2:q<p
  ·have:=(Rat.lt_iff q p).1 h2
   rw[if_pos h2,if_neg (by omega)]
  ·have h3:¬q.num*p.den<p.num*q.den:=fun h=>h2 ((Rat.lt_iff q p).2 h)
   have h4:¬p.num*q.den<q.num*p.den:=fun h=>h1 ((Rat.lt_iff p q).2 h)
   rw[if_neg h2,if_pos (by omega)]
theorem aC5 (hk:0<k∧k≤300) (zp:Sz k p) (zq:Sz k q) (h1:p.num.natAbs*q.den<10^k) (h2:q.num.natAbs*p.den<10^k):cmpQ (numS p) (numS q)=(cmpR p q,0):=by
 have e1:(p.num*q.den).natAbs<10^k:=by rw[Int.natAbs_mul,Int.natAbs_natCast];exact h1
 have e2:(q.num*p.den).natAbs<10^k:=by rw[Int.natAbs_mul,Int.natAbs_natCast];exact h2
 unfold cmpQ
 rw[if_neg (by rw[kY zp hk];simp),if_neg (by rw[kY zq hk];simp),cU,cU]
 unfold cmpf
 rw[if_neg]
 ·rw[aC4]
 simp only[Bool.or_eq_true,not_or,Bool.not_eq_true]
 exact ⟨cK hk e1,cK hk e2⟩
end
theorem yY (q:Rat):((q.num:Int):Rat)=q*((q.den:Nat):Rat):=by
 have h:((q.den:Nat):Rat)≠0:=by
  have:=q.den_pos
  have:=Rat.natCast_pos.2 this
  exact fun e=>Rat.lt_irrefl (e ▸ this)
 have e:q=(q.num:Rat)/((q.den:Nat):Rat):=by
  conv=>lhs;rw[← Rat.mkRat_self q,Rat.mkRat_eq_div]
 conv=>rhs;lhs;rw[e]
 rw[Rat.div_mul_cancel h]
theorem mV (q:Rat):(0:Rat)≤((q.den:Nat):Rat):=Rat.natCast_nonneg
theorem Vh {x H S:Rat} (c:Nat) (h:x≤H+(c:Rat)*S):x.num*(H.den*S.den:Nat)≤(H.num*S.den+c*S.num*H.den)*x.den:=by
 apply Rat.intCast_le_intCast.1
 simp only[Rat.intCast_mul,Rat.intCast_add,Rat.intCast_natCast,Rat.natCast_mul,yY]
 have:=Rat.mul_le_mul_of_nonneg_right (c:=((x.den:Nat):Rat)*(((H.den:Nat):Rat)*((S.den:Nat):Rat))) h (Rat.mul_nonneg (mV x) (Rat.mul_nonneg (mV H) (mV S)))
 grind
theorem aC6 {x H S:Rat} (c:Nat) (h:H-(c:Rat)*S≤x):(H.num*S.den-c*S.num*H.den)*x.den≤x.num*(H.den*S.den:Nat):=by
 apply Rat.intCast_le_intCast.1
 simp only[Rat.intCast_mul,Rat.intCast_sub,Rat.intCast_natCast,Rat.natCast_mul,yY]
 have:=Rat.mul_le_mul_of_nonneg_right (c:=((x.den:Nat):Rat)*(((H.den:Nat):Rat)*((S.den:Nat):Rat))) h (Rat.mul_nonneg (mV x) (Rat.mul_nonneg (mV H) (mV S)))
 grind
def Lm (l:List (List UInt8)):Prop:=∀a∈l,chkQ a=0→a.length≤82
theorem Lm.at {l:List (List UInt8)} (h:Lm l) {i:Nat} (hi:i<l.length) (hk:chkQ (l.getD i [])=0):(l.getD i []).length≤82:=h _ (Vb hi) hk
noncomputable def wiS (l:List (List UInt8)) (lo hi:List UInt8):List (List UInt8) × Int:=if ckS l≠0∨¬rgP lo hi then ([],1) else (l.filter (inR lo hi),0)
theorem bt2 {A B D l h s t N:Nat} (hl:0<l) (hD:1≤D) (hDt:D*t≤100*(s*l*h)) (hB:B*l≤D+A*h) (h1:A*l<N) (h2:B*h<N) (h3:s*t<N):B*(t*t)≤200*(N*N)*h:=by
 have hN:1≤N:=by omega
 by_cases hc:2*(A*h)≤B*l
 ·have e1:B*l≤2*D:=by omega
  have e2:(B*l)*t≤(2*D)*t:=Nat.mul_le_mul_right _ e1
  have e3:(2*D)*t=2*(D*t):=Nat.mul_assoc ..
  have e4:(B*t)*l≤(200*(s*h))*l:=by
   have e5:(B*t)*l=(B*l)*t:=by ac_rfl
   have e6:(200*(s*h))*l=200*(s*l*h):=by ac_rfl
   rw[e5,e6];omega
  have e7:B*t≤200*(s*h):=Nat.le_of_mul_le_mul_right e4 hl
  have e8:(B*t)*t≤(200*(s*h))*t:=Nat.mul_le_mul_right _ e7
  have e9:(200*(s*h))*t=200*((s*t)*h):=by ac_rfl
  have e10:(s*t)*h≤(N*N)*h:=Nat.mul_le_mul_right _ (Nat.le_trans (Nat.le_of_lt h3) (Nat.le_mul_of_pos_right N hN))
  have e11:200*(N*N)*h=200*((N*N)*h):=Nat.mul_assoc ..
  have e12:B*(t*t)=(B*t)*t:=(Nat.mul_assoc ..).symm
  omega
 ·have q:B*l<2*N:=by
   refine Nat.lt_of_not_le fun hq=>?_
   have f1:(2*N)*(2*N)≤(B*l)*(B*l):=Nat.mul_le_mul hq hq
   have f2:(B*l)*(B*l)≤(B*l)*(2*(A*h)):=Nat.mul_le_mul_left _ (by omega)
   have f3:(B*l)*(2*(A*h))=2*((B*h)*(A*l)):=by ac_rfl
   have f4:(B*h)*(A*l)≤N*N:=Nat.mul_le_mul (Nat.le_of_lt h2) (Nat.le_of_lt h1)
   have f5:(2*N)*(2*N)=4*(N*N):=by rw[show 4=2*2 from rfl];ac_rfl
   have f6:1*1≤N*N:=Nat.mul_le_mul hN hN
   omega
  have g1:t≤D*t:=Nat.le_mul_of_pos_left t hD
  have g2:(B*t)*t≤(B*t)*(100*(s*l*h)):=Nat.mul_le_mul_left _ (Nat.le_trans g1 hDt)
  have g3:(B*t)*(100*(s*l*h))=100*(((s*t)*(B*l))*h):=by ac_rfl
  have g4:(s*t)*(B*l)≤N*(2*N):=Nat.mul_le_mul (Nat.le_of_lt h3) (Nat.le_of_lt q)
  have g5:((s*t)*(B*l))*h≤(N*(2*N))*h:=Nat.mul_le_mul_right _ g4
  have g6:(N*(2*N))*h=2*((N*N)*h):=by ac_rfl
  have g7:200*(N*N)*h=200*((N*N)*h):=Nat.mul_assoc ..
  have g8:B*(t*t)=(B*t)*t:=(Nat.mul_assoc ..).symm
  omega
abbrev N82:Nat:=10^82
structure AtH (L H O S:Rat):Prop where
 wL:Wt 82 L
 wH:Wt 82 H
 wS:Wt 82 S
 zL:Sz 82 L
 zH:Sz 82 H
 zO:Sz 82 O
 zS:Sz 82 S
 le:L≤H
 pos:0<S
 few:H≤L+((100:Nat):Rat)*S
section
variable {L H O S:Rat}
theorem sM {q:Rat} (h:0<q):0<q.num:=by
 have:=(Rat.lt_iff 0 q).1 h
 simpa using this
theorem AtH.t2 (h:AtH L H O S) (hlt:L<H):H.num.natAbs*(S.den*S.den)≤200*(N82*N82)*H.den∧L.num.natAbs*(S.den*S.den)≤200*(N82*N82)*L.den:=by
 have hs:=sM h.pos
 have h1:=(Rat.lt_iff L H).1 hlt
 have h2:=Vh 100 h.few
 have hl:=L.den_pos
 have hh:=H.den_pos
 have eX:(H.num*L.den).natAbs=H.num.natAbs*L.den:=by rw[Int.natAbs_mul,Int.natAbs_natCast]
 have eY:(L.num*H.den).natAbs=L.num.natAbs*H.den:=by rw[Int.natAbs_mul,Int.natAbs_natCast]
 obtain ⟨D,hD⟩:∃D:Nat,(D:Int)=H.num*L.den-L.num*H.den:=⟨(H.num*L.den-L.num*H.den).toNat,by omega⟩
 have hD1:1≤D:=by omega
 have hDt:D*S.den≤100*(S.num.natAbs*L.den*H.den):=by
  have es:((S.num.natAbs:Nat):Int)=S.num:=by omega
  have:((D*S.den:Nat):Int)≤((100*(S.num.natAbs*L.den*H.den):Nat):Int):=by
   push_cast
   rw[es,hD]
   push_cast at h2
   grind
  exact Int.ofNat_le.1 this
 have b1:H.num.natAbs*L.den≤D+L.num.natAbs*H.den:=by rw[← eX,← eY];omega
 have b2:L.num.natAbs*H.den≤D+H.num.natAbs*L.den:=by rw[← eX,← eY];omega
 refine ⟨bt2 hl hD1 hDt b1 h.wL h.wH h.wS,bt2 hh hD1 (Nat.le_trans hDt (Nat.le_of_eq (by ac_rfl))) b2 h.wH h.wL h.wS⟩
theorem AtH.xt (h:AtH L H O S) {x:Rat} (h1:L≤x) (h2:x≤H) (hd:x.den≤O.den*S.den):x.num.natAbs*S.den<10^250:=by
 have ho:=h.zO.2
 by_cases hlt:L<H
 ·obtain ⟨tH,tL⟩:=h.t2 hlt
  have key:∀ {q:Rat},q.num.natAbs*(S.den*S.den)≤200*(N82*N82)*q.den→x.num.natAbs*q.den≤q.num.natAbs*x.den→x.num.natAbs*S.den≤200*(N82*N82)*O.den:=fun {q} t e=>by
   have f1:q.num.natAbs*x.den≤q.num.natAbs*(O.den*S.den):=Nat.mul_le_mul_left _ hd
   have f2:(x.num.natAbs*q.den)*S.den≤(q.num.natAbs*(O.den*S.den))*S.den:=Nat.mul_le_mul_right _ (Nat.le_trans e f1)
   have f3:(q.num.natAbs*(O.den*S.den))*S.den=O.den*(q.num.natAbs*(S.den*S.den)):=by ac_rfl
   have f4:O.den*(q.num.natAbs*(S.den*S.den))≤O.den*(200*(N82*N82)*q.den):=Nat.mul_le_mul_left _ t
   have f5:(x.num.natAbs*S.den)*q.den≤(200*(N82*N82)*O.den)*q.den:=by
    have f6:(x.num.natAbs*S.den)*q.den=(x.num.natAbs*q.den)*S.den:=by ac_rfl
    have f7:(200*(N82*N82)*O.den)*q.den=O.den*(200*(N82*N82)*q.den):=by ac_rfl
    rw[f6,f7]
    exact Nat.le_trans f2 (by rw[f3];exact f4)
   exact Nat.le_of_mul_le_mul_right f5 q.den_pos
  have e1:=(Rat.le_iff L x).1 h1
  have e2:=(Rat.le_iff x H).1 h2
  have hb:x.num.natAbs*S.den≤200*(N82*N82)*O.den:=by
   by_cases hx:0≤x.num
   ·refine key tH ?_
    have a1:(x.num*H.den).natAbs=x.num.natAbs*H.den:=by rw[Int.natAbs_mul,Int.natAbs_natCast]
    have a2:(H.num*x.den).natAbs=H.num.natAbs*x.den:=by rw[Int.natAbs_mul,Int.natAbs_natCast]
    have a3:0≤x.num*H.den:=Int.mul_nonneg hx (by omega)
    rw[← a1,← a2];omega
   ·refine key tL ?_
    have a1:(x.num*L.den).natAbs=x.num.natAbs*L.den:=by rw[Int.natAbs_mul,Int.natAbs_natCast]
    have a2:(L.num*x.den).natAbs=L.num.natAbs*x.den:=by rw[Int.natAbs_mul,Int.natAbs_natCast]
    have a3:x.num*L.den≤0:=Int.mul_nonpos_of_nonpos_of_nonneg (by omega) (by omega)
    rw[← a1,← a2];omega
  refine Nat.lt_of_le_of_lt (Nat.le_trans hb (Nat.mul_le_mul_left _ (Nat.le_of_lt ho))) ?_
  decide
 ·have e:x=L:=Rat.le_antisymm (Rat.le_trans h2 (Rat.not_lt.1 hlt)) h1
  rw[e]
  refine Nat.lt_of_lt_of_le (Nat.mul_lt_mul'' h.zL.1 h.zS.2) ?_
  decide
theorem AtH.xh (h:AtH L H O S) {x:Rat} (h1:L≤x) (h2:x≤H+((100:Nat):Rat)*S) (hd:x.den≤O.den*S.den):x.num.natAbs*H.den<10^250:=by
 have hs:=sM h.pos
 have h1':H-((100:Nat):Rat)*S≤x:=by have:=h.few;grind
 have e1:=Vh 100 h2
 have e2:=aC6 100 h1'
 have ho:=h.zO.2
 have es:((S.num.natAbs:Nat):Int)=S.num:=by omega
 have c1:x.num.natAbs*(H.den*S.den)≤(H.num.natAbs*S.den+100*(S.num.natAbs*H.den))*x.den:=by
  have a1:(x.num*(H.den*S.den:Nat)).natAbs=x.num.natAbs*(H.den*S.den):=by rw[Int.natAbs_mul,Int.natAbs_natCast]
  have a2:((((H.num.natAbs*S.den+100*(S.num.natAbs*H.den))*x.den:Nat)):Int)=(H.num.natAbs*S.den)*x.den+(100*S.num*H.den)*x.den:=by
   push_cast
   rw[es]
   grind
  have a3:(H.num*S.den)*x.den≤((H.num.natAbs:Int)*S.den)*x.den:=Int.mul_le_mul_of_nonneg_right (Int.mul_le_mul_of_nonneg_right (by omega) (by omega)) (by omega)
  have a4:(-(H.num.natAbs:Int)*S.den)*x.den≤(H.num*S.den)*x.den:=Int.mul_le_mul_of_nonneg_right (Int.mul_le_mul_of_nonneg_right (by omega) (by omega)) (by omega)
  have a5:(H.num*S.den+(100:Nat)*S.num*H.den)*x.den=(H.num*S.den)*x.den+(100*S.num*H.den)*x.den:=by push_cast;grind
  have a6:(H.num*S.den-(100:Nat)*S.num*H.den)*x.den=(H.num*S.den)*x.den-(100*S.num*H.den)*x.den:=by push_cast;grind
  have a7:(-(H.num.natAbs:Int)*S.den)*x.den= -(((H.num.natAbs:Int)*S.den)*x.den):=by grind
  rw[← a1]
  rw[a5] at e1
  rw[a6] at e2
  omega
 have c2:(x.num.natAbs*H.den)*S.den≤((H.num.natAbs*S.den+100*(S.num.natAbs*H.den))*O.den)*S.den:=by
  have:=Nat.mul_le_mul_left (H.num.natAbs*S.den+100*(S.num.natAbs*H.den)) hd
  have b1:(x.num.natAbs*H.den)*S.den=x.num.natAbs*(H.den*S.den):=Nat.mul_assoc ..
  have b2:((H.num.natAbs*S.den+100*(S.num.natAbs*H.den))*O.den)*S.den=(H.num.natAbs*S.den+100*(S.num.natAbs*H.den))*(O.den*S.den):=Nat.mul_assoc ..
  omega
 have c3:=Nat.le_of_mul_le_mul_right c2 S.den_pos
 have d1:=Nat.mul_lt_mul'' h.zH.1 h.zS.2
 have d2:=Nat.mul_lt_mul'' h.zS.1 h.zH.2
 have d3:H.num.natAbs*S.den+100*(S.num.natAbs*H.den)≤101*(10^82*10^82):=by omega
 refine Nat.lt_of_le_of_lt (Nat.le_trans c3 (Nat.mul_le_mul d3 (Nat.le_of_lt ho))) ?_
 decide
theorem aB0 {P Q S:Rat} (zP:Sz 82 P) (zQ:Sz 82 Q) (zS:Sz 82 S) (hS:0<S):(flI ((P-Q)/S)).natAbs*S.num.natAbs<10^165:=by
 have hs:=sM hS
 have es:((S.num.natAbs:Nat):Int)=S.num:=by omega
 have k1:((flI ((P-Q)/S):Int):Rat)*S≤P-Q:=(kA hS).1 (rD _)
 have k2:P-Q≤((flI ((P-Q)/S)+1:Int):Rat)*S:=by
  have:=Rat.le_of_lt (Rat.not_le.1 fun h=>Rat.not_le.2 (oK ((P-Q)/S)) ((kA hS).2 h))
  exact this
 generalize flI ((P-Q)/S)=k at*
 have hP:=P.den_pos
 have hQ:=Q.den_pos
 have nn:(0:Rat)≤((S.den:Nat):Rat)*(((P.den:Nat):Rat)*((Q.den:Nat):Rat)):=Rat.mul_nonneg (mV S) (Rat.mul_nonneg (mV P) (mV Q))
 have i1:k*S.num*(P.den*Q.den:Nat)≤(P.num*Q.den-Q.num*P.den)*S.den:=by
  apply Rat.intCast_le_intCast.1
  simp only[Rat.intCast_mul,Rat.intCast_sub,Rat.intCast_natCast,Rat.natCast_mul,yY]
  have:=Rat.mul_le_mul_of_nonneg_right k1 nn
  grind
 have i2:(P.num*Q.den-Q.num*P.den)*S.den≤(k+1)*S.num*(P.den*Q.den:Nat):=by
  apply Rat.intCast_le_intCast.1
  rw[Rat.intCast_mul,Rat.intCast_mul ((k+1)*S.num),Rat.intCast_mul (k+1),Rat.intCast_sub]
  simp only[Rat.intCast_mul,Rat.intCast_natCast,Rat.natCast_mul,yY]
  have:=Rat.mul_le_mul_of_nonneg_right k2 nn
  grind
 have m1:P.num.natAbs*Q.den≤P.num.natAbs*(P.den*Q.den):=Nat.mul_le_mul_left _ (Nat.le_mul_of_pos_left _ hP)
 have m2:Q.num.natAbs*P.den≤Q.num.natAbs*(P.den*Q.den):=Nat.mul_le_mul_left _ (Nat.le_mul_of_pos_right _ hQ)
 have a1:(P.num*Q.den).natAbs=P.num.natAbs*Q.den:=by rw[Int.natAbs_mul,Int.natAbs_natCast]
 have a2:(Q.num*P.den).natAbs=Q.num.natAbs*P.den:=by rw[Int.natAbs_mul,Int.natAbs_natCast]
 have m3:(P.num*Q.den-Q.num*P.den).natAbs≤(P.num.natAbs+Q.num.natAbs)*(P.den*Q.den):=by
  rw[Nat.add_mul];omega
 have m4:((P.num*Q.den-Q.num*P.den)*S.den).natAbs≤((P.num.natAbs+Q.num.natAbs)*S.den)*(P.den*Q.den):=by
  rw[Int.natAbs_mul,Int.natAbs_natCast]
  refine Nat.le_trans (Nat.mul_le_mul_right _ m3) (Nat.le_of_eq (by ac_rfl))
 have hd:0<P.den*Q.den:=Nat.mul_pos hP hQ
 have key:k.natAbs*S.num.natAbs≤(P.num.natAbs+Q.num.natAbs)*S.den+S.num.natAbs:=by
  by_cases hk:0≤k
  ·have f1:(k*S.num*(P.den*Q.den:Nat)).natAbs=(k.natAbs*S.num.natAbs)*(P.den*Q.den):=by rw[Int.natAbs_mul,Int.natAbs_mul,Int.natAbs_natCast]
   have f2:0≤k*S.num*(P.den*Q.den:Nat):=Int.mul_nonneg (Int.mul_nonneg hk (by omega)) (by omega)
   have f3:(k.natAbs*S.num.natAbs)*(P.den*Q.den)≤((P.num.natAbs+Q.num.natAbs)*S.den)*(P.den*Q.den):=by rw[← f1];omega
   have:=Nat.le_of_mul_le_mul_right f3 hd
   omega
  ·have f1:((k+1)*S.num*(P.den*Q.den:Nat)).natAbs=((k+1).natAbs*S.num.natAbs)*(P.den*Q.den):=by rw[Int.natAbs_mul,Int.natAbs_mul,Int.natAbs_natCast]
   have f2:(k+1)*S.num*(P.den*Q.den:Nat)≤0:=Int.mul_nonpos_of_nonpos_of_nonneg (Int.mul_nonpos_of_nonpos_of_nonneg (by omega) (by omega)) (by omega)
   have f3:((k+1).natAbs*S.num.natAbs)*(P.den*Q.den)≤((P.num.natAbs+Q.num.natAbs)*S.den)*(P.den*Q.den):=by rw[← f1];omega
   have f4:=Nat.le_of_mul_le_mul_right f3 hd
   have f5:k.natAbs=(k+1).natAbs+1:=by omega
   rw[f5,Nat.add_mul,Nat.one_mul]
   omega
 have d1:(P.num.natAbs+Q.num.natAbs)*S.den≤(10^82+10^82)*10^82:=Nat.mul_le_mul (Nat.add_le_add (Nat.le_of_lt zP.1) (Nat.le_of_lt zQ.1)) (Nat.le_of_lt zS.2)
 have d2:=zS.1
 have d3:(10^82+10^82)*10^82+10^82<10^165:=by decide
 omega
end
theorem Fn {q:Rat} {k:Nat} (h:Sz k q) (hk:0<k∧k≤300):flQ (numS q)=(itoa (flI q),0):=by
 unfold flQ
 rw[if_pos (kY h hk),cU];rfl
section
variable {L H O S:Rat}
noncomputable abbrev atX (L O S:Rat) (i:Nat):Rat:=gF L O S+S*((i:Int):Rat)
theorem aCz (i:Nat):atX L O S i=O-((bG L O S-i:Int):Rat)*S:=by
 unfold atX gF
 rw[Rat.intCast_sub]
 grind
theorem Uy:atX L O S 0=gF L O S:=by
 unfold atX
 rw[show (((0:Nat):Int):Rat)=0 from rfl,Rat.mul_zero,Rat.add_zero]
theorem Jj (i:Nat):atX L O S (i+1)=atX L O S i+S:=by
 unfold atX
 rw[show ((i+1:Nat):Int)=(i:Int)+1 by omega,Rat.intCast_add,Rat.intCast_one]
 grind
theorem Jk (K:Int):(O-(K:Rat)*S).den≤O.den*S.den:=by
 rw[pS]
 refine Nat.le_trans (uA _ (uQ _ _)).2 (Nat.mul_le_mul_left _ ?_)
 rw[uD]
 refine Nat.le_trans (uA _ (uQ _ _)).2 ?_
 rw[Rat.den_intCast,Nat.one_mul];exact Nat.le_refl _
theorem Pd (i:Nat):(atX L O S i).den≤O.den*S.den:=by rw[aCz];exact Jk _
theorem AtH.count (h:AtH L H O S): -1≤bG L O S+eW H O S∧bG L O S+eW H O S≤100:=by
 have hS:=h.pos
 have a1:((bG L O S:Int):Rat)*S≤O-L:=(kA hS).1 (rD _)
 have a2:((eW H O S:Int):Rat)*S≤H-O:=(kA hS).1 (rD _)
 have b1:O-L≤((bG L O S+1:Int):Rat)*S:=Rat.le_of_lt (Rat.not_le.1 fun h=>Rat.not_le.2 (oK _) ((kA hS).2 h))
 have b2:H-O≤((eW H O S+1:Int):Rat)*S:=Rat.le_of_lt (Rat.not_le.1 fun h=>Rat.not_le.2 (oK _) ((kA hS).2 h))
 have b1':¬((bG L O S+1:Int):Rat)*S≤O-L:=fun h=>Rat.not_le.2 (oK _) ((kA hS).2 h)
 have b2':¬((eW H O S+1:Int):Rat)*S≤H-O:=fun h=>Rat.not_le.2 (oK _) ((kA hS).2 h)
 generalize bG L O S=x at*
 generalize eW H O S=y at*
 have few:=h.few
 have le:=h.le
 constructor
 ·refine Int.not_lt.1 fun hlt=>?_
  have h1:((x+1+(y+1):Int):Rat)≤((0:Int):Rat):=Rat.intCast_le_intCast.2 (by omega)
  have h2:=Rat.mul_le_mul_of_nonneg_right h1 (Rat.le_of_lt hS)
  rw[Rat.intCast_add (x+1),Rat.add_mul,Rat.intCast_zero,Rat.zero_mul] at h2
  have h3:=Rat.not_le.1 b1'
  have h4:=Rat.not_le.1 b2'
  generalize ((x+1:Int):Rat)*S=u at*
  generalize ((y+1:Int):Rat)*S=v at*
  grind
 ·refine Int.not_lt.1 fun hlt=>?_
  have h1:((101:Int):Rat)≤((x+y:Int):Rat):=Rat.intCast_le_intCast.2 (by omega)
  have h2:=Rat.mul_le_mul_of_nonneg_right h1 (Rat.le_of_lt hS)
  rw[Rat.intCast_add,Rat.add_mul] at h2
  have e:((101:Int):Rat)*S=((100:Nat):Rat)*S+S:=by
   rw[show ((101:Int):Rat)=((100:Nat):Rat)+1 from Rat.intCast_add 100 1,Rat.add_mul,Rat.one_mul]
  rw[e] at h2
  generalize ((100:Nat):Rat)*S=w at*
  generalize (x:Rat)*S=u at*
  generalize (y:Rat)*S=v at*
  grind
theorem AtH.f1 (h:AtH L H O S):subQ (numS O) (numS L)=(numS (O-L),0):=nK h.zO h.zL (by decide) (by decide) (by decide)
theorem AtH.f4 (h:AtH L H O S):subQ (numS H) (numS O)=(numS (H-O),0):=nK h.zH h.zO (by decide) (by decide) (by decide)
theorem fW {S:Rat} (h:0<S):S≠0:=fun e=>Rat.lt_irrefl (e ▸ h)
theorem AtH.f2 (h:AtH L H O S):divQ (numS (O-L)) (numS S)=(numS ((O-L)/S),0):=kN (h.zO.sub h.zL) h.zS (by decide) (by decide) (by decide) (fW h.pos)
theorem AtH.f5 (h:AtH L H O S):divQ (numS (H-O)) (numS S)=(numS ((H-O)/S),0):=kN (h.zH.sub h.zO) h.zS (by decide) (by decide) (by decide) (fW h.pos)
theorem AtH.f3 (h:AtH L H O S):flQ (numS ((O-L)/S))=(itoa (bG L O S),0):=Fn ((h.zO.sub h.zL).div h.zS (fW h.pos)) ⟨by decide,by decide⟩
theorem AtH.f6 (h:AtH L H O S):flQ (numS ((H-O)/S))=(itoa (eW H O S),0):=Fn ((h.zH.sub h.zO).div h.zS (fW h.pos)) ⟨by decide,by decide⟩
theorem AtH.below (h:AtH L H O S):(bG L O S).natAbs*S.num.natAbs<10^165∧(bG L O S).natAbs<10^165:=by
 have h1:=aB0 h.zO h.zL h.zS h.pos
 have hs:=sM h.pos
 exact ⟨h1,Nat.lt_of_le_of_lt (Nat.le_mul_of_pos_right _ (by omega)) h1⟩
theorem AtH.above (h:AtH L H O S):(eW H O S).natAbs<10^165:=by
 have h1:=aB0 h.zH h.zO h.zS h.pos
 have hs:=sM h.pos
 exact Nat.lt_of_le_of_lt (Nat.le_mul_of_pos_right _ (by omega)) h1
theorem AtH.f7 (h:AtH L H O S):addQ (itoa (bG L O S)) (itoa (eW H O S))=(itoa (bG L O S+eW H O S),0):=by
 have:=Vg (p:=((bG L O S:Int):Rat)) (q:=((eW H O S:Int):Rat)) (k:=165) ⟨by decide,by decide⟩ (by rw[Rat.num_intCast,Rat.den_intCast,Nat.mul_one];exact h.below.2) (by rw[Rat.num_intCast,Rat.den_intCast,Nat.mul_one];exact h.above) (by rw[Rat.den_intCast,Rat.den_intCast];decide)
 rwa [← Rat.intCast_add,eS,eS,eS] at this
theorem AtH.in (h:AtH L H O S) {i:Nat} (hi:(i:Int)<sN L H O S):L≤atX L O S i∧atX L O S i≤H:=by
 refine ⟨?_,(at_in h.pos i).2 hi⟩
 have h1:=(Mk (L:=L) (O:=O) h.pos).1
 have h2:0≤S*((i:Int):Rat):=Rat.mul_nonneg (Rat.le_of_lt h.pos) (Rat.intCast_nonneg.2 (by omega))
 show L≤gF L O S+ _
 generalize S*((i:Int):Rat)=u at*
 grind
theorem AtH.f15 (h:AtH L H O S) {i:Nat} (hi:(i:Int)<sN L H O S):addQ (numS (atX L O S i)) (numS S)=(numS (atX L O S (i+1)),0):=by
 obtain ⟨r1,r2⟩:=h.in hi
 have hd:=Pd (L:=L) (O:=O) (S:=S) i
 have hx:=h.xt r1 r2 hd
 have zO:=h.zO.2
 have zS:=h.zS
 have hd2:(atX L O S i).den≤10^82*10^82:=Nat.le_trans hd (Nat.mul_le_mul (Nat.le_of_lt zO) (Nat.le_of_lt zS.2))
 rw[Jj]
 refine Vg (k:=250) ⟨by decide,by decide⟩ hx ?_ ?_
 ·refine Nat.lt_of_le_of_lt (Nat.mul_le_mul (Nat.le_of_lt zS.1) hd2) ?_
  decide
 ·refine Nat.lt_of_le_of_lt (Nat.mul_le_mul hd2 (Nat.le_of_lt zS.2)) ?_
  decide
theorem AtH.f14 (h:AtH L H O S) {i:Nat} (hi:(i:Int)≤sN L H O S):cmpQ (numS (atX L O S i)) (numS H)=(cmpR (atX L O S i) H,0):=by
 have hd:=Pd (L:=L) (O:=O) (S:=S) i
 have zO:=h.zO.2
 have zS:=h.zS
 have zH:=h.zH
 have hd2:(atX L O S i).den≤10^82*10^82:=Nat.le_trans hd (Nat.mul_le_mul (Nat.le_of_lt zO) (Nat.le_of_lt zS.2))
 have hS:=h.pos
 have le1:L≤atX L O S i:=by
  have h1:=(Mk (L:=L) (O:=O) hS).1
  have h2:0≤S*((i:Int):Rat):=Rat.mul_nonneg (Rat.le_of_lt hS) (Rat.intCast_nonneg.2 (by omega))
  show L≤gF L O S+ _
  generalize S*((i:Int):Rat)=u at*
  grind
 have h100:S≤((100:Nat):Rat)*S:=by
  have:=Rat.mul_le_mul_of_nonneg_right (show (1:Rat)≤((100:Nat):Rat) by decide) (Rat.le_of_lt hS)
  rwa [Rat.one_mul] at this
 have le2:atX L O S i≤H+((100:Nat):Rat)*S:=by
  have:atX L O S i≤H+S:=by
   rcases i with _ | j
   ·rw[Uy]
    have h1:=(Mk (L:=L) (O:=O) hS).2
    have:=h.le
    grind
   ·rw[Jj]
    have:=(h.in (i:=j) (by omega)).2
    exact Rat.add_le_add_right.2 this
  generalize ((100:Nat):Rat)*S=w at*
  grind
 have hx:=h.xh le1 le2 hd
 have n1:=H.den_pos
 have n2:=S.den_pos
 refine aC5 (k:=250) ⟨by decide,by decide⟩ ⟨Nat.lt_of_le_of_lt (Nat.le_mul_of_pos_right _ n1) hx,Nat.lt_of_le_of_lt hd2 (by decide)⟩ (zH.mono (by decide)) hx ?_
 refine Nat.lt_of_le_of_lt (Nat.mul_le_mul (Nat.le_of_lt zH.1) hd2) ?_
 decide
end
structure EvH (L H M:Rat):Prop where
 zL:Sz 82 L
 zH:Sz 82 H
 zM:Sz 82 M
 lt:L<H
 pos:0<M
section
variable {L H M:Rat}
noncomputable abbrev evC (L H M:Rat):Int:=clI ((H-L)/M)
theorem EvH.e1 (h:EvH L H M):subQ (numS H) (numS L)=(numS (H-L),0):=nK h.zH h.zL (by decide) (by decide) (by decide)
theorem EvH.e2 (h:EvH L H M):divQ (numS (H-L)) (numS M)=(numS ((H-L)/M),0):=kN (h.zH.sub h.zL) h.zM (by decide) (by decide) (by decide) (fW h.pos)
theorem EvH.sq (h:EvH L H M):Sz 247 ((H-L)/M):=(h.zH.sub h.zL).div h.zM (fW h.pos)
theorem EvH.e3 (h:EvH L H M):flQ (numS ((H-L)/M))=(itoa (flI ((H-L)/M)),0):=Fn h.sq ⟨by decide,by decide⟩
theorem EvH.cpos (h:EvH L H M):0<evC L H M:=aC3 h.lt h.pos
theorem sz4 {n:Int} (h0:0≤n) (h:n≤5000):Sz 4 (n:Rat):=uR (by have:(10:Nat)^4=10000:=(by decide);omega) (by decide)
theorem EvH.st (h:EvH L H M) (hc:evC L H M≤4095):Sz 169 (oL L H M):=by
 have h0:=h.cpos
 have h1:0<clI ((H-L)/M):=h0
 have h2:clI ((H-L)/M)≤4095:=hc
 refine (h.zH.sub h.zL).div (sz4 (by omega) (by omega)) fun e=>?_
 have:=Rat.intCast_eq_zero_iff.1 e
 omega
theorem EvH.e4 (h:EvH L H M) (hc:evC L H M≤4095):divQ (numS (H-L)) (itoa (evC L H M))=(numS (oL L H M),0):=by
 have h0:=h.cpos
 have:=kN (h.zH.sub h.zL) (sz4 (n:=evC L H M) (by omega) (by omega)) (by decide) (by decide) (by decide) (fun e=>by
  have:=Rat.intCast_eq_zero_iff.1 e
  omega)
 rwa [eS] at this
theorem EvH.e5 (h:EvH L H M) (hc:evC L H M≤4095) {k:Nat} (hk:k≤5000):mulQ (numS (oL L H M)) (itoa k)=(numS (oL L H M*((k:Int):Rat)),0):=by
 have:=qB (h.st hc) (sz4 (n:=(k:Int)) (by omega) (by omega)) (by decide) (by decide) (by decide)
 rwa [eS] at this
theorem EvH.e6 (h:EvH L H M) (hc:evC L H M≤4095) {k:Nat} (hk:k≤5000):addQ (numS L) (numS (oL L H M*((k:Int):Rat)))=(numS (L+oL L H M*((k:Int):Rat)),0):=
 wP h.zL ((h.st hc).mul (sz4 (n:=(k:Int)) (by omega) (by omega))) (by decide) (by decide) (by decide)
theorem aC0 (q:Rat):flI (-q)= -clI q:=by
 apply Int.le_antisymm
 ·have h1:=rD (-q)
  have h2:q≤((-flI (-q):Int):Rat):=by rw[Rat.intCast_neg];exact Rat.le_neg_iff.1 (by grind)
  have h3:=aC2 q
  have h4:((clI q-1:Int):Rat)<((-flI (-q):Int):Rat):=Rat.not_le.1 fun h=>Rat.not_le.2 h3 (Rat.le_trans h2 h)
  have:=Rat.intCast_lt_intCast.1 h4
  omega
 ·rw[← Ve,Rat.intCast_neg]
  exact Rat.neg_le_neg (Vc q)
theorem EvH.r1 (h:EvH L H M):subQ (numS L) (numS H)=(numS (L-H),0):=nK h.zL h.zH (by decide) (by decide) (by decide)
theorem EvH.r2 (h:EvH L H M):divQ (numS (L-H)) (numS M)=(numS ((L-H)/M),0):=kN (h.zL.sub h.zH) h.zM (by decide) (by decide) (by decide) (fW h.pos)
theorem neg_q:(L-H)/M= -((H-L)/M):=by
 rw[Rat.div_def,Rat.div_def,← Rat.neg_mul]
 congr 1
 grind
theorem EvH.sq' (h:EvH L H M):Sz 247 ((L-H)/M):=(h.zL.sub h.zH).div h.zM (fW h.pos)
theorem EvH.r3 (h:EvH L H M):flQ (numS ((L-H)/M))=(itoa (-evC L H M),0):=by
 rw[Fn h.sq' ⟨by decide,by decide⟩,neg_q,aC0]
theorem EvH.r4 (h:EvH L H M) (hc:evC L H M≤4095):divQ (numS (L-H)) (itoa (-evC L H M))=(numS (oL L H M),0):=by
 have h0:=h.cpos
 have z:Sz 4 ((-evC L H M:Int):Rat):=uR (by have:(10:Nat)^4=10000:=(by decide);omega) (by decide)
 have:=kN (h.zL.sub h.zH) z (by decide) (by decide) (by decide) (fun e=>by
  have:=Rat.intCast_eq_zero_iff.1 e
  omega)
 rw[eS] at this
 rw[this]
 unfold oL
 have hc0:((evC L H M:Int):Rat)≠0:=fun e=>by
  have:=Rat.intCast_eq_zero_iff.1 e
  omega
 have e1:(H-L)/((evC L H M:Int):Rat)*((evC L H M:Int):Rat)=H-L:=Rat.div_mul_cancel hc0
 have hc1:((-evC L H M:Int):Rat)≠0:=fun e=>by
  have:=Rat.intCast_eq_zero_iff.1 e
  omega
 have e2:(L-H)/((-evC L H M:Int):Rat)*((-evC L H M:Int):Rat)=L-H:=Rat.div_mul_cancel hc1
 rw[Rat.intCast_neg] at e2 ⊢
 have e3:((L-H) / -((evC L H M:Int):Rat)-(H-L)/((evC L H M:Int):Rat))*((evC L H M:Int):Rat)=0:=by grind
 rcases Rat.mul_eq_zero.1 e3 with e | e
 ·congr 2
  show _=(H-L)/((evC L H M:Int):Rat)
  grind
 ·exact absurd e hc0
end
def grS1 (a:List UInt8):Prop:=Qz a∨(82<a.length∧chkQ a=0)
def grtS (l:List (List UInt8)):Prop:=(∃a∈l,grS1 a)∨16<l.length
noncomputable instance (l:List (List UInt8)):Decidable (grtS l):=Classical.propDecidable _
theorem Lm.sub {l m:List (List UInt8)} (h:Lm l) (hs:∀a∈m,a∈l):Lm m:=fun a ha=>h a (hs a ha)
def Uz (s:List UInt8):Prop:=20<s.length∨chkQ s≠0
noncomputable instance (s:List UInt8):Decidable (Uz s):=Classical.propDecidable _
noncomputable instance:DecidablePred Uz:=fun s=>Classical.propDecidable _
def shS (l:List (List UInt8)):Prop:=∀a∈l,a.length≤20∧chkQ a=0
noncomputable instance (l:List (List UInt8)):Decidable (shS l):=Classical.propDecidable _
def fineS (l:List (List UInt8)):Prop:=(l.length≤16∧shS l)∧ckS l=0
noncomputable instance (l:List (List UInt8)):Decidable (fineS l):=Classical.propDecidable _
theorem aC1 {qs:List Rat} {k:Nat} (hk:0<k∧k≤150) (hq:∀q∈qs,Sz k q) (ha:Asc qs) (hl:qs.length≤4096):ckS (qs.map numS)=0:=by
 unfold ckS
 rw[if_neg (by rw[List.length_map];omega)]
 exact (Zw hk qs hq).2 ha
def mnP (q:List UInt8):Prop:=(cmpQ q [53,48,48,48]).2=0∧0<(cmpQ q [53,48,48,48]).1
noncomputable instance (q:List UInt8):Decidable (mnP q):=Classical.propDecidable _
def fwP (lo hi s:List UInt8):Prop:=(subQ hi lo).2≠0∨(divQ (subQ hi lo).1 s).2≠0∨(cmpQ (divQ (subQ hi lo).1 s).1 [49,48,48]).2≠0∨(cmpQ (divQ (subQ hi lo).1 s).1 [49,48,48]).1≤0∨mnP (divQ (subQ hi lo).1 s).1
noncomputable instance (lo hi s:List UInt8):Decidable (fwP lo hi s):=Classical.propDecidable _
theorem Va (n:Nat):itoa (n:Int)=decDigits n:=by
 unfold itoa
 rw[if_neg (by omega),Int.toNat_natCast]
theorem kK (n:Nat):numS ((n:Int):Rat)=decDigits n:=by rw[eS,Va]
theorem n4:numS 4= [52]:=(kK 4).trans (bQ (by decide))
theorem Zx {L H:Rat} {k:Nat} (zL:Sz k L) (zH:Sz k H) (hk:0<k∧k≤150):rgP (numS L) (numS H)↔L≤H:=by
 unfold rgP
 rw[uS zL zH hk.1 hk.1 (by omega)]
 have h1:=fC H L
 have h2:=Aq H L
 constructor
 ·intro h
  refine Rat.not_lt.1 fun hlt=>?_
  have:=h1.2 hlt
  have:=h.2
  dsimp only at this
  omega
 ·intro h
  have:¬cmpR H L<0:=fun h'=>Rat.not_le.2 (h1.1 h') h
  exact ⟨rfl,by dsimp only;omega⟩
theorem rE {P:Program} {c c':Con} (hc:aD P c) (hf:c'.f=c.f) (hfr:c'.fresh=c.fresh) (hl:(c'.lin,c'.own,c'.hp)=(none,none,none)) (h:∀args K,c'.cl args K→c.cl args K):aD P c':=
 Hv hl (by rw[hf];exact hc.1) fun args K h'=>by
  have:=hc.2.1 args K (h args K h')
  rwa [hf,hfr]
noncomputable def c17n:Con:=aI 63 true fun args K=>match args with
 | [.str a,.str b]=>Alt (Has (fun r=>addQ a b=(r,0)) fun r=>K (.tup [S r,I 0])) (K (.tup [S (addQ a b).1,I (addQ a b).2]))
 | _=>False
theorem k17n:aD Tryz.prog c17n:=rE k17 rfl rfl rfl fun args K h=>by
 simp only[c17n] at h
 split at h
 ·rcases h.or with h | h
  ·obtain ⟨r,e,h⟩:=h.ex
   show K _
   rw[e];exact h
  ·exact h
 ·exact h.elim
noncomputable def c20n:Con:=aI 44 true fun args K=>match args with
 | [.str a,.str b]=>Alt (Has (fun r=>subQ a b=(r,0)) fun r=>K (.tup [S r,I 0])) (K (.tup [S (subQ a b).1,I (subQ a b).2]))
 | _=>False
theorem k20n:aD Tryz.prog c20n:=rE k20 rfl rfl rfl fun args K h=>by
 simp only[c20n] at h
 split at h
 ·rcases h.or with h | h
  ·obtain ⟨r,e,h⟩:=h.ex
   show K _
   rw[e];exact h
  ·exact h
 ·exact h.elim
noncomputable def c19n:Con:=aI 57 true fun args K=>match args with
 | [.str a,.str b]=>Alt (Has (fun r=>mulQ a b=(r,0)) fun r=>K (.tup [S r,I 0])) (K (.tup [S (mulQ a b).1,I (mulQ a b).2]))
 | _=>False
theorem k19n:aD Tryz.prog c19n:=rE k19 rfl rfl rfl fun args K h=>by
 simp only[c19n] at h
 split at h
 ·rcases h.or with h | h
  ·obtain ⟨r,e,h⟩:=h.ex
   show K _
   rw[e];exact h
  ·exact h
 ·exact h.elim
theorem ixAt {n:Int} {C:Nat→Prop} (j:Nat) (e:n=j) (h:C j):Ix n C:=⟨fun i h'=>by
 have:j=i:=by omega
 subst this;exact h⟩
def CmpAll (a b:List (List UInt8)):Prop:=∀x∈a,∀y∈b,(cmpQ x y).2=0
theorem CmpAll.drop {a b:List (List UInt8)} (h:CmpAll a b) (i j:Nat):CmpAll (a.drop i) (b.drop j):=fun x hx y hy=>h x (List.mem_of_mem_drop hx) y (List.mem_of_mem_drop hy)
def npP (d:List UInt8):Prop:=¬((cmpQ [48] d).2=0∧(cmpQ [48] d).1<0)
noncomputable instance (s:List UInt8):Decidable (npP s):=Classical.propDecidable _
noncomputable instance:DecidablePred npP:=fun s=>Classical.propDecidable _
def prP (lo hi s:List UInt8):Prop:=shS [lo,hi,s]∧valQ lo≤valQ hi∧0<valQ s∧(valQ hi-valQ lo)/valQ s≤100
noncomputable instance (lo hi s:List UInt8):Decidable (prP lo hi s):=Classical.propDecidable _
section
variable {L H M:Rat}
end
def eqV (v s:List UInt8):Prop:=v=s
noncomputable instance (v:List UInt8):DecidablePred (eqV v):=fun s=>Classical.propDecidable _
noncomputable instance (v:List UInt8) (l:List (List UInt8)):Decidable (v∈l):=Classical.propDecidable _
def niP (l:List (List UInt8)) (x:List UInt8):Prop:=¬x∈l
noncomputable instance (l:List (List UInt8)) (x:List UInt8):Decidable (niP l x):=Classical.propDecidable _
noncomputable instance (l:List (List UInt8)):DecidablePred (niP l):=fun s=>Classical.propDecidable _
section
variable {α:Type} [DecidableEq α]
theorem kM (x y:α) (r:List α):cpt (x::y::r)=if x=y then cpt (y::r) else x::cpt (y::r):=by rw[cpt]
theorem Ai (x y:α):∀l:List α,cpt (l++ [x,y])=if x=y then cpt (l++ [x]) else cpt (l++ [x])++ [y]
 | []=>by
  show cpt [x,y]=if x=y then cpt [x] else cpt [x]++ [y]
  rw[kM]
  by_cases h:x=y
  ·rw[if_pos h,if_pos h,h]
  ·rw[if_neg h,if_neg h];rfl
 | [a]=>by
  show cpt [a,x,y]=if x=y then cpt [a,x] else cpt [a,x]++ [y]
  have ih:=Ai x y []
  simp only[List.nil_append] at ih
  rw[kM,ih,kM]
  by_cases h:a=x
  ·simp only[if_pos h]
  ·simp only[if_neg h]
   by_cases h2:x=y
   ·simp only[if_pos h2]
   ·simp only[if_neg h2];rfl
 | a::b::r=>by
  have ih:=Ai x y (b::r)
  simp only[List.cons_append] at ih ⊢
  rw[kM,ih,kM]
  by_cases h:a=b
  ·simp only[if_pos h]
  ·simp only[if_neg h]
   by_cases h2:x=y
   ·simp only[if_pos h2]
   ·simp only[if_neg h2];rfl
omit [DecidableEq α] in
theorem pY {xs:List α} {m:Nat} (d:α) (h:m<xs.length):xs.take (m+1)=xs.take m++ [xs.getD m d]:=by
 rw[List.take_succ_eq_append_getElem h]
 simp[List.getD_eq_getElem?_getD,h]
theorem Df {xs:List α} {m:Nat} (d:α) (hm:1≤m) (h:m<xs.length):cpt (xs.take (m+1))=if xs.getD (m-1) d=xs.getD m d then cpt (xs.take m) else cpt (xs.take m)++ [xs.getD m d]:=by
 obtain ⟨k,rfl⟩:∃k,m=k+1:=⟨m-1,by omega⟩
 rw[pY d h,pY d (show k<xs.length by omega),List.append_assoc]
 exact Ai _ _ _
end
theorem Kq {α:Type} {xs ys:List α} {k i:Nat} (d:α) (h:ys.drop k=xs.drop k) (hi:k≤i):ys.getD i d=xs.getD i d:=by
 have e:∀l:List α,l.getD i d=(l.drop k).getD (i-k) d:=fun l=>by
  rw[List.getD_eq_getElem?_getD,List.getD_eq_getElem?_getD,List.getElem?_drop,show k+(i-k)=i by omega]
 rw[e,e,h]
theorem Dg {α:Type} {xs ys:List α} {k j:Nat} (h:ys.drop k=xs.drop k) (hj:k≤j):ys.drop j=xs.drop j:=by
 have:=congrArg (List.drop (j-k)) h
 rwa [List.drop_drop,List.drop_drop,show k+(j-k)=j by omega] at this
theorem Xx {α:Type} (xs ys:List α) (p:Nat) (h:p≤xs.length):(layL xs p ys).take p=xs.take p:=by
 have h1:(xs.take p).length=p:=by rw[List.length_take];omega
 unfold layL
 first
  | rw[List.take_append_of_le_length (by rw[List.length_append,h1];omega),List.take_append_of_le_length (by omega),List.take_take,Nat.min_self]
  | rw[List.take_append_of_le_length (by omega),List.take_take,Nat.min_self]
theorem Xy {α:Type} {ys:List α} {k:Nat} (v:α) (h:k<ys.length):(ys.set k v).take (k+1)=ys.take k++ [v]:=by
 rw[pY v (by rw[List.length_set];exact h),List.take_set,List.set_eq_of_length_le (by rw[List.length_take];omega)]
 simp[List.getD_eq_getElem?_getD,h]
theorem aCw (xs:List (List UInt8)) (h:xs.length≤1000000):Bl Tryz.prog [] { asks:=[(0,[]),(2,[])] } Tryz.f19 0 false [.any] .str xs 42 (.ref 0 1) (cpt xs):=by
 by_cases h2:xs.length<2
 ·have e:cpt xs=xs:=by
   match xs,h2 with
   | [],_=>rfl
   | [x],_=>rfl
   | _:: _:: _,h=>simp at h;omega
  rw[e]
  (repeat' first|refine ZR ?_|refine Zg fun _=>?_)
  (conv=>whnf)
  (repeat' first|rfl|apply And.intro)
 ·(repeat' first|refine ZR ?_|refine Zg fun _=>?_)
  refine Ask.mk ⟨{ X:=Nat,pre:=fun i=>(1≤i∧i≤xs.length)∧cpt (xs.take i)=xs.take i,mod:=fun i _=>[(3,I i)],heap:=fun i H=>H,mu:=fun i=>xs.length-i },rfl,?_⟩
  (repeat refine ZG ?_)
  refine ⟨⟨(1:Nat),⟨⟨Nat.le_refl _,by omega⟩,?_⟩,?_⟩,fun (i:Nat) hi=>?_⟩
  ·match xs,h2 with
   | [],_=>rfl
   | x:: _,_=>rfl
  ·(repeat' first|exact trivial|rfl|apply And.intro)
  obtain ⟨⟨hi1,hi2⟩,hp⟩:=hi
  by_cases hlt:i<xs.length
  ·have hs:=Df (xs:=xs) (m:=i) [] hi1 hlt
   have ht:=pY (xs:=xs) [] hlt
   by_cases he:xs.getD (i-1) []=xs.getD i []
   ·rw[if_pos he,hp] at hs
    have he':=he.symm
    obtain ⟨p,rfl⟩:∃p,i=p+1:=⟨i-1,by omega⟩
    (repeat'((conv=>whnf);first|refine Zg fun _=>?_|refine Zn ?_|refine Zj ?_|(apply Pin.mk;apply Exists.intro)|apply Pinned.mk rfl rfl|refine Zy ?_|fail))
    refine ixAt p (by omega) ?_
    (repeat'((conv=>whnf);first|(apply Pin.mk;apply Exists.intro)|apply Pinned.mk rfl rfl|refine Zy ?_|fail))
    refine Own.r ?_
    (repeat refine ZX ?_)
    refine Ask.mk ⟨{ X:=Nat × Nat × List (List UInt8),pre:=fun z=>(1≤z.1∧(p+1)+z.1≤xs.length∧z.2.1+1≤(p+1)+z.1)∧List.length z.2.2=xs.length∧z.2.2.take z.2.1=cpt (xs.take ((p+1)+z.1))∧z.2.2.drop ((p+1)+z.1-1)=xs.drop ((p+1)+z.1-1),mod:=fun z _=>[(3,I z.2.1),(5,I z.1)],heap:=fun z H=>[.vec 1 .str z.2.2 42,hget H 1],mu:=fun z=>xs.length-z.1 },rfl,?_⟩
    (repeat refine ZG ?_)
    refine ⟨⟨((1:Nat),((p+1):Nat),xs),⟨⟨Nat.le_refl _,by omega,Nat.le_refl _⟩,rfl,hs.symm,rfl⟩,?_⟩,fun (z:Nat × Nat × List (List UInt8)) hz=>?_⟩
    ·(repeat' first|exact trivial|rfl|apply And.intro)
    obtain ⟨⟨g1,g2,g3⟩,g4,g5,g6⟩:=hz
    by_cases hz:(p+1)+z.1<xs.length
    ·have r1:=Kq (i:=(p+1)+z.1) [] g6 (by omega)
     have r2:=Kq (i:=(p+1)+(z.1-1)) [] g6 (by omega)
     have ps:=Df (xs:=xs) (m:=(p+1)+z.1) [] (by omega) hz
     rw[show (p+1)+z.1-1=(p+1)+(z.1-1) by omega] at ps g6
     by_cases hq:xs.getD ((p+1)+(z.1-1)) []=xs.getD ((p+1)+z.1) []
     ·rw[if_pos hq] at ps
      have hq':¬ ¬z.2.2.getD ((p+1)+z.1) []=z.2.2.getD ((p+1)+(z.1-1)) []:=by rw[r1,r2];exact fun h=>h hq.symm
      (repeat'((conv=>whnf);first|refine Zn ?_|refine Zj ?_|(apply Pin.mk;apply Exists.intro)|apply Pinned.mk rfl rfl|refine Zy ?_|fail))
      refine ixAt (z.1-1) (by omega) ?_
      (repeat'((conv=>whnf);first|refine Zn ?_|(apply Pin.mk;apply Exists.intro)|apply Pinned.mk rfl rfl|refine Zm ?_|fail))
      refine ⟨((z.1+1:Nat),(z.2.1:Nat),z.2.2),by show xs.length-(z.1+1)<xs.length-z.1;omega,⟨⟨Nat.le_succ_of_le g1,hz,Nat.le_succ_of_le g3⟩,g4,g5.trans ps.symm,Dg g6 (show p+1+(z.1-1)≤p+1+(z.1+1)-1 by omega)⟩,?_⟩
      (repeat' first|exact trivial|rfl|apply And.intro)
     ·rw[if_neg hq] at ps
      have hq':¬z.2.2.getD ((p+1)+z.1) []=z.2.2.getD ((p+1)+(z.1-1)) []:=by rw[r1,r2];exact fun h=>hq h.symm
      (repeat'((conv=>whnf);first|refine Zn ?_|refine Zj ?_|(apply Pin.mk;apply Exists.intro)|apply Pinned.mk rfl rfl|refine Zy ?_|fail))
      refine ixAt (z.1-1) (by omega) ?_
      (repeat'((conv=>whnf);first|refine Zn ?_|refine Zj ?_|(apply Pin.mk;apply Exists.intro)|apply Pinned.mk rfl rfl|refine Zy ?_|fail))
      refine ⟨((z.1+1:Nat),(z.2.1+1:Nat),z.2.2.set z.2.1 (z.2.2.getD (p+1+z.1) [])),by show xs.length-(z.1+1)<xs.length-z.1;omega,⟨⟨Nat.le_succ_of_le g1,hz,by show z.2.1+1+1≤p+1+(z.1+1);omega⟩,by show List.length (z.2.2.set _ _)= _;rw[List.length_set];exact g4,?_,?_⟩,?_⟩
      ·show List.take (z.2.1+1) (z.2.2.set z.2.1 _)=cpt (xs.take (p+1+z.1+1))
       rw[Xy _ (by omega),ps,g5,r1]
      ·show List.drop (p+1+(z.1+1)-1) (z.2.2.set z.2.1 _)= _
       rw[List.drop_set,if_pos (by omega)]
       exact Dg g6 (by omega)
      ·(repeat' first|exact trivial|rfl|apply And.intro)
    ·have e:(p+1)+z.1=xs.length:=by omega
     rw[e,List.take_length] at g5
     rw[← g5]
     have hll:(layL z.2.2 z.2.1 (List.replicate (z.2.2.length-z.2.1) ({ data:= #[] }:ByteArray).data.toList)).length=z.2.2.length:=rW _ _ _ (by rw[List.length_replicate];omega)
     (repeat refine ZX ?_)
     (conv=>whnf)
     refine Own.r ?_
     (repeat refine ZX ?_)
     (conv=>whnf)
     refine Own.l ?_
     refine Own.r ?_
     (repeat refine ZX ?_)
     (repeat' first|rfl|apply And.intro)
     exact Xx _ _ _ (show z.2.1≤z.2.2.length by omega)
   ·rw[if_neg he,hp] at hs
    have he':¬xs.getD i []=xs.getD (i-1) []:=fun h=>he h.symm
    (repeat'((conv=>whnf);first|refine Zg fun _=>?_|refine Zn ?_|refine Zj ?_|(apply Pin.mk;apply Exists.intro)|apply Pinned.mk rfl rfl|refine Zy ?_|fail))
    refine ixAt (i-1) (by omega) ?_
    (repeat'((conv=>whnf);first|refine Zn ?_|(apply Pin.mk;apply Exists.intro)|apply Pinned.mk rfl rfl|refine Zm ?_|fail))
    refine ⟨(i+1:Nat),by show xs.length-(i+1)<xs.length-i;omega,⟨⟨by omega,by omega⟩,hs.trans ht.symm⟩,?_⟩
    (repeat' first|exact trivial|rfl|apply And.intro)
  ·have e:i=xs.length:=by omega
   rw[e,List.take_length] at hp
   rw[hp]
   (repeat' first|refine ZR ?_|refine Zg fun _=>?_)
   (conv=>whnf)
   (repeat' first|rfl|apply And.intro)
def aCx:Con:=wV 19 0 false fun args o K=>match args,o with | [.any],.vec 1 (.str) xs 42=>Need (xs.length≤1000000) (K (.ref 0 1) (.vec 1 (.str) (cpt xs) 42)) | _,_=>False
theorem k2045:aD Tryz.prog aCx:=by
 refine rZ (enters_of Tryz.func19 (by kernel_rfl) rfl) ?_
 intro args t xs e K hfl h
 split at h
 ·rename_i zs heq
  cases heq
  first | exact ⟨_,_,h.go,dE (by simp) Tryz.func19 (by simp[Tryz.ntmps19]) rfl (aCw zs h.ok)⟩ | exact ⟨_,_,h.go,dE (by simp) Tryz.func19 (by simp[Tryz.ntmps19]) rfl (aCw xs h.ok)⟩
 ·exact h.elim
abbrev Str:=List UInt8
abbrev tFr:Ty:=.pair .str .str
abbrev tSr:Ty:=.pair .str (.pair .str .str)
abbrev fr0:Str × Str:=([],[])
abbrev sr0:Str × Str × Str:=([],[],[])
noncomputable def adS (a b:Str):Str:=(addQ a b).1
noncomputable def sbS (a b:Str):Str:=(subQ a b).1
noncomputable def mlS (a b:Str):Str:=(mulQ a b).1
noncomputable def dvS (a b:Str):Str:=(divQ a b).1
noncomputable def cmS (a b:Str):Int:=(cmpQ a b).1
def sW:Con:=aI 120 true fun args K=>match args with | [.str a,.str b]=>K (S (adS a b)) | _=>False
theorem oM:aD Tryz.prog sW:=by
 refine kQ {} Tryz.func120 Tryz.ntmps120 (kc k17 kn) fun _ _ h=>?_
 split at h
 case h_2=>exact h.elim
 refine kb h ?_
 (conv=>whnf)
 (repeat' first|rfl)
def sX:Con:=aI 122 true fun args K=>match args with | [.str a,.str b]=>K (S (sbS a b)) | _=>False
theorem nP:aD Tryz.prog sX:=by
 refine kQ {} Tryz.func122 Tryz.ntmps122 (kc k20 kn) fun _ _ h=>?_
 split at h
 case h_2=>exact h.elim
 refine kb h ?_
 (conv=>whnf)
 (repeat' first|rfl)
def sY:Con:=aI 121 true fun args K=>match args with | [.str a,.str b]=>K (S (mlS a b)) | _=>False
theorem oN:aD Tryz.prog sY:=by
 refine kQ {} Tryz.func121 Tryz.ntmps121 (kc k19 kn) fun _ _ h=>?_
 split at h
 case h_2=>exact h.elim
 refine kb h ?_
 (conv=>whnf)
 (repeat' first|rfl)
def c4167:Con:=aI 167 true fun args K=>match args with | [.str a,.str b]=>K (S (dvS a b)) | _=>False
theorem aB1:aD Tryz.prog c4167:=by
 refine kQ {} Tryz.func167 Tryz.ntmps167 (kc k14 kn) fun _ _ h=>?_
 split at h
 case h_2=>exact h.elim
 refine kb h ?_
 (conv=>whnf)
 (repeat' first|rfl)
def Ju:Con:=aI 119 true fun args K=>match args with | [.str a,.str b]=>K (I (cmS a b)) | _=>False
theorem sZ:aD Tryz.prog Ju:=by
 refine kQ {} Tryz.func119 Tryz.ntmps119 (kc k38 kn) fun _ _ h=>?_
 split at h
 case h_2=>exact h.elim
 refine kb h ?_
 (conv=>whnf)
 (repeat' first|rfl|apply And.intro)
noncomputable def midP (f t z:Str):Str × Str:=(dvS (adS f t) [50],mlS z (sbS t f))
def Jv:Con:=aI 169 true fun args K=>match args with | [.agg [.str f,.str t,.str z]]=>K (.agg [S (midP f t z).1,S (midP f t z).2]) | _=>False
theorem Pv:aD Tryz.prog Jv:=by
 refine kQ {} Tryz.func169 Tryz.ntmps169 (kc oM (kc aB1 (kc nP (kc oN kn)))) fun _ _ h=>?_
 split at h
 case h_2=>exact h.elim
 refine kb h ?_
 (repeat'((conv=>whnf);first|(apply Pin.mk;apply Exists.intro)|apply Pinned.mk rfl rfl|fail))
 (conv=>whnf)
 (repeat' first|exact trivial|rfl|apply And.intro)
noncomputable def fA (g:Str × Str→Str→Str) (up:Str) (fs:List (Str × Str)) (z:Str):Nat→Str
 | 0=>z
 | i+1=>if cmS (fs.getD i fr0).1 up≤0 then g (fs.getD i fr0) (fA g up fs z i) else fA g up fs z i
noncomputable def cuS (up t:Str):Str:=if 0<cmS t up then up else t
noncomputable def sA (g:Str × Str→Str→Str) (up:Str) (ss:List (Str × Str × Str)) (z:Str):Nat→Str
 | 0=>z
 | i+1=>if cmS (ss.getD i sr0).1 (cuS up (ss.getD i sr0).2.1)<0 then g (midP (ss.getD i sr0).1 (cuS up (ss.getD i sr0).2.1) (ss.getD i sr0).2.2) (sA g up ss z i) else sA g up ss z i
noncomputable def fdS (g:Str × Str→Str→Str) (up:Str) (fs:List (Str × Str)) (ss:List (Str × Str × Str)) (z:Str):Str:=sA g up ss (fA g up fs z fs.length) ss.length
noncomputable def gM (at':Str):Str × Str→Str→Str:=fun p s=>sbS s (mlS p.2 (sbS at' p.1))
theorem aDb (lb ab bb:Str) (fs:List (Str × Str)) (ss:List (Str × Str × Str)) (at':Str) (sm:Str) (a1 a2:Str) (p w:Str):gC Tryz.prog [sW,sY,sX] {} Tryz.f124 [.agg [S p,S w],.ptr 2 0,.ptr 1 0] [.cells [S lb,S ab,S bb,.seq tFr fs,.seq tSr ss] 52,.cells [S at'] 42,.cells [S sm] 42,.cells [S lb,S ab,S bb,.seq tFr fs,.seq tSr ss] 52,.cells [S a1,S a2] 58] (fun r H'=>r= .tup []∧H'= [.cells [S lb,S ab,S bb,.seq tFr fs,.seq tSr ss] 52,.cells [S at'] 42,.cells [S (gM at' (p,w) sm)] 42,.cells [S lb,S ab,S bb,.seq tFr fs,.seq tSr ss] 52,.cells [S a1,S a2] 58]):=by
 (conv=>whnf)
 refine Need.mk rfl ?_
 (repeat'((conv=>whnf);first|(apply Pin.mk;apply Exists.intro)|apply Pinned.mk rfl rfl|fail))
 (conv=>whnf)
 refine ⟨_,_,⟨rfl,rfl⟩,rfl,?_,rfl,rfl,?_⟩
 all_goals (repeat' first|exact trivial|rfl|apply And.intro)
theorem aDc (lb ab bb:Str) (fs:List (Str × Str)) (ss:List (Str × Str × Str)) (at':Str) (sm:Str) (a1 a2 a3:Str) (p w:Str):gC Tryz.prog [sW,sY,sX] {} Tryz.f124 [.agg [S p,S w],.ptr 2 0,.ptr 1 0] [.cells [S lb,S ab,S bb,.seq tFr fs,.seq tSr ss] 52,.cells [S at'] 42,.cells [S sm] 42,.cells [S lb,S ab,S bb,.seq tFr fs,.seq tSr ss] 52,.cells [S a1,S a2,S a3] 60] (fun r H'=>r= .tup []∧H'= [.cells [S lb,S ab,S bb,.seq tFr fs,.seq tSr ss] 52,.cells [S at'] 42,.cells [S (gM at' (p,w) sm)] 42,.cells [S lb,S ab,S bb,.seq tFr fs,.seq tSr ss] 52,.cells [S a1,S a2,S a3] 60]):=by
 (conv=>whnf)
 refine Need.mk rfl ?_
 (repeat'((conv=>whnf);first|(apply Pin.mk;apply Exists.intro)|apply Pinned.mk rfl rfl|fail))
 (conv=>whnf)
 refine ⟨_,_,⟨rfl,rfl⟩,rfl,?_,rfl,rfl,?_⟩
 all_goals (repeat' first|exact trivial|rfl|apply And.intro)
noncomputable def aB2:Con:=nM 124 fun args H K=>match args,H with
 | [.agg [.str p,.str w],.ptr 2 0,.ptr 1 0],[.cells [.str lb,.str ab,.str bb,.seq (.pair .str .str) fs,.seq (.pair .str (.pair .str .str)) ss] e1,.cells [.str at'] e2,.cells [.str sm] e3,.cells [.str lb2,.str ab2,.str bb2,.seq (.pair .str .str) fs2,.seq (.pair .str (.pair .str .str)) ss2] e4,.cells [.str a1,.str a2] e5]=>Need (e1=52∧e2=42∧e3=42∧e4=52∧lb2=lb∧ab2=ab∧bb2=bb∧fs2=fs∧ss2=ss∧e5=58) (K (.tup []) [.cells [S lb,S ab,S bb,.seq tFr fs,.seq tSr ss] 52,.cells [S at'] 42,.cells [S (gM at' (p,w) sm)] 42,.cells [S lb,S ab,S bb,.seq tFr fs,.seq tSr ss] 52,.cells [S a1,S a2] 58])
 | [.agg [.str p,.str w],.ptr 2 0,.ptr 1 0],[.cells [.str lb,.str ab,.str bb,.seq (.pair .str .str) fs,.seq (.pair .str (.pair .str .str)) ss] e1,.cells [.str at'] e2,.cells [.str sm] e3,.cells [.str lb2,.str ab2,.str bb2,.seq (.pair .str .str) fs2,.seq (.pair .str (.pair .str .str)) ss2] e4,.cells [.str a1,.str a2,.str a3] e5]=>Need (e1=52∧e2=42∧e3=42∧e4=52∧lb2=lb∧ab2=ab∧bb2=bb∧fs2=fs∧ss2=ss∧e5=60) (K (.tup []) [.cells [S lb,S ab,S bb,.seq tFr fs,.seq tSr ss] 52,.cells [S at'] 42,.cells [S (gM at' (p,w) sm)] 42,.cells [S lb,S ab,S bb,.seq tFr fs,.seq tSr ss] 52,.cells [S a1,S a2,S a3] 60])
 | _,_=>False
theorem k4124:aD Tryz.prog aB2:=by
 refine gE (enters_of Tryz.func124 (by kernel_rfl) rfl) ?_
 intro args H K h
 split at h
 ·obtain ⟨⟨rfl,rfl,rfl,rfl,rfl,rfl,rfl,rfl,rfl,rfl⟩,hK⟩:=h
  refine ⟨_,?_,aY (by simp[oM,oN,nP]) Tryz.func124 (by simp[Tryz.ntmps124]) (aDb _ _ _ _ _ _ _ _ _ _ _)⟩
  rintro s H' ⟨rfl,rfl⟩
  exact hK
 ·obtain ⟨⟨rfl,rfl,rfl,rfl,rfl,rfl,rfl,rfl,rfl,rfl⟩,hK⟩:=h
  refine ⟨_,?_,aY (by simp[oM,oN,nP]) Tryz.func124 (by simp[Tryz.ntmps124]) (aDc _ _ _ _ _ _ _ _ _ _ _ _)⟩
  rintro s H' ⟨rfl,rfl⟩
  exact hK
 ·exact h.elim
noncomputable def gV:Str × Str→Str→Str:=fun p s=>sbS s p.2
theorem aDd (lb ab bb:Str) (fs:List (Str × Str)) (ss:List (Str × Str × Str)) (sm:Str) (a1 a2:Str) (p w:Str):gC Tryz.prog [sW,sY,sX] {} Tryz.f135 [.agg [S p,S w],.ptr 1 0] [.cells [S lb,S ab,S bb,.seq tFr fs,.seq tSr ss] 52,.cells [S sm] 42,.cells [S lb,S ab,S bb,.seq tFr fs,.seq tSr ss] 52,.cells [S a1,S a2] 58] (fun r H'=>r= .tup []∧H'= [.cells [S lb,S ab,S bb,.seq tFr fs,.seq tSr ss] 52,.cells [S (gV (p,w) sm)] 42,.cells [S lb,S ab,S bb,.seq tFr fs,.seq tSr ss] 52,.cells [S a1,S a2] 58]):=by
 (conv=>whnf)
 refine Need.mk rfl ?_
 (conv=>whnf)
 refine ⟨_,_,⟨rfl,rfl⟩,rfl,?_,rfl,rfl,?_⟩
 all_goals (repeat' first|exact trivial|rfl|apply And.intro)
theorem aDe (lb ab bb:Str) (fs:List (Str × Str)) (ss:List (Str × Str × Str)) (sm:Str) (a1 a2 a3:Str) (p w:Str):gC Tryz.prog [sW,sY,sX] {} Tryz.f135 [.agg [S p,S w],.ptr 1 0] [.cells [S lb,S ab,S bb,.seq tFr fs,.seq tSr ss] 52,.cells [S sm] 42,.cells [S lb,S ab,S bb,.seq tFr fs,.seq tSr ss] 52,.cells [S a1,S a2,S a3] 60] (fun r H'=>r= .tup []∧H'= [.cells [S lb,S ab,S bb,.seq tFr fs,.seq tSr ss] 52,.cells [S (gV (p,w) sm)] 42,.cells [S lb,S ab,S bb,.seq tFr fs,.seq tSr ss] 52,.cells [S a1,S a2,S a3] 60]):=by
 (conv=>whnf)
 refine Need.mk rfl ?_
 (conv=>whnf)
 refine ⟨_,_,⟨rfl,rfl⟩,rfl,?_,rfl,rfl,?_⟩
 all_goals (repeat' first|exact trivial|rfl|apply And.intro)
noncomputable def aB3:Con:=nM 135 fun args H K=>match args,H with
 | [.agg [.str p,.str w],.ptr 1 0],[.cells [.str lb,.str ab,.str bb,.seq (.pair .str .str) fs,.seq (.pair .str (.pair .str .str)) ss] e1,.cells [.str sm] e3,.cells [.str lb2,.str ab2,.str bb2,.seq (.pair .str .str) fs2,.seq (.pair .str (.pair .str .str)) ss2] e4,.cells [.str a1,.str a2] e5]=>Need (e1=52∧e3=42∧e4=52∧lb2=lb∧ab2=ab∧bb2=bb∧fs2=fs∧ss2=ss∧e5=58) (K (.tup []) [.cells [S lb,S ab,S bb,.seq tFr fs,.seq tSr ss] 52,.cells [S (gV (p,w) sm)] 42,.cells [S lb,S ab,S bb,.seq tFr fs,.seq tSr ss] 52,.cells [S a1,S a2] 58])
 | [.agg [.str p,.str w],.ptr 1 0],[.cells [.str lb,.str ab,.str bb,.seq (.pair .str .str) fs,.seq (.pair .str (.pair .str .str)) ss] e1,.cells [.str sm] e3,.cells [.str lb2,.str ab2,.str bb2,.seq (.pair .str .str) fs2,.seq (.pair .str (.pair .str .str)) ss2] e4,.cells [.str a1,.str a2,.str a3] e5]=>Need (e1=52∧e3=42∧e4=52∧lb2=lb∧ab2=ab∧bb2=bb∧fs2=fs∧ss2=ss∧e5=60) (K (.tup []) [.cells [S lb,S ab,S bb,.seq tFr fs,.seq tSr ss] 52,.cells [S (gV (p,w) sm)] 42,.cells [S lb,S ab,S bb,.seq tFr fs,.seq tSr ss] 52,.cells [S a1,S a2,S a3] 60])
 | _,_=>False
theorem k4135:aD Tryz.prog aB3:=by
 refine gE (enters_of Tryz.func135 (by kernel_rfl) rfl) ?_
 intro args H K h
 split at h
 ·obtain ⟨⟨rfl,rfl,rfl,rfl,rfl,rfl,rfl,rfl,rfl⟩,hK⟩:=h
  refine ⟨_,?_,aY (by simp[oM,oN,nP]) Tryz.func135 (by simp[Tryz.ntmps135]) (aDd _ _ _ _ _ _ _ _ _ _)⟩
  rintro s H' ⟨rfl,rfl⟩
  exact hK
 ·obtain ⟨⟨rfl,rfl,rfl,rfl,rfl,rfl,rfl,rfl,rfl⟩,hK⟩:=h
  refine ⟨_,?_,aY (by simp[oM,oN,nP]) Tryz.func135 (by simp[Tryz.ntmps135]) (aDe _ _ _ _ _ _ _ _ _ _ _)⟩
  rintro s H' ⟨rfl,rfl⟩
  exact hK
 ·exact h.elim
noncomputable def gR (ab:Str):Str × Str→Str→Str:=fun p s=>adS s (mlS p.2 (sbS p.1 ab))
theorem aDf (lb ab bb:Str) (fs:List (Str × Str)) (ss:List (Str × Str × Str)) (sm:Str) (a1 a2:Str) (p w:Str):gC Tryz.prog [sW,sY,sX] {} Tryz.f166 [.agg [S p,S w],.ptr 1 0,.ptr 0 0] [.cells [S lb,S ab,S bb,.seq tFr fs,.seq tSr ss] 52,.cells [S sm] 42,.cells [S lb,S ab,S bb,.seq tFr fs,.seq tSr ss] 52,.cells [S a1,S a2] 58] (fun r H'=>r= .tup []∧H'= [.cells [S lb,S ab,S bb,.seq tFr fs,.seq tSr ss] 52,.cells [S (gR ab (p,w) sm)] 42,.cells [S lb,S ab,S bb,.seq tFr fs,.seq tSr ss] 52,.cells [S a1,S a2] 58]):=by
 (conv=>whnf)
 refine Need.mk rfl ?_
 (repeat'((conv=>whnf);first|(apply Pin.mk;apply Exists.intro)|apply Pinned.mk rfl rfl|fail))
 (conv=>whnf)
 refine ⟨_,_,⟨rfl,rfl⟩,rfl,?_,rfl,rfl,?_⟩
 all_goals (repeat' first|exact trivial|rfl|apply And.intro)
theorem aDg (lb ab bb:Str) (fs:List (Str × Str)) (ss:List (Str × Str × Str)) (sm:Str) (a1 a2 a3:Str) (p w:Str):gC Tryz.prog [sW,sY,sX] {} Tryz.f166 [.agg [S p,S w],.ptr 1 0,.ptr 0 0] [.cells [S lb,S ab,S bb,.seq tFr fs,.seq tSr ss] 52,.cells [S sm] 42,.cells [S lb,S ab,S bb,.seq tFr fs,.seq tSr ss] 52,.cells [S a1,S a2,S a3] 60] (fun r H'=>r= .tup []∧H'= [.cells [S lb,S ab,S bb,.seq tFr fs,.seq tSr ss] 52,.cells [S (gR ab (p,w) sm)] 42,.cells [S lb,S ab,S bb,.seq tFr fs,.seq tSr ss] 52,.cells [S a1,S a2,S a3] 60]):=by
 (conv=>whnf)
 refine Need.mk rfl ?_
 (repeat'((conv=>whnf);first|(apply Pin.mk;apply Exists.intro)|apply Pinned.mk rfl rfl|fail))
 (conv=>whnf)
 refine ⟨_,_,⟨rfl,rfl⟩,rfl,?_,rfl,rfl,?_⟩
 all_goals (repeat' first|exact trivial|rfl|apply And.intro)
noncomputable def aB4:Con:=nM 166 fun args H K=>match args,H with
 | [.agg [.str p,.str w],.ptr 1 0,.ptr 0 0],[.cells [.str lb,.str ab,.str bb,.seq (.pair .str .str) fs,.seq (.pair .str (.pair .str .str)) ss] e1,.cells [.str sm] e3,.cells [.str lb2,.str ab2,.str bb2,.seq (.pair .str .str) fs2,.seq (.pair .str (.pair .str .str)) ss2] e4,.cells [.str a1,.str a2] e5]=>Need (e1=52∧e3=42∧e4=52∧lb2=lb∧ab2=ab∧bb2=bb∧fs2=fs∧ss2=ss∧e5=58) (K (.tup []) [.cells [S lb,S ab,S bb,.seq tFr fs,.seq tSr ss] 52,.cells [S (gR ab (p,w) sm)] 42,.cells [S lb,S ab,S bb,.seq tFr fs,.seq tSr ss] 52,.cells [S a1,S a2] 58])
 | [.agg [.str p,.str w],.ptr 1 0,.ptr 0 0],[.cells [.str lb,.str ab,.str bb,.seq (.pair .str .str) fs,.seq (.pair .str (.pair .str .str)) ss] e1,.cells [.str sm] e3,.cells [.str lb2,.str ab2,.str bb2,.seq (.pair .str .str) fs2,.seq (.pair .str (.pair .str .str)) ss2] e4,.cells [.str a1,.str a2,.str a3] e5]=>Need (e1=52∧e3=42∧e4=52∧lb2=lb∧ab2=ab∧bb2=bb∧fs2=fs∧ss2=ss∧e5=60) (K (.tup []) [.cells [S lb,S ab,S bb,.seq tFr fs,.seq tSr ss] 52,.cells [S (gR ab (p,w) sm)] 42,.cells [S lb,S ab,S bb,.seq tFr fs,.seq tSr ss] 52,.cells [S a1,S a2,S a3] 60])
 | _,_=>False
theorem k4166:aD Tryz.prog aB4:=by
 refine gE (enters_of Tryz.func166 (by kernel_rfl) rfl) ?_
 intro args H K h
 split at h
 ·obtain ⟨⟨rfl,rfl,rfl,rfl,rfl,rfl,rfl,rfl,rfl⟩,hK⟩:=h
  refine ⟨_,?_,aY (by simp[oM,oN,nP]) Tryz.func166 (by simp[Tryz.ntmps166]) (aDf _ _ _ _ _ _ _ _ _ _)⟩
  rintro s H' ⟨rfl,rfl⟩
  exact hK
 ·obtain ⟨⟨rfl,rfl,rfl,rfl,rfl,rfl,rfl,rfl,rfl⟩,hK⟩:=h
  refine ⟨_,?_,aY (by simp[oM,oN,nP]) Tryz.func166 (by simp[Tryz.ntmps166]) (aDg _ _ _ _ _ _ _ _ _ _ _)⟩
  rintro s H' ⟨rfl,rfl⟩
  exact hK
 ·exact h.elim
noncomputable def gT:Str × Str→Str→Str:=fun p s=>adS s p.2
theorem aDh (lb ab bb:Str) (fs:List (Str × Str)) (ss:List (Str × Str × Str)) (sm:Str) (a1 a2:Str) (p w:Str):gC Tryz.prog [sW,sY,sX] {} Tryz.f205 [.agg [S p,S w],.ptr 1 0] [.cells [S lb,S ab,S bb,.seq tFr fs,.seq tSr ss] 52,.cells [S sm] 42,.cells [S lb,S ab,S bb,.seq tFr fs,.seq tSr ss] 52,.cells [S a1,S a2] 58] (fun r H'=>r= .tup []∧H'= [.cells [S lb,S ab,S bb,.seq tFr fs,.seq tSr ss] 52,.cells [S (gT (p,w) sm)] 42,.cells [S lb,S ab,S bb,.seq tFr fs,.seq tSr ss] 52,.cells [S a1,S a2] 58]):=by
 (conv=>whnf)
 refine Need.mk rfl ?_
 (conv=>whnf)
 refine ⟨_,_,⟨rfl,rfl⟩,rfl,?_,rfl,rfl,?_⟩
 all_goals (repeat' first|exact trivial|rfl|apply And.intro)
theorem aDi (lb ab bb:Str) (fs:List (Str × Str)) (ss:List (Str × Str × Str)) (sm:Str) (a1 a2 a3:Str) (p w:Str):gC Tryz.prog [sW,sY,sX] {} Tryz.f205 [.agg [S p,S w],.ptr 1 0] [.cells [S lb,S ab,S bb,.seq tFr fs,.seq tSr ss] 52,.cells [S sm] 42,.cells [S lb,S ab,S bb,.seq tFr fs,.seq tSr ss] 52,.cells [S a1,S a2,S a3] 60] (fun r H'=>r= .tup []∧H'= [.cells [S lb,S ab,S bb,.seq tFr fs,.seq tSr ss] 52,.cells [S (gT (p,w) sm)] 42,.cells [S lb,S ab,S bb,.seq tFr fs,.seq tSr ss] 52,.cells [S a1,S a2,S a3] 60]):=by
 (conv=>whnf)
 refine Need.mk rfl ?_
 (conv=>whnf)
 refine ⟨_,_,⟨rfl,rfl⟩,rfl,?_,rfl,rfl,?_⟩
 all_goals (repeat' first|exact trivial|rfl|apply And.intro)
noncomputable def aB5:Con:=nM 205 fun args H K=>match args,H with
 | [.agg [.str p,.str w],.ptr 1 0],[.cells [.str lb,.str ab,.str bb,.seq (.pair .str .str) fs,.seq (.pair .str (.pair .str .str)) ss] e1,.cells [.str sm] e3,.cells [.str lb2,.str ab2,.str bb2,.seq (.pair .str .str) fs2,.seq (.pair .str (.pair .str .str)) ss2] e4,.cells [.str a1,.str a2] e5]=>Need (e1=52∧e3=42∧e4=52∧lb2=lb∧ab2=ab∧bb2=bb∧fs2=fs∧ss2=ss∧e5=58) (K (.tup []) [.cells [S lb,S ab,S bb,.seq tFr fs,.seq tSr ss] 52,.cells [S (gT (p,w) sm)] 42,.cells [S lb,S ab,S bb,.seq tFr fs,.seq tSr ss] 52,.cells [S a1,S a2] 58])
 | [.agg [.str p,.str w],.ptr 1 0],[.cells [.str lb,.str ab,.str bb,.seq (.pair .str .str) fs,.seq (.pair .str (.pair .str .str)) ss] e1,.cells [.str sm] e3,.cells [.str lb2,.str ab2,.str bb2,.seq (.pair .str .str) fs2,.seq (.pair .str (.pair .str .str)) ss2] e4,.cells [.str a1,.str a2,.str a3] e5]=>Need (e1=52∧e3=42∧e4=52∧lb2=lb∧ab2=ab∧bb2=bb∧fs2=fs∧ss2=ss∧e5=60) (K (.tup []) [.cells [S lb,S ab,S bb,.seq tFr fs,.seq tSr ss] 52,.cells [S (gT (p,w) sm)] 42,.cells [S lb,S ab,S bb,.seq tFr fs,.seq tSr ss] 52,.cells [S a1,S a2,S a3] 60])
 | _,_=>False
theorem k4205:aD Tryz.prog aB5:=by
 refine gE (enters_of Tryz.func205 (by kernel_rfl) rfl) ?_
 intro args H K h
 split at h
 ·obtain ⟨⟨rfl,rfl,rfl,rfl,rfl,rfl,rfl,rfl,rfl⟩,hK⟩:=h
  refine ⟨_,?_,aY (by simp[oM,oN,nP]) Tryz.func205 (by simp[Tryz.ntmps205]) (aDh _ _ _ _ _ _ _ _ _ _)⟩
  rintro s H' ⟨rfl,rfl⟩
  exact hK
 ·obtain ⟨⟨rfl,rfl,rfl,rfl,rfl,rfl,rfl,rfl,rfl⟩,hK⟩:=h
  refine ⟨_,?_,aY (by simp[oM,oN,nP]) Tryz.func205 (by simp[Tryz.ntmps205]) (aDi _ _ _ _ _ _ _ _ _ _ _)⟩
  rintro s H' ⟨rfl,rfl⟩
  exact hK
 ·exact h.elim
theorem Ft {g:Str × Str→Str→Str} {up:Str} {fs:List (Str × Str)} {z:Str} {i:Nat} (h:cmS (fs.getD i fr0).1 up≤0):fA g up fs z (i+1)=g (fs.getD i fr0) (fA g up fs z i):=if_pos h
theorem Pw {g:Str × Str→Str→Str} {up:Str} {fs:List (Str × Str)} {z:Str} {i:Nat} (h:¬cmS (fs.getD i fr0).1 up≤0):fA g up fs z (i+1)=fA g up fs z i:=if_neg h
theorem oO {g:Str × Str→Str→Str} {up:Str} {ss:List (Str × Str × Str)} {z t:Str} {i:Nat} (e:cuS up (ss.getD i sr0).2.1=t) (h:cmS (ss.getD i sr0).1 t<0):sA g up ss z (i+1)=g (midP (ss.getD i sr0).1 t (ss.getD i sr0).2.2) (sA g up ss z i):=by rw[sA,e,if_pos h]
theorem vQ {g:Str × Str→Str→Str} {up:Str} {ss:List (Str × Str × Str)} {z t:Str} {i:Nat} (e:cuS up (ss.getD i sr0).2.1=t) (h:¬cmS (ss.getD i sr0).1 t<0):sA g up ss z (i+1)=sA g up ss z i:=by rw[sA,e,if_neg h]
theorem Fu {up t:Str} (h:0<cmS t up):cuS up t=up:=if_pos h
theorem Px {up t:Str} (h:¬0<cmS t up):cuS up t=t:=if_neg h
theorem aDj (lb ab bb:Str) (fs:List (Str × Str)) (ss:List (Str × Str × Str)) (at':Str) (sm up:Str):gC Tryz.prog [Ju,aB2,Jv] { asks:=[(0,[]),(2,[])] } Tryz.f123 [.agg [S lb,S ab,S bb,.seq tFr fs,.seq tSr ss],S up,.clo 124 [] [.ptr 2 0,.ptr 1 0]] [.cells [S lb,S ab,S bb,.seq tFr fs,.seq tSr ss] 52,.cells [S at'] 42,.cells [S sm] 42] (fun r H'=>r= .tup []∧H'= [.cells [S lb,S ab,S bb,.seq tFr fs,.seq tSr ss] 52,.cells [S at'] 42,.cells [S (fdS (gM at') up fs ss sm)] 42]):=by
 (conv=>whnf)
 refine Need.mk rfl ?_
 (repeat'((conv=>whnf);first|refine Zg fun _=>?_|fail))
 refine Ask.mk ⟨{ X:=Nat,pre:=fun i=>i≤fs.length,mod:=fun i _=>[(13,I i)],heap:=fun i _=>[.cells [S lb,S ab,S bb,.seq tFr fs,.seq tSr ss] 52,.cells [S at'] 42,.cells [S (fA (gM at') up fs sm i)] 42,.cells [S lb,S ab,S bb,.seq tFr fs,.seq tSr ss] 52],mu:=fun i=>fs.length-i },rfl,?_⟩
 (repeat refine ZG ?_)
 refine ⟨⟨(0:Nat),Nat.zero_le _,by (repeat' first|exact trivial|rfl|apply And.intro)⟩,fun (i:Nat) hi=>?_⟩
 have hi:i≤fs.length:=hi
 by_cases hlt:i<fs.length
 ·by_cases h1:cmS (fs.getD i fr0).1 up≤0
  ·have e:=Ft (g:=(gM at')) (z:=sm) h1
   (repeat refine ZR ?_)
   refine ⟨(i+1:Nat),by show fs.length-(i+1)<fs.length-i;omega,hlt,?_⟩
   (repeat' first|exact trivial|rfl|apply And.intro)
   all_goals exact e.symm
  ·have e:=Pw (g:=(gM at')) (z:=sm) h1
   (repeat refine ZR ?_)
   refine ⟨(i+1:Nat),by show fs.length-(i+1)<fs.length-i;omega,hlt,?_⟩
   (repeat' first|exact trivial|rfl|apply And.intro)
   all_goals exact e.symm
 ·have e:i=fs.length:=by omega
  subst e
  (repeat' first|refine ZR ?_|refine Zg fun _=>?_)
  refine Ask.mk ⟨{ X:=Nat,pre:=fun i=>i≤ss.length,mod:=fun i _=>[(33,I i)],heap:=fun i _=>[.cells [S lb,S ab,S bb,.seq tFr fs,.seq tSr ss] 52,.cells [S at'] 42,.cells [S (sA (gM at') up ss (fA (gM at') up fs sm fs.length) i)] 42,.cells [S lb,S ab,S bb,.seq tFr fs,.seq tSr ss] 52],mu:=fun i=>ss.length-i },rfl,?_⟩
  (repeat refine ZG ?_)
  refine ⟨⟨(0:Nat),Nat.zero_le _,by (repeat' first|exact trivial|rfl|apply And.intro)⟩,fun (i:Nat) hi=>?_⟩
  have hi:i≤ss.length:=hi
  by_cases hlt:i<ss.length
  ·by_cases h1:0<cmS (ss.getD i sr0).2.1 up
   ·have e0:=Fu h1
    by_cases h2:cmS (ss.getD i sr0).1 up<0
    ·have e:=oO (g:=(gM at')) (z:=fA (gM at') up fs sm fs.length) e0 h2
     (repeat refine ZR ?_)
     refine ⟨(i+1:Nat),by show ss.length-(i+1)<ss.length-i;omega,hlt,?_⟩
     (repeat' first|exact trivial|rfl|apply And.intro)
     all_goals exact e.symm
    ·have e:=vQ (g:=(gM at')) (z:=fA (gM at') up fs sm fs.length) e0 h2
     (repeat refine ZR ?_)
     refine ⟨(i+1:Nat),by show ss.length-(i+1)<ss.length-i;omega,hlt,?_⟩
     (repeat' first|exact trivial|rfl|apply And.intro)
     all_goals exact e.symm
   ·have e0:=Px h1
    by_cases h2:cmS (ss.getD i sr0).1 (ss.getD i sr0).2.1<0
    ·have e:=oO (g:=(gM at')) (z:=fA (gM at') up fs sm fs.length) e0 h2
     (repeat refine ZR ?_)
     refine ⟨(i+1:Nat),by show ss.length-(i+1)<ss.length-i;omega,hlt,?_⟩
     (repeat' first|exact trivial|rfl|apply And.intro)
     all_goals exact e.symm
    ·have e:=vQ (g:=(gM at')) (z:=fA (gM at') up fs sm fs.length) e0 h2
     (repeat refine ZR ?_)
     refine ⟨(i+1:Nat),by show ss.length-(i+1)<ss.length-i;omega,hlt,?_⟩
     (repeat' first|exact trivial|rfl|apply And.intro)
     all_goals exact e.symm
  ·have e:i=ss.length:=by omega
   subst e
   (repeat refine ZR ?_)
   (conv=>whnf)
   refine ⟨_,_,⟨rfl,rfl⟩,rfl,?_,rfl,rfl,?_⟩
   all_goals (repeat' first|exact trivial|rfl|apply And.intro)
theorem aDk (lb ab bb:Str) (fs:List (Str × Str)) (ss:List (Str × Str × Str)) (sm up:Str):gC Tryz.prog [Ju,aB3,Jv] { asks:=[(0,[]),(2,[])] } Tryz.f123 [.agg [S lb,S ab,S bb,.seq tFr fs,.seq tSr ss],S up,.clo 135 [] [.ptr 1 0]] [.cells [S lb,S ab,S bb,.seq tFr fs,.seq tSr ss] 52,.cells [S sm] 42] (fun r H'=>r= .tup []∧H'= [.cells [S lb,S ab,S bb,.seq tFr fs,.seq tSr ss] 52,.cells [S (fdS gV up fs ss sm)] 42]):=by
 (conv=>whnf)
 refine Need.mk rfl ?_
 (repeat'((conv=>whnf);first|refine Zg fun _=>?_|fail))
 refine Ask.mk ⟨{ X:=Nat,pre:=fun i=>i≤fs.length,mod:=fun i _=>[(13,I i)],heap:=fun i _=>[.cells [S lb,S ab,S bb,.seq tFr fs,.seq tSr ss] 52,.cells [S (fA gV up fs sm i)] 42,.cells [S lb,S ab,S bb,.seq tFr fs,.seq tSr ss] 52],mu:=fun i=>fs.length-i },rfl,?_⟩
 (repeat refine ZG ?_)
 refine ⟨⟨(0:Nat),Nat.zero_le _,by (repeat' first|exact trivial|rfl|apply And.intro)⟩,fun (i:Nat) hi=>?_⟩
 have hi:i≤fs.length:=hi
 by_cases hlt:i<fs.length
 ·by_cases h1:cmS (fs.getD i fr0).1 up≤0
  ·have e:=Ft (g:=gV) (z:=sm) h1
   (repeat refine ZR ?_)
   refine ⟨(i+1:Nat),by show fs.length-(i+1)<fs.length-i;omega,hlt,?_⟩
   (repeat' first|exact trivial|rfl|apply And.intro)
   all_goals exact e.symm
  ·have e:=Pw (g:=gV) (z:=sm) h1
   (repeat refine ZR ?_)
   refine ⟨(i+1:Nat),by show fs.length-(i+1)<fs.length-i;omega,hlt,?_⟩
   (repeat' first|exact trivial|rfl|apply And.intro)
   all_goals exact e.symm
 ·have e:i=fs.length:=by omega
  subst e
  (repeat' first|refine ZR ?_|refine Zg fun _=>?_)
  refine Ask.mk ⟨{ X:=Nat,pre:=fun i=>i≤ss.length,mod:=fun i _=>[(33,I i)],heap:=fun i _=>[.cells [S lb,S ab,S bb,.seq tFr fs,.seq tSr ss] 52,.cells [S (sA gV up ss (fA gV up fs sm fs.length) i)] 42,.cells [S lb,S ab,S bb,.seq tFr fs,.seq tSr ss] 52],mu:=fun i=>ss.length-i },rfl,?_⟩
  (repeat refine ZG ?_)
  refine ⟨⟨(0:Nat),Nat.zero_le _,by (repeat' first|exact trivial|rfl|apply And.intro)⟩,fun (i:Nat) hi=>?_⟩
  have hi:i≤ss.length:=hi
  by_cases hlt:i<ss.length
  ·by_cases h1:0<cmS (ss.getD i sr0).2.1 up
   ·have e0:=Fu h1
    by_cases h2:cmS (ss.getD i sr0).1 up<0
    ·have e:=oO (g:=gV) (z:=fA gV up fs sm fs.length) e0 h2
     (repeat refine ZR ?_)
     refine ⟨(i+1:Nat),by show ss.length-(i+1)<ss.length-i;omega,hlt,?_⟩
     (repeat' first|exact trivial|rfl|apply And.intro)
     all_goals exact e.symm
    ·have e:=vQ (g:=gV) (z:=fA gV up fs sm fs.length) e0 h2
     (repeat refine ZR ?_)
     refine ⟨(i+1:Nat),by show ss.length-(i+1)<ss.length-i;omega,hlt,?_⟩
     (repeat' first|exact trivial|rfl|apply And.intro)
     all_goals exact e.symm
   ·have e0:=Px h1
    by_cases h2:cmS (ss.getD i sr0).1 (ss.getD i sr0).2.1<0
    ·have e:=oO (g:=gV) (z:=fA gV up fs sm fs.length) e0 h2
     (repeat refine ZR ?_)
     refine ⟨(i+1:Nat),by show ss.length-(i+1)<ss.length-i;omega,hlt,?_⟩
     (repeat' first|exact trivial|rfl|apply And.intro)
     all_goals exact e.symm
    ·have e:=vQ (g:=gV) (z:=fA gV up fs sm fs.length) e0 h2
     (repeat refine ZR ?_)
     refine ⟨(i+1:Nat),by show ss.length-(i+1)<ss.length-i;omega,hlt,?_⟩
     (repeat' first|exact trivial|rfl|apply And.intro)
     all_goals exact e.symm
  ·have e:i=ss.length:=by omega
   subst e
   (repeat refine ZR ?_)
   (conv=>whnf)
   refine ⟨_,_,⟨rfl,rfl⟩,rfl,?_,rfl,rfl,?_⟩
   all_goals (repeat' first|exact trivial|rfl|apply And.intro)
theorem aDl (lb ab bb:Str) (fs:List (Str × Str)) (ss:List (Str × Str × Str)) (sm up:Str):gC Tryz.prog [Ju,aB4,Jv] { asks:=[(0,[]),(2,[])] } Tryz.f123 [.agg [S lb,S ab,S bb,.seq tFr fs,.seq tSr ss],S up,.clo 166 [] [.ptr 1 0,.ptr 0 0]] [.cells [S lb,S ab,S bb,.seq tFr fs,.seq tSr ss] 52,.cells [S sm] 42] (fun r H'=>r= .tup []∧H'= [.cells [S lb,S ab,S bb,.seq tFr fs,.seq tSr ss] 52,.cells [S (fdS (gR ab) up fs ss sm)] 42]):=by
 (conv=>whnf)
 refine Need.mk rfl ?_
 (repeat'((conv=>whnf);first|refine Zg fun _=>?_|fail))
 refine Ask.mk ⟨{ X:=Nat,pre:=fun i=>i≤fs.length,mod:=fun i _=>[(13,I i)],heap:=fun i _=>[.cells [S lb,S ab,S bb,.seq tFr fs,.seq tSr ss] 52,.cells [S (fA (gR ab) up fs sm i)] 42,.cells [S lb,S ab,S bb,.seq tFr fs,.seq tSr ss] 52],mu:=fun i=>fs.length-i },rfl,?_⟩
 (repeat refine ZG ?_)
 refine ⟨⟨(0:Nat),Nat.zero_le _,by (repeat' first|exact trivial|rfl|apply And.intro)⟩,fun (i:Nat) hi=>?_⟩
 have hi:i≤fs.length:=hi
 by_cases hlt:i<fs.length
 ·by_cases h1:cmS (fs.getD i fr0).1 up≤0
  ·have e:=Ft (g:=(gR ab)) (z:=sm) h1
   (repeat refine ZR ?_)
   refine ⟨(i+1:Nat),by show fs.length-(i+1)<fs.length-i;omega,hlt,?_⟩
   (repeat' first|exact trivial|rfl|apply And.intro)
   all_goals exact e.symm
  ·have e:=Pw (g:=(gR ab)) (z:=sm) h1
   (repeat refine ZR ?_)
   refine ⟨(i+1:Nat),by show fs.length-(i+1)<fs.length-i;omega,hlt,?_⟩
   (repeat' first|exact trivial|rfl|apply And.intro)
   all_goals exact e.symm
 ·have e:i=fs.length:=by omega
  subst e
  (repeat' first|refine ZR ?_|refine Zg fun _=>?_)
  refine Ask.mk ⟨{ X:=Nat,pre:=fun i=>i≤ss.length,mod:=fun i _=>[(33,I i)],heap:=fun i _=>[.cells [S lb,S ab,S bb,.seq tFr fs,.seq tSr ss] 52,.cells [S (sA (gR ab) up ss (fA (gR ab) up fs sm fs.length) i)] 42,.cells [S lb,S ab,S bb,.seq tFr fs,.seq tSr ss] 52],mu:=fun i=>ss.length-i },rfl,?_⟩
  (repeat refine ZG ?_)
  refine ⟨⟨(0:Nat),Nat.zero_le _,by (repeat' first|exact trivial|rfl|apply And.intro)⟩,fun (i:Nat) hi=>?_⟩
  have hi:i≤ss.length:=hi
  by_cases hlt:i<ss.length
  ·by_cases h1:0<cmS (ss.getD i sr0).2.1 up
   ·have e0:=Fu h1
    by_cases h2:cmS (ss.getD i sr0).1 up<0
    ·have e:=oO (g:=(gR ab)) (z:=fA (gR ab) up fs sm fs.length) e0 h2
     (repeat refine ZR ?_)
     refine ⟨(i+1:Nat),by show ss.length-(i+1)<ss.length-i;omega,hlt,?_⟩
     (repeat' first|exact trivial|rfl|apply And.intro)
     all_goals exact e.symm
    ·have e:=vQ (g:=(gR ab)) (z:=fA (gR ab) up fs sm fs.length) e0 h2
     (repeat refine ZR ?_)
     refine ⟨(i+1:Nat),by show ss.length-(i+1)<ss.length-i;omega,hlt,?_⟩
     (repeat' first|exact trivial|rfl|apply And.intro)
     all_goals exact e.symm
   ·have e0:=Px h1
    by_cases h2:cmS (ss.getD i sr0).1 (ss.getD i sr0).2.1<0
    ·have e:=oO (g:=(gR ab)) (z:=fA (gR ab) up fs sm fs.length) e0 h2
     (repeat refine ZR ?_)
     refine ⟨(i+1:Nat),by show ss.length-(i+1)<ss.length-i;omega,hlt,?_⟩
     (repeat' first|exact trivial|rfl|apply And.intro)
     all_goals exact e.symm
    ·have e:=vQ (g:=(gR ab)) (z:=fA (gR ab) up fs sm fs.length) e0 h2
     (repeat refine ZR ?_)
     refine ⟨(i+1:Nat),by show ss.length-(i+1)<ss.length-i;omega,hlt,?_⟩
     (repeat' first|exact trivial|rfl|apply And.intro)
     all_goals exact e.symm
  ·have e:i=ss.length:=by omega
   subst e
   (repeat refine ZR ?_)
   (conv=>whnf)
   refine ⟨_,_,⟨rfl,rfl⟩,rfl,?_,rfl,rfl,?_⟩
   all_goals (repeat' first|exact trivial|rfl|apply And.intro)
theorem aDm (lb ab bb:Str) (fs:List (Str × Str)) (ss:List (Str × Str × Str)) (sm up:Str):gC Tryz.prog [Ju,aB5,Jv] { asks:=[(0,[]),(2,[])] } Tryz.f123 [.agg [S lb,S ab,S bb,.seq tFr fs,.seq tSr ss],S up,.clo 205 [] [.ptr 1 0]] [.cells [S lb,S ab,S bb,.seq tFr fs,.seq tSr ss] 52,.cells [S sm] 42] (fun r H'=>r= .tup []∧H'= [.cells [S lb,S ab,S bb,.seq tFr fs,.seq tSr ss] 52,.cells [S (fdS gT up fs ss sm)] 42]):=by
 (conv=>whnf)
 refine Need.mk rfl ?_
 (repeat'((conv=>whnf);first|refine Zg fun _=>?_|fail))
 refine Ask.mk ⟨{ X:=Nat,pre:=fun i=>i≤fs.length,mod:=fun i _=>[(13,I i)],heap:=fun i _=>[.cells [S lb,S ab,S bb,.seq tFr fs,.seq tSr ss] 52,.cells [S (fA gT up fs sm i)] 42,.cells [S lb,S ab,S bb,.seq tFr fs,.seq tSr ss] 52],mu:=fun i=>fs.length-i },rfl,?_⟩
 (repeat refine ZG ?_)
 refine ⟨⟨(0:Nat),Nat.zero_le _,by (repeat' first|exact trivial|rfl|apply And.intro)⟩,fun (i:Nat) hi=>?_⟩
 have hi:i≤fs.length:=hi
 by_cases hlt:i<fs.length
 ·by_cases h1:cmS (fs.getD i fr0).1 up≤0
  ·have e:=Ft (g:=gT) (z:=sm) h1
   (repeat refine ZR ?_)
   refine ⟨(i+1:Nat),by show fs.length-(i+1)<fs.length-i;omega,hlt,?_⟩
   (repeat' first|exact trivial|rfl|apply And.intro)
   all_goals exact e.symm
  ·have e:=Pw (g:=gT) (z:=sm) h1
   (repeat refine ZR ?_)
   refine ⟨(i+1:Nat),by show fs.length-(i+1)<fs.length-i;omega,hlt,?_⟩
   (repeat' first|exact trivial|rfl|apply And.intro)
   all_goals exact e.symm
 ·have e:i=fs.length:=by omega
  subst e
  (repeat' first|refine ZR ?_|refine Zg fun _=>?_)
  refine Ask.mk ⟨{ X:=Nat,pre:=fun i=>i≤ss.length,mod:=fun i _=>[(33,I i)],heap:=fun i _=>[.cells [S lb,S ab,S bb,.seq tFr fs,.seq tSr ss] 52,.cells [S (sA gT up ss (fA gT up fs sm fs.length) i)] 42,.cells [S lb,S ab,S bb,.seq tFr fs,.seq tSr ss] 52],mu:=fun i=>ss.length-i },rfl,?_⟩
  (repeat refine ZG ?_)
  refine ⟨⟨(0:Nat),Nat.zero_le _,by (repeat' first|exact trivial|rfl|apply And.intro)⟩,fun (i:Nat) hi=>?_⟩
  have hi:i≤ss.length:=hi
  by_cases hlt:i<ss.length
  ·by_cases h1:0<cmS (ss.getD i sr0).2.1 up
   ·have e0:=Fu h1
    by_cases h2:cmS (ss.getD i sr0).1 up<0
    ·have e:=oO (g:=gT) (z:=fA gT up fs sm fs.length) e0 h2
     (repeat refine ZR ?_)
     refine ⟨(i+1:Nat),by show ss.length-(i+1)<ss.length-i;omega,hlt,?_⟩
     (repeat' first|exact trivial|rfl|apply And.intro)
     all_goals exact e.symm
    ·have e:=vQ (g:=gT) (z:=fA gT up fs sm fs.length) e0 h2
     (repeat refine ZR ?_)
     refine ⟨(i+1:Nat),by show ss.length-(i+1)<ss.length-i;omega,hlt,?_⟩
     (repeat' first|exact trivial|rfl|apply And.intro)
     all_goals exact e.symm
   ·have e0:=Px h1
    by_cases h2:cmS (ss.getD i sr0).1 (ss.getD i sr0).2.1<0
    ·have e:=oO (g:=gT) (z:=fA gT up fs sm fs.length) e0 h2
     (repeat refine ZR ?_)
     refine ⟨(i+1:Nat),by show ss.length-(i+1)<ss.length-i;omega,hlt,?_⟩
     (repeat' first|exact trivial|rfl|apply And.intro)
     all_goals exact e.symm
    ·have e:=vQ (g:=gT) (z:=fA gT up fs sm fs.length) e0 h2
     (repeat refine ZR ?_)
     refine ⟨(i+1:Nat),by show ss.length-(i+1)<ss.length-i;omega,hlt,?_⟩
     (repeat' first|exact trivial|rfl|apply And.intro)
     all_goals exact e.symm
  ·have e:i=ss.length:=by omega
   subst e
   (repeat refine ZR ?_)
   (conv=>whnf)
   refine ⟨_,_,⟨rfl,rfl⟩,rfl,?_,rfl,rfl,?_⟩
   all_goals (repeat' first|exact trivial|rfl|apply And.intro)
noncomputable def c4123:Con:=nM 123 fun args H K=>match args,H with
 | [.agg [.str lb,.str ab,.str bb,.seq (.pair .str .str) fs,.seq (.pair .str (.pair .str .str)) ss],.str up,.clo 124 [] [.ptr 2 0,.ptr 1 0]],[.cells [.str lb2,.str ab2,.str bb2,.seq (.pair .str .str) fs2,.seq (.pair .str (.pair .str .str)) ss2] e1,.cells [.str at'] e2,.cells [.str sm] e3]=>Need (e1=52∧e2=42∧e3=42∧lb2=lb∧ab2=ab∧bb2=bb∧fs2=fs∧ss2=ss) (K (.tup []) [.cells [S lb,S ab,S bb,.seq tFr fs,.seq tSr ss] 52,.cells [S at'] 42,.cells [S (fdS (gM at') up fs ss sm)] 42])
 | [.agg [.str lb,.str ab,.str bb,.seq (.pair .str .str) fs,.seq (.pair .str (.pair .str .str)) ss],.str up,.clo 135 [] [.ptr 1 0]],[.cells [.str lb2,.str ab2,.str bb2,.seq (.pair .str .str) fs2,.seq (.pair .str (.pair .str .str)) ss2] e1,.cells [.str sm] e3]=>Need (e1=52∧e3=42∧lb2=lb∧ab2=ab∧bb2=bb∧fs2=fs∧ss2=ss) (K (.tup []) [.cells [S lb,S ab,S bb,.seq tFr fs,.seq tSr ss] 52,.cells [S (fdS gV up fs ss sm)] 42])
 | [.agg [.str lb,.str ab,.str bb,.seq (.pair .str .str) fs,.seq (.pair .str (.pair .str .str)) ss],.str up,.clo 166 [] [.ptr 1 0,.ptr 0 0]],[.cells [.str lb2,.str ab2,.str bb2,.seq (.pair .str .str) fs2,.seq (.pair .str (.pair .str .str)) ss2] e1,.cells [.str sm] e3]=>Need (e1=52∧e3=42∧lb2=lb∧ab2=ab∧bb2=bb∧fs2=fs∧ss2=ss) (K (.tup []) [.cells [S lb,S ab,S bb,.seq tFr fs,.seq tSr ss] 52,.cells [S (fdS (gR ab) up fs ss sm)] 42])
 | [.agg [.str lb,.str ab,.str bb,.seq (.pair .str .str) fs,.seq (.pair .str (.pair .str .str)) ss],.str up,.clo 205 [] [.ptr 1 0]],[.cells [.str lb2,.str ab2,.str bb2,.seq (.pair .str .str) fs2,.seq (.pair .str (.pair .str .str)) ss2] e1,.cells [.str sm] e3]=>Need (e1=52∧e3=42∧lb2=lb∧ab2=ab∧bb2=bb∧fs2=fs∧ss2=ss) (K (.tup []) [.cells [S lb,S ab,S bb,.seq tFr fs,.seq tSr ss] 52,.cells [S (fdS gT up fs ss sm)] 42])
 | _,_=>False
theorem Py:aD Tryz.prog c4123:=by
 refine gE (enters_of Tryz.func123 (by kernel_rfl) rfl) ?_
 intro args H K h
 split at h
 ·obtain ⟨⟨rfl,rfl,rfl,rfl,rfl,rfl,rfl,rfl⟩,hK⟩:=h
  refine ⟨_,?_,aY (by simp[sZ,k4124,Pv]) Tryz.func123 (by simp[Tryz.ntmps123]) (aDj _ _ _ _ _ _ _ _)⟩
  rintro s H' ⟨rfl,rfl⟩
  exact hK
 ·obtain ⟨⟨rfl,rfl,rfl,rfl,rfl,rfl,rfl⟩,hK⟩:=h
  refine ⟨_,?_,aY (by simp[sZ,k4135,Pv]) Tryz.func123 (by simp[Tryz.ntmps123]) (aDk _ _ _ _ _ _ _)⟩
  rintro s H' ⟨rfl,rfl⟩
  exact hK
 ·obtain ⟨⟨rfl,rfl,rfl,rfl,rfl,rfl,rfl⟩,hK⟩:=h
  refine ⟨_,?_,aY (by simp[sZ,k4166,Pv]) Tryz.func123 (by simp[Tryz.ntmps123]) (aDl _ _ _ _ _ _ _)⟩
  rintro s H' ⟨rfl,rfl⟩
  exact hK
 ·obtain ⟨⟨rfl,rfl,rfl,rfl,rfl,rfl,rfl⟩,hK⟩:=h
  refine ⟨_,?_,aY (by simp[sZ,k4205,Pv]) Tryz.func123 (by simp[Tryz.ntmps123]) (aDm _ _ _ _ _ _ _)⟩
  rintro s H' ⟨rfl,rfl⟩
  exact hK
 ·exact h.elim
noncomputable def totS (lb:Str) (fs:List (Str × Str)) (ss:List (Str × Str × Str)):Str:=fdS gT lb fs ss [48]
noncomputable def rgtS (lb ab bb:Str) (fs:List (Str × Str)) (ss:List (Str × Str × Str)):Str:=dvS (fdS (gR ab) lb fs ss [48]) (sbS bb ab)
noncomputable def lftS (lb ab bb:Str) (fs:List (Str × Str)) (ss:List (Str × Str × Str)):Str:=sbS (totS lb fs ss) (rgtS lb ab bb fs ss)
noncomputable def supL (lb ab bb:Str) (fs:List (Str × Str)) (ss:List (Str × Str × Str)):List (Str × Str):=[(ab,lftS lb ab bb fs ss),(bb,rgtS lb ab bb fs ss)]
def c4168:Con:=aI 168 true fun args K=>match args with | [.agg [.str lb,.str ab,.str bb,.seq (.pair .str .str) fs,.seq (.pair .str (.pair .str .str)) ss]]=>K (S (totS lb fs ss)) | _=>False
theorem k4168:aD Tryz.prog c4168:=by
 refine kQ {} Tryz.func168 Tryz.ntmps168 (kc Py kn) fun _ _ h=>?_
 split at h
 case h_2=>exact h.elim
 refine kb h ?_
 (repeat refine ZR ?_)
 (conv=>whnf)
 (repeat' first|rfl)
def aB6:Con:=aI 112 true fun args K=>match args with | [.agg [.str lb,.str ab,.str bb,.seq (.pair .str .str) fs,.seq (.pair .str (.pair .str .str)) ss]]=>K (.tup [S (lftS lb ab bb fs ss),S (rgtS lb ab bb fs ss)]) | _=>False
theorem aB7:aD Tryz.prog aB6:=by
 refine kQ {} Tryz.func112 Tryz.ntmps112 (kc Py (kc k4168 (kc nP (kc aB1 kn)))) fun _ _ h=>?_
 split at h
 case h_2=>exact h.elim
 refine kb h ?_
 (repeat'((conv=>whnf);first|refine Zn ?_|(apply Pin.mk;apply Exists.intro)|apply Pinned.mk rfl rfl|fail))
 (conv=>whnf)
 (repeat' first|exact trivial|rfl|apply And.intro)
def c4118:Con:=aI 118 true fun args K=>match args with | [.agg [.str lb,.str ab,.str bb,.seq (.pair .str .str) fs,.seq (.pair .str (.pair .str .str)) ss]]=>K (.seq (.pair .str .str) (supL lb ab bb fs ss)) | _=>False
theorem aB8:aD Tryz.prog c4118:=by
 refine kQ {} Tryz.func118 Tryz.ntmps118 (kc aB7 kn) fun _ _ h=>?_
 split at h
 case h_2=>exact h.elim
 refine kb h ?_
 refine Own.r ?_
 (conv=>whnf)
 (repeat' first|rfl)
noncomputable def mP (l:List (Str × Str)) (at':Str):Nat→Str
 | 0=>[48]
 | i+1=>if cmS (l.getD i fr0).1 at'<0 then adS (mP l at' i) (mlS (l.getD i fr0).2 (sbS at' (l.getD i fr0).1)) else mP l at' i
noncomputable def vP (l:List (Str × Str)) (at':Str):Nat→Str
 | 0=>[48]
 | i+1=>if cmS (l.getD i fr0).1 at'≤0 then adS (vP l at' i) (l.getD i fr0).2 else vP l at' i
noncomputable def momS (lb ab bb:Str) (fs:List (Str × Str)) (ss:List (Str × Str × Str)) (at':Str):Str:=fdS (gM at') at' fs ss (mP (supL lb ab bb fs ss) at' 2)
noncomputable def sheS (lb ab bb:Str) (fs:List (Str × Str)) (ss:List (Str × Str × Str)) (at':Str):Str:=fdS gV at' fs ss (vP (supL lb ab bb fs ss) at' 2)
theorem aDn {l:List (Str × Str)} {a:Str} {i:Nat} (h:cmS (l.getD i fr0).1 a<0):mP l a (i+1)=adS (mP l a i) (mlS (l.getD i fr0).2 (sbS a (l.getD i fr0).1)):=if_pos h
theorem mP_no {l:List (Str × Str)} {a:Str} {i:Nat} (h:¬cmS (l.getD i fr0).1 a<0):mP l a (i+1)=mP l a i:=if_neg h
theorem aDo {l:List (Str × Str)} {a:Str} {i:Nat} (h:cmS (l.getD i fr0).1 a≤0):vP l a (i+1)=adS (vP l a i) (l.getD i fr0).2:=if_pos h
theorem vP_no {l:List (Str × Str)} {a:Str} {i:Nat} (h:¬cmS (l.getD i fr0).1 a≤0):vP l a (i+1)=vP l a i:=if_neg h
def aB9:Con:=aI 59 true fun args K=>match args with | [.agg [.str lb,.str ab,.str bb,.seq (.pair .str .str) fs,.seq (.pair .str (.pair .str .str)) ss],.str at']=>K (S (momS lb ab bb fs ss at')) | _=>False
theorem aCa:aD Tryz.prog aB9:=by
 refine kQ { asks:=[(0,[])] } Tryz.func59 Tryz.ntmps59 (kc aB8 (kc sZ (kc oM (kc oN (kc nP (kc Py kn)))))) fun _ _ h=>?_
 split at h
 case h_2=>exact h.elim
 rename_i lb ab bb fs ss at'
 change List (Str × Str) at fs
 change List (Str × Str × Str) at ss
 refine kb h ?_
 have hl:(supL lb ab bb fs ss).length=2:=rfl
 (repeat'((conv=>whnf);first|refine Zg fun _=>?_|fail))
 refine Ask.mk ⟨{ X:=Nat,pre:=fun i=>i≤2,mod:=fun i _=>[(11,I i)],heap:=fun i _=>[.cells [S lb,S ab,S bb,.seq tFr fs,.seq tSr ss] 52,.cells [S at'] 42,.cells [S (mP (supL lb ab bb fs ss) at' i)] 42],mu:=fun i=>2-i },rfl,?_⟩
 (repeat refine ZG ?_)
 refine ⟨⟨(0:Nat),Nat.zero_le _,by (repeat' first|exact trivial|rfl|apply And.intro)⟩,fun (i:Nat) hi=>?_⟩
 have hi:i≤2:=hi
 by_cases hlt:i<2
 ·by_cases h1:cmS ((supL lb ab bb fs ss).getD i fr0).1 at'<0
  ·have e:=aDn h1
   (repeat'((conv=>whnf);first|refine Zn ?_|refine Zj ?_|(apply Pin.mk;apply Exists.intro)|apply Pinned.mk rfl rfl|refine Zy ?_|fail))
   refine ⟨(i+1:Nat),by show 2-(i+1)<2-i;omega,hlt,?_⟩
   (repeat' first|exact trivial|rfl|apply And.intro)
   all_goals exact e.symm
  ·have e:=mP_no h1
   (repeat refine ZR ?_)
   refine ⟨(i+1:Nat),by show 2-(i+1)<2-i;omega,hlt,?_⟩
   (repeat' first|exact trivial|rfl|apply And.intro)
   all_goals exact e.symm
 ·have e:i=2:=by omega
  subst e
  (repeat refine ZR ?_)
  (conv=>whnf)
  (repeat' first|rfl)
def aCb:Con:=aI 62 true fun args K=>match args with | [.agg [.str lb,.str ab,.str bb,.seq (.pair .str .str) fs,.seq (.pair .str (.pair .str .str)) ss],.str at']=>K (S (sheS lb ab bb fs ss at')) | _=>False
theorem aCc:aD Tryz.prog aCb:=by
 refine kQ { asks:=[(0,[])] } Tryz.func62 Tryz.ntmps62 (kc aB8 (kc sZ (kc oM (kc oN (kc nP (kc Py kn)))))) fun _ _ h=>?_
 split at h
 case h_2=>exact h.elim
 rename_i lb ab bb fs ss at'
 change List (Str × Str) at fs
 change List (Str × Str × Str) at ss
 refine kb h ?_
 have hl:(supL lb ab bb fs ss).length=2:=rfl
 (repeat'((conv=>whnf);first|refine Zg fun _=>?_|fail))
 refine Ask.mk ⟨{ X:=Nat,pre:=fun i=>i≤2,mod:=fun i _=>[(11,I i)],heap:=fun i _=>[.cells [S lb,S ab,S bb,.seq tFr fs,.seq tSr ss] 52,.cells [S (vP (supL lb ab bb fs ss) at' i)] 42],mu:=fun i=>2-i },rfl,?_⟩
 (repeat refine ZG ?_)
 refine ⟨⟨(0:Nat),Nat.zero_le _,by (repeat' first|exact trivial|rfl|apply And.intro)⟩,fun (i:Nat) hi=>?_⟩
 have hi:i≤2:=hi
 by_cases hlt:i<2
 ·by_cases h1:cmS ((supL lb ab bb fs ss).getD i fr0).1 at'≤0
  ·have e:=aDo h1
   (repeat refine ZR ?_)
   refine ⟨(i+1:Nat),by show 2-(i+1)<2-i;omega,hlt,?_⟩
   (repeat' first|exact trivial|rfl|apply And.intro)
   all_goals exact e.symm
  ·have e:=vP_no h1
   (repeat refine ZR ?_)
   refine ⟨(i+1:Nat),by show 2-(i+1)<2-i;omega,hlt,?_⟩
   (repeat' first|exact trivial|rfl|apply And.intro)
   all_goals exact e.symm
 ·have e:i=2:=by omega
  subst e
  (repeat refine ZR ?_)
  (conv=>whnf)
  (repeat' first|rfl)
def c4116:Con:=aI 116 true fun args K=>match args with | [.str s]=>K (I (digs s).length) | _=>False
theorem aCd:aD Tryz.prog c4116:=by
 refine kQ {} Tryz.func116 Tryz.ntmps116 (kc k88 kn) fun _ _ h=>?_
 split at h
 case h_2=>exact h.elim
 refine kb h ?_
 have h:((⟨#[45]⟩:ByteArray).data.toList)= [45]:=rfl
 (repeat' first|refine ZR ?_|refine Zg fun _=>?_)
 (conv=>whnf)
 (repeat' first|rfl|apply And.intro)
structure NmV (a:Str):Prop where
 ck:chkQ a=0
 n:(digs (ptQ a).1).length≤12
 d:(digs (ptQ a).2).length≤2
 s:(ptQ a).2.length=2→¬(¬Op.bytesLess (ptQ a).2 [49,50]=true∧¬(ptQ a).2= [49,50])
def c4204:Con:=aI 204 true fun args K=>match args with | [.str a]=>Need (NmV a) (K (I 0)) | _=>False
theorem k4204:aD Tryz.prog c4204:=by
 refine kQ {} Tryz.func204 Tryz.ntmps204 (kc k21 (kc k13 (kc aCd kn))) fun _ _ h=>?_
 split at h
 case h_2=>exact h.elim
 rename_i a
 refine kb h.go ?_
 replace h:=h.ok
 obtain ⟨h1,h2,h3,h4⟩:=h
 by_cases h5:(ptQ a).2.length=2
 ·have h6:=h4 h5
  have h7:¬(¬Op.bytesLess (ptQ a).2 (⟨#[49,50]⟩:ByteArray).data.toList=true∧¬(ptQ a).2=(⟨#[49,50]⟩:ByteArray).data.toList):=h6
  (repeat' first|refine ZR ?_|refine Zg fun _=>?_)
  (conv=>whnf)
  (repeat' first|rfl|apply And.intro)
 ·(repeat' first|refine ZR ?_|refine Zg fun _=>?_)
  (conv=>whnf)
  (repeat' first|rfl|apply And.intro)
def c4165:Con:=aI 165 true fun args K=>match args with | [.seq .str l]=>Need (∀i,i<l.length→NmV (l.getD i [])) (K (I 0)) | _=>False
theorem aCe:aD Tryz.prog c4165:=by
 refine kQ { asks:=[(0,[])] } Tryz.func165 Tryz.ntmps165 (kc k4204 kn) fun _ _ h=>?_
 split at h
 case h_2=>exact h.elim
 rename_i l
 change List Str at l
 refine kb h.go ?_
 replace h:=h.ok
 (repeat'((conv=>whnf);first|refine Zg fun _=>?_|fail))
 refine Ask.mk ⟨{ X:=Nat,pre:=fun i=>i≤l.length,mod:=fun i _=>[(8,I i)],heap:=fun i H=>H,mu:=fun i=>l.length-i },rfl,?_⟩
 (repeat refine ZG ?_)
 refine ⟨⟨(0:Nat),Nat.zero_le _,by (repeat' first|exact trivial|rfl|apply And.intro)⟩,fun (i:Nat) hi=>?_⟩
 have hi:i≤l.length:=hi
 by_cases hlt:i<l.length
 ·have hv:=h i hlt
  (repeat refine ZR ?_)
  refine ⟨(i+1:Nat),by show l.length-(i+1)<l.length-i;omega,hlt,by (repeat' first|exact trivial|rfl|apply And.intro)⟩
 ·have e:i=l.length:=by omega
  subst e
  (repeat refine ZR ?_)
  (conv=>whnf)
  (repeat' first|rfl|apply And.intro)
def OutV (lb a:Str):Prop:=cmS a [48]<0∨0<cmS a lb
def c4117:Con:=aI 117 true fun args K=>match args with | [.agg [.str lb,.str ab,.str bb,.seq (.pair .str .str) fs,.seq (.pair .str (.pair .str .str)) ss],.str a]=>K (.bl (OutV lb a) (Classical.propDecidable _)) | _=>False
theorem Vx:aD Tryz.prog c4117:=by
 refine kQ {} Tryz.func117 Tryz.ntmps117 (kc sZ kn) fun _ _ h=>?_
 split at h
 case h_2=>exact h.elim
 rename_i lb ab bb fs ss a
 change List (Str × Str) at fs
 change List (Str × Str × Str) at ss
 refine kb h ?_
 have hq:OutV lb a↔(cmS a [48]<0∨0<cmS a lb):=Iff.rfl
 generalize OutV lb a=M at*
 by_cases h:cmS a [48]<0
 ·have hM:=hq.2 (.inl h)
  have h':cmS a (⟨#[48]⟩:ByteArray).data.toList<0:=h
  (repeat refine ZR ?_)
  (conv=>whnf)
  exact hM
 ·have h':¬cmS a (⟨#[48]⟩:ByteArray).data.toList<0:=h
  have hM:0<cmS a lb↔M:=⟨fun q=>hq.2 (.inr q),fun q=>(hq.1 q).resolve_left h⟩
  (repeat refine ZR ?_)
  (conv=>whnf)
  exact hM
structure BmV (lb ab bb:Str) (fs:List (Str × Str)) (ss:List (Str × Str × Str)):Prop where
 l:NmV lb
 a:NmV ab
 b:NmV bb
 l0:0<cmS lb [48]
 ao:¬OutV lb ab
 bo:¬OutV lb bb
 o:cmS ab bb<0
 nf:fs.length≤64
 ns:ss.length≤64
 f:∀i,i<fs.length→NmV (fs.getD i fr0).1∧NmV (fs.getD i fr0).2∧¬OutV lb (fs.getD i fr0).1
 s:∀i,i<ss.length→NmV (ss.getD i sr0).1∧NmV (ss.getD i sr0).2.1∧NmV (ss.getD i sr0).2.2∧¬OutV lb (ss.getD i sr0).1∧¬OutV lb (ss.getD i sr0).2.1∧cmS (ss.getD i sr0).1 (ss.getD i sr0).2.1<0
theorem all2 {x y:Str} (hx:NmV x) (hy:NmV y):∀i,i< [x,y].length→NmV ([x,y].getD i []):=fun i hi=>by
 have hi:i<2:=hi
 rcases i with _ | _ | i
 ·exact hx
 ·exact hy
 ·omega
theorem all3 {x y z:Str} (hx:NmV x) (hy:NmV y) (hz:NmV z):∀i,i< [x,y,z].length→NmV ([x,y,z].getD i []):=fun i hi=>by
 have hi:i<3:=hi
 rcases i with _ | _ | _ | i
 ·exact hx
 ·exact hy
 ·exact hz
 ·omega
def c4164:Con:=aI 164 true fun args K=>match args with | [.agg [.str lb,.str ab,.str bb,.seq (.pair .str .str) fs,.seq (.pair .str (.pair .str .str)) ss]]=>Need (BmV lb ab bb fs ss) (K (I 0)) | _=>False
theorem k4164:aD Tryz.prog c4164:=by
 refine kQ {} Tryz.func164 Tryz.ntmps164 (kc aCe (kc sZ (kc Vx kn))) fun _ _ h=>?_
 split at h
 case h_2=>exact h.elim
 rename_i lb ab bb fs ss
 change List (Str × Str) at fs
 change List (Str × Str × Str) at ss
 refine kb h.go ?_
 replace h:=h.ok
 have h1:=all3 h.l h.a h.b
 have h2:¬cmS lb (⟨#[48]⟩:ByteArray).data.toList≤0:=fun q=>by have:=h.l0;exact absurd q (by show ¬cmS lb [48]≤0;omega)
 have h3:=h.ao
 have h4:=h.bo
 have h5:=h.o
 (repeat refine ZR ?_)
 (conv=>whnf)
 (repeat' first|rfl|apply And.intro)
def aCf:Con:=aI 111 true fun args K=>match args with | [.agg [.str lb,.str ab,.str bb,.seq (.pair .str .str) fs,.seq (.pair .str (.pair .str .str)) ss]]=>Need (BmV lb ab bb fs ss) (K (I 0)) | _=>False
theorem aCg:aD Tryz.prog aCf:=by
 refine kQ { asks:=[(0,[]),(2,[])] } Tryz.func111 Tryz.ntmps111 (kc k4164 (kc aCe (kc sZ (kc Vx kn)))) fun _ _ h=>?_
 split at h
 case h_2=>exact h.elim
 rename_i lb ab bb fs ss
 change List (Str × Str) at fs
 change List (Str × Str × Str) at ss
 refine kb h.go ?_
 replace h:=h.ok
 have n1:=h.nf
 have n2:=h.ns
 (repeat' first|refine ZR ?_|refine Zg fun _=>?_)
 refine Ask.mk ⟨{ X:=Nat,pre:=fun i=>i≤fs.length,mod:=fun i _=>[(28,I i)],heap:=fun i H=>H,mu:=fun i=>fs.length-i },rfl,?_⟩
 (repeat refine ZG ?_)
 refine ⟨⟨(0:Nat),Nat.zero_le _,by (repeat' first|exact trivial|rfl|apply And.intro)⟩,fun (i:Nat) hi=>?_⟩
 have hi:i≤fs.length:=hi
 by_cases hlt:i<fs.length
 ·obtain ⟨f1,f2,f3⟩:=h.f i hlt
  have f4:=all2 f1 f2
  (repeat refine ZR ?_)
  refine ⟨(i+1:Nat),by show fs.length-(i+1)<fs.length-i;omega,hlt,by (repeat' first|exact trivial|rfl|apply And.intro)⟩
 ·have e:i=fs.length:=by omega
  subst e
  (repeat' first|refine ZR ?_|refine Zg fun _=>?_)
  refine Ask.mk ⟨{ X:=Nat,pre:=fun i=>i≤ss.length,mod:=fun i _=>[(49,I i)],heap:=fun i H=>H,mu:=fun i=>ss.length-i },rfl,?_⟩
  (repeat refine ZG ?_)
  refine ⟨⟨(0:Nat),Nat.zero_le _,by (repeat' first|exact trivial|rfl|apply And.intro)⟩,fun (i:Nat) hi=>?_⟩
  have hi:i≤ss.length:=hi
  by_cases hlt:i<ss.length
  ·obtain ⟨f1,f2,f3,f4,f5,f6⟩:=h.s i hlt
   have f7:=all3 f1 f2 f3
   have f8:¬0≤cmS (ss.getD i sr0).1 (ss.getD i sr0).2.1:=by omega
   (repeat refine ZR ?_)
   refine ⟨(i+1:Nat),by show ss.length-(i+1)<ss.length-i;omega,hlt,by (repeat' first|exact trivial|rfl|apply And.intro)⟩
  ·have e:i=ss.length:=by omega
   subst e
   (repeat refine ZR ?_)
   (conv=>whnf)
   (repeat' first|rfl|apply And.intro)
structure PlV (lb a:Str):Prop where
 ck:chkQ a=0
 n:(digs (ptQ a).1).length≤56
 d:(digs (ptQ a).2).length≤56
 o:¬OutV lb a
def Vy:Con:=aI 58 true fun args K=>match args with | [.agg [.str lb,.str ab,.str bb,.seq (.pair .str .str) fs,.seq (.pair .str (.pair .str .str)) ss],.str a]=>Need (BmV lb ab bb fs ss∧PlV lb a) (K (I 0)) | _=>False
theorem Pz:aD Tryz.prog Vy:=by
 refine kQ {} Tryz.func58 Tryz.ntmps58 (kc aCg (kc k21 (kc k13 (kc aCd (kc Vx kn))))) fun _ _ h=>?_
 split at h
 case h_2=>exact h.elim
 refine kb h.go ?_
 replace h:=h.ok
 obtain ⟨hb,h1,h2,h3,h4⟩:=h
 (repeat refine ZR ?_)
 (conv=>whnf)
 (repeat' first|rfl|apply And.intro)
theorem aCh (lb ab bb:Str) (fs:List (Str × Str)) (ss:List (Str × Str × Str)) (a:Str) (h:BmV lb ab bb fs ss∧PlV lb a):body Tryz.prog [Vy,aB9] {} true Tryz.f16 [.agg [S lb,S ab,S bb,.seq tFr fs,.seq tSr ss],S a] (.tup [S (momS lb ab bb fs ss a),I 0]):=by
 (repeat refine ZR ?_)
 (conv=>whnf)
 (repeat' first|exact trivial|rfl|apply And.intro)
def Vz:Con:=aI 16 true fun args K=>match args with | [.agg [.str lb,.str ab,.str bb,.seq (.pair .str .str) fs,.seq (.pair .str (.pair .str .str)) ss],.str a]=>Need (BmV lb ab bb fs ss∧PlV lb a) (K (.tup [S (momS lb ab bb fs ss a),I 0])) | _=>False
theorem k4016:aD Tryz.prog Vz:=by
 refine kO Tryz.func16 fun args K h=>?_
 simp only[Vz] at h;split at h
 ·rename_i lb ab bb fs ss a;exact ⟨_,h.go,triB Tryz.func16 Tryz.ntmps16 (by simp[Pz,aCa]) (aCh lb ab bb fs ss a h.ok)⟩
 ·exact h.elim
theorem aCi (lb ab bb:Str) (fs:List (Str × Str)) (ss:List (Str × Str × Str)) (a:Str) (h:BmV lb ab bb fs ss∧PlV lb a):body Tryz.prog [Vy,aCb] {} true Tryz.f20 [.agg [S lb,S ab,S bb,.seq tFr fs,.seq tSr ss],S a] (.tup [S (sheS lb ab bb fs ss a),I 0]):=by
 (repeat refine ZR ?_)
 (conv=>whnf)
 (repeat' first|exact trivial|rfl|apply And.intro)
def Wa:Con:=aI 20 true fun args K=>match args with | [.agg [.str lb,.str ab,.str bb,.seq (.pair .str .str) fs,.seq (.pair .str (.pair .str .str)) ss],.str a]=>Need (BmV lb ab bb fs ss∧PlV lb a) (K (.tup [S (sheS lb ab bb fs ss a),I 0])) | _=>False
theorem k4020:aD Tryz.prog Wa:=by
 refine kO Tryz.func20 fun args K h=>?_
 simp only[Wa] at h;split at h
 ·rename_i lb ab bb fs ss a;exact ⟨_,h.go,triB Tryz.func20 Tryz.ntmps20 (by simp[Pz,aCc]) (aCi lb ab bb fs ss a h.ok)⟩
 ·exact h.elim
theorem b4056 (lb ab bb:Str) (fs:List (Str × Str)) (ss:List (Str × Str × Str)) (h:BmV lb ab bb fs ss):body Tryz.prog [aCf,aB6] {} true Tryz.f56 [.agg [S lb,S ab,S bb,.seq tFr fs,.seq tSr ss]] (.tup [S (lftS lb ab bb fs ss),S (rgtS lb ab bb fs ss),I 0]):=by
 (repeat refine ZR ?_)
 (conv=>whnf)
 (repeat' first|exact trivial|rfl|apply And.intro)
def c3089:Con:=aI 197 true fun args K=>match args with | [.str a]=>K (.tup [S (ptQ a).1,S (ptQ a).2,I (chkQ a)]) | _=>False
theorem k3089:aD Tryz.prog c3089:=by
 refine kQ {} Tryz.func197 Tryz.ntmps197 (kc k44 (kc k65 kn)) fun _ _ h=>?_
 split at h
 case h_2=>exact h.elim
 rename_i a
 refine kb h ?_
 by_cases h:chkQ a=0
 ·have e:ptQ a=(pn (valQ a),pd (valQ a)):=by unfold ptQ;rw[if_pos h]
  rw[e]
  refine Br.mkN (show ¬ ¬chkQ a=0 from fun h'=>h' h) ?_
  (repeat refine ZG ?_)
  (conv=>whnf)
  (repeat' first|exact trivial|rfl|apply And.intro)
  (conv=>whnf)
  exact h.symm
 ·have e:ptQ a=([],[]):=by unfold ptQ;rw[if_neg h]
  rw[e]
  refine Br.mkY h ?_
  (conv=>whnf)
  (repeat' first|exact trivial|rfl|apply And.intro)
def c4198:Con:=aI 198 true fun args K=>match args with | [.str s]=>K (I (digs s).length) | _=>False
theorem k4198:aD Tryz.prog c4198:=by
 refine kQ {} Tryz.func198 Tryz.ntmps198 kn fun _ _ h=>?_
 split at h
 case h_2=>exact h.elim
 rename_i s
 refine kb h ?_
 rcases s with _ | ⟨c,r⟩
 ·have h:¬(0<(([]:Str).length:Int)):=by simp
  (repeat' first|refine ZR ?_|refine Zg fun _=>?_)
  (conv=>whnf)
  (repeat' first|rfl|apply And.intro)
 ·have h:0<((c::r).length:Int):=by simp
  have hb:aH (c::r) 0=c.toNat:=by simp[aH]
  by_cases h2:c=45
  ·have h3:aH (c::r) 0=45:=by rw[hb,h2];rfl
   have e:digs (c::r)=r:=by subst h2;rfl
   have e2:((c::r).length:Int)-1=r.length:=by simp
   rw[e]
   (repeat' first|refine ZR ?_|refine Zg fun _=>?_)
   (conv=>whnf)
   (repeat' first|rfl|apply And.intro)
   exact e2
  ·have h3:¬aH (c::r) 0=45:=fun q=>by
    rw[hb] at q
    exact h2 (UInt8.toNat_inj.1 (by show c.toNat=45;omega))
   have e:digs (c::r)=c::r:=by
    unfold digs
    rw[if_neg (by simpa using h2)]
   rw[e]
   (repeat' first|refine ZR ?_|refine Zg fun _=>?_)
   (conv=>whnf)
   (repeat' first|rfl|apply And.intro)
def LngV (a:Str):Prop:=12<(digs (ptQ a).1).length∨0<cmS (ptQ a).2 [49,50]
def c4162:Con:=aI 162 true fun args K=>match args with | [.str a]=>K (.bl (LngV a) (Classical.propDecidable _)) | _=>False
theorem k4162:aD Tryz.prog c4162:=by
 refine kQ {} Tryz.func162 Tryz.ntmps162 (kc k3089 (kc k43 (kc k4198 kn))) fun _ _ h=>?_
 split at h
 case h_2=>exact h.elim
 rename_i a
 refine kb h ?_
 have hq:LngV a↔(12<(digs (ptQ a).1).length∨0<cmS (ptQ a).2 [49,50]):=Iff.rfl
 generalize LngV a=M at*
 have h3:((⟨#[49,50]⟩:ByteArray).data.toList)= [49,50]:=rfl
 by_cases h:12<(digs (ptQ a).1).length
 ·have hM:=hq.2 (.inl h)
  (repeat refine ZR ?_)
  (conv=>whnf)
  exact hM
 ·have hM:0<cmS (ptQ a).2 (⟨#[49,50]⟩:ByteArray).data.toList↔M:=⟨fun q=>hq.2 (.inr q),fun q=>(hq.1 q).resolve_left h⟩
  unfold cmS at hM
  (repeat refine ZR ?_)
  (conv=>whnf)
  exact hM
def c4109:Con:=aI 109 true fun args K=>match args with | [.str a,.str b]=>K (.bl (cmS a b<0) (Classical.propDecidable _)) | _=>False
theorem aCp:aD Tryz.prog c4109:=by
 refine kQ {} Tryz.func109 Tryz.ntmps109 (kc k43 kn) fun _ _ h=>?_
 split at h
 case h_2=>exact h.elim
 rename_i a b
 refine kb h ?_
 have hM:(cmpQ a b).1<0↔cmS a b<0:=Iff.rfl
 generalize (cmS a b<0)=M at*
 (conv=>whnf)
 exact hM
def BesV (lb a:Str):Prop:=cmS a [48]<0∨cmS lb a<0
def c4110:Con:=aI 110 true fun args K=>match args with | [.agg [.str lb,.str ab,.str bb,.seq (.pair .str .str) fs,.seq (.pair .str (.pair .str .str)) ss],.str a]=>K (.bl (BesV lb a) (Classical.propDecidable _)) | _=>False
theorem k4110:aD Tryz.prog c4110:=by
 refine kQ {} Tryz.func110 Tryz.ntmps110 (kc aCp kn) fun _ _ h=>?_
 split at h
 case h_2=>exact h.elim
 rename_i lb ab bb fs ss a
 change List (Str × Str) at fs
 change List (Str × Str × Str) at ss
 refine kb h ?_
 have hq:BesV lb a↔(cmS a [48]<0∨cmS lb a<0):=Iff.rfl
 generalize BesV lb a=M at*
 by_cases h:cmS a [48]<0
 ·have hM:=hq.2 (.inl h)
  have h':cmS a (⟨#[48]⟩:ByteArray).data.toList<0:=h
  (repeat refine ZR ?_)
  (conv=>whnf)
  exact hM
 ·have h':¬cmS a (⟨#[48]⟩:ByteArray).data.toList<0:=h
  have hM:cmS lb a<0↔M:=⟨fun q=>hq.2 (.inr q),fun q=>(hq.1 q).resolve_left h⟩
  (repeat refine ZR ?_)
  (conv=>whnf)
  exact hM
noncomputable def nmE (a:Str):Int:=if chkQ a=0 then (open Classical in if LngV a then 4 else 0) else chkQ a
noncomputable def numE:List Str→Int
 | []=>0
 | a::r=>if nmE a=0 then numE r else nmE a
def c4108:Con:=aI 108 true fun args K=>match args with | [.seq .str l]=>K (I (numE l)) | _=>False
theorem k4108:aD Tryz.prog c4108:=by
 refine kQ { asks:=[(0,[])] } Tryz.func108 Tryz.ntmps108 (kc k44 (kc k4162 kn)) fun _ _ h=>?_
 split at h
 case h_2=>exact h.elim
 rename_i l
 change List Str at l
 refine kb h ?_
 refine Ask.mk ⟨{ X:=Nat,pre:=fun i=>i≤l.length∧numE l=numE (l.drop i),mod:=fun i _=>[(3,I i)],heap:=fun i H=>H,mu:=fun i=>l.length-i },rfl,?_⟩
 (repeat refine ZG ?_)
 refine ⟨⟨(0:Nat),⟨Nat.zero_le _,rfl⟩,by (repeat' first|exact trivial|rfl|apply And.intro)⟩,fun (i:Nat) hi=>?_⟩
 obtain ⟨hi,hn⟩:i≤l.length∧numE l=numE (l.drop i):=hi
 by_cases hlt:i<l.length
 ·have hd:l.drop i=l.getD i []::l.drop (i+1):=by
   rw[List.drop_eq_getElem_cons hlt,List.getD_eq_getElem?_getD,List.getElem?_eq_getElem hlt];rfl
  rw[hd,numE] at hn
  by_cases h1:chkQ (l.getD i [])=0
  ·by_cases h2:LngV (l.getD i [])
   ·have e:numE l=4:=by rw[hn,nmE,if_pos h1,if_pos h2,if_neg (by decide)]
    generalize numE l=z at*
    subst e
    (repeat' first|refine ZR ?_|refine Zg fun _=>?_)
    (conv=>whnf)
    (repeat' first|rfl|apply And.intro)
   ·have e:numE l=numE (l.drop (i+1)):=by rw[hn,nmE,if_pos h1,if_neg h2,if_pos rfl]
    (repeat' first|refine ZR ?_|refine Zg fun _=>?_)
    refine ⟨(i+1:Nat),by show l.length-(i+1)<l.length-i;omega,⟨hlt,e⟩,by (repeat' first|exact trivial|rfl|apply And.intro)⟩
  ·have e:numE l=chkQ (l.getD i []):=by rw[hn,nmE,if_neg h1,if_neg h1]
   generalize numE l=z at*
   subst e
   (repeat' first|refine ZR ?_|refine Zg fun _=>?_)
   (conv=>whnf)
   (repeat' first|rfl|apply And.intro)
 ·have e:i=l.length:=by omega
  subst e
  have e:numE l=0:=by rw[hn,List.drop_length];rfl
  generalize numE l=z at*
  subst e
  (repeat' first|refine ZR ?_|refine Zg fun _=>?_)
  (conv=>whnf)
  (repeat' first|rfl|apply And.intro)
noncomputable def frE (lb:Str):List (Str × Str)→Int
 | []=>0
 | f::r=>if numE [f.1,f.2]=0 then (open Classical in if BesV lb f.1 then 2 else frE lb r) else numE [f.1,f.2]
noncomputable def spE (lb:Str):List (Str × Str × Str)→Int
 | []=>0
 | s::r=>if numE [s.1,s.2.1,s.2.2]=0 then (open Classical in if BesV lb s.1∨BesV lb s.2.1 then 2 else if cmS s.1 s.2.1<0 then spE lb r else 10) else numE [s.1,s.2.1,s.2.2]
noncomputable def ckB (lb ab bb:Str) (fs:List (Str × Str)) (ss:List (Str × Str × Str)):Int:=
 if 64<fs.length∨64<ss.length then 4 else if numE [lb,ab,bb]=0 then (open Classical in if cmS [48] lb<0 then (if BesV lb ab∨BesV lb bb then 2 else if cmS ab bb<0 then (if frE lb fs=0 then spE lb ss else frE lb fs) else 10) else 12) else numE [lb,ab,bb]
theorem Qc {α:Type} (l:List α) (d:α) (i:Nat) (h:i<l.length):l.drop i=l.getD i d::l.drop (i+1):=by
 rw[List.drop_eq_getElem_cons h,List.getD_eq_getElem?_getD,List.getElem?_eq_getElem h];rfl
def c4055:Con:=aI 55 true fun args K=>match args with | [.agg [.str lb,.str ab,.str bb,.seq (.pair .str .str) fs,.seq (.pair .str (.pair .str .str)) ss]]=>K (I (ckB lb ab bb fs ss)) | _=>False
theorem k4055:aD Tryz.prog c4055:=by
 refine kQ { asks:=[(0,[]),(2,[])] } Tryz.func55 Tryz.ntmps55 (kc k4108 (kc aCp (kc k4110 kn))) fun _ _ h=>?_
 split at h
 case h_2=>exact h.elim
 rename_i lb ab bb fs ss
 change List (Str × Str) at fs
 change List (Str × Str × Str) at ss
 refine kb h ?_
 have hz:((⟨#[48]⟩:ByteArray).data.toList)= [48]:=rfl
 by_cases n1:64<fs.length
 ·have e:ckB lb ab bb fs ss=4:=by rw[ckB,if_pos (.inl n1)]
  generalize ckB lb ab bb fs ss=z at*
  subst e
  (repeat' first|refine ZR ?_|refine Zg fun _=>?_)
  (conv=>whnf)
  (repeat' first|rfl|apply And.intro)
 by_cases n2:64<ss.length
 ·have e:ckB lb ab bb fs ss=4:=by rw[ckB,if_pos (.inr n2)]
  generalize ckB lb ab bb fs ss=z at*
  subst e
  (repeat' first|refine ZR ?_|refine Zg fun _=>?_)
  (conv=>whnf)
  (repeat' first|rfl|apply And.intro)
 have e0:=show ckB lb ab bb fs ss= _ from if_neg (by omega)
 rcases (Classical.em (numE [lb,ab,bb]=0)).symm with n3 | n3
 ·rw[if_neg n3] at e0
  generalize ckB lb ab bb fs ss=z at*
  subst e0
  (repeat' first|refine ZR ?_|refine Zg fun _=>?_)
  (conv=>whnf)
  (repeat' first|rfl|apply And.intro)
 rw[if_pos n3] at e0
 rcases (Classical.em (cmS (⟨#[48]⟩:ByteArray).data.toList lb<0)).symm with n4 | n4
 ·have n4':¬cmS [48] lb<0:=n4
  rw[if_neg n4'] at e0
  generalize ckB lb ab bb fs ss=z at*
  subst e0
  (repeat' first|refine ZR ?_|refine Zg fun _=>?_)
  (conv=>whnf)
  (repeat' first|rfl|apply And.intro)
 have n4':cmS [48] lb<0:=n4
 rw[if_pos n4'] at e0
 by_cases n5:BesV lb ab
 ·rw[if_pos (.inl n5)] at e0
  generalize ckB lb ab bb fs ss=z at*
  subst e0
  (repeat' first|refine ZR ?_|refine Zg fun _=>?_)
  (conv=>whnf)
  (repeat' first|rfl|apply And.intro)
 by_cases n6:BesV lb bb
 ·rw[if_pos (.inr n6)] at e0
  generalize ckB lb ab bb fs ss=z at*
  subst e0
  (repeat' first|refine ZR ?_|refine Zg fun _=>?_)
  (conv=>whnf)
  (repeat' first|rfl|apply And.intro)
 rw[if_neg (by rintro (h | h);exact n5 h;exact n6 h)] at e0
 rcases (Classical.em (cmS ab bb<0)).symm with n7 | n7
 ·rw[if_neg n7] at e0
  generalize ckB lb ab bb fs ss=z at*
  subst e0
  (repeat' first|refine ZR ?_|refine Zg fun _=>?_)
  (conv=>whnf)
  (repeat' first|rfl|apply And.intro)
 rw[if_pos n7] at e0
 clear n4'
 generalize ckB lb ab bb fs ss=z at*
 (repeat' first|refine ZR ?_|refine Zg fun _=>?_)
 refine Ask.mk ⟨{ X:=Nat,pre:=fun i=>i≤fs.length∧frE lb fs=frE lb (fs.drop i),mod:=fun i _=>[(4,I i)],heap:=fun i H=>H,mu:=fun i=>fs.length-i },rfl,?_⟩
 (repeat refine ZG ?_)
 refine ⟨⟨(0:Nat),⟨Nat.zero_le _,rfl⟩,by (repeat' first|exact trivial|rfl|apply And.intro)⟩,fun (i:Nat) hi=>?_⟩
 obtain ⟨hi,hn⟩:i≤fs.length∧frE lb fs=frE lb (fs.drop i):=hi
 by_cases hlt:i<fs.length
 ·rw[Qc fs fr0 i hlt,frE] at hn
  by_cases h1:numE [(fs.getD i fr0).1,(fs.getD i fr0).2]=0
  ·rw[if_pos h1] at hn
   by_cases h2:BesV lb (fs.getD i fr0).1
   ·rw[if_pos h2] at hn
    rw[hn,if_neg (by decide)] at e0
    subst e0
    (repeat' first|refine ZR ?_|refine Zg fun _=>?_)
    (conv=>whnf)
    (repeat' first|rfl|apply And.intro)
   ·rw[if_neg h2] at hn
    (repeat' first|refine ZR ?_|refine Zg fun _=>?_)
    refine ⟨(i+1:Nat),by show fs.length-(i+1)<fs.length-i;omega,⟨hlt,hn⟩,by (repeat' first|exact trivial|rfl|apply And.intro)⟩
  ·rw[if_neg h1] at hn
   rw[hn,if_neg h1] at e0
   subst e0
   (repeat' first|refine ZR ?_|refine Zg fun _=>?_)
   (conv=>whnf)
   (repeat' first|rfl|apply And.intro)
 ·have e:i=fs.length:=by omega
  subst e
  rw[List.drop_length] at hn
  rw[hn,frE,if_pos rfl] at e0
  clear hn
  (repeat' first|refine ZR ?_|refine Zg fun _=>?_)
  refine Ask.mk ⟨{ X:=Nat,pre:=fun i=>i≤ss.length∧spE lb ss=spE lb (ss.drop i),mod:=fun i _=>[(7,I i)],heap:=fun i H=>H,mu:=fun i=>ss.length-i },rfl,?_⟩
  (repeat refine ZG ?_)
  refine ⟨⟨(0:Nat),⟨Nat.zero_le _,rfl⟩,by (repeat' first|exact trivial|rfl|apply And.intro)⟩,fun (i:Nat) hi=>?_⟩
  obtain ⟨hi,hn⟩:i≤ss.length∧spE lb ss=spE lb (ss.drop i):=hi
  by_cases hlt:i<ss.length
  ·rw[Qc ss sr0 i hlt,spE] at hn
   by_cases h1:numE [(ss.getD i sr0).1,(ss.getD i sr0).2.1,(ss.getD i sr0).2.2]=0
   ·rw[if_pos h1] at hn
    by_cases h2:BesV lb (ss.getD i sr0).1
    ·rw[if_pos (.inl h2)] at hn
     rw[hn] at e0
     subst e0
     (repeat' first|refine ZR ?_|refine Zg fun _=>?_)
     (conv=>whnf)
     (repeat' first|rfl|apply And.intro)
    ·by_cases h3:BesV lb (ss.getD i sr0).2.1
     ·rw[if_pos (.inr h3)] at hn
      rw[hn] at e0
      subst e0
      (repeat' first|refine ZR ?_|refine Zg fun _=>?_)
      (conv=>whnf)
      (repeat' first|rfl|apply And.intro)
     ·rw[if_neg (by rintro (h | h);exact h2 h;exact h3 h)] at hn
      by_cases h4:cmS (ss.getD i sr0).1 (ss.getD i sr0).2.1<0
      ·rw[if_pos h4] at hn
       (repeat' first|refine ZR ?_|refine Zg fun _=>?_)
       refine ⟨(i+1:Nat),by show ss.length-(i+1)<ss.length-i;omega,⟨hlt,hn⟩,by (repeat' first|exact trivial|rfl|apply And.intro)⟩
      ·rw[if_neg h4] at hn
       rw[hn] at e0
       subst e0
       (repeat' first|refine ZR ?_|refine Zg fun _=>?_)
       (conv=>whnf)
       (repeat' first|rfl|apply And.intro)
   ·rw[if_neg h1] at hn
    rw[hn] at e0
    subst e0
    (repeat' first|refine ZR ?_|refine Zg fun _=>?_)
    (conv=>whnf)
    (repeat' first|rfl|apply And.intro)
  ·have e:i=ss.length:=by omega
   subst e
   rw[List.drop_length] at hn
   rw[hn,spE] at e0
   clear hn
   subst e0
   (repeat' first|refine ZR ?_|refine Zg fun _=>?_)
   (conv=>whnf)
   (repeat' first|rfl|apply And.intro)
def hdG (lb ab bb:Str) (fs:List (Str × Str)) (ss:List (Str × Str × Str)):Prop:=
 24<lb.length∨24<ab.length∨24<bb.length∨70<fs.length∨70<ss.length∨(5<fs.length∧fs.length≤64)∨(4<ss.length∧ss.length≤64)
def frG:List (Str × Str)→Prop
 | []=>False
 | f::r=>(24<f.1.length∨24<f.2.length)∨frG r
def spG:List (Str × Str × Str)→Prop
 | []=>False
 | f::r=>(24<f.1.length∨24<f.2.1.length∨24<f.2.2.length)∨spG r
def GtV (lb ab bb:Str) (fs:List (Str × Str)) (ss:List (Str × Str × Str)):Prop:=hdG lb ab bb fs ss∨frG fs∨spG ss
def c4054:Con:=aI 54 true fun args K=>match args with | [.agg [.str lb,.str ab,.str bb,.seq (.pair .str .str) fs,.seq (.pair .str (.pair .str .str)) ss]]=>K (.bl (GtV lb ab bb fs ss) (Classical.propDecidable _)) | _=>False
theorem k4054:aD Tryz.prog c4054:=by
 refine kQ { asks:=[(0,[]),(2,[])] } Tryz.func54 Tryz.ntmps54 kn fun _ _ h=>?_
 split at h
 case h_2=>exact h.elim
 rename_i lb ab bb fs ss
 change List (Str × Str) at fs
 change List (Str × Str × Str) at ss
 refine kb h ?_
 have hq:GtV lb ab bb fs ss↔(hdG lb ab bb fs ss∨frG fs∨spG ss):=Iff.rfl
 by_cases hd:hdG lb ab bb fs ss
 ·have hM:=hq.2 (.inl hd)
  clear hq
  generalize GtV lb ab bb fs ss=M at*
  unfold hdG at hd
  (repeat'((conv=>whnf);first|refine Zg fun _=>?_|refine Zy ?_|refine Zr (fun _=>?_) fun _=>?_|fail))
  all_goals first | (exfalso;omega) | skip
  all_goals (skip;(conv=>whnf);first | exact hM | skip)
  all_goals exact hM
 rw[or_iff_right hd] at hq
 unfold hdG at hd
 generalize GtV lb ab bb fs ss=M at*
 have a1:¬24<lb.length:=by omega
 have a2:¬24<ab.length:=by omega
 have a3:¬24<bb.length:=by omega
 have a6:¬70<fs.length:=by omega
 have a7:¬70<ss.length:=by omega
 rcases (show ¬5<fs.length∨(5<fs.length∧¬fs.length≤64) by omega) with a4 | ⟨a4,a8⟩<;>rcases (show ¬4<ss.length∨(4<ss.length∧¬ss.length≤64) by omega) with a5 | ⟨a5,a9⟩<;>clear hd
 all_goals
  (repeat' first|refine ZR ?_|refine Zg fun _=>?_)
  refine Ask.mk ⟨{ X:=Nat,pre:=fun i=>i≤fs.length∧(frG fs↔frG (fs.drop i)),mod:=fun i _=>[(3,I i)],heap:=fun i H=>H,mu:=fun i=>fs.length-i },rfl,?_⟩
  (repeat refine ZG ?_)
  refine ⟨⟨(0:Nat),⟨Nat.zero_le _,Iff.rfl⟩,by (repeat' first|exact trivial|rfl|apply And.intro)⟩,fun (i:Nat) hi=>?_⟩
  obtain ⟨hi,hn⟩:i≤fs.length∧(frG fs↔frG (fs.drop i)):=hi
  by_cases hlt:i<fs.length
  ·rw[Qc fs ([],[]) i hlt,frG] at hn
   by_cases h1:24<(fs.getD i ([],[])).1.length
   ·have hM:=hq.2 (.inl (hn.2 (.inl (.inl h1))))
    (repeat' first|refine ZR ?_|refine Zg fun _=>?_)
    (conv=>whnf)
    exact hM
   ·by_cases h2:24<(fs.getD i ([],[])).2.length
    ·have hM:=hq.2 (.inl (hn.2 (.inl (.inr h2))))
     (repeat' first|refine ZR ?_|refine Zg fun _=>?_)
     (conv=>whnf)
     exact hM
    ·rw[or_iff_right (by omega)] at hn
     (repeat' first|refine ZR ?_|refine Zg fun _=>?_)
     refine ⟨(i+1:Nat),by show fs.length-(i+1)<fs.length-i;omega,⟨hlt,hn⟩,by (repeat' first|exact trivial|rfl|apply And.intro)⟩
  ·have e:i=fs.length:=by omega
   subst e
   rw[List.drop_length] at hn
   have hf:¬frG fs:=fun h=>hn.1 h
   rw[or_iff_right hf] at hq
   clear hn
   (repeat' first|refine ZR ?_|refine Zg fun _=>?_)
   refine Ask.mk ⟨{ X:=Nat,pre:=fun i=>i≤ss.length∧(spG ss↔spG (ss.drop i)),mod:=fun i _=>[(4,I i)],heap:=fun i H=>H,mu:=fun i=>ss.length-i },rfl,?_⟩
   (repeat refine ZG ?_)
   refine ⟨⟨(0:Nat),⟨Nat.zero_le _,Iff.rfl⟩,by (repeat' first|exact trivial|rfl|apply And.intro)⟩,fun (i:Nat) hi=>?_⟩
   obtain ⟨hi,hn⟩:i≤ss.length∧(spG ss↔spG (ss.drop i)):=hi
   by_cases hlt:i<ss.length
   ·rw[Qc ss ([],[],[]) i hlt,spG] at hn
    by_cases h1:24<(ss.getD i ([],[],[])).1.length
    ·have hM:=hq.2 (hn.2 (.inl (.inl h1)))
     (repeat' first|refine ZR ?_|refine Zg fun _=>?_)
     (conv=>whnf)
     exact hM
    ·by_cases h2:24<(ss.getD i ([],[],[])).2.1.length
     ·have hM:=hq.2 (hn.2 (.inl (.inr (.inl h2))))
      (repeat' first|refine ZR ?_|refine Zg fun _=>?_)
      (conv=>whnf)
      exact hM
     ·by_cases h3:24<(ss.getD i ([],[],[])).2.2.length
      ·have hM:=hq.2 (hn.2 (.inl (.inr (.inr h3))))
       (repeat' first|refine ZR ?_|refine Zg fun _=>?_)
       (conv=>whnf)
       exact hM
      ·rw[or_iff_right (by omega)] at hn
       (repeat' first|refine ZR ?_|refine Zg fun _=>?_)
       refine ⟨(i+1:Nat),by show ss.length-(i+1)<ss.length-i;omega,⟨hlt,hn⟩,by (repeat' first|exact trivial|rfl|apply And.intro)⟩
   ·have e:i=ss.length:=by omega
    subst e
    rw[List.drop_length] at hn
    have hM:¬M:=fun h=>hn.1 (hq.1 h)
    (repeat' first|refine ZR ?_|refine Zg fun _=>?_)
    (conv=>whnf)
    exact hM
end RB
end
section
set_option maxHeartbeats 4000000
namespace Go.DR
theorem Mr {α:Type}:∀(a:Ask α) (w:World),w.drawn≤(w.ask a).2.drawn
 | .done a,w=>Nat.le_refl _
 | .ask what range k,w=>by
  rw[World.ask]
  split
  ·exact Mr (k 0) w
  ·exact Nat.le_trans (Nat.le_succ _) (Mr _ { w with drawn:=w.drawn+1 })
theorem aDq (w:World) (c:Sys):w.drawn≤(w.sys c).2.drawn:=by
 have h:=Mr (Kernel.perform c w.os) w
 unfold World.sys
 split
 ·exact Nat.le_refl _
 ·rename_i h1
  rw[h1] at h
  exact h
theorem Fw {p:Program} {w:World} {a:Addr} {u:TypeId} {k:Addr} {v:Value} {b:Bool} {r:World × List Addr} (h:w.viewStore p a u k v b= .ok r):r.1.drawn=w.drawn:=by
 unfold World.viewStore at h
 simp only[bind,Except.bind,pure,Except.pure,throw,throwThe,MonadExceptOf.throw] at h
 repeat' first
  | (cases h;done)
  | (cases h;rfl)
  | split at h
theorem Jw {p:Program} {w:World} {a:Addr} {v:Value} {b:Bool} {r:World × List Addr} (h:w.farStore p a v b= .ok r):r.1.drawn=w.drawn:=by
 unfold World.farStore at h
 split at h
 ·split at h
  ·rename_i h1;cases h;exact Fw h1
  ·cases h
 ·cases h
def rdr {α:Type}:Result α→Nat
 | .ok _ w=>w.drawn
 | .halt _ w=>w.drawn
theorem Sg (w:World) (a:Addr) (n:Nat):(w.freeze a n).drawn=w.drawn:=by
 unfold World.freeze;split<;>rfl
theorem Wi {α:Type} (p:Program) (s:Sem α):∀w:World,w.drawn≤rdr (s.run p w):=by
 induction s with
 | pure a=>intro w;exact Nat.le_refl _
 | load m a k ih=>
  intro w;rw[Sem.run];split
  ·exact ih _ _
  ·split
   ·exact ih _ _
   ·exact Nat.le_refl _
 | store m a v k ih=>
  intro w
  cases v
  all_goals
   simp only[Sem.run]
   first
    | (exact Nat.le_refl _;done)
    | (split
       ·split
        ·exact Nat.le_refl _
        ·exact ih (w.setCell a _)
       ·split
        ·rename_i h1
         have h2:=Jw h1
         exact Nat.le_trans (Nat.le_of_eq h2.symm) (ih _)
        ·exact Nat.le_refl _)
 | new o k ih=>intro w;exact ih _ { w with heap:=w.heap.push o }
 | shape r k ih=>intro w;exact ih _ w
 | freeze a n k ih=>intro w;have:=ih (w.freeze a n);rw[Sg] at this;exact this
 | frozen a k ih=>intro w;exact ih _ w
 | getObj r k ih=>intro w;rw[Sem.run];split<;>first | exact ih _ _ | exact Nat.le_refl _
 | setObj r o k ih=>intro w;rw[Sem.run];split<;>first | exact ih { w with heap:=w.heap.setIfInBounds r o } | exact Nat.le_refl _
 | choose q k ih=>
  intro w;rw[Sem.run];split
  ·exact ih _ w
  ·exact Nat.le_trans (Nat.le_succ _) (ih _ { w with drawn:=w.drawn+1 })
 | sys c k ih=>intro w;exact Nat.le_trans (aDq w c) (ih _ _)
 | program k ih=>intro w;exact ih _ w
 | mark m k ih=>intro w;exact ih w
 | halt h=>intro w;exact Nat.le_refl _
def gdr (n:Nat):GStep→Prop
 | .ended .. =>True
 | .go _ w _=>n≤w.drawn
 | .comm _ _ _ _ w _=>n≤w.drawn
 | .spawn _ _ w _=>n≤w.drawn
 | .count _ w _=>n≤w.drawn
 | .timer _ _ w _=>n≤w.drawn
 | .alone _ _ w _=>n≤w.drawn
 | .newcoro _ _ _ w _=>n≤w.drawn
 | .coroswitch _ _ _ w _=>n≤w.drawn
 | .collect _ w _=>n≤w.drawn
 | .watch _ w _=>n≤w.drawn
theorem kD {n:Nat} {es:Array Event} {g:GStep} (h:gdr n g):gdr n (g.after es):=by cases g<;>exact h
theorem cO {α:Type} {p:Program} {s:Sem α} {w w':World} {a:α} (h:s.run p w= .ok a w'):w.drawn≤w'.drawn:=by
 have:=Wi p s w;rw[h] at this;exact this
theorem rI {α:Type} {p:Program} {s:Sem α} {w w':World} {a:Halt} (h:s.run p w= .halt a w'):w.drawn≤w'.drawn:=by
 have:=Wi p s w;rw[h] at this;exact this
theorem nQ {α:Type} {p:Program} {s:Sem α} {w w':World} {a:α} {es:Array Event} (h:(s.runT p w es).1= .ok a w'):w.drawn≤w'.drawn:=cO ((Sem.runT_fst p s w es).symm.trans h)
theorem kL {α:Type} {p:Program} {s:Sem α} {w w':World} {a:Halt} {es:Array Event} (h:(s.runT p w es).1= .halt a w'):w.drawn≤w'.drawn:=rI ((Sem.runT_fst p s w es).symm.trans h)
theorem rP_ok {α:Type} {p:Program} {s:Sem α} {w w':World} {a:α} {es es':Array Event} (h:s.runT p w es=(.ok a w',es')):w.drawn≤w'.drawn:=nQ (by rw[h])
theorem rP_ha {α:Type} {p:Program} {s:Sem α} {w w':World} {a:Halt} {es es':Array Event} (h:s.runT p w es=(.halt a w',es')):w.drawn≤w'.drawn:=kL (by rw[h])
theorem nB {n:Nat} {w:World} {fd:Nat} {text:ByteArray} {o:Outcome} (h:n≤w.drawn):gdr n (endWith w fd text o):=by
 unfold endWith
 simp only[]
 repeat' first
  | exact trivial
  | split
theorem Jx {n:Nat} {fr:Frame} {m:String} {w:World} (h:n≤w.drawn):gdr n (endThrow fr m w):=h
theorem cF {n:Nat} {p:Program} {fr:Frame} {v:Value} {w:World} (h:n≤w.drawn):gdr n (endPrinting p fr v w):=by
 unfold endPrinting
 simp only[]
 split
 ·exact h
 ·exact trivial
theorem iW {n:Nat} {p:Program} {fr:Frame} {c:List Frame} {d:Option Dying} {m:String} {w:World} (h:n≤w.drawn):gdr n (endFatal p fr c d m w):=by
 unfold endFatal
 simp only[]
 split
 ·rename_i h1
  exact Nat.le_trans h (cO h1)
 ·exact trivial
 ·exact trivial
theorem nC {n:Nat} {p:Program} {fr:Frame} {d:Dying} {f:Fatal} {w:World} (h:n≤w.drawn):gdr n (writeOn p fr d f w):=by
 unfold writeOn
 simp only[]
 split
 ·exact trivial
 ·split
  all_goals first
   | exact trivial
   | (rename_i h1
      first | exact Nat.le_trans h (rP_ok h1) | exact Nat.le_trans h (rP_ha h1))
theorem dG {n:Nat} {p:Program} {main:Bool} {fr:Frame} {c:List Frame} {d:Option Dying} {v:Value} {w:World} (h:n≤w.drawn):gdr n (doReturn p main fr c d v w):=by
 unfold doReturn
 simp only[]
 repeat' first
  | exact trivial
  | exact h
  | split
theorem aDr {n:Nat} {p:Program} {fr:Frame} {d:Dying} {w:World} (h:n≤w.drawn):gdr n (die p fr d w):=by
 unfold die
 simp only[]
 repeat' first
  | exact trivial
  | exact h
  | exact nC h
  | exact nB h
  | exact cF h
  | exact dG h
  | refine kD ?_
  | exact Nat.le_trans h (nQ (by assumption))
  | exact Nat.le_trans h (kL (by assumption))
  | exact Nat.le_trans h (cO (by assumption))
  | exact Nat.le_trans h (rI (by assumption))
  | exact cF (Nat.le_trans h (kL (by assumption)))
  | exact iW (Nat.le_trans h (kL (by assumption)))
  | exact dG (Nat.le_trans h (nQ (by assumption)))
  | split
theorem Ms {n:Nat} {c:Prop} [Decidable c] {a b:GStep} (h:gdr n a) (k:gdr n b):gdr n (if c then a else b):=by split<;>assumption
theorem wD {n:Nat} {p:Program} {fr:Frame} {c:List Frame} {d:Option Dying} {df:Deferred} {w:World} (h:n≤w.drawn):gdr n (callDeferred p fr c d df w):=by
 unfold callDeferred
 simp only[]
 refine Ms trivial (kD ?_)
 repeat' first
  | exact trivial
  | exact h
  | exact nC h
  | exact nB h
  | exact cF h
  | exact dG h
  | refine kD ?_
  | exact Nat.le_trans h (nQ (by assumption))
  | exact Nat.le_trans h (kL (by assumption))
  | exact Nat.le_trans h (cO (by assumption))
  | exact Nat.le_trans h (rI (by assumption))
  | exact cF (Nat.le_trans h (kL (by assumption)))
  | exact iW (Nat.le_trans h (kL (by assumption)))
  | exact dG (Nat.le_trans h (nQ (by assumption)))
  | split
theorem Sh {n:Nat} {p:Program} {main:Bool} {fr:Frame} {c:List Frame} {d:Option Dying} {w:World} (h:n≤w.drawn):gdr n (unwind p main fr c d w):=by
 unfold unwind
 simp only[]
 repeat' first
  | exact trivial
  | exact h
  | exact nC h
  | exact nB h
  | exact cF h
  | exact dG h
  | refine kD ?_
  | exact Nat.le_trans h (nQ (by assumption))
  | exact Nat.le_trans h (kL (by assumption))
  | exact Nat.le_trans h (cO (by assumption))
  | exact Nat.le_trans h (rI (by assumption))
  | exact cF (Nat.le_trans h (kL (by assumption)))
  | exact iW (Nat.le_trans h (kL (by assumption)))
  | exact dG (Nat.le_trans h (nQ (by assumption)))
  | exact wD h
  | split
theorem Jy {n:Nat} {p:Program} {fr:Frame} {c:List Frame} {d:Option Dying} {g:Nat} {w:World} (h:n≤w.drawn):gdr n (early p fr c d g w):=by
 unfold early
 simp only[]
 repeat' first
  | exact trivial
  | exact h
  | exact nC h
  | exact nB h
  | exact cF h
  | exact dG h
  | refine kD ?_
  | exact Nat.le_trans h (nQ (by assumption))
  | exact Nat.le_trans h (kL (by assumption))
  | exact Nat.le_trans h (cO (by assumption))
  | exact Nat.le_trans h (rI (by assumption))
  | exact cF (Nat.le_trans h (kL (by assumption)))
  | exact iW (Nat.le_trans h (kL (by assumption)))
  | exact dG (Nat.le_trans h (nQ (by assumption)))
  | (refine Nat.le_trans h ?_;dsimp only;exact cO (by assumption))
  | split
theorem zN {n:Nat} {p:Program} {b:Bool} {fr:Frame} {c:List Frame} {d:Option Dying} {s:Sem Next} {w:World} (h:n≤w.drawn):gdr n (stepG.apply p b fr c d s w):=by
 unfold stepG.apply
 simp only[]
 have e:∀r:Result Next × Array Event,r=(if b=true then s.runT p w #[] else (s.run p w, #[]))→r.1=s.run p w:=by
  rintro _ rfl
  split
  ·exact Sem.runT_fst p s w #[]
  ·rfl
 generalize (if b=true then s.runT p w #[] else (s.run p w, #[]))=re at e ⊢
 have e1:=e re rfl
 clear e
 obtain ⟨r,es⟩:=re
 have e:r=s.run p w:=e1
 clear e1
 have hk:∀a w',r= .ok a w'→n≤w'.drawn:=fun a w' h1=>Nat.le_trans h (cO (e.symm.trans h1))
 have hh:∀a w',r= .halt a w'→n≤w'.drawn:=fun a w' h1=>Nat.le_trans h (rI (e.symm.trans h1))
 clear e
 refine kD ?_
 cases r with
 | ok a w1=>
  have h:=hk a w1 rfl
  clear hk hh
  cases a<;>simp only[]
  all_goals
   repeat' first
    | exact trivial
    | exact h
    | refine Ms ?_ ?_
    | split
 | halt a w1=>
  have h:=hh a w1 rfl
  clear hk hh
  cases a
  case unsupported=>rename_i u;cases u<;>first | exact Jy h | exact trivial
  all_goals
   simp only[]
   repeat' first
    | exact trivial
    | exact h
    | exact iW h
    | exact Jx h
    | exact Jy h
    | split
theorem aAq {n:Nat} {p:Program} {b:Bool} {fr:Frame} {c:List Frame} {d:Option Dying} {w:World} (h:n≤w.drawn):gdr n (stepG.oper p b fr c d w):=by
 unfold stepG.oper
 split
 ·exact trivial
 ·split<;>exact zN h
theorem aDs {α:Type} {n:Nat} {o:Option α} {a:GStep} {f:α→GStep} (h:gdr n a) (k:∀x,gdr n (f x)):gdr n (o.elim a f):=by
 cases o
 ·exact h
 ·exact k _
theorem aAr {n:Nat} {p:Program} {main b:Bool} {fr:Frame} {c:List Frame} {d:Option Dying} {w:World} (h:n≤w.drawn):gdr n (stepG.exec p main b fr c d w):=by
 unfold stepG.exec
 simp only[]
 repeat' first
  | exact trivial
  | exact h
  | exact zN h
  | exact aAq h
  | with_reducible refine kD ?_
  | with_reducible refine aDs ?_ (fun _=>?_)
  | exact Nat.le_trans h (nQ (by assumption))
  | exact Nat.le_trans h (kL (by assumption))
  | exact Nat.le_trans h (cO (by assumption))
  | exact dG (Nat.le_trans h (nQ (by assumption)))
  | exact zN (Nat.le_trans h (nQ (by assumption)))
  | with_reducible refine Ms ?_ ?_
  | split
theorem Wj {n:Nat} {p:Program} {main b:Bool} {g:Goroutine} {w:World} (h:n≤w.drawn):gdr n (stepG p main g w b):=by
 unfold stepG
 simp only[]
 split
 ·exact aDr h
 ·exact aAr h
 ·exact Sh h
theorem Fy {rest:Rest} {cs:Array CommCase} {w w':World} (h:waitingAt rest cs w=some w'):w'.drawn=w.drawn:=by
 unfold waitingAt at h
 repeat' first
  | (cases h;done)
  | (cases h;rfl)
  | split at h
theorem zR {n:Nat} {p:Program} {rest:Rest} {gs:Array Goroutine} {i:Nat} {g:Goroutine} {cs:Array CommCase} {b:Bool} {shape:CommShape} {w:World} {m':Machine}
  (hn:n≤w.drawn) (h:(communicate p rest gs i g cs b shape w).1= .next m'):n≤m'.world.drawn:=by
 unfold communicate at h
 simp only[] at h
 repeat' first
  | (simp at h;done)
  | (simp only[Stepped.next.injEq] at h;subst h;exact hn)
  | (simp only[Stepped.next.injEq] at h;subst h;rename_i h1;exact Nat.le_trans hn (Nat.le_of_eq (Fy h1).symm))
  | (simp only[Stepped.next.injEq] at h;subst h;dsimp only;exact Nat.le_trans hn (cO (by assumption)))
  | (simp only[Stepped.next.injEq] at h;subst h;dsimp only;exact Nat.le_trans hn (Nat.le_trans (cO (by assumption)) (cO (by assumption))))
  | (simp only[Stepped.next.injEq] at h;subst h;dsimp only;exact Nat.le_trans hn (Nat.le_trans (cO (by assumption)) (rI (by assumption))))
  | split at h
theorem wI {n:Nat} {p:Program} {gs:Array Goroutine} {rest:Rest} {w:World} {m':Machine} (hn:n≤w.drawn) (h:look p gs rest w= .next m'):n≤m'.world.drawn:=by
 unfold look at h
 simp only[] at h
 repeat' first
  | (simp at h;done)
  | (simp only[Stepped.next.injEq] at h;subst h;dsimp only;exact Nat.le_trans hn (cO (by assumption)))
  | split at h
theorem Wk (w:World) (c:Nat):(drain w c).2.drawn=w.drawn:=by
 unfold drain
 split<;>rfl
theorem Cr (m:Machine) (k:Nat) (t:Timer) (a b:Nat):(retime m k t a b).2.world.drawn=m.world.drawn:=by
 unfold retime
 simp only[]
 cases t.chan with
 | none=>rfl
 | some c=>exact Wk m.world c
theorem Si {m m1:Machine} {v:Addr} (h:timerOp.opened m v=some m1):m1.world.drawn=m.world.drawn:=by
 unfold timerOp.opened at h
 repeat' first
  | (cases h;done)
  | (cases h;rfl)
  | split at h
theorem Mt {m m':Machine} {op:TimerOp} {v:Value} (h:timerOp m op= .ok (v,m')):m'.world.drawn=m.world.drawn:=by
 unfold timerOp at h
 split at h
 ·repeat' first
   | (cases h;done)
   | (cases h;rfl)
   | split at h
 ·unfold timerOp.named at h
  split at h
  ·cases h;exact Cr _ _ _ _ _
  ·cases h
 ·split at h
  ·rename_i h1
   unfold timerOp.named at h
   split at h
   ·cases h;exact (Cr _ _ _ _ _).trans (Si h1)
   ·cases h
  ·cases h
 ·cases h;rfl
theorem Wl {p:Program} {m m':Machine} {i:Nat} {b:Bool} (h:(Go.runT p m i b).1= .next m'):m.world.drawn≤m'.world.drawn:=by
 simp only[Go.runT] at h
 revert h
 generalize m.gs.swapAt! _ _=gg
 have hs:gdr m.world.drawn (stepG p (i==0) gg.1 m.world b):=Wj (Nat.le_refl _)
 revert hs
 generalize stepG p _ gg.1 m.world b=s
 intro hs h
 cases s<;>simp only[] at h<;>simp only[gdr] at hs
 all_goals first
  | (simp at h;done)
  | exact zR hs h
  | exact wI hs h
  | (simp only[Stepped.next.injEq] at h;subst h;exact hs)
  | (repeat' first
    | (simp at h;done)
    | (simp only[Stepped.next.injEq] at h;subst h;exact hs)
    | (simp only[Stepped.next.injEq] at h;subst h;rename_i h1;exact Nat.le_trans hs (Nat.le_of_eq (Mt h1).symm))
    | (simp only[Stepped.next.injEq] at h;subst h;rename_i h1;simp only[endThrow,dieOf,GStep.go.injEq] at h1;rw[← h1.2.1];exact hs)
    | split at h)
theorem Wm {p:Program} {m m':Machine} {k:Nat} (h:serve p m k= .next m'):m.world.drawn≤m'.world.drawn:=by
 unfold serve at h
 simp only[] at h
 repeat' first
  | (simp at h;done)
  | (simp only[Stepped.next.injEq] at h;subst h;exact Nat.le_refl _)
  | split at h
theorem lV {p:Program} {m:Machine}:(∀m' i,askOn p m= .goroutine m' i→m.world.drawn≤m'.world.drawn)∧∀m' ops,askOn p m= .machine (.next m') ops→m.world.drawn≤m'.world.drawn:=by
 constructor
 all_goals
  intro m' i h
  unfold askOn at h
  simp only[] at h
  repeat' first
   | (simp at h;done)
   | (simp only[Move.goroutine.injEq] at h;obtain ⟨rfl,_⟩:=h;dsimp only[Machine.advanceTo]
      repeat first
       | exact cO (by assumption)
       | refine Nat.le_trans ?_ (cO (by assumption))
       | dsimp only[Machine.advanceTo]
      done)
   | (simp only[Move.machine.injEq] at h;exact Nat.le_trans (cO (by assumption)) (Wm h.1))
   | (simp only[Move.machine.injEq,Stepped.next.injEq] at h;obtain ⟨rfl,_⟩:=h;dsimp only[Machine.advanceTo]
      repeat first
       | exact cO (by assumption)
       | refine Nat.le_trans ?_ (cO (by assumption))
       | dsimp only[Machine.advanceTo]
      done)
   | split at h
theorem wJ {p:Program} {m:Machine}:(∀m' i,Go.ask p m= .goroutine m' i→m.world.drawn≤m'.world.drawn)∧∀m' ops,Go.ask p m= .machine (.next m') ops→m.world.drawn≤m'.world.drawn:=by
 constructor
 all_goals
  intro m' i h
  unfold Go.ask at h
  repeat' first
   | (simp at h;done)
   | exact lV.1 _ _ h
   | exact lV.2 _ _ h
   | exact Nat.le_trans (wI (cO (by assumption)) (by assumption)) (lV.1 _ _ h)
   | exact Nat.le_trans (wI (cO (by assumption)) (by assumption)) (lV.2 _ _ h)
   | exact Nat.le_trans (show m.world.drawn≤ _ from cO (by assumption)) (lV.1 _ _ h)
   | exact Nat.le_trans (show m.world.drawn≤ _ from cO (by assumption)) (lV.2 _ _ h)
   | (simp only[Move.machine.injEq] at h;exact wI (show m.world.drawn≤ _ from cO (by assumption)) h.1)
   | split at h
theorem Qa {p:Program} {m:Machine}:(∀m' i,Go.move p m= .goroutine m' i→m.world.drawn≤m'.world.drawn)∧∀m' ops,Go.move p m= .machine (.next m') ops→m.world.drawn≤m'.world.drawn:=by
 constructor
 all_goals
  intro m' i h
  unfold Go.move at h
  repeat' first
   | (simp at h;done)
   | exact wJ.1 _ _ h
   | exact wJ.2 _ _ h
   | (have h9:=wJ.1 _ _ h;exact h9)
   | (have h9:=wJ.2 _ _ h;exact h9)
   | (simp only[Move.goroutine.injEq] at h;obtain ⟨rfl,_⟩:=h;exact Nat.le_refl _)
   | split at h
theorem aAs {p:Program} {m m':Machine} (h:step p m= .next m'):m.world.drawn≤m'.world.drawn:=by
 unfold step stepT at h
 cases e:Go.move p m with
 | goroutine m1 i=>
  rw[e] at h
  exact Nat.le_trans (Qa.1 _ _ e) (Wl h)
 | machine s ops=>
  rw[e] at h
  have h:s= .next m':=h
  subst h
  exact Qa.2 _ _ e
theorem Qb {p:Program}:∀(n:Nat) {m m':Machine},runN p n m= .next m'→m.world.drawn≤m'.world.drawn
 | 0,m,m',h=>by
  simp only[runN,Stepped.next.injEq] at h;subst h;exact Nat.le_refl _
 | n+1,m,m',h=>by
  simp only[runN] at h
  cases e:step p m with
  | next m1=>rw[e] at h;exact Nat.le_trans (aAs e) (Qb n h)
  | ended o w=>rw[e] at h;cases h
theorem calls_dr {P:Program} {f:FuncId} {args:Array Value} {w:World} {R:Ending→World→Prop} (h:Calls P f args w R):
  Calls P f args w fun e w'=>R e w'∧∀v,e= .returned v→w.drawn≤w'.drawn:=by
 intro cs
 obtain ⟨e,w',fr,h1,h2,h3,h4⟩:=h cs
 refine ⟨e,w',fr,⟨h1,fun v hv=>?_⟩,h2,h3,h4⟩
 subst hv
 obtain ⟨n,hn⟩:=h2
 exact Qb n hn
end Go.DR
end
section
set_option maxRecDepth 100000
namespace Go.Proofs
open Go.Shelf
def RL.lF_ren:Go.Shelf.Ren:=⟨fun | 6=>18 | 15=>61 | 14=>60 | 28=>133 | 29=>134 | 20=>125 | 21=>126 | 22=>127 | 23=>128 | 24=>129 | 25=>130 | 26=>131 | 27=>132 | 46=>170 | 47=>171 | 48=>172 | 49=>173 | 50=>174 | 57=>206 | n=>n,fun | 22=>37 | 24=>42 | 25=>61 | 3=>3 | 39=>114 | 0=>0 | 53=>196 | 55=>198 | 4=>4 | 46=>189 | 45=>188 | 50=>193 | 5=>5 | 9=>9 | 66=>228 | 70=>232 | 76=>257 | 77=>245 | n=>n,fun | n=>n⟩
theorem RL.lF:Go.Proofs.SlLaysF.n6 Tryz.prog RL.lF_ren where
 mixed:=by kernel_rfl
 f6:=⟨Tryz.f18.name,by decide,Tryz.func18.trans (congrArg some (by kernel_rfl))⟩
 f14:=⟨Tryz.f60.name,by decide,Tryz.func60.trans (congrArg some (by kernel_rfl))⟩
 f15:=Tryz.func61.trans (congrArg some (by kernel_rfl))
 f20:=⟨Tryz.f125.name,by decide,Tryz.func125.trans (congrArg some (by kernel_rfl))⟩
 f21:=⟨Tryz.f126.name,by decide,Tryz.func126.trans (congrArg some (by kernel_rfl))⟩
 f22:=⟨Tryz.f127.name,by decide,Tryz.func127.trans (congrArg some (by kernel_rfl))⟩
 f23:=⟨Tryz.f128.name,by decide,Tryz.func128.trans (congrArg some (by kernel_rfl))⟩
 f24:=⟨Tryz.f129.name,by decide,Tryz.func129.trans (congrArg some (by kernel_rfl))⟩
 f25:=⟨Tryz.f130.name,by decide,Tryz.func130.trans (congrArg some (by kernel_rfl))⟩
 f26:=⟨Tryz.f131.name,by decide,Tryz.func131.trans (congrArg some (by kernel_rfl))⟩
 f27:=⟨Tryz.f132.name,by decide,Tryz.func132.trans (congrArg some (by kernel_rfl))⟩
 f28:=Tryz.func133.trans (congrArg some (by kernel_rfl))
 f29:=Tryz.func134.trans (congrArg some (by kernel_rfl))
 f46:=⟨Tryz.f170.name,by decide,Tryz.func170.trans (congrArg some (by kernel_rfl))⟩
 f47:=Tryz.func171.trans (congrArg some (by kernel_rfl))
 f48:=Tryz.func172.trans (congrArg some (by kernel_rfl))
 f49:=⟨Tryz.f173.name,by decide,Tryz.func173.trans (congrArg some (by kernel_rfl))⟩
 f50:=⟨Tryz.f174.name,by decide,Tryz.func174.trans (congrArg some (by kernel_rfl))⟩
 f57:=⟨Tryz.f206.name,by decide,Tryz.func206.trans (congrArg some (by kernel_rfl))⟩
 t0:=Tryz.underlying0
 a0:=Tryz.isAgg0
 z0:=Tryz.sizeOf0
 v0:=Tryz.zeroValue0
 t3:=Tryz.underlying3
 a3:=Tryz.isAgg3
 z3:=Tryz.sizeOf3
 v3:=Tryz.zeroValue3
 t4:=Tryz.underlying4
 a4:=Tryz.isAgg4
 z4:=Tryz.sizeOf4
 v4:=Tryz.zeroValue4
 t5:=Tryz.underlying5
 a5:=Tryz.isAgg5
 z5:=Tryz.sizeOf5
 v5:=Tryz.zeroValue5
 t9:=Tryz.underlying9
 a9:=Tryz.isAgg9
 z9:=Tryz.sizeOf9
 v9:=Tryz.zeroValue9
 t22:=Tryz.underlying37
 a22:=Tryz.isAgg37
 z22:=Tryz.sizeOf37
 v22:=Tryz.zeroValue37
 a24:=Tryz.isAgg42
 z24:=Tryz.sizeOf42
 t25:=Tryz.underlying61
 a25:=Tryz.isAgg61
 z25:=Tryz.sizeOf61
 v25:=Tryz.zeroValue61
 t39:=Tryz.underlying114
 a39:=Tryz.isAgg114
 z39:=Tryz.sizeOf114
 v39:=Tryz.zeroValue114
 t45:=Tryz.underlying188
 a45:=Tryz.isAgg188
 z45:=Tryz.sizeOf188
 v45:=Tryz.zeroValue188
 t46:=Tryz.underlying189
 a46:=Tryz.isAgg189
 z46:=Tryz.sizeOf189
 v46:=Tryz.zeroValue189
 t50:=Tryz.underlying193
 a50:=Tryz.isAgg193
 z50:=Tryz.sizeOf193
 v50:=Tryz.zeroValue193
 t53:=Tryz.underlying196
 a53:=Tryz.isAgg196
 z53:=Tryz.sizeOf196
 v53:=Tryz.zeroValue196
 t55:=Tryz.underlying198
 a55:=Tryz.isAgg198
 z55:=Tryz.sizeOf198
 v55:=Tryz.zeroValue198
 t66:=Tryz.underlying228
 a66:=Tryz.isAgg228
 z66:=Tryz.sizeOf228
 v66:=Tryz.zeroValue228
 t70:=Tryz.underlying232
 a70:=Tryz.isAgg232
 z70:=Tryz.sizeOf232
 v70:=Tryz.zeroValue232
 t76:=Tryz.underlying257
 a76:=Tryz.isAgg257
 z76:=Tryz.sizeOf257
 v76:=Tryz.zeroValue257
 t77:=Tryz.underlying245
 a77:=Tryz.isAgg245
 z77:=Tryz.sizeOf245
 v77:=Tryz.zeroValue245
end Go.Proofs
end
section
open Go Go.Proofs Go.Eng Go.Shelf IB Go.Lib Go.RowKit
namespace RB
abbrev FR:=Rat × Rat
abbrev SR:=Rat × Rat × Rat
def mF (x:Rat) (f:FR):Rat:=if f.1≤x then f.2*(x-f.1) else 0
def vF (x:Rat) (f:FR):Rat:=if f.1≤x then f.2 else 0
def cutR (x:Rat) (s:SR):Rat:=if x<s.2.1 then x else s.2.1
def wS (x:Rat) (s:SR):Rat:=s.2.2*(cutR x s-s.1)
def mS (x:Rat) (s:SR):Rat:=if s.1<cutR x s then wS x s*(x-(s.1+cutR x s)/2) else 0
def vS' (x:Rat) (s:SR):Rat:=if s.1<cutR x s then wS x s else 0
def Out (a c p:Rat):Prop:=p≤a∨c≤p
theorem Fs {a c:Rat} (h:a<c):a<(a+c)/2∧(a+c)/2<c:=by
 rw[Rat.div_def]
 have:=Rat.mul_inv_cancel (2:Rat) (by decide)
 generalize (2:Rat)⁻¹ =v at*
 have e:v=1/2:=by grind
 subst e
 constructor<;>grind
theorem Vu {a c:Rat} (h:a<c) {f:FR} (ho:Out a c f.1):mF c f-mF a f=vF ((a+c)/2) f*(c-a):=by
 obtain ⟨h1,h2⟩:=Fs h
 obtain ⟨p,w⟩:=f
 unfold mF vF
 dsimp only at ho ⊢
 generalize (a+c)/2=y at*
 rcases ho with ho | ho
 ·rw[if_pos (show p≤c by grind),if_pos ho,if_pos (show p≤y by grind)]
  grind
 ·rw[if_neg (show ¬p≤a by grind),if_neg (show ¬p≤y by grind)]
  by_cases e:p≤c
  ·rw[if_pos e]
   have:p=c:=by grind
   subst this
   grind
  ·rw[if_neg e];grind
theorem Pu (x:Rat):x/2+x/2=x:=by
 rw[Rat.div_def]
 have:=Rat.mul_inv_cancel (2:Rat) (by decide)
 generalize (2:Rat)⁻¹ =v at*
 grind
theorem stepS {a c:Rat} (h:a<c) {s:SR} (hs:s.1<s.2.1) (h1:Out a c s.1) (h2:Out a c s.2.1):mS c s-mS a s=vS' ((a+c)/2) s*(c-a):=by
 obtain ⟨h3,h4⟩:=Fs h
 have h5:=Pu (a+c)
 obtain ⟨f,t,z⟩:=s
 unfold mS vS' wS cutR
 dsimp only at hs h1 h2 ⊢
 generalize (a+c)/2=y at*
 rcases h1 with h1 | h1
 ·rcases h2 with h2 | h2
  ·rw[if_neg (show ¬c<t by grind),if_neg (show ¬a<t by grind),if_neg (show ¬y<t by grind),if_pos hs]
   simp only[if_pos hs]
   generalize (f+t)/2=m
   grind
  ·rw[if_pos (show y<t by grind)]
   have e1:(if c<t then c else t)=c:=by
    split
    ·rfl
    ·grind
   have h6:=Pu (f+c)
   have h7:=Pu (f+a)
   rw[e1,if_pos (show a<t by grind),if_pos (show f<c by grind),if_pos (show f<y by grind)]
   generalize (f+c)/2=m at*
   generalize (f+a)/2=n at*
   by_cases e:f<a
   ·rw[if_pos e];grind
   ·rw[if_neg e]
    have:f=a:=by grind
    subst this
    grind
 ·have e1:¬f<(if c<t then c else t):=by
   split<;>grind
  have e2:¬f<(if a<t then a else t):=by
   split<;>grind
  have e3:¬f<(if y<t then y else t):=by
   split<;>grind
  rw[if_neg e1,if_neg e2,if_neg e3]
  grind
def sumG {α:Type} (g:α→Rat):List α→Rat
 | []=>0
 | a::r=>g a+sumG g r
theorem uG {α:Type} {g k v:α→Rat} {d:Rat}:∀(l:List α),(∀a∈l,g a-k a=v a*d)→sumG g l-sumG k l=sumG v l*d
 | [],_=>by simp only[sumG];grind
 | a::r,h=>by
  have h1:=h a (.head _)
  have h2:=uG r fun x hx=>h x (.tail _ hx)
  simp only[sumG]
  grind
theorem lU {α:Type} (g:α→Rat):∀(l:List α) (a:α),sumG g (l++ [a])=sumG g l+g a
 | [],a=>by simp only[List.nil_append,sumG];grind
 | b::r,a=>by
  have:=lU g r a
  simp only[List.cons_append,sumG]
  grind
def momR (u v:FR) (fs:List FR) (ss:List SR) (x:Rat):Rat:=mF x u+mF x v-sumG (mF x) fs-sumG (mS x) ss
def sheR (u v:FR) (fs:List FR) (ss:List SR) (x:Rat):Rat:=vF x u+vF x v-sumG (vF x) fs-sumG (vS' x) ss
theorem Vv {u v:FR} {fs:List FR} {ss:List SR} {a c:Rat} (h:a<c) (hu:Out a c u.1) (hv:Out a c v.1) (hf:∀f∈fs,Out a c f.1) (hs:∀s∈ss,s.1<s.2.1∧Out a c s.1∧Out a c s.2.1):momR u v fs ss c-momR u v fs ss a=sheR u v fs ss ((a+c)/2)*(c-a):=by
 have e1:=Vu h hu
 have e2:=Vu h hv
 have e3:=uG fs (g:=mF c) (k:=mF a) (v:=vF ((a+c)/2)) (d:=c-a) fun f hf'=>Vu h (hf f hf')
 have e4:=uG ss (g:=mS c) (k:=mS a) (v:=vS' ((a+c)/2)) (d:=c-a) fun s hs'=>stepS h (hs s hs').1 (hs s hs').2.1 (hs s hs').2.2
 unfold momR sheR
 grind
def zF (g:Rat→Rat→Rat) (fr tg':Rat):List Rat→Rat
 | a::c::r=>(if fr≤a∧c≤tg' then g a c else 0)+zF g fr tg' (c::r)
 | _=>0
def gJ (fr tg' x:Rat):Rat:=if x<fr then fr else if tg'<x then tg' else x
theorem zG (F:Rat→Rat) (g:Rat→Rat→Rat) (fr tg':Rat) (hft:fr≤tg'):∀(l:List Rat) (a:Rat),Asc (a::l)→(∀x∈a::l,∀y∈a::l,x<y→fr≤x→y≤tg'→(∀z∈a::l,z≤x∨y≤z)→g x y=F y-F x)→(fr≤a∨fr∈l)→(tg'≤a∨tg'∈l)→zF g fr tg' (a::l)=F (gJ fr tg' ((a::l).getLast (by simp)))-F (gJ fr tg' a)
 | [],a,_,_,_,_=>by
  simp only[zF,List.getLast_singleton]
  grind
 | c::l,a,hA,hg,h1,h2=>by
  have hA':=hA
  rw[Asc,List.pairwise_cons] at hA
  obtain ⟨ha,hA⟩:=hA
  have hac:a<c:=ha c (.head _)
  have hA2:=hA
  rw[List.pairwise_cons] at hA2
  have hc:=hA2.1
  have ih:=zG F g fr tg' hft l c hA (fun x hx y hy hxy hfx hyt hz=>hg x (.tail _ hx) y (.tail _ hy) hxy hfx hyt fun z hzz=>by
   rcases List.mem_cons.1 hzz with e | hzz
   ·subst e
    rcases List.mem_cons.1 hx with e | hx
    ·subst e;exact .inl (Rat.le_of_lt hac)
    ·exact .inl (Rat.le_trans (Rat.le_of_lt hac) (Rat.le_of_lt (hc x hx)))
   ·exact hz z hzz) (by
    rcases h1 with h1 | h1
    ·exact .inl (Rat.le_trans h1 (Rat.le_of_lt hac))
    ·rcases List.mem_cons.1 h1 with e | h1
     ·exact .inl (by rw[e];exact Rat.le_refl)
     ·exact .inr h1) (by
    rcases h2 with h2 | h2
    ·exact .inl (Rat.le_trans h2 (Rat.le_of_lt hac))
    ·rcases List.mem_cons.1 h2 with e | h2
     ·exact .inl (by rw[e];exact Rat.le_refl)
     ·exact .inr h2)
  have eL:(a::c::l).getLast (by simp)=(c::l).getLast (by simp):=rfl
  rw[zF,ih,eL]
  have key:(if fr≤a∧c≤tg' then g a c else 0)=F (gJ fr tg' c)-F (gJ fr tg' a):=by
   by_cases h:fr≤a∧c≤tg'
   ·rw[if_pos h,hg a (.head _) c (.tail _ (.head _)) hac h.1 h.2 fun z hz=>by
     rcases List.mem_cons.1 hz with e | hz
     ·subst e;exact .inl Rat.le_refl
     ·rcases List.mem_cons.1 hz with e | hz
      ·subst e;exact .inr Rat.le_refl
      ·exact .inr (Rat.le_of_lt (hc z hz))]
    unfold gJ
    rw[if_neg (by grind),if_neg (by grind),if_neg (by grind),if_neg (by grind)]
   ·rw[if_neg h]
    have:gJ fr tg' c=gJ fr tg' a:=by
     rcases h1 with h1 | h1
     ·have hct:¬c≤tg':=fun q=>h ⟨h1,q⟩
      rcases h2 with h2 | h2
      ·unfold gJ;grind
      ·rcases List.mem_cons.1 h2 with e | h2
       ·exact absurd (by rw[e];exact Rat.le_refl) hct
       ·exact absurd (Rat.le_of_lt (hc _ h2)) hct
     ·rcases List.mem_cons.1 h1 with e | h1
      ·subst e;unfold gJ;grind
      ·have:=hc _ h1
       unfold gJ;grind
    rw[this];grind
  rw[key]
  grind
theorem Vw (F:Rat→Rat) (g:Rat→Rat→Rat) {fr tg':Rat} (hft:fr≤tg') {l:List Rat} (hA:Asc l) (hf:fr∈l) (ht:tg'∈l) (hg:∀x∈l,∀y∈l,x<y→fr≤x→y≤tg'→(∀z∈l,z≤x∨y≤z)→g x y=F y-F x):zF g fr tg' l=F tg'-F fr:=by
 cases l with
 | nil=>exact absurd hf (by simp)
 | cons a l=>
  have hA2:=hA
  rw[Asc,List.pairwise_cons] at hA2
  have ha:=hA2.1
  have hfa:∀x∈a::l,a≤x:=fun x hx=>by
   rcases List.mem_cons.1 hx with e | hx
   ·rw[e];exact Rat.le_refl
   ·exact Rat.le_of_lt (ha x hx)
  have hla:∀(m:List Rat) (h:m≠ []),Asc m→∀x∈m,x≤m.getLast h:=by
   intro m
   induction m with
   | nil=>intro h;exact absurd rfl h
   | cons b m ih=>
    intro h hm x hx
    cases m with
    | nil=>
     rw[List.mem_singleton] at hx
     subst hx
     simp only[List.getLast_singleton]
     exact Rat.le_refl
    | cons d m=>
     rw[List.getLast_cons (by simp)]
     rw[Asc,List.pairwise_cons] at hm
     rcases List.mem_cons.1 hx with e | hx
     ·subst e
      exact Rat.le_trans (Rat.le_of_lt (hm.1 d (.head _))) (ih (by simp) hm.2 d (.head _))
     ·exact ih (by simp) hm.2 x hx
  rw[zG F g fr tg' hft l a hA hg (by
   rcases List.mem_cons.1 hf with e | hf
   ·exact .inl (by rw[e];exact Rat.le_refl)
   ·exact .inr hf) (by
   rcases List.mem_cons.1 ht with e | ht
   ·exact .inl (by rw[e];exact Rat.le_refl)
   ·exact .inr ht)]
  have h1:=hfa fr hf
  have h2:=hla (a::l) (by simp) hA tg' ht
  generalize (a::l).getLast (by simp)=z at*
  have e1:gJ fr tg' z=tg':=by unfold gJ;grind
  have e2:gJ fr tg' a=fr:=by unfold gJ;grind
  rw[e1,e2]
abbrev Sid:=Int × Int × Int × Int × Bool × Int × Int
abbrev sd0:Sid:=(0,0,0,0,false,0,0)
def ranQ (x y a b:Int) (p:Prop) (u v:Int):Prop:=((p→a=0∧b=0)∧(¬p→(1≤a∧a≤48)∧1≤b∧b≤48))∧(0≤x∧x≤65536)∧(0≤y∧y≤65536)∧(0≤u∧u≤65536)∧0≤v∧v≤65536
instance (x y a b:Int) (p:Prop) [Decidable p] (u v:Int):Decidable (ranQ x y a b p u v):=by unfold ranQ;exact inferInstance
def ranP (s:Sid):Prop:=ranQ s.1 s.2.1 s.2.2.1 s.2.2.2.1 (s.2.2.2.2.1=true) s.2.2.2.2.2.1 s.2.2.2.2.2.2
instance (s:Sid):Decidable (ranP s):=by unfold ranP;exact inferInstance
theorem ixA {n:Int} {C:Nat→Prop} (j:Nat) (e:n=j) (h:C j):Ix n C:=⟨fun i h'=>by
 have:j=i:=by omega
 subst this;exact h⟩
def bfI (n i:Nat):Nat:=if i=0 then n-1 else i-1
def nxI (n i:Nat):Nat:=if i+1=n then 0 else i+1
def bfS (r:List Sid) (i:Nat):Sid:=r.getD (bfI r.length i) sd0
def owS (r:List Sid) (i:Nat):Sid:=r.getD i sd0
def nxS (r:List Sid) (i:Nat):Sid:=r.getD (nxI r.length i) sd0
def shp1 (r:List Sid) (i:Nat):Prop:=(((nxS r i).1-(owS r i).1=0)↔¬((nxS r i).2.1-(owS r i).2.1=0))∧(((owS r i).1-(bfS r i).1=0)↔¬((nxS r i).1-(owS r i).1=0))
instance (r:List Sid) (i:Nat):Decidable (shp1 r i):=by unfold shp1;exact inferInstance
def shpP (r:List Sid):Prop:=4≤r.length∧∀i,i<r.length→shp1 r i
instance (r:List Sid):Decidable (shpP r):=by unfold shpP;exact inferInstance
abbrev Bx:=(Int × Int) × (Int × Int)
abbrev bx0:Bx:=((0,0),(0,0))
def bxS (p q:Sid):Bx:=((min p.1 q.1,min p.2.1 q.2.1),(max p.1 q.1,max p.2.1 q.2.1))
def metB (a b:Bx):Prop:=a.1.1≤b.2.1∧b.1.1≤a.2.1∧a.1.2≤b.2.2∧b.1.2≤a.2.2
instance (a b:Bx):Decidable (metB a b):=by unfold metB;exact inferInstance
def bxN (r:List Sid) (i:Nat):List Bx:=(List.range i).map fun k=>bxS (owS r k) (nxS r k)
def plN (m:Nat) (i:Nat):List (Int × Int):=(List.range i).map fun (k:Nat)=>((m:Int),(k:Int))
def bxA (R:List (List Sid)):Nat→List Bx
 | 0=>[]
 | m+1=>bxA R m++bxN (R.getD m []) (R.getD m []).length
def plA (R:List (List Sid)):Nat→List (Int × Int)
 | 0=>[]
 | m+1=>plA R m++plN m (R.getD m []).length
def cnt (R:List (List Sid)):Nat→Nat
 | 0=>0
 | m+1=>cnt R m+(R.getD m []).length
def nbP (n:Int) (p q:Int × Int):Prop:=p.1=q.1∧(p.2-q.2=1∨p.2-q.2=n-1)
instance (n:Int) (p q:Int × Int):Decidable (nbP n p q):=by unfold nbP;exact inferInstance
def cr1 (R:List (List Sid)) (i k:Nat):Prop:=¬nbP ((R.getD ((plA R R.length).getD i (0,0)).1.toNat []).length:Int) ((plA R R.length).getD i (0,0)) ((plA R R.length).getD k (0,0))∧metB ((bxA R R.length).getD i bx0) ((bxA R R.length).getD k bx0)
instance (R:List (List Sid)) (i k:Nat):Decidable (cr1 R i k):=by unfold cr1;exact inferInstance
def crP (R:List (List Sid)):Prop:=¬ ∀i,i<cnt R R.length→∀k,k<i→¬cr1 R i k
instance (R:List (List Sid)):Decidable (crP R):=by unfold crP;exact inferInstance
def crS (p q:Sid):Int:=p.1*q.2.1-p.2.1*q.1
def arN (r:List Sid):Nat→Int
 | 0=>0
 | i+1=>arN r i+crS (owS r i) (nxS r i)
def ups (r:List Sid) (x y:Int) (i:Nat):Prop:=(nxS r i).1-(owS r i).1=0∧x<(owS r i).1∧¬((y<(owS r i).2.1)↔(y<(nxS r i).2.1))
instance (r:List Sid) (x y:Int) (i:Nat):Decidable (ups r x y i):=by unfold ups;exact inferInstance
def insN (r:List Sid) (x y:Int):Nat→Bool
 | 0=>false
 | i+1=>if ups r x y i then !(insN r x y i) else insN r x y i
def pl1 (R:List (List Sid)) (i:Nat):Prop:=((0<arN (R.getD i []) (R.getD i []).length)↔i=0)∧(i=0∨∀k,k<R.length→k=i∨((insN (R.getD k []) ((R.getD i []).getD 0 sd0).1 ((R.getD i []).getD 0 sd0).2.1 (R.getD k []).length=true)↔k=0))
instance (R:List (List Sid)) (i:Nat):Decidable (pl1 R i):=by unfold pl1;exact inferInstance
def plcP (R:List (List Sid)):Prop:=∀i,i<R.length→pl1 R i
instance (R:List (List Sid)):Decidable (plcP R):=by unfold plcP;exact inferInstance
def lefP (r:List Sid) (i:Nat):Prop:=0<((owS r i).1-(bfS r i).1)*((nxS r i).2.1-(owS r i).2.1)-((owS r i).2.1-(bfS r i).2.1)*((nxS r i).1-(owS r i).1)
instance (r:List Sid) (i:Nat):Decidable (lefP r i):=by unfold lefP;exact inferInstance
def jo1 (r:List Sid) (i:Nat):Prop:=¬lefP r i∧((owS r i).2.2.2.2.1=true∨(bfS r i).2.2.2.2.1=true∨¬(owS r i).2.2.2.2.2.1=(bfS r i).2.2.2.2.2.1)
instance (r:List Sid) (i:Nat):Decidable (jo1 r i):=by unfold jo1;exact inferInstance
def joB (R:List (List Sid)):Prop:=∀m,m<R.length→∀i,i<(R.getD m []).length→¬jo1 (R.getD m []) i
instance (R:List (List Sid)):Decidable (joB R):=by unfold joB;exact inferInstance
def joS (R:List (List Sid)):Prop:=¬ ∀m,m<R.length→∀i,i<(R.getD m []).length→(owS (R.getD m []) i).2.2.2.2.1=true
instance (R:List (List Sid)):Decidable (joS R):=by unfold joS;exact inferInstance
theorem Vr {n d:Int} {k:Nat} (hd:0<d) (h1:n.natAbs<10^k) (h2:d.natAbs<10^k):Sz k (Rat.divInt n d):=by
 rw[eH n d hd]
 exact Dk (by omega) h1 (by omega)
theorem aDa {n d:Int} (hd:0<d):ofQ n d=(numS (Rat.divInt n d),0):=by unfold ofQ;rw[if_neg (by omega)]
def mdR (l h:Int) (p k:Nat):Rat:=Rat.divInt (2*(p:Int)*l+(2*(k:Int)+1)*(h-l)) (2*(p:Int))
def wayR (l h:Int) (p:Nat):Rat:=Rat.divInt (h-l) (2*(p:Int))
theorem Mq {l h:Int} {p:Nat} (k:Nat) (hp:0<p):mdR l h p k=(l:Rat)+(2*(k:Rat)+1)*wayR l h p:=by
 have hq:((2*(p:Int):Int):Rat)≠0:=by
  intro e
  have:=Rat.intCast_eq_zero_iff.1 e
  omega
 have hi:=Rat.mul_inv_cancel _ hq
 unfold mdR wayR
 rw[Rat.divInt_eq_div,Rat.divInt_eq_div,Rat.div_def,Rat.div_def]
 rw[show ((2*(p:Int)*l+(2*(k:Int)+1)*(h-l):Int):Rat)=((2*(p:Int):Int):Rat)*(l:Rat)+(2*(k:Rat)+1)*((h-l:Int):Rat) by
  rw[Rat.intCast_add,Rat.intCast_mul,Rat.intCast_mul (2*(k:Int)+1),Rat.intCast_add,Rat.intCast_mul 2 (k:Int)];rfl]
 generalize ((2*(p:Int):Int):Rat)=d at*
 generalize ((h-l:Int):Rat)=e
 generalize d⁻¹ =v at*
 grind
noncomputable def outL (l h:Int) (p:Nat):List (List UInt8):=(List.range p).map fun k=>numS (mdR l h p k)
def mids (l h:Int) (p:Nat):List Rat:=(List.range p).map fun k=>mdR l h p k
theorem Sf (l h:Int) (p:Nat):outL l h p=(mids l h p).map numS:=by simp[outL,mids]
theorem Vt (l h:Int) (p:Nat):(mids l h p).length=p:=by simp[mids]
structure Eav (l h:Int) (p:Nat):Prop where
 lo:0≤l
 lh:l<h
 hi:h≤65536
 p0:0<p
 p1:p≤4096
section
variable {l h:Int} {p:Nat}
theorem Eav.pr (e:Eav l h p) {k:Nat} (hk:k<p):(0≤(2*(k:Int)+1)*(h-l)∧(2*(k:Int)+1)*(h-l)≤2*(p:Int)*65536)∧0≤2*(p:Int)*l∧2*(p:Int)*l≤2*(p:Int)*65536:=by
 have:=e.lo;have:=e.lh;have:=e.hi
 refine ⟨⟨Int.mul_nonneg (by omega) (by omega),?_⟩,Int.mul_nonneg (by omega) (by omega),Int.mul_le_mul_of_nonneg_left (by omega) (by omega)⟩
 exact Int.mul_le_mul (by omega) (by omega) (by omega) (by omega)
theorem Eav.szm (e:Eav l h p) {k:Nat} (hk:k<p):Sz 10 (mdR l h p k):=by
 have h1:=e.pr hk
 have h2:=e.p0
 have h3:=e.p1
 have:(10:Nat)^10=10000000000:=(by decide)
 exact Vr (by omega) (by omega) (by omega)
theorem Eav.szw (e:Eav l h p):Sz 10 (wayR l h p):=by
 have h2:=e.p0
 have h3:=e.p1
 have:=e.lo;have:=e.lh;have:=e.hi
 have:(10:Nat)^10=10000000000:=(by decide)
 exact Vr (by omega) (by omega) (by omega)
theorem Eav.szi (e:Eav l h p):Sz 10 (l:Rat)∧Sz 10 (h:Rat):=by
 have:=e.lo;have:=e.lh;have:=e.hi
 have:(10:Nat)^10=10000000000:=(by decide)
 exact ⟨uR (by omega) (by decide),uR (by omega) (by decide)⟩
theorem Eav.sz (e:Eav l h p):∀q∈mids l h p,Sz 10 q:=by
 intro q hq
 simp only[mids,List.mem_map,List.mem_range] at hq
 obtain ⟨k,hk,rfl⟩:=hq
 exact e.szm hk
theorem Eav.wpos (e:Eav l h p):0<wayR l h p:=by
 unfold wayR
 have h2:=e.p0
 have h1:=e.lh
 rw[Rat.divInt_eq_div,Rat.div_def]
 exact Rat.mul_pos (Rat.intCast_pos.2 (by omega)) (Rat.inv_pos.2 (Rat.intCast_pos.2 (by omega)))
theorem Eav.whole (e:Eav l h p):(l:Rat)+2*(p:Rat)*wayR l h p=(h:Rat):=by
 have h2:=e.p0
 have hq:((2*(p:Int):Int):Rat)≠0:=by
  intro e
  have:=Rat.intCast_eq_zero_iff.1 e
  omega
 have hi:=Rat.mul_inv_cancel _ hq
 unfold wayR
 rw[Rat.divInt_eq_div,Rat.div_def]
 have e1:((h-l:Int):Rat)=(h:Rat)-(l:Rat):=Rat.intCast_sub _ _
 have e2:((2*(p:Int):Int):Rat)=2*(p:Rat):=by rw[Rat.intCast_mul];rfl
 rw[e1]
 rw[← e2]
 generalize ((2*(p:Int):Int):Rat)=d at*
 generalize d⁻¹ =v at*
 grind
theorem Eav.asc (e:Eav l h p):Asc (mids l h p):=by
 unfold mids Asc
 rw[List.pairwise_map]
 refine List.Pairwise.imp ?_ List.pairwise_lt_range
 intro a b hab
 rw[Mq a e.p0,Mq b e.p0]
 have hw:=e.wpos
 have hab':(a:Rat)<(b:Rat):=Rat.natCast_lt_natCast.2 hab
 have:=Rat.mul_pos (a:=(b:Rat)-(a:Rat)) (b:=wayR l h p) (by grind) hw
 grind
theorem Eav.chk (e:Eav l h p):ckS (outL l h p)=0:=by
 rw[Sf]
 exact aC1 (k:=10) (by decide) e.sz e.asc (by rw[Vt];exact e.p1)
theorem Eav.inn (e:Eav l h p) {k:Nat} (hk:k<p):(l:Rat)≤mdR l h p k∧mdR l h p k≤(h:Rat):=by
 rw[Mq k e.p0,← e.whole]
 have hw:=e.wpos
 have hk':((k+1:Nat):Rat)≤(p:Rat):=Rat.natCast_le_natCast.2 hk
 have hk0:(0:Rat)≤(k:Rat):=Rat.natCast_nonneg
 have ek:((k+1:Nat):Rat)=(k:Rat)+1:=Rat.natCast_add _ _
 have h1:=Rat.mul_nonneg (a:=(k:Rat)) (b:=wayR l h p) hk0 (Rat.le_of_lt hw)
 have h2:=Rat.mul_nonneg (a:=(p:Rat)-((k:Rat)+1)) (b:=wayR l h p) (by grind) (Rat.le_of_lt hw)
 constructor<;>grind
theorem Eav.rg (e:Eav l h p):rgP (itoa l) (itoa h):=by
 rw[← eS,← eS]
 exact (Zx e.szi.1 e.szi.2 (by decide)).2 (Rat.intCast_le_intCast.2 (Int.le_of_lt e.lh))
theorem Eav.within (e:Eav l h p):wiS (outL l h p) (itoa l) (itoa h)=(outL l h p,0):=by
 unfold wiS
 rw[if_neg (fun h=>h.elim (fun h=>h e.chk) (fun h=>h e.rg))]
 rw[List.filter_eq_self.2 ?_]
 intro a ha
 simp only[outL,List.mem_map,List.mem_range] at ha
 obtain ⟨k,hk,rfl⟩:=ha
 unfold inR
 rw[decide_eq_true_eq,← eS,← eS,uS e.szi.1 (e.szm hk) (by decide) (by decide) (by decide),uS (e.szm hk) e.szi.2 (by decide) (by decide) (by decide)]
 exact ⟨(iN _ _).2 (e.inn hk).1,(iN _ _).2 (e.inn hk).2⟩
theorem Eav.half (e:Eav l h p):divQ (numS (2*wayR l h p)) [50]=(numS (wayR l h p),0):=by
 have z2:Sz 1 (2:Rat):=⟨by decide,by decide⟩
 have n2:numS 2= [50]:=(kK 2).trans (bQ (by decide))
 rw[← n2,kN (z2.mul e.szw) z2 (by decide) (by decide) (by decide) (by decide)]
 congr 2
 rw[Rat.div_def]
 have:=Rat.mul_inv_cancel (2:Rat) (by decide)
 grind
theorem Eav.same (e:Eav l h p):cmpQ (numS (wayR l h p)) (numS (wayR l h p))=(0,0):=by
 rw[uS e.szw e.szw (by decide) (by decide) (by decide),(Sr _ _).2 rfl]
end
def Bd (D B:Nat) (q:Rat):Prop:=0<D∧∃n:Int,q*((D:Int):Rat)=(n:Rat)∧n.natAbs≤B
theorem zI {D:Nat} (h:0<D):((D:Int):Rat)≠0:=fun e=>by
 have:=Rat.intCast_eq_zero_iff.1 e
 omega
theorem Bd.sz {D B k:Nat} {q:Rat} (h:Bd D B q) (h1:D<10^k) (h2:B<10^k):Sz k q:=by
 obtain ⟨hD,n,e,hn⟩:=h
 have:q=Rat.divInt n (D:Int):=by
  rw[Rat.divInt_eq_div,← e,Rat.div_def,Rat.mul_assoc,Rat.mul_inv_cancel _ (zI hD),Rat.mul_one]
 rw[this]
 exact Vr (by omega) (by omega) (by omega)
theorem Bd.zero {D B:Nat} (h:0<D):Bd D B 0:=⟨h,0,by rw[Rat.zero_mul];rfl,by simp⟩
theorem Bd.up {D B B':Nat} {q:Rat} (h:Bd D B q) (hb:B≤B'):Bd D B' q:=⟨h.1,h.2.imp fun n hn=>⟨hn.1,by omega⟩⟩
theorem Bd.add {D B C:Nat} {p q:Rat} (h:Bd D B p) (h':Bd D C q):Bd D (B+C) (p+q):=by
 obtain ⟨hD,n,e,hn⟩:=h
 obtain ⟨_,m,e',hm⟩:=h'
 exact ⟨hD,n+m,by rw[Rat.add_mul,e,e',Rat.intCast_add],by omega⟩
theorem Bd.neg {D B:Nat} {p:Rat} (h:Bd D B p):Bd D B (-p):=by
 obtain ⟨hD,n,e,hn⟩:=h
 exact ⟨hD, -n,by rw[Rat.neg_mul,e,Rat.intCast_neg],by omega⟩
theorem Bd.sub {D B C:Nat} {p q:Rat} (h:Bd D B p) (h':Bd D C q):Bd D (B+C) (p-q):=by
 rw[Rat.sub_eq_add_neg]
 exact h.add h'.neg
theorem Bd.mul {D E B C:Nat} {p q:Rat} (h:Bd D B p) (h':Bd E C q):Bd (D*E) (B*C) (p*q):=by
 obtain ⟨hD,n,e,hn⟩:=h
 obtain ⟨hE,m,e',hm⟩:=h'
 refine ⟨Nat.mul_pos hD hE,n*m,?_,by rw[Int.natAbs_mul];exact Nat.mul_le_mul hn hm⟩
 rw[Rat.intCast_mul,← e,← e',Int.natCast_mul,Rat.intCast_mul]
 grind
theorem Bd.lift {D B:Nat} {p:Rat} (E:Nat) (hE:0<E) (h:Bd D B p):Bd (D*E) (B*E) p:=by
 have h1:Bd E E 1:=⟨hE,E,by rw[Rat.one_mul],by omega⟩
 have:=h.mul h1
 rwa [Rat.mul_one] at this
theorem Bd.to {D B E:Nat} {p:Rat} (h:Bd D B p) (m:Nat) (hm:0<m) (e:E=D*m):Bd E (B*m) p:=by
 subst e;exact h.lift m hm
def Bn (q:Rat):Prop:=q.num.natAbs<10^12∧q.den≤12
theorem aAm {d:Nat} (h:0<d) (h2:d≤12):d ∣ 27720:=by
 have:d=1∨d=2∨d=3∨d=4∨d=5∨d=6∨d=7∨d=8∨d=9∨d=10∨d=11∨d=12:=by omega
 rcases this with h | h | h | h | h | h | h | h | h | h | h | h<;>(subst h;decide)
theorem Bn.bd {q:Rat} (h:Bn q):Bd 27720 (10^17) q:=by
 obtain ⟨h1,h2⟩:=h
 obtain ⟨m,hm⟩:=aAm q.den_pos h2
 have hm2:m≤27720:=by
  rcases Nat.eq_zero_or_pos m with e | e
  ·omega
  ·have:=Nat.le_mul_of_pos_left m q.den_pos
   omega
 have hm0:0<m:=by
  rcases Nat.eq_zero_or_pos m with e | e
  ·subst e;simp at hm
  ·exact e
 have h0:Bd q.den q.num.natAbs q:=⟨q.den_pos,q.num,(yY q).symm,Nat.le_refl _⟩
 refine (h0.to m hm0 hm).up ?_
 have:=Nat.mul_le_mul (show q.num.natAbs≤10^12 by omega) hm2
 refine Nat.le_trans this ?_
 decide
def nF (F:List FR):List (Str × Str):=F.map fun f=>(numS f.1,numS f.2)
def nSp (Sp:List SR):List (Str × Str × Str):=Sp.map fun s=>(numS s.1,numS s.2.1,numS s.2.2)
theorem zJ (F:List FR):(nF F).length=F.length:=by simp[nF]
theorem tA (Sp:List SR):(nSp Sp).length=Sp.length:=by simp[nSp]
theorem aCj {F:List FR} {i:Nat} (h:i<F.length):(nF F).getD i fr0=(numS (F.getD i (0,0)).1,numS (F.getD i (0,0)).2):=by simp[nF,List.getD_eq_getElem?_getD,h]
theorem Wb {Sp:List SR} {i:Nat} (h:i<Sp.length):(nSp Sp).getD i sr0=(numS (Sp.getD i (0,0,0)).1,numS (Sp.getD i (0,0,0)).2.1,numS (Sp.getD i (0,0,0)).2.2):=by simp[nSp,List.getD_eq_getElem?_getD,h]
theorem mZ {α:Type} {l:List α} {j:Nat} (d:α) (h:j<l.length):l.getD j d∈l:=by simp[List.getD_eq_getElem?_getD,h]
theorem iZ {p q:Rat} (hp:Sz 120 p) (hq:Sz 120 q):cmS (numS p) (numS q)=cmpR p q:=by
 unfold cmS;rw[uS hp hq (by decide) (by decide) (by decide)]
theorem rH {p q:Rat} (hp:Sz 120 p) (hq:Sz 120 q):adS (numS p) (numS q)=numS (p+q):=by
 unfold adS;rw[wP hp hq (by decide) (by decide) (by decide)]
theorem nA {p q:Rat} (hp:Sz 120 p) (hq:Sz 120 q):sbS (numS p) (numS q)=numS (p-q):=by
 unfold sbS;rw[nK hp hq (by decide) (by decide) (by decide)]
theorem zK {p q:Rat} (hp:Sz 120 p) (hq:Sz 120 q):mlS (numS p) (numS q)=numS (p*q):=by
 unfold mlS;rw[qB hp hq (by decide) (by decide) (by decide)]
theorem Wc {p q:Rat} (hp:Sz 120 p) (hq:Sz 120 q) (h0:q≠0):dvS (numS p) (numS q)=numS (p/q):=by
 unfold dvS;rw[kN hp hq (by decide) (by decide) (by decide) h0]
def fAr (g:FR→Rat→Rat) (up:Rat) (F:List FR) (z:Rat):Nat→Rat
 | 0=>z
 | i+1=>if (F.getD i (0,0)).1≤up then g (F.getD i (0,0)) (fAr g up F z i) else fAr g up F z i
def fY (up:Rat) (s:SR):FR:=((s.1+cutR up s)/2,wS up s)
def sAr (g:FR→Rat→Rat) (up:Rat) (Sp:List SR) (z:Rat):Nat→Rat
 | 0=>z
 | i+1=>if (Sp.getD i (0,0,0)).1<cutR up (Sp.getD i (0,0,0)) then g (fY up (Sp.getD i (0,0,0))) (sAr g up Sp z i) else sAr g up Sp z i
def fdR (g:FR→Rat→Rat) (up:Rat) (F:List FR) (Sp:List SR) (z:Rat):Rat:=sAr g up Sp (fAr g up F z F.length) Sp.length
section
variable {g:Str × Str→Str→Str} {gr:FR→Rat→Rat} {Q:Nat→Rat→Prop} {up:Rat}
theorem Wd {F:List FR} {z:Rat} {n0:Nat} (hup:Sz 120 up) (hF:∀f∈F,Sz 120 f.1) (hm:∀n z,Q n z→Q (n+1) z)
  (hst:∀n z,∀f∈F,Q n z→n≤11→g (numS f.1,numS f.2) (numS z)=numS (gr f z)∧Q (n+1) (gr f z)) (hz:Q n0 z) (hN:n0+F.length≤12):∀i,i≤F.length→fA g (numS up) (nF F) (numS z) i=numS (fAr gr up F z i)∧Q (n0+i) (fAr gr up F z i)
 | 0,_=>⟨rfl,hz⟩
 | i+1,hi=>by
  obtain ⟨h1,h2⟩:=Wd hup hF hm hst hz hN i (by omega)
  have hi':i<F.length:=hi
  have hmem:=mZ (0,0) hi'
  rw[fA,fAr,aCj hi']
  dsimp only
  rw[iZ (hF _ hmem) hup,h1]
  obtain ⟨q1,q2⟩:=hst (n0+i) _ _ hmem h2 (by omega)
  by_cases hc:(F.getD i (0,0)).1≤up
  ·rw[if_pos ((iN _ _).2 hc),if_pos hc]
   exact ⟨q1,q2⟩
  ·rw[if_neg (fun q=>hc ((iN _ _).1 q)),if_neg hc]
   exact ⟨rfl,hm _ _ h2⟩
theorem We {Sp:List SR} {z:Rat} {n0:Nat} (hup:Sz 120 up) (hS:∀s∈Sp,Sz 120 s.1∧Sz 120 s.2.1∧midP (numS s.1) (numS (cutR up s)) (numS s.2.2)=(numS (fY up s).1,numS (fY up s).2)) (hm:∀n z,Q n z→Q (n+1) z)
  (hst:∀n z,∀s∈Sp,Q n z→n≤11→g (numS (fY up s).1,numS (fY up s).2) (numS z)=numS (gr (fY up s) z)∧Q (n+1) (gr (fY up s) z)) (hz:Q n0 z) (hN:n0+Sp.length≤12):∀i,i≤Sp.length→sA g (numS up) (nSp Sp) (numS z) i=numS (sAr gr up Sp z i)∧Q (n0+i) (sAr gr up Sp z i)
 | 0,_=>⟨rfl,hz⟩
 | i+1,hi=>by
  obtain ⟨h1,h2⟩:=We hup hS hm hst hz hN i (by omega)
  have hi':i<Sp.length:=hi
  have hmem:=mZ (0,0,0) hi'
  obtain ⟨z1,z2,z3⟩:=hS _ hmem
  have ec:cuS (numS up) (numS (Sp.getD i (0,0,0)).2.1)=numS (cutR up (Sp.getD i (0,0,0))):=by
   unfold cuS cutR
   rw[iZ z2 hup]
   by_cases hc:up<(Sp.getD i (0,0,0)).2.1
   ·rw[if_pos hc,if_pos (by rw[Aq];have:=(fC up (Sp.getD i (0,0,0)).2.1).2 hc;omega)]
   ·rw[if_neg hc,if_neg (by rw[Aq];have:¬cmpR up (Sp.getD i (0,0,0)).2.1<0:=fun q=>hc ((fC _ _).1 q);omega)]
  have zc:Sz 120 (cutR up (Sp.getD i (0,0,0))):=by
   unfold cutR;split<;>assumption
  rw[sA,sAr,Wb hi']
  dsimp only
  rw[ec,iZ z1 zc,h1,z3]
  obtain ⟨q1,q2⟩:=hst (n0+i) _ _ hmem h2 (by omega)
  by_cases hc:(Sp.getD i (0,0,0)).1<cutR up (Sp.getD i (0,0,0))
  ·rw[if_pos ((fC _ _).2 hc),if_pos hc]
   exact ⟨q1,q2⟩
  ·rw[if_neg (fun q=>hc ((fC _ _).1 q)),if_neg hc]
   exact ⟨rfl,hm _ _ h2⟩
theorem Fv {F:List FR} {Sp:List SR} {z:Rat} {n0:Nat} (hup:Sz 120 up) (hF:∀f∈F,Sz 120 f.1) (hS:∀s∈Sp,Sz 120 s.1∧Sz 120 s.2.1∧midP (numS s.1) (numS (cutR up s)) (numS s.2.2)=(numS (fY up s).1,numS (fY up s).2)) (hm:∀n z,Q n z→Q (n+1) z)
  (hst:∀n z f,(f∈F∨∃s∈Sp,f=fY up s)→Q n z→n≤11→g (numS f.1,numS f.2) (numS z)=numS (gr f z)∧Q (n+1) (gr f z)) (hz:Q n0 z) (hN:n0+F.length+Sp.length≤12):
  fdS g (numS up) (nF F) (nSp Sp) (numS z)=numS (fdR gr up F Sp z)∧Q (n0+F.length+Sp.length) (fdR gr up F Sp z):=by
 obtain ⟨h1,h2⟩:=Wd hup hF hm (fun n z f hf=>hst n z f (.inl hf)) hz (by omega) F.length (Nat.le_refl _)
 unfold fdS fdR
 rw[zJ,tA,h1]
 exact We hup hS hm (fun n z s hs=>hst n z _ (.inr ⟨s,hs,rfl⟩)) h2 (by omega) Sp.length (Nat.le_refl _)
end
theorem tkSn {α:Type} {l:List α} {i:Nat} (d:α) (h:i<l.length):l.take (i+1)=l.take i++ [l.getD i d]:=by
 rw[List.take_succ_eq_append_getElem h]
 congr 2
 simp[List.getD_eq_getElem?_getD,h]
theorem aAn (x:Rat) (F:List FR) (Sp:List SR) (z:Rat):fdR (fun p s=>s-p.2*(x-p.1)) x F Sp z=z-sumG (mF x) F-sumG (mS x) Sp:=by
 have h1:∀i,i≤F.length→fAr (fun p s=>s-p.2*(x-p.1)) x F z i=z-sumG (mF x) (F.take i):=by
  intro i
  induction i with
  | zero=>intro _;simp only[fAr,List.take_zero,sumG];grind
  | succ i ih=>
   intro hi
   have:=ih (by omega)
   rw[fAr,tkSn (0,0) hi,lU,this]
   unfold mF
   split<;>grind
 have h2:∀w i,i≤Sp.length→sAr (fun p s=>s-p.2*(x-p.1)) x Sp w i=w-sumG (mS x) (Sp.take i):=by
  intro w i
  induction i with
  | zero=>intro _;simp only[sAr,List.take_zero,sumG];grind
  | succ i ih=>
   intro hi
   have:=ih (by omega)
   rw[sAr,tkSn (0,0,0) hi,lU,this]
   unfold mS fY
   split<;>grind
 unfold fdR
 rw[h2 _ _ (Nat.le_refl _),h1 _ (Nat.le_refl _),List.take_length,List.take_length]
theorem aAo (x:Rat) (F:List FR) (Sp:List SR) (z:Rat):fdR (fun p s=>s-p.2) x F Sp z=z-sumG (vF x) F-sumG (vS' x) Sp:=by
 have h1:∀i,i≤F.length→fAr (fun p s=>s-p.2) x F z i=z-sumG (vF x) (F.take i):=by
  intro i
  induction i with
  | zero=>intro _;simp only[fAr,List.take_zero,sumG];grind
  | succ i ih=>
   intro hi
   have:=ih (by omega)
   rw[fAr,tkSn (0,0) hi,lU,this]
   unfold vF
   split<;>grind
 have h2:∀w i,i≤Sp.length→sAr (fun p s=>s-p.2) x Sp w i=w-sumG (vS' x) (Sp.take i):=by
  intro w i
  induction i with
  | zero=>intro _;simp only[sAr,List.take_zero,sumG];grind
  | succ i ih=>
   intro hi
   have:=ih (by omega)
   rw[sAr,tkSn (0,0,0) hi,lU,this]
   unfold vS' fY
   split<;>grind
 unfold fdR
 rw[h2 _ _ (Nat.le_refl _),h1 _ (Nat.le_refl _),List.take_length,List.take_length]
structure BeR (L A B:Rat) (F:List FR) (Sp:List SR):Prop where
 l:Bn L
 a:Bn A
 b:Bn B
 ab:A<B
 nf:F.length≤5
 ns:Sp.length≤4
 f:∀f∈F,Bn f.1∧Bn f.2
 s:∀s∈Sp,Bn s.1∧Bn s.2.1∧Bn s.2.2
theorem Bd.half {D B:Nat} {q:Rat} (h:Bd D B q):Bd (D*2) B (q/2):=by
 obtain ⟨hD,n,e,hn⟩:=h
 refine ⟨by omega,n,?_,hn⟩
 rw[← e,Int.natCast_mul,Rat.intCast_mul,Rat.div_def]
 have h2:=Rat.mul_inv_cancel (2:Rat) (by decide)
 have h3:(((2:Nat):Int):Rat)=2:=rfl
 rw[h3]
 generalize (2:Rat)⁻¹ =v at*
 grind
theorem Bd.quo {D B M k:Nat} {t d:Rat} (h:Bd D B t) (hd:d*((k:Int):Rat)=((M:Int):Rat)) (h0:d≠0) (hM:0<M):Bd (D*M) (B*k) (t/d):=by
 obtain ⟨hD,n,e,hn⟩:=h
 refine ⟨Nat.mul_pos hD hM,n*k,?_,by rw[Int.natAbs_mul];exact Nat.mul_le_mul hn (by simp)⟩
 rw[Rat.intCast_mul,← e,Int.natCast_mul,Rat.intCast_mul,← hd,Rat.div_def]
 have h2:=Rat.mul_inv_cancel d h0
 generalize d⁻¹ =v at*
 grind
theorem Bd.eq {D E B C:Nat} {q:Rat} (h:Bd D B q) (e:D=E) (hb:B≤C):Bd E C q:=by subst e;exact h.up hb
theorem Bn.px {q:Rat} (h:Bn q):Bd 1330560 (10^19) q:=(h.bd.to 48 (by decide) (by decide)).up (by decide)
theorem Bd.py {q:Rat} (h:Bd 1330560 (10^19) q):Bd 2661120 (10^20) q:=(h.to 2 (by decide) (by decide)).up (by decide)
theorem Bn.pw {q:Rat} (h:Bn q):Bd 36883123200 (10^37) q:=(h.bd.to 1330560 (by decide) (by decide)).up (by decide)
theorem Wg {x:Rat} {s:SR} (hx:Bd 1330560 (10^19) x) (hs:Bn s.2.1):Bd 1330560 (10^19) (cutR x s):=by
 unfold cutR;split
 ·exact hx
 ·exact hs.px
theorem aDp {x:Rat} {s:SR} (hx:Bd 1330560 (10^19) x) (h1:Bn s.1) (h2:Bn s.2.1) (h3:Bn s.2.2):Bd 2661120 (10^20) (fY x s).1∧Bd 36883123200 (10^37) (fY x s).2:=by
 have hc:=Wg hx h2
 constructor
 ·exact ((h1.px.add hc).half).eq (by decide) (by decide)
 ·exact (h3.bd.mul (hc.sub h1.px)).eq (by decide) (by decide)
theorem aAp {x:Rat} {s:SR} (hx:Bd 1330560 (10^19) x) (h1:Bn s.1) (h2:Bn s.2.1) (h3:Bn s.2.2):midP (numS s.1) (numS (cutR x s)) (numS s.2.2)=(numS (fY x s).1,numS (fY x s).2):=by
 have hc:=Wg hx h2
 have n2:numS 2= [50]:=(kK 2).trans (bQ (by decide))
 have z2:Sz 120 (2:Rat):=⟨by decide,by decide⟩
 have z:∀ {q:Rat},Bd 1330560 (10^19) q→Sz 120 q:=fun h=>h.sz (by decide) (by decide)
 unfold midP fY wS
 rw[rH (z h1.px) (z hc),← n2,Wc ((h1.px.add hc).sz (by decide) (by decide)) z2 (by decide),nA (z hc) (z h1.px),zK (h3.bd.sz (by decide) (by decide)) ((hc.sub h1.px).sz (by decide) (by decide))]
section
variable {L A B:Rat} {F:List FR} {Sp:List SR}
theorem BeR.hS (h:BeR L A B F Sp) {x:Rat} (hx:Bd 1330560 (10^19) x):∀s∈Sp,Sz 120 s.1∧Sz 120 s.2.1∧midP (numS s.1) (numS (cutR x s)) (numS s.2.2)=(numS (fY x s).1,numS (fY x s).2):=fun s hs=>by
 obtain ⟨h1,h2,h3⟩:=h.s s hs
 exact ⟨h1.px.sz (by decide) (by decide),h2.px.sz (by decide) (by decide),aAp hx h1 h2 h3⟩
theorem BeR.hF (h:BeR L A B F Sp):∀f∈F,Sz 120 f.1:=fun f hf=>(h.f f hf).1.px.sz (by decide) (by decide)
theorem BeR.pt (h:BeR L A B F Sp) {x:Rat} (hx:Bd 1330560 (10^19) x) {f:FR} (hf:f∈F∨∃s∈Sp,f=fY x s):Bd 2661120 (10^20) f.1∧Bd 36883123200 (10^37) f.2:=by
 rcases hf with hf | ⟨s,hs,rfl⟩
 ·exact ⟨(h.f f hf).1.px.py,(h.f f hf).2.pw⟩
 ·obtain ⟨h1,h2,h3⟩:=h.s s hs
  exact aDp hx h1 h2 h3
theorem BeR.tot (h:BeR L A B F Sp):fdS gT (numS L) (nF F) (nSp Sp) [48]=numS (fdR (fun p s=>s+p.2) L F Sp 0)∧Bd 36883123200 (12*10^37) (fdR (fun p s=>s+p.2) L F Sp 0):=by
 have hx:=h.l.px
 have h1:=h.nf
 have h2:=h.ns
 obtain ⟨q1,q2⟩:=Fv (g:=gT) (gr:=fun p s=>s+p.2) (Q:=fun n z=>Bd 36883123200 (n*10^37) z) (n0:=0) (z:=0) (hx.sz (by decide) (by decide)) h.hF (h.hS hx) (fun n z hz=>hz.up (by omega)) (fun n z f hf hz hn=>by
  have hp:=(h.pt hx hf).2
  refine ⟨rH (hz.sz (by decide) (by omega)) (hp.sz (by decide) (by decide)),(hz.add hp).up (by omega)⟩) (Bd.zero (by decide)) (by omega)
 rw[Dl] at q1
 exact ⟨q1,q2.up (by omega)⟩
theorem BeR.trn (h:BeR L A B F Sp):fdS (gR (numS A)) (numS L) (nF F) (nSp Sp) [48]=numS (fdR (fun p s=>s+p.2*(p.1-A)) L F Sp 0)∧Bd 98150416809984000 (12*(2*10^57)) (fdR (fun p s=>s+p.2*(p.1-A)) L F Sp 0):=by
 have hx:=h.l.px
 have h1:=h.nf
 have h2:=h.ns
 have ha:=h.a.px.py
 obtain ⟨q1,q2⟩:=Fv (g:=gR (numS A)) (gr:=fun p s=>s+p.2*(p.1-A)) (Q:=fun n z=>Bd 98150416809984000 (n*(2*10^57)) z) (n0:=0) (z:=0) (hx.sz (by decide) (by decide)) h.hF (h.hS hx) (fun n z hz=>hz.up (by omega)) (fun n z f hf hz hn=>by
  obtain ⟨hp,hw⟩:=h.pt hx hf
  have hd:=hp.sub ha
  have hm:=(hw.mul hd).eq (E:=98150416809984000) (C:=2*10^57) (by decide) (by decide)
  refine ⟨?_,(hz.add hm).up (by omega)⟩
  unfold gR
  dsimp only
  rw[nA (hp.sz (by decide) (by decide)) (ha.sz (by decide) (by decide)),zK (hw.sz (by decide) (by decide)) (hd.sz (by decide) (by decide)),rH (hz.sz (by decide) (by omega)) (hm.sz (by decide) (by decide))]) (Bd.zero (by decide)) (by omega)
 rw[Dl] at q1
 exact ⟨q1,q2.up (by omega)⟩
end
theorem Wh {A B:Rat} (ha:Bn A) (hb:Bn B) (h:A<B):∃M:Nat,0<M∧M≤2*10^17∧(B-A)*(((27720:Nat):Int):Rat)=((M:Int):Rat):=by
 obtain ⟨_,n,e,hn⟩:=hb.bd.sub ha.bd
 have h0:(0:Rat)<(n:Rat):=by
  rw[← e]
  exact Rat.mul_pos (by grind) (by decide)
 have hn0:0<n:=Rat.intCast_pos.1 h0
 refine ⟨n.natAbs,by omega,by omega,?_⟩
 rw[e]
 congr 1
 omega
section
variable {L A B:Rat} {F:List FR} {Sp:List SR}
def rgtR (L A B:Rat) (F:List FR) (Sp:List SR):Rat:=fdR (fun p s=>s+p.2*(p.1-A)) L F Sp 0/(B-A)
def lftR (L A B:Rat) (F:List FR) (Sp:List SR):Rat:=fdR (fun p s=>s+p.2) L F Sp 0-rgtR L A B F Sp
theorem BeR.rgt (h:BeR L A B F Sp) {M:Nat} (hM:0<M) (hM2:M≤2*10^17) (e:(B-A)*(((27720:Nat):Int):Rat)=((M:Int):Rat)):rgtS (numS L) (numS A) (numS B) (nF F) (nSp Sp)=numS (rgtR L A B F Sp)∧Bd (98150416809984000*M) (10^63) (rgtR L A B F Sp):=by
 obtain ⟨t1,t2⟩:=h.trn
 have hd:=h.b.px.sub h.a.px
 have h0:B-A≠0:=by have:=h.ab;grind
 refine ⟨?_,(t2.quo e h0 hM).up (by decide)⟩
 unfold rgtS
 rw[t1,nA (h.b.px.sz (by decide) (by decide)) (h.a.px.sz (by decide) (by decide)),Wc (t2.sz (by decide) (by decide)) (hd.sz (by decide) (by decide)) h0]
 rfl
theorem BeR.lft (h:BeR L A B F Sp) {M:Nat} (hM:0<M) (hM2:M≤2*10^17) (e:(B-A)*(((27720:Nat):Int):Rat)=((M:Int):Rat)):lftS (numS L) (numS A) (numS B) (nF F) (nSp Sp)=numS (lftR L A B F Sp)∧Bd (98150416809984000*M) (2*10^63) (lftR L A B F Sp):=by
 obtain ⟨r1,r2⟩:=h.rgt hM hM2 e
 obtain ⟨t1,t2⟩:=h.tot
 have t3:=t2.to (E:=98150416809984000*M) (2661120*M) (by omega) (by rw[← Nat.mul_assoc])
 refine ⟨?_,(t3.sub r2).up (by omega)⟩
 unfold lftS totS
 rw[r1,t1,nA (t2.sz (by decide) (by decide)) (r2.sz (by omega) (by decide))]
 rfl
theorem BeR.she (h:BeR L A B F Sp) {M:Nat} (hM:0<M) (hM2:M≤2*10^17) (e:(B-A)*(((27720:Nat):Int):Rat)=((M:Int):Rat)) {x:Rat} (hx:Bd 1330560 (10^19) x):
  sheS (numS L) (numS A) (numS B) (nF F) (nSp Sp) (numS x)=numS (sheR (A,lftR L A B F Sp) (B,rgtR L A B F Sp) F Sp x)∧Bd (98150416809984000*M) (12*(2*10^63)) (sheR (A,lftR L A B F Sp) (B,rgtR L A B F Sp) F Sp x):=by
 obtain ⟨r1,r2⟩:=h.rgt hM hM2 e
 obtain ⟨l1,l2⟩:=h.lft hM hM2 e
 have h1:=h.nf
 have h2:=h.ns
 have zx:=hx.sz (k:=120) (by decide) (by decide)
 have za:=h.a.px.sz (k:=120) (by decide) (by decide)
 have zb:=h.b.px.sz (k:=120) (by decide) (by decide)
 have hD:0<98150416809984000*M:=by omega
 have zz:Sz 120 (0:Rat):=⟨by decide,by decide⟩
 have zl:=l2.sz (k:=120) (by omega) (by decide)
 have zr:=r2.sz (k:=120) (by omega) (by decide)
 -- the supports
 have s1:vP (supL (numS L) (numS A) (numS B) (nF F) (nSp Sp)) (numS x) 1=numS (0+vF x (A,lftR L A B F Sp))∧Bd (98150416809984000*M) (1*(2*10^63)) (0+vF x (A,lftR L A B F Sp)):=by
  show (if cmS (numS A) (numS x)≤0 then adS [48] (lftS (numS L) (numS A) (numS B) (nF F) (nSp Sp)) else [48])= _∧ _
  rw[iZ za zx,l1]
  unfold vF
  dsimp only
  by_cases hc:A≤x
  ·rw[if_pos ((iN _ _).2 hc),if_pos hc,← Dl,rH zz zl]
   exact ⟨rfl,((Bd.zero (B:=0) hD).add l2).up (by omega)⟩
  ·rw[if_neg (fun q=>hc ((iN _ _).1 q)),if_neg hc,Rat.add_zero,Dl]
   exact ⟨rfl,Bd.zero hD⟩
 have s2:vP (supL (numS L) (numS A) (numS B) (nF F) (nSp Sp)) (numS x) 2=numS (0+vF x (A,lftR L A B F Sp)+vF x (B,rgtR L A B F Sp))∧Bd (98150416809984000*M) (2*(2*10^63)) (0+vF x (A,lftR L A B F Sp)+vF x (B,rgtR L A B F Sp)):=by
  show (if cmS (numS B) (numS x)≤0 then adS (vP (supL (numS L) (numS A) (numS B) (nF F) (nSp Sp)) (numS x) 1) (rgtS (numS L) (numS A) (numS B) (nF F) (nSp Sp)) else vP (supL (numS L) (numS A) (numS B) (nF F) (nSp Sp)) (numS x) 1)= _∧ _
  rw[iZ zb zx,r1,s1.1]
  have zs:=s1.2.sz (k:=120) (by omega) (by decide)
  have hs:=s1.2
  generalize 0+vF x (A,lftR L A B F Sp)=w at*
  unfold vF
  dsimp only
  by_cases hc:B≤x
  ·rw[if_pos ((iN _ _).2 hc),if_pos hc,rH zs zr]
   exact ⟨rfl,(hs.add r2).up (by omega)⟩
  ·rw[if_neg (fun q=>hc ((iN _ _).1 q)),if_neg hc,Rat.add_zero]
   exact ⟨rfl,hs.up (by omega)⟩
 obtain ⟨q1,q2⟩:=Fv (g:=gV) (gr:=fun p s=>s-p.2) (Q:=fun n z=>Bd (98150416809984000*M) (n*(2*10^63)) z) (n0:=2) (up:=x) (F:=F) (Sp:=Sp) zx h.hF (h.hS hx) (fun n z hz=>hz.up (by omega)) (fun n z f hf hz hn=>by
  have hw:=(h.pt hx hf).2
  have hw2:=hw.to (E:=98150416809984000*M) (2661120*M) (by omega) (by rw[← Nat.mul_assoc])
  exact ⟨nA (hz.sz (by omega) (by omega)) (hw.sz (by decide) (by decide)),(hz.sub hw2).up (by omega)⟩) s2.2 (by omega)
 rw[aAo] at q1 q2
 have es:sheR (A,lftR L A B F Sp) (B,rgtR L A B F Sp) F Sp x=0+vF x (A,lftR L A B F Sp)+vF x (B,rgtR L A B F Sp)-sumG (vF x) F-sumG (vS' x) Sp:=by unfold sheR;grind
 rw[es]
 refine ⟨?_,q2.up (by omega)⟩
 unfold sheS
 rw[s2.1]
 exact q1
theorem BeR.mom (h:BeR L A B F Sp) {M:Nat} (hM:0<M) (hM2:M≤2*10^17) (e:(B-A)*(((27720:Nat):Int):Rat)=((M:Int):Rat)) {x:Rat} (hx:Bd 1330560 (10^19) x):
  momS (numS L) (numS A) (numS B) (nF F) (nSp Sp) (numS x)=numS (momR (A,lftR L A B F Sp) (B,rgtR L A B F Sp) F Sp x)∧Bd (98150416809984000*M*2661120) (12*(4*10^83)) (momR (A,lftR L A B F Sp) (B,rgtR L A B F Sp) F Sp x):=by
 obtain ⟨r1,r2⟩:=h.rgt hM hM2 e
 obtain ⟨l1,l2⟩:=h.lft hM hM2 e
 have h1:=h.nf
 have h2:=h.ns
 have zx:=hx.sz (k:=120) (by decide) (by decide)
 have za:=h.a.px.sz (k:=120) (by decide) (by decide)
 have zb:=h.b.px.sz (k:=120) (by decide) (by decide)
 have hD:0<98150416809984000*M*2661120:=by omega
 have zz:Sz 120 (0:Rat):=⟨by decide,by decide⟩
 have zl:=l2.sz (k:=120) (by omega) (by decide)
 have zr:=r2.sz (k:=120) (by omega) (by decide)
 have da:=hx.py.sub h.a.px.py
 have db:=hx.py.sub h.b.px.py
 have ma:=(l2.mul da).up (B':=4*10^83) (by decide)
 have mb:=(r2.mul db).up (B':=4*10^83) (by decide)
 have s1:mP (supL (numS L) (numS A) (numS B) (nF F) (nSp Sp)) (numS x) 1=numS (0+mF x (A,lftR L A B F Sp))∧Bd (98150416809984000*M*2661120) (1*(4*10^83)) (0+mF x (A,lftR L A B F Sp)):=by
  show (if cmS (numS A) (numS x)<0 then adS [48] (mlS (lftS (numS L) (numS A) (numS B) (nF F) (nSp Sp)) (sbS (numS x) (numS A))) else [48])= _∧ _
  rw[iZ za zx,l1,nA zx za,zK zl (da.sz (by decide) (by decide))]
  unfold mF
  dsimp only
  by_cases hc:A<x
  ·rw[if_pos ((fC _ _).2 hc),if_pos (Rat.le_of_lt hc),← Dl,rH zz (ma.sz (by omega) (by decide))]
   exact ⟨rfl,((Bd.zero (B:=0) hD).add ma).up (by omega)⟩
  ·rw[if_neg (fun q=>hc ((fC _ _).1 q))]
   have ez:(if A≤x then lftR L A B F Sp*(x-A) else 0)=0:=by
    split
    ·have:x=A:=by grind
     subst this;grind
    ·rfl
   rw[ez,Rat.add_zero,Dl]
   exact ⟨rfl,Bd.zero hD⟩
 have s2:mP (supL (numS L) (numS A) (numS B) (nF F) (nSp Sp)) (numS x) 2=numS (0+mF x (A,lftR L A B F Sp)+mF x (B,rgtR L A B F Sp))∧Bd (98150416809984000*M*2661120) (2*(4*10^83)) (0+mF x (A,lftR L A B F Sp)+mF x (B,rgtR L A B F Sp)):=by
  show (if cmS (numS B) (numS x)<0 then adS (mP (supL (numS L) (numS A) (numS B) (nF F) (nSp Sp)) (numS x) 1) (mlS (rgtS (numS L) (numS A) (numS B) (nF F) (nSp Sp)) (sbS (numS x) (numS B))) else mP (supL (numS L) (numS A) (numS B) (nF F) (nSp Sp)) (numS x) 1)= _∧ _
  rw[iZ zb zx,r1,nA zx zb,zK zr (db.sz (by decide) (by decide)),s1.1]
  have zs:=s1.2.sz (k:=120) (by omega) (by decide)
  have hs:=s1.2
  generalize 0+mF x (A,lftR L A B F Sp)=w at*
  unfold mF
  dsimp only
  by_cases hc:B<x
  ·rw[if_pos ((fC _ _).2 hc),if_pos (Rat.le_of_lt hc),rH zs (mb.sz (by omega) (by decide))]
   exact ⟨rfl,(hs.add mb).up (by omega)⟩
  ·rw[if_neg (fun q=>hc ((fC _ _).1 q))]
   have ez:(if B≤x then rgtR L A B F Sp*(x-B) else 0)=0:=by
    split
    ·have:x=B:=by grind
     subst this;grind
    ·rfl
   rw[ez,Rat.add_zero]
   exact ⟨rfl,hs.up (by omega)⟩
 obtain ⟨q1,q2⟩:=Fv (g:=gM (numS x)) (gr:=fun p s=>s-p.2*(x-p.1)) (Q:=fun n z=>Bd (98150416809984000*M*2661120) (n*(4*10^83)) z) (n0:=2) (up:=x) (F:=F) (Sp:=Sp) zx h.hF (h.hS hx) (fun n z hz=>hz.up (by omega)) (fun n z f hf hz hn=>by
  obtain ⟨hp,hw⟩:=h.pt hx hf
  have hd:=hx.py.sub hp
  have hm:=hw.mul hd
  have hm1:Bd 98150416809984000 (10^37*(10^20+10^20)) (f.2*(x-f.1)):=hm
  have eE:98150416809984000*M*2661120=98150416809984000*(M*2661120):=Nat.mul_assoc 98150416809984000 M 2661120
  have hm2:=hm1.to (M*2661120) (Nat.mul_pos hM (by decide)) eE
  refine ⟨?_,(hz.sub hm2).up (by omega)⟩
  unfold gM
  dsimp only
  rw[nA zx (hp.sz (by decide) (by decide)),zK (hw.sz (by decide) (by decide)) (hd.sz (by decide) (by decide)),nA (hz.sz (by omega) (by omega)) (hm.sz (by decide) (by decide))]) s2.2 (by omega)
 rw[aAn] at q1 q2
 have es:momR (A,lftR L A B F Sp) (B,rgtR L A B F Sp) F Sp x=0+mF x (A,lftR L A B F Sp)+mF x (B,rgtR L A B F Sp)-sumG (mF x) F-sumG (mS x) Sp:=by unfold momR;grind
 rw[es]
 refine ⟨?_,q2.up (by omega)⟩
 unfold momS
 rw[s2.1]
 exact q1
end
end RB
end
section
namespace Go.Eng
open Go.RowKit
section
variable {P:Program}
theorem Jz {f:FuncId} {k0 k1:List SV} (hk0:plain.plainL k0=true) (hk1:plain.plainL k1=true) {t:TypeId} {args:List SV} {r:SV} (hp:rV args=true) (hr:plain r=true)
  (h:HTri P f (.ptr 0 0::args) [.cells k0 t] (fun s H'=>s=r∧H'= [.cells k1 t]))
  {H:List HO} {nm:Nat} (hn:H[nm]? =some (.cells k0 t)):
  HTri P f (.ptr nm 0::args) H (fun s H'=>s=r∧H'=hset H nm (.cells k1 t)):=by
 intro G loc ver w vs hY hI hrel
 have hlt:nm<H.length:=(List.getElem?_eq_some_iff.1 hn).1
 obtain ⟨hv,b,cs,hb,hheap,hcs⟩:=hI.objs nm _ hn
 cases hrel with
 | cons _ v0 _ vs hp0 hrel=>
 cases hp0 with
 | ptr _ _ _ hhas hptr=>
 obtain ⟨b',hb',hv0⟩:=hptr hv
 have hob:Owned H loc b:=⟨nm,_,hn,by show (loc nm).blk.map (·.1)=some b;rw[hb];rfl⟩
 let G':Ctx:=⟨w,okN G H loc w,fun c=>(loc nm).blk.map (·.1)=some c,fun c hc hm=>hc.2.2 ⟨nm,_,hn,hm⟩,fun c hc=>hc.2.1,G.itr,Nat.le_trans G.low hI.size⟩
 have hI':Inv G' [.cells k0 t] (fun _=>loc nm) (fun _=>ver nm) w:=by
  refine ⟨Nat.le_refl _,rfl,rfl,rfl,fun _ _ _=>rfl,fun k o hk=>?_,fun c hc=>?_,fun k k' o o' c hk hk' _ _=>?_⟩
  ·have:k=0:=by have:=(List.getElem?_eq_some_iff.1 hk).1;simp at this;exact this
   subst this
   simp only[List.getElem?_cons_zero,Option.some.injEq] at hk
   subst hk
   exact ⟨hv,b,cs,hb,hheap,hcs.plain hk0⟩
  ·obtain ⟨k,o,hk,ho⟩:=hc
   have:k=0:=by have:=(List.getElem?_eq_some_iff.1 hk).1;simp at this;exact this
   subst this
   simp only[List.getElem?_cons_zero,Option.some.injEq] at hk
   subst hk
   exact .inl ho
  ·have h1:=(List.getElem?_eq_some_iff.1 hk).1
   have h2:=(List.getElem?_eq_some_iff.1 hk').1
   simp at h1 h2
   rw[h1,h2]
 have hok:∀c,okN G H loc w c→okN G' [.cells k0 t] (fun _=>loc nm) w c:=fun c hc=>⟨.inl hc,hc.2.1,by
  rintro ⟨k,o,hk,ho⟩
  have:k=0:=by have:=(List.getElem?_eq_some_iff.1 hk).1;simp at this;exact this
  subst this
  simp only[List.getElem?_cons_zero,Option.some.injEq] at hk
  subst hk
  exact hc.2.2 ⟨nm,_,hn,ho⟩⟩
 have hargs:RelL (envOf G' [.cells k0 t] (fun _=>loc nm) (fun _=>ver nm) w) (.ptr 0 0::args) (v0::vs):=
  .cons _ _ _ _ (.ptr 0 0 v0 rfl fun _=>⟨b',hb',hv0⟩) (RelL.plainC (E:=envOf G H loc ver w) (E':=envOf G' [.cells k0 t] (fun _=>loc nm) (fun _=>ver nm) w) rfl hok hrel hp)
 refine (h G' _ _ w _ ⟨hY.1,hY.now hI⟩ hI' hargs).mono ?_
 rintro e w' ⟨v,rfl,s,H1,loc1,ver1,⟨rfl,rfl⟩,hI1,hr1,hx1⟩
 refine ⟨v,rfl,s,hset H nm (.cells k1 t),loc,ver,⟨rfl,rfl⟩,?_⟩
 have hcore:(loc1 0).toCore=(loc nm).toCore:=by
  rcases hx1.ver 0 rfl with h1 | h1
  ·exact h1.2
  ·have h2:0<ver nm:=h1.1
   omega
 have hblk1:(loc1 0).blk=(loc nm).blk:=congrArg Core.blk hcore
 obtain ⟨_,c,cs1,hc,hheap1,hcs1⟩:=hI1.objs 0 _ rfl
 have key:=hI.turn (H':=H.set nm (.cells k1 t)) (loc':=loc) (ver':=ver) (w':=w') nm (by simp) (fun k hk=>⟨aK hk,rfl,rfl⟩) (fun _=>bA (aB hlt) rfl) (fun _=>.inl ⟨rfl,rfl,.inl rfl⟩)
  hI1.size hI1.os hI1.tape hI1.output (by rw[hn];intro h;cases h) (fun _=>by rw[aB hlt];intro h;cases h) (fun st n it b h=>by rw[aB hlt] at h;cases h)
  (fun d hd hno=>hI1.frame d hd fun hm=>hno _ hn hm) (fun o' d ho' hd=>by
   rw[aB hlt] at ho';cases ho'
   exact .inl ⟨_,hn,hd⟩) (fun _ o' ho'=>by
   rw[aB hlt] at ho';cases ho'
   exact ⟨hv,c,cs1,by rw[← hblk1];exact hc,hheap1,hcs1.plain hk1⟩)
 exact ⟨key.1,hr1.plain hr,key.2⟩
def Fz (f:FuncId) (t:TypeId) (cl:List SV→List SV→(SV→List SV→Prop)→Prop):Con:=nM f fun args H K=>match args with
 | .ptr nm 0::r=>(match hget H nm with
  | .cells k0 t'=>bif Nat.beq t' t&&(plain.plainL k0&&rV r) then cl r k0 fun s k1=>K s (hset H nm (.cells k1 t)) else False
  | _=>False)
 | _=>False
theorem zT {f:FuncId} {t:TypeId} {cl:List SV→List SV→(SV→List SV→Prop)→Prop} (he:mI P f)
  (h:∀r k0 K,cl r k0 K→∃s k1,K s k1∧plain s=true∧plain.plainL k1=true∧HTri P f (.ptr 0 0::r) [.cells k0 t] (fun s' H'=>s'=s∧H'= [.cells k1 t])):aD P (Fz f t cl):=by
 refine gE he ?_
 intro args H K hk
 split at hk
 ·rename_i nm r
  split at hk
  ·rename_i k0 t' hg
   obtain ⟨hb,hk⟩:=aE hk
   rw[Bool.and_eq_true,Bool.and_eq_true] at hb
   obtain rfl:=aJ.1 hb.1
   obtain ⟨s,k1,h1,h2,h4,h3⟩:=h _ _ _ hk
   refine ⟨_,?_,Jz hb.2.1 h4 hb.2.2 h2 h3 (aC hg (by intro h;cases h))⟩
   rintro s' H' ⟨rfl,rfl⟩
   exact h1
  ·exact hk.elim
 ·exact hk.elim
end
end Go.Eng
open Go Go.Proofs Go.Eng Go.Shelf IB Go.Lib Go.RowKit
namespace RB
def half1:Str:=[49,47,50]
theorem b4021 (n a b r m:Str) (h:addQ a b=(r,0)) (h':mulQ r half1=(m,0)):gC Tryz.prog [c17n,c19n] {} Tryz.f21 [.ptr 0 0,S a,S b] [.cells [S n,I 0] 65] (fun r' H'=>r'=S m∧H'= [.cells [S n,I 0] 65]):=by
 have h2:mulQ r (⟨#[49,47,50]⟩:ByteArray).data.toList=(m,0):=h'
 (conv=>whnf)
 refine Need.mk rfl ?_
 (repeat refine ZH ?_)
 (conv=>whnf)
 refine ⟨_,_,⟨rfl,rfl⟩,rfl,?_,rfl,rfl,?_⟩
 all_goals (repeat' first|exact trivial|rfl|apply And.intro)
theorem b4023 (n a b r:Str) (h:subQ a b=(r,0)):gC Tryz.prog [c20n] {} Tryz.f23 [.ptr 0 0,S a,S b] [.cells [S n,I 0] 65] (fun r' H'=>r'=S r∧H'= [.cells [S n,I 0] 65]):=by
 (conv=>whnf)
 refine Need.mk rfl ?_
 (repeat refine ZH ?_)
 (conv=>whnf)
 refine ⟨_,_,⟨rfl,rfl⟩,rfl,?_,rfl,rfl,?_⟩
 all_goals (repeat' first|exact trivial|rfl|apply And.intro)
theorem b4022 (n v w p q r:Str) (h1:mulQ [49] v=(p,0)) (h2:mulQ p w=(q,0)) (h3:addQ n q=(r,0)):gC Tryz.prog [c19n,c17n] {} Tryz.f22 [.ptr 0 0,.val (.bool false),.seq .str [v,w]] [.cells [S n,I 0] 65] (fun r' H'=>r'= .tup []∧H'= [.cells [S r,I 0] 65]):=by
 have h1':mulQ (⟨#[49]⟩:ByteArray).data.toList v=(p,0):=h1
 (conv=>whnf)
 refine Need.mk rfl ?_
 (repeat'((conv=>whnf);first|refine Zg fun _=>?_|fail))
 (conv=>whnf)
 refine Br.mkY (by simp) ?_
 (repeat'((conv=>whnf);first|refine .h ?_|refine Zn ?_|refine Z0 ?_|(apply Pin.mk;apply Exists.intro)|apply Pinned.mk rfl rfl|fail))
 (conv=>whnf)
 refine Br.mkY (by simp) ?_
 (repeat'((conv=>whnf);first|refine .h ?_|refine Zn ?_|refine Z1 ?_|(apply Pin.mk;apply Exists.intro)|apply Pinned.mk rfl rfl|fail))
 (conv=>whnf)
 refine Br.mkN (by simp) ?_
 (repeat refine ZH ?_)
 (conv=>whnf)
 refine ⟨_,_,⟨rfl,rfl⟩,rfl,?_,rfl,rfl,?_⟩
 all_goals (repeat' first|exact trivial|rfl|apply And.intro)
noncomputable def aCk:Con:=Fz 21 65 fun args k0 K=>match args,k0 with
 | [.str a,.str b],[.str n,.val (.int .i64 e)]=>Need (e=0) (Alt (Has (fun r:Str=>addQ a b=(r,0)) fun r=>Alt (Has (fun m:Str=>mulQ r half1=(m,0)) fun m=>K (S m) [S n,I 0]) False) False)
 | _,_=>False
theorem k4021:aD Tryz.prog aCk:=by
 refine zT (enters_of Tryz.func21 (by kernel_rfl) rfl) ?_
 intro args k0 K h
 split at h
 ·rename_i a b n e
  obtain ⟨h1,hk⟩:=h
  subst h1
  rcases hk.or with hk | hk
  ·obtain ⟨r,hp,hk⟩:=hk.ex
   rcases hk.or with hk | hk
   ·obtain ⟨m,hm,hK⟩:=hk.ex
    exact ⟨_,_,hK,rfl,rfl,aY (by simp[k17n,k19n]) Tryz.func21 (by simp[Tryz.ntmps21]) (b4021 n a b r m hp hm)⟩
   ·exact hk.elim
  ·exact hk.elim
 ·exact h.elim
noncomputable def aCl:Con:=Fz 23 65 fun args k0 K=>match args,k0 with
 | [.str a,.str b],[.str n,.val (.int .i64 e)]=>Need (e=0) (Alt (Has (fun r:Str=>subQ a b=(r,0)) fun r=>K (S r) [S n,I 0]) False)
 | _,_=>False
theorem k4023:aD Tryz.prog aCl:=by
 refine zT (enters_of Tryz.func23 (by kernel_rfl) rfl) ?_
 intro args k0 K h
 split at h
 ·rename_i a b n e
  obtain ⟨h1,hk⟩:=h
  subst h1
  rcases hk.or with hk | hk
  ·obtain ⟨r,hp,hK⟩:=hk.ex
   exact ⟨_,_,hK,rfl,rfl,aY (by simp[k20n]) Tryz.func23 (by simp[Tryz.ntmps23]) (b4023 n a b r hp)⟩
  ·exact hk.elim
 ·exact h.elim
noncomputable def aCm:Con:=Fz 22 65 fun args k0 K=>match args,k0 with
 | [.val (.bool false),.seq .str [v,w]],[.str n,.val (.int .i64 e)]=>Need (e=0) (Alt (Has (fun r:Str=>∃p q,mulQ [49] v=(p,0)∧mulQ p w=(q,0)∧addQ n q=(r,0)) fun r=>K (.tup []) [S r,I 0]) False)
 | _,_=>False
theorem k4022:aD Tryz.prog aCm:=by
 refine zT (enters_of Tryz.func22 (by kernel_rfl) rfl) ?_
 intro args k0 K h
 split at h
 ·rename_i v w n e
  obtain ⟨h1,hk⟩:=h
  subst h1
  rcases hk.or with hk | hk
  ·obtain ⟨r,⟨p,q,h1,h2,h3⟩,hK⟩:=hk.ex
   exact ⟨_,_,hK,rfl,rfl,aY (by simp[k17n,k19n]) Tryz.func22 (by simp[Tryz.ntmps22]) (b4022 n v w p q r h1 h2 h3)⟩
  ·exact hk.elim
 ·exact h.elim
end RB
end
section
open Go Go.Proofs Go.Eng Go.Shelf IB Go.Lib Go.RowKit
namespace RB
theorem aCn (a b:Str):body Tryz.prog [c38] {} true Tryz.f17 [S a,S b] (I (cmS a b)):=by
 (conv=>whnf)
 (repeat' first|rfl|apply And.intro)
def Wn:Con:=aI 17 true fun args K=>match args with | [.str a,.str b]=>K (I (cmS a b)) | _=>False
theorem k4017:aD Tryz.prog Wn:=by
 refine kO Tryz.func17 fun args K h=>?_
 simp only[Wn] at h;split at h
 ·rename_i a b;exact ⟨_,h,triB Tryz.func17 Tryz.ntmps17 (by simp[k38]) (aCn a b)⟩
 ·exact h.elim
abbrev PN:Rat→Prop:=Bd 1330560 (10^19)
abbrev PT:={ q:Rat //PN q }
instance:Inhabited PT:=⟨⟨0,Bd.zero (by decide)⟩⟩
theorem PN.sz {q:Rat} (h:PN q):Sz 20 q:=Bd.sz h (by decide) (by decide)
theorem PN.sz' {q:Rat} (h:PN q):Sz 120 q:=Bd.sz h (by decide) (by decide)
noncomputable abbrev enP (x:PT):Value:=.string ⟨(numS x.1).toArray⟩
noncomputable abbrev cfP (x y:PT):Int:=cmS (numS x.1) (numS y.1)
theorem aDt (x y:PT):cfP x y=cmpR x.1 y.1:=iZ x.2.sz' y.2.sz'
theorem Wo {q:Rat} {k:Nat} (h:Sz k q) (hk:0<k):(numS q).length≤2*k+2:=by
 have h1:=dA hk h.1
 have h2:=dA hk h.2
 have h5:(itoa q.num).length≤(decDigits q.num.natAbs).length+1:=by
  unfold itoa
  split
  ·simp
  ·rw[show q.num.toNat=q.num.natAbs by omega];omega
 unfold numS
 split
 ·omega
 ·simp
  omega
theorem ltP (x y:PT):ltOf cfP x y=decide (x.1<y.1):=by
 unfold ltOf
 rw[aDt]
 exact decide_eq_decide.2 (fC _ _)
theorem swP:Go.Sort.SWO (ltOf cfP):=by
 constructor
 ·intro x;rw[ltP];simp[Rat.lt_irrefl]
 ·intro x y z h1 h2
  rw[ltP] at*
  simp only[decide_eq_true_eq] at*
  exact ltT h1 h2
 ·intro x y z h1 h2
  rw[ltP] at*
  simp only[decide_eq_false_iff_not,Rat.not_lt] at*
  exact Rat.le_trans h2 h1
theorem toP (x y:PT) (h1:ltOf cfP x y=false) (h2:ltOf cfP y x=false):x=y:=by
 rw[ltP] at*
 simp only[decide_eq_false_iff_not,Rat.not_lt] at*
 exact Subtype.ext (Rat.le_antisymm h2 h1)
noncomputable abbrev srR (l:List Rat):List Rat:=l.mergeSort fun x y=>decide (x≤y)
theorem srP (l:List PT):(l.mergeSort fun x y=> !(ltOf cfP) y x).map Subtype.val=srR (l.map Subtype.val):=by
 refine List.map_mergeSort fun a _ b _=>?_
 rw[ltP]
 by_cases h:a.1≤b.1
 ·rw[decide_eq_false (Rat.not_lt.2 h),decide_eq_true h];rfl
 ·rw[decide_eq_true (Rat.not_le.1 h),decide_eq_false h];rfl
theorem aAt {W w':World} (h:Go.RowKit.Below W.heap.size W w') (hd:W.drawn≤w'.drawn):∃q os,w'=Go.Sort.grow (W.drewN q) os:=by
 refine ⟨w'.drawn-W.drawn,w'.heap.extract W.heap.size w'.heap.size,?_⟩
 have e1:w'.heap=W.heap++w'.heap.extract W.heap.size w'.heap.size:=by
  apply Array.ext_getElem?
  intro i
  by_cases hi:i<W.heap.size
  ·rw[Array.getElem?_append_left hi];exact h.block i hi
  ·rw[Array.getElem?_append_right (by omega),Array.getElem?_extract]
   by_cases h2:i<w'.heap.size
   ·rw[if_pos (by omega)]
    congr 1;omega
   ·rw[if_neg (by omega),Array.getElem?_eq_none (by omega)]
 obtain ⟨o1,o2,o3,o4,o5⟩:=h
 cases w' with
 | mk hp tp dr os ou=>
  simp only[Go.Sort.grow,World.drewN] at*
  subst o1 o2 o3
  congr 1
  omega
theorem cmpP {ok:Nat→Prop} {w:World} (hw:GW Tryz.prog ok w) (hok:∀b,ok b→b<w.heap.size) (g:Nat) (hg:∀b,ok b→b≠g) (n:Nat):CmpLays1 Tryz.prog 17 #[] enP cfP g 0 n w:=by
 intro m os dk hs x y
 have hsz:w.heap.size≤(Go.Proofs.sortWorld enP w g 0 m dk os).heap.size:=by
  show w.heap.size≤(Array.modify w.heap g _++os).size
  simp
 have hb:∀b,ok b→(Go.Proofs.sortWorld enP w g 0 m dk os).heap[b]? =w.heap[b]? :=fun b hb=>by
  show (Array.modify w.heap g _++os)[b]? = _
  rw[Array.getElem?_append_left (by simpa using hok b hb),Array.getElem?_modify,if_neg (fun e=>hg b hb e.symm)]
 generalize Go.Proofs.sortWorld enP w g 0 m dk os=W at*
 have hW:GW Tryz.prog ok W:=hw.move (fun b hb _=>hb) hb
 have hl:∀z:PT,(numS z.1).length≤140737488355328:=fun z=>Nat.le_trans (Wo z.2.sz (by decide)) (by decide)
 have hr:RelL (env0 W ok) [S (numS x.1),S (numS y.1)] [enP x,enP y]:=.cons _ _ _ _ (.str _ (hl x)) (.cons _ _ _ _ (.str _ (hl y)) .nil)
 have ht:Tri Tryz.prog true 17 [S (numS x.1),S (numS y.1)] (I (cmS (numS x.1) (numS y.1))):=triB Tryz.func17 Tryz.ntmps17 (by simp[k38]) (aCn _ _)
 refine (Go.DR.calls_dr (ht ok W [enP x,enP y] hW (fun b hb=>Nat.lt_of_lt_of_le (hok b hb) hsz) hr)).mono ?_
 rintro e w' ⟨⟨v,rfl,hbel,hv⟩,hd⟩
 cases hv with
 | val _ _=>exact ⟨rfl,aAt hbel (hd _ rfl)⟩
theorem takeP (d:List PT) (i:Nat) (h:i<d.length):((d.map enP).drop (i*1)).take 1= [enP (d.getD i default)]:=by
 have h2:i<(d.map enP).length:=by rw[List.length_map];exact h
 rw[Nat.mul_one,List.drop_eq_getElem_cons h2,List.take_succ_cons,List.take_zero,List.getElem_map,List.getD_eq_getElem?_getD,List.getElem?_eq_getElem h]
 rfl
theorem Sj (d:List PT) (c:Array Value) (h:d.length≤c.size):(Go.Sort.putCells enP 0 d.toArray c).toList.take d.length=d.map enP:=by
 apply List.ext_getElem?
 intro i
 by_cases hi:i<d.length
 ·rw[List.getElem?_take,if_pos hi,Array.getElem?_toList]
  simp only[Go.Sort.putCells,Array.getElem?_mapIdx]
  rw[Array.getElem?_eq_getElem (by omega)]
  simp[hi]
 ·rw[List.getElem?_eq_none (by simp;omega),List.getElem?_eq_none (by simp;omega)]
theorem Wq (l:List Rat) (hl:∀q∈l,PN q) (hne:l≠ []) (hlen:l.length≤100) (e:TypeId):LTri Tryz.prog 18 0 true [.any,.clo 17 [] []] .str (l.map numS) e (.tup []) ((srR l).map numS):=by
 intro ok w vs L hw hok hb hR hv hp
 obtain ⟨hl1,hm,us,ho,hr⟩:=hR
 obtain ⟨d,rfl⟩:∃d:List PT,l=d.map Subtype.val:=⟨l.attach.map fun x=>⟨x.1,hl _ x.2⟩,by simp⟩
 have hvs:vs= [L.head,.func (.func 17) #[] #[]]:=by
  cases hv with
  | cons _ v1 _ vs1 h1 hv=>
  cases hv with
  | cons _ v2 _ vs2 h2 hv=>
  cases hv
  cases h2 with
  | clo _ _ _ va vb ha hb=>
  cases ha
  cases hb
  simp only[List.getElem?_cons_zero,Option.some.injEq] at hp
  rw[hp]
 subst hvs
 rw[List.map_map] at*
 change L.len=(d.map (numS ∘ Subtype.val)).length at hl1
 rw[List.length_map] at hl1 hlen
 have hd0:d.length≠0:=fun h=>hne (by rw[List.length_eq_zero_iff.1 h];rfl)
 rcases aO ho with ⟨h1,h2,h3,h4⟩ | ⟨g,cur,h1,h2,h3,h4,h5,h6,h7⟩
 ·exact absurd h4 (by omega)
 ·have hsz:cur.toList.length=cur.size:=by simp
  have hh:L.head= .slice (some ⟨g,0,none⟩) d.length L.cap:=by simp[Core.head,h1,h2,hl1]
  have hg:g<w.heap.size:=by
   rcases Nat.lt_or_ge g w.heap.size with h | h
   ·exact h
   ·rw[Array.getElem?_eq_none h] at h3;cases h3
  have hus:∀i,i<d.length→cur[i]? =some (enP (d.getD i default)):=fun i hi=>by
   have:=hr i (by omega)
   obtain ⟨q,hk⟩:=this
   have q':=congrArg (fun l=>l[0]?) q
   simp only[Ty.size,Nat.mul_one] at q' h7
   rw[List.getElem?_take,if_pos (by omega),List.getElem?_drop,← h7,List.getElem?_take,if_pos (by omega),Array.getElem?_toList] at q'
   simpa [Ty.dflt,List.getD_eq_getElem?_getD,hi] using q'
  have hH:Go.Sort.Holds enP w g 0 d.toArray:=fun j hj=>by
   have hj':j<d.length:=by simpa using hj
   constructor
   ·unfold World.cell?
    rw[h3]
    simp only[Nat.zero_add]
    rw[if_neg (by simp),hus j hj']
    simp[List.getD_eq_getElem?_getD,hj']
   ·unfold World.frozen?
    rw[h3]
    simp
  rw[hh]
  have hcmp:=cmpP hw (fun b hb=>(hok b hb).1) g (fun b hb e=>(hok b hb).2 (by rw[h1,e];rfl)) d.toArray.size
  have hcall:=Any.slices_SortFunc_total RL.lF enP (fun _=>rfl) cfP swP _ #[] g 0 L.cap d.toArray w (enters_of Tryz.func17 (by kernel_rfl) rfl) hcmp hH hg (by simp;omega) toP
  have hcall:Calls Tryz.prog 18 ⟨[.slice (some ⟨g,0,none⟩) d.length L.cap,.func (.func 17) #[] #[]]⟩ w _:=hcall
  refine hcall.mono ?_
  rintro en w' ⟨rfl,n,os,rfl⟩
  have hpm:(d.mergeSort fun x y=> !(ltOf cfP) y x).Perm d:=List.mergeSort_perm _ _
  have hln:(d.mergeSort fun x y=> !(ltOf cfP) y x).length=d.length:=hpm.length_eq
  have hse:(srR (d.map Subtype.val)).map numS=(d.mergeSort fun x y=> !(ltOf cfP) y x).map (numS ∘ Subtype.val):=by
   rw[← srP,List.map_map]
  rw[hse]
  generalize (d.mergeSort fun x y=> !(ltOf cfP) y x)=sr at*
  have hcs:d.length≤cur.size:=by
   have:=h6;simp only[Ty.size] at this;omega
  have hgr:∀b,b<w.heap.size→(Go.Sort.grow (Go.Sort.putRow enP (Go.Sort.ahead w n) g 0 sr.toArray) os).heap[b]? =if g=b then some (.cells (Go.Sort.putCells enP 0 sr.toArray cur) e (0,0)) else w.heap[b]? :=fun b hb'=>by
   show (Array.modify w.heap g _++os)[b]? = _
   rw[Array.getElem?_append_left (by simpa using hb'),Array.getElem?_modify]
   by_cases hgb:g=b
   ·subst hgb
    rw[if_pos rfl,if_pos rfl,h3];rfl
   ·rw[if_neg hgb,if_neg hgb]
  refine ⟨_,L,rfl,⟨rfl,rfl,rfl,?_,fun b hb' hne=>?_⟩,fun _=>rfl,fun b hb=>.inl hb,?_,.inr ⟨rfl,.tup _ [] .nil⟩⟩
  ·show w.heap.size≤(Array.modify w.heap g _++os).size
   simp
  ·refine (hgr b hb').trans (if_neg ?_)
   intro h
   subst h
   exact hne (by rw[h1];rfl)
  ·have hps:(Go.Sort.putCells enP 0 sr.toArray cur).size=cur.size:=by simp[Go.Sort.putCells]
   refine ⟨by rw[List.length_map,hln];exact hl1,hm,sr.map enP,⟨?_,.inr ⟨g,L.cap,_,?_,Nat.zero_le _,(hgr g hg).trans (if_pos rfl),by omega,h5,by rw[hps];exact h6,?_⟩⟩,fun i hi=>?_⟩
   ·simp[Ty.size,hln,hl1]
   ·simp[Core.head,h1]
   ·have:=Sj sr cur (by omega)
    simpa [Ty.size,hln,hl1] using this
   ·have hi':i<sr.length:=by omega
    refine ⟨?_,?_⟩
    ·refine (takeP sr i hi').trans ?_
     simp[List.getD_eq_getElem?_getD,hi']
    ·have hq:=(sr.getD i default).2.sz
     have:=Wo hq (by decide)
     simp only[List.getD_eq_getElem?_getD,List.getElem?_map,List.getElem?_eq_getElem hi',Option.map_some,Option.getD_some,Function.comp] at this ⊢
     show _≤140737488355328
     omega
noncomputable def aCo:Con:=wV 18 0 true fun args o K=>match args,o with
 | [.any,.clo f [] []],.vec 1 .str xs e=>Need (.clo f [] []=SV.clo 17 [] []) (Alt (Has (fun l:List Rat=>xs=l.map numS∧(∀q∈l,PN q)∧l≠ []∧l.length≤100) fun l=>K (.tup []) (.vec 1 .str ((srR l).map numS) e)) False)
 | _,_=>False
theorem k4018:aD Tryz.prog aCo:=by
 refine rZ (enters_of Tryz.func18 (by kernel_rfl) rfl) ?_
 intro args t xs e K hfl h
 split at h
 ·rename_i f zs e' heq
  cases heq
  obtain ⟨hf,h⟩:=h
  cases hf
  rcases h.or with h | h
  ·obtain ⟨l,⟨rfl,h1,h2,h3⟩,hK⟩:=h.ex
   exact ⟨_,_,hK,Wq l h1 h2 h3 _⟩
  ·exact h.elim
 ·exact h.elim
theorem Ka (n:Nat):digs (decDigits n)=decDigits n:=by
 have:=bC (n:Int)
 rwa [Va,Int.natAbs_natCast] at this
theorem Bn.sz12 {q:Rat} (h:Bn q):Sz 12 q:=⟨h.1,Nat.lt_of_le_of_lt h.2 (by decide)⟩
theorem oP {q:Rat} (h:Bn q):NmV (numS q):=by
 have hc:chkQ (numS q)=0:=Cq h.sz12 (by decide)
 have hp:ptQ (numS q)=(pn q,pd q):=by rw[ptQ,if_pos hc,cU]
 have h0:=q.den_pos
 have h2:=h.2
 refine ⟨hc,?_,?_,?_⟩
 ·rw[hp,bC]
  exact dA (by decide) h.1
 ·rw[hp]
  show (digs (decDigits q.den)).length≤2
  rw[Ka]
  exact dA (by decide) (Nat.lt_of_le_of_lt h2 (by decide))
 ·rw[hp]
  show (decDigits q.den).length=2→¬(¬Op.bytesLess (decDigits q.den) [49,50]=true∧¬decDigits q.den= [49,50])
  generalize q.den=d at*
  have:d=1∨d=2∨d=3∨d=4∨d=5∨d=6∨d=7∨d=8∨d=9∨d=10∨d=11∨d=12:=by omega
  rcases this with rfl | rfl | rfl | rfl | rfl | rfl | rfl | rfl | rfl | rfl | rfl | rfl<;>first | (rw[decDigits_one (by decide)];decide) | (rw[decDigits_two (by decide) (by decide)];decide)
theorem oQ {a:Str} (h1:a.length≤24) (h2:nmE a=0):∃q,a=numS q∧Bn q:=by
 have hc:chkQ a=0:=Classical.byContradiction fun hc=>by
  rw[nmE,if_neg hc] at h2;exact hc h2
 have hl:¬LngV a:=fun hl=>by
  rw[nmE,if_pos hc,if_pos hl] at h2;exact absurd h2 (by decide)
 obtain ⟨e,hz⟩:=Yn (by omega) hc
 unfold LngV at hl
 have hp:ptQ a=(pn (valQ a),pd (valQ a)):=by rw[ptQ,if_pos hc]
 rw[hp] at hl
 have l1:(digs (pn (valQ a))).length≤12:=Nat.not_lt.1 fun q=>hl (.inl q)
 have l2:¬0<cmS (pd (valQ a)) [49,50]:=fun q=>hl (.inr q)
 have hn:(valQ a).num.natAbs<10^12:=by
  rw[bC] at l1
  exact nI l1
 have hd:(valQ a).den≤12:=by
  have e12:([49,50]:Str)=numS (((12:Nat):Int):Rat):=by rw[kK,decDigits_two (by decide) (by decide)];decide
  rw[e12,show pd (valQ a)=numS (((valQ a).den:Int):Rat) from (kK _).symm,iZ (uR (by rw[Int.natAbs_natCast];exact Nat.lt_of_lt_of_le hz.2 (by decide)) (by decide)) (uR (by decide) (by decide))] at l2
  have l3:cmpR (((valQ a).den:Int):Rat) (((12:Nat):Int):Rat)≤0:=by omega
  rw[iN,Rat.intCast_le_intCast] at l3
  omega
 exact ⟨valQ a,e,hn,hd⟩
theorem zU {l:List Str} (h:numE l=0):∀a∈l,nmE a=0:=by
 induction l with
 | nil=>intro a ha;cases ha
 | cons b r ih=>
  rw[numE] at h
  by_cases hb:nmE b=0
  ·rw[if_pos hb] at h
   intro a ha
   rcases List.mem_cons.1 ha with rfl | ha
   ·exact hb
   ·exact ih h a ha
  ·rw[if_neg hb] at h
   exact absurd h hb
structure BeG (L A B:Rat) (F:List FR) (Sp:List SR):Prop extends BeR L A B F Sp where
 l0:0<L
 a0:0≤A∧A≤L
 b0:0≤B∧B≤L
 f0:∀f∈F,0≤f.1∧f.1≤L
 s0:∀s∈Sp,(0≤s.1∧s.1≤L)∧(0≤s.2.1∧s.2.1≤L)∧s.1<s.2.1
theorem zero48:([48]:Str)=numS 0:=by
 have:=kK 0
 rw[bQ (by decide)] at this
 exact this.symm
theorem Bn.sz' {q:Rat} (h:Bn q):Sz 120 q:=h.px.sz (by decide) (by decide)
theorem szz:Sz 120 (0:Rat):=⟨by decide,by decide⟩
theorem Qd (p q:Rat):0<cmpR p q↔q<p:=by
 have h:=iN p q
 rw[← Int.not_le,h,Rat.not_le]
theorem kW {p q:Rat} (hp:Sz 120 p) (hq:Sz 120 q):cmS (numS p) (numS q)<0↔p<q:=by rw[iZ hp hq,fC]
theorem tB {L q:Rat} (hL:Bn L) (hq:Sz 120 q):BesV (numS L) (numS q)↔(q<0∨L<q):=by
 unfold BesV
 rw[zero48,kW hq szz,kW hL.sz' hq]
theorem pV {L q:Rat} (hL:Bn L) (hq:Sz 120 q):OutV (numS L) (numS q)↔(q<0∨L<q):=by
 unfold OutV
 rw[zero48,kW hq szz,iZ hq hL.sz',Qd]
theorem Kb {L q:Rat} (h:¬(q<0∨L<q)):0≤q∧q≤L:=⟨Rat.not_lt.1 fun x=>h (.inl x),Rat.not_lt.1 fun x=>h (.inr x)⟩
theorem Wr {L:Rat} (hL:Bn L):∀ {fs:List (Str × Str)},frE (numS L) fs=0→¬frG fs→∃F:List FR,fs=nF F∧(∀f∈F,Bn f.1∧Bn f.2)∧(∀f∈F,0≤f.1∧f.1≤L)
 | [],_,_=>⟨[],rfl,by simp,by simp⟩
 | f::r,h,hg=>by
  rw[frG] at hg
  rw[frE] at h
  by_cases h1:numE [f.1,f.2]=0
  ·rw[if_pos h1] at h
   by_cases h2:BesV (numS L) f.1
   ·rw[if_pos h2] at h;exact absurd h (by decide)
   ·rw[if_neg h2] at h
    obtain ⟨F,e,b1,b2⟩:=Wr hL h fun q=>hg (.inr q)
    have hn:=zU h1
    obtain ⟨p,e1,p1⟩:=oQ (a:=f.1) (by have:=fun q=>hg (.inl (.inl q));omega) (hn _ (by simp))
    obtain ⟨w,e2,w1⟩:=oQ (a:=f.2) (by have:=fun q=>hg (.inl (.inr q));omega) (hn _ (by simp))
    rw[e1,tB hL p1.sz'] at h2
    refine ⟨(p,w)::F,?_,?_,?_⟩
    ·rw[e,nF,nF,List.map_cons]
     congr 1
     exact Prod.ext e1 e2
    ·intro x hx
     rcases List.mem_cons.1 hx with rfl | hx
     ·exact ⟨p1,w1⟩
     ·exact b1 x hx
    ·intro x hx
     rcases List.mem_cons.1 hx with rfl | hx
     ·exact Kb h2
     ·exact b2 x hx
  ·rw[if_neg h1] at h
   exact absurd h h1
theorem Ws {L:Rat} (hL:Bn L):∀ {ss:List (Str × Str × Str)},spE (numS L) ss=0→¬spG ss→∃Sp:List SR,ss=nSp Sp∧(∀s∈Sp,Bn s.1∧Bn s.2.1∧Bn s.2.2)∧(∀s∈Sp,(0≤s.1∧s.1≤L)∧(0≤s.2.1∧s.2.1≤L)∧s.1<s.2.1)
 | [],_,_=>⟨[],rfl,by simp,by simp⟩
 | f::r,h,hg=>by
  rw[spG] at hg
  rw[spE] at h
  by_cases h1:numE [f.1,f.2.1,f.2.2]=0
  ·rw[if_pos h1] at h
   by_cases h2:BesV (numS L) f.1∨BesV (numS L) f.2.1
   ·rw[if_pos h2] at h;exact absurd h (by decide)
   ·rw[if_neg h2] at h
    by_cases h3:cmS f.1 f.2.1<0
    ·rw[if_pos h3] at h
     obtain ⟨F,e,b1,b2⟩:=Ws hL h fun q=>hg (.inr q)
     have hn:=zU h1
     obtain ⟨p,e1,p1⟩:=oQ (a:=f.1) (by have:=fun q=>hg (.inl (.inl q));omega) (hn _ (by simp))
     obtain ⟨u,e2,u1⟩:=oQ (a:=f.2.1) (by have:=fun q=>hg (.inl (.inr (.inl q)));omega) (hn _ (by simp))
     obtain ⟨w,e3,w1⟩:=oQ (a:=f.2.2) (by have:=fun q=>hg (.inl (.inr (.inr q)));omega) (hn _ (by simp))
     have h4:¬BesV (numS L) f.1:=fun q=>h2 (.inl q)
     have h5:¬BesV (numS L) f.2.1:=fun q=>h2 (.inr q)
     rw[e1,tB hL p1.sz'] at h4
     rw[e2,tB hL u1.sz'] at h5
     rw[e1,e2,kW p1.sz' u1.sz'] at h3
     refine ⟨(p,u,w)::F,?_,?_,?_⟩
     ·rw[e,nSp,nSp,List.map_cons]
      congr 1
      exact Prod.ext e1 (Prod.ext e2 e3)
     ·intro x hx
      rcases List.mem_cons.1 hx with rfl | hx
      ·exact ⟨p1,u1,w1⟩
      ·exact b1 x hx
     ·intro x hx
      rcases List.mem_cons.1 hx with rfl | hx
      ·exact ⟨Kb h4,Kb h5,h3⟩
      ·exact b2 x hx
    ·rw[if_neg h3] at h;exact absurd h (by decide)
  ·rw[if_neg h1] at h
   exact absurd h h1
theorem Wu {L A B:Rat} {F:List FR} {Sp:List SR} (h:BeG L A B F Sp):BmV (numS L) (numS A) (numS B) (nF F) (nSp Sp):=by
 have n1:=h.nf
 have n2:=h.ns
 refine ⟨oP h.l,oP h.a,oP h.b,?_,?_,?_,?_,by rw[zJ];omega,by rw[tA];omega,fun i hi=>?_,fun i hi=>?_⟩
 ·rw[zero48,iZ h.l.sz' szz,Qd];exact h.l0
 ·rw[pV h.l h.a.sz'];exact fun q=>q.elim (fun x=>Rat.not_le.2 x h.a0.1) fun x=>Rat.not_le.2 x h.a0.2
 ·rw[pV h.l h.b.sz'];exact fun q=>q.elim (fun x=>Rat.not_le.2 x h.b0.1) fun x=>Rat.not_le.2 x h.b0.2
 ·rw[kW h.a.sz' h.b.sz'];exact h.ab
 ·rw[zJ] at hi
  have h1:=h.f _ (mZ (0,0) hi)
  have h2:=h.f0 _ (mZ (0,0) hi)
  rw[aCj hi]
  refine ⟨oP h1.1,oP h1.2,?_⟩
  rw[pV h.l h1.1.sz']
  exact fun q=>q.elim (fun x=>Rat.not_le.2 x h2.1) fun x=>Rat.not_le.2 x h2.2
 ·rw[tA] at hi
  have h1:=h.s _ (mZ (0,0,0) hi)
  have h2:=h.s0 _ (mZ (0,0,0) hi)
  rw[Wb hi]
  refine ⟨oP h1.1,oP h1.2.1,oP h1.2.2,?_,?_,?_⟩
  ·rw[pV h.l h1.1.sz']
   exact fun q=>q.elim (fun x=>Rat.not_le.2 x h2.1.1) fun x=>Rat.not_le.2 x h2.1.2
  ·rw[pV h.l h1.2.1.sz']
   exact fun q=>q.elim (fun x=>Rat.not_le.2 x h2.2.1.1) fun x=>Rat.not_le.2 x h2.2.1.2
  ·rw[kW h1.1.sz' h1.2.1.sz'];exact h2.2.2
theorem aAu {lb ab bb:Str} {fs:List (Str × Str)} {ss:List (Str × Str × Str)} (hg:¬GtV lb ab bb fs ss) (hc:ckB lb ab bb fs ss=0):
  ∃L A B F Sp,lb=numS L∧ab=numS A∧bb=numS B∧fs=nF F∧ss=nSp Sp∧BeG L A B F Sp:=by
 have g1:¬hdG lb ab bb fs ss:=fun q=>hg (.inl q)
 have g2:¬frG fs:=fun q=>hg (.inr (.inl q))
 have g3:¬spG ss:=fun q=>hg (.inr (.inr q))
 unfold hdG at g1
 rw[ckB] at hc
 have n0:¬(64<fs.length∨64<ss.length):=fun q=>by rw[if_pos q] at hc;exact absurd hc (by decide)
 rw[if_neg n0] at hc
 have n1:numE [lb,ab,bb]=0:=Classical.byContradiction fun q=>by rw[if_neg q] at hc;exact q hc
 rw[if_pos n1] at hc
 have n2:cmS [48] lb<0:=Classical.byContradiction fun q=>by rw[if_neg q] at hc;exact absurd hc (by decide)
 rw[if_pos n2] at hc
 have n3:¬(BesV lb ab∨BesV lb bb):=fun q=>by rw[if_pos q] at hc;exact absurd hc (by decide)
 rw[if_neg n3] at hc
 have n4:cmS ab bb<0:=Classical.byContradiction fun q=>by rw[if_neg q] at hc;exact absurd hc (by decide)
 rw[if_pos n4] at hc
 have n5:frE lb fs=0:=Classical.byContradiction fun q=>by rw[if_neg q] at hc;exact q hc
 rw[if_pos n5] at hc
 have hn:=zU n1
 obtain ⟨L,rfl,l1⟩:=oQ (a:=lb) (by omega) (hn _ (by simp))
 obtain ⟨A,rfl,a1⟩:=oQ (a:=ab) (by omega) (hn _ (by simp))
 obtain ⟨B,rfl,b1⟩:=oQ (a:=bb) (by omega) (hn _ (by simp))
 obtain ⟨F,rfl,f1,f2⟩:=Wr l1 n5 g2
 obtain ⟨Sp,rfl,s1,s2⟩:=Ws l1 hc g3
 have n6:¬BesV (numS L) (numS A):=fun q=>n3 (.inl q)
 have n7:¬BesV (numS L) (numS B):=fun q=>n3 (.inr q)
 rw[tB l1 a1.sz'] at n6
 rw[tB l1 b1.sz'] at n7
 rw[kW a1.sz' b1.sz'] at n4
 rw[zero48,kW szz l1.sz'] at n2
 rw[zJ] at g1 n0
 rw[tA] at g1 n0
 exact ⟨L,A,B,F,Sp,rfl,rfl,rfl,rfl,rfl,⟨⟨l1,a1,b1,n4,by omega,by omega,f1,s1⟩,n2,Kb n6,Kb n7,f2,s2⟩⟩
end RB
end

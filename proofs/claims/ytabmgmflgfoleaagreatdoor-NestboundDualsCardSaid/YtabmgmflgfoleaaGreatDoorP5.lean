/-
  Part 5: a symbolic executor over the model, contracts of functions and plain laws.
-/
import Derived.Test.YtabmgmflgfoleaaGreatDoorP4
import Derived.Lib.ItoaNum
import Derived.Test.YtabmgmflgfoleaaGreatDoorProg
import Derived.Shelf.Abstract
import Derived.Shelf.Strconv.Itoa3
import Derived.Shelf.Strconv.AtoiAll
import Derived.Shelf.Strings.Repeat
import Derived.Shelf.Strings.SlTrimAscii
import Derived.Shelf.Strings.Search3
import Derived.Shelf.Strings.Builder1
import Derived.Lib.SmallJoins
import Derived.Lib.AtoiAllCases
import Derived.Lib.AppendIntMem
set_option linter.unusedVariables false
set_option linter.unusedSimpArgs false
set_option maxRecDepth 10000
set_option maxHeartbeats 80000000
section
namespace IB
theorem rL {B:Nat} (y:Int):∀(l:List Int) (j:Nat),j<l.length→valB B (l.set j y)=valB B l+(B:Int)^j*(y-l.getD j 0)
 | [],j,h=>by simp at h
 | x::r,0,h=>by simp only[List.set_cons_zero,valB,List.getD_cons_zero,Int.pow_zero,Int.one_mul];omega
 | x::r,j+1,h=>by
  simp only[List.set_cons_succ,valB,List.getD_cons_succ]
  rw[rL y r j (by simpa using h),Int.mul_add,Int.pow_succ,Int.mul_comm (_ ^ _) (B:Int),Int.mul_assoc]
  omega
theorem eC (l:List Int) (k:Nat) (x:Int) (h:k<l.length) (i:Nat):(l.set k x).getD i 0=if i=k then x else l.getD i 0:=by
 rw[List.getD_eq_getElem?_getD,List.getElem?_set]
 by_cases e:i=k
 ·subst e;simp[h]
 ·rw[if_neg (fun e'=>e e'.symm),if_neg e,List.getD_eq_getElem?_getD]
theorem sS {B:Nat} {l:List Int} (h:InB B l) (k:Nat) {x:Int} (hx:0≤x∧x<B):InB B (l.set k x):=fun y hy=>by
 rcases List.mem_or_eq_of_mem_set hy with h1 | h1
 ·exact h y h1
 ·rw[h1];exact hx
theorem dM (l:List Int) (i:Nat) (h:l.length≤i):l.getD i 0=0:=by rw[List.getD_eq_getElem?_getD,List.getElem?_eq_none h];rfl
def mulK (B:Nat) (x:Int) (b:List Int) (i:Nat) (out:List Int):Nat→List Int × Int
 | 0=>(out,0)
 | k+1=>((mulK B x b i out k).1.set (i+k) (((mulK B x b i out k).1.getD (i+k) 0+x*b.getD k 0+(mulK B x b i out k).2)%B),((mulK B x b i out k).1.getD (i+k) 0+x*b.getD k 0+(mulK B x b i out k).2)/B)
def mulR (B:Nat) (a b out:List Int):Nat→List Int
 | 0=>out
 | i+1=>(mulK B (a.getD i 0) b i (mulR B a b out i) (b.length+1)).1
theorem gQ {B:Nat} (hB:2≤B) {x:Int} (hx:0≤x∧x<B) {b:List Int} (hb:InB B b) {i:Nat} {out:List Int} (ho:InB B out):∀k,i+k≤out.length→(mulK B x b i out k).1.length=out.length∧InB B (mulK B x b i out k).1∧
  (0≤(mulK B x b i out k).2∧(mulK B x b i out k).2<B)∧valB B (mulK B x b i out k).1+(B:Int)^ (i+k)*(mulK B x b i out k).2=valB B out+(B:Int)^i*(x*valN B b k)∧
  (∀j,i+k≤j→(mulK B x b i out k).1.getD j 0=out.getD j 0)∧∀j,j<i→(mulK B x b i out k).1.getD j 0=out.getD j 0
 | 0,_=>⟨rfl,ho,by simp only[mulK];omega,by simp[mulK,valN],fun _ _=>rfl,fun _ _=>rfl⟩
 | k+1,hk=>by
  obtain ⟨h1,h2,h3,h4,h5,h6⟩:=gQ hB hx hb (i:=i) ho k (by omega)
  have g1:=hb.getD0 (by omega) k
  have g2:=h2.getD0 (by omega) (i+k)
  simp only[mulK]
  generalize (mulK B x b i out k).1=o at h1 h2 h4 h5 h6 g2 ⊢
  generalize (mulK B x b i out k).2=c at h3 h4 ⊢
  have hp0:0≤x*b.getD k 0:=Int.mul_nonneg hx.1 g1.1
  have hp1:x*b.getD k 0≤((B:Int)-1)*((B:Int)-1):=Int.mul_le_mul (by omega) (by omega) g1.1 (by omega)
  have hsq:((B:Int)-1)*((B:Int)-1)=(B:Int)*B-B-B+1:=by rw[Int.sub_mul,Int.mul_sub,Int.mul_one,Int.one_mul];omega
  rw[hsq] at hp1
  have hm:=Int.emod_nonneg (o.getD (i+k) 0+x*b.getD k 0+c) (show (B:Int)≠0 by omega)
  have hm2:=Int.emod_lt_of_pos (o.getD (i+k) 0+x*b.getD k 0+c) (show 0<(B:Int) by omega)
  have hd:=Int.emod_add_mul_ediv (o.getD (i+k) 0+x*b.getD k 0+c) B
  have hd0:0≤(o.getD (i+k) 0+x*b.getD k 0+c)/B:=Int.ediv_nonneg (by omega) (by omega)
  have hd1:(o.getD (i+k) 0+x*b.getD k 0+c)/B<B:=Int.ediv_lt_of_lt_mul (by omega) (by omega)
  generalize (o.getD (i+k) 0+x*b.getD k 0+c)%B=m at hm hm2 hd ⊢
  generalize (o.getD (i+k) 0+x*b.getD k 0+c)/B=d at hd hd0 hd1 ⊢
  refine ⟨by rw[List.length_set,h1],sS h2 _ ⟨hm,hm2⟩,⟨hd0,hd1⟩,?_,fun j hj=>?_,fun j hj=>?_⟩
  ·rw[rL _ _ _ (by omega),valN,← Nat.add_assoc,Int.pow_succ]
   have e1:x*(valN B b k+(B:Int)^k*b.getD k 0)=x*valN B b k+(B:Int)^k*(x*b.getD k 0):=by
    rw[Int.mul_add,← Int.mul_assoc,← Int.mul_assoc,Int.mul_comm x ((B:Int)^k)]
   have e2:(B:Int)^i*((B:Int)^k*(x*b.getD k 0))=(B:Int)^ (i+k)*(x*b.getD k 0):=by rw[← Int.mul_assoc,Int.pow_add]
   rw[e1,Int.mul_add,e2,Int.mul_assoc]
   have e3:(B:Int)^ (i+k)*(m-o.getD (i+k) 0)+(B:Int)^ (i+k)*((B:Int)*d)=(B:Int)^ (i+k)*(x*b.getD k 0)+(B:Int)^ (i+k)*c:=by
    rw[← Int.mul_add,← Int.mul_add]
    congr 1
    omega
   omega
  ·rw[eC _ _ _ (by omega),if_neg (by omega),h5 j (by omega)]
  ·rw[eC _ _ _ (by omega),if_neg (by omega),h6 j hj]
theorem aFg {B:Nat} (hB:2≤B) {x:Int} (hx:0≤x∧x<B) {b:List Int} (hb:InB B b) {i:Nat} {out:List Int} (ho:InB B out) (hl:i+b.length+1≤out.length) (hz:out.getD (i+b.length) 0=0):
  (mulK B x b i out (b.length+1)).2=0∧valB B (mulK B x b i out (b.length+1)).1=valB B out+(B:Int)^i*(x*valB B b):=by
 obtain ⟨h1,h2,h3,h4,h5,h6⟩:=gQ hB hx hb (i:=i) ho b.length (by omega)
 obtain ⟨g1,g2,g3,g4,g5,g6⟩:=gQ hB hx hb (i:=i) ho (b.length+1) (by omega)
 have hc:(mulK B x b i out (b.length+1)).2=0:=by
  simp only[mulK]
  rw[h5 _ (Nat.le_refl _),hz,dM b b.length (Nat.le_refl _),Int.mul_zero,Int.zero_add,Int.zero_add]
  exact Int.ediv_eq_zero_of_lt h3.1 h3.2
 rw[hc,Int.mul_zero,Int.add_zero,fW _ _ _ (by omega)] at g4
 exact ⟨hc,g4⟩
theorem oM {B:Nat} (hB:2≤B) {a b:List Int} (ha:InB B a) (hb:InB B b) {n:Nat} (hn:a.length+b.length+1≤n):∀i,i≤a.length→(mulR B a b (List.replicate n 0) i).length=n∧InB B (mulR B a b (List.replicate n 0) i)∧
  valB B (mulR B a b (List.replicate n 0) i)=valN B a i*valB B b∧∀j,i+b.length≤j→(mulR B a b (List.replicate n 0) i).getD j 0=0
 | 0,_=>by
  refine ⟨by simp[mulR],fun x hx=>?_,by simp[mulR,kT,valN],fun j hj=>?_⟩
  ·rw[(List.mem_replicate.1 hx).2];omega
  ·simp only[mulR];rw[List.getD_eq_getElem?_getD,List.getElem?_replicate];split<;>rfl
 | i+1,hi=>by
  obtain ⟨h1,h2,h3,h4⟩:=oM hB ha hb hn i (by omega)
  have hx:=ha.get (show i<a.length by omega)
  simp only[mulR]
  generalize mulR B a b (List.replicate n 0) i=o at h1 h2 h3 h4 ⊢
  obtain ⟨g1,g2,g3,g4,g5,g6⟩:=gQ hB hx hb (i:=i) h2 (b.length+1) (by omega)
  obtain ⟨r1,r2⟩:=aFg hB hx hb (i:=i) h2 (by omega) (h4 _ (Nat.le_refl _))
  refine ⟨by rw[g1,h1],g2,?_,fun j hj=>by rw[g5 j (by omega)];exact h4 j (by omega)⟩
  rw[r2,h3,valN,Int.add_mul,Int.mul_assoc]
theorem aFh {B:Nat} (hB:2≤B) {a b:List Int} (ha:InB B a) (hb:InB B b) {n:Nat} (hn:a.length+b.length+1≤n):bQ (mulR B a b (List.replicate n 0) a.length)=aA B (valB B a*valB B b).toNat:=by
 obtain ⟨h1,h2,h3,h4⟩:=oM hB ha hb hn a.length (Nat.le_refl _)
 rw[cH hB h2,h3,fW _ _ _ (Nat.le_refl _)]
end IB
end
section
namespace IB
def divK (B:Nat) (d:Int) (a:List Int):Nat→List Int × Int
 | 0=>(List.replicate a.length 0,0)
 | m+1=>((divK B d a m).1.set (a.length-1-m) ((a.getD (a.length-1-m) 0+(divK B d a m).2*B)/d),(a.getD (a.length-1-m) 0+(divK B d a m).2*B)%d)
theorem bB (l:List Int) (i:Nat) (h:i<l.length):l.drop i=l.getD i 0::l.drop (i+1):=by
 rw[List.drop_eq_getElem_cons h]
 congr 1
 simp[List.getD_eq_getElem?_getD,h]
theorem iW {B:Nat} (hB:2≤B) {d:Int} (hd:0<d) {a:List Int} (ha:InB B a):∀m,m≤a.length→(divK B d a m).1.length=a.length∧InB B (divK B d a m).1∧(0≤(divK B d a m).2∧(divK B d a m).2<d)∧
  valB B ((divK B d a m).1.drop (a.length-m))*d+(divK B d a m).2=valB B (a.drop (a.length-m))
 | 0,_=>by
  refine ⟨by simp[divK],fun x hx=>?_,by simp only[divK];omega,?_⟩
  ·rw[(List.mem_replicate.1 hx).2];omega
  ·simp only[divK]
   rw[List.drop_eq_nil_of_le (by simp),List.drop_eq_nil_of_le (by omega)];simp[valB]
 | m+1,hm=>by
  obtain ⟨h1,h2,h3,h4⟩:=iW hB hd ha m (by omega)
  obtain ⟨i,hi⟩:∃i,a.length-1-m=i:=⟨_,rfl⟩
  have e1:a.length-m=i+1:=by omega
  have e2:a.length-(m+1)=i:=by omega
  have g1:=ha.get (show i<a.length by omega)
  simp only[divK]
  rw[hi,e2]
  rw[e1] at h4
  generalize (divK B d a m).1=q at h1 h2 h4 ⊢
  generalize (divK B d a m).2=r at h3 h4 ⊢
  have hn0:0≤r*B:=Int.mul_nonneg h3.1 (by omega)
  have hn1:r*B≤(d-1)*B:=Int.mul_le_mul_of_nonneg_right (by omega) (by omega)
  rw[Int.sub_mul,Int.one_mul] at hn1
  have hm0:=Int.emod_nonneg (a.getD i 0+r*B) (show d≠0 by omega)
  have hm1:=Int.emod_lt_of_pos (a.getD i 0+r*B) hd
  have hdv:=Int.emod_add_mul_ediv (a.getD i 0+r*B) d
  have hq0:0≤(a.getD i 0+r*B)/d:=Int.ediv_nonneg (by omega) (by omega)
  have hq1:(a.getD i 0+r*B)/d<B:=Int.ediv_lt_of_lt_mul hd (by rw[Int.mul_comm (B:Int) d];omega)
  generalize (a.getD i 0+r*B)/d=y at hdv hq0 hq1 ⊢
  generalize (a.getD i 0+r*B)%d=z at hdv hm0 hm1 ⊢
  refine ⟨by rw[List.length_set,h1],sS h2 _ ⟨hq0,hq1⟩,⟨hm0,hm1⟩,?_⟩
  have e3:(q.set i y).drop i=y::q.drop (i+1):=by
   rw[bB _ _ (by rw[List.length_set];omega),eC _ _ _ (by omega),if_pos rfl,List.drop_set_of_lt (by omega)]
  rw[e3,bB a i (by omega)]
  simp only[valB]
  rw[← h4,Int.add_mul,Int.mul_add,Int.mul_assoc,Int.mul_comm y d,Int.mul_comm (B:Int) r]
  omega
theorem aFi {B:Nat} (hB:2≤B) {d:Int} (hd:0<d) (hdB:d<B) {a:List Int} (ha:InB B a):
  bQ (divK B d a a.length).1=aA B (valB B a/d).toNat∧(divK B d a a.length).2=valB B a%d∧bQ [(divK B d a a.length).2]=aA B (valB B a%d).toNat:=by
 obtain ⟨h1,h2,h3,h4⟩:=iW hB hd ha a.length (Nat.le_refl _)
 rw[Nat.sub_self,List.drop_zero,List.drop_zero] at h4
 have h5:valB B a/d=valB B (divK B d a a.length).1∧valB B a%d=(divK B d a a.length).2:=by
  rw[Int.ediv_emod_unique hd]
  exact ⟨by rw[Int.add_comm,Int.mul_comm];exact h4,h3.1,h3.2⟩
 refine ⟨by rw[cH hB h2,h5.1],h5.2.symm,?_⟩
 rw[cH hB (InB.cons.2 ⟨⟨h3.1,by omega⟩,InB.nil⟩),h5.2]
 simp[valB]
theorem cU {B:Nat} (hB:2≤B) {n:Nat} (hn:0<n):(B:Int)^ ((aA B n).length-1)≤n∧(n:Int)<(B:Int)^ (aA B n).length∧0<(aA B n).length:=by
 have h1:=kA (aO hB n)
 have hne:aA B n≠ []:=fun e=>by have:=(gM hB).1 e;omega
 have hl:=mC hB n hne
 have hpos:0<(aA B n).length:=List.length_pos_iff.2 hne
 have h2:=cG hB n
 rw[h2] at h1
 refine ⟨?_,h1,hpos⟩
 have hin:=aO hB n
 rw[← List.dropLast_concat_getLast hne] at h2 hin
 obtain ⟨i1,i2⟩:=InB.append.1 hin
 obtain ⟨i3,_⟩:=InB.cons.1 i2
 rw[jJ,List.length_dropLast] at h2
 have h3:=aY i1
 have h4:(B:Int)^ ((aA B n).length-1)*1≤(B:Int)^ ((aA B n).length-1)*(aA B n).getLast hne:=Int.mul_le_mul_of_nonneg_left (by omega) (Int.le_of_lt (dB hB _))
 omega
theorem fP {B:Nat} (hB:2≤B) {m n:Nat} (h:(aA B m).length<(aA B n).length):m<n:=by
 have hn:0<n:=by
  rcases Nat.eq_zero_or_pos n with e | e
  ·subst e;rw[aX] at h;simp at h
  ·exact e
 obtain ⟨h1,h2,h3⟩:=cU hB hn
 rcases Nat.eq_zero_or_pos m with e | e
 ·omega
 ·obtain ⟨g1,g2,g3⟩:=cU hB e
  have:=cR hB (show (aA B m).length≤(aA B n).length-1 by omega)
  omega
theorem uY {B:Nat} (hB:2≤B) {a b:List Int} (ha:InB B a) (hb:InB B b) (hl:a.length=b.length) {i:Nat} (hi:i<a.length) (heq:∀j,i<j→j<a.length→a.getD j 0=b.getD j 0) (hlt:a.getD i 0<b.getD i 0):valB B a<valB B b:=by
 have e1:valB B a=valN B a i+(B:Int)^i*valB B (a.drop i):=by
  rw[iV B a i (by omega)]
  have:=fG (B:=B) (a.drop i) (a.take i)
  rw[List.take_append_drop,List.length_take,Nat.min_eq_left (by omega)] at this
  exact this
 have e2:valB B b=valN B b i+(B:Int)^i*valB B (b.drop i):=by
  rw[iV B b i (by omega)]
  have:=fG (B:=B) (b.drop i) (b.take i)
  rw[List.take_append_drop,List.length_take,Nat.min_eq_left (by omega)] at this
  exact this
 have e3:a.drop (i+1)=b.drop (i+1):=by
  refine List.ext_getElem (by simp[hl]) fun j h1 h2=>?_
  rw[List.getElem_drop,List.getElem_drop]
  rw[List.length_drop] at h1
  have:=heq (i+1+j) (by omega) (by omega)
  simpa [List.getD_eq_getElem?_getD,show i+1+j<a.length by omega,show i+1+j<b.length by omega] using this
 rw[bB a i hi] at e1
 rw[bB b i (by omega),← e3] at e2
 simp only[valB] at e1 e2
 have v1:valN B a i<(B:Int)^i:=by
  rw[iV B a i (by omega)]
  have:=kA (B:=B) (l:=a.take i) (fun x hx=>ha x (List.mem_of_mem_take hx))
  rwa [List.length_take,Nat.min_eq_left (by omega)] at this
 have v2:0≤valN B b i:=by
  rw[iV B b i (by omega)]
  exact aY (fun x hx=>hb x (List.mem_of_mem_take hx))
 have h1:(B:Int)^i*(a.getD i 0+1)≤(B:Int)^i*b.getD i 0:=Int.mul_le_mul_of_nonneg_left (by omega) (Int.le_of_lt (dB hB i))
 rw[Int.mul_add,Int.mul_one] at h1
 rw[Int.mul_add] at e1 e2
 omega
theorem gR {a b:List Int} (hl:a.length=b.length) (h:∀j,j<a.length→a.getD j 0=b.getD j 0):a=b:=by
 refine List.ext_getElem hl fun j h1 h2=>?_
 have:=h j h1
 simpa [List.getD_eq_getElem?_getD,h1,h2] using this
end IB
end
section
namespace IB
def bE (B:Nat) (u v:List Int) (j:Nat) (q:Int):Nat→List Int × Int
 | 0=>(u,0)
 | k+1=>
  let n:=(bE B u v j q k).1.getD (j+k) 0-(bE B u v j q k).2-q*v.getD k 0
  let c:=if n<0 then (-n+B-1)/B else 0
  ((bE B u v j q k).1.set (j+k) (n+c*B),c)
theorem gS {B:Nat} (hB:2≤B) {u v:List Int} (hu:InB B u) (hv:InB B v) {j:Nat} {q:Int} (hq:0≤q):∀k,j+k≤u.length→(bE B u v j q k).1.length=u.length∧InB B (bE B u v j q k).1∧
  (0≤(bE B u v j q k).2∧(bE B u v j q k).2≤q+1)∧valB B (bE B u v j q k).1-(B:Int)^ (j+k)*(bE B u v j q k).2=valB B u-(B:Int)^j*(q*valN B v k)∧
  (∀i,j+k≤i→(bE B u v j q k).1.getD i 0=u.getD i 0)∧∀i,i<j→(bE B u v j q k).1.getD i 0=u.getD i 0
 | 0,_=>⟨rfl,hu,by simp only[bE];omega,by simp[bE,valN],fun _ _=>rfl,fun _ _=>rfl⟩
 | k+1,hk=>by
  obtain ⟨h1,h2,h3,h4,h5,h6⟩:=gS hB hu hv (j:=j) hq k (by omega)
  have g1:=hv.getD0 (by omega) k
  have g2:=h2.getD0 (by omega) (j+k)
  simp only[bE]
  generalize (bE B u v j q k).1=o at h1 h2 h4 h5 h6 g2 ⊢
  generalize (bE B u v j q k).2=c at h3 h4 ⊢
  have hp0:0≤q*v.getD k 0:=Int.mul_nonneg hq g1.1
  have hp1:q*v.getD k 0≤q*((B:Int)-1):=Int.mul_le_mul_of_nonneg_left (by omega) hq
  rw[Int.mul_sub,Int.mul_one] at hp1
  obtain ⟨n,hn⟩:∃n,o.getD (j+k) 0-c-q*v.getD k 0=n:=⟨_,rfl⟩
  rw[hn]
  obtain ⟨d,hd⟩:∃d,(if n<0 then (-n+(B:Int)-1)/B else 0)=d:=⟨_,rfl⟩
  rw[hd]
  have hdd:0≤d∧d≤q+1∧0≤n+d*B∧n+d*B<B:=by
   by_cases hneg:n<0
   ·rw[if_pos hneg] at hd
    have e1:=Int.emod_add_mul_ediv (-n+(B:Int)-1) B
    have e2:=Int.emod_nonneg (-n+(B:Int)-1) (show (B:Int)≠0 by omega)
    have e3:=Int.emod_lt_of_pos (-n+(B:Int)-1) (show 0<(B:Int) by omega)
    have e4:0≤(-n+(B:Int)-1)/B:=Int.ediv_nonneg (by omega) (by omega)
    have e5:(-n+(B:Int)-1)/B<q+2:=Int.ediv_lt_of_lt_mul (by omega) (by rw[Int.add_mul];omega)
    rw[hd] at e1 e4 e5
    rw[Int.mul_comm] at e1
    exact ⟨e4,by omega,by omega,by omega⟩
   ·rw[if_neg hneg] at hd
    subst hd
    rw[Int.zero_mul]
    omega
  refine ⟨by rw[List.length_set,h1],sS h2 _ hdd.2.2,⟨hdd.1,hdd.2.1⟩,?_,fun i hi=>?_,fun i hi=>?_⟩
  ·rw[rL _ _ _ (by omega),valN,← Nat.add_assoc,Int.pow_succ]
   have e1:q*(valN B v k+(B:Int)^k*v.getD k 0)=q*valN B v k+(B:Int)^k*(q*v.getD k 0):=by
    rw[Int.mul_add,← Int.mul_assoc,← Int.mul_assoc,Int.mul_comm q ((B:Int)^k)]
   have e2:(B:Int)^j*((B:Int)^k*(q*v.getD k 0))=(B:Int)^ (j+k)*(q*v.getD k 0):=by rw[← Int.mul_assoc,Int.pow_add]
   rw[e1,Int.mul_add,e2,Int.mul_assoc]
   have e3:(B:Int)^ (j+k)*(n+d*B-o.getD (j+k) 0)-(B:Int)^ (j+k)*((B:Int)*d)= -((B:Int)^ (j+k)*(q*v.getD k 0))-(B:Int)^ (j+k)*c:=by
    rw[← Int.mul_sub,← Int.mul_neg,← Int.mul_sub]
    congr 1
    rw[Int.mul_comm d]
    omega
   omega
  ·rw[eC _ _ _ (by omega),if_neg (by omega),h5 i (by omega)]
  ·rw[eC _ _ _ (by omega),if_neg (by omega),h6 i hi]
theorem aI0 {B:Nat} (hB:2≤B):∀ {a b:List Int},InB B a→InB B b→a.length=b.length→valB B a=valB B b→a=b
 | [],[],_,_,_,_=>rfl
 | x::r,y::s,ha,hb,hl,hv=>by
  obtain ⟨a1,a2⟩:=InB.cons.1 ha
  obtain ⟨b1,b2⟩:=InB.cons.1 hb
  simp only[valB] at hv
  have e1:x=y:=by
   have h1:(x+(B:Int)*valB B r)%B=x:=by rw[Int.add_mul_emod_self_left,Int.emod_eq_of_lt a1.1 a1.2]
   have h2:(y+(B:Int)*valB B s)%B=y:=by rw[Int.add_mul_emod_self_left,Int.emod_eq_of_lt b1.1 b1.2]
   rw[← h1,← h2,hv]
  subst e1
  have e2:valB B r=valB B s:=by
   have:(B:Int)*valB B r=B*valB B s:=by omega
   exact Int.eq_of_mul_eq_mul_left (by omega) this
  rw[aI0 hB a2 b2 (by simpa using hl) e2]
 | [],_:: _,_,_,hl,_=>by simp at hl
 | _:: _,[],_,_,hl,_=>by simp at hl
theorem aKf {B V W v1 top P Q:Int} (hP:0<P) (hv1:0<v1) (hV:v1*P≤V) (hW:W<(top+1)*P) (hQ0:0≤Q) (hQ:Q*V≤W):Q≤top/v1:=by
 rw[Int.le_ediv_iff_mul_le hv1]
 have h1:Q*(v1*P)≤Q*V:=Int.mul_le_mul_of_nonneg_left hV hQ0
 rw[← Int.mul_assoc] at h1
 have h2:(Q*v1)*P<(top+1)*P:=by omega
 have:=Int.lt_of_mul_lt_mul_right h2 (Int.le_of_lt hP)
 omega
theorem aMf {B V W v1 v2 u2 top q r P Q:Int} (hP:0<P) (hq:0≤q) (hB:0≤B) (hV:(v1*B+v2)*P≤V) (hV0:0≤V) (hW:W<(top*B+u2+1)*P) (htop:top=q*v1+r) (hbig:r*B+u2<q*v2) (hQ:Q*V≤W):Q≤q-1:=by
 apply Classical.byContradiction
 intro hn
 have hle:q≤Q:=by omega
 have h1:q*V≤Q*V:=Int.mul_le_mul_of_nonneg_right hle hV0
 have h2:q*((v1*B+v2)*P)≤q*V:=Int.mul_le_mul_of_nonneg_left hV hq
 rw[← Int.mul_assoc] at h2
 have h3:(q*(v1*B+v2))*P<(top*B+u2+1)*P:=by omega
 have h4:=Int.lt_of_mul_lt_mul_right h3 (Int.le_of_lt hP)
 rw[Int.mul_add,← Int.mul_assoc,htop,Int.add_mul] at h4
 omega
end IB
end
section
namespace IB
theorem sT {B:Nat} (hB:2≤B) {x:Int} (hx:0≤x) {b:List Int} (hb:InB B b) {i:Nat} {out:List Int} (ho:InB B out):∀k,i+k≤out.length→(mulK B x b i out k).1.length=out.length∧InB B (mulK B x b i out k).1∧
  (0≤(mulK B x b i out k).2∧(mulK B x b i out k).2≤x)∧valB B (mulK B x b i out k).1+(B:Int)^ (i+k)*(mulK B x b i out k).2=valB B out+(B:Int)^i*(x*valN B b k)∧
  (∀j,i+k≤j→(mulK B x b i out k).1.getD j 0=out.getD j 0)∧∀j,j<i→(mulK B x b i out k).1.getD j 0=out.getD j 0
 | 0,_=>⟨rfl,ho,by simp only[mulK];omega,by simp[mulK,valN],fun _ _=>rfl,fun _ _=>rfl⟩
 | k+1,hk=>by
  obtain ⟨h1,h2,h3,h4,h5,h6⟩:=sT hB hx hb (i:=i) ho k (by omega)
  have g1:=hb.getD0 (by omega) k
  have g2:=h2.getD0 (by omega) (i+k)
  simp only[mulK]
  generalize (mulK B x b i out k).1=o at h1 h2 h4 h5 h6 g2 ⊢
  generalize (mulK B x b i out k).2=c at h3 h4 ⊢
  have hp0:0≤x*b.getD k 0:=Int.mul_nonneg hx g1.1
  have hp1:x*b.getD k 0≤x*((B:Int)-1):=Int.mul_le_mul_of_nonneg_left (by omega) hx
  rw[Int.mul_sub,Int.mul_one] at hp1
  have hm:=Int.emod_nonneg (o.getD (i+k) 0+x*b.getD k 0+c) (show (B:Int)≠0 by omega)
  have hm2:=Int.emod_lt_of_pos (o.getD (i+k) 0+x*b.getD k 0+c) (show 0<(B:Int) by omega)
  have hd:=Int.emod_add_mul_ediv (o.getD (i+k) 0+x*b.getD k 0+c) B
  have hd0:0≤(o.getD (i+k) 0+x*b.getD k 0+c)/B:=Int.ediv_nonneg (by omega) (by omega)
  have hd1:(o.getD (i+k) 0+x*b.getD k 0+c)/B<x+1:=Int.ediv_lt_of_lt_mul (by omega) (by rw[Int.add_mul];omega)
  generalize (o.getD (i+k) 0+x*b.getD k 0+c)%B=m at hm hm2 hd ⊢
  generalize (o.getD (i+k) 0+x*b.getD k 0+c)/B=d at hd hd0 hd1 ⊢
  refine ⟨by rw[List.length_set,h1],sS h2 _ ⟨hm,hm2⟩,⟨hd0,by omega⟩,?_,fun j hj=>?_,fun j hj=>?_⟩
  ·rw[rL _ _ _ (by omega),valN,← Nat.add_assoc,Int.pow_succ]
   have e1:x*(valN B b k+(B:Int)^k*b.getD k 0)=x*valN B b k+(B:Int)^k*(x*b.getD k 0):=by
    rw[Int.mul_add,← Int.mul_assoc,← Int.mul_assoc,Int.mul_comm x ((B:Int)^k)]
   have e2:(B:Int)^i*((B:Int)^k*(x*b.getD k 0))=(B:Int)^ (i+k)*(x*b.getD k 0):=by rw[← Int.mul_assoc,Int.pow_add]
   rw[e1,Int.mul_add,e2,Int.mul_assoc]
   have e3:(B:Int)^ (i+k)*(m-o.getD (i+k) 0)+(B:Int)^ (i+k)*((B:Int)*d)=(B:Int)^ (i+k)*(x*b.getD k 0)+(B:Int)^ (i+k)*c:=by
    rw[← Int.mul_add,← Int.mul_add]
    congr 1
    omega
   omega
  ·rw[eC _ _ _ (by omega),if_neg (by omega),h5 j (by omega)]
  ·rw[eC _ _ _ (by omega),if_neg (by omega),h6 j hj]
theorem aG6 {B:Nat} (hB:2≤B) {u v:List Int} (hu:InB B u) (hv:InB B v) {j:Nat} {q:Int} (hq:0≤q) {k:Nat} (hk:j+k≤u.length):(mulK B q v j (bE B u v j q k).1 k).1=u:=by
 obtain ⟨h1,h2,h3,h4,h5,h6⟩:=gS hB hu hv (j:=j) hq k hk
 generalize (bE B u v j q k).2=c at h3 h4
 obtain ⟨g1,g2,g3,g4,g5,g6⟩:=sT hB hq hv (i:=j) h2 k (by omega)
 generalize (mulK B q v j (bE B u v j q k).1 k).2=c' at g3 g4
 generalize (mulK B q v j (bE B u v j q k).1 k).1=w at g1 g2 g4 g5 g6 ⊢
 generalize (bE B u v j q k).1=u1 at h1 h2 h4 h5 h6 g1 g4 g5 g6
 -- outside the window nothing has changed; within it the values agree but for a multiple
 have e0:valB B w+(B:Int)^ (j+k)*c'=valB B u+(B:Int)^ (j+k)*c:=by omega
 have sp:∀l:List Int,l.length=u.length→valB B l=valB B (l.take (j+k))+(B:Int)^ (j+k)*valB B (l.drop (j+k)):=fun l hl=>by
  have:=fG (B:=B) (l.drop (j+k)) (l.take (j+k))
  rw[List.take_append_drop,List.length_take,Nat.min_eq_left (by omega)] at this
  exact this
 have ed:w.drop (j+k)=u.drop (j+k):=by
  refine gR (by simp[g1,h1]) fun i hi=>?_
  have:=g5 (j+k+i) (by omega)
  rw[h5 _ (by omega)] at this
  simpa [List.getD_eq_getElem?_getD,List.getElem?_drop] using this
 have s1:=sp w (by omega)
 have s2:=sp u rfl
 rw[ed] at s1
 have b1:=kA (B:=B) (l:=w.take (j+k)) (fun x hx=>g2 x (List.mem_of_mem_take hx))
 have b2:=kA (B:=B) (l:=u.take (j+k)) (fun x hx=>hu x (List.mem_of_mem_take hx))
 have b3:=aY (B:=B) (l:=w.take (j+k)) (fun x hx=>g2 x (List.mem_of_mem_take hx))
 have b4:=aY (B:=B) (l:=u.take (j+k)) (fun x hx=>hu x (List.mem_of_mem_take hx))
 rw[List.length_take,Nat.min_eq_left (by omega)] at b1 b2
 have hP:=dB hB (j+k)
 have ec:c'=c:=by
  rcases Int.lt_trichotomy c' c with h | h | h
  ·have:(B:Int)^ (j+k)*(c'+1)≤(B:Int)^ (j+k)*c:=Int.mul_le_mul_of_nonneg_left (by omega) (Int.le_of_lt hP)
   rw[Int.mul_add,Int.mul_one] at this
   omega
  ·exact h
  ·have:(B:Int)^ (j+k)*(c+1)≤(B:Int)^ (j+k)*c':=Int.mul_le_mul_of_nonneg_left (by omega) (Int.le_of_lt hP)
   rw[Int.mul_add,Int.mul_one] at this
   omega
 subst ec
 exact aI0 hB g2 hu (by omega) (by omega)
end IB
end
section
namespace IB
theorem dS {B:Nat} (l:List Int) (j:Nat) (hj:j≤l.length):valB B l=valB B (l.take j)+(B:Int)^j*valB B (l.drop j):=by
 have:=fG (B:=B) (l.drop j) (l.take j)
 rw[List.take_append_drop,List.length_take,Nat.min_eq_left hj] at this
 exact this
theorem iO {B:Nat} {l:List Int} (h:InB B l) (j:Nat):InB B (l.take j):=fun x hx=>h x (List.mem_of_mem_take hx)
theorem eW {B:Nat} {l:List Int} (h:InB B l) (j:Nat):InB B (l.drop j):=fun x hx=>h x (List.mem_of_mem_drop hx)
theorem aA5 {B:Nat} (hB:2≤B) {l:List Int} (h:InB B l) {n:Nat} (hv:valB B l<(B:Int)^n) (i:Nat) (hi:n≤i):l.getD i 0=0:=by
 by_cases hil:i<l.length
 ·have e1:=dS (B:=B) l i (by omega)
  rw[bB l i hil] at e1
  simp only[valB] at e1
  have a1:=aY (iO h i)
  have a2:=aY (eW h (i+1))
  have a3:=(h.get hil).1
  have a4:0≤(B:Int)*valB B (l.drop (i+1)):=Int.mul_nonneg (by omega) a2
  have hp:=cR hB hi
  apply Classical.byContradiction
  intro hne
  have:(B:Int)^i*1≤(B:Int)^i*(l.getD i 0+(B:Int)*valB B (l.drop (i+1))):=Int.mul_le_mul_of_nonneg_left (by omega) (Int.le_of_lt (dB hB i))
  omega
 ·exact dM l i (by omega)
theorem aI1 {B:Nat} (hB:2≤B) {l:List Int} (h:InB B l) {n:Nat} (hz:∀i,n≤i→l.getD i 0=0):valB B l<(B:Int)^n:=by
 by_cases hn:n≤l.length
 ·have e1:=dS (B:=B) l n hn
  have e2:valB B (l.drop n)=0:=by
   have:l.drop n=List.replicate (l.length-n) 0:=by
    refine gR (by simp) fun j hj=>?_
    have:=hz (n+j) (by omega)
    rw[List.length_drop] at hj
    have hj':n+j<l.length:=by omega
    simpa [List.getD_eq_getElem?_getD,List.getElem?_drop,List.getElem?_replicate,hj,hj'] using this
   rw[this,kT]
  rw[e2,Int.mul_zero,Int.add_zero] at e1
  rw[e1]
  have:=kA (iO h n)
  rwa [List.length_take,Nat.min_eq_left hn] at this
 ·exact gP hB h (by omega)
theorem rM (l:List Int) (j i:Nat):(l.drop j).getD i 0=l.getD (j+i) 0:=by simp[List.getD_eq_getElem?_getD,List.getElem?_drop]
theorem aFj {B:Nat} (hB:2≤B) {u v:List Int} (hu:InB B u) (hv:InB B v) {j:Nat} {q:Int} (hq:0≤q) (hk:j+(v.length+1)≤u.length) (hz:∀i,j+(v.length+1)≤i→u.getD i 0=0):
  ((bE B u v j q (v.length+1)).2=0↔q*valB B v≤valB B (u.drop j))∧
  ((bE B u v j q (v.length+1)).2=0→valB B ((bE B u v j q (v.length+1)).1.drop j)=valB B (u.drop j)-q*valB B v):=by
 obtain ⟨h1,h2,h3,h4,h5,h6⟩:=gS hB hu hv (j:=j) hq (v.length+1) hk
 rw[fW _ _ _ (by omega)] at h4
 generalize (bE B u v j q (v.length+1)).2=c at h3 h4 ⊢
 generalize (bE B u v j q (v.length+1)).1=w at h1 h2 h4 h5 h6 ⊢
 have s1:=dS (B:=B) w j (by omega)
 have s2:=dS (B:=B) u j (by omega)
 have et:w.take j=u.take j:=by
  refine gR (by simp[h1]) fun i hi=>?_
  rw[List.length_take] at hi
  have:=h6 i (by omega)
  simpa [List.getD_eq_getElem?_getD,show i<j by omega,List.getElem?_take] using this
 rw[et] at s1
 have hP:=dB hB j
 have key:valB B (w.drop j)-(B:Int)^ (v.length+1)*c=valB B (u.drop j)-q*valB B v:=by
  have e:(B:Int)^j*(valB B (w.drop j)-(B:Int)^ (v.length+1)*c)=(B:Int)^j*(valB B (u.drop j)-q*valB B v):=by
   rw[Int.mul_sub,Int.mul_sub,← Int.mul_assoc,← Int.pow_add]
   omega
  exact Int.eq_of_mul_eq_mul_left (by omega) e
 have b1:=aY (eW h2 j)
 have b2:valB B (w.drop j)<(B:Int)^ (v.length+1):=aI1 hB (eW h2 j) fun i hi=>by
  rw[rM,h5 _ (by omega),hz _ (by omega)]
 have hP2:=dB hB (v.length+1)
 refine ⟨⟨fun hc=>?_,fun hle=>?_⟩,fun hc=>?_⟩
 ·rw[hc,Int.mul_zero] at key;omega
 ·apply Classical.byContradiction
  intro hne
  have:(B:Int)^ (v.length+1)*1≤(B:Int)^ (v.length+1)*c:=Int.mul_le_mul_of_nonneg_left (by omega) (Int.le_of_lt hP2)
  omega
 ·rw[hc,Int.mul_zero] at key;omega
def bR (B:Nat) (u v:List Int) (m:Nat):Nat→List Int × List Int
 | 0=>(u,List.replicate m 0)
 | s+1=>((bE B (bR B u v m s).1 v (m-1-s) (valB B ((bR B u v m s).1.drop (m-1-s))/valB B v) (v.length+1)).1,(bR B u v m s).2.set (m-1-s) (valB B ((bR B u v m s).1.drop (m-1-s))/valB B v))
theorem mD {B:Nat} (hB:2≤B) {u v:List Int} (hu:InB B u) (hv:InB B v) (hV:0<valB B v) {m:Nat} (hm:m+v.length=u.length) (h0:valB B (u.drop m)<valB B v):∀s,s≤m→
  (bR B u v m s).1.length=u.length∧InB B (bR B u v m s).1∧(bR B u v m s).2.length=m∧InB B (bR B u v m s).2∧valB B ((bR B u v m s).1.drop (m-s))<valB B v∧
  valB B u=valB B (bR B u v m s).1+(B:Int)^ (m-s)*(valB B v*valB B ((bR B u v m s).2.drop (m-s)))
 | 0,_=>by
  refine ⟨rfl,hu,by simp[bR],fun x hx=>?_,h0,?_⟩
  ·rw[(List.mem_replicate.1 hx).2];omega
  ·simp only[bR]
   rw[@List.drop_eq_nil_of_le _ (List.replicate m (0:Int)) _ (by simp)];simp[valB]
 | s+1,hs=>by
  obtain ⟨h1,h2,h3,h4,h5,h6⟩:=mD hB hu hv hV hm h0 s (by omega)
  obtain ⟨j,hj⟩:∃j,m-1-s=j:=⟨_,rfl⟩
  have e1:m-s=j+1:=by omega
  have e2:m-(s+1)=j:=by omega
  simp only[bR]
  rw[hj,e2]
  rw[e1] at h5 h6
  generalize (bR B u v m s).1=w at h1 h2 h5 h6 ⊢
  generalize (bR B u v m s).2=p at h3 h4 h6 ⊢
  have hw:valB B (w.drop j)=w.getD j 0+(B:Int)*valB B (w.drop (j+1)):=by rw[bB w j (by omega)];rfl
  have g1:=h2.get (show j<w.length by omega)
  have hVB:=kA hv
  have hz:∀i,j+(v.length+1)≤i→w.getD i 0=0:=fun i hi=>by
   have:=aA5 hB (eW h2 (j+1)) (n:=v.length) (by omega) (i-(j+1)) (by omega)
   rw[rM] at this
   rwa [show j+1+(i-(j+1))=i by omega] at this
  have hW0:=aY (eW h2 j)
  obtain ⟨W,hW⟩:∃W,valB B (w.drop j)=W:=⟨_,rfl⟩
  obtain ⟨Q,hQ⟩:∃Q,W/valB B v=Q:=⟨_,rfl⟩
  have hQ0:0≤Q:=by rw[← hQ];exact Int.ediv_nonneg (by omega) (by omega)
  have hQV:Q*valB B v≤W:=by rw[← hQ];exact Int.ediv_mul_le _ (by omega)
  have hWB:W<(B:Int)*valB B v:=by
   have:(B:Int)*(valB B (w.drop (j+1))+1)≤B*valB B v:=Int.mul_le_mul_of_nonneg_left (by omega) (by omega)
   rw[Int.mul_add,Int.mul_one] at this
   omega
  have hQB:Q<B:=by rw[← hQ];exact Int.ediv_lt_of_lt_mul hV hWB
  have hWm:=Int.emod_add_mul_ediv W (valB B v)
  have hWm0:=Int.emod_lt_of_pos W hV
  rw[hQ,Int.mul_comm] at hWm
  rw[hW,hQ]
  obtain ⟨t1,t2,t3,t4,t5,t6⟩:=gS hB h2 hv (j:=j) hQ0 (v.length+1) (by omega)
  obtain ⟨i1,i2⟩:=aFj hB h2 hv (j:=j) hQ0 (by omega) hz
  rw[hW] at i1 i2
  have hc:=i1.2 hQV
  have hr:=i2 hc
  rw[hc,Int.mul_zero,Int.sub_zero,fW _ _ _ (by omega)] at t4
  refine ⟨by rw[t1,h1],t2,by rw[List.length_set,h3],sS h4 _ ⟨hQ0,hQB⟩,by omega,?_⟩
  have e3:(p.set j Q).drop j=Q::p.drop (j+1):=by
   rw[bB _ _ (by rw[List.length_set];omega),eC _ _ _ (by omega),if_pos rfl,List.drop_set_of_lt (by omega)]
  rw[e3,h6,t4]
  simp only[valB]
  rw[Int.mul_add (valB B v),Int.mul_add,Int.pow_succ,Int.mul_comm (valB B v) Q,Int.mul_assoc ((B:Int)^j) (B:Int),Int.mul_left_comm (valB B v) (B:Int)]
  omega
theorem aKg {B:Nat} (hB:2≤B) {u v:List Int} (hu:InB B u) (hv:InB B v) (hV:0<valB B v) {m:Nat} (hm:m+v.length=u.length) (h0:valB B (u.drop m)<valB B v):
  bQ (bR B u v m m).2=aA B (valB B u/valB B v).toNat∧bQ (bR B u v m m).1=aA B (valB B u%valB B v).toNat:=by
 obtain ⟨h1,h2,h3,h4,h5,h6⟩:=mD hB hu hv hV hm h0 m (Nat.le_refl _)
 rw[Nat.sub_self,List.drop_zero] at h5 h6
 rw[Int.pow_zero,Int.one_mul] at h6
 have h7:valB B u/valB B v=valB B (bR B u v m m).2∧valB B u%valB B v=valB B (bR B u v m m).1:=by
  rw[Int.ediv_emod_unique hV]
  exact ⟨h6.symm,aY h2,h5⟩
 exact ⟨by rw[cH hB h4,h7.1],by rw[cH hB h2,h7.2]⟩
end IB
end
section
namespace IB
def estF (B v1 v2 u2:Int):Nat→Int→Int→Int
 | 0,q,_=>q
 | f+1,q,r=>if B≤q∨(r<B∧r*B+u2<q*v2) then (if B≤r+v1 then q-1 else estF B v1 v2 u2 f (q-1) (r+v1)) else q
theorem aI2 {B V W v1 v2 u2 top P Q:Int} (hP:0<P) (hB:0≤B) (hV:(v1*B+v2)*P≤V) (hV0:0≤V) (hW:W<(top*B+u2+1)*P) (hQB:Q<B) (hQ0:0≤Q) (hQ:Q*V≤W):∀(f:Nat) (q r:Int),top=q*v1+r→Q≤q→Q≤estF B v1 v2 u2 f q r∧estF B v1 v2 u2 f q r≤q
 | 0,q,r,_,hq=>⟨hq,Int.le_refl _⟩
 | f+1,q,r,ht,hq=>by
  simp only[estF]
  by_cases hc:B≤q∨(r<B∧r*B+u2<q*v2)
  ·rw[if_pos hc]
   have hq1:Q≤q-1:=by
    rcases hc with h | ⟨_,h⟩
    ·omega
    ·exact aMf hP (by omega) hB hV hV0 hW ht h hQ
   by_cases h2:B≤r+v1
   ·rw[if_pos h2];exact ⟨hq1,by omega⟩
   ·rw[if_neg h2]
    obtain ⟨g1,g2⟩:=aI2 hP hB hV hV0 hW hQB hQ0 hQ f (q-1) (r+v1) (by rw[Int.sub_mul,Int.one_mul];omega) hq1
    exact ⟨g1,by omega⟩
  ·rw[if_neg hc];exact ⟨hq,Int.le_refl _⟩
theorem aOq {V R t3 top P:Int} (hP:0<P) (ht:0≤top) (hV:V≤(top+1)*P) (hV0:0<V) (hR:t3*P≤R) (h0:0≤t3):0≤t3/(top+1)∧t3/(top+1)≤R/V:=by
 have h1:0≤t3/(top+1):=Int.ediv_nonneg h0 (by omega)
 refine ⟨h1,?_⟩
 rw[Int.le_ediv_iff_mul_le hV0]
 have h2:t3/(top+1)*(top+1)≤t3:=Int.ediv_mul_le _ (by omega)
 have h3:t3/(top+1)*V≤t3/(top+1)*((top+1)*P):=Int.mul_le_mul_of_nonneg_left hV h1
 rw[← Int.mul_assoc] at h3
 have h4:t3/(top+1)*(top+1)*P≤t3*P:=Int.mul_le_mul_of_nonneg_right h2 (Int.le_of_lt hP)
 omega
theorem aG7 {B t f:Int} (ht:1≤t) (htB:t<B) (hf:f=B/(t+1)):1≤f∧f*(t+1)≤B∧B≤4*(f*t):=by
 have h1:f*(t+1)≤B:=by rw[hf];exact Int.ediv_mul_le _ (by omega)
 have h2:B<(f+1)*(t+1):=by rw[hf];exact Int.lt_ediv_add_one_mul_self _ (by omega)
 have h3:1≤f:=by rw[hf,Int.le_ediv_iff_mul_le (by omega)];omega
 refine ⟨h3,h1,?_⟩
 rw[Int.mul_add,Int.mul_one] at h1
 rw[Int.add_mul,Int.one_mul,Int.mul_add,Int.mul_one] at h2
 -- B < f t + f + t + 1 and f, t >= 1, so that f + t <= f t + 1
 have h4:0≤(f-1)*(t-1):=Int.mul_nonneg (by omega) (by omega)
 rw[Int.sub_mul,Int.mul_sub,Int.mul_one,Int.one_mul] at h4
 have h5:1*1≤f*t:=Int.mul_le_mul h3 ht (by omega) (by omega)
 omega
end IB
end
section
namespace IB
open Go.Lib
def aR (c:UInt8):Prop:=48≤c.toNat∧c.toNat≤57
instance (c:UInt8):Decidable (aR c):=by unfold aR;exact inferInstance
def aC (s:List UInt8):Nat:=s.foldl (fun n c=>10*n+(c.toNat-48)) 0
theorem cS (s:List UInt8) (c:UInt8):aC (s++ [c])=10*aC s+(c.toNat-48):=by simp[aC]
theorem dE {d:Nat} (h:d<10):(UInt8.ofNat (48+d)).toNat=48+d:=by
 rw[UInt8.toNat_ofNat'];omega
theorem aFk {c:UInt8} (h:aR c):UInt8.ofNat (48+(c.toNat-48))=c:=by
 obtain ⟨h1,h2⟩:=h
 rw[show 48+(c.toNat-48)=c.toNat by omega]
 simp
theorem cI {n:Nat} (h:n<10):decDigits n= [UInt8.ofNat (48+n)]:=decDigits_one h
theorem mE {n:Nat} (h:¬n<10):decDigits n=decDigits (n/10)++ [UInt8.ofNat (48+n%10)]:=by rw[decDigits,dif_neg h]
theorem bT:∀n:Nat,aC (decDigits n)=n:=by
 intro n
 induction n using Nat.strongRecOn with
 | _ n ih=>
  by_cases h:n<10
  ·rw[cI h]
   show aC ([]++ [_])=n
   rw[cS,dE h];simp[aC]
  ·rw[mE h,cS,ih _ (by omega),dE (by omega)];omega
theorem eZ:∀(n:Nat) (c:UInt8),c∈decDigits n→aR c:=by
 intro n
 induction n using Nat.strongRecOn with
 | _ n ih=>
  intro c hc
  by_cases h:n<10
  ·rw[cI h] at hc
   have:=List.mem_singleton.1 hc
   subst this
   unfold aR
   rw[dE h];omega
  ·rw[mE h] at hc
   rcases List.mem_append.1 hc with hc | hc
   ·exact ih _ (by omega) c hc
   ·have:=List.mem_singleton.1 hc
    subst this
    unfold aR
    rw[dE (by omega)];omega
theorem xW (n:Nat):decDigits n≠ []:=by
 by_cases h:n<10
 ·rw[cI h];simp
 ·rw[mE h];simp
theorem nP:∀n:Nat,0<n→(decDigits n).headD 0≠48:=by
 intro n
 induction n using Nat.strongRecOn with
 | _ n ih=>
  intro hn
  by_cases h:n<10
  ·rw[cI h]
   intro e
   have:=congrArg UInt8.toNat e
   simp only[List.headD_cons] at this
   rw[dE h] at this
   have e2:(48:UInt8).toNat=48:=rfl
   omega
  ·rw[mE h]
   have:=ih (n/10) (by omega) (by omega)
   cases hd:decDigits (n/10) with
   | nil=>exact (xW _ hd).elim
   | cons x r=>rw[hd] at this;exact this
theorem kU:∀(k:Nat) (s:List UInt8),s.length=k→s≠ []→(∀c∈s,aR c)→(s.length=1∨s.headD 0≠48)→decDigits (aC s)=s:=by
 intro k
 induction k with
 | zero=>intro s h1 h2;exact (h2 (List.length_eq_zero_iff.1 h1)).elim
 | succ k ih=>
  intro s h1 h2 h3 h4
  obtain ⟨t,c,rfl⟩:∃t c,s=t++ [c]:=⟨s.dropLast,s.getLast h2,(List.dropLast_concat_getLast h2).symm⟩
  have hc:=h3 c (by simp)
  have hc':=hc
  obtain ⟨c1,c2⟩:=hc'
  rw[cS]
  by_cases ht:t= []
  ·subst ht
   have e:aC []=0:=rfl
   rw[e,cI (by omega),Nat.mul_zero,Nat.zero_add,aFk hc];rfl
  ·have hlen:t.length=k:=by simpa using h1
   have hpos:0<t.length:=List.length_pos_iff.2 ht
   have hhd:t.headD 0≠48:=by
    rcases h4 with h | h
    ·simp at h;exact (ht h).elim
    ·cases t with
     | nil=>exact (ht rfl).elim
     | cons x r=>exact h
   have e:=ih t hlen ht (fun c hc=>h3 c (List.mem_append_left _ hc)) (.inr hhd)
   have hm:0<aC t:=by
    rcases Nat.eq_zero_or_pos (aC t) with h | h
    ·rw[h,cI (by omega)] at e
     rw[← e] at hhd
     exact (hhd rfl).elim
    ·exact h
   rw[mE (by omega),show (10*aC t+(c.toNat-48))/10=aC t by omega,e,show (10*aC t+(c.toNat-48))%10=c.toNat-48 by omega,aFk hc]
theorem aI3 {m n:Nat} (h:decDigits m=decDigits n):m=n:=by rw[← bT m,h,bT]
theorem jL {m n:Int} (h:itoa m=itoa n):m=n:=by
 have key:∀(a b:Nat),45::decDigits a≠decDigits b:=fun a b e=>by
  have:=eZ b 45 (by rw[← e];simp)
  have e2:(45:UInt8).toNat=45:=rfl
  unfold aR at this
  omega
 unfold itoa at h
 split at h
 ·split at h
  ·have:=aI3 (List.cons.inj h).2;omega
  ·exact (key _ _ h).elim
 ·split at h
  ·exact (key _ _ h.symm).elim
  ·have:=aI3 h;omega
end IB
end
section
namespace IB
open Go.Lib
def digs (s:List UInt8):List UInt8:=if s.headD 0=45 then s.tail else s
def valI (s:List UInt8):Int:=if s.headD 0=45 then -(aC s.tail:Int) else aC s
def form (s:List UInt8):Prop:=digs s≠ []∧((digs s).headD 0≠48∨s= [48])∧∀c∈digs s,aR c
noncomputable instance (s:List UInt8):Decidable (form s):=Classical.propDecidable _
noncomputable def chkI (s:List UInt8):Int:=if form s then (if 300<(digs s).length then 4 else 0) else 11
theorem gN (n:Int):(itoa n).headD 0=45↔n<0:=by
 unfold itoa
 split
 ·rename_i h;exact ⟨fun _=>h,fun _=>rfl⟩
 ·rename_i h
  refine ⟨fun e=>?_,fun h'=>(h h').elim⟩
  exfalso
  cases hd:decDigits n.toNat with
  | nil=>exact xW _ hd
  | cons x r=>
   rw[hd] at e
   have:=eZ n.toNat x (by rw[hd];simp)
   simp only[List.headD_cons] at e
   subst e
   have e2:(45:UInt8).toNat=45:=rfl
   unfold aR at this
   omega
theorem bO (n:Int):digs (itoa n)=decDigits n.natAbs:=by
 unfold digs
 by_cases h:n<0
 ·rw[if_pos ((gN n).2 h)];unfold itoa;rw[if_pos h];rfl
 ·rw[if_neg (fun e=>h ((gN n).1 e))];unfold itoa;rw[if_neg h];congr 1;omega
theorem aQ (n:Int):valI (itoa n)=n:=by
 unfold valI
 by_cases h:n<0
 ·rw[if_pos ((gN n).2 h)];unfold itoa;rw[if_pos h]
  simp only[List.tail_cons]
  rw[bT];omega
 ·rw[if_neg (fun e=>h ((gN n).1 e))];unfold itoa;rw[if_neg h,bT];omega
theorem eM (n:Int):form (itoa n):=by
 refine ⟨by rw[bO];exact xW _,?_,fun c hc=>by rw[bO] at hc;exact eZ _ c hc⟩
 rw[bO]
 by_cases h:n=0
 ·right;subst h;exact cI (by omega)
 ·left;exact nP _ (by omega)
theorem oJ {s:List UInt8} (h:form s):s=itoa (valI s):=by
 obtain ⟨h1,h2,h3⟩:=h
 unfold digs at h1 h2 h3
 unfold valI
 by_cases hm:s.headD 0=45
 ·rw[if_pos hm] at h1 h2 h3 ⊢
  have hs:s=45::s.tail:=by
   cases s with
   | nil=>exact (h1 rfl).elim
   | cons x r=>simp only[List.headD_cons] at hm;subst hm;rfl
  have hne:¬s= [48]:=fun e=>by rw[e] at hm;cases hm
  have hh:s.tail.headD 0≠48:=by
   rcases h2 with h | h
   ·exact h
   ·exact (hne h).elim
  have hd:=kU _ s.tail rfl h1 h3 (.inr hh)
  have hpos:0<aC s.tail:=by
   rcases Nat.eq_zero_or_pos (aC s.tail) with h | h
   ·rw[h] at hd
    rw[← hd] at hh
    exact (hh (by rw[cI (by omega)];rfl)).elim
   ·exact h
  unfold itoa
  rw[if_pos (by omega),show (-(aC s.tail:Int)).natAbs=aC s.tail by omega,hd]
  exact hs
 ·rw[if_neg hm] at h1 h2 h3 ⊢
  have hd:=kU _ s rfl h1 h3 (by
   rcases h2 with h | h
   ·exact .inr h
   ·left;rw[h];rfl)
  unfold itoa
  rw[if_neg (by omega),Int.toNat_natCast,hd]
theorem xU {s:List UInt8}:form s↔s=itoa (valI s):=⟨oJ,fun h=>by rw[h];exact eM _⟩
theorem aIs (q:Nat) (hq:0<q):∀(k r:Nat),r<10^ (k+1)→decDigits (q*10^ (k+1)+r)=decDigits q++(List.replicate (k+1-(decDigits r).length) 48++decDigits r)
 | 0,r,hr=>by
  have hr:r<10:=by simpa using hr
  rw[mE (by simp;omega),cI hr]
  simp only[Nat.zero_add,Nat.pow_one,List.length_singleton,Nat.sub_self,List.replicate_zero,List.nil_append]
  rw[show (q*10+r)/10=q by omega,show (q*10+r)%10=r by omega]
 | k+1,r,hr=>by
  have hp:0<10^ (k+1):=Nat.pow_pos (by omega)
  have hb:q*10^ (k+1+1)=q*10^ (k+1)*10:=by rw[Nat.pow_succ,Nat.mul_assoc]
  have h1:q*10^ (k+1+1)+r=10*(q*10^ (k+1)+r/10)+r%10:=by omega
  have hm:0<q*10^ (k+1):=Nat.mul_pos hq hp
  rw[Nat.pow_succ] at hr
  rw[mE (by omega),show (q*10^ (k+1+1)+r)/10=q*10^ (k+1)+r/10 by omega,show (q*10^ (k+1+1)+r)%10=r%10 by omega,aIs q hq k (r/10) (by omega)]
  by_cases h:r<10
  ·rw[cI h,show r/10=0 by omega,cI (show 0<10 by omega),Nat.mod_eq_of_lt h]
   simp only[List.length_singleton,List.append_assoc]
   congr 1
   rw[show k+1+1-1=k+1-1+1 by omega,List.replicate_succ']
   simp
  ·rw[mE (n:=r) h]
   simp only[List.length_append,List.length_singleton,List.append_assoc]
   rw[show k+1+1-((decDigits (r/10)).length+1)=k+1-(decDigits (r/10)).length by omega]
end IB
end
section
namespace IB
open Go.Lib
theorem eV:∀(k n:Nat),n<10^ (k+1)→(decDigits n).length≤k+1
 | 0,n,h=>by rw[cI (by simpa using h)];simp
 | k+1,n,h=>by
  by_cases h10:n<10
  ·rw[cI h10];simp
  ·rw[Nat.pow_succ] at h
   rw[mE h10]
   have:=eV k (n/10) (by omega)
   simp only[List.length_append,List.length_singleton];omega
def wrK (l:List Int):Nat→List UInt8
 | 0=>[]
 | m+1=>wrK l m++((if 0<m then List.replicate (9-(itoa (l.getD (l.length-1-m) 0)).length) 48 else [])++itoa (l.getD (l.length-1-m) 0))
theorem aFd {l:List Int} (h:InB (10^9) l) (hne:l≠ []) (hl:l.getLast hne≠0):∀m,m<l.length→0<valB (10^9) (l.drop (l.length-1-m))∧wrK l (m+1)=decDigits (valB (10^9) (l.drop (l.length-1-m))).toNat
 | 0,hm=>by
  have e1:l.getD (l.length-1) 0=l.getLast hne:=by
   rw[List.getLast_eq_getElem,List.getD_eq_getElem?_getD,List.getElem?_eq_getElem (by omega)];rfl
  have e2:l.drop (l.length-1)= [l.getLast hne]:=by
   rw[bB l _ (by omega),e1,List.drop_eq_nil_of_le (by omega)]
  have g:=h.get (show l.length-1<l.length by omega)
  rw[e1] at g
  rw[Nat.sub_zero,e2]
  simp only[valB,Int.mul_zero,Int.add_zero,wrK,Nat.lt_irrefl,if_false,List.nil_append,Nat.sub_zero]
  rw[e1]
  refine ⟨by omega,?_⟩
  unfold itoa
  rw[if_neg (by omega)]
 | m+1,hm=>by
  obtain ⟨h1,h2⟩:=aFd h hne hl m (by omega)
  obtain ⟨i,hi⟩:∃i,l.length-1-(m+1)=i:=⟨_,rfl⟩
  have e1:l.length-1-m=i+1:=by omega
  rw[e1] at h1 h2
  rw[hi]
  have g:=h.get (show i<l.length by omega)
  have e2:l.drop i=l.getD i 0::l.drop (i+1):=bB l i (by omega)
  rw[e2]
  simp only[valB]
  obtain ⟨v,hv⟩:=Int.eq_ofNat_of_zero_le (Int.le_of_lt h1)
  obtain ⟨x,hx⟩:=Int.eq_ofNat_of_zero_le g.1
  rw[hv] at h1 h2 ⊢
  rw[hx] at g ⊢
  have hx9:x<10^ (8+1):=by have:=g.2;omega
  have hv0:0<v:=by omega
  have e3:((x:Int)+((10^9:Nat):Int)*(v:Int))=((v*10^ (8+1)+x:Nat):Int):=by
   rw[Int.natCast_add,Int.natCast_mul,Int.mul_comm,Int.add_comm]
  refine ⟨by rw[e3];omega,?_⟩
  rw[e3,Int.toNat_natCast,aIs v hv0 8 x hx9]
  rw[Int.toNat_natCast] at h2
  have e4:itoa (x:Int)=decDigits x:=by unfold itoa;rw[if_neg (by omega),Int.toNat_natCast]
  rw[show wrK l (m+1+1)=wrK l (m+1)++((if 0<m+1 then List.replicate (9-(itoa (l.getD (l.length-1-(m+1)) 0)).length) 48 else [])++itoa (l.getD (l.length-1-(m+1)) 0)) from rfl,hi,hx,e4,h2,if_pos (by omega)]
theorem aFe (s:List UInt8):aC (48::s)=aC s:=by
 have e:(48:UInt8).toNat=48:=rfl
 simp[aC,e]
theorem strip (s:List UInt8) (h:∀c∈s,aR c) (hp:0<aC s):s.dropWhile (· ==48)=decDigits (aC s):=by
 induction s with
 | nil=>simp[aC] at hp
 | cons c r ih=>
  by_cases e:c=48
  ·subst e
   rw[aFe] at hp ⊢
   rw[List.dropWhile_cons_of_pos (by simp)]
   exact ih (fun c hc=>h c (List.mem_cons_of_mem _ hc)) hp
  ·rw[List.dropWhile_cons_of_neg (by simpa using e)]
   exact (kU _ _ rfl (by simp) h (.inr (by simpa using e))).symm
end IB
end
section
namespace IB
open Go.Lib
theorem nat10_cons (c:UInt8) (s:List UInt8):aC (c::s)=(c.toNat-48)*10^s.length+aC s:=by
 refine list_snocU (fun s=>aC (c::s)=(c.toNat-48)*10^s.length+aC s) (by simp[aC]) (fun l x ih=>?_) s
 rw[← List.cons_append,cS,cS,ih,List.length_append,List.length_singleton,Nat.pow_succ,Nat.mul_add,Nat.mul_comm 10 (_* _),Nat.mul_assoc]
 omega
where
 list_snocU (P:List UInt8→Prop) (h0:P []) (h1:∀l x,P l→P (l++ [x])) (l:List UInt8):P l:=by
  have:∀n (l:List UInt8),l.length=n→P l:=by
   intro n
   induction n with
   | zero=>intro l hl;rw[List.length_eq_zero_iff.1 hl];exact h0
   | succ n ih=>
    intro l hl
    have hne:l≠ []:=fun e=>by rw[e] at hl;simp at hl
    rw[← List.dropLast_concat_getLast hne]
    exact h1 _ _ (ih _ (by simp[hl]))
  exact this _ l rfl
def dgt (s:List UInt8) (i:Nat):Int:=((s.getD (s.length-1-i) 48).toNat:Int)-48
def rdK (s:List UInt8) (n:Nat):Nat→List Int
 | 0=>List.replicate n 0
 | i+1=>(rdK s n i).set (i/9) ((rdK s n i).getD (i/9) 0+dgt s i*10^ (i%9))
theorem aIt {s:List UInt8} (h:∀c∈s,aR c) {i:Nat} (hi:i<s.length):0≤dgt s i∧dgt s i≤9∧dgt s i=(((s.getD (s.length-1-i) 48).toNat-48:Nat):Int):=by
 have e:s.getD (s.length-1-i) 48=s[s.length-1-i]:=by rw[List.getD_eq_getElem?_getD,List.getElem?_eq_getElem (by omega)];rfl
 have:=h _ (List.getElem_mem (show s.length-1-i<s.length by omega))
 unfold dgt
 rw[e]
 unfold aR at this
 omega
theorem aG5 {s:List UInt8} {i:Nat} (hi:i<s.length):aC (s.drop (s.length-(i+1)))=((s.getD (s.length-1-i) 48).toNat-48)*10^i+aC (s.drop (s.length-i)):=by
 have e1:s.length-(i+1)=s.length-1-i:=by omega
 have e:s.getD (s.length-1-i) 48=s[s.length-1-i]:=by rw[List.getD_eq_getElem?_getD,List.getElem?_eq_getElem (by omega)];rfl
 rw[e1,List.drop_eq_getElem_cons (by omega),nat10_cons,e,show s.length-1-i+1=s.length-i by omega,List.length_drop,show s.length-(s.length-i)=i by omega]
theorem xV {s:List UInt8} (h:∀c∈s,aR c) {n:Nat} (hn:s.length≤9*n):∀i,i≤s.length→(rdK s n i).length=n∧InB (10^9) (rdK s n i)∧valB (10^9) (rdK s n i)=aC (s.drop (s.length-i))∧
  (∀t,i≤9*t→(rdK s n i).getD t 0=0)∧(rdK s n i).getD (i/9) 0<10^ (i%9)
 | 0,_=>by
  have hz:∀t,(List.replicate n (0:Int)).getD t 0=0:=fun t=>by rw[List.getD_eq_getElem?_getD,List.getElem?_replicate];split<;>rfl
  refine ⟨by simp[rdK],fun x hx=>?_,?_,fun t _=>hz t,?_⟩
  ·rw[(List.mem_replicate.1 hx).2];omega
  ·simp only[rdK];rw[kT,Nat.sub_zero,List.drop_length];rfl
  ·simp only[rdK];rw[hz];decide
 | i+1,hi=>by
  obtain ⟨h1,h2,h3,h4,h5⟩:=xV h hn i (by omega)
  obtain ⟨d1,d2,d3⟩:=aIt h (show i<s.length by omega)
  have hi9:i/9<n:=by omega
  have g:=h2.get (show i/9<(rdK s n i).length by omega)
  simp only[rdK]
  generalize rdK s n i=l at h1 h2 h3 h4 h5 g ⊢
  have hp:(0:Int)<10^ (i%9):=Int.pow_pos (by omega)
  have hm:dgt s i*10^ (i%9)≤9*10^ (i%9):=Int.mul_le_mul_of_nonneg_right d2 (Int.le_of_lt hp)
  have hm0:0≤dgt s i*10^ (i%9):=Int.mul_nonneg d1 (Int.le_of_lt hp)
  have hp1:(10:Int)^ (i%9+1)=10*10^ (i%9):=by rw[Int.pow_succ,Int.mul_comm]
  have hlt:l.getD (i/9) 0+dgt s i*10^ (i%9)<10^ (i%9+1):=by omega
  have hle:(10:Int)^ (i%9+1)≤((10^9:Nat):Int):=by
   have:10^ (i%9+1)≤10^9:=Nat.pow_le_pow_right (by omega) (by omega)
   exact_mod_cast this
  refine ⟨by rw[List.length_set,h1],sS h2 _ ⟨by omega,by omega⟩,?_,fun t ht=>?_,?_⟩
  ·rw[rL _ _ _ (by omega),h3,aG5 (by omega)]
   have e1:((10^9:Nat):Int)^ (i/9)*(dgt s i*10^ (i%9))=dgt s i*10^i:=by
    have e2:((10^9:Nat):Int)^ (i/9)=(10:Int)^ (9*(i/9)):=by
     rw[Int.pow_mul];rfl
    rw[e2,Int.mul_left_comm,← Int.pow_add,show 9*(i/9)+i%9=i by omega]
   rw[show l.getD (i/9) 0+dgt s i*10^ (i%9)-l.getD (i/9) 0=dgt s i*10^ (i%9) by omega,e1,d3]
   generalize (s.getD (s.length-1-i) 48).toNat-48=e
   rw[Int.natCast_add,Int.natCast_mul,Int.natCast_pow,Int.add_comm]
   rfl
  ·rw[eC _ _ _ (by omega),if_neg (by omega),h4 t (by omega)]
  ·rw[eC _ _ _ (by omega)]
   by_cases e:(i+1)/9=i/9
   ·rw[if_pos e,show (i+1)%9=i%9+1 by omega];exact hlt
   ·rw[if_neg e,h4 _ (by omega)]
    exact Int.pow_pos (by omega)
theorem aOi {s:List UInt8} (h:∀c∈s,aR c) {n:Nat} (hn:s.length≤9*n):bQ (rdK s n s.length)=aA (10^9) (aC s):=by
 obtain ⟨h1,h2,h3,h4,h5⟩:=xV h hn s.length (Nat.le_refl _)
 rw[Nat.sub_self,List.drop_zero] at h3
 rw[cH (by decide) h2,h3,Int.toNat_natCast]
end IB
end
section
namespace IB
open Go.Lib
theorem rI (a:List UInt8):∀b:List UInt8,aC (a++b)=aC a*10^b.length+aC b:=by
 intro b
 refine nat10_cons.list_snocU (fun b=>aC (a++b)=aC a*10^b.length+aC b) (by simp[aC]) (fun l x ih=>?_) b
 rw[← List.append_assoc,cS,cS,ih,List.length_append,List.length_singleton,Nat.pow_succ,Nat.mul_add,Nat.mul_comm 10 (_* _),Nat.mul_assoc]
 omega
theorem bW (s:List UInt8) (h:∀c∈s,aR c):aC s<10^s.length:=by
 revert h
 refine nat10_cons.list_snocU (fun s=>(∀c∈s,aR c)→aC s<10^s.length) (fun _=>by simp[aC]) (fun l x ih h=>?_) s
 have h1:=ih fun c hc=>h c (List.mem_append_left _ hc)
 have h2:=h x (by simp)
 unfold aR at h2
 rw[cS,List.length_append,List.length_singleton,Nat.pow_succ]
 omega
def grp (s:List UInt8) (k:Nat):List UInt8:=(s.take (s.length-6*k)).drop (s.length-6*(k+1))
def rdG (s:List UInt8):Nat→List Int
 | 0=>[]
 | k+1=>rdG s k++ [(aC (grp s k):Int)]
theorem aOj (s:List UInt8) (k:Nat):s.drop (s.length-6*(k+1))=grp s k++s.drop (s.length-6*k):=by
 unfold grp
 have e:=List.drop_append_of_le_length (l₁:=s.take (s.length-6*k)) (l₂:=s.drop (s.length-6*k)) (i:=s.length-6*(k+1)) (by rw[List.length_take];omega)
 rw[List.take_append_drop] at e
 exact e
theorem aOk (s:List UInt8) (k:Nat):(grp s k).length≤6:=by
 unfold grp;rw[List.length_drop,List.length_take];omega
theorem aOl {s:List UInt8} (h:∀c∈s,aR c) (k:Nat):∀c∈grp s k,aR c:=fun c hc=>h c (List.mem_of_mem_take (List.mem_of_mem_drop hc))
theorem rJ {s:List UInt8} (h:∀c∈s,aR c):∀k,6*k<s.length+6→(rdG s k).length=k∧InB (10^6) (rdG s k)∧valB (10^6) (rdG s k)=aC (s.drop (s.length-6*k))
 | 0,_=>⟨rfl,InB.nil,by simp only[rdG];rw[Nat.mul_zero,Nat.sub_zero,List.drop_length];rfl⟩
 | k+1,hk=>by
  obtain ⟨h1,h2,h3⟩:=rJ h k (by omega)
  have hg:=bW _ (aOl h k)
  have hg6:10^ (grp s k).length≤10^6:=Nat.pow_le_pow_right (by omega) (aOk s k)
  refine ⟨by simp[rdG,h1],InB.append.2 ⟨h2,InB.cons.2 ⟨⟨by omega,by omega⟩,InB.nil⟩⟩,?_⟩
  simp only[rdG]
  rw[jJ,h1,h3,aOj,rI,List.length_drop,show s.length-(s.length-6*k)=6*k by omega]
  have e:((10^6:Nat):Int)^k=(((10:Nat)^ (6*k):Nat):Int):=by
   rw[Nat.pow_mul];exact (Int.natCast_pow _ _).symm
  rw[e,Int.natCast_add,Int.natCast_mul,Int.mul_comm,Int.add_comm]
theorem aIu {s:List UInt8} (h:∀c∈s,aR c) {k:Nat} (hk:6*k<s.length+6) (hl:s.length≤6*k):bQ (rdG s k)=aA (10^6) (aC s):=by
 obtain ⟨h1,h2,h3⟩:=rJ h k hk
 rw[show s.length-6*k=0 by omega,List.drop_zero] at h3
 rw[cH (by decide) h2,h3,Int.toNat_natCast]
def six (x:Nat):List UInt8:=[UInt8.ofNat (48+x/100000%10),UInt8.ofNat (48+x/10000%10),UInt8.ofNat (48+x/1000%10),UInt8.ofNat (48+x/100%10),UInt8.ofNat (48+x/10%10),UInt8.ofNat (48+x%10)]
theorem aOm {x:Nat} (h:x<1000000):aC (six x)=x:=by
 have d:∀n,(UInt8.ofNat (48+n%10)).toNat=48+n%10:=fun n=>dE (by omega)
 simp only[aC,six,List.foldl_cons,List.foldl_nil,d]
 omega
theorem aOn (x:Nat):∀c∈six x,aR c:=by
 have d:∀n,aR (UInt8.ofNat (48+n%10)):=fun n=>by unfold aR;rw[dE (by omega)];omega
 intro c hc
 simp only[six,List.mem_cons,List.not_mem_nil,or_false] at hc
 rcases hc with rfl | rfl | rfl | rfl | rfl | rfl<;>exact d _
def wrG:List Int→List UInt8
 | []=>[]
 | x::r=>wrG r++six x.toNat
theorem aC6:∀l:List Int,(wrG l).length=6*l.length
 | []=>rfl
 | x::r=>by simp only[wrG,List.length_append,aC6 r,List.length_cons];simp[six];omega
theorem aIv:∀l:List Int,∀c∈wrG l,aR c
 | [],c,hc=>by simp[wrG] at hc
 | x::r,c,hc=>by
  simp only[wrG] at hc
  rcases List.mem_append.1 hc with h | h
  ·exact aIv r c h
  ·exact aOn _ c h
theorem aIw:∀l:List Int,InB (10^6) l→(aC (wrG l):Int)=valB (10^6) l
 | [],_=>rfl
 | x::r,h=>by
  obtain ⟨h1,h2⟩:=InB.cons.1 h
  have ih:=aIw r h2
  have h6:(six x.toNat).length=6:=rfl
  simp only[wrG,valB]
  rw[rI,h6,aOm (by omega),Int.natCast_add,Int.natCast_mul,ih,Int.mul_comm,Int.add_comm]
  congr 1
  omega
theorem aOo {l:List Int} (h:InB (10^6) l) (hp:0<valB (10^6) l):(wrG l).dropWhile (· ==48)=decDigits (valB (10^6) l).toNat:=by
 have:=aIw l h
 rw[strip _ (aIv l) (by omega),← this,Int.toNat_natCast]
end IB
end
section
namespace IB
open Go.Lib
def numS (q:Rat):List UInt8:=if q.den=1 then itoa q.num else itoa q.num++47::decDigits q.den
def topS (s:List UInt8):List UInt8:=s.takeWhile (· != 47)
def botS (s:List UInt8):List UInt8:=s.dropWhile (· != 47)
theorem aIx (n:Int):∀c∈itoa n,c≠47:=by
 intro c hc e
 subst e
 have key:∀m:Nat,(47:UInt8) ∉ decDigits m:=fun m h=>by
  have:=eZ m 47 h
  have e2:(47:UInt8).toNat=47:=rfl
  unfold aR at this
  omega
 unfold itoa at hc
 split at hc
 ·rcases List.mem_cons.1 hc with h | h
  ·cases h
  ·exact key _ h
 ·exact key _ hc
theorem pJ {p:UInt8→Bool} {a b:List UInt8} (h:∀c∈a,p c=true):(a++b).takeWhile p=a++b.takeWhile p:=by
 induction a with
 | nil=>rfl
 | cons x r ih=>
  rw[List.cons_append,List.takeWhile_cons_of_pos (h x (by simp)),ih fun c hc=>h c (List.mem_cons_of_mem _ hc)];rfl
theorem pK {p:UInt8→Bool} {a b:List UInt8} (h:∀c∈a,p c=true):(a++b).dropWhile p=b.dropWhile p:=by
 induction a with
 | nil=>rfl
 | cons x r ih=>
  rw[List.cons_append,List.dropWhile_cons_of_pos (h x (by simp)),ih fun c hc=>h c (List.mem_cons_of_mem _ hc)]
theorem fV (q:Rat):topS (numS q)=itoa q.num:=by
 have hno:∀c∈itoa q.num,(c != 47)=true:=fun c hc=>by simpa using aIx _ c hc
 unfold topS numS
 split
 ·have:=pJ (b:=[]) hno;simpa using this
 ·rw[pJ hno,List.takeWhile_cons_of_neg (by simp)];simp
theorem jK (q:Rat):botS (numS q)=if q.den=1 then [] else 47::decDigits q.den:=by
 have hno:∀c∈itoa q.num,(c != 47)=true:=fun c hc=>by simpa using aIx _ c hc
 unfold botS numS
 split
 ·have:=pK (b:=[]) hno;simpa using this
 ·rw[pK hno,List.dropWhile_cons_of_neg (by simp)]
def denS (s:List UInt8):Nat:=if botS s= [] then 1 else aC (botS s).tail
noncomputable def valQ (s:List UInt8):Rat:=mkRat (valI (topS s)) (denS s)
def iI (s:List UInt8):Prop:=form (topS s)∧(botS s= []∨((botS s).tail=decDigits (denS s)∧2≤denS s))
theorem rK (q:Rat):denS (numS q)=q.den:=by
 unfold denS
 rw[jK]
 by_cases h:q.den=1
 ·rw[if_pos h,if_pos rfl,h]
 ·rw[if_neg h,if_neg (by simp),List.tail_cons,bT]
theorem gO (q:Rat):valQ (numS q)=q:=by
 unfold valQ
 rw[fV,aQ,rK,Rat.mkRat_self]
theorem qC (q:Rat):iI (numS q):=by
 refine ⟨by rw[fV];exact eM _,?_⟩
 rw[jK,rK]
 by_cases h:q.den=1
 ·left;rw[if_pos h]
 ·right;rw[if_neg h]
  have:=q.den_nz
  exact ⟨rfl,by omega⟩
theorem aC7 (q:Rat):(valI (topS (numS q))).natAbs.gcd (denS (numS q))=1:=by
 rw[fV,aQ,rK];exact q.reduced
theorem aIy {s:List UInt8} (h:iI s) (hg:(valI (topS s)).natAbs.gcd (denS s)=1):s=numS (valQ s):=by
 obtain ⟨h1,h2⟩:=h
 have hs:topS s++botS s=s:=List.takeWhile_append_dropWhile
 have hd0:denS s≠0:=by
  rcases h2 with h | ⟨_,h⟩
  ·unfold denS;rw[if_pos h];decide
  ·omega
 have hq:valQ s= ⟨valI (topS s),denS s,hd0,hg⟩:=by unfold valQ;rw[← Rat.mk_eq_mkRat]
 have e1:(valQ s).num=valI (topS s):=by rw[hq]
 have e2:(valQ s).den=denS s:=by rw[hq]
 unfold numS
 rw[e1,e2,← oJ h1]
 rcases h2 with h | ⟨h3,h4⟩
 ·have:denS s=1:=by unfold denS;rw[if_pos h]
  rw[if_pos this]
  rw[h,List.append_nil] at hs
  exact hs.symm
 ·rw[if_neg (by omega),← h3]
  have hb:botS s=47::(botS s).tail:=by
   cases hb:botS s with
   | nil=>
    have:denS s=1:=by unfold denS;rw[if_pos hb]
    omega
   | cons x r=>
    have hx:x=47:=by
     have hd:=List.head?_dropWhile_not (p:=(· != (47:UInt8))) (l:=s)
     have hb':s.dropWhile (· != 47)=x::r:=hb
     rw[hb'] at hd
     simpa using hd
    subst hx;rfl
  rw[← hb,hs]
end IB
end
section
namespace IB
open Go.Lib
theorem uX (n:Int) (d:Nat) (hd:d≠0):numS (mkRat n d)=if d/d.gcd n.natAbs=1 then itoa (n/(d.gcd n.natAbs:Nat)) else itoa (n/(d.gcd n.natAbs:Nat))++47::decDigits (d/d.gcd n.natAbs):=by
 unfold numS
 rw[Rat.num_mkRat,Rat.den_mkRat,if_neg hd,if_neg hd]
theorem aKc (p q:Rat):p+q=mkRat (p.num*q.den+q.num*p.den) (p.den*q.den):=Rat.add_def' p q
theorem aA4 (p q:Rat):p-q=mkRat (p.num*q.den-q.num*p.den) (p.den*q.den):=Rat.sub_def' p q
theorem oK (p q:Rat):p*q=mkRat (p.num*q.num) (p.den*q.den):=Rat.mul_def' p q
theorem qD (n:Int) (d:Int) (hd:d<0):Rat.divInt n d=mkRat (-n) (-d).toNat:=by
 rw[← Rat.neg_divInt_neg]
 have: -d=((-d).toNat:Int):=by omega
 rw[this]
 exact Rat.divInt_ofNat _ _
theorem eB (n:Int) (d:Int) (hd:0<d):Rat.divInt n d=mkRat n d.toNat:=by
 have:d=(d.toNat:Int):=by omega
 conv=>lhs;rw[this]
 exact Rat.divInt_ofNat _ _
theorem aKd (p q:Rat) (hq:q≠0):p/q=Rat.divInt (p.num*q.den) (p.den*q.num):=by
 rw[Rat.div_def,Rat.inv_def]
 conv=>lhs;lhs;rw[← Rat.num_divInt_den p]
 rw[Rat.divInt_mul_divInt]
end IB
end
section
namespace IB
open Go.Lib
def sgn (b:Bool) (m:Nat):Int:=if b then -(m:Int) else m
def wrM (b:Bool) (m:Nat):List UInt8:=if m=0 then [48] else if b then 45::decDigits m else decDigits m
theorem aQb (b:Bool) (m:Nat):wrM b m=itoa (sgn b m):=by
 unfold wrM sgn itoa
 by_cases h:m=0
 ·subst h
  rw[if_pos rfl]
  cases b<;>exact (cI (show 0<10 by omega)).symm
 ·rw[if_neg h]
  cases b
  ·show decDigits m=if (m:Int)<0 then 45::decDigits (m:Int).natAbs else decDigits (m:Int).toNat
   rw[if_neg (by omega),Int.toNat_natCast]
  ·show 45::decDigits m=if -(m:Int)<0 then 45::decDigits (-(m:Int)).natAbs else decDigits (-(m:Int)).toNat
   rw[if_pos (by omega),show (-(m:Int)).natAbs=m by omega]
theorem aKe (x y:Int) (hy:y≠0):(if x.tmod y≠0∧¬(x.tmod y<0↔y<0) then (x.tdiv y-1,x.tmod y+y) else (x.tdiv y,x.tmod y))=(x.fdiv y,x.fmod y):=by
 have h1:=Int.tmod_add_mul_tdiv x y
 have hlt:(x.tmod y).natAbs<y.natAbs:=by rw[Int.natAbs_tmod];exact Nat.mod_lt _ (by omega)
 rcases Int.lt_or_gt_of_ne hy with hn | hp
 ·split
  ·rename_i h
   have:=(Int.fdiv_fmod_unique' (a:=x) (r:=x.tmod y+y) (q:=x.tdiv y-1) hn).2 ⟨by rw[Int.mul_sub,Int.mul_one];omega,by omega,by omega⟩
   rw[this.1,this.2]
  ·rename_i h
   have:=(Int.fdiv_fmod_unique' (a:=x) (r:=x.tmod y) (q:=x.tdiv y) hn).2 ⟨h1,by omega,by omega⟩
   rw[this.1,this.2]
 ·split
  ·rename_i h
   have:=(Int.fdiv_fmod_unique (a:=x) (r:=x.tmod y+y) (q:=x.tdiv y-1) hp).2 ⟨by rw[Int.mul_sub,Int.mul_one];omega,by omega,by omega⟩
   rw[this.1,this.2]
  ·rename_i h
   have:=(Int.fdiv_fmod_unique (a:=x) (r:=x.tmod y) (q:=x.tdiv y) hp).2 ⟨h1,by omega,by omega⟩
   rw[this.1,this.2]
theorem aOp (b:Bool) (m:Nat) (c:Bool) (n:Nat) (hn:0<n):
  (sgn (b != c) (if b≠c∧0<m%n then m/n+1 else m/n),sgn c (if b≠c∧0<m%n then n-m%n else m%n))=((sgn b m).fdiv (sgn c n),(sgn b m).fmod (sgn c n)):=by
 have h1:=Nat.mod_add_div m n
 have h2:=Nat.mod_lt m hn
 have h1':((m%n:Nat):Int)+(n:Int)*((m/n:Nat):Int)=m:=by exact_mod_cast h1
 generalize m%n=r at h1 h1' h2 ⊢
 generalize m/n=q at h1 h1' ⊢
 cases b<;>cases c<;>simp only[sgn,bne_self_eq_false,Bool.false_eq_true,if_false,if_true,ne_eq,not_true_eq_false,false_and,reduceCtorEq,not_false_eq_true,true_and,Bool.bne_true,Bool.bne_false,Bool.not_false]
 ·have:=(Int.fdiv_fmod_unique (a:=(m:Int)) (b:=(n:Int)) (r:=(r:Int)) (q:=(q:Int)) (by omega)).2 ⟨h1',by omega,by omega⟩
  rw[this.1,this.2]
 ·by_cases h:0<r
  ·have:=(Int.fdiv_fmod_unique' (a:=(m:Int)) (b:= -(n:Int)) (r:= -((n-r:Nat):Int)) (q:= -((q+1:Nat):Int)) (by omega)).2 ⟨by rw[Int.neg_mul_neg];simp only[Int.natCast_add,Int.mul_add];omega,by omega,by omega⟩
   rw[if_pos h,if_pos h,this.1,this.2]
  ·have:=(Int.fdiv_fmod_unique' (a:=(m:Int)) (b:= -(n:Int)) (r:= -(r:Int)) (q:= -(q:Int)) (by omega)).2 ⟨by rw[Int.neg_mul_neg];omega,by omega,by omega⟩
   rw[if_neg h,if_neg h,this.1,this.2]
 ·by_cases h:0<r
  ·have:=(Int.fdiv_fmod_unique (a:= -(m:Int)) (b:=(n:Int)) (r:=((n-r:Nat):Int)) (q:= -((q+1:Nat):Int)) (by omega)).2 ⟨by rw[Int.mul_neg];simp only[Int.natCast_add,Int.mul_add];omega,by omega,by omega⟩
   rw[if_pos h,if_pos h,this.1,this.2]
  ·have:=(Int.fdiv_fmod_unique (a:= -(m:Int)) (b:=(n:Int)) (r:=(r:Int)) (q:= -(q:Int)) (by omega)).2 ⟨by rw[Int.mul_neg];omega,by omega,by omega⟩
   rw[if_neg h,if_neg h,this.1,this.2]
 ·have:=(Int.fdiv_fmod_unique' (a:= -(m:Int)) (b:= -(n:Int)) (r:= -(r:Int)) (q:=(q:Int)) (by omega)).2 ⟨by rw[Int.neg_mul];omega,by omega,by omega⟩
  rw[this.1,this.2]
end IB
end
section
namespace IB
open Go.Lib
noncomputable instance (s:List UInt8):Decidable (iI s):=Classical.propDecidable _
noncomputable def chkQ (s:List UInt8):Int:=if iI s then (if 300<(digs (topS s)).length∨300<(botS s).tail.length then 4 else if (valI (topS s)).natAbs.gcd (denS s)=1 then 0 else 11) else 11
theorem aIz {s:List UInt8} (h:chkQ s=0):s=numS (valQ s)∧(digs (topS s)).length≤300∧(botS s).tail.length≤300:=by
 unfold chkQ at h
 split at h
 ·rename_i hf
  split at h
  ·cases h
  ·rename_i hl
   split at h
   ·rename_i hg
    exact ⟨aIy hf hg,by omega,by omega⟩
   ·cases h
 ·cases h
def lim (n:Int):Bool:=decide (300<(decDigits n.natAbs).length)
noncomputable def gA (a b:List UInt8) (f:Rat→Rat→List UInt8 × Int):List UInt8 × Int:=if chkQ a≠0 then ([],chkQ a) else if chkQ b≠0 then ([],chkQ b) else f (valQ a) (valQ b)
noncomputable def addQ (a b:List UInt8):List UInt8 × Int:=gA a b fun p q=>if lim (p.num*q.den) || lim (q.num*p.den) || lim (p.num*q.den+q.num*p.den) || lim (p.den*q.den) then ([],4) else (numS (p+q),0)
noncomputable def subQ (a b:List UInt8):List UInt8 × Int:=gA a b fun p q=>if lim (p.num*q.den) || lim (q.num*p.den) || lim (p.num*q.den-q.num*p.den) || lim (p.den*q.den) then ([],4) else (numS (p-q),0)
noncomputable def mulQ (a b:List UInt8):List UInt8 × Int:=gA a b fun p q=>if lim (p.num*q.num) || lim (p.den*q.den) then ([],4) else (numS (p*q),0)
noncomputable def divQ (a b:List UInt8):List UInt8 × Int:=gA a b fun p q=>if q=0 then ([],12) else if lim (p.num*q.den) || lim (q.num*p.den) then ([],4) else (numS (p/q),0)
end IB
end
section
open Go Go.Proofs Go.Eng Go.Shelf IB
namespace RB
abbrev I (n:Int):SV:=.val (.int .i64 n)
abbrev Ls (xs:List Int):SV:=.seq (.int .i64) xs
abbrev S (s:List UInt8):SV:=.str s
abbrev B9:Nat:=1000000000
theorem bX {n:Int} {C:Nat→Prop} (j:Nat) (e:n=(j:Int)) (h:C j):Ix n C:=by
 refine ⟨fun i e'=>?_⟩
 have:j=i:=by omega
 subst this;exact h
theorem get9 {l:List Int} (h:InB B9 l) (i:Nat):0≤l.getD i 0∧l.getD i 0<1000000000:=h.getD0 (by decide) i
theorem kV (xs:List Int) (k:Nat) (h:k<xs.length):xs.take (k+1)=xs.take k++ [xs.getD k 0]:=by
 rw[List.take_succ_eq_append_getElem h]
 simp[List.getD_eq_getElem?_getD,h]
theorem oN (xs:List Int) (k i:Nat) (h:i<k):(xs.take k).getD i 0=xs.getD i 0:=by
 simp[List.getD_eq_getElem?_getD,List.getElem?_take,h]
abbrev V (xs:List Int):HO:=.vec 1 (.int .i64) xs 3
theorem b131 (xs:List Int):aDv Tryz.prog [] { asks:=[(0,[0])] } Tryz.f192 0 false [.any] (.int .i64) xs 3 (.ref 0 1) (bQ xs):=by
 refine Ask.mk ⟨{ X:=Nat,pre:=fun i=>i≤xs.length∧bQ (xs.take i)=bQ xs,mod:=fun i _=>[(0,.ref 0 1)],heap:=fun i _=>[V (xs.take i),V []],mu:=fun i=>i,objs:=[0] },rfl,?_⟩
 (repeat'((conv=>whnf);first|refine Zn ?_|fail))
 refine ⟨⟨xs.length,⟨Nat.le_refl _,by rw[List.take_length]⟩,?_⟩,fun (i:Nat) hi=>?_⟩
 ·(repeat' first|exact trivial|rfl|exact Nat.one_pos|apply And.intro)
  exact (List.take_length).symm
 ·obtain ⟨hi1,hi2⟩:=hi
  have hl:(xs.take i).length=i:=by rw[List.length_take];omega
  (repeat'((conv=>whnf);first|refine Zg fun _=>?_|fail))
  (apply Br.mk<;>intro)
  ·rename_i h1
   have h0:0<i:=by omega
   obtain ⟨k,rfl⟩:∃k,i=k+1:=⟨i-1,by omega⟩
   (repeat'((conv=>whnf);first|refine Zg fun _=>?_|refine Zn ?_|fail))
   refine bX k (by omega) ?_
   (repeat'((conv=>whnf);first|refine Zg fun _=>?_|fail))
   (apply Br.mk<;>intro)
   ·rename_i hz
    rw[oN _ _ _ (by omega)] at hz
    (repeat'((conv=>whnf);first|refine Zg fun _=>?_|refine Zn ?_|fail))
    refine Own.l (Own.r ?_)
    (repeat'((conv=>whnf);first|refine Zn ?_|fail))
    refine bX k (by omega) ?_
    refine ⟨(k:Nat),by show k<k+1;omega,⟨by omega,?_⟩,?_⟩
    ·rw[← hi2,kV _ _ (by omega),hz,dA]
    ·(repeat' first|exact trivial|rfl|exact Nat.one_pos|apply And.intro)
     rw[List.take_take];congr 1;omega
   ·rename_i hz
    rw[oN _ _ _ (by omega)] at hz
    (conv=>whnf)
    (repeat' first|rfl|apply And.intro)
    rw[← hi2,kV _ _ (by omega)]
    exact (iU _ _ hz).symm
  ·have:i=0:=by omega
   subst this
   (conv=>whnf)
   (repeat' first|rfl|apply And.intro)
   rw[← hi2];rfl
theorem b131s (xs:List Int):body Tryz.prog [] { asks:=[(0,[])] } false Tryz.f192 [Ls xs] (Ls (bQ xs)):=by
 refine Ask.mk ⟨{ X:=Nat,pre:=fun i=>i≤xs.length∧bQ (xs.take i)=bQ xs,mod:=fun i _=>[(0,Ls (xs.take i))],heap:=fun i _=>[V []],mu:=fun i=>i },rfl,?_⟩
 (repeat'((conv=>whnf);first|refine Zn ?_|fail))
 refine ⟨⟨xs.length,⟨Nat.le_refl _,by rw[List.take_length]⟩,?_⟩,fun (i:Nat) hi=>?_⟩
 ·(repeat' first|exact trivial|rfl|apply And.intro)
  exact (List.take_length).symm
 ·obtain ⟨hi1,hi2⟩:=hi
  have hl:(xs.take i).length=i:=by rw[List.length_take];omega
  (repeat'((conv=>whnf);first|refine Zg fun _=>?_|fail))
  (apply Br.mk<;>intro)
  ·rename_i h1
   have h0:0<i:=by omega
   obtain ⟨k,rfl⟩:∃k,i=k+1:=⟨i-1,by omega⟩
   (repeat'((conv=>whnf);first|refine Zg fun _=>?_|refine Zn ?_|fail))
   refine bX k (by omega) ?_
   (repeat'((conv=>whnf);first|refine Zg fun _=>?_|fail))
   (apply Br.mk<;>intro)
   ·rename_i hz
    rw[oN _ _ _ (by omega)] at hz
    (repeat'((conv=>whnf);first|refine Zg fun _=>?_|refine Zn ?_|fail))
    refine bX k (by omega) ?_
    refine ⟨(k:Nat),by show k<k+1;omega,⟨by omega,?_⟩,?_⟩
    ·rw[← hi2,kV _ _ (by omega),hz,dA]
    ·(repeat' first|exact trivial|rfl|apply And.intro)
     rw[List.take_take];congr 1;omega
   ·rename_i hz
    rw[oN _ _ _ (by omega)] at hz
    (conv=>whnf)
    rw[← hi2,kV _ _ (by omega)]
    exact (iU _ _ hz).symm
  ·have:i=0:=by omega
   subst this
   (conv=>whnf)
   rw[← hi2];rfl
def c131:Con:=aK1 192 false 0 false (fun args o K=>match args,o with | [.any],.vec 1 (.int .i64) xs 3=>K (.ref 0 1) (.vec 1 (.int .i64) (bQ xs) 3) | _,_=>False)
 (fun args K=>match args with | [.seq (.int .i64) xs]=>K (Ls (bQ xs)) | _=>False)
theorem k131:aG Tryz.prog c131:=by
 refine aLs (enters_of Tryz.func192 (by kernel_rfl) rfl) ?_ ?_
 ·intro args t xs e K hfl h
  split at h
  ·rename_i zs heq
   cases heq
   first | exact ⟨_,_,h,eL (by simp) Tryz.func192 (by simp[Tryz.ntmps192]) rfl (b131 zs)⟩ | exact ⟨_,_,h,eL (by simp) Tryz.func192 (by simp[Tryz.ntmps192]) rfl (b131 xs)⟩
  ·exact h.elim
 ·intro args K h
  split at h
  ·rename_i xs
   exact ⟨_,h,triB Tryz.func192 Tryz.ntmps192 (by simp) (b131s xs)⟩
  ·exact h.elim
theorem b132 (l:List Int) (i:Int) (h:0≤i):body Tryz.prog [] {} true Tryz.f221 [Ls l,I i] (I (l.getD i.toNat 0)):=by
 (repeat'((conv=>whnf);first|refine Zg fun _=>?_|fail))
 (apply Br.mk<;>intro)
 ·(repeat'((conv=>whnf);first|refine Zn ?_|fail))
  refine bX i.toNat (by omega) ?_
  (repeat'((conv=>whnf);first|refine Zg fun _=>?_|fail))
  (conv=>whnf)
  (repeat' first|rfl|apply And.intro)
 ·rename_i h1
  have:l.getD i.toNat 0=0:=dM _ _ (by omega)
  (conv=>whnf)
  rw[this]
  (repeat' first|rfl|apply And.intro)
def c132:Con:=aJ 221 true fun args K=>match args with | [.seq (.int .i64) l,.val (.int .i64 i)]=>Need (0≤i) (Ix i fun j=>K (I (l.getD j 0))) | _=>False
theorem k132:aG Tryz.prog c132:=by
 refine kO Tryz.func221 fun args K h=>?_
 simp only[c132] at h;split at h
 ·rename_i l i
  exact ⟨_,h.go.use h.ok,triB Tryz.func221 Tryz.ntmps221 (by simp) (b132 l i h.ok)⟩
 ·exact h.elim
theorem b108 (x y c:Int) (h:(0≤x∧x<1000000000)∧(0≤y∧y<1000000000)∧(0≤c∧c≤1)):body Tryz.prog [] {} true Tryz.f183 [I x,I y,I c] (.tup [I ((x+y+c)%1000000000),I ((x+y+c)/1000000000)]):=by
 (repeat'((conv=>whnf);first|refine Za ?_|refine Zn ?_|fail))
 (conv=>whnf)
 (repeat' first|exact trivial|rfl|apply And.intro)
def c108:Con:=aJ 183 true fun args K=>match args with | [.val (.int .i64 x),.val (.int .i64 y),.val (.int .i64 c)]=>Need ((0≤x∧x<1000000000)∧(0≤y∧y<1000000000)∧(0≤c∧c≤1)) (K (.tup [I ((x+y+c)%1000000000),I ((x+y+c)/1000000000)])) | _=>False
theorem k108:aG Tryz.prog c108:=by
 refine kO Tryz.func183 fun args K h=>?_
 simp only[c108] at h;split at h
 ·rename_i x y c;exact ⟨_,h.go,triB Tryz.func183 Tryz.ntmps183 (by simp) (b108 x y c h.ok)⟩
 ·exact h.elim
abbrev mn (x y c:Int):Int:=if 0≤x-y-c then x-y-c else x-y-c+1000000000
abbrev mc (x y c:Int):Int:=if 0≤x-y-c then 0 else 1
theorem b109 (x y c:Int) (h:(0≤x∧x<1000000000)∧(0≤y∧y<1000000000)∧(0≤c∧c≤1)):body Tryz.prog [] {} true Tryz.f184 [I x,I y,I c] (.tup [I (mn x y c),I (mc x y c)]):=by
 unfold mn mc
 (repeat'((conv=>whnf);first|refine Zn ?_|fail))
 (apply Br.mk<;>intro)
 ·rename_i hb
  (conv=>whnf)
  rw[if_pos hb,if_pos hb]
  (repeat' first|exact trivial|rfl|apply And.intro)
 ·rename_i hb
  (repeat'((conv=>whnf);first|refine Zn ?_|fail))
  (conv=>whnf)
  rw[if_neg hb,if_neg hb]
  (repeat' first|exact trivial|rfl|apply And.intro)
def c109:Con:=aJ 184 true fun args K=>match args with | [.val (.int .i64 x),.val (.int .i64 y),.val (.int .i64 c)]=>Need ((0≤x∧x<1000000000)∧(0≤y∧y<1000000000)∧(0≤c∧c≤1)) (K (.tup [I (mn x y c),I (mc x y c)])) | _=>False
theorem k109:aG Tryz.prog c109:=by
 refine kO Tryz.func184 fun args K h=>?_
 simp only[c109] at h;split at h
 ·rename_i x y c;exact ⟨_,h.go,triB Tryz.func184 Tryz.ntmps184 (by simp) (b109 x y c h.ok)⟩
 ·exact h.elim
theorem b107p (a b:List Int) (h:InB B9 a∧InB B9 b∧a.length≤100000∧b.length≤100000):body Tryz.prog [c132,c108,c131] { asks:=[(0,[1])] } true Tryz.f182 [Ls a,Ls b,.clo 183 [] []] (Ls (aA B9 (valB B9 a+valB B9 b).toNat)):=by
 obtain ⟨ha,hb,hla,hlb⟩:=h
 (repeat'((conv=>whnf);first|refine Zg fun _=>?_|refine Zn ?_|fail))
 refine Ask.mk ⟨{ X:=Nat,pre:=fun i=>i≤max a.length b.length+1,mod:=fun i _=>[(7,.ref 1 1),(8,I (addK B9 a b i).2),(18,I i)],heap:=fun i _=>[V [],V (addK B9 a b i).1],mu:=fun i=>max a.length b.length+1-i,objs:=[1] },rfl,?_⟩
 (repeat'((conv=>whnf);first|refine Zn ?_|fail))
 refine ⟨⟨(0:Nat),Nat.zero_le _,by (repeat' first|exact trivial|rfl|exact Nat.one_pos|apply And.intro)⟩,fun (i:Nat) (hi:i≤max a.length b.length+1)=>?_⟩
 obtain ⟨g1,g2,g3,_⟩:=sR (B:=B9) (by decide) ha hb i
 have ga:=get9 ha i
 have gb:=get9 hb i
 (apply Br.mk<;>intro)
 ·have hlt:i<max a.length b.length+1:=by omega
  (repeat'((conv=>whnf);first|refine Zn ?_|refine Zj ?_|refine Zl ?_|fail))
  refine ⟨(i+1:Nat),by show max a.length b.length+1-(i+1)<max a.length b.length+1-i;omega,hlt,?_⟩
  (repeat' first|exact trivial|rfl|exact Nat.one_pos|apply And.intro)
 ·have e:i=max a.length b.length+1:=by omega
  subst e
  (conv=>whnf)
  rw[← aMe (B:=B9) (by decide) ha hb (Nat.le_max_left _ _) (Nat.le_max_right _ _)]
theorem b107m (a b:List Int) (h:InB B9 a∧InB B9 b∧valB B9 b≤valB B9 a∧a.length≤100000∧b.length≤100000):body Tryz.prog [c132,c109,c131] { asks:=[(0,[1])] } true Tryz.f182 [Ls a,Ls b,.clo 184 [] []] (Ls (aA B9 (valB B9 a-valB B9 b).toNat)):=by
 obtain ⟨ha,hb,hle,hla,hlb⟩:=h
 (repeat'((conv=>whnf);first|refine Zg fun _=>?_|refine Zn ?_|fail))
 refine Ask.mk ⟨{ X:=Nat,pre:=fun i=>i≤max a.length b.length+1,mod:=fun i _=>[(7,.ref 1 1),(8,I (subK B9 a b i).2),(18,I i)],heap:=fun i _=>[V [],V (subK B9 a b i).1],mu:=fun i=>max a.length b.length+1-i,objs:=[1] },rfl,?_⟩
 (repeat'((conv=>whnf);first|refine Zn ?_|fail))
 refine ⟨⟨(0:Nat),Nat.zero_le _,by (repeat' first|exact trivial|rfl|exact Nat.one_pos|apply And.intro)⟩,fun (i:Nat) (hi:i≤max a.length b.length+1)=>?_⟩
 obtain ⟨g1,g2,g3,_⟩:=oL (B:=B9) (by decide) ha hb i
 have ga:=get9 ha i
 have gb:=get9 hb i
 (apply Br.mk<;>intro)
 ·have hlt:i<max a.length b.length+1:=by omega
  (repeat'((conv=>whnf);first|refine Zn ?_|refine Zj ?_|refine Zl ?_|fail))
  refine ⟨(i+1:Nat),by show max a.length b.length+1-(i+1)<max a.length b.length+1-i;omega,hlt,?_⟩
  (repeat' first|exact trivial|rfl|exact Nat.one_pos|apply And.intro)
 ·have e:i=max a.length b.length+1:=by omega
  subst e
  (conv=>whnf)
  rw[← (aFf (B:=B9) (by decide) ha hb (n:=max a.length b.length+1) (by omega) (by omega) hle).1]
def c107:Con:=aJ 182 true fun args K=>match args with
 | [.seq (.int .i64) a,.seq (.int .i64) b,.clo 183 [] []]=>Need (InB B9 a∧InB B9 b∧a.length≤100000∧b.length≤100000) (K (Ls (aA B9 (valB B9 a+valB B9 b).toNat)))
 | [.seq (.int .i64) a,.seq (.int .i64) b,.clo 184 [] []]=>Need (InB B9 a∧InB B9 b∧valB B9 b≤valB B9 a∧a.length≤100000∧b.length≤100000) (K (Ls (aA B9 (valB B9 a-valB B9 b).toNat)))
 | _=>False
theorem k107:aG Tryz.prog c107:=by
 refine kO Tryz.func182 fun args K h=>?_
 simp only[c107] at h;split at h
 ·rename_i a b
  exact ⟨_,h.go,triB Tryz.func182 Tryz.ntmps182 (by simp[k132,k108,k131]) (b107p a b h.ok)⟩
 ·rename_i a b
  exact ⟨_,h.go,triB Tryz.func182 Tryz.ntmps182 (by simp[k132,k109,k131]) (b107m a b h.ok)⟩
 ·exact h.elim
theorem c9:((B9:Nat):Int)=1000000000:=rfl
theorem aKp {x y B:Int} (hx:0≤x∧x<B) (hy:0≤y∧y<B):0≤x*y∧x*y≤(B-1)*(B-1):=by
 refine ⟨Int.mul_nonneg hx.1 hy.1,?_⟩
 calc x*y≤(B-1)*y:=Int.mul_le_mul_of_nonneg_right (by omega) hy.1
  _≤(B-1)*(B-1):=Int.mul_le_mul_of_nonneg_left (by omega) (by omega)
theorem b99 (a b:List Int) (h:InB B9 a∧InB B9 b∧a.length≤100000∧b.length≤100000):aH9 Tryz.prog [c132,c131] { asks:=[(0,[]),(2,[])] } Tryz.f188 [Ls a,Ls b] (.ref 0 1) (.int .i64) (aA B9 (valB B9 a*valB B9 b).toNat) 3:=by
 obtain ⟨ha,hb,hla,hlb⟩:=h
 obtain ⟨n,hn⟩:∃n,n=a.length+b.length+1:=⟨_,rfl⟩
 (repeat'((conv=>whnf);first|refine Zg fun _=>?_|refine Zn ?_|refine Z8 ?_|fail))
 refine Ask.mk ⟨{ X:=Nat,pre:=fun i=>i≤a.length,mod:=fun i _=>[(20,I i)],heap:=fun i _=>[V [],V (mulR B9 a b (List.replicate n 0) i)],mu:=fun i=>a.length-i },rfl,?_⟩
 (repeat'((conv=>whnf);first|refine Zn ?_|fail))
 refine ⟨⟨(0:Nat),Nat.zero_le _,?_⟩,fun (i:Nat) (hi:i≤a.length)=>?_⟩
 ·(repeat' first|exact trivial|rfl|apply And.intro)
  show List.replicate _ _=List.replicate _ _
  congr 1;omega
 obtain ⟨g1,g2,g3⟩:=oM (B:=B9) (by decide) ha hb (n:=n) (by omega) i hi
 have ga:=get9 ha i
 (apply Br.mk<;>intro)
 ·have hlt:i<a.length:=by omega
  (repeat'((conv=>whnf);first|refine Zg fun _=>?_|refine Zn ?_|refine Zj ?_|fail))
  refine Ask.mk ⟨{ X:=Nat,pre:=fun k=>k≤b.length+1,mod:=fun k _=>[(28,I k),(8,I (mulK B9 (a.getD i 0) b i (mulR B9 a b (List.replicate n 0) i) k).2)],heap:=fun k _=>[V [],V (mulK B9 (a.getD i 0) b i (mulR B9 a b (List.replicate n 0) i) k).1],mu:=fun k=>b.length+1-k },rfl,?_⟩
  (repeat'((conv=>whnf);first|refine Zn ?_|fail))
  refine ⟨⟨(0:Nat),Nat.zero_le _,by (repeat' first|exact trivial|rfl|apply And.intro)⟩,fun (k:Nat) (hk:k≤b.length+1)=>?_⟩
  obtain ⟨m1,m2,m3,_⟩:=gQ (B:=B9) (by decide) (x:=a.getD i 0) ⟨ga.1,by rw[c9];exact ga.2⟩ hb (i:=i) g2 k (by omega)
  have m3:0≤(mulK B9 (a.getD i 0) b i (mulR B9 a b (List.replicate n 0) i) k).2∧(mulK B9 (a.getD i 0) b i (mulR B9 a b (List.replicate n 0) i) k).2<1000000000:=m3
  have gb:=get9 hb k
  have gm:=get9 m2 (i+k)
  have hm:=aKp ga gb
  (apply Br.mk<;>intro)
  ·have hlt:k<b.length+1:=by omega
   (repeat'((conv=>whnf);first|refine Zg fun _=>?_|refine Za ?_|refine Zn ?_|refine Zj ?_|(apply Pin.mk;apply Exists.intro)|apply Pinned.mk rfl rfl|fail))
   refine ⟨(k+1:Nat),by show b.length+1-(k+1)<b.length+1-k;omega,hlt,?_⟩
   (repeat' first|exact trivial|rfl|apply And.intro)
  ·have e:k=b.length+1:=by omega
   subst e
   (repeat'((conv=>whnf);first|refine Zn ?_|fail))
   refine ⟨(i+1:Nat),by show a.length-(i+1)<a.length-i;omega,hlt,?_⟩
   (repeat' first|exact trivial|rfl|apply And.intro)
 ·have e:i=a.length:=by omega
  subst e
  (conv=>whnf)
  (repeat' first|rfl|apply And.intro)
  exact aFh (B:=B9) (by decide) ha hb (by omega)
def c99:Con:=aBp 188 fun args K=>match args with | [.seq (.int .i64) a,.seq (.int .i64) b]=>Need (InB B9 a∧InB B9 b∧a.length≤100000∧b.length≤100000) (K (.ref 0 1) (.vec 1 (.int .i64) (aA B9 (valB B9 a*valB B9 b).toNat) 3)) | _=>False
theorem k99:aG Tryz.prog c99:=by
 refine aEa (enters_of Tryz.func188 (by kernel_rfl) rfl) ?_
 intro args K h
 split at h
 ·rename_i a b;exact ⟨_,_,_,_,_,h.go,fun hfl=>lL (by simp[k132,k131]) Tryz.func188 (by simp[Tryz.ntmps188]) hfl (b99 a b h.ok)⟩
 ·exact h.elim
abbrev itB (xs:List Int) (k:Nat):List SV:=[I ((xs.length-1-k:Nat)),I (xs.getD (xs.length-1-k) 0)]
theorem b135 (xs:List Int):body Tryz.prog [] {} false Tryz.f217 [Ls xs] (.clo 239 [] [.lelem [Ls xs] 0]):=by
 (conv=>whnf)
 (repeat' first|exact trivial|rfl|apply And.intro)
def c135:Con:=aJ 217 false fun args K=>match args with | [.seq (.int .i64) xs]=>K (.clo 239 [] [.lelem [Ls xs] 0]) | _=>False
theorem k135:aG Tryz.prog c135:=by
 refine kO Tryz.func217 fun args K h=>?_
 simp only[c135] at h;split at h
 ·rename_i xs;exact ⟨_,h,triB Tryz.func217 Tryz.ntmps217 (by simp) (b135 xs)⟩
 ·exact h.elim
theorem b166 (xs:List Int):vW Tryz.prog [] { asks:=[(0,[])] } Tryz.f239 [.lelem [Ls xs] 0] xs.length (itB xs):=by
 (repeat'((conv=>whnf);first|refine Zg fun _=>?_|refine Zn ?_|fail))
 refine Ask.mk ⟨{ X:=Nat,pre:=fun i=>i≤xs.length,mod:=fun i _=>[(3,I ((xs.length:Int)-1-i))],heap:=fun i _=>[.yst (some i) xs.length (itB xs)],mu:=fun i=>xs.length-i },rfl,?_⟩
 (repeat'((conv=>whnf);first|refine Zn ?_|fail))
 refine ⟨⟨(0:Nat),Nat.zero_le _,by (repeat' first|exact trivial|rfl|apply And.intro|omega)⟩,fun (i:Nat) (hi:i≤xs.length)=>?_⟩
 (apply Br.mk<;>intro)
 ·have hlt:i<xs.length:=by omega
  have e:((xs.length:Int)-1-i)=((xs.length-1-i:Nat):Int):=by omega
  (repeat'((conv=>whnf);first|refine Zn ?_|fail))
  refine bX (xs.length-1-i) (by omega) ?_
  (repeat'((conv=>whnf);first|refine Zg fun _=>?_|refine Zn ?_|fail))
  refine Need.mk (by (repeat' first|exact trivial|rfl|apply And.intro);exact e) ?_
  refine Two.mk ?_ ?_
  ·(repeat'((conv=>whnf);first|refine Zn ?_|fail))
   refine ⟨(i+1:Nat),by show xs.length-(i+1)<xs.length-i;omega,hlt,?_⟩
   (repeat' first|exact trivial|rfl|apply And.intro|omega)
  ·(conv=>whnf)
   trivial
 ·(conv=>whnf)
  omega
def c166:Con:=aJ 239 false fun args K=>match args with | [.lelem [.seq (.int .i64) xs] 0]=>K (.itr xs.length (itB xs)) | _=>False
theorem k166:aG Tryz.prog c166:=by
 refine kO Tryz.func239 fun args K h=>?_
 simp only[c166] at h;split at h
 ·rename_i xs;exact ⟨_,h,fU (by simp) Tryz.func239 (by simp[Tryz.ntmps239]) (b166 xs)⟩
 ·exact h.elim
def eD (a b:List Int):Nat→Int
 | 0=>0
 | m+1=>if a.getD m 0=b.getD m 0 then eD a b m else a.getD m 0-b.getD m 0
def cmpL (a b:List Int):Int:=if a.length=b.length then eD a b a.length else (a.length:Int)-b.length
theorem b129 (a b:List Int) (h:InB B9 a∧InB B9 b):body Tryz.prog [c135,c166] { asks:=[(0,[])] } true Tryz.f194 [Ls a,Ls b] (I (cmpL a b)):=by
 obtain ⟨ha,hb⟩:=h
 unfold cmpL
 (repeat'((conv=>whnf);first|refine Zg fun _=>?_|fail))
 (apply Br.mk<;>intro)
 ·rename_i h1
  rw[if_neg (by omega)]
  (repeat'((conv=>whnf);first|refine Zg fun _=>?_|refine Zn ?_|fail))
  (conv=>whnf)
  (repeat' first|rfl|apply And.intro)
 ·rename_i h1
  rw[if_pos (by omega)]
  have hl:a.length=b.length:=by omega
  refine Ask.mk ⟨{ X:=Nat,pre:=fun i=>i≤a.length∧eD a b a.length=eD a b (a.length-i),mod:=fun _ _=>[],heap:=fun _ _=>[.cells [Ls b] 60,.cells [I 0] 3],mu:=fun i=>i },rfl,?_⟩
  (repeat'((conv=>whnf);first|refine Zn ?_|fail))
  refine ⟨⟨(0:Nat),rfl,⟨Nat.zero_le _,rfl⟩,by (repeat' first|exact trivial|rfl|apply And.intro)⟩,fun (i:Nat) hi (hlt:i<a.length)=>?_,fun (i:Nat) hi (he:i=a.length)=>?_⟩
  ·obtain ⟨hi1,hi2⟩:=hi
   obtain ⟨m,hm⟩:∃m,a.length-i=m+1:=⟨a.length-i-1,by omega⟩
   have e1:a.length-1-i=m:=by omega
   have e2:a.length-(i+1)=m:=by omega
   have ga:=get9 ha m
   have gb:=get9 hb m
   rw[hm,eD] at hi2
   have eI:itB a i= [I m,I (a.getD m 0)]:=by rw[itB,e1]
   show hnfL (itB a i) _
   rw[eI]
   (repeat'((conv=>whnf);first|refine Zg fun _=>?_|refine Zn ?_|refine Zj ?_|fail))
   (apply Br.mk<;>intro)
   ·rename_i hne
    rw[if_neg hne] at hi2
    (repeat'((conv=>whnf);first|refine Zg fun _=>?_|refine Zn ?_|refine Zj ?_|fail))
    (conv=>whnf)
    (repeat' first|rfl|apply And.intro)
    exact hi2.symm
   ·rename_i heq
    rw[if_pos (Classical.not_not.1 heq)] at hi2
    refine ⟨(i+1:Nat),rfl,⟨by omega,by rw[e2];exact hi2⟩,by (repeat' first|exact trivial|rfl|apply And.intro)⟩
  ·obtain ⟨hi1,hi2⟩:=hi
   subst he
   rw[Nat.sub_self] at hi2
   (conv=>whnf)
   (repeat' first|rfl|apply And.intro)
   exact hi2.symm
def c129:Con:=aJ 194 true fun args K=>match args with | [.seq (.int .i64) a,.seq (.int .i64) b]=>Need (InB B9 a∧InB B9 b) (K (I (cmpL a b))) | _=>False
theorem k129:aG Tryz.prog c129:=by
 refine kO Tryz.func194 fun args K h=>?_
 simp only[c129] at h;split at h
 ·rename_i a b;exact ⟨_,h.go,triB Tryz.func194 Tryz.ntmps194 (by simp[k135,k166]) (b129 a b h.ok)⟩
 ·exact h.elim
theorem uK {a b:List Int} (ha:InB B9 a) (hb:InB B9 b) (hl:a.length=b.length):∀m,m≤a.length→(∀j,m≤j→j<a.length→a.getD j 0=b.getD j 0)→
  (eD a b m<0↔valB B9 a<valB B9 b)∧(eD a b m=0↔valB B9 a=valB B9 b)
 | 0,_,h=>by
  have:a=b:=gR hl fun j hj=>h j (Nat.zero_le _) hj
  subst this
  simp[eD]
 | m+1,hm,h=>by
  simp only[eD]
  by_cases e:a.getD m 0=b.getD m 0
  ·rw[if_pos e]
   refine uK ha hb hl m (by omega) fun j h1 h2=>?_
   by_cases e2:j=m
   ·rw[e2];exact e
   ·exact h j (by omega) h2
  ·rw[if_neg e]
   rcases Int.lt_or_gt_of_ne e with h1 | h1
   ·have:=uY (B:=B9) (by decide) ha hb hl (by omega) (fun j h2 h3=>h j (by omega) h3) h1
    omega
   ·have:=uY (B:=B9) (by decide) hb ha hl.symm (by omega) (fun j h2 h3=>(h j (by omega) (by omega)).symm) h1
    omega
theorem yM (m n:Nat):(cmpL (aA B9 m) (aA B9 n)<0↔m<n)∧(cmpL (aA B9 m) (aA B9 n)=0↔m=n):=by
 unfold cmpL
 split
 ·rename_i hl
  have:=uK (aO (B:=B9) (by decide) m) (aO (B:=B9) (by decide) n) hl _ (Nat.le_refl _) fun j h1 h2=>by omega
  rw[cG (by decide),cG (by decide)] at this
  omega
 ·rename_i hl
  rcases Nat.lt_or_ge (aA B9 m).length (aA B9 n).length with h | h
  ·have:=fP (B:=B9) (by decide) h
   omega
  ·have:=fP (B:=B9) (by decide) (show (aA B9 n).length<(aA B9 m).length by omega)
   omega
theorem b134 (a:List Int) (d:Int) (h:InB B9 a∧(0<d∧d<1000000000)∧a.length≤100000):body Tryz.prog [c135,c166,c131] { asks:=[(0,[])] } false Tryz.f216 [Ls a,I d] (.tup [Ls (aA B9 (valB B9 a/d).toNat),Ls (aA B9 (valB B9 a%d).toNat)]):=by
 obtain ⟨ha,hd,hla⟩:=h
 obtain ⟨q1,q2,q3⟩:=aFi (B:=B9) (by decide) hd.1 hd.2 ha
 (repeat'((conv=>whnf);first|refine Zg fun _=>?_|refine Z8 ?_|fail))
 refine Ask.mk ⟨{ X:=Nat,pre:=fun i=>i≤a.length,mod:=fun _ _=>[],heap:=fun i _=>[.cells [I d] 3,V [],.cells [.ref 4 1] 60,V [],V (divK B9 d a i).1,.cells [I (divK B9 d a i).2] 3],mu:=fun i=>i },rfl,?_⟩
 (repeat'((conv=>whnf);first|refine Zn ?_|fail))
 refine ⟨⟨(0:Nat),rfl,Nat.zero_le _,?_⟩,fun (i:Nat) hi (hlt:i<a.length)=>?_,fun (i:Nat) hi (he:i=a.length)=>?_⟩
 ·(repeat' first|exact trivial|rfl|apply And.intro)
 ·obtain ⟨g1,g2,g3,_⟩:=iW (B:=B9) (by decide) hd.1 ha i (by omega)
  have ga:=get9 ha (a.length-1-i)
  have hm:=Int.mul_le_mul_of_nonneg_right (show (divK B9 d a i).2≤999999998 by omega) (show (0:Int)≤1000000000 by omega)
  have hm0:=Int.mul_nonneg g3.1 (show (0:Int)≤1000000000 by omega)
  show hnfL (itB a i) _
  (repeat'((conv=>whnf);first|refine Zg fun _=>?_|refine Za ?_|refine Zn ?_|refine Zj ?_|(apply Pin.mk;apply Exists.intro)|apply Pinned.mk rfl rfl|(apply PinH.mk;apply Exists.intro;apply Exists.intro)|exact Zf|refine Zc ?_ ?_|fail))
  refine ⟨(i+1:Nat),rfl,hlt,by (repeat' first|exact trivial|rfl|apply And.intro)⟩
 ·subst he
  (repeat'((conv=>whnf);first|(apply Pin.mk;apply Exists.intro)|apply Pinned.mk rfl rfl|(apply PinH.mk;apply Exists.intro;apply Exists.intro)|exact Zf|refine Zc ?_ ?_|refine Zl ?_|fail))
  (conv=>whnf)
  (repeat' first|exact trivial|apply And.intro)
  ·exact q1
  ·exact q3
def c134:Con:=aJ 216 false fun args K=>match args with | [.seq (.int .i64) a,.val (.int .i64 d)]=>Need (InB B9 a∧(0<d∧d<1000000000)∧a.length≤100000) (K (.tup [Ls (aA B9 (valB B9 a/d).toNat),Ls (aA B9 (valB B9 a%d).toNat)])) | _=>False
theorem k134:aG Tryz.prog c134:=by
 refine kO Tryz.func216 fun args K h=>?_
 simp only[c134] at h;split at h
 ·rename_i a d;exact ⟨_,h.go,triB Tryz.func216 Tryz.ntmps216 (by simp[k135,k166,k131]) (b134 a d h.ok)⟩
 ·exact h.elim
theorem b137 (v:List Int) (j q:Int) (u:List Int) (h:InB B9 u∧InB B9 v∧0≤j∧(0≤q∧q≤8000000000)∧j+v.length+1≤u.length∧u.length≤300000):aDv Tryz.prog [c132] { asks:=[(0,[])] } Tryz.f219 0 true [.any,Ls v,I j,I q] (.int .i64) u 3 (.bl (0<(bE B9 u v j.toNat q (v.length+1)).2) inferInstance) (bE B9 u v j.toNat q (v.length+1)).1:=by
 obtain ⟨hu,hv,hj,hq,hl,hlu⟩:=h
 obtain ⟨j,rfl⟩:∃k:Nat,j=k:=⟨j.toNat,by omega⟩
 rw[Int.toNat_natCast]
 (repeat'((conv=>whnf);first|refine Zg fun _=>?_|refine Zn ?_|fail))
 refine Ask.mk ⟨{ X:=Nat,pre:=fun k=>k≤v.length+1,mod:=fun k _=>[(15,I k),(9,I (bE B9 u v j q k).2)],heap:=fun k _=>[V (bE B9 u v j q k).1],mu:=fun k=>v.length+1-k },rfl,?_⟩
 (repeat'((conv=>whnf);first|refine Zn ?_|fail))
 refine ⟨⟨(0:Nat),Nat.zero_le _,by (repeat' first|exact trivial|rfl|apply And.intro)⟩,fun (k:Nat) (hk:k≤v.length+1)=>?_⟩
 obtain ⟨m1,m2,m3,_⟩:=gS (B:=B9) (by decide) hu hv (j:=j) hq.1 k (by omega)
 have gv:=get9 hv k
 have gm:=get9 m2 (j+k)
 have hm:0≤q*v.getD k 0∧q*v.getD k 0≤8000000000*999999999:=⟨Int.mul_nonneg hq.1 gv.1,Int.le_trans (Int.mul_le_mul_of_nonneg_right hq.2 gv.1) (Int.mul_le_mul_of_nonneg_left (by omega) (by omega))⟩
 (apply Br.mk<;>intro)
 ·have hlt:k<v.length+1:=by omega
  (repeat'((conv=>whnf);first|refine Zg fun _=>?_|refine Zn ?_|refine Zj ?_|(apply Pin.mk;apply Exists.intro)|apply Pinned.mk rfl rfl|fail))
  (apply Br.mk<;>intro)
  ·rename_i hneg
   have ht:bE B9 u v j q (k+1)=((bE B9 u v j q k).1.set (j+k) ((bE B9 u v j q k).1.getD (j+k) 0-(bE B9 u v j q k).2-q*v.getD k 0+(-((bE B9 u v j q k).1.getD (j+k) 0-(bE B9 u v j q k).2-q*v.getD k 0)+1000000000-1)/1000000000*1000000000),(-((bE B9 u v j q k).1.getD (j+k) 0-(bE B9 u v j q k).2-q*v.getD k 0)+1000000000-1)/1000000000):=by
    simp only[bE]
    rw[if_pos hneg]
    rfl
   (repeat'((conv=>whnf);first|refine Za ?_|refine Zn ?_|refine Zj ?_|fail))
   refine ⟨(k+1:Nat),by show v.length+1-(k+1)<v.length+1-k;omega,hlt,?_⟩
   (repeat' first|exact trivial|rfl|apply And.intro)
   all_goals first | exact (congrArg Prod.fst ht).symm | exact (congrArg Prod.snd ht).symm
  ·rename_i hneg
   have ht:bE B9 u v j q (k+1)=((bE B9 u v j q k).1.set (j+k) ((bE B9 u v j q k).1.getD (j+k) 0-(bE B9 u v j q k).2-q*v.getD k 0+0*1000000000),0):=by
    simp only[bE]
    rw[if_neg hneg]
    rfl
   (repeat'((conv=>whnf);first|refine Zn ?_|refine Zj ?_|fail))
   refine ⟨(k+1:Nat),by show v.length+1-(k+1)<v.length+1-k;omega,hlt,?_⟩
   (repeat' first|exact trivial|rfl|apply And.intro)
   all_goals first | exact (congrArg Prod.fst ht).symm | exact (congrArg Prod.snd ht).symm
 ·have e:k=v.length+1:=by omega
  subst e
  (conv=>whnf)
  (repeat' first|rfl|apply And.intro)
def c137:Con:=aF2 219 0 true fun args o K=>match args,o with | [.any,.seq (.int .i64) v,.val (.int .i64 j),.val (.int .i64 q)],.vec 1 (.int .i64) u 3=>Need (InB B9 u∧InB B9 v∧0≤j∧(0≤q∧q≤8000000000)∧j+v.length+1≤u.length∧u.length≤300000) (K (.bl (0<(bE B9 u v j.toNat q (v.length+1)).2) inferInstance) (.vec 1 (.int .i64) ((bE B9 u v j.toNat q (v.length+1)).1) 3)) | _,_=>False
theorem k137:aG Tryz.prog c137:=by
 refine aD9 (enters_of Tryz.func219 (by kernel_rfl) rfl) ?_
 intro args t xs e K hfl h
 split at h
 ·rename_i v j q zs heq
  cases heq
  first | exact ⟨_,_,h.go,eL (by simp[k132]) Tryz.func219 (by simp[Tryz.ntmps219]) rfl (b137 v j q zs h.ok)⟩ | exact ⟨_,_,h.go,eL (by simp[k132]) Tryz.func219 (by simp[Tryz.ntmps219]) rfl (b137 v j q xs h.ok)⟩
 ·exact h.elim
theorem b138 (v:List Int) (j q:Int) (u:List Int) (h:InB B9 u∧InB B9 v∧0≤j∧(0≤q∧q≤8000000000)∧j+v.length+1≤u.length∧u.length≤300000):aDv Tryz.prog [c132] { asks:=[(0,[])] } Tryz.f220 0 true [.any,Ls v,I j,I q] (.int .i64) u 3 (.ref 0 1) (mulK B9 q v j.toNat u (v.length+1)).1:=by
 obtain ⟨hu,hv,hj,hq,hl,hlu⟩:=h
 obtain ⟨j,rfl⟩:∃k:Nat,j=k:=⟨j.toNat,by omega⟩
 rw[Int.toNat_natCast]
 (repeat'((conv=>whnf);first|refine Zg fun _=>?_|refine Zn ?_|fail))
 refine Ask.mk ⟨{ X:=Nat,pre:=fun k=>k≤v.length+1,mod:=fun k _=>[(15,I k),(9,I (mulK B9 q v j u k).2)],heap:=fun k _=>[V (mulK B9 q v j u k).1,V []],mu:=fun k=>v.length+1-k },rfl,?_⟩
 (repeat'((conv=>whnf);first|refine Zn ?_|fail))
 refine ⟨⟨(0:Nat),Nat.zero_le _,by (repeat' first|exact trivial|rfl|apply And.intro)⟩,fun (k:Nat) (hk:k≤v.length+1)=>?_⟩
 obtain ⟨m1,m2,m3,_⟩:=sT (B:=B9) (by decide) (x:=q) hq.1 hv (i:=j) hu k (by omega)
 have gv:=get9 hv k
 have gm:=get9 m2 (j+k)
 have hm:0≤q*v.getD k 0∧q*v.getD k 0≤8000000000*999999999:=⟨Int.mul_nonneg hq.1 gv.1,Int.le_trans (Int.mul_le_mul_of_nonneg_right hq.2 gv.1) (Int.mul_le_mul_of_nonneg_left (by omega) (by omega))⟩
 (apply Br.mk<;>intro)
 ·have hlt:k<v.length+1:=by omega
  (repeat'((conv=>whnf);first|refine Zg fun _=>?_|refine Za ?_|refine Zn ?_|refine Zj ?_|(apply Pin.mk;apply Exists.intro)|apply Pinned.mk rfl rfl|fail))
  refine ⟨(k+1:Nat),by show v.length+1-(k+1)<v.length+1-k;omega,hlt,?_⟩
  (repeat' first|exact trivial|rfl|apply And.intro)
 ·have e:k=v.length+1:=by omega
  subst e
  (conv=>whnf)
  (repeat' first|rfl|apply And.intro)
def c138:Con:=aF2 220 0 true fun args o K=>match args,o with | [.any,.seq (.int .i64) v,.val (.int .i64 j),.val (.int .i64 q)],.vec 1 (.int .i64) u 3=>Need (InB B9 u∧InB B9 v∧0≤j∧(0≤q∧q≤8000000000)∧j+v.length+1≤u.length∧u.length≤300000) (K (.ref 0 1) (.vec 1 (.int .i64) ((mulK B9 q v j.toNat u (v.length+1)).1) 3)) | _,_=>False
theorem k138:aG Tryz.prog c138:=by
 refine aD9 (enters_of Tryz.func220 (by kernel_rfl) rfl) ?_
 intro args t xs e K hfl h
 split at h
 ·rename_i v j q zs heq
  cases heq
  first | exact ⟨_,_,h.go,eL (by simp[k132]) Tryz.func220 (by simp[Tryz.ntmps220]) rfl (b138 v j q zs h.ok)⟩ | exact ⟨_,_,h.go,eL (by simp[k132]) Tryz.func220 (by simp[Tryz.ntmps220]) rfl (b138 v j q xs h.ok)⟩
 ·exact h.elim
abbrev top2 (u v:List Int) (j:Nat):Int:=u.getD (j+v.length) 0*1000000000+u.getD (j+v.length-1) 0
abbrev estL (u v:List Int) (j:Nat):Int:=estF 1000000000 (v.getD (v.length-1) 0) (v.getD (v.length-2) 0) (u.getD (j+v.length-2) 0) 8 (top2 u v j/v.getD (v.length-1) 0) (top2 u v j%v.getD (v.length-1) 0)
def eQ (u v:List Int) (j i:Nat):Int:=top2 u v j/v.getD (v.length-1) 0-i
def eR (u v:List Int) (j i:Nat):Int:=top2 u v j%v.getD (v.length-1) 0+i*v.getD (v.length-1) 0
theorem iP (u v:List Int) (j i:Nat):eR u v j (i+1)=eR u v j i+v.getD (v.length-1) 0:=by
 unfold eR
 have:((i+1:Nat):Int)*v.getD (v.length-1) 0=i*v.getD (v.length-1) 0+v.getD (v.length-1) 0:=by rw[Int.natCast_succ,Int.add_mul,Int.one_mul]
 omega
theorem rT (u v:List Int) (j i:Nat):eQ u v j (i+1)=eQ u v j i-1:=by unfold eQ;omega
theorem b136 (u v:List Int) (j:Int) (h:InB B9 u∧InB B9 v∧0≤j∧2≤v.length∧250000000≤v.getD (v.length-1) 0∧j+v.length+1≤u.length∧u.length≤300000):body Tryz.prog [] { asks:=[(0,[])] } true Tryz.f218 [Ls u,Ls v,I j] (I (estL u v j.toNat)):=by
 obtain ⟨hu,hv,hj,hn,hv1,hl,hlu⟩:=h
 obtain ⟨j,rfl⟩:∃k:Nat,j=k:=⟨j.toNat,by omega⟩
 rw[Int.toNat_natCast]
 have g0:=get9 hu (j+v.length)
 have g1:=get9 hu (j+v.length-1)
 have g2:=get9 hu (j+v.length-2)
 have w1:=get9 hv (v.length-1)
 have w2:=get9 hv (v.length-2)
 (repeat'((conv=>whnf);first|refine Zg fun _=>?_|refine Zn ?_|refine Zj ?_|(apply Pin.mk;apply Exists.intro)|apply Pinned.mk rfl rfl|fail))
 refine bX (j+v.length-1) (by omega) ?_
 (repeat'((conv=>whnf);first|refine Zg fun _=>?_|refine Zn ?_|(apply Pin.mk;apply Exists.intro)|apply Pinned.mk rfl rfl|fail))
 refine bX (v.length-1) (by omega) ?_
 (repeat'((conv=>whnf);first|refine Zg fun _=>?_|refine Za ?_|refine Zn ?_|(apply Pin.mk;apply Exists.intro)|apply Pinned.mk rfl rfl|fail))
 refine bX (v.length-1) (by omega) ?_
 (repeat'((conv=>whnf);first|refine Zg fun _=>?_|refine Za ?_|(apply Pin.mk;apply Exists.intro)|apply Pinned.mk rfl rfl|fail))
 have hT:0≤top2 u v j∧top2 u v j<1000000000000000000:=by unfold top2;omega
 have hr:0≤top2 u v j%v.getD (v.length-1) 0∧top2 u v j%v.getD (v.length-1) 0<v.getD (v.length-1) 0:=⟨Int.emod_nonneg _ (by omega),Int.emod_lt_of_pos _ (by omega)⟩
 have hq:0≤top2 u v j/v.getD (v.length-1) 0∧top2 u v j/v.getD (v.length-1) 0≤4000000000:=by
  refine ⟨Int.ediv_nonneg hT.1 (by omega),?_⟩
  refine Int.le_trans (Int.ediv_le_ediv (by omega) (show top2 u v j≤4000000000*v.getD (v.length-1) 0 by omega)) ?_
  rw[Int.mul_ediv_cancel _ (by omega)]
  exact Int.le_refl _
 refine Ask.mk ⟨{ X:=Nat,pre:=fun i=>eR u v j i<1000000000∧estL u v j=estF 1000000000 (v.getD (v.length-1) 0) (v.getD (v.length-2) 0) (u.getD (j+v.length-2) 0) (8-i) (eQ u v j i) (eR u v j i),mod:=fun i _=>[(9,I (eQ u v j i)),(10,I (eR u v j i))],heap:=fun _ _=>[],mu:=fun i=>8-i },rfl,?_⟩
 (repeat'((conv=>whnf);first|refine Zn ?_|fail))
 refine ⟨⟨(0:Nat),⟨by unfold eR;omega,by simp only[estL,eQ,eR];congr 1<;>omega⟩,?_⟩,fun (i:Nat) hi=>?_⟩
 ·(repeat' first|exact trivial|rfl|apply And.intro)
  ·show top2 u v j/ _= _
   unfold eQ;omega
  ·show top2 u v j% _= _
   unfold eR;omega
 obtain ⟨hi1,hi2⟩:=hi
 have hi4:(i:Int)*250000000≤i*v.getD (v.length-1) 0:=Int.mul_le_mul_of_nonneg_left hv1 (by omega)
 have hi3:i≤3:=by unfold eR at hi1;omega
 have hR:0≤eR u v j i:=by unfold eR;omega
 have hQ: -3≤eQ u v j i∧eQ u v j i≤4000000000:=by unfold eQ;omega
 have hQv: -3*999999999≤eQ u v j i*v.getD (v.length-2) 0∧eQ u v j i*v.getD (v.length-2) 0≤4000000000*999999999:=by
  refine ⟨Int.le_trans (Int.mul_le_mul_of_nonpos_left (by omega) (show v.getD (v.length-2) 0≤999999999 by omega)) (Int.mul_le_mul_of_nonneg_right hQ.1 w2.1),Int.le_trans (Int.mul_le_mul_of_nonneg_right hQ.2 w2.1) (Int.mul_le_mul_of_nonneg_left (by omega) (by omega))⟩
 obtain ⟨f,hf⟩:∃f,8-i=f+1:=⟨7-i,by omega⟩
 have hf1:8-(i+1)=f:=by omega
 rw[hf,estF,← iP,← rT] at hi2
 (repeat'((conv=>whnf);first|(apply Pin.mk;apply Exists.intro)|apply Pinned.mk rfl rfl|fail))
 (apply Br.mk<;>intro)
 ·rename_i hq1
  rw[if_pos (.inl hq1)] at hi2
  (repeat'((conv=>whnf);first|refine Zn ?_|(apply Pin.mk;apply Exists.intro)|apply Pinned.mk rfl rfl|fail))
  refine bX (v.length-1) (by omega) ?_
  (repeat'((conv=>whnf);first|refine Zg fun _=>?_|refine Zn ?_|(apply Pin.mk;apply Exists.intro)|apply Pinned.mk rfl rfl|fail))
  (apply Br.mk<;>intro)
  ·rename_i hb
   rw[iP,if_pos hb,rT] at hi2
   (conv=>whnf)
   (repeat' first|rfl|apply And.intro)
   exact hi2.symm
  ·rename_i hb
   rw[if_neg (by rw[iP];exact hb)] at hi2
   refine ⟨(i+1:Nat),by show 8-(i+1)<8-i;omega,⟨by rw[iP];omega,by rw[hi2,hf1]⟩,?_⟩
   (repeat' first|exact trivial|rfl|apply And.intro)
   ·exact (rT u v j i).symm
   ·exact (iP u v j i).symm
 ·rename_i hq1
  (repeat'((conv=>whnf);first|(apply Pin.mk;apply Exists.intro)|apply Pinned.mk rfl rfl|fail))
  (apply Br.mk<;>intro)
  ·rename_i hr1
   (repeat'((conv=>whnf);first|refine Zn ?_|(apply Pin.mk;apply Exists.intro)|apply Pinned.mk rfl rfl|fail))
   refine bX (v.length-2) (by omega) ?_
   (repeat'((conv=>whnf);first|refine Zg fun _=>?_|refine Zn ?_|(apply Pin.mk;apply Exists.intro)|apply Pinned.mk rfl rfl|fail))
   refine bX (j+v.length-2) (by omega) ?_
   (repeat'((conv=>whnf);first|refine Zg fun _=>?_|refine Zn ?_|(apply Pin.mk;apply Exists.intro)|apply Pinned.mk rfl rfl|fail))
   (apply Br.mk<;>intro)
   ·rename_i hgt
    rw[if_pos (.inr ⟨hr1,hgt⟩)] at hi2
    (repeat'((conv=>whnf);first|refine Zn ?_|(apply Pin.mk;apply Exists.intro)|apply Pinned.mk rfl rfl|fail))
    refine bX (v.length-1) (by omega) ?_
    (repeat'((conv=>whnf);first|refine Zg fun _=>?_|refine Zn ?_|(apply Pin.mk;apply Exists.intro)|apply Pinned.mk rfl rfl|fail))
    (apply Br.mk<;>intro)
    ·rename_i hb
     rw[iP,if_pos hb,rT] at hi2
     (conv=>whnf)
     (repeat' first|rfl|apply And.intro)
     exact hi2.symm
    ·rename_i hb
     rw[if_neg (by rw[iP];exact hb)] at hi2
     refine ⟨(i+1:Nat),by show 8-(i+1)<8-i;omega,⟨by rw[iP];omega,by rw[hi2,hf1]⟩,?_⟩
     (repeat' first|exact trivial|rfl|apply And.intro)
     ·exact (rT u v j i).symm
     ·exact (iP u v j i).symm
   ·rename_i hgt
    rw[if_neg (by omega)] at hi2
    (conv=>whnf)
    (repeat' first|rfl|apply And.intro)
    exact hi2.symm
  ·omega
def c136:Con:=aJ 218 true fun args K=>match args with | [.seq (.int .i64) u,.seq (.int .i64) v,.val (.int .i64 j)]=>Need (InB B9 u∧InB B9 v∧0≤j∧2≤v.length∧250000000≤v.getD (v.length-1) 0∧j+v.length+1≤u.length∧u.length≤300000) (K (I (estL u v j.toNat))) | _=>False
theorem k136:aG Tryz.prog c136:=by
 refine kO Tryz.func218 fun args K h=>?_
 simp only[c136] at h;split at h
 ·rename_i u v j;exact ⟨_,h.go,triB Tryz.func218 Tryz.ntmps218 (by simp) (b136 u v j h.ok)⟩
 ·exact h.elim
end RB
end
section
set_option maxRecDepth 100000
namespace Go.Proofs
open Go.Shelf
def RL.lI_ren:Go.Shelf.Ren:=⟨fun | 171=>68 | 243=>131 | 246=>186 | 283=>224 | 284=>225 | 285=>226 | 286=>227 | 129=>246 | 317=>245 | 318=>247 | 319=>248 | 320=>249 | 337=>265 | 338=>266 | n=>n,fun | 3=>3 | 9=>9 | 2=>2 | 4=>4 | 171=>216 | 0=>0 | 53=>217 | 37=>58 | 5=>5 | 173=>220 | 212=>235 | 51=>236 | 20=>20 | 213=>237 | 46=>238 | 232=>273 | 233=>274 | n=>n,fun | 17=>0 | 18=>4 | 19=>5 | n=>n⟩
theorem RL.lI:Go.Proofs.LaysM.n171 Tryz.prog RL.lI_ren where
 mixed:=by kernel_rfl
 f129:=Tryz.func246.trans (congrArg some (by kernel_rfl))
 f171:=Tryz.func68.trans (congrArg some (by kernel_rfl))
 f243:=Tryz.func131.trans (congrArg some (by kernel_rfl))
 f246:=Tryz.func186.trans (congrArg some (by kernel_rfl))
 f283:=Tryz.func224.trans (congrArg some (by kernel_rfl))
 f284:=Tryz.func225.trans (congrArg some (by kernel_rfl))
 f285:=Tryz.func226.trans (congrArg some (by kernel_rfl))
 f286:=Tryz.func227.trans (congrArg some (by kernel_rfl))
 f317:=Tryz.func245.trans (congrArg some (by kernel_rfl))
 f318:=Tryz.func247.trans (congrArg some (by kernel_rfl))
 f319:=Tryz.func248.trans (congrArg some (by kernel_rfl))
 f320:=Tryz.func249.trans (congrArg some (by kernel_rfl))
 f337:=Tryz.func265.trans (congrArg some (by kernel_rfl))
 f338:=Tryz.func266.trans (congrArg some (by kernel_rfl))
 t0:=Tryz.underlying0
 a0:=Tryz.isAgg0
 z0:=Tryz.sizeOf0
 v0:=Tryz.zeroValue0
 t2:=Tryz.underlying2
 a2:=Tryz.isAgg2
 z2:=Tryz.sizeOf2
 v2:=Tryz.zeroValue2
 t3:=Tryz.underlying3
 a3:=Tryz.isAgg3
 z3:=Tryz.sizeOf3
 v3:=Tryz.zeroValue3
 t4:=Tryz.underlying4
 a4:=Tryz.isAgg4
 z4:=Tryz.sizeOf4
 v4:=Tryz.zeroValue4
 t5:=Tryz.underlying5
 a5:=Tryz.isAgg5
 z5:=Tryz.sizeOf5
 v5:=Tryz.zeroValue5
 t9:=Tryz.underlying9
 a9:=Tryz.isAgg9
 z9:=Tryz.sizeOf9
 v9:=Tryz.zeroValue9
 t20:=Tryz.underlying20
 a20:=Tryz.isAgg20
 z20:=Tryz.sizeOf20
 v20:=Tryz.zeroValue20
 t37:=Tryz.underlying58
 a37:=Tryz.isAgg58
 z37:=Tryz.sizeOf58
 v37:=Tryz.zeroValue58
 t46:=Tryz.underlying238
 a46:=Tryz.isAgg238
 z46:=Tryz.sizeOf238
 v46:=Tryz.zeroValue238
 t51:=Tryz.underlying236
 a51:=Tryz.isAgg236
 z51:=Tryz.sizeOf236
 v51:=Tryz.zeroValue236
 t53:=Tryz.underlying217
 a53:=Tryz.isAgg217
 z53:=Tryz.sizeOf217
 v53:=Tryz.zeroValue217
 t171:=Tryz.underlying216
 a171:=Tryz.isAgg216
 z171:=Tryz.sizeOf216
 v171:=Tryz.zeroValue216
 t173:=Tryz.underlying220
 a173:=Tryz.isAgg220
 z173:=Tryz.sizeOf220
 v173:=Tryz.zeroValue220
 t212:=Tryz.underlying235
 a212:=Tryz.isAgg235
 z212:=Tryz.sizeOf235
 v212:=Tryz.zeroValue235
 t213:=Tryz.underlying237
 a213:=Tryz.isAgg237
 z213:=Tryz.sizeOf237
 t232:=Tryz.underlying273
 a232:=Tryz.isAgg273
 z232:=Tryz.sizeOf273
 v232:=Tryz.zeroValue273
 t233:=Tryz.underlying274
 a233:=Tryz.isAgg274
 z233:=Tryz.sizeOf274
 v233:=Tryz.zeroValue274
 g17:=by kernel_rfl
 g18:=by kernel_rfl
 g19:=by kernel_rfl
 i0:=by kernel_rfl
 i2:=by kernel_rfl
 i3:=by kernel_rfl
 i4:=by kernel_rfl
 i5:=by kernel_rfl
 i9:=by kernel_rfl
 i20:=by kernel_rfl
 i37:=by kernel_rfl
 i46:=by kernel_rfl
 i51:=by kernel_rfl
 i53:=by kernel_rfl
 i171:=by kernel_rfl
 i173:=by kernel_rfl
 i212:=by kernel_rfl
 i232:=by kernel_rfl
 i233:=by kernel_rfl
 m17:=by kernel_rfl
 m18:=by kernel_rfl
 m19:=by kernel_rfl
def RL.lA_ren:Go.Shelf.Ren:=⟨fun | 172=>185 | 244=>222 | 245=>223 | 247=>240 | 279=>241 | 280=>242 | 281=>243 | 282=>244 | 287=>262 | 316=>263 | 171=>68 | 205=>264 | 321=>279 | 322=>280 | 243=>131 | 246=>186 | 283=>224 | 284=>225 | 285=>226 | 286=>227 | 129=>246 | 317=>245 | 318=>247 | 319=>248 | 320=>249 | 337=>265 | 338=>266 | n=>n,fun | 9=>9 | 3=>3 | 75=>186 | 76=>187 | 4=>4 | 5=>5 | 167=>228 | 37=>58 | 0=>0 | 85=>229 | 2=>2 | 168=>231 | 53=>217 | 175=>252 | 46=>238 | 210=>255 | 127=>250 | 145=>272 | 143=>270 | 21=>21 | 171=>216 | 173=>220 | 212=>235 | 51=>236 | 20=>20 | 213=>237 | 232=>273 | 233=>274 | 80=>227 | n=>n,fun | 15=>1 | 16=>2 | 17=>0 | 18=>4 | 19=>5 | n=>n⟩
theorem RL.lA:Go.Proofs.LaysC.n172 Tryz.prog RL.lA_ren where
 mixed:=by kernel_rfl
 f129:=Tryz.func246.trans (congrArg some (by kernel_rfl))
 f171:=Tryz.func68.trans (congrArg some (by kernel_rfl))
 f172:=Tryz.func185.trans (congrArg some (by kernel_rfl))
 f205:=Tryz.func264.trans (congrArg some (by kernel_rfl))
 f243:=Tryz.func131.trans (congrArg some (by kernel_rfl))
 f244:=Tryz.func222.trans (congrArg some (by kernel_rfl))
 f245:=Tryz.func223.trans (congrArg some (by kernel_rfl))
 f246:=Tryz.func186.trans (congrArg some (by kernel_rfl))
 f247:=Tryz.func240.trans (congrArg some (by kernel_rfl))
 f279:=Tryz.func241.trans (congrArg some (by kernel_rfl))
 f280:=Tryz.func242.trans (congrArg some (by kernel_rfl))
 f281:=Tryz.func243.trans (congrArg some (by kernel_rfl))
 f282:=Tryz.func244.trans (congrArg some (by kernel_rfl))
 f283:=Tryz.func224.trans (congrArg some (by kernel_rfl))
 f284:=Tryz.func225.trans (congrArg some (by kernel_rfl))
 f285:=Tryz.func226.trans (congrArg some (by kernel_rfl))
 f286:=Tryz.func227.trans (congrArg some (by kernel_rfl))
 f287:=Tryz.func262.trans (congrArg some (by kernel_rfl))
 f316:=Tryz.func263.trans (congrArg some (by kernel_rfl))
 f317:=Tryz.func245.trans (congrArg some (by kernel_rfl))
 f318:=Tryz.func247.trans (congrArg some (by kernel_rfl))
 f319:=Tryz.func248.trans (congrArg some (by kernel_rfl))
 f320:=Tryz.func249.trans (congrArg some (by kernel_rfl))
 f321:=Tryz.func279.trans (congrArg some (by kernel_rfl))
 f322:=Tryz.func280.trans (congrArg some (by kernel_rfl))
 f337:=Tryz.func265.trans (congrArg some (by kernel_rfl))
 f338:=Tryz.func266.trans (congrArg some (by kernel_rfl))
 t0:=Tryz.underlying0
 a0:=Tryz.isAgg0
 z0:=Tryz.sizeOf0
 v0:=Tryz.zeroValue0
 t2:=Tryz.underlying2
 a2:=Tryz.isAgg2
 z2:=Tryz.sizeOf2
 v2:=Tryz.zeroValue2
 t3:=Tryz.underlying3
 a3:=Tryz.isAgg3
 z3:=Tryz.sizeOf3
 v3:=Tryz.zeroValue3
 t4:=Tryz.underlying4
 a4:=Tryz.isAgg4
 z4:=Tryz.sizeOf4
 v4:=Tryz.zeroValue4
 t5:=Tryz.underlying5
 a5:=Tryz.isAgg5
 z5:=Tryz.sizeOf5
 v5:=Tryz.zeroValue5
 t9:=Tryz.underlying9
 a9:=Tryz.isAgg9
 z9:=Tryz.sizeOf9
 v9:=Tryz.zeroValue9
 t20:=Tryz.underlying20
 a20:=Tryz.isAgg20
 z20:=Tryz.sizeOf20
 v20:=Tryz.zeroValue20
 t21:=Tryz.underlying21
 a21:=Tryz.isAgg21
 z21:=Tryz.sizeOf21
 v21:=Tryz.zeroValue21
 t37:=Tryz.underlying58
 a37:=Tryz.isAgg58
 z37:=Tryz.sizeOf58
 v37:=Tryz.zeroValue58
 t46:=Tryz.underlying238
 a46:=Tryz.isAgg238
 z46:=Tryz.sizeOf238
 v46:=Tryz.zeroValue238
 t51:=Tryz.underlying236
 a51:=Tryz.isAgg236
 z51:=Tryz.sizeOf236
 v51:=Tryz.zeroValue236
 t53:=Tryz.underlying217
 a53:=Tryz.isAgg217
 z53:=Tryz.sizeOf217
 v53:=Tryz.zeroValue217
 t75:=Tryz.underlying186
 a75:=Tryz.isAgg186
 z75:=Tryz.sizeOf186
 v75:=Tryz.zeroValue186
 t76:=Tryz.underlying187
 a76:=Tryz.isAgg187
 z76:=Tryz.sizeOf187
 v76:=Tryz.zeroValue187
 t85:=Tryz.underlying229
 a85:=Tryz.isAgg229
 z85:=Tryz.sizeOf229
 v85:=Tryz.zeroValue229
 t127:=Tryz.underlying250
 a127:=Tryz.isAgg250
 z127:=Tryz.sizeOf250
 v127:=Tryz.zeroValue250
 t143:=Tryz.underlying270
 a143:=Tryz.isAgg270
 z143:=Tryz.sizeOf270
 v143:=Tryz.zeroValue270
 t145:=Tryz.underlying272
 a145:=Tryz.isAgg272
 z145:=Tryz.sizeOf272
 v145:=Tryz.zeroValue272
 t167:=Tryz.underlying228
 a167:=Tryz.isAgg228
 z167:=Tryz.sizeOf228
 v167:=Tryz.zeroValue228
 t168:=Tryz.underlying231
 a168:=Tryz.isAgg231
 z168:=Tryz.sizeOf231
 v168:=Tryz.zeroValue231
 t171:=Tryz.underlying216
 a171:=Tryz.isAgg216
 z171:=Tryz.sizeOf216
 v171:=Tryz.zeroValue216
 t173:=Tryz.underlying220
 a173:=Tryz.isAgg220
 z173:=Tryz.sizeOf220
 v173:=Tryz.zeroValue220
 t175:=Tryz.underlying252
 a175:=Tryz.isAgg252
 z175:=Tryz.sizeOf252
 v175:=Tryz.zeroValue252
 t210:=Tryz.underlying255
 a210:=Tryz.isAgg255
 z210:=Tryz.sizeOf255
 v210:=Tryz.zeroValue255
 t212:=Tryz.underlying235
 a212:=Tryz.isAgg235
 z212:=Tryz.sizeOf235
 v212:=Tryz.zeroValue235
 t213:=Tryz.underlying237
 a213:=Tryz.isAgg237
 z213:=Tryz.sizeOf237
 t232:=Tryz.underlying273
 a232:=Tryz.isAgg273
 z232:=Tryz.sizeOf273
 v232:=Tryz.zeroValue273
 t233:=Tryz.underlying274
 a233:=Tryz.isAgg274
 z233:=Tryz.sizeOf274
 v233:=Tryz.zeroValue274
 g15:=by kernel_rfl
 g16:=by kernel_rfl
 g17:=by kernel_rfl
 g18:=by kernel_rfl
 g19:=by kernel_rfl
 t80:=Tryz.underlying227
 a80:=Tryz.isAgg227
 z80:=Tryz.sizeOf227
 v80:=Tryz.zeroValue227
 i0:=by kernel_rfl
 i2:=by kernel_rfl
 i3:=by kernel_rfl
 i4:=by kernel_rfl
 i5:=by kernel_rfl
 i9:=by kernel_rfl
 i20:=by kernel_rfl
 i21:=by kernel_rfl
 i37:=by kernel_rfl
 i46:=by kernel_rfl
 i51:=by kernel_rfl
 i53:=by kernel_rfl
 i75:=by kernel_rfl
 i76:=by kernel_rfl
 i80:=by kernel_rfl
 i85:=by kernel_rfl
 i127:=by kernel_rfl
 i143:=by kernel_rfl
 i145:=by kernel_rfl
 i167:=by kernel_rfl
 i168:=by kernel_rfl
 i171:=by kernel_rfl
 i173:=by kernel_rfl
 i175:=by kernel_rfl
 i210:=by kernel_rfl
 i212:=by kernel_rfl
 i232:=by kernel_rfl
 i233:=by kernel_rfl
 m15:=by kernel_rfl
 m16:=by kernel_rfl
 m17:=by kernel_rfl
 m18:=by kernel_rfl
 m19:=by kernel_rfl
 c0:=by kernel_rfl
 c2:=by kernel_rfl
 c3:=by kernel_rfl
 c4:=by kernel_rfl
 c5:=by kernel_rfl
 c9:=by kernel_rfl
 c20:=by kernel_rfl
 c21:=by kernel_rfl
 c37:=by kernel_rfl
 c46:=by kernel_rfl
 c51:=by kernel_rfl
 c53:=by kernel_rfl
 c75:=by kernel_rfl
 c76:=by kernel_rfl
 c80:=by kernel_rfl
 c85:=by kernel_rfl
 c127:=by kernel_rfl
 c143:=by kernel_rfl
 c145:=by kernel_rfl
 c167:=by kernel_rfl
 c168:=by kernel_rfl
 c171:=by kernel_rfl
 c173:=by kernel_rfl
 c175:=by kernel_rfl
 c210:=by kernel_rfl
 c212:=by kernel_rfl
 c213:=by kernel_rfl
 c232:=by kernel_rfl
 c233:=by kernel_rfl
def RL.lR_ren:Go.Shelf.Ren:=⟨fun | 105=>233 | 212=>258 | 99=>142 | 165=>259 | 166=>232 | 170=>260 | 169=>234 | 263=>272 | 264=>273 | 206=>195 | 240=>257 | 241=>274 | 276=>271 | 277=>284 | n=>n,fun | 9=>9 | 3=>3 | 4=>4 | 20=>20 | 0=>0 | 46=>238 | 109=>247 | 5=>5 | 72=>224 | 76=>187 | 51=>236 | 146=>264 | 53=>217 | 148=>266 | 70=>222 | 37=>58 | 75=>186 | 127=>250 | 164=>262 | 80=>227 | n=>n,fun | n=>n⟩
theorem RL.lR:Go.Proofs.Lays.n105 Tryz.prog RL.lR_ren where
 mixed:=by kernel_rfl
 f99:=Tryz.func142.trans (congrArg some (by kernel_rfl))
 f105:=Tryz.func233.trans (congrArg some (by kernel_rfl))
 f165:=Tryz.func259.trans (congrArg some (by kernel_rfl))
 f166:=Tryz.func232.trans (congrArg some (by kernel_rfl))
 f169:=Tryz.func234.trans (congrArg some (by kernel_rfl))
 f170:=Tryz.func260.trans (congrArg some (by kernel_rfl))
 f206:=Tryz.func195.trans (congrArg some (by kernel_rfl))
 f212:=Tryz.func258.trans (congrArg some (by kernel_rfl))
 f240:=Tryz.func257.trans (congrArg some (by kernel_rfl))
 f241:=Tryz.func274.trans (congrArg some (by kernel_rfl))
 f263:=Tryz.func272.trans (congrArg some (by kernel_rfl))
 f264:=Tryz.func273.trans (congrArg some (by kernel_rfl))
 f276:=Tryz.func271.trans (congrArg some (by kernel_rfl))
 f277:=Tryz.func284.trans (congrArg some (by kernel_rfl))
 t0:=Tryz.underlying0
 a0:=Tryz.isAgg0
 z0:=Tryz.sizeOf0
 v0:=Tryz.zeroValue0
 t3:=Tryz.underlying3
 a3:=Tryz.isAgg3
 z3:=Tryz.sizeOf3
 v3:=Tryz.zeroValue3
 t4:=Tryz.underlying4
 a4:=Tryz.isAgg4
 z4:=Tryz.sizeOf4
 v4:=Tryz.zeroValue4
 t5:=Tryz.underlying5
 a5:=Tryz.isAgg5
 z5:=Tryz.sizeOf5
 v5:=Tryz.zeroValue5
 t9:=Tryz.underlying9
 a9:=Tryz.isAgg9
 z9:=Tryz.sizeOf9
 v9:=Tryz.zeroValue9
 t20:=Tryz.underlying20
 a20:=Tryz.isAgg20
 z20:=Tryz.sizeOf20
 v20:=Tryz.zeroValue20
 t37:=Tryz.underlying58
 a37:=Tryz.isAgg58
 z37:=Tryz.sizeOf58
 v37:=Tryz.zeroValue58
 t46:=Tryz.underlying238
 a46:=Tryz.isAgg238
 z46:=Tryz.sizeOf238
 v46:=Tryz.zeroValue238
 t51:=Tryz.underlying236
 a51:=Tryz.isAgg236
 z51:=Tryz.sizeOf236
 v51:=Tryz.zeroValue236
 t53:=Tryz.underlying217
 a53:=Tryz.isAgg217
 z53:=Tryz.sizeOf217
 v53:=Tryz.zeroValue217
 t70:=Tryz.underlying222
 a70:=Tryz.isAgg222
 z70:=Tryz.sizeOf222
 v70:=Tryz.zeroValue222
 t72:=Tryz.underlying224
 a72:=Tryz.isAgg224
 z72:=Tryz.sizeOf224
 v72:=Tryz.zeroValue224
 t75:=Tryz.underlying186
 a75:=Tryz.isAgg186
 z75:=Tryz.sizeOf186
 v75:=Tryz.zeroValue186
 t76:=Tryz.underlying187
 a76:=Tryz.isAgg187
 z76:=Tryz.sizeOf187
 v76:=Tryz.zeroValue187
 t109:=Tryz.underlying247
 a109:=Tryz.isAgg247
 z109:=Tryz.sizeOf247
 v109:=Tryz.zeroValue247
 t127:=Tryz.underlying250
 a127:=Tryz.isAgg250
 z127:=Tryz.sizeOf250
 v127:=Tryz.zeroValue250
 t146:=Tryz.underlying264
 a146:=Tryz.isAgg264
 z146:=Tryz.sizeOf264
 v146:=Tryz.zeroValue264
 t148:=Tryz.underlying266
 a148:=Tryz.isAgg266
 z148:=Tryz.sizeOf266
 v148:=Tryz.zeroValue266
 t164:=Tryz.underlying262
 a164:=Tryz.isAgg262
 z164:=Tryz.sizeOf262
 v164:=Tryz.zeroValue262
def RL.lT_ren:Go.Shelf.Ren:=⟨fun | 160=>228 | 232=>251 | 231=>250 | 227=>252 | 234=>254 | 233=>253 | 236=>256 | 235=>255 | 228=>267 | 271=>270 | 151=>269 | 197=>268 | 120=>283 | 152=>282 | 260=>281 | 137=>287 | 119=>288 | 224=>277 | 225=>276 | 217=>275 | 266=>285 | n=>n,fun | 9=>9 | 4=>4 | 3=>3 | 5=>5 | 117=>243 | 116=>242 | 0=>0 | 124=>246 | 21=>21 | 105=>259 | 46=>238 | 119=>278 | 139=>281 | 138=>280 | n=>n,fun | 3=>6 | 4=>7 | n=>n⟩
theorem RL.lT:Go.Proofs.Lays.n160 Tryz.prog RL.lT_ren where
 mixed:=by kernel_rfl
 f119:=Tryz.func288.trans (congrArg some (by kernel_rfl))
 f120:=Tryz.func283.trans (congrArg some (by kernel_rfl))
 f137:=Tryz.func287.trans (congrArg some (by kernel_rfl))
 f151:=Tryz.func269.trans (congrArg some (by kernel_rfl))
 f152:=Tryz.func282.trans (congrArg some (by kernel_rfl))
 f160:=Tryz.func228.trans (congrArg some (by kernel_rfl))
 f197:=Tryz.func268.trans (congrArg some (by kernel_rfl))
 f217:=Tryz.func275.trans (congrArg some (by kernel_rfl))
 f224:=Tryz.func277.trans (congrArg some (by kernel_rfl))
 f225:=Tryz.func276.trans (congrArg some (by kernel_rfl))
 f227:=Tryz.func252.trans (congrArg some (by kernel_rfl))
 f228:=Tryz.func267.trans (congrArg some (by kernel_rfl))
 f231:=Tryz.func250.trans (congrArg some (by kernel_rfl))
 f232:=Tryz.func251.trans (congrArg some (by kernel_rfl))
 f233:=Tryz.func253.trans (congrArg some (by kernel_rfl))
 f234:=Tryz.func254.trans (congrArg some (by kernel_rfl))
 f235:=Tryz.func255.trans (congrArg some (by kernel_rfl))
 f236:=Tryz.func256.trans (congrArg some (by kernel_rfl))
 f260:=Tryz.func281.trans (congrArg some (by kernel_rfl))
 f266:=Tryz.func285.trans (congrArg some (by kernel_rfl))
 f271:=Tryz.func270.trans (congrArg some (by kernel_rfl))
 t0:=Tryz.underlying0
 a0:=Tryz.isAgg0
 z0:=Tryz.sizeOf0
 v0:=Tryz.zeroValue0
 t3:=Tryz.underlying3
 a3:=Tryz.isAgg3
 z3:=Tryz.sizeOf3
 v3:=Tryz.zeroValue3
 t4:=Tryz.underlying4
 a4:=Tryz.isAgg4
 z4:=Tryz.sizeOf4
 v4:=Tryz.zeroValue4
 t5:=Tryz.underlying5
 a5:=Tryz.isAgg5
 z5:=Tryz.sizeOf5
 v5:=Tryz.zeroValue5
 t9:=Tryz.underlying9
 a9:=Tryz.isAgg9
 z9:=Tryz.sizeOf9
 v9:=Tryz.zeroValue9
 t21:=Tryz.underlying21
 a21:=Tryz.isAgg21
 z21:=Tryz.sizeOf21
 v21:=Tryz.zeroValue21
 t46:=Tryz.underlying238
 a46:=Tryz.isAgg238
 z46:=Tryz.sizeOf238
 v46:=Tryz.zeroValue238
 t105:=Tryz.underlying259
 a105:=Tryz.isAgg259
 z105:=Tryz.sizeOf259
 v105:=Tryz.zeroValue259
 t116:=Tryz.underlying242
 a116:=Tryz.isAgg242
 z116:=Tryz.sizeOf242
 t117:=Tryz.underlying243
 a117:=Tryz.isAgg243
 z117:=Tryz.sizeOf243
 v117:=Tryz.zeroValue243
 t119:=Tryz.underlying278
 a119:=Tryz.isAgg278
 z119:=Tryz.sizeOf278
 t124:=Tryz.underlying246
 a124:=Tryz.isAgg246
 z124:=Tryz.sizeOf246
 v124:=Tryz.zeroValue246
 t138:=Tryz.underlying280
 a138:=Tryz.isAgg280
 z138:=Tryz.sizeOf280
 v138:=Tryz.zeroValue280
 t139:=Tryz.underlying281
 a139:=Tryz.isAgg281
 z139:=Tryz.sizeOf281
 v139:=Tryz.zeroValue281
 g3:=by kernel_rfl
 g4:=by kernel_rfl
def RL.lX_ren:Go.Shelf.Ren:=⟨fun | 219=>261 | 217=>275 | 225=>276 | 224=>277 | 267=>278 | 266=>285 | 314=>286 | n=>n,fun | 9=>9 | 3=>3 | 4=>4 | 5=>5 | 46=>238 | 146=>264 | 51=>236 | n=>n,fun | 1=>3 | n=>n⟩
theorem RL.lX:Go.Proofs.Lays.n219 Tryz.prog RL.lX_ren where
 mixed:=by kernel_rfl
 f217:=Tryz.func275.trans (congrArg some (by kernel_rfl))
 f219:=Tryz.func261.trans (congrArg some (by kernel_rfl))
 f224:=Tryz.func277.trans (congrArg some (by kernel_rfl))
 f225:=Tryz.func276.trans (congrArg some (by kernel_rfl))
 f266:=Tryz.func285.trans (congrArg some (by kernel_rfl))
 f267:=Tryz.func278.trans (congrArg some (by kernel_rfl))
 f314:=Tryz.func286.trans (congrArg some (by kernel_rfl))
 t3:=Tryz.underlying3
 a3:=Tryz.isAgg3
 z3:=Tryz.sizeOf3
 v3:=Tryz.zeroValue3
 t4:=Tryz.underlying4
 a4:=Tryz.isAgg4
 z4:=Tryz.sizeOf4
 v4:=Tryz.zeroValue4
 t5:=Tryz.underlying5
 a5:=Tryz.isAgg5
 z5:=Tryz.sizeOf5
 v5:=Tryz.zeroValue5
 t9:=Tryz.underlying9
 a9:=Tryz.isAgg9
 z9:=Tryz.sizeOf9
 v9:=Tryz.zeroValue9
 t46:=Tryz.underlying238
 a46:=Tryz.isAgg238
 z46:=Tryz.sizeOf238
 v46:=Tryz.zeroValue238
 t51:=Tryz.underlying236
 a51:=Tryz.isAgg236
 z51:=Tryz.sizeOf236
 v51:=Tryz.zeroValue236
 t146:=Tryz.underlying264
 a146:=Tryz.isAgg264
 z146:=Tryz.sizeOf264
 v146:=Tryz.zeroValue264
 g1:=by kernel_rfl
def RL.lC_ren:Go.Shelf.Ren:=⟨fun | 240=>257 | 276=>271 | n=>n,fun | 70=>222 | 0=>0 | 72=>224 | 4=>4 | 164=>262 | 37=>58 | 5=>5 | n=>n,fun | n=>n⟩
theorem RL.lC:Go.Proofs.Lays.n240 Tryz.prog RL.lC_ren where
 mixed:=by kernel_rfl
 f240:=Tryz.func257.trans (congrArg some (by kernel_rfl))
 f276:=Tryz.func271.trans (congrArg some (by kernel_rfl))
 t0:=Tryz.underlying0
 a0:=Tryz.isAgg0
 z0:=Tryz.sizeOf0
 v0:=Tryz.zeroValue0
 t4:=Tryz.underlying4
 a4:=Tryz.isAgg4
 z4:=Tryz.sizeOf4
 v4:=Tryz.zeroValue4
 t9:=Tryz.underlying9
 a9:=Tryz.isAgg9
 z9:=Tryz.sizeOf9
 v9:=Tryz.zeroValue9
 t20:=Tryz.underlying20
 a20:=Tryz.isAgg20
 z20:=Tryz.sizeOf20
 v20:=Tryz.zeroValue20
 t70:=Tryz.underlying222
 a70:=Tryz.isAgg222
 z70:=Tryz.sizeOf222
 v70:=Tryz.zeroValue222
 t72:=Tryz.underlying224
 a72:=Tryz.isAgg224
 z72:=Tryz.sizeOf224
 v72:=Tryz.zeroValue224
 t164:=Tryz.underlying262
 a164:=Tryz.isAgg262
 z164:=Tryz.sizeOf262
 v164:=Tryz.zeroValue262
def RL.lS_ren:Go.Shelf.Ren:=⟨fun | 169=>234 | n=>n,fun | 70=>222 | 9=>9 | 0=>0 | 72=>224 | 37=>58 | 127=>250 | 3=>3 | 5=>5 | n=>n,fun | n=>n⟩
theorem RL.lS:Go.Proofs.Lays.n169 Tryz.prog RL.lS_ren where
 mixed:=by kernel_rfl
 f169:=Tryz.func234.trans (congrArg some (by kernel_rfl))
 t0:=Tryz.underlying0
 a0:=Tryz.isAgg0
 z0:=Tryz.sizeOf0
 v0:=Tryz.zeroValue0
 t3:=Tryz.underlying3
 a3:=Tryz.isAgg3
 z3:=Tryz.sizeOf3
 v3:=Tryz.zeroValue3
 t9:=Tryz.underlying9
 a9:=Tryz.isAgg9
 z9:=Tryz.sizeOf9
 v9:=Tryz.zeroValue9
 t37:=Tryz.underlying58
 a37:=Tryz.isAgg58
 z37:=Tryz.sizeOf58
 v37:=Tryz.zeroValue58
 t70:=Tryz.underlying222
 a70:=Tryz.isAgg222
 z70:=Tryz.sizeOf222
 v70:=Tryz.zeroValue222
 t72:=Tryz.underlying224
 a72:=Tryz.isAgg224
 z72:=Tryz.sizeOf224
 v72:=Tryz.zeroValue224
 t127:=Tryz.underlying250
 a127:=Tryz.isAgg250
 z127:=Tryz.sizeOf250
 v127:=Tryz.zeroValue250
end Go.Proofs
end
section
open Go Go.Proofs Go.Eng Go.Shelf IB Go.Lib Go.RowKit
namespace RB
def hasP (s p:List UInt8):Prop:=p.length≤s.length∧s.take p.length=p
instance (s p:List UInt8):Decidable (hasP s p):=by unfold hasP;infer_instance
def uL (s p:List UInt8):List UInt8:=if hasP s p then s.drop p.length else s
theorem mH (s:List UInt8):hasP s [45]↔s.headD 0=45:=by
 cases s with
 | nil=>simp[hasP]
 | cons c r=>simp[hasP]
theorem uM (s:List UInt8):uL s [45]=digs s:=by
 unfold uL digs
 by_cases h:s.headD 0=45
 ·rw[if_pos h,if_pos ((mH s).2 h)]
  cases s<;>rfl
 ·rw[if_neg h,if_neg (fun e=>h ((mH s).1 e))]
theorem b126 (s p:List UInt8):body Tryz.prog [] {} true Tryz.f195 [S s,S p] (.bl (hasP s p) inferInstance):=by
 (repeat'((conv=>whnf);first|refine Zg fun _=>?_|fail))
 (apply Br.mk<;>intro)
 ·rename_i h
  (repeat'((conv=>whnf);first|refine Zg fun _=>?_|refine Zn ?_|refine Zj ?_|fail))
  (conv=>whnf)
  unfold hasP
  exact ⟨fun e=>⟨by omega,e⟩,fun e=>e.2⟩
 ·rename_i h
  (conv=>whnf)
  intro e
  exact h (by have:=e.1;omega)
def c126:Con:=aJ 195 true fun args K=>match args with | [.str s,.str p]=>K (.bl (hasP s p) inferInstance) | _=>False
theorem k126:aG Tryz.prog c126:=by
 refine kO Tryz.func195 fun args K h=>?_
 simp only[c126] at h;split at h
 ·rename_i s p;exact ⟨_,h,triB Tryz.func195 Tryz.ntmps195 (by simp) (b126 s p)⟩
 ·exact h.elim
theorem b91 (s:List UInt8):body Tryz.prog [c126] {} true Tryz.f142 [S s,S [45]] (.bl (s.headD 0=45) inferInstance):=by
 (conv=>whnf)
 exact mH s
def c91:Con:=aJ 142 true fun args K=>match args with | [.str s,.str p]=>Need (p= [45]) (K (.bl (s.headD 0=45) inferInstance)) | _=>False
theorem k91:aG Tryz.prog c91:=by
 refine kO Tryz.func142 fun args K h=>?_
 simp only[c91] at h;split at h
 ·rename_i s p
  obtain ⟨rfl,h⟩:=h
  exact ⟨_,h,triB Tryz.func142 Tryz.ntmps142 (by simp[k126]) (b91 s)⟩
 ·exact h.elim
theorem b125 (s p:List UInt8):body Tryz.prog [c126] {} true Tryz.f214 [S s,S p] (S (uL s p)):=by
 unfold uL
 (apply Br.mk<;>intro)
 ·rename_i h
  rw[if_pos h]
  have:=h.1
  (repeat'((conv=>whnf);first|refine Zg fun _=>?_|refine Zn ?_|refine Zj ?_|fail))
  (conv=>whnf)
 ·rename_i h
  rw[if_neg h]
  (conv=>whnf)
def c125:Con:=aJ 214 true fun args K=>match args with | [.str s,.str p]=>K (.str (uL s p)) | _=>False
theorem k125:aG Tryz.prog c125:=by
 refine kO Tryz.func214 fun args K h=>?_
 simp only[c125] at h;split at h
 ·rename_i s p;exact ⟨_,h,triB Tryz.func214 Tryz.ntmps214 (by simp[k126]) (b125 s p)⟩
 ·exact h.elim
theorem b88 (s:List UInt8):body Tryz.prog [c125] {} true Tryz.f176 [S s,S [45]] (S (digs s)):=by
 rw[← uM]
 (conv=>whnf)
def c88:Con:=aJ 176 true fun args K=>match args with | [.str s,.str p]=>Need (p= [45]) (K (S (digs s))) | _=>False
theorem k88:aG Tryz.prog c88:=by
 refine kO Tryz.func176 fun args K h=>?_
 simp only[c88] at h;split at h
 ·rename_i s p
  obtain ⟨rfl,h⟩:=h
  exact ⟨_,h,triB Tryz.func176 Tryz.ntmps176 (by simp[k125]) (b88 s)⟩
 ·exact h.elim
theorem b155 (s p:List UInt8):body Tryz.prog [c126] {} true Tryz.f229 [S s,S p] (.tup [S (uL s p),.bl (hasP s p) inferInstance]):=by
 unfold uL
 (apply Br.mk<;>intro)
 ·rename_i h
  rw[if_neg h]
  (conv=>whnf)
  (repeat' first|exact trivial|rfl|apply And.intro)
  exact h
 ·rename_i h
  have h:=Classical.not_not.1 h
  rw[if_pos h]
  have:=h.1
  (repeat'((conv=>whnf);first|refine Zg fun _=>?_|refine Zn ?_|refine Zj ?_|fail))
  (conv=>whnf)
  (repeat' first|exact trivial|rfl|apply And.intro)
  all_goals first | exact h | exact h.1 | exact h.2
def c155:Con:=aJ 229 true fun args K=>match args with | [.str s,.str p]=>K (.tup [S (uL s p),.bl (hasP s p) inferInstance]) | _=>False
theorem k155:aG Tryz.prog c155:=by
 refine kO Tryz.func229 fun args K h=>?_
 simp only[c155] at h;split at h
 ·rename_i s p;exact ⟨_,h,triB Tryz.func229 Tryz.ntmps229 (by simp[k126]) (b155 s p)⟩
 ·exact h.elim
theorem b123 (s:List UInt8):body Tryz.prog [c155] {} true Tryz.f190 [S s,S [45]] (.tup [S (digs s),.bl (s.headD 0=45) inferInstance]):=by
 rw[← uM]
 (conv=>whnf)
 (repeat' first|exact trivial|rfl|apply And.intro)
 exact mH s
def c123:Con:=aJ 190 true fun args K=>match args with | [.str s,.str p]=>Need (p= [45]) (K (.tup [S (digs s),.bl (s.headD 0=45) inferInstance])) | _=>False
theorem k123:aG Tryz.prog c123:=by
 refine kO Tryz.func190 fun args K h=>?_
 simp only[c123] at h;split at h
 ·rename_i s p
  obtain ⟨rfl,h⟩:=h
  exact ⟨_,h,triB Tryz.func190 Tryz.ntmps190 (by simp[k155]) (b123 s)⟩
 ·exact h.elim
theorem rU {E:Env} {s:List UInt8} {vs:List Value} (h:RelL E [.str s] vs):vs= [.string ⟨s.toArray⟩]∧s.length≤maxL:=by
 obtain ⟨v,rfl,h1⟩:=h.one
 cases h1 with
 | str _ hl=>exact ⟨rfl,hl⟩
theorem aFr {E:Env} {k:IntKind} {n:Int} {vs:List Value} (h:RelL E [.val (.int k n)] vs):vs= [.int k n]∧inK k n:=by
 obtain ⟨v,rfl,h1⟩:=h.one
 obtain ⟨rfl,h2⟩:=h1.int_inv
 exact ⟨rfl,h2⟩
theorem aMv {ok:Nat→Prop} {w:World} (h:GW Tryz.prog ok w):Lib.TabIs Tryz.prog w "internal/strconv.uint64pow10" .u64 Lib.pow10Tab:=by
 obtain ⟨cs,h1,h2⟩:=h.var (n:= "internal/strconv.uint64pow10") (by simp[gnames]) (g:=0) (by kernel_rfl)
 unfold Lib.TabIs
 rw[h1,h2.pow rfl]
 rfl
theorem aHe (n:Nat) (h:n≤9223372036854775808):(decDigits n).length≤20:=IB.eV 19 n (by omega)
theorem aMw (n:Int) (h:inK .i64 n):(itoa n).length≤maxL:=by
 have h: -9223372036854775808≤n∧n≤9223372036854775807:=h
 have h1:=aHe n.natAbs (by omega)
 rw[← bO] at h1
 have h2:(itoa n).length≤(digs (itoa n)).length+1:=by
  unfold digs
  split
  ·rw[List.length_tail];omega
  ·omega
 show _≤140737488355328
 omega
theorem t61 (n:Int):Tri Tryz.prog true 68 [I n] (S (itoa n)):=by
 intro ok w vs hg hok hr
 obtain ⟨rfl,hn⟩:=aFr hr
 have hn': -9223372036854775808≤n∧n≤9223372036854775807:=hn
 refine (Any.strconv_Itoa RL.lI n hn'.1 hn'.2 w (aMv hg)).mono ?_
 rintro e w' ⟨rfl,k,os,rfl⟩
 exact ⟨_,rfl,Lib.below_grow _ _ (Nat.le_refl _) _ _,.str _ (aMw n hn)⟩
def c61:Con:=aJ 68 true fun args K=>match args with | [.val (.int .i64 n)]=>K (S (itoa n)) | _=>False
theorem k61:aG Tryz.prog c61:=by
 refine kO Tryz.func68 fun args K h=>?_
 simp only[c61] at h;split at h
 ·exact ⟨_,h,t61 _⟩
 ·exact h.elim
abbrev fitI (n:Int):Prop:= -9223372036854775808≤n∧n≤9223372036854775807
def nR (acc:Nat) (l:List UInt8):Nat:=l.foldl (fun n c=>10*n+(c.toNat-48)) acc
theorem aBd:∀(l:List UInt8) (acc:Nat),acc≤nR acc l
 | [],acc=>Nat.le_refl _
 | c::r,acc=>by
  have:=aBd r (10*acc+(c.toNat-48))
  simp only[nR,List.foldl_cons] at this ⊢
  omega
theorem rV:∀(l:List UInt8) (acc:Nat),(∀c∈l,aR c)→acc<18446744073709551616→parseUint10 acc l=if nR acc l<18446744073709551616 then .ok (nR acc l) else .range
 | [],acc,_,h=>by simp[parseUint10,nR,h]
 | c::r,acc,hd,h=>by
  have hc:=hd c (by simp)
  have ih:=rV r (acc*10+(c.toNat-48)) fun x hx=>hd x (by simp[hx])
  have hg:=aBd r (10*acc+(c.toNat-48))
  have e:nR acc (c::r)=nR (acc*10+(c.toNat-48)) r:=by simp only[nR,List.foldl_cons];rw[Nat.mul_comm]
  rw[Nat.mul_comm] at hg
  simp only[parseUint10]
  have hc:48≤c.toNat∧c.toNat≤57:=hc
  rw[if_pos hc,e]
  by_cases h1:1844674407370955162≤acc
  ·rw[if_pos h1,if_neg (by omega)]
  ·rw[if_neg h1]
   by_cases h2:18446744073709551616≤acc*10+(c.toNat-48)
   ·rw[if_pos h2,if_neg (by omega)]
   ·rw[if_neg h2,ih (by omega)]
theorem aBe {l:List UInt8} (h:∀c∈l,aR c) (hne:l≠ []):parseMag l=if aC l<18446744073709551616 then .ok (aC l) else .range:=by
 unfold parseMag
 rw[if_neg hne,rV l 0 h (by omega)]
 rfl
theorem aQm {c:UInt8} (h:aR c):c.toNat≠43∧c.toNat≠45:=by unfold aR at h;omega
theorem aBf {s:List UInt8} (h:form s):atoiAll s=(if fitI (valI s) then .ok (valI s) else .range)∧(¬fitI (valI s)→(9223372036854775807<valI s∧atoiSat s=9223372036854775807)∨(valI s < -9223372036854775808∧atoiSat s= -9223372036854775808)):=by
 obtain ⟨h1,h2,h3⟩:=h
 cases s with
 | nil=>simp[digs] at h1
 | cons c r=>
  by_cases hc:c=45
  ·subst hc
   have e1:digs (45::r)=r:=rfl
   have e2:valI (45::r)= -(aC r:Int):=rfl
   rw[e1] at h1 h3
   rw[e2];unfold fitI;rw[atoiAll_minus,aBe h3 h1,atoiSat_minus]
   refine ⟨?_,fun hn=>.inr ⟨by omega,rfl⟩⟩
   by_cases h4:aC r<18446744073709551616
   ·rw[if_pos h4]
    simp only[signed]
    by_cases h5:9223372036854775808<aC r
    ·rw[if_pos h5,if_neg (by omega)]
    ·rw[if_neg h5,if_pos (by omega)]
   ·rw[if_neg h4,if_neg (by omega)];rfl
  ·have e1:digs (c::r)=c::r:=by simp[digs,hc]
   have e2:valI (c::r)=aC (c::r):=by simp[valI,hc]
   rw[e1] at h1 h3
   obtain ⟨g1,g2⟩:=aQm (h3 c (by simp))
   rw[e2];unfold fitI;rw[atoiAll_plain c r g1 g2,aBe h3 h1,atoiSat_other c r g2]
   refine ⟨?_,fun hn=>.inl ⟨by omega,rfl⟩⟩
   by_cases h4:aC (c::r)<18446744073709551616
   ·rw[if_pos h4]
    simp only[signless]
    by_cases h5:9223372036854775808≤aC (c::r)
    ·rw[if_pos h5,if_neg (by omega)]
    ·rw[if_neg h5,if_pos (by omega)]
   ·rw[if_neg h4,if_neg (by omega)];rfl
theorem t72ok (s:List UInt8) (hf:form s) (hv:fitI (valI s)):Tri Tryz.prog true 185 [S s] (.tup [I (valI s),.val .nilIface]):=by
 intro ok w vs hg hok hr
 obtain ⟨rfl,hl⟩:=rU hr
 have hl':s.length≤140737488355328:=hl
 have ha:=(aBf hf).1
 rw[if_pos hv] at ha
 refine (Any.strconv_Atoi_ok RL.lA ⟨s.toArray⟩ (by show s.toArray.size≤ _;rw[List.size_toArray];omega) (valI s) (by simpa using ha) w).mono ?_
 rintro e w' ⟨rfl,hw⟩
 refine ⟨_,rfl,?_,.tup _ _ (.cons _ _ _ _ (.val _ hv) (.cons _ _ _ _ (.val _ trivial) .nil))⟩
 rcases hw with rfl | ⟨t,rfl⟩
 ·exact Below.refl _ _
 ·exact Go.Joins.below_bytesWorld _ _ _ _ (Nat.le_refl _)
theorem aMx {ok:Nat→Prop} {w:World} (h:GW Tryz.prog ok w):∃ev,w.cell? ⟨(RL.lA_ren).g 16,0,none⟩=some ev∧∃te pe,ev= .iface te pe:=by
 obtain ⟨hk,cs,e,f,h2,h3⟩:=h "strconv.ErrRange" (by simp[gnames]) ((RL.lA_ren).g 16) (by kernel_rfl)
 obtain ⟨tp,p,hc⟩:=h3.err (.inl rfl)
 refine ⟨_,?_,tp,p,rfl⟩
 rw[World.cell?,h2,hc]
 rfl
theorem aQn (s:List UInt8) (hf:form s) (hv:¬fitI (valI s)) (hl:s.length≤281474976710656):Tri Tryz.prog true 185 [S s] (.tup [I (atoiSat s),.ifc]):=by
 intro ok w vs hg hok hr
 obtain ⟨rfl,_⟩:=rU hr
 have ha:=(aBf hf).1
 rw[if_neg hv] at ha
 obtain ⟨ev,h1,h2⟩:=aMx hg
 refine (Any.strconv_Atoi_range RL.lA ⟨s.toArray⟩ (by show s.toArray.size≤ _;rw[List.size_toArray];omega) (by simpa using ha) ev w h1 (.inr h2)).mono ?_
 rintro e w' ⟨N,rfl,_,_,hb⟩
 refine ⟨_,rfl,hb,.tup _ _ (.cons _ _ _ _ ?_ (.cons _ _ _ _ (.ifc _ (.inr ⟨_,_,rfl⟩)) .nil))⟩
 exact .val _ (atoiSat_bounds _)
def c72:Con:=aJ 185 true fun args K=>match args with
 | [.str s]=>Need (form s∧s.length≤1000) (Br (fitI (valI s)) (K (.tup [I (valI s),.val .nilIface])) (K (.tup [I (atoiSat s),.ifc])))
 | _=>False
theorem k72:aG Tryz.prog c72:=by
 refine kO Tryz.func185 fun args K h=>?_
 simp only[c72] at h;split at h
 ·rename_i s
  obtain ⟨⟨hf,hl⟩,h⟩:=h
  by_cases hv:fitI (valI s)
  ·exact ⟨_,h.yes hv,t72ok s hf hv⟩
  ·exact ⟨_,h.no hv,aQn s hf hv (by omega)⟩
 ·exact h.elim
abbrev digitsS:List UInt8:=[48,49,50,51,52,53,54,55,56,57]
theorem yN (c:UInt8):digitsS.contains c=true↔aR c:=by
 have h:∀n:Fin 256,(digitsS.contains (UInt8.ofNat n.val)=true)↔(48≤n.val∧n.val≤57):=by decide
 have h1:=h ⟨c.toNat,c.toNat_lt⟩
 simp only[UInt8.ofNat_toNat] at h1
 exact h1
theorem aBg (s cs:List UInt8):trimS s cs= []↔∀c∈s,cs.contains c=true:=by
 have hd:∀l:List UInt8,l.dropWhile (cs.contains ·)= []↔∀c∈l,cs.contains c=true:=by
  intro l
  induction l with
  | nil=>simp
  | cons x r ih=>
   simp only[List.dropWhile_cons,List.mem_cons,forall_eq_or_imp]
   by_cases h:cs.contains x=true
   ·rw[if_pos h,ih];simp only[h,true_and]
   ·rw[if_neg h];exact ⟨(fun e=>by cases e),(fun e=>(h e.1).elim)⟩
 have hmem:∀l:List UInt8,(∀c∈l.dropWhile (cs.contains ·),cs.contains c=true)↔∀c∈l,cs.contains c=true:=by
  intro l
  induction l with
  | nil=>simp
  | cons x r ih=>
   simp only[List.dropWhile_cons]
   by_cases h:cs.contains x=true
   ·rw[if_pos h,ih];simp only[List.mem_cons,forall_eq_or_imp,h,true_and]
   ·rw[if_neg h]
 unfold trimS trimLeftS trimRightS
 rw[hd]
 have:=hmem s.reverse
 simp only[List.mem_reverse] at this ⊢
 exact this
theorem aKq (s cs:List UInt8):(trimS s cs).length≤s.length:=by
 have h:∀l:List UInt8,(l.dropWhile (cs.contains ·)).length≤l.length:=fun l=>(List.dropWhile_sublist _).length_le
 unfold trimS trimLeftS trimRightS
 have h1:=h (s.reverse.dropWhile (cs.contains ·)).reverse
 have h2:=h s.reverse
 simp only[List.length_reverse] at h1 h2
 omega
theorem t156 (s:List UInt8):Tri Tryz.prog true 228 [S s,S digitsS] (S (trimS s digitsS)):=by
 intro ok w vs hg hok hr
 cases hr with
 | cons _ v1 _ vs1 h1 hr=>
 cases h1 with
 | str _ hl=>
 obtain ⟨rfl,_⟩:=rU hr
 have hl':s.length≤140737488355328:=hl
 refine (Any.strings_Trim_laid RL.lT (by kernel_rfl) ⟨s.toArray⟩ ⟨digitsS.toArray⟩ w (by show s.toArray.size≤ _;rw[List.size_toArray];omega) (by decide) (ascii_of_all (by decide))).mono ?_
 rintro e w' ⟨rfl,hb⟩
 exact ⟨_,rfl,hb,.str _ (by have:=aKq s digitsS;show _≤140737488355328;omega)⟩
def c156:Con:=aJ 228 true fun args K=>match args with | [.str s,.str cs]=>Need (cs=digitsS) (K (S (trimS s digitsS))) | _=>False
theorem k156:aG Tryz.prog c156:=by
 refine kO Tryz.func228 fun args K h=>?_
 simp only[c156] at h;split at h
 ·rename_i s cs
  obtain ⟨rfl,h⟩:=h
  exact ⟨_,h,t156 _⟩
 ·exact h.elim
theorem ex9:Builder.Extra Tryz.prog RL.lR_ren where
 sizeBuilder:=by kernel_rfl
 liesBuilder:=by kernel_rfl
 t5:=Tryz.underlying5
 a5:=Tryz.isAgg5
 z5:=Tryz.sizeOf5
 v5:=Tryz.zeroValue5
 infoByte:=by kernel_rfl
 cellsByte:=by kernel_rfl
 sizeByte:=by kernel_rfl
 neB5:=by decide
theorem qH (c:UInt8):∀n,repeatL [c] n=List.replicate n c
 | 0=>rfl
 | n+1=>by rw[repeatL,qH c n];rfl
theorem t159 (c:UInt8) (n:Int) (hn:0≤n∧n≤1000):Tri Tryz.prog true 233 [S [c],I n] (S (List.replicate n.toNat c)):=by
 intro ok w vs hg hok hr
 cases hr with
 | cons _ v1 _ vs1 h1 hr=>
 cases h1 with
 | str _ hl=>
 obtain ⟨rfl,_⟩:=aFr hr
 obtain ⟨k,rfl⟩:∃k:Nat,n=k:=⟨n.toNat,by omega⟩
 refine (Any.strings_Repeat RL.lR ex9 ⟨[c].toArray⟩ k w (by omega) (by show 1*k≤ _;omega)).mono ?_
 rintro e w' ⟨rfl,hb⟩
 rw[Int.toNat_natCast,← qH]
 exact ⟨_,rfl,hb,.str _ (by rw[qH,List.length_replicate];show _≤140737488355328;omega)⟩
def c159:Con:=aJ 233 true fun args K=>match args with | [.str [c],.val (.int .i64 n)]=>Need (0≤n∧n≤1000) (K (S (List.replicate n.toNat c))) | _=>False
theorem k159:aG Tryz.prog c159:=by
 refine kO Tryz.func233 fun args K h=>?_
 simp only[c159] at h;split at h
 ·exact ⟨_,h.go,t159 _ _ h.ok⟩
 ·exact h.elim
theorem mI {s:List UInt8} (h:digs s= []∨((digs s).headD 0=48∧s≠ [48])∨trimS (digs s) digitsS≠ []):chkI s=11:=by
 unfold chkI
 rw[if_neg]
 rintro ⟨h1,h2,h3⟩
 rcases h with h | h | h
 ·exact h1 h
 ·rcases h2 with h2 | h2
  ·exact h2 h.1
  ·exact h.2 h2
 ·exact h ((aBg _ _).2 fun c hc=>(yN c).2 (h3 c hc))
theorem aOx {s:List UInt8} (h1:digs s≠ []) (h2:(digs s).headD 0=48→s= [48]) (h3:trimS (digs s) digitsS= []):form s:=
 ⟨h1,(Classical.em ((digs s).headD 0=48)).elim (fun e=>.inr (h2 e)) .inl,fun c hc=>(yN c).1 ((aBg _ _).1 h3 c hc)⟩
theorem fZ {s:List UInt8} (h:form s):chkI s=if 300<(digs s).length then 4 else 0:=by unfold chkI;rw[if_pos h]
theorem b127 (s:List UInt8):body Tryz.prog [c88,c156] {} true Tryz.f189 [S s] (I (chkI s)):=by
 (repeat'((conv=>whnf);first|refine Zn ?_|fail))
 (apply Br.mk<;>intro)
 ·rename_i h
  rw[mI (.inl h)]
  (conv=>whnf)
  (repeat' first|rfl|apply And.intro)
 ·rename_i h
  have hpos:0<(digs s).length:=List.length_pos_iff.2 h
  have hb:aH (digs s) 0=48↔(digs s).headD 0=48:=by
   unfold aH
   cases hd:digs s with
   | nil=>rw[hd] at hpos;simp at hpos
   | cons c r=>
    show (c.toNat:Int)=48↔c=48
    constructor
    ·intro e
     have:c.toNat=(48:UInt8).toNat:=by show c.toNat=48;omega
     exact UInt8.toNat.inj this
    ·rintro rfl;rfl
  (repeat'((conv=>whnf);first|refine Zg fun _=>?_|refine Zn ?_|refine Z0 ?_|refine Zr (fun _=>?_) fun _=>?_|fail))
  all_goals (skip;(conv=>whnf);(repeat' first|rfl|apply And.intro))
  all_goals first
   | exact (mI (.inr (.inl ⟨hb.1 (by assumption),by assumption⟩))).symm
   | exact (mI (.inr (.inr (by assumption)))).symm
   | (have hf:form s:=aOx h (fun e=>by first | exact Classical.not_not.1 (by assumption) | exact absurd (hb.2 e) (by assumption)) (by exact Classical.not_not.1 (by assumption))
      rw[fZ hf]
      first | (rw[if_pos (by omega)]) | (rw[if_neg (by omega)])
      done)
def c127:Con:=aJ 189 true fun args K=>match args with | [.str s]=>K (I (chkI s)) | _=>False
theorem k127:aG Tryz.prog c127:=by
 refine kO Tryz.func189 fun args K h=>?_
 simp only[c127] at h;split at h
 ·rename_i s;exact ⟨_,h,triB Tryz.func189 Tryz.ntmps189 (by simp[k88,k156]) (b127 s)⟩
 ·exact h.elim
noncomputable def chk2 (a b:List UInt8):Int:=if chkI a≠0 then chkI a else chkI b
theorem b94 (a b:List UInt8):body Tryz.prog [c127] {} true Tryz.f137 [S a,S b] (I (chk2 a b)):=by
 unfold chk2
 (apply Br.mk<;>intro)
 ·rename_i h
  rw[if_pos h]
  (conv=>whnf)
  (repeat' first|rfl|apply And.intro)
 ·rename_i h
  rw[if_neg h]
  (conv=>whnf)
  (repeat' first|rfl|apply And.intro)
def c94:Con:=aJ 137 true fun args K=>match args with | [.str a,.str b]=>K (I (chk2 a b)) | _=>False
theorem k94:aG Tryz.prog c94:=by
 refine kO Tryz.func137 fun args K h=>?_
 simp only[c94] at h;split at h
 ·rename_i a b;exact ⟨_,h,triB Tryz.func137 Tryz.ntmps137 (by simp[k127]) (b94 a b)⟩
 ·exact h.elim
theorem bY {s:List UInt8} (h:chkI s=0):form s∧(digs s).length≤300:=by
 unfold chkI at h
 split at h
 ·rename_i hf
  split at h
  ·cases h
  ·exact ⟨hf,by omega⟩
 ·cases h
theorem jO (s:List UInt8):(digs s).length≤s.length∧s.length≤(digs s).length+1:=by
 unfold digs
 split
 ·rw[List.length_tail];omega
 ·omega
theorem gU {s:List UInt8} (h:form s) (hl:s.length≤18): -1000000000000000000<valI s∧valI s<1000000000000000000:=by
 obtain ⟨h1,h2,h3⟩:=h
 have hb:=bW (digs s) h3
 have hp:(10:Nat)^ (digs s).length≤10^18:=Nat.pow_le_pow_right (by omega) (by have:=jO s;omega)
 have h18:(10:Nat)^18=1000000000000000000:=by decide
 have hv:valI s=aC (digs s)∨valI s= -(aC (digs s):Int):=by
  unfold valI digs
  split
  ·exact .inr rfl
  ·exact .inl rfl
 omega
theorem b95y (a b:List UInt8) (ha:form a) (hb:form b) (hs:a.length≤18∧b.length≤18):body Tryz.prog [c72] {} true Tryz.f138 [S a,S b,I 18] (.tup [I (valI a),I (valI b),.val (.bool true)]):=by
 have h1:=gU ha hs.1
 have h2:=gU hb hs.2
 have f1:fitI (valI a):=by unfold fitI;omega
 have f2:fitI (valI b):=by unfold fitI;omega
 (repeat'((conv=>whnf);first|refine Zg fun _=>?_|refine Zm ?_|fail))
 refine Need.mk ⟨ha,by omega⟩ ?_
 refine Br.mkY f1 ?_
 refine Need.mk ⟨hb,by omega⟩ ?_
 refine Br.mkY f2 ?_
 (repeat'((conv=>whnf);first|(apply Pin.mk;apply Exists.intro)|apply Pinned.mk rfl rfl|fail))
 (conv=>whnf)
 (repeat' first|exact trivial|rfl|apply And.intro)
theorem b95n (a b:List UInt8) (hs:¬(a.length≤18∧b.length≤18)):body Tryz.prog [c72] {} true Tryz.f138 [S a,S b,I 18] (.tup [I 0,I 0,.val (.bool false)]):=by
 (repeat'((conv=>whnf);first|refine Zg fun _=>?_|refine Zy ?_|refine Zr (fun _=>?_) fun _=>?_|fail))
 all_goals first | (exfalso;omega) | skip
 all_goals (skip;(conv=>whnf);(repeat' first|exact trivial|rfl|apply And.intro))
def c95:Con:=aJ 138 true fun args K=>match args with
 | [.str a,.str b,.val (.int .i64 m)]=>Need (m=18∧form a∧form b) (Br (a.length≤18∧b.length≤18) (K (.tup [I (valI a),I (valI b),.val (.bool true)])) (K (.tup [I 0,I 0,.val (.bool false)])))
 | _=>False
theorem k95:aG Tryz.prog c95:=by
 refine kO Tryz.func138 fun args K h=>?_
 simp only[c95] at h;split at h
 ·rename_i a b m
  obtain ⟨⟨rfl,ha,hb⟩,h⟩:=h
  by_cases hs:a.length≤18∧b.length≤18
  ·exact ⟨_,h.yes hs,triB Tryz.func138 Tryz.ntmps138 (by simp[k72]) (b95y a b ha hb hs)⟩
  ·exact ⟨_,h.no hs,triB Tryz.func138 Tryz.ntmps138 (by simp[k72]) (b95n a b hs)⟩
 ·exact h.elim
abbrev itD (s:List UInt8) (i:Nat):List SV:=[I i,I (dgt s i)]
theorem b130 (s:List UInt8):body Tryz.prog [] {} false Tryz.f191 [S s] (.clo 230 [] [.lelem [S s] 0]):=by
 (conv=>whnf)
 (repeat' first|exact trivial|rfl|apply And.intro)
def c130:Con:=aJ 191 false fun args K=>match args with | [.str s]=>K (.clo 230 [] [.lelem [S s] 0]) | _=>False
theorem k130:aG Tryz.prog c130:=by
 refine kO Tryz.func191 fun args K h=>?_
 simp only[c130] at h;split at h
 ·rename_i s;exact ⟨_,h,triB Tryz.func191 Tryz.ntmps191 (by simp) (b130 s)⟩
 ·exact h.elim
theorem aMy {s:List UInt8} (h:∀c∈s,aR c) {i:Nat} (hi:i<s.length):aH s (s.length-1-i)-48=dgt s i∧48≤aH s (s.length-1-i)∧aH s (s.length-1-i)≤57:=by
 have hj:s.length-1-i<s.length:=by omega
 have e:∀d:UInt8,s.getD (s.length-1-i) d=s[s.length-1-i]:=fun d=>by simp[List.getD_eq_getElem?_getD,hj]
 have hd:aR s[s.length-1-i]:=h _ (List.getElem_mem hj)
 unfold aH dgt
 rw[e,e]
 unfold aR at hd
 omega
theorem b161 (s:List UInt8) (h:∀c∈s,aR c):vW Tryz.prog [] { asks:=[(0,[])] } Tryz.f230 [.lelem [S s] 0] s.length (itD s):=by
 (repeat'((conv=>whnf);first|refine Zg fun _=>?_|fail))
 refine Ask.mk ⟨{ X:=Nat,pre:=fun i=>i≤s.length,mod:=fun i _=>[(6,I i)],heap:=fun i _=>[.yst (some i) s.length (itD s)],mu:=fun i=>s.length-i },rfl,?_⟩
 (repeat'((conv=>whnf);first|refine Zn ?_|fail))
 refine ⟨⟨(0:Nat),Nat.zero_le _,by (repeat' first|exact trivial|rfl|apply And.intro)⟩,fun (i:Nat) (hi:i≤s.length)=>?_⟩
 (apply Br.mk<;>intro)
 ·have hlt:i<s.length:=by omega
  obtain ⟨e1,e2,e3⟩:=aMy h hlt
  (repeat'((conv=>whnf);first|refine Zg fun _=>?_|refine Zn ?_|fail))
  refine bX (s.length-1-i) (by omega) ?_
  (repeat'((conv=>whnf);first|refine Zg fun _=>?_|refine Zn ?_|fail))
  refine Need.mk (by (repeat' first|exact trivial|rfl|apply And.intro);exact e1) ?_
  refine Two.mk ?_ ?_
  ·(repeat'((conv=>whnf);first|refine Zn ?_|fail))
   refine ⟨(i+1:Nat),by show s.length-(i+1)<s.length-i;omega,hlt,?_⟩
   (repeat' first|exact trivial|rfl|apply And.intro)
  ·(conv=>whnf)
   trivial
 ·(conv=>whnf)
  omega
def c161:Con:=aJ 230 false fun args K=>match args with | [.lelem [.str s] 0]=>Need (∀c∈s,aR c) (K (.itr s.length (itD s))) | _=>False
theorem k161:aG Tryz.prog c161:=by
 refine kO Tryz.func230 fun args K h=>?_
 simp only[c161] at h;split at h
 ·rename_i s;exact ⟨_,h.go,fU (by simp) Tryz.func230 (by simp[Tryz.ntmps230]) (b161 s h.ok)⟩
 ·exact h.elim
abbrev yO (i:Nat):Int:=if i=0 then 1 else 10^ ((i-1)%9+1)
theorem aOy (i:Nat) (h:i%9≠0):yO i=10^ (i%9):=by
 unfold yO
 rw[if_neg (by omega)]
 congr 1
 omega
theorem aKr (i:Nat):yO (i+1)=10^ (i%9)*10:=by
 unfold yO
 rw[if_neg (by omega),Nat.add_sub_cancel,Int.pow_succ]
theorem aMz (i:Nat):1≤(10:Int)^ (i%9)∧(10:Int)^ (i%9)≤100000000:=by
 have:i%9<9:=Nat.mod_lt _ (by omega)
 generalize i%9=k at this
 match k,this with
 | 0,_ | 1,_ | 2,_ | 3,_ | 4,_ | 5,_ | 6,_ | 7,_ | 8,_=>decide
abbrev nL (s:List UInt8):Nat:=(s.length+8)/9
theorem b98 (s:List UInt8) (h:form s∧(digs s).length≤600):body Tryz.prog [c123,c130,c161,c131] { asks:=[(0,[])] } true Tryz.f139 [S s] (.agg [.bl (s.headD 0=45) inferInstance,Ls (aA B9 (aC (digs s)))]):=by
 obtain ⟨hf,hl⟩:=h
 have hd:=hf.2.2
 have hn:(digs s).length≤9*nL (digs s):=by unfold nL;omega
 have e9:(10:Nat)^9=B9:=by decide
 (repeat'((conv=>whnf);first|refine Zg fun _=>?_|refine Za ?_|refine Zn ?_|refine Zl ?_|refine Z8 ?_|fail))
 refine Ask.mk ⟨{ X:=Nat,pre:=fun i=>i≤(digs s).length,mod:=fun _ _=>[],heap:=fun i H=>[hget H 0,V (rdK (digs s) (nL (digs s)) i),hget H 2,.cells [I (yO i)] 3],mu:=fun i=>i },rfl,?_⟩
 (repeat'((conv=>whnf);first|refine Zn ?_|fail))
 refine ⟨⟨(0:Nat),rfl,Nat.zero_le _,?_⟩,fun (i:Nat) hi (hlt:i<(digs s).length)=>?_,fun (i:Nat) hi (he:i=(digs s).length)=>?_⟩
 ·(repeat' first|exact trivial|rfl|apply And.intro)
  (conv=>whnf)
  show List.replicate _ _=List.replicate _ _
  congr 1;unfold nL;omega
 ·obtain ⟨g1,g2,g3,g4,g5⟩:=xV hd hn i (by omega)
  have gd:=aIt hd hlt
  have gi:=get9 g2 (i/9)
  have gu:=aMz i
  have hi9:i/9<nL (digs s):=by unfold nL;omega
  have g5:(rdK (digs s) (nL (digs s)) i).getD (i/9) 0<(10:Int)^ (i%9):=g5
  have hm:0≤dgt (digs s) i*10^ (i%9)∧dgt (digs s) i*10^ (i%9)≤9*100000000:=⟨Int.mul_nonneg gd.1 (by omega),Int.le_trans (Int.mul_le_mul_of_nonneg_right gd.2.1 (by omega)) (Int.mul_le_mul_of_nonneg_left gu.2 (by omega))⟩
  have hst:rdK (digs s) (nL (digs s)) (i+1)=(rdK (digs s) (nL (digs s)) i).set (i/9) ((rdK (digs s) (nL (digs s)) i).getD (i/9) 0+dgt (digs s) i*10^ (i%9)):=rfl
  have hun:=aKr i
  show hnfL (itD (digs s) i) _
  (repeat'((conv=>whnf);first|refine Zg fun _=>?_|refine Za ?_|fail))
  (apply Br.mk<;>intro)
  ·rename_i hz
   have hz:i%9=0:=by omega
   rw[hz] at hm hst hun
   (repeat'((conv=>whnf);first|refine Zg fun _=>?_|refine Za ?_|refine Zn ?_|refine Zj ?_|(apply Pin.mk;apply Exists.intro)|apply Pinned.mk rfl rfl|fail))
   refine Need.mk (show -9223372036854775808≤(rdK (digs s) (nL (digs s)) i).getD (i/9) 0+dgt (digs s) i*1∧(rdK (digs s) (nL (digs s)) i).getD (i/9) 0+dgt (digs s) i*1≤9223372036854775807 by omega) ?_
   (repeat'((conv=>whnf);first|refine Zn ?_|refine Zj ?_|fail))
   refine ⟨(i+1:Nat),rfl,hlt,?_⟩
   (repeat' first|exact trivial|rfl|apply And.intro|omega)
   exact hst.symm
  ·rename_i hz
   have hz:i%9≠0:=by omega
   rw[← aOy i hz] at hm hst hun gu
   (repeat'((conv=>whnf);first|refine Zg fun _=>?_|refine Za ?_|refine Zn ?_|refine Zj ?_|(apply Pin.mk;apply Exists.intro)|apply Pinned.mk rfl rfl|fail))
   refine Need.mk (show -9223372036854775808≤(rdK (digs s) (nL (digs s)) i).getD (i/9) 0+dgt (digs s) i*yO i∧(rdK (digs s) (nL (digs s)) i).getD (i/9) 0+dgt (digs s) i*yO i≤9223372036854775807 by omega) ?_
   (repeat'((conv=>whnf);first|refine Zn ?_|refine Zj ?_|fail))
   refine ⟨(i+1:Nat),rfl,hlt,?_⟩
   (repeat' first|exact trivial|rfl|apply And.intro|omega)
   exact hst.symm
 ·subst he
  (conv=>whnf)
  (repeat' first|exact trivial|rfl|apply And.intro)
  have:=aOi hd hn
  rw[e9] at this
  exact this
def c98:Con:=aJ 139 true fun args K=>match args with | [.str s]=>Need (form s∧(digs s).length≤600) (K (.agg [.bl (s.headD 0=45) inferInstance,Ls (aA B9 (aC (digs s)))])) | _=>False
theorem k98:aG Tryz.prog c98:=by
 refine kO Tryz.func139 fun args K h=>?_
 simp only[c98] at h;split at h
 ·rename_i s;exact ⟨_,h.go,triB Tryz.func139 Tryz.ntmps139 (by simp[k123,k130,k161,k131]) (b98 s h.ok)⟩
 ·exact h.elim
theorem aPs:Builder.X72 Tryz.prog RL.lC_ren where
 sizeBuilder:=by kernel_rfl
 liesBuilder:=by kernel_rfl
theorem ex160:Builder.Extra Tryz.prog RL.lS_ren where
 sizeBuilder:=by kernel_rfl
 liesBuilder:=by kernel_rfl
 t5:=Tryz.underlying5
 a5:=Tryz.isAgg5
 z5:=Tryz.sizeOf5
 v5:=Tryz.zeroValue5
 infoByte:=by kernel_rfl
 cellsByte:=by kernel_rfl
 sizeByte:=by kernel_rfl
 neB5:=by decide
def aBh (nm:Nat) (A:SV):Prop:=A= .val (.pointer none)∨A= .ptr nm 0
def c178:Con:=zY 257 fun args H K=>match args with
 | [.ptr nm 0]=>(match hget H nm with
  | .cells [A,x] e=>Need (aBh nm A∧e=224) <| K (.tup []) (hset H nm (.cells [.ptr nm 0,x] 224))
  | _=>False)
 | _=>False
theorem k178:aG Tryz.prog c178:=by
 refine qV (enters_of Tryz.func257 (by kernel_rfl) rfl) ?_
 intro args H K h
 split at h
 case h_2=>exact h.elim
 rename_i nm
 split at h
 case h_2=>exact h.elim
 rename_i A x e ho
 obtain ⟨⟨hA,rfl⟩,hK⟩:=h
 refine ⟨fun s H'=>s= .tup []∧H'=hset H nm (.cells [.ptr nm 0,x] 224),fun s H' e=>by rw[e.1,e.2];exact hK,?_⟩
 intro G loc ver w vs hC hI hr
 cases hr with
 | cons _ v1 _ vs1 h1 hr=>
 cases hr
 obtain ⟨b,hbk,rfl⟩:=kJ hI h1 (by simp only[live,ho])
 have hn:=aD ho (by simp)
 obtain ⟨h0,b',vals,g1,g2,g3⟩:=hI.objs nm _ hn
 rw[hbk] at g1;cases g1
 replace g2:w.heap[b]? =some (.cells ⟨vals⟩ 224 (0,0)):=g2
 cases g3 with
 | cons _ u _ us r1 r2=>
 cases r2 with
 | cons _ u2 _ us2 r2 r3=>
 cases r3
 have hfin:∀w':World,w'.heap.size=w.heap.size→w'.os=w.os→w'.tape=w.tape→w'.output=w.output→(∀k,k≠b→w'.heap[k]? =w.heap[k]?)→w'.heap[b]? =some (.cells #[.pointer (some ⟨b,0,none⟩),u2] 224 (0,0))→Res G (envOf G H loc ver w) (fun s H'=>s= .tup []∧H'=hset H nm (.cells [.ptr nm 0,x] 224)) (.tuple #[]) w':=by
  intro w' q1 q2 q3 q4 q5 q6
  have hin:=hI.inPlace (w':=w') (o':=.cells [.ptr nm 0,x] 224) hn (b:=b) (by simp[Owns,hbk]) (fun _ h=>h) q1 q2 q3 q4 q5
   (fun hx'=>⟨h0,b,[.pointer (some ⟨b,0,none⟩),u2],hbk,q6,.cons _ _ _ _ (h1.ext hx') (.cons _ _ _ _ (r2.ext hx') .nil)⟩)
  exact ⟨_,_,_,_,⟨rfl,rfl⟩,hin.1,.tup [] [] .nil,hin.2⟩
 rcases hA with rfl | rfl
 ·cases r1
  refine (Any.Builder_copyCheck_fresh RL.lC aPs b w (by rw[Lib.cell_of_heap g2];rfl) (by unfold World.shape?;rw[g2];rfl) (Lib.frozen_of_heap g2 0)).mono ?_
  rintro e w' ⟨rfl,rfl⟩
  exact ⟨_,rfl,hfin _ (by simp[World.setCell]) rfl rfl rfl (fun k hk=>Below.heap_setCell w _ _ k hk) (by unfold World.setCell;rw[Array.getElem?_modify];simp[g2])⟩
 ·obtain ⟨b2,hb2,rfl⟩:=kJ hI r1 (by simp only[live,ho])
  rw[hbk] at hb2;cases hb2
  refine (Any.Builder_copyCheck_used RL.lC aPs b w (by rw[Lib.cell_of_heap g2];rfl)).mono ?_
  rintro e w' ⟨rfl,rfl⟩
  exact ⟨_,rfl,hfin _ rfl rfl rfl rfl (fun _ _=>rfl) g2⟩
abbrev H3 (p:Prop) (hp:Decidable p) (a:List Int) (A:SV) (k:Nat) (bs:List Int):List HO:=[.cells [.bl p hp,Ls a] 150,.cells [A,.ref 2 k] 224,.vec k (.int .u8) bs 5]
theorem b157 (p:Prop) (hp:Decidable p) (a:List Int) (A:SV) (hA:aBh 1 A) (bs:List Int) (hl:bs.length≤1000000):
  aIa Tryz.prog [c178] {} Tryz.f231 [.ptr 1 0,.val (.int .u8 45)] (H3 p hp a A 1 bs) (fun s H'=>s= .val .nilIface∧H'=H3 p hp a (.ptr 1 0) 2 (List.append (α:=Int) bs [45])):=by
 (conv=>whnf)
 refine Need.mk rfl ?_
 (repeat'((conv=>whnf);first|refine Zn ?_|refine Zl ?_|fail))
 (conv=>whnf)
 refine ⟨_,_,⟨rfl,rfl⟩,rfl,rfl,rfl,rfl,?_⟩
 (repeat' first|exact trivial|rfl|apply And.intro)
theorem b158 (p:Prop) (hp:Decidable p) (a:List Int) (A:SV) (hA:aBh 1 A) (k:Nat) (hk:k=1∨k=2) (bs:List Int) (s:List UInt8) (hl:bs.length+s.length≤1000000):
  aIa Tryz.prog [c178] {} Tryz.f232 [.ptr 1 0,S s] (H3 p hp a A k bs++ [.gone]) (fun r H'=>r= .tup [I s.length,.val .nilIface]∧H'=H3 p hp a (.ptr 1 0) (k+1) (List.append (α:=Int) bs (aM s))++ [.gone]):=by
 rcases hk with rfl | rfl
 ·(conv=>whnf)
  refine Need.mk rfl ?_
  (repeat'((conv=>whnf);first|refine Zg fun _=>?_|refine Zn ?_|fail))
  (conv=>whnf)
  refine ⟨_,_,⟨rfl,rfl⟩,rfl,?_,rfl,rfl,?_⟩
  all_goals (repeat' first|exact trivial|rfl|apply And.intro)
 ·(conv=>whnf)
  refine Need.mk rfl ?_
  (repeat'((conv=>whnf);first|refine Zg fun _=>?_|refine Zn ?_|fail))
  (conv=>whnf)
  refine ⟨_,_,⟨rfl,rfl⟩,rfl,?_,rfl,rfl,?_⟩
  all_goals (repeat' first|exact trivial|rfl|apply And.intro)
def c157:Con:=zY 231 fun args H K=>match args,H with
 | [.ptr 1 0,.val (.int .u8 45)],[.cells [.bl p hp,.seq (.int .i64) a] e1,.cells [A,.ref 2 1] e2,.vec 1 (.int .u8) bs e3]=>
  Need (aBh 1 A∧e1=150∧e2=224∧e3=5∧List.length (α:=Int) bs≤1000000) (K (.val .nilIface) (H3 p hp a (.ptr 1 0) 2 (List.append (α:=Int) bs [45])))
 | _,_=>False
theorem k157:aG Tryz.prog c157:=by
 refine qV (enters_of Tryz.func231 (by kernel_rfl) rfl) ?_
 intro args H K h
 split at h
 ·obtain ⟨⟨hA,rfl,rfl,rfl,hl⟩,hK⟩:=h
  refine ⟨_,?_,rE (by simp[k178]) Tryz.func231 (by simp[Tryz.ntmps231]) (b157 _ _ _ _ hA _ hl)⟩
  rintro s H' ⟨rfl,rfl⟩
  exact hK
 ·exact h.elim
def c158:Con:=zY 232 fun args H K=>match args,H with
 | [.ptr 1 0,.str s],[.cells [.bl p hp,.seq (.int .i64) a] e1,.cells [A,.ref 2 k] e2,.vec k' (.int .u8) bs e3,.gone]=>
  Need (aBh 1 A∧k'=k∧(k=1∨k=2)∧e1=150∧e2=224∧e3=5∧List.length (α:=Int) bs+s.length≤1000000) (K (.tup [I s.length,.val .nilIface]) (H3 p hp a (.ptr 1 0) (k+1) (List.append (α:=Int) bs (aM s))++ [.gone]))
 | _,_=>False
theorem k158:aG Tryz.prog c158:=by
 refine qV (enters_of Tryz.func232 (by kernel_rfl) rfl) ?_
 intro args H K h
 split at h
 ·obtain ⟨⟨hA,rfl,hk,rfl,rfl,rfl,hl⟩,hK⟩:=h
  refine ⟨_,?_,rE (by simp[k178]) Tryz.func232 (by simp[Tryz.ntmps232]) (b158 _ _ _ _ hA _ hk _ _ hl)⟩
  rintro s H' ⟨rfl,rfl⟩
  exact hK
 ·exact h.elim
set_option maxRecDepth 100000 in
theorem aKs {P:Program} {ρ:Ren} (L:Lays.n169 P ρ) (X:Builder.Extra P ρ) (b g cap:Nat) (p:Value) (cur:Array Value) (l:List UInt8) (w:World) (h0:l≠ []) (hbk:w.heap[b]? =some (.cells #[p,.slice (some ⟨g,0,none⟩) l.length cap] (ρ.t 72) (0,0)))
  (hg:w.heap[g]? =some (.cells cur (ρ.t 5) (0,0))) (hnc:l.length≤cap) (hcm:cap≤maxLen) (hcs:cap≤cur.size) (hcell:∀(j:Nat) (x:UInt8),l[j]? =some x→cur[j]? =some (Value.int .u8 x.toNat)):
  Calls P (ρ.f 169) #[.pointer (some ⟨b,0,none⟩)] w fun e w'=>e= .returned (.string ⟨l.toArray⟩)∧w'=w.drew.freeze ⟨g,0,none⟩ l.length:=by
 have hl0:l.length≠0:=by simpa using h0
 have c1:w.drew.cell? ⟨b,1,none⟩=some (.slice (some ⟨g,0,none⟩) l.length cap):=by
  have:w.drew.heap[b]? =some (.cells #[p,.slice (some ⟨g,0,none⟩) l.length cap] (ρ.t 72) (0,0)):=hbk
  rw[Lib.cell_of_heap this];rfl
 have hSD:(Builtin.unsafeSliceData_ #[(ρ.t 37)] (ρ.t 127) #[.slice (some ⟨g,0,none⟩) l.length cap]).run P w.drew= .ok (.pointer (some ⟨g,0,none⟩)) w.drew:=
  Lib.run_unsafeSliceData_row _ _ _ _ _ _ (by omega)
 have hUS:(Builtin.unsafeString_ #[(ρ.t 127),(ρ.t 3)] (ρ.t 9) #[.pointer (some ⟨g,0,none⟩),.int .i64 l.length]).run P w.drew= .ok (.string ⟨l.toArray⟩) (w.drew.freeze ⟨g,0,none⟩ l.length):=by
  refine Lib.run_unsafeString_row w.drew (ρ.t 127) (ρ.t 3) (ρ.t 9) (ρ.t 5) L.t127 X.cellsByte g cur.size (by have hg':w.drew.heap[g]? =some (.cells cur (ρ.t 5) (0,0)):=hg;simp[World.shape?,hg']) l h0 (by omega) (by unfold maxLen at hcm;omega) ?_
  intro j x hx
  have hg':w.drew.heap[g]? =some (.cells cur (ρ.t 5) (0,0)):=hg
  rw[Addr.add_mid,Lib.cell_of_heap hg',Nat.zero_add]
  exact hcell j x hx
 have mixed:=L.mixed
 have t72:=L.t72;have a72:=L.a72;have z72:=L.z72;have v72:=L.v72;have u72:=run_underlying L.t72
 have t70:=L.t70;have a70:=L.a70;have z70:=L.z70;have v70:=L.v70;have u70:=run_underlying L.t70
 have t37:=L.t37;have a37:=L.a37;have z37:=L.z37;have v37:=L.v37;have u37:=run_underlying L.t37
 have t127:=L.t127;have a127:=L.a127;have z127:=L.z127;have v127:=L.v127;have u127:=run_underlying L.t127
 have t3:=L.t3;have a3:=L.a3;have z3:=L.z3;have v3:=L.v3;have u3:=run_underlying L.t3
 have t9:=L.t9;have a9:=L.a9;have z9:=L.z9;have v9:=L.v9;have u9:=run_underlying L.t9
 have t5:=X.t5;have a5:=X.a5;have z5:=X.z5;have v5:=X.v5;have u5:=run_underlying X.t5
 go_enter L.f169,Body.n169_ntmps ρ
 go_wp2
 go_region_o
 all_goals (go_wp2;go_ret;exact ⟨rfl,rfl⟩)
def ofI (bs:List Int):List UInt8:=bs.map fun n=>UInt8.ofNat n.toNat
theorem yP (l:List UInt8):ofI (aM l)=l:=by
 unfold ofI aM
 rw[List.map_map]
 conv=>rhs;rw[← List.map_id l]
 refine List.map_congr_left fun x _=>?_
 simp
def c160:Con:=zY 234 fun args H K=>match args with
 | [.ptr nm 0]=>(match hget H nm with
  | .cells [A,.ref nm2 k] e=>(match hget H nm2 with
   | .vec k' (.int .u8) bs e'=>Need (aBh nm A∧k'=k∧e=224∧e'=5∧0<List.length (α:=Int) bs∧nm≠nm2) (K (.str (ofI bs)) (hset H nm2 .dead))
   | _=>False)
  | _=>False)
 | _=>False
theorem k160:aG Tryz.prog c160:=by
 refine qV (enters_of Tryz.func234 (by kernel_rfl) rfl) ?_
 intro args H K h
 split at h
 case h_2=>exact h.elim
 rename_i nm
 split at h
 case h_2=>exact h.elim
 rename_i A nm2 k e ho
 split at h
 case h_2=>exact h.elim
 rename_i k' bs e' ho2
 obtain ⟨⟨hA,hkk,rfl,rfl,hpos,hne⟩,hK⟩:=h
 subst hkk
 refine ⟨fun s H'=>s= .str (ofI bs)∧H'=hset H nm2 .dead,fun s H' e=>by rw[e.1,e.2];exact hK,?_⟩
 intro G loc ver w vs hC hI hr
 cases hr with
 | cons _ v1 _ vs1 h1 hr=>
 cases hr
 obtain ⟨b,hbk,rfl⟩:=kJ hI h1 (by simp only[live,ho])
 have hn:=aD ho (by simp)
 have hn2:=aD ho2 (by simp)
 obtain ⟨h0,b',vals,g1,g2,g3⟩:=hI.objs nm _ hn
 rw[hbk] at g1;cases g1
 replace g2:w.heap[b]? =some (.cells ⟨vals⟩ 224 (0,0)):=g2
 cases g3 with
 | cons _ u _ us r1 r2=>
 cases r2 with
 | cons _ u2 _ us2 r2 r3=>
 cases r3
 obtain ⟨hu2,hlt2⟩:=iD hI r2 ho2
 subst hu2
 obtain ⟨q1,q2,hlen,hmax,vs2,hown,hel⟩:=hI.objs nm2 _ hn2
 have hlen':(loc nm2).len=List.length (α:=Int) bs:=hlen
 have hmax':(loc nm2).len≤140737488355328:=hmax
 have hel':∀i,i<(loc nm2).len→Reads w (okN G H loc w) (.int .u8) (List.getD (α:=Int) bs i 0) ((vs2.drop (i*1)).take 1):=hel
 rcases aP hown with ⟨_,_,_,e4⟩ | ⟨g,cur,e1,e2,e3,e4,e5,e6,e7⟩
 ·omega
 have e3':w.heap[g]? =some (.cells cur 5 (0,0)):=e3
 have hol:(ofI bs).length=List.length (α:=Int) bs:=by simp[ofI]
 have e7':cur.toList.take (List.length (α:=Int) bs)=vs2:=by rw[← hlen'];simpa [Ty.size] using e7
 have hcell:∀(j:Nat) (x:UInt8),(ofI bs)[j]? =some x→cur[j]? =some (Value.int .u8 x.toNat):=by
  intro j x hj
  have hjl:j<List.length (α:=Int) bs:=by rw[← hol];exact (List.getElem?_eq_some_iff.1 hj).1
  have hR:=hel' j (by omega)
  have hg1:List.getD (α:=Int) bs j 0=bs[j]:=by simp[List.getD_eq_getElem?_getD,hjl]
  have hx:x=UInt8.ofNat (bs[j]:Int).toNat:=by
   simp[ofI,hjl] at hj
   exact hj.symm
  obtain ⟨hR1,hR2⟩:=hR
  have hR2:(0:Int)≤List.getD (α:=Int) bs j 0∧List.getD (α:=Int) bs j 0≤255:=hR2
  have hjc:(cur.toList.take (List.length (α:=Int) bs))[j]? =some (Value.int .u8 (List.getD (α:=Int) bs j 0)):=by
   rw[e7']
   have h1:((vs2.drop (j*1)).take 1)[0]? =some (Value.int .u8 (List.getD (α:=Int) bs j 0)):=by rw[hR1];rfl
   simpa using h1
  rw[List.getElem?_take,if_pos hjl] at hjc
  rw[← Array.getElem?_toList,hjc,hx]
  rw[hg1] at hR2 ⊢
  congr 2
  simp only[UInt8.toNat_ofNat']
  omega
 have hhead:(loc nm2).head= .slice (some ⟨g,0,none⟩) (ofI bs).length (loc nm2).cap:=by simp[Core.head,e1,e2,hlen',hol]
 have hb3:w.heap[b]? =some (.cells #[u,.slice (some ⟨g,0,none⟩) (ofI bs).length (loc nm2).cap] 224 (0,0)):=by rw[← hhead];exact g2
 refine (aKs RL.lS ex160 b g (loc nm2).cap u cur (ofI bs) w (by intro e;rw[e] at hol;simp at hol;omega) hb3 e3' (by omega) e5 (by simpa [Ty.size] using e6) hcell).mono ?_
 rintro e w' ⟨rfl,rfl⟩
 refine ⟨_,rfl,?_⟩
 have hfr:∀c,c≠g→(w.drew.freeze ⟨g,0,none⟩ (ofI bs).length).heap[c]? =w.heap[c]? :=by
  intro c hc
  unfold World.freeze
  split
  ·rfl
  ·show (w.heap.modify _ _)[c]? = _
   rw[Array.getElem?_modify,if_neg (fun e=>hc e.symm)]
 have hsz:(w.drew.freeze ⟨g,0,none⟩ (ofI bs).length).heap.size=w.heap.size:=by
  unfold World.freeze
  split
  ·rfl
  ·simp
 have hin:=hI.inPlace (w':=w.drew.freeze ⟨g,0,none⟩ (ofI bs).length) (o':=.dead) hn2 (b:=g) (by simp[Owns,e1]) (fun _ h=>h.elim) hsz (by unfold World.freeze;split<;>rfl) (by unfold World.freeze;split<;>rfl) (by unfold World.freeze;split<;>rfl) hfr (fun _=>trivial)
 exact ⟨_,_,_,_,⟨rfl,rfl⟩,hin.1,.str _ (by show (ofI bs).length≤140737488355328;omega),hin.2⟩
theorem kE (a b:List UInt8):aM (a++b)=List.append (α:=Int) (aM a) (aM b):=by simp[aM]
theorem uN (p w r t:List UInt8):List.append (α:=Int) (List.append (α:=Int) (aM (p++w)) (aM r)) (aM t)=aM (p++(w++(r++t))):=by
 rw[← kE,← kE]
 simp only[List.append_assoc]
theorem aFs (p w t:List UInt8):List.append (α:=Int) (aM (p++w)) (aM t)=aM (p++(w++([]++t))):=by
 rw[← kE,List.append_assoc,List.nil_append]
def wrA:Nat→SV
 | 0=>.val (.pointer none)
 | _+1=>.ptr 1 0
theorem aJc {x:Int} (h:0≤x∧x<1000000000):(itoa x).length≤9:=by
 unfold itoa
 rw[if_neg (by omega)]
 exact eV 8 _ (by omega)
theorem iH {x:Int}:0<(itoa x).length:=by
 cases h:itoa x with
 | nil=>exact absurd h (by unfold itoa;split<;>simp[xW])
 | cons=>simp
theorem aJd (a:List Int) (m:Nat):0<(wrK a (m+1)).length:=by
 have:=iH (x:=a.getD (a.length-1-m) 0)
 show 0<(wrK a m++((if 0<m then List.replicate (9-(itoa (a.getD (a.length-1-m) 0)).length) 48 else [])++itoa (a.getD (a.length-1-m) 0))).length
 simp only[List.length_append];omega
theorem vC {a:List Int} (h:InB B9 a):∀i,(wrK a i).length≤9*i
 | 0=>Nat.le_refl _
 | i+1=>by
  have h1:=vC h i
  have h2:=aJc (get9 h (a.length-1-i))
  show (wrK a i++((if 0<i then List.replicate (9-(itoa (a.getD (a.length-1-i) 0)).length) 48 else [])++itoa (a.getD (a.length-1-i) 0))).length≤9*(i+1)
  by_cases h0:0<i
  ·rw[if_pos h0];simp only[List.length_append,List.length_replicate];omega
  ·rw[if_neg h0];simp only[List.length_append,List.length_nil];omega
theorem b128 (p:Prop) (hp:Decidable p) (a:List Int) (h:InB B9 a∧a.length≤200):body Tryz.prog [c157,c158,c160,c61,c159,c135,c166] { asks:=[(0,[2])] } true Tryz.f193 [.agg [.bl p hp,Ls a]] (S (if a= [] then [48] else (if p then [45] else [])++wrK a a.length)):=by
 (repeat'((conv=>whnf);first|refine Zg fun _=>?_|fail))
 (apply Br.mk<;>intro)
 ·rename_i hz
  have e:a= []:=List.eq_nil_of_length_eq_zero (by omega)
  (conv=>whnf)
  rw[if_pos e]
 ·rename_i hz
  refine Own.r ?_
  (conv=>whnf)
  refine ⟨1,.int .u8,5,?_⟩
  (apply Br.mk<;>intro)
  ·rename_i hp'
   (conv=>whnf)
   refine Need.mk ⟨.inl rfl,rfl,rfl,rfl,Nat.zero_le _⟩ ?_
   (conv=>whnf)
   refine Ask.mk ⟨{ X:=Nat,pre:=fun i=>i≤a.length,mod:=fun i _=>[],heap:=fun i H=>[hget H 0,.cells [.ptr 1 0,.ref 2 1] 224,.vec 1 (.int .u8) (aM ([45]++wrK a i)) 5],mu:=fun i=>i,objs:=[2] },rfl,?_⟩
   (repeat'((conv=>whnf);first|refine Zn ?_|fail))
   refine ⟨⟨(0:Nat),rfl,Nat.zero_le _,?_⟩,fun (i:Nat) hi (hlt:i<a.length)=>?_,fun (i:Nat) hi (he:i=a.length)=>?_⟩
   ·(repeat' first|exact trivial|rfl|exact Nat.one_pos|apply And.intro)
   ·have hx:=aJc (get9 h.1 (a.length-1-i))
    have hb:([45]++wrK a i).length≤1+9*i:=by have:=vC h.1 i;simp only[List.length_append,List.length_cons,List.length_nil];omega
    rw[← bL] at hb
    have h2:=h.2
    have hst:wrK a (i+1)=wrK a i++((if 0<i then List.replicate (9-(itoa (a.getD (a.length-1-i) 0)).length) 48 else [])++itoa (a.getD (a.length-1-i) 0)):=rfl
    show hnfL (itB a i) _
    (repeat'((conv=>whnf);first|refine Zg fun _=>?_|refine Zn ?_|fail))
    (apply Br.mk<;>intro)
    ·rw[if_pos (by omega)] at hst
     (repeat'((conv=>whnf);first|refine Zg fun _=>?_|refine Zn ?_|fail))
     refine Need.mk ⟨.inr rfl,rfl,.inl rfl,rfl,rfl,rfl,?_⟩ ?_
     ·show _+(List.replicate (9-((itoa (a.getD (a.length-1-i) 0)).length:Int)).toNat 48).length≤1000000
      rw[List.length_replicate];omega
     refine Need.mk ⟨.inr rfl,rfl,.inr rfl,rfl,rfl,rfl,?_⟩ ?_
     ·show (List.append (α:=Int) _ (aM (List.replicate (9-((itoa (a.getD (a.length-1-i) 0)).length:Int)).toNat 48))).length+ _≤1000000
      show (_++ _:List Int).length+ _≤ _
      rw[List.length_append,bL (List.replicate _ _),List.length_replicate];omega
     refine ⟨(i+1:Nat),rfl,hlt,?_⟩
     (repeat' first|exact trivial|rfl|exact Nat.one_pos|apply And.intro)
     rw[hst,show (9-((itoa (a.getD (a.length-1-i) 0)).length:Int)).toNat=9-(itoa (a.getD (a.length-1-i) 0)).length by omega]
     exact uN [45] _ _ _
    ·rw[if_neg (by omega)] at hst
     refine Need.mk ⟨.inr rfl,rfl,.inl rfl,rfl,rfl,rfl,by omega⟩ ?_
     refine ⟨(i+1:Nat),rfl,hlt,?_⟩
     (repeat' first|exact trivial|rfl|exact Nat.one_pos|apply And.intro)
     rw[hst]
     exact aFs [45] _ _
   ·subst he
    have hpos:0<(aM ([45]++wrK a a.length)).length:=by
     rw[bL]
     obtain ⟨m,hm⟩:∃m,a.length=m+1:=⟨a.length-1,by omega⟩
     have:=aJd a m
     rw[hm,List.length_append];omega
    refine Need.mk ⟨.inr rfl,rfl,rfl,rfl,hpos,by show (1:Nat)≠2;decide⟩ ?_
    (conv=>whnf)
    rw[if_neg (by intro e;rw[e] at hz;exact hz rfl),if_pos hp',yP]
  ·rename_i hp'
   refine Ask.mk ⟨{ X:=Nat,pre:=fun i=>i≤a.length,mod:=fun i _=>[],heap:=fun i H=>[hget H 0,.cells [wrA i,.ref 2 1] 224,.vec 1 (.int .u8) (aM ([]++wrK a i)) 5],mu:=fun i=>i,objs:=[2] },rfl,?_⟩
   (repeat'((conv=>whnf);first|refine Zn ?_|fail))
   refine ⟨⟨(0:Nat),rfl,Nat.zero_le _,?_⟩,fun (i:Nat) hi (hlt:i<a.length)=>?_,fun (i:Nat) hi (he:i=a.length)=>?_⟩
   ·(repeat' first|exact trivial|rfl|exact Nat.one_pos|apply And.intro)
   ·have h2:=h.2
    rcases i with _ | k
    ·have hx:=aJc (get9 h.1 (a.length-1-(0)))
     have hb:([]++wrK a (0)).length≤1+9*(0):=by have:=vC h.1 (0);simp only[List.length_append,List.length_nil];omega
     rw[← bL] at hb
     have hst:wrK a (0+1)=wrK a (0)++((if 0<(0) then List.replicate (9-(itoa (a.getD (a.length-1-(0)) 0)).length) 48 else [])++itoa (a.getD (a.length-1-(0)) 0)):=rfl
     show hnfL (itB a (0)) _
     (repeat'((conv=>whnf);first|refine Zg fun _=>?_|refine Zn ?_|fail))
     (apply Br.mk<;>intro)
     ·exfalso;omega
     ·rw[if_neg (by omega)] at hst
      refine Need.mk ⟨.inl rfl,rfl,.inl rfl,rfl,rfl,rfl,by omega⟩ ?_
      refine ⟨(0+1:Nat),rfl,hlt,?_⟩
      (repeat' first|exact trivial|rfl|exact Nat.one_pos|apply And.intro)
    ·have hx:=aJc (get9 h.1 (a.length-1-(k+1)))
     have hb:([]++wrK a (k+1)).length≤1+9*(k+1):=by have:=vC h.1 (k+1);simp only[List.length_append,List.length_nil];omega
     rw[← bL] at hb
     have hst:wrK a (k+1+1)=wrK a (k+1)++((if 0<(k+1) then List.replicate (9-(itoa (a.getD (a.length-1-(k+1)) 0)).length) 48 else [])++itoa (a.getD (a.length-1-(k+1)) 0)):=rfl
     show hnfL (itB a (k+1)) _
     (repeat'((conv=>whnf);first|refine Zg fun _=>?_|refine Zn ?_|fail))
     (apply Br.mk<;>intro)
     ·rw[if_pos (by omega)] at hst
      (repeat'((conv=>whnf);first|refine Zg fun _=>?_|refine Zn ?_|fail))
      refine Need.mk ⟨.inr rfl,rfl,.inl rfl,rfl,rfl,rfl,?_⟩ ?_
      ·show _+(List.replicate (9-((itoa (a.getD (a.length-1-(k+1)) 0)).length:Int)).toNat 48).length≤1000000
       rw[List.length_replicate];omega
      refine Need.mk ⟨.inr rfl,rfl,.inr rfl,rfl,rfl,rfl,?_⟩ ?_
      ·show (List.append (α:=Int) _ (aM (List.replicate (9-((itoa (a.getD (a.length-1-(k+1)) 0)).length:Int)).toNat 48))).length+ _≤1000000
       show (_++ _:List Int).length+ _≤ _
       rw[List.length_append,bL (List.replicate _ _),List.length_replicate];omega
      refine ⟨(k+1+1:Nat),rfl,hlt,?_⟩
      (repeat' first|exact trivial|rfl|exact Nat.one_pos|apply And.intro)
      rw[hst,show (9-((itoa (a.getD (a.length-1-(k+1)) 0)).length:Int)).toNat=9-(itoa (a.getD (a.length-1-(k+1)) 0)).length by omega]
      exact uN [] _ _ _
     ·exfalso;omega
   ·obtain ⟨m,rfl⟩:∃m,i=m+1:=⟨i-1,by omega⟩
    have hpos:0<(aM ([]++wrK a (m+1))).length:=by
     rw[bL]
     exact aJd a m
    refine Need.mk ⟨.inr rfl,rfl,rfl,rfl,hpos,by show (1:Nat)≠2;decide⟩ ?_
    (conv=>whnf)
    rw[if_neg (by intro e;rw[e] at hz;exact hz rfl),if_neg hp',yP,he]
def uO (a:List Int):Prop:=a=aA B9 (valB B9 a).toNat∧a.length≤200
theorem dF {m:Nat} (h:m<B9^200):uO (aA B9 m):=by
 refine ⟨by rw[cG (by decide),Int.toNat_natCast],?_⟩
 rcases Nat.eq_zero_or_pos m with rfl | hm
 ·rw[aX];exact Nat.zero_le _
 ·obtain ⟨h1,_,h3⟩:=cU (B:=B9) (by decide) hm
  have h1:B9^ ((aA B9 m).length-1)≤m:=by exact_mod_cast h1
  have:=(Nat.pow_lt_pow_iff_right (show 1<B9 by decide)).1 (Nat.lt_of_le_of_lt h1 h)
  omega
theorem aFt {a:List Int} (h:uO a):InB B9 a:=by rw[h.1];exact aO (by decide) _
def sgP (p:Prop) [Decidable p] (n:Int):Int:=if p then -n else n
theorem aM0 (p:Prop) [hp:Decidable p] {a:List Int} (h:uO a):(if a= [] then [48] else (if p then [45] else [])++wrK a a.length)=itoa (sgP p (valB B9 a)):=by
 have hz:=cG (B:=B9) (by decide) (valB B9 a).toNat
 rw[← h.1] at hz
 by_cases e:a= []
 ·rw[if_pos e]
  subst e
  have:sgP p (valB B9 [])=0:=by unfold sgP;split<;>rfl
  rw[this]
  unfold itoa
  rw[if_neg (by omega)]
  exact (cI (show 0<10 by omega)).symm
 ·rw[if_neg e]
  have hl:a.getLast e≠0:=by
   have:=mC (B:=B9) (by decide) (valB B9 a).toNat
   rw[← h.1] at this
   exact this e
  obtain ⟨m,hm⟩:∃m,a.length=m+1:=⟨a.length-1,by have:=List.length_pos_iff.2 e;omega⟩
  obtain ⟨h1,h2⟩:=aFd (show InB (10^9) a from aFt h) e hl m (by omega)
  have e9:(10:Nat)^9=B9:=by decide
  rw[show a.length-1-m=0 by omega,List.drop_zero,e9] at h1 h2
  rw[hm,h2]
  have h3:=aQb (decide p) (valB B9 a).toNat
  unfold wrM at h3
  rw[if_neg (by omega)] at h3
  have h4:sgn (decide p) (valB B9 a).toNat=sgP p (valB B9 a):=by
   unfold sgn sgP
   by_cases hq:p
   ·rw[if_pos (by simp[hq]),if_pos hq];omega
   ·rw[if_neg (by simp[hq]),if_neg hq];omega
  rw[← h4,← h3]
  by_cases hq:p
  ·rw[if_pos hq,if_pos (by simp[hq])];rfl
  ·rw[if_neg hq,if_neg (by simp[hq])];rfl
def c128:Con:=aJ 193 true fun args K=>match args with
 | [.agg [.bl p hp,.seq (.int .i64) a]]=>Need (uO a) (K (S (itoa (@sgP p hp (valB B9 a)))))
 | _=>False
theorem k128:aG Tryz.prog c128:=by
 refine kO Tryz.func193 fun args K h=>?_
 simp only[c128] at h;split at h
 ·rename_i p hp a
  refine ⟨_,h.go,?_⟩
  rw[← aM0 p h.ok]
  exact triB Tryz.func193 Tryz.ntmps193 (by simp[k157,k158,k160,k61,k159,k135,k166]) (b128 p hp a ⟨aFt h.ok,h.ok.2⟩)
 ·exact h.elim
def resI (n:Int):List UInt8 × Int:=if lim n then ([],4) else (itoa n,0)
theorem b96 (p:Prop) (hp:Decidable p) (a:List Int) (h:uO a):body Tryz.prog [c128,c88] {} true Tryz.f140 [.agg [.bl p hp,Ls a]] (.tup [S (resI (sgP p (valB B9 a))).1,I (resI (sgP p (valB B9 a))).2]):=by
 have ht:=congrArg List.length (bO (sgP p (valB B9 a)))
 unfold resI lim
 (repeat'((conv=>whnf);first|refine Zg fun _=>?_|refine Zn ?_|fail))
 (apply Br.mk<;>intro)
 ·rename_i hg
  rw[if_pos (by simp;omega)]
  (conv=>whnf)
  (repeat' first|exact trivial|rfl|apply And.intro)
 ·rename_i hg
  rw[if_neg (by simp;omega)]
  (conv=>whnf)
  (repeat' first|exact trivial|rfl|apply And.intro)
def c96:Con:=aJ 140 true fun args K=>match args with
 | [.agg [.bl p hp,.seq (.int .i64) a]]=>Need (uO a) (K (.tup [S (resI (@sgP p hp (valB B9 a))).1,I (resI (@sgP p hp (valB B9 a))).2]))
 | _=>False
theorem k96:aG Tryz.prog c96:=by
 refine kO Tryz.func140 fun args K h=>?_
 simp only[c96] at h;split at h
 ·rename_i p hp a
  exact ⟨_,h.go,triB Tryz.func140 Tryz.ntmps140 (by simp[k128,k88]) (b96 p hp a h.ok)⟩
 ·exact h.elim
def addP (p:Prop) (m:Nat) (q:Prop) (n:Nat):Prop:=(((p↔q)∨n≤m)∧p)∨(¬((p↔q)∨n≤m)∧q)
instance (p:Prop) [Decidable p] (m:Nat) (q:Prop) [Decidable q] (n:Nat):Decidable (addP p m q n):=by unfold addP;infer_instance
def addN (p:Prop) [Decidable p] (m:Nat) (q:Prop) [Decidable q] (n:Nat):Nat:=if p↔q then m+n else if n≤m then m-n else n-m
theorem aOz (p:Prop) [Decidable p] (m:Nat) (q:Prop) [Decidable q] (n:Nat):sgP (addP p m q n) (addN p m q n)=sgP p m+sgP q n:=by
 unfold sgP addP addN
 by_cases hp:p<;>by_cases hq:q<;>by_cases h:n≤m<;>simp[hp,hq,h]<;>omega
theorem eS {m k:Nat} (h:m<B9^k):(aA B9 m).length≤k:=by
 rcases Nat.eq_zero_or_pos m with rfl | hm
 ·rw[aX];exact Nat.zero_le _
 ·obtain ⟨h1,_,h3⟩:=cU (B:=B9) (by decide) hm
  have h1:B9^ ((aA B9 m).length-1)≤m:=by exact_mod_cast h1
  have:=(Nat.pow_lt_pow_iff_right (show 1<B9 by decide)).1 (Nat.lt_of_le_of_lt h1 h)
  omega
theorem v9 (m:Nat):valB B9 (aA B9 m)=m:=cG (by decide) m
theorem b97 (p:Prop) (hp:Decidable p) (m:Nat) (q:Prop) (hq:Decidable q) (n:Nat) (hm:m<B9^100) (hn:n<B9^100):
  body Tryz.prog [c107,c129] {} false Tryz.f141 [.agg [.bl p hp,Ls (aA B9 m)],.agg [.bl q hq,Ls (aA B9 n)]] (.agg [.bl (addP p m q n) inferInstance,Ls (aA B9 (addN p m q n))]):=by
 have im:InB B9 (aA B9 m):=aO (by decide) m
 have jn:InB B9 (aA B9 n):=aO (by decide) n
 have lm:=eS hm
 have ln:=eS hn
 have hc:=yM m n
 have vm:=v9 m
 have vn:=v9 n
 (repeat'((conv=>whnf);first|refine Zl ?_|fail))
 (apply Br.mk<;>intro)
 ·rename_i h
  have e1:p↔addP p m q n:=by unfold addP;simp[h]
  have e2:(valB B9 (aA B9 m)+valB B9 (aA B9 n)).toNat=addN p m q n:=by unfold addN;rw[if_pos h];omega
  (repeat'((conv=>whnf);first|(apply Pin.mk;apply Exists.intro)|apply Pinned.mk rfl rfl|fail))
  refine Need.mk ⟨im,jn,by omega,by omega⟩ ?_
  (repeat'((conv=>whnf);first|apply Pinned.mk rfl rfl|fail))
  (conv=>whnf)
  (repeat' first|exact trivial|apply And.intro)
  ·exact e1
  ·skip
   exact congrArg (aA B9) e2
 ·rename_i h
  (conv=>whnf)
  refine Need.mk ⟨im,jn⟩ ?_
  (apply Br.mk<;>intro)
  ·rename_i hg
   have hle:n≤m:=by omega
   have e1:p↔addP p m q n:=by unfold addP;simp[hle]
   have e2:(valB B9 (aA B9 m)-valB B9 (aA B9 n)).toNat=addN p m q n:=by unfold addN;rw[if_neg h,if_pos hle];omega
   (repeat'((conv=>whnf);first|(apply Pin.mk;apply Exists.intro)|apply Pinned.mk rfl rfl|fail))
   refine Need.mk ⟨im,jn,by omega,by omega,by omega⟩ ?_
   (repeat'((conv=>whnf);first|apply Pinned.mk rfl rfl|fail))
   (conv=>whnf)
   (repeat' first|exact trivial|apply And.intro)
   ·exact e1
   ·(conv=>whnf)
    exact congrArg (aA B9) e2
  ·rename_i hg
   have hle:¬n≤m:=by omega
   have e1:q↔addP p m q n:=by unfold addP;simp[hle,h]
   have e2:(valB B9 (aA B9 n)-valB B9 (aA B9 m)).toNat=addN p m q n:=by unfold addN;rw[if_neg h,if_neg hle];omega
   (repeat'((conv=>whnf);first|(apply Pin.mk;apply Exists.intro)|apply Pinned.mk rfl rfl|fail))
   refine Need.mk ⟨jn,im,by omega,by omega,by omega⟩ ?_
   (repeat'((conv=>whnf);first|apply Pinned.mk rfl rfl|fail))
   (conv=>whnf)
   (repeat' first|exact trivial|apply And.intro)
   ·exact e1
   ·(conv=>whnf)
    exact congrArg (aA B9) e2
def qI (a:List Int):Prop:=a=aA B9 (valB B9 a).toNat∧(valB B9 a).toNat<B9^100
def c97:Con:=aJ 141 false fun args K=>match args with
 | [.agg [.bl p hp,.seq (.int .i64) a],.agg [.bl q hq,.seq (.int .i64) b]]=>Need (qI a∧qI b) (K (.agg [.bl (addP p (valB B9 a).toNat q (valB B9 b).toNat) inferInstance,Ls (aA B9 (@addN p hp (valB B9 a).toNat q hq (valB B9 b).toNat))]))
 | _=>False
theorem k97:aG Tryz.prog c97:=by
 refine kO Tryz.func141 fun args K h=>?_
 simp only[c97] at h;split at h
 ·rename_i p hp a q hq b
  refine ⟨_,h.go,?_⟩
  obtain ⟨⟨ha,hm⟩,hb,hn⟩:=h.ok
  have ht:=triB Tryz.func141 Tryz.ntmps141 (by simp[k107,k129]) (b97 p hp (valB B9 a).toNat q hq (valB B9 b).toNat hm hn)
  rw[← ha,← hb] at ht
  exact ht
 ·exact h.elim
theorem aO0 {l k:Nat} (h:l≤9*k):(10:Nat)^l≤B9^k:=by
 have e9:(10:Nat)^9=B9:=by decide
 rw[← e9,← Nat.pow_mul]
 exact Nat.pow_le_pow_right (by omega) h
theorem gV {s:List UInt8} (h:form s) (hl:(digs s).length≤300):aC (digs s)<B9^34:=
 Nat.lt_of_lt_of_le (bW (digs s) h.2.2) (aO0 (by omega))
theorem cX {s:List UInt8}:valI s=sgP (s.headD 0=45) (aC (digs s):Nat):=by
 unfold valI sgP digs
 split
 ·rfl
 ·rfl
theorem fQ {s:List UInt8} (h:form s) (hl:(digs s).length≤300):qI (aA B9 (aC (digs s))):=by
 refine ⟨by rw[v9,Int.toNat_natCast],?_⟩
 rw[v9,Int.toNat_natCast]
 exact Nat.lt_of_lt_of_le (gV h hl) (Nat.pow_le_pow_right (by decide) (by omega))
noncomputable def bG (a b:List UInt8) (r:List UInt8 × Int):List UInt8 × Int:=if chk2 a b≠0 then ([],chk2 a b) else r
theorem jB {a b:List UInt8} (h:¬chk2 a b≠0):chkI a=0∧chkI b=0:=by
 unfold chk2 at h
 split at h
 ·rename_i h1;exact absurd h1 h
 ·rename_i h1;exact ⟨Classical.not_not.1 h1,Classical.not_not.1 h⟩
theorem gW {n:Int} (h:n.natAbs<10^40):resI n=(itoa n,0):=by
 unfold resI lim
 rw[if_neg]
 have:=eV 39 n.natAbs h
 simp;omega
theorem aO1 (p:Prop) [Decidable p] (n:Int):sgP (¬p) n= -sgP p n:=by unfold sgP;by_cases h:p<;>simp[h]
theorem aQo (a b:List UInt8):sgP (addP (a.headD 0=45) (valB B9 (aA B9 (aC (digs a)))).toNat (¬b.headD 0=45) (valB B9 (aA B9 (aC (digs b)))).toNat) (valB B9 (aA B9 (addN (a.headD 0=45) (valB B9 (aA B9 (aC (digs a)))).toNat (¬b.headD 0=45) (valB B9 (aA B9 (aC (digs b)))).toNat)))=valI a-valI b:=by
 simp only[v9,Int.toNat_natCast,aOz,cX,aO1]
 omega
theorem aFo {P:Program} {f:FuncId} {args:List SV} {t:Ty} {ys:List t.T} {e:TypeId} (h2:t.flat=true) (h:OTri P f args (.ref 0 1) t ys e):Tri P true f args (.seq t ys):=by
 intro ok w vs hg hok hr
 refine (h ok w vs hg hok hr).mono ?_
 rintro en w' ⟨v,L',rfl,hb,hL,⟨hlen,hmax,us,hown,hel⟩,hrel⟩
 refine ⟨v,rfl,hb,?_⟩
 cases hrel with
 | ref _ _ _ hn h0 hk hv=>
 have:=hv rfl
 subst this
 refine .seq t ys _ ?_
 rcases aP hown with ⟨e1,e2,e3,e4⟩ | ⟨g,cur,e1,e2,e3,e4,e5,e6,e7⟩
 ·exact ⟨none,0,0,by simp[Core.head,envO,e1,e2,e3],by omega,Nat.le_refl _,Nat.zero_le _,fun h=>absurd h (Nat.lt_irrefl _)⟩
 ·have hg1:w.heap.size≤g:=hL g (by simp[e1])
  have hg2:g<w'.heap.size:=(Array.getElem?_eq_some_iff.1 e3).1
  refine ⟨some ⟨g,0,none⟩,L'.len,L'.cap,by simp[Core.head,envO,e1],hlen,e4,hmax,fun h0=>⟨g,0,rfl,.inr ⟨hg1,hg2⟩,fun i hi=>⟨_,(hel i hi).length,?_,(hel i hi).flat h2⟩⟩⟩
  intro j v hj
  rw[List.getElem?_take] at hj
  split at hj
  ·rw[List.getElem?_drop,← e7,List.getElem?_take] at hj
   split at hj
   ·simp only[env0,World.cell?,e3]
    simpa using hj
   ·cases hj
  ·cases hj
def c99f:Con:=aJ 188 true fun args K=>match args with
 | [.seq (.int .i64) a,.seq (.int .i64) b]=>Need (InB B9 a∧InB B9 b∧a.length≤100000∧b.length≤100000) (K (Ls (aA B9 (valB B9 a*valB B9 b).toNat)))
 | _=>False
theorem k99f:aG Tryz.prog c99f:=by
 refine kO Tryz.func188 fun args K h=>?_
 simp only[c99f] at h;split at h
 ·rename_i a b
  exact ⟨_,h.go,aFo rfl (lL (by simp[k132,k131]) Tryz.func188 (by simp[Tryz.ntmps188]) rfl (b99 a b h.ok))⟩
 ·exact h.elim
theorem aI8 (p q:Prop) [Decidable p] [Decidable q] (m n:Int):sgP (¬(p↔q)) (m*n)=sgP p m*sgP q n:=by
 unfold sgP
 by_cases hp:p<;>by_cases hq:q<;>simp[hp,hq,Int.neg_mul,Int.mul_neg]
theorem aI9 {s:List UInt8} (h:form s):(valI s).natAbs<10^s.length:=by
 obtain ⟨h1,h2,h3⟩:=h
 have hb:=bW (digs s) h3
 have hp:(10:Nat)^ (digs s).length≤10^s.length:=Nat.pow_le_pow_right (by omega) (jO s).1
 have hv:valI s=aC (digs s)∨valI s= -(aC (digs s):Int):=by
  unfold valI digs
  split
  ·exact .inr rfl
  ·exact .inl rfl
 omega
theorem aA9 {a b:List UInt8} (ha:form a) (hb:form b) (h:a.length+b.length≤18):(valI a*valI b).natAbs<1000000000000000000:=by
 have h1:=aI9 ha
 have h2:=aI9 hb
 rw[Int.natAbs_mul]
 have h3:(valI a).natAbs*(valI b).natAbs<10^a.length*10^b.length:=Nat.mul_lt_mul'' h1 h2
 rw[← Nat.pow_add] at h3
 exact Nat.lt_of_lt_of_le h3 (Nat.le_trans (Nat.pow_le_pow_right (by omega) h) (by decide))
theorem aQf (a b:List UInt8) (m:Nat) (hd:Decidable (¬(a.headD 0=45↔b.headD 0=45))) (hm:m=(valB B9 (aA B9 (aC (digs a)))*valB B9 (aA B9 (aC (digs b)))).toNat):sgP (¬(a.headD 0=45↔b.headD 0=45)) (valB B9 (aA B9 m))=valI a*valI b:=by
 subst hm
 have:hd=instDecidableNot:=Subsingleton.elim _ _
 subst this
 rw[v9,v9,v9,← Int.natCast_mul,Int.toNat_natCast,Int.natCast_mul,aI8,cX,cX]
theorem aKo {a b:List UInt8} (fa:form a) (la:(digs a).length≤300) (fb:form b) (lb:(digs b).length≤300):uO (aA B9 (valB B9 (aA B9 (aC (digs a)))*valB B9 (aA B9 (aC (digs b)))).toNat):=by
 refine dF ?_
 rw[v9,v9,← Int.natCast_mul,Int.toNat_natCast]
 have h3:=Nat.mul_lt_mul'' (gV fa la) (gV fb lb)
 rw[← Nat.pow_add] at h3
 exact Nat.lt_of_lt_of_le h3 (Nat.pow_le_pow_right (by decide) (by omega))
theorem b58 (a b:List UInt8):body Tryz.prog [c94,c95,c61,c98,c99f,c96] {} true Tryz.f136 [S a,S b] (.tup [S (bG a b (resI (valI a*valI b))).1,I (bG a b (resI (valI a*valI b))).2]):=by
 unfold bG
 (apply Br.mk<;>intro)
 ·rename_i h
  rw[if_pos h]
  (conv=>whnf)
  (repeat' first|exact trivial|rfl|apply And.intro)
 ·rename_i h
  rw[if_neg h]
  obtain ⟨ha,hb⟩:=jB h
  obtain ⟨fa,la⟩:=bY ha
  obtain ⟨fb,lb⟩:=bY hb
  (repeat'((conv=>whnf);first|refine Zg fun _=>?_|refine Zn ?_|fail))
  (apply Br.mk<;>intro)
  ·rename_i hs
   have hm:=aA9 fa fb (by omega)
   refine Need.mk ⟨rfl,fa,fb⟩ ?_
   refine Br.mk (fun _=>?_) (fun hn=>absurd (show a.length≤18∧b.length≤18 by omega) hn)
   rw[gW (by omega)]
   (repeat'((conv=>whnf);first|refine Zn ?_|fail))
   (conv=>whnf)
   (repeat' first|exact trivial|rfl|apply And.intro)
  ·rename_i hs
   have hv:=fun hd=>aQf a b _ hd rfl
   refine Need.mk ⟨fa,by omega⟩ ?_
   refine Need.mk ⟨fb,by omega⟩ ?_
   have l1:=eS (gV fa la)
   have l2:=eS (gV fb lb)
   (repeat'((conv=>whnf);first|(apply Pin.mk;apply Exists.intro)|apply Pinned.mk rfl rfl|refine Zl ?_|fail))
   refine Need.mk ⟨aO (by decide) _,aO (by decide) _,by omega,by omega⟩ ?_
   (repeat'((conv=>whnf);first|(apply Pin.mk;apply Exists.intro)|apply Pinned.mk rfl rfl|fail))
   refine Need.mk (aKo fa la fb lb) ?_
   (repeat'((conv=>whnf);first|(apply Pin.mk;apply Exists.intro)|apply Pinned.mk rfl rfl|fail))
   (conv=>whnf)
   (repeat' first|exact trivial|rfl|apply And.intro)
   ·exact congrArg (fun z=>(resI z).1) (hv _)
   ·exact congrArg (fun z=>(resI z).2) (hv _)
def cmpI (x y:Int):Int:=if x<y then -1 else if x=y then 0 else 1
theorem b119 (x:Int):body Tryz.prog [] {} true Tryz.f174 [I x] (.val (.bool false)):=by
 (conv=>whnf)
 exact ⟨fun h=>absurd rfl h,fun h=>by cases h⟩
def c119:Con:=aJ 174 true fun args K=>match args with | [.val (.int .i64 x)]=>K (.val (.bool false)) | _=>False
theorem k119:aG Tryz.prog c119:=by
 refine kO Tryz.func174 fun args K h=>?_
 simp only[c119] at h;split at h
 ·rename_i x;exact ⟨_,h,triB Tryz.func174 Tryz.ntmps174 (by simp) (b119 x)⟩
 ·exact h.elim
theorem b76 (x y:Int):body Tryz.prog [c119] {} true Tryz.f116 [I x,I y] (I (cmpI x y)):=by
 unfold cmpI
 (repeat'((conv=>whnf);first|refine Zr (fun _=>?_) fun _=>?_|fail))
 all_goals (skip;(conv=>whnf);(repeat' first|rfl|apply And.intro))
 all_goals (repeat' split)
 all_goals omega
def c76:Con:=aJ 116 true fun args K=>match args with | [.val (.int .i64 x),.val (.int .i64 y)]=>K (I (cmpI x y)) | _=>False
theorem k76:aG Tryz.prog c76:=by
 refine kO Tryz.func116 fun args K h=>?_
 simp only[c76] at h;split at h
 ·rename_i x y;exact ⟨_,h,triB Tryz.func116 Tryz.ntmps116 (by simp[k119]) (b76 x y)⟩
 ·exact h.elim
noncomputable def aJa (a b:List UInt8) (r:Int):Int × Int:=if chk2 a b≠0 then (0,chk2 a b) else (r,0)
theorem aQg (p:Prop) [Decidable p] (n:Nat) (x y:Int) (hv:sgP p (valB B9 (aA B9 n))=x-y):cmpI x y=if ((aA B9 n).length:Int)=0 then 0 else if p then -1 else 1:=by
 rw[v9] at hv
 have h0:((aA B9 n).length:Int)=0↔n=0:=by
  rw[← gM (B:=B9) (by decide),← List.length_eq_zero_iff];omega
 unfold sgP at hv
 unfold cmpI
 by_cases hn:n=0
 ·rw[if_pos (h0.2 hn)]
  subst hn
  have:x-y=0:=by rw[← hv];split<;>rfl
  rw[if_neg (by omega),if_pos (by omega)]
 ·rw[if_neg (fun h=>hn (h0.1 h))]
  by_cases hp:p
  ·rw[if_pos hp] at hv ⊢
   rw[if_pos (by omega)]
  ·rw[if_neg hp] at hv ⊢
   rw[if_neg (by omega),if_neg (by omega)]
theorem b77 (a b:List UInt8):body Tryz.prog [c94,c95,c98,c97,c76] {} true Tryz.f118 [S a,S b] (.tup [I (aJa a b (cmpI (valI a) (valI b))).1,I (aJa a b (cmpI (valI a) (valI b))).2]):=by
 unfold aJa
 (apply Br.mk<;>intro)
 ·rename_i h
  rw[if_pos h]
  (conv=>whnf)
  (repeat' first|exact trivial|rfl|apply And.intro)
 ·rename_i h
  rw[if_neg h]
  obtain ⟨ha,hb⟩:=jB h
  obtain ⟨fa,la⟩:=bY ha
  obtain ⟨fb,lb⟩:=bY hb
  refine Need.mk ⟨rfl,fa,fb⟩ ?_
  (apply Br.mk<;>intro)
  ·skip
   (conv=>whnf)
   (repeat' first|exact trivial|rfl|apply And.intro)
  ·have hv:=aQo a b
   refine Need.mk ⟨fa,by omega⟩ ?_
   refine Need.mk ⟨fb,by omega⟩ ?_
   (repeat'((conv=>whnf);first|refine Zl ?_|fail))
   refine Need.mk ⟨fQ fa la,fQ fb lb⟩ ?_
   have hc:=aQg _ _ _ _ hv
   (repeat'((conv=>whnf);first|refine Zg fun _=>?_|refine Zl ?_|fail))
   (apply Br.mk<;>intro)
   ·rename_i h0
    rw[if_pos h0] at hc
    (conv=>whnf)
    (repeat' first|exact trivial|rfl|apply And.intro)
    exact hc.symm
   ·rename_i h0
    rw[if_neg h0] at hc
    (apply Br.mk<;>intro)
    ·rename_i h1
     rw[if_pos h1] at hc
     (conv=>whnf)
     (repeat' first|exact trivial|rfl|apply And.intro)
     exact hc.symm
    ·rename_i h1
     rw[if_neg h1] at hc
     (conv=>whnf)
     (repeat' first|exact trivial|rfl|apply And.intro)
     exact hc.symm
theorem w135 (a:Option Addr) (n c:Nat) (w:World):Calls Tryz.prog 217 #[.slice a n c] w fun e w'=>e= .returned (.func (.func 239) #[] #[.pointer (some ⟨w.heap.size,0,none⟩)])∧w'=w.alloc (.cells #[.slice a n c] 60):=by
 go_enter Tryz.func217,Tryz.ntmps217
 go_wp2
 go_ret
 exact ⟨rfl,rfl⟩
def aPp:Con:=zY 217 fun args H K=>match args with
 | [.ref nm k]=>(match hget H nm with
  | .vec j t xs e=>Need (j=k) <| K (.clo 239 [] [.lelem [.ref nm k] 0]) H
  | _=>False)
 | _=>False
theorem k135h:aG Tryz.prog aPp:=by
 refine qV (enters_of Tryz.func217 (by kernel_rfl) rfl) ?_
 intro args H K h
 split at h
 case h_2=>exact h.elim
 rename_i nm k
 split at h
 case h_2=>exact h.elim
 rename_i j t xs e ho
 obtain ⟨hjk,hK⟩:=h
 subst hjk
 refine ⟨fun s H'=>s= .clo 239 [] [.lelem [.ref nm j] 0]∧H'=H,fun s H' e=>by rw[e.1,e.2];exact hK,?_⟩
 intro G loc ver w vs hC hI hr
 cases hr with
 | cons _ v1 _ vs1 h1 hr=>
 cases hr
 obtain ⟨hv,_⟩:=iD hI h1 ho
 have hw:=w135 ((loc nm).blk.map fun p=>⟨p.1,p.2,none⟩) (loc nm).len (loc nm).cap w
 rw[show (Value.slice ((loc nm).blk.map fun p=>⟨p.1,p.2,none⟩) (loc nm).len (loc nm).cap)=v1 from hv.symm] at hw
 refine hw.mono ?_
 rintro en w' ⟨rfl,rfl⟩
 obtain ⟨hI',hx⟩:=hI.grow (w':=w.alloc (.cells #[v1] 60)) ((Below.refl _ _).alloc (Nat.le_refl _) _)
 refine ⟨_,rfl,_,_,_,_,⟨rfl,rfl⟩,hI',.clo _ _ _ _ _ .nil (.cons _ _ _ _ ?_ .nil),hx⟩
 refine .lelem _ 0 w.heap.size 0 [v1] (.cons _ _ _ _ (h1.ext hx) .nil) ?_ ?_
 ·refine ⟨.inr (.inr hI.size),by simp,?_⟩
  rintro ⟨k,o,hk,hb⟩
  have:=(hI.objs k _ hk).block (b:=w.heap.size) hb
  exact absurd this (by simp[envOf])
 ·intro i u hi
  cases i with
  | zero=>
   simp at hi;subst hi
   have:=dP w (.cells #[v1] 60)
   show (w.alloc (.cells #[v1] 60)).cell? ⟨w.heap.size,0+0,none⟩=some v1
   unfold World.cell?
   simp only[this]
   rfl
  | succ i=>simp at hi
abbrev itS (n k:Nat):List SV:=[I ((n-1-k:Nat)),.any]
theorem b166s (n:Nat):vW Tryz.prog [] { asks:=[(0,[])] } Tryz.f239 [.lelem [.sft none] 0] n (itS n):=by
 (repeat'((conv=>whnf);first|refine Zg fun _=>?_|refine Zn ?_|fail))
 refine Ask.mk ⟨{ X:=Nat,pre:=fun i=>i≤n,mod:=fun i _=>[(3,I ((n:Int)-1-i))],heap:=fun i _=>[.yst (some i) n (itS n)],mu:=fun i=>n-i },rfl,?_⟩
 (repeat'((conv=>whnf);first|refine Zn ?_|fail))
 refine ⟨⟨(0:Nat),Nat.zero_le _,by (repeat' first|exact trivial|rfl|apply And.intro|omega)⟩,fun (i:Nat) (hi:i≤n)=>?_⟩
 (apply Br.mk<;>intro)
 ·have hlt:i<n:=by omega
  have e:((n:Int)-1-i)=((n-1-i:Nat):Int):=by omega
  (repeat'((conv=>whnf);first|refine Zn ?_|fail))
  refine bX (n-1-i) (by omega) ?_
  (repeat'((conv=>whnf);first|refine Zn ?_|fail))
  refine Need.mk (by (repeat' first|exact trivial|rfl|apply And.intro);exact e) ?_
  refine Two.mk ?_ ?_
  ·(repeat'((conv=>whnf);first|refine Zn ?_|fail))
   refine ⟨(i+1:Nat),by show n-(i+1)<n-i;omega,hlt,?_⟩
   (repeat' first|exact trivial|rfl|apply And.intro|omega)
  ·(conv=>whnf)
   trivial
 ·(conv=>whnf)
  omega
def aMm:Con:=aJ 239 false fun args K=>match args with | [.lelem [.sft none] 0]=>∃n,K (.itr n (itS n)) | _=>False
theorem k166s:aG Tryz.prog aMm:=by
 refine kO Tryz.func239 fun args K h=>?_
 simp only[aMm] at h;split at h
 ·obtain ⟨n,hK⟩:=h
  exact ⟨_,hK,fU (by simp) Tryz.func239 (by simp[Tryz.ntmps239]) (b166s n)⟩
 ·exact h.elim
end RB
end
section
namespace IB
theorem aKh {B:Nat} (hB:2≤B) {w:List Int} (h:InB B w) {j k:Nat} (hk:2≤k) (hl:j+k<w.length) (hz:∀i,j+(k+1)≤i→w.getD i 0=0):
  valB B (w.drop j)<((w.getD (j+k) 0*B+w.getD (j+k-1) 0)*B+w.getD (j+k-2) 0+1)*(B:Int)^ (k-2):=by
 have e0:=dS (B:=B) (w.drop j) (k-2) (by rw[List.length_drop];omega)
 rw[List.drop_drop,show j+(k-2)=j+k-2 by omega] at e0
 have b0:=gP hB (iO (eW h j) (k-2)) (n:=k-2) (by rw[List.length_take];omega)
 rw[bB w (j+k-2) (by omega),show j+k-2+1=j+k-1 by omega,bB w (j+k-1) (by omega),show j+k-1+1=j+k by omega,bB w (j+k) hl] at e0
 have ez:valB B (w.drop (j+k+1))=0:=by
  have:w.drop (j+k+1)=List.replicate (w.length-(j+k+1)) 0:=by
   refine gR (by simp) fun i hi=>?_
   have:=hz (j+k+1+i) (by omega)
   rw[List.length_drop] at hi
   have hi':j+k+1+i<w.length:=by omega
   simpa [List.getD_eq_getElem?_getD,List.getElem?_drop,List.getElem?_replicate,hi,hi'] using this
  rw[this,kT]
 simp only[valB,ez,Int.mul_zero,Int.add_zero] at e0
 have hP:=dB hB (k-2)
 generalize (B:Int)^ (k-2)=P at*
 generalize w.getD (j+k) 0=x0 at*
 generalize w.getD (j+k-1) 0=x1 at*
 generalize w.getD (j+k-2) 0=x2 at*
 rw[e0,show ((x0*B+x1)*B+x2+1)*P=P*(x2+B*(x1+B*x0))+P by
  rw[Int.add_mul _ 1,Int.one_mul,Int.mul_comm _ P,Int.add_comm _ x2,Int.mul_comm _ (B:Int),Int.add_comm _ x1,Int.mul_comm x0]]
 omega
theorem aOr {B:Nat} (hB:2≤B) {v:List Int} (h:InB B v) (hk:2≤v.length):
  (v.getD (v.length-1) 0*B+v.getD (v.length-2) 0)*(B:Int)^ (v.length-2)≤valB B v:=by
 have e0:=dS (B:=B) v (v.length-2) (by omega)
 have b0:=aY (iO h (v.length-2))
 rw[bB v (v.length-2) (by omega),show v.length-2+1=v.length-1 by omega,bB v (v.length-1) (by omega),List.drop_eq_nil_of_le (by omega)] at e0
 simp only[valB,Int.mul_zero,Int.add_zero] at e0
 rw[Int.mul_comm,Int.add_comm (v.getD (v.length-1) 0*(B:Int)),Int.mul_comm (v.getD (v.length-1) 0)]
 omega
theorem aG8 {B:Nat} (hB:2≤B) {u v:List Int} (hu:InB B u) (hv:InB B v) (hV:0<valB B v) {m:Nat} (hm:m+v.length=u.length) (h0:valB B (u.drop m)<valB B v) (hk:2≤v.length) (hv1:0<v.getD (v.length-1) 0) (s:Nat) (hs:s<m) (f:Nat):
  (∀i,m-1-s+(v.length+1)≤i→(bR B u v m s).1.getD i 0=0)∧
  0≤valB B ((bR B u v m s).1.drop (m-1-s))/valB B v∧valB B ((bR B u v m s).1.drop (m-1-s))/valB B v<B∧
  (∀top,top=(bR B u v m s).1.getD (m-1-s+v.length) 0*B+(bR B u v m s).1.getD (m-1-s+v.length-1) 0→
   valB B ((bR B u v m s).1.drop (m-1-s))/valB B v≤estF B (v.getD (v.length-1) 0) (v.getD (v.length-2) 0) ((bR B u v m s).1.getD (m-1-s+v.length-2) 0) f (top/v.getD (v.length-1) 0) (top%v.getD (v.length-1) 0)∧
   estF B (v.getD (v.length-1) 0) (v.getD (v.length-2) 0) ((bR B u v m s).1.getD (m-1-s+v.length-2) 0) f (top/v.getD (v.length-1) 0) (top%v.getD (v.length-1) 0)≤top/v.getD (v.length-1) 0):=by
 obtain ⟨h1,h2,h3,h4,h5,h6⟩:=mD hB hu hv hV hm h0 s (by omega)
 obtain ⟨j,hj⟩:∃j,m-1-s=j:=⟨_,rfl⟩
 have e1:m-s=j+1:=by omega
 rw[hj]
 rw[e1] at h5
 generalize (bR B u v m s).1=w at h1 h2 h5 ⊢
 have hw:valB B (w.drop j)=w.getD j 0+(B:Int)*valB B (w.drop (j+1)):=by rw[bB w j (by omega)];rfl
 have g1:=h2.get (show j<w.length by omega)
 have hVB:=kA hv
 have hz:∀i,j+(v.length+1)≤i→w.getD i 0=0:=fun i hi=>by
  have:=aA5 hB (eW h2 (j+1)) (n:=v.length) (by omega) (i-(j+1)) (by omega)
  rw[rM] at this
  rwa [show j+1+(i-(j+1))=i by omega] at this
 have hW0:=aY (eW h2 j)
 have hWB:valB B (w.drop j)<(B:Int)*valB B v:=by
  have:(B:Int)*(valB B (w.drop (j+1))+1)≤B*valB B v:=Int.mul_le_mul_of_nonneg_left (by omega) (by omega)
  rw[Int.mul_add,Int.mul_one] at this
  omega
 have t3:=aKh hB h2 hk (by omega) hz
 have t2:=aOr hB hv hk
 obtain ⟨W,hW⟩:∃W,valB B (w.drop j)=W:=⟨_,rfl⟩
 rw[hW] at hWB hW0 t3 ⊢
 have hQ0:0≤W/valB B v:=Int.ediv_nonneg (by omega) (by omega)
 have hQV:W/valB B v*valB B v≤W:=Int.ediv_mul_le _ (by omega)
 have hQB:W/valB B v<B:=Int.ediv_lt_of_lt_mul hV hWB
 refine ⟨hz,hQ0,hQB,?_⟩
 rintro top rfl
 have hP:=dB hB (v.length-2)
 have x2:=h2.get (show j+v.length-2<w.length by omega)
 have hB':(0:Int)<B:=by omega
 have hPB:(0:Int)<B*(B:Int)^ (v.length-2):=Int.mul_pos hB' hP
 have w2:=hv.get (show v.length-2<v.length by omega)
 refine aI2 hP (by omega) t2 (by omega) t3 hQB hQ0 hQV f _ _ ?_ ?_
 ·rw[Int.mul_comm (_/ _) _];exact (Int.mul_ediv_add_emod _ _).symm
 ·refine aKf (B:=(B:Int)) (P:=B*(B:Int)^ (v.length-2)) hPB hv1 ?_ ?_ hQ0 hQV
  ·refine Int.le_trans ?_ t2
   rw[← Int.mul_assoc]
   exact Int.mul_le_mul_of_nonneg_right (by omega) (Int.le_of_lt hP)
  ·refine Int.lt_of_lt_of_le t3 ?_
   rw[← Int.mul_assoc]
   refine Int.mul_le_mul_of_nonneg_right ?_ (Int.le_of_lt hP)
   rw[Int.add_mul _ 1,Int.one_mul];omega
theorem aG9 {B:Nat} (hB:2≤B) {u v:List Int} (hu:InB B u) (hv:InB B v) (hk:1≤v.length) (hv1:0<v.getD (v.length-1) 0) {m:Nat} (hm:m+v.length=u.length) (hz:u.getD (u.length-1) 0=0):valB B (u.drop m)<valB B v∧0<valB B v:=by
 have e0:=dS (B:=B) v (v.length-1) (by omega)
 have b0:=aY (iO hv (v.length-1))
 rw[bB v (v.length-1) (by omega),List.drop_eq_nil_of_le (by omega)] at e0
 simp only[valB,Int.mul_zero,Int.add_zero] at e0
 have hP:=dB hB (v.length-1)
 have h1:(B:Int)^ (v.length-1)*1≤(B:Int)^ (v.length-1)*v.getD (v.length-1) 0:=Int.mul_le_mul_of_nonneg_left (by omega) (by omega)
 have h2:valB B (u.drop m)<(B:Int)^ (v.length-1):=aI1 hB (eW hu m) fun i hi=>by
  rw[rM]
  by_cases hi2:m+i<u.length
  ·rw[show m+i=u.length-1 by omega];exact hz
  ·exact dM _ _ (by omega)
 omega
end IB
end
section
namespace IB
theorem aA6 {B:Nat} (hB:2≤B) {n k:Nat} (hk:1≤k) (h1:B^ (k-1)≤n) (h2:n<B^k):
  (aA B n).length=k∧(aA B n).getD (k-1) 0*(B:Int)^ (k-1)≤n∧(n:Int)<((aA B n).getD (k-1) 0+1)*(B:Int)^ (k-1):=by
 have hp:0<B^ (k-1):=Nat.pow_pos (by omega)
 obtain ⟨g1,g2,g3⟩:=cU hB (n:=n) (by omega)
 have g1:B^ ((aA B n).length-1)≤n:=by exact_mod_cast g1
 have g2:n<B^ (aA B n).length:=by exact_mod_cast g2
 have a1:=(Nat.pow_lt_pow_iff_right (show 1<B by omega)).1 (Nat.lt_of_le_of_lt g1 h2)
 have a2:=(Nat.pow_lt_pow_iff_right (show 1<B by omega)).1 (Nat.lt_of_le_of_lt h1 g2)
 have hl:(aA B n).length=k:=by omega
 have hi:=aO hB n
 have e0:=dS (B:=B) (aA B n) (k-1) (by omega)
 have b0:=aY (iO hi (k-1))
 have b1:=gP hB (iO hi (k-1)) (n:=k-1) (by rw[List.length_take];omega)
 rw[bB _ (k-1) (by omega),List.drop_eq_nil_of_le (by omega),cG hB] at e0
 simp only[valB,Int.mul_zero,Int.add_zero] at e0
 refine ⟨hl,?_,?_⟩
 ·rw[Int.mul_comm];omega
 ·rw[Int.add_mul,Int.one_mul,Int.mul_comm];omega
theorem scale {B:Nat} (hB:2≤B) {n:Nat} (hn:0<n) {f:Nat} (hf:(f:Int)=(B:Int)/((aA B n).getD ((aA B n).length-1) 0+1)):
  0<f∧f<B∧(aA B (n*f)).length=(aA B n).length∧(B:Int)≤4*(aA B (n*f)).getD ((aA B (n*f)).length-1) 0:=by
 obtain ⟨g1,g2,g3⟩:=cU hB hn
 have g1:B^ ((aA B n).length-1)≤n:=by exact_mod_cast g1
 have g2:n<B^ (aA B n).length:=by exact_mod_cast g2
 obtain ⟨k,hk⟩:∃k,(aA B n).length=k:=⟨_,rfl⟩
 rw[hk] at g1 g2 g3 hf ⊢
 obtain ⟨_,t1,t2⟩:=aA6 hB g3 g1 g2
 have ht:=(aO hB n).get (show k-1<(aA B n).length by omega)
 have ht1:(aA B n).getD (k-1) 0≠0:=by
  have hne:aA B n≠ []:=by rw[← List.length_pos_iff];omega
  have:=mC hB n hne
  rw[List.getLast_eq_getElem] at this
  rw[List.getD_eq_getElem?_getD,List.getElem?_eq_getElem (by omega),Option.getD_some]
  simpa [hk] using this
 obtain ⟨t,ht'⟩:∃t:Nat,(aA B n).getD (k-1) 0=t:=⟨_,(Int.eq_ofNat_of_zero_le ht.1).choose_spec⟩
 rw[ht'] at hf t1 t2 ht ht1
 obtain ⟨f1,f2,f3⟩:=aG7 (B:=(B:Int)) (t:=(t:Int)) (f:=(f:Int)) (by omega) ht.2 hf
 have f2:f*(t+1)≤B:=by exact_mod_cast f2
 have f3:B≤4*(f*t):=by exact_mod_cast f3
 have t1:t*B^ (k-1)≤n:=by exact_mod_cast t1
 have t2:n<(t+1)*B^ (k-1):=by exact_mod_cast t2
 have hf0:0<f:=by omega
 have u1:f*t*B^ (k-1)≤n*f:=by
  rw[Nat.mul_assoc,Nat.mul_comm n f];exact Nat.mul_le_mul_left f t1
 have u2:n*f<f*(t+1)*B^ (k-1):=by
  rw[Nat.mul_assoc,Nat.mul_comm n f];exact Nat.mul_lt_mul_of_pos_left t2 hf0
 have u3:f*(t+1)*B^ (k-1)≤B^k:=by
  rw[show B^k=B*B^ (k-1) by rw[← Nat.pow_succ'];congr 1;omega]
  exact Nat.mul_le_mul_right _ f2
 have hft:1≤f*t:=Nat.mul_pos hf0 (by omega)
 have u4:B^ (k-1)≤n*f:=Nat.le_trans (by rw[← Nat.one_mul (B^ (k-1)),← Nat.mul_assoc,Nat.mul_one];exact Nat.mul_le_mul_right _ hft) u1
 obtain ⟨v1,v2,v3⟩:=aA6 hB g3 u4 (Nat.lt_of_lt_of_le u2 u3)
 have hfB:f<B:=by
  have:f*2≤f*(t+1):=Nat.mul_le_mul_left f (by omega)
  omega
 refine ⟨hf0,hfB,v1,?_⟩
 rw[v1]
 have hp:(0:Int)<(B:Int)^ (k-1):=dB hB (k-1)
 have u1':(f:Int)*t*(B:Int)^ (k-1)≤((n*f:Nat):Int):=by exact_mod_cast u1
 have:(f:Int)*t<(aA B (n*f)).getD (k-1) 0+1:=Int.lt_of_mul_lt_mul_right (Int.lt_of_le_of_lt u1' v3) (Int.le_of_lt hp)
 have f3':(B:Int)≤4*((f:Int)*t):=by exact_mod_cast f3
 omega
theorem aKi {B:Nat} (hB:2≤B) (n k:Nat):InB B (aA B n++List.replicate k 0)∧valB B (aA B n++List.replicate k 0)=n∧(0<k→(aA B n++List.replicate k 0).getD ((aA B n++List.replicate k 0).length-1) 0=0):=by
 refine ⟨InB.append.2 ⟨aO hB n,fun x hx=>?_⟩,?_,fun hk=>?_⟩
 ·rw[(List.mem_replicate.1 hx).2];omega
 ·rw[fG,kT,Int.mul_zero,Int.add_zero,cG hB]
 ·rw[List.getD_eq_getElem?_getD,List.getElem?_append_right (by simp;omega)]
  simp[List.getElem?_replicate]
  split<;>rfl
theorem aKj {B:Nat} (hB:2≤B) {m f:Nat} (hf:f<B):(aA B (m*f)).length≤(aA B m).length+1:=by
 rcases Nat.eq_zero_or_pos m with rfl | hm
 ·rw[Nat.zero_mul,aX];exact Nat.zero_le _
 ·rcases Nat.eq_zero_or_pos f with rfl | hf0
  ·rw[Nat.mul_zero,aX];exact Nat.zero_le _
  ·obtain ⟨g1,g2,g3⟩:=cU hB hm
   have g2:m<B^ (aA B m).length:=by exact_mod_cast g2
   obtain ⟨q1,_,_⟩:=cU hB (n:=m*f) (Nat.mul_pos hm hf0)
   have q1:B^ ((aA B (m*f)).length-1)≤m*f:=by exact_mod_cast q1
   have:m*f<B^ ((aA B m).length+1):=by
    rw[Nat.pow_succ];exact Nat.mul_lt_mul'' g2 hf
   have:=(Nat.pow_lt_pow_iff_right (show 1<B by omega)).1 (Nat.lt_of_le_of_lt q1 this)
   omega
end IB
end
section
open Go Go.Proofs Go.Eng Go.Shelf IB Go.Lib Go.RowKit
namespace RB
theorem aMn {n:Nat} (h:(aA B9 n).length=1):(aA B9 n).getD 0 0=n∧n<1000000000:=by
 have hv:=v9 n
 have hg:=get9 (show InB B9 (aA B9 n) from aO (by decide) n) 0
 cases hl:aA B9 n with
 | nil=>rw[hl] at h;simp at h
 | cons x r=>
  have hr:r= []:=by rw[hl] at h;simpa using h
  subst hr
  rw[hl] at hv hg
  simp only[valB,Int.mul_zero,Int.add_zero] at hv
  refine ⟨hv,?_⟩
  have hg:0≤x∧x<1000000000:=hg
  omega
theorem aMo (l:List Int) (k:Nat):l++List.replicate k 0++ [0]=l++List.replicate (k+1) 0:=by
 rw[List.append_assoc,← List.replicate_succ']
theorem b106 (m n:Nat) (hm:m<B9^100) (hn:0<n∧n<B9^100):
  body Tryz.prog [c129,c134,c99,aPp,aMm,c136,c137,c138,c131] { asks:=[(0,[3]),(2,[3]),(4,[3])] } false Tryz.f181 [Ls (aA B9 m),Ls (aA B9 n)] (.tup [Ls (aA B9 (m/n)),Ls (aA B9 (m%n))]):=by
 obtain ⟨hn0,hn⟩:=hn
 have im:InB B9 (aA B9 m):=aO (by decide) m
 have jn:InB B9 (aA B9 n):=aO (by decide) n
 have lm:=eS hm
 have ln:=eS hn
 have hc:=yM m n
 have vm:=v9 m
 have vn:=v9 n
 refine Need.mk ⟨im,jn⟩ ?_
 (apply Br.mk<;>intro)
 ·rename_i h
  have hlt:m<n:=by omega
  rw[Nat.div_eq_of_lt hlt,Nat.mod_eq_of_lt hlt,aX]
  (conv=>whnf)
  (repeat' first|exact trivial|rfl|apply And.intro)
 ·rename_i h
  have hle:n≤m:=by omega
  (repeat'((conv=>whnf);first|refine Zg fun _=>?_|fail))
  (apply Br.mk<;>intro)
  ·rename_i h1
   obtain ⟨hx,hxlt⟩:=aMn (n:=n) (by omega)
   (repeat'((conv=>whnf);first|refine Zg fun _=>?_|refine Zn ?_|refine Z0 ?_|fail))
   refine Need.mk ⟨im,by omega,by omega⟩ ?_
   (conv=>whnf)
   have e1:(valB B9 (aA B9 m)/(aA B9 n).getD 0 0).toNat=m/n:=by rw[vm,hx,← Int.natCast_ediv,Int.toNat_natCast]
   have e2:(valB B9 (aA B9 m)% (aA B9 n).getD 0 0).toNat=m%n:=by rw[vm,hx,← Int.natCast_emod,Int.toNat_natCast]
   (repeat' first|exact trivial|apply And.intro)
   ·exact congrArg (aA B9) e1
   ·exact congrArg (aA B9) e2
  ·rename_i h1
   have hk:2≤(aA B9 n).length:=by
    have:=(cU (B:=B9) (by decide) hn0).2.2
    omega
   have ht:=get9 jn ((aA B9 n).length-1)
   obtain ⟨f,hf⟩:∃f:Nat,(f:Int)=1000000000/((aA B9 n).getD ((aA B9 n).length-1) 0+1):=⟨_,(Int.eq_ofNat_of_zero_le (Int.ediv_nonneg (by omega) (by omega))).choose_spec.symm⟩
   obtain ⟨f0,fB,sl,st⟩:=scale (B:=B9) (by decide) hn0 hf
   have st:(1000000000:Int)≤4*(aA B9 (n*f)).getD ((aA B9 (n*f)).length-1) 0:=st
   have fB:f<1000000000:=fB
   (repeat'((conv=>whnf);first|refine Zg fun _=>?_|refine Zn ?_|fail))
   refine bX ((aA B9 n).length-1) (by omega) ?_
   (repeat'((conv=>whnf);first|refine Zg fun _=>?_|refine Za ?_|refine Zn ?_|refine Zl ?_|fail))
   rw[← hf]
   have if1:InB B9 [(f:Int)]:=fun x hx=>by
    have:x=f:=by simpa using hx
    subst this
    exact ⟨by omega,by show (f:Int)<1000000000;omega⟩
   have ef:∀k:Nat,(valB B9 (aA B9 k)*valB B9 [(f:Int)]).toNat=k*f:=fun k=>by
    rw[v9,show valB B9 [(f:Int)]=f by simp[valB],← Int.natCast_mul,Int.toNat_natCast]
   refine Need.mk ⟨im,if1,by omega,by show 1≤100000;omega⟩ ?_
   rw[ef]
   have sm:=aKj (B:=B9) (by decide) (m:=m) (show f<B9 from fB)
   (repeat'((conv=>whnf);first|refine Zn ?_|refine Zl ?_|fail))
   refine Need.mk ⟨jn,if1,by omega,by show 1≤100000;omega⟩ ?_
   rw[ef]
   have ka:(aA B9 n).length≤(aA B9 m).length:=Classical.byContradiction fun hx=>by
    have:=fP (B:=B9) (by decide) (m:=m) (n:=n) (by omega)
    omega
   refine Ask.mk ⟨{ X:=Nat,pre:=fun i=>(aA B9 (m*f)).length+i≤(aA B9 m).length+1,mod:=fun _ _=>[],heap:=fun i H=>[V [],.cells [.ref 0 1] 60,V [],V (aA B9 (m*f)++List.replicate (i+1) 0),V (aA B9 (n*f)),V [],.cells [.ref 3 1] 60,V [],.cells [.ref 4 1] 60],mu:=fun i=>(aA B9 m).length+1-(aA B9 (m*f)).length-i,objs:=[3] },rfl,?_⟩
   (repeat'((conv=>whnf);first|refine Zn ?_|fail))
   refine ⟨⟨(0:Nat),sm,?_⟩,fun (i:Nat) hi=>?_⟩
   ·(repeat' first|exact trivial|rfl|exact Nat.one_pos|apply And.intro)
   ·have hi:(aA B9 (m*f)).length+i≤(aA B9 m).length+1:=hi
    have hul:(aA B9 (m*f)++List.replicate (i+1) (0:Int)).length=(aA B9 (m*f)).length+(i+1):=by simp
    (repeat'((conv=>whnf);first|refine Zg fun _=>?_|refine Zn ?_|fail))
    (apply Br.mk<;>intro)
    ·rename_i hlt
     (repeat'((conv=>whnf);first|refine Zn ?_|refine Zl ?_|fail))
     refine ⟨(i+1:Nat),by show (aA B9 m).length+1-(aA B9 (m*f)).length-(i+1)<(aA B9 m).length+1-(aA B9 (m*f)).length-i;omega,by show _+(i+1)≤ _;omega,?_⟩
     (repeat' first|exact trivial|rfl|exact Nat.one_pos|apply And.intro)
     exact aMo _ _
    ·rename_i hge
     have hge:(aA B9 m).length+1≤(aA B9 (m*f)).length+(i+1):=by omega
     obtain ⟨iu,vu,zu⟩:=aKi (B:=B9) (by decide) (m*f) (i+1)
     have zu:=zu (by omega)
     have jv:InB B9 (aA B9 (n*f)):=aO (by decide) _
     obtain ⟨u,hu⟩:∃u,aA B9 (m*f)++List.replicate (i+1) (0:Int)=u:=⟨_,rfl⟩
     rw[hu] at iu vu zu hul ⊢
     obtain ⟨v,hv⟩:∃v,aA B9 (n*f)=v:=⟨_,rfl⟩
     have vv:valB B9 v=((n*f:Nat):Int):=by rw[← hv];exact v9 _
     rw[hv] at st sl jv ⊢
     obtain ⟨M,hM⟩:∃M,u.length-v.length=M:=⟨_,rfl⟩
     have hMu:M+v.length=u.length:=by omega
     obtain ⟨s1,s2⟩:=aG9 (B:=B9) (by decide) iu jv (by omega) (by omega) hMu zu
     (repeat'((conv=>whnf);first|refine Zg fun _=>?_|refine Zn ?_|refine Z8 ?_|fail))
     rw[show ((u.length:Int)-v.length)=(M:Int) by omega]
     have v1p:250000000≤v.getD (v.length-1) 0:=by omega
     have hspec:=mD (B:=B9) (by decide) iu jv s2 hMu s1
     refine Ask.mk ⟨{ X:=Nat,pre:=fun s=>s≤M,mod:=fun _ _=>[],heap:=fun s H=>[V [],.cells [.ref 9 1] 60,V [],V (bR B9 u v M s).1,V v,V [],.cells [.ref 3 1] 60,V [],.cells [.ref 4 1] 60,V (bR B9 u v M s).2],mu:=fun s=>s,objs:=[3] },rfl,?_⟩
     refine ⟨M,?_⟩
     (conv=>whnf)
     refine Need.mk ⟨⟨rfl,rfl,by simp⟩,fun s hs=>⟨rfl,rfl,(hspec s hs).2.2.1⟩⟩ ?_
     (repeat'((conv=>whnf);first|refine Zn ?_|fail))
     refine ⟨⟨(0:Nat),rfl,Nat.zero_le _,?_⟩,fun (s:Nat) hs (hlt:s<M)=>?_,fun (s:Nat) hs (he:s=M)=>?_⟩
     ·(repeat' first|exact trivial|rfl|exact Nat.one_pos|apply And.intro)
     ·obtain ⟨w1,w2,w3,w4,w5,w6⟩:=hspec s (by omega)
      obtain ⟨r1,r2,r3,r4⟩:=aG8 (B:=B9) (by decide) iu jv s2 hMu s1 (by omega) (by omega) s hlt 8
      have hst1:(bR B9 u v M (s+1)).1=(bE B9 (bR B9 u v M s).1 v (M-1-s) (valB B9 ((bR B9 u v M s).1.drop (M-1-s))/valB B9 v) (v.length+1)).1:=rfl
      have hst2:(bR B9 u v M (s+1)).2=(bR B9 u v M s).2.set (M-1-s) (valB B9 ((bR B9 u v M s).1.drop (M-1-s))/valB B9 v):=rfl
      obtain ⟨w,hw⟩:∃w,(bR B9 u v M s).1=w:=⟨_,rfl⟩
      obtain ⟨p,hp⟩:∃p,(bR B9 u v M s).2=p:=⟨_,rfl⟩
      obtain ⟨j,hj⟩:∃j,M-1-s=j:=⟨_,rfl⟩
      obtain ⟨Q,hQ⟩:∃Q,valB B9 (w.drop j)/valB B9 v=Q:=⟨_,rfl⟩
      rw[hw] at w1 w2 w5 w6 r1 r2 r3 r4 hst1 hst2
      rw[hp] at w3 w4 w6 hst2
      rw[hj] at r1 r2 r3 r4 hst1 hst2
      rw[hQ] at r2 r3 r4 hst1 hst2
      show hnfL (itS M s) _
      (repeat'((conv=>whnf);first|refine Zg fun _=>?_|fail))
      (conv=>whnf)
      rw[hw,hj]
      refine Need.mk ⟨w2,jv,by omega,by omega,v1p,by omega,by omega⟩ ?_
      rw[Int.toNat_natCast]
      have g0:=get9 w2 (j+v.length)
      have g1:=get9 w2 (j+v.length-1)
      have hT:0≤top2 w v j∧top2 w v j<1000000000000000000:=by unfold top2;omega
      have hq4:top2 w v j/v.getD (v.length-1) 0≤4000000000:=by
       refine Int.le_trans (Int.ediv_le_ediv (by omega) (show top2 w v j≤4000000000*v.getD (v.length-1) 0 by omega)) ?_
       rw[Int.mul_ediv_cancel _ (by omega)]
       exact Int.le_refl _
      have r5:Q≤estL w v j∧estL w v j≤4000000000:=⟨(r4 (top2 w v j) rfl).1,Int.le_trans (r4 (top2 w v j) rfl).2 hq4⟩
      obtain ⟨q0,hq0⟩:∃q0,estL w v j=q0:=⟨_,rfl⟩
      rw[hq0] at r5
      refine Ask.mk ⟨{ X:=Int,pre:=fun q=>Q≤q∧q≤4000000000,mod:=fun q _=>[(10,I q)],heap:=fun q H=>[V [],.cells [.ref 9 1] 60,V [],V w,V v,V [],.cells [.ref 3 1] 60,V [],.cells [.ref 4 1] 60,V p,.gone],mu:=fun q=>(q-Q).toNat,objs:=[3] },rfl,?_⟩
      (repeat'((conv=>whnf);first|refine Zn ?_|fail))
      refine ⟨⟨q0,r5,?_⟩,fun (q:Int) hq=>?_⟩
      ·(repeat' first|exact trivial|rfl|exact Nat.one_pos|apply And.intro)
       ·exact hq0
       ·exact hp
      ·obtain ⟨q1,q2⟩:=hq
       have q1:Q≤q:=q1
       obtain ⟨k1,k2,k3,_⟩:=gS (B:=B9) (by decide) w2 jv (j:=j) (q:=q) (by omega) (v.length+1) (by omega)
       obtain ⟨k4,_⟩:=aFj (B:=B9) (by decide) w2 jv (j:=j) (q:=q) (by omega) (by omega) r1
       have krest:=aG6 (B:=B9) (by decide) w2 jv (j:=j) (q:=q) (by omega) (k:=v.length+1) (by omega)
       have kQ:q*valB B9 v≤valB B9 (w.drop j)↔q≤Q:=by rw[← hQ,Int.le_ediv_iff_mul_le s2]
       refine Need.mk ⟨w2,jv,by omega,by omega,by omega,by omega⟩ ?_
       rw[Int.toNat_natCast]
       (apply Br.mk<;>intro)
       ·rename_i hc
        have hgt:Q<q:=by
         refine Classical.byContradiction fun hx=>?_
         have:=k4.2 (kQ.2 (by omega))
         omega
        refine Need.mk ⟨k2,jv,by omega,by omega,by omega,by omega⟩ ?_
        (repeat'((conv=>whnf);first|refine Zn ?_|fail))
        refine ⟨q-1,?_,⟨by show Q≤q-1;omega,by show q-1≤4000000000;omega⟩,?_⟩
        ·show (q-1-Q).toNat<(q-Q).toNat
         omega
        ·(repeat' first|exact trivial|rfl|exact Nat.one_pos|apply And.intro)
         exact krest
       ·rename_i hc
        have hqQ:q=Q:=by
         have:=kQ.1 (k4.1 (by omega))
         omega
        subst hqQ
        (repeat'((conv=>whnf);first|refine Zn ?_|refine Zj ?_|fail))
        refine ⟨(s+1:Nat),rfl,hlt,?_⟩
        (repeat' first|exact trivial|rfl|exact Nat.one_pos|apply And.intro)
        ·exact hst1.symm
        ·exact hst2.symm
     ·subst he
      obtain ⟨a1,a2⟩:=aKg (B:=B9) (by decide) iu jv s2 hMu s1
      have e1:(valB B9 u/valB B9 v).toNat=m/n:=by
       rw[vu,vv,← Int.natCast_ediv,Int.toNat_natCast,Nat.mul_div_mul_right _ _ f0]
      have e2:(valB B9 u%valB B9 v).toNat=m%n*f:=by
       rw[vu,vv,← Int.natCast_emod,Int.toNat_natCast,Nat.mul_mod_mul_right]
      rw[e1] at a1
      rw[e2] at a2
      have hr:m%n*f<B9^101:=by
       rw[Nat.pow_succ]
       exact Nat.mul_lt_mul'' (Nat.lt_trans (Nat.mod_lt m hn0) hn) fB
      have lr:=eS hr
      (conv=>whnf)
      rw[a2]
      refine Need.mk ⟨aO (by decide) _,by omega,by omega⟩ ?_
      have e3:(valB B9 (aA B9 (m%n*f))/(f:Int)).toNat=m%n:=by
       rw[v9,← Int.natCast_ediv,Int.toNat_natCast,Nat.mul_div_cancel _ f0]
      rw[e3]
      (conv=>whnf)
      (repeat' first|exact trivial|rfl|apply And.intro)
      ·exact a1
def c106:Con:=aJ 181 false fun args K=>match args with
 | [.seq (.int .i64) a,.seq (.int .i64) b]=>Need (qI a∧qI b∧b≠ []) (K (.tup [Ls (aA B9 ((valB B9 a).toNat/(valB B9 b).toNat)),Ls (aA B9 ((valB B9 a).toNat% (valB B9 b).toNat))]))
 | _=>False
theorem aHb {b:List Int} (h:qI b) (hb:b≠ []):0<(valB B9 b).toNat:=by
 refine Nat.pos_of_ne_zero fun h0=>hb ?_
 rw[h.1,h0,aX]
theorem k106:aG Tryz.prog c106:=by
 refine kO Tryz.func181 fun args K h=>?_
 simp only[c106] at h;split at h
 ·rename_i a b
  refine ⟨_,h.go,?_⟩
  obtain ⟨⟨ha,hm⟩,⟨hb,hn⟩,hne⟩:=h.ok
  have ht:=triB Tryz.func181 Tryz.ntmps181 (by simp[k129,k134,k99,k135h,k166s,k136,k137,k138,k131]) (b106 (valB B9 a).toNat (valB B9 b).toNat hm ⟨aHb ⟨hb,hn⟩ hne,hn⟩)
  rw[← ha,← hb] at ht
  exact ht
 ·exact h.elim
def dvI (x y:Int):List UInt8 × List UInt8 × Int:=if lim (x.fdiv y) || lim (x.fmod y) then ([],[],4) else (itoa (x.fdiv y),itoa (x.fmod y),0)
noncomputable def divI (a b:List UInt8):List UInt8 × List UInt8 × Int:=if chk2 a b≠0 then ([],[],chk2 a b) else if b= [48] then ([],[],12) else dvI (valI a) (valI b)
theorem aQh {b:List UInt8} (h:form b) (h0:¬b= [48]):valI b≠0:=fun e=>h0 (by
 have:=oJ h
 rw[e] at this
 rw[this]
 unfold itoa
 rw[if_neg (by omega)]
 exact cI (show 0<10 by omega))
theorem pw12:B9^100<B9^200:=Nat.pow_lt_pow_right (by decide) (by omega)
theorem aMp (x y:Int):dvI x y=if (resI (x.fdiv y)).2≠0∨(resI (x.fmod y)).2≠0 then ([],[],4) else ((resI (x.fdiv y)).1,(resI (x.fmod y)).1,0):=by
 unfold dvI resI
 by_cases h1:lim (x.fdiv y)=true<;>by_cases h2:lim (x.fmod y)=true<;>simp[h1,h2]
theorem sV {x y q r:Int} (hq:q=x.fdiv y) (hr:r=x.fmod y) (h1:q.natAbs<10^40) (h2:r.natAbs<10^40):dvI x y=(itoa q,itoa r,0):=by
 rw[aMp,← hq,← hr,gW h1,gW h2]
 simp
theorem aMq (p q:Prop) [Decidable p] [Decidable q] (m n:Nat) (hn:0<n):
  sgP (¬(p↔q)) ((if ¬(p↔q)∧0<m%n then m/n+1 else m/n:Nat):Int)=(sgP p m).fdiv (sgP q n)∧sgP q ((if ¬(p↔q)∧0<m%n then n-m%n else m%n:Nat):Int)=(sgP p m).fmod (sgP q n):=by
 have h:=aOp (decide p) m (decide q) n hn
 have e1:∀(r:Prop) [Decidable r] (k:Nat),sgn (decide r) k=sgP r k:=fun r _ k=>by unfold sgn sgP;by_cases hr:r<;>simp[hr]
 rw[Prod.mk.injEq,e1,e1,e1] at h
 have e2:∀k,sgn (decide p != decide q) k=sgP (¬(p↔q)) k:=fun k=>by
  unfold sgn sgP
  by_cases hp:p<;>by_cases hq:q<;>simp[hp,hq]
 rw[e2] at h
 have e3:(decide p≠decide q)↔¬(p↔q):=by by_cases hp:p<;>by_cases hq:q<;>simp[hp,hq]
 by_cases hc:¬(p↔q)∧0<m%n
 ·rw[if_pos hc,if_pos hc]
  rw[if_pos ⟨e3.2 hc.1,hc.2⟩,if_pos ⟨e3.2 hc.1,hc.2⟩] at h
  exact h
 ·rw[if_neg hc,if_neg hc]
  rw[if_neg (fun hx=>hc ⟨e3.1 hx.1,hx.2⟩),if_neg (fun hx=>hc ⟨e3.1 hx.1,hx.2⟩)] at h
  exact h
theorem b69 (a b:List UInt8):body Tryz.prog [c94,c95,c61,c98,c106,c107,c96] {} true Tryz.f129 [S a,S b] (.tup [S (divI a b).1,S (divI a b).2.1,I (divI a b).2.2]):=by
 unfold divI
 (apply Br.mk<;>intro)
 ·rename_i h
  rw[if_pos h]
  (conv=>whnf)
  (repeat' first|exact trivial|rfl|apply And.intro)
 ·rename_i h
  rw[if_neg h]
  obtain ⟨ha,hb⟩:=jB h
  obtain ⟨fa,la⟩:=bY ha
  obtain ⟨fb,lb⟩:=bY hb
  (apply Br.mk<;>intro)
  ·rename_i h0
   rw[if_pos h0]
   (conv=>whnf)
   (repeat' first|exact trivial|rfl|apply And.intro)
  ·rename_i h0
   rw[if_neg h0]
   have hy:=aQh fb h0
   refine Need.mk ⟨rfl,fa,fb⟩ ?_
   (apply Br.mk<;>intro)
   ·rename_i hs
    have h1:=gU fa hs.1
    have h2:=gU fb hs.2
    have hd:((valI a).tdiv (valI b)).natAbs≤(valI a).natAbs:=by rw[Int.natAbs_tdiv];exact Nat.div_le_self _ _
    have hm:((valI a).tmod (valI b)).natAbs<(valI b).natAbs:=by rw[Int.natAbs_tmod];exact Nat.mod_lt _ (by omega)
    have hsd:=aKe (valI a) (valI b) hy
    (repeat'((conv=>whnf);first|refine Zb ?_|refine Zn ?_|(apply Pin.mk;apply Exists.intro)|apply Pinned.mk rfl rfl|fail))
    (apply Br.mk<;>intro)
    ·rename_i hr
     (apply Br.mk<;>intro)
     ·rename_i hsg
      rw[if_pos ⟨hr,hsg⟩,Prod.mk.injEq] at hsd
      rw[sV hsd.1 hsd.2 (by omega) (by omega)]
      (repeat'((conv=>whnf);first|refine Zn ?_|fail))
      (conv=>whnf)
      (repeat' first|exact trivial|rfl|apply And.intro)
     ·rename_i hsg
      rw[if_neg (fun hx=>hsg hx.2),Prod.mk.injEq] at hsd
      rw[sV hsd.1 hsd.2 (by omega) (by omega)]
      (conv=>whnf)
      (repeat' first|exact trivial|rfl|apply And.intro)
    ·rename_i hr
     rw[if_neg (fun hx=>hr hx.1),Prod.mk.injEq] at hsd
     rw[sV hsd.1 hsd.2 (by omega) (by omega)]
     (conv=>whnf)
     (repeat' first|exact trivial|rfl|apply And.intro)
   ·rename_i hs
    refine Need.mk ⟨fa,by omega⟩ ?_
    refine Need.mk ⟨fb,by omega⟩ ?_
    have pb:0<aC (digs b):=Nat.pos_of_ne_zero fun e=>hy (by rw[cX,e];unfold sgP;split<;>rfl)
    (repeat'((conv=>whnf);first|refine Zl ?_|fail))
    refine Need.mk ⟨fQ fa la,fQ fb lb,fun e=>by rw[gM (by decide)] at e;omega⟩ ?_
    rw[v9,v9,Int.toNat_natCast,Int.toNat_natCast]
    obtain ⟨d1,d2⟩:=aMq (a.headD 0=45) (b.headD 0=45) (aC (digs a)) (aC (digs b)) pb
    rw[← cX,← cX] at d1 d2
    rw[aMp]
    obtain ⟨M,hM⟩:∃M,aC (digs a)=M:=⟨_,rfl⟩
    obtain ⟨N,hN⟩:∃N,aC (digs b)=N:=⟨_,rfl⟩
    have cM:=(fQ fa la).2
    have cN:=(fQ fb lb).2
    rw[v9,Int.toNat_natCast,hM] at cM
    rw[v9,Int.toNat_natCast,hN] at cN
    rw[hM,hN] at d1 d2 ⊢
    rw[hN] at pb
    (apply Br.mk<;>intro)
    ·rename_i hne
     (repeat'((conv=>whnf);first|refine Zg fun _=>?_|fail))
     (apply Br.mk<;>intro)
     ·rename_i hrm
      have hpos:0<M%N:=Nat.pos_of_ne_zero fun e=>by rw[e,aX] at hrm;exact absurd hrm (by decide)
      rw[if_pos ⟨hne,hpos⟩] at d1 d2
      have ex1:(valB B9 (aA B9 (M/N))+valB B9 [(1:Int)]).toNat=M/N+1:=by rw[v9,show valB B9 [(1:Int)]=1 by simp[valB]];generalize M/N=k;omega
      have ex2:(valB B9 (aA B9 N)-valB B9 (aA B9 (M%N))).toNat=N-M%N:=by rw[v9,v9];omega
      have hv1:∀hd,@sgP (¬(a.headD 0=45↔b.headD 0=45)) hd (valB B9 (aA B9 (M/N+1)))=(valI a).fdiv (valI b):=fun hd=>by rw[← d1,v9];congr
      have hv2:sgP (b.headD 0=45) (valB B9 (aA B9 (N-M%N)))=(valI a).fmod (valI b):=by rw[← d2,v9]
      have lq:=eS (show M/N<B9^100 from Nat.lt_of_le_of_lt (Nat.div_le_self _ _) cM)
      have lr:=eS (show M%N<B9^100 from Nat.lt_trans (Nat.mod_lt _ pb) cN)
      have hml:=Nat.mod_lt M pb
      have lN:=eS cN
      have big1:M/N+1<B9^200:=by
       have h1:M/N<B9^100:=Nat.lt_of_le_of_lt (Nat.div_le_self _ _) cM
       have h2:B9^100<B9^200:=Nat.pow_lt_pow_right (by decide) (by omega)
       omega
      (repeat'((conv=>whnf);first|(apply Pin.mk;apply Exists.intro)|apply Pinned.mk rfl rfl|refine Zl ?_|fail))
      refine Need.mk ⟨aO (by decide) _,fun x hx=>?_,by omega,by show 1≤100000;omega⟩ ?_
      ·have:x=1:=by simpa using hx
       subst this
       exact ⟨by omega,by show (1:Int)<1000000000;omega⟩
      rw[ex1]
      (repeat'((conv=>whnf);first|(apply Pin.mk;apply Exists.intro)|apply Pinned.mk rfl rfl|fail))
      refine Need.mk ⟨aO (by decide) _,aO (by decide) _,by rw[v9,v9];omega,by omega,by omega⟩ ?_
      rw[ex2]
      refine Need.mk (dF (show M/N+1<B9^200 from big1)) ?_
      rw[hv1]
      refine Need.mk (dF (show N-M%N<B9^200 from (Nat.lt_trans (show N-M%N<B9^100 from Nat.lt_of_le_of_lt (Nat.sub_le _ _) cN) pw12))) ?_
      rw[hv2]
      (apply Br.mk<;>intro)
      ·rename_i z1
       rw[if_pos (.inl z1)]
       (conv=>whnf)
       (repeat' first|exact trivial|rfl|apply And.intro)
      ·rename_i z1
       (apply Br.mk<;>intro)
       ·rename_i z2
        rw[if_pos (.inr z2)]
        (conv=>whnf)
        (repeat' first|exact trivial|rfl|apply And.intro)
       ·rename_i z2
        rw[if_neg (fun hx=>hx.elim z1 z2)]
        (conv=>whnf)
        (repeat' first|exact trivial|rfl|apply And.intro)
     ·rename_i hrm
      have h00:M%N=0:=by
       have:(aA B9 (M%N)).length=0:=by omega
       exact (gM (by decide)).1 (List.eq_nil_of_length_eq_zero this)
      have d1':(valI a).fdiv (valI b)=sgP (¬(a.headD 0=45↔b.headD 0=45)) ((M/N:Nat):Int):=by rw[← d1,if_neg (fun hx=>absurd hx.2 (by omega))]
      have d2':(valI a).fmod (valI b)=sgP (b.headD 0=45) ((M%N:Nat):Int):=by rw[← d2,if_neg (fun hx=>absurd hx.2 (by omega))]
      have hv1:∀hd,@sgP (¬(a.headD 0=45↔b.headD 0=45)) hd (valB B9 (aA B9 (M/N)))=(valI a).fdiv (valI b):=fun hd=>by rw[d1',v9];congr
      have hv2:sgP (b.headD 0=45) (valB B9 (aA B9 (M%N)))=(valI a).fmod (valI b):=by rw[d2',v9]
      refine Need.mk (dF (Nat.lt_trans ((show M/N<B9^100 from Nat.lt_of_le_of_lt (Nat.div_le_self _ _) cM)) pw12)) ?_
      rw[hv1]
      refine Need.mk (dF (Nat.lt_trans ((show M%N<B9^100 from Nat.lt_trans (Nat.mod_lt _ pb) cN)) pw12)) ?_
      rw[hv2]
      (apply Br.mk<;>intro)
      ·rename_i z1
       rw[if_pos (.inl z1)]
       (conv=>whnf)
       (repeat' first|exact trivial|rfl|apply And.intro)
      ·rename_i z1
       (apply Br.mk<;>intro)
       ·rename_i z2
        rw[if_pos (.inr z2)]
        (conv=>whnf)
        (repeat' first|exact trivial|rfl|apply And.intro)
       ·rename_i z2
        rw[if_neg (fun hx=>hx.elim z1 z2)]
        (conv=>whnf)
        (repeat' first|exact trivial|rfl|apply And.intro)
    ·rename_i hne
     have d1':(valI a).fdiv (valI b)=sgP (¬(a.headD 0=45↔b.headD 0=45)) ((M/N:Nat):Int):=by rw[← d1,if_neg (fun hx=>hne hx.1)]
     have d2':(valI a).fmod (valI b)=sgP (b.headD 0=45) ((M%N:Nat):Int):=by rw[← d2,if_neg (fun hx=>hne hx.1)]
     have hv1:∀hd,@sgP (¬(a.headD 0=45↔b.headD 0=45)) hd (valB B9 (aA B9 (M/N)))=(valI a).fdiv (valI b):=fun hd=>by rw[d1',v9];congr
     have hv2:sgP (b.headD 0=45) (valB B9 (aA B9 (M%N)))=(valI a).fmod (valI b):=by rw[d2',v9]
     refine Need.mk (dF (Nat.lt_trans ((show M/N<B9^100 from Nat.lt_of_le_of_lt (Nat.div_le_self _ _) cM)) pw12)) ?_
     rw[hv1]
     refine Need.mk (dF (Nat.lt_trans ((show M%N<B9^100 from Nat.lt_trans (Nat.mod_lt _ pb) cN)) pw12)) ?_
     rw[hv2]
     (apply Br.mk<;>intro)
     ·rename_i z1
      rw[if_pos (.inl z1)]
      (conv=>whnf)
      (repeat' first|exact trivial|rfl|apply And.intro)
     ·rename_i z1
      (apply Br.mk<;>intro)
      ·rename_i z2
       rw[if_pos (.inr z2)]
       (conv=>whnf)
       (repeat' first|exact trivial|rfl|apply And.intro)
      ·rename_i z2
       rw[if_neg (fun hx=>hx.elim z1 z2)]
       (conv=>whnf)
       (repeat' first|exact trivial|rfl|apply And.intro)
def c69:Con:=aJ 129 true fun args K=>match args with | [.str a,.str b]=>K (.tup [S (divI a b).1,S (divI a b).2.1,I (divI a b).2.2]) | _=>False
theorem k69:aG Tryz.prog c69:=by
 refine kO Tryz.func129 fun args K h=>?_
 simp only[c69] at h;split at h
 ·rename_i a b;exact ⟨_,h,triB Tryz.func129 Tryz.ntmps129 (by simp[k94,k95,k61,k98,k106,k107,k96]) (b69 a b)⟩
 ·exact h.elim
end RB
end

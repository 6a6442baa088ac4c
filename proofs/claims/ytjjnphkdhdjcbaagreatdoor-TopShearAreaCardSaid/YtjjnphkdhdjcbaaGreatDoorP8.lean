/-
  Part 8: a symbolic executor over the model, contracts of functions and plain laws.
-/
import Derived.Test.YtjjnphkdhdjcbaaGreatDoorP7
set_option linter.unusedVariables false
set_option linter.unusedSimpArgs false
set_option maxRecDepth 10000
set_option maxHeartbeats 80000000
section
open Go Go.Proofs Go.Eng Go.Shelf IB Go.Lib Go.RowKit
namespace RB
section
variable {α:Type} [DecidableEq α]
theorem wK (x:α):∀l:List α,x∈cpt l↔x∈l
 | []=>Iff.rfl
 | [_]=>Iff.rfl
 | a::b::r=>by
  rw[kM]
  split
  ·rename_i h
   rw[wK x (b::r),h]
   simp
  ·rw[List.mem_cons,wK x (b::r),List.mem_cons (b:=a)]
theorem Qe:∀l:List α,(cpt l).length≤l.length
 | []=>Nat.le_refl _
 | [_]=>Nat.le_refl _
 | a::b::r=>by
  have:=Qe (b::r)
  rw[kM]
  split
  ·simp only[List.length_cons] at*;omega
  ·simp only[List.length_cons] at*;omega
end
theorem Qf:∀ {l:List Rat},l.Pairwise (· ≤ ·)→Asc (cpt l)
 | [],_=>by simp[cpt,Asc]
 | [_],_=>by simp[cpt,Asc]
 | a::b::r,h=>by
  rw[List.pairwise_cons] at h
  have ih:=Qf h.2
  rw[kM]
  split
  ·exact ih
  ·rename_i hne
   refine List.pairwise_cons.2 ⟨fun x hx=>?_,ih⟩
   have hx:=(wK x _).1 hx
   have h1:=h.1 b (.head _)
   have h2:b≤x:=by
    rcases List.mem_cons.1 hx with rfl | hx
    ·exact Rat.le_refl
    ·exact (List.pairwise_cons.1 h.2).1 x hx
   grind
theorem aAv (l:List Rat):(srR l).Pairwise (· ≤ ·):=by
 have:=List.pairwise_mergeSort (le:=fun x y:Rat=>decide (x≤y)) (fun a b c h1 h2=>by
  simp only[decide_eq_true_eq] at*
  exact Rat.le_trans h1 h2) (fun a b=>by
  have:=@Rat.le_total a b
  simpa using this) l
 exact this.imp fun h=>by simpa using h
theorem aAw (x:Rat) (l:List Rat):x∈srR l↔x∈l:=(List.mergeSort_perm l _).mem_iff
theorem Qg (l:List Rat):(srR l).length=l.length:=(List.mergeSort_perm l _).length_eq
noncomputable def plR (l:List Rat):List Rat:=cpt (srR l)
theorem Ga (x:Rat) (l:List Rat):x∈plR l↔x∈l:=(wK x _).trans (aAw x l)
theorem Qh (l:List Rat):Asc (plR l):=Qf (aAv l)
theorem Qi (l:List Rat):(plR l).length≤l.length:=Nat.le_trans (Qe _) (Nat.le_of_eq (Qg l))
theorem aAx (l:List Rat):cpt ((srR l).map numS)=(plR l).map numS:=Pe _
def arT (g:Rat→Rat→Rat) (fr tg a c:Rat):Rat:=if fr≤a∧c≤tg then g a c else 0
def arP (g:Rat→Rat→Rat) (fr tg:Rat) (P:List Rat):Nat→Rat
 | 0=>0
 | n+1=>arP g fr tg P n+arT g fr tg (P.getD n 0) (P.getD (n+1) 0)
theorem Kc (g:Rat→Rat→Rat) (fr tg a:Rat) (P:List Rat):∀n,arP g fr tg (a::P) (n+1)=arT g fr tg a (P.getD 0 0)+arP g fr tg P n
 | 0=>by
  simp only[arP,List.getD_cons_zero,List.getD_cons_succ]
  grind
 | n+1=>by
  rw[arP,Kc g fr tg a P n,arP]
  simp only[List.getD_cons_succ]
  grind
theorem Qj (g:Rat→Rat→Rat) (fr tg:Rat):∀P:List Rat,arP g fr tg P (P.length-1)=zF g fr tg P
 | []=>rfl
 | [_]=>rfl
 | a::c::r=>by
  have ih:=Qj g fr tg (c::r)
  rw[zF,← ih]
  show arP g fr tg (a::c::r) (r.length+1)= _
  rw[Kc]
  rfl
theorem Wv {g:Rat→Rat→Rat} {fr tg:Rat} {P:List Rat} {D B:Nat} (hD:0<D):∀n,(∀i,i<n→Bd D B (arT g fr tg (P.getD i 0) (P.getD (i+1) 0)))→Bd D (n*B) (arP g fr tg P n)
 | 0,_=>Bd.zero hD
 | n+1,h=>by
  rw[arP]
  refine ((Wv hD n fun i hi=>h i (by omega)).add (h n (by omega))).up ?_
  rw[Nat.add_mul,Nat.one_mul];omega
abbrev PQ:Rat→Prop:=Bd 665280 (24*10^17)
theorem Bn.pq {q:Rat} (h:Bn q):PQ q:=(h.bd.to 24 (by decide) (by decide)).up (by decide)
theorem PQ.pn {q:Rat} (h:PQ q):PN q:=(h.to 2 (by decide) (by decide)).up (by decide)
theorem PQ.mean {p q:Rat} (h:PQ p) (h':PQ q):PN ((p+q)/2):=(h.add h').half.eq (by decide) (by decide)
def shR (L:Rat) (n:Nat):Rat:=L*Rat.divInt (n:Int) 24
theorem zV (n:Nat):Rat.divInt (n:Int) 24*(((24:Nat):Int):Rat)=((n:Int):Rat):=by
 rw[show (24:Int)=((24:Nat):Int) from rfl,Rat.divInt_eq_div,Rat.div_def,Rat.mul_assoc,Rat.inv_mul_cancel _ (zI (by decide)),Rat.mul_one]
theorem Kd {n:Nat} (h:n≤24):Bd 24 24 (Rat.divInt (n:Int) 24):=⟨by decide,n,zV n,by rw[Int.natAbs_natCast];exact h⟩
theorem zW {L:Rat} (hL:Bn L) {n:Nat} (h:n≤24):PQ (shR L n):=(hL.bd.mul (Kd h)).eq (by decide) (by decide)
theorem Ww {m n:Nat} (h:m≤n):Rat.divInt (m:Int) 24≤Rat.divInt (n:Int) 24:=by
 have h1:=zV m
 have h2:=zV n
 have h3:((m:Int):Rat)≤((n:Int):Rat):=Rat.intCast_le_intCast.2 (by omega)
 rw[show (((24:Nat):Int):Rat)=24 from rfl] at h1 h2
 generalize Rat.divInt (m:Int) 24=x at*
 generalize Rat.divInt (n:Int) 24=y at*
 grind
theorem Mv {L:Rat} (hL:0<L) {m n:Nat} (h:m≤n):shR L m≤shR L n:=Rat.mul_le_mul_of_nonneg_left (Ww h) (Rat.le_of_lt hL)
theorem Mw {L:Rat} (hL:0<L) {n:Nat} (h:n≤24):0≤shR L n∧shR L n≤L:=by
 have h1:=Mv hL (Nat.zero_le n)
 have h2:=Mv hL h
 have e1:shR L 0=0:=by
  unfold shR
  rw[show Rat.divInt ((0:Nat):Int) 24=0 by decide,Rat.mul_zero]
 have e2:shR L 24=L:=by
  unfold shR
  rw[show Rat.divInt ((24:Nat):Int) 24=1 by decide,Rat.mul_one]
 rw[e1] at h1
 rw[e2] at h2
 exact ⟨h1,h2⟩
theorem Mx {L x:Rat} (hL:Bn L) (hx:Sz 56 x) (h:0≤x∧x≤L):PlV (numS L) (numS x):=by
 have hc:chkQ (numS x)=0:=Cq hx (by decide)
 have hp:ptQ (numS x)=(pn x,pd x):=by rw[ptQ,if_pos hc,cU]
 have hz:Sz 120 x:=⟨Nat.lt_of_lt_of_le hx.1 (by decide),Nat.lt_of_lt_of_le hx.2 (by decide)⟩
 refine ⟨hc,?_,?_,?_⟩
 ·rw[hp,bC]
  exact dA (by decide) hx.1
 ·rw[hp]
  show (digs (decDigits x.den)).length≤56
  rw[Ka]
  exact dA (by decide) hx.2
 ·rw[pV hL hz]
  exact fun q=>q.elim (fun y=>Rat.not_le.2 y h.1) fun y=>Rat.not_le.2 y h.2
theorem PN.sz56 {q:Rat} (h:PN q):Sz 56 q:=Bd.sz h (by decide) (by decide)
def pl0 (fr tg A B:Rat) (F:List FR) (Sp:List SR):List Rat:=[fr,tg,A,B]++F.map (fun f=>f.1)++Sp.flatMap fun s=>[s.1,s.2.1]
def plS (l:List Str) (fs:List (Str × Str)) (ss:List (Str × Str × Str)):List Str:=l++fs.map (fun f=>f.1)++ss.flatMap fun s=>[s.1,s.2.1]
theorem aAy (fr tg A B:Rat) (F:List FR) (Sp:List SR):plS [numS fr,numS tg,numS A,numS B] (nF F) (nSp Sp)=(pl0 fr tg A B F Sp).map numS:=by
 unfold plS pl0 nF nSp
 rw[List.map_append,List.map_append,List.map_map,List.map_map,List.flatMap_map,List.map_flatMap]
 rfl
theorem aAz (fr tg A B:Rat) (F:List FR) (Sp:List SR):(pl0 fr tg A B F Sp).length=4+F.length+2*Sp.length:=by
 have:∀Sp:List SR,(Sp.flatMap fun s=>[s.1,s.2.1]).length=2*Sp.length:=by
  intro Sp
  induction Sp with
  | nil=>rfl
  | cons a r ih=>rw[List.flatMap_cons,List.length_append,ih,List.length_cons];simp;omega
 unfold pl0
 rw[List.length_append,List.length_append,this,List.length_map]
 rfl
theorem aA0 {fr tg A B:Rat} {F:List FR} {Sp:List SR} {x:Rat} (h:x∈pl0 fr tg A B F Sp):(x=fr∨x=tg∨x=A∨x=B)∨(∃f∈F,x=f.1)∨∃s∈Sp,x=s.1∨x=s.2.1:=by
 unfold pl0 at h
 rcases List.mem_append.1 h with h | h
 ·rcases List.mem_append.1 h with h | h
  ·exact .inl (by simpa using h)
  ·obtain ⟨f,hf,e⟩:=List.mem_map.1 h
   exact .inr (.inl ⟨f,hf,e.symm⟩)
 ·obtain ⟨s,hs,e⟩:=List.mem_flatMap.1 h
  exact .inr (.inr ⟨s,hs,by simpa using e⟩)
theorem pl0_f {fr tg A B:Rat} {F:List FR} {Sp:List SR} {f:FR} (h:f∈F):f.1∈pl0 fr tg A B F Sp:=by
 unfold pl0
 exact List.mem_append.2 (.inl (List.mem_append.2 (.inr (List.mem_map.2 ⟨f,h,rfl⟩))))
theorem aCq {fr tg A B:Rat} {F:List FR} {Sp:List SR} {s:SR} (h:s∈Sp):s.1∈pl0 fr tg A B F Sp∧s.2.1∈pl0 fr tg A B F Sp:=by
 unfold pl0
 exact ⟨List.mem_append.2 (.inr (List.mem_flatMap.2 ⟨s,h,by simp⟩)),List.mem_append.2 (.inr (List.mem_flatMap.2 ⟨s,h,by simp⟩))⟩
theorem Wx {fr tg A B:Rat} {F:List FR} {Sp:List SR}:fr∈pl0 fr tg A B F Sp∧tg∈pl0 fr tg A B F Sp∧A∈pl0 fr tg A B F Sp∧B∈pl0 fr tg A B F Sp:=by
 unfold pl0
 simp
structure ShV (L A B:Rat) (F:List FR) (Sp:List SR) (M:Nat):Prop where
 g:BeG L A B F Sp
 m:0<M
 m2:M≤2*10^17
 e:(B-A)*(((27720:Nat):Int):Rat)=((M:Int):Rat)
section
variable {L A B:Rat} {F:List FR} {Sp:List SR} {M i j:Nat}
noncomputable abbrev sH (L A B:Rat) (F:List FR) (Sp:List SR) (x:Rat):Rat:=sheR (A,lftR L A B F Sp) (B,rgtR L A B F Sp) F Sp x
noncomputable abbrev mH (L A B:Rat) (F:List FR) (Sp:List SR) (x:Rat):Rat:=momR (A,lftR L A B F Sp) (B,rgtR L A B F Sp) F Sp x
noncomputable abbrev gH (L A B:Rat) (F:List FR) (Sp:List SR) (a c:Rat):Rat:=sH L A B F Sp ((a+c)/2)*(c-a)
noncomputable abbrev pH (L A B:Rat) (F:List FR) (Sp:List SR) (i j:Nat):List Rat:=plR (pl0 (shR L i) (shR L j) A B F Sp)
theorem ShV.ex (g:BeG L A B F Sp):∃M,ShV L A B F Sp M:=by
 obtain ⟨M,h1,h2,h3⟩:=Wh g.a g.b g.ab
 exact ⟨M,g,h1,h2,h3⟩
theorem ShV.pl (h:ShV L A B F Sp M) (hi:i≤24) (hj:j≤24) {x:Rat} (hx:x∈pl0 (shR L i) (shR L j) A B F Sp):PQ x∧0≤x∧x≤L:=by
 have g:=h.g
 rcases aA0 hx with (rfl | rfl | rfl | rfl) | ⟨f,hf,rfl⟩ | ⟨s,hs,rfl | rfl⟩
 ·exact ⟨zW g.l hi,Mw g.l0 hi⟩
 ·exact ⟨zW g.l hj,Mw g.l0 hj⟩
 ·exact ⟨g.a.pq,g.a0⟩
 ·exact ⟨g.b.pq,g.b0⟩
 ·exact ⟨(g.f f hf).1.pq,g.f0 f hf⟩
 ·exact ⟨(g.s s hs).1.pq,(g.s0 s hs).1⟩
 ·exact ⟨(g.s s hs).2.1.pq,(g.s0 s hs).2.1⟩
theorem ShV.pn (h:ShV L A B F Sp M) (hi:i≤24) (hj:j≤24):∀x∈pl0 (shR L i) (shR L j) A B F Sp,PN x:=fun x hx=>(h.pl hi hj hx).1.pn
theorem ShV.len (h:ShV L A B F Sp M):(pl0 (shR L i) (shR L j) A B F Sp).length≤17:=by
 have h1:=h.g.nf
 have h2:=h.g.ns
 rw[aAz];omega
theorem ShV.at' (h:ShV L A B F Sp M) (hi:i≤24) (hj:j≤24) {k:Nat} (hk:k<(pH L A B F Sp i j).length):PQ ((pH L A B F Sp i j).getD k 0)∧0≤(pH L A B F Sp i j).getD k 0∧(pH L A B F Sp i j).getD k 0≤L:=h.pl hi hj ((Ga _ _).1 (mZ 0 hk))
theorem ShV.gbd (h:ShV L A B F Sp M) {a c:Rat} (ha:PQ a) (hc:PQ c):Bd (98150416809984000*M*665280) (10^85) (gH L A B F Sp a c):=by
 have h1:=(h.g.toBeR.she h.m h.m2 h.e (ha.mean hc)).2
 exact (h1.mul (hc.sub ha)).up (by decide)
theorem ShV.tbd (h:ShV L A B F Sp M) (hi:i≤24) (hj:j≤24) {k:Nat} (hk:k+1<(pH L A B F Sp i j).length):Bd (98150416809984000*M*665280) (10^85) (arT (gH L A B F Sp) (shR L i) (shR L j) ((pH L A B F Sp i j).getD k 0) ((pH L A B F Sp i j).getD (k+1) 0)):=by
 have hm:=h.m
 unfold arT
 split
 ·exact h.gbd (h.at' hi hj (by omega)).1 (h.at' hi hj hk).1
 ·exact Bd.zero (by omega)
theorem ShV.sbd (h:ShV L A B F Sp M) (hi:i≤24) (hj:j≤24) {k:Nat} (hk:k<(pH L A B F Sp i j).length):Sz 100 (arP (gH L A B F Sp) (shR L i) (shR L j) (pH L A B F Sp i j) k):=by
 have hm:=h.m
 have hm2:=h.m2
 have hl:(pH L A B F Sp i j).length≤17:=Nat.le_trans (Qi _) (h.len (i:=i) (j:=j))
 have:=Wv (D:=98150416809984000*M*665280) (B:=10^85) (by omega) k fun n hn=>h.tbd hi hj (k:=n) (by omega)
 refine this.sz (by omega) (by omega)
theorem ShV.add (h:ShV L A B F Sp M) (hi:i≤24) (hj:j≤24) {k:Nat} (hk:k+1<(pH L A B F Sp i j).length) {a c:Rat} (ea:(pH L A B F Sp i j).getD k 0=a) (ec:(pH L A B F Sp i j).getD (k+1) 0=c) (h1:shR L i≤a) (h2:c≤shR L j):
  addQ (numS a) (numS c)=(numS (a+c),0)∧mulQ (numS (a+c)) half1=(numS ((a+c)/2),0)∧PlV (numS L) (numS ((a+c)/2))∧sheS (numS L) (numS A) (numS B) (nF F) (nSp Sp) (numS ((a+c)/2))=numS (sH L A B F Sp ((a+c)/2))∧subQ (numS c) (numS a)=(numS (c-a),0)∧mulQ [49] (numS (sH L A B F Sp ((a+c)/2)))=(numS (sH L A B F Sp ((a+c)/2)),0)∧mulQ (numS (sH L A B F Sp ((a+c)/2))) (numS (c-a))=(numS (gH L A B F Sp a c),0)∧addQ (numS (arP (gH L A B F Sp) (shR L i) (shR L j) (pH L A B F Sp i j) k)) (numS (gH L A B F Sp a c))=(numS (arP (gH L A B F Sp) (shR L i) (shR L j) (pH L A B F Sp i j) (k+1)),0):=by
 have hm:=h.m
 have hm2:=h.m2
 obtain ⟨a1,a2,a3⟩:=h.at' hi hj (k:=k) (by omega)
 obtain ⟨c1,c2,c3⟩:=h.at' hi hj hk
 have hs:=h.sbd hi hj (k:=k) (by omega)
 have hac:a<c:=by
  have:=Qh (pl0 (shR L i) (shR L j) A B F Sp)
  have:=List.pairwise_iff_getElem.1 this k (k+1) (Nat.lt_of_succ_lt hk) hk (by omega)
  rw[← ea,← ec,List.getD_eq_getElem?_getD,List.getD_eq_getElem?_getD,List.getElem?_eq_getElem hk,List.getElem?_eq_getElem (show k<(pH L A B F Sp i j).length by omega)]
  exact this
 have er:arP (gH L A B F Sp) (shR L i) (shR L j) (pH L A B F Sp i j) (k+1)=arP (gH L A B F Sp) (shR L i) (shR L j) (pH L A B F Sp i j) k+gH L A B F Sp a c:=by
  rw[arP,ea,ec,arT,if_pos ⟨h1,h2⟩]
 rw[ea] at a1 a2 a3
 rw[ec] at c1 c2 c3
 have hq:=h.gbd a1 c1
 have mn:=a1.mean c1
 obtain ⟨v1,v2⟩:=h.g.toBeR.she h.m h.m2 h.e mn
 obtain ⟨q1,q2⟩:=Fs hac
 have z1:Sz 30 a:=a1.sz (by decide) (by decide)
 have z2:Sz 30 c:=c1.sz (by decide) (by decide)
 have z3:Sz 30 (a+c):=(a1.add c1).sz (by decide) (by decide)
 have z4:Sz 30 (c-a):=(c1.sub a1).sz (by decide) (by decide)
 have z5:Sz 100 (sH L A B F Sp ((a+c)/2)):=v2.sz (by omega) (by decide)
 have z6:Sz 100 (gH L A B F Sp a c):=hq.sz (by omega) (by decide)
 have e1:half1=numS (1/2):=by
  have:numS (1/2)=itoa ((1/2:Rat)).num++47::decDigits (1/2:Rat).den:=by
   unfold numS
   rw[if_neg (by decide+kernel)]
  rw[this,show (1/2:Rat).num=((1:Nat):Int) by decide+kernel,Va,show (1/2:Rat).den=2 by decide+kernel,bQ (by decide),bQ (by decide)]
  rfl
 have e2:(a+c)*(1/2)=(a+c)/2:=by
  have:=Pu (a+c)
  generalize (a+c)/2=y at*
  grind
 have e3:([49]:Str)=numS 1:=by
  have:=kK 1
  rw[bQ (by decide)] at this
  exact this.symm
 have zh:Sz 1 (1/2:Rat):=⟨by decide+kernel,by decide+kernel⟩
 have zo:Sz 1 (1:Rat):=⟨by decide,by decide⟩
 refine ⟨wP z1 z2 (by decide) (by decide) (by decide),?_,Mx h.g.l mn.sz56 ⟨?_,?_⟩,v1,nK z2 z1 (by decide) (by decide) (by decide),?_,qB z5 z4 (by decide) (by decide) (by decide),?_⟩
 ·rw[e1,qB z3 zh (by decide) (by decide) (by decide),e2]
 ·exact Rat.le_trans a2 (Rat.le_of_lt q1)
 ·exact Rat.le_trans (Rat.le_of_lt q2) c3
 ·rw[e3,qB zo z5 (by decide) (by decide) (by decide),Rat.one_mul]
 ·rw[er,wP hs z6 (by decide) (by decide) (by decide)]
theorem ShV.skip {k:Nat} (hk:¬(shR L i≤(pH L A B F Sp i j).getD k 0∧(pH L A B F Sp i j).getD (k+1) 0≤shR L j)):arP (gH L A B F Sp) (shR L i) (shR L j) (pH L A B F Sp i j) (k+1)=arP (gH L A B F Sp) (shR L i) (shR L j) (pH L A B F Sp i j) k:=by
 rw[arP,arT,if_neg hk,Rat.add_zero]
theorem ShV.mom (h:ShV L A B F Sp M) (hi:i≤24):PlV (numS L) (numS (shR L i))∧momS (numS L) (numS A) (numS B) (nF F) (nSp Sp) (numS (shR L i))=numS (mH L A B F Sp (shR L i))∧Sz 100 (mH L A B F Sp (shR L i)):=by
 have hm:=h.m
 have hm2:=h.m2
 have hp:=(zW h.g.l hi).pn
 obtain ⟨v1,v2⟩:=h.g.toBeR.mom h.m h.m2 h.e hp
 exact ⟨Mx h.g.l hp.sz56 (Mw h.g.l0 hi),v1,v2.sz (by omega) (by decide)⟩
theorem ShV.all (h:ShV L A B F Sp M) (hij:i≤j) (hj:j≤24):subQ (numS (mH L A B F Sp (shR L j))) (numS (mH L A B F Sp (shR L i)))=(numS (arP (gH L A B F Sp) (shR L i) (shR L j) (pH L A B F Sp i j) ((pH L A B F Sp i j).length-1)),0):=by
 have hm:=h.m
 have hl:∀y,y∈pH L A B F Sp i j↔y∈pl0 (shR L i) (shR L j) A B F Sp:=fun y=>Ga y _
 have p0:=Wx (fr:=shR L i) (tg:=shR L j) (A:=A) (B:=B) (F:=F) (Sp:=Sp)
 rw[nK (h.mom hj).2.2 (h.mom (Nat.le_trans hij hj)).2.2 (by decide) (by decide) (by decide),Qj]
 rw[Vw (mH L A B F Sp) (gH L A B F Sp) (Mv h.g.l0 hij) (Qh _) ((hl _).2 p0.1) ((hl _).2 p0.2.1)]
 intro x hx y hy hxy hfx hyt hz
 refine (Vv hxy (hz _ ((hl _).2 p0.2.2.1)) (hz _ ((hl _).2 p0.2.2.2)) (fun f hf=>hz _ ((hl _).2 (pl0_f hf))) fun s hs=>⟨(h.g.s0 s hs).2.2,hz _ ((hl _).2 (aCq hs).1),hz _ ((hl _).2 (aCq hs).2)⟩).symm
end
def exF:List FR:=[(3,3),(6,3)]
theorem bn9:Bn 9:=⟨by decide,by decide⟩
theorem bn0:Bn 0:=⟨by decide,by decide⟩
theorem bn3:Bn 3:=⟨by decide,by decide⟩
theorem bn6:Bn 6:=⟨by decide,by decide⟩
theorem bn4:Bn 4:=⟨by decide,by decide⟩
theorem ex_be:BeG 9 0 9 exF []:=by
 refine ⟨⟨bn9,bn0,bn9,by decide,by decide,by decide,?_,by simp⟩,by decide,by decide,by decide,?_,by simp⟩
 ·intro f hf
  rcases List.mem_cons.1 hf with rfl | hf
  ·exact ⟨bn3,bn3⟩
  ·rcases List.mem_cons.1 hf with rfl | hf
   ·exact ⟨bn6,bn3⟩
   ·cases hf
 ·intro f hf
  rcases List.mem_cons.1 hf with rfl | hf
  ·decide
  ·rcases List.mem_cons.1 hf with rfl | hf
   ·decide
   ·cases hf
theorem ex_sh:ShV 9 0 9 exF [] 249480:=⟨ex_be,by decide,by decide,by decide+kernel⟩
theorem wM {n:Nat} (h:n<10):numS ((n:Int):Rat)= [UInt8.ofNat (48+n)]:=by rw[kK,bQ h]
theorem n_9:numS 9= [57]:=wM (n:=9) (by decide)
theorem n_3:numS 3= [51]:=wM (n:=3) (by decide)
theorem n_6:numS 6= [54]:=wM (n:=6) (by decide)
theorem n_4:numS 4= [52]:=wM (n:=4) (by decide)
abbrev exFs:List (Str × Str):=[([51],[51]),([54],[51])]
theorem Ke:nF exF=exFs:=by
 show [(numS 3,numS 3),(numS 6,numS 3)]= _
 rw[n_3,n_6]
theorem ex_bm:BmV [57] [48] [57] exFs []:=by
 have:=Wu ex_be
 rw[n_9,← zero48,Ke] at this
 exact this
theorem ex_pl:PlV [57] [52]:=by
 have:=Mx (L:=9) (x:=4) bn9 ⟨by decide,by decide⟩ (by decide)
 rw[n_9,n_4] at this
 exact this
theorem Gb:rgtR 9 0 9 exF []=3:=by decide+kernel
theorem Gc:lftR 9 0 9 exF []=3:=by decide+kernel
theorem aDu:lftS [57] [48] [57] exFs []= [51]:=by
 have:=(ex_be.toBeR.lft ex_sh.m ex_sh.m2 ex_sh.e).1
 rw[n_9,← zero48,Ke,Gc,n_3] at this
 exact this
theorem aDv:rgtS [57] [48] [57] exFs []= [51]:=by
 have:=(ex_be.toBeR.rgt ex_sh.m ex_sh.m2 ex_sh.e).1
 rw[n_9,← zero48,Ke,Gb,n_3] at this
 exact this
theorem aDw:momS [57] [48] [57] exFs [] [52]= [57]:=by
 have:=(ex_be.toBeR.mom ex_sh.m ex_sh.m2 ex_sh.e bn4.px).1
 rw[Gc,Gb,show momR (0,3) (9,3) exF [] 4=9 by decide+kernel,n_9,← zero48,Ke,n_4] at this
 exact this
theorem aDx:sheS [57] [48] [57] exFs [] [52]= [48]:=by
 have:=(ex_be.toBeR.she ex_sh.m ex_sh.m2 ex_sh.e bn4.px).1
 rw[Gc,Gb,show sheR (0,3) (9,3) exF [] 4=0 by decide+kernel,n_9,← zero48,Ke,n_4] at this
 exact this
def AtV (lb:Str) (n:Int) (r:Str):Prop:=∃(L:Rat) (i:Nat),lb=numS L∧Bn L∧n=(i:Int)∧i≤24∧r=numS (shR L i)
noncomputable def aCr:Con:=aI 15 true fun args K=>match args with | [.agg [.str lb,.str ab,.str bb,.seq (.pair .str .str) fs,.seq (.pair .str (.pair .str .str)) ss],.val (.int .u8 n)]=>Alt (Has (fun r:Str=>AtV lb n r) fun r=>K (.tup [S r,.val (.bool true)])) False | _=>False
theorem k4015:aD Tryz.prog aCr:=by
 refine kQ {} Tryz.func15 Tryz.ntmps15 (kc k22 (kc k19n kn)) fun _ _ h=>?_
 split at h
 case h_2=>exact h.elim
 obtain ⟨r,h0,hK⟩:=(h.or.resolve_right id).ex
 refine kb hK ?_
 have h:=h0
 obtain ⟨L,i,rfl,hL,rfl,hi,rfl⟩:=h
 have h1:ofQ ((i:Int)%25) 24=(numS (Rat.divInt (i:Int) 24),0):=by
  rw[show (i:Int)%25=i by omega];exact aDa (by decide)
 have h2:mulQ (numS L) (ofQ ((i:Int)%25) 24).1=(numS (shR L i),0):=by
  rw[h1]
  exact qB (i:=20) (j:=20) (hL.px.sz (by decide) (by decide)) ((Kd hi).sz (by decide) (by decide)) (by decide) (by decide) (by decide)
 have h3:(ofQ ((i:Int)%25) 24).2=0:=by rw[h1]
 (repeat refine ZR ?_)
 (conv=>whnf)
 (repeat' first|exact trivial|rfl|apply And.intro)
 all_goals exact ⟨fun _=>rfl,fun _=>rfl⟩
def SuV (lb ab bb:Str) (fs:List (Str × Str)) (ss:List (Str × Str × Str)):Prop:=¬GtV lb ab bb fs ss∧ckB lb ab bb fs ss=0
def Wy:Con:=aI 13 true fun args K=>match args with | [.agg [.str lb,.str ab,.str bb,.seq (.pair .str .str) fs,.seq (.pair .str (.pair .str .str)) ss]]=>K (.bl (SuV lb ab bb fs ss) (Classical.propDecidable _)) | _=>False
theorem aCs:aD Tryz.prog Wy:=by
 refine kQ {} Tryz.func13 Tryz.ntmps13 (kc k4054 (kc k4055 kn)) fun _ _ h=>?_
 split at h
 case h_2=>exact h.elim
 rename_i lb ab bb fs ss
 change List (Str × Str) at fs
 change List (Str × Str × Str) at ss
 refine kb h ?_
 have hq:SuV lb ab bb fs ss↔(¬GtV lb ab bb fs ss∧ckB lb ab bb fs ss=0):=Iff.rfl
 generalize SuV lb ab bb fs ss=M at*
 by_cases h1:GtV lb ab bb fs ss
 ·have hM:¬M:=fun q=>(hq.1 q).1 h1
  (repeat refine ZR ?_)
  (conv=>whnf)
  exact hM
 ·have hM:ckB lb ab bb fs ss=0↔M:=⟨fun q=>hq.2 ⟨h1,q⟩,fun q=>(hq.1 q).2⟩
  (repeat refine ZR ?_)
  (conv=>whnf)
  exact hM
theorem tC (a:Str):ent (S a) (S a):=(rfl:a=a)
theorem Wz (t:Ty) (xs:List t.T):ent (.seq t xs) (.seq t xs):=by
 show qD t t xs xs
 unfold qD
 rw[dif_pos rfl]
 rfl
theorem My (lb ab bb:Str) (fs:List (Str × Str)):ent (.agg [S lb,S ab,S bb,.seq tFr fs,.val (.slice none 0 0)]) (.agg [S lb,S ab,S bb,.seq tFr fs,.seq tSr []]):=⟨tC lb,tC ab,tC bb,Wz tFr fs,(rfl:([]:List tSr.T)= []),trivial⟩
noncomputable def Xa:Con:=aI 56 true fun args K=>match args with
 | [.agg [.str lb,.str ab,.str bb,.seq (.pair .str .str) fs,.val (.slice none 0 0)]]=>Need (BmV lb ab bb fs []) (K (.tup [S (lftS lb ab bb fs []),S (rgtS lb ab bb fs []),I 0]))
 | _=>False
theorem aDy:aD Tryz.prog Xa:=by
 refine kO Tryz.func56 fun args K h=>?_
 simp only[Xa] at h;split at h
 ·rename_i lb ab bb fs
  obtain ⟨h1,h⟩:=h
  refine ⟨_,h,?_⟩
  show Tri Tryz.prog true 56 _ _
  intro ok w vs hgw hok hr
  have ht:=triB Tryz.func56 Tryz.ntmps56 (by simp[aCg,aB7]) (b4056 lb ab bb fs [] h1)
  exact ht ok w vs hgw hok (bZ (l:=[.agg [S lb,S ab,S bb,.seq tFr fs,.val (.slice none 0 0)]]) (l':=[.agg [S lb,S ab,S bb,.seq tFr fs,.seq tSr []]]) ⟨My lb ab bb fs,trivial⟩ hr)
 ·exact h.elim
noncomputable def Xb:Con:=aI 16 true fun args K=>match args with
 | [.agg [.str lb,.str ab,.str bb,.seq (.pair .str .str) fs,.val (.slice none 0 0)],.str a]=>Need (BmV lb ab bb fs []∧PlV lb a) (K (.tup [S (momS lb ab bb fs [] a),I 0]))
 | _=>False
theorem aDz:aD Tryz.prog Xb:=by
 refine kO Tryz.func16 fun args K h=>?_
 simp only[Xb] at h;split at h
 ·rename_i lb ab bb fs a
  obtain ⟨h1,h⟩:=h
  refine ⟨_,h,?_⟩
  show Tri Tryz.prog true 16 _ _
  intro ok w vs hgw hok hr
  have ht:=triB Tryz.func16 Tryz.ntmps16 (by simp[Pz,aCa]) (aCh lb ab bb fs [] a h1)
  exact ht ok w vs hgw hok (bZ (l:=[.agg [S lb,S ab,S bb,.seq tFr fs,.val (.slice none 0 0)],S a]) (l':=[.agg [S lb,S ab,S bb,.seq tFr fs,.seq tSr []],S a]) ⟨My lb ab bb fs,tC a,trivial⟩ hr)
 ·exact h.elim
noncomputable def Xc:Con:=aI 20 true fun args K=>match args with
 | [.agg [.str lb,.str ab,.str bb,.seq (.pair .str .str) fs,.val (.slice none 0 0)],.str a]=>Need (BmV lb ab bb fs []∧PlV lb a) (K (.tup [S (sheS lb ab bb fs [] a),I 0]))
 | _=>False
theorem aD0:aD Tryz.prog Xc:=by
 refine kO Tryz.func20 fun args K h=>?_
 simp only[Xc] at h;split at h
 ·rename_i lb ab bb fs a
  obtain ⟨h1,h⟩:=h
  refine ⟨_,h,?_⟩
  show Tri Tryz.prog true 20 _ _
  intro ok w vs hgw hok hr
  have ht:=triB Tryz.func20 Tryz.ntmps20 (by simp[Pz,aCc]) (aCi lb ab bb fs [] a h1)
  exact ht ok w vs hgw hok (bZ (l:=[.agg [S lb,S ab,S bb,.seq tFr fs,.val (.slice none 0 0)],S a]) (l':=[.agg [S lb,S ab,S bb,.seq tFr fs,.seq tSr []],S a]) ⟨My lb ab bb fs,tC a,trivial⟩ hr)
 ·exact h.elim
def Xd:Con:=aI 14 true fun args K=>match args with | []=>K (.val (.bool true)) | _=>False
theorem aCt:aD Tryz.prog Xd:=by
 refine kQ {} Tryz.func14 Tryz.ntmps14 (kc aDy (kc aDz (kc aD0 kn))) fun _ _ h=>?_
 split at h
 case h_2=>exact h.elim
 refine kb h ?_
 have h1:BmV (⟨#[57]⟩:ByteArray).data.toList (⟨#[48]⟩:ByteArray).data.toList (⟨#[57]⟩:ByteArray).data.toList [((⟨#[51]⟩:ByteArray).data.toList,(⟨#[51]⟩:ByteArray).data.toList),((⟨#[54]⟩:ByteArray).data.toList,(⟨#[51]⟩:ByteArray).data.toList)] []:=ex_bm
 have h2:PlV (⟨#[57]⟩:ByteArray).data.toList (⟨#[52]⟩:ByteArray).data.toList:=ex_pl
 have h3:lftS (⟨#[57]⟩:ByteArray).data.toList (⟨#[48]⟩:ByteArray).data.toList (⟨#[57]⟩:ByteArray).data.toList [((⟨#[51]⟩:ByteArray).data.toList,(⟨#[51]⟩:ByteArray).data.toList),((⟨#[54]⟩:ByteArray).data.toList,(⟨#[51]⟩:ByteArray).data.toList)] []=(⟨#[51]⟩:ByteArray).data.toList:=aDu
 have h4:rgtS (⟨#[57]⟩:ByteArray).data.toList (⟨#[48]⟩:ByteArray).data.toList (⟨#[57]⟩:ByteArray).data.toList [((⟨#[51]⟩:ByteArray).data.toList,(⟨#[51]⟩:ByteArray).data.toList),((⟨#[54]⟩:ByteArray).data.toList,(⟨#[51]⟩:ByteArray).data.toList)] []=(⟨#[51]⟩:ByteArray).data.toList:=aDv
 have h5:momS (⟨#[57]⟩:ByteArray).data.toList (⟨#[48]⟩:ByteArray).data.toList (⟨#[57]⟩:ByteArray).data.toList [((⟨#[51]⟩:ByteArray).data.toList,(⟨#[51]⟩:ByteArray).data.toList),((⟨#[54]⟩:ByteArray).data.toList,(⟨#[51]⟩:ByteArray).data.toList)] [] (⟨#[52]⟩:ByteArray).data.toList=(⟨#[57]⟩:ByteArray).data.toList:=aDw
 have h6:sheS (⟨#[57]⟩:ByteArray).data.toList (⟨#[48]⟩:ByteArray).data.toList (⟨#[57]⟩:ByteArray).data.toList [((⟨#[51]⟩:ByteArray).data.toList,(⟨#[51]⟩:ByteArray).data.toList),((⟨#[54]⟩:ByteArray).data.toList,(⟨#[51]⟩:ByteArray).data.toList)] [] (⟨#[52]⟩:ByteArray).data.toList=(⟨#[48]⟩:ByteArray).data.toList:=aDx
 have h7:=And.intro h1 h2
 (repeat refine ZR ?_)
 (conv=>whnf)
 all_goals exact ⟨fun _=>rfl,fun _=>h6⟩
def psF (l:List Str) (fs:List (Str × Str)) (k:Nat):List Str:=l++(fs.take k).map fun f=>f.1
def psS (l:List Str) (ss:List (Str × Str × Str)) (k:Nat):List Str:=l++(ss.take k).flatMap fun s=>[s.1,s.2.1]
theorem Xe (l:List Str) (fs:List (Str × Str)):psF l fs 0=l:=by simp[psF]
theorem Kf (l:List Str) (ss:List (Str × Str × Str)):psS l ss 0=l:=by simp[psS]
theorem Kg {l:List Str} {fs:List (Str × Str)} {k:Nat} (h:k<fs.length):psF l fs (k+1)=psF l fs k++ [(fs.getD k fr0).1]:=by
 unfold psF
 rw[tkSn fr0 h,List.map_append,List.append_assoc]
 rfl
theorem Kh {l:List Str} {ss:List (Str × Str × Str)} {k:Nat} (h:k<ss.length):psS l ss (k+1)=psS l ss k++ [(ss.getD k sr0).1,(ss.getD k sr0).2.1]:=by
 unfold psS
 rw[tkSn sr0 h,List.flatMap_append,List.append_assoc]
 simp
theorem Qk (l:List Str) (fs:List (Str × Str)):∀k,k≤fs.length→(psF l fs k).length=l.length+k
 | 0,_=>by rw[Xe];rfl
 | k+1,h=>by rw[Kg h,List.length_append,Qk l fs k (by omega)];simp;omega
theorem Ql (l:List Str) (ss:List (Str × Str × Str)):∀k,k≤ss.length→(psS l ss k).length=l.length+2*k
 | 0,_=>by rw[Kf];rfl
 | k+1,h=>by rw[Kh h,List.length_append,Ql l ss k (by omega)];simp;omega
theorem aD1 (l:List Str) (fs:List (Str × Str)) (ss:List (Str × Str × Str)):psS (psF l fs fs.length) ss ss.length=plS l fs ss:=by
 unfold psS psF plS
 rw[List.take_length,List.take_length]
theorem aD2 (lb ab bb:Str) (fs:List (Str × Str)) (ss:List (Str × Str × Str)) (a b:Int) (h:¬SuV lb ab bb fs ss):body Tryz.prog [Wy,Xd] {} true Tryz.f4 [.agg [S lb,S ab,S bb,.seq tFr fs,.seq tSr ss],.val (.int .u8 a),.val (.int .u8 b)] (.val (.bool true)):=by
 (repeat refine ZR ?_)
 (conv=>whnf)
theorem tD (P:List Rat) {k:Nat} (h:k<P.length):(P.map numS).getD k []=numS (P.getD k 0):=by
 simp[List.getD_eq_getElem?_getD,h]
structure ArW (lb ab bb:Str) (fs:List (Str × Str)) (ss:List (Str × Str × Str)) (fr tg:Str) (P0:List Rat) (P:List Str) (s:Nat→Str):Prop where
 q1:BmV lb ab bb fs ss∧PlV lb fr
 q2:BmV lb ab bb fs ss∧PlV lb tg
 n1:fs.length≤5
 n2:ss.length≤4
 p0:plS [fr,tg,ab,bb] fs ss=P0.map numS∧(∀q∈P0,PN q)∧P0≠ []∧P0.length≤100
 pl:((srR P0).map numS).length≤1000000
 pc:cpt ((srR P0).map numS)=P
 p1:1≤P.length∧P.length≤1000
 s0:s 0= [48]
 sl:subQ (momS lb ab bb fs ss tg) (momS lb ab bb fs ss fr)=(s (P.length-1),0)
 st:∀k,k+1<P.length→(cmS (P.getD k []) fr<0∧s (k+1)=s k)∨((¬cmS (P.getD k []) fr<0∧cmS tg (P.getD (k+1) [])<0)∧s (k+1)=s k)∨((¬cmS (P.getD k []) fr<0∧¬cmS tg (P.getD (k+1) [])<0)∧∃n m d,addQ (P.getD k []) (P.getD (k+1) [])=(n,0)∧mulQ n half1=(m,0)∧(BmV lb ab bb fs ss∧PlV lb m)∧subQ (P.getD (k+1) []) (P.getD k [])=(d,0)∧∃p q,mulQ [49] (sheS lb ab bb fs ss m)=(p,0)∧mulQ p d=(q,0)∧addQ (s k) q=(s (k+1),0))
theorem ShV.walk {L A B:Rat} {F:List FR} {Sp:List SR} {M i j:Nat} (h:ShV L A B F Sp M) (hij:i≤j) (hj:j≤24):∃P0 P s,ArW (numS L) (numS A) (numS B) (nF F) (nSp Sp) (numS (shR L i)) (numS (shR L j)) P0 P s:=by
 have hi:i≤24:=by omega
 have hbm:=Wu h.g
 obtain ⟨p1,m1, -⟩:=h.mom hi
 obtain ⟨p2,m2, -⟩:=h.mom hj
 have hfr:shR L i∈pH L A B F Sp i j:=(Ga _ _).2 Wx.1
 have hlen:=Nat.le_trans (Qi _) (h.len (i:=i) (j:=j))
 refine ⟨pl0 (shR L i) (shR L j) A B F Sp,(pH L A B F Sp i j).map numS,fun k=>numS (arP (gH L A B F Sp) (shR L i) (shR L j) (pH L A B F Sp i j) k),⟨hbm,p1⟩,⟨hbm,p2⟩,by rw[zJ];exact h.g.nf,by rw[tA];exact h.g.ns,⟨aAy _ _ _ _ _ _,h.pn hi hj,?_,Nat.le_trans h.len (by decide)⟩,?_,aAx _,⟨?_,?_⟩,zero48.symm,?_,fun k hk=>?_⟩
 ·intro q
  have:=Wx (fr:=shR L i) (tg:=shR L j) (A:=A) (B:=B) (F:=F) (Sp:=Sp)
  rw[q] at this
  simp at this
 ·rw[List.length_map,Qg]
  exact Nat.le_trans h.len (by decide)
 ·rw[List.length_map]
  exact List.length_pos_of_mem hfr
 ·rw[List.length_map]
  exact Nat.le_trans hlen (by decide)
 ·rw[m1,m2,List.length_map]
  exact h.all hij hj
 ·rw[List.length_map] at hk
  obtain ⟨a1, -, -⟩:=h.at' hi hj (k:=k) (by omega)
  obtain ⟨c1, -, -⟩:=h.at' hi hj hk
  have zi:=(zW h.g.l hi).pn.sz'
  have zj:=(zW h.g.l hj).pn.sz'
  rw[tD _ hk,tD _ (show k<(pH L A B F Sp i j).length by omega),kW a1.pn.sz' zi,kW zj c1.pn.sz']
  by_cases u1:(pH L A B F Sp i j).getD k 0<shR L i
  ·refine .inl ⟨u1,?_⟩
   show numS _=numS _
   rw[ShV.skip fun q=>Rat.not_le.2 u1 q.1]
  by_cases u2:shR L j<(pH L A B F Sp i j).getD (k+1) 0
  ·refine .inr (.inl ⟨⟨u1,u2⟩,?_⟩)
   show numS _=numS _
   rw[ShV.skip fun q=>Rat.not_le.2 u2 q.2]
  obtain ⟨b1,b2,b3,b4,b5,b6,b7,b8⟩:=h.add hi hj hk rfl rfl (Rat.not_lt.1 u1) (Rat.not_lt.1 u2)
  rw[← b4] at b6 b7
  exact .inr (.inr ⟨⟨u1,u2⟩,_,_,_,b1,b2,⟨hbm,b3⟩,b5,_,_,b6,by rw[b4];rw[b4] at b7;exact b7,b8⟩)
theorem b4004 (lb ab bb:Str) (fs:List (Str × Str)) (ss:List (Str × Str × Str)) (a b:Int) (fr tg:Str) (P0:List Rat) (P:List Str) (s:Nat→Str) (ha:0≤a∧a≤255) (hb:0≤b∧b≤255) (hs:SuV lb ab bb fs ss) (v1:AtV lb (min (a%25) (b%25)) fr) (v2:AtV lb (max (a%25) (b%25)) tg) (h:ArW lb ab bb fs ss fr tg P0 P s):
  body Tryz.prog [Wy,Xd,aCr,Vz,Wn,aCo,aCx,aCk,Wa,aCm,aCl] { asks:=[(0,[1]),(2,[1]),(4,[])] } true Tryz.f4 [.agg [S lb,S ab,S bb,.seq tFr fs,.seq tSr ss],.val (.int .u8 a),.val (.int .u8 b)] (.val (.bool true)):=by
 obtain ⟨q1,q2,n1,n2,p0,pl,pc,⟨p1,p1'⟩,s0,sl,st⟩:=h
 (repeat refine ZX ?_)
 refine Own.r ?_
 (repeat'((conv=>whnf);first|refine Zg fun _=>?_|fail))
 refine Ask.mk ⟨{ X:=Nat,pre:=fun k=>k≤fs.length,mod:=fun k _=>[(15,.ref 1 1),(88,I k)],objs:=[1],heap:=fun k H=>[hget H 0,.vec 1 .str (psF [fr,tg,ab,bb] fs k) 42],mu:=fun k=>fs.length-k },rfl,?_⟩
 (repeat refine ZG ?_)
 refine ⟨⟨(0:Nat),Nat.zero_le _,by (repeat' first|exact trivial|rfl|exact Nat.one_pos|apply And.intro)⟩,fun (k:Nat) hk=>?_⟩
 have hk:k≤fs.length:=hk
 have hl:(psF [fr,tg,ab,bb] fs k).length=4+k:=Qk _ fs k hk
 by_cases hlt:k<fs.length
 ·(repeat refine ZR ?_)
  refine ⟨(k+1:Nat),by show fs.length-(k+1)<fs.length-k;omega,hlt,?_⟩
  (repeat' first|exact trivial|rfl|exact Nat.one_pos|apply And.intro)
  all_goals exact (Kg hlt).symm
 have e:k=fs.length:=by omega
 subst e
 rw[← aD1] at p0
 (repeat' first|refine ZR ?_|refine Zg fun _=>?_)
 refine Ask.mk ⟨{ X:=Nat,pre:=fun k=>k≤ss.length,mod:=fun k _=>[(15,.ref 1 1),(101,I k)],objs:=[1],heap:=fun k H=>[hget H 0,.vec 1 .str (psS (psF [fr,tg,ab,bb] fs fs.length) ss k) 42],mu:=fun k=>ss.length-k },rfl,?_⟩
 (repeat refine ZG ?_)
 refine ⟨⟨(0:Nat),Nat.zero_le _,by
  (repeat' first|exact trivial|rfl|exact Nat.one_pos|apply And.intro)
  all_goals exact (Kf _ _).symm⟩,fun (k:Nat) hk=>?_⟩
 have hk:k≤ss.length:=hk
 have hl2:=Ql (psF [fr,tg,ab,bb] fs fs.length) ss k hk
 by_cases hlt:k<ss.length
 ·(repeat refine ZR ?_)
  refine ⟨(k+1:Nat),by show ss.length-(k+1)<ss.length-k;omega,hlt,?_⟩
  (repeat' first|exact trivial|rfl|exact Nat.one_pos|apply And.intro)
  all_goals exact (Kh hlt).symm
 have e:k=ss.length:=by omega
 subst e
 (repeat refine ZR ?_)
 rw[pc]
 refine Ask.mk ⟨{ X:=Nat,pre:=fun k=>k+1≤P.length,mod:=fun k _=>[(22,I ((k:Int)+1))],heap:=fun k H=>[hget H 0,hget H 1,.cells [S (s k),I 0] 65],mu:=fun k=>P.length-k },rfl,?_⟩
 (repeat refine ZG ?_)
 refine ⟨⟨(0:Nat),p1,by
  (repeat' first|exact trivial|rfl|apply And.intro)
  all_goals exact s0.symm⟩,fun (k:Nat) hk=>?_⟩
 have hk:k+1≤P.length:=hk
 by_cases hlt:k+1<P.length
 ·rcases st k hlt with ⟨u1,e1⟩ | ⟨⟨u1,u2⟩,e1⟩ | ⟨⟨u1,u2⟩,n,m,d,w1,w2,w3,w4,w5⟩
  ·(repeat'((conv=>whnf);first|refine Zg fun _=>?_|refine Zn ?_|(apply Pin.mk;apply Exists.intro)|apply Pinned.mk rfl rfl|refine Zy ?_|fail))
   refine ixA k (by omega) ?_
   (repeat'((conv=>whnf);first|refine Zn ?_|refine Zj ?_|(apply Pin.mk;apply Exists.intro)|apply Pinned.mk rfl rfl|refine Zy ?_|fail))
   refine ⟨(k+1:Nat),by show P.length-(k+1)<P.length-k;omega,hlt,?_⟩
   (repeat' first|exact trivial|rfl|apply And.intro)
   all_goals exact e1.symm
  ·(repeat'((conv=>whnf);first|refine Zg fun _=>?_|refine Zn ?_|(apply Pin.mk;apply Exists.intro)|apply Pinned.mk rfl rfl|refine Zy ?_|fail))
   refine ixA k (by omega) ?_
   (repeat'((conv=>whnf);first|refine Zn ?_|refine Zj ?_|(apply Pin.mk;apply Exists.intro)|apply Pinned.mk rfl rfl|refine Zy ?_|refine Zm ?_|fail))
   refine ⟨(k+1:Nat),by show P.length-(k+1)<P.length-k;omega,hlt,?_⟩
   (repeat' first|exact trivial|rfl|apply And.intro)
   all_goals exact e1.symm
  ·(repeat'((conv=>whnf);first|refine Zg fun _=>?_|refine Zn ?_|(apply Pin.mk;apply Exists.intro)|apply Pinned.mk rfl rfl|refine Zy ?_|fail))
   refine ixA k (by omega) ?_
   (repeat'((conv=>whnf);first|refine Zn ?_|refine Zj ?_|(apply Pin.mk;apply Exists.intro)|apply Pinned.mk rfl rfl|(apply PinH.mk;apply Exists.intro;apply Exists.intro)|exact Zf|refine Zc ?_ ?_|refine .h ?_|refine Zl ?_|refine Zm ?_|fail))
   refine ⟨(k+1:Nat),by show P.length-(k+1)<P.length-k;omega,hlt,?_⟩
   (repeat' first|exact trivial|rfl|apply And.intro)
 ·have e:k=P.length-1:=by omega
  subst e
  (repeat' first|refine ZR ?_|refine Zg fun _=>?_)
  refine Br.mkY rfl ?_
  (conv=>whnf)
theorem t4004 (lb ab bb:Str) (fs:List (Str × Str)) (ss:List (Str × Str × Str)) (a b:Int) (ha:inK .u8 a) (hb:inK .u8 b):Tri Tryz.prog true 4 [.agg [S lb,S ab,S bb,.seq tFr fs,.seq tSr ss],.val (.int .u8 a),.val (.int .u8 b)] (.val (.bool true)):=by
 by_cases hs:SuV lb ab bb fs ss
 ·obtain ⟨L,A,B,F,Sp,rfl,rfl,rfl,rfl,rfl,hg⟩:=aAu hs.1 hs.2
  obtain ⟨M,hm⟩:=ShV.ex hg
  have ha:0≤a∧a≤255:=ha
  have hb:0≤b∧b≤255:=hb
  obtain ⟨i,hi⟩:∃i:Nat,min (a%25) (b%25)=(i:Int):=⟨(min (a%25) (b%25)).toNat,by omega⟩
  obtain ⟨j,hj⟩:∃j:Nat,max (a%25) (b%25)=(j:Int):=⟨(max (a%25) (b%25)).toNat,by omega⟩
  have hij:i≤j:=by omega
  have hj4:j≤24:=by omega
  obtain ⟨P0,P,s,hw⟩:=hm.walk hij hj4
  exact oG (by simp[aCs,aCt,k4015,k4016,k4017,k4018,k2045,k4021,k4020,k4022,k4023]) Tryz.func4 (by simp[Tryz.ntmps4]) rfl
   (b4004 _ _ _ _ _ a b _ _ P0 P s ha hb hs ⟨L,i,rfl,hg.l,hi,by omega,rfl⟩ ⟨L,j,rfl,hg.l,hj,hj4,rfl⟩ hw)
 ·exact triB Tryz.func4 Tryz.ntmps4 (by simp[aCs,aCt]) (aD2 lb ab bb fs ss a b hs)
end RB
end

/-
  Part 6: a symbolic executor over the model, contracts of functions and plain laws.
-/
import Derived.Test.YtabmgmflgfoleaaGreatDoorP5
import Derived.Lib.Bytealg
set_option linter.unusedVariables false
set_option linter.unusedSimpArgs false
set_option maxRecDepth 10000
set_option maxHeartbeats 80000000
section
open Go Go.Proofs Go.Eng Go.Shelf IB Go.Lib Go.RowKit
namespace RB
theorem yF {P:Program} {fr:Bool} {f:FuncId} {args args':List SV} {r:SV} (h:Tri P fr f args r) (he:ent.entL args' args):Tri P fr f args' r:=
 fun ok w vs hg hok hr=>h ok w vs hg hok (cW he hr)
def c96g:Con:=aJ 140 true fun args K=>match args with
 | [.agg [.val (.bool false),.seq (.int .i64) a]]=>Need (uO a) (K (.tup [S (resI (valB B9 a)).1,I (resI (valB B9 a)).2]))
 | _=>False
theorem k96g:aG Tryz.prog c96g:=by
 refine kO Tryz.func140 fun args K h=>?_
 simp only[c96g] at h;split at h
 ·rename_i a
  refine ⟨_,h.go,?_⟩
  have ht:=triB Tryz.func140 Tryz.ntmps140 (by simp[k128,k88]) (b96 False inferInstance a h.ok)
  refine yF (args:=[.agg [.bl False inferInstance,Ls a]]) ht ⟨⟨fun h=>h,?_,trivial⟩,trivial⟩
  rfl
 ·exact h.elim
theorem rQ (x y:Int):Int.gcd y (x.tmod y)=Int.gcd x y:=by
 unfold Int.gcd
 rw[Int.natAbs_tmod,Nat.gcd_comm,← Nat.gcd_rec,Nat.gcd_comm]
theorem mG (p:Prop) [Decidable p] (n:Nat):(sgP p n).natAbs=n:=by unfold sgP;split<;>omega
theorem yG {m:Nat} (h:m<B9^34):qI (aA B9 m):=by
 refine ⟨by rw[v9,Int.toNat_natCast],?_⟩
 rw[v9,Int.toNat_natCast]
 exact Nat.lt_of_lt_of_le h (Nat.pow_le_pow_right (by decide) (by omega))
theorem b89 (a b:List UInt8):body Tryz.prog [c94,c95,c61,c98,c106,c96g] { asks:=[(0,[]),(2,[])] } true Tryz.f144 [S a,S b] (.tup [S (bG a b (resI (Int.gcd (valI a) (valI b)))).1,I (bG a b (resI (Int.gcd (valI a) (valI b)))).2]):=by
 unfold bG
 (apply Br.mk<;>intro)
 ·rename_i h
  rw[if_pos h]
  (conv=>whnf)
  (repeat' first|exact trivial|rfl|apply And.intro)
 ·rename_i h
  rw[if_neg h]
  obtain ⟨ha,hb⟩:=jB h
  obtain ⟨fa,la⟩:=bY ha
  obtain ⟨fb,lb⟩:=bY hb
  refine Need.mk ⟨rfl,fa,fb⟩ ?_
  (apply Br.mk<;>intro)
  ·rename_i hs
   have h1:=gU fa hs.1
   have h2:=gU fb hs.2
   refine Ask.mk ⟨{ X:=Int × Int,pre:=fun z=>Int.gcd z.1 z.2=Int.gcd (valI a) (valI b)∧z.1.natAbs≤1000000000000000000∧z.2.natAbs≤1000000000000000000,mod:=fun z _=>[(7,I z.1),(8,I z.2)],heap:=fun _ _=>[],mu:=fun z=>z.2.natAbs },rfl,?_⟩
   (repeat'((conv=>whnf);first|refine Zn ?_|fail))
   refine ⟨⟨(valI a,valI b),⟨rfl,by show (valI a).natAbs≤ _;omega,by show (valI b).natAbs≤ _;omega⟩,by (repeat' first|exact trivial|rfl|apply And.intro)⟩,fun (z:Int × Int) hz=>?_⟩
   obtain ⟨z1,z2,z3⟩:=hz
   (apply Br.mk<;>intro)
   ·rename_i hy
    have hm:(z.1.tmod z.2).natAbs<z.2.natAbs:=by rw[Int.natAbs_tmod];exact Nat.mod_lt _ (by omega)
    (repeat'((conv=>whnf);first|refine Zb ?_|(apply Pin.mk;apply Exists.intro)|apply Pinned.mk rfl rfl|fail))
    (conv=>whnf)
    refine ⟨(z.2,z.1.tmod z.2),hm,⟨by rw[← z1];exact rQ _ _,z3,by show (z.1.tmod z.2).natAbs≤ _;omega⟩,?_⟩
    (repeat' first|exact trivial|rfl|apply And.intro)
   ·rename_i hy
    have hy:z.2=0:=by omega
    have hg:((Int.gcd (valI a) (valI b):Nat):Int)=max z.1 (-z.1):=by
     rw[← z1,hy,Int.gcd_zero_right]
     omega
    rw[hg,gW (by omega)]
    (repeat'((conv=>whnf);first|refine Zn ?_|fail))
    (conv=>whnf)
    (repeat' first|exact trivial|rfl|apply And.intro)
  ·rename_i hs
   refine Need.mk ⟨fa,by omega⟩ ?_
   refine Need.mk ⟨fb,by omega⟩ ?_
   have pM:=gV fa la
   have pN:=gV fb lb
   have hgv:Int.gcd (valI a) (valI b)=Nat.gcd (aC (digs a)) (aC (digs b)):=by
    unfold Int.gcd
    rw[cX,cX,mG,mG]
   rw[hgv]
   refine Ask.mk ⟨{ X:=Nat × Nat,pre:=fun z=>Nat.gcd z.1 z.2=Nat.gcd (aC (digs a)) (aC (digs b))∧z.1<B9^34∧z.2<B9^34,mod:=fun z _=>[(10,Ls (aA B9 z.1)),(11,Ls (aA B9 z.2))],heap:=fun _ _=>[],mu:=fun z=>z.2 },rfl,?_⟩
   (repeat'((conv=>whnf);first|refine Zn ?_|fail))
   refine ⟨⟨(aC (digs a),aC (digs b)),⟨rfl,pM,pN⟩,by (repeat' first|exact trivial|rfl|apply And.intro)⟩,fun (z:Nat × Nat) hz=>?_⟩
   obtain ⟨z1,z2,z3⟩:=hz
   (repeat'((conv=>whnf);first|refine Zg fun _=>?_|fail))
   (apply Br.mk<;>intro)
   ·rename_i hy
    have hy:0<z.2:=Nat.pos_of_ne_zero fun e=>by rw[e,aX] at hy;exact absurd hy (by decide)
    refine Need.mk ⟨yG z2,yG z3,fun e=>by rw[gM (by decide)] at e;omega⟩ ?_
    rw[v9,v9,Int.toNat_natCast,Int.toNat_natCast]
    refine ⟨(z.2,z.1%z.2),Nat.mod_lt _ hy,⟨by rw[← z1];show Nat.gcd z.2 (z.1%z.2)= _;rw[Nat.gcd_comm z.1 z.2,Nat.gcd_rec z.2 z.1];exact Nat.gcd_comm _ _,z3,Nat.lt_trans (Nat.mod_lt _ hy) z3⟩,?_⟩
    (repeat' first|exact trivial|rfl|apply And.intro)
   ·rename_i hy
    have hy:z.2=0:=(gM (B:=B9) (by decide)).1 (List.eq_nil_of_length_eq_zero (by omega))
    rw[hy,Nat.gcd_zero_right] at z1
    rw[← z1]
    refine Need.mk (dF (Nat.lt_of_lt_of_le z2 (Nat.pow_le_pow_right (by decide) (by omega)))) ?_
    rw[v9]
    (conv=>whnf)
    (repeat' first|exact trivial|rfl|apply And.intro)
def c89:Con:=aJ 144 true fun args K=>match args with | [.str a,.str b]=>K (.tup [S (bG a b (resI (Int.gcd (valI a) (valI b)))).1,I (bG a b (resI (Int.gcd (valI a) (valI b)))).2]) | _=>False
theorem k89:aG Tryz.prog c89:=by
 refine kO Tryz.func144 fun args K h=>?_
 simp only[c89] at h;split at h
 ·rename_i a b;exact ⟨_,h,triB Tryz.func144 Tryz.ntmps144 (by simp[k94,k95,k61,k98,k106,k96g]) (b89 a b)⟩
 ·exact h.elim
end RB
end
section
namespace IB
open Go.Lib
def lead:List UInt8→Nat
 | []=>0
 | c::r=>if 48≤c.toNat∧c.toNat≤57 then lead r+1 else 0
theorem aC8:∀s,lead s≤s.length
 | []=>Nat.le_refl _
 | c::r=>by
  unfold lead
  split
  ·have:=aC8 r;simp only[List.length_cons];omega
  ·omega
theorem xY:∀s:List UInt8,∀c∈s.take (lead s),aR c
 | [],c,h=>by simp at h
 | x::r,c,h=>by
  unfold lead at h
  split at h
  ·rename_i hx
   rw[List.take_succ_cons] at h
   rcases List.mem_cons.1 h with rfl | h
   ·exact hx
   ·exact xY r c h
  ·simp at h
theorem rN:∀(s:List UInt8) (n:Nat),n≤s.length→(∀i,i<n→aR (s.getD i 0))→(n=s.length∨¬aR (s.getD n 0))→lead s=n
 | [],n,h1,_,_=>by simp at h1;subst h1;rfl
 | c::r,0,_,_,h3=>by
  rcases h3 with h3 | h3
  ·simp at h3
  ·unfold lead
   rw[if_neg]
   exact h3
 | c::r,n+1,h1,h2,h3=>by
  have hc:48≤c.toNat∧c.toNat≤57:=h2 0 (by omega)
  unfold lead
  rw[if_pos hc,rN r n (by simpa using h1) (fun i hi=>h2 (i+1) (by omega)) (by
   rcases h3 with h3 | h3
   ·exact .inl (by simpa using h3)
   ·exact .inr h3)]
theorem aMg {s:List UInt8}:lead s=s.length↔∀c∈s,aR c:=by
 constructor
 ·intro h c hc
  have:=xY s c
  rw[h,List.take_length] at this
  exact this hc
 ·intro h
  exact rN s s.length (Nat.le_refl _) (fun i hi=>by
   rw[List.getD_eq_getElem?_getD,List.getElem?_eq_getElem hi]
   exact h _ (List.getElem_mem hi)) (.inl rfl)
def dgsN (s:List UInt8):Nat:=if 1<lead s∧s.headD 0=48 then 0 else lead s
def okD (s:List UInt8):Prop:=dgsN s≠0∧s.length≤dgsN s
theorem fX (s:List UInt8):okD s↔s≠ []∧(∀c∈s,aR c)∧(s.length=1∨s.headD 0≠48):=by
 have hl:=aC8 s
 unfold okD dgsN
 rw[← aMg]
 by_cases h:1<lead s∧s.headD 0=48
 ·rw[if_pos h]
  refine ⟨fun hx=>absurd rfl hx.1,?_⟩
  rintro ⟨_,h2,h3⟩
  rcases h3 with h3 | h3
  ·omega
  ·exact absurd h.2 h3
 ·rw[if_neg h]
  constructor
  ·rintro ⟨h1,h2⟩
   have e:lead s=s.length:=by omega
   refine ⟨fun hx=>by rw[hx] at h1;exact h1 rfl,e,?_⟩
   by_cases h48:s.headD 0=48
   ·left
    have:¬1<lead s:=fun hx=>h ⟨hx,h48⟩
    omega
   ·exact .inr h48
  ·rintro ⟨h1,h2,h3⟩
   have:=List.length_pos_iff.2 h1
   exact ⟨by omega,by omega⟩
theorem aI4 {s:List UInt8} (h1:s.length=1) (h:s.headD 0=48):s= [48]:=by
 cases s with
 | nil=>simp at h1
 | cons c r=>
  have:r= []:=by simpa using h1
  subst this
  simp at h;rw[h]
theorem aFl (t:List UInt8):form t↔okD (digs t)∧¬(t.headD 0=45∧digs t= [48]):=by
 rw[fX]
 unfold form
 constructor
 ·rintro ⟨h1,h2,h3⟩
  refine ⟨⟨h1,h3,?_⟩,?_⟩
  ·rcases h2 with h2 | h2
   ·exact .inr h2
   ·left;rw[h2];rfl
  ·rintro ⟨q1,q2⟩
   rcases h2 with h2 | h2
   ·rw[q2] at h2;exact h2 rfl
   ·rw[h2] at q1;simp at q1
 ·rintro ⟨⟨h1,h2,h3⟩,h4⟩
  refine ⟨h1,?_,h2⟩
  by_cases h48:(digs t).headD 0=48
  ·right
   rcases h3 with h3 | h3
   ·have e:=aI4 h3 h48
    have hn:¬t.headD 0=45:=fun q=>h4 ⟨q,e⟩
    unfold digs at e
    rw[if_neg hn] at e
    exact e
   ·exact absurd h48 h3
  ·exact .inl h48
theorem aI5 (d:List UInt8):(d=decDigits (aC d)∧2≤aC d)↔okD d∧¬d= [48]∧¬d= [49]:=by
 rw[fX]
 constructor
 ·rintro ⟨h1,h2⟩
  have hd:∀c∈d,aR c:=fun c hc=>by rw[h1] at hc;exact eZ _ _ hc
  have hne:d≠ []:=fun e=>by rw[e] at h2;exact absurd h2 (by decide)
  refine ⟨⟨hne,hd,?_⟩,fun e=>by rw[e] at h2;exact absurd h2 (by decide),fun e=>by rw[e] at h2;exact absurd h2 (by decide)⟩
  right
  rw[h1]
  exact nP _ (by omega)
 ·rintro ⟨⟨h1,h2,h3⟩,h4,h5⟩
  have e:=kU d.length d rfl h1 h2 h3
  refine ⟨e.symm,?_⟩
  apply Classical.byContradiction
  intro hn
  have:aC d=0∨aC d=1:=by omega
  rcases this with h | h
  ·rw[h,cI (by omega)] at e;exact h4 e.symm
  ·rw[h,cI (by omega)] at e;exact h5 e.symm
theorem kB:∀s:List UInt8,Go.Lib.indexByte s 47=if botS s= [] then -1 else ((topS s).length:Int)
 | []=>rfl
 | c::r=>by
  have ih:=kB r
  by_cases h:c=47
  ·subst h
   simp[Go.Lib.indexByte,botS,topS]
  ·have e1:botS (c::r)=botS r:=by simp[botS,h]
   have e2:topS (c::r)=c::topS r:=by simp[topS,h]
   rw[e1,e2]
   simp only[Go.Lib.indexByte]
   rw[ih]
   by_cases hb:botS r= []
   ·simp[hb,h]
   ·simp[hb,h]
theorem rO (s:List UInt8):topS s++botS s=s:=List.takeWhile_append_dropWhile
theorem aMh (s:List UInt8):s.take (topS s).length=topS s:=by
 have:=List.take_left (l₁:=topS s) (l₂:=botS s)
 rwa [rO] at this
theorem aMi (s:List UInt8):s.drop (topS s).length=botS s:=by
 have:=List.drop_left (l₁:=topS s) (l₂:=botS s)
 rwa [rO] at this
end IB
end
section
open Go Go.Proofs Go.Eng Go.Shelf IB Go.Lib Go.RowKit
namespace RB
theorem b105 (a b:Int) (h:(0≤a∧a≤4000000000000000000)∧(0≤b∧b≤4000000000000000000)):body Tryz.prog [] { asks:=[(0,[])] } true Tryz.f173 [I a,I b] (I (Int.gcd a b)):=by
 obtain ⟨ha,hb⟩:=h
 refine Ask.mk ⟨{ X:=Int × Int,pre:=fun z=>Int.gcd z.1 z.2=Int.gcd a b∧(0≤z.1∧z.1≤4000000000000000000)∧(0≤z.2∧z.2≤4000000000000000000),mod:=fun z _=>[(0,I z.1),(1,I z.2)],heap:=fun _ _=>[],mu:=fun z=>z.2.natAbs },rfl,?_⟩
 (repeat'((conv=>whnf);first|refine Zn ?_|fail))
 refine ⟨⟨(a,b),⟨rfl,ha,hb⟩,by (repeat' first|exact trivial|rfl|apply And.intro)⟩,fun (z:Int × Int) hz=>?_⟩
 obtain ⟨z1,z2,z3⟩:=hz
 (apply Br.mk<;>intro)
 ·rename_i hy
  have hm:(z.1.tmod z.2).natAbs<z.2.natAbs:=by rw[Int.natAbs_tmod];exact Nat.mod_lt _ (by omega)
  have hm0:0≤z.1.tmod z.2:=Int.tmod_nonneg _ z2.1
  (repeat'((conv=>whnf);first|refine Za ?_|(apply Pin.mk;apply Exists.intro)|apply Pinned.mk rfl rfl|fail))
  (conv=>whnf)
  refine ⟨(z.2,z.1.tmod z.2),hm,⟨by rw[← z1];exact rQ _ _,z3,hm0,by show z.1.tmod z.2≤ _;omega⟩,?_⟩
  (repeat' first|exact trivial|rfl|apply And.intro)
  exact (Int.tmod_eq_emod_of_nonneg z2.1).symm
 ·rename_i hy
  have hy:z.2=0:=by omega
  have hg:((Int.gcd a b:Nat):Int)=z.1:=by
   rw[← z1,hy,Int.gcd_zero_right]
   omega
  rw[hg]
  (conv=>whnf)
  (repeat' first|rfl|apply And.intro)
def c105:Con:=aJ 173 true fun args K=>match args with | [.val (.int .i64 a),.val (.int .i64 b)]=>Need ((0≤a∧a≤4000000000000000000)∧(0≤b∧b≤4000000000000000000)) (K (I (Int.gcd a b))) | _=>False
theorem k105:aG Tryz.prog c105:=by
 refine kO Tryz.func173 fun args K h=>?_
 simp only[c105] at h;split at h
 ·rename_i a b;exact ⟨_,h.go,triB Tryz.func173 Tryz.ntmps173 (by simp) (b105 a b h.ok)⟩
 ·exact h.elim
theorem aOt {P:Program} {fr:Bool} {f:FuncId} {s:List UInt8} {r:List SV} {x:SV} (h:s.length≤140737488355328→Tri P fr f (.str s::r) x):Tri P fr f (.str s::r) x:=by
 intro ok w vs hg hok hr
 cases hr with
 | cons _ v1 _ vs1 h1 hr=>
 cases h1 with
 | str _ hl=>exact h hl ok w _ hg hok (.cons _ _ _ _ (.str _ hl) hr)
theorem aJb (s:List UInt8): -1≤Lib.indexByte s 47∧Lib.indexByte s 47≤s.length:=by
 rw[kB]
 split
 ·omega
 ·have:=congrArg List.length (rO s)
  rw[List.length_append] at this
  omega
theorem t170 (s:List UInt8):Tri Tryz.prog true 261 [S s,S [47]] (I (Lib.indexByte s 47)):=by
 intro ok w vs hg hok hr
 cases hr with
 | cons _ v1 _ vs1 h1 hr=>
 cases h1 with
 | str _ hl=>
 obtain ⟨rfl,_⟩:=rU hr
 have hl':s.length≤140737488355328:=hl
 have hb:=aJb s
 refine (Any.stringslite_Index_one RL.lX ⟨s.toArray⟩ 47 w).mono ?_
 rintro e w' ⟨rfl,rfl⟩
 have hw:WV (.int .i64 (Lib.indexByte s 47)):=by constructor<;>simp only[lo,hi]<;>omega
 exact ⟨_,rfl,Below.refl _ _,.val _ hw⟩
def c170:Con:=aJ 261 true fun args K=>match args with | [.str s,.str p]=>Need (p= [47]) (K (I (Lib.indexByte s 47))) | _=>False
theorem k170:aG Tryz.prog c170:=by
 refine kO Tryz.func261 fun args K h=>?_
 simp only[c170] at h;split at h
 ·obtain ⟨rfl,h⟩:=h
  exact ⟨_,h,t170 _⟩
 ·exact h.elim
theorem b154 (s:List UInt8) (hl:s.length≤140737488355328):body Tryz.prog [c170] {} true Tryz.f238 [S s,S [47]] (.tup [S (topS s),S (botS s).tail,.bl (botS s≠ []) inferInstance]):=by
 have hb:=aJb s
 have hi:=kB s
 have htb:=congrArg List.length (rO s)
 rw[List.length_append] at htb
 (repeat'((conv=>whnf);first|refine Zn ?_|fail))
 (apply Br.mk<;>intro)
 ·rename_i h
  by_cases hbn:botS s= []
  ·rw[if_pos hbn] at hi;omega
  ·rw[if_neg hbn] at hi
   have hpos:=List.length_pos_iff.2 hbn
   rw[hi]
   (repeat'((conv=>whnf);first|refine Zg fun _=>?_|refine Zn ?_|refine Zj ?_|(apply Pin.mk;apply Exists.intro)|apply Pinned.mk rfl rfl|fail))
   (conv=>whnf)
   (repeat' first|exact trivial|apply And.intro)
   ·exact aMh s
   ·show s.drop ((topS s).length+1)=(botS s).tail
    rw[← List.drop_drop,aMi,List.drop_one]
   ·exact hbn
 ·rename_i h
  have hbn:botS s= []:=by
   refine Classical.byContradiction fun hx=>?_
   rw[if_neg hx] at hi;omega
  have ht:topS s=s:=by have:=rO s;rw[hbn,List.append_nil] at this;exact this
  (conv=>whnf)
  (repeat' first|exact trivial|apply And.intro)
  ·exact ht.symm
  ·show ([]:List UInt8)= _
   rw[hbn];rfl
  ·exact fun hx=>hx hbn
def c154:Con:=aJ 238 true fun args K=>match args with | [.str s,.str p]=>Need (p= [47]) (K (.tup [S (topS s),S (botS s).tail,.bl (botS s≠ []) inferInstance])) | _=>False
theorem k154:aG Tryz.prog c154:=by
 refine kO Tryz.func238 fun args K h=>?_
 simp only[c154] at h;split at h
 ·obtain ⟨rfl,h⟩:=h
  exact ⟨_,h,aOt fun hl=>triB Tryz.func238 Tryz.ntmps238 (by simp[k170]) (b154 _ hl)⟩
 ·exact h.elim
theorem b122 (s:List UInt8):body Tryz.prog [c154] {} true Tryz.f212 [S s,S [47]] (.tup [S (topS s),S (botS s).tail,.bl (botS s≠ []) inferInstance]):=by
 (repeat'((conv=>whnf);first|refine Zn ?_|fail))
 (conv=>whnf)
 (repeat' first|exact trivial|rfl|apply And.intro)
def c122:Con:=aJ 212 true fun args K=>match args with | [.str s,.str p]=>Need (p= [47]) (K (.tup [S (topS s),S (botS s).tail,.bl (botS s≠ []) inferInstance])) | _=>False
theorem k122:aG Tryz.prog c122:=by
 refine kO Tryz.func212 fun args K h=>?_
 simp only[c122] at h;split at h
 ·obtain ⟨rfl,h⟩:=h
  exact ⟨_,h,triB Tryz.func212 Tryz.ntmps212 (by simp[k154]) (b122 _)⟩
 ·exact h.elim
theorem yH (s:List UInt8) (i:Nat):(48≤aH s i∧aH s i≤57)↔aR (s.getD i 0):=by
 unfold aH aR;omega
theorem sW (s:List UInt8):aH s 0=48↔s.headD 0=48:=by
 unfold aH
 have e:s.getD 0 0=s.headD 0:=by cases s<;>rfl
 rw[e]
 constructor
 ·intro h
  have:(s.headD 0).toNat=(48:UInt8).toNat:=by show _=48;omega
  exact UInt8.toNat.inj this
 ·intro h;rw[h];rfl
theorem b124 (s:List UInt8):body Tryz.prog [] { asks:=[(0,[])] } true Tryz.f213 [S s] (I (dgsN s)):=by
 refine Ask.mk ⟨{ X:=Nat,pre:=fun n=>n≤s.length∧∀i,i<n→aR (s.getD i 0),mod:=fun n _=>[(3,I n)],heap:=fun _ _=>[],mu:=fun n=>s.length-n },rfl,?_⟩
 (repeat'((conv=>whnf);first|refine Zn ?_|fail))
 refine ⟨⟨(0:Nat),⟨Nat.zero_le _,fun i hi=>absurd hi (Nat.not_lt_zero _)⟩,by (repeat' first|exact trivial|rfl|apply And.intro)⟩,fun (n:Nat) hn=>?_⟩
 obtain ⟨n1,n2⟩:=hn
 have hb:=yH s n
 have h0:=sW s
 by_cases hc:n<s.length∧48≤aH s n∧aH s n≤57
 ·(repeat'((conv=>whnf);first|refine Zg fun _=>?_|refine Zn ?_|refine Zj ?_|refine Zy ?_|fail))
  all_goals first | (exfalso;omega) | skip
  refine ⟨(n+1:Nat),by show s.length-(n+1)<s.length-n;omega,⟨by omega,fun i hi=>?_⟩,by (repeat' first|exact trivial|rfl|apply And.intro)⟩
  by_cases e:i=n
  ·subst e;exact hb.1 hc.2
  ·exact n2 i (by omega)
 ·have hl:lead s=n:=rN s n n1 n2 (by
   by_cases e:n=s.length
   ·exact .inl e
   ·right
    rw[← hb];intro hx;exact hc ⟨by omega,hx⟩)
  have hd:(dgsN s:Int)=if 1<n∧aH s 0=48 then 0 else (n:Int):=by
   unfold dgsN
   rw[hl]
   by_cases q:1<n∧aH s 0=48
   ·rw[if_pos q,if_pos ⟨q.1,h0.1 q.2⟩];rfl
   ·rw[if_neg q,if_neg (fun hx=>q ⟨hx.1,h0.2 hx.2⟩)]
  (repeat'((conv=>whnf);first|refine Zg fun _=>?_|refine Zn ?_|refine Z0 ?_|refine Zj ?_|refine Zm ?_|refine Zr (fun _=>?_) fun _=>?_|fail))
  all_goals first | (exfalso;omega) | skip
  all_goals (skip;(conv=>whnf);(repeat' first|rfl|apply And.intro))
  all_goals (rw[hd];first | rw[if_pos (by omega)] | rw[if_neg (by omega)])
def c124:Con:=aJ 213 true fun args K=>match args with | [.str s]=>K (I (dgsN s)) | _=>False
theorem k124:aG Tryz.prog c124:=by
 refine kO Tryz.func213 fun args K h=>?_
 simp only[c124] at h;split at h
 ·rename_i s;exact ⟨_,h,triB Tryz.func213 Tryz.ntmps213 (by simp) (b124 s)⟩
 ·exact h.elim
theorem itoa_zero:itoa 0= [48]:=by
 unfold itoa
 rw[if_neg (by omega)]
 exact cI (show 0<10 by omega)
theorem b92 (x:Int) (hlx:(itoa x).length≤1000):body Tryz.prog [c123] {} true Tryz.f143 [S (itoa x)] (S (itoa (-x))):=by
 (apply Br.mk<;>intro)
 ·rename_i h
  have hx:x=0:=jL (by rw[itoa_zero];exact h)
  subst hx
  (conv=>whnf)
  (repeat' first|rfl)
 ·rename_i h
  have hx:x≠0:=fun e=>h (by rw[e,itoa_zero])
  have hh:=gN x
  have hd:=bO x
  (repeat'((conv=>whnf);first|refine Zn ?_|fail))
  (apply Br.mk<;>intro)
  ·rename_i hn
   have hn:=hh.1 hn
   have e:itoa (-x)=digs (itoa x):=by
    rw[hd]
    unfold itoa
    rw[if_neg (by omega)]
    congr 1;omega
   rw[e]
   (conv=>whnf)
  ·rename_i hn
   have hn:¬x<0:=fun e=>hn (hh.2 e)
   have e:itoa (-x)=45::itoa x:=by
    unfold itoa
    rw[if_pos (by omega),if_neg (by omega)]
    congr 2;omega
   rw[e]
   (repeat'((conv=>whnf);first|refine Zn ?_|fail))
   (conv=>whnf)
   (repeat' first|rfl)
def c92:Con:=aJ 143 true fun args K=>match args with | [.str s]=>Need (form s∧s.length≤1000) (K (S (itoa (-valI s)))) | _=>False
theorem k92:aG Tryz.prog c92:=by
 refine kO Tryz.func143 fun args K h=>?_
 simp only[c92] at h;split at h
 ·rename_i s
  obtain ⟨⟨h1,h2⟩,h⟩:=h
  refine ⟨_,h,?_⟩
  have e:=oJ h1
  have:=triB Tryz.func143 Tryz.ntmps143 (by simp[k123]) (b92 (valI s) (by rw[← e];exact h2))
  rwa [← e] at this
 ·exact h.elim
def bot1 (s:List UInt8):List UInt8:=if botS s= [] then [49] else (botS s).tail
theorem uI (s:List UInt8):iI s↔(((dgsN (digs (topS s)):Int)≠0∧((digs (topS s)).length:Int)≤dgsN (digs (topS s)))∧¬((topS s).headD 0=45∧digs (topS s)= [48]))∧
  (botS s= []∨(((dgsN (botS s).tail:Int)≠0∧((botS s).tail.length:Int)≤dgsN (botS s).tail)∧¬(botS s).tail= [48]∧¬(botS s).tail= [49])):=by
 unfold iI
 rw[aFl]
 have e:∀d:List UInt8,okD d↔((dgsN d:Int)≠0∧(d.length:Int)≤dgsN d):=fun d=>by unfold okD;omega
 rw[e]
 refine and_congr Iff.rfl ?_
 by_cases hb:botS s= []
 ·simp[hb]
 ·have hd:denS s=aC (botS s).tail:=by unfold denS;rw[if_neg hb]
  rw[hd,aI5,e]
theorem b87y (s:List UInt8) (hf:iI s):body Tryz.prog [c122,c123,c124] {} true Tryz.f175 [S s] (.tup [.agg [S (topS s),S (bot1 s)],.val (.bool true)]):=by
 have hF:=(uI s).1 hf
 obtain ⟨⟨⟨f1,f2⟩,f3⟩,f4⟩:=hF
 unfold bot1
 (repeat'((conv=>whnf);first|refine Zg fun _=>?_|refine Zn ?_|refine Zm ?_|refine Zr (fun _=>?_) fun _=>?_|fail))
 all_goals first | (exfalso;omega) | skip
 all_goals first
  | (exfalso;simp_all;done)
  | (exfalso;simp_all;omega)
  | (skip;(conv=>whnf);(repeat' first|exact trivial|rfl|apply And.intro);simp_all;exact @rfl (List UInt8) _)
theorem b87n (s:List UInt8) (hf:¬iI s):body Tryz.prog [c122,c123,c124] {} true Tryz.f175 [S s] (.tup [.agg [S [],S []],.val (.bool false)]):=by
 have hF:=fun h=>hf ((uI s).2 h)
 (repeat'((conv=>whnf);first|refine Zg fun _=>?_|refine Zn ?_|refine Zr (fun _=>?_) fun _=>?_|fail))
 all_goals first
  | (exfalso;simp_all;done)
  | (exfalso;simp_all;omega)
  | (skip;(conv=>whnf);(repeat' first|exact trivial|rfl|apply And.intro);done)
  | (exfalso;refine hF ⟨⟨⟨by omega,by omega⟩,?_⟩,?_⟩
     ·first | exact fun hx=>absurd hx.2 (by assumption) | exact fun hx=>absurd hx.1 (by assumption)
     ·first | exact .inl (Classical.not_not.1 (by assumption)) | exact .inr ⟨⟨by omega,by omega⟩,by assumption,by assumption⟩)
def c87:Con:=aJ 175 true fun args K=>match args with
 | [.str s]=>Br (iI s) (K (.tup [.agg [S (topS s),S (bot1 s)],.val (.bool true)])) (K (.tup [.agg [S [],S []],.val (.bool false)]))
 | _=>False
theorem k87:aG Tryz.prog c87:=by
 refine kO Tryz.func175 fun args K h=>?_
 simp only[c87] at h;split at h
 ·rename_i s
  by_cases hf:iI s
  ·exact ⟨_,h.yes hf,triB Tryz.func175 Tryz.ntmps175 (by simp[k122,k123,k124]) (b87y s hf)⟩
  ·exact ⟨_,h.no hf,triB Tryz.func175 Tryz.ntmps175 (by simp[k122,k123,k124]) (b87n s hf)⟩
 ·exact h.elim
def uJ (s:List UInt8):Prop:=1≤lead s∧lead s≤8∧¬(1<lead s∧s.headD 0=48)
theorem aMr {s:List UInt8} {i:Nat} (hi:i≤s.length) (h:∀j,j<i→aR (s.getD j 0)):∀c∈s.take i,aR c:=by
 intro c hc
 obtain ⟨j,hj,rfl⟩:=List.getElem_of_mem hc
 rw[List.length_take] at hj
 have:=h j (by omega)
 rw[List.getD_eq_getElem?_getD,List.getElem?_eq_getElem (by omega)] at this
 simpa using this
theorem yI {s:List UInt8} {i:Nat} (hi:i<s.length) (hd:aR (s.getD i 0)):(aC (s.take (i+1)):Int)=10*aC (s.take i)+(aH s i-48):=by
 have e:s.take (i+1)=s.take i++ [s.getD i 0]:=by
  rw[List.take_succ_eq_append_getElem hi]
  simp[List.getD_eq_getElem?_getD,hi]
 rw[e,cS]
 unfold aH
 unfold aR at hd
 omega
theorem yJ {s:List UInt8} {i:Nat} (hi:i≤s.length) (h:∀j,j<i→aR (s.getD j 0)) (h9:i≤9):aC (s.take i)<1000000000:=by
 have h1:=bW (s.take i) (aMr hi h)
 have h2:(10:Nat)^ (s.take i).length≤10^9:=Nat.pow_le_pow_right (by omega) (by rw[List.length_take];omega)
 have h3:(10:Nat)^9=1000000000:=by decide
 omega
theorem aC9:∀(s:List UInt8) (n:Nat),n≤s.length→(∀i,i<n→aR (s.getD i 0))→n≤lead s
 | _,0,_,_=>Nat.zero_le _
 | [],n+1,h,_=>by simp at h
 | c::r,n+1,h1,h2=>by
  have hc:48≤c.toNat∧c.toNat≤57:=h2 0 (by omega)
  unfold lead
  rw[if_pos hc]
  have:=aC9 r n (by simpa using h1) (fun i hi=>h2 (i+1) (by omega))
  omega
theorem b104y (s:List UInt8) (h:uJ s):body Tryz.prog [] { asks:=[(0,[])] } true Tryz.f172 [S s] (.tup [I (aC (s.take (lead s))),S (s.drop (lead s)),.val (.bool true)]):=by
 obtain ⟨o1,o2,o3⟩:=h
 rw[← sW] at o3
 refine Ask.mk ⟨{ X:=Nat,pre:=fun n=>n≤9∧n≤s.length∧∀i,i<n→aR (s.getD i 0),mod:=fun n _=>[(5,I (aC (s.take n))),(6,I n)],heap:=fun _ _=>[],mu:=fun n=>s.length-n },rfl,?_⟩
 (repeat'((conv=>whnf);first|refine Zn ?_|fail))
 refine ⟨⟨(0:Nat),⟨by omega,Nat.zero_le _,fun i hi=>absurd hi (Nat.not_lt_zero _)⟩,by (repeat' first|exact trivial|rfl|apply And.intro)⟩,fun (n:Nat) hn=>?_⟩
 obtain ⟨n9,n1,n2⟩:=hn
 have hb:=yH s n
 have hv:=yJ n1 n2 n9
 have hge:=aC9 s n n1 n2
 by_cases hc:n<s.length∧48≤aH s n∧aH s n≤57
 ·have hs:=yI hc.1 (hb.1 hc.2)
  (repeat'((conv=>whnf);first|refine Zg fun _=>?_|refine Zn ?_|refine Zj ?_|refine Zy ?_|fail))
  all_goals first | (exfalso;omega) | skip
  all_goals (skip;(conv=>whnf);refine ⟨(n+1:Nat),by show s.length-(n+1)<s.length-n;omega,⟨by omega,by omega,fun i hi=>by
     by_cases e:i=n
     ·subst e;exact hb.1 hc.2
     ·exact n2 i (by omega)⟩,?_⟩;(repeat' first|exact trivial|rfl|apply And.intro|omega);done)
 ·have hl:lead s=n:=rN s n n1 n2 (by
   by_cases e:n=s.length
   ·exact .inl e
   ·right
    rw[← hb];intro hx;exact hc ⟨by omega,hx⟩)
  have hr:(.tup [I (aC (s.take (lead s))),S (s.drop (lead s)),.val (.bool true)]:SV)= .tup [I (aC (s.take n)),S (s.drop n),.val (.bool true)]:=by rw[hl]
  rw[hr]
  rw[hl] at o1 o2 o3
  (repeat'((conv=>whnf);first|refine Zg fun _=>?_|refine Zn ?_|refine Z0 ?_|refine Zj ?_|(apply Pin.mk;apply Exists.intro)|apply Pinned.mk rfl rfl|refine Zy ?_|refine Zm ?_|refine Zr (fun _=>?_) fun _=>?_|fail))
  all_goals first | (exfalso;omega) | skip
  all_goals (skip;(conv=>whnf);(repeat' first|exact trivial|rfl|apply And.intro))
theorem b104n (s:List UInt8) (h:¬uJ s):body Tryz.prog [] { asks:=[(0,[])] } true Tryz.f172 [S s] (.tup [I 0,S [],.val (.bool false)]):=by
 have h:¬(1≤lead s∧lead s≤8∧¬(1<lead s∧aH s 0=48)):=by rw[sW];exact h
 refine Ask.mk ⟨{ X:=Nat,pre:=fun n=>n≤9∧n≤s.length∧∀i,i<n→aR (s.getD i 0),mod:=fun n _=>[(5,I (aC (s.take n))),(6,I n)],heap:=fun _ _=>[],mu:=fun n=>s.length-n },rfl,?_⟩
 (repeat'((conv=>whnf);first|refine Zn ?_|fail))
 refine ⟨⟨(0:Nat),⟨by omega,Nat.zero_le _,fun i hi=>absurd hi (Nat.not_lt_zero _)⟩,by (repeat' first|exact trivial|rfl|apply And.intro)⟩,fun (n:Nat) hn=>?_⟩
 obtain ⟨n9,n1,n2⟩:=hn
 have hb:=yH s n
 have hv:=yJ n1 n2 n9
 have hge:=aC9 s n n1 n2
 by_cases hc:n<s.length∧48≤aH s n∧aH s n≤57
 ·have hs:=yI hc.1 (hb.1 hc.2)
  (repeat'((conv=>whnf);first|refine Zg fun _=>?_|refine Zn ?_|refine Zj ?_|refine Zy ?_|refine Zm ?_|refine Zr (fun _=>?_) fun _=>?_|fail))
  all_goals first | (exfalso;omega) | skip
  all_goals first | (skip;(conv=>whnf);refine ⟨(n+1:Nat),by show s.length-(n+1)<s.length-n;omega,⟨by omega,by omega,fun i hi=>by
     by_cases e:i=n
     ·subst e;exact hb.1 hc.2
     ·exact n2 i (by omega)⟩,?_⟩;(repeat' first|exact trivial|rfl|apply And.intro|omega);done) | (skip;(conv=>whnf);(repeat' first|exact trivial|rfl|apply And.intro);done)
 ·have hl:lead s=n:=rN s n n1 n2 (by
   by_cases e:n=s.length
   ·exact .inl e
   ·right
    rw[← hb];intro hx;exact hc ⟨by omega,hx⟩)
  rw[hl] at h
  (repeat'((conv=>whnf);first|refine Zg fun _=>?_|refine Zn ?_|refine Z0 ?_|refine Zj ?_|refine Zy ?_|refine Zm ?_|refine Zr (fun _=>?_) fun _=>?_|fail))
  all_goals first | (exfalso;omega) | skip
  all_goals (skip;(conv=>whnf);(repeat' first|exact trivial|rfl|apply And.intro))
theorem iX {s:List UInt8} (h:uJ s):s.take (lead s)=decDigits (aC (s.take (lead s)))∧aC (s.take (lead s))<100000000:=by
 obtain ⟨h1,h2,h3⟩:=h
 have hl:=aC8 s
 have hd:=xY s
 have hlen:(s.take (lead s)).length=lead s:=by rw[List.length_take];omega
 have hh:(s.take (lead s)).headD 0=s.headD 0:=by
  cases s with
  | nil=>rfl
  | cons c r=>
   obtain ⟨k,hk⟩:∃k,lead (c::r)=k+1:=⟨lead (c::r)-1,by omega⟩
   rw[hk];rfl
 refine ⟨(kU _ _ rfl (fun e=>by rw[e] at hlen;simp at hlen;omega) hd ?_).symm,?_⟩
 ·rw[hlen,hh]
  by_cases h48:s.headD 0=48
  ·left
   have:¬1<lead s:=fun hx=>h3 ⟨hx,h48⟩
   omega
  ·exact .inr h48
 ·have h1:=bW (s.take (lead s)) hd
  have h2:(10:Nat)^ (s.take (lead s)).length≤10^8:=Nat.pow_le_pow_right (by omega) (by rw[hlen];omega)
  have h3:(10:Nat)^8=100000000:=by decide
  omega
def c104:Con:=aJ 172 true fun args K=>match args with
 | [.str s]=>Br (uJ s) (Giv (aC (s.take (lead s))<100000000) (K (.tup [I (aC (s.take (lead s))),S (s.drop (lead s)),.val (.bool true)]))) (K (.tup [I 0,S [],.val (.bool false)]))
 | _=>False
theorem k104:aG Tryz.prog c104:=by
 refine kO Tryz.func172 fun args K h=>?_
 simp only[c104] at h;split at h
 ·rename_i s
  by_cases hf:uJ s
  ·exact ⟨_,(h.yes hf).go (iX hf).2,triB Tryz.func172 Tryz.ntmps172 (by simp) (b104y s hf)⟩
  ·exact ⟨_,h.no hf,triB Tryz.func172 Tryz.ntmps172 (by simp) (b104n s hf)⟩
 ·exact h.elim
abbrev nvN (s:List UInt8):Nat:=aC ((digs s).take (lead (digs s)))
abbrev nvR (s:List UInt8):List UInt8:=(digs s).drop (lead (digs s))
abbrev nvD (s:List UInt8):Nat:=aC ((nvR s).tail.take (lead (nvR s).tail))
def nvOK (s:List UInt8):Prop:=uJ (digs s)∧¬(s.headD 0=45∧nvN s=0)∧(nvR s= []∨((nvR s).headD 0=47∧uJ (nvR s).tail∧(nvR s).tail.drop (lead (nvR s).tail)= []∧2≤nvD s∧Nat.gcd (nvN s) (nvD s)=1))
theorem aMs (s:List UInt8):s=(if s.headD 0=45 then [45] else [])++digs s:=by
 unfold digs
 by_cases h:s.headD 0=45
 ·rw[if_pos h,if_pos h]
  cases s with
  | nil=>simp at h
  | cons c r=>simp at h;rw[h];rfl
 ·rw[if_neg h,if_neg h];rfl
theorem aMt {p:Prop} [Decidable p] {n:Nat} (h:¬(p∧n=0)):itoa (sgP p n)=(if p then [45] else [])++decDigits n:=by
 unfold itoa sgP
 by_cases hp:p
 ·rw[if_pos hp,if_pos hp]
  have:n≠0:=fun e=>h ⟨hp,e⟩
  rw[if_pos (by omega)]
  show 45:: _=45:: _
  congr 2;omega
 ·rw[if_neg hp,if_neg hp,if_neg (by omega)]
  simp
theorem aQi {s:List UInt8} (h:nvOK s):∃q:Rat,s=numS q∧q.num=sgP (s.headD 0=45) (nvN s)∧(q.den:Int)=(if nvR s= [] then 1 else nvD s:Nat)∧nvN s<100000000∧q.den<100000000:=by
 obtain ⟨h1,h2,h3⟩:=h
 obtain ⟨a1,a2⟩:=iX h1
 have hs:=aMs s
 have ht:digs s=decDigits (nvN s)++nvR s:=by
  rw[← a1];exact (List.take_append_drop _ _).symm
 have hi:=aMt h2
 have hs2:s=itoa (sgP (s.headD 0=45) (nvN s))++nvR s:=by
  rw[hi,List.append_assoc,← ht];exact hs
 rcases h3 with h3 | ⟨b1,b2,b3,b4,b5⟩
 ·refine ⟨⟨sgP (s.headD 0=45) (nvN s),1,by decide,by simp⟩,?_,rfl,by rw[if_pos h3],a2,by show (1:Nat)< _;decide⟩
  unfold numS
  rw[if_pos rfl]
  rw[h3,List.append_nil] at hs2
  exact hs2
 ·have hne:nvR s≠ []:=fun e=>by rw[e] at b1;simp at b1
  obtain ⟨c1,c2⟩:=iX b2
  have hr:nvR s=47::decDigits (nvD s):=by
   cases hq:nvR s with
   | nil=>exact absurd hq hne
   | cons c r=>
    have hc:c=47:=by rw[hq] at b1;simpa using b1
    have ht2:(nvR s).tail=r:=by rw[hq];rfl
    rw[← ht2,hc]
    congr 1
    rw[← c1]
    have:=List.take_append_drop (lead (nvR s).tail) (nvR s).tail
    rw[b3,List.append_nil] at this
    exact this.symm
  refine ⟨⟨sgP (s.headD 0=45) (nvN s),nvD s,by omega,?_⟩,?_,rfl,by rw[if_neg hne],a2,c2⟩
  ·rw[mG];exact b5
  ·unfold numS
   rw[if_neg (by show ¬nvD s=1;omega)]
   show s=itoa _++47::decDigits (nvD s)
   rw[← hr];exact hs2
theorem jM {s:List UInt8} (h:nvOK s):s=numS (valQ s)∧(valQ s).num=sgP (s.headD 0=45) (nvN s)∧((valQ s).den:Int)=(if nvR s= [] then 1 else nvD s:Nat)∧(valQ s).num.natAbs<100000000∧(valQ s).den<100000000:=by
 obtain ⟨q,q1,q2,q3,q4,q5⟩:=aQi h
 have e:valQ s=q:=by rw[q1];exact gO q
 rw[e]
 exact ⟨q1,q2,q3,by rw[q2,mG];exact q4,q5⟩
theorem iY (s:List UInt8) (c:UInt8):aH s 0=c.toNat↔s.headD 0=c:=by
 unfold aH
 have e:s.getD 0 0=s.headD 0:=by cases s<;>rfl
 rw[e]
 constructor
 ·intro h
  exact UInt8.toNat.inj (by omega)
 ·intro h;rw[h]
theorem b68y (s:List UInt8) (h:nvOK s):body Tryz.prog [c104,c105] {} true Tryz.f115 [S s] (.tup [.agg [I (sgP (s.headD 0=45) (nvN s)),I (if nvR s= [] then 1 else nvD s:Nat)],.val (.bool true)]):=by
 obtain ⟨h1,h2,h3⟩:=h
 have hb:aH s 0=45↔s.headD 0=45:=iY s 45
 have hd8:=(iX h1).2
 unfold sgP
 by_cases hn:s.headD 0=45
 ·rw[if_pos hn]
  have hb0:aH s 0=45:=hb.2 hn
  have hs0:¬s= []:=fun e=>by rw[e] at hn;simp at hn
  have hlen:(s.drop 1).length=s.length-1:=List.length_drop
  have hpos:=List.length_pos_iff.2 hs0
  have hdg:digs s=s.drop 1:=by unfold digs;rw[if_pos hn,List.drop_one]
  have hN:nvN s≠0:=fun e=>h2 ⟨hn,e⟩
  simp only[nvN,nvR,nvD,hdg] at*
  rcases h3 with h3 | ⟨d1,d2,d3,d4,d5⟩
  ·skip
   rw[if_pos h3]
   (repeat'((conv=>whnf);first|refine Zg fun _=>?_|refine Zn ?_|refine Z0 ?_|refine Z1 ?_|refine Zy ?_|refine Zm ?_|fail))
   (conv=>whnf)
   (repeat' first|exact trivial|rfl|apply And.intro)
  ·skip
   have hR:¬List.drop (lead (List.drop 1 s)) (List.drop 1 s)= []:=fun e=>by rw[e] at d1;simp at d1
   have hRp:=List.length_pos_iff.2 hR
   have hb47:aH (List.drop (lead (List.drop 1 s)) (List.drop 1 s)) 0=47:=(iY _ 47).2 d1
   rw[← List.drop_one] at d2 d3 d4 d5
   have hg:((Int.gcd ((aC (List.take (lead (List.drop 1 s)) (List.drop 1 s)):Nat):Int) ((aC (List.take (lead (List.drop 1 (List.drop (lead (List.drop 1 s)) (List.drop 1 s)))) (List.drop 1 (List.drop (lead (List.drop 1 s)) (List.drop 1 s)))):Nat):Int):Nat):Int)=1:=by rw[Int.gcd_natCast_natCast,d5];rfl
   have hd9:=(iX d2).2
   rw[if_neg hR,← List.drop_one]
   (repeat'((conv=>whnf);first|refine Zg fun _=>?_|refine Zn ?_|refine Z0 ?_|refine Z1 ?_|refine Zy ?_|refine Zm ?_|fail))
   (conv=>whnf)
   (repeat' first|exact trivial|rfl|apply And.intro)
 ·rw[if_neg hn]
  have hb0:¬aH s 0=45:=fun e=>hn (hb.1 e)
  have hs0:¬s= []:=fun e=>by rw[e] at h1;exact absurd h1.1 (by decide)
  have hpos:=List.length_pos_iff.2 hs0
  have hdg:digs s=s:=by unfold digs;rw[if_neg hn]
  simp only[nvN,nvR,nvD,hdg] at*
  rcases h3 with h3 | ⟨d1,d2,d3,d4,d5⟩
  ·skip
   rw[if_pos h3]
   (repeat'((conv=>whnf);first|refine Zg fun _=>?_|refine Zn ?_|refine Z0 ?_|refine Zy ?_|refine Zm ?_|fail))
   (conv=>whnf)
   (repeat' first|exact trivial|rfl|apply And.intro)
  ·skip
   have hR:¬List.drop (lead s) s= []:=fun e=>by rw[e] at d1;simp at d1
   have hRp:=List.length_pos_iff.2 hR
   have hb47:aH (List.drop (lead s) s) 0=47:=(iY _ 47).2 d1
   rw[← List.drop_one] at d2 d3 d4 d5
   have hg:((Int.gcd ((aC (List.take (lead s) s):Nat):Int) ((aC (List.take (lead (List.drop 1 (List.drop (lead s) s))) (List.drop 1 (List.drop (lead s) s))):Nat):Int):Nat):Int)=1:=by rw[Int.gcd_natCast_natCast,d5];rfl
   have hd9:=(iX d2).2
   rw[if_neg hR,← List.drop_one]
   (repeat'((conv=>whnf);first|refine Zg fun _=>?_|refine Zn ?_|refine Z0 ?_|refine Z1 ?_|refine Zy ?_|refine Zm ?_|fail))
   (conv=>whnf)
   (repeat' first|exact trivial|rfl|apply And.intro)
theorem b68n (s:List UInt8) (h:¬nvOK s):body Tryz.prog [c104,c105] {} true Tryz.f115 [S s] (.tup [.agg [I 0,I 0],.val (.bool false)]):=by
 have hb:aH s 0=45↔s.headD 0=45:=iY s 45
 unfold nvOK at h
 by_cases hn:s.headD 0=45
 ·have hb0:aH s 0=45:=hb.2 hn
  have hs0:¬s= []:=fun e=>by rw[e] at hn;simp at hn
  have hlen:(s.drop 1).length=s.length-1:=List.length_drop
  have hpos:=List.length_pos_iff.2 hs0
  have hdg:digs s=s.drop 1:=by unfold digs;rw[if_pos hn,List.drop_one]
  simp only[nvN,nvR,nvD,hdg,← List.drop_one] at h
  (repeat'((conv=>whnf);first|refine Zg fun _=>?_|refine Zn ?_|refine Z0 ?_|refine Z1 ?_|refine Zy ?_|fail))
  (apply Br.mk<;>intro)
  ·rename_i hk
   (repeat'((conv=>whnf);first|refine Zg fun _=>?_|refine Zy ?_|fail))
   (apply Br.mk<;>intro)
   ·rename_i hN
    (conv=>whnf)
    (repeat' first|exact trivial|rfl|apply And.intro)
   ·rename_i hN
    (apply Br.mk<;>intro)
    ·rename_i hR
     have hRp:=List.length_pos_iff.2 hR
     (repeat'((conv=>whnf);first|refine Zg fun _=>?_|refine Zn ?_|refine Z0 ?_|fail))
     (apply Br.mk<;>intro)
     ·rename_i hc
      (conv=>whnf)
      (repeat' first|exact trivial|rfl|apply And.intro)
     ·rename_i hc
      have hc:=(iY _ 47).1 (Classical.not_not.1 hc)
      (repeat'((conv=>whnf);first|refine Zn ?_|refine Z1 ?_|fail))
      (apply Br.mk<;>intro)
      ·rename_i hk2
       (repeat'((conv=>whnf);first|refine Zg fun _=>?_|fail))
       (apply Br.mk<;>intro)
       ·rename_i he
        (conv=>whnf)
        (repeat' first|exact trivial|rfl|apply And.intro)
       ·rename_i he
        have he:=Classical.not_not.1 he
        (apply Br.mk<;>intro)
        ·rename_i h2d
         (conv=>whnf)
         (repeat' first|exact trivial|rfl|apply And.intro)
        ·rename_i h2d
         (repeat'((conv=>whnf);first|refine Zn ?_|fail))
         (apply Br.mk<;>intro)
         ·rename_i hg
          (conv=>whnf)
          (repeat' first|exact trivial|rfl|apply And.intro)
         ·rename_i hg
          exfalso
          have hg:=Classical.not_not.1 hg
          rw[Int.gcd_natCast_natCast] at hg
          exact h ⟨hk,(fun hx=>hN (by omega)),.inr ⟨hc,hk2,he,by omega,by omega⟩⟩
      ·rename_i hk2
       (conv=>whnf)
       (repeat' first|exact trivial|rfl|apply And.intro)
    ·rename_i hR
     exfalso
     exact h ⟨hk,(fun hx=>hN (by omega)),.inl (Classical.not_not.1 hR)⟩
  ·rename_i hk
   (conv=>whnf)
   (repeat' first|exact trivial|rfl|apply And.intro)
 ·have hb0:¬aH s 0=45:=fun e=>hn (hb.1 e)
  have hdg:digs s=s:=by unfold digs;rw[if_neg hn]
  simp only[nvN,nvR,nvD,hdg,← List.drop_one] at h
  by_cases hs0:s= []
  ·subst hs0
   have hk:¬uJ []:=fun h=>absurd h.1 (by decide)
   (repeat'((conv=>whnf);first|refine Zm ?_|fail))
   (conv=>whnf)
   (repeat' first|exact trivial|rfl|apply And.intro)
  ·have hpos:=List.length_pos_iff.2 hs0
   (repeat'((conv=>whnf);first|refine Zg fun _=>?_|refine Zn ?_|refine Z0 ?_|refine Zy ?_|refine Zm ?_|fail))
   (apply Br.mk<;>intro)
   ·rename_i hk
    (repeat'((conv=>whnf);first|refine Zg fun _=>?_|refine Zm ?_|fail))
    (apply Br.mk<;>intro)
    ·rename_i hR
     have hRp:=List.length_pos_iff.2 hR
     (repeat'((conv=>whnf);first|refine Zg fun _=>?_|refine Zn ?_|refine Z0 ?_|fail))
     (apply Br.mk<;>intro)
     ·rename_i hc
      (conv=>whnf)
      (repeat' first|exact trivial|rfl|apply And.intro)
     ·rename_i hc
      have hc:=(iY _ 47).1 (Classical.not_not.1 hc)
      (repeat'((conv=>whnf);first|refine Zn ?_|refine Z1 ?_|fail))
      (apply Br.mk<;>intro)
      ·rename_i hk2
       (repeat'((conv=>whnf);first|refine Zg fun _=>?_|fail))
       (apply Br.mk<;>intro)
       ·rename_i he
        (conv=>whnf)
        (repeat' first|exact trivial|rfl|apply And.intro)
       ·rename_i he
        have he:=Classical.not_not.1 he
        (apply Br.mk<;>intro)
        ·rename_i h2d
         (conv=>whnf)
         (repeat' first|exact trivial|rfl|apply And.intro)
        ·rename_i h2d
         (repeat'((conv=>whnf);first|refine Zn ?_|fail))
         (apply Br.mk<;>intro)
         ·rename_i hg
          (conv=>whnf)
          (repeat' first|exact trivial|rfl|apply And.intro)
         ·rename_i hg
          exfalso
          have hg:=Classical.not_not.1 hg
          rw[Int.gcd_natCast_natCast] at hg
          exact h ⟨hk,(fun hx=>hn hx.1),.inr ⟨hc,hk2,he,by omega,by omega⟩⟩
      ·rename_i hk2
       (conv=>whnf)
       (repeat' first|exact trivial|rfl|apply And.intro)
    ·rename_i hR
     exfalso
     exact h ⟨hk,(fun hx=>hn hx.1),.inl (Classical.not_not.1 hR)⟩
   ·rename_i hk
    (conv=>whnf)
    (repeat' first|exact trivial|rfl|apply And.intro)
noncomputable instance (s:List UInt8):Decidable (nvOK s):=Classical.propDecidable _
def gT (s:List UInt8):Prop:=s=numS (valQ s)∧(valQ s).num.natAbs<100000000∧(valQ s).den<100000000
def c68:Con:=aJ 115 true fun args K=>match args with
 | [.str s]=>Br (nvOK s) (Giv (gT s) (K (.tup [.agg [I (valQ s).num,I (valQ s).den],.val (.bool true)]))) (K (.tup [.agg [I 0,I 0],.val (.bool false)]))
 | _=>False
theorem k68:aG Tryz.prog c68:=by
 refine kO Tryz.func115 fun args K h=>?_
 simp only[c68] at h;split at h
 ·rename_i s
  by_cases hf:nvOK s
  ·obtain ⟨v1,v2,v3,v4,v5⟩:=jM hf
   refine ⟨_,(h.yes hf).go ⟨v1,v4,v5⟩,?_⟩
   rw[v2,v3]
   exact triB Tryz.func115 Tryz.ntmps115 (by simp[k104,k105]) (b68y s hf)
  ·exact ⟨_,h.no hf,triB Tryz.func115 Tryz.ntmps115 (by simp[k104,k105]) (b68n s hf)⟩
 ·exact h.elim
theorem dN (n:Nat):itoa (n:Int)=decDigits n:=by
 unfold itoa
 rw[if_neg (by omega),Int.toNat_natCast]
theorem aFp {g d k:Nat} (h:g≤d) (hd:(decDigits d).length≤k+1):(decDigits g).length≤k+1:=by
 have h2:=bW (decDigits d) (eZ _)
 rw[bT] at h2
 exact eV k g (Nat.lt_of_lt_of_le (Nat.lt_of_le_of_lt h h2) (Nat.pow_le_pow_right (by omega) hd))
theorem yK {s:List UInt8} (h:iI s):bot1 s=decDigits (denS s)∧1≤denS s∧(300<(bot1 s).length↔300<(botS s).tail.length):=by
 unfold bot1
 rcases h.2 with h | ⟨h1,h2⟩
 ·have hd:denS s=1:=by unfold denS;rw[if_pos h]
  rw[if_pos h,hd,h]
  exact ⟨(cI (show 1<10 by omega)).symm,Nat.le_refl _,by simp⟩
 ·have hb:botS s≠ []:=fun e=>by
   have hd:denS s=1:=by unfold denS;rw[if_pos e]
   omega
  rw[if_neg hb]
  exact ⟨h1,by omega,Iff.rfl⟩
theorem aFq {s:List UInt8} (h:s=numS (valQ s)) (h1:(digs (topS s)).length≤300) (h2:(botS s).tail.length≤300):chkQ s=0:=by
 have hf:iI s:=by rw[h];exact qC _
 have hg:(valI (topS s)).natAbs.gcd (denS s)=1:=by rw[h];exact aC7 _
 unfold chkQ
 rw[if_pos hf,if_neg (by omega),if_pos hg]
theorem aBa {n:Nat} (h:n<100000000):(decDigits n).length≤8:=eV 7 n (by simpa using h)
theorem iZ {s:List UInt8} (h:gT s):chkQ s=0:=by
 obtain ⟨h1,h2,h3⟩:=h
 refine aFq h1 ?_ ?_
 ·rw[h1,fV,bO]
  have:=aBa h2
  omega
 ·rw[h1,jK]
  split
  ·simp
  ·have:=aBa h3
   simp;omega
theorem sX {s:List UInt8} (h:s=numS (valQ s)):topS s=itoa (valQ s).num∧bot1 s=decDigits (valQ s).den:=by
 have hf:iI s:=by rw[h];exact qC _
 have e:=(yK hf).1
 have ed:denS s=(valQ s).den:=(congrArg denS h).trans (rK _)
 rw[ed] at e
 exact ⟨(congrArg topS h).trans (fV _),e⟩
theorem aDa {d:Nat} (h:(decDigits d).length≤300):form (decDigits d)∧chkI (decDigits d)=0∧valI (decDigits d)=d:=by
 rw[← dN]
 refine ⟨eM _,?_,aQ _⟩
 rw[fZ (eM _),if_neg]
 rw[bO]
 simpa using h
noncomputable def rdV (s:List UInt8):SV:=if chkQ s=0 then .tup [.agg [S (itoa (valQ s).num),S (decDigits (valQ s).den)],I 0] else .tup [.agg [S [],S []],I (chkQ s)]
theorem b46 (s:List UInt8):body Tryz.prog [c87,c68,c88,c89] {} true Tryz.f117 [S s] (rdV s):=by
 (apply Br.mk<;>intro)
 ·rename_i hf
  obtain ⟨hb1,hb2,hb3⟩:=yK hf
  (apply Br.mk<;>intro)
  ·rename_i hn
   refine Giv.mk fun hs=>?_
   have h0:=iZ hs
   obtain ⟨p1,p2⟩:=sX hs.1
   unfold rdV
   rw[if_pos h0,← p1,← p2]
   (conv=>whnf)
   (repeat' first|exact trivial|rfl|apply And.intro)
  ·rename_i hn
   have hq:chkQ s=if 300<(digs (topS s)).length∨300<(bot1 s).length then 4 else if (valI (topS s)).natAbs.gcd (denS s)=1 then 0 else 11:=by
    unfold chkQ
    rw[if_pos hf]
    simp only[hb3]
   have hnum:(valI (topS s)).natAbs.gcd (denS s)=1→topS s=itoa (valQ s).num∧bot1 s=decDigits (valQ s).den:=fun hg=>sX (aIy hf hg)
   (repeat'((conv=>whnf);first|refine Zg fun _=>?_|refine Zn ?_|fail))
   (apply Br.mk<;>intro)
   ·rename_i hl
    have h4:chkQ s=4:=by rw[hq,if_pos (.inl (by omega))]
    unfold rdV
    rw[if_neg (by omega),h4]
    (conv=>whnf)
    (repeat' first|exact trivial|rfl|apply And.intro)
   ·rename_i hl
    (repeat'((conv=>whnf);first|refine Zg fun _=>?_|fail))
    (apply Br.mk<;>intro)
    ·rename_i hl2
     have h4:chkQ s=4:=by rw[hq,if_pos (.inr (by omega))]
     unfold rdV
     rw[if_neg (by omega),h4]
     (conv=>whnf)
     (repeat' first|exact trivial|rfl|apply And.intro)
    ·rename_i hl2
     rw[if_neg (by omega)] at hq
     (apply Br.mk<;>intro)
     ·rename_i h1
      have hd:denS s=1:=by
       rw[hb1] at h1
       have:=congrArg aC h1
       rw[bT] at this
       exact this
      have hg:(valI (topS s)).natAbs.gcd (denS s)=1:=by rw[hd];exact Nat.gcd_one_right _
      obtain ⟨p1,p2⟩:=hnum hg
      rw[if_pos hg] at hq
      unfold rdV
      rw[if_pos hq,← p1,← p2]
      (conv=>whnf)
      (repeat' first|exact trivial|rfl|apply And.intro)
     ·rename_i h1
      obtain ⟨d1,d2,d3⟩:=aDa (d:=denS s) (by rw[← hb1];omega)
      have hct:chkI (topS s)=0:=by rw[fZ hf.1,if_neg (by omega)]
      have hb:bG (topS s) (bot1 s) (resI (Int.gcd (valI (topS s)) (valI (bot1 s))))=(decDigits ((valI (topS s)).natAbs.gcd (denS s)),0):=by
       unfold bG chk2
       rw[hb1,hct,d2,d3,if_neg (by simp),show Int.gcd (valI (topS s)) (denS s:Int)=(valI (topS s)).natAbs.gcd (denS s) by unfold Int.gcd;simp]
       unfold resI lim
       rw[if_neg]
       ·rw[dN]
       ·have h3:(valI (topS s)).natAbs.gcd (denS s)≤denS s:=Nat.gcd_le_right _ (by omega)
        have h4:(decDigits (denS s)).length≤300:=by rw[← hb1];omega
        have h5:=aFp h3 (k:=299) h4
        simpa using h5
      have z1:=congrArg Prod.fst hb
      have z2:(bG (topS s) (bot1 s) (resI (Int.gcd (valI (topS s)) (valI (bot1 s))))).2=0:=congrArg Prod.snd hb
      (repeat'((conv=>whnf);first|refine Zm ?_|fail))
      (apply Br.mk<;>intro)
      ·rename_i hg
       rw[z1] at hg
       have hg1:(valI (topS s)).natAbs.gcd (denS s)≠1:=fun e=>hg (by rw[e];exact cI (show 1<10 by omega))
       rw[if_neg hg1] at hq
       unfold rdV
       rw[if_neg (by omega),hq]
       (conv=>whnf)
       (repeat' first|exact trivial|rfl|apply And.intro)
      ·rename_i hg
       have hg:=Classical.not_not.1 hg
       rw[z1] at hg
       have hg1:(valI (topS s)).natAbs.gcd (denS s)=1:=by
        have:=congrArg aC hg
        rw[bT] at this
        exact this
       obtain ⟨p1,p2⟩:=hnum hg1
       rw[if_pos hg1] at hq
       unfold rdV
       rw[if_pos hq,← p1,← p2]
       (conv=>whnf)
       (repeat' first|exact trivial|rfl|apply And.intro)
 ·rename_i hf
  have h11:chkQ s=11:=by unfold chkQ;rw[if_neg hf]
  unfold rdV
  rw[if_neg (by omega),h11]
  (conv=>whnf)
  (repeat' first|exact trivial|rfl|apply And.intro)
def aMu (s:List UInt8):Prop:=s=numS (valQ s)∧(decDigits (valQ s).num.natAbs).length≤300∧(decDigits (valQ s).den).length≤300
theorem kW {s:List UInt8} (h:chkQ s=0):aMu s:=by
 obtain ⟨h1,h2,h3⟩:=aIz h
 have hf:iI s:=by rw[h1];exact qC _
 obtain ⟨p1,p2⟩:=sX h1
 refine ⟨h1,?_,?_⟩
 ·rw[p1,bO] at h2;exact h2
 ·have:=(yK hf).2.2
  rw[p2] at this
  omega
def c46:Con:=aJ 117 true fun args K=>match args with
 | [.str s]=>Br (chkQ s=0) (Giv (aMu s) (K (.tup [.agg [S (itoa (valQ s).num),S (decDigits (valQ s).den)],I 0]))) (K (.tup [.agg [S [],S []],I (chkQ s)]))
 | _=>False
theorem k46:aG Tryz.prog c46:=by
 refine kO Tryz.func117 fun args K h=>?_
 simp only[c46] at h;split at h
 ·rename_i s
  have ht:=tY (r:=rdV s) (Γ:=[c87,c68,c88,c89]) (by simp[k87,k68,k88,k89]) Tryz.func117 (by simp[Tryz.ntmps117]) (by unfold rdV;split<;>rfl) (b46 s)
  unfold rdV at ht
  by_cases hf:chkQ s=0
  ·rw[if_pos hf] at ht
   exact ⟨_,(h.yes hf).go (kW hf),ht⟩
  ·rw[if_neg hf] at ht
   exact ⟨_,h.no hf,by
    cases hc:chkQ s with
    | _=>exact hc ▸ ht⟩
 ·exact h.elim
theorem bM {x:Int} (h:lim x=false):chkI (itoa x)=0:=by
 rw[fZ (eM x),bO,if_neg]
 unfold lim at h
 simpa using h
theorem rR {x:Int} (h:chkI (itoa x)=0):lim x=false:=by
 rw[fZ (eM x),bO] at h
 unfold lim
 split at h
 ·cases h
 ·rename_i hn
  exact decide_eq_false hn
theorem jU (x:Int):lim (-x)=lim x:=by unfold lim;rw[Int.natAbs_neg]
theorem jN {x y:Int} (h:x.natAbs≤y.natAbs) (hy:lim y=false):lim x=false:=by
 unfold lim at hy ⊢
 have hy:(decDigits y.natAbs).length≤299+1:=by simpa using hy
 have:=aFp h hy
 simpa using this
theorem dV {x:Int} (h:lim x=false):(itoa x).length≤301:=by
 have h1:=(jO (itoa x)).2
 rw[bO] at h1
 unfold lim at h
 have h:(decDigits x.natAbs).length≤300:=by simpa using h
 omega
theorem yL {x y:Int} (hx:lim x=false) (hy:lim y=false) (h0:y≠0):bG (itoa x) (itoa y) (resI (Int.gcd (valI (itoa x)) (valI (itoa y))))=(itoa (Int.gcd x y),0):=by
 unfold bG chk2
 rw[bM hx,bM hy,if_neg (by simp),aQ,aQ]
 unfold resI
 have hg:lim ((Int.gcd x y:Nat):Int)=false:=by
  refine jN (y:=y) ?_ hy
  rw[Int.natAbs_natCast]
  exact Nat.gcd_le_right _ (by omega)
 rw[hg];rfl
theorem uZ {x y:Int} (hx:lim x=false) (hy:lim y=false) (h0:0<y) (hd:y ∣ x):divI (itoa x) (itoa y)=(itoa (x/y),itoa 0,0):=by
 unfold divI chk2
 rw[bM hx,bM hy,if_neg (by simp),if_neg (fun e=>by
  have:=jL (e.trans itoa_zero.symm);omega),aQ,aQ]
 have e1:x.fdiv y=x/y:=Int.fdiv_eq_ediv_of_nonneg _ (by omega)
 have e2:x.fmod y=0:=Int.fmod_eq_zero_of_dvd hd
 unfold dvI
 rw[e1,e2]
 have l1:lim (x/y)=false:=jN (y:=x) (by
  obtain ⟨k,rfl⟩:=hd
  rw[Int.mul_ediv_cancel_left _ (by omega),Int.natAbs_mul]
  exact Nat.le_mul_of_pos_left _ (by omega)) hx
 have l2:lim 0=false:=by
  unfold lim
  rw[show (0:Int).natAbs=0 from rfl,cI (by omega)];rfl
 rw[l1,l2];rfl
theorem aDb {x y:Int} (h0:0<y):numS (mkRat x y.toNat)=if itoa (y/(Int.gcd x y:Nat))= [49] then itoa (x/(Int.gcd x y:Nat)) else itoa (x/(Int.gcd x y:Nat))++47::itoa (y/(Int.gcd x y:Nat)):=by
 obtain ⟨d,rfl⟩:=Int.eq_ofNat_of_zero_le (Int.le_of_lt h0)
 have hg:Int.gcd x (d:Int)=d.gcd x.natAbs:=by unfold Int.gcd;rw[Int.natAbs_natCast,Nat.gcd_comm]
 rw[Int.toNat_natCast,uX _ _ (by omega),hg,← Int.natCast_ediv,dN]
 have e1:decDigits (d/d.gcd x.natAbs)= [49]↔d/d.gcd x.natAbs=1:=by
  constructor
  ·intro h
   have:=congrArg aC h
   rw[bT] at this
   exact this
  ·intro h;rw[h];exact cI (show 1<10 by omega)
 by_cases h:d/d.gcd x.natAbs=1
 ·rw[if_pos h,if_pos (e1.2 h)]
 ·rw[if_neg h,if_neg (fun hx=>h (e1.1 hx))]
theorem itoa_one:itoa 1= [49]:=by
 rw[show (1:Int)=((1:Nat):Int) from rfl,dN];exact cI (show 1<10 by omega)
theorem b52p (x y:Int) (hx:lim x=false) (hy:lim y=false) (h0:0<y):body Tryz.prog [c91,c92,c89,c69] {} true Tryz.f76 [S (itoa x),S (itoa y)] (.tup [S (numS (mkRat x y.toNat)),I 0]):=by
 have hh:=gN y
 have hneg:¬(itoa y).headD 0=45:=fun e=>by have:=hh.1 e;omega
 have hb:=yL hx hy (by omega)
 have z1:(bG (itoa x) (itoa y) (resI (Int.gcd (valI (itoa x)) (valI (itoa y))))).1=itoa (Int.gcd x y):=congrArg Prod.fst hb
 have z2:(bG (itoa x) (itoa y) (resI (Int.gcd (valI (itoa x)) (valI (itoa y))))).2=0:=congrArg Prod.snd hb
 have lx:=dV hx
 have ly:=dV hy
 have hm:=aDb (x:=x) h0
 obtain ⟨g,hg⟩:∃g,Int.gcd x y=g:=⟨_,rfl⟩
 have gx:(g:Int) ∣ x:=by rw[← hg];exact Int.gcd_dvd_left _ _
 have gy:(g:Int) ∣ y:=by rw[← hg];exact Int.gcd_dvd_right _ _
 have gp:0<g:=by rw[← hg];exact Int.gcd_pos_of_ne_zero_right _ (by omega)
 rw[hg] at z1 hm
 rw[hm]
 have lg:lim (g:Int)=false:=jN (y:=y) (by rw[Int.natAbs_natCast,← hg];exact Nat.gcd_le_right _ (by omega)) hy
 have dx:=uZ hx lg (by omega) gx
 have dy:=uZ hy lg (by omega) gy
 have q1:(divI (itoa x) (itoa g)).1=itoa (x/g):=by rw[dx]
 have q2:(divI (itoa y) (itoa g)).1=itoa (y/g):=by rw[dy]
 (repeat'((conv=>whnf);first|refine Zn ?_|refine Zm ?_|fail))
 (apply Br.mk<;>intro)
 ·rename_i h1
  rw[z1,← q1,← q2]
  have l1:lim (x/g)=false:=jN (y:=x) (by
   obtain ⟨k,rfl⟩:=gx
   rw[Int.mul_ediv_cancel_left _ (by omega),Int.natAbs_mul]
   exact Nat.le_mul_of_pos_left _ (by omega)) hx
  have l2:lim (y/g)=false:=jN (y:=y) (by
   obtain ⟨k,rfl⟩:=gy
   rw[Int.mul_ediv_cancel_left _ (by omega),Int.natAbs_mul]
   exact Nat.le_mul_of_pos_left _ (by omega)) hy
  have m1:(divI (itoa x) (itoa g)).1.length≤301:=by rw[q1];exact dV l1
  have m2:(divI (itoa y) (itoa g)).1.length≤301:=by rw[q2];exact dV l2
  (apply Br.mk<;>intro)
  ·rename_i h2
   rw[if_pos h2]
   (conv=>whnf)
   (repeat' first|exact trivial|rfl|apply And.intro)
  ·rename_i h2
   rw[if_neg h2]
   (repeat'((conv=>whnf);first|refine Zn ?_|fail))
   (conv=>whnf)
   (repeat' first|exact trivial|rfl|apply And.intro)
   exact List.append_assoc _ [47] _
 ·rename_i h1
  have h1:=Classical.not_not.1 h1
  rw[z1] at h1
  have hg1:(g:Int)=1:=jL (h1.trans itoa_one.symm)
  rw[hg1,Int.ediv_one,Int.ediv_one]
  (apply Br.mk<;>intro)
  ·rename_i h2
   rw[if_pos h2]
   (conv=>whnf)
   (repeat' first|exact trivial|rfl|apply And.intro)
  ·rename_i h2
   rw[if_neg h2]
   (repeat'((conv=>whnf);first|refine Zn ?_|fail))
   (conv=>whnf)
   (repeat' first|exact trivial|rfl|apply And.intro)
   exact List.append_assoc _ [47] _
theorem b52n (x0 y0:Int) (hx0:lim x0=false) (hy0:lim y0=false) (h00:y0<0):body Tryz.prog [c91,c92,c89,c69] {} true Tryz.f76 [S (itoa x0),S (itoa y0)] (.tup [S (numS (mkRat (-x0) (-y0).toNat)),I 0]):=by
 have hh:=gN y0
 have hneg:(itoa y0).headD 0=45:=hh.2 h00
 have lx0:=dV hx0
 have ly0:=dV hy0
 obtain ⟨x,ex⟩:∃x, -x0=x:=⟨_,rfl⟩
 obtain ⟨y,ey⟩:∃y, -y0=y:=⟨_,rfl⟩
 have hx:lim x=false:=by rw[← ex,jU];exact hx0
 have hy:lim y=false:=by rw[← ey,jU];exact hy0
 have h0:0<y:=by omega
 rw[ex,ey]
 have hb:=yL hx hy (by omega)
 have z1:(bG (itoa x) (itoa y) (resI (Int.gcd (valI (itoa x)) (valI (itoa y))))).1=itoa (Int.gcd x y):=congrArg Prod.fst hb
 have z2:(bG (itoa x) (itoa y) (resI (Int.gcd (valI (itoa x)) (valI (itoa y))))).2=0:=congrArg Prod.snd hb
 have lx:=dV hx
 have ly:=dV hy
 have hm:=aDb (x:=x) h0
 obtain ⟨g,hg⟩:∃g,Int.gcd x y=g:=⟨_,rfl⟩
 have gx:(g:Int) ∣ x:=by rw[← hg];exact Int.gcd_dvd_left _ _
 have gy:(g:Int) ∣ y:=by rw[← hg];exact Int.gcd_dvd_right _ _
 have gp:0<g:=by rw[← hg];exact Int.gcd_pos_of_ne_zero_right _ (by omega)
 rw[hg] at z1 hm
 rw[hm]
 have lg:lim (g:Int)=false:=jN (y:=y) (by rw[Int.natAbs_natCast,← hg];exact Nat.gcd_le_right _ (by omega)) hy
 have dx:=uZ hx lg (by omega) gx
 have dy:=uZ hy lg (by omega) gy
 have q1:(divI (itoa x) (itoa g)).1=itoa (x/g):=by rw[dx]
 have q2:(divI (itoa y) (itoa g)).1=itoa (y/g):=by rw[dy]
 (repeat'((conv=>whnf);first|refine Zn ?_|refine Zy ?_|fail))
 refine Need.mk ⟨eM _,by omega⟩ ?_
 rw[aQ,ex]
 refine Need.mk ⟨eM _,by omega⟩ ?_
 rw[aQ,ey]
 (repeat'((conv=>whnf);first|refine Zm ?_|fail))
 (apply Br.mk<;>intro)
 ·rename_i h1
  rw[z1,← q1,← q2]
  have l1:lim (x/g)=false:=jN (y:=x) (by
   obtain ⟨k,rfl⟩:=gx
   rw[Int.mul_ediv_cancel_left _ (by omega),Int.natAbs_mul]
   exact Nat.le_mul_of_pos_left _ (by omega)) hx
  have l2:lim (y/g)=false:=jN (y:=y) (by
   obtain ⟨k,rfl⟩:=gy
   rw[Int.mul_ediv_cancel_left _ (by omega),Int.natAbs_mul]
   exact Nat.le_mul_of_pos_left _ (by omega)) hy
  have m1:(divI (itoa x) (itoa g)).1.length≤301:=by rw[q1];exact dV l1
  have m2:(divI (itoa y) (itoa g)).1.length≤301:=by rw[q2];exact dV l2
  (apply Br.mk<;>intro)
  ·rename_i h2
   rw[if_pos h2]
   (conv=>whnf)
   (repeat' first|exact trivial|rfl|apply And.intro)
  ·rename_i h2
   rw[if_neg h2]
   (repeat'((conv=>whnf);first|refine Zn ?_|fail))
   (conv=>whnf)
   (repeat' first|exact trivial|rfl|apply And.intro)
   exact List.append_assoc _ [47] _
 ·rename_i h1
  have h1:=Classical.not_not.1 h1
  rw[z1] at h1
  have hg1:(g:Int)=1:=jL (h1.trans itoa_one.symm)
  rw[hg1,Int.ediv_one,Int.ediv_one]
  (apply Br.mk<;>intro)
  ·rename_i h2
   rw[if_pos h2]
   (conv=>whnf)
   (repeat' first|exact trivial|rfl|apply And.intro)
  ·rename_i h2
   rw[if_neg h2]
   (repeat'((conv=>whnf);first|refine Zn ?_|fail))
   (conv=>whnf)
   (repeat' first|exact trivial|rfl|apply And.intro)
   exact List.append_assoc _ [47] _
noncomputable def numQ (a b:List UInt8):List UInt8:=numS (Rat.divInt (valI a) (valI b))
def c52:Con:=aJ 76 true fun args K=>match args with
 | [.str a,.str b]=>Need (chkI a=0∧chkI b=0∧valI b≠0) (K (.tup [S (numQ a b),I 0]))
 | _=>False
theorem k52:aG Tryz.prog c52:=by
 refine kO Tryz.func76 fun args K h=>?_
 simp only[c52] at h;split at h
 ·rename_i a b
  obtain ⟨⟨h1,h2,h3⟩,h⟩:=h
  refine ⟨_,h,?_⟩
  have ea:=oJ (bY h1).1
  have eb:=oJ (bY h2).1
  have la:lim (valI a)=false:=rR (by rw[← ea];exact h1)
  have lb:lim (valI b)=false:=rR (by rw[← eb];exact h2)
  unfold numQ
  rcases Int.lt_or_gt_of_ne h3 with hn | hp
  ·have:=triB Tryz.func76 Tryz.ntmps76 (by simp[k91,k92,k89,k69]) (b52n (valI a) (valI b) la lb hn)
   rw[← ea,← eb] at this
   rw[qD _ _ hn]
   exact this
  ·have:=triB Tryz.func76 Tryz.ntmps76 (by simp[k91,k92,k89,k69]) (b52p (valI a) (valI b) la lb hp)
   rw[← ea,← eb] at this
   rw[eB _ _ hp]
   exact this
 ·exact h.elim
theorem rS {x:Int} (h:x.natAbs<1000000000000000000):(itoa x).length≤19:=by
 unfold itoa
 have h1:=eV 17 x.natAbs (by simpa using h)
 split
 ·simp only[List.length_cons];omega
 ·rename_i hx
  rw[show x.toNat=x.natAbs by omega];omega
theorem b90p (x y:Int) (hx:x.natAbs<1000000000000000000) (hy:y.natAbs<1000000000000000000) (h0:0<y):body Tryz.prog [c105,c61] {} true Tryz.f134 [.agg [I x,I y]] (S (numS (mkRat x y.toNat))):=by
 have hm:=aDb (x:=x) h0
 obtain ⟨g,hg⟩:∃g,Int.gcd x y=g:=⟨_,rfl⟩
 have gx:(g:Int) ∣ x:=by rw[← hg];exact Int.gcd_dvd_left _ _
 have gy:(g:Int) ∣ y:=by rw[← hg];exact Int.gcd_dvd_right _ _
 have gp:0<g:=by rw[← hg];exact Int.gcd_pos_of_ne_zero_right _ (by omega)
 have hgm:Int.gcd (max x (-x)) y=g:=by
  rw[← hg];unfold Int.gcd
  rw[show (max x (-x)).natAbs=x.natAbs by omega]
 rw[hg] at hm
 rw[hm]
 have t1:x.tdiv g=x/g:=Int.tdiv_eq_ediv_of_dvd gx
 have t2:y.tdiv g=y/g:=Int.tdiv_eq_ediv_of_dvd gy
 have b1:(x/g).natAbs≤x.natAbs:=by
  obtain ⟨k,rfl⟩:=gx
  rw[Int.mul_ediv_cancel_left _ (by omega),Int.natAbs_mul]
  exact Nat.le_mul_of_pos_left _ (by omega)
 have b2:(y/g).natAbs≤y.natAbs:=by
  obtain ⟨k,rfl⟩:=gy
  rw[Int.mul_ediv_cancel_left _ (by omega),Int.natAbs_mul]
  exact Nat.le_mul_of_pos_left _ (by omega)
 have m1:=rS (x:=x/g) (by omega)
 have m2:=rS (x:=y/g) (by omega)
 (repeat'((conv=>whnf);first|refine Zb ?_|refine Zn ?_|(apply Pin.mk;apply Exists.intro)|apply Pinned.mk rfl rfl|refine Zm ?_|fail))
 rw[hgm]
 (repeat'((conv=>whnf);first|refine Za ?_|refine Zn ?_|(apply Pin.mk;apply Exists.intro)|apply Pinned.mk rfl rfl|fail))
 rw[← t1]
 rw[← t1] at m1
 (apply Br.mk<;>intro)
 ·rename_i h1
  rw[if_pos (by rw[h1];exact itoa_one)]
  (conv=>whnf)
 ·rename_i h1
  rw[if_neg (fun e=>h1 (jL (e.trans itoa_one.symm)))]
  (repeat'((conv=>whnf);first|refine Zn ?_|fail))
  (conv=>whnf)
  exact List.append_assoc _ [47] _
theorem b90n (x0 y0:Int) (hx0:x0.natAbs<1000000000000000000) (hy0:y0.natAbs<1000000000000000000) (h00:y0<0):body Tryz.prog [c105,c61] {} true Tryz.f134 [.agg [I x0,I y0]] (S (numS (mkRat (-x0) (-y0).toNat))):=by
 obtain ⟨x,ex⟩:∃x, -x0=x:=⟨_,rfl⟩
 obtain ⟨y,ey⟩:∃y, -y0=y:=⟨_,rfl⟩
 have hx:x.natAbs<1000000000000000000:=by omega
 have hy:y.natAbs<1000000000000000000:=by omega
 have h0:0<y:=by omega
 rw[ex,ey]
 have hm:=aDb (x:=x) h0
 obtain ⟨g,hg⟩:∃g,Int.gcd x y=g:=⟨_,rfl⟩
 have gx:(g:Int) ∣ x:=by rw[← hg];exact Int.gcd_dvd_left _ _
 have gy:(g:Int) ∣ y:=by rw[← hg];exact Int.gcd_dvd_right _ _
 have gp:0<g:=by rw[← hg];exact Int.gcd_pos_of_ne_zero_right _ (by omega)
 have hgm:Int.gcd (max x (-x)) y=g:=by
  rw[← hg];unfold Int.gcd
  rw[show (max x (-x)).natAbs=x.natAbs by omega]
 rw[hg] at hm
 rw[hm]
 have t1:x.tdiv g=x/g:=Int.tdiv_eq_ediv_of_dvd gx
 have t2:y.tdiv g=y/g:=Int.tdiv_eq_ediv_of_dvd gy
 have b1:(x/g).natAbs≤x.natAbs:=by
  obtain ⟨k,rfl⟩:=gx
  rw[Int.mul_ediv_cancel_left _ (by omega),Int.natAbs_mul]
  exact Nat.le_mul_of_pos_left _ (by omega)
 have b2:(y/g).natAbs≤y.natAbs:=by
  obtain ⟨k,rfl⟩:=gy
  rw[Int.mul_ediv_cancel_left _ (by omega),Int.natAbs_mul]
  exact Nat.le_mul_of_pos_left _ (by omega)
 have m1:=rS (x:=x/g) (by omega)
 have m2:=rS (x:=y/g) (by omega)
 (repeat'((conv=>whnf);first|refine Zn ?_|(apply Pin.mk;apply Exists.intro)|apply Pinned.mk rfl rfl|refine .r ?_|refine Zy ?_|fail))
 rw[ex,ey,hgm]
 (repeat'((conv=>whnf);first|refine Za ?_|refine Zn ?_|(apply Pin.mk;apply Exists.intro)|apply Pinned.mk rfl rfl|fail))
 rw[← t1]
 rw[← t1] at m1
 (apply Br.mk<;>intro)
 ·rename_i h1
  rw[if_pos (by rw[h1];exact itoa_one)]
  (conv=>whnf)
 ·rename_i h1
  rw[if_neg (fun e=>h1 (jL (e.trans itoa_one.symm)))]
  (repeat'((conv=>whnf);first|refine Zn ?_|fail))
  (conv=>whnf)
  exact List.append_assoc _ [47] _
def c90:Con:=aJ 134 true fun args K=>match args with
 | [.agg [.val (.int .i64 x),.val (.int .i64 y)]]=>Need (x.natAbs<1000000000000000000∧y.natAbs<1000000000000000000∧y≠0) (K (S (numS (Rat.divInt x y))))
 | _=>False
theorem k90:aG Tryz.prog c90:=by
 refine kO Tryz.func134 fun args K h=>?_
 simp only[c90] at h;split at h
 ·rename_i x y
  obtain ⟨⟨h1,h2,h3⟩,h⟩:=h
  refine ⟨_,h,?_⟩
  rcases Int.lt_or_gt_of_ne h3 with hn | hp
  ·rw[qD _ _ hn]
   exact triB Tryz.func134 Tryz.ntmps134 (by simp[k105,k61]) (b90n x y h1 h2 hn)
  ·rw[eB _ _ hp]
   exact triB Tryz.func134 Tryz.ntmps134 (by simp[k105,k61]) (b90p x y h1 h2 hp)
 ·exact h.elim
theorem mul8 {a b:Int} (ha:a.natAbs<100000000) (hb:b.natAbs<100000000): -10000000000000000<a*b∧a*b<10000000000000000:=by
 have h:=Nat.mul_lt_mul'' ha hb
 rw[← Int.natAbs_mul] at h
 omega
abbrev n8 (a b c d:Int):Prop:=a.natAbs<100000000∧b.natAbs<100000000∧c.natAbs<100000000∧d.natAbs<100000000
def c53:Con:=aJ 155 true fun args K=>match args with | [.agg [.val (.int .i64 a),.val (.int .i64 b)],.agg [.val (.int .i64 c),.val (.int .i64 d)]]=>Need (n8 a b c d) (K (.agg [I (a*d+c*b),I (b*d)])) | _=>False
theorem b56 (a b c d:Int) (h:n8 a b c d):body Tryz.prog [] {} true Tryz.f157 [.agg [I a,I b],.agg [I c,I d]] (.agg [I (a*c),I (b*d)]):=by
 obtain ⟨h1,h2,h3,h4⟩:=h
 have m1:=mul8 h1 h4
 have m2:=mul8 h3 h2
 have m3:=mul8 h2 h4
 have m4:=mul8 h1 h3
 have m5:=mul8 h2 h3
 (repeat'((conv=>whnf);first|refine Zn ?_|fail))
 (conv=>whnf)
 (repeat' first|exact trivial|rfl|apply And.intro)
def c56:Con:=aJ 157 true fun args K=>match args with | [.agg [.val (.int .i64 a),.val (.int .i64 b)],.agg [.val (.int .i64 c),.val (.int .i64 d)]]=>Need (n8 a b c d) (K (.agg [I (a*c),I (b*d)])) | _=>False
theorem k56:aG Tryz.prog c56:=by
 refine kO Tryz.func157 fun args K h=>?_
 simp only[c56] at h;split at h
 ·rename_i a b c d;exact ⟨_,h.go,triB Tryz.func157 Tryz.ntmps157 (by simp) (b56 a b c d h.ok)⟩
 ·exact h.elim
theorem jA {s:List UInt8} (h:gT s):(valQ s).num.natAbs<100000000∧((valQ s).den:Int).natAbs<100000000∧0<((valQ s).den:Int):=by
 have:=(valQ s).den_pos
 exact ⟨h.2.1,by rw[Int.natAbs_natCast];exact h.2.2,by omega⟩
theorem aBb (p q:Rat):Rat.divInt (p.num*q.num) (p.den*q.den)=p*q:=by
 rw[oK,eB _ _ (Int.mul_pos (by have:=p.den_pos;omega) (by have:=q.den_pos;omega))];rfl
def nv2 (a b:List UInt8):Prop:=nvOK a∧nvOK b
theorem aOu (a b:List UInt8) (h:nv2 a b) (ha:gT a) (hb:gT b):body Tryz.prog [c68,c56,c90] {} true Tryz.f71 [S a,S b,.clo 157 [] []] (.tup [S (numS (valQ a*valQ b)),.val (.bool true)]):=by
 obtain ⟨na,nb⟩:=h
 obtain ⟨p1,p2,p3⟩:=jA ha
 obtain ⟨q1,q2,q3⟩:=jA hb
 have m1:=mul8 p1 q2
 have m2:=mul8 q1 p2
 have m4:=mul8 p1 q1
 have m3:=mul8 p2 q2
 rw[← aBb (valQ a) (valQ b)]
 (repeat'((conv=>whnf);first|refine Zg fun _=>?_|refine Zn ?_|refine Zy ?_|fail))
 (conv=>whnf)
 (repeat' first|exact trivial|rfl|apply And.intro)
theorem aOv (a b:List UInt8) (h:¬nv2 a b):body Tryz.prog [c68,c56,c90] {} true Tryz.f71 [S a,S b,.clo 157 [] []] (.tup [S [],.val (.bool false)]):=by
 by_cases na:nvOK a
 ·have nb:¬nvOK b:=fun e=>h ⟨na,e⟩
  (repeat'((conv=>whnf);first|refine Zg fun _=>?_|refine Zy ?_|refine Zm ?_|fail))
  (conv=>whnf)
  (repeat' first|exact trivial|rfl|apply And.intro)
 ·(repeat'((conv=>whnf);first|refine Zm ?_|fail))
  (conv=>whnf)
  (repeat' first|exact trivial|rfl|apply And.intro)
def q56:Con:=aJ 71 true fun args K=>match args with
 | [.str a,.str b,.clo 157 [] []]=>Br (nv2 a b) (Giv (gT a∧gT b) (K (.tup [S (numS (valQ a*valQ b)),.val (.bool true)]))) (K (.tup [S [],.val (.bool false)]))
 | _=>False
theorem kq56:aG Tryz.prog q56:=by
 refine kO Tryz.func71 fun args K h=>?_
 simp only[q56] at h;split at h
 ·rename_i a b
  by_cases hf:nv2 a b
  ·obtain ⟨v1,_,_,v2,v3⟩:=jM hf.1
   obtain ⟨w1,_,_,w2,w3⟩:=jM hf.2
   exact ⟨_,(h.yes hf).go ⟨⟨v1,v2,v3⟩,w1,w2,w3⟩,triB Tryz.func71 Tryz.ntmps71 (by simp[k68,k56,k90]) (aOu a b hf ⟨v1,v2,v3⟩ ⟨w1,w2,w3⟩)⟩
  ·exact ⟨_,h.no hf,triB Tryz.func71 Tryz.ntmps71 (by simp[k68,k56,k90]) (aOv a b hf)⟩
 ·exact h.elim
theorem vA {a b:List UInt8} (ha:chkI a=0) (hb:chkI b=0) (r:List UInt8 × Int):bG a b r=r:=by
 unfold bG chk2
 rw[ha,hb,if_neg (by simp)]
def c58r:Con:=aJ 136 true fun args K=>match args with
 | [.str a,.str b]=>Need (chkI a=0∧chkI b=0) (Br (lim (valI a*valI b)=false) (K (.tup [S (itoa (valI a*valI b)),I 0])) (K (.tup [S [],I 4])))
 | _=>False
theorem k58r:aG Tryz.prog c58r:=by
 refine kO Tryz.func136 fun args K h=>?_
 simp only[c58r] at h;split at h
 ·rename_i a b
  obtain ⟨⟨ha,hb⟩,h⟩:=h
  have ht:=triB Tryz.func136 Tryz.ntmps136 (by simp[k94,k95,k61,k98,k99f,k96]) (b58 a b)
  rw[vA ha hb] at ht
  by_cases hl:lim (valI a*valI b)=false
  ·refine ⟨_,h.yes hl,?_⟩
   unfold resI at ht
   rw[hl] at ht
   exact ht
  ·refine ⟨_,h.no hl,?_⟩
   unfold resI at ht
   rw[show lim _=true from by simpa using hl] at ht
   exact ht
 ·exact h.elim
abbrev ck4 (a b c d:List UInt8):Prop:=(chkI a=0∧chkI b=0)∧(chkI c=0∧chkI d=0)
def mQ (a b c d:List UInt8):Prop:=lim (valI a*valI d)=false∧lim (valI c*valI b)=false
instance (a b c d:List UInt8):Decidable (mQ a b c d):=by unfold mQ;infer_instance
theorem b51y (a b c d:List UInt8) (h:ck4 a b c d) (hl:mQ a b c d):body Tryz.prog [c58r] {} true Tryz.f79 [.agg [S a,S b],.agg [S c,S d]] (.tup [S (itoa (valI a*valI d)),S (itoa (valI c*valI b)),I 0]):=by
 obtain ⟨⟨h1,h2⟩,h3,h4⟩:=h
 obtain ⟨l1,l2⟩:=hl
 (repeat'((conv=>whnf);first|refine Zn ?_|refine Zy ?_|refine Zm ?_|fail))
 (conv=>whnf)
 (repeat' first|exact trivial|rfl|apply And.intro)
theorem b51n (a b c d:List UInt8) (h:ck4 a b c d) (hl:¬mQ a b c d):body Tryz.prog [c58r] {} true Tryz.f79 [.agg [S a,S b],.agg [S c,S d]] (.tup [.any,.any,I 4]):=by
 obtain ⟨⟨h1,h2⟩,h3,h4⟩:=h
 by_cases l1:lim (valI a*valI d)=false
 ·have l2:¬lim (valI c*valI b)=false:=fun e=>hl ⟨l1,e⟩
  (repeat'((conv=>whnf);first|refine Zn ?_|refine Zy ?_|refine Zm ?_|fail))
  (conv=>whnf)
  (repeat' first|exact trivial|rfl|apply And.intro)
 ·(repeat'((conv=>whnf);first|refine Zn ?_|refine Zy ?_|refine Zm ?_|fail))
  (conv=>whnf)
  (repeat' first|exact trivial|rfl|apply And.intro)
def c51:Con:=aJ 79 true fun args K=>match args with
 | [.agg [.str a,.str b],.agg [.str c,.str d]]=>Need (ck4 a b c d) (Br (mQ a b c d) (K (.tup [S (itoa (valI a*valI d)),S (itoa (valI c*valI b)),I 0])) (K (.tup [.any,.any,I 4])))
 | _=>False
theorem k51:aG Tryz.prog c51:=by
 refine kO Tryz.func79 fun args K h=>?_
 simp only[c51] at h;split at h
 ·rename_i a b c d
  obtain ⟨h0,h⟩:=h
  by_cases hl:mQ a b c d
  ·exact ⟨_,h.yes hl,triB Tryz.func79 Tryz.ntmps79 (by simp[k58r]) (b51y a b c d h0 hl)⟩
  ·exact ⟨_,h.no hl,triB Tryz.func79 Tryz.ntmps79 (by simp[k58r]) (b51n a b c d h0 hl)⟩
 ·exact h.elim
abbrev dens (b d:List UInt8):Prop:=0<valI b∧0<valI d
theorem aBc (n d:Int):numQ (itoa n) (itoa d)=numS (Rat.divInt n d):=by
 unfold numQ
 rw[aQ,aQ]
theorem aOw {n:Int} (h:0<n):valI (itoa n)≠0:=by rw[aQ];omega
def ok57 (a b c d:List UInt8):Prop:=lim (valI a*valI c)=false∧lim (valI b*valI d)=false
instance (a b c d:List UInt8):Decidable (ok57 a b c d):=by unfold ok57;infer_instance
theorem b57y (a b c d:List UInt8) (h:ck4 a b c d∧dens b d) (hl:ok57 a b c d):body Tryz.prog [c58r,c52] {} true Tryz.f158 [.agg [S a,S b],.agg [S c,S d]] (.tup [S (numQ (itoa (valI a*valI c)) (itoa (valI b*valI d))),I 0]):=by
 obtain ⟨⟨⟨h1,h2⟩,h3,h4⟩,hb,hd⟩:=h
 obtain ⟨l1,l2⟩:=hl
 have k1:=bM l1
 have k2:=bM l2
 have k3:=aOw (Int.mul_pos hb hd)
 (repeat'((conv=>whnf);first|refine Zn ?_|refine Zy ?_|refine Zm ?_|fail))
 (conv=>whnf)
 (repeat' first|exact trivial|rfl|apply And.intro)
theorem b57n (a b c d:List UInt8) (h:ck4 a b c d) (hl:¬ok57 a b c d):body Tryz.prog [c58r,c52] {} true Tryz.f158 [.agg [S a,S b],.agg [S c,S d]] (.tup [S [],I 4]):=by
 obtain ⟨⟨h1,h2⟩,h3,h4⟩:=h
 by_cases l1:lim (valI a*valI c)=false
 ·have l2:¬lim (valI b*valI d)=false:=fun e=>hl ⟨l1,e⟩
  (repeat'((conv=>whnf);first|refine Zn ?_|refine Zy ?_|refine Zm ?_|fail))
  (conv=>whnf)
  (repeat' first|exact trivial|rfl|apply And.intro)
 ·(repeat'((conv=>whnf);first|refine Zn ?_|refine Zy ?_|refine Zm ?_|fail))
  (conv=>whnf)
  (repeat' first|exact trivial|rfl|apply And.intro)
def c57:Con:=aJ 158 true fun args K=>match args with
 | [.agg [.str a,.str b],.agg [.str c,.str d]]=>Need (ck4 a b c d∧dens b d) (Br (ok57 a b c d) (K (.tup [S (numS (Rat.divInt (valI a*valI c) (valI b*valI d))),I 0])) (K (.tup [S [],I 4])))
 | _=>False
theorem k57:aG Tryz.prog c57:=by
 refine kO Tryz.func158 fun args K h=>?_
 simp only[c57] at h;split at h
 ·rename_i a b c d
  obtain ⟨h0,h⟩:=h
  by_cases hl:ok57 a b c d
  ·refine ⟨_,h.yes hl,?_⟩
   rw[← aBc]
   exact triB Tryz.func158 Tryz.ntmps158 (by simp[k58r,k52]) (b57y a b c d h0 hl)
  ·exact ⟨_,h.no hl,triB Tryz.func158 Tryz.ntmps158 (by simp[k58r,k52]) (b57n a b c d h0.1 hl)⟩
 ·exact h.elim
def aPq (a b c d:List UInt8):Prop:=mQ a b c d∧lim (valI a*valI d+valI c*valI b)=false∧lim (valI b*valI d)=false
instance (a b c d:List UInt8):Decidable (aPq a b c d):=by unfold aPq;infer_instance
def aPr (a b c d:List UInt8):Prop:=mQ a b c d∧lim (valI a*valI d-valI c*valI b)=false∧lim (valI b*valI d)=false
instance (a b c d:List UInt8):Decidable (aPr a b c d):=by unfold aPr;infer_instance
def ok50 (a b c d:List UInt8):Prop:=mQ a b c d
instance (a b c d:List UInt8):Decidable (ok50 a b c d):=by unfold ok50;infer_instance
noncomputable def mulf (p q:Rat):List UInt8 × Int:=if lim (p.num*q.num) || lim (p.den*q.den) then ([],4) else (numS (p*q),0)
abbrev pn (p:Rat):List UInt8:=itoa p.num
abbrev pd (p:Rat):List UInt8:=decDigits p.den
theorem qF (p:Rat):valI (pn p)=p.num:=aQ _
theorem qG (p:Rat):valI (pd p)=p.den:=by unfold pd;rw[← dN,aQ]
theorem vB {s:List UInt8} (h:aMu s):chkI (pn (valQ s))=0∧chkI (pd (valQ s))=0∧0<valI (pd (valQ s)):=by
 refine ⟨bM (by unfold lim;simpa using h.2.1),(aDa h.2.2).2.1,?_⟩
 rw[qG]
 have:=(valQ s).den_pos
 omega
theorem aQj {p q:Rat} (h:ok57 (pn p) (pd p) (pn q) (pd q)):mulf p q=(numS (Rat.divInt (valI (pn p)*valI (pn q)) (valI (pd p)*valI (pd q))),0):=by
 unfold ok57 at h
 simp only[qF,qG] at h ⊢
 unfold mulf
 rw[aBb p q]
 simp[h]
theorem aQk {p q:Rat} (h:¬ok57 (pn p) (pd p) (pn q) (pd q)):mulf p q=([],4):=by
 unfold ok57 at h
 simp only[qF,qG] at h
 unfold mulf
 rw[if_pos]
 apply Classical.byContradiction
 intro hn
 apply h
 simp only[Bool.or_eq_true,not_or,Bool.not_eq_true] at hn
 simp[hn]
theorem aQl (a b:List UInt8):body Tryz.prog [c46,c57] {} true Tryz.f73 [S a,S b,.clo 158 [] []] (.tup [S (mulQ a b).1,I (mulQ a b).2]):=by
 by_cases ha:chkQ a=0
 ·by_cases hb:chkQ b=0
  ·have e:mulQ a b=mulf (valQ a) (valQ b):=by
    show gA a b mulf= _
    unfold gA
    rw[if_neg (by simpa using ha),if_neg (by simpa using hb)]
   rw[e]
   obtain ⟨r1,r2,r3⟩:=vB (kW ha)
   obtain ⟨s1,s2,s3⟩:=vB (kW hb)
   by_cases hk:ok57 (pn (valQ a)) (pd (valQ a)) (pn (valQ b)) (pd (valQ b))
   ·rw[aQj hk]
    (repeat'((conv=>whnf);first|refine Zg fun _=>?_|refine Zy ?_|refine Zm ?_|fail))
    refine Need.mk ⟨⟨⟨r1,r2⟩,s1,s2⟩,r3,s3⟩ ?_
    (repeat'((conv=>whnf);first|refine Zy ?_|fail))
    (conv=>whnf)
    (repeat' first|exact trivial|rfl|apply And.intro)
   ·rw[aQk hk]
    (repeat'((conv=>whnf);first|refine Zg fun _=>?_|refine Zy ?_|refine Zm ?_|fail))
    refine Need.mk ⟨⟨⟨r1,r2⟩,s1,s2⟩,r3,s3⟩ ?_
    (repeat'((conv=>whnf);first|refine Zm ?_|fail))
    (conv=>whnf)
    (repeat' first|exact trivial|rfl|apply And.intro)
  ·have e:mulQ a b=([],chkQ b):=by
    show gA a b mulf= _
    unfold gA
    rw[if_neg (by simpa using ha),if_pos hb]
   rw[e]
   (repeat'((conv=>whnf);first|refine Zg fun _=>?_|refine Zy ?_|refine Zm ?_|fail))
   (conv=>whnf)
   (repeat' first|exact trivial|rfl|apply And.intro)
 ·have e:mulQ a b=([],chkQ a):=by
   show gA a b mulf= _
   unfold gA
   rw[if_pos ha]
  rw[e]
  (repeat'((conv=>whnf);first|refine Zy ?_|refine Zm ?_|fail))
  (conv=>whnf)
  (repeat' first|exact trivial|rfl|apply And.intro)
def w57:Con:=aJ 73 true fun args K=>match args with
 | [.str a,.str b,.clo 158 [] []]=>K (.tup [S (mulQ a b).1,I (mulQ a b).2])
 | _=>False
theorem kw57:aG Tryz.prog w57:=by
 refine kO Tryz.func73 fun args K h=>?_
 simp only[w57] at h;split at h
 ·rename_i a b
  exact ⟨_,h,triB Tryz.func73 Tryz.ntmps73 (by simp[k46,k57]) (aQl a b)⟩
 ·exact h.elim
theorem dT {n:Int} (h:n.natAbs<10^40):lim n=false:=by
 unfold lim
 have:=eV 39 n.natAbs h
 simp;omega
theorem aHc {a b:List UInt8} (ha:gT a) (hb:gT b) (f:Rat→Rat→List UInt8 × Int):gA a b f=f (valQ a) (valQ b):=by
 unfold gA
 rw[if_neg (by rw[iZ ha];simp),if_neg (by rw[iZ hb];simp)]
theorem aHd {a b:List UInt8} (ha:gT a) (hb:gT b):mulQ a b=(numS (valQ a*valQ b),0):=by
 rw[show mulQ a b=mulf (valQ a) (valQ b) from aHc ha hb mulf]
 obtain ⟨p1,p2,p3⟩:=jA ha
 obtain ⟨q1,q2,q3⟩:=jA hb
 have m1:=mul8 p1 q2
 have m2:=mul8 q1 p2
 have m3:=mul8 p2 q2
 have m4:=mul8 p1 q1
 unfold mulf
 rw[dT (n:=(valQ a).num*(valQ b).num) (by omega),dT (n:=(valQ a).den*(valQ b).den) (by omega)]
 rfl
def c20:Con:=aJ 15 true fun args K=>match args with | [.str a,.str b]=>K (.tup [S (subQ a b).1,I (subQ a b).2]) | _=>False
theorem b19 (a b:List UInt8):body Tryz.prog [q56,w57] {} true Tryz.f98 [S a,S b] (.tup [S (mulQ a b).1,I (mulQ a b).2]):=by
 by_cases h:nv2 a b
 ·have ha:=(jM h.1);have hb:=(jM h.2)
  rw[aHd ⟨ha.1,ha.2.2.2⟩ ⟨hb.1,hb.2.2.2⟩]
  (repeat'((conv=>whnf);first|refine Zg fun _=>?_|refine Zy ?_|fail))
  (conv=>whnf)
  (repeat' first|exact trivial|rfl|apply And.intro)
 ·(repeat'((conv=>whnf);first|refine Zm ?_|fail))
  (conv=>whnf)
  (repeat' first|exact trivial|rfl|apply And.intro)
def c19:Con:=aJ 98 true fun args K=>match args with | [.str a,.str b]=>K (.tup [S (mulQ a b).1,I (mulQ a b).2]) | _=>False
theorem k19:aG Tryz.prog c19:=by
 refine kO Tryz.func98 fun args K h=>?_
 simp only[c19] at h;split at h
 ·rename_i a b
  exact ⟨_,h,triB Tryz.func98 Tryz.ntmps98 (by simp[kq56,kw57]) (b19 a b)⟩
 ·exact h.elim
def c21:Con:=aJ 63 true fun args K=>match args with | [.str a]=>K (I (chkQ a)) | _=>False
noncomputable def ofQ (n d:Int):List UInt8 × Int:=if d=0 then ([],12) else (numS (Rat.divInt n d),0)
theorem div_one (n:Int):numS (Rat.divInt n 1)=itoa n:=by
 rw[eB _ _ (by omega),show (1:Int).toNat=1 from rfl,uX _ _ (by omega),Nat.gcd_one_left,if_pos rfl]
 simp
theorem b22 (n d:Int) (h:(-9223372036854775808≤n∧n≤9223372036854775807)∧(-9223372036854775808≤d∧d≤9223372036854775807)):body Tryz.prog [c61,c52] {} true Tryz.f17 [I n,I d] (.tup [S (ofQ n d).1,I (ofQ n d).2]):=by
 obtain ⟨hn,hd⟩:=h
 unfold ofQ
 by_cases h0:d=0
 ·rw[if_pos h0]
  (repeat'((conv=>whnf);first|refine Zy ?_|fail))
  (conv=>whnf)
  (repeat' first|exact trivial|rfl|apply And.intro)
 ·rw[if_neg h0]
  by_cases h1:d=1
  ·subst h1
   rw[div_one]
   (repeat'((conv=>whnf);first|refine Zy ?_|refine Zm ?_|fail))
   (conv=>whnf)
   (repeat' first|exact trivial|rfl|apply And.intro)
  ·have k1:=bM (dT (n:=n) (by omega))
   have k2:=bM (dT (n:=d) (by omega))
   have k3:valI (itoa d)≠0:=by rw[aQ];exact h0
   rw[← aBc]
   (repeat'((conv=>whnf);first|refine Zn ?_|refine Zm ?_|fail))
   (conv=>whnf)
   (repeat' first|exact trivial|rfl|apply And.intro)
def c22:Con:=aJ 17 true fun args K=>match args with | [.val (.int .i64 n),.val (.int .i64 d)]=>Need ((-9223372036854775808≤n∧n≤9223372036854775807)∧(-9223372036854775808≤d∧d≤9223372036854775807)) (K (.tup [S (ofQ n d).1,I (ofQ n d).2])) | _=>False
theorem k22:aG Tryz.prog c22:=by
 refine kO Tryz.func17 fun args K h=>?_
 simp only[c22] at h;split at h
 ·rename_i n d;exact ⟨_,h.go,triB Tryz.func17 Tryz.ntmps17 (by simp[k61,k52]) (b22 n d h.ok)⟩
 ·exact h.elim
noncomputable def flQ (a:List UInt8):List UInt8 × Int:=if chkQ a=0 then (itoa ((valQ a).num/(valQ a).den),0) else ([],chkQ a)
noncomputable def cmpf (p q:Rat):Int × Int:=if lim (p.num*q.den) || lim (q.num*p.den) then (0,4) else (cmpI (p.num*q.den) (q.num*p.den),0)
noncomputable def cmpQ (a b:List UInt8):Int × Int:=if chkQ a≠0 then (0,chkQ a) else if chkQ b≠0 then (0,chkQ b) else cmpf (valQ a) (valQ b)
def c77r:Con:=aJ 118 true fun args K=>match args with
 | [.str a,.str b]=>Need (chkI a=0∧chkI b=0) (K (.tup [I (cmpI (valI a) (valI b)),I 0]))
 | _=>False
theorem k77r:aG Tryz.prog c77r:=by
 refine kO Tryz.func118 fun args K h=>?_
 simp only[c77r] at h;split at h
 ·rename_i a b
  obtain ⟨⟨ha,hb⟩,h⟩:=h
  have ht:=triB Tryz.func118 Tryz.ntmps118 (by simp[k94,k95,k98,k97,k76]) (b77 a b)
  unfold aJa chk2 at ht
  rw[ha,hb,if_neg (by simp)] at ht
  exact ⟨_,h,ht⟩
 ·exact h.elim
theorem b38 (a b:List UInt8):body Tryz.prog [c68,c46,c76,c51,c77r] {} true Tryz.f56 [S a,S b] (.tup [I (cmpQ a b).1,I (cmpQ a b).2]):=by
 unfold cmpQ
 by_cases hv:nv2 a b
 ·obtain ⟨na,nb⟩:=hv
  have ha:gT a:=⟨(jM na).1,(jM na).2.2.2⟩
  have hb:gT b:=⟨(jM nb).1,(jM nb).2.2.2⟩
  obtain ⟨p1,p2,p3⟩:=jA ha
  obtain ⟨q1,q2,q3⟩:=jA hb
  have m1:=mul8 p1 q2
  have m2:=mul8 q1 p2
  have e:cmpf (valQ a) (valQ b)=(cmpI ((valQ a).num*(valQ b).den) ((valQ b).num*(valQ a).den),0):=by
   unfold cmpf
   rw[dT (n:=(valQ a).num*(valQ b).den) (by omega),dT (n:=(valQ b).num*(valQ a).den) (by omega)]
   rfl
  rw[if_neg (by rw[iZ ha];simp),if_neg (by rw[iZ hb];simp),e]
  (repeat'((conv=>whnf);first|refine Zg fun _=>?_|refine Zn ?_|refine Zy ?_|fail))
  (conv=>whnf)
  (repeat' first|exact trivial|rfl|apply And.intro)
 ·by_cases hca:chkQ a=0
  ·by_cases hcb:chkQ b=0
   ·rw[if_neg (by simpa using hca),if_neg (by simpa using hcb)]
    obtain ⟨r1,r2,r3⟩:=vB (kW hca)
    obtain ⟨s1,s2,s3⟩:=vB (kW hcb)
    have v1:=qF (valQ a)
    have v2:=qG (valQ a)
    have v3:=qF (valQ b)
    have v4:=qG (valQ b)
    by_cases hk:mQ (pn (valQ a)) (pd (valQ a)) (pn (valQ b)) (pd (valQ b))
    ·have e:cmpf (valQ a) (valQ b)=(cmpI (valI (itoa (valI (pn (valQ a))*valI (pd (valQ b))))) (valI (itoa (valI (pn (valQ b))*valI (pd (valQ a))))),0):=by
      have hk2:=hk
      unfold mQ at hk2
      simp only[qF,qG,aQ] at hk2 ⊢
      unfold cmpf
      rw[hk2.1,hk2.2]
      rfl
     rw[e]
     have k1:=bM hk.1
     have k2:=bM hk.2
     by_cases na:nvOK a
     ·have nb:¬nvOK b:=fun e=>hv ⟨na,e⟩
      (repeat'((conv=>whnf);first|refine Zg fun _=>?_|refine Zy ?_|refine Zm ?_|fail))
      refine Need.mk ⟨⟨r1,r2⟩,s1,s2⟩ ?_
      (repeat'((conv=>whnf);first|refine Zy ?_|refine Zm ?_|fail))
      refine Need.mk ⟨k1,k2⟩ ?_
      (conv=>whnf)
      (repeat' first|exact trivial|rfl|apply And.intro)
     ·(repeat'((conv=>whnf);first|refine Zg fun _=>?_|refine Zy ?_|refine Zm ?_|fail))
      refine Need.mk ⟨⟨r1,r2⟩,s1,s2⟩ ?_
      (repeat'((conv=>whnf);first|refine Zy ?_|refine Zm ?_|fail))
      refine Need.mk ⟨k1,k2⟩ ?_
      (conv=>whnf)
      (repeat' first|exact trivial|rfl|apply And.intro)
    ·have e:cmpf (valQ a) (valQ b)=(0,4):=by
      unfold mQ at hk
      simp only[qF,qG] at hk
      unfold cmpf
      rw[if_pos]
      apply Classical.byContradiction
      intro hn
      apply hk
      simp only[Bool.or_eq_true,not_or,Bool.not_eq_true] at hn
      exact hn
     rw[e]
     by_cases na:nvOK a
     ·have nb:¬nvOK b:=fun e=>hv ⟨na,e⟩
      (repeat'((conv=>whnf);first|refine Zg fun _=>?_|refine Zy ?_|refine Zm ?_|fail))
      refine Need.mk ⟨⟨r1,r2⟩,s1,s2⟩ ?_
      (repeat'((conv=>whnf);first|refine Zy ?_|refine Zm ?_|fail))
      (conv=>whnf)
      (repeat' first|exact trivial|rfl|apply And.intro)
     ·(repeat'((conv=>whnf);first|refine Zg fun _=>?_|refine Zy ?_|refine Zm ?_|fail))
      refine Need.mk ⟨⟨r1,r2⟩,s1,s2⟩ ?_
      (repeat'((conv=>whnf);first|refine Zy ?_|refine Zm ?_|fail))
      (conv=>whnf)
      (repeat' first|exact trivial|rfl|apply And.intro)
   ·rw[if_neg (by simpa using hca),if_pos hcb]
    by_cases na:nvOK a
    ·by_cases nb:nvOK b
     ·exact absurd ⟨na,nb⟩ hv
     ·(repeat'((conv=>whnf);first|refine Zg fun _=>?_|refine Zy ?_|refine Zm ?_|fail))
      (conv=>whnf)
      (repeat' first|exact trivial|rfl|apply And.intro)
    ·(repeat'((conv=>whnf);first|refine Zg fun _=>?_|refine Zy ?_|refine Zm ?_|fail))
     (conv=>whnf)
     (repeat' first|exact trivial|rfl|apply And.intro)
  ·rw[if_pos hca]
   by_cases na:nvOK a
   ·exact absurd (iZ ⟨(jM na).1,(jM na).2.2.2⟩) hca
   ·(repeat'((conv=>whnf);first|refine Zy ?_|refine Zm ?_|fail))
    (conv=>whnf)
    (repeat' first|exact trivial|rfl|apply And.intro)
def c38:Con:=aJ 56 true fun args K=>match args with | [.str a,.str b]=>K (.tup [I (cmpQ a b).1,I (cmpQ a b).2]) | _=>False
theorem k38:aG Tryz.prog c38:=by
 refine kO Tryz.func56 fun args K h=>?_
 simp only[c38] at h;split at h
 ·rename_i a b;exact ⟨_,h,triB Tryz.func56 Tryz.ntmps56 (by simp[k68,k46,k76,k51,k77r]) (b38 a b)⟩
 ·exact h.elim
abbrev B6:Nat:=1000000
theorem get6 {l:List Int} (h:InB B6 l) (i:Nat):0≤l.getD i 0∧l.getD i 0<1000000:=h.getD0 (by decide) i
theorem v6 (m:Nat):valB B6 (aA B6 m)=m:=cG (by decide) m
theorem b141 (xs:List Int):body Tryz.prog [] { asks:=[(0,[])] } false Tryz.f206 [Ls xs] (Ls (bQ xs)):=by
 (repeat'((conv=>whnf);first|refine Zg fun _=>?_|fail))
 refine Ask.mk ⟨{ X:=Nat,pre:=fun i=>i≤xs.length∧bQ (xs.take i)=bQ xs,mod:=fun i _=>[(3,I i)],heap:=fun i _=>[V []],mu:=fun i=>i },rfl,?_⟩
 (repeat'((conv=>whnf);first|refine Zn ?_|fail))
 refine ⟨⟨xs.length,⟨Nat.le_refl _,by rw[List.take_length]⟩,?_⟩,fun (i:Nat) hi=>?_⟩
 ·(repeat' first|exact trivial|rfl|apply And.intro)
 ·obtain ⟨hi1,hi2⟩:=hi
  (apply Br.mk<;>intro)
  ·rename_i h1
   have h0:0<i:=by omega
   obtain ⟨k,rfl⟩:∃k,i=k+1:=⟨i-1,by omega⟩
   (repeat'((conv=>whnf);first|refine Zn ?_|fail))
   refine bX k (by omega) ?_
   (repeat'((conv=>whnf);first|refine Zg fun _=>?_|fail))
   (apply Br.mk<;>intro)
   ·rename_i hz
    (repeat'((conv=>whnf);first|refine Zn ?_|fail))
    refine ⟨(k:Nat),by show k<k+1;omega,⟨by omega,?_⟩,?_⟩
    ·rw[← hi2,kV _ _ (by omega),hz,dA]
    ·(repeat' first|exact trivial|rfl|apply And.intro|omega)
   ·rename_i hz
    (repeat'((conv=>whnf);first|refine Zn ?_|refine Zj ?_|fail))
    (conv=>whnf)
    rw[← hi2,kV _ _ (by omega)]
    exact (iU _ _ hz).symm
  ·have:i=0:=by omega
   subst this
   (repeat'((conv=>whnf);first|refine Zn ?_|refine Z0 ?_|fail))
   (conv=>whnf)
   rw[← hi2];rfl
def c141:Con:=aJ 206 false fun args K=>match args with | [.seq (.int .i64) xs]=>K (Ls (bQ xs)) | _=>False
theorem k141:aG Tryz.prog c141:=by
 refine kO Tryz.func206 fun args K h=>?_
 simp only[c141] at h;split at h
 ·rename_i xs;exact ⟨_,h,triB Tryz.func206 Tryz.ntmps206 (by simp) (b141 xs)⟩
 ·exact h.elim
theorem b143 (l:List Int) (i:Int) (h:0≤i):body Tryz.prog [] {} true Tryz.f236 [Ls l,I i] (I (l.getD i.toNat 0)):=by
 (repeat'((conv=>whnf);first|refine Zg fun _=>?_|fail))
 (apply Br.mk<;>intro)
 ·(repeat'((conv=>whnf);first|refine Zn ?_|fail))
  refine bX i.toNat (by omega) ?_
  (repeat'((conv=>whnf);first|refine Zg fun _=>?_|fail))
  (conv=>whnf)
  (repeat' first|rfl|apply And.intro)
 ·rename_i h1
  have:l.getD i.toNat 0=0:=dM _ _ (by omega)
  (conv=>whnf)
  rw[this]
  (repeat' first|rfl|apply And.intro)
def c143:Con:=aJ 236 true fun args K=>match args with | [.seq (.int .i64) l,.val (.int .i64 i)]=>Need (0≤i) (Ix i fun j=>K (I (l.getD j 0))) | _=>False
theorem k143:aG Tryz.prog c143:=by
 refine kO Tryz.func236 fun args K h=>?_
 simp only[c143] at h;split at h
 ·rename_i l i
  exact ⟨_,h.go.use h.ok,triB Tryz.func236 Tryz.ntmps236 (by simp) (b143 l i h.ok)⟩
 ·exact h.elim
theorem b144 (a b:List Int) (h:InB B6 a∧InB B6 b∧valB B6 b≤valB B6 a∧b.length≤a.length∧a.length≤100000):body Tryz.prog [c143,c141] { asks:=[(0,[1])] } false Tryz.f205 [Ls a,Ls b] (Ls (aA B6 (valB B6 a-valB B6 b).toNat)):=by
 obtain ⟨ha,hb,hle,hlb,hla⟩:=h
 (conv=>whnf)
 refine Ask.mk ⟨{ X:=Nat,pre:=fun i=>i≤a.length,mod:=fun i _=>[(5,.ref 1 1),(6,I (subK B6 a b i).2),(7,I i)],heap:=fun i _=>[V [],V (subK B6 a b i).1],mu:=fun i=>a.length-i,objs:=[1] },rfl,?_⟩
 (repeat'((conv=>whnf);first|refine Zn ?_|fail))
 refine ⟨⟨(0:Nat),Nat.zero_le _,by (repeat' first|exact trivial|rfl|exact Nat.one_pos|apply And.intro)⟩,fun (i:Nat) (hi:i≤a.length)=>?_⟩
 obtain ⟨g1,g2,g3,_⟩:=oL (B:=B6) (by decide) ha hb i
 have ga:=get6 ha i
 have gb:=get6 hb i
 (repeat'((conv=>whnf);first|refine Zg fun _=>?_|fail))
 (apply Br.mk<;>intro)
 ·have hlt:i<a.length:=by omega
  (repeat'((conv=>whnf);first|refine Zg fun _=>?_|refine Zn ?_|refine Zj ?_|(apply Pin.mk;apply Exists.intro)|apply Pinned.mk rfl rfl|fail))
  (apply Br.mk<;>intro)
  ·rename_i hneg
   have s1:(subK B6 a b (i+1)).1=(subK B6 a b i).1++ [a.getD i 0-b.getD i 0-(subK B6 a b i).2+1000000]:=by
    simp only[subK];rw[if_neg (by omega)];rfl
   have s2:(subK B6 a b (i+1)).2=1:=by
    simp only[subK];rw[if_neg (by omega)]
   (repeat'((conv=>whnf);first|refine Zn ?_|refine Zl ?_|fail))
   refine ⟨(i+1:Nat),by show a.length-(i+1)<a.length-i;omega,hlt,?_⟩
   (repeat' first|exact trivial|rfl|exact Nat.one_pos|apply And.intro|omega)
   exact s1.symm
  ·rename_i hneg
   have s1:(subK B6 a b (i+1)).1=(subK B6 a b i).1++ [a.getD i 0-b.getD i 0-(subK B6 a b i).2]:=by
    simp only[subK];rw[if_pos (by omega)]
   have s2:(subK B6 a b (i+1)).2=0:=by
    simp only[subK];rw[if_pos (by omega)]
   (repeat'((conv=>whnf);first|refine Zn ?_|refine Zl ?_|fail))
   refine ⟨(i+1:Nat),by show a.length-(i+1)<a.length-i;omega,hlt,?_⟩
   (repeat' first|exact trivial|rfl|exact Nat.one_pos|apply And.intro|omega)
   exact s1.symm
 ·have e:i=a.length:=by omega
  subst e
  have hs:=(aFf (B:=B6) (by decide) ha hb (n:=a.length) (by omega) (by omega) hle).1
  (conv=>whnf)
  exact hs
theorem b142 (a:List Int) (d:Int) (h:InB B6 a∧(0<d∧d<1000000)∧a.length≤100000):body Tryz.prog [c141] { asks:=[(0,[])] } false Tryz.f235 [Ls a,I d] (.tup [Ls (aA B6 (valB B6 a/d).toNat),Ls (aA B6 (valB B6 a%d).toNat)]):=by
 obtain ⟨ha,hd,hla⟩:=h
 obtain ⟨q1,q2,q3⟩:=aFi (B:=B6) (by decide) hd.1 hd.2 ha
 (repeat'((conv=>whnf);first|refine Zg fun _=>?_|refine Zn ?_|refine Z8 ?_|fail))
 refine Ask.mk ⟨{ X:=Nat,pre:=fun m=>m≤a.length,mod:=fun m _=>[(7,I (divK B6 d a m).2),(8,I ((a.length:Int)-1-m))],heap:=fun m _=>[V [],V [],V (divK B6 d a m).1],mu:=fun m=>a.length-m },rfl,?_⟩
 (repeat'((conv=>whnf);first|refine Zn ?_|fail))
 refine ⟨⟨(0:Nat),Nat.zero_le _,?_⟩,fun (m:Nat) (hm:m≤a.length)=>?_⟩
 ·(repeat' first|exact trivial|rfl|apply And.intro|omega)
 obtain ⟨g1,g2,g3,_⟩:=iW (B:=B6) (by decide) hd.1 ha m hm
 have ga:=get6 ha (a.length-1-m)
 (apply Br.mk<;>intro)
 ·have hlt:m<a.length:=by omega
  (repeat'((conv=>whnf);first|refine Zn ?_|fail))
  refine bX (a.length-1-m) (by omega) ?_
  (repeat'((conv=>whnf);first|refine Zg fun _=>?_|refine Za ?_|refine Zn ?_|fail))
  refine bX (a.length-1-m) (by omega) ?_
  (repeat'((conv=>whnf);first|refine Za ?_|refine Zn ?_|fail))
  refine ⟨(m+1:Nat),by show a.length-(m+1)<a.length-m;omega,hlt,?_⟩
  (repeat' first|exact trivial|rfl|apply And.intro|omega)
  all_goals (rw[Int.add_comm];rfl)
 ·have e:m=a.length:=by omega
  subst e
  (repeat'((conv=>whnf);first|refine Zl ?_|fail))
  (conv=>whnf)
  (repeat' first|exact trivial|apply And.intro)
  ·exact q1
  ·exact q3
theorem aHf {B:Nat} (hB:2≤B) {x:Int} (hx:0≤x∧x<B) {b:List Int} (hb:InB B b) {i:Nat} {out:List Int} (ho:InB B out) (hl:i+b.length+1≤out.length) (hz:out.getD (i+b.length) 0=0) (hc:(mulK B x b i out b.length).2=0):(mulK B x b i out (b.length+1)).1=(mulK B x b i out b.length).1:=by
 obtain ⟨h1,h2,h3,h4,h5,h6⟩:=gQ hB hx hb (i:=i) ho b.length (by omega)
 simp only[mulK]
 rw[hc,h5 _ (Nat.le_refl _),hz,dM b b.length (Nat.le_refl _),Int.mul_zero,Int.add_zero,Int.add_zero,Int.zero_emod]
 refine gR (by simp) fun j hj=>?_
 rw[List.length_set] at hj
 rw[eC _ _ _ (by omega)]
 by_cases e:j=i+b.length
 ·rw[if_pos e,e,h5 _ (Nat.le_refl _),hz]
 ·rw[if_neg e]
theorem b145 (a b:List Int) (h:InB B6 a∧InB B6 b∧a.length≤100000∧b.length≤100000):body Tryz.prog [c143,c141] { asks:=[(0,[]),(2,[])] } false Tryz.f237 [Ls a,Ls b] (Ls (aA B6 (valB B6 a*valB B6 b).toNat)):=by
 obtain ⟨ha,hb,hla,hlb⟩:=h
 obtain ⟨n,hn⟩:∃n,n=a.length+b.length+1:=⟨_,rfl⟩
 (repeat'((conv=>whnf);first|refine Zg fun _=>?_|refine Zn ?_|refine Z8 ?_|fail))
 refine Ask.mk ⟨{ X:=Nat,pre:=fun i=>i≤a.length,mod:=fun i _=>[(6,I i)],heap:=fun i _=>[V [],V (mulR B6 a b (List.replicate n 0) i)],mu:=fun i=>a.length-i },rfl,?_⟩
 (repeat'((conv=>whnf);first|refine Zn ?_|fail))
 refine ⟨⟨(0:Nat),Nat.zero_le _,?_⟩,fun (i:Nat) (hi:i≤a.length)=>?_⟩
 ·(repeat' first|exact trivial|rfl|apply And.intro)
  show List.replicate _ _=List.replicate _ _
  congr 1;omega
 obtain ⟨g1,g2,g3,g4⟩:=oM (B:=B6) (by decide) ha hb (n:=n) (by omega) i hi
 have ga:=get6 ha i
 (repeat'((conv=>whnf);first|refine Zg fun _=>?_|fail))
 (apply Br.mk<;>intro)
 ·have hlt:i<a.length:=by omega
  have hz:=g4 (i+b.length) (Nat.le_refl _)
  have hx:0≤a.getD i 0∧a.getD i 0<(B6:Int):=ga
  refine Ask.mk ⟨{ X:=Nat,pre:=fun k=>k≤b.length+1,mod:=fun k _=>[(8,I k),(7,I (mulK B6 (a.getD i 0) b i (mulR B6 a b (List.replicate n 0) i) k).2)],heap:=fun k _=>[V [],V (mulK B6 (a.getD i 0) b i (mulR B6 a b (List.replicate n 0) i) k).1],mu:=fun k=>b.length+1-k },rfl,?_⟩
  (repeat'((conv=>whnf);first|refine Zn ?_|fail))
  refine ⟨⟨(0:Nat),Nat.zero_le _,by (repeat' first|exact trivial|rfl|apply And.intro)⟩,fun (k:Nat) (hk:k≤b.length+1)=>?_⟩
  obtain ⟨m1,m2,m3,_⟩:=gQ (B:=B6) (by decide) (x:=a.getD i 0) hx hb (i:=i) g2 k (by omega)
  have m3:0≤(mulK B6 (a.getD i 0) b i (mulR B6 a b (List.replicate n 0) i) k).2∧(mulK B6 (a.getD i 0) b i (mulR B6 a b (List.replicate n 0) i) k).2<1000000:=m3
  have hrow:=(aFg (B:=B6) (by decide) (x:=a.getD i 0) hx hb (i:=i) g2 (by omega) hz).1
  have gb:=get6 hb k
  have gm:=get6 m2 (i+k)
  have hm:0≤a.getD i 0*b.getD k 0∧a.getD i 0*b.getD k 0≤999999*999999:=⟨Int.mul_nonneg ga.1 gb.1,Int.mul_le_mul (by omega) (by omega) gb.1 (by omega)⟩
  by_cases hg:k<b.length∨(mulK B6 (a.getD i 0) b i (mulR B6 a b (List.replicate n 0) i) k).2>0
  ·have hlt2:k<b.length+1:=by
    rcases hg with hg | hg
    ·omega
    ·by_cases e:k=b.length+1
     ·rw[e,hrow] at hg;omega
     ·omega
   (repeat'((conv=>whnf);first|refine Zg fun _=>?_|refine Za ?_|refine Zn ?_|refine Zj ?_|(apply Pin.mk;apply Exists.intro)|apply Pinned.mk rfl rfl|refine Zy ?_|refine Zr (fun _=>?_) fun _=>?_|fail))
   all_goals first | (exfalso;omega) | skip
   all_goals (skip;refine ⟨(k+1:Nat),by show b.length+1-(k+1)<b.length+1-k;omega,hlt2,?_⟩;(repeat' first|exact trivial|rfl|apply And.intro))
  ·have hc:(mulK B6 (a.getD i 0) b i (mulR B6 a b (List.replicate n 0) i) k).2=0:=by omega
   have hfin:(mulK B6 (a.getD i 0) b i (mulR B6 a b (List.replicate n 0) i) k).1=mulR B6 a b (List.replicate n 0) (i+1):=by
    by_cases e:k=b.length
    ·subst e
     exact (aHf (B:=B6) (by decide) hx hb g2 (by omega) hz hc).symm
    ·have e:k=b.length+1:=by omega
     subst e;rfl
   (repeat'((conv=>whnf);first|refine Zg fun _=>?_|refine Zn ?_|refine Zm ?_|fail))
   all_goals first | (exfalso;omega) | skip
   all_goals (skip;refine ⟨(i+1:Nat),by show a.length-(i+1)<a.length-i;omega,hlt,?_⟩;(repeat' first|exact trivial|rfl|apply And.intro);exact hfin)
 ·have e:i=a.length:=by omega
  subst e
  (conv=>whnf)
  exact aFh (B:=B6) (by decide) ha hb (by omega)
def c144:Con:=aJ 205 false fun args K=>match args with | [.seq (.int .i64) a,.seq (.int .i64) b]=>Need (InB B6 a∧InB B6 b∧valB B6 b≤valB B6 a∧b.length≤a.length∧a.length≤100000) (K (Ls (aA B6 (valB B6 a-valB B6 b).toNat))) | _=>False
theorem k144:aG Tryz.prog c144:=by
 refine kO Tryz.func205 fun args K h=>?_
 simp only[c144] at h;split at h
 ·rename_i a b;exact ⟨_,h.go,triB Tryz.func205 Tryz.ntmps205 (by simp[k143,k141]) (b144 a b h.ok)⟩
 ·exact h.elim
def c142:Con:=aJ 235 false fun args K=>match args with | [.seq (.int .i64) a,.val (.int .i64 d)]=>Need (InB B6 a∧(0<d∧d<1000000)∧a.length≤100000) (K (.tup [Ls (aA B6 (valB B6 a/d).toNat),Ls (aA B6 (valB B6 a%d).toNat)])) | _=>False
theorem k142:aG Tryz.prog c142:=by
 refine kO Tryz.func235 fun args K h=>?_
 simp only[c142] at h;split at h
 ·rename_i a d;exact ⟨_,h.go,triB Tryz.func235 Tryz.ntmps235 (by simp[k141]) (b142 a d h.ok)⟩
 ·exact h.elim
def c145:Con:=aJ 237 false fun args K=>match args with | [.seq (.int .i64) a,.seq (.int .i64) b]=>Need (InB B6 a∧InB B6 b∧a.length≤100000∧b.length≤100000) (K (Ls (aA B6 (valB B6 a*valB B6 b).toNat))) | _=>False
theorem k145:aG Tryz.prog c145:=by
 refine kO Tryz.func237 fun args K h=>?_
 simp only[c145] at h;split at h
 ·rename_i a b;exact ⟨_,h.go,triB Tryz.func237 Tryz.ntmps237 (by simp[k143,k141]) (b145 a b h.ok)⟩
 ·exact h.elim
def sgnI (x:Int):Int:=if x<0 then -1 else if x=0 then 0 else 1
theorem b146 (a b:List Int) (h:InB B6 a∧InB B6 b):body Tryz.prog [] { asks:=[(0,[])] } true Tryz.f204 [Ls a,Ls b] (I (sgnI (cmpL a b))):=by
 obtain ⟨ha,hb⟩:=h
 (repeat'((conv=>whnf);first|refine Zg fun _=>?_|fail))
 (apply Br.mk<;>intro)
 ·rename_i h1
  have hc:cmpL a b=(a.length:Int)-b.length:=by unfold cmpL;rw[if_neg (by omega)]
  rw[hc]
  (repeat'((conv=>whnf);first|refine Zg fun _=>?_|fail))
  (apply Br.mk<;>intro)
  ·rename_i h2
   (conv=>whnf)
   (repeat' first|rfl|apply And.intro)
   unfold sgnI;rw[if_pos (by omega)]
  ·rename_i h2
   (conv=>whnf)
   (repeat' first|rfl|apply And.intro)
   unfold sgnI;rw[if_neg (by omega),if_neg (by omega)]
 ·rename_i h1
  have hl:a.length=b.length:=by omega
  have hc:cmpL a b=eD a b a.length:=by unfold cmpL;rw[if_pos hl]
  rw[hc]
  (repeat'((conv=>whnf);first|refine Zg fun _=>?_|refine Zn ?_|fail))
  refine Ask.mk ⟨{ X:=Nat,pre:=fun m=>m≤a.length∧eD a b a.length=eD a b (a.length-m),mod:=fun m _=>[(5,I ((a.length:Int)-1-m))],heap:=fun _ _=>[],mu:=fun m=>a.length-m },rfl,?_⟩
  (repeat'((conv=>whnf);first|refine Zn ?_|fail))
  refine ⟨⟨(0:Nat),⟨Nat.zero_le _,rfl⟩,by (repeat' first|exact trivial|rfl|apply And.intro|omega)⟩,fun (i:Nat) hi=>?_⟩
  obtain ⟨hi1,hi2⟩:=hi
  (apply Br.mk<;>intro)
  ·have hlt:i<a.length:=by omega
   obtain ⟨m,hm⟩:∃m,a.length-i=m+1:=⟨a.length-i-1,by omega⟩
   have e2:a.length-(i+1)=m:=by omega
   have ga:=get6 ha m
   have gb:=get6 hb m
   rw[hm,eD] at hi2
   (repeat'((conv=>whnf);first|refine Zn ?_|(apply Pin.mk;apply Exists.intro)|apply Pinned.mk rfl rfl|fail))
   refine bX m (by omega) ?_
   (repeat'((conv=>whnf);first|refine Zg fun _=>?_|refine Zn ?_|(apply Pin.mk;apply Exists.intro)|apply Pinned.mk rfl rfl|fail))
   refine bX m (by omega) ?_
   (repeat'((conv=>whnf);first|refine Zg fun _=>?_|(apply Pin.mk;apply Exists.intro)|apply Pinned.mk rfl rfl|fail))
   (apply Br.mk<;>intro)
   ·rename_i h2
    rw[if_neg (by omega)] at hi2
    (conv=>whnf)
    (repeat' first|rfl|apply And.intro)
    unfold sgnI;rw[hi2,if_pos (by omega)]
   ·rename_i h2
    (repeat'((conv=>whnf);first|refine Zn ?_|(apply Pin.mk;apply Exists.intro)|apply Pinned.mk rfl rfl|fail))
    refine bX m (by omega) ?_
    (repeat'((conv=>whnf);first|refine Zg fun _=>?_|refine Zn ?_|(apply Pin.mk;apply Exists.intro)|apply Pinned.mk rfl rfl|fail))
    refine bX m (by omega) ?_
    (repeat'((conv=>whnf);first|refine Zg fun _=>?_|(apply Pin.mk;apply Exists.intro)|apply Pinned.mk rfl rfl|fail))
    (apply Br.mk<;>intro)
    ·rename_i h3
     rw[if_neg (by omega)] at hi2
     (conv=>whnf)
     (repeat' first|rfl|apply And.intro)
     unfold sgnI;rw[hi2,if_neg (by omega),if_neg (by omega)]
    ·rename_i h3
     rw[if_pos (by omega)] at hi2
     (repeat'((conv=>whnf);first|refine Zn ?_|fail))
     refine ⟨(i+1:Nat),by show a.length-(i+1)<a.length-i;omega,⟨hlt,by rw[e2];exact hi2⟩,?_⟩
     (repeat' first|exact trivial|rfl|apply And.intro|omega)
  ·have e:i=a.length:=by omega
   subst e
   rw[Nat.sub_self] at hi2
   (conv=>whnf)
   (repeat' first|rfl|apply And.intro)
   unfold sgnI
   rw[hi2];rfl
def c146:Con:=aJ 204 true fun args K=>match args with | [.seq (.int .i64) a,.seq (.int .i64) b]=>Need (InB B6 a∧InB B6 b) (K (I (sgnI (cmpL a b)))) | _=>False
theorem k146:aG Tryz.prog c146:=by
 refine kO Tryz.func204 fun args K h=>?_
 simp only[c146] at h;split at h
 ·rename_i a b;exact ⟨_,h.go,triB Tryz.func204 Tryz.ntmps204 (by simp) (b146 a b h.ok)⟩
 ·exact h.elim
end RB
end
section
namespace IB
theorem aMj {B:Nat} (hB:2≤B) {l:List Int} (h:InB B l) (j:Nat):((l.getD (j+2) 0*B+l.getD (j+1) 0)*B+l.getD j 0)*(B:Int)^j≤valB B l:=by
 by_cases hj:j<l.length
 ·have e0:=dS (B:=B) l j (by omega)
  have b0:=aY (iO h j)
  have hP:=dB hB j
  rw[bB l j hj] at e0
  simp only[valB] at e0
  have h1:l.getD (j+2) 0*B+l.getD (j+1) 0≤valB B (l.drop (j+1)):=by
   by_cases h1:j+1<l.length
   ·rw[bB l (j+1) h1]
    simp only[valB]
    have h2:l.getD (j+2) 0≤valB B (l.drop (j+1+1)):=by
     by_cases h2:j+2<l.length
     ·rw[bB l (j+1+1) h2]
      simp only[valB]
      have:=aY (eW h (j+1+1+1))
      have h3:(0:Int)≤(B:Int)*valB B (l.drop (j+1+1+1)):=Int.mul_nonneg (by omega) this
      show l.getD (j+1+1) 0≤ _
      omega
     ·rw[dM l (j+2) (by omega)]
      exact aY (eW h _)
    have h3:(B:Int)*l.getD (j+2) 0≤B*valB B (l.drop (j+1+1)):=Int.mul_le_mul_of_nonneg_left h2 (by omega)
    rw[Int.mul_comm (l.getD (j+2) 0)]
    omega
   ·rw[dM l (j+2) (by omega),dM l (j+1) (by omega),Int.zero_mul,Int.zero_add]
    exact aY (eW h _)
  have h2:(l.getD (j+2) 0*B+l.getD (j+1) 0)*B≤valB B (l.drop (j+1))*B:=Int.mul_le_mul_of_nonneg_right h1 (by omega)
  rw[Int.mul_comm (valB B (l.drop (j+1)))] at h2
  have h3:((l.getD (j+2) 0*B+l.getD (j+1) 0)*B+l.getD j 0)*(B:Int)^j≤(l.getD j 0+B*valB B (l.drop (j+1)))*(B:Int)^j:=Int.mul_le_mul_of_nonneg_right (by omega) (Int.le_of_lt hP)
  rw[Int.mul_comm (l.getD j 0+B*valB B (l.drop (j+1)))] at h3
  omega
 ·rw[dM l (j+2) (by omega),dM l (j+1) (by omega),dM l j (by omega)]
  simp only[Int.zero_mul,Int.add_zero]
  exact aY h
theorem aQc {B:Nat} (hB:2≤B) {b:List Int} (h:InB B b) (hk:2≤b.length):valB B b≤(b.getD (b.length-1) 0*B+b.getD (b.length-2) 0+1)*(B:Int)^ (b.length-2):=by
 have e0:=dS (B:=B) b (b.length-2) (by omega)
 have b0:=gP hB (iO h (b.length-2)) (n:=b.length-2) (by rw[List.length_take];omega)
 rw[bB b (b.length-2) (by omega),show b.length-2+1=b.length-1 by omega,bB b (b.length-1) (by omega),List.drop_eq_nil_of_le (by omega)] at e0
 simp only[valB,Int.mul_zero,Int.add_zero] at e0
 rw[e0,show (b.getD (b.length-1) 0*(B:Int)+b.getD (b.length-2) 0+1)*(B:Int)^ (b.length-2)=(B:Int)^ (b.length-2)*(b.getD (b.length-2) 0+B*b.getD (b.length-1) 0)+(B:Int)^ (b.length-2) by
  rw[Int.add_mul _ 1,Int.one_mul,Int.mul_comm _ ((B:Int)^ (b.length-2)),Int.add_comm _ (b.getD (b.length-2) 0),Int.mul_comm _ (B:Int)]]
 omega
theorem aKk {B:Nat} (hB:2≤B) {b:List Int} (hb:InB B b) (hk:2≤b.length) {n R:Nat} (hn:0<n) (hv:valB B b=n) (hR:R<n*B) (t3:Int)
  (ht:t3=((aA B R).getD b.length 0*B+(aA B R).getD (b.length-1) 0)*B+(aA B R).getD (b.length-2) 0):
  0≤t3/(b.getD (b.length-1) 0*B+b.getD (b.length-2) 0+1)∧t3/(b.getD (b.length-1) 0*B+b.getD (b.length-2) 0+1)<B∧t3/(b.getD (b.length-1) 0*B+b.getD (b.length-2) 0+1)*n≤R:=by
 have hi:=aO hB R
 have h3:=aMj hB hi (b.length-2)
 rw[show b.length-2+2=b.length by omega,show b.length-2+1=b.length-1 by omega,cG hB,← ht] at h3
 have h2:=aQc hB hb hk
 rw[hv] at h2
 have g1:=hb.get (show b.length-1<b.length by omega)
 have g2:=hb.get (show b.length-2<b.length by omega)
 have x0:=hi.getD0 (by omega) b.length
 have x1:=hi.getD0 (by omega) (b.length-1)
 have x2:=hi.getD0 (by omega) (b.length-2)
 have top0:0≤b.getD (b.length-1) 0*(B:Int):=Int.mul_nonneg g1.1 (by omega)
 have t0:0≤t3:=by
  rw[ht]
  have:=Int.mul_nonneg x0.1 (show (0:Int)≤B by omega)
  have:=Int.mul_nonneg (show 0≤(aA B R).getD b.length 0*B+(aA B R).getD (b.length-1) 0 by omega) (show (0:Int)≤B by omega)
  omega
 obtain ⟨e1,e2⟩:=aOq (V:=(n:Int)) (R:=(R:Int)) (t3:=t3) (top:=b.getD (b.length-1) 0*B+b.getD (b.length-2) 0) (P:=(B:Int)^ (b.length-2)) (dB hB _) (by omega) h2 (by omega) h3 t0
 refine ⟨e1,?_,(Int.le_ediv_iff_mul_le (by omega)).1 e2⟩
 refine Int.lt_of_le_of_lt e2 (Int.ediv_lt_of_lt_mul (by omega) ?_)
 rw[Int.mul_comm]
 exact_mod_cast hR
end IB
end
section
open Go Go.Proofs Go.Eng Go.Shelf IB Go.Lib Go.RowKit
namespace RB
theorem yT {B:Nat} (hB:2≤B) {a b:List Int} (ha:InB B a) (hb:InB B b) (hl:a.length=b.length):∀m,m≤a.length→(∀j,m≤j→j<a.length→a.getD j 0=b.getD j 0)→
  (eD a b m<0↔valB B a<valB B b)∧(eD a b m=0↔valB B a=valB B b)
 | 0,_,h=>by
  have:a=b:=gR hl fun j hj=>h j (Nat.zero_le _) hj
  subst this
  simp[eD]
 | m+1,hm,h=>by
  simp only[eD]
  by_cases e:a.getD m 0=b.getD m 0
  ·rw[if_pos e]
   refine yT hB ha hb hl m (by omega) fun j h1 h2=>?_
   by_cases e2:j=m
   ·rw[e2];exact e
   ·exact h j (by omega) h2
  ·rw[if_neg e]
   rcases Int.lt_or_gt_of_ne e with h1 | h1
   ·have:=uY (B:=B) hB ha hb hl (by omega) (fun j h2 h3=>h j (by omega) h3) h1
    omega
   ·have:=uY (B:=B) hB hb ha hl.symm (by omega) (fun j h2 h3=>(h j (by omega) (by omega)).symm) h1
    omega
theorem aFv {B:Nat} (hB:2≤B) (m n:Nat):(cmpL (aA B m) (aA B n)<0↔m<n)∧(cmpL (aA B m) (aA B n)=0↔m=n):=by
 unfold cmpL
 split
 ·rename_i hl
  have:=yT hB (aO hB m) (aO hB n) hl _ (Nat.le_refl _) fun j h1 h2=>by omega
  rw[cG hB,cG hB] at this
  omega
 ·rename_i hl
  by_cases h:(aA B m).length<(aA B n).length
  ·have:=fP hB h
   omega
  ·have:=fP hB (m:=n) (n:=m) (by omega)
   omega
theorem aKt {n:Nat} (h:(aA B6 n).length=1):(aA B6 n).getD 0 0=n∧n<1000000:=by
 have hv:=v6 n
 have hg:=get6 (show InB B6 (aA B6 n) from aO (by decide) n) 0
 cases hl:aA B6 n with
 | nil=>rw[hl] at h;simp at h
 | cons x r=>
  have hr:r= []:=by rw[hl] at h;simpa using h
  subst hr
  rw[hl] at hv hg
  simp only[valB,Int.mul_zero,Int.add_zero] at hv
  refine ⟨hv,?_⟩
  have hg:0≤x∧x<1000000:=hg
  omega
theorem eE {p q:Nat} (h:p≤q):(aA B6 p).length≤(aA B6 q).length:=Classical.byContradiction fun hx=>by
 have:=fP (B:=B6) (by decide) (m:=q) (n:=p) (by omega)
 omega
def r9 (n:Nat) (a:List Int):Nat→SV
 | 0=>.ref 3 1
 | m+1=>Ls (aA B6 (divK B6 n a (m+1)).2.toNat)
theorem gX {m k:Nat} (h:m<B6^k):(aA B6 m).length≤k:=by
 by_cases h0:m=0
 ·subst h0;rw[aX];exact Nat.zero_le _
 ·have:=(cU (B:=B6) (by decide) (n:=m) (by omega)).1
  have:=(Nat.pow_lt_pow_iff_right (show 1<B6 by decide)).1 (Nat.lt_of_le_of_lt (by exact_mod_cast this) h)
  omega
theorem aPt {p q:Nat} {x:Int} (hc:(x<0↔p<q)∧(x=0↔p=q)) (h:0≤sgnI x):q≤p:=by
 unfold sgnI at h
 split at h<;>omega
theorem aPu {p q:Nat} {x:Int} (hc:(x<0↔p<q)∧(x=0↔p=q)) (h:¬0≤sgnI x):p<q:=by
 unfold sgnI at h
 split at h
 ·omega
 ·split at h<;>omega
theorem aFw {B:Nat} (hB:2≤B) {d:Int} (hd:0<d) {a:List Int} (ha:InB B a):
  bQ (divK B d a a.length).1=aA B (valB B a/d).toNat∧(divK B d a a.length).2=valB B a%d:=by
 obtain ⟨h1,h2,h3,h4⟩:=iW hB hd ha a.length (Nat.le_refl _)
 rw[Nat.sub_self,List.drop_zero,List.drop_zero] at h4
 have h5:valB B a/d=valB B (divK B d a a.length).1∧valB B a%d=(divK B d a a.length).2:=by
  rw[Int.ediv_emod_unique hd]
  exact ⟨by rw[Int.add_comm,Int.mul_comm];exact h4,h3.1,h3.2⟩
 exact ⟨by rw[h5.1];exact cH hB h2,h5.2.symm⟩
theorem aBi {n R r g m:Nat} {a:List Int} (hn:0<n) (hR:a.getD (a.length-1-m) 0+(r:Int)*1000000=R) (hr:(divK B6 n a m).2=r) (hg:n*g≤R) (hlt:R-n*g<n):
  (divK B6 n a (m+1)).1=(divK B6 n a m).1.set (a.length-1-m) g∧(divK B6 n a (m+1)).2=((R-n*g:Nat):Int):=by
 have hx:a.getD (a.length-1-m) 0+(divK B6 n a m).2*(B6:Int)=R:=by
  rw[hr,← hR];rfl
 have e1:R/n=g:=by
  refine Nat.div_eq_of_lt_le (by rw[Nat.mul_comm];exact hg) ?_
  rw[Nat.succ_mul,Nat.mul_comm];omega
 have e2:R%n=R-n*g:=by
  have:=Nat.div_add_mod R n
  rw[e1] at this;omega
 simp only[divK]
 rw[hx,← Int.natCast_ediv,← Int.natCast_emod,e1,e2]
 exact ⟨rfl,rfl⟩
theorem b113 (a:List Int) (n:Nat) (h:InB B6 a∧(0<n∧n<B6^100)∧a.length≤1000):body Tryz.prog [c142,c141,c143,c145,c144,c146] { asks:=[(0,[]),(2,[])] } false Tryz.f196 [Ls a,Ls (aA B6 n)] (.tup [Ls (aA B6 (valB B6 a/n).toNat),Ls (aA B6 (valB B6 a%n).toNat)]):=by
 obtain ⟨ha,⟨hn0,hn⟩,hla⟩:=h
 have jn:InB B6 (aA B6 n):=aO (by decide) n
 have vn:=v6 n
 (repeat'((conv=>whnf);first|refine Zg fun _=>?_|fail))
 (apply Br.mk<;>intro)
 ·rename_i h1
  obtain ⟨hx,hxlt⟩:=aKt (n:=n) (by omega)
  (repeat'((conv=>whnf);first|refine Zg fun _=>?_|refine Zn ?_|refine Z0 ?_|fail))
  refine Need.mk ⟨ha,by omega,by omega⟩ ?_
  rw[hx]
  (conv=>whnf)
  (repeat' first|exact trivial|rfl|apply And.intro)
 ·rename_i h1
  have hk:2≤(aA B6 n).length:=by
   have:=(cU (B:=B6) (by decide) hn0).2.2
   omega
  obtain ⟨b,hb⟩:∃b,aA B6 n=b:=⟨_,rfl⟩
  have hbl:b.length≤200:=by
   rw[← hb]
   have:=(cU (B:=B6) (by decide) hn0).1
   have:=(Nat.pow_lt_pow_iff_right (show 1<B6 by decide)).1 (Nat.lt_of_le_of_lt (by exact_mod_cast this) hn)
   omega
  rw[hb] at jn vn hk h1 ⊢
  have gt1:=get6 jn (b.length-1)
  have gt2:=get6 jn (b.length-2)
  (repeat'((conv=>whnf);first|refine Zg fun _=>?_|refine Zn ?_|(apply Pin.mk;apply Exists.intro)|apply Pinned.mk rfl rfl|fail))
  refine bX (b.length-1) (by omega) ?_
  (repeat'((conv=>whnf);first|refine Zg fun _=>?_|refine Zn ?_|(apply Pin.mk;apply Exists.intro)|apply Pinned.mk rfl rfl|fail))
  refine bX (b.length-2) (by omega) ?_
  (repeat'((conv=>whnf);first|refine Zg fun _=>?_|refine Zn ?_|(apply Pin.mk;apply Exists.intro)|apply Pinned.mk rfl rfl|refine Z8 ?_|fail))
  (conv=>whnf)
  refine Ask.mk ⟨{ X:=Nat,pre:=fun m=>m≤a.length,mod:=fun m _=>[(9,r9 n a m),(10,I ((a.length:Int)-1-m))],heap:=fun m _=>[V [],V [],V (divK B6 n a m).1,V []],mu:=fun m=>a.length-m },rfl,?_⟩
  (repeat'((conv=>whnf);first|refine Zn ?_|fail))
  refine ⟨⟨(0:Nat),Nat.zero_le _,?_⟩,fun (m:Nat) (hm:m≤a.length)=>?_⟩
  ·(repeat' first|exact trivial|rfl|apply And.intro|omega)
  have hnI:(0:Int)<n:=by omega
  obtain ⟨g1,g2,g3,_⟩:=iW (B:=B6) (by decide) hnI ha m hm
  have ga:=get6 ha (a.length-1-m)
  obtain ⟨r,hr⟩:∃r:Nat,(divK B6 n a m).2=r:=⟨_,(Int.eq_ofNat_of_zero_le g3.1).choose_spec⟩
  obtain ⟨R,hR⟩:∃R:Nat,a.getD (a.length-1-m) 0+(r:Int)*1000000=R:=⟨_,(Int.eq_ofNat_of_zero_le (by omega)).choose_spec⟩
  have hL:bQ (a.getD (a.length-1-m) 0::aA B6 r)=aA B6 R:=by
   rw[cH (B:=B6) (by decide) (InB.cons.2 ⟨ga,aO (by decide) r⟩)]
   congr 1
   show (a.getD (a.length-1-m) 0+(B6:Int)*valB B6 (aA B6 r)).toNat=R
   rw[v6,Int.mul_comm]
   show (a.getD (a.length-1-m) 0+(r:Int)*1000000).toNat=R
   omega
  have hRn:R<n*B6:=by
   have:(r:Int)<n:=by omega
   show R<n*1000000
   omega
  have lR:(aA B6 R).length≤101:=gX (Nat.lt_of_lt_of_le hRn (by rw[Nat.pow_succ];exact Nat.mul_le_mul_right _ (Nat.le_of_lt hn)))
  have rb:=aKk (B:=B6) (by decide) jn hk hn0 vn hRn _ rfl
  have x0:=get6 (show InB B6 (aA B6 R) from aO (by decide) R) b.length
  have x1:=get6 (show InB B6 (aA B6 R) from aO (by decide) R) (b.length-1)
  have x2:=get6 (show InB B6 (aA B6 R) from aO (by decide) R) (b.length-2)
  obtain ⟨G,hG⟩:∃G:Nat,(((aA B6 R).getD b.length 0*1000000+(aA B6 R).getD (b.length-1) 0)*1000000+(aA B6 R).getD (b.length-2) 0)/(b.getD (b.length-1) 0*1000000+b.getD (b.length-2) 0+1)=G:=⟨_,(Int.eq_ofNat_of_zero_le rb.1).choose_spec⟩
  have G1:G<1000000:=by
   have:(((aA B6 R).getD b.length 0*1000000+(aA B6 R).getD (b.length-1) 0)*1000000+(aA B6 R).getD (b.length-2) 0)/(b.getD (b.length-1) 0*1000000+b.getD (b.length-2) 0+1)<1000000:=rb.2.1
   omega
  have G2:n*G≤R:=by
   have h3:(((aA B6 R).getD b.length 0*1000000+(aA B6 R).getD (b.length-1) 0)*1000000+(aA B6 R).getD (b.length-2) 0)/(b.getD (b.length-1) 0*1000000+b.getD (b.length-2) 0+1)*(n:Int)≤R:=rb.2.2
   rw[hG,Int.mul_comm] at h3
   exact_mod_cast h3
  have iG:InB B6 [(G:Int)]:=fun x hx=>by
   have:x=G:=by simpa using hx
   subst this
   exact ⟨by omega,by show (G:Int)<1000000;omega⟩
  have eG:(valB B6 b*valB B6 [(G:Int)]).toNat=n*G:=by
   rw[vn,show valB B6 [(G:Int)]=G by simp[valB],← Int.natCast_mul,Int.toNat_natCast]
  rcases m with _ | m
  ·have hr0:r=0:=by
    have:(divK B6 n a 0).2=0:=rfl
    omega
   rw[hr0,aX] at hL
   (apply Br.mk<;>intro)
   ·have hlt:0<a.length:=by omega
    (repeat'((conv=>whnf);first|refine Zn ?_|fail))
    refine bX (a.length-1) (by omega) ?_
    (repeat'((conv=>whnf);first|refine Zg fun _=>?_|fail))
    (conv=>whnf)
    refine Own.r ?_
    (repeat'((conv=>whnf);first|refine Zn ?_|refine Zj ?_|fail))
    (conv=>whnf)
    rw[show bQ ([a.getD (a.length-1) 0]++ [])=aA B6 R from hL]
    (repeat'((conv=>whnf);first|refine Zn ?_|fail))
    refine bX (b.length-1) (by omega) ?_
    (repeat'((conv=>whnf);first|refine Zn ?_|fail))
    refine bX (b.length-2) (by omega) ?_
    (repeat'((conv=>whnf);first|refine Za ?_|refine Zn ?_|fail))
    rw[hG]
    (repeat'((conv=>whnf);first|refine Zl ?_|fail))
    (conv=>whnf)
    refine Need.mk ⟨jn,iG,by omega,by show 1≤100000;omega⟩ ?_
    rw[eG]
    (conv=>whnf)
    have lnG:=eE G2
    refine Need.mk ⟨aO (by decide) _,aO (by decide) _,by rw[v6,v6];exact_mod_cast G2,lnG,by omega⟩ ?_
    rw[show (valB B6 (aA B6 R)-valB B6 (aA B6 (n*G))).toNat=R-n*G by rw[v6,v6];omega]
    refine Ask.mk ⟨{ X:=Nat,pre:=fun g=>n*g≤R,mod:=fun g _=>[(9,Ls (aA B6 (R-n*g))),(11,I g)],heap:=fun _ _=>[V [],V [],V (divK B6 n a (0)).1,V [],.dead],mu:=fun g=>R-n*g },rfl,?_⟩
    (repeat'((conv=>whnf);first|refine Zn ?_|fail))
    refine ⟨⟨(G:Nat),G2,by (repeat' first|exact trivial|rfl|apply And.intro)⟩,fun (g:Nat) (hg:n*g≤R)=>?_⟩
    have gB:g<1000000:=Nat.lt_of_mul_lt_mul_left (Nat.lt_of_le_of_lt hg hRn)
    have hc:=aFv (B:=B6) (by decide) (R-n*g) n
    rw[hb] at hc
    have iR:InB B6 (aA B6 (R-n*g)):=aO (by decide) _
    have lR':=eE (show R-n*g≤R by omega)
    refine Need.mk ⟨iR,jn⟩ ?_
    (apply Br.mk<;>intro)
    ·rename_i hs
     have hle:n≤R-n*g:=aPt hc hs
     have lb:=eE hle
     rw[hb] at lb
     refine Need.mk ⟨iR,jn,by rw[v6,vn];exact_mod_cast hle,lb,by omega⟩ ?_
     rw[show (valB B6 (aA B6 (R-n*g))-valB B6 b).toNat=R-n*(g+1) by rw[v6,vn,Nat.mul_succ];omega]
     (repeat'((conv=>whnf);first|refine Zn ?_|fail))
     refine ⟨(g+1:Nat),by show R-n*(g+1)<R-n*g;rw[Nat.mul_succ];omega,by show n*(g+1)≤R;rw[Nat.mul_succ];omega,?_⟩
     (repeat' first|exact trivial|rfl|apply And.intro)
    ·rename_i hs
     have hlt2:R-n*g<n:=aPu hc hs
     obtain ⟨z1,z2⟩:=aBi hn0 hR hr (show n*g≤R from hg) hlt2
     (repeat'((conv=>whnf);first|refine Zn ?_|fail))
     refine bX (a.length-1-(0)) (by omega) ?_
     (repeat'((conv=>whnf);first|refine Zn ?_|fail))
     refine ⟨(1:Nat),by show a.length-(1)<a.length-(0);omega,hlt,?_⟩
     (repeat' first|exact trivial|rfl|apply And.intro|omega)
     ·rw[show r9 n a 1=Ls (aA B6 (divK B6 n a (1)).2.toNat) from rfl,z2,Int.toNat_natCast]
      (repeat' first|rfl)
     ·exact z1.symm
   ·have e:0=a.length:=by omega
    (conv=>whnf)
    obtain ⟨y1,y2⟩:=aFw (B:=B6) (by decide) hnI ha
    rw[← e] at y1 y2
    (repeat' first|exact trivial|apply And.intro)
    ·exact y1
    ·rw[← y2,show (divK B6 n a 0).2=0 from rfl,Int.toNat_zero,aX]
     (repeat' first|rfl)
  ·have hrt:r=(divK B6 n a (m+1)).2.toNat:=by omega
   have lr:(aA B6 (divK B6 n a (m+1)).2.toNat).length≤200:=by
    rw[← hrt]
    refine Nat.le_trans (eE (show r≤n by omega)) ?_
    rw[hb];exact hbl
   rw[hrt] at hL
   (apply Br.mk<;>intro)
   ·have hlt:m+1<a.length:=by omega
    (repeat'((conv=>whnf);first|refine Zn ?_|fail))
    refine bX (a.length-1-(m+1)) (by omega) ?_
    (repeat'((conv=>whnf);first|refine Zg fun _=>?_|fail))
    (conv=>whnf)
    refine Own.r ?_
    (repeat'((conv=>whnf);first|refine Zn ?_|refine Zj ?_|fail))
    (conv=>whnf)
    rw[show bQ ([a.getD (a.length-1-(m+1)) 0]++aA B6 (divK B6 n a (m+1)).2.toNat)=aA B6 R from hL]
    (repeat'((conv=>whnf);first|refine Zn ?_|fail))
    refine bX (b.length-1) (by omega) ?_
    (repeat'((conv=>whnf);first|refine Zn ?_|fail))
    refine bX (b.length-2) (by omega) ?_
    (repeat'((conv=>whnf);first|refine Za ?_|refine Zn ?_|fail))
    rw[hG]
    (repeat'((conv=>whnf);first|refine Zl ?_|fail))
    (conv=>whnf)
    refine Need.mk ⟨jn,iG,by omega,by show 1≤100000;omega⟩ ?_
    rw[eG]
    (conv=>whnf)
    have lnG:=eE G2
    refine Need.mk ⟨aO (by decide) _,aO (by decide) _,by rw[v6,v6];exact_mod_cast G2,lnG,by omega⟩ ?_
    rw[show (valB B6 (aA B6 R)-valB B6 (aA B6 (n*G))).toNat=R-n*G by rw[v6,v6];omega]
    refine Ask.mk ⟨{ X:=Nat,pre:=fun g=>n*g≤R,mod:=fun g _=>[(9,Ls (aA B6 (R-n*g))),(11,I g)],heap:=fun _ _=>[V [],V [],V (divK B6 n a (m+1)).1,V [],.dead],mu:=fun g=>R-n*g },rfl,?_⟩
    (repeat'((conv=>whnf);first|refine Zn ?_|fail))
    refine ⟨⟨(G:Nat),G2,by (repeat' first|exact trivial|rfl|apply And.intro)⟩,fun (g:Nat) (hg:n*g≤R)=>?_⟩
    have gB:g<1000000:=Nat.lt_of_mul_lt_mul_left (Nat.lt_of_le_of_lt hg hRn)
    have hc:=aFv (B:=B6) (by decide) (R-n*g) n
    rw[hb] at hc
    have iR:InB B6 (aA B6 (R-n*g)):=aO (by decide) _
    have lR':=eE (show R-n*g≤R by omega)
    refine Need.mk ⟨iR,jn⟩ ?_
    (apply Br.mk<;>intro)
    ·rename_i hs
     have hle:n≤R-n*g:=aPt hc hs
     have lb:=eE hle
     rw[hb] at lb
     refine Need.mk ⟨iR,jn,by rw[v6,vn];exact_mod_cast hle,lb,by omega⟩ ?_
     rw[show (valB B6 (aA B6 (R-n*g))-valB B6 b).toNat=R-n*(g+1) by rw[v6,vn,Nat.mul_succ];omega]
     (repeat'((conv=>whnf);first|refine Zn ?_|fail))
     refine ⟨(g+1:Nat),by show R-n*(g+1)<R-n*g;rw[Nat.mul_succ];omega,by show n*(g+1)≤R;rw[Nat.mul_succ];omega,?_⟩
     (repeat' first|exact trivial|rfl|apply And.intro)
    ·rename_i hs
     have hlt2:R-n*g<n:=aPu hc hs
     obtain ⟨z1,z2⟩:=aBi hn0 hR hr (show n*g≤R from hg) hlt2
     (repeat'((conv=>whnf);first|refine Zn ?_|fail))
     refine bX (a.length-1-(m+1)) (by omega) ?_
     (repeat'((conv=>whnf);first|refine Zn ?_|fail))
     refine ⟨(m+1+1:Nat),by show a.length-(m+1+1)<a.length-(m+1);omega,hlt,?_⟩
     (repeat' first|exact trivial|rfl|apply And.intro|omega)
     ·rw[show r9 n a (m+1+1)=Ls (aA B6 (divK B6 n a (m+1+1)).2.toNat) from rfl,z2,Int.toNat_natCast]
      (repeat' first|rfl)
     ·exact z1.symm
   ·have e:m+1=a.length:=by omega
    (conv=>whnf)
    obtain ⟨y1,y2⟩:=aFw (B:=B6) (by decide) hnI ha
    rw[← e] at y1 y2
    (repeat' first|exact trivial|apply And.intro)
    ·exact y1
    ·rw[y2]
     (repeat' first|rfl)
def dK (b:List Int):Prop:=aA B6 (valB B6 b).toNat=b
theorem dL (m:Nat):dK (aA B6 m):=by
 unfold dK;rw[v6,Int.toNat_natCast]
theorem tC {b:List Int} (h:dK b):InB B6 b:=by
 rw[← h];exact aO (by decide) _
theorem yU {b:List Int} (h:dK b):((valB B6 b).toNat:Int)=valB B6 b:=by
 rw[← v6,h]
def c113:Con:=aJ 196 false fun args K=>match args with
 | [.seq (.int .i64) a,.seq (.int .i64) b]=>Need (InB B6 a∧dK b∧(0<(valB B6 b).toNat∧(valB B6 b).toNat<B6^100)∧a.length≤1000) (K (.tup [Ls (aA B6 (valB B6 a/valB B6 b).toNat),Ls (aA B6 (valB B6 a%valB B6 b).toNat)]))
 | _=>False
theorem k113:aG Tryz.prog c113:=by
 refine kO Tryz.func196 fun args K h=>?_
 simp only[c113] at h;split at h
 ·rename_i a b
  refine ⟨_,h.go,?_⟩
  obtain ⟨ha,hb,hn,hl⟩:=h.ok
  have ht:=triB Tryz.func196 Tryz.ntmps196 (by simp[k142,k141,k143,k145,k144,k146]) (b113 a (valB B6 b).toNat ⟨ha,hn,hl⟩)
  rw[hb,yU hb] at ht
  exact ht
 ·exact h.elim
theorem eF {s:List UInt8} {i:Nat} (hi:i<s.length):aH s i=(s[i].toNat:Int):=by
 unfold aH
 rw[show s.getD i 0=s[i] by simp[List.getD_eq_getElem?_getD,hi]]
theorem bI {s:List UInt8} (h:0<s.length) (c:UInt8):aH s 0=c.toNat↔s.headD 0=c:=by
 cases s with
 | nil=>simp at h
 | cons x r=>
  show (x.toNat:Int)=c.toNat↔x=c
  exact ⟨fun e=>UInt8.toNat.inj (by omega),fun e=>by rw[e]⟩
theorem yV {s:List UInt8} (h:0<s.length) (hm:aH s 0=45):digs s=s.drop 1:=by
 have:=(bI h 45).1 hm
 unfold digs;rw[if_pos this,List.drop_one]
theorem tD {s:List UInt8} (hm:0<s.length→¬aH s 0=45):digs s=s.drop 0:=by
 unfold digs
 rw[List.drop_zero]
 by_cases h:0<s.length
 ·rw[if_neg fun e=>hm h ((bI h 45).2 e)]
 ·have:s= []:=List.length_eq_zero_iff.1 (by omega)
  subst this;rfl
theorem aHg {s:List UInt8} {p i:Nat} (hD:digs s=s.drop p) (hp:p≤i) (hi:i<s.length):s[i]∈digs s:=by
 rw[hD,List.mem_iff_getElem]
 exact ⟨i-p,by rw[List.length_drop];omega,by rw[List.getElem_drop];congr 1;omega⟩
theorem aDc {s:List UInt8} {p i:Nat} (hD:digs s=s.drop p) (hp:p≤i) (hi:i<s.length) (hb:aH s i<48∨aH s i>57):chkI s=11:=by
 unfold chkI
 rw[if_neg]
 rintro ⟨_,_,h3⟩
 have:=h3 _ (aHg hD hp hi)
 rw[eF hi] at hb
 unfold aR at this
 omega
theorem aFx {s:List UInt8} {p:Nat} (hD:digs s=s.drop p) (hp:p<s.length):aH s p=48↔(digs s).headD 0=48:=by
 rw[hD,List.drop_eq_getElem_cons hp,eF hp]
 show (s[p].toNat:Int)=48↔s[p]=48
 exact ⟨fun e=>UInt8.toNat.inj (show s[p].toNat=48 by omega),fun e=>by rw[e];rfl⟩
theorem aJe {s:List UInt8} {p:Nat} (hD:digs s=s.drop p) (hp:p<s.length) (h:aH s p=48) (hl:s.length>1):chkI s=11:=
 mI (.inr (.inl ⟨(aFx hD hp).1 h,fun e=>by rw[e] at hl;simp at hl⟩))
theorem aJf {s:List UInt8} {p:Nat} (hD:digs s=s.drop p) (hp:p<s.length) (hz:¬(aH s p=48∧s.length>1)) (hd:∀j,p≤j→j<s.length→48≤aH s j∧aH s j≤57):form s:=by
 refine ⟨fun e=>?_,?_,fun c hc=>?_⟩
 ·have:=congrArg List.length (hD.symm.trans e)
  rw[List.length_drop] at this
  simp at this;omega
 ·by_cases h0:(digs s).headD 0=48
  ·right
   have h1:=(aFx hD hp).2 h0
   have hl:s.length=1:=by
    have:¬s.length>1:=fun h=>hz ⟨h1,h⟩
    omega
   have hp0:p=0:=by omega
   subst hp0
   match s,hl with
   | [x],_=>
    rw[hD] at h0
    simp at h0
    rw[h0]
  ·exact .inl h0
 ·rw[hD,List.mem_iff_getElem] at hc
  obtain ⟨j,hj,e⟩:=hc
  rw[List.length_drop] at hj
  rw[List.getElem_drop] at e
  have:=hd (p+j) (by omega) (by omega)
  rw[eF (by omega),e] at this
  unfold aR;omega
theorem b139 (s:List UInt8):body Tryz.prog [] { asks:=[(0,[])] } true Tryz.f201 [S s] (I (chkI s)):=by
 by_cases hm:0<s.length∧aH s 0=45
 ·have hD:=yV hm.1 hm.2
  have hL:(digs s).length=s.length-1:=by rw[hD,List.length_drop]
  obtain ⟨hm1,hm2⟩:=hm
  by_cases hz:s.length=1
  ·have hb:chkI s=11:=mI (.inl (List.length_eq_zero_iff.1 (by omega)))
   rw[hb]
   (repeat'((conv=>whnf);first|refine Zg fun _=>?_|refine Zn ?_|refine Z0 ?_|refine Zy ?_|fail))
   (conv=>whnf)
   (repeat' first|rfl|apply And.intro)
  by_cases hz2:aH s 1=48∧s.length>1
  ·have hb:chkI s=11:=aJe hD (by omega) hz2.1 hz2.2
   rw[hb]
   obtain ⟨hz3,hz4⟩:=hz2
   (repeat'((conv=>whnf);first|refine Zg fun _=>?_|refine Zn ?_|refine Z0 ?_|refine Z1 ?_|refine Zy ?_|refine Zm ?_|fail))
   (conv=>whnf)
   (repeat' first|rfl|apply And.intro)
  have hz3:¬(aH s 1=48)∨(aH s 1=48∧¬((s.length:Int)>1)):=by
   by_cases e:aH s 1=48
   ·exact .inr ⟨e,fun h=>hz2 ⟨e,by omega⟩⟩
   ·exact .inl e
  rcases hz3 with hz3 | ⟨hz3,hz4⟩
  all_goals first | (exfalso;omega) | skip
  all_goals (
   (repeat'((conv=>whnf);first|refine Zg fun _=>?_|refine Zn ?_|refine Z0 ?_|refine Z1 ?_|refine Zy ?_|refine Zm ?_|fail))
   refine Ask.mk ⟨{ X:=Nat,pre:=fun i=>1≤i∧i≤s.length∧∀j,1≤j→j<i→48≤aH s j∧aH s j≤57,mod:=fun i _=>[(4,I i)],heap:=fun _ _=>[],mu:=fun i=>s.length-i },rfl,?_⟩
   (repeat'((conv=>whnf);first|refine Zn ?_|fail))
   refine ⟨⟨(1:Nat),⟨Nat.le_refl _,by omega,fun j h1 h2=>by omega⟩,by (repeat' first|exact trivial|rfl|apply And.intro)⟩,fun (i:Nat) hi=>?_⟩
   obtain ⟨hi1,hi2,hi3⟩:=hi
   by_cases hlt:i<s.length
   ·by_cases h1:aH s i<48
    ·have hb:chkI s=11:=aDc hD hi1 hlt (by omega)
     rw[hb]
     (repeat'((conv=>whnf);first|refine Zg fun _=>?_|refine Zn ?_|refine Zj ?_|refine Zy ?_|fail))
     (conv=>whnf)
     (repeat' first|rfl|apply And.intro)
    ·by_cases h2:aH s i>57
     ·have hb:chkI s=11:=aDc hD hi1 hlt (by omega)
      rw[hb]
      (repeat'((conv=>whnf);first|refine Zg fun _=>?_|refine Zn ?_|refine Zj ?_|refine Zy ?_|refine Zm ?_|fail))
      (conv=>whnf)
      (repeat' first|rfl|apply And.intro)
     ·(repeat'((conv=>whnf);first|refine Zg fun _=>?_|refine Zn ?_|refine Zj ?_|refine Zy ?_|refine Zm ?_|fail))
      refine ⟨(i+1:Nat),by show s.length-(i+1)<s.length-i;omega,⟨by omega,by omega,fun j h3 h4=>?_⟩,?_⟩
      ·by_cases e:j=i
       ·rw[e];omega
       ·exact hi3 j h3 (by omega)
      ·(repeat' first|exact trivial|rfl|apply And.intro)
   ·have e:i=s.length:=by omega
    subst e
    have hf:form s:=aJf hD (by omega) (by omega) hi3
    rw[fZ hf,hL]
    by_cases h5:300<s.length-1
    ·first
      | (exfalso;omega)
      | (rw[if_pos h5]
         (repeat'((conv=>whnf);first|refine Zg fun _=>?_|refine Zn ?_|refine Zy ?_|refine Zm ?_|fail))
         (conv=>whnf)
         (repeat' first|rfl|apply And.intro))
    ·rw[if_neg h5]
     (repeat'((conv=>whnf);first|refine Zg fun _=>?_|refine Zn ?_|refine Zm ?_|fail))
     (conv=>whnf)
     (repeat' first|rfl|apply And.intro))
 ·have hD:=tD (s:=s) fun h e=>hm ⟨h,e⟩
  have hL:(digs s).length=s.length-0:=by rw[hD,List.length_drop]
  have hm1:s.length=0∨(0<s.length∧¬aH s 0=45):=by
   by_cases e:s.length=0
   ·exact .inl e
   ·exact .inr ⟨by omega,fun h=>hm ⟨by omega,h⟩⟩
  rcases hm1 with hm1 | ⟨hm1,hm2⟩
  ·have hb:chkI s=11:=mI (.inl (List.length_eq_zero_iff.1 (by omega)))
   rw[hb]
   (repeat'((conv=>whnf);first|refine Zg fun _=>?_|refine Zy ?_|refine Zm ?_|fail))
   (conv=>whnf)
   (repeat' first|rfl|apply And.intro)
  by_cases hz:s.length=0
  ·have hb:chkI s=11:=mI (.inl (List.length_eq_zero_iff.1 (by omega)))
   rw[hb]
   (repeat'((conv=>whnf);first|refine Zg fun _=>?_|refine Zn ?_|refine Z0 ?_|refine Zy ?_|fail))
   (conv=>whnf)
   (repeat' first|rfl|apply And.intro)
  by_cases hz2:aH s 0=48∧s.length>1
  ·have hb:chkI s=11:=aJe hD (by omega) hz2.1 hz2.2
   rw[hb]
   obtain ⟨hz3,hz4⟩:=hz2
   (repeat'((conv=>whnf);first|refine Zg fun _=>?_|refine Zn ?_|refine Z0 ?_|refine Zy ?_|refine Zm ?_|fail))
   (conv=>whnf)
   (repeat' first|rfl|apply And.intro)
  have hz3:¬(aH s 0=48)∨(aH s 0=48∧¬((s.length:Int)>1)):=by
   by_cases e:aH s 0=48
   ·exact .inr ⟨e,fun h=>hz2 ⟨e,by omega⟩⟩
   ·exact .inl e
  rcases hz3 with hz3 | ⟨hz3,hz4⟩
  all_goals first | (exfalso;omega) | skip
  all_goals (
   (repeat'((conv=>whnf);first|refine Zg fun _=>?_|refine Zn ?_|refine Z0 ?_|refine Zy ?_|refine Zm ?_|fail))
   refine Ask.mk ⟨{ X:=Nat,pre:=fun i=>0≤i∧i≤s.length∧∀j,0≤j→j<i→48≤aH s j∧aH s j≤57,mod:=fun i _=>[(4,I i)],heap:=fun _ _=>[],mu:=fun i=>s.length-i },rfl,?_⟩
   (repeat'((conv=>whnf);first|refine Zn ?_|fail))
   refine ⟨⟨(0:Nat),⟨Nat.le_refl _,by omega,fun j h1 h2=>by omega⟩,by (repeat' first|exact trivial|rfl|apply And.intro)⟩,fun (i:Nat) hi=>?_⟩
   obtain ⟨hi1,hi2,hi3⟩:=hi
   by_cases hlt:i<s.length
   ·by_cases h1:aH s i<48
    ·have hb:chkI s=11:=aDc hD hi1 hlt (by omega)
     rw[hb]
     (repeat'((conv=>whnf);first|refine Zg fun _=>?_|refine Zn ?_|refine Zj ?_|refine Zy ?_|fail))
     (conv=>whnf)
     (repeat' first|rfl|apply And.intro)
    ·by_cases h2:aH s i>57
     ·have hb:chkI s=11:=aDc hD hi1 hlt (by omega)
      rw[hb]
      (repeat'((conv=>whnf);first|refine Zg fun _=>?_|refine Zn ?_|refine Zj ?_|refine Zy ?_|refine Zm ?_|fail))
      (conv=>whnf)
      (repeat' first|rfl|apply And.intro)
     ·(repeat'((conv=>whnf);first|refine Zg fun _=>?_|refine Zn ?_|refine Zj ?_|refine Zy ?_|refine Zm ?_|fail))
      refine ⟨(i+1:Nat),by show s.length-(i+1)<s.length-i;omega,⟨by omega,by omega,fun j h3 h4=>?_⟩,?_⟩
      ·by_cases e:j=i
       ·rw[e];omega
       ·exact hi3 j h3 (by omega)
      ·(repeat' first|exact trivial|rfl|apply And.intro)
   ·have e:i=s.length:=by omega
    subst e
    have hf:form s:=aJf hD (by omega) (by omega) hi3
    rw[fZ hf,hL]
    by_cases h5:300<s.length-0
    ·first
      | (exfalso;omega)
      | (rw[if_pos h5]
         (repeat'((conv=>whnf);first|refine Zg fun _=>?_|refine Zn ?_|refine Zy ?_|refine Zm ?_|fail))
         (conv=>whnf)
         (repeat' first|rfl|apply And.intro))
    ·rw[if_neg h5]
     (repeat'((conv=>whnf);first|refine Zg fun _=>?_|refine Zn ?_|refine Zm ?_|fail))
     (conv=>whnf)
     (repeat' first|rfl|apply And.intro))
def c139:Con:=aJ 201 true fun args K=>match args with | [.str s]=>K (I (chkI s)) | _=>False
theorem k139:aG Tryz.prog c139:=by
 refine kO Tryz.func201 fun args K h=>?_
 simp only[c139] at h;split at h
 ·rename_i s;exact ⟨_,h,triB Tryz.func201 Tryz.ntmps201 (by simp) (b139 s)⟩
 ·exact h.elim
theorem b110 (a b:List UInt8):body Tryz.prog [c139] {} true Tryz.f161 [S a,S b] (I (chk2 a b)):=by
 unfold chk2
 (apply Br.mk<;>intro)
 ·rename_i h
  rw[if_pos h]
  (conv=>whnf)
  (repeat' first|rfl|apply And.intro)
 ·rename_i h
  rw[if_neg h]
  (conv=>whnf)
  (repeat' first|rfl|apply And.intro)
def c110:Con:=aJ 161 true fun args K=>match args with | [.str a,.str b]=>K (I (chk2 a b)) | _=>False
theorem k110:aG Tryz.prog c110:=by
 refine kO Tryz.func161 fun args K h=>?_
 simp only[c110] at h;split at h
 ·rename_i a b;exact ⟨_,h,triB Tryz.func161 Tryz.ntmps161 (by simp[k139]) (b110 a b)⟩
 ·exact h.elim
def sgP' (s:List UInt8):Nat:=if s.headD 0=45 then 1 else 0
theorem oO (s:List UInt8):digs s=s.drop (sgP' s):=by
 unfold digs sgP'
 split
 ·rw[List.drop_one]
 ·rw[List.drop_zero]
def pfx (s:List UInt8) (i:Nat):Nat:=aC ((s.take i).drop (sgP' s))
theorem aM4 (s:List UInt8):pfx s 0=0:=by simp[pfx,aC]
theorem aDd (s:List UInt8):pfx s s.length=aC (digs s):=by
 unfold pfx;rw[List.take_length,oO]
theorem aQt {s:List UInt8} (hf:form s) {i:Nat} (hi:i≤16):pfx s i<10000000000000000:=by
 have hb:=bW ((s.take i).drop (sgP' s)) fun c hc=>hf.2.2 c (by rw[oO];rw[List.drop_take] at hc;exact List.mem_of_mem_take hc)
 have hp:(10:Nat)^ ((s.take i).drop (sgP' s)).length≤10^16:=Nat.pow_le_pow_right (by omega) (by rw[List.length_drop,List.length_take];omega)
 have h16:(10:Nat)^16=10000000000000000:=by decide
 unfold pfx;omega
theorem aM5 {s:List UInt8} (hf:form s) {i:Nat} (hi:i<s.length) (h:aH s i=45):pfx s (i+1)=pfx s i:=by
 by_cases hp:sgP' s≤i
 ·have:=hf.2.2 _ (aHg (oO s) hp hi)
  rw[eF hi] at h
  unfold aR at this;omega
 ·unfold pfx
  rw[List.drop_eq_nil_of_le (by rw[List.length_take];omega),List.drop_eq_nil_of_le (by rw[List.length_take];omega)]
theorem aO4 {s:List UInt8} (hf:form s) {i:Nat} (hi:i<s.length) (h:¬aH s i=45):(48≤aH s i∧aH s i≤57)∧(pfx s (i+1):Int)=10*pfx s i+(aH s i-48):=by
 by_cases hp:sgP' s≤i
 ·have hg:=hf.2.2 _ (aHg (oO s) hp hi)
  have e:(s.take (i+1)).drop (sgP' s)=(s.take i).drop (sgP' s)++ [s[i]]:=by
   rw[List.take_succ_eq_append_getElem hi,List.drop_append_of_le_length (by rw[List.length_take];omega)]
  rw[eF hi]
  unfold pfx
  rw[e,cS]
  unfold aR at hg
  omega
 ·refine absurd ?_ h
  have h0:i=0∧s.headD 0=45:=by
   unfold sgP' at hp
   split at hp
   ·exact ⟨by omega,by assumption⟩
   ·omega
  rw[h0.1]
  exact (bI (by omega) 45).2 h0.2
theorem b140n (s:List UInt8) (h:17<s.length):body Tryz.prog [] { asks:=[(0,[])] } true Tryz.f202 [S s] (.tup [I 0,.val (.bool false)]):=by
 (repeat'((conv=>whnf);first|refine Zg fun _=>?_|refine Zy ?_|fail))
 (conv=>whnf)
 (repeat' first|exact trivial|rfl|apply And.intro)
theorem b140y (s:List UInt8) (hf:form s) (hl:s.length≤17):body Tryz.prog [] { asks:=[(0,[])] } true Tryz.f202 [S s] (.tup [I (valI s),.val (.bool true)]):=by
 have h0:0<s.length:=Nat.pos_of_ne_zero fun e=>hf.1 (by rw[List.length_eq_zero_iff.1 e];rfl)
 (repeat'((conv=>whnf);first|refine Zg fun _=>?_|refine Zm ?_|fail))
 refine Ask.mk ⟨{ X:=Nat,pre:=fun i=>i≤s.length,mod:=fun i _=>[(4,I (pfx s i)),(5,I i)],heap:=fun _ _=>[],mu:=fun i=>s.length-i },rfl,?_⟩
 (repeat'((conv=>whnf);first|refine Zn ?_|fail))
 refine ⟨⟨(0:Nat),Nat.zero_le _,?_⟩,fun (i:Nat) (hi:i≤s.length)=>?_⟩
 ·(repeat' first|exact trivial|rfl|apply And.intro)
  rw[aM4];rfl
 by_cases hlt:i<s.length
 ·have hb:=aQt hf (i:=i) (by omega)
  by_cases hs:aH s i=45
  ·have e:=aM5 hf hlt hs
   (repeat'((conv=>whnf);first|refine Zg fun _=>?_|refine Zn ?_|refine Zj ?_|refine Zy ?_|refine Zm ?_|fail))
   refine ⟨(i+1:Nat),by show s.length-(i+1)<s.length-i;omega,hlt,?_⟩
   (repeat' first|exact trivial|rfl|apply And.intro|omega)
  ·obtain ⟨e1,e2⟩:=aO4 hf hlt hs
   (repeat'((conv=>whnf);first|refine Zg fun _=>?_|refine Zn ?_|refine Zj ?_|refine Zy ?_|fail))
   refine ⟨(i+1:Nat),by show s.length-(i+1)<s.length-i;omega,hlt,?_⟩
   (repeat' first|exact trivial|rfl|apply And.intro|omega)
 ·have e:i=s.length:=by omega
  subst e
  have hn:pfx s s.length<1000000000000000000:=by
   rw[aDd]
   have hb:=bW (digs s) hf.2.2
   have hp:(10:Nat)^ (digs s).length≤10^18:=Nat.pow_le_pow_right (by omega) (by have:=jO s;omega)
   have h18:(10:Nat)^18=1000000000000000000:=by decide
   omega
  by_cases hm:aH s 0=45
  ·have hv:valI s= -(pfx s s.length:Int):=by
    have hm':=(bI h0 45).1 hm
    rw[aDd];unfold valI digs;rw[if_pos hm',if_pos hm']
   rw[hv]
   (repeat'((conv=>whnf);first|refine Zg fun _=>?_|refine Zn ?_|refine Z0 ?_|refine Zy ?_|refine Zm ?_|fail))
   (conv=>whnf)
   (repeat' first|exact trivial|rfl|apply And.intro)
  ·have hv:valI s=(pfx s s.length:Int):=by
    have hm':¬s.headD 0=45:=fun e=>hm ((bI h0 45).2 e)
    rw[aDd];unfold valI digs;rw[if_neg hm',if_neg hm']
   rw[hv]
   (repeat'((conv=>whnf);first|refine Zg fun _=>?_|refine Zn ?_|refine Z0 ?_|refine Zm ?_|fail))
   (conv=>whnf)
   (repeat' first|exact trivial|rfl|apply And.intro)
def c140:Con:=aJ 202 true fun args K=>match args with
 | [.str s]=>Need (form s) (Br (17<s.length) (K (.tup [I 0,.val (.bool false)])) (K (.tup [I (valI s),.val (.bool true)])))
 | _=>False
theorem k140:aG Tryz.prog c140:=by
 refine kO Tryz.func202 fun args K h=>?_
 simp only[c140] at h;split at h
 ·rename_i s
  obtain ⟨hf,h⟩:=h
  by_cases hs:17<s.length
  ·exact ⟨_,h.yes hs,triB Tryz.func202 Tryz.ntmps202 (by simp) (b140n s hs)⟩
  ·exact ⟨_,h.no hs,triB Tryz.func202 Tryz.ntmps202 (by simp) (b140y s hf (by omega))⟩
 ·exact h.elim
theorem b111 (a b:List UInt8) (ha:form a) (hb:form b) (x y:Int) (o:Bool) (h:(x,y,o)=if 17<a.length then (0,0,false) else if 17<b.length then (valI a,0,false) else (valI a,valI b,true)):body Tryz.prog [c140] {} true Tryz.f162 [S a,S b] (.tup [I x,I y,.val (.bool o)]):=by
 by_cases h1:17<a.length
 ·rw[if_pos h1] at h
  cases h
  (repeat'((conv=>whnf);first|refine Zn ?_|refine Zy ?_|fail))
  (conv=>whnf)
  (repeat' first|exact trivial|rfl|apply And.intro)
 ·rw[if_neg h1] at h
  by_cases h2:17<b.length
  ·rw[if_pos h2] at h
   cases h
   (repeat'((conv=>whnf);first|refine Zn ?_|refine Zy ?_|refine Zm ?_|fail))
   (conv=>whnf)
   (repeat' first|exact trivial|rfl|apply And.intro)
  ·rw[if_neg h2] at h
   cases h
   (repeat'((conv=>whnf);first|refine Zn ?_|refine Zm ?_|fail))
   (conv=>whnf)
   (repeat' first|exact trivial|rfl|apply And.intro)
def c111:Con:=aJ 162 true fun args K=>match args with
 | [.str a,.str b]=>Need (form a∧form b) (Br (a.length≤17∧b.length≤17) (K (.tup [I (valI a),I (valI b),.val (.bool true)])) (Br (17<a.length) (K (.tup [I 0,I 0,.val (.bool false)])) (K (.tup [I (valI a),I 0,.val (.bool false)]))))
 | _=>False
theorem k111:aG Tryz.prog c111:=by
 refine kO Tryz.func162 fun args K h=>?_
 simp only[c111] at h;split at h
 ·rename_i a b
  obtain ⟨⟨ha,hb⟩,h⟩:=h
  have go:=fun x y o hh=>triB Tryz.func162 Tryz.ntmps162 (by simp[k140]) (b111 a b ha hb x y o hh)
  by_cases hs:a.length≤17∧b.length≤17
  ·exact ⟨_,h.yes hs,go _ _ _ (by rw[if_neg (by omega),if_neg (by omega)])⟩
  ·by_cases h1:17<a.length
   ·exact ⟨_,(h.no hs).yes h1,go _ _ _ (by rw[if_pos h1])⟩
   ·exact ⟨_,(h.no hs).no h1,go _ _ _ (by rw[if_neg h1,if_pos (by omega)])⟩
 ·exact h.elim
def gfx (D:List UInt8) (st i:Nat):Nat:=aC ((D.take i).drop st)
theorem yW (D:List UInt8) (st:Nat):gfx D st st=0:=by
 unfold gfx
 rw[List.drop_eq_nil_of_le (by rw[List.length_take];omega)];rfl
theorem aM6 {D:List UInt8} (hd:∀c∈D,aR c) {st i:Nat} (h:i≤st+6):gfx D st i<1000000:=by
 have hb:=bW ((D.take i).drop st) fun c hc=>hd c (List.mem_of_mem_take (List.mem_of_mem_drop hc))
 have hp:(10:Nat)^ ((D.take i).drop st).length≤10^6:=Nat.pow_le_pow_right (by omega) (by rw[List.length_drop,List.length_take];omega)
 have h6:(10:Nat)^6=1000000:=by decide
 unfold gfx;omega
theorem aDe {D:List UInt8} (hd:∀c∈D,aR c) {st i:Nat} (hs:st≤i) (hi:i<D.length):(48≤aH D i∧aH D i≤57)∧(gfx D st (i+1):Int)=10*gfx D st i+(aH D i-48):=by
 have hg:=hd _ (List.getElem_mem hi)
 have e:(D.take (i+1)).drop st=(D.take i).drop st++ [D[i]]:=by
  rw[List.take_succ_eq_append_getElem hi,List.drop_append_of_le_length (by rw[List.length_take];omega)]
 rw[eF hi]
 unfold gfx
 rw[e,cS]
 unfold aR at hg
 omega
theorem b112y (s:List UInt8) (h:form s∧(digs s).length≤600) (hm:s.headD 0=45):body Tryz.prog [c141] { asks:=[(0,[2]),(2,[])] } false Tryz.f164 [S s] (.agg [.bl (s.headD 0=45) inferInstance,Ls (aA B6 (aC (digs s)))]):=by
 obtain ⟨hf,hl⟩:=h
 have h0:0<s.length:=Nat.pos_of_ne_zero fun e=>hf.1 (by rw[List.length_eq_zero_iff.1 e];rfl)
 have hd:=hf.2.2
 have hb:aH s 0=45:=(bI h0 45).2 hm
 have hD:=yV h0 hb
 rw[hD] at hd hl ⊢
 have hL:(s.drop 1).length=(s.drop 1).length:=rfl
 have e6:(10:Nat)^6=B6:=by decide
 refine Own.l ?_
 refine Own.l ?_
 (conv=>whnf)
 refine Own.r ?_
 refine ⟨1,.int .i64,3,?_⟩
 (repeat'((conv=>whnf);first|refine Zg fun _=>?_|refine Zn ?_|refine Z0 ?_|refine Z1 ?_|refine Zy ?_|fail))
 (conv=>whnf)
 refine Ask.mk ⟨{ X:=Nat,pre:=fun k=>6*k<(s.drop 1).length+6,mod:=fun k _=>[(4,I (((s.drop 1).length:Int)-6*k))],heap:=fun k H=>[hget H 0,.cells [.val (.bool true),.ref 2 1] 163,V (rdG (s.drop 1) k)],mu:=fun k=>(s.drop 1).length+6-6*k,objs:=[2] },rfl,?_⟩
 (repeat'((conv=>whnf);first|refine Zn ?_|fail))
 refine ⟨⟨(0:Nat),by show 6*0< _;omega,?_⟩,fun (k:Nat) hk=>?_⟩
 ·(repeat' first|exact trivial|rfl|exact Nat.one_pos|apply And.intro)
 have hk:6*k<(s.drop 1).length+6:=hk
 have hrl:=(rJ hd k hk).1
 by_cases hlt:6*k<(s.drop 1).length
 ·obtain ⟨st,hst⟩:∃st,(s.drop 1).length-6*(k+1)=st:=⟨_,rfl⟩
  obtain ⟨en,hen⟩:∃en,(s.drop 1).length-6*k=en:=⟨_,rfl⟩
  (repeat'((conv=>whnf);first|refine Zn ?_|refine Zy ?_|fail))
  refine Ask.mk ⟨{ X:=Nat,pre:=fun i=>st≤i∧i≤en,mod:=fun i _=>[(5,I (gfx (s.drop 1) st i)),(6,I i)],heap:=fun i H=>[hget H 0,.cells [.val (.bool true),.ref 2 1] 163,V (rdG (s.drop 1) k)],mu:=fun i=>en-i },rfl,?_⟩
  (repeat'((conv=>whnf);first|refine Zn ?_|fail))
  refine ⟨⟨(st:Nat),⟨Nat.le_refl _,by omega⟩,?_⟩,fun (i:Nat) hi=>?_⟩
  ·(repeat' first|exact trivial|rfl|apply And.intro|omega)
   rw[yW];rfl
  obtain ⟨hi1,hi2⟩:=hi
  by_cases hlt2:i<en
  ·have hg:=aM6 hd (st:=st) (i:=i) (by omega)
   obtain ⟨e1,e2⟩:=aDe hd hi1 (show i<(s.drop 1).length by omega)
   (repeat'((conv=>whnf);first|refine Zg fun _=>?_|refine Zn ?_|refine Zj ?_|refine Zy ?_|fail))
   refine ⟨(i+1:Nat),by show en-(i+1)<en-i;omega,⟨by omega,hlt2⟩,?_⟩
   (repeat' first|exact trivial|rfl|apply And.intro|omega)
  ·have e:i=en:=by omega
   subst e
   (repeat'((conv=>whnf);first|refine Zl ?_|refine Zm ?_|fail))
   try (
    refine Need.mk (show (rdG (s.drop 1) k).length+1≤17592186044416 by omega) ?_
    (repeat'((conv=>whnf);first|refine Zn ?_|fail)))
   refine ⟨(k+1:Nat),by show (s.drop 1).length+6-6*(k+1)<(s.drop 1).length+6-6*k;omega,by show 6*(k+1)<(s.drop 1).length+6;omega,?_⟩
   (repeat' first|exact trivial|rfl|exact Nat.one_pos|apply And.intro|omega)
   show rdG (s.drop 1) k++ [((gfx (s.drop 1) st i:Nat):Int)]=rdG (s.drop 1) k++ [((aC (grp (s.drop 1) k):Nat):Int)]
   unfold gfx grp
   rw[hst,hen]
 ·have hr:=aIu hd hk (by omega)
  rw[e6] at hr
  (repeat'((conv=>whnf);first|refine Zm ?_|fail))
  (conv=>whnf)
  (repeat' first|exact trivial|apply And.intro)
  ·exact hm
  ·exact hr
theorem b112n (s:List UInt8) (h:form s∧(digs s).length≤600) (hm:¬s.headD 0=45):body Tryz.prog [c141] { asks:=[(0,[2]),(2,[])] } false Tryz.f164 [S s] (.agg [.bl (s.headD 0=45) inferInstance,Ls (aA B6 (aC (digs s)))]):=by
 obtain ⟨hf,hl⟩:=h
 have h0:0<s.length:=Nat.pos_of_ne_zero fun e=>hf.1 (by rw[List.length_eq_zero_iff.1 e];rfl)
 have hd:=hf.2.2
 have hb:¬aH s 0=45:=fun e=>hm ((bI h0 45).1 e)
 have hD:digs s=s:=tD fun _=>hb
 rw[hD] at hd hl ⊢
 have hL:(s).length=(s).length:=rfl
 have e6:(10:Nat)^6=B6:=by decide
 refine Own.l ?_
 refine Own.l ?_
 (conv=>whnf)
 refine Own.r ?_
 refine ⟨1,.int .i64,3,?_⟩
 (repeat'((conv=>whnf);first|refine Zg fun _=>?_|refine Zn ?_|refine Z0 ?_|refine Zm ?_|fail))
 (conv=>whnf)
 refine Ask.mk ⟨{ X:=Nat,pre:=fun k=>6*k<(s).length+6,mod:=fun k _=>[(4,I (((s).length:Int)-6*k))],heap:=fun k H=>[hget H 0,.cells [.val (.bool false),.ref 2 1] 163,V (rdG (s) k)],mu:=fun k=>(s).length+6-6*k,objs:=[2] },rfl,?_⟩
 (repeat'((conv=>whnf);first|refine Zn ?_|fail))
 refine ⟨⟨(0:Nat),by show 6*0< _;omega,?_⟩,fun (k:Nat) hk=>?_⟩
 ·(repeat' first|exact trivial|rfl|exact Nat.one_pos|apply And.intro)
 have hk:6*k<(s).length+6:=hk
 have hrl:=(rJ hd k hk).1
 by_cases hlt:6*k<(s).length
 ·obtain ⟨st,hst⟩:∃st,(s).length-6*(k+1)=st:=⟨_,rfl⟩
  obtain ⟨en,hen⟩:∃en,(s).length-6*k=en:=⟨_,rfl⟩
  (repeat'((conv=>whnf);first|refine Zn ?_|refine Zy ?_|fail))
  refine Ask.mk ⟨{ X:=Nat,pre:=fun i=>st≤i∧i≤en,mod:=fun i _=>[(5,I (gfx (s) st i)),(6,I i)],heap:=fun i H=>[hget H 0,.cells [.val (.bool false),.ref 2 1] 163,V (rdG (s) k)],mu:=fun i=>en-i },rfl,?_⟩
  (repeat'((conv=>whnf);first|refine Zn ?_|fail))
  refine ⟨⟨(st:Nat),⟨Nat.le_refl _,by omega⟩,?_⟩,fun (i:Nat) hi=>?_⟩
  ·(repeat' first|exact trivial|rfl|apply And.intro|omega)
   rw[yW];rfl
  obtain ⟨hi1,hi2⟩:=hi
  by_cases hlt2:i<en
  ·have hg:=aM6 hd (st:=st) (i:=i) (by omega)
   obtain ⟨e1,e2⟩:=aDe hd hi1 (show i<(s).length by omega)
   (repeat'((conv=>whnf);first|refine Zg fun _=>?_|refine Zn ?_|refine Zj ?_|refine Zy ?_|fail))
   refine ⟨(i+1:Nat),by show en-(i+1)<en-i;omega,⟨by omega,hlt2⟩,?_⟩
   (repeat' first|exact trivial|rfl|apply And.intro|omega)
  ·have e:i=en:=by omega
   subst e
   (repeat'((conv=>whnf);first|refine Zn ?_|refine Zl ?_|refine Zm ?_|fail))
   try (
    refine Need.mk (show (rdG (s) k).length+1≤17592186044416 by omega) ?_
    skip)
   refine ⟨(k+1:Nat),by show (s).length+6-6*(k+1)<(s).length+6-6*k;omega,by show 6*(k+1)<(s).length+6;omega,?_⟩
   (repeat' first|exact trivial|rfl|exact Nat.one_pos|apply And.intro|omega)
   show rdG (s) k++ [((gfx (s) st i:Nat):Int)]=rdG (s) k++ [((aC (grp (s) k):Nat):Int)]
   unfold gfx grp
   rw[hst,hen]
 ·have hr:=aIu hd hk (by omega)
  rw[e6] at hr
  (repeat'((conv=>whnf);first|refine Zm ?_|fail))
  (conv=>whnf)
  (repeat' first|exact trivial|apply And.intro)
  ·exact hm
  ·exact hr
theorem b112 (s:List UInt8) (h:form s∧(digs s).length≤600):body Tryz.prog [c141] { asks:=[(0,[2]),(2,[])] } false Tryz.f164 [S s] (.agg [.bl (s.headD 0=45) inferInstance,Ls (aA B6 (aC (digs s)))]):=by
 by_cases hm:s.headD 0=45
 ·exact b112y s h hm
 ·exact b112n s h hm
def c112:Con:=aJ 164 false fun args K=>match args with | [.str s]=>Need (form s∧(digs s).length≤600) (K (.agg [.bl (s.headD 0=45) inferInstance,Ls (aA B6 (aC (digs s)))])) | _=>False
theorem k112:aG Tryz.prog c112:=by
 refine kO Tryz.func164 fun args K h=>?_
 simp only[c112] at h;split at h
 ·rename_i s;exact ⟨_,h.go,triB Tryz.func164 Tryz.ntmps164 (by simp[k141]) (b112 s h.ok)⟩
 ·exact h.elim
theorem b84 (a b:Int) (h:(0≤a∧a≤4611686018427387904)∧(0≤b∧b≤4611686018427387904)):body Tryz.prog [] { asks:=[(0,[])] } true Tryz.f147 [I a,I b] (I (Int.gcd a b)):=by
 obtain ⟨ha,hb⟩:=h
 refine Ask.mk ⟨{ X:=Int × Int,pre:=fun z=>Int.gcd z.1 z.2=Int.gcd a b∧(0≤z.1∧z.1≤4611686018427387904)∧(0≤z.2∧z.2≤4611686018427387904),mod:=fun z _=>[(0,I z.1),(1,I z.2)],heap:=fun _ _=>[],mu:=fun z=>z.2.natAbs },rfl,?_⟩
 (repeat'((conv=>whnf);first|refine Zn ?_|fail))
 refine ⟨⟨(a,b),⟨rfl,ha,hb⟩,by (repeat' first|exact trivial|rfl|apply And.intro)⟩,fun (z:Int × Int) hz=>?_⟩
 obtain ⟨z1,z2,z3⟩:=hz
 (apply Br.mk<;>intro)
 ·rename_i hy
  have hm:(z.1.tmod z.2).natAbs<z.2.natAbs:=by rw[Int.natAbs_tmod];exact Nat.mod_lt _ (by omega)
  have hm0:0≤z.1.tmod z.2:=Int.tmod_nonneg _ z2.1
  (repeat'((conv=>whnf);first|refine Za ?_|(apply Pin.mk;apply Exists.intro)|apply Pinned.mk rfl rfl|fail))
  (conv=>whnf)
  refine ⟨(z.2,z.1.tmod z.2),hm,⟨by rw[← z1];exact rQ _ _,z3,hm0,by show z.1.tmod z.2≤ _;omega⟩,?_⟩
  (repeat' first|exact trivial|rfl|apply And.intro)
  exact (Int.tmod_eq_emod_of_nonneg z2.1).symm
 ·rename_i hy
  have hy:z.2=0:=by omega
  have hg:((Int.gcd a b:Nat):Int)=z.1:=by
   rw[← z1,hy,Int.gcd_zero_right]
   omega
  rw[hg]
  (conv=>whnf)
  (repeat' first|rfl|apply And.intro)
def c84:Con:=aJ 147 true fun args K=>match args with | [.val (.int .i64 a),.val (.int .i64 b)]=>Need ((0≤a∧a≤4611686018427387904)∧(0≤b∧b≤4611686018427387904)) (K (I (Int.gcd a b))) | _=>False
theorem k84:aG Tryz.prog c84:=by
 refine kO Tryz.func147 fun args K h=>?_
 simp only[c84] at h;split at h
 ·rename_i a b;exact ⟨_,h.go,triB Tryz.func147 Tryz.ntmps147 (by simp) (b84 a b h.ok)⟩
 ·exact h.elim
theorem aM7 {D:List UInt8} (hd:∀c∈D,aR c) {i:Nat} (h:i≤17):gfx D 0 i<100000000000000000:=by
 have hb:=bW ((D.take i).drop 0) fun c hc=>hd c (List.mem_of_mem_take (List.mem_of_mem_drop hc))
 have hp:(10:Nat)^ ((D.take i).drop 0).length≤10^17:=Nat.pow_le_pow_right (by omega) (by rw[List.length_drop,List.length_take];omega)
 have h6:(10:Nat)^17=100000000000000000:=by decide
 unfold gfx;omega
theorem aO5 (D:List UInt8):gfx D 0 D.length=aC D:=by
 unfold gfx;rw[List.take_length,List.drop_zero]
theorem b85 (s:List UInt8) (h:(∀c∈s,aR c)∧s.length≤18):body Tryz.prog [] { asks:=[(0,[])] } true Tryz.f148 [S s] (I (aC s)):=by
 obtain ⟨hd,hl⟩:=h
 refine Ask.mk ⟨{ X:=Nat,pre:=fun i=>i≤s.length,mod:=fun i _=>[(3,I (gfx s 0 i)),(4,I i)],heap:=fun _ _=>[],mu:=fun i=>s.length-i },rfl,?_⟩
 (repeat'((conv=>whnf);first|refine Zn ?_|fail))
 refine ⟨⟨(0:Nat),Nat.zero_le _,?_⟩,fun (i:Nat) (hi:i≤s.length)=>?_⟩
 ·(repeat' first|exact trivial|rfl|apply And.intro)
  all_goals (rw[yW];rfl)
 by_cases hlt:i<s.length
 ·have hg:=aM7 hd (i:=i) (by omega)
  obtain ⟨e1,e2⟩:=aDe hd (Nat.zero_le _) hlt
  (repeat'((conv=>whnf);first|refine Zg fun _=>?_|refine Zn ?_|refine Zj ?_|refine Zy ?_|fail))
  refine ⟨(i+1:Nat),by show s.length-(i+1)<s.length-i;omega,hlt,?_⟩
  (repeat' first|exact trivial|rfl|apply And.intro|omega)
 ·have e:i=s.length:=by omega
  subst e
  rw[← aO5]
  (repeat'((conv=>whnf);first|refine Zg fun _=>?_|refine Zm ?_|fail))
  (conv=>whnf)
  (repeat' first|rfl|apply And.intro)
def c85:Con:=aJ 148 true fun args K=>match args with | [.str s]=>Need ((∀c∈s,aR c)∧s.length≤18) (K (I (aC s))) | _=>False
theorem k85:aG Tryz.prog c85:=by
 refine kO Tryz.func148 fun args K h=>?_
 simp only[c85] at h;split at h
 ·rename_i s;exact ⟨_,h.go,triB Tryz.func148 Tryz.ntmps148 (by simp) (b85 s h.ok)⟩
 ·exact h.elim
noncomputable instance (s:List UInt8):Decidable (okD s):=Classical.propDecidable _
theorem aJg {s:List UInt8} {i:Nat} (hi:i<s.length) (hb:aH s i<48∨aH s i>57):¬okD s:=by
 rw[fX]
 rintro ⟨_,h3,_⟩
 have:=h3 _ (List.getElem_mem hi)
 rw[eF hi] at hb
 unfold aR at this
 omega
theorem b83 (s:List UInt8):body Tryz.prog [] { asks:=[(0,[])] } true Tryz.f146 [S s] (.bl (okD s) inferInstance):=by
 by_cases h0:s.length=0
 ·have hn:¬okD s:=by
   rw[fX];exact fun h=>h.1 (List.length_eq_zero_iff.1 h0)
  (repeat'((conv=>whnf);first|refine Zg fun _=>?_|refine Zy ?_|fail))
  (conv=>whnf)
  exact hn
 by_cases h1:s.length>1∧aH s 0=48
 ·obtain ⟨h1,h2⟩:=h1
  have hn:¬okD s:=by
   rw[fX]
   rintro ⟨_,_,h3⟩
   have:=(bI (s:=s) (by omega) 48).1 h2
   rcases h3 with h3 | h3
   ·omega
   ·exact h3 this
  (repeat'((conv=>whnf);first|refine Zg fun _=>?_|refine Zn ?_|refine Z0 ?_|refine Zy ?_|refine Zm ?_|fail))
  (conv=>whnf)
  exact hn
 have h2:¬((s.length:Int)>1)∨((s.length:Int)>1∧¬(aH s 0=48)):=by
  by_cases e:aH s 0=48
  ·exact .inl fun h=>h1 ⟨by omega,e⟩
  ·by_cases e2:s.length>1
   ·exact .inr ⟨by omega,e⟩
   ·exact .inl (by omega)
 have h3:s.length=1∨s.headD 0≠48:=by
  rcases h2 with h2 | ⟨_,h2⟩
  ·exact .inl (by omega)
  ·exact .inr fun e=>h2 ((bI (s:=s) (by omega) 48).2 e)
 rcases h2 with h2 | ⟨h2,h4⟩
 all_goals (
  (repeat'((conv=>whnf);first|refine Zg fun _=>?_|refine Zn ?_|refine Z0 ?_|refine Zy ?_|refine Zm ?_|fail))
  refine Ask.mk ⟨{ X:=Nat,pre:=fun i=>i≤s.length∧∀j,j<i→48≤aH s j∧aH s j≤57,mod:=fun i _=>[(3,I i)],heap:=fun _ _=>[],mu:=fun i=>s.length-i },rfl,?_⟩
  (repeat'((conv=>whnf);first|refine Zn ?_|fail))
  refine ⟨⟨(0:Nat),⟨Nat.zero_le _,fun j h2=>by omega⟩,by (repeat' first|exact trivial|rfl|apply And.intro)⟩,fun (i:Nat) hi=>?_⟩
  obtain ⟨hi1,hi3⟩:=hi
  by_cases hlt:i<s.length
  ·by_cases c1:aH s i<48
   ·have hn:¬okD s:=aJg hlt (.inl c1)
    (repeat'((conv=>whnf);first|refine Zg fun _=>?_|refine Zn ?_|refine Zj ?_|refine Zy ?_|fail))
    (conv=>whnf)
    exact hn
   ·by_cases c2:aH s i>57
    ·have hn:¬okD s:=aJg hlt (.inr c2)
     (repeat'((conv=>whnf);first|refine Zg fun _=>?_|refine Zn ?_|refine Zj ?_|refine Zy ?_|refine Zm ?_|fail))
     (conv=>whnf)
     exact hn
    ·(repeat'((conv=>whnf);first|refine Zg fun _=>?_|refine Zn ?_|refine Zj ?_|refine Zy ?_|refine Zm ?_|fail))
     refine ⟨(i+1:Nat),by show s.length-(i+1)<s.length-i;omega,⟨by omega,fun j h4=>?_⟩,?_⟩
     ·by_cases e:j=i
      ·rw[e];omega
      ·exact hi3 j (by omega)
     ·(repeat' first|exact trivial|rfl|apply And.intro)
  ·have e:i=s.length:=by omega
   have hy:okD s:=by
    rw[fX]
    refine ⟨fun e=>h0 (by rw[e];rfl),fun c hc=>?_,h3⟩
    obtain ⟨j,hj,e2⟩:=List.mem_iff_getElem.1 hc
    have:=hi3 j (by omega)
    rw[eF hj,e2] at this
    unfold aR;omega
   (repeat'((conv=>whnf);first|refine Zg fun _=>?_|refine Zm ?_|fail))
   (conv=>whnf)
   (repeat' first|apply And.intro)
   all_goals first | exact hy.1 | exact hy.2)
def c83:Con:=aJ 146 true fun args K=>match args with | [.str s]=>K (.bl (okD s) inferInstance) | _=>False
theorem k83:aG Tryz.prog c83:=by
 refine kO Tryz.func146 fun args K h=>?_
 simp only[c83] at h;split at h
 ·rename_i s;exact ⟨_,h,triB Tryz.func146 Tryz.ntmps146 (by simp) (b83 s)⟩
 ·exact h.elim
theorem aBj (c:UInt8) (r:List UInt8) (j:Nat):aH (c::r) (j+1)=aH r j:=by
 unfold aH;rfl
theorem tE:∀(D:List UInt8) (i:Nat),i≤D.length→(∀j,j<i→¬aH D j=47)→(i=D.length∨(i<D.length∧aH D i=47))→topS D=D.take i∧botS D=D.drop i
 | [],i,h1,_,_=>by
  have:i=0:=by simpa using h1
  subst this
  exact ⟨rfl,rfl⟩
 | c::r,0,_,_,h=>by
  rcases h with h | ⟨_,h⟩
  ·simp at h
  ·have hc:=(bI (s:=c::r) (by simp) 47).1 h
   have hc:c=47:=hc
   subst hc
   constructor<;>simp[topS,botS]
 | c::r,i+1,h1,h2,h3=>by
  have hc:¬c=47:=fun e=>h2 0 (by omega) ((bI (s:=c::r) (by simp) 47).2 e)
  obtain ⟨q1,q2⟩:=tE r i (by simpa using h1) (fun j hj=>by rw[← aBj c];exact h2 (j+1) (by omega)) (by
   rcases h3 with h3 | ⟨h3,h4⟩
   ·exact .inl (by simpa using h3)
   ·exact .inr ⟨by simpa using h3,by rw[← aBj c];exact h4⟩)
  unfold topS at q1 ⊢
  unfold botS at q2 ⊢
  rw[List.takeWhile_cons,List.dropWhile_cons]
  have hb:(c != 47)=true:=by simpa using hc
  rw[hb]
  simp only[if_true]
  exact ⟨by rw[q1];rfl,by rw[q2];rfl⟩
theorem oP (c:UInt8) (r:List UInt8):digs (c::r)=if c=45 then r else c::r:=rfl
theorem aM8 (s:List UInt8):topS (digs s)=digs (topS s)∧botS (digs s)=botS s:=by
 cases s with
 | nil=>exact ⟨rfl,rfl⟩
 | cons c r=>
  by_cases h:c=45
  ·subst h
   have e1:digs (45::r)=r:=by rw[oP,if_pos rfl]
   have e2:topS (45::r)=45::topS r:=by unfold topS;rw[List.takeWhile_cons];rfl
   have e3:botS (45::r)=botS r:=by unfold botS;rw[List.dropWhile_cons];rfl
   rw[e1,e2,e3]
   exact ⟨(by rw[oP,if_pos rfl]),rfl⟩
  ·have e1:digs (c::r)=c::r:=by rw[oP,if_neg h]
   rw[e1]
   refine ⟨?_,rfl⟩
   unfold topS
   rw[List.takeWhile_cons]
   split
   ·rw[oP,if_neg h]
   ·rfl
theorem b73 (s:List UInt8):body Tryz.prog [] { asks:=[(0,[])] } true Tryz.f145 [S s] (.tup [.bl (s.headD 0=45) inferInstance,S (digs (topS s)),S (botS s).tail,.bl (¬botS s= []) inferInstance]):=by
 obtain ⟨hT,hB⟩:=aM8 s
 rw[← hT,← hB]
 by_cases hm:0<s.length∧aH s 0=45
 ·obtain ⟨h0,hb⟩:=hm
  have hD:=yV h0 hb
  have hh:s.headD 0=45:=(bI h0 45).1 hb
  have hi:aH s 0=45↔s.headD 0=45:=⟨fun _=>hh,fun _=>hb⟩
  rw[hD]
  have hs:(s.drop 1).length≤s.length:=by have:=jO s;rw[hD] at this;omega
  (repeat'((conv=>whnf);first|refine Zg fun _=>?_|refine Zn ?_|refine Z0 ?_|refine Z1 ?_|refine Zy ?_|fail))
  refine Ask.mk ⟨{ X:=Nat,pre:=fun i=>i≤(s.drop 1).length∧∀j,j<i→¬aH (s.drop 1) j=47,mod:=fun i _=>[(8,I i)],heap:=fun _ _=>[],mu:=fun i=>(s.drop 1).length-i },rfl,?_⟩
  (repeat'((conv=>whnf);first|refine Zn ?_|fail))
  refine ⟨⟨(0:Nat),⟨Nat.zero_le _,fun j h2=>by omega⟩,by (repeat' first|exact trivial|rfl|apply And.intro)⟩,fun (i:Nat) hi'=>?_⟩
  obtain ⟨hi1,hi3⟩:=hi'
  by_cases hlt:i<(s.drop 1).length
  ·by_cases c1:aH (s.drop 1) i=47
   ·obtain ⟨w1,w2⟩:=tE (s.drop 1) i hi1 hi3 (.inr ⟨hlt,c1⟩)
    have w3:(s.drop 1).drop (i+1)=((s.drop 1).drop i).tail:=List.tail_drop.symm
    have w4:¬(s.drop 1).drop i= []:=fun h=>by
     have h9:((s.drop 1).drop i).length=0:=by rw[h];rfl
     rw[List.length_drop] at h9
     omega
    rw[w1,w2]
    (repeat'((conv=>whnf);first|refine Zg fun _=>?_|refine Zn ?_|refine Zj ?_|(apply Pin.mk;apply Exists.intro)|apply Pinned.mk rfl rfl|refine Zy ?_|fail))
    (conv=>whnf)
    (repeat' first|exact trivial|rfl|apply And.intro)
    all_goals first | exact hi | exact hh | exact w3 | exact w4
   ·(repeat'((conv=>whnf);first|refine Zg fun _=>?_|refine Zn ?_|refine Zj ?_|refine Zy ?_|refine Zm ?_|fail))
    refine ⟨(i+1:Nat),by show (s.drop 1).length-(i+1)<(s.drop 1).length-i;omega,⟨by omega,fun j h4=>?_⟩,?_⟩
    ·by_cases e:j=i
     ·rw[e];exact c1
     ·exact hi3 j (by omega)
    ·(repeat' first|exact trivial|rfl|apply And.intro)
  ·have e:i=(s.drop 1).length:=by omega
   subst e
   obtain ⟨w1,w2⟩:=tE (s.drop 1) _ hi1 hi3 (.inl rfl)
   rw[List.take_length] at w1
   rw[List.drop_length] at w2
   rw[w1,w2]
   (repeat'((conv=>whnf);first|refine Zg fun _=>?_|refine Zm ?_|fail))
   (conv=>whnf)
   (repeat' first|exact trivial|rfl|apply And.intro)
   all_goals first | exact hi | exact hh | exact fun h=>h rfl
 ·have hD:digs s=s:=tD fun h e=>hm ⟨h,e⟩
  have hh:¬s.headD 0=45:=fun e=>by
   have h0:0<s.length:=Nat.pos_of_ne_zero fun h=>by rw[List.length_eq_zero_iff.1 h] at e;simp at e
   exact hm ⟨h0,(bI h0 45).2 e⟩
  have hm2:¬(0<(s.length:Int))∨(0<(s.length:Int)∧¬aH s 0=45):=by
   by_cases h:0<s.length
   ·exact .inr ⟨by omega,fun e=>hm ⟨h,e⟩⟩
   ·exact .inl (by omega)
  rw[hD]
  have hi:aH s 0=45↔s.headD 0=45:=by
   constructor
   ·intro e
    by_cases h:0<s.length
    ·exact absurd ⟨h,e⟩ hm
    ·rw[List.length_eq_zero_iff.1 (show s.length=0 by omega)] at e
     exact absurd e (by decide)
   ·exact fun e=>absurd e hh
  rcases hm2 with hm2 | ⟨hm2,hm3⟩
  ·skip
   have hs:(s).length≤s.length:=by have:=jO s;rw[hD] at this;omega
   (repeat'((conv=>whnf);first|refine Zg fun _=>?_|refine Zm ?_|fail))
   refine Ask.mk ⟨{ X:=Nat,pre:=fun i=>i≤(s).length∧∀j,j<i→¬aH (s) j=47,mod:=fun i _=>[(8,I i)],heap:=fun _ _=>[],mu:=fun i=>(s).length-i },rfl,?_⟩
   (repeat'((conv=>whnf);first|refine Zn ?_|fail))
   refine ⟨⟨(0:Nat),⟨Nat.zero_le _,fun j h2=>by omega⟩,by (repeat' first|exact trivial|rfl|apply And.intro)⟩,fun (i:Nat) hi'=>?_⟩
   obtain ⟨hi1,hi3⟩:=hi'
   by_cases hlt:i<(s).length
   ·exfalso;omega
   ·have e:i=(s).length:=by omega
    subst e
    obtain ⟨w1,w2⟩:=tE (s) _ hi1 hi3 (.inl rfl)
    rw[List.take_length] at w1
    rw[List.drop_length] at w2
    rw[w1,w2]
    (repeat'((conv=>whnf);first|refine Zg fun _=>?_|refine Zm ?_|fail))
    (conv=>whnf)
    (repeat' first|exact trivial|rfl|apply And.intro)
    all_goals first | exact hi | exact hh | exact fun h=>h rfl
  ·skip
   have hs:(s).length≤s.length:=by have:=jO s;rw[hD] at this;omega
   (repeat'((conv=>whnf);first|refine Zg fun _=>?_|refine Zn ?_|refine Z0 ?_|refine Zy ?_|refine Zm ?_|fail))
   refine Ask.mk ⟨{ X:=Nat,pre:=fun i=>i≤(s).length∧∀j,j<i→¬aH (s) j=47,mod:=fun i _=>[(8,I i)],heap:=fun _ _=>[],mu:=fun i=>(s).length-i },rfl,?_⟩
   (repeat'((conv=>whnf);first|refine Zn ?_|fail))
   refine ⟨⟨(0:Nat),⟨Nat.zero_le _,fun j h2=>by omega⟩,by (repeat' first|exact trivial|rfl|apply And.intro)⟩,fun (i:Nat) hi'=>?_⟩
   obtain ⟨hi1,hi3⟩:=hi'
   by_cases hlt:i<(s).length
   ·by_cases c1:aH (s) i=47
    ·obtain ⟨w1,w2⟩:=tE (s) i hi1 hi3 (.inr ⟨hlt,c1⟩)
     have w3:(s).drop (i+1)=((s).drop i).tail:=List.tail_drop.symm
     have w4:¬(s).drop i= []:=fun h=>by
      have h9:((s).drop i).length=0:=by rw[h];rfl
      rw[List.length_drop] at h9
      omega
     rw[w1,w2]
     (repeat'((conv=>whnf);first|refine Zg fun _=>?_|refine Zn ?_|refine Zj ?_|(apply Pin.mk;apply Exists.intro)|apply Pinned.mk rfl rfl|refine Zy ?_|fail))
     (conv=>whnf)
     (repeat' first|exact trivial|rfl|apply And.intro)
     all_goals first | exact hi | exact hh | exact w3 | exact w4
    ·(repeat'((conv=>whnf);first|refine Zg fun _=>?_|refine Zn ?_|refine Zj ?_|refine Zy ?_|refine Zm ?_|fail))
     refine ⟨(i+1:Nat),by show (s).length-(i+1)<(s).length-i;omega,⟨by omega,fun j h4=>?_⟩,?_⟩
     ·by_cases e:j=i
      ·rw[e];exact c1
      ·exact hi3 j (by omega)
     ·(repeat' first|exact trivial|rfl|apply And.intro)
   ·have e:i=(s).length:=by omega
    subst e
    obtain ⟨w1,w2⟩:=tE (s) _ hi1 hi3 (.inl rfl)
    rw[List.take_length] at w1
    rw[List.drop_length] at w2
    rw[w1,w2]
    (repeat'((conv=>whnf);first|refine Zg fun _=>?_|refine Zm ?_|fail))
    (conv=>whnf)
    (repeat' first|exact trivial|rfl|apply And.intro)
    all_goals first | exact hi | exact hh | exact fun h=>h rfl
def c73:Con:=aJ 145 true fun args K=>match args with | [.str s]=>K (.tup [.bl (s.headD 0=45) inferInstance,S (digs (topS s)),S (botS s).tail,.bl (¬botS s= []) inferInstance]) | _=>False
theorem k73:aG Tryz.prog c73:=by
 refine kO Tryz.func145 fun args K h=>?_
 simp only[c73] at h;split at h
 ·rename_i s;exact ⟨_,h,triB Tryz.func145 Tryz.ntmps145 (by simp) (b73 s)⟩
 ·exact h.elim
def c116:Con:=aJ 197 true fun args K=>match args with
 | [.agg [.bl p hp,.seq (.int .i64) a]]=>Need (dK a∧a.length≤200) (K (S (itoa (@sgP p hp (valB B6 a)))))
 | [.agg [.val (.bool false),.seq (.int .i64) a]]=>Need (dK a∧a.length≤200) (K (S (itoa (valB B6 a))))
 | _=>False
theorem pow6 (k:Nat):(B6:Nat)^k=10^ (6*k):=by
 rw[show B6=10^6 by decide,← Nat.pow_mul]
theorem aDf {k:Nat} (h:k≤300):10^k≤B6^50:=by
 rw[pow6]
 obtain ⟨m,hm⟩:∃m,6*50=m:=⟨_,rfl⟩
 rw[hm]
 exact Nat.pow_le_pow_right (by omega) (by omega)
theorem fH {s:List UInt8} (h:form s) (hl:(digs s).length≤300):aC (digs s)<B6^50:=
 Nat.lt_of_lt_of_le (bW (digs s) h.2.2) (aDf hl)
theorem jV {s:List UInt8} (h:form s) (hl:s.length≤17): -1000000000000000000<valI s∧valI s<1000000000000000000:=gU h (by omega)
theorem aM9 {n k:Nat} (hk:k+1≤300) (h:n<10^ (k+1)):resI (n:Int)=(itoa n,0):=by
 unfold resI lim
 rw[if_neg]
 have:=eV k n h
 simp;omega
theorem aFy {n:Nat} (h:n<B6^50):resI (n:Int)=(itoa n,0):=by
 rw[pow6] at h
 obtain ⟨k,hk⟩:∃k,6*50=k+1:=⟨299,rfl⟩
 rw[hk] at h
 exact aM9 (by omega) h
theorem b86 (a b:List UInt8):body Tryz.prog [c110,c111,c61,c112,c113,c116] { asks:=[(0,[]),(2,[])] } true Tryz.f149 [S a,S b] (.tup [S (bG a b (resI (Int.gcd (valI a) (valI b)))).1,I (bG a b (resI (Int.gcd (valI a) (valI b)))).2]):=by
 unfold bG
 (apply Br.mk<;>intro)
 ·rename_i h
  rw[if_pos h]
  (conv=>whnf)
  (repeat' first|exact trivial|rfl|apply And.intro)
 ·rename_i h
  rw[if_neg h]
  obtain ⟨ha,hb⟩:=jB h
  obtain ⟨fa,la⟩:=bY ha
  obtain ⟨fb,lb⟩:=bY hb
  have pM:=fH fa la
  have pN:=fH fb lb
  have hgv:Int.gcd (valI a) (valI b)=Nat.gcd (aC (digs a)) (aC (digs b)):=by
   unfold Int.gcd
   rw[cX,cX,mG,mG]
  refine Need.mk ⟨fa,fb⟩ ?_
  (apply Br.mk<;>intro)
  ·rename_i hs
   have h1:=jV fa hs.1
   have h2:=jV fb hs.2
   refine Ask.mk ⟨{ X:=Int × Int,pre:=fun z=>Int.gcd z.1 z.2=Int.gcd (valI a) (valI b)∧z.1.natAbs≤1000000000000000000∧z.2.natAbs≤1000000000000000000,mod:=fun z _=>[(7,I z.1),(8,I z.2)],heap:=fun _ _=>[],mu:=fun z=>z.2.natAbs },rfl,?_⟩
   (repeat'((conv=>whnf);first|refine Zn ?_|fail))
   refine ⟨⟨(valI a,valI b),⟨rfl,by show (valI a).natAbs≤ _;omega,by show (valI b).natAbs≤ _;omega⟩,by (repeat' first|exact trivial|rfl|apply And.intro)⟩,fun (z:Int × Int) hz=>?_⟩
   obtain ⟨z1,z2,z3⟩:=hz
   (apply Br.mk<;>intro)
   ·rename_i hy
    have hm:(z.1.tmod z.2).natAbs<z.2.natAbs:=by rw[Int.natAbs_tmod];exact Nat.mod_lt _ (by omega)
    (repeat'((conv=>whnf);first|refine Zb ?_|(apply Pin.mk;apply Exists.intro)|apply Pinned.mk rfl rfl|fail))
    (conv=>whnf)
    refine ⟨(z.2,z.1.tmod z.2),hm,⟨by rw[← z1];exact rQ _ _,z3,by show (z.1.tmod z.2).natAbs≤ _;omega⟩,?_⟩
    (repeat' first|exact trivial|rfl|apply And.intro)
   ·rename_i hy
    have hy:z.2=0:=by omega
    have hg:((Int.gcd (valI a) (valI b):Nat):Int)=max z.1 (-z.1):=by
     rw[← z1,hy,Int.gcd_zero_right]
     omega
    rw[hg,gW (by omega)]
    (repeat'((conv=>whnf);first|refine Zn ?_|fail))
    (conv=>whnf)
    (repeat' first|exact trivial|rfl|apply And.intro)
  ·rename_i hs
   rw[hgv]
   (apply Br.mk<;>intro)
   all_goals (
    refine Need.mk ⟨fa,by omega⟩ ?_
    refine Need.mk ⟨fb,by omega⟩ ?_
    refine Ask.mk ⟨{ X:=Nat × Nat,pre:=fun z=>Nat.gcd z.1 z.2=Nat.gcd (aC (digs a)) (aC (digs b))∧z.1<B6^50∧z.2<B6^50,mod:=fun z _=>[(10,Ls (aA B6 z.1)),(11,Ls (aA B6 z.2))],heap:=fun _ _=>[],mu:=fun z=>z.2 },rfl,?_⟩
    (repeat'((conv=>whnf);first|refine Zn ?_|fail))
    refine ⟨⟨(aC (digs a),aC (digs b)),⟨rfl,pM,pN⟩,by (repeat' first|exact trivial|rfl|apply And.intro)⟩,fun (z:Nat × Nat) hz=>?_⟩
    obtain ⟨z1,z2,z3⟩:=hz
    have l1:=gX z2
    have hpw:B6^50≤B6^100:=Nat.pow_le_pow_right (by decide) (by omega)
    (repeat'((conv=>whnf);first|refine Zg fun _=>?_|fail))
    (apply Br.mk<;>intro)
    ·rename_i hy
     have hy:0<z.2:=Nat.pos_of_ne_zero fun e=>by rw[e,aX] at hy;exact absurd hy (by decide)
     refine Need.mk ⟨aO (by decide) _,dL _,⟨by rw[v6,Int.toNat_natCast];exact hy,by rw[v6,Int.toNat_natCast];exact Nat.lt_of_lt_of_le z3 hpw⟩,by omega⟩ ?_
     rw[v6,v6,← Int.natCast_ediv,← Int.natCast_emod,Int.toNat_natCast,Int.toNat_natCast]
     refine ⟨(z.2,z.1%z.2),Nat.mod_lt _ hy,⟨by rw[← z1];show Nat.gcd z.2 (z.1%z.2)= _;rw[Nat.gcd_comm z.1 z.2,Nat.gcd_rec z.2 z.1];exact Nat.gcd_comm _ _,z3,Nat.lt_trans (Nat.mod_lt _ hy) z3⟩,?_⟩
     (repeat' first|exact trivial|rfl|apply And.intro)
    ·rename_i hy
     have hy:z.2=0:=(gM (B:=B6) (by decide)).1 (List.eq_nil_of_length_eq_zero (by omega))
     rw[hy,Nat.gcd_zero_right] at z1
     rw[← z1,aFy z2]
     refine Need.mk ⟨dL _,by omega⟩ ?_
     rw[v6]
     (conv=>whnf)
     (repeat' first|exact trivial|rfl|apply And.intro))
noncomputable def c86:Con:=aJ 149 true fun args K=>match args with
 | [.str a,.str b]=>K (.tup [S (bG a b (resI (Int.gcd (valI a) (valI b)))).1,I (bG a b (resI (Int.gcd (valI a) (valI b)))).2])
 | _=>False
theorem aNa (s:List UInt8):(topS s).headD 0=45↔s.headD 0=45:=by
 cases s with
 | nil=>exact Iff.rfl
 | cons c r=>
  unfold topS
  rw[List.takeWhile_cons]
  by_cases h:c=47
  ·subst h
   constructor
   ·intro e;simp at e
   ·intro e;simp at e
  ·have hb:(c != 47)=true:=by simpa using h
   rw[hb];exact Iff.rfl
theorem aBk (s:List UInt8):iI s↔okD (digs (topS s))∧¬(s.headD 0=45∧digs (topS s)= [48])∧(botS s= []∨(okD (botS s).tail∧¬(botS s).tail= [48]∧¬(botS s).tail= [49])):=by
 unfold iI
 rw[aFl,aNa,and_assoc]
 refine and_congr_right fun _=>and_congr_right fun _=>?_
 by_cases h:botS s= []
 ·exact ⟨fun _=>.inl h,fun _=>.inl h⟩
 ·have e:denS s=aC (botS s).tail:=by unfold denS;rw[if_neg h]
  rw[e,aI5]
theorem aO6 {s:List UInt8} (h:¬(okD (digs (topS s))∧¬(s.headD 0=45∧digs (topS s)= [48])∧(botS s= []∨(okD (botS s).tail∧¬(botS s).tail= [48]∧¬(botS s).tail= [49])))):chkQ s=11:=by
 unfold chkQ;rw[if_neg fun e=>h ((aBk s).1 e)]
theorem aHh (s:List UInt8):(valI (topS s)).natAbs=aC (digs (topS s)):=by rw[cX,mG]
theorem aJh {t:List UInt8} (h:okD t) (hl:t.length≤300):chkI t=0∧valI t=aC t:=by
 rw[fX] at h
 obtain ⟨h1,h2,h3⟩:=h
 have hh:¬t.headD 0=45:=fun e=>by
  cases t with
  | nil=>exact h1 rfl
  | cons c r=>
   have hc:c=45:=e
   have:=h2 c (by simp)
   subst hc
   exact absurd this (by decide)
 have hd:digs t=t:=by unfold digs;rw[if_neg hh]
 have hf:form t:=by
  refine ⟨by rw[hd];exact h1,?_,by rw[hd];exact h2⟩
  rw[hd]
  by_cases h48:t.headD 0=48
  ·rcases h3 with h3 | h3
   ·exact .inr (aI4 h3 h48)
   ·exact absurd h48 h3
  ·exact .inl h48
 refine ⟨by rw[fZ hf,hd,if_neg (by omega)],by unfold valI;rw[if_neg hh]⟩
theorem aO7 {x y:List UInt8} (hx:okD x) (hy:okD y) (lx:x.length≤300) (ly:y.length≤300):(bG x y (resI (Int.gcd (valI x) (valI y)))).1= [49]↔(aC x).gcd (aC y)=1:=by
 obtain ⟨c1,v1⟩:=aJh hx lx
 obtain ⟨c2,v2⟩:=aJh hy ly
 have hg:Int.gcd (valI x) (valI y)=(aC x).gcd (aC y):=by rw[v1,v2];rfl
 have hpos:(aC x).gcd (aC y)<B6^50:=by
  have b1:=Nat.lt_of_lt_of_le (bW x ((fX x).1 hx).2.1) (aDf lx)
  have b2:=Nat.lt_of_lt_of_le (bW y ((fX y).1 hy).2.1) (aDf ly)
  rcases Nat.eq_zero_or_pos (aC x) with h | h
  ·rw[h,Nat.gcd_zero_left];exact b2
  ·exact Nat.lt_of_le_of_lt (Nat.gcd_le_left _ h) b1
 unfold bG chk2
 rw[if_neg (by rw[c1];simp[c2]),hg,aFy hpos]
 dsimp only
 rw[show ([49]:List UInt8)=itoa ((1:Nat):Int) from by decide+kernel]
 constructor
 ·intro e;have:=jL e;omega
 ·intro e;rw[e]
theorem aNb {s:List UInt8} (h:okD (digs (topS s))∧¬(s.headD 0=45∧digs (topS s)= [48])∧(botS s= []∨(okD (botS s).tail∧¬(botS s).tail= [48]∧¬(botS s).tail= [49]))):
  chkQ s=if 300<(digs (topS s)).length∨300<(botS s).tail.length then 4 else if (aC (digs (topS s))).gcd (denS s)=1 then 0 else 11:=by
 unfold chkQ
 rw[if_pos ((aBk s).2 h),aHh]
theorem b44n (s:List UInt8) (h:¬(okD (digs (topS s))∧¬(s.headD 0=45∧digs (topS s)= [48])∧(botS s= []∨(okD (botS s).tail∧¬(botS s).tail= [48]∧¬(botS s).tail= [49])))):body Tryz.prog [c73,c83,c85,c84,c86] {} true Tryz.f81 [S s] (I (chkQ s)):=by
 rw[aO6 h]
 by_cases h1:okD (digs (topS s))
 ·by_cases h3:botS s= []
  ·have h4:¬ ¬botS s= []:=fun h=>h h3
   have h5:s.headD 0=45∧digs (topS s)= [48]:=Classical.byContradiction fun e=>h ⟨h1,e,.inl h3⟩
   obtain ⟨h5,h6⟩:=h5
   (repeat'((conv=>whnf);first|refine Zy ?_|refine Zm ?_|fail))
   (conv=>whnf)
   (repeat' first|rfl|apply And.intro)
  ·by_cases h5:okD (botS s).tail
   ·by_cases h6:(botS s).tail= [48]
    ·(repeat'((conv=>whnf);first|refine Zy ?_|refine Zm ?_|fail))
     (conv=>whnf)
     (repeat' first|rfl|apply And.intro)
    ·by_cases h7:(botS s).tail= [49]
     ·(repeat'((conv=>whnf);first|refine Zy ?_|refine Zm ?_|fail))
      (conv=>whnf)
      (repeat' first|rfl|apply And.intro)
     ·have h8:s.headD 0=45∧digs (topS s)= [48]:=Classical.byContradiction fun e=>h ⟨h1,e,.inr ⟨h5,h6,h7⟩⟩
      obtain ⟨h8,h9⟩:=h8
      (repeat'((conv=>whnf);first|refine Zy ?_|refine Zm ?_|fail))
      (conv=>whnf)
      (repeat' first|rfl|apply And.intro)
   ·(repeat'((conv=>whnf);first|refine Zy ?_|refine Zm ?_|fail))
    (conv=>whnf)
    (repeat' first|rfl|apply And.intro)
 ·(repeat'((conv=>whnf);first|refine Zy ?_|fail))
  (conv=>whnf)
  (repeat' first|rfl|apply And.intro)
theorem b44y (s:List UInt8) (h:okD (digs (topS s))∧¬(s.headD 0=45∧digs (topS s)= [48])∧(botS s= []∨(okD (botS s).tail∧¬(botS s).tail= [48]∧¬(botS s).tail= [49]))):body Tryz.prog [c73,c83,c85,c84,c86] {} true Tryz.f81 [S s] (I (chkQ s)):=by
 rw[aNb h]
 obtain ⟨h1,h2,h3⟩:=h
 have d1:=((fX _).1 h1).2.1
 have h2:¬s.headD 0=45∨(s.headD 0=45∧¬digs (topS s)= [48]):=by
  by_cases e:s.headD 0=45
  ·exact .inr ⟨e,fun e2=>h2 ⟨e,e2⟩⟩
  ·exact .inl e
 by_cases hb:botS s= []
 ·have hb':¬ ¬botS s= []:=fun h=>h hb
  have hl:(botS s).tail.length=0:=by rw[hb];rfl
  have hd:denS s=1:=by unfold denS;rw[if_pos hb]
  rw[hd]
  have hg1:=Nat.gcd_one_right (aC (digs (topS s)))
  by_cases h300:300<(digs (topS s)).length
  ·rw[if_pos (.inl h300)]
   rcases h2 with h2 | ⟨h2,h4⟩
   all_goals (
    (repeat'((conv=>whnf);first|refine Zg fun _=>?_|refine Zy ?_|refine Zm ?_|fail))
    (conv=>whnf)
    (repeat' first|rfl|apply And.intro))
  ·rw[if_neg (by omega),if_pos hg1]
   rcases h2 with h2 | ⟨h2,h4⟩
   all_goals (
    (repeat'((conv=>whnf);first|refine Zg fun _=>?_|refine Zy ?_|refine Zm ?_|fail))
    (conv=>whnf)
    (repeat' first|rfl|apply And.intro))
 ·have hd:denS s=aC (botS s).tail:=by unfold denS;rw[if_neg hb]
  rw[hd]
  obtain ⟨h5,h6,h7⟩:=h3.resolve_left hb
  have d2:=((fX _).1 h5).2.1
  by_cases h300:300<(digs (topS s)).length
  ·rw[if_pos (.inl h300)]
   rcases h2 with h2 | ⟨h2,h4⟩
   all_goals (
    (repeat'((conv=>whnf);first|refine Zg fun _=>?_|refine Zy ?_|refine Zm ?_|fail))
    (conv=>whnf)
    (repeat' first|rfl|apply And.intro))
  ·by_cases h301:300<(botS s).tail.length
   ·rw[if_pos (.inr h301)]
    rcases h2 with h2 | ⟨h2,h4⟩
    all_goals (
     (repeat'((conv=>whnf);first|refine Zg fun _=>?_|refine Zy ?_|refine Zm ?_|fail))
     (conv=>whnf)
     (repeat' first|rfl|apply And.intro))
   ·rw[if_neg (by omega)]
    by_cases h9:(digs (topS s)).length≤9∧(botS s).tail.length≤9
    ·obtain ⟨h9,h10⟩:=h9
     have n9:(10:Nat)^9=1000000000:=by decide
     have b1:=bW _ d1
     have b2:=bW _ d2
     have b1':(10:Nat)^ (digs (topS s)).length≤10^9:=Nat.pow_le_pow_right (by omega) h9
     have b2':(10:Nat)^ (botS s).tail.length≤10^9:=Nat.pow_le_pow_right (by omega) h10
     have hgi:Int.gcd (aC (digs (topS s)):Int) (aC (botS s).tail:Int)=(aC (digs (topS s))).gcd (aC (botS s).tail):=rfl
     by_cases hg:(aC (digs (topS s))).gcd (aC (botS s).tail)=1
     ·rw[if_pos hg]
      rcases h2 with h2 | ⟨h2,h4⟩
      all_goals (
       (repeat'((conv=>whnf);first|refine Zg fun _=>?_|refine Zy ?_|refine Zm ?_|fail))
       refine Need.mk ⟨d1,by omega⟩ ?_
       refine Need.mk ⟨d2,by omega⟩ ?_
       (repeat'((conv=>whnf);first|refine Zn ?_|refine Zm ?_|fail))
       (conv=>whnf)
       (repeat' first|rfl|apply And.intro))
     ·rw[if_neg hg]
      rcases h2 with h2 | ⟨h2,h4⟩
      all_goals (
       (repeat'((conv=>whnf);first|refine Zg fun _=>?_|refine Zy ?_|refine Zm ?_|fail))
       refine Need.mk ⟨d1,by omega⟩ ?_
       refine Need.mk ⟨d2,by omega⟩ ?_
       (repeat'((conv=>whnf);first|refine Zn ?_|refine Zy ?_|fail))
       (conv=>whnf)
       (repeat' first|rfl|apply And.intro))
    ·have hgs:=aO7 h1 h5 (by omega) (by omega)
     have h9:¬((digs (topS s)).length:Int)≤9∨(((digs (topS s)).length:Int)≤9∧¬((botS s).tail.length:Int)≤9):=by omega
     by_cases hg:(aC (digs (topS s))).gcd (aC (botS s).tail)=1
     ·rw[if_pos hg]
      have hg2:=hgs.2 hg
      rcases h2 with h2 | ⟨h2,h4⟩
      all_goals (
       rcases h9 with h9 | ⟨h9,h10⟩
       all_goals (
        (repeat'((conv=>whnf);first|refine Zg fun _=>?_|refine Zy ?_|refine Zm ?_|fail))
        (conv=>whnf)
        (repeat' first|rfl|apply And.intro)))
     ·rw[if_neg hg]
      have hg2:¬ _= _:=fun e=>hg (hgs.1 e)
      rcases h2 with h2 | ⟨h2,h4⟩
      all_goals (
       rcases h9 with h9 | ⟨h9,h10⟩
       all_goals (
        (repeat'((conv=>whnf);first|refine Zg fun _=>?_|refine Zy ?_|refine Zm ?_|fail))
        (conv=>whnf)
        (repeat' first|rfl|apply And.intro)))
theorem b44 (s:List UInt8):body Tryz.prog [c73,c83,c85,c84,c86] {} true Tryz.f81 [S s] (I (chkQ s)):=by
 by_cases h:okD (digs (topS s))∧¬(s.headD 0=45∧digs (topS s)= [48])∧(botS s= []∨(okD (botS s).tail∧¬(botS s).tail= [48]∧¬(botS s).tail= [49]))
 ·exact b44y s h
 ·exact b44n s h
theorem yQ (x:Int):∀l:List Int,wrG (l++ [x])=six x.toNat++wrG l
 | []=>by simp[wrG]
 | y::r=>by
  show wrG (r++ [x])++six y.toNat=six x.toNat++(wrG r++six y.toNat)
  rw[yQ x r,List.append_assoc]
abbrev U (l:List Int):HO:=.vec 1 (.int .u8) l 5
theorem i0:itoa (valB B6 [])= [48]:=by show itoa 0= [48];simp[itoa,decDigits]
def lowD (x:Nat):Nat→List Int
 | 0=>[]
 | j+1=>((48+x/10^j%10:Nat):Int)::lowD x j
theorem yR (x:Nat):∀j,(lowD x j).length=j
 | 0=>rfl
 | j+1=>by rw[lowD,List.length_cons,yR x j]
theorem aM1 (x:Nat):lowD x 6=aM (six x):=by
 have d:∀n,(((UInt8.ofNat (48+n%10)).toNat:Nat):Int)=((48+n%10:Nat):Int):=fun n=>by rw[dE (by omega)]
 simp only[lowD,six,aM,List.map_cons,List.map_nil,d,Nat.reducePow,Nat.div_one]
def oT (l:List Int) (i j:Nat):List Int:=List.replicate (6*(l.length-i)-j) 0++(lowD (l.getD i 0).toNat j++aM (wrG (l.take i)))
theorem yS (s:List UInt8):(aM s).length=s.length:=by simp[aM]
theorem aQp {l:List Int} {i j:Nat} (hi:i≤l.length) (hj:j≤6*(l.length-i)):(oT l i j).length=6*l.length:=by
 simp only[oT,List.length_append,List.length_replicate,yR,yS,aC6,List.length_take]
 omega
theorem aO2 (l:List Int):oT l 0 0=List.replicate (6*l.length) 0:=by
 simp[oT,lowD,wrG,aM]
theorem aQq (l:List Int):oT l l.length 0=aM (wrG l):=by
 simp[oT,lowD]
theorem aQr {l:List Int} {i:Nat} (hi:i<l.length):oT l i 6=oT l (i+1) 0:=by
 have e1:6*(l.length-i)-6=6*(l.length-(i+1))-0:=by omega
 have e2:l.take (i+1)=l.take i++ [l.getD i 0]:=by
  rw[List.take_succ_eq_append_getElem hi]
  simp[List.getD_eq_getElem?_getD,hi]
 unfold oT
 rw[e1,e2,yQ,aM1]
 simp[lowD,aM]
theorem aFu (m:Nat) (v:Int) (r:List Int):(List.replicate (m+1) (0:Int)++r).set m v=List.replicate m 0++(v::r):=by
 rw[List.replicate_succ',List.append_assoc,List.set_append_right _ _ (by simp)]
 simp
theorem aQs {l:List Int} {i j k:Nat} {v:Int} (hi:i<l.length) (hj:j<6) (hk:k=6*(l.length-i)-(j+1)) (hv:v=((48+(l.getD i 0).toNat/10^j%10:Nat):Int)):(oT l i j).set k v=oT l i (j+1):=by
 subst hk hv
 unfold oT
 obtain ⟨m,hm⟩:∃m,m=6*(l.length-i)-(j+1):=⟨_,rfl⟩
 rw[show 6*(l.length-i)-j=m+1 by omega,← hm,aFu]
 rfl
theorem dO (s:List UInt8):bC (aM s)=s:=by
 unfold bC aM
 rw[List.map_map]
 conv=>rhs;rw[← List.map_id s]
 refine List.map_congr_left fun b _=>?_
 simp
theorem dz {n m:Nat} (h:n<10*m) (e:n/m%10=0):n<m:=by
 have h1:n/m<10:=Nat.div_lt_of_lt_mul (by rw[Nat.mul_comm];exact h)
 rw[Nat.mod_eq_of_lt h1] at e
 have hm:0<m:=by
  rcases Nat.eq_zero_or_pos m with e0 | e0
  ·subst e0;omega
  ·exact e0
 rcases Nat.div_eq_zero_iff.1 e with h2 | h2
 ·omega
 ·exact h2
theorem dsum {n:Nat} (h0:0<n) (h:n<1000000):0<n/100000%10+n/10000%10+n/1000%10+n/100%10+n/10%10+n%10:=by
 refine Nat.pos_of_ne_zero fun e=>?_
 obtain ⟨e,e5⟩:=Nat.add_eq_zero_iff.1 e
 obtain ⟨e,e4⟩:=Nat.add_eq_zero_iff.1 e
 obtain ⟨e,e3⟩:=Nat.add_eq_zero_iff.1 e
 obtain ⟨e,e2⟩:=Nat.add_eq_zero_iff.1 e
 obtain ⟨e0,e1⟩:=Nat.add_eq_zero_iff.1 e
 have a0:=dz (m:=100000) h e0
 have a1:=dz (m:=10000) a0 e1
 have a2:=dz (m:=1000) a1 e2
 have a3:=dz (m:=100) a2 e3
 have a4:=dz (m:=10) a3 e4
 omega
theorem aM2 {a:List Int} {d0 d1 d2 d3 d4 d5:Nat} {R:List UInt8} (hw:wrG a=UInt8.ofNat (48+d0)::UInt8.ofNat (48+d1)::UInt8.ofNat (48+d2)::UInt8.ofNat (48+d3)::UInt8.ofNat (48+d4)::UInt8.ofNat (48+d5)::R) (hd:d0≤9∧d1≤9∧d2≤9∧d3≤9∧d4≤9∧d5≤9):oT a a.length 0=(48+d0:Int)::(48+d1:Int)::(48+d2:Int)::(48+d3:Int)::(48+d4:Int)::(48+d5:Int)::aM R:=by
 have e:∀d:Nat,d≤9→(((UInt8.ofNat (48+d)).toNat:Nat):Int)=48+d:=fun d h=>by
  rw[UInt8.toNat_ofNat'];omega
 rw[aQq,hw]
 simp only[aM,List.map_cons,e d0 hd.1,e d1 hd.2.1,e d2 hd.2.2.1,e d3 hd.2.2.2.1,e d4 hd.2.2.2.2.1,e d5 hd.2.2.2.2.2]
theorem bH (d:Nat) (X:List Int):bC ((48+(d:Int))::X)=UInt8.ofNat (48+d)::bC X:=by
 show UInt8.ofNat (48+(d:Int)).toNat::bC X= _
 rw[show (48+(d:Int)).toNat=48+d by omega]
theorem sY {p:Prop} {hp:Decidable p} {a:List Int} {d:Nat} {X:List Int} {Y:List UInt8} (h:¬p) (hv:0<valB B6 a) (hY:bC X=Y) (hf:UInt8.ofNat (48+d)::Y=decDigits (valB B6 a).toNat):bC ((48+(d:Int))::X)=itoa (sgP p (valB B6 a)):=by
 rw[bH,hY,hf]
 unfold sgP itoa
 rw[if_neg h,if_neg (by omega)]
theorem sZ {p:Prop} {hp:Decidable p} {a:List Int} {d:Nat} {X:List Int} {Y:List UInt8} (h:p) (hv:0<valB B6 a) (hY:bC X=Y) (hf:UInt8.ofNat (48+d)::Y=decDigits (valB B6 a).toNat):(45:UInt8)::bC ((48+(d:Int))::X)=itoa (sgP p (valB B6 a)):=by
 rw[bH,hY,hf]
 unfold sgP itoa
 rw[if_pos h,if_pos (by omega),Int.natAbs_neg]
 congr 2
 omega
theorem aO3 {a:List Int} (h:dK a) (hp:0<valB B6 a):(wrG a).dropWhile (· ==48)=decDigits (valB B6 a).toNat:=aOo (tC h) hp
theorem aM3 {a:List Int} (h:dK a) (hp:a≠ []):∃d0 d1 d2 d3 d4 d5:Nat,∃R:List UInt8,wrG a=UInt8.ofNat (48+d0)::UInt8.ofNat (48+d1)::UInt8.ofNat (48+d2)::UInt8.ofNat (48+d3)::UInt8.ofNat (48+d4)::UInt8.ofNat (48+d5)::R∧R.length≤6*a.length∧(d0≤9∧d1≤9∧d2≤9∧d3≤9∧d4≤9∧d5≤9)∧0<d0+d1+d2+d3+d4+d5∧0<valB B6 a:=by
 have hin:=tC h
 have hlast:∀(l:List Int),aA B6 (valB B6 a).toNat=l→∀hl:l≠ [],l.getLast hl≠0:=by
  intro l hl;subst hl;exact mC (by decide) _
 have hx:=hlast a h hp
 have hv:0<valB B6 a:=by
  have h1:=yU h
  rcases Nat.eq_zero_or_pos (valB B6 a).toNat with e | e
  ·exfalso
   have h2:aA B6 (valB B6 a).toNat=a:=h
   rw[e] at h2
   exact hp (by rw[← h2];simp[aA])
  ·omega
 obtain ⟨x,hxe⟩:∃x,a.getLast hp=x:=⟨_,rfl⟩
 rw[hxe] at hx
 have hmem:x∈a:=by rw[← hxe];exact List.getLast_mem hp
 have hxb:0≤x∧x<((B6:Nat):Int):=hin x hmem
 have hb6:((B6:Nat):Int)=1000000:=rfl
 rw[hb6] at hxb
 have ha:wrG a=six x.toNat++wrG a.dropLast:=by
  rw[← yQ,← hxe,List.dropLast_concat_getLast hp]
 refine ⟨x.toNat/100000%10,x.toNat/10000%10,x.toNat/1000%10,x.toNat/100%10,x.toNat/10%10,x.toNat%10,wrG a.dropLast,by rw[ha];rfl,?_,⟨by omega,by omega,by omega,by omega,by omega,by omega⟩,dsum (by omega) (by omega),hv⟩
 rw[aC6,List.length_dropLast]
 omega
theorem tA {a:List Int} (h:dK a) (hp:0<valB B6 a) (pre X:List UInt8) (d:Nat) (hd:0<d∧d≤9) (hw:wrG a=pre++UInt8.ofNat (48+d)::X) (hpre:∀b∈pre,b=48):UInt8.ofNat (48+d)::X=decDigits (valB B6 a).toNat:=by
 have hc:UInt8.ofNat (48+d)≠48:=by
  intro e
  have h1:=congrArg UInt8.toNat e
  have h2:(UInt8.ofNat (48+d)).toNat=48+d:=by rw[UInt8.toNat_ofNat'];omega
  rw[h2] at h1
  have:(48:UInt8).toNat=48:=rfl
  omega
 rw[← aO3 h hp,hw]
 clear hw
 induction pre with
 | nil=>rw[List.nil_append,List.dropWhile_cons_of_neg (by simpa using hc)]
 | cons b r ih=>
  rw[hpre b (by simp),List.cons_append,List.dropWhile_cons_of_pos (by simp)]
  exact ih fun b hb=>hpre b (by simp[hb])
theorem b116 (p:Prop) (hp:Decidable p) (a:List Int) (h:dK a∧a.length≤200):body Tryz.prog [] { asks:=[(0,[]),(2,[])] } true Tryz.f197 [.agg [.bl p hp,Ls a]] (S (itoa (sgP p (valB B6 a)))):=by
 obtain ⟨hc,hl⟩:=h
 by_cases he:a= []
 ·subst he
  (repeat'((conv=>whnf);first|refine Zg fun _=>?_|fail))
  (apply Br.mk<;>intro)
  ·skip
   (conv=>whnf)
   show [48]=itoa (if p then -0 else 0)
   split<;>exact i0.symm
  ·rename_i hx
   exact (hx rfl).elim
 ·obtain ⟨d0,d1,d2,d3,d4,d5,R,hw,hR,hd,hs,hpos⟩:=aM3 hc he
  have hin:=tC hc
  have hn:0<a.length:=List.length_pos_iff.2 he
  (repeat'((conv=>whnf);first|refine Zg fun _=>?_|refine Zn ?_|refine Zm ?_|fail))
  refine Need.mk ⟨by omega,by omega,by omega,show 6*(a.length:Int)*((1:Nat):Int)≤140737488355328 by omega⟩ ?_
  refine Ask.mk ⟨{ X:=Nat,pre:=fun i=>i≤a.length,mod:=fun i _=>[(4,I i)],heap:=fun i H=>[hget H 0,U (oT a i 0)],mu:=fun i=>a.length-i },rfl,?_⟩
  (repeat'((conv=>whnf);first|refine Zn ?_|fail))
  refine ⟨⟨(0:Nat),Nat.zero_le _,?_⟩,fun (i:Nat) (hi:i≤a.length)=>?_⟩
  ·(repeat' first|exact trivial|rfl|apply And.intro)
   rw[aO2]
   show List.replicate _ _=List.replicate _ _
   congr 1
  have gi:=hin (a.getD i 0)
  (repeat'((conv=>whnf);first|refine Zg fun _=>?_|fail))
  (apply Br.mk<;>intro)
  ·have hlt:i<a.length:=by omega
   have gx:0≤a.getD i 0∧a.getD i 0<1000000:=by
    refine hin _ ?_
    rw[List.getD_eq_getElem?_getD,List.getElem?_eq_getElem hlt]
    exact List.getElem_mem hlt
   (repeat'((conv=>whnf);first|refine Zg fun _=>?_|refine Zn ?_|refine Zj ?_|fail))
   refine Ask.mk ⟨{ X:=Nat,pre:=fun k=>k≤6,mod:=fun k _=>[(5,I (a.getD i 0/((10^k:Nat):Int))),(6,I (k+1))],heap:=fun k H=>[hget H 0,U (oT a i k)],mu:=fun k=>6-k },rfl,?_⟩
   (repeat'((conv=>whnf);first|refine Zn ?_|fail))
   refine ⟨⟨(0:Nat),Nat.zero_le _,?_⟩,fun (k:Nat) (hk:k≤6)=>?_⟩
   ·(repeat' first|exact trivial|rfl|apply And.intro|omega)
   (apply Br.mk<;>intro)
   ·have hk6:k<6:=by omega
    obtain ⟨q,hq⟩:∃q,a.getD i 0/((10^k:Nat):Int)=q:=⟨_,rfl⟩
    have hq0:0≤q∧q<1000000:=by
     rw[← hq]
     have h1:(0:Int)<((10^k:Nat):Int):=Int.natCast_pos.2 (Nat.pow_pos (by omega))
     refine ⟨Int.ediv_nonneg gx.1 (by omega),?_⟩
     have:=Int.ediv_le_self ((10^k:Nat):Int) gx.1
     omega
    rw[hq]
    have tq:q.tmod 10=q%10:=Int.tmod_eq_emod_of_nonneg hq0.1
    have dq:q.tdiv 10=q/10:=Int.tdiv_eq_ediv_of_nonneg hq0.1
    have hln:=aQp (l:=a) (i:=i) (j:=k) (by omega) (by omega)
    (repeat'((conv=>whnf);first|refine Zg fun _=>?_|refine Za ?_|refine Zn ?_|fail))
    refine bX (6*(a.length-i)-(k+1)) (by omega) ?_
    (repeat'((conv=>whnf);first|refine Za ?_|refine Zn ?_|fail))
    refine ⟨(k+1:Nat),by show 6-(k+1)<6-k;omega,hk6,?_⟩
    (repeat' first|exact trivial|rfl|apply And.intro)
    ·rw[← hq,Nat.pow_succ,Int.natCast_mul,Int.ediv_ediv_of_nonneg (Int.natCast_nonneg _)];rfl
    ·refine aQs hlt hk6 rfl ?_
     rw[← hq]
     have e1:a.getD i 0=((a.getD i 0).toNat:Int):=by omega
     rw[e1]
     simp only[Int.toNat_natCast]
     omega
   ·have e:k=6:=by omega
    subst e
    (repeat'((conv=>whnf);first|refine Zn ?_|fail))
    refine ⟨(i+1:Nat),by show a.length-(i+1)<a.length-i;omega,hlt,?_⟩
    (repeat' first|exact trivial|rfl|apply And.intro)
    exact aQr hlt
  ·have e:i=a.length:=by omega
   subst e
   rw[aM2 hw ⟨hd.1,hd.2.1,hd.2.2.1,hd.2.2.2.1,hd.2.2.2.2.1,hd.2.2.2.2.2⟩]
   have hk (n:Nat):List.length (α:=Int) (aM R)=R.length:=yS R
   by_cases z0:d0=0
   ·subst z0
    by_cases z1:d1=0
    ·subst z1
     by_cases z2:d2=0
     ·subst z2
      by_cases z3:d3=0
      ·subst z3
       by_cases z4:d4=0
       ·subst z4
        by_cases z5:d5=0
        ·subst z5
         exfalso;omega
        ·have hf:=tA hc hpos [48,48,48,48,48] (R) d5 (by omega) hw (by simp)
         (repeat'((conv=>whnf);first|refine Zg fun _=>?_|refine Zn ?_|refine Z0 ?_|fail))
         refine Br.mkY (show (48+((0:Nat):Int))=48 by omega) ?_
         (repeat'((conv=>whnf);first|refine Zg fun _=>?_|refine Zn ?_|refine Z0 ?_|refine Z1 ?_|refine Zl ?_|fail))
         refine Br.mkY (show (48+((0:Nat):Int))=48 by omega) ?_
         (repeat'((conv=>whnf);first|refine Zg fun _=>?_|refine Zn ?_|refine Z0 ?_|refine Z1 ?_|fail))
         refine Br.mkY (show (48+((0:Nat):Int))=48 by omega) ?_
         (repeat'((conv=>whnf);first|refine Zg fun _=>?_|refine Zn ?_|refine Z0 ?_|refine Z1 ?_|fail))
         refine Br.mkY (show (48+((0:Nat):Int))=48 by omega) ?_
         (repeat'((conv=>whnf);first|refine Zg fun _=>?_|refine Zn ?_|refine Z0 ?_|refine Z1 ?_|fail))
         refine Br.mkY (show (48+((0:Nat):Int))=48 by omega) ?_
         (repeat'((conv=>whnf);first|refine Zg fun _=>?_|refine Zn ?_|refine Z0 ?_|refine Z1 ?_|fail))
         refine Br.mkN (show ¬(48+(d5:Int))=48 by omega) ?_
         (apply Br.mk<;>intro)
         ·rename_i hp'
          refine Need.mk (show 1+(bC ((48+(d5:Int))::(aM R))).length≤140737488355328 by (simp only[bC,aM,List.length_map,List.length_cons];omega)) ?_
          (conv=>whnf)
          exact sZ hp' hpos (X:=(aM R)) (by simp only[bH,dO]) hf
         ·rename_i hp'
          (conv=>whnf)
          exact sY hp' hpos (X:=(aM R)) (by simp only[bH,dO]) hf
       ·have hf:=tA hc hpos [48,48,48,48] (UInt8.ofNat (48+d5)::R) d4 (by omega) hw (by simp)
        (repeat'((conv=>whnf);first|refine Zg fun _=>?_|refine Zn ?_|refine Z0 ?_|fail))
        refine Br.mkY (show (48+((0:Nat):Int))=48 by omega) ?_
        (repeat'((conv=>whnf);first|refine Zg fun _=>?_|refine Zn ?_|refine Z0 ?_|refine Z1 ?_|refine Zl ?_|fail))
        refine Br.mkY (show (48+((0:Nat):Int))=48 by omega) ?_
        (repeat'((conv=>whnf);first|refine Zg fun _=>?_|refine Zn ?_|refine Z0 ?_|refine Z1 ?_|fail))
        refine Br.mkY (show (48+((0:Nat):Int))=48 by omega) ?_
        (repeat'((conv=>whnf);first|refine Zg fun _=>?_|refine Zn ?_|refine Z0 ?_|refine Z1 ?_|fail))
        refine Br.mkY (show (48+((0:Nat):Int))=48 by omega) ?_
        (repeat'((conv=>whnf);first|refine Zg fun _=>?_|refine Zn ?_|refine Z0 ?_|refine Z1 ?_|fail))
        refine Br.mkN (show ¬(48+(d4:Int))=48 by omega) ?_
        (apply Br.mk<;>intro)
        ·rename_i hp'
         refine Need.mk (show 1+(bC ((48+(d4:Int))::((48+d5:Int)::aM R))).length≤140737488355328 by (simp only[bC,aM,List.length_map,List.length_cons];omega)) ?_
         (conv=>whnf)
         exact sZ hp' hpos (X:=((48+d5:Int)::aM R)) (by simp only[bH,dO]) hf
        ·rename_i hp'
         (conv=>whnf)
         exact sY hp' hpos (X:=((48+d5:Int)::aM R)) (by simp only[bH,dO]) hf
      ·have hf:=tA hc hpos [48,48,48] (UInt8.ofNat (48+d4)::UInt8.ofNat (48+d5)::R) d3 (by omega) hw (by simp)
       (repeat'((conv=>whnf);first|refine Zg fun _=>?_|refine Zn ?_|refine Z0 ?_|fail))
       refine Br.mkY (show (48+((0:Nat):Int))=48 by omega) ?_
       (repeat'((conv=>whnf);first|refine Zg fun _=>?_|refine Zn ?_|refine Z0 ?_|refine Z1 ?_|refine Zl ?_|fail))
       refine Br.mkY (show (48+((0:Nat):Int))=48 by omega) ?_
       (repeat'((conv=>whnf);first|refine Zg fun _=>?_|refine Zn ?_|refine Z0 ?_|refine Z1 ?_|fail))
       refine Br.mkY (show (48+((0:Nat):Int))=48 by omega) ?_
       (repeat'((conv=>whnf);first|refine Zg fun _=>?_|refine Zn ?_|refine Z0 ?_|refine Z1 ?_|fail))
       refine Br.mkN (show ¬(48+(d3:Int))=48 by omega) ?_
       (apply Br.mk<;>intro)
       ·rename_i hp'
        refine Need.mk (show 1+(bC ((48+(d3:Int))::((48+d4:Int)::(48+d5:Int)::aM R))).length≤140737488355328 by (simp only[bC,aM,List.length_map,List.length_cons];omega)) ?_
        (conv=>whnf)
        exact sZ hp' hpos (X:=((48+d4:Int)::(48+d5:Int)::aM R)) (by simp only[bH,dO]) hf
       ·rename_i hp'
        (conv=>whnf)
        exact sY hp' hpos (X:=((48+d4:Int)::(48+d5:Int)::aM R)) (by simp only[bH,dO]) hf
     ·have hf:=tA hc hpos [48,48] (UInt8.ofNat (48+d3)::UInt8.ofNat (48+d4)::UInt8.ofNat (48+d5)::R) d2 (by omega) hw (by simp)
      (repeat'((conv=>whnf);first|refine Zg fun _=>?_|refine Zn ?_|refine Z0 ?_|fail))
      refine Br.mkY (show (48+((0:Nat):Int))=48 by omega) ?_
      (repeat'((conv=>whnf);first|refine Zg fun _=>?_|refine Zn ?_|refine Z0 ?_|refine Z1 ?_|refine Zl ?_|fail))
      refine Br.mkY (show (48+((0:Nat):Int))=48 by omega) ?_
      (repeat'((conv=>whnf);first|refine Zg fun _=>?_|refine Zn ?_|refine Z0 ?_|refine Z1 ?_|fail))
      refine Br.mkN (show ¬(48+(d2:Int))=48 by omega) ?_
      (apply Br.mk<;>intro)
      ·rename_i hp'
       refine Need.mk (show 1+(bC ((48+(d2:Int))::((48+d3:Int)::(48+d4:Int)::(48+d5:Int)::aM R))).length≤140737488355328 by (simp only[bC,aM,List.length_map,List.length_cons];omega)) ?_
       (conv=>whnf)
       exact sZ hp' hpos (X:=((48+d3:Int)::(48+d4:Int)::(48+d5:Int)::aM R)) (by simp only[bH,dO]) hf
      ·rename_i hp'
       (conv=>whnf)
       exact sY hp' hpos (X:=((48+d3:Int)::(48+d4:Int)::(48+d5:Int)::aM R)) (by simp only[bH,dO]) hf
    ·have hf:=tA hc hpos [48] (UInt8.ofNat (48+d2)::UInt8.ofNat (48+d3)::UInt8.ofNat (48+d4)::UInt8.ofNat (48+d5)::R) d1 (by omega) hw (by simp)
     (repeat'((conv=>whnf);first|refine Zg fun _=>?_|refine Zn ?_|refine Z0 ?_|fail))
     refine Br.mkY (show (48+((0:Nat):Int))=48 by omega) ?_
     (repeat'((conv=>whnf);first|refine Zg fun _=>?_|refine Zn ?_|refine Z0 ?_|refine Z1 ?_|refine Zl ?_|fail))
     refine Br.mkN (show ¬(48+(d1:Int))=48 by omega) ?_
     (apply Br.mk<;>intro)
     ·rename_i hp'
      refine Need.mk (show 1+(bC ((48+(d1:Int))::((48+d2:Int)::(48+d3:Int)::(48+d4:Int)::(48+d5:Int)::aM R))).length≤140737488355328 by (simp only[bC,aM,List.length_map,List.length_cons];omega)) ?_
      (conv=>whnf)
      exact sZ hp' hpos (X:=((48+d2:Int)::(48+d3:Int)::(48+d4:Int)::(48+d5:Int)::aM R)) (by simp only[bH,dO]) hf
     ·rename_i hp'
      (conv=>whnf)
      exact sY hp' hpos (X:=((48+d2:Int)::(48+d3:Int)::(48+d4:Int)::(48+d5:Int)::aM R)) (by simp only[bH,dO]) hf
   ·have hf:=tA hc hpos [] (UInt8.ofNat (48+d1)::UInt8.ofNat (48+d2)::UInt8.ofNat (48+d3)::UInt8.ofNat (48+d4)::UInt8.ofNat (48+d5)::R) d0 (by omega) hw (by simp)
    (repeat'((conv=>whnf);first|refine Zg fun _=>?_|refine Zn ?_|refine Z0 ?_|fail))
    refine Br.mkN (show ¬(48+(d0:Int))=48 by omega) ?_
    (apply Br.mk<;>intro)
    ·rename_i hp'
     refine Need.mk (show 1+(bC ((48+(d0:Int))::((48+d1:Int)::(48+d2:Int)::(48+d3:Int)::(48+d4:Int)::(48+d5:Int)::aM R))).length≤140737488355328 by (simp only[bC,aM,List.length_map,List.length_cons];omega)) ?_
     (conv=>whnf)
     exact sZ hp' hpos (X:=((48+d1:Int)::(48+d2:Int)::(48+d3:Int)::(48+d4:Int)::(48+d5:Int)::aM R)) (by simp only[bH,dO]) hf
    ·rename_i hp'
     (conv=>whnf)
     exact sY hp' hpos (X:=((48+d1:Int)::(48+d2:Int)::(48+d3:Int)::(48+d4:Int)::(48+d5:Int)::aM R)) (by simp only[bH,dO]) hf
theorem k116:aG Tryz.prog c116:=by
 refine kO Tryz.func197 fun args K h=>?_
 simp only[c116] at h;split at h
 ·rename_i p hp a
  exact ⟨_,h.go,triB Tryz.func197 Tryz.ntmps197 (by simp) (b116 p hp a h.ok)⟩
 ·rename_i a
  refine ⟨_,h.go,?_⟩
  have ht:=triB Tryz.func197 Tryz.ntmps197 (by simp) (b116 False inferInstance a h.ok)
  refine yF (args:=[.agg [.bl False inferInstance,Ls a]]) ht ⟨⟨fun h=>h,?_,trivial⟩,trivial⟩
  rfl
 ·exact h.elim
theorem k86:aG Tryz.prog c86:=by
 refine kO Tryz.func149 fun args K h=>?_
 simp only[c86] at h;split at h
 ·rename_i a b
  exact ⟨_,h,triB Tryz.func149 Tryz.ntmps149 (by simp[k110,k111,k61,k112,k113,k116]) (b86 a b)⟩
 ·exact h.elim
def c44:Con:=aJ 81 true fun args K=>match args with | [.str s]=>K (I (chkQ s)) | _=>False
theorem k44:aG Tryz.prog c44:=by
 refine kO Tryz.func81 fun args K h=>?_
 simp only[c44] at h;split at h
 ·rename_i s;exact ⟨_,h,triB Tryz.func81 Tryz.ntmps81 (by simp[k73,k83,k85,k84,k86]) (b44 s)⟩
 ·exact h.elim
def badQ (s:List UInt8):Prop:=60<s.length∨chkQ s≠0
noncomputable instance (s:List UInt8):Decidable (badQ s):=Classical.propDecidable _
def fineL (l:List (List UInt8)):Prop:=∀a∈l,a.length≤60∧chkQ a=0
noncomputable instance (l:List (List UInt8)):Decidable (fineL l):=Classical.propDecidable _
theorem dec1 {n:Nat} (h:n<10):decDigits n= [UInt8.ofNat (48+n)]:=by
 rw[decDigits,dif_pos h]
theorem aPv {n:Nat} (h:n<10):itoa (n:Int)= [UInt8.ofNat (48+n)]:=by
 unfold itoa
 rw[if_neg (by omega),Int.toNat_natCast,dec1 h]
theorem int1 {q:Rat} {n:Nat} (hn:q.num=n) (hd:q.den=1) (h1:n<10):numS q= [UInt8.ofNat (48+n)]:=by
 unfold numS
 rw[hn,hd,if_pos rfl,aPv h1]
def Sz (k:Nat) (q:Rat):Prop:=q.num.natAbs<10^k∧q.den<10^k
theorem cR {i j:Nat} (h:i≤j):(10:Nat)^i≤10^j:=Nat.pow_le_pow_right (by omega) h
theorem Sz.mono {i j:Nat} {q:Rat} (h:Sz i q) (hij:i≤j):Sz j q:=
 ⟨Nat.lt_of_lt_of_le h.1 (cR hij),Nat.lt_of_lt_of_le h.2 (cR hij)⟩
theorem jP {n k:Nat} (hk:0<k) (h:n<10^k):(decDigits n).length≤k:=by
 obtain ⟨m,rfl⟩:∃m,k=m+1:=⟨k-1,by omega⟩
 exact eV m n h
theorem bS {n:Int} {k:Nat} (hk:0<k∧k≤300) (h:n.natAbs<10^k):lim n=false:=by
 unfold lim
 have:=jP hk.1 h
 simp;omega
theorem mJ {n k:Nat} (h:(decDigits n).length≤k):n<10^k:=by
 have h1:=bW (decDigits n) (fun c hc=>eZ _ c hc)
 rw[bT] at h1
 exact Nat.lt_of_lt_of_le h1 (cR h)
theorem yX {q:Rat} {k:Nat} (h:Sz k q) (hk:0<k∧k≤300):chkQ (numS q)=0:=by
 refine aFq (by rw[gO]) ?_ ?_
 ·rw[fV,bO]
  have:=jP hk.1 h.1
  omega
 ·rw[jK]
  split
  ·simp
  ·have:=jP hk.1 h.2
   simp;omega
theorem mK {a b i j:Nat} (ha:a<10^i) (hb:b<10^j):a*b<10^ (i+j):=by
 rw[Nat.pow_add]
 exact Nat.mul_lt_mul'' ha hb
theorem pO (n:Int) (g:Nat):(n/(g:Int)).natAbs≤n.natAbs:=by
 rcases Nat.eq_zero_or_pos g with e | e
 ·subst e;simp
 ·have h1:(1:Int)≤g:=by omega
  rcases Int.le_total 0 n with h | h
  ·have h2:=Int.ediv_le_self (g:Int) h
   have h3:=Int.ediv_nonneg h (show (0:Int)≤g by omega)
   omega
  ·have h2:n/(g:Int)≤0:=by
    have:=Int.ediv_le_ediv (show (0:Int)<g by omega) h
    simpa using this
   have h3:n≤n/(g:Int):=by
    rw[Int.le_ediv_iff_mul_le (by omega)]
    have:=Int.mul_le_mul_of_nonpos_left (a:=n) h h1
    rw[Int.mul_one] at this
    omega
   omega
theorem aBl {n:Int} {d k:Nat} (hd:d≠0) (h1:n.natAbs<10^k) (h2:d<10^k):Sz k (mkRat n d):=by
 refine ⟨?_,?_⟩
 ·rw[Rat.num_mkRat,if_neg hd]
  refine Nat.lt_of_le_of_lt ?_ h1
  exact pO _ _
 ·rw[Rat.den_mkRat,if_neg hd]
  exact Nat.lt_of_le_of_lt (Nat.div_le_self _ _) h2
theorem fR {x y:Int} {k:Nat} (hx:x.natAbs<10^k) (hy:y.natAbs<10^k):(x+y).natAbs<10^ (k+1)∧(x-y).natAbs<10^ (k+1):=by
 rw[Nat.pow_succ]
 omega
section
variable {p q:Rat} {i j:Nat}
theorem Sz.cross (hp:Sz i p) (hq:Sz j q):(p.num*q.den).natAbs<10^ (i+j)∧(q.num*p.den).natAbs<10^ (i+j)∧(p.num*q.num).natAbs<10^ (i+j)∧p.den*q.den<10^ (i+j):=by
 refine ⟨?_,?_,?_,mK hp.2 hq.2⟩
 ·rw[Int.natAbs_mul];exact mK hp.1 hq.2
 ·rw[Int.natAbs_mul,Nat.add_comm];exact mK hq.1 hp.2
 ·rw[Int.natAbs_mul];exact mK hp.1 hq.1
theorem yY (p q:Rat):p.den*q.den≠0:=Nat.mul_ne_zero p.den_nz q.den_nz
theorem Sz.add (hp:Sz i p) (hq:Sz j q):Sz (i+j+1) (p+q):=by
 obtain ⟨h1,h2,h3,h4⟩:=hp.cross hq
 rw[aKc]
 exact aBl (yY p q) (fR h1 h2).1 (Nat.lt_of_lt_of_le h4 (cR (by omega)))
theorem Sz.sub (hp:Sz i p) (hq:Sz j q):Sz (i+j+1) (p-q):=by
 obtain ⟨h1,h2,h3,h4⟩:=hp.cross hq
 rw[aA4]
 exact aBl (yY p q) (fR h1 h2).2 (Nat.lt_of_lt_of_le h4 (cR (by omega)))
theorem Sz.mul (hp:Sz i p) (hq:Sz j q):Sz (i+j) (p*q):=by
 obtain ⟨h1,h2,h3,h4⟩:=hp.cross hq
 rw[oK]
 exact aBl (yY p q) h3 h4
theorem oQ {f:Rat→Rat→List UInt8 × Int} (hp:Sz i p) (hq:Sz j q) (hi:0<i∧i≤300) (hj:0<j∧j≤300):gA (numS p) (numS q) f=f p q:=by
 unfold gA
 rw[if_neg (by rw[yX hp hi];simp),if_neg (by rw[yX hq hj];simp),gO,gO]
theorem aO8 (hp:Sz i p) (hq:Sz j q) (hi:0<i) (hj:0<j) (h:i+j+1≤300):addQ (numS p) (numS q)=(numS (p+q),0):=by
 obtain ⟨h1,h2,h3,h4⟩:=hp.cross hq
 unfold addQ
 rw[oQ hp hq ⟨hi,by omega⟩ ⟨hj,by omega⟩,if_neg]
 simp only[Bool.or_eq_true,not_or,Bool.not_eq_true]
 exact ⟨⟨⟨bS ⟨by omega,by omega⟩ h1,bS ⟨by omega,by omega⟩ h2⟩,bS (k:=i+j+1) ⟨by omega,h⟩ (fR h1 h2).1⟩,bS (k:=i+j) ⟨by omega,by omega⟩ (by rw[← Int.natCast_mul,Int.natAbs_natCast];exact h4)⟩
theorem vD (hp:Sz i p) (hq:Sz j q) (hi:0<i) (hj:0<j) (h:i+j+1≤300):subQ (numS p) (numS q)=(numS (p-q),0):=by
 obtain ⟨h1,h2,h3,h4⟩:=hp.cross hq
 unfold subQ
 rw[oQ hp hq ⟨hi,by omega⟩ ⟨hj,by omega⟩,if_neg]
 simp only[Bool.or_eq_true,not_or,Bool.not_eq_true]
 exact ⟨⟨⟨bS ⟨by omega,by omega⟩ h1,bS ⟨by omega,by omega⟩ h2⟩,bS (k:=i+j+1) ⟨by omega,h⟩ (fR h1 h2).2⟩,bS (k:=i+j) ⟨by omega,by omega⟩ (by rw[← Int.natCast_mul,Int.natAbs_natCast];exact h4)⟩
theorem aDg (hp:Sz i p) (hq:Sz j q) (hi:0<i) (hj:0<j) (h:i+j≤300):mulQ (numS p) (numS q)=(numS (p*q),0):=by
 obtain ⟨h1,h2,h3,h4⟩:=hp.cross hq
 unfold mulQ
 rw[oQ hp hq ⟨hi,by omega⟩ ⟨hj,by omega⟩,if_neg]
 simp only[Bool.or_eq_true,not_or,Bool.not_eq_true]
 exact ⟨bS ⟨by omega,h⟩ h3,bS (k:=i+j) ⟨by omega,by omega⟩ (by rw[← Int.natCast_mul,Int.natAbs_natCast];exact h4)⟩
theorem oR (hp:Sz i p) (hq:Sz j q) (hi:0<i) (hj:0<j) (h:i+j≤300) (h0:q≠0):divQ (numS p) (numS q)=(numS (p/q),0):=by
 obtain ⟨h1,h2,h3,h4⟩:=hp.cross hq
 unfold divQ
 rw[oQ hp hq ⟨hi,by omega⟩ ⟨hj,by omega⟩,if_neg h0,if_neg]
 simp only[Bool.or_eq_true,not_or,Bool.not_eq_true]
 exact ⟨bS ⟨by omega,h⟩ h1,bS ⟨by omega,h⟩ h2⟩
theorem aO9 (hp:Sz i p) (hq:Sz j q) (hi:0<i) (hj:0<j) (h:i+j≤300):cmpQ (numS p) (numS q)=(cmpI (p.num*q.den) (q.num*p.den),0):=by
 obtain ⟨h1,h2,h3,h4⟩:=hp.cross hq
 unfold cmpQ
 rw[if_neg (by rw[yX hp ⟨hi,by omega⟩];simp),if_neg (by rw[yX hq ⟨hj,by omega⟩];simp),gO,gO]
 unfold cmpf
 rw[if_neg]
 simp only[Bool.or_eq_true,not_or,Bool.not_eq_true]
 exact ⟨bS ⟨by omega,h⟩ h1,bS ⟨by omega,h⟩ h2⟩
end
theorem aDh {n:Int} {k:Nat} (h:n.natAbs<10^k) (hk:0<k):Sz k (n:Rat):=
 ⟨h,Nat.lt_of_lt_of_le (show 1<10^1 by decide) (cR hk)⟩
theorem eT (n:Int):numS (n:Rat)=itoa n:=by
 unfold numS
 rw[Rat.den_intCast,if_pos rfl,Rat.num_intCast]
theorem aBm (n:Int):itoa n= [48]↔n=0:=by
 constructor
 ·intro h
  have:=congrArg valI h
  rw[aQ] at this
  rw[this];decide
 ·rintro rfl;exact itoa_zero
theorem nP {n:Nat}:(decDigits n).getD 0 0≠45:=by
 intro h
 have h1:=eZ n ((decDigits n).getD 0 0) (by
  have:=xW n
  cases e:decDigits n with
  | nil=>exact absurd e this
  | cons x r=>simp)
 rw[h] at h1
 unfold aR at h1
 revert h1
 decide
theorem aQu {q:Rat}:pd q= [49]↔q.den=1:=by
 constructor
 ·intro h
  have:=congrArg aC (show decDigits q.den= [49] from h)
  rw[bT] at this
  rw[this];decide
 ·intro h
  show decDigits q.den= [49]
  rw[h,dec1 (by decide)];rfl
theorem aNc (q:Rat):q.num/(q.den:Int)*(q.den:Int)≤q.num:=Int.ediv_mul_le _ (by have:=q.den_nz;omega)
theorem aNd (q:Rat):q.num<(q.num/(q.den:Int)+1)*(q.den:Int):=Int.lt_ediv_add_one_mul_self _ (by have:=q.den_pos;omega)
noncomputable def cmpR (p q:Rat):Int:=if p<q then -1 else if q<p then 1 else 0
theorem aNe {p q:Rat} {i j:Nat} (hp:Sz i p) (hq:Sz j q) (hi:0<i) (hj:0<j) (h:i+j≤300):cmpQ (numS p) (numS q)=(cmpR p q,0):=by
 rw[aO9 hp hq hi hj h]
 unfold cmpI cmpR
 rw[Prod.mk.injEq]
 refine ⟨?_,rfl⟩
 by_cases h1:p<q
 ·rw[if_pos h1,if_pos ((Rat.lt_iff p q).1 h1)]
 ·rw[if_neg h1,if_neg fun h=>h1 ((Rat.lt_iff p q).2 h)]
  by_cases h2:q<p
  ·have:=(Rat.lt_iff q p).1 h2
   rw[if_pos h2,if_neg (by omega)]
  ·have e1:¬p.num*(q.den:Int)<q.num*(p.den:Int):=fun h=>h1 ((Rat.lt_iff p q).2 h)
   have e2:¬q.num*(p.den:Int)<p.num*(q.den:Int):=fun h=>h2 ((Rat.lt_iff q p).2 h)
   rw[if_neg h2,if_pos (by omega)]
theorem aPa (p q:Rat):cmpR p q<0↔p<q:=by
 unfold cmpR
 constructor
 ·intro h
  split at h
  ·assumption
  ·split at h<;>omega
 ·intro h
  rw[if_pos h];omega
theorem aJi (q:Rat):numS q≠ []:=by
 unfold numS
 have:=iH (x:=q.num)
 split
 ·intro h;rw[h] at this;simp at this
 ·intro h
  have h1:=congrArg List.length h
  simp at h1
theorem aKu (q:Rat):aH (numS q) 0=45↔q<0:=by
 have h0:0<(numS q).length:=List.length_pos_iff.2 (aJi q)
 have e:aH (numS q) 0=aH (itoa q.num) 0:=by
  unfold numS
  split
  ·rfl
  ·unfold aH
   rw[List.getD_eq_getElem?_getD,List.getD_eq_getElem?_getD,List.getElem?_append_left iH]
 rw[e]
 have hn:q<0↔q.num<0:=by
  rw[Rat.lt_iff]
  show q.num*((1:Nat):Int)<0* _↔ _
  omega
 rw[hn]
 unfold itoa
 split
 ·rename_i h
  exact ⟨fun _=>h,fun _=>rfl⟩
 ·rename_i h
  constructor
  ·intro h2
   exfalso
   refine nP (n:=q.num.toNat) (UInt8.toNat_inj.1 ?_)
   unfold aH at h2
   have:(45:UInt8).toNat=45:=rfl
   omega
  ·intro h2
   exact absurd h2 h
theorem numS0:numS (0:Rat)= [48]:=int1 (n:=0) (by decide) (by decide) (by decide)
def addS (p:Prop) (m:Nat) (q:Prop) (n:Nat) [Decidable p] [Decidable q]:Prop:=addP p m q n∧addN p m q n≠0
instance (p:Prop) (m:Nat) (q:Prop) (n:Nat) [Decidable p] [Decidable q]:Decidable (addS p m q n):=by unfold addS;infer_instance
theorem yZ (n:Nat):(aA B6 n).length=0↔n=0:=by
 constructor
 ·intro h
  have h1:aA B6 n= []:=List.eq_nil_of_length_eq_zero h
  have h2:=v6 n
  rw[h1] at h2
  have h3:valB B6 []=0:=rfl
  omega
 ·rintro rfl;rw[aX];rfl
def aHi (p:Prop) (a:List Int):Prop:=dK a∧(valB B6 a).toNat<B6^110∧(p→0<(valB B6 a).toNat)
theorem aKv {n:Int} (h:lim n=true):chkI (itoa n)=4:=by
 rw[fZ (eM n),bO]
 unfold lim at h
 rw[if_pos (by simpa using h)]
theorem b115 (p:Prop) (hp:Decidable p) (a:List Int) (h:dK a∧a.length≤200):body Tryz.prog [c116,c139] {} true Tryz.f198 [.agg [.bl p hp,Ls a]] (.tup [S (resI (sgP p (valB B6 a))).1,I (resI (sgP p (valB B6 a))).2]):=by
 cases hl:lim (sgP p (valB B6 a)) with
 | true=>
  have e1:=aKv hl
  have e2:resI (sgP p (valB B6 a))=([],4):=by unfold resI;rw[if_pos hl]
  rw[e2]
  (repeat'((conv=>whnf);first|refine Zn ?_|fail))
  refine Br.mkY (show ¬chkI (itoa (sgP p (valB B6 a)))=0 by rw[e1];decide) ?_
  (conv=>whnf)
  (repeat' first|exact trivial|rfl|apply And.intro)
 | false=>
  have e1:=bM hl
  have e2:resI (sgP p (valB B6 a))=(itoa (sgP p (valB B6 a)),0):=by unfold resI;rw[if_neg (by rw[hl];decide)]
  rw[e2]
  (repeat'((conv=>whnf);first|refine Zn ?_|fail))
  refine Br.mkN (show ¬ ¬chkI (itoa (sgP p (valB B6 a)))=0 by rw[e1];simp) ?_
  (conv=>whnf)
  (repeat' first|exact trivial|rfl|apply And.intro)
def c115:Con:=aJ 198 true fun args K=>match args with
 | [.agg [.bl p hp,.seq (.int .i64) a]]=>Need (dK a∧a.length≤200) (K (.tup [S (resI (@sgP p hp (valB B6 a))).1,I (resI (@sgP p hp (valB B6 a))).2]))
 | [.agg [.val (.bool false),.seq (.int .i64) a]]=>Need (dK a∧a.length≤200) (K (.tup [S (resI (valB B6 a)).1,I (resI (valB B6 a)).2]))
 | _=>False
theorem k115:aG Tryz.prog c115:=by
 refine kO Tryz.func198 fun args K h=>?_
 simp only[c115] at h;split at h
 ·rename_i p hp a
  exact ⟨_,h.go,triB Tryz.func198 Tryz.ntmps198 (by simp[k116,k139]) (b115 p hp a h.ok)⟩
 ·rename_i a
  refine ⟨_,h.go,?_⟩
  have ht:=triB Tryz.func198 Tryz.ntmps198 (by simp[k116,k139]) (b115 False inferInstance a h.ok)
  refine yF (args:=[.agg [.bl False inferInstance,Ls a]]) ht ⟨⟨fun h=>h,?_,trivial⟩,trivial⟩
  rfl
 ·exact h.elim
theorem b153 (p:Prop) (hp:Decidable p) (m:Nat) (q:Prop) (hq:Decidable q) (n:Nat) (hm:m<B6^110) (hn:n<B6^110):
  body Tryz.prog [c145] {} false Tryz.f200 [.agg [.bl p hp,Ls (aA B6 m)],.agg [.bl q hq,Ls (aA B6 n)]] (.agg [.bl (¬(p↔q)∧m*n≠0) inferInstance,Ls (aA B6 (m*n))]):=by
 have im:InB B6 (aA B6 m):=aO (by decide) m
 have jn:InB B6 (aA B6 n):=aO (by decide) n
 have lm:=gX hm
 have ln:=gX hn
 have vm:=v6 m
 have vn:=v6 n
 have e2:(valB B6 (aA B6 m)*valB B6 (aA B6 n)).toNat=m*n:=by rw[vm,vn,← Int.natCast_mul,Int.toNat_natCast]
 have hN:InB B6 (aA B6 m)∧InB B6 (aA B6 n)∧(aA B6 m).length≤100000∧(aA B6 n).length≤100000:=⟨im,jn,by omega,by omega⟩
 refine Own.l ?_
 (repeat'((conv=>whnf);first|refine Zg fun _=>?_|refine Zn ?_|(apply Pin.mk;apply Exists.intro)|apply Pinned.mk rfl rfl|exact Zf|refine Zc ?_ ?_|fail))
 (apply Br.mk<;>intro)
 ·rename_i hz
  have e0:m*n=0:=by
   rw[e2] at hz
   exact (yZ _).1 (by omega)
  (conv=>whnf)
  (repeat' first|exact trivial|apply And.intro)
  ·exact fun h'=>h'.2 e0
  ·skip
   exact congrArg (aA B6) e2
 ·rename_i hz
  have e0:m*n≠0:=fun h'=>hz (by rw[e2,h',aX];rfl)
  (conv=>whnf)
  (repeat' first|exact trivial|apply And.intro)
  ·exact ⟨fun h'=>⟨h',e0⟩,fun h'=>h'.1⟩
  ·skip
   exact congrArg (aA B6) e2
def c153:Con:=aJ 200 false fun args K=>match args with
 | [.agg [.bl p hp,.seq (.int .i64) a],.agg [.bl q hq,.seq (.int .i64) b]]=>Need (aHi p a∧aHi q b) (K (.agg [.bl (¬(p↔q)∧(valB B6 a).toNat*(valB B6 b).toNat≠0) inferInstance,Ls (aA B6 ((valB B6 a).toNat*(valB B6 b).toNat))]))
 | _=>False
theorem k153:aG Tryz.prog c153:=by
 refine kO Tryz.func200 fun args K h=>?_
 simp only[c153] at h;split at h
 ·rename_i p hp a q hq b
  refine ⟨_,h.go,?_⟩
  obtain ⟨⟨ha,hm,hpm⟩,hb,hn,hqn⟩:=h.ok
  have ht:=triB Tryz.func200 Tryz.ntmps200 (by simp[k145]) (b153 p hp (valB B6 a).toNat q hq (valB B6 b).toNat hm hn)
  rw[ha,hb] at ht
  exact ht
 ·exact h.elim
theorem jW {s:List UInt8} (h:form s) (hl:(digs s).length≤300):aHi (s.headD 0=45) (aA B6 (aC (digs s))):=by
 refine ⟨dL _,?_,?_⟩
 ·rw[v6,Int.toNat_natCast]
  exact Nat.lt_of_lt_of_le (fH h hl) (Nat.pow_le_pow_right (by decide) (by omega))
 ·intro hm
  rw[v6,Int.toNat_natCast]
  refine Nat.pos_of_ne_zero fun e=>?_
  have h1:=xU.1 h
  have h2:valI s=0:=by rw[cX,e];unfold sgP;split<;>rfl
  rw[h2,itoa_zero] at h1
  rw[h1] at hm
  revert hm;decide
theorem aNf (p q:Prop) [Decidable p] [Decidable q] (m n:Nat):sgP (¬(p↔q)∧m*n≠0) ((m*n:Nat):Int)=sgP p m*sgP q n:=by
 rw[← aI8,← Int.natCast_mul]
 unfold sgP
 by_cases h:m*n=0
 ·simp[h]
 ·simp[h]
theorem aPb (a b:List UInt8):sgP (¬(a.headD 0=45↔b.headD 0=45)∧(valB B6 (aA B6 (aC (digs a)))).toNat*(valB B6 (aA B6 (aC (digs b)))).toNat≠0) (valB B6 (aA B6 ((valB B6 (aA B6 (aC (digs a)))).toNat*(valB B6 (aA B6 (aC (digs b)))).toNat)))=valI a*valI b:=by
 rw[v6 ((valB B6 (aA B6 (aC (digs a)))).toNat*(valB B6 (aA B6 (aC (digs b)))).toNat),aNf]
 simp only[v6,Int.toNat_natCast,cX]
theorem aNg {a b:List UInt8} (fa:form a) (la:(digs a).length≤300) (fb:form b) (lb:(digs b).length≤300):dK (aA B6 ((valB B6 (aA B6 (aC (digs a)))).toNat*(valB B6 (aA B6 (aC (digs b)))).toNat))∧(aA B6 ((valB B6 (aA B6 (aC (digs a)))).toNat*(valB B6 (aA B6 (aC (digs b)))).toNat)).length≤200:=by
 refine ⟨dL _,?_⟩
 rw[v6,v6,Int.toNat_natCast,Int.toNat_natCast]
 have h3:=Nat.mul_lt_mul'' (fH fa la) (fH fb lb)
 rw[← Nat.pow_add] at h3
 have:=gX h3
 omega
theorem b120 (a b:List UInt8):body Tryz.prog [c110,c111,c61,c112,c153,c115] {} true Tryz.f160 [S a,S b] (.tup [S (bG a b (resI (valI a*valI b))).1,I (bG a b (resI (valI a*valI b))).2]):=by
 unfold bG
 (apply Br.mk<;>intro)
 ·rename_i h
  rw[if_pos h]
  (conv=>whnf)
  (repeat' first|exact trivial|rfl|apply And.intro)
 ·rename_i h
  rw[if_neg h]
  obtain ⟨ha,hb⟩:=jB h
  obtain ⟨fa,la⟩:=bY ha
  obtain ⟨fb,lb⟩:=bY hb
  have zA:=jW fa la
  have zB:=jW fb lb
  have hv:=aPb a b
  have hl:=aNg fa la fb lb
  have hab:form a∧form b:=⟨fa,fb⟩
  have hza:=And.intro zA zB
  have ra:form a∧(digs a).length≤600:=⟨fa,by omega⟩
  have rb:form b∧(digs b).length≤600:=⟨fb,by omega⟩
  (repeat'((conv=>whnf);first|refine Zn ?_|fail))
  (apply Br.mk<;>intro)
  ·rename_i hs
   (repeat'((conv=>whnf);first|refine Zg fun _=>?_|refine Zn ?_|fail))
   (apply Br.mk<;>intro)
   ·rename_i hs2
    have hm:=aA9 fa fb (by omega)
    rw[gW (by omega)]
    (repeat'((conv=>whnf);first|refine Zn ?_|fail))
    (conv=>whnf)
    (repeat' first|exact trivial|rfl|apply And.intro)
   ·(repeat'((conv=>whnf);first|refine Zn ?_|fail))
    (conv=>whnf)
    (repeat' first|exact trivial|rfl|apply And.intro)
    ·exact congrArg (fun z=>(resI z).1) hv
    ·exact congrArg (fun z=>(resI z).2) hv
  ·(apply Br.mk<;>intro)
   all_goals
    (repeat'((conv=>whnf);first|refine Zn ?_|fail))
    (conv=>whnf)
    (repeat' first|exact trivial|rfl|apply And.intro)
    ·exact congrArg (fun z=>(resI z).1) hv
    ·exact congrArg (fun z=>(resI z).2) hv
def c120:Con:=aJ 160 true fun args K=>match args with | [.str a,.str b]=>K (.tup [S (bG a b (resI (valI a*valI b))).1,I (bG a b (resI (valI a*valI b))).2]) | _=>False
theorem k120:aG Tryz.prog c120:=by
 refine kO Tryz.func160 fun args K h=>?_
 simp only[c120] at h;split at h
 ·rename_i a b;exact ⟨_,h,triB Tryz.func160 Tryz.ntmps160 (by simp[k110,k111,k61,k112,k153,k115]) (b120 a b)⟩
 ·exact h.elim
end RB
end

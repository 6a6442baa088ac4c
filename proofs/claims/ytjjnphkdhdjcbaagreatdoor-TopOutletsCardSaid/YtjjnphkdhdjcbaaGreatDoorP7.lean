/-
  Part 7: a symbolic executor over the model, contracts of functions and plain laws.
-/
import Derived.Test.YtjjnphkdhdjcbaaGreatDoorP6
set_option linter.unusedVariables false
set_option linter.unusedSimpArgs false
set_option maxRecDepth 10000
set_option maxHeartbeats 80000000
section
open Go Go.Proofs Go.Eng Go.Shelf IB Go.Lib Go.RowKit
namespace RB
def c4040:Con:=aH 40 false fun args K=>match args with | [.val (.int .i64 l),.val (.int .i64 u),.val (.int .i64 p)]=>K (.clo 84 [] [.wcel p,.wcel l,.wcel u]) | _=>False
theorem k4040:aF Tryz.prog c4040:=by
 refine kQ {} Tryz.func40 Tryz.ntmps40 kn fun _ _ h=>?_
 split at h
 case h_2=>exact h.elim
 refine kb h ?_
 (conv=>whnf)
 (repeat' first|exact trivial|rfl|apply And.intro)
noncomputable abbrev itO (l u:Int) (p k:Nat):List SV:=[S (numS (mdR l u p k))]
theorem b4084 (l u:Int) (p:Nat) (h:Eav l u p):rP Tryz.prog [c22] { asks:=[(0,[])] } Tryz.f84 [.wcel p,.wcel l,.wcel u] p (itO l u p):=by
 have a1:=h.lo;have a2:=h.lh;have a3:=h.hi;have a4:=h.p0;have a5:=h.p1
 refine Ask.mk ⟨{ X:=Nat,pre:=fun i=>i≤p,mod:=fun i _=>[(9,I i)],heap:=fun i _=>[.yst (some i) p (itO l u p)],mu:=fun i=>p-i },rfl,?_⟩
 (repeat refine ZG ?_)
 refine ⟨⟨(0:Nat),Nat.zero_le _,by (repeat' first|exact trivial|rfl|apply And.intro)⟩,fun (i:Nat) hi=>?_⟩
 have hi:i≤p:=hi
 by_cases hlt:i<p
 ·have hp:=h.pr hlt
  have e:ofQ (2*(p:Int)*l+(2*(i:Int)+1)*(u-l)) (2*(p:Int))=(numS (mdR l u p i),0):=Gx (by omega)
  (repeat'((conv=>whnf);first|refine Zn ?_|refine Zy ?_|fail))
  refine Need.mk (by rw[e];(repeat' first|exact trivial|rfl|apply And.intro)) ?_
  refine Two.mk ?_ ?_
  ·(repeat refine ZR ?_)
   refine ⟨(i+1:Nat),by show p-(i+1)<p-i;omega,hlt,?_⟩
   (repeat' first|exact trivial|rfl|apply And.intro)
  ·skip
   (conv=>whnf)
   trivial
 ·have e:i=p:=by omega
  subst e
  (repeat refine ZR ?_)
  (conv=>whnf)
theorem Uo (p l u:Int) (h:0≤p∧Eav l u p.toNat):rP Tryz.prog [c22] { asks:=[(0,[])] } Tryz.f84 [.wcel p,.wcel l,.wcel u] p.toNat (itO l u p.toNat):=by
 have:=b4084 l u p.toNat h.2
 rwa [show ((p.toNat:Nat):Int)=p by omega] at this
def Oz:Con:=aH 84 false fun args K=>match args with | [.wcel p,.wcel l,.wcel u]=>Need (0≤p∧Eav l u p.toNat) (K (.itr p.toNat (itO l u p.toNat))) | _=>False
theorem Up:aF Tryz.prog Oz:=by
 refine kO Tryz.func84 fun args K h=>?_
 simp only[Oz] at h;split at h
 ·rename_i p l u;exact ⟨_,h.go,fD (by simp[k22]) Tryz.func84 (by simp[Tryz.ntmps84]) (Uo p l u h.ok)⟩
 ·exact h.elim
theorem Ln (l u:Int) (p:Nat) {i:Nat} (h:i<p):(outL l u p).take (i+1)=(outL l u p).take i++ [numS (mdR l u p i)]:=by
 have hl:i<(outL l u p).length:=by rw[jU];exact h
 rw[List.take_succ_eq_append_getElem hl]
 congr 2
 have:=qA l u h
 simpa [List.getD_eq_getElem?_getD,hl] using this
def c4083:Con:=aH 83 true fun args K=>match args with | [.val (.slice none 0 0),.clo 84 [] [.wcel p,.wcel l,.wcel u]]=>Need (0≤p∧Eav l u p.toNat) (K (.seq .str (outL l u p.toNat))) | _=>False
theorem k4083:aF Tryz.prog c4083:=by
 refine kQ { asks:=[(0,[1])] } Tryz.func83 Tryz.ntmps83 (kc Up kn) fun _ _ h=>?_
 split at h
 case h_2=>exact h.elim
 rename_i p l u
 refine kb h.go ?_
 replace h:=h.ok
 have hn:=jU l u p.toNat
 have h9:=h.2.p1
 refine Own.r ?_
 refine ⟨0,.str,42,?_⟩
 refine Ask.mk ⟨{ X:=Nat,pre:=fun i=>i≤p.toNat,mod:=fun _ _=>[],heap:=fun i H=>[hget H 0,.vec 1 .str ((outL l u p.toNat).take i) 42,hget H 2],mu:=fun i=>i,objs:=[1] },rfl,?_⟩
 (repeat refine ZG ?_)
 refine ⟨⟨(0:Nat),rfl,Nat.zero_le _,by (repeat' first|exact trivial|rfl|exact Nat.one_pos|apply And.intro)⟩,fun (i:Nat) hi (hlt:i<p.toNat)=>?_,fun (i:Nat) hi (he:i=p.toNat)=>?_⟩
 ·have hl:((outL l u p.toNat).take i).length=i:=by rw[List.length_take];omega
  show hnfL (itO l u p.toNat i) _
  (repeat refine ZG ?_)
  refine ⟨(i+1:Nat),rfl,hlt,?_⟩
  (repeat' first|exact trivial|rfl|exact Nat.one_pos|apply And.intro)
  all_goals exact (Ln l u _ hlt).symm
 ·subst he
  (conv=>whnf)
  rw[List.take_of_length_le (by omega)]
def c4039:Con:=aH 39 false fun args K=>match args with | [.clo 84 [] [.wcel p,.wcel l,.wcel u]]=>Need (0≤p∧Eav l u p.toNat) (K (.seq .str (outL l u p.toNat))) | _=>False
theorem k4039:aF Tryz.prog c4039:=by
 refine kQ {} Tryz.func39 Tryz.ntmps39 (kc k4083 kn) fun _ _ h=>?_
 split at h
 case h_2=>exact h.elim
 refine kb h.go ?_
 replace h:=h.ok
 (repeat refine ZG ?_)
 (conv=>whnf)
theorem Bd {R:List (List Sid)} {k:Int} {g:Prop} (h:(eavE R k g).2.2=0):bZ R=0∧(0≤k∧k<cnt R R.length)∧g∧¬(sidA R k.toNat).2.2.2.2.1=true∧eavE R k g=(lowE R k.toNat,higE R k.toNat,0):=by
 unfold eavE at h ⊢
 by_cases h0:bZ R=0
 ·rw[if_neg (fun q=>q h0)] at h ⊢
  by_cases h1:(k<0∨(cnt R R.length:Int)≤k)∨¬g
  ·rw[if_pos h1] at h;exact absurd h (by decide)
  ·rw[if_neg h1] at h ⊢
   by_cases h2:(sidA R k.toNat).2.2.2.2.1=true
   ·rw[if_pos h2] at h;exact absurd h (by decide)
   ·rw[if_neg h2]
    exact ⟨h0,⟨by omega,by omega⟩,Classical.byContradiction fun q=>h1 (.inr q),h2,rfl⟩
 ·rw[if_pos h0] at h;exact absurd h (by decide)
noncomputable def outE (R:List (List Sid)) (k m:Int):List (List UInt8) × Int:=
 if (eavE R k (m≤65536)).2.2≠0 then ([],(eavE R k (m≤65536)).2.2)
 else if 4096<prI (eavE R k (m≤65536)).1 (eavE R k (m≤65536)).2.1 m then ([],4)
 else (outL (eavE R k (m≤65536)).1 (eavE R k (m≤65536)).2.1 (prI (eavE R k (m≤65536)).1 (eavE R k (m≤65536)).2.1 m).toNat,0)
theorem Rt {R:List (List Sid)} {k m:Int} (h0:(eavE R k (m≤65536)).2.2=0) (hm:1≤m) (h:¬4096<prI (eavE R k (m≤65536)).1 (eavE R k (m≤65536)).2.1 m):0≤prI (eavE R k (m≤65536)).1 (eavE R k (m≤65536)).2.1 m∧Eav (eavE R k (m≤65536)).1 (eavE R k (m≤65536)).2.1 (prI (eavE R k (m≤65536)).1 (eavE R k (m≤65536)).2.1 m).toNat:=by
 obtain ⟨e1,e2,e3,e4,e5⟩:=Bd h0
 have h1:=vT e1 (show k.toNat<cnt R R.length by omega)
 rw[e5] at h ⊢
 dsimp only at h ⊢
 have hp:=sY (l:=lowE R k.toNat) (h:=higE R k.toNat) (n:=m) h1.2.1 (by omega)
 exact ⟨by omega,h1.1,h1.2.1,h1.2.2,by omega,by omega⟩
def Tk:Con:=aH 9 false fun args K=>match args with | [.agg [.seq (.slice (.pair (.int .i64) (.pair (.int .i64) (.pair (.int .i64) (.pair (.int .i64) (.pair .bool (.pair (.int .i64) (.int .i64)))))))) R,.val (.slice none 0 0),.val (.slice none 0 0),.val (.slice none 0 0)],.val (.int .i64 k),.val (.int .i64 m)]=>Need (R.length≤40∧1≤m∧m≤1000000) (K (.tup [.seq .str (outE R k m).1,I (outE R k m).2])) | _=>False
theorem Tl:aF Tryz.prog Tk:=by
 refine kQ {} Tryz.func9 Tryz.ntmps9 (kc Tj (kc k4040 (kc k4039 kn))) fun _ _ h=>?_
 split at h
 case h_2=>exact h.elim
 rename_i R k m
 change List (List Sid) at R
 refine kb h.go ?_
 replace h:=h.ok
 obtain ⟨hR,hm,hm2⟩:=h
 by_cases h0:(eavE R k (m≤65536)).2.2=0
 ·obtain ⟨e1,e2,e3,e4,e5⟩:=Bd h0
  have h1:=vT e1 (show k.toNat<cnt R R.length by omega)
  have hb:0≤(eavE R k (m≤65536)).1∧(eavE R k (m≤65536)).1<(eavE R k (m≤65536)).2.1∧(eavE R k (m≤65536)).2.1≤65536:=by rw[e5];exact h1
  have hpr:((eavE R k (m≤65536)).2.1-(eavE R k (m≤65536)).1+2*m-1)/(2*m)=prI (eavE R k (m≤65536)).1 (eavE R k (m≤65536)).2.1 m:=rfl
  by_cases h4:4096<prI (eavE R k (m≤65536)).1 (eavE R k (m≤65536)).2.1 m
  ·have e:outE R k m=([],4):=by unfold outE;rw[if_neg (fun q=>q h0),if_pos h4]
   rw[e]
   (repeat refine ZR ?_)
   (conv=>whnf)
   (repeat' first|exact trivial|rfl|apply And.intro)
  ·have hE:=Rt h0 hm h4
   have e:outE R k m=(outL (eavE R k (m≤65536)).1 (eavE R k (m≤65536)).2.1 (prI (eavE R k (m≤65536)).1 (eavE R k (m≤65536)).2.1 m).toNat,0):=by unfold outE;rw[if_neg (fun q=>q h0),if_neg h4]
   rw[e]
   (repeat refine ZR ?_)
   (conv=>whnf)
   (repeat' first|exact trivial|rfl|apply And.intro)
 ·have e:outE R k m=([],(eavE R k (m≤65536)).2.2):=by unfold outE;rw[if_pos h0]
  rw[e]
  (repeat refine ZR ?_)
  (conv=>whnf)
  (repeat' first|exact trivial|rfl|apply And.intro)
def Pa:Con:=aH 43 true fun args K=>match args with | [.val (.int .i64 n)]=>Need (-9223372036854775808≤n∧n≤9223372036854775807) (K (S (itoa n))) | _=>False
theorem Pb:aF Tryz.prog Pa:=by
 refine kQ {} Tryz.func43 Tryz.ntmps43 (kc k61 kn) fun _ _ h=>?_
 split at h
 case h_2=>exact h.elim
 refine kb h.go ?_
 replace h:=h.ok
 (conv=>whnf)
theorem Be {q:Rat} {k:Nat} (h:Sz k q) (hk:0<k):(numS q).length≤2*k+2:=by
 have h1:=eJ hk h.1
 have h2:=eJ hk h.2
 have h5:(itoa q.num).length≤(decDigits q.num.natAbs).length+1:=by
  unfold itoa
  split
  ·simp
  ·rw[show q.num.toNat=q.num.natAbs by omega];omega
 unfold numS
 split
 ·omega
 ·simp
  omega
theorem Eav.lm {l u:Int} {p:Nat} (e:Eav l u p):Lm (outL l u p)∧Lm [itoa l,itoa u]:=by
 constructor
 ·intro a ha _
  simp only[outL,List.mem_map,List.mem_range] at ha
  obtain ⟨k,hk,rfl⟩:=ha
  have:=Be (e.szm hk) (by decide)
  omega
 ·intro a ha _
  have z:=e.szi
  have h1:=Be z.1 (by decide)
  have h2:=Be z.2 (by decide)
  rw[bL] at h1 h2
  simp only[List.mem_cons,List.not_mem_nil,or_false] at ha
  rcases ha with rfl | rfl<;>omega
def falP (R:List (List Sid)) (k:Int) (os:List (List UInt8)) (m:Int):Prop:=(R.length≤40∧1≤m∧m≤65536)∧(eavE R k (m≤65536)).2.2=0∧(1≤os.length∧os.length≤4096)∧os=outL (eavE R k (m≤65536)).1 (eavE R k (m≤65536)).2.1 os.length
def Tm:Con:=aH 10 true fun args K=>match args with | [.agg [.seq (.slice (.pair (.int .i64) (.pair (.int .i64) (.pair (.int .i64) (.pair (.int .i64) (.pair .bool (.pair (.int .i64) (.int .i64)))))))) R,.val (.slice none 0 0),.val (.slice none 0 0),.val (.slice none 0 0)],.val (.int .i64 k),.seq .str os,.val (.int .i64 m)]=>Need (falP R k os m) (K (.tup [S (numS (falR (eavE R k (m≤65536)).1 (eavE R k (m≤65536)).2.1 os.length m)),I 0])) | _=>False
theorem k4010:aF Tryz.prog Tm:=by
 refine kQ { asks:=[(0,[1]),(2,[])] } Tryz.func10 Tryz.ntmps10 (kc Js (kc Ql (kc Tj (kc Pb (kc k2044 (kc k20n (kc k2034 (kc k14n (kc k38n kn))))))))) fun _ _ h=>?_
 split at h
 case h_2=>exact h.elim
 rename_i R k os m
 change List (List Sid) at R
 change List (List UInt8) at os
 refine kb h.go ?_
 replace h:=h.ok
 obtain ⟨⟨hR,hm,hm2⟩,h0,⟨hp1,hp2⟩,hos⟩:=h
 obtain ⟨e1,e2,e3,e4,e5⟩:=Bd h0
 have hev:=vT e1 (show k.toNat<cnt R R.length by omega)
 have hb:0≤(eavE R k (m≤65536)).1∧(eavE R k (m≤65536)).1<(eavE R k (m≤65536)).2.1∧(eavE R k (m≤65536)).2.1≤65536:=by rw[e5];exact hev
 obtain ⟨p,hp⟩:∃p,p=os.length:=⟨_,rfl⟩
 rw[← hp] at hp1 hp2 hos ⊢
 have ev:Eav (eavE R k (m≤65536)).1 (eavE R k (m≤65536)).2.1 p:=⟨hb.1,hb.2.1,hb.2.2,by omega,hp2⟩
 have c1:ckS os=0:=by rw[hos];exact ev.chk
 have c2:Lm os∧Lm [itoa (eavE R k (m≤65536)).1,itoa (eavE R k (m≤65536)).2.1]:=by rw[hos];exact ev.lm
 have c3:wiS os (itoa (eavE R k (m≤65536)).1) (itoa (eavE R k (m≤65536)).2.1)=(os,0):=by rw[hos];exact ev.within
 have c4:(wiS os (itoa (eavE R k (m≤65536)).1) (itoa (eavE R k (m≤65536)).2.1)).1.length=os.length:=by rw[c3]
 have c5:(wiS os (itoa (eavE R k (m≤65536)).1) (itoa (eavE R k (m≤65536)).2.1)).2=0:=by rw[c3]
 have s1:subQ (os.getD 0 []) (itoa (eavE R k (m≤65536)).1)=(numS (wayR (eavE R k (m≤65536)).1 (eavE R k (m≤65536)).2.1 p),0):=by rw[hos];exact ev.bef
 have s2:subQ (itoa (eavE R k (m≤65536)).2.1) (os.getD (p-1) [])=(numS (wayR (eavE R k (m≤65536)).1 (eavE R k (m≤65536)).2.1 p),0):=by rw[hos];exact ev.beh
 have g1:gpS os=(List.replicate (p-1) (numS (2*wayR (eavE R k (m≤65536)).1 (eavE R k (m≤65536)).2.1 p)),0):=by rw[hos];exact ev.gaps
 have g2:(gpS os).2=0:=by rw[g1]
 have g3:(gpS os).1.length=p-1:=by rw[g1,List.length_replicate]
 have g4:∀i,i<p-1→divQ ((gpS os).1.getD i []) [50]=(numS (wayR (eavE R k (m≤65536)).1 (eavE R k (m≤65536)).2.1 p),0):=fun i hi=>by
  rw[g1]
  have:(List.replicate (p-1) (numS (2*wayR (eavE R k (m≤65536)).1 (eavE R k (m≤65536)).2.1 p))).getD i []=numS (2*wayR (eavE R k (m≤65536)).1 (eavE R k (m≤65536)).2.1 p):=by simp[List.getD_eq_getElem?_getD,hi]
  dsimp only
  rw[this]
  exact ev.half
 have d1:cmpQ (numS (wayR (eavE R k (m≤65536)).1 (eavE R k (m≤65536)).2.1 p)) (numS (wayR (eavE R k (m≤65536)).1 (eavE R k (m≤65536)).2.1 p))=(0,0):=ev.same
 have d2:divQ (numS (wayR (eavE R k (m≤65536)).1 (eavE R k (m≤65536)).2.1 p)) (itoa m)=(numS (falR (eavE R k (m≤65536)).1 (eavE R k (m≤65536)).2.1 p m),0):=ev.fall ⟨hm,hm2⟩
 clear hos c3 g1
 generalize hw:numS (wayR (eavE R k (m≤65536)).1 (eavE R k (m≤65536)).2.1 p)=w at*
 generalize hfa:numS (falR (eavE R k (m≤65536)).1 (eavE R k (m≤65536)).2.1 p m)=fa at*
 (repeat'((conv=>whnf);first|refine Zg fun _=>?_|refine Zn ?_|refine Z0 ?_|(apply Pin.mk;apply Exists.intro)|apply Pinned.mk rfl rfl|refine .h ?_|refine Zy ?_|refine Zm ?_|fail))
 refine ixA (p-1) (by omega) ?_
 (repeat'((conv=>whnf);first|(apply Pin.mk;apply Exists.intro)|apply Pinned.mk rfl rfl|refine .h ?_|refine Zm ?_|fail))
 refine Own.r ?_
 (repeat'((conv=>whnf);first|refine Zg fun _=>?_|fail))
 refine Ask.mk ⟨{ X:=Nat,pre:=fun i=>i≤p-1,mod:=fun i _=>[(17,.ref 1 1),(113,I i)],heap:=fun i H=>[hget H 0,.vec 1 .str (List.replicate (i+1) w) 42],mu:=fun i=>p-1-i,objs:=[1] },rfl,?_⟩
 (repeat refine ZG ?_)
 refine ⟨⟨(0:Nat),Nat.zero_le _,by (repeat' first|exact trivial|rfl|exact Nat.one_pos|apply And.intro)⟩,fun (i:Nat) hi=>?_⟩
 have hi:i≤p-1:=hi
 have hrl:=List.length_replicate (n:=i+1) (a:=w)
 by_cases hlt:i<p-1
 ·have g5:=g4 i hlt
  (repeat refine ZR ?_)
  refine ⟨(i+1:Nat),by show p-1-(i+1)<p-1-i;omega,hlt,?_⟩
  (repeat' first|exact trivial|rfl|exact Nat.one_pos|apply And.intro)
  all_goals (rw[← List.replicate_succ'];rfl)
 ·have e:i=p-1:=by omega
  subst e
  have hd:List.drop 1 (List.replicate (p-1+1) w++ [w])=List.replicate p w:=by
   rw[← List.replicate_succ',List.drop_replicate]
   congr 1
   omega
  have hdl:(List.drop 1 (List.replicate (p-1+1) w++ [w])).length=p:=by rw[hd,List.length_replicate]
  have hde:∀j,j<p→(List.drop 1 (List.replicate (p-1+1) w++ [w])).getD j []=w:=fun j hj=>by
   rw[hd]
   simp[List.getD_eq_getElem?_getD,hj]
  (repeat' first|refine ZR ?_|refine Zg fun _=>?_)
  refine Ask.mk ⟨{ X:=Nat,pre:=fun j=>j≤p,mod:=fun j _=>[(22,S w),(138,I j)],heap:=fun i H=>H,mu:=fun j=>p-j },rfl,?_⟩
  (repeat refine ZG ?_)
  refine ⟨⟨(0:Nat),Nat.zero_le _,by (repeat' first|exact trivial|rfl|apply And.intro)⟩,fun (j:Nat) hj=>?_⟩
  have hj:j≤p:=hj
  by_cases hjl:j<p
  ·have hx:=hde j hjl
   have d3:cmpQ ((List.drop 1 (List.replicate (p-1+1) w++ [w])).getD j []) w=(0,0):=by rw[hx];exact d1
   (repeat refine ZR ?_)
   refine ⟨(j+1:Nat),by show p-(j+1)<p-j;omega,hjl,?_⟩
   (repeat' first|exact trivial|rfl|apply And.intro)
  ·have e:j=p:=by omega
   subst e
   (repeat refine ZR ?_)
   (conv=>whnf)
   (repeat' first|exact trivial|rfl|apply And.intro)
def To:Con:=aH 78 true fun args K=>match args with | [.str a]=>Need (0<a.length) (K (.bl (aR a 0=45) inferInstance)) | _=>False
theorem Tq:aF Tryz.prog To:=by
 refine kQ {} Tryz.func78 Tryz.ntmps78 kn fun _ _ h=>?_
 split at h
 case h_2=>exact h.elim
 refine kb h.go ?_
 replace h:=h.ok
 (repeat' first|refine ZR ?_|refine Zg fun _=>?_)
 (conv=>whnf)
theorem b4034:body Tryz.prog [c21,To,Pa,c19n,c14n] {} true Tryz.f34 [S [49,48,48,48,48,48,48,48],I 300] (.tup [S [53,48],I 0]):=by
 have h1:chkQ ([49,48,48,48,48,48,48,48]:List UInt8)=0:=Uu
 have h2:=Uv
 have h3:=Uw
 have h4:0<([49,48,48,48,48,48,48,48]:List UInt8).length:=by decide
 have h5:¬aR ([49,48,48,48,48,48,48,48]:List UInt8) 0=45:=by decide
 (repeat refine ZR ?_)
 (conv=>whnf)
 (repeat' first|exact trivial|rfl|apply And.intro)
theorem b4081 (row:List Int) (h:row.length=2∧(0≤row.getD 1 0∧row.getD 1 0≤2000000)∧(cmpQ [53,49] (itoa (row.getD 1 0))).2=0):body Tryz.prog [Pa,c38] {} true Tryz.f81 [Ls row,.lelem [S [53,49]] 0,.lelem [I 0] 0] (.bl ((cmpQ [53,49] (itoa (row.getD 1 0))).1≤0) inferInstance):=by
 obtain ⟨h1,h2,h3⟩:=h
 (repeat'((conv=>whnf);first|refine Zg fun _=>?_|refine Zn ?_|refine Z1 ?_|(apply Pin.mk;apply Exists.intro)|apply Pinned.mk rfl rfl|refine Zy ?_|refine Zm ?_|fail))
 (conv=>whnf)
def Tr:Con:=aH 34 true fun args K=>match args with | [.str [49,48,48,48,48,48,48,48],.val (.int .i64 300)]=>K (.tup [S [53,48],I 0]) | _=>False
theorem k4034:aF Tryz.prog Tr:=by
 refine kO Tryz.func34 fun args K h=>?_
 simp only[Tr] at h;split at h
 ·exact ⟨_,h,triB Tryz.func34 Tryz.ntmps34 (by simp[k21,Tq,Pb,k19n,k14n]) b4034⟩
 ·exact h.elim
def Ts:Con:=aH 81 true fun args K=>match args with | [.seq (.int .i64) row,.lelem [.str [53,49]] 0,.lelem [.val (.int .i64 0)] 0]=>Need (row.length=2∧(0≤row.getD 1 0∧row.getD 1 0≤2000000)∧(cmpQ [53,49] (itoa (row.getD 1 0))).2=0) (K (.bl ((cmpQ [53,49] (itoa (row.getD 1 0))).1≤0) inferInstance)) | _=>False
theorem k4081:aF Tryz.prog Ts:=by
 refine kO Tryz.func81 fun args K h=>?_
 simp only[Ts] at h;split at h
 ·rename_i row;exact ⟨_,h.go,triB Tryz.func81 Tryz.ntmps81 (by simp[Pb,k38]) (b4081 row h.ok)⟩
 ·exact h.elim
def c4140:Con:=aH 140 true fun args K=>match args with | [.seq (.slice (.int .i64)) [[100,50],[125,100],[150,200],[200,1048576]],.clo 81 [] [.lelem [.str [53,49]] 0,.lelem [.val (.int .i64 0)] 0]]=>K (I 1) | _=>False
theorem k4140:aF Tryz.prog c4140:=by
 refine kQ {} Tryz.func140 Tryz.ntmps140 (kc k4081 kn) fun _ _ h=>?_
 split at h
 case h_2=>exact h.elim
 refine kb h ?_
 have hl:([[100,50],[125,100],[150,200],[200,1048576]]:List (List Int)).length=4:=rfl
 have r0:(([[100,50],[125,100],[150,200],[200,1048576]]:List (List Int)).getD 0 []).length=2∧(0≤(([[100,50],[125,100],[150,200],[200,1048576]]:List (List Int)).getD 0 []).getD 1 0∧(([[100,50],[125,100],[150,200],[200,1048576]]:List (List Int)).getD 0 []).getD 1 0≤2000000)∧(cmpQ [53,49] (itoa ((([[100,50],[125,100],[150,200],[200,1048576]]:List (List Int)).getD 0 []).getD 1 0))).2=0:=⟨rfl,by decide,by show (cmpQ [53,49] (itoa 50)).2=0;rw[Tu]⟩
 have r1:(([[100,50],[125,100],[150,200],[200,1048576]]:List (List Int)).getD 1 []).length=2∧(0≤(([[100,50],[125,100],[150,200],[200,1048576]]:List (List Int)).getD 1 []).getD 1 0∧(([[100,50],[125,100],[150,200],[200,1048576]]:List (List Int)).getD 1 []).getD 1 0≤2000000)∧(cmpQ [53,49] (itoa ((([[100,50],[125,100],[150,200],[200,1048576]]:List (List Int)).getD 1 []).getD 1 0))).2=0:=⟨rfl,by decide,by show (cmpQ [53,49] (itoa 100)).2=0;rw[Tv]⟩
 have k0:¬(cmpQ [53,49] (itoa ((([[100,50],[125,100],[150,200],[200,1048576]]:List (List Int)).getD 0 []).getD 1 0))).1≤0:=by show ¬(cmpQ [53,49] (itoa 50)).1≤0;rw[Tu];decide
 have k1:(cmpQ [53,49] (itoa ((([[100,50],[125,100],[150,200],[200,1048576]]:List (List Int)).getD 1 []).getD 1 0))).1≤0:=by show (cmpQ [53,49] (itoa 100)).1≤0;rw[Tv];decide
 (repeat' first|refine ZR ?_|refine Zg fun _=>?_)
 (conv=>whnf)
 (repeat' first|rfl|apply And.intro)
def c4080:Con:=aH 80 true fun args K=>match args with | [.seq (.slice (.int .i64)) [[100,50],[125,100],[150,200],[200,1048576]],.clo 81 [] [.lelem [.str [53,49]] 0,.lelem [.val (.int .i64 0)] 0]]=>K (.tup [I 125,I 0]) | _=>False
theorem k4080:aF Tryz.prog c4080:=by
 refine kQ {} Tryz.func80 Tryz.ntmps80 (kc k4140 kn) fun _ _ h=>?_
 split at h
 case h_2=>exact h.elim
 refine kb h ?_
 have hl:([[100,50],[125,100],[150,200],[200,1048576]]:List (List Int)).length=4:=rfl
 have l1:(([[100,50],[125,100],[150,200],[200,1048576]]:List (List Int)).getD 1 []).length=2:=rfl
 (repeat' first|refine ZR ?_|refine Zg fun _=>?_)
 (conv=>whnf)
 (repeat' first|exact trivial|rfl|apply And.intro)
def c4035:Con:=aH 35 true fun args K=>match args with | [.seq (.slice (.int .i64)) [[100,50],[125,100],[150,200],[200,1048576]],.str [53,49]]=>K (.tup [I 125,I 0]) | _=>False
theorem k4035:aF Tryz.prog c4035:=by
 refine kQ {} Tryz.func35 Tryz.ntmps35 (kc k4079 (kc k21 (kc Tq (kc k4080 kn)))) fun _ _ h=>?_
 split at h
 case h_2=>exact h.elim
 refine kb h ?_
 have h1:chkQ [53,49]=0:=Rx
 have h5:¬aR [53,49] 0=45:=by decide
 (repeat refine ZR ?_)
 (conv=>whnf)
 (repeat' first|exact trivial|rfl|apply And.intro)
def c4037:Con:=aH 37 false fun args K=>match args with | []=>K (.agg [.seq (.slice tSid) exR]) | _=>False
theorem k4037:aF Tryz.prog c4037:=by
 refine kQ {} Tryz.func37 Tryz.ntmps37 kn fun _ _ h=>?_
 split at h
 case h_2=>exact h.elim
 refine kb h ?_
 (repeat refine ZR ?_)
 (conv=>whnf)
 (repeat' first|exact trivial|rfl|apply And.intro)
theorem Uq:eavE exR 0 ((30:Int)≤65536)=(0,100,0):=by
 unfold eavE
 rw[if_neg (fun q=>q Ow),if_neg (by rintro ((h | h) | h);exact absurd h (by decide);exact absurd h (by decide);exact h (by decide)),if_neg (by decide)]
 rfl
theorem Bf:outE exR 0 30=([[50,53],[55,53]],0):=by
 unfold outE
 rw[Uq]
 rw[if_neg (by decide),if_neg (by decide)]
 exact congrArg (fun x=>(x,(0:Int))) Ux
def Tt:Con:=aH 7 true fun args K=>match args with | []=>K (.val (.bool true)) | _=>False
theorem k4007:aF Tryz.prog Tt:=by
 refine kQ {} Tryz.func7 Tryz.ntmps7 (kc k4034 (kc k4036 (kc k4035 (kc k4037 (kc Tl kn))))) fun _ _ h=>?_
 split at h
 case h_2=>exact h.elim
 refine kb h ?_
 have h0:exR.length≤40:=by decide
 have h1:(outE exR 0 30).2=0:=by rw[Bf]
 have h2:(outE exR 0 30).1.length=2:=by rw[Bf];rfl
 have h3:(outE exR 0 30).1.getD 0 []=(⟨#[50,53]⟩:ByteArray).data.toList:=by rw[Bf];rfl
 have h4:(outE exR 0 30).1.getD 1 []=(⟨#[55,53]⟩:ByteArray).data.toList:=by rw[Bf];rfl
 have h5:([53,48]:List UInt8)=(⟨#[53,48]⟩:ByteArray).data.toList:=rfl
 (repeat' first|refine ZR ?_|refine Zg fun _=>?_)
 (conv=>whnf)
 all_goals exact ⟨fun _=>rfl,fun _=>h4⟩
theorem vR {R:List (List Sid)} {k:Int} (hp:bZ R=0) (hk:0≤k∧k<cnt R R.length) (hg:¬(sidA R k.toNat).2.2.2.2.1=true) {g:Prop} (h:g):eavE R k g=(lowE R k.toNat,higE R k.toNat,0):=by
 unfold eavE
 rw[if_neg (fun q=>q hp),if_neg (by rintro ((q | q) | q);omega;omega;exact q h),if_neg hg]
theorem Jt {R:List (List Sid)} {k m n:Int} (hR:R.length≤40) (hp:bZ R=0) (hk:0≤k∧k<cnt R R.length) (hg:¬(sidA R k.toNat).2.2.2.2.1=true) (hn:1≤n∧n≤256) (hm:1≤m∧m≤256):
  outE R k n=([],4)∨((outE R k n).2=0∧falP R k (outE R k n).1 m∧(outE R k n).1.length=(prI (lowE R k.toNat) (higE R k.toNat) n).toNat):=by
 have e1:=vR hp hk hg (show n≤65536 by omega)
 have e2:=vR hp hk hg (show m≤65536 by omega)
 have hv:=vT hp (show k.toNat<cnt R R.length by omega)
 have hq:=sY hv.2.1 (show 0<n by omega)
 unfold outE
 rw[e1]
 rw[if_neg (by dsimp only;decide)]
 dsimp only
 by_cases h4:4096<prI (lowE R k.toNat) (higE R k.toNat) n
 ·exact .inl (if_pos h4)
 ·rw[if_neg h4]
  refine .inr ⟨rfl,⟨⟨hR,by omega,by omega⟩,by rw[e2],?_,?_⟩,jU _ _ _⟩
  ·dsimp only
   rw[jU]
   omega
  ·rw[e2]
   dsimp only
   rw[jU]
theorem Ru {R:List (List Sid)} {k m n n':Int} (hR:R.length≤40) (hp:bZ R=0) (hk:0≤k∧k<cnt R R.length) (hg:¬(sidA R k.toNat).2.2.2.2.1=true) (hn:1≤n∧n≤256) (hn':1≤n'∧n'≤n) (hm:1≤m∧m≤256)
  (hA:(outE R k n).1.length=(prI (lowE R k.toNat) (higE R k.toNat) n).toNat) (hB:(outE R k n').1.length=(prI (lowE R k.toNat) (higE R k.toNat) n').toNat) (hA4:falP R k (outE R k n).1 m) (hB4:falP R k (outE R k n').1 m):
  (0<(outE R k n).1.length∧(outE R k n).1.length≤(outE R k n').1.length)∧
  ((cmpQ (numS (falR (eavE R k (m≤65536)).1 (eavE R k (m≤65536)).2.1 (outE R k n).1.length m)) (ofQ n m).1).2=0∧(cmpQ (numS (falR (eavE R k (m≤65536)).1 (eavE R k (m≤65536)).2.1 (outE R k n).1.length m)) (ofQ n m).1).1≤0)∧
  (cmpQ (numS (falR (eavE R k (m≤65536)).1 (eavE R k (m≤65536)).2.1 (outE R k n').1.length m)) (numS (falR (eavE R k (m≤65536)).1 (eavE R k (m≤65536)).2.1 (outE R k n).1.length m))).2=0∧(cmpQ (numS (falR (eavE R k (m≤65536)).1 (eavE R k (m≤65536)).2.1 (outE R k n').1.length m)) (numS (falR (eavE R k (m≤65536)).1 (eavE R k (m≤65536)).2.1 (outE R k n).1.length m))).1≤0:=by
 have e2:=vR hp hk hg (show m≤65536 by omega)
 have hv:=vT hp (show k.toNat<cnt R R.length by omega)
 have q1:=sY hv.2.1 (show 0<n by omega)
 have q2:=Pf hv.2.1 (show 0<n' by omega) hn'.2
 have q3:=Pe (l:=lowE R k.toNat) (h:=higE R k.toNat) (show 0<n by omega)
 have l1:=hA4.2.2.1
 have l2:=hB4.2.2.1
 have v1:Eav (lowE R k.toNat) (higE R k.toNat) (outE R k n).1.length:=⟨hv.1,hv.2.1,hv.2.2,by omega,by omega⟩
 have v2:Eav (lowE R k.toNat) (higE R k.toNat) (outE R k n').1.length:=⟨hv.1,hv.2.1,hv.2.2,by omega,by omega⟩
 have z1:=v1.szf (m:=m) (by omega)
 have z2:=v2.szf (m:=m) (by omega)
 have hT:(10:Nat)^20=100000000000000000000:=(by decide)
 have z3:Sz 20 (Rat.divInt n m):=Pc (by omega) (by omega) (by omega)
 rw[e2,Gx (show 0<m by omega)]
 dsimp only
 rw[jB z1 z3 (by decide) (by decide) (by decide),jB z2 z1 (by decide) (by decide) (by decide)]
 refine ⟨⟨by omega,by omega⟩,⟨rfl,(tE _ _).2 (Us (by omega) (by omega) ?_)⟩,rfl,(tE _ _).2 (Ph (by omega) (by omega) hv.2.1 (by omega))⟩
 rw[hA,show (((prI (lowE R k.toNat) (higE R k.toNat) n).toNat:Nat):Int)=prI (lowE R k.toNat) (higE R k.toNat) n by omega]
 exact q3
theorem b4003 (R:List (List Sid)) (s mo le pe:Int) (hs:0≤s∧s≤255) (hmo:0≤mo∧mo≤255) (hle:0≤le∧le≤255) (hpe:0≤pe∧pe≤255):body Tryz.prog [Tn,Ox,Tt,Th,Tk,Tm,c22,c38] {} true Tryz.f3 [.agg [.seq (.slice tSid) R],.val (.int .u8 s),.val (.int .u8 mo),.val (.int .u8 le),.val (.int .u8 pe)] (.val (.bool true)):=by
 by_cases hG:grP R 12
 ·(repeat refine ZR ?_)
  (conv=>whnf)
 have hR:R.length≤40:=by
  apply Classical.byContradiction
  intro q
  exact hG (.inl (by omega))
 by_cases hp:bZ R=0
 case neg=>
  (repeat refine ZR ?_)
  (conv=>whnf)
 obtain ⟨_,p1,p2,_,_⟩:=iI hp
 have hL:sidL R=R.flatten:=if_pos hp
 have hC:sidC R=0:=if_pos hp
 have hlen:(sidL R).length=cnt R R.length:=by rw[hL,vS]
 have k1:0≤s% ((sidL R).length:Int):=Int.emod_nonneg _ (by omega)
 have k2:s% ((sidL R).length:Int)<(sidL R).length:=Int.emod_lt_of_pos _ (by omega)
 obtain ⟨K,hK⟩:=Int.eq_ofNat_of_zero_le k1
 have hA:(sidL R).getD K sd0=sidA R K:=by rw[hL];rfl
 have n1:0≤le% (1+mo):=Int.emod_nonneg _ (by omega)
 have n2:le% (1+mo)<1+mo:=Int.emod_lt_of_pos _ (by omega)
 by_cases hg:((sidL R).getD K sd0).2.2.2.2.1=true
 ·have he:(eavE R (s% ((sidL R).length:Int)) (1+mo≤65536)).2.2=8:=by
   unfold eavE
   rw[hK,if_neg (fun q=>q hp),if_neg (by rintro ((q | q) | q);omega;omega;exact q (by omega))]
   rw[show ((K:Int)).toNat=K from rfl,← hA,if_pos hg]
  have ho:(outE R (s% ((sidL R).length:Int)) (1+mo)).2=8:=by
   unfold outE
   rw[if_pos (by rw[he];decide)]
   exact he
  (repeat' first|refine ZR ?_|refine Zg fun _=>?_)
  refine ixA K hK ?_
  (repeat' first|refine ZR ?_|refine Zg fun _=>?_)
  (conv=>whnf)
 have hkk:0≤s% ((sidL R).length:Int)∧s% ((sidL R).length:Int)<cnt R R.length:=by omega
 have hgg:¬(sidA R (s% ((sidL R).length:Int)).toNat).2.2.2.2.1=true:=by
  rw[hK,show ((K:Int)).toNat=K from rfl,← hA];exact hg
 have t1:=Jt (m:=1+pe) (n:=1+mo) hR hp hkk hgg (by omega) (by omega)
 have t2:=Jt (m:=1+pe) (n:=1+le% (1+mo)) hR hp hkk hgg (by omega) (by omega)
 rcases t1 with t1 | ⟨a1,a2,a3⟩
 ·have b1:(outE R (s% ((sidL R).length:Int)) (1+mo)).2=4:=by rw[t1]
  have b2:(outE R (s% ((sidL R).length:Int)) (1+le% (1+mo))).2≤4:=by
   rcases t2 with t2 | t2
   ·rw[t2];decide
   ·rw[t2.1];decide
  (repeat' first|refine ZR ?_|refine Zg fun _=>?_)
  refine ixA K hK ?_
  (repeat'((conv=>whnf);first|refine Zg fun _=>?_|refine Za ?_|refine Zn ?_|(apply Pin.mk;apply Exists.intro)|apply Pinned.mk rfl rfl|refine Zy ?_|refine Zm ?_|fail))
  (conv=>whnf)
 rcases t2 with t2 | ⟨b1,b2,b3⟩
 ·have b1:(outE R (s% ((sidL R).length:Int)) (1+le% (1+mo))).2=4:=by rw[t2]
  (repeat' first|refine ZR ?_|refine Zg fun _=>?_)
  refine ixA K hK ?_
  (repeat'((conv=>whnf);first|refine Zg fun _=>?_|refine Za ?_|refine Zn ?_|(apply Pin.mk;apply Exists.intro)|apply Pinned.mk rfl rfl|refine Zy ?_|refine Zm ?_|fail))
  (conv=>whnf)
 obtain ⟨⟨l1,l2⟩,⟨l3,l4⟩,l5,l6⟩:=Ru (m:=1+pe) (n:=1+mo) (n':=1+le% (1+mo)) hR hp hkk hgg (by omega) (by omega) (by omega) a3 b3 a2 b2
 have l7:(ofQ (1+mo) (1+pe)).2=0:=by rw[Gx (by omega)]
 (repeat' first|refine ZR ?_|refine Zg fun _=>?_)
 refine ixA K hK ?_
 (repeat'((conv=>whnf);first|refine Zg fun _=>?_|refine Za ?_|refine Zn ?_|(apply Pin.mk;apply Exists.intro)|apply Pinned.mk rfl rfl|refine Zy ?_|refine Zm ?_|fail))
 (conv=>whnf)
theorem t4003 (R:List (List Sid)) (s mo le pe:Int) (h1:inK .u8 s) (h2:inK .u8 mo) (h3:inK .u8 le) (h4:inK .u8 pe):Tri Tryz.prog true 3 [.agg [.seq (.slice tSid) R],.val (.int .u8 s),.val (.int .u8 mo),.val (.int .u8 le),.val (.int .u8 pe)] (.val (.bool true)):=
 triB Tryz.func3 Tryz.ntmps3 (by simp[k4005,Js,k4007,Ti,Tl,k4010,k22,k38]) (b4003 R s mo le pe h1 h2 h3 h4)
end RB
end

/-
  Part 7: a symbolic executor over the model, contracts of functions and plain laws.
-/
import Derived.Test.YtenkehnacommfaaGreatDoorP6
import Derived.Shelf.Sort.Plain
import Derived.Shelf.Slices.In.SortNone
import Derived.Test.YtenkehnacommfaaGreatDoorProg
set_option linter.unusedVariables false
set_option linter.unusedSimpArgs false
set_option maxRecDepth 10000
set_option maxHeartbeats 80000000
section
open Go Go.Proofs Go.Eng Go.Shelf
namespace EB
theorem b78 (S:List Int) (h:S.length<=100000):aKc Tryz.prog [] {} Tryz.f100 [Ls S] (.ref 0 1) (.int .i64) S 3:=by
 (conv=>whnf)
 intro q hq
 (apply Br.mk<;>intro)
 ·rename_i hx
  have hx:=hq hx
  subst hx
  exact ZF
 exact ZGF
def c78:Con:=aHz 100 fun args K=>match args with | [.seq (.int .i64) S]=>Need (S.length<=100000) (K (.ref 0 1) (.vec 1 (.int .i64) (S) 3)) | _=>False
theorem k78:aS Tryz.prog c78:=by
 refine aEf (enters_of Tryz.func100 (by kernel_rfl) rfl) ?_
 intro args K h
 split at h
 ·rename_i S;exact ⟨_,_,_,_,_,h.go,fun hfl=>qB (by simp) Tryz.func100 (by simp[Tryz.ntmps100]) hfl (b78 S h.ok)⟩
 exact h.elim
theorem b69 (n:Int) (l:List (Int × Int)) (h:aCq n l):body Tryz.prog [] { asks:=[(0,[])] } true Tryz.f54 [I n,Ps l] (.seq (.slice (.int .i64)) (onL n l)):=by
 obtain ⟨h1,h2,h3,h4⟩:=h
 refine Need.mk (show 0<=n/\n<=n/\n<=140737488355328/\n*((24:Nat):Int)<=140737488355328 by omega) ?_
 (repeat'((conv=>whnf);first|refine Zg fun _=>?_|fail))
 refine Ask.mk ⟨{ X:=Nat × Nat,pre:=fun x=>x.1<=l.length,mod:=fun x _=>[(12,I x.1)],heap:=fun x _=>[.vec 1 (.slice (.int .i64)) [] 41,.vv 1 x.2 (.int .i64) (onN n.toNat l x.1) none 41 3],mu:=fun x=>l.length-x.1 },rfl,?_⟩
 (repeat refine ZG ?_)
 refine ⟨⟨((0:Nat),(0:Nat)),aI _,?_⟩,fun (x:Nat × Nat) hi=>?_⟩
 ·(repeat' first|exact trivial|rfl|apply aA)
  exact (aSw _ _).symm
 have hi:x.1<=l.length:=hi
 have hol:=aHy n.toNat l x.1
 (apply Br.mk<;>intro)
 ·have hlt:x.1<l.length:=by omega
  obtain ⟨g1,g2,g3,g4⟩:=h4 x.1 hlt
  have hun:(l.getD x.1 (0,0)).1.toNat<n.toNat:=by omega
  have hu:(l.getD x.1 (0,0)).1=((l.getD x.1 (0,0)).1.toNat:Int):=by omega
  have hrow:=wM l x.1 (l.getD x.1 (0,0)).1.toNat
  have hget:=onN_get n.toNat l x.1 _ hun
  (repeat' first|refine ZG ?_|refine Zg fun _=>?_)
  (apply Br.mk<;>intro)
  ·(repeat'((conv=>whnf);first|refine Zn ?_|apply pI|apply pJ|fail))
   refine cX (l.getD x.1 (0,0)).1.toNat hu ?_
   (repeat'((conv=>whnf);first|refine Zn ?_|apply pI|apply pJ|(apply PinH.mk;apply aF;apply aF)|refine Zl ?_|fail))
   refine Need.mk (show ((onN n.toNat l x.1).getD (l.getD x.1 (0,0)).1.toNat []).length+1<=17592186044416 by rw[hget];omega) ?_
   (repeat'((conv=>whnf);first|refine Zn ?_|apply pJ|exact Zf|refine Zc ?_ ?_|refine Zl ?_|fail))
   ·refine Need.mk (show ((onN n.toNat l x.1).getD (l.getD x.1 (0,0)).1.toNat []).length+1<=17592186044416 by rw[hget];omega) ?_
    (repeat'((conv=>whnf);first|apply pJ|exact Zf|fail))
   ·refine cX (l.getD x.1 (0,0)).1.toNat hu ?_
    (repeat'((conv=>whnf);first|apply pJ|exact Zf|fail))
   refine cX (l.getD x.1 (0,0)).1.toNat hu ?_
   (repeat'((conv=>whnf);first|refine Zn ?_|fail))
   refine Need.mk (show ((onN n.toNat l x.1).getD (l.getD x.1 (0,0)).1.toNat []++ [(l.getD x.1 (0,0)).2]).length<=140737488355328 by rw[hget,aQ,cG];omega) ?_
   (repeat refine ZG ?_)
   refine ⟨((x.1+1:Nat),(x.2+1+1:Nat)),?_,?_,?_⟩
   ·show l.length-(x.1+1)<l.length-x.1
    omega
   ·show x.1+1<=l.length
    omega
   (repeat' first|exact trivial|rfl|apply aA)
   exact aSy n.toNat l x.1 _ hlt hu ‹_› hun
  have hos:=aSx n.toNat l x.1 hlt ‹_›
  (repeat refine ZG ?_)
  (conv=>whnf)
  refine ⟨((x.1+1:Nat),x.2),?_,?_,?_⟩
  ·show l.length-(x.1+1)<l.length-x.1
   omega
  ·show x.1+1<=l.length
   omega
  (repeat' first|exact trivial|rfl|apply aA)
  exact hos.symm
 have hii:x.1=l.length:=by omega
 (conv=>whnf)
 rw[hii]
 rfl
def c69:Con:=bB 54 true fun args K=>match args with | [.val (.int .i64 n),.seq (.pair (.int .i64) (.int .i64)) l]=>Need (aCq n l) (K (.seq (.slice (.int .i64)) (onL n l))) | _=>False
theorem k69:aS Tryz.prog c69:=by
 refine kO Tryz.func54 fun args K h=>?_
 simp only[c69] at h;split at h
 ·rename_i n l;exact ⟨_,h.go,triB Tryz.func54 Tryz.ntmps54 (by simp) (b69 n l h.ok)⟩
 exact h.elim
abbrev Rs (on:List (List Int)):SV:=.seq (.slice (.int .i64)) on
noncomputable def wayB (on:List (List Int)) (i k:Int):Bool:=@decide (Way on i k) Cp
theorem wayB_iff (on:List (List Int)) (i k:Int):wayB on i k=true↔Way on i k:=@decide_eq_true_iff _ Cp
noncomputable def reachL (on:List (List Int)) (i:Int):List Bool:=(List.range on.length).map fun k:Nat=>wayB on i k
def unmTo (on:List (List Int)) (out:List Bool):Nat->Nat
 | 0=>0
 | k+1=>unmTo on out k+if out.getD k false=true then 0 else (on.getD k []).length
theorem aGe (on:List (List Int)) (out:List Bool) (j:Nat) (hj:out.getD j false=false) (hl:j<out.length):∀k,unmTo on (out.set j true) k+(if j<k then (on.getD j []).length else 0)=unmTo on out k
 | 0=>by simp[unmTo]
 | k+1=>by
  have ih:=aGe on out j hj hl k
  unfold unmTo
  by_cases e:k=j
  ·subst e
   have e1:(out.set k true).getD k false=true:=by rw[set_getD,aD ⟨rfl,hl⟩]
   rw[e1,hj,aD rfl,aD (cS _),aC (by simp)]
   rw[aC (fJ _)] at ih
   omega
  have e1:(out.set j true).getD k false=out.getD k false:=by rw[set_getD,aC fun h=>e h.1]
  rw[e1]
  by_cases h:j<k
  ·rw[aD h] at ih
   rw[aD (show j<k+1 by omega)]
   omega
  rw[aC h] at ih
  rw[aC (show ¬j<k+1 by omega)]
  omega
theorem aJw (on:List (List Int)) (out:List Bool) {B:Nat} (h:∀u,(on.getD u []).length<=B):∀k,unmTo on out k<=k*B
 | 0=>aI _
 | k+1=>by
  have ih:=aJw on out h k
  have:=h k
  unfold unmTo
  rw[bU,dV]
  split<;>omega
structure RI (on:List (List Int)) (i:Int) (n:Int) (x:List Bool × List Int):Prop where
 len:x.1.length=on.length
 stk:∀k∈x.2,(0<=k/\k<n)/\Way on i k
 mrk:∀k:Nat,x.1.getD k false=true->Way on i k
 frm:∀k,Edge on i k->x.1.getD k.toNat false=true\/k∈x.2
 nxt:∀m:Nat,x.1.getD m false=true->∀k,Edge on m k->x.1.getD k.toNat false=true\/k∈x.2
 sz:x.2.length+unmTo on x.1 on.length<=5000000
theorem aY9 {on:List (List Int)} {i n:Int} (hn:Rows2 on n) {out:List Bool} (h:RI on i n (out,[])):out=reachL on i:=by
 have hd:∀u k:Int,Way on u k->(∀k,Edge on u k->out.getD k.toNat false=true)->out.getD k.toNat false=true:=by
  intro u k hw
  induction hw with
  | one u v he=>intro hu;exact hu v he
  | more u v w he _ ih=>
   intro hu
   refine ih fun k hk=>?_
   have h1:=hu v he
   have hv:=hn.2 u v he
   have:=h.nxt v.toNat h1 k (by rw[aX hv.1];exact hk)
   exact this.resolve_right (by simp)
 apply eD
 ·rw[h.len];simp[reachL]
 intro k h1 h2
 simp only[reachL,List.getElem_map,List.getElem_range]
 have e:out[k]=out.getD k false:=by simp[aB,h1]
 rw[e,jI,wayB_iff]
 constructor
 ·exact h.mrk k
 intro hw
 have:=hd i k hw fun q hq=>(h.frm q hq).resolve_right (by simp)
 simpa using this
theorem aOq {xs:List Int} (h:0<xs.length) (k:Int):k∈xs↔k∈xs.take (xs.length-1)\/k=xs.getD (xs.length-1) 0:=by
 have e:xs=xs.take (xs.length-1)++ [xs.getD (xs.length-1) 0]:=by
  have h2:xs.length-1<xs.length:=by omega
  have:=dA h2
  rw[show xs.length-1+1=xs.length by omega,fP] at this
  rw[aB,aH h2]
  exact this
 constructor
 ·intro hk
  rw[e] at hk
  rcases bK.1 hk with h | h
  ·exact .inl h
  exact .inr (bC.1 h)
 rintro (h | h)
 ·exact dD h
 rw[h,aB,aH (by omega)];exact cU _
theorem aV1 {on:List (List Int)} {i n:Int} {x:List Bool × List Int} (h:RI on i n x) (hp:0<x.2.length) (hm:x.1.getD (x.2.getD (x.2.length-1) 0).toNat false=true):RI on i n (x.1,x.2.take (x.2.length-1)):=by
 have hpm:=aOq hp
 have key:∀k:Int,(x.1.getD k.toNat false=true\/k∈x.2)->x.1.getD k.toNat false=true\/k∈x.2.take (x.2.length-1):=fun k hk=>by
  rcases hk with hk | hk
  ·exact .inl hk
  rcases (hpm k).1 hk with h | h
  ·exact .inr h
  exact .inl (by rw[h];exact hm)
 refine ⟨h.len,fun k hk=>h.stk k ((hpm k).2 (.inl hk)),h.mrk,fun k hk=>key k (h.frm k hk),fun m hm k hk=>key k (h.nxt m hm k hk),?_⟩
 have:=h.sz
 show (x.2.take (x.2.length-1)).length+unmTo on x.1 on.length<= _
 rw[bA];omega
theorem aV2 {on:List (List Int)} {i n:Int} (hn:Rows2 on n) {x:List Bool × List Int} (h:RI on i n x) (hp:0<x.2.length) {j:Int} (hj:j=x.2.getD (x.2.length-1) 0) (hm:¬x.1.getD j.toNat false=true):
  RI on i n (x.1.set j.toNat true,x.2.take (x.2.length-1)++on.getD j.toNat [])/\(x.2.take (x.2.length-1)++on.getD j.toNat []).length+unmTo on (x.1.set j.toNat true) on.length<x.2.length+unmTo on x.1 on.length:=by
 have hpm:=aOq hp
 have hjm:j∈x.2:=(hpm j).2 (.inr hj)
 obtain ⟨⟨j0,j1⟩,jw⟩:=h.stk j hjm
 have hl:j.toNat<x.1.length:=by rw[h.len];have:=hn.1;omega
 have hset:∀k,(x.1.set j.toNat true).getD k false=if k=j.toNat then true else x.1.getD k false:=fun k=>by
  rw[set_getD]
  by_cases e:k=j.toNat
  ·subst e;rw[aD ⟨rfl,hl⟩,aD rfl]
  rw[aC fun h=>e h.1,aC e]
 have hun:=aGe on x.1 j.toNat (hZ.2 hm) hl on.length
 rw[aD (by rw[<- h.len];exact hl)] at hun
 have hlen:(x.2.take (x.2.length-1)++on.getD j.toNat []).length=x.2.length-1+(on.getD j.toNat []).length:=by
  rw[aQ,bA];omega
 have key:∀k:Int,(x.1.getD k.toNat false=true\/k∈x.2)->(x.1.set j.toNat true).getD k.toNat false=true\/k∈x.2.take (x.2.length-1)++on.getD j.toNat []:=fun k hk=>by
  rw[hset]
  by_cases e:k.toNat=j.toNat
  ·rw[aD e];exact .inl rfl
  rw[aC e]
  rcases hk with hk | hk
  ·exact .inl hk
  rcases (hpm k).1 hk with h | h
  ·exact .inr (bK.2 (.inl h))
  exact absurd (by rw[h,<- hj]) e
 refine ⟨⟨by rw[cV];exact h.len,fun k hk=>?_,fun k hk=>?_,fun k hk=>key k (h.frm k hk),fun m hm2 k hk=>?_,?_⟩,by rw[hlen];omega⟩
 ·rcases bK.1 hk with hk | hk
  ·exact h.stk k ((hpm k).2 (.inl hk))
  exact ⟨hn.2 j k hk,jw.snoc hk⟩
 ·rw[hset] at hk
  by_cases e:k=j.toNat
  ·rw[e,aX j0];exact jw
  rw[aC e] at hk;exact h.mrk k hk
 ·rw[hset] at hm2
  by_cases e:m=j.toNat
  ·right
   refine bK.2 (.inr ?_)
   unfold Edge at hk
   rw[e,aP] at hk
   exact hk
  rw[aC e] at hm2
  exact key k (h.nxt m hm2 k hk)
 have:=h.sz
 show (x.2.take (x.2.length-1)++on.getD j.toNat []).length+unmTo on (x.1.set j.toNat true) on.length<= _
 rw[hlen];omega
theorem b70 (on:List (List Int)) (i:Int) (h:∃n,Rows2 on n/\(0<=i/\i<n)/\(∀u,(on.getD u []).length<=4096)/\n<=512):body Tryz.prog [c78] { asks:=[(0,[2])] } true Tryz.f60 [Rs on,I i] (Bs (reachL on i)):=by
 obtain ⟨n,h1,h2,h3,h4⟩:=h
 obtain ⟨h5,h6⟩:=id h1
 have hri:=h3 i.toNat
 (repeat'((conv=>whnf);first|refine Zg fun _=>?_|fail))
 refine Need.mk (show 0<=(on.length:Int)/\(on.length:Int)<=(on.length:Int)/\(on.length:Int)<=140737488355328/\(on.length:Int)*((1:Nat):Int)<=140737488355328 by omega) ?_
 (repeat refine ZG ?_)
 refine cX i.toNat (by omega) ?_
 (repeat' first|refine ZG ?_|refine Zg fun _=>?_)
 refine Ask.mk ⟨{ X:=List Bool × List Int,pre:=fun x=>RI on i n x,mod:=fun x _=>[(6,.ref 2 1)],objs:=[2],heap:=fun x _=>[.vec 1 .bool [] 4,.vec 1 .bool x.1 4,.vec 1 (.int .i64) x.2 3],mu:=fun x=>x.2.length+unmTo on x.1 on.length },rfl,?_⟩
 (repeat refine ZG ?_)
 refine ⟨⟨(List.replicate on.length false,on.getD i.toNat []),?_,?_⟩,fun (x:List Bool × List Int) hx=>?_⟩
 ·have hun:=aJw on (List.replicate on.length false) h3 on.length
  have hmul:on.length*4096<=512*4096:=aU _ (by omega)
  refine ⟨by simp,fun k hk=>⟨h6 i k hk,.one _ _ hk⟩,fun k hk=>?_,fun k hk=>.inr hk,fun m hm=>?_,by show (on.getD i.toNat []).length+unmTo on (List.replicate on.length false) on.length<= _;omega⟩
  ·exfalso
   rw[aB,bR] at hk
   split at hk<;>cases hk
  exfalso
  rw[aB,bR] at hm
  split at hm<;>cases hm
 ·exact ZE
 have hx:RI on i n x:=hx
 obtain ⟨q1,q2,q3,q4,q5,q6⟩:=id hx
 (repeat'((conv=>whnf);first|refine Zg fun _=>?_|fail))
 (apply Br.mk<;>intro)
 ·have hpos:0<x.2.length:=by omega
  have e1:(x.2.length:Int)-1=((x.2.length-1:Nat):Int):=by omega
  have hlast:x.2.getD (x.2.length-1) 0∈x.2:=by
   rw[aB,aH (by omega)];exact cU _
  obtain ⟨⟨m1,m2⟩,m3⟩:=q2 _ hlast
  (repeat' first|refine ZG ?_|refine Zg fun _=>?_)
  refine cX (x.2.length-1) e1 ?_
  (repeat' first|refine ZN ?_|refine Zg fun _=>?_)
  refine Own.l (Own.r ?_)
  (repeat refine ZN ?_)
  refine cX (x.2.length-1) e1 ?_
  (repeat refine ZG ?_)
  refine cX (x.2.getD (x.2.length-1) 0).toNat (by omega) ?_
  (apply Br.mk<;>intro)
  ·rename_i hm
   obtain ⟨w1,w2⟩:=aV2 h1 hx hpos rfl hm
   have hrj:=h3 (x.2.getD (x.2.length-1) 0).toNat
   (repeat refine ZG ?_)
   refine cX (x.2.getD (x.2.length-1) 0).toNat (by omega) ?_
   (repeat refine ZG ?_)
   refine cX (x.2.getD (x.2.length-1) 0).toNat (by omega) ?_
   (repeat'((conv=>whnf);first|refine Zg fun _=>?_|fail))
   refine Need.mk (by rw[bA];omega) ?_
   refine ⟨((x.1.set (x.2.getD (x.2.length-1) 0).toNat true,x.2.take (x.2.length-1)++on.getD (x.2.getD (x.2.length-1) 0).toNat []):List Bool × List Int),w2,w1,?_⟩
   exact ZE
  rename_i hm
  have w1:=aV1 hx hpos (bD.1 hm)
  refine ⟨((x.1,x.2.take (x.2.length-1)):List Bool × List Int),?_,w1,?_⟩
  ·have e2:(x.2.take (x.2.length-1)).length<x.2.length:=by rw[bA];omega
   show (x.2.take (x.2.length-1)).length+unmTo on x.1 on.length<x.2.length+unmTo on x.1 on.length
   omega
  exact ZE
 have h0:x.2= []:=bW (by omega)
 have hend:=aY9 (out:=x.1) h1 (by rw[<- h0];exact hx)
 (conv=>whnf)
 exact hend
def c70:Con:=bB 60 true fun args K=>match args with | [.seq (.slice (.int .i64)) on,.val (.int .i64 i)]=>Need (∃n,Rows2 on n/\(0<=i/\i<n)/\(∀u,(on.getD u []).length<=4096)/\n<=512) (K (Bs (reachL on i))) | _=>False
theorem k70:aS Tryz.prog c70:=by
 refine kO Tryz.func60 fun args K h=>?_
 simp only[c70] at h;split at h
 ·rename_i on i;exact ⟨_,h.go,triB Tryz.func60 Tryz.ntmps60 (by simp[k78]) (b70 on i h.ok)⟩
 exact h.elim
end EB
end
section
open Go Go.Proofs Go.Eng Go.Shelf
namespace EB
inductive WayN (on:List (List Int)):Nat->Int->Int->Prop
 | nil (u:Int):WayN on 0 u u
 | cons (m:Nat) (u v w:Int) (h:Edge on u v) (hw:WayN on m v w):WayN on (m+1) u w
theorem Way.num {on:List (List Int)} {u v:Int} (h:Way on u v):∃m,WayN on (m+1) u v:=by
 induction h with
 | one u v h=>exact ⟨0,.cons 0 u v v h (.nil v)⟩
 | more u v w h _ ih=>obtain ⟨m,hm⟩:=ih;exact ⟨m+1,.cons (m+1) u v w h hm⟩
def Least (p:Nat->Prop) (m:Nat):Prop:=p m/\∀q,q<m->¬p q
theorem sL {p:Nat->Prop} {m:Nat} (h:p m):∃q,Least p q:=by
 induction m using Nat.strongRecOn with
 | _ m ih=>
  by_cases hq:∃q,q<m/\p q
  ·obtain ⟨q,h1,h2⟩:=hq;exact ih q h1 h2
  exact ⟨m,h,fun q h1 h2=>hq ⟨q,h1,h2⟩⟩
theorem tM {p:Nat->Prop} {a b:Nat} (h1:Least p a) (h2:Least p b):a=b:=by
 rcases lJ a b with h | h | h
 ·exact absurd h1.1 (h2.2 a h)
 ·exact h
 exact absurd h2.1 (h1.2 b h)
noncomputable def dist1 (on:List (List Int)) (tg k:Int):Int:=open Classical in if h:∃m,Least (fun m=>WayN on m k tg) m then (Classical.choose h:Nat) else -1
noncomputable def distL (on:List (List Int)) (tg:Int):List Int:=(List.range on.length).map fun k:Nat=>dist1 on tg k
theorem dist1_eq {on:List (List Int)} {tg k:Int} {m:Nat} (h:Least (fun m=>WayN on m k tg) m):dist1 on tg k=m:=by
 have hex:∃m,Least (fun m=>WayN on m k tg) m:=⟨m,h⟩
 unfold dist1
 rw[dif_pos hex,tM (Classical.choose_spec hex) h]
theorem aDc {on:List (List Int)} {tg k:Int} (h:∀m,¬WayN on m k tg):dist1 on tg k= -1:=by
 unfold dist1
 rw[xH]
 rintro ⟨m,hm⟩
 exact h m hm.1
def cntTo (far:List Int):Nat->Nat
 | 0=>0
 | k+1=>cntTo far k+if 0<=far.getD k (-1) then 1 else 0
def phiTo (N:Nat) (far:List Int):Nat->Nat
 | 0=>0
 | k+1=>phiTo N far k+if 0<=far.getD k (-1) then (far.getD k (-1)).toNat else N
theorem zE (far:List Int):∀k,cntTo far k<=k
 | 0=>aM _
 | k+1=>by have:=zE far k;unfold cntTo;split<;>omega
theorem aAv (far:List Int) (j:Nat) (v:Int) (hv:0<=v) (hj:j<far.length):∀k,cntTo (far.set j v) k=cntTo far k+if j<k/\far.getD j (-1)<0 then 1 else 0
 | 0=>by simp[cntTo]
 | k+1=>by
  have ih:=aAv far j v hv hj k
  unfold cntTo
  rw[ih]
  by_cases e:k=j
  ·subst e
   have e1:(far.set k v).getD k (-1)=v:=by rw[set_getD,aD ⟨rfl,hj⟩]
   rw[e1,aD hv,aC (show ¬(k<k/\far.getD k (-1)<0) by omega)]
   by_cases h:far.getD k (-1)<0
   ·rw[aC (show ¬0<=far.getD k (-1) by omega),aD (show k<k+1/\far.getD k (-1)<0 by omega)]
   rw[aD (show 0<=far.getD k (-1) by omega),aC (show ¬(k<k+1/\far.getD k (-1)<0) by omega)]
  have e1:(far.set j v).getD k (-1)=far.getD k (-1):=by rw[set_getD,aC fun h=>e h.1]
  rw[e1]
  by_cases h:j<k/\far.getD j (-1)<0
  ·rw[aD h,aD (show j<k+1/\far.getD j (-1)<0 by omega)];omega
  rw[aC h,aC (show ¬(j<k+1/\far.getD j (-1)<0) by omega)];omega
theorem aGf (N:Nat) (far:List Int) (j:Nat) (v:Int) (hv:0<=v) (hj:j<far.length) (hl:v<if 0<=far.getD j (-1) then far.getD j (-1) else (N:Int)):∀k,phiTo N (far.set j v) k+(if j<k then 1 else 0)<=phiTo N far k
 | 0=>by simp[phiTo]
 | k+1=>by
  have ih:=aGf N far j v hv hj hl k
  unfold phiTo
  by_cases e:k=j
  ·subst e
   have e1:(far.set k v).getD k (-1)=v:=by rw[set_getD,aD ⟨rfl,hj⟩]
   rw[e1,aD hv,aD (cS _)]
   rw[aC (fJ _)] at ih
   by_cases h:0<=far.getD k (-1)
   ·rw[aD h] at hl ⊢;omega
   rw[aC h] at hl ⊢;omega
  have e1:(far.set j v).getD k (-1)=far.getD k (-1):=by rw[set_getD,aC fun h=>e h.1]
  rw[e1]
  by_cases h:j<k
  ·rw[aD h] at ih
   rw[aD (show j<k+1 by omega)];omega
  rw[aC h] at ih
  rw[aC (show ¬j<k+1 by omega)];omega
structure DI (on:List (List Int)) (tg:Int) (far:List Int):Prop where
 len:far.length=on.length
 zero:far.getD tg.toNat (-1)=0
 way:∀k:Nat,k<on.length->0<=far.getD k (-1)->WayN on (far.getD k (-1)).toNat k tg
 low:∀k:Nat, -1<=far.getD k (-1)
 cnt:∀k:Nat,far.getD k (-1)<cntTo far on.length
def okE (far:List Int) (u v:Int):Prop:=0<=far.getD v.toNat (-1)->0<=far.getD u.toNat (-1)/\far.getD u.toNat (-1)<=far.getD v.toNat (-1)+1
theorem aV3 {on:List (List Int)} {n tg:Int} (h:(on.length:Int)=n) (ht:0<=tg/\tg<n):DI on tg ((List.replicate on.length (-1:Int)).set tg.toNat 0):=by
 have hl:tg.toNat<(List.replicate on.length (-1:Int)).length:=by rw[cC];omega
 have hg:∀k,(List.replicate on.length (-1:Int)).getD k (-1)= -1:=fun k=>by
  rw[aB,bR];split<;>rfl
 have hs:∀k,((List.replicate on.length (-1:Int)).set tg.toNat 0).getD k (-1)=if k=tg.toNat then 0 else -1:=fun k=>by
  rw[set_getD]
  by_cases e:k=tg.toNat
  ·rw[aD ⟨e,by rw[e];exact hl⟩,aD e]
  rw[aC fun h=>e h.1,aC e,hg]
 have hc:0<cntTo ((List.replicate on.length (-1:Int)).set tg.toNat 0) on.length:=by
  rw[aAv _ _ _ (gT _) hl,aD ⟨by omega,by rw[hg];omega⟩];omega
 refine ⟨by simp,by rw[hs,aD rfl],fun k hk h0=>?_,fun k=>?_,fun k=>?_⟩
 ·rw[hs] at h0 ⊢
  by_cases e:k=tg.toNat
  ·rw[aD e,e,aX ht.1];exact .nil _
  rw[aC e] at h0;omega
 ·rw[hs];split<;>omega
 rw[hs];split<;>omega
theorem aV4 {on:List (List Int)} {n tg:Int} (hn:Rows2 on n) (ht:0<=tg/\tg<n) {far:List Int} (h:DI on tg far) {i:Nat} {k:Int} (hi:i<on.length) (he:Edge on i k) (h0:0<=far.getD k.toNat (-1)) (h1:far.getD i (-1)<0\/far.getD k.toNat (-1)+1<far.getD i (-1)):
  DI on tg (far.set i (far.getD k.toNat (-1)+1))/\phiTo on.length (far.set i (far.getD k.toNat (-1)+1)) on.length<phiTo on.length far on.length:=by
 have hl:i<far.length:=by rw[h.len];exact hi
 have hk:=hn.2 _ _ he
 have hs:∀q,(far.set i (far.getD k.toNat (-1)+1)).getD q (-1)=if q=i then far.getD k.toNat (-1)+1 else far.getD q (-1):=fun q=>by
  rw[set_getD]
  by_cases e:q=i
  ·rw[aD ⟨e,by rw[e];exact hl⟩,aD e]
  rw[aC fun h=>e h.1,aC e]
 have hc:=aAv far i (far.getD k.toNat (-1)+1) (by omega) hl on.length
 have hkc:=h.cnt k.toNat
 have hcl:=zE far on.length
 have hcl2:=zE (far.set i (far.getD k.toNat (-1)+1)) on.length
 refine ⟨⟨by rw[cV];exact h.len,?_,fun q hq h2=>?_,fun q=>?_,fun q=>?_⟩,?_⟩
 ·rw[hs,aC]
  ·exact h.zero
  intro e
  have:=h.zero
  rw[e] at this
  omega
 ·rw[hs] at h2 ⊢
  by_cases e:q=i
  ·rw[aD e]
   rw[e]
   have hw:=h.way k.toNat (by have:=hn.1;omega) h0
   rw[aX hk.1] at hw
   have:(far.getD k.toNat (-1)+1).toNat=(far.getD k.toNat (-1)).toNat+1:=by omega
   rw[this]
   exact .cons _ _ _ _ he hw
  rw[aC e] at h2 ⊢
  exact h.way q hq h2
 ·rw[hs]
  have:=h.low q
  split<;>omega
 ·rw[hs,hc]
  have:=h.cnt q
  by_cases e:q=i
  ·rw[aD e]
   rcases h1 with h1 | h1
   ·rw[aD ⟨hi,h1⟩];omega
   have:=h.cnt i
   split<;>omega
  rw[aC e]
  split<;>omega
 have:=aGf on.length far i (far.getD k.toNat (-1)+1) (by omega) hl (by
  have:=h.cnt i
  by_cases hh:0<=far.getD i (-1)
  ·rw[aD hh];omega
  rw[aC hh]
  rw[aD ⟨hi,by omega⟩] at hc
  omega) on.length
 rw[aD hi] at this
 omega
theorem aZa {on:List (List Int)} {n tg:Int} (hn:Rows2 on n) (ht:0<=tg/\tg<n) {far:List Int} (h:DI on tg far) (hok:∀u:Nat,u<on.length->∀v,Edge on u v->okE far u v):far=distL on tg:=by
 have key:∀(m:Nat) (u v:Int),WayN on m u v->v=tg->(0<=u/\u<n)->0<=far.getD u.toNat (-1)/\far.getD u.toNat (-1)<=m:=by
  intro m u v hw
  induction hw with
  | nil u=>rintro rfl _;rw[h.zero];omega
  | cons m u v w he _ ih=>
   intro hv hu
   have hvn:=hn.2 u v he
   obtain ⟨i1,i2⟩:=ih hv hvn
   have:=hok u.toNat (by have:=hn.1;omega) v (by rw[aX hu.1];exact he) i1
   rw[aP] at this
   omega
 apply eD
 ·rw[h.len];simp[distL]
 intro k h1 h2
 have hk:k<on.length:=by rw[<- h.len];exact h1
 simp only[distL,List.getElem_map,List.getElem_range]
 have e:far[k]=far.getD k (-1):=by simp[aB,h1]
 rw[e]
 have hkn:0<=(k:Int)/\(k:Int)<n:=by have:=hn.1;omega
 by_cases h0:0<=far.getD k (-1)
 ·have hw:=h.way k hk h0
  have hl:Least (fun m=>WayN on m k tg) (far.getD k (-1)).toNat:=⟨hw,fun q hq hq2=>by
   have:=(key q k tg hq2 rfl hkn).2
   rw[aP] at this
   omega⟩
  rw[dist1_eq hl];omega
 have:=h.low k
 rw[aDc fun m hm=>by
  have:=(key m k tg hm rfl hkn).1
  rw[aP] at this
  exact h0 this]
 omega
theorem aJx {on:List (List Int)} (tg:Int) {k:Int} (h:0<=k/\k<on.length):(distL on tg).getD k.toNat (-1)=dist1 on tg k:=by
 have:k.toNat<on.length:=by omega
 simp[distL,aB,this,aX h.1]
theorem aDd {on:List (List Int)} {tg k:Int} {m:Nat} (h:WayN on m k tg):∃d:Nat,dist1 on tg k=d/\WayN on d k tg/\d<=m:=by
 obtain ⟨q,hq⟩:=sL (p:=fun m=>WayN on m k tg) h
 refine ⟨q,dist1_eq hq,hq.1,?_⟩
 apply aL
 intro hn
 exact hq.2 m (by omega) h
theorem sM {on:List (List Int)} (tg k:Int):dist1 on tg k= -1\/∃d:Nat,dist1 on tg k=d/\WayN on d k tg:=by
 by_cases h:∃m,WayN on m k tg
 ·obtain ⟨m,hm⟩:=h
  obtain ⟨d,h1,h2,_⟩:=aDd hm
  exact .inr ⟨d,h1,h2⟩
 exact .inl (aDc fun m hm=>h ⟨m,hm⟩)
def bestS (far:List Int) (b k:Int):Int:=if 0<=far.getD k.toNat (-1)/\(b<0\/far.getD k.toNat (-1)<far.getD b.toNat (-1)) then k else b
def bestOf (far:List Int) (row:List Int):Int:=row.foldl (bestS far) (-1)
theorem bestOf_snoc (far row:List Int) (k:Int):bestOf far (row++ [k])=bestS far (bestOf far row) k:=by simp[bestOf]
theorem bestOf_spec (far:List Int):∀row:List Int,(∀k∈row,0<=k)->(bestOf far row= -1/\∀k∈row,far.getD k.toNat (-1)<0)\/(bestOf far row∈row/\0<=far.getD (bestOf far row).toNat (-1)/\∀k∈row,0<=far.getD k.toNat (-1)->far.getD (bestOf far row).toNat (-1)<=far.getD k.toNat (-1)):=by
 refine aS0 (fun _=>.inl ⟨rfl,fun k hk=>nomatch hk⟩) fun row k ih hp=>?_
 have ih:=ih fun q hq=>hp q (bK.2 (.inl hq))
 have hk:=hp k (bK.2 (.inr (bC.2 rfl)))
 rw[bestOf_snoc]
 unfold bestS
 by_cases hc:0<=far.getD k.toNat (-1)/\(bestOf far row<0\/far.getD k.toNat (-1)<far.getD (bestOf far row).toNat (-1))
 ·rw[aD hc]
  refine .inr ⟨bK.2 (.inr (bC.2 rfl)),hc.1,fun q hq h0=>?_⟩
  rcases bK.1 hq with hq | hq
  ·rcases ih with ⟨h1,h2⟩ | ⟨h1,h2,h3⟩
   ·have:=h2 q hq;omega
   have:=h3 q hq h0
   have:=hp _ (bK.2 (.inl h1))
   omega
  rw[bC.1 hq];omega
 rw[aC hc]
 rcases ih with ⟨h1,h2⟩ | ⟨h1,h2,h3⟩
 ·refine .inl ⟨h1,fun q hq=>?_⟩
  rcases bK.1 hq with hq | hq
  ·exact h2 q hq
  rw[bC.1 hq]
  rw[h1] at hc
  omega
 refine .inr ⟨bK.2 (.inl h1),h2,fun q hq h0=>?_⟩
 rcases bK.1 hq with hq | hq
 ·exact h3 q hq h0
 rw[bC.1 hq] at h0 ⊢
 omega
end EB
end
section
open Go Go.Proofs Go.Eng Go.Shelf
namespace EB
theorem b79 (n:Int) (h:0<=n/\n<=100000):aKc Tryz.prog [c64] { asks:=[(0,[])] } Tryz.f101 [.seq (.int .i64) [-1],I n] (.ref 0 1) (.int .i64) (List.replicate n.toNat (-1)) 3:=by
 obtain ⟨h1,h2⟩:=h
 (repeat'((conv=>whnf);first|refine Zg fun _=>?_|refine Zn ?_|refine Zm ?_|fail))
 refine Need.mk (show 0<=n/\n<=n/\n<=140737488355328/\n*((8:Nat):Int)<=140737488355328 by omega) ?_
 have hf:=aMi (-1:Int) 0 n.toNat
 refine Ask.mk ⟨{ X:=Nat,pre:=fun k=>k<=n.toNat/\(k=0->n.toNat=0),mod:=fun k _=>[(8,I k)],heap:=fun k _=>[.vec 1 (.int .i64) [] 3,.vec 1 (.int .i64) (repL (-1:Int) 0 n.toNat k) 3],mu:=fun k=>n.toNat-k },rfl,?_⟩
 (repeat refine ZG ?_)
 refine ⟨⟨min 1 n.toNat,⟨by omega,by omega⟩,?_⟩,fun (k:Nat) hk=>?_⟩
 ·(repeat' first|exact trivial|rfl|apply aA)
  ·simp[Nat.min_comm]
  rw[cC,jO,hf,aS5]
  exact rfl
 obtain ⟨hk,hk0⟩:=hk
 obtain ⟨e1,e2⟩:=aQj (-1:Int) 0 n.toNat k hk
 have hrl:=aS3 (-1:Int) 0 n.toNat k
 (repeat'((conv=>whnf);first|refine Zg fun _=>?_|fail))
 (apply Br.mk<;>intro)
 ·have e3:(((repL (-1:Int) 0 n.toNat k).take k).drop 0).take ((repL (-1:Int) 0 n.toNat k).length-k)=((repL (-1:Int) 0 n.toNat k).take k).take (n.toNat-k):=by rw[iZ,hrl]
  (repeat'((conv=>whnf);first|refine Zn ?_|refine Zj ?_|apply pI|apply pJ|(apply PinH.mk;apply aF;apply aF)|exact Zf|refine Zc ?_ ?_|refine Zo ?_|fail))
  refine ⟨k+min k (n.toNat-k),by show n.toNat-(k+min k (n.toNat-k))<n.toNat-k;omega,⟨by omega,by omega⟩,?_⟩
  (repeat' first|exact trivial|rfl|apply aA)
  ·rw[e3,e2];omega
  rw[e3,e1]
  exact rfl
 have hall:=aS4 (-1:Int) 0 n.toNat k (by omega)
 (repeat' first|rfl|apply aA)
 exact hall
def c79:Con:=aHz 101 fun args K=>match args with | [.seq (.int .i64) [-1],.val (.int .i64 n)]=>Need (0<=n/\n<=100000) (K (.ref 0 1) (.vec 1 (.int .i64) (List.replicate n.toNat (-1)) 3)) | _=>False
theorem k79:aS Tryz.prog c79:=by
 refine aEf (enters_of Tryz.func101 (by kernel_rfl) rfl) ?_
 intro args K h
 split at h
 ·rename_i n;exact ⟨_,_,_,_,_,h.go,fun hfl=>qB (by simp[k64]) Tryz.func101 (by simp[Tryz.ntmps101]) hfl (b79 n h.ok)⟩
 exact h.elim
theorem d01 (xs:List Int) (k:Nat) (h:k<xs.length):xs.getD k 0=xs.getD k (-1):=by simp[aB,h]
structure DP (on:List (List Int)) (tg:Int) (far0:List Int) (x:List Int × Bool):Prop where
 di:DI on tg x.1
 yes:x.2=true->phiTo on.length x.1 on.length<phiTo on.length far0 on.length
 no:x.2=false->x.1=far0
theorem b71 (on:List (List Int)) (tg:Int) (h:∃n,Rows2 on n/\(0<=tg/\tg<n)/\(∀u,(on.getD u []).length<=4096)/\n<=512):body Tryz.prog [c79] { asks:=[(0,[]),(2,[]),(4,[])] } true Tryz.f61 [Rs on,I tg] (Ls (distL on tg)):=by
 obtain ⟨n,h1,h2,h3,h4⟩:=h
 obtain ⟨h5,h6⟩:=id h1
 (repeat' first|refine ZG ?_|refine Zg fun _=>?_)
 refine cX tg.toNat (by omega) ?_
 refine Ask.mk ⟨{ X:=List Int × Bool,pre:=fun x=>DI on tg x.1/\(x.2=false->∀u:Nat,u<on.length->∀v,Edge on u v->okE x.1 u v),mod:=fun x _=>[(6,.bl (x.2=true) inferInstance)],heap:=fun x _=>[.vec 1 (.int .i64) [] 3,.vec 1 (.int .i64) x.1 3],mu:=fun x=>2*phiTo on.length x.1 on.length+(if x.2=true then 1 else 0) },rfl,?_⟩
 (repeat refine ZG ?_)
 refine ⟨⟨((List.replicate on.length (-1:Int)).set tg.toNat 0,true),⟨aV3 h5 h2,fun h=>nomatch h⟩,?_⟩,fun (x:List Int × Bool) hx=>?_⟩
 ·exact ZE
 obtain ⟨hx1,hx2⟩:=hx
 (apply Br.mk<;>intro)
 ·rename_i hch
  (repeat'((conv=>whnf);first|refine Zg fun _=>?_|fail))
  refine Ask.mk ⟨{ X:=(List Int × Bool) × Nat,pre:=fun y=>y.2<=on.length/\DP on tg x.1 y.1/\(y.1.2=false->∀u:Nat,u<y.2->∀v,Edge on u v->okE x.1 u v),mod:=fun y _=>[(6,.bl (y.1.2=true) inferInstance),(20,I y.2)],heap:=fun y _=>[.vec 1 (.int .i64) [] 3,.vec 1 (.int .i64) y.1.1 3],mu:=fun y=>on.length-y.2 },rfl,?_⟩
  (repeat refine ZG ?_)
  refine ⟨⟨((x.1,false),(0:Nat)),⟨aI _,⟨hx1,(fun h=>nomatch h),fun _=>rfl⟩,fun _ u hu=>absurd hu (bG _)⟩,?_⟩,fun (y:(List Int × Bool) × Nat) hy=>?_⟩
  ·(repeat' first|exact trivial|rfl|apply aA)
   intro h
   exact nomatch h
  obtain ⟨y1,y2,y3⟩:=hy
  obtain ⟨p1,p2,p3⟩:=id y2
  (apply Br.mk<;>intro)
  ·have hlt:y.2<on.length:=by omega
   have hrow:=h3 y.2
   (repeat' first|refine ZG ?_|refine Zg fun _=>?_)
   refine Ask.mk ⟨{ X:=(List Int × Bool) × Nat,pre:=fun z=>z.2<=(on.getD y.2 []).length/\DP on tg x.1 z.1/\(z.1.2=false->(∀u:Nat,u<y.2->∀v,Edge on u v->okE x.1 u v)/\∀q,q<z.2->okE x.1 y.2 ((on.getD y.2 []).getD q 0)),mod:=fun z _=>[(6,.bl (z.1.2=true) inferInstance),(28,I z.2)],heap:=fun z _=>[.vec 1 (.int .i64) [] 3,.vec 1 (.int .i64) z.1.1 3],mu:=fun z=>(on.getD y.2 []).length-z.2 },rfl,?_⟩
   (repeat refine ZG ?_)
   refine ⟨⟨(y.1,(0:Nat)),⟨aI _,y2,fun h=>⟨y3 h,fun q hq=>absurd hq (bG _)⟩⟩,?_⟩,fun (z:(List Int × Bool) × Nat) hz=>?_⟩
   ·exact ZE
   obtain ⟨z1,z2,z3⟩:=hz
   obtain ⟨r1,r2,r3⟩:=id z2
   have hfl:=r1.len
   (apply Br.mk<;>intro)
   ·have hzt:z.2<(on.getD y.2 []).length:=by omega
    have he:Edge on y.2 ((on.getD y.2 []).getD z.2 0):=by
     unfold Edge
     rw[aP,aB (l:=on.getD y.2 []),aH hzt];exact cU _
    obtain ⟨k0,k1⟩:=h6 _ _ he
    have e1:=d01 z.1.1 ((on.getD y.2 []).getD z.2 0).toNat (by omega)
    have e2:=d01 z.1.1 y.2 (by omega)
    have hcn:=r1.cnt ((on.getD y.2 []).getD z.2 0).toNat
    have hcl:=zE z.1.1 on.length
    have hst:=aV4 h1 h2 r1 hlt he
    rw[<- e1,<- e2] at hst
    rw[<- e1] at hcn
    have hphi:phiTo on.length z.1.1 on.length<=phiTo on.length x.1 on.length:=by
     by_cases hz2:z.1.2=true
     ·exact Nat.le_of_lt (r2 hz2)
     rw[r3 (hZ.2 hz2)];exact aM _
    have skip:okE z.1.1 y.2 ((on.getD y.2 []).getD z.2 0)->z.2+1<=(on.getD y.2 []).length/\DP on tg x.1 z.1/\(z.1.2=false->(∀u:Nat,u<y.2->∀v,Edge on u v->okE x.1 u v)/\∀q,q<z.2+1->okE x.1 y.2 ((on.getD y.2 []).getD q 0)):=fun hk=>⟨hzt,z2,fun h=>⟨(z3 h).1,fun q hq=>by
     by_cases e:q=z.2
     ·subst e;rw[<- r3 h];exact hk
     exact (z3 h).2 q (by omega)⟩⟩
    have chg:∀(c0:0<=z.1.1.getD ((on.getD y.2 []).getD z.2 0).toNat 0) (c1:z.1.1.getD y.2 0<0\/z.1.1.getD ((on.getD y.2 []).getD z.2 0).toNat 0+1<z.1.1.getD y.2 0),z.2+1<=(on.getD y.2 []).length/\DP on tg x.1 (z.1.1.set y.2 (z.1.1.getD ((on.getD y.2 []).getD z.2 0).toNat 0+1),true)/\(true=false->(∀u:Nat,u<y.2->∀v,Edge on u v->okE x.1 u v)/\∀q,q<z.2+1->okE x.1 y.2 ((on.getD y.2 []).getD q 0)):=fun c0 c1=>⟨hzt,⟨(hst c0 c1).1,fun _=>bJ (hst c0 c1).2 hphi,fun h=>nomatch h⟩,fun h=>nomatch h⟩
    have hok:¬(0<=z.1.1.getD ((on.getD y.2 []).getD z.2 0).toNat 0/\(z.1.1.getD y.2 0<0\/z.1.1.getD ((on.getD y.2 []).getD z.2 0).toNat 0+1<z.1.1.getD y.2 0))->okE z.1.1 y.2 ((on.getD y.2 []).getD z.2 0):=fun hn h0=>by
     rw[aP,<- e1,<- e2]
     rw[<- e1] at h0
     omega
    (repeat'((conv=>whnf);first|refine Zg fun _=>?_|refine Zn ?_|refine Zj ?_|apply pI|apply pJ|fail))
    refine cX ((on.getD y.2 []).getD z.2 0).toNat (by omega) ?_
    (repeat'((conv=>whnf);first|refine Zg fun _=>?_|apply pI|apply pJ|fail))
    (repeat'((conv=>whnf);first|refine Zg fun _=>?_|refine Zn ?_|refine Zj ?_|apply pI|apply pJ|refine Zr (fun _=>?_) fun _=>?_|fail))
    ·refine cX ((on.getD y.2 []).getD z.2 0).toNat (by omega) ?_
     (repeat' first|refine ZG ?_|refine Zg fun _=>?_)
     refine ⟨((z.1.1.set y.2 (z.1.1.getD ((on.getD y.2 []).getD z.2 0).toNat 0+1),true),(z.2+1:Nat)),by show (on.getD y.2 []).length-(z.2+1)<(on.getD y.2 []).length-z.2;omega,chg ‹_› (.inl ‹_›),?_⟩
     exact ZE
    ·refine cX ((on.getD y.2 []).getD z.2 0).toNat (by omega) ?_
     (repeat'((conv=>whnf);first|refine Zg fun _=>?_|refine Zn ?_|refine Zj ?_|apply pI|apply pJ|refine Zr (fun _=>?_) fun _=>?_|fail))
     ·refine cX ((on.getD y.2 []).getD z.2 0).toNat (by omega) ?_
      (repeat' first|refine ZG ?_|refine Zg fun _=>?_)
      refine ⟨((z.1.1.set y.2 (z.1.1.getD ((on.getD y.2 []).getD z.2 0).toNat 0+1),true),(z.2+1:Nat)),by show (on.getD y.2 []).length-(z.2+1)<(on.getD y.2 []).length-z.2;omega,chg ‹_› (.inr ‹_›),?_⟩
      exact ZE
     refine ⟨(z.1,(z.2+1:Nat)),by show (on.getD y.2 []).length-(z.2+1)<(on.getD y.2 []).length-z.2;omega,skip (hok (by omega)),?_⟩
     exact ZE
    refine ⟨(z.1,(z.2+1:Nat)),by show (on.getD y.2 []).length-(z.2+1)<(on.getD y.2 []).length-z.2;omega,skip (hok (by omega)),?_⟩
    exact ZE
   (repeat refine ZG ?_)
   refine ⟨(z.1,(y.2+1:Nat)),by show on.length-(y.2+1)<on.length-y.2;omega,⟨hlt,z2,fun h u hu v he=>?_⟩,ZE⟩
   obtain ⟨w1,w2⟩:=z3 h
   by_cases e:u=y.2
   ·subst e
    unfold Edge at he
    rw[aP] at he
    obtain ⟨q,hq,rfl⟩:=bV he
    have:=w2 q (by omega)
    rwa [aB,aH hq] at this
   exact w1 u (by omega) v he
  have hyy:y.2=on.length:=by omega
  refine ⟨(y.1:List Int × Bool),?_,⟨p1,fun h=>?_⟩,ZE⟩
  ·show 2*phiTo on.length y.1.1 on.length+(if y.1.2=true then 1 else 0)<2*phiTo on.length x.1 on.length+(if x.2=true then 1 else 0)
   rw[aD hch]
   by_cases hy2:y.1.2=true
   ·rw[aD hy2];have:=p2 hy2;omega
   rw[aC hy2,p3 (hZ.2 hy2)];omega
  rw[p3 h,<- hyy];exact y3 h
 rename_i hch
 have hend:=aZa h1 h2 hx1 (hx2 (hZ.2 hch))
 (conv=>whnf)
 exact hend
def c71:Con:=bB 61 true fun args K=>match args with | [.seq (.slice (.int .i64)) on,.val (.int .i64 tg)]=>Need (∃n,Rows2 on n/\(0<=tg/\tg<n)/\(∀u,(on.getD u []).length<=4096)/\n<=512) (K (Ls (distL on tg))) | _=>False
theorem k71:aS Tryz.prog c71:=by
 refine kO Tryz.func61 fun args K h=>?_
 simp only[c71] at h;split at h
 ·rename_i on tg;exact ⟨_,h.go,triB Tryz.func61 Tryz.ntmps61 (by simp[k79]) (b71 on tg h.ok)⟩
 exact h.elim
theorem b72 (i:Int) (on:List (List Int)) (far:List Int) (h:(0<=i/\i<on.length)/\∀k∈on.getD i.toNat [],0<=k/\k<far.length):body Tryz.prog [] { asks:=[(0,[])] } true Tryz.f62 [I i,.lelem [Rs on] 0,.lelem [Ls far] 0] (I (bestOf far (on.getD i.toNat []))):=by
 obtain ⟨h1,h2⟩:=h
 (repeat refine ZG ?_)
 refine cX i.toNat (by omega) ?_
 (repeat'((conv=>whnf);first|refine Zg fun _=>?_|fail))
 refine Ask.mk ⟨{ X:=Nat,pre:=fun j=>j<=(on.getD i.toNat []).length,mod:=fun j _=>[(5,I (bestOf far ((on.getD i.toNat []).take j))),(13,I j)],mu:=fun j=>(on.getD i.toNat []).length-j },rfl,?_⟩
 (repeat refine ZG ?_)
 refine ⟨⟨(0:Nat),aI _,?_⟩,fun (j:Nat) (hj:j<=(on.getD i.toNat []).length)=>?_⟩
 ·exact ZE
 skip
 (apply Br.mk<;>intro)
 ·have hlt:j<(on.getD i.toNat []).length:=by omega
  have hm:(on.getD i.toNat []).getD j 0∈on.getD i.toNat []:=by
   rw[aB (l:=on.getD i.toNat []),aH hlt];exact cU _
  obtain ⟨k0,k1⟩:=h2 _ hm
  have htk:(on.getD i.toNat []).take (j+1)=(on.getD i.toNat []).take j++ [(on.getD i.toNat []).getD j 0]:=by
   rw[dA hlt]
   rw[aB (l:=on.getD i.toNat []),aH hlt];rfl
  have hsn:=bestOf_snoc far ((on.getD i.toNat []).take j) ((on.getD i.toNat []).getD j 0)
  rw[<- htk] at hsn
  unfold bestS at hsn
  have hb:bestOf far ((on.getD i.toNat []).take j)<0\/(0<=bestOf far ((on.getD i.toNat []).take j)/\bestOf far ((on.getD i.toNat []).take j)<far.length):=by
   rcases bestOf_spec far ((on.getD i.toNat []).take j) (fun k hk=>(h2 k (dD hk)).1) with ⟨q1,_⟩ | ⟨q1,_,_⟩
   ·omega
   exact .inr (h2 _ (dD q1))
  have e1:=d01 far ((on.getD i.toNat []).getD j 0).toNat (by omega)
  rw[<- e1] at hsn
  (repeat'((conv=>whnf);first|refine Zg fun _=>?_|refine Zn ?_|refine Zj ?_|apply pI|apply pJ|fail))
  refine cX ((on.getD i.toNat []).getD j 0).toNat (by omega) ?_
  (repeat'((conv=>whnf);first|refine Zg fun _=>?_|refine Zn ?_|apply pI|apply pJ|refine Zr (fun _=>?_) fun _=>?_|fail))
  ·rw[aD ⟨‹_›,.inl ‹_›⟩] at hsn
   refine ⟨(j+1:Nat),by show (on.getD i.toNat []).length-(j+1)<(on.getD i.toNat []).length-j;omega,hlt,?_⟩
   exact ZE
  ·have e2:=d01 far (bestOf far ((on.getD i.toNat []).take j)).toNat (by omega)
   rw[<- e2] at hsn
   refine cX ((on.getD i.toNat []).getD j 0).toNat (by omega) ?_
   (repeat'((conv=>whnf);first|refine Zg fun _=>?_|refine Zn ?_|apply pI|apply pJ|fail))
   refine cX (bestOf far ((on.getD i.toNat []).take j)).toNat (by omega) ?_
   (repeat'((conv=>whnf);first|refine Zg fun _=>?_|refine Zn ?_|apply pI|apply pJ|refine Zr (fun _=>?_) fun _=>?_|fail))
   ·rw[aD ⟨‹_›,.inr ‹_›⟩] at hsn
    refine ⟨(j+1:Nat),by show (on.getD i.toNat []).length-(j+1)<(on.getD i.toNat []).length-j;omega,hlt,?_⟩
    exact ZE
   rw[aC (by omega)] at hsn
   refine ⟨(j+1:Nat),by show (on.getD i.toNat []).length-(j+1)<(on.getD i.toNat []).length-j;omega,hlt,?_⟩
   exact ZE
  rw[aC (by omega)] at hsn
  refine ⟨(j+1:Nat),by show (on.getD i.toNat []).length-(j+1)<(on.getD i.toNat []).length-j;omega,hlt,?_⟩
  exact ZE
 have hjj:(on.getD i.toNat []).take j=on.getD i.toNat []:=iM (by omega)
 (conv=>whnf)
 exact ⟨rfl,aO (bestOf far) hjj⟩
def c72:Con:=bB 62 true fun args K=>match args with | [.val (.int .i64 i),.lelem [.seq (.slice (.int .i64)) on] 0,.lelem [.seq (.int .i64) far] 0]=>Need ((0<=i/\i<on.length)/\∀k∈on.getD i.toNat [],0<=k/\k<far.length) (K (I (bestOf far (on.getD i.toNat [])))) | _=>False
theorem k72:aS Tryz.prog c72:=by
 refine kO Tryz.func62 fun args K h=>?_
 simp only[c72] at h;split at h
 ·rename_i i on far;exact ⟨_,h.go,triB Tryz.func62 Tryz.ntmps62 (by simp) (b72 i on far h.ok)⟩
 exact h.elim
end EB
end
section
open Go Go.Proofs Go.Eng Go.Shelf
namespace EB
theorem yG {on:List (List Int)} {tg u:Int} {d:Nat} (h:Least (fun m=>WayN on m u tg) (d+1)):∃v,Edge on u v/\Least (fun m=>WayN on m v tg) d:=by
 obtain ⟨h1,h2⟩:=h
 cases h1 with
 | cons _ _ v _ he hw=>exact ⟨v,he,hw,fun q hq hq2=>h2 (q+1) (by omega) (.cons q u v tg he hq2)⟩
theorem aDe {on:List (List Int)} {n tg:Int} (hn:Rows2 on n):∀(d:Nat) (u:Int),(0<=u/\u<n)->Least (fun m=>WayN on m u tg) d->∃ws:List Int,ws.length=d+1/\(∀w∈ws,(0<=w/\w<n)/\∃e:Nat,e<=d/\Least (fun m=>WayN on m w tg) e)/\ws.Nodup
 | 0,u,hu,h=>⟨[u],rfl,fun w hw=>by rw[bC.1 hw];exact ⟨hu,0,aM _,h⟩,by simp⟩
 | d+1,u,hu,h=>by
  obtain ⟨v,he,hv⟩:=yG h
  obtain ⟨ws,w1,w2,w3⟩:=aDe hn d v (hn.2 u v he) hv
  refine ⟨u::ws,by simpa using w1,fun w hw=>?_,?_⟩
  ·rcases bE.1 hw with rfl | hw
   ·exact ⟨hu,d+1,aM _,h⟩
   obtain ⟨a,e,b,c⟩:=w2 w hw
   exact ⟨a,e,by omega,c⟩
  rw[List.nodup_cons]
  refine ⟨fun hm=>?_,w3⟩
  obtain ⟨_,e,b,c⟩:=w2 u hm
  have:=tM c h
  omega
theorem dist_le {on:List (List Int)} {n tg k:Int} (hn:Rows2 on n) (hk:0<=k/\k<n):dist1 on tg k<n:=by
 rcases sM (on:=on) tg k with h | ⟨d,h,hw⟩
 ·omega
 obtain ⟨q,hq⟩:=sL (p:=fun m=>WayN on m k tg) hw
 have e:=dist1_eq hq
 obtain ⟨ws,w1,w2,w3⟩:=aDe hn q k hk hq
 have:=aAx (by omega) w3 fun w hw=>(w2 w hw).1
 omega
theorem aGg {on:List (List Int)} {n c:Int} (hn:Rows2 on n) (hc:0<=c/\c<n) {i:Int} (hi:0<=i/\i<n) (h:i=c/\Way on c c\/¬i=c/\0<=dist1 on c i):
  (0<=bestOf (distL on c) (on.getD i.toNat [])/\bestOf (distL on c) (on.getD i.toNat [])<n)/\0<=dist1 on c (bestOf (distL on c) (on.getD i.toNat []))/\(¬i=c->dist1 on c (bestOf (distL on c) (on.getD i.toNat []))<dist1 on c i):=by
 have hlen:=hn.1
 have hrow:∀k∈on.getD i.toNat [],0<=k/\k<n:=fun k hk=>hn.2 i k hk
 have hex:∃v,Edge on i v/\0<=dist1 on c v/\(¬i=c->dist1 on c v<dist1 on c i):=by
  rcases h with ⟨rfl,hw⟩ | ⟨hne,h0⟩
  ·obtain ⟨m,hm⟩:=hw.num
   cases hm with
   | cons _ _ v _ he hw=>
    obtain ⟨d,h1,_,_⟩:=aDd hw
    exact ⟨v,he,by omega,fun h=>absurd rfl h⟩
  rcases sM (on:=on) c i with h | ⟨d,h1,hw⟩
  ·omega
  obtain ⟨q,hq⟩:=sL (p:=fun m=>WayN on m i c) hw
  have e:=dist1_eq hq
  cases q with
  | zero=>
   exfalso
   have:=hq.1
   cases this
   exact hne rfl
  | succ q=>
   obtain ⟨v,he,hv⟩:=yG hq
   have e2:=dist1_eq hv
   exact ⟨v,he,by omega,fun _=>by omega⟩
 obtain ⟨v,he,v0,v1⟩:=hex
 have hv:=hn.2 i v he
 have gv:=aJx (on:=on) c (k:=v) (by omega)
 rcases bestOf_spec (distL on c) (on.getD i.toNat []) (fun k hk=>(hrow k hk).1) with ⟨h1,h2⟩ | ⟨h1,h2,h3⟩
 ·have:=h2 v he
  rw[gv] at this
  omega
 have hb:=hrow _ h1
 have gb:=aJx (on:=on) c (k:=bestOf (distL on c) (on.getD i.toNat [])) (by omega)
 rw[gb] at h2 h3
 have h4:=h3 v he (by rw[gv];exact v0)
 rw[gv] at h4
 exact ⟨hb,h2,fun hne=>by have:=v1 hne;omega⟩
def cycP (n:Int) (l:List (Int × Int)):Prop:=supE n l=0/\Loops (onL n l) n
def cycE (n:Int) (l:List (Int × Int)):Int:=if supE n l=0 then 0 else 1
theorem reach_get {on:List (List Int)} (i:Int) {k:Nat} (h:k<on.length):(reachL on i).getD k false=wayB on i k:=by
 simp[reachL,aB,h]
theorem reachL_len (on:List (List Int)) (i:Int):(reachL on i).length=on.length:=by simp[reachL]
theorem distL_len (on:List (List Int)) (i:Int):(distL on i).length=on.length:=by simp[distL]
end EB
end
section
open Go Go.Proofs Go.Eng Go.Shelf
namespace EB
def Run (on:List (List Int)) (m:Nat) (i:Int):Prop:=∃w,WayN on m i w
theorem Run.zero (on:List (List Int)) (i:Int):Run on 0 i:=⟨i,.nil i⟩
theorem Run.cons {on:List (List Int)} {m:Nat} {i k:Int} (he:Edge on i k) (h:Run on m k):Run on (m+1) i:=by
 obtain ⟨w,hw⟩:=h
 exact ⟨w,.cons m i k w he hw⟩
theorem Run.inv {on:List (List Int)} {m:Nat} {i:Int} (h:Run on (m+1) i):∃k,Edge on i k/\Run on m k:=by
 obtain ⟨w,hw⟩:=h
 cases hw with
 | cons _ _ v _ he hw=>exact ⟨v,he,w,hw⟩
theorem aLt {on:List (List Int)} {n:Int} (hn:Rows2 on n):∀(m:Nat) (i:Int),(0<=i/\i<n)->Run on m i->∃ws:List Int,ws.length=m+1/\(∀w∈ws,(0<=w/\w<n)/\(w=i\/Way on i w))/\ws.Pairwise (Way on)
 | 0,i,hi,_=>⟨[i],rfl,fun w hw=>by rw[bC.1 hw];exact ⟨hi,.inl rfl⟩,kD _ _⟩
 | m+1,i,hi,h=>by
  obtain ⟨k,he,hr⟩:=h.inv
  obtain ⟨ws,w1,w2,w3⟩:=aLt hn m k (hn.2 i k he) hr
  have hw:∀w∈ws,Way on i w:=fun w hw=>by
   rcases (w2 w hw).2 with rfl | h2
   ·exact .one _ _ he
   exact .more _ _ _ he h2
  refine ⟨i::ws,by simpa using w1,fun w h=>?_,dY.2 ⟨hw,w3⟩⟩
  rcases bE.1 h with rfl | h
  ·exact ⟨hi,.inl rfl⟩
  exact ⟨(w2 w h).1,.inr (hw w h)⟩
theorem aHc {on:List (List Int)} {n:Int} (hn:Rows2 on n) (hno:¬Loops on n) {m:Nat} {i:Int} (hi:0<=i/\i<n) (h:Run on m i):(m:Int)<n:=by
 obtain ⟨ws,w1,w2,w3⟩:=aLt hn m i hi h
 have hnd:ws.Nodup:=by
  rw[List.nodup_iff_pairwise_ne]
  refine w3.imp_of_mem fun {a b} ha hb hw e=>?_
  subst e
  exact hno ⟨a,(w2 a ha).1,hw⟩
 have:=aAx (by omega) hnd fun w hw=>(w2 w hw).1
 omega
structure RK (on:List (List Int)) (B:Int) (out:List Int):Prop where
 len:out.length=on.length
 run:∀i:Nat,i<on.length->0<=out.getD i 0/\Run on (out.getD i 0).toNat i
 top:∀i:Nat,out.getD i 0<=B
theorem RK.mono {on:List (List Int)} {B C:Int} {out:List Int} (h:RK on B out) (hc:B<=C):RK on C out:=⟨h.len,h.run,fun i=>gD (h.top i) hc⟩
def LowR (on:List (List Int)) (r:Nat) (out:List Int):Prop:=∀i:Nat,i<on.length->∀m,m<=r->Run on m i->(m:Int)<=out.getD i 0
structure RankOk (on:List (List Int)) (out:List Int):Prop where
 len:out.length=on.length
 run:∀i:Nat,i<on.length->0<=out.getD i 0/\Run on (out.getD i 0).toNat i
 fix:∀u v:Int,0<=u->Edge on u v->out.getD v.toNat 0<out.getD u.toNat 0
theorem aLu {on:List (List Int)} {n:Int} (hn:Rows2 on n) {out:List Int} (h:RankOk on out):∀(m:Nat) (i:Int),(0<=i/\i<n)->Run on m i->(m:Int)<=out.getD i.toNat 0
 | 0,i,hi,_=>(h.run i.toNat (by have:=hn.1;omega)).1
 | m+1,i,hi,hr=>by
  obtain ⟨k,he,hk⟩:=hr.inv
  have h1:=aLu hn h m k (hn.2 i k he) hk
  have h2:=h.fix i k hi.1 he
  omega
theorem aP0 {on:List (List Int)} {n:Int} (hn:Rows2 on n) {o1 o2:List Int} (h1:RankOk on o1) (h2:RankOk on o2) {i:Nat} (hi:i<on.length):o1.getD i 0<=o2.getD i 0:=by
 obtain ⟨h3,h4⟩:=h1.run i hi
 have:=aLu hn h2 _ i (by have:=hn.1;omega) h4
 rw[aP] at this
 omega
theorem aRe {on:List (List Int)} {n:Int} (hn:Rows2 on n) {o1 o2:List Int} (h1:RankOk on o1) (h2:RankOk on o2):o1=o2:=by
 apply eD
 ·rw[h1.len,h2.len]
 intro i h3 h4
 have hi:i<on.length:=by rw[<- h1.len];exact h3
 have e1:o1[i]=o1.getD i 0:=by simp[aB,h3]
 have e2:o2[i]=o2.getD i 0:=by simp[aB,h4]
 rw[e1,e2]
 exact Int.le_antisymm (aP0 hn h1 h2 hi) (aP0 hn h2 h1 hi)
theorem aLv {on:List (List Int)} {n:Int} (hn:Rows2 on n) {out:List Int} (h:RankOk on out):¬Loops on n:=by
 rintro ⟨i,hi,hw⟩
 have key:∀u v:Int,Way on u v->0<=u->out.getD v.toNat 0<out.getD u.toNat 0:=by
  intro u v hw
  induction hw with
  | one u v he=>exact fun hu=>h.fix u v hu he
  | more u v w he _ ih=>
   intro hu
   have h1:=h.fix u v hu he
   have h2:=ih (hn.2 u v he).1
   omega
 have:=key i i hw hi.1
 omega
structure RP (on:List (List Int)) (r:Nat) (B:Int) (out0:List Int) (done:Int->Int->Prop) (x:List Int × Bool):Prop where
 rk:RK on B x.1
 low:LowR on r x.1
 dn:∀u v,done u v->∀m,m<=r->Run on m v->(m:Int)+1<=x.1.getD u.toNat 0
 no:x.2=false->x.1=out0/\∀u v,done u v->out0.getD v.toNat 0<out0.getD u.toNat 0
 yes:x.2=true->∃u v,0<=u/\Edge on u v/\out0.getD u.toNat 0<=out0.getD v.toNat 0
theorem RP.start {on:List (List Int)} {r:Nat} {B:Int} {out:List Int} (h:RK on B out) (h2:LowR on r out):RP on r B out (fun _ _=>False) (out,false):=
 ⟨h,h2,fun _ _ h=>h.elim,fun _=>⟨rfl,fun _ _ h=>h.elim⟩,fun h=>nomatch h⟩
theorem RP.mono {on:List (List Int)} {r:Nat} {B C:Int} {out0:List Int} {d e:Int->Int->Prop} {x:List Int × Bool} (h:RP on r B out0 d x) (hc:B<=C) (hd:∀u v,e u v->d u v):RP on r C out0 e x:=
 ⟨h.rk.mono hc,h.low,fun u v h1=>h.dn u v (hd u v h1),fun h1=>⟨(h.no h1).1,fun u v h2=>(h.no h1).2 u v (hd u v h2)⟩,h.yes⟩
theorem RP.turn {on:List (List Int)} {n:Int} (hn:Rows2 on n) {r:Nat} {B:Int} {out0:List Int} {d:Int->Int->Prop} {x:List Int × Bool} (h:RP on r B out0 d x) {u v:Int} (hu:0<=u/\u<n) (he:Edge on u v) (hc:x.1.getD u.toNat 0<=x.1.getD v.toNat 0):
  RP on r (B+1) out0 (fun a b=>d a b\/a=u/\b=v) (x.1.set u.toNat (x.1.getD v.toNat 0+1),true):=by
 have hv:=hn.2 u v he
 have hl:u.toNat<x.1.length:=by rw[h.rk.len];have:=hn.1;omega
 have hs:∀q,(x.1.set u.toNat (x.1.getD v.toNat 0+1)).getD q 0=if q=u.toNat then x.1.getD v.toNat 0+1 else x.1.getD q 0:=fun q=>by
  rw[set_getD]
  by_cases e:q=u.toNat
  ·rw[aD ⟨e,by rw[e];exact hl⟩,aD e]
  rw[aC fun h=>e h.1,aC e]
 have up:∀q,x.1.getD q 0<=(x.1.set u.toNat (x.1.getD v.toNat 0+1)).getD q 0:=fun q=>by
  rw[hs]
  by_cases e:q=u.toNat
  ·rw[aD e,e];omega
  rw[aC e];exact gT _
 obtain ⟨v0,v1⟩:=h.rk.run v.toNat (by have:=hn.1;omega)
 rw[aX hv.1] at v1
 refine ⟨⟨by rw[cV];exact h.rk.len,fun i hi=>?_,fun i=>?_⟩,fun i hi m hm hr=>gD (h.low i hi m hm hr) (up i),fun a b hd m hm hr=>?_,fun h=>(nomatch h),fun _=>?_⟩
 ·show 0<=(x.1.set u.toNat (x.1.getD v.toNat 0+1)).getD i 0/\Run on ((x.1.set u.toNat (x.1.getD v.toNat 0+1)).getD i 0).toNat i
  rw[hs]
  by_cases e:i=u.toNat
  ·rw[aD e]
   refine ⟨by omega,?_⟩
   rw[show (x.1.getD v.toNat 0+1).toNat=(x.1.getD v.toNat 0).toNat+1 by omega,e,aX hu.1]
   exact v1.cons he
  rw[aC e];exact h.rk.run i hi
 ·show (x.1.set u.toNat (x.1.getD v.toNat 0+1)).getD i 0<=B+1
  rw[hs]
  have:=h.rk.top i
  have:=h.rk.top v.toNat
  split<;>omega
 ·rcases hd with hd | ⟨rfl,rfl⟩
  ·exact gD (h.dn a b hd m hm hr) (up a.toNat)
  show (m:Int)+1<=(x.1.set a.toNat (x.1.getD b.toNat 0+1)).getD a.toNat 0
  rw[hs,aD rfl]
  have:=h.low b.toNat (by have:=hn.1;omega) m hm (by rw[aX hv.1];exact hr)
  omega
 by_cases hx:x.2=true
 ·exact h.yes hx
 obtain ⟨e,_⟩:=h.no (hZ.2 hx)
 exact ⟨u,v,hu.1,he,by rw[<- e];exact hc⟩
theorem RP.skip {on:List (List Int)} {n:Int} (hn:Rows2 on n) {r:Nat} {B:Int} {out0:List Int} {d:Int->Int->Prop} {x:List Int × Bool} (h:RP on r B out0 d x) {u v:Int} (hu:0<=u/\u<n) (he:Edge on u v) (hc:¬x.1.getD u.toNat 0<=x.1.getD v.toNat 0):
  RP on r (B+1) out0 (fun a b=>d a b\/a=u/\b=v) x:=by
 have hv:=hn.2 u v he
 refine ⟨h.rk.mono (by omega),h.low,fun a b hd m hm hr=>?_,fun hx=>⟨(h.no hx).1,fun a b hd=>?_⟩,h.yes⟩
 ·rcases hd with hd | ⟨rfl,rfl⟩
  ·exact h.dn a b hd m hm hr
  have:=h.low b.toNat (by have:=hn.1;omega) m hm (by rw[aX hv.1];exact hr)
  omega
 rcases hd with hd | ⟨rfl,rfl⟩
 ·exact (h.no hx).2 a b hd
 rw[<- (h.no hx).1];omega
theorem RP.stay {on:List (List Int)} {r:Nat} {B:Int} {out0:List Int} {d:Int->Int->Prop} {x:List Int × Bool} (h:RP on r B out0 d x) (hall:∀u v,0<=u->Edge on u v->d u v) (hx:x.2=false):RankOk on x.1:=by
 obtain ⟨e,h2⟩:=h.no hx
 exact ⟨h.rk.len,h.rk.run,fun u v hu he=>by rw[e];exact h2 u v (hall u v hu he)⟩
theorem RP.more {on:List (List Int)} {r:Nat} {B:Int} {out0:List Int} {d:Int->Int->Prop} {x:List Int × Bool} (h:RP on r B out0 d x) (hall:∀u v,0<=u->Edge on u v->d u v):LowR on (r+1) x.1:=fun i hi m hm hr=>by
 cases m with
 | zero=>exact (h.rk.run i hi).1
 | succ m=>
  obtain ⟨k,he,hk⟩:=hr.inv
  have:=h.dn i k (hall i k (by omega) he) m (by omega) hk
  rw[aP] at this
  omega
theorem RP.late {on:List (List Int)} {n:Int} (hn:Rows2 on n) {r:Nat} {B C:Int} {out0:List Int} {d:Int->Int->Prop} {x:List Int × Bool} (h:RP on r B out0 d x) (h0:RK on C out0) (h1:LowR on r out0) (hr:n<=r) (hx:x.2=true):Loops on n:=by
 apply aL
 intro hno
 obtain ⟨u,v,hu,he,hc⟩:=h.yes hx
 have hv:=hn.2 u v he
 have hul:=edge_out he
 obtain ⟨v0,v1⟩:=h0.run v.toNat (by have:=hn.1;omega)
 rw[aX hv.1] at v1
 have h2:=v1.cons he
 have hun:0<=u/\u<n:=by have:=hn.1;omega
 have h3:=aHc hn hno hun h2
 have h4:=h1 u.toNat hul ((out0.getD v.toNat 0).toNat+1) (by omega) (by rw[aX hu];exact h2)
 omega
theorem rk_zero (on:List (List Int)):RK on 0 (List.replicate on.length 0)/\LowR on 0 (List.replicate on.length 0):=by
 have hg:∀k,(List.replicate on.length (0:Int)).getD k 0=0:=fun k=>by
  rw[aB,bR];split<;>rfl
 refine ⟨⟨by simp,fun i _=>?_,fun i=>by rw[hg];omega⟩,fun i _ m hm _=>by rw[hg];omega⟩
 rw[hg]
 exact ⟨gT _,Run.zero _ _⟩
theorem aWt {on:List (List Int)} {n:Int} (hn:Rows2 on n) (hno:¬Loops on n):∃out,RankOk on out:=by
 have hg:∀(i:Int),(0<=i/\i<n)->∃m,Run on m i/\∀q,Run on q i->q<=m:=fun i hi=>by
  have key:∀k:Nat,(∀q,Run on q i->q<=k)->∃m,Run on m i/\∀q,Run on q i->q<=m:=by
   intro k
   induction k with
   | zero=>exact fun h=>⟨0,Run.zero _ _,h⟩
   | succ k ih=>
    intro h
    by_cases hk:Run on (k+1) i
    ·exact ⟨k+1,hk,h⟩
    refine ih fun q hq=>?_
    have:=h q hq
    by_cases e:q=k+1
    ·subst e;exact absurd hq hk
    omega
  exact key n.toNat fun q hq=>by have:=aHc hn hno hi hq;omega
 have hf:∀i:Int,∃m:Nat,(0<=i/\i<n)->Run on m i/\∀q,Run on q i->q<=m:=fun i=>by
  by_cases hi:0<=i/\i<n
  ·obtain ⟨m,hm⟩:=hg i hi;exact ⟨m,fun _=>hm⟩
  exact ⟨0,fun h=>absurd h hi⟩
 obtain ⟨f,hf⟩:=Classical.axiomOfChoice hf
 have hln:=hn.1
 have hget:∀i:Nat,i<on.length->((List.range on.length).map fun i:Nat=>(f i:Int)).getD i 0=f i:=fun i hi=>by
  simp[aB,hi]
 refine ⟨(List.range on.length).map fun i:Nat=>(f i:Int),by simp,fun i hi=>?_,fun u v hu he=>?_⟩
 ·rw[hget i hi]
  exact ⟨by omega,by rw[aP];exact (hf i (by omega)).1⟩
 have hul:=edge_out he
 have hv:=hn.2 u v he
 rw[hget u.toNat hul,hget v.toNat (by omega)]
 rw[aX hu,aX hv.1]
 have h1:=(hf v hv).1
 have h2:=(hf u (by omega)).2 _ (h1.cons he)
 omega
open Classical in
noncomputable def aUs (on:List (List Int)):List Int:=if h:∃out,RankOk on out then Classical.choose h else []
theorem aLw {on:List (List Int)} {n:Int} (hn:Rows2 on n) {out:List Int} (h:RankOk on out):aUs on=out:=by
 have hex:∃out,RankOk on out:=⟨out,h⟩
 unfold aUs
 rw[dif_pos hex]
 exact aRe hn (Classical.choose_spec hex) h
open Classical in
noncomputable def rkE (n:Int) (l:List (Int × Int)):Int:=if supE n l=0 then if Loops (onL n l) n then 27 else 0 else 1
open Classical in
noncomputable def rkR (n:Int) (l:List (Int × Int)):List Int:=if supE n l=0 then if Loops (onL n l) n then [] else aUs (onL n l) else []
theorem rk_len {n:Int} {l:List (Int × Int)} (h:supE n l=0) (h2:¬Loops (onL n l) n):rkE n l=0/\(rkR n l).length=n.toNat:=by
 have hn:=onL_rows (supE_rests h)
 obtain ⟨out,ho⟩:=aWt hn h2
 unfold rkE rkR
 rw[aD h,aD h,aC h2,aC h2,aLw hn ho,ho.len,onL_len]
 exact ⟨rfl,rfl⟩
theorem rk_bad {n:Int} {l:List (Int × Int)} (h:¬supE n l=0):rkE n l=1/\rkR n l= []:=by
 unfold rkE rkR;rw[aC h,aC h];exact ⟨rfl,rfl⟩
theorem rk_loop {n:Int} {l:List (Int × Int)} (h:supE n l=0) (h2:Loops (onL n l) n):rkE n l=27/\rkR n l= []:=by
 unfold rkE rkR;rw[aD h,aD h,aD h2,aD h2];exact ⟨rfl,rfl⟩
theorem rk_fine {n:Int} {l:List (Int × Int)} (h:supE n l=0) {out:List Int} (h2:RankOk (onL n l) out):rkE n l=0/\rkR n l=out:=by
 have hn:=onL_rows (supE_rests h)
 have hno:=aLv hn h2
 unfold rkE rkR;rw[aD h,aD h,aC hno,aC hno];exact ⟨rfl,aLw hn h2⟩
end EB
end
section
open Go Go.Proofs Go.Eng Go.Shelf IB Go.Lib Go.RowKit
namespace RB
theorem aZg {ls:List Lin} {l:List Mem} (h:(ofR ls l).2=0):(l.length<=512/\ls.length<=4096)/\¬badL ls/\¬badM l/\errS l l.length 0=0/\(outR ls l l.length).length<=4096/\(ofR ls l).1=outR ls l l.length:=by
 unfold ofR at h ⊢
 split at h
 ·exact absurd h (by decide)
 rename_i h1
 split at h
 ·exact absurd h (by decide)
 rename_i h2
 split at h
 ·exact absurd h (by decide)
 rename_i h3
 split at h
 ·rename_i h4;exact absurd h h4
 rename_i h4
 split at h
 ·exact absurd h (by decide)
 rename_i h5
 rw[aC h1,aC h2,aC h3,aC h4,aC h5]
 exact ⟨by omega,h2,h3,bD.1 h4,by omega,rfl⟩
theorem aWy {ls:List Lin} {l:List Mem} {x:Int × Int} (h:x∈outR ls l l.length):0<=x.1/\x.1<l.length/\ -1<=x.2/\x.2<l.length/\x.1≠x.2:=by
 obtain ⟨i,h1,h2⟩:=(aFe ls l x l.length).1 h
 rcases h2 with ⟨_,rfl⟩ | ⟨k,h3,h4,_,rfl⟩
 ·dsimp only;omega
 dsimp only;omega
theorem aZh {ls:List Lin} {l:List Mem} (h:(ofR ls l).2=0):EB.supE l.length (ofR ls l).1=0:=by
 obtain ⟨h1,_,_,_,h2,e⟩:=aZg h
 rw[e]
 unfold EB.supE
 rw[aC (by omega),aC (by omega)]
 refine EB.firstE_none fun j hj=>?_
 have hin:=aWy (EB.at_mem (outR ls l l.length) j hj)
 unfold EB.supAt
 rw[aC (by omega),aC hin.2.2.2.2,aC]
 rintro ⟨h0,hc⟩
 have hp:=List.pairwise_iff_getElem.1 (aL2 ls l l.length) (j-1) j (by omega) hj (by omega)
 have e1:(outR ls l l.length).getD (j-1) (0,0)=(outR ls l l.length)[j-1]'(by omega):=by simp[aB,show j-1<(outR ls l l.length).length by omega]
 have e2:(outR ls l l.length).getD j (0,0)=(outR ls l l.length)[j]:=by simp[aB,hj]
 rw[e1,e2] at hc
 unfold ltP at hp
 generalize (outR ls l l.length)[j-1]'(by omega)=a at*
 generalize (outR ls l l.length)[j]=b at*
 rcases hp with hp | ⟨hp,hq⟩
 ·have:EB.cmpI a.1 b.1= -1:=by unfold EB.cmpI;rw[aD hp]
  simp only[EB.orI,this] at hc
  rw[aC (by decide)] at hc
  omega
 have h3:EB.cmpI a.1 b.1=0:=by unfold EB.cmpI;rw[aC (by omega),aC (by omega)]
 have h4:EB.cmpI a.2 b.2= -1:=by unfold EB.cmpI;rw[aD hq]
 simp only[EB.orI,h3,h4] at hc
 rw[aD trivial,aC (by decide)] at hc
 omega
theorem aHf {l:List Mem} {i:Nat}:∀(n k:Nat),errR l i n k=0↔∀j,k<=j->j<k+n->j≠i->rstE (l.getD i mem0) (l.getD j mem0)=0
 | 0,k=>⟨fun _ j h1 h2=>by omega,fun _=>rfl⟩
 | n+1,k=>by
  have ih:=aHf (l:=l) (i:=i) n (k+1)
  unfold errR
  split
  ·rename_i h
   exact ⟨fun h2=>absurd h2 h.2,fun h2=>h2 k (aM _) (by omega) h.1⟩
  rename_i h
  rw[ih]
  constructor
  ·intro h2 j h3 h4 h5
   by_cases e:j=k
   ·subst e;exact bD.1 fun h6=>h ⟨h5,h6⟩
   exact h2 j (by omega) (by omega) h5
  intro h2 j h3 h4 h5;exact h2 j (by omega) (by omega) h5
theorem aHg {l:List Mem}:∀(n k:Nat),errS l n k=0↔∀i,k<=i->i<k+n->errR l i l.length 0=0
 | 0,k=>⟨fun _ j h1 h2=>by omega,fun _=>rfl⟩
 | n+1,k=>by
  have ih:=aHg (l:=l) n (k+1)
  unfold errS
  split
  ·rename_i h
   exact ⟨fun h2=>absurd h2 h,fun h2=>h2 k (aM _) (by omega)⟩
  rename_i h
  rw[ih]
  constructor
  ·intro h2 j h3 h4
   by_cases e:j=k
   ·subst e;exact bD.1 h
   exact h2 j (by omega) (by omega)
  intro h2 j h3 h4;exact h2 j (by omega) (by omega)
def qV:Nat->Option SV
 | 1=>some (.clo 118 [] [.lelem [.clo 81 [] []] 0])
 | 2=>some (.clo 82 [] [])
 | 3=>some (.clo 118 [] [.lelem [.clo 82 [] []] 0])
 | 4=>some (.clo 85 [] [])
 | 5=>some (.clo 81 [] [])
 | _=>none
theorem aY3 {a b:Int} (ha:1<=a/\a<=12) (hb:1<=b/\b<=12):findP qKs qVs a b=qV (qK a b):=by
 have h:∀a b:Fin 13,1<=a.val->1<=b.val->findP qKs qVs (a.val:Int) (b.val:Int)=qV (qK (a.val:Int) (b.val:Int)):=by
  intro a b h1 h2
  obtain ⟨a,ha⟩:=a
  obtain ⟨b,hb⟩:=b
  have hA:a=1\/a=2\/a=3\/a=4\/a=5\/a=6\/a=7\/a=8\/a=9\/a=10\/a=11\/a=12:=by dsimp only at h1;omega
  have hB:b=1\/b=2\/b=3\/b=4\/b=5\/b=6\/b=7\/b=8\/b=9\/b=10\/b=11\/b=12:=by dsimp only at h2;omega
  clear h1 h2
  rcases hA with h | h | h | h | h | h | h | h | h | h | h | h<;>subst h<;>(rcases hB with h | h | h | h | h | h | h | h | h | h | h | h)<;>subst h<;>rfl
 obtain ⟨n,rfl⟩:=bM (show 0<=a by omega)
 obtain ⟨m,rfl⟩:=bM (show 0<=b by omega)
 exact h ⟨n,by omega⟩ ⟨m,by omega⟩ (by show 1<=n;omega) (by show 1<=m;omega)
theorem qK_le (a b:Int):qK a b<=5:=by
 unfold qK
 repeat' split
 all_goals omega
theorem zB (i j:Nat):othI i (j+1)=othI i j+1\/(othI i j+1=i/\othI i (j+1)=i+1):=by
 unfold othI
 by_cases h:j+1<i
 ·rw[aD h,aD (by omega)];exact .inl rfl
 by_cases h2:j<i
 ·rw[aC h,aD h2];exact .inr ⟨by omega,by omega⟩
 rw[aC h,aC h2];exact .inl rfl
theorem aC5 (i j:Nat):othI i j≠i:=by unfold othI;split<;>omega
theorem aSj {i j n:Nat} (hi:i<n) (h:j<n-1):othI i j<n:=by unfold othI;split<;>omega
theorem wK {i n:Nat} (hi:i<n):othI i (n-1)=n:=by unfold othI;rw[aC (by omega)];omega
theorem aAq (l:List Mem) (i:Nat):rowR l i (i+1)=rowR l i i:=aC fun h=>h.1 rfl
theorem aC6 (l:List Mem) (i:Nat):iJ l i (i+1)↔iJ l i i:=platP_succ.trans ⟨fun h=>h.resolve_right fun q=>q.1 rfl,.inl⟩
theorem aGa (l:List Mem) {i:Nat} (hi:i<l.length):errR l i (l.length-i) i=errR l i (l.length-(i+1)) (i+1):=aP2 hi fun h=>h.1 rfl
theorem aSk (l:List Mem) (i:Nat):rowR l i (othI i 0)= []:=by
 unfold othI
 split
 ·rfl
 have:i=0:=by omega
 subst this;exact aAq l 0
theorem aQf (l:List Mem) (i:Nat):¬iJ l i (othI i 0):=by
 unfold othI
 split
 ·exact aFd
 have:i=0:=by omega
 subst this;rw[aC6];exact aFd
theorem aSl (l:List Mem) {i:Nat} (hi:i<l.length):errR l i l.length 0=errR l i (l.length-othI i 0) (othI i 0):=by
 unfold othI
 split
 ·rfl
 have:i=0:=by omega
 subst this;exact aGa l hi
theorem aAr {l:List Mem} {i j:Nat} (h:¬rstP (l.getD i mem0) (l.getD (othI i j) mem0)):rowR l i (othI i (j+1))=rowR l i (othI i j):=by
 have e:rowR l i (othI i j+1)=rowR l i (othI i j):=aC fun q=>h q.2
 rcases zB i j with h1 | ⟨h1,h2⟩
 ·rw[h1,e]
 rw[h2,aAq,<- e,h1]
theorem oV {l:List Mem} {i j:Nat} (h:rstP (l.getD i mem0) (l.getD (othI i j) mem0)):rowR l i (othI i (j+1))=rowR l i (othI i j)++ [((i:Int),(othI i j:Int))]:=by
 have e:rowR l i (othI i j+1)=rowR l i (othI i j)++ [((i:Int),(othI i j:Int))]:=aD ⟨aC5 i j,h⟩
 rcases zB i j with h1 | ⟨h1,h2⟩
 ·rw[h1,e]
 rw[h2,aAq,<- e,h1]
theorem plat_next {l:List Mem} {i j:Nat}:iJ l i (othI i (j+1))↔iJ l i (othI i j)\/(rstP (l.getD i mem0) (l.getD (othI i j) mem0)/\(l.getD (othI i j) mem0).1=10):=by
 have e:iJ l i (othI i j+1)↔iJ l i (othI i j)\/(rstP (l.getD i mem0) (l.getD (othI i j) mem0)/\(l.getD (othI i j) mem0).1=10):=
  platP_succ.trans ⟨fun h=>h.imp id fun q=>q.2,fun h=>h.imp id fun q=>⟨aC5 i j,q⟩⟩
 rcases zB i j with h1 | ⟨h1,h2⟩
 ·rw[h1,e]
 rw[h2,aC6,<- e,h1]
theorem iI {l:List Mem} {i j:Nat} (hi:i<l.length) (hj:othI i j<l.length) (h:rstE (l.getD i mem0) (l.getD (othI i j) mem0)=0):errR l i (l.length-othI i j) (othI i j)=errR l i (l.length-othI i (j+1)) (othI i (j+1)):=by
 have e:=aP2 hj (show ¬(othI i j≠i/\rstE (l.getD i mem0) (l.getD (othI i j) mem0)≠0) from fun q=>q.2 h)
 rcases zB i j with h1 | ⟨h1,h2⟩
 ·rw[h1,e]
 rw[h2,e,h1,aGa l hi]
theorem aVu {l:List Mem} {i j:Nat} (hj:othI i j<l.length) (h:¬rstE (l.getD i mem0) (l.getD (othI i j) mem0)=0):errR l i (l.length-othI i j) (othI i j)=rstE (l.getD i mem0) (l.getD (othI i j) mem0):=aUv hj ⟨aC5 i j,h⟩
structure AskP (m n:Mem) (v:SV) (p:Prop) (e:Int):Prop where
 found:findP qKs qVs m.1 n.1=some v
 rest:rstP m n↔p
 err:rstE m n=e
abbrev tRr:Ty:=.pair (.int .i64) (.int .i64)
abbrev agC (m:Mem):List SV:=[I m.1,I m.2.1,I m.2.2.1,S m.2.2.2.1.1,S m.2.2.2.1.2.1,S m.2.2.2.1.2.2,S m.2.2.2.2.1.1,S m.2.2.2.2.1.2.1,S m.2.2.2.2.1.2.2,I m.2.2.2.2.2.1,I m.2.2.2.2.2.2]
theorem aMf {ls:List Lin} {l:List Mem} {i:Nat} (h:walP ls (l.getD i mem0) (iJ l i l.length)):outR ls l (i+1)=(outR ls l i++ [((i:Int),(-1:Int))])++rowR l i l.length:=by
 show (if walP ls (l.getD i mem0) (iJ l i l.length) then outR ls l i++ [((i:Int),(-1:Int))] else outR ls l i)++rowR l i l.length= _
 rw[aD h]
theorem aMg {ls:List Lin} {l:List Mem} {i:Nat} (h:¬walP ls (l.getD i mem0) (iJ l i l.length)):outR ls l (i+1)=outR ls l i++rowR l i l.length:=by
 show (if walP ls (l.getD i mem0) (iJ l i l.length) then outR ls l i++ [((i:Int),(-1:Int))] else outR ls l i)++rowR l i l.length= _
 rw[aC h]
theorem b14e (ls:List Lin) (l:List Mem) (hbad:(512<l.length\/4096<ls.length)\/badL ls\/badM l):body Tryz.prog [aOi,aSg,aOg,aSi,aOj,aOf,aOe,aOd,aR4,aSf] {} true Tryz.f14 [.agg [.any,.any,.any,.seq tLin ls],.seq tMem l] (.tup [.seq tRr (ofR ls l).1,I (ofR ls l).2]):=by
 by_cases h1:512<l.length\/4096<ls.length
 ·have e:ofR ls l=([],4):=aD h1
  rw[e]
  by_cases h2:512<l.length
  ·exact ZRF
  have h3:4096<ls.length:=h1.resolve_left h2
  exact ZRF
 by_cases h2:badL ls
 ·have e:ofR ls l=([],1):=by unfold ofR;rw[aC h1,aD h2]
  rw[e]
  have hq:0<=ixG badX ls:=(rQ badX ls lin0).2 h2
  exact ZRF
 have h3:badM l:=(hbad.resolve_left h1).resolve_left h2
 have e:ofR ls l=([],1):=by unfold ofR;rw[aC h1,aC h2,aD h3]
 rw[e]
 have hq:¬0<=ixG badX ls:=fun q=>h2 ((rQ badX ls lin0).1 q)
 have hq2:0<=ixG badY l:=(rQ badY l mem0).2 h3
 exact ZRF
theorem b14m (ls:List Lin) (l:List Mem) (h1:¬(512<l.length\/4096<ls.length)) (h2:¬badL ls) (h3:¬badM l) (hkey:KeyOK Tryz.prog 86) (hV:ent.entL qVs qVs):body Tryz.prog [aOi,aSg,aOg,aSi,aOj,aOf,aOe,aOd,aR4,aSf] { asks:=[(1,[5]),(3,[9])] } true Tryz.f14 [.agg [.any,.any,.any,.seq tLin ls],.seq tMem l] (.tup [.seq tRr (ofR ls l).1,I (ofR ls l).2]):=by
 have hq:¬0<=ixG badX ls:=fun q=>h2 ((rQ badX ls lin0).1 q)
 have hq2:¬0<=ixG badY l:=fun q=>h3 ((rQ badY l mem0).1 q)
 have hmem:∀j,j<l.length->memE (l.getD j mem0)=0:=fun j hj=>aL fun q=>h3 ⟨j,hj,q⟩
 have hlin:okLs ls:=fun j hj=>aL fun q=>h2 ⟨j,hj,q⟩
 have e:ofR ls l=if errS l l.length 0≠0 then ([],errS l l.length 0) else if 4096<(outR ls l l.length).length then ([],4) else (outR ls l l.length,0):=by unfold ofR;rw[aC h1,aC h2,aC h3]
 (repeat' first|refine ZX ?_|refine Zg fun _=>?_)
 refine Ask.mk ⟨{ X:=Nat,pre:=fun i=>i<=l.length/\errS l l.length 0=errS l (l.length-i) i,mod:=fun i _=>[(7,.ref 5 1),(38,I i)],heap:=fun i _=>[.cells [.any,.any,.any,.seq tLin ls] 29,.vec 1 tRr [] 45,.cells [.ref 1 1] 34,.cells [I 0] 35,.cells [.fmp qKs qVs] 77,.vec 1 tRr (outR ls l i) 45],objs:=[5],mu:=fun i=>l.length-i },rfl,?_⟩
 (repeat refine ZG ?_)
 refine ⟨⟨(0:Nat),⟨aI _,rfl⟩,?_⟩,fun (i:Nat) hi=>?_⟩
 ·(repeat' (first | with_reducible exact hV | ((conv=>whnf);first | exact trivial | (refine aA ?_ ?_))))
  all_goals first | with_reducible rfl | rfl | skip
  all_goals (repeat' first|exact Nat.one_pos)
 obtain ⟨hi,he⟩:=hi
 by_cases hlt:i<l.length
 ·have hpre:0<=(i:Int)/\(i:Int)<l.length:=by omega
  have hmi:=hmem i hlt
  have hl5:l.length<=512:=by omega
  have hol:=aL0 ls l i
  have hol2:i*(l.length+1)<=512*513:=jZ (by omega) (by omega)
  have hol3:(outR ls l i).length<=262656:=bI hol hol2
  have hrl:∀n,(rowR l i n).length<=n:=aFc l i
  (repeat' first|refine ZX ?_|refine Zg fun _=>?_)
  refine Ask.mk ⟨{ X:=Nat,pre:=fun j=>j<=l.length-1/\errR l i l.length 0=errR l i (l.length-othI i j) (othI i j),mod:=fun _ _=>[],heap:=fun j _=>[.cells [.any,.any,.any,.seq tLin ls] 29,.vec 1 tRr [] 45,.cells [.ref 1 1] 34,.cells [I 0] 35,.cells [.fmp qKs qVs] 77,.vec 1 tRr (outR ls l i) 45,.cells [I i] 3,.cells (agC (l.getD i mem0)) 51,.cells [.bl (iJ l i (othI i j)) Cp] 4,.vec 1 tRr (rowR l i (othI i j)) 45,.cells [.ref 9 1] 34],objs:=[9],mu:=fun j=>j },rfl,?_⟩
  (repeat refine ZG ?_)
  refine ⟨⟨(0:Nat),rfl,⟨aI _,aSl l hlt⟩,?_⟩,fun (j:Nat) hj (hjl:j<l.length-1)=>?_,fun (j:Nat) hj (hje:j=l.length-1)=>?_⟩
  ·(repeat' (first | with_reducible exact hV | ((conv=>whnf);first | exact trivial | (refine aA ?_ ?_))))
   all_goals first | with_reducible rfl | rfl | skip
   ·(conv=>whnf)
    exact aQf l i
   ·(conv=>whnf)
    exact Nat.one_pos
   (conv=>whnf)
   exact (aSk l i).symm
  ·have hjo:othI i j<l.length:=aSj hlt hjl
   have hmj:=hmem _ hjo
   have hrl:=hrl (othI i j)
   have hmm:memE ((l.getD i mem0).1,(l.getD i mem0).2.1,(l.getD i mem0).2.2.1,((l.getD i mem0).2.2.2.1.1,(l.getD i mem0).2.2.2.1.2.1,(l.getD i mem0).2.2.2.1.2.2),((l.getD i mem0).2.2.2.2.1.1,(l.getD i mem0).2.2.2.2.1.2.1,(l.getD i mem0).2.2.2.2.1.2.2),(l.getD i mem0).2.2.2.2.2.1,(l.getD i mem0).2.2.2.2.2.2)=0/\memE ((l.getD (othI i j) mem0).1,(l.getD (othI i j) mem0).2.1,(l.getD (othI i j) mem0).2.2.1,((l.getD (othI i j) mem0).2.2.2.1.1,(l.getD (othI i j) mem0).2.2.2.1.2.1,(l.getD (othI i j) mem0).2.2.2.1.2.2),((l.getD (othI i j) mem0).2.2.2.2.1.1,(l.getD (othI i j) mem0).2.2.2.2.1.2.1,(l.getD (othI i j) mem0).2.2.2.2.1.2.2),(l.getD (othI i j) mem0).2.2.2.2.2.1,(l.getD (othI i j) mem0).2.2.2.2.2.2)=0:=⟨hmi,hmj⟩
   obtain ⟨hj1,hj2⟩:=hj
   have hq5:=qK_le (l.getD i mem0).1 (l.getD (othI i j) mem0).1
   have hqe:∃q,qK (l.getD i mem0).1 (l.getD (othI i j) mem0).1=q:=⟨_,rfl⟩
   obtain ⟨q,hq0⟩:=hqe
   rw[hq0] at hq5
   have hff:=aY3 (nS hmi).1 (nS hmj).1
   rw[hq0] at hff
   show hnfL (itO l i j) _
   have hres:∀x,rstE (l.getD i mem0) (l.getD (othI i j) mem0)=x->¬x=0->(ofR ls l).1= []/\(ofR ls l).2=x:=fun x hx h0=>by
    have e1:errR l i l.length 0=x:=by rw[hj2,aVu hjo (by rw[hx];exact h0),hx]
    have e2:errS l l.length 0=x:=by rw[he,aUx hlt (by rw[e1];exact h0),e1]
    rw[e,e2,aD h0];exact ⟨rfl,rfl⟩
   match q,hq5 with
   | 0,_=>
    have hf:findP qKs qVs (l.getD i mem0).1 (l.getD (othI i j) mem0).1=none:=hff
    have hr:¬rstP (l.getD i mem0) (l.getD (othI i j) mem0):=by unfold rstP;rw[hq0];exact id
    have hz:rstE (l.getD i mem0) (l.getD (othI i j) mem0)=0:=by unfold rstE;rw[hq0];rfl
    (repeat' first|refine ZG ?_|refine Zg fun _=>?_)
    refine ⟨(j+1:Nat),rfl,⟨hjl,hj2.trans (iI hlt hjo hz)⟩,?_⟩
    (repeat' (first | with_reducible exact hV | ((conv=>whnf);first | exact trivial | (refine aA ?_ ?_))))
    all_goals first | with_reducible rfl | rfl | skip
    ·(conv=>whnf)
     exact (plat_next.trans ⟨fun h=>h.resolve_right fun q=>hr q.1,.inl⟩).symm
    ·(conv=>whnf)
     exact Nat.one_pos
    (conv=>whnf)
    exact (aAr hr).symm
   | 1,_=>
    have hf:findP qKs qVs (l.getD i mem0).1 (l.getD (othI i j) mem0).1=some (.clo 118 [] [.lelem [.clo 81 [] []] 0]):=hff
    have hR:rstP (l.getD i mem0) (l.getD (othI i j) mem0)↔((l.getD i mem0).2.1=(l.getD (othI i j) mem0).2.1/\crB (l.getD i mem0) (l.getD (othI i j) mem0)):=by unfold rstP;rw[hq0];exact lH
    have hE:rstE (l.getD i mem0) (l.getD (othI i j) mem0)=(if (l.getD i mem0).2.1=(l.getD (othI i j) mem0).2.1 then crE (l.getD i mem0) (l.getD (othI i j) mem0) else 0):=by unfold rstE;rw[hq0];rfl
    (repeat' first|refine ZG ?_|refine Zg fun _=>?_)
    refine ⟨⟨_,hf,?_⟩⟩
    (apply Br.mk<;>intro)
    ·rename_i hb
     obtain ⟨w1,w2⟩:=hres _ hE hb
     (conv=>whnf)
     (repeat' first|exact trivial|rfl|apply aA)
     all_goals (conv=>whnf)
     all_goals first | exact w1 | exact w1.symm | exact w2.symm
    rename_i hb
    have hz:rstE (l.getD i mem0) (l.getD (othI i j) mem0)=0:=hE.trans (bD.1 hb)
    (apply Br.mk<;>intro)
    ·rename_i hb
     have hr:rstP (l.getD i mem0) (l.getD (othI i j) mem0):=hR.2 hb
     (repeat refine ZR ?_)
     (apply Br.mk<;>intro)
     ·rename_i hp
      refine ⟨(j+1:Nat),rfl,⟨hjl,hj2.trans (iI hlt hjo hz)⟩,?_⟩
      (repeat' (first | with_reducible exact hV | ((conv=>whnf);first | exact trivial | (refine aA ?_ ?_))))
      all_goals first | with_reducible rfl | rfl | skip
      ·(conv=>whnf)
       exact plat_next.2 (.inl hp)
      ·(conv=>whnf)
       exact Nat.one_pos
      (conv=>whnf)
      exact (oV hr).symm
     rename_i hp
     refine ⟨(j+1:Nat),rfl,⟨hjl,hj2.trans (iI hlt hjo hz)⟩,?_⟩
     (repeat' (first | with_reducible exact hV | ((conv=>whnf);first | exact trivial | (refine aA ?_ ?_))))
     all_goals first | with_reducible rfl | rfl | skip
     ·(conv=>whnf)
      exact ⟨fun h=>plat_next.2 (.inr ⟨hr,h⟩),fun h=>((plat_next.1 h).resolve_left hp).2⟩
     ·(conv=>whnf)
      exact Nat.one_pos
     (conv=>whnf)
     exact (oV hr).symm
    rename_i hb
    have hr:¬rstP (l.getD i mem0) (l.getD (othI i j) mem0):=fun h=>hb (hR.1 h)
    refine ⟨(j+1:Nat),rfl,⟨hjl,hj2.trans (iI hlt hjo hz)⟩,?_⟩
    (repeat' (first | with_reducible exact hV | ((conv=>whnf);first | exact trivial | (refine aA ?_ ?_))))
    all_goals first | with_reducible rfl | rfl | skip
    ·(conv=>whnf)
     exact (plat_next.trans ⟨fun h=>h.resolve_right fun q=>hr q.1,.inl⟩).symm
    ·(conv=>whnf)
     exact Nat.one_pos
    (conv=>whnf)
    exact (aAr hr).symm
   | 2,_=>
    have hf:findP qKs qVs (l.getD i mem0).1 (l.getD (othI i j) mem0).1=some (.clo 82 [] []):=hff
    have hR:rstP (l.getD i mem0) (l.getD (othI i j) mem0)↔tchP (l.getD i mem0) (l.getD (othI i j) mem0):=by unfold rstP;rw[hq0];exact lH
    have hz:rstE (l.getD i mem0) (l.getD (othI i j) mem0)=0:=by unfold rstE;rw[hq0];rfl
    (repeat' first|refine ZG ?_|refine Zg fun _=>?_)
    refine ⟨⟨_,hf,?_⟩⟩
    (repeat refine ZR ?_)
    (apply Br.mk<;>intro)
    ·rename_i hb
     have hr:rstP (l.getD i mem0) (l.getD (othI i j) mem0):=hR.2 hb
     (repeat refine ZR ?_)
     (apply Br.mk<;>intro)
     ·rename_i hp
      refine ⟨(j+1:Nat),rfl,⟨hjl,hj2.trans (iI hlt hjo hz)⟩,?_⟩
      (repeat' (first | with_reducible exact hV | ((conv=>whnf);first | exact trivial | (refine aA ?_ ?_))))
      all_goals first | with_reducible rfl | rfl | skip
      ·(conv=>whnf)
       exact plat_next.2 (.inl hp)
      ·(conv=>whnf)
       exact Nat.one_pos
      (conv=>whnf)
      exact (oV hr).symm
     rename_i hp
     refine ⟨(j+1:Nat),rfl,⟨hjl,hj2.trans (iI hlt hjo hz)⟩,?_⟩
     (repeat' (first | with_reducible exact hV | ((conv=>whnf);first | exact trivial | (refine aA ?_ ?_))))
     all_goals first | with_reducible rfl | rfl | skip
     ·(conv=>whnf)
      exact ⟨fun h=>plat_next.2 (.inr ⟨hr,h⟩),fun h=>((plat_next.1 h).resolve_left hp).2⟩
     ·(conv=>whnf)
      exact Nat.one_pos
     (conv=>whnf)
     exact (oV hr).symm
    rename_i hb
    have hr:¬rstP (l.getD i mem0) (l.getD (othI i j) mem0):=fun h=>hb (hR.1 h)
    refine ⟨(j+1:Nat),rfl,⟨hjl,hj2.trans (iI hlt hjo hz)⟩,?_⟩
    (repeat' (first | with_reducible exact hV | ((conv=>whnf);first | exact trivial | (refine aA ?_ ?_))))
    all_goals first | with_reducible rfl | rfl | skip
    ·(conv=>whnf)
     exact (plat_next.trans ⟨fun h=>h.resolve_right fun q=>hr q.1,.inl⟩).symm
    ·(conv=>whnf)
     exact Nat.one_pos
    (conv=>whnf)
    exact (aAr hr).symm
   | 3,_=>
    have hf:findP qKs qVs (l.getD i mem0).1 (l.getD (othI i j) mem0).1=some (.clo 118 [] [.lelem [.clo 82 [] []] 0]):=hff
    have hR:rstP (l.getD i mem0) (l.getD (othI i j) mem0)↔((l.getD i mem0).2.1=(l.getD (othI i j) mem0).2.1/\tchP (l.getD i mem0) (l.getD (othI i j) mem0)):=by unfold rstP;rw[hq0];exact lH
    have hz:rstE (l.getD i mem0) (l.getD (othI i j) mem0)=0:=by unfold rstE;rw[hq0];rfl
    (repeat' first|refine ZG ?_|refine Zg fun _=>?_)
    refine ⟨⟨_,hf,?_⟩⟩
    (repeat refine ZR ?_)
    (apply Br.mk<;>intro)
    ·rename_i hb
     have hr:rstP (l.getD i mem0) (l.getD (othI i j) mem0):=hR.2 hb
     (repeat refine ZR ?_)
     (apply Br.mk<;>intro)
     ·rename_i hp
      refine ⟨(j+1:Nat),rfl,⟨hjl,hj2.trans (iI hlt hjo hz)⟩,?_⟩
      (repeat' (first | with_reducible exact hV | ((conv=>whnf);first | exact trivial | (refine aA ?_ ?_))))
      all_goals first | with_reducible rfl | rfl | skip
      ·(conv=>whnf)
       exact plat_next.2 (.inl hp)
      ·(conv=>whnf)
       exact Nat.one_pos
      (conv=>whnf)
      exact (oV hr).symm
     rename_i hp
     refine ⟨(j+1:Nat),rfl,⟨hjl,hj2.trans (iI hlt hjo hz)⟩,?_⟩
     (repeat' (first | with_reducible exact hV | ((conv=>whnf);first | exact trivial | (refine aA ?_ ?_))))
     all_goals first | with_reducible rfl | rfl | skip
     ·(conv=>whnf)
      exact ⟨fun h=>plat_next.2 (.inr ⟨hr,h⟩),fun h=>((plat_next.1 h).resolve_left hp).2⟩
     ·(conv=>whnf)
      exact Nat.one_pos
     (conv=>whnf)
     exact (oV hr).symm
    rename_i hb
    have hr:¬rstP (l.getD i mem0) (l.getD (othI i j) mem0):=fun h=>hb (hR.1 h)
    refine ⟨(j+1:Nat),rfl,⟨hjl,hj2.trans (iI hlt hjo hz)⟩,?_⟩
    (repeat' (first | with_reducible exact hV | ((conv=>whnf);first | exact trivial | (refine aA ?_ ?_))))
    all_goals first | with_reducible rfl | rfl | skip
    ·(conv=>whnf)
     exact (plat_next.trans ⟨fun h=>h.resolve_right fun q=>hr q.1,.inl⟩).symm
    ·(conv=>whnf)
     exact Nat.one_pos
    (conv=>whnf)
    exact (aAr hr).symm
   | 4,_=>
    have hf:findP qKs qVs (l.getD i mem0).1 (l.getD (othI i j) mem0).1=some (.clo 85 [] []):=hff
    have hR:rstP (l.getD i mem0) (l.getD (othI i j) mem0)↔metP (l.getD (othI i j) mem0) (l.getD i mem0).2.2.2.2.1:=by unfold rstP;rw[hq0];exact lH
    have hz:rstE (l.getD i mem0) (l.getD (othI i j) mem0)=0:=by unfold rstE;rw[hq0];rfl
    (repeat' first|refine ZG ?_|refine Zg fun _=>?_)
    refine ⟨⟨_,hf,?_⟩⟩
    (repeat refine ZR ?_)
    (apply Br.mk<;>intro)
    ·rename_i hb
     have hr:rstP (l.getD i mem0) (l.getD (othI i j) mem0):=hR.2 hb
     (repeat refine ZR ?_)
     (apply Br.mk<;>intro)
     ·rename_i hp
      refine ⟨(j+1:Nat),rfl,⟨hjl,hj2.trans (iI hlt hjo hz)⟩,?_⟩
      (repeat' (first | with_reducible exact hV | ((conv=>whnf);first | exact trivial | (refine aA ?_ ?_))))
      all_goals first | with_reducible rfl | rfl | skip
      ·(conv=>whnf)
       exact plat_next.2 (.inl hp)
      ·(conv=>whnf)
       exact Nat.one_pos
      (conv=>whnf)
      exact (oV hr).symm
     rename_i hp
     refine ⟨(j+1:Nat),rfl,⟨hjl,hj2.trans (iI hlt hjo hz)⟩,?_⟩
     (repeat' (first | with_reducible exact hV | ((conv=>whnf);first | exact trivial | (refine aA ?_ ?_))))
     all_goals first | with_reducible rfl | rfl | skip
     ·(conv=>whnf)
      exact ⟨fun h=>plat_next.2 (.inr ⟨hr,h⟩),fun h=>((plat_next.1 h).resolve_left hp).2⟩
     ·(conv=>whnf)
      exact Nat.one_pos
     (conv=>whnf)
     exact (oV hr).symm
    rename_i hb
    have hr:¬rstP (l.getD i mem0) (l.getD (othI i j) mem0):=fun h=>hb (hR.1 h)
    refine ⟨(j+1:Nat),rfl,⟨hjl,hj2.trans (iI hlt hjo hz)⟩,?_⟩
    (repeat' (first | with_reducible exact hV | ((conv=>whnf);first | exact trivial | (refine aA ?_ ?_))))
    all_goals first | with_reducible rfl | rfl | skip
    ·(conv=>whnf)
     exact (plat_next.trans ⟨fun h=>h.resolve_right fun q=>hr q.1,.inl⟩).symm
    ·(conv=>whnf)
     exact Nat.one_pos
    (conv=>whnf)
    exact (aAr hr).symm
   | 5,_=>
    have hf:findP qKs qVs (l.getD i mem0).1 (l.getD (othI i j) mem0).1=some (.clo 81 [] []):=hff
    have hR:rstP (l.getD i mem0) (l.getD (othI i j) mem0)↔crB (l.getD i mem0) (l.getD (othI i j) mem0):=by unfold rstP;rw[hq0];exact lH
    have hE:rstE (l.getD i mem0) (l.getD (othI i j) mem0)=crE (l.getD i mem0) (l.getD (othI i j) mem0):=by unfold rstE;rw[hq0];rfl
    (repeat' first|refine ZG ?_|refine Zg fun _=>?_)
    refine ⟨⟨_,hf,?_⟩⟩
    (apply Br.mk<;>intro)
    ·rename_i hb
     obtain ⟨w1,w2⟩:=hres _ hE hb
     (conv=>whnf)
     (repeat' first|exact trivial|rfl|apply aA)
     all_goals (conv=>whnf)
     all_goals first | exact w1 | exact w1.symm | exact w2.symm
    rename_i hb
    have hz:rstE (l.getD i mem0) (l.getD (othI i j) mem0)=0:=hE.trans (bD.1 hb)
    (apply Br.mk<;>intro)
    ·rename_i hb
     have hr:rstP (l.getD i mem0) (l.getD (othI i j) mem0):=hR.2 hb
     (repeat refine ZR ?_)
     (apply Br.mk<;>intro)
     ·rename_i hp
      refine ⟨(j+1:Nat),rfl,⟨hjl,hj2.trans (iI hlt hjo hz)⟩,?_⟩
      (repeat' (first | with_reducible exact hV | ((conv=>whnf);first | exact trivial | (refine aA ?_ ?_))))
      all_goals first | with_reducible rfl | rfl | skip
      ·(conv=>whnf)
       exact plat_next.2 (.inl hp)
      ·(conv=>whnf)
       exact Nat.one_pos
      (conv=>whnf)
      exact (oV hr).symm
     rename_i hp
     refine ⟨(j+1:Nat),rfl,⟨hjl,hj2.trans (iI hlt hjo hz)⟩,?_⟩
     (repeat' (first | with_reducible exact hV | ((conv=>whnf);first | exact trivial | (refine aA ?_ ?_))))
     all_goals first | with_reducible rfl | rfl | skip
     ·(conv=>whnf)
      exact ⟨fun h=>plat_next.2 (.inr ⟨hr,h⟩),fun h=>((plat_next.1 h).resolve_left hp).2⟩
     ·(conv=>whnf)
      exact Nat.one_pos
     (conv=>whnf)
     exact (oV hr).symm
    rename_i hb
    have hr:¬rstP (l.getD i mem0) (l.getD (othI i j) mem0):=fun h=>hb (hR.1 h)
    refine ⟨(j+1:Nat),rfl,⟨hjl,hj2.trans (iI hlt hjo hz)⟩,?_⟩
    (repeat' (first | with_reducible exact hV | ((conv=>whnf);first | exact trivial | (refine aA ?_ ?_))))
    all_goals first | with_reducible rfl | rfl | skip
    ·(conv=>whnf)
     exact (plat_next.trans ⟨fun h=>h.resolve_right fun q=>hr q.1,.inl⟩).symm
    ·(conv=>whnf)
     exact Nat.one_pos
    (conv=>whnf)
    exact (aAr hr).symm
   | q+6,h=>exact absurd h (by omega)
  subst hje
  obtain ⟨_,hj2⟩:=hj
  rw[wK hlt,aUw] at hj2
  have hrl:(rowR l i (othI i (l.length-1))).length<=512:=by have:=hrl (othI i (l.length-1));rw[wK hlt] at this ⊢;omega
  have he2:=he.trans (aWx hlt hj2)
  have hwl:okLs ls/\okS ((l.getD i mem0).2.2.2.1.1,(l.getD i mem0).2.2.2.1.2.1,(l.getD i mem0).2.2.2.1.2.2)/\okS ((l.getD i mem0).2.2.2.2.1.1,(l.getD i mem0).2.2.2.2.1.2.1,(l.getD i mem0).2.2.2.2.1.2.2):=⟨hlin,(nS hmi).2.1,(nS hmi).2.2.1⟩
  (repeat refine ZX ?_)
  (apply Br.mk<;>intro)
  ·rename_i hw
   rw[wK hlt] at hw
   have hw:walP ls (l.getD i mem0) (iJ l i l.length):=hw
   (repeat refine ZR ?_)
   refine ⟨(i+1:Nat),by show l.length-(i+1)<l.length-i;omega,⟨hlt,he2⟩,?_⟩
   (repeat' (first | with_reducible exact hV | ((conv=>whnf);first | exact trivial | (refine aA ?_ ?_))))
   all_goals first | with_reducible rfl | rfl | skip
   ·(conv=>whnf)
    exact Nat.one_pos
   (conv=>whnf)
   rw[wK hlt]
   exact (aMf hw).symm
  rename_i hw
  rw[wK hlt] at hw
  have hw:¬walP ls (l.getD i mem0) (iJ l i l.length):=hw
  (repeat refine ZX ?_)
  refine ⟨(i+1:Nat),by show l.length-(i+1)<l.length-i;omega,⟨hlt,he2⟩,?_⟩
  (repeat' (first | with_reducible exact hV | ((conv=>whnf);first | exact trivial | (refine aA ?_ ?_))))
  all_goals first | with_reducible rfl | rfl | skip
  ·(conv=>whnf)
   exact Nat.one_pos
  (conv=>whnf)
  rw[wK hlt]
  exact (aMg hw).symm
 have hil:i=l.length:=by omega
 subst hil
 have e2:errS l l.length 0=0:=he.trans aUy
 by_cases hlen:4096<(outR ls l l.length).length
 ·have w1:(ofR ls l).1= []:=by rw[e,e2,aC (dC rfl),aD hlen]
  have w2:(ofR ls l).2=4:=by rw[e,e2,aC (dC rfl),aD hlen]
  (repeat' first|refine ZR ?_|refine Zg fun _=>?_)
  (conv=>whnf)
  (repeat' first|exact trivial|rfl|apply aA)
  all_goals (conv=>whnf)
  all_goals first | exact w1 | exact w1.symm | exact w2.symm
 have w1:(ofR ls l).1=outR ls l l.length:=by rw[e,e2,aC (dC rfl),aC hlen]
 have w2:(ofR ls l).2=0:=by rw[e,e2,aC (dC rfl),aC hlen]
 (repeat' first|refine ZR ?_|refine Zg fun _=>?_)
 (conv=>whnf)
 (repeat' first|exact trivial|rfl|apply aA)
 all_goals (conv=>whnf)
 all_goals first | exact w1 | exact w1.symm | exact w2.symm
end RB
end
section
open Go Go.Proofs Go.Eng Go.Shelf
namespace EB
noncomputable def itC (on:List (List Int)) (c:Int):Nat->Int
 | 0=>c
 | k+1=>bestOf (distL on c) (on.getD (itC on c k).toNat [])
theorem aUt {on:List (List Int)} {n c i:Int} (hn:Rows2 on n) (h:0<=bestOf (distL on c) (on.getD i.toNat [])):Edge on i (bestOf (distL on c) (on.getD i.toNat [])):=by
 rcases bestOf_spec (distL on c) (on.getD i.toNat []) (fun k hk=>(hn.2 i k hk).1) with ⟨h1,_⟩ | ⟨h1,_⟩
 ·omega
 exact h1
theorem it_near {on:List (List Int)} {n c:Int} (hn:Rows2 on n) (hc:0<=c/\c<n) (hw:Way on c c):∀k,(0<=itC on c k/\itC on c k<n)/\(itC on c k=c/\Way on c c\/¬itC on c k=c/\0<=dist1 on c (itC on c k))
 | 0=>⟨hc,.inl ⟨rfl,hw⟩⟩
 | k+1=>by
  obtain ⟨h1,h2⟩:=it_near hn hc hw k
  obtain ⟨g1,g2,g3⟩:=aGg hn hc h1 h2
  refine ⟨g1,?_⟩
  by_cases e:itC on c (k+1)=c
  ·exact .inl ⟨e,hw⟩
  exact .inr ⟨e,g2⟩
theorem it_edge {on:List (List Int)} {n c:Int} (hn:Rows2 on n) (hc:0<=c/\c<n) (hw:Way on c c) (k:Nat):Edge on (itC on c k) (itC on c (k+1)):=
 aUt hn (it_near hn hc hw (k+1)).1.1
theorem it_less {on:List (List Int)} {n c:Int} (hn:Rows2 on n) (hc:0<=c/\c<n) (hw:Way on c c) (k:Nat) (h:¬itC on c k=c):dist1 on c (itC on c (k+1))<dist1 on c (itC on c k):=by
 obtain ⟨h1,h2⟩:=it_near hn hc hw k
 exact (aGg hn hc h1 h2).2.2 h
theorem aP1 {on:List (List Int)} {n c:Int} (hn:Rows2 on n) (hc:0<=c/\c<n) (hw:Way on c c) {a:Nat}:∀b,(∀j,a<=j->j<a+b+1->¬itC on c j=c)->dist1 on c (itC on c (a+b+1))<dist1 on c (itC on c a)
 | 0,h=>it_less hn hc hw a (h a (aM _) (by omega))
 | b+1,h=>by
  have h1:=aP1 hn hc hw b fun j h2 h3=>h j h2 (by omega)
  have h2:=it_less hn hc hw (a+b+1) (h _ (by omega) (by omega))
  exact Int.lt_trans h2 h1
open Classical in
noncomputable def cycK (on:List (List Int)) (c:Int):Nat:=if h:∃K,Least (fun k=>1<=k/\itC on c k=c) K then Classical.choose h else 0
theorem aWu {on:List (List Int)} {c:Int} {K:Nat} (h:Least (fun k=>1<=k/\itC on c k=c) K):cycK on c=K:=by
 have hex:∃K,Least (fun k=>1<=k/\itC on c k=c) K:=⟨K,h⟩
 unfold cycK
 rw[dif_pos hex]
 exact tM (Classical.choose_spec hex) h
noncomputable def itL (on:List (List Int)) (c:Int) (k:Nat):List Int:=(List.range k).map (itC on c)
theorem itL_succ (on:List (List Int)) (c:Int) (k:Nat):itL on c k++ [itC on c k]=itL on c (k+1):=by simp[itL,List.range_succ]
theorem itL_len (on:List (List Int)) (c:Int) (k:Nat):(itL on c k).length=k:=by simp[itL]
theorem itL_get (on:List (List Int)) (c:Int) {k j:Nat} (h:j<k):(itL on c k).getD j 0=itC on c j:=by simp[itL,aB,h]
theorem it_back {on:List (List Int)} {n c:Int} (hn:Rows2 on n) (hc:0<=c/\c<n) (hw:Way on c c):∃K,Least (fun k=>1<=k/\itC on c k=c) K:=by
 apply aL
 intro hno
 have hne:∀j,1<=j->¬itC on c j=c:=fun j h1 h2=>hno (sL (p:=fun k=>1<=k/\itC on c k=c) (m:=j) ⟨h1,h2⟩)
 have key:∀b:Nat,dist1 on c (itC on c (1+b))+b<=dist1 on c (itC on c 1):=by
  intro b
  induction b with
  | zero=>simp
  | succ b ih=>
   have:=it_less hn hc hw (1+b) (hne _ (by omega))
   have e:1+(b+1)=1+b+1:=by omega
   rw[e];omega
 have h1:=key (dist1 on c (itC on c 1)+1).toNat
 rcases (it_near hn hc hw (1+(dist1 on c (itC on c 1)+1).toNat)).2 with ⟨h2,_⟩ | ⟨_,h2⟩
 ·exact hne _ (by omega) h2
 rcases (it_near hn hc hw 1).2 with ⟨h3,_⟩ | ⟨_,h3⟩
 ·exact hne 1 (aM _) h3
 omega
theorem it_diff {on:List (List Int)} {n c:Int} (hn:Rows2 on n) (hc:0<=c/\c<n) (hw:Way on c c) {K:Nat} (hK:Least (fun k=>1<=k/\itC on c k=c) K) {a b:Nat} (hab:a<b) (hb:b<K):¬itC on c a=itC on c b:=by
 have hne:∀j,1<=j->j<K->¬itC on c j=c:=fun j h1 h2 h3=>hK.2 j h2 ⟨h1,h3⟩
 intro e
 by_cases ha:a=0
 ·subst ha
  exact hne b (by omega) hb e.symm
 obtain ⟨d,rfl⟩:∃d,b=a+d+1:=⟨b-a-1,by omega⟩
 have:=aP1 hn hc hw (a:=a) d fun j h1 h2=>hne j (by omega) (by omega)
 rw[e] at this
 omega
open Classical in
noncomputable def cyc0 (on:List (List Int)):Int:=if h:∃m:Nat,Least (fun k:Nat=>k<on.length/\Way on k k) m then (Classical.choose h:Nat) else -1
theorem aWv {on:List (List Int)} {m:Nat} (h:Least (fun k:Nat=>k<on.length/\Way on k k) m):cyc0 on=m:=by
 have hex:∃m:Nat,Least (fun k:Nat=>k<on.length/\Way on k k) m:=⟨m,h⟩
 unfold cyc0
 rw[dif_pos hex,tM (Classical.choose_spec hex) h]
theorem cyc0_ex {on:List (List Int)} {n:Int} (hn:Rows2 on n) (h:Loops on n):∃m:Nat,Least (fun k:Nat=>k<on.length/\Way on k k) m:=by
 obtain ⟨i,hi,hw⟩:=h
 exact sL (p:=fun k:Nat=>k<on.length/\Way on k k) (m:=i.toNat) ⟨by have:=hn.1;omega,by rw[aX hi.1];exact hw⟩
open Classical in
noncomputable def cycR (n:Int) (l:List (Int × Int)):List Int:=if cycP n l then itL (onL n l) (cyc0 (onL n l)) (cycK (onL n l) (cyc0 (onL n l))) else []
theorem cycR_no {n:Int} {l:List (Int × Int)} (h:¬cycP n l):cycR n l= []:=aC h
theorem cycR_yes {n:Int} {l:List (Int × Int)} (h:cycP n l) {i K:Nat} (hi:Least (fun k:Nat=>k<(onL n l).length/\Way (onL n l) k k) i) (hK:Least (fun k=>1<=k/\itC (onL n l) i k=i) K):cycR n l=itL (onL n l) i K:=by
 unfold cycR
 rw[aD h,aWv hi,aWu hK]
structure BI (on:List (List Int)) (n i:Int) (k:Nat) (x:List Bool × List Int):Prop where
 len:x.1.length=on.length
 pos:0<x.2.length
 td0:x.2.getD 0 0=i
 rng:∀q,q<x.2.length->0<=x.2.getD q 0/\x.2.getD q 0<n
 mrk:∀v:Nat,x.1.getD v false=true->Way on i v/\(v:Int)∈x.2.drop 1
 tdm:∀v∈x.2.drop 1,x.1.getD v.toNat false=true
 nd:(x.2.drop 1).Nodup
 dn:∀q,q<k->∀v,Edge on (x.2.getD q 0) v->x.1.getD v.toNat false=true
theorem BI.size {on:List (List Int)} {n i:Int} (hn:Rows2 on n) {k:Nat} {x:List Bool × List Int} (h:BI on n i k x):x.2.length<=n.toNat+1:=by
 have:=aAx (n:=n) (by have:=hn.1;omega) h.nd fun v hv=>by
  obtain ⟨q,hq,rfl⟩:=bV (pO hv)
  have:=h.rng q hq
  rw[aB,aH hq] at this
  exact this
 rw[dR] at this
 omega
theorem bi_zero {on:List (List Int)} {n i:Int} (hn:Rows2 on n) (hi:0<=i/\i<n):BI on n i 0 (List.replicate on.length false,[i]):=by
 have hg:∀k,(List.replicate on.length false).getD k false=false:=fun k=>by
  rw[aB,bR];split<;>rfl
 refine ⟨by simp,by simp,rfl,fun q hq=>?_,fun v hv=>?_,fun v hv=>?_,by simp,fun q hq=>absurd hq (bG _)⟩
 ·have:q=0:=by simpa using hq
  subst this;exact hi
 ·rw[hg] at hv;cases hv
 simp at hv
theorem BI.turn {on:List (List Int)} {n i:Int} (hn:Rows2 on n) {k:Nat} {x:List Bool × List Int} (h:BI on n i k x) {v:Int} (hk:k<x.2.length) (he:Edge on (x.2.getD k 0) v) (hv:¬x.1.getD v.toNat false=true):BI on n i k (x.1.set v.toNat true,x.2++ [v]):=by
 have hvn:=hn.2 _ _ he
 have hl:v.toNat<x.1.length:=by rw[h.len];have:=hn.1;omega
 have hs:∀q,(x.1.set v.toNat true).getD q false=if q=v.toNat then true else x.1.getD q false:=fun q=>by
  rw[set_getD]
  by_cases e:q=v.toNat
  ·rw[aD ⟨e,by rw[e];exact hl⟩,aD e]
  rw[aC fun h=>e h.1,aC e]
 have hp:=h.pos
 have hd:(x.2++ [v]).drop 1=x.2.drop 1++ [v]:=by rw[kJ (by omega)]
 have hq:∀q,q<x.2.length->(x.2++ [v]).getD q 0=x.2.getD q 0:=fun q hq=>by
  rw[aB,aB,bF hq]
 have hw:Way on i v:=by
  by_cases e:k=0
  ·subst e;rw[h.td0] at he;exact .one _ _ he
  have hm:x.2.getD k 0∈x.2.drop 1:=by
   rw[aB,aH hk]
   refine List.mem_iff_getElem.2 ⟨k-1,by rw[dR];omega,?_⟩
   rw[sC]
   congr 1
   omega
  have h1:=h.tdm _ hm
  have h2:=(h.mrk _ h1).1
  rw[aX (h.rng k hk).1] at h2
  exact h2.snoc he
 refine ⟨by rw[cV];exact h.len,by simp,by rw[hq 0 hp];exact h.td0,fun q hq'=>?_,fun u hu=>?_,fun u hu=>?_,?_,fun q hqk u hu=>?_⟩
 ·by_cases e:q<x.2.length
  ·rw[hq q e];exact h.rng q e
  have:q=x.2.length:=by simp at hq';omega
  subst this
  rw[aB,bX (aM _)]
  simpa using hvn
 ·rw[hd]
  rw[hs] at hu
  by_cases e:u=v.toNat
  ·have e2:(u:Int)=v:=by omega
   rw[e2]
   exact ⟨hw,bK.2 (.inr (bC.2 rfl))⟩
  rw[aC e] at hu
  obtain ⟨h1,h2⟩:=h.mrk u hu
  exact ⟨h1,bK.2 (.inl h2)⟩
 ·rw[hd] at hu
  rw[hs]
  rcases bK.1 hu with hu | hu
  ·have:=h.tdm u hu
   split
   ·rfl
   exact this
  rw[bC.1 hu,aD rfl]
 ·rw[hd,List.nodup_append]
  refine ⟨h.nd,by simp,fun a ha b hb e=>?_⟩
  rw[bC.1 hb] at e
  subst e
  exact hv (h.tdm a ha)
 have hqq:q<x.2.length:=by omega
 rw[hq q hqq] at hu
 have:=h.dn q hqk u hu
 rw[hs]
 split
 ·rfl
 exact this
theorem BI.next {on:List (List Int)} {n i:Int} {k:Nat} {x:List Bool × List Int} (h:BI on n i k x) (hd:∀v,Edge on (x.2.getD k 0) v->x.1.getD v.toNat false=true):BI on n i (k+1) x:=
 ⟨h.len,h.pos,h.td0,h.rng,h.mrk,h.tdm,h.nd,fun q hq v hv=>by
  by_cases e:q=k
  ·subst e;exact hd v hv
  exact h.dn q (by omega) v hv⟩
theorem bi_end {on:List (List Int)} {n i:Int} (hn:Rows2 on n) {x:List Bool × List Int} (h:BI on n i x.2.length x):x.1=reachL on i:=by
 have hd:∀u k:Int,Way on u k->(∀k,Edge on u k->x.1.getD k.toNat false=true)->x.1.getD k.toNat false=true:=by
  intro u k hw
  induction hw with
  | one u v he=>intro hu;exact hu v he
  | more u v w he _ ih=>
   intro hu
   refine ih fun k hk=>?_
   have h1:=hu v he
   have hv:=hn.2 u v he
   obtain ⟨_,h2⟩:=h.mrk _ h1
   rw[aX hv.1] at h2
   obtain ⟨q,hq,e⟩:=bV (pO h2)
   refine h.dn q hq k ?_
   rw[aB,aH hq]
   simp only[kC]
   rw[e];exact hk
 apply eD
 ·rw[h.len];simp[reachL]
 intro k h1 h2
 simp only[reachL,List.getElem_map,List.getElem_range]
 have e:x.1[k]=x.1.getD k false:=by simp[aB,h1]
 rw[e,jI,wayB_iff]
 constructor
 ·exact fun hk=>(h.mrk k hk).1
 intro hw
 have:=hd i k hw fun q hq=>h.dn 0 h.pos q (by rw[h.td0];exact hq)
 simpa using this
def LV (on:List (List Int)) (tg:Int) (d:Int) (out:List Int):Prop:=out.length=on.length/\∀u:Nat,u<on.length->(0<=dist1 on tg u/\dist1 on tg u<=d->out.getD u 0=dist1 on tg u)/\(¬(0<=dist1 on tg u/\dist1 on tg u<=d)->out.getD u 0= -1)
def LM (on:List (List Int)) (tg:Int) (d:Int) (done:Int->Int->Prop) (out:List Int):Prop:=out.length=on.length/\∀u:Nat,u<on.length->(0<=dist1 on tg u/\dist1 on tg u<=d->out.getD u 0=dist1 on tg u)/\(¬(0<=dist1 on tg u/\dist1 on tg u<=d)->(out.getD u 0= -1/\∀v,done u v->¬dist1 on tg v=d)\/(out.getD u 0=d+1/\dist1 on tg u=d+1))
theorem LV.start {on:List (List Int)} {tg d:Int} {out:List Int} (h:LV on tg d out):LM on tg d (fun _ _=>False) out:=
 ⟨h.1,fun u hu=>⟨(h.2 u hu).1,fun h1=>.inl ⟨(h.2 u hu).2 h1,fun _ h=>h.elim⟩⟩⟩
theorem LM.is {on:List (List Int)} {n tg d:Int} (hn:Rows2 on n) (hd:0<=d) {done:Int->Int->Prop} {out:List Int} (h:LM on tg d done out) {v:Int} (hv:0<=v/\v<n):out.getD v.toNat 0=d↔dist1 on tg v=d:=by
 have h1:=h.2 v.toNat (by have:=hn.1;omega)
 rw[aX hv.1] at h1
 by_cases hc:0<=dist1 on tg v/\dist1 on tg v<=d
 ·rw[h1.1 hc]
 rcases h1.2 hc with ⟨e,_⟩ | ⟨e,_⟩<;>rw[e]<;>constructor<;>intro<;>omega
theorem aRf {on:List (List Int)} {tg u v:Int} (he:Edge on u v) (h:0<=dist1 on tg v):0<=dist1 on tg u/\dist1 on tg u<=dist1 on tg v+1:=by
 rcases sM (on:=on) tg v with h1 | ⟨d,h1,hw⟩
 ·omega
 obtain ⟨e,h2,_,h3⟩:=aDd (WayN.cons d u v tg he hw)
 omega
theorem aRg {on:List (List Int)} {tg u:Int} {d:Int} (hd:0<=d) (h:dist1 on tg u=d+1):∃v,Edge on u v/\dist1 on tg v=d:=by
 rcases sM (on:=on) tg u with h1 | ⟨e,h1,hw⟩
 ·omega
 obtain ⟨q,hq⟩:=sL (p:=fun m=>WayN on m u tg) hw
 have e2:=dist1_eq hq
 obtain ⟨k,rfl⟩:∃k,q=k+1:=⟨q-1,by omega⟩
 obtain ⟨v,he,hv⟩:=yG hq
 exact ⟨v,he,by rw[dist1_eq hv];omega⟩
theorem LM.turn {on:List (List Int)} {n tg d:Int} (hn:Rows2 on n) (hd:0<=d) {done:Int->Int->Prop} {out:List Int} (h:LM on tg d done out) {u v:Int} (hu:0<=u/\u<n) (he:Edge on u v) (h1:out.getD v.toNat 0=d) (h2:out.getD u.toNat 0<0):
  LM on tg d (fun a b=>done a b\/a=u/\b=v) (out.set u.toNat (d+1)):=by
 have hv:=hn.2 u v he
 have hl:u.toNat<out.length:=by rw[h.1];have:=hn.1;omega
 have hs:∀q,(out.set u.toNat (d+1)).getD q 0=if q=u.toNat then d+1 else out.getD q 0:=fun q=>by
  rw[set_getD]
  by_cases e:q=u.toNat
  ·rw[aD ⟨e,by rw[e];exact hl⟩,aD e]
  rw[aC fun h=>e h.1,aC e]
 have dv:=(h.is hn hd hv).1 h1
 have hu2:=h.2 u.toNat (by have:=hn.1;omega)
 rw[aX hu.1] at hu2
 have hnot:¬(0<=dist1 on tg u/\dist1 on tg u<=d):=fun hc=>by
  have:=hu2.1 hc;omega
 have hde:=aRf he (tg:=tg) (by omega)
 refine ⟨by rw[cV];exact h.1,fun q hq=>?_⟩
 rw[hs]
 by_cases e:q=u.toNat
 ·rw[aD e,e,aX hu.1]
  exact ⟨fun hc=>absurd hc hnot,fun _=>.inr ⟨rfl,by omega⟩⟩
 rw[aC e]
 refine ⟨(h.2 q hq).1,fun hc=>?_⟩
 rcases (h.2 q hq).2 hc with ⟨e1,e2⟩ | h3
 ·refine .inl ⟨e1,fun w hw=>?_⟩
  rcases hw with hw | ⟨ha,_⟩
  ·exact e2 w hw
  omega
 exact .inr h3
theorem LM.skip {on:List (List Int)} {n tg d:Int} (hn:Rows2 on n) (hd:0<=d) {done:Int->Int->Prop} {out:List Int} (h:LM on tg d done out) {u v:Int} (hu:0<=u/\u<n) (he:Edge on u v) (hc:¬(out.getD v.toNat 0=d/\out.getD u.toNat 0<0)):
  LM on tg d (fun a b=>done a b\/a=u/\b=v) out:=by
 have hv:=hn.2 u v he
 have dv:=h.is hn hd hv
 refine ⟨h.1,fun q hq=>⟨(h.2 q hq).1,fun hc2=>?_⟩⟩
 rcases (h.2 q hq).2 hc2 with ⟨e1,e2⟩ | h3
 ·refine .inl ⟨e1,fun w hw=>?_⟩
  rcases hw with hw | ⟨ha,rfl⟩
  ·exact e2 w hw
  intro hdw
  refine hc ⟨dv.2 hdw,?_⟩
  rw[show u.toNat=q by omega,e1];omega
 exact .inr h3
theorem LM.next {on:List (List Int)} {tg d:Int} (hd:0<=d) {done:Int->Int->Prop} {out:List Int} (h:LM on tg d done out) (hall:∀u v,0<=u->Edge on u v->done u v):LV on tg (d+1) out:=by
 refine ⟨h.1,fun u hu=>?_⟩
 obtain ⟨h1,h2⟩:=h.2 u hu
 by_cases hc:0<=dist1 on tg u/\dist1 on tg u<=d
 ·exact ⟨fun _=>h1 hc,fun h3=>absurd ⟨hc.1,by omega⟩ h3⟩
 rcases h2 hc with ⟨e1,e2⟩ | ⟨e1,e2⟩
 ·refine ⟨fun h3=>?_,fun _=>e1⟩
  exfalso
  obtain ⟨v,he,hv⟩:=aRg (on:=on) (tg:=tg) (u:=u) hd (by omega)
  exact e2 v (hall u v (by omega) he) hv
 exact ⟨fun _=>by rw[e1,e2],fun h3=>absurd ⟨by omega,by omega⟩ h3⟩
theorem lv_zero {on:List (List Int)} {n tg:Int} (hn:Rows2 on n) (ht:0<=tg/\tg<n):LV on tg 0 ((List.replicate on.length (-1:Int)).set tg.toNat 0):=by
 have hl:tg.toNat<(List.replicate on.length (-1:Int)).length:=by rw[cC];have:=hn.1;omega
 have hs:∀q,q<on.length->((List.replicate on.length (-1:Int)).set tg.toNat 0).getD q 0=if q=tg.toNat then 0 else -1:=fun q hq=>by
  rw[set_getD]
  by_cases e:q=tg.toNat
  ·rw[aD ⟨e,by rw[e];exact hl⟩,aD e]
  rw[aC fun h=>e h.1,aC e]
  simp[aB,hq]
 have h0:dist1 on tg tg=0:=dist1_eq (m:=0) ⟨.nil _,fun q hq=>absurd hq (bG _)⟩
 refine ⟨by simp,fun u hu=>?_⟩
 rw[hs u hu]
 by_cases e:u=tg.toNat
 ·have e2:(u:Int)=tg:=by omega
  rw[aD e,e2,h0]
  exact ⟨fun _=>rfl,fun h=>absurd ⟨gT _,gT _⟩ h⟩
 rw[aC e]
 refine ⟨fun h=>?_,fun _=>rfl⟩
 rcases sM (on:=on) tg u with h1 | ⟨d,h1,hw⟩
 ·omega
 have:d=0:=by omega
 subst this
 cases hw
 omega
theorem lv_end {on:List (List Int)} {n tg:Int} (hn:Rows2 on n) {out:List Int} (h:LV on tg n out):out=distL on tg:=by
 apply eD
 ·rw[h.1];simp[distL]
 intro k h1 h2
 have hk:k<on.length:=by rw[<- h.1];exact h1
 simp only[distL,List.getElem_map,List.getElem_range]
 have e:out[k]=out.getD k 0:=by simp[aB,h1]
 have h3:=dist_le (on:=on) (tg:=tg) (k:=k) hn (by have:=hn.1;omega)
 obtain ⟨g1,g2⟩:=h.2 k hk
 rw[e]
 rcases sM (on:=on) tg k with h4 | ⟨d,h4,_⟩
 ·rw[h4];exact g2 (by omega)
 exact g1 (by omega)
end EB
end
section
open Go Go.Proofs Go.Eng Go.Shelf
namespace EB
def Asc (l:List Int):Prop:=l.Pairwise (· < ·)
theorem aLx:∀ {a b:List Int},Asc a->Asc b->(∀x,x∈a↔x∈b)->a=b
 | [],[],_,_,_=>rfl
 | [],y::s,_,_,h=>absurd ((h y).2 bO) (by simp)
 | x::r,[],_,_,h=>absurd ((h x).1 bO) (by simp)
 | x::r,y::s,h1,h2,h=>by
  obtain ⟨p1,p2⟩:=dY.1 h1
  obtain ⟨q1,q2⟩:=dY.1 h2
  have e:x=y:=by
   rcases bE.1 ((h x).1 bO) with e | e
   ·exact e
   rcases bE.1 ((h y).2 bO) with e2 | e2
   ·exact e2.symm
   have:=q1 x e;have:=p1 y e2;omega
  subst e
  congr 1
  refine aLx p2 q2 fun z=>?_
  have hz:=h z
  simp only[bE] at hz
  constructor
  ·intro hm
   rcases hz.1 (.inr hm) with e | e
   ·subst e;exact absurd (p1 z hm) (by omega)
   exact e
  intro hm
  rcases hz.2 (.inr hm) with e | e
  ·subst e;exact absurd (q1 z hm) (by omega)
  exact e
def markL (p:Nat->Bool) (n:Nat):List Int:=((List.range n).filter p).map fun i:Nat=>(i:Int)
theorem markL_succ (p:Nat->Bool) (n:Nat):markL p (n+1)=if p n=true then markL p n++ [(n:Int)] else markL p n:=by
 unfold markL
 rw[List.range_succ,List.filter_append,iF]
 cases h:p n<;>simp[h]
theorem markL_len (p:Nat->Bool) (n:Nat):(markL p n).length<=n:=by
 unfold markL
 rw[pQ]
 exact bI (List.length_filter_le _ _) (by simp)
theorem aRh (p:Nat->Bool) (n:Nat) (x:Int):x∈markL p n↔0<=x/\x.toNat<n/\p x.toNat=true:=by
 unfold markL
 simp only[jN,fL,gU]
 constructor
 ·rintro ⟨i,⟨h1,h2⟩,rfl⟩;exact ⟨by omega,by rw[aP];exact h1,by rw[aP];exact h2⟩
 rintro ⟨h0,h1,h2⟩;exact ⟨x.toNat,⟨h1,h2⟩,by omega⟩
theorem aRi (p:Nat->Bool) (n:Nat):Asc (markL p n):=by
 unfold markL Asc
 rw[jP]
 exact (List.pairwise_lt_range.filter p).imp fun h=>by omega
def cptI:List Int->List Int
 | []=>[]
 | [x]=>[x]
 | x::y::r=>if x=y then cptI (y::r) else x::cptI (y::r)
theorem cptI_two (x y:Int) (r:List Int):cptI (x::y::r)=if x=y then cptI (y::r) else x::cptI (y::r):=by rw[cptI]
theorem aFb:∀(l:List Int) (z:Int),z∈cptI l↔z∈l
 | [],z=>lH
 | [x],z=>lH
 | x::y::r,z=>by
  have ih:=aFb (y::r) z
  rw[cptI_two]
  by_cases h:x=y
  ·rw[aD h,ih,h];simp
  rw[aC h,bE,ih,bE (a:=z) (b:=x)]
theorem aLy:∀ {l:List Int},l.Pairwise (· <= ·)->Asc (cptI l)
 | [],_=>List.Pairwise.nil
 | [x],_=>kD _ _
 | x::y::r,h=>by
  obtain ⟨h1,h2⟩:=dY.1 h
  have ih:=aLy h2
  rw[cptI_two]
  by_cases e:x=y
  ·rw[aD e];exact ih
  rw[aC e]
  refine dY.2 ⟨fun z hz=>?_,ih⟩
  rw[aFb] at hz
  have hy:=h1 y bO
  rcases bE.1 hz with rfl | hz
  ·omega
  have:=(dY.1 h2).1 z hz;omega
noncomputable def belL (on:List (List Int)) (i:Int):List Int:=markL (fun k=>wayB on i k) on.length
theorem belL_mem {on:List (List Int)} {n i:Int} (hn:Rows2 on n) (x:Int):x∈belL on i↔Way on i x:=by
 unfold belL
 rw[aRh]
 constructor
 ·rintro ⟨h0,h1,h2⟩
  rw[wayB_iff,aX h0] at h2;exact h2
 intro h
 have hx:0<=x/\x<n:=by
  induction h with
  | one u v he=>exact hn.2 u v he
  | more u v w he _ ih=>exact ih
 refine ⟨hx.1,by have:=hn.1;omega,?_⟩
 rw[wayB_iff,aX hx.1];exact h
noncomputable def belR (n:Int) (l:List (Int × Int)) (i:Int):List Int:=if supE n l=0/\0<=i/\i<n then belL (onL n l) i else []
def belE (n:Int) (l:List (Int × Int)) (i:Int):Int:=if supE n l=0 then if 0<=i/\i<n then 0 else 6 else 1
noncomputable def wantL (n:Int) (l:List (Int × Int)) (k:Int):Nat->List Int
 | 0=>[]
 | j+1=>if (l.getD j (0,0)).1=k/\0<=(l.getD j (0,0)).2 then (wantL n l k j++ [(l.getD j (0,0)).2])++belR n l (l.getD j (0,0)).2 else wantL n l k j
theorem aHd {n:Int} {l:List (Int × Int)} (h:supE n l=0) (k:Int) (x:Int):∀j,j<=l.length->(x∈wantL n l k j↔∃q,q<j/\(l.getD q (0,0)).1=k/\0<=(l.getD q (0,0)).2/\(x=(l.getD q (0,0)).2\/Way (onL n l) (l.getD q (0,0)).2 x))
 | 0,_=>⟨fun h=>(by cases h),fun ⟨q,h,_⟩=>absurd h (bG _)⟩
 | j+1,hj=>by
  have hro:=supE_rests h
  have hn:=onL_rows hro
  have ih:=aHd h k x j (by omega)
  have hr:=hro.2.2.2 j (by omega)
  unfold wantL
  by_cases hc:(l.getD j (0,0)).1=k/\0<=(l.getD j (0,0)).2
  ·rw[aD hc,bK,bK,bC,ih]
   have e:belR n l (l.getD j (0,0)).2=belL (onL n l) (l.getD j (0,0)).2:=aD ⟨h,hc.2,by omega⟩
   rw[e,belL_mem hn]
   constructor
   ·rintro ((⟨q,h1,h2⟩ | h1) | h1)
    ·exact ⟨q,by omega,h2⟩
    ·exact ⟨j,cS _,hc.1,hc.2,.inl h1⟩
    exact ⟨j,cS _,hc.1,hc.2,.inr h1⟩
   rintro ⟨q,h1,h2,h3,h4⟩
   by_cases eq:q=j
   ·subst eq
    rcases h4 with h4 | h4
    ·exact .inl (.inr h4)
    exact .inr h4
   exact .inl (.inl ⟨q,by omega,h2,h3,h4⟩)
  rw[aC hc,ih]
  constructor
  ·rintro ⟨q,h1,h2⟩;exact ⟨q,by omega,h2⟩
  rintro ⟨q,h1,h2,h3,h4⟩
  by_cases eq:q=j
  ·subst eq;exact absurd ⟨h2,h3⟩ hc
  exact ⟨q,by omega,h2,h3,h4⟩
theorem wantL_len {n:Int} {l:List (Int × Int)} (hn:0<=n/\n<=512) (k:Int):∀j,(wantL n l k j).length<=j*513
 | 0=>aI _
 | j+1=>by
  have ih:=wantL_len (l:=l) hn k j
  have hb:(belR n l (l.getD j (0,0)).2).length<=512:=by
   unfold belR
   split
   ·refine bI (markL_len _ _) ?_
    rw[onL_len];omega
   exact aI _
  unfold wantL
  split
  ·rw[aQ,aQ,cG];omega
  omega
theorem aRj {on:List (List Int)} {u v:Int}:Way on u v↔∃k,Edge on u k/\(v=k\/Way on k v):=by
 constructor
 ·intro h
  cases h with
  | one _ _ he=>exact ⟨v,he,.inl rfl⟩
  | more _ k _ he hw=>exact ⟨k,he,.inr hw⟩
 rintro ⟨k,he,rfl | hw⟩
 ·exact .one _ _ he
 exact .more _ _ _ he hw
theorem below_law {n:Int} {l:List (Int × Int)} (h:supE n l=0) {k:Int} (hk:0<=k/\k<n):belR n l k=cptI ((wantL n l k l.length).mergeSort fun x y=>decide (x<=y)):=by
 have hro:=supE_rests h
 have hn:=onL_rows hro
 have e:belR n l k=belL (onL n l) k:=aD ⟨h,hk⟩
 rw[e]
 have hs:((wantL n l k l.length).mergeSort fun x y=>decide (x<=y)).Pairwise (· <= ·):=by
  have:=List.pairwise_mergeSort (le:=fun x y:Int=>decide (x<=y)) (fun a b c h1 h2=>by simp at*;omega) (fun a b=>by simp;omega) (wantL n l k l.length)
  exact this.imp fun h=>by simpa using h
 refine aLx (aRi _ _) (aLy hs) fun x=>?_
 rw[aFb,List.mem_mergeSort,belL_mem hn,aHd h k x l.length (aM _),aRj]
 constructor
 ·rintro ⟨q,he,hq⟩
  obtain ⟨q0,hm⟩:=(onL_edge hk).1 he
  obtain ⟨j,j1,j2⟩:=aSz hm
  exact ⟨j,j1,by rw[j2],by rw[j2];exact q0,by rw[j2];exact hq⟩
 rintro ⟨j,j1,j2,j3,j4⟩
 refine ⟨_,(onL_edge hk).2 ⟨j3,?_⟩,j4⟩
 rw[<- j2]
 exact at_mem l j j1
def looL (n:Int) (l:List (Int × Int)):List Int:=markL (fun i=> !restB l l.length i) n.toNat
def looR (n:Int) (l:List (Int × Int)):List Int:=if supE n l=0 then looL n l else []
def looE (n:Int) (l:List (Int × Int)):Int:=if supE n l=0 then 0 else 1
end EB
end
section
open Go Go.Proofs Go.Eng Go.Shelf EB
namespace SB
abbrev tRr:Ty:=.pair (.int .i64) (.int .i64)
def c3027:Con:=bB 27 true fun args K=>match args with | [.val (.int .i64 n),.seq (.pair (.int .i64) (.int .i64)) l]=>K (.tup [Ls (cycR n l),.bl (cycP n l) Cp,I (cycE n l)]) | _=>False
theorem k3027:aS Tryz.prog c3027:=by
 refine kQ { asks:=[(0,[]),(2,[5])] } Tryz.func27 Tryz.ntmps27 (kc EB.k43 (kc EB.k69 (kc EB.k70 (kc EB.k71 (kc EB.k72 kn))))) fun _ _ h=>?_
 split at h
 case h_2=>exact h.elim
 rename_i n l
 change List (Int × Int) at l
 refine kb h ?_
 (apply Br.mk<;>intro)
 ·rename_i h
  have hc:¬cycP n l:=fun hh=>h hh.1
  rw[cycR_no hc,show cycE n l=1 by unfold cycE;rw[aC h]]
  (conv=>whnf)
  (repeat' first|exact trivial|rfl|apply aA)
  all_goals (conv=>whnf)
  all_goals skip
  all_goals first | exact hc | skip
 rename_i h
 have h:=bD.1 h
 have hro:=supE_rests h
 obtain ⟨r1,r2,r3,r4⟩:=id hro
 have hrw:=onL_rows hro
 have hol:=onL_len n l
 have hce:cycE n l=0:=by unfold cycE;rw[aD h]
 rw[hce]
 have hrl:∀u,((onL n l).getD u []).length<=4096:=fun u=>by
  by_cases hu:u<n.toNat
  ·have e:(onL n l).getD u []=rowOf l l.length u:=onN_get _ _ _ _ hu
   rw[e];exact bI (wM _ _ _) r1
  rw[aB,bN (by omega)];exact aI _
 (repeat' first|refine ZG ?_|refine Zg fun _=>?_)
 refine Ask.mk ⟨{ X:=Nat,pre:=fun i=>i<=n.toNat/\∀j:Nat,j<i->¬Way (onL n l) j j,mod:=fun i _=>[(8,I (-1)),(23,I i)],heap:=fun i _=>[.vec 1 (.int .i64) [] 3,.vec 1 (.slice (.int .i64)) [] 41,.cells [Rs (onL n l)] 90],mu:=fun i=>n.toNat-i },rfl,?_⟩
 (repeat refine ZG ?_)
 refine ⟨⟨(0:Nat),⟨aI _,fun j hj=>absurd hj (bG _)⟩,?_⟩,fun (i:Nat) hi=>?_⟩
 ·exact ZE
 obtain ⟨hi,hno⟩:=hi
 (apply Br.mk<;>intro)
 ·have hlt:i<n.toNat:=by omega
  have hrg:=reach_get (on:=onL n l) i (k:=i) (by omega)
  have hpre:∃n',Rows2 (onL n l) n'/\(0<=(i:Int)/\(i:Int)<n')/\(∀u,((onL n l).getD u []).length<=4096)/\n'<=512:=⟨n,hrw,⟨by omega,by omega⟩,hrl,r3⟩
  have hrl2:=reachL_len (onL n l) i
  (repeat refine ZG ?_)
  (apply Br.mk<;>intro)
  ·rename_i hw
   rw[hrg,wayB_iff] at hw
   have hcyc:cycP n l:=⟨h,i,⟨by omega,by omega⟩,hw⟩
   have hci:0<=(i:Int)/\(i:Int)<n:=⟨by omega,by omega⟩
   have hdl:=distL_len (onL n l) i
   have hleast:Least (fun k:Nat=>k<(onL n l).length/\Way (onL n l) k k) i:=⟨⟨by omega,hw⟩,fun q hq hq2=>hno q hq hq2.2⟩
   have hrow:∀u:Int,∀k∈(onL n l).getD u.toNat [],0<=k/\k<(distL (onL n l) i).length:=fun u k hk=>by
    have:=hrw.2 u k hk
    omega
   have hle:=fun (k:Int) (hk:0<=k/\k<n)=>(dist_le hrw hk:dist1 (onL n l) i k<n)
   have hit:=fun k=>it_near hrw hci hw k
   (repeat refine ZX ?_)
   refine Own.r ?_
   refine Need.mk ⟨⟨by omega,by omega⟩,hrow i⟩ ?_
   refine Ask.mk ⟨{ X:=Nat,pre:=fun k=>(∀j,1<=j->j<=k->¬itC (onL n l) i j=i)/\(k:Int)+dist1 (onL n l) i (itC (onL n l) i (k+1))<=n,mod:=fun k _=>[(12,.ref 5 1),(13,I (itC (onL n l) i (k+1)))],objs:=[5],heap:=fun k _=>[.vec 1 (.int .i64) [] 3,.vec 1 (.slice (.int .i64)) [] 41,.cells [Rs (onL n l)] 90,.vec 1 (.int .i64) [] 3,.cells [Ls (distL (onL n l) i)] 41,.vec 1 (.int .i64) (itL (onL n l) i (k+1)) 3],mu:=fun k=>(dist1 (onL n l) i (itC (onL n l) i (k+1))).toNat },rfl,?_⟩
   (repeat refine ZG ?_)
   refine ⟨⟨(0:Nat),⟨fun j h1 h2=>by omega,?_⟩,?_⟩,fun (k:Nat) hx=>?_⟩
   ·have:=hle _ (hit 1).1
    show ((0:Nat):Int)+dist1 (onL n l) i (itC (onL n l) i 1)<=n
    omega
   ·exact ZE
   obtain ⟨x1,x2⟩:=hx
   have x2:(k:Int)+dist1 (onL n l) i (itC (onL n l) i (k+1))<=n:=x2
   obtain ⟨i1,i2⟩:=hit (k+1)
   have hil:=itL_len (onL n l) i (k+1)
   have hd0:¬itC (onL n l) i (k+1)=i->0<=dist1 (onL n l) i (itC (onL n l) i (k+1)):=fun hne=>i2.elim (fun h=>absurd h.1 hne) fun h=>h.2
   (apply Br.mk<;>intro)
   ·rename_i hne
    have m3:dist1 (onL n l) i (itC (onL n l) i (k+1+1))<dist1 (onL n l) i (itC (onL n l) i (k+1)):=it_less hrw hci hw (k+1) hne
    have d0:=hd0 hne
    have n0:0<=dist1 (onL n l) i (itC (onL n l) i (k+1+1)):=(hit (k+1+1)).2.elim (fun h=>by rw[h.1,show dist1 (onL n l) i i=0 from dist1_eq (m:=0) ⟨.nil _,fun q hq=>absurd hq (bG _)⟩];exact gT _) fun h=>h.2
    have n1:=(hit (k+1+1)).1
    (repeat'((conv=>whnf);first|refine Zn ?_|refine Zl ?_|fail))
    refine Need.mk ⟨⟨by omega,by omega⟩,hrow _⟩ ?_
    refine ⟨(k+1:Nat),?_,⟨fun j h1 h2=>?_,?_⟩,?_⟩
    ·show (dist1 (onL n l) i (itC (onL n l) i (k+1+1))).toNat<(dist1 (onL n l) i (itC (onL n l) i (k+1))).toNat
     omega
    ·by_cases e:j=k+1
     ·subst e;exact hne
     exact x1 j h1 (by omega)
    ·show ((k+1:Nat):Int)+dist1 (onL n l) i (itC (onL n l) i (k+1+1))<=n
     omega
    (repeat' first|exact trivial|rfl|exact Nat.one_pos|apply aA)
    all_goals first | exact itL_succ _ _ _ | rfl | skip
   rename_i heq
   have heq:itC (onL n l) i (k+1)=i:=bD.1 heq
   have hK:Least (fun m=>1<=m/\itC (onL n l) i m=i) (k+1):=⟨⟨by omega,heq⟩,fun q hq hq2=>x1 q hq2.1 (by omega) hq2.2⟩
   rw[cycR_yes hcyc hleast hK]
   (conv=>whnf)
   (repeat' first|exact trivial|rfl|apply aA)
   all_goals (conv=>whnf)
   all_goals skip
   all_goals first | exact hcyc | exact h | exact ⟨i,hci,hw⟩
  rename_i hw
  rw[hrg,wayB_iff] at hw
  (repeat refine ZG ?_)
  refine ⟨(i+1:Nat),by show n.toNat-(i+1)<n.toNat-i;omega,⟨by show i+1<=n.toNat;omega,fun j hj=>?_⟩,ZE⟩
  by_cases e:j=i
  ·subst e;exact hw
  exact hno j (by omega)
 have hncyc:¬cycP n l:=by
  rintro ⟨_,c,hc,hw⟩
  refine hno c.toNat (by omega) ?_
  rw[aX hc.1];exact hw
 rw[cycR_no hncyc]
 (repeat refine ZR ?_)
 (conv=>whnf)
 (repeat' first|exact trivial|rfl|apply aA)
 all_goals (conv=>whnf)
 all_goals skip
 all_goals first | exact hncyc | skip
end SB
end
section
open Go Go.Proofs Go.Eng Go.Shelf EB
namespace SB
theorem b3021 (n:Int) (l:List (Int × Int)):body Tryz.prog [EB.c43] { asks:=[(0,[]),(2,[2])] } true Tryz.f21 [I n,.seq tRr l] (.tup [Ls (looR n l),I (looE n l)]):=by
 by_cases h:supE n l=0
 case neg=>
  have e1:looR n l= []:=aC h
  have e2:looE n l=1:=aC h
  rw[e1,e2]
  exact ZRF
 have e1:looR n l=looL n l:=aD h
 have e2:looE n l=0:=aD h
 rw[e1,e2]
 obtain ⟨r1,r2,r3,r4⟩:=supE_rests h
 (repeat'((conv=>whnf);first|refine Zm ?_|fail))
 refine Need.mk (show 0<=n/\n<=n/\n<=140737488355328/\n*((1:Nat):Int)<=140737488355328 by omega) ?_
 (repeat'((conv=>whnf);first|refine Zg fun _=>?_|fail))
 refine Ask.mk ⟨{ X:=Nat,pre:=fun j=>j<=l.length,mod:=fun j _=>[(20,I j)],heap:=fun j _=>[.vec 1 (.int .i64) [] 3,.vec 1 .bool (restN n.toNat l j) 4],mu:=fun j=>l.length-j },rfl,?_⟩
 (repeat refine ZG ?_)
 refine ⟨⟨(0:Nat),aI _,?_⟩,fun (j:Nat) hj=>?_⟩
 ·exact ZEx ((restN_zero _ _).symm)
 have hj:j<=l.length:=hj
 by_cases hlt:j<l.length
 ·obtain ⟨q1,q2,q3,q4⟩:=r4 j hlt
  have hlen:=restN_len n.toNat l j
  have hu:(l.getD j (0,0)).1=(((l.getD j (0,0)).1.toNat:Nat):Int):=by omega
  (repeat' first|refine ZR ?_|refine Zg fun _=>?_)
  refine cX (l.getD j (0,0)).1.toNat (by omega) ?_
  (repeat refine ZR ?_)
  refine ⟨(j+1:Nat),by show l.length-(j+1)<l.length-j;omega,hlt,?_⟩
  exact ZEx (restN_step n.toNat l j _ hlt hu (by omega))
 have e:j=l.length:=by omega
 subst e
 have hlen:=restN_len n.toNat l l.length
 (repeat' first|refine ZR ?_|refine Zg fun _=>?_)
 refine Ask.mk ⟨{ X:=Nat,pre:=fun i=>i<=n.toNat,mod:=fun i _=>[(9,.ref 2 1),(31,I i)],objs:=[2],heap:=fun i _=>[.vec 1 (.int .i64) [] 3,.vec 1 .bool (restN n.toNat l l.length) 4,.vec 1 (.int .i64) (markL (fun i=> !restB l l.length i) i) 3],mu:=fun i=>n.toNat-i },rfl,?_⟩
 (repeat refine ZG ?_)
 refine ⟨⟨(0:Nat),aI _,ZE⟩,fun (i:Nat) hi=>?_⟩
 have hi:i<=n.toNat:=hi
 by_cases hlt:i<n.toNat
 ·have hg:=restN_get n.toNat l l.length i hlt
  have hml:=markL_len (fun i=> !restB l l.length i) i
  have hms:=markL_succ (fun i=> !restB l l.length i) i
  cases hw:restB l l.length i with
  | true=>
   rw[hw] at hms hg
   rw[aC (by decide)] at hms
   (repeat refine ZR ?_)
   refine ⟨(i+1:Nat),by show n.toNat-(i+1)<n.toNat-i;omega,hlt,?_⟩
   exact ZEx hms.symm
  | false=>
   rw[hw] at hms hg
   rw[aD (by decide)] at hms
   have hg:¬(restN n.toNat l l.length).getD i false=true:=by rw[hg];decide
   (repeat refine ZR ?_)
   refine ⟨(i+1:Nat),by show n.toNat-(i+1)<n.toNat-i;omega,hlt,?_⟩
   exact ZEx hms.symm
 have e:i=n.toNat:=by omega
 subst e
 exact ZRF
theorem b3029 (n:Int) (l:List (Int × Int)) (i:Int):body Tryz.prog [EB.c43,EB.c69,EB.c70] { asks:=[(0,[1])] } true Tryz.f29 [I n,.seq tRr l,I i] (.tup [Ls (belR n l i),I (belE n l i)]):=by
 by_cases h:supE n l=0
 case neg=>
  have e1:belR n l i= []:=aC fun q=>h q.1
  have e2:belE n l i=1:=aC h
  rw[e1,e2]
  exact ZRF
 by_cases h2:0<=i/\i<n
 case neg=>
  have e1:belR n l i= []:=aC fun q=>h2 q.2
  have e2:belE n l i=6:=by unfold belE;rw[aD h,aC h2]
  rw[e1,e2]
  by_cases h3:i<0
  ·exact ZRF
  exact ZRF
 have e1:belR n l i=belL (onL n l) i:=aD ⟨h,h2⟩
 have e2:belE n l i=0:=by unfold belE;rw[aD h,aD h2]
 rw[e1,e2]
 have hro:=supE_rests h
 obtain ⟨r1,r2,r3,r4⟩:=id hro
 have hrw:=onL_rows hro
 have hol:=onL_len n l
 have hrl:∀u,((onL n l).getD u []).length<=4096:=fun u=>by
  by_cases hu:u<n.toNat
  ·have e:(onL n l).getD u []=rowOf l l.length u:=onN_get _ _ _ _ hu
   rw[e];exact bI (wM _ _ _) r1
  rw[aB,bN (by omega)];exact aI _
 have hpre:∃n',Rows2 (onL n l) n'/\(0<=i/\i<n')/\(∀u,((onL n l).getD u []).length<=4096)/\n'<=512:=⟨n,hrw,h2,hrl,r3⟩
 have hrl2:=reachL_len (onL n l) i
 (repeat' first|refine ZR ?_|refine Zg fun _=>?_)
 refine Ask.mk ⟨{ X:=Nat,pre:=fun k=>k<=n.toNat,mod:=fun k _=>[(8,.ref 1 1),(28,I k)],objs:=[1],heap:=fun k _=>[.vec 1 (.int .i64) [] 3,.vec 1 (.int .i64) (markL (fun k=>wayB (onL n l) i k) k) 3],mu:=fun k=>n.toNat-k },rfl,?_⟩
 (repeat refine ZG ?_)
 refine ⟨⟨(0:Nat),aI _,ZE⟩,fun (k:Nat) hk=>?_⟩
 have hk:k<=n.toNat:=hk
 by_cases hlt:k<n.toNat
 ·have hg:=reach_get (on:=onL n l) i (k:=k) (by omega)
  have hml:=markL_len (fun k=>wayB (onL n l) i k) k
  have hms:=markL_succ (fun k=>wayB (onL n l) i k) k
  by_cases hw:wayB (onL n l) i k=true
  ·rw[aD hw] at hms
   rw[hw] at hg
   (repeat refine ZR ?_)
   refine ⟨(k+1:Nat),by show n.toNat-(k+1)<n.toNat-k;omega,hlt,?_⟩
   exact ZEx hms.symm
  rw[aC hw] at hms
  have hg:¬(reachL (onL n l) i).getD k false=true:=by rw[hg];exact hw
  (repeat refine ZR ?_)
  refine ⟨(k+1:Nat),by show n.toNat-(k+1)<n.toNat-k;omega,hlt,?_⟩
  exact ZEx hms.symm
 have e:k=n.toNat:=by omega
 subst e
 have hb:belL (onL n l) i=markL (fun k=>wayB (onL n l) i k) n.toNat:=by unfold belL;rw[hol]
 rw[hb]
 exact ZRF
def c3021:Con:=bB 21 true fun args K=>match args with | [.val (.int .i64 n),.seq (.pair (.int .i64) (.int .i64)) l]=>K (.tup [Ls (looR n l),I (looE n l)]) | _=>False
theorem k3021:aS Tryz.prog c3021:=by
 refine kO Tryz.func21 fun args K h=>?_
 simp only[c3021] at h;split at h
 ·rename_i n l;exact ⟨_,h,triB Tryz.func21 Tryz.ntmps21 (by simp[EB.k43]) (b3021 n l)⟩
 exact h.elim
def c3029:Con:=bB 29 true fun args K=>match args with | [.val (.int .i64 n),.seq (.pair (.int .i64) (.int .i64)) l,.val (.int .i64 i)]=>K (.tup [Ls (belR n l i),I (belE n l i)]) | _=>False
theorem k3029:aS Tryz.prog c3029:=by
 refine kO Tryz.func29 fun args K h=>?_
 simp only[c3029] at h;split at h
 ·rename_i n l i;exact ⟨_,h,triB Tryz.func29 Tryz.ntmps29 (by simp[EB.k43,EB.k69,EB.k70]) (b3029 n l i)⟩
 exact h.elim
end SB
end
section
open Go Go.Proofs Go.Eng Go.Shelf EB
namespace SB
def dnR (on:List (List Int)) (i:Nat) (u v:Int):Prop:=0<=u/\u.toNat<i/\EB.Edge on u v
def dnQ (on:List (List Int)) (i q:Nat) (u v:Int):Prop:=dnR on i u v\/(u=(i:Int)/\∃p,p<q/\v=(on.getD i []).getD p 0)
theorem aSp {on:List (List Int)} {i:Nat} {u v:Int} (h:dnQ on i 0 u v):dnR on i u v:=h.resolve_right fun ⟨_,p,hp,_⟩=>absurd hp (bG _)
theorem aJv {on:List (List Int)} {i q:Nat} {u v:Int} (h:dnQ on i (q+1) u v):dnQ on i q u v\/u=(i:Int)/\v=(on.getD i []).getD q 0:=by
 rcases h with h | ⟨h1,p,hp,h2⟩
 ·exact .inl (.inl h)
 by_cases e:p=q
 ·subst e;exact .inr ⟨h1,h2⟩
 exact .inl (.inr ⟨h1,p,by omega,h2⟩)
theorem aSq {on:List (List Int)} {i:Nat} {u v:Int} (h:dnR on (i+1) u v):dnQ on i (on.getD i []).length u v:=by
 obtain ⟨h1,h2,h3⟩:=h
 by_cases e:u.toNat<i
 ·exact .inl ⟨h1,e,h3⟩
 have hu:u=(i:Int):=by omega
 refine .inr ⟨hu,?_⟩
 unfold EB.Edge at h3
 rw[hu,aP] at h3
 obtain ⟨p,hp,rfl⟩:=bV h3
 exact ⟨p,hp,by rw[aB (l:=on.getD i []),aH hp];rfl⟩
theorem aVx {on:List (List Int)} {n:Int} (hn:Rows2 on n) {u v:Int} (h:0<=u) (he:EB.Edge on u v):dnR on on.length u v:=by
 refine ⟨h,edge_out he,he⟩
def c3018:Con:=bB 18 true fun args K=>match args with | [.val (.int .i64 n),.seq (.pair (.int .i64) (.int .i64)) l]=>K (.tup [Ls (rkR n l),I (rkE n l)]) | _=>False
theorem k3018:aS Tryz.prog c3018:=by
 refine kQ { asks:=[(0,[]),(2,[]),(4,[])] } Tryz.func18 Tryz.ntmps18 (kc EB.k43 (kc EB.k69 kn)) fun _ _ h=>?_
 split at h
 case h_2=>exact h.elim
 rename_i n l
 change List (Int × Int) at l
 refine kb h ?_
 by_cases h:supE n l=0
 case neg=>
  obtain ⟨e1,e2⟩:=rk_bad h
  rw[e1,e2]
  exact ZRF
 have hro:=supE_rests h
 obtain ⟨r1,r2,r3,r4⟩:=id hro
 have hrw:=onL_rows hro
 have hol:=onL_len n l
 have hrl:∀u,((onL n l).getD u []).length<=4096:=fun u=>by
  by_cases hu:u<n.toNat
  ·have e:(onL n l).getD u []=rowOf l l.length u:=onN_get _ _ _ _ hu
   rw[e];exact bI (wM _ _ _) r1
  rw[aB,bN (by omega)];exact aI _
 obtain ⟨on,hon⟩:∃on,on=onL n l:=⟨_,rfl⟩
 (repeat refine ZR ?_)
 refine Ask.mk ⟨{ X:=Nat × List Int,pre:=fun x=>x.1<=n.toNat+1/\RK (onL n l) ((x.1:Int)*2097152) x.2/\LowR (onL n l) x.1 x.2,mod:=fun x _=>[(8,I x.1)],heap:=fun x _=>[.vec 1 (.int .i64) [] 3,.vec 1 (.int .i64) x.2 3],mu:=fun x=>n.toNat+2-x.1 },rfl,?_⟩
 (repeat refine ZG ?_)
 refine ⟨⟨((0:Nat),List.replicate n.toNat (0:Int)),⟨aI _,?_⟩,?_⟩,fun (x:Nat × List Int) hx=>?_⟩
 ·have:=rk_zero (onL n l)
  rw[hol] at this
  exact ⟨this.1.mono (by show (0:Int)<=((0:Nat):Int)*2097152;omega),this.2⟩
 ·exact ZE
 obtain ⟨x1,x2,x3⟩:=hx
 have x1:x.1<=n.toNat+1:=x1
 (repeat'((conv=>whnf);first|refine Zg fun _=>?_|fail))
 refine Ask.mk ⟨{ X:=(List Int × Bool) × Nat,pre:=fun y=>y.2<=(onL n l).length/\RP (onL n l) x.1 ((x.1:Int)*2097152+(y.2:Int)*4096) x.2 (dnR (onL n l) y.2) y.1,mod:=fun y _=>[(9,.bl (y.1.2=true) inferInstance),(26,I y.2)],heap:=fun y _=>[.vec 1 (.int .i64) [] 3,.vec 1 (.int .i64) y.1.1 3],mu:=fun y=>(onL n l).length-y.2 },rfl,?_⟩
 (repeat refine ZG ?_)
 refine ⟨⟨((x.2,false),(0:Nat)),⟨aI _,(RP.start x2 x3).mono (by omega) fun u v hd=>absurd hd.2.1 (bG _)⟩,?_⟩,fun (y:(List Int × Bool) × Nat) hy=>?_⟩
 ·(repeat' first|exact trivial|rfl|apply aA)
  intro h
  exact nomatch h
 obtain ⟨y1,y2⟩:=hy
 have y1:y.2<=(onL n l).length:=y1
 (apply Br.mk<;>intro)
 ·have hlt:y.2<(onL n l).length:=by omega
  have hrow:=hrl y.2
  (repeat' first|refine ZG ?_|refine Zg fun _=>?_)
  refine Ask.mk ⟨{ X:=(List Int × Bool) × Nat,pre:=fun z=>z.2<=((onL n l).getD y.2 []).length/\RP (onL n l) x.1 ((x.1:Int)*2097152+(y.2:Int)*4096+z.2) x.2 (dnQ (onL n l) y.2 z.2) z.1,mod:=fun z _=>[(9,.bl (z.1.2=true) inferInstance),(34,I z.2)],heap:=fun z _=>[.vec 1 (.int .i64) [] 3,.vec 1 (.int .i64) z.1.1 3],mu:=fun z=>((onL n l).getD y.2 []).length-z.2 },rfl,?_⟩
  (repeat refine ZG ?_)
  refine ⟨⟨(y.1,(0:Nat)),⟨aI _,y2.mono (by omega) fun u v hd=>aSp hd⟩,?_⟩,fun (z:(List Int × Bool) × Nat) hz=>?_⟩
  ·exact ZE
  obtain ⟨z1,z2⟩:=hz
  have z1:z.2<=((onL n l).getD y.2 []).length:=z1
  have hzl:=z2.rk.len
  (apply Br.mk<;>intro)
  ·have hzt:z.2<((onL n l).getD y.2 []).length:=by omega
   have he:EB.Edge (onL n l) y.2 (((onL n l).getD y.2 []).getD z.2 0):=by
    unfold EB.Edge
    rw[aP,aB (l:=(onL n l).getD y.2 []),aH hzt];exact cU _
   obtain ⟨k0,k1⟩:=hrw.2 _ _ he
   have htop:=z2.rk.top (((onL n l).getD y.2 []).getD z.2 0).toNat
   have hlow:=(z2.rk.run (((onL n l).getD y.2 []).getD z.2 0).toNat (by omega)).1
   have hyn:(0:Int)<=(y.2:Int)/\(y.2:Int)<n:=by omega
   (repeat'((conv=>whnf);first|refine Zg fun _=>?_|refine Zn ?_|refine Zj ?_|apply pI|apply pJ|fail))
   refine cX (((onL n l).getD y.2 []).getD z.2 0).toNat (by omega) ?_
   (repeat'((conv=>whnf);first|refine Zg fun _=>?_|apply pI|apply pJ|fail))
   (apply Br.mk<;>intro)
   ·rename_i hc
    have hst:=(z2.turn hrw hyn he (by rw[aP];exact hc)).mono (C:=(x.1:Int)*2097152+(y.2:Int)*4096+((z.2+1:Nat):Int)) (e:=dnQ (onL n l) y.2 (z.2+1)) (by omega) fun u v hd=>aJv hd
    rw[aP] at hst
    (repeat refine ZG ?_)
    refine cX (((onL n l).getD y.2 []).getD z.2 0).toNat (by omega) ?_
    (repeat' first|refine ZG ?_|refine Zg fun _=>?_)
    refine ⟨((z.1.1.set y.2 (z.1.1.getD (((onL n l).getD y.2 []).getD z.2 0).toNat 0+1),true),(z.2+1:Nat)),by show ((onL n l).getD y.2 []).length-(z.2+1)<((onL n l).getD y.2 []).length-z.2;omega,⟨hzt,hst⟩,?_⟩
    exact ZE
   rename_i hc
   have hst:=(z2.skip hrw hyn he (by rw[aP];exact hc)).mono (C:=(x.1:Int)*2097152+(y.2:Int)*4096+((z.2+1:Nat):Int)) (e:=dnQ (onL n l) y.2 (z.2+1)) (by omega) fun u v hd=>aJv hd
   (repeat refine ZG ?_)
   refine ⟨(z.1,(z.2+1:Nat)),by show ((onL n l).getD y.2 []).length-(z.2+1)<((onL n l).getD y.2 []).length-z.2;omega,⟨hzt,hst⟩,?_⟩
   exact ZE
  have hze:z.2=((onL n l).getD y.2 []).length:=by omega
  (repeat refine ZG ?_)
  refine ⟨(z.1,(y.2+1:Nat)),by show (onL n l).length-(y.2+1)<(onL n l).length-y.2;omega,⟨hlt,z2.mono (by omega) fun u v hd=>by rw[hze];exact aSq hd⟩,?_⟩
  exact ZE
 have hye:y.2=(onL n l).length:=by omega
 have hall:∀u v,0<=u->EB.Edge (onL n l) u v->dnR (onL n l) y.2 u v:=fun u v hu he=>by rw[hye];exact aVx hrw hu he
 (apply Br.mk<;>intro)
 ·rename_i hch
  obtain ⟨w1,w2⟩:=rk_fine h (y2.stay hall (by cases hq:y.1.2 with | true=>exact absurd hq hch | false=>rfl))
  rw[w1,w2]
  exact ZF
 rename_i hch
 have hch:y.1.2=true:=bD.1 hch
 (apply Br.mk<;>intro)
 ·rename_i hr
  obtain ⟨w1,w2⟩:=rk_loop h (y2.late hrw x2 x3 (by omega) hch)
  rw[w1,w2]
  exact ZF
 rename_i hr
 (repeat refine ZG ?_)
 refine ⟨((x.1+1:Nat),y.1.1),by show n.toNat+2-(x.1+1)<n.toNat+2-x.1;omega,⟨by show x.1+1<=n.toNat+1;omega,y2.rk.mono (by show (x.1:Int)*2097152+(y.2:Int)*4096<=((x.1+1:Nat):Int)*2097152;omega),y2.more hall⟩,?_⟩
 exact ZE
end SB
end
section
open Go Go.Proofs Go.Eng Go.Shelf IB Go.Lib Go.RowKit
namespace RB
def exM:List Mem:=[(2,0, -1,([51],[48],[48]),([51],[51],[51]),60,180),(6,3,0,([48],[48],[48]),([53],[53],[53]),60,180),(10,0, -1,([49],[49],[49]),([57],[49],[49]),60,180)]
theorem aFf {s:Bx} (q:Rat) (h:numS q=s) (h1:q.num.natAbs<10^40) (h2:q.den<10^40) (h3:dK 12 q):valQ s=q/\chkQ s=0/\dK 12 q:=by
 subst h
 exact ⟨jH q,aVq h1 h2,h3⟩
theorem exd0:valQ [48]=0/\chkQ [48]=0/\dK 12 0:=aFf 0 (by decide+kernel) (by decide+kernel) (by decide+kernel) (by decide+kernel)
theorem exd1:valQ [49]=1/\chkQ [49]=0/\dK 12 1:=aFf 1 (by decide+kernel) (by decide+kernel) (by decide+kernel) (by decide+kernel)
theorem exd3:valQ [51]=3/\chkQ [51]=0/\dK 12 3:=aFf 3 (by decide+kernel) (by decide+kernel) (by decide+kernel) (by decide+kernel)
theorem exd5:valQ [53]=5/\chkQ [53]=0/\dK 12 5:=aFf 5 (by decide+kernel) (by decide+kernel) (by decide+kernel) (by decide+kernel)
theorem exd9:valQ [57]=9/\chkQ [57]=0/\dK 12 9:=aFf 9 (by decide+kernel) (by decide+kernel) (by decide+kernel) (by decide+kernel)
theorem aJi {k m:Nat} {q:Rat} (h:dK k q) (hk:k<=m):dK m q:=⟨bI h.1 hk,bI h.2 hk⟩
theorem fK {a b c:Bx} {p q r:Rat} (h1:valQ a=p/\chkQ a=0/\dK 12 p) (h2:valQ b=q/\chkQ b=0/\dK 12 q) (h3:valQ c=r/\chkQ c=0/\dK 12 r):vS (a,b,c)=(p,q,r)/\okS (a,b,c)/\dS 12 (a,b,c):=by
 obtain ⟨rfl,a2,a3⟩:=h1
 obtain ⟨rfl,b2,b3⟩:=h2
 obtain ⟨rfl,c2,c3⟩:=h3
 exact ⟨rfl,⟨rW.2 ⟨a2,b2,c2⟩,aJi a3 (by decide),aJi b3 (by decide),aJi c3 (by decide)⟩,a3,b3,c3⟩
theorem aFg {m:Mem} (hk:1<=m.1/\m.1<=12) (hf:0<=m.2.1/\ -1<=m.2.2.1) (hw:(1<=m.2.2.2.2.2.1/\m.2.2.2.2.2.1<=1000)/\1<=m.2.2.2.2.2.2/\m.2.2.2.2.2.2<=1000) (h1:okS m.2.2.2.1) (h2:okS m.2.2.2.2.1) (hne:m.2.2.2.1≠m.2.2.2.2.1):memE m=0:=by
 unfold memE
 rw[aC (by omega),aC (by omega),aC (by omega),aC (dC h1.1),aC (dC h2.1),aC (fun q=>q.elim (fun q=>q h1.2) fun q=>q h2.2),aC hne]
abbrev exA:Mem:=(2,0, -1,([51],[48],[48]),([51],[51],[51]),60,180)
abbrev exB:Mem:=(6,3,0,([48],[48],[48]),([53],[53],[53]),60,180)
abbrev exC:Mem:=(10,0, -1,([49],[49],[49]),([57],[49],[49]),60,180)
theorem aUz:memE exA=0:=aFg (by decide) (by decide) (by decide) (fK exd3 exd0 exd0).2.1 (fK exd3 exd3 exd3).2.1 (by decide)
theorem aU0:memE exB=0:=aFg (by decide) (by decide) (by decide) (fK exd0 exd0 exd0).2.1 (fK exd5 exd5 exd5).2.1 (by decide)
theorem aNy:memE exC=0:=aFg (by decide) (by decide) (by decide) (fK exd1 exd1 exd1).2.1 (fK exd9 exd1 exd1).2.1 (by decide)
theorem aU1 {m n:Mem} (h1:memE m=0) (h2:memE n=0) (d1:dS 12 m.2.2.2.1) (d2:dS 12 m.2.2.2.2.1) (d3:dS 12 n.2.2.2.1) (d4:dS 12 n.2.2.2.2.1):crE m n=0:=by
 unfold crE
 rw[aC (fun q=>q.elim (fun q=>q h1) fun q=>q h2),aC]
 rintro (((q | q) | q) | q)
 ·exact q d1
 ·exact q d2
 ·exact q d3
 exact q d4
theorem aU2:crE exA exC=0:=aU1 aUz aNy (fK exd3 exd0 exd0).2.2 (fK exd3 exd3 exd3).2.2 (fK exd1 exd1 exd1).2.2 (fK exd9 exd1 exd1).2.2
theorem aU3:crE exB exC=0:=aU1 aU0 aNy (fK exd0 exd0 exd0).2.2 (fK exd5 exd5 exd5).2.2 (fK exd1 exd1 exd1).2.2 (fK exd9 exd1 exd1).2.2
noncomputable instance (F u G v w:V3):Decidable (crG F u G v w):=by unfold crG;exact inferInstance
instance (d v:V3):Decidable (parR d v):=by unfold parR;exact inferInstance
theorem aZi:crP exA exC:=by
 unfold crP
 show crG (vS ([51],[48],[48])) (sub3 (vS ([51],[51],[51])) (vS ([51],[48],[48]))) (vS ([49],[49],[49])) (sub3 (vS ([57],[49],[49])) (vS ([49],[49],[49]))) (sub3 (vS ([49],[49],[49])) (vS ([51],[48],[48])))
 rw[(fK exd3 exd0 exd0).1,(fK exd3 exd3 exd3).1,(fK exd1 exd1 exd1).1,(fK exd9 exd1 exd1).1]
 unfold crG crAt yW
 decide+kernel
theorem aZj:crP exB exC:=by
 unfold crP
 show crG (vS ([48],[48],[48])) (sub3 (vS ([53],[53],[53])) (vS ([48],[48],[48]))) (vS ([49],[49],[49])) (sub3 (vS ([57],[49],[49])) (vS ([49],[49],[49]))) (sub3 (vS ([49],[49],[49])) (vS ([48],[48],[48])))
 rw[(fK exd0 exd0 exd0).1,(fK exd5 exd5 exd5).1,(fK exd1 exd1 exd1).1,(fK exd9 exd1 exd1).1]
 unfold crG crAt yW
 decide+kernel
theorem aZk:tchP exA exB:=by
 right
 unfold metP mtO parR
 show _/\ _
 have e1:vS exB.2.2.2.1=(0,0,0):=(fK exd0 exd0 exd0).1
 have e2:vS exB.2.2.2.2.1=(5,5,5):=(fK exd5 exd5 exd5).1
 have e3:vS exA.2.2.2.2.1=(3,3,3):=(fK exd3 exd3 exd3).1
 rw[e1,e2,e3]
 decide+kernel
theorem ex01:rstP exA exB:=aZk
theorem ex02:rstP exA exC:=⟨rfl,aU2,aZi⟩
theorem ex12:rstP exB exC:=⟨aU3,aZj⟩
theorem aWz:rowR exM 0 3= [(0,1),(0,2)]:=by
 have h:rowR exM 0 1= []:=aC fun h=>h.1 rfl
 have h2:rowR exM 0 2=rowR exM 0 1++ [(0,1)]:=aD ⟨by decide,ex01⟩
 have h3:rowR exM 0 3=rowR exM 0 2++ [(0,2)]:=aD ⟨by decide,ex02⟩
 rw[h3,h2,h];rfl
theorem aW0:rowR exM 1 3= [(1,2)]:=by
 have h:rowR exM 1 1= []:=aC fun h=>(id h.2:False)
 have h2:rowR exM 1 2=rowR exM 1 1:=aC fun h=>h.1 rfl
 have h3:rowR exM 1 3=rowR exM 1 2++ [(1,2)]:=aD ⟨by decide,ex12⟩
 rw[h3,h2,h];rfl
theorem aW1:rowR exM 2 3= []:=by
 have h:rowR exM 2 1= []:=aC fun h=>(id h.2:False)
 have h2:rowR exM 2 2=rowR exM 2 1:=aC fun h=>(id h.2:False)
 have h3:rowR exM 2 3=rowR exM 2 2:=aC fun h=>h.1 rfl
 rw[h3,h2,h]
theorem aU4:iJ exM 0 3:=⟨2,by decide,by decide,ex02,rfl⟩
theorem aU5:iJ exM 1 3:=⟨2,by decide,by decide,ex12,rfl⟩
def exL:List (Int × Int):=[(0,1),(0,2),(1,2),(2, -1)]
theorem aZl:outR [] exM 3=exL:=by
 have w0:¬walP [] exA (iJ exM 0 3):=fun h=>(id h:¬iJ exM 0 3/\ _).1 aU4
 have w1:¬walP [] exB (iJ exM 1 3):=fun h=>(id h:¬iJ exM 1 3/\ _).1 aU5
 have w2:walP [] exC (iJ exM 2 3):=trivial
 have h1:outR [] exM 1=(if walP [] exA (iJ exM 0 3) then ([]:List (Int × Int))++ [((0:Int),(-1:Int))] else [])++rowR exM 0 3:=rfl
 have h2:outR [] exM 2=(if walP [] exB (iJ exM 1 3) then outR [] exM 1++ [((1:Int),(-1:Int))] else outR [] exM 1)++rowR exM 1 3:=rfl
 have h3:outR [] exM 3=(if walP [] exC (iJ exM 2 3) then outR [] exM 2++ [((2:Int),(-1:Int))] else outR [] exM 2)++rowR exM 2 3:=rfl
 rw[h3,aD w2,h2,aC w1,h1,aC w0,aWz,aW0,aW1];rfl
theorem aZm:errS exM 3 0=0:=by
 refine (aHg 3 0).2 fun i _ hi=>(aHf 3 0).2 fun j _ hj hne=>?_
 have e02:rstE exA exC=0:=by show (if (0:Int)=0 then crE exA exC else 0)=0;rw[aD rfl];exact aU2
 match i,j,hi,hj,hne with
 | 0,0,_,_,h=>exact absurd rfl h
 | 0,1,_,_,_=>rfl
 | 0,2,_,_,_=>exact e02
 | 1,0,_,_,_=>rfl
 | 1,1,_,_,h=>exact absurd rfl h
 | 1,2,_,_,_=>exact aU3
 | 2,0,_,_,_=>rfl
 | 2,1,_,_,_=>rfl
 | 2,2,_,_,h=>exact absurd rfl h
 | i+3,_,h,_,_=>omega
 | 0,j+3,_,h,_=>exact absurd h (by show ¬j+3<0+3;omega)
 | 1,j+3,_,h,_=>exact absurd h (by show ¬j+3<0+3;omega)
 | 2,j+3,_,h,_=>exact absurd h (by show ¬j+3<0+3;omega)
theorem aHh:ofR [] exM=(exL,0):=by
 have hb:¬badL []:=fun ⟨j,h,_⟩=>absurd h (bG _)
 have hm:¬badM exM:=by
  rintro ⟨j,h,hj⟩
  match j,h with
  | 0,_=>exact hj aUz
  | 1,_=>exact hj aU0
  | 2,_=>exact hj aNy
  | j+3,h=>exact absurd h (by show ¬j+3<3;omega)
 have he:errS exM exM.length 0=0:=aZm
 have ho:outR [] exM exM.length=exL:=aZl
 unfold ofR
 rw[aC (by decide),aC hb,aC hm,aC (dC he),ho,aC (by decide)]
theorem aZn:EB.supE 3 exL=0:=by have:=aZh (ls:=[]) (l:=exM) (by rw[aHh]);rw[aHh] at this;exact this
theorem aP3:EB.rkE 3 exL=0/\EB.rkR 3 exL= [2,1,0]:=by
 refine EB.rk_fine aZn ?_
 have e:EB.onL 3 exL= [[1,2],[2],[]]:=by decide+kernel
 rw[e]
 have e01:EB.Edge [[1,2],[2],[]] 0 1:=by show (1:Int)∈ [(1:Int),2];decide
 have e12:EB.Edge [[1,2],[2],[]] 1 2:=by show (2:Int)∈ [(2:Int)];decide
 refine ⟨rfl,fun i hi=>?_,fun u v hu he=>?_⟩
 ·match i,hi with
  | 0,_=>exact ⟨by decide,.cons e01 (.cons e12 (.zero _ _))⟩
  | 1,_=>exact ⟨by decide,.cons e12 (.zero _ _)⟩
  | 2,_=>exact ⟨by decide,.zero _ _⟩
  | i+3,h=>exact absurd h (by show ¬i+3<3;omega)
 obtain ⟨u,rfl⟩:=bM hu
 match u with
 | 0=>
  have:v∈ [(1:Int),2]:=he
  simp only[bE,jY,or_false] at this
  rcases this with rfl | rfl<;>decide
 | 1=>
  have:v∈ [(2:Int)]:=he
  simp only[bE,jY,or_false] at this
  subst this;decide
 | 2=>exact absurd (show v∈([]:List Int) from he) (jY)
 | u+3=>exact absurd (show v∈([]:List Int) from he) (jY)
theorem wL (x:SV):ent x .any:=by
 cases x with
 | val v=>cases v<;>trivial
 | _=>trivial
theorem aVy:ent.entL qVs qVs:=by
 (repeat' ((conv=>whnf);first | exact trivial | (refine aA ?_ ?_)))
 all_goals rfl
theorem aC9 (t:Ty) (xs:List t.T):ent (.seq t xs) (.seq t xs):=by
 show xP t t xs xs
 unfold xP
 rw[dif_pos rfl]
 rfl
theorem t14 (ls:List Lin) (l:List Mem):Tri Tryz.prog true 14 [.agg [.any,.any,.any,.seq tLin ls],.seq tMem l] (.tup [.seq tRr (ofR ls l).1,I (ofR ls l).2]):=by
 by_cases h:(512<l.length\/4096<ls.length)\/badL ls\/badM l
 ·exact triB Tryz.func14 Tryz.ntmps14 (by simp[aSe,aX9,aXy,aYb,aYa,aXw,aR6,aR5,aXv,aX8]) (b14e ls l h)
 exact triB Tryz.func14 Tryz.ntmps14 (by simp[aSe,aX9,aXy,aYb,aYa,aXw,aR6,aR5,aXv,aX8]) (b14m ls l (fun q=>h (.inl q)) (fun q=>h (.inr (.inl q))) (fun q=>h (.inr (.inr q))) aXx aVy)
noncomputable def aYf:Con:=bB 14 true fun args K=>match args with
 | [.agg [x,y,z,.val (.slice none 0 0)],.seq (.pair (.int .i64) (.pair (.int .i64) (.pair (.int .i64) (.pair (.pair .str (.pair .str .str)) (.pair (.pair .str (.pair .str .str)) (.pair (.int .i64) (.int .i64))))))) l]=>K (.tup [.seq tRr (ofR [] l).1,I (ofR [] l).2])
 | [.agg [x,y,z,.seq (.pair (.int .i64) (.pair (.pair .str (.pair .str .str)) (.pair (.pair .str (.pair .str .str)) (.pair (.int .i64) (.int .i64))))) ls],.seq (.pair (.int .i64) (.pair (.int .i64) (.pair (.int .i64) (.pair (.pair .str (.pair .str .str)) (.pair (.pair .str (.pair .str .str)) (.pair (.int .i64) (.int .i64))))))) l]=>K (.tup [.seq tRr (ofR ls l).1,I (ofR ls l).2])
 | _=>False
theorem k3014:aS Tryz.prog aYf:=by
 refine kO Tryz.func14 fun args K h=>?_
 simp only[aYf] at h;split at h
 ·rename_i x y z l
  refine ⟨_,h,?_⟩
  show Tri Tryz.prog true 14 _ _
  intro ok w vs hgw hok hr
  exact t14 [] l ok w vs hgw hok (iD (l:=[.agg [x,y,z,.val (.slice none 0 0)],.seq tMem l]) (l':=[.agg [.any,.any,.any,.seq tLin []],.seq tMem l]) ⟨⟨wL x,wL y,wL z,(rfl:([]:List tLin.T)= []),trivial⟩,aC9 tMem l,trivial⟩ hr)
 ·rename_i x y z ls l
  refine ⟨_,h,?_⟩
  show Tri Tryz.prog true 14 _ _
  intro ok w vs hgw hok hr
  exact t14 ls l ok w vs hgw hok (iD (l:=[.agg [x,y,z,.seq tLin ls],.seq tMem l]) (l':=[.agg [.any,.any,.any,.seq tLin ls],.seq tMem l]) ⟨⟨wL x,wL y,wL z,aC9 tLin ls,trivial⟩,aC9 tMem l,trivial⟩ hr)
 exact h.elim
def c3069:Con:=bB 69 true fun args K=>match args with | [.str a,.str b,.str c]=>K (.agg [S a,S b,S c]) | _=>False
theorem k3069:aS Tryz.prog c3069:=by
 refine kQ {} Tryz.func69 Tryz.ntmps69 kn fun _ _ h=>?_
 split at h
 case h_2=>exact h.elim
 refine kb h ?_
 exact ZF
def c3040:Con:=bB 40 true fun args K=>match args with | []=>K (.seq tMem exM) | _=>False
theorem k3040:aS Tryz.prog c3040:=by
 refine kQ {} Tryz.func40 Tryz.ntmps40 (kc k3069 kn) fun _ _ h=>?_
 split at h
 case h_2=>exact h.elim
 refine kb h ?_
 (conv=>whnf)
 refine Own.r ?_
 (conv=>whnf)
 exact ZE
def c3016:Con:=bB 16 true fun args K=>match args with | [.seq (.pair (.int .i64) (.int .i64)) a,.seq (.pair (.int .i64) (.int .i64)) b]=>K (.bl (a=b) Cp) | _=>False
theorem k3016:aS Tryz.prog c3016:=by
 refine kQ { asks:=[(0,[])] } Tryz.func16 Tryz.ntmps16 kn fun _ _ h=>?_
 split at h
 case h_2=>exact h.elim
 rename_i a b
 change List (Int × Int) at a
 change List (Int × Int) at b
 refine kb h ?_
 by_cases hl:a.length=b.length
 case neg=>
  have hn:¬a=b:=fun e=>hl (by rw[e])
  generalize (a=b)=M at hn ⊢
  (repeat' first|refine ZR ?_|refine Zg fun _=>?_)
  (conv=>whnf)
  all_goals exact hn
 generalize hM:(a=b)=M
 (repeat' first|refine ZR ?_|refine Zg fun _=>?_)
 refine Ask.mk ⟨{ X:=Nat,pre:=fun i=>i<=a.length/\∀j,j<i->a.getD j (0,0)=b.getD j (0,0),mod:=fun i _=>[(5,I i)],heap:=fun i H=>H,mu:=fun i=>a.length-i },rfl,?_⟩
 (repeat refine ZG ?_)
 refine ⟨⟨(0:Nat),⟨aI _,fun j hj=>absurd hj (bG _)⟩,ZE⟩,fun (i:Nat) hi=>?_⟩
 obtain ⟨hi,hp⟩:=hi
 by_cases hlt:i<a.length
 ·by_cases he:a.getD i (0,0)=b.getD i (0,0)
  ·have hq:(a.getD i (0,0)).1=(b.getD i (0,0)).1/\(a.getD i (0,0)).2=(b.getD i (0,0)).2:=by rw[he];exact ⟨rfl,rfl⟩
   (repeat'((conv=>whnf);first|refine Zg fun _=>?_|refine Zn ?_|refine Zj ?_|apply pI|apply pJ|refine Zy ?_|refine Zm ?_|fail))
   refine ⟨(i+1:Nat),by show a.length-(i+1)<a.length-i;omega,⟨hlt,fun j hj=>?_⟩,ZE⟩
   by_cases e:j=i
   ·subst e;exact he
   exact hp j (by omega)
  have hq:¬((a.getD i (0,0)).1=(b.getD i (0,0)).1/\(a.getD i (0,0)).2=(b.getD i (0,0)).2):=fun q=>he (gI q.1 q.2)
  have hn:¬M:=by rw[<- hM];exact fun q=>he (by rw[q])
  (repeat'((conv=>whnf);first|refine Zg fun _=>?_|refine Zn ?_|refine Zj ?_|apply pI|apply pJ|refine Zy ?_|fail))
  (conv=>whnf)
  all_goals exact hn
 have e:a=b:=by
  refine eD hl fun j h1 h2=>?_
  have:=hp j (by omega)
  rwa [aB,aB,aH h1,aH h2] at this
 rw[hM] at e
 (repeat' first|refine ZR ?_|refine Zg fun _=>?_)
 (conv=>whnf)
 all_goals exact e
def aSr:Con:=bB 36 true fun args K=>match args with | [.seq (.int .i64) a,.seq (.int .i64) b]=>K (.bl (a=b) Cp) | _=>False
theorem aSs:aS Tryz.prog aSr:=by
 refine kQ { asks:=[(0,[])] } Tryz.func36 Tryz.ntmps36 kn fun _ _ h=>?_
 split at h
 case h_2=>exact h.elim
 rename_i a b
 refine kb h ?_
 by_cases hl:a.length=b.length
 case neg=>
  have hn:¬a=b:=fun e=>hl (by rw[e])
  generalize (a=b)=M at hn ⊢
  (repeat' first|refine ZR ?_|refine Zg fun _=>?_)
  (conv=>whnf)
  all_goals exact hn
 generalize hM:(a=b)=M
 (repeat' first|refine ZR ?_|refine Zg fun _=>?_)
 refine Ask.mk ⟨{ X:=Nat,pre:=fun i=>i<=a.length/\∀j,j<i->a.getD j 0=b.getD j 0,mod:=fun i _=>[(13,I i)],heap:=fun i H=>H,mu:=fun i=>a.length-i },rfl,?_⟩
 (repeat refine ZG ?_)
 refine ⟨⟨(0:Nat),⟨aI _,fun j hj=>absurd hj (bG _)⟩,ZE⟩,fun (i:Nat) hi=>?_⟩
 obtain ⟨hi,hp⟩:=hi
 by_cases hlt:i<a.length
 ·by_cases he:a.getD i 0=b.getD i 0
  ·(repeat'((conv=>whnf);first|refine Zg fun _=>?_|refine Zn ?_|refine Zj ?_|apply pI|apply pJ|refine Zy ?_|refine Zm ?_|fail))
   refine ⟨(i+1:Nat),by show a.length-(i+1)<a.length-i;omega,⟨hlt,fun j hj=>?_⟩,ZE⟩
   by_cases e:j=i
   ·subst e;exact he
   exact hp j (by omega)
  have hn:¬M:=by rw[<- hM];exact fun q=>he (by rw[q])
  (repeat'((conv=>whnf);first|refine Zg fun _=>?_|refine Zn ?_|refine Zj ?_|apply pI|apply pJ|refine Zy ?_|fail))
  (conv=>whnf)
  all_goals exact hn
 have e:a=b:=by
  refine eD hl fun j h1 h2=>?_
  have:=hp j (by omega)
  rwa [aB,aB,aH h1,aH h2] at this
 rw[hM] at e
 (repeat refine ZR ?_)
 (conv=>whnf)
 all_goals exact e
def grtP (n:Int) (l:List (Int × Int)):Prop:=(12<n/\n<=512)\/30<l.length
def aYg:Con:=bB 30 true fun args K=>match args with | [.val (.int .i64 n),.seq (.pair (.int .i64) (.int .i64)) l]=>K (.bl (grtP n l) Cp) | _=>False
theorem aYh:aS Tryz.prog aYg:=by
 refine kQ {} Tryz.func30 Tryz.ntmps30 kn fun _ _ h=>?_
 split at h
 case h_2=>exact h.elim
 rename_i n l
 change List (Int × Int) at l
 refine kb h ?_
 by_cases h:12<n
 ·by_cases h2:n<=512
  ·have e:grtP n l:=.inl ⟨h,h2⟩
   generalize grtP n l=M at e ⊢
   (repeat refine ZR ?_)
   (conv=>whnf)
   all_goals exact e
  have e:(30<(l.length:Int))↔grtP n l:=⟨fun q=>.inr (by omega),fun q=>by rcases q with q | q;exact absurd q.2 h2;omega⟩
  generalize grtP n l=M at e ⊢
  (repeat' first|refine ZR ?_|refine Zg fun _=>?_)
  (conv=>whnf)
  all_goals exact e
 have e:(30<(l.length:Int))↔grtP n l:=⟨fun q=>.inr (by omega),fun q=>by rcases q with q | q;exact absurd q.1 h;omega⟩
 generalize grtP n l=M at e ⊢
 (repeat' first|refine ZR ?_|refine Zg fun _=>?_)
 (conv=>whnf)
 all_goals exact e
def aOm:Con:=bB 13 true fun args K=>match args with | []=>K (.val (.bool true)) | _=>False
theorem aSt:aS Tryz.prog aOm:=by
 refine kQ {} Tryz.func13 Tryz.ntmps13 (kc k3040 (kc k3014 (kc SB.k3018 (kc k3016 (kc aSs kn))))) fun _ _ h=>?_
 split at h
 case h_2=>exact h.elim
 refine kb h ?_
 have f1:(ofR [] exM).2=0:=by rw[aHh]
 have f2:EB.rkE 3 (ofR [] exM).1=0:=by rw[aHh];exact aP3.1
 have f3:(ofR [] exM).1= [(0,1),(0,2),(1,2),(2, -1)]:=by rw[aHh];rfl
 have f4:EB.rkR 3 (ofR [] exM).1= [2,1,0]:=by rw[aHh];exact aP3.2
 (repeat refine ZR ?_)
 (conv=>whnf)
 all_goals exact ⟨fun _=>rfl,fun _=>f4⟩
theorem aOn {a b c d:Int}:0<=EB.orI [EB.cmpI a c,EB.cmpI b d]↔c<a\/c=a/\d<=b:=by
 unfold EB.cmpI
 by_cases h1:a<c
 ·rw[aD h1]
  exact ⟨fun h=>absurd (show (0:Int)<= -1 from h) (by decide),fun h=>by omega⟩
 rw[aC h1]
 by_cases h2:c<a
 ·rw[aD h2]
  exact ⟨fun _=>.inl h2,fun _=>(by decide:(0:Int)<=1)⟩
 rw[aC h2]
 by_cases h3:b<d
 ·rw[aD h3]
  exact ⟨fun h=>absurd h (by decide),fun h=>by omega⟩
 rw[aC h3]
 by_cases h4:d<b
 ·rw[aD h4]
  exact ⟨fun _=>.inr ⟨by omega,by omega⟩,fun _=>by decide⟩
 rw[aC h4]
 exact ⟨fun _=>.inr ⟨by omega,by omega⟩,fun _=>by decide⟩
def aYi:Con:=bB 35 true fun args K=>match args with | [.val (.int .i64 n),.seq (.pair (.int .i64) (.int .i64)) l]=>K (I (EB.supE n l)) | _=>False
theorem aGc:aS Tryz.prog aYi:=by
 refine kQ { asks:=[(0,[])] } Tryz.func35 Tryz.ntmps35 kn fun _ _ h=>?_
 split at h
 case h_2=>exact h.elim
 rename_i n l
 change List (Int × Int) at l
 refine kb h ?_
 (apply Br.mk<;>intro)
 ·rename_i h
  (conv=>whnf)
  exact ⟨rfl,EB.supE_out (.inl h)⟩
 rename_i g1
 (apply Br.mk<;>intro)
 ·rename_i h
  (conv=>whnf)
  exact ⟨rfl,EB.supE_out (.inr h)⟩
 rename_i g2
 (repeat'((conv=>whnf);first|refine Zg fun _=>?_|fail))
 (apply Br.mk<;>intro)
 ·rename_i h
  (conv=>whnf)
  exact ⟨rfl,EB.supE_long g1 g2 h⟩
 rename_i g3
 refine Ask.mk ⟨{ X:=Nat,pre:=fun i=>i<=l.length/\∀j,j<i->EB.supAt n l j=0,mod:=fun i _=>[(5,I i)],heap:=fun _ H=>H,mu:=fun i=>l.length-i },rfl,?_⟩
 (repeat refine ZG ?_)
 refine ⟨⟨(0:Nat),⟨aI _,fun j hj=>absurd hj (bG _)⟩,ZE⟩,fun (i:Nat) hi=>?_⟩
 obtain ⟨hi,hb⟩:=hi
 (repeat'((conv=>whnf);first|refine Zg fun _=>?_|fail))
 (apply Br.mk<;>intro)
 ·have hlt:i<l.length:=by omega
  have bad:((l.getD i (0,0)).1<0\/n<=(l.getD i (0,0)).1\/(l.getD i (0,0)).2 < -1\/n<=(l.getD i (0,0)).2)->2=EB.supE n l:=fun h=>
   EB.supE_at g1 g2 g3 hlt hb (by unfold EB.supAt;rw[aD h]) (by decide)
  have ord:¬(l.getD i (0,0)).1=(l.getD i (0,0)).2->¬((l.getD i (0,0)).1<0\/n<=(l.getD i (0,0)).1\/(l.getD i (0,0)).2 < -1\/n<=(l.getD i (0,0)).2)->(0<i/\((l.getD i (0,0)).1<(l.getD (i-1) (0,0)).1\/(l.getD i (0,0)).1=(l.getD (i-1) (0,0)).1/\(l.getD i (0,0)).2<=(l.getD (i-1) (0,0)).2))->10=EB.supE n l:=fun h1 h2 h3=>
   EB.supE_at g1 g2 g3 hlt hb (by unfold EB.supAt;rw[aC h2,aC h1,aD ⟨h3.1,aOn.2 h3.2⟩]) (by decide)
  have fine:¬(l.getD i (0,0)).1=(l.getD i (0,0)).2->¬((l.getD i (0,0)).1<0\/n<=(l.getD i (0,0)).1\/(l.getD i (0,0)).2 < -1\/n<=(l.getD i (0,0)).2)->¬(0<i/\((l.getD i (0,0)).1<(l.getD (i-1) (0,0)).1\/(l.getD i (0,0)).1=(l.getD (i-1) (0,0)).1/\(l.getD i (0,0)).2<=(l.getD (i-1) (0,0)).2))->∀j,j<i+1->EB.supAt n l j=0:=fun h1 h2 h3 j hj=>by
   by_cases e:j=i
   ·subst e
    unfold EB.supAt
    rw[aC h2,aC h1,aC fun q=>h3 ⟨q.1,aOn.1 q.2⟩]
   exact hb j (by omega)
  (repeat'((conv=>whnf);first|refine Zg fun _=>?_|refine Zn ?_|refine Zj ?_|apply pI|apply pJ|refine Zr (fun _=>?_) fun _=>?_|fail))
  ·skip
   (conv=>whnf)
   exact ⟨rfl,bad (.inl ‹_›)⟩
  ·skip
   (conv=>whnf)
   exact ⟨rfl,bad (.inr (.inl ‹_›))⟩
  ·skip
   (conv=>whnf)
   exact ⟨rfl,bad (.inr (.inr (.inl ‹_›)))⟩
  ·skip
   (conv=>whnf)
   exact ⟨rfl,bad (.inr (.inr (.inr ‹_›)))⟩
  ·rename_i k1 k2 k3 k4 k5
   (conv=>whnf)
   exact ⟨rfl,EB.supE_at g1 g2 g3 hlt hb (by unfold EB.supAt;rw[aC (by omega),aD k5]) (by decide)⟩
  ·refine cX (i-1) (by omega) ?_
   (repeat'((conv=>whnf);first|refine Zg fun _=>?_|refine Zn ?_|apply pI|apply pJ|refine Zr (fun _=>?_) fun _=>?_|fail))
   ·skip
    (conv=>whnf)
    exact ⟨rfl,ord ‹_› (by omega) (by omega)⟩
   refine cX (i-1) (by omega) ?_
   (repeat'((conv=>whnf);first|refine Zg fun _=>?_|refine Zn ?_|apply pI|apply pJ|refine Zr (fun _=>?_) fun _=>?_|fail))
   ·refine cX (i-1) (by omega) ?_
    (repeat'((conv=>whnf);first|refine Zg fun _=>?_|refine Zn ?_|apply pI|apply pJ|refine Zr (fun _=>?_) fun _=>?_|fail))
    ·skip
     (conv=>whnf)
     exact ⟨rfl,ord ‹_› (by omega) (by omega)⟩
    skip
    refine ⟨(i+1:Nat),by show l.length-(i+1)<l.length-i;omega,⟨hlt,fine ‹_› (by omega) (by omega)⟩,?_⟩
    exact ZE
   skip
   refine ⟨(i+1:Nat),by show l.length-(i+1)<l.length-i;omega,⟨hlt,fine ‹_› (by omega) (by omega)⟩,?_⟩
   exact ZE
  skip
  refine ⟨(i+1:Nat),by show l.length-(i+1)<l.length-i;omega,⟨hlt,fine ‹_› (by omega) (by omega)⟩,?_⟩
  exact ZE
 have hii:i=l.length:=by omega
 subst hii
 (conv=>whnf)
 exact ⟨rfl,EB.supE_ok g1 g2 g3 hb⟩
def finP (n:Int) (l:List (Int × Int)):Prop:=¬grtP n l/\EB.supE n l=0
def aSu:Con:=bB 17 true fun args K=>match args with | [.val (.int .i64 n),.seq (.pair (.int .i64) (.int .i64)) l]=>K (.bl (finP n l) Cp) | _=>False
theorem aYj:aS Tryz.prog aSu:=by
 refine kQ {} Tryz.func17 Tryz.ntmps17 (kc aYh (kc aGc kn)) fun _ _ h=>?_
 split at h
 case h_2=>exact h.elim
 rename_i n l
 change List (Int × Int) at l
 refine kb h ?_
 by_cases h:grtP n l
 ·have e:¬finP n l:=fun q=>q.1 h
  generalize finP n l=M at e ⊢
  (repeat refine ZR ?_)
  (conv=>whnf)
  all_goals exact e
 have e:EB.supE n l=0↔finP n l:=⟨fun q=>⟨h,q⟩,fun q=>q.2⟩
 generalize finP n l=M at e ⊢
 (repeat refine ZR ?_)
 (conv=>whnf)
 all_goals exact e
def isR (a b:Int) (r:Int × Int):Prop:=(a,b)=r
def c3056:Con:=bB 56 true fun args K=>match args with | [.seq (.pair (.int .i64) (.int .i64)) l,.agg [.val (.int .i64 a),.val (.int .i64 b)]]=>K (I (ixG (isR a b) l)) | _=>False
theorem k3056:aS Tryz.prog c3056:=by
 refine kQ { asks:=[(0,[])] } Tryz.func56 Tryz.ntmps56 kn fun _ _ h=>?_
 split at h
 case h_2=>exact h.elim
 rename_i l a b
 change List (Int × Int) at l
 refine kb h ?_
 (repeat'((conv=>whnf);first|refine Zg fun _=>?_|fail))
 refine Ask.mk ⟨{ X:=Nat,pre:=fun j=>j<=l.length/\∀q,q<j->¬isR a b (l.getD q (0,0)),mod:=fun j _=>[(8,I j)],heap:=fun _ H=>H,mu:=fun j=>l.length-j },rfl,?_⟩
 (repeat refine ZG ?_)
 refine ⟨⟨(0:Nat),⟨aI _,fun q hq=>absurd hq (bG _)⟩,ZE⟩,fun (j:Nat) hj=>?_⟩
 obtain ⟨hj,hp⟩:=hj
 by_cases hlt:j<l.length
 ·by_cases hb:isR a b (l.getD j (0,0))
  ·have hq:a=(l.getD j (0,0)).1/\b=(l.getD j (0,0)).2:=by unfold isR at hb;rw[<- hb];exact ⟨rfl,rfl⟩
   have e:=yC (isR a b) ((0,0):Int × Int) hlt hb hp
   rw[e]
   (repeat'((conv=>whnf);first|refine Zg fun _=>?_|refine Zn ?_|refine Zj ?_|apply pI|apply pJ|refine Zy ?_|fail))
   exact ZF
  have hq:¬(a=(l.getD j (0,0)).1/\b=(l.getD j (0,0)).2):=fun q=>hb (gI q.1 q.2)
  (repeat'((conv=>whnf);first|refine Zg fun _=>?_|refine Zn ?_|refine Zj ?_|apply pI|apply pJ|refine Zy ?_|refine Zm ?_|fail))
  refine ⟨(j+1:Nat),by show l.length-(j+1)<l.length-j;omega,⟨hlt,fun q hq=>?_⟩,ZE⟩
  by_cases e:q=j
  ·subst e;exact hb
  exact hp q (by omega)
 have e:j=l.length:=by omega
 subst e
 rw[yD (isR a b) ((0,0):Int × Int) hp]
 exact ZRF
theorem aY6 (l:List (Int × Int)) (a b:Int):0<=ixG (isR a b) l↔(a,b)∈l:=by
 rw[rQ (isR a b) l ((0,0):Int × Int)]
 constructor
 ·rintro ⟨j,hj,h⟩
  unfold isR at h
  rw[h,aB,aH hj];exact cU hj
 intro hr
 obtain ⟨j,hj,e⟩:=bV hr
 refine ⟨j,hj,?_⟩
 unfold isR
 rw[aB,aH hj]
 exact e.symm
def aYk:Con:=bB 20 true fun args K=>match args with | [.seq (.pair (.int .i64) (.int .i64)) l,.agg [.val (.int .i64 a),.val (.int .i64 b)]]=>K (.bl ((a,b)∈l) Cp) | _=>False
theorem k3020:aS Tryz.prog aYk:=by
 refine kQ {} Tryz.func20 Tryz.ntmps20 (kc k3056 kn) fun _ _ h=>?_
 split at h
 case h_2=>exact h.elim
 rename_i l a b
 change List (Int × Int) at l
 refine kb h ?_
 have e:=aY6 l a b
 generalize ((a,b)∈l)=M at e ⊢
 (conv=>whnf)
 all_goals exact e
open Classical in
noncomputable def lstF (on:List (List Int)):Nat->Int
 | 0=> -1
 | i+1=>if lstF on i<0/\EB.Way on i i then i else lstF on i
theorem aOo {on:List (List Int)}:∀ {i:Nat},(∀j:Nat,j<i->¬EB.Way on j j)->lstF on i= -1
 | 0,_=>rfl
 | i+1,h=>by
  unfold lstF
  rw[aC fun q=>h i (cS _) q.2]
  exact aOo fun j hj=>h j (by omega)
theorem aOp {on:List (List Int)} {m:Nat} (hm:EB.Way on m m) (h:∀j:Nat,j<m->¬EB.Way on j j):∀ {i:Nat},m<i->lstF on i=m
 | 0,h0=>absurd h0 (bG _)
 | i+1,h0=>by
  unfold lstF
  by_cases e:m=i
  ·subst e
   rw[aD ⟨by rw[aOo h];decide,hm⟩]
  rw[aOp hm h (i:=i) (by omega),aC fun q=>absurd q.1 (by omega)]
theorem b3008 (n:Int) (l:List (Int × Int)):body Tryz.prog [aSu,aOm,SB.c3027,SB.c3018,SB.c3029,EB.c21,aYk] { asks:=[(0,[]),(2,[])] } true Tryz.f8 [I n,.seq tRr l] (.val (.bool true)):=by
 by_cases hf:finP n l
 case neg=>
  (repeat refine ZR ?_)
  (conv=>whnf)
 have hs:=hf.2
 have hro:=EB.supE_rests hs
 obtain ⟨r1,r2,r3,r4⟩:=id hro
 have hrw:=EB.onL_rows hro
 have hol:=EB.onL_len n l
 have hce:EB.cycE n l=0:=by unfold EB.cycE;rw[aD hs]
 by_cases hc:EB.cycP n l
 case neg=>
  have hl:¬EB.Loops (EB.onL n l) n:=fun q=>hc ⟨hs,q⟩
  obtain ⟨w1,w2⟩:=EB.rk_len hs hl
  have hcr:=EB.cycR_no hc
  have k1:¬ ¬(EB.cycP n l↔EB.rkE n l=27):=fun q=>q ⟨fun a=>absurd a hc,fun a=>absurd (w1.symm.trans a) (by decide)⟩
  have k2:¬ ¬(EB.cycP n l↔0<((EB.cycR n l).length:Int)):=fun q=>q ⟨fun a=>absurd a hc,fun a=>absurd a (by rw[hcr];decide)⟩
  have hno:∀j:Nat,j<n.toNat->¬EB.Way (EB.onL n l) j j:=fun j hj hw=>hl ⟨j,⟨by omega,by omega⟩,hw⟩
  (repeat' first|refine ZR ?_|refine Zg fun _=>?_)
  refine Ask.mk ⟨{ X:=Nat,pre:=fun i=>i<=n.toNat,mod:=fun i _=>[(10,I (-1)),(50,I i)],heap:=fun _ H=>H,mu:=fun i=>n.toNat-i },rfl,?_⟩
  (repeat refine ZG ?_)
  refine ⟨⟨(0:Nat),aI _,ZE⟩,fun (i:Nat) hi=>?_⟩
  have hi:i<=n.toNat:=hi
  by_cases hlt:i<n.toNat
  ·have hb1:EB.belE n l i=0:=by unfold EB.belE;rw[aD hs,aD ⟨by omega,by omega⟩]
   have hb2:¬(i:Int)∈EB.belR n l i:=by
    have e:EB.belR n l i=EB.belL (EB.onL n l) i:=aD ⟨hs,by omega,by omega⟩
    rw[e,EB.belL_mem hrw];exact hno i hlt
   (repeat refine ZR ?_)
   refine ⟨(i+1:Nat),by show n.toNat-(i+1)<n.toNat-i;omega,hlt,?_⟩
   exact ZE
  (repeat refine ZR ?_)
  (conv=>whnf)
 obtain ⟨w1,w2⟩:=EB.rk_loop hs hc.2
 obtain ⟨c0,hc0⟩:=EB.cyc0_ex hrw hc.2
 have hcw:=hc0.1.2
 have hcn:0<=(c0:Int)/\(c0:Int)<n:=by have:=hc0.1.1;omega
 obtain ⟨K,hK⟩:=EB.it_back hrw hcn hcw
 have hcr:=EB.cycR_yes hc hc0 hK
 have hlen:(EB.cycR n l).length=K:=by rw[hcr,EB.itL_len]
 have hK1:1<=K:=hK.1.1
 have hget:∀j,j<K->(EB.cycR n l).getD j 0=EB.itC (EB.onL n l) c0 j:=fun j hj=>by rw[hcr,EB.itL_get _ _ hj]
 have hleast:∀j:Nat,j<c0->¬EB.Way (EB.onL n l) j j:=fun j hj hw=>hc0.2 j hj ⟨by have:=hc0.1.1;omega,hw⟩
 have k1:¬ ¬(EB.cycP n l↔EB.rkE n l=27):=fun q=>q ⟨fun _=>w1,fun _=>hc⟩
 have k2:¬ ¬(EB.cycP n l↔0<((EB.cycR n l).length:Int)):=fun q=>q ⟨fun _=>by omega,fun _=>hc⟩
 (repeat' first|refine ZR ?_|refine Zg fun _=>?_)
 refine Ask.mk ⟨{ X:=Nat,pre:=fun i=>i<=n.toNat,mod:=fun i _=>[(10,I (lstF (EB.onL n l) i)),(50,I i)],heap:=fun _ H=>H,mu:=fun i=>n.toNat-i },rfl,?_⟩
 (repeat refine ZG ?_)
 refine ⟨⟨(0:Nat),aI _,ZE⟩,fun (i:Nat) hi=>?_⟩
 have hi:i<=n.toNat:=hi
 by_cases hlt:i<n.toNat
 ·have hb1:EB.belE n l i=0:=by unfold EB.belE;rw[aD hs,aD ⟨by omega,by omega⟩]
  have e:EB.belR n l i=EB.belL (EB.onL n l) i:=aD ⟨hs,by omega,by omega⟩
  have hb2:(i:Int)∈EB.belR n l i↔EB.Way (EB.onL n l) i i:=by rw[e,EB.belL_mem hrw]
  by_cases q1:lstF (EB.onL n l) i<0
  ·by_cases q2:EB.Way (EB.onL n l) i i
   ·have hst:lstF (EB.onL n l) (i+1)=(i:Int):=by unfold lstF;rw[aD ⟨q1,q2⟩]
    have q3:=hb2.2 q2
    (repeat refine ZR ?_)
    refine ⟨(i+1:Nat),by show n.toNat-(i+1)<n.toNat-i;omega,hlt,?_⟩
    exact ZEx hst.symm
   have hst:lstF (EB.onL n l) (i+1)=lstF (EB.onL n l) i:=by rw[lstF];exact aC fun q=>q2 q.2
   have q3:¬(i:Int)∈EB.belR n l i:=fun q=>q2 (hb2.1 q)
   (repeat refine ZR ?_)
   refine ⟨(i+1:Nat),by show n.toNat-(i+1)<n.toNat-i;omega,hlt,?_⟩
   exact ZEx hst.symm
  have hst:lstF (EB.onL n l) (i+1)=lstF (EB.onL n l) i:=by rw[lstF];exact aC fun q=>q1 q.1
  (repeat refine ZR ?_)
  refine ⟨(i+1:Nat),by show n.toNat-(i+1)<n.toNat-i;omega,hlt,?_⟩
  exact ZEx hst.symm
 have hin:i=n.toNat:=by omega
 subst hin
 have hlf:lstF (EB.onL n l) n.toNat=c0:=aOp hcw hleast (by omega)
 have hq0:(EB.cycR n l).getD 0 0=lstF (EB.onL n l) n.toNat:=by rw[hlf,hget 0 hK1];rfl
 have hpos:0<(EB.cycR n l).length:=by omega
 have hmem:∀i,i<(EB.cycR n l).length->((EB.cycR n l).getD i 0,(EB.cycR n l).getD ((i+1)% (EB.cycR n l).length) 0)∈l:=fun i hi=>by
  have hed:=EB.it_edge hrw hcn hcw i
  have hnx:(EB.cycR n l).getD ((i+1)% (EB.cycR n l).length) 0=EB.itC (EB.onL n l) c0 (i+1):=by
   rw[hlen] at hi ⊢
   by_cases e:i+1=K
   ·rw[e,Nat.mod_self,hget 0 hK1,hK.1.2];rfl
   rw[fQ (by omega),hget _ (by omega)]
  rw[hnx,hget i (by omega)]
  exact ((EB.onL_edge (EB.it_near hrw hcn hcw i).1).1 hed).2
 have hnot:∀i,i<(EB.cycR n l).length->¬(EB.cycR n l).getD i 0∈(EB.cycR n l).take i:=fun i hi hm=>by
  obtain ⟨j,hj,e⟩:=bV hm
  rw[bA] at hj
  rw[List.getElem_take] at e
  have e2:(EB.cycR n l).getD j 0=(EB.cycR n l).getD i 0:=by
   rw[<- e,aB,aH (by omega)];rfl
  rw[hget j (by omega),hget i (by omega)] at e2
  exact EB.it_diff hrw hcn hcw hK (show j<i by omega) (by omega) e2
 (repeat' first|refine ZR ?_|refine Zg fun _=>?_)
 refine Ask.mk ⟨{ X:=Nat,pre:=fun i=>i<=(EB.cycR n l).length,mod:=fun i _=>[(80,I i)],heap:=fun _ H=>H,mu:=fun i=>(EB.cycR n l).length-i },rfl,?_⟩
 (repeat refine ZG ?_)
 refine ⟨⟨(0:Nat),aI _,ZE⟩,fun (i:Nat) hi=>?_⟩
 have hi:i<=(EB.cycR n l).length:=hi
 by_cases hlt:i<(EB.cycR n l).length
 ·have hm:=hmem i hlt
  have hn:=hnot i hlt
  (repeat'((conv=>whnf);first|refine Zg fun _=>?_|refine Za ?_|refine Zn ?_|refine Zj ?_|refine Zy ?_|fail))
  refine Need.mk ⟨gE _ (by omega),dX _ (by omega)⟩ ?_
  (conv=>whnf)
  refine cX ((i+1)% (EB.cycR n l).length) (tF (i+1) (EB.cycR n l).length).symm ?_
  (repeat' first|refine ZR ?_|refine Zg fun _=>?_)
  refine ⟨(i+1:Nat),by show (EB.cycR n l).length-(i+1)<(EB.cycR n l).length-i;omega,hlt,?_⟩
  exact ZE
 (repeat' first|refine ZR ?_|refine Zg fun _=>?_)
 (conv=>whnf)
theorem t3008 (n:Int) (l:List (Int × Int)) (_:inK .i64 n) (_:Okd (.slice tRr) l):Tri Tryz.prog true 8 [I n,.seq tRr l] (.val (.bool true)):=
 triB Tryz.func8 Tryz.ntmps8 (by simp[aYj,aSt,SB.k3027,SB.k3018,SB.k3029,EB.k21,k3020]) (b3008 n l)
end RB
end
section
set_option maxRecDepth 100000
namespace Go.Proofs
open Go.Shelf
def RL.lP_ren:Go.Shelf.Ren:=⟨fun | 189=>37 | 125=>68 | 257=>67 | 128=>110 | 129=>111 | 294=>102 | 295=>103 | 296=>104 | 297=>105 | 298=>106 | 299=>107 | 216=>57 | 300=>108 | 301=>109 | 328=>137 | 329=>138 | 330=>139 | 331=>140 | 332=>141 | 215=>99 | 343=>180 | n=>n,fun | 28=>41 | 3=>3 | 46=>108 | 0=>0 | 51=>140 | 53=>142 | 4=>4 | 183=>133 | 182=>132 | 131=>137 | 5=>5 | 9=>9 | 218=>171 | 222=>175 | 228=>220 | 229=>221 | n=>n,fun | n=>n⟩
theorem RL.lP:Go.Proofs.Lays.n189 Tryz.prog RL.lP_ren where
 mixed:=by kernel_rfl
 f125:=Tryz.func68.trans (aO some (by kernel_rfl))
 f128:=Tryz.func110.trans (aO some (by kernel_rfl))
 f129:=Tryz.func111.trans (aO some (by kernel_rfl))
 f189:=Tryz.func37.trans (aO some (by kernel_rfl))
 f215:=Tryz.func99.trans (aO some (by kernel_rfl))
 f216:=Tryz.func57.trans (aO some (by kernel_rfl))
 f257:=Tryz.func67.trans (aO some (by kernel_rfl))
 f294:=Tryz.func102.trans (aO some (by kernel_rfl))
 f295:=Tryz.func103.trans (aO some (by kernel_rfl))
 f296:=Tryz.func104.trans (aO some (by kernel_rfl))
 f297:=Tryz.func105.trans (aO some (by kernel_rfl))
 f298:=Tryz.func106.trans (aO some (by kernel_rfl))
 f299:=Tryz.func107.trans (aO some (by kernel_rfl))
 f300:=Tryz.func108.trans (aO some (by kernel_rfl))
 f301:=Tryz.func109.trans (aO some (by kernel_rfl))
 f328:=Tryz.func137.trans (aO some (by kernel_rfl))
 f329:=Tryz.func138.trans (aO some (by kernel_rfl))
 f330:=Tryz.func139.trans (aO some (by kernel_rfl))
 f331:=Tryz.func140.trans (aO some (by kernel_rfl))
 f332:=Tryz.func141.trans (aO some (by kernel_rfl))
 f343:=Tryz.func180.trans (aO some (by kernel_rfl))
 t0:=Tryz.underlying0
 a0:=Tryz.isAgg0
 z0:=Tryz.sizeOf0
 v0:=Tryz.zeroValue0
 t3:=Tryz.underlying3
 a3:=Tryz.isAgg3
 z3:=Tryz.sizeOf3
 v3:=Tryz.zeroValue3
 t4:=Tryz.underlying4
 a4:=Tryz.isAgg4
 z4:=Tryz.sizeOf4
 v4:=Tryz.zeroValue4
 t5:=Tryz.underlying5
 a5:=Tryz.isAgg5
 z5:=Tryz.sizeOf5
 v5:=Tryz.zeroValue5
 t9:=Tryz.underlying9
 a9:=Tryz.isAgg9
 z9:=Tryz.sizeOf9
 v9:=Tryz.zeroValue9
 t28:=Tryz.underlying41
 a28:=Tryz.isAgg41
 z28:=Tryz.sizeOf41
 v28:=Tryz.zeroValue41
 t46:=Tryz.underlying108
 a46:=Tryz.isAgg108
 z46:=Tryz.sizeOf108
 v46:=Tryz.zeroValue108
 t51:=Tryz.underlying140
 a51:=Tryz.isAgg140
 z51:=Tryz.sizeOf140
 v51:=Tryz.zeroValue140
 t53:=Tryz.underlying142
 a53:=Tryz.isAgg142
 z53:=Tryz.sizeOf142
 v53:=Tryz.zeroValue142
 t131:=Tryz.underlying137
 a131:=Tryz.isAgg137
 z131:=Tryz.sizeOf137
 v131:=Tryz.zeroValue137
 t182:=Tryz.underlying132
 a182:=Tryz.isAgg132
 z182:=Tryz.sizeOf132
 v182:=Tryz.zeroValue132
 t183:=Tryz.underlying133
 a183:=Tryz.isAgg133
 z183:=Tryz.sizeOf133
 v183:=Tryz.zeroValue133
 t218:=Tryz.underlying171
 a218:=Tryz.isAgg171
 z218:=Tryz.sizeOf171
 v218:=Tryz.zeroValue171
 t222:=Tryz.underlying175
 a222:=Tryz.isAgg175
 z222:=Tryz.sizeOf175
 v222:=Tryz.zeroValue175
 t228:=Tryz.underlying220
 a228:=Tryz.isAgg220
 z228:=Tryz.sizeOf220
 v228:=Tryz.zeroValue220
 t229:=Tryz.underlying221
 a229:=Tryz.isAgg221
 z229:=Tryz.sizeOf221
 v229:=Tryz.zeroValue221
end Go.Proofs
end
section
open Go Go.Proofs Go.Eng Go.Shelf IB Go.Lib Go.RowKit
namespace RB
noncomputable abbrev srI (l:List Int):List Int:=l.mergeSort fun x y=>decide (x<=y)
theorem take_one (d:List Int) (i:Nat) (h:i<d.length):((d.map (Value.int .i64)).drop (i*1)).take 1= [Value.int .i64 (d.getD i 0)]:=by
 have h2:i<(d.map (Value.int .i64)).length:=by rw[pQ];exact h
 rw[dU,jE h2,List.take_succ_cons,List.take_zero,List.getElem_map,aB,aH h]
 rfl
theorem aQg (d:List Int) (c:Array Value) (h:d.length<=c.size):(Go.Sort.putCells (Value.int .i64) 0 d.toArray c).toList.take d.length=d.map (Value.int .i64):=by
 apply cK
 intro i
 by_cases hi:i<d.length
 ·rw[aJ,aD hi,eJ]
  simp only[Go.Sort.putCells,Array.getElem?_mapIdx]
  rw[jF (by omega)]
  simp[hi]
 rw[bN (by simp;omega),bN (by simp;omega)]
def aYe:Con:=aDi 37 0 true fun args o K=>match args,o with | [.any],.vec 1 (.int .i64) xs e=>K (.tup []) (.vec 1 (.int .i64) (srI xs) e) | _,_=>False
theorem aSn (xs:List Int) (e:TypeId):LTri Tryz.prog 37 0 true [.any] (.int .i64) xs e (.tup []) (srI xs):=by
 intro ok w vs L hw hok hb hR hv hp
 obtain ⟨hl,hm,us,ho,hr⟩:=hR
 have hvs:vs= [L.head]:=by
  obtain ⟨v,rfl,_⟩:=hv.one
  simpa using hp
 subst hvs
 change L.len=xs.length at hl
 have hT:Rel (env0 w fun _=>False) (.tup []) (.tuple #[]):=.tup _ [] .nil
 rcases cE ho with ⟨h1,h2,h3,_⟩ | ⟨g,cur,h1,h2,h3,h4,h5,h6,h7⟩
 ·have hx:xs= []:=List.length_eq_zero_iff.mp (by omega)
  subst hx
  have hh:L.head= .slice none 0 0:=by simp[Core.head,h1,h2,h3]
  rw[hh]
  refine (Any.slices_Sort_int_none RL.lP none 0 w).mono ?_
  rintro en w' ⟨rfl,rfl⟩
  refine ⟨_,L,rfl,⟨rfl,rfl,rfl,aM _,fun _ _ _=>rfl⟩,fun _=>rfl,fun b hb=>.inl hb,?_,.inr ⟨rfl,hT⟩⟩
  have:srI []= []:=by simp[srI]
  rw[this]
  exact ⟨hl,hm,us,ho,hr⟩
 have hsz:cur.toList.length=cur.size:=by simp
 have hh:L.head= .slice (some ⟨g,0,none⟩) xs.length L.cap:=by simp[Core.head,h1,h2,hl]
 have hg:g<w.heap.size:=by
  rcases Nat.lt_or_ge g w.heap.size with h | h
  ·exact h
  rw[Array.getElem?_eq_none h] at h3;cases h3
 have hus:∀i,i<xs.length->cur[i]? =some (.int .i64 (xs.getD i 0))/\inK .i64 (xs.getD i 0):=fun i hi=>by
  have:=hr i (by omega)
  obtain ⟨q,hk⟩:=this
  refine ⟨?_,hk⟩
  have q':=aO (fun l=>l[0]?) q
  simp only[Ty.size,dU] at q' h7
  rw[aJ,aD (by omega),aT,<- h7,aJ,aD (by omega),eJ] at q'
  simpa [Ty.dflt,aB] using q'
 have hH:Go.Sort.Holds (Value.int .i64) w g 0 xs.toArray:=fun j hj=>by
  have hj':j<xs.length:=by simpa using hj
  constructor
  ·unfold World.cell?
   rw[h3]
   simp only[dB]
   rw[aC (by simp),(hus j hj').1]
   simp[aB,hj']
  unfold World.frozen?
  rw[h3]
  simp
 rw[hh]
 refine (Any.slices_Sort_int RL.lP g 0 L.cap xs w hH hg (by simp only[maxL] at hm;omega)).mono ?_
 rintro en w' ⟨rfl,n,os,rfl⟩
 have hpm:(srI xs).Perm xs:=List.mergeSort_perm _ _
 have hln:(srI xs).length=xs.length:=hpm.length_eq
 have hcs:xs.length<=cur.size:=by
  have:=h6;simp only[Ty.size] at this;omega
 have hgr:∀b,b<w.heap.size->(Go.Sort.grow (Go.Sort.putRow (Value.int .i64) (Go.Sort.ahead w n) g 0 (srI xs).toArray) os).heap[b]? =if g=b then some (.cells (Go.Sort.putCells (Value.int .i64) 0 (srI xs).toArray cur) e (0,0)) else w.heap[b]? :=fun b hb'=>by
  show (Array.modify w.heap g _++os)[b]? = _
  rw[Array.getElem?_append_left (by simpa using hb'),lE]
  by_cases hgb:g=b
  ·subst hgb
   rw[aD rfl,aD rfl,h3];rfl
  rw[aC hgb,aC hgb]
 refine ⟨_,L,rfl,⟨rfl,rfl,rfl,?_,fun b hb' hne=>?_⟩,fun _=>rfl,fun b hb=>.inl hb,?_,.inr ⟨rfl,.tup _ [] .nil⟩⟩
 ·show w.heap.size<=(Array.modify w.heap g _++os).size
  simp
 ·rw[hgr b hb',aC]
  intro h
  subst h
  exact hne (by rw[h1];rfl)
 have hps:(Go.Sort.putCells (Value.int .i64) 0 (srI xs).toArray cur).size=cur.size:=by simp[Go.Sort.putCells]
 refine ⟨hl.trans hln.symm,hm,(srI xs).map (Value.int .i64),⟨?_,.inr ⟨g,L.cap,_,?_,aI _,(hgr g hg).trans (aD rfl),by omega,h5,by rw[hps];exact h6,?_⟩⟩,fun i hi=>?_⟩
 ·simp[Ty.size,hln,hl]
 ·simp[Core.head,h1]
 ·have:=aQg (srI xs) cur (by omega)
  simpa [Ty.size,hln,hl] using this
 have hi':i<(srI xs).length:=by omega
 have hmem:(srI xs).getD i 0∈xs:=by
  rw[<- hpm.mem_iff,aB,aH hi']
  exact cU hi'
 obtain ⟨j,hj,hje⟩:=bV hmem
 refine ⟨?_,?_⟩
 ·exact take_one (srI xs) i hi'
 have:=(hus j hj).2
 rw[aB,aH hj] at this
 show inK .i64 ((srI xs).getD i 0)
 rw[<- hje];exact this
theorem k3037:aS Tryz.prog aYe:=by
 refine zS (enters_of Tryz.func37 (by kernel_rfl) rfl) ?_
 intro args t xs e K hfl h
 split at h
 ·rename_i zs heq
  cases heq
  exact ⟨_,_,h,aSn _ _⟩
 exact h.elim
theorem aAs (x y:Int):∀l:List Int,EB.cptI (l++ [x,y])=if x=y then EB.cptI (l++ [x]) else EB.cptI (l++ [x])++ [y]
 | []=>by
  show EB.cptI [x,y]=if x=y then EB.cptI [x] else EB.cptI [x]++ [y]
  rw[EB.cptI_two]
  by_cases h:x=y
  ·rw[aD h,aD h,h]
  rw[aC h,aC h];rfl
 | [a]=>by
  show EB.cptI [a,x,y]=if x=y then EB.cptI [a,x] else EB.cptI [a,x]++ [y]
  have ih:=aAs x y []
  simp only[iE] at ih
  rw[EB.cptI_two,ih,EB.cptI_two]
  by_cases h:a=x
  ·simp only[aD h]
  simp only[aC h]
  by_cases h2:x=y
  ·simp only[aD h2]
  simp only[aC h2];rfl
 | a::b::r=>by
  have ih:=aAs x y (b::r)
  simp only[gN] at ih ⊢
  rw[EB.cptI_two,ih,EB.cptI_two]
  by_cases h:a=b
  ·simp only[aD h]
  simp only[aC h]
  by_cases h2:x=y
  ·simp only[aD h2]
  simp only[aC h2];rfl
theorem tL {α:Type} {xs:List α} {m:Nat} (d:α) (h:m<xs.length):xs.take (m+1)=xs.take m++ [xs.getD m d]:=by
 rw[dA h]
 simp[aB,h]
theorem aC7 {xs:List Int} {m:Nat} (d:Int) (hm:1<=m) (h:m<xs.length):EB.cptI (xs.take (m+1))=if xs.getD (m-1) d=xs.getD m d then EB.cptI (xs.take m) else EB.cptI (xs.take m)++ [xs.getD m d]:=by
 obtain ⟨k,rfl⟩:∃k,m=k+1:=⟨m-1,by omega⟩
 rw[tL d h,tL d (show k<xs.length by omega),bZ]
 exact aAs _ _ _
theorem aGb {α:Type} {xs ys:List α} {k i:Nat} (d:α) (h:ys.drop k=xs.drop k) (hi:k<=i):ys.getD i d=xs.getD i d:=by
 have e:∀l:List α,l.getD i d=(l.drop k).getD (i-k) d:=fun l=>by
  rw[aB,aB,aT,show k+(i-k)=i by omega]
 rw[e,e,h]
theorem aC8 {α:Type} {xs ys:List α} {k j:Nat} (h:ys.drop k=xs.drop k) (hj:k<=j):ys.drop j=xs.drop j:=by
 have:=aO (List.drop (j-k)) h
 rwa [dJ,dJ,show k+(j-k)=j by omega] at this
theorem aQh {α:Type} (xs ys:List α) (p:Nat) (h:p<=xs.length):(layL xs p ys).take p=xs.take p:=by
 have h1:(xs.take p).length=p:=by rw[bA];omega
 unfold layL
 first
  | rw[fD (by rw[aQ,h1];omega),fD (by omega),gA,Nat.min_self]
  | rw[fD (by omega),gA,Nat.min_self]
theorem aQi {α:Type} {ys:List α} {k:Nat} (v:α) (h:k<ys.length):(ys.set k v).take (k+1)=ys.take k++ [v]:=by
 rw[tL v (by rw[cV];exact h),List.take_set,List.set_eq_of_length_le (by rw[bA];omega)]
 simp[aB,h]
theorem ixAw {n:Int} {C:Nat->Prop} (j:Nat) (e:n=j) (h:C j):Ix n C:=⟨fun i h'=>by
 have:j=i:=by omega
 subst this;exact h⟩
theorem aY4 (xs:List Int) (h:xs.length<=4000000):aGj Tryz.prog [] { asks:=[(0,[]),(2,[])] } Tryz.f26 0 false [.any] (.int .i64) xs 3 (.ref 0 1) (EB.cptI xs):=by
 by_cases h2:xs.length<2
 ·have e:EB.cptI xs=xs:=by
   match xs,h2 with
   | [],_=>rfl
   | [x],_=>rfl
   | _:: _:: _,h=>simp at h;omega
  rw[e]
  exact ZRF
 (repeat' first|refine ZR ?_|refine Zg fun _=>?_)
 refine Ask.mk ⟨{ X:=Nat,pre:=fun i=>(1<=i/\i<=xs.length)/\EB.cptI (xs.take i)=xs.take i,mod:=fun i _=>[(3,I i)],heap:=fun i H=>H,mu:=fun i=>xs.length-i },rfl,?_⟩
 (repeat refine ZG ?_)
 refine ⟨⟨(1:Nat),⟨⟨aM _,by omega⟩,?_⟩,?_⟩,fun (i:Nat) hi=>?_⟩
 ·match xs,h2 with
  | [],_=>rfl
  | x:: _,_=>rfl
 ·exact ZE
 obtain ⟨⟨hi1,hi2⟩,hp⟩:=hi
 by_cases hlt:i<xs.length
 ·have hs:=aC7 (xs:=xs) (m:=i) 0 hi1 hlt
  have ht:=tL (xs:=xs) 0 hlt
  by_cases he:xs.getD (i-1) 0=xs.getD i 0
  ·rw[aD he,hp] at hs
   have he':=he.symm
   obtain ⟨p,rfl⟩:∃p,i=p+1:=⟨i-1,by omega⟩
   (repeat'((conv=>whnf);first|refine Zg fun _=>?_|refine Zn ?_|refine Zj ?_|apply pI|apply pJ|refine Zy ?_|fail))
   refine ixAw p (by omega) ?_
   (repeat'((conv=>whnf);first|refine Zg fun _=>?_|apply pI|apply pJ|refine Zy ?_|fail))
   refine Own.r ?_
   (repeat refine ZX ?_)
   refine Ask.mk ⟨{ X:=Nat × Nat × List Int,pre:=fun z=>(1<=z.1/\(p+1)+z.1<=xs.length/\z.2.1+1<=(p+1)+z.1)/\List.length z.2.2=xs.length/\z.2.2.take z.2.1=EB.cptI (xs.take ((p+1)+z.1))/\z.2.2.drop ((p+1)+z.1-1)=xs.drop ((p+1)+z.1-1),mod:=fun z _=>[(3,I z.2.1),(5,I z.1)],heap:=fun z H=>[.vec 1 (.int .i64) z.2.2 3,hget H 1],mu:=fun z=>xs.length-z.1 },rfl,?_⟩
   (repeat refine ZG ?_)
   refine ⟨⟨((1:Nat),((p+1):Nat),xs),⟨⟨aM _,by omega,aM _⟩,rfl,hs.symm,rfl⟩,?_⟩,fun (z:Nat × Nat × List Int) hz=>?_⟩
   ·exact ZE
   obtain ⟨⟨g1,g2,g3⟩,g4,g5,g6⟩:=hz
   by_cases hz:(p+1)+z.1<xs.length
   ·have r1:=aGb (i:=(p+1)+z.1) 0 g6 (by omega)
    have r2:=aGb (i:=(p+1)+(z.1-1)) 0 g6 (by omega)
    have ps:=aC7 (xs:=xs) (m:=(p+1)+z.1) 0 (by omega) hz
    rw[show (p+1)+z.1-1=(p+1)+(z.1-1) by omega] at ps g6
    by_cases hq:xs.getD ((p+1)+(z.1-1)) 0=xs.getD ((p+1)+z.1) 0
    ·rw[aD hq] at ps
     have hq':¬ ¬z.2.2.getD ((p+1)+z.1) 0=z.2.2.getD ((p+1)+(z.1-1)) 0:=by rw[r1,r2];exact fun h=>h hq.symm
     (repeat'((conv=>whnf);first|refine Zg fun _=>?_|refine Zn ?_|refine Zj ?_|apply pI|apply pJ|refine Zy ?_|fail))
     refine ixAw (z.1-1) (by omega) ?_
     (repeat'((conv=>whnf);first|refine Zg fun _=>?_|refine Zn ?_|apply pI|apply pJ|refine Zm ?_|fail))
     refine ⟨((z.1+1:Nat),(z.2.1:Nat),z.2.2),by show xs.length-(z.1+1)<xs.length-z.1;omega,⟨⟨Nat.le_succ_of_le g1,hz,Nat.le_succ_of_le g3⟩,g4,g5.trans ps.symm,aC8 g6 (show p+1+(z.1-1)<=p+1+(z.1+1)-1 by omega)⟩,?_⟩
     exact ZE
    rw[aC hq] at ps
    have hq':¬z.2.2.getD ((p+1)+z.1) 0=z.2.2.getD ((p+1)+(z.1-1)) 0:=by rw[r1,r2];exact fun h=>hq h.symm
    (repeat'((conv=>whnf);first|refine Zg fun _=>?_|refine Zn ?_|refine Zj ?_|apply pI|apply pJ|refine Zy ?_|fail))
    refine ixAw (z.1-1) (by omega) ?_
    (repeat'((conv=>whnf);first|refine Zg fun _=>?_|refine Zn ?_|refine Zj ?_|apply pI|apply pJ|refine Zy ?_|fail))
    refine ⟨((z.1+1:Nat),(z.2.1+1:Nat),z.2.2.set z.2.1 (z.2.2.getD (p+1+z.1) 0)),by show xs.length-(z.1+1)<xs.length-z.1;omega,⟨⟨Nat.le_succ_of_le g1,hz,by show z.2.1+1+1<=p+1+(z.1+1);omega⟩,by show List.length (z.2.2.set _ _)= _;rw[cV];exact g4,?_,?_⟩,?_⟩
    ·show List.take (z.2.1+1) (z.2.2.set z.2.1 _)=EB.cptI (xs.take (p+1+z.1+1))
     rw[aQi _ (by omega),ps,g5,r1]
    ·show List.drop (p+1+(z.1+1)-1) (z.2.2.set z.2.1 _)= _
     rw[List.drop_set,aD (by omega)]
     exact aC8 g6 (by omega)
    exact ZE
   have e:(p+1)+z.1=xs.length:=by omega
   rw[e,fP] at g5
   rw[<- g5]
   have hll:(layL z.2.2 z.2.1 (List.replicate (z.2.2.length-z.2.1) (0:Int))).length=z.2.2.length:=qY _ _ _ (by rw[cC];omega)
   (repeat refine ZX ?_)
   (conv=>whnf)
   refine Own.r ?_
   (repeat refine ZX ?_)
   (conv=>whnf)
   refine Own.l ?_
   refine Own.r ?_
   (repeat refine ZX ?_)
   (repeat' first|rfl|apply aA)
   exact aQh _ _ _ (show z.2.1<=z.2.2.length by omega)
  rw[aC he,hp] at hs
  have he':¬xs.getD i 0=xs.getD (i-1) 0:=fun h=>he h.symm
  (repeat'((conv=>whnf);first|refine Zg fun _=>?_|refine Zn ?_|refine Zj ?_|apply pI|apply pJ|refine Zy ?_|fail))
  refine ixAw (i-1) (by omega) ?_
  (repeat'((conv=>whnf);first|refine Zg fun _=>?_|refine Zn ?_|apply pI|apply pJ|refine Zm ?_|fail))
  refine ⟨(i+1:Nat),by show xs.length-(i+1)<xs.length-i;omega,⟨⟨by omega,by omega⟩,hs.trans ht.symm⟩,?_⟩
  exact ZE
 have e:i=xs.length:=by omega
 rw[e,fP] at hp
 rw[hp]
 exact ZRF
def aSo:Con:=aDi 26 0 false fun args o K=>match args,o with | [.any],.vec 1 (.int .i64) xs 3=>Need (xs.length<=4000000) (K (.ref 0 1) (.vec 1 (.int .i64) (EB.cptI xs) 3)) | _,_=>False
theorem aY5:aS Tryz.prog aSo:=by
 refine zS (enters_of Tryz.func26 (by kernel_rfl) rfl) ?_
 intro args t xs e K hfl h
 split at h
 ·rename_i zs heq
  cases heq
  exact ⟨_,_,h.go,kM (by simp) Tryz.func26 (by simp[Tryz.ntmps26]) rfl (aY4 zs h.ok)⟩
 exact h.elim
theorem b3010 (n:Int) (l:List (Int × Int)) (b:Int) (hb:inK .u8 b):body Tryz.prog [aSu,aOm,SB.c3029,aYe,aSo,aSr] { asks:=[(0,[0])] } true Tryz.f10 [I n,.seq tRr l,.val (.int .u8 b)] (.val (.bool true)):=by
 have hb:0<=b/\b<=255:=hb
 by_cases hf:finP n l
 case neg=>
  (repeat refine ZR ?_)
  (conv=>whnf)
 by_cases h0:n=0
 ·(repeat refine ZR ?_)
  (conv=>whnf)
 have hs:=hf.2
 obtain ⟨r1,r2,r3,r4⟩:=EB.supE_rests hs
 have hk:0<=b%n/\b%n<n:=⟨gE _ h0,dX _ (by omega)⟩
 have e1:EB.belE n l (b%n)=0:=by unfold EB.belE;rw[aD hs,aD hk]
 have law:=EB.below_law hs hk
 have wl:=EB.wantL_len (n:=n) (l:=l) ⟨by omega,r3⟩ (b%n)
 (repeat' first|refine ZR ?_|refine Zg fun _=>?_)
 refine Ask.mk ⟨{ X:=Nat,pre:=fun j=>j<=l.length,mod:=fun j _=>[(10,.ref 0 1),(37,I j)],objs:=[0],heap:=fun j _=>[.vec 1 (.int .i64) (EB.wantL n l (b%n) j) 3],mu:=fun j=>l.length-j },rfl,?_⟩
 (repeat refine ZG ?_)
 refine ⟨⟨(0:Nat),aI _,ZE⟩,fun (j:Nat) hj=>?_⟩
 have hj:j<=l.length:=hj
 by_cases hjl:j<l.length
 ·have q4:=r4 j hjl
  have hwl:=wl j
  have hwn:EB.wantL n l (b%n) (j+1)=if (l.getD j (0,0)).1=(b%n)/\0<=(l.getD j (0,0)).2 then (EB.wantL n l (b%n) j++ [(l.getD j (0,0)).2])++EB.belR n l (l.getD j (0,0)).2 else EB.wantL n l (b%n) j:=rfl
  by_cases hc1:(l.getD j (0,0)).1=(b%n)
  ·by_cases hc2:0<=(l.getD j (0,0)).2
   ·have e2:EB.belE n l (l.getD j (0,0)).2=0:=by unfold EB.belE;rw[aD hs,aD ⟨hc2,by omega⟩]
    have hbl:=EB.wantL_len (n:=n) (l:=l) ⟨by omega,r3⟩ (b%n) (j+1)
    rw[aD ⟨hc1,hc2⟩] at hwn
    rw[hwn,aQ,aQ,cG] at hbl
    have hap:(EB.wantL n l (b%n) j++ [(l.getD j (0,0)).2]).length+(EB.belR n l (l.getD j (0,0)).2).length<=17592186044416:=by
     rw[aQ,cG];omega
    (repeat' first|refine ZR ?_|refine Zg fun _=>?_)
    refine ⟨(j+1:Nat),by show l.length-(j+1)<l.length-j;omega,hjl,?_⟩
    exact ZEx hwn.symm
   rw[aC fun q=>hc2 q.2] at hwn
   (repeat' first|refine ZR ?_|refine Zg fun _=>?_)
   refine ⟨(j+1:Nat),by show l.length-(j+1)<l.length-j;omega,hjl,?_⟩
   exact ZEx hwn.symm
  rw[aC fun q=>hc1 q.1] at hwn
  (repeat' first|refine ZR ?_|refine Zg fun _=>?_)
  refine ⟨(j+1:Nat),by show l.length-(j+1)<l.length-j;omega,hjl,?_⟩
  exact ZEx hwn.symm
 have e:j=l.length:=by omega
 subst e
 have hwl:=wl l.length
 have hsl:(srI (EB.wantL n l (b%n) l.length)).length<=4000000:=by
  rw[List.length_mergeSort];omega
 (repeat refine ZR ?_)
 (conv=>whnf)
theorem t3010 (n:Int) (l:List (Int × Int)) (b:Int) (_:inK .i64 n) (_:Okd (.slice tRr) l) (hb:inK .u8 b):Tri Tryz.prog true 10 [I n,.seq tRr l,.val (.int .u8 b)] (.val (.bool true)):=
 triB Tryz.func10 Tryz.ntmps10 (by simp[aYj,aSt,SB.k3029,k3037,aY5,aSs]) (b3010 n l b hb)
def aYl:Con:=bB 34 true fun args K=>match args with | [.val (.int .i64 n),.seq (.pair (.int .i64) (.int .i64)) l]=>K (.tup [.seq (.int .i64) (EB.looR n l),I (EB.looE n l)]) | _=>False
theorem k3034:aS Tryz.prog aYl:=by
 refine kQ { asks:=[(0,[]),(2,[2])] } Tryz.func34 Tryz.ntmps34 (kc aGc kn) fun _ _ h=>?_
 split at h
 case h_2=>exact h.elim
 rename_i n l
 change List (Int × Int) at l
 refine kb h ?_
 by_cases h:EB.supE n l=0
 case neg=>
  have e1:EB.looR n l= []:=aC h
  have e2:EB.looE n l=1:=aC h
  rw[e1,e2]
  exact ZRF
 have e1:EB.looR n l=EB.looL n l:=aD h
 have e2:EB.looE n l=0:=aD h
 rw[e1,e2]
 obtain ⟨r1,r2,r3,r4⟩:=EB.supE_rests h
 (repeat'((conv=>whnf);first|refine Zm ?_|fail))
 refine Need.mk (show 0<=n/\n<=n/\n<=140737488355328/\n*((1:Nat):Int)<=140737488355328 by omega) ?_
 refine Ask.mk ⟨{ X:=Nat,pre:=fun j=>j<=l.length,mod:=fun j _=>[(7,I j)],heap:=fun j _=>[.vec 1 (.int .i64) [] 3,.vec 1 .bool (EB.restN n.toNat l j) 4],mu:=fun j=>l.length-j },rfl,?_⟩
 (repeat refine ZG ?_)
 refine ⟨⟨(0:Nat),aI _,?_⟩,fun (j:Nat) hj=>?_⟩
 ·exact ZEx ((EB.restN_zero _ _).symm)
 have hj:j<=l.length:=hj
 by_cases hlt:j<l.length
 ·obtain ⟨q1,q2,q3,q4⟩:=r4 j hlt
  have hlen:=EB.restN_len n.toNat l j
  have hu:(l.getD j (0,0)).1=(((l.getD j (0,0)).1.toNat:Nat):Int):=by omega
  (repeat' first|refine ZR ?_|refine Zg fun _=>?_)
  refine cX (l.getD j (0,0)).1.toNat (by omega) ?_
  (repeat refine ZR ?_)
  refine ⟨(j+1:Nat),by show l.length-(j+1)<l.length-j;omega,hlt,?_⟩
  exact ZEx (EB.restN_step n.toNat l j _ hlt hu (by omega))
 have e:j=l.length:=by omega
 subst e
 have hlen:=EB.restN_len n.toNat l l.length
 (repeat' first|refine ZR ?_|refine Zg fun _=>?_)
 refine Ask.mk ⟨{ X:=Nat,pre:=fun i=>i<=n.toNat,mod:=fun i _=>[(8,.ref 2 1),(9,I i)],objs:=[2],heap:=fun i _=>[.vec 1 (.int .i64) [] 3,.vec 1 .bool (EB.restN n.toNat l l.length) 4,.vec 1 (.int .i64) (EB.markL (fun i=> !EB.restB l l.length i) i) 3],mu:=fun i=>n.toNat-i },rfl,?_⟩
 (repeat refine ZG ?_)
 refine ⟨⟨(0:Nat),aI _,ZE⟩,fun (i:Nat) hi=>?_⟩
 have hi:i<=n.toNat:=hi
 by_cases hlt:i<n.toNat
 ·have hg:=EB.restN_get n.toNat l l.length i hlt
  have hml:=EB.markL_len (fun i=> !EB.restB l l.length i) i
  have hms:=EB.markL_succ (fun i=> !EB.restB l l.length i) i
  cases hw:EB.restB l l.length i with
  | true=>
   rw[hw] at hms hg
   rw[aC (by decide)] at hms
   (repeat refine ZR ?_)
   refine ⟨(i+1:Nat),by show n.toNat-(i+1)<n.toNat-i;omega,hlt,?_⟩
   exact ZEx hms.symm
  | false=>
   rw[hw] at hms hg
   rw[aD (by decide)] at hms
   have hg:¬(EB.restN n.toNat l l.length).getD i false=true:=by rw[hg];decide
   (repeat refine ZR ?_)
   refine ⟨(i+1:Nat),by show n.toNat-(i+1)<n.toNat-i;omega,hlt,?_⟩
   exact ZEx hms.symm
 have e:i=n.toNat:=by omega
 subst e
 exact ZRF
def c3065:Con:=bB 65 true fun args K=>match args with | [.val (.int .i64 n),.seq (.pair (.int .i64) (.int .i64)) l,.val (.int .i64 i)]=>Need (EB.supE n l=0/\0<=i/\i<n) (K (.seq .bool (EB.reachL (EB.onL n l) i))) | _=>False
theorem aYm:aS Tryz.prog c3065:=by
 refine kQ { asks:=[(0,[2]),(2,[2])] } Tryz.func65 Tryz.ntmps65 kn fun _ _ h=>?_
 split at h
 case h_2=>exact h.elim
 rename_i n l i
 change List (Int × Int) at l
 refine kb h.go ?_
 replace h:=h.ok
 obtain ⟨h,hi⟩:=h
 have hro:=EB.supE_rests h
 obtain ⟨r1,r2,r3,r4⟩:=id hro
 have hrw:=EB.onL_rows hro
 have hol:=EB.onL_len n l
 refine Need.mk (show 0<=n/\n<=n/\n<=140737488355328/\n*((1:Nat):Int)<=140737488355328 by omega) ?_
 refine Own.r ?_
 refine Ask.mk ⟨{ X:=Nat × (List Bool × List Int),pre:=fun x=>x.1<=x.2.2.length/\EB.BI (EB.onL n l) n i x.1 x.2,mod:=fun x _=>[(8,.ref 2 1),(9,I x.1)],objs:=[2],heap:=fun x _=>[.vec 1 .bool [] 4,.vec 1 .bool x.2.1 4,.vec 1 (.int .i64) x.2.2 3],mu:=fun x=>n.toNat+2-x.1 },rfl,?_⟩
 (repeat refine ZG ?_)
 refine ⟨⟨((0:Nat),(List.replicate n.toNat false,[i])),⟨aI _,by have:=EB.bi_zero hrw hi;rw[hol] at this;exact this⟩,?_⟩,fun (x:Nat × (List Bool × List Int)) hx=>?_⟩
 ·exact ZE
 obtain ⟨x1,x2⟩:=hx
 have x1:x.1<=x.2.2.length:=x1
 have hsz:=x2.size hrw
 by_cases hlt:x.1<x.2.2.length
 ·obtain ⟨u0,u1⟩:=x2.rng x.1 hlt
  (repeat' first|refine ZR ?_|refine Zg fun _=>?_)
  refine Ask.mk ⟨{ X:=Nat × (List Bool × List Int),pre:=fun y=>y.1<=l.length/\(x.1<y.2.2.length/\y.2.2.getD x.1 0=x.2.2.getD x.1 0)/\EB.BI (EB.onL n l) n i x.1 y.2/\∀q,q<y.1->(l.getD q (0,0)).1=x.2.2.getD x.1 0->0<=(l.getD q (0,0)).2->y.2.1.getD (l.getD q (0,0)).2.toNat false=true,mod:=fun y _=>[(8,.ref 2 1),(10,I y.1)],objs:=[2],heap:=fun y _=>[.vec 1 .bool [] 4,.vec 1 .bool y.2.1 4,.vec 1 (.int .i64) y.2.2 3],mu:=fun y=>l.length-y.1 },rfl,?_⟩
  (repeat refine ZG ?_)
  refine ⟨⟨((0:Nat),x.2),⟨aI _,⟨hlt,rfl⟩,x2,fun q hq=>absurd hq (bG _)⟩,?_⟩,fun (y:Nat × (List Bool × List Int)) hy=>?_⟩
  ·exact ZE
  obtain ⟨y1,⟨y2,y3⟩,y4,y5⟩:=hy
  have y1:y.1<=l.length:=y1
  have hyl:=y4.len
  have hyz:=y4.size hrw
  by_cases hlm:y.1<l.length
  ·obtain ⟨q1,q2,q3,q4⟩:=r4 y.1 hlm
   have keep:y.2.1.getD (l.getD y.1 (0,0)).2.toNat false=true\/¬((l.getD y.1 (0,0)).1=x.2.2.getD x.1 0/\0<=(l.getD y.1 (0,0)).2)->∀q,q<y.1+1->(l.getD q (0,0)).1=x.2.2.getD x.1 0->0<=(l.getD q (0,0)).2->y.2.1.getD (l.getD q (0,0)).2.toNat false=true:=fun hk q hq e1 e2=>by
    by_cases e:q=y.1
    ·subst e
     rcases hk with hk | hk
     ·exact hk
     exact absurd ⟨e1,e2⟩ hk
    exact y5 q (by omega) e1 e2
   by_cases c1:(l.getD y.1 (0,0)).1=y.2.2.getD x.1 0
   ·by_cases c2:0<=(l.getD y.1 (0,0)).2
    ·by_cases c3:y.2.1.getD (l.getD y.1 (0,0)).2.toNat false=true
     ·(repeat'((conv=>whnf);first|refine Zg fun _=>?_|refine Zn ?_|refine Zj ?_|apply pI|apply pJ|refine Zy ?_|fail))
      refine cX (l.getD y.1 (0,0)).2.toNat (by omega) ?_
      (repeat refine ZR ?_)
      refine ⟨((y.1+1:Nat),y.2),by show l.length-(y.1+1)<l.length-y.1;omega,⟨hlm,⟨y2,y3⟩,y4,keep (.inl c3)⟩,?_⟩
      exact ZE
     have hed:EB.Edge (EB.onL n l) (y.2.2.getD x.1 0) (l.getD y.1 (0,0)).2:=by
      rw[y3] at c1 ⊢
      refine (EB.onL_edge ⟨u0,u1⟩).2 ⟨c2,?_⟩
      have hm:=EB.at_mem l y.1 hlm
      rw[<- c1];exact hm
     have ht:=y4.turn hrw y2 hed c3
     have hs:∀q:Nat,y.2.1.getD q false=true\/q=(l.getD y.1 (0,0)).2.toNat->(y.2.1.set (l.getD y.1 (0,0)).2.toNat true).getD q false=true:=fun q hq=>by
      rw[EB.set_getD]
      by_cases e:q=(l.getD y.1 (0,0)).2.toNat
      ·rw[aD ⟨e,by omega⟩]
      rw[aC fun h=>e h.1];exact hq.resolve_right e
     (repeat'((conv=>whnf);first|refine Zg fun _=>?_|refine Zn ?_|refine Zj ?_|apply pI|apply pJ|refine Zy ?_|fail))
     refine cX (l.getD y.1 (0,0)).2.toNat (by omega) ?_
     (repeat refine ZR ?_)
     refine cX (l.getD y.1 (0,0)).2.toNat (by omega) ?_
     (repeat refine ZR ?_)
     refine ⟨((y.1+1:Nat),(y.2.1.set (l.getD y.1 (0,0)).2.toNat true,y.2.2++ [(l.getD y.1 (0,0)).2])),by show l.length-(y.1+1)<l.length-y.1;omega,⟨hlm,⟨by show x.1<(y.2.2++ [(l.getD y.1 (0,0)).2]).length;rw[aQ];omega,?_⟩,ht,fun q hq e1 e2=>?_⟩,?_⟩
     ·have e3:∀v:Int,(y.2.2++ [v]).getD x.1 0=y.2.2.getD x.1 0:=fun v=>by rw[aB,aB,bF y2]
      exact (e3 _).trans y3
     ·refine hs _ ?_
      by_cases e:q=y.1
      ·subst e;exact .inr rfl
      exact .inl (y5 q (by have:q<y.1+1:=hq;omega) e1 e2)
     exact ZE
    (repeat'((conv=>whnf);first|refine Zg fun _=>?_|refine Zn ?_|refine Zj ?_|apply pI|apply pJ|refine Zy ?_|refine Zm ?_|fail))
    refine ⟨((y.1+1:Nat),y.2),by show l.length-(y.1+1)<l.length-y.1;omega,⟨hlm,⟨y2,y3⟩,y4,keep (.inr fun q=>c2 q.2)⟩,?_⟩
    exact ZE
   (repeat'((conv=>whnf);first|refine Zg fun _=>?_|refine Zn ?_|refine Zj ?_|apply pI|apply pJ|refine Zy ?_|refine Zm ?_|fail))
   refine ⟨((y.1+1:Nat),y.2),by show l.length-(y.1+1)<l.length-y.1;omega,⟨hlm,⟨y2,y3⟩,y4,keep (.inr fun q=>c1 (by rw[y3];exact q.1))⟩,?_⟩
   exact ZE
  have hme:y.1=l.length:=by omega
  (repeat' first|refine ZR ?_|refine Zg fun _=>?_)
  refine ⟨((x.1+1:Nat),y.2),by show n.toNat+2-(x.1+1)<n.toNat+2-x.1;omega,⟨by show x.1+1<=y.2.2.length;omega,y4.next fun v hv=>?_⟩,?_⟩
  ·rw[y3] at hv
   have hed:=(EB.onL_edge ⟨u0,u1⟩).1 hv
   obtain ⟨q,hq,e⟩:=bV hed.2
   have eq:l.getD q (0,0)=(x.2.2.getD x.1 0,v):=by rw[aB,aH hq];exact e
   have:=y5 q (by omega) (by rw[eq]) (by rw[eq];exact hed.1)
   rw[eq] at this
   exact this
  exact ZE
 have e:x.1=x.2.2.length:=by omega
 have hend:=EB.bi_end hrw (x:=x.2) (by rw[<- e];exact x2)
 (repeat' first|refine ZR ?_|refine Zg fun _=>?_)
 (conv=>whnf)
 all_goals exact hend
def aYn:Con:=bB 31 true fun args K=>match args with | [.val (.int .i64 n),.seq (.pair (.int .i64) (.int .i64)) l,.val (.int .i64 i)]=>K (.tup [.seq (.int .i64) (EB.belR n l i),I (EB.belE n l i)]) | _=>False
theorem k3031:aS Tryz.prog aYn:=by
 refine kQ { asks:=[(0,[1])] } Tryz.func31 Tryz.ntmps31 (kc aGc (kc aYm kn)) fun _ _ h=>?_
 split at h
 case h_2=>exact h.elim
 rename_i n l i
 change List (Int × Int) at l
 refine kb h ?_
 by_cases h:EB.supE n l=0
 case neg=>
  have e1:EB.belR n l i= []:=aC fun q=>h q.1
  have e2:EB.belE n l i=1:=aC h
  rw[e1,e2]
  exact ZRF
 by_cases h2:0<=i/\i<n
 case neg=>
  have e1:EB.belR n l i= []:=aC fun q=>h2 q.2
  have e2:EB.belE n l i=6:=by unfold EB.belE;rw[aD h,aC h2]
  rw[e1,e2]
  by_cases h3:i<0
  ·exact ZRF
  exact ZRF
 have e1:EB.belR n l i=EB.belL (EB.onL n l) i:=aD ⟨h,h2⟩
 have e2:EB.belE n l i=0:=by unfold EB.belE;rw[aD h,aD h2]
 rw[e1,e2]
 obtain ⟨r1,r2,r3,r4⟩:=EB.supE_rests h
 have hol:=EB.onL_len n l
 have hpre:EB.supE n l=0/\0<=i/\i<n:=⟨h,h2⟩
 have hrl2:=EB.reachL_len (EB.onL n l) i
 (repeat refine ZR ?_)
 refine Ask.mk ⟨{ X:=Nat,pre:=fun k=>k<=n.toNat,mod:=fun k _=>[(9,.ref 1 1),(10,I k)],objs:=[1],heap:=fun k _=>[.vec 1 (.int .i64) [] 3,.vec 1 (.int .i64) (EB.markL (fun k=>EB.wayB (EB.onL n l) i k) k) 3],mu:=fun k=>n.toNat-k },rfl,?_⟩
 (repeat refine ZG ?_)
 refine ⟨⟨(0:Nat),aI _,ZE⟩,fun (k:Nat) hk=>?_⟩
 have hk:k<=n.toNat:=hk
 by_cases hlt:k<n.toNat
 ·have hg:=EB.reach_get (on:=EB.onL n l) i (k:=k) (by omega)
  have hml:=EB.markL_len (fun k=>EB.wayB (EB.onL n l) i k) k
  have hms:=EB.markL_succ (fun k=>EB.wayB (EB.onL n l) i k) k
  by_cases hw:EB.wayB (EB.onL n l) i k=true
  ·rw[aD hw] at hms
   rw[hw] at hg
   (repeat refine ZR ?_)
   refine ⟨(k+1:Nat),by show n.toNat-(k+1)<n.toNat-k;omega,hlt,?_⟩
   exact ZEx hms.symm
  rw[aC hw] at hms
  have hg:¬(EB.reachL (EB.onL n l) i).getD k false=true:=by rw[hg];exact hw
  (repeat refine ZR ?_)
  refine ⟨(k+1:Nat),by show n.toNat-(k+1)<n.toNat-k;omega,hlt,?_⟩
  exact ZEx hms.symm
 have e:k=n.toNat:=by omega
 subst e
 have hb:EB.belL (EB.onL n l) i=EB.markL (fun k=>EB.wayB (EB.onL n l) i k) n.toNat:=by unfold EB.belL;rw[hol]
 rw[hb]
 exact ZRF
def dnL (l:List (Int × Int)) (m:Nat) (u v:Int):Prop:=∃q,q<m/\(l.getD q (0,0)).1=u/\(l.getD q (0,0)).2=v/\0<=v
theorem vD {l:List (Int × Int)} {m:Nat} {u v:Int} (h:dnL l (m+1) u v):dnL l m u v\/u=(l.getD m (0,0)).1/\v=(l.getD m (0,0)).2:=by
 obtain ⟨q,hq,h1,h2,h3⟩:=h
 by_cases e:q=m
 ·subst e;exact .inr ⟨h1.symm,h2.symm⟩
 exact .inl ⟨q,by omega,h1,h2,h3⟩
theorem aJu {l:List (Int × Int)} {m:Nat} {u v:Int} (hn:¬0<=(l.getD m (0,0)).2) (h:dnL l (m+1) u v):dnL l m u v:=by
 obtain ⟨q,hq,h1,h2,h3⟩:=h
 by_cases e:q=m
 ·subst e;exact absurd (by rw[h2];exact h3) hn
 exact ⟨q,by omega,h1,h2,h3⟩
theorem aOk {n:Int} {l:List (Int × Int)} (hn:EB.Rows2 (EB.onL n l) n) {u v:Int} (hu:0<=u) (he:EB.Edge (EB.onL n l) u v):dnL l l.length u v:=by
 have hul:=EB.edge_out he
 have hun:0<=u/\u<n:=by have:=hn.1;omega
 obtain ⟨h0,hm⟩:=(EB.onL_edge hun).1 he
 obtain ⟨q,hq,e⟩:=bV hm
 have eq:l.getD q (0,0)=(u,v):=by rw[aB,aH hq];exact e
 exact ⟨q,hq,by rw[eq],by rw[eq],h0⟩
def aYc:Con:=bB 32 true fun args K=>match args with | [.val (.int .i64 n),.seq (.pair (.int .i64) (.int .i64)) l]=>K (.tup [.seq (.int .i64) (EB.rkR n l),I (EB.rkE n l)]) | _=>False
theorem k3032:aS Tryz.prog aYc:=by
 refine kQ { asks:=[(0,[]),(2,[])] } Tryz.func32 Tryz.ntmps32 (kc aGc kn) fun _ _ h=>?_
 split at h
 case h_2=>exact h.elim
 rename_i n l
 change List (Int × Int) at l
 refine kb h ?_
 by_cases h:EB.supE n l=0
 case neg=>
  obtain ⟨e1,e2⟩:=EB.rk_bad h
  rw[e1,e2]
  exact ZRF
 have hro:=EB.supE_rests h
 obtain ⟨r1,r2,r3,r4⟩:=id hro
 have hrw:=EB.onL_rows hro
 have hol:=EB.onL_len n l
 (repeat refine ZR ?_)
 refine Ask.mk ⟨{ X:=Nat × List Int,pre:=fun x=>x.1<=n.toNat+1/\EB.RK (EB.onL n l) ((x.1:Int)*4096) x.2/\EB.LowR (EB.onL n l) x.1 x.2/\((x.1:Int)=n+1->EB.Loops (EB.onL n l) n),mod:=fun x _=>[(7,I x.1)],heap:=fun x _=>[.vec 1 (.int .i64) [] 3,.vec 1 (.int .i64) x.2 3],mu:=fun x=>n.toNat+2-x.1 },rfl,?_⟩
 (repeat refine ZG ?_)
 refine ⟨⟨((0:Nat),List.replicate n.toNat (0:Int)),⟨aI _,?_⟩,?_⟩,fun (x:Nat × List Int) hx=>?_⟩
 ·have:=EB.rk_zero (EB.onL n l)
  rw[hol] at this
  exact ⟨this.1.mono (by show (0:Int)<=((0:Nat):Int)*4096;omega),this.2,fun (q:((0:Nat):Int)=n+1)=>absurd q (by omega)⟩
 ·exact ZE
 obtain ⟨x1,x2,x3,x4⟩:=hx
 have x1:x.1<=n.toNat+1:=x1
 by_cases hxn:(x.1:Int)<=n
 case neg=>
  obtain ⟨w1,w2⟩:=EB.rk_loop h (x4 (by omega))
  rw[w1,w2]
  exact ZRF
 (repeat refine ZR ?_)
 refine Ask.mk ⟨{ X:=(List Int × Bool) × Nat,pre:=fun y=>y.2<=l.length/\EB.RP (EB.onL n l) x.1 ((x.1:Int)*4096+(y.2:Int)) x.2 (dnL l y.2) y.1,mod:=fun y _=>[(8,.bl (¬y.1.2=true) inferInstance),(9,I y.2)],heap:=fun y _=>[.vec 1 (.int .i64) [] 3,.vec 1 (.int .i64) y.1.1 3],mu:=fun y=>l.length-y.2 },rfl,?_⟩
 (repeat refine ZG ?_)
 refine ⟨⟨((x.2,false),(0:Nat)),⟨aI _,(EB.RP.start x2 x3).mono (by omega) fun u v hd=>absurd hd.choose_spec.1 (bG _)⟩,?_⟩,fun (y:(List Int × Bool) × Nat) hy=>?_⟩
 ·(repeat' first|exact trivial|rfl|apply aA)
  all_goals ((conv=>whnf);exact fun h=>nomatch h)
 obtain ⟨y1,y2⟩:=hy
 have y1:y.2<=l.length:=y1
 have hyl:=y2.rk.len
 by_cases hlt:y.2<l.length
 ·obtain ⟨q1,q2,q3,q4⟩:=r4 y.2 hlt
  by_cases c1:0<=(l.getD y.2 (0,0)).2
  ·have he:EB.Edge (EB.onL n l) (l.getD y.2 (0,0)).1 (l.getD y.2 (0,0)).2:=(EB.onL_edge ⟨q1,q2⟩).2 ⟨c1,EB.at_mem l y.2 hlt⟩
   have htop:=y2.rk.top (l.getD y.2 (0,0)).2.toNat
   have hlow:=(y2.rk.run (l.getD y.2 (0,0)).2.toNat (by omega)).1
   by_cases c2:y.1.1.getD (l.getD y.2 (0,0)).1.toNat 0<=y.1.1.getD (l.getD y.2 (0,0)).2.toNat 0
   ·have hst:=(y2.turn hrw ⟨q1,q2⟩ he c2).mono (C:=(x.1:Int)*4096+((y.2+1:Nat):Int)) (e:=dnL l (y.2+1)) (by omega) fun u v hd=>vD hd
    (repeat'((conv=>whnf);first|refine Zg fun _=>?_|refine Zn ?_|refine Zj ?_|apply pI|apply pJ|refine Zy ?_|fail))
    refine cX (l.getD y.2 (0,0)).1.toNat (by omega) ?_
    (repeat'((conv=>whnf);first|refine Zg fun _=>?_|refine Zn ?_|apply pI|apply pJ|fail))
    refine cX (l.getD y.2 (0,0)).2.toNat (by omega) ?_
    (repeat'((conv=>whnf);first|refine Zg fun _=>?_|refine Zn ?_|apply pI|apply pJ|refine Zy ?_|fail))
    refine cX (l.getD y.2 (0,0)).2.toNat (by omega) ?_
    (repeat'((conv=>whnf);first|refine Zg fun _=>?_|refine Zn ?_|apply pI|apply pJ|fail))
    refine cX (l.getD y.2 (0,0)).1.toNat (by omega) ?_
    (repeat refine ZR ?_)
    refine ⟨((y.1.1.set (l.getD y.2 (0,0)).1.toNat (y.1.1.getD (l.getD y.2 (0,0)).2.toNat 0+1),true),(y.2+1:Nat)),by show l.length-(y.2+1)<l.length-y.2;omega,⟨hlt,hst⟩,?_⟩
    (repeat' first|exact trivial|rfl|apply aA)
    all_goals ((conv=>whnf);exact fun h=>h rfl)
   have hst:=(y2.skip hrw ⟨q1,q2⟩ he c2).mono (C:=(x.1:Int)*4096+((y.2+1:Nat):Int)) (e:=dnL l (y.2+1)) (by omega) fun u v hd=>vD hd
   (repeat'((conv=>whnf);first|refine Zg fun _=>?_|refine Zn ?_|refine Zj ?_|apply pI|apply pJ|refine Zy ?_|fail))
   refine cX (l.getD y.2 (0,0)).1.toNat (by omega) ?_
   (repeat'((conv=>whnf);first|refine Zg fun _=>?_|refine Zn ?_|apply pI|apply pJ|fail))
   refine cX (l.getD y.2 (0,0)).2.toNat (by omega) ?_
   (repeat'((conv=>whnf);first|refine Zg fun _=>?_|refine Zn ?_|apply pI|apply pJ|refine Zm ?_|fail))
   refine ⟨(y.1,(y.2+1:Nat)),by show l.length-(y.2+1)<l.length-y.2;omega,⟨hlt,hst⟩,?_⟩
   exact ZE
  have hst:=y2.mono (C:=(x.1:Int)*4096+((y.2+1:Nat):Int)) (e:=dnL l (y.2+1)) (by omega) fun u v hd=>aJu c1 hd
  (repeat'((conv=>whnf);first|refine Zg fun _=>?_|refine Zn ?_|refine Zj ?_|apply pI|apply pJ|refine Zy ?_|refine Zm ?_|fail))
  refine ⟨(y.1,(y.2+1:Nat)),by show l.length-(y.2+1)<l.length-y.2;omega,⟨hlt,hst⟩,?_⟩
  exact ZE
 have hye:y.2=l.length:=by omega
 have hall:∀u v,0<=u->EB.Edge (EB.onL n l) u v->dnL l y.2 u v:=fun u v hu he=>by rw[hye];exact aOk hrw hu he
 cases hch:y.1.2 with
 | false=>
  obtain ⟨w1,w2⟩:=EB.rk_fine h (y2.stay hall hch)
  have hg:¬y.1.2=true:=by rw[hch];decide
  rw[w1,w2]
  exact ZRF
 | true=>
  have hl:n<=x.1->EB.Loops (EB.onL n l) n:=fun q=>y2.late hrw x2 x3 q hch
  (repeat' first|refine ZR ?_|refine Zg fun _=>?_)
  refine ⟨((x.1+1:Nat),y.1.1),by show n.toNat+2-(x.1+1)<n.toNat+2-x.1;omega,⟨by show x.1+1<=n.toNat+1;omega,y2.rk.mono (by show (x.1:Int)*4096+(y.2:Int)<=((x.1+1:Nat):Int)*4096;omega),y2.more hall,fun (q:((x.1+1:Nat):Int)=n+1)=>hl (by omega)⟩,?_⟩
  exact ZE
theorem aVv (k m:Nat):(List.replicate k (-1:Int)++List.replicate (m+1) (0:Int)).set k (-1)=List.replicate (k+1) (-1:Int)++List.replicate m (0:Int):=by
 apply cK
 intro j
 rw[cZ]
 by_cases e:k=j
 ·subst e
  rw[aD rfl,aD (by simp),bF (by simp),bR,aD (by omega)]
 rw[aC e]
 by_cases h:j<k
 ·rw[bF (by simp;omega),bF (by simp;omega),bR,bR,aD h,aD (by omega)]
 rw[bX (by simp;omega),bX (by simp;omega),bR,bR]
 simp only[cC]
 by_cases h2:j-k<m+1
 ·rw[aD h2,aD (by omega)]
 rw[aC h2,aC (by omega)]
theorem zC {on:List (List Int)} {tg d:Int} {e e':Int->Int->Prop} {out:List Int} (h:EB.LM on tg d e out) (hd:∀u v,e' u v->e u v):EB.LM on tg d e' out:=
 ⟨h.1,fun u hu=>⟨(h.2 u hu).1,fun h1=>((h.2 u hu).2 h1).imp (fun q=>⟨q.1,fun v hv=>q.2 v (hd u v hv)⟩) id⟩⟩
def c3066:Con:=bB 66 true fun args K=>match args with | [.val (.int .i64 n),.seq (.pair (.int .i64) (.int .i64)) l,.val (.int .i64 tg)]=>Need (EB.supE n l=0/\0<=tg/\tg<n) (K (.seq (.int .i64) (EB.distL (EB.onL n l) tg))) | _=>False
theorem k3066:aS Tryz.prog c3066:=by
 refine kQ { asks:=[(0,[]),(2,[]),(4,[])] } Tryz.func66 Tryz.ntmps66 kn fun _ _ h=>?_
 split at h
 case h_2=>exact h.elim
 rename_i n l tg
 change List (Int × Int) at l
 refine kb h.go ?_
 replace h:=h.ok
 obtain ⟨h,ht⟩:=h
 have hro:=EB.supE_rests h
 obtain ⟨r1,r2,r3,r4⟩:=id hro
 have hrw:=EB.onL_rows hro
 have hol:=EB.onL_len n l
 (repeat refine ZR ?_)
 refine Ask.mk ⟨{ X:=Nat,pre:=fun k=>k<=n.toNat,mod:=fun k _=>[(8,I k)],heap:=fun k _=>[.vec 1 (.int .i64) [] 3,.vec 1 (.int .i64) (List.replicate k (-1:Int)++List.replicate (n.toNat-k) (0:Int)) 3],mu:=fun k=>n.toNat-k },rfl,?_⟩
 (repeat refine ZG ?_)
 refine ⟨⟨(0:Nat),aI _,ZE⟩,fun (k:Nat) hk=>?_⟩
 have hk:k<=n.toNat:=hk
 have hkl:(List.replicate k (-1:Int)++List.replicate (n.toNat-k) (0:Int)).length=n.toNat:=by simp;omega
 by_cases hlt:k<n.toNat
 ·have hst:=aVv k (n.toNat-k-1)
  rw[show n.toNat-k-1+1=n.toNat-k by omega] at hst
  (repeat refine ZR ?_)
  refine ⟨(k+1:Nat),by show n.toNat-(k+1)<n.toNat-k;omega,hlt,?_⟩
  (repeat' first|exact trivial|rfl|apply aA)
  all_goals (rw[show n.toNat-(k+1)=n.toNat-k-1 by omega];exact hst)
 have hke:k=n.toNat:=by omega
 subst hke
 have hz:=EB.lv_zero hrw ht
 rw[hol] at hz
 (repeat refine ZR ?_)
 refine cX tg.toNat (by omega) ?_
 refine Ask.mk ⟨{ X:=Nat × List Int,pre:=fun x=>x.1<=n.toNat/\EB.LV (EB.onL n l) tg (x.1:Int) x.2,mod:=fun x _=>[(9,I x.1)],heap:=fun x _=>[.vec 1 (.int .i64) [] 3,.vec 1 (.int .i64) x.2 3],mu:=fun x=>n.toNat-x.1 },rfl,?_⟩
 (repeat refine ZG ?_)
 refine ⟨⟨((0:Nat),(List.replicate n.toNat (-1:Int)).set tg.toNat 0),⟨aI _,hz⟩,?_⟩,fun (x:Nat × List Int) hx=>?_⟩
 ·(repeat' first|exact trivial|rfl|apply aA)
  all_goals (rw[kP];simp)
  all_goals (repeat' first|rfl)
 obtain ⟨x1,x2⟩:=hx
 have x1:x.1<=n.toNat:=x1
 have hxl:=x2.1
 by_cases hxn:x.1<n.toNat
 ·(repeat refine ZR ?_)
  refine Ask.mk ⟨{ X:=Nat × List Int,pre:=fun y=>y.1<=l.length/\EB.LM (EB.onL n l) tg (x.1:Int) (dnL l y.1) y.2,mod:=fun y _=>[(10,I y.1)],heap:=fun y _=>[.vec 1 (.int .i64) [] 3,.vec 1 (.int .i64) y.2 3],mu:=fun y=>l.length-y.1 },rfl,?_⟩
  (repeat refine ZG ?_)
  refine ⟨⟨((0:Nat),x.2),⟨aI _,zC x2.start fun u v hd=>absurd hd.choose_spec.1 (bG _)⟩,?_⟩,fun (y:Nat × List Int) hy=>?_⟩
  ·exact ZE
  obtain ⟨y1,y2⟩:=hy
  have y1:y.1<=l.length:=y1
  have hyl:=y2.1
  by_cases hlt2:y.1<l.length
  ·obtain ⟨q1,q2,q3,q4⟩:=r4 y.1 hlt2
   by_cases c1:0<=(l.getD y.1 (0,0)).2
   ·have he:EB.Edge (EB.onL n l) (l.getD y.1 (0,0)).1 (l.getD y.1 (0,0)).2:=(EB.onL_edge ⟨q1,q2⟩).2 ⟨c1,EB.at_mem l y.1 hlt2⟩
    by_cases c2:y.2.getD (l.getD y.1 (0,0)).2.toNat 0=(x.1:Int)
    ·by_cases c3:y.2.getD (l.getD y.1 (0,0)).1.toNat 0<0
     ·have hst:=zC (y2.turn hrw (by omega) ⟨q1,q2⟩ he c2 c3) (e':=dnL l (y.1+1)) fun u v hd=>vD hd
      (repeat' first|refine ZR ?_|refine Zg fun _=>?_)
      refine cX (l.getD y.1 (0,0)).2.toNat (by omega) ?_
      (repeat' first|refine ZR ?_|refine Zg fun _=>?_)
      refine cX (l.getD y.1 (0,0)).1.toNat (by omega) ?_
      (repeat' first|refine ZR ?_|refine Zg fun _=>?_)
      refine cX (l.getD y.1 (0,0)).1.toNat (by omega) ?_
      (repeat refine ZR ?_)
      refine ⟨((y.1+1:Nat),y.2.set (l.getD y.1 (0,0)).1.toNat ((x.1:Int)+1)),by show l.length-(y.1+1)<l.length-y.1;omega,⟨hlt2,hst⟩,?_⟩
      exact ZE
     have hst:=zC (y2.skip hrw (by omega) ⟨q1,q2⟩ he fun q=>c3 q.2) (e':=dnL l (y.1+1)) fun u v hd=>vD hd
     (repeat' first|refine ZR ?_|refine Zg fun _=>?_)
     refine cX (l.getD y.1 (0,0)).2.toNat (by omega) ?_
     (repeat' first|refine ZR ?_|refine Zg fun _=>?_)
     refine cX (l.getD y.1 (0,0)).1.toNat (by omega) ?_
     (repeat' first|refine ZR ?_|refine Zg fun _=>?_)
     refine ⟨((y.1+1:Nat),y.2),by show l.length-(y.1+1)<l.length-y.1;omega,⟨hlt2,hst⟩,?_⟩
     exact ZE
    have hst:=zC (y2.skip hrw (by omega) ⟨q1,q2⟩ he fun q=>c2 q.1) (e':=dnL l (y.1+1)) fun u v hd=>vD hd
    (repeat' first|refine ZR ?_|refine Zg fun _=>?_)
    refine cX (l.getD y.1 (0,0)).2.toNat (by omega) ?_
    (repeat' first|refine ZR ?_|refine Zg fun _=>?_)
    refine ⟨((y.1+1:Nat),y.2),by show l.length-(y.1+1)<l.length-y.1;omega,⟨hlt2,hst⟩,?_⟩
    exact ZE
   have hst:=zC y2 (e':=dnL l (y.1+1)) fun u v hd=>aJu c1 hd
   (repeat' first|refine ZR ?_|refine Zg fun _=>?_)
   refine ⟨((y.1+1:Nat),y.2),by show l.length-(y.1+1)<l.length-y.1;omega,⟨hlt2,hst⟩,?_⟩
   exact ZE
  have hye:y.1=l.length:=by omega
  have hnx:=y2.next (by omega) fun u v hu he=>by rw[hye];exact aOk hrw hu he
  (repeat' first|refine ZR ?_|refine Zg fun _=>?_)
  refine ⟨((x.1+1:Nat),y.2),by show n.toNat-(x.1+1)<n.toNat-x.1;omega,⟨hxn,hnx⟩,?_⟩
  exact ZE
 have hxe:x.1=n.toNat:=by omega
 have hend:=EB.lv_end hrw (out:=x.2) (by rw[hxe,aX r2] at x2;exact x2)
 (repeat refine ZR ?_)
 (conv=>whnf)
 all_goals exact hend
end RB
end

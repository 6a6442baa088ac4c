/-
  Part 8: a symbolic executor over the model, contracts of functions and plain laws.
-/
import Derived.Test.YtocimheacfaimaaGreatDoorP7
set_option linter.unusedVariables false
set_option linter.unusedSimpArgs false
set_option maxRecDepth 10000
set_option maxHeartbeats 80000000
open List (length getD)
noncomputable section
section
namespace Go.Proofs
open Go.Shelf Go.RowKit Go.Lib Go.Eng
variable {P:Program} {ρ:Ren}
set_option maxRecDepth 100000 in
theorem LZ (k:Nat)(hk:0<k)(L:InsL P ρ k)(b n c i:Nat)(x:Addr)(vc:Nat)(cs vs:List Value)(cur:Array Value)(e:TypeId)(w:World)(hi:i<n)(c5:n<=c)(a1:c<n+1)(u:w.heap[b]? =some (.cells cur e (0,0)))(b3:c*k<=cur.size)(W:cs=(cur.toList.take (n*k)).drop (i*k))(a6:vs.length=k)(a7:∀j v,vs[j]? =some v->w.cell? (x.add j)=some v)(a8:∀v∈cs,v.oneCell'=true)(a9:∀v∈vs,v.oneCell'=true)(i0:TypeInfo)(z:Value)(Y:P.info? (ρ.t 9)=some i0)(b5:i0.zero=some z)(C:i0.size=k)(b6:z.cells.size=k)(b1:(n+1)*i0.bytes<=140737488355328)(c0:n+1<=140737488355328):
  Calls P (ρ.f 22) #[.slice (some ⟨b,0,none⟩) n c,.int .i64 i,.slice (some x) 1 vc] w fun en w'=>
   ∃(G:Nat) (g m:Array Value),n+1<=G/\G<=maxLen/\g=(cur.toList.take (i*k)).toArray++Builtin.zeroCells z.cells (n+1-i)++Builtin.zeroCells z.cells (G-(n+1))/\
   m=(g.toList.take (i*k)++vs++g.toList.drop (i*k+vs.length)).toArray/\
   en= .returned (.slice (some ⟨w.heap.size,0,none⟩) (n+1) G)/\
   w'=(((w.alloc (.cells g (ρ.t 9))).drew.setRow w.heap.size m).drew).setRow w.heap.size (m.toList.take (i*k+k)++cs++m.toList.drop (i*k+k+cs.length)).toArray:=by
 have t0:=L.t0;have a0:=L.a0;have z0:=L.z0;have v0:=L.v0;have t3:=L.t3;have a3:=L.a3;have z3:=L.z3;have v3:=L.v3;have t4:=L.t4;have a4:=L.a4;have z4:=L.z4;have v4:=L.v4;have z9:=L.z9;have e':=L.t24;have d2:=L.a24;have f':=L.z24;have f8:=L.v24;have u0:=run_underlying L.t0;have u3:=run_underlying L.t3;have u4:=run_underlying L.t4;have f0:=run_underlying L.t24;have c8:=L.mixed;have e8:¬((i:Int)=(n:Int)):=om;have e9:(c:Int)<(n:Int)+1:=om;have a5:(P.info? (ρ.t 9)).map (·.size)=some k:=by rw[Y];simp[C]
 have c7:x.block<w.heap.size:=by
  have:=a7 0 _ (aY om);rw[Addr.add_zero'] at this;obtain ⟨vb,vo,vp⟩:=x;cases vp with
  | none=>exact block_lt_of_cell this
  | some p=>simp[World.cell?] at this;split at this<;>simp_all
 have c1:b<w.heap.size:=(aH.1 u).1;have b4:(n:Int)+1-(i:Int)=((n+1-i:Nat):Int):=om;have Z:i+(n+1-i)=n+1:=om;have hC:n*k<=c*k:=aN k c5;have hI:i*k+k<=n*k:=by
  have:=aN k (show i+1<=n by omega);rwa [bI,cX] at this
 have b8:(n-i)*k=n*k-i*k:=Nat.sub_mul _ _ _;have E:(n+1-i)*k=(n-i)*k+k:=by rw[show n+1-i=(n-i)+1 by omega,bI,cX]
 have X:cs.length=(n-i)*k:=by rw[W,bT,aW,Nat.sub_mul];simp;omega
 have F:(Builtin.firstCells i0.size i (.slice (some ⟨b,0,none⟩) i c)).run P w.drew= .ok (cur.toList.take (i*k)).toArray w.drew:=by
  rw[C]
  exact run_firstCells_some w.drew k i ⟨b,0,none⟩ i c (cur.toList.take (i*k)) (by rw[aW];simp;omega) (fun j v y=>by
   rw[Addr.add_lit];rw[aL] at y;split at y
   ·show w.cell? _= _;simp only[World.cell?,u,eS];rw[<- eO];exact y
   cases y)
 have a2:∀A,(Builtin.append_ #[(ρ.t 24),(ρ.t 3)] A #[.slice (some ⟨b,0,none⟩) i c,.int .i64 ((n:Int)+1-(i:Int))]).run P w=
   .ok (.slice (some ⟨w.heap.size,0,none⟩) (n+1) (grownCap w (n+1) c (ρ.t 9))) (w.drew.alloc (.cells ((cur.toList.take (i*k)).toArray++Builtin.zeroCells z.cells (n+1-i)++Builtin.zeroCells z.cells (grownCap w (n+1) c (ρ.t 9)-(n+1))) (ρ.t 9))):=fun A=>by
  have h:=Lib.run_append_grow_zeros w (ρ.t 24) (ρ.t 3) A (ρ.t 9) i0 _ .i64 .i64 L.t24 L.t3 Y b5 (some ⟨b,0,none⟩) i c (cur.toList.take (i*k)) F (n+1-i) om (by rw[C];exact hk) om om (by
   refine bA (aN _ (show n+1-i<=n+1 by omega)) om) (by rw[Z];exact growslice_fits a1 b1)
  rw[Z] at h;rw[b4];exact h
 have a':n+1<=grownCap w (n+1) c (ρ.t 9):=grownCap_ge w _ _ _;have K:grownCap w (n+1) c (ρ.t 9)<=maxLen:=grownCap_le_maxLen w (n+1) c (ρ.t 9) (by unfold maxLen;omega);obtain ⟨G,hG⟩:∃G,G=grownCap w (n+1) c (ρ.t 9):=⟨_,rfl⟩;rw[<- hG] at a2 a' K;obtain ⟨g,s⟩:∃g:Array Value,g=(cur.toList.take (i*k)).toArray++Builtin.zeroCells z.cells (n+1-i)++Builtin.zeroCells z.cells (G-(n+1)):=⟨_,rfl⟩;rw[<- s] at a2;have b9:i*k+(n-i)*k+k<=g.size:=by
  rw[s];simp[Builtin.zeroCells,b6];rw[E];omega
 have c':G<=9223372036854775807:=by unfold maxLen at K;omega
 have d3:¬(G=i):=om;have d0:¬(G=i+1):=om;have d7:¬(c=i):=om;have b':b≠w.heap.size:=om;have c6:x.block≠w.heap.size:=om;obtain ⟨m,B⟩:∃m,m=(g.toList.take (i*k)++vs++g.toList.drop (i*k+vs.length)).toArray:=⟨_,rfl⟩;have d1:∀A J,(Builtin.copy_ #[(ρ.t 24),(ρ.t 24)] A #[.slice (some ⟨w.heap.size,i*k,none⟩) (n+1-i) J,.slice (some x) 1 vc]).run P (w.alloc (.cells g (ρ.t 9))).drew= .ok (goInt (1:Nat)) ((w.alloc (.cells g (ρ.t 9))).drew.setRow w.heap.size m):=fun A J=>by
  have o:Nat.min 1 (n+1-i)=1:=by simp only[Nat.min_def];split<;>omega
  have:=sC (w.alloc (.cells g (ρ.t 9))).drew (ρ.t 24) (ρ.t 24) A (ρ.t 9) w.heap.size (i*k) (n+1-i) J x 1 vc k g (ρ.t 9) vs L.t24 a5 (by show (w.heap.push (.cells g (ρ.t 9)))[w.heap.size]? = _;simp) (by rw[o,a6,cX]) (fun j v y=>by
   have d6:(x.add j).block≠w.heap.size:=by
    have:(x.add j).block=x.block:=by unfold Addr.add;split<;>rfl
    rw[this];exact c6
   have c4:(x.add j).block<w.heap.size:=by
    have:(x.add j).block=x.block:=by unfold Addr.add;split<;>rfl
    rw[this];exact c7
   show (w.alloc (.cells g (ρ.t 9))).cell? (x.add j)=some v;rw[World.cell?_of_block (w:=w) (Below.heap_alloc w _ _ c4)]
   exact a7 j v y) (by rw[a6];omega) a9
  rw[o,<- B] at this;exact this
 have D:m.size=g.size:=by
  rw[B];simp;omega
 have b2:∀A J sc,(Builtin.copy_ #[(ρ.t 24),(ρ.t 24)] A #[.slice (some ⟨w.heap.size,(i+1)*k,none⟩) (n-i) J,.slice (some ⟨b,i*k,none⟩) (n-i) sc]).run P ((w.alloc (.cells g (ρ.t 9))).drew.setRow w.heap.size m).drew= .ok (goInt (n-i:Nat)) (((w.alloc (.cells g (ρ.t 9))).drew.setRow w.heap.size m).drew.setRow w.heap.size (m.toList.take (i*k+k)++cs++m.toList.drop (i*k+k+cs.length)).toArray):=fun A J sc=>by
  have o:Nat.min (n-i) (n-i)=n-i:=Nat.min_self _;have:=sC ((w.alloc (.cells g (ρ.t 9))).drew.setRow w.heap.size m).drew (ρ.t 24) (ρ.t 24) A (ρ.t 9) w.heap.size (i*k+k) (n-i) J ⟨b,i*k,none⟩ (n-i) sc k m (ρ.t 9) cs L.t24 a5
   (by show ((w.alloc (.cells g (ρ.t 9))).drew.setRow w.heap.size m).heap[w.heap.size]? = _;exact setRow_heap _ w.heap.size g m (ρ.t 9) (0,0) (by show (w.heap.push (.cells g (ρ.t 9)))[w.heap.size]? = _;simp)) (by rw[o,X]) (fun j v y=>by
    rw[Addr.add_lit];have e1:((w.alloc (.cells g (ρ.t 9))).drew.setRow w.heap.size m).drew.heap[b]? =w.heap[b]? :=by
     show ((w.alloc (.cells g (ρ.t 9))).drew.setRow w.heap.size m).heap[b]? = _;rw[setRow_other _ _ _ _ b'];exact Below.heap_alloc w _ b c1
    rw[W,aX,aL] at y;split at y
    ·simp only[World.cell?,e1,u];rw[<- eO];exact y
    cases y) (by rw[D,X];omega) a8
  rw[o] at this;rw[show (i+1)*k=i*k+k by rw[bI,cX]];exact this
 have d':IntKind.i64.wrap ((i:Int)+1)=(i:Int)+1:=by rw[IntKind.wrap_i64];omega
 have e0:IntKind.i64.wrap ((n:Int)+1)=(n:Int)+1:=by rw[IntKind.wrap_i64];omega
 have e7:IntKind.i64.wrap ((n:Int)+1-(i:Int))=(n:Int)+1-(i:Int):=by rw[IntKind.wrap_i64];omega
 have d4:(0:Int)<=(i:Int)+1:=om;have d8:i<=n:=om;have d9:((i:Int)+1).toNat=i+1:=om;have d5:(i:Int)<=(n:Int):=om;have c2:=Kp.mk s;have c3:=Kp.mk B;clear b4 Z F s hG b9 B W X D hC hI b8 E u a7 a8 a9 b3 a6 C b6 Y b5 a5;obtain ⟨nm,b7⟩:=L.f22
 go_enter b7,Body2.n22_ntmps ρ
 go_wp2_with (at_builtin;refine Lib.wpList_append_run _ rfl _ _ _ _ rfl _ _ rfl rfl _ _ (a2 _) ?_)
 go_region_law_o (refine step_copy_runI rfl _ _ (ρ.t 24) (ρ.t 24) rfl _ _ (by simp[Act.eval,Act.put]) (by simp[Act.eval,Act.put]) (b2 _ _ _) ?_)
 go_wp2
 go_ret
 exact ⟨G,g,m,a',K,c2.ok,c3.ok,rfl,by rw[bW]⟩
end Go.Proofs
end
section
namespace Go.Proofs
open Go.Shelf Go.RowKit Go.Lib Go.Eng
variable {P:Program} {ρ:Ren}
theorem L0 {α:Type}(C vs:List α)(a d k:Nat)(h:a+d+k<=C.length)(g:vs.length=k):
  (((C.take (a+k)++(C.take (a+d)).drop a++C.drop (a+k+((C.take (a+d)).drop a).length)).take a++vs++(C.take (a+k)++(C.take (a+d)).drop a++C.drop (a+k+((C.take (a+d)).drop a).length)).drop (a+vs.length)).take (a+d+k))=C.take a++vs++(C.take (a+d)).drop a:=by
 have f:((C.take (a+d)).drop a).length=d:=by simp;omega
 have c:(C.take (a+k)++(C.take (a+d)).drop a++C.drop (a+k+((C.take (a+d)).drop a).length)).take a=C.take a:=by
  rw[bW,cE (by simp;omega),fP,dB om]
 have e:(C.take (a+k)++(C.take (a+d)).drop a++C.drop (a+k+((C.take (a+d)).drop a).length)).drop (a+vs.length)=(C.take (a+d)).drop a++C.drop (a+k+d):=by
  rw[g,f,bW,eW (by simp;omega),show List.drop (a+k) (C.take (a+k))= [] from List.drop_of_length_le (by simp;omega),jI]
 rw[c,e,<- bW];rw[cE (by simp;omega),cZ (by simp;omega)]
theorem L1 {α:Type}(C Z vs D R c:List α)(a d k:Nat)(o:a<=C.length)(u:d+k<=Z.length)(x:vs.length=k)(s:D.length=d)(m:R=C.take a++Z)(g:c=R.take a++vs++R.drop (a+vs.length)):
  (c.take (a+k)++D++c.drop (a+k+D.length)).take (a+d+k)=C.take a++vs++D:=by
 have n:(C.take a).length=a:=by simp;omega
 have e:R.take a=C.take a:=by rw[m,cE om,cZ om]
 have f:c.take (a+k)=C.take a++vs:=by
  rw[g,e,cE (by simp;omega),cZ (by simp;omega)]
 rw[f,cE (by simp;omega),cZ (by simp;omega)]
theorem G9 {w:World}{ok:Nat->Prop}{tt:Ty}{ys:List tt.T}{news:List Value}(s:news.length=ys.length*tt.size)(m:∀i,i<ys.length->Reads w ok tt (ys.getD i tt.dflt) ((news.drop (i*tt.size)).take tt.size)):∀u∈news,u.oneCell'=true:=by
 have n:=tt.size_pos;intro u x;obtain ⟨j,o,rfl⟩:=fV x;have g:j<ys.length*tt.size:=by rw[<- s];exact o
 have c:j/tt.size<ys.length:=Nat.div_lt_of_lt_mul (by rw[dY];exact g);refine (m (j/tt.size) c).one _ ?_;have e:=gP j n;have f:=Nat.div_add_mod j tt.size;have:((news.drop (j/tt.size*tt.size)).take tt.size)[j%tt.size]? =some news[j]:=by
  rw[aL,aE e,aX,dY,f,aY o]
 exact kT this
theorem Hc {w:World}{ok:Nat->Prop}{tt:Ty}{xs:List tt.T}{x:tt.T}{cells news:List Value}{i:Nat}(hi:i<=xs.length)(u:cells.length=xs.length*tt.size)(B:news.length=tt.size)(o:∀j,j<xs.length->Reads w ok tt (xs.getD j tt.dflt) ((cells.drop (j*tt.size)).take tt.size))(A:Reads w ok tt x news):
  ∀j,j<xs.length+1->Reads w ok tt ((xs.take i++x::xs.drop i).getD j tt.dflt) (((cells.take (i*tt.size)++news++cells.drop (i*tt.size)).drop (j*tt.size)).take tt.size):=by
 have D:=tt.size_pos;have s:i*tt.size<=xs.length*tt.size:=aN _ hi;have g:(xs.take i).length=i:=by simp;omega
 have n:(cells.take (i*tt.size)).length=(xs.take i).length*tt.size:=by rw[g,aW,u];omega
 have r1:∀j,j<(xs.take i).length->Reads w ok tt ((xs.take i).getD j tt.dflt) (((cells.take (i*tt.size)).drop (j*tt.size)).take tt.size):=fun j c=>by
  rw[g] at c;have:=o j om;have C:j*tt.size+tt.size<=i*tt.size:=by
   have:=aN tt.size (show j+1<=i by omega);rwa [bI,cX] at this
  have e1:(xs.take i).getD j tt.dflt=xs.getD j tt.dflt:=by
   rw[aB,aL,aE c,aB]
  rw[e1,nU,fP,dB om];exact this
 have r2:∀j,j< [x].length->Reads w ok tt (([x]:List tt.T).getD j tt.dflt) ((news.drop (j*tt.size)).take tt.size):=fun j c=>by
  have:j=0:=by simp at c;exact c
  subst this;rw[qL,eN,cZ om];exact A
 have r3:∀j,j<(xs.drop i).length->Reads w ok tt ((xs.drop i).getD j tt.dflt) (((cells.drop (i*tt.size)).drop (j*tt.size)).take tt.size):=fun j c=>by
  have f:i+j<xs.length:=by simp at c;omega
  have:=o (i+j) f;have e1:(xs.drop i).getD j tt.dflt=xs.getD (i+j) tt.dflt:=by
   rw[aB,aX,aB]
  rw[e1,dW,<- bI];exact this
 have y:news.length=([x]:List tt.T).length*tt.size:=by rw[B];simp
 have m:=qE (ok':=ok) n r1 y r2;have e:(cells.take (i*tt.size)++news).length=(xs.take i++ [x]).length*tt.size:=by
  rw[aO,aO,bI,n,y]
 have z:(cells.drop (i*tt.size)).length=(xs.drop i).length*tt.size:=by
  rw[bT,bT,u,Nat.sub_mul]
 have r:=qE (ok':=ok) e (by rw[aO];exact m) z r3;intro j c;have:=r j (by rw[aO,g,bT];show j<i+1+(xs.length-i);omega);rwa [bW,List.singleton_append] at this
theorem AF (tt:Ty)(L:InsL P ρ tt.size)(i0:TypeInfo)(z:Value)(b4:P.info? (ρ.t 9)=some i0)(d5:i0.zero=some z)(b7:i0.size=tt.size)(b6:z.cells.size=tt.size){xs:List tt.T}{x:tt.T}{i:Nat}(hi:i<=xs.length)(a7:(xs.length+1)*i0.bytes<=140737488355328)(A:xs.length+1<=140737488355328):
  S3 P (ρ.f 22) 0 false [.any,.val (.int .i64 i),.seq tt [x]] tt xs (ρ.t 9) (.ref 0 1) (xs.take i++x::xs.drop i):=by
 intro ok w vs u g6 B c4 d0 hr c8;have hk:=tt.size_pos;obtain ⟨r1,r2,s,r3,r4⟩:=d0;cases hr with
 | cons _ v0 _ vs _ hr=>
 cases hr with
 | cons _ v1 _ vs h1 hr=>
 cases hr with
 | cons _ v2 _ vs h2 hr=>
 cases hr;cases h1;cases h2 with
 | seq _ _ _ h2=>
 have b':Reads w ok (.slice tt) [x] [v2]:=h2;obtain ⟨a,c,m,C⟩:=tK b';have f0:=C.val;have D:m.length=tt.size:=by have:=C.len;simpa using this
 have a5:Reads w ok tt x m:=by
  have:=C.rd 0 si;rw[qL,eN,cZ om] at this;exact this
 have a3:v2= .slice a 1 c:=f0;obtain ⟨va,rfl⟩:∃va,a=some va:=by
  cases a with
  | none=>exact absurd (C.none rfl) si
  | some va=>exact ⟨va,rfl⟩
 have d3:ok va.block:=by
  obtain ⟨a',n',c',e',q1,q2,q3,q4⟩:=b';rw[a3] at e';cases e';obtain ⟨b,g7,e,q5,q6⟩:=q4 Nat.one_pos;cases e;exact q5
 have d4:∀j v,m[j]? =some v->w.cell? (va.add j)=some v:=fun j v J=>C.cell va rfl j v J;have h0:v0=u.head:=by simpa using c8
 subst h0;have Y:u.len=xs.length:=r1;rw[Y] at r3;have a6:∀j,j<xs.length->Reads w ok tt (xs.getD j tt.dflt) ((s.drop (j*tt.size)).take tt.size):=fun j J=>r4 j om;have F:s.length=xs.length*tt.size:=r3.1;have b9:∀v∈m,v.oneCell'=true:=a5.one;have d6:∀v∈s,v.oneCell'=true:=G9 F a6;rw[a3];by_cases d':i=xs.length
 ·subst d';obtain ⟨L',w',a9,a1,⟨g1,g2,g3,g4,g5⟩,c6⟩:=qD (P:=P) (w:=w) (t:=ρ.t 24) (ty:=0) L.t24 b4 d5 b7 b6 r3 C (by simpa using a7) (by show xs.length+1<= _;exact A);have b5:∀ty,(Builtin.append_ #[(ρ.t 24),(ρ.t 24)] ty #[u.head,.slice (some va) 1 c]).run P w= .ok L'.head w':=fun ty=>by
   have:(Builtin.append_ #[(ρ.t 24),(ρ.t 24)] ty #[u.head,v2]).run P w=(Builtin.append_ #[(ρ.t 24),(ρ.t 24)] 0 #[u.head,v2]).run P w:=rfl;rw[a3] at this a9;rw[this,a9]
  have hL:L'.len=xs.length+1:=by
   rcases cW a1 with ⟨_,_,e3,e4⟩ | ⟨g,cur,_,e2,_⟩
   ·simp at e4
   simpa using e2
  have b2:=PL tt.size L (u.blk.map fun p=>⟨p.1,p.2,none⟩) xs.length u.cap va c w L'.head w' (fun ty=>by
   have:=b5 ty;rwa [show u.head= .slice (u.blk.map fun p=>⟨p.1,p.2,none⟩) xs.length u.cap by rw[<- Y];rfl] at this) (fun n=>by
    rcases cW r3 with ⟨_,_,_,e4⟩ | ⟨g,cur,e1,_⟩
    ·exact e4
    ·rw[e1] at n;cases n) (fun a X=>by
    cases n:u.blk with
    | none=>rw[n] at X;cases X
    | some p=>rw[n] at X;cases X;rfl) (by
    rcases cW r3 with ⟨_,e2,_,e4⟩ | ⟨g,cur,_,_,_,e4,_⟩<;>omega) om
  rw[show u.head= .slice (u.blk.map fun p=>⟨p.1,p.2,none⟩) xs.length u.cap by rw[<- Y];rfl];refine b2.mono ?_;rintro en W ⟨rfl,rfl⟩;refine ⟨_,L',rfl,⟨g1,g2,g3,g4,fun b n Z=>g5 b n fun e=>Z e.symm⟩,(fun h=>by cases h),c6,?_,.inl ⟨rfl,rfl⟩⟩
  have o:∀ {y:tt.T} {cs:List Value},Reads w ok tt y cs->Reads W (fun b=>(ok b\/u.blk.map (·.1)=some b\/w.heap.size<=b)/\b<W.heap.size/\L'.blk.map (·.1)≠some b) tt y cs:=fun h=>h.mono (fun a v X hc=>(World.cell?_of_block (g5 _ (B _ X).1 fun e=>(B _ X).2 e.symm)).trans hc) fun b n=>⟨.inl n,bE (B b n).1 g4,fun e=>by
   rcases c6 b e with h | h
   ·exact (B b n).2 h
   have:=(B b n).1;omega⟩
  refine ⟨by rw[hL];simp,by rw[hL];exact A,s++m,by rw[hL];exact a1,fun j J=>?_⟩;rw[hL] at J;have:=Hc (x:=x) (aI xs.length) F D (fun j J=>o (a6 j J)) (o a5) j J;have e9:s.take (xs.length*tt.size)++m++s.drop (xs.length*tt.size)=s++m:=by rw[<- F,cG,lM,eH]
  rw[e9] at this;exact this
 have c7:i<xs.length:=om;obtain ⟨g,cur,e1,e2,e3,e4,e5,e6,e7⟩:∃g cur,u.blk=some (g,0)/\u.len=xs.length/\w.heap[g]? =some (.cells cur (ρ.t 9) (0,0))/\xs.length<=u.cap/\u.cap<=maxLen/\u.cap*tt.size<=cur.size/\cur.toList.take (xs.length*tt.size)=s:=by
  rcases cW r3 with ⟨_,_,_,h⟩ | h
  ·omega
  exact h
 have d9:u.head= .slice (some ⟨g,0,none⟩) xs.length u.cap:=by unfold Core.head;rw[e1,e2];rfl
 rw[d9];have g0:g<w.heap.size:=c4 g (by rw[e1];rfl);have Z:∀b,ok b->b≠g:=fun b n e=>(B b n).2 (by rw[e1,e];rfl);have hD:(s.drop (i*tt.size)).length=(xs.length-i)*tt.size:=by rw[bT,F,Nat.sub_mul]
 have a0:xs.length*tt.size=i*tt.size+(xs.length-i)*tt.size:=by rw[<- bI];congr 1;omega
 have a4:s.drop (i*tt.size)=(cur.toList.take (xs.length*tt.size)).drop (i*tt.size):=by rw[e7]
 have f8:i*tt.size+(xs.length-i)*tt.size<=cur.size:=by
  rw[<- a0];exact bA (aN _ e4) e6
 have d2:cur.toList.take (i*tt.size)=s.take (i*tt.size):=by
  rw[<- e7,fP,dB om]
 have b8:∀v∈s.drop (i*tt.size),v.oneCell'=true:=fun v hv=>d6 v (gR hv);have a2:(xs.length+1)*tt.size=i*tt.size+(xs.length-i)*tt.size+tt.size:=by rw[bI,cX,a0]
 by_cases K:xs.length+1<=u.cap
 ·have c5:u.cap<=9223372036854775807:=by unfold maxLen at e5;omega
  refine (G8 tt.size hk L g xs.length u.cap i va c (s.drop (i*tt.size)) m cur (ρ.t 9) w c7 K c5 (Z _ d3) e3 e6 a4 D d4 b8 b9 (by rw[b4];simp[b7])).mono ?_;rintro en w' ⟨rfl,A1,hA1,rfl⟩;have b3:i*tt.size+(xs.length-i)*tt.size+tt.size<=cur.size:=by
   rw[<- a2];exact bA (aN _ K) e6
  have c0:(w.drew.setRow g A1).heap[g]? =some (.cells A1 (ρ.t 9) (0,0)):=setRow_heap w.drew g cur A1 (ρ.t 9) (0,0) e3;have c1:A1.size=cur.size:=by rw[hA1];simp;omega
  have E:∀b,b≠g->((w.drew.setRow g A1).setRow g (A1.toList.take (i*tt.size)++m++A1.toList.drop (i*tt.size+m.length)).toArray).heap[b]? =w.heap[b]? :=fun b n=>by
   rw[setRow_other _ _ _ _ n,setRow_other _ _ _ _ n];rfl
  have d1:((w.drew.setRow g A1).setRow g (A1.toList.take (i*tt.size)++m++A1.toList.drop (i*tt.size+m.length)).toArray).heap.size=w.heap.size:=by simp[World.setRow]
  generalize hW:(w.drew.setRow g A1).setRow g (A1.toList.take (i*tt.size)++m++A1.toList.drop (i*tt.size+m.length)).toArray=W at*;have b1:W.heap[g]? =some (.cells (A1.toList.take (i*tt.size)++m++A1.toList.drop (i*tt.size+m.length)).toArray (ρ.t 9) (0,0)):=by
   rw[<- hW];exact setRow_heap _ g A1 _ (ρ.t 9) (0,0) c0
  refine ⟨_,zT (some (g,0)) (xs.length+1) u.cap,rfl,⟨by rw[<- hW];rfl,by rw[<- hW];rfl,by rw[<- hW];rfl,om,fun b n hn=>E b fun e=>hn (by rw[e1,e];rfl)⟩,(fun h=>by cases h),fun b n=>.inl (by rw[e1];exact n),?_,.inl ⟨rfl,rfl⟩⟩;have o:∀ {y:tt.T} {cs:List Value},Reads w ok tt y cs->Reads W (fun b=>(ok b\/u.blk.map (·.1)=some b\/w.heap.size<=b)/\b<W.heap.size/\(zT (some (g,0)) (xs.length+1) u.cap).blk.map (·.1)≠some b) tt y cs:=fun h=>h.mono (fun a v X hc=>(World.cell?_of_block (E _ (Z _ X))).trans hc) fun b n=>⟨.inl n,by rw[d1];exact (B b n).1,fun e=>Z b n (by simpa using e.symm)⟩;refine ⟨by simp;omega,A,s.take (i*tt.size)++m++s.drop (i*tt.size),⟨?_,.inr ⟨g,u.cap,_,rfl,aF _,b1,K,e5,?_,?_⟩⟩,fun j J=>Hc (x:=x) hi F D (fun j J=>o (a6 j J)) (o a5) j J⟩
  ·show (s.take (i*tt.size)++m++s.drop (i*tt.size)).length=(xs.length+1)*tt.size;rw[aO,aO,hD,D,aW,F,a2,a0];omega
  ·simp;omega
  show ((A1.toList.take (i*tt.size)++m++A1.toList.drop (i*tt.size+m.length)).toArray.toList).take ((xs.length+1)*tt.size)= _;have:=L0 cur.toList m (i*tt.size) ((xs.length-i)*tt.size) tt.size (by simpa using b3) D;rw[a2,<- d2,a4,hA1,a4,a0];simpa using this
 refine (LZ tt.size hk L g xs.length u.cap i va c (s.drop (i*tt.size)) m cur (ρ.t 9) w c7 e4 om e3 e6 a4 D d4 b8 b9 i0 z b4 d5 b7 b6 a7 A).mono ?_;rintro en w' ⟨G,ROW,A1,hG1,hG2,hROW,hA1,rfl,rfl⟩;have a8:∀b,b<w.heap.size->b≠w.heap.size:=fun b n=>om;have c2:ROW.toList=cur.toList.take (i*tt.size)++((Builtin.zeroCells z.cells (xs.length+1-i)).toList++(Builtin.zeroCells z.cells (G-(xs.length+1))).toList):=by rw[hROW];simp
 have c3:((Builtin.zeroCells z.cells (xs.length+1-i)).toList++(Builtin.zeroCells z.cells (G-(xs.length+1))).toList).length=(G-i)*tt.size:=by
  simp[Builtin.zeroCells,b6];rw[<- bI];congr 1
  omega
 have d7:(xs.length-i)*tt.size+tt.size<=(G-i)*tt.size:=by
  have:=aN tt.size (show (xs.length-i)+1<=G-i by omega);rwa [bI,cX] at this
 have d8:G*tt.size=i*tt.size+(G-i)*tt.size:=by rw[<- bI];congr 1;omega
 have f':ROW.size=G*tt.size:=by
  have:ROW.toList.length=i*tt.size+(G-i)*tt.size:=by
   rw[c2,aO,c3,aW];simp;omega
  rw[d8];simpa using this
 have c1:A1.size=ROW.size:=by rw[hA1];simp;omega
 have e0:(w.alloc (.cells ROW (ρ.t 9))).drew.heap[w.heap.size]? =some (.cells ROW (ρ.t 9) (0,0)):=by show (w.heap.push (.cells ROW (ρ.t 9)))[w.heap.size]? = _;simp
 have e8:((w.alloc (.cells ROW (ρ.t 9))).drew.setRow w.heap.size A1).drew.heap[w.heap.size]? =some (.cells A1 (ρ.t 9) (0,0)):=by
  show ((w.alloc (.cells ROW (ρ.t 9))).drew.setRow w.heap.size A1).heap[w.heap.size]? = _;exact setRow_heap _ w.heap.size ROW A1 (ρ.t 9) (0,0) e0
 have E:∀b,b<w.heap.size->(((w.alloc (.cells ROW (ρ.t 9))).drew.setRow w.heap.size A1).drew.setRow w.heap.size (A1.toList.take (i*tt.size+tt.size)++s.drop (i*tt.size)++A1.toList.drop (i*tt.size+tt.size+(s.drop (i*tt.size)).length)).toArray).heap[b]? =w.heap[b]? :=fun b n=>by
  rw[setRow_other _ _ _ _ (a8 b n)];show ((w.alloc (.cells ROW (ρ.t 9))).drew.setRow w.heap.size A1).heap[b]? = _;rw[setRow_other _ _ _ _ (a8 b n)];exact Below.heap_alloc w _ b n
 have d1:(((w.alloc (.cells ROW (ρ.t 9))).drew.setRow w.heap.size A1).drew.setRow w.heap.size (A1.toList.take (i*tt.size+tt.size)++s.drop (i*tt.size)++A1.toList.drop (i*tt.size+tt.size+(s.drop (i*tt.size)).length)).toArray).heap.size=w.heap.size+1:=by
  have:((w.alloc (.cells ROW (ρ.t 9))).drew).heap.size=w.heap.size+1:=by show (w.heap.push _).size= _;simp
  simp only[World.setRow,Array.size_modify];show (Array.modify ((w.alloc (.cells ROW (ρ.t 9))).drew).heap _ _).size= _;rw[Array.size_modify];exact this
 generalize hW:((w.alloc (.cells ROW (ρ.t 9))).drew.setRow w.heap.size A1).drew.setRow w.heap.size (A1.toList.take (i*tt.size+tt.size)++s.drop (i*tt.size)++A1.toList.drop (i*tt.size+tt.size+(s.drop (i*tt.size)).length)).toArray=W at*;have b1:W.heap[w.heap.size]? =some (.cells (A1.toList.take (i*tt.size+tt.size)++s.drop (i*tt.size)++A1.toList.drop (i*tt.size+tt.size+(s.drop (i*tt.size)).length)).toArray (ρ.t 9) (0,0)):=by
  rw[<- hW];exact setRow_heap _ _ A1 _ (ρ.t 9) (0,0) e8
 refine ⟨_,zT (some (w.heap.size,0)) (xs.length+1) G,rfl,⟨by rw[<- hW];rfl,by rw[<- hW];rfl,by rw[<- hW];rfl,om,fun b n hn=>E b n⟩,(fun h=>by cases h),fun b n=>.inr (kU (show w.heap.size=b by simpa using n)),?_,.inl ⟨rfl,rfl⟩⟩
 have o:∀ {y:tt.T} {cs:List Value},Reads w ok tt y cs->Reads W (fun b=>(ok b\/u.blk.map (·.1)=some b\/w.heap.size<=b)/\b<W.heap.size/\(zT (some (w.heap.size,0)) (xs.length+1) G).blk.map (·.1)≠some b) tt y cs:=fun h=>h.mono (fun a v X hc=>(World.cell?_of_block (E _ (B _ X).1)).trans hc) fun b n=>⟨.inl n,by have:=(B b n).1;omega,fun e=>by
  have:w.heap.size=b:=by simpa using e
  have:=(B b n).1
  omega⟩
 refine ⟨by simp;omega,A,s.take (i*tt.size)++m++s.drop (i*tt.size),⟨?_,.inr ⟨w.heap.size,G,_,rfl,aF _,b1,hG1,hG2,?_,?_⟩⟩,fun j J=>Hc (x:=x) hi F D (fun j J=>o (a6 j J)) (o a5) j J⟩
 ·show (s.take (i*tt.size)++m++s.drop (i*tt.size)).length=(xs.length+1)*tt.size;rw[aO,aO,hD,D,aW,F,a2,a0];omega
 ·simp[hD];omega
 show ((A1.toList.take (i*tt.size+tt.size)++s.drop (i*tt.size)++A1.toList.drop (i*tt.size+tt.size+(s.drop (i*tt.size)).length)).toArray.toList).take ((xs.length+1)*tt.size)= _;have:=L1 cur.toList _ m (s.drop (i*tt.size)) ROW.toList A1.toList (i*tt.size) ((xs.length-i)*tt.size) tt.size (by simp;omega) (by rw[c3];exact d7) D hD c2 (by rw[hA1]);rw[a2,<- d2];simpa using this
end Go.Proofs
end
section
open Go Go.Proofs Go.Eng Go.Shelf IB Go.Lib Go.RowKit Tryz
namespace RB
def FN.i_ren:Go.Shelf.Ren:=⟨fun | 22=>120 | 29=>173 | 30=>174 | n=>n,fun | 0=>0 | 3=>3 | 4=>4 | 9=>3 | 24=>25 | n=>n,fun | n=>n⟩
theorem FN.i:InsL Tp FN.i_ren 1 where
 mixed:=kr
 f22:=⟨_,Tryz.func120.trans (aR some (show f120= { Body2.n22 FN.i_ren with name:=Tryz.f120.name } by kernel_rfl))⟩
 ov:=fun args w=>run_callFunc_extern func173 kr kr kr (e:=Extern.SlicesOverlaps.overlaps #[25,25] #[4]) kr args w
 t0:=Tryz.underlying0
 a0:=Tryz.isAgg0
 z0:=Tryz.sizeOf0
 v0:=Tryz.zeroValue0
 t3:=Tryz.underlying3
 a3:=Tryz.isAgg3
 z3:=Tryz.sizeOf3
 v3:=Tryz.zeroValue3
 t4:=Tryz.underlying4
 a4:=Tryz.isAgg4
 z4:=Tryz.sizeOf4
 v4:=Tryz.zeroValue4
 z9:=Tryz.sizeOf3
 t24:=Tryz.underlying25
 a24:=Tryz.isAgg25
 z24:=Tryz.sizeOf25
 v24:=Tryz.zeroValue25
theorem FN.i_info:(Tp.info? 3).map (fun i=>(i.zero,i.size,i.bytes))=some (some (.int .i64 0),1,8):=kr
def KX:Con:=rB 120 0 false fun args o K=>match args,o with | [.any,.val (.int .i64 i),.seq (.int .i64) [x]],.vec 1 (.int .i64) xs 3=>Need (0<=i/\i<=(length (α:=Int) xs:Int)/\length (α:=Int) xs<=5000) (K (.ref 0 1) (.vec 1 (.int .i64) (List.take (α:=Int) i.toNat xs++x::List.drop (α:=Int) i.toNat xs) 3)) | _,_=>False
theorem k5120:aM Tp KX:=by
 refine mK (enters_of func120 kr rfl) ?_;intro o t B e K u h;split at h
 ·rename_i i x s c;cases c;obtain ⟨⟨y,z,A⟩,h⟩:=h;obtain ⟨p,rfl⟩:∃p:Nat,i=p:=⟨i.toNat,om⟩;obtain ⟨i0,f,g,n,m⟩:=info_parts FN.i_info;refine ⟨_,_,h,AF (.int .i64) FN.i i0 _ f g n kr (show p<=length (α:=Int) _ by omega) ?_ ?_⟩
  ·rw[m]
   first | change List (Int) at s | skip
   omega
  first | change List (Int) at s | skip
  omega
 cases h
def FN.a_ren:Go.Shelf.Ren:=⟨fun | 22=>131 | 29=>177 | 30=>178 | n=>n,fun | 0=>0 | 3=>3 | 4=>4 | 9=>60 | 24=>32 | n=>n,fun | n=>n⟩
theorem FN.a:InsL Tp FN.a_ren 5 where
 mixed:=kr
 f22:=⟨_,Tryz.func131.trans (aR some (show f131= { Body2.n22 FN.a_ren with name:=Tryz.f131.name } by kernel_rfl))⟩
 ov:=fun args w=>run_callFunc_extern func177 kr kr kr (e:=Extern.SlicesOverlaps.overlaps #[32,32] #[4]) kr args w
 t0:=Tryz.underlying0
 a0:=Tryz.isAgg0
 z0:=Tryz.sizeOf0
 v0:=Tryz.zeroValue0
 t3:=Tryz.underlying3
 a3:=Tryz.isAgg3
 z3:=Tryz.sizeOf3
 v3:=Tryz.zeroValue3
 t4:=Tryz.underlying4
 a4:=Tryz.isAgg4
 z4:=Tryz.sizeOf4
 v4:=Tryz.zeroValue4
 z9:=Tryz.sizeOf60
 t24:=Tryz.underlying32
 a24:=Tryz.isAgg32
 z24:=Tryz.sizeOf32
 v24:=Tryz.zeroValue32
theorem FN.a_info:(Tp.info? 60).map (fun i=>(i.zero,i.size,i.bytes))=some (some (.agg #[.int .i64 0,.int .i64 0,.int .i64 0,.int .i64 0,.int .i64 0]),5,40):=kr
def KY:Con:=rB 131 0 false fun args o K=>match args,o with | [.any,.val (.int .i64 i),.seq ((.pair (.int .i64) (.pair (.int .i64) (.pair (.int .i64) (.pair (.int .i64) (.int .i64)))))) [x]],.vec 1 ((.pair (.int .i64) (.pair (.int .i64) (.pair (.int .i64) (.pair (.int .i64) (.int .i64)))))) xs 60=>Need (0<=i/\i<=(length (α:=Alw) xs:Int)/\length (α:=Alw) xs<=5000) (K (.ref 0 1) (.vec 1 (qe) (List.take (α:=Alw) i.toNat xs++x::List.drop (α:=Alw) i.toNat xs) 60)) | _,_=>False
theorem k5131:aM Tp KY:=by
 refine mK (enters_of func131 kr rfl) ?_;intro o t B e K u h;split at h
 ·rename_i i x s c;cases c;obtain ⟨⟨y,z,A⟩,h⟩:=h;obtain ⟨p,rfl⟩:∃p:Nat,i=p:=⟨i.toNat,om⟩;obtain ⟨i0,f,g,n,m⟩:=info_parts FN.a_info;refine ⟨_,_,h,AF (qe) FN.a i0 _ f g n kr (show p<=length (α:=Alw) _ by omega) ?_ ?_⟩
  ·rw[m]
   first | change List (Alw) at s | skip
   omega
  first | change List (Alw) at s | skip
  omega
 cases h
def iC (l:List SV)(K:Int->List SV->Prop):Prop:=match l with
 | .val (.int .i64 n)::r=>K n r
 | _=>False
def tC (l:List SV)(K:Str->List SV->Prop):Prop:=match l with
 | .str s::r=>K s r
 | _=>False
def bC (l:List SV)(K:(p:Prop)->Decidable p->List SV->Prop):Prop:=match l with
 | .bl p d::r=>K p d r
 | _=>False
def qC (t:Ty)(l:List SV)(K:List t.T->List SV->Prop):Prop:=match l with
 | .seq t' xs::r=>if h:t'=t then Hu h xs fun xs=>K xs r else False
 | _=>False
def nC (l:List SV)(K:Prop):Prop:=match l with
 | []=>K
 | _=>False
theorem fC {l:List SV}{K:Int->List SV->Prop}(h:iC l K):∃n r,l= .val (.int .i64 n)::r/\K n r:=by
 unfold iC at h;split at h
 ·exact ⟨_,_,rfl,h⟩
 cases h
theorem Du {l:List SV}{K:Str->List SV->Prop}(h:tC l K):∃n r,l= .str n::r/\K n r:=by
 unfold tC at h;split at h
 ·exact ⟨_,_,rfl,h⟩
 cases h
theorem bC_e {l:List SV}{K:(p:Prop)->Decidable p->List SV->Prop}(h:bC l K):∃p d r,l= .bl p d::r/\K p d r:=by
 unfold bC at h;split at h
 ·exact ⟨_,_,_,rfl,h⟩
 cases h
theorem tO {t:Ty}{l:List SV}{K:List t.T->List SV->Prop}(h:qC t l K):∃xs r,l= .seq t xs::r/\K xs r:=by
 unfold qC at h;split at h
 ·split at h
  ·rename_i e;subst e;rw[pZ] at h;exact ⟨_,_,rfl,h⟩
  cases h
 cases h
theorem KZ {l:List SV}{K:Prop}(h:nC l K):l= []/\K:=by
 unfold nC at h;split at h
 ·exact ⟨rfl,h⟩
 cases h
def pQ (l:List SV)(K:Int->Int->Int->Int->Int->Int->(p:Prop)->Decidable p->Int->Int->Int->Str->Str->Str->Str->Int->Int->Int->Int->Int->Int->Int->Int->List Gp->Int->Int->Str->Int->Int->Int->Int->Int->Int->Int->Int->Int->Int->Str->Prop):Prop:=iC l fun k l=>iC l fun ix l=>iC l fun sx l=>iC l fun sy l=>iC l fun sr l=>iC l fun su l=>bC l fun sg dsg l=>iC l fun sl l=>iC l fun so l=>iC l fun os l=>tC l fun o1 l=>tC l fun o2 l=>tC l fun o3 l=>tC l fun o4 l=>iC l fun zk l=>iC l fun zw l=>iC l fun zd l=>iC l fun bw l=>iC l fun bd l=>iC l fun bl l=>iC l fun bc l=>iC l fun bx l=>qC qj l fun bg l=>iC l fun lki l=>iC l fun ls l=>tC l fun lw l=>iC l fun aw l=>iC l fun ad l=>iC l fun ap l=>iC l fun av l=>iC l fun an l=>iC l fun e1 l=>iC l fun e2 l=>iC l fun e3 l=>iC l fun e4 l=>iC l fun nu l=>tC l fun tx l=>nC l (K k ix sx sy sr su sg dsg sl so os o1 o2 o3 o4 zk zw zd bw bd bl bc bx bg lki ls lw aw ad ap av an e1 e2 e3 e4 nu tx)
theorem kD {l:List SV}{K:Int->Int->Int->Int->Int->Int->(p:Prop)->Decidable p->Int->Int->Int->Str->Str->Str->Str->Int->Int->Int->Int->Int->Int->Int->Int->List Gp->Int->Int->Str->Int->Int->Int->Int->Int->Int->Int->Int->Int->Int->Str->Prop}{C:Prop}(h:pQ l K)(f:∀(k:Int) (B:Int) (sx:Int) (sy:Int) (sr:Int) (su:Int) (g:Prop) (c:Decidable g) (Z:Int) (so:Int) (os:Int) (J:Str) (W:Str) (X:Str) (Y:Str) (zk:Int) (zw:Int) (zd:Int) (A:Int) (x:Int) (z:Int) (u:Int) (bx:Int) (y:List Gp) (e:Int) (D:Int) (E:Str) (s:Int) (ad:Int) (n:Int) (o:Int) (m:Int) (e1:Int) (e2:Int) (e3:Int) (e4:Int) (F:Int) (tx:Str),l=(I k::I B::I sx::I sy::I sr::I su:: .bl g c::I Z::I so::I os::S J::S W::S X::S Y::I zk::I zw::I zd::I A::I x::I z::I u::I bx:: .seq qj y::I e::I D::S E::I s::I ad::I n::I o::I m::I e1::I e2::I e3::I e4::I F::S tx:: [])->K k B sx sy sr su g c Z so os J W X Y zk zw zd A x z u bx y e D E s ad n o m e1 e2 e3 e4 F tx->C):C:=by
 unfold pQ at h;obtain ⟨k,l,rfl,h0⟩:=fC h;obtain ⟨B,l,rfl,h1⟩:=fC h0;obtain ⟨sx,l,rfl,h2⟩:=fC h1;obtain ⟨sy,l,rfl,h3⟩:=fC h2;obtain ⟨sr,l,rfl,h4⟩:=fC h3;obtain ⟨su,l,rfl,h5⟩:=fC h4;obtain ⟨g,c,l,rfl,h6⟩:=bC_e h5;obtain ⟨Z,l,rfl,h7⟩:=fC h6;obtain ⟨so,l,rfl,h8⟩:=fC h7;obtain ⟨os,l,rfl,h9⟩:=fC h8;obtain ⟨J,l,rfl,a0⟩:=Du h9;obtain ⟨W,l,rfl,a1⟩:=Du a0;obtain ⟨X,l,rfl,a2⟩:=Du a1;obtain ⟨Y,l,rfl,a3⟩:=Du a2;obtain ⟨zk,l,rfl,a4⟩:=fC a3;obtain ⟨zw,l,rfl,a5⟩:=fC a4;obtain ⟨zd,l,rfl,a6⟩:=fC a5;obtain ⟨A,l,rfl,a7⟩:=fC a6;obtain ⟨x,l,rfl,a8⟩:=fC a7;obtain ⟨z,l,rfl,a9⟩:=fC a8;obtain ⟨u,l,rfl,a'⟩:=fC a9;obtain ⟨bx,l,rfl,b1⟩:=fC a';obtain ⟨y,l,rfl,b2⟩:=tO b1;obtain ⟨e,l,rfl,b3⟩:=fC b2;obtain ⟨D,l,rfl,b4⟩:=fC b3;obtain ⟨E,l,rfl,b5⟩:=Du b4;obtain ⟨s,l,rfl,b6⟩:=fC b5;obtain ⟨ad,l,rfl,b7⟩:=fC b6;obtain ⟨n,l,rfl,b8⟩:=fC b7;obtain ⟨o,l,rfl,b9⟩:=fC b8;obtain ⟨m,l,rfl,b'⟩:=fC b9;obtain ⟨e1,l,rfl,c0⟩:=fC b';obtain ⟨e2,l,rfl,c1⟩:=fC c0;obtain ⟨e3,l,rfl,c2⟩:=fC c1;obtain ⟨e4,l,rfl,c3⟩:=fC c2;obtain ⟨F,l,rfl,c4⟩:=fC c3;obtain ⟨tx,l,rfl,c5⟩:=Du c4;obtain ⟨rfl,hh⟩:=KZ c5;exact f k B sx sy sr su g c Z so os J W X Y zk zw zd A x z u bx y e D E s ad n o m e1 e2 e3 e4 F tx rfl hh
def sJ (l:List SV)(K:Str->List (List Sid)->Int->Int->List Int->List Opn->List Siz->List Bar->Int->Int->Int->Int->Int->List Lod->List Alw->Prop):Prop:=tC l fun nm l=>qC qc l fun pl l=>iC l fun og l=>iC l fun sp l=>qC (.int .i64) l fun pu l=>qC qg l fun op l=>qC qh l fun sz l=>qC qb l fun br l=>iC l fun kf l=>iC l fun t1 l=>iC l fun t2 l=>iC l fun t3 l=>iC l fun t4 l=>qC qi l fun lo l=>qC qe l fun al l=>nC l (K nm pl og sp pu op sz br kf t1 t2 t3 t4 lo al)
theorem mB {l:List SV}{K:Str->List (List Sid)->Int->Int->List Int->List Opn->List Siz->List Bar->Int->Int->Int->Int->Int->List Lod->List Alw->Prop}{C:Prop}(h:sJ l K)(f:∀(nm:Str) (o:List (List Sid)) (m:Int) (sp:Int) (pu:List Int) (n:List Opn) (s:List Siz) (e:List Bar) (g:Int) (u:Int) (t2:Int) (t3:Int) (t4:Int) (lo:List Lod) (c:List Alw),l=(S nm:: .seq qc o::I m::I sp:: .seq (.int .i64) pu:: .seq qg n:: .seq qh s:: .seq qb e::I g::I u::I t2::I t3::I t4:: .seq qi lo:: .seq qe c:: [])->K nm o m sp pu n s e g u t2 t3 t4 lo c->C):C:=by
 unfold sJ at h;obtain ⟨nm,l,rfl,D⟩:=Du h;obtain ⟨o,l,rfl,E⟩:=tO D;obtain ⟨m,l,rfl,F⟩:=fC E;obtain ⟨sp,l,rfl,J⟩:=fC F;obtain ⟨pu,l,rfl,W⟩:=tO J;obtain ⟨n,l,rfl,X⟩:=tO W;obtain ⟨s,l,rfl,Y⟩:=tO X;obtain ⟨e,l,rfl,Z⟩:=tO Y;obtain ⟨g,l,rfl,h8⟩:=fC Z;obtain ⟨u,l,rfl,h9⟩:=fC h8;obtain ⟨t2,l,rfl,x⟩:=fC h9;obtain ⟨t3,l,rfl,y⟩:=fC x;obtain ⟨t4,l,rfl,z⟩:=fC y;obtain ⟨lo,l,rfl,A⟩:=tO z;obtain ⟨c,l,rfl,B⟩:=tO A;obtain ⟨rfl,hh⟩:=KZ B;exact f nm o m sp pu n s e g u t2 t3 t4 lo c rfl hh
def Nl (l:List SV)(K:Str->List (List Sid)->Int->Int->List Int->List Opn->List Siz->List Bar->Int->Int->Int->Int->Int->List Lod->List Alw->List dR->List Bool->Prop):Prop:=tC l fun nm l=>qC qc l fun pl l=>iC l fun og l=>iC l fun sp l=>qC (.int .i64) l fun pu l=>qC qg l fun op l=>qC qh l fun sz l=>qC qb l fun br l=>iC l fun kf l=>iC l fun t1 l=>iC l fun t2 l=>iC l fun t3 l=>iC l fun t4 l=>qC qi l fun lo l=>qC qe l fun al l=>qC qa l fun es l=>qC .bool l fun us l=>nC l (K nm pl og sp pu op sz br kf t1 t2 t3 t4 lo al es us)
theorem Fj {l:List SV}{K:Str->List (List Sid)->Int->Int->List Int->List Opn->List Siz->List Bar->Int->Int->Int->Int->Int->List Lod->List Alw->List dR->List Bool->Prop}{C:Prop}(h:Nl l K)(f:∀(nm:Str) (o:List (List Sid)) (m:Int) (sp:Int) (pu:List Int) (n:List Opn) (s:List Siz) (e:List Bar) (g:Int) (u:Int) (t2:Int) (t3:Int) (t4:Int) (lo:List Lod) (c:List Alw) (es:List dR) (us:List Bool),l=(S nm:: .seq qc o::I m::I sp:: .seq (.int .i64) pu:: .seq qg n:: .seq qh s:: .seq qb e::I g::I u::I t2::I t3::I t4:: .seq qi lo:: .seq qe c:: .seq qa es:: .seq .bool us:: [])->K nm o m sp pu n s e g u t2 t3 t4 lo c es us->C):C:=by
 unfold Nl at h;obtain ⟨nm,l,rfl,F⟩:=Du h;obtain ⟨o,l,rfl,J⟩:=tO F;obtain ⟨m,l,rfl,W⟩:=fC J;obtain ⟨sp,l,rfl,X⟩:=fC W;obtain ⟨pu,l,rfl,Y⟩:=tO X;obtain ⟨n,l,rfl,Z⟩:=tO Y;obtain ⟨s,l,rfl,h6⟩:=tO Z;obtain ⟨e,l,rfl,h7⟩:=tO h6;obtain ⟨g,l,rfl,h8⟩:=fC h7;obtain ⟨u,l,rfl,h9⟩:=fC h8;obtain ⟨t2,l,rfl,x⟩:=fC h9;obtain ⟨t3,l,rfl,y⟩:=fC x;obtain ⟨t4,l,rfl,z⟩:=fC y;obtain ⟨lo,l,rfl,A⟩:=tO z;obtain ⟨c,l,rfl,B⟩:=tO A;obtain ⟨es,l,rfl,D⟩:=tO B;obtain ⟨us,l,rfl,E⟩:=tO D;obtain ⟨rfl,hh⟩:=KZ E;exact f nm o m sp pu n s e g u t2 t3 t4 lo c es us rfl hh
def EM:Con:=aV 119 true fun args K=>match args with | [.seq (.int .i64) l,.val (.int .i64 x)]=>Need (length (α:=Int) l<=1000000) (K (.tup [I (Yz l x),.bl ((Yz l x:Int)<(length (α:=Int) l:Int)/\getD (α:=Int) l (Yz l x) 0=x) Cp])) | _=>False
theorem k5119:aM Tp EM:=by
 refine kO func119 fun c K h=>?_;simp only[EM] at h;split at h
 ·rename_i l x;exact ⟨_,h.go,gH func119 ntmps119 (by simp[k5171,k5172]) (b5119 l x h.ok)⟩
 cases h
theorem b5065 (k X sx sy sr su:Int)(u:Prop)(c:Decidable u)(sl so os:Int)(o1 o2 o3 o4:Str)(zk zw zd W F K E bx:Int)(J:List Gp)(e Y:Int)(Z:Str)(D ad B C A e1 e2 e3 e4 nu:Int)(z nm:Str)(s:List (List Sid))(n sp:Int)(pu:List Int)(o:List Opn)(x:List Siz)(g:List Bar)(m y t2 t3 t4:Int)(lo:List Lod)(f:List Alw):vJ Tp [] {} f65 [.agg (I k::I X::I sx::I sy::I sr::I su:: .bl u c::I sl::I so::I os::S o1::S o2::S o3::S o4::I zk::I zw::I zd::I W::I F::I K::I E::I bx:: .seq qj J::I e::I Y::S Z::I D::I ad::I B::I C::I A::I e1::I e2::I e3::I e4::I nu::S z:: [])] [S nm,.seq qc s,I n,I sp,.seq (.int .i64) pu,.seq qg o,.seq qh x,.seq qb g,I m,I y,I t2,I t3,I t4,.seq qi lo,.seq qe f] 34 (I 0) [S z,.seq qc s,I n,I sp,.seq (.int .i64) pu,.seq qg o,.seq qh x,.seq qb g,I m,I y,I t2,I t3,I t4,.seq qi lo,.seq qe f]:=by
 refine Need.mk rfl ?_;refine ⟨rfl,rfl,?_,rfl,?_⟩
 ·exact ZF
 exact ZF
def R1:Con:=rL 65 34 fun args k0 K=>match args with
 | [.agg a0]=>pQ a0 fun k ix sx sy sr su sg dsg sl so os o1 o2 o3 o4 zk zw zd bw bd bl bc bx bg lki ls lw aw ad ap av an e1 e2 e3 e4 nu tx=>sJ k0 fun nm pl og sp pu op sz br kf t1 t2 t3 t4 lo al=>K (I 0) ([S tx,.seq qc pl,I og,I sp,.seq (.int .i64) pu,.seq qg op,.seq qh sz,.seq qb br,I kf,I t1,I t2,I t3,I t4,.seq qi lo,.seq qe al])
 | _=>False
theorem k5065:aM Tp R1:=by
 refine mL (enters_of func65 kr rfl) ?_;intro g k0 K h;split at h
 ·rename_i a0;refine kD h fun k E sx sy sr su sg c sl so os Z o2 o3 o4 zk zw zd D z B y bx A f J W x m s u o e1 e2 e3 e4 Y tx e h=>?_;subst e;refine mB h fun X pl og sp pu op sz C F t1 t2 t3 t4 lo n e h=>?_;subst e;exact ⟨_,_,h,rfl,rfl,gK (Γ:=[]) si func65 (by simp[ntmps65]) (b5065 k E sx sy sr su sg c sl so os Z o2 o3 o4 zk zw zd D z B y bx A f J W x m s u o e1 e2 e3 e4 Y tx X pl og sp pu op sz C F t1 t2 t3 t4 lo n)⟩
 cases h
theorem b5067 (k m sx sy sr su:Int)(x:Prop)(c:Decidable x)(sl so os:Int)(Z o2 o3 o4:Str)(zk zw zd W F K E bx:Int)(J:List Gp)(e X:Int)(Y:Str)(D ad B C A e1 e2 e3 e4 o:Int)(tx nm:Str)(u:List (List Sid))(og sp:Int)(pu:List Int)(s:List Opn)(y:List Siz)(g:List Bar)(n z t2 t3 t4:Int)(lo:List Lod)(f:List Alw):vJ Tp [] {} f67 [.agg (I k::I m::I sx::I sy::I sr::I su:: .bl x c::I sl::I so::I os::S Z::S o2::S o3::S o4::I zk::I zw::I zd::I W::I F::I K::I E::I bx:: .seq qj J::I e::I X::S Y::I D::I ad::I B::I C::I A::I e1::I e2::I e3::I e4::I o::S tx:: [])] [S nm,.seq qc u,I og,I sp,.seq (.int .i64) pu,.seq qg s,.seq qh y,.seq qb g,I n,I z,I t2,I t3,I t4,.seq qi lo,.seq qe f] 34 (I 0) [S nm,.seq qc u,I m,I o,.seq (.int .i64) pu,.seq qg s,.seq qh y,.seq qb g,I n,I z,I t2,I t3,I t4,.seq qi lo,.seq qe f]:=by
 refine Need.mk rfl ?_;(repeat'((conv=>whnf);first|apply pI|apply pJ|(apply PinH.mk;apply aC;apply aC)|exact Zf|refine Zc ?_ ?_|fail));refine ⟨rfl,rfl,?_,rfl,?_⟩
 ·exact ZF
 exact ZF
def R2:Con:=rL 67 34 fun args k0 K=>match args with
 | [.agg a0]=>pQ a0 fun k ix sx sy sr su sg dsg sl so os o1 o2 o3 o4 zk zw zd bw bd bl bc bx bg lki ls lw aw ad ap av an e1 e2 e3 e4 nu tx=>sJ k0 fun nm pl og sp pu op sz br kf t1 t2 t3 t4 lo al=>K (I 0) ([S nm,.seq qc pl,I ix,I nu,.seq (.int .i64) pu,.seq qg op,.seq qh sz,.seq qb br,I kf,I t1,I t2,I t3,I t4,.seq qi lo,.seq qe al])
 | _=>False
theorem k5067:aM Tp R2:=by
 refine mL (enters_of func67 kr rfl) ?_;intro g k0 K h;split at h
 ·rename_i a0;refine kD h fun k E sx sy sr su sg c sl so os Z o2 o3 o4 zk zw zd D z B y bx A f J W x m s u o e1 e2 e3 e4 Y tx e h=>?_;subst e;refine mB h fun X pl og sp pu op sz C F t1 t2 t3 t4 lo n e h=>?_;subst e;exact ⟨_,_,h,rfl,rfl,gK (Γ:=[]) si func67 (by simp[ntmps67]) (b5067 k E sx sy sr su sg c sl so os Z o2 o3 o4 zk zw zd D z B y bx A f J W x m s u o e1 e2 e3 e4 Y tx X pl og sp pu op sz C F t1 t2 t3 t4 lo n)⟩
 cases h
theorem b5074 (k W sx sy sr su:Int)(u:Prop)(c:Decidable u)(sl so os:Int)(o1 o2 o3 o4:Str)(zk zw zd K E J D bx:Int)(F:List Gp)(e Y:Int)(Z:Str)(C ad A B z e1 e2 e3 e4 m:Int)(tx nm:Str)(s:List (List Sid))(n sp:Int)(pu:List Int)(o:List Opn)(x:List Siz)(g:List Bar)(X y t2 t3 t4:Int)(lo:List Lod)(f:List Alw):vJ Tp [] {} f74 [.agg (I k::I W::I sx::I sy::I sr::I su:: .bl u c::I sl::I so::I os::S o1::S o2::S o3::S o4::I zk::I zw::I zd::I K::I E::I J::I D::I bx:: .seq qj F::I e::I Y::S Z::I C::I ad::I A::I B::I z::I e1::I e2::I e3::I e4::I m::S tx:: [])] [S nm,.seq qc s,I n,I sp,.seq (.int .i64) pu,.seq qg o,.seq qh x,.seq qb g,I X,I y,I t2,I t3,I t4,.seq qi lo,.seq qe f] 34 (I 0) [S nm,.seq qc s,I n,I sp,.seq (.int .i64) pu,.seq qg o,.seq qh x,.seq qb g,I m,I y,I t2,I t3,I t4,.seq qi lo,.seq qe f]:=by
 refine Need.mk rfl ?_;refine ⟨rfl,rfl,?_,rfl,?_⟩
 ·exact ZF
 exact ZF
def R3:Con:=rL 74 34 fun args k0 K=>match args with
 | [.agg a0]=>pQ a0 fun k ix sx sy sr su sg dsg sl so os o1 o2 o3 o4 zk zw zd bw bd bl bc bx bg lki ls lw aw ad ap av an e1 e2 e3 e4 nu tx=>sJ k0 fun nm pl og sp pu op sz br kf t1 t2 t3 t4 lo al=>K (I 0) ([S nm,.seq qc pl,I og,I sp,.seq (.int .i64) pu,.seq qg op,.seq qh sz,.seq qb br,I nu,I t1,I t2,I t3,I t4,.seq qi lo,.seq qe al])
 | _=>False
theorem k5074:aM Tp R3:=by
 refine mL (enters_of func74 kr rfl) ?_;intro g k0 K h;split at h
 ·rename_i a0;refine kD h fun k E sx sy sr su sg c sl so os Z o2 o3 o4 zk zw zd D z B y bx A f J W x m s u o e1 e2 e3 e4 Y tx e h=>?_;subst e;refine mB h fun X pl og sp pu op sz C F t1 t2 t3 t4 lo n e h=>?_;subst e;exact ⟨_,_,h,rfl,rfl,gK (Γ:=[]) si func74 (by simp[ntmps74]) (b5074 k E sx sy sr su sg c sl so os Z o2 o3 o4 zk zw zd D z B y bx A f J W x m s u o e1 e2 e3 e4 Y tx X pl og sp pu op sz C F t1 t2 t3 t4 lo n)⟩
 cases h
theorem b5075 (k K sx sy sr su:Int)(u:Prop)(c:Decidable u)(sl so os:Int)(Z o2 o3 o4:Str)(zk zw zd J D F C bx:Int)(E:List Gp)(e W:Int)(X:Str)(B ad z A y e1 e2 e3 e4 Y:Int)(tx nm:Str)(s:List (List Sid))(n sp:Int)(pu:List Int)(o:List Opn)(x:List Siz)(g:List Bar)(m t1 t2 t3 t4:Int)(lo:List Lod)(f:List Alw):vJ Tp [] {} f75 [.agg (I k::I K::I sx::I sy::I sr::I su:: .bl u c::I sl::I so::I os::S Z::S o2::S o3::S o4::I zk::I zw::I zd::I J::I D::I F::I C::I bx:: .seq qj E::I e::I W::S X::I B::I ad::I z::I A::I y::I e1::I e2::I e3::I e4::I Y::S tx:: [])] [S nm,.seq qc s,I n,I sp,.seq (.int .i64) pu,.seq qg o,.seq qh x,.seq qb g,I m,I t1,I t2,I t3,I t4,.seq qi lo,.seq qe f] 34 (I 0) [S nm,.seq qc s,I n,I sp,.seq (.int .i64) pu,.seq qg o,.seq qh x,.seq qb g,I m,I e1,I e2,I e3,I e4,.seq qi lo,.seq qe f]:=by
 refine Need.mk rfl ?_;refine ⟨rfl,rfl,?_,rfl,?_⟩
 ·exact ZF
 exact ZF
def R4:Con:=rL 75 34 fun args k0 K=>match args with
 | [.agg a0]=>pQ a0 fun k ix sx sy sr su sg dsg sl so os o1 o2 o3 o4 zk zw zd bw bd bl bc bx bg lki ls lw aw ad ap av an e1 e2 e3 e4 nu tx=>sJ k0 fun nm pl og sp pu op sz br kf t1 t2 t3 t4 lo al=>K (I 0) ([S nm,.seq qc pl,I og,I sp,.seq (.int .i64) pu,.seq qg op,.seq qh sz,.seq qb br,I kf,I e1,I e2,I e3,I e4,.seq qi lo,.seq qe al])
 | _=>False
theorem k5075:aM Tp R4:=by
 refine mL (enters_of func75 kr rfl) ?_;intro g k0 K h;split at h
 ·rename_i a0;refine kD h fun k E sx sy sr su sg c sl so os Z o2 o3 o4 zk zw zd D z B y bx A f J W x m s u o e1 e2 e3 e4 Y tx e h=>?_;subst e;refine mB h fun X pl og sp pu op sz C F t1 t2 t3 t4 lo n e h=>?_;subst e;exact ⟨_,_,h,rfl,rfl,gK (Γ:=[]) si func75 (by simp[ntmps75]) (b5075 k E sx sy sr su sg c sl so os Z o2 o3 o4 zk zw zd D z B y bx A f J W x m s u o e1 e2 e3 e4 Y tx X pl og sp pu op sz C F t1 t2 t3 t4 lo n)⟩
 cases h
theorem b5069 (k f sx sy sr su:Int)(B:Prop)(e:Decidable B)(sl so os:Int)(m n o s:Str)(zk zw zd bw X Z W bx:Int)(Y:List Gp)(g ls:Int)(lw:Str)(K ad F J E e1 e2 e3 e4 nu:Int)(tx nm:Str)(A:List (List Sid))(z sp:Int)(pu:List Int)(c:List Opn)(C:List Siz)(x:List Bar)(y D t2 t3 t4:Int)(lo:List Lod)(u:List Alw)(h:length (α:=Opn) c<=4100):vJ Tp [KF] {} f69 [.agg (I k::I f::I sx::I sy::I sr::I su:: .bl B e::I sl::I so::I os::S m::S n::S o::S s::I zk::I zw::I zd::I bw::I X::I Z::I W::I bx:: .seq qj Y::I g::I ls::S lw::I K::I ad::I F::I J::I E::I e1::I e2::I e3::I e4::I nu::S tx:: [])] [S nm,.seq qc A,I z,I sp,.seq (.int .i64) pu,.seq qg c,.seq qh C,.seq qb x,I y,I D,I t2,I t3,I t4,.seq qi lo,.seq qe u] 34 (I (kP c f (os,m,n,o,s)).2) [S nm,.seq qc A,I z,I sp,.seq (.int .i64) pu,.seq Ui (kP c f (os,m,n,o,s)).1,.seq qh C,.seq qb x,I y,I D,I t2,I t3,I t4,.seq qi lo,.seq qe u]:=by
 refine Need.mk rfl ?_;(repeat'((conv=>whnf);first|refine Zn ?_|apply pI|apply pJ|(apply PinH.mk;apply aC;apply aC)|exact Zf|refine Zc ?_ ?_|fail));refine ⟨rfl,rfl,?_,rfl,?_⟩
 ·exact ZF
 exact ZF
def R5:Con:=rL 69 34 fun args k0 K=>match args with
 | [.agg a0]=>pQ a0 fun k ix sx sy sr su sg dsg sl so os o1 o2 o3 o4 zk zw zd bw bd bl bc bx bg lki ls lw aw ad ap av an e1 e2 e3 e4 nu tx=>sJ k0 fun nm pl og sp pu op sz br kf t1 t2 t3 t4 lo al=>Need (length (α:=Opn) op<=4100) (K (I (kP op ix (os,o1,o2,o3,o4)).2) ([S nm,.seq qc pl,I og,I sp,.seq (.int .i64) pu,.seq Ui (kP op ix (os,o1,o2,o3,o4)).1,.seq qh sz,.seq qb br,I kf,I t1,I t2,I t3,I t4,.seq qi lo,.seq qe al]))
 | _=>False
theorem k5069:aM Tp R5:=by
 refine mL (enters_of func69 kr rfl) ?_;intro g k0 K h;split at h
 ·rename_i a0;refine kD h fun k E sx sy sr su sg c sl so os Z o2 o3 o4 zk zw zd D z B y bx A f J W x m s u o e1 e2 e3 e4 Y tx e h=>?_;subst e;refine mB h fun X pl og sp pu op sz C F t1 t2 t3 t4 lo n e h=>?_;subst e;exact ⟨_,_,h.go,rfl,rfl,gK (Γ:=[KF]) (by simp[k5070]) func69 (by simp[ntmps69]) (b5069 k E sx sy sr su sg c sl so os Z o2 o3 o4 zk zw zd D z B y bx A f J W x m s u o e1 e2 e3 e4 Y tx X pl og sp pu op sz C F t1 t2 t3 t4 lo n h.ok)⟩
 cases h
theorem b5072 (k s sx sy sr su:Int)(C:Prop)(o:Decidable C)(sl so os:Int)(o1 o2 o3 o4:Str)(zk zw zd n f m e bx:Int)(g:List Gp)(u X:Int)(Y:Str)(W ad J K F e1 e2 e3 e4 Z:Int)(tx nm:Str)(B:List (List Sid))(z sp:Int)(pu:List Int)(A:List Opn)(D:List Siz)(c:List Bar)(y E t2 t3 t4:Int)(lo:List Lod)(x:List Alw)(h:length (α:=Bar) c<=4100):vJ Tp [KS] {} f72 [.agg (I k::I s::I sx::I sy::I sr::I su:: .bl C o::I sl::I so::I os::S o1::S o2::S o3::S o4::I zk::I zw::I zd::I n::I f::I m::I e::I bx:: .seq qj g::I u::I X::S Y::I W::I ad::I J::I K::I F::I e1::I e2::I e3::I e4::I Z::S tx:: [])] [S nm,.seq qc B,I z,I sp,.seq (.int .i64) pu,.seq qg A,.seq qh D,.seq qb c,I y,I E,I t2,I t3,I t4,.seq qi lo,.seq qe x] 34 (I (kP c s (n,f,m,e,bx,g)).2) [S nm,.seq qc B,I z,I sp,.seq (.int .i64) pu,.seq qg A,.seq qh D,.seq tB (kP c s (n,f,m,e,bx,g)).1,I y,I E,I t2,I t3,I t4,.seq qi lo,.seq qe x]:=by
 refine Need.mk rfl ?_;(repeat'((conv=>whnf);first|refine Zn ?_|apply pI|apply pJ|(apply PinH.mk;apply aC;apply aC)|exact Zf|refine Zc ?_ ?_|fail));refine ⟨rfl,rfl,?_,rfl,?_⟩
 ·exact ZF
 exact ZF
def R6:Con:=rL 72 34 fun args k0 K=>match args with
 | [.agg a0]=>pQ a0 fun k ix sx sy sr su sg dsg sl so os o1 o2 o3 o4 zk zw zd bw bd bl bc bx bg lki ls lw aw ad ap av an e1 e2 e3 e4 nu tx=>sJ k0 fun nm pl og sp pu op sz br kf t1 t2 t3 t4 lo al=>Need (length (α:=Bar) br<=4100) (K (I (kP br ix (bw,bd,bl,bc,bx,bg)).2) ([S nm,.seq qc pl,I og,I sp,.seq (.int .i64) pu,.seq qg op,.seq qh sz,.seq tB (kP br ix (bw,bd,bl,bc,bx,bg)).1,I kf,I t1,I t2,I t3,I t4,.seq qi lo,.seq qe al]))
 | _=>False
theorem k5072:aM Tp R6:=by
 refine mL (enters_of func72 kr rfl) ?_;intro g k0 K h;split at h
 ·rename_i a0;refine kD h fun k E sx sy sr su sg c sl so os Z o2 o3 o4 zk zw zd D z B y bx A f J W x m s u o e1 e2 e3 e4 Y tx e h=>?_;subst e;refine mB h fun X pl og sp pu op sz C F t1 t2 t3 t4 lo n e h=>?_;subst e;exact ⟨_,_,h.go,rfl,rfl,gK (Γ:=[KS]) (by simp[k5073]) func72 (by simp[ntmps72]) (b5072 k E sx sy sr su sg c sl so os Z o2 o3 o4 zk zw zd D z B y bx A f J W x m s u o e1 e2 e3 e4 Y tx X pl og sp pu op sz C F t1 t2 t3 t4 lo n h.ok)⟩
 cases h
theorem b5076 (k f sx sy sr su:Int)(z:Prop)(e:Decidable z)(sl so os:Int)(o1 o2 o3 o4:Str)(zk zw zd Y K X J bx:Int)(W:List Gp)(c g:Int)(m:Str)(F ad D E C e1 e2 e3 e4 Z:Int)(tx nm:Str)(y:List (List Sid))(u sp:Int)(pu:List Int)(x:List Opn)(A:List Siz)(o:List Bar)(s B t2 t3 t4:Int)(lo:List Lod)(n:List Alw)(h:length (α:=Lod) lo<=4100):vJ Tp [KJ] {} f76 [.agg (I k::I f::I sx::I sy::I sr::I su:: .bl z e::I sl::I so::I os::S o1::S o2::S o3::S o4::I zk::I zw::I zd::I Y::I K::I X::I J::I bx:: .seq qj W::I c::I g::S m::I F::I ad::I D::I E::I C::I e1::I e2::I e3::I e4::I Z::S tx:: [])] [S nm,.seq qc y,I u,I sp,.seq (.int .i64) pu,.seq qg x,.seq qh A,.seq qb o,I s,I B,I t2,I t3,I t4,.seq qi lo,.seq qe n] 34 (I (kP lo f (c,g,m)).2) [S nm,.seq qc y,I u,I sp,.seq (.int .i64) pu,.seq qg x,.seq qh A,.seq qb o,I s,I B,I t2,I t3,I t4,.seq Uk (kP lo f (c,g,m)).1,.seq qe n]:=by
 refine Need.mk rfl ?_;(repeat'((conv=>whnf);first|refine Zn ?_|apply pI|apply pJ|(apply PinH.mk;apply aC;apply aC)|exact Zf|refine Zc ?_ ?_|fail));refine ⟨rfl,rfl,?_,rfl,?_⟩
 ·exact ZF
 exact ZF
def R7:Con:=rL 76 34 fun args k0 K=>match args with
 | [.agg a0]=>pQ a0 fun k ix sx sy sr su sg dsg sl so os o1 o2 o3 o4 zk zw zd bw bd bl bc bx bg lki ls lw aw ad ap av an e1 e2 e3 e4 nu tx=>sJ k0 fun nm pl og sp pu op sz br kf t1 t2 t3 t4 lo al=>Need (length (α:=Lod) lo<=4100) (K (I (kP lo ix (lki,ls,lw)).2) ([S nm,.seq qc pl,I og,I sp,.seq (.int .i64) pu,.seq qg op,.seq qh sz,.seq qb br,I kf,I t1,I t2,I t3,I t4,.seq Uk (kP lo ix (lki,ls,lw)).1,.seq qe al]))
 | _=>False
theorem k5076:aM Tp R7:=by
 refine mL (enters_of func76 kr rfl) ?_;intro g k0 K h;split at h
 ·rename_i a0;refine kD h fun k E sx sy sr su sg c sl so os Z o2 o3 o4 zk zw zd D z B y bx A f J W x m s u o e1 e2 e3 e4 Y tx e h=>?_;subst e;refine mB h fun X pl og sp pu op sz C F t1 t2 t3 t4 lo n e h=>?_;subst e;exact ⟨_,_,h.go,rfl,rfl,gK (Γ:=[KJ]) (by simp[k5077]) func76 (by simp[ntmps76]) (b5076 k E sx sy sr su sg c sl so os Z o2 o3 o4 zk zw zd D z B y bx A f J W x m s u o e1 e2 e3 e4 Y tx X pl og sp pu op sz C F t1 t2 t3 t4 lo n h.ok)⟩
 cases h
theorem b5071 (k ix sx sy sr su:Int)(C:Prop)(f:Decidable C)(sl so os:Int)(o1 o2 o3 o4:Str)(e o n bw X Z W bx:Int)(Y:List Gp)(m ls:Int)(lw:Str)(K ad F J E e1 e2 e3 e4 nu:Int)(tx nm:Str)(B:List (List Sid))(z sp:Int)(pu:List Int)(A:List Opn)(c:List Siz)(u:List Bar)(y D t2 t3 t4:Int)(lo:List Lod)(s:List Alw)(h:length (α:=Siz) c<=4100):vJ Tp [KU,KH] {} f71 [.agg (I k::I ix::I sx::I sy::I sr::I su:: .bl C f::I sl::I so::I os::S o1::S o2::S o3::S o4::I e::I o::I n::I bw::I X::I Z::I W::I bx:: .seq qj Y::I m::I ls::S lw::I K::I ad::I F::I J::I E::I e1::I e2::I e3::I e4::I nu::S tx:: [])] [S nm,.seq qc B,I z,I sp,.seq (.int .i64) pu,.seq qg A,.seq qh c,.seq qb u,I y,I D,I t2,I t3,I t4,.seq qi lo,.seq qe s] 34 (I (kP c (Cl c e) (e,o,n)).2) [S nm,.seq qc B,I z,I sp,.seq (.int .i64) pu,.seq qg A,.seq Uj (kP c (Cl c e) (e,o,n)).1,.seq qb u,I y,I D,I t2,I t3,I t4,.seq qi lo,.seq qe s]:=by
 refine Need.mk rfl ?_;rcases TJ c e with ⟨x,g⟩ | ⟨x,g⟩
 ·have h3:¬EC (fun i=>(getD (α:=Siz) c i pB).1=e) (length (α:=Siz) c)<0:=om;have h4:=g.symm;(repeat'((conv=>whnf);first|refine Zn ?_|apply pI|apply pJ|(apply PinH.mk;apply aC;apply aC)|exact Zf|refine Zc ?_ ?_|refine Zm ?_|fail));rw[g];refine ⟨rfl,rfl,?_,rfl,?_⟩
  ·exact ZF
  exact ZF
 have h3:EC (fun i=>(getD (α:=Siz) c i pB).1=e) (length (α:=Siz) c)<0:=om;rw[x];(repeat'((conv=>whnf);first|refine Zg fun _=>?_|refine Zn ?_|apply pI|apply pJ|(apply PinH.mk;apply aC;apply aC)|exact Zf|refine Zc ?_ ?_|refine Zy ?_|fail));refine ⟨rfl,rfl,?_,rfl,?_⟩
 ·exact ZF
 exact ZF
def R8:Con:=rL 71 34 fun args k0 K=>match args with
 | [.agg a0]=>pQ a0 fun k ix sx sy sr su sg dsg sl so os o1 o2 o3 o4 zk zw zd bw bd bl bc bx bg lki ls lw aw ad ap av an e1 e2 e3 e4 nu tx=>sJ k0 fun nm pl og sp pu op sz br kf t1 t2 t3 t4 lo al=>Need (length (α:=Siz) sz<=4100) (K (I (kP sz (Cl sz zk) (zk,zw,zd)).2) ([S nm,.seq qc pl,I og,I sp,.seq (.int .i64) pu,.seq qg op,.seq Uj (kP sz (Cl sz zk) (zk,zw,zd)).1,.seq qb br,I kf,I t1,I t2,I t3,I t4,.seq qi lo,.seq qe al]))
 | _=>False
theorem k5071:aM Tp R8:=by
 refine mL (enters_of func71 kr rfl) ?_;intro g k0 K h;split at h
 ·rename_i a0;refine kD h fun k E sx sy sr su sg c sl so os Z o2 o3 o4 zk zw zd D z B y bx A f J W x m s u o e1 e2 e3 e4 Y tx e h=>?_;subst e;refine mB h fun X pl og sp pu op sz C F t1 t2 t3 t4 lo n e h=>?_;subst e;exact ⟨_,_,h.go,rfl,rfl,gK (Γ:=[KU,KH]) (by simp[k5123,k5125]) func71 (by simp[ntmps71]) (b5071 k E sx sy sr su sg c sl so os Z o2 o3 o4 zk zw zd D z B y bx A f J W x m s u o e1 e2 e3 e4 Y tx X pl og sp pu op sz C F t1 t2 t3 t4 lo n h.ok)⟩
 cases h
theorem b5068 (k Z sx sy sr su:Int)(z:Prop)(e:Decidable z)(sl so os:Int)(o1 o2 o3 o4:Str)(zk zw zd Y K X J bx:Int)(W:List Gp)(g ls:Int)(lw:Str)(F ad D E C e1 e2 e3 e4 c:Int)(tx nm:Str)(y:List (List Sid))(u sp:Int)(pu:List Int)(x:List Opn)(A:List Siz)(n:List Bar)(s B t2 t3 t4:Int)(lo:List Lod)(m:List Alw)(h:length (α:=Int) pu<=4100):vJ Tp [EM,KM,KX] {} f68 [.agg (I k::I Z::I sx::I sy::I sr::I su:: .bl z e::I sl::I so::I os::S o1::S o2::S o3::S o4::I zk::I zw::I zd::I Y::I K::I X::I J::I bx:: .seq qj W::I g::I ls::S lw::I F::I ad::I D::I E::I C::I e1::I e2::I e3::I e4::I c::S tx:: [])] [S nm,.seq qc y,I u,I sp,.seq (.int .i64) pu,.seq qg x,.seq qh A,.seq qb n,I s,I B,I t2,I t3,I t4,.seq qi lo,.seq qe m] 34 (I (Fg pu c).2) [S nm,.seq qc y,I u,I sp,.seq (.int .i64) (Fg pu c).1,.seq qg x,.seq qh A,.seq qb n,I s,I B,I t2,I t3,I t4,.seq qi lo,.seq qe m]:=by
 refine Need.mk rfl ?_;have hb:Yz pu c<=length (α:=Int) pu:=(JR _ 0 _ (aF _)).2;by_cases o:(Yz pu c:Int)<(length (α:=Int) pu:Int)/\getD (α:=Int) pu (Yz pu c) 0=c
 ·have f:Fg pu c=(pu,7):=aE ⟨om,o.2⟩;rw[f];(repeat'((conv=>whnf);first|refine Zn ?_|apply pI|apply pJ|refine Zy ?_|fail));refine ⟨rfl,rfl,?_,rfl,?_⟩
  ·exact ZF
  exact ZF
 have f:Fg pu c=(OT pu (Yz pu c) c,0):=aD fun q=>o ⟨om,q.2⟩;rw[f];(repeat'((conv=>whnf);first|refine Zn ?_|apply pI|apply pJ|exact Zf|refine Zc ?_ ?_|refine Zl ?_|refine Zm ?_|fail));refine ⟨rfl,rfl,?_,rfl,?_⟩
 ·exact ZF
 exact ZF
def R9:Con:=rL 68 34 fun args k0 K=>match args with
 | [.agg a0]=>pQ a0 fun k ix sx sy sr su sg dsg sl so os o1 o2 o3 o4 zk zw zd bw bd bl bc bx bg lki ls lw aw ad ap av an e1 e2 e3 e4 nu tx=>sJ k0 fun nm pl og sp pu op sz br kf t1 t2 t3 t4 lo al=>Need (length (α:=Int) pu<=4100) (K (I (Fg pu nu).2) ([S nm,.seq qc pl,I og,I sp,.seq (.int .i64) (Fg pu nu).1,.seq qg op,.seq qh sz,.seq qb br,I kf,I t1,I t2,I t3,I t4,.seq qi lo,.seq qe al]))
 | _=>False
theorem k5068:aM Tp R9:=by
 refine mL (enters_of func68 kr rfl) ?_;intro g k0 K h;split at h
 ·rename_i a0;refine kD h fun k E sx sy sr su sg c sl so os Z o2 o3 o4 zk zw zd D z B y bx A f J W x m s u o e1 e2 e3 e4 Y tx e h=>?_;subst e;refine mB h fun X pl og sp pu op sz C F t1 t2 t3 t4 lo n e h=>?_;subst e;exact ⟨_,_,h.go,rfl,rfl,gK (Γ:=[EM,KM,KX]) (by simp[k5119,RK,k5120]) func68 (by simp[ntmps68]) (b5068 k E sx sy sr su sg c sl so os Z o2 o3 o4 zk zw zd D z B y bx A f J W x m s u o e1 e2 e3 e4 Y tx X pl og sp pu op sz C F t1 t2 t3 t4 lo n h.ok)⟩
 cases h
theorem b5078 (k Y sx sy sr su:Int)(C:Prop)(n:Decidable C)(sl so os:Int)(o1 o2 o3 o4:Str)(zk zw zd X J W F bx:Int)(K:List Gp)(s Z:Int)(lw:Str)(m ad f g e e1 e2 e3 e4 nu:Int)(tx nm:Str)(B:List (List Sid))(z sp:Int)(pu:List Int)(A:List Opn)(D:List Siz)(u:List Bar)(y E t2 t3 t4:Int)(lo:List Lod)(c:List Alw)(h:length (α:=Alw) c<=4100):vJ Tp [KK,KV,KY] {} f78 [.agg (I k::I Y::I sx::I sy::I sr::I su:: .bl C n::I sl::I so::I os::S o1::S o2::S o3::S o4::I zk::I zw::I zd::I X::I J::I W::I F::I bx:: .seq qj K::I s::I Z::S lw::I m::I ad::I f::I g::I e::I e1::I e2::I e3::I e4::I nu::S tx:: [])] [S nm,.seq qc B,I z,I sp,.seq (.int .i64) pu,.seq qg A,.seq qh D,.seq qb u,I y,I E,I t2,I t3,I t4,.seq qi lo,.seq qe c] 34 (I 0) [S nm,.seq qc B,I z,I sp,.seq (.int .i64) pu,.seq qg A,.seq qh D,.seq qb u,I y,I E,I t2,I t3,I t4,.seq qi lo,.seq Ul (GP c (m,ad,f,g,e))]:=by
 refine Need.mk rfl ?_;have hb:EA c (m,ad,f,g,e)<=length (α:=Alw) c:=(JR _ 0 _ (aF _)).2;by_cases x:(EA c (m,ad,f,g,e):Int)<(length (α:=Alw) c:Int)/\RW c (EA c (m,ad,f,g,e)) m ad f g e=0
 ·have o:GP c (m,ad,f,g,e)=List.set (α:=Alw) c (EA c (m,ad,f,g,e)) (m,ad,f,g,e):=aE ⟨om,x.2⟩;rw[o];(repeat refine ZR ?_);refine ⟨rfl,rfl,?_,rfl,?_⟩
  ·exact ZF
  exact ZF
 have o:GP c (m,ad,f,g,e)=OT c (EA c (m,ad,f,g,e)) (m,ad,f,g,e):=aD fun q=>x ⟨om,q.2⟩;rw[o];(repeat refine ZR ?_);refine ⟨rfl,rfl,?_,rfl,?_⟩
 ·exact ZF
 exact ZF
def SA:Con:=rL 78 34 fun args k0 K=>match args with
 | [.agg a0]=>pQ a0 fun k ix sx sy sr su sg dsg sl so os o1 o2 o3 o4 zk zw zd bw bd bl bc bx bg lki ls lw aw ad ap av an e1 e2 e3 e4 nu tx=>sJ k0 fun nm pl og sp pu op sz br kf t1 t2 t3 t4 lo al=>Need (length (α:=Alw) al<=4100) (K (I 0) ([S nm,.seq qc pl,I og,I sp,.seq (.int .i64) pu,.seq qg op,.seq qh sz,.seq qb br,I kf,I t1,I t2,I t3,I t4,.seq qi lo,.seq Ul (GP al (aw,ad,ap,av,an))]))
 | _=>False
theorem k5078:aM Tp SA:=by
 refine mL (enters_of func78 kr rfl) ?_;intro g k0 K h;split at h
 ·rename_i a0;refine kD h fun k E sx sy sr su sg c sl so os Z o2 o3 o4 zk zw zd D z B y bx A f J W x m s u o e1 e2 e3 e4 Y tx e h=>?_;subst e;refine mB h fun X pl og sp pu op sz C F t1 t2 t3 t4 lo n e h=>?_;subst e;exact ⟨_,_,h.go,rfl,rfl,gK (Γ:=[KK,KV,KY]) (by simp[RH,k5129,k5131]) func78 (by simp[ntmps78]) (b5078 k E sx sy sr su sg c sl so os Z o2 o3 o4 zk zw zd D z B y bx A f J W x m s u o e1 e2 e3 e4 Y tx X pl og sp pu op sz C F t1 t2 t3 t4 lo n h.ok)⟩
 cases h
theorem Re (R:List (List Sid))(n:Nat)(s:Sid)(m:Nat):Ck R n s (m+1)=Ck R n s m++ [OU R n s m]:=by simp[Ck,List.range_succ]
theorem K6 {R:List (List Sid)}{n:Nat}{s:Sid}{m:Nat}(h:(n:Int)<(fU R m:Int)):Ck R n s (m+1)=Ck R n s m++ [R.getD m []]:=by rw[Re,OU,aD om]
theorem EN {R:List (List Sid)}{n:Nat}{s:Sid}{m:Nat}(h:¬(n:Int)<(fU R m:Int)):Ck R n s (m+1)=Ck R n s m++ [(R.getD m []).set (n-fU R m) s]:=by rw[Re,OU,aE om]
theorem GZ {R:List (List Sid)}{n:Nat}{s:Sid}{m:Nat}(h:¬(n:Int)<(fU R m:Int))(c:¬(n:Int)-(fU R m:Int)<((R.getD m []).length:Int)):Ck R n s (m+1)=Ck R n s m++ [R.getD m []]:=by rw[EN h,List.set_eq_of_length_le om]
theorem K7 (R:List (List Sid)){m:Nat}(h:m<R.length):fU R m+(R.getD m []).length<=fU R R.length:=by
 have:=Ap R (show m+1<=R.length by omega);exact this
theorem b5118 (l:List Sid)(h:length (α:=Sid) l<=4200):wG Tp [] {} f118 [.seq Hd l] (.ref 0 1) Hd l 48:=by
 intro q f;(apply Br.mk<;>intro)
 ·rename_i c;have e:=f c;subst e;exact ZF
 exact ZGF
def K8:Con:=sU 118 fun args K=>match args with | [.seq (.pair (.int .i64) (.pair (.int .i64) (.pair (.int .i64) (.pair (.int .i64) (.pair .bool (.pair (.int .i64) (.int .i64))))))) l]=>Need (length (α:=Sid) l<=4200) (K (.ref 0 1) (.vec 1 (qd) (l) 48)) | _=>False
theorem k5118:aM Tp K8:=by
 refine nJ (enters_of func118 kr rfl) ?_;intro e K h;split at h
 ·rename_i l;exact ⟨_,_,_,_,_,h.go,fun c=>gJ si func118 (by simp[ntmps118]) c (b5118 l h.ok)⟩
 cases h
theorem b5066 (k D A B y z:Int)(o:Prop)(f:Decidable o)(u x os:Int)(o1 o2 o3 o4:Str)(zk zw zd bw bd bl bc bx:Int)(bg:List Gp)(W ls:Int)(lw:Str)(aw ad ap av an e1 e2 e3 e4 nu:Int)(tx nm:Str)(c:List (List Sid))(og sp:Int)(pu:List Int)(op:List Opn)(sz:List Siz)(Z:List Bar)(kf t1 t2 t3 t4:Int)(lo:List Lod)(Y:List Alw)(h:(fU c (length (α:=List Sid) c)<=24/\length (α:=List Sid) c<=40)/\D<=9223372036854775807):vJ Tp [K8] { asks:=[(0,[3])] } f66 [.agg (I k::I D::I A::I B::I y::I z:: .bl o f::I u::I x::I os::S o1::S o2::S o3::S o4::I zk::I zw::I zd::I bw::I bd::I bl::I bc::I bx:: .seq qj bg::I W::I ls::S lw::I aw::I ad::I ap::I av::I an::I e1::I e2::I e3::I e4::I nu::S tx:: [])] [S nm,.seq qc c,I og,I sp,.seq (.int .i64) pu,.seq qg op,.seq qh sz,.seq qb Z,I kf,I t1,I t2,I t3,I t4,.seq qi lo,.seq qe Y] 34 (I (Ff c D (A,B,y,z,@decide o f,u,x)).2) [S nm,.seq (.slice Hd) (Ff c D (A,B,y,z,@decide o f,u,x)).1,I og,I sp,.seq (.int .i64) pu,.seq qg op,.seq qh sz,.seq qb Z,I kf,I t1,I t2,I t3,I t4,.seq qi lo,.seq qe Y]:=by
 refine Need.mk rfl ?_;obtain ⟨h,a0⟩:=h;by_cases K:D<0
 ·have F:Ff c D (A,B,y,z,@decide o f,u,x)=(c,6):=aE (.inl K);rw[F];clear F;(repeat refine ZR ?_);refine ⟨rfl,rfl,?_,rfl,?_⟩
  ·exact ZF
  exact ZF
 obtain ⟨n,rfl⟩:∃n:Nat,D=n:=⟨D.toNat,om⟩;clear K;obtain ⟨hc,hl⟩:=h;have F:Ff c (n:Int) (A,B,y,z,@decide o f,u,x)=if (n:Int)<0\/(fU c (length (α:=List Sid) c):Int)<=(n:Int) then (c,6) else (Ck c n (A,B,y,z,@decide o f,u,x) (length (α:=List Sid) c),0):=rfl;generalize hg:Ff c (n:Int) (A,B,y,z,@decide o f,u,x)=g at*;(repeat refine ZX ?_);refine Own.l ?_;refine Own.r ?_;refine ⟨0,.slice Hd,81,?_⟩;(repeat'((conv=>whnf);first|refine Zg fun _=>?_|fail));refine Ask.mk ⟨{ X:=Nat,pre:=fun m=>m<=length (α:=List Sid) c,mod:=fun m _=>[(22,I m),(5,I ((n:Int)-(fU c m:Int))),(7,.bl ((n:Int)<(fU c m:Int)) inferInstance)],heap:=fun m H=>[.cells [S nm,.seq qc c,I og,I sp,.seq (.int .i64) pu,.seq qg op,.seq qh sz,.seq qb Z,I kf,I t1,I t2,I t3,I t4,.seq qi lo,.seq qe Y] 34,.cells (I k::I n::I A::I B::I y::I z:: .bl o f::I u::I x::I os::S o1::S o2::S o3::S o4::I zk::I zw::I zd::I bw::I bd::I bl::I bc::I bx:: .seq qj bg::I W::I ls::S lw::I aw::I ad::I ap::I av::I an::I e1::I e2::I e3::I e4::I nu::S tx:: []) 62,.cells [.ref 3 1] 24,.vec 1 (.slice Hd) (Ck c n (A,B,y,z,@decide o f,u,x) m) 81],objs:=[3],mu:=fun m=>length (α:=List Sid) c-m },rfl,?_⟩;(repeat refine ZG ?_)
 refine ⟨⟨(0:Nat),aF _,by
  (repeat' first|exact trivial|rfl|exact Nat.one_pos|apply aA);all_goals first
   | (show ¬(n:Int)<((0:Nat):Int);omega)
   | (show (n:Int)=(n:Int)-((0:Nat):Int);omega)⟩,fun (m:Nat) hm=>?_⟩
 have hm:m<=length (α:=List Sid) c:=hm;by_cases C:m<length (α:=List Sid) c
 ·have E:=K7 c C;have a2:fU c (m+1)=fU c m+length (α:=Sid) (getD (α:=List Sid) c m []):=rfl;have a1:length (α:=Sid) (getD (α:=List Sid) c m [])<=4200:=by
   have:fU c m+length (α:=Sid) (getD (α:=List Sid) c m [])<=fU c (length (α:=List Sid) c):=E;omega
  have E:fU c m+length (α:=Sid) (getD (α:=List Sid) c m [])<=24:=bA E hc;have a3:length (α:=List Sid) (Ck c n (A,B,y,z,@decide o f,u,x) m)=m:=by simp[Ck]
  by_cases J:(n:Int)<(fU c m:Int)
  ·have e:=K6 (s:=(A,B,y,z,@decide o f,u,x)) J;(repeat' first|refine ZR ?_|refine Zg fun _=>?_);refine ⟨(m+1:Nat),by show length (α:=List Sid) c-(m+1)<length (α:=List Sid) c-m;omega,C,?_⟩;(repeat' first|exact trivial|rfl|exact Nat.one_pos|apply aA|omega);all_goals first
    | exact e.symm
    | exact J
    | ((conv=>whnf);exact e.symm)
    | omega
    | (show _↔ _;constructor<;>intro _<;>omega)
  by_cases hi:(n:Int)-(fU c m:Int)<(length (α:=Sid) (getD (α:=List Sid) c m []):Int)
  ·have e:=EN (s:=(A,B,y,z,@decide o f,u,x)) J;(repeat' first|refine ZR ?_|refine Zg fun _=>?_);refine Kk (n-fU c m) om ?_;(repeat' first|refine ZR ?_|refine Zg fun _=>?_);refine ⟨(m+1:Nat),by show length (α:=List Sid) c-(m+1)<length (α:=List Sid) c-m;omega,C,?_⟩;(repeat' first|exact trivial|rfl|exact Nat.one_pos|apply aA|omega);all_goals first
    | exact e.symm
    | omega
    | ((conv=>whnf);exact e.symm)
    | (show _↔ _;constructor<;>intro _<;>omega)
    | (show (n:Int)<((fU c (m+1):Nat):Int);omega)
  have e:=GZ (s:=(A,B,y,z,@decide o f,u,x)) J hi;(repeat' first|refine ZR ?_|refine Zg fun _=>?_);refine ⟨(m+1:Nat),by show length (α:=List Sid) c-(m+1)<length (α:=List Sid) c-m;omega,C,?_⟩;(repeat' first|exact trivial|rfl|exact Nat.one_pos|apply aA|omega);all_goals first
   | exact e.symm
   | omega
   | ((conv=>whnf);exact e.symm)
   | (show _↔ _;constructor<;>intro _<;>omega)
 have e:m=length (α:=List Sid) c:=om;subst e;by_cases J:(n:Int)<(fU c (length (α:=List Sid) c):Int)
 ·rw[aD om] at F;rw[F];(repeat refine ZR ?_);refine ⟨rfl,rfl,?_,rfl,?_⟩
  ·exact ZF
  exact ZF
 rw[aE om] at F;rw[F];(repeat refine ZR ?_);refine ⟨rfl,rfl,?_,rfl,?_⟩
 ·exact ZF
 exact ZF
def SB:Con:=rL 66 34 fun args k0 K=>match args with
 | [.agg a0]=>pQ a0 fun k ix sx sy sr su sg dsg sl so os o1 o2 o3 o4 zk zw zd bw bd bl bc bx bg lki ls lw aw ad ap av an e1 e2 e3 e4 nu tx=>sJ k0 fun nm pl og sp pu op sz br kf t1 t2 t3 t4 lo al=>Need ((fU pl (length (α:=List Sid) pl)<=24/\length (α:=List Sid) pl<=40)/\ix<=9223372036854775807) (K (I (Ff pl ix (sx,sy,sr,su,@decide sg dsg,sl,so)).2) ([S nm,.seq (.slice Hd) (Ff pl ix (sx,sy,sr,su,@decide sg dsg,sl,so)).1,I og,I sp,.seq (.int .i64) pu,.seq qg op,.seq qh sz,.seq qb br,I kf,I t1,I t2,I t3,I t4,.seq qi lo,.seq qe al]))
 | _=>False
theorem k5066:aM Tp SB:=by
 refine mL (enters_of func66 kr rfl) ?_;intro g k0 K h;split at h
 ·rename_i a0;refine kD h fun k E sx sy sr su sg c sl so os Z o2 o3 o4 zk zw zd D z B y bx A f J W x m s u o e1 e2 e3 e4 Y tx e h=>?_;subst e;refine mB h fun X pl og sp pu op sz C F t1 t2 t3 t4 lo n e h=>?_;subst e;exact ⟨_,_,h.go,rfl,rfl,gK (Γ:=[K8]) (by simp[k5118]) func66 (by simp[ntmps66]) (b5066 k E sx sy sr su sg c sl so os Z o2 o3 o4 zk zw zd D z B y bx A f J W x m s u o e1 e2 e3 e4 Y tx X pl og sp pu op sz C F t1 t2 t3 t4 lo n h.ok)⟩
 cases h
theorem b5079 (k c sx sy sr su:Int)(K:Prop)(D:Decidable K)(sl so os:Int)(o1 o2 o3 o4:Str)(zk zw zd bw bd bl bc bx:Int)(bg:List Gp)(F ls:Int)(lw:Str)(Z ad X Y W e1 e2 e3 e4 x:Int)(tx nm:Str)(s:List (List Sid))(o sp:Int)(pu:List Int)(g:List Opn)(m:List Siz)(f:List Bar)(n u t2 t3 t4:Int)(lo:List Lod)(e:List Alw)(h:length (α:=Int) pu<=4100/\length (α:=Opn) g<=4100/\length (α:=Siz) m<=4100/\length (α:=Bar) f<=4100/\length (α:=Lod) lo<=4100/\length (α:=Alw) e<=4100):vJ Tp [KN,KE,KG,KR,KI,KL] {} f79 [.agg (I k::I c::I sx::I sy::I sr::I su:: .bl K D::I sl::I so::I os::S o1::S o2::S o3::S o4::I zk::I zw::I zd::I bw::I bd::I bl::I bc::I bx:: .seq qj bg::I F::I ls::S lw::I Z::I ad::I X::I Y::I W::I e1::I e2::I e3::I e4::I x::S tx:: [])] [S nm,.seq qc s,I o,I sp,.seq (.int .i64) pu,.seq qg g,.seq qh m,.seq qb f,I n,I u,I t2,I t3,I t4,.seq qi lo,.seq qe e] 34 (I (mX ⟨nm,s,o,sp,pu,g,m,f,n,u,t2,t3,t4,lo,e⟩ x c).2) [S nm,.seq qc s,I o,I sp,.seq (.int .i64) (mX ⟨nm,s,o,sp,pu,g,m,f,n,u,t2,t3,t4,lo,e⟩ x c).1.pu,.seq Ui (mX ⟨nm,s,o,sp,pu,g,m,f,n,u,t2,t3,t4,lo,e⟩ x c).1.op,.seq Uj (mX ⟨nm,s,o,sp,pu,g,m,f,n,u,t2,t3,t4,lo,e⟩ x c).1.sz,.seq tB (mX ⟨nm,s,o,sp,pu,g,m,f,n,u,t2,t3,t4,lo,e⟩ x c).1.br,I n,I u,I t2,I t3,I t4,.seq Uk (mX ⟨nm,s,o,sp,pu,g,m,f,n,u,t2,t3,t4,lo,e⟩ x c).1.lo,.seq Ul (mX ⟨nm,s,o,sp,pu,g,m,f,n,u,t2,t3,t4,lo,e⟩ x c).1.al]:=by
 refine Need.mk rfl ?_;obtain ⟨l1,l2,l3,l4,l5,l6⟩:=h;by_cases z:x=4
 ·have y:mX ⟨nm,s,o,sp,pu,g,m,f,n,u,t2,t3,t4,lo,e⟩ x c=({ (⟨nm,s,o,sp,pu,g,m,f,n,u,t2,t3,t4,lo,e⟩:JobV) with pu:=(lB pu c).1 },(lB pu c).2):=aE z;rw[y];(repeat'((conv=>whnf);first|refine Zn ?_|apply pI|apply pJ|(apply PinH.mk;apply aC;apply aC)|exact Zf|refine Zc ?_ ?_|refine Zy ?_|fail));refine ⟨rfl,rfl,?_,rfl,?_⟩
  ·exact ZF
  exact ZF
 by_cases A:x=5
 ·have y:mX ⟨nm,s,o,sp,pu,g,m,f,n,u,t2,t3,t4,lo,e⟩ x c=({ (⟨nm,s,o,sp,pu,g,m,f,n,u,t2,t3,t4,lo,e⟩:JobV) with op:=(lB g c).1 },(lB g c).2):=(aD z).trans (aE A);rw[y];(repeat'((conv=>whnf);first|refine Zn ?_|apply pI|apply pJ|(apply PinH.mk;apply aC;apply aC)|exact Zf|refine Zc ?_ ?_|refine Zy ?_|refine Zm ?_|fail));refine ⟨rfl,rfl,?_,rfl,?_⟩
  ·exact ZF
  exact ZF
 by_cases B:x=6
 ·have y:mX ⟨nm,s,o,sp,pu,g,m,f,n,u,t2,t3,t4,lo,e⟩ x c=({ (⟨nm,s,o,sp,pu,g,m,f,n,u,t2,t3,t4,lo,e⟩:JobV) with sz:=(lB m c).1 },(lB m c).2):=(aD z).trans ((aD A).trans (aE B));rw[y];(repeat'((conv=>whnf);first|refine Zn ?_|apply pI|apply pJ|(apply PinH.mk;apply aC;apply aC)|exact Zf|refine Zc ?_ ?_|refine Zy ?_|refine Zm ?_|fail));refine ⟨rfl,rfl,?_,rfl,?_⟩
  ·exact ZF
  exact ZF
 by_cases C:x=7
 ·have y:mX ⟨nm,s,o,sp,pu,g,m,f,n,u,t2,t3,t4,lo,e⟩ x c=({ (⟨nm,s,o,sp,pu,g,m,f,n,u,t2,t3,t4,lo,e⟩:JobV) with br:=(lB f c).1 },(lB f c).2):=(aD z).trans ((aD A).trans ((aD B).trans (aE C)));rw[y];(repeat'((conv=>whnf);first|refine Zn ?_|apply pI|apply pJ|(apply PinH.mk;apply aC;apply aC)|exact Zf|refine Zc ?_ ?_|refine Zy ?_|refine Zm ?_|fail));refine ⟨rfl,rfl,?_,rfl,?_⟩
  ·exact ZF
  exact ZF
 by_cases E:x=10
 ·have y:mX ⟨nm,s,o,sp,pu,g,m,f,n,u,t2,t3,t4,lo,e⟩ x c=({ (⟨nm,s,o,sp,pu,g,m,f,n,u,t2,t3,t4,lo,e⟩:JobV) with lo:=(lB lo c).1 },(lB lo c).2):=(aD z).trans ((aD A).trans ((aD B).trans ((aD C).trans (aE E))));rw[y];(repeat'((conv=>whnf);first|refine Zn ?_|apply pI|apply pJ|(apply PinH.mk;apply aC;apply aC)|exact Zf|refine Zc ?_ ?_|refine Zy ?_|refine Zm ?_|fail));refine ⟨rfl,rfl,?_,rfl,?_⟩
  ·exact ZF
  exact ZF
 by_cases J:x=11
 ·have y:mX ⟨nm,s,o,sp,pu,g,m,f,n,u,t2,t3,t4,lo,e⟩ x c=({ (⟨nm,s,o,sp,pu,g,m,f,n,u,t2,t3,t4,lo,e⟩:JobV) with al:=(lB e c).1 },(lB e c).2):=(aD z).trans ((aD A).trans ((aD B).trans ((aD C).trans ((aD E).trans (aE J)))));rw[y];(repeat'((conv=>whnf);first|refine Zn ?_|apply pI|apply pJ|(apply PinH.mk;apply aC;apply aC)|exact Zf|refine Zc ?_ ?_|refine Zy ?_|refine Zm ?_|fail));refine ⟨rfl,rfl,?_,rfl,?_⟩
  ·exact ZF
  exact ZF
 have y:mX ⟨nm,s,o,sp,pu,g,m,f,n,u,t2,t3,t4,lo,e⟩ x c=(⟨nm,s,o,sp,pu,g,m,f,n,u,t2,t3,t4,lo,e⟩,8):=(aD z).trans ((aD A).trans ((aD B).trans ((aD C).trans ((aD E).trans (aD J)))));rw[y];(repeat refine ZR ?_);refine ⟨rfl,rfl,?_,rfl,?_⟩
 ·exact ZF
 exact ZF
def SC:Con:=rL 79 34 fun args k0 K=>match args with
 | [.agg a0]=>pQ a0 fun k ix sx sy sr su sg dsg sl so os o1 o2 o3 o4 zk zw zd bw bd bl bc bx bg lki ls lw aw ad ap av an e1 e2 e3 e4 nu tx=>sJ k0 fun nm pl og sp pu op sz br kf t1 t2 t3 t4 lo al=>Need (length (α:=Int) pu<=4100/\length (α:=Opn) op<=4100/\length (α:=Siz) sz<=4100/\length (α:=Bar) br<=4100/\length (α:=Lod) lo<=4100/\length (α:=Alw) al<=4100) (K (I (mX ⟨nm,pl,og,sp,pu,op,sz,br,kf,t1,t2,t3,t4,lo,al⟩ nu ix).2) ([S nm,.seq qc pl,I og,I sp,.seq (.int .i64) (mX ⟨nm,pl,og,sp,pu,op,sz,br,kf,t1,t2,t3,t4,lo,al⟩ nu ix).1.pu,.seq Ui (mX ⟨nm,pl,og,sp,pu,op,sz,br,kf,t1,t2,t3,t4,lo,al⟩ nu ix).1.op,.seq Uj (mX ⟨nm,pl,og,sp,pu,op,sz,br,kf,t1,t2,t3,t4,lo,al⟩ nu ix).1.sz,.seq tB (mX ⟨nm,pl,og,sp,pu,op,sz,br,kf,t1,t2,t3,t4,lo,al⟩ nu ix).1.br,I kf,I t1,I t2,I t3,I t4,.seq Uk (mX ⟨nm,pl,og,sp,pu,op,sz,br,kf,t1,t2,t3,t4,lo,al⟩ nu ix).1.lo,.seq Ul (mX ⟨nm,pl,og,sp,pu,op,sz,br,kf,t1,t2,t3,t4,lo,al⟩ nu ix).1.al]))
 | _=>False
theorem k5079:aM Tp SC:=by
 refine mL (enters_of func79 kr rfl) ?_;intro g k0 K h;split at h
 ·rename_i a0;refine kD h fun k E sx sy sr su sg c sl so os Z o2 o3 o4 zk zw zd D z B y bx A f J W x m s u o e1 e2 e3 e4 Y tx e h=>?_;subst e;refine mB h fun X pl og sp pu op sz C F t1 t2 t3 t4 lo n e h=>?_;subst e;exact ⟨_,_,h.go,rfl,rfl,gK (Γ:=[KN,KE,KG,KR,KI,KL]) (by simp[k5132,k5133,k5134,k5135,k5136,k5137]) func79 (by simp[ntmps79]) (b5079 k E sx sy sr su sg c sl so os Z o2 o3 o4 zk zw zd D z B y bx A f J W x m s u o e1 e2 e3 e4 Y tx X pl og sp pu op sz C F t1 t2 t3 t4 lo n h.ok)⟩
 cases h
def H4 (l m:List Gp):Prop:=l=m
theorem TM {l m:List Gp}{i:Nat}(c:¬(((l.getD i (0,0)).1=(m.getD i (0,0)).1)/\(l.getD i (0,0)).2=(m.getD i (0,0)).2)):¬H4 l m:=fun e=>c (by
 have e:l=m:=e;subst e
 exact ⟨rfl,rfl⟩)
theorem O3 {l m:List Gp}(f:l.length=m.length)(h:∀i,i<l.length->((l.getD i (0,0)).1=(m.getD i (0,0)).1)/\(l.getD i (0,0)).2=(m.getD i (0,0)).2):H4 l m:=by
 refine xH f fun i c e=>?_;have:=h i c;rw[VB _ _ c,VB _ _ e] at this;exact Prod.ext this.1 this.2
def RX:Con:=aV 27 true fun | [.seq (.pair (.int .i64) (.int .i64)) l,.seq (.pair (.int .i64) (.int .i64)) m],K=>K (.bl (H4 l m) Cp) | _,_=>False
theorem RY:aM Tp RX:=by
 refine kQ { asks:=[(0,[])] } func27 ntmps27 kn fun _ _ h=>?_;split at h;case h_2=>cases h
 rename_i l m;change List Gp at l;change List Gp at m;refine kb h ?_;by_cases s:length (α:=Gp) l=length (α:=Gp) m;case neg=>
  have c:¬H4 l m:=fun e=>s (by have e:l=m:=e;rw[e]);generalize H4 l m=M at*;(repeat' first|refine ZR ?_|refine Zg fun _=>?_);(conv=>whnf);exact c
 (repeat' first|refine ZR ?_|refine Zg fun _=>?_);refine Ask.mk ⟨{ X:=Nat,pre:=fun i=>i<=length (α:=Gp) l/\∀j,j<i->(((getD (α:=Gp) l j (0,0)).1=(getD (α:=Gp) m j (0,0)).1)/\(getD (α:=Gp) l j (0,0)).2=(getD (α:=Gp) m j (0,0)).2),mod:=fun i _=>[(13,I i)],heap:=fun i H=>H,mu:=fun i=>length (α:=Gp) l-i },rfl,?_⟩;(repeat refine ZG ?_);refine ⟨⟨(0:Nat),⟨aF _,fun j o=>absurd o (aT j)⟩,ZE⟩,fun (i:Nat) hi=>?_⟩;obtain ⟨hi,u⟩:i<=length (α:=Gp) l/\∀j,j<i->(((getD (α:=Gp) l j (0,0)).1=(getD (α:=Gp) m j (0,0)).1)/\(getD (α:=Gp) l j (0,0)).2=(getD (α:=Gp) m j (0,0)).2):=hi;by_cases g:i<length (α:=Gp) l
 ·by_cases x:((getD (α:=Gp) l i (0,0)).1=(getD (α:=Gp) m i (0,0)).1)/\(getD (α:=Gp) l i (0,0)).2=(getD (α:=Gp) m i (0,0)).2
  ·have n:=eD (f:=fun j=>((getD (α:=Gp) l j (0,0)).1=(getD (α:=Gp) m j (0,0)).1)/\(getD (α:=Gp) l j (0,0)).2=(getD (α:=Gp) m j (0,0)).2) u x;(repeat'((conv=>whnf);first|refine Zg fun _=>?_|refine Zn ?_|refine Zj ?_|apply pI|apply pJ|refine Zy ?_|refine Zm ?_|fail))
   try
    refine Need.mk ⟨de,de,kr⟩ ?_
   refine ⟨(i+1:Nat),by show length (α:=Gp) l-(i+1)<length (α:=Gp) l-i;omega,⟨g,n⟩,ZE⟩
  have c:=TM x;generalize H4 l m=M at*;(repeat'((conv=>whnf);first|refine Zg fun _=>?_|refine Zn ?_|refine Zj ?_|apply pI|apply pJ|refine Zy ?_|fail))
  try
   refine Need.mk ⟨de,de,kr⟩ ?_
  (conv=>whnf);exact c
 have e:i=length (α:=Gp) l:=om;have c:H4 l m:=O3 s fun j o=>u j om;generalize H4 l m=M at*;subst e;(repeat refine ZR ?_);(conv=>whnf);exact c
def c5018:Con:=aV 18 true fun | [.seq (.int .i64) l,.seq (.int .i64) m],K=>Need (l=m) (K (.val (.bool true))) | _,_=>False
theorem RZ:aM Tp c5018:=by
 refine kQ { asks:=[(0,[])] } func18 ntmps18 kn fun _ _ h=>?_;split at h;case h_2=>cases h
 rename_i l m;refine kb h.go ?_;replace h:=h.ok;subst h;(repeat' first|refine ZR ?_|refine Zg fun _=>?_);refine Ask.mk ⟨{ X:=Nat,pre:=fun i=>i<=length (α:=Int) l/\∀j,j<i->(True),mod:=fun i _=>[(13,I i)],heap:=fun i H=>H,mu:=fun i=>length (α:=Int) l-i },rfl,?_⟩;(repeat refine ZG ?_);refine ⟨⟨(0:Nat),⟨aF _,fun j g=>absurd g (aT j)⟩,ZE⟩,fun (i:Nat) hi=>?_⟩;obtain ⟨hi,n⟩:i<=length (α:=Int) l/\∀j,j<i->(True):=hi;have f:∀j,j<i+1->True:=fun _ _=>trivial;by_cases c:i<length (α:=Int) l
 ·(repeat'((conv=>whnf);first|refine Zg fun _=>?_|refine Zn ?_|refine Zj ?_|apply pI|apply pJ|refine Zy ?_|refine Zm ?_|fail));refine ⟨(i+1:Nat),by show length (α:=Int) l-(i+1)<length (α:=Int) l-i;omega,⟨c,f⟩,ZE⟩
 have e:i=length (α:=Int) l:=om;subst e;(repeat refine ZR ?_);(conv=>whnf)
def c5025:Con:=aV 25 true fun | [.seq (.pair (.int .i64) (.pair (.int .i64) (.pair (.int .i64) (.pair (.int .i64) (.pair .bool (.pair (.int .i64) (.int .i64))))))) l,.seq (.pair (.int .i64) (.pair (.int .i64) (.pair (.int .i64) (.pair (.int .i64) (.pair .bool (.pair (.int .i64) (.int .i64))))))) m],K=>Need (l=m) (K (.val (.bool true))) | _,_=>False
theorem k5025:aM Tp c5025:=by
 refine kQ { asks:=[(0,[])] } func25 ntmps25 kn fun _ _ h=>?_;split at h;case h_2=>cases h
 rename_i l m;change List Sid at l;change List Sid at m;refine kb h.go ?_;replace h:=h.ok;subst h;(repeat' first|refine ZR ?_|refine Zg fun _=>?_);refine Ask.mk ⟨{ X:=Nat,pre:=fun i=>i<=length (α:=Sid) l/\∀j,j<i->(True),mod:=fun i _=>[(13,I i)],heap:=fun i H=>H,mu:=fun i=>length (α:=Sid) l-i },rfl,?_⟩;(repeat refine ZG ?_);refine ⟨⟨(0:Nat),⟨aF _,fun j g=>absurd g (aT j)⟩,ZE⟩,fun (i:Nat) hi=>?_⟩;obtain ⟨hi,n⟩:i<=length (α:=Sid) l/\∀j,j<i->(True):=hi;have f:∀j,j<i+1->True:=fun _ _=>trivial;by_cases c:i<length (α:=Sid) l
 ·(repeat'((conv=>whnf);first|refine Zg fun _=>?_|refine Zn ?_|refine Zj ?_|apply pI|apply pJ|refine Zy ?_|fail));refine Need.mk ⟨⟨de,de,de,de,de,de,de,trivial⟩,kr⟩ ?_;refine Br.mkN (fun q=>q ⟨rfl,rfl,rfl,rfl,cJ,rfl,rfl,trivial⟩) ?_;(repeat refine ZR ?_);refine ⟨(i+1:Nat),by show length (α:=Sid) l-(i+1)<length (α:=Sid) l-i;omega,⟨c,f⟩,ZE⟩
 have e:i=length (α:=Sid) l:=om;subst e;(repeat refine ZR ?_);(conv=>whnf)
def c5029:Con:=aV 29 true fun | [.seq (.pair (.int .i64) (.pair .str (.pair .str (.pair .str .str)))) l,.seq (.pair (.int .i64) (.pair .str (.pair .str (.pair .str .str)))) m],K=>Need (l=m) (K (.val (.bool true))) | _,_=>False
theorem k5029:aM Tp c5029:=by
 refine kQ { asks:=[(0,[])] } func29 ntmps29 kn fun _ _ h=>?_;split at h;case h_2=>cases h
 rename_i l m;change List Opn at l;change List Opn at m;refine kb h.go ?_;replace h:=h.ok;subst h;(repeat' first|refine ZR ?_|refine Zg fun _=>?_);refine Ask.mk ⟨{ X:=Nat,pre:=fun i=>i<=length (α:=Opn) l/\∀j,j<i->(True),mod:=fun i _=>[(13,I i)],heap:=fun i H=>H,mu:=fun i=>length (α:=Opn) l-i },rfl,?_⟩;(repeat refine ZG ?_);refine ⟨⟨(0:Nat),⟨aF _,fun j g=>absurd g (aT j)⟩,ZE⟩,fun (i:Nat) hi=>?_⟩;obtain ⟨hi,n⟩:i<=length (α:=Opn) l/\∀j,j<i->(True):=hi;have f:∀j,j<i+1->True:=fun _ _=>trivial;by_cases c:i<length (α:=Opn) l
 ·(repeat'((conv=>whnf);first|refine Zg fun _=>?_|refine Zn ?_|refine Zj ?_|apply pI|apply pJ|refine Zy ?_|fail));refine Need.mk ⟨⟨de,de,de,de,de,trivial⟩,kr⟩ ?_;refine Br.mkN (fun q=>q ⟨rfl,rfl,rfl,rfl,rfl,trivial⟩) ?_;(repeat refine ZR ?_);refine ⟨(i+1:Nat),by show length (α:=Opn) l-(i+1)<length (α:=Opn) l-i;omega,⟨c,f⟩,ZE⟩
 have e:i=length (α:=Opn) l:=om;subst e;(repeat refine ZR ?_);(conv=>whnf)
def c5030:Con:=aV 30 true fun | [.seq (.pair (.int .i64) (.pair (.int .i64) (.int .i64))) l,.seq (.pair (.int .i64) (.pair (.int .i64) (.int .i64))) m],K=>Need (l=m) (K (.val (.bool true))) | _,_=>False
theorem k5030:aM Tp c5030:=by
 refine kQ { asks:=[(0,[])] } func30 ntmps30 kn fun _ _ h=>?_;split at h;case h_2=>cases h
 rename_i l m;change List Siz at l;change List Siz at m;refine kb h.go ?_;replace h:=h.ok;subst h;(repeat' first|refine ZR ?_|refine Zg fun _=>?_);refine Ask.mk ⟨{ X:=Nat,pre:=fun i=>i<=length (α:=Siz) l/\∀j,j<i->(True),mod:=fun i _=>[(13,I i)],heap:=fun i H=>H,mu:=fun i=>length (α:=Siz) l-i },rfl,?_⟩;(repeat refine ZG ?_);refine ⟨⟨(0:Nat),⟨aF _,fun j g=>absurd g (aT j)⟩,ZE⟩,fun (i:Nat) hi=>?_⟩;obtain ⟨hi,n⟩:i<=length (α:=Siz) l/\∀j,j<i->(True):=hi;have f:∀j,j<i+1->True:=fun _ _=>trivial;by_cases c:i<length (α:=Siz) l
 ·(repeat'((conv=>whnf);first|refine Zg fun _=>?_|refine Zn ?_|refine Zj ?_|apply pI|apply pJ|refine Zy ?_|fail));refine Need.mk ⟨⟨de,de,de,trivial⟩,kr⟩ ?_;refine Br.mkN (fun q=>q ⟨rfl,rfl,rfl,trivial⟩) ?_;(repeat refine ZR ?_);refine ⟨(i+1:Nat),by show length (α:=Siz) l-(i+1)<length (α:=Siz) l-i;omega,⟨c,f⟩,ZE⟩
 have e:i=length (α:=Siz) l:=om;subst e;(repeat refine ZR ?_);(conv=>whnf)
def c5032:Con:=aV 32 true fun | [.seq (.pair (.int .i64) (.pair (.int .i64) .str)) l,.seq (.pair (.int .i64) (.pair (.int .i64) .str)) m],K=>Need (l=m) (K (.val (.bool true))) | _,_=>False
theorem k5032:aM Tp c5032:=by
 refine kQ { asks:=[(0,[])] } func32 ntmps32 kn fun _ _ h=>?_;split at h;case h_2=>cases h
 rename_i l m;change List Lod at l;change List Lod at m;refine kb h.go ?_;replace h:=h.ok;subst h;(repeat' first|refine ZR ?_|refine Zg fun _=>?_);refine Ask.mk ⟨{ X:=Nat,pre:=fun i=>i<=length (α:=Lod) l/\∀j,j<i->(True),mod:=fun i _=>[(13,I i)],heap:=fun i H=>H,mu:=fun i=>length (α:=Lod) l-i },rfl,?_⟩;(repeat refine ZG ?_);refine ⟨⟨(0:Nat),⟨aF _,fun j g=>absurd g (aT j)⟩,ZE⟩,fun (i:Nat) hi=>?_⟩;obtain ⟨hi,n⟩:i<=length (α:=Lod) l/\∀j,j<i->(True):=hi;have f:∀j,j<i+1->True:=fun _ _=>trivial;by_cases c:i<length (α:=Lod) l
 ·(repeat'((conv=>whnf);first|refine Zg fun _=>?_|refine Zn ?_|refine Zj ?_|apply pI|apply pJ|refine Zy ?_|fail));refine Need.mk ⟨⟨de,de,de,trivial⟩,kr⟩ ?_;refine Br.mkN (fun q=>q ⟨rfl,rfl,rfl,trivial⟩) ?_;(repeat refine ZR ?_);refine ⟨(i+1:Nat),by show length (α:=Lod) l-(i+1)<length (α:=Lod) l-i;omega,⟨c,f⟩,ZE⟩
 have e:i=length (α:=Lod) l:=om;subst e;(repeat refine ZR ?_);(conv=>whnf)
def c5033:Con:=aV 33 true fun | [.seq (.pair (.int .i64) (.pair (.int .i64) (.pair (.int .i64) (.pair (.int .i64) (.int .i64))))) l,.seq (.pair (.int .i64) (.pair (.int .i64) (.pair (.int .i64) (.pair (.int .i64) (.int .i64))))) m],K=>Need (l=m) (K (.val (.bool true))) | _,_=>False
theorem k5033:aM Tp c5033:=by
 refine kQ { asks:=[(0,[])] } func33 ntmps33 kn fun _ _ h=>?_;split at h;case h_2=>cases h
 rename_i l m;change List Alw at l;change List Alw at m;refine kb h.go ?_;replace h:=h.ok;subst h;(repeat' first|refine ZR ?_|refine Zg fun _=>?_);refine Ask.mk ⟨{ X:=Nat,pre:=fun i=>i<=length (α:=Alw) l/\∀j,j<i->(True),mod:=fun i _=>[(13,I i)],heap:=fun i H=>H,mu:=fun i=>length (α:=Alw) l-i },rfl,?_⟩;(repeat refine ZG ?_);refine ⟨⟨(0:Nat),⟨aF _,fun j g=>absurd g (aT j)⟩,ZE⟩,fun (i:Nat) hi=>?_⟩;obtain ⟨hi,n⟩:i<=length (α:=Alw) l/\∀j,j<i->(True):=hi;have f:∀j,j<i+1->True:=fun _ _=>trivial;by_cases c:i<length (α:=Alw) l
 ·(repeat'((conv=>whnf);first|refine Zg fun _=>?_|refine Zn ?_|refine Zj ?_|apply pI|apply pJ|refine Zy ?_|fail));refine Need.mk ⟨⟨de,de,de,de,de,trivial⟩,kr⟩ ?_;refine Br.mkN (fun q=>q ⟨rfl,rfl,rfl,rfl,rfl,trivial⟩) ?_;(repeat refine ZR ?_);refine ⟨(i+1:Nat),by show length (α:=Alw) l-(i+1)<length (α:=Alw) l-i;omega,⟨c,f⟩,ZE⟩
 have e:i=length (α:=Alw) l:=om;subst e;(repeat refine ZR ?_);(conv=>whnf)
def c5024:Con:=aV 24 true fun | [.seq (.pair (.int .i64) (.pair (.int .i64) (.pair (.int .i64) (.pair (.int .i64) (.pair .bool (.pair (.int .i64) (.int .i64))))))) l,.seq (.pair (.int .i64) (.pair (.int .i64) (.pair (.int .i64) (.pair (.int .i64) (.pair .bool (.pair (.int .i64) (.int .i64))))))) m],K=>Need (l=m) (K (.val (.bool true))) | _,_=>False
theorem k5024:aM Tp c5024:=by
 refine kQ {} func24 ntmps24 (kc k5025 kn) fun _ _ h=>?_;split at h;case h_2=>cases h
 refine kb h.go ?_;replace h:=h.ok;(repeat refine ZR ?_);(conv=>whnf)
def c5028:Con:=aV 28 true fun | [.seq (.slice (.pair (.int .i64) (.pair (.int .i64) (.pair (.int .i64) (.pair (.int .i64) (.pair .bool (.pair (.int .i64) (.int .i64)))))))) l,.seq (.slice (.pair (.int .i64) (.pair (.int .i64) (.pair (.int .i64) (.pair (.int .i64) (.pair .bool (.pair (.int .i64) (.int .i64)))))))) m,.clo 24 [] []],K=>Need (l=m) (K (.val (.bool true))) | _,_=>False
theorem k5028:aM Tp c5028:=by
 refine kQ { asks:=[(0,[])] } func28 ntmps28 (kc k5024 kn) fun _ _ h=>?_;split at h;case h_2=>cases h
 rename_i l m;change List (List Sid) at l;change List (List Sid) at m;refine kb h.go ?_;replace h:=h.ok;subst h;(repeat' first|refine ZR ?_|refine Zg fun _=>?_);refine Ask.mk ⟨{ X:=Nat,pre:=fun i=>i<=length (α:=List Sid) l/\∀j,j<i->(True),mod:=fun i _=>[(17,I i)],heap:=fun i H=>H,mu:=fun i=>length (α:=List Sid) l-i },rfl,?_⟩;(repeat refine ZG ?_);refine ⟨⟨(0:Nat),⟨aF _,fun j g=>absurd g (aT j)⟩,ZE⟩,fun (i:Nat) hi=>?_⟩;obtain ⟨hi,n⟩:i<=length (α:=List Sid) l/\∀j,j<i->(True):=hi;have f:∀j,j<i+1->True:=fun _ _=>trivial;by_cases c:i<length (α:=List Sid) l
 ·(repeat' first|refine ZR ?_|refine Zg fun _=>?_);refine ⟨(i+1:Nat),by show length (α:=List Sid) l-(i+1)<length (α:=List Sid) l-i;omega,⟨c,f⟩,ZE⟩
 have e:i=length (α:=List Sid) l:=om;subst e;(repeat refine ZR ?_);(conv=>whnf)
def c5026:Con:=aV 26 true fun | [.agg [.val (.int .i64 a),.val (.int .i64 b),.val (.int .i64 c),.val (.int .i64 d),.val (.int .i64 e),.seq (.pair (.int .i64) (.int .i64)) g],.agg [.val (.int .i64 a'),.val (.int .i64 b'),.val (.int .i64 c'),.val (.int .i64 d'),.val (.int .i64 e'),.seq (.pair (.int .i64) (.int .i64)) g']],K=>Need (a=a'/\b=b'/\c=c'/\d=d'/\e=e'/\g=g') (K (.val (.bool true))) | _,_=>False
theorem k5026:aM Tp c5026:=by
 refine kQ {} func26 ntmps26 (kc RY kn) fun _ _ h=>?_;split at h;case h_2=>cases h
 rename_i a b c d e g n o s u x f;change List Gp at g;change List Gp at f;refine kb h.go ?_;replace h:=h.ok;obtain ⟨rfl,rfl,rfl,rfl,rfl,rfl⟩:=h;have m:H4 g g:=rfl;(repeat refine ZR ?_);(conv=>whnf);exact ⟨fun _=>rfl,fun _=>m⟩
def c5031:Con:=aV 31 true fun | [.seq (.pair (.int .i64) (.pair (.int .i64) (.pair (.int .i64) (.pair (.int .i64) (.pair (.int .i64) (.slice (.pair (.int .i64) (.int .i64)))))))) l,.seq (.pair (.int .i64) (.pair (.int .i64) (.pair (.int .i64) (.pair (.int .i64) (.pair (.int .i64) (.slice (.pair (.int .i64) (.int .i64)))))))) m,.clo 26 [] []],K=>Need (l=m) (K (.val (.bool true))) | _,_=>False
theorem k5031:aM Tp c5031:=by
 refine kQ { asks:=[(0,[])] } func31 ntmps31 (kc k5026 kn) fun _ _ h=>?_;split at h;case h_2=>cases h
 rename_i l m;change List Bar at l;change List Bar at m;refine kb h.go ?_;replace h:=h.ok;subst h;(repeat' first|refine ZR ?_|refine Zg fun _=>?_);refine Ask.mk ⟨{ X:=Nat,pre:=fun i=>i<=length (α:=Bar) l/\∀j,j<i->(True),mod:=fun i _=>[(17,I i)],heap:=fun i H=>H,mu:=fun i=>length (α:=Bar) l-i },rfl,?_⟩;(repeat refine ZG ?_);refine ⟨⟨(0:Nat),⟨aF _,fun j g=>absurd g (aT j)⟩,ZE⟩,fun (i:Nat) hi=>?_⟩;obtain ⟨hi,n⟩:i<=length (α:=Bar) l/\∀j,j<i->(True):=hi;have f:∀j,j<i+1->True:=fun _ _=>trivial;by_cases c:i<length (α:=Bar) l
 ·(repeat' first|refine ZR ?_|refine Zg fun _=>?_);refine ⟨(i+1:Nat),by show length (α:=Bar) l-(i+1)<length (α:=Bar) l-i;omega,⟨c,f⟩,ZE⟩
 have e:i=length (α:=Bar) l:=om;subst e;(repeat refine ZR ?_);(conv=>whnf)
def R0:Con:=aV 13 true fun | [.agg [.str nm,.seq (.slice (.pair (.int .i64) (.pair (.int .i64) (.pair (.int .i64) (.pair (.int .i64) (.pair .bool (.pair (.int .i64) (.int .i64)))))))) pl,.val (.int .i64 og),.val (.int .i64 sp),.seq (.int .i64) pu,.seq (.pair (.int .i64) (.pair .str (.pair .str (.pair .str .str)))) op,.seq (.pair (.int .i64) (.pair (.int .i64) (.int .i64))) sz,.seq (.pair (.int .i64) (.pair (.int .i64) (.pair (.int .i64) (.pair (.int .i64) (.pair (.int .i64) (.slice (.pair (.int .i64) (.int .i64)))))))) br,.val (.int .i64 kf),.val (.int .i64 t1),.val (.int .i64 t2),.val (.int .i64 t3),.val (.int .i64 t4),.seq (.pair (.int .i64) (.pair (.int .i64) .str)) lo,.seq (.pair (.int .i64) (.pair (.int .i64) (.pair (.int .i64) (.pair (.int .i64) (.int .i64))))) al],.agg [.str nm2,.seq (.slice (.pair (.int .i64) (.pair (.int .i64) (.pair (.int .i64) (.pair (.int .i64) (.pair .bool (.pair (.int .i64) (.int .i64)))))))) pl2,.val (.int .i64 og2),.val (.int .i64 sp2),.seq (.int .i64) pu2,.seq (.pair (.int .i64) (.pair .str (.pair .str (.pair .str .str)))) op2,.seq (.pair (.int .i64) (.pair (.int .i64) (.int .i64))) sz2,.seq (.pair (.int .i64) (.pair (.int .i64) (.pair (.int .i64) (.pair (.int .i64) (.pair (.int .i64) (.slice (.pair (.int .i64) (.int .i64)))))))) br2,.val (.int .i64 kf2),.val (.int .i64 t12),.val (.int .i64 t22),.val (.int .i64 t32),.val (.int .i64 t42),.seq (.pair (.int .i64) (.pair (.int .i64) .str)) lo2,.seq (.pair (.int .i64) (.pair (.int .i64) (.pair (.int .i64) (.pair (.int .i64) (.int .i64))))) al2]],K=>Need ((⟨nm,pl,og,sp,pu,op,sz,br,kf,t1,t2,t3,t4,lo,al⟩:JobV)= ⟨nm2,pl2,og2,sp2,pu2,op2,sz2,br2,kf2,t12,t22,t32,t42,lo2,al2⟩) (K (.val (.bool true))) | _,_=>False
theorem k5013:aM Tp R0:=by
 refine kQ {} func13 ntmps13 (kc k5028 (kc k5031 (kc RZ (kc k5029 (kc k5030 (kc k5032 (kc k5033 kn))))))) fun _ _ h=>?_;split at h;case h_2=>cases h
 rename_i o B Z sp pu A E u Y t1 t2 t3 t4 lo s y m z D C g n e x F J K W f c;change List (List Sid) at B;change List Opn at A;change List Siz at E;change List Bar at u;change List Lod at lo;change List Alw at s;change List (List Sid) at m;change List Opn at g;change List Siz at n;change List Bar at e;change List Lod at f;change List Alw at c;refine kb h.go ?_;replace h:=h.ok;cases h;have X:o=o:=rfl;(repeat'((conv=>whnf);first|refine Zn ?_|refine Zy ?_|fail));refine Need.mk ⟨⟨de,de,de,de,trivial⟩,kr⟩ ?_;refine Br.mkY ⟨rfl,rfl,rfl,rfl,trivial⟩ ?_;(repeat refine ZR ?_);(conv=>whnf)
def VC (e e':dR):Prop:=e=e'
theorem O4 (k ix sx sy sr su:Int)(sg:Prop)(b3:Decidable sg)(sl so os:Int)(o1 o2 o3 o4:Str)(zk zw zd bw bd bl bc bx:Int)(bg:List Gp)(J ls:Int)(lw:Str)(aw ad ap av an e1 e2 e3 e4 nu:Int)(tx:Str)(k2 F a7 a8 a5 a6:Int)(e:Prop)(A:Decidable e)(a3 a4 a2:Int)(Y Z a0 a1:Str)(b1 b2 a' y s x o z:Int)(u:List Gp)(c K:Int)(W:Str)(HT f m n g B C D E X:Int)(a9:Str):VC (k,ix,(sx,sy,sr,su,@decide sg b3,sl,so),(os,o1,o2,o3,o4),(zk,zw,zd),(bw,bd,bl,bc,bx,bg),(J,ls,lw),(aw,ad,ap,av,an),(e1,e2,e3,e4),nu,tx) (k2,F,(a7,a8,a5,a6,@decide e A,a3,a4),(a2,Y,Z,a0,a1),(b1,b2,a'),(y,s,x,o,z,u),(c,K,W),(HT,f,m,n,g),(B,C,D,E),X,a9)↔(k=k2/\ix=F/\(sx=a7/\sy=a8/\sr=a5/\su=a6/\(sg↔e)/\sl=a3/\so=a4/\True)/\(os=a2/\o1=Y/\o2=Z/\o3=a0/\o4=a1/\True)/\(zk=b1/\zw=b2/\zd=a'/\True)/\bw=y/\bd=s/\bl=x/\bc=o/\bx=z/\H4 bg u/\(J=c/\ls=K/\lw=W/\True)/\(aw=HT/\ad=f/\ap=m/\av=n/\an=g/\True)/\(e1=B/\e2=C/\e3=D/\e4=E/\True)/\nu=X/\tx=a9):=by
 simp only[VC,H4,Prod.mk.injEq,decide_eq_decide,and_true,and_assoc]
theorem b5063 (k ix sx sy sr su:Int)(sg:Prop)(c4:Decidable sg)(sl so os:Int)(o1 o2 o3 o4:Str)(zk zw zd bw bd bl bc bx:Int)(bg:List Gp)(W ls:Int)(lw:Str)(aw ad ap av an e1 e2 e3 e4 nu:Int)(tx:Str)(k2 K b9 b' b7 b8:Int)(m:Prop)(g:Decidable m)(b5 b6 b4:Int)(a' b1 b2 b3:Str)(c2 c3 c1 B y A x C:Int)(z:List Gp)(f X:Int)(Y:Str)(HT n s u o D E F J Z:Int)(c0:Str):body Tp [RX] {} true f63 [.agg (I k::I ix::I sx::I sy::I sr::I su:: .bl sg c4::I sl::I so::I os::S o1::S o2::S o3::S o4::I zk::I zw::I zd::I bw::I bd::I bl::I bc::I bx:: .seq qj bg::I W::I ls::S lw::I aw::I ad::I ap::I av::I an::I e1::I e2::I e3::I e4::I nu::S tx:: []),.agg (I k2::I K::I b9::I b'::I b7::I b8:: .bl m g::I b5::I b6::I b4::S a'::S b1::S b2::S b3::I c2::I c3::I c1::I B::I y::I A::I x::I C:: .seq qj z::I f::I X::S Y::I HT::I n::I s::I u::I o::I D::I E::I F::I J::I Z::S c0:: [])] (.bl (VC (k,ix,(sx,sy,sr,su,@decide sg c4,sl,so),(os,o1,o2,o3,o4),(zk,zw,zd),(bw,bd,bl,bc,bx,bg),(W,ls,lw),(aw,ad,ap,av,an),(e1,e2,e3,e4),nu,tx) (k2,K,(b9,b',b7,b8,@decide m g,b5,b6),(b4,a',b1,b2,b3),(c2,c3,c1),(B,y,A,x,C,z),(f,X,Y),(HT,n,s,u,o),(D,E,F,J),Z,c0)) Cp):=by
 have c:=O4 k ix sx sy sr su sg c4 sl so os o1 o2 o3 o4 zk zw zd bw bd bl bc bx bg W ls lw aw ad ap av an e1 e2 e3 e4 nu tx k2 K b9 b' b7 b8 m g b5 b6 b4 a' b1 b2 b3 c2 c3 c1 B y A x C z f X Y HT n s u o D E F J Z c0;generalize VC (k,ix,(sx,sy,sr,su,@decide sg c4,sl,so),(os,o1,o2,o3,o4),(zk,zw,zd),(bw,bd,bl,bc,bx,bg),(W,ls,lw),(aw,ad,ap,av,an),(e1,e2,e3,e4),nu,tx) (k2,K,(b9,b',b7,b8,@decide m g,b5,b6),(b4,a',b1,b2,b3),(c2,c3,c1),(B,y,A,x,C,z),(f,X,Y),(HT,n,s,u,o),(D,E,F,J),Z,c0)=M at*;(repeat'((conv=>whnf);first|apply pI|apply pJ|(apply PinH.mk;apply aC;apply aC)|exact Zf|refine Zc ?_ ?_|fail));by_cases a0:k=k2;case neg=>
  have e:¬M:=fun q=>a0 (c.1 q).1;clear c;(repeat refine ZR ?_);(conv=>whnf);exact e
 (repeat refine ZR ?_);by_cases a1:ix=K;case neg=>
  have e:¬M:=fun q=>a1 (c.1 q).2.1;clear c;(repeat refine ZR ?_);(conv=>whnf);exact e
 (repeat refine ZR ?_)
 repeat
  first
   | refine Need.mk ⟨⟨de,de,de,de,de,de,de,trivial⟩,kr⟩ ?_
   | refine Need.mk ⟨⟨de,de,de,de,de,trivial⟩,kr⟩ ?_
   | refine Need.mk ⟨⟨de,de,de,de,trivial⟩,kr⟩ ?_
   | refine Need.mk ⟨⟨de,de,de,trivial⟩,kr⟩ ?_
  skip
 by_cases a2:(sx=b9/\sy=b'/\sr=b7/\su=b8/\(sg↔m)/\sl=b5/\so=b6/\True);case neg=>
  have e:¬M:=fun q=>a2 (c.1 q).2.2.1;clear c;(repeat refine ZR ?_);(conv=>whnf);exact e
 (repeat refine ZR ?_)
 repeat
  first
   | refine Need.mk ⟨⟨de,de,de,de,de,de,de,trivial⟩,kr⟩ ?_
   | refine Need.mk ⟨⟨de,de,de,de,de,trivial⟩,kr⟩ ?_
   | refine Need.mk ⟨⟨de,de,de,de,trivial⟩,kr⟩ ?_
   | refine Need.mk ⟨⟨de,de,de,trivial⟩,kr⟩ ?_
  skip
 by_cases a3:(os=b4/\o1=a'/\o2=b1/\o3=b2/\o4=b3/\True);case neg=>
  have e:¬M:=fun q=>a3 (c.1 q).2.2.2.1;clear c;(repeat refine ZR ?_);(conv=>whnf);exact e
 (repeat refine ZR ?_)
 repeat
  first
   | refine Need.mk ⟨⟨de,de,de,de,de,de,de,trivial⟩,kr⟩ ?_
   | refine Need.mk ⟨⟨de,de,de,de,de,trivial⟩,kr⟩ ?_
   | refine Need.mk ⟨⟨de,de,de,de,trivial⟩,kr⟩ ?_
   | refine Need.mk ⟨⟨de,de,de,trivial⟩,kr⟩ ?_
  skip
 by_cases a4:(zk=c2/\zw=c3/\zd=c1/\True);case neg=>
  have e:¬M:=fun q=>a4 (c.1 q).2.2.2.2.1;clear c;(repeat refine ZR ?_);(conv=>whnf);exact e
 (repeat refine ZR ?_);by_cases a5:bw=B;case neg=>
  have e:¬M:=fun q=>a5 (c.1 q).2.2.2.2.2.1;clear c;(repeat refine ZR ?_);(conv=>whnf);exact e
 (repeat refine ZR ?_);by_cases a6:bd=y;case neg=>
  have e:¬M:=fun q=>a6 (c.1 q).2.2.2.2.2.2.1;clear c;(repeat refine ZR ?_);(conv=>whnf);exact e
 (repeat refine ZR ?_);by_cases a7:bl=A;case neg=>
  have e:¬M:=fun q=>a7 (c.1 q).2.2.2.2.2.2.2.1;clear c;(repeat refine ZR ?_);(conv=>whnf);exact e
 (repeat refine ZR ?_);by_cases a8:bc=x;case neg=>
  have e:¬M:=fun q=>a8 (c.1 q).2.2.2.2.2.2.2.2.1;clear c;(repeat refine ZR ?_);(conv=>whnf);exact e
 (repeat refine ZR ?_);by_cases a9:bx=C;case neg=>
  have e:¬M:=fun q=>a9 (c.1 q).2.2.2.2.2.2.2.2.2.1;clear c;(repeat refine ZR ?_);(conv=>whnf);exact e
 (repeat refine ZR ?_);by_cases c5:H4 bg z;case neg=>
  have e:¬M:=fun q=>c5 (c.1 q).2.2.2.2.2.2.2.2.2.2.1;clear c;(repeat refine ZR ?_);(conv=>whnf);exact e
 (repeat refine ZR ?_)
 repeat
  first
   | refine Need.mk ⟨⟨de,de,de,de,de,de,de,trivial⟩,kr⟩ ?_
   | refine Need.mk ⟨⟨de,de,de,de,de,trivial⟩,kr⟩ ?_
   | refine Need.mk ⟨⟨de,de,de,de,trivial⟩,kr⟩ ?_
   | refine Need.mk ⟨⟨de,de,de,trivial⟩,kr⟩ ?_
  skip
 by_cases c6:(W=f/\ls=X/\lw=Y/\True);case neg=>
  have e:¬M:=fun q=>c6 (c.1 q).2.2.2.2.2.2.2.2.2.2.2.1;clear c;(repeat refine ZR ?_);(conv=>whnf);exact e
 (repeat refine ZR ?_)
 repeat
  first
   | refine Need.mk ⟨⟨de,de,de,de,de,de,de,trivial⟩,kr⟩ ?_
   | refine Need.mk ⟨⟨de,de,de,de,de,trivial⟩,kr⟩ ?_
   | refine Need.mk ⟨⟨de,de,de,de,trivial⟩,kr⟩ ?_
   | refine Need.mk ⟨⟨de,de,de,trivial⟩,kr⟩ ?_
  skip
 by_cases c7:(aw=HT/\ad=n/\ap=s/\av=u/\an=o/\True);case neg=>
  have e:¬M:=fun q=>c7 (c.1 q).2.2.2.2.2.2.2.2.2.2.2.2.1;clear c;(repeat refine ZR ?_);(conv=>whnf);exact e
 (repeat refine ZR ?_)
 repeat
  first
   | refine Need.mk ⟨⟨de,de,de,de,de,de,de,trivial⟩,kr⟩ ?_
   | refine Need.mk ⟨⟨de,de,de,de,de,trivial⟩,kr⟩ ?_
   | refine Need.mk ⟨⟨de,de,de,de,trivial⟩,kr⟩ ?_
   | refine Need.mk ⟨⟨de,de,de,trivial⟩,kr⟩ ?_
  skip
 by_cases c8:(e1=D/\e2=E/\e3=F/\e4=J/\True);case neg=>
  have e:¬M:=fun q=>c8 (c.1 q).2.2.2.2.2.2.2.2.2.2.2.2.2.1;clear c;(repeat refine ZR ?_);(conv=>whnf);exact e
 (repeat refine ZR ?_);by_cases c':nu=Z;case neg=>
  have e:¬M:=fun q=>c' (c.1 q).2.2.2.2.2.2.2.2.2.2.2.2.2.2.1;clear c;(repeat refine ZR ?_);(conv=>whnf);exact e
 have e:tx=c0↔M:=⟨fun q=>c.2 ⟨a0,a1,a2,a3,a4,a5,a6,a7,a8,a9,c5,c6,c7,c8,c',q⟩,fun q=>(c.1 q).2.2.2.2.2.2.2.2.2.2.2.2.2.2.2⟩;clear c;(repeat refine ZR ?_)
 repeat
  first
   | refine Need.mk ⟨⟨de,de,de,de,de,de,de,trivial⟩,kr⟩ ?_
   | refine Need.mk ⟨⟨de,de,de,de,de,trivial⟩,kr⟩ ?_
   | refine Need.mk ⟨⟨de,de,de,de,trivial⟩,kr⟩ ?_
   | refine Need.mk ⟨⟨de,de,de,trivial⟩,kr⟩ ?_
  skip
 (conv=>whnf);exact e
def K2:Con:=aV 63 true fun args K=>match args with
 | [.agg a0,.agg a1]=>pQ a0 fun k ix sx sy sr su sg dsg sl so os o1 o2 o3 o4 zk zw zd bw bd bl bc bx bg lki ls lw aw ad ap av an e1 e2 e3 e4 nu tx=>pQ a1 fun k2 ix2 sx2 sy2 sr2 su2 sg2 dsg2 sl2 so2 os2 o12 o22 o32 o42 zk2 zw2 zd2 bw2 bd2 bl2 bc2 bx2 bg2 lki2 ls2 lw2 HT ad2 ap2 av2 an2 e12 e22 e32 e42 nu2 tx2=>K (.bl (VC (k,ix,(sx,sy,sr,su,@decide sg dsg,sl,so),(os,o1,o2,o3,o4),(zk,zw,zd),(bw,bd,bl,bc,bx,bg),(lki,ls,lw),(aw,ad,ap,av,an),(e1,e2,e3,e4),nu,tx) (k2,ix2,(sx2,sy2,sr2,su2,@decide sg2 dsg2,sl2,so2),(os2,o12,o22,o32,o42),(zk2,zw2,zd2),(bw2,bd2,bl2,bc2,bx2,bg2),(lki2,ls2,lw2),(HT,ad2,ap2,av2,an2),(e12,e22,e32,e42),nu2,tx2)) Cp)
 | _=>False
theorem k5063:aM Tp K2:=by
 refine kO func63 fun b8 K h=>?_;simp only[K2] at h;split at h
 ·rename_i a0 a1;refine kD h fun k ix sx sy sr su sg B sl so os o1 o2 o3 o4 zk zw zd bw bd bl bc bx bg W ls lw aw ad ap av an e1 e2 e3 e4 nu tx e h0=>?_;subst e;refine kD h0 fun k2 J b2 b3 a' b1 a7 c a8 a9 a6 a2 a3 a4 a5 b6 b7 b5 z u y s A x f X Y HT g n o m C D E F Z b4 e h1=>?_;subst e;exact ⟨_,h1,gH func63 ntmps63 (by simp[RY]) (b5063 k ix sx sy sr su sg B sl so os o1 o2 o3 o4 zk zw zd bw bd bl bc bx bg W ls lw aw ad ap av an e1 e2 e3 e4 nu tx k2 J b2 b3 a' b1 a7 c a8 a9 a6 a2 a3 a4 a5 b6 b7 b5 z u y s A x f X Y HT g n o m C D E F Z b4)⟩
 cases h
abbrev edS (e:dR):List SV:=(I e.1)::(I e.2.1)::(I e.2.2.1.1)::(I e.2.2.1.2.1)::(I e.2.2.1.2.2.1)::(I e.2.2.1.2.2.2.1)::(.bl (e.2.2.1.2.2.2.2.1=true) inferInstance)::(I e.2.2.1.2.2.2.2.2.1)::(I e.2.2.1.2.2.2.2.2.2)::(I e.2.2.2.1.1)::(S e.2.2.2.1.2.1)::(S e.2.2.2.1.2.2.1)::(S e.2.2.2.1.2.2.2.1)::(S e.2.2.2.1.2.2.2.2)::(I e.2.2.2.2.1.1)::(I e.2.2.2.2.1.2.1)::(I e.2.2.2.2.1.2.2)::(I e.2.2.2.2.2.1.1)::(I e.2.2.2.2.2.1.2.1)::(I e.2.2.2.2.2.1.2.2.1)::(I e.2.2.2.2.2.1.2.2.2.1)::(I e.2.2.2.2.2.1.2.2.2.2.1)::(.seq tG e.2.2.2.2.2.1.2.2.2.2.2)::(I e.2.2.2.2.2.2.1.1)::(I e.2.2.2.2.2.2.1.2.1)::(S e.2.2.2.2.2.2.1.2.2)::(I e.2.2.2.2.2.2.2.1.1)::(I e.2.2.2.2.2.2.2.1.2.1)::(I e.2.2.2.2.2.2.2.1.2.2.1)::(I e.2.2.2.2.2.2.2.1.2.2.2.1)::(I e.2.2.2.2.2.2.2.1.2.2.2.2)::(I e.2.2.2.2.2.2.2.2.1.1)::(I e.2.2.2.2.2.2.2.2.1.2.1)::(I e.2.2.2.2.2.2.2.2.1.2.2.1)::(I e.2.2.2.2.2.2.2.2.1.2.2.2)::(I e.2.2.2.2.2.2.2.2.2.1)::(S e.2.2.2.2.2.2.2.2.2.2):: []
abbrev GY (e:dR):dR:=(e.1,e.2.1,(e.2.2.1.1,e.2.2.1.2.1,e.2.2.1.2.2.1,e.2.2.1.2.2.2.1,@decide (e.2.2.1.2.2.2.2.1=true) inferInstance,e.2.2.1.2.2.2.2.2.1,e.2.2.1.2.2.2.2.2.2),(e.2.2.2.1.1,e.2.2.2.1.2.1,e.2.2.2.1.2.2.1,e.2.2.2.1.2.2.2.1,e.2.2.2.1.2.2.2.2),(e.2.2.2.2.1.1,e.2.2.2.2.1.2.1,e.2.2.2.2.1.2.2),(e.2.2.2.2.2.1.1,e.2.2.2.2.2.1.2.1,e.2.2.2.2.2.1.2.2.1,e.2.2.2.2.2.1.2.2.2.1,e.2.2.2.2.2.1.2.2.2.2.1,e.2.2.2.2.2.1.2.2.2.2.2),(e.2.2.2.2.2.2.1.1,e.2.2.2.2.2.2.1.2.1,e.2.2.2.2.2.2.1.2.2),(e.2.2.2.2.2.2.2.1.1,e.2.2.2.2.2.2.2.1.2.1,e.2.2.2.2.2.2.2.1.2.2.1,e.2.2.2.2.2.2.2.1.2.2.2.1,e.2.2.2.2.2.2.2.1.2.2.2.2),(e.2.2.2.2.2.2.2.2.1.1,e.2.2.2.2.2.2.2.2.1.2.1,e.2.2.2.2.2.2.2.2.1.2.2.1,e.2.2.2.2.2.2.2.2.1.2.2.2),e.2.2.2.2.2.2.2.2.2.1,e.2.2.2.2.2.2.2.2.2.2)
theorem K3 (e:dR):GY e=e:=by
 obtain ⟨k,f,⟨g,m,s,u,c,y,A⟩,o,z,b,l,a,t,n,x⟩:=e;cases c<;>rfl
theorem TN (k c:Int)(s:Sid)(o:Opn)(z:Siz)(b:Bar)(l:Lod)(a:Alw)(t:VN)(n:Int)(x:Str):Pw (k,c,s,o,z,b,l,a,t,n,x)=(if k=1 then (k,0,qX,kG,pB,Kd,Jq,Cj,Nk,0,x) else if k=2 then (k,c,s,kG,pB,Kd,Jq,Cj,Nk,0,[])
  else if k=3\/k=12 then (k,c,qX,kG,pB,Kd,Jq,Cj,Nk,n,[]) else if k=4\/k=8 then (k,0,qX,kG,pB,Kd,Jq,Cj,Nk,n,[])
  else if k=5 then (k,c,qX,o,pB,Kd,Jq,Cj,Nk,0,[]) else if k=6 then (k,0,qX,kG,z,Kd,Jq,Cj,Nk,0,[])
  else if k=7 then (k,c,qX,kG,pB,b,Jq,Cj,Nk,0,[]) else if k=9 then (k,0,qX,kG,pB,Kd,Jq,Cj,t,0,[])
  else if k=10 then (k,c,qX,kG,pB,Kd,l,Cj,Nk,0,[]) else if k=11 then (k,0,qX,kG,pB,Kd,Jq,a,Nk,0,[])
  else (k,0,qX,kG,pB,Kd,Jq,Cj,Nk,0,[])):=rfl
theorem b5064 (k Y sx sy sr su:Int)(m:Prop)(c:Decidable m)(sl so os:Int)(o1 o2 o3 o4:Str)(zk zw zd B y A x bx:Int)(z:List Gp)(g Z:Int)(lw:Str)(u ad o s n e1 e2 e3 e4 nu:Int)(tx:Str):body Tp [] {} false f64 [.agg (I k::I Y::I sx::I sy::I sr::I su:: .bl m c::I sl::I so::I os::S o1::S o2::S o3::S o4::I zk::I zw::I zd::I B::I y::I A::I x::I bx:: .seq qj z::I g::I Z::S lw::I u::I ad::I o::I s::I n::I e1::I e2::I e3::I e4::I nu::S tx:: [])] (.agg (edS (Pw (k,Y,(sx,sy,sr,su,@decide m c,sl,so),(os,o1,o2,o3,o4),(zk,zw,zd),(B,y,A,x,bx,z),(g,Z,lw),(u,ad,o,s,n),(e1,e2,e3,e4),nu,tx)))):=by
 rw[TN];by_cases C:k=1
 ·rw[aE C];(repeat refine ZR ?_);(conv=>whnf);(repeat' first|exact trivial|rfl|apply aA);all_goals first
   | ((conv=>whnf);exact (show (false=true)->False from nofun))
   | ((conv=>whnf);exact (@decide_eq_true_iff _ c).symm)
 rw[aD C];by_cases D:k=2
 ·rw[aE D];(repeat'((conv=>whnf);first|apply pI|apply pJ|(apply PinH.mk;apply aC;apply aC)|exact Zf|refine Zc ?_ ?_|refine Zl ?_|refine Zy ?_|refine Zm ?_|fail));(conv=>whnf);(repeat' first|exact trivial|rfl|apply aA);all_goals first
   | ((conv=>whnf);exact (show (false=true)->False from nofun))
   | ((conv=>whnf);exact (@decide_eq_true_iff _ c).symm)
 rw[aD D];by_cases e:k=3\/k=12
 ·rw[aE e];rcases e with e | e;all_goals
   (repeat'((conv=>whnf);first|apply pI|apply pJ|(apply PinH.mk;apply aC;apply aC)|exact Zf|refine Zc ?_ ?_|refine Zl ?_|refine Zy ?_|refine Zm ?_|fail));(conv=>whnf);(repeat' first|exact trivial|rfl|apply aA);all_goals first
    | ((conv=>whnf);exact (show (false=true)->False from nofun))
    | ((conv=>whnf);exact (@decide_eq_true_iff _ c).symm)
 rw[aD e];by_cases f:k=4\/k=8
 ·rw[aE f];rcases f with f | f;all_goals
   (repeat refine ZR ?_);(conv=>whnf);(repeat' first|exact trivial|rfl|apply aA);all_goals first
    | ((conv=>whnf);exact (show (false=true)->False from nofun))
    | ((conv=>whnf);exact (@decide_eq_true_iff _ c).symm)
 rw[aD f];by_cases E:k=5
 ·rw[aE E];(repeat'((conv=>whnf);first|apply pI|apply pJ|(apply PinH.mk;apply aC;apply aC)|exact Zf|refine Zc ?_ ?_|refine Zl ?_|refine Zy ?_|refine Zm ?_|fail));(conv=>whnf);(repeat' first|exact trivial|rfl|apply aA);all_goals first
   | ((conv=>whnf);exact (show (false=true)->False from nofun))
   | ((conv=>whnf);exact (@decide_eq_true_iff _ c).symm)
 rw[aD E];by_cases F:k=6
 ·rw[aE F];(repeat refine ZR ?_);(conv=>whnf);(repeat' first|exact trivial|rfl|apply aA);all_goals first
   | ((conv=>whnf);exact (show (false=true)->False from nofun))
   | ((conv=>whnf);exact (@decide_eq_true_iff _ c).symm)
 rw[aD F];by_cases J:k=7
 ·rw[aE J];(repeat'((conv=>whnf);first|apply pI|apply pJ|(apply PinH.mk;apply aC;apply aC)|exact Zf|refine Zc ?_ ?_|refine Zl ?_|refine Zy ?_|refine Zm ?_|fail));(conv=>whnf);(repeat' first|exact trivial|rfl|apply aA);all_goals first
   | ((conv=>whnf);exact (show (false=true)->False from nofun))
   | ((conv=>whnf);exact (@decide_eq_true_iff _ c).symm)
 rw[aD J];by_cases K:k=9
 ·rw[aE K];(repeat refine ZR ?_);(conv=>whnf);(repeat' first|exact trivial|rfl|apply aA);all_goals first
   | ((conv=>whnf);exact (show (false=true)->False from nofun))
   | ((conv=>whnf);exact (@decide_eq_true_iff _ c).symm)
 rw[aD K];by_cases W:k=10
 ·rw[aE W];(repeat'((conv=>whnf);first|apply pI|apply pJ|(apply PinH.mk;apply aC;apply aC)|exact Zf|refine Zc ?_ ?_|refine Zl ?_|refine Zy ?_|refine Zm ?_|fail));(conv=>whnf);(repeat' first|exact trivial|rfl|apply aA);all_goals first
   | ((conv=>whnf);exact (show (false=true)->False from nofun))
   | ((conv=>whnf);exact (@decide_eq_true_iff _ c).symm)
 rw[aD W];by_cases X:k=11
 ·rw[aE X];(repeat refine ZR ?_);(conv=>whnf);(repeat' first|exact trivial|rfl|apply aA);all_goals first
   | ((conv=>whnf);exact (show (false=true)->False from nofun))
   | ((conv=>whnf);exact (@decide_eq_true_iff _ c).symm)
 rw[aD X];have g2:¬k=3:=fun q=>e (.inl q);have g3:¬k=12:=fun q=>e (.inr q);have g4:¬k=4:=fun q=>f (.inl q);have g5:¬k=8:=fun q=>f (.inr q);clear e f;(repeat refine ZR ?_);(conv=>whnf);(repeat' first|exact trivial|rfl|apply aA);all_goals first
  | ((conv=>whnf);exact (show (false=true)->False from nofun))
  | ((conv=>whnf);exact (@decide_eq_true_iff _ c).symm)
def K4:Con:=aV 64 false fun args K=>match args with
 | [.agg a0]=>pQ a0 fun k ix sx sy sr su sg dsg sl so os o1 o2 o3 o4 zk zw zd bw bd bl bc bx bg lki ls lw aw ad ap av an e1 e2 e3 e4 nu tx=>K (.agg (edS (Pw (k,ix,(sx,sy,sr,su,@decide sg dsg,sl,so),(os,o1,o2,o3,o4),(zk,zw,zd),(bw,bd,bl,bc,bx,bg),(lki,ls,lw),(aw,ad,ap,av,an),(e1,e2,e3,e4),nu,tx))))
 | _=>False
theorem k5064:aM Tp K4:=by
 refine kO func64 fun g K h=>?_;simp only[K4] at h;split at h
 ·rename_i a0;refine kD h fun k D sx sy sr su sg c sl so os W X Y Z zk zw zd B y A x bx z f E F u m o s n e1 e2 e3 e4 J tx e C=>?_;subst e;exact ⟨_,C,gH func64 ntmps64 si (b5064 k D sx sy sr su sg c sl so os W X Y Z zk zw zd B y A x bx z f E F u m o s n e1 e2 e3 e4 J tx)⟩
 cases h
theorem b5022 (k A sx sy Y Z:Int)(f:Prop)(c:Decidable f)(W X os:Int)(E F J K:Str)(zk zw zd z u y s bx:Int)(x:List Gp)(e B:Int)(C:Str)(o ad m n g e1 e2 e3 e4 D:Int)(tx:Str):body Tp [K4,K2] {} true f22 [.agg (I k::I A::I sx::I sy::I Y::I Z:: .bl f c::I W::I X::I os::S E::S F::S J::S K::I zk::I zw::I zd::I z::I u::I y::I s::I bx:: .seq qj x::I e::I B::S C::I o::I ad::I m::I n::I g::I e1::I e2::I e3::I e4::I D::S tx:: [])] (I (zD (k,A,(sx,sy,Y,Z,@decide f c,W,X),(os,E,F,J,K),(zk,zw,zd),(z,u,y,s,bx,x),(e,B,C),(o,ad,m,n,g),(e1,e2,e3,e4),D,tx))):=by
 have hE:zD (k,A,(sx,sy,Y,Z,@decide f c,W,X),(os,E,F,J,K),(zk,zw,zd),(z,u,y,s,bx,x),(e,B,C),(o,ad,m,n,g),(e1,e2,e3,e4),D,tx)=if k<1\/12<k then 8 else (open Classical in if (k,A,(sx,sy,Y,Z,@decide f c,W,X),(os,E,F,J,K),(zk,zw,zd),(z,u,y,s,bx,x),(e,B,C),(o,ad,m,n,g),(e1,e2,e3,e4),D,tx)=Pw (k,A,(sx,sy,Y,Z,@decide f c,W,X),(os,E,F,J,K),(zk,zw,zd),(z,u,y,s,bx,x),(e,B,C),(o,ad,m,n,g),(e1,e2,e3,e4),D,tx) then 0 else 9):=rfl;by_cases h1:k<1\/12<k
 ·rw[aE h1] at hE;rw[hE];clear hE;(repeat'((conv=>whnf);first|refine Zy ?_|refine Zr (fun _=>?_) fun _=>?_|fail));all_goals first
   | (exfalso;omega)
   | ((conv=>whnf);(repeat' first|rfl|apply aA))
 rw[aD h1] at hE;have h2:¬k<1:=fun q=>h1 (.inl q);have h3:¬12<k:=fun q=>h1 (.inr q);clear h1;have hu:=K3 (Pw (k,A,(sx,sy,Y,Z,@decide f c,W,X),(os,E,F,J,K),(zk,zw,zd),(z,u,y,s,bx,x),(e,B,C),(o,ad,m,n,g),(e1,e2,e3,e4),D,tx));by_cases h4:VC (k,A,(sx,sy,Y,Z,@decide f c,W,X),(os,E,F,J,K),(zk,zw,zd),(z,u,y,s,bx,x),(e,B,C),(o,ad,m,n,g),(e1,e2,e3,e4),D,tx) (GY (Pw (k,A,(sx,sy,Y,Z,@decide f c,W,X),(os,E,F,J,K),(zk,zw,zd),(z,u,y,s,bx,x),(e,B,C),(o,ad,m,n,g),(e1,e2,e3,e4),D,tx)))
 ·rw[aE (show (k,A,(sx,sy,Y,Z,@decide f c,W,X),(os,E,F,J,K),(zk,zw,zd),(z,u,y,s,bx,x),(e,B,C),(o,ad,m,n,g),(e1,e2,e3,e4),D,tx)=Pw (k,A,(sx,sy,Y,Z,@decide f c,W,X),(os,E,F,J,K),(zk,zw,zd),(z,u,y,s,bx,x),(e,B,C),(o,ad,m,n,g),(e1,e2,e3,e4),D,tx) from (show (k,A,(sx,sy,Y,Z,@decide f c,W,X),(os,E,F,J,K),(zk,zw,zd),(z,u,y,s,bx,x),(e,B,C),(o,ad,m,n,g),(e1,e2,e3,e4),D,tx)=GY (Pw (k,A,(sx,sy,Y,Z,@decide f c,W,X),(os,E,F,J,K),(zk,zw,zd),(z,u,y,s,bx,x),(e,B,C),(o,ad,m,n,g),(e1,e2,e3,e4),D,tx)) from h4).trans hu)] at hE;rw[hE];clear hE;(repeat'((conv=>whnf);first|apply pI|apply pJ|refine Zm ?_|fail));exact ZF
 rw[aD (fun q:(k,A,(sx,sy,Y,Z,@decide f c,W,X),(os,E,F,J,K),(zk,zw,zd),(z,u,y,s,bx,x),(e,B,C),(o,ad,m,n,g),(e1,e2,e3,e4),D,tx)=Pw (k,A,(sx,sy,Y,Z,@decide f c,W,X),(os,E,F,J,K),(zk,zw,zd),(z,u,y,s,bx,x),(e,B,C),(o,ad,m,n,g),(e1,e2,e3,e4),D,tx)=>h4 (q.trans hu.symm))] at hE;rw[hE];clear hE hu;(repeat'((conv=>whnf);first|apply pI|apply pJ|refine Zy ?_|refine Zm ?_|fail));exact ZF
def K5:Con:=aV 22 true fun args K=>match args with
 | [.agg a0]=>pQ a0 fun k ix sx sy sr su sg dsg sl so os o1 o2 o3 o4 zk zw zd bw bd bl bc bx bg lki ls lw aw ad ap av an e1 e2 e3 e4 nu tx=>K (I (zD (k,ix,(sx,sy,sr,su,@decide sg dsg,sl,so),(os,o1,o2,o3,o4),(zk,zw,zd),(bw,bd,bl,bc,bx,bg),(lki,ls,lw),(aw,ad,ap,av,an),(e1,e2,e3,e4),nu,tx)))
 | _=>False
theorem k5022:aM Tp K5:=by
 refine kO func22 fun g K h=>?_;simp only[K5] at h;split at h
 ·rename_i a0;refine kD h fun k D sx sy sr su sg c sl so os W X Y Z zk zw zd B y A x bx z f E F u m o s n e1 e2 e3 e4 J tx e C=>?_;subst e;exact ⟨_,C,gH func22 ntmps22 (by simp[k5064,k5063]) (b5022 k D sx sy sr su sg c sl so os W X Y Z zk zw zd B y A x bx z f E F u m o s n e1 e2 e3 e4 J tx)⟩
 cases h
def c4072:Con:=aV 157 true fun | [.agg [.val (.int .i64 x0),.val (.int .i64 y0),.val (.int .i64 a0),.val (.int .i64 b0),.bl p0 d0,.val (.int .i64 u0),.val (.int .i64 v0),.val (.int .i64 x1),.val (.int .i64 y1),.val (.int .i64 a1),.val (.int .i64 b1),.bl p1 d1,.val (.int .i64 u1),.val (.int .i64 v1),.val (.int .i64 x2),.val (.int .i64 y2),.val (.int .i64 a2),.val (.int .i64 b2),.bl p2 d2,.val (.int .i64 u2),.val (.int .i64 v2)]],K=>K (.agg [I (min x1 x2),I (min y1 y2),I (max x1 x2),I (max y1 y2)]) | _,_=>False
theorem k4072:aM Tp c4072:=by
 refine kQ {} func157 ntmps157 (kc Nx kn) fun _ _ h=>?_;split at h;case h_2=>cases h
 refine kb h ?_;(repeat'((conv=>whnf);first|apply pI|apply pJ|exact Zf|refine Zc ?_ ?_|fail));exact ZF
def c4073:Con:=aV 158 true fun | [.agg [.val (.int .i64 a),.val (.int .i64 b),.val (.int .i64 c),.val (.int .i64 d)],.agg [.val (.int .i64 e),.val (.int .i64 f),.val (.int .i64 g),.val (.int .i64 z)]],K=>K (.bl (a<=g/\e<=c/\b<=z/\f<=d) inferInstance) | _,_=>False
theorem k4073:aM Tp c4073:=by
 refine kQ {} func158 ntmps158 kn fun _ _ h=>?_;split at h;case h_2=>cases h
 rename_i a b c d e f g z;refine kb h ?_;by_cases m:a<=g
 ·by_cases n:e<=c
  ·by_cases o:b<=z
   ·(repeat refine ZR ?_);(conv=>whnf);exact ⟨fun q=>⟨m,n,o,q⟩,fun q=>q.2.2.2⟩
   (repeat refine ZR ?_);(conv=>whnf);exact fun q=>o q.2.2.1
  (repeat refine ZR ?_);(conv=>whnf);exact fun q=>n q.2.1
 (repeat refine ZR ?_);(conv=>whnf);exact fun q=>m q.1
theorem MI {r:List Sid}(h:Ei r){i:Nat}(hi:i<r.length): -4294967296<=VE (kE r i) (jD r i)/\VE (kE r i) (jD r i)<=4294967296:=by
 obtain ⟨_,c,e⟩:=HG h hi;have f:=cU c.1.1 e.2.1;have g:=cU c.2.1 e.1.1;have m:=(Ko (a:=(kE r i).1) (b:=(jD r i).2.1) om om).2;have n:=(Ko (a:=(kE r i).2.1) (b:=(jD r i).1) om om).2;unfold VE;omega
theorem MJ {r:List Sid}(h:Ei r):∀i,i<=r.length-> -(4294967296*(i:Int))<=Hh r i/\Hh r i<=4294967296*(i:Int)
 | 0,_=>by simp[Hh]
 | i+1,hi=>by
  have c:=MJ h i om;have e:=MI h (show i<r.length by omega);rw[Hh];omega
def c4074:Con:=aV 159 true fun | [.seq (.pair (.int .i64) (.pair (.int .i64) (.pair (.int .i64) (.pair (.int .i64) (.pair .bool (.pair (.int .i64) (.int .i64))))))) r],K=>Need (length (α:=Sid) r<=1000000/\Ei r) (K (I (Hh r (length (α:=Sid) r)))) | _,_=>False
theorem k4074:aM Tp c4074:=by
 refine kQ { asks:=[(0,[])] } func159 ntmps159 (kc AI (kc AJ (kc Nx (kc SM kn)))) fun _ _ h=>?_;split at h;case h_2=>cases h
 rename_i r;change List Sid at r;refine kb h.go ?_;replace h:=h.ok;obtain ⟨o,e⟩:=h;refine Ask.mk ⟨{ X:=Nat,pre:=fun i=>i<=r.length,mod:=fun _ _=>[],heap:=fun i _=>[.cells [I (Hh r i)] 3],mu:=fun i=>i },rfl,?_⟩;(repeat refine ZG ?_);refine ⟨⟨(0:Nat),rfl,aF _,ZE⟩,fun (i:Nat) hi (c:i<r.length)=>?_,fun (i:Nat) hi (g:i=r.length)=>?_⟩
 ·have hi:i<=r.length:=hi;have n:=(HG e c).2;have m:=MJ e i hi;have f:=MI e c;have f: -4294967296<=(kE r i).1*(jD r i).2.1-(kE r i).2.1*(jD r i).1/\(kE r i).1*(jD r i).2.1-(kE r i).2.1*(jD r i).1<=4294967296:=f;show nD (CS r i) _;(repeat'((conv=>whnf);first|refine Zg fun _=>?_|refine Zn ?_|apply pI|apply pJ|fail));refine ⟨(i+1:Nat),rfl,c,?_⟩;exact ZE
 subst g;exact ZF
theorem PR {r:List Sid}{x y:Int}{i:Nat}(h:N0 r x y i):(¬pD r x y i=true)↔pD r x y (i+1)=true:=by
 rw[pD,aE h];cases pD r x y i<;>simp
theorem T1 {r:List Sid}{x y:Int}{i:Nat}(h:¬N0 r x y i):pD r x y i=true↔pD r x y (i+1)=true:=by
 rw[pD,aD h]
def c4075:Con:=aV 160 true fun | [.seq (.pair (.int .i64) (.pair (.int .i64) (.pair (.int .i64) (.pair (.int .i64) (.pair .bool (.pair (.int .i64) (.int .i64))))))) r,.agg [.val (.int .i64 x),.val (.int .i64 y)]],K=>Need (length (α:=Sid) r<=1000000/\Ei r) (K (.bl (pD r x y (length (α:=Sid) r)=true) inferInstance)) | _,_=>False
theorem k4075:aM Tp c4075:=by
 refine kQ { asks:=[(0,[])] } func160 ntmps160 (kc AI (kc AJ (kc Nx (kc MF kn)))) fun _ _ h=>?_;split at h;case h_2=>cases h
 rename_i r x y;change List Sid at r;refine kb h.go ?_;replace h:=h.ok;obtain ⟨A,g⟩:=h;refine Ask.mk ⟨{ X:=Nat,pre:=fun i=>i<=r.length,mod:=fun _ _=>[],heap:=fun i _=>[.cells [I x,I y] 184,.cells [.bl (pD r x y i=true) inferInstance] 4],mu:=fun i=>i },rfl,?_⟩;(repeat refine ZG ?_);refine ⟨⟨(0:Nat),rfl,aF _,by ((repeat' first|exact trivial|rfl|apply aA);all_goals exact fun h=>by cases h)⟩,fun (i:Nat) hi (c:i<r.length)=>?_,fun (i:Nat) hi (o:i=r.length)=>?_⟩
 ·have hi:i<=r.length:=hi;have z:=(HG g c).2;show nD (CS r i) _;by_cases e:N0 r x y i
  ·have s:=PR e;obtain ⟨B,C,D⟩:=e;(repeat' first|refine ZR ?_|refine Zg fun _=>?_);refine ⟨(i+1:Nat),rfl,c,?_⟩;exact ZEx s
  have f:=T1 e;by_cases m:(jD r i).1-(kE r i).1=0
  ·by_cases n:x<(kE r i).1
   ·have u:¬ ¬((y<(kE r i).2.1)↔(y<(jD r i).2.1)):=fun q=>e ⟨m,n,q⟩;(repeat' first|refine ZR ?_|refine Zg fun _=>?_);refine ⟨(i+1:Nat),rfl,c,?_⟩;exact ZEx f
   (repeat' first|refine ZR ?_|refine Zg fun _=>?_);refine ⟨(i+1:Nat),rfl,c,?_⟩;exact ZEx f
  (repeat' first|refine ZR ?_|refine Zg fun _=>?_);refine ⟨(i+1:Nat),rfl,c,?_⟩;exact ZEx f
 subst o;(conv=>whnf)
abbrev tPr:Ty:=.pair (.int .i64) (.int .i64)
def Vn (R:List (List Sid)):Prop:=R.length<=1000000/\fU R R.length<=24/\∀m,m<R.length->Ei (R.getD m [])
theorem Fv {R:List (List Sid)}(h:Vn R){m:Nat}(c:m<R.length):fU R m+(R.getD m []).length<=24:=by
 have:=Ap R (show m+1<=R.length by omega);rw[fU] at this;have:=h.2.1;omega
def c4031:Con:=aV 105 true fun | [.seq (.slice (.pair (.int .i64) (.pair (.int .i64) (.pair (.int .i64) (.pair (.int .i64) (.pair .bool (.pair (.int .i64) (.int .i64)))))))) R],K=>Need (Vn R) (K (.bl (NZ R) Cp)) | _,_=>False
theorem k4031:aM Tp c4031:=by
 refine kQ { asks:=[(0,[0,2]),(2,[0,2]),(4,[]),(6,[])] } func105 ntmps105 (kc AI (kc AJ (kc k4072 (kc k4073 kn)))) fun _ _ h=>?_;split at h;case h_2=>cases h
 rename_i R;change List (List Sid) at R;refine kb h.go ?_;replace h:=h.ok;have a6:R.length<=1000000:=h.1;(repeat'((conv=>whnf);first|refine Zg fun _=>?_|fail));refine Ask.mk ⟨{ X:=Nat,pre:=fun m=>m<=R.length,mod:=fun m _=>[(16,I m)],heap:=fun m _=>[.vec 1 tBx (Wc R m) 191,.cells [.ref 0 1] 188,.vec 1 tPr (Kl R m) 194,.cells [.ref 2 1] 189],objs:=[0,2],mu:=fun m=>R.length-m },rfl,?_⟩;(repeat refine ZG ?_);refine ⟨⟨(0:Nat),aF _,ZE⟩,fun (m:Nat) n=>?_⟩;have n:m<=R.length:=n;by_cases y:m<R.length
 ·have hc:=Fv h y;have C:∀i,(Wc R m++NY (R.getD m []) i).length=fU R m+i:=fun i=>by rw[aO,yE,Vj]
  have D:∀i,(Kl R m++L8 m i).length=fU R m+i:=fun i=>by rw[aO,yF,Vk]
  (repeat' first|refine ZR ?_|refine Zg fun _=>?_);refine Ask.mk ⟨{ X:=Nat,pre:=fun i=>i<=(R.getD m []).length,mod:=fun _ _=>[],heap:=fun i _=>[.vec 1 tBx (Wc R m++NY (R.getD m []) i) 191,.cells [.ref 0 1] 188,.vec 1 tPr (Kl R m++L8 m i) 194,.cells [.ref 2 1] 189,.cells [I m] 3],objs:=[0,2],mu:=fun i=>i },rfl,?_⟩;(repeat refine ZG ?_);refine ⟨⟨(0:Nat),rfl,aF _,by ((repeat' first|exact trivial|rfl|exact Nat.one_pos|apply aA);all_goals (simp[NY,L8];rfl))⟩,fun (i:Nat) hi (g:i<(R.getD m []).length)=>?_,fun (i:Nat) hi (he:i=(R.getD m []).length)=>?_⟩
  ·have hi:i<=(R.getD m []).length:=hi;have a0:=C i;have a1:=D i;have E:=(HG (h.2.2 m y) g).2;have q1:=yE R m;have q2:=Vj (R.getD m []) i;have q3:=yF R m;have q4:=Vk m i;show nD (CS (R.getD m []) i) _;(repeat'((conv=>whnf);first|refine Zg fun _=>?_|apply pI|apply pJ|(apply PinH.mk;apply aC;apply aC)|refine Zl ?_|fail));(conv=>whnf);refine Need.mk (by rw[dP];omega) ?_;(repeat'((conv=>whnf);first|refine Zn ?_|apply pI|apply pJ|exact Zf|refine Zc ?_ ?_|refine Zl ?_|fail));(conv=>whnf);refine Need.mk (by rw[dP];omega) ?_;(repeat'((conv=>whnf);first|apply pJ|exact Zf|fail));refine ⟨(i+1:Nat),rfl,g,?_⟩;(repeat' first|exact trivial|rfl|exact Nat.one_pos|apply aA);all_goals first | (rw[L9,<- bW];rfl) | (rw[MA,<- bW];rfl)
  subst he;(repeat refine ZR ?_);(conv=>whnf);refine ⟨(m+1:Nat),by show R.length-(m+1)<R.length-m;omega,y,?_⟩;exact ZE
 have e:m=R.length:=om;subst e;have hN:(Wc R R.length).length=fU R R.length:=yE R _;have Z:(Kl R R.length).length=fU R R.length:=yF R _;have a5:=h.2.1;have Y:NZ R↔¬ ∀i,i<fU R R.length->∀k,k<i->¬HE R i k:=cJ;generalize NZ R=M at*;(repeat' first|refine ZR ?_|refine Zg fun _=>?_);refine Ask.mk ⟨{ X:=Nat,pre:=fun i=>i<=fU R R.length/\∀j,j<i->∀k,k<j->¬HE R j k,mod:=fun i _=>[(39,I i)],heap:=fun i H=>H,mu:=fun i=>fU R R.length-i },rfl,?_⟩;(repeat refine ZG ?_);refine ⟨⟨(0:Nat),⟨aF _,fun j x=>absurd x om⟩,ZE⟩,fun (i:Nat) hi=>?_⟩;obtain ⟨hi,A⟩:=hi;by_cases g:i<fU R R.length
 ·(repeat refine ZR ?_);refine Ask.mk ⟨{ X:=Nat,pre:=fun k=>k<=i/\∀j,j<k->¬HE R i j,mod:=fun k _=>[(43,I k)],heap:=fun i H=>H,mu:=fun k=>i-k },rfl,?_⟩;(repeat refine ZG ?_);refine ⟨⟨(0:Nat),⟨aF _,fun j x=>absurd x om⟩,ZE⟩,fun (k:Nat) E=>?_⟩;obtain ⟨E,o⟩:=E;by_cases s:k<i
  ·obtain ⟨a,b,e1,ha,hb⟩:=Vl R R.length _ (show (Kl R R.length).getD i (0,0)∈Kl R R.length by simp[aB,Z,g]);obtain ⟨c,d,e2,hc,hd⟩:=Vl R R.length _ (show (Kl R R.length).getD k (0,0)∈Kl R R.length by simp[aB,Z,show k<fU R R.length by omega]);have a7:=Fv h ha;have a8:=Fv h hc;have B:((Kl R R.length).getD i (0,0)).1=(a:Int):=by rw[e1]
   have a2:((Kl R R.length).getD i (0,0)).2=(b:Int):=by rw[e1]
   have a3:((Kl R R.length).getD k (0,0)).1=(c:Int):=by rw[e2]
   have a4:((Kl R R.length).getD k (0,0)).2=(d:Int):=by rw[e2]
   have f:HE R i k↔¬((a:Int)=c/\((b:Int)-d=1\/(b:Int)-d=((R.getD a []).length:Int)-1))/\zG ((Wc R R.length).getD i PO) ((Wc R R.length).getD k PO):=by
    unfold HE XR;rw[e1,e2];exact cJ
   (repeat' first|refine ZR ?_|refine Zg fun _=>?_);refine Kk a B ?_;have u:HE R i k->M:=fun q=>Y.2 fun h=>h i g k s q;by_cases F:(a:Int)=c
   ·by_cases K:(b:Int)-d=1
    ·have z:¬HE R i k:=fun q=>(f.1 q).1 ⟨F,.inl K⟩;(repeat'((conv=>whnf);first|refine Zg fun _=>?_|refine Zn ?_|refine Zj ?_|apply pI|apply pJ|refine Zy ?_|fail));refine ⟨(k+1:Nat),by show i-(k+1)<i-k;omega,⟨s,fun j x=>?_⟩,ZE⟩;by_cases e:j=k
     ·subst e;exact z
     exact o j om
    by_cases W:(b:Int)-d=((R.getD a []).length:Int)-1
    ·have z:¬HE R i k:=fun q=>(f.1 q).1 ⟨F,.inr W⟩;(repeat'((conv=>whnf);first|refine Zg fun _=>?_|refine Zn ?_|refine Zj ?_|apply pI|apply pJ|refine Zy ?_|refine Zm ?_|fail));refine ⟨(k+1:Nat),by show i-(k+1)<i-k;omega,⟨s,fun j x=>?_⟩,ZE⟩;by_cases e:j=k
     ·subst e;exact z
     exact o j om
    by_cases n:zG ((Wc R R.length).getD i PO) ((Wc R R.length).getD k PO)
    ·have J:=u (f.2 ⟨fun q=>q.2.elim K W,n⟩);unfold zG at n;(repeat'((conv=>whnf);first|refine Zg fun _=>?_|refine Zn ?_|refine Zj ?_|apply pI|apply pJ|refine Zy ?_|refine Zm ?_|fail));(conv=>whnf);exact J
    have z:¬HE R i k:=fun q=>n (f.1 q).2;unfold zG at n;(repeat'((conv=>whnf);first|refine Zg fun _=>?_|refine Zn ?_|refine Zj ?_|apply pI|apply pJ|refine Zy ?_|refine Zm ?_|fail));refine ⟨(k+1:Nat),by show i-(k+1)<i-k;omega,⟨s,fun j x=>?_⟩,ZE⟩;by_cases e:j=k
    ·subst e;exact z
    exact o j om
   by_cases n:zG ((Wc R R.length).getD i PO) ((Wc R R.length).getD k PO)
   ·have J:=u (f.2 ⟨fun q=>F q.1,n⟩);unfold zG at n;(repeat'((conv=>whnf);first|refine Zg fun _=>?_|refine Zn ?_|refine Zj ?_|apply pI|apply pJ|refine Zy ?_|refine Zm ?_|fail));(conv=>whnf);exact J
   have z:¬HE R i k:=fun q=>n (f.1 q).2;unfold zG at n;(repeat'((conv=>whnf);first|refine Zg fun _=>?_|refine Zn ?_|refine Zj ?_|apply pI|apply pJ|refine Zm ?_|fail));refine ⟨(k+1:Nat),by show i-(k+1)<i-k;omega,⟨s,fun j x=>?_⟩,ZE⟩;by_cases e:j=k
   ·subst e;exact z
   exact o j om
  have e:k=i:=om;subst e;(repeat refine ZR ?_);refine ⟨(k+1:Nat),by show fU R R.length-(k+1)<fU R R.length-k;omega,⟨g,fun j x=>?_⟩,ZE⟩;by_cases e:j=k
  ·subst e;exact o
  exact A j om
 have e:i=fU R R.length:=om;subst e;(repeat refine ZR ?_);(conv=>whnf);exact fun q=>Y.1 q A
theorem Cb {R:List (List Sid)}(h:Vn R){m:Nat}(c:m<R.length):length (α:=Sid) (R.getD m [])<=1000000/\Ei (R.getD m []):=⟨by have:=Fv h c;show (R.getD m []).length<=1000000;omega,h.2.2 m c⟩
def c4032:Con:=aV 106 true fun | [.seq (.slice (.pair (.int .i64) (.pair (.int .i64) (.pair (.int .i64) (.pair (.int .i64) (.pair .bool (.pair (.int .i64) (.int .i64)))))))) R],K=>Need (Vn R/\∀m,m<R.length->0<(R.getD m []).length) (K (.bl (Vm R) Cp)) | _,_=>False
theorem k4032:aM Tp c4032:=by
 refine kQ { asks:=[(0,[]),(2,[])] } func106 ntmps106 (kc Nx (kc k4074 (kc k4075 kn))) fun _ _ h=>?_;split at h;case h_2=>cases h
 rename_i R;change List (List Sid) at R;refine kb h.go ?_;replace h:=h.ok;obtain ⟨h,x⟩:=h;have a0:R.length<=1000000:=h.1;have E:Vm R↔∀i,i<R.length->VF R i:=cJ;generalize Vm R=M at*;(repeat'((conv=>whnf);first|refine Zg fun _=>?_|fail));refine Ask.mk ⟨{ X:=Nat,pre:=fun i=>i<=R.length/\∀j,j<i->VF R j,mod:=fun i _=>[(9,I i)],heap:=fun i H=>H,mu:=fun i=>R.length-i },rfl,?_⟩;(repeat refine ZG ?_);refine ⟨⟨(0:Nat),⟨aF _,fun j s=>absurd s om⟩,ZE⟩,fun (i:Nat) hi=>?_⟩;obtain ⟨hi,u⟩:=hi;by_cases g:i<R.length
 ·have K:=Cb h g;have a2:=K.1;have a1:=K.2;have hp:=x i g;have n:¬VF R i->¬M:=fun q q2=>q (E.1 q2 i g);by_cases z:(0<Hh (R.getD i []) (R.getD i []).length)↔i=0
  ·have B:0<Hh (R.getD i []) (R.getD i []).length↔(i:Int)=0:=by rw[z];omega
   (repeat' first|refine ZR ?_|refine Zg fun _=>?_);refine Ask.mk ⟨{ X:=Nat,pre:=fun k=>k<=R.length/\(i=0\/∀j,j<k->j=i\/((pD (R.getD j []) ((R.getD i []).getD 0 qX).1 ((R.getD i []).getD 0 qX).2.1 (R.getD j []).length=true)↔j=0)),mod:=fun k _=>[(22,I k)],heap:=fun i H=>H,mu:=fun k=>R.length-k },rfl,?_⟩;(repeat refine ZG ?_);refine ⟨⟨(0:Nat),⟨aF _,.inr fun j s=>absurd s om⟩,ZE⟩,fun (k:Nat) F=>?_⟩;obtain ⟨F,c⟩:=F;by_cases m:k<R.length
   ·have y:=Cb h m;have W:=y.1;have J:=y.2;by_cases Y:k=i\/i=0
    ·have Z:(k:Int)=i\/(i:Int)=0:=om;have f:k+1<=R.length/\(i=0\/∀j,j<k+1->j=i\/((pD (R.getD j []) ((R.getD i []).getD 0 qX).1 ((R.getD i []).getD 0 qX).2.1 (R.getD j []).length=true)↔j=0)):=by
      refine ⟨m,?_⟩;rcases c with e | c
      ·exact .inl e
      rcases Y with e | e
      ·refine .inr fun j s=>?_;by_cases e2:j=k
       ·exact .inl (e2.trans e)
       exact c j om
      exact .inl e
     by_cases h3:(k:Int)=i
     ·(repeat' first|refine ZR ?_|refine Zg fun _=>?_);refine ⟨(k+1:Nat),by show R.length-(k+1)<R.length-k;omega,f,ZE⟩
     (repeat' first|refine ZR ?_|refine Zg fun _=>?_);refine ⟨(k+1:Nat),by show R.length-(k+1)<R.length-k;omega,f,ZE⟩
    have h4:¬(k:Int)=i:=om;have h5:¬(i:Int)=0:=om;have C:∀j,j<k->j=i\/((pD (R.getD j []) ((R.getD i []).getD 0 qX).1 ((R.getD i []).getD 0 qX).2.1 (R.getD j []).length=true)↔j=0):=c.resolve_left om;by_cases A:pD (R.getD k []) ((R.getD i []).getD 0 qX).1 ((R.getD i []).getD 0 qX).2.1 (R.getD k []).length=true↔k=0
    ·have o:pD (R.getD k []) ((R.getD i []).getD 0 qX).1 ((R.getD i []).getD 0 qX).2.1 (R.getD k []).length=true↔(k:Int)=0:=by rw[A];omega
     have o:=not_not_intro o;(repeat' first|refine ZR ?_|refine Zg fun _=>?_);refine ⟨(k+1:Nat),by show R.length-(k+1)<R.length-k;omega,⟨m,.inr fun j s=>?_⟩,ZE⟩;by_cases e2:j=k
     ·subst e2;exact .inr A
     exact C j om
    have D:=n fun q=>(q.2.resolve_left om k m).elim om A;have o:¬(pD (R.getD k []) ((R.getD i []).getD 0 qX).1 ((R.getD i []).getD 0 qX).2.1 (R.getD k []).length=true↔(k:Int)=0):=by
     intro q;apply A;rw[q];omega
    (repeat' first|refine ZR ?_|refine Zg fun _=>?_);(conv=>whnf);exact D
   have e:k=R.length:=om;subst e;(repeat refine ZR ?_);refine ⟨(i+1:Nat),by show R.length-(i+1)<R.length-i;omega,⟨g,fun j s=>?_⟩,ZE⟩;by_cases e2:j=i
   ·subst e2;exact ⟨z,c⟩
   exact u j om
  have D:=n fun q=>z q.1;have B:¬(0<Hh (R.getD i []) (R.getD i []).length↔(i:Int)=0):=by
   intro q;apply z;rw[q];omega
  (repeat' first|refine ZR ?_|refine Zg fun _=>?_);(conv=>whnf);exact D
 have e:i=R.length:=om;subst e;(repeat refine ZR ?_);(conv=>whnf);exact E.2 u
def AX (R:List (List Sid))(m:Nat):Prop:=∃a,a<m/\∃i,i<(R.getD a []).length/\¬(kE (R.getD a []) i).2.2.2.2.1=true
def HH (r:List Sid)(i:Nat):Prop:=∃j,j<i/\¬(kE r j).2.2.2.2.1=true
theorem MK (r:List Sid)(i:Nat):HH r (i+1)↔HH r i\/¬(kE r i).2.2.2.2.1=true:=by
 constructor
 ·rintro ⟨j,h1,h2⟩;by_cases e:j=i
  ·subst e;exact .inr h2
  exact .inl ⟨j,om,h2⟩
 rintro (⟨j,h1,h2⟩ | h)
 ·exact ⟨j,om,h2⟩
 exact ⟨i,om,h⟩
theorem ML (R:List (List Sid))(m:Nat):AX R (m+1)↔AX R m\/HH (R.getD m []) (R.getD m []).length:=by
 constructor
 ·rintro ⟨a,h1,i,h2,h3⟩;by_cases e:a=m
  ·subst e;exact .inr ⟨i,h2,h3⟩
  exact .inl ⟨a,om,i,h2,h3⟩
 rintro (⟨a,h1,h2⟩ | ⟨i,h1,h2⟩)
 ·exact ⟨a,om,h2⟩
 exact ⟨m,om,i,h1,h2⟩
theorem PS (R:List (List Sid)):AX R R.length↔Wd R:=by
 unfold AX Wd;constructor
 ·rintro ⟨a,h1,i,h2,h3⟩ h;exact h3 (h a h1 i h2)
 intro h;apply aS;intro e;exact h fun m c i hi=>aS fun q=>e ⟨m,c,i,hi,q⟩
def c4033:Con:=aV 107 true fun | [.seq (.slice (.pair (.int .i64) (.pair (.int .i64) (.pair (.int .i64) (.pair (.int .i64) (.pair .bool (.pair (.int .i64) (.int .i64)))))))) R],K=>Need (Vn R) (K (.bl (PP R/\Wd R) Cp)) | _,_=>False
theorem k4033:aM Tp c4033:=by
 refine kQ { asks:=[(0,[]),(2,[])] } func107 ntmps107 (kc AI (kc AJ (kc k4076 kn))) fun _ _ h=>?_;split at h;case h_2=>cases h
 rename_i R;change List (List Sid) at R;refine kb h.go ?_;replace h:=h.ok;have a5:R.length<=1000000:=h.1;have hM:(PP R/\Wd R)↔(∀m,m<R.length->∀i,i<(R.getD m []).length->¬FA (R.getD m []) i)/\AX R R.length:=by rw[PS];exact cJ
 generalize (PP R/\Wd R)=M at*;(repeat'((conv=>whnf);first|refine Zg fun _=>?_|fail));refine Ask.mk ⟨{ X:=Nat,pre:=fun m=>m<=R.length/\∀a,a<m->∀i,i<(R.getD a []).length->¬FA (R.getD a []) i,mod:=fun m _=>[(10,I m)],heap:=fun m _=>[.cells [.val (.bool false)] 4,.cells [.bl (AX R m) Cp] 4],mu:=fun m=>R.length-m },rfl,?_⟩;(repeat refine ZG ?_);refine ⟨⟨(0:Nat),⟨aF _,fun j W=>absurd W om⟩,by ((repeat' first|exact trivial|rfl|apply aA);all_goals (rintro ⟨a,h1,_⟩;omega))⟩,fun (m:Nat) hm=>?_⟩;obtain ⟨hm,B⟩:=hm;by_cases y:m<R.length
 ·have hr:=Cb h y;have a6:=hr.1;have a0:=hr.2;(repeat' first|refine ZR ?_|refine Zg fun _=>?_);refine Ask.mk ⟨{ X:=Nat,pre:=fun i=>i<=(R.getD m []).length/\∀j,j<i->¬FA (R.getD m []) j,mod:=fun _ _=>[],heap:=fun i _=>[.cells [.val (.bool false)] 4,.cells [.bl (AX R m\/HH (R.getD m []) i) Cp] 4],mu:=fun i=>i },rfl,?_⟩;(repeat refine ZG ?_);refine ⟨⟨(0:Nat),rfl,⟨aF _,fun j W=>absurd W om⟩,by ((repeat' first|exact trivial|rfl|apply aA);all_goals exact ⟨.inl,fun q=>q.elim id fun ⟨j,h1,_⟩=>absurd h1 om⟩)⟩,fun (i:Nat) hi (x:i<(R.getD m []).length)=>?_,fun (i:Nat) hi (he:i=(R.getD m []).length)=>?_⟩
  ·obtain ⟨hi,u⟩:=hi;have hk:=HG a0 x
   have c:¬FA (R.getD m []) i->i+1<=(R.getD m []).length/\∀j,j<i+1->¬FA (R.getD m []) j:=fun q=>⟨x,fun j W=>by
    by_cases e:j=i
    ·subst e;exact q
    exact u j om⟩
   have D:=MK (R.getD m []) i;have s:AX R m\/HH (R.getD m []) i->AX R m\/HH (R.getD m []) (i+1):=fun q=>q.imp_right fun q=>D.2 (.inl q);have C:¬(AX R m\/HH (R.getD m []) i)->(¬(kE (R.getD m []) i).2.2.2.2.1=true↔AX R m\/HH (R.getD m []) (i+1)):=fun q=>⟨fun F=>.inr (D.2 (.inr F)),fun F=>F.elim (fun q3=>absurd (.inl q3) q) fun q3=>(D.1 q3).elim (fun q4=>absurd (.inr q4) q) id⟩;have g:FA (R.getD m []) i->¬M:=fun q F=>(hM.1 F).1 m y i x q;have E:Jy (R.getD m []) i\/(¬Jy (R.getD m []) i/\¬(kE (R.getD m []) i).2.2.2.2.1=true/\¬(Dd (R.getD m []) i).2.2.2.2.1=true/\(kE (R.getD m []) i).2.2.2.2.2.1=(Dd (R.getD m []) i).2.2.2.2.2.1)\/(¬Jy (R.getD m []) i/\(kE (R.getD m []) i).2.2.2.2.1=true)\/(¬Jy (R.getD m []) i/\¬(kE (R.getD m []) i).2.2.2.2.1=true/\(Dd (R.getD m []) i).2.2.2.2.1=true)\/(¬Jy (R.getD m []) i/\¬(kE (R.getD m []) i).2.2.2.2.1=true/\¬(Dd (R.getD m []) i).2.2.2.2.1=true/\¬(kE (R.getD m []) i).2.2.2.2.2.1=(Dd (R.getD m []) i).2.2.2.2.2.1):=by
    by_cases z:Jy (R.getD m []) i
    ·exact .inl z
    by_cases J:(kE (R.getD m []) i).2.2.2.2.1=true
    ·exact .inr (.inr (.inl ⟨z,J⟩))
    by_cases Y:(Dd (R.getD m []) i).2.2.2.2.1=true
    ·exact .inr (.inr (.inr (.inl ⟨z,J,Y⟩)))
    by_cases a4:(kE (R.getD m []) i).2.2.2.2.2.1=(Dd (R.getD m []) i).2.2.2.2.2.1
    ·exact .inr (.inl ⟨z,J,Y,a4⟩)
    exact .inr (.inr (.inr (.inr ⟨z,J,Y,a4⟩)))
   unfold Jy at E;show nD (CS (R.getD m []) i) _;rcases E with o | ⟨o,A,K,Z⟩ | ⟨o,A⟩ | ⟨o,A,K⟩ | ⟨o,A,K,Z⟩
   ·have f:¬FA (R.getD m []) i:=fun q=>q.1 o;by_cases n:AX R m\/HH (R.getD m []) i
    ·(repeat' first|refine ZR ?_|refine Zg fun _=>?_);refine ⟨(i+1:Nat),rfl,c f,?_⟩;exact ZEx (s n)
    (repeat' first|refine ZR ?_|refine Zg fun _=>?_);refine ⟨(i+1:Nat),rfl,c f,?_⟩;exact ZEx (C n)
   ·have f:¬FA (R.getD m []) i:=fun q=>q.2.elim A fun q=>q.elim K fun q=>q Z;by_cases n:AX R m\/HH (R.getD m []) i
    ·(repeat' first|refine ZR ?_|refine Zg fun _=>?_);refine ⟨(i+1:Nat),rfl,c f,?_⟩;exact ZEx (s n)
    (repeat' first|refine ZR ?_|refine Zg fun _=>?_);refine ⟨(i+1:Nat),rfl,c f,?_⟩;exact ZEx (C n)
   ·have f:FA (R.getD m []) i:=⟨o,.inl A⟩;by_cases n:AX R m\/HH (R.getD m []) i
    ·(repeat' first|refine ZR ?_|refine Zg fun _=>?_);(conv=>whnf);exact g f
    (repeat' first|refine ZR ?_|refine Zg fun _=>?_);(conv=>whnf);exact g f
   ·have f:FA (R.getD m []) i:=⟨o,.inr (.inl K)⟩;by_cases n:AX R m\/HH (R.getD m []) i
    ·(repeat' first|refine ZR ?_|refine Zg fun _=>?_);(conv=>whnf);exact g f
    (repeat' first|refine ZR ?_|refine Zg fun _=>?_);(conv=>whnf);exact g f
   have f:FA (R.getD m []) i:=⟨o,.inr (.inr Z)⟩;by_cases n:AX R m\/HH (R.getD m []) i
   ·(repeat' first|refine ZR ?_|refine Zg fun _=>?_);(conv=>whnf);exact g f
   (repeat' first|refine ZR ?_|refine Zg fun _=>?_);(conv=>whnf);exact g f
  obtain ⟨hi,u⟩:=hi;subst he;have D:=ML R m;(repeat refine ZR ?_);refine ⟨(m+1:Nat),by show R.length-(m+1)<R.length-m;omega,⟨y,fun a ha=>?_⟩,?_⟩
  ·by_cases e:a=m
   ·subst e;exact u
   exact B a om
  exact ZEx D.symm
 have e:m=R.length:=om;subst e;(repeat refine ZR ?_);(conv=>whnf);exact ⟨fun q=>hM.2 ⟨B,q⟩,fun q=>(hM.1 q).2⟩
section
variable {α:Type} (p:α->Prop)
noncomputable local instance:DecidablePred p:=fun s=>Classical.propDecidable (p s)
def MB (l:List α):Int:=if l.findIdx (fun s=>decide (p s))<l.length then (l.findIdx (fun s=>decide (p s)):Int) else -1
theorem CQ {l:List α}(d:α){i:Nat}(hi:i<l.length)(f:p (l.getD i d))(h:∀j,j<i->¬p (l.getD j d)):MB p l=i:=by
 have e:l.findIdx (fun s=>decide (p s))=i:=by
  rw[List.findIdx_eq hi];refine ⟨?_,fun j g=>?_⟩
  ·have:l[i]=l.getD i d:=by simp[aB,hi]
   rw[this];exact vD f
  have c:j<l.length:=om;have:l[j]=l.getD j d:=by simp[aB,c]
  rw[this];exact decide_eq_false (h j g)
 unfold MB;rw[e,aE hi]
theorem CR {l:List α}(d:α)(h:∀j,j<l.length->¬p (l.getD j d)):MB p l= -1:=by
 have e:l.findIdx (fun s=>decide (p s))=l.length:=by
  rw[List.findIdx_eq_length];intro x f;obtain ⟨j,c,rfl⟩:=iX.1 f;have:l[j]=l.getD j d:=by simp[aB,c]
  rw[this];exact decide_eq_false (h j c)
 unfold MB;rw[e,aD om]
theorem Km (l:List α)(d:α):0<=MB p l↔∃j,j<l.length/\p (l.getD j d):=by
 constructor
 ·intro h;apply aS;intro f;rw[CR p d (fun j e q=>f ⟨j,e,q⟩)] at h;omega
 intro h;have:∃i,i<l.length/\p (l.getD i d)/\∀j,j<i->¬p (l.getD j d):=by
  obtain ⟨j,e,g⟩:=h
  induction j using Nat.strongRecOn with
  | _ j ih=>
   by_cases q:∃i,i<j/\p (l.getD i d)
   ·obtain ⟨i,hi,c⟩:=q;exact ih i hi om c
   exact ⟨j,e,g,fun i hi c=>q ⟨i,hi,c⟩⟩
 obtain ⟨i,hi,g,f⟩:=this;rw[CQ p d hi g f];omega
end
theorem b4065 (n:Int)(h:0<=n/\n<=1000000):wG Tp [] {} Tryz.f150 [.val (.slice none 0 0),I n] (.ref 0 1) Hd [] 48:=by
 (apply Br.mk<;>intro)
 ·omega
 (repeat refine ZG ?_);(apply Br.mk<;>intro)
 ·exact ZGF
 skip;exact ZF
def c4065:Con:=sU 150 fun args K=>match args with | [.val (.slice none 0 0),.val (.int .i64 n)]=>Need (0<=n/\n<=1000000) (K (.ref 0 1) (.vec 1 (qd) ([]) 48)) | _=>False
theorem k4065:aM Tp c4065:=by
 refine nJ (enters_of Tryz.func150 kr rfl) ?_;intro e K h;split at h
 ·rename_i n;exact ⟨_,_,_,_,_,h.go,fun c=>gJ si Tryz.func150 (by simp[Tryz.ntmps150]) c (b4065 n h.ok)⟩
 cases h
theorem AH (R:List (List Sid)):∀m,m<=R.length->(R.take m).flatten.length=fU R m
 | 0,_=>by simp[fU]
 | m+1,h=>by
  have e:R.take (m+1)=R.take m++ [R.getD m []]:=by
   rw[cI om];congr 2
   simp[aB,show m<R.length by omega]
  rw[e,List.flatten_append,aO,AH R m om,fU];simp
theorem PQ (R:List (List Sid)){m:Nat}(h:m<R.length):(R.take (m+1)).flatten=(R.take m).flatten++R.getD m []:=by
 have e:R.take (m+1)=R.take m++ [R.getD m []]:=by
  rw[cI h];congr 2
  simp[aB,h]
 rw[e,List.flatten_append];simp
def c4025:Con:=aV 99 true fun | [.seq (.slice (.pair (.int .i64) (.pair (.int .i64) (.pair (.int .i64) (.pair (.int .i64) (.pair .bool (.pair (.int .i64) (.int .i64)))))))) R],K=>Need (R.length<=1000000/\fU R R.length<=24) (K (.seq qd R.flatten)) | _,_=>False
theorem SK:aM Tp c4025:=by
 refine kQ { asks:=[(0,[]),(2,[1])] } Tryz.func99 Tryz.ntmps99 (kc k4065 kn) fun _ _ h=>?_;split at h;case h_2=>cases h
 rename_i R;change List (List Sid) at R;refine kb h.go ?_;replace h:=h.ok;obtain ⟨n,x⟩:=h;(repeat'((conv=>whnf);first|refine Zg fun _=>?_|fail));refine Ask.mk ⟨{ X:=Nat,pre:=fun m=>m<=R.length,mod:=fun m _=>[(3,I (fU R m)),(11,I m)],heap:=fun i H=>H,mu:=fun m=>R.length-m },rfl,?_⟩;(repeat refine ZG ?_);refine ⟨⟨(0:Nat),aF _,ZE⟩,fun (m:Nat) f=>?_⟩;have f:m<=R.length:=f;by_cases c:m<R.length
 ·have g:fU R (m+1)=fU R m+(R.getD m []).length:=rfl;have y:=Ap R (show m+1<=R.length by omega);(repeat' first|refine ZR ?_|refine Zg fun _=>?_);refine ⟨(m+1:Nat),by show R.length-(m+1)<R.length-m;omega,c,?_⟩;exact ZE
 have e:m=R.length:=om;subst e;(repeat' first|refine ZR ?_|refine Zg fun _=>?_);refine Ask.mk ⟨{ X:=Nat,pre:=fun m=>m<=R.length,mod:=fun m _=>[(6,.ref 1 1),(27,I m)],objs:=[1],heap:=fun m H=>[bX H 0,.vec 1 Hd (R.take m).flatten 48],mu:=fun m=>R.length-m },rfl,?_⟩;(repeat refine ZG ?_);refine ⟨⟨(0:Nat),aF _,ZE⟩,fun (m:Nat) f=>?_⟩;have f:m<=R.length:=f;by_cases c:m<R.length
 ·have g:=PQ R c;have o:=AH R m f;have s:fU R (m+1)=fU R m+(R.getD m []).length:=rfl;have u:=Ap R (show m+1<=R.length by omega);(repeat' first|refine ZR ?_|refine Zg fun _=>?_);refine ⟨(m+1:Nat),by show R.length-(m+1)<R.length-m;omega,c,?_⟩;exact ZEx g.symm
 have e:m=R.length:=om;subst e;(repeat refine ZR ?_);(conv=>whnf);rw[cG]
def Ar (s:Sid):Prop:=¬Dz s
def c4064:Con:=aV 149 true fun | [.seq (.pair (.int .i64) (.pair (.int .i64) (.pair (.int .i64) (.pair (.int .i64) (.pair .bool (.pair (.int .i64) (.int .i64))))))) l,.clo 100 [] []],K=>K (I (MB Ar l)) | _,_=>False
theorem k4064:aM Tp c4064:=by
 refine kQ { asks:=[(0,[])] } Tryz.func149 Tryz.ntmps149 (kc k4026 kn) fun _ _ h=>?_;split at h;case h_2=>cases h
 rename_i l;change List Sid at l;refine kb h ?_;(repeat'((conv=>whnf);first|refine Zg fun _=>?_|fail));refine Ask.mk ⟨{ X:=Nat,pre:=fun i=>i<=l.length/\∀j,j<i->¬Ar (l.getD j qX),mod:=fun i _=>[(8,I i)],heap:=fun i H=>H,mu:=fun i=>l.length-i },rfl,?_⟩;(repeat refine ZG ?_);refine ⟨⟨(0:Nat),⟨aF _,fun j n=>om⟩,ZE⟩,fun (i:Nat) hi=>?_⟩;obtain ⟨hi,m⟩:=hi;by_cases c:i<l.length
 ·by_cases f:Ar (l.getD i qX)
  ·rw[CQ Ar qX c f m];unfold Ar Dz at f;exact ZRF
  have g:=f;unfold Ar Dz at f;(repeat' first|refine ZR ?_|refine Zg fun _=>?_);refine ⟨(i+1:Nat),by show l.length-(i+1)<l.length-i;omega,⟨c,fun j n=>?_⟩,ZE⟩;by_cases e:j=i
  ·subst e;exact g
  exact m j om
 have e:i=l.length:=om;subst e;rw[CR Ar qX m];exact ZRF
def c4024:Con:=aV 98 true fun | [.seq (.pair (.int .i64) (.pair (.int .i64) (.pair (.int .i64) (.pair (.int .i64) (.pair .bool (.pair (.int .i64) (.int .i64))))))) l,.clo 100 [] []],K=>K (.bl (0<=MB Ar l) inferInstance) | _,_=>False
theorem k4024:aM Tp c4024:=by
 refine kQ {} Tryz.func98 Tryz.ntmps98 (kc k4064 kn) fun _ _ h=>?_;split at h;case h_2=>cases h
 refine kb h ?_;(conv=>whnf)
def Nw (r:List Sid):Prop:=¬Ea r
def c4067:Con:=aV 152 true fun | [.seq (.slice (.pair (.int .i64) (.pair (.int .i64) (.pair (.int .i64) (.pair (.int .i64) (.pair .bool (.pair (.int .i64) (.int .i64)))))))) R,.clo 103 [] []],K=>Need (Vn R) (K (I (MB Nw R))) | _,_=>False
theorem k4067:aM Tp c4067:=by
 refine kQ { asks:=[(0,[])] } Tryz.func152 Tryz.ntmps152 (kc k4029 kn) fun _ _ h=>?_;split at h;case h_2=>cases h
 rename_i R;change List (List Sid) at R;refine kb h.go ?_;replace h:=h.ok;(repeat'((conv=>whnf);first|refine Zg fun _=>?_|fail));refine Ask.mk ⟨{ X:=Nat,pre:=fun i=>i<=R.length/\∀j,j<i->¬Nw (R.getD j []),mod:=fun i _=>[(8,I i)],heap:=fun i H=>H,mu:=fun i=>R.length-i },rfl,?_⟩;(repeat refine ZG ?_);refine ⟨⟨(0:Nat),⟨aF _,fun j n=>om⟩,ZE⟩,fun (i:Nat) hi=>?_⟩;obtain ⟨hi,m⟩:=hi;by_cases c:i<R.length
 ·have o:=Cb h c;by_cases f:Nw (R.getD i [])
  ·rw[CQ Nw [] c f m];unfold Nw at f;exact ZRF
  have g:=f;unfold Nw at f;(repeat' first|refine ZR ?_|refine Zg fun _=>?_);refine ⟨(i+1:Nat),by show R.length-(i+1)<R.length-i;omega,⟨c,fun j n=>?_⟩,ZE⟩;by_cases e:j=i
  ·subst e;exact g
  exact m j om
 have e:i=R.length:=om;subst e;rw[CR Nw [] m];exact ZRF
def c4028:Con:=aV 102 true fun | [.seq (.slice (.pair (.int .i64) (.pair (.int .i64) (.pair (.int .i64) (.pair (.int .i64) (.pair .bool (.pair (.int .i64) (.int .i64)))))))) R,.clo 103 [] []],K=>Need (Vn R) (K (.bl (0<=MB Nw R) inferInstance)) | _,_=>False
theorem k4028:aM Tp c4028:=by
 refine kQ {} Tryz.func102 Tryz.ntmps102 (kc k4067 kn) fun _ _ h=>?_;split at h;case h_2=>cases h
 refine kb h.go ?_;replace h:=h.ok;(repeat refine ZR ?_);(conv=>whnf)
theorem Hi {α:Type}{l:List α}{x:α}(d:α)(h:x∈l):∃j,j<l.length/\l.getD j d=x:=by
 obtain ⟨j,c,e⟩:=iX.1 h;exact ⟨j,c,by simp[aB,c,e]⟩
theorem Kn {α:Type}{l:List α}{j:Nat}(d:α)(h:j<l.length):l.getD j d∈l:=by simp[aB,h]
def c4006:Con:=aV 50 true fun | [.agg [.seq (.slice (.pair (.int .i64) (.pair (.int .i64) (.pair (.int .i64) (.pair (.int .i64) (.pair .bool (.pair (.int .i64) (.int .i64)))))))) R]],K=>Need (R.length<=40) (K (I (planE R))) | _,_=>False
theorem SL:aM Tp c4006:=by
 refine kQ { asks:=[(0,[])] } Tryz.func50 Tryz.ntmps50 (kc SK (kc k4024 (kc k4028 (kc k4031 (kc k4032 (kc k4033 kn)))))) fun _ _ h=>?_;split at h;case h_2=>cases h
 rename_i R;change List (List Sid) at R;refine kb h.go ?_;replace h:=h.ok;(repeat'((conv=>whnf);first|refine Zg fun _=>?_|fail));refine Ask.mk ⟨{ X:=Nat,pre:=fun m=>m<=R.length/\fU R m<=m*140737488355328/\∀j,j<m->(R.getD j []).length≠0,mod:=fun m _=>[(3,I (fU R m)),(9,I m)],heap:=fun i H=>H,mu:=fun m=>R.length-m },rfl,?_⟩;(repeat refine ZG ?_);refine ⟨⟨(0:Nat),⟨aF _,aF _,fun j c=>absurd c om⟩,ZE⟩,fun (m:Nat) o=>?_⟩;obtain ⟨o,hc,E⟩:=o;by_cases y:m<R.length
 ·have u:fU R (m+1)=fU R m+(R.getD m []).length:=rfl;by_cases B:(R.getD m []).length=0
  ·have e:planE R=5:=by unfold planE;rw[aE ⟨_,Kn [] y,B⟩]
   rw[e];exact ZRF
  (repeat' first|refine ZR ?_|refine Zg fun _=>?_);refine ⟨(m+1:Nat),by show R.length-(m+1)<R.length-m;omega,⟨y,om,fun j c=>?_⟩,ZE⟩;by_cases e:j=m
  ·subst e;exact B
  exact E j om
 have e:m=R.length:=om;subst e;have z:¬ ∃r∈R,r.length=0:=by
  rintro ⟨r,hr,B⟩;obtain ⟨j,c,rfl⟩:=Hi [] hr;exact E j c B
 by_cases A:fU R R.length=0
 ·have e:planE R=5:=by unfold planE;rw[aD z,aE A]
  rw[e];exact ZRF
 by_cases C:24<fU R R.length
 ·have e:planE R=4:=by unfold planE;rw[aD z,aD A,aE C]
  rw[e];exact ZRF
 have x:R.length<=1000000/\fU R R.length<=24:=⟨om,om⟩;by_cases Y:0<=MB Ar R.flatten
 ·have e:planE R=2:=by
   unfold planE;rw[aD z,aD A,aD C,aE];obtain ⟨j,c,g⟩:=(Km Ar _ qX).1 Y;exact ⟨_,Kn qX c,g⟩
  rw[e];exact ZRF
 have n:¬ ∃s∈R.flatten,¬Dz s:=by
  rintro ⟨s,u,g⟩;obtain ⟨j,c,rfl⟩:=Hi qX u;exact Y ((Km Ar _ qX).2 ⟨j,c,g⟩)
 have D:Vn R:=⟨x.1,x.2,fun m o=>MH fun s u=>aS fun q=>n ⟨s,List.mem_flatten.2 ⟨_,Kn [] o,u⟩,q⟩⟩;have W:Vn R/\∀m,m<R.length->0<(R.getD m []).length:=⟨D,fun m o=>by have:=E m o;omega⟩;by_cases Z:0<=MB Nw R
 ·have e:planE R=14:=by
   unfold planE;rw[aD z,aD A,aD C,aD n,aE];obtain ⟨j,c,g⟩:=(Km Nw _ []).1 Z;exact ⟨_,Kn [] c,g⟩
  rw[e];exact ZRF
 have F:¬ ∃r∈R,¬Ea r:=by
  rintro ⟨s,u,g⟩;obtain ⟨j,c,rfl⟩:=Hi [] u;exact Z ((Km Nw _ []).2 ⟨j,c,g⟩)
 have f:planE R=if NZ R then 15 else if ¬Vm R\/¬PP R\/¬Wd R then 14 else 0:=by
  unfold planE;rw[aD z,aD A,aD C,aD n,aD F]
 by_cases p6:NZ R
 ·rw[aE p6] at f;rw[f];exact ZRF
 rw[aD p6] at f;by_cases p7:Vm R
 ·by_cases J:PP R/\Wd R
  ·rw[aD (fun q=>q.elim (fun q=>q p7) fun q=>q.elim (fun q=>q J.1) fun q=>q J.2)] at f;rw[f];exact ZRF
  rw[aE (.inr (aS fun q=>J ⟨aS fun K=>q (.inl K),aS fun K=>q (.inr K)⟩))] at f;rw[f];exact ZRF
 rw[aE (.inl p7)] at f;rw[f];exact ZRF
def MC (R:List (List Sid)):List Sid:=if planE R=0 then R.flatten else []
def MD (R:List (List Sid)):Int:=if planE R=0 then 0 else 1
def c4008:Con:=aV 109 false fun | [.agg [.seq (.slice (.pair (.int .i64) (.pair (.int .i64) (.pair (.int .i64) (.pair (.int .i64) (.pair .bool (.pair (.int .i64) (.int .i64)))))))) R]],K=>Need (R.length<=40) (K (.tup [.seq qd (MC R),I (MD R)])) | _,_=>False
theorem k4008:aM Tp c4008:=by
 refine kQ {} Tryz.func109 Tryz.ntmps109 (kc SL (kc SK kn)) fun _ _ h=>?_;split at h;case h_2=>cases h
 rename_i R;change List (List Sid) at R;refine kb h.go ?_;replace h:=h.ok;unfold MC MD;by_cases c:planE R=0
 ·have e:R.length<=1000000/\fU R R.length<=24:=⟨om,(Aq c).2.2.1⟩;rw[aE c,aE c];exact ZRF
 rw[aD c,aD c];exact ZRF
theorem Rd (R:List (List Sid)):∀m,m<=R.length->length (α:=Sid) (R.take m).flatten=fU R m
 | 0,_=>rfl
 | m+1,h=>by
  rw[cI om,List.flatten_append,aO,Rd R m om,fU];simp[aB,show m<R.length by omega]
theorem GX (R:List (List Sid)):length (α:=Sid) R.flatten=fU R R.length:=by
 have:=Rd R R.length (aI _);rwa [cG] at this
def c5055:Con:=aV 55 true fun | [.agg [.seq (.slice (.pair (.int .i64) (.pair (.int .i64) (.pair (.int .i64) (.pair (.int .i64) (.pair .bool (.pair (.int .i64) (.int .i64)))))))) R],.seq (.pair (.int .i64) (.pair .str (.pair .str (.pair .str .str)))) l],K=>Need (length (α:=List Sid) R<=40) (K (I (vE R l))) | _,_=>False
theorem k5055:aM Tp c5055:=by
 refine kQ {} Tryz.func55 Tryz.ntmps55 (kc k5108 (kc k4008 (kc k5110 kn))) fun _ _ h=>?_;split at h;case h_2=>cases h
 rename_i R l;change List (List Sid) at R;change List Opn at l;refine kb h.go ?_;replace h:=h.ok;have e:vE R l=if disE l=0 then (if planE R=0 then (if ∀i,i<length (α:=Opn) l->gL (getD (α:=Opn) l i kG).1 0 ((fU R R.length:Int)-1) then (open Classical in if nO l then 0 else 28) else 2) else 1) else disE l:=rfl;by_cases m:disE l=0;case neg=>
  rw[aD m] at e;rw[e];clear e;exact ZRF
 rw[aE m] at e;by_cases n:planE R=0;case neg=>
  have o:MD R=1:=aD n;rw[aD n] at e;rw[e];clear e;have g:¬MD R=0:=by rw[o];decide
  by_cases c:nO l
  ·have q:disE l=0/\nO l:=⟨m,c⟩;exact ZRx o
  have q:¬(disE l=0/\nO l):=fun q=>c q.2;exact ZRx o
 have o:MD R=0:=aE n;have g:MC R=R.flatten:=aE n;have f:=GX R;rw[aE n] at e;by_cases s:∀i,i<length (α:=Opn) l->gL (getD (α:=Opn) l i kG).1 0 ((fU R R.length:Int)-1);case neg=>
  rw[aD s] at e;rw[e];clear e;have x:¬ ∀i,i<length (α:=Opn) l->¬Fi (MC R) l i:=fun q=>s fun i hi=>by
   have:=bG.1 (q i hi);rwa [g,f] at this
  clear g f;by_cases c:nO l
  ·have q:disE l=0/\nO l:=⟨m,c⟩;exact ZRF
  have q:¬(disE l=0/\nO l):=fun q=>c q.2;exact ZRF
 rw[aE s] at e;have x:¬ ¬ ∀i,i<length (α:=Opn) l->¬Fi (MC R) l i:=fun q=>q fun i hi=>by
  intro u;unfold Fi at u;rw[g,f] at u;exact u (s i hi)
 clear g f;by_cases c:nO l
 ·have q:disE l=0/\nO l:=⟨m,c⟩;rw[aE c] at e;rw[e];clear e;exact ZRF
 have q:¬(disE l=0/\nO l):=fun q=>c q.2;rw[aD c] at e;rw[e];clear e;exact ZRF
def c5052:Con:=aV 52 true fun | [.lelem [.str nm,.seq (.slice (.pair (.int .i64) (.pair (.int .i64) (.pair (.int .i64) (.pair (.int .i64) (.pair .bool (.pair (.int .i64) (.int .i64)))))))) pl,.val (.int .i64 og),.val (.int .i64 sp),.seq (.int .i64) pu,.seq (.pair (.int .i64) (.pair .str (.pair .str (.pair .str .str)))) op,.seq (.pair (.int .i64) (.pair (.int .i64) (.int .i64))) sz,.seq (.pair (.int .i64) (.pair (.int .i64) (.pair (.int .i64) (.pair (.int .i64) (.pair (.int .i64) (.slice (.pair (.int .i64) (.int .i64)))))))) br,.val (.int .i64 kf),.val (.int .i64 t1),.val (.int .i64 t2),.val (.int .i64 t3),.val (.int .i64 t4),.seq (.pair (.int .i64) (.pair (.int .i64) .str)) lo,.seq (.pair (.int .i64) (.pair (.int .i64) (.pair (.int .i64) (.pair (.int .i64) (.int .i64))))) al] 0],K=>K (I (purE pu)) | _,_=>False
theorem k5052:aM Tp c5052:=by
 refine kQ {} Tryz.func52 Tryz.ntmps52 (kc k5053 kn) fun _ _ h=>?_;split at h;case h_2=>cases h
 refine kb h ?_;exact ZF
def c5054:Con:=aV 54 true fun | [.lelem [.str nm,.seq (.slice (.pair (.int .i64) (.pair (.int .i64) (.pair (.int .i64) (.pair (.int .i64) (.pair .bool (.pair (.int .i64) (.int .i64)))))))) pl,.val (.int .i64 og),.val (.int .i64 sp),.seq (.int .i64) pu,.seq (.pair (.int .i64) (.pair .str (.pair .str (.pair .str .str)))) op,.seq (.pair (.int .i64) (.pair (.int .i64) (.int .i64))) sz,.seq (.pair (.int .i64) (.pair (.int .i64) (.pair (.int .i64) (.pair (.int .i64) (.pair (.int .i64) (.slice (.pair (.int .i64) (.int .i64)))))))) br,.val (.int .i64 kf),.val (.int .i64 t1),.val (.int .i64 t2),.val (.int .i64 t3),.val (.int .i64 t4),.seq (.pair (.int .i64) (.pair (.int .i64) .str)) lo,.seq (.pair (.int .i64) (.pair (.int .i64) (.pair (.int .i64) (.pair (.int .i64) (.int .i64))))) al] 0],K=>Need (length (α:=List Sid) pl<=40) (K (I (vE pl op))) | _,_=>False
theorem k5054:aM Tp c5054:=by
 refine kQ {} Tryz.func54 Tryz.ntmps54 (kc k5055 kn) fun _ _ h=>?_;split at h;case h_2=>cases h
 refine kb h.go ?_;replace h:=h.ok;exact ZRF
def c5056:Con:=aV 56 true fun | [.lelem [.str nm,.seq (.slice (.pair (.int .i64) (.pair (.int .i64) (.pair (.int .i64) (.pair (.int .i64) (.pair .bool (.pair (.int .i64) (.int .i64)))))))) pl,.val (.int .i64 og),.val (.int .i64 sp),.seq (.int .i64) pu,.seq (.pair (.int .i64) (.pair .str (.pair .str (.pair .str .str)))) op,.seq (.pair (.int .i64) (.pair (.int .i64) (.int .i64))) sz,.seq (.pair (.int .i64) (.pair (.int .i64) (.pair (.int .i64) (.pair (.int .i64) (.pair (.int .i64) (.slice (.pair (.int .i64) (.int .i64)))))))) br,.val (.int .i64 kf),.val (.int .i64 t1),.val (.int .i64 t2),.val (.int .i64 t3),.val (.int .i64 t4),.seq (.pair (.int .i64) (.pair (.int .i64) .str)) lo,.seq (.pair (.int .i64) (.pair (.int .i64) (.pair (.int .i64) (.pair (.int .i64) (.int .i64))))) al] 0],K=>K (I (timE sz)) | _,_=>False
theorem k5056:aM Tp c5056:=by
 refine kQ {} Tryz.func56 Tryz.ntmps56 (kc k5057 kn) fun _ _ h=>?_;split at h;case h_2=>cases h
 refine kb h ?_;exact ZF
def c5058:Con:=aV 58 true fun | [.lelem [.str nm,.seq (.slice (.pair (.int .i64) (.pair (.int .i64) (.pair (.int .i64) (.pair (.int .i64) (.pair .bool (.pair (.int .i64) (.int .i64)))))))) pl,.val (.int .i64 og),.val (.int .i64 sp),.seq (.int .i64) pu,.seq (.pair (.int .i64) (.pair .str (.pair .str (.pair .str .str)))) op,.seq (.pair (.int .i64) (.pair (.int .i64) (.int .i64))) sz,.seq (.pair (.int .i64) (.pair (.int .i64) (.pair (.int .i64) (.pair (.int .i64) (.pair (.int .i64) (.slice (.pair (.int .i64) (.int .i64)))))))) br,.val (.int .i64 kf),.val (.int .i64 t1),.val (.int .i64 t2),.val (.int .i64 t3),.val (.int .i64 t4),.seq (.pair (.int .i64) (.pair (.int .i64) .str)) lo,.seq (.pair (.int .i64) (.pair (.int .i64) (.pair (.int .i64) (.pair (.int .i64) (.int .i64))))) al] 0],K=>K (I (pS br)) | _,_=>False
theorem k5058:aM Tp c5058:=by
 refine kQ {} Tryz.func58 Tryz.ntmps58 (kc k2113 kn) fun _ _ h=>?_;split at h;case h_2=>cases h
 refine kb h ?_;exact ZF
theorem vW {g lo c v:Int}(h:g=v)(e:v≠0):(if g≠0 then g else if lo≠0 then lo else c)=v:=by
 subst h;rw[aE e]
theorem TK {g lo c:Int}(h:g=0):(if g≠0 then g else if lo≠0 then lo else c)=if lo≠0 then lo else c:=by
 subst h;rw[aD (fun q=>q rfl)]
def EJ:Con:=aV 21 true fun | [.agg [.str nm,.seq (.slice (.pair (.int .i64) (.pair (.int .i64) (.pair (.int .i64) (.pair (.int .i64) (.pair .bool (.pair (.int .i64) (.int .i64)))))))) pl,.val (.int .i64 og),.val (.int .i64 sp),.seq (.int .i64) pu,.seq (.pair (.int .i64) (.pair .str (.pair .str (.pair .str .str)))) op,.seq (.pair (.int .i64) (.pair (.int .i64) (.int .i64))) sz,.seq (.pair (.int .i64) (.pair (.int .i64) (.pair (.int .i64) (.pair (.int .i64) (.pair (.int .i64) (.slice (.pair (.int .i64) (.int .i64)))))))) br,.val (.int .i64 kf),.val (.int .i64 t1),.val (.int .i64 t2),.val (.int .i64 t3),.val (.int .i64 t4),.seq (.pair (.int .i64) (.pair (.int .i64) .str)) lo,.seq (.pair (.int .i64) (.pair (.int .i64) (.pair (.int .i64) (.pair (.int .i64) (.int .i64))))) al]],K=>Need (length (α:=List Sid) pl<=40) (K (I (gQ ⟨nm,pl,og,sp,pu,op,sz,br,kf,t1,t2,t3,t4,lo,al⟩))) | _,_=>False
theorem KW:aM Tp EJ:=by
 refine kQ {} Tryz.func21 Tryz.ntmps21 (kc k5049 (kc SL (kc JX (kc k5052 (kc k5054 (kc k5056 (kc k5058 (kc k5060 (kc k5061 (kc k5062 kn)))))))))) fun _ _ h=>?_;split at h;case h_2=>cases h
 rename_i C f D E z m y x B o t2 s u lo A;change List (List Sid) at f;change List Opn at m;change List Siz at y;change List Bar at x;change List Lod at lo;change List Alw at A;refine kb h.go ?_;replace h:=h.ok;have e:gQ ⟨C,f,D,E,z,m,y,x,B,o,t2,s,u,lo,A⟩=if wV (planE f) ⟨C,f,D,E,z,m,y,x,B,o,t2,s,u,lo,A⟩ (vE f m)≠0 then wV (planE f) ⟨C,f,D,E,z,m,y,x,B,o,t2,s,u,lo,A⟩ (vE f m) else if qF lo≠0 then qF lo else wU A:=rfl;have c:wV (planE f) ⟨C,f,D,E,z,m,y,x,B,o,t2,s,u,lo,A⟩ (vE f m)=if ¬namP C then 13 else if planE f≠0 then planE f else if ¬gL D 0 65536\/¬gL E 1 65536 then 2 else if purE z≠0 then purE z else if vE f m≠0 then vE f m else if timE y≠0 then timE y else if pS x≠0 then pS x else if ¬gL B 0 100 then 2 else if ¬xZ (o,t2,s,u) then 2 else 0:=rfl;generalize wV (planE f) ⟨C,f,D,E,z,m,y,x,B,o,t2,s,u,lo,A⟩ (vE f m)=g at*;by_cases a1:namP C;case neg=>
  rw[aE a1] at c;rw[vW c de] at e;rw[e];clear e c;exact ZRF
 rw[aD (fun q=>q a1)] at c;by_cases J:planE f=0;case neg=>
  rw[aE J] at c;rw[vW c J] at e;rw[e];clear e c;exact ZRF
 rw[aD (fun q=>q J)] at c;by_cases a3:gL D 0 65536;case neg=>
  rw[aE (.inl a3)] at c;rw[vW c de] at e;rw[e];clear e c;exact ZRF
 by_cases a4:gL E 1 65536;case neg=>
  rw[aE (.inr a4)] at c;rw[vW c de] at e;rw[e];clear e c;exact ZRF
 rw[aD (fun q=>q.elim (fun n=>n a3) (fun n=>n a4))] at c;by_cases K:purE z=0;case neg=>
  rw[aE K] at c;rw[vW c K] at e;rw[e];clear e c;exact ZRF
 rw[aD (fun q=>q K)] at c;by_cases W:vE f m=0;case neg=>
  rw[aE W] at c;rw[vW c W] at e;rw[e];clear e c;exact ZRF
 rw[aD (fun q=>q W)] at c;by_cases X:timE y=0;case neg=>
  rw[aE X] at c;rw[vW c X] at e;rw[e];clear e c;exact ZRF
 rw[aD (fun q=>q X)] at c;by_cases Y:pS x=0;case neg=>
  rw[aE Y] at c;rw[vW c Y] at e;rw[e];clear e c;exact ZRF
 rw[aD (fun q=>q Y)] at c;by_cases a9:gL B 0 100;case neg=>
  rw[aE a9] at c;rw[vW c de] at e;rw[e];clear e c;exact ZRF
 rw[aD (fun q=>q a9)] at c;by_cases F:xZ (o,t2,s,u);case neg=>
  have Z:(if xZ (o,t2,s,u) then (0:Int) else 2)=2:=aD F;rw[aE F] at c;rw[vW c de] at e;rw[e];clear e c;have b3:¬(if xZ (o,t2,s,u) then (0:Int) else 2)=0:=by rw[Z];decide
  exact ZRx Z
 have Z:(if xZ (o,t2,s,u) then (0:Int) else 2)=0:=aE F;rw[aD (fun q=>q F)] at c;rw[TK c] at e;by_cases b3:qF lo=0;case neg=>
  rw[aE b3] at e;rw[e];clear e c;exact ZRF
 rw[aD (fun q=>q b3)] at e;rw[e];clear e c;exact ZRF
abbrev Va (j:JobV):List SV:=[S j.nm,.seq qc j.pl,I j.og,I j.sp,.seq (.int .i64) j.pu,.seq qg j.op,.seq qh j.sz,.seq qb j.br,I j.kf,I j.t1,I j.t2,I j.t3,I j.t4,.seq qi j.lo,.seq qe j.al]
theorem EO (j:JobV)(k c:Int):(mX j k c).1= ⟨j.nm,j.pl,j.og,j.sp,(mX j k c).1.pu,(mX j k c).1.op,(mX j k c).1.sz,(mX j k c).1.br,j.kf,j.t1,j.t2,j.t3,j.t4,(mX j k c).1.lo,(mX j k c).1.al⟩:=by
 unfold mX
 repeat (split; · rfl)
 rfl
theorem CC {j:JobV}{e:dR}{c:Int}(m:gQ j=0)(g:zD e=0)(f:¬c=0)(h:(zE j e).2=c):mA j e=(Ur,c):=by
 rw[EL m,aD (fun q=>q g),h,aE f]
theorem Jt {j a:JobV}{e:dR}{c:Int}(n:gQ j=0)(m:zD e=0)(f:¬gQ a=0)(g:c=0)(h:zE j e=(a,c)):mA j e=(Ur,gQ a):=by
 rw[EL n,aD (fun q=>q m),h,aD (fun q=>q g),aE f]
theorem Ju {j a:JobV}{e:dR}{c:Int}(n:gQ j=0)(m:zD e=0)(f:gQ a=0)(g:c=0)(h:zE j e=(a,c)):mA j e=(a,0):=by
 rw[EL n,aD (fun q=>q m),h,aD (fun q=>q g),aD (fun q=>q f)]
def SD:Con:=aV 23 false fun | [],K=>K (.agg [.any,.clo 65 [] [],.clo 66 [] [],.clo 67 [] [],.clo 68 [] [],.clo 69 [] [],.clo 71 [] [],.clo 72 [] [],.clo 74 [] [],.clo 75 [] [],.clo 76 [] [],.clo 78 [] [],.clo 79 [] []]) | _,_=>False
theorem k5023:aM Tp SD:=by
 refine kQ {} Tryz.func23 Tryz.ntmps23 kn fun _ _ h=>?_;split at h;case h_2=>cases h
 refine kb h ?_;exact ZF
theorem b5012 (nm:Str)(g:List (List Sid))(z sp:Int)(pu:List Int)(u:List Opn)(m:List Siz)(o:List Bar)(y A t2 t3 t4:Int)(lo:List Lod)(x:List Alw)(k s Y Z W X:Int)(E:Prop)(B:Decidable E)(J K os:Int)(o1 o2 o3 o4:Str)(F zw zd bw bd bl bc bx:Int)(bg:List Gp)(C ls:Int)(lw:Str)(aw ad ap av an e1 e2 e3 e4 D:Int)(tx:Str)(h:length (α:=List Sid) g<=40/\s<=9223372036854775807):body Tp [EJ,K5,SD,R1,SB,R2,R9,R5,R8,R6,R3,R4,R7,SA,SC] {} false Tryz.f12 [.agg [S nm,.seq qc g,I z,I sp,.seq (.int .i64) pu,.seq qg u,.seq qh m,.seq qb o,I y,I A,I t2,I t3,I t4,.seq qi lo,.seq qe x],.agg (I k::I s::I Y::I Z::I W::I X:: .bl E B::I J::I K::I os::S o1::S o2::S o3::S o4::I F::I zw::I zd::I bw::I bd::I bl::I bc::I bx:: .seq qj bg::I C::I ls::S lw::I aw::I ad::I ap::I av::I an::I e1::I e2::I e3::I e4::I D::S tx:: [])] (.tup [.agg (Va (mA ⟨nm,g,z,sp,pu,u,m,o,y,A,t2,t3,t4,lo,x⟩ (k,s,(Y,Z,W,X,@decide E B,J,K),(os,o1,o2,o3,o4),(F,zw,zd),(bw,bd,bl,bc,bx,bg),(C,ls,lw),(aw,ad,ap,av,an),(e1,e2,e3,e4),D,tx)).1),I (mA ⟨nm,g,z,sp,pu,u,m,o,y,A,t2,t3,t4,lo,x⟩ (k,s,(Y,Z,W,X,@decide E B,J,K),(os,o1,o2,o3,o4),(F,zw,zd),(bw,bd,bl,bc,bx,bg),(C,ls,lw),(aw,ad,ap,av,an),(e1,e2,e3,e4),D,tx)).2]):=by
 obtain ⟨h,a1⟩:=h;by_cases e:gQ ⟨nm,g,z,sp,pu,u,m,o,y,A,t2,t3,t4,lo,x⟩=0;case neg=>
  have hq:mA ⟨nm,g,z,sp,pu,u,m,o,y,A,t2,t3,t4,lo,x⟩ (k,s,(Y,Z,W,X,@decide E B,J,K),(os,o1,o2,o3,o4),(F,zw,zd),(bw,bd,bl,bc,bx,bg),(C,ls,lw),(aw,ad,ap,av,an),(e1,e2,e3,e4),D,tx)=(Ur,1):=aE e;rw[hq];clear hq;exact ZRF
 by_cases f:zD (k,s,(Y,Z,W,X,@decide E B,J,K),(os,o1,o2,o3,o4),(F,zw,zd),(bw,bd,bl,bc,bx,bg),(C,ls,lw),(aw,ad,ap,av,an),(e1,e2,e3,e4),D,tx)=0;case neg=>
  have hq:mA ⟨nm,g,z,sp,pu,u,m,o,y,A,t2,t3,t4,lo,x⟩ (k,s,(Y,Z,W,X,@decide E B,J,K),(os,o1,o2,o3,o4),(F,zw,zd),(bw,bd,bl,bc,bx,bg),(C,ls,lw),(aw,ad,ap,av,an),(e1,e2,e3,e4),D,tx)=(Ur,zD (k,s,(Y,Z,W,X,@decide E B,J,K),(os,o1,o2,o3,o4),(F,zw,zd),(bw,bd,bl,bc,bx,bg),(C,ls,lw),(aw,ad,ap,av,an),(e1,e2,e3,e4),D,tx)):=(EL e _).trans (aE f);rw[hq];clear hq;exact ZRF
 have hk:¬(k<1\/12<k):=fun q=>by
  have:zD (k,s,(Y,Z,W,X,@decide E B,J,K),(os,o1,o2,o3,o4),(F,zw,zd),(bw,bd,bl,bc,bx,bg),(C,ls,lw),(aw,ad,ap,av,an),(e1,e2,e3,e4),D,tx)=8:=aE q;rw[this] at f;exact absurd f de
 have hm:=Nn e;obtain ⟨-, -,a0, -, -⟩:=Aq (EB e).pl;have a4:=aA (aA a0 h) a1;have l1:length (α:=Int) pu<=4100:=hm.pu;have l2:length (α:=Opn) u<=4100:=hm.op;have l3:length (α:=Siz) m<=4100:=hm.sz;have l4:length (α:=Bar) o<=4100:=hm.br;have l5:length (α:=Lod) lo<=4100:=hm.lo;have l6:length (α:=Alw) x<=4100:=hm.al;have a3:=aA l1 (aA l2 (aA l3 (aA l4 (aA l5 l6))));clear hm a0;have a2:k=1\/k=2\/k=3\/k=4\/k=5\/k=6\/k=7\/k=8\/k=9\/k=10\/k=11\/k=12:=om;clear hk;rcases a2 with rfl | rfl | rfl | rfl | rfl | rfl | rfl | rfl | rfl | rfl | rfl | rfl
 ·by_cases c:gQ ⟨tx,g,z,sp,pu,u,m,o,y,A,t2,t3,t4,lo,x⟩=0
  ·rw[Ju e f c (rfl:(0:Int)=0) rfl];(repeat'((conv=>whnf);first|refine Zn ?_|refine Z1 ?_|apply pI|apply pJ|refine Zl ?_|refine Zm ?_|fail));exact ZF
  rw[Jt e f c (rfl:(0:Int)=0) rfl];(repeat'((conv=>whnf);first|refine Zn ?_|refine Z1 ?_|apply pI|apply pJ|refine Zl ?_|refine Zy ?_|refine Zm ?_|fail));exact ZF
 ·have a5:length (α:=List Sid) (Ff g s (Y,Z,W,X,@decide E B,J,K)).1<=40:=bA (kU (K0 _ _ _)) h;by_cases n:(Ff g s (Y,Z,W,X,@decide E B,J,K)).2=0;case neg=>
   rw[CC e f n rfl];(repeat'((conv=>whnf);first|refine Zn ?_|refine Z2 ?_|apply pI|apply pJ|refine Zl ?_|refine Zy ?_|refine Zm ?_|fail));exact ZF
  by_cases c:gQ ⟨nm,(Ff g s (Y,Z,W,X,@decide E B,J,K)).1,z,sp,pu,u,m,o,y,A,t2,t3,t4,lo,x⟩=0
  ·rw[Ju e f c n rfl];(repeat'((conv=>whnf);first|refine Zn ?_|refine Z2 ?_|apply pI|apply pJ|refine Zl ?_|refine Zm ?_|fail));exact ZF
  rw[Jt e f c n rfl];(repeat'((conv=>whnf);first|refine Zn ?_|refine Z2 ?_|apply pI|apply pJ|refine Zl ?_|refine Zy ?_|refine Zm ?_|fail));exact ZF
 ·by_cases c:gQ ⟨nm,g,s,D,pu,u,m,o,y,A,t2,t3,t4,lo,x⟩=0
  ·rw[Ju e f c (rfl:(0:Int)=0) rfl];(repeat'((conv=>whnf);first|refine Zn ?_|refine Zj ?_|apply pI|apply pJ|refine Zl ?_|refine Zm ?_|fail));exact ZF
  rw[Jt e f c (rfl:(0:Int)=0) rfl];(repeat'((conv=>whnf);first|refine Zn ?_|refine Zj ?_|apply pI|apply pJ|refine Zl ?_|refine Zy ?_|refine Zm ?_|fail));exact ZF
 ·by_cases n:(Fg pu D).2=0;case neg=>
   rw[CC e f n rfl];(repeat'((conv=>whnf);first|refine Zn ?_|refine Zj ?_|apply pI|apply pJ|refine Zl ?_|refine Zy ?_|refine Zm ?_|fail));exact ZF
  by_cases c:gQ ⟨nm,g,z,sp,(Fg pu D).1,u,m,o,y,A,t2,t3,t4,lo,x⟩=0
  ·rw[Ju e f c n rfl];(repeat'((conv=>whnf);first|refine Zn ?_|refine Zj ?_|apply pI|apply pJ|refine Zl ?_|refine Zm ?_|fail));exact ZF
  rw[Jt e f c n rfl];(repeat'((conv=>whnf);first|refine Zn ?_|refine Zj ?_|apply pI|apply pJ|refine Zl ?_|refine Zy ?_|refine Zm ?_|fail));exact ZF
 ·by_cases n:(kP u s (os,o1,o2,o3,o4)).2=0;case neg=>
   rw[CC e f n rfl];(repeat'((conv=>whnf);first|refine Zn ?_|refine Zj ?_|apply pI|apply pJ|refine Zl ?_|refine Zy ?_|refine Zm ?_|fail));exact ZF
  by_cases c:gQ ⟨nm,g,z,sp,pu,(kP u s (os,o1,o2,o3,o4)).1,m,o,y,A,t2,t3,t4,lo,x⟩=0
  ·rw[Ju e f c n rfl];(repeat'((conv=>whnf);first|refine Zn ?_|refine Zj ?_|apply pI|apply pJ|refine Zl ?_|refine Zm ?_|fail));exact ZF
  rw[Jt e f c n rfl];(repeat'((conv=>whnf);first|refine Zn ?_|refine Zj ?_|apply pI|apply pJ|refine Zl ?_|refine Zy ?_|refine Zm ?_|fail));exact ZF
 ·by_cases n:(kP m (Cl m F) (F,zw,zd)).2=0;case neg=>
   rw[CC e f n rfl];(repeat'((conv=>whnf);first|refine Zn ?_|refine Zj ?_|apply pI|apply pJ|refine Zl ?_|refine Zy ?_|refine Zm ?_|fail));exact ZF
  by_cases c:gQ ⟨nm,g,z,sp,pu,u,(kP m (Cl m F) (F,zw,zd)).1,o,y,A,t2,t3,t4,lo,x⟩=0
  ·rw[Ju e f c n rfl];(repeat'((conv=>whnf);first|refine Zn ?_|refine Zj ?_|apply pI|apply pJ|refine Zl ?_|refine Zm ?_|fail));exact ZF
  rw[Jt e f c n rfl];(repeat'((conv=>whnf);first|refine Zn ?_|refine Zj ?_|apply pI|apply pJ|refine Zl ?_|refine Zy ?_|refine Zm ?_|fail));exact ZF
 ·by_cases n:(kP o s (bw,bd,bl,bc,bx,bg)).2=0;case neg=>
   rw[CC e f n rfl];(repeat'((conv=>whnf);first|refine Zn ?_|refine Zj ?_|apply pI|apply pJ|refine Zl ?_|refine Zy ?_|refine Zm ?_|fail));exact ZF
  by_cases c:gQ ⟨nm,g,z,sp,pu,u,m,(kP o s (bw,bd,bl,bc,bx,bg)).1,y,A,t2,t3,t4,lo,x⟩=0
  ·rw[Ju e f c n rfl];(repeat'((conv=>whnf);first|refine Zn ?_|refine Zj ?_|apply pI|apply pJ|refine Zl ?_|refine Zm ?_|fail));exact ZF
  rw[Jt e f c n rfl];(repeat'((conv=>whnf);first|refine Zn ?_|refine Zj ?_|apply pI|apply pJ|refine Zl ?_|refine Zy ?_|refine Zm ?_|fail));exact ZF
 ·by_cases c:gQ ⟨nm,g,z,sp,pu,u,m,o,D,A,t2,t3,t4,lo,x⟩=0
  ·rw[Ju e f c (rfl:(0:Int)=0) rfl];(repeat'((conv=>whnf);first|refine Zn ?_|refine Zj ?_|apply pI|apply pJ|refine Zl ?_|refine Zm ?_|fail));exact ZF
  rw[Jt e f c (rfl:(0:Int)=0) rfl];(repeat'((conv=>whnf);first|refine Zn ?_|refine Zj ?_|apply pI|apply pJ|refine Zl ?_|refine Zy ?_|refine Zm ?_|fail));exact ZF
 ·by_cases c:gQ ⟨nm,g,z,sp,pu,u,m,o,y,e1,e2,e3,e4,lo,x⟩=0
  ·rw[Ju e f c (rfl:(0:Int)=0) rfl];(repeat'((conv=>whnf);first|refine Zn ?_|refine Zj ?_|apply pI|apply pJ|refine Zl ?_|refine Zm ?_|fail));exact ZF
  rw[Jt e f c (rfl:(0:Int)=0) rfl];(repeat'((conv=>whnf);first|refine Zn ?_|refine Zj ?_|apply pI|apply pJ|refine Zl ?_|refine Zy ?_|refine Zm ?_|fail));exact ZF
 ·by_cases n:(kP lo s (C,ls,lw)).2=0;case neg=>
   rw[CC e f n rfl];(repeat'((conv=>whnf);first|refine Zn ?_|refine Zj ?_|apply pI|apply pJ|refine Zl ?_|refine Zy ?_|refine Zm ?_|fail));exact ZF
  by_cases c:gQ ⟨nm,g,z,sp,pu,u,m,o,y,A,t2,t3,t4,(kP lo s (C,ls,lw)).1,x⟩=0
  ·rw[Ju e f c n rfl];(repeat'((conv=>whnf);first|refine Zn ?_|refine Zj ?_|apply pI|apply pJ|refine Zl ?_|refine Zm ?_|fail));exact ZF
  rw[Jt e f c n rfl];(repeat'((conv=>whnf);first|refine Zn ?_|refine Zj ?_|apply pI|apply pJ|refine Zl ?_|refine Zy ?_|refine Zm ?_|fail));exact ZF
 ·by_cases c:gQ ⟨nm,g,z,sp,pu,u,m,o,y,A,t2,t3,t4,lo,GP x (aw,ad,ap,av,an)⟩=0
  ·rw[Ju e f c (rfl:(0:Int)=0) rfl];(repeat'((conv=>whnf);first|refine Zn ?_|refine Zj ?_|apply pI|apply pJ|refine Zl ?_|refine Zm ?_|fail));exact ZF
  rw[Jt e f c (rfl:(0:Int)=0) rfl];(repeat'((conv=>whnf);first|refine Zn ?_|refine Zj ?_|apply pI|apply pJ|refine Zl ?_|refine Zy ?_|refine Zm ?_|fail));exact ZF
 by_cases n:(mX ⟨nm,g,z,sp,pu,u,m,o,y,A,t2,t3,t4,lo,x⟩ D s).2=0;case neg=>
  rw[CC e f n rfl];(repeat'((conv=>whnf);first|refine Zn ?_|refine Zj ?_|apply pI|apply pJ|refine Zl ?_|refine Zy ?_|refine Zm ?_|fail));exact ZF
 by_cases c:gQ ⟨nm,g,z,sp,(mX ⟨nm,g,z,sp,pu,u,m,o,y,A,t2,t3,t4,lo,x⟩ D s).1.pu,(mX ⟨nm,g,z,sp,pu,u,m,o,y,A,t2,t3,t4,lo,x⟩ D s).1.op,(mX ⟨nm,g,z,sp,pu,u,m,o,y,A,t2,t3,t4,lo,x⟩ D s).1.sz,(mX ⟨nm,g,z,sp,pu,u,m,o,y,A,t2,t3,t4,lo,x⟩ D s).1.br,y,A,t2,t3,t4,(mX ⟨nm,g,z,sp,pu,u,m,o,y,A,t2,t3,t4,lo,x⟩ D s).1.lo,(mX ⟨nm,g,z,sp,pu,u,m,o,y,A,t2,t3,t4,lo,x⟩ D s).1.al⟩=0
 ·rw[Ju e f c n (Prod.ext (EO _ _ _) rfl)];(repeat'((conv=>whnf);first|refine Zn ?_|refine Zj ?_|apply pI|apply pJ|refine Zl ?_|refine Zm ?_|fail));exact ZF
 rw[Jt e f c n (Prod.ext (EO _ _ _) rfl)];(repeat'((conv=>whnf);first|refine Zn ?_|refine Zj ?_|apply pI|apply pJ|refine Zl ?_|refine Zy ?_|refine Zm ?_|fail));exact ZF
def Zq:Con:=aV 12 false fun args K=>match args with
 | [.agg a0,.agg a1]=>sJ a0 fun nm pl og sp pu op sz br kf t1 t2 t3 t4 lo al=>pQ a1 fun k ix sx sy sr su sg dsg sl so os o1 o2 o3 o4 zk zw zd bw bd bl bc bx bg lki ls lw aw ad ap av an e1 e2 e3 e4 nu tx=>Need (length (α:=List Sid) pl<=40/\ix<=9223372036854775807) (K (.tup [.agg (Va (mA ⟨nm,pl,og,sp,pu,op,sz,br,kf,t1,t2,t3,t4,lo,al⟩ (k,ix,(sx,sy,sr,su,@decide sg dsg,sl,so),(os,o1,o2,o3,o4),(zk,zw,zd),(bw,bd,bl,bc,bx,bg),(lki,ls,lw),(aw,ad,ap,av,an),(e1,e2,e3,e4),nu,tx)).1),I (mA ⟨nm,pl,og,sp,pu,op,sz,br,kf,t1,t2,t3,t4,lo,al⟩ (k,ix,(sx,sy,sr,su,@decide sg dsg,sl,so),(os,o1,o2,o3,o4),(zk,zw,zd),(bw,bd,bl,bc,bx,bg),(lki,ls,lw),(aw,ad,ap,av,an),(e1,e2,e3,e4),nu,tx)).2]))
 | _=>False
theorem K9:aM Tp Zq:=by
 refine kO Tryz.func12 fun g K h=>?_;simp only[Zq] at h;split at h
 ·rename_i a0 a1;refine mB h fun Z pl og sp pu op sz D W t1 t2 t3 t4 lo o e F=>?_;subst e;refine kD F fun k J sx sy sr su sg c sl so os o1 o2 o3 o4 zk zw zd E A C z bx B f X Y y n u x s e1 e2 e3 e4 nu tx e m=>?_;subst e;exact ⟨_,m.go,gH Tryz.func12 Tryz.ntmps12 (by simp[KW,k5022,k5023,k5065,k5066,k5067,k5068,k5069,k5071,k5072,k5074,k5075,k5076,k5078,k5079]) (b5012 Z pl og sp pu op sz D W t1 t2 t3 t4 lo o k J sx sy sr su sg c sl so os o1 o2 o3 o4 zk zw zd E A C z bx B f X Y y n u x s e1 e2 e3 e4 nu tx m.ok)⟩
 cases h
end RB
end

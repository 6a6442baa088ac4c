/-
  Part 5: a symbolic executor over the model, contracts of functions and plain laws.
-/
import Derived.Test.YtocimheacfaimaaGreatDoorP4
import Derived.Lib.Bytealg
set_option linter.unusedVariables false
set_option linter.unusedSimpArgs false
set_option maxRecDepth 10000
set_option maxHeartbeats 80000000
open List (length getD)
noncomputable section
section
open Go Go.Proofs Go.Eng Go.Shelf IB Go.Lib Go.RowKit Tryz
namespace RB
abbrev XX (s:Bx)(i:Nat):List SV:=[I i,I (Pb s i)]
def c130:Con:=aV 258 false fun | [.str s],K=>K (.clo 279 [] [.lelem [S s] 0]) | _,_=>False
theorem k130:aM Tp c130:=by
 refine kQ {} func258 ntmps258 kn fun _ _ h=>?_;split at h;case h_2=>cases h
 refine kb h ?_;exact ZF
theorem MZ {s:Bx}(h:∀c∈s,dN c){i:Nat}(hi:i<s.length):bJ s (s.length-1-i)-48=Pb s i/\48<=bJ s (s.length-1-i)/\bJ s (s.length-1-i)<=57:=by
 have f:s.length-1-i<s.length:=om;have e:∀d:UInt8,s.getD (s.length-1-i) d=s[s.length-1-i]:=fun d=>by simp[aB,f]
 have g:dN s[s.length-1-i]:=h _ (iL f);unfold bJ Pb;rw[e,e];unfold dN at g;omega
theorem b161 (s:Bx)(h:∀c∈s,dN c):Qh Tp [] { asks:=[(0,[])] } f279 [.lelem [S s] 0] s.length (XX s):=by
 (repeat'((conv=>whnf);first|refine Zg fun _=>?_|fail));refine Ask.mk ⟨{ X:=Nat,pre:=fun i=>i<=s.length,mod:=fun i _=>[(6,I i)],heap:=fun i _=>[.yst (some i) s.length (XX s)],mu:=fun i=>s.length-i },rfl,?_⟩;(repeat refine ZG ?_);refine ⟨⟨(0:Nat),aF _,ZE⟩,fun (i:Nat) (hi:i<=s.length)=>?_⟩;(apply Br.mk<;>intro)
 ·have e:i<s.length:=om;obtain ⟨e1,e2,e3⟩:=MZ h e;(repeat' first|refine ZG ?_|refine Zg fun _=>?_);refine iW (s.length-1-i) om ?_;(repeat'((conv=>whnf);first|refine Zg fun _=>?_|refine Zn ?_|fail));refine Need.mk (by (repeat' first|exact trivial|rfl|apply aA);exact e1) ?_;refine Two.mk ?_ ?_
  ·(repeat refine ZG ?_);refine ⟨(i+1:Nat),by show s.length-(i+1)<s.length-i;omega,e,?_⟩;exact ZE
  (conv=>whnf)
  trivial
 (conv=>whnf);omega
def WP:Con:=aV 279 false fun args K=>match args with | [.lelem [.str s] 0]=>Need (∀c∈s,dN c) (K (.itr s.length (XX s))) | _=>False
theorem k161:aM Tp WP:=by
 refine kO func279 fun c K h=>?_;simp only[WP] at h;split at h
 ·rename_i s;exact ⟨_,h.go,tN si func279 (by simp[ntmps279]) (b161 s h.ok)⟩
 cases h
abbrev Ol (i:Nat):Int:=if i=0 then 1 else 10^ ((i-1)%9+1)
theorem PZ (i:Nat)(h:i%9≠0):Ol i=10^ (i%9):=by
 unfold Ol;rw[aD om];congr 1
 omega
theorem HN (i:Nat):Ol (i+1)=10^ (i%9)*10:=by
 unfold Ol;rw[aD om,Nat.add_sub_cancel,gN]
theorem M0 (i:Nat):1<=(10:Int)^ (i%9)/\(10:Int)^ (i%9)<=100000000:=by
 have:i%9<9:=gP _ om;generalize i%9=k at this
 match k,this with
 | 0,_ | 1,_ | 2,_ | 3,_ | 4,_ | 5,_ | 6,_ | 7,_ | 8,_=>decide
abbrev nL (s:Bx):Nat:=(s.length+8)/9
def YE:Con:=aV 237 true fun | [.str s],K=>Need (gW s/\(digs s).length<=600) (K (.agg [.bl (s.headD 0=45) inferInstance,Ls (aJ B9 (bH (digs s)))])) | _,_=>False
theorem YF:aM Tp YE:=by
 refine kQ { asks:=[(0,[])] } func237 ntmps237 (kc UH (kc k130 (kc k161 (kc CU kn)))) fun _ _ h=>?_;split at h;case h_2=>cases h
 rename_i s;refine kb h.go ?_;replace h:=h.ok;obtain ⟨C,W⟩:=h;have m:=C.2.2;have y:(digs s).length<=9*nL (digs s):=by unfold nL;omega
 have z:(10:Nat)^9=B9:=de;(repeat' first|refine ZG ?_|refine Zg fun _=>?_);refine Ask.mk ⟨{ X:=Nat,pre:=fun i=>i<=(digs s).length,mod:=fun _ _=>[],heap:=fun i H=>[bX H 0,V (Nr (digs s) (nL (digs s)) i),bX H 2,.cells [I (Ol i)] 3],mu:=fun i=>i },rfl,?_⟩;(repeat refine ZG ?_);refine ⟨⟨(0:Nat),rfl,aF _,?_⟩,fun (i:Nat) hi (e:i<(digs s).length)=>?_,fun (i:Nat) hi (B:i=(digs s).length)=>?_⟩
 ·(repeat' first|exact trivial|rfl|apply aA);(conv=>whnf);show List.replicate _ _=List.replicate _ _;congr 1;unfold nL;omega
 ·obtain ⟨E,A,F,J,n⟩:=Ns m y i om;have o:=EV m e;have K:=qU A (i/9);have u:=M0 i;have D:i/9<nL (digs s):=by unfold nL;omega
  have n:(Nr (digs s) (nL (digs s)) i).getD (i/9) 0<(10:Int)^ (i%9):=n;have x:0<=Pb (digs s) i*10^ (i%9)/\Pb (digs s) i*10^ (i%9)<=9*100000000:=⟨cU o.1 om,kX (bR o.2.1 om) (aZ u.2 om)⟩;have c:Nr (digs s) (nL (digs s)) (i+1)=(Nr (digs s) (nL (digs s)) i).set (i/9) ((Nr (digs s) (nL (digs s)) i).getD (i/9) 0+Pb (digs s) i*10^ (i%9)):=rfl;have f:=HN i;show nD (XX (digs s) i) _;(repeat' first|refine ZG ?_|refine Zg fun _=>?_);(apply Br.mk<;>intro)
  ·rename_i g;have g:i%9=0:=om;rw[g] at x c f;(repeat'((conv=>whnf);first|refine Zg fun _=>?_|refine Za ?_|refine Zn ?_|refine Zj ?_|apply pI|apply pJ|fail));refine Need.mk (show -9223372036854775808<=(Nr (digs s) (nL (digs s)) i).getD (i/9) 0+Pb (digs s) i*1/\(Nr (digs s) (nL (digs s)) i).getD (i/9) 0+Pb (digs s) i*1<=9223372036854775807 by omega) ?_;(repeat refine ZG ?_);refine ⟨(i+1:Nat),rfl,e,?_⟩;(repeat' first|exact trivial|rfl|apply aA|omega);exact c.symm
  rename_i g;have g:i%9≠0:=om;rw[<- PZ i g] at x c f u;(repeat'((conv=>whnf);first|refine Zg fun _=>?_|refine Za ?_|refine Zn ?_|refine Zj ?_|apply pI|apply pJ|fail));refine Need.mk (show -9223372036854775808<=(Nr (digs s) (nL (digs s)) i).getD (i/9) 0+Pb (digs s) i*Ol i/\(Nr (digs s) (nL (digs s)) i).getD (i/9) 0+Pb (digs s) i*Ol i<=9223372036854775807 by omega) ?_;(repeat refine ZG ?_);refine ⟨(i+1:Nat),rfl,e,?_⟩;(repeat' first|exact trivial|rfl|apply aA|omega);exact c.symm
 subst B;(conv=>whnf);(repeat' first|exact trivial|rfl|apply aA);have:=PC m y;rw[z] at this;exact this
theorem SS:Builder.X72 Tp RL.lC_ren where
 sizeBuilder:=kr
 liesBuilder:=kr
theorem ex160:Builder.Extra Tp RL.lS_ren where
 sizeBuilder:=kr
 liesBuilder:=kr
 t5:=Tryz.underlying5
 a5:=Tryz.isAgg5
 z5:=Tryz.sizeOf5
 v5:=Tryz.zeroValue5
 infoByte:=kr
 cellsByte:=kr
 sizeByte:=kr
 neB5:=de
def Rx (nm:Nat)(A:SV):Prop:=A= .val (.pointer none)\/A= .ptr nm 0
def UL:Con:=Kx 306 fun args H K=>match args with
 | [.ptr nm 0]=>(match bX H nm with
  | .cells [A,x] e=>Need (Rx nm A/\e=300) <| K (.tup []) (cA H nm (.cells [.ptr nm 0,x] 300))
  | _=>False)
 | _=>False
theorem WQ:aM Tp UL:=by
 refine Bo (enters_of func306 kr rfl) ?_;intro E H K h;split at h;case h_2=>cases h
 rename_i m;split at h;case h_2=>cases h
 rename_i A x e C;obtain ⟨⟨Y,rfl⟩,Z⟩:=h;refine ⟨fun s H'=>s= .tup []/\H'=cA H m (.cells [.ptr m 0,x] 300),fun s H' e=>by rw[e.1,e.2];exact Z,?_⟩;intro G loc ver w vs hC B D;cases D with
 | cons _ v1 _ vs1 h1 D=>
 cases D;obtain ⟨b,c,rfl⟩:=wM B h1 (by simp only[Kw,C]);have J:=bB C si;obtain ⟨X,b',z,F,f,W⟩:=B.objs m _ J;rw[c] at F;cases F;replace f:w.heap[b]? =some (.cells ⟨z⟩ 300 (0,0)):=f;cases W with
 | cons _ u _ us r1 r2=>
 cases r2 with
 | cons _ u2 _ us2 r2 r3=>
 cases r3;have g:∀w':World,w'.heap.size=w.heap.size->w'.os=w.os->w'.tape=w.tape->w'.output=w.output->(∀k,k≠b->w'.heap[k]? =w.heap[k]?)->w'.heap[b]? =some (.cells #[.pointer (some ⟨b,0,none⟩),u2] 300 (0,0))->Res G (envOf G H loc ver w) (fun s H'=>s= .tup []/\H'=cA H m (.cells [.ptr m 0,x] 300)) (.tuple #[]) w':=by
  intro w' q1 q2 q3 q4 q5 q6;have o:=B.inPlace (w':=w') (o':=.cells [.ptr m 0,x] 300) J (b:=b) (by simp[Owns,c]) (fun _ h=>h) q1 q2 q3 q4 q5
   (fun y=>⟨X,b,[.pointer (some ⟨b,0,none⟩),u2],c,q6,.cons _ _ _ _ (h1.ext y) (.cons _ _ _ _ (r2.ext y) .nil)⟩)
  exact ⟨_,_,_,_,⟨rfl,rfl⟩,o.1,.tup [] [] .nil,o.2⟩
 rcases Y with rfl | rfl
 ·cases r1;refine (Any.Builder_copyCheck_fresh RL.lC SS b w (by rw[Lib.cell_of_heap f];rfl) (by unfold World.shape?;rw[f];rfl) (Lib.frozen_of_heap f 0)).mono ?_;rintro e w' ⟨rfl,rfl⟩;exact ⟨_,rfl,g _ (by simp[World.setCell]) rfl rfl rfl (fun k hk=>Below.heap_setCell w _ _ k hk) (by unfold World.setCell;rw[qY];simp[f])⟩
 obtain ⟨b2,n,rfl⟩:=wM B r1 (by simp only[Kw,C]);rw[c] at n;cases n;refine (Any.Builder_copyCheck_used RL.lC SS b w (by rw[Lib.cell_of_heap f];rfl)).mono ?_;rintro e w' ⟨rfl,rfl⟩;exact ⟨_,rfl,g _ rfl rfl rfl rfl (fun _ _=>rfl) f⟩
abbrev H3 (p:Prop)(hp:Decidable p)(a:List Int)(A:SV)(k:Nat)(bs:List Int):List HO:=[.cells [.bl p hp,Ls a] 267,.cells [A,.ref 2 k] 300,.vec k (.int .u8) bs 5]
theorem b157 (p:Prop)(e:Decidable p)(a:List Int)(A:SV)(f:Rx 1 A)(c:List Int)(g:c.length<=1000000):
  DW Tp [UL] {} f282 [.ptr 1 0,.val (.int .u8 45)] (H3 p e a A 1 c) (fun s H'=>s= .val .nilIface/\H'=H3 p e a (.ptr 1 0) 2 (List.append (α:=Int) c [45])):=by
 (conv=>whnf);refine Need.mk rfl ?_;(repeat refine ZG ?_);(conv=>whnf);refine ⟨_,_,⟨rfl,rfl⟩,rfl,rfl,rfl,rfl,?_⟩;exact ZE
theorem b158 (p:Prop)(e:Decidable p)(a:List Int)(A:SV)(g:Rx 1 A)(k:Nat)(f:k=1\/k=2)(c:List Int)(s:Bx)(m:c.length+s.length<=1000000):
  DW Tp [UL] {} f283 [.ptr 1 0,S s] (H3 p e a A k c++ [.gone]) (fun r H'=>r= .tup [I s.length,.val .nilIface]/\H'=H3 p e a (.ptr 1 0) (k+1) (List.append (α:=Int) c (cP s))++ [.gone]):=by
 rcases f with rfl | rfl
 ·(conv=>whnf);refine Need.mk rfl ?_;(repeat' first|refine ZG ?_|refine Zg fun _=>?_);(conv=>whnf);refine ⟨_,_,⟨rfl,rfl⟩,rfl,?_,rfl,rfl,?_⟩;all_goals (repeat' first|exact trivial|rfl|apply aA)
 (conv=>whnf);refine Need.mk rfl ?_;(repeat' first|refine ZG ?_|refine Zg fun _=>?_);(conv=>whnf);refine ⟨_,_,⟨rfl,rfl⟩,rfl,?_,rfl,rfl,?_⟩;all_goals (repeat' first|exact trivial|rfl|apply aA)
def WR:Con:=Kx 282 fun args H K=>match args,H with
 | [.ptr 1 0,.val (.int .u8 45)],[.cells [.bl p hp,.seq (.int .i64) a] e1,.cells [A,.ref 2 1] e2,.vec 1 (.int .u8) bs e3]=>
  Need (Rx 1 A/\e1=267/\e2=300/\e3=5/\length (α:=Int) bs<=1000000) (K (.val .nilIface) (H3 p hp a (.ptr 1 0) 2 (List.append (α:=Int) bs [45])))
 | _,_=>False
theorem k157:aM Tp WR:=by
 refine Bo (enters_of func282 kr rfl) ?_;intro c H K h;split at h
 ·obtain ⟨⟨e,rfl,rfl,rfl,g⟩,f⟩:=h;refine ⟨_,?_,Fc (by simp[WQ]) func282 (by simp[ntmps282]) (b157 _ _ _ _ e _ g)⟩;rintro s H' ⟨rfl,rfl⟩;exact f
 cases h
def WS:Con:=Kx 283 fun args H K=>match args,H with
 | [.ptr 1 0,.str s],[.cells [.bl p hp,.seq (.int .i64) a] e1,.cells [A,.ref 2 k] e2,.vec k' (.int .u8) bs e3,.gone]=>
  Need (Rx 1 A/\k'=k/\(k=1\/k=2)/\e1=267/\e2=300/\e3=5/\length (α:=Int) bs+s.length<=1000000) (K (.tup [I s.length,.val .nilIface]) (H3 p hp a (.ptr 1 0) (k+1) (List.append (α:=Int) bs (cP s))++ [.gone]))
 | _,_=>False
theorem k158:aM Tp WS:=by
 refine Bo (enters_of func283 kr rfl) ?_;intro c H K h;split at h
 ·obtain ⟨⟨e,rfl,g,rfl,rfl,rfl,m⟩,f⟩:=h;refine ⟨_,?_,Fc (by simp[WQ]) func283 (by simp[ntmps283]) (b158 _ _ _ _ e _ g _ _ m)⟩;rintro s H' ⟨rfl,rfl⟩;exact f
 cases h
set_option maxRecDepth 100000 in
theorem HP {P:Program}{ρ:Ren}(L:Lays.n169 P ρ)(X:Builder.Extra P ρ)(b g c:Nat)(p:Value)(cur:Array Value)(l:Bx)(w:World)(z:l≠ [])(o:w.heap[b]? =some (.cells #[p,.slice (some ⟨g,0,none⟩) l.length c] (ρ.t 72) (0,0)))(A:w.heap[g]? =some (.cells cur (ρ.t 5) (0,0)))(a1:l.length<=c)(s:c<=maxLen)(Z:c<=cur.size)(m:∀(j:Nat) (x:UInt8),l[j]? =some x->cur[j]? =some (Value.int .u8 x.toNat)):
  Calls P (ρ.f 169) #[.pointer (some ⟨b,0,none⟩)] w fun e w'=>e= .returned (.string ⟨l.toArray⟩)/\w'=w.drew.freeze ⟨g,0,none⟩ l.length:=by
 have a0:l.length≠0:=by simpa using z
 have c1:w.drew.cell? ⟨b,1,none⟩=some (.slice (some ⟨g,0,none⟩) l.length c):=by
  have:w.drew.heap[b]? =some (.cells #[p,.slice (some ⟨g,0,none⟩) l.length c] (ρ.t 72) (0,0)):=o;rw[Lib.cell_of_heap this];rfl
 have W:(Builtin.unsafeSliceData_ #[(ρ.t 37)] (ρ.t 127) #[.slice (some ⟨g,0,none⟩) l.length c]).run P w.drew= .ok (.pointer (some ⟨g,0,none⟩)) w.drew:=
  Lib.run_unsafeSliceData_row _ _ _ _ _ _ om
 have Y:(Builtin.unsafeString_ #[(ρ.t 127),(ρ.t 3)] (ρ.t 9) #[.pointer (some ⟨g,0,none⟩),.int .i64 l.length]).run P w.drew= .ok (.string ⟨l.toArray⟩) (w.drew.freeze ⟨g,0,none⟩ l.length):=by
  refine Lib.run_unsafeString_row w.drew (ρ.t 127) (ρ.t 3) (ρ.t 9) (ρ.t 5) L.t127 X.cellsByte g cur.size (by have n:w.drew.heap[g]? =some (.cells cur (ρ.t 5) (0,0)):=A;simp[World.shape?,n]) l z om (by unfold maxLen at s;omega) ?_;intro j x hx;have n:w.drew.heap[g]? =some (.cells cur (ρ.t 5) (0,0)):=A;rw[Addr.add_mid,Lib.cell_of_heap n,eS];exact m j x hx
 have u:=L.mixed;have a6:=L.t72;have K:=L.a72;have b6:=L.z72;have b3:=L.v72;have a':=run_underlying L.t72;have a4:=L.t70;have J:=L.a70;have b5:=L.z70;have b2:=L.v70;have a8:=run_underlying L.t70;have a2:=L.t37;have F:=L.a37;have b4:=L.z37;have b1:=L.v37;have a7:=run_underlying L.t37;have B:=L.t127;have y:=L.a127;have E:=L.z127;have D:=L.v127;have C:=run_underlying L.t127;have t3:=L.t3;have a3:=L.a3;have z3:=L.z3;have v3:=L.v3;have u3:=run_underlying L.t3;have t9:=L.t9;have a9:=L.a9;have z9:=L.z9;have v9:=L.v9;have u9:=run_underlying L.t9;have t5:=X.t5;have a5:=X.a5;have z5:=X.z5;have v5:=X.v5;have u5:=run_underlying X.t5
 go_enter L.f169,Body.n169_ntmps ρ
 go_wp2
 go_region_o
 all_goals (go_wp2;go_ret;exact ⟨rfl,rfl⟩)
def C0 (bs:List Int):Bx:=bs.map fun n=>UInt8.ofNat n.toNat
theorem Om (l:Bx):C0 (cP l)=l:=by
 unfold C0 cP;rw[List.map_map]
 conv=>rhs;rw[<- List.map_id l]
 refine tI fun x _=>?_;simp
def WT:Con:=Kx 285 fun args H K=>match args with
 | [.ptr nm 0]=>(match bX H nm with
  | .cells [A,.ref nm2 k] e=>(match bX H nm2 with
   | .vec k' (.int .u8) bs e'=>Need (Rx nm A/\k'=k/\e=300/\e'=5/\0<length (α:=Int) bs/\nm≠nm2) (K (.str (C0 bs)) (cA H nm2 .dead))
   | _=>False)
  | _=>False)
 | _=>False
theorem k160:aM Tp WT:=by
 refine Bo (enters_of func285 kr rfl) ?_;intro b5 H K h;split at h;case h_2=>cases h
 rename_i nm;split at h;case h_2=>cases h
 rename_i A m k e ho;split at h;case h_2=>cases h
 rename_i k' f e' a0;obtain ⟨⟨hA,b1,rfl,rfl,b7,b8⟩,hK⟩:=h;subst b1;refine ⟨fun s H'=>s= .str (C0 f)/\H'=cA H m .dead,fun s H' e=>by rw[e.1,e.2];exact hK,?_⟩;intro G loc ver w vs hC E hr;cases hr with
 | cons _ v1 _ vs1 h1 hr=>
 cases hr;obtain ⟨b,a7,rfl⟩:=wM E h1 (by simp only[Kw,ho]);have hn:=bB ho si;have Z:=bB a0 si;obtain ⟨h0,b',a2,g1,g2,g3⟩:=E.objs nm _ hn;rw[a7] at g1;cases g1;replace g2:w.heap[b]? =some (.cells ⟨a2⟩ 300 (0,0)):=g2;cases g3 with
 | cons _ u _ us r1 r2=>
 cases r2 with
 | cons _ u2 _ us2 r2 r3=>
 cases r3;obtain ⟨b4,b6⟩:=sH E r2 a0;subst b4;obtain ⟨q1,q2,X,Y,D,a1,a8⟩:=E.objs m _ Z;have n:(loc m).len=length (α:=Int) f:=X;have b2:(loc m).len<=140737488355328:=Y;have F:∀i,i<(loc m).len->Reads w (qW G H loc w) (.int .u8) (getD (α:=Int) f i 0) ((D.drop (i*1)).take 1):=a8;rcases cW a1 with ⟨_,_,_,e4⟩ | ⟨g,cur,e1,e2,e3,e4,e5,e6,e7⟩
 ·omega
 have a3:w.heap[g]? =some (.cells cur 5 (0,0)):=e3;have o:(C0 f).length=length (α:=Int) f:=by simp[C0]
 have a4:cur.toList.take (length (α:=Int) f)=D:=by rw[<- n];simpa [Ty.size] using e7
 have z:∀(j:Nat) (x:UInt8),(C0 f)[j]? =some x->cur[j]? =some (Value.int .u8 x.toNat):=by
  intro j x hj;have C:j<length (α:=Int) f:=by rw[<- o];exact (aK.1 hj).1
  have hR:=F j om;have a':getD (α:=Int) f j 0=f[j]:=by simp[aB,C]
  have hx:x=UInt8.ofNat (f[j]:Int).toNat:=by
   simp[C0,C] at hj;exact hj.symm
  obtain ⟨a5,y⟩:=hR;have y:(0:Int)<=getD (α:=Int) f j 0/\getD (α:=Int) f j 0<=255:=y;have W:(cur.toList.take (length (α:=Int) f))[j]? =some (Value.int .u8 (getD (α:=Int) f j 0)):=by
   rw[a4];have h1:((D.drop (j*1)).take 1)[0]? =some (Value.int .u8 (getD (α:=Int) f j 0)):=by rw[a5];rfl
   simpa using h1
  rw[aL,aE C] at W;rw[<- eO,W,hx];rw[a'] at y ⊢;congr 2
  simp only[mE];omega
 have B:(loc m).head= .slice (some ⟨g,0,none⟩) (C0 f).length (loc m).cap:=by simp[Core.head,e1,e2,n,o]
 have a6:w.heap[b]? =some (.cells #[u,.slice (some ⟨g,0,none⟩) (C0 f).length (loc m).cap] 300 (0,0)):=by rw[<- B];exact g2
 refine (HP RL.lS ex160 b g (loc m).cap u cur (C0 f) w (by intro e;rw[e] at o;simp at o;omega) a6 a3 om e5 (by simpa [Ty.size] using e6) z).mono ?_;rintro e w' ⟨rfl,rfl⟩;refine ⟨_,rfl,?_⟩;have a9:∀c,c≠g->(w.drew.freeze ⟨g,0,none⟩ (C0 f).length).heap[c]? =w.heap[c]? :=by
  intro c hc;unfold World.freeze;split
  ·rfl
  show (w.heap.modify _ _)[c]? = _;rw[qY,aD (fun e=>hc e.symm)]
 have b3:(w.drew.freeze ⟨g,0,none⟩ (C0 f).length).heap.size=w.heap.size:=by
  unfold World.freeze;split
  ·rfl
  simp
 have J:=E.inPlace (w':=w.drew.freeze ⟨g,0,none⟩ (C0 f).length) (o':=.dead) Z (b:=g) (by simp[Owns,e1]) (fun _ h=>h.elim) b3 (by unfold World.freeze;split<;>rfl) (by unfold World.freeze;split<;>rfl) (by unfold World.freeze;split<;>rfl) a9 (fun _=>trivial);exact ⟨_,_,_,_,⟨rfl,rfl⟩,J.1,.str _ (by show (C0 f).length<=140737488355328;omega),J.2⟩
theorem wB (a b:Bx):cP (a++b)=List.append (α:=Int) (cP a) (cP b):=by simp[cP]
theorem Jf (p w r t:Bx):List.append (α:=Int) (List.append (α:=Int) (cP (p++w)) (cP r)) (cP t)=cP (p++(w++(r++t))):=by
 rw[<- wB,<- wB];simp only[bW]
theorem AN (p w t:Bx):List.append (α:=Int) (cP (p++w)) (cP t)=cP (p++(w++([]++t))):=by
 rw[<- wB,bW,jI]
def wrA:Nat->SV
 | 0=>.val (.pointer none)
 | _+1=>.ptr 1 0
theorem FG {x:Int}(h:0<=x/\x<1000000000):(itoa x).length<=9:=by
 unfold itoa;rw[aD om];exact qG 8 _ om
theorem On {x:Int}:0<(itoa x).length:=by
 cases h:itoa x with
 | nil=>exact absurd h (by unfold itoa;split<;>simp[Ao])
 | cons=>simp
theorem FH (a:List Int)(m:Nat):0<(Kh a (m+1)).length:=by
 have:=On (x:=a.getD (a.length-1-m) 0);show 0<(Kh a m++((if 0<m then List.replicate (9-(itoa (a.getD (a.length-1-m) 0)).length) 48 else [])++itoa (a.getD (a.length-1-m) 0))).length;simp only[aO];omega
theorem Kr {a:List Int}(h:InB B9 a):∀i,(Kh a i).length<=9*i
 | 0=>aI _
 | i+1=>by
  have e:=Kr h i;have f:=FG (qU h (a.length-1-i));show (Kh a i++((if 0<i then List.replicate (9-(itoa (a.getD (a.length-1-i) 0)).length) 48 else [])++itoa (a.getD (a.length-1-i) 0))).length<=9*(i+1);by_cases c:0<i
  ·rw[aE c];simp only[aO,dZ];omega
  rw[aD c];simp only[aO,tF];omega
theorem b128 (p:Prop)(A:Decidable p)(a:List Int)(h:InB B9 a/\a.length<=200):body Tp [WR,WS,WT,WM,UK,V6,UC] { asks:=[(0,[2])] } true f267 [.agg [.bl p A,Ls a]] (S (if a= [] then [48] else (if p then [45] else [])++Kh a a.length)):=by
 (repeat'((conv=>whnf);first|refine Zg fun _=>?_|fail));(apply Br.mk<;>intro)
 ·rename_i s;have e:a= []:=cK om;(conv=>whnf);rw[aE e]
 rename_i s;refine Own.r ?_;(conv=>whnf);refine ⟨1,.int .u8,5,?_⟩;(apply Br.mk<;>intro)
 ·rename_i n;(conv=>whnf);refine Need.mk ⟨.inl rfl,rfl,rfl,rfl,aF _⟩ ?_;(conv=>whnf);refine Ask.mk ⟨{ X:=Nat,pre:=fun i=>i<=a.length,mod:=fun i _=>[],heap:=fun i H=>[bX H 0,.cells [.ptr 1 0,.ref 2 1] 300,.vec 1 (.int .u8) (cP ([45]++Kh a i)) 5],mu:=fun i=>i,objs:=[2] },rfl,?_⟩;(repeat refine ZN ?_);refine ⟨⟨(0:Nat),rfl,aF _,?_⟩,fun (i:Nat) hi (f:i<a.length)=>?_,fun (i:Nat) hi (u:i=a.length)=>?_⟩
  ·exact ZE
  ·have x:=FG (qU h.1 (a.length-1-i));have o:([45]++Kh a i).length<=1+9*i:=by have:=Kr h.1 i;simp only[aO,cF,tF];omega
   rw[<- gF] at o;have y:=h.2;have c:Kh a (i+1)=Kh a i++((if 0<i then List.replicate (9-(itoa (a.getD (a.length-1-i) 0)).length) 48 else [])++itoa (a.getD (a.length-1-i) 0)):=rfl;show nD (N1 a i) _;(repeat' first|refine ZG ?_|refine Zg fun _=>?_);(apply Br.mk<;>intro)
   ·rw[aE om] at c;(repeat'((conv=>whnf);first|refine Zg fun _=>?_|refine Zn ?_|fail));refine Need.mk ⟨.inr rfl,rfl,.inl rfl,rfl,rfl,rfl,?_⟩ ?_
    ·show _+(List.replicate (9-((itoa (a.getD (a.length-1-i) 0)).length:Int)).toNat 48).length<=1000000;rw[dZ];omega
    refine Need.mk ⟨.inr rfl,rfl,.inr rfl,rfl,rfl,rfl,?_⟩ ?_
    ·show (List.append (α:=Int) _ (cP (List.replicate (9-((itoa (a.getD (a.length-1-i) 0)).length:Int)).toNat 48))).length+ _<=1000000;show (_++ _:List Int).length+ _<= _;rw[aO,gF (List.replicate _ _),dZ];omega
    refine ⟨(i+1:Nat),rfl,f,?_⟩;(repeat' first|exact trivial|rfl|exact Nat.one_pos|apply aA);rw[c,show (9-((itoa (a.getD (a.length-1-i) 0)).length:Int)).toNat=9-(itoa (a.getD (a.length-1-i) 0)).length by omega];exact Jf [45] _ _ _
   rw[aD om] at c;refine Need.mk ⟨.inr rfl,rfl,.inl rfl,rfl,rfl,rfl,om⟩ ?_;refine ⟨(i+1:Nat),rfl,f,?_⟩;(repeat' first|exact trivial|rfl|exact Nat.one_pos|apply aA);rw[c];exact AN [45] _ _
  subst u;have g:0<(cP ([45]++Kh a a.length)).length:=by
   rw[gF];obtain ⟨m,z⟩:∃m,a.length=m+1:=⟨a.length-1,om⟩;have:=FH a m;rw[z,aO];omega
  refine Need.mk ⟨.inr rfl,rfl,rfl,rfl,g,by show (1:Nat)≠2;decide⟩ ?_;(conv=>whnf);rw[aD (by intro e;rw[e] at s;exact s rfl),aE n,Om]
 rename_i n;refine Ask.mk ⟨{ X:=Nat,pre:=fun i=>i<=a.length,mod:=fun i _=>[],heap:=fun i H=>[bX H 0,.cells [wrA i,.ref 2 1] 300,.vec 1 (.int .u8) (cP ([]++Kh a i)) 5],mu:=fun i=>i,objs:=[2] },rfl,?_⟩;(repeat refine ZN ?_);refine ⟨⟨(0:Nat),rfl,aF _,?_⟩,fun (i:Nat) hi (f:i<a.length)=>?_,fun (i:Nat) hi (u:i=a.length)=>?_⟩
 ·exact ZE
 ·have y:=h.2;rcases i with _ | k
  ·have x:=FG (qU h.1 (a.length-1-(0)));have o:([]++Kh a (0)).length<=1+9*(0):=by have:=Kr h.1 (0);simp only[aO,tF];omega
   rw[<- gF] at o;have c:Kh a (0+1)=Kh a (0)++((if 0<(0) then List.replicate (9-(itoa (a.getD (a.length-1-(0)) 0)).length) 48 else [])++itoa (a.getD (a.length-1-(0)) 0)):=rfl;show nD (N1 a (0)) _;(repeat' first|refine ZG ?_|refine Zg fun _=>?_);(apply Br.mk<;>intro)
   ·exfalso;omega
   rw[aD om] at c;refine Need.mk ⟨.inl rfl,rfl,.inl rfl,rfl,rfl,rfl,om⟩ ?_;refine ⟨(0+1:Nat),rfl,f,?_⟩;exact ZE
  have x:=FG (qU h.1 (a.length-1-(k+1)));have o:([]++Kh a (k+1)).length<=1+9*(k+1):=by have:=Kr h.1 (k+1);simp only[aO,tF];omega
  rw[<- gF] at o;have c:Kh a (k+1+1)=Kh a (k+1)++((if 0<(k+1) then List.replicate (9-(itoa (a.getD (a.length-1-(k+1)) 0)).length) 48 else [])++itoa (a.getD (a.length-1-(k+1)) 0)):=rfl;show nD (N1 a (k+1)) _;(repeat' first|refine ZG ?_|refine Zg fun _=>?_);(apply Br.mk<;>intro)
  ·rw[aE om] at c;(repeat'((conv=>whnf);first|refine Zg fun _=>?_|refine Zn ?_|fail));refine Need.mk ⟨.inr rfl,rfl,.inl rfl,rfl,rfl,rfl,?_⟩ ?_
   ·show _+(List.replicate (9-((itoa (a.getD (a.length-1-(k+1)) 0)).length:Int)).toNat 48).length<=1000000;rw[dZ];omega
   refine Need.mk ⟨.inr rfl,rfl,.inr rfl,rfl,rfl,rfl,?_⟩ ?_
   ·show (List.append (α:=Int) _ (cP (List.replicate (9-((itoa (a.getD (a.length-1-(k+1)) 0)).length:Int)).toNat 48))).length+ _<=1000000;show (_++ _:List Int).length+ _<= _;rw[aO,gF (List.replicate _ _),dZ];omega
   refine ⟨(k+1+1:Nat),rfl,f,?_⟩;(repeat' first|exact trivial|rfl|exact Nat.one_pos|apply aA);rw[c,show (9-((itoa (a.getD (a.length-1-(k+1)) 0)).length:Int)).toNat=9-(itoa (a.getD (a.length-1-(k+1)) 0)).length by omega];exact Jf [] _ _ _
  exfalso;omega
 obtain ⟨m,rfl⟩:∃m,i=m+1:=⟨i-1,om⟩;have g:0<(cP ([]++Kh a (m+1))).length:=by
  rw[gF];exact FH a m
 refine Need.mk ⟨.inr rfl,rfl,rfl,rfl,g,by show (1:Nat)≠2;decide⟩ ?_;(conv=>whnf);rw[aD (by intro e;rw[e] at s;exact s rfl),aD n,Om,u]
def Jg (a:List Int):Prop:=a=aJ B9 (aQ B9 a).toNat/\a.length<=200
theorem Jh {m:Nat}(h:m<B9^200):Jg (aJ B9 m):=by
 refine ⟨by rw[jC de,aU],?_⟩;rcases dF m with rfl | e
 ·rw[eC];exact aF _
 obtain ⟨c,_,f⟩:=kI (B:=B9) de e;have c:B9^ ((aJ B9 m).length-1)<=m:=by exact_mod_cast c
 have:=(fH (show 1<B9 by decide)).1 (bV c h);omega
theorem AO {a:List Int}(h:Jg a):InB B9 a:=by rw[h.1];exact dE de _
def nF (p:Prop)[Decidable p](n:Int):Int:=if p then -n else n
theorem M1 (p:Prop)[hp:Decidable p]{a:List Int}(h:Jg a):(if a= [] then [48] else (if p then [45] else [])++Kh a a.length)=itoa (nF p (aQ B9 a)):=by
 have y:=jC (B:=B9) de (aQ B9 a).toNat;rw[<- h.1] at y;by_cases e:a= []
 ·rw[aE e];subst e;have:nF p (aQ B9 [])=0:=by unfold nF;split<;>rfl
  rw[this];unfold itoa;rw[aD om];exact (kZ (show 0<10 by omega)).symm
 rw[aD e];have u:a.getLast e≠0:=by
  have:=yB (B:=B9) de (aQ B9 a).toNat;rw[<- h.1] at this;exact this e
 obtain ⟨m,x⟩:∃m,a.length=m+1:=⟨a.length-1,by have:=cB.2 e;omega⟩;obtain ⟨o,g⟩:=Zw (show InB (10^9) a from AO h) e u m om;have n:(10:Nat)^9=B9:=de;rw[show a.length-1-m=0 by omega,eN,n] at o g;rw[x,g];have f:=TY (decide p) (aQ B9 a).toNat;unfold X6 at f;rw[aD om] at f;have s:XQ (decide p) (aQ B9 a).toNat=nF p (aQ B9 a):=by
  unfold XQ nF;by_cases c:p
  ·rw[aE (by simp[c]),aE c];omega
  rw[aD (by simp[c]),aD c];omega
 rw[<- s,<- f];by_cases c:p
 ·rw[aE c,aE (by simp[c])];rfl
 rw[aD c,aD (by simp[c])];rfl
def UM:Con:=aV 267 true fun args K=>match args with
 | [.agg [.bl p hp,.seq (.int .i64) a]]=>Need (Jg a) (K (S (itoa (@nF p hp (aQ B9 a)))))
 | _=>False
theorem WU:aM Tp UM:=by
 refine kO func267 fun c K h=>?_;simp only[UM] at h;split at h
 ·rename_i p e a;refine ⟨_,h.go,?_⟩;rw[<- M1 p h.ok];exact gH func267 ntmps267 (by simp[k157,k158,k160,WN,k159,UB,UD]) (b128 p e a ⟨AO h.ok,h.ok.2⟩)
 cases h
def gM (n:Int):Bx × Int:=if lim n then ([],4) else (itoa n,0)
theorem b96 (p:Prop)(e:Decidable p)(a:List Int)(h:Jg a):body Tp [UM,WK] {} true f239 [.agg [.bl p e,Ls a]] (.tup [S (gM (nF p (aQ B9 a))).1,I (gM (nF p (aQ B9 a))).2]):=by
 have f:=aR length (gA (nF p (aQ B9 a)));unfold gM lim;(repeat' first|refine ZG ?_|refine Zg fun _=>?_);(apply Br.mk<;>intro)
 ·rename_i c;rw[aE (by simp;omega)];exact ZF
 rename_i c;rw[aD (by simp;omega)];exact ZF
def YG:Con:=aV 239 true fun args K=>match args with
 | [.agg [.bl p hp,.seq (.int .i64) a]]=>Need (Jg a) (K (.tup [S (gM (@nF p hp (aQ B9 a))).1,I (gM (@nF p hp (aQ B9 a))).2]))
 | _=>False
theorem k96:aM Tp YG:=by
 refine kO func239 fun c K h=>?_;simp only[YG] at h;split at h
 ·rename_i p e a;exact ⟨_,h.go,gH func239 ntmps239 (by simp[WU,VH]) (b96 p e a h.ok)⟩
 cases h
def Aw (p:Prop)(m:Nat)(q:Prop)(n:Nat):Prop:=(((p↔q)\/n<=m)/\p)\/(¬((p↔q)\/n<=m)/\q)
instance (p:Prop) [Decidable p] (m:Nat) (q:Prop) [Decidable q] (n:Nat):Decidable (Aw p m q n):=by unfold Aw;infer_instance
def qJ (p:Prop)[Decidable p](m:Nat)(q:Prop)[Decidable q](n:Nat):Nat:=if p↔q then m+n else if n<=m then m-n else n-m
theorem FI (p:Prop)[Decidable p](m:Nat)(q:Prop)[Decidable q](n:Nat):nF (Aw p m q n) (qJ p m q n)=nF p m+nF q n:=by
 unfold nF Aw qJ;by_cases c:p<;>by_cases e:q<;>by_cases h:n<=m<;>simp[c,e,h]<;>omega
theorem uW {m k:Nat}(h:m<B9^k):(aJ B9 m).length<=k:=by
 rcases dF m with rfl | e
 ·rw[eC];exact aF _
 obtain ⟨c,_,f⟩:=kI (B:=B9) de e;have c:B9^ ((aJ B9 m).length-1)<=m:=by exact_mod_cast c
 have:=(fH (show 1<B9 by decide)).1 (bV c h);omega
theorem v9 (m:Nat):aQ B9 (aJ B9 m)=m:=jC de m
theorem b97 (p:Prop)(u:Decidable p)(m:Nat)(q:Prop)(x:Decidable q)(n:Nat)(o:m<B9^100)(s:n<B9^100):
  body Tp [T2,UE] {} false f253 [.agg [.bl p u,Ls (aJ B9 m)],.agg [.bl q x,Ls (aJ B9 n)]] (.agg [.bl (Aw p m q n) inferInstance,Ls (aJ B9 (qJ p m q n))]):=by
 have e:InB B9 (aJ B9 m):=dE de m;have f:InB B9 (aJ B9 n):=dE de n;have z:=uW o;have A:=uW s;have y:=Oh m n;have B:=v9 m;have C:=v9 n;(repeat refine ZG ?_);(apply Br.mk<;>intro)
 ·rename_i h;have e1:p↔Aw p m q n:=by unfold Aw;simp[h]
  have e2:(aQ B9 (aJ B9 m)+aQ B9 (aJ B9 n)).toNat=qJ p m q n:=by unfold qJ;rw[aE h];omega
  (repeat'((conv=>whnf);first|apply pI|apply pJ|fail));refine Need.mk ⟨e,f,om,om⟩ ?_;(repeat'((conv=>whnf);first|apply pJ|fail));(conv=>whnf);(repeat' first|exact trivial|apply aA)
  ·exact e1
  skip;exact aR (aJ B9) e2
 rename_i h;(conv=>whnf);refine Need.mk ⟨e,f⟩ ?_;(apply Br.mk<;>intro)
 ·rename_i g;have c:n<=m:=om;have e1:p↔Aw p m q n:=by unfold Aw;simp[c]
  have e2:(aQ B9 (aJ B9 m)-aQ B9 (aJ B9 n)).toNat=qJ p m q n:=by unfold qJ;rw[aD h,aE c];omega
  (repeat'((conv=>whnf);first|apply pI|apply pJ|fail));refine Need.mk ⟨e,f,om,om,om⟩ ?_;(repeat'((conv=>whnf);first|apply pJ|fail));(conv=>whnf);(repeat' first|exact trivial|apply aA)
  ·exact e1
  (conv=>whnf);exact aR (aJ B9) e2
 rename_i g;have c:¬n<=m:=om;have e1:q↔Aw p m q n:=by unfold Aw;simp[c,h]
 have e2:(aQ B9 (aJ B9 n)-aQ B9 (aJ B9 m)).toNat=qJ p m q n:=by unfold qJ;rw[aD h,aD c];omega
 (repeat'((conv=>whnf);first|apply pI|apply pJ|fail));refine Need.mk ⟨f,e,om,om,om⟩ ?_;(repeat'((conv=>whnf);first|apply pJ|fail));(conv=>whnf);(repeat' first|exact trivial|apply aA)
 ·exact e1
 (conv=>whnf);exact aR (aJ B9) e2
def Ed (a:List Int):Prop:=a=aJ B9 (aQ B9 a).toNat/\(aQ B9 a).toNat<B9^100
def YH:Con:=aV 253 false fun args K=>match args with
 | [.agg [.bl p hp,.seq (.int .i64) a],.agg [.bl q hq,.seq (.int .i64) b]]=>Need (Ed a/\Ed b) (K (.agg [.bl (Aw p (aQ B9 a).toNat q (aQ B9 b).toNat) inferInstance,Ls (aJ B9 (@qJ p hp (aQ B9 a).toNat q hq (aQ B9 b).toNat))]))
 | _=>False
theorem k97:aM Tp YH:=by
 refine kO func253 fun c K h=>?_;simp only[YH] at h;split at h
 ·rename_i p o a q s b;refine ⟨_,h.go,?_⟩;obtain ⟨⟨f,m⟩,g,n⟩:=h.ok;have e:=gH func253 ntmps253 (by simp[k107,V7]) (b97 p o (aQ B9 a).toNat q s (aQ B9 b).toNat m n);rw[<- f,<- g] at e;exact e
 cases h
theorem P0 {l k:Nat}(h:l<=9*k):(10:Nat)^l<=B9^k:=by
 have c:(10:Nat)^9=B9:=de;rw[<- c,<- Nat.pow_mul];exact bO om h
theorem rT {s:Bx}(h:gW s)(c:(digs s).length<=300):bH (digs s)<B9^34:=
 bE (iV (digs s) h.2.2) (P0 om)
theorem qK {s:Bx}:bK s=nF (s.headD 0=45) (bH (digs s):Nat):=by
 unfold bK nF digs;split
 ·rfl
 rfl
theorem Ji {s:Bx}(h:gW s)(c:(digs s).length<=300):Ed (aJ B9 (bH (digs s))):=by
 refine ⟨by rw[v9,aU],?_⟩;rw[v9,aU];exact bE (rT h c) (bO de om)
def mP (a b:Bx)(r:Bx × Int):Bx × Int:=if Av a b≠0 then ([],Av a b) else r
theorem xE {a b:Bx}(h:¬Av a b≠0):iO a=0/\iO b=0:=by
 unfold Av at h;split at h
 ·rename_i c;exact absurd c h
 rename_i c;exact ⟨bG.1 c,bG.1 h⟩
theorem yJ {n:Int}(h:n.natAbs<10^40):gM n=(itoa n,0):=by
 unfold gM lim;rw[aD];have:=qG 39 n.natAbs h;simp;omega
theorem P1 (p:Prop)[Decidable p](n:Int):nF (¬p) n= -nF p n:=by unfold nF;by_cases h:p<;>simp[h]
theorem UN (a b:Bx):nF (Aw (a.headD 0=45) (aQ B9 (aJ B9 (bH (digs a)))).toNat (¬b.headD 0=45) (aQ B9 (aJ B9 (bH (digs b)))).toNat) (aQ B9 (aJ B9 (qJ (a.headD 0=45) (aQ B9 (aJ B9 (bH (digs a)))).toNat (¬b.headD 0=45) (aQ B9 (aJ B9 (bH (digs b)))).toNat)))=bK a-bK b:=by
 simp only[v9,aU,FI,qK,P1];omega
theorem AL {P:Program}{f:FuncId}{args:List SV}{t:Ty}{ys:List t.T}{e:TypeId}(x:t.flat=true)(h:S4 P f args (.ref 0 1) t ys e):Tri P true f args (.seq t ys):=by
 intro A w vs y o z;refine (h A w vs y o z).mono ?_;rintro en w' ⟨v,L',rfl,hb,hL,⟨hlen,hmax,us,hown,hel⟩,hrel⟩;refine ⟨v,rfl,hb,?_⟩;cases hrel with
 | ref _ _ _ hn u hk hv=>
 have:=hv rfl;subst this;refine .seq t ys _ ?_;rcases cW hown with ⟨e1,e2,e3,e4⟩ | ⟨g,cur,e1,e2,e3,e4,e5,e6,s⟩
 ·exact ⟨none,0,0,by simp[Core.head,Pq,e1,e2,e3],om,aI _,aF _,fun h=>absurd h (iQ _)⟩
 have m:w.heap.size<=g:=hL g (by simp[e1]);have n:g<w'.heap.size:=(aH.1 e3).1;refine ⟨some ⟨g,0,none⟩,L'.len,L'.cap,by simp[Core.head,Pq,e1],hlen,e4,hmax,fun u=>⟨g,0,rfl,.inr ⟨m,n⟩,fun i hi=>⟨_,(hel i hi).length,?_,(hel i hi).flat x⟩⟩⟩;intro j v c;rw[aL] at c;split at c
 ·rw[aX,<- s,aL] at c;split at c
  ·simp only[iD,World.cell?,e3];simpa using c
  cases c
 cases c
def T3:Con:=aV 262 true fun args K=>match args with
 | [.seq (.int .i64) a,.seq (.int .i64) b]=>Need (InB B9 a/\InB B9 b/\a.length<=100000/\b.length<=100000) (K (Ls (aJ B9 (aQ B9 a*aQ B9 b).toNat)))
 | _=>False
theorem k99f:aM Tp T3:=by
 refine kO func262 fun c K h=>?_;simp only[T3] at h;split at h
 ·rename_i a b;exact ⟨_,h.go,AL rfl (gJ (by simp[AK,CU]) func262 (by simp[ntmps262]) rfl (b99 a b h.ok))⟩
 cases h
theorem FB (p q:Prop)[Decidable p][Decidable q](m n:Int):nF (¬(p↔q)) (m*n)=nF p m*nF q n:=by
 unfold nF;by_cases c:p<;>by_cases e:q<;>simp[c,e,Int.neg_mul,Int.mul_neg]
theorem FC {s:Bx}(h:gW s):(bK s).natAbs<10^s.length:=by
 obtain ⟨e,f,c⟩:=h;have g:=iV (digs s) c;have m:(10:Nat)^ (digs s).length<=10^s.length:=bO om (xC s).1;have n:bK s=bH (digs s)\/bK s= -(bH (digs s):Int):=by
  unfold bK digs;split
  ·exact .inr rfl
  exact .inl rfl
 omega
theorem Rp {a b:Bx}(g:gW a)(m:gW b)(h:a.length+b.length<=18):(bK a*bK b).natAbs<1000000000000000000:=by
 have e:=FC g;have f:=FC m;rw[cR];have c:(bK a).natAbs*(bK b).natAbs<10^a.length*10^b.length:=eV e f;rw[<- sO] at c;exact bE c (bA (bO om h) de)
theorem T4 (a b:Bx)(m:Nat)(c:Decidable (¬(a.headD 0=45↔b.headD 0=45)))(e:m=(aQ B9 (aJ B9 (bH (digs a)))*aQ B9 (aJ B9 (bH (digs b)))).toNat):nF (¬(a.headD 0=45↔b.headD 0=45)) (aQ B9 (aJ B9 m))=bK a*bK b:=by
 subst e;have:c=instDecidableNot:=Subsingleton.elim _ _;subst this;rw[v9,v9,v9,<- dG,aU,dG,FB,qK,qK]
theorem HI {a b:Bx}(e:gW a)(g:(digs a).length<=300)(f:gW b)(m:(digs b).length<=300):Jg (aJ B9 (aQ B9 (aJ B9 (bH (digs a)))*aQ B9 (aJ B9 (bH (digs b)))).toNat):=by
 refine Jh ?_;rw[v9,v9,<- dG,aU];have c:=eV (rT e g) (rT f m);rw[<- sO] at c;exact bE c (bO de om)
theorem b58 (a b:Bx):body Tp [YB,XW,WM,YE,T3,YG] {} true f252 [S a,S b] (.tup [S (mP a b (gM (bK a*bK b))).1,I (mP a b (gM (bK a*bK b))).2]):=by
 unfold mP;(apply Br.mk<;>intro)
 ·rename_i h;rw[aE h];exact ZF
 rename_i h;rw[aD h];obtain ⟨n,o⟩:=xE h;obtain ⟨c,g⟩:=mO n;obtain ⟨e,m⟩:=mO o;(repeat' first|refine ZG ?_|refine Zg fun _=>?_);(apply Br.mk<;>intro)
 ·rename_i x;have y:=Rp c e om;refine Need.mk ⟨rfl,c,e⟩ ?_;refine Br.mk (fun _=>?_) (fun u=>absurd (show a.length<=18/\b.length<=18 by omega) u);rw[yJ om];exact ZGF
 rename_i x;have f:=fun s=>T4 a b _ s rfl;refine Need.mk ⟨c,om⟩ ?_;refine Need.mk ⟨e,om⟩ ?_;have A:=uW (rT c g);have B:=uW (rT e m);(repeat'((conv=>whnf);first|apply pI|apply pJ|refine Zl ?_|fail));refine Need.mk ⟨dE de _,dE de _,om,om⟩ ?_;(repeat'((conv=>whnf);first|apply pI|apply pJ|fail));refine Need.mk (HI c g e m) ?_;(repeat'((conv=>whnf);first|apply pI|apply pJ|fail));(conv=>whnf);(repeat' first|exact trivial|rfl|apply aA)
 ·exact aR (fun z=>(gM z).1) (f _)
 exact aR (fun z=>(gM z).2) (f _)
def vZ (x y:Int):Int:=if x<y then -1 else if x=y then 0 else 1
def c119:Con:=aV 199 true fun | [.val (.int .i64 x)],K=>K (.val (.bool false)) | _,_=>False
theorem k119:aM Tp c119:=by
 refine kQ {} func199 ntmps199 kn fun _ _ h=>?_;split at h;case h_2=>cases h
 refine kb h ?_;(conv=>whnf);exact ⟨fun h=>absurd rfl h,fun h=>by cases h⟩
def c76:Con:=aV 176 true fun | [.val (.int .i64 x),.val (.int .i64 y)],K=>K (I (vZ x y)) | _,_=>False
theorem k76:aM Tp c76:=by
 refine kQ {} func176 ntmps176 (kc k119 kn) fun _ _ h=>?_;split at h;case h_2=>cases h
 refine kb h ?_;unfold vZ;(repeat'((conv=>whnf);first|refine Zr (fun _=>?_) fun _=>?_|fail));all_goals (skip;(conv=>whnf);(repeat' first|rfl|apply aA))
 all_goals (repeat' split)
 all_goals omega
def FD (a b:Bx)(r:Int):Int × Int:=if Av a b≠0 then (0,Av a b) else (r,0)
theorem T5 (p:Prop)[Decidable p](n:Nat)(x y:Int)(c:nF p (aQ B9 (aJ B9 n))=x-y):vZ x y=if ((aJ B9 n).length:Int)=0 then 0 else if p then -1 else 1:=by
 rw[v9] at c;have f:((aJ B9 n).length:Int)=0↔n=0:=by
  rw[<- wZ (B:=B9) de,<- cL];omega
 unfold nF at c;unfold vZ;by_cases e:n=0
 ·rw[aE (f.2 e)];subst e;have:x-y=0:=by rw[<- c];split<;>rfl
  rw[aD om,aE om]
 rw[aD (fun h=>e (f.1 h))];by_cases g:p
 ·rw[aE g] at c ⊢;rw[aE om]
 rw[aD g] at c ⊢;rw[aD om,aD om]
theorem b77 (a b:Bx):body Tp [YB,XW,YE,YH,c76] {} true f229 [S a,S b] (.tup [I (FD a b (vZ (bK a) (bK b))).1,I (FD a b (vZ (bK a) (bK b))).2]):=by
 unfold FD;(apply Br.mk<;>intro)
 ·rename_i h;rw[aE h];exact ZF
 rename_i h;rw[aD h];obtain ⟨n,o⟩:=xE h;obtain ⟨e,u⟩:=mO n;obtain ⟨f,x⟩:=mO o;refine Need.mk ⟨rfl,e,f⟩ ?_;(apply Br.mk<;>intro)
 ·skip;exact ZF
 have s:=UN a b;refine Need.mk ⟨e,om⟩ ?_;refine Need.mk ⟨f,om⟩ ?_;(repeat'((conv=>whnf);first|refine Zl ?_|fail));refine Need.mk ⟨Ji e u,Ji f x⟩ ?_;have c:=T5 _ _ _ _ s;(repeat' first|refine ZG ?_|refine Zg fun _=>?_);(apply Br.mk<;>intro)
 ·rename_i g;rw[aE g] at c;(conv=>whnf);(repeat' first|exact trivial|rfl|apply aA);exact c.symm
 rename_i g;rw[aD g] at c;(apply Br.mk<;>intro)
 ·rename_i m;rw[aE m] at c;(conv=>whnf);(repeat' first|exact trivial|rfl|apply aA);exact c.symm
 rename_i m;rw[aD m] at c;(conv=>whnf);(repeat' first|exact trivial|rfl|apply aA);exact c.symm
theorem w135 (a:Option Addr)(n c:Nat)(w:World):Calls Tp 263 #[.slice a n c] w fun e w'=>e= .returned (.func (.func 281) #[] #[.pointer (some ⟨w.heap.size,0,none⟩)])/\w'=w.alloc (.cells #[.slice a n c] 25):=by
 go_enter func263,ntmps263
 go_wp2
 go_ret
 exact ⟨rfl,rfl⟩
def SO:Con:=Kx 263 fun args H K=>match args with
 | [.ref nm k]=>(match bX H nm with
  | .vec j t xs e=>Need (j=k) <| K (.clo 281 [] [.lelem [.ref nm k] 0]) H
  | _=>False)
 | _=>False
theorem k135h:aM Tp SO:=by
 refine Bo (enters_of func263 kr rfl) ?_;intro x H K h;split at h;case h_2=>cases h
 rename_i c k;split at h;case h_2=>cases h
 rename_i j t E e B;obtain ⟨m,A⟩:=h;subst m;refine ⟨fun s H'=>s= .clo 281 [] [.lelem [.ref c j] 0]/\H'=H,fun s H' e=>by rw[e.1,e.2];exact A,?_⟩;intro G loc ver w vs D f n;cases n with
 | cons _ v1 _ vs1 h1 n=>
 cases n;obtain ⟨C,_⟩:=sH f h1 B;have y:=w135 ((loc c).blk.map fun p=>⟨p.1,p.2,none⟩) (loc c).len (loc c).cap w;rw[show (Value.slice ((loc c).blk.map fun p=>⟨p.1,p.2,none⟩) (loc c).len (loc c).cap)=v1 from C.symm] at y;refine y.mono ?_;rintro en w' ⟨rfl,rfl⟩;obtain ⟨g,z⟩:=f.grow (w':=w.alloc (.cells #[v1] 25)) ((Below.refl _ _).alloc (aI _) _);refine ⟨_,rfl,_,_,_,_,⟨rfl,rfl⟩,g,.clo _ _ _ _ _ .nil (.cons _ _ _ _ ?_ .nil),z⟩;refine .lelem _ 0 w.heap.size 0 [v1] (.cons _ _ _ _ (h1.ext z) .nil) ?_ ?_
 ·refine ⟨.inr (.inr f.size),si,?_⟩;rintro ⟨k,o,hk,hb⟩;have:=(f.objs k _ hk).block (b:=w.heap.size) hb;exact absurd this (by simp[envOf])
 intro i u hi;cases i with
 | zero=>
  simp at hi;subst hi;have:=mT w (.cells #[v1] 25);show (w.alloc (.cells #[v1] 25)).cell? ⟨w.heap.size,0+0,none⟩=some v1;unfold World.cell?;simp only[this];rfl
 | succ i=>simp at hi
abbrev XS (n k:Nat):List SV:=[I ((n-1-k:Nat)),.any]
theorem b166s (n:Nat):Qh Tp [] { asks:=[(0,[])] } f281 [.lelem [.sft none] 0] n (XS n):=by
 (repeat' first|refine ZG ?_|refine Zg fun _=>?_);refine Ask.mk ⟨{ X:=Nat,pre:=fun i=>i<=n,mod:=fun i _=>[(3,I ((n:Int)-1-i))],heap:=fun i _=>[.yst (some i) n (XS n)],mu:=fun i=>n-i },rfl,?_⟩;(repeat refine ZG ?_);refine ⟨⟨(0:Nat),aF _,ZE⟩,fun (i:Nat) (hi:i<=n)=>?_⟩;(apply Br.mk<;>intro)
 ·have c:i<n:=om;have e:((n:Int)-1-i)=((n-1-i:Nat):Int):=om;(repeat refine ZG ?_);refine iW (n-1-i) om ?_;(repeat'((conv=>whnf);first|refine Zn ?_|fail));refine Need.mk (by (repeat' first|exact trivial|rfl|apply aA);exact e) ?_;refine Two.mk ?_ ?_
  ·(repeat refine ZG ?_);refine ⟨(i+1:Nat),by show n-(i+1)<n-i;omega,c,?_⟩;exact ZE
  (conv=>whnf)
  trivial
 (conv=>whnf);omega
def MN:Con:=aV 281 false fun args K=>match args with | [.lelem [.sft none] 0]=>∃n,K (.itr n (XS n)) | _=>False
theorem k166s:aM Tp MN:=by
 refine kO func281 fun c K h=>?_;simp only[MN] at h;split at h
 ·obtain ⟨n,e⟩:=h;exact ⟨_,e,tN si func281 (by simp[ntmps281]) (b166s n)⟩
 cases h
end RB
end
section
namespace IB
theorem HA {B:Nat}(f:2<=B){w:List Int}(h:InB B w){j k:Nat}(u:2<=k)(m:j+k<w.length)(o:∀i,j+(k+1)<=i->w.getD i 0=0):
  aQ B (w.drop j)<((w.getD (j+k) 0*B+w.getD (j+k-1) 0)*B+w.getD (j+k-2) 0+1)*(B:Int)^ (k-2):=by
 have c:=mV (B:=B) (w.drop j) (k-2) (by rw[bT];omega);rw[dW,show j+(k-2)=j+k-2 by omega] at c;have b0:=nQ f (tQ (oR h j) (k-2)) (n:=k-2) (by rw[aW];omega);rw[fA w (j+k-2) om,show j+k-2+1=j+k-1 by omega,fA w (j+k-1) om,show j+k-1+1=j+k by omega,fA w (j+k) m] at c;have g:aQ B (w.drop (j+k+1))=0:=by
  have:w.drop (j+k+1)=List.replicate (w.length-(j+k+1)) 0:=by
   refine rR si fun i hi=>?_;have:=o (j+k+1+i) om;rw[bT] at hi;have e:j+k+1+i<w.length:=om;simpa [aB,aX,fO,hi,e] using this
  rw[this,wY]
 simp only[aQ,g,dO,fD] at c;have s:=kR f (k-2);generalize (B:Int)^ (k-2)=P at*;generalize w.getD (j+k) 0=x0 at*;generalize w.getD (j+k-1) 0=x1 at*;generalize w.getD (j+k-2) 0=x2 at*
 rw[c,show ((x0*B+x1)*B+x2+1)*P=P*(x2+B*(x1+B*x0))+P by
  rw[jU _ 1,iZ,bU _ P,iT _ x2,bU _ (B:Int),iT _ x1,bU x0]]
 omega
theorem PM {B:Nat}(e:2<=B){v:List Int}(h:InB B v)(f:2<=v.length):
  (v.getD (v.length-1) 0*B+v.getD (v.length-2) 0)*(B:Int)^ (v.length-2)<=aQ B v:=by
 have c:=mV (B:=B) v (v.length-2) om;have b0:=eB (tQ h (v.length-2));rw[fA v (v.length-2) om,show v.length-2+1=v.length-1 by omega,fA v (v.length-1) om,dK om] at c;simp only[aQ,dO,fD] at c;rw[bU,iT (v.getD (v.length-1) 0*(B:Int)),bU (v.getD (v.length-1) 0)];omega
theorem CN {B:Nat}(g:2<=B){u v:List Int}(hu:InB B u)(A:InB B v)(X:0<aQ B v){m:Nat}(hm:m+v.length=u.length)(h0:aQ B (u.drop m)<aQ B v)(Y:2<=v.length)(F:0<v.getD (v.length-1) 0)(s:Nat)(hs:s<m)(f:Nat):
  (∀i,m-1-s+(v.length+1)<=i->(gX B u v m s).1.getD i 0=0)/\
  0<=aQ B ((gX B u v m s).1.drop (m-1-s))/aQ B v/\aQ B ((gX B u v m s).1.drop (m-1-s))/aQ B v<B/\
  (∀top,top=(gX B u v m s).1.getD (m-1-s+v.length) 0*B+(gX B u v m s).1.getD (m-1-s+v.length-1) 0->
   aQ B ((gX B u v m s).1.drop (m-1-s))/aQ B v<=Vg B (v.getD (v.length-1) 0) (v.getD (v.length-2) 0) ((gX B u v m s).1.getD (m-1-s+v.length-2) 0) f (top/v.getD (v.length-1) 0) (top%v.getD (v.length-1) 0)/\
   Vg B (v.getD (v.length-1) 0) (v.getD (v.length-2) 0) ((gX B u v m s).1.getD (m-1-s+v.length-2) 0) f (top/v.getD (v.length-1) 0) (top%v.getD (v.length-1) 0)<=top/v.getD (v.length-1) 0):=by
 obtain ⟨h1,e,h3,h4,K,h6⟩:=yC g hu A X hm h0 s om;obtain ⟨j,hj⟩:∃j,m-1-s=j:=⟨_,rfl⟩;have e1:m-s=j+1:=om;rw[hj];rw[e1] at K;generalize (gX B u v m s).1=w at h1 e K ⊢;have hw:aQ B (w.drop j)=w.getD j 0+(B:Int)*aQ B (w.drop (j+1)):=by rw[fA w j om];rfl
 have g1:=e.get (show j<w.length by omega);have a0:=vX A;have Z:∀i,j+(v.length+1)<=i->w.getD i 0=0:=fun i hi=>by
  have:=Rn g (oR e (j+1)) (n:=v.length) om (i-(j+1)) om;rw[Fr] at this;rwa [show j+1+(i-(j+1))=i by omega] at this
 have E:=eB (oR e j);have y:aQ B (w.drop j)<(B:Int)*aQ B v:=by
  have:(B:Int)*(aQ B (w.drop (j+1))+1)<=B*aQ B v:=aZ om om;rw[cY,fR] at this;omega
 have J:=HA g e Y om Z;have t2:=PM g A Y;obtain ⟨W,hW⟩:∃W,aQ B (w.drop j)=W:=⟨_,rfl⟩;rw[hW] at y E J ⊢;have c:0<=W/aQ B v:=eF om om;have x:W/aQ B v*aQ B v<=W:=oU _ om;have o:W/aQ B v<B:=fK X y;refine ⟨Z,c,o,?_⟩;rintro top rfl;have z:=kR g (v.length-2);have x2:=e.get (show j+v.length-2<w.length by omega);have C:(0:Int)<B:=om;have D:(0:Int)<B*(B:Int)^ (v.length-2):=Int.mul_pos C z;have w2:=A.get (show v.length-2<v.length by omega);refine E5 z om t2 om J o c x f _ _ ?_ ?_
 ·rw[bU (_/ _) _];exact (Int.mul_ediv_add_emod _ _).symm
 refine G6 (B:=(B:Int)) (P:=B*(B:Int)^ (v.length-2)) D F ?_ ?_ c x
 ·refine kX ?_ t2;rw[<- cV];exact bR om (eM z)
 refine Int.lt_of_lt_of_le J ?_;rw[<- cV];refine bR ?_ (eM z);rw[jU _ 1,iZ];omega
theorem CO {B:Nat}(e:2<=B){u v:List Int}(g:InB B u)(n:InB B v)(A:1<=v.length)(o:0<v.getD (v.length-1) 0){m:Nat}(C:m+v.length=u.length)(s:u.getD (u.length-1) 0=0):aQ B (u.drop m)<aQ B v/\0<aQ B v:=by
 have c:=mV (B:=B) v (v.length-1) om;have b0:=eB (tQ n (v.length-1));rw[fA v (v.length-1) om,dK om] at c;simp only[aQ,dO,fD] at c;have z:=kR e (v.length-1);have x:(B:Int)^ (v.length-1)*1<=(B:Int)^ (v.length-1)*v.getD (v.length-1) 0:=aZ om om;have y:aQ B (u.drop m)<(B:Int)^ (v.length-1):=E4 e (oR g m) fun i hi=>by
  rw[Fr];by_cases f:m+i<u.length
  ·rw[show m+i=u.length-1 by omega];exact s
  exact mN _ _ om
 omega
theorem Ro {B:Nat}(c:2<=B){n k:Nat}(A:1<=k)(m:B^ (k-1)<=n)(o:n<B^k):
  (aJ B n).length=k/\(aJ B n).getD (k-1) 0*(B:Int)^ (k-1)<=n/\(n:Int)<((aJ B n).getD (k-1) 0+1)*(B:Int)^ (k-1):=by
 have C:0<B^ (k-1):=Nat.pow_pos om;obtain ⟨e,f,z⟩:=kI c (n:=n) om;have e:B^ ((aJ B n).length-1)<=n:=by exact_mod_cast e
 have f:n<B^ (aJ B n).length:=by exact_mod_cast f
 have u:=(fH (show 1<B by omega)).1 (bV e o);have x:=(fH (show 1<B by omega)).1 (bV m f);have s:(aJ B n).length=k:=om;have hi:=dE c n;have g:=mV (B:=B) (aJ B n) (k-1) om;have b0:=eB (tQ hi (k-1));have y:=nQ c (tQ hi (k-1)) (n:=k-1) (by rw[aW];omega);rw[fA _ (k-1) om,dK om,jC c] at g;simp only[aQ,dO,fD] at g;refine ⟨s,?_,?_⟩
 ·rw[bU];omega
 rw[jU,iZ,bU];omega
theorem scale {B:Nat}(e:2<=B){n:Nat}(X:0<n){f:Nat}(u:(f:Int)=(B:Int)/((aJ B n).getD ((aJ B n).length-1) 0+1)):
  0<f/\f<B/\(aJ B (n*f)).length=(aJ B n).length/\(B:Int)<=4*(aJ B (n*f)).getD ((aJ B (n*f)).length-1) 0:=by
 obtain ⟨g,m,s⟩:=kI e X;have g:B^ ((aJ B n).length-1)<=n:=by exact_mod_cast g
 have m:n<B^ (aJ B n).length:=by exact_mod_cast m
 obtain ⟨k,F⟩:∃k,(aJ B n).length=k:=⟨_,rfl⟩;rw[F] at g m s u ⊢;obtain ⟨_,o,t2⟩:=Ro e s g m;have A:=(dE e n).get (show k-1<(aJ B n).length by omega);have D:(aJ B n).getD (k-1) 0≠0:=by
  have z:aJ B n≠ []:=by rw[<- cB];omega
  have:=yB e n z;rw[List.getLast_eq_getElem] at this;rw[aB,aY om,lK];simpa [F] using this
 obtain ⟨t,C⟩:∃t:Nat,(aJ B n).getD (k-1) 0=t:=⟨_,(bL A.1).choose_spec⟩;rw[C] at u o t2 A D;obtain ⟨f1,f2,f3⟩:=CM (B:=(B:Int)) (t:=(t:Int)) (f:=(f:Int)) om A.2 u;have f2:f*(t+1)<=B:=by exact_mod_cast f2
 have f3:B<=4*(f*t):=by exact_mod_cast f3
 have o:t*B^ (k-1)<=n:=by exact_mod_cast o
 have t2:n<(t+1)*B^ (k-1):=by exact_mod_cast t2
 have c:0<f:=om;have J:f*t*B^ (k-1)<=n*f:=by
  rw[gT,dY n f];exact jN f o
 have Z:n*f<f*(t+1)*B^ (k-1):=by
  rw[gT,dY n f];exact Nat.mul_lt_mul_of_pos_left t2 c
 have u3:f*(t+1)*B^ (k-1)<=B^k:=by
  rw[show B^k=B*B^ (k-1) by rw[<- Nat.pow_succ'];congr 1;omega];exact aN _ f2
 have y:1<=f*t:=sM c om;have u4:B^ (k-1)<=n*f:=bA (by rw[<- cX (B^ (k-1)),<- gT,pX];exact aN _ y) J;obtain ⟨K,v2,v3⟩:=Ro e s u4 (bE Z u3);have x:f<B:=by
  have:f*2<=f*(t+1):=jN f om;omega
 refine ⟨c,x,K,?_⟩;rw[K];have Y:(0:Int)<(B:Int)^ (k-1):=kR e (k-1);have E:(f:Int)*t*(B:Int)^ (k-1)<=((n*f:Nat):Int):=by exact_mod_cast J
 have:(f:Int)*t<(aJ B (n*f)).getD (k-1) 0+1:=nY (Int.lt_of_le_of_lt E v3) (eM Y);have W:(B:Int)<=4*((f:Int)*t):=by exact_mod_cast f3
 omega
theorem HB {B:Nat}(c:2<=B)(n k:Nat):InB B (aJ B n++List.replicate k 0)/\aQ B (aJ B n++List.replicate k 0)=n/\(0<k->(aJ B n++List.replicate k 0).getD ((aJ B n++List.replicate k 0).length-1) 0=0):=by
 refine ⟨InB.append.2 ⟨dE c n,fun x e=>?_⟩,?_,fun f=>?_⟩
 ·rw[(mI.1 e).2];omega
 ·rw[pC,wY,dO,fD,jC c]
 rw[aB,cN (by simp;omega)];simp[fO];split<;>rfl
theorem HC {B:Nat}(o:2<=B){m f:Nat}(u:f<B):(aJ B (m*f)).length<=(aJ B m).length+1:=by
 rcases dF m with rfl | s
 ·rw[qL,eC];exact aF _
 rcases dF f with rfl | e
 ·rw[Nat.mul_zero,eC];exact aF _
 obtain ⟨x,c,y⟩:=kI o s;have c:m<B^ (aJ B m).length:=by exact_mod_cast c
 obtain ⟨g,_,_⟩:=kI o (n:=m*f) (sM s e);have g:B^ ((aJ B (m*f)).length-1)<=m*f:=by exact_mod_cast g
 have:m*f<B^ ((aJ B m).length+1):=by
  rw[hU];exact eV c u
 have:=(fH (show 1<B by omega)).1 (bV g this);omega
end IB
end
section
open Go Go.Proofs Go.Eng Go.Shelf IB Go.Lib Go.RowKit Tryz
namespace RB
theorem MO {n:Nat}(h:(aJ B9 n).length=1):(aJ B9 n).getD 0 0=n/\n<1000000000:=by
 have e:=v9 n;have c:=qU (show InB B9 (aJ B9 n) from dE de n) 0;cases hl:aJ B9 n with
 | nil=>rw[hl] at h;simp at h
 | cons x r=>
  have f:r= []:=by rw[hl] at h;simpa using h
  subst f;rw[hl] at e c;simp only[aQ,dO,fD] at e;refine ⟨e,?_⟩;have c:0<=x/\x<1000000000:=c;omega
theorem MP (l:List Int)(k:Nat):l++List.replicate k 0++ [0]=l++List.replicate (k+1) 0:=by
 rw[bW,<- sQ]
theorem b106 (m n:Nat)(hm:m<B9^100)(Y:0<n/\n<B9^100):
  body Tp [UE,WD,c99,SO,MN,UF,WF,WH,MM] { asks:=[(0,[3]),(2,[3]),(4,[3])] } false f238 [Ls (aJ B9 m),Ls (aJ B9 n)] (.tup [Ls (aJ B9 (m/n)),Ls (aJ B9 (m%n))]):=by
 obtain ⟨C,Y⟩:=Y;have im:InB B9 (aJ B9 m):=dE de m;have jn:InB B9 (aJ B9 n):=dE de n;have lm:=uW hm;have ln:=uW Y;have hc:=Oh m n;have vm:=v9 m;have vn:=v9 n;refine Need.mk ⟨im,jn⟩ ?_;(apply Br.mk<;>intro)
 ·rename_i h;have g:m<n:=om;rw[Nat.div_eq_of_lt g,fT g,eC];exact ZF
 rename_i h;have a8:n<=m:=om;(repeat'((conv=>whnf);first|refine Zg fun _=>?_|fail));(apply Br.mk<;>intro)
 ·rename_i h1;obtain ⟨E,a7⟩:=MO (n:=n) om;(repeat'((conv=>whnf);first|refine Zg fun _=>?_|refine Zn ?_|refine Z0 ?_|fail));refine Need.mk ⟨im,om,om⟩ ?_;(conv=>whnf);have e1:(aQ B9 (aJ B9 m)/(aJ B9 n).getD 0 0).toNat=m/n:=by rw[vm,E,<- oG,aU]
  have e2:(aQ B9 (aJ B9 m)% (aJ B9 n).getD 0 0).toNat=m%n:=by rw[vm,E,<- rW,aU]
  (repeat' first|exact trivial|apply aA)
  ·exact aR (aJ B9) e1
  exact aR (aJ B9) e2
 rename_i h1;have hk:2<=(aJ B9 n).length:=by
  have:=(kI (B:=B9) de C).2.2;omega
 have ht:=qU jn ((aJ B9 n).length-1);obtain ⟨f,hf⟩:∃f:Nat,(f:Int)=1000000000/((aJ B9 n).getD ((aJ B9 n).length-1) 0+1):=⟨_,(bL (eF om om)).choose_spec.symm⟩;obtain ⟨f0,W,sl,st⟩:=scale (B:=B9) de C hf;have st:(1000000000:Int)<=4*(aJ B9 (n*f)).getD ((aJ B9 (n*f)).length-1) 0:=st;have W:f<1000000000:=W;(repeat' first|refine ZG ?_|refine Zg fun _=>?_);refine iW ((aJ B9 n).length-1) om ?_;(repeat' first|refine ZG ?_|refine Zg fun _=>?_);rw[<- hf];have J:InB B9 [(f:Int)]:=fun x E=>by
  have:x=f:=by simpa using E
  subst this;exact ⟨om,by show (f:Int)<1000000000;omega⟩
 have ef:∀k:Nat,(aQ B9 (aJ B9 k)*aQ B9 [(f:Int)]).toNat=k*f:=fun k=>by
  rw[v9,show aQ B9 [(f:Int)]=f by simp[aQ],<- dG,aU]
 refine Need.mk ⟨im,J,om,by show 1<=100000;omega⟩ ?_;rw[ef];have sm:=HC (B:=B9) de (m:=m) (show f<B9 from W);(repeat'((conv=>whnf);first|refine Zn ?_|refine Zl ?_|fail));refine Need.mk ⟨jn,J,om,by show 1<=100000;omega⟩ ?_;rw[ef];have ka:(aJ B9 n).length<=(aJ B9 m).length:=aS fun E=>by
  have:=pV (B:=B9) de (m:=m) (n:=n) om;omega
 refine Ask.mk ⟨{ X:=Nat,pre:=fun i=>(aJ B9 (m*f)).length+i<=(aJ B9 m).length+1,mod:=fun _ _=>[],heap:=fun i H=>[V [],.cells [.ref 0 1] 25,V [],V (aJ B9 (m*f)++List.replicate (i+1) 0),V (aJ B9 (n*f)),V [],.cells [.ref 3 1] 25,V [],.cells [.ref 4 1] 25],mu:=fun i=>(aJ B9 m).length+1-(aJ B9 (m*f)).length-i,objs:=[3] },rfl,?_⟩;(repeat refine ZG ?_);refine ⟨⟨(0:Nat),sm,?_⟩,fun (i:Nat) hi=>?_⟩
 ·exact ZE
 have hi:(aJ B9 (m*f)).length+i<=(aJ B9 m).length+1:=hi;have a5:(aJ B9 (m*f)++List.replicate (i+1) (0:Int)).length=(aJ B9 (m*f)).length+(i+1):=by simp
 (repeat' first|refine ZG ?_|refine Zg fun _=>?_);(apply Br.mk<;>intro)
 ·rename_i g;(repeat refine ZG ?_);refine ⟨(i+1:Nat),by show (aJ B9 m).length+1-(aJ B9 (m*f)).length-(i+1)<(aJ B9 m).length+1-(aJ B9 (m*f)).length-i;omega,by show _+(i+1)<= _;omega,?_⟩;(repeat' first|exact trivial|rfl|exact Nat.one_pos|apply aA);exact MP _ _
 rename_i a0;have a0:(aJ B9 m).length+1<=(aJ B9 (m*f)).length+(i+1):=om;obtain ⟨K,vu,zu⟩:=HB (B:=B9) de (m*f) (i+1);have zu:=zu om;have y:InB B9 (aJ B9 (n*f)):=dE de _;obtain ⟨u,hu⟩:∃u,aJ B9 (m*f)++List.replicate (i+1) (0:Int)=u:=⟨_,rfl⟩;rw[hu] at K vu zu a5 ⊢;obtain ⟨v,hv⟩:∃v,aJ B9 (n*f)=v:=⟨_,rfl⟩;have vv:aQ B9 v=((n*f:Nat):Int):=by rw[<- hv];exact v9 _
 rw[hv] at st sl y ⊢;obtain ⟨M,hM⟩:∃M,u.length-v.length=M:=⟨_,rfl⟩;have z:M+v.length=u.length:=om;obtain ⟨s1,Z⟩:=CO (B:=B9) de K y om om z zu;(repeat' first|refine ZG ?_|refine Zg fun _=>?_);rw[show ((u.length:Int)-v.length)=(M:Int) by omega];have a6:250000000<=v.getD (v.length-1) 0:=om;have o:=yC (B:=B9) de K y Z z s1;refine Ask.mk ⟨{ X:=Nat,pre:=fun s=>s<=M,mod:=fun _ _=>[],heap:=fun s H=>[V [],.cells [.ref 9 1] 25,V [],V (gX B9 u v M s).1,V v,V [],.cells [.ref 3 1] 25,V [],.cells [.ref 4 1] 25,V (gX B9 u v M s).2],mu:=fun s=>s,objs:=[3] },rfl,?_⟩;refine ⟨M,?_⟩;(conv=>whnf);refine Need.mk ⟨⟨rfl,rfl,si⟩,fun s hs=>⟨rfl,rfl,(o s hs).2.2.1⟩⟩ ?_;(repeat refine ZG ?_);refine ⟨⟨(0:Nat),rfl,aF _,?_⟩,fun (s:Nat) hs (g:s<M)=>?_,fun (s:Nat) hs (he:s=M)=>?_⟩
 ·exact ZE
 ·obtain ⟨w1,A,w3,w4,w5,w6⟩:=o s om;obtain ⟨r1,r2,r3,r4⟩:=CN (B:=B9) de K y Z z s1 om om s g 8;have e:(gX B9 u v M (s+1)).1=(fN B9 (gX B9 u v M s).1 v (M-1-s) (aQ B9 ((gX B9 u v M s).1.drop (M-1-s))/aQ B9 v) (v.length+1)).1:=rfl;have c:(gX B9 u v M (s+1)).2=(gX B9 u v M s).2.set (M-1-s) (aQ B9 ((gX B9 u v M s).1.drop (M-1-s))/aQ B9 v):=rfl;obtain ⟨w,hw⟩:∃w,(gX B9 u v M s).1=w:=⟨_,rfl⟩;obtain ⟨p,hp⟩:∃p,(gX B9 u v M s).2=p:=⟨_,rfl⟩;obtain ⟨j,hj⟩:∃j,M-1-s=j:=⟨_,rfl⟩;obtain ⟨Q,hQ⟩:∃Q,aQ B9 (w.drop j)/aQ B9 v=Q:=⟨_,rfl⟩;rw[hw] at w1 A w5 w6 r1 r2 r3 r4 e c;rw[hp] at w3 w4 w6 c;rw[hj] at r1 r2 r3 r4 e c;rw[hQ] at r2 r3 r4 e c;show nD (XS M s) _;(repeat'((conv=>whnf);first|refine Zg fun _=>?_|fail));(conv=>whnf);rw[hw,hj];refine Need.mk ⟨A,y,om,om,a6,om,om⟩ ?_;rw[aU];have g0:=qU A (j+v.length);have g1:=qU A (j+v.length-1);have hT:0<=wA w v j/\wA w v j<1000000000000000000:=by unfold wA;omega
  have a3:wA w v j/v.getD (v.length-1) 0<=4000000000:=by
   refine kX (xI om (show wA w v j<=4000000000*v.getD (v.length-1) 0 by omega)) ?_;rw[Int.mul_ediv_cancel _ om];exact vR _
  have r5:Q<=CY w v j/\CY w v j<=4000000000:=⟨(r4 (wA w v j) rfl).1,kX (r4 (wA w v j) rfl).2 a3⟩;obtain ⟨q0,F⟩:∃q0,CY w v j=q0:=⟨_,rfl⟩;rw[F] at r5;refine Ask.mk ⟨{ X:=Int,pre:=fun q=>Q<=q/\q<=4000000000,mod:=fun q _=>[(10,I q)],heap:=fun q H=>[V [],.cells [.ref 9 1] 25,V [],V w,V v,V [],.cells [.ref 3 1] 25,V [],.cells [.ref 4 1] 25,V p,.gone],mu:=fun q=>(q-Q).toNat,objs:=[3] },rfl,?_⟩;(repeat refine ZG ?_);refine ⟨⟨q0,r5,?_⟩,fun (q:Int) hq=>?_⟩
  ·(repeat' first|exact trivial|rfl|exact Nat.one_pos|apply aA)
   ·exact F
   exact hp
  obtain ⟨q1,q2⟩:=hq;have q1:Q<=q:=q1;obtain ⟨k1,k2,k3,_⟩:=rS (B:=B9) de A y (j:=j) (q:=q) om (v.length+1) om;obtain ⟨k4,_⟩:=AD (B:=B9) de A y (j:=j) (q:=q) om om r1;have D:=CL (B:=B9) de A y (j:=j) (q:=q) om (k:=v.length+1) om;have kQ:q*aQ B9 v<=aQ B9 (w.drop j)↔q<=Q:=by rw[<- hQ,iA Z]
  refine Need.mk ⟨A,y,om,om,om,om⟩ ?_;rw[aU];(apply Br.mk<;>intro)
  ·rename_i hc;have VD:Q<q:=by
    refine aS fun E=>?_;have:=k4.2 (kQ.2 om);omega
   refine Need.mk ⟨k2,y,om,om,om,om⟩ ?_;(repeat refine ZG ?_);refine ⟨q-1,?_,⟨by show Q<=q-1;omega,by show q-1<=4000000000;omega⟩,?_⟩
   ·show (q-1-Q).toNat<(q-Q).toNat;omega
   (repeat' first|exact trivial|rfl|exact Nat.one_pos|apply aA);exact D
  rename_i hc;have a4:q=Q:=by
   have:=kQ.1 (k4.1 om);omega
  subst a4;(repeat refine ZG ?_);refine ⟨(s+1:Nat),rfl,g,?_⟩;(repeat' first|exact trivial|rfl|exact Nat.one_pos|apply aA)
  ·exact e.symm
  exact c.symm
 subst he;obtain ⟨a1,a2⟩:=G7 (B:=B9) de K y Z z s1;have e1:(aQ B9 u/aQ B9 v).toNat=m/n:=by
  rw[vu,vv,<- oG,aU,Nat.mul_div_mul_right _ _ f0]
 have e2:(aQ B9 u%aQ B9 v).toNat=m%n*f:=by
  rw[vu,vv,<- rW,aU,Nat.mul_mod_mul_right]
 rw[e1] at a1;rw[e2] at a2;have hr:m%n*f<B9^101:=by
  rw[hU];exact eV (oF (gP m C) Y) W
 have lr:=uW hr;(conv=>whnf);rw[a2];refine Need.mk ⟨dE de _,om,om⟩ ?_;have e3:(aQ B9 (aJ B9 (m%n*f))/(f:Int)).toNat=m%n:=by
  rw[v9,<- oG,aU,Nat.mul_div_cancel _ f0]
 rw[e3];(conv=>whnf);(repeat' first|exact trivial|rfl|apply aA);exact a1
def V0:Con:=aV 238 false fun args K=>match args with
 | [.seq (.int .i64) a,.seq (.int .i64) b]=>Need (Ed a/\Ed b/\b≠ []) (K (.tup [Ls (aJ B9 ((aQ B9 a).toNat/(aQ B9 b).toNat)),Ls (aJ B9 ((aQ B9 a).toNat% (aQ B9 b).toNat))]))
 | _=>False
theorem CW {b:List Int}(h:Ed b)(e:b≠ []):0<(aQ B9 b).toNat:=by
 refine dX fun c=>e ?_;rw[h.1,c,eC]
theorem k106:aM Tp V0:=by
 refine kO func238 fun e K h=>?_;simp only[V0] at h;split at h
 ·rename_i a b;refine ⟨_,h.go,?_⟩;obtain ⟨⟨n,o⟩,⟨f,g⟩,c⟩:=h.ok;have m:=gH func238 ntmps238 (by simp[V7,k134,k99,k135h,k166s,k136,k137,k138,CU]) (b106 (aQ B9 a).toNat (aQ B9 b).toNat o ⟨CW ⟨f,g⟩ c,g⟩);rw[<- n,<- f] at m;exact m
 cases h
theorem Ny {P:Program}{g:Bool}{f:FuncId}{args c:List SV}{r:SV}(h:Tri P g f args r)(m:ent.entL c args):Tri P g f c r:=
 fun ok w vs n e o=>h ok w vs n e (jH m o)
def V1:Con:=aV 239 true fun args K=>match args with
 | [.agg [.val (.bool false),.seq (.int .i64) a]]=>Need (Jg a) (K (.tup [S (gM (aQ B9 a)).1,I (gM (aQ B9 a)).2]))
 | _=>False
theorem k96g:aM Tp V1:=by
 refine kO func239 fun args K h=>?_;simp only[V1] at h;split at h
 ·rename_i a;refine ⟨_,h.go,?_⟩;have c:=gH func239 ntmps239 (by simp[WU,VH]) (b96 False inferInstance a h.ok);refine Ny (args:=[.agg [.bl False inferInstance,Ls a]]) c ⟨⟨fun h=>h,?_,trivial⟩,trivial⟩;rfl
 cases h
theorem Fw (x y:Int):Int.gcd y (x.tmod y)=Int.gcd x y:=by
 unfold Int.gcd;rw[kK,qS,<- Nat.gcd_rec,qS]
theorem yG (p:Prop)[Decidable p](n:Nat):(nF p n).natAbs=n:=by unfold nF;split<;>omega
theorem Nz {m:Nat}(h:m<B9^34):Ed (aJ B9 m):=by
 refine ⟨by rw[v9,aU],?_⟩;rw[v9,aU];exact bE h (bO de om)
def X7:Con:=aV 214 true fun | [.str a,.str b],K=>K (.tup [S (mP a b (gM (Int.gcd (bK a) (bK b)))).1,I (mP a b (gM (Int.gcd (bK a) (bK b)))).2]) | _,_=>False
theorem k89:aM Tp X7:=by
 refine kQ { asks:=[(0,[]),(2,[])] } func214 ntmps214 (kc YC (kc YD (kc WN (kc YF (kc k106 (kc k96g kn)))))) fun _ _ h=>?_;split at h;case h_2=>cases h
 rename_i a b;refine kb h ?_;unfold mP;(apply Br.mk<;>intro)
 ·rename_i h;rw[aE h];exact ZF
 rename_i h;rw[aD h];obtain ⟨x,y⟩:=xE h;obtain ⟨m,D⟩:=mO x;obtain ⟨n,E⟩:=mO y;refine Need.mk ⟨rfl,m,n⟩ ?_;(apply Br.mk<;>intro)
 ·rename_i s;have K:=xD m s.1;have W:=xD n s.2;refine Ask.mk ⟨{ X:=Int × Int,pre:=fun z=>Int.gcd z.1 z.2=Int.gcd (bK a) (bK b)/\z.1.natAbs<=1000000000000000000/\z.2.natAbs<=1000000000000000000,mod:=fun z _=>[(7,I z.1),(8,I z.2)],heap:=fun _ _=>[],mu:=fun z=>z.2.natAbs },rfl,?_⟩;(repeat refine ZG ?_);refine ⟨⟨(bK a,bK b),⟨rfl,by show (bK a).natAbs<= _;omega,by show (bK b).natAbs<= _;omega⟩,ZE⟩,fun (z:Int × Int) hz=>?_⟩;obtain ⟨f,u,g⟩:=hz;(apply Br.mk<;>intro)
  ·rename_i c;have C:(z.1.tmod z.2).natAbs<z.2.natAbs:=by rw[kK];exact gP _ om
   (repeat'((conv=>whnf);first|refine Zb ?_|apply pI|apply pJ|fail));(conv=>whnf);refine ⟨(z.2,z.1.tmod z.2),C,⟨by rw[<- f];exact Fw _ _,g,by show (z.1.tmod z.2).natAbs<= _;omega⟩,?_⟩;exact ZE
  rename_i c;have c:z.2=0:=om;have A:((Int.gcd (bK a) (bK b):Nat):Int)=max z.1 (-z.1):=by
   rw[<- f,c,pF];omega
  rw[A,yJ om];exact ZGF
 rename_i s;refine Need.mk ⟨m,om⟩ ?_;refine Need.mk ⟨n,om⟩ ?_;have F:=rT m D;have J:=rT n E;have o:Int.gcd (bK a) (bK b)=Nat.gcd (bH (digs a)) (bH (digs b)):=by
  unfold Int.gcd;rw[qK,qK,yG,yG]
 rw[o];refine Ask.mk ⟨{ X:=Nat × Nat,pre:=fun z=>Nat.gcd z.1 z.2=Nat.gcd (bH (digs a)) (bH (digs b))/\z.1<B9^34/\z.2<B9^34,mod:=fun z _=>[(10,Ls (aJ B9 z.1)),(11,Ls (aJ B9 z.2))],heap:=fun _ _=>[],mu:=fun z=>z.2 },rfl,?_⟩;(repeat refine ZG ?_);refine ⟨⟨(bH (digs a),bH (digs b)),⟨rfl,F,J⟩,ZE⟩,fun (z:Nat × Nat) hz=>?_⟩;obtain ⟨f,u,g⟩:=hz;(repeat'((conv=>whnf);first|refine Zg fun _=>?_|fail));(apply Br.mk<;>intro)
 ·rename_i c;have c:0<z.2:=dX fun e=>by rw[e,eC] at c;exact absurd c de
  refine Need.mk ⟨Nz u,Nz g,fun e=>by rw[wZ de] at e;omega⟩ ?_;rw[v9,v9,aU,aU];refine ⟨(z.2,z.1%z.2),gP _ c,⟨by rw[<- f];show Nat.gcd z.2 (z.1%z.2)= _;rw[qS z.1 z.2,Nat.gcd_rec z.2 z.1];exact qS _ _,g,oF (gP _ c) g⟩,?_⟩;exact ZE
 rename_i c;have c:z.2=0:=(wZ (B:=B9) de).1 (cK om);rw[c,Nat.gcd_zero_right] at f;rw[<- f];refine Need.mk (Jh (bE u (bO de om))) ?_;rw[v9];exact ZF
end RB
end
section
namespace IB
open Go.Lib
def gS:Bx->Nat
 | []=>0
 | c::r=>if 48<=c.toNat/\c.toNat<=57 then gS r+1 else 0
theorem Vh:∀s,gS s<=s.length
 | []=>aI _
 | c::r=>by
  unfold gS;split
  ·have:=Vh r;simp only[cF];omega
  omega
theorem Nv:∀s:Bx,∀c∈s.take (gS s),dN c
 | [],c,h=>by simp at h
 | x::r,c,h=>by
  unfold gS at h;split at h
  ·rename_i e;rw[List.take_succ_cons] at h;rcases bY.1 h with rfl | h
   ·exact e
   exact Nv r c h
  simp at h
theorem Ft:∀(s:Bx) (n:Nat),n<=s.length->(∀i,i<n->dN (s.getD i 0))->(n=s.length\/¬dN (s.getD n 0))->gS s=n
 | [],n,h1,_,_=>by simp at h1;subst h1;rfl
 | c::r,0,_,_,e=>by
  rcases e with e | e
  ·simp at e
  unfold gS;rw[aD];exact e
 | c::r,n+1,h1,h2,e=>by
  have f:48<=c.toNat/\c.toNat<=57:=h2 0 om;unfold gS
  rw[aE f,Ft r n (by simpa using h1) (fun i hi=>h2 (i+1) om) (by
   rcases e with e | e
   ·exact .inl (by simpa using e)
   exact .inr e)]
theorem L2 {s:Bx}:gS s=s.length↔∀c∈s,dN c:=by
 constructor
 ·intro h c e;have:=Nv s c;rw[h,cG] at this;exact this e
 intro h
 exact Ft s s.length (aI _) (fun i hi=>by
  rw[aB,aY hi]
  exact h _ (iL hi)) (.inl rfl)
def Jx (s:Bx):Nat:=if 1<gS s/\s.headD 0=48 then 0 else gS s
def Dx (s:Bx):Prop:=Jx s≠0/\s.length<=Jx s
theorem qH (s:Bx):Dx s↔s≠ []/\(∀c∈s,dN c)/\(s.length=1\/s.headD 0≠48):=by
 have n:=Vh s;unfold Dx Jx;rw[<- L2];by_cases h:1<gS s/\s.headD 0=48
 ·rw[aE h];refine ⟨fun m=>absurd rfl m.1,?_⟩;rintro ⟨_,h2,f⟩;rcases f with f | f
  ·omega
  exact absurd h.2 f
 rw[aD h];constructor
 ·rintro ⟨h1,h2⟩;have e:gS s=s.length:=om;refine ⟨fun m=>by rw[m] at h1;exact h1 rfl,e,?_⟩;by_cases g:s.headD 0=48
  ·left
   have:¬1<gS s:=fun m=>h ⟨m,g⟩;omega
  exact .inr g
 rintro ⟨h1,h2,f⟩;have:=cB.2 h1;exact ⟨om,om⟩
theorem E7 {s:Bx}(e:s.length=1)(h:s.headD 0=48):s= [48]:=by
 cases s with
 | nil=>simp at e
 | cons c r=>
  have:r= []:=by simpa using e
  subst this;simp at h;rw[h]
theorem AG (t:Bx):gW t↔Dx (digs t)/\¬(t.headD 0=45/\digs t= [48]):=by
 rw[qH];unfold gW;constructor
 ·rintro ⟨h1,c,f⟩;refine ⟨⟨h1,f,?_⟩,?_⟩
  ·rcases c with c | c
   ·exact .inr c
   left;rw[c];rfl
  rintro ⟨q1,q2⟩;rcases c with c | c
  ·rw[q2] at c;exact c rfl
  rw[c] at q1;simp at q1
 rintro ⟨⟨h1,c,f⟩,h4⟩;refine ⟨h1,?_,c⟩;by_cases g:(digs t).headD 0=48
 ·right
  rcases f with f | f
  ·have e:=E7 f g;have m:¬t.headD 0=45:=fun q=>h4 ⟨q,e⟩;unfold digs at e;rw[aD m] at e;exact e
  exact absurd g f
 exact .inl g
theorem E8 (d:Bx):(d=decDigits (bH d)/\2<=bH d)↔Dx d/\¬d= [48]/\¬d= [49]:=by
 rw[qH];constructor
 ·rintro ⟨h1,h2⟩;have m:∀c∈d,dN c:=fun c g=>by rw[h1] at g;exact sB _ _ g
  have f:d≠ []:=fun e=>by rw[e] at h2;exact absurd h2 de
  refine ⟨⟨f,m,?_⟩,fun e=>by rw[e] at h2;exact absurd h2 de,fun e=>by rw[e] at h2;exact absurd h2 de⟩
  right
  rw[h1];exact Fs _ om
 rintro ⟨⟨h1,h2,h3⟩,h4,h5⟩;have e:=xA d.length d rfl h1 h2 h3;refine ⟨e.symm,?_⟩;apply aS;intro n;have:bH d=0\/bH d=1:=om;rcases this with h | h
 ·rw[h,kZ om] at e;exact h4 e.symm
 rw[h,kZ om] at e;exact h5 e.symm
theorem vY:∀s:Bx,Go.Lib.indexByte s 47=if dI s= [] then -1 else ((dM s).length:Int)
 | []=>rfl
 | c::r=>by
  have f:=vY r;by_cases h:c=47
  ·subst h;simp[Go.Lib.indexByte,dI,dM]
  have e1:dI (c::r)=dI r:=by simp[dI,h]
  have e2:dM (c::r)=c::dM r:=by simp[dM,h]
  rw[e1,e2];simp only[Go.Lib.indexByte];rw[f];by_cases e:dI r= []
  ·simp[e,h]
  simp[e,h]
theorem Fu (s:Bx):dM s++dI s=s:=qV
theorem L3 (s:Bx):s.take (dM s).length=dM s:=by
 have:=List.take_left (l₁:=dM s) (l₂:=dI s);rwa [Fu] at this
theorem L4 (s:Bx):s.drop (dM s).length=dI s:=by
 have:=List.drop_left (l₁:=dM s) (l₂:=dI s);rwa [Fu] at this
end IB
end
section
open Go Go.Proofs Go.Eng Go.Shelf IB Go.Lib Go.RowKit Tryz
namespace RB
def T6:Con:=aV 234 true fun | [.val (.int .i64 a),.val (.int .i64 b)],K=>Need ((0<=a/\a<=4000000000000000000)/\(0<=b/\b<=4000000000000000000)) (K (I (Int.gcd a b))) | _,_=>False
theorem V2:aM Tp T6:=by
 refine kQ { asks:=[(0,[])] } func234 ntmps234 kn fun _ _ h=>?_;split at h;case h_2=>cases h
 rename_i a b;refine kb h.go ?_;replace h:=h.ok;obtain ⟨m,n⟩:=h;refine Ask.mk ⟨{ X:=Int × Int,pre:=fun z=>Int.gcd z.1 z.2=Int.gcd a b/\(0<=z.1/\z.1<=4000000000000000000)/\(0<=z.2/\z.2<=4000000000000000000),mod:=fun z _=>[(0,I z.1),(1,I z.2)],heap:=fun _ _=>[],mu:=fun z=>z.2.natAbs },rfl,?_⟩;(repeat refine ZG ?_);refine ⟨⟨(a,b),⟨rfl,m,n⟩,ZE⟩,fun (z:Int × Int) hz=>?_⟩;obtain ⟨f,g,u⟩:=hz;(apply Br.mk<;>intro)
 ·rename_i e;have s:(z.1.tmod z.2).natAbs<z.2.natAbs:=by rw[kK];exact gP _ om
  have c:0<=z.1.tmod z.2:=sZ _ g.1;(repeat'((conv=>whnf);first|refine Za ?_|apply pI|apply pJ|fail));(conv=>whnf);refine ⟨(z.2,z.1.tmod z.2),s,⟨by rw[<- f];exact Fw _ _,u,c,by show z.1.tmod z.2<= _;omega⟩,?_⟩;(repeat' first|exact trivial|rfl|apply aA);exact (gZ g.1).symm
 rename_i e;have e:z.2=0:=om;have o:((Int.gcd a b:Nat):Int)=z.1:=by
  rw[<- f,e,pF];omega
 rw[o];exact ZF
theorem PT {P:Program}{g:Bool}{f:FuncId}{s:Bx}{r:List SV}{x:SV}(h:s.length<=140737488355328->Tri P g f (.str s::r) x):Tri P g f (.str s::r) x:=by
 intro n w vs m c e;cases e with
 | cons _ v1 _ vs1 h1 e=>
 cases h1 with
 | str _ hl=>exact h hl n w _ m c (.cons _ _ _ _ (.str _ hl) e)
theorem FE (s:Bx): -1<=Lib.indexByte s 47/\Lib.indexByte s 47<=s.length:=by
 rw[vY];split
 ·omega
 have:=aR length (Fu s);rw[aO] at this;omega
theorem t170 (s:Bx):Tri Tp true 275 [S s,S [47]] (I (Lib.indexByte s 47)):=by
 intro u w vs o g c;cases c with
 | cons _ v1 _ vs1 h1 c=>
 cases h1 with
 | str _ hl=>
 obtain ⟨rfl,_⟩:=Fz c;have f:s.length<=140737488355328:=hl;have n:=FE s;refine (Any.stringslite_Index_one RL.lX ⟨s.toArray⟩ 47 w).mono ?_;rintro e w' ⟨rfl,rfl⟩;have m:WV (.int .i64 (Lib.indexByte s 47)):=by constructor<;>simp only[lo,hi]<;>omega
 exact ⟨_,rfl,Below.refl _ _,.val _ m⟩
def T7:Con:=aV 275 true fun args K=>match args with | [.str s,.str p]=>Need (p= [47]) (K (I (Lib.indexByte s 47))) | _=>False
theorem k170:aM Tp T7:=by
 refine kO func275 fun c K h=>?_;simp only[T7] at h;split at h
 ·obtain ⟨rfl,h⟩:=h;exact ⟨_,h,t170 _⟩
 cases h
theorem b154 (s:Bx)(o:s.length<=140737488355328):body Tp [T7] {} true f254 [S s,S [47]] (.tup [S (dM s),S (dI s).tail,.bl (dI s≠ []) inferInstance]):=by
 have n:=FE s;have hi:=vY s;have e:=aR length (Fu s);rw[aO] at e;(repeat refine ZG ?_);(apply Br.mk<;>intro)
 ·rename_i h;by_cases c:dI s= []
  ·rw[aE c] at hi;omega
  rw[aD c] at hi;have g:=cB.2 c;rw[hi];(repeat'((conv=>whnf);first|refine Zg fun _=>?_|refine Zn ?_|refine Zj ?_|apply pI|apply pJ|fail));(conv=>whnf);(repeat' first|exact trivial|apply aA)
  ·exact L3 s
  ·show s.drop ((dM s).length+1)=(dI s).tail;rw[<- dW,L4,gI]
  exact c
 rename_i h;have c:dI s= []:=by
  refine aS fun f=>?_;rw[aD f] at hi;omega
 have m:dM s=s:=by have:=Fu s;rw[c,eH] at this;exact this
 (conv=>whnf);(repeat' first|exact trivial|apply aA)
 ·exact m.symm
 ·show ([]:Bx)= _;rw[c];rfl
 exact fun f=>f c
def T8:Con:=aV 254 true fun args K=>match args with | [.str s,.str p]=>Need (p= [47]) (K (.tup [S (dM s),S (dI s).tail,.bl (dI s≠ []) inferInstance])) | _=>False
theorem k154:aM Tp T8:=by
 refine kO func254 fun c K h=>?_;simp only[T8] at h;split at h
 ·obtain ⟨rfl,h⟩:=h;exact ⟨_,h,PT fun e=>gH func254 ntmps254 (by simp[k170]) (b154 _ e)⟩
 cases h
theorem b122 (s:Bx):body Tp [T8] {} true f230 [S s,S [47]] (.tup [S (dM s),S (dI s).tail,.bl (dI s≠ []) inferInstance]):=by
 exact ZGF
def PU:Con:=aV 230 true fun args K=>match args with | [.str s,.str p]=>Need (p= [47]) (K (.tup [S (dM s),S (dI s).tail,.bl (dI s≠ []) inferInstance])) | _=>False
theorem V3:aM Tp PU:=by
 refine kO func230 fun c K h=>?_;simp only[PU] at h;split at h
 ·obtain ⟨rfl,h⟩:=h;exact ⟨_,h,gH func230 ntmps230 (by simp[k154]) (b122 _)⟩
 cases h
theorem Oa (s:Bx)(i:Nat):(48<=bJ s i/\bJ s i<=57)↔dN (s.getD i 0):=by
 unfold bJ dN;omega
theorem Hj (s:Bx):bJ s 0=48↔s.headD 0=48:=by
 unfold bJ;have e:s.getD 0 0=s.headD 0:=by cases s<;>rfl
 rw[e];constructor
 ·intro h;have:(s.headD 0).toNat=(48:UInt8).toNat:=by show _=48;omega
  exact oV this
 intro h;rw[h];rfl
def T9:Con:=aV 232 true fun | [.str s],K=>K (I (Jx s)) | _,_=>False
theorem V4:aM Tp T9:=by
 refine kQ { asks:=[(0,[])] } func232 ntmps232 kn fun _ _ h=>?_;split at h;case h_2=>cases h
 rename_i s;refine kb h ?_;refine Ask.mk ⟨{ X:=Nat,pre:=fun n=>n<=s.length/\∀i,i<n->dN (s.getD i 0),mod:=fun n _=>[(3,I n)],heap:=fun _ _=>[],mu:=fun n=>s.length-n },rfl,?_⟩;(repeat refine ZG ?_);refine ⟨⟨(0:Nat),⟨aF _,fun i hi=>absurd hi (aT _)⟩,ZE⟩,fun (n:Nat) hn=>?_⟩;obtain ⟨y,o⟩:=hn;have g:=Oa s n;have f:=Hj s;by_cases m:n<s.length/\48<=bJ s n/\bJ s n<=57
 ·(repeat'((conv=>whnf);first|refine Zg fun _=>?_|refine Zn ?_|refine Zj ?_|refine Zy ?_|fail));all_goals first | (exfalso;omega) | skip
  refine ⟨(n+1:Nat),by show s.length-(n+1)<s.length-n;omega,⟨om,fun i hi=>?_⟩,ZE⟩;by_cases e:i=n
  ·subst e;exact g.1 m.2
  exact o i om
 have x:gS s=n:=Ft s n y o (by
  by_cases e:n=s.length
  ·exact .inl e
  right
  rw[<- g];intro c;exact m ⟨om,c⟩)
 have u:(Jx s:Int)=if 1<n/\bJ s 0=48 then 0 else (n:Int):=by
  unfold Jx;rw[x];by_cases q:1<n/\bJ s 0=48
  ·rw[aE q,aE ⟨q.1,f.1 q.2⟩];rfl
  rw[aD q,aD (fun c=>q ⟨c.1,f.2 c.2⟩)]
 (repeat'((conv=>whnf);first|refine Zg fun _=>?_|refine Zn ?_|refine Z0 ?_|refine Zj ?_|refine Zm ?_|refine Zr (fun _=>?_) fun _=>?_|fail));all_goals first | (exfalso;omega) | skip
 all_goals (skip;(conv=>whnf);(repeat' first|rfl|apply aA))
 all_goals (rw[u];first | rw[aE om] | rw[aD om])
theorem HJ:itoa 0= [48]:=by
 unfold itoa;rw[aD om];exact kZ (show 0<10 by omega)
def Hk (s:Bx):Bx:=if dI s= [] then [49] else (dI s).tail
theorem Jb (s:Bx):tH s↔(((Jx (digs (dM s)):Int)≠0/\((digs (dM s)).length:Int)<=Jx (digs (dM s)))/\¬((dM s).headD 0=45/\digs (dM s)= [48]))/\
  (dI s= []\/(((Jx (dI s).tail:Int)≠0/\((dI s).tail.length:Int)<=Jx (dI s).tail)/\¬(dI s).tail= [48]/\¬(dI s).tail= [49])):=by
 unfold tH;rw[AG];have e:∀d:Bx,Dx d↔((Jx d:Int)≠0/\(d.length:Int)<=Jx d):=fun d=>by unfold Dx;omega
 rw[e];refine and_congr cJ ?_;by_cases c:dI s= []
 ·simp[c]
 have f:jY s=bH (dI s).tail:=by unfold jY;rw[aD c]
 rw[f,E8,e]
theorem b87y (s:Bx)(e:tH s):body Tp [PU,PX,T9] {} true f212 [S s] (.tup [.agg [S (dM s),S (Hk s)],.val (.bool true)]):=by
 have c:=(Jb s).1 e;obtain ⟨⟨⟨f1,f2⟩,f3⟩,f4⟩:=c;unfold Hk;(repeat'((conv=>whnf);first|refine Zg fun _=>?_|refine Zn ?_|refine Zm ?_|refine Zr (fun _=>?_) fun _=>?_|fail));all_goals first | (exfalso;omega) | skip
 all_goals first
  | (exfalso;simp_all;done)
  | (exfalso;simp_all;omega)
  | (skip;(conv=>whnf);(repeat' first|exact trivial|rfl|apply aA);simp_all;exact @rfl (Bx) _)
theorem b87n (s:Bx)(f:¬tH s):body Tp [PU,PX,T9] {} true f212 [S s] (.tup [.agg [S [],S []],.val (.bool false)]):=by
 have e:=fun h=>f ((Jb s).2 h);(repeat'((conv=>whnf);first|refine Zg fun _=>?_|refine Zn ?_|refine Zr (fun _=>?_) fun _=>?_|fail));all_goals first
  | (exfalso;simp_all;done)
  | (exfalso;simp_all;omega)
  | (skip;(conv=>whnf);(repeat' first|exact trivial|rfl|apply aA);done)
  | (exfalso;refine e ⟨⟨⟨om,om⟩,?_⟩,?_⟩
     ·first | exact fun c=>absurd c.2 (by assumption) | exact fun c=>absurd c.1 (by assumption)
     first | exact .inl (bG.1 (by assumption)) | exact .inr ⟨⟨om,om⟩,by assumption,by assumption⟩)
def XT:Con:=aV 212 true fun args K=>match args with
 | [.str s]=>Br (tH s) (K (.tup [.agg [S (dM s),S (Hk s)],.val (.bool true)])) (K (.tup [.agg [S [],S []],.val (.bool false)]))
 | _=>False
theorem k87:aM Tp XT:=by
 refine kO func212 fun e K h=>?_;simp only[XT] at h;split at h
 ·rename_i s;by_cases c:tH s
  ·exact ⟨_,h.yes c,gH func212 ntmps212 (by simp[V3,UH,V4]) (b87y s c)⟩
  exact ⟨_,h.no c,gH func212 ntmps212 (by simp[V3,UH,V4]) (b87n s c)⟩
 cases h
def Jc (s:Bx):Prop:=1<=gS s/\gS s<=8/\¬(1<gS s/\s.headD 0=48)
theorem MQ {s:Bx}{i:Nat}(hi:i<=s.length)(h:∀j,j<i->dN (s.getD j 0)):∀c∈s.take i,dN c:=by
 intro c e;obtain ⟨j,f,rfl⟩:=fV e;rw[aW] at f;have:=h j om;rw[aB,aY om] at this;simpa using this
theorem Ob {s:Bx}{i:Nat}(hi:i<s.length)(c:dN (s.getD i 0)):(bH (s.take (i+1)):Int)=10*bH (s.take i)+(bJ s i-48):=by
 have e:s.take (i+1)=s.take i++ [s.getD i 0]:=by
  rw[cI hi];simp[aB,hi]
 rw[e,kC];unfold bJ;unfold dN at c;omega
theorem Oc {s:Bx}{i:Nat}(hi:i<=s.length)(h:∀j,j<i->dN (s.getD j 0))(g:i<=9):bH (s.take i)<1000000000:=by
 have c:=iV (s.take i) (MQ hi h);have e:(10:Nat)^ (s.take i).length<=10^9:=bO om (by rw[aW];omega);have f:(10:Nat)^9=1000000000:=de;omega
theorem Vo:∀(s:Bx) (n:Nat),n<=s.length->(∀i,i<n->dN (s.getD i 0))->n<=gS s
 | _,0,_,_=>aF _
 | [],n+1,h,_=>by simp at h
 | c::r,n+1,h1,h2=>by
  have e:48<=c.toNat/\c.toNat<=57:=h2 0 om;unfold gS;rw[aE e];have:=Vo r n (by simpa using h1) (fun i hi=>h2 (i+1) om);omega
theorem b104y (s:Bx)(h:Jc s):body Tp [] { asks:=[(0,[])] } true f233 [S s] (.tup [I (bH (s.take (gS s))),S (s.drop (gS s)),.val (.bool true)]):=by
 obtain ⟨B,C,u⟩:=h;rw[<- Hj] at u;refine Ask.mk ⟨{ X:=Nat,pre:=fun n=>n<=9/\n<=s.length/\∀i,i<n->dN (s.getD i 0),mod:=fun n _=>[(5,I (bH (s.take n))),(6,I n)],heap:=fun _ _=>[],mu:=fun n=>s.length-n },rfl,?_⟩;(repeat refine ZG ?_);refine ⟨⟨(0:Nat),⟨om,aF _,fun i hi=>absurd hi (aT _)⟩,ZE⟩,fun (n:Nat) hn=>?_⟩;obtain ⟨A,m,f⟩:=hn;have g:=Oa s n;have E:=Oc m f A;have x:=Vo s n m f;by_cases c:n<s.length/\48<=bJ s n/\bJ s n<=57
 ·have D:=Ob c.1 (g.1 c.2);(repeat'((conv=>whnf);first|refine Zg fun _=>?_|refine Zn ?_|refine Zj ?_|refine Zy ?_|fail));all_goals first | (exfalso;omega) | skip
  all_goals (skip;(conv=>whnf);refine ⟨(n+1:Nat),by show s.length-(n+1)<s.length-n;omega,⟨om,om,fun i hi=>by
     by_cases e:i=n
     ·subst e;exact g.1 c.2
     exact f i om⟩,?_⟩;(repeat' first|exact trivial|rfl|apply aA|omega);done)
 have o:gS s=n:=Ft s n m f (by
  by_cases e:n=s.length
  ·exact .inl e
  right
  rw[<- g];intro z;exact c ⟨om,z⟩)
 have y:(.tup [I (bH (s.take (gS s))),S (s.drop (gS s)),.val (.bool true)]:SV)= .tup [I (bH (s.take n)),S (s.drop n),.val (.bool true)]:=by rw[o]
 rw[y];rw[o] at B C u;(repeat'((conv=>whnf);first|refine Zg fun _=>?_|refine Zn ?_|refine Z0 ?_|refine Zj ?_|apply pI|apply pJ|refine Zy ?_|refine Zm ?_|refine Zr (fun _=>?_) fun _=>?_|fail));all_goals first | (exfalso;omega) | skip
 all_goals (skip;(conv=>whnf);(repeat' first|exact trivial|rfl|apply aA))
theorem b104n (s:Bx)(h:¬Jc s):body Tp [] { asks:=[(0,[])] } true f233 [S s] (.tup [I 0,S [],.val (.bool false)]):=by
 have h:¬(1<=gS s/\gS s<=8/\¬(1<gS s/\bJ s 0=48)):=by rw[Hj];exact h
 refine Ask.mk ⟨{ X:=Nat,pre:=fun n=>n<=9/\n<=s.length/\∀i,i<n->dN (s.getD i 0),mod:=fun n _=>[(5,I (bH (s.take n))),(6,I n)],heap:=fun _ _=>[],mu:=fun n=>s.length-n },rfl,?_⟩;(repeat refine ZG ?_);refine ⟨⟨(0:Nat),⟨om,aF _,fun i hi=>absurd hi (aT _)⟩,ZE⟩,fun (n:Nat) hn=>?_⟩;obtain ⟨y,m,f⟩:=hn;have g:=Oa s n;have A:=Oc m f y;have o:=Vo s n m f;by_cases c:n<s.length/\48<=bJ s n/\bJ s n<=57
 ·have z:=Ob c.1 (g.1 c.2);(repeat'((conv=>whnf);first|refine Zg fun _=>?_|refine Zn ?_|refine Zj ?_|refine Zy ?_|refine Zm ?_|refine Zr (fun _=>?_) fun _=>?_|fail));all_goals first | (exfalso;omega) | skip
  all_goals first | (skip;(conv=>whnf);refine ⟨(n+1:Nat),by show s.length-(n+1)<s.length-n;omega,⟨om,om,fun i hi=>by
     by_cases e:i=n
     ·subst e;exact g.1 c.2
     exact f i om⟩,?_⟩;(repeat' first|exact trivial|rfl|apply aA|omega);done) | (skip;(conv=>whnf);(repeat' first|exact trivial|rfl|apply aA);done)
 have u:gS s=n:=Ft s n m f (by
  by_cases e:n=s.length
  ·exact .inl e
  right
  rw[<- g];intro x;exact c ⟨om,x⟩)
 rw[u] at h;(repeat'((conv=>whnf);first|refine Zg fun _=>?_|refine Zn ?_|refine Z0 ?_|refine Zj ?_|refine Zy ?_|refine Zm ?_|refine Zr (fun _=>?_) fun _=>?_|fail));all_goals first | (exfalso;omega) | skip
 all_goals (skip;(conv=>whnf);(repeat' first|exact trivial|rfl|apply aA))
theorem uH {s:Bx}(h:Jc s):s.take (gS s)=decDigits (bH (s.take (gS s)))/\bH (s.take (gS s))<100000000:=by
 obtain ⟨o,u,m⟩:=h;have A:=Vh s;have n:=Nv s;have f:(s.take (gS s)).length=gS s:=by rw[aW];omega
 have x:(s.take (gS s)).headD 0=s.headD 0:=by
  cases s with
  | nil=>rfl
  | cons c r=>
   obtain ⟨k,y⟩:∃k,gS (c::r)=k+1:=⟨gS (c::r)-1,om⟩;rw[y];rfl
 refine ⟨(xA _ _ rfl (fun e=>by rw[e] at f;simp at f;omega) n ?_).symm,?_⟩
 ·rw[f,x];by_cases g:s.headD 0=48
  ·left
   have:¬1<gS s:=fun z=>m ⟨z,g⟩;omega
  exact .inr g
 have o:=iV (s.take (gS s)) n;have u:(10:Nat)^ (s.take (gS s)).length<=10^8:=bO om (by rw[f];omega);have m:(10:Nat)^8=100000000:=de;omega
def PV:Con:=aV 233 true fun args K=>match args with
 | [.str s]=>Br (Jc s) (Giv (bH (s.take (gS s))<100000000) (K (.tup [I (bH (s.take (gS s))),S (s.drop (gS s)),.val (.bool true)]))) (K (.tup [I 0,S [],.val (.bool false)]))
 | _=>False
theorem V5:aM Tp PV:=by
 refine kO func233 fun e K h=>?_;simp only[PV] at h;split at h
 ·rename_i s;by_cases c:Jc s
  ·exact ⟨_,(h.yes c).go (uH c).2,gH func233 ntmps233 si (b104y s c)⟩
  exact ⟨_,h.no c,gH func233 ntmps233 si (b104n s c)⟩
 cases h
abbrev CX (s:Bx):Nat:=bH ((digs s).take (gS (digs s)))
abbrev Pc (s:Bx):Bx:=(digs s).drop (gS (digs s))
abbrev HK (s:Bx):Nat:=bH ((Pc s).tail.take (gS (Pc s).tail))
def As (s:Bx):Prop:=Jc (digs s)/\¬(s.headD 0=45/\CX s=0)/\(Pc s= []\/((Pc s).headD 0=47/\Jc (Pc s).tail/\(Pc s).tail.drop (gS (Pc s).tail)= []/\2<=HK s/\Nat.gcd (CX s) (HK s)=1))
theorem MR (s:Bx):s=(if s.headD 0=45 then [45] else [])++digs s:=by
 unfold digs;by_cases h:s.headD 0=45
 ·rw[aE h,aE h];cases s with
  | nil=>simp at h
  | cons c r=>simp at h;rw[h];rfl
 rw[aD h,aD h];rfl
theorem MS {p:Prop}[Decidable p]{n:Nat}(h:¬(p/\n=0)):itoa (nF p n)=(if p then [45] else [])++decDigits n:=by
 unfold itoa nF;by_cases c:p
 ·rw[aE c,aE c];have:n≠0:=fun e=>h ⟨c,e⟩;rw[aE om];show 45:: _=45:: _;congr 2;omega
 rw[aD c,aD c,aD om];simp
theorem UA {s:Bx}(h:As s):∃q:Rat,s=cT q/\q.num=nF (s.headD 0=45) (CX s)/\(q.den:Int)=(if Pc s= [] then 1 else HK s:Nat)/\CX s<100000000/\q.den<100000000:=by
 obtain ⟨D,E,n⟩:=h;obtain ⟨x,u⟩:=uH D;have K:=MR s;have W:digs s=decDigits (CX s)++Pc s:=by
  rw[<- x];exact (gC _ _).symm
 have hi:=MS E;have f:s=itoa (nF (s.headD 0=45) (CX s))++Pc s:=by
  rw[hi,bW,<- W];exact K
 rcases n with n | ⟨m,y,z,X,A⟩
 ·refine ⟨⟨nF (s.headD 0=45) (CX s),1,de,si⟩,?_,rfl,by rw[aE n],u,by show (1:Nat)< _;decide⟩;unfold cT;rw[aE rfl];rw[n,eH] at f;exact f
 have g:Pc s≠ []:=fun e=>by rw[e] at m;simp at m
 obtain ⟨B,C⟩:=uH y;have J:Pc s=47::decDigits (HK s):=by
  cases hq:Pc s with
  | nil=>exact absurd hq g
  | cons c r=>
   have F:c=47:=by rw[hq] at m;simpa using m
   have o:(Pc s).tail=r:=by rw[hq];rfl
   rw[<- o,F];congr 1
   rw[<- B];have:=gC (gS (Pc s).tail) (Pc s).tail;rw[z,eH] at this;exact this.symm
 refine ⟨⟨nF (s.headD 0=45) (CX s),HK s,om,?_⟩,?_,rfl,by rw[aD g],u,C⟩
 ·rw[yG];exact A
 unfold cT;rw[aD (by show ¬HK s=1;omega)];show s=itoa _++47::decDigits (HK s);rw[<- J];exact f
theorem Eb {s:Bx}(h:As s):s=cT (cH s)/\(cH s).num=nF (s.headD 0=45) (CX s)/\((cH s).den:Int)=(if Pc s= [] then 1 else HK s:Nat)/\(cH s).num.natAbs<100000000/\(cH s).den<100000000:=by
 obtain ⟨q,c,f,g,m,n⟩:=UA h;have e:cH s=q:=by rw[c];exact pU q
 rw[e];exact ⟨c,f,g,by rw[f,yG];exact m,n⟩
theorem uI (s:Bx)(c:UInt8):bJ s 0=c.toNat↔s.headD 0=c:=by
 unfold bJ;have e:s.getD 0 0=s.headD 0:=by cases s<;>rfl
 rw[e];constructor
 ·intro h;exact oV om
 intro h;rw[h]
theorem b68y (s:Bx)(h:As s):body Tp [PV,T6] {} true f213 [S s] (.tup [.agg [I (nF (s.headD 0=45) (CX s)),I (if Pc s= [] then 1 else HK s:Nat)],.val (.bool true)]):=by
 obtain ⟨C,W,n⟩:=h;have J:bJ s 0=45↔s.headD 0=45:=uI s 45;have X:=(uH C).2;unfold nF;by_cases c:s.headD 0=45
 ·rw[aE c];have E:bJ s 0=45:=J.2 c;have m:¬s= []:=fun e=>by rw[e] at c;simp at c
  have K:(s.drop 1).length=s.length-1:=bT;have z:=cB.2 m;have g:digs s=s.drop 1:=by unfold digs;rw[aE c,gI]
  have Z:CX s≠0:=fun e=>W ⟨c,e⟩;simp only[CX,Pc,HK,g] at*;rcases n with n | ⟨f,o,A,B,u⟩
  ·skip;rw[aE n];exact ZRF
  skip;have x:¬List.drop (gS (List.drop 1 s)) (List.drop 1 s)= []:=fun e=>by rw[e] at f;simp at f
  have D:=cB.2 x;have y:bJ (List.drop (gS (List.drop 1 s)) (List.drop 1 s)) 0=47:=(uI _ 47).2 f;rw[<- gI] at o A B u;have Y:((Int.gcd ((bH (List.take (gS (List.drop 1 s)) (List.drop 1 s)):Nat):Int) ((bH (List.take (gS (List.drop 1 (List.drop (gS (List.drop 1 s)) (List.drop 1 s)))) (List.drop 1 (List.drop (gS (List.drop 1 s)) (List.drop 1 s)))):Nat):Int):Nat):Int)=1:=by rw[lN,u];rfl
  have F:=(uH o).2;rw[aD x,<- gI];exact ZRF
 rw[aD c];have E:¬bJ s 0=45:=fun e=>c (J.1 e);have m:¬s= []:=fun e=>by rw[e] at C;exact absurd C.1 de
 have z:=cB.2 m;have g:digs s=s:=by unfold digs;rw[aD c]
 simp only[CX,Pc,HK,g] at*;rcases n with n | ⟨f,o,A,B,u⟩
 ·skip;rw[aE n];exact ZRF
 skip;have x:¬List.drop (gS s) s= []:=fun e=>by rw[e] at f;simp at f
 have D:=cB.2 x;have y:bJ (List.drop (gS s) s) 0=47:=(uI _ 47).2 f;rw[<- gI] at o A B u;have Y:((Int.gcd ((bH (List.take (gS s) s):Nat):Int) ((bH (List.take (gS (List.drop 1 (List.drop (gS s) s))) (List.drop 1 (List.drop (gS s) s))):Nat):Int):Nat):Int)=1:=by rw[lN,u];rfl
 have F:=(uH o).2;rw[aD x,<- gI];exact ZRF
theorem b68n (s:Bx)(h:¬As s):body Tp [PV,T6] {} true f213 [S s] (.tup [.agg [I 0,I 0],.val (.bool false)]):=by
 have F:bJ s 0=45↔s.headD 0=45:=uI s 45;unfold As at h;by_cases u:s.headD 0=45
 ·have E:bJ s 0=45:=F.2 u;have n:¬s= []:=fun e=>by rw[e] at u;simp at u
  have J:(s.drop 1).length=s.length-1:=bT;have A:=cB.2 n;have z:digs s=s.drop 1:=by unfold digs;rw[aE u,gI]
  simp only[CX,Pc,HK,z,<- gI] at h;(repeat' first|refine ZR ?_|refine Zg fun _=>?_);(apply Br.mk<;>intro)
  ·rename_i o;(repeat' first|refine ZR ?_|refine Zg fun _=>?_);(apply Br.mk<;>intro)
   ·rename_i C;exact ZF
   rename_i C;(apply Br.mk<;>intro)
   ·rename_i y;have D:=cB.2 y;(repeat' first|refine ZG ?_|refine Zg fun _=>?_);(apply Br.mk<;>intro)
    ·rename_i f;exact ZF
    rename_i f;have f:=(uI _ 47).1 (bG.1 f);(repeat refine ZG ?_);(apply Br.mk<;>intro)
    ·rename_i c;(repeat'((conv=>whnf);first|refine Zg fun _=>?_|fail));(apply Br.mk<;>intro)
     ·rename_i g;exact ZF
     rename_i g;have g:=bG.1 g;(apply Br.mk<;>intro)
     ·rename_i x;exact ZF
     rename_i x;(repeat refine ZG ?_);(apply Br.mk<;>intro)
     ·rename_i m;exact ZF
     rename_i m;exfalso;have m:=bG.1 m;rw[lN] at m;exact h ⟨o,(fun B=>C om),.inr ⟨f,c,g,om,om⟩⟩
    rename_i c;exact ZF
   rename_i y;exfalso;exact h ⟨o,(fun B=>C om),.inl (bG.1 y)⟩
  rename_i o;exact ZF
 have E:¬bJ s 0=45:=fun e=>u (F.1 e);have z:digs s=s:=by unfold digs;rw[aD u]
 simp only[CX,Pc,HK,z,<- gI] at h;by_cases n:s= []
 ·subst n;have o:¬Jc []:=fun h=>absurd h.1 de;exact ZRF
 have A:=cB.2 n;(repeat' first|refine ZR ?_|refine Zg fun _=>?_);(apply Br.mk<;>intro)
 ·rename_i o;(repeat' first|refine ZR ?_|refine Zg fun _=>?_);(apply Br.mk<;>intro)
  ·rename_i y;have D:=cB.2 y;(repeat' first|refine ZG ?_|refine Zg fun _=>?_);(apply Br.mk<;>intro)
   ·rename_i f;exact ZF
   rename_i f;have f:=(uI _ 47).1 (bG.1 f);(repeat refine ZG ?_);(apply Br.mk<;>intro)
   ·rename_i c;(repeat'((conv=>whnf);first|refine Zg fun _=>?_|fail));(apply Br.mk<;>intro)
    ·rename_i g;exact ZF
    rename_i g;have g:=bG.1 g;(apply Br.mk<;>intro)
    ·rename_i x;exact ZF
    rename_i x;(repeat refine ZG ?_);(apply Br.mk<;>intro)
    ·rename_i m;exact ZF
    rename_i m;exfalso;have m:=bG.1 m;rw[lN] at m;exact h ⟨o,(fun B=>u B.1),.inr ⟨f,c,g,om,om⟩⟩
   rename_i c;exact ZF
  rename_i y;exfalso;exact h ⟨o,(fun B=>u B.1),.inl (bG.1 y)⟩
 rename_i o;exact ZF
instance (s:Bx):Decidable (As s):=Cp
def Od (s:Bx):Prop:=s=cT (cH s)/\(cH s).num.natAbs<100000000/\(cH s).den<100000000
def XU:Con:=aV 213 true fun args K=>match args with
 | [.str s]=>Br (As s) (Giv (Od s) (K (.tup [.agg [I (cH s).num,I (cH s).den],.val (.bool true)]))) (K (.tup [.agg [I 0,I 0],.val (.bool false)]))
 | _=>False
theorem k68:aM Tp XU:=by
 refine kO func213 fun e K h=>?_;simp only[XU] at h;split at h
 ·rename_i s;by_cases c:As s
  ·obtain ⟨f,g,m,n,o⟩:=Eb c;refine ⟨_,(h.yes c).go ⟨f,n,o⟩,?_⟩;rw[g,m];exact gH func213 ntmps213 (by simp[V5,V2]) (b68y s c)
  exact ⟨_,h.no c,gH func213 ntmps213 (by simp[V5,V2]) (b68n s c)⟩
 cases h
theorem Oe (n:Nat):itoa (n:Int)=decDigits n:=by
 unfold itoa;rw[aD om,aU]
theorem MT {g d k:Nat}(h:g<=d)(e:(decDigits d).length<=k+1):(decDigits g).length<=k+1:=by
 have c:=iV (decDigits d) (sB _);rw[kJ] at c;exact qG k g (bE (bV h c) (bO om e))
theorem Of {s:Bx}(h:tH s):Hk s=decDigits (jY s)/\1<=jY s/\(300<(Hk s).length↔300<(dI s).tail.length):=by
 unfold Hk;rcases h.2 with h | ⟨f,m⟩
 ·have c:jY s=1:=by unfold jY;rw[aE h]
  rw[aE h,c,h];exact ⟨(kZ (show 1<10 by omega)).symm,aI _,si⟩
 have g:dI s≠ []:=fun e=>by
  have c:jY s=1:=by unfold jY;rw[aE e]
  omega
 rw[aD g];exact ⟨f,om,cJ⟩
theorem Og {s:Bx}(h:s=cT (cH s))(f:(digs (dM s)).length<=300)(g:(dI s).tail.length<=300):dD s=0:=by
 have c:tH s:=by rw[h];exact Dw _
 have e:(bK (dM s)).natAbs.gcd (jY s)=1:=by rw[h];exact Ve _
 unfold dD;rw[aE c,aD om,aE e]
theorem Rq {n:Nat}(h:n<100000000):(decDigits n).length<=8:=qG 7 n (by simpa using h)
theorem Cd {s:Bx}(h:Od s):dD s=0:=by
 obtain ⟨c,e,f⟩:=h;refine Og c ?_ ?_
 ·rw[c,oO,gA];have:=Rq e;omega
 rw[c,sK];split
 ·simp
 have:=Rq f;simp;omega
theorem Hl {s:Bx}(h:s=cT (cH s)):dM s=itoa (cH s).num/\Hk s=decDigits (cH s).den:=by
 have f:tH s:=by rw[h];exact Dw _
 have e:=(Of f).1;have c:jY s=(cH s).den:=(aR jY h).trans (Fo _);rw[c] at e;exact ⟨(aR dM h).trans (oO _),e⟩
theorem Vp {d:Nat}(h:(decDigits d).length<=300):gW (decDigits d)/\iO (decDigits d)=0/\bK (decDigits d)=d:=by
 rw[<- Oe];refine ⟨uD _,?_,pT _⟩;rw[sL (uD _),aD];rw[gA];simpa using h
def MU (s:Bx):SV:=if dD s=0 then .tup [.agg [S (itoa (cH s).num),S (decDigits (cH s).den)],I 0] else .tup [.agg [S [],S []],I (dD s)]
theorem b46 (s:Bx):body Tp [XT,XU,WK,X7] {} true f195 [S s] (MU s):=by
 (apply Br.mk<;>intro)
 ·rename_i o;obtain ⟨f,a0,B⟩:=Of o;(apply Br.mk<;>intro)
  ·rename_i hn;refine Giv.mk fun F=>?_;have X:=Cd F;obtain ⟨x,y⟩:=Hl F.1;unfold MU;rw[aE X,<- x,<- y];exact ZF
  rename_i hn;have m:dD s=if 300<(digs (dM s)).length\/300<(Hk s).length then 4 else if (bK (dM s)).natAbs.gcd (jY s)=1 then 0 else 11:=by
   unfold dD;rw[aE o];simp only[B]
  have n:(bK (dM s)).natAbs.gcd (jY s)=1->dM s=itoa (cH s).num/\Hk s=decDigits (cH s).den:=fun c=>Hl (E2 o c);(repeat' first|refine ZG ?_|refine Zg fun _=>?_);(apply Br.mk<;>intro)
  ·rename_i hl;have u:dD s=4:=by rw[m,aE (.inl om)]
   unfold MU;rw[aD om,u];exact ZF
  rename_i hl;(repeat'((conv=>whnf);first|refine Zg fun _=>?_|fail));(apply Br.mk<;>intro)
  ·rename_i D;have u:dD s=4:=by rw[m,aE (.inr om)]
   unfold MU;rw[aD om,u];exact ZF
  rename_i D;rw[aD om] at m;(apply Br.mk<;>intro)
  ·rename_i z;have hd:jY s=1:=by
    rw[f] at z;have:=aR bH z;rw[kJ] at this;exact this
   have c:(bK (dM s)).natAbs.gcd (jY s)=1:=by rw[hd];exact Nat.gcd_one_right _
   obtain ⟨x,y⟩:=n c;rw[aE c] at m;unfold MU;rw[aE m,<- x,<- y];exact ZF
  rename_i z;obtain ⟨d1,K,W⟩:=Vp (d:=jY s) (by rw[<- f];omega);have C:iO (dM s)=0:=by rw[sL o.1,aD om]
  have E:mP (dM s) (Hk s) (gM (Int.gcd (bK (dM s)) (bK (Hk s))))=(decDigits ((bK (dM s)).natAbs.gcd (jY s)),0):=by
   unfold mP Av;rw[f,C,K,W,aD si,show Int.gcd (bK (dM s)) (jY s:Int)=(bK (dM s)).natAbs.gcd (jY s) by unfold Int.gcd;simp];unfold gM lim;rw[aD]
   ·rw[Oe]
   have Y:(bK (dM s)).natAbs.gcd (jY s)<=jY s:=Nat.gcd_le_right _ om;have u:(decDigits (jY s)).length<=300:=by rw[<- f];omega
   have Z:=MT Y (k:=299) u;simpa using Z
  have J:=aR Prod.fst E;have z2:(mP (dM s) (Hk s) (gM (Int.gcd (bK (dM s)) (bK (Hk s))))).2=0:=aR Prod.snd E;(repeat refine ZR ?_);(apply Br.mk<;>intro)
  ·rename_i c;rw[J] at c;have g:(bK (dM s)).natAbs.gcd (jY s)≠1:=fun e=>c (by rw[e];exact kZ (show 1<10 by omega));rw[aD g] at m;unfold MU;rw[aD om,m];exact ZF
  rename_i c;have c:=bG.1 c;rw[J] at c;have g:(bK (dM s)).natAbs.gcd (jY s)=1:=by
   have:=aR bH c;rw[kJ] at this;exact this
  obtain ⟨x,y⟩:=n g;rw[aE g] at m;unfold MU;rw[aE m,<- x,<- y];exact ZF
 rename_i o;have A:dD s=11:=by unfold dD;rw[aD o]
 unfold MU;rw[aD om,A];exact ZF
def MV (s:Bx):Prop:=s=cT (cH s)/\(decDigits (cH s).num.natAbs).length<=300/\(decDigits (cH s).den).length<=300
theorem Hm {s:Bx}(h:dD s=0):MV s:=by
 obtain ⟨c,e,n⟩:=Vf h;have f:tH s:=by rw[c];exact Dw _
 obtain ⟨g,m⟩:=Hl c;refine ⟨c,?_,?_⟩
 ·rw[g,gA] at e;exact e
 have:=(Of f).2.2;rw[m] at this;omega
def c46:Con:=aV 195 true fun args K=>match args with
 | [.str s]=>Br (dD s=0) (Giv (MV s) (K (.tup [.agg [S (itoa (cH s).num),S (decDigits (cH s).den)],I 0]))) (K (.tup [.agg [S [],S []],I (dD s)]))
 | _=>False
theorem X8:aM Tp c46:=by
 refine kO func195 fun f K h=>?_;simp only[c46] at h;split at h
 ·rename_i s;have e:=Ir (r:=MU s) (Γ:=[XT,XU,WK,X7]) (by simp[k87,k68,VH,k89]) func195 (by simp[ntmps195]) (by unfold MU;split<;>rfl) (b46 s);unfold MU at e;by_cases c:dD s=0
  ·rw[aE c] at e;exact ⟨_,(h.yes c).go (Hm c),e⟩
  rw[aD c] at e
  exact ⟨_,h.no c,by
   cases hc:dD s with
   | _=>exact hc ▸ e⟩
 cases h
theorem uV {x:Int}(h:lim x=false):iO (itoa x)=0:=by
 rw[sL (uD x),gA,aD];unfold lim at h;simpa using h
theorem V8 {a b:Int}(c:a.natAbs<100000000)(e:b.natAbs<100000000): -10000000000000000<a*b/\a*b<10000000000000000:=by
 have h:=eV c e;rw[<- cR] at h;omega
theorem Rr {s:Bx}(h:Od s):(cH s).num.natAbs<100000000/\((cH s).den:Int).natAbs<100000000/\0<((cH s).den:Int):=by
 have:=(cH s).den_pos;exact ⟨h.2.1,by rw[bZ];exact h.2.2,om⟩
def nv2 (a b:Bx):Prop:=As a/\As b
theorem Kq {a b:Bx}(c:iO a=0)(e:iO b=0)(r:Bx × Int):mP a b r=r:=by
 unfold mP Av;rw[c,e,aD si]
def PW:Con:=aV 252 true fun args K=>match args with
 | [.str a,.str b]=>Need (iO a=0/\iO b=0) (Br (lim (bK a*bK b)=false) (K (.tup [S (itoa (bK a*bK b)),I 0])) (K (.tup [S [],I 4])))
 | _=>False
theorem V9:aM Tp PW:=by
 refine kO func252 fun f K h=>?_;simp only[PW] at h;split at h
 ·rename_i a b;obtain ⟨⟨g,m⟩,h⟩:=h;have c:=gH func252 ntmps252 (by simp[YC,YD,WN,YF,k99f,k96]) (b58 a b);rw[Kq g m] at c;by_cases e:lim (bK a*bK b)=false
  ·refine ⟨_,h.yes e,?_⟩;unfold gM at c;rw[e] at c;exact c
  refine ⟨_,h.no e,?_⟩;unfold gM at c;rw[show lim _=true from by simpa using e] at c;exact c
 cases h
abbrev X9 (a b c d:Bx):Prop:=(iO a=0/\iO b=0)/\(iO c=0/\iO d=0)
def yV (a b c d:Bx):Prop:=lim (bK a*bK d)=false/\lim (bK c*bK b)=false
instance (a b c d:Bx):Decidable (yV a b c d):=by unfold yV;infer_instance
theorem b51y (a b c d:Bx)(h:X9 a b c d)(e:yV a b c d):body Tp [PW] {} true f228 [.agg [S a,S b],.agg [S c,S d]] (.tup [S (itoa (bK a*bK d)),S (itoa (bK c*bK b)),I 0]):=by
 obtain ⟨⟨f,g⟩,m,n⟩:=h;obtain ⟨o,s⟩:=e;exact ZRF
theorem b51n (a b c d:Bx)(h:X9 a b c d)(f:¬yV a b c d):body Tp [PW] {} true f228 [.agg [S a,S b],.agg [S c,S d]] (.tup [.any,.any,I 4]):=by
 obtain ⟨⟨m,n⟩,o,s⟩:=h;by_cases g:lim (bK a*bK d)=false
 ·have u:¬lim (bK c*bK b)=false:=fun e=>f ⟨g,e⟩;exact ZRF
 exact ZRF
def c51:Con:=aV 228 true fun args K=>match args with
 | [.agg [.str a,.str b],.agg [.str c,.str d]]=>Need (X9 a b c d) (Br (yV a b c d) (K (.tup [S (itoa (bK a*bK d)),S (itoa (bK c*bK b)),I 0])) (K (.tup [.any,.any,I 4])))
 | _=>False
theorem k51:aM Tp c51:=by
 refine kO func228 fun f K h=>?_;simp only[c51] at h;split at h
 ·rename_i a b c d;obtain ⟨g,h⟩:=h;by_cases e:yV a b c d
  ·exact ⟨_,h.yes e,gH func228 ntmps228 (by simp[V9]) (b51y a b c d g e)⟩
  exact ⟨_,h.no e,gH func228 ntmps228 (by simp[V9]) (b51n a b c d g e)⟩
 cases h
def WA (a b c d:Bx):Prop:=lim (bK a*bK c)=false/\lim (bK b*bK d)=false
instance (a b c d:Bx):Decidable (WA a b c d):=by unfold WA;infer_instance
def SP (a b c d:Bx):Prop:=yV a b c d/\lim (bK a*bK d+bK c*bK b)=false/\lim (bK b*bK d)=false
instance (a b c d:Bx):Decidable (SP a b c d):=by unfold SP;infer_instance
def SQ (a b c d:Bx):Prop:=yV a b c d/\lim (bK a*bK d-bK c*bK b)=false/\lim (bK b*bK d)=false
instance (a b c d:Bx):Decidable (SQ a b c d):=by unfold SQ;infer_instance
def WB (a b c d:Bx):Prop:=yV a b c d
instance (a b c d:Bx):Decidable (WB a b c d):=by unfold WB;infer_instance
abbrev pn (p:Rat):Bx:=itoa p.num
abbrev pd (p:Rat):Bx:=decDigits p.den
theorem Oi (p:Rat):bK (pn p)=p.num:=pT _
theorem Oj (p:Rat):bK (pd p)=p.den:=by unfold pd;rw[<- Oe,pT]
theorem FF {s:Bx}(h:MV s):iO (pn (cH s))=0/\iO (pd (cH s))=0/\0<bK (pd (cH s)):=by
 refine ⟨uV (by unfold lim;simpa using h.2.1),(Vp h.2.2).2.1,?_⟩;rw[Oj];have:=(cH s).den_pos;omega
theorem Ce {n:Int}(h:n.natAbs<10^40):lim n=false:=by
 unfold lim;have:=qG 39 n.natAbs h;simp;omega
def c21:Con:=aV 166 true fun | [.str a],K=>K (I (dD a)) | _,_=>False
theorem k21:aM Tp c21:=by
 refine kQ {} func166 ntmps166 (kc X8 kn) fun _ _ h=>?_;split at h;case h_2=>cases h
 rename_i a;refine kb h ?_;by_cases h:dD a=0
 ·rw[h];exact ZRF
 exact ZRF
def qI (a:Bx):Bx × Bx:=if dD a=0 then (pn (cH a),pd (cH a)) else ([],[])
def c13:Con:=aV 196 true fun | [.str a],K=>K (.tup [S (qI a).1,S (qI a).2,I (dD a)]) | _,_=>False
theorem k13:aM Tp c13:=by
 refine kQ {} func196 ntmps196 (kc X8 kn) fun _ _ h=>?_;split at h;case h_2=>cases h
 rename_i a;refine kb h ?_;unfold qI;by_cases h:dD a=0
 ·rw[aE h,h];(repeat'((conv=>whnf);first|refine Zg fun _=>?_|apply pI|apply pJ|refine Zy ?_|fail));exact ZF
 rw[aD h];(repeat'((conv=>whnf);first|apply pI|apply pJ|refine Zm ?_|fail));exact ZF
theorem div_one (n:Int):cT (Rat.divInt n 1)=itoa n:=by
 rw[Nt _ _ om,show (1:Int).toNat=1 from rfl,PJ _ _ om,Nat.gcd_one_left,aE rfl];simp
def SR (a:Bx):Bx × Int:=if dD a=0 then (itoa ((cH a).num/(cH a).den),0) else ([],dD a)
def YA (a:Bx):Int × Int:=if dD a=0 then (if (cH a).den=1 then (if (cH a).num < -4611686018427387904\/4611686018427387904<(cH a).num then (0,2) else ((cH a).num,0)) else (0,8)) else (0,dD a)
def Cn (p q:Rat):Int × Int:=if lim (p.num*q.den) || lim (q.num*p.den) then (0,4) else (vZ (p.num*q.den) (q.num*p.den),0)
def vF (a b:Bx):Int × Int:=if dD a≠0 then (0,dD a) else if dD b≠0 then (0,dD b) else Cn (cH a) (cH b)
def WC:Con:=aV 229 true fun args K=>match args with
 | [.str a,.str b]=>Need (iO a=0/\iO b=0) (K (.tup [I (vZ (bK a) (bK b)),I 0]))
 | _=>False
theorem k77r:aM Tp WC:=by
 refine kO func229 fun e K h=>?_;simp only[WC] at h;split at h
 ·rename_i a b;obtain ⟨⟨f,g⟩,h⟩:=h;have c:=gH func229 ntmps229 (by simp[YC,YD,YF,k97,k76]) (b77 a b);unfold FD Av at c;rw[f,g,aD si] at c;exact ⟨_,h,c⟩
 cases h
def c38:Con:=aV 211 true fun | [.str a,.str b],K=>K (.tup [I (vF a b).1,I (vF a b).2]) | _,_=>False
theorem k38:aM Tp c38:=by
 refine kQ {} func211 ntmps211 (kc k68 (kc X8 (kc k76 (kc k51 (kc k77r kn))))) fun _ _ h=>?_;split at h;case h_2=>cases h
 rename_i a b;refine kb h ?_;unfold vF;by_cases u:nv2 a b
 ·obtain ⟨f,s⟩:=u;have z:Od a:=⟨(Eb f).1,(Eb f).2.2.2⟩;have A:Od b:=⟨(Eb s).1,(Eb s).2.2.2⟩;obtain ⟨E,F,Y⟩:=Rr z;obtain ⟨J,K,Z⟩:=Rr A;have W:=V8 E K;have X:=V8 J F;have e:Cn (cH a) (cH b)=(vZ ((cH a).num*(cH b).den) ((cH b).num*(cH a).den),0):=by
   unfold Cn;rw[Ce (n:=(cH a).num*(cH b).den) om,Ce (n:=(cH b).num*(cH a).den) om];rfl
  rw[aD (by rw[Cd z];simp),aD (by rw[Cd A];simp),e];exact ZRF
 by_cases c:dD a=0
 ·by_cases m:dD b=0
  ·rw[aD (by simpa using c),aD (by simpa using m)];obtain ⟨r1,r2,r3⟩:=FF (Hm c);obtain ⟨x,y,s3⟩:=FF (Hm m);have v1:=Oi (cH a);have v2:=Oj (cH a);have v3:=Oi (cH b);have v4:=Oj (cH b);by_cases o:yV (pn (cH a)) (pd (cH a)) (pn (cH b)) (pd (cH b))
   ·have e:Cn (cH a) (cH b)=(vZ (bK (itoa (bK (pn (cH a))*bK (pd (cH b))))) (bK (itoa (bK (pn (cH b))*bK (pd (cH a))))),0):=by
     have g:=o;unfold yV at g;simp only[Oi,Oj,pT] at g ⊢;unfold Cn;rw[g.1,g.2];rfl
    rw[e];have C:=uV o.1;have D:=uV o.2;by_cases f:As a
    ·have s:¬As b:=fun e=>u ⟨f,e⟩;(repeat'((conv=>whnf);first|refine Zg fun _=>?_|refine Zy ?_|refine Zm ?_|fail));refine Need.mk ⟨⟨r1,r2⟩,x,y⟩ ?_;(repeat'((conv=>whnf);first|refine Zy ?_|refine Zm ?_|fail));refine Need.mk ⟨C,D⟩ ?_;exact ZF
    (repeat'((conv=>whnf);first|refine Zg fun _=>?_|refine Zy ?_|refine Zm ?_|fail));refine Need.mk ⟨⟨r1,r2⟩,x,y⟩ ?_;(repeat'((conv=>whnf);first|refine Zy ?_|refine Zm ?_|fail));refine Need.mk ⟨C,D⟩ ?_;exact ZF
   have e:Cn (cH a) (cH b)=(0,4):=by
    unfold yV at o;simp only[Oi,Oj] at o;unfold Cn;rw[aE];apply aS;intro B;apply o;simp only[dA,not_or,iM] at B;exact B
   rw[e];by_cases f:As a
   ·have s:¬As b:=fun e=>u ⟨f,e⟩;(repeat'((conv=>whnf);first|refine Zg fun _=>?_|refine Zy ?_|refine Zm ?_|fail));refine Need.mk ⟨⟨r1,r2⟩,x,y⟩ ?_;exact ZRF
   (repeat'((conv=>whnf);first|refine Zg fun _=>?_|refine Zy ?_|refine Zm ?_|fail));refine Need.mk ⟨⟨r1,r2⟩,x,y⟩ ?_;exact ZRF
  rw[aD (by simpa using c),aE m];by_cases f:As a
  ·by_cases s:As b
   ·exact absurd ⟨f,s⟩ u
   exact ZRF
  exact ZRF
 rw[aE c];by_cases f:As a
 ·exact absurd (Cd ⟨(Eb f).1,(Eb f).2.2.2⟩) c
 exact ZRF
abbrev B6:Nat:=1000000
theorem Ax {l:List Int}(h:InB B6 l)(i:Nat):0<=l.getD i 0/\l.getD i 0<1000000:=h.getD0 de i
theorem v6 (m:Nat):aQ B6 (aJ B6 m)=m:=jC de m
def C1:Con:=aV 246 false fun | [.seq (.int .i64) xs],K=>K (Ls (gV xs)) | _,_=>False
theorem HR:aM Tp C1:=by
 refine kQ { asks:=[(0,[])] } func246 ntmps246 kn fun _ _ h=>?_;split at h;case h_2=>cases h
 rename_i e;refine kb h ?_;(repeat'((conv=>whnf);first|refine Zg fun _=>?_|fail));refine Ask.mk ⟨{ X:=Nat,pre:=fun i=>i<=e.length/\gV (e.take i)=gV e,mod:=fun i _=>[(3,I i)],heap:=fun i _=>[V []],mu:=fun i=>i },rfl,?_⟩;(repeat refine ZG ?_);refine ⟨⟨e.length,⟨aI _,by rw[cG]⟩,?_⟩,fun (i:Nat) hi=>?_⟩
 ·exact ZE
 obtain ⟨g,c⟩:=hi;(apply Br.mk<;>intro)
 ·rename_i n;have m:0<i:=om;obtain ⟨k,rfl⟩:∃k,i=k+1:=⟨i-1,om⟩;(repeat refine ZG ?_);refine iW k om ?_;(repeat'((conv=>whnf);first|refine Zg fun _=>?_|fail));(apply Br.mk<;>intro)
  ·rename_i f;(repeat refine ZG ?_);refine ⟨(k:Nat),by show k<k+1;omega,⟨om,?_⟩,?_⟩
   ·rw[<- c,xB _ _ om,f,lH]
   exact ZE
  rename_i f;(repeat refine ZG ?_);(conv=>whnf);rw[<- c,xB _ _ om];exact (uC _ _ f).symm
 have:i=0:=om;subst this;(repeat refine ZG ?_);(conv=>whnf);rw[<- c];rfl
theorem b143 (l:List Int)(i:Int)(h:0<=i):body Tp [] {} true f248 [Ls l,I i] (I (l.getD i.toNat 0)):=by
 (repeat'((conv=>whnf);first|refine Zg fun _=>?_|fail));(apply Br.mk<;>intro)
 ·(repeat refine ZG ?_);refine iW i.toNat om ?_;(repeat'((conv=>whnf);first|refine Zg fun _=>?_|fail));exact ZF
 rename_i c;have:l.getD i.toNat 0=0:=mN _ _ om;(conv=>whnf);rw[this];exact ZE
def c143:Con:=aV 248 true fun args K=>match args with | [.seq (.int .i64) l,.val (.int .i64 i)]=>Need (0<=i) (Ix i fun j=>K (I (l.getD j 0))) | _=>False
theorem P3:aM Tp c143:=by
 refine kO func248 fun c K h=>?_;simp only[c143] at h;split at h
 ·rename_i l i;exact ⟨_,h.go.use h.ok,gH func248 ntmps248 si (b143 l i h.ok)⟩
 cases h
theorem b144 (a b:List Int)(h:InB B6 a/\InB B6 b/\aQ B6 b<=aQ B6 a/\b.length<=a.length/\a.length<=100000):body Tp [c143,C1] { asks:=[(0,[1])] } false f249 [Ls a,Ls b] (Ls (aJ B6 (aQ B6 a-aQ B6 b).toNat)):=by
 obtain ⟨g,m,o,x,u⟩:=h;(conv=>whnf);refine Ask.mk ⟨{ X:=Nat,pre:=fun i=>i<=a.length,mod:=fun i _=>[(5,.ref 1 1),(6,I (mY B6 a b i).2),(7,I i)],heap:=fun i _=>[V [],V (mY B6 a b i).1],mu:=fun i=>a.length-i,objs:=[1] },rfl,?_⟩;(repeat refine ZG ?_);refine ⟨⟨(0:Nat),aF _,ZE⟩,fun (i:Nat) (hi:i<=a.length)=>?_⟩;obtain ⟨A,C,D,_⟩:=Bz (B:=B6) de g m i;have E:=Ax g i;have gb:=Ax m i;(repeat'((conv=>whnf);first|refine Zg fun _=>?_|fail));(apply Br.mk<;>intro)
 ·have c:i<a.length:=om;(repeat'((conv=>whnf);first|refine Zg fun _=>?_|refine Zn ?_|refine Zj ?_|apply pI|apply pJ|fail));(apply Br.mk<;>intro)
  ·rename_i f;have s:(mY B6 a b (i+1)).1=(mY B6 a b i).1++ [a.getD i 0-b.getD i 0-(mY B6 a b i).2+1000000]:=by
    simp only[mY];rw[aD om];rfl
   have z:(mY B6 a b (i+1)).2=1:=by
    simp only[mY];rw[aD om]
   (repeat refine ZG ?_);refine ⟨(i+1:Nat),by show a.length-(i+1)<a.length-i;omega,c,?_⟩;(repeat' first|exact trivial|rfl|exact Nat.one_pos|apply aA|omega);exact s.symm
  rename_i f;have s:(mY B6 a b (i+1)).1=(mY B6 a b i).1++ [a.getD i 0-b.getD i 0-(mY B6 a b i).2]:=by
   simp only[mY];rw[aE om]
  have z:(mY B6 a b (i+1)).2=0:=by
   simp only[mY];rw[aE om]
  (repeat refine ZG ?_);refine ⟨(i+1:Nat),by show a.length-(i+1)<a.length-i;omega,c,?_⟩;(repeat' first|exact trivial|rfl|exact Nat.one_pos|apply aA|omega);exact s.symm
 have e:i=a.length:=om;subst e;have y:=(Zz (B:=B6) de g m (n:=a.length) om om o).1;(conv=>whnf);exact y
theorem b142 (a:List Int)(d:Int)(h:InB B6 a/\(0<d/\d<1000000)/\a.length<=100000):body Tp [C1] { asks:=[(0,[])] } false f247 [Ls a,I d] (.tup [Ls (aJ B6 (aQ B6 a/d).toNat),Ls (aJ B6 (aQ B6 a%d).toNat)]):=by
 obtain ⟨c,f,n⟩:=h;obtain ⟨s,C,u⟩:=AC (B:=B6) de f.1 f.2 c;(repeat' first|refine ZG ?_|refine Zg fun _=>?_);refine Ask.mk ⟨{ X:=Nat,pre:=fun m=>m<=a.length,mod:=fun m _=>[(7,I (jZ B6 d a m).2),(8,I ((a.length:Int)-1-m))],heap:=fun m _=>[V [],V [],V (jZ B6 d a m).1],mu:=fun m=>a.length-m },rfl,?_⟩;(repeat refine ZG ?_);refine ⟨⟨(0:Nat),aF _,?_⟩,fun (m:Nat) (o:m<=a.length)=>?_⟩
 ·exact ZE
 obtain ⟨x,y,z,_⟩:=uG (B:=B6) de f.1 c m o;have A:=Ax c (a.length-1-m);(apply Br.mk<;>intro)
 ·have g:m<a.length:=om;(repeat refine ZG ?_);refine iW (a.length-1-m) om ?_;(repeat' first|refine ZG ?_|refine Zg fun _=>?_);refine iW (a.length-1-m) om ?_;(repeat refine ZG ?_);refine ⟨(m+1:Nat),by show a.length-(m+1)<a.length-m;omega,g,?_⟩;(repeat' first|exact trivial|rfl|apply aA|omega);all_goals (rw[iT];rfl)
 have e:m=a.length:=om;subst e;(repeat refine ZG ?_);(conv=>whnf);(repeat' first|exact trivial|apply aA)
 ·exact s
 exact u
theorem C2 {B:Nat}(m:2<=B){x:Int}(y:0<=x/\x<B){b:List Int}(n:InB B b){i:Nat}{c:List Int}(u:InB B c)(F:i+b.length+1<=c.length)(g:c.getD (i+b.length) 0=0)(o:(iB B x b i c b.length).2=0):(iB B x b i c (b.length+1)).1=(iB B x b i c b.length).1:=by
 obtain ⟨z,A,C,D,f,E⟩:=rQ m y n (i:=i) u b.length om;simp only[iB];rw[o,f _ (aI _),g,mN b b.length (aI _),dO,fD,fD,Int.zero_emod];refine rR si fun j s=>?_;rw[fE] at s;rw[nR _ _ _ om];by_cases e:j=i+b.length
 ·rw[aE e,e,f _ (aI _),g]
 rw[aD e]
theorem b145 (a b:List Int)(h:InB B6 a/\InB B6 b/\a.length<=100000/\b.length<=100000):body Tp [c143,C1] { asks:=[(0,[]),(2,[])] } false f250 [Ls a,Ls b] (Ls (aJ B6 (aQ B6 a*aQ B6 b).toNat)):=by
 obtain ⟨u,c,J,K⟩:=h;obtain ⟨n,hn⟩:∃n,n=a.length+b.length+1:=⟨_,rfl⟩;(repeat' first|refine ZG ?_|refine Zg fun _=>?_);refine Ask.mk ⟨{ X:=Nat,pre:=fun i=>i<=a.length,mod:=fun i _=>[(6,I i)],heap:=fun i _=>[V [],V (sY B6 a b (List.replicate n 0) i)],mu:=fun i=>a.length-i },rfl,?_⟩;(repeat refine ZG ?_);refine ⟨⟨(0:Nat),aF _,?_⟩,fun (i:Nat) (hi:i<=a.length)=>?_⟩
 ·(repeat' first|exact trivial|rfl|apply aA);show List.replicate _ _=List.replicate _ _;congr 1;omega
 obtain ⟨Y,s,Z,E⟩:=Ca (B:=B6) de u c (n:=n) om i hi;have A:=Ax u i;(repeat'((conv=>whnf);first|refine Zg fun _=>?_|fail));(apply Br.mk<;>intro)
 ·have y:i<a.length:=om;have C:=E (i+b.length) (aI _);have z:0<=a.getD i 0/\a.getD i 0<(B6:Int):=A;refine Ask.mk ⟨{ X:=Nat,pre:=fun k=>k<=b.length+1,mod:=fun k _=>[(8,I k),(7,I (iB B6 (a.getD i 0) b i (sY B6 a b (List.replicate n 0) i) k).2)],heap:=fun k _=>[V [],V (iB B6 (a.getD i 0) b i (sY B6 a b (List.replicate n 0) i) k).1],mu:=fun k=>b.length+1-k },rfl,?_⟩;(repeat refine ZG ?_);refine ⟨⟨(0:Nat),aF _,ZE⟩,fun (k:Nat) (hk:k<=b.length+1)=>?_⟩;obtain ⟨m1,W,D,_⟩:=rQ (B:=B6) de (x:=a.getD i 0) z c (i:=i) s k om;have D:0<=(iB B6 (a.getD i 0) b i (sY B6 a b (List.replicate n 0) i) k).2/\(iB B6 (a.getD i 0) b i (sY B6 a b (List.replicate n 0) i) k).2<1000000:=D;have m:=(AA (B:=B6) de (x:=a.getD i 0) z c (i:=i) s om C).1;have gb:=Ax c k;have gm:=Ax W (i+k);have hm:0<=a.getD i 0*b.getD k 0/\a.getD i 0*b.getD k 0<=999999*999999:=⟨cU A.1 gb.1,Int.mul_le_mul om om gb.1 om⟩;by_cases o:k<b.length\/(iB B6 (a.getD i 0) b i (sY B6 a b (List.replicate n 0) i) k).2>0
  ·have g:k<b.length+1:=by
    rcases o with o | o
    ·omega
    by_cases e:k=b.length+1
    ·rw[e,m] at o;omega
    omega
   (repeat'((conv=>whnf);first|refine Zg fun _=>?_|refine Za ?_|refine Zn ?_|refine Zj ?_|apply pI|apply pJ|refine Zy ?_|refine Zr (fun _=>?_) fun _=>?_|fail));all_goals first | (exfalso;omega) | skip
   all_goals (skip;refine ⟨(k+1:Nat),by show b.length+1-(k+1)<b.length+1-k;omega,g,?_⟩;(repeat' first|exact trivial|rfl|apply aA))
  have F:(iB B6 (a.getD i 0) b i (sY B6 a b (List.replicate n 0) i) k).2=0:=om;have f:(iB B6 (a.getD i 0) b i (sY B6 a b (List.replicate n 0) i) k).1=sY B6 a b (List.replicate n 0) (i+1):=by
   by_cases e:k=b.length
   ·subst e;exact (C2 (B:=B6) de z c s om C F).symm
   have e:k=b.length+1:=om;subst e;rfl
  (repeat'((conv=>whnf);first|refine Zg fun _=>?_|refine Zn ?_|refine Zm ?_|fail));all_goals first | (exfalso;omega) | skip
  all_goals (skip;refine ⟨(i+1:Nat),by show a.length-(i+1)<a.length-i;omega,y,?_⟩;(repeat' first|exact trivial|rfl|apply aA);exact f)
 have e:i=a.length:=om;subst e;(conv=>whnf);exact AB (B:=B6) de u c om
def P4:Con:=aV 249 false fun args K=>match args with | [.seq (.int .i64) a,.seq (.int .i64) b]=>Need (InB B6 a/\InB B6 b/\aQ B6 b<=aQ B6 a/\b.length<=a.length/\a.length<=100000) (K (Ls (aJ B6 (aQ B6 a-aQ B6 b).toNat))) | _=>False
theorem WW:aM Tp P4:=by
 refine kO func249 fun c K h=>?_;simp only[P4] at h;split at h
 ·rename_i a b;exact ⟨_,h.go,gH func249 ntmps249 (by simp[P3,HR]) (b144 a b h.ok)⟩
 cases h
def UO:Con:=aV 247 false fun args K=>match args with | [.seq (.int .i64) a,.val (.int .i64 d)]=>Need (InB B6 a/\(0<d/\d<1000000)/\a.length<=100000) (K (.tup [Ls (aJ B6 (aQ B6 a/d).toNat),Ls (aJ B6 (aQ B6 a%d).toNat)])) | _=>False
theorem k142:aM Tp UO:=by
 refine kO func247 fun c K h=>?_;simp only[UO] at h;split at h
 ·rename_i a d;exact ⟨_,h.go,gH func247 ntmps247 (by simp[HR]) (b142 a d h.ok)⟩
 cases h
def c145:Con:=aV 250 false fun args K=>match args with | [.seq (.int .i64) a,.seq (.int .i64) b]=>Need (InB B6 a/\InB B6 b/\a.length<=100000/\b.length<=100000) (K (Ls (aJ B6 (aQ B6 a*aQ B6 b).toNat))) | _=>False
theorem WX:aM Tp c145:=by
 refine kO func250 fun c K h=>?_;simp only[c145] at h;split at h
 ·rename_i a b;exact ⟨_,h.go,gH func250 ntmps250 (by simp[P3,HR]) (b145 a b h.ok)⟩
 cases h
def Qa (x:Int):Int:=if x<0 then -1 else if x=0 then 0 else 1
def UP:Con:=aV 251 true fun | [.seq (.int .i64) a,.seq (.int .i64) b],K=>Need (InB B6 a/\InB B6 b) (K (I (Qa (Hn a b)))) | _,_=>False
theorem WY:aM Tp UP:=by
 refine kQ { asks:=[(0,[])] } func251 ntmps251 kn fun _ _ h=>?_;split at h;case h_2=>cases h
 rename_i a b;refine kb h.go ?_;replace h:=h.ok;obtain ⟨u,x⟩:=h;(repeat'((conv=>whnf);first|refine Zg fun _=>?_|fail));(apply Br.mk<;>intro)
 ·rename_i o;have g:Hn a b=(a.length:Int)-b.length:=by unfold Hn;rw[aD om]
  rw[g];(repeat'((conv=>whnf);first|refine Zg fun _=>?_|fail));(apply Br.mk<;>intro)
  ·rename_i f;(conv=>whnf);(repeat' first|rfl|apply aA);unfold Qa;rw[aE om]
  rename_i f;(conv=>whnf);(repeat' first|rfl|apply aA);unfold Qa;rw[aD om,aD om]
 rename_i o;have z:a.length=b.length:=om;have g:Hn a b=nS a b a.length:=by unfold Hn;rw[aE z]
 rw[g];(repeat' first|refine ZG ?_|refine Zg fun _=>?_);refine Ask.mk ⟨{ X:=Nat,pre:=fun m=>m<=a.length/\nS a b a.length=nS a b (a.length-m),mod:=fun m _=>[(5,I ((a.length:Int)-1-m))],heap:=fun _ _=>[],mu:=fun m=>a.length-m },rfl,?_⟩;(repeat refine ZG ?_);refine ⟨⟨(0:Nat),⟨aF _,rfl⟩,ZE⟩,fun (i:Nat) hi=>?_⟩;obtain ⟨y,c⟩:=hi;(apply Br.mk<;>intro)
 ·have n:i<a.length:=om;obtain ⟨m,A⟩:∃m,a.length-i=m+1:=⟨a.length-i-1,om⟩;have e2:a.length-(i+1)=m:=om;have B:=Ax u m;have gb:=Ax x m;rw[A,nS] at c;(repeat'((conv=>whnf);first|refine Zn ?_|apply pI|apply pJ|fail));refine iW m om ?_;(repeat'((conv=>whnf);first|refine Zg fun _=>?_|refine Zn ?_|apply pI|apply pJ|fail));refine iW m om ?_;(repeat'((conv=>whnf);first|refine Zg fun _=>?_|apply pI|apply pJ|fail));(apply Br.mk<;>intro)
  ·rename_i f;rw[aD om] at c;(conv=>whnf);(repeat' first|rfl|apply aA);unfold Qa;rw[c,aE om]
  rename_i f;(repeat'((conv=>whnf);first|refine Zn ?_|apply pI|apply pJ|fail));refine iW m om ?_;(repeat'((conv=>whnf);first|refine Zg fun _=>?_|refine Zn ?_|apply pI|apply pJ|fail));refine iW m om ?_;(repeat'((conv=>whnf);first|refine Zg fun _=>?_|apply pI|apply pJ|fail));(apply Br.mk<;>intro)
  ·rename_i s;rw[aD om] at c;(conv=>whnf);(repeat' first|rfl|apply aA);unfold Qa;rw[c,aD om,aD om]
  rename_i s;rw[aE om] at c;(repeat refine ZG ?_);refine ⟨(i+1:Nat),by show a.length-(i+1)<a.length-i;omega,⟨n,by rw[e2];exact c⟩,?_⟩;exact ZE
 have e:i=a.length:=om;subst e;rw[kW] at c;(conv=>whnf);(repeat' first|rfl|apply aA);unfold Qa;rw[c];rfl
end RB
end
section
namespace IB
theorem L5 {B:Nat}(m:2<=B){l:List Int}(h:InB B l)(j:Nat):((l.getD (j+2) 0*B+l.getD (j+1) 0)*B+l.getD j 0)*(B:Int)^j<=aQ B l:=by
 by_cases o:j<l.length
 ·have g:=mV (B:=B) l j om;have b0:=eB (tQ h j);have n:=kR m j;rw[fA l j o] at g;simp only[aQ] at g;have e:l.getD (j+2) 0*B+l.getD (j+1) 0<=aQ B (l.drop (j+1)):=by
   by_cases e:j+1<l.length
   ·rw[fA l (j+1) e];simp only[aQ];have c:l.getD (j+2) 0<=aQ B (l.drop (j+1+1)):=by
     by_cases c:j+2<l.length
     ·rw[fA l (j+1+1) c];simp only[aQ];have:=eB (oR h (j+1+1+1));have f:(0:Int)<=(B:Int)*aQ B (l.drop (j+1+1+1)):=cU om this;show l.getD (j+1+1) 0<= _;omega
     rw[mN l (j+2) om];exact eB (oR h _)
    have f:(B:Int)*l.getD (j+2) 0<=B*aQ B (l.drop (j+1+1)):=aZ c om;rw[bU (l.getD (j+2) 0)];omega
   rw[mN l (j+2) om,mN l (j+1) om,tX,tV];exact eB (oR h _)
  have c:(l.getD (j+2) 0*B+l.getD (j+1) 0)*B<=aQ B (l.drop (j+1))*B:=bR e om;rw[bU (aQ B (l.drop (j+1)))] at c;have f:((l.getD (j+2) 0*B+l.getD (j+1) 0)*B+l.getD j 0)*(B:Int)^j<=(l.getD j 0+B*aQ B (l.drop (j+1)))*(B:Int)^j:=bR om (eM n);rw[bU (l.getD j 0+B*aQ B (l.drop (j+1)))] at f;omega
 rw[mN l (j+2) om,mN l (j+1) om,mN l j om];simp only[tX,fD];exact eB h
theorem TZ {B:Nat}(e:2<=B){b:List Int}(h:InB B b)(f:2<=b.length):aQ B b<=(b.getD (b.length-1) 0*B+b.getD (b.length-2) 0+1)*(B:Int)^ (b.length-2):=by
 have c:=mV (B:=B) b (b.length-2) om;have b0:=nQ e (tQ h (b.length-2)) (n:=b.length-2) (by rw[aW];omega);rw[fA b (b.length-2) om,show b.length-2+1=b.length-1 by omega,fA b (b.length-1) om,dK om] at c;simp only[aQ,dO,fD] at c
 rw[c,show (b.getD (b.length-1) 0*(B:Int)+b.getD (b.length-2) 0+1)*(B:Int)^ (b.length-2)=(B:Int)^ (b.length-2)*(b.getD (b.length-2) 0+B*b.getD (b.length-1) 0)+(B:Int)^ (b.length-2) by
  rw[jU _ 1,iZ,bU _ ((B:Int)^ (b.length-2)),iT _ (b.getD (b.length-2) 0),bU _ (B:Int)]]
 omega
theorem HD {B:Nat}(c:2<=B){b:List Int}(e:InB B b)(x:2<=b.length){n R:Nat}(D:0<n)(y:aQ B b=n)(u:R<n*B)(t3:Int)(m:t3=((aJ B R).getD b.length 0*B+(aJ B R).getD (b.length-1) 0)*B+(aJ B R).getD (b.length-2) 0):
  0<=t3/(b.getD (b.length-1) 0*B+b.getD (b.length-2) 0+1)/\t3/(b.getD (b.length-1) 0*B+b.getD (b.length-2) 0+1)<B/\t3/(b.getD (b.length-1) 0*B+b.getD (b.length-2) 0+1)*n<=R:=by
 have hi:=dE c R;have g:=L5 c hi (b.length-2);rw[show b.length-2+2=b.length by omega,show b.length-2+1=b.length-1 by omega,jC c,<- m] at g;have f:=TZ c e x;rw[y] at f;have s:=e.get (show b.length-1<b.length by omega);have C:=e.get (show b.length-2<b.length by omega);have A:=hi.getD0 om b.length;have E:=hi.getD0 om (b.length-1);have F:=hi.getD0 om (b.length-2);have o:0<=b.getD (b.length-1) 0*(B:Int):=cU s.1 om;have z:0<=t3:=by
  rw[m];have:=cU A.1 (show (0:Int)<=B by omega);have:=cU (show 0<=(aJ B R).getD b.length 0*B+(aJ B R).getD (b.length-1) 0 by omega) (show (0:Int)<=B by omega);omega
 obtain ⟨e1,e2⟩:=PK (V:=(n:Int)) (R:=(R:Int)) (t3:=t3) (top:=b.getD (b.length-1) 0*B+b.getD (b.length-2) 0) (P:=(B:Int)^ (b.length-2)) (kR c _) om f om g z;refine ⟨e1,?_,(iA om).1 e2⟩;refine Int.lt_of_le_of_lt e2 (fK om ?_);rw[bU];exact_mod_cast u
end IB
end
section
open Go Go.Proofs Go.Eng Go.Shelf IB Go.Lib Go.RowKit Tryz
namespace RB
theorem Ot {B:Nat}(n:2<=B){a b:List Int}(o:InB B a)(s:InB B b)(f:a.length=b.length):∀m,m<=a.length->(∀j,m<=j->j<a.length->a.getD j 0=b.getD j 0)->
  (nS a b m<0↔aQ B a<aQ B b)/\(nS a b m=0↔aQ B a=aQ B b)
 | 0,_,h=>by
  have:a=b:=rR f fun j x=>h j (aF _) x;subst this;simp[nS]
 | m+1,hm,h=>by
  simp only[nS];by_cases e:a.getD m 0=b.getD m 0
  ·rw[aE e];refine Ot n o s f m om fun j c g=>?_;by_cases e2:j=m
   ·rw[e2];exact e
   exact h j om g
  rw[aD e];rcases Int.lt_or_gt_of_ne e with c | c
  ·have:=Kj (B:=B) n o s f om (fun j g u=>h j om u) c;omega
  have:=Kj (B:=B) n s o f.symm om (fun j g u=>(h j om om).symm) c;omega
theorem Ou {B:Nat}(c:2<=B)(m n:Nat):(Hn (aJ B m) (aJ B n)<0↔m<n)/\(Hn (aJ B m) (aJ B n)=0↔m=n):=by
 unfold Hn;split
 ·rename_i e;have:=Ot c (dE c m) (dE c n) e _ (aI _) fun j f g=>om;rw[jC c,jC c] at this;omega
 rename_i e;by_cases h:(aJ B m).length<(aJ B n).length
 ·have:=pV c h;omega
 have:=pV c (m:=n) (n:=m) om;omega
theorem HS {n:Nat}(h:(aJ B6 n).length=1):(aJ B6 n).getD 0 0=n/\n<1000000:=by
 have e:=v6 n;have c:=Ax (show InB B6 (aJ B6 n) from dE de n) 0;cases hl:aJ B6 n with
 | nil=>rw[hl] at h;simp at h
 | cons x r=>
  have f:r= []:=by rw[hl] at h;simpa using h
  subst f;rw[hl] at e c;simp only[aQ,dO,fD] at e;refine ⟨e,?_⟩;have c:0<=x/\x<1000000:=c;omega
theorem kS {p q:Nat}(h:p<=q):(aJ B6 p).length<=(aJ B6 q).length:=aS fun c=>by
 have:=pV (B:=B6) de (m:=q) (n:=p) om;omega
def r9 (n:Nat)(a:List Int):Nat->SV
 | 0=>.ref 3 1
 | m+1=>Ls (aJ B6 (jZ B6 n a (m+1)).2.toNat)
theorem rU {m k:Nat}(h:m<B6^k):(aJ B6 m).length<=k:=by
 by_cases c:m=0
 ·subst c;rw[eC];exact aF _
 have:=(kI (B:=B6) de (n:=m) om).1;have:=(fH (show 1<B6 by decide)).1 (bV (by exact_mod_cast this) h);omega
theorem M6 {p q:Nat}{x:Int}(c:(x<0↔p<q)/\(x=0↔p=q))(h:0<=Qa x):q<=p:=by
 unfold Qa at h;split at h<;>omega
theorem M7 {p q:Nat}{x:Int}(c:(x<0↔p<q)/\(x=0↔p=q))(h:¬0<=Qa x):p<q:=by
 unfold Qa at h;split at h
 ·omega
 split at h<;>omega
theorem AQ {B:Nat}(g:2<=B){d:Int}(m:0<d){a:List Int}(o:InB B a):
  gV (jZ B d a a.length).1=aJ B (aQ B a/d).toNat/\(jZ B d a a.length).2=aQ B a%d:=by
 obtain ⟨s,n,c,e⟩:=uG g m o a.length (aI _);rw[kW,eN,eN] at e;have f:aQ B a/d=aQ B (jZ B d a a.length).1/\aQ B a%d=(jZ B d a a.length).2:=by
  rw[sR m];exact ⟨by rw[iT,bU];exact e,c.1,c.2⟩
 exact ⟨by rw[f.1];exact iJ g n,f.2.symm⟩
theorem Ry {n R r g m:Nat}{a:List Int}(u:0<n)(c:a.getD (a.length-1-m) 0+(r:Int)*1000000=R)(o:(jZ B6 n a m).2=r)(e:n*g<=R)(f:R-n*g<n):
  (jZ B6 n a (m+1)).1=(jZ B6 n a m).1.set (a.length-1-m) g/\(jZ B6 n a (m+1)).2=((R-n*g:Nat):Int):=by
 have s:a.getD (a.length-1-m) 0+(jZ B6 n a m).2*(B6:Int)=R:=by
  rw[o,<- c];rfl
 have e1:R/n=g:=by
  refine Nat.div_eq_of_lt_le (by rw[dY];exact e) ?_;rw[Nat.succ_mul,dY];omega
 have e2:R%n=R-n*g:=by
  have:=Nat.div_add_mod R n;rw[e1] at this;omega
 simp only[jZ];rw[s,<- oG,<- rW,e1,e2];exact ⟨rfl,rfl⟩
theorem b113 (a:List Int)(n:Nat)(h:InB B6 a/\(0<n/\n<B6^100)/\a.length<=1000):body Tp [UO,C1,c143,c145,P4,UP] { asks:=[(0,[]),(2,[])] } false f226 [Ls a,Ls (aJ B6 n)] (.tup [Ls (aJ B6 (aQ B6 a/n).toNat),Ls (aJ B6 (aQ B6 a%n).toNat)]):=by
 obtain ⟨K,⟨o,hn⟩,a6⟩:=h;have s:InB B6 (aJ B6 n):=dE de n;have F:=v6 n;(repeat'((conv=>whnf);first|refine Zg fun _=>?_|fail));(apply Br.mk<;>intro)
 ·rename_i h1;obtain ⟨hx,a3⟩:=HS (n:=n) om;(repeat'((conv=>whnf);first|refine Zg fun _=>?_|refine Zn ?_|refine Z0 ?_|fail));refine Need.mk ⟨K,om,om⟩ ?_;rw[hx];exact ZF
 rename_i h1;have hk:2<=(aJ B6 n).length:=by
  have:=(kI (B:=B6) de o).2.2;omega
 obtain ⟨b,y⟩:∃b,aJ B6 n=b:=⟨_,rfl⟩;have a0:b.length<=200:=by
  rw[<- y];have:=(kI (B:=B6) de o).1;have:=(fH (show 1<B6 by decide)).1 (bV (by exact_mod_cast this) hn);omega
 rw[y] at s F hk h1 ⊢;have a4:=Ax s (b.length-1);have a5:=Ax s (b.length-2);(repeat'((conv=>whnf);first|refine Zg fun _=>?_|refine Zn ?_|apply pI|apply pJ|fail));refine iW (b.length-1) om ?_;(repeat'((conv=>whnf);first|refine Zg fun _=>?_|refine Zn ?_|apply pI|apply pJ|fail));refine iW (b.length-2) om ?_;(repeat'((conv=>whnf);first|refine Zg fun _=>?_|refine Zn ?_|apply pI|apply pJ|refine Z8 ?_|fail));(conv=>whnf);refine Ask.mk ⟨{ X:=Nat,pre:=fun m=>m<=a.length,mod:=fun m _=>[(9,r9 n a m),(10,I ((a.length:Int)-1-m))],heap:=fun m _=>[V [],V [],V (jZ B6 n a m).1,V []],mu:=fun m=>a.length-m },rfl,?_⟩;(repeat refine ZN ?_);refine ⟨⟨(0:Nat),aF _,?_⟩,fun (m:Nat) (hm:m<=a.length)=>?_⟩
 ·exact ZE
 have C:(0:Int)<n:=om;obtain ⟨g1,g2,g3,_⟩:=uG (B:=B6) de C K m hm;have ga:=Ax K (a.length-1-m);obtain ⟨r,hr⟩:∃r:Nat,(jZ B6 n a m).2=r:=⟨_,(bL g3.1).choose_spec⟩;obtain ⟨R,hR⟩:∃R:Nat,a.getD (a.length-1-m) 0+(r:Int)*1000000=R:=⟨_,(bL om).choose_spec⟩;have hL:gV (a.getD (a.length-1-m) 0::aJ B6 r)=aJ B6 R:=by
  rw[iJ (B:=B6) de (InB.cons.2 ⟨ga,dE de r⟩)];congr 1
  show (a.getD (a.length-1-m) 0+(B6:Int)*aQ B6 (aJ B6 r)).toNat=R;rw[v6,bU];show (a.getD (a.length-1-m) 0+(r:Int)*1000000).toNat=R;omega
 have u:R<n*B6:=by
  have:(r:Int)<n:=om;show R<n*1000000;omega
 have lR:(aJ B6 R).length<=101:=rU (bE u (by rw[hU];exact aN _ (Nat.le_of_lt hn)));have rb:=HD (B:=B6) de s hk o F u _ rfl;have x0:=Ax (show InB B6 (aJ B6 R) from dE de R) b.length;have x1:=Ax (show InB B6 (aJ B6 R) from dE de R) (b.length-1);have x2:=Ax (show InB B6 (aJ B6 R) from dE de R) (b.length-2);obtain ⟨G,hG⟩:∃G:Nat,(((aJ B6 R).getD b.length 0*1000000+(aJ B6 R).getD (b.length-1) 0)*1000000+(aJ B6 R).getD (b.length-2) 0)/(b.getD (b.length-1) 0*1000000+b.getD (b.length-2) 0+1)=G:=⟨_,(bL rb.1).choose_spec⟩;have G1:G<1000000:=by
  have:(((aJ B6 R).getD b.length 0*1000000+(aJ B6 R).getD (b.length-1) 0)*1000000+(aJ B6 R).getD (b.length-2) 0)/(b.getD (b.length-1) 0*1000000+b.getD (b.length-2) 0+1)<1000000:=rb.2.1;omega
 have J:n*G<=R:=by
  have h3:(((aJ B6 R).getD b.length 0*1000000+(aJ B6 R).getD (b.length-1) 0)*1000000+(aJ B6 R).getD (b.length-2) 0)/(b.getD (b.length-1) 0*1000000+b.getD (b.length-2) 0+1)*(n:Int)<=R:=rb.2.2;rw[hG,bU] at h3;exact_mod_cast h3
 have iG:InB B6 [(G:Int)]:=fun x hx=>by
  have:x=G:=by simpa using hx
  subst this;exact ⟨om,by show (G:Int)<1000000;omega⟩
 have eG:(aQ B6 b*aQ B6 [(G:Int)]).toNat=n*G:=by
  rw[F,show aQ B6 [(G:Int)]=G by simp[aQ],<- dG,aU]
 rcases m with _ | m
 ·have a1:r=0:=by
   have:(jZ B6 n a 0).2=0:=rfl;omega
  rw[a1,eC] at hL;(apply Br.mk<;>intro)
  ·have A:0<a.length:=om;(repeat refine ZN ?_);refine iW (a.length-1) om ?_;(repeat'((conv=>whnf);first|refine Zg fun _=>?_|fail));(conv=>whnf);refine Own.r ?_;(repeat refine ZN ?_);(conv=>whnf);rw[show gV ([a.getD (a.length-1) 0]++ [])=aJ B6 R from hL];(repeat refine ZN ?_);refine iW (b.length-1) om ?_;(repeat refine ZN ?_);refine iW (b.length-2) om ?_;(repeat refine ZN ?_);rw[hG];(repeat refine ZG ?_);(conv=>whnf);refine Need.mk ⟨s,iG,om,by show 1<=100000;omega⟩ ?_;rw[eG];(conv=>whnf);have E:=kS J;refine Need.mk ⟨dE de _,dE de _,by rw[v6,v6];exact_mod_cast J,E,om⟩ ?_;rw[show (aQ B6 (aJ B6 R)-aQ B6 (aJ B6 (n*G))).toNat=R-n*G by rw[v6,v6];omega];refine Ask.mk ⟨{ X:=Nat,pre:=fun g=>n*g<=R,mod:=fun g _=>[(9,Ls (aJ B6 (R-n*g))),(11,I g)],heap:=fun _ _=>[V [],V [],V (jZ B6 n a (0)).1,V [],.dead],mu:=fun g=>R-n*g },rfl,?_⟩;(repeat refine ZG ?_);refine ⟨⟨(G:Nat),J,ZE⟩,fun (g:Nat) (W:n*g<=R)=>?_⟩;have gB:g<1000000:=Nat.lt_of_mul_lt_mul_left (bV W u);have z:=Ou (B:=B6) de (R-n*g) n;rw[y] at z;have Z:InB B6 (aJ B6 (R-n*g)):=dE de _;have a2:=kS (show R-n*g<=R by omega);refine Need.mk ⟨Z,s⟩ ?_;(apply Br.mk<;>intro)
   ·rename_i D;have c:n<=R-n*g:=M6 z D;have lb:=kS c;rw[y] at lb;refine Need.mk ⟨Z,s,by rw[v6,F];exact_mod_cast c,lb,om⟩ ?_;rw[show (aQ B6 (aJ B6 (R-n*g))-aQ B6 b).toNat=R-n*(g+1) by rw[v6,F,qT];omega];(repeat refine ZG ?_);refine ⟨(g+1:Nat),by show R-n*(g+1)<R-n*g;rw[qT];omega,by show n*(g+1)<=R;rw[qT];omega,?_⟩;exact ZE
   rename_i D;have f:R-n*g<n:=M7 z D;obtain ⟨z1,z2⟩:=Ry o hR hr (show n*g<=R from W) f;(repeat refine ZG ?_);refine iW (a.length-1-(0)) om ?_;(repeat refine ZG ?_);refine ⟨(1:Nat),by show a.length-(1)<a.length-(0);omega,A,?_⟩;(repeat' first|exact trivial|rfl|apply aA|omega)
   ·rw[show r9 n a 1=Ls (aJ B6 (jZ B6 n a (1)).2.toNat) from rfl,z2,aU];exact ZE
   exact z1.symm
  have e:0=a.length:=om;(conv=>whnf);obtain ⟨y1,y2⟩:=AQ (B:=B6) de C K;rw[<- e] at y1 y2;(repeat' first|exact trivial|apply aA)
  ·exact y1
  rw[<- y2,show (jZ B6 n a 0).2=0 from rfl,Int.toNat_zero,eC];exact ZE
 have Y:r=(jZ B6 n a (m+1)).2.toNat:=om;have lr:(aJ B6 (jZ B6 n a (m+1)).2.toNat).length<=200:=by
  rw[<- Y];refine bA (kS (show r<=n by omega)) ?_;rw[y];exact a0
 rw[Y] at hL;(apply Br.mk<;>intro)
 ·have A:m+1<a.length:=om;(repeat refine ZN ?_);refine iW (a.length-1-(m+1)) om ?_;(repeat'((conv=>whnf);first|refine Zg fun _=>?_|fail));(conv=>whnf);refine Own.r ?_;(repeat refine ZN ?_);(conv=>whnf);rw[show gV ([a.getD (a.length-1-(m+1)) 0]++aJ B6 (jZ B6 n a (m+1)).2.toNat)=aJ B6 R from hL];(repeat refine ZN ?_);refine iW (b.length-1) om ?_;(repeat refine ZN ?_);refine iW (b.length-2) om ?_;(repeat refine ZN ?_);rw[hG];(repeat refine ZG ?_);(conv=>whnf);refine Need.mk ⟨s,iG,om,by show 1<=100000;omega⟩ ?_;rw[eG];(conv=>whnf);have E:=kS J;refine Need.mk ⟨dE de _,dE de _,by rw[v6,v6];exact_mod_cast J,E,om⟩ ?_;rw[show (aQ B6 (aJ B6 R)-aQ B6 (aJ B6 (n*G))).toNat=R-n*G by rw[v6,v6];omega];refine Ask.mk ⟨{ X:=Nat,pre:=fun g=>n*g<=R,mod:=fun g _=>[(9,Ls (aJ B6 (R-n*g))),(11,I g)],heap:=fun _ _=>[V [],V [],V (jZ B6 n a (m+1)).1,V [],.dead],mu:=fun g=>R-n*g },rfl,?_⟩;(repeat refine ZG ?_);refine ⟨⟨(G:Nat),J,ZE⟩,fun (g:Nat) (W:n*g<=R)=>?_⟩;have gB:g<1000000:=Nat.lt_of_mul_lt_mul_left (bV W u);have z:=Ou (B:=B6) de (R-n*g) n;rw[y] at z;have Z:InB B6 (aJ B6 (R-n*g)):=dE de _;have a2:=kS (show R-n*g<=R by omega);refine Need.mk ⟨Z,s⟩ ?_;(apply Br.mk<;>intro)
  ·rename_i D;have c:n<=R-n*g:=M6 z D;have lb:=kS c;rw[y] at lb;refine Need.mk ⟨Z,s,by rw[v6,F];exact_mod_cast c,lb,om⟩ ?_;rw[show (aQ B6 (aJ B6 (R-n*g))-aQ B6 b).toNat=R-n*(g+1) by rw[v6,F,qT];omega];(repeat refine ZG ?_);refine ⟨(g+1:Nat),by show R-n*(g+1)<R-n*g;rw[qT];omega,by show n*(g+1)<=R;rw[qT];omega,?_⟩;exact ZE
  rename_i D;have f:R-n*g<n:=M7 z D;obtain ⟨z1,z2⟩:=Ry o hR hr (show n*g<=R from W) f;(repeat refine ZG ?_);refine iW (a.length-1-(m+1)) om ?_;(repeat refine ZG ?_);refine ⟨(m+1+1:Nat),by show a.length-(m+1+1)<a.length-(m+1);omega,A,?_⟩;(repeat' first|exact trivial|rfl|apply aA|omega)
  ·rw[show r9 n a (m+1+1)=Ls (aJ B6 (jZ B6 n a (m+1+1)).2.toNat) from rfl,z2,aU];exact ZE
  exact z1.symm
 have e:m+1=a.length:=om;(conv=>whnf);obtain ⟨y1,y2⟩:=AQ (B:=B6) de C K;rw[<- e] at y1 y2;(repeat' first|exact trivial|apply aA)
 ·exact y1
 rw[y2];exact ZE
def oK (b:List Int):Prop:=aJ B6 (aQ B6 b).toNat=b
theorem tU (m:Nat):oK (aJ B6 m):=by
 unfold oK;rw[v6,aU]
theorem Hr {b:List Int}(h:oK b):InB B6 b:=by
 rw[<- h];exact dE de _
theorem Ov {b:List Int}(h:oK b):((aQ B6 b).toNat:Int)=aQ B6 b:=by
 rw[<- v6,h]
def UV:Con:=aV 226 false fun args K=>match args with
 | [.seq (.int .i64) a,.seq (.int .i64) b]=>Need (InB B6 a/\oK b/\(0<(aQ B6 b).toNat/\(aQ B6 b).toNat<B6^100)/\a.length<=1000) (K (.tup [Ls (aJ B6 (aQ B6 a/aQ B6 b).toNat),Ls (aJ B6 (aQ B6 a%aQ B6 b).toNat)]))
 | _=>False
theorem k113:aM Tp UV:=by
 refine kO func226 fun c K h=>?_;simp only[UV] at h;split at h
 ·rename_i a b;refine ⟨_,h.go,?_⟩;obtain ⟨g,e,n,m⟩:=h.ok;have f:=gH func226 ntmps226 (by simp[k142,HR,P3,WX,WW,WY]) (b113 a (aQ B6 b).toNat ⟨g,n,m⟩);rw[e,Ov e] at f;exact f
 cases h
theorem nT {s:Bx}{i:Nat}(hi:i<s.length):bJ s i=(s[i].toNat:Int):=by
 unfold bJ;rw[show s.getD i 0=s[i] by simp[aB,hi]]
theorem fX {s:Bx}(h:0<s.length)(c:UInt8):bJ s 0=c.toNat↔s.headD 0=c:=by
 cases s with
 | nil=>simp at h
 | cons x r=>
  show (x.toNat:Int)=c.toNat↔x=c;exact ⟨fun e=>oV om,fun e=>by rw[e]⟩
theorem Ow {s:Bx}(h:0<s.length)(c:bJ s 0=45):digs s=s.drop 1:=by
 have:=(fX h 45).1 c;unfold digs;rw[aE this,gI]
theorem Hs {s:Bx}(c:0<s.length->¬bJ s 0=45):digs s=s.drop 0:=by
 unfold digs;rw[eN];by_cases h:0<s.length
 ·rw[aD fun e=>c h ((fX h 45).2 e)]
 have:s= []:=cL.1 om;subst this;rfl
theorem C3 {s:Bx}{p i:Nat}(c:digs s=s.drop p)(e:p<=i)(hi:i<s.length):s[i]∈digs s:=by
 rw[c,iX];exact ⟨i-p,by rw[bT];omega,by rw[qR];congr 1;omega⟩
theorem Vt {s:Bx}{p i:Nat}(c:digs s=s.drop p)(f:p<=i)(hi:i<s.length)(e:bJ s i<48\/bJ s i>57):iO s=11:=by
 unfold iO;rw[aD];rintro ⟨_,_,h3⟩;have:=h3 _ (C3 c f hi);rw[nT hi] at e;unfold dN at this;omega
theorem AR {s:Bx}{p:Nat}(f:digs s=s.drop p)(c:p<s.length):bJ s p=48↔(digs s).headD 0=48:=by
 rw[f,kH c,nT c];show (s[p].toNat:Int)=48↔s[p]=48;exact ⟨fun e=>oV (show s[p].toNat=48 by omega),fun e=>by rw[e];rfl⟩
theorem FJ {s:Bx}{p:Nat}(f:digs s=s.drop p)(g:p<s.length)(h:bJ s p=48)(c:s.length>1):iO s=11:=
 yI (.inr (.inl ⟨(AR f g).1 h,fun e=>by rw[e] at c;simp at c⟩))
theorem FK {s:Bx}{p:Nat}(g:digs s=s.drop p)(A:p<s.length)(B:¬(bJ s p=48/\s.length>1))(u:∀j,p<=j->j<s.length->48<=bJ s j/\bJ s j<=57):gW s:=by
 refine ⟨fun e=>?_,?_,fun c n=>?_⟩
 ·have:=aR length (g.symm.trans e);rw[bT] at this;simp at this;omega
 ·by_cases f:(digs s).headD 0=48
  ·right
   have o:=(AR g A).2 f;have z:s.length=1:=by
    have:¬s.length>1:=fun h=>B ⟨o,h⟩;omega
   have m:p=0:=om;subst m
   match s,z with
   | [x],_=>
    rw[g] at f;simp at f;rw[f]
  exact .inl f
 rw[g,iX] at n;obtain ⟨j,y,e⟩:=n;rw[bT] at y;rw[qR] at e;have:=u (p+j) om om;rw[nT om,e] at this;unfold dN;omega
def W0:Con:=aV 243 true fun | [.str s],K=>K (I (iO s)) | _,_=>False
theorem UW:aM Tp W0:=by
 refine kQ { asks:=[(0,[])] } func243 ntmps243 kn fun _ _ h=>?_;split at h;case h_2=>cases h
 rename_i s;refine kb h ?_;by_cases A:0<s.length/\bJ s 0=45
 ·have m:=Ow A.1 A.2;have E:(digs s).length=s.length-1:=by rw[m,bT]
  obtain ⟨x,K⟩:=A;by_cases Y:s.length=1
  ·have g:iO s=11:=yI (.inl (cL.1 om));rw[g];exact ZRF
  by_cases c:bJ s 1=48/\s.length>1
  ·have g:iO s=11:=FJ m om c.1 c.2;rw[g];obtain ⟨f,y⟩:=c;exact ZRF
  have f:¬(bJ s 1=48)\/(bJ s 1=48/\¬((s.length:Int)>1)):=by
   by_cases e:bJ s 1=48
   ·exact .inr ⟨e,fun h=>c ⟨e,om⟩⟩
   exact .inl e
  rcases f with f | ⟨f,y⟩;all_goals first | (exfalso;omega) | skip
  all_goals (
   (repeat' first|refine ZR ?_|refine Zg fun _=>?_);refine Ask.mk ⟨{ X:=Nat,pre:=fun i=>1<=i/\i<=s.length/\∀j,1<=j->j<i->48<=bJ s j/\bJ s j<=57,mod:=fun i _=>[(4,I i)],heap:=fun _ _=>[],mu:=fun i=>s.length-i },rfl,?_⟩;(repeat refine ZG ?_);refine ⟨⟨(1:Nat),⟨aI _,om,fun j B C=>om⟩,ZE⟩,fun (i:Nat) hi=>?_⟩;obtain ⟨n,J,o⟩:=hi;by_cases u:i<s.length
   ·by_cases B:bJ s i<48
    ·have g:iO s=11:=Vt m n u om;rw[g];exact ZRF
    by_cases C:bJ s i>57
    ·have g:iO s=11:=Vt m n u om;rw[g];exact ZRF
    (repeat' first|refine ZR ?_|refine Zg fun _=>?_);refine ⟨(i+1:Nat),by show s.length-(i+1)<s.length-i;omega,⟨om,om,fun j D W=>?_⟩,?_⟩
    ·by_cases e:j=i
     ·rw[e];omega
     exact o j D om
    exact ZE
   have e:i=s.length:=om;subst e;have F:gW s:=FK m om om o;rw[sL F,E];by_cases z:300<s.length-1
   ·first
     | (exfalso;omega)
     | (rw[aE z]
        (repeat' first|refine ZR ?_|refine Zg fun _=>?_);(conv=>whnf)
        (repeat' first|rfl|apply aA))
   rw[aD z];(repeat' first|refine ZR ?_|refine Zg fun _=>?_);(conv=>whnf)
   (repeat' first|rfl|apply aA))
 have m:=Hs (s:=s) fun h e=>A ⟨h,e⟩;have E:(digs s).length=s.length-0:=by rw[m,bT]
 have x:s.length=0\/(0<s.length/\¬bJ s 0=45):=by
  by_cases e:s.length=0
  ·exact .inl e
  exact .inr ⟨om,fun h=>A ⟨om,h⟩⟩
 rcases x with x | ⟨x,K⟩
 ·have g:iO s=11:=yI (.inl (cL.1 om));rw[g];exact ZRF
 by_cases Y:s.length=0
 ·have g:iO s=11:=yI (.inl (cL.1 om));rw[g];exact ZRF
 by_cases c:bJ s 0=48/\s.length>1
 ·have g:iO s=11:=FJ m om c.1 c.2;rw[g];obtain ⟨f,y⟩:=c;exact ZRF
 have f:¬(bJ s 0=48)\/(bJ s 0=48/\¬((s.length:Int)>1)):=by
  by_cases e:bJ s 0=48
  ·exact .inr ⟨e,fun h=>c ⟨e,om⟩⟩
  exact .inl e
 rcases f with f | ⟨f,y⟩;all_goals first | (exfalso;omega) | skip
 all_goals (
  (repeat' first|refine ZR ?_|refine Zg fun _=>?_);refine Ask.mk ⟨{ X:=Nat,pre:=fun i=>0<=i/\i<=s.length/\∀j,0<=j->j<i->48<=bJ s j/\bJ s j<=57,mod:=fun i _=>[(4,I i)],heap:=fun _ _=>[],mu:=fun i=>s.length-i },rfl,?_⟩;(repeat refine ZG ?_);refine ⟨⟨(0:Nat),⟨aI _,om,fun j B C=>om⟩,ZE⟩,fun (i:Nat) hi=>?_⟩;obtain ⟨n,J,o⟩:=hi;by_cases u:i<s.length
  ·by_cases B:bJ s i<48
   ·have g:iO s=11:=Vt m n u om;rw[g];exact ZRF
   by_cases C:bJ s i>57
   ·have g:iO s=11:=Vt m n u om;rw[g];exact ZRF
   (repeat' first|refine ZR ?_|refine Zg fun _=>?_);refine ⟨(i+1:Nat),by show s.length-(i+1)<s.length-i;omega,⟨om,om,fun j D W=>?_⟩,?_⟩
   ·by_cases e:j=i
    ·rw[e];omega
    exact o j D om
   exact ZE
  have e:i=s.length:=om;subst e;have F:gW s:=FK m om om o;rw[sL F,E];by_cases z:300<s.length-0
  ·first
    | (exfalso;omega)
    | (rw[aE z]
       (repeat' first|refine ZR ?_|refine Zg fun _=>?_);(conv=>whnf)
       (repeat' first|rfl|apply aA))
  rw[aD z];(repeat' first|refine ZR ?_|refine Zg fun _=>?_);(conv=>whnf)
  (repeat' first|rfl|apply aA))
def W5:Con:=aV 222 true fun | [.str a,.str b],K=>K (I (Av a b)) | _,_=>False
theorem UX:aM Tp W5:=by
 refine kQ {} func222 ntmps222 (kc UW kn) fun _ _ h=>?_;split at h;case h_2=>cases h
 refine kb h ?_;unfold Av;(apply Br.mk<;>intro)
 ·rename_i h;rw[aE h];exact ZF
 rename_i h;rw[aD h];exact ZF
def Qb (s:Bx):Nat:=if s.headD 0=45 then 1 else 0
theorem Cf (s:Bx):digs s=s.drop (Qb s):=by
 unfold digs Qb;split
 ·rw[gI]
 rw[eN]
def AY (s:Bx)(i:Nat):Nat:=bH ((s.take i).drop (Qb s))
theorem M8 (s:Bx):AY s 0=0:=by simp[AY,bH]
theorem Vu (s:Bx):AY s s.length=bH (digs s):=by
 unfold AY;rw[cG,Cf]
theorem UY {s:Bx}(g:gW s){i:Nat}(hi:i<=16):AY s i<10000000000000000:=by
 have m:=iV ((s.take i).drop (Qb s)) fun c e=>g.2.2 c (by rw[Cf];rw[nU] at e;exact dV e);have n:(10:Nat)^ ((s.take i).drop (Qb s)).length<=10^16:=bO om (by rw[bT,aW];omega);have f:(10:Nat)^16=10000000000000000:=de;unfold AY;omega
theorem M9 {s:Bx}(c:gW s){i:Nat}(hi:i<s.length)(h:bJ s i=45):AY s (i+1)=AY s i:=by
 by_cases e:Qb s<=i
 ·have:=c.2.2 _ (C3 (Cf s) e hi);rw[nT hi] at h;unfold dN at this;omega
 unfold AY;rw[dK (by rw[aW];omega),dK (by rw[aW];omega)]
theorem P7 {s:Bx}(g:gW s){i:Nat}(hi:i<s.length)(h:¬bJ s i=45):(48<=bJ s i/\bJ s i<=57)/\(AY s (i+1):Int)=10*AY s i+(bJ s i-48):=by
 by_cases c:Qb s<=i
 ·have m:=g.2.2 _ (C3 (Cf s) c hi);have e:(s.take (i+1)).drop (Qb s)=(s.take i).drop (Qb s)++ [s[i]]:=by
   rw[cI hi,eW (by rw[aW];omega)]
  rw[nT hi];unfold AY;rw[e,kC];unfold dN at m;omega
 refine absurd ?_ h;have f:i=0/\s.headD 0=45:=by
  unfold Qb at c;split at c
  ·exact ⟨om,by assumption⟩
  omega
 rw[f.1];exact (fX om 45).2 f.2
theorem b140n (s:Bx)(h:17<s.length):body Tp [] { asks:=[(0,[])] } true f244 [S s] (.tup [I 0,.val (.bool false)]):=by
 exact ZRF
theorem b140y (s:Bx)(g:gW s)(z:s.length<=17):body Tp [] { asks:=[(0,[])] } true f244 [S s] (.tup [I (bK s),.val (.bool true)]):=by
 have n:0<s.length:=dX fun e=>g.1 (by rw[cL.1 e];rfl);(repeat' first|refine ZR ?_|refine Zg fun _=>?_);refine Ask.mk ⟨{ X:=Nat,pre:=fun i=>i<=s.length,mod:=fun i _=>[(4,I (AY s i)),(5,I i)],heap:=fun _ _=>[],mu:=fun i=>s.length-i },rfl,?_⟩;(repeat refine ZG ?_);refine ⟨⟨(0:Nat),aF _,?_⟩,fun (i:Nat) (hi:i<=s.length)=>?_⟩
 ·(repeat' first|exact trivial|rfl|apply aA);rw[M8];rfl
 by_cases f:i<s.length
 ·have y:=UY g (i:=i) om;by_cases u:bJ s i=45
  ·have e:=M9 g f u;(repeat' first|refine ZR ?_|refine Zg fun _=>?_);refine ⟨(i+1:Nat),by show s.length-(i+1)<s.length-i;omega,f,?_⟩;exact ZE
  obtain ⟨e1,e2⟩:=P7 g f u;(repeat' first|refine ZR ?_|refine Zg fun _=>?_);refine ⟨(i+1:Nat),by show s.length-(i+1)<s.length-i;omega,f,?_⟩;exact ZE
 have e:i=s.length:=om;subst e;have A:AY s s.length<1000000000000000000:=by
  rw[Vu];have y:=iV (digs s) g.2.2;have B:(10:Nat)^ (digs s).length<=10^18:=bO om (by have:=xC s;omega);have x:(10:Nat)^18=1000000000000000000:=de;omega
 by_cases o:bJ s 0=45
 ·have m:bK s= -(AY s s.length:Int):=by
   have c:=(fX n 45).1 o;rw[Vu];unfold bK digs;rw[aE c,aE c]
  rw[m];exact ZRF
 have m:bK s=(AY s s.length:Int):=by
  have c:¬s.headD 0=45:=fun e=>o ((fX n 45).2 e);rw[Vu];unfold bK digs;rw[aD c,aD c]
 rw[m];exact ZRF
def UZ:Con:=aV 244 true fun args K=>match args with
 | [.str s]=>Need (gW s) (Br (17<s.length) (K (.tup [I 0,.val (.bool false)])) (K (.tup [I (bK s),.val (.bool true)])))
 | _=>False
theorem k140:aM Tp UZ:=by
 refine kO func244 fun e K h=>?_;simp only[UZ] at h;split at h
 ·rename_i s;obtain ⟨f,h⟩:=h;by_cases c:17<s.length
  ·exact ⟨_,h.yes c,gH func244 ntmps244 si (b140n s c)⟩
  exact ⟨_,h.no c,gH func244 ntmps244 si (b140y s f om)⟩
 cases h
theorem b111 (a b:Bx)(f:gW a)(g:gW b)(x y:Int)(o:Bool)(h:(x,y,o)=if 17<a.length then (0,0,false) else if 17<b.length then (bK a,0,false) else (bK a,bK b,true)):body Tp [UZ] {} true f223 [S a,S b] (.tup [I x,I y,.val (.bool o)]):=by
 by_cases c:17<a.length
 ·rw[aE c] at h;cases h;exact ZRF
 rw[aD c] at h;by_cases e:17<b.length
 ·rw[aE e] at h;cases h;exact ZRF
 rw[aD e] at h;cases h;exact ZRF
def U0:Con:=aV 223 true fun args K=>match args with
 | [.str a,.str b]=>Need (gW a/\gW b) (Br (a.length<=17/\b.length<=17) (K (.tup [I (bK a),I (bK b),.val (.bool true)])) (Br (17<a.length) (K (.tup [I 0,I 0,.val (.bool false)])) (K (.tup [I (bK a),I 0,.val (.bool false)]))))
 | _=>False
theorem U1:aM Tp U0:=by
 refine kO func223 fun g K h=>?_;simp only[U0] at h;split at h
 ·rename_i a b;obtain ⟨⟨m,n⟩,h⟩:=h;have e:=fun x y o s=>gH func223 ntmps223 (by simp[k140]) (b111 a b m n x y o s);by_cases f:a.length<=17/\b.length<=17
  ·exact ⟨_,h.yes f,e _ _ _ (by rw[aD om,aD om])⟩
  by_cases c:17<a.length
  ·exact ⟨_,(h.no f).yes c,e _ _ _ (by rw[aE c])⟩
  exact ⟨_,(h.no f).no c,e _ _ _ (by rw[aD c,aE om])⟩
 cases h
def We (D:Bx)(st i:Nat):Nat:=bH ((D.take i).drop st)
theorem Ox (D:Bx)(st:Nat):We D st st=0:=by
 unfold We;rw[dK (by rw[aW];omega)];rfl
theorem NA {D:Bx}(f:∀c∈D,dN c){st i:Nat}(h:i<=st+6):We D st i<1000000:=by
 have m:=iV ((D.take i).drop st) fun c e=>f c (dV (gR e));have n:(10:Nat)^ ((D.take i).drop st).length<=10^6:=bO om (by rw[bT,aW];omega);have g:(10:Nat)^6=1000000:=de;unfold We;omega
theorem Vv {D:Bx}(f:∀c∈D,dN c){st i:Nat}(m:st<=i)(hi:i<D.length):(48<=bJ D i/\bJ D i<=57)/\(We D st (i+1):Int)=10*We D st i+(bJ D i-48):=by
 have g:=f _ (iL hi);have e:(D.take (i+1)).drop st=(D.take i).drop st++ [D[i]]:=by
  rw[cI hi,eW (by rw[aW];omega)]
 rw[nT hi];unfold We;rw[e,kC];unfold dN at g;omega
theorem b112y (s:Bx)(h:gW s/\(digs s).length<=600)(z:s.headD 0=45):body Tp [C1] { asks:=[(0,[2]),(2,[])] } false f225 [S s] (.agg [.bl (s.headD 0=45) inferInstance,Ls (aJ B6 (bH (digs s)))]):=by
 obtain ⟨y,E⟩:=h;have x:0<s.length:=dX fun e=>y.1 (by rw[cL.1 e];rfl);have f:=y.2.2;have C:bJ s 0=45:=(fX x 45).2 z;have B:=Ow x C;rw[B] at f E ⊢;have K:(s.drop 1).length=(s.drop 1).length:=rfl;have e6:(10:Nat)^6=B6:=de;refine Own.l ?_;refine Own.l ?_;(conv=>whnf);refine Own.r ?_;refine ⟨1,.int .i64,3,?_⟩;(repeat' first|refine ZX ?_|refine Zg fun _=>?_);(conv=>whnf);refine Ask.mk ⟨{ X:=Nat,pre:=fun k=>6*k<(s.drop 1).length+6,mod:=fun k _=>[(4,I (((s.drop 1).length:Int)-6*k))],heap:=fun k H=>[bX H 0,.cells [.val (.bool true),.ref 2 1] 253,V (Wa (s.drop 1) k)],mu:=fun k=>(s.drop 1).length+6-6*k,objs:=[2] },rfl,?_⟩;(repeat refine ZG ?_);refine ⟨⟨(0:Nat),by show 6*0< _;omega,?_⟩,fun (k:Nat) m=>?_⟩
 ·exact ZE
 have m:6*k<(s.drop 1).length+6:=m;have J:=(Fn f k m).1;by_cases F:6*k<(s.drop 1).length
 ·obtain ⟨st,u⟩:∃st,(s.drop 1).length-6*(k+1)=st:=⟨_,rfl⟩;obtain ⟨c,n⟩:∃c,(s.drop 1).length-6*k=c:=⟨_,rfl⟩;(repeat refine ZR ?_);refine Ask.mk ⟨{ X:=Nat,pre:=fun i=>st<=i/\i<=c,mod:=fun i _=>[(5,I (We (s.drop 1) st i)),(6,I i)],heap:=fun i H=>[bX H 0,.cells [.val (.bool true),.ref 2 1] 253,V (Wa (s.drop 1) k)],mu:=fun i=>c-i },rfl,?_⟩;(repeat refine ZG ?_);refine ⟨⟨(st:Nat),⟨aI _,om⟩,?_⟩,fun (i:Nat) hi=>?_⟩
  ·(repeat' first|exact trivial|rfl|apply aA|omega);rw[Ox];rfl
  obtain ⟨o,D⟩:=hi;by_cases g:i<c
  ·have W:=NA f (st:=st) (i:=i) om;obtain ⟨e1,e2⟩:=Vv f o (show i<(s.drop 1).length by omega);(repeat' first|refine ZR ?_|refine Zg fun _=>?_);refine ⟨(i+1:Nat),by show c-(i+1)<c-i;omega,⟨om,g⟩,?_⟩;exact ZE
  have e:i=c:=om;subst e;(repeat refine ZR ?_)
  try (
   refine Need.mk (show (Wa (s.drop 1) k).length+1<=17592186044416 by omega) ?_
   (repeat refine ZR ?_))
  refine ⟨(k+1:Nat),by show (s.drop 1).length+6-6*(k+1)<(s.drop 1).length+6-6*k;omega,by show 6*(k+1)<(s.drop 1).length+6;omega,?_⟩;(repeat' first|exact trivial|rfl|exact Nat.one_pos|apply aA|omega);show Wa (s.drop 1) k++ [((We (s.drop 1) st i:Nat):Int)]=Wa (s.drop 1) k++ [((bH (LV (s.drop 1) k):Nat):Int)];unfold We LV;rw[u,n]
 have A:=EW f m om;rw[e6] at A;(repeat refine ZR ?_);(conv=>whnf);(repeat' first|exact trivial|apply aA)
 ·exact z
 exact A
theorem b112n (s:Bx)(h:gW s/\(digs s).length<=600)(y:¬s.headD 0=45):body Tp [C1] { asks:=[(0,[2]),(2,[])] } false f225 [S s] (.agg [.bl (s.headD 0=45) inferInstance,Ls (aJ B6 (bH (digs s)))]):=by
 obtain ⟨x,E⟩:=h;have A:0<s.length:=dX fun e=>x.1 (by rw[cL.1 e];rfl);have f:=x.2.2;have C:¬bJ s 0=45:=fun e=>y ((fX A 45).1 e);have B:digs s=s:=Hs fun _=>C;rw[B] at f E ⊢;have K:(s).length=(s).length:=rfl;have e6:(10:Nat)^6=B6:=de;refine Own.l ?_;refine Own.l ?_;(conv=>whnf);refine Own.r ?_;refine ⟨1,.int .i64,3,?_⟩;(repeat' first|refine ZX ?_|refine Zg fun _=>?_);(conv=>whnf);refine Ask.mk ⟨{ X:=Nat,pre:=fun k=>6*k<(s).length+6,mod:=fun k _=>[(4,I (((s).length:Int)-6*k))],heap:=fun k H=>[bX H 0,.cells [.val (.bool false),.ref 2 1] 253,V (Wa (s) k)],mu:=fun k=>(s).length+6-6*k,objs:=[2] },rfl,?_⟩;(repeat refine ZG ?_);refine ⟨⟨(0:Nat),by show 6*0< _;omega,?_⟩,fun (k:Nat) m=>?_⟩
 ·exact ZE
 have m:6*k<(s).length+6:=m;have J:=(Fn f k m).1;by_cases F:6*k<(s).length
 ·obtain ⟨st,u⟩:∃st,(s).length-6*(k+1)=st:=⟨_,rfl⟩;obtain ⟨c,n⟩:∃c,(s).length-6*k=c:=⟨_,rfl⟩;(repeat refine ZR ?_);refine Ask.mk ⟨{ X:=Nat,pre:=fun i=>st<=i/\i<=c,mod:=fun i _=>[(5,I (We (s) st i)),(6,I i)],heap:=fun i H=>[bX H 0,.cells [.val (.bool false),.ref 2 1] 253,V (Wa (s) k)],mu:=fun i=>c-i },rfl,?_⟩;(repeat refine ZG ?_);refine ⟨⟨(st:Nat),⟨aI _,om⟩,?_⟩,fun (i:Nat) hi=>?_⟩
  ·(repeat' first|exact trivial|rfl|apply aA|omega);rw[Ox];rfl
  obtain ⟨o,D⟩:=hi;by_cases g:i<c
  ·have W:=NA f (st:=st) (i:=i) om;obtain ⟨e1,e2⟩:=Vv f o (show i<(s).length by omega);(repeat' first|refine ZR ?_|refine Zg fun _=>?_);refine ⟨(i+1:Nat),by show c-(i+1)<c-i;omega,⟨om,g⟩,?_⟩;exact ZE
  have e:i=c:=om;subst e;(repeat refine ZR ?_)
  try (
   refine Need.mk (show (Wa (s) k).length+1<=17592186044416 by omega) ?_
   skip)
  refine ⟨(k+1:Nat),by show (s).length+6-6*(k+1)<(s).length+6-6*k;omega,by show 6*(k+1)<(s).length+6;omega,?_⟩;(repeat' first|exact trivial|rfl|exact Nat.one_pos|apply aA|omega);show Wa (s) k++ [((We (s) st i:Nat):Int)]=Wa (s) k++ [((bH (LV (s) k):Nat):Int)];unfold We LV;rw[u,n]
 have z:=EW f m om;rw[e6] at z;(repeat refine ZR ?_);(conv=>whnf);(repeat' first|exact trivial|apply aA)
 ·exact y
 exact z
def W6:Con:=aV 225 false fun | [.str s],K=>Need (gW s/\(digs s).length<=600) (K (.agg [.bl (s.headD 0=45) inferInstance,Ls (aJ B6 (bH (digs s)))])) | _,_=>False
theorem U2:aM Tp W6:=by
 refine kQ { asks:=[(0,[2]),(2,[])] } func225 ntmps225 (kc HR kn) fun _ _ h=>?_;split at h;case h_2=>cases h
 rename_i s;refine kb h.go ?_;replace h:=h.ok;by_cases c:s.headD 0=45
 ·exact b112y s h c
 exact b112n s h c
def XY:Con:=aV 206 true fun | [.val (.int .i64 a),.val (.int .i64 b)],K=>Need ((0<=a/\a<=4611686018427387904)/\(0<=b/\b<=4611686018427387904)) (K (I (Int.gcd a b))) | _,_=>False
theorem k84:aM Tp XY:=by
 refine kQ { asks:=[(0,[])] } func206 ntmps206 kn fun _ _ h=>?_;split at h;case h_2=>cases h
 rename_i a b;refine kb h.go ?_;replace h:=h.ok;obtain ⟨m,n⟩:=h;refine Ask.mk ⟨{ X:=Int × Int,pre:=fun z=>Int.gcd z.1 z.2=Int.gcd a b/\(0<=z.1/\z.1<=4611686018427387904)/\(0<=z.2/\z.2<=4611686018427387904),mod:=fun z _=>[(0,I z.1),(1,I z.2)],heap:=fun _ _=>[],mu:=fun z=>z.2.natAbs },rfl,?_⟩;(repeat refine ZG ?_);refine ⟨⟨(a,b),⟨rfl,m,n⟩,ZE⟩,fun (z:Int × Int) hz=>?_⟩;obtain ⟨f,g,u⟩:=hz;(apply Br.mk<;>intro)
 ·rename_i e;have s:(z.1.tmod z.2).natAbs<z.2.natAbs:=by rw[kK];exact gP _ om
  have c:0<=z.1.tmod z.2:=sZ _ g.1;(repeat'((conv=>whnf);first|refine Za ?_|apply pI|apply pJ|fail));(conv=>whnf);refine ⟨(z.2,z.1.tmod z.2),s,⟨by rw[<- f];exact Fw _ _,u,c,by show z.1.tmod z.2<= _;omega⟩,?_⟩;(repeat' first|exact trivial|rfl|apply aA);exact (gZ g.1).symm
 rename_i e;have e:z.2=0:=om;have o:((Int.gcd a b:Nat):Int)=z.1:=by
  rw[<- f,e,pF];omega
 rw[o];exact ZF
theorem NB {D:Bx}(f:∀c∈D,dN c){i:Nat}(h:i<=17):We D 0 i<100000000000000000:=by
 have m:=iV ((D.take i).drop 0) fun c e=>f c (dV (gR e));have n:(10:Nat)^ ((D.take i).drop 0).length<=10^17:=bO om (by rw[bT,aW];omega);have g:(10:Nat)^17=100000000000000000:=de;unfold We;omega
theorem P8 (D:Bx):We D 0 D.length=bH D:=by
 unfold We;rw[cG,eN]
def c85:Con:=aV 207 true fun | [.str s],K=>Need ((∀c∈s,dN c)/\s.length<=18) (K (I (bH s))) | _,_=>False
theorem YI:aM Tp c85:=by
 refine kQ { asks:=[(0,[])] } func207 ntmps207 kn fun _ _ h=>?_;split at h;case h_2=>cases h
 rename_i s;refine kb h.go ?_;replace h:=h.ok;obtain ⟨f,m⟩:=h;refine Ask.mk ⟨{ X:=Nat,pre:=fun i=>i<=s.length,mod:=fun i _=>[(3,I (We s 0 i)),(4,I i)],heap:=fun _ _=>[],mu:=fun i=>s.length-i },rfl,?_⟩;(repeat refine ZG ?_);refine ⟨⟨(0:Nat),aF _,?_⟩,fun (i:Nat) (hi:i<=s.length)=>?_⟩
 ·(repeat' first|exact trivial|rfl|apply aA);all_goals (rw[Ox];rfl)
 by_cases c:i<s.length
 ·have g:=NB f (i:=i) om;obtain ⟨e1,e2⟩:=Vv f (aF _) c;(repeat' first|refine ZR ?_|refine Zg fun _=>?_);refine ⟨(i+1:Nat),by show s.length-(i+1)<s.length-i;omega,c,?_⟩;exact ZE
 have e:i=s.length:=om;subst e;rw[<- P8];exact ZRF
instance (s:Bx):Decidable (Dx s):=Cp
theorem FL {s:Bx}{i:Nat}(hi:i<s.length)(c:bJ s i<48\/bJ s i>57):¬Dx s:=by
 rw[qH];rintro ⟨_,h3,_⟩;have:=h3 _ (iL hi);rw[nT hi] at c;unfold dN at this;omega
def XZ:Con:=aV 205 true fun | [.str s],K=>K (.bl (Dx s) inferInstance) | _,_=>False
theorem k83:aM Tp XZ:=by
 refine kQ { asks:=[(0,[])] } func205 ntmps205 kn fun _ _ h=>?_;split at h;case h_2=>cases h
 rename_i s;refine kb h ?_;by_cases x:s.length=0
 ·have g:¬Dx s:=by
   rw[qH];exact fun h=>h.1 (cL.1 x)
  (repeat' first|refine ZR ?_|refine Zg fun _=>?_);(conv=>whnf);exact g
 by_cases u:s.length>1/\bJ s 0=48
 ·obtain ⟨u,f⟩:=u;have g:¬Dx s:=by
   rw[qH];rintro ⟨_,_,m⟩;have:=(fX (s:=s) om 48).1 f;rcases m with m | m
   ·omega
   exact m this
  (repeat' first|refine ZR ?_|refine Zg fun _=>?_);(conv=>whnf);exact g
 have f:¬((s.length:Int)>1)\/((s.length:Int)>1/\¬(bJ s 0=48)):=by
  by_cases e:bJ s 0=48
  ·exact .inl fun h=>u ⟨om,e⟩
  by_cases e2:s.length>1
  ·exact .inr ⟨om,e⟩
  exact .inl om
 have m:s.length=1\/s.headD 0≠48:=by
  rcases f with f | ⟨_,f⟩
  ·exact .inl om
  exact .inr fun e=>f ((fX (s:=s) om 48).2 e)
 rcases f with f | ⟨f,B⟩
 all_goals (
  (repeat' first|refine ZR ?_|refine Zg fun _=>?_);refine Ask.mk ⟨{ X:=Nat,pre:=fun i=>i<=s.length/\∀j,j<i->48<=bJ s j/\bJ s j<=57,mod:=fun i _=>[(3,I i)],heap:=fun _ _=>[],mu:=fun i=>s.length-i },rfl,?_⟩;(repeat refine ZG ?_);refine ⟨⟨(0:Nat),⟨aF _,fun j f=>om⟩,ZE⟩,fun (i:Nat) hi=>?_⟩;obtain ⟨D,n⟩:=hi;by_cases o:i<s.length
  ·by_cases z:bJ s i<48
   ·have g:¬Dx s:=FL o (.inl z);(repeat' first|refine ZR ?_|refine Zg fun _=>?_);(conv=>whnf);exact g
   by_cases A:bJ s i>57
   ·have g:¬Dx s:=FL o (.inr A);(repeat' first|refine ZR ?_|refine Zg fun _=>?_);(conv=>whnf);exact g
   (repeat' first|refine ZR ?_|refine Zg fun _=>?_);refine ⟨(i+1:Nat),by show s.length-(i+1)<s.length-i;omega,⟨om,fun j B=>?_⟩,?_⟩
   ·by_cases e:j=i
    ·rw[e];omega
    exact n j om
   exact ZE
  have e:i=s.length:=om;have y:Dx s:=by
   rw[qH];refine ⟨fun e=>x (by rw[e];rfl),fun c C=>?_,m⟩;obtain ⟨j,E,e2⟩:=iX.1 C;have:=n j om;rw[nT E,e2] at this;unfold dN;omega
  (repeat' first|refine ZR ?_|refine Zg fun _=>?_);(conv=>whnf);(repeat' first|apply aA)
  all_goals first | exact y.1 | exact y.2)
theorem Rz (c:UInt8)(r:Bx)(j:Nat):bJ (c::r) (j+1)=bJ r j:=by
 unfold bJ;rfl
theorem Ht:∀(D:Bx) (i:Nat),i<=D.length->(∀j,j<i->¬bJ D j=47)->(i=D.length\/(i<D.length/\bJ D i=47))->dM D=D.take i/\dI D=D.drop i
 | [],i,h1,_,_=>by
  have:i=0:=by simpa using h1
  subst this;exact ⟨rfl,rfl⟩
 | c::r,0,_,_,h=>by
  rcases h with h | ⟨_,h⟩
  ·simp at h
  have g:=(fX (s:=c::r) si 47).1 h;have g:c=47:=g;subst g;constructor<;>simp[dM,dI]
 | c::r,i+1,h1,h2,f=>by
  have g:¬c=47:=fun e=>h2 0 om ((fX (s:=c::r) si 47).2 e)
  obtain ⟨m,n⟩:=Ht r i (by simpa using h1) (fun j x=>by rw[<- Rz c];exact h2 (j+1) om) (by
   rcases f with f | ⟨f,o⟩
   ·exact .inl (by simpa using f)
   exact .inr ⟨by simpa using f,by rw[<- Rz c];exact o⟩)
  unfold dM at m ⊢;unfold dI at n ⊢;rw[oM,oL];have u:(c != 47)=true:=by simpa using g
  rw[u];simp only[if_true];exact ⟨by rw[m];rfl,by rw[n];rfl⟩
theorem Cg (c:UInt8)(r:Bx):digs (c::r)=if c=45 then r else c::r:=rfl
theorem NC (s:Bx):dM (digs s)=digs (dM s)/\dI (digs s)=dI s:=by
 cases s with
 | nil=>exact ⟨rfl,rfl⟩
 | cons c r=>
  by_cases h:c=45
  ·subst h;have e1:digs (45::r)=r:=by rw[Cg,aE rfl]
   have e2:dM (45::r)=45::dM r:=by unfold dM;rw[oM];rfl
   have e3:dI (45::r)=dI r:=by unfold dI;rw[oL];rfl
   rw[e1,e2,e3];exact ⟨(by rw[Cg,aE rfl]),rfl⟩
  have e1:digs (c::r)=c::r:=by rw[Cg,aD h]
  rw[e1];refine ⟨?_,rfl⟩;unfold dM;rw[oM];split
  ·rw[Cg,aD h]
  rfl
def U3:Con:=aV 204 true fun | [.str s],K=>K (.tup [.bl (s.headD 0=45) inferInstance,S (digs (dM s)),S (dI s).tail,.bl (¬dI s= []) inferInstance]) | _,_=>False
theorem X0:aM Tp U3:=by
 refine kQ { asks:=[(0,[])] } func204 ntmps204 kn fun _ _ h=>?_;split at h;case h_2=>cases h
 rename_i s;refine kb h ?_;obtain ⟨Y,W⟩:=NC s;rw[<- Y,<- W];by_cases A:0<s.length/\bJ s 0=45
 ·obtain ⟨z,C⟩:=A;have x:=Ow z C;have o:s.headD 0=45:=(fX z 45).1 C;have hi:bJ s 0=45↔s.headD 0=45:=⟨fun _=>o,fun _=>C⟩;rw[x];have J:(s.drop 1).length<=s.length:=by have:=xC s;rw[x] at this;omega
  (repeat' first|refine ZR ?_|refine Zg fun _=>?_);refine Ask.mk ⟨{ X:=Nat,pre:=fun i=>i<=(s.drop 1).length/\∀j,j<i->¬bJ (s.drop 1) j=47,mod:=fun i _=>[(8,I i)],heap:=fun _ _=>[],mu:=fun i=>(s.drop 1).length-i },rfl,?_⟩;(repeat refine ZG ?_);refine ⟨⟨(0:Nat),⟨aF _,fun j F=>om⟩,ZE⟩,fun (i:Nat) hi'=>?_⟩;obtain ⟨f,c⟩:=hi';by_cases n:i<(s.drop 1).length
  ·by_cases y:bJ (s.drop 1) i=47
   ·obtain ⟨g,m⟩:=Ht (s.drop 1) i f c (.inr ⟨n,y⟩);have D:(s.drop 1).drop (i+1)=((s.drop 1).drop i).tail:=List.tail_drop.symm;have E:¬(s.drop 1).drop i= []:=fun h=>by
     have B:((s.drop 1).drop i).length=0:=by rw[h];rfl
     rw[bT] at B;omega
    rw[g,m];(repeat'((conv=>whnf);first|refine Zg fun _=>?_|refine Zn ?_|refine Zj ?_|apply pI|apply pJ|refine Zy ?_|fail));(conv=>whnf);(repeat' first|exact trivial|rfl|apply aA);all_goals first | exact hi | exact o | exact D | exact E
   (repeat' first|refine ZR ?_|refine Zg fun _=>?_);refine ⟨(i+1:Nat),by show (s.drop 1).length-(i+1)<(s.drop 1).length-i;omega,⟨om,fun j K=>?_⟩,?_⟩
   ·by_cases e:j=i
    ·rw[e];exact y
    exact c j om
   exact ZE
  have e:i=(s.drop 1).length:=om;subst e;obtain ⟨g,m⟩:=Ht (s.drop 1) _ f c (.inl rfl);rw[cG] at g;rw[lM] at m;rw[g,m];(repeat' first|refine ZR ?_|refine Zg fun _=>?_);(conv=>whnf);(repeat' first|exact trivial|rfl|apply aA);all_goals first | exact hi | exact o | exact fun h=>h rfl
 have x:digs s=s:=Hs fun h e=>A ⟨h,e⟩;have o:¬s.headD 0=45:=fun e=>by
  have z:0<s.length:=dX fun h=>by rw[cL.1 h] at e;simp at e
  exact A ⟨z,(fX z 45).2 e⟩
 have u:¬(0<(s.length:Int))\/(0<(s.length:Int)/\¬bJ s 0=45):=by
  by_cases h:0<s.length
  ·exact .inr ⟨om,fun e=>A ⟨h,e⟩⟩
  exact .inl om
 rw[x];have hi:bJ s 0=45↔s.headD 0=45:=by
  constructor
  ·intro e;by_cases h:0<s.length
   ·exact absurd ⟨h,e⟩ A
   rw[cL.1 (show s.length=0 by omega)] at e;exact absurd e de
  exact fun e=>absurd e o
 rcases u with u | ⟨u,Z⟩
 ·skip;have J:(s).length<=s.length:=by have:=xC s;rw[x] at this;omega
  (repeat' first|refine ZR ?_|refine Zg fun _=>?_);refine Ask.mk ⟨{ X:=Nat,pre:=fun i=>i<=(s).length/\∀j,j<i->¬bJ (s) j=47,mod:=fun i _=>[(8,I i)],heap:=fun _ _=>[],mu:=fun i=>(s).length-i },rfl,?_⟩;(repeat refine ZG ?_);refine ⟨⟨(0:Nat),⟨aF _,fun j F=>om⟩,ZE⟩,fun (i:Nat) hi'=>?_⟩;obtain ⟨f,c⟩:=hi';by_cases n:i<(s).length
  ·exfalso;omega
  have e:i=(s).length:=om;subst e;obtain ⟨g,m⟩:=Ht (s) _ f c (.inl rfl);rw[cG] at g;rw[lM] at m;rw[g,m];(repeat' first|refine ZR ?_|refine Zg fun _=>?_);(conv=>whnf);(repeat' first|exact trivial|rfl|apply aA);all_goals first | exact hi | exact o | exact fun h=>h rfl
 skip;have J:(s).length<=s.length:=by have:=xC s;rw[x] at this;omega
 (repeat' first|refine ZR ?_|refine Zg fun _=>?_);refine Ask.mk ⟨{ X:=Nat,pre:=fun i=>i<=(s).length/\∀j,j<i->¬bJ (s) j=47,mod:=fun i _=>[(8,I i)],heap:=fun _ _=>[],mu:=fun i=>(s).length-i },rfl,?_⟩;(repeat refine ZG ?_);refine ⟨⟨(0:Nat),⟨aF _,fun j F=>om⟩,ZE⟩,fun (i:Nat) hi'=>?_⟩;obtain ⟨f,c⟩:=hi';by_cases n:i<(s).length
 ·by_cases y:bJ (s) i=47
  ·obtain ⟨g,m⟩:=Ht (s) i f c (.inr ⟨n,y⟩);have D:(s).drop (i+1)=((s).drop i).tail:=List.tail_drop.symm;have E:¬(s).drop i= []:=fun h=>by
    have B:((s).drop i).length=0:=by rw[h];rfl
    rw[bT] at B;omega
   rw[g,m];(repeat'((conv=>whnf);first|refine Zg fun _=>?_|refine Zn ?_|refine Zj ?_|apply pI|apply pJ|refine Zy ?_|fail));(conv=>whnf);(repeat' first|exact trivial|rfl|apply aA);all_goals first | exact hi | exact o | exact D | exact E
  (repeat' first|refine ZR ?_|refine Zg fun _=>?_);refine ⟨(i+1:Nat),by show (s).length-(i+1)<(s).length-i;omega,⟨om,fun j K=>?_⟩,?_⟩
  ·by_cases e:j=i
   ·rw[e];exact y
   exact c j om
  exact ZE
 have e:i=(s).length:=om;subst e;obtain ⟨g,m⟩:=Ht (s) _ f c (.inl rfl);rw[cG] at g;rw[lM] at m;rw[g,m];(repeat' first|refine ZR ?_|refine Zg fun _=>?_);(conv=>whnf);(repeat' first|exact trivial|rfl|apply aA);all_goals first | exact hi | exact o | exact fun h=>h rfl
def P9:Con:=aV 227 true fun args K=>match args with
 | [.agg [.bl p hp,.seq (.int .i64) a]]=>Need (oK a/\a.length<=200) (K (S (itoa (@nF p hp (aQ B6 a)))))
 | [.agg [.val (.bool false),.seq (.int .i64) a]]=>Need (oK a/\a.length<=200) (K (S (itoa (aQ B6 a))))
 | _=>False
theorem W7 (k:Nat):(B6:Nat)^k=10^ (6*k):=by
 rw[show B6=10^6 by decide,<- Nat.pow_mul]
theorem Vw {k:Nat}(h:k<=300):10^k<=B6^50:=by
 rw[W7];obtain ⟨m,c⟩:∃m,6*50=m:=⟨_,rfl⟩;rw[c];exact bO om om
theorem uX {s:Bx}(h:gW s)(c:(digs s).length<=300):bH (digs s)<B6^50:=
 bE (iV (digs s) h.2.2) (Vw c)
theorem Jj {s:Bx}(h:gW s)(c:s.length<=17): -1000000000000000000<bK s/\bK s<1000000000000000000:=xD h om
theorem ND {n k:Nat}(c:k+1<=300)(h:n<10^ (k+1)):gM (n:Int)=(itoa n,0):=by
 unfold gM lim;rw[aD];have:=qG k n h;simp;omega
theorem AS {n:Nat}(h:n<B6^50):gM (n:Int)=(itoa n,0):=by
 rw[W7] at h;obtain ⟨k,c⟩:∃k,6*50=k+1:=⟨299,rfl⟩;rw[c] at h;exact ND om h
theorem b86 (a b:Bx):body Tp [W5,U0,WM,W6,UV,P9] { asks:=[(0,[]),(2,[])] } true f208 [S a,S b] (.tup [S (mP a b (gM (Int.gcd (bK a) (bK b)))).1,I (mP a b (gM (Int.gcd (bK a) (bK b)))).2]):=by
 unfold mP;(apply Br.mk<;>intro)
 ·rename_i h;rw[aE h];exact ZF
 rename_i h;rw[aD h];obtain ⟨y,A⟩:=xE h;obtain ⟨m,E⟩:=mO y;obtain ⟨n,F⟩:=mO A;have J:=uX m E;have K:=uX n F;have o:Int.gcd (bK a) (bK b)=Nat.gcd (bH (digs a)) (bH (digs b)):=by
  unfold Int.gcd;rw[qK,qK,yG,yG]
 refine Need.mk ⟨m,n⟩ ?_;(apply Br.mk<;>intro)
 ·rename_i u;have W:=Jj m u.1;have Y:=Jj n u.2;refine Ask.mk ⟨{ X:=Int × Int,pre:=fun z=>Int.gcd z.1 z.2=Int.gcd (bK a) (bK b)/\z.1.natAbs<=1000000000000000000/\z.2.natAbs<=1000000000000000000,mod:=fun z _=>[(7,I z.1),(8,I z.2)],heap:=fun _ _=>[],mu:=fun z=>z.2.natAbs },rfl,?_⟩;(repeat refine ZG ?_);refine ⟨⟨(bK a,bK b),⟨rfl,by show (bK a).natAbs<= _;omega,by show (bK b).natAbs<= _;omega⟩,ZE⟩,fun (z:Int × Int) hz=>?_⟩;obtain ⟨f,x,g⟩:=hz;(apply Br.mk<;>intro)
  ·rename_i c;have D:(z.1.tmod z.2).natAbs<z.2.natAbs:=by rw[kK];exact gP _ om
   (repeat'((conv=>whnf);first|refine Zb ?_|apply pI|apply pJ|fail));(conv=>whnf);refine ⟨(z.2,z.1.tmod z.2),D,⟨by rw[<- f];exact Fw _ _,g,by show (z.1.tmod z.2).natAbs<= _;omega⟩,?_⟩;exact ZE
  rename_i c;have c:z.2=0:=om;have C:((Int.gcd (bK a) (bK b):Nat):Int)=max z.1 (-z.1):=by
   rw[<- f,c,pF];omega
  rw[C,yJ om];exact ZGF
 rename_i u;rw[o];(apply Br.mk<;>intro)
 all_goals (
  refine Need.mk ⟨m,om⟩ ?_;refine Need.mk ⟨n,om⟩ ?_;refine Ask.mk ⟨{ X:=Nat × Nat,pre:=fun z=>Nat.gcd z.1 z.2=Nat.gcd (bH (digs a)) (bH (digs b))/\z.1<B6^50/\z.2<B6^50,mod:=fun z _=>[(10,Ls (aJ B6 z.1)),(11,Ls (aJ B6 z.2))],heap:=fun _ _=>[],mu:=fun z=>z.2 },rfl,?_⟩;(repeat refine ZG ?_);refine ⟨⟨(bH (digs a),bH (digs b)),⟨rfl,J,K⟩,ZE⟩,fun (z:Nat × Nat) hz=>?_⟩;obtain ⟨f,x,g⟩:=hz;have Z:=rU x;have s:B6^50<=B6^100:=bO de om;(repeat'((conv=>whnf);first|refine Zg fun _=>?_|fail));(apply Br.mk<;>intro)
  ·rename_i c;have c:0<z.2:=dX fun e=>by rw[e,eC] at c;exact absurd c de
   refine Need.mk ⟨dE de _,tU _,⟨by rw[v6,aU];exact c,by rw[v6,aU];exact bE g s⟩,om⟩ ?_;rw[v6,v6,<- oG,<- rW,aU,aU];refine ⟨(z.2,z.1%z.2),gP _ c,⟨by rw[<- f];show Nat.gcd z.2 (z.1%z.2)= _;rw[qS z.1 z.2,Nat.gcd_rec z.2 z.1];exact qS _ _,g,oF (gP _ c) g⟩,?_⟩;exact ZE
  rename_i c;have c:z.2=0:=(wZ (B:=B6) de).1 (cK om);rw[c,Nat.gcd_zero_right] at f;rw[<- f,AS x];refine Need.mk ⟨tU _,om⟩ ?_;rw[v6];(conv=>whnf)
  (repeat' first|exact trivial|rfl|apply aA))
def W8:Con:=aV 208 true fun args K=>match args with
 | [.str a,.str b]=>K (.tup [S (mP a b (gM (Int.gcd (bK a) (bK b)))).1,I (mP a b (gM (Int.gcd (bK a) (bK b)))).2])
 | _=>False
theorem NF (s:Bx):(dM s).headD 0=45↔s.headD 0=45:=by
 cases s with
 | nil=>exact cJ
 | cons c r=>
  unfold dM;rw[oM];by_cases h:c=47
  ·subst h;constructor
   ·intro e;simp at e
   intro e;simp at e
  have f:(c != 47)=true:=by simpa using h
  rw[f];exact cJ
theorem Sa (s:Bx):tH s↔Dx (digs (dM s))/\¬(s.headD 0=45/\digs (dM s)= [48])/\(dI s= []\/(Dx (dI s).tail/\¬(dI s).tail= [48]/\¬(dI s).tail= [49])):=by
 unfold tH;rw[AG,NF,and_assoc];refine and_congr_right fun _=>and_congr_right fun _=>?_;by_cases h:dI s= []
 ·exact ⟨fun _=>.inl h,fun _=>.inl h⟩
 have e:jY s=bH (dI s).tail:=by unfold jY;rw[aD h]
 rw[e,E8]
theorem QA {s:Bx}(h:¬(Dx (digs (dM s))/\¬(s.headD 0=45/\digs (dM s)= [48])/\(dI s= []\/(Dx (dI s).tail/\¬(dI s).tail= [48]/\¬(dI s).tail= [49])))):dD s=11:=by
 unfold dD;rw[aD fun e=>h ((Sa s).1 e)]
theorem C4 (s:Bx):(bK (dM s)).natAbs=bH (digs (dM s)):=by rw[qK,yG]
theorem FM {t:Bx}(h:Dx t)(y:t.length<=300):iO t=0/\bK t=bH t:=by
 rw[qH] at h;obtain ⟨n,o,g⟩:=h;have s:¬t.headD 0=45:=fun e=>by
  cases t with
  | nil=>exact n rfl
  | cons c r=>
   have u:c=45:=e;have:=o c si;subst u;exact absurd this de
 have m:digs t=t:=by unfold digs;rw[aD s]
 have x:gW t:=by
  refine ⟨by rw[m];exact n,?_,by rw[m];exact o⟩;rw[m];by_cases f:t.headD 0=48
  ·rcases g with g | g
   ·exact .inr (E7 g f)
   exact absurd f g
  exact .inl f
 refine ⟨by rw[sL x,m,aD om],by unfold bK;rw[aD s]⟩
theorem QB {x y:Bx}(f:Dx x)(g:Dx y)(m:x.length<=300)(n:y.length<=300):(mP x y (gM (Int.gcd (bK x) (bK y)))).1= [49]↔(bH x).gcd (bH y)=1:=by
 obtain ⟨u,B⟩:=FM f m;obtain ⟨z,C⟩:=FM g n;have A:Int.gcd (bK x) (bK y)=(bH x).gcd (bH y):=by rw[B,C];rfl
 have c:(bH x).gcd (bH y)<B6^50:=by
  have o:=bE (iV x ((qH x).1 f).2.1) (Vw m);have s:=bE (iV y ((qH y).1 g).2.1) (Vw n);rcases dF (bH x) with h | h
  ·rw[h,Nat.gcd_zero_left];exact s
  exact bV (Nat.gcd_le_left _ h) o
 unfold mP Av;rw[aD (by rw[u];simp[z]),A,AS c];dsimp only;rw[show ([49]:Bx)=itoa ((1:Nat):Int) from by decide+kernel];constructor
 ·intro e;have:=LY e;omega
 intro e;rw[e]
theorem NG {s:Bx}(h:Dx (digs (dM s))/\¬(s.headD 0=45/\digs (dM s)= [48])/\(dI s= []\/(Dx (dI s).tail/\¬(dI s).tail= [48]/\¬(dI s).tail= [49]))):
  dD s=if 300<(digs (dM s)).length\/300<(dI s).tail.length then 4 else if (bH (digs (dM s))).gcd (jY s)=1 then 0 else 11:=by
 unfold dD;rw[aE ((Sa s).2 h),C4]
theorem b44n (s:Bx)(h:¬(Dx (digs (dM s))/\¬(s.headD 0=45/\digs (dM s)= [48])/\(dI s= []\/(Dx (dI s).tail/\¬(dI s).tail= [48]/\¬(dI s).tail= [49])))):body Tp [U3,XZ,c85,XY,W8] {} true f189 [S s] (I (dD s)):=by
 rw[QA h];by_cases f:Dx (digs (dM s))
 ·by_cases g:dI s= []
  ·have u:¬ ¬dI s= []:=fun h=>h g;have c:s.headD 0=45/\digs (dM s)= [48]:=aS fun e=>h ⟨f,e,.inl g⟩;obtain ⟨c,m⟩:=c;exact ZRF
  by_cases c:Dx (dI s).tail
  ·by_cases m:(dI s).tail= [48]
   ·exact ZRF
   by_cases o:(dI s).tail= [49]
   ·exact ZRF
   have n:s.headD 0=45/\digs (dM s)= [48]:=aS fun e=>h ⟨f,e,.inr ⟨c,m,o⟩⟩;obtain ⟨n,x⟩:=n;exact ZRF
  exact ZRF
 exact ZRF
theorem b44y (s:Bx)(h:Dx (digs (dM s))/\¬(s.headD 0=45/\digs (dM s)= [48])/\(dI s= []\/(Dx (dI s).tail/\¬(dI s).tail= [48]/\¬(dI s).tail= [49]))):body Tp [U3,XZ,c85,XY,W8] {} true f189 [S s] (I (dD s)):=by
 rw[NG h];obtain ⟨E,c,W⟩:=h;have z:=((qH _).1 E).2.1;have c:¬s.headD 0=45\/(s.headD 0=45/\¬digs (dM s)= [48]):=by
  by_cases e:s.headD 0=45
  ·exact .inr ⟨e,fun e2=>c ⟨e,e2⟩⟩
  exact .inl e
 by_cases x:dI s= []
 ·have X:¬ ¬dI s= []:=fun h=>h x;have hl:(dI s).tail.length=0:=by rw[x];rfl
  have B:jY s=1:=by unfold jY;rw[aE x]
  rw[B];have C:=Nat.gcd_one_right (bH (digs (dM s)));by_cases f:300<(digs (dM s)).length
  ·rw[aE (.inl f)];rcases c with c | ⟨c,n⟩
   all_goals (
    (repeat' first|refine ZR ?_|refine Zg fun _=>?_);(conv=>whnf)
    (repeat' first|rfl|apply aA))
  rw[aD om,aE C];rcases c with c | ⟨c,n⟩
  all_goals (
   (repeat' first|refine ZR ?_|refine Zg fun _=>?_);(conv=>whnf)
   (repeat' first|rfl|apply aA))
 have B:jY s=bH (dI s).tail:=by unfold jY;rw[aD x]
 rw[B];obtain ⟨F,h6,h7⟩:=W.resolve_left x;have A:=((qH _).1 F).2.1;by_cases f:300<(digs (dM s)).length
 ·rw[aE (.inl f)];rcases c with c | ⟨c,n⟩
  all_goals (
   (repeat' first|refine ZR ?_|refine Zg fun _=>?_);(conv=>whnf)
   (repeat' first|rfl|apply aA))
 by_cases u:300<(dI s).tail.length
 ·rw[aE (.inr u)];rcases c with c | ⟨c,n⟩
  all_goals (
   (repeat' first|refine ZR ?_|refine Zg fun _=>?_);(conv=>whnf)
   (repeat' first|rfl|apply aA))
 rw[aD om];by_cases g:(digs (dM s)).length<=9/\(dI s).tail.length<=9
 ·obtain ⟨g,m⟩:=g;have n9:(10:Nat)^9=1000000000:=de;have Z:=iV _ z;have b2:=iV _ A;have J:(10:Nat)^ (digs (dM s)).length<=10^9:=bO om g;have K:(10:Nat)^ (dI s).tail.length<=10^9:=bO om m;have Y:Int.gcd (bH (digs (dM s)):Int) (bH (dI s).tail:Int)=(bH (digs (dM s))).gcd (bH (dI s).tail):=rfl;by_cases o:(bH (digs (dM s))).gcd (bH (dI s).tail)=1
  ·rw[aE o];rcases c with c | ⟨c,n⟩
   all_goals (
    (repeat'((conv=>whnf);first|refine Zg fun _=>?_|refine Zy ?_|refine Zm ?_|fail));refine Need.mk ⟨z,om⟩ ?_;refine Need.mk ⟨A,om⟩ ?_;(repeat refine ZR ?_);(conv=>whnf)
    (repeat' first|rfl|apply aA))
  rw[aD o];rcases c with c | ⟨c,n⟩
  all_goals (
   (repeat'((conv=>whnf);first|refine Zg fun _=>?_|refine Zy ?_|refine Zm ?_|fail));refine Need.mk ⟨z,om⟩ ?_;refine Need.mk ⟨A,om⟩ ?_;(repeat refine ZR ?_);(conv=>whnf)
   (repeat' first|rfl|apply aA))
 have y:=QB E F om om;have g:¬((digs (dM s)).length:Int)<=9\/(((digs (dM s)).length:Int)<=9/\¬((dI s).tail.length:Int)<=9):=om;by_cases o:(bH (digs (dM s))).gcd (bH (dI s).tail)=1
 ·rw[aE o];have D:=y.2 o;rcases c with c | ⟨c,n⟩
  all_goals (
   rcases g with g | ⟨g,m⟩
   all_goals (
    (repeat' first|refine ZR ?_|refine Zg fun _=>?_);(conv=>whnf)
    (repeat' first|rfl|apply aA)))
 rw[aD o];have D:¬ _= _:=fun e=>o (y.1 e);rcases c with c | ⟨c,n⟩
 all_goals (
  rcases g with g | ⟨g,m⟩
  all_goals (
   (repeat' first|refine ZR ?_|refine Zg fun _=>?_);(conv=>whnf)
   (repeat' first|rfl|apply aA)))
theorem b44 (s:Bx):body Tp [U3,XZ,c85,XY,W8] {} true f189 [S s] (I (dD s)):=by
 by_cases h:Dx (digs (dM s))/\¬(s.headD 0=45/\digs (dM s)= [48])/\(dI s= []\/(Dx (dI s).tail/\¬(dI s).tail= [48]/\¬(dI s).tail= [49]))
 ·exact b44y s h
 exact b44n s h
theorem Oo (x:Int):∀l:List Int,Ki (l++ [x])=EX x.toNat++Ki l
 | []=>by simp[Ki]
 | y::r=>by
  show Ki (r++ [x])++EX y.toNat=EX x.toNat++(Ki r++EX y.toNat);rw[Oo x r,bW]
abbrev U (l:List Int):HO:=.vec 1 (.int .u8) l 5
theorem i0:itoa (aQ B6 [])= [48]:=by show itoa 0= [48];simp[itoa,decDigits]
def Vr (x:Nat):Nat->List Int
 | 0=>[]
 | j+1=>((48+x/10^j%10:Nat):Int)::Vr x j
theorem AP (x:Nat):∀j,(Vr x j).length=j
 | 0=>rfl
 | j+1=>by rw[Vr,cF,AP x j]
theorem M2 (x:Nat):Vr x 6=cP (EX x):=by
 have d:∀n,(((UInt8.ofNat (48+n%10)).toNat:Nat):Int)=((48+n%10:Nat):Int):=fun n=>by rw[lU om]
 simp only[Vr,EX,cP,jT,List.map_nil,d,Nat.reducePow,Nat.div_one]
def oT (l:List Int)(i j:Nat):List Int:=List.replicate (6*(l.length-i)-j) 0++(Vr (l.getD i 0).toNat j++cP (Ki (l.take i)))
theorem Oq (s:Bx):(cP s).length=s.length:=by simp[cP]
theorem UQ {l:List Int}{i j:Nat}(hi:i<=l.length)(c:j<=6*(l.length-i)):(oT l i j).length=6*l.length:=by
 simp only[oT,aO,dZ,AP,Oq,Vd,aW];omega
theorem P5 (l:List Int):oT l 0 0=List.replicate (6*l.length) 0:=by
 simp[oT,Vr,Ki,cP]
theorem UR (l:List Int):oT l l.length 0=cP (Ki l):=by
 simp[oT,Vr]
theorem US {l:List Int}{i:Nat}(hi:i<l.length):oT l i 6=oT l (i+1) 0:=by
 have e1:6*(l.length-i)-6=6*(l.length-(i+1))-0:=om;have e2:l.take (i+1)=l.take i++ [l.getD i 0]:=by
  rw[cI hi];simp[aB,hi]
 unfold oT;rw[e1,e2,Oo,M2];simp[Vr,cP]
theorem M3 (m:Nat)(v:Int)(r:List Int):(List.replicate (m+1) (0:Int)++r).set m v=List.replicate m 0++(v::r):=by
 rw[sQ,bW,List.set_append_right _ _ si];simp
theorem UT {l:List Int}{i j k:Nat}{v:Int}(hi:i<l.length)(g:j<6)(c:k=6*(l.length-i)-(j+1))(f:v=((48+(l.getD i 0).toNat/10^j%10:Nat):Int)):(oT l i j).set k v=oT l i (j+1):=by
 subst c f;unfold oT;obtain ⟨m,e⟩:∃m,m=6*(l.length-i)-(j+1):=⟨_,rfl⟩;rw[show 6*(l.length-i)-j=m+1 by omega,<- e,M3];rfl
theorem mQ (s:Bx):gD (cP s)=s:=by
 unfold gD cP;rw[List.map_map]
 conv=>rhs;rw[<- List.map_id s]
 refine tI fun b _=>?_;simp
theorem dz {n m:Nat}(h:n<10*m)(e:n/m%10=0):n<m:=by
 have g:n/m<10:=Nat.div_lt_of_lt_mul (by rw[dY];exact h);rw[fT g] at e;have o:0<m:=by
  rcases dF m with c | c
  ·subst c;omega
  exact c
 rcases Nat.div_eq_zero_iff.1 e with f | f
 ·omega
 exact f
theorem dsum {n:Nat}(x:0<n)(h:n<1000000):0<n/100000%10+n/10000%10+n/1000%10+n/100%10+n/10%10+n%10:=by
 refine dX fun e=>?_;obtain ⟨e,e5⟩:=lD.1 e;obtain ⟨e,e4⟩:=lD.1 e;obtain ⟨e,e3⟩:=lD.1 e;obtain ⟨e,e2⟩:=lD.1 e;obtain ⟨s,e1⟩:=lD.1 e;have c:=dz (m:=100000) h s;have f:=dz (m:=10000) c e1;have g:=dz (m:=1000) f e2;have o:=dz (m:=100) g e3;have u:=dz (m:=10) o e4;omega
theorem M4 {a:List Int}{f g m n o s:Nat}{R:Bx}(u:Ki a=UInt8.ofNat (48+f)::UInt8.ofNat (48+g)::UInt8.ofNat (48+m)::UInt8.ofNat (48+n)::UInt8.ofNat (48+o)::UInt8.ofNat (48+s)::R)(c:f<=9/\g<=9/\m<=9/\n<=9/\o<=9/\s<=9):oT a a.length 0=(48+f:Int)::(48+g:Int)::(48+m:Int)::(48+n:Int)::(48+o:Int)::(48+s:Int)::cP R:=by
 have e:∀d:Nat,d<=9->(((UInt8.ofNat (48+d)).toNat:Nat):Int)=48+d:=fun d h=>by
  rw[mE];omega
 rw[UR,u];simp only[cP,jT,e f c.1,e g c.2.1,e m c.2.2.1,e n c.2.2.2.1,e o c.2.2.2.2.1,e s c.2.2.2.2.2]
theorem fW (d:Nat)(X:List Int):gD ((48+(d:Int))::X)=UInt8.ofNat (48+d)::gD X:=by
 show UInt8.ofNat (48+(d:Int)).toNat::gD X= _;rw[show (48+(d:Int)).toNat=48+d by omega]
theorem Ho {p:Prop}{f:Decidable p}{a:List Int}{d:Nat}{X:List Int}{Y:Bx}(h:¬p)(g:0<aQ B6 a)(c:gD X=Y)(e:UInt8.ofNat (48+d)::Y=decDigits (aQ B6 a).toNat):gD ((48+(d:Int))::X)=itoa (nF p (aQ B6 a)):=by
 rw[fW,c,e];unfold nF itoa;rw[aD h,aD om]
theorem Hp {p:Prop}{f:Decidable p}{a:List Int}{d:Nat}{X:List Int}{Y:Bx}(h:p)(g:0<aQ B6 a)(c:gD X=Y)(e:UInt8.ofNat (48+d)::Y=decDigits (aQ B6 a).toNat):(45:UInt8)::gD ((48+(d:Int))::X)=itoa (nF p (aQ B6 a)):=by
 rw[fW,c,e];unfold nF itoa;rw[aE h,aE om,Bc];congr 2
 omega
theorem P6 {a:List Int}(h:oK a)(c:0<aQ B6 a):(Ki a).dropWhile (· ==48)=decDigits (aQ B6 a).toNat:=PI (Hr h) c
theorem M5 {a:List Int}(h:oK a)(m:a≠ []):∃n o s u y z:Nat,∃R:Bx,Ki a=UInt8.ofNat (48+n)::UInt8.ofNat (48+o)::UInt8.ofNat (48+s)::UInt8.ofNat (48+u)::UInt8.ofNat (48+y)::UInt8.ofNat (48+z)::R/\R.length<=6*a.length/\(n<=9/\o<=9/\s<=9/\u<=9/\y<=9/\z<=9)/\0<n+o+s+u+y+z/\0<aQ B6 a:=by
 have B:=Hr h;have c:∀(l:List Int),aJ B6 (aQ B6 a).toNat=l->∀C:l≠ [],l.getLast C≠0:=by
  intro l C;subst C;exact yB de _
 have K:=c a h m;have J:0<aQ B6 a:=by
  have W:=Ov h;rcases dF (aQ B6 a).toNat with e | e
  ·exfalso;have E:aJ B6 (aQ B6 a).toNat=a:=h;rw[e] at E;exact m (by rw[<- E];simp[aJ])
  omega
 obtain ⟨x,f⟩:∃x,a.getLast m=x:=⟨_,rfl⟩;rw[f] at K;have g:x∈a:=by rw[<- f];exact List.getLast_mem m
 have D:0<=x/\x<((B6:Nat):Int):=B x g;have A:((B6:Nat):Int)=1000000:=rfl;rw[A] at D;have F:Ki a=EX x.toNat++Ki a.dropLast:=by
  rw[<- Oo,<- f,gO m]
 refine ⟨x.toNat/100000%10,x.toNat/10000%10,x.toNat/1000%10,x.toNat/100%10,x.toNat/10%10,x.toNat%10,Ki a.dropLast,by rw[F];rfl,?_,⟨om,om,om,om,om,om⟩,dsum om om,J⟩;rw[Vd,List.length_dropLast];omega
theorem Hq {a:List Int}(h:oK a)(s:0<aQ B6 a)(pre X:Bx)(d:Nat)(u:0<d/\d<=9)(f:Ki a=pre++UInt8.ofNat (48+d)::X)(c:∀b∈pre,b=48):UInt8.ofNat (48+d)::X=decDigits (aQ B6 a).toNat:=by
 have o:UInt8.ofNat (48+d)≠48:=by
  intro e;have g:=aR UInt8.toNat e;have m:(UInt8.ofNat (48+d)).toNat=48+d:=by rw[mE];omega
  rw[m] at g;have:(48:UInt8).toNat=48:=rfl;omega
 rw[<- P6 h s,f];clear f
 induction pre with
 | nil=>rw[jI,nX (by simpa using o)]
 | cons b r ih=>
  rw[c b si,jV,nW si];exact ih fun b n=>c b (by simp[n])
theorem WZ (p:Prop)(hp:Decidable p)(a:List Int)(h:oK a/\a.length<=200):body Tp [] { asks:=[(0,[]),(2,[])] } true f227 [.agg [.bl p hp,Ls a]] (S (itoa (nF p (aQ B6 a)))):=by
 obtain ⟨z,hl⟩:=h;by_cases K:a= []
 ·subst K;(repeat'((conv=>whnf);first|refine Zg fun _=>?_|fail));(apply Br.mk<;>intro)
  ·skip;(conv=>whnf);show [48]=itoa (if p then -0 else 0);split<;>exact i0.symm
  rename_i hx;exact (hx rfl).elim
 obtain ⟨F,y,u,s,m,g,R,A,hR,B,hs,c⟩:=M5 z K;have C:=Hr z;have hn:0<a.length:=cB.2 K;(repeat'((conv=>whnf);first|refine Zg fun _=>?_|refine Zn ?_|refine Zm ?_|fail));refine Need.mk ⟨om,om,om,show 6*(a.length:Int)*((1:Nat):Int)<=140737488355328 by omega⟩ ?_;refine Ask.mk ⟨{ X:=Nat,pre:=fun i=>i<=a.length,mod:=fun i _=>[(4,I i)],heap:=fun i H=>[bX H 0,U (oT a i 0)],mu:=fun i=>a.length-i },rfl,?_⟩;(repeat refine ZG ?_);refine ⟨⟨(0:Nat),aF _,?_⟩,fun (i:Nat) (hi:i<=a.length)=>?_⟩
 ·(repeat' first|exact trivial|rfl|apply aA);rw[P5];show List.replicate _ _=List.replicate _ _;congr 1
 have gi:=C (a.getD i 0);(repeat'((conv=>whnf);first|refine Zg fun _=>?_|fail));(apply Br.mk<;>intro)
 ·have x:i<a.length:=om;have W:0<=a.getD i 0/\a.getD i 0<1000000:=by
   refine C _ ?_;rw[aB,aY x];exact iL x
  (repeat' first|refine ZG ?_|refine Zg fun _=>?_);refine Ask.mk ⟨{ X:=Nat,pre:=fun k=>k<=6,mod:=fun k _=>[(5,I (a.getD i 0/((10^k:Nat):Int))),(6,I (k+1))],heap:=fun k H=>[bX H 0,U (oT a i k)],mu:=fun k=>6-k },rfl,?_⟩;(repeat refine ZG ?_);refine ⟨⟨(0:Nat),aF _,?_⟩,fun (k:Nat) (Y:k<=6)=>?_⟩
  ·exact ZE
  (apply Br.mk<;>intro)
  ·have D:k<6:=om;obtain ⟨q,J⟩:∃q,a.getD i 0/((10^k:Nat):Int)=q:=⟨_,rfl⟩;have E:0<=q/\q<1000000:=by
    rw[<- J];have h1:(0:Int)<((10^k:Nat):Int):=Int.natCast_pos.2 (Nat.pow_pos om);refine ⟨eF W.1 om,?_⟩;have:=rV ((10^k:Nat):Int) W.1;omega
   rw[J];have tq:q.tmod 10=q%10:=gZ E.1;have dq:q.tdiv 10=q/10:=nV E.1;have Z:=UQ (l:=a) (i:=i) (j:=k) om om;(repeat' first|refine ZG ?_|refine Zg fun _=>?_);refine iW (6*(a.length-i)-(k+1)) om ?_;(repeat refine ZG ?_);refine ⟨(k+1:Nat),by show 6-(k+1)<6-k;omega,D,?_⟩;(repeat' first|exact trivial|rfl|apply aA)
   ·rw[<- J,hU,dG,Int.ediv_ediv_of_nonneg (Int.natCast_nonneg _)];rfl
   refine UT x D rfl ?_;rw[<- J];have e1:a.getD i 0=((a.getD i 0).toNat:Int):=om;rw[e1];simp only[aU];omega
  have e:k=6:=om;subst e;(repeat refine ZG ?_);refine ⟨(i+1:Nat),by show a.length-(i+1)<a.length-i;omega,x,?_⟩;(repeat' first|exact trivial|rfl|apply aA);exact US x
 have e:i=a.length:=om;subst e;rw[M4 A ⟨B.1,B.2.1,B.2.2.1,B.2.2.2.1,B.2.2.2.2.1,B.2.2.2.2.2⟩];have Y (n:Nat):length (α:=Int) (cP R)=R.length:=Oq R;by_cases z0:F=0
 ·subst z0;by_cases z1:y=0
  ·subst z1;by_cases z2:u=0
   ·subst z2;by_cases z3:s=0
    ·subst z3;by_cases z4:m=0
     ·subst z4;by_cases z5:g=0
      ·subst z5;exfalso;omega
      have o:=Hq z c [48,48,48,48,48] (R) g om A si;(repeat' first|refine ZG ?_|refine Zg fun _=>?_);refine Br.mkY (show (48+((0:Nat):Int))=48 by omega) ?_;(repeat' first|refine ZG ?_|refine Zg fun _=>?_);refine Br.mkY (show (48+((0:Nat):Int))=48 by omega) ?_;(repeat' first|refine ZG ?_|refine Zg fun _=>?_);refine Br.mkY (show (48+((0:Nat):Int))=48 by omega) ?_;(repeat' first|refine ZG ?_|refine Zg fun _=>?_);refine Br.mkY (show (48+((0:Nat):Int))=48 by omega) ?_;(repeat' first|refine ZG ?_|refine Zg fun _=>?_);refine Br.mkY (show (48+((0:Nat):Int))=48 by omega) ?_;(repeat' first|refine ZG ?_|refine Zg fun _=>?_);refine Br.mkN (show ¬(48+(g:Int))=48 by omega) ?_;(apply Br.mk<;>intro)
      ·rename_i f;refine Need.mk (show 1+(gD ((48+(g:Int))::(cP R))).length<=140737488355328 by (simp only[gD,cP,kL,cF];omega)) ?_;(conv=>whnf);exact Hp f c (X:=(cP R)) (by simp only[fW,mQ]) o
      rename_i f;(conv=>whnf);exact Ho f c (X:=(cP R)) (by simp only[fW,mQ]) o
     have o:=Hq z c [48,48,48,48] (UInt8.ofNat (48+g)::R) m om A si;(repeat' first|refine ZG ?_|refine Zg fun _=>?_);refine Br.mkY (show (48+((0:Nat):Int))=48 by omega) ?_;(repeat' first|refine ZG ?_|refine Zg fun _=>?_);refine Br.mkY (show (48+((0:Nat):Int))=48 by omega) ?_;(repeat' first|refine ZG ?_|refine Zg fun _=>?_);refine Br.mkY (show (48+((0:Nat):Int))=48 by omega) ?_;(repeat' first|refine ZG ?_|refine Zg fun _=>?_);refine Br.mkY (show (48+((0:Nat):Int))=48 by omega) ?_;(repeat' first|refine ZG ?_|refine Zg fun _=>?_);refine Br.mkN (show ¬(48+(m:Int))=48 by omega) ?_;(apply Br.mk<;>intro)
     ·rename_i f;refine Need.mk (show 1+(gD ((48+(m:Int))::((48+g:Int)::cP R))).length<=140737488355328 by (simp only[gD,cP,kL,cF];omega)) ?_;(conv=>whnf);exact Hp f c (X:=((48+g:Int)::cP R)) (by simp only[fW,mQ]) o
     rename_i f;(conv=>whnf);exact Ho f c (X:=((48+g:Int)::cP R)) (by simp only[fW,mQ]) o
    have o:=Hq z c [48,48,48] (UInt8.ofNat (48+m)::UInt8.ofNat (48+g)::R) s om A si;(repeat' first|refine ZG ?_|refine Zg fun _=>?_);refine Br.mkY (show (48+((0:Nat):Int))=48 by omega) ?_;(repeat' first|refine ZG ?_|refine Zg fun _=>?_);refine Br.mkY (show (48+((0:Nat):Int))=48 by omega) ?_;(repeat' first|refine ZG ?_|refine Zg fun _=>?_);refine Br.mkY (show (48+((0:Nat):Int))=48 by omega) ?_;(repeat' first|refine ZG ?_|refine Zg fun _=>?_);refine Br.mkN (show ¬(48+(s:Int))=48 by omega) ?_;(apply Br.mk<;>intro)
    ·rename_i f;refine Need.mk (show 1+(gD ((48+(s:Int))::((48+m:Int)::(48+g:Int)::cP R))).length<=140737488355328 by (simp only[gD,cP,kL,cF];omega)) ?_;(conv=>whnf);exact Hp f c (X:=((48+m:Int)::(48+g:Int)::cP R)) (by simp only[fW,mQ]) o
    rename_i f;(conv=>whnf);exact Ho f c (X:=((48+m:Int)::(48+g:Int)::cP R)) (by simp only[fW,mQ]) o
   have o:=Hq z c [48,48] (UInt8.ofNat (48+s)::UInt8.ofNat (48+m)::UInt8.ofNat (48+g)::R) u om A si;(repeat' first|refine ZG ?_|refine Zg fun _=>?_);refine Br.mkY (show (48+((0:Nat):Int))=48 by omega) ?_;(repeat' first|refine ZG ?_|refine Zg fun _=>?_);refine Br.mkY (show (48+((0:Nat):Int))=48 by omega) ?_;(repeat' first|refine ZG ?_|refine Zg fun _=>?_);refine Br.mkN (show ¬(48+(u:Int))=48 by omega) ?_;(apply Br.mk<;>intro)
   ·rename_i f;refine Need.mk (show 1+(gD ((48+(u:Int))::((48+s:Int)::(48+m:Int)::(48+g:Int)::cP R))).length<=140737488355328 by (simp only[gD,cP,kL,cF];omega)) ?_;(conv=>whnf);exact Hp f c (X:=((48+s:Int)::(48+m:Int)::(48+g:Int)::cP R)) (by simp only[fW,mQ]) o
   rename_i f;(conv=>whnf);exact Ho f c (X:=((48+s:Int)::(48+m:Int)::(48+g:Int)::cP R)) (by simp only[fW,mQ]) o
  have o:=Hq z c [48] (UInt8.ofNat (48+u)::UInt8.ofNat (48+s)::UInt8.ofNat (48+m)::UInt8.ofNat (48+g)::R) y om A si;(repeat' first|refine ZG ?_|refine Zg fun _=>?_);refine Br.mkY (show (48+((0:Nat):Int))=48 by omega) ?_;(repeat' first|refine ZG ?_|refine Zg fun _=>?_);refine Br.mkN (show ¬(48+(y:Int))=48 by omega) ?_;(apply Br.mk<;>intro)
  ·rename_i f;refine Need.mk (show 1+(gD ((48+(y:Int))::((48+u:Int)::(48+s:Int)::(48+m:Int)::(48+g:Int)::cP R))).length<=140737488355328 by (simp only[gD,cP,kL,cF];omega)) ?_;(conv=>whnf);exact Hp f c (X:=((48+u:Int)::(48+s:Int)::(48+m:Int)::(48+g:Int)::cP R)) (by simp only[fW,mQ]) o
  rename_i f;(conv=>whnf);exact Ho f c (X:=((48+u:Int)::(48+s:Int)::(48+m:Int)::(48+g:Int)::cP R)) (by simp only[fW,mQ]) o
 have o:=Hq z c [] (UInt8.ofNat (48+y)::UInt8.ofNat (48+u)::UInt8.ofNat (48+s)::UInt8.ofNat (48+m)::UInt8.ofNat (48+g)::R) F om A si;(repeat' first|refine ZG ?_|refine Zg fun _=>?_);refine Br.mkN (show ¬(48+(F:Int))=48 by omega) ?_;(apply Br.mk<;>intro)
 ·rename_i f;refine Need.mk (show 1+(gD ((48+(F:Int))::((48+y:Int)::(48+u:Int)::(48+s:Int)::(48+m:Int)::(48+g:Int)::cP R))).length<=140737488355328 by (simp only[gD,cP,kL,cF];omega)) ?_;(conv=>whnf);exact Hp f c (X:=((48+y:Int)::(48+u:Int)::(48+s:Int)::(48+m:Int)::(48+g:Int)::cP R)) (by simp only[fW,mQ]) o
 rename_i f;(conv=>whnf);exact Ho f c (X:=((48+y:Int)::(48+u:Int)::(48+s:Int)::(48+m:Int)::(48+g:Int)::cP R)) (by simp only[fW,mQ]) o
theorem UU:aM Tp P9:=by
 refine kO func227 fun args K h=>?_;simp only[P9] at h;split at h
 ·rename_i p c a;exact ⟨_,h.go,gH func227 ntmps227 si (WZ p c a h.ok)⟩
 ·rename_i a;refine ⟨_,h.go,?_⟩;have e:=gH func227 ntmps227 si (WZ False inferInstance a h.ok);refine Ny (args:=[.agg [.bl False inferInstance,Ls a]]) e ⟨⟨fun h=>h,?_,trivial⟩,trivial⟩;rfl
 cases h
theorem k86:aM Tp W8:=by
 refine kO func208 fun c K h=>?_;simp only[W8] at h;split at h
 ·rename_i a b;exact ⟨_,h,gH func208 ntmps208 (by simp[UX,U1,WN,U2,k113,UU]) (b86 a b)⟩
 cases h
def c44:Con:=aV 189 true fun args K=>match args with | [.str s]=>K (I (dD s)) | _=>False
theorem X1:aM Tp c44:=by
 refine kO func189 fun c K h=>?_;simp only[c44] at h;split at h
 ·rename_i s;exact ⟨_,h,gH func189 ntmps189 (by simp[X0,k83,YI,k84,k86]) (b44 s)⟩
 cases h
def badQ (s:Bx):Prop:=60<s.length\/dD s≠0
instance (s:Bx):Decidable (badQ s):=Cp
def fineL (l:List (Bx)):Prop:=∀a∈l,a.length<=60/\dD a=0
instance (l:List (Bx)):Decidable (fineL l):=Cp
end RB
end
